/- The walks of package body. -/
import Derived.Test.YtjponbpdlioocaaNumber
import Derived.Test.YtjponbpdlioocaaSmall
import Derived.Test.YtjponbpdlioocaaBodyP
import Derived.Test.YtjponbpdlioocaaIdxAny
import Derived.Deep.RegionWith
import Derived.Deep.QuietTactic
import Derived.BigQuiet
set_option linter.all false
namespace Go.Proofs.Ytjponbpdlioocaa
open Go.RowKit Wf
attribute [local go_sem] ex_list app_list get_list

set_option maxHeartbeats 400000 in
theorem body_hex (n : Nat) (w : World) (hn : n ≤ 1000000000) :
    Calls Try.prog 15 #[.int .i64 n] w fun e w' => e = .returned (Value.string ⟨List.toArray (hexS n)⟩) ∧ w = w' := by
  go_enter Try.func15, Try.ntmps15
  go_wp2
  go_loop [0, 3] (fun t i => ∃ (k : Nat) (l : Bytes), k + l.length ≤ n ∧ t = .int .i64 k ∧ i = (Value.string ⟨List.toArray (l)⟩) ∧ hexS k ++ l = hexS n) (fun t i => (intOf t).toNat)
  case atStart => exact ⟨n, [], by simp, rfl, rfl, by simp⟩
  case round =>
    obtain ⟨k, l, hk, rfl, rfl, heq⟩ := hrel
    have Heq := hid heq
    clear heq
    by_cases h0 : 0 < k
    · go_wp2
      go_round
      case rel => exact ⟨k / 16, hexDig (k % 16) :: l, by simp; omega, by go_num, by rw [hex_at]; rfl, hex_next h0 Heq.out⟩
      case measure => simp [intOf]; omega
    · go_wp2
      go_ret
      exact ⟨ret_str (by have := Heq.out; rw [show k = 0 by omega, hexS_zero] at this; simpa using this), rfl⟩
set_option maxHeartbeats 400000 in
theorem body_Encode (s : Bytes) (size : Int) (w : World) (hs : s.length ≤ 1000000) (h1 : -9223372036854775808 ≤ size) (h2 : size ≤ 9223372036854775807) :
    Calls Try.prog 8 #[(Value.string ⟨List.toArray (s)⟩), .int .i64 size] w fun e w' => e = .returned (Value.string ⟨List.toArray (encode size s)⟩) ∧ Below w.heap.size w w' := by
  go_enter Try.func8, Try.ntmps8
  go_wp2
  go_loopw [0] (fun v wr => ∃ s' acc : Bytes, v = (Value.string ⟨List.toArray (s')⟩) ∧ s'.length ≤ s.length ∧ Bld w.heap.size acc wr ∧ Below w.heap.size w wr ∧ acc.length + 100 * s'.length ≤ 100 * s.length ∧ acc ++ encode size s' = encode size s) (fun v _ => sLen v)
  case atStart => exact ⟨s, [], rfl, by omega, Bld.fresh w, (Below.refl _ _).alloc (Nat.le_refl _) _, by simp, by simp⟩
  case round =>
    obtain ⟨s', acc, rfl, hs', hb, hw, hl, heq⟩ := hrel
    have Heq := hid heq
    clear heq
    have Hb := hid hb
    have Hw := hid hw
    clear hb hw
    cases hn : s'.isEmpty
    · have hne : s' ≠ [] := by rintro rfl; simp at hn
      obtain ⟨hp1, hp2⟩ := chunkLen_pos (size := size) hne
      have hcl : min (max size 1) (s'.length : Int) = (chunkLen size s' : Int) := by unfold chunkLen; omega
      have hnx := encode_next (size := size) hne Heq.out
      clear Heq
      generalize chunkLen size s' = n at *
      have hxl := hexS_length n
      have Hnx := hid hnx
      have Hcl := hid hcl
      clear hcl hnx hne
      go_wp2
      rw [Hcl.out]
      go_region_with (first
        | (go_at_call 15; refine (body_hex _ _ (by omega)).mono ?_; rintro e w' ⟨rfl, rfl⟩)
        | (go_at_call 11; refine (builder_WriteString _ acc _ _ (by exact Hb.out) (by simp; omega)).mono ?_; rintro e w' ⟨rfl, hb1, hb2, hb3⟩))
      go_wp2
      go_roundw
      case rel => exact ⟨s'.drop n, _, rfl, by simp; omega, hb1, Hw.out.drew.trans hb2, by simp; omega, Hnx.out⟩
      case measure => simp [sLen_mk]; omega
    · have hne : s' = [] := by simpa using hn
      go_wp2_with (first
        | (go_at_call 11; refine (builder_WriteString _ acc _ _ Hb.out (by simp; omega)).mono ?_; rintro e w' ⟨rfl, hb1, hb2, hb3⟩)
        | (go_at_call 14; refine (builder_String _ _ _ (by assumption)).mono ?_; rintro e w2 ⟨rfl, hb4, hb5, hb6⟩))
      go_ret
      refine ⟨ret_str ?_, (Hw.out.trans (hb2.trans hb5))⟩
      have := Heq.out
      rw [hne, encode_nil] at this
      exact this


set_option maxHeartbeats 400000 in
theorem chunks_newline (cb : Nat) (r : Bytes) (n : Int) (w : World) (hr : r.length ≤ 4000000000) (hc : w.heap[cb]? = some (.cells #[(Value.string ⟨List.toArray (r)⟩), .int .u64 n] 38 (0, 0))) :
    Calls Try.prog 12 #[.pointer (some ⟨cb, 0, none⟩)] w fun e w' => e = .returned (.int .i64 (newline r).1) ∧ w'.heap[cb]? = some (.cells #[(Value.string ⟨List.toArray ((newline r).2)⟩), .int .u64 n] 38 (0, 0)) ∧ Fr (· = cb) w w' := by
  have hc0 : w.cell? ⟨cb, 0, none⟩ = some (Value.string ⟨List.toArray (r)⟩) := Lib.cell_of_heap hc 0
  have hf := Lib.frozen_of_heap hc 0
  have Hc := hid hc
  clear hc
  rcases newline_cases r with ⟨t, rfl⟩ | rfl | rfl | ⟨h1, h2, h3, h4⟩
  · have hp : Lib.hasPrefix (13 :: 10 :: t) [13, 10] = true := rfl
    simp at hr
    go_enter Try.func12, Try.ntmps12
    go_wp2_with (go_at_call 20; refine (Try.strings_HasPrefix _ _ _).mono ?_; rintro e w' ⟨rfl, rfl⟩)
    go_ret
    exact ⟨rfl, heap_set Hc.out _, Fr.set1 _ _⟩
  · have hp : Lib.hasPrefix [] [13, 10] = false := rfl
    go_enter Try.func12, Try.ntmps12
    go_wp2_with (go_at_call 20; refine (Try.strings_HasPrefix _ _ _).mono ?_; rintro e w' ⟨rfl, rfl⟩)
    go_ret
    exact ⟨rfl, Hc.out, Fr.refl _ _⟩
  · have hp : Lib.hasPrefix [13] [13, 10] = false := rfl
    go_enter Try.func12, Try.ntmps12
    go_wp2_with (go_at_call 20; refine (Try.strings_HasPrefix _ _ _).mono ?_; rintro e w' ⟨rfl, rfl⟩)
    go_ret
    exact ⟨rfl, Hc.out, Fr.refl _ _⟩
  · have H4 := hid h4
    clear h4
    go_enter Try.func12, Try.ntmps12
    go_wp2_with (go_at_call 20; refine (Try.strings_HasPrefix _ _ _).mono ?_; rintro e w' ⟨rfl, rfl⟩)
    go_ret
    rw [H4.out]
    exact ⟨rfl, Hc.out, Fr.refl _ _⟩

set_option maxHeartbeats 400000 in
theorem chunks_line (cb : Nat) (r : Bytes) (n : Int) (w : World) (hr : r.length ≤ 4000000000) (hc : w.heap[cb]? = some (.cells #[(Value.string ⟨List.toArray (r)⟩), .int .u64 n] 38 (0, 0))) :
    Calls Try.prog 13 #[.pointer (some ⟨cb, 0, none⟩)] w fun e w' => e = .returned (.tuple #[(Value.string ⟨List.toArray (r.take (pre isNL r))⟩), .int .i64 (newline (r.drop (pre isNL r))).1]) ∧ w'.heap[cb]? = some (.cells #[(Value.string ⟨List.toArray ((newline (r.drop (pre isNL r))).2)⟩), .int .u64 n] 38 (0, 0)) ∧ Fr (· = cb) w w' := by
  have hc0 : w.cell? ⟨cb, 0, none⟩ = some (Value.string ⟨List.toArray (r)⟩) := Lib.cell_of_heap hc 0
  have hf := Lib.frozen_of_heap hc 0
  have Hc := hid hc
  have hix : Lib.indexAny r [13, 10] = if pre isNL r < r.length then (pre isNL r : Int) else -1 := indexAny_pre r [13, 10]
  have hle := pre_le isNL r
  have Hix := hid hix
  clear hc hix
  go_enter Try.func13, Try.ntmps13
  go_wp2_with fail
  refine (strings_IndexAny _ _ _ (by decide) (by decide) (by decide) (by omega)).mono ?_
  rintro e w1 ⟨rfl, hb1⟩
  rw [Hix.out]
  have hc1 : w1.cell? ⟨cb, 0, none⟩ = some (Value.string ⟨List.toArray (r)⟩) := (hb1.cell (heap_lt Hc.out)).trans hc0
  have hf1 : w1.frozen? ⟨cb, 0, none⟩ = false := (hb1.frozen (heap_lt Hc.out)).trans hf
  have Hc1 := hid ((hb1.block cb (heap_lt Hc.out)).trans Hc.out)
  have Hb1 := hid hb1
  clear hc0 hf hb1
  by_cases hlt : pre isNL r < r.length
  · rw [if_pos hlt]
    go_wp2_with (go_at_call 12; refine (chunks_newline cb (r.drop (pre isNL r)) n _ (by simp; omega) (by exact heap_set Hc1.out _)).mono ?_; rintro e w2 ⟨rfl, hc2, hf2⟩)
    go_ret2
    exact ⟨rfl, hc2, ((Fr.of_below Hb1.out (fun k h1 h2 => by omega)).trans (Fr.set1 _ _)).trans hf2⟩
  · have hd : r.drop (pre isNL r) = [] := List.drop_of_length_le (by omega)
    have ht : r.take (pre isNL r) = r := List.take_of_length_le (by omega)
    have Hd := hid hd
    have Ht := hid ht
    clear hd ht
    rw [if_neg hlt]
    go_wp2_with (go_at_call 12; refine (chunks_newline cb [] n _ (by simp) (by exact heap_set Hc1.out _)).mono ?_; rintro e w2 ⟨rfl, hc2, hf2⟩)
    go_ret2
    rw [Hd.out, Ht.out]
    exact ⟨rfl, hc2, ((Fr.of_below Hb1.out (fun k h1 h2 => by omega)).trans (Fr.set1 _ _)).trans hf2⟩

end Go.Proofs.Ytjponbpdlioocaa
