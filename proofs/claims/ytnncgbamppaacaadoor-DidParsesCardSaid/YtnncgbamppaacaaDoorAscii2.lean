/- The walks of package ascii: strings. -/
import Derived.Test.YtnncgbamppaacaaDoorAscii
import Derived.Test.YtnncgbamppaacaaDoorBytes
set_option linter.all false
namespace Go.Proofs.YtnncgbamppaacaaDoor
open Go.RowKit Wf
attribute [local go_sem] ex_list app_list get_list

set_option maxHeartbeats 400000 in
theorem ascii_Lower (s : Bytes) (w : World) (hs : s.length ≤ 9223372036854775807) :
    Calls Tryd.prog 91 #[(Value.string ⟨List.toArray (s)⟩)] w fun e w' => e = .returned (Value.string ⟨List.toArray (lower s)⟩) ∧ Below w.heap.size w w' := by
  obtain ⟨w1, cap, hconv, hrow, hw1⟩ := conv_bytes w s
  have Hrow := hid hrow
  have Hw1 := hid hw1
  clear hrow hw1
  go_enter Tryd.func91, Tryd.ntmps91
  go_wp2_with fail
  go_loopw [10] (fun i wr => ∃ k : Nat, k ≤ s.length ∧ i = .int .i64 k ∧ RowU8 wr w.heap.size (lowTo k s) ∧ Below w.heap.size w wr) (fun i _ => s.length - (intOf i).toNat)
  case atStart => exact ⟨0, by omega, rfl, by rw [lowTo_zero]; exact Hrow.out, Hw1.out⟩
  case round =>
    obtain ⟨k, hk, rfl, hrow, hw⟩ := hrel
    have Hrow := hid hrow
    have Hw := hid hw
    clear hconv hrow hw
    by_cases hlt : k < s.length
    · have hll := lowTo_length k s
      have hcell := Hrow.out.cell (k := k) (by omega)
      have hfz := Hrow.out.frozen (k := k) (by omega)
      rw [lowTo_get hlt] at hcell
      clear hll
      by_cases hcap : 65 ≤ s[k].toNat ∧ s[k].toNat ≤ 90
      · obtain ⟨hc1, hc2⟩ := hcap
        have hst := Hrow.out.set (k := k) (by rw [lowTo_length]; exact hlt) (lowerC s[k])
        rw [lowTo_set hlt, lowerC_cap hc1 hc2] at hst
        have Hst := hid hst
        clear hst
        go_wp2_with fail
        go_roundw
        case rel => exact ⟨k + 1, by omega, by go_num, Hst.out, Hw.out.setCell (p := ⟨w.heap.size, k, none⟩) (Nat.le_refl _) _⟩
        case measure => simp [intOf]; omega
      · have Hn := hid (lowTo_next hlt (lowerC_no hcap))
        have hor : s[k].toNat < 65 ∨ 90 < s[k].toNat := by omega
        rcases hor with h | h
        all_goals
          go_wp2_with fail
          go_roundw
          case rel => exact ⟨k + 1, by omega, by go_num, Hn.out ▸ Hrow.out, Hw.out⟩
          case measure => simp [intOf]; omega
    · have hl : k = s.length := by omega
      have hrow2 := Hrow.out
      rw [hl, lowTo_all] at hrow2
      have hback := hrow2.back cap
      rw [show (lower s).length = s.length by simp [lower]] at hback
      clear hl hrow2
      go_wp2_with fail
      go_ret
      exact ⟨rfl, Hw.out⟩

set_option maxHeartbeats 400000 in
theorem ascii_every (s : Bytes) (w : World) (hs : s.length ≤ 9223372036854775807) :
    Calls Tryd.prog 119 #[(Value.string ⟨List.toArray (s)⟩), .func (.func 72) #[] #[]] w fun e w' => e = .returned (.bool (s.all isDigit)) ∧ w = w' := by
  go_enter Tryd.func119, Tryd.ntmps119
  go_wp2_with fail
  go_loop [8] (fun i => ∃ k : Nat, k ≤ s.length ∧ i = .int .i64 k ∧ (s.take k).all isDigit = true) (fun i => s.length - (intOf i).toNat)
  case atStart => exact ⟨0, by omega, rfl, rfl⟩
  case round =>
    obtain ⟨k, hk, rfl, hall⟩ := hrel
    have Hall := hid hall
    clear hall
    by_cases hlt : k < s.length
    · cases hc : isDigit s[k]
      · have Ha := hid (all_not hlt hc)
        go_wp2_with (go_at_call 72; refine (ascii_IsDigit _ _).mono ?_; rintro e w' ⟨rfl, rfl⟩)
        go_ret
        exact ⟨ret_bool Ha.out.symm, rfl⟩
      · go_wp2_with (go_at_call 72; refine (ascii_IsDigit _ _).mono ?_; rintro e w' ⟨rfl, rfl⟩)
        go_round
        case rel => exact ⟨k + 1, by omega, by go_num, all_take_snoc hlt Hall.out hc⟩
        case measure => simp [intOf]; omega
    · have hall := Hall.out
      rw [List.take_of_length_le (by omega)] at hall
      have Ha := hid hall
      clear hall Hall
      go_wp2_with fail
      go_ret
      exact ⟨ret_bool Ha.out.symm, rfl⟩
set_option maxHeartbeats 400000 in
theorem ascii_Digits (s : Bytes) (w : World) (hs : s.length ≤ 9223372036854775807) :
    Calls Tryd.prog 109 #[(Value.string ⟨List.toArray (s)⟩)] w fun e w' => e = .returned (.bool (digitsOk s)) ∧ w = w' := by
  cases hn : s.isEmpty
  all_goals
    have Hd := hid (show digitsOk s = (!s.isEmpty && s.all isDigit) from rfl)
    rw [hn] at Hd
    go_enter Tryd.func109, Tryd.ntmps109
    go_wp2_with (go_at_call 119; refine (ascii_every _ _ hs).mono ?_; rintro e w' ⟨rfl, rfl⟩)
    go_ret
    exact ⟨ret_bool (by rw [Hd.out]; simp), rfl⟩
set_option maxHeartbeats 400000 in
theorem ref01_In (c : UInt8) (s : Bytes) (w : World) (hs : s.length ≤ 9223372036854775807) :
    Calls Tryd.prog 50 #[.int .u8 c.toNat, (Value.string ⟨List.toArray (s)⟩)] w fun e w' => e = .returned (.bool (has s c)) ∧ w = w' := by
  go_enter Tryd.func50, Tryd.ntmps50
  go_wp2_with fail
  go_loop [5] (fun i => ∃ k : Nat, k ≤ s.length ∧ i = .int .i64 k ∧ has (s.take k) c = false) (fun i => s.length - (intOf i).toNat)
  case atStart => exact ⟨0, by omega, rfl, rfl⟩
  case round =>
    obtain ⟨k, hk, rfl, hall⟩ := hrel
    have Hall := hid hall
    clear hall
    by_cases hlt : k < s.length
    · by_cases hc : s[k] = c
      · have hx : ((s[k].toNat : Int) == (c.toNat : Int)) = true := by simp [hc]
        have Ha := hid (show has s c = true by unfold has; rw [List.contains_iff_mem]; exact hc ▸ List.getElem_mem hlt)
        go_wp2_with fail
        go_ret
        exact ⟨ret_bool Ha.out.symm, rfl⟩
      · have hx : ((s[k].toNat : Int) == (c.toNat : Int)) = false := by
          rw [beq_eq_false_iff_ne]
          intro h
          exact hc (UInt8.toNat_inj.1 (by omega))
        go_wp2_with fail
        go_round
        case rel => exact ⟨k + 1, by omega, by go_num, by
          have := Hall.out
          unfold has at this ⊢
          rw [List.take_succ_eq_append_getElem hlt, List.contains_eq_any_beq, List.any_append, ← List.contains_eq_any_beq, this]
          simp
          exact fun h => hc h.symm⟩
        case measure => simp [intOf]; omega
    · have hall := Hall.out
      rw [List.take_of_length_le (by omega)] at hall
      have Ha := hid hall
      clear hall Hall
      go_wp2_with fail
      go_ret
      exact ⟨ret_bool Ha.out.symm, rfl⟩
set_option maxHeartbeats 400000 in
theorem ref01_Index (s t : Bytes) (w : World) (hs : s.length ≤ 9223372036854775807) (ht : t.length ≤ 9223372036854775807) :
    Calls Tryd.prog 28 #[(Value.string ⟨List.toArray (s)⟩), (Value.string ⟨List.toArray (t)⟩)] w fun e w' => e = .returned (.int .i64 (pre (has t ·) s)) ∧ w = w' := by
  have hle := pre_le (has t ·) s
  go_enter Tryd.func28, Tryd.ntmps28
  go_wp2_with fail
  go_loop [5] (fun i => ∃ k : Nat, k ≤ pre (has t ·) s ∧ i = .int .i64 k) (fun i => s.length - (intOf i).toNat)
  case atStart => exact ⟨0, by omega, rfl⟩
  case round =>
    obtain ⟨k, hk, rfl⟩ := hrel
    by_cases hlt : k < pre (has t ·) s
    · have hc := pre_get hlt (by omega)
      go_wp2_with (go_at_call 50; refine (ref01_In _ _ _ ht).mono ?_; rintro e w' ⟨rfl, rfl⟩)
      go_round
      case rel => exact ⟨k + 1, by omega, by go_num⟩
      case measure => simp [intOf]; omega
    · obtain rfl : k = pre (has t ·) s := by omega
      clear hk hlt
      by_cases hend : pre (has t ·) s < s.length
      · have hc := pre_at hend
        go_wp2_with (go_at_call 50; refine (ref01_In _ _ _ ht).mono ?_; rintro e w' ⟨rfl, rfl⟩)
        go_ret
        exact ⟨rfl, rfl⟩
      · have he := hid (show pre (has t ·) s = s.length by omega)
        go_wp2_with fail
        go_ret
        exact ⟨ret_int (by rw [he.out]), rfl⟩
end Go.Proofs.YtnncgbamppaacaaDoor
