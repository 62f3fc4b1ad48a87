/- The walks of the reference of package host: hosts, ports, texts. -/
import Derived.Test.YtnpkjglcbolcbaaGreatDoorRefHost
set_option linter.all false
namespace Go.Proofs.YtnpkjglcbolcbaaGreatDoor
open Go.RowKit Go.Sort Wf
attribute [local go_sem] ex_list app_list get_list

set_option maxHeartbeats 1000000 in
theorem ref05_Host (s : Bytes) (w : World) (hs : s.length ≤ 1000000000) :
    Calls Tryz.prog 126 #[(Value.string ⟨List.toArray (s)⟩)] w fun e w' => e = .returned (.tuple #[(Value.string ⟨List.toArray ((hostM s).1)⟩), .int .i64 (hostM s).2]) ∧ Below w.heap.size w w' := by
  cases h1 : s.isEmpty
  · by_cases h2 : 253 < s.length
    · have Hq := hid (show hostM s = ([], 5) by unfold hostM; simp [h1, h2])
      go_enter Tryz.func126, Tryz.ntmps126
      go_wp2_with fail
      go_ret2
      rw [Hq.out]
      exact ⟨rfl, Below.refl _ _⟩
    · cases h3 : ipv4 s
      · cases h4 : nameOk s
        · have Hq := hid (show hostM s = ([], 50) by unfold hostM; simp [h1, h2, h3, h4])
          go_enter Tryz.func126, Tryz.ntmps126
          go_wp2_with (first
            | (go_at_call 152; refine (ref05_IsIPv4 _ _ hs).mono ?_; rintro e w1 ⟨rfl, hw1⟩)
            | (go_at_call 172; refine (ref05_name _ _ hs).mono ?_; rintro e w2 ⟨rfl, hw2⟩))
          go_ret2
          rw [Hq.out]
          exact ⟨rfl, below_all ‹_› ‹_›⟩
        · have Hq := hid (show hostM s = (lower s, 0) by unfold hostM; simp [h1, h2, h3, h4])
          go_enter Tryz.func126, Tryz.ntmps126
          go_wp2_with (first
            | (go_at_call 152; refine (ref05_IsIPv4 _ _ hs).mono ?_; rintro e w1 ⟨rfl, hw1⟩)
            | (go_at_call 172; refine (ref05_name _ _ hs).mono ?_; rintro e w2 ⟨rfl, hw2⟩)
            | (go_at_call 104; refine (ref01_Lower _ _ (by omega)).mono ?_; rintro e w3 ⟨rfl, hw3⟩))
          go_ret2
          rw [Hq.out]
          exact ⟨rfl, below_all (below_all hw1 hw2) hw3⟩
      · have Hq := hid (show hostM s = (lower s, 0) by unfold hostM; simp [h1, h2, h3])
        go_enter Tryz.func126, Tryz.ntmps126
        go_wp2_with (first
          | (go_at_call 152; refine (ref05_IsIPv4 _ _ hs).mono ?_; rintro e w1 ⟨rfl, hw1⟩)
          | (go_at_call 104; refine (ref01_Lower _ _ (by omega)).mono ?_; rintro e w3 ⟨rfl, hw3⟩))
        go_ret2
        rw [Hq.out]
        exact ⟨rfl, below_all hw1 hw3⟩
  · have Hq := hid (show hostM s = ([], 3) by unfold hostM; simp [h1])
    go_enter Tryz.func126, Tryz.ntmps126
    go_wp2_with fail
    go_ret2
    rw [Hq.out]
    exact ⟨rfl, Below.refl _ _⟩
set_option maxHeartbeats 400000 in
theorem ref05_Port (s : Bytes) (w : World) (hs : s.length ≤ 9223372036854775807) :
    Calls Tryz.prog 127 #[(Value.string ⟨List.toArray (s)⟩)] w fun e w' => e = .returned (.tuple #[.int .i64 (portM s).1, .int .i64 (portM s).2]) ∧ w = w' := by
  have hle := numStrict_le 65535 s
  have hq : portM s = if (numStrict 65535 s).2 ≠ 0 ∨ (numStrict 65535 s).1 = 0 then (0, 51) else (((numStrict 65535 s).1 : Int), 0) := rfl
  have hc := ref04_Strict s 65535 w (by omega) (by omega)
  generalize numStrict 65535 s = np at hle hq hc
  obtain ⟨n, e⟩ := np
  simp only at hle hq hc
  have Hc := hid hc
  clear hc
  by_cases he : e = 0
  · subst he
    by_cases hn : n = 0
    · rw [if_pos (Or.inr hn)] at hq
      have Hq := hid hq
      have hx : ((n : Int) == 0) = true := by simp [hn]
      clear hq hn
      go_enter Tryz.func127, Tryz.ntmps127
      go_wp2_with fail
      refine Hc.out.mono ?_
      rintro e w' ⟨rfl, rfl⟩
      go_wp2_with fail
      go_ret2
      rw [Hq.out]
      exact ⟨rfl, rfl⟩
    · rw [if_neg (by simp [hn])] at hq
      have Hq := hid hq
      have hx : ((n : Int) == 0) = false := by simp [hn]
      clear hq hn
      go_enter Tryz.func127, Tryz.ntmps127
      go_wp2_with fail
      refine Hc.out.mono ?_
      rintro e w' ⟨rfl, rfl⟩
      go_wp2_with fail
      go_ret2
      rw [Hq.out]
      exact ⟨rfl, rfl⟩
  · rw [if_pos (Or.inl he)] at hq
    have Hq := hid hq
    have hx : (e != 0) = true := by simp [he]
    clear hq
    go_enter Tryz.func127, Tryz.ntmps127
    go_wp2_with fail
    refine Hc.out.mono ?_
    rintro e w' ⟨rfl, rfl⟩
    go_wp2_with fail
    go_ret2
    rw [Hq.out]
    exact ⟨rfl, rfl⟩
set_option maxHeartbeats 1000000 in
theorem ref05_Parse (s : Bytes) (w : World) (hs : s.length ≤ 1000000000) :
    Calls Tryz.prog 70 #[(Value.string ⟨List.toArray (s)⟩)] w fun e w' => e = .returned (.tuple #[.agg #[(Value.string ⟨List.toArray ((hostPort s).1.1)⟩), .int .i64 (hostPort s).1.2], .int .i64 (hostPort s).2]) ∧ Below w.heap.size w w' := by
  have hpre : pre (has [58] ·) s = pre (· == 58) s := by congr 1; funext c; simp [has]; exact (Bool.beq_eq_decide_eq _ _).symm
  have hle := pre_le (· == 58) s
  have hq : hostPort s = hostPortOf (hostM (cutC 58 s).1) (cutC 58 s).2.2 (portM (cutC 58 s).2.1) := rfl
  have ha := heap_new w (.cells #[(Value.string ⟨List.toArray ([])⟩), .int .i64 0] 32)
  have hba : Below w.heap.size w (w.alloc (.cells #[(Value.string ⟨List.toArray ([])⟩), .int .i64 0] 32)) := (Below.refl _ _).alloc (Nat.le_refl _) _
  generalize hwa : w.alloc (.cells #[(Value.string ⟨List.toArray ([])⟩), .int .i64 0] 32) = wa at ha hba
  have Ha := hid ha
  have Hba := hid hba
  have Hwa := hid hwa
  have Hpre := hid hpre
  clear ha hba hwa hpre
  by_cases hp : pre (· == 58) s < s.length
  · have hc : cutC 58 s = (s.take (pre (· == 58) s), s.drop (pre (· == 58) s + 1), true) := if_pos hp
    rw [hc] at hq
    simp only at hq
    have hh := fun w => ref05_Host (s.take (pre (· == 58) s)) w (by simp; omega)
    have hpp := fun w => ref05_Port (s.drop (pre (· == 58) s + 1)) w (by simp; omega)
    have hl1 : (s.take (pre (· == 58) s)).length ≤ s.length := by rw [List.length_take]; omega
    generalize hostM (s.take (pre (· == 58) s)) = H at hq hh
    generalize portM (s.drop (pre (· == 58) s + 1)) = P at hq hpp
    obtain ⟨h, e⟩ := H
    obtain ⟨p, f⟩ := P
    simp only at hh hpp
    have Hh := hid hh
    have Hp := hid hpp
    have hkne : ((pre (· == 58) s : Int) == (s.length : Int)) = false := beq_eq_false_iff_ne.2 (by omega)
    clear hh hpp hc
    generalize pre (· == 58) s = k at Hh Hp hkne hp hle Hpre hl1
    by_cases he : e = 0
    · subst he
      by_cases hf : f = 0
      · subst hf
        by_cases h443 : p = 443
        · have Hq := hid (show hostPort s = ((h, 0), 0) by rw [hq]; unfold hostPortOf; simp [h443])
          have hx : (p == 443) = true := by simp [h443]
          clear hq h443
          go_enter Tryz.func70, Tryz.ntmps70
          go_wp2_with fail
          rw [Hwa.out]
          go_wp2_with fail
          refine (ref01_Index s [58] _ (by omega) (by decide)).mono ?_
          rintro e w1 ⟨rfl, rfl⟩
          rw [Hpre.out]
          go_wp2_with fail
          refine (Hh.out _).mono ?_
          rintro e w2 ⟨rfl, hw2⟩
          have Ha2 := hid ((hw2.block _ (heap_lt Ha.out)).trans Ha.out)
          have Hw2 := hid (below_all Hba.out hw2)
          clear hw2
          have hlt := heap_lt Ha2.out
          have c0 := Lib.cell_of_heap Ha2.out 0
          have c1 := Lib.cell_of_heap Ha2.out 1
          have z0 := Lib.frozen_of_heap Ha2.out 0
          have z1 := Lib.frozen_of_heap Ha2.out 1
          go_wp2_with fail
          go_wp2_with (go_at_call 127; refine (Hp.out _).mono ?_; rintro e w3 ⟨rfl, rfl⟩)
          refine bodyPost_ret (v := .tuple #[.agg #[(Value.string ⟨List.toArray (h)⟩), .int .i64 0], .int .i64 0]) (by simp [results, Tryz.results70, go_sem, c0, c1]) rfl ⟨?_, ?_⟩
          · rw [Hq.out]
          · repeat (first | exact Hw2.out | (refine Below.setCell (p := ⟨_, _, none⟩) ?_ (by simp <;> omega) _) | (refine Below.alloc ?_ (by simp <;> omega) _) | refine Below.drew ?_)
        · have Hq := hid (show hostPort s = ((h, p), 0) by rw [hq]; unfold hostPortOf; simp [h443])
          have hx : (p == 443) = false := by simp [h443]
          clear hq h443
          go_enter Tryz.func70, Tryz.ntmps70
          go_wp2_with fail
          rw [Hwa.out]
          go_wp2_with fail
          refine (ref01_Index s [58] _ (by omega) (by decide)).mono ?_
          rintro e w1 ⟨rfl, rfl⟩
          rw [Hpre.out]
          go_wp2_with fail
          refine (Hh.out _).mono ?_
          rintro e w2 ⟨rfl, hw2⟩
          have Ha2 := hid ((hw2.block _ (heap_lt Ha.out)).trans Ha.out)
          have Hw2 := hid (below_all Hba.out hw2)
          clear hw2
          have hlt := heap_lt Ha2.out
          have c0 := Lib.cell_of_heap Ha2.out 0
          have c1 := Lib.cell_of_heap Ha2.out 1
          have z0 := Lib.frozen_of_heap Ha2.out 0
          have z1 := Lib.frozen_of_heap Ha2.out 1
          go_wp2_with fail
          go_wp2_with (go_at_call 127; refine (Hp.out _).mono ?_; rintro e w3 ⟨rfl, rfl⟩)
          refine bodyPost_ret (v := .tuple #[.agg #[(Value.string ⟨List.toArray (h)⟩), .int .i64 p], .int .i64 0]) (by simp [results, Tryz.results70, go_sem, c0, c1]) rfl ⟨?_, ?_⟩
          · rw [Hq.out]
          · repeat (first | exact Hw2.out | (refine Below.setCell (p := ⟨_, _, none⟩) ?_ (by simp <;> omega) _) | (refine Below.alloc ?_ (by simp <;> omega) _) | refine Below.drew ?_)
      · have Hq := hid (show hostPort s = (([], 0), f) by rw [hq]; unfold hostPortOf; simp [hf])
        have hx : (f != 0) = true := by simp [hf]
        clear hq hf
        go_enter Tryz.func70, Tryz.ntmps70
        go_wp2_with fail
        rw [Hwa.out]
        go_wp2_with fail
        refine (ref01_Index s [58] _ (by omega) (by decide)).mono ?_
        rintro e w1 ⟨rfl, rfl⟩
        rw [Hpre.out]
        go_wp2_with fail
        refine (Hh.out _).mono ?_
        rintro e w2 ⟨rfl, hw2⟩
        have Ha2 := hid ((hw2.block _ (heap_lt Ha.out)).trans Ha.out)
        have Hw2 := hid (below_all Hba.out hw2)
        clear hw2
        have hlt := heap_lt Ha2.out
        have c0 := Lib.cell_of_heap Ha2.out 0
        have c1 := Lib.cell_of_heap Ha2.out 1
        have z0 := Lib.frozen_of_heap Ha2.out 0
        have z1 := Lib.frozen_of_heap Ha2.out 1
        go_wp2_with fail
        go_wp2_with (go_at_call 127; refine (Hp.out _).mono ?_; rintro e w3 ⟨rfl, rfl⟩)
        refine bodyPost_ret (v := .tuple #[.agg #[(Value.string ⟨List.toArray ([])⟩), .int .i64 0], .int .i64 f]) (by simp [results, Tryz.results70, go_sem, c0, c1]) rfl ⟨?_, ?_⟩
        · rw [Hq.out]
        · repeat (first | exact Hw2.out | (refine Below.setCell (p := ⟨_, _, none⟩) ?_ (by simp <;> omega) _) | (refine Below.alloc ?_ (by simp <;> omega) _) | refine Below.drew ?_)
    · have hx : (e != 0) = true := by simp [he]
      have Hq := hid (show hostPort s = (([], 0), e) by rw [hq]; unfold hostPortOf; rw [if_pos he])
      clear hq he
      go_enter Tryz.func70, Tryz.ntmps70
      go_wp2_with fail
      rw [Hwa.out]
      go_wp2_with fail
      refine (ref01_Index s [58] _ (by omega) (by decide)).mono ?_
      rintro e w1 ⟨rfl, rfl⟩
      rw [Hpre.out]
      go_wp2_with fail
      refine (Hh.out _).mono ?_
      rintro e w2 ⟨rfl, hw2⟩
      have Ha2 := hid ((hw2.block _ (heap_lt Ha.out)).trans Ha.out)
      have Hw2 := hid (below_all Hba.out hw2)
      clear hw2
      have hlt := heap_lt Ha2.out
      have c0 := Lib.cell_of_heap Ha2.out 0
      have c1 := Lib.cell_of_heap Ha2.out 1
      have z0 := Lib.frozen_of_heap Ha2.out 0
      have z1 := Lib.frozen_of_heap Ha2.out 1
      go_wp2_with fail
      refine bodyPost_ret (v := .tuple #[.agg #[(Value.string ⟨List.toArray ([])⟩), .int .i64 0], .int .i64 e]) (by simp [results, Tryz.results70, go_sem, c0, c1]) rfl ⟨?_, ?_⟩
      · rw [Hq.out]
      · repeat (first | exact Hw2.out | (refine Below.setCell (p := ⟨_, _, none⟩) ?_ (by simp <;> omega) _) | (refine Below.alloc ?_ (by simp <;> omega) _) | refine Below.drew ?_)
  · have hc : cutC 58 s = (s, [], false) := if_neg hp
    have hk : pre (· == 58) s = s.length := by omega
    rw [hc] at hq
    simp only at hq
    have hh := fun w => ref05_Host s w hs
    generalize hostM s = H at hq hh
    obtain ⟨h, e⟩ := H
    simp only at hh
    have Hh := hid hh
    have Hpre := hid (Hpre.out.trans hk)
    clear hh hk hc
    by_cases he : e = 0
    · subst he
      have Hq := hid (show hostPort s = ((h, 0), 0) from hq)
      clear hq
      go_enter Tryz.func70, Tryz.ntmps70
      go_wp2_with fail
      rw [Hwa.out]
      go_wp2_with fail
      refine (ref01_Index s [58] _ (by omega) (by decide)).mono ?_
      rintro e w1 ⟨rfl, rfl⟩
      rw [Hpre.out]
      go_wp2_with fail
      refine (Hh.out _).mono ?_
      rintro e w2 ⟨rfl, hw2⟩
      have Ha2 := hid ((hw2.block _ (heap_lt Ha.out)).trans Ha.out)
      have Hw2 := hid (below_all Hba.out hw2)
      clear hw2
      have hlt := heap_lt Ha2.out
      have c0 := Lib.cell_of_heap Ha2.out 0
      have c1 := Lib.cell_of_heap Ha2.out 1
      have z0 := Lib.frozen_of_heap Ha2.out 0
      have z1 := Lib.frozen_of_heap Ha2.out 1
      go_wp2_with fail
      refine bodyPost_ret (v := .tuple #[.agg #[(Value.string ⟨List.toArray (h)⟩), .int .i64 0], .int .i64 0]) (by simp [results, Tryz.results70, go_sem, c0, c1]) rfl ⟨?_, ?_⟩
      · rw [Hq.out]
      · repeat (first | exact Hw2.out | (refine Below.setCell (p := ⟨_, _, none⟩) ?_ (by simp <;> omega) _) | (refine Below.alloc ?_ (by simp <;> omega) _) | refine Below.drew ?_)
    · have hx : (e != 0) = true := by simp [he]
      have Hq := hid (show hostPort s = (([], 0), e) by rw [hq]; unfold hostPortOf; rw [if_pos he])
      clear hq he
      go_enter Tryz.func70, Tryz.ntmps70
      go_wp2_with fail
      rw [Hwa.out]
      go_wp2_with fail
      refine (ref01_Index s [58] _ (by omega) (by decide)).mono ?_
      rintro e w1 ⟨rfl, rfl⟩
      rw [Hpre.out]
      go_wp2_with fail
      refine (Hh.out _).mono ?_
      rintro e w2 ⟨rfl, hw2⟩
      have Ha2 := hid ((hw2.block _ (heap_lt Ha.out)).trans Ha.out)
      have Hw2 := hid (below_all Hba.out hw2)
      clear hw2
      have hlt := heap_lt Ha2.out
      have c0 := Lib.cell_of_heap Ha2.out 0
      have c1 := Lib.cell_of_heap Ha2.out 1
      have z0 := Lib.frozen_of_heap Ha2.out 0
      have z1 := Lib.frozen_of_heap Ha2.out 1
      go_wp2_with fail
      refine bodyPost_ret (v := .tuple #[.agg #[(Value.string ⟨List.toArray ([])⟩), .int .i64 0], .int .i64 e]) (by simp [results, Tryz.results70, go_sem, c0, c1]) rfl ⟨?_, ?_⟩
      · rw [Hq.out]
      · repeat (first | exact Hw2.out | (refine Below.setCell (p := ⟨_, _, none⟩) ?_ (by simp <;> omega) _) | (refine Below.alloc ?_ (by simp <;> omega) _) | refine Below.drew ?_)
set_option maxHeartbeats 400000 in
theorem ref04_Format (n : Nat) (w : World) (hn : n ≤ 18446744073709551615) :
    Calls Tryz.prog 146 #[.int .u64 n] w fun e w' => e = .returned (Value.string ⟨List.toArray (decS n)⟩) ∧ Below w.heap.size w w' := by
  have hlen : (decS n).length ≤ 20 := decS_length 19 n (by omega)
  go_enter Tryz.func146, Tryz.ntmps146
  go_wp2_with fail
  go_loopw [0, 3] (fun v o wr => ∃ (k : Nat) (ds : Bytes), v = .int .u64 k ∧ o = (Value.string ⟨List.toArray (ds)⟩) ∧ k ≤ 18446744073709551615 ∧ (decS k).length + ds.length ≤ 20 ∧ decS k ++ ds = decS n ∧ Below w.heap.size w wr) (fun v _ _ => (intOf v).toNat)
  case atStart => exact ⟨n, [], rfl, rfl, hn, by simpa using hlen, by simp, Below.refl _ _⟩
  case round =>
    obtain ⟨k, ds, rfl, rfl, hk, hl, heq, hw⟩ := hrel
    have hrow : ∀ T, RowU8 (wr.alloc (.cells #[.int .u8 (48 + (k : Int) % 10)] T)) wr.heap.size [dig (k % 10)] := fun T =>
      ⟨[], T, (0, 0), by rw [heap_new]; simp only [List.map_cons, List.map_nil, List.append_nil, u8V, digit_toNat (show k % 10 < 10 by omega)]; rfl, Or.inr (by simp)⟩
    have hback := fun T => (hrow T).back 1
    simp only [List.length_cons, List.length_nil, Nat.zero_add] at hback
    have Heq := hid heq
    have Hw := hid hw
    clear heq hw hrow
    by_cases h10 : k < 10
    · have hz : ((k : Int) / 10 == 0) = true := by simp; omega
      have hm : k % 10 = k := by omega
      have Hn := hid (show decS n = dig (k % 10) :: ds by rw [← Heq.out, decS_small h10, hm]; rfl)
      have hll : ds.length ≤ 20 := by omega
      clear hm
      go_wp2_with fail
      go_ret
      refine ⟨ret_str (by rw [Hn.out]), ?_⟩
      exact Hw.out.alloc Hw.out.size _
    · have hz : ((k : Int) / 10 == 0) = false := by simp; omega
      have Hn := hid (show decS (k / 10) ++ dig (k % 10) :: ds = decS n by rw [← Heq.out, decS_big h10]; simp)
      have hl2 := decS_big_length h10
      have Hl2 := hid hl2
      have hll : ds.length ≤ 20 := by omega
      clear hl2
      go_wp2_with fail
      have h1 := Hl2.out
      refine ⟨⟨k / 10, dig (k % 10) :: ds, congrArg (Value.int .u64) (by omega), rfl, by omega, by simp; omega, Hn.out, Hw.out.alloc Hw.out.size _⟩, ?_⟩
      simp [intOf]; omega
set_option maxHeartbeats 400000 in
theorem ref05_Decimal (p : Int) (w : World) (h1 : -9223372036854775808 ≤ p) (h2 : p ≤ 9223372036854775807) :
    Calls Tryz.prog 97 #[.int .i64 p] w fun e w' => e = .returned (Value.string ⟨List.toArray ((if p < 0 then [45] else []) ++ decS p.natAbs)⟩) ∧ Below w.heap.size w w' := by
  have hd := decS_length 19 p.natAbs (by omega)
  by_cases hneg : p < 0
  · rw [if_pos hneg]
    have hp : -(p + 1) + 1 = (p.natAbs : Int) := by omega
    have hnn : p.natAbs ≤ 18446744073709551615 := by omega
    go_enter Tryz.func97, Tryz.ntmps97
    go_wp2_with fail
    clear hp
    go_wp2_with (go_at_call 146; refine (ref04_Format _ _ hnn).mono ?_; rintro e w1 ⟨rfl, hw1⟩)
    go_ret
    exact ⟨rfl, hw1⟩
  · rw [if_neg hneg]
    obtain ⟨n, rfl⟩ := Int.eq_ofNat_of_zero_le (show 0 ≤ p by omega)
    go_enter Tryz.func97, Tryz.ntmps97
    go_wp2_with (go_at_call 146; refine (ref04_Format _ _ (by omega)).mono ?_; rintro e w1 ⟨rfl, hw1⟩)
    go_ret
    exact ⟨rfl, hw1⟩
set_option maxHeartbeats 400000 in
theorem ref05_Format (h : Bytes) (p : Int) (w : World) (hh : h.length ≤ 4611686018427387904) (h1 : -9223372036854775808 ≤ p) (h2 : p ≤ 9223372036854775807) :
    Calls Tryz.prog 74 #[.agg #[(Value.string ⟨List.toArray (h)⟩), .int .i64 p]] w fun e w' => e = .returned (Value.string ⟨List.toArray (hostText h p)⟩) ∧ Below w.heap.size w w' := by
  have ha := heap_new w (.cells #[(Value.string ⟨List.toArray (h)⟩), .int .i64 p] 32)
  have hba : Below w.heap.size w (w.alloc (.cells #[(Value.string ⟨List.toArray (h)⟩), .int .i64 p] 32)) := (Below.refl _ _).alloc (Nat.le_refl _) _
  generalize hwa : w.alloc (.cells #[(Value.string ⟨List.toArray (h)⟩), .int .i64 p] 32) = wa at ha hba
  have hlt := heap_lt ha
  have c0 : wa.cell? ⟨w.heap.size, 0, none⟩ = some (Value.string ⟨List.toArray (h)⟩) := Lib.cell_of_heap ha 0
  have c1 : wa.cell? ⟨w.heap.size, 1, none⟩ = some (.int .i64 p) := Lib.cell_of_heap ha 1
  have Hba := hid hba
  have Hwa := hid hwa
  clear ha hba hwa
  by_cases h0 : p = 0
  · subst h0
    have Hq := hid (show hostText h 0 = h from if_pos rfl)
    go_enter Tryz.func74, Tryz.ntmps74
    go_wp2_with fail
    rw [Hwa.out]
    go_wp2_with fail
    go_ret
    exact ⟨ret_str Hq.out.symm, Hba.out⟩
  · have hx : (p == 0) = false := by simp [h0]
    have hq : hostText h p = h ++ 58 :: ((if p < 0 then [45] else []) ++ decS p.natAbs) := by
      unfold hostText
      rw [if_neg h0]
      split <;> simp
    have hd := decS_length 19 p.natAbs (by omega)
    have hdl : ((if p < 0 then [45] else []) ++ decS p.natAbs).length ≤ 21 := by split <;> simp <;> omega
    have hdc := fun w => ref05_Decimal p w h1 h2
    generalize (if p < 0 then [45] else []) ++ decS p.natAbs = ds at hq hdl hdc
    have Hq := hid hq
    have Hdc := hid hdc
    clear h0 hq hdc hd
    go_enter Tryz.func74, Tryz.ntmps74
    go_wp2_with fail
    rw [Hwa.out]
    go_wp2_with fail
    have n1 : ¬ 9223372036854775807 < h.length + 1 := by omega
    have n2 : ¬ 9223372036854775807 < h.length + 1 + ds.length := by omega
    have k0 := cell_regrown c0
    have k1 := cell_regrown c1
    clear c0 c1 hx
    refine wp_region_quiet_below (by kernel_rfl) (by kernel_rfl) ?_
    repeat (quiet_step ((go_at_call 97; exact Calls.regrown_of (Hdc.out _))))
    refine wpQuiet_nil ?_
    intro _ hw'
    obtain ⟨⟨dq, osq⟩, hw''⟩ := hw'
    subst hw''
    have hbq := below_regrown wa dq osq
    generalize grow (redrawn wa dq) osq = wq at hbq ⊢
    clear n1 n2 k0 k1
    go_wp2_with fail
    go_ret
    exact ⟨ret_str Hq.out.symm, below_all Hba.out hbq⟩
end Go.Proofs.YtnpkjglcbolcbaaGreatDoor
