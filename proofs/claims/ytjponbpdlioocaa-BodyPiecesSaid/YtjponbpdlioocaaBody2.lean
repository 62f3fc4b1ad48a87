/- The walks of package body: size lines, chunked bodies. -/
import Derived.Test.YtjponbpdlioocaaBody
set_option linter.all false
namespace Go.Proofs.Ytjponbpdlioocaa
open Go.RowKit Wf
attribute [local go_sem] ex_list app_list get_list

set_option maxHeartbeats 1000000 in
theorem chunks_sizes (cb : Nat) (r : Bytes) (n : Nat) (w : World) (hr : r.length ≤ 4000000000) (hc : w.heap[cb]? = some (.cells #[(Value.string ⟨List.toArray (r)⟩), .int .u64 n] 38 (0, 0))) :
    Calls Try.prog 9 #[.pointer (some ⟨cb, 0, none⟩)] w fun e w' => e = .returned (.int .i64 (sizes r n).1) ∧ w'.heap[cb]? = some (.cells #[(Value.string ⟨List.toArray ((sizes r n).2.2)⟩), .int .u64 (sizes r n).2.1] 38 (0, 0)) ∧ Fr (· = cb) w w' := by
  have hc0 : w.cell? ⟨cb, 0, none⟩ = some (Value.string ⟨List.toArray (r)⟩) := Lib.cell_of_heap hc 0
  have Hc := hid hc
  have hle := pre_le (fun c => !isHex c) r
  change hexLen r ≤ r.length at hle
  clear hc
  go_enter Try.func9, Try.ntmps9
  go_wp2_with fail
  go_loop [3] (fun i => ∃ k : Nat, k ≤ hexLen r ∧ i = .int .i64 k) (fun i => hexLen r - (intOf i).toNat)
  case atStart => exact ⟨0, by omega, rfl⟩
  case round =>
    obtain ⟨k, hk, rfl⟩ := hrel
    by_cases hlt : k < hexLen r
    · have hx : isHex r[k] = true := by have := pre_get (p := fun c => !isHex c) hlt (by omega); simpa using this
      go_wp2_with (go_at_call 16; refine (ascii_IsHex _ _).mono ?_; rintro e w' ⟨rfl, rfl⟩)
      go_round
      case rel => exact ⟨k + 1, by omega, by go_num⟩
      case measure => simp [intOf]; omega
    · obtain rfl : k = hexLen r := by omega
      clear hk hlt
      by_cases hend : hexLen r = r.length
      · have hb1 : ((hexLen r : Int) == (r.length : Int)) = true := by simp [hend]
        have Hs := hid (show sizes r n = (191, n, r) by unfold sizes; rw [if_pos hend])
        go_wp2_with (go_at_call 16; refine (ascii_IsHex _ _).mono ?_; rintro e w' ⟨rfl, rfl⟩)
        go_ret
        rw [Hs.out]
        exact ⟨rfl, Hc.out, Fr.refl _ _⟩
      · have hln : hexLen r < r.length := by omega
        have hb1 : ((hexLen r : Int) == (r.length : Int)) = false := beq_eq_false_iff_ne.2 (by omega)
        have hx : isHex r[hexLen r] = false := by
          have h := pre_at (p := fun c => !isHex c) (l := r) hln
          simp only [Bool.not_eq_true'] at h
          exact h
        clear hend
        have Hsep := hid (sepAt_get hln)
        by_cases hz : hexLen r = 0
        · have Hs := hid (show sizes r n = (190, n, r) by unfold sizes; rw [if_neg (by omega), if_pos (Or.inl hz)])
          have hb2 : ((hexLen r : Int) == 0) = true := by simp [hz]
          clear hz
          go_wp2_with (go_at_call 16; refine (ascii_IsHex _ _).mono ?_; rintro e w' ⟨rfl, rfl⟩)
          go_ret
          rw [Hs.out]
          exact ⟨rfl, Hc.out, Fr.refl _ _⟩
        · have hb2 : ((hexLen r : Int) == 0) = false := beq_eq_false_iff_ne.2 (by omega)
          have hix := semi_at r[hexLen r]
          cases hsep : sepAt r
          · have Hs := hid (show sizes r n = (190, n, r) by unfold sizes; rw [if_neg (by omega), if_pos (Or.inr hsep)])
            have hi : Lib.indexByte [59, 13] r[hexLen r] = -1 := by
              rw [hix]; have := Hsep.out; rw [hsep] at this; simp at this; rw [if_neg (by simp_all), if_neg (by simp_all)]
            have Hi := hid hi
            clear hi hix hsep
            go_wp2_with (first
              | (go_at_call 16; refine (ascii_IsHex _ _).mono ?_; rintro e w' ⟨rfl, rfl⟩)
              | (go_at_call 17; refine (s_IndexByte _ _ _).mono ?_; rintro e w' ⟨rfl, rfl⟩; rw [Hi.out]))
            go_ret
            rw [Hs.out]
            exact ⟨rfl, Hc.out, Fr.refl _ _⟩
          · have hi : ¬ Lib.indexByte [59, 13] r[hexLen r] < 0 := by
              rw [hix]; have := Hsep.out; rw [hsep] at this; simp at this
              rcases this with h | h
              · rw [if_pos h]; decide
              · rw [h]; decide
            have Hs := hid (show sizes r n = if (newline (r.drop (pre isNL r))).1 = 0 then (0, sizeOf' r (hexLen r), (newline (r.drop (pre isNL r))).2) else ((newline (r.drop (pre isNL r))).1, n, (newline (r.drop (pre isNL r))).2) by
              unfold sizes; rw [if_neg (by omega), if_neg (by simp [hz, hsep])])
            clear hix hsep hz
            by_cases he : (newline (r.drop (pre isNL r))).1 = 0
            · have Hs2 := hid (Hs.out.trans (if_pos he))
              have he2 : ((newline (r.drop (pre isNL r))).1 != 0) = false := by simp [he]
              clear he
              have hso : sizeOf' r (hexLen r) = if (numParse isHex 16 4611686018427387904 (r.take (hexLen r))).2 = 0 then (numParse isHex 16 4611686018427387904 (r.take (hexLen r))).1 else 4611686018427387904 := rfl
              generalize hnp : numParse isHex 16 4611686018427387904 (r.take (hexLen r)) = np at hso
              have Hnp := hid hnp
              have Hso := hid hso
              clear hnp hso
              by_cases he3 : np.2 = 0
              · have Hso2 := hid (Hso.out.trans (if_pos he3))
                have he4 : (np.2 != 0) = false := by simp [he3]
                clear he3
                go_wp2_with (first
                  | (go_at_call 16; refine (ascii_IsHex _ _).mono ?_; rintro e w' ⟨rfl, rfl⟩)
                  | (go_at_call 17; refine (s_IndexByte _ _ _).mono ?_; rintro e w' ⟨rfl, rfl⟩)
                  | (go_at_call 18; refine (number_Hex62 _ _ (by simp; omega)).mono ?_; rintro e w3 ⟨rfl, hw3⟩; subst hw3; rw [Hnp.out])
                  | (go_at_call 13; refine (chunks_line cb r n _ hr Hc.out).mono ?_; rintro e w2 ⟨rfl, hc2, hf2⟩; have hk2 := Lib.cell_of_heap hc2 1; have hz2 := Lib.frozen_of_heap hc2 1; replace hc2 := hid hc2))
                go_ret
                rw [Hs2.out, Hso2.out]
                exact ⟨rfl, heap_set hc2.out _, hf2.trans (Fr.set1 _ _)⟩
              · have Hso2 := hid (Hso.out.trans (if_neg he3))
                have he4 : (np.2 != 0) = true := by simp [he3]
                clear he3
                go_wp2_with (first
                  | (go_at_call 16; refine (ascii_IsHex _ _).mono ?_; rintro e w' ⟨rfl, rfl⟩)
                  | (go_at_call 17; refine (s_IndexByte _ _ _).mono ?_; rintro e w' ⟨rfl, rfl⟩)
                  | (go_at_call 18; refine (number_Hex62 _ _ (by simp; omega)).mono ?_; rintro e w3 ⟨rfl, hw3⟩; subst hw3; rw [Hnp.out])
                  | (go_at_call 13; refine (chunks_line cb r n _ hr Hc.out).mono ?_; rintro e w2 ⟨rfl, hc2, hf2⟩; have hk2 := Lib.cell_of_heap hc2 1; have hz2 := Lib.frozen_of_heap hc2 1; replace hc2 := hid hc2))
                go_ret
                rw [Hs2.out, Hso2.out]
                exact ⟨rfl, heap_set hc2.out _, hf2.trans (Fr.set1 _ _)⟩
            · have Hs2 := hid (Hs.out.trans (if_neg he))
              have he2 : ((newline (r.drop (pre isNL r))).1 != 0) = true := by simp [he]
              clear he
              go_wp2_with (first
                | (go_at_call 16; refine (ascii_IsHex _ _).mono ?_; rintro e w' ⟨rfl, rfl⟩)
                | (go_at_call 17; refine (s_IndexByte _ _ _).mono ?_; rintro e w' ⟨rfl, rfl⟩)
                | (go_at_call 13; refine (chunks_line cb r n _ hr Hc.out).mono ?_; rintro e w2 ⟨rfl, hc2, hf2⟩))
              go_ret
              rw [Hs2.out]
              exact ⟨rfl, hc2, hf2⟩

end Go.Proofs.Ytjponbpdlioocaa
