/- The walks of package host. -/
import Derived.Test.YtnncgbamppaacaaDoorPlain
import Derived.Test.YtnncgbamppaacaaDoorSmall
import Derived.Test.YtnncgbamppaacaaDoorAscii2
import Derived.Test.YtnncgbamppaacaaDoorNumber
set_option linter.all false
namespace Go.Proofs.YtnncgbamppaacaaDoor
open Go.RowKit Wf
attribute [local go_sem] ex_list app_list get_list

theorem labelOk_eq (s : Bytes) (h1 : s.isEmpty = false) (h2 : s.length ≤ 63) (h3 : ¬ s[0]? = some 45) (h4 : ¬ s[s.length - 1]? = some 45) : labelOk s = s.all ldh := by
  unfold labelOk
  rw [List.getLast?_eq_getElem?, List.head?_eq_getElem?]
  simp [h1, h2, h3, h4]

set_option maxHeartbeats 1000000 in
theorem host_label (s : Bytes) (w : World) (hs : s.length ≤ 9223372036854775807) :
    Calls Tryd.prog 108 #[(Value.string ⟨List.toArray (s)⟩)] w fun e w' => e = .returned (.bool (labelOk s)) ∧ w = w' := by
  cases h1 : s.isEmpty
  · by_cases h2 : 63 < s.length
    · have Hq := hid (show labelOk s = false by unfold labelOk; simp; omega)
      go_enter Tryd.func108, Tryd.ntmps108
      go_wp2_with fail
      go_ret
      exact ⟨ret_bool Hq.out.symm, rfl⟩
    · have hl : 0 < s.length := by cases s <;> simp at h1 ⊢
      by_cases h3 : s[0] = 45
      · have Hq := hid (show labelOk s = false by unfold labelOk; rw [head_get hl, h3]; simp)
        have hx : ((s[0].toNat : Int) == 45) = true := by simp [h3]
        clear h3
        go_enter Tryd.func108, Tryd.ntmps108
        go_wp2_with fail
        go_ret
        exact ⟨ret_bool Hq.out.symm, rfl⟩
      · have hx : ((s[0].toNat : Int) == 45) = false := u8_ne h3
        by_cases h4 : s[s.length - 1] = 45
        · have Hq := hid (show labelOk s = false by
            unfold labelOk
            rw [List.getLast?_eq_getElem?, List.getElem?_eq_getElem (by omega), h4]; simp)
          have hy : ((s[s.length - 1].toNat : Int) == 45) = true := by simp [h4]
          clear h4 h3
          go_enter Tryd.func108, Tryd.ntmps108
          go_wp2_with fail
          go_ret
          exact ⟨ret_bool Hq.out.symm, rfl⟩
        · have hy : ((s[s.length - 1].toNat : Int) == 45) = false := u8_ne h4
          have Hq := hid (labelOk_eq s h1 (by omega) (by rw [List.getElem?_eq_getElem hl]; simpa using h3) (by rw [List.getElem?_eq_getElem (by omega)]; simpa using h4))
          have hdec : decide (63 < (s.length : Int)) = false := decide_eq_false (by omega)
          clear h3 h4
          go_enter Tryd.func108, Tryd.ntmps108
          go_wp2_with fail
          go_loop [26] (fun i => ∃ k : Nat, k ≤ s.length ∧ i = .int .i64 k ∧ (s.take k).all ldh = true) (fun i => s.length - (intOf i).toNat)
          case atStart => exact ⟨0, by omega, rfl, rfl⟩
          case round => (
            obtain ⟨k, hk, rfl, hall⟩ := hrel
            have Hall := hid hall
            clear hall
            by_cases hlt : k < s.length
            · cases hc : ldh s[k]
              · have Ha := hid (all_not hlt hc)
                have hc' := hc
                unfold ldh at hc'
                simp only [Bool.or_eq_false_iff] at hc'
                obtain ⟨⟨c1, c2⟩, c3⟩ := hc'
                have c4 : ((s[k].toNat : Int) != 45) = true := by
                  have : s[k] ≠ 45 := by simpa using c3
                  rw [bne_iff_ne]
                  intro h
                  exact this (UInt8.toNat_inj.1 (by simp; omega))
                clear c3 hc
                go_wp2_with (first
                  | (go_at_call 90; refine (ascii_IsAlpha _ _).mono ?_; rintro e w' ⟨rfl, rfl⟩)
                  | (go_at_call 72; refine (ascii_IsDigit _ _).mono ?_; rintro e w' ⟨rfl, rfl⟩))
                go_ret
                exact ⟨ret_bool (by rw [Hq.out, Ha.out]), rfl⟩
              · have Hc := hid (all_take_snoc hlt Hall.out hc)
                unfold ldh at hc
                simp only [Bool.or_eq_true, beq_iff_eq] at hc
                rcases hc with (hc | hc) | hc
                · go_wp2_with (first
                  | (go_at_call 90; refine (ascii_IsAlpha _ _).mono ?_; rintro e w' ⟨rfl, rfl⟩)
                  | (go_at_call 72; refine (ascii_IsDigit _ _).mono ?_; rintro e w' ⟨rfl, rfl⟩))
                  go_round
                  case rel => exact ⟨k + 1, by omega, by go_num, Hc.out⟩
                  case measure => simp [intOf]; omega
                · cases hca : isAlpha s[k]
                  all_goals
                    go_wp2_with (first
                      | (go_at_call 90; refine (ascii_IsAlpha _ _).mono ?_; rintro e w' ⟨rfl, rfl⟩)
                      | (go_at_call 72; refine (ascii_IsDigit _ _).mono ?_; rintro e w' ⟨rfl, rfl⟩))
                    go_round
                    case rel => exact ⟨k + 1, by omega, by go_num, Hc.out⟩
                    case measure => simp [intOf]; omega
                · have c4 : ((s[k].toNat : Int) != 45) = false := by simp [hc]
                  clear hc
                  cases hca : isAlpha s[k] <;> cases hcd : isDigit s[k]
                  all_goals
                    go_wp2_with (first
                      | (go_at_call 90; refine (ascii_IsAlpha _ _).mono ?_; rintro e w' ⟨rfl, rfl⟩)
                      | (go_at_call 72; refine (ascii_IsDigit _ _).mono ?_; rintro e w' ⟨rfl, rfl⟩))
                    go_round
                    case rel => exact ⟨k + 1, by omega, by go_num, Hc.out⟩
                    case measure => simp [intOf]; omega
            · have hall := Hall.out
              rw [List.take_of_length_le (by omega)] at hall
              have Ha := hid hall
              clear hall Hall
              go_wp2_with fail
              go_ret
              exact ⟨ret_bool (by rw [Hq.out, Ha.out]), rfl⟩)
  · have Hq := hid (show labelOk s = false by unfold labelOk; simp [h1])
    go_enter Tryd.func108, Tryd.ntmps108
    go_wp2_with fail
    go_ret
    exact ⟨ret_bool Hq.out.symm, rfl⟩
set_option maxHeartbeats 1000000 in
theorem host_name (s : Bytes) (w : World) (hE : Env w) (hs : s.length < 4294967281) :
    Calls Tryd.prog 94 #[(Value.string ⟨List.toArray (s)⟩)] w fun e w' => e = .returned (.bool (nameOk s)) ∧ Below w.heap.size w w' := by
  go_enter Tryd.func94, Tryd.ntmps94
  go_wp2_with fail
  go_loopw [0] (fun v wr => ∃ r : Bytes, v = (Value.string ⟨List.toArray (r)⟩) ∧ r.length ≤ s.length ∧ Below w.heap.size w wr ∧ nameOk r = nameOk s) (fun v _ => sLen v)
  case atStart => exact ⟨s, rfl, by omega, Below.refl _ _, rfl⟩
  case round =>
    obtain ⟨r, rfl, hr, hw, heq⟩ := hrel
    have Hw := hid hw
    have HE := hid (hE.below hw)
    have Heq := hid heq
    clear hw heq
    by_cases hp : pre (· == 46) r < r.length
    · have hcut := hid (show cutC 46 r = (r.take (pre (· == 46) r), r.drop (pre (· == 46) r + 1), true) from if_pos hp)
      have hnl : nameOk r = (labelOk (r.take (pre (· == 46) r)) && nameOk (r.drop (pre (· == 46) r + 1))) := by
        unfold nameOk
        rw [splitC_hit hp]
        have := splitC_ne 46 (r.drop (pre (· == 46) r + 1))
        cases hsp : splitC 46 (r.drop (pre (· == 46) r + 1)) with
        | nil => exact absurd hsp this
        | cons y l => rfl
      cases hl : labelOk (r.take (pre (· == 46) r))
      all_goals
        rw [hl] at hnl
        have Hnl := hid (hnl.symm.trans Heq.out)
        clear hnl
        go_wp2_with fail
        refine (s_Cut r 46 wr HE.out (by omega)).mono ?_
        rintro e w2 ⟨rfl, n, hw2⟩
        rw [hcut.out]
        have Hw2 : Hid (Below w.heap.size w w2) := hid (by rw [hw2]; exact below_drewN Hw.out _)
        clear hw2
        go_wp2_with (go_at_call 108; refine (host_label _ _ (by simp; omega)).mono ?_; rintro e w' ⟨rfl, rfl⟩)
      · go_ret
        exact ⟨ret_bool Hnl.out, Hw2.out⟩
      · go_roundw
        case rel => exact ⟨_, rfl, by simp; omega, Hw2.out, Hnl.out⟩
        case measure => simp [sLen_mk]; omega
    · have hcut := hid (show cutC 46 r = (r, [], false) from if_neg hp)
      have hnl : nameOk r = (labelOk r && !digitsOk r) := by unfold nameOk; rw [splitC_miss hp]; rfl
      have Hnl := hid (hnl.symm.trans Heq.out)
      clear hnl
      cases hl : labelOk r
      all_goals
        rw [hl] at Hnl
        go_wp2_with fail
        refine (s_Cut r 46 wr HE.out (by omega)).mono ?_
        rintro e w2 ⟨rfl, n, hw2⟩
        rw [hcut.out]
        have Hw2 : Hid (Below w.heap.size w w2) := hid (by rw [hw2]; exact below_drewN Hw.out _)
        clear hw2
        go_wp2_with (first
          | (go_at_call 108; refine (host_label _ _ (by omega)).mono ?_; rintro e w' ⟨rfl, rfl⟩)
          | (go_at_call 109; refine (ascii_Digits _ _ (by omega)).mono ?_; rintro e w' ⟨rfl, rfl⟩))
        go_ret
        exact ⟨ret_bool (by have := Hnl.out; simpa using this), Hw2.out⟩
set_option maxHeartbeats 1000000 in
theorem host_IsIPv4 (s : Bytes) (w : World) (hE : Env w) (hs : s.length < 4294967281) :
    Calls Tryd.prog 69 #[(Value.string ⟨List.toArray (s)⟩)] w fun e w' => e = .returned (.bool (ipv4 s)) ∧ Below w.heap.size w w' := by
  have hq : ipv4 s = ((splitC 46 s).length == 4 && (splitC 46 s).all octetOk) := rfl
  have hsp := s_Split s 46 w hE hs
  have hlen : ∀ x ∈ splitC 46 s, x.length ≤ s.length := splitC_len 46 s
  generalize splitC 46 s = parts at hq hsp hlen
  have Hq := hid hq
  have Hsp := hid hsp
  have Hlen := hid hlen
  clear hq hsp hlen
  by_cases h4 : parts.length = 4
  · have hx : ((parts.length : Int) != 4) = false := by simp [h4]
    go_enter Tryd.func69, Tryd.ntmps69
    go_wp2_with fail
    refine Hsp.out.mono ?_
    rintro e w1 ⟨rfl, hw1⟩
    have Hrow : Hid (RowStr w1 w.heap.size parts) := hid (by rw [hw1]; have := RowStr.alloc w parts [] 9; simpa using this)
    have Hw1 : Hid (Below w.heap.size w w1) := hid (by rw [hw1]; exact (Below.refl _ _).alloc (Nat.le_refl _) _)
    clear hw1
    go_wp2_with fail
    go_loop [15] (fun i => ∃ k : Nat, k ≤ 4 ∧ i = .int .i64 k ∧ (parts.take k).all octetOk = true) (fun i => 4 - (intOf i).toNat)
    case atStart => exact ⟨0, by omega, rfl, rfl⟩
    case round =>
      obtain ⟨k, hk, rfl, hall⟩ := hrel
      have Hall := hid hall
      clear hall
      by_cases hlt : k < 4
      · have hkl : k < parts.length := by omega
        have hcell := Hrow.out k hkl
        have hln := Hlen.out parts[k] (List.getElem_mem hkl)
        have hoc : octetOk parts[k] = ((numStrict 255 parts[k]).2 == 0) := rfl
        cases hc : octetOk parts[k]
        · have Ha := hid (all_not hkl hc)
          have hn : ((numStrict 255 parts[k]).2 != 0) = true := by rw [hc] at hoc; simp only [bne]; rw [← hoc]; rfl
          clear hoc
          go_wp2_with (go_at_call 95; refine (number_Strict _ 255 _ (by omega) (by omega)).mono ?_; rintro e w' ⟨rfl, rfl⟩)
          go_ret
          exact ⟨ret_bool (by rw [Hq.out, Ha.out]; simp), Hw1.out⟩
        · have Hn := hid (all_take_snoc hkl Hall.out hc)
          have hn : ((numStrict 255 parts[k]).2 != 0) = false := by rw [hc] at hoc; simp only [bne]; rw [← hoc]; rfl
          clear hoc
          go_wp2_with (go_at_call 95; refine (number_Strict _ 255 _ (by omega) (by omega)).mono ?_; rintro e w' ⟨rfl, rfl⟩)
          go_round
          case rel => exact ⟨k + 1, by omega, by go_num, Hn.out⟩
          case measure => simp [intOf]; omega
      · have hall := Hall.out
        rw [List.take_of_length_le (by omega)] at hall
        have Ha := hid hall
        clear hall Hall
        go_wp2_with fail
        go_ret
        exact ⟨ret_bool (by rw [Hq.out, Ha.out, h4]; rfl), Hw1.out⟩
  · have hx : ((parts.length : Int) != 4) = true := by simp; omega
    go_enter Tryd.func69, Tryd.ntmps69
    go_wp2_with fail
    refine Hsp.out.mono ?_
    rintro e w1 ⟨rfl, hw1⟩
    have Hw1 : Hid (Below w.heap.size w w1) := hid (by rw [hw1]; exact (Below.refl _ _).alloc (Nat.le_refl _) _)
    clear hw1
    go_wp2_with fail
    go_ret
    exact ⟨ret_bool (by rw [Hq.out]; simp [h4]), Hw1.out⟩
set_option maxHeartbeats 1000000 in
theorem host_Host (s : Bytes) (w : World) (hE : Env w) (hs : s.length < 4294967281) :
    Calls Tryd.prog 68 #[(Value.string ⟨List.toArray (s)⟩)] w fun e w' => e = .returned (.tuple #[(Value.string ⟨List.toArray ((hostM s).1)⟩), .int .i64 (hostM s).2]) ∧ Below w.heap.size w w' := by
  cases h1 : s.isEmpty
  · by_cases h2 : 253 < s.length
    · have Hq := hid (show hostM s = ([], 5) by unfold hostM; simp [h1, h2])
      go_enter Tryd.func68, Tryd.ntmps68
      go_wp2_with fail
      go_ret2
      rw [Hq.out]
      exact ⟨rfl, Below.refl _ _⟩
    · cases h3 : ipv4 s
      · cases h4 : nameOk s
        · have Hq := hid (show hostM s = ([], 50) by unfold hostM; simp [h1, h2, h3, h4])
          go_enter Tryd.func68, Tryd.ntmps68
          go_wp2_with (first
            | (go_at_call 69; refine (host_IsIPv4 _ _ hE hs).mono ?_; rintro e w1 ⟨rfl, hw1⟩)
            | (go_at_call 94; refine (host_name _ _ (hE.below ‹_›) hs).mono ?_; rintro e w2 ⟨rfl, hw2⟩))
          go_ret2
          rw [Hq.out]
          exact ⟨rfl, below_all ‹_› ‹_›⟩
        · have Hq := hid (show hostM s = (lower s, 0) by unfold hostM; simp [h1, h2, h3, h4])
          go_enter Tryd.func68, Tryd.ntmps68
          go_wp2_with (first
            | (go_at_call 69; refine (host_IsIPv4 _ _ hE hs).mono ?_; rintro e w1 ⟨rfl, hw1⟩)
            | (go_at_call 94; refine (host_name _ _ (hE.below hw1) hs).mono ?_; rintro e w2 ⟨rfl, hw2⟩)
            | (go_at_call 91; refine (ascii_Lower _ _ (by omega)).mono ?_; rintro e w3 ⟨rfl, hw3⟩))
          go_ret2
          rw [Hq.out]
          exact ⟨rfl, below_all (below_all hw1 hw2) hw3⟩
      · have Hq := hid (show hostM s = (lower s, 0) by unfold hostM; simp [h1, h2, h3])
        go_enter Tryd.func68, Tryd.ntmps68
        go_wp2_with (first
          | (go_at_call 69; refine (host_IsIPv4 _ _ hE hs).mono ?_; rintro e w1 ⟨rfl, hw1⟩)
          | (go_at_call 91; refine (ascii_Lower _ _ (by omega)).mono ?_; rintro e w3 ⟨rfl, hw3⟩))
        go_ret2
        rw [Hq.out]
        exact ⟨rfl, below_all hw1 hw3⟩
  · have Hq := hid (show hostM s = ([], 3) by unfold hostM; simp [h1])
    go_enter Tryd.func68, Tryd.ntmps68
    go_wp2_with fail
    go_ret2
    rw [Hq.out]
    exact ⟨rfl, Below.refl _ _⟩
end Go.Proofs.YtnncgbamppaacaaDoor
