/- The walks of package uri: schemes. -/
import Derived.Test.YtnpkjglcbolcbaaDoorPlain
import Derived.Test.YtnpkjglcbolcbaaDoorSmall
import Derived.Test.YtnpkjglcbolcbaaDoorAscii
import Derived.Test.YtnpkjglcbolcbaaDoorIdxAny
set_option linter.all false
namespace Go.Proofs.YtnpkjglcbolcbaaDoor
open Go.RowKit Wf
attribute [local go_sem] ex_list app_list get_list
theorem scheme_one {s : Bytes} (h : 0 < s.length) (ha : isAlpha s[0] = true) : schemeOk (s.take 1) = true := by
  cases s with
  | nil => simp at h
  | cons c r => simp at ha; simp [schemeOk, ha]
theorem scheme_one_no {s : Bytes} (h : 0 < s.length) (ha : isAlpha s[0] = false) : schemeOk s = false := by
  cases s with
  | nil => simp at h
  | cons c r => simp at ha; simp [schemeOk, ha]
theorem scheme_snoc {s : Bytes} {k : Nat} (h0 : 0 < k) (h : k < s.length) (ht : schemeOk (s.take k) = true) (hc : schemeC s[k] = true) : schemeOk (s.take (k + 1)) = true := by
  cases s with
  | nil => simp at h
  | cons c r =>
    obtain ⟨j, rfl⟩ : ∃ j, k = j + 1 := ⟨k - 1, by omega⟩
    rw [List.take_succ_cons] at ht ⊢
    unfold schemeOk at ht ⊢
    simp only [Bool.and_eq_true] at ht ⊢
    exact ⟨ht.1, all_take_snoc (by simpa using h) ht.2 (by simpa using hc)⟩
theorem scheme_no {s : Bytes} {k : Nat} (h0 : 0 < k) (h : k < s.length) (hc : schemeC s[k] = false) : schemeOk s = false := by
  cases s with
  | nil => simp at h
  | cons c r =>
    obtain ⟨j, rfl⟩ : ∃ j, k = j + 1 := ⟨k - 1, by omega⟩
    have := all_not (p := schemeC) (s := r) (k := j) (by simpa using h) (by simpa using hc)
    show (isAlpha c && r.all schemeC) = false
    rw [this]; simp
theorem plus_idx (c : UInt8) : ([43, 45, 46].contains c = true → 0 ≤ Lib.indexByte [43, 45, 46] c) ∧ ([43, 45, 46].contains c = false → Lib.indexByte [43, 45, 46] c = -1) := by
  have h := all256 (p := fun c => decide (([43, 45, 46].contains c = true → 0 ≤ Lib.indexByte [43, 45, 46] c) ∧ ([43, 45, 46].contains c = false → Lib.indexByte [43, 45, 46] c = -1))) (by decide +kernel) c
  exact of_decide_eq_true h
set_option maxHeartbeats 1000000 in
theorem uri_scheme (s : Bytes) (w : World) (hs : s.length ≤ 9223372036854775807) :
    Calls Tryd.prog 99 #[(Value.string ⟨List.toArray (s)⟩)] w fun e w' => e = .returned (.bool (schemeOk s)) ∧ w = w' := by
  go_enter Tryd.func99, Tryd.ntmps99
  go_wp2_with fail
  go_loop [6] (fun i => ∃ k : Nat, k ≤ s.length ∧ i = .int .i64 k ∧ (k = 0 ∨ schemeOk (s.take k) = true)) (fun i => s.length - (intOf i).toNat)
  case atStart => exact ⟨0, by omega, rfl, .inl rfl⟩
  case round =>
    obtain ⟨k, hk, rfl, hr⟩ := hrel
    have Hr := hid hr
    clear hr
    by_cases hlt : k < s.length
    · cases ha : isAlpha s[k]
      · by_cases h0 : k = 0
        · subst h0
          have Hq := hid (scheme_one_no hlt ha)
          go_wp2_with (first
            | (go_at_call 122; refine (ascii_IsAlpha _ _).mono ?_; rintro e w' ⟨rfl, rfl⟩)
            | (go_at_call 123; refine (ascii_IsDigit _ _).mono ?_; rintro e w' ⟨rfl, rfl⟩)
            | (go_at_call 70; refine (s_IndexByte [43, 45, 46] _ _).mono ?_; rintro e w' ⟨rfl, rfl⟩))
          go_ret
          exact ⟨ret_bool Hq.out.symm, rfl⟩
        · have hk0 : ((k : Int) == 0) = false := by simp [h0]
          have Hr2 := hid (Hr.out.resolve_left h0)
          obtain ⟨p1, p2⟩ := plus_idx s[k]
          cases hd : isDigit s[k]
          · cases hp : [43, 45, 46].contains s[k]
            · have p3 := p2 hp
              have Hq := hid (scheme_no (by omega) hlt (by unfold schemeC; rw [ha, hd, hp]; rfl))
              clear p1 p2 hp
              go_wp2_with (first
                | (go_at_call 122; refine (ascii_IsAlpha _ _).mono ?_; rintro e w' ⟨rfl, rfl⟩)
                | (go_at_call 123; refine (ascii_IsDigit _ _).mono ?_; rintro e w' ⟨rfl, rfl⟩)
                | (go_at_call 70; refine (s_IndexByte [43, 45, 46] _ _).mono ?_; rintro e w' ⟨rfl, rfl⟩))
              go_ret
              exact ⟨ret_bool Hq.out.symm, rfl⟩
            · have p3 := p1 hp
              have Hn := hid (scheme_snoc (by omega) hlt Hr2.out (by unfold schemeC; rw [hp]; simp))
              clear p1 p2 hp
              go_wp2_with (first
                | (go_at_call 122; refine (ascii_IsAlpha _ _).mono ?_; rintro e w' ⟨rfl, rfl⟩)
                | (go_at_call 123; refine (ascii_IsDigit _ _).mono ?_; rintro e w' ⟨rfl, rfl⟩)
                | (go_at_call 70; refine (s_IndexByte [43, 45, 46] _ _).mono ?_; rintro e w' ⟨rfl, rfl⟩))
              go_round
              case rel => exact ⟨k + 1, by omega, by go_num, .inr Hn.out⟩
              case measure => simp [intOf]; omega
          · have Hn := hid (scheme_snoc (by omega) hlt Hr2.out (by unfold schemeC; rw [hd]; simp))
            clear p1 p2
            go_wp2_with (first
              | (go_at_call 122; refine (ascii_IsAlpha _ _).mono ?_; rintro e w' ⟨rfl, rfl⟩)
              | (go_at_call 123; refine (ascii_IsDigit _ _).mono ?_; rintro e w' ⟨rfl, rfl⟩)
              | (go_at_call 70; refine (s_IndexByte [43, 45, 46] _ _).mono ?_; rintro e w' ⟨rfl, rfl⟩))
            go_round
            case rel => exact ⟨k + 1, by omega, by go_num, .inr Hn.out⟩
            case measure => simp [intOf]; omega
      · have Hn : Hid (schemeOk (s.take (k + 1)) = true) := hid (by
          rcases Hr.out with rfl | hr
          · exact scheme_one hlt ha
          · by_cases h0 : k = 0
            · subst h0; exact scheme_one hlt ha
            · exact scheme_snoc (by omega) hlt hr (by unfold schemeC; rw [ha]; rfl))
        go_wp2_with (first
          | (go_at_call 122; refine (ascii_IsAlpha _ _).mono ?_; rintro e w' ⟨rfl, rfl⟩)
          | (go_at_call 123; refine (ascii_IsDigit _ _).mono ?_; rintro e w' ⟨rfl, rfl⟩)
          | (go_at_call 70; refine (s_IndexByte [43, 45, 46] _ _).mono ?_; rintro e w' ⟨rfl, rfl⟩))
        go_round
        case rel => exact ⟨k + 1, by omega, by go_num, .inr Hn.out⟩
        case measure => simp [intOf]; omega
    · cases hem : s.isEmpty
      · have Hq : Hid (schemeOk s = true) := hid (by
          rcases Hr.out with rfl | hr
          · cases s <;> simp at hem hlt
          · rw [List.take_of_length_le (by omega)] at hr; exact hr)
        go_wp2_with fail
        go_ret
        exact ⟨ret_bool Hq.out.symm, rfl⟩
      · have Hq : Hid (schemeOk s = false) := hid (by cases s <;> simp at hem <;> rfl)
        go_wp2_with fail
        go_ret
        exact ⟨ret_bool Hq.out.symm, rfl⟩
end Go.Proofs.YtnpkjglcbolcbaaDoor
