/- The walks of package number. -/
import Derived.Test.YtnncgbamppaacaaDoorAscii
import Derived.Test.YtnncgbamppaacaaDoorAscii2
set_option linter.all false
namespace Go.Proofs.YtnncgbamppaacaaDoor
open Go.RowKit Wf
attribute [local go_sem] ex_list app_list get_list

set_option maxHeartbeats 400000 in
theorem number_value (c : UInt8) (w : World) (h : isHex c = true) : Calls Tryd.prog 124 #[.int .u8 c.toNat] w fun e w' => e = .returned (.int .u64 (hexVal c)) ∧ w = w' := by
  cases hd : isDigit c
  all_goals
    go_enter Tryd.func124, Tryd.ntmps124
    go_wp2_with (go_at_call 72; refine (ascii_IsDigit _ _).mono ?_; rintro e w' ⟨rfl, rfl⟩)
    go_ret
    refine ⟨ret_int ?_, rfl⟩
    have hb := or32 c
    simp [isHex, isDigit] at h hd
    unfold hexVal
    split <;> (try split) <;> omega

set_option maxHeartbeats 1000000 in
theorem number_parse10 (s : Bytes) (m : Nat) (w : World) (hs : s.length ≤ 9223372036854775807) (hm : m ≤ 4611686018427387904) :
    Calls Tryd.prog 120 #[(Value.string ⟨List.toArray (s)⟩), .int .u64 10, .int .u64 m, .func (.func 72) #[] #[]] w fun e w' => e = .returned (.tuple #[.int .u64 (numParse isDigit 10 m s).1, .int .i64 (numParse isDigit 10 m s).2]) ∧ w = w' := by
  cases hne : s.isEmpty
  · go_enter Tryd.func120, Tryd.ntmps120
    go_wp2_with fail
    go_loop [18] (fun i => ∃ k : Nat, k ≤ s.length ∧ i = .int .i64 k ∧ (s.take k).all isDigit = true) (fun i => s.length - (intOf i).toNat)
    case atStart => exact ⟨0, by omega, rfl, rfl⟩
    case round =>
      obtain ⟨k, hk, rfl, hall⟩ := hrel
      have Hall := hid hall
      clear hall
      by_cases hlt : k < s.length
      · cases hc : isDigit s[k]
        · go_wp2_with (go_at_call 72; refine (ascii_IsDigit _ _).mono ?_; rintro e w' ⟨rfl, rfl⟩)
          go_ret2
          exact ⟨ret_ni (by simp [numParse, hne, all_not hlt hc]), rfl⟩
        · go_wp2_with (go_at_call 72; refine (ascii_IsDigit _ _).mono ?_; rintro e w' ⟨rfl, rfl⟩)
          go_round
          case rel => exact ⟨k + 1, by omega, by go_num, all_take_snoc hlt Hall.out hc⟩
          case measure => simp [intOf]; omega
      · have hall : s.all isDigit = true := by have := Hall.out; rwa [List.take_of_length_le (by omega)] at this
        clear Hall
        have Hall := hid hall
        clear hall
        go_wp2_with fail
        go_loop [11, 30] (fun n i => ∃ k a : Nat, k ≤ s.length ∧ i = .int .i64 k ∧ a ≤ m ∧ n = .int .u64 a ∧ numGo 10 m a (s.drop k) = numGo 10 m 0 s) (fun _ i => s.length - (intOf i).toNat)
        case atStart => exact ⟨0, 0, by omega, rfl, by omega, rfl, rfl⟩
        case round =>
          obtain ⟨j, a, hj, rfl, ha, rfl, heq⟩ := hrel
          have Heq := hid heq
          clear heq
          by_cases hjt : j < s.length
          · have hv := hexVal_le (show isHex s[j] = true by have := all_get Hall.out hjt; first | exact this | (simp [isDigit, isHex] at this ⊢; omega))
            go_wp2_with (go_at_call 124; refine (number_value _ _ (by have := all_get Hall.out hjt; first | exact this | (simp [isDigit, isHex] at this ⊢; omega))).mono ?_; rintro e w' ⟨rfl, rfl⟩)
            all_goals first
              | (go_ret2; exact ⟨ret_ni (numParse_err hne Hall.out Heq.out hjt (by omega)), rfl⟩)
              | (go_round
                 case rel => exact ⟨j + 1, a * 10 + hexVal s[j], by omega, by go_num, by omega, by go_num, numParse_next Heq.out hjt (by omega)⟩
                 case measure => simp [intOf]; omega)
          · go_wp2_with fail
            go_ret2
            exact ⟨ret_ni (numParse_done hne Hall.out Heq.out hjt), rfl⟩
  · go_enter Tryd.func120, Tryd.ntmps120
    go_wp2_with fail
    go_ret2
    exact ⟨ret_ni (by simp [numParse, hne]), rfl⟩
set_option maxHeartbeats 400000 in
theorem number_Parse (s : Bytes) (m : Nat) (w : World) (hs : s.length ≤ 9223372036854775807) (hm : m ≤ 4611686018427387904) :
    Calls Tryd.prog 110 #[(Value.string ⟨List.toArray (s)⟩), .int .u64 m] w fun e w' => e = .returned (.tuple #[.int .u64 (numParse isDigit 10 m s).1, .int .i64 (numParse isDigit 10 m s).2]) ∧ w = w' := by
  go_enter Tryd.func110, Tryd.ntmps110
  go_wp2_with (go_at_call 120; refine (number_parse10 _ _ _ hs hm).mono ?_; rintro e w' ⟨rfl, rfl⟩)
  go_ret2
  exact ⟨rfl, rfl⟩
set_option maxHeartbeats 400000 in
theorem number_Strict (s : Bytes) (m : Nat) (w : World) (hs : s.length ≤ 9223372036854775807) (hm : m ≤ 4611686018427387904) :
    Calls Tryd.prog 95 #[(Value.string ⟨List.toArray (s)⟩), .int .u64 m] w fun e w' => e = .returned (.tuple #[.int .u64 (numStrict m s).1, .int .i64 (numStrict m s).2]) ∧ w = w' := by
  by_cases hd : digitsOk s = true
  · by_cases h1 : 1 < s.length
    · by_cases h0 : s[0] = 48
      · have Hq := hid (show numStrict m s = (0, 6) from if_pos ⟨hd, h1, by rw [head_get (by omega), h0]⟩)
        have hx : ((s[0].toNat : Int) == 48) = true := by simp [h0]
        clear h0
        go_enter Tryd.func95, Tryd.ntmps95
        go_wp2_with (go_at_call 109; refine (ascii_Digits _ _ hs).mono ?_; rintro e w' ⟨rfl, rfl⟩)
        go_ret2
        rw [Hq.out]
        exact ⟨rfl, rfl⟩
      · have Hq := hid (show numStrict m s = numParse isDigit 10 m s from if_neg (by rintro ⟨_, _, h⟩; rw [head_get (by omega)] at h; exact h0 (by simpa using h)))
        have hx : ((s[0].toNat : Int) == 48) = false := u8_ne h0
        clear h0
        go_enter Tryd.func95, Tryd.ntmps95
        go_wp2_with (first
          | (go_at_call 109; refine (ascii_Digits _ _ hs).mono ?_; rintro e w' ⟨rfl, rfl⟩)
          | (go_at_call 110; refine (number_Parse _ _ _ hs hm).mono ?_; rintro e w' ⟨rfl, rfl⟩))
        go_ret2
        rw [Hq.out]
        exact ⟨rfl, rfl⟩
    · have Hq := hid (show numStrict m s = numParse isDigit 10 m s from if_neg (by rintro ⟨_, h, _⟩; exact h1 h))
      go_enter Tryd.func95, Tryd.ntmps95
      go_wp2_with (first
        | (go_at_call 109; refine (ascii_Digits _ _ hs).mono ?_; rintro e w' ⟨rfl, rfl⟩)
        | (go_at_call 110; refine (number_Parse _ _ _ hs hm).mono ?_; rintro e w' ⟨rfl, rfl⟩))
      go_ret2
      rw [Hq.out]
      exact ⟨rfl, rfl⟩
  · have Hq := hid (show numStrict m s = numParse isDigit 10 m s from if_neg (by rintro ⟨h, _, _⟩; exact hd h))
    have hd2 : digitsOk s = false := by simpa using hd
    clear hd
    go_enter Tryd.func95, Tryd.ntmps95
    go_wp2_with (first
      | (go_at_call 109; refine (ascii_Digits _ _ hs).mono ?_; rintro e w' ⟨rfl, rfl⟩)
      | (go_at_call 110; refine (number_Parse _ _ _ hs hm).mono ?_; rintro e w' ⟨rfl, rfl⟩))
    go_ret2
    rw [Hq.out]
    exact ⟨rfl, rfl⟩
end Go.Proofs.YtnncgbamppaacaaDoor
