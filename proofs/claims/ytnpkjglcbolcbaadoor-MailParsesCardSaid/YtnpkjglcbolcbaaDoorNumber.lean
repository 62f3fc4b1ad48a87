/- The walks of package number. -/
import Derived.Test.YtnpkjglcbolcbaaDoorAscii
import Derived.Test.YtnpkjglcbolcbaaDoorAscii2
set_option linter.all false
namespace Go.Proofs.YtnpkjglcbolcbaaDoor
open Go.RowKit Wf
attribute [local go_sem] ex_list app_list get_list

set_option maxHeartbeats 400000 in
theorem number_value (c : UInt8) (w : World) (h : isHex c = true) : Calls Tryd.prog 164 #[.int .u8 c.toNat] w fun e w' => e = .returned (.int .u64 (hexVal c)) ∧ w = w' := by
  cases hd : isDigit c
  all_goals
    go_enter Tryd.func164, Tryd.ntmps164
    go_wp2_with (go_at_call 123; refine (ascii_IsDigit _ _).mono ?_; rintro e w' ⟨rfl, rfl⟩)
    go_ret
    refine ⟨ret_int ?_, rfl⟩
    have hb := or32 c
    simp [isHex, isDigit] at h hd
    unfold hexVal
    split <;> (try split) <;> omega

set_option maxHeartbeats 1000000 in
theorem number_parse10 (s : Bytes) (m : Nat) (w : World) (hs : s.length ≤ 9223372036854775807) (hm : m ≤ 4611686018427387904) :
    Calls Tryd.prog 158 #[(Value.string ⟨List.toArray (s)⟩), .int .u64 10, .int .u64 m, .func (.func 123) #[] #[]] w fun e w' => e = .returned (.tuple #[.int .u64 (numParse isDigit 10 m s).1, .int .i64 (numParse isDigit 10 m s).2]) ∧ w = w' := by
  cases hne : s.isEmpty
  · go_enter Tryd.func158, Tryd.ntmps158
    go_wp2_with fail
    go_loop [18] (fun i => ∃ k : Nat, k ≤ s.length ∧ i = .int .i64 k ∧ (s.take k).all isDigit = true) (fun i => s.length - (intOf i).toNat)
    case atStart => exact ⟨0, by omega, rfl, rfl⟩
    case round =>
      obtain ⟨k, hk, rfl, hall⟩ := hrel
      have Hall := hid hall
      clear hall
      by_cases hlt : k < s.length
      · cases hc : isDigit s[k]
        · go_wp2_with (go_at_call 123; refine (ascii_IsDigit _ _).mono ?_; rintro e w' ⟨rfl, rfl⟩)
          go_ret2
          exact ⟨ret_ni (by simp [numParse, hne, all_not hlt hc]), rfl⟩
        · go_wp2_with (go_at_call 123; refine (ascii_IsDigit _ _).mono ?_; rintro e w' ⟨rfl, rfl⟩)
          go_round
          case rel => exact ⟨k + 1, by omega, by go_num, all_take_snoc hlt Hall.out hc⟩
          case measure => simp [intOf]; omega
      · have hall : s.all isDigit = true := by have := Hall.out; rwa [List.take_of_length_le (by omega)] at this
        clear Hall
        have Hall := hid hall
        clear hall
        go_wp2_with fail
        go_loop [11, 30] (fun n i => ∃ k a : Nat, k ≤ s.length ∧ i = .int .i64 k ∧ a ≤ m ∧ n = .int .u64 a ∧ numGo 10 m a (s.drop k) = numGo 10 m 0 s) (fun _ i => s.length - (intOf i).toNat)
        case atStart => exact ⟨0, 0, by omega, rfl, by omega, rfl, rfl⟩
        case round =>
          obtain ⟨j, a, hj, rfl, ha, rfl, heq⟩ := hrel
          have Heq := hid heq
          clear heq
          by_cases hjt : j < s.length
          · have hv := hexVal_le (show isHex s[j] = true by have := all_get Hall.out hjt; first | exact this | (simp [isDigit, isHex] at this ⊢; omega))
            go_wp2_with (go_at_call 164; refine (number_value _ _ (by have := all_get Hall.out hjt; first | exact this | (simp [isDigit, isHex] at this ⊢; omega))).mono ?_; rintro e w' ⟨rfl, rfl⟩)
            all_goals first
              | (go_ret2; exact ⟨ret_ni (numParse_err hne Hall.out Heq.out hjt (by omega)), rfl⟩)
              | (go_round
                 case rel => exact ⟨j + 1, a * 10 + hexVal s[j], by omega, by go_num, by omega, by go_num, numParse_next Heq.out hjt (by omega)⟩
                 case measure => simp [intOf]; omega)
          · go_wp2_with fail
            go_ret2
            exact ⟨ret_ni (numParse_done hne Hall.out Heq.out hjt), rfl⟩
  · go_enter Tryd.func158, Tryd.ntmps158
    go_wp2_with fail
    go_ret2
    exact ⟨ret_ni (by simp [numParse, hne]), rfl⟩
set_option maxHeartbeats 400000 in
theorem number_Parse (s : Bytes) (m : Nat) (w : World) (hs : s.length ≤ 9223372036854775807) (hm : m ≤ 4611686018427387904) :
    Calls Tryd.prog 147 #[(Value.string ⟨List.toArray (s)⟩), .int .u64 m] w fun e w' => e = .returned (.tuple #[.int .u64 (numParse isDigit 10 m s).1, .int .i64 (numParse isDigit 10 m s).2]) ∧ w = w' := by
  go_enter Tryd.func147, Tryd.ntmps147
  go_wp2_with (go_at_call 158; refine (number_parse10 _ _ _ hs hm).mono ?_; rintro e w' ⟨rfl, rfl⟩)
  go_ret2
  exact ⟨rfl, rfl⟩
set_option maxHeartbeats 400000 in
theorem number_Strict (s : Bytes) (m : Nat) (w : World) (hs : s.length ≤ 9223372036854775807) (hm : m ≤ 4611686018427387904) :
    Calls Tryd.prog 118 #[(Value.string ⟨List.toArray (s)⟩), .int .u64 m] w fun e w' => e = .returned (.tuple #[.int .u64 (numStrict m s).1, .int .i64 (numStrict m s).2]) ∧ w = w' := by
  by_cases hd : digitsOk s = true
  · by_cases h1 : 1 < s.length
    · by_cases h0 : s[0] = 48
      · have Hq := hid (show numStrict m s = (0, 6) from if_pos ⟨hd, h1, by rw [head_get (by omega), h0]⟩)
        have hx : ((s[0].toNat : Int) == 48) = true := by simp [h0]
        clear h0
        go_enter Tryd.func118, Tryd.ntmps118
        go_wp2_with (go_at_call 143; refine (ascii_Digits _ _ hs).mono ?_; rintro e w' ⟨rfl, rfl⟩)
        go_ret2
        rw [Hq.out]
        exact ⟨rfl, rfl⟩
      · have Hq := hid (show numStrict m s = numParse isDigit 10 m s from if_neg (by rintro ⟨_, _, h⟩; rw [head_get (by omega)] at h; exact h0 (by simpa using h)))
        have hx : ((s[0].toNat : Int) == 48) = false := u8_ne h0
        clear h0
        go_enter Tryd.func118, Tryd.ntmps118
        go_wp2_with (first
          | (go_at_call 143; refine (ascii_Digits _ _ hs).mono ?_; rintro e w' ⟨rfl, rfl⟩)
          | (go_at_call 147; refine (number_Parse _ _ _ hs hm).mono ?_; rintro e w' ⟨rfl, rfl⟩))
        go_ret2
        rw [Hq.out]
        exact ⟨rfl, rfl⟩
    · have Hq := hid (show numStrict m s = numParse isDigit 10 m s from if_neg (by rintro ⟨_, h, _⟩; exact h1 h))
      go_enter Tryd.func118, Tryd.ntmps118
      go_wp2_with (first
        | (go_at_call 143; refine (ascii_Digits _ _ hs).mono ?_; rintro e w' ⟨rfl, rfl⟩)
        | (go_at_call 147; refine (number_Parse _ _ _ hs hm).mono ?_; rintro e w' ⟨rfl, rfl⟩))
      go_ret2
      rw [Hq.out]
      exact ⟨rfl, rfl⟩
  · have Hq := hid (show numStrict m s = numParse isDigit 10 m s from if_neg (by rintro ⟨h, _, _⟩; exact hd h))
    have hd2 : digitsOk s = false := by simpa using hd
    clear hd
    go_enter Tryd.func118, Tryd.ntmps118
    go_wp2_with (first
      | (go_at_call 143; refine (ascii_Digits _ _ hs).mono ?_; rintro e w' ⟨rfl, rfl⟩)
      | (go_at_call 147; refine (number_Parse _ _ _ hs hm).mono ?_; rintro e w' ⟨rfl, rfl⟩))
    go_ret2
    rw [Hq.out]
    exact ⟨rfl, rfl⟩
set_option maxHeartbeats 1000000 in
theorem ref04_parse10 (s : Bytes) (m : Nat) (w : World) (hs : s.length ≤ 9223372036854775807) (hm : m ≤ 4611686018427387904) :
    Calls Tryd.prog 148 #[(Value.string ⟨List.toArray (s)⟩), .int .u64 10, .int .u64 m] w fun e w' => e = .returned (.tuple #[.int .u64 (numParse isDigit 10 m s).1, .int .i64 (numParse isDigit 10 m s).2]) ∧ w = w' := by
  cases hne : s.isEmpty
  · go_enter Tryd.func148, Tryd.ntmps148
    go_wp2_with fail
    go_loop [8] (fun i => ∃ k : Nat, k ≤ s.length ∧ i = .int .i64 k ∧ (s.take k).all isDigit = true) (fun i => s.length - (intOf i).toNat)
    case atStart => exact ⟨0, by omega, rfl, rfl⟩
    case round =>
      obtain ⟨k, hk, rfl, hall⟩ := hrel
      have Hall := hid hall
      clear hall
      by_cases hlt : k < s.length
      · cases hc : isDigit s[k]
        · have Ha := hid (all_not hlt hc)
          go_wp2_with (go_at_call 120; refine (ref01_IsDigit _ _).mono ?_; rintro e w' ⟨rfl, rfl⟩)
          go_ret2
          exact ⟨ret_ni (by simp [numParse, hne, Ha.out]), rfl⟩
        · go_wp2_with (go_at_call 120; refine (ref01_IsDigit _ _).mono ?_; rintro e w' ⟨rfl, rfl⟩)
          go_round
          case rel => exact ⟨k + 1, by omega, by go_num, all_take_snoc hlt Hall.out hc⟩
          case measure => simp [intOf]; omega
      · have hall : s.all isDigit = true := by have := Hall.out; rwa [List.take_of_length_le (by omega)] at this
        clear Hall
        have Hall := hid hall
        clear hall
        go_wp2_with fail
        go_loop [9, 10] (fun n i => ∃ k a : Nat, k ≤ s.length ∧ i = .int .i64 k ∧ a ≤ m ∧ n = .int .u64 a ∧ numGo 10 m a (s.drop k) = numGo 10 m 0 s) (fun _ i => s.length - (intOf i).toNat)
        case atStart => exact ⟨0, 0, by omega, rfl, by omega, rfl, rfl⟩
        case round =>
          obtain ⟨j, a, hj, rfl, ha, rfl, heq⟩ := hrel
          have Heq := hid heq
          clear heq
          by_cases hjt : j < s.length
          · have hdg := all_get Hall.out hjt
            simp [isDigit] at hdg
            obtain ⟨hd1, hd2⟩ := hdg
            have Hv := hid (show (hexVal s[j] : Int) = s[j].toNat - 48 by unfold hexVal; rw [if_pos hd2]; omega)
            go_wp2_with fail
            all_goals
              have hu := u64_wrap ((m : Int) - (s[j].toNat - 48)) (by omega) (by omega)
              have hv := Hv.out
              first
              | (go_ret2; exact ⟨ret_ni (numParse_err hne Hall.out Heq.out hjt (by omega)), rfl⟩)
              | (go_round
                 case rel => exact ⟨j + 1, a * 10 + hexVal s[j], by omega, by go_num, by omega, congrArg (Value.int .u64) (by omega), numParse_next Heq.out hjt (by omega)⟩
                 case measure => simp [intOf]; omega)
          · go_wp2_with fail
            go_ret2
            exact ⟨ret_ni (numParse_done hne Hall.out Heq.out hjt), rfl⟩
  · go_enter Tryd.func148, Tryd.ntmps148
    go_wp2_with fail
    go_ret2
    exact ⟨ret_ni (by simp [numParse, hne]), rfl⟩
set_option maxHeartbeats 400000 in
theorem ref04_Strict (s : Bytes) (m : Nat) (w : World) (hs : s.length ≤ 9223372036854775807) (hm : m ≤ 4611686018427387904) :
    Calls Tryd.prog 121 #[(Value.string ⟨List.toArray (s)⟩), .int .u64 m] w fun e w' => e = .returned (.tuple #[.int .u64 (numStrict m s).1, .int .i64 (numStrict m s).2]) ∧ w = w' := by
  have hq : numStrict m s = if digitsOk s = true ∧ 1 < s.length ∧ s.head? = some 48 then (0, 6) else numParse isDigit 10 m s := rfl
  have he := numParse_err_dig m s
  have hc := ref04_parse10 s m w hs hm
  generalize numParse isDigit 10 m s = np at hq he hc
  obtain ⟨n, e⟩ := np
  simp only at hq he hc
  have Hc := hid hc
  clear hc
  by_cases hd : digitsOk s = true
  · rw [hd] at he
    simp only [iff_true] at he
    have hg : (e == 0 || e == 4) = true := by simp; omega
    by_cases h1 : 1 < s.length
    · by_cases h0 : s[0] = 48
      · rw [if_pos ⟨hd, h1, by rw [head_get (by omega), h0]⟩] at hq
        have Hq := hid hq
        have hx : ((s[0].toNat : Int) == 48) = true := by simp [h0]
        clear h0 hq
        rcases he with rfl | rfl
        all_goals
          go_enter Tryd.func121, Tryd.ntmps121
          go_wp2_with fail
          refine Hc.out.mono ?_
          rintro e w' ⟨rfl, rfl⟩
          go_wp2_with fail
          go_ret2
          rw [Hq.out]
          exact ⟨rfl, rfl⟩
      · rw [if_neg (by rintro ⟨_, _, h⟩; rw [head_get (by omega)] at h; exact h0 (by simpa using h))] at hq
        have Hq := hid hq
        have hx : ((s[0].toNat : Int) == 48) = false := u8_ne h0
        clear h0 hq
        rcases he with rfl | rfl
        all_goals
          go_enter Tryd.func121, Tryd.ntmps121
          go_wp2_with fail
          refine Hc.out.mono ?_
          rintro e w' ⟨rfl, rfl⟩
          go_wp2_with fail
          go_ret2
          rw [Hq.out]
          exact ⟨rfl, rfl⟩
    · rw [if_neg (by rintro ⟨_, h, _⟩; exact h1 h)] at hq
      have Hq := hid hq
      clear hq
      rcases he with rfl | rfl
      all_goals
        go_enter Tryd.func121, Tryd.ntmps121
        go_wp2_with fail
        refine Hc.out.mono ?_
        rintro e w' ⟨rfl, rfl⟩
        go_wp2_with fail
        go_ret2
        rw [Hq.out]
        exact ⟨rfl, rfl⟩
  · rw [if_neg (by rintro ⟨h, _, _⟩; exact hd h)] at hq
    have hd2 : digitsOk s = false := by simpa using hd
    rw [hd2] at he
    have h1 : (e == 0) = false := by simp; intro h; simp [h] at he
    have h2 : (e == 4) = false := by simp; intro h; simp [h] at he
    have Hq := hid hq
    clear hd he hq
    go_enter Tryd.func121, Tryd.ntmps121
    go_wp2_with fail
    refine Hc.out.mono ?_
    rintro e w' ⟨rfl, rfl⟩
    go_wp2_with fail
    go_ret2
    rw [Hq.out]
    exact ⟨rfl, rfl⟩
end Go.Proofs.YtnpkjglcbolcbaaDoor
