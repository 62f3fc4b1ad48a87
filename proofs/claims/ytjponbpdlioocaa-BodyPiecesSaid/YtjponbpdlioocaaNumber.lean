/- The walks of package number. -/
import Derived.Test.YtjponbpdlioocaaAscii
set_option linter.all false
namespace Go.Proofs.Ytjponbpdlioocaa
open Go.RowKit Wf
attribute [local go_sem] ex_list app_list get_list

set_option maxHeartbeats 400000 in
theorem number_value (c : UInt8) (w : World) (h : isHex c = true) : Calls Try.prog 32 #[.int .u8 c.toNat] w fun e w' => e = .returned (.int .u64 (hexVal c)) ∧ w = w' := by
  cases hd : isDigit c
  all_goals
    go_enter Try.func32, Try.ntmps32
    go_wp2_with (go_at_call 22; refine (ascii_IsDigit _ _).mono ?_; rintro e w' ⟨rfl, rfl⟩)
    go_ret
    refine ⟨ret_int ?_, rfl⟩
    have hb := or32 c
    simp [isHex, isDigit] at h hd
    unfold hexVal
    split <;> (try split) <;> omega

set_option maxHeartbeats 1000000 in
theorem number_parse16 (s : Bytes) (m : Nat) (w : World) (hs : s.length ≤ 9223372036854775807) (hm : m ≤ 4611686018427387904) :
    Calls Try.prog 24 #[(Value.string ⟨List.toArray (s)⟩), .int .u64 16, .int .u64 m, .func (.func 16) #[] #[]] w fun e w' => e = .returned (.tuple #[.int .u64 (numParse isHex 16 m s).1, .int .i64 (numParse isHex 16 m s).2]) ∧ w = w' := by
  cases hne : s.isEmpty
  · go_enter Try.func24, Try.ntmps24
    go_wp2_with fail
    go_loop [18] (fun i => ∃ k : Nat, k ≤ s.length ∧ i = .int .i64 k ∧ (s.take k).all isHex = true) (fun i => s.length - (intOf i).toNat)
    case atStart => exact ⟨0, by omega, rfl, rfl⟩
    case round =>
      obtain ⟨k, hk, rfl, hall⟩ := hrel
      have Hall := hid hall
      clear hall
      by_cases hlt : k < s.length
      · cases hc : isHex s[k]
        · go_wp2_with (go_at_call 16; refine (ascii_IsHex _ _).mono ?_; rintro e w' ⟨rfl, rfl⟩)
          go_ret2
          exact ⟨ret_ni (by simp [numParse, hne, all_not hlt hc]), rfl⟩
        · go_wp2_with (go_at_call 16; refine (ascii_IsHex _ _).mono ?_; rintro e w' ⟨rfl, rfl⟩)
          go_round
          case rel => exact ⟨k + 1, by omega, by go_num, all_take_snoc hlt Hall.out hc⟩
          case measure => simp [intOf]; omega
      · have hall : s.all isHex = true := by have := Hall.out; rwa [List.take_of_length_le (by omega)] at this
        clear Hall
        have Hall := hid hall
        clear hall
        go_wp2_with fail
        go_loop [11, 30] (fun n i => ∃ k a : Nat, k ≤ s.length ∧ i = .int .i64 k ∧ a ≤ m ∧ n = .int .u64 a ∧ numGo 16 m a (s.drop k) = numGo 16 m 0 s) (fun _ i => s.length - (intOf i).toNat)
        case atStart => exact ⟨0, 0, by omega, rfl, by omega, rfl, rfl⟩
        case round =>
          obtain ⟨j, a, hj, rfl, ha, rfl, heq⟩ := hrel
          have Heq := hid heq
          clear heq
          by_cases hjt : j < s.length
          · have hv := hexVal_le (show isHex s[j] = true by have := all_get Hall.out hjt; first | exact this | (simp [isDigit, isHex] at this ⊢; omega))
            go_wp2_with (go_at_call 32; refine (number_value _ _ (by have := all_get Hall.out hjt; first | exact this | (simp [isDigit, isHex] at this ⊢; omega))).mono ?_; rintro e w' ⟨rfl, rfl⟩)
            all_goals first
              | (go_ret2; exact ⟨ret_ni (numParse_err hne Hall.out Heq.out hjt (by omega)), rfl⟩)
              | (go_round
                 case rel => exact ⟨j + 1, a * 16 + hexVal s[j], by omega, by go_num, by omega, by go_num, numParse_next Heq.out hjt (by omega)⟩
                 case measure => simp [intOf]; omega)
          · go_wp2_with fail
            go_ret2
            exact ⟨ret_ni (numParse_done hne Hall.out Heq.out hjt), rfl⟩
  · go_enter Try.func24, Try.ntmps24
    go_wp2_with fail
    go_ret2
    exact ⟨ret_ni (by simp [numParse, hne]), rfl⟩
set_option maxHeartbeats 400000 in
theorem number_Hex (s : Bytes) (m : Nat) (w : World) (hs : s.length ≤ 9223372036854775807) (hm : m ≤ 4611686018427387904) :
    Calls Try.prog 18 #[(Value.string ⟨List.toArray (s)⟩), .int .u64 m] w fun e w' => e = .returned (.tuple #[.int .u64 (numParse isHex 16 m s).1, .int .i64 (numParse isHex 16 m s).2]) ∧ w = w' := by
  go_enter Try.func18, Try.ntmps18
  go_wp2_with (go_at_call 24; refine (number_parse16 _ _ _ hs hm).mono ?_; rintro e w' ⟨rfl, rfl⟩)
  go_ret2
  exact ⟨rfl, rfl⟩
theorem number_Hex62 (s : Bytes) (w : World) (hs : s.length ≤ 9223372036854775807) :
    Calls Try.prog 18 #[(Value.string ⟨List.toArray (s)⟩), .int .u64 4611686018427387904] w fun e w' => e = .returned (.tuple #[.int .u64 (numParse isHex 16 4611686018427387904 s).1, .int .i64 (numParse isHex 16 4611686018427387904 s).2]) ∧ w = w' :=
  number_Hex s 4611686018427387904 w hs (Nat.le_refl _)
end Go.Proofs.Ytjponbpdlioocaa
