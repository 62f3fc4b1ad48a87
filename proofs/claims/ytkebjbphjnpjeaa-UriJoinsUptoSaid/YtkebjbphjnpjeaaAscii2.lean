/- The walks of package ascii: strings. -/
import Derived.Test.YtkebjbphjnpjeaaAscii
import Derived.Test.YtkebjbphjnpjeaaBytes
set_option linter.all false
namespace Go.Proofs.Ytkebjbphjnpjeaa
open Go.RowKit Wf
attribute [local go_sem] ex_list app_list get_list


set_option maxHeartbeats 400000 in
theorem ref01_In (c : UInt8) (s : Bytes) (w : World) (hs : s.length ≤ 9223372036854775807) :
    Calls Try.prog 47 #[.int .u8 c.toNat, (Value.string ⟨List.toArray (s)⟩)] w fun e w' => e = .returned (.bool (has s c)) ∧ w = w' := by
  go_enter Try.func47, Try.ntmps47
  go_wp2_with fail
  go_loop [5] (fun i => ∃ k : Nat, k ≤ s.length ∧ i = .int .i64 k ∧ has (s.take k) c = false) (fun i => s.length - (intOf i).toNat)
  case atStart => exact ⟨0, by omega, rfl, rfl⟩
  case round =>
    obtain ⟨k, hk, rfl, hall⟩ := hrel
    have Hall := hid hall
    clear hall
    by_cases hlt : k < s.length
    · by_cases hc : s[k] = c
      · have hx : ((s[k].toNat : Int) == (c.toNat : Int)) = true := by simp [hc]
        have Ha := hid (show has s c = true by unfold has; rw [List.contains_iff_mem]; exact hc ▸ List.getElem_mem hlt)
        go_wp2_with fail
        go_ret
        exact ⟨ret_bool Ha.out.symm, rfl⟩
      · have hx : ((s[k].toNat : Int) == (c.toNat : Int)) = false := by
          rw [beq_eq_false_iff_ne]
          intro h
          exact hc (UInt8.toNat_inj.1 (by omega))
        go_wp2_with fail
        go_round
        case rel => exact ⟨k + 1, by omega, by go_num, by
          have := Hall.out
          unfold has at this ⊢
          rw [List.take_succ_eq_append_getElem hlt, List.contains_eq_any_beq, List.any_append, ← List.contains_eq_any_beq, this]
          simp
          exact fun h => hc h.symm⟩
        case measure => simp [intOf]; omega
    · have hall := Hall.out
      rw [List.take_of_length_le (by omega)] at hall
      have Ha := hid hall
      clear hall Hall
      go_wp2_with fail
      go_ret
      exact ⟨ret_bool Ha.out.symm, rfl⟩
set_option maxHeartbeats 400000 in
theorem ref01_Index (s t : Bytes) (w : World) (hs : s.length ≤ 9223372036854775807) (ht : t.length ≤ 9223372036854775807) :
    Calls Try.prog 26 #[(Value.string ⟨List.toArray (s)⟩), (Value.string ⟨List.toArray (t)⟩)] w fun e w' => e = .returned (.int .i64 (pre (has t ·) s)) ∧ w = w' := by
  have hle := pre_le (has t ·) s
  go_enter Try.func26, Try.ntmps26
  go_wp2_with fail
  go_loop [5] (fun i => ∃ k : Nat, k ≤ pre (has t ·) s ∧ i = .int .i64 k) (fun i => s.length - (intOf i).toNat)
  case atStart => exact ⟨0, by omega, rfl⟩
  case round =>
    obtain ⟨k, hk, rfl⟩ := hrel
    by_cases hlt : k < pre (has t ·) s
    · have hc := pre_get hlt (by omega)
      go_wp2_with (go_at_call 47; refine (ref01_In _ _ _ ht).mono ?_; rintro e w' ⟨rfl, rfl⟩)
      go_round
      case rel => exact ⟨k + 1, by omega, by go_num⟩
      case measure => simp [intOf]; omega
    · obtain rfl : k = pre (has t ·) s := by omega
      clear hk hlt
      by_cases hend : pre (has t ·) s < s.length
      · have hc := pre_at hend
        go_wp2_with (go_at_call 47; refine (ref01_In _ _ _ ht).mono ?_; rintro e w' ⟨rfl, rfl⟩)
        go_ret
        exact ⟨rfl, rfl⟩
      · have he := hid (show pre (has t ·) s = s.length by omega)
        go_wp2_with fail
        go_ret
        exact ⟨ret_int (by rw [he.out]), rfl⟩
end Go.Proofs.Ytkebjbphjnpjeaa
