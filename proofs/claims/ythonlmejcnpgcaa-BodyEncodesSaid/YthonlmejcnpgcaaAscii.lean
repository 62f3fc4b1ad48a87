/- The walks of package ascii. -/
import Derived.Test.YthonlmejcnpgcaaProg
import Derived.Test.YthonlmejcnpgcaaBase
import Derived.Test.YthonlmejcnpgcaaShelf
namespace Go.Proofs.Ythonlmejcnpgcaa
open Go.RowKit Wf
attribute [local go_sem] ex_list app_list get_list
set_option maxHeartbeats 400000 in
theorem ascii_IsDigit (c : UInt8) (w : World) : Calls Try.prog 26 #[.int .u8 c.toNat] w fun e w' => e = .returned (.bool (isDigit c)) ∧ w = w' := by
  go_enter Try.func26, Try.ntmps26
  go_wp2
  all_goals
    go_ret
    refine ⟨ret_bool ?_, rfl⟩
    have hb := or32 c
    have hc := c.toNat_lt
    rw [Bool.eq_iff_iff]
    simp [isDigit]
    try omega
set_option maxHeartbeats 400000 in
theorem ascii_IsHex (c : UInt8) (w : World) : Calls Try.prog 20 #[.int .u8 c.toNat] w fun e w' => e = .returned (.bool (isHex c)) ∧ w = w' := by
  go_enter Try.func20, Try.ntmps20
  go_wp2
  all_goals
    go_ret
    refine ⟨ret_bool ?_, rfl⟩
    have hb := or32 c
    have hc := c.toNat_lt
    rw [Bool.eq_iff_iff]
    simp [isHex]
    try omega
end Go.Proofs.Ythonlmejcnpgcaa
