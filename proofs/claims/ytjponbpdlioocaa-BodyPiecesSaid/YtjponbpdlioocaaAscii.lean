/- The walks of package ascii. -/
import Derived.Test.YtjponbpdlioocaaProg
import Derived.Test.YtjponbpdlioocaaBase
import Derived.Test.YtjponbpdlioocaaShelf
set_option linter.all false
namespace Go.Proofs.Ytjponbpdlioocaa
open Go.RowKit Wf
attribute [local go_sem] ex_list app_list get_list
set_option maxHeartbeats 400000 in
theorem ascii_IsDigit (c : UInt8) (w : World) : Calls Try.prog 22 #[.int .u8 c.toNat] w fun e w' => e = .returned (.bool (isDigit c)) ∧ w = w' := by
  go_enter Try.func22, Try.ntmps22
  go_wp2
  all_goals
    go_ret
    refine ⟨ret_bool ?_, rfl⟩
    have hb := or32 c
    have hc := c.toNat_lt
    rw [Bool.eq_iff_iff]
    simp [isDigit]
    try omega
set_option maxHeartbeats 400000 in
theorem ascii_IsHex (c : UInt8) (w : World) : Calls Try.prog 16 #[.int .u8 c.toNat] w fun e w' => e = .returned (.bool (isHex c)) ∧ w = w' := by
  go_enter Try.func16, Try.ntmps16
  go_wp2
  all_goals
    go_ret
    refine ⟨ret_bool ?_, rfl⟩
    have hb := or32 c
    have hc := c.toNat_lt
    rw [Bool.eq_iff_iff]
    simp [isHex]
    try omega
end Go.Proofs.Ytjponbpdlioocaa
