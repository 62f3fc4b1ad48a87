/- The walks of package ascii. -/
import Derived.Test.YthonlmejcnpgcaaDoorProg
import Derived.Test.YthonlmejcnpgcaaDoorBase
import Derived.Test.YthonlmejcnpgcaaDoorShelf
namespace Go.Proofs.YthonlmejcnpgcaaDoor
open Go.RowKit Wf
attribute [local go_sem] ex_list app_list get_list
set_option maxHeartbeats 400000 in
theorem ascii_IsDigit (c : UInt8) (w : World) : Calls Tryd.prog 42 #[.int .u8 c.toNat] w fun e w' => e = .returned (.bool (isDigit c)) ∧ w = w' := by
  go_enter Tryd.func42, Tryd.ntmps42
  go_wp2
  all_goals
    go_ret
    refine ⟨ret_bool ?_, rfl⟩
    have hb := or32 c
    have hc := c.toNat_lt
    rw [Bool.eq_iff_iff]
    simp [isDigit]
    try omega
set_option maxHeartbeats 400000 in
theorem ascii_IsAlpha (c : UInt8) (w : World) : Calls Tryd.prog 41 #[.int .u8 c.toNat] w fun e w' => e = .returned (.bool (isAlpha c)) ∧ w = w' := by
  go_enter Tryd.func41, Tryd.ntmps41
  go_wp2
  all_goals
    go_ret
    refine ⟨ret_bool ?_, rfl⟩
    have hb := or32 c
    have hc := c.toNat_lt
    rw [Bool.eq_iff_iff]
    simp [isAlpha]
    try omega
set_option maxHeartbeats 400000 in
theorem ref01_IsDigit (c : UInt8) (w : World) : Calls Tryd.prog 45 #[.int .u8 c.toNat] w fun e w' => e = .returned (.bool (isDigit c)) ∧ w = w' := by
  go_enter Tryd.func45, Tryd.ntmps45
  go_wp2
  all_goals
    go_ret
    refine ⟨ret_bool ?_, rfl⟩
    have hb := or32 c
    have hc := c.toNat_lt
    rw [Bool.eq_iff_iff]
    simp [isDigit]
    try omega
set_option maxHeartbeats 400000 in
theorem ref01_IsAlpha (c : UInt8) (w : World) : Calls Tryd.prog 44 #[.int .u8 c.toNat] w fun e w' => e = .returned (.bool (isAlpha c)) ∧ w = w' := by
  go_enter Tryd.func44, Tryd.ntmps44
  go_wp2
  all_goals
    go_ret
    refine ⟨ret_bool ?_, rfl⟩
    have hb := or32 c
    have hc := c.toNat_lt
    rw [Bool.eq_iff_iff]
    simp [isAlpha]
    try omega
set_option maxHeartbeats 400000 in
theorem ref01_IsHex (c : UInt8) (w : World) : Calls Tryd.prog 50 #[.int .u8 c.toNat] w fun e w' => e = .returned (.bool (isHex c)) ∧ w = w' := by
  go_enter Tryd.func50, Tryd.ntmps50
  go_wp2
  all_goals
    go_ret
    refine ⟨ret_bool ?_, rfl⟩
    have hb := or32 c
    have hc := c.toNat_lt
    rw [Bool.eq_iff_iff]
    simp [isHex]
    try omega
end Go.Proofs.YthonlmejcnpgcaaDoor
