/- The walks of package ascii. -/
import Derived.Test.YtnpkjglcbolcbaaGreatDoorProg
import Derived.Test.YtnpkjglcbolcbaaGreatDoorBase
import Derived.Test.YtnpkjglcbolcbaaGreatDoorShelf
set_option linter.all false
namespace Go.Proofs.YtnpkjglcbolcbaaGreatDoor
open Go.RowKit Wf
attribute [local go_sem] ex_list app_list get_list
set_option maxHeartbeats 400000 in
theorem ascii_IsDigit (c : UInt8) (w : World) : Calls Tryz.prog 158 #[.int .u8 c.toNat] w fun e w' => e = .returned (.bool (isDigit c)) ∧ w = w' := by
  go_enter Tryz.func158, Tryz.ntmps158
  go_wp2
  all_goals
    go_ret
    refine ⟨ret_bool ?_, rfl⟩
    have hb := or32 c
    have hc := c.toNat_lt
    rw [Bool.eq_iff_iff]
    simp [isDigit]
    try omega
set_option maxHeartbeats 400000 in
theorem ascii_IsAlpha (c : UInt8) (w : World) : Calls Tryz.prog 157 #[.int .u8 c.toNat] w fun e w' => e = .returned (.bool (isAlpha c)) ∧ w = w' := by
  go_enter Tryz.func157, Tryz.ntmps157
  go_wp2
  all_goals
    go_ret
    refine ⟨ret_bool ?_, rfl⟩
    have hb := or32 c
    have hc := c.toNat_lt
    rw [Bool.eq_iff_iff]
    simp [isAlpha]
    try omega
set_option maxHeartbeats 400000 in
theorem ascii_IsHex (c : UInt8) (w : World) : Calls Tryz.prog 165 #[.int .u8 c.toNat] w fun e w' => e = .returned (.bool (isHex c)) ∧ w = w' := by
  go_enter Tryz.func165, Tryz.ntmps165
  go_wp2
  all_goals
    go_ret
    refine ⟨ret_bool ?_, rfl⟩
    have hb := or32 c
    have hc := c.toNat_lt
    rw [Bool.eq_iff_iff]
    simp [isHex]
    try omega
set_option maxHeartbeats 400000 in
theorem ref01_IsDigit (c : UInt8) (w : World) : Calls Tryz.prog 137 #[.int .u8 c.toNat] w fun e w' => e = .returned (.bool (isDigit c)) ∧ w = w' := by
  go_enter Tryz.func137, Tryz.ntmps137
  go_wp2
  all_goals
    go_ret
    refine ⟨ret_bool ?_, rfl⟩
    have hb := or32 c
    have hc := c.toNat_lt
    rw [Bool.eq_iff_iff]
    simp [isDigit]
    try omega
set_option maxHeartbeats 400000 in
theorem ref01_IsAlpha (c : UInt8) (w : World) : Calls Tryz.prog 138 #[.int .u8 c.toNat] w fun e w' => e = .returned (.bool (isAlpha c)) ∧ w = w' := by
  go_enter Tryz.func138, Tryz.ntmps138
  go_wp2
  all_goals
    go_ret
    refine ⟨ret_bool ?_, rfl⟩
    have hb := or32 c
    have hc := c.toNat_lt
    rw [Bool.eq_iff_iff]
    simp [isAlpha]
    try omega
set_option maxHeartbeats 400000 in
theorem ref01_IsHex (c : UInt8) (w : World) : Calls Tryz.prog 174 #[.int .u8 c.toNat] w fun e w' => e = .returned (.bool (isHex c)) ∧ w = w' := by
  go_enter Tryz.func174, Tryz.ntmps174
  go_wp2
  all_goals
    go_ret
    refine ⟨ret_bool ?_, rfl⟩
    have hb := or32 c
    have hc := c.toNat_lt
    rw [Bool.eq_iff_iff]
    simp [isHex]
    try omega
end Go.Proofs.YtnpkjglcbolcbaaGreatDoor
