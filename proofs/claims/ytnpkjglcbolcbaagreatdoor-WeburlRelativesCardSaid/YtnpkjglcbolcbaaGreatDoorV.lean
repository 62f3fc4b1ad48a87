/- The calculus of conditions at this program. -/
import Derived.Test.YtnpkjglcbolcbaaGreatDoorTy
import Derived.Test.YtnpkjglcbolcbaaGreatDoorSmall
set_option linter.all false
namespace Go.Proofs
open Go Vc Go.Proofs.YtnpkjglcbolcbaaGreatDoor
noncomputable def Tryz.V : Vc.Cx where
  P := Tryz.prog
  Γ := Tryz.Γ
  E := Env
  G := 0 + 1
  esize := fun _ h => h.lt
  estays := fun w _ ⟨m, hm⟩ hk _ => ⟨m, (World.cell?_of_block (w := w) (hk _ (Nat.lt_succ_self _))).trans hm⟩
  gok := Tryz.gok
  mixed := by kernel_rfl
theorem Tryz.VΓ : Tryz.V.Γ = Tryz.Γ := rfl
end Go.Proofs
