/- The calculus of conditions at this program. -/
import Derived.Test.YtnncgbamppaacaaDoorTy
import Derived.Test.YtnncgbamppaacaaDoorSmall
set_option linter.all false
namespace Go.Proofs
open Go Vc Go.Proofs.YtnncgbamppaacaaDoor
noncomputable def Tryd.V : Vc.Cx where
  P := Tryd.prog
  Γ := Tryd.Γ
  E := Env
  G := 0 + 1
  esize := fun _ h => h.lt
  estays := fun w _ ⟨m, hm⟩ hk _ => ⟨m, (World.cell?_of_block (w := w) (hk _ (Nat.lt_succ_self _))).trans hm⟩
  gok := Tryd.gok
  mixed := by kernel_rfl
theorem Tryd.VΓ : Tryd.V.Γ = Tryd.Γ := rfl
end Go.Proofs
