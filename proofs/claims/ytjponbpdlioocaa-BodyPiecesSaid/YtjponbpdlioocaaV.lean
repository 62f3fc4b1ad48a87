/- The calculus of conditions at this program. -/
import Derived.Test.YtjponbpdlioocaaTy
import Derived.Test.YtjponbpdlioocaaSmall
set_option linter.all false
namespace Go.Proofs
open Go Vc Go.Proofs.Ytjponbpdlioocaa
noncomputable def Try.V : Vc.Cx where
  P := Try.prog
  Γ := Try.Γ
  E := Env
  G := 0 + 1
  esize := fun _ h => h.lt
  estays := fun w _ ⟨m, hm⟩ hk _ => ⟨m, (World.cell?_of_block (w := w) (hk _ (Nat.lt_succ_self _))).trans hm⟩
  gok := Try.gok
  mixed := by kernel_rfl
theorem Try.VΓ : Try.V.Γ = Try.Γ := rfl
end Go.Proofs
