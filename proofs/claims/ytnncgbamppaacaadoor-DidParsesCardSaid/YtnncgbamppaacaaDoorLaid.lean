/- The frame of the cards: a world with Go's tables. -/
import Derived.Test.YtnncgbamppaacaaDoorCards
import Derived.Test.YtnncgbamppaacaaDoorTie
import Derived.Test.YtnncgbamppaacaaDoorFrame
set_option linter.all false
namespace Go.Proofs.YtnncgbamppaacaaDoor
/-- The cells that a datum of numbers lays. -/
def flatD : Nat → DataW Unit → List Value
  | _, .lit (.int k i) => [.int k i]
  | n + 1, .agg ps => ps.flatMap (flatD n)
  | _, _ => []
def setCells (d : DataW Unit) : Obj → Obj
  | .cells _ t fr => .cells (flatD 8 d).toArray t fr
  | o => o
/-- The settled world, with both tables laid. -/
noncomputable def laidWorld (os : Os) : World :=
  { World.holding Tryd.prog os ⟨#[], #[], []⟩ with heap := ((World.holding Tryd.prog os ⟨#[], #[], []⟩).heap.modify 1 (setCells Go.Pinned.utf8First)).modify 2 (setCells Rows.laid_unicode_utf8_acceptRanges) }
set_option maxRecDepth 100000 in
theorem laid_met (os : Os) (args : Array Value) : laidMet Tryd.prog [("unicode/utf8.acceptRanges", Rows.laid_unicode_utf8_acceptRanges), ("unicode/utf8.first", Rows.laid_unicode_utf8_first)] ((laidWorld os).forCall (fun _ _ => 0) ⟨#[], args, []⟩).memory :=
  laidMet_of_run3 8 (by kernel_rfl) (by kernel_rfl) (by kernel_rfl)
open Go in
theorem pf_looks : false = Tryd.pinned.checked.prog.looks [] := by kernel_rfl
end Go.Proofs.YtnncgbamppaacaaDoor
