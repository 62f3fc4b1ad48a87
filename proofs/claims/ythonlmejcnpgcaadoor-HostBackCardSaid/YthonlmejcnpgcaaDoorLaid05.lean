/- The frame of the cards of package host: a world with Go's tables. -/
import Derived.Test.YthonlmejcnpgcaaDoorCards
import Derived.Test.YthonlmejcnpgcaaDoorTie
import Derived.Test.YthonlmejcnpgcaaDoorStr
import Derived.WalkKit
import Derived.ProofKit
import Derived.OpenShut
import Derived.ShutString
import Derived.Deep.DeepHandedRow
import Derived.Deep.DeepLaidRun
import Derived.Lib.LaidTab
namespace Go.Proofs.YthonlmejcnpgcaaDoor
theorem env_of {W : World} (h : W.ShapedOpen Tryd.prog) : Env W :=
  Go.Proofs.cell_of_shapedOpen_int (zero := #[.int .i64 0]) (t := 3) h (of_decide_eq_true (by kernel_rfl)) (by kernel_rfl) rfl (by kernel_rfl) (by kernel_rfl) Tryd.underlying3
theorem own : ownKnob Tryd.prog.godebug = none := by kernel_rfl

/-- The cells that a datum of numbers lays. -/
def flat : Nat → DataW Unit → List Value
  | _, .lit (.int k i) => [.int k i]
  | n + 1, .agg ps => ps.flatMap (flat n)
  | _, _ => []
def setCells (d : DataW Unit) : Obj → Obj
  | .cells _ t fr => .cells (flat 8 d).toArray t fr
  | o => o
/-- The settled world, with both tables laid. -/
noncomputable def laidWorld (os : Os) : World :=
  { World.holding Tryd.prog os ⟨#[], #[], []⟩ with heap := ((World.holding Tryd.prog os ⟨#[], #[], []⟩).heap.modify 1 (setCells Go.Pinned.utf8First)).modify 2 (setCells Rows.laid_unicode_utf8_acceptRanges) }
set_option maxRecDepth 100000 in
theorem laid_met (os : Os) (args : Array Value) : laidMet Tryd.prog [("unicode/utf8.acceptRanges", Rows.laid_unicode_utf8_acceptRanges), ("unicode/utf8.first", Rows.laid_unicode_utf8_first)] ((laidWorld os).forCall (fun _ _ => 0) ⟨#[], args, []⟩).memory :=
  laidMet_of_run3 8 (by kernel_rfl) (by kernel_rfl) (by kernel_rfl)
end Go.Proofs.YthonlmejcnpgcaaDoor
