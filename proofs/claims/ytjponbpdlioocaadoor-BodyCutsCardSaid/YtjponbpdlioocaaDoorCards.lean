/-
  DERIVED. GIVEN WITH THE SEED: THE CARDS: each row of YtjponbpdlioocaaDoorRows.lean that lists a variable, with what it lists TIED to the program's text (the seventh form; the later family's looks); each row that meets fmt, with fmt's text TOLD by the authors' own Lean function (tested against real Go, not proved from fmt's source: count such statements apart). THE CARD IS WHAT COUNTS. Prove the row's statement (the work); the ties are given (YtjponbpdlioocaaDoorTie.lean); close each card by the builder's one call (the guide's Derived/Test/ToyasCard.lean, 'card_holds'). Laid BY PROGRAM, IN A SANDBOX (cutbox-door.mjs). By AI agents, Wed Nov 11 2026. No macro, syntax, notation, axiom, sorry.
-/
import Derived.Test.YtjponbpdlioocaaDoorRows
import GoSem.ClaimSeven
namespace Go.Proofs.YtjponbpdlioocaaDoor
namespace Rows

/-- THE TIED CARD OF 'webfingerlaw19.BodyCuts'. -/
def bodyCutsCard : Claim7 := { stood := { row := bodyCutsRow, standIns := [], harness := (true, "03955c411af9b4b41399a691aff961cdad1d1036d29f74fb8652d728107a8fa5"), looks := false }, kinds := [], alts := [], laidByText := true, laidKinds := [.data, .pinned], laidTests := true, laidLooks := .later }
def BodyCutsCardSaid : Prop := Claim7.holds Tryd.pinned (.plain (OpenSpec.ofChange bodyCutsSpec)) bodyCutsCard

/-- THE TIED CARD OF 'webfingerlaw24.WorldTimes'. -/
def worldTimesCard : Claim7 := { stood := { row := worldTimesRow, standIns := [], harness := (true, "03955c411af9b4b41399a691aff961cdad1d1036d29f74fb8652d728107a8fa5"), looks := false }, kinds := [], alts := [], laidByText := true, laidKinds := [.data, .pinned], laidTests := true, laidLooks := .later }
def WorldTimesCardSaid : Prop := Claim7.holds Tryd.pinned (.plain (OpenSpec.ofChange worldTimesSpec)) worldTimesCard

/-- THE TIED CARD OF 'webfingerlaw24.WorldWithout'. -/
def worldWithoutCard : Claim7 := { stood := { row := worldWithoutRow, standIns := [], harness := (true, "03955c411af9b4b41399a691aff961cdad1d1036d29f74fb8652d728107a8fa5"), looks := false }, kinds := [], alts := [], laidByText := true, laidKinds := [.data, .pinned], laidTests := true, laidLooks := .later }
def WorldWithoutCardSaid : Prop := Claim7.holds Tryd.pinned (.plain (OpenSpec.ofChange worldWithoutSpec)) worldWithoutCard

/-- THE SECOND FORM's CARD OF 'webfingerlaw19.BodyCuts'. -/
def bodyCutsUptoCard : Claim7 := { stood := { row := bodyCutsUptoRow, standIns := [], harness := (true, "03955c411af9b4b41399a691aff961cdad1d1036d29f74fb8652d728107a8fa5"), looks := false }, kinds := [], alts := [], laidByText := true, laidKinds := [.data, .pinned], laidTests := true, laidLooks := .later }
def BodyCutsUptoCardSaid : Prop := Claim7.holds Tryd.pinned (.plain (OpenSpec.upto bodyCutsSpec)) bodyCutsUptoCard

/-- THE SECOND FORM's CARD OF 'webfingerlaw24.WorldTimes'. -/
def worldTimesUptoCard : Claim7 := { stood := { row := worldTimesUptoRow, standIns := [], harness := (true, "03955c411af9b4b41399a691aff961cdad1d1036d29f74fb8652d728107a8fa5"), looks := false }, kinds := [], alts := [], laidByText := true, laidKinds := [.data, .pinned], laidTests := true, laidLooks := .later }
def WorldTimesUptoCardSaid : Prop := Claim7.holds Tryd.pinned (.plain (OpenSpec.upto worldTimesSpec)) worldTimesUptoCard

/-- THE SECOND FORM's CARD OF 'webfingerlaw24.WorldWithout'. -/
def worldWithoutUptoCard : Claim7 := { stood := { row := worldWithoutUptoRow, standIns := [], harness := (true, "03955c411af9b4b41399a691aff961cdad1d1036d29f74fb8652d728107a8fa5"), looks := false }, kinds := [], alts := [], laidByText := true, laidKinds := [.data, .pinned], laidTests := true, laidLooks := .later }
def WorldWithoutUptoCardSaid : Prop := Claim7.holds Tryd.pinned (.plain (OpenSpec.upto worldWithoutSpec)) worldWithoutUptoCard
end Rows
end Go.Proofs.YtjponbpdlioocaaDoor
