/-
  DERIVED. GIVEN WITH THE SEED: THE CARDS: each row of YtjponbpdlioocaaGreatDoorRows.lean that lists a variable, with what it lists TIED to the program's text (the seventh form; the later family's looks); each row that meets fmt, with fmt's text TOLD by the authors' own Lean function (tested against real Go, not proved from fmt's source: count such statements apart). THE CARD IS WHAT COUNTS. Prove the row's statement (the work); the ties are given (YtjponbpdlioocaaGreatDoorTie.lean); close each card by the builder's one call (the guide's Derived/Test/ToyasCard.lean, 'card_holds'). Laid BY PROGRAM, IN A SANDBOX (cutbox-door.mjs). By AI agents, Wed Nov 11 2026. No macro, syntax, notation, axiom, sorry.
-/
import Derived.Test.YtjponbpdlioocaaGreatDoorRows
import GoSem.ClaimSeven
namespace Go.Proofs.YtjponbpdlioocaaGreatDoor
namespace Rows

/-- THE TIED CARD OF 'webfingerlaw24.WorldAsks'. -/
def worldAsksCard : Claim7 := { stood := { row := worldAsksRow, standIns := [], harness := (true, "ec941b9db91e8819d9fe056ec1a861c397161c48cf64bbb8f79207bbf6bf12a0"), looks := false }, kinds := [], alts := [], laidByText := true, laidKinds := [.data, .pinned], laidTests := true, laidLooks := .later }
def WorldAsksCardSaid : Prop := Claim7.holds Tryz.pinned (.plain (OpenSpec.ofChange worldAsksSpec)) worldAsksCard

/-- THE SECOND FORM's CARD OF 'webfingerlaw24.WorldAsks'. -/
def worldAsksUptoCard : Claim7 := { stood := { row := worldAsksUptoRow, standIns := [], harness := (true, "ec941b9db91e8819d9fe056ec1a861c397161c48cf64bbb8f79207bbf6bf12a0"), looks := false }, kinds := [], alts := [], laidByText := true, laidKinds := [.data, .pinned], laidTests := true, laidLooks := .later }
def WorldAsksUptoCardSaid : Prop := Claim7.holds Tryz.pinned (.plain (OpenSpec.upto worldAsksSpec)) worldAsksUptoCard
end Rows
end Go.Proofs.YtjponbpdlioocaaGreatDoor
