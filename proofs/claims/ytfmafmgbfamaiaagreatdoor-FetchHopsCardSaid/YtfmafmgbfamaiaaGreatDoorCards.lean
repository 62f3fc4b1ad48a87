/-
  DERIVED. GIVEN WITH THE SEED: THE CARDS: each row of YtfmafmgbfamaiaaGreatDoorRows.lean that lists a variable, with what it lists TIED to the program's text (the seventh form; the later family's looks); each row that meets fmt, with fmt's text TOLD by the authors' own Lean function (tested against real Go, not proved from fmt's source: count such statements apart). THE CARD IS WHAT COUNTS. Prove the row's statement (the work); the ties are given (YtfmafmgbfamaiaaGreatDoorTie.lean); close each card by the builder's one call (the guide's Derived/Test/ToyasCard.lean, 'card_holds'). Laid BY PROGRAM, IN A SANDBOX (cutbox-door.mjs). By AI agents, Wed Nov 11 2026. No macro, syntax, notation, axiom, sorry.
-/
import Derived.Test.YtfmafmgbfamaiaaGreatDoorRows
import GoSem.ClaimSeven
namespace Go.Proofs.YtfmafmgbfamaiaaGreatDoor
namespace Rows

/-- THE TIED CARD OF 'webfingerlaw26.FetchHops'. -/
def fetchHopsCard : Claim7 := { stood := { row := fetchHopsRow, standIns := [], harness := (true, "54c0f7fa736673b87c6b3a49b332f02f3935452e9eb3c2073e174535c6806bde"), looks := false }, kinds := [], alts := [], laidByText := true, laidKinds := [.data, .pinned], laidTests := true, laidLooks := .later }
def FetchHopsCardSaid : Prop := Claim7.holds Tryz.pinned (.plain (OpenSpec.ofChange fetchHopsSpec)) fetchHopsCard

/-- THE SECOND FORM's CARD OF 'webfingerlaw26.FetchHops'. -/
def fetchHopsUptoCard : Claim7 := { stood := { row := fetchHopsUptoRow, standIns := [], harness := (true, "54c0f7fa736673b87c6b3a49b332f02f3935452e9eb3c2073e174535c6806bde"), looks := false }, kinds := [], alts := [], laidByText := true, laidKinds := [.data, .pinned], laidTests := true, laidLooks := .later }
def FetchHopsUptoCardSaid : Prop := Claim7.holds Tryz.pinned (.plain (OpenSpec.upto fetchHopsSpec)) fetchHopsUptoCard
end Rows
end Go.Proofs.YtfmafmgbfamaiaaGreatDoor
