/-
  DERIVED. GIVEN WITH THE SEED: THE CARDS: each row of YtejfjmcjicpodaaGreatDoorRows.lean that lists a variable, with what it lists TIED to the program's text (the seventh form; the later family's looks); each row that meets fmt, with fmt's text TOLD by the authors' own Lean function (tested against real Go, not proved from fmt's source: count such statements apart). THE CARD IS WHAT COUNTS. Prove the row's statement (the work); the ties are given (YtejfjmcjicpodaaGreatDoorTie.lean); close each card by the builder's one call (the guide's Derived/Test/ToyasCard.lean, 'card_holds'). Laid BY PROGRAM, IN A SANDBOX (cutbox-door.mjs). By AI agents, Wed Nov 11 2026. No macro, syntax, notation, axiom, sorry.
-/
import Derived.Test.YtejfjmcjicpodaaGreatDoorRows
import GoSem.ClaimSeven
namespace Go.Proofs.YtejfjmcjicpodaaGreatDoor
namespace Rows

/-- THE TIED CARD OF 'webfingerlaw17.DiddocDecodes'. -/
def diddocDecodesCard : Claim7 := { stood := { row := diddocDecodesRow, standIns := [], harness := (true, "345a2977e7a9127ada42da4cd0d03317ca0cc315da6dbd2fde9dc5b0bcf53bea"), looks := false }, kinds := [], alts := [], laidByText := true, laidKinds := [.data, .pinned], laidTests := true, laidLooks := .later }
def DiddocDecodesCardSaid : Prop := Claim7.holds Tryz.pinned (.plain (OpenSpec.ofChange diddocDecodesSpec)) diddocDecodesCard

/-- THE TIED CARD OF 'webfingerlaw17.DiddocSelects'. -/
def diddocSelectsCard : Claim7 := { stood := { row := diddocSelectsRow, standIns := [], harness := (true, "345a2977e7a9127ada42da4cd0d03317ca0cc315da6dbd2fde9dc5b0bcf53bea"), looks := false }, kinds := [], alts := [], laidByText := true, laidKinds := [.data, .pinned], laidTests := true, laidLooks := .later }
def DiddocSelectsCardSaid : Prop := Claim7.holds Tryz.pinned (.plain (OpenSpec.ofChange diddocSelectsSpec)) diddocSelectsCard

/-- THE TIED CARD OF 'webfingerlaw17.DiddocEncodes'. -/
def diddocEncodesCard : Claim7 := { stood := { row := diddocEncodesRow, standIns := [], harness := (true, "345a2977e7a9127ada42da4cd0d03317ca0cc315da6dbd2fde9dc5b0bcf53bea"), looks := false }, kinds := [], alts := [], laidByText := true, laidKinds := [.data, .pinned], laidTests := true, laidLooks := .later }
def DiddocEncodesCardSaid : Prop := Claim7.holds Tryz.pinned (.plain (OpenSpec.ofChange diddocEncodesSpec)) diddocEncodesCard

/-- THE TIED CARD OF 'webfingerlaw17.DiddocBack'. -/
def diddocBackCard : Claim7 := { stood := { row := diddocBackRow, standIns := [], harness := (true, "345a2977e7a9127ada42da4cd0d03317ca0cc315da6dbd2fde9dc5b0bcf53bea"), looks := false }, kinds := [], alts := [], laidByText := true, laidKinds := [.data, .pinned], laidTests := true, laidLooks := .later }
def DiddocBackCardSaid : Prop := Claim7.holds Tryz.pinned (.plain (OpenSpec.ofChange diddocBackSpec)) diddocBackCard

/-- THE SECOND FORM's CARD OF 'webfingerlaw17.DiddocDecodes'. -/
def diddocDecodesUptoCard : Claim7 := { stood := { row := diddocDecodesUptoRow, standIns := [], harness := (true, "345a2977e7a9127ada42da4cd0d03317ca0cc315da6dbd2fde9dc5b0bcf53bea"), looks := false }, kinds := [], alts := [], laidByText := true, laidKinds := [.data, .pinned], laidTests := true, laidLooks := .later }
def DiddocDecodesUptoCardSaid : Prop := Claim7.holds Tryz.pinned (.plain (OpenSpec.upto diddocDecodesSpec)) diddocDecodesUptoCard

/-- THE SECOND FORM's CARD OF 'webfingerlaw17.DiddocSelects'. -/
def diddocSelectsUptoCard : Claim7 := { stood := { row := diddocSelectsUptoRow, standIns := [], harness := (true, "345a2977e7a9127ada42da4cd0d03317ca0cc315da6dbd2fde9dc5b0bcf53bea"), looks := false }, kinds := [], alts := [], laidByText := true, laidKinds := [.data, .pinned], laidTests := true, laidLooks := .later }
def DiddocSelectsUptoCardSaid : Prop := Claim7.holds Tryz.pinned (.plain (OpenSpec.upto diddocSelectsSpec)) diddocSelectsUptoCard

/-- THE SECOND FORM's CARD OF 'webfingerlaw17.DiddocEncodes'. -/
def diddocEncodesUptoCard : Claim7 := { stood := { row := diddocEncodesUptoRow, standIns := [], harness := (true, "345a2977e7a9127ada42da4cd0d03317ca0cc315da6dbd2fde9dc5b0bcf53bea"), looks := false }, kinds := [], alts := [], laidByText := true, laidKinds := [.data, .pinned], laidTests := true, laidLooks := .later }
def DiddocEncodesUptoCardSaid : Prop := Claim7.holds Tryz.pinned (.plain (OpenSpec.upto diddocEncodesSpec)) diddocEncodesUptoCard

/-- THE SECOND FORM's CARD OF 'webfingerlaw17.DiddocBack'. -/
def diddocBackUptoCard : Claim7 := { stood := { row := diddocBackUptoRow, standIns := [], harness := (true, "345a2977e7a9127ada42da4cd0d03317ca0cc315da6dbd2fde9dc5b0bcf53bea"), looks := false }, kinds := [], alts := [], laidByText := true, laidKinds := [.data, .pinned], laidTests := true, laidLooks := .later }
def DiddocBackUptoCardSaid : Prop := Claim7.holds Tryz.pinned (.plain (OpenSpec.upto diddocBackSpec)) diddocBackUptoCard
end Rows
end Go.Proofs.YtejfjmcjicpodaaGreatDoor
