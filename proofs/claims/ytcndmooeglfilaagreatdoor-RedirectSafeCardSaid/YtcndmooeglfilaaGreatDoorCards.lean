/-
  DERIVED. GIVEN WITH THE SEED: THE CARDS: each row of YtcndmooeglfilaaGreatDoorRows.lean that lists a variable, with what it lists TIED to the program's text (the seventh form; the later family's looks); each row that meets fmt, with fmt's text TOLD by the authors' own Lean function (tested against real Go, not proved from fmt's source: count such statements apart). THE CARD IS WHAT COUNTS. Prove the row's statement (the work); the ties are given (YtcndmooeglfilaaGreatDoorTie.lean); close each card by the builder's one call (the guide's Derived/Test/ToyasCard.lean, 'card_holds'). Laid BY PROGRAM, IN A SANDBOX (cutbox-door.mjs). By AI agents, Wed Nov 11 2026. No macro, syntax, notation, axiom, sorry.
-/
import Derived.Test.YtcndmooeglfilaaGreatDoorRows
import GoSem.ClaimSeven
namespace Go.Proofs.YtcndmooeglfilaaGreatDoor
namespace Rows

/-- THE TIED CARD OF 'webfingerlaw11.DidwebHosts'. -/
def didwebHostsCard : Claim7 := { stood := { row := didwebHostsRow, standIns := [], harness := (true, "805320f2b71e5bfe65e92cb3d214fc3cc53c70299d46d6989d25d2c0466ec96c"), looks := false }, kinds := [], alts := [], laidByText := true, laidKinds := [.data, .pinned], laidTests := true, laidLooks := .later }
def DidwebHostsCardSaid : Prop := Claim7.holds Tryz.pinned (.plain (OpenSpec.ofChange didwebHostsSpec)) didwebHostsCard

/-- THE TIED CARD OF 'webfingerlaw25.RedirectNext'. -/
def redirectNextCard : Claim7 := { stood := { row := redirectNextRow, standIns := [], harness := (true, "805320f2b71e5bfe65e92cb3d214fc3cc53c70299d46d6989d25d2c0466ec96c"), looks := false }, kinds := [], alts := [], laidByText := true, laidKinds := [.data, .pinned], laidTests := true, laidLooks := .later }
def RedirectNextCardSaid : Prop := Claim7.holds Tryz.pinned (.plain (OpenSpec.ofChange redirectNextSpec)) redirectNextCard

/-- THE TIED CARD OF 'webfingerlaw25.RedirectTexts'. -/
def redirectTextsCard : Claim7 := { stood := { row := redirectTextsRow, standIns := [], harness := (true, "805320f2b71e5bfe65e92cb3d214fc3cc53c70299d46d6989d25d2c0466ec96c"), looks := false }, kinds := [], alts := [], laidByText := true, laidKinds := [.data, .pinned], laidTests := true, laidLooks := .later }
def RedirectTextsCardSaid : Prop := Claim7.holds Tryz.pinned (.plain (OpenSpec.ofChange redirectTextsSpec)) redirectTextsCard

/-- THE TIED CARD OF 'webfingerlaw25.RedirectSafe'. -/
def redirectSafeCard : Claim7 := { stood := { row := redirectSafeRow, standIns := [], harness := (true, "805320f2b71e5bfe65e92cb3d214fc3cc53c70299d46d6989d25d2c0466ec96c"), looks := false }, kinds := [], alts := [], laidByText := true, laidKinds := [.data, .pinned], laidTests := true, laidLooks := .later }
def RedirectSafeCardSaid : Prop := Claim7.holds Tryz.pinned (.plain (OpenSpec.ofChange redirectSafeSpec)) redirectSafeCard

/-- THE TIED CARD OF 'webfingerlaw11.DidwebDIDs'. -/
def didwebDIDsCard : Claim7 := { stood := { row := didwebDIDsRow, standIns := [], harness := (true, "805320f2b71e5bfe65e92cb3d214fc3cc53c70299d46d6989d25d2c0466ec96c"), looks := false }, kinds := [], alts := [], laidByText := true, laidKinds := [.data, .pinned], laidTests := true, laidLooks := .later }
def DidwebDIDsCardSaid : Prop := Claim7.holds Tryz.pinned (.plain (OpenSpec.ofChange didwebDIDsSpec)) didwebDIDsCard

/-- THE TIED CARD OF 'webfingerlaw11.DidwebURLs'. -/
def didwebURLsCard : Claim7 := { stood := { row := didwebURLsRow, standIns := [], harness := (true, "805320f2b71e5bfe65e92cb3d214fc3cc53c70299d46d6989d25d2c0466ec96c"), looks := false }, kinds := [], alts := [], laidByText := true, laidKinds := [.data, .pinned], laidTests := true, laidLooks := .later }
def DidwebURLsCardSaid : Prop := Claim7.holds Tryz.pinned (.plain (OpenSpec.ofChange didwebURLsSpec)) didwebURLsCard

/-- THE TIED CARD OF 'webfingerlaw11.DidwebInverse'. -/
def didwebInverseCard : Claim7 := { stood := { row := didwebInverseRow, standIns := [], harness := (true, "805320f2b71e5bfe65e92cb3d214fc3cc53c70299d46d6989d25d2c0466ec96c"), looks := false }, kinds := [], alts := [], laidByText := true, laidKinds := [.data, .pinned], laidTests := true, laidLooks := .later }
def DidwebInverseCardSaid : Prop := Claim7.holds Tryz.pinned (.plain (OpenSpec.ofChange didwebInverseSpec)) didwebInverseCard

/-- THE TIED CARD OF 'webfingerlaw12.IdentParses'. -/
def identParsesCard : Claim7 := { stood := { row := identParsesRow, standIns := [], harness := (true, "805320f2b71e5bfe65e92cb3d214fc3cc53c70299d46d6989d25d2c0466ec96c"), looks := false }, kinds := [], alts := [], laidByText := true, laidKinds := [.data, .pinned], laidTests := true, laidLooks := .later }
def IdentParsesCardSaid : Prop := Claim7.holds Tryz.pinned (.plain (OpenSpec.ofChange identParsesSpec)) identParsesCard

/-- THE TIED CARD OF 'webfingerlaw12.IdentBack'. -/
def identBackCard : Claim7 := { stood := { row := identBackRow, standIns := [], harness := (true, "805320f2b71e5bfe65e92cb3d214fc3cc53c70299d46d6989d25d2c0466ec96c"), looks := false }, kinds := [], alts := [], laidByText := true, laidKinds := [.data, .pinned], laidTests := true, laidLooks := .later }
def IdentBackCardSaid : Prop := Claim7.holds Tryz.pinned (.plain (OpenSpec.ofChange identBackSpec)) identBackCard

/-- THE TIED CARD OF 'webfingerlaw12.IdentCompares'. -/
def identComparesCard : Claim7 := { stood := { row := identComparesRow, standIns := [], harness := (true, "805320f2b71e5bfe65e92cb3d214fc3cc53c70299d46d6989d25d2c0466ec96c"), looks := false }, kinds := [], alts := [], laidByText := true, laidKinds := [.data, .pinned], laidTests := true, laidLooks := .later }
def IdentComparesCardSaid : Prop := Claim7.holds Tryz.pinned (.plain (OpenSpec.ofChange identComparesSpec)) identComparesCard

/-- THE TIED CARD OF 'webfingerlaw12.IdentHosts'. -/
def identHostsCard : Claim7 := { stood := { row := identHostsRow, standIns := [], harness := (true, "805320f2b71e5bfe65e92cb3d214fc3cc53c70299d46d6989d25d2c0466ec96c"), looks := false }, kinds := [], alts := [], laidByText := true, laidKinds := [.data, .pinned], laidTests := true, laidLooks := .later }
def IdentHostsCardSaid : Prop := Claim7.holds Tryz.pinned (.plain (OpenSpec.ofChange identHostsSpec)) identHostsCard

/-- THE SECOND FORM's CARD OF 'webfingerlaw11.DidwebHosts'. -/
def didwebHostsUptoCard : Claim7 := { stood := { row := didwebHostsUptoRow, standIns := [], harness := (true, "805320f2b71e5bfe65e92cb3d214fc3cc53c70299d46d6989d25d2c0466ec96c"), looks := false }, kinds := [], alts := [], laidByText := true, laidKinds := [.data, .pinned], laidTests := true, laidLooks := .later }
def DidwebHostsUptoCardSaid : Prop := Claim7.holds Tryz.pinned (.plain (OpenSpec.upto didwebHostsSpec)) didwebHostsUptoCard

/-- THE SECOND FORM's CARD OF 'webfingerlaw25.RedirectNext'. -/
def redirectNextUptoCard : Claim7 := { stood := { row := redirectNextUptoRow, standIns := [], harness := (true, "805320f2b71e5bfe65e92cb3d214fc3cc53c70299d46d6989d25d2c0466ec96c"), looks := false }, kinds := [], alts := [], laidByText := true, laidKinds := [.data, .pinned], laidTests := true, laidLooks := .later }
def RedirectNextUptoCardSaid : Prop := Claim7.holds Tryz.pinned (.plain (OpenSpec.upto redirectNextSpec)) redirectNextUptoCard

/-- THE SECOND FORM's CARD OF 'webfingerlaw25.RedirectTexts'. -/
def redirectTextsUptoCard : Claim7 := { stood := { row := redirectTextsUptoRow, standIns := [], harness := (true, "805320f2b71e5bfe65e92cb3d214fc3cc53c70299d46d6989d25d2c0466ec96c"), looks := false }, kinds := [], alts := [], laidByText := true, laidKinds := [.data, .pinned], laidTests := true, laidLooks := .later }
def RedirectTextsUptoCardSaid : Prop := Claim7.holds Tryz.pinned (.plain (OpenSpec.upto redirectTextsSpec)) redirectTextsUptoCard

/-- THE SECOND FORM's CARD OF 'webfingerlaw25.RedirectSafe'. -/
def redirectSafeUptoCard : Claim7 := { stood := { row := redirectSafeUptoRow, standIns := [], harness := (true, "805320f2b71e5bfe65e92cb3d214fc3cc53c70299d46d6989d25d2c0466ec96c"), looks := false }, kinds := [], alts := [], laidByText := true, laidKinds := [.data, .pinned], laidTests := true, laidLooks := .later }
def RedirectSafeUptoCardSaid : Prop := Claim7.holds Tryz.pinned (.plain (OpenSpec.upto redirectSafeSpec)) redirectSafeUptoCard

/-- THE SECOND FORM's CARD OF 'webfingerlaw11.DidwebDIDs'. -/
def didwebDIDsUptoCard : Claim7 := { stood := { row := didwebDIDsUptoRow, standIns := [], harness := (true, "805320f2b71e5bfe65e92cb3d214fc3cc53c70299d46d6989d25d2c0466ec96c"), looks := false }, kinds := [], alts := [], laidByText := true, laidKinds := [.data, .pinned], laidTests := true, laidLooks := .later }
def DidwebDIDsUptoCardSaid : Prop := Claim7.holds Tryz.pinned (.plain (OpenSpec.upto didwebDIDsSpec)) didwebDIDsUptoCard

/-- THE SECOND FORM's CARD OF 'webfingerlaw11.DidwebURLs'. -/
def didwebURLsUptoCard : Claim7 := { stood := { row := didwebURLsUptoRow, standIns := [], harness := (true, "805320f2b71e5bfe65e92cb3d214fc3cc53c70299d46d6989d25d2c0466ec96c"), looks := false }, kinds := [], alts := [], laidByText := true, laidKinds := [.data, .pinned], laidTests := true, laidLooks := .later }
def DidwebURLsUptoCardSaid : Prop := Claim7.holds Tryz.pinned (.plain (OpenSpec.upto didwebURLsSpec)) didwebURLsUptoCard

/-- THE SECOND FORM's CARD OF 'webfingerlaw11.DidwebInverse'. -/
def didwebInverseUptoCard : Claim7 := { stood := { row := didwebInverseUptoRow, standIns := [], harness := (true, "805320f2b71e5bfe65e92cb3d214fc3cc53c70299d46d6989d25d2c0466ec96c"), looks := false }, kinds := [], alts := [], laidByText := true, laidKinds := [.data, .pinned], laidTests := true, laidLooks := .later }
def DidwebInverseUptoCardSaid : Prop := Claim7.holds Tryz.pinned (.plain (OpenSpec.upto didwebInverseSpec)) didwebInverseUptoCard

/-- THE SECOND FORM's CARD OF 'webfingerlaw12.IdentParses'. -/
def identParsesUptoCard : Claim7 := { stood := { row := identParsesUptoRow, standIns := [], harness := (true, "805320f2b71e5bfe65e92cb3d214fc3cc53c70299d46d6989d25d2c0466ec96c"), looks := false }, kinds := [], alts := [], laidByText := true, laidKinds := [.data, .pinned], laidTests := true, laidLooks := .later }
def IdentParsesUptoCardSaid : Prop := Claim7.holds Tryz.pinned (.plain (OpenSpec.upto identParsesSpec)) identParsesUptoCard

/-- THE SECOND FORM's CARD OF 'webfingerlaw12.IdentBack'. -/
def identBackUptoCard : Claim7 := { stood := { row := identBackUptoRow, standIns := [], harness := (true, "805320f2b71e5bfe65e92cb3d214fc3cc53c70299d46d6989d25d2c0466ec96c"), looks := false }, kinds := [], alts := [], laidByText := true, laidKinds := [.data, .pinned], laidTests := true, laidLooks := .later }
def IdentBackUptoCardSaid : Prop := Claim7.holds Tryz.pinned (.plain (OpenSpec.upto identBackSpec)) identBackUptoCard

/-- THE SECOND FORM's CARD OF 'webfingerlaw12.IdentCompares'. -/
def identComparesUptoCard : Claim7 := { stood := { row := identComparesUptoRow, standIns := [], harness := (true, "805320f2b71e5bfe65e92cb3d214fc3cc53c70299d46d6989d25d2c0466ec96c"), looks := false }, kinds := [], alts := [], laidByText := true, laidKinds := [.data, .pinned], laidTests := true, laidLooks := .later }
def IdentComparesUptoCardSaid : Prop := Claim7.holds Tryz.pinned (.plain (OpenSpec.upto identComparesSpec)) identComparesUptoCard

/-- THE SECOND FORM's CARD OF 'webfingerlaw12.IdentHosts'. -/
def identHostsUptoCard : Claim7 := { stood := { row := identHostsUptoRow, standIns := [], harness := (true, "805320f2b71e5bfe65e92cb3d214fc3cc53c70299d46d6989d25d2c0466ec96c"), looks := false }, kinds := [], alts := [], laidByText := true, laidKinds := [.data, .pinned], laidTests := true, laidLooks := .later }
def IdentHostsUptoCardSaid : Prop := Claim7.holds Tryz.pinned (.plain (OpenSpec.upto identHostsSpec)) identHostsUptoCard
end Rows
end Go.Proofs.YtcndmooeglfilaaGreatDoor
