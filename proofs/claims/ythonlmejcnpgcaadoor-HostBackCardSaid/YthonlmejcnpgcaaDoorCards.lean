/-
  DERIVED. GIVEN WITH THE SEED: THE CARDS: each row of YthonlmejcnpgcaaDoorRows.lean that lists a variable, with what it lists TIED to the program's text (the seventh form; the later family's looks); each row that meets fmt, with fmt's text TOLD by the authors' own Lean function (tested against real Go, not proved from fmt's source: count such statements apart). THE CARD IS WHAT COUNTS. Prove the row's statement (the work); the ties are given (YthonlmejcnpgcaaDoorTie.lean); close each card by the builder's one call (the guide's Derived/Test/ToyasCard.lean, 'card_holds'). Laid BY PROGRAM, IN A SANDBOX (cutbox-door.mjs). By AI agents, Wed Nov 11 2026. No macro, syntax, notation, axiom, sorry.
-/
import Derived.Test.YthonlmejcnpgcaaDoorRows
import GoSem.ClaimSeven
namespace Go.Proofs.YthonlmejcnpgcaaDoor
namespace Rows

/-- THE TIED CARD OF 'webfingerlaw05.HostHosts'. -/
def hostHostsCard : Claim7 := { stood := { row := hostHostsRow, standIns := [], harness := (true, "f3d64088316e34b96a5191e183cfc14d6db49448c0baee9bdbb79d63cae401df"), looks := false }, kinds := [], alts := [], laidByText := true, laidKinds := [.data, .pinned], laidTests := true, laidLooks := .later }
def HostHostsCardSaid : Prop := Claim7.holds Tryd.pinned (.plain (OpenSpec.ofChange hostHostsSpec)) hostHostsCard

/-- THE TIED CARD OF 'webfingerlaw05.HostPorts'. -/
def hostPortsCard : Claim7 := { stood := { row := hostPortsRow, standIns := [], harness := (true, "f3d64088316e34b96a5191e183cfc14d6db49448c0baee9bdbb79d63cae401df"), looks := false }, kinds := [], alts := [], laidByText := true, laidKinds := [.data, .pinned], laidTests := true, laidLooks := .later }
def HostPortsCardSaid : Prop := Claim7.holds Tryd.pinned (.plain (OpenSpec.ofChange hostPortsSpec)) hostPortsCard

/-- THE TIED CARD OF 'webfingerlaw05.HostLimits'. -/
def hostLimitsCard : Claim7 := { stood := { row := hostLimitsRow, standIns := [], harness := (true, "f3d64088316e34b96a5191e183cfc14d6db49448c0baee9bdbb79d63cae401df"), looks := false }, kinds := [], alts := [], laidByText := true, laidKinds := [.data, .pinned], laidTests := true, laidLooks := .later }
def HostLimitsCardSaid : Prop := Claim7.holds Tryd.pinned (.plain (OpenSpec.ofChange hostLimitsSpec)) hostLimitsCard

/-- THE TIED CARD OF 'webfingerlaw05.HostParses'. -/
def hostParsesCard : Claim7 := { stood := { row := hostParsesRow, standIns := [], harness := (true, "f3d64088316e34b96a5191e183cfc14d6db49448c0baee9bdbb79d63cae401df"), looks := false }, kinds := [], alts := [], laidByText := true, laidKinds := [.data, .pinned], laidTests := true, laidLooks := .later }
def HostParsesCardSaid : Prop := Claim7.holds Tryd.pinned (.plain (OpenSpec.ofChange hostParsesSpec)) hostParsesCard

/-- THE TIED CARD OF 'webfingerlaw05.HostBack'. -/
def hostBackCard : Claim7 := { stood := { row := hostBackRow, standIns := [], harness := (true, "f3d64088316e34b96a5191e183cfc14d6db49448c0baee9bdbb79d63cae401df"), looks := false }, kinds := [], alts := [], laidByText := true, laidKinds := [.data, .pinned], laidTests := true, laidLooks := .later }
def HostBackCardSaid : Prop := Claim7.holds Tryd.pinned (.plain (OpenSpec.ofChange hostBackSpec)) hostBackCard

/-- THE SECOND FORM's CARD OF 'webfingerlaw05.HostHosts'. -/
def hostHostsUptoCard : Claim7 := { stood := { row := hostHostsUptoRow, standIns := [], harness := (true, "f3d64088316e34b96a5191e183cfc14d6db49448c0baee9bdbb79d63cae401df"), looks := false }, kinds := [], alts := [], laidByText := true, laidKinds := [.data, .pinned], laidTests := true, laidLooks := .later }
def HostHostsUptoCardSaid : Prop := Claim7.holds Tryd.pinned (.plain (OpenSpec.upto hostHostsSpec)) hostHostsUptoCard

/-- THE SECOND FORM's CARD OF 'webfingerlaw05.HostPorts'. -/
def hostPortsUptoCard : Claim7 := { stood := { row := hostPortsUptoRow, standIns := [], harness := (true, "f3d64088316e34b96a5191e183cfc14d6db49448c0baee9bdbb79d63cae401df"), looks := false }, kinds := [], alts := [], laidByText := true, laidKinds := [.data, .pinned], laidTests := true, laidLooks := .later }
def HostPortsUptoCardSaid : Prop := Claim7.holds Tryd.pinned (.plain (OpenSpec.upto hostPortsSpec)) hostPortsUptoCard

/-- THE SECOND FORM's CARD OF 'webfingerlaw05.HostLimits'. -/
def hostLimitsUptoCard : Claim7 := { stood := { row := hostLimitsUptoRow, standIns := [], harness := (true, "f3d64088316e34b96a5191e183cfc14d6db49448c0baee9bdbb79d63cae401df"), looks := false }, kinds := [], alts := [], laidByText := true, laidKinds := [.data, .pinned], laidTests := true, laidLooks := .later }
def HostLimitsUptoCardSaid : Prop := Claim7.holds Tryd.pinned (.plain (OpenSpec.upto hostLimitsSpec)) hostLimitsUptoCard

/-- THE SECOND FORM's CARD OF 'webfingerlaw05.HostParses'. -/
def hostParsesUptoCard : Claim7 := { stood := { row := hostParsesUptoRow, standIns := [], harness := (true, "f3d64088316e34b96a5191e183cfc14d6db49448c0baee9bdbb79d63cae401df"), looks := false }, kinds := [], alts := [], laidByText := true, laidKinds := [.data, .pinned], laidTests := true, laidLooks := .later }
def HostParsesUptoCardSaid : Prop := Claim7.holds Tryd.pinned (.plain (OpenSpec.upto hostParsesSpec)) hostParsesUptoCard

/-- THE SECOND FORM's CARD OF 'webfingerlaw05.HostBack'. -/
def hostBackUptoCard : Claim7 := { stood := { row := hostBackUptoRow, standIns := [], harness := (true, "f3d64088316e34b96a5191e183cfc14d6db49448c0baee9bdbb79d63cae401df"), looks := false }, kinds := [], alts := [], laidByText := true, laidKinds := [.data, .pinned], laidTests := true, laidLooks := .later }
def HostBackUptoCardSaid : Prop := Claim7.holds Tryd.pinned (.plain (OpenSpec.upto hostBackSpec)) hostBackUptoCard
end Rows
end Go.Proofs.YthonlmejcnpgcaaDoor
