/-
  NARROWER THAN 'FOR EVERY INPUT', by the rows' own cells (each row's printed sentence says how): HostHosts: laid · HostPorts: laid · HostLimits: laid · HostParses: laid · HostBack: laid.
  DERIVED. THE GIVEN ROWS OF THIS SEAT. 5 by the template 'for every input the law returns true; each argument reads behind the call as it read before'; 0 by the template 'total and deterministic' (their statements: YthonlmejcnpgcaaDoorTotals.lean).
  GIVEN WITH THE SEED: the statements are not yours to turn. If you find one false, say at which input.
  Laid BY PROGRAM, IN A SANDBOX (cutbox-rows.mjs): the forced cells as the released guide's own fill.sh prints them over the translation 4e12d875e132c41d… (all of the seat's roots in one cut). By AI agents, Wed Nov 11 2026. No macro, syntax, notation, axiom, sorry.
-/
import Derived.Test.YthonlmejcnpgcaaDoorChecked
import GoSem.PinnedTables
import GoSem.Claim
import GoSem.ClaimJoined
import GoSem.ClaimMapViews
import Derived.JoinedTies
import Derived.KernelRfl
namespace Go.Proofs.YthonlmejcnpgcaaDoor
/- THE CELL 'sum', in the pinned program and in every row, IS THE sha256 OF THE DUMP (.gsa) THAT YthonlmejcnpgcaaDoorProg.lean LOADS. Nothing in Lean hashes anything: it is a label: what it is worth is what the hold of that sum in a sandbox is worth. -/
noncomputable def Tryd.pinned : Pinned := { name := "ythonlmejcnpgcaadoor", sum := "4e12d875e132c41dc2477abc70f4c02040b3d3018479cb47f61c59d7268e7071", checked := Tryd.checked }
namespace Rows
def none {H : Type} : Left H := { results := [], args := [] }

/- WHAT THE LISTED PACKAGE-LEVEL VARIABLES READ AS WHEN THE CALL BEGINS. Each datum BY PROGRAM (the guide's laid-datum.mjs) off the statement by which the dump's own 'gosem.cut.vars' lays the variable. In a bare row this is a premise. The card (YthonlmejcnpgcaaDoorCards.lean) ties it to the program's text. -/
def laid_unicode_utf8_acceptRanges {H : Type} : DataW H := .agg [.agg [.lit (.int .u8 128), .lit (.int .u8 191)], .agg [.lit (.int .u8 160), .lit (.int .u8 191)], .agg [.lit (.int .u8 128), .lit (.int .u8 159)], .agg [.lit (.int .u8 144), .lit (.int .u8 191)], .agg [.lit (.int .u8 128), .lit (.int .u8 143)], .agg [.lit (.int .u8 0), .lit (.int .u8 0)], .agg [.lit (.int .u8 0), .lit (.int .u8 0)], .agg [.lit (.int .u8 0), .lit (.int .u8 0)], .agg [.lit (.int .u8 0), .lit (.int .u8 0)], .agg [.lit (.int .u8 0), .lit (.int .u8 0)], .agg [.lit (.int .u8 0), .lit (.int .u8 0)], .agg [.lit (.int .u8 0), .lit (.int .u8 0)], .agg [.lit (.int .u8 0), .lit (.int .u8 0)], .agg [.lit (.int .u8 0), .lit (.int .u8 0)], .agg [.lit (.int .u8 0), .lit (.int .u8 0)], .agg [.lit (.int .u8 0), .lit (.int .u8 0)]]
/-- One of Go's own tables, pinned by name: the form's constant. -/
def laid_unicode_utf8_first : DataW Unit := Go.Pinned.utf8First

/-- 'webfingerlaw05.HostHosts': WHATEVER THE INPUT: true; the input reads as it did. -/
def hostHostsSpec : ChangeSpec := { name := "hostHosts", fn := fun _ => fun
  | [d] => { results := [.lit (.bool true)], args := [d] }
  | _ => none }
def hostHostsRow : OpenClaim := { program := "ythonlmejcnpgcaadoor", sum := "4e12d875e132c41dc2477abc70f4c02040b3d3018479cb47f61c59d7268e7071", func := "webfinger/webfingerlaw05.HostHosts", spec := "hostHosts", inPlace := ["internal/bytealg.IndexByteString", "internal/bytealg.IndexString", "internal/bytealg.CountString"], unfollowed := true, recurses := true, named := ["internal/bytealg.MaxLen", "unicode/utf8.first", "unicode/utf8.acceptRanges"], apart := false, laid := [("unicode/utf8.acceptRanges", laid_unicode_utf8_acceptRanges), ("unicode/utf8.first", laid_unicode_utf8_first)] }
def HostHostsSaid : Prop := hostHostsRow.holds Tryd.pinned (OpenSpec.ofChange hostHostsSpec)

/-- ITS FALSE NEIGHBOUR: 'it returns false'. Refute it at one input. -/
def hostHostsWrong : ChangeSpec := { name := "hostHosts", fn := fun _ => fun
  | [d] => { results := [.lit (.bool false)], args := [d] }
  | _ => none }
def HostHostsWrongFalsely : Prop := hostHostsRow.holds Tryd.pinned (OpenSpec.ofChange hostHostsWrong)

/-- 'webfingerlaw05.HostPorts': WHATEVER THE INPUT: true; the input reads as it did. -/
def hostPortsSpec : ChangeSpec := { name := "hostPorts", fn := fun _ => fun
  | [d] => { results := [.lit (.bool true)], args := [d] }
  | _ => none }
def hostPortsRow : OpenClaim := { program := "ythonlmejcnpgcaadoor", sum := "4e12d875e132c41dc2477abc70f4c02040b3d3018479cb47f61c59d7268e7071", func := "webfinger/webfingerlaw05.HostPorts", spec := "hostPorts", inPlace := ["internal/bytealg.IndexByteString", "internal/bytealg.IndexString", "internal/bytealg.CountString"], unfollowed := true, recurses := true, named := ["internal/bytealg.MaxLen", "unicode/utf8.first", "unicode/utf8.acceptRanges"], apart := false, laid := [("unicode/utf8.acceptRanges", laid_unicode_utf8_acceptRanges), ("unicode/utf8.first", laid_unicode_utf8_first)] }
def HostPortsSaid : Prop := hostPortsRow.holds Tryd.pinned (OpenSpec.ofChange hostPortsSpec)

/-- ITS FALSE NEIGHBOUR: 'it returns false'. Refute it at one input. -/
def hostPortsWrong : ChangeSpec := { name := "hostPorts", fn := fun _ => fun
  | [d] => { results := [.lit (.bool false)], args := [d] }
  | _ => none }
def HostPortsWrongFalsely : Prop := hostPortsRow.holds Tryd.pinned (OpenSpec.ofChange hostPortsWrong)

/-- 'webfingerlaw05.HostLimits': WHATEVER THE INPUT: true; the input reads as it did. -/
def hostLimitsSpec : ChangeSpec := { name := "hostLimits", fn := fun _ => fun
  | [d1, d2] => { results := [.lit (.bool true)], args := [d1, d2] }
  | _ => none }
def hostLimitsRow : OpenClaim := { program := "ythonlmejcnpgcaadoor", sum := "4e12d875e132c41dc2477abc70f4c02040b3d3018479cb47f61c59d7268e7071", func := "webfinger/webfingerlaw05.HostLimits", spec := "hostLimits", inPlace := ["internal/bytealg.IndexByteString", "internal/bytealg.IndexString", "internal/bytealg.CountString"], unfollowed := true, recurses := true, named := ["internal/bytealg.MaxLen", "unicode/utf8.first", "unicode/utf8.acceptRanges"], apart := false, laid := [("unicode/utf8.acceptRanges", laid_unicode_utf8_acceptRanges), ("unicode/utf8.first", laid_unicode_utf8_first)] }
def HostLimitsSaid : Prop := hostLimitsRow.holds Tryd.pinned (OpenSpec.ofChange hostLimitsSpec)

/-- ITS FALSE NEIGHBOUR: 'it returns false'. Refute it at one input. -/
def hostLimitsWrong : ChangeSpec := { name := "hostLimits", fn := fun _ => fun
  | [d1, d2] => { results := [.lit (.bool false)], args := [d1, d2] }
  | _ => none }
def HostLimitsWrongFalsely : Prop := hostLimitsRow.holds Tryd.pinned (OpenSpec.ofChange hostLimitsWrong)

/-- 'webfingerlaw05.HostParses': WHATEVER THE INPUT: true; the input reads as it did. -/
def hostParsesSpec : ChangeSpec := { name := "hostParses", fn := fun _ => fun
  | [d1, d2] => { results := [.lit (.bool true)], args := [d1, d2] }
  | _ => none }
def hostParsesRow : OpenClaim := { program := "ythonlmejcnpgcaadoor", sum := "4e12d875e132c41dc2477abc70f4c02040b3d3018479cb47f61c59d7268e7071", func := "webfinger/webfingerlaw05.HostParses", spec := "hostParses", inPlace := ["internal/bytealg.IndexByteString", "internal/bytealg.IndexString", "internal/bytealg.CountString"], unfollowed := true, recurses := true, named := ["internal/bytealg.MaxLen", "unicode/utf8.first", "unicode/utf8.acceptRanges"], apart := false, laid := [("unicode/utf8.acceptRanges", laid_unicode_utf8_acceptRanges), ("unicode/utf8.first", laid_unicode_utf8_first)] }
def HostParsesSaid : Prop := hostParsesRow.holds Tryd.pinned (OpenSpec.ofChange hostParsesSpec)

/-- ITS FALSE NEIGHBOUR: 'it returns false'. Refute it at one input. -/
def hostParsesWrong : ChangeSpec := { name := "hostParses", fn := fun _ => fun
  | [d1, d2] => { results := [.lit (.bool false)], args := [d1, d2] }
  | _ => none }
def HostParsesWrongFalsely : Prop := hostParsesRow.holds Tryd.pinned (OpenSpec.ofChange hostParsesWrong)

/-- 'webfingerlaw05.HostBack': WHATEVER THE INPUT: true; the input reads as it did. -/
def hostBackSpec : ChangeSpec := { name := "hostBack", fn := fun _ => fun
  | [d] => { results := [.lit (.bool true)], args := [d] }
  | _ => none }
def hostBackRow : OpenClaim := { program := "ythonlmejcnpgcaadoor", sum := "4e12d875e132c41dc2477abc70f4c02040b3d3018479cb47f61c59d7268e7071", func := "webfinger/webfingerlaw05.HostBack", spec := "hostBack", inPlace := ["internal/bytealg.IndexByteString", "internal/bytealg.IndexString", "internal/bytealg.CountString"], unfollowed := true, recurses := true, named := ["internal/bytealg.MaxLen", "unicode/utf8.first", "unicode/utf8.acceptRanges"], apart := false, laid := [("unicode/utf8.acceptRanges", laid_unicode_utf8_acceptRanges), ("unicode/utf8.first", laid_unicode_utf8_first)] }
def HostBackSaid : Prop := hostBackRow.holds Tryd.pinned (OpenSpec.ofChange hostBackSpec)

/-- ITS FALSE NEIGHBOUR: 'it returns false'. Refute it at one input. -/
def hostBackWrong : ChangeSpec := { name := "hostBack", fn := fun _ => fun
  | [d] => { results := [.lit (.bool false)], args := [d] }
  | _ => none }
def HostBackWrongFalsely : Prop := hostBackRow.holds Tryd.pinned (OpenSpec.ofChange hostBackWrong)

/- THE SECOND FORM. 'bulk': how many values and letters a reading holds, each counted each time it is reached (what is shared counts as often as it is met; a slice's spare places count too). A statement '..UptoSaid' is the law's where the arguments, and the package variables that the reading takes, are together of bulk at most 1048576: NARROWER than '..Said'. Prove '..Said' where nothing that the law and all that it calls make is longer than what came in: it says more and counts as full. Else prove '..UptoSaid'. A law counts once. -/
mutual
def uptoBulk {H : Type} : DataW H → Nat
  | .lit (.string bytes) => bytes.length + 1
  | .lit _ => 1
  | .nil => 1
  | .ptr d => uptoBulk d + 1
  | .slice elems spare => uptoBulkAll elems + uptoBulkAll spare + 1
  | .agg parts => uptoBulkAll parts + 1
  | .iface _ d => uptoBulk d + 1
  | .map entries => uptoBulkEntries entries + 1
  | .held _ => 1
def uptoBulkAll {H : Type} : List (DataW H) → Nat
  | [] => 0
  | d :: r => uptoBulk d + uptoBulkAll r
def uptoBulkEntries {H : Type} : List (Lit × DataW H) → Nat
  | [] => 0
  | x :: r => uptoBulkEntry x + uptoBulkEntries r
def uptoBulkEntry {H : Type} : Lit × DataW H → Nat
  | (.string bytes, d) => bytes.length + uptoBulk d + 1
  | (_, d) => uptoBulk d + 1
 end
def uptoSmall : (H : Type) → List (DataW H) → Bool := fun _ ds => decide (uptoBulkAll ds ≤ 1048576)
def OpenSpec.upto (s : _root_.Go.ChangeSpec) : _root_.Go.OpenSpec := { _root_.Go.OpenSpec.ofChange s with cond := some uptoSmall }

/-- 'webfingerlaw05.HostHosts', WHERE WHAT IT READS IS OF BULK AT MOST 1048576: true; the input reads as it did. -/
def hostHostsUptoRow : OpenClaim := { program := "ythonlmejcnpgcaadoor", sum := "4e12d875e132c41dc2477abc70f4c02040b3d3018479cb47f61c59d7268e7071", func := "webfinger/webfingerlaw05.HostHosts", spec := "hostHosts", inPlace := ["internal/bytealg.IndexByteString", "internal/bytealg.IndexString", "internal/bytealg.CountString"], unfollowed := true, recurses := true, named := ["internal/bytealg.MaxLen", "unicode/utf8.first", "unicode/utf8.acceptRanges"], apart := false, laid := [("unicode/utf8.acceptRanges", laid_unicode_utf8_acceptRanges), ("unicode/utf8.first", laid_unicode_utf8_first)], narrowed := true }
def HostHostsUptoSaid : Prop := hostHostsUptoRow.holds Tryd.pinned (OpenSpec.upto hostHostsSpec)

/-- 'webfingerlaw05.HostPorts', WHERE WHAT IT READS IS OF BULK AT MOST 1048576: true; the input reads as it did. -/
def hostPortsUptoRow : OpenClaim := { program := "ythonlmejcnpgcaadoor", sum := "4e12d875e132c41dc2477abc70f4c02040b3d3018479cb47f61c59d7268e7071", func := "webfinger/webfingerlaw05.HostPorts", spec := "hostPorts", inPlace := ["internal/bytealg.IndexByteString", "internal/bytealg.IndexString", "internal/bytealg.CountString"], unfollowed := true, recurses := true, named := ["internal/bytealg.MaxLen", "unicode/utf8.first", "unicode/utf8.acceptRanges"], apart := false, laid := [("unicode/utf8.acceptRanges", laid_unicode_utf8_acceptRanges), ("unicode/utf8.first", laid_unicode_utf8_first)], narrowed := true }
def HostPortsUptoSaid : Prop := hostPortsUptoRow.holds Tryd.pinned (OpenSpec.upto hostPortsSpec)

/-- 'webfingerlaw05.HostLimits', WHERE WHAT IT READS IS OF BULK AT MOST 1048576: true; the input reads as it did. -/
def hostLimitsUptoRow : OpenClaim := { program := "ythonlmejcnpgcaadoor", sum := "4e12d875e132c41dc2477abc70f4c02040b3d3018479cb47f61c59d7268e7071", func := "webfinger/webfingerlaw05.HostLimits", spec := "hostLimits", inPlace := ["internal/bytealg.IndexByteString", "internal/bytealg.IndexString", "internal/bytealg.CountString"], unfollowed := true, recurses := true, named := ["internal/bytealg.MaxLen", "unicode/utf8.first", "unicode/utf8.acceptRanges"], apart := false, laid := [("unicode/utf8.acceptRanges", laid_unicode_utf8_acceptRanges), ("unicode/utf8.first", laid_unicode_utf8_first)], narrowed := true }
def HostLimitsUptoSaid : Prop := hostLimitsUptoRow.holds Tryd.pinned (OpenSpec.upto hostLimitsSpec)

/-- 'webfingerlaw05.HostParses', WHERE WHAT IT READS IS OF BULK AT MOST 1048576: true; the input reads as it did. -/
def hostParsesUptoRow : OpenClaim := { program := "ythonlmejcnpgcaadoor", sum := "4e12d875e132c41dc2477abc70f4c02040b3d3018479cb47f61c59d7268e7071", func := "webfinger/webfingerlaw05.HostParses", spec := "hostParses", inPlace := ["internal/bytealg.IndexByteString", "internal/bytealg.IndexString", "internal/bytealg.CountString"], unfollowed := true, recurses := true, named := ["internal/bytealg.MaxLen", "unicode/utf8.first", "unicode/utf8.acceptRanges"], apart := false, laid := [("unicode/utf8.acceptRanges", laid_unicode_utf8_acceptRanges), ("unicode/utf8.first", laid_unicode_utf8_first)], narrowed := true }
def HostParsesUptoSaid : Prop := hostParsesUptoRow.holds Tryd.pinned (OpenSpec.upto hostParsesSpec)

/-- 'webfingerlaw05.HostBack', WHERE WHAT IT READS IS OF BULK AT MOST 1048576: true; the input reads as it did. -/
def hostBackUptoRow : OpenClaim := { program := "ythonlmejcnpgcaadoor", sum := "4e12d875e132c41dc2477abc70f4c02040b3d3018479cb47f61c59d7268e7071", func := "webfinger/webfingerlaw05.HostBack", spec := "hostBack", inPlace := ["internal/bytealg.IndexByteString", "internal/bytealg.IndexString", "internal/bytealg.CountString"], unfollowed := true, recurses := true, named := ["internal/bytealg.MaxLen", "unicode/utf8.first", "unicode/utf8.acceptRanges"], apart := false, laid := [("unicode/utf8.acceptRanges", laid_unicode_utf8_acceptRanges), ("unicode/utf8.first", laid_unicode_utf8_first)], narrowed := true }
def HostBackUptoSaid : Prop := hostBackUptoRow.holds Tryd.pinned (OpenSpec.upto hostBackSpec)

end Rows
end Go.Proofs.YthonlmejcnpgcaaDoor
