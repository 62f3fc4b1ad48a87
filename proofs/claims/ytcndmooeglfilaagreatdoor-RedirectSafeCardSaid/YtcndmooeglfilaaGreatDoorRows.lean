/-
  NARROWER THAN 'FOR EVERY INPUT', by the rows' own cells (each row's printed sentence says how): DidwebHosts: laid · RedirectNext: laid · RedirectTexts: laid · RedirectSafe: laid · DidwebDIDs: laid · DidwebURLs: laid · DidwebInverse: laid · IdentParses: laid · IdentBack: laid · IdentCompares: laid · IdentHosts: laid.
  DERIVED. THE GIVEN ROWS OF THIS SEAT. 11 by the template 'for every input the law returns true; each argument reads behind the call as it read before'; 0 by the template 'total and deterministic' (their statements: YtcndmooeglfilaaGreatDoorTotals.lean).
  GIVEN WITH THE SEED: the statements are not yours to turn. If you find one false, say at which input.
  Laid BY PROGRAM, IN A SANDBOX (cutbox-rows.mjs): the forced cells as the released guide's own fill.sh prints them over the translation c4da3c051c11ba62… (all of the seat's roots in one cut). By AI agents, Wed Nov 11 2026. No macro, syntax, notation, axiom, sorry.
-/
import Derived.Test.YtcndmooeglfilaaGreatDoorChecked
import GoSem.PinnedTables
import GoSem.Claim
import GoSem.ClaimJoined
import GoSem.ClaimMapViews
import Derived.JoinedTies
import Derived.KernelRfl
namespace Go.Proofs.YtcndmooeglfilaaGreatDoor
/- THE CELL 'sum', in the pinned program and in every row, IS THE sha256 OF THE DUMP (.gsa) THAT YtcndmooeglfilaaGreatDoorProg.lean LOADS. Nothing in Lean hashes anything: it is a label: what it is worth is what the hold of that sum in a sandbox is worth. -/
noncomputable def Tryz.pinned : Pinned := { name := "ytcndmooeglfilaagreatdoor", sum := "c4da3c051c11ba62d1f21ef743e192ec2a3a3365abd4df7cb2ce053abb2c16a8", checked := Tryz.checked }
namespace Rows
def none {H : Type} : Left H := { results := [], args := [] }

/- WHAT THE LISTED PACKAGE-LEVEL VARIABLES READ AS WHEN THE CALL BEGINS. Each datum BY PROGRAM (the guide's laid-datum.mjs) off the statement by which the dump's own 'gosem.cut.vars' lays the variable. In a bare row this is a premise. The card (YtcndmooeglfilaaGreatDoorCards.lean) ties it to the program's text. -/
def laid_unicode_utf8_acceptRanges {H : Type} : DataW H := .agg [.agg [.lit (.int .u8 128), .lit (.int .u8 191)], .agg [.lit (.int .u8 160), .lit (.int .u8 191)], .agg [.lit (.int .u8 128), .lit (.int .u8 159)], .agg [.lit (.int .u8 144), .lit (.int .u8 191)], .agg [.lit (.int .u8 128), .lit (.int .u8 143)], .agg [.lit (.int .u8 0), .lit (.int .u8 0)], .agg [.lit (.int .u8 0), .lit (.int .u8 0)], .agg [.lit (.int .u8 0), .lit (.int .u8 0)], .agg [.lit (.int .u8 0), .lit (.int .u8 0)], .agg [.lit (.int .u8 0), .lit (.int .u8 0)], .agg [.lit (.int .u8 0), .lit (.int .u8 0)], .agg [.lit (.int .u8 0), .lit (.int .u8 0)], .agg [.lit (.int .u8 0), .lit (.int .u8 0)], .agg [.lit (.int .u8 0), .lit (.int .u8 0)], .agg [.lit (.int .u8 0), .lit (.int .u8 0)], .agg [.lit (.int .u8 0), .lit (.int .u8 0)]]
/-- One of Go's own tables, pinned by name: the form's constant. -/
def laid_unicode_utf8_first : DataW Unit := Go.Pinned.utf8First

/-- 'webfingerlaw11.DidwebHosts': WHATEVER THE INPUT: true; the input reads as it did. -/
def didwebHostsSpec : ChangeSpec := { name := "didwebHosts", fn := fun _ => fun
  | [d] => { results := [.lit (.bool true)], args := [d] }
  | _ => none }
def didwebHostsRow : OpenClaim := { program := "ytcndmooeglfilaagreatdoor", sum := "c4da3c051c11ba62d1f21ef743e192ec2a3a3365abd4df7cb2ce053abb2c16a8", func := "webfinger/webfingerlaw11.DidwebHosts", spec := "didwebHosts", inPlace := ["internal/bytealg.IndexByteString", "internal/bytealg.IndexString", "internal/bytealg.CountString", "internal/abi.NoEscape", "internal/bytealg.MakeNoZero"], unfollowed := true, recurses := true, named := ["internal/bytealg.MaxLen", "unicode/utf8.first", "unicode/utf8.acceptRanges"], apart := false, laid := [("unicode/utf8.acceptRanges", laid_unicode_utf8_acceptRanges), ("unicode/utf8.first", laid_unicode_utf8_first)] }
def DidwebHostsSaid : Prop := didwebHostsRow.holds Tryz.pinned (OpenSpec.ofChange didwebHostsSpec)

/-- ITS FALSE NEIGHBOUR: 'it returns false'. Refute it at one input. -/
def didwebHostsWrong : ChangeSpec := { name := "didwebHosts", fn := fun _ => fun
  | [d] => { results := [.lit (.bool false)], args := [d] }
  | _ => none }
def DidwebHostsWrongFalsely : Prop := didwebHostsRow.holds Tryz.pinned (OpenSpec.ofChange didwebHostsWrong)

/-- 'webfingerlaw25.RedirectNext': WHATEVER THE INPUT: true; the input reads as it did. -/
def redirectNextSpec : ChangeSpec := { name := "redirectNext", fn := fun _ => fun
  | [d1, d2, d3, d4, d5] => { results := [.lit (.bool true)], args := [d1, d2, d3, d4, d5] }
  | _ => none }
def redirectNextRow : OpenClaim := { program := "ytcndmooeglfilaagreatdoor", sum := "c4da3c051c11ba62d1f21ef743e192ec2a3a3365abd4df7cb2ce053abb2c16a8", func := "webfinger/webfingerlaw25.RedirectNext", spec := "redirectNext", inPlace := ["internal/bytealg.IndexByteString", "internal/bytealg.IndexString", "internal/bytealg.CountString", "internal/abi.NoEscape"], unfollowed := true, recurses := true, named := ["internal/bytealg.MaxLen", "unicode/utf8.first", "unicode/utf8.acceptRanges"], apart := false, laid := [("unicode/utf8.acceptRanges", laid_unicode_utf8_acceptRanges), ("unicode/utf8.first", laid_unicode_utf8_first)] }
def RedirectNextSaid : Prop := redirectNextRow.holds Tryz.pinned (OpenSpec.ofChange redirectNextSpec)

/-- ITS FALSE NEIGHBOUR: 'it returns false'. Refute it at one input. -/
def redirectNextWrong : ChangeSpec := { name := "redirectNext", fn := fun _ => fun
  | [d1, d2, d3, d4, d5] => { results := [.lit (.bool false)], args := [d1, d2, d3, d4, d5] }
  | _ => none }
def RedirectNextWrongFalsely : Prop := redirectNextRow.holds Tryz.pinned (OpenSpec.ofChange redirectNextWrong)

/-- 'webfingerlaw25.RedirectTexts': WHATEVER THE INPUT: true; the input reads as it did. -/
def redirectTextsSpec : ChangeSpec := { name := "redirectTexts", fn := fun _ => fun
  | [d1, d2, d3, d4] => { results := [.lit (.bool true)], args := [d1, d2, d3, d4] }
  | _ => none }
def redirectTextsRow : OpenClaim := { program := "ytcndmooeglfilaagreatdoor", sum := "c4da3c051c11ba62d1f21ef743e192ec2a3a3365abd4df7cb2ce053abb2c16a8", func := "webfinger/webfingerlaw25.RedirectTexts", spec := "redirectTexts", inPlace := ["internal/bytealg.IndexByteString", "internal/bytealg.IndexString", "internal/bytealg.CountString", "internal/abi.NoEscape"], unfollowed := true, recurses := true, named := ["internal/bytealg.MaxLen", "unicode/utf8.first", "unicode/utf8.acceptRanges"], apart := false, laid := [("unicode/utf8.acceptRanges", laid_unicode_utf8_acceptRanges), ("unicode/utf8.first", laid_unicode_utf8_first)] }
def RedirectTextsSaid : Prop := redirectTextsRow.holds Tryz.pinned (OpenSpec.ofChange redirectTextsSpec)

/-- ITS FALSE NEIGHBOUR: 'it returns false'. Refute it at one input. -/
def redirectTextsWrong : ChangeSpec := { name := "redirectTexts", fn := fun _ => fun
  | [d1, d2, d3, d4] => { results := [.lit (.bool false)], args := [d1, d2, d3, d4] }
  | _ => none }
def RedirectTextsWrongFalsely : Prop := redirectTextsRow.holds Tryz.pinned (OpenSpec.ofChange redirectTextsWrong)

/-- 'webfingerlaw25.RedirectSafe': WHATEVER THE INPUT: true; the input reads as it did. -/
def redirectSafeSpec : ChangeSpec := { name := "redirectSafe", fn := fun _ => fun
  | [d1, d2, d3, d4] => { results := [.lit (.bool true)], args := [d1, d2, d3, d4] }
  | _ => none }
def redirectSafeRow : OpenClaim := { program := "ytcndmooeglfilaagreatdoor", sum := "c4da3c051c11ba62d1f21ef743e192ec2a3a3365abd4df7cb2ce053abb2c16a8", func := "webfinger/webfingerlaw25.RedirectSafe", spec := "redirectSafe", inPlace := ["internal/bytealg.IndexByteString", "internal/bytealg.IndexString", "internal/bytealg.CountString", "internal/abi.NoEscape"], unfollowed := true, recurses := true, named := ["internal/bytealg.MaxLen", "unicode/utf8.first", "unicode/utf8.acceptRanges"], apart := false, laid := [("unicode/utf8.acceptRanges", laid_unicode_utf8_acceptRanges), ("unicode/utf8.first", laid_unicode_utf8_first)] }
def RedirectSafeSaid : Prop := redirectSafeRow.holds Tryz.pinned (OpenSpec.ofChange redirectSafeSpec)

/-- ITS FALSE NEIGHBOUR: 'it returns false'. Refute it at one input. -/
def redirectSafeWrong : ChangeSpec := { name := "redirectSafe", fn := fun _ => fun
  | [d1, d2, d3, d4] => { results := [.lit (.bool false)], args := [d1, d2, d3, d4] }
  | _ => none }
def RedirectSafeWrongFalsely : Prop := redirectSafeRow.holds Tryz.pinned (OpenSpec.ofChange redirectSafeWrong)

/-- 'webfingerlaw11.DidwebDIDs': WHATEVER THE INPUT: true; the input reads as it did. -/
def didwebDIDsSpec : ChangeSpec := { name := "didwebDIDs", fn := fun _ => fun
  | [d1, d2] => { results := [.lit (.bool true)], args := [d1, d2] }
  | _ => none }
def didwebDIDsRow : OpenClaim := { program := "ytcndmooeglfilaagreatdoor", sum := "c4da3c051c11ba62d1f21ef743e192ec2a3a3365abd4df7cb2ce053abb2c16a8", func := "webfinger/webfingerlaw11.DidwebDIDs", spec := "didwebDIDs", inPlace := ["internal/bytealg.IndexByteString", "internal/bytealg.IndexString", "internal/bytealg.CountString", "internal/abi.NoEscape", "internal/bytealg.MakeNoZero"], unfollowed := true, recurses := true, named := ["internal/bytealg.MaxLen", "unicode/utf8.first", "unicode/utf8.acceptRanges"], apart := false, laid := [("unicode/utf8.acceptRanges", laid_unicode_utf8_acceptRanges), ("unicode/utf8.first", laid_unicode_utf8_first)] }
def DidwebDIDsSaid : Prop := didwebDIDsRow.holds Tryz.pinned (OpenSpec.ofChange didwebDIDsSpec)

/-- ITS FALSE NEIGHBOUR: 'it returns false'. Refute it at one input. -/
def didwebDIDsWrong : ChangeSpec := { name := "didwebDIDs", fn := fun _ => fun
  | [d1, d2] => { results := [.lit (.bool false)], args := [d1, d2] }
  | _ => none }
def DidwebDIDsWrongFalsely : Prop := didwebDIDsRow.holds Tryz.pinned (OpenSpec.ofChange didwebDIDsWrong)

/-- 'webfingerlaw11.DidwebURLs': WHATEVER THE INPUT: true; the input reads as it did. -/
def didwebURLsSpec : ChangeSpec := { name := "didwebURLs", fn := fun _ => fun
  | [d1, d2] => { results := [.lit (.bool true)], args := [d1, d2] }
  | _ => none }
def didwebURLsRow : OpenClaim := { program := "ytcndmooeglfilaagreatdoor", sum := "c4da3c051c11ba62d1f21ef743e192ec2a3a3365abd4df7cb2ce053abb2c16a8", func := "webfinger/webfingerlaw11.DidwebURLs", spec := "didwebURLs", inPlace := ["internal/bytealg.IndexByteString", "internal/bytealg.IndexString", "internal/bytealg.CountString", "internal/abi.NoEscape", "internal/bytealg.MakeNoZero"], unfollowed := true, recurses := true, named := ["internal/bytealg.MaxLen", "unicode/utf8.first", "unicode/utf8.acceptRanges"], apart := false, laid := [("unicode/utf8.acceptRanges", laid_unicode_utf8_acceptRanges), ("unicode/utf8.first", laid_unicode_utf8_first)] }
def DidwebURLsSaid : Prop := didwebURLsRow.holds Tryz.pinned (OpenSpec.ofChange didwebURLsSpec)

/-- ITS FALSE NEIGHBOUR: 'it returns false'. Refute it at one input. -/
def didwebURLsWrong : ChangeSpec := { name := "didwebURLs", fn := fun _ => fun
  | [d1, d2] => { results := [.lit (.bool false)], args := [d1, d2] }
  | _ => none }
def DidwebURLsWrongFalsely : Prop := didwebURLsRow.holds Tryz.pinned (OpenSpec.ofChange didwebURLsWrong)

/-- 'webfingerlaw11.DidwebInverse': WHATEVER THE INPUT: true; the input reads as it did. -/
def didwebInverseSpec : ChangeSpec := { name := "didwebInverse", fn := fun _ => fun
  | [d1, d2] => { results := [.lit (.bool true)], args := [d1, d2] }
  | _ => none }
def didwebInverseRow : OpenClaim := { program := "ytcndmooeglfilaagreatdoor", sum := "c4da3c051c11ba62d1f21ef743e192ec2a3a3365abd4df7cb2ce053abb2c16a8", func := "webfinger/webfingerlaw11.DidwebInverse", spec := "didwebInverse", inPlace := ["internal/bytealg.IndexByteString", "internal/bytealg.IndexString", "internal/bytealg.CountString", "internal/abi.NoEscape", "internal/bytealg.MakeNoZero"], unfollowed := true, recurses := true, named := ["internal/bytealg.MaxLen", "unicode/utf8.first", "unicode/utf8.acceptRanges"], apart := false, laid := [("unicode/utf8.acceptRanges", laid_unicode_utf8_acceptRanges), ("unicode/utf8.first", laid_unicode_utf8_first)] }
def DidwebInverseSaid : Prop := didwebInverseRow.holds Tryz.pinned (OpenSpec.ofChange didwebInverseSpec)

/-- ITS FALSE NEIGHBOUR: 'it returns false'. Refute it at one input. -/
def didwebInverseWrong : ChangeSpec := { name := "didwebInverse", fn := fun _ => fun
  | [d1, d2] => { results := [.lit (.bool false)], args := [d1, d2] }
  | _ => none }
def DidwebInverseWrongFalsely : Prop := didwebInverseRow.holds Tryz.pinned (OpenSpec.ofChange didwebInverseWrong)

/-- 'webfingerlaw12.IdentParses': WHATEVER THE INPUT: true; the input reads as it did. -/
def identParsesSpec : ChangeSpec := { name := "identParses", fn := fun _ => fun
  | [d] => { results := [.lit (.bool true)], args := [d] }
  | _ => none }
def identParsesRow : OpenClaim := { program := "ytcndmooeglfilaagreatdoor", sum := "c4da3c051c11ba62d1f21ef743e192ec2a3a3365abd4df7cb2ce053abb2c16a8", func := "webfinger/webfingerlaw12.IdentParses", spec := "identParses", inPlace := ["internal/bytealg.IndexByteString", "internal/bytealg.IndexString", "internal/bytealg.CountString", "internal/abi.NoEscape", "internal/bytealg.MakeNoZero"], unfollowed := true, recurses := true, named := ["internal/bytealg.MaxLen", "unicode/utf8.first", "unicode/utf8.acceptRanges"], apart := false, laid := [("unicode/utf8.acceptRanges", laid_unicode_utf8_acceptRanges), ("unicode/utf8.first", laid_unicode_utf8_first)] }
def IdentParsesSaid : Prop := identParsesRow.holds Tryz.pinned (OpenSpec.ofChange identParsesSpec)

/-- ITS FALSE NEIGHBOUR: 'it returns false'. Refute it at one input. -/
def identParsesWrong : ChangeSpec := { name := "identParses", fn := fun _ => fun
  | [d] => { results := [.lit (.bool false)], args := [d] }
  | _ => none }
def IdentParsesWrongFalsely : Prop := identParsesRow.holds Tryz.pinned (OpenSpec.ofChange identParsesWrong)

/-- 'webfingerlaw12.IdentBack': WHATEVER THE INPUT: true; the input reads as it did. -/
def identBackSpec : ChangeSpec := { name := "identBack", fn := fun _ => fun
  | [d1, d2, d3] => { results := [.lit (.bool true)], args := [d1, d2, d3] }
  | _ => none }
def identBackRow : OpenClaim := { program := "ytcndmooeglfilaagreatdoor", sum := "c4da3c051c11ba62d1f21ef743e192ec2a3a3365abd4df7cb2ce053abb2c16a8", func := "webfinger/webfingerlaw12.IdentBack", spec := "identBack", inPlace := ["internal/bytealg.IndexByteString", "internal/bytealg.IndexString", "internal/bytealg.CountString", "internal/abi.NoEscape", "internal/bytealg.MakeNoZero"], unfollowed := true, recurses := true, named := ["internal/bytealg.MaxLen", "unicode/utf8.first", "unicode/utf8.acceptRanges"], apart := false, laid := [("unicode/utf8.acceptRanges", laid_unicode_utf8_acceptRanges), ("unicode/utf8.first", laid_unicode_utf8_first)] }
def IdentBackSaid : Prop := identBackRow.holds Tryz.pinned (OpenSpec.ofChange identBackSpec)

/-- ITS FALSE NEIGHBOUR: 'it returns false'. Refute it at one input. -/
def identBackWrong : ChangeSpec := { name := "identBack", fn := fun _ => fun
  | [d1, d2, d3] => { results := [.lit (.bool false)], args := [d1, d2, d3] }
  | _ => none }
def IdentBackWrongFalsely : Prop := identBackRow.holds Tryz.pinned (OpenSpec.ofChange identBackWrong)

/-- 'webfingerlaw12.IdentCompares': WHATEVER THE INPUT: true; the input reads as it did. -/
def identComparesSpec : ChangeSpec := { name := "identCompares", fn := fun _ => fun
  | [d1, d2, d3] => { results := [.lit (.bool true)], args := [d1, d2, d3] }
  | _ => none }
def identComparesRow : OpenClaim := { program := "ytcndmooeglfilaagreatdoor", sum := "c4da3c051c11ba62d1f21ef743e192ec2a3a3365abd4df7cb2ce053abb2c16a8", func := "webfinger/webfingerlaw12.IdentCompares", spec := "identCompares", inPlace := ["internal/bytealg.IndexByteString", "internal/bytealg.IndexString", "internal/bytealg.CountString", "internal/abi.NoEscape", "internal/bytealg.MakeNoZero"], unfollowed := true, recurses := true, named := ["internal/bytealg.MaxLen", "unicode/utf8.first", "unicode/utf8.acceptRanges"], apart := false, laid := [("unicode/utf8.acceptRanges", laid_unicode_utf8_acceptRanges), ("unicode/utf8.first", laid_unicode_utf8_first)] }
def IdentComparesSaid : Prop := identComparesRow.holds Tryz.pinned (OpenSpec.ofChange identComparesSpec)

/-- ITS FALSE NEIGHBOUR: 'it returns false'. Refute it at one input. -/
def identComparesWrong : ChangeSpec := { name := "identCompares", fn := fun _ => fun
  | [d1, d2, d3] => { results := [.lit (.bool false)], args := [d1, d2, d3] }
  | _ => none }
def IdentComparesWrongFalsely : Prop := identComparesRow.holds Tryz.pinned (OpenSpec.ofChange identComparesWrong)

/-- 'webfingerlaw12.IdentHosts': WHATEVER THE INPUT: true; the input reads as it did. -/
def identHostsSpec : ChangeSpec := { name := "identHosts", fn := fun _ => fun
  | [d] => { results := [.lit (.bool true)], args := [d] }
  | _ => none }
def identHostsRow : OpenClaim := { program := "ytcndmooeglfilaagreatdoor", sum := "c4da3c051c11ba62d1f21ef743e192ec2a3a3365abd4df7cb2ce053abb2c16a8", func := "webfinger/webfingerlaw12.IdentHosts", spec := "identHosts", inPlace := ["internal/bytealg.IndexByteString", "internal/bytealg.IndexString", "internal/bytealg.CountString", "internal/abi.NoEscape", "internal/bytealg.MakeNoZero"], unfollowed := true, recurses := true, named := ["internal/bytealg.MaxLen", "unicode/utf8.first", "unicode/utf8.acceptRanges"], apart := false, laid := [("unicode/utf8.acceptRanges", laid_unicode_utf8_acceptRanges), ("unicode/utf8.first", laid_unicode_utf8_first)] }
def IdentHostsSaid : Prop := identHostsRow.holds Tryz.pinned (OpenSpec.ofChange identHostsSpec)

/-- ITS FALSE NEIGHBOUR: 'it returns false'. Refute it at one input. -/
def identHostsWrong : ChangeSpec := { name := "identHosts", fn := fun _ => fun
  | [d] => { results := [.lit (.bool false)], args := [d] }
  | _ => none }
def IdentHostsWrongFalsely : Prop := identHostsRow.holds Tryz.pinned (OpenSpec.ofChange identHostsWrong)

/- THE SECOND FORM. 'bulk': how many values and letters a reading holds, each counted each time it is reached (what is shared counts as often as it is met; a slice's spare places count too). A statement '..UptoSaid' is the law's where the arguments, and the package variables that the reading takes, are together of bulk at most 1048576: NARROWER than '..Said'. Prove '..Said' where nothing that the law and all that it calls make is longer than what came in: it says more and counts as full. Else prove '..UptoSaid'. A law counts once. -/
mutual
def uptoBulk {H : Type} : DataW H → Nat
  | .lit (.string bytes) => bytes.length + 1
  | .lit _ => 1
  | .nil => 1
  | .ptr d => uptoBulk d + 1
  | .slice elems spare => uptoBulkAll elems + uptoBulkAll spare + 1
  | .agg parts => uptoBulkAll parts + 1
  | .iface _ d => uptoBulk d + 1
  | .map entries => uptoBulkEntries entries + 1
  | .held _ => 1
def uptoBulkAll {H : Type} : List (DataW H) → Nat
  | [] => 0
  | d :: r => uptoBulk d + uptoBulkAll r
def uptoBulkEntries {H : Type} : List (Lit × DataW H) → Nat
  | [] => 0
  | x :: r => uptoBulkEntry x + uptoBulkEntries r
def uptoBulkEntry {H : Type} : Lit × DataW H → Nat
  | (.string bytes, d) => bytes.length + uptoBulk d + 1
  | (_, d) => uptoBulk d + 1
 end
def uptoSmall : (H : Type) → List (DataW H) → Bool := fun _ ds => decide (uptoBulkAll ds ≤ 1048576)
def OpenSpec.upto (s : _root_.Go.ChangeSpec) : _root_.Go.OpenSpec := { _root_.Go.OpenSpec.ofChange s with cond := some uptoSmall }

/-- 'webfingerlaw11.DidwebHosts', WHERE WHAT IT READS IS OF BULK AT MOST 1048576: true; the input reads as it did. -/
def didwebHostsUptoRow : OpenClaim := { program := "ytcndmooeglfilaagreatdoor", sum := "c4da3c051c11ba62d1f21ef743e192ec2a3a3365abd4df7cb2ce053abb2c16a8", func := "webfinger/webfingerlaw11.DidwebHosts", spec := "didwebHosts", inPlace := ["internal/bytealg.IndexByteString", "internal/bytealg.IndexString", "internal/bytealg.CountString", "internal/abi.NoEscape", "internal/bytealg.MakeNoZero"], unfollowed := true, recurses := true, named := ["internal/bytealg.MaxLen", "unicode/utf8.first", "unicode/utf8.acceptRanges"], apart := false, laid := [("unicode/utf8.acceptRanges", laid_unicode_utf8_acceptRanges), ("unicode/utf8.first", laid_unicode_utf8_first)], narrowed := true }
def DidwebHostsUptoSaid : Prop := didwebHostsUptoRow.holds Tryz.pinned (OpenSpec.upto didwebHostsSpec)

/-- 'webfingerlaw25.RedirectNext', WHERE WHAT IT READS IS OF BULK AT MOST 1048576: true; the input reads as it did. -/
def redirectNextUptoRow : OpenClaim := { program := "ytcndmooeglfilaagreatdoor", sum := "c4da3c051c11ba62d1f21ef743e192ec2a3a3365abd4df7cb2ce053abb2c16a8", func := "webfinger/webfingerlaw25.RedirectNext", spec := "redirectNext", inPlace := ["internal/bytealg.IndexByteString", "internal/bytealg.IndexString", "internal/bytealg.CountString", "internal/abi.NoEscape"], unfollowed := true, recurses := true, named := ["internal/bytealg.MaxLen", "unicode/utf8.first", "unicode/utf8.acceptRanges"], apart := false, laid := [("unicode/utf8.acceptRanges", laid_unicode_utf8_acceptRanges), ("unicode/utf8.first", laid_unicode_utf8_first)], narrowed := true }
def RedirectNextUptoSaid : Prop := redirectNextUptoRow.holds Tryz.pinned (OpenSpec.upto redirectNextSpec)

/-- 'webfingerlaw25.RedirectTexts', WHERE WHAT IT READS IS OF BULK AT MOST 1048576: true; the input reads as it did. -/
def redirectTextsUptoRow : OpenClaim := { program := "ytcndmooeglfilaagreatdoor", sum := "c4da3c051c11ba62d1f21ef743e192ec2a3a3365abd4df7cb2ce053abb2c16a8", func := "webfinger/webfingerlaw25.RedirectTexts", spec := "redirectTexts", inPlace := ["internal/bytealg.IndexByteString", "internal/bytealg.IndexString", "internal/bytealg.CountString", "internal/abi.NoEscape"], unfollowed := true, recurses := true, named := ["internal/bytealg.MaxLen", "unicode/utf8.first", "unicode/utf8.acceptRanges"], apart := false, laid := [("unicode/utf8.acceptRanges", laid_unicode_utf8_acceptRanges), ("unicode/utf8.first", laid_unicode_utf8_first)], narrowed := true }
def RedirectTextsUptoSaid : Prop := redirectTextsUptoRow.holds Tryz.pinned (OpenSpec.upto redirectTextsSpec)

/-- 'webfingerlaw25.RedirectSafe', WHERE WHAT IT READS IS OF BULK AT MOST 1048576: true; the input reads as it did. -/
def redirectSafeUptoRow : OpenClaim := { program := "ytcndmooeglfilaagreatdoor", sum := "c4da3c051c11ba62d1f21ef743e192ec2a3a3365abd4df7cb2ce053abb2c16a8", func := "webfinger/webfingerlaw25.RedirectSafe", spec := "redirectSafe", inPlace := ["internal/bytealg.IndexByteString", "internal/bytealg.IndexString", "internal/bytealg.CountString", "internal/abi.NoEscape"], unfollowed := true, recurses := true, named := ["internal/bytealg.MaxLen", "unicode/utf8.first", "unicode/utf8.acceptRanges"], apart := false, laid := [("unicode/utf8.acceptRanges", laid_unicode_utf8_acceptRanges), ("unicode/utf8.first", laid_unicode_utf8_first)], narrowed := true }
def RedirectSafeUptoSaid : Prop := redirectSafeUptoRow.holds Tryz.pinned (OpenSpec.upto redirectSafeSpec)

/-- 'webfingerlaw11.DidwebDIDs', WHERE WHAT IT READS IS OF BULK AT MOST 1048576: true; the input reads as it did. -/
def didwebDIDsUptoRow : OpenClaim := { program := "ytcndmooeglfilaagreatdoor", sum := "c4da3c051c11ba62d1f21ef743e192ec2a3a3365abd4df7cb2ce053abb2c16a8", func := "webfinger/webfingerlaw11.DidwebDIDs", spec := "didwebDIDs", inPlace := ["internal/bytealg.IndexByteString", "internal/bytealg.IndexString", "internal/bytealg.CountString", "internal/abi.NoEscape", "internal/bytealg.MakeNoZero"], unfollowed := true, recurses := true, named := ["internal/bytealg.MaxLen", "unicode/utf8.first", "unicode/utf8.acceptRanges"], apart := false, laid := [("unicode/utf8.acceptRanges", laid_unicode_utf8_acceptRanges), ("unicode/utf8.first", laid_unicode_utf8_first)], narrowed := true }
def DidwebDIDsUptoSaid : Prop := didwebDIDsUptoRow.holds Tryz.pinned (OpenSpec.upto didwebDIDsSpec)

/-- 'webfingerlaw11.DidwebURLs', WHERE WHAT IT READS IS OF BULK AT MOST 1048576: true; the input reads as it did. -/
def didwebURLsUptoRow : OpenClaim := { program := "ytcndmooeglfilaagreatdoor", sum := "c4da3c051c11ba62d1f21ef743e192ec2a3a3365abd4df7cb2ce053abb2c16a8", func := "webfinger/webfingerlaw11.DidwebURLs", spec := "didwebURLs", inPlace := ["internal/bytealg.IndexByteString", "internal/bytealg.IndexString", "internal/bytealg.CountString", "internal/abi.NoEscape", "internal/bytealg.MakeNoZero"], unfollowed := true, recurses := true, named := ["internal/bytealg.MaxLen", "unicode/utf8.first", "unicode/utf8.acceptRanges"], apart := false, laid := [("unicode/utf8.acceptRanges", laid_unicode_utf8_acceptRanges), ("unicode/utf8.first", laid_unicode_utf8_first)], narrowed := true }
def DidwebURLsUptoSaid : Prop := didwebURLsUptoRow.holds Tryz.pinned (OpenSpec.upto didwebURLsSpec)

/-- 'webfingerlaw11.DidwebInverse', WHERE WHAT IT READS IS OF BULK AT MOST 1048576: true; the input reads as it did. -/
def didwebInverseUptoRow : OpenClaim := { program := "ytcndmooeglfilaagreatdoor", sum := "c4da3c051c11ba62d1f21ef743e192ec2a3a3365abd4df7cb2ce053abb2c16a8", func := "webfinger/webfingerlaw11.DidwebInverse", spec := "didwebInverse", inPlace := ["internal/bytealg.IndexByteString", "internal/bytealg.IndexString", "internal/bytealg.CountString", "internal/abi.NoEscape", "internal/bytealg.MakeNoZero"], unfollowed := true, recurses := true, named := ["internal/bytealg.MaxLen", "unicode/utf8.first", "unicode/utf8.acceptRanges"], apart := false, laid := [("unicode/utf8.acceptRanges", laid_unicode_utf8_acceptRanges), ("unicode/utf8.first", laid_unicode_utf8_first)], narrowed := true }
def DidwebInverseUptoSaid : Prop := didwebInverseUptoRow.holds Tryz.pinned (OpenSpec.upto didwebInverseSpec)

/-- 'webfingerlaw12.IdentParses', WHERE WHAT IT READS IS OF BULK AT MOST 1048576: true; the input reads as it did. -/
def identParsesUptoRow : OpenClaim := { program := "ytcndmooeglfilaagreatdoor", sum := "c4da3c051c11ba62d1f21ef743e192ec2a3a3365abd4df7cb2ce053abb2c16a8", func := "webfinger/webfingerlaw12.IdentParses", spec := "identParses", inPlace := ["internal/bytealg.IndexByteString", "internal/bytealg.IndexString", "internal/bytealg.CountString", "internal/abi.NoEscape", "internal/bytealg.MakeNoZero"], unfollowed := true, recurses := true, named := ["internal/bytealg.MaxLen", "unicode/utf8.first", "unicode/utf8.acceptRanges"], apart := false, laid := [("unicode/utf8.acceptRanges", laid_unicode_utf8_acceptRanges), ("unicode/utf8.first", laid_unicode_utf8_first)], narrowed := true }
def IdentParsesUptoSaid : Prop := identParsesUptoRow.holds Tryz.pinned (OpenSpec.upto identParsesSpec)

/-- 'webfingerlaw12.IdentBack', WHERE WHAT IT READS IS OF BULK AT MOST 1048576: true; the input reads as it did. -/
def identBackUptoRow : OpenClaim := { program := "ytcndmooeglfilaagreatdoor", sum := "c4da3c051c11ba62d1f21ef743e192ec2a3a3365abd4df7cb2ce053abb2c16a8", func := "webfinger/webfingerlaw12.IdentBack", spec := "identBack", inPlace := ["internal/bytealg.IndexByteString", "internal/bytealg.IndexString", "internal/bytealg.CountString", "internal/abi.NoEscape", "internal/bytealg.MakeNoZero"], unfollowed := true, recurses := true, named := ["internal/bytealg.MaxLen", "unicode/utf8.first", "unicode/utf8.acceptRanges"], apart := false, laid := [("unicode/utf8.acceptRanges", laid_unicode_utf8_acceptRanges), ("unicode/utf8.first", laid_unicode_utf8_first)], narrowed := true }
def IdentBackUptoSaid : Prop := identBackUptoRow.holds Tryz.pinned (OpenSpec.upto identBackSpec)

/-- 'webfingerlaw12.IdentCompares', WHERE WHAT IT READS IS OF BULK AT MOST 1048576: true; the input reads as it did. -/
def identComparesUptoRow : OpenClaim := { program := "ytcndmooeglfilaagreatdoor", sum := "c4da3c051c11ba62d1f21ef743e192ec2a3a3365abd4df7cb2ce053abb2c16a8", func := "webfinger/webfingerlaw12.IdentCompares", spec := "identCompares", inPlace := ["internal/bytealg.IndexByteString", "internal/bytealg.IndexString", "internal/bytealg.CountString", "internal/abi.NoEscape", "internal/bytealg.MakeNoZero"], unfollowed := true, recurses := true, named := ["internal/bytealg.MaxLen", "unicode/utf8.first", "unicode/utf8.acceptRanges"], apart := false, laid := [("unicode/utf8.acceptRanges", laid_unicode_utf8_acceptRanges), ("unicode/utf8.first", laid_unicode_utf8_first)], narrowed := true }
def IdentComparesUptoSaid : Prop := identComparesUptoRow.holds Tryz.pinned (OpenSpec.upto identComparesSpec)

/-- 'webfingerlaw12.IdentHosts', WHERE WHAT IT READS IS OF BULK AT MOST 1048576: true; the input reads as it did. -/
def identHostsUptoRow : OpenClaim := { program := "ytcndmooeglfilaagreatdoor", sum := "c4da3c051c11ba62d1f21ef743e192ec2a3a3365abd4df7cb2ce053abb2c16a8", func := "webfinger/webfingerlaw12.IdentHosts", spec := "identHosts", inPlace := ["internal/bytealg.IndexByteString", "internal/bytealg.IndexString", "internal/bytealg.CountString", "internal/abi.NoEscape", "internal/bytealg.MakeNoZero"], unfollowed := true, recurses := true, named := ["internal/bytealg.MaxLen", "unicode/utf8.first", "unicode/utf8.acceptRanges"], apart := false, laid := [("unicode/utf8.acceptRanges", laid_unicode_utf8_acceptRanges), ("unicode/utf8.first", laid_unicode_utf8_first)], narrowed := true }
def IdentHostsUptoSaid : Prop := identHostsUptoRow.holds Tryz.pinned (OpenSpec.upto identHostsSpec)

end Rows
end Go.Proofs.YtcndmooeglfilaaGreatDoor
