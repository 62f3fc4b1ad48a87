/-
  NARROWER THAN 'FOR EVERY INPUT', by the rows' own cells (each row's printed sentence says how): DiddocDecodes: loops, laid · DiddocSelects: laid · DiddocEncodes: laid · DiddocBack: laid.
  DERIVED. THE GIVEN ROWS OF THIS SEAT. 4 by the template 'for every input the law returns true; each argument reads behind the call as it read before'; 0 by the template 'total and deterministic' (their statements: YtejfjmcjicpodaaGreatDoorTotals.lean).
  GIVEN WITH THE SEED: the statements are not yours to turn. If you find one false, say at which input.
  Laid BY PROGRAM, IN A SANDBOX (cutbox-rows.mjs): the forced cells as the released guide's own fill.sh prints them over the translation 48afe8ca2feeafbe… (all of the seat's roots in one cut). By AI agents, Wed Nov 11 2026. No macro, syntax, notation, axiom, sorry.
-/
import Derived.Test.YtejfjmcjicpodaaGreatDoorChecked
import GoSem.PinnedTables
import GoSem.Claim
import GoSem.ClaimJoined
import GoSem.ClaimMapViews
import Derived.JoinedTies
import Derived.KernelRfl
namespace Go.Proofs.YtejfjmcjicpodaaGreatDoor
/- THE CELL 'sum', in the pinned program and in every row, IS THE sha256 OF THE DUMP (.gsa) THAT YtejfjmcjicpodaaGreatDoorProg.lean LOADS. Nothing in Lean hashes anything: it is a label: what it is worth is what the hold of that sum in a sandbox is worth. -/
noncomputable def Tryz.pinned : Pinned := { name := "ytejfjmcjicpodaagreatdoor", sum := "48afe8ca2feeafbe054baf8a92b4be4e529cdd1795e13ffe986f695227684884", checked := Tryz.checked }
namespace Rows
def none {H : Type} : Left H := { results := [], args := [] }

/- WHAT THE LISTED PACKAGE-LEVEL VARIABLES READ AS WHEN THE CALL BEGINS. Each datum BY PROGRAM (the guide's laid-datum.mjs) off the statement by which the dump's own 'gosem.cut.vars' lays the variable. In a bare row this is a premise. The card (YtejfjmcjicpodaaGreatDoorCards.lean) ties it to the program's text. -/
def laid_unicode_utf8_acceptRanges {H : Type} : DataW H := .agg [.agg [.lit (.int .u8 128), .lit (.int .u8 191)], .agg [.lit (.int .u8 160), .lit (.int .u8 191)], .agg [.lit (.int .u8 128), .lit (.int .u8 159)], .agg [.lit (.int .u8 144), .lit (.int .u8 191)], .agg [.lit (.int .u8 128), .lit (.int .u8 143)], .agg [.lit (.int .u8 0), .lit (.int .u8 0)], .agg [.lit (.int .u8 0), .lit (.int .u8 0)], .agg [.lit (.int .u8 0), .lit (.int .u8 0)], .agg [.lit (.int .u8 0), .lit (.int .u8 0)], .agg [.lit (.int .u8 0), .lit (.int .u8 0)], .agg [.lit (.int .u8 0), .lit (.int .u8 0)], .agg [.lit (.int .u8 0), .lit (.int .u8 0)], .agg [.lit (.int .u8 0), .lit (.int .u8 0)], .agg [.lit (.int .u8 0), .lit (.int .u8 0)], .agg [.lit (.int .u8 0), .lit (.int .u8 0)], .agg [.lit (.int .u8 0), .lit (.int .u8 0)]]
/-- One of Go's own tables, pinned by name: the form's constant. -/
def laid_unicode_utf8_first : DataW Unit := Go.Pinned.utf8First

/-- 'webfingerlaw17.DiddocDecodes': WHATEVER THE INPUT: true; the input reads as it did. -/
def diddocDecodesSpec : ChangeSpec := { name := "diddocDecodes", fn := fun _ => fun
  | [d1, d2] => { results := [.lit (.bool true)], args := [d1, d2] }
  | _ => none }
def diddocDecodesRow : OpenClaim := { program := "ytejfjmcjicpodaagreatdoor", sum := "48afe8ca2feeafbe054baf8a92b4be4e529cdd1795e13ffe986f695227684884", func := "webfinger/webfingerlaw17.DiddocDecodes", spec := "diddocDecodes", inPlace := ["internal/bytealg.IndexByteString", "internal/bytealg.IndexString", "internal/bytealg.CountString", "internal/abi.NoEscape", "internal/bytealg.MakeNoZero"], unfollowed := true, recurses := true, named := ["internal/bytealg.MaxLen", "unicode/utf8.first", "unicode/utf8.acceptRanges"], loops := true, apart := false, laid := [("unicode/utf8.acceptRanges", laid_unicode_utf8_acceptRanges), ("unicode/utf8.first", laid_unicode_utf8_first)] }
def DiddocDecodesSaid : Prop := diddocDecodesRow.holds Tryz.pinned (OpenSpec.ofChange diddocDecodesSpec)

/-- ITS FALSE NEIGHBOUR: 'it returns false'. Refute it at one input. -/
def diddocDecodesWrong : ChangeSpec := { name := "diddocDecodes", fn := fun _ => fun
  | [d1, d2] => { results := [.lit (.bool false)], args := [d1, d2] }
  | _ => none }
def DiddocDecodesWrongFalsely : Prop := diddocDecodesRow.holds Tryz.pinned (OpenSpec.ofChange diddocDecodesWrong)

/-- 'webfingerlaw17.DiddocSelects': WHATEVER THE INPUT: true; the input reads as it did. -/
def diddocSelectsSpec : ChangeSpec := { name := "diddocSelects", fn := fun _ => fun
  | [d1, d2] => { results := [.lit (.bool true)], args := [d1, d2] }
  | _ => none }
def diddocSelectsRow : OpenClaim := { program := "ytejfjmcjicpodaagreatdoor", sum := "48afe8ca2feeafbe054baf8a92b4be4e529cdd1795e13ffe986f695227684884", func := "webfinger/webfingerlaw17.DiddocSelects", spec := "diddocSelects", inPlace := ["internal/bytealg.IndexByteString", "internal/bytealg.IndexString", "internal/bytealg.CountString", "internal/abi.NoEscape", "internal/bytealg.MakeNoZero"], unfollowed := true, recurses := true, named := ["internal/bytealg.MaxLen", "unicode/utf8.first", "unicode/utf8.acceptRanges"], apart := false, laid := [("unicode/utf8.acceptRanges", laid_unicode_utf8_acceptRanges), ("unicode/utf8.first", laid_unicode_utf8_first)] }
def DiddocSelectsSaid : Prop := diddocSelectsRow.holds Tryz.pinned (OpenSpec.ofChange diddocSelectsSpec)

/-- ITS FALSE NEIGHBOUR: 'it returns false'. Refute it at one input. -/
def diddocSelectsWrong : ChangeSpec := { name := "diddocSelects", fn := fun _ => fun
  | [d1, d2] => { results := [.lit (.bool false)], args := [d1, d2] }
  | _ => none }
def DiddocSelectsWrongFalsely : Prop := diddocSelectsRow.holds Tryz.pinned (OpenSpec.ofChange diddocSelectsWrong)

/-- 'webfingerlaw17.DiddocEncodes': WHATEVER THE INPUT: true; the input reads as it did. -/
def diddocEncodesSpec : ChangeSpec := { name := "diddocEncodes", fn := fun _ => fun
  | [d] => { results := [.lit (.bool true)], args := [d] }
  | _ => none }
def diddocEncodesRow : OpenClaim := { program := "ytejfjmcjicpodaagreatdoor", sum := "48afe8ca2feeafbe054baf8a92b4be4e529cdd1795e13ffe986f695227684884", func := "webfinger/webfingerlaw17.DiddocEncodes", spec := "diddocEncodes", inPlace := ["internal/bytealg.IndexByteString", "internal/bytealg.IndexString", "internal/bytealg.CountString", "internal/abi.NoEscape", "internal/bytealg.MakeNoZero"], unfollowed := true, recurses := true, named := ["internal/bytealg.MaxLen", "unicode/utf8.first", "unicode/utf8.acceptRanges"], apart := false, laid := [("unicode/utf8.acceptRanges", laid_unicode_utf8_acceptRanges), ("unicode/utf8.first", laid_unicode_utf8_first)] }
def DiddocEncodesSaid : Prop := diddocEncodesRow.holds Tryz.pinned (OpenSpec.ofChange diddocEncodesSpec)

/-- ITS FALSE NEIGHBOUR: 'it returns false'. Refute it at one input. -/
def diddocEncodesWrong : ChangeSpec := { name := "diddocEncodes", fn := fun _ => fun
  | [d] => { results := [.lit (.bool false)], args := [d] }
  | _ => none }
def DiddocEncodesWrongFalsely : Prop := diddocEncodesRow.holds Tryz.pinned (OpenSpec.ofChange diddocEncodesWrong)

/-- 'webfingerlaw17.DiddocBack': WHATEVER THE INPUT: true; the input reads as it did. -/
def diddocBackSpec : ChangeSpec := { name := "diddocBack", fn := fun _ => fun
  | [d] => { results := [.lit (.bool true)], args := [d] }
  | _ => none }
def diddocBackRow : OpenClaim := { program := "ytejfjmcjicpodaagreatdoor", sum := "48afe8ca2feeafbe054baf8a92b4be4e529cdd1795e13ffe986f695227684884", func := "webfinger/webfingerlaw17.DiddocBack", spec := "diddocBack", inPlace := ["internal/bytealg.IndexByteString", "internal/bytealg.IndexString", "internal/bytealg.CountString", "internal/abi.NoEscape", "internal/bytealg.MakeNoZero"], unfollowed := true, recurses := true, named := ["internal/bytealg.MaxLen", "unicode/utf8.first", "unicode/utf8.acceptRanges"], apart := false, laid := [("unicode/utf8.acceptRanges", laid_unicode_utf8_acceptRanges), ("unicode/utf8.first", laid_unicode_utf8_first)] }
def DiddocBackSaid : Prop := diddocBackRow.holds Tryz.pinned (OpenSpec.ofChange diddocBackSpec)

/-- ITS FALSE NEIGHBOUR: 'it returns false'. Refute it at one input. -/
def diddocBackWrong : ChangeSpec := { name := "diddocBack", fn := fun _ => fun
  | [d] => { results := [.lit (.bool false)], args := [d] }
  | _ => none }
def DiddocBackWrongFalsely : Prop := diddocBackRow.holds Tryz.pinned (OpenSpec.ofChange diddocBackWrong)

/- THE SECOND FORM. 'bulk': how many values and letters a reading holds, each counted each time it is reached (what is shared counts as often as it is met; a slice's spare places count too). A statement '..UptoSaid' is the law's where the arguments, and the package variables that the reading takes, are together of bulk at most 1048576: NARROWER than '..Said'. Prove '..Said' where nothing that the law and all that it calls make is longer than what came in: it says more and counts as full. Else prove '..UptoSaid'. A law counts once. -/
mutual
def uptoBulk {H : Type} : DataW H → Nat
  | .lit (.string bytes) => bytes.length + 1
  | .lit _ => 1
  | .nil => 1
  | .ptr d => uptoBulk d + 1
  | .slice elems spare => uptoBulkAll elems + uptoBulkAll spare + 1
  | .agg parts => uptoBulkAll parts + 1
  | .iface _ d => uptoBulk d + 1
  | .map entries => uptoBulkEntries entries + 1
  | .held _ => 1
def uptoBulkAll {H : Type} : List (DataW H) → Nat
  | [] => 0
  | d :: r => uptoBulk d + uptoBulkAll r
def uptoBulkEntries {H : Type} : List (Lit × DataW H) → Nat
  | [] => 0
  | x :: r => uptoBulkEntry x + uptoBulkEntries r
def uptoBulkEntry {H : Type} : Lit × DataW H → Nat
  | (.string bytes, d) => bytes.length + uptoBulk d + 1
  | (_, d) => uptoBulk d + 1
 end
def uptoSmall : (H : Type) → List (DataW H) → Bool := fun _ ds => decide (uptoBulkAll ds ≤ 1048576)
def OpenSpec.upto (s : _root_.Go.ChangeSpec) : _root_.Go.OpenSpec := { _root_.Go.OpenSpec.ofChange s with cond := some uptoSmall }

/-- 'webfingerlaw17.DiddocDecodes', WHERE WHAT IT READS IS OF BULK AT MOST 1048576: true; the input reads as it did. -/
def diddocDecodesUptoRow : OpenClaim := { program := "ytejfjmcjicpodaagreatdoor", sum := "48afe8ca2feeafbe054baf8a92b4be4e529cdd1795e13ffe986f695227684884", func := "webfinger/webfingerlaw17.DiddocDecodes", spec := "diddocDecodes", inPlace := ["internal/bytealg.IndexByteString", "internal/bytealg.IndexString", "internal/bytealg.CountString", "internal/abi.NoEscape", "internal/bytealg.MakeNoZero"], unfollowed := true, recurses := true, named := ["internal/bytealg.MaxLen", "unicode/utf8.first", "unicode/utf8.acceptRanges"], loops := true, apart := false, laid := [("unicode/utf8.acceptRanges", laid_unicode_utf8_acceptRanges), ("unicode/utf8.first", laid_unicode_utf8_first)], narrowed := true }
def DiddocDecodesUptoSaid : Prop := diddocDecodesUptoRow.holds Tryz.pinned (OpenSpec.upto diddocDecodesSpec)

/-- 'webfingerlaw17.DiddocSelects', WHERE WHAT IT READS IS OF BULK AT MOST 1048576: true; the input reads as it did. -/
def diddocSelectsUptoRow : OpenClaim := { program := "ytejfjmcjicpodaagreatdoor", sum := "48afe8ca2feeafbe054baf8a92b4be4e529cdd1795e13ffe986f695227684884", func := "webfinger/webfingerlaw17.DiddocSelects", spec := "diddocSelects", inPlace := ["internal/bytealg.IndexByteString", "internal/bytealg.IndexString", "internal/bytealg.CountString", "internal/abi.NoEscape", "internal/bytealg.MakeNoZero"], unfollowed := true, recurses := true, named := ["internal/bytealg.MaxLen", "unicode/utf8.first", "unicode/utf8.acceptRanges"], apart := false, laid := [("unicode/utf8.acceptRanges", laid_unicode_utf8_acceptRanges), ("unicode/utf8.first", laid_unicode_utf8_first)], narrowed := true }
def DiddocSelectsUptoSaid : Prop := diddocSelectsUptoRow.holds Tryz.pinned (OpenSpec.upto diddocSelectsSpec)

/-- 'webfingerlaw17.DiddocEncodes', WHERE WHAT IT READS IS OF BULK AT MOST 1048576: true; the input reads as it did. -/
def diddocEncodesUptoRow : OpenClaim := { program := "ytejfjmcjicpodaagreatdoor", sum := "48afe8ca2feeafbe054baf8a92b4be4e529cdd1795e13ffe986f695227684884", func := "webfinger/webfingerlaw17.DiddocEncodes", spec := "diddocEncodes", inPlace := ["internal/bytealg.IndexByteString", "internal/bytealg.IndexString", "internal/bytealg.CountString", "internal/abi.NoEscape", "internal/bytealg.MakeNoZero"], unfollowed := true, recurses := true, named := ["internal/bytealg.MaxLen", "unicode/utf8.first", "unicode/utf8.acceptRanges"], apart := false, laid := [("unicode/utf8.acceptRanges", laid_unicode_utf8_acceptRanges), ("unicode/utf8.first", laid_unicode_utf8_first)], narrowed := true }
def DiddocEncodesUptoSaid : Prop := diddocEncodesUptoRow.holds Tryz.pinned (OpenSpec.upto diddocEncodesSpec)

/-- 'webfingerlaw17.DiddocBack', WHERE WHAT IT READS IS OF BULK AT MOST 1048576: true; the input reads as it did. -/
def diddocBackUptoRow : OpenClaim := { program := "ytejfjmcjicpodaagreatdoor", sum := "48afe8ca2feeafbe054baf8a92b4be4e529cdd1795e13ffe986f695227684884", func := "webfinger/webfingerlaw17.DiddocBack", spec := "diddocBack", inPlace := ["internal/bytealg.IndexByteString", "internal/bytealg.IndexString", "internal/bytealg.CountString", "internal/abi.NoEscape", "internal/bytealg.MakeNoZero"], unfollowed := true, recurses := true, named := ["internal/bytealg.MaxLen", "unicode/utf8.first", "unicode/utf8.acceptRanges"], apart := false, laid := [("unicode/utf8.acceptRanges", laid_unicode_utf8_acceptRanges), ("unicode/utf8.first", laid_unicode_utf8_first)], narrowed := true }
def DiddocBackUptoSaid : Prop := diddocBackUptoRow.holds Tryz.pinned (OpenSpec.upto diddocBackSpec)

end Rows
end Go.Proofs.YtejfjmcjicpodaaGreatDoor
