/-
  NARROWER THAN 'FOR EVERY INPUT', by the rows' own cells (each row's printed sentence says how): DidParses: laid · DidFormats: laid · DidResolves: laid · DidBack: laid · TemplateExpands: laid · TemplateKeeps: laid · TemplateSafe: laid · MailLocals: laid · MailBack: laid.
  DERIVED. THE GIVEN ROWS OF THIS SEAT. 9 by the template 'for every input the law returns true; each argument reads behind the call as it read before'; 0 by the template 'total and deterministic' (their statements: YtnncgbamppaacaaDoorTotals.lean).
  GIVEN WITH THE SEED: the statements are not yours to turn. If you find one false, say at which input.
  Laid BY PROGRAM, IN A SANDBOX (cutbox-rows.mjs): the forced cells as the released guide's own fill.sh prints them over the translation 27d4fd42bebc4e98… (all of the seat's roots in one cut). By AI agents, Wed Nov 11 2026. No macro, syntax, notation, axiom, sorry.
-/
import Derived.Test.YtnncgbamppaacaaDoorChecked
import GoSem.PinnedTables
import GoSem.Claim
import GoSem.ClaimJoined
import GoSem.ClaimMapViews
import Derived.JoinedTies
import Derived.KernelRfl
namespace Go.Proofs.YtnncgbamppaacaaDoor
/- THE CELL 'sum', in the pinned program and in every row, IS THE sha256 OF THE DUMP (.gsa) THAT YtnncgbamppaacaaDoorProg.lean LOADS. Nothing in Lean hashes anything: it is a label: what it is worth is what the hold of that sum in a sandbox is worth. -/
noncomputable def Tryd.pinned : Pinned := { name := "ytnncgbamppaacaadoor", sum := "27d4fd42bebc4e98c2d3b62fa925cf53c55947c5359997058fea714ec1a36993", checked := Tryd.checked }
namespace Rows
def none {H : Type} : Left H := { results := [], args := [] }

/- WHAT THE LISTED PACKAGE-LEVEL VARIABLES READ AS WHEN THE CALL BEGINS. Each datum BY PROGRAM (the guide's laid-datum.mjs) off the statement by which the dump's own 'gosem.cut.vars' lays the variable. In a bare row this is a premise. The card (YtnncgbamppaacaaDoorCards.lean) ties it to the program's text. -/
def laid_unicode_utf8_acceptRanges {H : Type} : DataW H := .agg [.agg [.lit (.int .u8 128), .lit (.int .u8 191)], .agg [.lit (.int .u8 160), .lit (.int .u8 191)], .agg [.lit (.int .u8 128), .lit (.int .u8 159)], .agg [.lit (.int .u8 144), .lit (.int .u8 191)], .agg [.lit (.int .u8 128), .lit (.int .u8 143)], .agg [.lit (.int .u8 0), .lit (.int .u8 0)], .agg [.lit (.int .u8 0), .lit (.int .u8 0)], .agg [.lit (.int .u8 0), .lit (.int .u8 0)], .agg [.lit (.int .u8 0), .lit (.int .u8 0)], .agg [.lit (.int .u8 0), .lit (.int .u8 0)], .agg [.lit (.int .u8 0), .lit (.int .u8 0)], .agg [.lit (.int .u8 0), .lit (.int .u8 0)], .agg [.lit (.int .u8 0), .lit (.int .u8 0)], .agg [.lit (.int .u8 0), .lit (.int .u8 0)], .agg [.lit (.int .u8 0), .lit (.int .u8 0)], .agg [.lit (.int .u8 0), .lit (.int .u8 0)]]
/-- One of Go's own tables, pinned by name: the form's constant. -/
def laid_unicode_utf8_first : DataW Unit := Go.Pinned.utf8First

/-- 'webfingerlaw10.DidParses': WHATEVER THE INPUT: true; the input reads as it did. -/
def didParsesSpec : ChangeSpec := { name := "didParses", fn := fun _ => fun
  | [d] => { results := [.lit (.bool true)], args := [d] }
  | _ => none }
def didParsesRow : OpenClaim := { program := "ytnncgbamppaacaadoor", sum := "27d4fd42bebc4e98c2d3b62fa925cf53c55947c5359997058fea714ec1a36993", func := "webfinger/webfingerlaw10.DidParses", spec := "didParses", inPlace := ["internal/bytealg.IndexByteString", "internal/bytealg.IndexString", "internal/bytealg.CountString", "internal/abi.NoEscape", "internal/bytealg.MakeNoZero"], named := ["internal/bytealg.MaxLen", "unicode/utf8.first", "unicode/utf8.acceptRanges"], apart := false, laid := [("unicode/utf8.acceptRanges", laid_unicode_utf8_acceptRanges), ("unicode/utf8.first", laid_unicode_utf8_first)] }
def DidParsesSaid : Prop := didParsesRow.holds Tryd.pinned (OpenSpec.ofChange didParsesSpec)

/-- ITS FALSE NEIGHBOUR: 'it returns false'. Refute it at one input. -/
def didParsesWrong : ChangeSpec := { name := "didParses", fn := fun _ => fun
  | [d] => { results := [.lit (.bool false)], args := [d] }
  | _ => none }
def DidParsesWrongFalsely : Prop := didParsesRow.holds Tryd.pinned (OpenSpec.ofChange didParsesWrong)

/-- 'webfingerlaw10.DidFormats': WHATEVER THE INPUT: true; the input reads as it did. -/
def didFormatsSpec : ChangeSpec := { name := "didFormats", fn := fun _ => fun
  | [d] => { results := [.lit (.bool true)], args := [d] }
  | _ => none }
def didFormatsRow : OpenClaim := { program := "ytnncgbamppaacaadoor", sum := "27d4fd42bebc4e98c2d3b62fa925cf53c55947c5359997058fea714ec1a36993", func := "webfinger/webfingerlaw10.DidFormats", spec := "didFormats", inPlace := ["internal/bytealg.IndexByteString", "internal/bytealg.IndexString", "internal/bytealg.CountString", "internal/abi.NoEscape", "internal/bytealg.MakeNoZero"], named := ["internal/bytealg.MaxLen", "unicode/utf8.first", "unicode/utf8.acceptRanges"], apart := false, laid := [("unicode/utf8.acceptRanges", laid_unicode_utf8_acceptRanges), ("unicode/utf8.first", laid_unicode_utf8_first)] }
def DidFormatsSaid : Prop := didFormatsRow.holds Tryd.pinned (OpenSpec.ofChange didFormatsSpec)

/-- ITS FALSE NEIGHBOUR: 'it returns false'. Refute it at one input. -/
def didFormatsWrong : ChangeSpec := { name := "didFormats", fn := fun _ => fun
  | [d] => { results := [.lit (.bool false)], args := [d] }
  | _ => none }
def DidFormatsWrongFalsely : Prop := didFormatsRow.holds Tryd.pinned (OpenSpec.ofChange didFormatsWrong)

/-- 'webfingerlaw10.DidResolves': WHATEVER THE INPUT: true; the input reads as it did. -/
def didResolvesSpec : ChangeSpec := { name := "didResolves", fn := fun _ => fun
  | [d1, d2, d3] => { results := [.lit (.bool true)], args := [d1, d2, d3] }
  | _ => none }
def didResolvesRow : OpenClaim := { program := "ytnncgbamppaacaadoor", sum := "27d4fd42bebc4e98c2d3b62fa925cf53c55947c5359997058fea714ec1a36993", func := "webfinger/webfingerlaw10.DidResolves", spec := "didResolves", inPlace := ["internal/bytealg.IndexByteString", "internal/bytealg.IndexString", "internal/bytealg.CountString", "internal/abi.NoEscape", "internal/bytealg.MakeNoZero"], named := ["internal/bytealg.MaxLen", "unicode/utf8.first", "unicode/utf8.acceptRanges"], apart := false, laid := [("unicode/utf8.acceptRanges", laid_unicode_utf8_acceptRanges), ("unicode/utf8.first", laid_unicode_utf8_first)] }
def DidResolvesSaid : Prop := didResolvesRow.holds Tryd.pinned (OpenSpec.ofChange didResolvesSpec)

/-- ITS FALSE NEIGHBOUR: 'it returns false'. Refute it at one input. -/
def didResolvesWrong : ChangeSpec := { name := "didResolves", fn := fun _ => fun
  | [d1, d2, d3] => { results := [.lit (.bool false)], args := [d1, d2, d3] }
  | _ => none }
def DidResolvesWrongFalsely : Prop := didResolvesRow.holds Tryd.pinned (OpenSpec.ofChange didResolvesWrong)

/-- 'webfingerlaw10.DidBack': WHATEVER THE INPUT: true; the input reads as it did. -/
def didBackSpec : ChangeSpec := { name := "didBack", fn := fun _ => fun
  | [d] => { results := [.lit (.bool true)], args := [d] }
  | _ => none }
def didBackRow : OpenClaim := { program := "ytnncgbamppaacaadoor", sum := "27d4fd42bebc4e98c2d3b62fa925cf53c55947c5359997058fea714ec1a36993", func := "webfinger/webfingerlaw10.DidBack", spec := "didBack", inPlace := ["internal/bytealg.IndexByteString", "internal/bytealg.IndexString", "internal/bytealg.CountString", "internal/abi.NoEscape", "internal/bytealg.MakeNoZero"], named := ["internal/bytealg.MaxLen", "unicode/utf8.first", "unicode/utf8.acceptRanges"], apart := false, laid := [("unicode/utf8.acceptRanges", laid_unicode_utf8_acceptRanges), ("unicode/utf8.first", laid_unicode_utf8_first)] }
def DidBackSaid : Prop := didBackRow.holds Tryd.pinned (OpenSpec.ofChange didBackSpec)

/-- ITS FALSE NEIGHBOUR: 'it returns false'. Refute it at one input. -/
def didBackWrong : ChangeSpec := { name := "didBack", fn := fun _ => fun
  | [d] => { results := [.lit (.bool false)], args := [d] }
  | _ => none }
def DidBackWrongFalsely : Prop := didBackRow.holds Tryd.pinned (OpenSpec.ofChange didBackWrong)

/-- 'webfingerlaw23.TemplateExpands': WHATEVER THE INPUT: true; the input reads as it did. -/
def templateExpandsSpec : ChangeSpec := { name := "templateExpands", fn := fun _ => fun
  | [d1, d2] => { results := [.lit (.bool true)], args := [d1, d2] }
  | _ => none }
def templateExpandsRow : OpenClaim := { program := "ytnncgbamppaacaadoor", sum := "27d4fd42bebc4e98c2d3b62fa925cf53c55947c5359997058fea714ec1a36993", func := "webfinger/webfingerlaw23.TemplateExpands", spec := "templateExpands", inPlace := ["internal/bytealg.IndexByteString", "internal/bytealg.IndexString", "internal/bytealg.CountString", "internal/abi.NoEscape"], unfollowed := true, recurses := true, named := ["internal/bytealg.MaxLen", "unicode/utf8.first", "unicode/utf8.acceptRanges"], apart := false, laid := [("unicode/utf8.acceptRanges", laid_unicode_utf8_acceptRanges), ("unicode/utf8.first", laid_unicode_utf8_first)] }
def TemplateExpandsSaid : Prop := templateExpandsRow.holds Tryd.pinned (OpenSpec.ofChange templateExpandsSpec)

/-- ITS FALSE NEIGHBOUR: 'it returns false'. Refute it at one input. -/
def templateExpandsWrong : ChangeSpec := { name := "templateExpands", fn := fun _ => fun
  | [d1, d2] => { results := [.lit (.bool false)], args := [d1, d2] }
  | _ => none }
def TemplateExpandsWrongFalsely : Prop := templateExpandsRow.holds Tryd.pinned (OpenSpec.ofChange templateExpandsWrong)

/-- 'webfingerlaw23.TemplateKeeps': WHATEVER THE INPUT: true; the input reads as it did. -/
def templateKeepsSpec : ChangeSpec := { name := "templateKeeps", fn := fun _ => fun
  | [d1, d2, d3] => { results := [.lit (.bool true)], args := [d1, d2, d3] }
  | _ => none }
def templateKeepsRow : OpenClaim := { program := "ytnncgbamppaacaadoor", sum := "27d4fd42bebc4e98c2d3b62fa925cf53c55947c5359997058fea714ec1a36993", func := "webfinger/webfingerlaw23.TemplateKeeps", spec := "templateKeeps", inPlace := ["internal/bytealg.IndexByteString", "internal/bytealg.IndexString", "internal/bytealg.CountString", "internal/abi.NoEscape"], unfollowed := true, recurses := true, named := ["internal/bytealg.MaxLen", "unicode/utf8.first", "unicode/utf8.acceptRanges"], apart := false, laid := [("unicode/utf8.acceptRanges", laid_unicode_utf8_acceptRanges), ("unicode/utf8.first", laid_unicode_utf8_first)] }
def TemplateKeepsSaid : Prop := templateKeepsRow.holds Tryd.pinned (OpenSpec.ofChange templateKeepsSpec)

/-- ITS FALSE NEIGHBOUR: 'it returns false'. Refute it at one input. -/
def templateKeepsWrong : ChangeSpec := { name := "templateKeeps", fn := fun _ => fun
  | [d1, d2, d3] => { results := [.lit (.bool false)], args := [d1, d2, d3] }
  | _ => none }
def TemplateKeepsWrongFalsely : Prop := templateKeepsRow.holds Tryd.pinned (OpenSpec.ofChange templateKeepsWrong)

/-- 'webfingerlaw23.TemplateSafe': WHATEVER THE INPUT: true; the input reads as it did. -/
def templateSafeSpec : ChangeSpec := { name := "templateSafe", fn := fun _ => fun
  | [d] => { results := [.lit (.bool true)], args := [d] }
  | _ => none }
def templateSafeRow : OpenClaim := { program := "ytnncgbamppaacaadoor", sum := "27d4fd42bebc4e98c2d3b62fa925cf53c55947c5359997058fea714ec1a36993", func := "webfinger/webfingerlaw23.TemplateSafe", spec := "templateSafe", inPlace := ["internal/bytealg.IndexByteString", "internal/bytealg.IndexString", "internal/bytealg.CountString", "internal/abi.NoEscape"], unfollowed := true, recurses := true, named := ["internal/bytealg.MaxLen", "unicode/utf8.first", "unicode/utf8.acceptRanges"], apart := false, laid := [("unicode/utf8.acceptRanges", laid_unicode_utf8_acceptRanges), ("unicode/utf8.first", laid_unicode_utf8_first)] }
def TemplateSafeSaid : Prop := templateSafeRow.holds Tryd.pinned (OpenSpec.ofChange templateSafeSpec)

/-- ITS FALSE NEIGHBOUR: 'it returns false'. Refute it at one input. -/
def templateSafeWrong : ChangeSpec := { name := "templateSafe", fn := fun _ => fun
  | [d] => { results := [.lit (.bool false)], args := [d] }
  | _ => none }
def TemplateSafeWrongFalsely : Prop := templateSafeRow.holds Tryd.pinned (OpenSpec.ofChange templateSafeWrong)

/-- 'webfingerlaw09.MailLocals': WHATEVER THE INPUT: true; the input reads as it did. -/
def mailLocalsSpec : ChangeSpec := { name := "mailLocals", fn := fun _ => fun
  | [d1, d2] => { results := [.lit (.bool true)], args := [d1, d2] }
  | _ => none }
def mailLocalsRow : OpenClaim := { program := "ytnncgbamppaacaadoor", sum := "27d4fd42bebc4e98c2d3b62fa925cf53c55947c5359997058fea714ec1a36993", func := "webfinger/webfingerlaw09.MailLocals", spec := "mailLocals", inPlace := ["internal/bytealg.IndexByteString", "internal/bytealg.IndexString", "internal/bytealg.CountString"], unfollowed := true, recurses := true, named := ["internal/bytealg.MaxLen", "unicode/utf8.first", "unicode/utf8.acceptRanges"], apart := false, laid := [("unicode/utf8.acceptRanges", laid_unicode_utf8_acceptRanges), ("unicode/utf8.first", laid_unicode_utf8_first)] }
def MailLocalsSaid : Prop := mailLocalsRow.holds Tryd.pinned (OpenSpec.ofChange mailLocalsSpec)

/-- ITS FALSE NEIGHBOUR: 'it returns false'. Refute it at one input. -/
def mailLocalsWrong : ChangeSpec := { name := "mailLocals", fn := fun _ => fun
  | [d1, d2] => { results := [.lit (.bool false)], args := [d1, d2] }
  | _ => none }
def MailLocalsWrongFalsely : Prop := mailLocalsRow.holds Tryd.pinned (OpenSpec.ofChange mailLocalsWrong)

/-- 'webfingerlaw09.MailBack': WHATEVER THE INPUT: true; the input reads as it did. -/
def mailBackSpec : ChangeSpec := { name := "mailBack", fn := fun _ => fun
  | [d1, d2] => { results := [.lit (.bool true)], args := [d1, d2] }
  | _ => none }
def mailBackRow : OpenClaim := { program := "ytnncgbamppaacaadoor", sum := "27d4fd42bebc4e98c2d3b62fa925cf53c55947c5359997058fea714ec1a36993", func := "webfinger/webfingerlaw09.MailBack", spec := "mailBack", inPlace := ["internal/bytealg.IndexByteString", "internal/bytealg.IndexString", "internal/bytealg.CountString"], unfollowed := true, recurses := true, named := ["internal/bytealg.MaxLen", "unicode/utf8.first", "unicode/utf8.acceptRanges"], apart := false, laid := [("unicode/utf8.acceptRanges", laid_unicode_utf8_acceptRanges), ("unicode/utf8.first", laid_unicode_utf8_first)] }
def MailBackSaid : Prop := mailBackRow.holds Tryd.pinned (OpenSpec.ofChange mailBackSpec)

/-- ITS FALSE NEIGHBOUR: 'it returns false'. Refute it at one input. -/
def mailBackWrong : ChangeSpec := { name := "mailBack", fn := fun _ => fun
  | [d1, d2] => { results := [.lit (.bool false)], args := [d1, d2] }
  | _ => none }
def MailBackWrongFalsely : Prop := mailBackRow.holds Tryd.pinned (OpenSpec.ofChange mailBackWrong)

/- THE SECOND FORM. 'bulk': how many values and letters a reading holds, each counted each time it is reached (what is shared counts as often as it is met; a slice's spare places count too). A statement '..UptoSaid' is the law's where the arguments, and the package variables that the reading takes, are together of bulk at most 1048576: NARROWER than '..Said'. Prove '..Said' where nothing that the law and all that it calls make is longer than what came in: it says more and counts as full. Else prove '..UptoSaid'. A law counts once. -/
mutual
def uptoBulk {H : Type} : DataW H → Nat
  | .lit (.string bytes) => bytes.length + 1
  | .lit _ => 1
  | .nil => 1
  | .ptr d => uptoBulk d + 1
  | .slice elems spare => uptoBulkAll elems + uptoBulkAll spare + 1
  | .agg parts => uptoBulkAll parts + 1
  | .iface _ d => uptoBulk d + 1
  | .map entries => uptoBulkEntries entries + 1
  | .held _ => 1
def uptoBulkAll {H : Type} : List (DataW H) → Nat
  | [] => 0
  | d :: r => uptoBulk d + uptoBulkAll r
def uptoBulkEntries {H : Type} : List (Lit × DataW H) → Nat
  | [] => 0
  | x :: r => uptoBulkEntry x + uptoBulkEntries r
def uptoBulkEntry {H : Type} : Lit × DataW H → Nat
  | (.string bytes, d) => bytes.length + uptoBulk d + 1
  | (_, d) => uptoBulk d + 1
 end
def uptoSmall : (H : Type) → List (DataW H) → Bool := fun _ ds => decide (uptoBulkAll ds ≤ 1048576)
def OpenSpec.upto (s : _root_.Go.ChangeSpec) : _root_.Go.OpenSpec := { _root_.Go.OpenSpec.ofChange s with cond := some uptoSmall }

/-- 'webfingerlaw10.DidParses', WHERE WHAT IT READS IS OF BULK AT MOST 1048576: true; the input reads as it did. -/
def didParsesUptoRow : OpenClaim := { program := "ytnncgbamppaacaadoor", sum := "27d4fd42bebc4e98c2d3b62fa925cf53c55947c5359997058fea714ec1a36993", func := "webfinger/webfingerlaw10.DidParses", spec := "didParses", inPlace := ["internal/bytealg.IndexByteString", "internal/bytealg.IndexString", "internal/bytealg.CountString", "internal/abi.NoEscape", "internal/bytealg.MakeNoZero"], named := ["internal/bytealg.MaxLen", "unicode/utf8.first", "unicode/utf8.acceptRanges"], apart := false, laid := [("unicode/utf8.acceptRanges", laid_unicode_utf8_acceptRanges), ("unicode/utf8.first", laid_unicode_utf8_first)], narrowed := true }
def DidParsesUptoSaid : Prop := didParsesUptoRow.holds Tryd.pinned (OpenSpec.upto didParsesSpec)

/-- 'webfingerlaw10.DidFormats', WHERE WHAT IT READS IS OF BULK AT MOST 1048576: true; the input reads as it did. -/
def didFormatsUptoRow : OpenClaim := { program := "ytnncgbamppaacaadoor", sum := "27d4fd42bebc4e98c2d3b62fa925cf53c55947c5359997058fea714ec1a36993", func := "webfinger/webfingerlaw10.DidFormats", spec := "didFormats", inPlace := ["internal/bytealg.IndexByteString", "internal/bytealg.IndexString", "internal/bytealg.CountString", "internal/abi.NoEscape", "internal/bytealg.MakeNoZero"], named := ["internal/bytealg.MaxLen", "unicode/utf8.first", "unicode/utf8.acceptRanges"], apart := false, laid := [("unicode/utf8.acceptRanges", laid_unicode_utf8_acceptRanges), ("unicode/utf8.first", laid_unicode_utf8_first)], narrowed := true }
def DidFormatsUptoSaid : Prop := didFormatsUptoRow.holds Tryd.pinned (OpenSpec.upto didFormatsSpec)

/-- 'webfingerlaw10.DidResolves', WHERE WHAT IT READS IS OF BULK AT MOST 1048576: true; the input reads as it did. -/
def didResolvesUptoRow : OpenClaim := { program := "ytnncgbamppaacaadoor", sum := "27d4fd42bebc4e98c2d3b62fa925cf53c55947c5359997058fea714ec1a36993", func := "webfinger/webfingerlaw10.DidResolves", spec := "didResolves", inPlace := ["internal/bytealg.IndexByteString", "internal/bytealg.IndexString", "internal/bytealg.CountString", "internal/abi.NoEscape", "internal/bytealg.MakeNoZero"], named := ["internal/bytealg.MaxLen", "unicode/utf8.first", "unicode/utf8.acceptRanges"], apart := false, laid := [("unicode/utf8.acceptRanges", laid_unicode_utf8_acceptRanges), ("unicode/utf8.first", laid_unicode_utf8_first)], narrowed := true }
def DidResolvesUptoSaid : Prop := didResolvesUptoRow.holds Tryd.pinned (OpenSpec.upto didResolvesSpec)

/-- 'webfingerlaw10.DidBack', WHERE WHAT IT READS IS OF BULK AT MOST 1048576: true; the input reads as it did. -/
def didBackUptoRow : OpenClaim := { program := "ytnncgbamppaacaadoor", sum := "27d4fd42bebc4e98c2d3b62fa925cf53c55947c5359997058fea714ec1a36993", func := "webfinger/webfingerlaw10.DidBack", spec := "didBack", inPlace := ["internal/bytealg.IndexByteString", "internal/bytealg.IndexString", "internal/bytealg.CountString", "internal/abi.NoEscape", "internal/bytealg.MakeNoZero"], named := ["internal/bytealg.MaxLen", "unicode/utf8.first", "unicode/utf8.acceptRanges"], apart := false, laid := [("unicode/utf8.acceptRanges", laid_unicode_utf8_acceptRanges), ("unicode/utf8.first", laid_unicode_utf8_first)], narrowed := true }
def DidBackUptoSaid : Prop := didBackUptoRow.holds Tryd.pinned (OpenSpec.upto didBackSpec)

/-- 'webfingerlaw23.TemplateExpands', WHERE WHAT IT READS IS OF BULK AT MOST 1048576: true; the input reads as it did. -/
def templateExpandsUptoRow : OpenClaim := { program := "ytnncgbamppaacaadoor", sum := "27d4fd42bebc4e98c2d3b62fa925cf53c55947c5359997058fea714ec1a36993", func := "webfinger/webfingerlaw23.TemplateExpands", spec := "templateExpands", inPlace := ["internal/bytealg.IndexByteString", "internal/bytealg.IndexString", "internal/bytealg.CountString", "internal/abi.NoEscape"], unfollowed := true, recurses := true, named := ["internal/bytealg.MaxLen", "unicode/utf8.first", "unicode/utf8.acceptRanges"], apart := false, laid := [("unicode/utf8.acceptRanges", laid_unicode_utf8_acceptRanges), ("unicode/utf8.first", laid_unicode_utf8_first)], narrowed := true }
def TemplateExpandsUptoSaid : Prop := templateExpandsUptoRow.holds Tryd.pinned (OpenSpec.upto templateExpandsSpec)

/-- 'webfingerlaw23.TemplateKeeps', WHERE WHAT IT READS IS OF BULK AT MOST 1048576: true; the input reads as it did. -/
def templateKeepsUptoRow : OpenClaim := { program := "ytnncgbamppaacaadoor", sum := "27d4fd42bebc4e98c2d3b62fa925cf53c55947c5359997058fea714ec1a36993", func := "webfinger/webfingerlaw23.TemplateKeeps", spec := "templateKeeps", inPlace := ["internal/bytealg.IndexByteString", "internal/bytealg.IndexString", "internal/bytealg.CountString", "internal/abi.NoEscape"], unfollowed := true, recurses := true, named := ["internal/bytealg.MaxLen", "unicode/utf8.first", "unicode/utf8.acceptRanges"], apart := false, laid := [("unicode/utf8.acceptRanges", laid_unicode_utf8_acceptRanges), ("unicode/utf8.first", laid_unicode_utf8_first)], narrowed := true }
def TemplateKeepsUptoSaid : Prop := templateKeepsUptoRow.holds Tryd.pinned (OpenSpec.upto templateKeepsSpec)

/-- 'webfingerlaw23.TemplateSafe', WHERE WHAT IT READS IS OF BULK AT MOST 1048576: true; the input reads as it did. -/
def templateSafeUptoRow : OpenClaim := { program := "ytnncgbamppaacaadoor", sum := "27d4fd42bebc4e98c2d3b62fa925cf53c55947c5359997058fea714ec1a36993", func := "webfinger/webfingerlaw23.TemplateSafe", spec := "templateSafe", inPlace := ["internal/bytealg.IndexByteString", "internal/bytealg.IndexString", "internal/bytealg.CountString", "internal/abi.NoEscape"], unfollowed := true, recurses := true, named := ["internal/bytealg.MaxLen", "unicode/utf8.first", "unicode/utf8.acceptRanges"], apart := false, laid := [("unicode/utf8.acceptRanges", laid_unicode_utf8_acceptRanges), ("unicode/utf8.first", laid_unicode_utf8_first)], narrowed := true }
def TemplateSafeUptoSaid : Prop := templateSafeUptoRow.holds Tryd.pinned (OpenSpec.upto templateSafeSpec)

/-- 'webfingerlaw09.MailLocals', WHERE WHAT IT READS IS OF BULK AT MOST 1048576: true; the input reads as it did. -/
def mailLocalsUptoRow : OpenClaim := { program := "ytnncgbamppaacaadoor", sum := "27d4fd42bebc4e98c2d3b62fa925cf53c55947c5359997058fea714ec1a36993", func := "webfinger/webfingerlaw09.MailLocals", spec := "mailLocals", inPlace := ["internal/bytealg.IndexByteString", "internal/bytealg.IndexString", "internal/bytealg.CountString"], unfollowed := true, recurses := true, named := ["internal/bytealg.MaxLen", "unicode/utf8.first", "unicode/utf8.acceptRanges"], apart := false, laid := [("unicode/utf8.acceptRanges", laid_unicode_utf8_acceptRanges), ("unicode/utf8.first", laid_unicode_utf8_first)], narrowed := true }
def MailLocalsUptoSaid : Prop := mailLocalsUptoRow.holds Tryd.pinned (OpenSpec.upto mailLocalsSpec)

/-- 'webfingerlaw09.MailBack', WHERE WHAT IT READS IS OF BULK AT MOST 1048576: true; the input reads as it did. -/
def mailBackUptoRow : OpenClaim := { program := "ytnncgbamppaacaadoor", sum := "27d4fd42bebc4e98c2d3b62fa925cf53c55947c5359997058fea714ec1a36993", func := "webfinger/webfingerlaw09.MailBack", spec := "mailBack", inPlace := ["internal/bytealg.IndexByteString", "internal/bytealg.IndexString", "internal/bytealg.CountString"], unfollowed := true, recurses := true, named := ["internal/bytealg.MaxLen", "unicode/utf8.first", "unicode/utf8.acceptRanges"], apart := false, laid := [("unicode/utf8.acceptRanges", laid_unicode_utf8_acceptRanges), ("unicode/utf8.first", laid_unicode_utf8_first)], narrowed := true }
def MailBackUptoSaid : Prop := mailBackUptoRow.holds Tryd.pinned (OpenSpec.upto mailBackSpec)

end Rows
end Go.Proofs.YtnncgbamppaacaaDoor
