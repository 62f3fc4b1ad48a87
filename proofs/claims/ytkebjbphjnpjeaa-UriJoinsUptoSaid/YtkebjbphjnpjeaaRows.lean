/-
  No cell of these rows narrows 'for every input' (looked for: loops, veiled, ifaces, maps, wideKeys, modest, calm, conditions, laid).
  DERIVED. THE GIVEN ROWS OF THIS SEAT. 8 by the template 'for every input the law returns true; each argument reads behind the call as it read before'; 0 by the template 'total and deterministic' (their statements: YtkebjbphjnpjeaaTotals.lean).
  GIVEN WITH THE SEED: the statements are not yours to turn. If you find one false, say at which input.
  Laid BY PROGRAM, IN A SANDBOX (cutbox-rows.mjs): the forced cells as the released guide's own fill.sh prints them over the translation 96253178fab3757d… (all of the seat's roots in one cut). By AI agents, Wed Nov 11 2026. No macro, syntax, notation, axiom, sorry.
-/
import Derived.Test.YtkebjbphjnpjeaaChecked
import GoSem.Claim
import GoSem.ClaimJoined
import GoSem.ClaimMapViews
import Derived.JoinedTies
import Derived.KernelRfl
namespace Go.Proofs.Ytkebjbphjnpjeaa
/- THE CELL 'sum', in the pinned program and in every row, IS THE sha256 OF THE DUMP (.gsa) THAT YtkebjbphjnpjeaaProg.lean LOADS. Nothing in Lean hashes anything: it is a label: what it is worth is what the hold of that sum in a sandbox is worth. -/
noncomputable def Try.pinned : Pinned := { name := "ytkebjbphjnpjeaa", sum := "96253178fab3757dc806679a0ddfe23c9afeeed130ad7e19bd5ef7ee4d73ea94", checked := Try.checked }
namespace Rows
def none {H : Type} : Left H := { results := [], args := [] }

/-- 'webfingerlaw06.UriSplits': WHATEVER THE INPUT: true; the input reads as it did. -/
def uriSplitsSpec : ChangeSpec := { name := "uriSplits", fn := fun _ => fun
  | [d] => { results := [.lit (.bool true)], args := [d] }
  | _ => none }
def uriSplitsRow : OpenClaim := { program := "ytkebjbphjnpjeaa", sum := "96253178fab3757dc806679a0ddfe23c9afeeed130ad7e19bd5ef7ee4d73ea94", func := "webfinger/webfingerlaw06.UriSplits", spec := "uriSplits", inPlace := ["internal/bytealg.IndexByteString", "internal/bytealg.IndexString", "internal/abi.NoEscape"], unfollowed := true, recurses := true, named := ["internal/bytealg.MaxLen"], apart := false }
def UriSplitsSaid : Prop := uriSplitsRow.holds Try.pinned (OpenSpec.ofChange uriSplitsSpec)

/-- ITS FALSE NEIGHBOUR: 'it returns false'. Refute it at one input. -/
def uriSplitsWrong : ChangeSpec := { name := "uriSplits", fn := fun _ => fun
  | [d] => { results := [.lit (.bool false)], args := [d] }
  | _ => none }
def UriSplitsWrongFalsely : Prop := uriSplitsRow.holds Try.pinned (OpenSpec.ofChange uriSplitsWrong)

/-- 'webfingerlaw06.UriJoins': WHATEVER THE INPUT: true; the input reads as it did. -/
def uriJoinsSpec : ChangeSpec := { name := "uriJoins", fn := fun _ => fun
  | [d] => { results := [.lit (.bool true)], args := [d] }
  | _ => none }
def uriJoinsRow : OpenClaim := { program := "ytkebjbphjnpjeaa", sum := "96253178fab3757dc806679a0ddfe23c9afeeed130ad7e19bd5ef7ee4d73ea94", func := "webfinger/webfingerlaw06.UriJoins", spec := "uriJoins", inPlace := ["internal/bytealg.IndexByteString", "internal/bytealg.IndexString", "internal/abi.NoEscape"], unfollowed := true, recurses := true, named := ["internal/bytealg.MaxLen"], apart := false }
def UriJoinsSaid : Prop := uriJoinsRow.holds Try.pinned (OpenSpec.ofChange uriJoinsSpec)

/-- ITS FALSE NEIGHBOUR: 'it returns false'. Refute it at one input. -/
def uriJoinsWrong : ChangeSpec := { name := "uriJoins", fn := fun _ => fun
  | [d] => { results := [.lit (.bool false)], args := [d] }
  | _ => none }
def UriJoinsWrongFalsely : Prop := uriJoinsRow.holds Try.pinned (OpenSpec.ofChange uriJoinsWrong)

/-- 'webfingerlaw06.UriDots': WHATEVER THE INPUT: true; the input reads as it did. -/
def uriDotsSpec : ChangeSpec := { name := "uriDots", fn := fun _ => fun
  | [d] => { results := [.lit (.bool true)], args := [d] }
  | _ => none }
def uriDotsRow : OpenClaim := { program := "ytkebjbphjnpjeaa", sum := "96253178fab3757dc806679a0ddfe23c9afeeed130ad7e19bd5ef7ee4d73ea94", func := "webfinger/webfingerlaw06.UriDots", spec := "uriDots", inPlace := ["internal/bytealg.IndexByteString", "internal/bytealg.IndexString", "internal/abi.NoEscape"], unfollowed := true, recurses := true, named := ["internal/bytealg.MaxLen"], apart := false }
def UriDotsSaid : Prop := uriDotsRow.holds Try.pinned (OpenSpec.ofChange uriDotsSpec)

/-- ITS FALSE NEIGHBOUR: 'it returns false'. Refute it at one input. -/
def uriDotsWrong : ChangeSpec := { name := "uriDots", fn := fun _ => fun
  | [d] => { results := [.lit (.bool false)], args := [d] }
  | _ => none }
def UriDotsWrongFalsely : Prop := uriDotsRow.holds Try.pinned (OpenSpec.ofChange uriDotsWrong)

/-- 'webfingerlaw06.UriResolves': WHATEVER THE INPUT: true; the input reads as it did. -/
def uriResolvesSpec : ChangeSpec := { name := "uriResolves", fn := fun _ => fun
  | [d1, d2, d3, d4] => { results := [.lit (.bool true)], args := [d1, d2, d3, d4] }
  | _ => none }
def uriResolvesRow : OpenClaim := { program := "ytkebjbphjnpjeaa", sum := "96253178fab3757dc806679a0ddfe23c9afeeed130ad7e19bd5ef7ee4d73ea94", func := "webfinger/webfingerlaw06.UriResolves", spec := "uriResolves", inPlace := ["internal/bytealg.IndexByteString", "internal/bytealg.IndexString", "internal/abi.NoEscape"], unfollowed := true, recurses := true, named := ["internal/bytealg.MaxLen"], apart := false }
def UriResolvesSaid : Prop := uriResolvesRow.holds Try.pinned (OpenSpec.ofChange uriResolvesSpec)

/-- ITS FALSE NEIGHBOUR: 'it returns false'. Refute it at one input. -/
def uriResolvesWrong : ChangeSpec := { name := "uriResolves", fn := fun _ => fun
  | [d1, d2, d3, d4] => { results := [.lit (.bool false)], args := [d1, d2, d3, d4] }
  | _ => none }
def UriResolvesWrongFalsely : Prop := uriResolvesRow.holds Try.pinned (OpenSpec.ofChange uriResolvesWrong)

/-- 'webfingerlaw06.UriBack': WHATEVER THE INPUT: true; the input reads as it did. -/
def uriBackSpec : ChangeSpec := { name := "uriBack", fn := fun _ => fun
  | [d] => { results := [.lit (.bool true)], args := [d] }
  | _ => none }
def uriBackRow : OpenClaim := { program := "ytkebjbphjnpjeaa", sum := "96253178fab3757dc806679a0ddfe23c9afeeed130ad7e19bd5ef7ee4d73ea94", func := "webfinger/webfingerlaw06.UriBack", spec := "uriBack", inPlace := ["internal/bytealg.IndexByteString", "internal/bytealg.IndexString", "internal/abi.NoEscape"], unfollowed := true, recurses := true, named := ["internal/bytealg.MaxLen"], apart := false }
def UriBackSaid : Prop := uriBackRow.holds Try.pinned (OpenSpec.ofChange uriBackSpec)

/-- ITS FALSE NEIGHBOUR: 'it returns false'. Refute it at one input. -/
def uriBackWrong : ChangeSpec := { name := "uriBack", fn := fun _ => fun
  | [d] => { results := [.lit (.bool false)], args := [d] }
  | _ => none }
def UriBackWrongFalsely : Prop := uriBackRow.holds Try.pinned (OpenSpec.ofChange uriBackWrong)

/-- 'webfingerlaw06.UriClean': WHATEVER THE INPUT: true; the input reads as it did. -/
def uriCleanSpec : ChangeSpec := { name := "uriClean", fn := fun _ => fun
  | [d] => { results := [.lit (.bool true)], args := [d] }
  | _ => none }
def uriCleanRow : OpenClaim := { program := "ytkebjbphjnpjeaa", sum := "96253178fab3757dc806679a0ddfe23c9afeeed130ad7e19bd5ef7ee4d73ea94", func := "webfinger/webfingerlaw06.UriClean", spec := "uriClean", inPlace := ["internal/bytealg.IndexByteString", "internal/bytealg.IndexString", "internal/abi.NoEscape"], unfollowed := true, recurses := true, named := ["internal/bytealg.MaxLen"], apart := false }
def UriCleanSaid : Prop := uriCleanRow.holds Try.pinned (OpenSpec.ofChange uriCleanSpec)

/-- ITS FALSE NEIGHBOUR: 'it returns false'. Refute it at one input. -/
def uriCleanWrong : ChangeSpec := { name := "uriClean", fn := fun _ => fun
  | [d] => { results := [.lit (.bool false)], args := [d] }
  | _ => none }
def UriCleanWrongFalsely : Prop := uriCleanRow.holds Try.pinned (OpenSpec.ofChange uriCleanWrong)

/-- 'webfingerlaw06.UriEmpty': WHATEVER THE INPUT: true; the input reads as it did. -/
def uriEmptySpec : ChangeSpec := { name := "uriEmpty", fn := fun _ => fun
  | [d1, d2] => { results := [.lit (.bool true)], args := [d1, d2] }
  | _ => none }
def uriEmptyRow : OpenClaim := { program := "ytkebjbphjnpjeaa", sum := "96253178fab3757dc806679a0ddfe23c9afeeed130ad7e19bd5ef7ee4d73ea94", func := "webfinger/webfingerlaw06.UriEmpty", spec := "uriEmpty", inPlace := ["internal/bytealg.IndexByteString", "internal/bytealg.IndexString", "internal/abi.NoEscape"], unfollowed := true, recurses := true, named := ["internal/bytealg.MaxLen"], apart := false }
def UriEmptySaid : Prop := uriEmptyRow.holds Try.pinned (OpenSpec.ofChange uriEmptySpec)

/-- ITS FALSE NEIGHBOUR: 'it returns false'. Refute it at one input. -/
def uriEmptyWrong : ChangeSpec := { name := "uriEmpty", fn := fun _ => fun
  | [d1, d2] => { results := [.lit (.bool false)], args := [d1, d2] }
  | _ => none }
def UriEmptyWrongFalsely : Prop := uriEmptyRow.holds Try.pinned (OpenSpec.ofChange uriEmptyWrong)

/-- 'webfingerlaw06.UriExamples': WHATEVER THE INPUT: true; the input reads as it did. -/
def uriExamplesSpec : ChangeSpec := { name := "uriExamples", fn := fun _ => fun
  | [] => { results := [.lit (.bool true)], args := [] }
  | _ => none }
def uriExamplesRow : OpenClaim := { program := "ytkebjbphjnpjeaa", sum := "96253178fab3757dc806679a0ddfe23c9afeeed130ad7e19bd5ef7ee4d73ea94", func := "webfinger/webfingerlaw06.UriExamples", spec := "uriExamples", inPlace := ["internal/bytealg.IndexByteString", "internal/bytealg.IndexString", "internal/abi.NoEscape"], unfollowed := true, recurses := true, named := ["internal/bytealg.MaxLen"], apart := false }
def UriExamplesSaid : Prop := uriExamplesRow.holds Try.pinned (OpenSpec.ofChange uriExamplesSpec)

/-- ITS FALSE NEIGHBOUR: 'it returns false'. Refute it at one input. -/
def uriExamplesWrong : ChangeSpec := { name := "uriExamples", fn := fun _ => fun
  | [] => { results := [.lit (.bool false)], args := [] }
  | _ => none }
def UriExamplesWrongFalsely : Prop := uriExamplesRow.holds Try.pinned (OpenSpec.ofChange uriExamplesWrong)

/- THE SECOND FORM. 'bulk': how many values and letters a reading holds, each counted each time it is reached (what is shared counts as often as it is met; a slice's spare places count too). A statement '..UptoSaid' is the law's where the arguments, and the package variables that the reading takes, are together of bulk at most 1048576: NARROWER than '..Said'. Prove '..Said' where nothing that the law and all that it calls make is longer than what came in: it says more and counts as full. Else prove '..UptoSaid'. A law counts once. -/
mutual
def uptoBulk {H : Type} : DataW H → Nat
  | .lit (.string bytes) => bytes.length + 1
  | .lit _ => 1
  | .nil => 1
  | .ptr d => uptoBulk d + 1
  | .slice elems spare => uptoBulkAll elems + uptoBulkAll spare + 1
  | .agg parts => uptoBulkAll parts + 1
  | .iface _ d => uptoBulk d + 1
  | .map entries => uptoBulkEntries entries + 1
  | .held _ => 1
def uptoBulkAll {H : Type} : List (DataW H) → Nat
  | [] => 0
  | d :: r => uptoBulk d + uptoBulkAll r
def uptoBulkEntries {H : Type} : List (Lit × DataW H) → Nat
  | [] => 0
  | x :: r => uptoBulkEntry x + uptoBulkEntries r
def uptoBulkEntry {H : Type} : Lit × DataW H → Nat
  | (.string bytes, d) => bytes.length + uptoBulk d + 1
  | (_, d) => uptoBulk d + 1
 end
def uptoSmall : (H : Type) → List (DataW H) → Bool := fun _ ds => decide (uptoBulkAll ds ≤ 1048576)
def OpenSpec.upto (s : _root_.Go.ChangeSpec) : _root_.Go.OpenSpec := { _root_.Go.OpenSpec.ofChange s with cond := some uptoSmall }

/-- 'webfingerlaw06.UriSplits', WHERE WHAT IT READS IS OF BULK AT MOST 1048576: true; the input reads as it did. -/
def uriSplitsUptoRow : OpenClaim := { program := "ytkebjbphjnpjeaa", sum := "96253178fab3757dc806679a0ddfe23c9afeeed130ad7e19bd5ef7ee4d73ea94", func := "webfinger/webfingerlaw06.UriSplits", spec := "uriSplits", inPlace := ["internal/bytealg.IndexByteString", "internal/bytealg.IndexString", "internal/abi.NoEscape"], unfollowed := true, recurses := true, named := ["internal/bytealg.MaxLen"], apart := false, narrowed := true }
def UriSplitsUptoSaid : Prop := uriSplitsUptoRow.holds Try.pinned (OpenSpec.upto uriSplitsSpec)

/-- 'webfingerlaw06.UriJoins', WHERE WHAT IT READS IS OF BULK AT MOST 1048576: true; the input reads as it did. -/
def uriJoinsUptoRow : OpenClaim := { program := "ytkebjbphjnpjeaa", sum := "96253178fab3757dc806679a0ddfe23c9afeeed130ad7e19bd5ef7ee4d73ea94", func := "webfinger/webfingerlaw06.UriJoins", spec := "uriJoins", inPlace := ["internal/bytealg.IndexByteString", "internal/bytealg.IndexString", "internal/abi.NoEscape"], unfollowed := true, recurses := true, named := ["internal/bytealg.MaxLen"], apart := false, narrowed := true }
def UriJoinsUptoSaid : Prop := uriJoinsUptoRow.holds Try.pinned (OpenSpec.upto uriJoinsSpec)

/-- 'webfingerlaw06.UriDots', WHERE WHAT IT READS IS OF BULK AT MOST 1048576: true; the input reads as it did. -/
def uriDotsUptoRow : OpenClaim := { program := "ytkebjbphjnpjeaa", sum := "96253178fab3757dc806679a0ddfe23c9afeeed130ad7e19bd5ef7ee4d73ea94", func := "webfinger/webfingerlaw06.UriDots", spec := "uriDots", inPlace := ["internal/bytealg.IndexByteString", "internal/bytealg.IndexString", "internal/abi.NoEscape"], unfollowed := true, recurses := true, named := ["internal/bytealg.MaxLen"], apart := false, narrowed := true }
def UriDotsUptoSaid : Prop := uriDotsUptoRow.holds Try.pinned (OpenSpec.upto uriDotsSpec)

/-- 'webfingerlaw06.UriResolves', WHERE WHAT IT READS IS OF BULK AT MOST 1048576: true; the input reads as it did. -/
def uriResolvesUptoRow : OpenClaim := { program := "ytkebjbphjnpjeaa", sum := "96253178fab3757dc806679a0ddfe23c9afeeed130ad7e19bd5ef7ee4d73ea94", func := "webfinger/webfingerlaw06.UriResolves", spec := "uriResolves", inPlace := ["internal/bytealg.IndexByteString", "internal/bytealg.IndexString", "internal/abi.NoEscape"], unfollowed := true, recurses := true, named := ["internal/bytealg.MaxLen"], apart := false, narrowed := true }
def UriResolvesUptoSaid : Prop := uriResolvesUptoRow.holds Try.pinned (OpenSpec.upto uriResolvesSpec)

/-- 'webfingerlaw06.UriBack', WHERE WHAT IT READS IS OF BULK AT MOST 1048576: true; the input reads as it did. -/
def uriBackUptoRow : OpenClaim := { program := "ytkebjbphjnpjeaa", sum := "96253178fab3757dc806679a0ddfe23c9afeeed130ad7e19bd5ef7ee4d73ea94", func := "webfinger/webfingerlaw06.UriBack", spec := "uriBack", inPlace := ["internal/bytealg.IndexByteString", "internal/bytealg.IndexString", "internal/abi.NoEscape"], unfollowed := true, recurses := true, named := ["internal/bytealg.MaxLen"], apart := false, narrowed := true }
def UriBackUptoSaid : Prop := uriBackUptoRow.holds Try.pinned (OpenSpec.upto uriBackSpec)

/-- 'webfingerlaw06.UriClean', WHERE WHAT IT READS IS OF BULK AT MOST 1048576: true; the input reads as it did. -/
def uriCleanUptoRow : OpenClaim := { program := "ytkebjbphjnpjeaa", sum := "96253178fab3757dc806679a0ddfe23c9afeeed130ad7e19bd5ef7ee4d73ea94", func := "webfinger/webfingerlaw06.UriClean", spec := "uriClean", inPlace := ["internal/bytealg.IndexByteString", "internal/bytealg.IndexString", "internal/abi.NoEscape"], unfollowed := true, recurses := true, named := ["internal/bytealg.MaxLen"], apart := false, narrowed := true }
def UriCleanUptoSaid : Prop := uriCleanUptoRow.holds Try.pinned (OpenSpec.upto uriCleanSpec)

/-- 'webfingerlaw06.UriEmpty', WHERE WHAT IT READS IS OF BULK AT MOST 1048576: true; the input reads as it did. -/
def uriEmptyUptoRow : OpenClaim := { program := "ytkebjbphjnpjeaa", sum := "96253178fab3757dc806679a0ddfe23c9afeeed130ad7e19bd5ef7ee4d73ea94", func := "webfinger/webfingerlaw06.UriEmpty", spec := "uriEmpty", inPlace := ["internal/bytealg.IndexByteString", "internal/bytealg.IndexString", "internal/abi.NoEscape"], unfollowed := true, recurses := true, named := ["internal/bytealg.MaxLen"], apart := false, narrowed := true }
def UriEmptyUptoSaid : Prop := uriEmptyUptoRow.holds Try.pinned (OpenSpec.upto uriEmptySpec)

/-- 'webfingerlaw06.UriExamples', WHERE WHAT IT READS IS OF BULK AT MOST 1048576: true; the input reads as it did. -/
def uriExamplesUptoRow : OpenClaim := { program := "ytkebjbphjnpjeaa", sum := "96253178fab3757dc806679a0ddfe23c9afeeed130ad7e19bd5ef7ee4d73ea94", func := "webfinger/webfingerlaw06.UriExamples", spec := "uriExamples", inPlace := ["internal/bytealg.IndexByteString", "internal/bytealg.IndexString", "internal/abi.NoEscape"], unfollowed := true, recurses := true, named := ["internal/bytealg.MaxLen"], apart := false, narrowed := true }
def UriExamplesUptoSaid : Prop := uriExamplesUptoRow.holds Try.pinned (OpenSpec.upto uriExamplesSpec)

end Rows
end Go.Proofs.Ytkebjbphjnpjeaa
