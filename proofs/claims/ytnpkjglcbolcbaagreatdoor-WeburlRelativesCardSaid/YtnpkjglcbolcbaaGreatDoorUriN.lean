/- Sizes of the parts of a string. -/
import Derived.Test.YtnpkjglcbolcbaaGreatDoorUriW3
set_option linter.all false
namespace Go.Proofs.YtnpkjglcbolcbaaGreatDoor
open Go Vc Go.RowKit Wf
theorem split_path (s : Bytes) : (uriSplit s).1.path.length ≤ s.length := by
  have hc1 := cutC_len 35 s
  have hc2 := cutC_len 63 (cutC 35 s).1
  have hap : ∀ r : Bytes, (authPath r).2.2.length ≤ r.length := fun r => by
    unfold authPath; split
    · simp; omega
    · simp
  unfold uriSplit
  split
  · simp [Uri.none]
  · unfold splitRest
    split
    · split
      · have := hap ((cutC 63 (cutC 35 s).1).1.drop (pre colonSlash (cutC 63 (cutC 35 s).1).1 + 1))
        simp at this ⊢; omega
      · simp [Uri.none]
    · have := hap (cutC 63 (cutC 35 s).1).1
      simp; omega
theorem split_size (s : Bytes) : Uri.size (uriSplit s).1 ≤ 6 * s.length := by
  have hc1 := cutC_len 35 s
  have hc2 := cutC_len 63 (cutC 35 s).1
  have hap : ∀ r : Bytes, (authPath r).2.2.length ≤ r.length ∧ (authPath r).1.length ≤ r.length := fun r => by
    unfold authPath; split
    · simp; omega
    · simp
  unfold uriSplit
  split
  · simp [Uri.none, Uri.size]
  · unfold splitRest
    split
    · split
      · have := hap ((cutC 63 (cutC 35 s).1).1.drop (pre colonSlash (cutC 63 (cutC 35 s).1).1 + 1))
        simp [Uri.size] at this ⊢; omega
      · simp [Uri.none, Uri.size]
    · have := hap (cutC 63 (cutC 35 s).1).1
      simp [Uri.size]; omega
end Go.Proofs.YtnpkjglcbolcbaaGreatDoor
