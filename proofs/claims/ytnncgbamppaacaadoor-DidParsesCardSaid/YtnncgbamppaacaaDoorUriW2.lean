/- The walks of package uri: merge, Resolve. -/
import Derived.Test.YtnncgbamppaacaaDoorUriW
set_option linter.all false
set_option maxRecDepth 20000
namespace Go.Proofs.YtnncgbamppaacaaDoor
open Go Vc Go.RowKit Wf
set_option linter.unusedSimpArgs false
theorem hp_head (s : Bytes) (c : UInt8) : Lib.hasPrefix s [c] = decide (s.head? = some c) := by
  unfold Lib.hasPrefix
  cases s with
  | nil => simp
  | cons x l =>
    simp only [List.isPrefixOf, Bool.and_true, List.head?_cons, Option.some.injEq]
    by_cases h : x = c
    · subst h; simp
    · rw [decide_eq_false h]
      simp
      exact fun e => h e.symm
theorem dotStep_len (p o : Bytes) (hp : p ≠ []) : (dotStep p o).1.length + (dotStep p o).2.length ≤ p.length + o.length := by
  have hpl : 0 < p.length := List.length_pos_iff.2 hp
  have hs : (shorten o).length ≤ o.length := by rw [shorten_take, List.length_take]; exact Nat.min_le_right _ _
  have hq := pre_le (· == 47) (p.drop 1)
  unfold dotStep
  split
  · simp
  split
  · simp
  split
  · simp
  split
  · rename_i h; subst h; simp
  split
  · simp; omega
  split
  · rename_i h; subst h; simp; omega
  split
  · simp
  · simp at hq ⊢
    omega
theorem dotsGo_len : ∀ (f : Nat) (p o : Bytes), (dotsGo f p o).length ≤ p.length + o.length
  | 0, p, o => by simp [dotsGo]
  | f + 1, p, o => by
    rw [dotsGo]
    split
    · simp
    · rename_i hp
      exact Nat.le_trans (dotsGo_len f _ _) (dotStep_len p o hp)
theorem removeDots_len (s : Bytes) : (removeDots s).length ≤ s.length := by
  have := dotsGo_len s.length s []
  simpa [removeDots] using this
theorem uriMerge_len (b r : Uri) : (uriMerge b r).length ≤ 1 + b.path.length + r.path.length := by
  unfold uriMerge
  split
  · omega
  split
  · simp; omega
  · simp; omega
end Go.Proofs.YtnncgbamppaacaaDoor
