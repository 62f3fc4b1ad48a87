/- Plain laws on cutting and splitting at one byte. -/
import Derived.Test.YtkebjbphjnpjeaaBase
import Derived.Lib.IndexMore
import Derived.Lib.Split
import Derived.Lib.SplitLaws
import Derived.Lib.CutLaws
set_option linter.all false
namespace Wf
open Go Go.RowKit
theorem index_one (c : UInt8) (s : Bytes) : Lib.index s [c] = Lib.indexByte s c := by
  induction s with
  | nil => rfl
  | cons b l ih =>
    rw [Lib.index, Lib.indexByte, ih]
    have : [c].isPrefixOf (b :: l) = (b == c) := by simp [List.isPrefixOf]; exact Bool.beq_comm
    rw [this]
def cutC (c : UInt8) (s : Bytes) : Bytes × Bytes × Bool :=
  if pre (· == c) s < s.length then (s.take (pre (· == c) s), s.drop (pre (· == c) s + 1), true) else (s, [], false)
theorem cutC_len (c : UInt8) (s : Bytes) : (cutC c s).1.length ≤ s.length ∧ (cutC c s).2.1.length ≤ s.length := by
  unfold cutC
  split
  · simp; omega
  · simp
theorem cut_one (c : UInt8) (s : Bytes) : Lib.cut s [c] = cutC c s := by
  unfold Lib.cut cutC
  rw [index_one, indexByte_pre]
  by_cases h : pre (· == c) s < s.length
  · simp [h]
  · simp [h]
def splitC (c : UInt8) : Bytes → List Bytes
  | [] => [[]]
  | x :: r => if x == c then [] :: splitC c r else match splitC c r with
    | h :: t => (x :: h) :: t
    | [] => [[x]]
theorem splitC_miss {c : UInt8} {s : Bytes} (h : ¬ pre (· == c) s < s.length) : splitC c s = [s] := by
  induction s with
  | nil => rfl
  | cons x r ih =>
    rw [pre_cons] at h
    rw [splitC]
    cases hx : x == c
    · rw [hx] at h
      simp at h
      rw [ih (by omega)]
      rfl
    · rw [hx] at h; simp at h
theorem splitC_hit {c : UInt8} {s : Bytes} (h : pre (· == c) s < s.length) : splitC c s = s.take (pre (· == c) s) :: splitC c (s.drop (pre (· == c) s + 1)) := by
  induction s with
  | nil => simp at h
  | cons x r ih =>
    rw [pre_cons] at h ⊢
    rw [splitC]
    cases hx : x == c
    · rw [hx] at h
      simp at h
      rw [ih h]
      simp
    · simp
theorem splitC_ne (c : UInt8) (s : Bytes) : splitC c s ≠ [] := by
  by_cases h : pre (· == c) s < s.length
  · rw [splitC_hit h]; simp
  · rw [splitC_miss h]; simp
theorem count_pre {c : UInt8} {s : Bytes} (h : pre (· == c) s < s.length) : s.count c = (s.drop (pre (· == c) s + 1)).count c + 1 := by
  induction s with
  | nil => simp at h
  | cons x r ih =>
    rw [pre_cons] at h ⊢
    cases hx : x == c
    · rw [hx] at h
      simp at h
      rw [List.count_cons, hx, ih h]
      simp
    · simp [List.count_cons, hx]
theorem count_zero {c : UInt8} {s : Bytes} (h : ¬ pre (· == c) s < s.length) : s.count c = 0 := by
  induction s with
  | nil => rfl
  | cons x r ih =>
    rw [pre_cons] at h
    cases hx : x == c
    · rw [hx] at h
      simp at h
      rw [List.count_cons, hx, ih (by omega)]; rfl
    · rw [hx] at h; simp at h
theorem splitK_one (c : UInt8) : ∀ (k : Nat) (s : Bytes), s.count c = k → Lib.splitK [c] 0 k s = splitC c s := by
  intro k
  induction k with
  | zero =>
    intro s h
    by_cases hp : pre (· == c) s < s.length
    · rw [count_pre hp] at h; omega
    · rw [splitC_miss hp]; rfl
  | succ k ih =>
    intro s h
    by_cases hp : pre (· == c) s < s.length
    · rw [splitC_hit hp, Lib.splitK, index_one, indexByte_pre, if_pos hp, if_neg (by simp)]
      rw [count_pre hp] at h
      have := ih (s.drop (pre (· == c) s + 1)) (by omega)
      simp [this]
    · rw [count_zero hp] at h; omega
theorem splitC_length (c : UInt8) (s : Bytes) : (splitC c s).length = s.count c + 1 := by
  suffices ∀ k, ∀ s : Bytes, s.count c = k → (splitC c s).length = k + 1 from this _ s rfl
  intro k
  induction k with
  | zero =>
    intro s h
    by_cases hp : pre (· == c) s < s.length
    · rw [count_pre hp] at h; omega
    · rw [splitC_miss hp]; rfl
  | succ k ih =>
    intro s h
    by_cases hp : pre (· == c) s < s.length
    · rw [splitC_hit hp]
      rw [count_pre hp] at h
      simp [ih _ (by omega : (s.drop (pre (· == c) s + 1)).count c = k)]
    · rw [count_zero hp] at h; omega
theorem splitC_len (c : UInt8) (s : Bytes) : ∀ x ∈ splitC c s, x.length ≤ s.length := by
  suffices ∀ k, ∀ s : Bytes, s.count c = k → ∀ x ∈ splitC c s, x.length ≤ s.length from this _ s rfl
  intro k
  induction k with
  | zero =>
    intro s h
    by_cases hp : pre (· == c) s < s.length
    · rw [count_pre hp] at h; omega
    · rw [splitC_miss hp]; simp
  | succ k ih =>
    intro s h
    by_cases hp : pre (· == c) s < s.length
    · rw [splitC_hit hp]
      rw [count_pre hp] at h
      intro x hx
      rcases List.mem_cons.1 hx with rfl | hx
      · simp; omega
      · have := ih _ (by omega : (s.drop (pre (· == c) s + 1)).count c = k) x hx
        simp at this; omega
    · rw [count_zero hp] at h; omega
def strV (l : Bytes) : Value := .string ⟨List.toArray l⟩
theorem splitB_one (c : UInt8) (s : Bytes) : (Lib.splitB ⟨#[c]⟩ 0 (Lib.countB ⟨List.toArray s⟩ ⟨#[c]⟩) ⟨List.toArray s⟩).map Value.string = (splitC c s).map strV := by
  have h := Lib.splitB_data ⟨#[c]⟩ 0 (Lib.countB ⟨List.toArray s⟩ ⟨#[c]⟩) ⟨List.toArray s⟩
  have hk : Lib.splitK [c] 0 (Lib.countB ⟨List.toArray s⟩ ⟨#[c]⟩) s = splitC c s := splitK_one c _ s (Lib.count_one c s).symm
  have h2 : (Lib.splitB ⟨#[c]⟩ 0 (Lib.countB ⟨List.toArray s⟩ ⟨#[c]⟩) ⟨List.toArray s⟩).map (·.data.toList) = splitC c s := h.trans hk
  rw [← h2, List.map_map]
  apply List.map_congr_left
  intro x _
  rfl
theorem countB_one (c : UInt8) (s : Bytes) : Lib.countB ⟨List.toArray s⟩ ⟨#[c]⟩ + 1 = (splitC c s).length := by
  rw [splitC_length]
  exact congrArg (· + 1) (Lib.count_one c s)
end Wf
