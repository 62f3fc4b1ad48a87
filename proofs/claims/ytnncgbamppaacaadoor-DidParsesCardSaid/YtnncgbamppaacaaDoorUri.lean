/- The walks of package uri: schemes. -/
import Derived.Test.YtnncgbamppaacaaDoorPlain
import Derived.Test.YtnncgbamppaacaaDoorSmall
import Derived.Test.YtnncgbamppaacaaDoorAscii
import Derived.Test.YtnncgbamppaacaaDoorIdxAny
set_option linter.all false
namespace Go.Proofs.YtnncgbamppaacaaDoor
open Go.RowKit Wf
attribute [local go_sem] ex_list app_list get_list
theorem scheme_one {s : Bytes} (h : 0 < s.length) (ha : isAlpha s[0] = true) : schemeOk (s.take 1) = true := by
  cases s with
  | nil => simp at h
  | cons c r => simp at ha; simp [schemeOk, ha]
theorem scheme_one_no {s : Bytes} (h : 0 < s.length) (ha : isAlpha s[0] = false) : schemeOk s = false := by
  cases s with
  | nil => simp at h
  | cons c r => simp at ha; simp [schemeOk, ha]
theorem scheme_snoc {s : Bytes} {k : Nat} (h0 : 0 < k) (h : k < s.length) (ht : schemeOk (s.take k) = true) (hc : schemeC s[k] = true) : schemeOk (s.take (k + 1)) = true := by
  cases s with
  | nil => simp at h
  | cons c r =>
    obtain ⟨j, rfl⟩ : ∃ j, k = j + 1 := ⟨k - 1, by omega⟩
    rw [List.take_succ_cons] at ht ⊢
    unfold schemeOk at ht ⊢
    simp only [Bool.and_eq_true] at ht ⊢
    exact ⟨ht.1, all_take_snoc (by simpa using h) ht.2 (by simpa using hc)⟩
theorem scheme_no {s : Bytes} {k : Nat} (h0 : 0 < k) (h : k < s.length) (hc : schemeC s[k] = false) : schemeOk s = false := by
  cases s with
  | nil => simp at h
  | cons c r =>
    obtain ⟨j, rfl⟩ : ∃ j, k = j + 1 := ⟨k - 1, by omega⟩
    have := all_not (p := schemeC) (s := r) (k := j) (by simpa using h) (by simpa using hc)
    show (isAlpha c && r.all schemeC) = false
    rw [this]; simp
theorem plus_idx (c : UInt8) : ([43, 45, 46].contains c = true → 0 ≤ Lib.indexByte [43, 45, 46] c) ∧ ([43, 45, 46].contains c = false → Lib.indexByte [43, 45, 46] c = -1) := by
  have h := all256 (p := fun c => decide (([43, 45, 46].contains c = true → 0 ≤ Lib.indexByte [43, 45, 46] c) ∧ ([43, 45, 46].contains c = false → Lib.indexByte [43, 45, 46] c = -1))) (by decide +kernel) c
  exact of_decide_eq_true h
end Go.Proofs.YtnncgbamppaacaaDoor
