/- The walk of the reference's Parse of mail addresses. -/
import Derived.Test.YtnncgbamppaacaaDoorMailV
set_option linter.all false
set_option maxRecDepth 20000
namespace Go.Proofs.YtnncgbamppaacaaDoor
open Go Vc Go.RowKit Wf
theorem pre_set (s : Bytes) : pre ([63, 35].contains ·) s < s.length ↔ ((63 : UInt8) ∈ s ∨ (35 : UInt8) ∈ s) := by
  have h := any_mem s 63 35
  rw [indexAny_pre] at h
  by_cases k : pre ([63, 35].contains ·) s < s.length
  · rw [if_pos k] at h
    have : decide ((63 : UInt8) ∈ s ∨ (35 : UInt8) ∈ s) = true := by rw [← h]; simp
    exact ⟨fun _ => of_decide_eq_true this, fun _ => k⟩
  · rw [if_neg k] at h
    have : decide ((63 : UInt8) ∈ s ∨ (35 : UInt8) ∈ s) = false := by rw [← h]; rfl
    exact ⟨fun h => absurd h k, fun h => absurd h (of_decide_eq_false this)⟩
end Go.Proofs.YtnncgbamppaacaaDoor
