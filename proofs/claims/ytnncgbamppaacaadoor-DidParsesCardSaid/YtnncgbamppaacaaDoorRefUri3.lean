/- The walks of reference 06: Split, Join. -/
import Derived.Test.YtnncgbamppaacaaDoorRefUri2
set_option linter.all false
set_option maxRecDepth 20000
namespace Go.Proofs.YtnncgbamppaacaaDoor
open Go Vc Go.RowKit Wf
set_option linter.unusedSimpArgs false
theorem pre_one (c : UInt8) (s : Bytes) : pre (([c] : Bytes).contains ·) s = pre (· == c) s := by
  congr 1
  funext x
  by_cases h : x = c
  · subst h; simp
  · simp [h]
theorem authPath_two {s : Bytes} (h : Lib.hasPrefix s [47, 47] = true) : authPath s = ((s.take (2 + pre (· == 47) (s.drop 2))).drop 2, true, s.drop (2 + pre (· == 47) (s.drop 2))) := by
  rw [authPath_yes h]
  have e : Lib.trimPrefix s [47, 47] = s.drop 2 := by unfold Lib.trimPrefix; rw [if_pos h]; rfl
  rw [e, List.drop_take, List.drop_drop]
  simp
end Go.Proofs.YtnncgbamppaacaaDoor
