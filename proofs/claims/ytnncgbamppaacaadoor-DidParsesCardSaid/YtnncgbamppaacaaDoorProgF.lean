/- Facts about the whole program that every row asks for. -/
import Derived.Test.YtnncgbamppaacaaDoorFrame
set_option linter.all false
namespace Go.Proofs.YtnncgbamppaacaaDoor
open Go Go.RowKit
set_option maxRecDepth 100000
theorem pf_maps : mapsRowed Tryd.pinned.checked.prog = true := by kernel_rfl
theorem pf_stops : (Tryd.pinned.checked.prog.stops == []) = true := by kernel_rfl
theorem pf_knobs : (Tryd.pinned.checked.prog.stopKnobs == []) = true := by kernel_rfl
theorem pf_keys : (Rows.didParsesRow.plainKeys == Tryd.pinned.checked.prog.plainKeys) = true := by kernel_rfl
theorem pf_heard : Tryd.pinned.checked.prog.stopsHeard = true := by kernel_rfl
theorem pf_may : Tryd.pinned.checked.prog.mayEnter = true := by kernel_rfl
theorem pf_lifts : (Rows.didParsesRow.lifted == Tryd.pinned.checked.prog.liftsFinal) = true := by kernel_rfl
theorem pf_make : (Tryd.pinned.checked.prog.make == some Rows.didParsesRow.make) = true := by kernel_rfl
theorem and4 {a b c d : Bool} (h : (a && b && c && d) = true) : (a = true ∧ b = true) ∧ c = true ∧ d = true := by
  simp only [Bool.and_eq_true] at h
  exact ⟨⟨h.1.1.1, h.1.1.2⟩, h.1.2, h.2⟩
end Go.Proofs.YtnncgbamppaacaaDoor
