/- Facts about the whole program that every row asks for. -/
import Derived.Test.YtjponbpdlioocaaFrame
set_option linter.all false
namespace Go.Proofs.Ytjponbpdlioocaa
open Go Go.RowKit
set_option maxRecDepth 100000
theorem pf_maps : mapsRowed Try.pinned.checked.prog = true := by kernel_rfl
theorem pf_stops : (Try.pinned.checked.prog.stops == []) = true := by kernel_rfl
theorem pf_knobs : (Try.pinned.checked.prog.stopKnobs == []) = true := by kernel_rfl
theorem pf_keys : (Rows.bodyPiecesRow.plainKeys == Try.pinned.checked.prog.plainKeys) = true := by kernel_rfl
theorem pf_heard : Try.pinned.checked.prog.stopsHeard = true := by kernel_rfl
theorem pf_may : Try.pinned.checked.prog.mayEnter = true := by kernel_rfl
theorem pf_lifts : (Rows.bodyPiecesRow.lifted == Try.pinned.checked.prog.liftsFinal) = true := by kernel_rfl
theorem pf_make : (Try.pinned.checked.prog.make == some Rows.bodyPiecesRow.make) = true := by kernel_rfl
theorem and4 {a b c d : Bool} (h : (a && b && c && d) = true) : (a = true ∧ b = true) ∧ c = true ∧ d = true := by
  simp only [Bool.and_eq_true] at h
  exact ⟨⟨h.1.1.1, h.1.1.2⟩, h.1.2, h.2⟩
end Go.Proofs.Ytjponbpdlioocaa
