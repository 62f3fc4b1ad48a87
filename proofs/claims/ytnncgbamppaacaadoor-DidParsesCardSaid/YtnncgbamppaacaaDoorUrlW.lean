/- The walks of package weburl and its reference: Target, Origin, Format. -/
import Derived.Test.YtnncgbamppaacaaDoorPlain
import Derived.Test.YtnncgbamppaacaaDoorHostPC
import Derived.Test.YtnncgbamppaacaaDoorPct
set_option linter.all false
set_option maxRecDepth 20000
namespace Go.Proofs.YtnncgbamppaacaaDoor
open Go Vc Go.RowKit Wf
set_option linter.unusedSimpArgs false
def wsv (u : Url) : SV := .agg [.str u.host, .int .i64 u.port, .str u.path, .str u.query, .str u.fragment, .bool u.hasQuery, .bool u.hasFrag]
/-- The sizes at which texts are reckoned. -/
def Fair (u : Url) : Prop := u.host.length + u.path.length + u.query.length + u.fragment.length ≤ 1000000 ∧ -9223372036854775808 ≤ u.port ∧ u.port ≤ 9223372036854775807
theorem hostText_len2 (x : Bytes) {p : Int} (h0 : -9223372036854775808 ≤ p) (h1 : p ≤ 9223372036854775807) : (hostText x p).length ≤ x.length + 22 := by
  have := decS_length 19 p.natAbs (by omega)
  unfold hostText
  split
  · omega
  · split <;> simp <;> omega
theorem urlTarget_len (u : Url) : (urlTarget u).length ≤ u.path.length + u.query.length + 1 := by
  unfold urlTarget
  split
  · simp; omega
  · omega
theorem pre_mem (l : Bytes) (c : UInt8) : pre (· == c) l < l.length ↔ c ∈ l := by
  induction l with
  | nil => simp [pre]
  | cons x l ih =>
    rw [pre_cons]
    by_cases h : x = c
    · simp [h]
    · rw [if_neg (by simpa using h)]
      simp only [List.length_cons, Nat.add_lt_add_iff_right, ih, List.mem_cons]
      exact ⟨.inr, fun k => k.resolve_left fun e => h e.symm⟩
theorem contains_one (l : Bytes) (c : UInt8) : decide (0 ≤ Lib.indexByte l c) = decide (c ∈ l) := by
  rw [indexByte_pre]
  by_cases h : c ∈ l
  · rw [if_pos ((pre_mem l c).2 h)]; simp [h]
  · rw [if_neg (fun k => h ((pre_mem l c).1 k))]; simp [h]
theorem p_Contains (l : Bytes) (c : UInt8) : PC Tryd.V 57 [.str l, .str [c]] (.bool (decide (c ∈ l))) :=
  ⟨Tryd.call57, by simp [flat, flat.flatL], by simp [flat, flat.flatL], fun w hE => (Tryd.strings_Contains_one ⟨List.toArray l⟩ c w).mono fun _ _ ⟨h, k⟩ => ⟨by
    rw [h]
    have e : decide (0 ≤ Lib.indexByte l c) = decide (c ∈ l) := contains_one l c
    rw [← e]; rfl, below_same k.symm⟩⟩
end Go.Proofs.YtnncgbamppaacaaDoor
