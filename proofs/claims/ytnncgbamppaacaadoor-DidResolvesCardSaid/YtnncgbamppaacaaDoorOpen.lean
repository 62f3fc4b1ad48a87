/- Structs by value among the arguments, opened. -/
import Derived.Test.YtnncgbamppaacaaDoorFrame
set_option linter.all false
set_option maxRecDepth 20000
namespace Go.Proofs.YtnncgbamppaacaaDoor
open Go Vc Go.RowKit Wf
open Go.ChangeShapes Go.WideShapes Go.ChangeAt
open Go.WideMaps Go.WideElems
section
variable {H : Type} {enc : TypeId × Value → H} {w : World} {base : Nat} {sp : Nat → Bool} {held : Bool}
theorem trod_24 {fuel : Nat} {cs : List Value} {x : DataW H × List MemPlace} (h : DataW.trod enc Tryd.prog w base sp held fuel 24 cs = some x) : ∃ (a0 : Bytes) (a1 : Bytes), cs = [Value.string ⟨⟨a0⟩⟩, Value.string ⟨⟨a1⟩⟩] ∧ x = (.agg [.lit (.string a0), .lit (.string a1)], []) ∧ a0.length ≤ maxLen ∧ a1.length ≤ maxLen := by
  obtain ⟨xs, n, _, rfl, hl, hlen, hf⟩ := DataW.trod_struct Tryd.underlying24 h
  have hC : Tryd.prog.cellsOf 24 = 2 := by kernel_rfl
  rw [hC] at hl
  obtain ⟨c0, c1, rfl⟩ : ∃ c0 c1, cs = [c0, c1] := by
    match cs, hl with
    | [c0, c1], _ => exact ⟨c0, c1, rfl⟩
  obtain ⟨y0, y1, rfl⟩ : ∃ y0 y1, xs = [y0, y1] := by
    match xs, hlen with
    | [y0, y1], _ => exact ⟨y0, y1, rfl⟩
  have e0 : DataW.trod enc Tryd.prog w base sp held n 9 [c0] = some y0 := hf 0 _ rfl
  obtain ⟨⟨⟨a0⟩⟩, q0, rfl, w0⟩ := DataW.trod_string Tryd.underlying9 e0
  obtain rfl := (List.cons.inj q0).1
  have e1 : DataW.trod enc Tryd.prog w base sp held n 9 [c1] = some y1 := hf 1 _ rfl
  obtain ⟨⟨⟨a1⟩⟩, q1, rfl, w1⟩ := DataW.trod_string Tryd.underlying9 e1
  obtain rfl := (List.cons.inj q1).1
  exact ⟨a0, a1, rfl, rfl, w0, w1⟩
theorem open_24 {r : Reach} {b0 : Nat} {v : Value} {d : DataW H} {p : List MemPlace} (hv : Value.okWide Tryd.prog w r b0 24 v) (h : DataW.Trod enc Tryd.prog w base sp held 24 v d p) : ∃ (a0 : Bytes) (a1 : Bytes), v = .agg #[Value.string ⟨⟨a0⟩⟩, Value.string ⟨⟨a1⟩⟩] ∧ d = .agg [.lit (.string a0), .lit (.string a1)] ∧ p = [] ∧ a0.length ≤ maxLen ∧ a1.length ≤ maxLen := by
  obtain ⟨cs, rfl, hsz⟩ := okWide_struct Tryd.underlying24 hv
  obtain ⟨fuel, hf⟩ := h
  obtain ⟨a0, a1, hcs, hx, hw⟩ := trod_24 hf
  obtain ⟨cs⟩ := cs
  simp only [Value.cells] at hcs
  subst hcs
  exact ⟨a0, a1, rfl, (Prod.mk.inj hx).1, (Prod.mk.inj hx).2, hw⟩
theorem trod_29 {fuel : Nat} {cs : List Value} {x : DataW H × List MemPlace} (h : DataW.trod enc Tryd.prog w base sp held fuel 29 cs = some x) : ∃ (a0 : Bytes) (a1 : Bytes) (a2 : Bytes) (a3 : Bytes) (a4 : Bytes) (a5 : Bool) (a6 : Bool), cs = [Value.string ⟨⟨a0⟩⟩, Value.string ⟨⟨a1⟩⟩, Value.string ⟨⟨a2⟩⟩, Value.string ⟨⟨a3⟩⟩, Value.string ⟨⟨a4⟩⟩, Value.bool a5, Value.bool a6] ∧ x = (.agg [.agg [.lit (.string a0), .lit (.string a1)], .lit (.string a2), .lit (.string a3), .lit (.string a4), .lit (.bool a5), .lit (.bool a6)], []) ∧ a0.length ≤ maxLen ∧ a1.length ≤ maxLen ∧ a2.length ≤ maxLen ∧ a3.length ≤ maxLen ∧ a4.length ≤ maxLen := by
  obtain ⟨xs, n, _, rfl, hl, hlen, hf⟩ := DataW.trod_struct Tryd.underlying29 h
  have hC : Tryd.prog.cellsOf 29 = 7 := by kernel_rfl
  rw [hC] at hl
  obtain ⟨c0, c1, c2, c3, c4, c5, c6, rfl⟩ : ∃ c0 c1 c2 c3 c4 c5 c6, cs = [c0, c1, c2, c3, c4, c5, c6] := by
    match cs, hl with
    | [c0, c1, c2, c3, c4, c5, c6], _ => exact ⟨c0, c1, c2, c3, c4, c5, c6, rfl⟩
  obtain ⟨y0, y1, y2, y3, y4, y5, rfl⟩ : ∃ y0 y1 y2 y3 y4 y5, xs = [y0, y1, y2, y3, y4, y5] := by
    match xs, hlen with
    | [y0, y1, y2, y3, y4, y5], _ => exact ⟨y0, y1, y2, y3, y4, y5, rfl⟩
  have e0 : DataW.trod enc Tryd.prog w base sp held n 24 [c0, c1] = some y0 := hf 0 _ rfl
  obtain ⟨a0, a1, q0, rfl, w0, w1⟩ := trod_24 e0
  simp only [List.cons.injEq, and_true] at q0
  obtain ⟨rfl, rfl⟩ := q0
  have e1 : DataW.trod enc Tryd.prog w base sp held n 9 [c2] = some y1 := hf 1 _ rfl
  obtain ⟨⟨⟨a2⟩⟩, q1, rfl, w2⟩ := DataW.trod_string Tryd.underlying9 e1
  obtain rfl := (List.cons.inj q1).1
  have e2 : DataW.trod enc Tryd.prog w base sp held n 9 [c3] = some y2 := hf 2 _ rfl
  obtain ⟨⟨⟨a3⟩⟩, q2, rfl, w3⟩ := DataW.trod_string Tryd.underlying9 e2
  obtain rfl := (List.cons.inj q2).1
  have e3 : DataW.trod enc Tryd.prog w base sp held n 9 [c4] = some y3 := hf 3 _ rfl
  obtain ⟨⟨⟨a4⟩⟩, q3, rfl, w4⟩ := DataW.trod_string Tryd.underlying9 e3
  obtain rfl := (List.cons.inj q3).1
  have e4 : DataW.trod enc Tryd.prog w base sp held n 4 [c5] = some y4 := hf 4 _ rfl
  obtain ⟨a5, q4, rfl⟩ := DataW.trod_bool Tryd.underlying4 e4
  obtain rfl := (List.cons.inj q4).1
  have e5 : DataW.trod enc Tryd.prog w base sp held n 4 [c6] = some y5 := hf 5 _ rfl
  obtain ⟨a6, q5, rfl⟩ := DataW.trod_bool Tryd.underlying4 e5
  obtain rfl := (List.cons.inj q5).1
  exact ⟨a0, a1, a2, a3, a4, a5, a6, rfl, rfl, w0, w1, w2, w3, w4⟩
theorem open_29 {r : Reach} {b0 : Nat} {v : Value} {d : DataW H} {p : List MemPlace} (hv : Value.okWide Tryd.prog w r b0 29 v) (h : DataW.Trod enc Tryd.prog w base sp held 29 v d p) : ∃ (a0 : Bytes) (a1 : Bytes) (a2 : Bytes) (a3 : Bytes) (a4 : Bytes) (a5 : Bool) (a6 : Bool), v = .agg #[Value.string ⟨⟨a0⟩⟩, Value.string ⟨⟨a1⟩⟩, Value.string ⟨⟨a2⟩⟩, Value.string ⟨⟨a3⟩⟩, Value.string ⟨⟨a4⟩⟩, Value.bool a5, Value.bool a6] ∧ d = .agg [.agg [.lit (.string a0), .lit (.string a1)], .lit (.string a2), .lit (.string a3), .lit (.string a4), .lit (.bool a5), .lit (.bool a6)] ∧ p = [] ∧ a0.length ≤ maxLen ∧ a1.length ≤ maxLen ∧ a2.length ≤ maxLen ∧ a3.length ≤ maxLen ∧ a4.length ≤ maxLen := by
  obtain ⟨cs, rfl, hsz⟩ := okWide_struct Tryd.underlying29 hv
  obtain ⟨fuel, hf⟩ := h
  obtain ⟨a0, a1, a2, a3, a4, a5, a6, hcs, hx, hw⟩ := trod_29 hf
  obtain ⟨cs⟩ := cs
  simp only [Value.cells] at hcs
  subst hcs
  exact ⟨a0, a1, a2, a3, a4, a5, a6, rfl, (Prod.mk.inj hx).1, (Prod.mk.inj hx).2, hw⟩
theorem trod_46 {fuel : Nat} {cs : List Value} {x : DataW H × List MemPlace} (h : DataW.trod enc Tryd.prog w base sp held fuel 46 cs = some x) : ∃ (a0 : Bytes) (a1 : Bytes), cs = [Value.string ⟨⟨a0⟩⟩, Value.string ⟨⟨a1⟩⟩] ∧ x = (.agg [.lit (.string a0), .lit (.string a1)], []) ∧ a0.length ≤ maxLen ∧ a1.length ≤ maxLen := by
  obtain ⟨xs, n, _, rfl, hl, hlen, hf⟩ := DataW.trod_struct Tryd.underlying46 h
  have hC : Tryd.prog.cellsOf 46 = 2 := by kernel_rfl
  rw [hC] at hl
  obtain ⟨c0, c1, rfl⟩ : ∃ c0 c1, cs = [c0, c1] := by
    match cs, hl with
    | [c0, c1], _ => exact ⟨c0, c1, rfl⟩
  obtain ⟨y0, y1, rfl⟩ : ∃ y0 y1, xs = [y0, y1] := by
    match xs, hlen with
    | [y0, y1], _ => exact ⟨y0, y1, rfl⟩
  have e0 : DataW.trod enc Tryd.prog w base sp held n 9 [c0] = some y0 := hf 0 _ rfl
  obtain ⟨⟨⟨a0⟩⟩, q0, rfl, w0⟩ := DataW.trod_string Tryd.underlying9 e0
  obtain rfl := (List.cons.inj q0).1
  have e1 : DataW.trod enc Tryd.prog w base sp held n 9 [c1] = some y1 := hf 1 _ rfl
  obtain ⟨⟨⟨a1⟩⟩, q1, rfl, w1⟩ := DataW.trod_string Tryd.underlying9 e1
  obtain rfl := (List.cons.inj q1).1
  exact ⟨a0, a1, rfl, rfl, w0, w1⟩
theorem open_46 {r : Reach} {b0 : Nat} {v : Value} {d : DataW H} {p : List MemPlace} (hv : Value.okWide Tryd.prog w r b0 46 v) (h : DataW.Trod enc Tryd.prog w base sp held 46 v d p) : ∃ (a0 : Bytes) (a1 : Bytes), v = .agg #[Value.string ⟨⟨a0⟩⟩, Value.string ⟨⟨a1⟩⟩] ∧ d = .agg [.lit (.string a0), .lit (.string a1)] ∧ p = [] ∧ a0.length ≤ maxLen ∧ a1.length ≤ maxLen := by
  obtain ⟨cs, rfl, hsz⟩ := okWide_struct Tryd.underlying46 hv
  obtain ⟨fuel, hf⟩ := h
  obtain ⟨a0, a1, hcs, hx, hw⟩ := trod_46 hf
  obtain ⟨cs⟩ := cs
  simp only [Value.cells] at hcs
  subst hcs
  exact ⟨a0, a1, rfl, (Prod.mk.inj hx).1, (Prod.mk.inj hx).2, hw⟩
end
end Go.Proofs.YtnncgbamppaacaaDoor
