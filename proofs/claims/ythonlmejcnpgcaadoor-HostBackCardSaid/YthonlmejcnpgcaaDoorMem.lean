/- Builders of the call's own: the shelf's contracts on WriteString at this program's numbers, and lemmas on memory. -/
import Derived.Test.YthonlmejcnpgcaaDoorBase
import Derived.Test.YthonlmejcnpgcaaDoorShelf
namespace Go.Proofs
open Go.Shelf Go.RowKit
end Go.Proofs
namespace Go.Proofs.YthonlmejcnpgcaaDoor
open Go.RowKit Wf
/-- What a call may do: blocks of 'own' may be written, new blocks may come; nothing else turns. -/
structure Fr (own : Nat → Prop) (w w' : World) : Prop where
  os : w'.os = w.os
  tape : w'.tape = w.tape
  output : w'.output = w.output
  size : w.heap.size ≤ w'.heap.size
  block : ∀ k, k < w.heap.size → ¬ own k → w'.heap[k]? = w.heap[k]?

theorem Fr.below {own : Nat → Prop} {B : Nat} {w w' : World} (h : Fr own w w') (ho : ∀ k, own k → B ≤ k) (hB : B ≤ w.heap.size) : Below B w w' :=
  ⟨h.os, h.tape, h.output, h.size, fun k hk => h.block k (by omega) (fun e => by have := ho k e; omega)⟩
theorem Fr.of_below {own : Nat → Prop} {B : Nat} {w w' : World} (h : Below B w w') (ho : ∀ k, B ≤ k → k < w.heap.size → own k) : Fr own w w' :=
  ⟨h.os, h.tape, h.output, h.size, fun k hk hn => h.block k (by
    rcases Nat.lt_or_ge k B with h' | h'
    · exact h'
    · exact absurd (ho k h' hk) hn)⟩

theorem Fr.refl (own : Nat → Prop) (w : World) : Fr own w w := ⟨rfl, rfl, rfl, Nat.le_refl _, fun _ _ _ => rfl⟩
theorem Fr.trans {own : Nat → Prop} {a b c : World} (h : Fr own a b) (k : Fr own b c) : Fr own a c :=
  ⟨k.os.trans h.os, k.tape.trans h.tape, k.output.trans h.output, Nat.le_trans h.size k.size, fun i hi hn => (k.block i (by have := h.size; omega) hn).trans (h.block i hi hn)⟩
theorem Fr.drew {own : Nat → Prop} {a w : World} (h : Fr own a w) : Fr own a w.drew := ⟨h.os, h.tape, h.output, h.size, h.block⟩
theorem Fr.setCell {own : Nat → Prop} {a w : World} (h : Fr own a w) {b o : Nat} (hb : own b) (v : Value) : Fr own a (w.setCell ⟨b, o, none⟩ v) :=
  h.trans ⟨rfl, rfl, rfl, by simp [World.setCell], fun k _ hn => Below.heap_setCell _ _ _ _ (by rintro rfl; exact hn hb)⟩
theorem Fr.set1 {b o : Nat} (w : World) (v : Value) : Fr (· = b) w (w.setCell ⟨b, o, none⟩ v) := (Fr.refl _ w).setCell (own := (· = b)) rfl v
theorem Fr.belowAll {own : Nat → Prop} {a w w' : World} (h : Fr own a w) (hb : Below w.heap.size w w') : Fr own a w' :=
  h.trans (Fr.of_below hb (fun k h1 h2 => by omega))
theorem Fr.one_below {b : Nat} {w w' : World} (h : Fr (· = b) w w') (hb : b ≤ w.heap.size) : Below b w w' := h.below (fun k hk => by omega) hb
theorem heap_set {w : World} {b o : Nat} {cs : Array Value} {T : TypeId} {fz : Nat × Nat} (h : w.heap[b]? = some (.cells cs T fz)) (v : Value) : (w.setCell ⟨b, o, none⟩ v).heap[b]? = some (.cells (cs.setIfInBounds o v) T fz) := by
  simp [World.setCell, Array.getElem?_modify, h]
theorem heap_lt {w : World} {b : Nat} {x : Obj} (h : w.heap[b]? = some x) : b < w.heap.size := (Array.getElem?_eq_some_iff.1 h).1

end Go.Proofs.YthonlmejcnpgcaaDoor
