/- Rows of bytes of the call's own: what a conversion lays, reads and stores; a string made of them. -/
import Derived.Test.YtnncgbamppaacaaDoorSmall
import Derived.Lib.ConvBytes
import Derived.Laws.IdiomStrings
set_option linter.all false
namespace Go.Proofs.YtnncgbamppaacaaDoor
open Go.RowKit Wf
def u8V (b : UInt8) : Value := .int .u8 b.toNat
/-- Block b is a row of bytes that begins with l; those cells are free to be written. -/
def RowU8 (w : World) (b : Nat) (l : Bytes) : Prop := ∃ (rest : List Value) (T : TypeId) (fz : Nat × Nat), w.heap[b]? = some (.cells (l.map u8V ++ rest).toArray T fz) ∧ (l.length ≤ fz.1 ∨ fz.2 ≤ fz.1)
theorem RowU8.cell {w : World} {b : Nat} {l : Bytes} (h : RowU8 w b l) {k : Nat} (hk : k < l.length) : w.cell? ⟨b, k, none⟩ = some (.int .u8 l[k].toNat) := by
  obtain ⟨rest, T, fz, hb, _⟩ := h
  rw [Lib.cell_of_heap hb k]
  simp [List.getElem?_append_left, hk, u8V]
theorem RowU8.frozen {w : World} {b : Nat} {l : Bytes} (h : RowU8 w b l) {k : Nat} (hk : k < l.length) : w.frozen? ⟨b, k, none⟩ = false := by
  obtain ⟨rest, T, fz, hb, hf⟩ := h
  simp only [World.frozen?, hb]
  simp
  omega
theorem RowU8.set {w : World} {b : Nat} {l : Bytes} (h : RowU8 w b l) {k : Nat} (hk : k < l.length) (x : UInt8) : RowU8 (w.setCell ⟨b, k, none⟩ (.int .u8 x.toNat)) b (l.set k x) := by
  obtain ⟨rest, T, fz, hb, hf⟩ := h
  refine ⟨rest, T, fz, ?_, by simpa using hf⟩
  rw [heap_set hb]
  congr 2
  simp [List.set_append_left, hk, List.map_set, u8V]
theorem RowU8.lt {w : World} {b : Nat} {l : Bytes} (h : RowU8 w b l) : b < w.heap.size := by
  obtain ⟨rest, T, fz, hb, _⟩ := h
  exact heap_lt hb
theorem RowU8.back {w : World} {b : Nat} {l : Bytes} (h : RowU8 w b l) (cap : Nat) :
    (convert 63 9 (.slice (some ⟨b, 0, none⟩) l.length cap)).run Tryd.prog w = .ok (Value.string ⟨List.toArray (l)⟩) w := by
  refine run_convert_bytes_back w _ _ 5 ⟨b, 0, none⟩ cap l Tryd.underlying63 Tryd.underlying5 Tryd.underlying9 (fun j hj => ?_)
  have : (⟨b, 0, none⟩ : Addr).add j = ⟨b, j, none⟩ := by
    unfold Addr.add
    split
    · subst j; rfl
    · simp
  rw [this]
  exact h.cell hj
theorem addr_add (b o j : Nat) : (⟨b, o, none⟩ : Addr).add j = ⟨b, o + j, none⟩ := by
  unfold Addr.add
  split
  · subst j; rfl
  · rfl
theorem RowU8.backAt {w : World} {b a : Nat} {y l : Bytes} (h : RowU8 w b (y ++ l)) (hy : y.length = a) (cap : Nat) :
    (convert 63 9 (.slice (some ⟨b, a, none⟩) l.length cap)).run Tryd.prog w = .ok (Value.string ⟨List.toArray (l)⟩) w := by
  refine run_convert_bytes_back w _ _ 5 ⟨b, a, none⟩ cap l Tryd.underlying63 Tryd.underlying5 Tryd.underlying9 (fun j hj => ?_)
  rw [addr_add]
  subst hy
  have h1 := h.cell (k := y.length + j) (by simp; omega)
  have h2 : (y ++ l)[y.length + j]'(by simp; omega) = l[j] := by rw [List.getElem_append_right (Nat.le_add_right _ _)]; simp
  rw [h2] at h1
  exact h1
/-- '[]byte(s)'. -/
theorem conv_bytes (w : World) (s : Bytes) : ∃ (w1 : World) (cap : Nat), (convert 9 63 (Value.string ⟨List.toArray (s)⟩)).run Tryd.prog w = .ok (.slice (some ⟨w.heap.size, 0, none⟩) s.length cap) w1 ∧ RowU8 w1 w.heap.size s ∧ Below w.heap.size w w1 := by
  refine ⟨_, _, Lib.run_convert_string_bytes w _ _ 5 ⟨List.toArray s⟩ Tryd.underlying9 Tryd.underlying63 Tryd.underlying5, ?_, ?_⟩
  · refine ⟨(Array.replicate (grownCap w s.length 0 5 - s.length) (Value.int .u8 0)).toList, 5, ((Lib.bytesCells w 5 ⟨List.toArray s⟩).size, (Lib.bytesCells w 5 ⟨List.toArray s⟩).size + 1), ?_, ?_⟩
    · rw [Lib.bytesWorld_at_new]
      congr 2
      apply Array.ext'
      simp [Lib.bytesCells]
      rfl
    · left
      simp [Lib.bytesCells]
  · exact ⟨by simp [Lib.bytesWorld, World.freeze]; rfl, rfl, rfl, by rw [Lib.bytesWorld_size]; omega, fun k hk => Lib.bytesWorld_at_old _ _ _ k hk⟩
end Go.Proofs.YtnncgbamppaacaaDoor
