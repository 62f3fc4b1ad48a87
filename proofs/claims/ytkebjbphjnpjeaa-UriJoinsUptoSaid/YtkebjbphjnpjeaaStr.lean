/- The library's contracts on strings, over byte lists. -/
import Derived.Test.YtkebjbphjnpjeaaMem
import Derived.Test.YtkebjbphjnpjeaaSplitP
set_option linter.all false
namespace Go.Proofs.Ytkebjbphjnpjeaa
open Go.RowKit Wf
/-- The library's variable MaxLen holds some number. -/
def Env (w : World) : Prop := ∃ m, w.cell? ⟨0, 0, none⟩ = some (.int .i64 m)
theorem Env.lt {w : World} (h : Env w) : 0 < w.heap.size := by
  obtain ⟨m, hm⟩ := h
  unfold World.cell? at hm
  rcases Nat.lt_or_ge 0 w.heap.size with h' | h'
  · exact h'
  · simp [Array.getElem?_eq_none h'] at hm
theorem Env.below {w w' : World} (h : Env w) (hb : Below w.heap.size w w') : Env w' := by
  have := h.lt
  obtain ⟨m, hm⟩ := h
  exact ⟨m, (hb.cell (p := ⟨0, 0, none⟩) this).trans hm⟩
theorem Env.drewN {w : World} (h : Env w) (n : Nat) : Env (w.drewN n) := h
theorem s_IndexByte (l : Bytes) (c : UInt8) (w : World) :
    Calls Try.prog 25 #[(Value.string ⟨List.toArray (l)⟩), .int .u8 c.toNat] w fun e w' => e = .returned (.int .i64 (Lib.indexByte l c)) ∧ w = w' := by
  refine (Try.strings_IndexByte ⟨List.toArray l⟩ c.toNat w).mono ?_
  rintro e w' ⟨rfl, rfl⟩
  exact ⟨by rw [show ((c.toNat : Int)).toNat.toUInt8 = c from by simp], rfl⟩
theorem s_HasPrefix (l p : Bytes) (w : World) :
    Calls Try.prog 32 #[(Value.string ⟨List.toArray (l)⟩), (Value.string ⟨List.toArray (p)⟩)] w fun e w' => e = .returned (.bool (Lib.hasPrefix l p)) ∧ w = w' := by
  refine (Try.strings_HasPrefix ⟨List.toArray l⟩ ⟨List.toArray p⟩ w).mono ?_
  rintro e w' ⟨rfl, rfl⟩
  exact ⟨rfl, rfl⟩
theorem s_CutPrefix (l p : Bytes) (w : World) :
    Calls Try.prog 24 #[(Value.string ⟨List.toArray (l)⟩), (Value.string ⟨List.toArray (p)⟩)] w fun e w' => e = .returned (.tuple #[(Value.string ⟨List.toArray (Lib.trimPrefix l p)⟩), .bool (Lib.hasPrefix l p)]) ∧ w = w' := by
  refine (Try.strings_CutPrefix ⟨List.toArray l⟩ ⟨List.toArray p⟩ w).mono ?_
  rintro e w' ⟨rfl, rfl⟩
  exact ⟨rfl, rfl⟩
theorem s_TrimPrefix (l p : Bytes) (w : World) :
    Calls Try.prog 33 #[(Value.string ⟨List.toArray (l)⟩), (Value.string ⟨List.toArray (p)⟩)] w fun e w' => e = .returned (Value.string ⟨List.toArray (Lib.trimPrefix l p)⟩) ∧ w = w' := by
  refine (Try.strings_TrimPrefix ⟨List.toArray l⟩ ⟨List.toArray p⟩ w).mono ?_
  rintro e w' ⟨rfl, rfl⟩
  exact ⟨rfl, rfl⟩
theorem s_Cut (l : Bytes) (c : UInt8) (w : World) (hE : Env w) (hl : l.length < 4294967281) :
    Calls Try.prog 21 #[(Value.string ⟨List.toArray (l)⟩), (Value.string ⟨List.toArray ([c])⟩)] w fun e w' => e = .returned (.tuple #[(Value.string ⟨List.toArray ((cutC c l).1)⟩), (Value.string ⟨List.toArray ((cutC c l).2.1)⟩), .bool (cutC c l).2.2]) ∧ ∃ n, w' = w.drewN n := by
  obtain ⟨m, hm⟩ := hE
  refine (Try.strings_Cut ⟨List.toArray l⟩ ⟨#[c]⟩ m w hl hm).mono ?_
  rintro e w' ⟨rfl, hw⟩
  have := cut_one c l
  exact ⟨by rw [← this], hw⟩
/-- A row of strings in a block. -/
def RowStr (w : World) (b : Nat) (l : List Bytes) : Prop := ∀ i (h : i < l.length), w.cell? ⟨b, i, none⟩ = some (Value.string ⟨List.toArray (l[i])⟩)
theorem RowStr.alloc (w : World) (l : List Bytes) (rest : List Value) (T : TypeId) : RowStr (w.alloc (.cells (l.map strV ++ rest).toArray T)) w.heap.size l := by
  intro i h
  rw [Lib.cell_of_heap (heap_new _ _) i]
  simp [List.getElem?_append_left, h, strV]
end Go.Proofs.Ytkebjbphjnpjeaa
