/- Contracts of the library on builders and strings. -/
import Derived.Test.YtjponbpdlioocaaBase
import Derived.Test.YtjponbpdlioocaaShelf
import Derived.Test.YtjponbpdlioocaaPlain
set_option linter.all false
namespace Go.Proofs
open Go.Shelf Go.RowKit
def Try.layB_ren : Go.Shelf.Ren := ⟨fun | 240 => 19 | 166 => 11 | 276 => 25 | n => n, fun | 0 => 0 | 3 => 3 | 4 => 4 | 5 => 5 | 9 => 9 | 20 => 20 | 37 => 31 | 70 => 32 | 72 => 34 | 75 => 42 | 80 => 46 | 164 => 55 | n => n, fun | n => n⟩
theorem Try.lay166 : Go.Proofs.Lays.n166 Try.prog Try.layB_ren := {
  mixed := by kernel_rfl
  f166 := Try.func11.trans (congrArg some (by kernel_rfl))
  f240 := Try.func19.trans (congrArg some (by kernel_rfl))
  f276 := Try.func25.trans (congrArg some (by kernel_rfl))
  t0 := Try.underlying0
  a0 := Try.isAgg0
  z0 := Try.sizeOf0
  v0 := Try.zeroValue0
  t3 := Try.underlying3
  a3 := Try.isAgg3
  z3 := Try.sizeOf3
  v3 := Try.zeroValue3
  t4 := Try.underlying4
  a4 := Try.isAgg4
  z4 := Try.sizeOf4
  v4 := Try.zeroValue4
  t9 := Try.underlying9
  a9 := Try.isAgg9
  z9 := Try.sizeOf9
  v9 := Try.zeroValue9
  t20 := Try.underlying20
  a20 := Try.isAgg20
  z20 := Try.sizeOf20
  v20 := Try.zeroValue20
  t37 := Try.underlying31
  a37 := Try.isAgg31
  z37 := Try.sizeOf31
  v37 := Try.zeroValue31
  t70 := Try.underlying32
  a70 := Try.isAgg32
  z70 := Try.sizeOf32
  v70 := Try.zeroValue32
  t72 := Try.underlying34
  a72 := Try.isAgg34
  z72 := Try.sizeOf34
  v72 := Try.zeroValue34
  t75 := Try.underlying42
  a75 := Try.isAgg42
  z75 := Try.sizeOf42
  v75 := Try.zeroValue42
  t164 := Try.underlying55
  a164 := Try.isAgg55
  z164 := Try.sizeOf55
  v164 := Try.zeroValue55 }
theorem Try.extra166 : Builder.Extra Try.prog Try.layB_ren := {
  sizeBuilder := by kernel_rfl
  liesBuilder := by kernel_rfl
  t5 := Try.underlying5
  a5 := Try.isAgg5
  z5 := Try.sizeOf5
  v5 := Try.zeroValue5
  infoByte := by kernel_rfl
  cellsByte := by kernel_rfl
  sizeByte := by kernel_rfl
  neB5 := by decide }
end Go.Proofs
namespace Go.Proofs.Ytjponbpdlioocaa
open Go.RowKit Wf
/-- What a call may do: blocks of 'own' may be written, new blocks may come; nothing else turns. -/
structure Fr (own : Nat → Prop) (w w' : World) : Prop where
  os : w'.os = w.os
  tape : w'.tape = w.tape
  output : w'.output = w.output
  size : w.heap.size ≤ w'.heap.size
  block : ∀ k, k < w.heap.size → ¬ own k → w'.heap[k]? = w.heap[k]?

theorem Fr.below {own : Nat → Prop} {B : Nat} {w w' : World} (h : Fr own w w') (ho : ∀ k, own k → B ≤ k) (hB : B ≤ w.heap.size) : Below B w w' :=
  ⟨h.os, h.tape, h.output, h.size, fun k hk => h.block k (by omega) (fun e => by have := ho k e; omega)⟩
theorem Fr.of_below {own : Nat → Prop} {B : Nat} {w w' : World} (h : Below B w w') (ho : ∀ k, B ≤ k → k < w.heap.size → own k) : Fr own w w' :=
  ⟨h.os, h.tape, h.output, h.size, fun k hk hn => h.block k (by
    rcases Nat.lt_or_ge k B with h' | h'
    · exact h'
    · exact absurd (ho k h' hk) hn)⟩

theorem Fr.refl (own : Nat → Prop) (w : World) : Fr own w w := ⟨rfl, rfl, rfl, Nat.le_refl _, fun _ _ _ => rfl⟩
theorem Fr.trans {own : Nat → Prop} {a b c : World} (h : Fr own a b) (k : Fr own b c) : Fr own a c :=
  ⟨k.os.trans h.os, k.tape.trans h.tape, k.output.trans h.output, Nat.le_trans h.size k.size, fun i hi hn => (k.block i (by have := h.size; omega) hn).trans (h.block i hi hn)⟩
theorem Fr.drew {own : Nat → Prop} {a w : World} (h : Fr own a w) : Fr own a w.drew := ⟨h.os, h.tape, h.output, h.size, h.block⟩
theorem Fr.setCell {own : Nat → Prop} {a w : World} (h : Fr own a w) {b o : Nat} (hb : own b) (v : Value) : Fr own a (w.setCell ⟨b, o, none⟩ v) :=
  h.trans ⟨rfl, rfl, rfl, by simp [World.setCell], fun k _ hn => Below.heap_setCell _ _ _ _ (by rintro rfl; exact hn hb)⟩
theorem Fr.set1 {b o : Nat} (w : World) (v : Value) : Fr (· = b) w (w.setCell ⟨b, o, none⟩ v) := (Fr.refl _ w).setCell (own := (· = b)) rfl v
theorem Fr.belowAll {own : Nat → Prop} {a w w' : World} (h : Fr own a w) (hb : Below w.heap.size w w') : Fr own a w' :=
  h.trans (Fr.of_below hb (fun k h1 h2 => by omega))
theorem Fr.one_below {b : Nat} {w w' : World} (h : Fr (· = b) w w') (hb : b ≤ w.heap.size) : Below b w w' := h.below (fun k hk => by omega) hb
theorem heap_set {w : World} {b o : Nat} {cs : Array Value} {T : TypeId} {fz : Nat × Nat} (h : w.heap[b]? = some (.cells cs T fz)) (v : Value) : (w.setCell ⟨b, o, none⟩ v).heap[b]? = some (.cells (cs.setIfInBounds o v) T fz) := by
  simp [World.setCell, Array.getElem?_modify, h]
theorem heap_lt {w : World} {b : Nat} {x : Obj} (h : w.heap[b]? = some x) : b < w.heap.size := (Array.getElem?_eq_some_iff.1 h).1

theorem Fr.kept {b : Nat} {w w' : World} (h2 : Lib.OthersKept 5 (some b) w w') {k : Nat} {cs : Array Value} {T : TypeId} {fz : Nat × Nat} (hk : w.heap[k]? = some (.cells cs T fz)) (hne : k ≠ b) (hT : T ≠ 5) : w'.heap[k]? = some (.cells cs T fz) :=
  h2 k _ hk (by simpa using hne) (by rintro c f hcf; injection hcf with _ hT' _; exact hT hT')
/-- A strings.Builder in block b, one of the call's own, that holds the bytes l. -/
def Bld (b : Nat) (l : Bytes) (w : World) : Prop := Lib.IsBuilderF 34 5 b b (Lib.byteCells l) w

theorem Bld.lt {b : Nat} {l : Bytes} {w : World} (h : Bld b l w) : b < w.heap.size := by
  have : ∀ p, Lib.BuilderAtF 34 5 b b p (Lib.byteCells l) w → b < w.heap.size := by
    rintro p ⟨_, v, hb, _⟩
    rcases Nat.lt_or_ge b w.heap.size with h' | h'
    · exact h'
    · simp [Array.getElem?_eq_none h'] at hb
  rcases h with h | h <;> exact this _ h

theorem Bld.alloc {b : Nat} {l : Bytes} {w : World} (h : Bld b l w) (o : Obj) : Bld b l (w.alloc o) := Lib.IsBuilderF.alloc h o
theorem Bld.fr {b cb : Nat} {l : Bytes} {w w' : World} {cs : Array Value} {T : TypeId} {fz : Nat × Nat} (h : Bld b l w) (hf : Fr (· = cb) w w') (hc : w.heap[cb]? = some (.cells cs T fz)) (hT : T ≠ 5) (hne : b ≠ cb) : Bld b l w' := by
  have key : ∀ p, Lib.BuilderAtF 34 5 b b p (Lib.byteCells l) w → Lib.BuilderAtF 34 5 b b p (Lib.byteCells l) w' := by
    rintro p ⟨hB, v, hb, hown, hv⟩
    refine ⟨hB, v, ?_, ?_, hv⟩
    · rw [hf.block b (heap_lt hb) hne]; exact hb
    · exact hown.kept (row := some cb) ⟨hf.os, hf.tape, hf.output, hf.size, fun k hk hn => hf.block k hk (fun e => hn (by rw [e]))⟩ (Or.inr (Lib.ownBlock_neF hown hc hT))
  rcases h with h | h
  · exact Or.inl (key _ h)
  · exact Or.inr (key _ h)
theorem Bld.fresh (w : World) : Bld w.heap.size [] (w.alloc (.cells #[.pointer none, .slice none 0 0] 34)) :=
  Lib.IsBuilderF.of (Lib.fresh_isBuilder _ _ w)

theorem builder_WriteString (b : Nat) (l s : Bytes) (w : World) (h : Bld b l w) (hlen : l.length + s.length ≤ 140737488355328) :
    Calls Try.prog 11 #[.pointer (some ⟨b, 0, none⟩), (Value.string ⟨List.toArray (s)⟩)] w fun e w' => e = .returned (.tuple #[.int .i64 s.length, .nilIface]) ∧ Bld b (l ++ s) w' ∧ Below b w w' ∧ Lib.OthersKept 5 (some b) w w' := by
  refine (Any.Builder_WriteString_k Try.lay166 Try.extra166 b b (Lib.byteCells l) ⟨List.toArray s⟩ w h (by rw [Lib.byteCells_length]; exact hlen) (Nat.le_of_lt (Bld.lt h))).mono ?_
  rintro e w' ⟨rfl, h1, h2, h3⟩
  refine ⟨rfl, ?_, h2, h3⟩
  right
  rw [Lib.byteCells_append]
  exact h1

theorem builder_String (b : Nat) (l : Bytes) (w : World) (h : Bld b l w) :
    Calls Try.prog 14 #[.pointer (some ⟨b, 0, none⟩)] w fun e w' => e = .returned (Value.string ⟨List.toArray (l)⟩) ∧ Bld b l w' ∧ Below b w w' ∧ Lib.OthersKept 5 (some b) w w' :=
  Try.Builder_String_any_k b b l w h (Nat.le_of_lt (Bld.lt h))
theorem builder_Len (b : Nat) (l : Bytes) (w : World) (h : Bld b l w) :
    Calls Try.prog 10 #[.pointer (some ⟨b, 0, none⟩)] w fun e w' => e = .returned (.int .i64 l.length) ∧ w = w' := by
  refine (Try.Builder_Len_f b b _ w h).mono ?_
  rintro e w' ⟨rfl, rfl⟩
  exact ⟨by rw [Lib.byteCells_length], rfl⟩
end Go.Proofs.Ytjponbpdlioocaa
namespace Go.Proofs.Ytjponbpdlioocaa
open Go.RowKit Wf
/-- The library's variable MaxLen holds some number. -/
def Env (w : World) : Prop := ∃ m, w.cell? ⟨0, 0, none⟩ = some (.int .i64 m)
theorem Env.lt {w : World} (h : Env w) : 0 < w.heap.size := by
  obtain ⟨m, hm⟩ := h
  unfold World.cell? at hm
  rcases Nat.lt_or_ge 0 w.heap.size with h' | h'
  · exact h'
  · simp [Array.getElem?_eq_none h'] at hm
theorem Env.below {w w' : World} (h : Env w) (hb : Below w.heap.size w w') : Env w' := by
  have := h.lt
  obtain ⟨m, hm⟩ := h
  exact ⟨m, (hb.cell (p := ⟨0, 0, none⟩) this).trans hm⟩
theorem Env.drewN {w : World} (h : Env w) (n : Nat) : Env (w.drewN n) := h
theorem s_IndexByte (l : Bytes) (c : UInt8) (w : World) :
    Calls Try.prog 17 #[(Value.string ⟨List.toArray (l)⟩), .int .u8 c.toNat] w fun e w' => e = .returned (.int .i64 (Lib.indexByte l c)) ∧ w = w' := by
  refine (Try.strings_IndexByte ⟨List.toArray l⟩ c.toNat w).mono ?_
  rintro e w' ⟨rfl, rfl⟩
  exact ⟨by rw [show ((c.toNat : Int)).toNat.toUInt8 = c from by simp], rfl⟩
theorem s_HasPrefix (l p : Bytes) (w : World) :
    Calls Try.prog 20 #[(Value.string ⟨List.toArray (l)⟩), (Value.string ⟨List.toArray (p)⟩)] w fun e w' => e = .returned (.bool (Lib.hasPrefix l p)) ∧ w = w' := by
  refine (Try.strings_HasPrefix ⟨List.toArray l⟩ ⟨List.toArray p⟩ w).mono ?_
  rintro e w' ⟨rfl, rfl⟩
  exact ⟨rfl, rfl⟩
/-- A row of strings in a block. -/
def RowStr (w : World) (b : Nat) (l : List Bytes) : Prop := ∀ i (h : i < l.length), w.cell? ⟨b, i, none⟩ = some (Value.string ⟨List.toArray (l[i])⟩)
theorem RowStr.alloc (w : World) (l : List Bytes) (rest : List Value) (T : TypeId) : RowStr (w.alloc (.cells (l.map strV ++ rest).toArray T)) w.heap.size l := by
  intro i h
  rw [Lib.cell_of_heap (heap_new _ _) i]
  simp [List.getElem?_append_left, h, strV]
end Go.Proofs.Ytjponbpdlioocaa
