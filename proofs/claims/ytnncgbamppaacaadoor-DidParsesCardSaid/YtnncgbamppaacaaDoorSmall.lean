/- Contracts of the library on builders and strings. -/
import Derived.Test.YtnncgbamppaacaaDoorBase
import Derived.Test.YtnncgbamppaacaaDoorShelf
import Derived.Test.YtnncgbamppaacaaDoorPlain
set_option linter.all false
namespace Go.Proofs
open Go.Shelf Go.RowKit
def Tryd.layB_ren : Go.Shelf.Ren := ⟨fun | 240 => 83 | 166 => 52 | 276 => 101 | n => n, fun | 0 => 0 | 3 => 3 | 4 => 4 | 5 => 5 | 9 => 9 | 20 => 20 | 37 => 63 | 70 => 62 | 72 => 65 | 75 => 67 | 80 => 71 | 164 => 92 | n => n, fun | n => n⟩
theorem Tryd.lay166 : Go.Proofs.Lays.n166 Tryd.prog Tryd.layB_ren := {
  mixed := by kernel_rfl
  f166 := Tryd.func52.trans (congrArg some (by kernel_rfl))
  f240 := Tryd.func83.trans (congrArg some (by kernel_rfl))
  f276 := Tryd.func101.trans (congrArg some (by kernel_rfl))
  t0 := Tryd.underlying0
  a0 := Tryd.isAgg0
  z0 := Tryd.sizeOf0
  v0 := Tryd.zeroValue0
  t3 := Tryd.underlying3
  a3 := Tryd.isAgg3
  z3 := Tryd.sizeOf3
  v3 := Tryd.zeroValue3
  t4 := Tryd.underlying4
  a4 := Tryd.isAgg4
  z4 := Tryd.sizeOf4
  v4 := Tryd.zeroValue4
  t9 := Tryd.underlying9
  a9 := Tryd.isAgg9
  z9 := Tryd.sizeOf9
  v9 := Tryd.zeroValue9
  t20 := Tryd.underlying20
  a20 := Tryd.isAgg20
  z20 := Tryd.sizeOf20
  v20 := Tryd.zeroValue20
  t37 := Tryd.underlying63
  a37 := Tryd.isAgg63
  z37 := Tryd.sizeOf63
  v37 := Tryd.zeroValue63
  t70 := Tryd.underlying62
  a70 := Tryd.isAgg62
  z70 := Tryd.sizeOf62
  v70 := Tryd.zeroValue62
  t72 := Tryd.underlying65
  a72 := Tryd.isAgg65
  z72 := Tryd.sizeOf65
  v72 := Tryd.zeroValue65
  t75 := Tryd.underlying67
  a75 := Tryd.isAgg67
  z75 := Tryd.sizeOf67
  v75 := Tryd.zeroValue67
  t164 := Tryd.underlying92
  a164 := Tryd.isAgg92
  z164 := Tryd.sizeOf92
  v164 := Tryd.zeroValue92 }
theorem Tryd.extra166 : Builder.Extra Tryd.prog Tryd.layB_ren := {
  sizeBuilder := by kernel_rfl
  liesBuilder := by kernel_rfl
  t5 := Tryd.underlying5
  a5 := Tryd.isAgg5
  z5 := Tryd.sizeOf5
  v5 := Tryd.zeroValue5
  infoByte := by kernel_rfl
  cellsByte := by kernel_rfl
  sizeByte := by kernel_rfl
  neB5 := by decide }
end Go.Proofs
namespace Go.Proofs.YtnncgbamppaacaaDoor
open Go.RowKit Wf
/-- What a call may do: blocks of 'own' may be written, new blocks may come; nothing else turns. -/
structure Fr (own : Nat → Prop) (w w' : World) : Prop where
  os : w'.os = w.os
  tape : w'.tape = w.tape
  output : w'.output = w.output
  size : w.heap.size ≤ w'.heap.size
  block : ∀ k, k < w.heap.size → ¬ own k → w'.heap[k]? = w.heap[k]?

theorem Fr.below {own : Nat → Prop} {B : Nat} {w w' : World} (h : Fr own w w') (ho : ∀ k, own k → B ≤ k) (hB : B ≤ w.heap.size) : Below B w w' :=
  ⟨h.os, h.tape, h.output, h.size, fun k hk => h.block k (by omega) (fun e => by have := ho k e; omega)⟩
theorem Fr.of_below {own : Nat → Prop} {B : Nat} {w w' : World} (h : Below B w w') (ho : ∀ k, B ≤ k → k < w.heap.size → own k) : Fr own w w' :=
  ⟨h.os, h.tape, h.output, h.size, fun k hk hn => h.block k (by
    rcases Nat.lt_or_ge k B with h' | h'
    · exact h'
    · exact absurd (ho k h' hk) hn)⟩

theorem Fr.refl (own : Nat → Prop) (w : World) : Fr own w w := ⟨rfl, rfl, rfl, Nat.le_refl _, fun _ _ _ => rfl⟩
theorem Fr.trans {own : Nat → Prop} {a b c : World} (h : Fr own a b) (k : Fr own b c) : Fr own a c :=
  ⟨k.os.trans h.os, k.tape.trans h.tape, k.output.trans h.output, Nat.le_trans h.size k.size, fun i hi hn => (k.block i (by have := h.size; omega) hn).trans (h.block i hi hn)⟩
theorem Fr.drew {own : Nat → Prop} {a w : World} (h : Fr own a w) : Fr own a w.drew := ⟨h.os, h.tape, h.output, h.size, h.block⟩
theorem Fr.setCell {own : Nat → Prop} {a w : World} (h : Fr own a w) {b o : Nat} (hb : own b) (v : Value) : Fr own a (w.setCell ⟨b, o, none⟩ v) :=
  h.trans ⟨rfl, rfl, rfl, by simp [World.setCell], fun k _ hn => Below.heap_setCell _ _ _ _ (by rintro rfl; exact hn hb)⟩
theorem Fr.set1 {b o : Nat} (w : World) (v : Value) : Fr (· = b) w (w.setCell ⟨b, o, none⟩ v) := (Fr.refl _ w).setCell (own := (· = b)) rfl v
theorem Fr.belowAll {own : Nat → Prop} {a w w' : World} (h : Fr own a w) (hb : Below w.heap.size w w') : Fr own a w' :=
  h.trans (Fr.of_below hb (fun k h1 h2 => by omega))
theorem Fr.one_below {b : Nat} {w w' : World} (h : Fr (· = b) w w') (hb : b ≤ w.heap.size) : Below b w w' := h.below (fun k hk => by omega) hb
theorem heap_set {w : World} {b o : Nat} {cs : Array Value} {T : TypeId} {fz : Nat × Nat} (h : w.heap[b]? = some (.cells cs T fz)) (v : Value) : (w.setCell ⟨b, o, none⟩ v).heap[b]? = some (.cells (cs.setIfInBounds o v) T fz) := by
  simp [World.setCell, Array.getElem?_modify, h]
theorem heap_lt {w : World} {b : Nat} {x : Obj} (h : w.heap[b]? = some x) : b < w.heap.size := (Array.getElem?_eq_some_iff.1 h).1

theorem Fr.kept {b : Nat} {w w' : World} (h2 : Lib.OthersKept 5 (some b) w w') {k : Nat} {cs : Array Value} {T : TypeId} {fz : Nat × Nat} (hk : w.heap[k]? = some (.cells cs T fz)) (hne : k ≠ b) (hT : T ≠ 5) : w'.heap[k]? = some (.cells cs T fz) :=
  h2 k _ hk (by simpa using hne) (by rintro c f hcf; injection hcf with _ hT' _; exact hT hT')
/-- A strings.Builder in block b, one of the call's own, that holds the bytes l. -/
def Bld (b : Nat) (l : Bytes) (w : World) : Prop := Lib.IsBuilderF 65 5 b b (Lib.byteCells l) w

theorem Bld.lt {b : Nat} {l : Bytes} {w : World} (h : Bld b l w) : b < w.heap.size := by
  have : ∀ p, Lib.BuilderAtF 65 5 b b p (Lib.byteCells l) w → b < w.heap.size := by
    rintro p ⟨_, v, hb, _⟩
    rcases Nat.lt_or_ge b w.heap.size with h' | h'
    · exact h'
    · simp [Array.getElem?_eq_none h'] at hb
  rcases h with h | h <;> exact this _ h

theorem Bld.alloc {b : Nat} {l : Bytes} {w : World} (h : Bld b l w) (o : Obj) : Bld b l (w.alloc o) := Lib.IsBuilderF.alloc h o
theorem Bld.fr {b cb : Nat} {l : Bytes} {w w' : World} {cs : Array Value} {T : TypeId} {fz : Nat × Nat} (h : Bld b l w) (hf : Fr (· = cb) w w') (hc : w.heap[cb]? = some (.cells cs T fz)) (hT : T ≠ 5) (hne : b ≠ cb) : Bld b l w' := by
  have key : ∀ p, Lib.BuilderAtF 65 5 b b p (Lib.byteCells l) w → Lib.BuilderAtF 65 5 b b p (Lib.byteCells l) w' := by
    rintro p ⟨hB, v, hb, hown, hv⟩
    refine ⟨hB, v, ?_, ?_, hv⟩
    · rw [hf.block b (heap_lt hb) hne]; exact hb
    · exact hown.kept (row := some cb) ⟨hf.os, hf.tape, hf.output, hf.size, fun k hk hn => hf.block k hk (fun e => hn (by rw [e]))⟩ (Or.inr (Lib.ownBlock_neF hown hc hT))
  rcases h with h | h
  · exact Or.inl (key _ h)
  · exact Or.inr (key _ h)
theorem Bld.fresh (w : World) : Bld w.heap.size [] (w.alloc (.cells #[.pointer none, .slice none 0 0] 65)) :=
  Lib.IsBuilderF.of (Lib.fresh_isBuilder _ _ w)

theorem builder_WriteString (b : Nat) (l s : Bytes) (w : World) (h : Bld b l w) (hlen : l.length + s.length ≤ 140737488355328) :
    Calls Tryd.prog 52 #[.pointer (some ⟨b, 0, none⟩), (Value.string ⟨List.toArray (s)⟩)] w fun e w' => e = .returned (.tuple #[.int .i64 s.length, .nilIface]) ∧ Bld b (l ++ s) w' ∧ Below b w w' ∧ Lib.OthersKept 5 (some b) w w' := by
  refine (Any.Builder_WriteString_k Tryd.lay166 Tryd.extra166 b b (Lib.byteCells l) ⟨List.toArray s⟩ w h (by rw [Lib.byteCells_length]; exact hlen) (Nat.le_of_lt (Bld.lt h))).mono ?_
  rintro e w' ⟨rfl, h1, h2, h3⟩
  refine ⟨rfl, ?_, h2, h3⟩
  right
  rw [Lib.byteCells_append]
  exact h1

theorem builder_String (b : Nat) (l : Bytes) (w : World) (h : Bld b l w) :
    Calls Tryd.prog 54 #[.pointer (some ⟨b, 0, none⟩)] w fun e w' => e = .returned (Value.string ⟨List.toArray (l)⟩) ∧ Bld b l w' ∧ Below b w w' ∧ Lib.OthersKept 5 (some b) w w' :=
  Tryd.Builder_String_any_k b b l w h (Nat.le_of_lt (Bld.lt h))
theorem builder_Len (b : Nat) (l : Bytes) (w : World) (h : Bld b l w) :
    Calls Tryd.prog 53 #[.pointer (some ⟨b, 0, none⟩)] w fun e w' => e = .returned (.int .i64 l.length) ∧ w = w' := by
  refine (Tryd.Builder_Len_f b b _ w h).mono ?_
  rintro e w' ⟨rfl, rfl⟩
  exact ⟨by rw [Lib.byteCells_length], rfl⟩
end Go.Proofs.YtnncgbamppaacaaDoor
namespace Go.Proofs.YtnncgbamppaacaaDoor
open Go.RowKit Wf
/-- The library's variable MaxLen holds some number. -/
def Env (w : World) : Prop := ∃ m, w.cell? ⟨0, 0, none⟩ = some (.int .i64 m)
theorem Env.lt {w : World} (h : Env w) : 0 < w.heap.size := by
  obtain ⟨m, hm⟩ := h
  unfold World.cell? at hm
  rcases Nat.lt_or_ge 0 w.heap.size with h' | h'
  · exact h'
  · simp [Array.getElem?_eq_none h'] at hm
theorem Env.below {w w' : World} (h : Env w) (hb : Below w.heap.size w w') : Env w' := by
  have := h.lt
  obtain ⟨m, hm⟩ := h
  exact ⟨m, (hb.cell (p := ⟨0, 0, none⟩) this).trans hm⟩
theorem Env.drewN {w : World} (h : Env w) (n : Nat) : Env (w.drewN n) := h
theorem s_IndexByte (l : Bytes) (c : UInt8) (w : World) :
    Calls Tryd.prog 46 #[(Value.string ⟨List.toArray (l)⟩), .int .u8 c.toNat] w fun e w' => e = .returned (.int .i64 (Lib.indexByte l c)) ∧ w = w' := by
  refine (Tryd.strings_IndexByte ⟨List.toArray l⟩ c.toNat w).mono ?_
  rintro e w' ⟨rfl, rfl⟩
  exact ⟨by rw [show ((c.toNat : Int)).toNat.toUInt8 = c from by simp], rfl⟩
theorem s_HasPrefix (l p : Bytes) (w : World) :
    Calls Tryd.prog 49 #[(Value.string ⟨List.toArray (l)⟩), (Value.string ⟨List.toArray (p)⟩)] w fun e w' => e = .returned (.bool (Lib.hasPrefix l p)) ∧ w = w' := by
  refine (Tryd.strings_HasPrefix ⟨List.toArray l⟩ ⟨List.toArray p⟩ w).mono ?_
  rintro e w' ⟨rfl, rfl⟩
  exact ⟨rfl, rfl⟩
theorem s_CutPrefix (l p : Bytes) (w : World) :
    Calls Tryd.prog 36 #[(Value.string ⟨List.toArray (l)⟩), (Value.string ⟨List.toArray (p)⟩)] w fun e w' => e = .returned (.tuple #[(Value.string ⟨List.toArray (Lib.trimPrefix l p)⟩), .bool (Lib.hasPrefix l p)]) ∧ w = w' := by
  refine (Tryd.strings_CutPrefix ⟨List.toArray l⟩ ⟨List.toArray p⟩ w).mono ?_
  rintro e w' ⟨rfl, rfl⟩
  exact ⟨rfl, rfl⟩
theorem s_Cut (l : Bytes) (c : UInt8) (w : World) (hE : Env w) (hl : l.length < 4294967281) :
    Calls Tryd.prog 37 #[(Value.string ⟨List.toArray (l)⟩), (Value.string ⟨List.toArray ([c])⟩)] w fun e w' => e = .returned (.tuple #[(Value.string ⟨List.toArray ((cutC c l).1)⟩), (Value.string ⟨List.toArray ((cutC c l).2.1)⟩), .bool (cutC c l).2.2]) ∧ ∃ n, w' = w.drewN n := by
  obtain ⟨m, hm⟩ := hE
  refine (Tryd.strings_Cut ⟨List.toArray l⟩ ⟨#[c]⟩ m w hl hm).mono ?_
  rintro e w' ⟨rfl, hw⟩
  have := cut_one c l
  exact ⟨by rw [← this], hw⟩
theorem s_Split (l : Bytes) (c : UInt8) (w : World) (hE : Env w) (hl : l.length < 4294967281) :
    Calls Tryd.prog 59 #[(Value.string ⟨List.toArray (l)⟩), (Value.string ⟨List.toArray ([c])⟩)] w fun e w' => e = .returned (.slice (some ⟨w.heap.size, 0, none⟩) (splitC c l).length (splitC c l).length) ∧ w' = w.alloc (.cells ((splitC c l).map strV).toArray 9) := by
  obtain ⟨m, hm⟩ := hE
  refine (Tryd.strings_Split ⟨List.toArray l⟩ ⟨#[c]⟩ m w hl hm (Nat.le_refl 1)).mono ?_
  rintro e w' ⟨rfl, rfl⟩
  rw [countB_one, splitB_one]
  exact ⟨rfl, rfl⟩
/-- A row of strings in a block. -/
def RowStr (w : World) (b : Nat) (l : List Bytes) : Prop := ∀ i (h : i < l.length), w.cell? ⟨b, i, none⟩ = some (Value.string ⟨List.toArray (l[i])⟩)
theorem RowStr.alloc (w : World) (l : List Bytes) (rest : List Value) (T : TypeId) : RowStr (w.alloc (.cells (l.map strV ++ rest).toArray T)) w.heap.size l := by
  intro i h
  rw [Lib.cell_of_heap (heap_new _ _) i]
  simp [List.getElem?_append_left, h, strV]
end Go.Proofs.YtnncgbamppaacaaDoor
