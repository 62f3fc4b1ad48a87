/- Contracts of the library on builders and strings. -/
import Derived.Test.YtnpkjglcbolcbaaGreatDoorBase
import Derived.Test.YtnpkjglcbolcbaaGreatDoorShelf
import Derived.Test.YtnpkjglcbolcbaaGreatDoorPlain
set_option linter.all false
namespace Go.Proofs
open Go.Shelf Go.RowKit
def Tryz.layB_ren : Go.Shelf.Ren := ⟨fun | 240 => 176 | 166 => 133 | 276 => 197 | n => n, fun | 0 => 0 | 3 => 3 | 4 => 4 | 5 => 5 | 9 => 9 | 20 => 20 | 37 => 123 | 70 => 131 | 72 => 133 | 75 => 135 | 80 => 139 | 164 => 163 | n => n, fun | n => n⟩
theorem Tryz.lay166 : Go.Proofs.Lays.n166 Tryz.prog Tryz.layB_ren := {
  mixed := by kernel_rfl
  f166 := Tryz.func133.trans (congrArg some (by kernel_rfl))
  f240 := Tryz.func176.trans (congrArg some (by kernel_rfl))
  f276 := Tryz.func197.trans (congrArg some (by kernel_rfl))
  t0 := Tryz.underlying0
  a0 := Tryz.isAgg0
  z0 := Tryz.sizeOf0
  v0 := Tryz.zeroValue0
  t3 := Tryz.underlying3
  a3 := Tryz.isAgg3
  z3 := Tryz.sizeOf3
  v3 := Tryz.zeroValue3
  t4 := Tryz.underlying4
  a4 := Tryz.isAgg4
  z4 := Tryz.sizeOf4
  v4 := Tryz.zeroValue4
  t9 := Tryz.underlying9
  a9 := Tryz.isAgg9
  z9 := Tryz.sizeOf9
  v9 := Tryz.zeroValue9
  t20 := Tryz.underlying20
  a20 := Tryz.isAgg20
  z20 := Tryz.sizeOf20
  v20 := Tryz.zeroValue20
  t37 := Tryz.underlying123
  a37 := Tryz.isAgg123
  z37 := Tryz.sizeOf123
  v37 := Tryz.zeroValue123
  t70 := Tryz.underlying131
  a70 := Tryz.isAgg131
  z70 := Tryz.sizeOf131
  v70 := Tryz.zeroValue131
  t72 := Tryz.underlying133
  a72 := Tryz.isAgg133
  z72 := Tryz.sizeOf133
  v72 := Tryz.zeroValue133
  t75 := Tryz.underlying135
  a75 := Tryz.isAgg135
  z75 := Tryz.sizeOf135
  v75 := Tryz.zeroValue135
  t164 := Tryz.underlying163
  a164 := Tryz.isAgg163
  z164 := Tryz.sizeOf163
  v164 := Tryz.zeroValue163 }
theorem Tryz.extra166 : Builder.Extra Tryz.prog Tryz.layB_ren := {
  sizeBuilder := by kernel_rfl
  liesBuilder := by kernel_rfl
  t5 := Tryz.underlying5
  a5 := Tryz.isAgg5
  z5 := Tryz.sizeOf5
  v5 := Tryz.zeroValue5
  infoByte := by kernel_rfl
  cellsByte := by kernel_rfl
  sizeByte := by kernel_rfl
  neB5 := by decide }
end Go.Proofs
namespace Go.Proofs.YtnpkjglcbolcbaaGreatDoor
open Go.RowKit Wf
/-- What a call may do: blocks of 'own' may be written, new blocks may come; nothing else turns. -/
structure Fr (own : Nat → Prop) (w w' : World) : Prop where
  os : w'.os = w.os
  tape : w'.tape = w.tape
  output : w'.output = w.output
  size : w.heap.size ≤ w'.heap.size
  block : ∀ k, k < w.heap.size → ¬ own k → w'.heap[k]? = w.heap[k]?

theorem Fr.below {own : Nat → Prop} {B : Nat} {w w' : World} (h : Fr own w w') (ho : ∀ k, own k → B ≤ k) (hB : B ≤ w.heap.size) : Below B w w' :=
  ⟨h.os, h.tape, h.output, h.size, fun k hk => h.block k (by omega) (fun e => by have := ho k e; omega)⟩
theorem Fr.of_below {own : Nat → Prop} {B : Nat} {w w' : World} (h : Below B w w') (ho : ∀ k, B ≤ k → k < w.heap.size → own k) : Fr own w w' :=
  ⟨h.os, h.tape, h.output, h.size, fun k hk hn => h.block k (by
    rcases Nat.lt_or_ge k B with h' | h'
    · exact h'
    · exact absurd (ho k h' hk) hn)⟩

theorem Fr.refl (own : Nat → Prop) (w : World) : Fr own w w := ⟨rfl, rfl, rfl, Nat.le_refl _, fun _ _ _ => rfl⟩
theorem Fr.trans {own : Nat → Prop} {a b c : World} (h : Fr own a b) (k : Fr own b c) : Fr own a c :=
  ⟨k.os.trans h.os, k.tape.trans h.tape, k.output.trans h.output, Nat.le_trans h.size k.size, fun i hi hn => (k.block i (by have := h.size; omega) hn).trans (h.block i hi hn)⟩
theorem Fr.drew {own : Nat → Prop} {a w : World} (h : Fr own a w) : Fr own a w.drew := ⟨h.os, h.tape, h.output, h.size, h.block⟩
theorem Fr.setCell {own : Nat → Prop} {a w : World} (h : Fr own a w) {b o : Nat} (hb : own b) (v : Value) : Fr own a (w.setCell ⟨b, o, none⟩ v) :=
  h.trans ⟨rfl, rfl, rfl, by simp [World.setCell], fun k _ hn => Below.heap_setCell _ _ _ _ (by rintro rfl; exact hn hb)⟩
theorem Fr.set1 {b o : Nat} (w : World) (v : Value) : Fr (· = b) w (w.setCell ⟨b, o, none⟩ v) := (Fr.refl _ w).setCell (own := (· = b)) rfl v
theorem Fr.belowAll {own : Nat → Prop} {a w w' : World} (h : Fr own a w) (hb : Below w.heap.size w w') : Fr own a w' :=
  h.trans (Fr.of_below hb (fun k h1 h2 => by omega))
theorem Fr.one_below {b : Nat} {w w' : World} (h : Fr (· = b) w w') (hb : b ≤ w.heap.size) : Below b w w' := h.below (fun k hk => by omega) hb
theorem heap_set {w : World} {b o : Nat} {cs : Array Value} {T : TypeId} {fz : Nat × Nat} (h : w.heap[b]? = some (.cells cs T fz)) (v : Value) : (w.setCell ⟨b, o, none⟩ v).heap[b]? = some (.cells (cs.setIfInBounds o v) T fz) := by
  simp [World.setCell, Array.getElem?_modify, h]
theorem heap_lt {w : World} {b : Nat} {x : Obj} (h : w.heap[b]? = some x) : b < w.heap.size := (Array.getElem?_eq_some_iff.1 h).1

theorem Fr.kept {b : Nat} {w w' : World} (h2 : Lib.OthersKept 5 (some b) w w') {k : Nat} {cs : Array Value} {T : TypeId} {fz : Nat × Nat} (hk : w.heap[k]? = some (.cells cs T fz)) (hne : k ≠ b) (hT : T ≠ 5) : w'.heap[k]? = some (.cells cs T fz) :=
  h2 k _ hk (by simpa using hne) (by rintro c f hcf; injection hcf with _ hT' _; exact hT hT')
/-- A strings.Builder in block b, one of the call's own, that holds the bytes l. -/
def Bld (b : Nat) (l : Bytes) (w : World) : Prop := Lib.IsBuilderF 133 5 b b (Lib.byteCells l) w

theorem Bld.lt {b : Nat} {l : Bytes} {w : World} (h : Bld b l w) : b < w.heap.size := by
  have : ∀ p, Lib.BuilderAtF 133 5 b b p (Lib.byteCells l) w → b < w.heap.size := by
    rintro p ⟨_, v, hb, _⟩
    rcases Nat.lt_or_ge b w.heap.size with h' | h'
    · exact h'
    · simp [Array.getElem?_eq_none h'] at hb
  rcases h with h | h <;> exact this _ h

theorem Bld.alloc {b : Nat} {l : Bytes} {w : World} (h : Bld b l w) (o : Obj) : Bld b l (w.alloc o) := Lib.IsBuilderF.alloc h o
theorem Bld.fr {b cb : Nat} {l : Bytes} {w w' : World} {cs : Array Value} {T : TypeId} {fz : Nat × Nat} (h : Bld b l w) (hf : Fr (· = cb) w w') (hc : w.heap[cb]? = some (.cells cs T fz)) (hT : T ≠ 5) (hne : b ≠ cb) : Bld b l w' := by
  have key : ∀ p, Lib.BuilderAtF 133 5 b b p (Lib.byteCells l) w → Lib.BuilderAtF 133 5 b b p (Lib.byteCells l) w' := by
    rintro p ⟨hB, v, hb, hown, hv⟩
    refine ⟨hB, v, ?_, ?_, hv⟩
    · rw [hf.block b (heap_lt hb) hne]; exact hb
    · exact hown.kept (row := some cb) ⟨hf.os, hf.tape, hf.output, hf.size, fun k hk hn => hf.block k hk (fun e => hn (by rw [e]))⟩ (Or.inr (Lib.ownBlock_neF hown hc hT))
  rcases h with h | h
  · exact Or.inl (key _ h)
  · exact Or.inr (key _ h)
theorem Bld.fresh (w : World) : Bld w.heap.size [] (w.alloc (.cells #[.pointer none, .slice none 0 0] 133)) :=
  Lib.IsBuilderF.of (Lib.fresh_isBuilder _ _ w)

theorem builder_WriteString (b : Nat) (l s : Bytes) (w : World) (h : Bld b l w) (hlen : l.length + s.length ≤ 140737488355328) :
    Calls Tryz.prog 133 #[.pointer (some ⟨b, 0, none⟩), (Value.string ⟨List.toArray (s)⟩)] w fun e w' => e = .returned (.tuple #[.int .i64 s.length, .nilIface]) ∧ Bld b (l ++ s) w' ∧ Below b w w' ∧ Lib.OthersKept 5 (some b) w w' := by
  refine (Any.Builder_WriteString_k Tryz.lay166 Tryz.extra166 b b (Lib.byteCells l) ⟨List.toArray s⟩ w h (by rw [Lib.byteCells_length]; exact hlen) (Nat.le_of_lt (Bld.lt h))).mono ?_
  rintro e w' ⟨rfl, h1, h2, h3⟩
  refine ⟨rfl, ?_, h2, h3⟩
  right
  rw [Lib.byteCells_append]
  exact h1

theorem builder_String (b : Nat) (l : Bytes) (w : World) (h : Bld b l w) :
    Calls Tryz.prog 134 #[.pointer (some ⟨b, 0, none⟩)] w fun e w' => e = .returned (Value.string ⟨List.toArray (l)⟩) ∧ Bld b l w' ∧ Below b w w' ∧ Lib.OthersKept 5 (some b) w w' :=
  Tryz.Builder_String_any_k b b l w h (Nat.le_of_lt (Bld.lt h))
end Go.Proofs.YtnpkjglcbolcbaaGreatDoor
namespace Go.Proofs.YtnpkjglcbolcbaaGreatDoor
open Go.RowKit Wf
/-- The library's variable MaxLen holds some number. -/
def Env (w : World) : Prop := ∃ m, w.cell? ⟨0, 0, none⟩ = some (.int .i64 m)
theorem Env.lt {w : World} (h : Env w) : 0 < w.heap.size := by
  obtain ⟨m, hm⟩ := h
  unfold World.cell? at hm
  rcases Nat.lt_or_ge 0 w.heap.size with h' | h'
  · exact h'
  · simp [Array.getElem?_eq_none h'] at hm
theorem Env.below {w w' : World} (h : Env w) (hb : Below w.heap.size w w') : Env w' := by
  have := h.lt
  obtain ⟨m, hm⟩ := h
  exact ⟨m, (hb.cell (p := ⟨0, 0, none⟩) this).trans hm⟩
theorem Env.drewN {w : World} (h : Env w) (n : Nat) : Env (w.drewN n) := h
theorem s_IndexByte (l : Bytes) (c : UInt8) (w : World) :
    Calls Tryz.prog 114 #[(Value.string ⟨List.toArray (l)⟩), .int .u8 c.toNat] w fun e w' => e = .returned (.int .i64 (Lib.indexByte l c)) ∧ w = w' := by
  refine (Tryz.strings_IndexByte ⟨List.toArray l⟩ c.toNat w).mono ?_
  rintro e w' ⟨rfl, rfl⟩
  exact ⟨by rw [show ((c.toNat : Int)).toNat.toUInt8 = c from by simp], rfl⟩
theorem s_HasPrefix (l p : Bytes) (w : World) :
    Calls Tryz.prog 121 #[(Value.string ⟨List.toArray (l)⟩), (Value.string ⟨List.toArray (p)⟩)] w fun e w' => e = .returned (.bool (Lib.hasPrefix l p)) ∧ w = w' := by
  refine (Tryz.strings_HasPrefix ⟨List.toArray l⟩ ⟨List.toArray p⟩ w).mono ?_
  rintro e w' ⟨rfl, rfl⟩
  exact ⟨rfl, rfl⟩
theorem s_CutPrefix (l p : Bytes) (w : World) :
    Calls Tryz.prog 113 #[(Value.string ⟨List.toArray (l)⟩), (Value.string ⟨List.toArray (p)⟩)] w fun e w' => e = .returned (.tuple #[(Value.string ⟨List.toArray (Lib.trimPrefix l p)⟩), .bool (Lib.hasPrefix l p)]) ∧ w = w' := by
  refine (Tryz.strings_CutPrefix ⟨List.toArray l⟩ ⟨List.toArray p⟩ w).mono ?_
  rintro e w' ⟨rfl, rfl⟩
  exact ⟨rfl, rfl⟩
theorem s_TrimPrefix (l p : Bytes) (w : World) :
    Calls Tryz.prog 122 #[(Value.string ⟨List.toArray (l)⟩), (Value.string ⟨List.toArray (p)⟩)] w fun e w' => e = .returned (Value.string ⟨List.toArray (Lib.trimPrefix l p)⟩) ∧ w = w' := by
  refine (Tryz.strings_TrimPrefix ⟨List.toArray l⟩ ⟨List.toArray p⟩ w).mono ?_
  rintro e w' ⟨rfl, rfl⟩
  exact ⟨rfl, rfl⟩
theorem s_Cut (l : Bytes) (c : UInt8) (w : World) (hE : Env w) (hl : l.length < 4294967281) :
    Calls Tryz.prog 93 #[(Value.string ⟨List.toArray (l)⟩), (Value.string ⟨List.toArray ([c])⟩)] w fun e w' => e = .returned (.tuple #[(Value.string ⟨List.toArray ((cutC c l).1)⟩), (Value.string ⟨List.toArray ((cutC c l).2.1)⟩), .bool (cutC c l).2.2]) ∧ ∃ n, w' = w.drewN n := by
  obtain ⟨m, hm⟩ := hE
  refine (Tryz.strings_Cut ⟨List.toArray l⟩ ⟨#[c]⟩ m w hl hm).mono ?_
  rintro e w' ⟨rfl, hw⟩
  have := cut_one c l
  exact ⟨by rw [← this], hw⟩
theorem s_Split (l : Bytes) (c : UInt8) (w : World) (hE : Env w) (hl : l.length < 4294967281) :
    Calls Tryz.prog 88 #[(Value.string ⟨List.toArray (l)⟩), (Value.string ⟨List.toArray ([c])⟩)] w fun e w' => e = .returned (.slice (some ⟨w.heap.size, 0, none⟩) (splitC c l).length (splitC c l).length) ∧ w' = w.alloc (.cells ((splitC c l).map strV).toArray 9) := by
  obtain ⟨m, hm⟩ := hE
  refine (Tryz.strings_Split ⟨List.toArray l⟩ ⟨#[c]⟩ m w hl hm (Nat.le_refl 1)).mono ?_
  rintro e w' ⟨rfl, rfl⟩
  rw [countB_one, splitB_one]
  exact ⟨rfl, rfl⟩
/-- A row of strings in a block. -/
def RowStr (w : World) (b : Nat) (l : List Bytes) : Prop := ∀ i (h : i < l.length), w.cell? ⟨b, i, none⟩ = some (Value.string ⟨List.toArray (l[i])⟩)
theorem RowStr.alloc (w : World) (l : List Bytes) (rest : List Value) (T : TypeId) : RowStr (w.alloc (.cells (l.map strV ++ rest).toArray T)) w.heap.size l := by
  intro i h
  rw [Lib.cell_of_heap (heap_new _ _) i]
  simp [List.getElem?_append_left, h, strV]
end Go.Proofs.YtnpkjglcbolcbaaGreatDoor
