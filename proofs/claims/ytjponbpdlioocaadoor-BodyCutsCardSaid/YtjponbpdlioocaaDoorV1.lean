/- Texts of this claim, laid together: Base, Vc, Ty, Shelf. -/
import Derived.WalkKit
import Derived.WalkSpells
import Derived.WalkLawsBesides
import Derived.Lib.IndexAny
import Derived.Lib.Bytealg
import Derived.Lib.Strings
import Derived.Laws.StructEq
import Derived.Laws.CopyRow
import Derived.Test.YtjponbpdlioocaaDoorProg
import Derived.Shelf.Strings.Builder1
import Derived.Shelf.Strings.Builder2
import Derived.Shelf.Strings.OnBuilder
import Derived.Shelf.Small.Utf8
import Derived.Shelf.Small.Strs
import Derived.Shelf.Small.Wraps
import Derived.Shelf.Strings.BuilderF
import Derived.Shelf.Strings.BuilderK
import Derived.Shelf.Utf8.RuneCount
import Derived.Shelf.Strings.Search1
import Derived.Shelf.Strings.Search2
import Derived.Shelf.Strings.Search3
import Derived.Shelf.Strings.Cut
import Derived.Shelf.Strings.Count
import Derived.Shelf.LaysM
import Derived.Shelf.Strings.Shaped
import Derived.Shelf.Strings.LastIndex
import Derived.Shelf.Strings.Prefix
import Derived.Shelf.Strings.Split
import Derived.Shelf.Strings.SplitShaped
import Derived.Shelf.Unicode.Decode
import Derived.Shelf.Strings.Runes
import Derived.Shelf.Strings.RuneCount
import Derived.Shelf.Strings.IndexAny
import Derived.Shelf.Strings.AsciiSet
import Derived.Shelf.Strings.IndexAnyAll
import Derived.Shelf.Strings.Explode
import Derived.Shelf.Unicode.DecodeSlow
import Derived.Shelf.Unicode.DecodeAny
/- Plain lemmas on bytes and byte lists: nothing of the program. -/
set_option linter.all false
namespace Wf
open Go Go.RowKit

abbrev Bytes := List UInt8

theorem hid {p : Prop} (h : p) : Hid p := h

theorem ex_list (l : List UInt8) (a b : Nat) : (⟨List.toArray l⟩ : ByteArray).extract a b = ⟨List.toArray ((l.take b).drop a)⟩ := by
  apply ByteArray.ext
  simp [ByteArray.data_extract, List.drop_take]

theorem app_list (l l' : List UInt8) : (⟨List.toArray l⟩ : ByteArray) ++ ⟨List.toArray l'⟩ = ⟨List.toArray (l ++ l')⟩ := by
  apply ByteArray.ext
  simp

theorem get_list (l : List UInt8) (k : Nat) (h : k < (⟨List.toArray l⟩ : ByteArray).size) : (⟨List.toArray l⟩ : ByteArray)[k]'h = l[k]'h := rfl

theorem all256 {p : UInt8 → Bool} (h : (List.range 256).all (fun n => p n.toUInt8) = true) : ∀ c, p c = true := by
  intro c
  rw [List.all_eq_true] at h
  have := h c.toNat (by simpa using c.toNat_lt)
  simpa using this

theorem or32 (c : UInt8) : (c.toNat / 32 % 2 = 0 → bits BinOp.or IntKind.u8 (c.toNat : Int) 32 = c.toNat + 32) ∧ (c.toNat / 32 % 2 = 1 → bits BinOp.or IntKind.u8 (c.toNat : Int) 32 = c.toNat) := by
  have h := all256 (p := fun c => decide ((c.toNat / 32 % 2 = 0 → bits BinOp.or IntKind.u8 (c.toNat : Int) 32 = c.toNat + 32) ∧ (c.toNat / 32 % 2 = 1 → bits BinOp.or IntKind.u8 (c.toNat : Int) 32 = c.toNat))) (by decide +kernel) c
  exact of_decide_eq_true h

theorem ret_bool {a b : Bool} (h : a = b) : Ending.returned (.bool a) = Ending.returned (.bool b) := by rw [h]
theorem ret_int {k : IntKind} {a b : Int} (h : a = b) : Ending.returned (.int k a) = Ending.returned (.int k b) := by rw [h]
theorem ret_str {a b : List UInt8} (h : a = b) : Ending.returned (.string ⟨List.toArray a⟩) = Ending.returned (.string ⟨List.toArray b⟩) := by rw [h]

def sLen : Value → Nat | .string b => b.size | _ => 0
theorem sLen_mk (l : Bytes) : sLen (.string ⟨List.toArray l⟩) = l.length := rfl
def has (t : Bytes) (c : UInt8) : Bool := t.contains c
/-! classes of bytes -/
def isDigit (c : UInt8) : Bool := decide (48 ≤ c.toNat ∧ c.toNat ≤ 57)
def isAlpha (c : UInt8) : Bool := decide ((65 ≤ c.toNat ∧ c.toNat ≤ 90) ∨ (97 ≤ c.toNat ∧ c.toNat ≤ 122))
def isHex (c : UInt8) : Bool := decide ((48 ≤ c.toNat ∧ c.toNat ≤ 57) ∨ (65 ≤ c.toNat ∧ c.toNat ≤ 70) ∨ (97 ≤ c.toNat ∧ c.toNat ≤ 102))
def hexVal (c : UInt8) : Nat := if c.toNat ≤ 57 then c.toNat - 48 else if c.toNat ≤ 70 then c.toNat - 55 else c.toNat - 87
theorem hexVal_le {c : UInt8} (h : isHex c = true) : hexVal c ≤ 15 := by
  simp [isHex] at h; unfold hexVal; split <;> (try split) <;> omega
def numGo (b m : Nat) : Nat → Bytes → Nat × Int
  | n, [] => (n, 0)
  | n, c :: r => if m < n * b + hexVal c then (0, 4) else numGo b m (n * b + hexVal c) r
def numParse (cls : UInt8 → Bool) (b m : Nat) (s : Bytes) : Nat × Int :=
  if s.isEmpty then (0, 3) else if s.all cls then numGo b m 0 s else (0, 1)
theorem drop_cons {α : Type} (s : List α) (k : Nat) (h : k < s.length) : s.drop k = s[k] :: s.drop (k + 1) := List.drop_eq_getElem_cons h
theorem all_take_snoc {α : Type} {p : α → Bool} {s : List α} {k : Nat} (h : k < s.length) (ha : (s.take k).all p = true) (hp : p s[k] = true) : (s.take (k + 1)).all p = true := by
  rw [List.take_succ_eq_append_getElem h, List.all_append, ha]; simpa using hp
theorem all_not {α : Type} {p : α → Bool} {s : List α} {k : Nat} (h : k < s.length) (hp : p s[k] = false) : s.all p = false := by
  rw [List.all_eq_false]; exact ⟨s[k], List.getElem_mem h, by simp [hp]⟩
theorem all_get {α : Type} {p : α → Bool} {s : List α} (ha : s.all p = true) {k : Nat} (h : k < s.length) : p s[k] = true := by
  rw [List.all_eq_true] at ha; exact ha _ (List.getElem_mem h)
theorem numParse_err {cls : UInt8 → Bool} {b m a j : Nat} {s : Bytes} (hne : s.isEmpty = false) (hall : s.all cls = true) (heq : numGo b m a (s.drop j) = numGo b m 0 s) (hj : j < s.length) (h : m < a * b + hexVal s[j]) : (0, 4) = numParse cls b m s := by
  rw [drop_cons s j hj, numGo, if_pos h] at heq
  simp [numParse, hne, hall, ← heq]
theorem numParse_next {b m a j : Nat} {s : Bytes} (heq : numGo b m a (s.drop j) = numGo b m 0 s) (hj : j < s.length) (h : ¬ m < a * b + hexVal s[j]) : numGo b m (a * b + hexVal s[j]) (s.drop (j + 1)) = numGo b m 0 s := by
  rw [drop_cons s j hj, numGo, if_neg h] at heq
  exact heq
theorem numParse_done {cls : UInt8 → Bool} {b m a j : Nat} {s : Bytes} (hne : s.isEmpty = false) (hall : s.all cls = true) (heq : numGo b m a (s.drop j) = numGo b m 0 s) (hj : ¬ j < s.length) : (a, 0) = numParse cls b m s := by
  rw [List.drop_of_length_le (by omega), numGo] at heq
  simp [numParse, hne, hall, ← heq]
theorem numGo_le (b m : Nat) (s : Bytes) : ∀ n, n ≤ m → (numGo b m n s).1 ≤ m := by
  induction s with
  | nil => intro n h; exact h
  | cons c r ih =>
    intro n h
    rw [numGo]
    split
    · exact Nat.zero_le _
    · exact ih _ (by omega)
theorem numParse_le (cls : UInt8 → Bool) (b m : Nat) (s : Bytes) : (numParse cls b m s).1 ≤ m := by
  unfold numParse
  split
  · exact Nat.zero_le _
  · split
    · exact numGo_le b m s 0 (Nat.zero_le _)
    · exact Nat.zero_le _
theorem ret_ni {a b : Nat} {c d : Int} (h : (a, c) = (b, d)) : Ending.returned (.tuple #[.int .u64 a, .int .i64 c]) = Ending.returned (.tuple #[.int .u64 b, .int .i64 d]) := by
  simp only [Prod.mk.injEq] at h; rw [h.1, h.2]
def pre (p : UInt8 → Bool) (l : Bytes) : Nat := (l.takeWhile fun c => !p c).length
theorem pre_nil (p : UInt8 → Bool) : pre p [] = 0 := rfl
theorem pre_cons (p : UInt8 → Bool) (c : UInt8) (l : Bytes) : pre p (c :: l) = if p c then 0 else pre p l + 1 := by
  unfold pre; rw [List.takeWhile_cons]; cases p c <;> simp
theorem pre_le (p : UInt8 → Bool) (l : Bytes) : pre p l ≤ l.length := by
  unfold pre; exact List.Sublist.length_le (List.takeWhile_sublist _)
theorem pre_get {p : UInt8 → Bool} {l : Bytes} {k : Nat} (h : k < pre p l) (hk : k < l.length) : p l[k] = false := by
  induction l generalizing k with
  | nil => simp at hk
  | cons c l ih =>
    rw [pre_cons] at h
    cases hc : p c
    · rw [hc] at h
      cases k with
      | zero => simpa using hc
      | succ k => simp only [List.getElem_cons_succ]; exact ih (by simpa using h) (by simpa using hk)
    · rw [hc] at h; simp at h
theorem pre_at {p : UInt8 → Bool} {l : Bytes} (h : pre p l < l.length) : p l[pre p l] = true := by
  induction l with
  | nil => simp at h
  | cons c l ih =>
    cases hc : p c
    · have e : pre p (c :: l) = pre p l + 1 := by rw [pre_cons, hc]; rfl
      have h' : pre p l < l.length := by rw [e] at h; simpa using h
      have := ih h'
      simp only [e, List.getElem_cons_succ]
      exact this
    · have e : pre p (c :: l) = 0 := by rw [pre_cons, hc]; rfl
      simp only [e, List.getElem_cons_zero]
      exact hc
theorem indexByte_pre (l : Bytes) (c : UInt8) : Lib.indexByte l c = if pre (· == c) l < l.length then (pre (· == c) l : Int) else -1 := by
  induction l with
  | nil => simp [Lib.indexByte, pre_nil]
  | cons b l ih =>
    rw [Lib.indexByte, pre_cons, ih]
    cases hb : b == c
    · simp only [Bool.false_eq_true, if_false, List.length_cons]
      by_cases h : pre (· == c) l < l.length
      · simp only [if_pos h, if_pos (show pre (· == c) l + 1 < l.length + 1 by omega)]
        rw [if_neg (by simp <;> omega)]; omega
      · simp only [if_neg h, if_neg (show ¬ pre (· == c) l + 1 < l.length + 1 by omega)]
        simp
    · simp
theorem indexAny_pre (l set : Bytes) : Lib.indexAny l set = if pre (set.contains ·) l < l.length then (pre (set.contains ·) l : Int) else -1 := by
  induction l with
  | nil => simp [Lib.indexAny, pre_nil]
  | cons b l ih =>
    rw [Lib.indexAny, pre_cons, ih]
    cases hb : set.contains b
    · simp only [Bool.false_eq_true, if_false, List.length_cons]
      by_cases h : pre (set.contains ·) l < l.length
      · simp only [if_pos h, if_pos (show pre (set.contains ·) l + 1 < l.length + 1 by omega)]
        rw [if_neg (by simp <;> omega)]; omega
      · simp only [if_neg h, if_neg (show ¬ pre (set.contains ·) l + 1 < l.length + 1 by omega)]
        simp
    · simp
theorem quiet_left {P : Program} {f : FuncId} {args : Array Value} {w : World} {n : Nat} {v : Value}
    (h : Calls P f args (w.drewN n) fun e w' => e = .returned v ∧ w.drewN n = w') : Calls P f args (w.drewN n) fun e w'' => e = .returned v ∧ ∃ m, w'' = w.drewN m :=
  h.mono fun _ _ ⟨he, hm⟩ => ⟨he, n, hm.symm⟩
theorem u64_in {n : Int} (h0 : 0 ≤ n) (h1 : n ≤ 9223372036854775807) : IntKind.u64.wrap n = n := by
  simp only [IntKind.wrap, IntKind.signed, IntKind.bits]
  simp
  omega
theorem heap_new (w : World) (o : Obj) : (w.alloc o).heap[w.heap.size]? = some o := by
  show (w.heap.push o)[w.heap.size]? = _
  simp
theorem size_alloc (w : World) (o : Obj) : (w.alloc o).heap.size = w.heap.size + 1 := by simp
def lowerC (c : UInt8) : UInt8 := if 65 ≤ c.toNat ∧ c.toNat ≤ 90 then c + 32 else c
def lower (s : Bytes) : Bytes := s.map lowerC
theorem lowerC_cap {c : UInt8} (h1 : 65 ≤ c.toNat) (h2 : c.toNat ≤ 90) : ((lowerC c).toNat : Int) = c.toNat + 32 := by
  unfold lowerC
  rw [if_pos ⟨h1, h2⟩, UInt8.toNat_add]
  simp
  omega
theorem lowerC_no {c : UInt8} (h : ¬ (65 ≤ c.toNat ∧ c.toNat ≤ 90)) : lowerC c = c := if_neg h
def lowTo (k : Nat) (s : Bytes) : Bytes := (s.take k).map lowerC ++ s.drop k
theorem lowTo_length (k : Nat) (s : Bytes) : (lowTo k s).length = s.length := by unfold lowTo; simp; omega
theorem cut_at {s : Bytes} {k : Nat} (h : k < s.length) : ∃ a b : Bytes, s = a ++ s[k] :: b ∧ a.length = k :=
  ⟨s.take k, s.drop (k + 1), by rw [← drop_cons s k h, List.take_append_drop], by simp; omega⟩
theorem lowTo_cut {a b : Bytes} {x : UInt8} : lowTo a.length (a ++ x :: b) = a.map lowerC ++ x :: b := by
  unfold lowTo; rw [List.take_left, List.drop_left]
theorem lowTo_cut1 {a b : Bytes} {x : UInt8} : lowTo (a.length + 1) (a ++ x :: b) = a.map lowerC ++ lowerC x :: b := by
  have e : a ++ x :: b = (a ++ [x]) ++ b := by simp
  have l : a.length + 1 = (a ++ [x]).length := by simp
  unfold lowTo; rw [e, l, List.take_left, List.drop_left]; simp
theorem lowTo_get {k : Nat} {s : Bytes} (h : k < s.length) (h' : k < (lowTo k s).length) : (lowTo k s)[k] = s[k] := by
  obtain ⟨a, b, hs, rfl⟩ := cut_at h
  generalize s[a.length] = x at hs ⊢
  subst hs
  have : (lowTo a.length (a ++ x :: b))[a.length]? = some x := by rw [lowTo_cut, List.getElem?_append_right (by simp)]; simp
  rw [List.getElem?_eq_getElem h'] at this
  exact Option.some.inj this
theorem lowTo_set {k : Nat} {s : Bytes} (h : k < s.length) : (lowTo k s).set k (lowerC s[k]) = lowTo (k + 1) s := by
  obtain ⟨a, b, hs, rfl⟩ := cut_at h
  generalize s[a.length] = x at hs ⊢
  subst hs
  rw [lowTo_cut, lowTo_cut1, List.set_append_right _ _ (by simp)]
  simp
theorem lowTo_next {k : Nat} {s : Bytes} (h : k < s.length) (hn : lowerC s[k] = s[k]) : lowTo k s = lowTo (k + 1) s := by
  obtain ⟨a, b, hs, rfl⟩ := cut_at h
  generalize s[a.length] = x at hs hn
  subst hs
  rw [lowTo_cut, lowTo_cut1, hn]
theorem lowTo_all (s : Bytes) : lowTo s.length s = lower s := by unfold lowTo lower; simp
theorem lowTo_zero (s : Bytes) : lowTo 0 s = s := by unfold lowTo; simp
def digitsOk (s : Bytes) : Bool := !s.isEmpty && s.all isDigit
def numStrict (m : Nat) (s : Bytes) : Nat × Int := if digitsOk s = true ∧ 1 < s.length ∧ s.head? = some 48 then (0, 6) else numParse isDigit 10 m s
theorem numParse_err_dig (m : Nat) (s : Bytes) : ((numParse isDigit 10 m s).2 = 0 ∨ (numParse isDigit 10 m s).2 = 4) ↔ digitsOk s = true := by
  have key : ∀ (l : Bytes) n, (numGo 10 m n l).2 = 0 ∨ (numGo 10 m n l).2 = 4 := by
    intro l
    induction l with
    | nil => intro n; exact .inl rfl
    | cons c l ih =>
      intro n
      rw [numGo]
      split
      · exact .inr rfl
      · exact ih _
  unfold numParse digitsOk
  cases h1 : s.isEmpty
  · cases h2 : s.all isDigit
    · simp
    · simp only [Bool.false_eq_true, if_false, if_true]
      simp [key]
  · simp
theorem numStrict_le (m : Nat) (s : Bytes) : (numStrict m s).1 ≤ m := by
  unfold numStrict
  split
  · exact Nat.zero_le _
  · exact numParse_le _ _ _ _
def dig (d : Nat) : UInt8 := (48 + d).toUInt8
def decS (n : Nat) : Bytes := if _h : n < 10 then [dig n] else decS (n / 10) ++ [dig (n % 10)]
termination_by n
decreasing_by omega
theorem decS_small {n : Nat} (h : n < 10) : decS n = [dig n] := by rw [decS, dif_pos h]
theorem decS_big {n : Nat} (h : ¬ n < 10) : decS n = decS (n / 10) ++ [dig (n % 10)] := by rw [decS, dif_neg h]
theorem below_all {w a b : World} (h : Below w.heap.size w a) (k : Below a.heap.size a b) : Below w.heap.size w b := h.trans (k.mono h.size)
theorem decS_length : ∀ (m n : Nat), n < 10 ^ (m + 1) → (decS n).length ≤ m + 1 := by
  intro m
  induction m with
  | zero => intro n h; rw [decS_small (by simpa using h)]; simp
  | succ m ih =>
    intro n h
    by_cases hn : n < 10
    · rw [decS_small hn]; simp
    · rw [decS_big hn]
      have := ih (n / 10) (by rw [Nat.pow_succ] at h; omega)
      simp; omega
theorem decS_pos (n : Nat) : 0 < (decS n).length := by
  by_cases hn : n < 10
  · rw [decS_small hn]; simp
  · rw [decS_big hn]; simp
theorem decS_big_length {n : Nat} (h : ¬ n < 10) : (decS n).length = (decS (n / 10)).length + 1 := by rw [decS_big h]; simp
end Wf
/- A calculus of conditions: values, states, conditions, and the soundness of its operations. -/
set_option linter.all false
namespace Wf
theorem toNat_succ (n : Nat) : ((n : Int) + 1).toNat = n + 1 := by omega
theorem toNat_add2 (n : Nat) : ((n : Int) + 2).toNat = n + 2 := by omega
theorem toNat_add3 (n : Nat) : ((n : Int) + 3).toNat = n + 3 := by omega
end Wf
namespace Vc
open Go Go.RowKit Wf

inductive SV where
  | bool (b : Bool)
  | int (k : IntKind) (n : Int)
  | str (l : List UInt8)
  | p (i off : Nat)
  | o (i n : Nat)
  | nils
  | agg (l : List SV)
  | tup (l : List SV)
  | fn (f : Fn) (caps : List SV)
  | mv (f : FuncId) (first : List SV)
  | v (x : Value)

structure Bt where
  blk : Nat
  off : Nat
  cap : Nat
def bt0 : Nat → Bt := fun _ => ⟨0, 0, 0⟩
def oV (b : Bt) (n : Nat) : Value := if b.cap = 0 then .slice none n 0 else .slice (some ⟨b.blk, b.off, none⟩) n (b.cap - 1)
mutual
def conc (β : Nat → Bt) : SV → Value
  | .bool b => .bool b
  | .int k n => .int k n
  | .str l => .string ⟨List.toArray l⟩
  | .p i off => .pointer (some ⟨(β i).blk, (β i).off + off, none⟩)
  | .o i n => oV (β i) n
  | .nils => .slice none 0 0
  | .agg l => .agg (concL β l).toArray
  | .tup l => .tuple (concL β l).toArray
  | .fn f l => .func f #[] (concL β l).toArray
  | .mv f l => .func (.func f) (concL β l).toArray #[]
  | .v x => x
def concL (β : Nat → Bt) : List SV → List Value
  | [] => []
  | x :: r => conc β x :: concL β r
end
theorem concL_map (β : Nat → Bt) (l : List SV) : concL β l = l.map (conc β) := by
  induction l with
  | nil => rfl
  | cons x r ih => rw [concL, ih]; rfl

def ofV : Value → SV
  | .bool b => .bool b
  | .int k n => .int k n
  | .string b => .str b.data.toList
  | .slice none 0 0 => .nils
  | .func f ⟨[]⟩ ⟨[]⟩ => .fn f []
  | x => .v x
theorem conc_ofV (β : Nat → Bt) (x : Value) : conc β (ofV x) = x := by
  unfold ofV
  split <;> simp [conc, concL]

inductive Kd where
  | int (k : IntKind) | bool | str | slice (e : TypeId) | ptr (e : TypeId) | struct (fs : List (Nat × TypeId)) | arr (n : Nat) (e : TypeId) | other
structure TI where
  size : Nat
  bytes : Nat
  agg : Bool
  zero : List SV
  kind : Kd
  cmp : Bool
def undSays : Kd → TypeDesc → Prop
  | .int k, d => d = .int k
  | .bool, d => d = .bool
  | .str, d => d = .string
  | .slice e, d => d = .slice e
  | .ptr e, d => d = .pointer e
  | .struct fs, d => ∃ F : Array Field, d = .struct F ∧ F.toList.map (fun f => (f.offset, f.type)) = fs
  | .arr n e, d => d = .array n e
  | .other, _ => True
structure TyOK (P : Program) (T : TypeId) (t : TI) : Prop where
  size : ∀ w, (Go.sizeOf T).run P w = Result.ok t.size w
  agg : ∀ w, (isAgg T).run P w = Result.ok t.agg w
  zero : ∀ w, ∃ z : Value, (zeroValue T).run P w = Result.ok z w ∧ z.cells = (t.zero.map (conc bt0)).toArray
  flat : ∀ β, t.zero.map (conc β) = t.zero.map (conc bt0)
  len : t.zero.length = t.size
  und : ∃ d, P.underlying T = some d ∧ undSays t.kind d
  flds : ∀ fs, t.kind = .struct fs → ∀ f ∈ fs, ∃ n, ∀ w, (Go.sizeOf f.2).run P w = Result.ok n w
  cmp : t.cmp = true → P.stoodInHeld T = false ∧ P.eqGuardType P.depth T = false ∧ (P.fieldsOf T).all (fun f => f.name != "_") = true
  info : ∃ i z, P.info? T = some i ∧ i.zero = some z ∧ i.size = t.size ∧ i.bytes = t.bytes ∧ z.cells = (t.zero.map (conc bt0)).toArray
def GOK (P : Program) (Γ : TypeId → Option TI) : Prop := ∀ T t, Γ T = some t → TyOK P T t

def lk (d : Nat) : List (Nat × SV) → Option SV
  | [] => none
  | (e, x) :: r => if d = e then some x else lk d r
def ev (t : List (Nat × SV)) : Operand → Option SV
  | .tmp d => lk d t
  | .const v => some (ofV v)
  | .global g => some (.v (.pointer (some ⟨g, 0, none⟩)))
  | .func f => some (.fn (.func f) [])
structure FrOK (β : Nat → Bt) (n : Nat) (t : List (Nat × SV)) (a : Act) : Prop where
  size : a.tmps.size = n
  defers : a.defers = []
  get : ∀ d x, lk d t = some x → a.tmps.getD d undef = conc β x
theorem FrOK.ev {β : Nat → Bt} {n : Nat} {t : List (Nat × SV)} {a : Act} (h : FrOK β n t a) {o : Operand} {x : SV} (e : ev t o = some x) : a.eval o = conc β x := by
  cases o with
  | tmp d => exact h.get d x e
  | const v => simp [Vc.ev] at e; subst e; exact (conc_ofV β v).symm
  | global g => simp [Vc.ev] at e; subst e; rfl
  | func f => simp [Vc.ev] at e; subst e; simp [Act.eval, conc, concL]
theorem FrOK.put {β : Nat → Bt} {n : Nat} {t : List (Nat × SV)} {a : Act} (h : FrOK β n t a) {d : Nat} (hd : d < n) (x : SV) : FrOK β n ((d, x) :: t) (a.put (some d) (conc β x)) := by
  refine ⟨by simp [Act.put, h.size], h.defers, fun e y hy => ?_⟩
  simp only [lk] at hy
  simp only [Act.put]
  split at hy
  · rename_i he
    subst he
    cases hy
    simp [h.size, hd]
  · rename_i he
    rw [Array.getD_eq_getD_getElem?, Array.getElem?_setIfInBounds_ne (fun q => he q.symm), ← Array.getD_eq_getD_getElem?]
    exact h.get e y hy
def put (dst : Option Tmp) (x : SV) (t : List (Nat × SV)) : List (Nat × SV) := match dst with
  | some d => (d, x) :: t
  | none => t
def fits (n : Nat) : Option Tmp → Bool
  | some d => decide (d < n)
  | none => true
theorem FrOK.put' {β : Nat → Bt} {n : Nat} {t : List (Nat × SV)} {a : Act} (h : FrOK β n t a) {dst : Option Tmp} (hd : fits n dst = true) (x : SV) : FrOK β n (Vc.put dst x t) (a.put dst (conc β x)) := by
  cases dst with
  | none => exact ⟨h.size, h.defers, h.get⟩
  | some d => exact h.put (by simpa [fits] using hd) x

def cells : SV → List SV
  | .agg l => l
  | x => [x]
theorem oV_cells (b : Bt) (n : Nat) : (oV b n).cells = #[oV b n] := by
  unfold oV; by_cases h : b.cap = 0 <;> simp [h, Value.cells]
theorem conc_cells (β : Nat → Bt) (x : SV) (hx : ∀ y, x ≠ .v y) : (conc β x).cells = ((cells x).map (conc β)).toArray := by
  cases x
  case o i n => simpa [conc, cells] using oV_cells (β i) n
  all_goals simp [conc, cells, Value.cells, concL_map]
  exact absurd rfl (hx _)
def isV : SV → Bool
  | .v _ => true
  | _ => false
theorem conc_cells' (β : Nat → Bt) (x : SV) (hx : isV x = false) : (conc β x).cells = ((cells x).map (conc β)).toArray :=
  conc_cells β x (by rintro y rfl; cases hx)
def XM (agg : Bool) (off size : Nat) (l : List SV) : Option SV :=
  if agg then some (.agg ((l.drop off).take size)) else l[off]?
def intB (k : IntKind) (n : Int) : Prop := match k with
  | .i64 => -9223372036854775808 ≤ n ∧ n ≤ 9223372036854775807
  | _ => False
def ar (k : IntKind) (n : Int) : Prop × SV := match k with
  | .i64 => (-9223372036854775808 ≤ n ∧ n ≤ 9223372036854775807, .int .i64 n)
  | k => (True, .int k (k.wrap n))
theorem ar_ok (k : IntKind) (n : Int) (β : Nat → Bt) (h : (ar k n).1) : conc β (ar k n).2 = .int k (k.wrap n) := by
  unfold ar at h ⊢
  split
  · simp only at h
    simp only [conc, IntKind.wrap, IntKind.signed, IntKind.bits]
    simp
    omega
  · rfl
def shI (op : BinOp) (k : IntKind) (x y : Int) : Int := match op with
  | .shl => k.wrap (x * 2 ^ (min y.toNat k.bits))
  | _ => x.fdiv (2 ^ (min y.toNat k.bits))
def divI (op : BinOp) (k : IntKind) (x y : Int) : Int := match op with
  | .quo => k.wrap (x.tdiv y)
  | _ => x.tmod y
def bitI (op : BinOp) (k : IntKind) (x y : Int) : Int := match op with
  | .and => k.wrap (BitVec.ofInt k.bits x &&& BitVec.ofInt k.bits y).toNat
  | .or => k.wrap (BitVec.ofInt k.bits x ||| BitVec.ofInt k.bits y).toNat
  | .xor => k.wrap (BitVec.ofInt k.bits x ^^^ BitVec.ofInt k.bits y).toNat
  | _ => k.wrap (BitVec.ofInt k.bits x &&& ~~~BitVec.ofInt k.bits y).toNat
def ifK (k k' : IntKind) (r : Prop × SV) : Option (Prop × SV) := if k = k' then some r else none
def binI (op : BinOp) (k k' : IntKind) (a b : Int) : Option (Prop × SV) := match op with
  | .shl => some (0 ≤ b, .int k (shI .shl k a b))
  | .shr => some (0 ≤ b, .int k (shI .shr k a b))
  | .add => ifK k k' (ar k (a + b))
  | .sub => ifK k k' (ar k (a - b))
  | .mul => ifK k k' (ar k (a * b))
  | .quo => ifK k k' (b ≠ 0, .int k (divI .quo k a b))
  | .rem => ifK k k' (b ≠ 0, .int k (divI .rem k a b))
  | .and => ifK k k' (True, .int k (bitI .and k a b))
  | .or => ifK k k' (True, .int k (bitI .or k a b))
  | .xor => ifK k k' (True, .int k (bitI .xor k a b))
  | .andNot => ifK k k' (True, .int k (bitI .andNot k a b))
  | .eql => ifK k k' (True, .bool (a == b))
  | .neq => ifK k k' (True, .bool (a != b))
  | .lss => ifK k k' (True, .bool (decide (a < b)))
  | .leq => ifK k k' (True, .bool (decide (a ≤ b)))
  | .gtr => ifK k k' (True, .bool (decide (b < a)))
  | .geq => ifK k k' (True, .bool (decide (b ≤ a)))
def binS (op : BinOp) (a b : List UInt8) : Option (Prop × SV) := match op with
  | .add => some (a.length + b.length ≤ 9223372036854775807, .str (a ++ b))
  | .eql => some (True, .bool (a == b))
  | .neq => some (True, .bool (a != b))
  | .lss => some (True, .bool (Op.bytesLess a b))
  | .leq => some (True, .bool (Op.bytesLess a b || a == b))
  | .gtr => some (True, .bool (!(Op.bytesLess a b || a == b)))
  | .geq => some (True, .bool (!Op.bytesLess a b))
  | _ => none
def bin (op : BinOp) : SV → SV → Option (Prop × SV)
  | .int k a, .int k' b => binI op k k' a b
  | .str a, .str b => binS op a b
  | _, _ => none
def eqK (Γ : TypeId → Option TI) (rc : TypeId → SV → SV → Option Bool) (cmp : Bool) : Kd → SV → SV → Option Bool
  | .int _, .int k a, .int k' b => if k = k' then some (a == b) else none
  | .bool, .bool a, .bool b => some (a == b)
  | .str, .str a, .str b => some (a == b)
  | .struct fs, .agg l, .agg l' => if cmp then eqF Γ rc l l' fs else none
  | _, _, _ => none
where eqF (Γ : TypeId → Option TI) (rc : TypeId → SV → SV → Option Bool) (l l' : List SV) : List (Nat × TypeId) → Option Bool
  | [] => some true
  | (off, ft) :: r => match Γ ft with
    | some ti => match XM ti.agg off ti.size l with
      | some x => match XM ti.agg off ti.size l' with
        | some y => match rc ft x y with
          | some p => match eqF Γ rc l l' r with
            | some q => some (p && q)
            | none => none
          | none => none
        | none => none
      | none => none
    | none => none
def eqS (Γ : TypeId → Option TI) : Nat → TypeId → SV → SV → Option Bool
  | 0, _, _, _ => none
  | d + 1, T, x, y => match Γ T with
    | some ti => eqK Γ (eqS Γ d) ti.cmp ti.kind x y
    | none => none
def negB (op : BinOp) (b : Bool) : Option SV := match op with
  | .eql => some (.bool b)
  | .neq => some (.bool (!b))
  | _ => none
def eqB (Γ : TypeId → Option TI) (T : TypeId) (xType : Kd) (op : BinOp) : SV → SV → Option SV
  | .bool a, .bool b => match xType with
    | .bool => match op with
      | .eql => some (.bool (a == b))
      | .neq => some (.bool (a != b))
      | _ => none
    | _ => none
  | .agg l, .agg l' => match eqS Γ 4 T (.agg l) (.agg l') with
    | some b => negB op b
    | none => none
  | .nils, .nils => match xType with
    | .slice _ => negB op true
    | _ => none
  | _, _ => none
def bnds (len : Nat) (lo hi : Option SV) : Option (Prop × Nat × Nat) :=
  match hi, lo with
  | none, none => some (True, 0, len)
  | none, some (.int _ l) => some (0 ≤ l ∧ l ≤ len, l.toNat, len)
  | some (.int _ h), none => some (0 ≤ h ∧ h ≤ len, 0, h.toNat)
  | some (.int _ h), some (.int _ l) => some (0 ≤ l ∧ l ≤ h ∧ h ≤ len, l.toNat, h.toNat)
  | _, _ => none
def optE (t : List (Nat × SV)) : Option Operand → Option (Option SV)
  | none => some none
  | some o => (ev t o).map some
def kd (Γ : TypeId → Option TI) (T : TypeId) : Option Kd := (Γ T).map TI.kind
def sz (Γ : TypeId → Option TI) (T : TypeId) : Option Nat := (Γ T).map TI.size
def XX (t : List (Nat × SV)) (x : Operand) : Option (Prop × SV) := (ev t x).map fun x => (True, x)
def XJ : SV → Option SV → Option SV → Option SV
  | .bool c, some (.bool x), some (.bool y) => some (.bool (if c then x else y))
  | .bool true, some x, _ => some x
  | .bool false, _, some y => some y
  | _, _, _ => none
def Ya (t : List (Nat × SV)) (c a b : Operand) : Option (Prop × SV) := match ev t c with
  | some c => (XJ c (ev t a) (ev t b)).map fun x => (True, x)
  | none => none
def Xb (Γ : TypeId → Option TI) (t : List (Nat × SV)) (S : TypeId) (x : Operand) (f : Nat) : Option (Prop × SV) := match kd Γ S with
  | some (.struct fs) => match ev t x with
    | some (.p i off) => match fs[f]? with
      | some (o, ft) => match sz Γ ft with
        | some (_ + 1) => some (True, .p i (off + o))
        | _ => none
      | none => none
    | _ => none
  | _ => none
def Xu (Γ : TypeId → Option TI) (t : List (Nat × SV)) (S : TypeId) (x : Operand) (f : Nat) : Option (Prop × SV) := match kd Γ S with
  | some (.struct fs) => match ev t x with
    | some (.agg l) => match fs[f]? with
      | some (o, ft) => match Γ ft with
        | some ti => (XM ti.agg o ti.size l).map fun x => (True, x)
        | none => none
      | none => none
    | _ => none
  | _ => none
def oBin (Γ : TypeId → Option TI) (t : List (Nat × SV)) (op : BinOp) (T : TypeId) (x y : Operand) : Option (Prop × SV) := match ev t x with
  | some x => match ev t y with
    | some y => match bin op x y with
      | some r => some r
      | none => match kd Γ T with
        | some k => (eqB Γ T k op x y).map fun x => (True, x)
        | none => none
    | none => none
  | none => none
def oUn (t : List (Nat × SV)) (op : UnOp) (x : Operand) : Option (Prop × SV) := match op with
  | .not => match ev t x with
    | some (.bool b) => some (True, .bool (!b))
    | _ => none
  | _ => none
def XW : Kd → SV → Option SV
  | .int k, .int _ n => some (.int k (k.wrap n))
  | .str, .str l => some (.str l)
  | _, _ => none
def Ye (Γ : TypeId → Option TI) (t : List (Nat × SV)) (src dst : TypeId) (x : Operand) : Option (Prop × SV) := match kd Γ src with
  | some _ => match kd Γ dst with
    | some k => match ev t x with
      | some x => (XW k x).map fun x => (True, x)
      | none => none
    | none => none
  | none => none
def Xw (Γ : TypeId → Option TI) (t : List (Nat × SV)) (T : TypeId) (x : Operand) (lo hi : Option Operand) : Option (Prop × SV) := match kd Γ T with
  | some .str => match ev t x with
    | some (.str l) => match optE t lo with
      | some lo => match optE t hi with
        | some hi => (bnds l.length lo hi).map fun r => (r.1, .str ((l.take r.2.2).drop r.2.1))
        | none => none
      | none => none
    | _ => none
  | _ => none
def Xx (Γ : TypeId → Option TI) (t : List (Nat × SV)) (T : TypeId) (x i : Operand) : Option (Prop × SV) := match kd Γ T with
  | some .str => match ev t x with
    | some (.str l) => match ev t i with
      | some (.int _ n) => some (0 ≤ n ∧ n < l.length, .int .u8 (l.getD n.toNat 0).toNat)
      | _ => none
    | _ => none
  | _ => none
def Xh (t : List (Nat × SV)) (x : Operand) (i : Nat) : Option (Prop × SV) := match ev t x with
  | some (.tup l) => (l[i]?).map fun x => (True, x)
  | _ => none
def lenS : Kd → SV → Option SV
  | .str, .str l => some (.int .i64 l.length)
  | .slice _, .o _ n => some (.int .i64 n)
  | .slice _, .nils => some (.int .i64 0)
  | _, _ => none
def oLen (Γ : TypeId → Option TI) (t : List (Nat × SV)) (args : List Operand) (ts : List TypeId) : Option (Prop × SV) := match args with
  | [x] => match ts with
    | [T] => match kd Γ T with
      | some k => match ev t x with
        | some x => (lenS k x).map fun x => (True, x)
        | none => none
      | none => none
    | _ => none
  | _ => none
def evs (t : List (Nat × SV)) (l : List Operand) : Option (List SV) := l.mapM (ev t)
def Yf : Option SV → Option (List SV) → Option (List SV)
  | some x, some l => some (x :: l)
  | _, _ => none
theorem Xp (t : List (Nat × SV)) : evs t [] = some [] := rfl
theorem Xi (t : List (Nat × SV)) (o : Operand) (r : List Operand) : evs t (o :: r) = Yf (ev t o) (evs t r) := by
  unfold evs
  rw [List.mapM_cons]
  cases ev t o with
  | none => rfl
  | some x => cases List.mapM (ev t) r <;> rfl
def Yh (t : List (Nat × SV)) (f : Fn) (first caps : List Operand) : Option (Prop × SV) := match first with
  | [] => match evs t caps with
    | some l => some (True, .fn f l)
    | none => none
  | _ :: _ => match caps with
    | [] => match f with
      | .func g => match evs t first with
        | some l => some (True, .mv g l)
        | none => none
      | _ => none
    | _ => none
def Xs (c : List SV) (off : Nat) (x : List SV) : List SV := c.take off ++ x ++ c.drop (off + x.length)
def Xl (t : List (Nat × SV)) : List (Nat × Operand) → Option (List (Nat × SV))
  | [] => some []
  | (i, o) :: r => match ev t o with
    | some x => match Xl t r with
      | some l => some ((i, x) :: l)
      | none => none
    | none => none
def XY (s : Nat) : List (Nat × SV) → List SV → Option (List SV)
  | [], c => some c
  | (i, x) :: r, c => if isV x = false ∧ (cells x).length = s ∧ i * s + s ≤ c.length then XY s r (Xs c (i * s) (cells x)) else none
def Xk (Γ : TypeId → Option TI) (t : List (Nat × SV)) (T : TypeId) (ps : List (Nat × Operand)) : Option (Prop × SV) := match Γ T with
  | some ti => match ti.kind with
    | .arr _ e => match sz Γ e with
      | some s => match Xl t ps with
        | some l => match XY s l ti.zero with
          | some c => some (True, .agg c)
          | none => none
        | none => none
      | none => none
    | _ => none
  | none => none
def XS (Γ : TypeId → Option TI) (t : List (Nat × SV)) (T : TypeId) (x i : Operand) : Option (Prop × SV) := match kd Γ T with
  | some (.arr n e) => match sz Γ e with
    | some s => match ev t x with
      | some (.p b off) => match ev t i with
        | some (.int _ k) => some (0 < s ∧ 0 ≤ k ∧ k < n, .p b (off + k.toNat * s))
        | _ => none
      | _ => none
    | none => none
  | _ => none
def pv (Γ : TypeId → Option TI) (t : List (Nat × SV)) : Op → Option (Prop × SV)
  | .move x => XX t x
  | .assign x => XX t x
  | .pick c a b => Ya t c a b
  | .fieldAddr S x f => Xb Γ t S x f
  | .field S x f => Xu Γ t S x f
  | .binOp op T x y _ => oBin Γ t op T x y
  | .unOp op _ x => oUn t op x
  | .convert src dst x => Ye Γ t src dst x
  | .slice T x lo hi none => Xw Γ t T x lo hi
  | .index T x i => Xx Γ t T x i
  | .extract x i => Xh t x i
  | .call ⟨.builtin .len, args, ts⟩ => oLen Γ t args.toList ts.toList
  | .makeFunc f first caps => Yh t f first.toList caps.toList
  | .build T ps => Xk Γ t T ps.toList
  | .indexAddr T x i => XS Γ t T x i
  | _ => none

section
variable {P : Program} {Γ : TypeId → Option TI}
theorem kd_some (h : GOK P Γ) {T : TypeId} {k : Kd} (e : kd Γ T = some k) : ∃ d, P.underlying T = some d ∧ undSays k d := by
  unfold kd at e
  cases ht : Γ T with
  | none => simp [ht] at e
  | some ti => simp [ht] at e; subst e; exact (h T ti ht).und
theorem run_underlying {T : TypeId} {d : TypeDesc} (e : P.underlying T = some d) (w : World) : (underlying T).run P w = Result.ok d w := by
  show Sem.run P (match P.underlying T with | some d => pure d | none => stuck "no such type") w = _
  rw [e]; rfl
theorem ifK_ok {k k' : IntKind} {r : Prop × SV} {c : Prop} {x : SV} (h : ifK k k' r = some (c, x)) : k' = k ∧ r = (c, x) := by
  unfold ifK at h
  split at h
  · rename_i e; exact ⟨e.symm, by simpa using h⟩
  · cases h
theorem bin_ok {op : BinOp} {x y r : SV} {c : Prop} {T : TypeId} {β : Nat → Bt} (h : bin op x y = some (c, r)) (hc : c) (w : World) :
    (binOp op T (conc β x) (conc β y)).run P w = Result.ok (conc β r) w := by
  unfold bin at h
  split at h
  · rename_i k a k' b
    unfold binI at h
    split at h
    case h_1 =>
      obtain ⟨rfl, rfl⟩ := Prod.mk.inj (Option.some.inj h)
      simp [conc, binOp, Op.shift, shI, go_sem]; omega
    case h_2 =>
      obtain ⟨rfl, rfl⟩ := Prod.mk.inj (Option.some.inj h)
      simp [conc, binOp, Op.shift, shI, go_sem]; omega
    all_goals obtain ⟨rfl, hq⟩ := ifK_ok h
    case h_3 => have := ar_ok k' (a + b) β (by rw [hq]; exact hc); rw [hq] at this; rw [this]; simp [conc, binOp, Op.intArith, go_sem]
    case h_4 => have := ar_ok k' (a - b) β (by rw [hq]; exact hc); rw [hq] at this; rw [this]; simp [conc, binOp, Op.intArith, go_sem]
    case h_5 => have := ar_ok k' (a * b) β (by rw [hq]; exact hc); rw [hq] at this; rw [this]; simp [conc, binOp, Op.intArith, go_sem]
    case h_6 =>
      obtain ⟨rfl, rfl⟩ := Prod.mk.inj hq
      simp [conc, binOp, Op.intDiv, divI, hc, go_sem]
    case h_7 =>
      obtain ⟨rfl, rfl⟩ := Prod.mk.inj hq
      simp [conc, binOp, Op.intDiv, divI, hc, go_sem]
    case h_8 => obtain ⟨-, rfl⟩ := Prod.mk.inj hq; simp [conc, binOp, Op.intBits, bitI, go_sem]
    case h_9 => obtain ⟨-, rfl⟩ := Prod.mk.inj hq; simp [conc, binOp, Op.intBits, bitI, go_sem]
    case h_10 => obtain ⟨-, rfl⟩ := Prod.mk.inj hq; simp [conc, binOp, Op.intBits, bitI, go_sem]
    case h_11 => obtain ⟨-, rfl⟩ := Prod.mk.inj hq; simp [conc, binOp, Op.intBits, bitI, go_sem]
    all_goals
      obtain ⟨-, rfl⟩ := Prod.mk.inj hq
      simp [conc, binOp, Op.intCmp, go_sem]
  · rename_i a b
    unfold binS at h
    split at h <;> simp only [Option.some.injEq, reduceCtorEq] at h
    · obtain ⟨rfl, rfl⟩ := Prod.mk.inj h
      have hle : (a.length : Int) + b.length ≤ 9223372036854775807 := by omega
      simp [conc, binOp, Op.stringOp, go_sem, app_list]
      exact hle
    all_goals
      obtain ⟨-, rfl⟩ := Prod.mk.inj h
      simp [conc, binOp, Op.stringOp, go_sem, bne]
  · cases h
theorem bnds_ok {len : Nat} {lo hi : Option SV} {c : Prop} {f u : Nat} {β : Nat → Bt} (h : bnds len lo hi = some (c, f, u)) (hc : c) (b : Bool) (w : World) :
    (Instr.sliceBounds b len len (lo.map (conc β)) (hi.map (conc β)) none).run P w = Result.ok (f, u, len) w := by
  unfold bnds at h
  split at h <;> simp only [Option.some.injEq, Prod.mk.injEq, reduceCtorEq] at h
  all_goals
    obtain ⟨rfl, rfl, rfl⟩ := h
    simp [conc, Instr.sliceBounds, Instr.sliceBound, asIntOf, go_sem]
    try omega
  rw [if_pos (by omega), if_pos (by omega)]
theorem opt_map {t : List (Nat × SV)} {β : Nat → Bt} {n : Nat} {a : Act} (hf : FrOK β n t a) {o : Option Operand} {x : Option SV} (h : optE t o = some x) : o.map a.eval = x.map (conc β) := by
  cases o with
  | none => simp [optE] at h; subst h; rfl
  | some o =>
    simp only [optE, Option.map_eq_some_iff] at h
    obtain ⟨y, hy, rfl⟩ := h
    simp [hf.ev hy]
theorem mapM_ev {t : List (Nat × SV)} {β : Nat → Bt} {n : Nat} {a : Act} (hf : FrOK β n t a) : ∀ {os : List Operand} {l : List SV}, os.mapM (ev t) = some l → os.map a.eval = l.map (conc β)
  | [], l, h => by simp at h; subst h; rfl
  | o :: os, l, h => by
    simp only [List.mapM_cons, Option.bind_eq_bind, Option.bind_eq_some_iff] at h
    obtain ⟨x, hx, r, hr, he⟩ := h
    simp at he
    subst he
    simp [hf.ev hx, mapM_ev hf hr]
theorem part_ok (hΓ : GOK P Γ) {T : TypeId} {ti : TI} (ht : Γ T = some ti) {β : Nat → Bt} {off : Nat} {l : List SV} {x : SV} (h : XM ti.agg off ti.size l = some x) (w : World) :
    (part T (l.map (conc β)).toArray off).run P w = Result.ok (conc β x) w := by
  have ha := (hΓ T ti ht).agg w
  have hz := (hΓ T ti ht).size w
  unfold XM at h
  cases hg : ti.agg
  · rw [hg] at h ha
    simp only [Bool.false_eq_true, if_false] at h
    simp [part, ha, go_sem, h]
  · rw [hg] at h ha
    simp only [if_true, Option.some.injEq] at h
    subst h
    simp [part, ha, hz, go_sem, conc, concL_map]

theorem fields_of {T : TypeId} {F : Array Field} (h : P.underlying T = some (.struct F)) : P.fieldsOf T = F := by
  unfold Program.fieldsOf; rw [h]
theorem eqF_ok (hΓ : GOK P Γ) {rc : TypeId → SV → SV → Option Bool} {β : Nat → Bt} {m : Nat} (w : World)
    (hrc : ∀ T x y b, rc T x y = some b → (Op.equalIn m T (conc β x) (conc β y)).run P w = Result.ok b w) (l l' : List SV) : ∀ (F : List Field) (b : Bool), (∀ f ∈ F, f.name ≠ "_") → eqK.eqF Γ rc l l' (F.map fun f => (f.offset, f.type)) = some b →
      (Op.eqFields m (concL β l).toArray (concL β l').toArray F).run P w = Result.ok b w
  | [], b, _, h => by simp only [List.map_nil, eqK.eqF, Option.some.injEq] at h; subst h; rfl
  | f :: F, b, hn, h => by
    simp only [List.map_cons, eqK.eqF] at h
    split at h
    · rename_i ti hti
      split at h
      · rename_i x hx
        split at h
        · rename_i y hy
          split at h
          · rename_i p hp
            split at h
            · rename_i q hq
              simp only [Option.some.injEq] at h
              subst h
              have px := part_ok (P := P) hΓ hti (β := β) hx w
              have py := part_ok (P := P) hΓ hti (β := β) hy w
              have pe := hrc _ _ _ _ hp
              have ih := eqF_ok hΓ w hrc l l' F q (fun f hf => hn f (List.mem_cons_of_mem _ hf)) hq
              rw [← concL_map] at px py
              simp only [Op.eqFields, if_pos (hn f List.mem_cons_self), Sem.run_bind, px, py, pe, Result.andThen_ok]
              cases p
              · simp
              · simpa using ih
            · cases h
          · cases h
        · cases h
      · cases h
    · cases h
theorem eqS_ok (hΓ : GOK P Γ) {β : Nat → Bt} (w : World) : ∀ (d : Nat) (T : TypeId) (x y : SV) (b : Bool), eqS Γ d T x y = some b → ∀ m, d ≤ m → (Op.equalIn m T (conc β x) (conc β y)).run P w = Result.ok b w
  | 0, _, _, _, _, h, _, _ => by cases h
  | d + 1, T, x, y, b, h, m, hm => by
    obtain ⟨m, rfl⟩ : ∃ k, m = k + 1 := ⟨m - 1, by omega⟩
    simp only [eqS] at h
    split at h
    · rename_i ti hti
      have hT := hΓ T ti hti
      obtain ⟨D, hD, hs⟩ := hT.und
      unfold eqK at h
      split at h
      · rename_i e
        rw [e] at hs
        simp only [undSays] at hs
        subst hs
        split at h
        · rename_i hk; subst hk
          simp only [Option.some.injEq] at h; subst h
          simp only [conc]
          exact run_equalIn_int w m T _ _ _ _ hD
        · cases h
      · rename_i e
        rw [e] at hs
        simp only [undSays] at hs
        subst hs
        simp only [Option.some.injEq] at h; subst h
        simp only [conc]
        exact run_equalIn_bool' w m T _ _ hD
      · rename_i e
        rw [e] at hs
        simp only [undSays] at hs
        subst hs
        simp only [Option.some.injEq] at h; subst h
        simp only [conc]
        rw [run_equalIn_string w m T _ _ hD]
        simp
      · rename_i fs l l' e
        rw [e] at hs
        obtain ⟨F, rfl, hF⟩ := hs
        split at h
        · rename_i hcmp
          obtain ⟨h1, h2, h3⟩ := hT.cmp hcmp
          have hfo := fields_of hD
          rw [hfo] at h3
          simp only [conc]
          rw [run_equalIn_agg w m T _ _ (by rw [hfo]; exact hD) h1, hfo]
          subst hF
          refine eqF_ok hΓ w (fun T x y b hb => eqS_ok hΓ w d T x y b hb m (by omega)) l l' F.toList b (fun f hf => ?_) h
          rw [Array.all_eq_true'] at h3
          have := h3 f (by simpa using hf)
          simpa using this
        · cases h
      · cases h
    · cases h
theorem run_equalIn_nils (w : World) (d : Nat) (T e : TypeId) (h : P.underlying T = some (.slice e)) : (Op.equalIn (d + 1) T (.slice none 0 0) (.slice none 0 0)).run P w = Result.ok true w := by
  simp [Op.equalIn, run_underlying h]
theorem negB_run {op : BinOp} {b : Bool} {r : SV} (h : negB op b = some r) : (op = .eql ∧ r = .bool b) ∨ (op = .neq ∧ r = .bool (!b)) := by
  unfold negB at h
  split at h
  · exact .inl ⟨rfl, (Option.some.inj h).symm⟩
  · exact .inr ⟨rfl, (Option.some.inj h).symm⟩
  · cases h
theorem eqB_ok {op : BinOp} {x y r : SV} {k : Kd} (hΓ : GOK P Γ) {T : TypeId} (ht : kd Γ T = some k) {β : Nat → Bt} (h : eqB Γ T k op x y = some r) (w : World) :
    (binOp op T (conc β x) (conc β y)).run P w = Result.ok (conc β r) w := by
  obtain ⟨d, hd, hs⟩ := kd_some hΓ ht
  unfold eqB at h
  split at h
  · split at h
    · rename_i a b _
      have hd' : P.underlying T = some .bool := by rw [hd]; exact congrArg some hs
      split at h <;> simp only [Option.some.injEq, reduceCtorEq] at h
      all_goals
        subst h
        simp only [conc]
        first
        | (show Sem.run P (do pure (Value.bool (← Op.equal T (Value.bool a) (Value.bool b)))) w = _
           simp [run_equal_bool (w := w) T a b hd', Result.andThen])
        | (show Sem.run P (do pure (Value.bool (!(← Op.equal T (Value.bool a) (Value.bool b))))) w = _
           simp [run_equal_bool (w := w) T a b hd', Result.andThen, bne])
    · cases h
  · rename_i l l'
    split at h
    · rename_i b hb
      have he := eqS_ok (P := P) hΓ (β := β) w 4 T _ _ b hb 10000 (by omega)
      simp only [conc] at he ⊢
      rcases negB_run h with ⟨rfl, rfl⟩ | ⟨rfl, rfl⟩
      · rw [run_eql_struct, he]; rfl
      · rw [run_neq_struct, he]; rfl
    · cases h
  · split at h
    · rename_i e
      have hd' : P.underlying T = some (.slice e) := by rw [hd]; exact congrArg some hs
      have he : (Op.equal T (.slice none 0 0) (.slice none 0 0)).run P w = Result.ok true w := by
        exact run_equalIn_nils w 9999 T e hd'
      rcases negB_run h with ⟨rfl, rfl⟩ | ⟨rfl, rfl⟩
      · show Sem.run P (do pure (Value.bool (← Op.equal T (.slice none 0 0) (.slice none 0 0)))) w = _
        rw [Sem.run_bind, he]; rfl
      · show Sem.run P (do pure (Value.bool (!(← Op.equal T (.slice none 0 0) (.slice none 0 0))))) w = _
        rw [Sem.run_bind, he]; rfl
    · cases h
  · cases h
theorem eqB_guard {op : BinOp} {x y r : SV} {k : Kd} (hΓ : GOK P Γ) {T : TypeId} {β : Nat → Bt} (h : eqB Γ T k op x y = some r) (a b : Operand) (w : World) :
    (eqGuard op T a b (conc β x) (conc β y)).run P w = Result.ok () w := by
  unfold eqB at h
  split at h
  · simp only [conc]; unfold eqGuard; split <;> rfl
  · rename_i l l'
    split at h
    · rename_i b' hb
      have hg : P.eqGuardType P.depth T = false := by
        unfold eqS at hb
        split at hb
        · rename_i ti hti
          unfold eqK at hb
          split at hb
          · rename_i e1 e2; cases e2
          · rename_i e1 e2; cases e2
          · rename_i e1 e2; cases e2
          · split at hb
            · rename_i hcmp; exact ((hΓ T ti hti).cmp hcmp).2.1
            · cases hb
          · cases hb
        · cases hb
      simp only [conc]
      exact run_eqGuard_agg w op T a b _ _ hg
    · cases h
  · simp only [conc]; unfold eqGuard; split <;> rfl
  · cases h
theorem moved {x : SV} {y : Option SV} {c : Prop} (h : y.map (fun x => (True, x)) = some (c, x)) : y = some x := by
  cases y with
  | none => simp at h
  | some y => simp only [Option.map_some, Option.some.injEq, Prod.mk.injEq] at h; rw [h.2]
theorem run_val {s : Sem Value} {v : Value} {w w' : World} (h : s.run P w = Result.ok v w') : Sem.run P (do pure (Next.value (← s))) w = Result.ok (.value v) w' := by
  simp [h, Result.andThen, go_sem]
theorem pick_ok {c : SV} {a b : Option SV} {x : SV} {va vb : Value} {β : Nat → Bt} (h : XJ c a b = some x) (ha : ∀ y, a = some y → va = conc β y) (hb : ∀ y, b = some y → vb = conc β y) (w : World) :
    Sem.run P (do pure (if ← asBool (conc β c) then va else vb)) w = Result.ok (conc β x) w := by
  unfold XJ at h
  split at h <;> simp only [Option.some.injEq, reduceCtorEq] at h
  · subst h
    rename_i c' x y
    rw [ha _ rfl, hb _ rfl]
    cases c' <;> simp [conc, asBool, go_sem]
  · subst h
    rename_i y _
    rw [ha _ rfl]
    simp [conc, asBool, go_sem]
  · subst h
    rename_i y _
    rw [hb _ rfl]
    simp [conc, asBool, go_sem]
theorem fieldAddr_ok (hΓ : GOK P Γ) {t : List (Nat × SV)} {β : Nat → Bt} {n : Nat} {a : Act} (hf : FrOK β n t a) {S : TypeId} {x : Operand} {f : Nat} {c : Prop} {r : SV} (h : Xb Γ t S x f = some (c, r)) (w : World) :
    (Instr.fieldAt S (a.eval x) f).run P w = Result.ok (conc β r) w := by
  unfold Xb at h
  split at h
  · rename_i fs hk
    obtain ⟨d, hd, F, rfl, hF⟩ := kd_some hΓ hk
    split at h
    · rename_i i off he
      split at h
      · rename_i o ft hft
        split at h
        · rename_i m hm
          simp only [Option.some.injEq, Prod.mk.injEq] at h
          obtain ⟨-, rfl⟩ := h
          rw [hf.ev he]
          subst hF
          simp only [List.getElem?_map, Option.map_eq_some_iff, Prod.mk.injEq] at hft
          obtain ⟨fl, hfl, rfl, rfl⟩ := hft
          have hfl' : F[f]? = some fl := by simpa using hfl
          unfold sz at hm
          cases hti : Γ fl.type with
          | none => simp [hti] at hm
          | some ti =>
            simp [hti] at hm
            have hs := (hΓ _ _ hti).size w
            rw [hm] at hs
            simp [Instr.fieldAt, run_underlying hd, hfl', conc, Instr.sureAddr, fieldPlace, hs, go_sem, Addr.add]
            split <;> simp <;> omega
        · cases h
      · cases h
    · cases h
  · cases h
theorem field_ok (hΓ : GOK P Γ) {t : List (Nat × SV)} {β : Nat → Bt} {n : Nat} {a : Act} (hf : FrOK β n t a) {S : TypeId} {x : Operand} {f : Nat} {c : Prop} {r : SV} (h : Xu Γ t S x f = some (c, r)) (w : World) :
    (Instr.field S (a.eval x) f).run P w = Result.ok (conc β r) w := by
  unfold Xu at h
  split at h
  · rename_i fs hk
    obtain ⟨d, hd, F, rfl, hF⟩ := kd_some hΓ hk
    split at h
    · rename_i l he
      split at h
      · rename_i o ft hft
        split at h
        · rename_i ti hti
          have h' := moved h
          rw [hf.ev he]
          subst hF
          simp only [List.getElem?_map, Option.map_eq_some_iff, Prod.mk.injEq] at hft
          obtain ⟨fl, hfl, rfl, rfl⟩ := hft
          have hfl' : F[f]? = some fl := by simpa using hfl
          have hp := part_ok hΓ hti (β := β) h' w
          simpa [Instr.field, run_underlying hd, hfl', conc, concL_map, asAgg, go_sem] using hp
        · cases h
      · cases h
    · cases h
  · cases h
theorem conv_ok (hΓ : GOK P Γ) {t : List (Nat × SV)} {β : Nat → Bt} {n : Nat} {a : Act} (hf : FrOK β n t a) {S D : TypeId} {x : Operand} {c : Prop} {r : SV} (h : Ye Γ t S D x = some (c, r)) (w : World) :
    (convert S D (a.eval x)).run P w = Result.ok (conc β r) w := by
  unfold Ye at h
  split at h
  · rename_i k0 hk0
    obtain ⟨d0, hd0, -⟩ := kd_some hΓ hk0
    split at h
    · rename_i k hk
      obtain ⟨d, hd, hs⟩ := kd_some hΓ hk
      split at h
      · rename_i y he
        have h' := moved h
        rw [hf.ev he]
        unfold XW at h'
        split at h' <;> simp only [Option.some.injEq, reduceCtorEq] at h'
        · subst h'
          simp only [undSays] at hs
          subst hs
          simp [convert, run_underlying hd, run_underlying hd0, conc, Conv.intToInt, go_sem]
        · subst h'
          simp only [undSays] at hs
          subst hs
          simp [convert, run_underlying hd, run_underlying hd0, conc, go_sem]
      · cases h
    · cases h
  · cases h
theorem slice_ok (hΓ : GOK P Γ) {t : List (Nat × SV)} {β : Nat → Bt} {n : Nat} {a : Act} (hf : FrOK β n t a) {T : TypeId} {x : Operand} {lo hi : Option Operand} {c : Prop} {r : SV} (h : Xw Γ t T x lo hi = some (c, r)) (hc : c) (w : World) :
    (Instr.sliceAt T (a.eval x) (lo.map a.eval) (hi.map a.eval) none).run P w = Result.ok (conc β r) w := by
  unfold Xw at h
  split at h
  · rename_i hk
    obtain ⟨d, hd, hs⟩ := kd_some hΓ hk
    simp only [undSays] at hs
    subst hs
    split at h
    · rename_i l he
      split at h
      · rename_i lo' hlo
        split at h
        · rename_i hi' hhi
          simp only [Option.map_eq_some_iff, Prod.mk.injEq] at h
          obtain ⟨⟨c', f, u⟩, hb, rfl, rfl⟩ := h
          rw [hf.ev he, opt_map hf hlo, opt_map hf hhi]
          have := bnds_ok (P := P) (β := β) hb hc false w
          simp only [Instr.sliceAt, Sem.run_bind, run_underlying hd, Result.andThen, conc, Instr.slice, Option.isSome_none, Bool.false_eq_true, if_false]
          rw [show (⟨List.toArray l⟩ : ByteArray).size = l.length from rfl, this]
          simp [ex_list]
        · cases h
      · cases h
    · cases h
  · cases h
theorem index_ok (hΓ : GOK P Γ) {t : List (Nat × SV)} {β : Nat → Bt} {n : Nat} {a : Act} (hf : FrOK β n t a) {T : TypeId} {x i : Operand} {c : Prop} {r : SV} (h : Xx Γ t T x i = some (c, r)) (hc : c) (w : World) :
    (Instr.index T (a.eval x) (a.eval i)).run P w = Result.ok (conc β r) w := by
  unfold Xx at h
  split at h
  · rename_i hk
    obtain ⟨d, hd, hs⟩ := kd_some hΓ hk
    simp only [undSays] at hs
    subst hs
    split at h
    · rename_i l he
      split at h
      · rename_i k m hi
        simp only [Option.some.injEq, Prod.mk.injEq] at h
        obtain ⟨rfl, rfl⟩ := h
        rw [hf.ev he, hf.ev hi]
        obtain ⟨h0, h1⟩ := hc
        have h2 : m.toNat < l.length := by omega
        simp only [Instr.index, conc, asIntOf, Sem.run_bind, Sem.run_pure, Result.andThen_ok, run_underlying hd, if_pos h0]
        rw [getElem?_pos (⟨List.toArray l⟩ : ByteArray) m.toNat h2]
        simp [List.getD_eq_getElem?_getD, List.getElem?_eq_getElem h2, get_list]
      · cases h
    · cases h
  · cases h
theorem zip_fold (off : Nat) : ∀ (xs : List Value) (j : Nat) (arr : Array Value), off + j + xs.length ≤ arr.size →
    (xs.zipIdx j).foldl (fun cs (p : Value × Nat) => cs.setIfInBounds (off + p.2) p.1) arr = (arr.toList.take (off + j) ++ xs ++ arr.toList.drop (off + j + xs.length)).toArray
  | [], j, arr, _ => by simp
  | x :: r, j, arr, h => by
    simp only [List.length_cons] at h
    rw [List.zipIdx_cons, List.foldl_cons, zip_fold off r (j + 1) _ (by simp; omega)]
    congr 1
    simp only [Array.toList_setIfInBounds, List.length_cons]
    have hlt : off + j < arr.toList.length := by simp; omega
    rw [show off + (j + 1) = off + j + 1 by omega, show off + j + 1 + r.length = off + j + (r.length + 1) by omega]
    rw [List.take_succ_eq_append_getElem (by simp; omega), List.getElem_set_self, List.take_set_of_le (Nat.le_refl _), List.drop_set_of_lt (by omega)]
    simp
theorem evParts_fr {t : List (Nat × SV)} {β : Nat → Bt} {n : Nat} {a : Act} (hf : FrOK β n t a) : ∀ {ps : List (Nat × Operand)} {l : List (Nat × SV)}, Xl t ps = some l → ps.map (fun p => (p.1, a.eval p.2)) = l.map fun p => (p.1, conc β p.2)
  | [], l, e => by simp [Xl] at e; subst e; rfl
  | (i, o) :: r, l, e => by
    simp only [Xl] at e
    split at e
    · rename_i x hx
      split at e
      · rename_i l' hl
        cases e
        simp [hf.ev hx, evParts_fr hf hl]
      · cases e
    · cases e
theorem fillA_ok (s : Nat) (β : Nat → Bt) : ∀ (ps : List (Nat × SV)) (c c' : List SV), XY s ps c = some c' → Instr.fill (fun i => some (i * s, s)) (c.map (conc β)).toArray (ps.map fun p => (p.1, conc β p.2)) = some (c'.map (conc β)).toArray
  | [], c, c', e => by simp [XY] at e; subst e; rfl
  | (i, x) :: r, c, c', e => by
    simp only [XY] at e
    split at e
    · rename_i hcond
      obtain ⟨hv, hl, ho⟩ := hcond
      have ih := fillA_ok s β r _ c' e
      have hcells := conc_cells' β x hv
      simp only [List.map_cons, Instr.fill, hcells, List.size_toArray, List.length_map]
      rw [if_neg (by simp [hl]; omega)]
      rw [← ih]
      congr 1
      have hz := zip_fold (i * s) ((cells x).map (conc β)) 0 (c.map (conc β)).toArray (by simp; omega)
      rw [← Array.foldl_toList, Array.toList_zipIdx]
      simp only [Nat.add_zero, List.length_map] at hz
      rw [hz]
      simp [Xs, List.map_take, List.map_drop]
    · cases e
theorem sz_some (hΓ : GOK P Γ) {e : TypeId} {s : Nat} (h : sz Γ e = some s) (w : World) : (Go.sizeOf e).run P w = Result.ok s w := by
  unfold sz at h
  cases ht : Γ e with
  | none => simp [ht] at h
  | some ti => simp [ht] at h; rw [← h]; exact (hΓ _ ti ht).size w
theorem buildA_ok (hΓ : GOK P Γ) {t : List (Nat × SV)} {β : Nat → Bt} {n : Nat} {a : Act} (hf : FrOK β n t a) {T : TypeId} {ps : Array (Nat × Operand)} {c : Prop} {r : SV} (h : Xk Γ t T ps.toList = some (c, r)) (w : World) :
    (Instr.build T (ps.map fun p => (p.1, a.eval p.2))).run P w = Result.ok (conc β r) w := by
  unfold Xk at h
  (repeat' split at h) <;> try (cases h; done)
  rename_i ti hti _ m e hk _ s hs _ l hl _ cc hc
  cases h
  have hok := hΓ T ti hti
  obtain ⟨d, hd, hu⟩ := hok.und
  rw [hk] at hu
  simp only [undSays] at hu
  subst hu
  obtain ⟨z, hz, hzc⟩ := hok.zero w
  have hsz := sz_some hΓ hs w
  have hfill := fillA_ok s β l ti.zero cc hc
  rw [← evParts_fr hf hl, hok.flat β, ← hzc] at hfill
  simp only [Instr.build, Sem.run_bind, hz, Result.andThen_ok, run_underlying hd, hsz, Array.toList_map, hfill, conc, concL_map]
  rfl
theorem idxA_ok (hΓ : GOK P Γ) {t : List (Nat × SV)} {β : Nat → Bt} {n : Nat} {a : Act} (hf : FrOK β n t a) {T : TypeId} {x i : Operand} {c : Prop} {r : SV} (h : XS Γ t T x i = some (c, r)) (hc : c) (w : World) :
    (Instr.indexAt T (a.eval x) (a.eval i)).run P w = Result.ok (conc β r) w := by
  unfold XS at h
  (repeat' split at h) <;> try (cases h; done)
  rename_i _ m e hk _ s hs _ b off hx _ k kk hi
  cases h
  obtain ⟨d, hd, hu⟩ := kd_some hΓ hk
  simp only [undSays] at hu
  subst hu
  have hsz := sz_some hΓ hs w
  rw [hf.ev hx, hf.ev hi]
  obtain ⟨h0, h1, h2⟩ := hc
  have : kk.toNat < m := by omega
  simp [Instr.indexAt, asIntOf, run_underlying hd, h1, h2, hsz, conc, Instr.sureAddr, Addr.add, go_sem]
  split <;> simp <;> omega
theorem pv_ok (hΓ : GOK P Γ) {t : List (Nat × SV)} {β : Nat → Bt} {n : Nat} {a : Act} (hf : FrOK β n t a) {o : Oper} {c : Prop} {x : SV} (h : pv Γ t o.op = some (c, x)) (hc : c) (w : World) :
    (execOp a.eval o).run P w = Result.ok (.value (conc β x)) w := by
  obtain ⟨dst, op, ty, pos, after, guard⟩ := o
  simp only at h
  cases op <;> simp only [pv, reduceCtorEq] at h
  case move y => simp only [execOp]; rw [hf.ev (moved h)]; rfl
  case assign y => simp only [execOp]; rw [hf.ev (moved h)]; rfl
  case pick c' y z =>
    unfold Ya at h
    split at h
    · rename_i b hb
      simp only [execOp]
      rw [hf.ev hb]
      have := pick_ok (P := P) (moved h) (va := a.eval y) (vb := a.eval z) (fun _ e => hf.ev e) (fun _ e => hf.ev e) w
      have := run_val this
      simpa using this
    · cases h
  case fieldAddr S y f => exact run_val (fieldAddr_ok hΓ hf h w)
  case field S y f => exact run_val (field_ok hΓ hf h w)
  case convert S D y => exact run_val (conv_ok hΓ hf h w)
  case index T y i => exact run_val (index_ok hΓ hf h hc w)
  case build T ps => exact run_val (buildA_ok hΓ hf h w)
  case indexAddr T y i => exact run_val (idxA_ok hΓ hf h hc w)
  case slice T y lo hi mx =>
    cases mx with
    | none => exact run_val (slice_ok hΓ hf h hc w)
    | some _ => cases h
  case binOp op T y z yt =>
    unfold oBin at h
    split at h
    · rename_i u hu
      split at h
      · rename_i v hv
        have key : ∀ r, (binOp op T (conc β u) (conc β v)).run P w = Result.ok r w → (∀ l, conc β u ≠ .agg l) → conc β u ≠ .nilIface → Sem.run P (do eqGuard op T y z (conc β u) (conc β v); binOp op T (conc β u) (conc β v)) w = Result.ok r w := by
          intro r hr h1 h2
          have hg : (eqGuard op T y z (conc β u) (conc β v)).run P w = Result.ok () w := by
            generalize conc β u = A at h1 h2
            cases A <;> first | exact absurd rfl (h1 _) | exact absurd rfl h2 | (unfold eqGuard; simp; done) | (unfold eqGuard; split <;> rfl)
          rw [Sem.run_bind, hg, Result.andThen_ok, hr]
        simp only [execOp]
        rw [hf.ev hu, hf.ev hv]
        split at h
        · rename_i r hr
          cases h
          refine run_val (key _ (bin_ok hr hc w) ?_ ?_)
          all_goals
            unfold bin at hr
            cases u <;> simp [conc] at hr ⊢
        · split at h
          · rename_i k hk
            have hr := moved h
            refine run_val ?_
            rw [Sem.run_bind, eqB_guard hΓ hr y z w, Result.andThen_ok]
            exact eqB_ok hΓ hk hr w
          · cases h
      · cases h
    · cases h
  case unOp op T y =>
    unfold oUn at h
    split at h
    · split at h
      · rename_i b hb
        cases h
        simp only [execOp]
        rw [hf.ev hb]
        rfl
      · cases h
    · cases h
  case extract y i =>
    unfold Xh at h
    split at h
    · rename_i l hl
      have h' := moved h
      simp only [execOp]
      rw [hf.ev hl]
      refine run_val ?_
      simp [Instr.extract, conc, concL_map, h']
    · cases h
  case makeFunc fn first caps =>
    unfold Yh at h
    split at h
    · rename_i hfst
      split at h
      · rename_i l hl
        cases h
        have hm := mapM_ev hf hl
        simp only [execOp]
        have h0 : first = #[] := by simpa using hfst
        subst h0
        refine run_val ?_
        simp only [Instr.makeFunc, conc, concL_map, ← hm]
        have e : Array.map a.eval caps = (List.map a.eval caps.toList).toArray := Array.ext' (by simp)
        simp [e]
      · cases h
    · split at h
      · rename_i hcaps
        split at h
        · split at h
          · rename_i l hl
            cases h
            have hm := mapM_ev hf hl
            simp only [execOp]
            have h0 : caps = #[] := by simpa using hcaps
            subst h0
            refine run_val ?_
            simp only [Instr.makeFunc, conc, concL_map, ← hm]
            have e : Array.map a.eval first = (List.map a.eval first.toList).toArray := Array.ext' (by simp)
            simp [e]
          · cases h
        · cases h
      · cases h
  case call cl =>
    obtain ⟨callee, args, ts⟩ := cl
    cases callee <;> (try simp only [reduceCtorEq] at h)
    rename_i b
    cases b <;> (try simp only [reduceCtorEq] at h)
    unfold oLen at h
    split at h
    · rename_i y hy
      split at h
      · rename_i T hT
        split at h
        · rename_i k hk
          obtain ⟨d, hd, hs⟩ := kd_some hΓ hk
          split at h
          · rename_i u hu
            have h' := moved h
            have ea : args = #[y] := by apply Array.ext'; simpa using hy
            have et : ts = #[T] := by apply Array.ext'; simpa using hT
            subst ea et
            have hev := hf.ev hu
            unfold lenS at h'
            split at h' <;> simp only [Option.some.injEq, reduceCtorEq] at h'
            all_goals
              subst h'
              simp only [undSays] at hs
              subst hs
              simp only [conc] at hev
              try (unfold oV at hev; split at hev)
              all_goals
              generalize a.eval = ρ at hev ⊢
              simp [execOp, resolve, invoke, builtin, Builtin.len_, hev, run_underlying hd, conc, goInt, go_sem]
          · cases h
        · cases h
      · cases h
    · cases h
end
end Vc
namespace Vc
open Go Go.RowKit Wf

structure FrW (own : Nat → Prop) (w w' : World) : Prop where
  os : w'.os = w.os
  tape : w'.tape = w.tape
  output : w'.output = w.output
  size : w.heap.size ≤ w'.heap.size
  block : ∀ k, k < w.heap.size → ¬ own k → w'.heap[k]? = w.heap[k]?
theorem FrW.refl (own : Nat → Prop) (w : World) : FrW own w w := ⟨rfl, rfl, rfl, Nat.le_refl _, fun _ _ _ => rfl⟩
theorem FrW.trans {own : Nat → Prop} {a b c : World} (h : FrW own a b) (k : FrW own b c) : FrW own a c :=
  ⟨k.os.trans h.os, k.tape.trans h.tape, k.output.trans h.output, Nat.le_trans h.size k.size, fun i hi hn => (k.block i (Nat.lt_of_lt_of_le hi h.size) hn).trans (h.block i hi hn)⟩
theorem FrW.of_below {own : Nat → Prop} {w w' : World} (h : Below w.heap.size w w') : FrW own w w' := ⟨h.os, h.tape, h.output, h.size, fun k hk _ => h.block k hk⟩
theorem FrW.below {w w' : World} (h : FrW (fun _ => False) w w') : Below w.heap.size w w' := ⟨h.os, h.tape, h.output, h.size, fun k hk => h.block k hk (by simp)⟩

structure Rsc where
  holds : Bt → (Nat → Prop) → World → Prop
  stays : ∀ b fp w w', holds b fp w → (∀ k, fp k → w'.heap[k]? = w.heap[k]?) → holds b fp w'
inductive Res where
  | cells (c : List SV) (T : TypeId) (mine : Bool)
  | own (c : List SV) (e : TypeId) (s n : Nat) (mine : Bool)
  | ext (R : Rsc)
  | gone
def Res.mine : Res → Bool
  | .cells _ _ m => m
  | .own _ _ _ _ m => m
  | .ext _ => true
  | .gone => false
def Lies (w : World) (b off : Nat) (vs : List Value) : Prop := ∀ (j : Nat) (v : Value), vs[j]? = some v → w.cell? ⟨b, off + j, none⟩ = some v
def Head (w : World) (b : Nat) (T : TypeId) (vs rest : List Value) (fz : Nat × Nat) : Prop := w.heap[b]? = some (.cells (vs ++ rest).toArray T fz) ∧ (vs.length ≤ fz.1 ∨ fz.2 ≤ fz.1)
theorem Head.lies {w : World} {b : Nat} {T : TypeId} {vs rest : List Value} {fz : Nat × Nat} (h : Head w b T vs rest fz) : Lies w b 0 vs := fun j v hv => by
  have hj : j < vs.length := (List.getElem?_eq_some_iff.1 hv).1
  simp only [World.cell?, h.1, Nat.zero_add]
  simp only [Option.isSome_none, Bool.false_eq_true, if_false, List.getElem?_toArray]
  rw [List.getElem?_append_left hj]
  exact hv
def Holds (β : Nat → Bt) (t : Bt) (fp : Nat → Prop) (w : World) : Res → Prop
  | .cells c T _ => t.off = 0 ∧ (∃ rest fz, Head w t.blk T (c.map (conc β)) rest fz ∧ rest = []) ∧ ∀ k, fp k ↔ k = t.blk
  | .own c e s n m => (t.cap = 0 ∧ n = 0 ∧ c = [] ∧ ∀ k, ¬ fp k) ∨
      (t.cap ≠ 0 ∧ n ≤ t.cap - 1 ∧ t.cap - 1 ≤ maxLen ∧ c.length = n * s ∧ Lies w t.blk t.off (c.map (conc β)) ∧ (m = true → t.off = 0 ∧ ∃ rest fz, Head w t.blk e (c.map (conc β)) rest fz ∧ (c.length + rest.length ≤ fz.1 ∨ fz.2 ≤ fz.1) ∧ c.length + rest.length = (t.cap - 1) * s) ∧ ∀ k, fp k ↔ k = t.blk)
  | .ext R => R.holds t fp w
  | .gone => ∀ k, ¬ fp k
theorem Lies.stays {w w' : World} {b off : Nat} {vs : List Value} (h : Lies w b off vs) (hk : w'.heap[b]? = w.heap[b]?) : Lies w' b off vs := fun j v hv =>
  (World.cell?_of_block (w := w) (a := ⟨b, off + j, none⟩) hk).trans (h j v hv)
theorem Holds.stays {β : Nat → Bt} {t : Bt} {fp : Nat → Prop} {w w' : World} {r : Res} (h : Holds β t fp w r) (hk : ∀ k, fp k → w'.heap[k]? = w.heap[k]?) : Holds β t fp w' r := by
  cases r with
  | cells c T m =>
    obtain ⟨h0, ⟨rest, fz, ⟨h1, h2⟩, hr⟩, h3⟩ := h
    exact ⟨h0, ⟨rest, fz, ⟨(hk _ ((h3 _).2 rfl)).trans h1, h2⟩, hr⟩, h3⟩
  | own c e s n m =>
    rcases h with h | ⟨h1, h2, h3, h4, h5, h6, h7⟩
    · exact .inl h
    · have e := hk _ ((h7 _).2 rfl)
      exact .inr ⟨h1, h2, h3, h4, h5.stays e, fun hm => by
        obtain ⟨h8, rest, fz, h9, h10⟩ := h6 hm
        exact ⟨h8, rest, fz, ⟨e.trans h9.1, h9.2⟩, h10⟩, h7⟩
  | ext R => exact R.stays _ _ _ _ h hk
  | gone => exact h
structure BxOK (β : Nat → Bt) (fp : Nat → Nat → Prop) (w : World) (bs : List Res) : Prop where
  holds : ∀ i r, bs[i]? = some r → Holds β (β i) (fp i) w r
  lt : ∀ i r, bs[i]? = some r → ∀ k, fp i k → k < w.heap.size
  sep : ∀ i j r r', bs[i]? = some r → bs[j]? = some r' → i ≠ j → (r.mine = true ∨ r'.mine = true) → ∀ k, fp i k → ¬ fp j k
structure St where
  t : List (Nat × SV)
  b : List Res
structure Cx where
  P : Program
  Γ : TypeId → Option TI
  E : World → Prop
  G : Nat
  esize : ∀ w, E w → G ≤ w.heap.size
  estays : ∀ w w', E w → (∀ k, k < G → w'.heap[k]? = w.heap[k]?) → w.heap.size ≤ w'.heap.size → E w'
  gok : GOK P Γ
  mixed : P.follows .mixedOrders = true
structure Fx (V : Cx) where
  n : Nat
  w0 : World
  own : Nat → Prop
  e0 : V.E w0
  ownG : ∀ k, own k → V.G ≤ k
  β0 : Nat → Bt
  bs0 : List Res
  foot : Nat → Prop
def Agr (m : Nat) (β β' : Nat → Bt) : Prop := ∀ i, i < m → β i = β' i
theorem Agr.refl (m : Nat) (β : Nat → Bt) : Agr m β β := fun _ _ => rfl
structure Ini {V : Cx} (F : Fx V) (β : Nat → Bt) (bs : List Res) : Prop where
  agr : Agr F.bs0.length F.β0 β
  len : F.bs0.length ≤ bs.length
structure Wd {V : Cx} (F : Fx V) (β : Nat → Bt) (fp : Nat → Nat → Prop) (bs : List Res) (w : World) : Prop where
  fr : FrW F.own F.w0 w
  bx : ∀ β', Agr bs.length β β' → BxOK β' fp w bs
  mine : ∀ i r, bs[i]? = some r → r.mine = true → ∀ k, fp i k → F.w0.heap.size ≤ k ∨ F.own k
  ini : Ini F β bs
  foot : ∀ i r, bs[i]? = some r → ∀ k, fp i k → F.w0.heap.size ≤ k ∨ F.foot k
theorem Wd.env {V : Cx} {F : Fx V} {β : Nat → Bt} {fp : Nat → Nat → Prop} {bs : List Res} {w : World} (h : Wd F β fp bs w) : V.E w :=
  V.estays F.w0 w F.e0 (fun k hk => h.fr.block k (Nat.lt_of_lt_of_le hk (V.esize _ F.e0)) (fun ho => by have := F.ownG k ho; omega)) h.fr.size
theorem Wd.below {V : Cx} {F : Fx V} {β : Nat → Bt} {fp : Nat → Nat → Prop} {bs : List Res} {w w' : World} (h : Wd F β fp bs w) (hb : Below w.heap.size w w') : Wd F β fp bs w' :=
  ⟨h.fr.trans (FrW.of_below hb), fun β' hβ => ⟨fun i r hi => ((h.bx β' hβ).holds i r hi).stays (fun k hk => hb.block k ((h.bx β' hβ).lt i r hi k hk)), fun i r hi k hk => Nat.lt_of_lt_of_le ((h.bx β' hβ).lt i r hi k hk) hb.size, (h.bx β' hβ).sep⟩, h.mine, h.ini, h.foot⟩
theorem Wd.drew {V : Cx} {F : Fx V} {β : Nat → Bt} {fp : Nat → Nat → Prop} {bs : List Res} {w : World} (h : Wd F β fp bs w) : Wd F β fp bs { w with drawn := w.drawn + 1 } :=
  h.below (Below.drew (Below.refl _ _))
structure Fm {V : Cx} (F : Fx V) (β : Nat → Bt) (m : Nat) (t : List (Nat × SV)) (a : Act) : Prop where
  ok : ∀ β', Agr m β β' → FrOK β' F.n t a
def Rel {V : Cx} (F : Fx V) (σ : St) (a : Act) (w : World) : Prop := ∃ β fp, Fm F β σ.b.length σ.t a ∧ Wd F β fp σ.b w
def Qof {V : Cx} (F : Fx V) (K : Exit → St → Prop) : Exit → Act → World → Prop := fun e a w => ∃ σ, K e σ ∧ Rel F σ a w
theorem Fm.put {V : Cx} {F : Fx V} {β : Nat → Bt} {m : Nat} {t : List (Nat × SV)} {a : Act} (h : Fm F β m t a) {dst : Option Tmp} (hd : fits F.n dst = true) {x : SV} {v : Value} (hv : ∀ β', Agr m β β' → v = conc β' x) : Fm F β m (put dst x t) (a.put dst v) :=
  ⟨fun β' hβ => by rw [hv β' hβ]; exact (h.ok β' hβ).put' hd x⟩
theorem Fm.more {V : Cx} {F : Fx V} {β β₂ : Nat → Bt} {m m₂ : Nat} {t : List (Nat × SV)} {a : Act} (h : Fm F β m t a) (hm : m ≤ m₂) (hβ : Agr m β β₂) : Fm F β₂ m₂ t a :=
  ⟨fun β' hβ' => h.ok β' (fun i hi => (hβ i hi).trans (hβ' i (Nat.lt_of_lt_of_le hi hm)))⟩

def flat : SV → Bool
  | .p _ _ => false
  | .o _ _ => false
  | .agg l => flatL l
  | .tup l => flatL l
  | .fn _ l => flatL l
  | .mv _ l => flatL l
  | _ => true
where flatL : List SV → Bool
  | [] => true
  | x :: r => flat x && flatL r
mutual
theorem conc_flat (x : SV) (h : flat x = true) (β β' : Nat → Bt) : conc β x = conc β' x := by
  cases x <;> simp only [flat, Bool.false_eq_true] at h <;> simp only [conc]
  · rw [concL_flat _ h β β']
  · rw [concL_flat _ h β β']
  · rw [concL_flat _ h β β']
  · rw [concL_flat _ h β β']
theorem concL_flat (l : List SV) (h : flat.flatL l = true) (β β' : Nat → Bt) : concL β l = concL β' l := by
  cases l with
  | nil => rfl
  | cons x r =>
    simp only [flat.flatL, Bool.and_eq_true] at h
    simp only [concL]
    rw [conc_flat x h.1 β β', concL_flat r h.2 β β']
end
def Enters (V : Cx) (f : FuncId) : Prop := ∀ args w, (callFunc f args).run V.P w = Result.ok (.enter f args) w
structure PC (V : Cx) (f : FuncId) (args : List SV) (r : SV) : Prop where
  enters : Enters V f
  fa : flat.flatL args = true
  fr : flat r = true
  calls : ∀ w, V.E w → Calls V.P f (concL bt0 args).toArray w fun e w' => e = .returned (conc bt0 r) ∧ Below w.heap.size w w'
def SC (V : Cx) (f : FuncId) (args : List SV) (bs : List Res) (R : SV → List Res → Prop) : Prop := Enters V f ∧
  ∀ β fp w, (∀ β', Agr bs.length β β' → BxOK β' fp w bs) → (∀ i r, bs[i]? = some r → r.mine = true → ∀ k, fp i k → V.G ≤ k) → V.E w → Calls V.P f (concL β args).toArray w fun e w' =>
    ∃ r bs' β₂ fp₂, R r bs' ∧ Agr bs.length β β₂ ∧ bs.length ≤ bs'.length ∧ (∀ β', Agr bs'.length β₂ β' → e = .returned (conc β' r) ∧ BxOK β' fp₂ w' bs') ∧
      FrW (fun k => ∃ i r, bs[i]? = some r ∧ r.mine = true ∧ fp i k) w w' ∧
      (∀ i r', bs'[i]? = some r' → r'.mine = true → ∀ k, fp₂ i k → w.heap.size ≤ k ∨ ∃ j r, bs[j]? = some r ∧ r.mine = true ∧ fp j k) ∧
      (∀ i r', bs'[i]? = some r' → ∀ k, fp₂ i k → w.heap.size ≤ k ∨ ∃ j r, bs[j]? = some r ∧ fp j k)

def one : SV → Bool
  | .agg _ => false
  | .tup _ => false
  | .v _ => false
  | _ => true
def getB (bs : List Res) (i : Nat) : Option (List SV × TypeId × Bool) := match bs[i]? with
  | some (.cells c T m) => some (c, T, m)
  | some (.own c e _ _ m) => some (c, e, m)
  | _ => none
def setR (c : List SV) : Res → Res
  | .cells _ T m => .cells c T m
  | .own _ e s n m => .own c e s n m
  | r => r
def setB (bs : List Res) (i : Nat) (c : List SV) : List Res := match bs[i]? with
  | some r => bs.set i (setR c r)
  | none => bs
def XZ (fs : List (Nat × TypeId)) (Γ : TypeId → Option TI) : List (Nat × SV) → List SV → Option (List SV)
  | [], c => some c
  | (i, x) :: r, c => match fs[i]? with
    | some (off, T) => match sz Γ T with
      | some n => if isV x = false ∧ (cells x).length = n ∧ off + n ≤ c.length then XZ fs Γ r (Xs c off (cells x)) else none
      | none => none
    | none => none
def vcM (V : Cx) (n : Nat) (dst : Option Tmp) (op : Op) (σ : St) (K : St → Prop) : Prop :=
  match op with
  | .alloc T => match V.Γ T with
    | some ti => K ⟨put dst (.p σ.b.length 0) σ.t, σ.b ++ [.cells ti.zero T true]⟩
    | none => False
  | .box T x => match ev σ.t x with
    | some x => isV x = false ∧ K ⟨put dst (.p σ.b.length 0) σ.t, σ.b ++ [.cells (cells x) T true]⟩
    | none => False
  | .load T x => match ev σ.t x with
    | some (.p i off) => match getB σ.b i with
      | some (c, _, _) => match V.Γ T with
        | some ti => off + ti.size ≤ c.length ∧ (match XM ti.agg off ti.size c with
          | some x => K ⟨put dst x σ.t, σ.b⟩
          | none => False)
        | none => False
      | none => False
    | _ => False
  | .store T x y => match ev σ.t x with
    | some (.p i off) => match ev σ.t y with
      | some y => match getB σ.b i with
        | some (c, _, m) => match sz V.Γ T with
          | some s => (m = true ∧ (cells y).all one = true ∧ (cells y).length = s ∧ off + s ≤ c.length) ∧ K ⟨put dst (.v undef) σ.t, setB σ.b i (Xs c off (cells y))⟩
          | none => False
        | none => False
      | none => False
    | _ => False
  | .build T ps => match V.Γ T with
    | some ti => match ti.kind with
      | .struct fs => match Xl σ.t ps.toList with
        | some ps => match XZ fs V.Γ ps ti.zero with
          | some c => K ⟨put dst (.agg c) σ.t, σ.b⟩
          | none => False
        | none => False
      | _ => False
    | none => False
  | .nilCheck x => match ev σ.t x with
    | some (.p i off) => K ⟨put dst (.p i off) σ.t, σ.b⟩
    | some (.fn f l) => (match f with | .func _ => True | _ => False) ∧ K ⟨put dst (.fn f l) σ.t, σ.b⟩
    | some (.mv f l) => K ⟨put dst (.mv f l) σ.t, σ.b⟩
    | _ => False
  | .call ⟨.value f, args, _⟩ => match ev σ.t f with
    | some (.fn (.func f) caps) => match evs σ.t args.toList with
      | some l => (∃ r, PC V f (l ++ caps) r ∧ K ⟨put dst r σ.t, σ.b⟩) ∨ (∃ R, SC V f (l ++ caps) σ.b R ∧ ∀ r bs, R r bs → K ⟨put dst r σ.t, bs⟩)
      | none => False
    | some (.mv f first) => match evs σ.t args.toList with
      | some l => (∃ r, PC V f (first ++ l) r ∧ K ⟨put dst r σ.t, σ.b⟩) ∨ (∃ R, SC V f (first ++ l) σ.b R ∧ ∀ r bs, R r bs → K ⟨put dst r σ.t, bs⟩)
      | none => False
    | _ => False
  | _ => False
def vcO (V : Cx) (n : Nat) (dst : Option Tmp) (op : Op) (σ : St) (K : St → Prop) : Prop :=
  fits n dst = true ∧ match pv V.Γ σ.t op with
  | some (c, x) => c ∧ K ⟨put dst x σ.t, σ.b⟩
  | none => vcM V n dst op σ K
def gval (dsts : List (Option Tmp)) (t : List (Nat × SV)) (j : Nat) : Option (Nat × Bool) := match dsts[j]? with
  | some (some d) => match lk d t with
    | some (.bool b) => some (d, b)
    | _ => none
  | _ => none
def vcL (V : Cx) (n : Nat) (dsts : List (Option Tmp)) : List Oper → St → (St → Prop) → Prop
  | [], σ, K => K σ
  | ⟨dst, op, _, _, _, none⟩ :: r, σ, K => vcO V n dst op σ fun σ => vcL V n dsts r σ K
  | ⟨dst, op, _, _, _, some (j, want)⟩ :: r, σ, K => match gval dsts σ.t j with
    | some (d, b) => fits n (some d) = true ∧ fits n dst = true ∧ (b = want → vcO V n dst op ⟨(d, .bool want) :: σ.t, σ.b⟩ fun σ => vcL V n dsts r σ K) ∧ (b = !want → vcL V n dsts r ⟨put dst (.v undef) ((d, .bool (!want)) :: σ.t), σ.b⟩ K)
    | none => False
def vcC (V : Cx) (n : Nat) : Code → St → (Exit → St → Prop) → Prop
  | .skip, σ, K => K .normal σ
  | .region _ ops draw, σ, K => draw = false ∧ vcL V n (ops.toList.map (·.dst)) ops.toList σ (K .normal)
  | .seq x y, σ, K => vcC V n x σ fun e σ => match e with
    | .normal => vcC V n y σ K
    | e => K e σ
  | .cond c x y, σ, K => match ev σ.t c with
    | some (.bool b) => (b = true → vcC V n x σ K) ∧ (b = false → vcC V n y σ K)
    | _ => False
  | .block id x, σ, K => vcC V n x σ fun e σ => match e with
    | .exit id' => if id' = id then K .normal σ else K (.exit id') σ
    | e => K e σ
  | .loop x, σ, K => ∃ (I : St → Prop) (μ : St → Nat), I σ ∧ ∀ σ', I σ' → vcC V n x σ' fun e σ => match e with
    | .normal => I σ ∧ μ σ < μ σ'
    | e => K e σ
  | .exit id, σ, K => K (.exit id) σ
  | .ret, σ, K => K .ret σ
  | _, _, _ => False
end Vc
namespace Vc
open Go Go.RowKit Wf
theorem one_oneCell {x : SV} (h : one x = true) (β : Nat → Bt) : (conc β x).oneCell' = true := by
  cases x
  case o i n => simp only [conc, oV]; split <;> rfl
  all_goals simp [one, conc, Value.oneCell'] at h ⊢
theorem isV_of_one {x : SV} (h : (cells x).all one = true) : isV x = false := by
  cases x <;> simp [cells, one, isV] at h ⊢
theorem run_storeCells_fz {P : Program} (g o : Nat) (t : TypeId) (fz : Nat × Nat) : ∀ (vs : List Value) (i : Nat) (cur : Array Value) (w : World), w.heap[g]? = some (.cells cur t fz) → o + i + vs.length ≤ cur.size → (o + i + vs.length ≤ fz.1 ∨ fz.2 ≤ fz.1) → (∀ v ∈ vs, v.oneCell' = true) →
    (storeCells ⟨g, o, none⟩ vs i).run P w = Result.ok () (w.setRow g (cur.toList.take (o + i) ++ vs ++ cur.toList.drop (o + i + vs.length)).toArray)
  | [], i, cur, w, hg, _, _, _ => by
    simp only [storeCells, List.append_nil, List.length_nil, Nat.add_zero, List.take_append_drop, Array.toArray_toList]
    rw [setRow_self w g cur t fz hg]
    rfl
  | v :: rest, i, cur, w, hg, hl, hz, h1 => by
    simp only [List.length_cons] at hl hz
    have hi : o + i < cur.size := by omega
    have hadd : (⟨g, o, none⟩ : Addr).add i = ⟨g, o + i, none⟩ := by unfold Addr.add; split <;> simp_all
    have hcell : w.cell? ⟨g, o + i, none⟩ = some cur[o + i] := by simp [World.cell?, hg, hi]
    have hfro : w.frozen? ⟨g, o + i, none⟩ = false := by simp [World.frozen?, hg]; omega
    have hst : (store ((⟨g, o, none⟩ : Addr).add i) v).run P w = Result.ok () (w.setRow g (cur.setIfInBounds (o + i) v)) := by
      rw [hadd, run_store P w _ v _ (h1 v (by simp)), hcell]
      simp [hfro, setCell_eq_setRow w g (o + i) cur t fz v hg]
    have ih := run_storeCells_fz (P := P) g o t fz rest (i + 1) (cur.setIfInBounds (o + i) v) (w.setRow g (cur.setIfInBounds (o + i) v)) (setRow_heap w g cur _ t _ hg) (by simp; omega) (by omega) (fun x hx => h1 x (by simp [hx]))
    simp only [storeCells, Sem.run_bind, hst, Result.andThen_ok, ih, setRow_setRow]
    congr 3
    have e := list_seg_step cur.toList (o + i) v rest (by simp; omega)
    simpa [Array.toList_setIfInBounds, Nat.add_assoc] using e
section
variable {V : Cx} {F : Fx V} {β : Nat → Bt} {fp : Nat → Nat → Prop} {bs : List Res} {w : World} {t : List (Nat × SV)} {a : Act}
theorem Fm.ev {m : Nat} (h : Fm F β m t a) {o : Operand} {x : SV} (e : Vc.ev t o = some x) {β' : Nat → Bt} (hβ : Agr m β β') : a.eval o = conc β' x := (h.ok β' hβ).ev e
def upd (β : Nat → Bt) (m : Nat) (b : Bt) : Nat → Bt := fun i => if i = m then b else β i
theorem upd_agr (β : Nat → Bt) (m : Nat) (b : Bt) : Agr m β (upd β m b) := fun i hi => by unfold upd; rw [if_neg (by omega)]
theorem upd_at (β : Nat → Bt) (m : Nat) (b : Bt) : upd β m b m = b := if_pos rfl
theorem Agr.of_upd {m : Nat} {b : Bt} {β β' : Nat → Bt} (h : Agr (m + 1) (upd β m b) β') : Agr m β β' := fun i hi => (upd_agr β m b i hi).trans (h i (by omega))
def updF (fp : Nat → Nat → Prop) (m : Nat) (f : Nat → Prop) : Nat → Nat → Prop := fun i k => if i = m then f k else fp i k
theorem Wd.more (h : Wd F β fp bs w) {w' : World} (hb : Below w.heap.size w w') (r : Res) (b : Bt) (f : Nat → Prop)
    (hr : ∀ β', Agr (bs.length + 1) (upd β bs.length b) β' → Holds β' b f w' r) (hf : ∀ k, f k → w.heap.size ≤ k ∧ k < w'.heap.size) :
    Wd F (upd β bs.length b) (updF fp bs.length f) (bs ++ [r]) w' := by
  have h' := h.below hb
  have old : ∀ {i r'}, (bs ++ [r])[i]? = some r' → (i < bs.length ∧ bs[i]? = some r') ∨ (i = bs.length ∧ r' = r) := fun {i r'} hi => by
    rcases Nat.lt_or_ge i bs.length with hlt | hge
    · rw [List.getElem?_append_left hlt] at hi; exact .inl ⟨hlt, hi⟩
    · have hi' : i = bs.length := by
        have := (List.getElem?_eq_some_iff.1 hi).1
        rw [List.length_append, List.length_singleton] at this
        omega
      subst hi'
      rw [List.getElem?_append_right (Nat.le_refl _)] at hi
      simp at hi
      exact .inr ⟨rfl, hi.symm⟩
  have fo : ∀ {i}, i < bs.length → updF fp bs.length f i = fp i := fun {i} hi => by funext k; simp [updF, show i ≠ bs.length by omega]
  have fn : updF fp bs.length f bs.length = f := by funext k; simp [updF]
  refine ⟨h'.fr, fun β' hβ => ?_, fun i r' hi hm k hk => ?_, ?_, fun i r' hi k hk => ?_⟩
  · rw [List.length_append, List.length_singleton] at hβ
    have hb' := h'.bx β' hβ.of_upd
    have hlast : β' bs.length = b := by rw [← hβ bs.length (by omega), upd_at]
    have hlt0 := (h.bx β' hβ.of_upd).lt
    refine ⟨fun i r' hi => ?_, fun i r' hi k hk => ?_, fun i j r1 r2 hi hj hne hm k hk hk' => ?_⟩
    · rcases old hi with ⟨hlt, hi⟩ | ⟨rfl, rfl⟩
      · rw [fo hlt]; exact hb'.holds i r' hi
      · rw [fn, hlast]; exact hr β' hβ
    · rcases old hi with ⟨hlt, hi⟩ | ⟨rfl, rfl⟩
      · rw [fo hlt] at hk; exact hb'.lt i r' hi k hk
      · rw [fn] at hk; exact (hf k hk).2
    · rcases old hi with ⟨hlt, hi2⟩ | ⟨ei, e1⟩
      · rcases old hj with ⟨hlt', hj2⟩ | ⟨ej, e2⟩
        · rw [fo hlt] at hk; rw [fo hlt'] at hk'; exact hb'.sep i j r1 r2 hi2 hj2 hne hm k hk hk'
        · rw [ej] at hk'
          rw [fo hlt] at hk; rw [fn] at hk'
          have := hlt0 i r1 hi2 k hk
          have := (hf k hk').1
          omega
      · rcases old hj with ⟨hlt', hj2⟩ | ⟨ej, e2⟩
        · rw [ei] at hk
          rw [fn] at hk; rw [fo hlt'] at hk'
          have := hlt0 j r2 hj2 k hk'
          have := (hf k hk).1
          omega
        · exact hne (ei.trans ej.symm)
  · rcases old hi with ⟨hlt, hi⟩ | ⟨rfl, rfl⟩
    · rw [fo hlt] at hk; exact h'.mine i r' hi hm k hk
    · rw [fn] at hk; exact .inl (Nat.le_trans h.fr.size (hf k hk).1)
  · have hl := h.ini.len
    exact ⟨fun i hi => (h.ini.agr i hi).trans (upd_agr β _ _ i (by omega)), by rw [List.length_append]; omega⟩
  · rcases old hi with ⟨hlt, hi⟩ | ⟨rfl, rfl⟩
    · rw [fo hlt] at hk; exact h'.foot i r' hi k hk
    · rw [fn] at hk; exact .inl (Nat.le_trans h.fr.size (hf k hk).1)
theorem Wd.alloc (h : Wd F β fp bs w) (c : List SV) (T : TypeId) (arr : Array Value) (mine : Bool)
    (harr : ∀ β', Agr (bs.length + 1) (upd β bs.length ⟨w.heap.size, 0, 0⟩) β' → arr = (c.map (conc β')).toArray) :
    Wd F (upd β bs.length ⟨w.heap.size, 0, 0⟩) (updF fp bs.length (· = w.heap.size)) (bs ++ [.cells c T mine]) (w.alloc (.cells arr T)) := by
  refine h.more ((Below.refl _ _).alloc (Nat.le_refl _) _) _ ⟨w.heap.size, 0, 0⟩ _ (fun β' hβ => ⟨rfl, ⟨[], (0, 0), ⟨?_, .inr (Nat.le_refl _)⟩, rfl⟩, fun k => Iff.rfl⟩) (fun k hk => ?_)
  · show (w.alloc (.cells arr T)).heap[w.heap.size]? = _
    rw [heap_new, harr β' hβ, List.append_nil]
  · subst hk
    exact ⟨Nat.le_refl _, by rw [size_alloc]; omega⟩
theorem Wd.swap (h : Wd F β fp bs w) {i : Nat} {r0 : Res} (hi : bs[i]? = some r0) (hm : r0.mine = true) {w' : World} (hfr : FrW (fp i) w w') (r : Res) (b : Bt) (f : Nat → Prop)
    (hr : ∀ β', Agr (bs.length + 1) (upd β bs.length b) β' → Holds β' b f w' r) (hf : ∀ k, f k → (fp i k ∨ w.heap.size ≤ k) ∧ k < w'.heap.size) :
    Wd F (upd β bs.length b) (fun j k => if j = bs.length then f k else j ≠ i ∧ fp j k) (bs.set i .gone ++ [r]) w' := by
  have hilt : i < bs.length := (List.getElem?_eq_some_iff.1 hi).1
  have old : ∀ {j : Nat} {r' : Res}, (bs.set i .gone ++ [r])[j]? = some r' → (j < bs.length ∧ j ≠ i ∧ bs[j]? = some r') ∨ (j = i ∧ r' = .gone) ∨ (j = bs.length ∧ r' = r) := fun {j r'} hj => by
    rcases Nat.lt_or_ge j bs.length with hlt | hge
    · rw [List.getElem?_append_left (by simpa using hlt)] at hj
      by_cases hji : j = i
      · subst hji
        rw [List.getElem?_set_self hilt] at hj
        exact .inr (.inl ⟨rfl, by simpa using hj.symm⟩)
      · rw [List.getElem?_set_ne (fun e => hji e.symm)] at hj
        exact .inl ⟨hlt, hji, hj⟩
    · have hj' : j = bs.length := by
        have := (List.getElem?_eq_some_iff.1 hj).1
        rw [List.length_append, List.length_singleton, List.length_set] at this
        omega
      subst hj'
      rw [List.getElem?_append_right (by simp)] at hj
      simp at hj
      exact .inr (.inr ⟨rfl, hj.symm⟩)
  have hb0 := h.bx β (Agr.refl _ _)
  have hlt0 := hb0.lt
  have hother : ∀ j r', bs[j]? = some r' → j ≠ i → ∀ k, fp j k → w'.heap[k]? = w.heap[k]? := fun j r' hj hne k hk =>
    hfr.block k (hlt0 j r' hj k hk) (fun hk' => hb0.sep j i r' r0 hj hi hne (.inr hm) k hk hk')
  have fo : ∀ {j : Nat}, j < bs.length → j ≠ i → (fun k => if j = bs.length then f k else j ≠ i ∧ fp j k) = fp j := fun {j} hj hne => by funext k; simp [show j ≠ bs.length by omega, hne]
  refine ⟨⟨hfr.os.trans h.fr.os, hfr.tape.trans h.fr.tape, hfr.output.trans h.fr.output, Nat.le_trans h.fr.size hfr.size, fun k hk hn => ?_⟩, fun β' hβ => ?_, fun j r' hj hm' k hk => ?_, ?_, fun j r' hj k hk => ?_⟩
  · rw [hfr.block k (Nat.lt_of_lt_of_le hk h.fr.size) (fun hk' => ?_)]
    · exact h.fr.block k hk hn
    · rcases h.mine i r0 hi hm k hk' with h1 | h1
      · omega
      · exact hn h1
  · rw [List.length_append, List.length_singleton, List.length_set] at hβ
    have hb' := h.bx β' hβ.of_upd
    have hlast : β' bs.length = b := by rw [← hβ bs.length (by omega), upd_at]
    refine ⟨fun j r' hj => ?_, fun j r' hj k hk => ?_, fun j l r1 r2 hj hl hne hmm k hk hk' => ?_⟩
    · rcases old hj with ⟨hlt, hne, hj2⟩ | ⟨ej, e2⟩ | ⟨ej, e2⟩
      · simp only [fo hlt hne]
        exact (hb'.holds j r' hj2).stays (fun k hk => hother j r' hj2 hne k hk)
      · subst ej e2
        intro k hk
        simp [show j ≠ bs.length by omega] at hk
      · subst ej e2
        simp only [if_true, hlast]
        exact hr β' hβ
    · rcases old hj with ⟨hlt, hne, hj2⟩ | ⟨ej, e2⟩ | ⟨ej, e2⟩
      · simp only [if_neg (show j ≠ bs.length by omega)] at hk
        exact Nat.lt_of_lt_of_le (hlt0 j r' hj2 k hk.2) hfr.size
      · subst ej
        simp [show j ≠ bs.length by omega] at hk
      · subst ej
        simp only [if_true] at hk
        exact (hf k hk).2
    · rcases old hj with ⟨hlt, hnj, hj2⟩ | ⟨ej, e2⟩ | ⟨ej, e2⟩
      · simp only [if_neg (show j ≠ bs.length by omega)] at hk
        rcases old hl with ⟨hlt', hnl, hl2⟩ | ⟨el, e3⟩ | ⟨el, e3⟩
        · simp only [if_neg (show l ≠ bs.length by omega)] at hk'
          exact hb0.sep j l r1 r2 hj2 hl2 hne hmm k hk.2 hk'.2
        · subst el; simp [show l ≠ bs.length by omega] at hk'
        · subst el
          simp only [if_true] at hk'
          rcases (hf k hk').1 with h1 | h1
          · exact hb0.sep j i r1 r0 hj2 hi hnj (.inr hm) k hk.2 h1
          · have := hlt0 j r1 hj2 k hk.2
            omega
      · subst ej; simp [show j ≠ bs.length by omega] at hk
      · subst ej
        simp only [if_true] at hk
        rcases old hl with ⟨hlt', hnl, hl2⟩ | ⟨el, e3⟩ | ⟨el, e3⟩
        · simp only [if_neg (show l ≠ bs.length by omega)] at hk'
          rcases (hf k hk).1 with h1 | h1
          · exact hb0.sep l i r2 r0 hl2 hi hnl (.inr hm) k hk'.2 h1
          · have := hlt0 l r2 hl2 k hk'.2
            omega
        · subst el; simp [show l ≠ bs.length by omega] at hk'
        · exact hne el.symm
  · rcases old hj with ⟨hlt, hne, hj2⟩ | ⟨ej, e2⟩ | ⟨ej, e2⟩
    · simp only [if_neg (show j ≠ bs.length by omega)] at hk
      exact h.mine j r' hj2 hm' k hk.2
    · subst e2; cases hm'
    · subst ej
      simp only [if_true] at hk
      rcases (hf k hk).1 with h1 | h1
      · exact h.mine i r0 hi hm k h1
      · exact .inl (Nat.le_trans h.fr.size h1)
  · have hl := h.ini.len
    exact ⟨fun j hj => (h.ini.agr j hj).trans (upd_agr β _ _ j (by omega)), by rw [List.length_append, List.length_set]; omega⟩
  · rcases old hj with ⟨hlt, hne, hj2⟩ | ⟨ej, e2⟩ | ⟨ej, e2⟩
    · simp only [if_neg (show j ≠ bs.length by omega)] at hk
      exact h.foot j r' hj2 k hk.2
    · subst ej; simp [show j ≠ bs.length by omega] at hk
    · subst ej
      simp only [if_true] at hk
      rcases (hf k hk).1 with h1 | h1
      · exact h.foot i r0 hi k h1
      · exact .inl (Nat.le_trans h.fr.size h1)
theorem getB_some {i : Nat} {c : List SV} {T : TypeId} {m : Bool} (h : getB bs i = some (c, T, m)) : ∃ r, bs[i]? = some r ∧ r.mine = m ∧ (r = .cells c T m ∨ ∃ s n, r = .own c T s n m) := by
  unfold getB at h
  split at h
  · rename_i e; cases h; exact ⟨_, e, rfl, .inl rfl⟩
  · rename_i e; cases h; exact ⟨_, e, rfl, .inr ⟨_, _, rfl⟩⟩
  · cases h
theorem getB_lt {i : Nat} {c : List SV} {T : TypeId} {m : Bool} (h : getB bs i = some (c, T, m)) : i < bs.length := by
  obtain ⟨r, hr, -⟩ := getB_some h
  exact (List.getElem?_eq_some_iff.1 hr).1
theorem Wd.lies (h : Wd F β fp bs w) {i : Nat} {c : List SV} {T : TypeId} {m : Bool} (hg : getB bs i = some (c, T, m)) {β' : Nat → Bt} (hβ : Agr bs.length β β') :
    Lies w (β' i).blk (β' i).off (c.map (conc β')) := by
  obtain ⟨r, hr, -, hc⟩ := getB_some hg
  have hh := (h.bx β' hβ).holds i r hr
  rcases hc with rfl | ⟨s, n, rfl⟩
  · obtain ⟨h0, ⟨rest, fz, hd, -⟩, -⟩ := hh
    rw [h0]; exact hd.lies
  · rcases hh with ⟨-, -, h3, -⟩ | ⟨-, -, -, -, h5, -⟩
    · subst h3; intro j v hv; simp at hv
    · exact h5
theorem lies_agr {w : World} {b off : Nat} {u v : List Value} (hl : u.length = v.length) (h1 : Lies w b off u) (h2 : Lies w b off v) : u = v := by
  apply List.ext_getElem?
  intro j
  rcases hu : u[j]? with _ | x
  · have : v[j]? = none := by rw [List.getElem?_eq_none_iff] at hu ⊢; omega
    rw [this]
  · rcases hv : v[j]? with _ | y
    · have : j < u.length := (List.getElem?_eq_some_iff.1 hu).1
      rw [List.getElem?_eq_none_iff] at hv; omega
    · have e1 := h1 j x hu
      rw [h2 j y hv] at e1
      exact e1.symm
theorem Wd.agr (h : Wd F β fp bs w) {i : Nat} {c : List SV} {T : TypeId} {m : Bool} (hg : getB bs i = some (c, T, m)) {β' : Nat → Bt} (hβ : Agr bs.length β β') : c.map (conc β) = c.map (conc β') := by
  have h1 := h.lies hg (Agr.refl _ β)
  have h2 := h.lies hg hβ
  rw [← hβ i (getB_lt hg)] at h2
  exact lies_agr (by simp) h1 h2
theorem setB_at {i : Nat} {r : Res} (h : bs[i]? = some r) (c : List SV) : setB bs i c = bs.set i (setR c r) := by unfold setB; rw [h]
theorem setR_mine (c : List SV) (r : Res) : (setR c r).mine = r.mine := by cases r <;> rfl
theorem setB_length (i : Nat) (c : List SV) : (setB bs i c).length = bs.length := by unfold setB; split <;> simp
theorem Wd.store (h : Wd F β fp bs w) {i : Nat} {c : List SV} {T : TypeId} (hg : getB bs i = some (c, T, true)) {off : Nat} {ys : List SV} (hys : ∀ β', Agr bs.length β β' → ys.map (conc β) = ys.map (conc β')) (h1 : ys.all one = true) (hl : off + ys.length ≤ c.length) (P : Program) :
    ∃ w', (storeCells ⟨(β i).blk, (β i).off + off, none⟩ (ys.map (conc β))).run P w = Result.ok () w' ∧ Wd F β fp (setB bs i (Xs c off ys)) w' := by
  obtain ⟨r, hr, hm, hc⟩ := getB_some hg
  have hilt : i < bs.length := getB_lt hg
  have hh := (h.bx β (Agr.refl _ _)).holds i r hr
  rcases Nat.eq_zero_or_pos ys.length with h0 | hpos
  · have : ys = [] := List.eq_nil_of_length_eq_zero h0
    subst this
    refine ⟨w, rfl, ?_⟩
    have e : setB bs i (Xs c off []) = bs := by
      have : Xs c off [] = c := by simp [Xs]
      rw [this, setB_at hr]
      apply List.ext_getElem?
      intro j
      by_cases hji : j = i
      · subst hji
        rw [List.getElem?_set_self hilt, hr]
        rcases hc with rfl | ⟨s, n, rfl⟩ <;> rfl
      · rw [List.getElem?_set_ne (fun e => hji e.symm)]
    rw [e]; exact h
  -- the block, whatever it is
  have key : (β i).off = 0 ∧ (∃ rest fz T', Head w (β i).blk T' (c.map (conc β)) rest fz) ∧ ∀ k, fp i k ↔ k = (β i).blk := by
    rcases hc with rfl | ⟨s, n, rfl⟩
    · obtain ⟨k0, ⟨rest, fz, hd, -⟩, k3⟩ := hh
      exact ⟨k0, ⟨rest, fz, _, hd⟩, k3⟩
    · rcases hh with ⟨-, -, h3, -⟩ | ⟨-, -, -, -, -, h6, h7⟩
      · rw [h3] at hl; simp only [List.length_nil] at hl; omega
      · obtain ⟨k0, rest, fz, hd, -⟩ := h6 rfl
        exact ⟨k0, ⟨rest, fz, _, hd⟩, h7⟩
  obtain ⟨hoff, ⟨rest, fz, T', hd⟩, hfi⟩ := key
  have hrun := run_storeCells_fz (P := P) (β i).blk off T' fz (ys.map (conc β)) 0 _ w hd.1 (by simp; omega) (by have := hd.2; simp at this ⊢; omega) (fun v hv => by
    simp only [List.mem_map] at hv
    obtain ⟨x, hx, rfl⟩ := hv
    exact one_oneCell (List.all_eq_true.1 h1 x hx) β)
  have e : (List.take (off + 0) (c.map (conc β) ++ rest) ++ ys.map (conc β) ++ List.drop (off + 0 + (ys.map (conc β)).length) (c.map (conc β) ++ rest)) = (Xs c off ys).map (conc β) ++ rest := by
    simp only [Nat.add_zero, List.length_map, Xs, List.map_append, List.map_take, List.map_drop]
    rw [List.take_append_of_le_length (by simp; omega), List.drop_append_of_le_length (by simp; omega)]
    simp
  simp only [e] at hrun
  rw [hoff, Nat.zero_add]
  refine ⟨_, hrun, ?_⟩
  have hother : ∀ k, k ≠ (β i).blk → (w.setRow (β i).blk ((Xs c off ys).map (conc β) ++ rest).toArray).heap[k]? = w.heap[k]? := fun k hk => setRow_other _ _ _ _ hk
  have hnew : ∀ β', Agr bs.length β β' → Head (w.setRow (β i).blk ((Xs c off ys).map (conc β) ++ rest).toArray) (β i).blk T' ((Xs c off ys).map (conc β')) rest fz := fun β' hβ => by
    have ea : (Xs c off ys).map (conc β) = (Xs c off ys).map (conc β') := by
      simp only [Xs, List.map_append, List.map_take, List.map_drop, hys β' hβ, h.agr hg hβ]
    refine ⟨?_, ?_⟩
    · rw [setRow_heap _ _ _ _ _ _ hd.1, ea]
    · have := hd.2
      simp [Xs] at this ⊢
      omega
  have hset := setB_at hr (Xs c off ys)
  have slen : (Xs c off ys).length = c.length := by simp [Xs]; omega
  rw [hset]
  have old : ∀ {j r'}, (bs.set i (setR (Xs c off ys) r))[j]? = some r' → (j ≠ i ∧ bs[j]? = some r') ∨ (j = i ∧ r' = setR (Xs c off ys) r) := fun {j r'} hj => by
    by_cases hji : j = i
    · subst hji
      rw [List.getElem?_set_self hilt] at hj
      exact .inr ⟨rfl, by simpa using hj.symm⟩
    · rw [List.getElem?_set_ne (fun e => hji e.symm)] at hj
      exact .inl ⟨hji, hj⟩
  have oldr : ∀ {j : Nat} {r' : Res}, (bs.set i (setR (Xs c off ys) r))[j]? = some r' → ∃ r0 : Res, bs[j]? = some r0 ∧ r0.mine = r'.mine := fun {j r'} hj => by
    rcases old hj with ⟨-, hj⟩ | ⟨rfl, rfl⟩
    · exact ⟨r', hj, rfl⟩
    · exact ⟨r, hr, (setR_mine _ _).symm⟩
  refine ⟨⟨h.fr.os, h.fr.tape, h.fr.output, by simpa using h.fr.size, fun k hk hn => (hother k (fun e => ?_)).trans (h.fr.block k hk hn)⟩, fun β' hβ => ?_, fun j r' hj hm' k hk => ?_, ?_, fun j r' hj k hk => ?_⟩
  · rcases h.mine i _ hr hm k ((hfi k).2 e) with h1 | h1
    · omega
    · exact hn h1
  · rw [List.length_set] at hβ
    have hb := h.bx β' hβ
    have hhb := hb.holds i r hr
    refine ⟨fun j r' hj => ?_, fun j r' hj k hk => ?_, fun j l r1 r2 hj hl' hne hmm => ?_⟩
    · rcases old hj with ⟨hji, hj⟩ | ⟨rfl, rfl⟩
      · refine (hb.holds j r' hj).stays (fun k hk => hother k (fun e => ?_))
        exact hb.sep j i r' r hj hr hji (.inr hm) k hk ((hfi k).2 e)
      · have hn := hnew β' hβ
        rw [← hβ j hilt]
        rw [← hβ j hilt] at hhb
        rcases hc with rfl | ⟨s, n, rfl⟩
        · have : T' = T := by
            obtain ⟨-, ⟨rest', fz', hd', -⟩, -⟩ := hhb
            have := hd'.1
            rw [hd.1] at this
            injection this with this
            injection this
          subst this
          have hre : rest = [] := by
            obtain ⟨-, ⟨rest', fz', hd', hr'⟩, -⟩ := hhb
            have := hd'.1
            rw [hd.1] at this
            injection this with this
            injection this with this
            have := congrArg Array.size this
            subst hr'
            simp at this
            exact this
          exact ⟨hoff, ⟨rest, fz, hn, hre⟩, hfi⟩
        · rcases hhb with ⟨-, -, h3, -⟩ | ⟨k1, k2, k3, k4, k5, k6, k7⟩
          · rw [h3] at hl; simp only [List.length_nil] at hl; omega
          · obtain ⟨-, rest', fz', hd', hfr', hsz⟩ := k6 rfl
            have hboth := hd'.1
            rw [hd.1] at hboth
            injection hboth with hboth
            injection hboth with hcells hT hfz
            subst hT hfz
            have hrl : rest'.length = rest.length := by
              have := congrArg Array.size hcells
              simp at this
              omega
            refine .inr ⟨k1, k2, k3, by rw [slen]; exact k4, by rw [hoff]; exact hn.lies, fun _ => ⟨hoff, rest, fz, hn, by rw [slen, ← hrl]; exact hfr', by rw [slen, ← hrl]; exact hsz⟩, k7⟩
    · obtain ⟨r0, hr0, -⟩ := oldr hj
      rw [setRow_size]
      exact hb.lt j r0 hr0 k hk
    · obtain ⟨r3, hr3, e3⟩ := oldr hj
      obtain ⟨r4, hr4, e4⟩ := oldr hl'
      exact hb.sep j l r3 r4 hr3 hr4 hne (by rw [e3, e4]; exact hmm)
  · obtain ⟨r0, hr0, e0⟩ := oldr hj
    exact h.mine j r0 hr0 (e0.trans hm') k hk
  · exact ⟨h.ini.agr, by rw [List.length_set]; exact h.ini.len⟩
  · obtain ⟨r0, hr0, -⟩ := oldr hj
    exact h.foot j r0 hr0 k hk
theorem wp_of_value {o : Oper} {a : Act} {v : Value} {w w' : World} {next : Act → World → Prop} {Q : Exit → Act → World → Prop} (h : (execOp a.eval o).run V.P w = Result.ok (.value v) w') (hn : next (a.put o.dst v) w') : o.wp V.P a w next Q := by
  unfold Oper.wp
  rw [h]
  exact hn
theorem wp_of_skip {o : Oper} {a : Act} {w w' : World} {next : Act → World → Prop} {Q : Exit → Act → World → Prop} (h : (execOp a.eval o).run V.P w = Result.ok .skip w') (hn : next (a.put o.dst undef) w') : o.wp V.P a w next Q := by
  unfold Oper.wp
  rw [h]
  exact hn
theorem run_alloc (T : TypeId) (ti : TI) (hT : V.Γ T = some ti) (w : World) :
    (Instr.alloc T true (.tuple #[])).run V.P w = Result.ok (.pointer (some ⟨w.heap.size, 0, none⟩)) (w.alloc (.cells (ti.zero.map (conc bt0)).toArray T)) := by
  obtain ⟨z, hz, hc⟩ := (V.gok T ti hT).zero w
  simp [Instr.alloc, hz, newVar, newRow, hc]
theorem run_box (T : TypeId) (v : Value) (w : World) :
    (Instr.box T v).run V.P w = Result.ok (.pointer (some ⟨w.heap.size, 0, none⟩)) (w.alloc (.cells v.cells T)) := by
  simp [Instr.box, newVar, newRow]
theorem addr_plus (b o j : Nat) : (⟨b, o, none⟩ : Addr).add j = ⟨b, o + j, none⟩ := by unfold Addr.add; split <;> simp_all
theorem run_load (T : TypeId) (ti : TI) (hT : V.Γ T = some ti) {c : List SV} {β : Nat → Bt} {b base off : Nat} {x : SV} (hx : XM ti.agg off ti.size c = some x) (hl : off + ti.size ≤ c.length)
    (hh : Lies w b base (c.map (conc β))) : (Instr.loadAt T (.pointer (some ⟨b, base + off, none⟩))).run V.P w = Result.ok (conc β x) w := by
  have hz := (V.gok T ti hT).size w
  have ha := (V.gok T ti hT).agg w
  unfold XM at hx
  cases hg : ti.agg
  · rw [hg] at ha hx
    simp only [Bool.false_eq_true, if_false] at hx
    have hc' := hh off (conc β x) (by rw [List.getElem?_map, hx]; rfl)
    simp [Instr.loadAt, Instr.sureAddr, loadVar, ha, hc']
  · rw [hg] at ha hx
    simp only [if_true, Option.some.injEq] at hx
    subst hx
    have hlen : (((c.drop off).take ti.size).map (conc β)).length = ti.size := by simp; omega
    have := run_loadCells_list (P := V.P) w ⟨b, base + off, none⟩ (((c.drop off).take ti.size).map (conc β)) (fun j v hv => by
      rw [addr_plus, Nat.add_assoc]
      refine hh (off + j) v ?_
      simp only [List.getElem?_map, List.getElem?_take, List.getElem?_drop] at hv ⊢
      split at hv
      · exact hv
      · simp at hv)
    rw [hlen] at this
    simp [Instr.loadAt, Instr.sureAddr, loadVar, ha, hz, this, conc, concL_map]
theorem run_storeAt (h : Wd F β fp bs w) (T : TypeId) (s : Nat) (hT : sz V.Γ T = some s) {i off : Nat} {c : List SV} {T' : TypeId} {y : SV} (hg : getB bs i = some (c, T', true)) (hy : ∀ β', Agr bs.length β β' → conc β y = conc β' y) (h1 : (cells y).all one = true) (hs : (cells y).length = s) (hl : off + s ≤ c.length) :
    ∃ w', (Instr.storeAt T (.pointer (some ⟨(β i).blk, (β i).off + off, none⟩)) (conc β y)).run V.P w = Result.ok () w' ∧ Wd F β fp (setB bs i (Xs c off (cells y))) w' := by
  have hz : (Go.sizeOf T).run V.P w = Result.ok s w := by
    unfold sz at hT
    cases ht : V.Γ T with
    | none => simp [ht] at hT
    | some ti => simp [ht] at hT; rw [← hT]; exact (V.gok T ti ht).size w
  have hcells := conc_cells' β y (isV_of_one h1)
  obtain ⟨w', hrun, hw⟩ := h.store hg (off := off) (ys := cells y) (fun β' hβ => by
    have e := congrArg Value.cells (hy β' hβ)
    rw [conc_cells' β y (isV_of_one h1), conc_cells' β' y (isV_of_one h1)] at e
    simpa using e) h1 (by omega) V.P
  refine ⟨w', ?_, hw⟩
  simp [Instr.storeAt, Instr.sureAddr, storeVar, hz, hcells, hs, hrun]
theorem evs_ok {m : Nat} (h : Fm F β m t a) {os : List Operand} {l : List SV} (e : evs t os = some l) {β' : Nat → Bt} (hβ : Agr m β β') : os.map a.eval = concL β' l := by
  rw [concL_map]; exact mapM_ev (h.ok β' hβ) e
theorem evParts_ok {m : Nat} (h : Fm F β m t a) {β' : Nat → Bt} (hβ : Agr m β β') : ∀ {ps : List (Nat × Operand)} {l : List (Nat × SV)}, Xl t ps = some l → ps.map (fun p => (p.1, a.eval p.2)) = l.map fun p => (p.1, conc β' p.2)
  | [], l, e => by simp [Xl] at e; subst e; rfl
  | (i, o) :: r, l, e => by
    simp only [Xl] at e
    split at e
    · rename_i x hx
      split at e
      · rename_i l' hl
        cases e
        simp [h.ev hx hβ, evParts_ok h hβ hl]
      · cases e
    · cases e
theorem mapM_sizes {P : Program} (w : World) : ∀ (L : List Field), (∀ f ∈ L, ∃ n, ∀ w, (Go.sizeOf f.type).run P w = Result.ok n w) →
    ∃ pl : List (Nat × Nat), (L.mapM fun (f : Field) => do pure (f.offset, ← Go.sizeOf f.type)).run P w = Result.ok pl w ∧ ∀ (i : Nat) (f : Field) (n : Nat), L[i]? = some f → (Go.sizeOf f.type).run P w = Result.ok n w → pl[i]? = some (f.offset, n)
  | [], _ => ⟨[], by simp, by simp⟩
  | f :: L, h => by
    obtain ⟨n, hn⟩ := h f (by simp)
    obtain ⟨pl, hpl, hat⟩ := mapM_sizes w L (fun g hg => h g (by simp [hg]))
    refine ⟨(f.offset, n) :: pl, ?_, fun i g m hi hm => ?_⟩
    · simp only [List.mapM_cons, Sem.run_bind, hn, Result.andThen_ok, Sem.run_pure, hpl]
    · cases i with
      | zero =>
        simp at hi
        subst hi
        rw [hn w] at hm
        injection hm with hm
        simp [hm]
      | succ i => simp at hi ⊢; exact hat i g m hi hm
theorem fill_ok (fs : List (Nat × TypeId)) (F' : Array Field) (hF : F'.toList.map (fun f => (f.offset, f.type)) = fs) (places : Array (Nat × Nat)) (hpl : ∀ (i off : Nat) (T : TypeId), fs[i]? = some (off, T) → ∀ n, sz V.Γ T = some n → places[i]? = some (off, n)) (β : Nat → Bt) :
    ∀ (ps : List (Nat × SV)) (c c' : List SV), XZ fs V.Γ ps c = some c' → Instr.fill (places[·]?) (c.map (conc β)).toArray (ps.map fun p => (p.1, conc β p.2)) = some (c'.map (conc β)).toArray
  | [], c, c', e => by simp [XZ] at e; subst e; rfl
  | (i, x) :: r, c, c', e => by
    simp only [XZ] at e
    split at e
    · rename_i off T hfs
      split at e
      · rename_i n hn
        split at e
        · rename_i hcond
          obtain ⟨hv, hl, ho⟩ := hcond
          have ih := fill_ok fs F' hF places hpl β r _ c' e
          have hcells := conc_cells' β x hv
          simp only [List.map_cons, Instr.fill, hpl i off T hfs n hn, hcells, List.size_toArray, List.length_map]
          rw [if_neg (by simp [hl]; omega)]
          rw [← ih]
          congr 1
          have hz := zip_fold off ((cells x).map (conc β)) 0 (c.map (conc β)).toArray (by simp; omega)
          rw [← Array.foldl_toList, Array.toList_zipIdx]
          simp only [Nat.add_zero, List.length_map] at hz
          rw [hz]
          simp [Xs, List.map_take, List.map_drop]
        · cases e
      · cases e
    · cases e
theorem run_build {m : Nat} {T : TypeId} {ti : TI} {fs : List (Nat × TypeId)} {ps : Array (Nat × Operand)} {l : List (Nat × SV)} {c : List SV} (hf : Fm F β m t a) (hT : V.Γ T = some ti) (hk : ti.kind = .struct fs) (hl : Xl t ps.toList = some l) (hc : XZ fs V.Γ l ti.zero = some c) {β' : Nat → Bt} (hβ : Agr m β β')
    (dst : Option Tmp) (ty : TypeId) (pos : String) (after : Array Edge) (guard : Option (Nat × Bool)) : (execOp a.eval { dst := dst, op := .build T ps, type := ty, pos := pos, after := after, guard := guard }).run V.P w = Result.ok (.value (conc β' (.agg c))) w := by
  have hok := V.gok T ti hT
  obtain ⟨d, hd, hs⟩ := hok.und
  rw [hk] at hs
  obtain ⟨Fs, rfl, hF⟩ := hs
  obtain ⟨z, hz, hzc⟩ := hok.zero w
  have hfl := hok.flat
  obtain ⟨pl, hpl, hat⟩ := mapM_sizes (P := V.P) w Fs.toList (fun f hf' => by
    have := hok.flds fs hk (f.offset, f.type) (by rw [← hF]; exact List.mem_map_of_mem hf')
    exact this)
  have hpl' : (Fs.mapM fun (f : Field) => do pure (f.offset, ← Go.sizeOf f.type)).run V.P w = Result.ok pl.toArray w := by
    rw [Array.mapM_eq_mapM_toList]
    rw [Sem.run_map, hpl]
    rfl
  have hps := evParts_ok hf hβ hl
  have hfill := fill_ok (V := V) fs Fs hF pl.toArray (fun i off T' hi n hn => by
    rw [← hF] at hi
    simp only [List.getElem?_map, Option.map_eq_some_iff, Prod.mk.injEq] at hi
    obtain ⟨fl, hfl', rfl, rfl⟩ := hi
    have hsz : (Go.sizeOf fl.type).run V.P w = Result.ok n w := by
      unfold sz at hn
      cases ht : V.Γ fl.type with
      | none => simp [ht] at hn
      | some ti' => simp [ht] at hn; rw [← hn]; exact (V.gok _ ti' ht).size w
    simpa using hat i fl n hfl' hsz) β' l ti.zero c hc
  rw [← hps, hfl β', ← hzc] at hfill
  refine run_val ?_
  simp only [Instr.build, Sem.run_bind, hz, Result.andThen_ok, run_underlying hd, hpl', Array.toList_map, hfill, conc, concL_map]
  rfl
theorem vcO_sound {dst : Option Tmp} {op : Op} {σ : St} {K : St → Prop} (h : vcO V F.n dst op σ K) {a : Act} {w : World} (hr : Rel F σ a w) (o : Oper) (hd : o.dst = dst) (ho : o.op = op) (Q : Exit → Act → World → Prop) :
    o.wp V.P a w (fun a w => ∃ σ, K σ ∧ Rel F σ a w) Q := by
  obtain ⟨β, fp, hf, hw⟩ := hr
  obtain ⟨hfit, h⟩ := h
  subst hd ho
  split at h
  · rename_i c x hp
    obtain ⟨hc, hK⟩ := h
    refine wp_of_value (pv_ok V.gok (hf.ok β (Agr.refl _ _)) hp hc w) ⟨_, hK, β, fp, hf.put hfit (fun β' hβ => ?_), hw⟩
    have h1 := pv_ok V.gok (hf.ok β (Agr.refl _ _)) hp hc w
    have h2 := pv_ok V.gok (hf.ok β' hβ) hp hc w
    rw [h1] at h2
    injection h2 with h2
    injection h2
  · rename_i hpv
    clear hpv
    obtain ⟨dst, op, ty, pos, after, guard⟩ := o
    simp only at hfit h ⊢
    cases op <;> simp only [vcM] at h
    case alloc T =>
      split at h
      · rename_i ti hT
        have hrun : (execOp a.eval { dst := dst, op := .alloc T, type := ty, pos := pos, after := after, guard := guard }).run V.P w = _ := run_val (run_alloc (V := V) T ti hT w)
        have hfl := (V.gok T ti hT).flat
        refine wp_of_value hrun ⟨_, h, upd β σ.b.length ⟨w.heap.size, 0, 0⟩, updF fp σ.b.length (· = w.heap.size), ?_, hw.alloc ti.zero T _ true (fun β' _ => by rw [hfl β'])⟩
        exact (hf.more (by simp) (upd_agr _ _ _)).put hfit (fun β' hβ => by simp only [conc]; rw [← hβ σ.b.length (by simp), upd_at])
      · cases h
    case box T x =>
      split at h
      · rename_i y hy
        obtain ⟨hv, h⟩ := h
        have hrun : (execOp a.eval { dst := dst, op := .box T x, type := ty, pos := pos, after := after, guard := guard }).run V.P w = _ := run_val (run_box (V := V) T (a.eval x) w)
        refine wp_of_value hrun ⟨_, h, upd β σ.b.length ⟨w.heap.size, 0, 0⟩, updF fp σ.b.length (· = w.heap.size), ?_, hw.alloc (cells y) T _ true (fun β' hβ => ?_)⟩
        · exact (hf.more (by simp) (upd_agr _ _ _)).put hfit (fun β' hβ => by simp only [conc]; rw [← hβ σ.b.length (by simp), upd_at])
        · rw [hf.ev hy hβ.of_upd, conc_cells' β' y hv]
      · cases h
    case load T x =>
      split at h
      · rename_i i off hx
        split at h
        · rename_i c T' m hg
          split at h
          · rename_i ti hT
            obtain ⟨hl, h⟩ := h
            split at h
            · rename_i y hy
              have hrun : ∀ β', Agr σ.b.length β β' → (execOp a.eval { dst := dst, op := .load T x, type := ty, pos := pos, after := after, guard := guard }).run V.P w = Result.ok (.value (conc β' y)) w := fun β' hβ => by
                have := run_load (V := V) T ti hT hy hl (hw.lies hg hβ)
                have hx' := hf.ev hx hβ
                simp only [conc] at hx'
                rw [← hx'] at this
                exact run_val this
              refine wp_of_value (hrun β (Agr.refl _ _)) ⟨_, h, β, fp, hf.put hfit (fun β' hβ => ?_), hw⟩
              have h1 := hrun β (Agr.refl _ _)
              rw [hrun β' hβ] at h1
              injection h1 with h1
              injection h1 with h1
              exact h1.symm
            · cases h
          · cases h
        · cases h
      · cases h
    case store T x y =>
      split at h
      · rename_i i off hx
        split at h
        · rename_i y' hy
          split at h
          · rename_i c T' m hg
            split at h
            · rename_i s hs
              obtain ⟨⟨hm, hone, hlen, hl⟩, h⟩ := h
              subst hm
              have hx' := hf.ev hx (Agr.refl _ β)
              simp only [conc] at hx'
              have hy' := hf.ev hy (Agr.refl _ β)
              obtain ⟨w', hrun, hw'⟩ := run_storeAt hw T s hs hg (y := y') (fun β' hβ => by rw [← hf.ev hy hβ, hy']) hone hlen hl
              rw [← hx', ← hy'] at hrun
              have hrun' : (execOp a.eval { dst := dst, op := .store T x y, type := ty, pos := pos, after := after, guard := guard }).run V.P w = Result.ok .skip w' := by
                show Sem.run V.P (do Instr.storeAt T (a.eval x) (a.eval y); pure Next.skip) w = _
                rw [Sem.run_bind, hrun]
                rfl
              refine wp_of_skip hrun' ⟨_, h, β, fp, ?_, hw'⟩
              exact (hf.more (by rw [setB_length]; exact Nat.le_refl _) (Agr.refl _ _)).put hfit (fun β' _ => rfl)
            · cases h
          · cases h
        · cases h
      · cases h
    case nilCheck x =>
      split at h
      · rename_i i off hx
        refine wp_of_value (v := a.eval x) (w' := w) ?_ ⟨_, h, β, fp, hf.put hfit (fun β' hβ => hf.ev hx hβ), hw⟩
        simp only [execOp]
        rw [hf.ev hx (Agr.refl _ β)]
        rfl
      · rename_i f l hx
        obtain ⟨hfn, h⟩ := h
        refine wp_of_value (v := a.eval x) (w' := w) ?_ ⟨_, h, β, fp, hf.put hfit (fun β' hβ => hf.ev hx hβ), hw⟩
        simp only [execOp]
        rw [hf.ev hx (Agr.refl _ β)]
        simp only [conc]
        cases f <;> first | rfl | cases hfn
      · rename_i f l hx
        refine wp_of_value (v := a.eval x) (w' := w) ?_ ⟨_, h, β, fp, hf.put hfit (fun β' hβ => hf.ev hx hβ), hw⟩
        simp only [execOp]
        rw [hf.ev hx (Agr.refl _ β)]
        rfl
      · cases h
    case call cl =>
      obtain ⟨callee, args, ts⟩ := cl
      cases callee <;> simp only at h
      rename_i fo
      split at h
      · rename_i f caps hfo
        split at h
        · rename_i l hl
          have hargs : ∀ β', Agr σ.b.length β β' → args.map a.eval = (concL β' l).toArray := fun β' hβ => by
            have := evs_ok hf hl hβ
            rw [← this]
            exact Array.ext' (by simp)
          have hexec : Enters V f → ∀ β', Agr σ.b.length β β' → (execOp a.eval { dst := dst, op := .call ⟨.value fo, args, ts⟩, type := ty, pos := pos, after := after, guard := guard }).run V.P w = Result.ok (.enter f (concL β' (l ++ caps)).toArray) w := fun he β' hβ => by
            have h1 := hf.ev hfo hβ
            have h2 := hargs β' hβ
            show Sem.run V.P (do let d ← resolve a.eval ⟨.value fo, args, ts⟩ ty; invoke d.target d.args) w = _
            simp only [resolve, h1, h2, conc, Deferred.ofValue, Sem.run_bind, Sem.run_pure, Result.andThen_ok, invoke]
            simp [concL_map]
            exact he _ _
          rcases h with ⟨r, hpc, h⟩ | ⟨R, ⟨hent, hsc⟩, h⟩
          · unfold Oper.wp
            rw [hexec hpc.enters β (Agr.refl _ _)]
            show Calls V.P f _ w _
            have hfl := concL_flat _ hpc.fa β bt0
            rw [hfl]
            refine (hpc.calls w hw.env).mono ?_
            rintro e w' ⟨rfl, hb⟩
            exact ⟨_, h, β, fp, hf.put hfit (fun β' _ => conc_flat r hpc.fr bt0 β'), hw.below hb⟩
          · unfold Oper.wp
            rw [hexec hent β (Agr.refl _ _)]
            show Calls V.P f _ w _
            refine (hsc β fp w hw.bx (fun i r hi hm k hk => ?_) hw.env).mono ?_
            · rcases hw.mine i r hi hm k hk with h1 | h1
              · exact Nat.le_trans (V.esize _ F.e0) h1
              · exact F.ownG k h1
            · rintro e w' ⟨r, bs', β₂, fp₂, hR, hβ, hle, hall, hfr, hmine, hfoot⟩
              have he := (hall β₂ (Agr.refl _ _)).1
              subst he
              refine ⟨_, h r bs' hR, β₂, fp₂, (hf.more hle hβ).put hfit (fun β' hβ' => ?_), ⟨?_, fun β' hβ' => (hall β' hβ').2, fun i r' hi hm k hk => ?_, ?_, fun i r' hi k hk => ?_⟩⟩
              · have := (hall β' hβ').1
                injection this
              · refine ⟨hfr.os.trans hw.fr.os, hfr.tape.trans hw.fr.tape, hfr.output.trans hw.fr.output, Nat.le_trans hw.fr.size hfr.size, fun k hk hn => ?_⟩
                rw [hfr.block k (Nat.lt_of_lt_of_le hk hw.fr.size) (fun ⟨i, r, hi, hm, hk'⟩ => ?_)]
                · exact hw.fr.block k hk hn
                · rcases hw.mine i r hi hm k hk' with h1 | h1
                  · omega
                  · exact hn h1
              · rcases hmine i r' hi hm k hk with h1 | ⟨j, r0, hj, hm0, hk0⟩
                · exact .inl (Nat.le_trans hw.fr.size h1)
                · exact hw.mine j r0 hj hm0 k hk0
              · have hil := hw.ini.len
                exact ⟨fun i hi => (hw.ini.agr i hi).trans (hβ i (by omega)), Nat.le_trans hil hle⟩
              · rcases hfoot i r' hi k hk with h1 | ⟨j, r0, hj, hk0⟩
                · exact .inl (Nat.le_trans hw.fr.size h1)
                · exact hw.foot j r0 hj k hk0
        · cases h
      · rename_i f first hfo
        split at h
        · rename_i l hl
          have hargs : ∀ β', Agr σ.b.length β β' → args.map a.eval = (concL β' l).toArray := fun β' hβ => by
            have := evs_ok hf hl hβ
            rw [← this]
            exact Array.ext' (by simp)
          have hexec : Enters V f → ∀ β', Agr σ.b.length β β' → (execOp a.eval { dst := dst, op := .call ⟨.value fo, args, ts⟩, type := ty, pos := pos, after := after, guard := guard }).run V.P w = Result.ok (.enter f (concL β' (first ++ l)).toArray) w := fun he β' hβ => by
            have h1 := hf.ev hfo hβ
            have h2 := hargs β' hβ
            show Sem.run V.P (do let d ← resolve a.eval ⟨.value fo, args, ts⟩ ty; invoke d.target d.args) w = _
            simp only [resolve, h1, h2, conc, Deferred.ofValue, Sem.run_bind, Sem.run_pure, Result.andThen_ok, invoke]
            simp [concL_map]
            exact he _ _
          rcases h with ⟨r, hpc, h⟩ | ⟨R, ⟨hent, hsc⟩, h⟩
          · unfold Oper.wp
            rw [hexec hpc.enters β (Agr.refl _ _)]
            show Calls V.P f _ w _
            have hfl := concL_flat _ hpc.fa β bt0
            rw [hfl]
            refine (hpc.calls w hw.env).mono ?_
            rintro e w' ⟨rfl, hb⟩
            exact ⟨_, h, β, fp, hf.put hfit (fun β' _ => conc_flat r hpc.fr bt0 β'), hw.below hb⟩
          · unfold Oper.wp
            rw [hexec hent β (Agr.refl _ _)]
            show Calls V.P f _ w _
            refine (hsc β fp w hw.bx (fun i r hi hm k hk => ?_) hw.env).mono ?_
            · rcases hw.mine i r hi hm k hk with h1 | h1
              · exact Nat.le_trans (V.esize _ F.e0) h1
              · exact F.ownG k h1
            · rintro e w' ⟨r, bs', β₂, fp₂, hR, hβ, hle, hall, hfr, hmine, hfoot⟩
              have he := (hall β₂ (Agr.refl _ _)).1
              subst he
              refine ⟨_, h r bs' hR, β₂, fp₂, (hf.more hle hβ).put hfit (fun β' hβ' => ?_), ⟨?_, fun β' hβ' => (hall β' hβ').2, fun i r' hi hm k hk => ?_, ?_, fun i r' hi k hk => ?_⟩⟩
              · have := (hall β' hβ').1
                injection this
              · refine ⟨hfr.os.trans hw.fr.os, hfr.tape.trans hw.fr.tape, hfr.output.trans hw.fr.output, Nat.le_trans hw.fr.size hfr.size, fun k hk hn => ?_⟩
                rw [hfr.block k (Nat.lt_of_lt_of_le hk hw.fr.size) (fun ⟨i, r, hi, hm, hk'⟩ => ?_)]
                · exact hw.fr.block k hk hn
                · rcases hw.mine i r hi hm k hk' with h1 | h1
                  · omega
                  · exact hn h1
              · rcases hmine i r' hi hm k hk with h1 | ⟨j, r0, hj, hm0, hk0⟩
                · exact .inl (Nat.le_trans hw.fr.size h1)
                · exact hw.mine j r0 hj hm0 k hk0
              · have hil := hw.ini.len
                exact ⟨fun i hi => (hw.ini.agr i hi).trans (hβ i (by omega)), Nat.le_trans hil hle⟩
              · rcases hfoot i r' hi k hk with h1 | ⟨j, r0, hj, hk0⟩
                · exact .inl (Nat.le_trans hw.fr.size h1)
                · exact hw.foot j r0 hj k hk0
        · cases h
      · cases h
    case build T ps =>
      split at h
      · rename_i ti hT
        split at h
        · rename_i fs hk
          split at h
          · rename_i l hl
            split at h
            · rename_i c hc
              have hrun := fun β' (hβ : Agr σ.b.length β β') => run_build (w := w) hf hT hk hl hc hβ dst ty pos after guard
              refine wp_of_value (hrun β (Agr.refl _ _)) ⟨_, h, β, fp, hf.put hfit (fun β' hβ => ?_), hw⟩
              have h1 := hrun β (Agr.refl _ _)
              rw [hrun β' hβ] at h1
              injection h1 with h1
              injection h1 with h1
              exact h1.symm
            · cases h
          · cases h
        · cases h
      · cases h
end
end Vc
namespace Vc
open Go Go.RowKit Wf
theorem least {p : Nat → Prop} (h : ∃ n, p n) : ∃ n, p n ∧ ∀ k, p k → n ≤ k := by
  obtain ⟨n, hn⟩ := h
  induction n using Nat.strongRecOn with
  | _ n ih =>
    by_cases h : ∃ k, k < n ∧ p k
    · obtain ⟨k, hk, hp⟩ := h
      exact ih k hk hp
    · exact ⟨n, hn, fun k hk => Nat.le_of_not_lt fun hlt => h ⟨k, hlt, hk⟩⟩
section
variable {V : Cx} {F : Fx V}
theorem gval_ok {ops : Array Oper} {σt : List (Nat × SV)} {β : Nat → Bt} {a : Act} (hf : FrOK β F.n σt a) {j d : Nat} {b : Bool} (h : gval (ops.toList.map (·.dst)) σt j = some (d, b)) :
    yielded ops a.tmps j = some b ∧ a.tmps.getD d undef = .bool b := by
  unfold gval at h
  split at h
  · rename_i d' hd
    split at h
    · rename_i b' hb
      cases h
      have hg := hf.get _ _ hb
      simp only [conc] at hg
      refine ⟨?_, hg⟩
      have hd' : (ops[j]?).bind (·.dst) = some d := by
        simp only [List.getElem?_map, Option.map_eq_some_iff] at hd
        obtain ⟨o, ho, hod⟩ := hd
        rw [show ops[j]? = some o by simpa using ho]
        simpa using hod
      have hlt : d < a.tmps.size := by
        rcases Nat.lt_or_ge d a.tmps.size with h' | h'
        · exact h'
        · simp [h'] at hg; cases hg
      unfold yielded
      rw [hd']
      simp [hlt] at hg ⊢
      rw [hg]
    · cases h
  · cases h
theorem Fm.relit {β : Nat → Bt} {m : Nat} {t : List (Nat × SV)} {a : Act} (h : Fm F β m t a) {d : Nat} {x : SV} (hx : ∀ β', Agr m β β' → a.tmps.getD d undef = conc β' x) : Fm F β m ((d, x) :: t) a :=
  ⟨fun β' hβ => ⟨(h.ok β' hβ).size, (h.ok β' hβ).defers, fun e y hy => by
    simp only [lk] at hy
    split at hy
    · rename_i he; subst he; cases hy; exact hx β' hβ
    · exact (h.ok β' hβ).get e y hy⟩⟩
def resS (V : Cx) (σ : St) : ResultVar → Option SV
  | .tmp t => lk t σ.t
  | .cell p T => match lk p σ.t with
    | some (.p i off) => match getB σ.b i with
      | some (c, _, _) => match V.Γ T with
        | some ti => if off + ti.size ≤ c.length then XM ti.agg off ti.size c else none
        | none => none
      | none => none
    | _ => none
def XT (V : Cx) (σ : St) : List ResultVar → Option (List SV)
  | [] => some []
  | r :: rs => match resS V σ r with
    | some x => match XT V σ rs with
      | some l => some (x :: l)
      | none => none
    | none => none
def tupS : List SV → SV
  | [x] => x
  | l => .tup l
def kret (V : Cx) (rs : List ResultVar) (K : SV → List Res → Prop) : Exit → St → Prop
  | .ret, σ => match XT V σ rs with
    | some l => K (tupS l) σ.b
    | none => False
  | .normal, σ => match XT V σ rs with
    | some l => K (tupS l) σ.b
    | none => False
  | _, _ => False
def resRun (tmps : Array Value) : ResultVar → Sem Value
  | .tmp t => pure (tmps.getD t undef)
  | .cell p t => do loadVar t (← asAddr (tmps.getD p undef))
theorem resS_ok {σ : St} {r : ResultVar} {x : SV} (h : resS V σ r = some x) {β : Nat → Bt} {fp : Nat → Nat → Prop} {a : Act} {w : World} (hf : Fm F β σ.b.length σ.t a) (hw : Wd F β fp σ.b w) {β' : Nat → Bt} (hβ : Agr σ.b.length β β') :
    Sem.run V.P (resRun a.tmps r) w = Result.ok (conc β' x) w := by
  cases r with
  | tmp t => simp only [resS] at h; simp only [resRun]; rw [(hf.ok β' hβ).get t x h]; rfl
  | cell p T =>
    simp only [resS] at h
    split at h
    · rename_i i off hp
      split at h
      · rename_i c T' m hg
        split at h
        · rename_i ti hT
          split at h
          · rename_i hl
            have := run_load (V := V) T ti hT h hl (hw.lies hg hβ)
            simp only [resRun]
            rw [(hf.ok β' hβ).get p _ hp]
            simpa [conc, asAddr, Instr.loadAt, Instr.sureAddr] using this
          · cases h
        · cases h
      · cases h
    · cases h
theorem ressS_ok {σ : St} {β : Nat → Bt} {fp : Nat → Nat → Prop} {a : Act} {w : World} (hf : Fm F β σ.b.length σ.t a) (hw : Wd F β fp σ.b w) {β' : Nat → Bt} (hβ : Agr σ.b.length β β') :
    ∀ (rs : List ResultVar) (l : List SV), XT V σ rs = some l → (rs.mapM (resRun a.tmps)).run V.P w = Result.ok (concL β' l) w
  | [], l, h => by simp [XT] at h; subst h; simp [concL]
  | r :: rs, l, h => by
    simp only [XT] at h
    split at h
    · rename_i x hx
      split at h
      · rename_i l' hl
        cases h
        rw [List.mapM_cons, Sem.run_bind, resS_ok hx hf hw hβ, Result.andThen_ok, Sem.run_bind, ressS_ok hf hw hβ rs l' hl]
        rfl
      · cases h
    · cases h
theorem results_ok {fn : Func} {σ : St} {β : Nat → Bt} {fp : Nat → Nat → Prop} {a : Act} {w : World} (hf : Fm F β σ.b.length σ.t a) (hw : Wd F β fp σ.b w) {β' : Nat → Bt} (hβ : Agr σ.b.length β β') {l : List SV} (h : XT V σ fn.results.toList = some l) :
    (results fn a.tmps).run V.P w = Result.ok (conc β' (tupS l)) w := by
  have := ressS_ok hf hw hβ fn.results.toList l h
  show Sem.run V.P (do
    let vs ← fn.results.mapM (resRun a.tmps)
    pure (if h : vs.size = 1 then vs[0] else .tuple vs)) w = _
  rw [Sem.run_bind, Array.mapM_eq_mapM_toList, Sem.run_map, this]
  simp only [Result.andThen_ok, Sem.run_pure]
  congr 1
  match l with
  | [] => simp [concL, tupS, conc]
  | [x] => simp [concL, tupS]
  | x :: y :: r => simp [concL, tupS, conc]
def Yj : Nat → List SV → List (Nat × SV)
  | _, [] => []
  | i, x :: r => (i, x) :: Yj (i + 1) r
theorem initT_ok (β : Nat → Bt) : ∀ (xs0 : List SV) (i d : Nat) (x : SV), lk d (Yj i xs0) = some x → i ≤ d ∧ (concL β xs0)[d - i]? = some (conc β x)
  | [], i, d, x, h => by simp [Yj, lk] at h
  | y :: r, i, d, x, h => by
    simp only [Yj, lk] at h
    split at h
    · rename_i e; subst e; cases h; simp [concL]
    · have := initT_ok β r (i + 1) d x h
      refine ⟨by omega, ?_⟩
      rw [show d - i = (d - (i + 1)) + 1 by omega]
      simpa [concL] using this.2
theorem concL_length (β : Nat → Bt) (l : List SV) : (concL β l).length = l.length := by rw [concL_map]; simp
def within (m : Nat) : SV → Bool
  | .p i _ => decide (i < m)
  | .o i _ => decide (i < m)
  | .agg l => withinL l
  | .tup l => withinL l
  | .fn _ l => withinL l
  | .mv _ l => withinL l
  | _ => true
where withinL : List SV → Bool
  | [] => true
  | x :: r => within m x && withinL r
mutual
theorem conc_within (m : Nat) (x : SV) (h : within m x = true) (β β' : Nat → Bt) (hb : Agr m β β') : conc β x = conc β' x := by
  cases x <;> simp only [within, decide_eq_true_eq] at h <;> simp only [conc]
  · rw [hb _ h]
  · rw [hb _ h]
  · rw [concL_within m _ h β β' hb]
  · rw [concL_within m _ h β β' hb]
  · rw [concL_within m _ h β β' hb]
  · rw [concL_within m _ h β β' hb]
theorem concL_within (m : Nat) (l : List SV) (h : within.withinL m l = true) (β β' : Nat → Bt) (hb : Agr m β β') : concL β l = concL β' l := by
  cases l with
  | nil => rfl
  | cons x r =>
    simp only [within.withinL, Bool.and_eq_true] at h
    simp only [concL]
    rw [conc_within m x h.1 β β' hb, concL_within m r h.2 β β' hb]
end
theorem sc_core {V : Cx} {f : FuncId} {fn : Func} {c : Code} {args : List SV} {bs : List Res} {R : SV → List Res → Prop} {n : Nat} {rs : Array ResultVar} (hf : V.P.funcs[f]? = some fn) (hb : fn.body = some c) (hn : fn.ntmps = n) (hr : fn.results = rs) (hent : Enters V f)
    (hlen : args.length ≤ n) (hsc : ∀ β β', Agr bs.length β β' → concL β args = concL β' args) (h : ∀ F : Fx V, F.n = n → ∀ a w, Rel F ⟨Yj 0 args, bs⟩ a w → c.wp V.P (Qof F (kret V rs.toList R)) a w) : SC V f args bs R := by
  subst hn hr
  refine ⟨hent, fun β fp w hbx hG hE => ?_⟩
  let F : Fx V := ⟨fn.ntmps, w, fun k => ∃ i r, bs[i]? = some r ∧ r.mine = true ∧ fp i k, hE, fun k ⟨i, r, hi, hm, hk⟩ => hG i r hi hm k hk, β, bs, fun k => ∃ i r, bs[i]? = some r ∧ fp i k⟩
  refine calls_of_wp hf hb ?_
  have hrel : Rel F ⟨Yj 0 args, bs⟩ { tmps := (concL β args).toArray ++ Array.replicate (fn.ntmps - (concL β args).toArray.size) undef, defers := [] } w := by
    refine ⟨β, fp, ⟨fun β' hβ => ⟨by simp [concL_length, F]; omega, rfl, fun d x hd => ?_⟩⟩, ⟨FrW.refl _ _, hbx, fun i r hi hm k hk => .inr ⟨i, r, hi, hm, hk⟩, ⟨Agr.refl _ _, Nat.le_refl _⟩, fun i r hi k hk => .inr ⟨i, r, hi, hk⟩⟩⟩
    have h1 := (initT_ok β' args 0 d x hd).2
    rw [Nat.sub_zero] at h1
    rw [hsc β β' hβ]
    have hlt : d < (concL β' args).length := (List.getElem?_eq_some_iff.1 h1).1
    have h2 : ((concL β' args).toArray ++ Array.replicate (fn.ntmps - (concL β' args).toArray.size) undef)[d]? = some (conc β' x) := by
      rw [Array.getElem?_append_left (by simpa using hlt)]
      simpa using h1
    rw [Array.getD_eq_getD_getElem?, h2]
    rfl
  refine wp_mono (h F rfl _ w hrel) ?_
  rintro e a w' ⟨σ, hk, β₂, fp₂, hfm, hwd⟩
  have key : ∀ l, XT V σ fn.results.toList = some l → R (tupS l) σ.b → a.defers = [] ∧ ∃ v, (results fn a.tmps).run V.P w' = Result.ok v w' ∧ (∃ r bs' β₂ fp₂, R r bs' ∧ Agr bs.length β β₂ ∧ bs.length ≤ bs'.length ∧ (∀ β', Agr bs'.length β₂ β' → Ending.returned v = .returned (conc β' r) ∧ BxOK β' fp₂ w' bs') ∧
      FrW (fun k => ∃ i r, bs[i]? = some r ∧ r.mine = true ∧ fp i k) w w' ∧
      (∀ i r', bs'[i]? = some r' → r'.mine = true → ∀ k, fp₂ i k → w.heap.size ≤ k ∨ ∃ j r, bs[j]? = some r ∧ r.mine = true ∧ fp j k) ∧
      (∀ i r', bs'[i]? = some r' → ∀ k, fp₂ i k → w.heap.size ≤ k ∨ ∃ j r, bs[j]? = some r ∧ fp j k)) := by
    intro l hl hR
    refine ⟨(hfm.ok β₂ (Agr.refl _ _)).defers, _, results_ok hfm hwd (Agr.refl _ β₂) hl, tupS l, σ.b, β₂, fp₂, hR, hwd.ini.agr, hwd.ini.len, fun β' hβ => ⟨?_, hwd.bx β' hβ⟩, hwd.fr, hwd.mine, hwd.foot⟩
    have h1 := results_ok hfm hwd (Agr.refl _ β₂) hl
    rw [results_ok hfm hwd hβ hl] at h1
    injection h1 with h1
    rw [h1]
  cases e <;> simp only [kret] at hk
  case normal =>
    split at hk
    · rename_i l hl; exact key l hl hk
    · cases hk
  case ret =>
    split at hk
    · rename_i l hl; exact key l hl hk
    · cases hk
theorem pc_of_sc {V : Cx} {f : FuncId} {args : List SV} {r : SV} (fa : flat.flatL args = true) (fr : flat r = true) (h : SC V f args [] fun r' _ => r' = r) : PC V f args r := by
  refine ⟨h.1, fa, fr, fun w hE => ?_⟩
  refine (h.2 bt0 (fun _ _ => False) w (fun β' _ => ⟨by simp, by simp, by simp⟩) (by simp) hE).mono ?_
  rintro e w' ⟨r', bs', β₂, fp₂, rfl, -, -, hall, hfr, -⟩
  refine ⟨?_, ?_⟩
  · rw [(hall β₂ (Agr.refl _ _)).1, conc_flat r' fr β₂ bt0]
  · exact ⟨hfr.os, hfr.tape, hfr.output, hfr.size, fun k hk => hfr.block k hk (by simp)⟩
end
end Vc
/- The types of this program, for the calculus of conditions. -/
set_option linter.all false
namespace Go.Proofs
open Go Vc
set_option maxRecDepth 100000
set_option linter.unusedSimpArgs false
theorem Tryd.ty1 : Vc.TyOK Tryd.prog 1 ⟨1, 8, false, [.v .nilFunc], .other, false⟩ := ⟨Tryd.sizeOf1, Tryd.isAgg1, fun w => ⟨_, Tryd.zeroValue1 w, by simp [Vc.conc, Value.cells]⟩, fun _ => by simp [Vc.conc], rfl, ⟨_, Tryd.underlying1, trivial⟩, (fun _ h => (by cases h)), (fun h => (by cases h)), ⟨Tryd.t1, _, by kernel_rfl, rfl, rfl, rfl, by simp [Vc.conc, Value.cells]⟩⟩
theorem Tryd.ty2 : Vc.TyOK Tryd.prog 2 ⟨1, 8, false, [.int .i64 0], .int .i64, false⟩ := ⟨Tryd.sizeOf2, Tryd.isAgg2, fun w => ⟨_, Tryd.zeroValue2 w, by simp [Vc.conc, Value.cells]⟩, fun _ => by simp [Vc.conc], rfl, ⟨_, Tryd.underlying2, rfl⟩, (fun _ h => (by cases h)), (fun h => (by cases h)), ⟨Tryd.t2, _, by kernel_rfl, rfl, rfl, rfl, by simp [Vc.conc, Value.cells]⟩⟩
theorem Tryd.ty3 : Vc.TyOK Tryd.prog 3 ⟨1, 8, false, [.int .i64 0], .int .i64, false⟩ := ⟨Tryd.sizeOf3, Tryd.isAgg3, fun w => ⟨_, Tryd.zeroValue3 w, by simp [Vc.conc, Value.cells]⟩, fun _ => by simp [Vc.conc], rfl, ⟨_, Tryd.underlying3, rfl⟩, (fun _ h => (by cases h)), (fun h => (by cases h)), ⟨Tryd.t3, _, by kernel_rfl, rfl, rfl, rfl, by simp [Vc.conc, Value.cells]⟩⟩
theorem Tryd.ty4 : Vc.TyOK Tryd.prog 4 ⟨1, 1, false, [.bool false], .bool, false⟩ := ⟨Tryd.sizeOf4, Tryd.isAgg4, fun w => ⟨_, Tryd.zeroValue4 w, by simp [Vc.conc, Value.cells]⟩, fun _ => by simp [Vc.conc], rfl, ⟨_, Tryd.underlying4, rfl⟩, (fun _ h => (by cases h)), (fun h => (by cases h)), ⟨Tryd.t4, _, by kernel_rfl, rfl, rfl, rfl, by simp [Vc.conc, Value.cells]⟩⟩
theorem Tryd.ty5 : Vc.TyOK Tryd.prog 5 ⟨1, 1, false, [.int .u8 0], .int .u8, false⟩ := ⟨Tryd.sizeOf5, Tryd.isAgg5, fun w => ⟨_, Tryd.zeroValue5 w, by simp [Vc.conc, Value.cells]⟩, fun _ => by simp [Vc.conc], rfl, ⟨_, Tryd.underlying5, rfl⟩, (fun _ h => (by cases h)), (fun h => (by cases h)), ⟨Tryd.t5, _, by kernel_rfl, rfl, rfl, rfl, by simp [Vc.conc, Value.cells]⟩⟩
theorem Tryd.ty6 : Vc.TyOK Tryd.prog 6 ⟨1, 1, false, [.int .u8 0], .int .u8, false⟩ := ⟨Tryd.sizeOf6, Tryd.isAgg6, fun w => ⟨_, Tryd.zeroValue6 w, by simp [Vc.conc, Value.cells]⟩, fun _ => by simp [Vc.conc], rfl, ⟨_, Tryd.underlying6, rfl⟩, (fun _ h => (by cases h)), (fun h => (by cases h)), ⟨Tryd.t6, _, by kernel_rfl, rfl, rfl, rfl, by simp [Vc.conc, Value.cells]⟩⟩
theorem Tryd.ty7 : Vc.TyOK Tryd.prog 7 ⟨4, 24, true, [.int .i64 0, .int .i64 0, .bool false, .int .u8 0], .struct [(0, 2), (1, 3), (2, 4), (3, 6)], false⟩ := ⟨Tryd.sizeOf7, Tryd.isAgg7, fun w => ⟨_, Tryd.zeroValue7 w, by simp [Vc.conc, Value.cells]⟩, fun _ => by simp [Vc.conc], rfl, ⟨_, Tryd.underlying7, ⟨_, rfl, rfl⟩⟩, (fun fs h f hf => by cases h; simp only [List.mem_cons, List.not_mem_nil, or_false] at hf; rcases hf with rfl | rfl | rfl | rfl <;> first | exact ⟨_, Tryd.sizeOf2⟩ | exact ⟨_, Tryd.sizeOf3⟩ | exact ⟨_, Tryd.sizeOf4⟩ | exact ⟨_, Tryd.sizeOf6⟩), (fun h => (by cases h)), ⟨Tryd.t7, _, by kernel_rfl, rfl, rfl, rfl, by simp [Vc.conc, Value.cells]⟩⟩
theorem Tryd.ty8 : Vc.TyOK Tryd.prog 8 ⟨4, 24, true, [.int .i64 0, .int .i64 0, .bool false, .int .u8 0], .struct [(0, 2), (1, 3), (2, 4), (3, 6)], false⟩ := ⟨Tryd.sizeOf8, Tryd.isAgg8, fun w => ⟨_, Tryd.zeroValue8 w, by simp [Vc.conc, Value.cells]⟩, fun _ => by simp [Vc.conc], rfl, ⟨_, Tryd.underlying8, ⟨_, rfl, rfl⟩⟩, (fun fs h f hf => by cases h; simp only [List.mem_cons, List.not_mem_nil, or_false] at hf; rcases hf with rfl | rfl | rfl | rfl <;> first | exact ⟨_, Tryd.sizeOf2⟩ | exact ⟨_, Tryd.sizeOf3⟩ | exact ⟨_, Tryd.sizeOf4⟩ | exact ⟨_, Tryd.sizeOf6⟩), (fun h => (by cases h)), ⟨Tryd.t8, _, by kernel_rfl, rfl, rfl, rfl, by simp [Vc.conc, Value.cells]⟩⟩
theorem Tryd.ty9 : Vc.TyOK Tryd.prog 9 ⟨1, 16, false, [.str []], .str, false⟩ := ⟨Tryd.sizeOf9, Tryd.isAgg9, fun w => ⟨_, Tryd.zeroValue9 w, by simp [Vc.conc, Value.cells]⟩, fun _ => by simp [Vc.conc], rfl, ⟨_, Tryd.underlying9, rfl⟩, (fun _ h => (by cases h)), (fun h => (by cases h)), ⟨Tryd.t9, _, by kernel_rfl, rfl, rfl, rfl, by simp [Vc.conc, Value.cells]⟩⟩
theorem Tryd.ty10 : Vc.TyOK Tryd.prog 10 ⟨1, 16, false, [.str []], .str, false⟩ := ⟨Tryd.sizeOf10, Tryd.isAgg10, fun w => ⟨_, Tryd.zeroValue10 w, by simp [Vc.conc, Value.cells]⟩, fun _ => by simp [Vc.conc], rfl, ⟨_, Tryd.underlying10, rfl⟩, (fun _ h => (by cases h)), (fun h => (by cases h)), ⟨Tryd.t10, _, by kernel_rfl, rfl, rfl, rfl, by simp [Vc.conc, Value.cells]⟩⟩
theorem Tryd.ty11 : Vc.TyOK Tryd.prog 11 ⟨1, 16, false, [.str []], .str, false⟩ := ⟨Tryd.sizeOf11, Tryd.isAgg11, fun w => ⟨_, Tryd.zeroValue11 w, by simp [Vc.conc, Value.cells]⟩, fun _ => by simp [Vc.conc], rfl, ⟨_, Tryd.underlying11, rfl⟩, (fun _ h => (by cases h)), (fun h => (by cases h)), ⟨Tryd.t11, _, by kernel_rfl, rfl, rfl, rfl, by simp [Vc.conc, Value.cells]⟩⟩
theorem Tryd.ty12 : Vc.TyOK Tryd.prog 12 ⟨1, 8, false, [.int .u64 0], .int .u64, false⟩ := ⟨Tryd.sizeOf12, Tryd.isAgg12, fun w => ⟨_, Tryd.zeroValue12 w, by simp [Vc.conc, Value.cells]⟩, fun _ => by simp [Vc.conc], rfl, ⟨_, Tryd.underlying12, rfl⟩, (fun _ h => (by cases h)), (fun h => (by cases h)), ⟨Tryd.t12, _, by kernel_rfl, rfl, rfl, rfl, by simp [Vc.conc, Value.cells]⟩⟩
theorem Tryd.ty13 : Vc.TyOK Tryd.prog 13 ⟨2, 24, true, [.str [], .int .u64 0], .struct [(0, 9), (1, 12)], false⟩ := ⟨Tryd.sizeOf13, Tryd.isAgg13, fun w => ⟨_, Tryd.zeroValue13 w, by simp [Vc.conc, Value.cells]⟩, fun _ => by simp [Vc.conc], rfl, ⟨_, Tryd.underlying13, ⟨_, rfl, rfl⟩⟩, (fun fs h f hf => by cases h; simp only [List.mem_cons, List.not_mem_nil, or_false] at hf; rcases hf with rfl | rfl <;> first | exact ⟨_, Tryd.sizeOf9⟩ | exact ⟨_, Tryd.sizeOf12⟩), (fun h => (by cases h)), ⟨Tryd.t13, _, by kernel_rfl, rfl, rfl, rfl, by simp [Vc.conc, Value.cells]⟩⟩
theorem Tryd.ty14 : Vc.TyOK Tryd.prog 14 ⟨2, 24, true, [.str [], .int .u64 0], .struct [(0, 9), (1, 12)], false⟩ := ⟨Tryd.sizeOf14, Tryd.isAgg14, fun w => ⟨_, Tryd.zeroValue14 w, by simp [Vc.conc, Value.cells]⟩, fun _ => by simp [Vc.conc], rfl, ⟨_, Tryd.underlying14, ⟨_, rfl, rfl⟩⟩, (fun fs h f hf => by cases h; simp only [List.mem_cons, List.not_mem_nil, or_false] at hf; rcases hf with rfl | rfl <;> first | exact ⟨_, Tryd.sizeOf9⟩ | exact ⟨_, Tryd.sizeOf12⟩), (fun h => (by cases h)), ⟨Tryd.t14, _, by kernel_rfl, rfl, rfl, rfl, by simp [Vc.conc, Value.cells]⟩⟩
theorem Tryd.ty15 : Vc.TyOK Tryd.prog 15 ⟨1, 8, false, [.v (.pointer none)], .ptr 148, false⟩ := ⟨Tryd.sizeOf15, Tryd.isAgg15, fun w => ⟨_, Tryd.zeroValue15 w, by simp [Vc.conc, Value.cells]⟩, fun _ => by simp [Vc.conc], rfl, ⟨_, Tryd.underlying15, rfl⟩, (fun _ h => (by cases h)), (fun h => (by cases h)), ⟨Tryd.t15, _, by kernel_rfl, rfl, rfl, rfl, by simp [Vc.conc, Value.cells]⟩⟩
theorem Tryd.ty16 : Vc.TyOK Tryd.prog 16 ⟨1, 8, false, [.v (.pointer none)], .ptr 151, false⟩ := ⟨Tryd.sizeOf16, Tryd.isAgg16, fun w => ⟨_, Tryd.zeroValue16 w, by simp [Vc.conc, Value.cells]⟩, fun _ => by simp [Vc.conc], rfl, ⟨_, Tryd.underlying16, rfl⟩, (fun _ h => (by cases h)), (fun h => (by cases h)), ⟨Tryd.t16, _, by kernel_rfl, rfl, rfl, rfl, by simp [Vc.conc, Value.cells]⟩⟩
theorem Tryd.ty17 : Vc.TyOK Tryd.prog 17 ⟨1, 8, false, [.v (.pointer none)], .ptr 158, false⟩ := ⟨Tryd.sizeOf17, Tryd.isAgg17, fun w => ⟨_, Tryd.zeroValue17 w, by simp [Vc.conc, Value.cells]⟩, fun _ => by simp [Vc.conc], rfl, ⟨_, Tryd.underlying17, rfl⟩, (fun _ h => (by cases h)), (fun h => (by cases h)), ⟨Tryd.t17, _, by kernel_rfl, rfl, rfl, rfl, by simp [Vc.conc, Value.cells]⟩⟩
theorem Tryd.ty18 : Vc.TyOK Tryd.prog 18 ⟨1, 8, true, [.v (.pointer none)], .struct [(0, 17)], false⟩ := ⟨Tryd.sizeOf18, Tryd.isAgg18, fun w => ⟨_, Tryd.zeroValue18 w, by simp [Vc.conc, Value.cells]⟩, fun _ => by simp [Vc.conc], rfl, ⟨_, Tryd.underlying18, ⟨_, rfl, rfl⟩⟩, (fun fs h f hf => by cases h; simp only [List.mem_cons, List.not_mem_nil, or_false] at hf; rcases hf with rfl <;> first | exact ⟨_, Tryd.sizeOf17⟩), (fun h => (by cases h)), ⟨Tryd.t18, _, by kernel_rfl, rfl, rfl, rfl, by simp [Vc.conc, Value.cells]⟩⟩
theorem Tryd.ty19 : Vc.TyOK Tryd.prog 19 ⟨1, 8, true, [.v (.pointer none)], .struct [(0, 17)], false⟩ := ⟨Tryd.sizeOf19, Tryd.isAgg19, fun w => ⟨_, Tryd.zeroValue19 w, by simp [Vc.conc, Value.cells]⟩, fun _ => by simp [Vc.conc], rfl, ⟨_, Tryd.underlying19, ⟨_, rfl, rfl⟩⟩, (fun fs h f hf => by cases h; simp only [List.mem_cons, List.not_mem_nil, or_false] at hf; rcases hf with rfl <;> first | exact ⟨_, Tryd.sizeOf17⟩), (fun h => (by cases h)), ⟨Tryd.t19, _, by kernel_rfl, rfl, rfl, rfl, by simp [Vc.conc, Value.cells]⟩⟩
theorem Tryd.ty20 : Vc.TyOK Tryd.prog 20 ⟨1, 16, false, [.v .nilIface], .other, false⟩ := ⟨Tryd.sizeOf20, Tryd.isAgg20, fun w => ⟨_, Tryd.zeroValue20 w, by simp [Vc.conc, Value.cells]⟩, fun _ => by simp [Vc.conc], rfl, ⟨_, Tryd.underlying20, trivial⟩, (fun _ h => (by cases h)), (fun h => (by cases h)), ⟨Tryd.t20, _, by kernel_rfl, rfl, rfl, rfl, by simp [Vc.conc, Value.cells]⟩⟩
theorem Tryd.ty21 : Vc.TyOK Tryd.prog 21 ⟨1, 4, false, [.int .i32 0], .int .i32, false⟩ := ⟨Tryd.sizeOf21, Tryd.isAgg21, fun w => ⟨_, Tryd.zeroValue21 w, by simp [Vc.conc, Value.cells]⟩, fun _ => by simp [Vc.conc], rfl, ⟨_, Tryd.underlying21, rfl⟩, (fun _ h => (by cases h)), (fun h => (by cases h)), ⟨Tryd.t21, _, by kernel_rfl, rfl, rfl, rfl, by simp [Vc.conc, Value.cells]⟩⟩
theorem Tryd.ty22 : Vc.TyOK Tryd.prog 22 ⟨1, 8, false, [.v .nilFunc], .other, false⟩ := ⟨Tryd.sizeOf22, Tryd.isAgg22, fun w => ⟨_, Tryd.zeroValue22 w, by simp [Vc.conc, Value.cells]⟩, fun _ => by simp [Vc.conc], rfl, ⟨_, Tryd.underlying22, trivial⟩, (fun _ h => (by cases h)), (fun h => (by cases h)), ⟨Tryd.t22, _, by kernel_rfl, rfl, rfl, rfl, by simp [Vc.conc, Value.cells]⟩⟩
theorem Tryd.ty23 : Vc.TyOK Tryd.prog 23 ⟨1, 8, false, [.v .nilFunc], .other, false⟩ := ⟨Tryd.sizeOf23, Tryd.isAgg23, fun w => ⟨_, Tryd.zeroValue23 w, by simp [Vc.conc, Value.cells]⟩, fun _ => by simp [Vc.conc], rfl, ⟨_, Tryd.underlying23, trivial⟩, (fun _ h => (by cases h)), (fun h => (by cases h)), ⟨Tryd.t23, _, by kernel_rfl, rfl, rfl, rfl, by simp [Vc.conc, Value.cells]⟩⟩
theorem Tryd.ty24 : Vc.TyOK Tryd.prog 24 ⟨1, 8, false, [.int .i64 0], .int .i64, false⟩ := ⟨Tryd.sizeOf24, Tryd.isAgg24, fun w => ⟨_, Tryd.zeroValue24 w, by simp [Vc.conc, Value.cells]⟩, fun _ => by simp [Vc.conc], rfl, ⟨_, Tryd.underlying24, rfl⟩, (fun _ h => (by cases h)), (fun h => (by cases h)), ⟨Tryd.t24, _, by kernel_rfl, rfl, rfl, rfl, by simp [Vc.conc, Value.cells]⟩⟩
theorem Tryd.ty26 : Vc.TyOK Tryd.prog 26 ⟨1, 8, false, [.v .nilFunc], .other, false⟩ := ⟨Tryd.sizeOf26, Tryd.isAgg26, fun w => ⟨_, Tryd.zeroValue26 w, by simp [Vc.conc, Value.cells]⟩, fun _ => by simp [Vc.conc], rfl, ⟨_, Tryd.underlying26, trivial⟩, (fun _ h => (by cases h)), (fun h => (by cases h)), ⟨Tryd.t26, _, by kernel_rfl, rfl, rfl, rfl, by simp [Vc.conc, Value.cells]⟩⟩
theorem Tryd.ty27 : Vc.TyOK Tryd.prog 27 ⟨2, 32, true, [.str [], .str []], .struct [(0, 9), (1, 9)], false⟩ := ⟨Tryd.sizeOf27, Tryd.isAgg27, fun w => ⟨_, Tryd.zeroValue27 w, by simp [Vc.conc, Value.cells]⟩, fun _ => by simp [Vc.conc], rfl, ⟨_, Tryd.underlying27, ⟨_, rfl, rfl⟩⟩, (fun fs h f hf => by cases h; simp only [List.mem_cons, List.not_mem_nil, or_false] at hf; rcases hf with rfl | rfl <;> first | exact ⟨_, Tryd.sizeOf9⟩), (fun h => (by cases h)), ⟨Tryd.t27, _, by kernel_rfl, rfl, rfl, rfl, by simp [Vc.conc, Value.cells]⟩⟩
theorem Tryd.ty28 : Vc.TyOK Tryd.prog 28 ⟨2, 32, true, [.str [], .str []], .struct [(0, 9), (1, 9)], true⟩ := ⟨Tryd.sizeOf28, Tryd.isAgg28, fun w => ⟨_, Tryd.zeroValue28 w, by simp [Vc.conc, Value.cells]⟩, fun _ => by simp [Vc.conc], rfl, ⟨_, Tryd.underlying28, ⟨_, rfl, rfl⟩⟩, (fun fs h f hf => by cases h; simp only [List.mem_cons, List.not_mem_nil, or_false] at hf; rcases hf with rfl | rfl <;> first | exact ⟨_, Tryd.sizeOf9⟩), (fun _ => ⟨by kernel_rfl, by kernel_rfl, by kernel_rfl⟩), ⟨Tryd.t28, _, by kernel_rfl, rfl, rfl, rfl, by simp [Vc.conc, Value.cells]⟩⟩
theorem Tryd.ty29 : Vc.TyOK Tryd.prog 29 ⟨1, 24, false, [.nils], .slice 28, false⟩ := ⟨Tryd.sizeOf29, Tryd.isAgg29, fun w => ⟨_, Tryd.zeroValue29 w, by simp [Vc.conc, Value.cells]⟩, fun _ => by simp [Vc.conc], rfl, ⟨_, Tryd.underlying29, rfl⟩, (fun _ h => (by cases h)), (fun h => (by cases h)), ⟨Tryd.t29, _, by kernel_rfl, rfl, rfl, rfl, by simp [Vc.conc, Value.cells]⟩⟩
theorem Tryd.ty30 : Vc.TyOK Tryd.prog 30 ⟨3, 40, true, [.int .i64 0, .int .i64 0, .nils], .struct [(0, 3), (1, 3), (2, 29)], false⟩ := ⟨Tryd.sizeOf30, Tryd.isAgg30, fun w => ⟨_, Tryd.zeroValue30 w, by simp [Vc.conc, Value.cells]⟩, fun _ => by simp [Vc.conc], rfl, ⟨_, Tryd.underlying30, ⟨_, rfl, rfl⟩⟩, (fun fs h f hf => by cases h; simp only [List.mem_cons, List.not_mem_nil, or_false] at hf; rcases hf with rfl | rfl | rfl <;> first | exact ⟨_, Tryd.sizeOf3⟩ | exact ⟨_, Tryd.sizeOf29⟩), (fun h => (by cases h)), ⟨Tryd.t30, _, by kernel_rfl, rfl, rfl, rfl, by simp [Vc.conc, Value.cells]⟩⟩
theorem Tryd.ty31 : Vc.TyOK Tryd.prog 31 ⟨3, 40, true, [.int .i64 0, .int .i64 0, .nils], .struct [(0, 3), (1, 3), (2, 29)], false⟩ := ⟨Tryd.sizeOf31, Tryd.isAgg31, fun w => ⟨_, Tryd.zeroValue31 w, by simp [Vc.conc, Value.cells]⟩, fun _ => by simp [Vc.conc], rfl, ⟨_, Tryd.underlying31, ⟨_, rfl, rfl⟩⟩, (fun fs h f hf => by cases h; simp only [List.mem_cons, List.not_mem_nil, or_false] at hf; rcases hf with rfl | rfl | rfl <;> first | exact ⟨_, Tryd.sizeOf3⟩ | exact ⟨_, Tryd.sizeOf29⟩), (fun h => (by cases h)), ⟨Tryd.t31, _, by kernel_rfl, rfl, rfl, rfl, by simp [Vc.conc, Value.cells]⟩⟩
theorem Tryd.ty32 : Vc.TyOK Tryd.prog 32 ⟨1, 8, false, [.v .nilFunc], .other, false⟩ := ⟨Tryd.sizeOf32, Tryd.isAgg32, fun w => ⟨_, Tryd.zeroValue32 w, by simp [Vc.conc, Value.cells]⟩, fun _ => by simp [Vc.conc], rfl, ⟨_, Tryd.underlying32, trivial⟩, (fun _ h => (by cases h)), (fun h => (by cases h)), ⟨Tryd.t32, _, by kernel_rfl, rfl, rfl, rfl, by simp [Vc.conc, Value.cells]⟩⟩
theorem Tryd.ty33 : Vc.TyOK Tryd.prog 33 ⟨1, 8, false, [.v .nilFunc], .other, false⟩ := ⟨Tryd.sizeOf33, Tryd.isAgg33, fun w => ⟨_, Tryd.zeroValue33 w, by simp [Vc.conc, Value.cells]⟩, fun _ => by simp [Vc.conc], rfl, ⟨_, Tryd.underlying33, trivial⟩, (fun _ h => (by cases h)), (fun h => (by cases h)), ⟨Tryd.t33, _, by kernel_rfl, rfl, rfl, rfl, by simp [Vc.conc, Value.cells]⟩⟩
theorem Tryd.ty34 : Vc.TyOK Tryd.prog 34 ⟨1, 8, false, [.int .u64 0], .int .u64, false⟩ := ⟨Tryd.sizeOf34, Tryd.isAgg34, fun w => ⟨_, Tryd.zeroValue34 w, by simp [Vc.conc, Value.cells]⟩, fun _ => by simp [Vc.conc], rfl, ⟨_, Tryd.underlying34, rfl⟩, (fun _ h => (by cases h)), (fun h => (by cases h)), ⟨Tryd.t34, _, by kernel_rfl, rfl, rfl, rfl, by simp [Vc.conc, Value.cells]⟩⟩
theorem Tryd.ty35 : Vc.TyOK Tryd.prog 35 ⟨7, 80, true, [.str [], .int .i64 0, .str [], .str [], .str [], .bool false, .bool false], .struct [(0, 9), (1, 3), (2, 9), (3, 9), (4, 9), (5, 4), (6, 4)], false⟩ := ⟨Tryd.sizeOf35, Tryd.isAgg35, fun w => ⟨_, Tryd.zeroValue35 w, by simp [Vc.conc, Value.cells]⟩, fun _ => by simp [Vc.conc], rfl, ⟨_, Tryd.underlying35, ⟨_, rfl, rfl⟩⟩, (fun fs h f hf => by cases h; simp only [List.mem_cons, List.not_mem_nil, or_false] at hf; rcases hf with rfl | rfl | rfl | rfl | rfl | rfl | rfl <;> first | exact ⟨_, Tryd.sizeOf3⟩ | exact ⟨_, Tryd.sizeOf4⟩ | exact ⟨_, Tryd.sizeOf9⟩), (fun h => (by cases h)), ⟨Tryd.t35, _, by kernel_rfl, rfl, rfl, rfl, by simp [Vc.conc, Value.cells]⟩⟩
theorem Tryd.ty36 : Vc.TyOK Tryd.prog 36 ⟨7, 80, true, [.str [], .int .i64 0, .str [], .str [], .str [], .bool false, .bool false], .struct [(0, 9), (1, 3), (2, 9), (3, 9), (4, 9), (5, 4), (6, 4)], true⟩ := ⟨Tryd.sizeOf36, Tryd.isAgg36, fun w => ⟨_, Tryd.zeroValue36 w, by simp [Vc.conc, Value.cells]⟩, fun _ => by simp [Vc.conc], rfl, ⟨_, Tryd.underlying36, ⟨_, rfl, rfl⟩⟩, (fun fs h f hf => by cases h; simp only [List.mem_cons, List.not_mem_nil, or_false] at hf; rcases hf with rfl | rfl | rfl | rfl | rfl | rfl | rfl <;> first | exact ⟨_, Tryd.sizeOf3⟩ | exact ⟨_, Tryd.sizeOf4⟩ | exact ⟨_, Tryd.sizeOf9⟩), (fun _ => ⟨by kernel_rfl, by kernel_rfl, by kernel_rfl⟩), ⟨Tryd.t36, _, by kernel_rfl, rfl, rfl, rfl, by simp [Vc.conc, Value.cells]⟩⟩
theorem Tryd.ty37 : Vc.TyOK Tryd.prog 37 ⟨7, 80, true, [.str [], .int .i64 0, .str [], .str [], .int .i64 0, .int .u64 0, .int .u64 0], .struct [(0, 9), (1, 3), (2, 9), (3, 9), (4, 3), (5, 34), (6, 34)], false⟩ := ⟨Tryd.sizeOf37, Tryd.isAgg37, fun w => ⟨_, Tryd.zeroValue37 w, by simp [Vc.conc, Value.cells]⟩, fun _ => by simp [Vc.conc], rfl, ⟨_, Tryd.underlying37, ⟨_, rfl, rfl⟩⟩, (fun fs h f hf => by cases h; simp only [List.mem_cons, List.not_mem_nil, or_false] at hf; rcases hf with rfl | rfl | rfl | rfl | rfl | rfl | rfl <;> first | exact ⟨_, Tryd.sizeOf3⟩ | exact ⟨_, Tryd.sizeOf9⟩ | exact ⟨_, Tryd.sizeOf34⟩), (fun h => (by cases h)), ⟨Tryd.t37, _, by kernel_rfl, rfl, rfl, rfl, by simp [Vc.conc, Value.cells]⟩⟩
theorem Tryd.ty38 : Vc.TyOK Tryd.prog 38 ⟨7, 80, true, [.str [], .int .i64 0, .str [], .str [], .int .i64 0, .int .u64 0, .int .u64 0], .struct [(0, 9), (1, 3), (2, 9), (3, 9), (4, 3), (5, 34), (6, 34)], true⟩ := ⟨Tryd.sizeOf38, Tryd.isAgg38, fun w => ⟨_, Tryd.zeroValue38 w, by simp [Vc.conc, Value.cells]⟩, fun _ => by simp [Vc.conc], rfl, ⟨_, Tryd.underlying38, ⟨_, rfl, rfl⟩⟩, (fun fs h f hf => by cases h; simp only [List.mem_cons, List.not_mem_nil, or_false] at hf; rcases hf with rfl | rfl | rfl | rfl | rfl | rfl | rfl <;> first | exact ⟨_, Tryd.sizeOf3⟩ | exact ⟨_, Tryd.sizeOf9⟩ | exact ⟨_, Tryd.sizeOf34⟩), (fun _ => ⟨by kernel_rfl, by kernel_rfl, by kernel_rfl⟩), ⟨Tryd.t38, _, by kernel_rfl, rfl, rfl, rfl, by simp [Vc.conc, Value.cells]⟩⟩
theorem Tryd.ty39 : Vc.TyOK Tryd.prog 39 ⟨1, 24, false, [.nils], .slice 38, false⟩ := ⟨Tryd.sizeOf39, Tryd.isAgg39, fun w => ⟨_, Tryd.zeroValue39 w, by simp [Vc.conc, Value.cells]⟩, fun _ => by simp [Vc.conc], rfl, ⟨_, Tryd.underlying39, rfl⟩, (fun _ h => (by cases h)), (fun h => (by cases h)), ⟨Tryd.t39, _, by kernel_rfl, rfl, rfl, rfl, by simp [Vc.conc, Value.cells]⟩⟩
theorem Tryd.ty40 : Vc.TyOK Tryd.prog 40 ⟨1, 8, false, [.v .nilFunc], .other, false⟩ := ⟨Tryd.sizeOf40, Tryd.isAgg40, fun w => ⟨_, Tryd.zeroValue40 w, by simp [Vc.conc, Value.cells]⟩, fun _ => by simp [Vc.conc], rfl, ⟨_, Tryd.underlying40, trivial⟩, (fun _ h => (by cases h)), (fun h => (by cases h)), ⟨Tryd.t40, _, by kernel_rfl, rfl, rfl, rfl, by simp [Vc.conc, Value.cells]⟩⟩
theorem Tryd.ty41 : Vc.TyOK Tryd.prog 41 ⟨1, 8, false, [.v .nilFunc], .other, false⟩ := ⟨Tryd.sizeOf41, Tryd.isAgg41, fun w => ⟨_, Tryd.zeroValue41 w, by simp [Vc.conc, Value.cells]⟩, fun _ => by simp [Vc.conc], rfl, ⟨_, Tryd.underlying41, trivial⟩, (fun _ h => (by cases h)), (fun h => (by cases h)), ⟨Tryd.t41, _, by kernel_rfl, rfl, rfl, rfl, by simp [Vc.conc, Value.cells]⟩⟩
theorem Tryd.ty42 : Vc.TyOK Tryd.prog 42 ⟨2, 24, true, [.str [], .int .i64 0], .struct [(0, 9), (1, 3)], false⟩ := ⟨Tryd.sizeOf42, Tryd.isAgg42, fun w => ⟨_, Tryd.zeroValue42 w, by simp [Vc.conc, Value.cells]⟩, fun _ => by simp [Vc.conc], rfl, ⟨_, Tryd.underlying42, ⟨_, rfl, rfl⟩⟩, (fun fs h f hf => by cases h; simp only [List.mem_cons, List.not_mem_nil, or_false] at hf; rcases hf with rfl | rfl <;> first | exact ⟨_, Tryd.sizeOf3⟩ | exact ⟨_, Tryd.sizeOf9⟩), (fun h => (by cases h)), ⟨Tryd.t42, _, by kernel_rfl, rfl, rfl, rfl, by simp [Vc.conc, Value.cells]⟩⟩
theorem Tryd.ty43 : Vc.TyOK Tryd.prog 43 ⟨2, 24, true, [.str [], .int .i64 0], .struct [(0, 9), (1, 3)], true⟩ := ⟨Tryd.sizeOf43, Tryd.isAgg43, fun w => ⟨_, Tryd.zeroValue43 w, by simp [Vc.conc, Value.cells]⟩, fun _ => by simp [Vc.conc], rfl, ⟨_, Tryd.underlying43, ⟨_, rfl, rfl⟩⟩, (fun fs h f hf => by cases h; simp only [List.mem_cons, List.not_mem_nil, or_false] at hf; rcases hf with rfl | rfl <;> first | exact ⟨_, Tryd.sizeOf3⟩ | exact ⟨_, Tryd.sizeOf9⟩), (fun _ => ⟨by kernel_rfl, by kernel_rfl, by kernel_rfl⟩), ⟨Tryd.t43, _, by kernel_rfl, rfl, rfl, rfl, by simp [Vc.conc, Value.cells]⟩⟩
theorem Tryd.ty44 : Vc.TyOK Tryd.prog 44 ⟨1, 8, false, [.v .nilFunc], .other, false⟩ := ⟨Tryd.sizeOf44, Tryd.isAgg44, fun w => ⟨_, Tryd.zeroValue44 w, by simp [Vc.conc, Value.cells]⟩, fun _ => by simp [Vc.conc], rfl, ⟨_, Tryd.underlying44, trivial⟩, (fun _ h => (by cases h)), (fun h => (by cases h)), ⟨Tryd.t44, _, by kernel_rfl, rfl, rfl, rfl, by simp [Vc.conc, Value.cells]⟩⟩
theorem Tryd.ty45 : Vc.TyOK Tryd.prog 45 ⟨1, 8, false, [.v .nilFunc], .other, false⟩ := ⟨Tryd.sizeOf45, Tryd.isAgg45, fun w => ⟨_, Tryd.zeroValue45 w, by simp [Vc.conc, Value.cells]⟩, fun _ => by simp [Vc.conc], rfl, ⟨_, Tryd.underlying45, trivial⟩, (fun _ h => (by cases h)), (fun h => (by cases h)), ⟨Tryd.t45, _, by kernel_rfl, rfl, rfl, rfl, by simp [Vc.conc, Value.cells]⟩⟩
theorem Tryd.ty46 : Vc.TyOK Tryd.prog 46 ⟨1, 8, false, [.v .nilFunc], .other, false⟩ := ⟨Tryd.sizeOf46, Tryd.isAgg46, fun w => ⟨_, Tryd.zeroValue46 w, by simp [Vc.conc, Value.cells]⟩, fun _ => by simp [Vc.conc], rfl, ⟨_, Tryd.underlying46, trivial⟩, (fun _ h => (by cases h)), (fun h => (by cases h)), ⟨Tryd.t46, _, by kernel_rfl, rfl, rfl, rfl, by simp [Vc.conc, Value.cells]⟩⟩
theorem Tryd.ty47 : Vc.TyOK Tryd.prog 47 ⟨1, 8, false, [.v .nilFunc], .other, false⟩ := ⟨Tryd.sizeOf47, Tryd.isAgg47, fun w => ⟨_, Tryd.zeroValue47 w, by simp [Vc.conc, Value.cells]⟩, fun _ => by simp [Vc.conc], rfl, ⟨_, Tryd.underlying47, trivial⟩, (fun _ h => (by cases h)), (fun h => (by cases h)), ⟨Tryd.t47, _, by kernel_rfl, rfl, rfl, rfl, by simp [Vc.conc, Value.cells]⟩⟩
theorem Tryd.ty48 : Vc.TyOK Tryd.prog 48 ⟨1, 8, false, [.v .nilFunc], .other, false⟩ := ⟨Tryd.sizeOf48, Tryd.isAgg48, fun w => ⟨_, Tryd.zeroValue48 w, by simp [Vc.conc, Value.cells]⟩, fun _ => by simp [Vc.conc], rfl, ⟨_, Tryd.underlying48, trivial⟩, (fun _ h => (by cases h)), (fun h => (by cases h)), ⟨Tryd.t48, _, by kernel_rfl, rfl, rfl, rfl, by simp [Vc.conc, Value.cells]⟩⟩
theorem Tryd.ty49 : Vc.TyOK Tryd.prog 49 ⟨1, 8, false, [.v (.pointer none)], .ptr 52, false⟩ := ⟨Tryd.sizeOf49, Tryd.isAgg49, fun w => ⟨_, Tryd.zeroValue49 w, by simp [Vc.conc, Value.cells]⟩, fun _ => by simp [Vc.conc], rfl, ⟨_, Tryd.underlying49, rfl⟩, (fun _ h => (by cases h)), (fun h => (by cases h)), ⟨Tryd.t49, _, by kernel_rfl, rfl, rfl, rfl, by simp [Vc.conc, Value.cells]⟩⟩
theorem Tryd.ty50 : Vc.TyOK Tryd.prog 50 ⟨1, 24, false, [.nils], .slice 5, false⟩ := ⟨Tryd.sizeOf50, Tryd.isAgg50, fun w => ⟨_, Tryd.zeroValue50 w, by simp [Vc.conc, Value.cells]⟩, fun _ => by simp [Vc.conc], rfl, ⟨_, Tryd.underlying50, rfl⟩, (fun _ h => (by cases h)), (fun h => (by cases h)), ⟨Tryd.t50, _, by kernel_rfl, rfl, rfl, rfl, by simp [Vc.conc, Value.cells]⟩⟩
theorem Tryd.ty51 : Vc.TyOK Tryd.prog 51 ⟨2, 32, true, [.v (.pointer none), .nils], .struct [(0, 49), (1, 50)], false⟩ := ⟨Tryd.sizeOf51, Tryd.isAgg51, fun w => ⟨_, Tryd.zeroValue51 w, by simp [Vc.conc, Value.cells]⟩, fun _ => by simp [Vc.conc], rfl, ⟨_, Tryd.underlying51, ⟨_, rfl, rfl⟩⟩, (fun fs h f hf => by cases h; simp only [List.mem_cons, List.not_mem_nil, or_false] at hf; rcases hf with rfl | rfl <;> first | exact ⟨_, Tryd.sizeOf49⟩ | exact ⟨_, Tryd.sizeOf50⟩), (fun h => (by cases h)), ⟨Tryd.t51, _, by kernel_rfl, rfl, rfl, rfl, by simp [Vc.conc, Value.cells]⟩⟩
theorem Tryd.ty52 : Vc.TyOK Tryd.prog 52 ⟨2, 32, true, [.v (.pointer none), .nils], .struct [(0, 49), (1, 50)], false⟩ := ⟨Tryd.sizeOf52, Tryd.isAgg52, fun w => ⟨_, Tryd.zeroValue52 w, by simp [Vc.conc, Value.cells]⟩, fun _ => by simp [Vc.conc], rfl, ⟨_, Tryd.underlying52, ⟨_, rfl, rfl⟩⟩, (fun fs h f hf => by cases h; simp only [List.mem_cons, List.not_mem_nil, or_false] at hf; rcases hf with rfl | rfl <;> first | exact ⟨_, Tryd.sizeOf49⟩ | exact ⟨_, Tryd.sizeOf50⟩), (fun h => (by cases h)), ⟨Tryd.t52, _, by kernel_rfl, rfl, rfl, rfl, by simp [Vc.conc, Value.cells]⟩⟩
theorem Tryd.ty53 : Vc.TyOK Tryd.prog 53 ⟨1, 16, false, [.v .nilIface], .other, false⟩ := ⟨Tryd.sizeOf53, Tryd.isAgg53, fun w => ⟨_, Tryd.zeroValue53 w, by simp [Vc.conc, Value.cells]⟩, fun _ => by simp [Vc.conc], rfl, ⟨_, Tryd.underlying53, trivial⟩, (fun _ h => (by cases h)), (fun h => (by cases h)), ⟨Tryd.t53, _, by kernel_rfl, rfl, rfl, rfl, by simp [Vc.conc, Value.cells]⟩⟩
theorem Tryd.ty54 : Vc.TyOK Tryd.prog 54 ⟨1, 16, false, [.v .nilIface], .other, false⟩ := ⟨Tryd.sizeOf54, Tryd.isAgg54, fun w => ⟨_, Tryd.zeroValue54 w, by simp [Vc.conc, Value.cells]⟩, fun _ => by simp [Vc.conc], rfl, ⟨_, Tryd.underlying54, trivial⟩, (fun _ h => (by cases h)), (fun h => (by cases h)), ⟨Tryd.t54, _, by kernel_rfl, rfl, rfl, rfl, by simp [Vc.conc, Value.cells]⟩⟩
theorem Tryd.ty56 : Vc.TyOK Tryd.prog 56 ⟨1, 8, false, [.v .nilFunc], .other, false⟩ := ⟨Tryd.sizeOf56, Tryd.isAgg56, fun w => ⟨_, Tryd.zeroValue56 w, by simp [Vc.conc, Value.cells]⟩, fun _ => by simp [Vc.conc], rfl, ⟨_, Tryd.underlying56, trivial⟩, (fun _ h => (by cases h)), (fun h => (by cases h)), ⟨Tryd.t56, _, by kernel_rfl, rfl, rfl, rfl, by simp [Vc.conc, Value.cells]⟩⟩
theorem Tryd.ty57 : Vc.TyOK Tryd.prog 57 ⟨1, 8, false, [.v .nilFunc], .other, false⟩ := ⟨Tryd.sizeOf57, Tryd.isAgg57, fun w => ⟨_, Tryd.zeroValue57 w, by simp [Vc.conc, Value.cells]⟩, fun _ => by simp [Vc.conc], rfl, ⟨_, Tryd.underlying57, trivial⟩, (fun _ h => (by cases h)), (fun h => (by cases h)), ⟨Tryd.t57, _, by kernel_rfl, rfl, rfl, rfl, by simp [Vc.conc, Value.cells]⟩⟩
theorem Tryd.ty59 : Vc.TyOK Tryd.prog 59 ⟨1, 8, false, [.v .nilFunc], .other, false⟩ := ⟨Tryd.sizeOf59, Tryd.isAgg59, fun w => ⟨_, Tryd.zeroValue59 w, by simp [Vc.conc, Value.cells]⟩, fun _ => by simp [Vc.conc], rfl, ⟨_, Tryd.underlying59, trivial⟩, (fun _ h => (by cases h)), (fun h => (by cases h)), ⟨Tryd.t59, _, by kernel_rfl, rfl, rfl, rfl, by simp [Vc.conc, Value.cells]⟩⟩
theorem Tryd.ty60 : Vc.TyOK Tryd.prog 60 ⟨1, 8, false, [.v .nilFunc], .other, false⟩ := ⟨Tryd.sizeOf60, Tryd.isAgg60, fun w => ⟨_, Tryd.zeroValue60 w, by simp [Vc.conc, Value.cells]⟩, fun _ => by simp [Vc.conc], rfl, ⟨_, Tryd.underlying60, trivial⟩, (fun _ h => (by cases h)), (fun h => (by cases h)), ⟨Tryd.t60, _, by kernel_rfl, rfl, rfl, rfl, by simp [Vc.conc, Value.cells]⟩⟩
theorem Tryd.ty62 : Vc.TyOK Tryd.prog 62 ⟨1, 8, false, [.v .nilFunc], .other, false⟩ := ⟨Tryd.sizeOf62, Tryd.isAgg62, fun w => ⟨_, Tryd.zeroValue62 w, by simp [Vc.conc, Value.cells]⟩, fun _ => by simp [Vc.conc], rfl, ⟨_, Tryd.underlying62, trivial⟩, (fun _ h => (by cases h)), (fun h => (by cases h)), ⟨Tryd.t62, _, by kernel_rfl, rfl, rfl, rfl, by simp [Vc.conc, Value.cells]⟩⟩
theorem Tryd.ty63 : Vc.TyOK Tryd.prog 63 ⟨1, 8, false, [.v .nilFunc], .other, false⟩ := ⟨Tryd.sizeOf63, Tryd.isAgg63, fun w => ⟨_, Tryd.zeroValue63 w, by simp [Vc.conc, Value.cells]⟩, fun _ => by simp [Vc.conc], rfl, ⟨_, Tryd.underlying63, trivial⟩, (fun _ h => (by cases h)), (fun h => (by cases h)), ⟨Tryd.t63, _, by kernel_rfl, rfl, rfl, rfl, by simp [Vc.conc, Value.cells]⟩⟩
theorem Tryd.ty64 : Vc.TyOK Tryd.prog 64 ⟨1, 8, false, [.v .nilFunc], .other, false⟩ := ⟨Tryd.sizeOf64, Tryd.isAgg64, fun w => ⟨_, Tryd.zeroValue64 w, by simp [Vc.conc, Value.cells]⟩, fun _ => by simp [Vc.conc], rfl, ⟨_, Tryd.underlying64, trivial⟩, (fun _ h => (by cases h)), (fun h => (by cases h)), ⟨Tryd.t64, _, by kernel_rfl, rfl, rfl, rfl, by simp [Vc.conc, Value.cells]⟩⟩
theorem Tryd.ty65 : Vc.TyOK Tryd.prog 65 ⟨1, 8, false, [.v .nilFunc], .other, false⟩ := ⟨Tryd.sizeOf65, Tryd.isAgg65, fun w => ⟨_, Tryd.zeroValue65 w, by simp [Vc.conc, Value.cells]⟩, fun _ => by simp [Vc.conc], rfl, ⟨_, Tryd.underlying65, trivial⟩, (fun _ h => (by cases h)), (fun h => (by cases h)), ⟨Tryd.t65, _, by kernel_rfl, rfl, rfl, rfl, by simp [Vc.conc, Value.cells]⟩⟩
theorem Tryd.ty66 : Vc.TyOK Tryd.prog 66 ⟨1, 8, false, [.v .nilFunc], .other, false⟩ := ⟨Tryd.sizeOf66, Tryd.isAgg66, fun w => ⟨_, Tryd.zeroValue66 w, by simp [Vc.conc, Value.cells]⟩, fun _ => by simp [Vc.conc], rfl, ⟨_, Tryd.underlying66, trivial⟩, (fun _ h => (by cases h)), (fun h => (by cases h)), ⟨Tryd.t66, _, by kernel_rfl, rfl, rfl, rfl, by simp [Vc.conc, Value.cells]⟩⟩
theorem Tryd.ty67 : Vc.TyOK Tryd.prog 67 ⟨4, 48, true, [.str [], .int .i64 0, .str [], .int .u64 0], .struct [(0, 43), (2, 9), (3, 34)], false⟩ := ⟨Tryd.sizeOf67, Tryd.isAgg67, fun w => ⟨_, Tryd.zeroValue67 w, by simp [Vc.conc, Value.cells]⟩, fun _ => by simp [Vc.conc], rfl, ⟨_, Tryd.underlying67, ⟨_, rfl, rfl⟩⟩, (fun fs h f hf => by cases h; simp only [List.mem_cons, List.not_mem_nil, or_false] at hf; rcases hf with rfl | rfl | rfl <;> first | exact ⟨_, Tryd.sizeOf9⟩ | exact ⟨_, Tryd.sizeOf34⟩ | exact ⟨_, Tryd.sizeOf43⟩), (fun h => (by cases h)), ⟨Tryd.t67, _, by kernel_rfl, rfl, rfl, rfl, by simp [Vc.conc, Value.cells]⟩⟩
theorem Tryd.ty68 : Vc.TyOK Tryd.prog 68 ⟨4, 48, true, [.str [], .int .i64 0, .str [], .int .u64 0], .struct [(0, 43), (2, 9), (3, 34)], true⟩ := ⟨Tryd.sizeOf68, Tryd.isAgg68, fun w => ⟨_, Tryd.zeroValue68 w, by simp [Vc.conc, Value.cells]⟩, fun _ => by simp [Vc.conc], rfl, ⟨_, Tryd.underlying68, ⟨_, rfl, rfl⟩⟩, (fun fs h f hf => by cases h; simp only [List.mem_cons, List.not_mem_nil, or_false] at hf; rcases hf with rfl | rfl | rfl <;> first | exact ⟨_, Tryd.sizeOf9⟩ | exact ⟨_, Tryd.sizeOf34⟩ | exact ⟨_, Tryd.sizeOf43⟩), (fun _ => ⟨by kernel_rfl, by kernel_rfl, by kernel_rfl⟩), ⟨Tryd.t68, _, by kernel_rfl, rfl, rfl, rfl, by simp [Vc.conc, Value.cells]⟩⟩
theorem Tryd.ty69 : Vc.TyOK Tryd.prog 69 ⟨1, 8, false, [.v .nilFunc], .other, false⟩ := ⟨Tryd.sizeOf69, Tryd.isAgg69, fun w => ⟨_, Tryd.zeroValue69 w, by simp [Vc.conc, Value.cells]⟩, fun _ => by simp [Vc.conc], rfl, ⟨_, Tryd.underlying69, trivial⟩, (fun _ h => (by cases h)), (fun h => (by cases h)), ⟨Tryd.t69, _, by kernel_rfl, rfl, rfl, rfl, by simp [Vc.conc, Value.cells]⟩⟩
theorem Tryd.ty70 : Vc.TyOK Tryd.prog 70 ⟨1, 8, false, [.v .nilFunc], .other, false⟩ := ⟨Tryd.sizeOf70, Tryd.isAgg70, fun w => ⟨_, Tryd.zeroValue70 w, by simp [Vc.conc, Value.cells]⟩, fun _ => by simp [Vc.conc], rfl, ⟨_, Tryd.underlying70, trivial⟩, (fun _ h => (by cases h)), (fun h => (by cases h)), ⟨Tryd.t70, _, by kernel_rfl, rfl, rfl, rfl, by simp [Vc.conc, Value.cells]⟩⟩
theorem Tryd.ty71 : Vc.TyOK Tryd.prog 71 ⟨2, 24, true, [.str [], .int .i64 0], .struct [(0, 9), (1, 3)], true⟩ := ⟨Tryd.sizeOf71, Tryd.isAgg71, fun w => ⟨_, Tryd.zeroValue71 w, by simp [Vc.conc, Value.cells]⟩, fun _ => by simp [Vc.conc], rfl, ⟨_, Tryd.underlying71, ⟨_, rfl, rfl⟩⟩, (fun fs h f hf => by cases h; simp only [List.mem_cons, List.not_mem_nil, or_false] at hf; rcases hf with rfl | rfl <;> first | exact ⟨_, Tryd.sizeOf3⟩ | exact ⟨_, Tryd.sizeOf9⟩), (fun _ => ⟨by kernel_rfl, by kernel_rfl, by kernel_rfl⟩), ⟨Tryd.t71, _, by kernel_rfl, rfl, rfl, rfl, by simp [Vc.conc, Value.cells]⟩⟩
theorem Tryd.ty72 : Vc.TyOK Tryd.prog 72 ⟨1, 8, false, [.v (.pointer none)], .ptr 74, false⟩ := ⟨Tryd.sizeOf72, Tryd.isAgg72, fun w => ⟨_, Tryd.zeroValue72 w, by simp [Vc.conc, Value.cells]⟩, fun _ => by simp [Vc.conc], rfl, ⟨_, Tryd.underlying72, rfl⟩, (fun _ h => (by cases h)), (fun h => (by cases h)), ⟨Tryd.t72, _, by kernel_rfl, rfl, rfl, rfl, by simp [Vc.conc, Value.cells]⟩⟩
theorem Tryd.ty73 : Vc.TyOK Tryd.prog 73 ⟨2, 24, true, [.str [], .int .u64 0], .struct [(0, 9), (1, 34)], false⟩ := ⟨Tryd.sizeOf73, Tryd.isAgg73, fun w => ⟨_, Tryd.zeroValue73 w, by simp [Vc.conc, Value.cells]⟩, fun _ => by simp [Vc.conc], rfl, ⟨_, Tryd.underlying73, ⟨_, rfl, rfl⟩⟩, (fun fs h f hf => by cases h; simp only [List.mem_cons, List.not_mem_nil, or_false] at hf; rcases hf with rfl | rfl <;> first | exact ⟨_, Tryd.sizeOf9⟩ | exact ⟨_, Tryd.sizeOf34⟩), (fun h => (by cases h)), ⟨Tryd.t73, _, by kernel_rfl, rfl, rfl, rfl, by simp [Vc.conc, Value.cells]⟩⟩
theorem Tryd.ty74 : Vc.TyOK Tryd.prog 74 ⟨2, 24, true, [.str [], .int .u64 0], .struct [(0, 9), (1, 34)], true⟩ := ⟨Tryd.sizeOf74, Tryd.isAgg74, fun w => ⟨_, Tryd.zeroValue74 w, by simp [Vc.conc, Value.cells]⟩, fun _ => by simp [Vc.conc], rfl, ⟨_, Tryd.underlying74, ⟨_, rfl, rfl⟩⟩, (fun fs h f hf => by cases h; simp only [List.mem_cons, List.not_mem_nil, or_false] at hf; rcases hf with rfl | rfl <;> first | exact ⟨_, Tryd.sizeOf9⟩ | exact ⟨_, Tryd.sizeOf34⟩), (fun _ => ⟨by kernel_rfl, by kernel_rfl, by kernel_rfl⟩), ⟨Tryd.t74, _, by kernel_rfl, rfl, rfl, rfl, by simp [Vc.conc, Value.cells]⟩⟩
theorem Tryd.ty75 : Vc.TyOK Tryd.prog 75 ⟨1, 8, false, [.v .nilFunc], .other, false⟩ := ⟨Tryd.sizeOf75, Tryd.isAgg75, fun w => ⟨_, Tryd.zeroValue75 w, by simp [Vc.conc, Value.cells]⟩, fun _ => by simp [Vc.conc], rfl, ⟨_, Tryd.underlying75, trivial⟩, (fun _ h => (by cases h)), (fun h => (by cases h)), ⟨Tryd.t75, _, by kernel_rfl, rfl, rfl, rfl, by simp [Vc.conc, Value.cells]⟩⟩
theorem Tryd.ty76 : Vc.TyOK Tryd.prog 76 ⟨1, 8, false, [.v .nilFunc], .other, false⟩ := ⟨Tryd.sizeOf76, Tryd.isAgg76, fun w => ⟨_, Tryd.zeroValue76 w, by simp [Vc.conc, Value.cells]⟩, fun _ => by simp [Vc.conc], rfl, ⟨_, Tryd.underlying76, trivial⟩, (fun _ h => (by cases h)), (fun h => (by cases h)), ⟨Tryd.t76, _, by kernel_rfl, rfl, rfl, rfl, by simp [Vc.conc, Value.cells]⟩⟩
theorem Tryd.ty77 : Vc.TyOK Tryd.prog 77 ⟨1, 8, false, [.v .nilFunc], .other, false⟩ := ⟨Tryd.sizeOf77, Tryd.isAgg77, fun w => ⟨_, Tryd.zeroValue77 w, by simp [Vc.conc, Value.cells]⟩, fun _ => by simp [Vc.conc], rfl, ⟨_, Tryd.underlying77, trivial⟩, (fun _ h => (by cases h)), (fun h => (by cases h)), ⟨Tryd.t77, _, by kernel_rfl, rfl, rfl, rfl, by simp [Vc.conc, Value.cells]⟩⟩
theorem Tryd.ty78 : Vc.TyOK Tryd.prog 78 ⟨1, 8, false, [.v (.pointer none)], .ptr 5, false⟩ := ⟨Tryd.sizeOf78, Tryd.isAgg78, fun w => ⟨_, Tryd.zeroValue78 w, by simp [Vc.conc, Value.cells]⟩, fun _ => by simp [Vc.conc], rfl, ⟨_, Tryd.underlying78, rfl⟩, (fun _ h => (by cases h)), (fun h => (by cases h)), ⟨Tryd.t78, _, by kernel_rfl, rfl, rfl, rfl, by simp [Vc.conc, Value.cells]⟩⟩
theorem Tryd.ty79 : Vc.TyOK Tryd.prog 79 ⟨1, 24, false, [.nils], .slice 9, false⟩ := ⟨Tryd.sizeOf79, Tryd.isAgg79, fun w => ⟨_, Tryd.zeroValue79 w, by simp [Vc.conc, Value.cells]⟩, fun _ => by simp [Vc.conc], rfl, ⟨_, Tryd.underlying79, rfl⟩, (fun _ h => (by cases h)), (fun h => (by cases h)), ⟨Tryd.t79, _, by kernel_rfl, rfl, rfl, rfl, by simp [Vc.conc, Value.cells]⟩⟩
theorem Tryd.ty80 : Vc.TyOK Tryd.prog 80 ⟨1, 8, false, [.v .nilFunc], .other, false⟩ := ⟨Tryd.sizeOf80, Tryd.isAgg80, fun w => ⟨_, Tryd.zeroValue80 w, by simp [Vc.conc, Value.cells]⟩, fun _ => by simp [Vc.conc], rfl, ⟨_, Tryd.underlying80, trivial⟩, (fun _ h => (by cases h)), (fun h => (by cases h)), ⟨Tryd.t80, _, by kernel_rfl, rfl, rfl, rfl, by simp [Vc.conc, Value.cells]⟩⟩
theorem Tryd.ty81 : Vc.TyOK Tryd.prog 81 ⟨1, 8, false, [.v .nilFunc], .other, false⟩ := ⟨Tryd.sizeOf81, Tryd.isAgg81, fun w => ⟨_, Tryd.zeroValue81 w, by simp [Vc.conc, Value.cells]⟩, fun _ => by simp [Vc.conc], rfl, ⟨_, Tryd.underlying81, trivial⟩, (fun _ h => (by cases h)), (fun h => (by cases h)), ⟨Tryd.t81, _, by kernel_rfl, rfl, rfl, rfl, by simp [Vc.conc, Value.cells]⟩⟩
theorem Tryd.ty83 : Vc.TyOK Tryd.prog 83 ⟨1, 8, false, [.v .nilFunc], .other, false⟩ := ⟨Tryd.sizeOf83, Tryd.isAgg83, fun w => ⟨_, Tryd.zeroValue83 w, by simp [Vc.conc, Value.cells]⟩, fun _ => by simp [Vc.conc], rfl, ⟨_, Tryd.underlying83, trivial⟩, (fun _ h => (by cases h)), (fun h => (by cases h)), ⟨Tryd.t83, _, by kernel_rfl, rfl, rfl, rfl, by simp [Vc.conc, Value.cells]⟩⟩
theorem Tryd.ty84 : Vc.TyOK Tryd.prog 84 ⟨1, 8, false, [.v .nilFunc], .other, false⟩ := ⟨Tryd.sizeOf84, Tryd.isAgg84, fun w => ⟨_, Tryd.zeroValue84 w, by simp [Vc.conc, Value.cells]⟩, fun _ => by simp [Vc.conc], rfl, ⟨_, Tryd.underlying84, trivial⟩, (fun _ h => (by cases h)), (fun h => (by cases h)), ⟨Tryd.t84, _, by kernel_rfl, rfl, rfl, rfl, by simp [Vc.conc, Value.cells]⟩⟩
theorem Tryd.ty85 : Vc.TyOK Tryd.prog 85 ⟨1, 8, false, [.v .nilFunc], .other, false⟩ := ⟨Tryd.sizeOf85, Tryd.isAgg85, fun w => ⟨_, Tryd.zeroValue85 w, by simp [Vc.conc, Value.cells]⟩, fun _ => by simp [Vc.conc], rfl, ⟨_, Tryd.underlying85, trivial⟩, (fun _ h => (by cases h)), (fun h => (by cases h)), ⟨Tryd.t85, _, by kernel_rfl, rfl, rfl, rfl, by simp [Vc.conc, Value.cells]⟩⟩
theorem Tryd.ty87 : Vc.TyOK Tryd.prog 87 ⟨1, 8, false, [.v .nilFunc], .other, false⟩ := ⟨Tryd.sizeOf87, Tryd.isAgg87, fun w => ⟨_, Tryd.zeroValue87 w, by simp [Vc.conc, Value.cells]⟩, fun _ => by simp [Vc.conc], rfl, ⟨_, Tryd.underlying87, trivial⟩, (fun _ h => (by cases h)), (fun h => (by cases h)), ⟨Tryd.t87, _, by kernel_rfl, rfl, rfl, rfl, by simp [Vc.conc, Value.cells]⟩⟩
theorem Tryd.ty88 : Vc.TyOK Tryd.prog 88 ⟨1, 8, false, [.v .nilFunc], .other, false⟩ := ⟨Tryd.sizeOf88, Tryd.isAgg88, fun w => ⟨_, Tryd.zeroValue88 w, by simp [Vc.conc, Value.cells]⟩, fun _ => by simp [Vc.conc], rfl, ⟨_, Tryd.underlying88, trivial⟩, (fun _ h => (by cases h)), (fun h => (by cases h)), ⟨Tryd.t88, _, by kernel_rfl, rfl, rfl, rfl, by simp [Vc.conc, Value.cells]⟩⟩
theorem Tryd.ty90 : Vc.TyOK Tryd.prog 90 ⟨1, 8, false, [.v .nilFunc], .other, false⟩ := ⟨Tryd.sizeOf90, Tryd.isAgg90, fun w => ⟨_, Tryd.zeroValue90 w, by simp [Vc.conc, Value.cells]⟩, fun _ => by simp [Vc.conc], rfl, ⟨_, Tryd.underlying90, trivial⟩, (fun _ h => (by cases h)), (fun h => (by cases h)), ⟨Tryd.t90, _, by kernel_rfl, rfl, rfl, rfl, by simp [Vc.conc, Value.cells]⟩⟩
theorem Tryd.ty91 : Vc.TyOK Tryd.prog 91 ⟨1, 8, false, [.v .nilFunc], .other, false⟩ := ⟨Tryd.sizeOf91, Tryd.isAgg91, fun w => ⟨_, Tryd.zeroValue91 w, by simp [Vc.conc, Value.cells]⟩, fun _ => by simp [Vc.conc], rfl, ⟨_, Tryd.underlying91, trivial⟩, (fun _ h => (by cases h)), (fun h => (by cases h)), ⟨Tryd.t91, _, by kernel_rfl, rfl, rfl, rfl, by simp [Vc.conc, Value.cells]⟩⟩
theorem Tryd.ty92 : Vc.TyOK Tryd.prog 92 ⟨1, 8, false, [.v .nilFunc], .other, false⟩ := ⟨Tryd.sizeOf92, Tryd.isAgg92, fun w => ⟨_, Tryd.zeroValue92 w, by simp [Vc.conc, Value.cells]⟩, fun _ => by simp [Vc.conc], rfl, ⟨_, Tryd.underlying92, trivial⟩, (fun _ h => (by cases h)), (fun h => (by cases h)), ⟨Tryd.t92, _, by kernel_rfl, rfl, rfl, rfl, by simp [Vc.conc, Value.cells]⟩⟩
theorem Tryd.ty93 : Vc.TyOK Tryd.prog 93 ⟨1, 8, false, [.v .nilFunc], .other, false⟩ := ⟨Tryd.sizeOf93, Tryd.isAgg93, fun w => ⟨_, Tryd.zeroValue93 w, by simp [Vc.conc, Value.cells]⟩, fun _ => by simp [Vc.conc], rfl, ⟨_, Tryd.underlying93, trivial⟩, (fun _ h => (by cases h)), (fun h => (by cases h)), ⟨Tryd.t93, _, by kernel_rfl, rfl, rfl, rfl, by simp [Vc.conc, Value.cells]⟩⟩
theorem Tryd.ty94 : Vc.TyOK Tryd.prog 94 ⟨1, 8, false, [.v .nilFunc], .other, false⟩ := ⟨Tryd.sizeOf94, Tryd.isAgg94, fun w => ⟨_, Tryd.zeroValue94 w, by simp [Vc.conc, Value.cells]⟩, fun _ => by simp [Vc.conc], rfl, ⟨_, Tryd.underlying94, trivial⟩, (fun _ h => (by cases h)), (fun h => (by cases h)), ⟨Tryd.t94, _, by kernel_rfl, rfl, rfl, rfl, by simp [Vc.conc, Value.cells]⟩⟩
theorem Tryd.ty95 : Vc.TyOK Tryd.prog 95 ⟨1, 8, false, [.v .nilFunc], .other, false⟩ := ⟨Tryd.sizeOf95, Tryd.isAgg95, fun w => ⟨_, Tryd.zeroValue95 w, by simp [Vc.conc, Value.cells]⟩, fun _ => by simp [Vc.conc], rfl, ⟨_, Tryd.underlying95, trivial⟩, (fun _ h => (by cases h)), (fun h => (by cases h)), ⟨Tryd.t95, _, by kernel_rfl, rfl, rfl, rfl, by simp [Vc.conc, Value.cells]⟩⟩
theorem Tryd.ty97 : Vc.TyOK Tryd.prog 97 ⟨1, 8, false, [.v .nilFunc], .other, false⟩ := ⟨Tryd.sizeOf97, Tryd.isAgg97, fun w => ⟨_, Tryd.zeroValue97 w, by simp [Vc.conc, Value.cells]⟩, fun _ => by simp [Vc.conc], rfl, ⟨_, Tryd.underlying97, trivial⟩, (fun _ h => (by cases h)), (fun h => (by cases h)), ⟨Tryd.t97, _, by kernel_rfl, rfl, rfl, rfl, by simp [Vc.conc, Value.cells]⟩⟩
theorem Tryd.ty98 : Vc.TyOK Tryd.prog 98 ⟨1, 8, false, [.v .nilFunc], .other, false⟩ := ⟨Tryd.sizeOf98, Tryd.isAgg98, fun w => ⟨_, Tryd.zeroValue98 w, by simp [Vc.conc, Value.cells]⟩, fun _ => by simp [Vc.conc], rfl, ⟨_, Tryd.underlying98, trivial⟩, (fun _ h => (by cases h)), (fun h => (by cases h)), ⟨Tryd.t98, _, by kernel_rfl, rfl, rfl, rfl, by simp [Vc.conc, Value.cells]⟩⟩
theorem Tryd.ty99 : Vc.TyOK Tryd.prog 99 ⟨1, 8, false, [.v .nilFunc], .other, false⟩ := ⟨Tryd.sizeOf99, Tryd.isAgg99, fun w => ⟨_, Tryd.zeroValue99 w, by simp [Vc.conc, Value.cells]⟩, fun _ => by simp [Vc.conc], rfl, ⟨_, Tryd.underlying99, trivial⟩, (fun _ h => (by cases h)), (fun h => (by cases h)), ⟨Tryd.t99, _, by kernel_rfl, rfl, rfl, rfl, by simp [Vc.conc, Value.cells]⟩⟩
theorem Tryd.ty100 : Vc.TyOK Tryd.prog 100 ⟨1, 8, false, [.v .nilFunc], .other, false⟩ := ⟨Tryd.sizeOf100, Tryd.isAgg100, fun w => ⟨_, Tryd.zeroValue100 w, by simp [Vc.conc, Value.cells]⟩, fun _ => by simp [Vc.conc], rfl, ⟨_, Tryd.underlying100, trivial⟩, (fun _ h => (by cases h)), (fun h => (by cases h)), ⟨Tryd.t100, _, by kernel_rfl, rfl, rfl, rfl, by simp [Vc.conc, Value.cells]⟩⟩
theorem Tryd.ty101 : Vc.TyOK Tryd.prog 101 ⟨1, 8, false, [.v .nilFunc], .other, false⟩ := ⟨Tryd.sizeOf101, Tryd.isAgg101, fun w => ⟨_, Tryd.zeroValue101 w, by simp [Vc.conc, Value.cells]⟩, fun _ => by simp [Vc.conc], rfl, ⟨_, Tryd.underlying101, trivial⟩, (fun _ h => (by cases h)), (fun h => (by cases h)), ⟨Tryd.t101, _, by kernel_rfl, rfl, rfl, rfl, by simp [Vc.conc, Value.cells]⟩⟩
theorem Tryd.ty103 : Vc.TyOK Tryd.prog 103 ⟨1, 8, false, [.v .nilFunc], .other, false⟩ := ⟨Tryd.sizeOf103, Tryd.isAgg103, fun w => ⟨_, Tryd.zeroValue103 w, by simp [Vc.conc, Value.cells]⟩, fun _ => by simp [Vc.conc], rfl, ⟨_, Tryd.underlying103, trivial⟩, (fun _ h => (by cases h)), (fun h => (by cases h)), ⟨Tryd.t103, _, by kernel_rfl, rfl, rfl, rfl, by simp [Vc.conc, Value.cells]⟩⟩
theorem Tryd.ty104 : Vc.TyOK Tryd.prog 104 ⟨1, 8, false, [.v .nilFunc], .other, false⟩ := ⟨Tryd.sizeOf104, Tryd.isAgg104, fun w => ⟨_, Tryd.zeroValue104 w, by simp [Vc.conc, Value.cells]⟩, fun _ => by simp [Vc.conc], rfl, ⟨_, Tryd.underlying104, trivial⟩, (fun _ h => (by cases h)), (fun h => (by cases h)), ⟨Tryd.t104, _, by kernel_rfl, rfl, rfl, rfl, by simp [Vc.conc, Value.cells]⟩⟩
theorem Tryd.ty105 : Vc.TyOK Tryd.prog 105 ⟨9, 88, true, [.str [], .str [], .str [], .str [], .str [], .bool false, .bool false, .bool false, .bool false], .struct [(0, 9), (1, 9), (2, 9), (3, 9), (4, 9), (5, 4), (6, 4), (7, 4), (8, 4)], false⟩ := ⟨Tryd.sizeOf105, Tryd.isAgg105, fun w => ⟨_, Tryd.zeroValue105 w, by simp [Vc.conc, Value.cells]⟩, fun _ => by simp [Vc.conc], rfl, ⟨_, Tryd.underlying105, ⟨_, rfl, rfl⟩⟩, (fun fs h f hf => by cases h; simp only [List.mem_cons, List.not_mem_nil, or_false] at hf; rcases hf with rfl | rfl | rfl | rfl | rfl | rfl | rfl | rfl | rfl <;> first | exact ⟨_, Tryd.sizeOf4⟩ | exact ⟨_, Tryd.sizeOf9⟩), (fun h => (by cases h)), ⟨Tryd.t105, _, by kernel_rfl, rfl, rfl, rfl, by simp [Vc.conc, Value.cells]⟩⟩
theorem Tryd.ty106 : Vc.TyOK Tryd.prog 106 ⟨9, 88, true, [.str [], .str [], .str [], .str [], .str [], .bool false, .bool false, .bool false, .bool false], .struct [(0, 9), (1, 9), (2, 9), (3, 9), (4, 9), (5, 4), (6, 4), (7, 4), (8, 4)], true⟩ := ⟨Tryd.sizeOf106, Tryd.isAgg106, fun w => ⟨_, Tryd.zeroValue106 w, by simp [Vc.conc, Value.cells]⟩, fun _ => by simp [Vc.conc], rfl, ⟨_, Tryd.underlying106, ⟨_, rfl, rfl⟩⟩, (fun fs h f hf => by cases h; simp only [List.mem_cons, List.not_mem_nil, or_false] at hf; rcases hf with rfl | rfl | rfl | rfl | rfl | rfl | rfl | rfl | rfl <;> first | exact ⟨_, Tryd.sizeOf4⟩ | exact ⟨_, Tryd.sizeOf9⟩), (fun _ => ⟨by kernel_rfl, by kernel_rfl, by kernel_rfl⟩), ⟨Tryd.t106, _, by kernel_rfl, rfl, rfl, rfl, by simp [Vc.conc, Value.cells]⟩⟩
theorem Tryd.ty108 : Vc.TyOK Tryd.prog 108 ⟨1, 8, false, [.v .nilFunc], .other, false⟩ := ⟨Tryd.sizeOf108, Tryd.isAgg108, fun w => ⟨_, Tryd.zeroValue108 w, by simp [Vc.conc, Value.cells]⟩, fun _ => by simp [Vc.conc], rfl, ⟨_, Tryd.underlying108, trivial⟩, (fun _ h => (by cases h)), (fun h => (by cases h)), ⟨Tryd.t108, _, by kernel_rfl, rfl, rfl, rfl, by simp [Vc.conc, Value.cells]⟩⟩
theorem Tryd.ty109 : Vc.TyOK Tryd.prog 109 ⟨1, 8, false, [.v .nilFunc], .other, false⟩ := ⟨Tryd.sizeOf109, Tryd.isAgg109, fun w => ⟨_, Tryd.zeroValue109 w, by simp [Vc.conc, Value.cells]⟩, fun _ => by simp [Vc.conc], rfl, ⟨_, Tryd.underlying109, trivial⟩, (fun _ h => (by cases h)), (fun h => (by cases h)), ⟨Tryd.t109, _, by kernel_rfl, rfl, rfl, rfl, by simp [Vc.conc, Value.cells]⟩⟩
theorem Tryd.ty110 : Vc.TyOK Tryd.prog 110 ⟨1, 8, false, [.v .nilFunc], .other, false⟩ := ⟨Tryd.sizeOf110, Tryd.isAgg110, fun w => ⟨_, Tryd.zeroValue110 w, by simp [Vc.conc, Value.cells]⟩, fun _ => by simp [Vc.conc], rfl, ⟨_, Tryd.underlying110, trivial⟩, (fun _ h => (by cases h)), (fun h => (by cases h)), ⟨Tryd.t110, _, by kernel_rfl, rfl, rfl, rfl, by simp [Vc.conc, Value.cells]⟩⟩
theorem Tryd.ty111 : Vc.TyOK Tryd.prog 111 ⟨1, 8, false, [.v .nilFunc], .other, false⟩ := ⟨Tryd.sizeOf111, Tryd.isAgg111, fun w => ⟨_, Tryd.zeroValue111 w, by simp [Vc.conc, Value.cells]⟩, fun _ => by simp [Vc.conc], rfl, ⟨_, Tryd.underlying111, trivial⟩, (fun _ h => (by cases h)), (fun h => (by cases h)), ⟨Tryd.t111, _, by kernel_rfl, rfl, rfl, rfl, by simp [Vc.conc, Value.cells]⟩⟩
theorem Tryd.ty115 : Vc.TyOK Tryd.prog 115 ⟨1, 8, false, [.v .nilFunc], .other, false⟩ := ⟨Tryd.sizeOf115, Tryd.isAgg115, fun w => ⟨_, Tryd.zeroValue115 w, by simp [Vc.conc, Value.cells]⟩, fun _ => by simp [Vc.conc], rfl, ⟨_, Tryd.underlying115, trivial⟩, (fun _ h => (by cases h)), (fun h => (by cases h)), ⟨Tryd.t115, _, by kernel_rfl, rfl, rfl, rfl, by simp [Vc.conc, Value.cells]⟩⟩
theorem Tryd.ty116 : Vc.TyOK Tryd.prog 116 ⟨1, 8, false, [.v .nilFunc], .other, false⟩ := ⟨Tryd.sizeOf116, Tryd.isAgg116, fun w => ⟨_, Tryd.zeroValue116 w, by simp [Vc.conc, Value.cells]⟩, fun _ => by simp [Vc.conc], rfl, ⟨_, Tryd.underlying116, trivial⟩, (fun _ h => (by cases h)), (fun h => (by cases h)), ⟨Tryd.t116, _, by kernel_rfl, rfl, rfl, rfl, by simp [Vc.conc, Value.cells]⟩⟩
theorem Tryd.ty117 : Vc.TyOK Tryd.prog 117 ⟨1, 8, false, [.v .nilFunc], .other, false⟩ := ⟨Tryd.sizeOf117, Tryd.isAgg117, fun w => ⟨_, Tryd.zeroValue117 w, by simp [Vc.conc, Value.cells]⟩, fun _ => by simp [Vc.conc], rfl, ⟨_, Tryd.underlying117, trivial⟩, (fun _ h => (by cases h)), (fun h => (by cases h)), ⟨Tryd.t117, _, by kernel_rfl, rfl, rfl, rfl, by simp [Vc.conc, Value.cells]⟩⟩
theorem Tryd.ty118 : Vc.TyOK Tryd.prog 118 ⟨1, 8, false, [.v .nilFunc], .other, false⟩ := ⟨Tryd.sizeOf118, Tryd.isAgg118, fun w => ⟨_, Tryd.zeroValue118 w, by simp [Vc.conc, Value.cells]⟩, fun _ => by simp [Vc.conc], rfl, ⟨_, Tryd.underlying118, trivial⟩, (fun _ h => (by cases h)), (fun h => (by cases h)), ⟨Tryd.t118, _, by kernel_rfl, rfl, rfl, rfl, by simp [Vc.conc, Value.cells]⟩⟩
theorem Tryd.ty120 : Vc.TyOK Tryd.prog 120 ⟨1, 8, false, [.v .nilFunc], .other, false⟩ := ⟨Tryd.sizeOf120, Tryd.isAgg120, fun w => ⟨_, Tryd.zeroValue120 w, by simp [Vc.conc, Value.cells]⟩, fun _ => by simp [Vc.conc], rfl, ⟨_, Tryd.underlying120, trivial⟩, (fun _ h => (by cases h)), (fun h => (by cases h)), ⟨Tryd.t120, _, by kernel_rfl, rfl, rfl, rfl, by simp [Vc.conc, Value.cells]⟩⟩
theorem Tryd.ty121 : Vc.TyOK Tryd.prog 121 ⟨1, 8, false, [.v .nilFunc], .other, false⟩ := ⟨Tryd.sizeOf121, Tryd.isAgg121, fun w => ⟨_, Tryd.zeroValue121 w, by simp [Vc.conc, Value.cells]⟩, fun _ => by simp [Vc.conc], rfl, ⟨_, Tryd.underlying121, trivial⟩, (fun _ h => (by cases h)), (fun h => (by cases h)), ⟨Tryd.t121, _, by kernel_rfl, rfl, rfl, rfl, by simp [Vc.conc, Value.cells]⟩⟩
theorem Tryd.ty122 : Vc.TyOK Tryd.prog 122 ⟨1, 8, false, [.v .nilFunc], .other, false⟩ := ⟨Tryd.sizeOf122, Tryd.isAgg122, fun w => ⟨_, Tryd.zeroValue122 w, by simp [Vc.conc, Value.cells]⟩, fun _ => by simp [Vc.conc], rfl, ⟨_, Tryd.underlying122, trivial⟩, (fun _ h => (by cases h)), (fun h => (by cases h)), ⟨Tryd.t122, _, by kernel_rfl, rfl, rfl, rfl, by simp [Vc.conc, Value.cells]⟩⟩
theorem Tryd.ty123 : Vc.TyOK Tryd.prog 123 ⟨1, 24, false, [.nils], .slice 5, false⟩ := ⟨Tryd.sizeOf123, Tryd.isAgg123, fun w => ⟨_, Tryd.zeroValue123 w, by simp [Vc.conc, Value.cells]⟩, fun _ => by simp [Vc.conc], rfl, ⟨_, Tryd.underlying123, rfl⟩, (fun _ h => (by cases h)), (fun h => (by cases h)), ⟨Tryd.t123, _, by kernel_rfl, rfl, rfl, rfl, by simp [Vc.conc, Value.cells]⟩⟩
theorem Tryd.ty125 : Vc.TyOK Tryd.prog 125 ⟨1, 8, false, [.v .nilFunc], .other, false⟩ := ⟨Tryd.sizeOf125, Tryd.isAgg125, fun w => ⟨_, Tryd.zeroValue125 w, by simp [Vc.conc, Value.cells]⟩, fun _ => by simp [Vc.conc], rfl, ⟨_, Tryd.underlying125, trivial⟩, (fun _ h => (by cases h)), (fun h => (by cases h)), ⟨Tryd.t125, _, by kernel_rfl, rfl, rfl, rfl, by simp [Vc.conc, Value.cells]⟩⟩
theorem Tryd.ty126 : Vc.TyOK Tryd.prog 126 ⟨1, 8, false, [.v .nilFunc], .other, false⟩ := ⟨Tryd.sizeOf126, Tryd.isAgg126, fun w => ⟨_, Tryd.zeroValue126 w, by simp [Vc.conc, Value.cells]⟩, fun _ => by simp [Vc.conc], rfl, ⟨_, Tryd.underlying126, trivial⟩, (fun _ h => (by cases h)), (fun h => (by cases h)), ⟨Tryd.t126, _, by kernel_rfl, rfl, rfl, rfl, by simp [Vc.conc, Value.cells]⟩⟩
theorem Tryd.ty127 : Vc.TyOK Tryd.prog 127 ⟨1, 8, false, [.v .nilFunc], .other, false⟩ := ⟨Tryd.sizeOf127, Tryd.isAgg127, fun w => ⟨_, Tryd.zeroValue127 w, by simp [Vc.conc, Value.cells]⟩, fun _ => by simp [Vc.conc], rfl, ⟨_, Tryd.underlying127, trivial⟩, (fun _ h => (by cases h)), (fun h => (by cases h)), ⟨Tryd.t127, _, by kernel_rfl, rfl, rfl, rfl, by simp [Vc.conc, Value.cells]⟩⟩
theorem Tryd.ty128 : Vc.TyOK Tryd.prog 128 ⟨1, 8, false, [.v .nilFunc], .other, false⟩ := ⟨Tryd.sizeOf128, Tryd.isAgg128, fun w => ⟨_, Tryd.zeroValue128 w, by simp [Vc.conc, Value.cells]⟩, fun _ => by simp [Vc.conc], rfl, ⟨_, Tryd.underlying128, trivial⟩, (fun _ h => (by cases h)), (fun h => (by cases h)), ⟨Tryd.t128, _, by kernel_rfl, rfl, rfl, rfl, by simp [Vc.conc, Value.cells]⟩⟩
theorem Tryd.ty129 : Vc.TyOK Tryd.prog 129 ⟨1, 8, false, [.v .nilFunc], .other, false⟩ := ⟨Tryd.sizeOf129, Tryd.isAgg129, fun w => ⟨_, Tryd.zeroValue129 w, by simp [Vc.conc, Value.cells]⟩, fun _ => by simp [Vc.conc], rfl, ⟨_, Tryd.underlying129, trivial⟩, (fun _ h => (by cases h)), (fun h => (by cases h)), ⟨Tryd.t129, _, by kernel_rfl, rfl, rfl, rfl, by simp [Vc.conc, Value.cells]⟩⟩
theorem Tryd.ty130 : Vc.TyOK Tryd.prog 130 ⟨1, 8, false, [.int .u64 0], .int .u64, false⟩ := ⟨Tryd.sizeOf130, Tryd.isAgg130, fun w => ⟨_, Tryd.zeroValue130 w, by simp [Vc.conc, Value.cells]⟩, fun _ => by simp [Vc.conc], rfl, ⟨_, Tryd.underlying130, rfl⟩, (fun _ h => (by cases h)), (fun h => (by cases h)), ⟨Tryd.t130, _, by kernel_rfl, rfl, rfl, rfl, by simp [Vc.conc, Value.cells]⟩⟩
theorem Tryd.ty131 : Vc.TyOK Tryd.prog 131 ⟨1, 8, false, [.v (.pointer none)], .ptr 113, false⟩ := ⟨Tryd.sizeOf131, Tryd.isAgg131, fun w => ⟨_, Tryd.zeroValue131 w, by simp [Vc.conc, Value.cells]⟩, fun _ => by simp [Vc.conc], rfl, ⟨_, Tryd.underlying131, rfl⟩, (fun _ h => (by cases h)), (fun h => (by cases h)), ⟨Tryd.t131, _, by kernel_rfl, rfl, rfl, rfl, by simp [Vc.conc, Value.cells]⟩⟩
theorem Tryd.ty132 : Vc.TyOK Tryd.prog 132 ⟨1, 8, false, [.v .nilFunc], .other, false⟩ := ⟨Tryd.sizeOf132, Tryd.isAgg132, fun w => ⟨_, Tryd.zeroValue132 w, by simp [Vc.conc, Value.cells]⟩, fun _ => by simp [Vc.conc], rfl, ⟨_, Tryd.underlying132, trivial⟩, (fun _ h => (by cases h)), (fun h => (by cases h)), ⟨Tryd.t132, _, by kernel_rfl, rfl, rfl, rfl, by simp [Vc.conc, Value.cells]⟩⟩
theorem Tryd.ty133 : Vc.TyOK Tryd.prog 133 ⟨1, 8, false, [.v .nilFunc], .other, false⟩ := ⟨Tryd.sizeOf133, Tryd.isAgg133, fun w => ⟨_, Tryd.zeroValue133 w, by simp [Vc.conc, Value.cells]⟩, fun _ => by simp [Vc.conc], rfl, ⟨_, Tryd.underlying133, trivial⟩, (fun _ h => (by cases h)), (fun h => (by cases h)), ⟨Tryd.t133, _, by kernel_rfl, rfl, rfl, rfl, by simp [Vc.conc, Value.cells]⟩⟩
theorem Tryd.ty135 : Vc.TyOK Tryd.prog 135 ⟨1, 8, false, [.v .nilFunc], .other, false⟩ := ⟨Tryd.sizeOf135, Tryd.isAgg135, fun w => ⟨_, Tryd.zeroValue135 w, by simp [Vc.conc, Value.cells]⟩, fun _ => by simp [Vc.conc], rfl, ⟨_, Tryd.underlying135, trivial⟩, (fun _ h => (by cases h)), (fun h => (by cases h)), ⟨Tryd.t135, _, by kernel_rfl, rfl, rfl, rfl, by simp [Vc.conc, Value.cells]⟩⟩
theorem Tryd.ty136 : Vc.TyOK Tryd.prog 136 ⟨20, 20, true, [.int .u8 0, .int .u8 0, .int .u8 0, .int .u8 0, .int .u8 0, .int .u8 0, .int .u8 0, .int .u8 0, .int .u8 0, .int .u8 0, .int .u8 0, .int .u8 0, .int .u8 0, .int .u8 0, .int .u8 0, .int .u8 0, .int .u8 0, .int .u8 0, .int .u8 0, .int .u8 0], .arr 20 5, false⟩ := ⟨Tryd.sizeOf136, Tryd.isAgg136, fun w => ⟨_, Tryd.zeroValue136 w, by simp [Vc.conc, Value.cells]⟩, fun _ => by simp [Vc.conc], rfl, ⟨_, Tryd.underlying136, rfl⟩, (fun _ h => (by cases h)), (fun h => (by cases h)), ⟨Tryd.t136, _, by kernel_rfl, rfl, rfl, rfl, by simp [Vc.conc, Value.cells]⟩⟩
theorem Tryd.ty137 : Vc.TyOK Tryd.prog 137 ⟨1, 8, false, [.v .nilFunc], .other, false⟩ := ⟨Tryd.sizeOf137, Tryd.isAgg137, fun w => ⟨_, Tryd.zeroValue137 w, by simp [Vc.conc, Value.cells]⟩, fun _ => by simp [Vc.conc], rfl, ⟨_, Tryd.underlying137, trivial⟩, (fun _ h => (by cases h)), (fun h => (by cases h)), ⟨Tryd.t137, _, by kernel_rfl, rfl, rfl, rfl, by simp [Vc.conc, Value.cells]⟩⟩
theorem Tryd.ty138 : Vc.TyOK Tryd.prog 138 ⟨1, 8, false, [.v .nilFunc], .other, false⟩ := ⟨Tryd.sizeOf138, Tryd.isAgg138, fun w => ⟨_, Tryd.zeroValue138 w, by simp [Vc.conc, Value.cells]⟩, fun _ => by simp [Vc.conc], rfl, ⟨_, Tryd.underlying138, trivial⟩, (fun _ h => (by cases h)), (fun h => (by cases h)), ⟨Tryd.t138, _, by kernel_rfl, rfl, rfl, rfl, by simp [Vc.conc, Value.cells]⟩⟩
theorem Tryd.ty139 : Vc.TyOK Tryd.prog 139 ⟨1, 8, false, [.v (.pointer none)], .ptr 123, false⟩ := ⟨Tryd.sizeOf139, Tryd.isAgg139, fun w => ⟨_, Tryd.zeroValue139 w, by simp [Vc.conc, Value.cells]⟩, fun _ => by simp [Vc.conc], rfl, ⟨_, Tryd.underlying139, rfl⟩, (fun _ h => (by cases h)), (fun h => (by cases h)), ⟨Tryd.t139, _, by kernel_rfl, rfl, rfl, rfl, by simp [Vc.conc, Value.cells]⟩⟩
theorem Tryd.ty140 : Vc.TyOK Tryd.prog 140 ⟨1, 4, false, [.int .u32 0], .int .u32, false⟩ := ⟨Tryd.sizeOf140, Tryd.isAgg140, fun w => ⟨_, Tryd.zeroValue140 w, by simp [Vc.conc, Value.cells]⟩, fun _ => by simp [Vc.conc], rfl, ⟨_, Tryd.underlying140, rfl⟩, (fun _ h => (by cases h)), (fun h => (by cases h)), ⟨Tryd.t140, _, by kernel_rfl, rfl, rfl, rfl, by simp [Vc.conc, Value.cells]⟩⟩
theorem Tryd.ty142 : Vc.TyOK Tryd.prog 142 ⟨1, 8, false, [.v .nilFunc], .other, false⟩ := ⟨Tryd.sizeOf142, Tryd.isAgg142, fun w => ⟨_, Tryd.zeroValue142 w, by simp [Vc.conc, Value.cells]⟩, fun _ => by simp [Vc.conc], rfl, ⟨_, Tryd.underlying142, trivial⟩, (fun _ h => (by cases h)), (fun h => (by cases h)), ⟨Tryd.t142, _, by kernel_rfl, rfl, rfl, rfl, by simp [Vc.conc, Value.cells]⟩⟩
theorem Tryd.ty144 : Vc.TyOK Tryd.prog 144 ⟨2, 2, true, [.int .u8 0, .int .u8 0], .struct [(0, 5), (1, 5)], false⟩ := ⟨Tryd.sizeOf144, Tryd.isAgg144, fun w => ⟨_, Tryd.zeroValue144 w, by simp [Vc.conc, Value.cells]⟩, fun _ => by simp [Vc.conc], rfl, ⟨_, Tryd.underlying144, ⟨_, rfl, rfl⟩⟩, (fun fs h f hf => by cases h; simp only [List.mem_cons, List.not_mem_nil, or_false] at hf; rcases hf with rfl | rfl <;> first | exact ⟨_, Tryd.sizeOf5⟩), (fun h => (by cases h)), ⟨Tryd.t144, _, by kernel_rfl, rfl, rfl, rfl, by simp [Vc.conc, Value.cells]⟩⟩
theorem Tryd.ty145 : Vc.TyOK Tryd.prog 145 ⟨2, 2, true, [.int .u8 0, .int .u8 0], .struct [(0, 5), (1, 5)], false⟩ := ⟨Tryd.sizeOf145, Tryd.isAgg145, fun w => ⟨_, Tryd.zeroValue145 w, by simp [Vc.conc, Value.cells]⟩, fun _ => by simp [Vc.conc], rfl, ⟨_, Tryd.underlying145, ⟨_, rfl, rfl⟩⟩, (fun fs h f hf => by cases h; simp only [List.mem_cons, List.not_mem_nil, or_false] at hf; rcases hf with rfl | rfl <;> first | exact ⟨_, Tryd.sizeOf5⟩), (fun h => (by cases h)), ⟨Tryd.t145, _, by kernel_rfl, rfl, rfl, rfl, by simp [Vc.conc, Value.cells]⟩⟩
theorem Tryd.ty146 : Vc.TyOK Tryd.prog 146 ⟨32, 32, true, [.int .u8 0, .int .u8 0, .int .u8 0, .int .u8 0, .int .u8 0, .int .u8 0, .int .u8 0, .int .u8 0, .int .u8 0, .int .u8 0, .int .u8 0, .int .u8 0, .int .u8 0, .int .u8 0, .int .u8 0, .int .u8 0, .int .u8 0, .int .u8 0, .int .u8 0, .int .u8 0, .int .u8 0, .int .u8 0, .int .u8 0, .int .u8 0, .int .u8 0, .int .u8 0, .int .u8 0, .int .u8 0, .int .u8 0, .int .u8 0, .int .u8 0, .int .u8 0], .arr 16 145, false⟩ := ⟨Tryd.sizeOf146, Tryd.isAgg146, fun w => ⟨_, Tryd.zeroValue146 w, by simp [Vc.conc, Value.cells]⟩, fun _ => by simp [Vc.conc], rfl, ⟨_, Tryd.underlying146, rfl⟩, (fun _ h => (by cases h)), (fun h => (by cases h)), ⟨Tryd.t146, _, by kernel_rfl, rfl, rfl, rfl, by simp [Vc.conc, Value.cells]⟩⟩
theorem Tryd.ty147 : Vc.TyOK Tryd.prog 147 ⟨4, 40, true, [.v (.pointer none), .v (.pointer none), .v (.pointer none), .str []], .struct [(0, 17), (1, 17), (2, 17), (3, 9)], false⟩ := ⟨Tryd.sizeOf147, Tryd.isAgg147, fun w => ⟨_, Tryd.zeroValue147 w, by simp [Vc.conc, Value.cells]⟩, fun _ => by simp [Vc.conc], rfl, ⟨_, Tryd.underlying147, ⟨_, rfl, rfl⟩⟩, (fun fs h f hf => by cases h; simp only [List.mem_cons, List.not_mem_nil, or_false] at hf; rcases hf with rfl | rfl | rfl | rfl <;> first | exact ⟨_, Tryd.sizeOf9⟩ | exact ⟨_, Tryd.sizeOf17⟩), (fun h => (by cases h)), ⟨Tryd.t147, _, by kernel_rfl, rfl, rfl, rfl, by simp [Vc.conc, Value.cells]⟩⟩
theorem Tryd.ty148 : Vc.TyOK Tryd.prog 148 ⟨4, 40, true, [.v (.pointer none), .v (.pointer none), .v (.pointer none), .str []], .struct [(0, 17), (1, 17), (2, 17), (3, 9)], false⟩ := ⟨Tryd.sizeOf148, Tryd.isAgg148, fun w => ⟨_, Tryd.zeroValue148 w, by simp [Vc.conc, Value.cells]⟩, fun _ => by simp [Vc.conc], rfl, ⟨_, Tryd.underlying148, ⟨_, rfl, rfl⟩⟩, (fun fs h f hf => by cases h; simp only [List.mem_cons, List.not_mem_nil, or_false] at hf; rcases hf with rfl | rfl | rfl | rfl <;> first | exact ⟨_, Tryd.sizeOf9⟩ | exact ⟨_, Tryd.sizeOf17⟩), (fun h => (by cases h)), ⟨Tryd.t148, _, by kernel_rfl, rfl, rfl, rfl, by simp [Vc.conc, Value.cells]⟩⟩
theorem Tryd.ty149 : Vc.TyOK Tryd.prog 149 ⟨0, 0, true, [], .arr 0 16, false⟩ := ⟨Tryd.sizeOf149, Tryd.isAgg149, fun w => ⟨_, Tryd.zeroValue149 w, by simp [Vc.conc, Value.cells]⟩, fun _ => by simp [Vc.conc], rfl, ⟨_, Tryd.underlying149, rfl⟩, (fun _ h => (by cases h)), (fun h => (by cases h)), ⟨Tryd.t149, _, by kernel_rfl, rfl, rfl, rfl, by simp [Vc.conc, Value.cells]⟩⟩
theorem Tryd.ty150 : Vc.TyOK Tryd.prog 150 ⟨0, 0, true, [], .struct [(0, 149)], false⟩ := ⟨Tryd.sizeOf150, Tryd.isAgg150, fun w => ⟨_, Tryd.zeroValue150 w, by simp [Vc.conc, Value.cells]⟩, fun _ => by simp [Vc.conc], rfl, ⟨_, Tryd.underlying150, ⟨_, rfl, rfl⟩⟩, (fun fs h f hf => by cases h; simp only [List.mem_cons, List.not_mem_nil, or_false] at hf; rcases hf with rfl <;> first | exact ⟨_, Tryd.sizeOf149⟩), (fun h => (by cases h)), ⟨Tryd.t150, _, by kernel_rfl, rfl, rfl, rfl, by simp [Vc.conc, Value.cells]⟩⟩
theorem Tryd.ty151 : Vc.TyOK Tryd.prog 151 ⟨0, 0, true, [], .struct [(0, 149)], false⟩ := ⟨Tryd.sizeOf151, Tryd.isAgg151, fun w => ⟨_, Tryd.zeroValue151 w, by simp [Vc.conc, Value.cells]⟩, fun _ => by simp [Vc.conc], rfl, ⟨_, Tryd.underlying151, ⟨_, rfl, rfl⟩⟩, (fun fs h f hf => by cases h; simp only [List.mem_cons, List.not_mem_nil, or_false] at hf; rcases hf with rfl <;> first | exact ⟨_, Tryd.sizeOf149⟩), (fun h => (by cases h)), ⟨Tryd.t151, _, by kernel_rfl, rfl, rfl, rfl, by simp [Vc.conc, Value.cells]⟩⟩
theorem Tryd.ty152 : Vc.TyOK Tryd.prog 152 ⟨1, 1, false, [.int .u8 0], .int .u8, false⟩ := ⟨Tryd.sizeOf152, Tryd.isAgg152, fun w => ⟨_, Tryd.zeroValue152 w, by simp [Vc.conc, Value.cells]⟩, fun _ => by simp [Vc.conc], rfl, ⟨_, Tryd.underlying152, rfl⟩, (fun _ h => (by cases h)), (fun h => (by cases h)), ⟨Tryd.t152, _, by kernel_rfl, rfl, rfl, rfl, by simp [Vc.conc, Value.cells]⟩⟩
theorem Tryd.ty153 : Vc.TyOK Tryd.prog 153 ⟨1, 1, false, [.int .u8 0], .int .u8, false⟩ := ⟨Tryd.sizeOf153, Tryd.isAgg153, fun w => ⟨_, Tryd.zeroValue153 w, by simp [Vc.conc, Value.cells]⟩, fun _ => by simp [Vc.conc], rfl, ⟨_, Tryd.underlying153, rfl⟩, (fun _ h => (by cases h)), (fun h => (by cases h)), ⟨Tryd.t153, _, by kernel_rfl, rfl, rfl, rfl, by simp [Vc.conc, Value.cells]⟩⟩
theorem Tryd.ty154 : Vc.TyOK Tryd.prog 154 ⟨1, 8, false, [.v .nilFunc], .other, false⟩ := ⟨Tryd.sizeOf154, Tryd.isAgg154, fun w => ⟨_, Tryd.zeroValue154 w, by simp [Vc.conc, Value.cells]⟩, fun _ => by simp [Vc.conc], rfl, ⟨_, Tryd.underlying154, trivial⟩, (fun _ h => (by cases h)), (fun h => (by cases h)), ⟨Tryd.t154, _, by kernel_rfl, rfl, rfl, rfl, by simp [Vc.conc, Value.cells]⟩⟩
theorem Tryd.ty155 : Vc.TyOK Tryd.prog 155 ⟨1, 4, false, [.int .i32 0], .int .i32, false⟩ := ⟨Tryd.sizeOf155, Tryd.isAgg155, fun w => ⟨_, Tryd.zeroValue155 w, by simp [Vc.conc, Value.cells]⟩, fun _ => by simp [Vc.conc], rfl, ⟨_, Tryd.underlying155, rfl⟩, (fun _ h => (by cases h)), (fun h => (by cases h)), ⟨Tryd.t155, _, by kernel_rfl, rfl, rfl, rfl, by simp [Vc.conc, Value.cells]⟩⟩
theorem Tryd.ty156 : Vc.TyOK Tryd.prog 156 ⟨1, 4, false, [.int .i32 0], .int .i32, false⟩ := ⟨Tryd.sizeOf156, Tryd.isAgg156, fun w => ⟨_, Tryd.zeroValue156 w, by simp [Vc.conc, Value.cells]⟩, fun _ => by simp [Vc.conc], rfl, ⟨_, Tryd.underlying156, rfl⟩, (fun _ h => (by cases h)), (fun h => (by cases h)), ⟨Tryd.t156, _, by kernel_rfl, rfl, rfl, rfl, by simp [Vc.conc, Value.cells]⟩⟩
theorem Tryd.ty157 : Vc.TyOK Tryd.prog 157 ⟨11, 48, true, [.int .u64 0, .int .u64 0, .int .u32 0, .int .u8 0, .int .u8 0, .int .u8 0, .int .u8 0, .v .nilFunc, .v (.pointer none), .int .i32 0, .int .i32 0], .struct [(0, 12), (1, 12), (2, 140), (3, 152), (4, 5), (5, 5), (6, 153), (7, 154), (8, 78), (9, 155), (10, 156)], false⟩ := ⟨Tryd.sizeOf157, Tryd.isAgg157, fun w => ⟨_, Tryd.zeroValue157 w, by simp [Vc.conc, Value.cells]⟩, fun _ => by simp [Vc.conc], rfl, ⟨_, Tryd.underlying157, ⟨_, rfl, rfl⟩⟩, (fun fs h f hf => by cases h; simp only [List.mem_cons, List.not_mem_nil, or_false] at hf; rcases hf with rfl | rfl | rfl | rfl | rfl | rfl | rfl | rfl | rfl | rfl | rfl <;> first | exact ⟨_, Tryd.sizeOf5⟩ | exact ⟨_, Tryd.sizeOf12⟩ | exact ⟨_, Tryd.sizeOf78⟩ | exact ⟨_, Tryd.sizeOf140⟩ | exact ⟨_, Tryd.sizeOf152⟩ | exact ⟨_, Tryd.sizeOf153⟩ | exact ⟨_, Tryd.sizeOf154⟩ | exact ⟨_, Tryd.sizeOf155⟩ | exact ⟨_, Tryd.sizeOf156⟩), (fun h => (by cases h)), ⟨Tryd.t157, _, by kernel_rfl, rfl, rfl, rfl, by simp [Vc.conc, Value.cells]⟩⟩
theorem Tryd.ty158 : Vc.TyOK Tryd.prog 158 ⟨11, 48, true, [.int .u64 0, .int .u64 0, .int .u32 0, .int .u8 0, .int .u8 0, .int .u8 0, .int .u8 0, .v .nilFunc, .v (.pointer none), .int .i32 0, .int .i32 0], .struct [(0, 12), (1, 12), (2, 140), (3, 152), (4, 5), (5, 5), (6, 153), (7, 154), (8, 78), (9, 155), (10, 156)], false⟩ := ⟨Tryd.sizeOf158, Tryd.isAgg158, fun w => ⟨_, Tryd.zeroValue158 w, by simp [Vc.conc, Value.cells]⟩, fun _ => by simp [Vc.conc], rfl, ⟨_, Tryd.underlying158, ⟨_, rfl, rfl⟩⟩, (fun fs h f hf => by cases h; simp only [List.mem_cons, List.not_mem_nil, or_false] at hf; rcases hf with rfl | rfl | rfl | rfl | rfl | rfl | rfl | rfl | rfl | rfl | rfl <;> first | exact ⟨_, Tryd.sizeOf5⟩ | exact ⟨_, Tryd.sizeOf12⟩ | exact ⟨_, Tryd.sizeOf78⟩ | exact ⟨_, Tryd.sizeOf140⟩ | exact ⟨_, Tryd.sizeOf152⟩ | exact ⟨_, Tryd.sizeOf153⟩ | exact ⟨_, Tryd.sizeOf154⟩ | exact ⟨_, Tryd.sizeOf155⟩ | exact ⟨_, Tryd.sizeOf156⟩), (fun h => (by cases h)), ⟨Tryd.t158, _, by kernel_rfl, rfl, rfl, rfl, by simp [Vc.conc, Value.cells]⟩⟩
def Tryd.Γ : TypeId → Option Vc.TI
  | 1 => some ⟨1, 8, false, [.v .nilFunc], .other, false⟩
  | 2 => some ⟨1, 8, false, [.int .i64 0], .int .i64, false⟩
  | 3 => some ⟨1, 8, false, [.int .i64 0], .int .i64, false⟩
  | 4 => some ⟨1, 1, false, [.bool false], .bool, false⟩
  | 5 => some ⟨1, 1, false, [.int .u8 0], .int .u8, false⟩
  | 6 => some ⟨1, 1, false, [.int .u8 0], .int .u8, false⟩
  | 7 => some ⟨4, 24, true, [.int .i64 0, .int .i64 0, .bool false, .int .u8 0], .struct [(0, 2), (1, 3), (2, 4), (3, 6)], false⟩
  | 8 => some ⟨4, 24, true, [.int .i64 0, .int .i64 0, .bool false, .int .u8 0], .struct [(0, 2), (1, 3), (2, 4), (3, 6)], false⟩
  | 9 => some ⟨1, 16, false, [.str []], .str, false⟩
  | 10 => some ⟨1, 16, false, [.str []], .str, false⟩
  | 11 => some ⟨1, 16, false, [.str []], .str, false⟩
  | 12 => some ⟨1, 8, false, [.int .u64 0], .int .u64, false⟩
  | 13 => some ⟨2, 24, true, [.str [], .int .u64 0], .struct [(0, 9), (1, 12)], false⟩
  | 14 => some ⟨2, 24, true, [.str [], .int .u64 0], .struct [(0, 9), (1, 12)], false⟩
  | 15 => some ⟨1, 8, false, [.v (.pointer none)], .ptr 148, false⟩
  | 16 => some ⟨1, 8, false, [.v (.pointer none)], .ptr 151, false⟩
  | 17 => some ⟨1, 8, false, [.v (.pointer none)], .ptr 158, false⟩
  | 18 => some ⟨1, 8, true, [.v (.pointer none)], .struct [(0, 17)], false⟩
  | 19 => some ⟨1, 8, true, [.v (.pointer none)], .struct [(0, 17)], false⟩
  | 20 => some ⟨1, 16, false, [.v .nilIface], .other, false⟩
  | 21 => some ⟨1, 4, false, [.int .i32 0], .int .i32, false⟩
  | 22 => some ⟨1, 8, false, [.v .nilFunc], .other, false⟩
  | 23 => some ⟨1, 8, false, [.v .nilFunc], .other, false⟩
  | 24 => some ⟨1, 8, false, [.int .i64 0], .int .i64, false⟩
  | 26 => some ⟨1, 8, false, [.v .nilFunc], .other, false⟩
  | 27 => some ⟨2, 32, true, [.str [], .str []], .struct [(0, 9), (1, 9)], false⟩
  | 28 => some ⟨2, 32, true, [.str [], .str []], .struct [(0, 9), (1, 9)], true⟩
  | 29 => some ⟨1, 24, false, [.nils], .slice 28, false⟩
  | 30 => some ⟨3, 40, true, [.int .i64 0, .int .i64 0, .nils], .struct [(0, 3), (1, 3), (2, 29)], false⟩
  | 31 => some ⟨3, 40, true, [.int .i64 0, .int .i64 0, .nils], .struct [(0, 3), (1, 3), (2, 29)], false⟩
  | 32 => some ⟨1, 8, false, [.v .nilFunc], .other, false⟩
  | 33 => some ⟨1, 8, false, [.v .nilFunc], .other, false⟩
  | 34 => some ⟨1, 8, false, [.int .u64 0], .int .u64, false⟩
  | 35 => some ⟨7, 80, true, [.str [], .int .i64 0, .str [], .str [], .str [], .bool false, .bool false], .struct [(0, 9), (1, 3), (2, 9), (3, 9), (4, 9), (5, 4), (6, 4)], false⟩
  | 36 => some ⟨7, 80, true, [.str [], .int .i64 0, .str [], .str [], .str [], .bool false, .bool false], .struct [(0, 9), (1, 3), (2, 9), (3, 9), (4, 9), (5, 4), (6, 4)], true⟩
  | 37 => some ⟨7, 80, true, [.str [], .int .i64 0, .str [], .str [], .int .i64 0, .int .u64 0, .int .u64 0], .struct [(0, 9), (1, 3), (2, 9), (3, 9), (4, 3), (5, 34), (6, 34)], false⟩
  | 38 => some ⟨7, 80, true, [.str [], .int .i64 0, .str [], .str [], .int .i64 0, .int .u64 0, .int .u64 0], .struct [(0, 9), (1, 3), (2, 9), (3, 9), (4, 3), (5, 34), (6, 34)], true⟩
  | 39 => some ⟨1, 24, false, [.nils], .slice 38, false⟩
  | 40 => some ⟨1, 8, false, [.v .nilFunc], .other, false⟩
  | 41 => some ⟨1, 8, false, [.v .nilFunc], .other, false⟩
  | 42 => some ⟨2, 24, true, [.str [], .int .i64 0], .struct [(0, 9), (1, 3)], false⟩
  | 43 => some ⟨2, 24, true, [.str [], .int .i64 0], .struct [(0, 9), (1, 3)], true⟩
  | 44 => some ⟨1, 8, false, [.v .nilFunc], .other, false⟩
  | 45 => some ⟨1, 8, false, [.v .nilFunc], .other, false⟩
  | 46 => some ⟨1, 8, false, [.v .nilFunc], .other, false⟩
  | 47 => some ⟨1, 8, false, [.v .nilFunc], .other, false⟩
  | 48 => some ⟨1, 8, false, [.v .nilFunc], .other, false⟩
  | 49 => some ⟨1, 8, false, [.v (.pointer none)], .ptr 52, false⟩
  | 50 => some ⟨1, 24, false, [.nils], .slice 5, false⟩
  | 51 => some ⟨2, 32, true, [.v (.pointer none), .nils], .struct [(0, 49), (1, 50)], false⟩
  | 52 => some ⟨2, 32, true, [.v (.pointer none), .nils], .struct [(0, 49), (1, 50)], false⟩
  | 53 => some ⟨1, 16, false, [.v .nilIface], .other, false⟩
  | 54 => some ⟨1, 16, false, [.v .nilIface], .other, false⟩
  | 56 => some ⟨1, 8, false, [.v .nilFunc], .other, false⟩
  | 57 => some ⟨1, 8, false, [.v .nilFunc], .other, false⟩
  | 59 => some ⟨1, 8, false, [.v .nilFunc], .other, false⟩
  | 60 => some ⟨1, 8, false, [.v .nilFunc], .other, false⟩
  | 62 => some ⟨1, 8, false, [.v .nilFunc], .other, false⟩
  | 63 => some ⟨1, 8, false, [.v .nilFunc], .other, false⟩
  | 64 => some ⟨1, 8, false, [.v .nilFunc], .other, false⟩
  | 65 => some ⟨1, 8, false, [.v .nilFunc], .other, false⟩
  | 66 => some ⟨1, 8, false, [.v .nilFunc], .other, false⟩
  | 67 => some ⟨4, 48, true, [.str [], .int .i64 0, .str [], .int .u64 0], .struct [(0, 43), (2, 9), (3, 34)], false⟩
  | 68 => some ⟨4, 48, true, [.str [], .int .i64 0, .str [], .int .u64 0], .struct [(0, 43), (2, 9), (3, 34)], true⟩
  | 69 => some ⟨1, 8, false, [.v .nilFunc], .other, false⟩
  | 70 => some ⟨1, 8, false, [.v .nilFunc], .other, false⟩
  | 71 => some ⟨2, 24, true, [.str [], .int .i64 0], .struct [(0, 9), (1, 3)], true⟩
  | 72 => some ⟨1, 8, false, [.v (.pointer none)], .ptr 74, false⟩
  | 73 => some ⟨2, 24, true, [.str [], .int .u64 0], .struct [(0, 9), (1, 34)], false⟩
  | 74 => some ⟨2, 24, true, [.str [], .int .u64 0], .struct [(0, 9), (1, 34)], true⟩
  | 75 => some ⟨1, 8, false, [.v .nilFunc], .other, false⟩
  | 76 => some ⟨1, 8, false, [.v .nilFunc], .other, false⟩
  | 77 => some ⟨1, 8, false, [.v .nilFunc], .other, false⟩
  | 78 => some ⟨1, 8, false, [.v (.pointer none)], .ptr 5, false⟩
  | 79 => some ⟨1, 24, false, [.nils], .slice 9, false⟩
  | 80 => some ⟨1, 8, false, [.v .nilFunc], .other, false⟩
  | 81 => some ⟨1, 8, false, [.v .nilFunc], .other, false⟩
  | 83 => some ⟨1, 8, false, [.v .nilFunc], .other, false⟩
  | 84 => some ⟨1, 8, false, [.v .nilFunc], .other, false⟩
  | 85 => some ⟨1, 8, false, [.v .nilFunc], .other, false⟩
  | 87 => some ⟨1, 8, false, [.v .nilFunc], .other, false⟩
  | 88 => some ⟨1, 8, false, [.v .nilFunc], .other, false⟩
  | 90 => some ⟨1, 8, false, [.v .nilFunc], .other, false⟩
  | 91 => some ⟨1, 8, false, [.v .nilFunc], .other, false⟩
  | 92 => some ⟨1, 8, false, [.v .nilFunc], .other, false⟩
  | 93 => some ⟨1, 8, false, [.v .nilFunc], .other, false⟩
  | 94 => some ⟨1, 8, false, [.v .nilFunc], .other, false⟩
  | 95 => some ⟨1, 8, false, [.v .nilFunc], .other, false⟩
  | 97 => some ⟨1, 8, false, [.v .nilFunc], .other, false⟩
  | 98 => some ⟨1, 8, false, [.v .nilFunc], .other, false⟩
  | 99 => some ⟨1, 8, false, [.v .nilFunc], .other, false⟩
  | 100 => some ⟨1, 8, false, [.v .nilFunc], .other, false⟩
  | 101 => some ⟨1, 8, false, [.v .nilFunc], .other, false⟩
  | 103 => some ⟨1, 8, false, [.v .nilFunc], .other, false⟩
  | 104 => some ⟨1, 8, false, [.v .nilFunc], .other, false⟩
  | 105 => some ⟨9, 88, true, [.str [], .str [], .str [], .str [], .str [], .bool false, .bool false, .bool false, .bool false], .struct [(0, 9), (1, 9), (2, 9), (3, 9), (4, 9), (5, 4), (6, 4), (7, 4), (8, 4)], false⟩
  | 106 => some ⟨9, 88, true, [.str [], .str [], .str [], .str [], .str [], .bool false, .bool false, .bool false, .bool false], .struct [(0, 9), (1, 9), (2, 9), (3, 9), (4, 9), (5, 4), (6, 4), (7, 4), (8, 4)], true⟩
  | 108 => some ⟨1, 8, false, [.v .nilFunc], .other, false⟩
  | 109 => some ⟨1, 8, false, [.v .nilFunc], .other, false⟩
  | 110 => some ⟨1, 8, false, [.v .nilFunc], .other, false⟩
  | 111 => some ⟨1, 8, false, [.v .nilFunc], .other, false⟩
  | 115 => some ⟨1, 8, false, [.v .nilFunc], .other, false⟩
  | 116 => some ⟨1, 8, false, [.v .nilFunc], .other, false⟩
  | 117 => some ⟨1, 8, false, [.v .nilFunc], .other, false⟩
  | 118 => some ⟨1, 8, false, [.v .nilFunc], .other, false⟩
  | 120 => some ⟨1, 8, false, [.v .nilFunc], .other, false⟩
  | 121 => some ⟨1, 8, false, [.v .nilFunc], .other, false⟩
  | 122 => some ⟨1, 8, false, [.v .nilFunc], .other, false⟩
  | 123 => some ⟨1, 24, false, [.nils], .slice 5, false⟩
  | 125 => some ⟨1, 8, false, [.v .nilFunc], .other, false⟩
  | 126 => some ⟨1, 8, false, [.v .nilFunc], .other, false⟩
  | 127 => some ⟨1, 8, false, [.v .nilFunc], .other, false⟩
  | 128 => some ⟨1, 8, false, [.v .nilFunc], .other, false⟩
  | 129 => some ⟨1, 8, false, [.v .nilFunc], .other, false⟩
  | 130 => some ⟨1, 8, false, [.int .u64 0], .int .u64, false⟩
  | 131 => some ⟨1, 8, false, [.v (.pointer none)], .ptr 113, false⟩
  | 132 => some ⟨1, 8, false, [.v .nilFunc], .other, false⟩
  | 133 => some ⟨1, 8, false, [.v .nilFunc], .other, false⟩
  | 135 => some ⟨1, 8, false, [.v .nilFunc], .other, false⟩
  | 136 => some ⟨20, 20, true, [.int .u8 0, .int .u8 0, .int .u8 0, .int .u8 0, .int .u8 0, .int .u8 0, .int .u8 0, .int .u8 0, .int .u8 0, .int .u8 0, .int .u8 0, .int .u8 0, .int .u8 0, .int .u8 0, .int .u8 0, .int .u8 0, .int .u8 0, .int .u8 0, .int .u8 0, .int .u8 0], .arr 20 5, false⟩
  | 137 => some ⟨1, 8, false, [.v .nilFunc], .other, false⟩
  | 138 => some ⟨1, 8, false, [.v .nilFunc], .other, false⟩
  | 139 => some ⟨1, 8, false, [.v (.pointer none)], .ptr 123, false⟩
  | 140 => some ⟨1, 4, false, [.int .u32 0], .int .u32, false⟩
  | 142 => some ⟨1, 8, false, [.v .nilFunc], .other, false⟩
  | 144 => some ⟨2, 2, true, [.int .u8 0, .int .u8 0], .struct [(0, 5), (1, 5)], false⟩
  | 145 => some ⟨2, 2, true, [.int .u8 0, .int .u8 0], .struct [(0, 5), (1, 5)], false⟩
  | 146 => some ⟨32, 32, true, [.int .u8 0, .int .u8 0, .int .u8 0, .int .u8 0, .int .u8 0, .int .u8 0, .int .u8 0, .int .u8 0, .int .u8 0, .int .u8 0, .int .u8 0, .int .u8 0, .int .u8 0, .int .u8 0, .int .u8 0, .int .u8 0, .int .u8 0, .int .u8 0, .int .u8 0, .int .u8 0, .int .u8 0, .int .u8 0, .int .u8 0, .int .u8 0, .int .u8 0, .int .u8 0, .int .u8 0, .int .u8 0, .int .u8 0, .int .u8 0, .int .u8 0, .int .u8 0], .arr 16 145, false⟩
  | 147 => some ⟨4, 40, true, [.v (.pointer none), .v (.pointer none), .v (.pointer none), .str []], .struct [(0, 17), (1, 17), (2, 17), (3, 9)], false⟩
  | 148 => some ⟨4, 40, true, [.v (.pointer none), .v (.pointer none), .v (.pointer none), .str []], .struct [(0, 17), (1, 17), (2, 17), (3, 9)], false⟩
  | 149 => some ⟨0, 0, true, [], .arr 0 16, false⟩
  | 150 => some ⟨0, 0, true, [], .struct [(0, 149)], false⟩
  | 151 => some ⟨0, 0, true, [], .struct [(0, 149)], false⟩
  | 152 => some ⟨1, 1, false, [.int .u8 0], .int .u8, false⟩
  | 153 => some ⟨1, 1, false, [.int .u8 0], .int .u8, false⟩
  | 154 => some ⟨1, 8, false, [.v .nilFunc], .other, false⟩
  | 155 => some ⟨1, 4, false, [.int .i32 0], .int .i32, false⟩
  | 156 => some ⟨1, 4, false, [.int .i32 0], .int .i32, false⟩
  | 157 => some ⟨11, 48, true, [.int .u64 0, .int .u64 0, .int .u32 0, .int .u8 0, .int .u8 0, .int .u8 0, .int .u8 0, .v .nilFunc, .v (.pointer none), .int .i32 0, .int .i32 0], .struct [(0, 12), (1, 12), (2, 140), (3, 152), (4, 5), (5, 5), (6, 153), (7, 154), (8, 78), (9, 155), (10, 156)], false⟩
  | 158 => some ⟨11, 48, true, [.int .u64 0, .int .u64 0, .int .u32 0, .int .u8 0, .int .u8 0, .int .u8 0, .int .u8 0, .v .nilFunc, .v (.pointer none), .int .i32 0, .int .i32 0], .struct [(0, 12), (1, 12), (2, 140), (3, 152), (4, 5), (5, 5), (6, 153), (7, 154), (8, 78), (9, 155), (10, 156)], false⟩
  | _ => none
theorem Tryd.Γs : (((((((Tryd.Γ 1 = some ⟨1, 8, false, [.v .nilFunc], .other, false⟩) ∧ (Tryd.Γ 2 = some ⟨1, 8, false, [.int .i64 0], .int .i64, false⟩)) ∧ ((Tryd.Γ 3 = some ⟨1, 8, false, [.int .i64 0], .int .i64, false⟩) ∧ (Tryd.Γ 4 = some ⟨1, 1, false, [.bool false], .bool, false⟩))) ∧ (((Tryd.Γ 5 = some ⟨1, 1, false, [.int .u8 0], .int .u8, false⟩) ∧ (Tryd.Γ 6 = some ⟨1, 1, false, [.int .u8 0], .int .u8, false⟩)) ∧ ((Tryd.Γ 7 = some ⟨4, 24, true, [.int .i64 0, .int .i64 0, .bool false, .int .u8 0], .struct [(0, 2), (1, 3), (2, 4), (3, 6)], false⟩) ∧ (Tryd.Γ 8 = some ⟨4, 24, true, [.int .i64 0, .int .i64 0, .bool false, .int .u8 0], .struct [(0, 2), (1, 3), (2, 4), (3, 6)], false⟩)))) ∧ ((((Tryd.Γ 9 = some ⟨1, 16, false, [.str []], .str, false⟩) ∧ (Tryd.Γ 10 = some ⟨1, 16, false, [.str []], .str, false⟩)) ∧ ((Tryd.Γ 11 = some ⟨1, 16, false, [.str []], .str, false⟩) ∧ (Tryd.Γ 12 = some ⟨1, 8, false, [.int .u64 0], .int .u64, false⟩))) ∧ (((Tryd.Γ 13 = some ⟨2, 24, true, [.str [], .int .u64 0], .struct [(0, 9), (1, 12)], false⟩) ∧ (Tryd.Γ 14 = some ⟨2, 24, true, [.str [], .int .u64 0], .struct [(0, 9), (1, 12)], false⟩)) ∧ ((Tryd.Γ 15 = some ⟨1, 8, false, [.v (.pointer none)], .ptr 148, false⟩) ∧ ((Tryd.Γ 16 = some ⟨1, 8, false, [.v (.pointer none)], .ptr 151, false⟩) ∧ (Tryd.Γ 17 = some ⟨1, 8, false, [.v (.pointer none)], .ptr 158, false⟩)))))) ∧ (((((Tryd.Γ 18 = some ⟨1, 8, true, [.v (.pointer none)], .struct [(0, 17)], false⟩) ∧ (Tryd.Γ 19 = some ⟨1, 8, true, [.v (.pointer none)], .struct [(0, 17)], false⟩)) ∧ ((Tryd.Γ 20 = some ⟨1, 16, false, [.v .nilIface], .other, false⟩) ∧ (Tryd.Γ 21 = some ⟨1, 4, false, [.int .i32 0], .int .i32, false⟩))) ∧ (((Tryd.Γ 22 = some ⟨1, 8, false, [.v .nilFunc], .other, false⟩) ∧ (Tryd.Γ 23 = some ⟨1, 8, false, [.v .nilFunc], .other, false⟩)) ∧ ((Tryd.Γ 24 = some ⟨1, 8, false, [.int .i64 0], .int .i64, false⟩) ∧ ((Tryd.Γ 26 = some ⟨1, 8, false, [.v .nilFunc], .other, false⟩) ∧ (Tryd.Γ 27 = some ⟨2, 32, true, [.str [], .str []], .struct [(0, 9), (1, 9)], false⟩))))) ∧ ((((Tryd.Γ 28 = some ⟨2, 32, true, [.str [], .str []], .struct [(0, 9), (1, 9)], true⟩) ∧ (Tryd.Γ 29 = some ⟨1, 24, false, [.nils], .slice 28, false⟩)) ∧ ((Tryd.Γ 30 = some ⟨3, 40, true, [.int .i64 0, .int .i64 0, .nils], .struct [(0, 3), (1, 3), (2, 29)], false⟩) ∧ (Tryd.Γ 31 = some ⟨3, 40, true, [.int .i64 0, .int .i64 0, .nils], .struct [(0, 3), (1, 3), (2, 29)], false⟩))) ∧ (((Tryd.Γ 32 = some ⟨1, 8, false, [.v .nilFunc], .other, false⟩) ∧ (Tryd.Γ 33 = some ⟨1, 8, false, [.v .nilFunc], .other, false⟩)) ∧ ((Tryd.Γ 34 = some ⟨1, 8, false, [.int .u64 0], .int .u64, false⟩) ∧ ((Tryd.Γ 35 = some ⟨7, 80, true, [.str [], .int .i64 0, .str [], .str [], .str [], .bool false, .bool false], .struct [(0, 9), (1, 3), (2, 9), (3, 9), (4, 9), (5, 4), (6, 4)], false⟩) ∧ (Tryd.Γ 36 = some ⟨7, 80, true, [.str [], .int .i64 0, .str [], .str [], .str [], .bool false, .bool false], .struct [(0, 9), (1, 3), (2, 9), (3, 9), (4, 9), (5, 4), (6, 4)], true⟩))))))) ∧ ((((((Tryd.Γ 37 = some ⟨7, 80, true, [.str [], .int .i64 0, .str [], .str [], .int .i64 0, .int .u64 0, .int .u64 0], .struct [(0, 9), (1, 3), (2, 9), (3, 9), (4, 3), (5, 34), (6, 34)], false⟩) ∧ (Tryd.Γ 38 = some ⟨7, 80, true, [.str [], .int .i64 0, .str [], .str [], .int .i64 0, .int .u64 0, .int .u64 0], .struct [(0, 9), (1, 3), (2, 9), (3, 9), (4, 3), (5, 34), (6, 34)], true⟩)) ∧ ((Tryd.Γ 39 = some ⟨1, 24, false, [.nils], .slice 38, false⟩) ∧ (Tryd.Γ 40 = some ⟨1, 8, false, [.v .nilFunc], .other, false⟩))) ∧ (((Tryd.Γ 41 = some ⟨1, 8, false, [.v .nilFunc], .other, false⟩) ∧ (Tryd.Γ 42 = some ⟨2, 24, true, [.str [], .int .i64 0], .struct [(0, 9), (1, 3)], false⟩)) ∧ ((Tryd.Γ 43 = some ⟨2, 24, true, [.str [], .int .i64 0], .struct [(0, 9), (1, 3)], true⟩) ∧ (Tryd.Γ 44 = some ⟨1, 8, false, [.v .nilFunc], .other, false⟩)))) ∧ ((((Tryd.Γ 45 = some ⟨1, 8, false, [.v .nilFunc], .other, false⟩) ∧ (Tryd.Γ 46 = some ⟨1, 8, false, [.v .nilFunc], .other, false⟩)) ∧ ((Tryd.Γ 47 = some ⟨1, 8, false, [.v .nilFunc], .other, false⟩) ∧ (Tryd.Γ 48 = some ⟨1, 8, false, [.v .nilFunc], .other, false⟩))) ∧ (((Tryd.Γ 49 = some ⟨1, 8, false, [.v (.pointer none)], .ptr 52, false⟩) ∧ (Tryd.Γ 50 = some ⟨1, 24, false, [.nils], .slice 5, false⟩)) ∧ ((Tryd.Γ 51 = some ⟨2, 32, true, [.v (.pointer none), .nils], .struct [(0, 49), (1, 50)], false⟩) ∧ ((Tryd.Γ 52 = some ⟨2, 32, true, [.v (.pointer none), .nils], .struct [(0, 49), (1, 50)], false⟩) ∧ (Tryd.Γ 53 = some ⟨1, 16, false, [.v .nilIface], .other, false⟩)))))) ∧ (((((Tryd.Γ 54 = some ⟨1, 16, false, [.v .nilIface], .other, false⟩) ∧ (Tryd.Γ 56 = some ⟨1, 8, false, [.v .nilFunc], .other, false⟩)) ∧ ((Tryd.Γ 57 = some ⟨1, 8, false, [.v .nilFunc], .other, false⟩) ∧ (Tryd.Γ 59 = some ⟨1, 8, false, [.v .nilFunc], .other, false⟩))) ∧ (((Tryd.Γ 60 = some ⟨1, 8, false, [.v .nilFunc], .other, false⟩) ∧ (Tryd.Γ 62 = some ⟨1, 8, false, [.v .nilFunc], .other, false⟩)) ∧ ((Tryd.Γ 63 = some ⟨1, 8, false, [.v .nilFunc], .other, false⟩) ∧ ((Tryd.Γ 64 = some ⟨1, 8, false, [.v .nilFunc], .other, false⟩) ∧ (Tryd.Γ 65 = some ⟨1, 8, false, [.v .nilFunc], .other, false⟩))))) ∧ ((((Tryd.Γ 66 = some ⟨1, 8, false, [.v .nilFunc], .other, false⟩) ∧ (Tryd.Γ 67 = some ⟨4, 48, true, [.str [], .int .i64 0, .str [], .int .u64 0], .struct [(0, 43), (2, 9), (3, 34)], false⟩)) ∧ ((Tryd.Γ 68 = some ⟨4, 48, true, [.str [], .int .i64 0, .str [], .int .u64 0], .struct [(0, 43), (2, 9), (3, 34)], true⟩) ∧ (Tryd.Γ 69 = some ⟨1, 8, false, [.v .nilFunc], .other, false⟩))) ∧ (((Tryd.Γ 70 = some ⟨1, 8, false, [.v .nilFunc], .other, false⟩) ∧ (Tryd.Γ 71 = some ⟨2, 24, true, [.str [], .int .i64 0], .struct [(0, 9), (1, 3)], true⟩)) ∧ ((Tryd.Γ 72 = some ⟨1, 8, false, [.v (.pointer none)], .ptr 74, false⟩) ∧ ((Tryd.Γ 73 = some ⟨2, 24, true, [.str [], .int .u64 0], .struct [(0, 9), (1, 34)], false⟩) ∧ (Tryd.Γ 74 = some ⟨2, 24, true, [.str [], .int .u64 0], .struct [(0, 9), (1, 34)], true⟩)))))))) ∧ (((((((Tryd.Γ 75 = some ⟨1, 8, false, [.v .nilFunc], .other, false⟩) ∧ (Tryd.Γ 76 = some ⟨1, 8, false, [.v .nilFunc], .other, false⟩)) ∧ ((Tryd.Γ 77 = some ⟨1, 8, false, [.v .nilFunc], .other, false⟩) ∧ (Tryd.Γ 78 = some ⟨1, 8, false, [.v (.pointer none)], .ptr 5, false⟩))) ∧ (((Tryd.Γ 79 = some ⟨1, 24, false, [.nils], .slice 9, false⟩) ∧ (Tryd.Γ 80 = some ⟨1, 8, false, [.v .nilFunc], .other, false⟩)) ∧ ((Tryd.Γ 81 = some ⟨1, 8, false, [.v .nilFunc], .other, false⟩) ∧ (Tryd.Γ 83 = some ⟨1, 8, false, [.v .nilFunc], .other, false⟩)))) ∧ ((((Tryd.Γ 84 = some ⟨1, 8, false, [.v .nilFunc], .other, false⟩) ∧ (Tryd.Γ 85 = some ⟨1, 8, false, [.v .nilFunc], .other, false⟩)) ∧ ((Tryd.Γ 87 = some ⟨1, 8, false, [.v .nilFunc], .other, false⟩) ∧ (Tryd.Γ 88 = some ⟨1, 8, false, [.v .nilFunc], .other, false⟩))) ∧ (((Tryd.Γ 90 = some ⟨1, 8, false, [.v .nilFunc], .other, false⟩) ∧ (Tryd.Γ 91 = some ⟨1, 8, false, [.v .nilFunc], .other, false⟩)) ∧ ((Tryd.Γ 92 = some ⟨1, 8, false, [.v .nilFunc], .other, false⟩) ∧ ((Tryd.Γ 93 = some ⟨1, 8, false, [.v .nilFunc], .other, false⟩) ∧ (Tryd.Γ 94 = some ⟨1, 8, false, [.v .nilFunc], .other, false⟩)))))) ∧ (((((Tryd.Γ 95 = some ⟨1, 8, false, [.v .nilFunc], .other, false⟩) ∧ (Tryd.Γ 97 = some ⟨1, 8, false, [.v .nilFunc], .other, false⟩)) ∧ ((Tryd.Γ 98 = some ⟨1, 8, false, [.v .nilFunc], .other, false⟩) ∧ (Tryd.Γ 99 = some ⟨1, 8, false, [.v .nilFunc], .other, false⟩))) ∧ (((Tryd.Γ 100 = some ⟨1, 8, false, [.v .nilFunc], .other, false⟩) ∧ (Tryd.Γ 101 = some ⟨1, 8, false, [.v .nilFunc], .other, false⟩)) ∧ ((Tryd.Γ 103 = some ⟨1, 8, false, [.v .nilFunc], .other, false⟩) ∧ ((Tryd.Γ 104 = some ⟨1, 8, false, [.v .nilFunc], .other, false⟩) ∧ (Tryd.Γ 105 = some ⟨9, 88, true, [.str [], .str [], .str [], .str [], .str [], .bool false, .bool false, .bool false, .bool false], .struct [(0, 9), (1, 9), (2, 9), (3, 9), (4, 9), (5, 4), (6, 4), (7, 4), (8, 4)], false⟩))))) ∧ ((((Tryd.Γ 106 = some ⟨9, 88, true, [.str [], .str [], .str [], .str [], .str [], .bool false, .bool false, .bool false, .bool false], .struct [(0, 9), (1, 9), (2, 9), (3, 9), (4, 9), (5, 4), (6, 4), (7, 4), (8, 4)], true⟩) ∧ (Tryd.Γ 108 = some ⟨1, 8, false, [.v .nilFunc], .other, false⟩)) ∧ ((Tryd.Γ 109 = some ⟨1, 8, false, [.v .nilFunc], .other, false⟩) ∧ (Tryd.Γ 110 = some ⟨1, 8, false, [.v .nilFunc], .other, false⟩))) ∧ (((Tryd.Γ 111 = some ⟨1, 8, false, [.v .nilFunc], .other, false⟩) ∧ (Tryd.Γ 115 = some ⟨1, 8, false, [.v .nilFunc], .other, false⟩)) ∧ ((Tryd.Γ 116 = some ⟨1, 8, false, [.v .nilFunc], .other, false⟩) ∧ ((Tryd.Γ 117 = some ⟨1, 8, false, [.v .nilFunc], .other, false⟩) ∧ (Tryd.Γ 118 = some ⟨1, 8, false, [.v .nilFunc], .other, false⟩))))))) ∧ ((((((Tryd.Γ 120 = some ⟨1, 8, false, [.v .nilFunc], .other, false⟩) ∧ (Tryd.Γ 121 = some ⟨1, 8, false, [.v .nilFunc], .other, false⟩)) ∧ ((Tryd.Γ 122 = some ⟨1, 8, false, [.v .nilFunc], .other, false⟩) ∧ (Tryd.Γ 123 = some ⟨1, 24, false, [.nils], .slice 5, false⟩))) ∧ (((Tryd.Γ 125 = some ⟨1, 8, false, [.v .nilFunc], .other, false⟩) ∧ (Tryd.Γ 126 = some ⟨1, 8, false, [.v .nilFunc], .other, false⟩)) ∧ ((Tryd.Γ 127 = some ⟨1, 8, false, [.v .nilFunc], .other, false⟩) ∧ (Tryd.Γ 128 = some ⟨1, 8, false, [.v .nilFunc], .other, false⟩)))) ∧ ((((Tryd.Γ 129 = some ⟨1, 8, false, [.v .nilFunc], .other, false⟩) ∧ (Tryd.Γ 130 = some ⟨1, 8, false, [.int .u64 0], .int .u64, false⟩)) ∧ ((Tryd.Γ 131 = some ⟨1, 8, false, [.v (.pointer none)], .ptr 113, false⟩) ∧ (Tryd.Γ 132 = some ⟨1, 8, false, [.v .nilFunc], .other, false⟩))) ∧ (((Tryd.Γ 133 = some ⟨1, 8, false, [.v .nilFunc], .other, false⟩) ∧ (Tryd.Γ 135 = some ⟨1, 8, false, [.v .nilFunc], .other, false⟩)) ∧ ((Tryd.Γ 136 = some ⟨20, 20, true, [.int .u8 0, .int .u8 0, .int .u8 0, .int .u8 0, .int .u8 0, .int .u8 0, .int .u8 0, .int .u8 0, .int .u8 0, .int .u8 0, .int .u8 0, .int .u8 0, .int .u8 0, .int .u8 0, .int .u8 0, .int .u8 0, .int .u8 0, .int .u8 0, .int .u8 0, .int .u8 0], .arr 20 5, false⟩) ∧ ((Tryd.Γ 137 = some ⟨1, 8, false, [.v .nilFunc], .other, false⟩) ∧ (Tryd.Γ 138 = some ⟨1, 8, false, [.v .nilFunc], .other, false⟩)))))) ∧ (((((Tryd.Γ 139 = some ⟨1, 8, false, [.v (.pointer none)], .ptr 123, false⟩) ∧ (Tryd.Γ 140 = some ⟨1, 4, false, [.int .u32 0], .int .u32, false⟩)) ∧ ((Tryd.Γ 142 = some ⟨1, 8, false, [.v .nilFunc], .other, false⟩) ∧ (Tryd.Γ 144 = some ⟨2, 2, true, [.int .u8 0, .int .u8 0], .struct [(0, 5), (1, 5)], false⟩))) ∧ (((Tryd.Γ 145 = some ⟨2, 2, true, [.int .u8 0, .int .u8 0], .struct [(0, 5), (1, 5)], false⟩) ∧ (Tryd.Γ 146 = some ⟨32, 32, true, [.int .u8 0, .int .u8 0, .int .u8 0, .int .u8 0, .int .u8 0, .int .u8 0, .int .u8 0, .int .u8 0, .int .u8 0, .int .u8 0, .int .u8 0, .int .u8 0, .int .u8 0, .int .u8 0, .int .u8 0, .int .u8 0, .int .u8 0, .int .u8 0, .int .u8 0, .int .u8 0, .int .u8 0, .int .u8 0, .int .u8 0, .int .u8 0, .int .u8 0, .int .u8 0, .int .u8 0, .int .u8 0, .int .u8 0, .int .u8 0, .int .u8 0, .int .u8 0], .arr 16 145, false⟩)) ∧ ((Tryd.Γ 147 = some ⟨4, 40, true, [.v (.pointer none), .v (.pointer none), .v (.pointer none), .str []], .struct [(0, 17), (1, 17), (2, 17), (3, 9)], false⟩) ∧ ((Tryd.Γ 148 = some ⟨4, 40, true, [.v (.pointer none), .v (.pointer none), .v (.pointer none), .str []], .struct [(0, 17), (1, 17), (2, 17), (3, 9)], false⟩) ∧ (Tryd.Γ 149 = some ⟨0, 0, true, [], .arr 0 16, false⟩))))) ∧ ((((Tryd.Γ 150 = some ⟨0, 0, true, [], .struct [(0, 149)], false⟩) ∧ (Tryd.Γ 151 = some ⟨0, 0, true, [], .struct [(0, 149)], false⟩)) ∧ ((Tryd.Γ 152 = some ⟨1, 1, false, [.int .u8 0], .int .u8, false⟩) ∧ (Tryd.Γ 153 = some ⟨1, 1, false, [.int .u8 0], .int .u8, false⟩))) ∧ (((Tryd.Γ 154 = some ⟨1, 8, false, [.v .nilFunc], .other, false⟩) ∧ (Tryd.Γ 155 = some ⟨1, 4, false, [.int .i32 0], .int .i32, false⟩)) ∧ ((Tryd.Γ 156 = some ⟨1, 4, false, [.int .i32 0], .int .i32, false⟩) ∧ ((Tryd.Γ 157 = some ⟨11, 48, true, [.int .u64 0, .int .u64 0, .int .u32 0, .int .u8 0, .int .u8 0, .int .u8 0, .int .u8 0, .v .nilFunc, .v (.pointer none), .int .i32 0, .int .i32 0], .struct [(0, 12), (1, 12), (2, 140), (3, 152), (4, 5), (5, 5), (6, 153), (7, 154), (8, 78), (9, 155), (10, 156)], false⟩) ∧ (Tryd.Γ 158 = some ⟨11, 48, true, [.int .u64 0, .int .u64 0, .int .u32 0, .int .u8 0, .int .u8 0, .int .u8 0, .int .u8 0, .v .nilFunc, .v (.pointer none), .int .i32 0, .int .i32 0], .struct [(0, 12), (1, 12), (2, 140), (3, 152), (4, 5), (5, 5), (6, 153), (7, 154), (8, 78), (9, 155), (10, 156)], false⟩)))))))) :=
  ⟨⟨⟨⟨⟨⟨⟨rfl, rfl⟩, ⟨rfl, rfl⟩⟩, ⟨⟨rfl, rfl⟩, ⟨rfl, rfl⟩⟩⟩, ⟨⟨⟨rfl, rfl⟩, ⟨rfl, rfl⟩⟩, ⟨⟨rfl, rfl⟩, ⟨rfl, ⟨rfl, rfl⟩⟩⟩⟩⟩, ⟨⟨⟨⟨rfl, rfl⟩, ⟨rfl, rfl⟩⟩, ⟨⟨rfl, rfl⟩, ⟨rfl, ⟨rfl, rfl⟩⟩⟩⟩, ⟨⟨⟨rfl, rfl⟩, ⟨rfl, rfl⟩⟩, ⟨⟨rfl, rfl⟩, ⟨rfl, ⟨rfl, rfl⟩⟩⟩⟩⟩⟩, ⟨⟨⟨⟨⟨rfl, rfl⟩, ⟨rfl, rfl⟩⟩, ⟨⟨rfl, rfl⟩, ⟨rfl, rfl⟩⟩⟩, ⟨⟨⟨rfl, rfl⟩, ⟨rfl, rfl⟩⟩, ⟨⟨rfl, rfl⟩, ⟨rfl, ⟨rfl, rfl⟩⟩⟩⟩⟩, ⟨⟨⟨⟨rfl, rfl⟩, ⟨rfl, rfl⟩⟩, ⟨⟨rfl, rfl⟩, ⟨rfl, ⟨rfl, rfl⟩⟩⟩⟩, ⟨⟨⟨rfl, rfl⟩, ⟨rfl, rfl⟩⟩, ⟨⟨rfl, rfl⟩, ⟨rfl, ⟨rfl, rfl⟩⟩⟩⟩⟩⟩⟩, ⟨⟨⟨⟨⟨⟨rfl, rfl⟩, ⟨rfl, rfl⟩⟩, ⟨⟨rfl, rfl⟩, ⟨rfl, rfl⟩⟩⟩, ⟨⟨⟨rfl, rfl⟩, ⟨rfl, rfl⟩⟩, ⟨⟨rfl, rfl⟩, ⟨rfl, ⟨rfl, rfl⟩⟩⟩⟩⟩, ⟨⟨⟨⟨rfl, rfl⟩, ⟨rfl, rfl⟩⟩, ⟨⟨rfl, rfl⟩, ⟨rfl, ⟨rfl, rfl⟩⟩⟩⟩, ⟨⟨⟨rfl, rfl⟩, ⟨rfl, rfl⟩⟩, ⟨⟨rfl, rfl⟩, ⟨rfl, ⟨rfl, rfl⟩⟩⟩⟩⟩⟩, ⟨⟨⟨⟨⟨rfl, rfl⟩, ⟨rfl, rfl⟩⟩, ⟨⟨rfl, rfl⟩, ⟨rfl, rfl⟩⟩⟩, ⟨⟨⟨rfl, rfl⟩, ⟨rfl, rfl⟩⟩, ⟨⟨rfl, rfl⟩, ⟨rfl, ⟨rfl, rfl⟩⟩⟩⟩⟩, ⟨⟨⟨⟨rfl, rfl⟩, ⟨rfl, rfl⟩⟩, ⟨⟨rfl, rfl⟩, ⟨rfl, ⟨rfl, rfl⟩⟩⟩⟩, ⟨⟨⟨rfl, rfl⟩, ⟨rfl, rfl⟩⟩, ⟨⟨rfl, rfl⟩, ⟨rfl, ⟨rfl, rfl⟩⟩⟩⟩⟩⟩⟩⟩
theorem Tryd.gok : Vc.GOK Tryd.prog Tryd.Γ := by
  intro T t h
  unfold Tryd.Γ at h
  split at h
  · cases h; exact Tryd.ty1
  · cases h; exact Tryd.ty2
  · cases h; exact Tryd.ty3
  · cases h; exact Tryd.ty4
  · cases h; exact Tryd.ty5
  · cases h; exact Tryd.ty6
  · cases h; exact Tryd.ty7
  · cases h; exact Tryd.ty8
  · cases h; exact Tryd.ty9
  · cases h; exact Tryd.ty10
  · cases h; exact Tryd.ty11
  · cases h; exact Tryd.ty12
  · cases h; exact Tryd.ty13
  · cases h; exact Tryd.ty14
  · cases h; exact Tryd.ty15
  · cases h; exact Tryd.ty16
  · cases h; exact Tryd.ty17
  · cases h; exact Tryd.ty18
  · cases h; exact Tryd.ty19
  · cases h; exact Tryd.ty20
  · cases h; exact Tryd.ty21
  · cases h; exact Tryd.ty22
  · cases h; exact Tryd.ty23
  · cases h; exact Tryd.ty24
  · cases h; exact Tryd.ty26
  · cases h; exact Tryd.ty27
  · cases h; exact Tryd.ty28
  · cases h; exact Tryd.ty29
  · cases h; exact Tryd.ty30
  · cases h; exact Tryd.ty31
  · cases h; exact Tryd.ty32
  · cases h; exact Tryd.ty33
  · cases h; exact Tryd.ty34
  · cases h; exact Tryd.ty35
  · cases h; exact Tryd.ty36
  · cases h; exact Tryd.ty37
  · cases h; exact Tryd.ty38
  · cases h; exact Tryd.ty39
  · cases h; exact Tryd.ty40
  · cases h; exact Tryd.ty41
  · cases h; exact Tryd.ty42
  · cases h; exact Tryd.ty43
  · cases h; exact Tryd.ty44
  · cases h; exact Tryd.ty45
  · cases h; exact Tryd.ty46
  · cases h; exact Tryd.ty47
  · cases h; exact Tryd.ty48
  · cases h; exact Tryd.ty49
  · cases h; exact Tryd.ty50
  · cases h; exact Tryd.ty51
  · cases h; exact Tryd.ty52
  · cases h; exact Tryd.ty53
  · cases h; exact Tryd.ty54
  · cases h; exact Tryd.ty56
  · cases h; exact Tryd.ty57
  · cases h; exact Tryd.ty59
  · cases h; exact Tryd.ty60
  · cases h; exact Tryd.ty62
  · cases h; exact Tryd.ty63
  · cases h; exact Tryd.ty64
  · cases h; exact Tryd.ty65
  · cases h; exact Tryd.ty66
  · cases h; exact Tryd.ty67
  · cases h; exact Tryd.ty68
  · cases h; exact Tryd.ty69
  · cases h; exact Tryd.ty70
  · cases h; exact Tryd.ty71
  · cases h; exact Tryd.ty72
  · cases h; exact Tryd.ty73
  · cases h; exact Tryd.ty74
  · cases h; exact Tryd.ty75
  · cases h; exact Tryd.ty76
  · cases h; exact Tryd.ty77
  · cases h; exact Tryd.ty78
  · cases h; exact Tryd.ty79
  · cases h; exact Tryd.ty80
  · cases h; exact Tryd.ty81
  · cases h; exact Tryd.ty83
  · cases h; exact Tryd.ty84
  · cases h; exact Tryd.ty85
  · cases h; exact Tryd.ty87
  · cases h; exact Tryd.ty88
  · cases h; exact Tryd.ty90
  · cases h; exact Tryd.ty91
  · cases h; exact Tryd.ty92
  · cases h; exact Tryd.ty93
  · cases h; exact Tryd.ty94
  · cases h; exact Tryd.ty95
  · cases h; exact Tryd.ty97
  · cases h; exact Tryd.ty98
  · cases h; exact Tryd.ty99
  · cases h; exact Tryd.ty100
  · cases h; exact Tryd.ty101
  · cases h; exact Tryd.ty103
  · cases h; exact Tryd.ty104
  · cases h; exact Tryd.ty105
  · cases h; exact Tryd.ty106
  · cases h; exact Tryd.ty108
  · cases h; exact Tryd.ty109
  · cases h; exact Tryd.ty110
  · cases h; exact Tryd.ty111
  · cases h; exact Tryd.ty115
  · cases h; exact Tryd.ty116
  · cases h; exact Tryd.ty117
  · cases h; exact Tryd.ty118
  · cases h; exact Tryd.ty120
  · cases h; exact Tryd.ty121
  · cases h; exact Tryd.ty122
  · cases h; exact Tryd.ty123
  · cases h; exact Tryd.ty125
  · cases h; exact Tryd.ty126
  · cases h; exact Tryd.ty127
  · cases h; exact Tryd.ty128
  · cases h; exact Tryd.ty129
  · cases h; exact Tryd.ty130
  · cases h; exact Tryd.ty131
  · cases h; exact Tryd.ty132
  · cases h; exact Tryd.ty133
  · cases h; exact Tryd.ty135
  · cases h; exact Tryd.ty136
  · cases h; exact Tryd.ty137
  · cases h; exact Tryd.ty138
  · cases h; exact Tryd.ty139
  · cases h; exact Tryd.ty140
  · cases h; exact Tryd.ty142
  · cases h; exact Tryd.ty144
  · cases h; exact Tryd.ty145
  · cases h; exact Tryd.ty146
  · cases h; exact Tryd.ty147
  · cases h; exact Tryd.ty148
  · cases h; exact Tryd.ty149
  · cases h; exact Tryd.ty150
  · cases h; exact Tryd.ty151
  · cases h; exact Tryd.ty152
  · cases h; exact Tryd.ty153
  · cases h; exact Tryd.ty154
  · cases h; exact Tryd.ty155
  · cases h; exact Tryd.ty156
  · cases h; exact Tryd.ty157
  · cases h; exact Tryd.ty158
  · cases h
end Go.Proofs
/- Contracts of the library at this program, laid by the kit. -/
namespace Go.Proofs
open Go.Shelf
def Tryd.lays170_ren : Go.Shelf.Ren := ⟨fun | 170 => 31 | n => n, fun | 70 => 49 | 3 => 3 | 0 => 0 | 72 => 52 | 37 => 50 | 5 => 5 | n => n, fun | n => n⟩
theorem Tryd.lays170 : Go.Proofs.Lays.n170 Tryd.prog Tryd.lays170_ren := {
  mixed := by kernel_rfl
  f170 := Tryd.func31.trans (congrArg some (by kernel_rfl))
  t0 := Tryd.underlying0
  a0 := Tryd.isAgg0
  z0 := Tryd.sizeOf0
  v0 := Tryd.zeroValue0
  t3 := Tryd.underlying3
  a3 := Tryd.isAgg3
  z3 := Tryd.sizeOf3
  v3 := Tryd.zeroValue3
  t37 := Tryd.underlying50
  a37 := Tryd.isAgg50
  z37 := Tryd.sizeOf50
  v37 := Tryd.zeroValue50
  t70 := Tryd.underlying49
  a70 := Tryd.isAgg49
  z70 := Tryd.sizeOf49
  v70 := Tryd.zeroValue49
  t72 := Tryd.underlying52
  a72 := Tryd.isAgg52
  z72 := Tryd.sizeOf52
  v72 := Tryd.zeroValue52 }
def Tryd.lays169_ren : Go.Shelf.Ren := ⟨fun | 169 => 19 | n => n, fun | 70 => 49 | 9 => 9 | 0 => 0 | 72 => 52 | 37 => 50 | 127 => 78 | 3 => 3 | 5 => 5 | n => n, fun | n => n⟩
theorem Tryd.lays169 : Go.Proofs.Lays.n169 Tryd.prog Tryd.lays169_ren := {
  mixed := by kernel_rfl
  f169 := Tryd.func19.trans (congrArg some (by kernel_rfl))
  t0 := Tryd.underlying0
  a0 := Tryd.isAgg0
  z0 := Tryd.sizeOf0
  v0 := Tryd.zeroValue0
  t3 := Tryd.underlying3
  a3 := Tryd.isAgg3
  z3 := Tryd.sizeOf3
  v3 := Tryd.zeroValue3
  t9 := Tryd.underlying9
  a9 := Tryd.isAgg9
  z9 := Tryd.sizeOf9
  v9 := Tryd.zeroValue9
  t37 := Tryd.underlying50
  a37 := Tryd.isAgg50
  z37 := Tryd.sizeOf50
  v37 := Tryd.zeroValue50
  t70 := Tryd.underlying49
  a70 := Tryd.isAgg49
  z70 := Tryd.sizeOf49
  v70 := Tryd.zeroValue49
  t72 := Tryd.underlying52
  a72 := Tryd.isAgg52
  z72 := Tryd.sizeOf52
  v72 := Tryd.zeroValue52
  t127 := Tryd.underlying78
  a127 := Tryd.isAgg78
  z127 := Tryd.sizeOf78
  v127 := Tryd.zeroValue78 }
theorem Tryd.Builder_Extra_169 : Builder.Extra Tryd.prog Tryd.lays169_ren := {
  sizeBuilder := by kernel_rfl
  liesBuilder := by kernel_rfl
  t5 := Tryd.underlying5
  a5 := Tryd.isAgg5
  z5 := Tryd.sizeOf5
  v5 := Tryd.zeroValue5
  infoByte := by kernel_rfl
  cellsByte := by kernel_rfl
  sizeByte := by kernel_rfl
  neB5 := by decide }
def Tryd.lays241_ren : Go.Shelf.Ren := ⟨fun | 241 => 74 | 277 => 94 | n => n, fun | 70 => 49 | 3 => 3 | 0 => 0 | 72 => 52 | 37 => 50 | 5 => 5 | n => n, fun | n => n⟩
def Tryd.lays165_ren : Go.Shelf.Ren := ⟨fun | 165 => 55 | 240 => 34 | 241 => 74 | 276 => 53 | 277 => 94 | n => n, fun | 70 => 49 | 3 => 3 | 0 => 0 | 4 => 4 | 9 => 9 | 20 => 20 | 72 => 52 | 37 => 50 | 164 => 96 | 5 => 5 | n => n, fun | n => n⟩
def Tryd.lays156_ren : Go.Shelf.Ren := ⟨fun | 156 => 36 | 165 => 55 | 166 => 17 | 169 => 19 | 240 => 34 | 241 => 74 | 276 => 53 | 277 => 94 | n => n, fun | 31 => 79 | 9 => 9 | 3 => 3 | 4 => 4 | 0 => 0 | 20 => 20 | 72 => 52 | 76 => 55 | 70 => 49 | 37 => 50 | 75 => 54 | 127 => 78 | 164 => 96 | 5 => 5 | 80 => 57 | n => n, fun | n => n⟩
theorem Tryd.lays156 : Go.Proofs.Lays.n156 Tryd.prog Tryd.lays156_ren := {
  mixed := by kernel_rfl
  f156 := Tryd.func36.trans (congrArg some (by kernel_rfl))
  f165 := Tryd.func55.trans (congrArg some (by kernel_rfl))
  f166 := Tryd.func17.trans (congrArg some (by kernel_rfl))
  f169 := Tryd.func19.trans (congrArg some (by kernel_rfl))
  f240 := Tryd.func34.trans (congrArg some (by kernel_rfl))
  f241 := Tryd.func74.trans (congrArg some (by kernel_rfl))
  f276 := Tryd.func53.trans (congrArg some (by kernel_rfl))
  f277 := Tryd.func94.trans (congrArg some (by kernel_rfl))
  t0 := Tryd.underlying0
  a0 := Tryd.isAgg0
  z0 := Tryd.sizeOf0
  v0 := Tryd.zeroValue0
  t3 := Tryd.underlying3
  a3 := Tryd.isAgg3
  z3 := Tryd.sizeOf3
  v3 := Tryd.zeroValue3
  t4 := Tryd.underlying4
  a4 := Tryd.isAgg4
  z4 := Tryd.sizeOf4
  v4 := Tryd.zeroValue4
  t9 := Tryd.underlying9
  a9 := Tryd.isAgg9
  z9 := Tryd.sizeOf9
  v9 := Tryd.zeroValue9
  t20 := Tryd.underlying20
  a20 := Tryd.isAgg20
  z20 := Tryd.sizeOf20
  v20 := Tryd.zeroValue20
  t31 := Tryd.underlying79
  a31 := Tryd.isAgg79
  z31 := Tryd.sizeOf79
  v31 := Tryd.zeroValue79
  t37 := Tryd.underlying50
  a37 := Tryd.isAgg50
  z37 := Tryd.sizeOf50
  v37 := Tryd.zeroValue50
  t70 := Tryd.underlying49
  a70 := Tryd.isAgg49
  z70 := Tryd.sizeOf49
  v70 := Tryd.zeroValue49
  t72 := Tryd.underlying52
  a72 := Tryd.isAgg52
  z72 := Tryd.sizeOf52
  v72 := Tryd.zeroValue52
  t75 := Tryd.underlying54
  a75 := Tryd.isAgg54
  z75 := Tryd.sizeOf54
  v75 := Tryd.zeroValue54
  t76 := Tryd.underlying55
  a76 := Tryd.isAgg55
  z76 := Tryd.sizeOf55
  v76 := Tryd.zeroValue55
  t127 := Tryd.underlying78
  a127 := Tryd.isAgg78
  z127 := Tryd.sizeOf78
  v127 := Tryd.zeroValue78
  t164 := Tryd.underlying96
  a164 := Tryd.isAgg96
  z164 := Tryd.sizeOf96
  v164 := Tryd.zeroValue96 }
theorem Tryd.Builder_Extra_156 : Builder.Extra Tryd.prog Tryd.lays156_ren := {
  sizeBuilder := by kernel_rfl
  liesBuilder := by kernel_rfl
  t5 := Tryd.underlying5
  a5 := Tryd.isAgg5
  z5 := Tryd.sizeOf5
  v5 := Tryd.zeroValue5
  infoByte := by kernel_rfl
  cellsByte := by kernel_rfl
  sizeByte := by kernel_rfl
  neB5 := by decide }
open Go.RowKit in
theorem Tryd.strings_Join_none (a : Option Addr) (c : Nat) (sep : ByteArray) (w : World) :
    Calls Tryd.prog 36 #[.slice a 0 c, .string sep] w fun e w' => e = .returned (.string ⟨#[]⟩) ∧ w' = w := Any.strings_Join_none Tryd.lays156 Tryd.Builder_Extra_156 a c sep w
open Go.RowKit in
theorem Tryd.strings_Join (bk o c : Nat) (xs : List ByteArray) (sep : ByteArray) (w : World) (hcells : ∀ (j : Nat) x, xs[j]? = some x → w.cell? ⟨bk, o + j, none⟩ = some (.string x)) (hbk : bk < w.heap.size) (hN : xs.length ≤ 140737488355328) (hcap : xs.length ≤ c) (hlen : (Lib.join (xs.map (·.data.toList)) sep.data.toList).length ≤ 140737488355328) :
    Calls Tryd.prog 36 #[.slice (some ⟨bk, o, none⟩) xs.length c, .string sep] w fun e w' => e = .returned (.string ⟨(Lib.join (xs.map (·.data.toList)) sep.data.toList).toArray⟩) ∧ Below w.heap.size w w' := Any.strings_Join Tryd.lays156 Tryd.Builder_Extra_156 bk o c xs sep w hcells hbk hN hcap hlen
def Tryd.lays119_ren : Go.Shelf.Ren := ⟨fun | 119 => 91 | n => n, fun | 21 => 21 | 4 => 4 | n => n, fun | n => n⟩
theorem Tryd.lays119 : Go.Proofs.Lays.n119 Tryd.prog Tryd.lays119_ren := {
  mixed := by kernel_rfl
  f119 := Tryd.func91.trans (congrArg some (by kernel_rfl))
  t4 := Tryd.underlying4
  a4 := Tryd.isAgg4
  z4 := Tryd.sizeOf4
  v4 := Tryd.zeroValue4
  t21 := Tryd.underlying21
  a21 := Tryd.isAgg21
  z21 := Tryd.sizeOf21
  v21 := Tryd.zeroValue21 }
theorem Tryd.utf8_ValidRune (r : Int) (w : World) :
    Calls Tryd.prog 91 #[.int .i32 r] w fun e w' => e = .returned (.bool (Lib.validRune r)) ∧ w' = w := Any.utf8_ValidRune Tryd.lays119 r w
def Tryd.lays137_ren : Go.Shelf.Ren := ⟨fun | 137 => 49 | 217 => 68 | 266 => 90 | n => n, fun | 9 => 9 | 5 => 5 | 3 => 3 | n => n, fun | n => n⟩
theorem Tryd.lays137 : Go.Proofs.Lays.n137 Tryd.prog Tryd.lays137_ren := {
  mixed := by kernel_rfl
  f137 := Tryd.func49.trans (congrArg some (by kernel_rfl))
  f217 := Tryd.func68.trans (congrArg some (by kernel_rfl))
  f266 := Tryd.func90.trans (congrArg some (by kernel_rfl))
  t3 := Tryd.underlying3
  a3 := Tryd.isAgg3
  z3 := Tryd.sizeOf3
  v3 := Tryd.zeroValue3
  t5 := Tryd.underlying5
  a5 := Tryd.isAgg5
  z5 := Tryd.sizeOf5
  v5 := Tryd.zeroValue5
  t9 := Tryd.underlying9
  a9 := Tryd.isAgg9
  z9 := Tryd.sizeOf9
  v9 := Tryd.zeroValue9 }
open Go.RowKit in
theorem Tryd.strings_IndexByte (s : ByteArray) (c : Int) (w : World) :
    Calls Tryd.prog 49 #[.string s, .int .u8 c] w fun e w' => e = .returned (.int .i64 (Lib.indexByte s.data.toList c.toNat.toUInt8)) ∧ w' = w := Any.strings_IndexByte Tryd.lays137 s c w
def Tryd.lays210_ren : Go.Shelf.Ren := ⟨fun | 210 => 103 | 206 => 69 | n => n, fun | 9 => 9 | 4 => 4 | 3 => 3 | n => n, fun | n => n⟩
def Tryd.lays103_ren : Go.Shelf.Ren := ⟨fun | 103 => 84 | 210 => 103 | 206 => 69 | n => n, fun | 9 => 9 | 4 => 4 | 24 => 58 | 3 => 3 | n => n, fun | n => n⟩
open Go.RowKit in
theorem Tryd.Builder_Len_f (B b : Nat) (bs : List Value) (w : World) (h : Lib.IsBuilderF 52 5 B b bs w) :
    Calls Tryd.prog 31 #[.pointer (some ⟨b, 0, none⟩)] w fun e w' => e = .returned (.int .i64 bs.length) ∧ w' = w := Any.Builder_Len_f Tryd.lays170 B b bs w h
open Go.RowKit in
theorem Tryd.Builder_String_any_k (B b : Nat) (l : List UInt8) (w : World) (h : Lib.IsBuilderF 52 5 B b (Lib.byteCells l) w) (hBw : B ≤ w.heap.size) :
    Calls Tryd.prog 19 #[.pointer (some ⟨b, 0, none⟩)] w fun e w' => e = .returned (.string ⟨l.toArray⟩) ∧ (Lib.IsBuilderF 52 5 B b (Lib.byteCells l) w' ∧ Below B w w' ∧ Lib.OthersKept 5 (some b) w w') := Any.Builder_String_any_k Tryd.lays169 Tryd.Builder_Extra_169 B b l w h hBw
def Tryd.lays195_ren : Go.Shelf.Ren := ⟨fun | 195 => 96 | n => n, fun | 9 => 9 | 3 => 3 | 0 => 0 | 4 => 4 | n => n, fun | n => n⟩
def Tryd.lays217_ren : Go.Shelf.Ren := ⟨fun | 217 => 68 | 266 => 90 | n => n, fun | 9 => 9 | 5 => 5 | 3 => 3 | n => n, fun | n => n⟩
def Tryd.lays224_ren : Go.Shelf.Ren := ⟨fun | 224 => 92 | n => n, fun | 3 => 3 | n => n, fun | n => n⟩
def Tryd.lays314_ren : Go.Shelf.Ren := ⟨fun | 314 => 109 | n => n, fun | 9 => 9 | 51 => 140 | 3 => 3 | 4 => 4 | 5 => 5 | 46 => 130 | n => n, fun | n => n⟩
def Tryd.lays267_ren : Go.Shelf.Ren := ⟨fun | 267 => 95 | 314 => 109 | n => n, fun | 9 => 9 | 3 => 3 | 146 => 141 | 51 => 140 | 4 => 4 | 5 => 5 | 46 => 130 | n => n, fun | n => n⟩
def Tryd.lays219_ren : Go.Shelf.Ren := ⟨fun | 219 => 75 | 217 => 68 | 225 => 93 | 224 => 92 | 267 => 95 | 266 => 90 | 314 => 109 | n => n, fun | 9 => 9 | 3 => 3 | 4 => 4 | 5 => 5 | 46 => 130 | 146 => 141 | 51 => 140 | n => n, fun | 1 => 0 | n => n⟩
def Tryd.lays143_ren : Go.Shelf.Ren := ⟨fun | 143 => 78 | 219 => 75 | 217 => 68 | 225 => 93 | 224 => 92 | 267 => 95 | 266 => 90 | 314 => 109 | n => n, fun | 9 => 9 | 3 => 3 | 4 => 4 | 5 => 5 | 46 => 130 | 146 => 141 | 51 => 140 | n => n, fun | 1 => 0 | n => n⟩
def Tryd.lays144_ren : Go.Shelf.Ren := ⟨fun | 144 => 65 | 143 => 78 | 219 => 75 | 217 => 68 | 225 => 93 | 224 => 92 | 267 => 95 | 266 => 90 | 314 => 109 | n => n, fun | 9 => 9 | 4 => 4 | 3 => 3 | 5 => 5 | 46 => 130 | 146 => 141 | 51 => 140 | n => n, fun | 1 => 0 | n => n⟩
def Tryd.lays220_ren : Go.Shelf.Ren := ⟨fun | 220 => 56 | 219 => 75 | 217 => 68 | 225 => 93 | 224 => 92 | 267 => 95 | 266 => 90 | 314 => 109 | n => n, fun | 9 => 9 | 4 => 4 | 3 => 3 | 5 => 5 | 46 => 130 | 146 => 141 | 51 => 140 | n => n, fun | 1 => 0 | n => n⟩
def Tryd.lays145_ren : Go.Shelf.Ren := ⟨fun | 145 => 37 | 220 => 56 | 219 => 75 | 217 => 68 | 225 => 93 | 224 => 92 | 267 => 95 | 266 => 90 | 314 => 109 | n => n, fun | 9 => 9 | 4 => 4 | 59 => 82 | 3 => 3 | 5 => 5 | 46 => 130 | 146 => 141 | 51 => 140 | n => n, fun | 1 => 0 | n => n⟩
theorem Tryd.lays145 : Go.Proofs.Lays.n145 Tryd.prog Tryd.lays145_ren := {
  mixed := by kernel_rfl
  f145 := Tryd.func37.trans (congrArg some (by kernel_rfl))
  f217 := Tryd.func68.trans (congrArg some (by kernel_rfl))
  f219 := Tryd.func75.trans (congrArg some (by kernel_rfl))
  f220 := Tryd.func56.trans (congrArg some (by kernel_rfl))
  f224 := Tryd.func92.trans (congrArg some (by kernel_rfl))
  f225 := Tryd.func93.trans (congrArg some (by kernel_rfl))
  f266 := Tryd.func90.trans (congrArg some (by kernel_rfl))
  f267 := Tryd.func95.trans (congrArg some (by kernel_rfl))
  f314 := Tryd.func109.trans (congrArg some (by kernel_rfl))
  t3 := Tryd.underlying3
  a3 := Tryd.isAgg3
  z3 := Tryd.sizeOf3
  v3 := Tryd.zeroValue3
  t4 := Tryd.underlying4
  a4 := Tryd.isAgg4
  z4 := Tryd.sizeOf4
  v4 := Tryd.zeroValue4
  t5 := Tryd.underlying5
  a5 := Tryd.isAgg5
  z5 := Tryd.sizeOf5
  v5 := Tryd.zeroValue5
  t9 := Tryd.underlying9
  a9 := Tryd.isAgg9
  z9 := Tryd.sizeOf9
  v9 := Tryd.zeroValue9
  t46 := Tryd.underlying130
  a46 := Tryd.isAgg130
  z46 := Tryd.sizeOf130
  v46 := Tryd.zeroValue130
  t51 := Tryd.underlying140
  a51 := Tryd.isAgg140
  z51 := Tryd.sizeOf140
  v51 := Tryd.zeroValue140
  t59 := Tryd.underlying82
  a59 := Tryd.isAgg82
  z59 := Tryd.sizeOf82
  v59 := Tryd.zeroValue82
  t146 := Tryd.underlying141
  a146 := Tryd.isAgg141
  z146 := Tryd.sizeOf141
  v146 := Tryd.zeroValue141
  g1 := by kernel_rfl }
open Go.RowKit Go.Lib in
theorem Tryd.strings_Cut (s sep : ByteArray) (m : Int) (w : World) (hs : s.size < 4294967281) (hm : w.cell? ⟨0, 0, none⟩ = some (.int .i64 m)) :
    Calls Tryd.prog 37 #[.string s, .string sep] w fun e w' => e = .returned (.tuple #[.string ⟨(Lib.cut s.data.toList sep.data.toList).1.toArray⟩, .string ⟨(Lib.cut s.data.toList sep.data.toList).2.1.toArray⟩, .bool (Lib.cut s.data.toList sep.data.toList).2.2]) ∧ ∃ n, w' = w.drewN n := Any.strings_Cut Tryd.lays145 s sep m w hs hm
def Tryd.lays138_ren : Go.Shelf.Ren := ⟨fun | 138 => 77 | 195 => 96 | 218 => 98 | 143 => 78 | 219 => 75 | 217 => 68 | 225 => 93 | 224 => 92 | 267 => 95 | 266 => 90 | 314 => 109 | n => n, fun | 9 => 9 | 3 => 3 | 4 => 4 | 5 => 5 | 0 => 0 | 46 => 130 | 146 => 141 | 51 => 140 | n => n, fun | 1 => 0 | n => n⟩
def Tryd.laysM219_ren : Go.Shelf.Ren := ⟨fun | 219 => 75 | 217 => 68 | 225 => 93 | 224 => 92 | 267 => 95 | 266 => 90 | 314 => 109 | n => n, fun | 9 => 9 | 3 => 3 | 4 => 4 | 5 => 5 | 46 => 130 | 146 => 141 | 51 => 140 | n => n, fun | 1 => 0 | n => n⟩
def Tryd.laysM143_ren : Go.Shelf.Ren := ⟨fun | 143 => 78 | 219 => 75 | 217 => 68 | 225 => 93 | 224 => 92 | 267 => 95 | 266 => 90 | 314 => 109 | n => n, fun | 9 => 9 | 3 => 3 | 4 => 4 | 5 => 5 | 46 => 130 | 146 => 141 | 51 => 140 | n => n, fun | 1 => 0 | n => n⟩
def Tryd.laysM144_ren : Go.Shelf.Ren := ⟨fun | 144 => 65 | 143 => 78 | 219 => 75 | 217 => 68 | 225 => 93 | 224 => 92 | 267 => 95 | 266 => 90 | 314 => 109 | n => n, fun | 9 => 9 | 4 => 4 | 3 => 3 | 5 => 5 | 46 => 130 | 146 => 141 | 51 => 140 | n => n, fun | 1 => 0 | n => n⟩
def Tryd.laysM220_ren : Go.Shelf.Ren := ⟨fun | 220 => 56 | 219 => 75 | 217 => 68 | 225 => 93 | 224 => 92 | 267 => 95 | 266 => 90 | 314 => 109 | n => n, fun | 9 => 9 | 4 => 4 | 3 => 3 | 5 => 5 | 46 => 130 | 146 => 141 | 51 => 140 | n => n, fun | 1 => 0 | n => n⟩
def Tryd.laysM145_ren : Go.Shelf.Ren := ⟨fun | 145 => 37 | 220 => 56 | 219 => 75 | 217 => 68 | 225 => 93 | 224 => 92 | 267 => 95 | 266 => 90 | 314 => 109 | n => n, fun | 9 => 9 | 4 => 4 | 59 => 82 | 3 => 3 | 5 => 5 | 46 => 130 | 146 => 141 | 51 => 140 | n => n, fun | 1 => 0 | n => n⟩
def Tryd.laysM138_ren : Go.Shelf.Ren := ⟨fun | 138 => 77 | 195 => 96 | 218 => 98 | 143 => 78 | 219 => 75 | 217 => 68 | 225 => 93 | 224 => 92 | 267 => 95 | 266 => 90 | 314 => 109 | n => n, fun | 9 => 9 | 3 => 3 | 4 => 4 | 5 => 5 | 0 => 0 | 46 => 130 | 146 => 141 | 51 => 140 | n => n, fun | 1 => 0 | n => n⟩
def Tryd.lays222_ren : Go.Shelf.Ren := ⟨fun | 222 => 108 | n => n, fun | 9 => 9 | 5 => 5 | 3 => 3 | 4 => 4 | n => n, fun | n => n⟩
def Tryd.lays149_ren : Go.Shelf.Ren := ⟨fun | 149 => 89 | 222 => 108 | n => n, fun | 9 => 9 | 5 => 5 | 3 => 3 | 4 => 4 | n => n, fun | n => n⟩
def Tryd.lays206_ren : Go.Shelf.Ren := ⟨fun | 206 => 69 | n => n, fun | 9 => 9 | 4 => 4 | 3 => 3 | n => n, fun | n => n⟩
def Tryd.lays99_ren : Go.Shelf.Ren := ⟨fun | 99 => 51 | 206 => 69 | n => n, fun | 9 => 9 | 4 => 4 | 3 => 3 | n => n, fun | n => n⟩
theorem Tryd.lays99 : Go.Proofs.Lays.n99 Tryd.prog Tryd.lays99_ren := {
  mixed := by kernel_rfl
  f99 := Tryd.func51.trans (congrArg some (by kernel_rfl))
  f206 := Tryd.func69.trans (congrArg some (by kernel_rfl))
  t3 := Tryd.underlying3
  a3 := Tryd.isAgg3
  z3 := Tryd.sizeOf3
  v3 := Tryd.zeroValue3
  t4 := Tryd.underlying4
  a4 := Tryd.isAgg4
  z4 := Tryd.sizeOf4
  v4 := Tryd.zeroValue4
  t9 := Tryd.underlying9
  a9 := Tryd.isAgg9
  z9 := Tryd.sizeOf9
  v9 := Tryd.zeroValue9 }
open Go.RowKit Go.Lib in
theorem Tryd.strings_HasPrefix (s p : ByteArray) (w : World) :
    Calls Tryd.prog 51 #[.string s, .string p] w fun e w' => e = .returned (.bool (Lib.hasPrefix s.data.toList p.data.toList)) ∧ w' = w := Any.strings_HasPrefix Tryd.lays99 s p w
def Tryd.lays208_ren : Go.Shelf.Ren := ⟨fun | 208 => 107 | 206 => 69 | n => n, fun | 9 => 9 | 4 => 4 | 3 => 3 | n => n, fun | n => n⟩
def Tryd.lays101_ren : Go.Shelf.Ren := ⟨fun | 101 => 88 | 208 => 107 | 206 => 69 | n => n, fun | 9 => 9 | 4 => 4 | 3 => 3 | n => n, fun | n => n⟩
def Tryd.lays221_ren : Go.Shelf.Ren := ⟨fun | 221 => 58 | 268 => 76 | 138 => 77 | 143 => 78 | 195 => 96 | 197 => 97 | 218 => 98 | 219 => 75 | 260 => 110 | 217 => 68 | 225 => 93 | 224 => 92 | 267 => 95 | 266 => 90 | 314 => 109 | n => n, fun | 9 => 9 | 3 => 3 | 31 => 79 | 4 => 4 | 0 => 0 | 105 => 134 | 21 => 21 | 5 => 5 | 46 => 130 | 119 => 143 | 139 => 146 | 138 => 145 | 146 => 141 | 51 => 140 | n => n, fun | 1 => 0 | 3 => 1 | 4 => 2 | n => n⟩
def Tryd.lays146_ren : Go.Shelf.Ren := ⟨fun | 146 => 39 | 221 => 58 | 268 => 76 | 138 => 77 | 143 => 78 | 195 => 96 | 197 => 97 | 218 => 98 | 219 => 75 | 260 => 110 | 217 => 68 | 225 => 93 | 224 => 92 | 267 => 95 | 266 => 90 | 314 => 109 | n => n, fun | 9 => 9 | 31 => 79 | 3 => 3 | 4 => 4 | 0 => 0 | 105 => 134 | 21 => 21 | 5 => 5 | 46 => 130 | 119 => 143 | 139 => 146 | 138 => 145 | 146 => 141 | 51 => 140 | n => n, fun | 1 => 0 | 3 => 1 | 4 => 2 | n => n⟩
theorem Tryd.lays146 : Go.Proofs.Lays.n146 Tryd.prog Tryd.lays146_ren := {
  mixed := by kernel_rfl
  f138 := Tryd.func77.trans (congrArg some (by kernel_rfl))
  f143 := Tryd.func78.trans (congrArg some (by kernel_rfl))
  f146 := Tryd.func39.trans (congrArg some (by kernel_rfl))
  f195 := Tryd.func96.trans (congrArg some (by kernel_rfl))
  f197 := Tryd.func97.trans (congrArg some (by kernel_rfl))
  f217 := Tryd.func68.trans (congrArg some (by kernel_rfl))
  f218 := Tryd.func98.trans (congrArg some (by kernel_rfl))
  f219 := Tryd.func75.trans (congrArg some (by kernel_rfl))
  f221 := Tryd.func58.trans (congrArg some (by kernel_rfl))
  f224 := Tryd.func92.trans (congrArg some (by kernel_rfl))
  f225 := Tryd.func93.trans (congrArg some (by kernel_rfl))
  f260 := Tryd.func110.trans (congrArg some (by kernel_rfl))
  f266 := Tryd.func90.trans (congrArg some (by kernel_rfl))
  f267 := Tryd.func95.trans (congrArg some (by kernel_rfl))
  f268 := Tryd.func76.trans (congrArg some (by kernel_rfl))
  f314 := Tryd.func109.trans (congrArg some (by kernel_rfl))
  t0 := Tryd.underlying0
  a0 := Tryd.isAgg0
  z0 := Tryd.sizeOf0
  v0 := Tryd.zeroValue0
  t3 := Tryd.underlying3
  a3 := Tryd.isAgg3
  z3 := Tryd.sizeOf3
  v3 := Tryd.zeroValue3
  t4 := Tryd.underlying4
  a4 := Tryd.isAgg4
  z4 := Tryd.sizeOf4
  v4 := Tryd.zeroValue4
  t5 := Tryd.underlying5
  a5 := Tryd.isAgg5
  z5 := Tryd.sizeOf5
  v5 := Tryd.zeroValue5
  t9 := Tryd.underlying9
  a9 := Tryd.isAgg9
  z9 := Tryd.sizeOf9
  v9 := Tryd.zeroValue9
  t21 := Tryd.underlying21
  a21 := Tryd.isAgg21
  z21 := Tryd.sizeOf21
  v21 := Tryd.zeroValue21
  t31 := Tryd.underlying79
  a31 := Tryd.isAgg79
  z31 := Tryd.sizeOf79
  v31 := Tryd.zeroValue79
  t46 := Tryd.underlying130
  a46 := Tryd.isAgg130
  z46 := Tryd.sizeOf130
  v46 := Tryd.zeroValue130
  t51 := Tryd.underlying140
  a51 := Tryd.isAgg140
  z51 := Tryd.sizeOf140
  v51 := Tryd.zeroValue140
  t105 := Tryd.underlying134
  a105 := Tryd.isAgg134
  z105 := Tryd.sizeOf134
  v105 := Tryd.zeroValue134
  t119 := Tryd.underlying143
  a119 := Tryd.isAgg143
  z119 := Tryd.sizeOf143
  t138 := Tryd.underlying145
  a138 := Tryd.isAgg145
  z138 := Tryd.sizeOf145
  v138 := Tryd.zeroValue145
  t139 := Tryd.underlying146
  a139 := Tryd.isAgg146
  z139 := Tryd.sizeOf146
  v139 := Tryd.zeroValue146
  t146 := Tryd.underlying141
  a146 := Tryd.isAgg141
  z146 := Tryd.sizeOf141
  v146 := Tryd.zeroValue141
  g1 := by kernel_rfl
  g3 := by kernel_rfl
  g4 := by kernel_rfl }
open Go.RowKit Go.Lib in
theorem Tryd.strings_Split (s sep : ByteArray) (m : Int) (w : World) (hs : s.size < 4294967281) (hm : w.cell? ⟨0, 0, none⟩ = some (.int .i64 m)) (h1 : 1 ≤ sep.size) :
    Calls Tryd.prog 39 #[.string s, .string sep] w fun e w' =>
      e = .returned (.slice (some ⟨w.heap.size, 0, none⟩) (Lib.countB s sep + 1) (Lib.countB s sep + 1)) ∧ w' = w.alloc (.cells ((Lib.splitB sep 0 (Lib.countB s sep) s).map Value.string).toArray 9) := Any.strings_Split Tryd.lays146 (by kernel_rfl) s sep m w hs hm h1
def Tryd.laysM146_ren : Go.Shelf.Ren := ⟨fun | 146 => 39 | 221 => 58 | 268 => 76 | 138 => 77 | 143 => 78 | 195 => 96 | 197 => 97 | 218 => 98 | 219 => 75 | 260 => 110 | 217 => 68 | 225 => 93 | 224 => 92 | 267 => 95 | 266 => 90 | 314 => 109 | n => n, fun | 9 => 9 | 31 => 79 | 3 => 3 | 4 => 4 | 0 => 0 | 105 => 134 | 21 => 21 | 5 => 5 | 46 => 130 | 119 => 143 | 139 => 146 | 138 => 145 | 146 => 141 | 51 => 140 | n => n, fun | 1 => 0 | 3 => 1 | 4 => 2 | n => n⟩
def Tryd.lays197_ren : Go.Shelf.Ren := ⟨fun | 197 => 97 | 260 => 110 | n => n, fun | 9 => 9 | 21 => 21 | 3 => 3 | 4 => 4 | 5 => 5 | 105 => 134 | 119 => 143 | 0 => 0 | 46 => 130 | 139 => 146 | 138 => 145 | n => n, fun | 3 => 1 | 4 => 2 | n => n⟩
def Tryd.lays152_ren : Go.Shelf.Ren := ⟨fun | 152 => 70 | 137 => 49 | 119 => 91 | 224 => 92 | 225 => 93 | 217 => 68 | 266 => 90 | n => n, fun | 9 => 9 | 21 => 21 | 3 => 3 | 4 => 4 | 5 => 5 | 0 => 0 | 46 => 130 | n => n, fun | n => n⟩
theorem Tryd.lays152 : Go.Proofs.Lays.n152 Tryd.prog Tryd.lays152_ren := {
  mixed := by kernel_rfl
  f119 := Tryd.func91.trans (congrArg some (by kernel_rfl))
  f137 := Tryd.func49.trans (congrArg some (by kernel_rfl))
  f152 := Tryd.func70.trans (congrArg some (by kernel_rfl))
  f217 := Tryd.func68.trans (congrArg some (by kernel_rfl))
  f224 := Tryd.func92.trans (congrArg some (by kernel_rfl))
  f225 := Tryd.func93.trans (congrArg some (by kernel_rfl))
  f266 := Tryd.func90.trans (congrArg some (by kernel_rfl))
  t0 := Tryd.underlying0
  a0 := Tryd.isAgg0
  z0 := Tryd.sizeOf0
  v0 := Tryd.zeroValue0
  t3 := Tryd.underlying3
  a3 := Tryd.isAgg3
  z3 := Tryd.sizeOf3
  v3 := Tryd.zeroValue3
  t4 := Tryd.underlying4
  a4 := Tryd.isAgg4
  z4 := Tryd.sizeOf4
  v4 := Tryd.zeroValue4
  t5 := Tryd.underlying5
  a5 := Tryd.isAgg5
  z5 := Tryd.sizeOf5
  v5 := Tryd.zeroValue5
  t9 := Tryd.underlying9
  a9 := Tryd.isAgg9
  z9 := Tryd.sizeOf9
  v9 := Tryd.zeroValue9
  t21 := Tryd.underlying21
  a21 := Tryd.isAgg21
  z21 := Tryd.sizeOf21
  v21 := Tryd.zeroValue21
  t46 := Tryd.underlying130
  a46 := Tryd.isAgg130
  z46 := Tryd.sizeOf130
  v46 := Tryd.zeroValue130 }
open Go.RowKit Go.Lib in
theorem Tryd.strings_IndexRune_ascii (s : ByteArray) (r : Int) (w : World) (h0 : 0 ≤ r) (h1 : r < 128) :
    Calls Tryd.prog 70 #[.string s, .int .i32 r] w fun e w' => e = .returned (.int .i64 (Lib.indexByte s.data.toList r.toNat.toUInt8)) ∧ w' = w := Any.strings_IndexRune_ascii Tryd.lays152 s r w h0 h1
def Tryd.lays226_ren : Go.Shelf.Ren := ⟨fun | 226 => 71 | n => n, fun | 3 => 3 | 4 => 4 | n => n, fun | n => n⟩
theorem Tryd.lays226 : Go.Proofs.Lays.n226 Tryd.prog Tryd.lays226_ren := {
  mixed := by kernel_rfl
  f226 := Tryd.func71.trans (congrArg some (by kernel_rfl))
  t3 := Tryd.underlying3
  a3 := Tryd.isAgg3
  z3 := Tryd.sizeOf3
  v3 := Tryd.zeroValue3
  t4 := Tryd.underlying4
  a4 := Tryd.isAgg4
  z4 := Tryd.sizeOf4
  v4 := Tryd.zeroValue4 }
open Go.RowKit Go.Lib in
theorem Tryd.strings_shouldUseASCIISet (n : Int) (w : World) :
    Calls Tryd.prog 71 #[.int .i64 n] w fun e w' => e = .returned (.bool (decide (8 < n))) ∧ w' = w := Any.strings_shouldUseASCIISet Tryd.lays226 n w
def Tryd.lays153_ren : Go.Shelf.Ren := ⟨fun | 153 => 52 | 152 => 70 | 226 => 71 | 227 => 72 | 228 => 73 | 137 => 49 | 119 => 91 | 224 => 92 | 225 => 93 | 217 => 68 | 266 => 90 | n => n, fun | 9 => 9 | 3 => 3 | 4 => 4 | 5 => 5 | 21 => 21 | 117 => 114 | 116 => 113 | 0 => 0 | 46 => 130 | 124 => 131 | n => n, fun | n => n⟩
theorem Tryd.lays153 : Go.Proofs.Lays.n153 Tryd.prog Tryd.lays153_ren := {
  mixed := by kernel_rfl
  f119 := Tryd.func91.trans (congrArg some (by kernel_rfl))
  f137 := Tryd.func49.trans (congrArg some (by kernel_rfl))
  f152 := Tryd.func70.trans (congrArg some (by kernel_rfl))
  f153 := Tryd.func52.trans (congrArg some (by kernel_rfl))
  f217 := Tryd.func68.trans (congrArg some (by kernel_rfl))
  f224 := Tryd.func92.trans (congrArg some (by kernel_rfl))
  f225 := Tryd.func93.trans (congrArg some (by kernel_rfl))
  f226 := Tryd.func71.trans (congrArg some (by kernel_rfl))
  f227 := Tryd.func72.trans (congrArg some (by kernel_rfl))
  f228 := Tryd.func73.trans (congrArg some (by kernel_rfl))
  f266 := Tryd.func90.trans (congrArg some (by kernel_rfl))
  t0 := Tryd.underlying0
  a0 := Tryd.isAgg0
  z0 := Tryd.sizeOf0
  v0 := Tryd.zeroValue0
  t3 := Tryd.underlying3
  a3 := Tryd.isAgg3
  z3 := Tryd.sizeOf3
  v3 := Tryd.zeroValue3
  t4 := Tryd.underlying4
  a4 := Tryd.isAgg4
  z4 := Tryd.sizeOf4
  v4 := Tryd.zeroValue4
  t5 := Tryd.underlying5
  a5 := Tryd.isAgg5
  z5 := Tryd.sizeOf5
  v5 := Tryd.zeroValue5
  t9 := Tryd.underlying9
  a9 := Tryd.isAgg9
  z9 := Tryd.sizeOf9
  v9 := Tryd.zeroValue9
  t21 := Tryd.underlying21
  a21 := Tryd.isAgg21
  z21 := Tryd.sizeOf21
  v21 := Tryd.zeroValue21
  t46 := Tryd.underlying130
  a46 := Tryd.isAgg130
  z46 := Tryd.sizeOf130
  v46 := Tryd.zeroValue130
  t116 := Tryd.underlying113
  a116 := Tryd.isAgg113
  z116 := Tryd.sizeOf113
  t117 := Tryd.underlying114
  a117 := Tryd.isAgg114
  z117 := Tryd.sizeOf114
  v117 := Tryd.zeroValue114
  t124 := Tryd.underlying131
  a124 := Tryd.isAgg131
  z124 := Tryd.sizeOf131
  v124 := Tryd.zeroValue131 }
def Tryd.lays227_ren : Go.Shelf.Ren := ⟨fun | 227 => 72 | n => n, fun | 9 => 9 | 116 => 113 | 4 => 4 | 0 => 0 | 3 => 3 | 5 => 5 | n => n, fun | n => n⟩
def Tryd.lays228_ren : Go.Shelf.Ren := ⟨fun | 228 => 73 | n => n, fun | 124 => 131 | 5 => 5 | 4 => 4 | 0 => 0 | 116 => 113 | n => n, fun | n => n⟩
open Go.RowKit Go.Lib in
theorem Tryd.strings_IndexAny_long (hv116 : ∀ w, (zeroValue 113).run Tryd.prog w = .ok (.agg (Array.replicate 256 (.bool false))) w) (s chars : ByteArray) (w : World) (h2 : 2 ≤ chars.size) (h8 : 8 < s.size) (hs : s.size < 4294967281) (hcs : chars.size < 4294967281) (hascii : ∀ (j : Nat) b, chars.data.toList[j]? = some b → b.toNat < 128) :
    Calls Tryd.prog 52 #[.string s, .string chars] w fun e w' => e = .returned (.int .i64 (Lib.indexAny s.data.toList chars.data.toList)) ∧ w' = ((w.alloc (.cells (Lib.setCells chars.data.toList) 113)).alloc (.cells (Lib.setCells chars.data.toList) 113)) := Any.strings_IndexAny_long Tryd.lays153 hv116 (by kernel_rfl) s chars w h2 h8 hs hcs hascii
open Go.RowKit Go.Lib in
theorem Tryd.strings_IndexAny (hv116 : ∀ w, (zeroValue 113).run Tryd.prog w = .ok (.agg (Array.replicate 256 (.bool false))) w) (s chars : ByteArray) (w : World) (hs : s.size < 4294967281) (hcs : chars.size < 4294967281) (has : ∀ (j : Nat) b, s.data.toList[j]? = some b → b.toNat < 128) (hac : ∀ (j : Nat) b, chars.data.toList[j]? = some b → b.toNat < 128) :
    Calls Tryd.prog 52 #[.string s, .string chars] w fun e w' => e = .returned (.int .i64 (Lib.indexAny s.data.toList chars.data.toList)) ∧ Below w.heap.size w w' := Any.strings_IndexAny Tryd.lays153 hv116 (by kernel_rfl) s chars w hs hcs has hac
def Tryd.lays268_ren : Go.Shelf.Ren := ⟨fun | 268 => 76 | 195 => 96 | 197 => 97 | 260 => 110 | n => n, fun | 9 => 9 | 3 => 3 | 31 => 79 | 4 => 4 | 105 => 134 | 21 => 21 | 0 => 0 | 5 => 5 | 119 => 143 | 46 => 130 | 139 => 146 | 138 => 145 | n => n, fun | 3 => 1 | 4 => 2 | n => n⟩
def Tryd.lays260_ren : Go.Shelf.Ren := ⟨fun | 260 => 110 | n => n, fun | 9 => 9 | 21 => 21 | 3 => 3 | 4 => 4 | 5 => 5 | 119 => 143 | 0 => 0 | 46 => 130 | 139 => 146 | 138 => 145 | n => n, fun | 3 => 1 | 4 => 2 | n => n⟩
end Go.Proofs
