/- Plain lemmas on bytes and byte lists: nothing of the program. -/
import Derived.WalkKit
import Derived.WalkSpells
import Derived.WalkLawsBesides
import Derived.Lib.IndexAny
import Derived.Lib.Bytealg
import Derived.Lib.Strings
namespace Wf
open Go Go.RowKit

abbrev Bytes := List UInt8

theorem hid {p : Prop} (h : p) : Hid p := h

theorem ex_list (l : List UInt8) (a b : Nat) : (⟨List.toArray l⟩ : ByteArray).extract a b = ⟨List.toArray ((l.take b).drop a)⟩ := by
  apply ByteArray.ext
  simp [ByteArray.data_extract, List.drop_take]

theorem app_list (l l' : List UInt8) : (⟨List.toArray l⟩ : ByteArray) ++ ⟨List.toArray l'⟩ = ⟨List.toArray (l ++ l')⟩ := by
  apply ByteArray.ext
  simp

theorem get_list (l : List UInt8) (k : Nat) (h : k < (⟨List.toArray l⟩ : ByteArray).size) : (⟨List.toArray l⟩ : ByteArray)[k]'h = l[k]'h := rfl

theorem all256 {p : UInt8 → Bool} (h : (List.range 256).all (fun n => p n.toUInt8) = true) : ∀ c, p c = true := by
  intro c
  rw [List.all_eq_true] at h
  have := h c.toNat (by simpa using c.toNat_lt)
  simpa using this

theorem or32 (c : UInt8) : (c.toNat / 32 % 2 = 0 → bits BinOp.or IntKind.u8 (c.toNat : Int) 32 = c.toNat + 32) ∧ (c.toNat / 32 % 2 = 1 → bits BinOp.or IntKind.u8 (c.toNat : Int) 32 = c.toNat) := by
  have h := all256 (p := fun c => decide ((c.toNat / 32 % 2 = 0 → bits BinOp.or IntKind.u8 (c.toNat : Int) 32 = c.toNat + 32) ∧ (c.toNat / 32 % 2 = 1 → bits BinOp.or IntKind.u8 (c.toNat : Int) 32 = c.toNat))) (by decide +kernel) c
  exact of_decide_eq_true h

theorem ret_bool {a b : Bool} (h : a = b) : Ending.returned (.bool a) = Ending.returned (.bool b) := by rw [h]
theorem ret_int {k : IntKind} {a b : Int} (h : a = b) : Ending.returned (.int k a) = Ending.returned (.int k b) := by rw [h]
theorem ret_str {a b : List UInt8} (h : a = b) : Ending.returned (.string ⟨List.toArray a⟩) = Ending.returned (.string ⟨List.toArray b⟩) := by rw [h]

/-- The length of the string in a slot: for a loop's measure. -/
def sLen : Value → Nat | .string b => b.size | _ => 0
theorem sLen_mk (l : Bytes) : sLen (.string ⟨List.toArray l⟩) = l.length := rfl
/-! classes of bytes -/
def isDigit (c : UInt8) : Bool := decide (48 ≤ c.toNat ∧ c.toNat ≤ 57)
def isAlpha (c : UInt8) : Bool := decide ((65 ≤ c.toNat ∧ c.toNat ≤ 90) ∨ (97 ≤ c.toNat ∧ c.toNat ≤ 122))
def isHex (c : UInt8) : Bool := decide ((48 ≤ c.toNat ∧ c.toNat ≤ 57) ∨ (65 ≤ c.toNat ∧ c.toNat ≤ 70) ∨ (97 ≤ c.toNat ∧ c.toNat ≤ 102))
/-- The value of a hexadecimal digit. -/
def hexVal (c : UInt8) : Nat := if c.toNat ≤ 57 then c.toNat - 48 else if c.toNat ≤ 70 then c.toNat - 55 else c.toNat - 87
theorem hexVal_le {c : UInt8} (h : isHex c = true) : hexVal c ≤ 15 := by
  simp [isHex] at h; unfold hexVal; split <;> (try split) <;> omega
/-- The number of digits of a base, or that it is above a bound. -/
def numGo (b m : Nat) : Nat → Bytes → Nat × Int
  | n, [] => (n, 0)
  | n, c :: r => if m < n * b + hexVal c then (0, 4) else numGo b m (n * b + hexVal c) r
def numParse (cls : UInt8 → Bool) (b m : Nat) (s : Bytes) : Nat × Int :=
  if s.isEmpty then (0, 3) else if s.all cls then numGo b m 0 s else (0, 1)
theorem drop_cons {α : Type} (s : List α) (k : Nat) (h : k < s.length) : s.drop k = s[k] :: s.drop (k + 1) := List.drop_eq_getElem_cons h
theorem all_take_snoc {α : Type} {p : α → Bool} {s : List α} {k : Nat} (h : k < s.length) (ha : (s.take k).all p = true) (hp : p s[k] = true) : (s.take (k + 1)).all p = true := by
  rw [List.take_succ_eq_append_getElem h, List.all_append, ha]; simpa using hp
theorem all_not {α : Type} {p : α → Bool} {s : List α} {k : Nat} (h : k < s.length) (hp : p s[k] = false) : s.all p = false := by
  rw [List.all_eq_false]; exact ⟨s[k], List.getElem_mem h, by simp [hp]⟩
theorem all_get {α : Type} {p : α → Bool} {s : List α} (ha : s.all p = true) {k : Nat} (h : k < s.length) : p s[k] = true := by
  rw [List.all_eq_true] at ha; exact ha _ (List.getElem_mem h)
theorem numParse_err {cls : UInt8 → Bool} {b m a j : Nat} {s : Bytes} (hne : s.isEmpty = false) (hall : s.all cls = true) (heq : numGo b m a (s.drop j) = numGo b m 0 s) (hj : j < s.length) (h : m < a * b + hexVal s[j]) : (0, 4) = numParse cls b m s := by
  rw [drop_cons s j hj, numGo, if_pos h] at heq
  simp [numParse, hne, hall, ← heq]
theorem numParse_next {b m a j : Nat} {s : Bytes} (heq : numGo b m a (s.drop j) = numGo b m 0 s) (hj : j < s.length) (h : ¬ m < a * b + hexVal s[j]) : numGo b m (a * b + hexVal s[j]) (s.drop (j + 1)) = numGo b m 0 s := by
  rw [drop_cons s j hj, numGo, if_neg h] at heq
  exact heq
theorem numParse_done {cls : UInt8 → Bool} {b m a j : Nat} {s : Bytes} (hne : s.isEmpty = false) (hall : s.all cls = true) (heq : numGo b m a (s.drop j) = numGo b m 0 s) (hj : ¬ j < s.length) : (a, 0) = numParse cls b m s := by
  rw [List.drop_of_length_le (by omega), numGo] at heq
  simp [numParse, hne, hall, ← heq]
theorem numGo_le (b m : Nat) (s : Bytes) : ∀ n, n ≤ m → (numGo b m n s).1 ≤ m := by
  induction s with
  | nil => intro n h; exact h
  | cons c r ih =>
    intro n h
    rw [numGo]
    split
    · exact Nat.zero_le _
    · exact ih _ (by omega)
theorem numParse_le (cls : UInt8 → Bool) (b m : Nat) (s : Bytes) : (numParse cls b m s).1 ≤ m := by
  unfold numParse
  split
  · exact Nat.zero_le _
  · split
    · exact numGo_le b m s 0 (Nat.zero_le _)
    · exact Nat.zero_le _
theorem ret_ni {a b : Nat} {c d : Int} (h : (a, c) = (b, d)) : Ending.returned (.tuple #[.int .u64 a, .int .i64 c]) = Ending.returned (.tuple #[.int .u64 b, .int .i64 d]) := by
  simp only [Prod.mk.injEq] at h; rw [h.1, h.2]
/-- How many elements stand before the first one of a class. -/
def pre (p : UInt8 → Bool) (l : Bytes) : Nat := (l.takeWhile fun c => !p c).length
theorem pre_nil (p : UInt8 → Bool) : pre p [] = 0 := rfl
theorem pre_cons (p : UInt8 → Bool) (c : UInt8) (l : Bytes) : pre p (c :: l) = if p c then 0 else pre p l + 1 := by
  unfold pre; rw [List.takeWhile_cons]; cases p c <;> simp
theorem pre_le (p : UInt8 → Bool) (l : Bytes) : pre p l ≤ l.length := by
  unfold pre; exact List.Sublist.length_le (List.takeWhile_sublist _)
theorem pre_get {p : UInt8 → Bool} {l : Bytes} {k : Nat} (h : k < pre p l) (hk : k < l.length) : p l[k] = false := by
  induction l generalizing k with
  | nil => simp at hk
  | cons c l ih =>
    rw [pre_cons] at h
    cases hc : p c
    · rw [hc] at h
      cases k with
      | zero => simpa using hc
      | succ k => simp only [List.getElem_cons_succ]; exact ih (by simpa using h) (by simpa using hk)
    · rw [hc] at h; simp at h
theorem pre_at {p : UInt8 → Bool} {l : Bytes} (h : pre p l < l.length) : p l[pre p l] = true := by
  induction l with
  | nil => simp at h
  | cons c l ih =>
    cases hc : p c
    · have e : pre p (c :: l) = pre p l + 1 := by rw [pre_cons, hc]; rfl
      have h' : pre p l < l.length := by rw [e] at h; simpa using h
      have := ih h'
      simp only [e, List.getElem_cons_succ]
      exact this
    · have e : pre p (c :: l) = 0 := by rw [pre_cons, hc]; rfl
      simp only [e, List.getElem_cons_zero]
      exact hc
theorem indexByte_pre (l : Bytes) (c : UInt8) : Lib.indexByte l c = if pre (· == c) l < l.length then (pre (· == c) l : Int) else -1 := by
  induction l with
  | nil => simp [Lib.indexByte, pre_nil]
  | cons b l ih =>
    rw [Lib.indexByte, pre_cons, ih]
    cases hb : b == c
    · simp only [Bool.false_eq_true, if_false, List.length_cons]
      by_cases h : pre (· == c) l < l.length
      · simp only [if_pos h, if_pos (show pre (· == c) l + 1 < l.length + 1 by omega)]
        rw [if_neg (by simp <;> omega)]; omega
      · simp only [if_neg h, if_neg (show ¬ pre (· == c) l + 1 < l.length + 1 by omega)]
        simp
    · simp
theorem indexAny_pre (l set : Bytes) : Lib.indexAny l set = if pre (set.contains ·) l < l.length then (pre (set.contains ·) l : Int) else -1 := by
  induction l with
  | nil => simp [Lib.indexAny, pre_nil]
  | cons b l ih =>
    rw [Lib.indexAny, pre_cons, ih]
    cases hb : set.contains b
    · simp only [Bool.false_eq_true, if_false, List.length_cons]
      by_cases h : pre (set.contains ·) l < l.length
      · simp only [if_pos h, if_pos (show pre (set.contains ·) l + 1 < l.length + 1 by omega)]
        rw [if_neg (by simp <;> omega)]; omega
      · simp only [if_neg h, if_neg (show ¬ pre (set.contains ·) l + 1 < l.length + 1 by omega)]
        simp
    · simp
theorem quiet_add_left {P : Program} {f : FuncId} {args : Array Value} {w : World} {a n : Nat} {v : Value}
    (h : Calls P f args (w.drewN (a + n)) fun e w' => e = .returned v ∧ w.drewN (a + n) = w') :
    Calls P f args (w.drewN (a + n)) fun e w'' => e = .returned v ∧ ∃ m, w'' = w.drewN (a + m) :=
  h.mono fun _ _ ⟨he, hm⟩ => ⟨he, n, hm.symm⟩
theorem quiet_left {P : Program} {f : FuncId} {args : Array Value} {w : World} {n : Nat} {v : Value}
    (h : Calls P f args (w.drewN n) fun e w' => e = .returned v ∧ w.drewN n = w') : Calls P f args (w.drewN n) fun e w'' => e = .returned v ∧ ∃ m, w'' = w.drewN m :=
  h.mono fun _ _ ⟨he, hm⟩ => ⟨he, n, hm.symm⟩
theorem u64_in {n : Int} (h0 : 0 ≤ n) (h1 : n ≤ 9223372036854775807) : IntKind.u64.wrap n = n := by
  simp only [IntKind.wrap, IntKind.signed, IntKind.bits]
  simp
  omega
theorem heap_new (w : World) (o : Obj) : (w.alloc o).heap[w.heap.size]? = some o := by
  show (w.heap.push o)[w.heap.size]? = _
  simp
theorem heap_old (w : World) (o : Obj) {k : Nat} (h : k < w.heap.size) : (w.alloc o).heap[k]? = w.heap[k]? := Below.heap_alloc w o k h
theorem size_alloc (w : World) (o : Obj) : (w.alloc o).heap.size = w.heap.size + 1 := by simp
end Wf
