/- Plain lemmas on bytes and byte lists: nothing of the program. -/
import Derived.WalkKit
import Derived.WalkSpells
import Derived.WalkLawsBesides
import Derived.Lib.IndexAny
import Derived.Lib.Bytealg
import Derived.Lib.Strings
set_option linter.all false
namespace Wf
open Go Go.RowKit

abbrev Bytes := List UInt8

theorem hid {p : Prop} (h : p) : Hid p := h

theorem ex_list (l : List UInt8) (a b : Nat) : (⟨List.toArray l⟩ : ByteArray).extract a b = ⟨List.toArray ((l.take b).drop a)⟩ := by
  apply ByteArray.ext
  simp [ByteArray.data_extract, List.drop_take]

theorem app_list (l l' : List UInt8) : (⟨List.toArray l⟩ : ByteArray) ++ ⟨List.toArray l'⟩ = ⟨List.toArray (l ++ l')⟩ := by
  apply ByteArray.ext
  simp

theorem get_list (l : List UInt8) (k : Nat) (h : k < (⟨List.toArray l⟩ : ByteArray).size) : (⟨List.toArray l⟩ : ByteArray)[k]'h = l[k]'h := rfl

theorem all256 {p : UInt8 → Bool} (h : (List.range 256).all (fun n => p n.toUInt8) = true) : ∀ c, p c = true := by
  intro c
  rw [List.all_eq_true] at h
  have := h c.toNat (by simpa using c.toNat_lt)
  simpa using this

theorem or32 (c : UInt8) : (c.toNat / 32 % 2 = 0 → bits BinOp.or IntKind.u8 (c.toNat : Int) 32 = c.toNat + 32) ∧ (c.toNat / 32 % 2 = 1 → bits BinOp.or IntKind.u8 (c.toNat : Int) 32 = c.toNat) := by
  have h := all256 (p := fun c => decide ((c.toNat / 32 % 2 = 0 → bits BinOp.or IntKind.u8 (c.toNat : Int) 32 = c.toNat + 32) ∧ (c.toNat / 32 % 2 = 1 → bits BinOp.or IntKind.u8 (c.toNat : Int) 32 = c.toNat))) (by decide +kernel) c
  exact of_decide_eq_true h

theorem ret_bool {a b : Bool} (h : a = b) : Ending.returned (.bool a) = Ending.returned (.bool b) := by rw [h]
theorem ret_int {k : IntKind} {a b : Int} (h : a = b) : Ending.returned (.int k a) = Ending.returned (.int k b) := by rw [h]
theorem ret_str {a b : List UInt8} (h : a = b) : Ending.returned (.string ⟨List.toArray a⟩) = Ending.returned (.string ⟨List.toArray b⟩) := by rw [h]

/-- The length of the string in a slot: for a loop's measure. -/
def sLen : Value → Nat | .string b => b.size | _ => 0
theorem sLen_mk (l : Bytes) : sLen (.string ⟨List.toArray l⟩) = l.length := rfl
/-- Is a byte one of some bytes? -/
def has (t : Bytes) (c : UInt8) : Bool := t.contains c
theorem u8_ne {a b : UInt8} (h : a ≠ b) : ((a.toNat : Int) == (b.toNat : Int)) = false := by
  rw [beq_eq_false_iff_ne]; intro e; exact h (UInt8.toNat_inj.1 (by omega))
theorem u8_eq {a b : UInt8} (h : a = b) : ((a.toNat : Int) == (b.toNat : Int)) = true := by rw [h]; simp
/-! classes of bytes -/
def isDigit (c : UInt8) : Bool := decide (48 ≤ c.toNat ∧ c.toNat ≤ 57)
def isAlpha (c : UInt8) : Bool := decide ((65 ≤ c.toNat ∧ c.toNat ≤ 90) ∨ (97 ≤ c.toNat ∧ c.toNat ≤ 122))
def isHex (c : UInt8) : Bool := decide ((48 ≤ c.toNat ∧ c.toNat ≤ 57) ∨ (65 ≤ c.toNat ∧ c.toNat ≤ 70) ∨ (97 ≤ c.toNat ∧ c.toNat ≤ 102))
/-- The value of a hexadecimal digit. -/
def hexVal (c : UInt8) : Nat := if c.toNat ≤ 57 then c.toNat - 48 else if c.toNat ≤ 70 then c.toNat - 55 else c.toNat - 87
theorem hexVal_le {c : UInt8} (h : isHex c = true) : hexVal c ≤ 15 := by
  simp [isHex] at h; unfold hexVal; split <;> (try split) <;> omega
/-- The number of digits of a base, or that it is above a bound. -/
def numGo (b m : Nat) : Nat → Bytes → Nat × Int
  | n, [] => (n, 0)
  | n, c :: r => if m < n * b + hexVal c then (0, 4) else numGo b m (n * b + hexVal c) r
def numParse (cls : UInt8 → Bool) (b m : Nat) (s : Bytes) : Nat × Int :=
  if s.isEmpty then (0, 3) else if s.all cls then numGo b m 0 s else (0, 1)
theorem drop_cons {α : Type} (s : List α) (k : Nat) (h : k < s.length) : s.drop k = s[k] :: s.drop (k + 1) := List.drop_eq_getElem_cons h
theorem all_take_snoc {α : Type} {p : α → Bool} {s : List α} {k : Nat} (h : k < s.length) (ha : (s.take k).all p = true) (hp : p s[k] = true) : (s.take (k + 1)).all p = true := by
  rw [List.take_succ_eq_append_getElem h, List.all_append, ha]; simpa using hp
theorem all_not {α : Type} {p : α → Bool} {s : List α} {k : Nat} (h : k < s.length) (hp : p s[k] = false) : s.all p = false := by
  rw [List.all_eq_false]; exact ⟨s[k], List.getElem_mem h, by simp [hp]⟩
theorem all_get {α : Type} {p : α → Bool} {s : List α} (ha : s.all p = true) {k : Nat} (h : k < s.length) : p s[k] = true := by
  rw [List.all_eq_true] at ha; exact ha _ (List.getElem_mem h)
theorem numParse_err {cls : UInt8 → Bool} {b m a j : Nat} {s : Bytes} (hne : s.isEmpty = false) (hall : s.all cls = true) (heq : numGo b m a (s.drop j) = numGo b m 0 s) (hj : j < s.length) (h : m < a * b + hexVal s[j]) : (0, 4) = numParse cls b m s := by
  rw [drop_cons s j hj, numGo, if_pos h] at heq
  simp [numParse, hne, hall, ← heq]
theorem numParse_next {b m a j : Nat} {s : Bytes} (heq : numGo b m a (s.drop j) = numGo b m 0 s) (hj : j < s.length) (h : ¬ m < a * b + hexVal s[j]) : numGo b m (a * b + hexVal s[j]) (s.drop (j + 1)) = numGo b m 0 s := by
  rw [drop_cons s j hj, numGo, if_neg h] at heq
  exact heq
theorem numParse_done {cls : UInt8 → Bool} {b m a j : Nat} {s : Bytes} (hne : s.isEmpty = false) (hall : s.all cls = true) (heq : numGo b m a (s.drop j) = numGo b m 0 s) (hj : ¬ j < s.length) : (a, 0) = numParse cls b m s := by
  rw [List.drop_of_length_le (by omega), numGo] at heq
  simp [numParse, hne, hall, ← heq]
theorem numGo_le (b m : Nat) (s : Bytes) : ∀ n, n ≤ m → (numGo b m n s).1 ≤ m := by
  induction s with
  | nil => intro n h; exact h
  | cons c r ih =>
    intro n h
    rw [numGo]
    split
    · exact Nat.zero_le _
    · exact ih _ (by omega)
theorem numParse_le (cls : UInt8 → Bool) (b m : Nat) (s : Bytes) : (numParse cls b m s).1 ≤ m := by
  unfold numParse
  split
  · exact Nat.zero_le _
  · split
    · exact numGo_le b m s 0 (Nat.zero_le _)
    · exact Nat.zero_le _
theorem ret_ni {a b : Nat} {c d : Int} (h : (a, c) = (b, d)) : Ending.returned (.tuple #[.int .u64 a, .int .i64 c]) = Ending.returned (.tuple #[.int .u64 b, .int .i64 d]) := by
  simp only [Prod.mk.injEq] at h; rw [h.1, h.2]
/-- How many elements stand before the first one of a class. -/
def pre (p : UInt8 → Bool) (l : Bytes) : Nat := (l.takeWhile fun c => !p c).length
theorem pre_nil (p : UInt8 → Bool) : pre p [] = 0 := rfl
theorem pre_cons (p : UInt8 → Bool) (c : UInt8) (l : Bytes) : pre p (c :: l) = if p c then 0 else pre p l + 1 := by
  unfold pre; rw [List.takeWhile_cons]; cases p c <;> simp
theorem pre_le (p : UInt8 → Bool) (l : Bytes) : pre p l ≤ l.length := by
  unfold pre; exact List.Sublist.length_le (List.takeWhile_sublist _)
theorem pre_get {p : UInt8 → Bool} {l : Bytes} {k : Nat} (h : k < pre p l) (hk : k < l.length) : p l[k] = false := by
  induction l generalizing k with
  | nil => simp at hk
  | cons c l ih =>
    rw [pre_cons] at h
    cases hc : p c
    · rw [hc] at h
      cases k with
      | zero => simpa using hc
      | succ k => simp only [List.getElem_cons_succ]; exact ih (by simpa using h) (by simpa using hk)
    · rw [hc] at h; simp at h
theorem pre_at {p : UInt8 → Bool} {l : Bytes} (h : pre p l < l.length) : p l[pre p l] = true := by
  induction l with
  | nil => simp at h
  | cons c l ih =>
    cases hc : p c
    · have e : pre p (c :: l) = pre p l + 1 := by rw [pre_cons, hc]; rfl
      have h' : pre p l < l.length := by rw [e] at h; simpa using h
      have := ih h'
      simp only [e, List.getElem_cons_succ]
      exact this
    · have e : pre p (c :: l) = 0 := by rw [pre_cons, hc]; rfl
      simp only [e, List.getElem_cons_zero]
      exact hc
theorem indexByte_pre (l : Bytes) (c : UInt8) : Lib.indexByte l c = if pre (· == c) l < l.length then (pre (· == c) l : Int) else -1 := by
  induction l with
  | nil => simp [Lib.indexByte, pre_nil]
  | cons b l ih =>
    rw [Lib.indexByte, pre_cons, ih]
    cases hb : b == c
    · simp only [Bool.false_eq_true, if_false, List.length_cons]
      by_cases h : pre (· == c) l < l.length
      · simp only [if_pos h, if_pos (show pre (· == c) l + 1 < l.length + 1 by omega)]
        rw [if_neg (by simp <;> omega)]; omega
      · simp only [if_neg h, if_neg (show ¬ pre (· == c) l + 1 < l.length + 1 by omega)]
        simp
    · simp
theorem indexAny_pre (l set : Bytes) : Lib.indexAny l set = if pre (set.contains ·) l < l.length then (pre (set.contains ·) l : Int) else -1 := by
  induction l with
  | nil => simp [Lib.indexAny, pre_nil]
  | cons b l ih =>
    rw [Lib.indexAny, pre_cons, ih]
    cases hb : set.contains b
    · simp only [Bool.false_eq_true, if_false, List.length_cons]
      by_cases h : pre (set.contains ·) l < l.length
      · simp only [if_pos h, if_pos (show pre (set.contains ·) l + 1 < l.length + 1 by omega)]
        rw [if_neg (by simp <;> omega)]; omega
      · simp only [if_neg h, if_neg (show ¬ pre (set.contains ·) l + 1 < l.length + 1 by omega)]
        simp
    · simp
theorem quiet_add_left {P : Program} {f : FuncId} {args : Array Value} {w : World} {a n : Nat} {v : Value}
    (h : Calls P f args (w.drewN (a + n)) fun e w' => e = .returned v ∧ w.drewN (a + n) = w') :
    Calls P f args (w.drewN (a + n)) fun e w'' => e = .returned v ∧ ∃ m, w'' = w.drewN (a + m) :=
  h.mono fun _ _ ⟨he, hm⟩ => ⟨he, n, hm.symm⟩
theorem quiet_left {P : Program} {f : FuncId} {args : Array Value} {w : World} {n : Nat} {v : Value}
    (h : Calls P f args (w.drewN n) fun e w' => e = .returned v ∧ w.drewN n = w') : Calls P f args (w.drewN n) fun e w'' => e = .returned v ∧ ∃ m, w'' = w.drewN m :=
  h.mono fun _ _ ⟨he, hm⟩ => ⟨he, n, hm.symm⟩
theorem u64_in {n : Int} (h0 : 0 ≤ n) (h1 : n ≤ 9223372036854775807) : IntKind.u64.wrap n = n := by
  simp only [IntKind.wrap, IntKind.signed, IntKind.bits]
  simp
  omega
theorem u64_wrap (x : Int) (h0 : -9223372036854775808 ≤ x) (h1 : x ≤ 9223372036854775807) : (0 ≤ x → IntKind.u64.wrap x = x) ∧ (x < 0 → IntKind.u64.wrap x = x + 18446744073709551616) := by
  simp only [IntKind.wrap, IntKind.signed, IntKind.bits]
  simp
  omega
theorem heap_new (w : World) (o : Obj) : (w.alloc o).heap[w.heap.size]? = some o := by
  show (w.heap.push o)[w.heap.size]? = _
  simp
theorem heap_old (w : World) (o : Obj) {k : Nat} (h : k < w.heap.size) : (w.alloc o).heap[k]? = w.heap[k]? := Below.heap_alloc w o k h
theorem size_alloc (w : World) (o : Obj) : (w.alloc o).heap.size = w.heap.size + 1 := by simp
def lowerC (c : UInt8) : UInt8 := if 65 ≤ c.toNat ∧ c.toNat ≤ 90 then c + 32 else c
def lower (s : Bytes) : Bytes := s.map lowerC
theorem lowerC_cap {c : UInt8} (h1 : 65 ≤ c.toNat) (h2 : c.toNat ≤ 90) : ((lowerC c).toNat : Int) = c.toNat + 32 := by
  unfold lowerC
  rw [if_pos ⟨h1, h2⟩, UInt8.toNat_add]
  simp
  omega
theorem lowerC_no {c : UInt8} (h : ¬ (65 ≤ c.toNat ∧ c.toNat ≤ 90)) : lowerC c = c := if_neg h
def lowTo (k : Nat) (s : Bytes) : Bytes := (s.take k).map lowerC ++ s.drop k
theorem lowTo_length (k : Nat) (s : Bytes) : (lowTo k s).length = s.length := by unfold lowTo; simp; omega
theorem cut_at {s : Bytes} {k : Nat} (h : k < s.length) : ∃ a b : Bytes, s = a ++ s[k] :: b ∧ a.length = k :=
  ⟨s.take k, s.drop (k + 1), by rw [← drop_cons s k h, List.take_append_drop], by simp; omega⟩
theorem lowTo_cut {a b : Bytes} {x : UInt8} : lowTo a.length (a ++ x :: b) = a.map lowerC ++ x :: b := by
  unfold lowTo; rw [List.take_left, List.drop_left]
theorem lowTo_cut1 {a b : Bytes} {x : UInt8} : lowTo (a.length + 1) (a ++ x :: b) = a.map lowerC ++ lowerC x :: b := by
  have e : a ++ x :: b = (a ++ [x]) ++ b := by simp
  have l : a.length + 1 = (a ++ [x]).length := by simp
  unfold lowTo; rw [e, l, List.take_left, List.drop_left]; simp
theorem lowTo_get {k : Nat} {s : Bytes} (h : k < s.length) (h' : k < (lowTo k s).length) : (lowTo k s)[k] = s[k] := by
  obtain ⟨a, b, hs, rfl⟩ := cut_at h
  generalize s[a.length] = x at hs ⊢
  subst hs
  have : (lowTo a.length (a ++ x :: b))[a.length]? = some x := by rw [lowTo_cut, List.getElem?_append_right (by simp)]; simp
  rw [List.getElem?_eq_getElem h'] at this
  exact Option.some.inj this
theorem lowTo_set {k : Nat} {s : Bytes} (h : k < s.length) : (lowTo k s).set k (lowerC s[k]) = lowTo (k + 1) s := by
  obtain ⟨a, b, hs, rfl⟩ := cut_at h
  generalize s[a.length] = x at hs ⊢
  subst hs
  rw [lowTo_cut, lowTo_cut1, List.set_append_right _ _ (by simp)]
  simp
theorem lowTo_next {k : Nat} {s : Bytes} (h : k < s.length) (hn : lowerC s[k] = s[k]) : lowTo k s = lowTo (k + 1) s := by
  obtain ⟨a, b, hs, rfl⟩ := cut_at h
  generalize s[a.length] = x at hs hn
  subst hs
  rw [lowTo_cut, lowTo_cut1, hn]
theorem lowTo_all (s : Bytes) : lowTo s.length s = lower s := by unfold lowTo lower; simp
theorem lowTo_zero (s : Bytes) : lowTo 0 s = s := by unfold lowTo; simp
def digitsOk (s : Bytes) : Bool := !s.isEmpty && s.all isDigit
/-- Decimal digits without a leading zero. -/
def numStrict (m : Nat) (s : Bytes) : Nat × Int := if digitsOk s = true ∧ 1 < s.length ∧ s.head? = some 48 then (0, 6) else numParse isDigit 10 m s
theorem numParse_err_dig (m : Nat) (s : Bytes) : ((numParse isDigit 10 m s).2 = 0 ∨ (numParse isDigit 10 m s).2 = 4) ↔ digitsOk s = true := by
  have key : ∀ (l : Bytes) n, (numGo 10 m n l).2 = 0 ∨ (numGo 10 m n l).2 = 4 := by
    intro l
    induction l with
    | nil => intro n; exact .inl rfl
    | cons c l ih =>
      intro n
      rw [numGo]
      split
      · exact .inr rfl
      · exact ih _
  unfold numParse digitsOk
  cases h1 : s.isEmpty
  · cases h2 : s.all isDigit
    · simp
    · simp only [Bool.false_eq_true, if_false, if_true]
      simp [key]
  · simp
theorem head_get {α : Type} {s : List α} (h : 0 < s.length) : s.head? = some s[0] := by
  cases s with
  | nil => simp at h
  | cons a l => rfl
theorem numStrict_le (m : Nat) (s : Bytes) : (numStrict m s).1 ≤ m := by
  unfold numStrict
  split
  · exact Nat.zero_le _
  · exact numParse_le _ _ _ _
def dig (d : Nat) : UInt8 := (48 + d).toUInt8
/-- The decimal digits of a number. -/
def decS (n : Nat) : Bytes := if _h : n < 10 then [dig n] else decS (n / 10) ++ [dig (n % 10)]
termination_by n
decreasing_by omega
theorem decS_small {n : Nat} (h : n < 10) : decS n = [dig n] := by rw [decS, dif_pos h]
theorem decS_big {n : Nat} (h : ¬ n < 10) : decS n = decS (n / 10) ++ [dig (n % 10)] := by rw [decS, dif_neg h]
theorem below_all {w a b : World} (h : Below w.heap.size w a) (k : Below a.heap.size a b) : Below w.heap.size w b := h.trans (k.mono h.size)
theorem decS_length : ∀ (m n : Nat), n < 10 ^ (m + 1) → (decS n).length ≤ m + 1 := by
  intro m
  induction m with
  | zero => intro n h; rw [decS_small (by simpa using h)]; simp
  | succ m ih =>
    intro n h
    by_cases hn : n < 10
    · rw [decS_small hn]; simp
    · rw [decS_big hn]
      have := ih (n / 10) (by rw [Nat.pow_succ] at h; omega)
      simp; omega
theorem decS_pos (n : Nat) : 0 < (decS n).length := by
  by_cases hn : n < 10
  · rw [decS_small hn]; simp
  · rw [decS_big hn]; simp
theorem decS_big_length {n : Nat} (h : ¬ n < 10) : (decS n).length = (decS (n / 10)).length + 1 := by rw [decS_big h]; simp
theorem snoc_of {l : Bytes} {a : Nat} (h : l.length = a + 1) : ∃ (y : Bytes) (z : UInt8), l = y ++ [z] ∧ y.length = a := by
  refine ⟨l.dropLast, l.getLast (by intro e; simp [e] at h), (List.dropLast_concat_getLast _).symm, by simp [h]⟩
theorem set_mid (y : Bytes) (z d : UInt8) (l : Bytes) : (y ++ z :: l).set y.length d = y ++ d :: l := by
  rw [List.set_append_right _ _ (by simp)]; simp
theorem digit_toNat {n : Nat} (h : n < 10) : ((dig n).toNat : Int) = 48 + n := by
  unfold dig; simp; omega
end Wf
