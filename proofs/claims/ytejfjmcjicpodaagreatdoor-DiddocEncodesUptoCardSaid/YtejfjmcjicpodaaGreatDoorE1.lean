/- Texts of this claim,laid together: Base,Vc,Ty,Shelf,Plain. -/
import Derived.WalkKit
import Derived.WalkSpells
import Derived.WalkLawsBesides
import Derived.Lib.IndexAny
import Derived.Lib.Bytealg
import Derived.Lib.Strings
import Derived.Laws.StructEq
import Derived.Laws.CopyRow
import Derived.Test.YtejfjmcjicpodaaGreatDoorProg
import Derived.Shelf.Strings.Builder1
import Derived.Shelf.Strings.Builder2
import Derived.Shelf.Small.Strs
import Derived.Shelf.Small.Wraps
import Derived.Shelf.Strings.BuilderF
import Derived.Shelf.Strings.BuilderK
import Derived.Shelf.Strings.Search1
import Derived.Shelf.Strings.Search2
import Derived.Shelf.Strings.Search3
import Derived.Shelf.Strings.Cut
import Derived.Shelf.Strings.Count
import Derived.Shelf.LaysM
import Derived.Shelf.Strings.Shaped
import Derived.Shelf.Strings.Prefix
import Derived.Shelf.Strings.Split
import Derived.Shelf.Strings.Replace
import Derived.Shelf.Strings.SplitShaped
import Derived.Lib.IndexMore
import Derived.Lib.Split
import Derived.Lib.SplitLaws
import Derived.Lib.CutLaws
/- Plain lemmas on bytes and byte lists: nothing of the program. -/
set_option linter.all false
namespace Wf
open Go Go.RowKit

abbrev Bytes := List UInt8

theorem ex_list (l : List UInt8) (a b : Nat) : (⟨List.toArray l⟩ : ByteArray).extract a b = ⟨List.toArray ((l.take b).drop a)⟩ := by
  apply ByteArray.ext
  simp [ByteArray.data_extract,List.drop_take]

theorem app_list (l l' : List UInt8) : (⟨List.toArray l⟩ : ByteArray) ++ ⟨List.toArray l'⟩ = ⟨List.toArray (l ++ l')⟩ := by
  apply ByteArray.ext
  simp

theorem get_list (l : List UInt8) (k : Nat) (h : k < (⟨List.toArray l⟩ : ByteArray).size) : (⟨List.toArray l⟩ : ByteArray)[k]'h = l[k]'h := rfl

theorem all256 {p : UInt8 → Bool} (h : (List.range 256).all (fun n => p n.toUInt8) = true) : ∀ c,p c = true := by
  intro c
  rw [List.all_eq_true] at h
  have := h c.toNat (by simpa using c.toNat_lt)
  simpa using this

theorem or32 (c : UInt8) : (c.toNat / 32 % 2 = 0 → bits BinOp.or IntKind.u8 (c.toNat : Int) 32 = c.toNat + 32) ∧ (c.toNat / 32 % 2 = 1 → bits BinOp.or IntKind.u8 (c.toNat : Int) 32 = c.toNat) := by
  have h := all256 (p := fun c => decide ((c.toNat / 32 % 2 = 0 → bits BinOp.or IntKind.u8 (c.toNat : Int) 32 = c.toNat + 32) ∧ (c.toNat / 32 % 2 = 1 → bits BinOp.or IntKind.u8 (c.toNat : Int) 32 = c.toNat))) (by decide +kernel) c
  exact of_decide_eq_true h

theorem ret_bool {a b : Bool} (h : a = b) : Ending.returned (.bool a) = Ending.returned (.bool b) := by rw [h]
def sLen : Value → Nat | .string b => b.size | _ => 0
def has (t : Bytes) (c : UInt8) : Bool := t.contains c
/-! classes of bytes -/
def isDigit (c : UInt8) : Bool := decide (48 ≤ c.toNat ∧ c.toNat ≤ 57)
def isAlpha (c : UInt8) : Bool := decide ((65 ≤ c.toNat ∧ c.toNat ≤ 90) ∨ (97 ≤ c.toNat ∧ c.toNat ≤ 122))
def isHex (c : UInt8) : Bool := decide ((48 ≤ c.toNat ∧ c.toNat ≤ 57) ∨ (65 ≤ c.toNat ∧ c.toNat ≤ 70) ∨ (97 ≤ c.toNat ∧ c.toNat ≤ 102))
def hexVal (c : UInt8) : Nat := if c.toNat ≤ 57 then c.toNat - 48 else if c.toNat ≤ 70 then c.toNat - 55 else c.toNat - 87
theorem hexVal_le {c : UInt8} (h : isHex c = true) : hexVal c ≤ 15 := by
  simp [isHex] at h; unfold hexVal; split <;> (try split) <;> omega
def numGo (b m : Nat) : Nat → Bytes → Nat × Int
  | n,[] => (n,0)
  | n,c :: r => if m < n * b + hexVal c then (0,4) else numGo b m (n * b + hexVal c) r
def numParse (cls : UInt8 → Bool) (b m : Nat) (s : Bytes) : Nat × Int :=
  if s.isEmpty then (0,3) else if s.all cls then numGo b m 0 s else (0,1)
theorem all_take_snoc {α : Type} {p : α → Bool} {s : List α} {k : Nat} (h : k < s.length) (ha : (s.take k).all p = true) (hp : p s[k] = true) : (s.take (k + 1)).all p = true := by
  rw [List.take_succ_eq_append_getElem h,List.all_append,ha]; simpa using hp
theorem all_not {α : Type} {p : α → Bool} {s : List α} {k : Nat} (h : k < s.length) (hp : p s[k] = false) : s.all p = false := by
  rw [List.all_eq_false]; exact ⟨s[k],List.getElem_mem h,by simp [hp]⟩
theorem numGo_le (b m : Nat) (s : Bytes) : ∀ n,n ≤ m → (numGo b m n s).1 ≤ m := by
  induction s with
  | nil => intro n h; exact h
  | cons c r ih =>
    intro n h
    rw [numGo]
    split
    · exact Nat.zero_le _
    · exact ih _ (by omega)
theorem numParse_le (cls : UInt8 → Bool) (b m : Nat) (s : Bytes) : (numParse cls b m s).1 ≤ m := by
  unfold numParse
  split
  · exact Nat.zero_le _
  · split
    · exact numGo_le b m s 0 (Nat.zero_le _)
    · exact Nat.zero_le _
def pre (p : UInt8 → Bool) (l : Bytes) : Nat := (l.takeWhile fun c => !p c).length
theorem pre_nil (p : UInt8 → Bool) : pre p [] = 0 := rfl
theorem pre_cons (p : UInt8 → Bool) (c : UInt8) (l : Bytes) : pre p (c :: l) = if p c then 0 else pre p l + 1 := by
  unfold pre; rw [List.takeWhile_cons]; cases p c <;> simp
theorem pre_le (p : UInt8 → Bool) (l : Bytes) : pre p l ≤ l.length := by
  unfold pre; exact List.Sublist.length_le (List.takeWhile_sublist _)
theorem pre_get {p : UInt8 → Bool} {l : Bytes} {k : Nat} (h : k < pre p l) (hk : k < l.length) : p l[k] = false := by
  induction l generalizing k with
  | nil => simp at hk
  | cons c l ih =>
    rw [pre_cons] at h
    cases hc : p c
    · rw [hc] at h
      cases k with
      | zero => simpa using hc
      | succ k => simp only [List.getElem_cons_succ]; exact ih (by simpa using h) (by simpa using hk)
    · rw [hc] at h; simp at h
theorem pre_at {p : UInt8 → Bool} {l : Bytes} (h : pre p l < l.length) : p l[pre p l] = true := by
  induction l with
  | nil => simp at h
  | cons c l ih =>
    cases hc : p c
    · have e : pre p (c :: l) = pre p l + 1 := by rw [pre_cons,hc]; rfl
      have h' : pre p l < l.length := by rw [e] at h; simpa using h
      have := ih h'
      simp only [e,List.getElem_cons_succ]
      exact this
    · have e : pre p (c :: l) = 0 := by rw [pre_cons,hc]; rfl
      simp only [e,List.getElem_cons_zero]
      exact hc
theorem indexByte_pre (l : Bytes) (c : UInt8) : Lib.indexByte l c = if pre (· == c) l < l.length then (pre (· == c) l : Int) else -1 := by
  induction l with
  | nil => simp [Lib.indexByte,pre_nil]
  | cons b l ih =>
    rw [Lib.indexByte,pre_cons,ih]
    cases hb : b == c
    · simp only [Bool.false_eq_true,if_false,List.length_cons]
      by_cases h : pre (· == c) l < l.length
      · simp only [if_pos h,if_pos (show pre (· == c) l + 1 < l.length + 1 by omega)]
        rw [if_neg (by simp <;> omega)]; omega
      · simp only [if_neg h,if_neg (show ¬ pre (· == c) l + 1 < l.length + 1 by omega)]
        simp
    · simp
theorem heap_new (w : World) (o : Obj) : (w.alloc o).heap[w.heap.size]? = some o := by
  show (w.heap.push o)[w.heap.size]? = _
  simp
theorem size_alloc (w : World) (o : Obj) : (w.alloc o).heap.size = w.heap.size + 1 := by simp
def lowerC (c : UInt8) : UInt8 := if 65 ≤ c.toNat ∧ c.toNat ≤ 90 then c + 32 else c
def lower (s : Bytes) : Bytes := s.map lowerC
def digitsOk (s : Bytes) : Bool := !s.isEmpty && s.all isDigit
def numStrict (m : Nat) (s : Bytes) : Nat × Int := if digitsOk s = true ∧ 1 < s.length ∧ s.head? = some 48 then (0,6) else numParse isDigit 10 m s
theorem numParse_err_dig (m : Nat) (s : Bytes) : ((numParse isDigit 10 m s).2 = 0 ∨ (numParse isDigit 10 m s).2 = 4) ↔ digitsOk s = true := by
  have key : ∀ (l : Bytes) n,(numGo 10 m n l).2 = 0 ∨ (numGo 10 m n l).2 = 4 := by
    intro l
    induction l with
    | nil => intro n; exact .inl rfl
    | cons c l ih =>
      intro n
      rw [numGo]
      split
      · exact .inr rfl
      · exact ih _
  unfold numParse digitsOk
  cases h1 : s.isEmpty
  · cases h2 : s.all isDigit
    · simp
    · simp only [Bool.false_eq_true,if_false,if_true]
      simp [key]
  · simp
theorem numStrict_le (m : Nat) (s : Bytes) : (numStrict m s).1 ≤ m := by
  unfold numStrict
  split
  · exact Nat.zero_le _
  · exact numParse_le _ _ _ _
def dig (d : Nat) : UInt8 := (48 + d).toUInt8
def decS (n : Nat) : Bytes := if _h : n < 10 then [dig n] else decS (n / 10) ++ [dig (n % 10)]
termination_by n
decreasing_by omega
theorem decS_small {n : Nat} (h : n < 10) : decS n = [dig n] := by rw [decS,dif_pos h]
theorem decS_big {n : Nat} (h : ¬ n < 10) : decS n = decS (n / 10) ++ [dig (n % 10)] := by rw [decS,dif_neg h]
theorem decS_pos (n : Nat) : 0 < (decS n).length := by
  by_cases hn : n < 10
  · rw [decS_small hn]; simp
  · rw [decS_big hn]; simp
end Wf
/- A calculus of conditions: values,states,conditions,and the soundness of its operations. -/
set_option linter.all false
namespace Wf
theorem toNat_succ (n : Nat) : ((n : Int) + 1).toNat = n + 1 := by omega
theorem toNat_add2 (n : Nat) : ((n : Int) + 2).toNat = n + 2 := by omega
theorem toNat_add3 (n : Nat) : ((n : Int) + 3).toNat = n + 3 := by omega
end Wf
namespace Vc
open Go Go.RowKit Wf

inductive SV where
  | bool (b : Bool)
  | int (k : IntKind) (n : Int)
  | str (l : List UInt8)
  | p (i off : Nat)
  | o (i n : Nat)
  | f (i n : Nat)
  | nils
  | agg (l : List SV)
  | tup (l : List SV)
  | fn (f : Fn) (caps : List SV)
  | mv (f : FuncId) (first : List SV)
  | ifc (t : TypeId) (x : SV)
  | v (x : Value)

structure Bt where
  blk : Nat
  off : Nat
  cap : Nat
def bt0 : Nat → Bt := fun _ => ⟨0,0,0⟩
def dcP : Nat → Nat × Nat
  | 0 => (0,0)
  | n + 1 => match dcP n with
    | (0,b) => (b + 1,0)
    | (a + 1,b) => (a,b + 1)
theorem dcP_row : ∀ (b a : Nat),(∃ n,dcP n = (a + b,0)) → ∃ n,dcP n = (a,b)
  | 0,_,h => h
  | b + 1,a,h => by
    obtain ⟨n,hn⟩ := dcP_row b (a + 1) (by rw [Nat.add_right_comm]; exact h)
    exact ⟨n + 1,by rw [dcP,hn]⟩
theorem dcP_top : ∀ s : Nat,∃ n,dcP n = (s,0)
  | 0 => ⟨0,rfl⟩
  | s + 1 => by
    obtain ⟨n,hn⟩ := dcP_row s 0 (by rw [Nat.zero_add]; exact dcP_top s)
    exact ⟨n + 1,by rw [dcP,hn]⟩
theorem dcP_all (a b : Nat) : ∃ n,dcP n = (a,b) := dcP_row b a (dcP_top _)
def nilA (b : Bt) : Option Addr := if b.blk = 0 then none else some ⟨b.blk - 1,(dcP b.off).1,if (dcP b.off).2 = 0 then none else some ((dcP b.off).2 - 1)⟩
theorem nilA_any (a : Addr) : ∃ b : Bt,b.cap = 0 ∧ nilA b = some a := by
  obtain ⟨k,o,s⟩ := a
  cases s with
  | none =>
    obtain ⟨n,hn⟩ := dcP_all o 0
    exact ⟨⟨k + 1,n,0⟩,rfl,by simp [nilA,hn]⟩
  | some x =>
    obtain ⟨n,hn⟩ := dcP_all o (x + 1)
    exact ⟨⟨k + 1,n,0⟩,rfl,by simp [nilA,hn]⟩
def oV (b : Bt) (n : Nat) : Value := if b.cap = 0 then .slice (nilA b) n 0 else .slice (some ⟨b.blk,b.off,none⟩) n (b.cap - 1)
def fV (b : Bt) (n : Nat) : Value := if b.cap = 0 then .slice (nilA b) n 0 else .slice (some ⟨b.blk,b.off,none⟩) n n
mutual
def conc (β : Nat → Bt) : SV → Value
  | .bool b => .bool b
  | .int k n => .int k n
  | .str l => .string ⟨List.toArray l⟩
  | .p i off => .pointer (some ⟨(β i).blk,(β i).off + off,none⟩)
  | .o i n => oV (β i) n
  | .f i n => fV (β i) n
  | .nils => .slice none 0 0
  | .agg l => .agg (concL β l).toArray
  | .tup l => .tuple (concL β l).toArray
  | .fn f l => .func f #[] (concL β l).toArray
  | .mv f l => .func (.func f) (concL β l).toArray #[]
  | .ifc t x => .iface t (conc β x)
  | .v x => x
def concL (β : Nat → Bt) : List SV → List Value
  | [] => []
  | x :: r => conc β x :: concL β r
end
theorem concL_map (β : Nat → Bt) (l : List SV) : concL β l = l.map (conc β) := by
  induction l with
  | nil => rfl
  | cons x r ih => rw [concL,ih]; rfl

def ofV : Value → SV
  | .bool b => .bool b
  | .int k n => .int k n
  | .string b => .str b.data.toList
  | .slice none 0 0 => .nils
  | .func f ⟨[]⟩ ⟨[]⟩ => .fn f []
  | x => .v x
theorem conc_ofV (β : Nat → Bt) (x : Value) : conc β (ofV x) = x := by
  unfold ofV
  split <;> simp [conc,concL]

inductive Kd where
  | int (k : IntKind) | bool | str | slice (e : TypeId) | ptr (e : TypeId) | struct (fs : List (Nat × TypeId)) | arr (n : Nat) (e : TypeId) | other
structure TI where
  size : Nat
  bytes : Nat
  agg : Bool
  zero : List SV
  kind : Kd
  cmp : Bool
def undSays : Kd → TypeDesc → Prop
  | .int k,d => d = .int k
  | .bool,d => d = .bool
  | .str,d => d = .string
  | .slice e,d => d = .slice e
  | .ptr e,d => d = .pointer e
  | .struct fs,d => ∃ F : Array Field,d = .struct F ∧ F.toList.map (fun f => (f.offset,f.type)) = fs
  | .arr n e,d => d = .array n e
  | .other,_ => True
structure TyOK (P : Program) (T : TypeId) (t : TI) : Prop where
  size : ∀ w,(Go.sizeOf T).run P w = Result.ok t.size w
  agg : ∀ w,(isAgg T).run P w = Result.ok t.agg w
  zero : ∀ w,∃ z : Value,(zeroValue T).run P w = Result.ok z w ∧ z.cells = (t.zero.map (conc bt0)).toArray
  flat : ∀ β,t.zero.map (conc β) = t.zero.map (conc bt0)
  len : t.zero.length = t.size
  und : ∃ d,P.underlying T = some d ∧ undSays t.kind d
  flds : ∀ fs,t.kind = .struct fs → ∀ f ∈ fs,∃ n,∀ w,(Go.sizeOf f.2).run P w = Result.ok n w
  cmp : t.cmp = true → P.stoodInHeld T = false ∧ P.eqGuardType P.depth T = false ∧ (P.fieldsOf T).all (fun f => f.name != "_") = true
  info : ∃ i z,P.info? T = some i ∧ i.zero = some z ∧ i.size = t.size ∧ i.bytes = t.bytes ∧ z.cells = (t.zero.map (conc bt0)).toArray
def GOK (P : Program) (Γ : TypeId → Option TI) : Prop := ∀ T t,Γ T = some t → TyOK P T t

def lk (d : Nat) : List (Nat × SV) → Option SV
  | [] => none
  | (e,x) :: r => if d = e then some x else lk d r
def ev (t : List (Nat × SV)) : Operand → Option SV
  | .tmp d => lk d t
  | .const v => some (ofV v)
  | .global g => some (.v (.pointer (some ⟨g,0,none⟩)))
  | .func f => some (.fn (.func f) [])
structure FrOK (β : Nat → Bt) (n : Nat) (t : List (Nat × SV)) (a : Act) : Prop where
  size : a.tmps.size = n
  defers : a.defers = []
  get : ∀ d x,lk d t = some x → a.tmps.getD d undef = conc β x
theorem FrOK.ev {β : Nat → Bt} {n : Nat} {t : List (Nat × SV)} {a : Act} (h : FrOK β n t a) {o : Operand} {x : SV} (e : ev t o = some x) : a.eval o = conc β x := by
  cases o with
  | tmp d => exact h.get d x e
  | const v => simp [Vc.ev] at e; subst e; exact (conc_ofV β v).symm
  | global g => simp [Vc.ev] at e; subst e; rfl
  | func f => simp [Vc.ev] at e; subst e; simp [Act.eval,conc,concL]
theorem FrOK.put {β : Nat → Bt} {n : Nat} {t : List (Nat × SV)} {a : Act} (h : FrOK β n t a) {d : Nat} (hd : d < n) (x : SV) : FrOK β n ((d,x) :: t) (a.put (some d) (conc β x)) := by
  refine ⟨by simp [Act.put,h.size],h.defers,fun e y hy => ?_⟩
  simp only [lk] at hy
  simp only [Act.put]
  split at hy
  · rename_i he
    subst he
    cases hy
    simp [h.size,hd]
  · rename_i he
    rw [Array.getD_eq_getD_getElem?,Array.getElem?_setIfInBounds_ne (fun q => he q.symm),← Array.getD_eq_getD_getElem?]
    exact h.get e y hy
def put (dst : Option Tmp) (x : SV) (t : List (Nat × SV)) : List (Nat × SV) := match dst with
  | some d => (d,x) :: t
  | none => t
def fits (n : Nat) : Option Tmp → Bool
  | some d => decide (d < n)
  | none => true
theorem FrOK.put' {β : Nat → Bt} {n : Nat} {t : List (Nat × SV)} {a : Act} (h : FrOK β n t a) {dst : Option Tmp} (hd : fits n dst = true) (x : SV) : FrOK β n (Vc.put dst x t) (a.put dst (conc β x)) := by
  cases dst with
  | none => exact ⟨h.size,h.defers,h.get⟩
  | some d => exact h.put (by simpa [fits] using hd) x

def cells : SV → List SV
  | .agg l => l
  | x => [x]
theorem oV_cells (b : Bt) (n : Nat) : (oV b n).cells = #[oV b n] := by
  unfold oV; by_cases h : b.cap = 0 <;> simp [h,Value.cells]
theorem fV_cells (b : Bt) (n : Nat) : (fV b n).cells = #[fV b n] := by
  unfold fV; by_cases h : b.cap = 0 <;> simp [h,Value.cells]
theorem conc_cells (β : Nat → Bt) (x : SV) (hx : ∀ y,x ≠ .v y) : (conc β x).cells = ((cells x).map (conc β)).toArray := by
  cases x
  case o i n => simpa [conc,cells] using oV_cells (β i) n
  case f i n => simpa [conc,cells] using fV_cells (β i) n
  all_goals simp [conc,cells,Value.cells,concL_map]
  exact absurd rfl (hx _)
def isV : SV → Bool
  | .v _ => true
  | _ => false
theorem conc_cells' (β : Nat → Bt) (x : SV) (hx : isV x = false) : (conc β x).cells = ((cells x).map (conc β)).toArray :=
  conc_cells β x (by rintro y rfl; cases hx)
def XM (agg : Bool) (off size : Nat) (l : List SV) : Option SV :=
  if agg then some (.agg ((l.drop off).take size)) else l[off]?
def intB (k : IntKind) (n : Int) : Prop := match k with
  | .i64 => -9223372036854775808 ≤ n ∧ n ≤ 9223372036854775807
  | _ => False
def ar (k : IntKind) (n : Int) : Prop × SV := match k with
  | .i64 => (-9223372036854775808 ≤ n ∧ n ≤ 9223372036854775807,.int .i64 n)
  | k => (True,.int k (k.wrap n))
theorem ar_ok (k : IntKind) (n : Int) (β : Nat → Bt) (h : (ar k n).1) : conc β (ar k n).2 = .int k (k.wrap n) := by
  unfold ar at h ⊢
  split
  · simp only at h
    simp only [conc,IntKind.wrap,IntKind.signed,IntKind.bits]
    simp
    omega
  · rfl
def shI (op : BinOp) (k : IntKind) (x y : Int) : Int := match op with
  | .shl => k.wrap (x * 2 ^ (min y.toNat k.bits))
  | _ => x.fdiv (2 ^ (min y.toNat k.bits))
def divI (op : BinOp) (k : IntKind) (x y : Int) : Int := match op with
  | .quo => k.wrap (x.tdiv y)
  | _ => x.tmod y
def bitI (op : BinOp) (k : IntKind) (x y : Int) : Int := match op with
  | .and => k.wrap (BitVec.ofInt k.bits x &&& BitVec.ofInt k.bits y).toNat
  | .or => k.wrap (BitVec.ofInt k.bits x ||| BitVec.ofInt k.bits y).toNat
  | .xor => k.wrap (BitVec.ofInt k.bits x ^^^ BitVec.ofInt k.bits y).toNat
  | _ => k.wrap (BitVec.ofInt k.bits x &&& ~~~BitVec.ofInt k.bits y).toNat
def ifK (k k' : IntKind) (r : Prop × SV) : Option (Prop × SV) := if k = k' then some r else none
def binI (op : BinOp) (k k' : IntKind) (a b : Int) : Option (Prop × SV) := match op with
  | .shl => some (0 ≤ b,.int k (shI .shl k a b))
  | .shr => some (0 ≤ b,.int k (shI .shr k a b))
  | .add => ifK k k' (ar k (a + b))
  | .sub => ifK k k' (ar k (a - b))
  | .mul => ifK k k' (ar k (a * b))
  | .quo => ifK k k' (b ≠ 0,.int k (divI .quo k a b))
  | .rem => ifK k k' (b ≠ 0,.int k (divI .rem k a b))
  | .and => ifK k k' (True,.int k (bitI .and k a b))
  | .or => ifK k k' (True,.int k (bitI .or k a b))
  | .xor => ifK k k' (True,.int k (bitI .xor k a b))
  | .andNot => ifK k k' (True,.int k (bitI .andNot k a b))
  | .eql => ifK k k' (True,.bool (a == b))
  | .neq => ifK k k' (True,.bool (a != b))
  | .lss => ifK k k' (True,.bool (decide (a < b)))
  | .leq => ifK k k' (True,.bool (decide (a ≤ b)))
  | .gtr => ifK k k' (True,.bool (decide (b < a)))
  | .geq => ifK k k' (True,.bool (decide (b ≤ a)))
def binS (op : BinOp) (a b : List UInt8) : Option (Prop × SV) := match op with
  | .add => some (a.length + b.length ≤ 9223372036854775807,.str (a ++ b))
  | .eql => some (True,.bool (a == b))
  | .neq => some (True,.bool (a != b))
  | .lss => some (True,.bool (Op.bytesLess a b))
  | .leq => some (True,.bool (Op.bytesLess a b || a == b))
  | .gtr => some (True,.bool (!(Op.bytesLess a b || a == b)))
  | .geq => some (True,.bool (!Op.bytesLess a b))
  | _ => none
def bin (op : BinOp) : SV → SV → Option (Prop × SV)
  | .int k a,.int k' b => binI op k k' a b
  | .str a,.str b => binS op a b
  | _,_ => none
def eqK (Γ : TypeId → Option TI) (rc : TypeId → SV → SV → Option Bool) (cmp : Bool) : Kd → SV → SV → Option Bool
  | .int _,.int k a,.int k' b => if k = k' then some (a == b) else none
  | .bool,.bool a,.bool b => some (a == b)
  | .str,.str a,.str b => some (a == b)
  | .struct fs,.agg l,.agg l' => if cmp then eqF Γ rc l l' fs else none
  | _,_,_ => none
where eqF (Γ : TypeId → Option TI) (rc : TypeId → SV → SV → Option Bool) (l l' : List SV) : List (Nat × TypeId) → Option Bool
  | [] => some true
  | (off,ft) :: r => match Γ ft with
    | some ti => match XM ti.agg off ti.size l with
      | some x => match XM ti.agg off ti.size l' with
        | some y => match rc ft x y with
          | some p => match eqF Γ rc l l' r with
            | some q => some (p && q)
            | none => none
          | none => none
        | none => none
      | none => none
    | none => none
def eqS (Γ : TypeId → Option TI) : Nat → TypeId → SV → SV → Option Bool
  | 0,_,_,_ => none
  | d + 1,T,x,y => match Γ T with
    | some ti => eqK Γ (eqS Γ d) ti.cmp ti.kind x y
    | none => none
def negB (op : BinOp) (b : Bool) : Option SV := match op with
  | .eql => some (.bool b)
  | .neq => some (.bool (!b))
  | _ => none
def eqB (Γ : TypeId → Option TI) (T : TypeId) (xType : Kd) (op : BinOp) : SV → SV → Option SV
  | .bool a,.bool b => match xType with
    | .bool => match op with
      | .eql => some (.bool (a == b))
      | .neq => some (.bool (a != b))
      | _ => none
    | _ => none
  | .agg l,.agg l' => match eqS Γ 4 T (.agg l) (.agg l') with
    | some b => negB op b
    | none => none
  | .nils,.nils => match xType with
    | .slice _ => negB op true
    | _ => none
  | _,_ => none
def bnds (len : Nat) (lo hi : Option SV) : Option (Prop × Nat × Nat) :=
  match hi,lo with
  | none,none => some (True,0,len)
  | none,some (.int _ l) => some (0 ≤ l ∧ l ≤ len,l.toNat,len)
  | some (.int _ h),none => some (0 ≤ h ∧ h ≤ len,0,h.toNat)
  | some (.int _ h),some (.int _ l) => some (0 ≤ l ∧ l ≤ h ∧ h ≤ len,l.toNat,h.toNat)
  | _,_ => none
def optE (t : List (Nat × SV)) : Option Operand → Option (Option SV)
  | none => some none
  | some o => (ev t o).map some
def kd (Γ : TypeId → Option TI) (T : TypeId) : Option Kd := (Γ T).map TI.kind
def sz (Γ : TypeId → Option TI) (T : TypeId) : Option Nat := (Γ T).map TI.size
def XX (t : List (Nat × SV)) (x : Operand) : Option (Prop × SV) := (ev t x).map fun x => (True,x)
def XJ : SV → Option SV → Option SV → Option SV
  | .bool c,some (.bool x),some (.bool y) => some (.bool (if c then x else y))
  | .bool true,some x,_ => some x
  | .bool false,_,some y => some y
  | _,_,_ => none
def Ya (t : List (Nat × SV)) (c a b : Operand) : Option (Prop × SV) := match ev t c with
  | some c => (XJ c (ev t a) (ev t b)).map fun x => (True,x)
  | none => none
def Xb (Γ : TypeId → Option TI) (t : List (Nat × SV)) (S : TypeId) (x : Operand) (f : Nat) : Option (Prop × SV) := match kd Γ S with
  | some (.struct fs) => match ev t x with
    | some (.p i off) => match fs[f]? with
      | some (o,ft) => match sz Γ ft with
        | some (_ + 1) => some (True,.p i (off + o))
        | _ => none
      | none => none
    | _ => none
  | _ => none
def Xu (Γ : TypeId → Option TI) (t : List (Nat × SV)) (S : TypeId) (x : Operand) (f : Nat) : Option (Prop × SV) := match kd Γ S with
  | some (.struct fs) => match ev t x with
    | some (.agg l) => match fs[f]? with
      | some (o,ft) => match Γ ft with
        | some ti => (XM ti.agg o ti.size l).map fun x => (True,x)
        | none => none
      | none => none
    | _ => none
  | _ => none
def oBin (Γ : TypeId → Option TI) (t : List (Nat × SV)) (op : BinOp) (T : TypeId) (x y : Operand) : Option (Prop × SV) := match ev t x with
  | some x => match ev t y with
    | some y => match bin op x y with
      | some r => some r
      | none => match kd Γ T with
        | some k => (eqB Γ T k op x y).map fun x => (True,x)
        | none => none
    | none => none
  | none => none
def oUn (t : List (Nat × SV)) (op : UnOp) (x : Operand) : Option (Prop × SV) := match op with
  | .not => match ev t x with
    | some (.bool b) => some (True,.bool (!b))
    | _ => none
  | .neg => match ev t x with
    | some (.int k n) => some (ar k (0 - n))
    | _ => none
  | _ => none
def XW : Kd → SV → Option SV
  | .int k,.int _ n => some (.int k (k.wrap n))
  | .str,.str l => some (.str l)
  | _,_ => none
def Ye (Γ : TypeId → Option TI) (t : List (Nat × SV)) (src dst : TypeId) (x : Operand) : Option (Prop × SV) := match kd Γ src with
  | some _ => match kd Γ dst with
    | some k => match ev t x with
      | some x => (XW k x).map fun x => (True,x)
      | none => none
    | none => none
  | none => none
def Xw (Γ : TypeId → Option TI) (t : List (Nat × SV)) (T : TypeId) (x : Operand) (lo hi : Option Operand) : Option (Prop × SV) := match kd Γ T with
  | some .str => match ev t x with
    | some (.str l) => match optE t lo with
      | some lo => match optE t hi with
        | some hi => (bnds l.length lo hi).map fun r => (r.1,.str ((l.take r.2.2).drop r.2.1))
        | none => none
      | none => none
    | _ => none
  | _ => none
def Xx (Γ : TypeId → Option TI) (t : List (Nat × SV)) (T : TypeId) (x i : Operand) : Option (Prop × SV) := match kd Γ T with
  | some .str => match ev t x with
    | some (.str l) => match ev t i with
      | some (.int _ n) => some (0 ≤ n ∧ n < l.length,.int .u8 (l.getD n.toNat 0).toNat)
      | _ => none
    | _ => none
  | _ => none
def Xh (t : List (Nat × SV)) (x : Operand) (i : Nat) : Option (Prop × SV) := match ev t x with
  | some (.tup l) => (l[i]?).map fun x => (True,x)
  | _ => none
def lenS : Kd → SV → Option SV
  | .str,.str l => some (.int .i64 l.length)
  | .slice _,.o _ n => some (.int .i64 n)
  | .slice _,.nils => some (.int .i64 0)
  | _,_ => none
def oLen (Γ : TypeId → Option TI) (t : List (Nat × SV)) (args : List Operand) (ts : List TypeId) : Option (Prop × SV) := match args with
  | [x] => match ts with
    | [T] => match kd Γ T with
      | some k => match ev t x with
        | some x => (lenS k x).map fun x => (True,x)
        | none => none
      | none => none
    | _ => none
  | _ => none
def evs (t : List (Nat × SV)) (l : List Operand) : Option (List SV) := l.mapM (ev t)
def Yf : Option SV → Option (List SV) → Option (List SV)
  | some x,some l => some (x :: l)
  | _,_ => none
theorem Xp (t : List (Nat × SV)) : evs t [] = some [] := rfl
theorem Xi (t : List (Nat × SV)) (o : Operand) (r : List Operand) : evs t (o :: r) = Yf (ev t o) (evs t r) := by
  unfold evs
  rw [List.mapM_cons]
  cases ev t o with
  | none => rfl
  | some x => cases List.mapM (ev t) r <;> rfl
def Yh (t : List (Nat × SV)) (f : Fn) (first caps : List Operand) : Option (Prop × SV) := match first with
  | [] => match evs t caps with
    | some l => some (True,.fn f l)
    | none => none
  | _ :: _ => match caps with
    | [] => match f with
      | .func g => match evs t first with
        | some l => some (True,.mv g l)
        | none => none
      | _ => none
    | _ => none
def plainK : Kd → Bool
  | .other => false
  | _ => true
def oIface (Γ : TypeId → Option TI) (t : List (Nat × SV)) (T : TypeId) (x : Operand) : Option (Prop × SV) := match kd Γ T with
  | some k => match ev t x with
    | some x => if plainK k then some (True,.ifc T x) else none
    | none => none
  | none => none
def oAssert (Γ : TypeId → Option TI) (t : List (Nat × SV)) (A : TypeId) (x : Operand) : Option (Prop × SV) := match kd Γ A with
  | some k => match ev t x with
    | some (.ifc T y) => if plainK k then if T = A then some (True,.tup [y,.bool true]) else none else none
    | _ => none
  | none => none
def Xs (c : List SV) (off : Nat) (x : List SV) : List SV := c.take off ++ x ++ c.drop (off + x.length)
def Xl (t : List (Nat × SV)) : List (Nat × Operand) → Option (List (Nat × SV))
  | [] => some []
  | (i,o) :: r => match ev t o with
    | some x => match Xl t r with
      | some l => some ((i,x) :: l)
      | none => none
    | none => none
def XY (s : Nat) : List (Nat × SV) → List SV → Option (List SV)
  | [],c => some c
  | (i,x) :: r,c => if isV x = false ∧ (cells x).length = s ∧ i * s + s ≤ c.length then XY s r (Xs c (i * s) (cells x)) else none
def Xk (Γ : TypeId → Option TI) (t : List (Nat × SV)) (T : TypeId) (ps : List (Nat × Operand)) : Option (Prop × SV) := match Γ T with
  | some ti => match ti.kind with
    | .arr _ e => match sz Γ e with
      | some s => match Xl t ps with
        | some l => match XY s l ti.zero with
          | some c => some (True,.agg c)
          | none => none
        | none => none
      | none => none
    | _ => none
  | none => none
def XS (Γ : TypeId → Option TI) (t : List (Nat × SV)) (T : TypeId) (x i : Operand) : Option (Prop × SV) := match kd Γ T with
  | some (.arr n e) => match sz Γ e with
    | some s => match ev t x with
      | some (.p b off) => match ev t i with
        | some (.int _ k) => some (0 < s ∧ 0 ≤ k ∧ k < n,.p b (off + k.toNat * s))
        | _ => none
      | _ => none
    | none => none
  | _ => none
def pv (Γ : TypeId → Option TI) (t : List (Nat × SV)) : Op → Option (Prop × SV)
  | .move x => XX t x
  | .assign x => XX t x
  | .pick c a b => Ya t c a b
  | .fieldAddr S x f => Xb Γ t S x f
  | .field S x f => Xu Γ t S x f
  | .binOp op T x y _ => oBin Γ t op T x y
  | .unOp op _ x => oUn t op x
  | .convert src dst x => Ye Γ t src dst x
  | .slice T x lo hi none => Xw Γ t T x lo hi
  | .index T x i => Xx Γ t T x i
  | .extract x i => Xh t x i
  | .call ⟨.builtin .len,args,ts⟩ => oLen Γ t args.toList ts.toList
  | .makeFunc f first caps => Yh t f first.toList caps.toList
  | .build T ps => Xk Γ t T ps.toList
  | .indexAddr T x i => XS Γ t T x i
  | .makeInterface T x => oIface Γ t T x
  | .typeAssert x _ A true => oAssert Γ t A x
  | _ => none

section
variable {P : Program} {Γ : TypeId → Option TI}
theorem kd_some (h : GOK P Γ) {T : TypeId} {k : Kd} (e : kd Γ T = some k) : ∃ d,P.underlying T = some d ∧ undSays k d := by
  unfold kd at e
  cases ht : Γ T with
  | none => simp [ht] at e
  | some ti => simp [ht] at e; subst e; exact (h T ti ht).und
theorem run_underlying {T : TypeId} {d : TypeDesc} (e : P.underlying T = some d) (w : World) : (underlying T).run P w = Result.ok d w := by
  show Sem.run P (match P.underlying T with | some d => pure d | none => stuck "no such type") w = _
  rw [e]; rfl
theorem ifK_ok {k k' : IntKind} {r : Prop × SV} {c : Prop} {x : SV} (h : ifK k k' r = some (c,x)) : k' = k ∧ r = (c,x) := by
  unfold ifK at h
  split at h
  · rename_i e; exact ⟨e.symm,by simpa using h⟩
  · cases h
theorem bin_ok {op : BinOp} {x y r : SV} {c : Prop} {T : TypeId} {β : Nat → Bt} (h : bin op x y = some (c,r)) (hc : c) (w : World) :
    (binOp op T (conc β x) (conc β y)).run P w = Result.ok (conc β r) w := by
  unfold bin at h
  split at h
  · rename_i k a k' b
    unfold binI at h
    split at h
    case h_1 =>
      obtain ⟨rfl,rfl⟩ := Prod.mk.inj (Option.some.inj h)
      simp [conc,binOp,Op.shift,shI,go_sem]; omega
    case h_2 =>
      obtain ⟨rfl,rfl⟩ := Prod.mk.inj (Option.some.inj h)
      simp [conc,binOp,Op.shift,shI,go_sem]; omega
    all_goals obtain ⟨rfl,hq⟩ := ifK_ok h
    case h_3 => have := ar_ok k' (a + b) β (by rw [hq]; exact hc); rw [hq] at this; rw [this]; simp [conc,binOp,Op.intArith,go_sem]
    case h_4 => have := ar_ok k' (a - b) β (by rw [hq]; exact hc); rw [hq] at this; rw [this]; simp [conc,binOp,Op.intArith,go_sem]
    case h_5 => have := ar_ok k' (a * b) β (by rw [hq]; exact hc); rw [hq] at this; rw [this]; simp [conc,binOp,Op.intArith,go_sem]
    case h_6 =>
      obtain ⟨rfl,rfl⟩ := Prod.mk.inj hq
      simp [conc,binOp,Op.intDiv,divI,hc,go_sem]
    case h_7 =>
      obtain ⟨rfl,rfl⟩ := Prod.mk.inj hq
      simp [conc,binOp,Op.intDiv,divI,hc,go_sem]
    case h_8 => obtain ⟨-,rfl⟩ := Prod.mk.inj hq; simp [conc,binOp,Op.intBits,bitI,go_sem]
    case h_9 => obtain ⟨-,rfl⟩ := Prod.mk.inj hq; simp [conc,binOp,Op.intBits,bitI,go_sem]
    case h_10 => obtain ⟨-,rfl⟩ := Prod.mk.inj hq; simp [conc,binOp,Op.intBits,bitI,go_sem]
    case h_11 => obtain ⟨-,rfl⟩ := Prod.mk.inj hq; simp [conc,binOp,Op.intBits,bitI,go_sem]
    all_goals
      obtain ⟨-,rfl⟩ := Prod.mk.inj hq
      simp [conc,binOp,Op.intCmp,go_sem]
  · rename_i a b
    unfold binS at h
    split at h <;> simp only [Option.some.injEq,reduceCtorEq] at h
    · obtain ⟨rfl,rfl⟩ := Prod.mk.inj h
      have hle : (a.length : Int) + b.length ≤ 9223372036854775807 := by omega
      simp [conc,binOp,Op.stringOp,go_sem,app_list]
      exact hle
    all_goals
      obtain ⟨-,rfl⟩ := Prod.mk.inj h
      simp [conc,binOp,Op.stringOp,go_sem,bne]
  · cases h
theorem bnds_ok {len : Nat} {lo hi : Option SV} {c : Prop} {f u : Nat} {β : Nat → Bt} (h : bnds len lo hi = some (c,f,u)) (hc : c) (b : Bool) (w : World) :
    (Instr.sliceBounds b len len (lo.map (conc β)) (hi.map (conc β)) none).run P w = Result.ok (f,u,len) w := by
  unfold bnds at h
  split at h <;> simp only [Option.some.injEq,Prod.mk.injEq,reduceCtorEq] at h
  all_goals
    obtain ⟨rfl,rfl,rfl⟩ := h
    simp [conc,Instr.sliceBounds,Instr.sliceBound,asIntOf,go_sem]
    try omega
  rw [if_pos (by omega),if_pos (by omega)]
theorem opt_map {t : List (Nat × SV)} {β : Nat → Bt} {n : Nat} {a : Act} (hf : FrOK β n t a) {o : Option Operand} {x : Option SV} (h : optE t o = some x) : o.map a.eval = x.map (conc β) := by
  cases o with
  | none => simp [optE] at h; subst h; rfl
  | some o =>
    simp only [optE,Option.map_eq_some_iff] at h
    obtain ⟨y,hy,rfl⟩ := h
    simp [hf.ev hy]
theorem mapM_ev {t : List (Nat × SV)} {β : Nat → Bt} {n : Nat} {a : Act} (hf : FrOK β n t a) : ∀ {os : List Operand} {l : List SV},os.mapM (ev t) = some l → os.map a.eval = l.map (conc β)
  | [],l,h => by simp at h; subst h; rfl
  | o :: os,l,h => by
    simp only [List.mapM_cons,Option.bind_eq_bind,Option.bind_eq_some_iff] at h
    obtain ⟨x,hx,r,hr,he⟩ := h
    simp at he
    subst he
    simp [hf.ev hx,mapM_ev hf hr]
theorem part_ok (hΓ : GOK P Γ) {T : TypeId} {ti : TI} (ht : Γ T = some ti) {β : Nat → Bt} {off : Nat} {l : List SV} {x : SV} (h : XM ti.agg off ti.size l = some x) (w : World) :
    (part T (l.map (conc β)).toArray off).run P w = Result.ok (conc β x) w := by
  have ha := (hΓ T ti ht).agg w
  have hz := (hΓ T ti ht).size w
  unfold XM at h
  cases hg : ti.agg
  · rw [hg] at h ha
    simp only [Bool.false_eq_true,if_false] at h
    simp [part,ha,go_sem,h]
  · rw [hg] at h ha
    simp only [if_true,Option.some.injEq] at h
    subst h
    simp [part,ha,hz,go_sem,conc,concL_map]

theorem fields_of {T : TypeId} {F : Array Field} (h : P.underlying T = some (.struct F)) : P.fieldsOf T = F := by
  unfold Program.fieldsOf; rw [h]
theorem eqF_ok (hΓ : GOK P Γ) {rc : TypeId → SV → SV → Option Bool} {β : Nat → Bt} {m : Nat} (w : World)
    (hrc : ∀ T x y b, rc T x y = some b → (Op.equalIn m T (conc β x) (conc β y)).run P w = Result.ok b w) (l l' : List SV) : ∀ (F : List Field) (b : Bool), (∀ f ∈ F, f.name ≠ "_") → eqK.eqF Γ rc l l' (F.map fun f => (f.offset, f.type)) = some b →
      (Op.eqFields m (concL β l).toArray (concL β l').toArray F).run P w = Result.ok b w
  | [],b,_,h => by simp only [List.map_nil,eqK.eqF,Option.some.injEq] at h; subst h; rfl
  | f :: F,b,hn,h => by
    simp only [List.map_cons,eqK.eqF] at h
    split at h
    · rename_i ti hti
      split at h
      · rename_i x hx
        split at h
        · rename_i y hy
          split at h
          · rename_i p hp
            split at h
            · rename_i q hq
              simp only [Option.some.injEq] at h
              subst h
              have px := part_ok (P := P) hΓ hti (β := β) hx w
              have py := part_ok (P := P) hΓ hti (β := β) hy w
              have pe := hrc _ _ _ _ hp
              have ih := eqF_ok hΓ w hrc l l' F q (fun f hf => hn f (List.mem_cons_of_mem _ hf)) hq
              rw [← concL_map] at px py
              simp only [Op.eqFields,if_pos (hn f List.mem_cons_self),Sem.run_bind,px,py,pe,Result.andThen_ok]
              cases p
              · simp
              · simpa using ih
            · cases h
          · cases h
        · cases h
      · cases h
    · cases h
theorem eqS_ok (hΓ : GOK P Γ) {β : Nat → Bt} (w : World) : ∀ (d : Nat) (T : TypeId) (x y : SV) (b : Bool),eqS Γ d T x y = some b → ∀ m,d ≤ m → (Op.equalIn m T (conc β x) (conc β y)).run P w = Result.ok b w
  | 0,_,_,_,_,h,_,_ => by cases h
  | d + 1,T,x,y,b,h,m,hm => by
    obtain ⟨m,rfl⟩ : ∃ k,m = k + 1 := ⟨m - 1,by omega⟩
    simp only [eqS] at h
    split at h
    · rename_i ti hti
      have hT := hΓ T ti hti
      obtain ⟨D,hD,hs⟩ := hT.und
      unfold eqK at h
      split at h
      · rename_i e
        rw [e] at hs
        simp only [undSays] at hs
        subst hs
        split at h
        · rename_i hk; subst hk
          simp only [Option.some.injEq] at h; subst h
          simp only [conc]
          exact run_equalIn_int w m T _ _ _ _ hD
        · cases h
      · rename_i e
        rw [e] at hs
        simp only [undSays] at hs
        subst hs
        simp only [Option.some.injEq] at h; subst h
        simp only [conc]
        exact run_equalIn_bool' w m T _ _ hD
      · rename_i e
        rw [e] at hs
        simp only [undSays] at hs
        subst hs
        simp only [Option.some.injEq] at h; subst h
        simp only [conc]
        rw [run_equalIn_string w m T _ _ hD]
        simp
      · rename_i fs l l' e
        rw [e] at hs
        obtain ⟨F,rfl,hF⟩ := hs
        split at h
        · rename_i hcmp
          obtain ⟨h1,h2,h3⟩ := hT.cmp hcmp
          have hfo := fields_of hD
          rw [hfo] at h3
          simp only [conc]
          rw [run_equalIn_agg w m T _ _ (by rw [hfo]; exact hD) h1,hfo]
          subst hF
          refine eqF_ok hΓ w (fun T x y b hb => eqS_ok hΓ w d T x y b hb m (by omega)) l l' F.toList b (fun f hf => ?_) h
          rw [Array.all_eq_true'] at h3
          have := h3 f (by simpa using hf)
          simpa using this
        · cases h
      · cases h
    · cases h
theorem run_equalIn_nils (w : World) (d : Nat) (T e : TypeId) (h : P.underlying T = some (.slice e)) : (Op.equalIn (d + 1) T (.slice none 0 0) (.slice none 0 0)).run P w = Result.ok true w := by
  simp [Op.equalIn,run_underlying h]
theorem negB_run {op : BinOp} {b : Bool} {r : SV} (h : negB op b = some r) : (op = .eql ∧ r = .bool b) ∨ (op = .neq ∧ r = .bool (!b)) := by
  unfold negB at h
  split at h
  · exact .inl ⟨rfl,(Option.some.inj h).symm⟩
  · exact .inr ⟨rfl,(Option.some.inj h).symm⟩
  · cases h
theorem eqB_ok {op : BinOp} {x y r : SV} {k : Kd} (hΓ : GOK P Γ) {T : TypeId} (ht : kd Γ T = some k) {β : Nat → Bt} (h : eqB Γ T k op x y = some r) (w : World) :
    (binOp op T (conc β x) (conc β y)).run P w = Result.ok (conc β r) w := by
  obtain ⟨d,hd,hs⟩ := kd_some hΓ ht
  unfold eqB at h
  split at h
  · split at h
    · rename_i a b _
      have hd' : P.underlying T = some .bool := by rw [hd]; exact congrArg some hs
      split at h <;> simp only [Option.some.injEq,reduceCtorEq] at h
      all_goals
        subst h
        simp only [conc]
        first
        | (show Sem.run P (do pure (Value.bool (← Op.equal T (Value.bool a) (Value.bool b)))) w = _
           simp [run_equal_bool (w := w) T a b hd',Result.andThen])
        | (show Sem.run P (do pure (Value.bool (!(← Op.equal T (Value.bool a) (Value.bool b))))) w = _
           simp [run_equal_bool (w := w) T a b hd',Result.andThen,bne])
    · cases h
  · rename_i l l'
    split at h
    · rename_i b hb
      have he := eqS_ok (P := P) hΓ (β := β) w 4 T _ _ b hb 10000 (by omega)
      simp only [conc] at he ⊢
      rcases negB_run h with ⟨rfl,rfl⟩ | ⟨rfl,rfl⟩
      · rw [run_eql_struct,he]; rfl
      · rw [run_neq_struct,he]; rfl
    · cases h
  · split at h
    · rename_i e
      have hd' : P.underlying T = some (.slice e) := by rw [hd]; exact congrArg some hs
      have he : (Op.equal T (.slice none 0 0) (.slice none 0 0)).run P w = Result.ok true w := by
        exact run_equalIn_nils w 9999 T e hd'
      rcases negB_run h with ⟨rfl,rfl⟩ | ⟨rfl,rfl⟩
      · show Sem.run P (do pure (Value.bool (← Op.equal T (.slice none 0 0) (.slice none 0 0)))) w = _
        rw [Sem.run_bind,he]; rfl
      · show Sem.run P (do pure (Value.bool (!(← Op.equal T (.slice none 0 0) (.slice none 0 0))))) w = _
        rw [Sem.run_bind,he]; rfl
    · cases h
  · cases h
theorem eqB_guard {op : BinOp} {x y r : SV} {k : Kd} (hΓ : GOK P Γ) {T : TypeId} {β : Nat → Bt} (h : eqB Γ T k op x y = some r) (a b : Operand) (w : World) :
    (eqGuard op T a b (conc β x) (conc β y)).run P w = Result.ok () w := by
  unfold eqB at h
  split at h
  · simp only [conc]; unfold eqGuard; split <;> rfl
  · rename_i l l'
    split at h
    · rename_i b' hb
      have hg : P.eqGuardType P.depth T = false := by
        unfold eqS at hb
        split at hb
        · rename_i ti hti
          unfold eqK at hb
          split at hb
          · rename_i e1 e2; cases e2
          · rename_i e1 e2; cases e2
          · rename_i e1 e2; cases e2
          · split at hb
            · rename_i hcmp; exact ((hΓ T ti hti).cmp hcmp).2.1
            · cases hb
          · cases hb
        · cases hb
      simp only [conc]
      exact run_eqGuard_agg w op T a b _ _ hg
    · cases h
  · simp only [conc]; unfold eqGuard; split <;> rfl
  · cases h
theorem moved {x : SV} {y : Option SV} {c : Prop} (h : y.map (fun x => (True,x)) = some (c,x)) : y = some x := by
  cases y with
  | none => simp at h
  | some y => simp only [Option.map_some,Option.some.injEq,Prod.mk.injEq] at h; rw [h.2]
theorem run_val {s : Sem Value} {v : Value} {w w' : World} (h : s.run P w = Result.ok v w') : Sem.run P (do pure (Next.value (← s))) w = Result.ok (.value v) w' := by
  simp [h,Result.andThen,go_sem]
theorem pick_ok {c : SV} {a b : Option SV} {x : SV} {va vb : Value} {β : Nat → Bt} (h : XJ c a b = some x) (ha : ∀ y,a = some y → va = conc β y) (hb : ∀ y,b = some y → vb = conc β y) (w : World) :
    Sem.run P (do pure (if ← asBool (conc β c) then va else vb)) w = Result.ok (conc β x) w := by
  unfold XJ at h
  split at h <;> simp only [Option.some.injEq,reduceCtorEq] at h
  · subst h
    rename_i c' x y
    rw [ha _ rfl,hb _ rfl]
    cases c' <;> simp [conc,asBool,go_sem]
  · subst h
    rename_i y _
    rw [ha _ rfl]
    simp [conc,asBool,go_sem]
  · subst h
    rename_i y _
    rw [hb _ rfl]
    simp [conc,asBool,go_sem]
theorem fieldAddr_ok (hΓ : GOK P Γ) {t : List (Nat × SV)} {β : Nat → Bt} {n : Nat} {a : Act} (hf : FrOK β n t a) {S : TypeId} {x : Operand} {f : Nat} {c : Prop} {r : SV} (h : Xb Γ t S x f = some (c,r)) (w : World) :
    (Instr.fieldAt S (a.eval x) f).run P w = Result.ok (conc β r) w := by
  unfold Xb at h
  split at h
  · rename_i fs hk
    obtain ⟨d,hd,F,rfl,hF⟩ := kd_some hΓ hk
    split at h
    · rename_i i off he
      split at h
      · rename_i o ft hft
        split at h
        · rename_i m hm
          simp only [Option.some.injEq,Prod.mk.injEq] at h
          obtain ⟨-,rfl⟩ := h
          rw [hf.ev he]
          subst hF
          simp only [List.getElem?_map,Option.map_eq_some_iff,Prod.mk.injEq] at hft
          obtain ⟨fl,hfl,rfl,rfl⟩ := hft
          have hfl' : F[f]? = some fl := by simpa using hfl
          unfold sz at hm
          cases hti : Γ fl.type with
          | none => simp [hti] at hm
          | some ti =>
            simp [hti] at hm
            have hs := (hΓ _ _ hti).size w
            rw [hm] at hs
            simp [Instr.fieldAt,run_underlying hd,hfl',conc,Instr.sureAddr,fieldPlace,hs,go_sem,Addr.add]
            split <;> simp <;> omega
        · cases h
      · cases h
    · cases h
  · cases h
theorem field_ok (hΓ : GOK P Γ) {t : List (Nat × SV)} {β : Nat → Bt} {n : Nat} {a : Act} (hf : FrOK β n t a) {S : TypeId} {x : Operand} {f : Nat} {c : Prop} {r : SV} (h : Xu Γ t S x f = some (c,r)) (w : World) :
    (Instr.field S (a.eval x) f).run P w = Result.ok (conc β r) w := by
  unfold Xu at h
  split at h
  · rename_i fs hk
    obtain ⟨d,hd,F,rfl,hF⟩ := kd_some hΓ hk
    split at h
    · rename_i l he
      split at h
      · rename_i o ft hft
        split at h
        · rename_i ti hti
          have h' := moved h
          rw [hf.ev he]
          subst hF
          simp only [List.getElem?_map,Option.map_eq_some_iff,Prod.mk.injEq] at hft
          obtain ⟨fl,hfl,rfl,rfl⟩ := hft
          have hfl' : F[f]? = some fl := by simpa using hfl
          have hp := part_ok hΓ hti (β := β) h' w
          simpa [Instr.field,run_underlying hd,hfl',conc,concL_map,asAgg,go_sem] using hp
        · cases h
      · cases h
    · cases h
  · cases h
theorem conv_ok (hΓ : GOK P Γ) {t : List (Nat × SV)} {β : Nat → Bt} {n : Nat} {a : Act} (hf : FrOK β n t a) {S D : TypeId} {x : Operand} {c : Prop} {r : SV} (h : Ye Γ t S D x = some (c,r)) (w : World) :
    (convert S D (a.eval x)).run P w = Result.ok (conc β r) w := by
  unfold Ye at h
  split at h
  · rename_i k0 hk0
    obtain ⟨d0,hd0,-⟩ := kd_some hΓ hk0
    split at h
    · rename_i k hk
      obtain ⟨d,hd,hs⟩ := kd_some hΓ hk
      split at h
      · rename_i y he
        have h' := moved h
        rw [hf.ev he]
        unfold XW at h'
        split at h' <;> simp only [Option.some.injEq,reduceCtorEq] at h'
        · subst h'
          simp only [undSays] at hs
          subst hs
          simp [convert,run_underlying hd,run_underlying hd0,conc,Conv.intToInt,go_sem]
        · subst h'
          simp only [undSays] at hs
          subst hs
          simp [convert,run_underlying hd,run_underlying hd0,conc,go_sem]
      · cases h
    · cases h
  · cases h
theorem slice_ok (hΓ : GOK P Γ) {t : List (Nat × SV)} {β : Nat → Bt} {n : Nat} {a : Act} (hf : FrOK β n t a) {T : TypeId} {x : Operand} {lo hi : Option Operand} {c : Prop} {r : SV} (h : Xw Γ t T x lo hi = some (c,r)) (hc : c) (w : World) :
    (Instr.sliceAt T (a.eval x) (lo.map a.eval) (hi.map a.eval) none).run P w = Result.ok (conc β r) w := by
  unfold Xw at h
  split at h
  · rename_i hk
    obtain ⟨d,hd,hs⟩ := kd_some hΓ hk
    simp only [undSays] at hs
    subst hs
    split at h
    · rename_i l he
      split at h
      · rename_i lo' hlo
        split at h
        · rename_i hi' hhi
          simp only [Option.map_eq_some_iff,Prod.mk.injEq] at h
          obtain ⟨⟨c',f,u⟩,hb,rfl,rfl⟩ := h
          rw [hf.ev he,opt_map hf hlo,opt_map hf hhi]
          have := bnds_ok (P := P) (β := β) hb hc false w
          simp only [Instr.sliceAt,Sem.run_bind,run_underlying hd,Result.andThen,conc,Instr.slice,Option.isSome_none,Bool.false_eq_true,if_false]
          rw [show (⟨List.toArray l⟩ : ByteArray).size = l.length from rfl,this]
          simp [ex_list]
        · cases h
      · cases h
    · cases h
  · cases h
theorem index_ok (hΓ : GOK P Γ) {t : List (Nat × SV)} {β : Nat → Bt} {n : Nat} {a : Act} (hf : FrOK β n t a) {T : TypeId} {x i : Operand} {c : Prop} {r : SV} (h : Xx Γ t T x i = some (c,r)) (hc : c) (w : World) :
    (Instr.index T (a.eval x) (a.eval i)).run P w = Result.ok (conc β r) w := by
  unfold Xx at h
  split at h
  · rename_i hk
    obtain ⟨d,hd,hs⟩ := kd_some hΓ hk
    simp only [undSays] at hs
    subst hs
    split at h
    · rename_i l he
      split at h
      · rename_i k m hi
        simp only [Option.some.injEq,Prod.mk.injEq] at h
        obtain ⟨rfl,rfl⟩ := h
        rw [hf.ev he,hf.ev hi]
        obtain ⟨h0,h1⟩ := hc
        have h2 : m.toNat < l.length := by omega
        simp only [Instr.index,conc,asIntOf,Sem.run_bind,Sem.run_pure,Result.andThen_ok,run_underlying hd,if_pos h0]
        rw [getElem?_pos (⟨List.toArray l⟩ : ByteArray) m.toNat h2]
        simp [List.getD_eq_getElem?_getD,List.getElem?_eq_getElem h2,get_list]
      · cases h
    · cases h
  · cases h
theorem zip_fold (off : Nat) : ∀ (xs : List Value) (j : Nat) (arr : Array Value),off + j + xs.length ≤ arr.size →
    (xs.zipIdx j).foldl (fun cs (p : Value × Nat) => cs.setIfInBounds (off + p.2) p.1) arr = (arr.toList.take (off + j) ++ xs ++ arr.toList.drop (off + j + xs.length)).toArray
  | [],j,arr,_ => by simp
  | x :: r,j,arr,h => by
    simp only [List.length_cons] at h
    rw [List.zipIdx_cons,List.foldl_cons,zip_fold off r (j + 1) _ (by simp; omega)]
    congr 1
    simp only [Array.toList_setIfInBounds,List.length_cons]
    have hlt : off + j < arr.toList.length := by simp; omega
    rw [show off + (j + 1) = off + j + 1 by omega,show off + j + 1 + r.length = off + j + (r.length + 1) by omega]
    rw [List.take_succ_eq_append_getElem (by simp; omega),List.getElem_set_self,List.take_set_of_le (Nat.le_refl _),List.drop_set_of_lt (by omega)]
    simp
theorem evParts_fr {t : List (Nat × SV)} {β : Nat → Bt} {n : Nat} {a : Act} (hf : FrOK β n t a) : ∀ {ps : List (Nat × Operand)} {l : List (Nat × SV)},Xl t ps = some l → ps.map (fun p => (p.1,a.eval p.2)) = l.map fun p => (p.1,conc β p.2)
  | [],l,e => by simp [Xl] at e; subst e; rfl
  | (i,o) :: r,l,e => by
    simp only [Xl] at e
    split at e
    · rename_i x hx
      split at e
      · rename_i l' hl
        cases e
        simp [hf.ev hx,evParts_fr hf hl]
      · cases e
    · cases e
theorem fillA_ok (s : Nat) (β : Nat → Bt) : ∀ (ps : List (Nat × SV)) (c c' : List SV),XY s ps c = some c' → Instr.fill (fun i => some (i * s,s)) (c.map (conc β)).toArray (ps.map fun p => (p.1,conc β p.2)) = some (c'.map (conc β)).toArray
  | [],c,c',e => by simp [XY] at e; subst e; rfl
  | (i,x) :: r,c,c',e => by
    simp only [XY] at e
    split at e
    · rename_i hcond
      obtain ⟨hv,hl,ho⟩ := hcond
      have ih := fillA_ok s β r _ c' e
      have hcells := conc_cells' β x hv
      simp only [List.map_cons,Instr.fill,hcells,List.size_toArray,List.length_map]
      rw [if_neg (by simp [hl]; omega)]
      rw [← ih]
      congr 1
      have hz := zip_fold (i * s) ((cells x).map (conc β)) 0 (c.map (conc β)).toArray (by simp; omega)
      rw [← Array.foldl_toList,Array.toList_zipIdx]
      simp only [Nat.add_zero,List.length_map] at hz
      rw [hz]
      simp [Xs,List.map_take,List.map_drop]
    · cases e
theorem sz_some (hΓ : GOK P Γ) {e : TypeId} {s : Nat} (h : sz Γ e = some s) (w : World) : (Go.sizeOf e).run P w = Result.ok s w := by
  unfold sz at h
  cases ht : Γ e with
  | none => simp [ht] at h
  | some ti => simp [ht] at h; rw [← h]; exact (hΓ _ ti ht).size w
theorem buildA_ok (hΓ : GOK P Γ) {t : List (Nat × SV)} {β : Nat → Bt} {n : Nat} {a : Act} (hf : FrOK β n t a) {T : TypeId} {ps : Array (Nat × Operand)} {c : Prop} {r : SV} (h : Xk Γ t T ps.toList = some (c,r)) (w : World) :
    (Instr.build T (ps.map fun p => (p.1,a.eval p.2))).run P w = Result.ok (conc β r) w := by
  unfold Xk at h
  (repeat' split at h) <;> try (cases h; done)
  rename_i ti hti _ m e hk _ s hs _ l hl _ cc hc
  cases h
  have hok := hΓ T ti hti
  obtain ⟨d,hd,hu⟩ := hok.und
  rw [hk] at hu
  simp only [undSays] at hu
  subst hu
  obtain ⟨z,hz,hzc⟩ := hok.zero w
  have hsz := sz_some hΓ hs w
  have hfill := fillA_ok s β l ti.zero cc hc
  rw [← evParts_fr hf hl,hok.flat β,← hzc] at hfill
  simp only [Instr.build,Sem.run_bind,hz,Result.andThen_ok,run_underlying hd,hsz,Array.toList_map,hfill,conc,concL_map]
  rfl
theorem idxA_ok (hΓ : GOK P Γ) {t : List (Nat × SV)} {β : Nat → Bt} {n : Nat} {a : Act} (hf : FrOK β n t a) {T : TypeId} {x i : Operand} {c : Prop} {r : SV} (h : XS Γ t T x i = some (c,r)) (hc : c) (w : World) :
    (Instr.indexAt T (a.eval x) (a.eval i)).run P w = Result.ok (conc β r) w := by
  unfold XS at h
  (repeat' split at h) <;> try (cases h; done)
  rename_i _ m e hk _ s hs _ b off hx _ k kk hi
  cases h
  obtain ⟨d,hd,hu⟩ := kd_some hΓ hk
  simp only [undSays] at hu
  subst hu
  have hsz := sz_some hΓ hs w
  rw [hf.ev hx,hf.ev hi]
  obtain ⟨h0,h1,h2⟩ := hc
  have : kk.toNat < m := by omega
  simp [Instr.indexAt,asIntOf,run_underlying hd,h1,h2,hsz,conc,Instr.sureAddr,Addr.add,go_sem]
  split <;> simp <;> omega
theorem pv_ok (hΓ : GOK P Γ) {t : List (Nat × SV)} {β : Nat → Bt} {n : Nat} {a : Act} (hf : FrOK β n t a) {o : Oper} {c : Prop} {x : SV} (h : pv Γ t o.op = some (c,x)) (hc : c) (w : World) :
    (execOp a.eval o).run P w = Result.ok (.value (conc β x)) w := by
  obtain ⟨dst,op,ty,pos,after,guard⟩ := o
  simp only at h
  cases op <;> simp only [pv,reduceCtorEq] at h
  case move y => simp only [execOp]; rw [hf.ev (moved h)]; rfl
  case assign y => simp only [execOp]; rw [hf.ev (moved h)]; rfl
  case pick c' y z =>
    unfold Ya at h
    split at h
    · rename_i b hb
      simp only [execOp]
      rw [hf.ev hb]
      have := pick_ok (P := P) (moved h) (va := a.eval y) (vb := a.eval z) (fun _ e => hf.ev e) (fun _ e => hf.ev e) w
      have := run_val this
      simpa using this
    · cases h
  case fieldAddr S y f => exact run_val (fieldAddr_ok hΓ hf h w)
  case field S y f => exact run_val (field_ok hΓ hf h w)
  case convert S D y => exact run_val (conv_ok hΓ hf h w)
  case index T y i => exact run_val (index_ok hΓ hf h hc w)
  case build T ps => exact run_val (buildA_ok hΓ hf h w)
  case indexAddr T y i => exact run_val (idxA_ok hΓ hf h hc w)
  case slice T y lo hi mx =>
    cases mx with
    | none => exact run_val (slice_ok hΓ hf h hc w)
    | some _ => cases h
  case binOp op T y z yt =>
    unfold oBin at h
    split at h
    · rename_i u hu
      split at h
      · rename_i v hv
        have key : ∀ r,(binOp op T (conc β u) (conc β v)).run P w = Result.ok r w → (∀ l,conc β u ≠ .agg l) → conc β u ≠ .nilIface → Sem.run P (do eqGuard op T y z (conc β u) (conc β v); binOp op T (conc β u) (conc β v)) w = Result.ok r w := by
          intro r hr h1 h2
          have hg : (eqGuard op T y z (conc β u) (conc β v)).run P w = Result.ok () w := by
            generalize conc β u = A at h1 h2
            cases A <;> first | exact absurd rfl (h1 _) | exact absurd rfl h2 | (unfold eqGuard; simp; done) | (unfold eqGuard; split <;> rfl)
          rw [Sem.run_bind,hg,Result.andThen_ok,hr]
        simp only [execOp]
        rw [hf.ev hu,hf.ev hv]
        split at h
        · rename_i r hr
          cases h
          refine run_val (key _ (bin_ok hr hc w) ?_ ?_)
          all_goals
            unfold bin at hr
            cases u <;> simp [conc] at hr ⊢
        · split at h
          · rename_i k hk
            have hr := moved h
            refine run_val ?_
            rw [Sem.run_bind,eqB_guard hΓ hr y z w,Result.andThen_ok]
            exact eqB_ok hΓ hk hr w
          · cases h
      · cases h
    · cases h
  case unOp op T y =>
    unfold oUn at h
    split at h
    · split at h
      · rename_i b hb
        cases h
        simp only [execOp]
        rw [hf.ev hb]
        rfl
      · cases h
    · split at h
      · rename_i k n hb
        simp only [Option.some.injEq] at h
        have e := ar_ok k (0 - n) β (by rw [h]; exact hc)
        rw [h] at e
        simp only at e
        rw [e]
        simp only [execOp]
        rw [hf.ev hb]
        simp [conc,Op.intArith,go_sem]
      · cases h
    · cases h
  case extract y i =>
    unfold Xh at h
    split at h
    · rename_i l hl
      have h' := moved h
      simp only [execOp]
      rw [hf.ev hl]
      refine run_val ?_
      simp [Instr.extract,conc,concL_map,h']
    · cases h
  case makeFunc fn first caps =>
    unfold Yh at h
    split at h
    · rename_i hfst
      split at h
      · rename_i l hl
        cases h
        have hm := mapM_ev hf hl
        simp only [execOp]
        have h0 : first = #[] := by simpa using hfst
        subst h0
        refine run_val ?_
        simp only [Instr.makeFunc,conc,concL_map,← hm]
        have e : Array.map a.eval caps = (List.map a.eval caps.toList).toArray := Array.ext' (by simp)
        simp [e]
      · cases h
    · split at h
      · rename_i hcaps
        split at h
        · split at h
          · rename_i l hl
            cases h
            have hm := mapM_ev hf hl
            simp only [execOp]
            have h0 : caps = #[] := by simpa using hcaps
            subst h0
            refine run_val ?_
            simp only [Instr.makeFunc,conc,concL_map,← hm]
            have e : Array.map a.eval first = (List.map a.eval first.toList).toArray := Array.ext' (by simp)
            simp [e]
          · cases h
        · cases h
      · cases h
  case makeInterface T y =>
    unfold oIface at h
    split at h
    · rename_i k hk
      obtain ⟨d,hd,hs⟩ := kd_some hΓ hk
      split at h
      · rename_i u hu
        split at h
        · rename_i hp
          cases h
          simp only [execOp]
          rw [hf.ev hu]
          refine run_val ?_
          unfold Instr.makeInterface
          rw [Sem.run_bind,run_underlying hd,Result.andThen_ok]
          cases k <;> simp only [plainK,Bool.false_eq_true,undSays] at hp hs
          all_goals first
            | (subst hs; rfl)
            | (obtain ⟨F,rfl,-⟩ := hs; rfl)
        · cases h
      · cases h
    · cases h
  case typeAssert y S A ok =>
    cases ok
    · simp at h
    simp only at h
    unfold oAssert at h
    split at h
    · rename_i k hk
      obtain ⟨d,hd,hs⟩ := kd_some hΓ hk
      split at h
      · rename_i T u hu
        split at h
        · rename_i hp
          split at h
          · rename_i hT
            subst hT
            cases h
            simp only [execOp]
            rw [hf.ev hu]
            refine run_val ?_
            unfold Instr.typeAssert
            rw [Sem.run_bind,run_underlying hd,Result.andThen_ok]
            cases k <;> simp only [plainK,Bool.false_eq_true,undSays] at hp hs
            all_goals first
              | (subst hs; simp [conc,concL])
              | (obtain ⟨F,rfl,-⟩ := hs; simp [conc,concL])
          · cases h
        · cases h
      · cases h
    · cases h
  case call cl =>
    obtain ⟨callee,args,ts⟩ := cl
    cases callee <;> (try simp only [reduceCtorEq] at h)
    rename_i b
    cases b <;> (try simp only [reduceCtorEq] at h)
    unfold oLen at h
    split at h
    · rename_i y hy
      split at h
      · rename_i T hT
        split at h
        · rename_i k hk
          obtain ⟨d,hd,hs⟩ := kd_some hΓ hk
          split at h
          · rename_i u hu
            have h' := moved h
            have ea : args = #[y] := by apply Array.ext'; simpa using hy
            have et : ts = #[T] := by apply Array.ext'; simpa using hT
            subst ea et
            have hev := hf.ev hu
            unfold lenS at h'
            split at h' <;> simp only [Option.some.injEq,reduceCtorEq] at h'
            all_goals
              subst h'
              simp only [undSays] at hs
              subst hs
              simp only [conc] at hev
              try (unfold oV at hev; split at hev)
              all_goals
              generalize a.eval = ρ at hev ⊢
              simp [execOp,resolve,invoke,builtin,Builtin.len_,hev,run_underlying hd,conc,goInt,go_sem]
          · cases h
        · cases h
      · cases h
    · cases h
end
end Vc
namespace Vc
open Go Go.RowKit Wf

structure FrW (own : Nat → Prop) (w w' : World) : Prop where
  os : w'.os = w.os
  tape : w'.tape = w.tape
  output : w'.output = w.output
  size : w.heap.size ≤ w'.heap.size
  block : ∀ k,k < w.heap.size → ¬ own k → w'.heap[k]? = w.heap[k]?
theorem FrW.refl (own : Nat → Prop) (w : World) : FrW own w w := ⟨rfl,rfl,rfl,Nat.le_refl _,fun _ _ _ => rfl⟩
theorem FrW.trans {own : Nat → Prop} {a b c : World} (h : FrW own a b) (k : FrW own b c) : FrW own a c :=
  ⟨k.os.trans h.os,k.tape.trans h.tape,k.output.trans h.output,Nat.le_trans h.size k.size,fun i hi hn => (k.block i (Nat.lt_of_lt_of_le hi h.size) hn).trans (h.block i hi hn)⟩
theorem FrW.of_below {own : Nat → Prop} {w w' : World} (h : Below w.heap.size w w') : FrW own w w' := ⟨h.os,h.tape,h.output,h.size,fun k hk _ => h.block k hk⟩
theorem FrW.below {w w' : World} (h : FrW (fun _ => False) w w') : Below w.heap.size w w' := ⟨h.os,h.tape,h.output,h.size,fun k hk => h.block k hk (by simp)⟩

structure Rsc where
  holds : Bt → (Nat → Prop) → World → Prop
  stays : ∀ b fp w w',holds b fp w → (∀ k,fp k → w'.heap[k]? = w.heap[k]?) → holds b fp w'
  /-- A string that is ranged over,and the place. -/
  it : Option (List UInt8 × Nat) := none
  itOk : ∀ l p b fp w,it = some (l,p) → holds b fp w → b.off = 0 ∧ w.heap[b.blk]? = some (.stringIter ⟨List.toArray l⟩ p) ∧ ∀ k,fp k ↔ k = b.blk := by
    intro _ _ _ _ _ h; cases h
inductive Res where
  | cells (c : List SV) (T : TypeId) (mine : Bool)
  | own (c : List SV) (e : TypeId) (s n : Nat) (mine : Bool)
  | ext (R : Rsc)
  | gone
def Res.mine : Res → Bool
  | .cells _ _ m => m
  | .own _ _ _ _ m => m
  | .ext _ => true
  | .gone => false
def Lies (w : World) (b off : Nat) (vs : List Value) : Prop := ∀ (j : Nat) (v : Value),vs[j]? = some v → w.cell? ⟨b,off + j,none⟩ = some v
def Head (w : World) (b : Nat) (T : TypeId) (vs rest : List Value) (fz : Nat × Nat) : Prop := w.heap[b]? = some (.cells (vs ++ rest).toArray T fz) ∧ (vs.length ≤ fz.1 ∨ fz.2 ≤ fz.1)
theorem Head.lies {w : World} {b : Nat} {T : TypeId} {vs rest : List Value} {fz : Nat × Nat} (h : Head w b T vs rest fz) : Lies w b 0 vs := fun j v hv => by
  have hj : j < vs.length := (List.getElem?_eq_some_iff.1 hv).1
  simp only [World.cell?,h.1,Nat.zero_add]
  simp only [Option.isSome_none,Bool.false_eq_true,if_false,List.getElem?_toArray]
  rw [List.getElem?_append_left hj]
  exact hv
def Holds (β : Nat → Bt) (t : Bt) (fp : Nat → Prop) (w : World) : Res → Prop
  | .cells c T _ => t.off = 0 ∧ (∃ rest fz,Head w t.blk T (c.map (conc β)) rest fz ∧ rest = []) ∧ ∀ k,fp k ↔ k = t.blk
  | .own c e s n m => (t.cap = 0 ∧ n = 0 ∧ c = [] ∧ (∀ k,¬ fp k) ∧ (m = true → t.blk = 0)) ∨
      (t.cap ≠ 0 ∧ n ≤ t.cap - 1 ∧ t.cap - 1 ≤ maxLen ∧ c.length = n * s ∧ Lies w t.blk t.off (c.map (conc β)) ∧ (m = true → t.off = 0 ∧ ∃ rest fz,Head w t.blk e (c.map (conc β)) rest fz ∧ (c.length + rest.length ≤ fz.1 ∨ fz.2 ≤ fz.1) ∧ c.length + rest.length = (t.cap - 1) * s) ∧ ∀ k,fp k ↔ k = t.blk)
  | .ext R => R.holds t fp w
  | .gone => ∀ k,¬ fp k
theorem Lies.stays {w w' : World} {b off : Nat} {vs : List Value} (h : Lies w b off vs) (hk : w'.heap[b]? = w.heap[b]?) : Lies w' b off vs := fun j v hv =>
  (World.cell?_of_block (w := w) (a := ⟨b,off + j,none⟩) hk).trans (h j v hv)
theorem Holds.stays {β : Nat → Bt} {t : Bt} {fp : Nat → Prop} {w w' : World} {r : Res} (h : Holds β t fp w r) (hk : ∀ k,fp k → w'.heap[k]? = w.heap[k]?) : Holds β t fp w' r := by
  cases r with
  | cells c T m =>
    obtain ⟨h0,⟨rest,fz,⟨h1,h2⟩,hr⟩,h3⟩ := h
    exact ⟨h0,⟨rest,fz,⟨(hk _ ((h3 _).2 rfl)).trans h1,h2⟩,hr⟩,h3⟩
  | own c e s n m =>
    rcases h with h | ⟨h1,h2,h3,h4,h5,h6,h7⟩
    · exact .inl h
    · have e := hk _ ((h7 _).2 rfl)
      exact .inr ⟨h1,h2,h3,h4,h5.stays e,fun hm => by
        obtain ⟨h8,rest,fz,h9,h10⟩ := h6 hm
        exact ⟨h8,rest,fz,⟨e.trans h9.1,h9.2⟩,h10⟩,h7⟩
  | ext R => exact R.stays _ _ _ _ h hk
  | gone => exact h
structure BxOK (β : Nat → Bt) (fp : Nat → Nat → Prop) (w : World) (bs : List Res) : Prop where
  holds : ∀ i r,bs[i]? = some r → Holds β (β i) (fp i) w r
  lt : ∀ i r,bs[i]? = some r → ∀ k,fp i k → k < w.heap.size
  sep : ∀ i j r r',bs[i]? = some r → bs[j]? = some r' → i ≠ j → (r.mine = true ∨ r'.mine = true) → ∀ k,fp i k → ¬ fp j k
structure St where
  t : List (Nat × SV)
  b : List Res
structure Cx where
  P : Program
  Γ : TypeId → Option TI
  E : World → Prop
  G : Nat
  esize : ∀ w,E w → G ≤ w.heap.size
  estays : ∀ w w',E w → (∀ k,k < G → w'.heap[k]? = w.heap[k]?) → w.heap.size ≤ w'.heap.size → E w'
  gok : GOK P Γ
  mixed : P.follows .mixedOrders = true
  /-- The methods behind interface values: of a pointer type,by name. -/
  M : TypeId → String → Option FuncId
  mok : ∀ T name f,M T name = some f → ∀ (x : Value) (args : Array Value) (w : World),(callMethod (.iface T x) name args).run P w = (callFunc f (#[x] ++ args)).run P w
structure Fx (V : Cx) where
  n : Nat
  w0 : World
  own : Nat → Prop
  e0 : V.E w0
  ownG : ∀ k,own k → V.G ≤ k
  β0 : Nat → Bt
  bs0 : List Res
  foot : Nat → Prop
def Agr (m : Nat) (β β' : Nat → Bt) : Prop := ∀ i,i < m → β i = β' i
theorem Agr.refl (m : Nat) (β : Nat → Bt) : Agr m β β := fun _ _ => rfl
structure Ini {V : Cx} (F : Fx V) (β : Nat → Bt) (bs : List Res) : Prop where
  agr : Agr F.bs0.length F.β0 β
  len : F.bs0.length ≤ bs.length
structure Wd {V : Cx} (F : Fx V) (β : Nat → Bt) (fp : Nat → Nat → Prop) (bs : List Res) (w : World) : Prop where
  fr : FrW F.own F.w0 w
  bx : ∀ β',Agr bs.length β β' → BxOK β' fp w bs
  mine : ∀ i r,bs[i]? = some r → r.mine = true → ∀ k,fp i k → F.w0.heap.size ≤ k ∨ F.own k
  ini : Ini F β bs
  foot : ∀ i r,bs[i]? = some r → ∀ k,fp i k → F.w0.heap.size ≤ k ∨ F.foot k
theorem Wd.env {V : Cx} {F : Fx V} {β : Nat → Bt} {fp : Nat → Nat → Prop} {bs : List Res} {w : World} (h : Wd F β fp bs w) : V.E w :=
  V.estays F.w0 w F.e0 (fun k hk => h.fr.block k (Nat.lt_of_lt_of_le hk (V.esize _ F.e0)) (fun ho => by have := F.ownG k ho; omega)) h.fr.size
theorem Wd.below {V : Cx} {F : Fx V} {β : Nat → Bt} {fp : Nat → Nat → Prop} {bs : List Res} {w w' : World} (h : Wd F β fp bs w) (hb : Below w.heap.size w w') : Wd F β fp bs w' :=
  ⟨h.fr.trans (FrW.of_below hb),fun β' hβ => ⟨fun i r hi => ((h.bx β' hβ).holds i r hi).stays (fun k hk => hb.block k ((h.bx β' hβ).lt i r hi k hk)),fun i r hi k hk => Nat.lt_of_lt_of_le ((h.bx β' hβ).lt i r hi k hk) hb.size,(h.bx β' hβ).sep⟩,h.mine,h.ini,h.foot⟩
theorem Wd.drew {V : Cx} {F : Fx V} {β : Nat → Bt} {fp : Nat → Nat → Prop} {bs : List Res} {w : World} (h : Wd F β fp bs w) : Wd F β fp bs { w with drawn := w.drawn + 1 } :=
  h.below (Below.drew (Below.refl _ _))
structure Fm {V : Cx} (F : Fx V) (β : Nat → Bt) (m : Nat) (t : List (Nat × SV)) (a : Act) : Prop where
  ok : ∀ β',Agr m β β' → FrOK β' F.n t a
def Rel {V : Cx} (F : Fx V) (σ : St) (a : Act) (w : World) : Prop := ∃ β fp,Fm F β σ.b.length σ.t a ∧ Wd F β fp σ.b w
def Qof {V : Cx} (F : Fx V) (K : Exit → St → Prop) : Exit → Act → World → Prop := fun e a w => ∃ σ,K e σ ∧ Rel F σ a w
theorem Fm.put {V : Cx} {F : Fx V} {β : Nat → Bt} {m : Nat} {t : List (Nat × SV)} {a : Act} (h : Fm F β m t a) {dst : Option Tmp} (hd : fits F.n dst = true) {x : SV} {v : Value} (hv : ∀ β',Agr m β β' → v = conc β' x) : Fm F β m (put dst x t) (a.put dst v) :=
  ⟨fun β' hβ => by rw [hv β' hβ]; exact (h.ok β' hβ).put' hd x⟩
theorem Fm.more {V : Cx} {F : Fx V} {β β₂ : Nat → Bt} {m m₂ : Nat} {t : List (Nat × SV)} {a : Act} (h : Fm F β m t a) (hm : m ≤ m₂) (hβ : Agr m β β₂) : Fm F β₂ m₂ t a :=
  ⟨fun β' hβ' => h.ok β' (fun i hi => (hβ i hi).trans (hβ' i (Nat.lt_of_lt_of_le hi hm)))⟩

def flat : SV → Bool
  | .p _ _ => false
  | .o _ _ => false
  | .f _ _ => false
  | .agg l => flatL l
  | .tup l => flatL l
  | .fn _ l => flatL l
  | .mv _ l => flatL l
  | .ifc _ x => flat x
  | _ => true
where flatL : List SV → Bool
  | [] => true
  | x :: r => flat x && flatL r
mutual
theorem conc_flat (x : SV) (h : flat x = true) (β β' : Nat → Bt) : conc β x = conc β' x := by
  cases x <;> simp only [flat,Bool.false_eq_true] at h <;> simp only [conc]
  · rw [concL_flat _ h β β']
  · rw [concL_flat _ h β β']
  · rw [concL_flat _ h β β']
  · rw [concL_flat _ h β β']
  · rw [conc_flat _ h β β']
theorem concL_flat (l : List SV) (h : flat.flatL l = true) (β β' : Nat → Bt) : concL β l = concL β' l := by
  cases l with
  | nil => rfl
  | cons x r =>
    simp only [flat.flatL,Bool.and_eq_true] at h
    simp only [concL]
    rw [conc_flat x h.1 β β',concL_flat r h.2 β β']
end
def Enters (V : Cx) (f : FuncId) : Prop := ∀ args w,(callFunc f args).run V.P w = Result.ok (.enter f args) w
structure PC (V : Cx) (f : FuncId) (args : List SV) (r : SV) : Prop where
  enters : Enters V f
  fa : flat.flatL args = true
  fr : flat r = true
  calls : ∀ w,V.E w → Calls V.P f (concL bt0 args).toArray w fun e w' => e = .returned (conc bt0 r) ∧ Below w.heap.size w w'
def SC (V : Cx) (f : FuncId) (args : List SV) (bs : List Res) (R : SV → List Res → Prop) : Prop := Enters V f ∧
  ∀ β fp w,(∀ β',Agr bs.length β β' → BxOK β' fp w bs) → (∀ i r,bs[i]? = some r → r.mine = true → ∀ k,fp i k → V.G ≤ k) → V.E w → Calls V.P f (concL β args).toArray w fun e w' =>
    ∃ r bs' β₂ fp₂,R r bs' ∧ Agr bs.length β β₂ ∧ bs.length ≤ bs'.length ∧ (∀ β',Agr bs'.length β₂ β' → e = .returned (conc β' r) ∧ BxOK β' fp₂ w' bs') ∧
      FrW (fun k => ∃ i r,bs[i]? = some r ∧ r.mine = true ∧ fp i k) w w' ∧
      (∀ i r',bs'[i]? = some r' → r'.mine = true → ∀ k,fp₂ i k → w.heap.size ≤ k ∨ ∃ j r,bs[j]? = some r ∧ r.mine = true ∧ fp j k) ∧
      (∀ i r',bs'[i]? = some r' → ∀ k,fp₂ i k → w.heap.size ≤ k ∨ ∃ j r,bs[j]? = some r ∧ fp j k)

def one : SV → Bool
  | .agg _ => false
  | .tup _ => false
  | .v _ => false
  | _ => true
def getB (bs : List Res) (i : Nat) : Option (List SV × TypeId × Bool) := match bs[i]? with
  | some (.cells c T m) => some (c,T,m)
  | some (.own c e _ _ m) => some (c,e,m)
  | _ => none
def setR (c : List SV) : Res → Res
  | .cells _ T m => .cells c T m
  | .own _ e s n m => .own c e s n m
  | r => r
def setB (bs : List Res) (i : Nat) (c : List SV) : List Res := match bs[i]? with
  | some r => bs.set i (setR c r)
  | none => bs
def XZ (fs : List (Nat × TypeId)) (Γ : TypeId → Option TI) : List (Nat × SV) → List SV → Option (List SV)
  | [],c => some c
  | (i,x) :: r,c => match fs[i]? with
    | some (off,T) => match sz Γ T with
      | some n => if isV x = false ∧ (cells x).length = n ∧ off + n ≤ c.length then XZ fs Γ r (Xs c off (cells x)) else none
      | none => none
    | none => none
def vcM (V : Cx) (n : Nat) (dst : Option Tmp) (op : Op) (σ : St) (K : St → Prop) : Prop :=
  match op with
  | .alloc T => match V.Γ T with
    | some ti => K ⟨put dst (.p σ.b.length 0) σ.t,σ.b ++ [.cells ti.zero T true]⟩
    | none => False
  | .box T x => match ev σ.t x with
    | some x => isV x = false ∧ K ⟨put dst (.p σ.b.length 0) σ.t,σ.b ++ [.cells (cells x) T true]⟩
    | none => False
  | .load T x => match ev σ.t x with
    | some (.p i off) => match getB σ.b i with
      | some (c,_,_) => match V.Γ T with
        | some ti => off + ti.size ≤ c.length ∧ (match XM ti.agg off ti.size c with
          | some x => K ⟨put dst x σ.t,σ.b⟩
          | none => False)
        | none => False
      | none => False
    | _ => False
  | .store T x y => match ev σ.t x with
    | some (.p i off) => match ev σ.t y with
      | some y => match getB σ.b i with
        | some (c,_,m) => match sz V.Γ T with
          | some s => (m = true ∧ (cells y).all one = true ∧ (cells y).length = s ∧ off + s ≤ c.length) ∧ K ⟨put dst (.v undef) σ.t,setB σ.b i (Xs c off (cells y))⟩
          | none => False
        | none => False
      | none => False
    | _ => False
  | .build T ps => match V.Γ T with
    | some ti => match ti.kind with
      | .struct fs => match Xl σ.t ps.toList with
        | some ps => match XZ fs V.Γ ps ti.zero with
          | some c => K ⟨put dst (.agg c) σ.t,σ.b⟩
          | none => False
        | none => False
      | _ => False
    | none => False
  | .nilCheck x => match ev σ.t x with
    | some (.p i off) => K ⟨put dst (.p i off) σ.t,σ.b⟩
    | some (.fn f l) => (match f with | .func _ => True | _ => False) ∧ K ⟨put dst (.fn f l) σ.t,σ.b⟩
    | some (.mv f l) => K ⟨put dst (.mv f l) σ.t,σ.b⟩
    | _ => False
  | .call ⟨.value f,args,_⟩ => match ev σ.t f with
    | some (.fn (.func f) caps) => match evs σ.t args.toList with
      | some l => (∃ r,PC V f (l ++ caps) r ∧ K ⟨put dst r σ.t,σ.b⟩) ∨ (∃ R,SC V f (l ++ caps) σ.b R ∧ ∀ r bs,R r bs → K ⟨put dst r σ.t,bs⟩)
      | none => False
    | some (.mv f first) => match evs σ.t args.toList with
      | some l => (∃ r,PC V f (first ++ l) r ∧ K ⟨put dst r σ.t,σ.b⟩) ∨ (∃ R,SC V f (first ++ l) σ.b R ∧ ∀ r bs,R r bs → K ⟨put dst r σ.t,bs⟩)
      | none => False
    | _ => False
  | .call ⟨.invoke rc name,args,_⟩ => match ev σ.t rc with
    | some (.ifc T x) => match V.M T name with
      | some f => match evs σ.t args.toList with
        | some l => (∃ r,PC V f (x :: l) r ∧ K ⟨put dst r σ.t,σ.b⟩) ∨ (∃ R,SC V f (x :: l) σ.b R ∧ ∀ r bs,R r bs → K ⟨put dst r σ.t,bs⟩)
        | none => False
      | none => False
    | _ => False
  | _ => False
def vcO (V : Cx) (n : Nat) (dst : Option Tmp) (op : Op) (σ : St) (K : St → Prop) : Prop :=
  fits n dst = true ∧ match pv V.Γ σ.t op with
  | some (c,x) => c ∧ K ⟨put dst x σ.t,σ.b⟩
  | none => vcM V n dst op σ K
def gval (dsts : List (Option Tmp)) (t : List (Nat × SV)) (j : Nat) : Option (Nat × Bool) := match dsts[j]? with
  | some (some d) => match lk d t with
    | some (.bool b) => some (d,b)
    | _ => none
  | _ => none
end Vc
namespace Vc
open Go Go.RowKit Wf
theorem one_oneCell {x : SV} (h : one x = true) (β : Nat → Bt) : (conc β x).oneCell' = true := by
  cases x
  case o i n => simp only [conc,oV]; split <;> rfl
  case f i n => simp only [conc,fV]; split <;> rfl
  all_goals simp [one,conc,Value.oneCell'] at h ⊢
theorem isV_of_one {x : SV} (h : (cells x).all one = true) : isV x = false := by
  cases x <;> simp [cells,one,isV] at h ⊢
theorem run_storeCells_fz {P : Program} (g o : Nat) (t : TypeId) (fz : Nat × Nat) : ∀ (vs : List Value) (i : Nat) (cur : Array Value) (w : World),w.heap[g]? = some (.cells cur t fz) → o + i + vs.length ≤ cur.size → (o + i + vs.length ≤ fz.1 ∨ fz.2 ≤ fz.1) → (∀ v ∈ vs,v.oneCell' = true) →
    (storeCells ⟨g,o,none⟩ vs i).run P w = Result.ok () (w.setRow g (cur.toList.take (o + i) ++ vs ++ cur.toList.drop (o + i + vs.length)).toArray)
  | [],i,cur,w,hg,_,_,_ => by
    simp only [storeCells,List.append_nil,List.length_nil,Nat.add_zero,List.take_append_drop,Array.toArray_toList]
    rw [setRow_self w g cur t fz hg]
    rfl
  | v :: rest,i,cur,w,hg,hl,hz,h1 => by
    simp only [List.length_cons] at hl hz
    have hi : o + i < cur.size := by omega
    have hadd : (⟨g,o,none⟩ : Addr).add i = ⟨g,o + i,none⟩ := by unfold Addr.add; split <;> simp_all
    have hcell : w.cell? ⟨g,o + i,none⟩ = some cur[o + i] := by simp [World.cell?,hg,hi]
    have hfro : w.frozen? ⟨g,o + i,none⟩ = false := by simp [World.frozen?,hg]; omega
    have hst : (store ((⟨g,o,none⟩ : Addr).add i) v).run P w = Result.ok () (w.setRow g (cur.setIfInBounds (o + i) v)) := by
      rw [hadd,run_store P w _ v _ (h1 v (by simp)),hcell]
      simp [hfro,setCell_eq_setRow w g (o + i) cur t fz v hg]
    have ih := run_storeCells_fz (P := P) g o t fz rest (i + 1) (cur.setIfInBounds (o + i) v) (w.setRow g (cur.setIfInBounds (o + i) v)) (setRow_heap w g cur _ t _ hg) (by simp; omega) (by omega) (fun x hx => h1 x (by simp [hx]))
    simp only [storeCells,Sem.run_bind,hst,Result.andThen_ok,ih,setRow_setRow]
    congr 3
    have e := list_seg_step cur.toList (o + i) v rest (by simp; omega)
    simpa [Array.toList_setIfInBounds,Nat.add_assoc] using e
section
variable {V : Cx} {F : Fx V} {β : Nat → Bt} {fp : Nat → Nat → Prop} {bs : List Res} {w : World} {t : List (Nat × SV)} {a : Act}
theorem Fm.ev {m : Nat} (h : Fm F β m t a) {o : Operand} {x : SV} (e : Vc.ev t o = some x) {β' : Nat → Bt} (hβ : Agr m β β') : a.eval o = conc β' x := (h.ok β' hβ).ev e
def upd (β : Nat → Bt) (m : Nat) (b : Bt) : Nat → Bt := fun i => if i = m then b else β i
theorem upd_agr (β : Nat → Bt) (m : Nat) (b : Bt) : Agr m β (upd β m b) := fun i hi => by unfold upd; rw [if_neg (by omega)]
theorem upd_at (β : Nat → Bt) (m : Nat) (b : Bt) : upd β m b m = b := if_pos rfl
theorem Agr.of_upd {m : Nat} {b : Bt} {β β' : Nat → Bt} (h : Agr (m + 1) (upd β m b) β') : Agr m β β' := fun i hi => (upd_agr β m b i hi).trans (h i (by omega))
def updF (fp : Nat → Nat → Prop) (m : Nat) (f : Nat → Prop) : Nat → Nat → Prop := fun i k => if i = m then f k else fp i k
theorem Wd.more (h : Wd F β fp bs w) {w' : World} (hb : Below w.heap.size w w') (r : Res) (b : Bt) (f : Nat → Prop)
    (hr : ∀ β',Agr (bs.length + 1) (upd β bs.length b) β' → Holds β' b f w' r) (hf : ∀ k,f k → w.heap.size ≤ k ∧ k < w'.heap.size) :
    Wd F (upd β bs.length b) (updF fp bs.length f) (bs ++ [r]) w' := by
  have h' := h.below hb
  have old : ∀ {i r'},(bs ++ [r])[i]? = some r' → (i < bs.length ∧ bs[i]? = some r') ∨ (i = bs.length ∧ r' = r) := fun {i r'} hi => by
    rcases Nat.lt_or_ge i bs.length with hlt | hge
    · rw [List.getElem?_append_left hlt] at hi; exact .inl ⟨hlt,hi⟩
    · have hi' : i = bs.length := by
        have := (List.getElem?_eq_some_iff.1 hi).1
        rw [List.length_append,List.length_singleton] at this
        omega
      subst hi'
      rw [List.getElem?_append_right (Nat.le_refl _)] at hi
      simp at hi
      exact .inr ⟨rfl,hi.symm⟩
  have fo : ∀ {i},i < bs.length → updF fp bs.length f i = fp i := fun {i} hi => by funext k; simp [updF,show i ≠ bs.length by omega]
  have fn : updF fp bs.length f bs.length = f := by funext k; simp [updF]
  refine ⟨h'.fr,fun β' hβ => ?_,fun i r' hi hm k hk => ?_,?_,fun i r' hi k hk => ?_⟩
  · rw [List.length_append,List.length_singleton] at hβ
    have hb' := h'.bx β' hβ.of_upd
    have hlast : β' bs.length = b := by rw [← hβ bs.length (by omega),upd_at]
    have hlt0 := (h.bx β' hβ.of_upd).lt
    refine ⟨fun i r' hi => ?_,fun i r' hi k hk => ?_,fun i j r1 r2 hi hj hne hm k hk hk' => ?_⟩
    · rcases old hi with ⟨hlt,hi⟩ | ⟨rfl,rfl⟩
      · rw [fo hlt]; exact hb'.holds i r' hi
      · rw [fn,hlast]; exact hr β' hβ
    · rcases old hi with ⟨hlt,hi⟩ | ⟨rfl,rfl⟩
      · rw [fo hlt] at hk; exact hb'.lt i r' hi k hk
      · rw [fn] at hk; exact (hf k hk).2
    · rcases old hi with ⟨hlt,hi2⟩ | ⟨ei,e1⟩
      · rcases old hj with ⟨hlt',hj2⟩ | ⟨ej,e2⟩
        · rw [fo hlt] at hk; rw [fo hlt'] at hk'; exact hb'.sep i j r1 r2 hi2 hj2 hne hm k hk hk'
        · rw [ej] at hk'
          rw [fo hlt] at hk; rw [fn] at hk'
          have := hlt0 i r1 hi2 k hk
          have := (hf k hk').1
          omega
      · rcases old hj with ⟨hlt',hj2⟩ | ⟨ej,e2⟩
        · rw [ei] at hk
          rw [fn] at hk; rw [fo hlt'] at hk'
          have := hlt0 j r2 hj2 k hk'
          have := (hf k hk).1
          omega
        · exact hne (ei.trans ej.symm)
  · rcases old hi with ⟨hlt,hi⟩ | ⟨rfl,rfl⟩
    · rw [fo hlt] at hk; exact h'.mine i r' hi hm k hk
    · rw [fn] at hk; exact .inl (Nat.le_trans h.fr.size (hf k hk).1)
  · have hl := h.ini.len
    exact ⟨fun i hi => (h.ini.agr i hi).trans (upd_agr β _ _ i (by omega)),by rw [List.length_append]; omega⟩
  · rcases old hi with ⟨hlt,hi⟩ | ⟨rfl,rfl⟩
    · rw [fo hlt] at hk; exact h'.foot i r' hi k hk
    · rw [fn] at hk; exact .inl (Nat.le_trans h.fr.size (hf k hk).1)
theorem Wd.alloc (h : Wd F β fp bs w) (c : List SV) (T : TypeId) (arr : Array Value) (mine : Bool)
    (harr : ∀ β',Agr (bs.length + 1) (upd β bs.length ⟨w.heap.size,0,0⟩) β' → arr = (c.map (conc β')).toArray) :
    Wd F (upd β bs.length ⟨w.heap.size,0,0⟩) (updF fp bs.length (· = w.heap.size)) (bs ++ [.cells c T mine]) (w.alloc (.cells arr T)) := by
  refine h.more ((Below.refl _ _).alloc (Nat.le_refl _) _) _ ⟨w.heap.size,0,0⟩ _ (fun β' hβ => ⟨rfl,⟨[],(0,0),⟨?_,.inr (Nat.le_refl _)⟩,rfl⟩,fun k => Iff.rfl⟩) (fun k hk => ?_)
  · show (w.alloc (.cells arr T)).heap[w.heap.size]? = _
    rw [heap_new,harr β' hβ,List.append_nil]
  · subst hk
    exact ⟨Nat.le_refl _,by rw [size_alloc]; omega⟩
theorem Wd.swap (h : Wd F β fp bs w) {i : Nat} {r0 : Res} (hi : bs[i]? = some r0) (hm : r0.mine = true) {w' : World} (hfr : FrW (fp i) w w') (r : Res) (b : Bt) (f : Nat → Prop)
    (hr : ∀ β',Agr (bs.length + 1) (upd β bs.length b) β' → Holds β' b f w' r) (hf : ∀ k,f k → (fp i k ∨ w.heap.size ≤ k) ∧ k < w'.heap.size) :
    Wd F (upd β bs.length b) (fun j k => if j = bs.length then f k else j ≠ i ∧ fp j k) (bs.set i .gone ++ [r]) w' := by
  have hilt : i < bs.length := (List.getElem?_eq_some_iff.1 hi).1
  have old : ∀ {j : Nat} {r' : Res},(bs.set i .gone ++ [r])[j]? = some r' → (j < bs.length ∧ j ≠ i ∧ bs[j]? = some r') ∨ (j = i ∧ r' = .gone) ∨ (j = bs.length ∧ r' = r) := fun {j r'} hj => by
    rcases Nat.lt_or_ge j bs.length with hlt | hge
    · rw [List.getElem?_append_left (by simpa using hlt)] at hj
      by_cases hji : j = i
      · subst hji
        rw [List.getElem?_set_self hilt] at hj
        exact .inr (.inl ⟨rfl,by simpa using hj.symm⟩)
      · rw [List.getElem?_set_ne (fun e => hji e.symm)] at hj
        exact .inl ⟨hlt,hji,hj⟩
    · have hj' : j = bs.length := by
        have := (List.getElem?_eq_some_iff.1 hj).1
        rw [List.length_append,List.length_singleton,List.length_set] at this
        omega
      subst hj'
      rw [List.getElem?_append_right (by simp)] at hj
      simp at hj
      exact .inr (.inr ⟨rfl,hj.symm⟩)
  have hb0 := h.bx β (Agr.refl _ _)
  have hlt0 := hb0.lt
  have hother : ∀ j r',bs[j]? = some r' → j ≠ i → ∀ k,fp j k → w'.heap[k]? = w.heap[k]? := fun j r' hj hne k hk =>
    hfr.block k (hlt0 j r' hj k hk) (fun hk' => hb0.sep j i r' r0 hj hi hne (.inr hm) k hk hk')
  have fo : ∀ {j : Nat},j < bs.length → j ≠ i → (fun k => if j = bs.length then f k else j ≠ i ∧ fp j k) = fp j := fun {j} hj hne => by funext k; simp [show j ≠ bs.length by omega,hne]
  refine ⟨⟨hfr.os.trans h.fr.os,hfr.tape.trans h.fr.tape,hfr.output.trans h.fr.output,Nat.le_trans h.fr.size hfr.size,fun k hk hn => ?_⟩,fun β' hβ => ?_,fun j r' hj hm' k hk => ?_,?_,fun j r' hj k hk => ?_⟩
  · rw [hfr.block k (Nat.lt_of_lt_of_le hk h.fr.size) (fun hk' => ?_)]
    · exact h.fr.block k hk hn
    · rcases h.mine i r0 hi hm k hk' with h1 | h1
      · omega
      · exact hn h1
  · rw [List.length_append,List.length_singleton,List.length_set] at hβ
    have hb' := h.bx β' hβ.of_upd
    have hlast : β' bs.length = b := by rw [← hβ bs.length (by omega),upd_at]
    refine ⟨fun j r' hj => ?_,fun j r' hj k hk => ?_,fun j l r1 r2 hj hl hne hmm k hk hk' => ?_⟩
    · rcases old hj with ⟨hlt,hne,hj2⟩ | ⟨ej,e2⟩ | ⟨ej,e2⟩
      · simp only [fo hlt hne]
        exact (hb'.holds j r' hj2).stays (fun k hk => hother j r' hj2 hne k hk)
      · subst ej e2
        intro k hk
        simp [show j ≠ bs.length by omega] at hk
      · subst ej e2
        simp only [if_true,hlast]
        exact hr β' hβ
    · rcases old hj with ⟨hlt,hne,hj2⟩ | ⟨ej,e2⟩ | ⟨ej,e2⟩
      · simp only [if_neg (show j ≠ bs.length by omega)] at hk
        exact Nat.lt_of_lt_of_le (hlt0 j r' hj2 k hk.2) hfr.size
      · subst ej
        simp [show j ≠ bs.length by omega] at hk
      · subst ej
        simp only [if_true] at hk
        exact (hf k hk).2
    · rcases old hj with ⟨hlt,hnj,hj2⟩ | ⟨ej,e2⟩ | ⟨ej,e2⟩
      · simp only [if_neg (show j ≠ bs.length by omega)] at hk
        rcases old hl with ⟨hlt',hnl,hl2⟩ | ⟨el,e3⟩ | ⟨el,e3⟩
        · simp only [if_neg (show l ≠ bs.length by omega)] at hk'
          exact hb0.sep j l r1 r2 hj2 hl2 hne hmm k hk.2 hk'.2
        · subst el; simp [show l ≠ bs.length by omega] at hk'
        · subst el
          simp only [if_true] at hk'
          rcases (hf k hk').1 with h1 | h1
          · exact hb0.sep j i r1 r0 hj2 hi hnj (.inr hm) k hk.2 h1
          · have := hlt0 j r1 hj2 k hk.2
            omega
      · subst ej; simp [show j ≠ bs.length by omega] at hk
      · subst ej
        simp only [if_true] at hk
        rcases old hl with ⟨hlt',hnl,hl2⟩ | ⟨el,e3⟩ | ⟨el,e3⟩
        · simp only [if_neg (show l ≠ bs.length by omega)] at hk'
          rcases (hf k hk).1 with h1 | h1
          · exact hb0.sep l i r2 r0 hl2 hi hnl (.inr hm) k hk'.2 h1
          · have := hlt0 l r2 hl2 k hk'.2
            omega
        · subst el; simp [show l ≠ bs.length by omega] at hk'
        · exact hne el.symm
  · rcases old hj with ⟨hlt,hne,hj2⟩ | ⟨ej,e2⟩ | ⟨ej,e2⟩
    · simp only [if_neg (show j ≠ bs.length by omega)] at hk
      exact h.mine j r' hj2 hm' k hk.2
    · subst e2; cases hm'
    · subst ej
      simp only [if_true] at hk
      rcases (hf k hk).1 with h1 | h1
      · exact h.mine i r0 hi hm k h1
      · exact .inl (Nat.le_trans h.fr.size h1)
  · have hl := h.ini.len
    exact ⟨fun j hj => (h.ini.agr j hj).trans (upd_agr β _ _ j (by omega)),by rw [List.length_append,List.length_set]; omega⟩
  · rcases old hj with ⟨hlt,hne,hj2⟩ | ⟨ej,e2⟩ | ⟨ej,e2⟩
    · simp only [if_neg (show j ≠ bs.length by omega)] at hk
      exact h.foot j r' hj2 k hk.2
    · subst ej; simp [show j ≠ bs.length by omega] at hk
    · subst ej
      simp only [if_true] at hk
      rcases (hf k hk).1 with h1 | h1
      · exact h.foot i r0 hi k h1
      · exact .inl (Nat.le_trans h.fr.size h1)
theorem getB_some {i : Nat} {c : List SV} {T : TypeId} {m : Bool} (h : getB bs i = some (c,T,m)) : ∃ r,bs[i]? = some r ∧ r.mine = m ∧ (r = .cells c T m ∨ ∃ s n,r = .own c T s n m) := by
  unfold getB at h
  split at h
  · rename_i e; cases h; exact ⟨_,e,rfl,.inl rfl⟩
  · rename_i e; cases h; exact ⟨_,e,rfl,.inr ⟨_,_,rfl⟩⟩
  · cases h
theorem getB_lt {i : Nat} {c : List SV} {T : TypeId} {m : Bool} (h : getB bs i = some (c,T,m)) : i < bs.length := by
  obtain ⟨r,hr,-⟩ := getB_some h
  exact (List.getElem?_eq_some_iff.1 hr).1
theorem Wd.lies (h : Wd F β fp bs w) {i : Nat} {c : List SV} {T : TypeId} {m : Bool} (hg : getB bs i = some (c,T,m)) {β' : Nat → Bt} (hβ : Agr bs.length β β') :
    Lies w (β' i).blk (β' i).off (c.map (conc β')) := by
  obtain ⟨r,hr,-,hc⟩ := getB_some hg
  have hh := (h.bx β' hβ).holds i r hr
  rcases hc with rfl | ⟨s,n,rfl⟩
  · obtain ⟨h0,⟨rest,fz,hd,-⟩,-⟩ := hh
    rw [h0]; exact hd.lies
  · rcases hh with ⟨-,-,h3,-⟩ | ⟨-,-,-,-,h5,-⟩
    · subst h3; intro j v hv; simp at hv
    · exact h5
theorem lies_agr {w : World} {b off : Nat} {u v : List Value} (hl : u.length = v.length) (h1 : Lies w b off u) (h2 : Lies w b off v) : u = v := by
  apply List.ext_getElem?
  intro j
  rcases hu : u[j]? with _ | x
  · have : v[j]? = none := by rw [List.getElem?_eq_none_iff] at hu ⊢; omega
    rw [this]
  · rcases hv : v[j]? with _ | y
    · have : j < u.length := (List.getElem?_eq_some_iff.1 hu).1
      rw [List.getElem?_eq_none_iff] at hv; omega
    · have e1 := h1 j x hu
      rw [h2 j y hv] at e1
      exact e1.symm
theorem Wd.agr (h : Wd F β fp bs w) {i : Nat} {c : List SV} {T : TypeId} {m : Bool} (hg : getB bs i = some (c,T,m)) {β' : Nat → Bt} (hβ : Agr bs.length β β') : c.map (conc β) = c.map (conc β') := by
  have h1 := h.lies hg (Agr.refl _ β)
  have h2 := h.lies hg hβ
  rw [← hβ i (getB_lt hg)] at h2
  exact lies_agr (by simp) h1 h2
theorem setB_at {i : Nat} {r : Res} (h : bs[i]? = some r) (c : List SV) : setB bs i c = bs.set i (setR c r) := by unfold setB; rw [h]
theorem setR_mine (c : List SV) (r : Res) : (setR c r).mine = r.mine := by cases r <;> rfl
theorem setB_length (i : Nat) (c : List SV) : (setB bs i c).length = bs.length := by unfold setB; split <;> simp
theorem Wd.store (h : Wd F β fp bs w) {i : Nat} {c : List SV} {T : TypeId} (hg : getB bs i = some (c,T,true)) {off : Nat} {ys : List SV} (hys : ∀ β',Agr bs.length β β' → ys.map (conc β) = ys.map (conc β')) (h1 : ys.all one = true) (hl : off + ys.length ≤ c.length) (P : Program) :
    ∃ w',(storeCells ⟨(β i).blk,(β i).off + off,none⟩ (ys.map (conc β))).run P w = Result.ok () w' ∧ Wd F β fp (setB bs i (Xs c off ys)) w' := by
  obtain ⟨r,hr,hm,hc⟩ := getB_some hg
  have hilt : i < bs.length := getB_lt hg
  have hh := (h.bx β (Agr.refl _ _)).holds i r hr
  rcases Nat.eq_zero_or_pos ys.length with h0 | hpos
  · have : ys = [] := List.eq_nil_of_length_eq_zero h0
    subst this
    refine ⟨w,rfl,?_⟩
    have e : setB bs i (Xs c off []) = bs := by
      have : Xs c off [] = c := by simp [Xs]
      rw [this,setB_at hr]
      apply List.ext_getElem?
      intro j
      by_cases hji : j = i
      · subst hji
        rw [List.getElem?_set_self hilt,hr]
        rcases hc with rfl | ⟨s,n,rfl⟩ <;> rfl
      · rw [List.getElem?_set_ne (fun e => hji e.symm)]
    rw [e]; exact h
  -- the block,whatever it is
  have key : (β i).off = 0 ∧ (∃ rest fz T',Head w (β i).blk T' (c.map (conc β)) rest fz) ∧ ∀ k,fp i k ↔ k = (β i).blk := by
    rcases hc with rfl | ⟨s,n,rfl⟩
    · obtain ⟨k0,⟨rest,fz,hd,-⟩,k3⟩ := hh
      exact ⟨k0,⟨rest,fz,_,hd⟩,k3⟩
    · rcases hh with ⟨-,-,h3,-⟩ | ⟨-,-,-,-,-,h6,h7⟩
      · rw [h3] at hl; simp only [List.length_nil] at hl; omega
      · obtain ⟨k0,rest,fz,hd,-⟩ := h6 rfl
        exact ⟨k0,⟨rest,fz,_,hd⟩,h7⟩
  obtain ⟨hoff,⟨rest,fz,T',hd⟩,hfi⟩ := key
  have hrun := run_storeCells_fz (P := P) (β i).blk off T' fz (ys.map (conc β)) 0 _ w hd.1 (by simp; omega) (by have := hd.2; simp at this ⊢; omega) (fun v hv => by
    simp only [List.mem_map] at hv
    obtain ⟨x,hx,rfl⟩ := hv
    exact one_oneCell (List.all_eq_true.1 h1 x hx) β)
  have e : (List.take (off + 0) (c.map (conc β) ++ rest) ++ ys.map (conc β) ++ List.drop (off + 0 + (ys.map (conc β)).length) (c.map (conc β) ++ rest)) = (Xs c off ys).map (conc β) ++ rest := by
    simp only [Nat.add_zero,List.length_map,Xs,List.map_append,List.map_take,List.map_drop]
    rw [List.take_append_of_le_length (by simp; omega),List.drop_append_of_le_length (by simp; omega)]
    simp
  simp only [e] at hrun
  rw [hoff,Nat.zero_add]
  refine ⟨_,hrun,?_⟩
  have hother : ∀ k,k ≠ (β i).blk → (w.setRow (β i).blk ((Xs c off ys).map (conc β) ++ rest).toArray).heap[k]? = w.heap[k]? := fun k hk => setRow_other _ _ _ _ hk
  have hnew : ∀ β',Agr bs.length β β' → Head (w.setRow (β i).blk ((Xs c off ys).map (conc β) ++ rest).toArray) (β i).blk T' ((Xs c off ys).map (conc β')) rest fz := fun β' hβ => by
    have ea : (Xs c off ys).map (conc β) = (Xs c off ys).map (conc β') := by
      simp only [Xs,List.map_append,List.map_take,List.map_drop,hys β' hβ,h.agr hg hβ]
    refine ⟨?_,?_⟩
    · rw [setRow_heap _ _ _ _ _ _ hd.1,ea]
    · have := hd.2
      simp [Xs] at this ⊢
      omega
  have hset := setB_at hr (Xs c off ys)
  have slen : (Xs c off ys).length = c.length := by simp [Xs]; omega
  rw [hset]
  have old : ∀ {j r'},(bs.set i (setR (Xs c off ys) r))[j]? = some r' → (j ≠ i ∧ bs[j]? = some r') ∨ (j = i ∧ r' = setR (Xs c off ys) r) := fun {j r'} hj => by
    by_cases hji : j = i
    · subst hji
      rw [List.getElem?_set_self hilt] at hj
      exact .inr ⟨rfl,by simpa using hj.symm⟩
    · rw [List.getElem?_set_ne (fun e => hji e.symm)] at hj
      exact .inl ⟨hji,hj⟩
  have oldr : ∀ {j : Nat} {r' : Res},(bs.set i (setR (Xs c off ys) r))[j]? = some r' → ∃ r0 : Res,bs[j]? = some r0 ∧ r0.mine = r'.mine := fun {j r'} hj => by
    rcases old hj with ⟨-,hj⟩ | ⟨rfl,rfl⟩
    · exact ⟨r',hj,rfl⟩
    · exact ⟨r,hr,(setR_mine _ _).symm⟩
  refine ⟨⟨h.fr.os,h.fr.tape,h.fr.output,by simpa using h.fr.size,fun k hk hn => (hother k (fun e => ?_)).trans (h.fr.block k hk hn)⟩,fun β' hβ => ?_,fun j r' hj hm' k hk => ?_,?_,fun j r' hj k hk => ?_⟩
  · rcases h.mine i _ hr hm k ((hfi k).2 e) with h1 | h1
    · omega
    · exact hn h1
  · rw [List.length_set] at hβ
    have hb := h.bx β' hβ
    have hhb := hb.holds i r hr
    refine ⟨fun j r' hj => ?_,fun j r' hj k hk => ?_,fun j l r1 r2 hj hl' hne hmm => ?_⟩
    · rcases old hj with ⟨hji,hj⟩ | ⟨rfl,rfl⟩
      · refine (hb.holds j r' hj).stays (fun k hk => hother k (fun e => ?_))
        exact hb.sep j i r' r hj hr hji (.inr hm) k hk ((hfi k).2 e)
      · have hn := hnew β' hβ
        rw [← hβ j hilt]
        rw [← hβ j hilt] at hhb
        rcases hc with rfl | ⟨s,n,rfl⟩
        · have : T' = T := by
            obtain ⟨-,⟨rest',fz',hd',-⟩,-⟩ := hhb
            have := hd'.1
            rw [hd.1] at this
            injection this with this
            injection this
          subst this
          have hre : rest = [] := by
            obtain ⟨-,⟨rest',fz',hd',hr'⟩,-⟩ := hhb
            have := hd'.1
            rw [hd.1] at this
            injection this with this
            injection this with this
            have := congrArg Array.size this
            subst hr'
            simp at this
            exact this
          exact ⟨hoff,⟨rest,fz,hn,hre⟩,hfi⟩
        · rcases hhb with ⟨-,-,h3,-⟩ | ⟨k1,k2,k3,k4,k5,k6,k7⟩
          · rw [h3] at hl; simp only [List.length_nil] at hl; omega
          · obtain ⟨-,rest',fz',hd',hfr',hsz⟩ := k6 rfl
            have hboth := hd'.1
            rw [hd.1] at hboth
            injection hboth with hboth
            injection hboth with hcells hT hfz
            subst hT hfz
            have hrl : rest'.length = rest.length := by
              have := congrArg Array.size hcells
              simp at this
              omega
            refine .inr ⟨k1,k2,k3,by rw [slen]; exact k4,by rw [hoff]; exact hn.lies,fun _ => ⟨hoff,rest,fz,hn,by rw [slen,← hrl]; exact hfr',by rw [slen,← hrl]; exact hsz⟩,k7⟩
    · obtain ⟨r0,hr0,-⟩ := oldr hj
      rw [setRow_size]
      exact hb.lt j r0 hr0 k hk
    · obtain ⟨r3,hr3,e3⟩ := oldr hj
      obtain ⟨r4,hr4,e4⟩ := oldr hl'
      exact hb.sep j l r3 r4 hr3 hr4 hne (by rw [e3,e4]; exact hmm)
  · obtain ⟨r0,hr0,e0⟩ := oldr hj
    exact h.mine j r0 hr0 (e0.trans hm') k hk
  · exact ⟨h.ini.agr,by rw [List.length_set]; exact h.ini.len⟩
  · obtain ⟨r0,hr0,-⟩ := oldr hj
    exact h.foot j r0 hr0 k hk
theorem wp_of_value {o : Oper} {a : Act} {v : Value} {w w' : World} {next : Act → World → Prop} {Q : Exit → Act → World → Prop} (h : (execOp a.eval o).run V.P w = Result.ok (.value v) w') (hn : next (a.put o.dst v) w') : o.wp V.P a w next Q := by
  unfold Oper.wp
  rw [h]
  exact hn
theorem wp_of_skip {o : Oper} {a : Act} {w w' : World} {next : Act → World → Prop} {Q : Exit → Act → World → Prop} (h : (execOp a.eval o).run V.P w = Result.ok .skip w') (hn : next (a.put o.dst undef) w') : o.wp V.P a w next Q := by
  unfold Oper.wp
  rw [h]
  exact hn
theorem run_alloc (T : TypeId) (ti : TI) (hT : V.Γ T = some ti) (w : World) :
    (Instr.alloc T true (.tuple #[])).run V.P w = Result.ok (.pointer (some ⟨w.heap.size,0,none⟩)) (w.alloc (.cells (ti.zero.map (conc bt0)).toArray T)) := by
  obtain ⟨z,hz,hc⟩ := (V.gok T ti hT).zero w
  simp [Instr.alloc,hz,newVar,newRow,hc]
theorem run_box (T : TypeId) (v : Value) (w : World) :
    (Instr.box T v).run V.P w = Result.ok (.pointer (some ⟨w.heap.size,0,none⟩)) (w.alloc (.cells v.cells T)) := by
  simp [Instr.box,newVar,newRow]
theorem addr_plus (b o j : Nat) : (⟨b,o,none⟩ : Addr).add j = ⟨b,o + j,none⟩ := by unfold Addr.add; split <;> simp_all
theorem run_load (T : TypeId) (ti : TI) (hT : V.Γ T = some ti) {c : List SV} {β : Nat → Bt} {b base off : Nat} {x : SV} (hx : XM ti.agg off ti.size c = some x) (hl : off + ti.size ≤ c.length)
    (hh : Lies w b base (c.map (conc β))) : (Instr.loadAt T (.pointer (some ⟨b,base + off,none⟩))).run V.P w = Result.ok (conc β x) w := by
  have hz := (V.gok T ti hT).size w
  have ha := (V.gok T ti hT).agg w
  unfold XM at hx
  cases hg : ti.agg
  · rw [hg] at ha hx
    simp only [Bool.false_eq_true,if_false] at hx
    have hc' := hh off (conc β x) (by rw [List.getElem?_map,hx]; rfl)
    simp [Instr.loadAt,Instr.sureAddr,loadVar,ha,hc']
  · rw [hg] at ha hx
    simp only [if_true,Option.some.injEq] at hx
    subst hx
    have hlen : (((c.drop off).take ti.size).map (conc β)).length = ti.size := by simp; omega
    have := run_loadCells_list (P := V.P) w ⟨b,base + off,none⟩ (((c.drop off).take ti.size).map (conc β)) (fun j v hv => by
      rw [addr_plus,Nat.add_assoc]
      refine hh (off + j) v ?_
      simp only [List.getElem?_map,List.getElem?_take,List.getElem?_drop] at hv ⊢
      split at hv
      · exact hv
      · simp at hv)
    rw [hlen] at this
    simp [Instr.loadAt,Instr.sureAddr,loadVar,ha,hz,this,conc,concL_map]
theorem run_storeAt (h : Wd F β fp bs w) (T : TypeId) (s : Nat) (hT : sz V.Γ T = some s) {i off : Nat} {c : List SV} {T' : TypeId} {y : SV} (hg : getB bs i = some (c,T',true)) (hy : ∀ β',Agr bs.length β β' → conc β y = conc β' y) (h1 : (cells y).all one = true) (hs : (cells y).length = s) (hl : off + s ≤ c.length) :
    ∃ w',(Instr.storeAt T (.pointer (some ⟨(β i).blk,(β i).off + off,none⟩)) (conc β y)).run V.P w = Result.ok () w' ∧ Wd F β fp (setB bs i (Xs c off (cells y))) w' := by
  have hz : (Go.sizeOf T).run V.P w = Result.ok s w := by
    unfold sz at hT
    cases ht : V.Γ T with
    | none => simp [ht] at hT
    | some ti => simp [ht] at hT; rw [← hT]; exact (V.gok T ti ht).size w
  have hcells := conc_cells' β y (isV_of_one h1)
  obtain ⟨w',hrun,hw⟩ := h.store hg (off := off) (ys := cells y) (fun β' hβ => by
    have e := congrArg Value.cells (hy β' hβ)
    rw [conc_cells' β y (isV_of_one h1),conc_cells' β' y (isV_of_one h1)] at e
    simpa using e) h1 (by omega) V.P
  refine ⟨w',?_,hw⟩
  simp [Instr.storeAt,Instr.sureAddr,storeVar,hz,hcells,hs,hrun]
theorem evs_ok {m : Nat} (h : Fm F β m t a) {os : List Operand} {l : List SV} (e : evs t os = some l) {β' : Nat → Bt} (hβ : Agr m β β') : os.map a.eval = concL β' l := by
  rw [concL_map]; exact mapM_ev (h.ok β' hβ) e
theorem evParts_ok {m : Nat} (h : Fm F β m t a) {β' : Nat → Bt} (hβ : Agr m β β') : ∀ {ps : List (Nat × Operand)} {l : List (Nat × SV)},Xl t ps = some l → ps.map (fun p => (p.1,a.eval p.2)) = l.map fun p => (p.1,conc β' p.2)
  | [],l,e => by simp [Xl] at e; subst e; rfl
  | (i,o) :: r,l,e => by
    simp only [Xl] at e
    split at e
    · rename_i x hx
      split at e
      · rename_i l' hl
        cases e
        simp [h.ev hx hβ,evParts_ok h hβ hl]
      · cases e
    · cases e
theorem mapM_sizes {P : Program} (w : World) : ∀ (L : List Field),(∀ f ∈ L,∃ n,∀ w,(Go.sizeOf f.type).run P w = Result.ok n w) →
    ∃ pl : List (Nat × Nat),(L.mapM fun (f : Field) => do pure (f.offset,← Go.sizeOf f.type)).run P w = Result.ok pl w ∧ ∀ (i : Nat) (f : Field) (n : Nat),L[i]? = some f → (Go.sizeOf f.type).run P w = Result.ok n w → pl[i]? = some (f.offset,n)
  | [],_ => ⟨[],by simp,by simp⟩
  | f :: L,h => by
    obtain ⟨n,hn⟩ := h f (by simp)
    obtain ⟨pl,hpl,hat⟩ := mapM_sizes w L (fun g hg => h g (by simp [hg]))
    refine ⟨(f.offset,n) :: pl,?_,fun i g m hi hm => ?_⟩
    · simp only [List.mapM_cons,Sem.run_bind,hn,Result.andThen_ok,Sem.run_pure,hpl]
    · cases i with
      | zero =>
        simp at hi
        subst hi
        rw [hn w] at hm
        injection hm with hm
        simp [hm]
      | succ i => simp at hi ⊢; exact hat i g m hi hm
theorem fill_ok (fs : List (Nat × TypeId)) (F' : Array Field) (hF : F'.toList.map (fun f => (f.offset,f.type)) = fs) (places : Array (Nat × Nat)) (hpl : ∀ (i off : Nat) (T : TypeId),fs[i]? = some (off,T) → ∀ n,sz V.Γ T = some n → places[i]? = some (off,n)) (β : Nat → Bt) :
    ∀ (ps : List (Nat × SV)) (c c' : List SV),XZ fs V.Γ ps c = some c' → Instr.fill (places[·]?) (c.map (conc β)).toArray (ps.map fun p => (p.1,conc β p.2)) = some (c'.map (conc β)).toArray
  | [],c,c',e => by simp [XZ] at e; subst e; rfl
  | (i,x) :: r,c,c',e => by
    simp only [XZ] at e
    split at e
    · rename_i off T hfs
      split at e
      · rename_i n hn
        split at e
        · rename_i hcond
          obtain ⟨hv,hl,ho⟩ := hcond
          have ih := fill_ok fs F' hF places hpl β r _ c' e
          have hcells := conc_cells' β x hv
          simp only [List.map_cons,Instr.fill,hpl i off T hfs n hn,hcells,List.size_toArray,List.length_map]
          rw [if_neg (by simp [hl]; omega)]
          rw [← ih]
          congr 1
          have hz := zip_fold off ((cells x).map (conc β)) 0 (c.map (conc β)).toArray (by simp; omega)
          rw [← Array.foldl_toList,Array.toList_zipIdx]
          simp only [Nat.add_zero,List.length_map] at hz
          rw [hz]
          simp [Xs,List.map_take,List.map_drop]
        · cases e
      · cases e
    · cases e
theorem run_build {m : Nat} {T : TypeId} {ti : TI} {fs : List (Nat × TypeId)} {ps : Array (Nat × Operand)} {l : List (Nat × SV)} {c : List SV} (hf : Fm F β m t a) (hT : V.Γ T = some ti) (hk : ti.kind = .struct fs) (hl : Xl t ps.toList = some l) (hc : XZ fs V.Γ l ti.zero = some c) {β' : Nat → Bt} (hβ : Agr m β β')
    (dst : Option Tmp) (ty : TypeId) (pos : String) (after : Array Edge) (guard : Option (Nat × Bool)) : (execOp a.eval { dst := dst,op := .build T ps,type := ty,pos := pos,after := after,guard := guard }).run V.P w = Result.ok (.value (conc β' (.agg c))) w := by
  have hok := V.gok T ti hT
  obtain ⟨d,hd,hs⟩ := hok.und
  rw [hk] at hs
  obtain ⟨Fs,rfl,hF⟩ := hs
  obtain ⟨z,hz,hzc⟩ := hok.zero w
  have hfl := hok.flat
  obtain ⟨pl,hpl,hat⟩ := mapM_sizes (P := V.P) w Fs.toList (fun f hf' => by
    have := hok.flds fs hk (f.offset,f.type) (by rw [← hF]; exact List.mem_map_of_mem hf')
    exact this)
  have hpl' : (Fs.mapM fun (f : Field) => do pure (f.offset,← Go.sizeOf f.type)).run V.P w = Result.ok pl.toArray w := by
    rw [Array.mapM_eq_mapM_toList]
    rw [Sem.run_map,hpl]
    rfl
  have hps := evParts_ok hf hβ hl
  have hfill := fill_ok (V := V) fs Fs hF pl.toArray (fun i off T' hi n hn => by
    rw [← hF] at hi
    simp only [List.getElem?_map,Option.map_eq_some_iff,Prod.mk.injEq] at hi
    obtain ⟨fl,hfl',rfl,rfl⟩ := hi
    have hsz : (Go.sizeOf fl.type).run V.P w = Result.ok n w := by
      unfold sz at hn
      cases ht : V.Γ fl.type with
      | none => simp [ht] at hn
      | some ti' => simp [ht] at hn; rw [← hn]; exact (V.gok _ ti' ht).size w
    simpa using hat i fl n hfl' hsz) β' l ti.zero c hc
  rw [← hps,hfl β',← hzc] at hfill
  refine run_val ?_
  simp only [Instr.build,Sem.run_bind,hz,Result.andThen_ok,run_underlying hd,hpl',Array.toList_map,hfill,conc,concL_map]
  rfl
theorem call_wp {f : FuncId} {l : List SV} {σ : St} {K : St → Prop} {β : Nat → Bt} {fp : Nat → Nat → Prop} {a : Act} {w : World} (hf : Fm F β σ.b.length σ.t a) (hw : Wd F β fp σ.b w) (o : Oper) (hfit : fits F.n o.dst = true) (hexec : Enters V f → ∀ β',Agr σ.b.length β β' → (execOp a.eval o).run V.P w = Result.ok (.enter f (concL β' l).toArray) w)
    (h : (∃ r,PC V f l r ∧ K ⟨put o.dst r σ.t,σ.b⟩) ∨ (∃ R,SC V f l σ.b R ∧ ∀ r bs,R r bs → K ⟨put o.dst r σ.t,bs⟩)) (Q : Exit → Act → World → Prop) : o.wp V.P a w (fun a w => ∃ σ,K σ ∧ Rel F σ a w) Q := by
  obtain ⟨dst,op,ty,pos,after,guard⟩ := o
  simp only at hfit h hexec
  rcases h with ⟨r,hpc,h⟩ | ⟨R,⟨hent,hsc⟩,h⟩
  · unfold Oper.wp
    rw [hexec hpc.enters β (Agr.refl _ _)]
    show Calls V.P f _ w _
    have hfl := concL_flat _ hpc.fa β bt0
    rw [hfl]
    refine (hpc.calls w hw.env).mono ?_
    rintro e w' ⟨rfl,hb⟩
    exact ⟨_,h,β,fp,hf.put hfit (fun β' _ => conc_flat r hpc.fr bt0 β'),hw.below hb⟩
  · unfold Oper.wp
    rw [hexec hent β (Agr.refl _ _)]
    show Calls V.P f _ w _
    refine (hsc β fp w hw.bx (fun i r hi hm k hk => ?_) hw.env).mono ?_
    · rcases hw.mine i r hi hm k hk with h1 | h1
      · exact Nat.le_trans (V.esize _ F.e0) h1
      · exact F.ownG k h1
    · rintro e w' ⟨r,bs',β₂,fp₂,hR,hβ,hle,hall,hfr,hmine,hfoot⟩
      have he := (hall β₂ (Agr.refl _ _)).1
      subst he
      refine ⟨_,h r bs' hR,β₂,fp₂,(hf.more hle hβ).put hfit (fun β' hβ' => ?_),⟨?_,fun β' hβ' => (hall β' hβ').2,fun i r' hi hm k hk => ?_,?_,fun i r' hi k hk => ?_⟩⟩
      · have := (hall β' hβ').1
        injection this
      · refine ⟨hfr.os.trans hw.fr.os,hfr.tape.trans hw.fr.tape,hfr.output.trans hw.fr.output,Nat.le_trans hw.fr.size hfr.size,fun k hk hn => ?_⟩
        rw [hfr.block k (Nat.lt_of_lt_of_le hk hw.fr.size) (fun ⟨i,r,hi,hm,hk'⟩ => ?_)]
        · exact hw.fr.block k hk hn
        · rcases hw.mine i r hi hm k hk' with h1 | h1
          · omega
          · exact hn h1
      · rcases hmine i r' hi hm k hk with h1 | ⟨j,r0,hj,hm0,hk0⟩
        · exact .inl (Nat.le_trans hw.fr.size h1)
        · exact hw.mine j r0 hj hm0 k hk0
      · have hil := hw.ini.len
        exact ⟨fun i hi => (hw.ini.agr i hi).trans (hβ i (by omega)),Nat.le_trans hil hle⟩
      · rcases hfoot i r' hi k hk with h1 | ⟨j,r0,hj,hk0⟩
        · exact .inl (Nat.le_trans hw.fr.size h1)
        · exact hw.foot j r0 hj k hk0
theorem vcO_sound {dst : Option Tmp} {op : Op} {σ : St} {K : St → Prop} (h : vcO V F.n dst op σ K) {a : Act} {w : World} (hr : Rel F σ a w) (o : Oper) (hd : o.dst = dst) (ho : o.op = op) (Q : Exit → Act → World → Prop) :
    o.wp V.P a w (fun a w => ∃ σ,K σ ∧ Rel F σ a w) Q := by
  obtain ⟨β,fp,hf,hw⟩ := hr
  obtain ⟨hfit,h⟩ := h
  subst hd ho
  split at h
  · rename_i c x hp
    obtain ⟨hc,hK⟩ := h
    refine wp_of_value (pv_ok V.gok (hf.ok β (Agr.refl _ _)) hp hc w) ⟨_,hK,β,fp,hf.put hfit (fun β' hβ => ?_),hw⟩
    have h1 := pv_ok V.gok (hf.ok β (Agr.refl _ _)) hp hc w
    have h2 := pv_ok V.gok (hf.ok β' hβ) hp hc w
    rw [h1] at h2
    injection h2 with h2
    injection h2
  · rename_i hpv
    clear hpv
    obtain ⟨dst,op,ty,pos,after,guard⟩ := o
    simp only at hfit h ⊢
    cases op <;> simp only [vcM] at h
    case alloc T =>
      split at h
      · rename_i ti hT
        have hrun : (execOp a.eval { dst := dst,op := .alloc T,type := ty,pos := pos,after := after,guard := guard }).run V.P w = _ := run_val (run_alloc (V := V) T ti hT w)
        have hfl := (V.gok T ti hT).flat
        refine wp_of_value hrun ⟨_,h,upd β σ.b.length ⟨w.heap.size,0,0⟩,updF fp σ.b.length (· = w.heap.size),?_,hw.alloc ti.zero T _ true (fun β' _ => by rw [hfl β'])⟩
        exact (hf.more (by simp) (upd_agr _ _ _)).put hfit (fun β' hβ => by simp only [conc]; rw [← hβ σ.b.length (by simp),upd_at])
      · cases h
    case box T x =>
      split at h
      · rename_i y hy
        obtain ⟨hv,h⟩ := h
        have hrun : (execOp a.eval { dst := dst,op := .box T x,type := ty,pos := pos,after := after,guard := guard }).run V.P w = _ := run_val (run_box (V := V) T (a.eval x) w)
        refine wp_of_value hrun ⟨_,h,upd β σ.b.length ⟨w.heap.size,0,0⟩,updF fp σ.b.length (· = w.heap.size),?_,hw.alloc (cells y) T _ true (fun β' hβ => ?_)⟩
        · exact (hf.more (by simp) (upd_agr _ _ _)).put hfit (fun β' hβ => by simp only [conc]; rw [← hβ σ.b.length (by simp),upd_at])
        · rw [hf.ev hy hβ.of_upd,conc_cells' β' y hv]
      · cases h
    case load T x =>
      split at h
      · rename_i i off hx
        split at h
        · rename_i c T' m hg
          split at h
          · rename_i ti hT
            obtain ⟨hl,h⟩ := h
            split at h
            · rename_i y hy
              have hrun : ∀ β',Agr σ.b.length β β' → (execOp a.eval { dst := dst,op := .load T x,type := ty,pos := pos,after := after,guard := guard }).run V.P w = Result.ok (.value (conc β' y)) w := fun β' hβ => by
                have := run_load (V := V) T ti hT hy hl (hw.lies hg hβ)
                have hx' := hf.ev hx hβ
                simp only [conc] at hx'
                rw [← hx'] at this
                exact run_val this
              refine wp_of_value (hrun β (Agr.refl _ _)) ⟨_,h,β,fp,hf.put hfit (fun β' hβ => ?_),hw⟩
              have h1 := hrun β (Agr.refl _ _)
              rw [hrun β' hβ] at h1
              injection h1 with h1
              injection h1 with h1
              exact h1.symm
            · cases h
          · cases h
        · cases h
      · cases h
    case store T x y =>
      split at h
      · rename_i i off hx
        split at h
        · rename_i y' hy
          split at h
          · rename_i c T' m hg
            split at h
            · rename_i s hs
              obtain ⟨⟨hm,hone,hlen,hl⟩,h⟩ := h
              subst hm
              have hx' := hf.ev hx (Agr.refl _ β)
              simp only [conc] at hx'
              have hy' := hf.ev hy (Agr.refl _ β)
              obtain ⟨w',hrun,hw'⟩ := run_storeAt hw T s hs hg (y := y') (fun β' hβ => by rw [← hf.ev hy hβ,hy']) hone hlen hl
              rw [← hx',← hy'] at hrun
              have hrun' : (execOp a.eval { dst := dst,op := .store T x y,type := ty,pos := pos,after := after,guard := guard }).run V.P w = Result.ok .skip w' := by
                show Sem.run V.P (do Instr.storeAt T (a.eval x) (a.eval y); pure Next.skip) w = _
                rw [Sem.run_bind,hrun]
                rfl
              refine wp_of_skip hrun' ⟨_,h,β,fp,?_,hw'⟩
              exact (hf.more (by rw [setB_length]; exact Nat.le_refl _) (Agr.refl _ _)).put hfit (fun β' _ => rfl)
            · cases h
          · cases h
        · cases h
      · cases h
    case nilCheck x =>
      split at h
      · rename_i i off hx
        refine wp_of_value (v := a.eval x) (w' := w) ?_ ⟨_,h,β,fp,hf.put hfit (fun β' hβ => hf.ev hx hβ),hw⟩
        simp only [execOp]
        rw [hf.ev hx (Agr.refl _ β)]
        rfl
      · rename_i f l hx
        obtain ⟨hfn,h⟩ := h
        refine wp_of_value (v := a.eval x) (w' := w) ?_ ⟨_,h,β,fp,hf.put hfit (fun β' hβ => hf.ev hx hβ),hw⟩
        simp only [execOp]
        rw [hf.ev hx (Agr.refl _ β)]
        simp only [conc]
        cases f <;> first | rfl | cases hfn
      · rename_i f l hx
        refine wp_of_value (v := a.eval x) (w' := w) ?_ ⟨_,h,β,fp,hf.put hfit (fun β' hβ => hf.ev hx hβ),hw⟩
        simp only [execOp]
        rw [hf.ev hx (Agr.refl _ β)]
        rfl
      · cases h
    case call cl =>
      obtain ⟨callee,args,ts⟩ := cl
      cases callee <;> simp only at h
      case value fo =>
        split at h
        · rename_i f caps hfo
          split at h
          · rename_i l hl
            have hargs : ∀ β',Agr σ.b.length β β' → args.map a.eval = (concL β' l).toArray := fun β' hβ => by
              have := evs_ok hf hl hβ
              rw [← this]
              exact Array.ext' (by simp)
            have hexec : Enters V f → ∀ β',Agr σ.b.length β β' → (execOp a.eval { dst := dst,op := .call ⟨.value fo,args,ts⟩,type := ty,pos := pos,after := after,guard := guard }).run V.P w = Result.ok (.enter f (concL β' (l ++ caps)).toArray) w := fun he β' hβ => by
              have h1 := hf.ev hfo hβ
              have h2 := hargs β' hβ
              show Sem.run V.P (do let d ← resolve a.eval ⟨.value fo,args,ts⟩ ty; invoke d.target d.args) w = _
              simp only [resolve,h1,h2,conc,Deferred.ofValue,Sem.run_bind,Sem.run_pure,Result.andThen_ok,invoke]
              simp [concL_map]
              exact he _ _
            exact call_wp hf hw _ hfit hexec h Q
          · cases h
        · rename_i f first hfo
          split at h
          · rename_i l hl
            have hargs : ∀ β',Agr σ.b.length β β' → args.map a.eval = (concL β' l).toArray := fun β' hβ => by
              have := evs_ok hf hl hβ
              rw [← this]
              exact Array.ext' (by simp)
            have hexec : Enters V f → ∀ β',Agr σ.b.length β β' → (execOp a.eval { dst := dst,op := .call ⟨.value fo,args,ts⟩,type := ty,pos := pos,after := after,guard := guard }).run V.P w = Result.ok (.enter f (concL β' (first ++ l)).toArray) w := fun he β' hβ => by
              have h1 := hf.ev hfo hβ
              have h2 := hargs β' hβ
              show Sem.run V.P (do let d ← resolve a.eval ⟨.value fo,args,ts⟩ ty; invoke d.target d.args) w = _
              simp only [resolve,h1,h2,conc,Deferred.ofValue,Sem.run_bind,Sem.run_pure,Result.andThen_ok,invoke]
              simp [concL_map]
              exact he _ _
            exact call_wp hf hw _ hfit hexec h Q
          · cases h
        · cases h
      case invoke rc name =>
        split at h
        · rename_i T x hx
          split at h
          · rename_i f hM
            split at h
            · rename_i l hl
              have hargs : ∀ β',Agr σ.b.length β β' → args.map a.eval = (concL β' l).toArray := fun β' hβ => by
                have := evs_ok hf hl hβ
                rw [← this]
                exact Array.ext' (by simp)
              have hexec : Enters V f → ∀ β',Agr σ.b.length β β' → (execOp a.eval { dst := dst,op := .call ⟨.invoke rc name,args,ts⟩,type := ty,pos := pos,after := after,guard := guard }).run V.P w = Result.ok (.enter f (concL β' (x :: l)).toArray) w := fun he β' hβ => by
                have h1 := hf.ev hx hβ
                have h2 := hargs β' hβ
                show Sem.run V.P (do let d ← resolve a.eval ⟨.invoke rc name,args,ts⟩ ty; invoke d.target d.args) w = _
                simp only [resolve,h1,h2,conc,Sem.run_bind,Sem.run_pure,Result.andThen_ok,invoke]
                have e0 : (#[Value.iface T (conc β' x)] ++ (concL β' l).toArray)[0]? = some (Value.iface T (conc β' x)) := by simp
                have e1 : (#[Value.iface T (conc β' x)] ++ (concL β' l).toArray).extract 1 (#[Value.iface T (conc β' x)] ++ (concL β' l).toArray).size = (concL β' l).toArray := by simp
                rw [e0]
                simp only [e1]
                rw [V.mok T name f hM,show #[conc β' x] ++ (concL β' l).toArray = (concL β' (x :: l)).toArray by simp [concL]]
                exact he _ _
              exact call_wp hf hw _ hfit hexec h Q
            · cases h
          · cases h
        · cases h
    case build T ps =>
      split at h
      · rename_i ti hT
        split at h
        · rename_i fs hk
          split at h
          · rename_i l hl
            split at h
            · rename_i c hc
              have hrun := fun β' (hβ : Agr σ.b.length β β') => run_build (w := w) hf hT hk hl hc hβ dst ty pos after guard
              refine wp_of_value (hrun β (Agr.refl _ _)) ⟨_,h,β,fp,hf.put hfit (fun β' hβ => ?_),hw⟩
              have h1 := hrun β (Agr.refl _ _)
              rw [hrun β' hβ] at h1
              injection h1 with h1
              injection h1 with h1
              exact h1.symm
            · cases h
          · cases h
        · cases h
      · cases h
end
end Vc
namespace Vc
open Go Go.RowKit Wf
theorem least {p : Nat → Prop} (h : ∃ n,p n) : ∃ n,p n ∧ ∀ k,p k → n ≤ k := by
  obtain ⟨n,hn⟩ := h
  induction n using Nat.strongRecOn with
  | _ n ih =>
    by_cases h : ∃ k,k < n ∧ p k
    · obtain ⟨k,hk,hp⟩ := h
      exact ih k hk hp
    · exact ⟨n,hn,fun k hk => Nat.le_of_not_lt fun hlt => h ⟨k,hlt,hk⟩⟩
section
variable {V : Cx} {F : Fx V}
theorem gval_ok {ops : Array Oper} {σt : List (Nat × SV)} {β : Nat → Bt} {a : Act} (hf : FrOK β F.n σt a) {j d : Nat} {b : Bool} (h : gval (ops.toList.map (·.dst)) σt j = some (d,b)) :
    yielded ops a.tmps j = some b ∧ a.tmps.getD d undef = .bool b := by
  unfold gval at h
  split at h
  · rename_i d' hd
    split at h
    · rename_i b' hb
      cases h
      have hg := hf.get _ _ hb
      simp only [conc] at hg
      refine ⟨?_,hg⟩
      have hd' : (ops[j]?).bind (·.dst) = some d := by
        simp only [List.getElem?_map,Option.map_eq_some_iff] at hd
        obtain ⟨o,ho,hod⟩ := hd
        rw [show ops[j]? = some o by simpa using ho]
        simpa using hod
      have hlt : d < a.tmps.size := by
        rcases Nat.lt_or_ge d a.tmps.size with h' | h'
        · exact h'
        · simp [h'] at hg; cases hg
      unfold yielded
      rw [hd']
      simp [hlt] at hg ⊢
      rw [hg]
    · cases h
  · cases h
theorem Fm.relit {β : Nat → Bt} {m : Nat} {t : List (Nat × SV)} {a : Act} (h : Fm F β m t a) {d : Nat} {x : SV} (hx : ∀ β',Agr m β β' → a.tmps.getD d undef = conc β' x) : Fm F β m ((d,x) :: t) a :=
  ⟨fun β' hβ => ⟨(h.ok β' hβ).size,(h.ok β' hβ).defers,fun e y hy => by
    simp only [lk] at hy
    split at hy
    · rename_i he; subst he; cases hy; exact hx β' hβ
    · exact (h.ok β' hβ).get e y hy⟩⟩
def resS (V : Cx) (σ : St) : ResultVar → Option SV
  | .tmp t => lk t σ.t
  | .cell p T => match lk p σ.t with
    | some (.p i off) => match getB σ.b i with
      | some (c,_,_) => match V.Γ T with
        | some ti => if off + ti.size ≤ c.length then XM ti.agg off ti.size c else none
        | none => none
      | none => none
    | _ => none
def XT (V : Cx) (σ : St) : List ResultVar → Option (List SV)
  | [] => some []
  | r :: rs => match resS V σ r with
    | some x => match XT V σ rs with
      | some l => some (x :: l)
      | none => none
    | none => none
def tupS : List SV → SV
  | [x] => x
  | l => .tup l
def kret (V : Cx) (rs : List ResultVar) (K : SV → List Res → Prop) : Exit → St → Prop
  | .ret,σ => match XT V σ rs with
    | some l => K (tupS l) σ.b
    | none => False
  | .normal,σ => match XT V σ rs with
    | some l => K (tupS l) σ.b
    | none => False
  | _,_ => False
def resRun (tmps : Array Value) : ResultVar → Sem Value
  | .tmp t => pure (tmps.getD t undef)
  | .cell p t => do loadVar t (← asAddr (tmps.getD p undef))
theorem resS_ok {σ : St} {r : ResultVar} {x : SV} (h : resS V σ r = some x) {β : Nat → Bt} {fp : Nat → Nat → Prop} {a : Act} {w : World} (hf : Fm F β σ.b.length σ.t a) (hw : Wd F β fp σ.b w) {β' : Nat → Bt} (hβ : Agr σ.b.length β β') :
    Sem.run V.P (resRun a.tmps r) w = Result.ok (conc β' x) w := by
  cases r with
  | tmp t => simp only [resS] at h; simp only [resRun]; rw [(hf.ok β' hβ).get t x h]; rfl
  | cell p T =>
    simp only [resS] at h
    split at h
    · rename_i i off hp
      split at h
      · rename_i c T' m hg
        split at h
        · rename_i ti hT
          split at h
          · rename_i hl
            have := run_load (V := V) T ti hT h hl (hw.lies hg hβ)
            simp only [resRun]
            rw [(hf.ok β' hβ).get p _ hp]
            simpa [conc,asAddr,Instr.loadAt,Instr.sureAddr] using this
          · cases h
        · cases h
      · cases h
    · cases h
theorem ressS_ok {σ : St} {β : Nat → Bt} {fp : Nat → Nat → Prop} {a : Act} {w : World} (hf : Fm F β σ.b.length σ.t a) (hw : Wd F β fp σ.b w) {β' : Nat → Bt} (hβ : Agr σ.b.length β β') :
    ∀ (rs : List ResultVar) (l : List SV),XT V σ rs = some l → (rs.mapM (resRun a.tmps)).run V.P w = Result.ok (concL β' l) w
  | [],l,h => by simp [XT] at h; subst h; simp [concL]
  | r :: rs,l,h => by
    simp only [XT] at h
    split at h
    · rename_i x hx
      split at h
      · rename_i l' hl
        cases h
        rw [List.mapM_cons,Sem.run_bind,resS_ok hx hf hw hβ,Result.andThen_ok,Sem.run_bind,ressS_ok hf hw hβ rs l' hl]
        rfl
      · cases h
    · cases h
theorem results_ok {fn : Func} {σ : St} {β : Nat → Bt} {fp : Nat → Nat → Prop} {a : Act} {w : World} (hf : Fm F β σ.b.length σ.t a) (hw : Wd F β fp σ.b w) {β' : Nat → Bt} (hβ : Agr σ.b.length β β') {l : List SV} (h : XT V σ fn.results.toList = some l) :
    (results fn a.tmps).run V.P w = Result.ok (conc β' (tupS l)) w := by
  have := ressS_ok hf hw hβ fn.results.toList l h
  show Sem.run V.P (do
    let vs ← fn.results.mapM (resRun a.tmps)
    pure (if h : vs.size = 1 then vs[0] else .tuple vs)) w = _
  rw [Sem.run_bind,Array.mapM_eq_mapM_toList,Sem.run_map,this]
  simp only [Result.andThen_ok,Sem.run_pure]
  congr 1
  match l with
  | [] => simp [concL,tupS,conc]
  | [x] => simp [concL,tupS]
  | x :: y :: r => simp [concL,tupS,conc]
def Yj : Nat → List SV → List (Nat × SV)
  | _,[] => []
  | i,x :: r => (i,x) :: Yj (i + 1) r
theorem initT_ok (β : Nat → Bt) : ∀ (xs0 : List SV) (i d : Nat) (x : SV),lk d (Yj i xs0) = some x → i ≤ d ∧ (concL β xs0)[d - i]? = some (conc β x)
  | [],i,d,x,h => by simp [Yj,lk] at h
  | y :: r,i,d,x,h => by
    simp only [Yj,lk] at h
    split at h
    · rename_i e; subst e; cases h; simp [concL]
    · have := initT_ok β r (i + 1) d x h
      refine ⟨by omega,?_⟩
      rw [show d - i = (d - (i + 1)) + 1 by omega]
      simpa [concL] using this.2
theorem concL_length (β : Nat → Bt) (l : List SV) : (concL β l).length = l.length := by rw [concL_map]; simp
def within (m : Nat) : SV → Bool
  | .p i _ => decide (i < m)
  | .o i _ => decide (i < m)
  | .f i _ => decide (i < m)
  | .agg l => withinL l
  | .tup l => withinL l
  | .fn _ l => withinL l
  | .mv _ l => withinL l
  | .ifc _ x => within m x
  | _ => true
where withinL : List SV → Bool
  | [] => true
  | x :: r => within m x && withinL r
mutual
theorem conc_within (m : Nat) (x : SV) (h : within m x = true) (β β' : Nat → Bt) (hb : Agr m β β') : conc β x = conc β' x := by
  cases x <;> simp only [within,decide_eq_true_eq] at h <;> simp only [conc]
  · rw [hb _ h]
  · rw [hb _ h]
  · rw [hb _ h]
  · rw [concL_within m _ h β β' hb]
  · rw [concL_within m _ h β β' hb]
  · rw [concL_within m _ h β β' hb]
  · rw [concL_within m _ h β β' hb]
  · rw [conc_within m _ h β β' hb]
theorem concL_within (m : Nat) (l : List SV) (h : within.withinL m l = true) (β β' : Nat → Bt) (hb : Agr m β β') : concL β l = concL β' l := by
  cases l with
  | nil => rfl
  | cons x r =>
    simp only [within.withinL,Bool.and_eq_true] at h
    simp only [concL]
    rw [conc_within m x h.1 β β' hb,concL_within m r h.2 β β' hb]
end
theorem sc_core {V : Cx} {f : FuncId} {fn : Func} {c : Code} {args : List SV} {bs : List Res} {R : SV → List Res → Prop} {n : Nat} {rs : Array ResultVar} (hf : V.P.funcs[f]? = some fn) (hb : fn.body = some c) (hn : fn.ntmps = n) (hr : fn.results = rs) (hent : Enters V f)
    (hlen : args.length ≤ n) (hsc : ∀ β β',Agr bs.length β β' → concL β args = concL β' args) (h : ∀ F : Fx V,F.n = n → ∀ a w,Rel F ⟨Yj 0 args,bs⟩ a w → c.wp V.P (Qof F (kret V rs.toList R)) a w) : SC V f args bs R := by
  subst hn hr
  refine ⟨hent,fun β fp w hbx hG hE => ?_⟩
  let F : Fx V := ⟨fn.ntmps,w,fun k => ∃ i r,bs[i]? = some r ∧ r.mine = true ∧ fp i k,hE,fun k ⟨i,r,hi,hm,hk⟩ => hG i r hi hm k hk,β,bs,fun k => ∃ i r,bs[i]? = some r ∧ fp i k⟩
  refine calls_of_wp hf hb ?_
  have hrel : Rel F ⟨Yj 0 args,bs⟩ { tmps := (concL β args).toArray ++ Array.replicate (fn.ntmps - (concL β args).toArray.size) undef,defers := [] } w := by
    refine ⟨β,fp,⟨fun β' hβ => ⟨by simp [concL_length,F]; omega,rfl,fun d x hd => ?_⟩⟩,⟨FrW.refl _ _,hbx,fun i r hi hm k hk => .inr ⟨i,r,hi,hm,hk⟩,⟨Agr.refl _ _,Nat.le_refl _⟩,fun i r hi k hk => .inr ⟨i,r,hi,hk⟩⟩⟩
    have h1 := (initT_ok β' args 0 d x hd).2
    rw [Nat.sub_zero] at h1
    rw [hsc β β' hβ]
    have hlt : d < (concL β' args).length := (List.getElem?_eq_some_iff.1 h1).1
    have h2 : ((concL β' args).toArray ++ Array.replicate (fn.ntmps - (concL β' args).toArray.size) undef)[d]? = some (conc β' x) := by
      rw [Array.getElem?_append_left (by simpa using hlt)]
      simpa using h1
    rw [Array.getD_eq_getD_getElem?,h2]
    rfl
  refine wp_mono (h F rfl _ w hrel) ?_
  rintro e a w' ⟨σ,hk,β₂,fp₂,hfm,hwd⟩
  have key : ∀ l,XT V σ fn.results.toList = some l → R (tupS l) σ.b → a.defers = [] ∧ ∃ v,(results fn a.tmps).run V.P w' = Result.ok v w' ∧ (∃ r bs' β₂ fp₂,R r bs' ∧ Agr bs.length β β₂ ∧ bs.length ≤ bs'.length ∧ (∀ β',Agr bs'.length β₂ β' → Ending.returned v = .returned (conc β' r) ∧ BxOK β' fp₂ w' bs') ∧
      FrW (fun k => ∃ i r,bs[i]? = some r ∧ r.mine = true ∧ fp i k) w w' ∧
      (∀ i r',bs'[i]? = some r' → r'.mine = true → ∀ k,fp₂ i k → w.heap.size ≤ k ∨ ∃ j r,bs[j]? = some r ∧ r.mine = true ∧ fp j k) ∧
      (∀ i r',bs'[i]? = some r' → ∀ k,fp₂ i k → w.heap.size ≤ k ∨ ∃ j r,bs[j]? = some r ∧ fp j k)) := by
    intro l hl hR
    refine ⟨(hfm.ok β₂ (Agr.refl _ _)).defers,_,results_ok hfm hwd (Agr.refl _ β₂) hl,tupS l,σ.b,β₂,fp₂,hR,hwd.ini.agr,hwd.ini.len,fun β' hβ => ⟨?_,hwd.bx β' hβ⟩,hwd.fr,hwd.mine,hwd.foot⟩
    have h1 := results_ok hfm hwd (Agr.refl _ β₂) hl
    rw [results_ok hfm hwd hβ hl] at h1
    injection h1 with h1
    rw [h1]
  cases e <;> simp only [kret] at hk
  case normal =>
    split at hk
    · rename_i l hl; exact key l hl hk
    · cases hk
  case ret =>
    split at hk
    · rename_i l hl; exact key l hl hk
    · cases hk
theorem pc_of_sc {V : Cx} {f : FuncId} {args : List SV} {r : SV} (fa : flat.flatL args = true) (fr : flat r = true) (h : SC V f args [] fun r' _ => r' = r) : PC V f args r := by
  refine ⟨h.1,fa,fr,fun w hE => ?_⟩
  refine (h.2 bt0 (fun _ _ => False) w (fun β' _ => ⟨by simp,by simp,by simp⟩) (by simp) hE).mono ?_
  rintro e w' ⟨r',bs',β₂,fp₂,rfl,-,-,hall,hfr,-⟩
  refine ⟨?_,?_⟩
  · rw [(hall β₂ (Agr.refl _ _)).1,conc_flat r' fr β₂ bt0]
  · exact ⟨hfr.os,hfr.tape,hfr.output,hfr.size,fun k hk => hfr.block k hk (by simp)⟩
end
end Vc
/- The types of this program,for the calculus of conditions. -/
set_option linter.all false
namespace Go.Proofs
open Go Vc
set_option maxRecDepth 100000
set_option linter.unusedSimpArgs false
theorem Tryz.ty1 : Vc.TyOK Tryz.prog 1 ⟨1,8,false,[.v .nilFunc],.other,false⟩ := ⟨Tryz.sizeOf1,Tryz.isAgg1,fun w => ⟨_,Tryz.zeroValue1 w,by simp [Vc.conc,Value.cells]⟩,fun _ => by simp [Vc.conc],rfl,⟨_,Tryz.underlying1,trivial⟩,(fun _ h => (by cases h)),(fun h => (by cases h)),⟨Tryz.t1,_,by kernel_rfl,rfl,rfl,rfl,by simp [Vc.conc,Value.cells]⟩⟩
theorem Tryz.ty2 : Vc.TyOK Tryz.prog 2 ⟨1,8,false,[.int .i64 0],.int .i64,false⟩ := ⟨Tryz.sizeOf2,Tryz.isAgg2,fun w => ⟨_,Tryz.zeroValue2 w,by simp [Vc.conc,Value.cells]⟩,fun _ => by simp [Vc.conc],rfl,⟨_,Tryz.underlying2,rfl⟩,(fun _ h => (by cases h)),(fun h => (by cases h)),⟨Tryz.t2,_,by kernel_rfl,rfl,rfl,rfl,by simp [Vc.conc,Value.cells]⟩⟩
theorem Tryz.ty3 : Vc.TyOK Tryz.prog 3 ⟨1,8,false,[.int .i64 0],.int .i64,false⟩ := ⟨Tryz.sizeOf3,Tryz.isAgg3,fun w => ⟨_,Tryz.zeroValue3 w,by simp [Vc.conc,Value.cells]⟩,fun _ => by simp [Vc.conc],rfl,⟨_,Tryz.underlying3,rfl⟩,(fun _ h => (by cases h)),(fun h => (by cases h)),⟨Tryz.t3,_,by kernel_rfl,rfl,rfl,rfl,by simp [Vc.conc,Value.cells]⟩⟩
theorem Tryz.ty4 : Vc.TyOK Tryz.prog 4 ⟨1,1,false,[.bool false],.bool,false⟩ := ⟨Tryz.sizeOf4,Tryz.isAgg4,fun w => ⟨_,Tryz.zeroValue4 w,by simp [Vc.conc,Value.cells]⟩,fun _ => by simp [Vc.conc],rfl,⟨_,Tryz.underlying4,rfl⟩,(fun _ h => (by cases h)),(fun h => (by cases h)),⟨Tryz.t4,_,by kernel_rfl,rfl,rfl,rfl,by simp [Vc.conc,Value.cells]⟩⟩
theorem Tryz.ty5 : Vc.TyOK Tryz.prog 5 ⟨1,1,false,[.int .u8 0],.int .u8,false⟩ := ⟨Tryz.sizeOf5,Tryz.isAgg5,fun w => ⟨_,Tryz.zeroValue5 w,by simp [Vc.conc,Value.cells]⟩,fun _ => by simp [Vc.conc],rfl,⟨_,Tryz.underlying5,rfl⟩,(fun _ h => (by cases h)),(fun h => (by cases h)),⟨Tryz.t5,_,by kernel_rfl,rfl,rfl,rfl,by simp [Vc.conc,Value.cells]⟩⟩
theorem Tryz.ty6 : Vc.TyOK Tryz.prog 6 ⟨1,1,false,[.int .u8 0],.int .u8,false⟩ := ⟨Tryz.sizeOf6,Tryz.isAgg6,fun w => ⟨_,Tryz.zeroValue6 w,by simp [Vc.conc,Value.cells]⟩,fun _ => by simp [Vc.conc],rfl,⟨_,Tryz.underlying6,rfl⟩,(fun _ h => (by cases h)),(fun h => (by cases h)),⟨Tryz.t6,_,by kernel_rfl,rfl,rfl,rfl,by simp [Vc.conc,Value.cells]⟩⟩
theorem Tryz.ty7 : Vc.TyOK Tryz.prog 7 ⟨4,24,true,[.int .i64 0,.int .i64 0,.bool false,.int .u8 0],.struct [(0,2),(1,3),(2,4),(3,6)],false⟩ := ⟨Tryz.sizeOf7,Tryz.isAgg7,fun w => ⟨_,Tryz.zeroValue7 w,by simp [Vc.conc,Value.cells]⟩,fun _ => by simp [Vc.conc],rfl,⟨_,Tryz.underlying7,⟨_,rfl,rfl⟩⟩,(fun fs h f hf => by cases h; simp only [List.mem_cons,List.not_mem_nil,or_false] at hf; rcases hf with rfl | rfl | rfl | rfl <;> first | exact ⟨_,Tryz.sizeOf2⟩ | exact ⟨_,Tryz.sizeOf3⟩ | exact ⟨_,Tryz.sizeOf4⟩ | exact ⟨_,Tryz.sizeOf6⟩),(fun h => (by cases h)),⟨Tryz.t7,_,by kernel_rfl,rfl,rfl,rfl,by simp [Vc.conc,Value.cells]⟩⟩
theorem Tryz.ty8 : Vc.TyOK Tryz.prog 8 ⟨4,24,true,[.int .i64 0,.int .i64 0,.bool false,.int .u8 0],.struct [(0,2),(1,3),(2,4),(3,6)],false⟩ := ⟨Tryz.sizeOf8,Tryz.isAgg8,fun w => ⟨_,Tryz.zeroValue8 w,by simp [Vc.conc,Value.cells]⟩,fun _ => by simp [Vc.conc],rfl,⟨_,Tryz.underlying8,⟨_,rfl,rfl⟩⟩,(fun fs h f hf => by cases h; simp only [List.mem_cons,List.not_mem_nil,or_false] at hf; rcases hf with rfl | rfl | rfl | rfl <;> first | exact ⟨_,Tryz.sizeOf2⟩ | exact ⟨_,Tryz.sizeOf3⟩ | exact ⟨_,Tryz.sizeOf4⟩ | exact ⟨_,Tryz.sizeOf6⟩),(fun h => (by cases h)),⟨Tryz.t8,_,by kernel_rfl,rfl,rfl,rfl,by simp [Vc.conc,Value.cells]⟩⟩
theorem Tryz.ty9 : Vc.TyOK Tryz.prog 9 ⟨1,16,false,[.str []],.str,false⟩ := ⟨Tryz.sizeOf9,Tryz.isAgg9,fun w => ⟨_,Tryz.zeroValue9 w,by simp [Vc.conc,Value.cells]⟩,fun _ => by simp [Vc.conc],rfl,⟨_,Tryz.underlying9,rfl⟩,(fun _ h => (by cases h)),(fun h => (by cases h)),⟨Tryz.t9,_,by kernel_rfl,rfl,rfl,rfl,by simp [Vc.conc,Value.cells]⟩⟩
theorem Tryz.ty10 : Vc.TyOK Tryz.prog 10 ⟨1,16,false,[.str []],.str,false⟩ := ⟨Tryz.sizeOf10,Tryz.isAgg10,fun w => ⟨_,Tryz.zeroValue10 w,by simp [Vc.conc,Value.cells]⟩,fun _ => by simp [Vc.conc],rfl,⟨_,Tryz.underlying10,rfl⟩,(fun _ h => (by cases h)),(fun h => (by cases h)),⟨Tryz.t10,_,by kernel_rfl,rfl,rfl,rfl,by simp [Vc.conc,Value.cells]⟩⟩
theorem Tryz.ty11 : Vc.TyOK Tryz.prog 11 ⟨1,16,false,[.str []],.str,false⟩ := ⟨Tryz.sizeOf11,Tryz.isAgg11,fun w => ⟨_,Tryz.zeroValue11 w,by simp [Vc.conc,Value.cells]⟩,fun _ => by simp [Vc.conc],rfl,⟨_,Tryz.underlying11,rfl⟩,(fun _ h => (by cases h)),(fun h => (by cases h)),⟨Tryz.t11,_,by kernel_rfl,rfl,rfl,rfl,by simp [Vc.conc,Value.cells]⟩⟩
theorem Tryz.ty12 : Vc.TyOK Tryz.prog 12 ⟨1,8,false,[.int .u64 0],.int .u64,false⟩ := ⟨Tryz.sizeOf12,Tryz.isAgg12,fun w => ⟨_,Tryz.zeroValue12 w,by simp [Vc.conc,Value.cells]⟩,fun _ => by simp [Vc.conc],rfl,⟨_,Tryz.underlying12,rfl⟩,(fun _ h => (by cases h)),(fun h => (by cases h)),⟨Tryz.t12,_,by kernel_rfl,rfl,rfl,rfl,by simp [Vc.conc,Value.cells]⟩⟩
theorem Tryz.ty13 : Vc.TyOK Tryz.prog 13 ⟨2,24,true,[.str [],.int .u64 0],.struct [(0,9),(1,12)],false⟩ := ⟨Tryz.sizeOf13,Tryz.isAgg13,fun w => ⟨_,Tryz.zeroValue13 w,by simp [Vc.conc,Value.cells]⟩,fun _ => by simp [Vc.conc],rfl,⟨_,Tryz.underlying13,⟨_,rfl,rfl⟩⟩,(fun fs h f hf => by cases h; simp only [List.mem_cons,List.not_mem_nil,or_false] at hf; rcases hf with rfl | rfl <;> first | exact ⟨_,Tryz.sizeOf9⟩ | exact ⟨_,Tryz.sizeOf12⟩),(fun h => (by cases h)),⟨Tryz.t13,_,by kernel_rfl,rfl,rfl,rfl,by simp [Vc.conc,Value.cells]⟩⟩
theorem Tryz.ty14 : Vc.TyOK Tryz.prog 14 ⟨2,24,true,[.str [],.int .u64 0],.struct [(0,9),(1,12)],false⟩ := ⟨Tryz.sizeOf14,Tryz.isAgg14,fun w => ⟨_,Tryz.zeroValue14 w,by simp [Vc.conc,Value.cells]⟩,fun _ => by simp [Vc.conc],rfl,⟨_,Tryz.underlying14,⟨_,rfl,rfl⟩⟩,(fun fs h f hf => by cases h; simp only [List.mem_cons,List.not_mem_nil,or_false] at hf; rcases hf with rfl | rfl <;> first | exact ⟨_,Tryz.sizeOf9⟩ | exact ⟨_,Tryz.sizeOf12⟩),(fun h => (by cases h)),⟨Tryz.t14,_,by kernel_rfl,rfl,rfl,rfl,by simp [Vc.conc,Value.cells]⟩⟩
theorem Tryz.ty15 : Vc.TyOK Tryz.prog 15 ⟨1,8,false,[.v (.pointer none)],.ptr 163,false⟩ := ⟨Tryz.sizeOf15,Tryz.isAgg15,fun w => ⟨_,Tryz.zeroValue15 w,by simp [Vc.conc,Value.cells]⟩,fun _ => by simp [Vc.conc],rfl,⟨_,Tryz.underlying15,rfl⟩,(fun _ h => (by cases h)),(fun h => (by cases h)),⟨Tryz.t15,_,by kernel_rfl,rfl,rfl,rfl,by simp [Vc.conc,Value.cells]⟩⟩
theorem Tryz.ty16 : Vc.TyOK Tryz.prog 16 ⟨1,8,false,[.v (.pointer none)],.ptr 166,false⟩ := ⟨Tryz.sizeOf16,Tryz.isAgg16,fun w => ⟨_,Tryz.zeroValue16 w,by simp [Vc.conc,Value.cells]⟩,fun _ => by simp [Vc.conc],rfl,⟨_,Tryz.underlying16,rfl⟩,(fun _ h => (by cases h)),(fun h => (by cases h)),⟨Tryz.t16,_,by kernel_rfl,rfl,rfl,rfl,by simp [Vc.conc,Value.cells]⟩⟩
theorem Tryz.ty17 : Vc.TyOK Tryz.prog 17 ⟨1,8,false,[.v (.pointer none)],.ptr 174,false⟩ := ⟨Tryz.sizeOf17,Tryz.isAgg17,fun w => ⟨_,Tryz.zeroValue17 w,by simp [Vc.conc,Value.cells]⟩,fun _ => by simp [Vc.conc],rfl,⟨_,Tryz.underlying17,rfl⟩,(fun _ h => (by cases h)),(fun h => (by cases h)),⟨Tryz.t17,_,by kernel_rfl,rfl,rfl,rfl,by simp [Vc.conc,Value.cells]⟩⟩
theorem Tryz.ty18 : Vc.TyOK Tryz.prog 18 ⟨1,8,true,[.v (.pointer none)],.struct [(0,17)],false⟩ := ⟨Tryz.sizeOf18,Tryz.isAgg18,fun w => ⟨_,Tryz.zeroValue18 w,by simp [Vc.conc,Value.cells]⟩,fun _ => by simp [Vc.conc],rfl,⟨_,Tryz.underlying18,⟨_,rfl,rfl⟩⟩,(fun fs h f hf => by cases h; simp only [List.mem_cons,List.not_mem_nil,or_false] at hf; rcases hf with rfl <;> first | exact ⟨_,Tryz.sizeOf17⟩),(fun h => (by cases h)),⟨Tryz.t18,_,by kernel_rfl,rfl,rfl,rfl,by simp [Vc.conc,Value.cells]⟩⟩
theorem Tryz.ty19 : Vc.TyOK Tryz.prog 19 ⟨1,8,true,[.v (.pointer none)],.struct [(0,17)],false⟩ := ⟨Tryz.sizeOf19,Tryz.isAgg19,fun w => ⟨_,Tryz.zeroValue19 w,by simp [Vc.conc,Value.cells]⟩,fun _ => by simp [Vc.conc],rfl,⟨_,Tryz.underlying19,⟨_,rfl,rfl⟩⟩,(fun fs h f hf => by cases h; simp only [List.mem_cons,List.not_mem_nil,or_false] at hf; rcases hf with rfl <;> first | exact ⟨_,Tryz.sizeOf17⟩),(fun h => (by cases h)),⟨Tryz.t19,_,by kernel_rfl,rfl,rfl,rfl,by simp [Vc.conc,Value.cells]⟩⟩
theorem Tryz.ty20 : Vc.TyOK Tryz.prog 20 ⟨1,16,false,[.v .nilIface],.other,false⟩ := ⟨Tryz.sizeOf20,Tryz.isAgg20,fun w => ⟨_,Tryz.zeroValue20 w,by simp [Vc.conc,Value.cells]⟩,fun _ => by simp [Vc.conc],rfl,⟨_,Tryz.underlying20,trivial⟩,(fun _ h => (by cases h)),(fun h => (by cases h)),⟨Tryz.t20,_,by kernel_rfl,rfl,rfl,rfl,by simp [Vc.conc,Value.cells]⟩⟩
theorem Tryz.ty21 : Vc.TyOK Tryz.prog 21 ⟨1,4,false,[.int .i32 0],.int .i32,false⟩ := ⟨Tryz.sizeOf21,Tryz.isAgg21,fun w => ⟨_,Tryz.zeroValue21 w,by simp [Vc.conc,Value.cells]⟩,fun _ => by simp [Vc.conc],rfl,⟨_,Tryz.underlying21,rfl⟩,(fun _ h => (by cases h)),(fun h => (by cases h)),⟨Tryz.t21,_,by kernel_rfl,rfl,rfl,rfl,by simp [Vc.conc,Value.cells]⟩⟩
theorem Tryz.ty22 : Vc.TyOK Tryz.prog 22 ⟨1,24,false,[.nils],.slice 9,false⟩ := ⟨Tryz.sizeOf22,Tryz.isAgg22,fun w => ⟨_,Tryz.zeroValue22 w,by simp [Vc.conc,Value.cells]⟩,fun _ => by simp [Vc.conc],rfl,⟨_,Tryz.underlying22,rfl⟩,(fun _ h => (by cases h)),(fun h => (by cases h)),⟨Tryz.t22,_,by kernel_rfl,rfl,rfl,rfl,by simp [Vc.conc,Value.cells]⟩⟩
theorem Tryz.ty23 : Vc.TyOK Tryz.prog 23 ⟨1,24,false,[.nils],.slice 25,false⟩ := ⟨Tryz.sizeOf23,Tryz.isAgg23,fun w => ⟨_,Tryz.zeroValue23 w,by simp [Vc.conc,Value.cells]⟩,fun _ => by simp [Vc.conc],rfl,⟨_,Tryz.underlying23,rfl⟩,(fun _ h => (by cases h)),(fun h => (by cases h)),⟨Tryz.t23,_,by kernel_rfl,rfl,rfl,rfl,by simp [Vc.conc,Value.cells]⟩⟩
theorem Tryz.ty24 : Vc.TyOK Tryz.prog 24 ⟨4,72,true,[.int .i64 0,.str [],.nils,.nils],.struct [(0,3),(1,9),(2,22),(3,23)],false⟩ := ⟨Tryz.sizeOf24,Tryz.isAgg24,fun w => ⟨_,Tryz.zeroValue24 w,by simp [Vc.conc,Value.cells]⟩,fun _ => by simp [Vc.conc],rfl,⟨_,Tryz.underlying24,⟨_,rfl,rfl⟩⟩,(fun fs h f hf => by cases h; simp only [List.mem_cons,List.not_mem_nil,or_false] at hf; rcases hf with rfl | rfl | rfl | rfl <;> first | exact ⟨_,Tryz.sizeOf3⟩ | exact ⟨_,Tryz.sizeOf9⟩ | exact ⟨_,Tryz.sizeOf22⟩ | exact ⟨_,Tryz.sizeOf23⟩),(fun h => (by cases h)),⟨Tryz.t24,_,by kernel_rfl,rfl,rfl,rfl,by simp [Vc.conc,Value.cells]⟩⟩
theorem Tryz.ty25 : Vc.TyOK Tryz.prog 25 ⟨4,72,true,[.int .i64 0,.str [],.nils,.nils],.struct [(0,3),(1,9),(2,22),(3,23)],false⟩ := ⟨Tryz.sizeOf25,Tryz.isAgg25,fun w => ⟨_,Tryz.zeroValue25 w,by simp [Vc.conc,Value.cells]⟩,fun _ => by simp [Vc.conc],rfl,⟨_,Tryz.underlying25,⟨_,rfl,rfl⟩⟩,(fun fs h f hf => by cases h; simp only [List.mem_cons,List.not_mem_nil,or_false] at hf; rcases hf with rfl | rfl | rfl | rfl <;> first | exact ⟨_,Tryz.sizeOf3⟩ | exact ⟨_,Tryz.sizeOf9⟩ | exact ⟨_,Tryz.sizeOf22⟩ | exact ⟨_,Tryz.sizeOf23⟩),(fun h => (by cases h)),⟨Tryz.t25,_,by kernel_rfl,rfl,rfl,rfl,by simp [Vc.conc,Value.cells]⟩⟩
theorem Tryz.ty26 : Vc.TyOK Tryz.prog 26 ⟨1,8,false,[.v .nilFunc],.other,false⟩ := ⟨Tryz.sizeOf26,Tryz.isAgg26,fun w => ⟨_,Tryz.zeroValue26 w,by simp [Vc.conc,Value.cells]⟩,fun _ => by simp [Vc.conc],rfl,⟨_,Tryz.underlying26,trivial⟩,(fun _ h => (by cases h)),(fun h => (by cases h)),⟨Tryz.t26,_,by kernel_rfl,rfl,rfl,rfl,by simp [Vc.conc,Value.cells]⟩⟩
theorem Tryz.ty27 : Vc.TyOK Tryz.prog 27 ⟨1,8,false,[.v .nilFunc],.other,false⟩ := ⟨Tryz.sizeOf27,Tryz.isAgg27,fun w => ⟨_,Tryz.zeroValue27 w,by simp [Vc.conc,Value.cells]⟩,fun _ => by simp [Vc.conc],rfl,⟨_,Tryz.underlying27,trivial⟩,(fun _ h => (by cases h)),(fun h => (by cases h)),⟨Tryz.t27,_,by kernel_rfl,rfl,rfl,rfl,by simp [Vc.conc,Value.cells]⟩⟩
theorem Tryz.ty28 : Vc.TyOK Tryz.prog 28 ⟨1,8,false,[.int .i64 0],.int .i64,false⟩ := ⟨Tryz.sizeOf28,Tryz.isAgg28,fun w => ⟨_,Tryz.zeroValue28 w,by simp [Vc.conc,Value.cells]⟩,fun _ => by simp [Vc.conc],rfl,⟨_,Tryz.underlying28,rfl⟩,(fun _ h => (by cases h)),(fun h => (by cases h)),⟨Tryz.t28,_,by kernel_rfl,rfl,rfl,rfl,by simp [Vc.conc,Value.cells]⟩⟩
theorem Tryz.ty30 : Vc.TyOK Tryz.prog 30 ⟨1,8,false,[.v .nilFunc],.other,false⟩ := ⟨Tryz.sizeOf30,Tryz.isAgg30,fun w => ⟨_,Tryz.zeroValue30 w,by simp [Vc.conc,Value.cells]⟩,fun _ => by simp [Vc.conc],rfl,⟨_,Tryz.underlying30,trivial⟩,(fun _ h => (by cases h)),(fun h => (by cases h)),⟨Tryz.t30,_,by kernel_rfl,rfl,rfl,rfl,by simp [Vc.conc,Value.cells]⟩⟩
theorem Tryz.ty31 : Vc.TyOK Tryz.prog 31 ⟨1,24,false,[.nils],.slice 48,false⟩ := ⟨Tryz.sizeOf31,Tryz.isAgg31,fun w => ⟨_,Tryz.zeroValue31 w,by simp [Vc.conc,Value.cells]⟩,fun _ => by simp [Vc.conc],rfl,⟨_,Tryz.underlying31,rfl⟩,(fun _ h => (by cases h)),(fun h => (by cases h)),⟨Tryz.t31,_,by kernel_rfl,rfl,rfl,rfl,by simp [Vc.conc,Value.cells]⟩⟩
theorem Tryz.ty32 : Vc.TyOK Tryz.prog 32 ⟨1,24,false,[.nils],.slice 46,false⟩ := ⟨Tryz.sizeOf32,Tryz.isAgg32,fun w => ⟨_,Tryz.zeroValue32 w,by simp [Vc.conc,Value.cells]⟩,fun _ => by simp [Vc.conc],rfl,⟨_,Tryz.underlying32,rfl⟩,(fun _ h => (by cases h)),(fun h => (by cases h)),⟨Tryz.t32,_,by kernel_rfl,rfl,rfl,rfl,by simp [Vc.conc,Value.cells]⟩⟩
theorem Tryz.ty33 : Vc.TyOK Tryz.prog 33 ⟨5,112,true,[.str [],.nils,.nils,.nils,.nils],.struct [(0,9),(1,22),(2,22),(3,31),(4,32)],false⟩ := ⟨Tryz.sizeOf33,Tryz.isAgg33,fun w => ⟨_,Tryz.zeroValue33 w,by simp [Vc.conc,Value.cells]⟩,fun _ => by simp [Vc.conc],rfl,⟨_,Tryz.underlying33,⟨_,rfl,rfl⟩⟩,(fun fs h f hf => by cases h; simp only [List.mem_cons,List.not_mem_nil,or_false] at hf; rcases hf with rfl | rfl | rfl | rfl | rfl <;> first | exact ⟨_,Tryz.sizeOf9⟩ | exact ⟨_,Tryz.sizeOf22⟩ | exact ⟨_,Tryz.sizeOf31⟩ | exact ⟨_,Tryz.sizeOf32⟩),(fun h => (by cases h)),⟨Tryz.t33,_,by kernel_rfl,rfl,rfl,rfl,by simp [Vc.conc,Value.cells]⟩⟩
theorem Tryz.ty34 : Vc.TyOK Tryz.prog 34 ⟨5,112,true,[.str [],.nils,.nils,.nils,.nils],.struct [(0,9),(1,22),(2,22),(3,31),(4,32)],false⟩ := ⟨Tryz.sizeOf34,Tryz.isAgg34,fun w => ⟨_,Tryz.zeroValue34 w,by simp [Vc.conc,Value.cells]⟩,fun _ => by simp [Vc.conc],rfl,⟨_,Tryz.underlying34,⟨_,rfl,rfl⟩⟩,(fun fs h f hf => by cases h; simp only [List.mem_cons,List.not_mem_nil,or_false] at hf; rcases hf with rfl | rfl | rfl | rfl | rfl <;> first | exact ⟨_,Tryz.sizeOf9⟩ | exact ⟨_,Tryz.sizeOf22⟩ | exact ⟨_,Tryz.sizeOf31⟩ | exact ⟨_,Tryz.sizeOf32⟩),(fun h => (by cases h)),⟨Tryz.t34,_,by kernel_rfl,rfl,rfl,rfl,by simp [Vc.conc,Value.cells]⟩⟩
theorem Tryz.ty36 : Vc.TyOK Tryz.prog 36 ⟨1,8,false,[.v .nilFunc],.other,false⟩ := ⟨Tryz.sizeOf36,Tryz.isAgg36,fun w => ⟨_,Tryz.zeroValue36 w,by simp [Vc.conc,Value.cells]⟩,fun _ => by simp [Vc.conc],rfl,⟨_,Tryz.underlying36,trivial⟩,(fun _ h => (by cases h)),(fun h => (by cases h)),⟨Tryz.t36,_,by kernel_rfl,rfl,rfl,rfl,by simp [Vc.conc,Value.cells]⟩⟩
theorem Tryz.ty37 : Vc.TyOK Tryz.prog 37 ⟨1,8,false,[.v .nilFunc],.other,false⟩ := ⟨Tryz.sizeOf37,Tryz.isAgg37,fun w => ⟨_,Tryz.zeroValue37 w,by simp [Vc.conc,Value.cells]⟩,fun _ => by simp [Vc.conc],rfl,⟨_,Tryz.underlying37,trivial⟩,(fun _ h => (by cases h)),(fun h => (by cases h)),⟨Tryz.t37,_,by kernel_rfl,rfl,rfl,rfl,by simp [Vc.conc,Value.cells]⟩⟩
theorem Tryz.ty38 : Vc.TyOK Tryz.prog 38 ⟨1,8,false,[.v .nilFunc],.other,false⟩ := ⟨Tryz.sizeOf38,Tryz.isAgg38,fun w => ⟨_,Tryz.zeroValue38 w,by simp [Vc.conc,Value.cells]⟩,fun _ => by simp [Vc.conc],rfl,⟨_,Tryz.underlying38,trivial⟩,(fun _ h => (by cases h)),(fun h => (by cases h)),⟨Tryz.t38,_,by kernel_rfl,rfl,rfl,rfl,by simp [Vc.conc,Value.cells]⟩⟩
theorem Tryz.ty40 : Vc.TyOK Tryz.prog 40 ⟨1,8,false,[.v .nilFunc],.other,false⟩ := ⟨Tryz.sizeOf40,Tryz.isAgg40,fun w => ⟨_,Tryz.zeroValue40 w,by simp [Vc.conc,Value.cells]⟩,fun _ => by simp [Vc.conc],rfl,⟨_,Tryz.underlying40,trivial⟩,(fun _ h => (by cases h)),(fun h => (by cases h)),⟨Tryz.t40,_,by kernel_rfl,rfl,rfl,rfl,by simp [Vc.conc,Value.cells]⟩⟩
theorem Tryz.ty41 : Vc.TyOK Tryz.prog 41 ⟨1,8,false,[.v .nilFunc],.other,false⟩ := ⟨Tryz.sizeOf41,Tryz.isAgg41,fun w => ⟨_,Tryz.zeroValue41 w,by simp [Vc.conc,Value.cells]⟩,fun _ => by simp [Vc.conc],rfl,⟨_,Tryz.underlying41,trivial⟩,(fun _ h => (by cases h)),(fun h => (by cases h)),⟨Tryz.t41,_,by kernel_rfl,rfl,rfl,rfl,by simp [Vc.conc,Value.cells]⟩⟩
theorem Tryz.ty42 : Vc.TyOK Tryz.prog 42 ⟨1,8,false,[.v .nilFunc],.other,false⟩ := ⟨Tryz.sizeOf42,Tryz.isAgg42,fun w => ⟨_,Tryz.zeroValue42 w,by simp [Vc.conc,Value.cells]⟩,fun _ => by simp [Vc.conc],rfl,⟨_,Tryz.underlying42,trivial⟩,(fun _ h => (by cases h)),(fun h => (by cases h)),⟨Tryz.t42,_,by kernel_rfl,rfl,rfl,rfl,by simp [Vc.conc,Value.cells]⟩⟩
theorem Tryz.ty43 : Vc.TyOK Tryz.prog 43 ⟨1,8,false,[.v .nilFunc],.other,false⟩ := ⟨Tryz.sizeOf43,Tryz.isAgg43,fun w => ⟨_,Tryz.zeroValue43 w,by simp [Vc.conc,Value.cells]⟩,fun _ => by simp [Vc.conc],rfl,⟨_,Tryz.underlying43,trivial⟩,(fun _ h => (by cases h)),(fun h => (by cases h)),⟨Tryz.t43,_,by kernel_rfl,rfl,rfl,rfl,by simp [Vc.conc,Value.cells]⟩⟩
theorem Tryz.ty44 : Vc.TyOK Tryz.prog 44 ⟨1,8,false,[.v .nilFunc],.other,false⟩ := ⟨Tryz.sizeOf44,Tryz.isAgg44,fun w => ⟨_,Tryz.zeroValue44 w,by simp [Vc.conc,Value.cells]⟩,fun _ => by simp [Vc.conc],rfl,⟨_,Tryz.underlying44,trivial⟩,(fun _ h => (by cases h)),(fun h => (by cases h)),⟨Tryz.t44,_,by kernel_rfl,rfl,rfl,rfl,by simp [Vc.conc,Value.cells]⟩⟩
theorem Tryz.ty45 : Vc.TyOK Tryz.prog 45 ⟨3,64,true,[.str [],.nils,.nils],.struct [(0,9),(1,22),(2,22)],false⟩ := ⟨Tryz.sizeOf45,Tryz.isAgg45,fun w => ⟨_,Tryz.zeroValue45 w,by simp [Vc.conc,Value.cells]⟩,fun _ => by simp [Vc.conc],rfl,⟨_,Tryz.underlying45,⟨_,rfl,rfl⟩⟩,(fun fs h f hf => by cases h; simp only [List.mem_cons,List.not_mem_nil,or_false] at hf; rcases hf with rfl | rfl | rfl <;> first | exact ⟨_,Tryz.sizeOf9⟩ | exact ⟨_,Tryz.sizeOf22⟩),(fun h => (by cases h)),⟨Tryz.t45,_,by kernel_rfl,rfl,rfl,rfl,by simp [Vc.conc,Value.cells]⟩⟩
theorem Tryz.ty46 : Vc.TyOK Tryz.prog 46 ⟨3,64,true,[.str [],.nils,.nils],.struct [(0,9),(1,22),(2,22)],false⟩ := ⟨Tryz.sizeOf46,Tryz.isAgg46,fun w => ⟨_,Tryz.zeroValue46 w,by simp [Vc.conc,Value.cells]⟩,fun _ => by simp [Vc.conc],rfl,⟨_,Tryz.underlying46,⟨_,rfl,rfl⟩⟩,(fun fs h f hf => by cases h; simp only [List.mem_cons,List.not_mem_nil,or_false] at hf; rcases hf with rfl | rfl | rfl <;> first | exact ⟨_,Tryz.sizeOf9⟩ | exact ⟨_,Tryz.sizeOf22⟩),(fun h => (by cases h)),⟨Tryz.t46,_,by kernel_rfl,rfl,rfl,rfl,by simp [Vc.conc,Value.cells]⟩⟩
theorem Tryz.ty47 : Vc.TyOK Tryz.prog 47 ⟨3,48,true,[.str [],.str [],.str []],.struct [(0,9),(1,9),(2,9)],false⟩ := ⟨Tryz.sizeOf47,Tryz.isAgg47,fun w => ⟨_,Tryz.zeroValue47 w,by simp [Vc.conc,Value.cells]⟩,fun _ => by simp [Vc.conc],rfl,⟨_,Tryz.underlying47,⟨_,rfl,rfl⟩⟩,(fun fs h f hf => by cases h; simp only [List.mem_cons,List.not_mem_nil,or_false] at hf; rcases hf with rfl | rfl | rfl <;> first | exact ⟨_,Tryz.sizeOf9⟩),(fun h => (by cases h)),⟨Tryz.t47,_,by kernel_rfl,rfl,rfl,rfl,by simp [Vc.conc,Value.cells]⟩⟩
theorem Tryz.ty48 : Vc.TyOK Tryz.prog 48 ⟨3,48,true,[.str [],.str [],.str []],.struct [(0,9),(1,9),(2,9)],true⟩ := ⟨Tryz.sizeOf48,Tryz.isAgg48,fun w => ⟨_,Tryz.zeroValue48 w,by simp [Vc.conc,Value.cells]⟩,fun _ => by simp [Vc.conc],rfl,⟨_,Tryz.underlying48,⟨_,rfl,rfl⟩⟩,(fun fs h f hf => by cases h; simp only [List.mem_cons,List.not_mem_nil,or_false] at hf; rcases hf with rfl | rfl | rfl <;> first | exact ⟨_,Tryz.sizeOf9⟩),(fun _ => ⟨by kernel_rfl,by kernel_rfl,by kernel_rfl⟩),⟨Tryz.t48,_,by kernel_rfl,rfl,rfl,rfl,by simp [Vc.conc,Value.cells]⟩⟩
theorem Tryz.ty49 : Vc.TyOK Tryz.prog 49 ⟨1,8,false,[.v .nilFunc],.other,false⟩ := ⟨Tryz.sizeOf49,Tryz.isAgg49,fun w => ⟨_,Tryz.zeroValue49 w,by simp [Vc.conc,Value.cells]⟩,fun _ => by simp [Vc.conc],rfl,⟨_,Tryz.underlying49,trivial⟩,(fun _ h => (by cases h)),(fun h => (by cases h)),⟨Tryz.t49,_,by kernel_rfl,rfl,rfl,rfl,by simp [Vc.conc,Value.cells]⟩⟩
theorem Tryz.ty50 : Vc.TyOK Tryz.prog 50 ⟨1,8,false,[.v .nilFunc],.other,false⟩ := ⟨Tryz.sizeOf50,Tryz.isAgg50,fun w => ⟨_,Tryz.zeroValue50 w,by simp [Vc.conc,Value.cells]⟩,fun _ => by simp [Vc.conc],rfl,⟨_,Tryz.underlying50,trivial⟩,(fun _ h => (by cases h)),(fun h => (by cases h)),⟨Tryz.t50,_,by kernel_rfl,rfl,rfl,rfl,by simp [Vc.conc,Value.cells]⟩⟩
theorem Tryz.ty51 : Vc.TyOK Tryz.prog 51 ⟨1,8,false,[.v (.pointer none)],.ptr 53,false⟩ := ⟨Tryz.sizeOf51,Tryz.isAgg51,fun w => ⟨_,Tryz.zeroValue51 w,by simp [Vc.conc,Value.cells]⟩,fun _ => by simp [Vc.conc],rfl,⟨_,Tryz.underlying51,rfl⟩,(fun _ h => (by cases h)),(fun h => (by cases h)),⟨Tryz.t51,_,by kernel_rfl,rfl,rfl,rfl,by simp [Vc.conc,Value.cells]⟩⟩
theorem Tryz.ty52 : Vc.TyOK Tryz.prog 52 ⟨5,48,true,[.str [],.int .i64 0,.int .i64 0,.int .i64 0,.int .i64 0],.struct [(0,9),(1,3),(2,3),(3,28),(4,3)],false⟩ := ⟨Tryz.sizeOf52,Tryz.isAgg52,fun w => ⟨_,Tryz.zeroValue52 w,by simp [Vc.conc,Value.cells]⟩,fun _ => by simp [Vc.conc],rfl,⟨_,Tryz.underlying52,⟨_,rfl,rfl⟩⟩,(fun fs h f hf => by cases h; simp only [List.mem_cons,List.not_mem_nil,or_false] at hf; rcases hf with rfl | rfl | rfl | rfl | rfl <;> first | exact ⟨_,Tryz.sizeOf3⟩ | exact ⟨_,Tryz.sizeOf9⟩ | exact ⟨_,Tryz.sizeOf28⟩),(fun h => (by cases h)),⟨Tryz.t52,_,by kernel_rfl,rfl,rfl,rfl,by simp [Vc.conc,Value.cells]⟩⟩
theorem Tryz.ty53 : Vc.TyOK Tryz.prog 53 ⟨5,48,true,[.str [],.int .i64 0,.int .i64 0,.int .i64 0,.int .i64 0],.struct [(0,9),(1,3),(2,3),(3,28),(4,3)],true⟩ := ⟨Tryz.sizeOf53,Tryz.isAgg53,fun w => ⟨_,Tryz.zeroValue53 w,by simp [Vc.conc,Value.cells]⟩,fun _ => by simp [Vc.conc],rfl,⟨_,Tryz.underlying53,⟨_,rfl,rfl⟩⟩,(fun fs h f hf => by cases h; simp only [List.mem_cons,List.not_mem_nil,or_false] at hf; rcases hf with rfl | rfl | rfl | rfl | rfl <;> first | exact ⟨_,Tryz.sizeOf3⟩ | exact ⟨_,Tryz.sizeOf9⟩ | exact ⟨_,Tryz.sizeOf28⟩),(fun _ => ⟨by kernel_rfl,by kernel_rfl,by kernel_rfl⟩),⟨Tryz.t53,_,by kernel_rfl,rfl,rfl,rfl,by simp [Vc.conc,Value.cells]⟩⟩
theorem Tryz.ty54 : Vc.TyOK Tryz.prog 54 ⟨1,8,false,[.v .nilFunc],.other,false⟩ := ⟨Tryz.sizeOf54,Tryz.isAgg54,fun w => ⟨_,Tryz.zeroValue54 w,by simp [Vc.conc,Value.cells]⟩,fun _ => by simp [Vc.conc],rfl,⟨_,Tryz.underlying54,trivial⟩,(fun _ h => (by cases h)),(fun h => (by cases h)),⟨Tryz.t54,_,by kernel_rfl,rfl,rfl,rfl,by simp [Vc.conc,Value.cells]⟩⟩
theorem Tryz.ty55 : Vc.TyOK Tryz.prog 55 ⟨3,32,true,[.int .i64 0,.str [],.int .i64 0],.struct [(0,3),(1,9),(2,3)],false⟩ := ⟨Tryz.sizeOf55,Tryz.isAgg55,fun w => ⟨_,Tryz.zeroValue55 w,by simp [Vc.conc,Value.cells]⟩,fun _ => by simp [Vc.conc],rfl,⟨_,Tryz.underlying55,⟨_,rfl,rfl⟩⟩,(fun fs h f hf => by cases h; simp only [List.mem_cons,List.not_mem_nil,or_false] at hf; rcases hf with rfl | rfl | rfl <;> first | exact ⟨_,Tryz.sizeOf3⟩ | exact ⟨_,Tryz.sizeOf9⟩),(fun h => (by cases h)),⟨Tryz.t55,_,by kernel_rfl,rfl,rfl,rfl,by simp [Vc.conc,Value.cells]⟩⟩
theorem Tryz.ty56 : Vc.TyOK Tryz.prog 56 ⟨3,32,true,[.int .i64 0,.str [],.int .i64 0],.struct [(0,3),(1,9),(2,3)],true⟩ := ⟨Tryz.sizeOf56,Tryz.isAgg56,fun w => ⟨_,Tryz.zeroValue56 w,by simp [Vc.conc,Value.cells]⟩,fun _ => by simp [Vc.conc],rfl,⟨_,Tryz.underlying56,⟨_,rfl,rfl⟩⟩,(fun fs h f hf => by cases h; simp only [List.mem_cons,List.not_mem_nil,or_false] at hf; rcases hf with rfl | rfl | rfl <;> first | exact ⟨_,Tryz.sizeOf3⟩ | exact ⟨_,Tryz.sizeOf9⟩),(fun _ => ⟨by kernel_rfl,by kernel_rfl,by kernel_rfl⟩),⟨Tryz.t56,_,by kernel_rfl,rfl,rfl,rfl,by simp [Vc.conc,Value.cells]⟩⟩
theorem Tryz.ty57 : Vc.TyOK Tryz.prog 57 ⟨1,8,false,[.v .nilFunc],.other,false⟩ := ⟨Tryz.sizeOf57,Tryz.isAgg57,fun w => ⟨_,Tryz.zeroValue57 w,by simp [Vc.conc,Value.cells]⟩,fun _ => by simp [Vc.conc],rfl,⟨_,Tryz.underlying57,trivial⟩,(fun _ h => (by cases h)),(fun h => (by cases h)),⟨Tryz.t57,_,by kernel_rfl,rfl,rfl,rfl,by simp [Vc.conc,Value.cells]⟩⟩
theorem Tryz.ty58 : Vc.TyOK Tryz.prog 58 ⟨1,8,false,[.v .nilFunc],.other,false⟩ := ⟨Tryz.sizeOf58,Tryz.isAgg58,fun w => ⟨_,Tryz.zeroValue58 w,by simp [Vc.conc,Value.cells]⟩,fun _ => by simp [Vc.conc],rfl,⟨_,Tryz.underlying58,trivial⟩,(fun _ h => (by cases h)),(fun h => (by cases h)),⟨Tryz.t58,_,by kernel_rfl,rfl,rfl,rfl,by simp [Vc.conc,Value.cells]⟩⟩
theorem Tryz.ty59 : Vc.TyOK Tryz.prog 59 ⟨2,32,true,[.str [],.str []],.struct [(0,9),(1,9)],false⟩ := ⟨Tryz.sizeOf59,Tryz.isAgg59,fun w => ⟨_,Tryz.zeroValue59 w,by simp [Vc.conc,Value.cells]⟩,fun _ => by simp [Vc.conc],rfl,⟨_,Tryz.underlying59,⟨_,rfl,rfl⟩⟩,(fun fs h f hf => by cases h; simp only [List.mem_cons,List.not_mem_nil,or_false] at hf; rcases hf with rfl | rfl <;> first | exact ⟨_,Tryz.sizeOf9⟩),(fun h => (by cases h)),⟨Tryz.t59,_,by kernel_rfl,rfl,rfl,rfl,by simp [Vc.conc,Value.cells]⟩⟩
theorem Tryz.ty60 : Vc.TyOK Tryz.prog 60 ⟨2,32,true,[.str [],.str []],.struct [(0,9),(1,9)],true⟩ := ⟨Tryz.sizeOf60,Tryz.isAgg60,fun w => ⟨_,Tryz.zeroValue60 w,by simp [Vc.conc,Value.cells]⟩,fun _ => by simp [Vc.conc],rfl,⟨_,Tryz.underlying60,⟨_,rfl,rfl⟩⟩,(fun fs h f hf => by cases h; simp only [List.mem_cons,List.not_mem_nil,or_false] at hf; rcases hf with rfl | rfl <;> first | exact ⟨_,Tryz.sizeOf9⟩),(fun _ => ⟨by kernel_rfl,by kernel_rfl,by kernel_rfl⟩),⟨Tryz.t60,_,by kernel_rfl,rfl,rfl,rfl,by simp [Vc.conc,Value.cells]⟩⟩
theorem Tryz.ty61 : Vc.TyOK Tryz.prog 61 ⟨3,40,true,[.str [],.str [],.int .i64 0],.struct [(0,60),(2,28)],false⟩ := ⟨Tryz.sizeOf61,Tryz.isAgg61,fun w => ⟨_,Tryz.zeroValue61 w,by simp [Vc.conc,Value.cells]⟩,fun _ => by simp [Vc.conc],rfl,⟨_,Tryz.underlying61,⟨_,rfl,rfl⟩⟩,(fun fs h f hf => by cases h; simp only [List.mem_cons,List.not_mem_nil,or_false] at hf; rcases hf with rfl | rfl <;> first | exact ⟨_,Tryz.sizeOf28⟩ | exact ⟨_,Tryz.sizeOf60⟩),(fun h => (by cases h)),⟨Tryz.t61,_,by kernel_rfl,rfl,rfl,rfl,by simp [Vc.conc,Value.cells]⟩⟩
theorem Tryz.ty62 : Vc.TyOK Tryz.prog 62 ⟨3,40,true,[.str [],.str [],.int .i64 0],.struct [(0,60),(2,28)],true⟩ := ⟨Tryz.sizeOf62,Tryz.isAgg62,fun w => ⟨_,Tryz.zeroValue62 w,by simp [Vc.conc,Value.cells]⟩,fun _ => by simp [Vc.conc],rfl,⟨_,Tryz.underlying62,⟨_,rfl,rfl⟩⟩,(fun fs h f hf => by cases h; simp only [List.mem_cons,List.not_mem_nil,or_false] at hf; rcases hf with rfl | rfl <;> first | exact ⟨_,Tryz.sizeOf28⟩ | exact ⟨_,Tryz.sizeOf60⟩),(fun _ => ⟨by kernel_rfl,by kernel_rfl,by kernel_rfl⟩),⟨Tryz.t62,_,by kernel_rfl,rfl,rfl,rfl,by simp [Vc.conc,Value.cells]⟩⟩
theorem Tryz.ty64 : Vc.TyOK Tryz.prog 64 ⟨1,8,false,[.v .nilFunc],.other,false⟩ := ⟨Tryz.sizeOf64,Tryz.isAgg64,fun w => ⟨_,Tryz.zeroValue64 w,by simp [Vc.conc,Value.cells]⟩,fun _ => by simp [Vc.conc],rfl,⟨_,Tryz.underlying64,trivial⟩,(fun _ h => (by cases h)),(fun h => (by cases h)),⟨Tryz.t64,_,by kernel_rfl,rfl,rfl,rfl,by simp [Vc.conc,Value.cells]⟩⟩
theorem Tryz.ty65 : Vc.TyOK Tryz.prog 65 ⟨1,8,false,[.v .nilFunc],.other,false⟩ := ⟨Tryz.sizeOf65,Tryz.isAgg65,fun w => ⟨_,Tryz.zeroValue65 w,by simp [Vc.conc,Value.cells]⟩,fun _ => by simp [Vc.conc],rfl,⟨_,Tryz.underlying65,trivial⟩,(fun _ h => (by cases h)),(fun h => (by cases h)),⟨Tryz.t65,_,by kernel_rfl,rfl,rfl,rfl,by simp [Vc.conc,Value.cells]⟩⟩
theorem Tryz.ty66 : Vc.TyOK Tryz.prog 66 ⟨1,8,false,[.v .nilFunc],.other,false⟩ := ⟨Tryz.sizeOf66,Tryz.isAgg66,fun w => ⟨_,Tryz.zeroValue66 w,by simp [Vc.conc,Value.cells]⟩,fun _ => by simp [Vc.conc],rfl,⟨_,Tryz.underlying66,trivial⟩,(fun _ h => (by cases h)),(fun h => (by cases h)),⟨Tryz.t66,_,by kernel_rfl,rfl,rfl,rfl,by simp [Vc.conc,Value.cells]⟩⟩
theorem Tryz.ty67 : Vc.TyOK Tryz.prog 67 ⟨1,8,false,[.v .nilFunc],.other,false⟩ := ⟨Tryz.sizeOf67,Tryz.isAgg67,fun w => ⟨_,Tryz.zeroValue67 w,by simp [Vc.conc,Value.cells]⟩,fun _ => by simp [Vc.conc],rfl,⟨_,Tryz.underlying67,trivial⟩,(fun _ h => (by cases h)),(fun h => (by cases h)),⟨Tryz.t67,_,by kernel_rfl,rfl,rfl,rfl,by simp [Vc.conc,Value.cells]⟩⟩
theorem Tryz.ty68 : Vc.TyOK Tryz.prog 68 ⟨1,8,false,[.v .nilFunc],.other,false⟩ := ⟨Tryz.sizeOf68,Tryz.isAgg68,fun w => ⟨_,Tryz.zeroValue68 w,by simp [Vc.conc,Value.cells]⟩,fun _ => by simp [Vc.conc],rfl,⟨_,Tryz.underlying68,trivial⟩,(fun _ h => (by cases h)),(fun h => (by cases h)),⟨Tryz.t68,_,by kernel_rfl,rfl,rfl,rfl,by simp [Vc.conc,Value.cells]⟩⟩
theorem Tryz.ty69 : Vc.TyOK Tryz.prog 69 ⟨1,8,false,[.v .nilFunc],.other,false⟩ := ⟨Tryz.sizeOf69,Tryz.isAgg69,fun w => ⟨_,Tryz.zeroValue69 w,by simp [Vc.conc,Value.cells]⟩,fun _ => by simp [Vc.conc],rfl,⟨_,Tryz.underlying69,trivial⟩,(fun _ h => (by cases h)),(fun h => (by cases h)),⟨Tryz.t69,_,by kernel_rfl,rfl,rfl,rfl,by simp [Vc.conc,Value.cells]⟩⟩
theorem Tryz.ty70 : Vc.TyOK Tryz.prog 70 ⟨1,8,false,[.v .nilFunc],.other,false⟩ := ⟨Tryz.sizeOf70,Tryz.isAgg70,fun w => ⟨_,Tryz.zeroValue70 w,by simp [Vc.conc,Value.cells]⟩,fun _ => by simp [Vc.conc],rfl,⟨_,Tryz.underlying70,trivial⟩,(fun _ h => (by cases h)),(fun h => (by cases h)),⟨Tryz.t70,_,by kernel_rfl,rfl,rfl,rfl,by simp [Vc.conc,Value.cells]⟩⟩
theorem Tryz.ty71 : Vc.TyOK Tryz.prog 71 ⟨1,8,false,[.v .nilFunc],.other,false⟩ := ⟨Tryz.sizeOf71,Tryz.isAgg71,fun w => ⟨_,Tryz.zeroValue71 w,by simp [Vc.conc,Value.cells]⟩,fun _ => by simp [Vc.conc],rfl,⟨_,Tryz.underlying71,trivial⟩,(fun _ h => (by cases h)),(fun h => (by cases h)),⟨Tryz.t71,_,by kernel_rfl,rfl,rfl,rfl,by simp [Vc.conc,Value.cells]⟩⟩
theorem Tryz.ty72 : Vc.TyOK Tryz.prog 72 ⟨1,8,false,[.v (.pointer none)],.ptr 74,false⟩ := ⟨Tryz.sizeOf72,Tryz.isAgg72,fun w => ⟨_,Tryz.zeroValue72 w,by simp [Vc.conc,Value.cells]⟩,fun _ => by simp [Vc.conc],rfl,⟨_,Tryz.underlying72,rfl⟩,(fun _ h => (by cases h)),(fun h => (by cases h)),⟨Tryz.t72,_,by kernel_rfl,rfl,rfl,rfl,by simp [Vc.conc,Value.cells]⟩⟩
theorem Tryz.ty73 : Vc.TyOK Tryz.prog 73 ⟨3,40,true,[.str [],.str [],.int .i64 0],.struct [(0,60),(2,28)],false⟩ := ⟨Tryz.sizeOf73,Tryz.isAgg73,fun w => ⟨_,Tryz.zeroValue73 w,by simp [Vc.conc,Value.cells]⟩,fun _ => by simp [Vc.conc],rfl,⟨_,Tryz.underlying73,⟨_,rfl,rfl⟩⟩,(fun fs h f hf => by cases h; simp only [List.mem_cons,List.not_mem_nil,or_false] at hf; rcases hf with rfl | rfl <;> first | exact ⟨_,Tryz.sizeOf28⟩ | exact ⟨_,Tryz.sizeOf60⟩),(fun h => (by cases h)),⟨Tryz.t73,_,by kernel_rfl,rfl,rfl,rfl,by simp [Vc.conc,Value.cells]⟩⟩
theorem Tryz.ty74 : Vc.TyOK Tryz.prog 74 ⟨3,40,true,[.str [],.str [],.int .i64 0],.struct [(0,60),(2,28)],true⟩ := ⟨Tryz.sizeOf74,Tryz.isAgg74,fun w => ⟨_,Tryz.zeroValue74 w,by simp [Vc.conc,Value.cells]⟩,fun _ => by simp [Vc.conc],rfl,⟨_,Tryz.underlying74,⟨_,rfl,rfl⟩⟩,(fun fs h f hf => by cases h; simp only [List.mem_cons,List.not_mem_nil,or_false] at hf; rcases hf with rfl | rfl <;> first | exact ⟨_,Tryz.sizeOf28⟩ | exact ⟨_,Tryz.sizeOf60⟩),(fun _ => ⟨by kernel_rfl,by kernel_rfl,by kernel_rfl⟩),⟨Tryz.t74,_,by kernel_rfl,rfl,rfl,rfl,by simp [Vc.conc,Value.cells]⟩⟩
theorem Tryz.ty75 : Vc.TyOK Tryz.prog 75 ⟨1,8,false,[.v .nilFunc],.other,false⟩ := ⟨Tryz.sizeOf75,Tryz.isAgg75,fun w => ⟨_,Tryz.zeroValue75 w,by simp [Vc.conc,Value.cells]⟩,fun _ => by simp [Vc.conc],rfl,⟨_,Tryz.underlying75,trivial⟩,(fun _ h => (by cases h)),(fun h => (by cases h)),⟨Tryz.t75,_,by kernel_rfl,rfl,rfl,rfl,by simp [Vc.conc,Value.cells]⟩⟩
theorem Tryz.ty76 : Vc.TyOK Tryz.prog 76 ⟨1,8,false,[.v .nilFunc],.other,false⟩ := ⟨Tryz.sizeOf76,Tryz.isAgg76,fun w => ⟨_,Tryz.zeroValue76 w,by simp [Vc.conc,Value.cells]⟩,fun _ => by simp [Vc.conc],rfl,⟨_,Tryz.underlying76,trivial⟩,(fun _ h => (by cases h)),(fun h => (by cases h)),⟨Tryz.t76,_,by kernel_rfl,rfl,rfl,rfl,by simp [Vc.conc,Value.cells]⟩⟩
theorem Tryz.ty77 : Vc.TyOK Tryz.prog 77 ⟨1,8,false,[.v .nilFunc],.other,false⟩ := ⟨Tryz.sizeOf77,Tryz.isAgg77,fun w => ⟨_,Tryz.zeroValue77 w,by simp [Vc.conc,Value.cells]⟩,fun _ => by simp [Vc.conc],rfl,⟨_,Tryz.underlying77,trivial⟩,(fun _ h => (by cases h)),(fun h => (by cases h)),⟨Tryz.t77,_,by kernel_rfl,rfl,rfl,rfl,by simp [Vc.conc,Value.cells]⟩⟩
theorem Tryz.ty78 : Vc.TyOK Tryz.prog 78 ⟨1,8,false,[.v .nilFunc],.other,false⟩ := ⟨Tryz.sizeOf78,Tryz.isAgg78,fun w => ⟨_,Tryz.zeroValue78 w,by simp [Vc.conc,Value.cells]⟩,fun _ => by simp [Vc.conc],rfl,⟨_,Tryz.underlying78,trivial⟩,(fun _ h => (by cases h)),(fun h => (by cases h)),⟨Tryz.t78,_,by kernel_rfl,rfl,rfl,rfl,by simp [Vc.conc,Value.cells]⟩⟩
theorem Tryz.ty79 : Vc.TyOK Tryz.prog 79 ⟨1,8,false,[.v .nilFunc],.other,false⟩ := ⟨Tryz.sizeOf79,Tryz.isAgg79,fun w => ⟨_,Tryz.zeroValue79 w,by simp [Vc.conc,Value.cells]⟩,fun _ => by simp [Vc.conc],rfl,⟨_,Tryz.underlying79,trivial⟩,(fun _ h => (by cases h)),(fun h => (by cases h)),⟨Tryz.t79,_,by kernel_rfl,rfl,rfl,rfl,by simp [Vc.conc,Value.cells]⟩⟩
theorem Tryz.ty80 : Vc.TyOK Tryz.prog 80 ⟨7,88,true,[.str [],.str [],.str [],.str [],.str [],.bool false,.bool false],.struct [(0,60),(2,9),(3,9),(4,9),(5,4),(6,4)],false⟩ := ⟨Tryz.sizeOf80,Tryz.isAgg80,fun w => ⟨_,Tryz.zeroValue80 w,by simp [Vc.conc,Value.cells]⟩,fun _ => by simp [Vc.conc],rfl,⟨_,Tryz.underlying80,⟨_,rfl,rfl⟩⟩,(fun fs h f hf => by cases h; simp only [List.mem_cons,List.not_mem_nil,or_false] at hf; rcases hf with rfl | rfl | rfl | rfl | rfl | rfl <;> first | exact ⟨_,Tryz.sizeOf4⟩ | exact ⟨_,Tryz.sizeOf9⟩ | exact ⟨_,Tryz.sizeOf60⟩),(fun h => (by cases h)),⟨Tryz.t80,_,by kernel_rfl,rfl,rfl,rfl,by simp [Vc.conc,Value.cells]⟩⟩
theorem Tryz.ty81 : Vc.TyOK Tryz.prog 81 ⟨7,88,true,[.str [],.str [],.str [],.str [],.str [],.bool false,.bool false],.struct [(0,60),(2,9),(3,9),(4,9),(5,4),(6,4)],true⟩ := ⟨Tryz.sizeOf81,Tryz.isAgg81,fun w => ⟨_,Tryz.zeroValue81 w,by simp [Vc.conc,Value.cells]⟩,fun _ => by simp [Vc.conc],rfl,⟨_,Tryz.underlying81,⟨_,rfl,rfl⟩⟩,(fun fs h f hf => by cases h; simp only [List.mem_cons,List.not_mem_nil,or_false] at hf; rcases hf with rfl | rfl | rfl | rfl | rfl | rfl <;> first | exact ⟨_,Tryz.sizeOf4⟩ | exact ⟨_,Tryz.sizeOf9⟩ | exact ⟨_,Tryz.sizeOf60⟩),(fun _ => ⟨by kernel_rfl,by kernel_rfl,by kernel_rfl⟩),⟨Tryz.t81,_,by kernel_rfl,rfl,rfl,rfl,by simp [Vc.conc,Value.cells]⟩⟩
theorem Tryz.ty83 : Vc.TyOK Tryz.prog 83 ⟨1,8,false,[.v .nilFunc],.other,false⟩ := ⟨Tryz.sizeOf83,Tryz.isAgg83,fun w => ⟨_,Tryz.zeroValue83 w,by simp [Vc.conc,Value.cells]⟩,fun _ => by simp [Vc.conc],rfl,⟨_,Tryz.underlying83,trivial⟩,(fun _ h => (by cases h)),(fun h => (by cases h)),⟨Tryz.t83,_,by kernel_rfl,rfl,rfl,rfl,by simp [Vc.conc,Value.cells]⟩⟩
theorem Tryz.ty84 : Vc.TyOK Tryz.prog 84 ⟨1,8,false,[.v .nilFunc],.other,false⟩ := ⟨Tryz.sizeOf84,Tryz.isAgg84,fun w => ⟨_,Tryz.zeroValue84 w,by simp [Vc.conc,Value.cells]⟩,fun _ => by simp [Vc.conc],rfl,⟨_,Tryz.underlying84,trivial⟩,(fun _ h => (by cases h)),(fun h => (by cases h)),⟨Tryz.t84,_,by kernel_rfl,rfl,rfl,rfl,by simp [Vc.conc,Value.cells]⟩⟩
theorem Tryz.ty85 : Vc.TyOK Tryz.prog 85 ⟨1,8,false,[.v .nilFunc],.other,false⟩ := ⟨Tryz.sizeOf85,Tryz.isAgg85,fun w => ⟨_,Tryz.zeroValue85 w,by simp [Vc.conc,Value.cells]⟩,fun _ => by simp [Vc.conc],rfl,⟨_,Tryz.underlying85,trivial⟩,(fun _ h => (by cases h)),(fun h => (by cases h)),⟨Tryz.t85,_,by kernel_rfl,rfl,rfl,rfl,by simp [Vc.conc,Value.cells]⟩⟩
theorem Tryz.ty86 : Vc.TyOK Tryz.prog 86 ⟨1,8,false,[.v .nilFunc],.other,false⟩ := ⟨Tryz.sizeOf86,Tryz.isAgg86,fun w => ⟨_,Tryz.zeroValue86 w,by simp [Vc.conc,Value.cells]⟩,fun _ => by simp [Vc.conc],rfl,⟨_,Tryz.underlying86,trivial⟩,(fun _ h => (by cases h)),(fun h => (by cases h)),⟨Tryz.t86,_,by kernel_rfl,rfl,rfl,rfl,by simp [Vc.conc,Value.cells]⟩⟩
theorem Tryz.ty87 : Vc.TyOK Tryz.prog 87 ⟨1,8,false,[.v .nilFunc],.other,false⟩ := ⟨Tryz.sizeOf87,Tryz.isAgg87,fun w => ⟨_,Tryz.zeroValue87 w,by simp [Vc.conc,Value.cells]⟩,fun _ => by simp [Vc.conc],rfl,⟨_,Tryz.underlying87,trivial⟩,(fun _ h => (by cases h)),(fun h => (by cases h)),⟨Tryz.t87,_,by kernel_rfl,rfl,rfl,rfl,by simp [Vc.conc,Value.cells]⟩⟩
theorem Tryz.ty88 : Vc.TyOK Tryz.prog 88 ⟨1,8,false,[.v .nilFunc],.other,false⟩ := ⟨Tryz.sizeOf88,Tryz.isAgg88,fun w => ⟨_,Tryz.zeroValue88 w,by simp [Vc.conc,Value.cells]⟩,fun _ => by simp [Vc.conc],rfl,⟨_,Tryz.underlying88,trivial⟩,(fun _ h => (by cases h)),(fun h => (by cases h)),⟨Tryz.t88,_,by kernel_rfl,rfl,rfl,rfl,by simp [Vc.conc,Value.cells]⟩⟩
theorem Tryz.ty89 : Vc.TyOK Tryz.prog 89 ⟨1,8,false,[.v .nilFunc],.other,false⟩ := ⟨Tryz.sizeOf89,Tryz.isAgg89,fun w => ⟨_,Tryz.zeroValue89 w,by simp [Vc.conc,Value.cells]⟩,fun _ => by simp [Vc.conc],rfl,⟨_,Tryz.underlying89,trivial⟩,(fun _ h => (by cases h)),(fun h => (by cases h)),⟨Tryz.t89,_,by kernel_rfl,rfl,rfl,rfl,by simp [Vc.conc,Value.cells]⟩⟩
theorem Tryz.ty90 : Vc.TyOK Tryz.prog 90 ⟨1,8,false,[.v .nilFunc],.other,false⟩ := ⟨Tryz.sizeOf90,Tryz.isAgg90,fun w => ⟨_,Tryz.zeroValue90 w,by simp [Vc.conc,Value.cells]⟩,fun _ => by simp [Vc.conc],rfl,⟨_,Tryz.underlying90,trivial⟩,(fun _ h => (by cases h)),(fun h => (by cases h)),⟨Tryz.t90,_,by kernel_rfl,rfl,rfl,rfl,by simp [Vc.conc,Value.cells]⟩⟩
theorem Tryz.ty91 : Vc.TyOK Tryz.prog 91 ⟨1,8,false,[.v .nilFunc],.other,false⟩ := ⟨Tryz.sizeOf91,Tryz.isAgg91,fun w => ⟨_,Tryz.zeroValue91 w,by simp [Vc.conc,Value.cells]⟩,fun _ => by simp [Vc.conc],rfl,⟨_,Tryz.underlying91,trivial⟩,(fun _ h => (by cases h)),(fun h => (by cases h)),⟨Tryz.t91,_,by kernel_rfl,rfl,rfl,rfl,by simp [Vc.conc,Value.cells]⟩⟩
theorem Tryz.ty92 : Vc.TyOK Tryz.prog 92 ⟨1,8,false,[.v .nilFunc],.other,false⟩ := ⟨Tryz.sizeOf92,Tryz.isAgg92,fun w => ⟨_,Tryz.zeroValue92 w,by simp [Vc.conc,Value.cells]⟩,fun _ => by simp [Vc.conc],rfl,⟨_,Tryz.underlying92,trivial⟩,(fun _ h => (by cases h)),(fun h => (by cases h)),⟨Tryz.t92,_,by kernel_rfl,rfl,rfl,rfl,by simp [Vc.conc,Value.cells]⟩⟩
theorem Tryz.ty94 : Vc.TyOK Tryz.prog 94 ⟨1,8,false,[.v .nilFunc],.other,false⟩ := ⟨Tryz.sizeOf94,Tryz.isAgg94,fun w => ⟨_,Tryz.zeroValue94 w,by simp [Vc.conc,Value.cells]⟩,fun _ => by simp [Vc.conc],rfl,⟨_,Tryz.underlying94,trivial⟩,(fun _ h => (by cases h)),(fun h => (by cases h)),⟨Tryz.t94,_,by kernel_rfl,rfl,rfl,rfl,by simp [Vc.conc,Value.cells]⟩⟩
theorem Tryz.ty95 : Vc.TyOK Tryz.prog 95 ⟨1,8,false,[.v .nilFunc],.other,false⟩ := ⟨Tryz.sizeOf95,Tryz.isAgg95,fun w => ⟨_,Tryz.zeroValue95 w,by simp [Vc.conc,Value.cells]⟩,fun _ => by simp [Vc.conc],rfl,⟨_,Tryz.underlying95,trivial⟩,(fun _ h => (by cases h)),(fun h => (by cases h)),⟨Tryz.t95,_,by kernel_rfl,rfl,rfl,rfl,by simp [Vc.conc,Value.cells]⟩⟩
theorem Tryz.ty96 : Vc.TyOK Tryz.prog 96 ⟨1,8,false,[.v .nilFunc],.other,false⟩ := ⟨Tryz.sizeOf96,Tryz.isAgg96,fun w => ⟨_,Tryz.zeroValue96 w,by simp [Vc.conc,Value.cells]⟩,fun _ => by simp [Vc.conc],rfl,⟨_,Tryz.underlying96,trivial⟩,(fun _ h => (by cases h)),(fun h => (by cases h)),⟨Tryz.t96,_,by kernel_rfl,rfl,rfl,rfl,by simp [Vc.conc,Value.cells]⟩⟩
theorem Tryz.ty98 : Vc.TyOK Tryz.prog 98 ⟨1,8,false,[.v .nilFunc],.other,false⟩ := ⟨Tryz.sizeOf98,Tryz.isAgg98,fun w => ⟨_,Tryz.zeroValue98 w,by simp [Vc.conc,Value.cells]⟩,fun _ => by simp [Vc.conc],rfl,⟨_,Tryz.underlying98,trivial⟩,(fun _ h => (by cases h)),(fun h => (by cases h)),⟨Tryz.t98,_,by kernel_rfl,rfl,rfl,rfl,by simp [Vc.conc,Value.cells]⟩⟩
theorem Tryz.ty100 : Vc.TyOK Tryz.prog 100 ⟨1,8,false,[.v .nilFunc],.other,false⟩ := ⟨Tryz.sizeOf100,Tryz.isAgg100,fun w => ⟨_,Tryz.zeroValue100 w,by simp [Vc.conc,Value.cells]⟩,fun _ => by simp [Vc.conc],rfl,⟨_,Tryz.underlying100,trivial⟩,(fun _ h => (by cases h)),(fun h => (by cases h)),⟨Tryz.t100,_,by kernel_rfl,rfl,rfl,rfl,by simp [Vc.conc,Value.cells]⟩⟩
theorem Tryz.ty102 : Vc.TyOK Tryz.prog 102 ⟨1,8,false,[.v .nilFunc],.other,false⟩ := ⟨Tryz.sizeOf102,Tryz.isAgg102,fun w => ⟨_,Tryz.zeroValue102 w,by simp [Vc.conc,Value.cells]⟩,fun _ => by simp [Vc.conc],rfl,⟨_,Tryz.underlying102,trivial⟩,(fun _ h => (by cases h)),(fun h => (by cases h)),⟨Tryz.t102,_,by kernel_rfl,rfl,rfl,rfl,by simp [Vc.conc,Value.cells]⟩⟩
theorem Tryz.ty103 : Vc.TyOK Tryz.prog 103 ⟨1,8,false,[.v (.pointer none)],.ptr 62,false⟩ := ⟨Tryz.sizeOf103,Tryz.isAgg103,fun w => ⟨_,Tryz.zeroValue103 w,by simp [Vc.conc,Value.cells]⟩,fun _ => by simp [Vc.conc],rfl,⟨_,Tryz.underlying103,rfl⟩,(fun _ h => (by cases h)),(fun h => (by cases h)),⟨Tryz.t103,_,by kernel_rfl,rfl,rfl,rfl,by simp [Vc.conc,Value.cells]⟩⟩
theorem Tryz.ty104 : Vc.TyOK Tryz.prog 104 ⟨1,8,false,[.v .nilFunc],.other,false⟩ := ⟨Tryz.sizeOf104,Tryz.isAgg104,fun w => ⟨_,Tryz.zeroValue104 w,by simp [Vc.conc,Value.cells]⟩,fun _ => by simp [Vc.conc],rfl,⟨_,Tryz.underlying104,trivial⟩,(fun _ h => (by cases h)),(fun h => (by cases h)),⟨Tryz.t104,_,by kernel_rfl,rfl,rfl,rfl,by simp [Vc.conc,Value.cells]⟩⟩
theorem Tryz.ty105 : Vc.TyOK Tryz.prog 105 ⟨1,8,false,[.v .nilFunc],.other,false⟩ := ⟨Tryz.sizeOf105,Tryz.isAgg105,fun w => ⟨_,Tryz.zeroValue105 w,by simp [Vc.conc,Value.cells]⟩,fun _ => by simp [Vc.conc],rfl,⟨_,Tryz.underlying105,trivial⟩,(fun _ h => (by cases h)),(fun h => (by cases h)),⟨Tryz.t105,_,by kernel_rfl,rfl,rfl,rfl,by simp [Vc.conc,Value.cells]⟩⟩
theorem Tryz.ty106 : Vc.TyOK Tryz.prog 106 ⟨1,8,false,[.v .nilFunc],.other,false⟩ := ⟨Tryz.sizeOf106,Tryz.isAgg106,fun w => ⟨_,Tryz.zeroValue106 w,by simp [Vc.conc,Value.cells]⟩,fun _ => by simp [Vc.conc],rfl,⟨_,Tryz.underlying106,trivial⟩,(fun _ h => (by cases h)),(fun h => (by cases h)),⟨Tryz.t106,_,by kernel_rfl,rfl,rfl,rfl,by simp [Vc.conc,Value.cells]⟩⟩
theorem Tryz.ty107 : Vc.TyOK Tryz.prog 107 ⟨1,8,false,[.v .nilFunc],.other,false⟩ := ⟨Tryz.sizeOf107,Tryz.isAgg107,fun w => ⟨_,Tryz.zeroValue107 w,by simp [Vc.conc,Value.cells]⟩,fun _ => by simp [Vc.conc],rfl,⟨_,Tryz.underlying107,trivial⟩,(fun _ h => (by cases h)),(fun h => (by cases h)),⟨Tryz.t107,_,by kernel_rfl,rfl,rfl,rfl,by simp [Vc.conc,Value.cells]⟩⟩
theorem Tryz.ty108 : Vc.TyOK Tryz.prog 108 ⟨1,8,false,[.v .nilFunc],.other,false⟩ := ⟨Tryz.sizeOf108,Tryz.isAgg108,fun w => ⟨_,Tryz.zeroValue108 w,by simp [Vc.conc,Value.cells]⟩,fun _ => by simp [Vc.conc],rfl,⟨_,Tryz.underlying108,trivial⟩,(fun _ h => (by cases h)),(fun h => (by cases h)),⟨Tryz.t108,_,by kernel_rfl,rfl,rfl,rfl,by simp [Vc.conc,Value.cells]⟩⟩
theorem Tryz.ty109 : Vc.TyOK Tryz.prog 109 ⟨1,8,false,[.v .nilFunc],.other,false⟩ := ⟨Tryz.sizeOf109,Tryz.isAgg109,fun w => ⟨_,Tryz.zeroValue109 w,by simp [Vc.conc,Value.cells]⟩,fun _ => by simp [Vc.conc],rfl,⟨_,Tryz.underlying109,trivial⟩,(fun _ h => (by cases h)),(fun h => (by cases h)),⟨Tryz.t109,_,by kernel_rfl,rfl,rfl,rfl,by simp [Vc.conc,Value.cells]⟩⟩
theorem Tryz.ty110 : Vc.TyOK Tryz.prog 110 ⟨1,8,false,[.v .nilFunc],.other,false⟩ := ⟨Tryz.sizeOf110,Tryz.isAgg110,fun w => ⟨_,Tryz.zeroValue110 w,by simp [Vc.conc,Value.cells]⟩,fun _ => by simp [Vc.conc],rfl,⟨_,Tryz.underlying110,trivial⟩,(fun _ h => (by cases h)),(fun h => (by cases h)),⟨Tryz.t110,_,by kernel_rfl,rfl,rfl,rfl,by simp [Vc.conc,Value.cells]⟩⟩
theorem Tryz.ty111 : Vc.TyOK Tryz.prog 111 ⟨1,8,false,[.v .nilFunc],.other,false⟩ := ⟨Tryz.sizeOf111,Tryz.isAgg111,fun w => ⟨_,Tryz.zeroValue111 w,by simp [Vc.conc,Value.cells]⟩,fun _ => by simp [Vc.conc],rfl,⟨_,Tryz.underlying111,trivial⟩,(fun _ h => (by cases h)),(fun h => (by cases h)),⟨Tryz.t111,_,by kernel_rfl,rfl,rfl,rfl,by simp [Vc.conc,Value.cells]⟩⟩
theorem Tryz.ty112 : Vc.TyOK Tryz.prog 112 ⟨1,8,false,[.v .nilFunc],.other,false⟩ := ⟨Tryz.sizeOf112,Tryz.isAgg112,fun w => ⟨_,Tryz.zeroValue112 w,by simp [Vc.conc,Value.cells]⟩,fun _ => by simp [Vc.conc],rfl,⟨_,Tryz.underlying112,trivial⟩,(fun _ h => (by cases h)),(fun h => (by cases h)),⟨Tryz.t112,_,by kernel_rfl,rfl,rfl,rfl,by simp [Vc.conc,Value.cells]⟩⟩
theorem Tryz.ty113 : Vc.TyOK Tryz.prog 113 ⟨1,8,false,[.v .nilFunc],.other,false⟩ := ⟨Tryz.sizeOf113,Tryz.isAgg113,fun w => ⟨_,Tryz.zeroValue113 w,by simp [Vc.conc,Value.cells]⟩,fun _ => by simp [Vc.conc],rfl,⟨_,Tryz.underlying113,trivial⟩,(fun _ h => (by cases h)),(fun h => (by cases h)),⟨Tryz.t113,_,by kernel_rfl,rfl,rfl,rfl,by simp [Vc.conc,Value.cells]⟩⟩
theorem Tryz.ty114 : Vc.TyOK Tryz.prog 114 ⟨1,8,false,[.int .u64 0],.int .u64,false⟩ := ⟨Tryz.sizeOf114,Tryz.isAgg114,fun w => ⟨_,Tryz.zeroValue114 w,by simp [Vc.conc,Value.cells]⟩,fun _ => by simp [Vc.conc],rfl,⟨_,Tryz.underlying114,rfl⟩,(fun _ h => (by cases h)),(fun h => (by cases h)),⟨Tryz.t114,_,by kernel_rfl,rfl,rfl,rfl,by simp [Vc.conc,Value.cells]⟩⟩
theorem Tryz.ty116 : Vc.TyOK Tryz.prog 116 ⟨1,8,false,[.v .nilFunc],.other,false⟩ := ⟨Tryz.sizeOf116,Tryz.isAgg116,fun w => ⟨_,Tryz.zeroValue116 w,by simp [Vc.conc,Value.cells]⟩,fun _ => by simp [Vc.conc],rfl,⟨_,Tryz.underlying116,trivial⟩,(fun _ h => (by cases h)),(fun h => (by cases h)),⟨Tryz.t116,_,by kernel_rfl,rfl,rfl,rfl,by simp [Vc.conc,Value.cells]⟩⟩
theorem Tryz.ty117 : Vc.TyOK Tryz.prog 117 ⟨1,8,false,[.v .nilFunc],.other,false⟩ := ⟨Tryz.sizeOf117,Tryz.isAgg117,fun w => ⟨_,Tryz.zeroValue117 w,by simp [Vc.conc,Value.cells]⟩,fun _ => by simp [Vc.conc],rfl,⟨_,Tryz.underlying117,trivial⟩,(fun _ h => (by cases h)),(fun h => (by cases h)),⟨Tryz.t117,_,by kernel_rfl,rfl,rfl,rfl,by simp [Vc.conc,Value.cells]⟩⟩
theorem Tryz.ty118 : Vc.TyOK Tryz.prog 118 ⟨1,8,false,[.v .nilFunc],.other,false⟩ := ⟨Tryz.sizeOf118,Tryz.isAgg118,fun w => ⟨_,Tryz.zeroValue118 w,by simp [Vc.conc,Value.cells]⟩,fun _ => by simp [Vc.conc],rfl,⟨_,Tryz.underlying118,trivial⟩,(fun _ h => (by cases h)),(fun h => (by cases h)),⟨Tryz.t118,_,by kernel_rfl,rfl,rfl,rfl,by simp [Vc.conc,Value.cells]⟩⟩
theorem Tryz.ty119 : Vc.TyOK Tryz.prog 119 ⟨1,8,false,[.v .nilFunc],.other,false⟩ := ⟨Tryz.sizeOf119,Tryz.isAgg119,fun w => ⟨_,Tryz.zeroValue119 w,by simp [Vc.conc,Value.cells]⟩,fun _ => by simp [Vc.conc],rfl,⟨_,Tryz.underlying119,trivial⟩,(fun _ h => (by cases h)),(fun h => (by cases h)),⟨Tryz.t119,_,by kernel_rfl,rfl,rfl,rfl,by simp [Vc.conc,Value.cells]⟩⟩
theorem Tryz.ty120 : Vc.TyOK Tryz.prog 120 ⟨1,24,false,[.nils],.slice 5,false⟩ := ⟨Tryz.sizeOf120,Tryz.isAgg120,fun w => ⟨_,Tryz.zeroValue120 w,by simp [Vc.conc,Value.cells]⟩,fun _ => by simp [Vc.conc],rfl,⟨_,Tryz.underlying120,rfl⟩,(fun _ h => (by cases h)),(fun h => (by cases h)),⟨Tryz.t120,_,by kernel_rfl,rfl,rfl,rfl,by simp [Vc.conc,Value.cells]⟩⟩
theorem Tryz.ty122 : Vc.TyOK Tryz.prog 122 ⟨1,8,false,[.v .nilFunc],.other,false⟩ := ⟨Tryz.sizeOf122,Tryz.isAgg122,fun w => ⟨_,Tryz.zeroValue122 w,by simp [Vc.conc,Value.cells]⟩,fun _ => by simp [Vc.conc],rfl,⟨_,Tryz.underlying122,trivial⟩,(fun _ h => (by cases h)),(fun h => (by cases h)),⟨Tryz.t122,_,by kernel_rfl,rfl,rfl,rfl,by simp [Vc.conc,Value.cells]⟩⟩
theorem Tryz.ty123 : Vc.TyOK Tryz.prog 123 ⟨1,8,false,[.v .nilFunc],.other,false⟩ := ⟨Tryz.sizeOf123,Tryz.isAgg123,fun w => ⟨_,Tryz.zeroValue123 w,by simp [Vc.conc,Value.cells]⟩,fun _ => by simp [Vc.conc],rfl,⟨_,Tryz.underlying123,trivial⟩,(fun _ h => (by cases h)),(fun h => (by cases h)),⟨Tryz.t123,_,by kernel_rfl,rfl,rfl,rfl,by simp [Vc.conc,Value.cells]⟩⟩
theorem Tryz.ty125 : Vc.TyOK Tryz.prog 125 ⟨1,8,false,[.v .nilFunc],.other,false⟩ := ⟨Tryz.sizeOf125,Tryz.isAgg125,fun w => ⟨_,Tryz.zeroValue125 w,by simp [Vc.conc,Value.cells]⟩,fun _ => by simp [Vc.conc],rfl,⟨_,Tryz.underlying125,trivial⟩,(fun _ h => (by cases h)),(fun h => (by cases h)),⟨Tryz.t125,_,by kernel_rfl,rfl,rfl,rfl,by simp [Vc.conc,Value.cells]⟩⟩
theorem Tryz.ty126 : Vc.TyOK Tryz.prog 126 ⟨1,24,false,[.nils],.slice 5,false⟩ := ⟨Tryz.sizeOf126,Tryz.isAgg126,fun w => ⟨_,Tryz.zeroValue126 w,by simp [Vc.conc,Value.cells]⟩,fun _ => by simp [Vc.conc],rfl,⟨_,Tryz.underlying126,rfl⟩,(fun _ h => (by cases h)),(fun h => (by cases h)),⟨Tryz.t126,_,by kernel_rfl,rfl,rfl,rfl,by simp [Vc.conc,Value.cells]⟩⟩
theorem Tryz.ty127 : Vc.TyOK Tryz.prog 127 ⟨1,8,false,[.v .nilFunc],.other,false⟩ := ⟨Tryz.sizeOf127,Tryz.isAgg127,fun w => ⟨_,Tryz.zeroValue127 w,by simp [Vc.conc,Value.cells]⟩,fun _ => by simp [Vc.conc],rfl,⟨_,Tryz.underlying127,trivial⟩,(fun _ h => (by cases h)),(fun h => (by cases h)),⟨Tryz.t127,_,by kernel_rfl,rfl,rfl,rfl,by simp [Vc.conc,Value.cells]⟩⟩
theorem Tryz.ty128 : Vc.TyOK Tryz.prog 128 ⟨1,8,false,[.v .nilFunc],.other,false⟩ := ⟨Tryz.sizeOf128,Tryz.isAgg128,fun w => ⟨_,Tryz.zeroValue128 w,by simp [Vc.conc,Value.cells]⟩,fun _ => by simp [Vc.conc],rfl,⟨_,Tryz.underlying128,trivial⟩,(fun _ h => (by cases h)),(fun h => (by cases h)),⟨Tryz.t128,_,by kernel_rfl,rfl,rfl,rfl,by simp [Vc.conc,Value.cells]⟩⟩
theorem Tryz.ty129 : Vc.TyOK Tryz.prog 129 ⟨1,8,false,[.v .nilFunc],.other,false⟩ := ⟨Tryz.sizeOf129,Tryz.isAgg129,fun w => ⟨_,Tryz.zeroValue129 w,by simp [Vc.conc,Value.cells]⟩,fun _ => by simp [Vc.conc],rfl,⟨_,Tryz.underlying129,trivial⟩,(fun _ h => (by cases h)),(fun h => (by cases h)),⟨Tryz.t129,_,by kernel_rfl,rfl,rfl,rfl,by simp [Vc.conc,Value.cells]⟩⟩
theorem Tryz.ty131 : Vc.TyOK Tryz.prog 131 ⟨1,8,false,[.v .nilFunc],.other,false⟩ := ⟨Tryz.sizeOf131,Tryz.isAgg131,fun w => ⟨_,Tryz.zeroValue131 w,by simp [Vc.conc,Value.cells]⟩,fun _ => by simp [Vc.conc],rfl,⟨_,Tryz.underlying131,trivial⟩,(fun _ h => (by cases h)),(fun h => (by cases h)),⟨Tryz.t131,_,by kernel_rfl,rfl,rfl,rfl,by simp [Vc.conc,Value.cells]⟩⟩
theorem Tryz.ty132 : Vc.TyOK Tryz.prog 132 ⟨1,8,false,[.v .nilFunc],.other,false⟩ := ⟨Tryz.sizeOf132,Tryz.isAgg132,fun w => ⟨_,Tryz.zeroValue132 w,by simp [Vc.conc,Value.cells]⟩,fun _ => by simp [Vc.conc],rfl,⟨_,Tryz.underlying132,trivial⟩,(fun _ h => (by cases h)),(fun h => (by cases h)),⟨Tryz.t132,_,by kernel_rfl,rfl,rfl,rfl,by simp [Vc.conc,Value.cells]⟩⟩
theorem Tryz.ty133 : Vc.TyOK Tryz.prog 133 ⟨1,8,false,[.v .nilFunc],.other,false⟩ := ⟨Tryz.sizeOf133,Tryz.isAgg133,fun w => ⟨_,Tryz.zeroValue133 w,by simp [Vc.conc,Value.cells]⟩,fun _ => by simp [Vc.conc],rfl,⟨_,Tryz.underlying133,trivial⟩,(fun _ h => (by cases h)),(fun h => (by cases h)),⟨Tryz.t133,_,by kernel_rfl,rfl,rfl,rfl,by simp [Vc.conc,Value.cells]⟩⟩
theorem Tryz.ty134 : Vc.TyOK Tryz.prog 134 ⟨1,8,false,[.int .u64 0],.int .u64,false⟩ := ⟨Tryz.sizeOf134,Tryz.isAgg134,fun w => ⟨_,Tryz.zeroValue134 w,by simp [Vc.conc,Value.cells]⟩,fun _ => by simp [Vc.conc],rfl,⟨_,Tryz.underlying134,rfl⟩,(fun _ h => (by cases h)),(fun h => (by cases h)),⟨Tryz.t134,_,by kernel_rfl,rfl,rfl,rfl,by simp [Vc.conc,Value.cells]⟩⟩
theorem Tryz.ty135 : Vc.TyOK Tryz.prog 135 ⟨1,8,false,[.v (.pointer none)],.ptr 126,false⟩ := ⟨Tryz.sizeOf135,Tryz.isAgg135,fun w => ⟨_,Tryz.zeroValue135 w,by simp [Vc.conc,Value.cells]⟩,fun _ => by simp [Vc.conc],rfl,⟨_,Tryz.underlying135,rfl⟩,(fun _ h => (by cases h)),(fun h => (by cases h)),⟨Tryz.t135,_,by kernel_rfl,rfl,rfl,rfl,by simp [Vc.conc,Value.cells]⟩⟩
theorem Tryz.ty136 : Vc.TyOK Tryz.prog 136 ⟨1,8,false,[.v (.pointer none)],.ptr 138,false⟩ := ⟨Tryz.sizeOf136,Tryz.isAgg136,fun w => ⟨_,Tryz.zeroValue136 w,by simp [Vc.conc,Value.cells]⟩,fun _ => by simp [Vc.conc],rfl,⟨_,Tryz.underlying136,rfl⟩,(fun _ h => (by cases h)),(fun h => (by cases h)),⟨Tryz.t136,_,by kernel_rfl,rfl,rfl,rfl,by simp [Vc.conc,Value.cells]⟩⟩
theorem Tryz.ty137 : Vc.TyOK Tryz.prog 137 ⟨2,32,true,[.v (.pointer none),.nils],.struct [(0,136),(1,120)],false⟩ := ⟨Tryz.sizeOf137,Tryz.isAgg137,fun w => ⟨_,Tryz.zeroValue137 w,by simp [Vc.conc,Value.cells]⟩,fun _ => by simp [Vc.conc],rfl,⟨_,Tryz.underlying137,⟨_,rfl,rfl⟩⟩,(fun fs h f hf => by cases h; simp only [List.mem_cons,List.not_mem_nil,or_false] at hf; rcases hf with rfl | rfl <;> first | exact ⟨_,Tryz.sizeOf120⟩ | exact ⟨_,Tryz.sizeOf136⟩),(fun h => (by cases h)),⟨Tryz.t137,_,by kernel_rfl,rfl,rfl,rfl,by simp [Vc.conc,Value.cells]⟩⟩
theorem Tryz.ty138 : Vc.TyOK Tryz.prog 138 ⟨2,32,true,[.v (.pointer none),.nils],.struct [(0,136),(1,120)],false⟩ := ⟨Tryz.sizeOf138,Tryz.isAgg138,fun w => ⟨_,Tryz.zeroValue138 w,by simp [Vc.conc,Value.cells]⟩,fun _ => by simp [Vc.conc],rfl,⟨_,Tryz.underlying138,⟨_,rfl,rfl⟩⟩,(fun fs h f hf => by cases h; simp only [List.mem_cons,List.not_mem_nil,or_false] at hf; rcases hf with rfl | rfl <;> first | exact ⟨_,Tryz.sizeOf120⟩ | exact ⟨_,Tryz.sizeOf136⟩),(fun h => (by cases h)),⟨Tryz.t138,_,by kernel_rfl,rfl,rfl,rfl,by simp [Vc.conc,Value.cells]⟩⟩
theorem Tryz.ty139 : Vc.TyOK Tryz.prog 139 ⟨1,8,false,[.v .nilFunc],.other,false⟩ := ⟨Tryz.sizeOf139,Tryz.isAgg139,fun w => ⟨_,Tryz.zeroValue139 w,by simp [Vc.conc,Value.cells]⟩,fun _ => by simp [Vc.conc],rfl,⟨_,Tryz.underlying139,trivial⟩,(fun _ h => (by cases h)),(fun h => (by cases h)),⟨Tryz.t139,_,by kernel_rfl,rfl,rfl,rfl,by simp [Vc.conc,Value.cells]⟩⟩
theorem Tryz.ty140 : Vc.TyOK Tryz.prog 140 ⟨1,16,false,[.v .nilIface],.other,false⟩ := ⟨Tryz.sizeOf140,Tryz.isAgg140,fun w => ⟨_,Tryz.zeroValue140 w,by simp [Vc.conc,Value.cells]⟩,fun _ => by simp [Vc.conc],rfl,⟨_,Tryz.underlying140,trivial⟩,(fun _ h => (by cases h)),(fun h => (by cases h)),⟨Tryz.t140,_,by kernel_rfl,rfl,rfl,rfl,by simp [Vc.conc,Value.cells]⟩⟩
theorem Tryz.ty141 : Vc.TyOK Tryz.prog 141 ⟨1,16,false,[.v .nilIface],.other,false⟩ := ⟨Tryz.sizeOf141,Tryz.isAgg141,fun w => ⟨_,Tryz.zeroValue141 w,by simp [Vc.conc,Value.cells]⟩,fun _ => by simp [Vc.conc],rfl,⟨_,Tryz.underlying141,trivial⟩,(fun _ h => (by cases h)),(fun h => (by cases h)),⟨Tryz.t141,_,by kernel_rfl,rfl,rfl,rfl,by simp [Vc.conc,Value.cells]⟩⟩
theorem Tryz.ty143 : Vc.TyOK Tryz.prog 143 ⟨1,8,false,[.v .nilFunc],.other,false⟩ := ⟨Tryz.sizeOf143,Tryz.isAgg143,fun w => ⟨_,Tryz.zeroValue143 w,by simp [Vc.conc,Value.cells]⟩,fun _ => by simp [Vc.conc],rfl,⟨_,Tryz.underlying143,trivial⟩,(fun _ h => (by cases h)),(fun h => (by cases h)),⟨Tryz.t143,_,by kernel_rfl,rfl,rfl,rfl,by simp [Vc.conc,Value.cells]⟩⟩
theorem Tryz.ty145 : Vc.TyOK Tryz.prog 145 ⟨1,8,false,[.v .nilFunc],.other,false⟩ := ⟨Tryz.sizeOf145,Tryz.isAgg145,fun w => ⟨_,Tryz.zeroValue145 w,by simp [Vc.conc,Value.cells]⟩,fun _ => by simp [Vc.conc],rfl,⟨_,Tryz.underlying145,trivial⟩,(fun _ h => (by cases h)),(fun h => (by cases h)),⟨Tryz.t145,_,by kernel_rfl,rfl,rfl,rfl,by simp [Vc.conc,Value.cells]⟩⟩
theorem Tryz.ty146 : Vc.TyOK Tryz.prog 146 ⟨1,8,false,[.v .nilFunc],.other,false⟩ := ⟨Tryz.sizeOf146,Tryz.isAgg146,fun w => ⟨_,Tryz.zeroValue146 w,by simp [Vc.conc,Value.cells]⟩,fun _ => by simp [Vc.conc],rfl,⟨_,Tryz.underlying146,trivial⟩,(fun _ h => (by cases h)),(fun h => (by cases h)),⟨Tryz.t146,_,by kernel_rfl,rfl,rfl,rfl,by simp [Vc.conc,Value.cells]⟩⟩
theorem Tryz.ty148 : Vc.TyOK Tryz.prog 148 ⟨1,8,false,[.v .nilFunc],.other,false⟩ := ⟨Tryz.sizeOf148,Tryz.isAgg148,fun w => ⟨_,Tryz.zeroValue148 w,by simp [Vc.conc,Value.cells]⟩,fun _ => by simp [Vc.conc],rfl,⟨_,Tryz.underlying148,trivial⟩,(fun _ h => (by cases h)),(fun h => (by cases h)),⟨Tryz.t148,_,by kernel_rfl,rfl,rfl,rfl,by simp [Vc.conc,Value.cells]⟩⟩
theorem Tryz.ty149 : Vc.TyOK Tryz.prog 149 ⟨1,8,false,[.v .nilFunc],.other,false⟩ := ⟨Tryz.sizeOf149,Tryz.isAgg149,fun w => ⟨_,Tryz.zeroValue149 w,by simp [Vc.conc,Value.cells]⟩,fun _ => by simp [Vc.conc],rfl,⟨_,Tryz.underlying149,trivial⟩,(fun _ h => (by cases h)),(fun h => (by cases h)),⟨Tryz.t149,_,by kernel_rfl,rfl,rfl,rfl,by simp [Vc.conc,Value.cells]⟩⟩
theorem Tryz.ty150 : Vc.TyOK Tryz.prog 150 ⟨1,4,false,[.int .u32 0],.int .u32,false⟩ := ⟨Tryz.sizeOf150,Tryz.isAgg150,fun w => ⟨_,Tryz.zeroValue150 w,by simp [Vc.conc,Value.cells]⟩,fun _ => by simp [Vc.conc],rfl,⟨_,Tryz.underlying150,rfl⟩,(fun _ h => (by cases h)),(fun h => (by cases h)),⟨Tryz.t150,_,by kernel_rfl,rfl,rfl,rfl,by simp [Vc.conc,Value.cells]⟩⟩
theorem Tryz.ty152 : Vc.TyOK Tryz.prog 152 ⟨1,8,false,[.v .nilFunc],.other,false⟩ := ⟨Tryz.sizeOf152,Tryz.isAgg152,fun w => ⟨_,Tryz.zeroValue152 w,by simp [Vc.conc,Value.cells]⟩,fun _ => by simp [Vc.conc],rfl,⟨_,Tryz.underlying152,trivial⟩,(fun _ h => (by cases h)),(fun h => (by cases h)),⟨Tryz.t152,_,by kernel_rfl,rfl,rfl,rfl,by simp [Vc.conc,Value.cells]⟩⟩
theorem Tryz.ty153 : Vc.TyOK Tryz.prog 153 ⟨1,8,false,[.v (.pointer none)],.ptr 5,false⟩ := ⟨Tryz.sizeOf153,Tryz.isAgg153,fun w => ⟨_,Tryz.zeroValue153 w,by simp [Vc.conc,Value.cells]⟩,fun _ => by simp [Vc.conc],rfl,⟨_,Tryz.underlying153,rfl⟩,(fun _ h => (by cases h)),(fun h => (by cases h)),⟨Tryz.t153,_,by kernel_rfl,rfl,rfl,rfl,by simp [Vc.conc,Value.cells]⟩⟩
theorem Tryz.ty154 : Vc.TyOK Tryz.prog 154 ⟨1,8,false,[.v .nilFunc],.other,false⟩ := ⟨Tryz.sizeOf154,Tryz.isAgg154,fun w => ⟨_,Tryz.zeroValue154 w,by simp [Vc.conc,Value.cells]⟩,fun _ => by simp [Vc.conc],rfl,⟨_,Tryz.underlying154,trivial⟩,(fun _ h => (by cases h)),(fun h => (by cases h)),⟨Tryz.t154,_,by kernel_rfl,rfl,rfl,rfl,by simp [Vc.conc,Value.cells]⟩⟩
theorem Tryz.ty156 : Vc.TyOK Tryz.prog 156 ⟨1,8,false,[.v .nilFunc],.other,false⟩ := ⟨Tryz.sizeOf156,Tryz.isAgg156,fun w => ⟨_,Tryz.zeroValue156 w,by simp [Vc.conc,Value.cells]⟩,fun _ => by simp [Vc.conc],rfl,⟨_,Tryz.underlying156,trivial⟩,(fun _ h => (by cases h)),(fun h => (by cases h)),⟨Tryz.t156,_,by kernel_rfl,rfl,rfl,rfl,by simp [Vc.conc,Value.cells]⟩⟩
theorem Tryz.ty157 : Vc.TyOK Tryz.prog 157 ⟨1,8,false,[.v .nilFunc],.other,false⟩ := ⟨Tryz.sizeOf157,Tryz.isAgg157,fun w => ⟨_,Tryz.zeroValue157 w,by simp [Vc.conc,Value.cells]⟩,fun _ => by simp [Vc.conc],rfl,⟨_,Tryz.underlying157,trivial⟩,(fun _ h => (by cases h)),(fun h => (by cases h)),⟨Tryz.t157,_,by kernel_rfl,rfl,rfl,rfl,by simp [Vc.conc,Value.cells]⟩⟩
theorem Tryz.ty159 : Vc.TyOK Tryz.prog 159 ⟨2,2,true,[.int .u8 0,.int .u8 0],.struct [(0,5),(1,5)],false⟩ := ⟨Tryz.sizeOf159,Tryz.isAgg159,fun w => ⟨_,Tryz.zeroValue159 w,by simp [Vc.conc,Value.cells]⟩,fun _ => by simp [Vc.conc],rfl,⟨_,Tryz.underlying159,⟨_,rfl,rfl⟩⟩,(fun fs h f hf => by cases h; simp only [List.mem_cons,List.not_mem_nil,or_false] at hf; rcases hf with rfl | rfl <;> first | exact ⟨_,Tryz.sizeOf5⟩),(fun h => (by cases h)),⟨Tryz.t159,_,by kernel_rfl,rfl,rfl,rfl,by simp [Vc.conc,Value.cells]⟩⟩
theorem Tryz.ty160 : Vc.TyOK Tryz.prog 160 ⟨2,2,true,[.int .u8 0,.int .u8 0],.struct [(0,5),(1,5)],false⟩ := ⟨Tryz.sizeOf160,Tryz.isAgg160,fun w => ⟨_,Tryz.zeroValue160 w,by simp [Vc.conc,Value.cells]⟩,fun _ => by simp [Vc.conc],rfl,⟨_,Tryz.underlying160,⟨_,rfl,rfl⟩⟩,(fun fs h f hf => by cases h; simp only [List.mem_cons,List.not_mem_nil,or_false] at hf; rcases hf with rfl | rfl <;> first | exact ⟨_,Tryz.sizeOf5⟩),(fun h => (by cases h)),⟨Tryz.t160,_,by kernel_rfl,rfl,rfl,rfl,by simp [Vc.conc,Value.cells]⟩⟩
theorem Tryz.ty161 : Vc.TyOK Tryz.prog 161 ⟨32,32,true,[.int .u8 0,.int .u8 0,.int .u8 0,.int .u8 0,.int .u8 0,.int .u8 0,.int .u8 0,.int .u8 0,.int .u8 0,.int .u8 0,.int .u8 0,.int .u8 0,.int .u8 0,.int .u8 0,.int .u8 0,.int .u8 0,.int .u8 0,.int .u8 0,.int .u8 0,.int .u8 0,.int .u8 0,.int .u8 0,.int .u8 0,.int .u8 0,.int .u8 0,.int .u8 0,.int .u8 0,.int .u8 0,.int .u8 0,.int .u8 0,.int .u8 0,.int .u8 0],.arr 16 160,false⟩ := ⟨Tryz.sizeOf161,Tryz.isAgg161,fun w => ⟨_,Tryz.zeroValue161 w,by simp [Vc.conc,Value.cells]⟩,fun _ => by simp [Vc.conc],rfl,⟨_,Tryz.underlying161,rfl⟩,(fun _ h => (by cases h)),(fun h => (by cases h)),⟨Tryz.t161,_,by kernel_rfl,rfl,rfl,rfl,by simp [Vc.conc,Value.cells]⟩⟩
theorem Tryz.ty162 : Vc.TyOK Tryz.prog 162 ⟨4,40,true,[.v (.pointer none),.v (.pointer none),.v (.pointer none),.str []],.struct [(0,17),(1,17),(2,17),(3,9)],false⟩ := ⟨Tryz.sizeOf162,Tryz.isAgg162,fun w => ⟨_,Tryz.zeroValue162 w,by simp [Vc.conc,Value.cells]⟩,fun _ => by simp [Vc.conc],rfl,⟨_,Tryz.underlying162,⟨_,rfl,rfl⟩⟩,(fun fs h f hf => by cases h; simp only [List.mem_cons,List.not_mem_nil,or_false] at hf; rcases hf with rfl | rfl | rfl | rfl <;> first | exact ⟨_,Tryz.sizeOf9⟩ | exact ⟨_,Tryz.sizeOf17⟩),(fun h => (by cases h)),⟨Tryz.t162,_,by kernel_rfl,rfl,rfl,rfl,by simp [Vc.conc,Value.cells]⟩⟩
theorem Tryz.ty163 : Vc.TyOK Tryz.prog 163 ⟨4,40,true,[.v (.pointer none),.v (.pointer none),.v (.pointer none),.str []],.struct [(0,17),(1,17),(2,17),(3,9)],false⟩ := ⟨Tryz.sizeOf163,Tryz.isAgg163,fun w => ⟨_,Tryz.zeroValue163 w,by simp [Vc.conc,Value.cells]⟩,fun _ => by simp [Vc.conc],rfl,⟨_,Tryz.underlying163,⟨_,rfl,rfl⟩⟩,(fun fs h f hf => by cases h; simp only [List.mem_cons,List.not_mem_nil,or_false] at hf; rcases hf with rfl | rfl | rfl | rfl <;> first | exact ⟨_,Tryz.sizeOf9⟩ | exact ⟨_,Tryz.sizeOf17⟩),(fun h => (by cases h)),⟨Tryz.t163,_,by kernel_rfl,rfl,rfl,rfl,by simp [Vc.conc,Value.cells]⟩⟩
theorem Tryz.ty164 : Vc.TyOK Tryz.prog 164 ⟨0,0,true,[],.arr 0 16,false⟩ := ⟨Tryz.sizeOf164,Tryz.isAgg164,fun w => ⟨_,Tryz.zeroValue164 w,by simp [Vc.conc,Value.cells]⟩,fun _ => by simp [Vc.conc],rfl,⟨_,Tryz.underlying164,rfl⟩,(fun _ h => (by cases h)),(fun h => (by cases h)),⟨Tryz.t164,_,by kernel_rfl,rfl,rfl,rfl,by simp [Vc.conc,Value.cells]⟩⟩
theorem Tryz.ty165 : Vc.TyOK Tryz.prog 165 ⟨0,0,true,[],.struct [(0,164)],false⟩ := ⟨Tryz.sizeOf165,Tryz.isAgg165,fun w => ⟨_,Tryz.zeroValue165 w,by simp [Vc.conc,Value.cells]⟩,fun _ => by simp [Vc.conc],rfl,⟨_,Tryz.underlying165,⟨_,rfl,rfl⟩⟩,(fun fs h f hf => by cases h; simp only [List.mem_cons,List.not_mem_nil,or_false] at hf; rcases hf with rfl <;> first | exact ⟨_,Tryz.sizeOf164⟩),(fun h => (by cases h)),⟨Tryz.t165,_,by kernel_rfl,rfl,rfl,rfl,by simp [Vc.conc,Value.cells]⟩⟩
theorem Tryz.ty166 : Vc.TyOK Tryz.prog 166 ⟨0,0,true,[],.struct [(0,164)],false⟩ := ⟨Tryz.sizeOf166,Tryz.isAgg166,fun w => ⟨_,Tryz.zeroValue166 w,by simp [Vc.conc,Value.cells]⟩,fun _ => by simp [Vc.conc],rfl,⟨_,Tryz.underlying166,⟨_,rfl,rfl⟩⟩,(fun fs h f hf => by cases h; simp only [List.mem_cons,List.not_mem_nil,or_false] at hf; rcases hf with rfl <;> first | exact ⟨_,Tryz.sizeOf164⟩),(fun h => (by cases h)),⟨Tryz.t166,_,by kernel_rfl,rfl,rfl,rfl,by simp [Vc.conc,Value.cells]⟩⟩
theorem Tryz.ty167 : Vc.TyOK Tryz.prog 167 ⟨1,8,false,[.v .nilFunc],.other,false⟩ := ⟨Tryz.sizeOf167,Tryz.isAgg167,fun w => ⟨_,Tryz.zeroValue167 w,by simp [Vc.conc,Value.cells]⟩,fun _ => by simp [Vc.conc],rfl,⟨_,Tryz.underlying167,trivial⟩,(fun _ h => (by cases h)),(fun h => (by cases h)),⟨Tryz.t167,_,by kernel_rfl,rfl,rfl,rfl,by simp [Vc.conc,Value.cells]⟩⟩
theorem Tryz.ty168 : Vc.TyOK Tryz.prog 168 ⟨1,1,false,[.int .u8 0],.int .u8,false⟩ := ⟨Tryz.sizeOf168,Tryz.isAgg168,fun w => ⟨_,Tryz.zeroValue168 w,by simp [Vc.conc,Value.cells]⟩,fun _ => by simp [Vc.conc],rfl,⟨_,Tryz.underlying168,rfl⟩,(fun _ h => (by cases h)),(fun h => (by cases h)),⟨Tryz.t168,_,by kernel_rfl,rfl,rfl,rfl,by simp [Vc.conc,Value.cells]⟩⟩
theorem Tryz.ty169 : Vc.TyOK Tryz.prog 169 ⟨1,1,false,[.int .u8 0],.int .u8,false⟩ := ⟨Tryz.sizeOf169,Tryz.isAgg169,fun w => ⟨_,Tryz.zeroValue169 w,by simp [Vc.conc,Value.cells]⟩,fun _ => by simp [Vc.conc],rfl,⟨_,Tryz.underlying169,rfl⟩,(fun _ h => (by cases h)),(fun h => (by cases h)),⟨Tryz.t169,_,by kernel_rfl,rfl,rfl,rfl,by simp [Vc.conc,Value.cells]⟩⟩
theorem Tryz.ty170 : Vc.TyOK Tryz.prog 170 ⟨1,8,false,[.v .nilFunc],.other,false⟩ := ⟨Tryz.sizeOf170,Tryz.isAgg170,fun w => ⟨_,Tryz.zeroValue170 w,by simp [Vc.conc,Value.cells]⟩,fun _ => by simp [Vc.conc],rfl,⟨_,Tryz.underlying170,trivial⟩,(fun _ h => (by cases h)),(fun h => (by cases h)),⟨Tryz.t170,_,by kernel_rfl,rfl,rfl,rfl,by simp [Vc.conc,Value.cells]⟩⟩
theorem Tryz.ty171 : Vc.TyOK Tryz.prog 171 ⟨1,4,false,[.int .i32 0],.int .i32,false⟩ := ⟨Tryz.sizeOf171,Tryz.isAgg171,fun w => ⟨_,Tryz.zeroValue171 w,by simp [Vc.conc,Value.cells]⟩,fun _ => by simp [Vc.conc],rfl,⟨_,Tryz.underlying171,rfl⟩,(fun _ h => (by cases h)),(fun h => (by cases h)),⟨Tryz.t171,_,by kernel_rfl,rfl,rfl,rfl,by simp [Vc.conc,Value.cells]⟩⟩
theorem Tryz.ty172 : Vc.TyOK Tryz.prog 172 ⟨1,4,false,[.int .i32 0],.int .i32,false⟩ := ⟨Tryz.sizeOf172,Tryz.isAgg172,fun w => ⟨_,Tryz.zeroValue172 w,by simp [Vc.conc,Value.cells]⟩,fun _ => by simp [Vc.conc],rfl,⟨_,Tryz.underlying172,rfl⟩,(fun _ h => (by cases h)),(fun h => (by cases h)),⟨Tryz.t172,_,by kernel_rfl,rfl,rfl,rfl,by simp [Vc.conc,Value.cells]⟩⟩
theorem Tryz.ty173 : Vc.TyOK Tryz.prog 173 ⟨11,48,true,[.int .u64 0,.int .u64 0,.int .u32 0,.int .u8 0,.int .u8 0,.int .u8 0,.int .u8 0,.v .nilFunc,.v (.pointer none),.int .i32 0,.int .i32 0],.struct [(0,12),(1,12),(2,150),(3,168),(4,5),(5,5),(6,169),(7,170),(8,153),(9,171),(10,172)],false⟩ := ⟨Tryz.sizeOf173,Tryz.isAgg173,fun w => ⟨_,Tryz.zeroValue173 w,by simp [Vc.conc,Value.cells]⟩,fun _ => by simp [Vc.conc],rfl,⟨_,Tryz.underlying173,⟨_,rfl,rfl⟩⟩,(fun fs h f hf => by cases h; simp only [List.mem_cons,List.not_mem_nil,or_false] at hf; rcases hf with rfl | rfl | rfl | rfl | rfl | rfl | rfl | rfl | rfl | rfl | rfl <;> first | exact ⟨_,Tryz.sizeOf5⟩ | exact ⟨_,Tryz.sizeOf12⟩ | exact ⟨_,Tryz.sizeOf150⟩ | exact ⟨_,Tryz.sizeOf153⟩ | exact ⟨_,Tryz.sizeOf168⟩ | exact ⟨_,Tryz.sizeOf169⟩ | exact ⟨_,Tryz.sizeOf170⟩ | exact ⟨_,Tryz.sizeOf171⟩ | exact ⟨_,Tryz.sizeOf172⟩),(fun h => (by cases h)),⟨Tryz.t173,_,by kernel_rfl,rfl,rfl,rfl,by simp [Vc.conc,Value.cells]⟩⟩
theorem Tryz.ty174 : Vc.TyOK Tryz.prog 174 ⟨11,48,true,[.int .u64 0,.int .u64 0,.int .u32 0,.int .u8 0,.int .u8 0,.int .u8 0,.int .u8 0,.v .nilFunc,.v (.pointer none),.int .i32 0,.int .i32 0],.struct [(0,12),(1,12),(2,150),(3,168),(4,5),(5,5),(6,169),(7,170),(8,153),(9,171),(10,172)],false⟩ := ⟨Tryz.sizeOf174,Tryz.isAgg174,fun w => ⟨_,Tryz.zeroValue174 w,by simp [Vc.conc,Value.cells]⟩,fun _ => by simp [Vc.conc],rfl,⟨_,Tryz.underlying174,⟨_,rfl,rfl⟩⟩,(fun fs h f hf => by cases h; simp only [List.mem_cons,List.not_mem_nil,or_false] at hf; rcases hf with rfl | rfl | rfl | rfl | rfl | rfl | rfl | rfl | rfl | rfl | rfl <;> first | exact ⟨_,Tryz.sizeOf5⟩ | exact ⟨_,Tryz.sizeOf12⟩ | exact ⟨_,Tryz.sizeOf150⟩ | exact ⟨_,Tryz.sizeOf153⟩ | exact ⟨_,Tryz.sizeOf168⟩ | exact ⟨_,Tryz.sizeOf169⟩ | exact ⟨_,Tryz.sizeOf170⟩ | exact ⟨_,Tryz.sizeOf171⟩ | exact ⟨_,Tryz.sizeOf172⟩),(fun h => (by cases h)),⟨Tryz.t174,_,by kernel_rfl,rfl,rfl,rfl,by simp [Vc.conc,Value.cells]⟩⟩
def Tryz.Γ : TypeId → Option Vc.TI
  | 1 => some ⟨1,8,false,[.v .nilFunc],.other,false⟩
  | 2 => some ⟨1,8,false,[.int .i64 0],.int .i64,false⟩
  | 3 => some ⟨1,8,false,[.int .i64 0],.int .i64,false⟩
  | 4 => some ⟨1,1,false,[.bool false],.bool,false⟩
  | 5 => some ⟨1,1,false,[.int .u8 0],.int .u8,false⟩
  | 6 => some ⟨1,1,false,[.int .u8 0],.int .u8,false⟩
  | 7 => some ⟨4,24,true,[.int .i64 0,.int .i64 0,.bool false,.int .u8 0],.struct [(0,2),(1,3),(2,4),(3,6)],false⟩
  | 8 => some ⟨4,24,true,[.int .i64 0,.int .i64 0,.bool false,.int .u8 0],.struct [(0,2),(1,3),(2,4),(3,6)],false⟩
  | 9 => some ⟨1,16,false,[.str []],.str,false⟩
  | 10 => some ⟨1,16,false,[.str []],.str,false⟩
  | 11 => some ⟨1,16,false,[.str []],.str,false⟩
  | 12 => some ⟨1,8,false,[.int .u64 0],.int .u64,false⟩
  | 13 => some ⟨2,24,true,[.str [],.int .u64 0],.struct [(0,9),(1,12)],false⟩
  | 14 => some ⟨2,24,true,[.str [],.int .u64 0],.struct [(0,9),(1,12)],false⟩
  | 15 => some ⟨1,8,false,[.v (.pointer none)],.ptr 163,false⟩
  | 16 => some ⟨1,8,false,[.v (.pointer none)],.ptr 166,false⟩
  | 17 => some ⟨1,8,false,[.v (.pointer none)],.ptr 174,false⟩
  | 18 => some ⟨1,8,true,[.v (.pointer none)],.struct [(0,17)],false⟩
  | 19 => some ⟨1,8,true,[.v (.pointer none)],.struct [(0,17)],false⟩
  | 20 => some ⟨1,16,false,[.v .nilIface],.other,false⟩
  | 21 => some ⟨1,4,false,[.int .i32 0],.int .i32,false⟩
  | 22 => some ⟨1,24,false,[.nils],.slice 9,false⟩
  | 23 => some ⟨1,24,false,[.nils],.slice 25,false⟩
  | 24 => some ⟨4,72,true,[.int .i64 0,.str [],.nils,.nils],.struct [(0,3),(1,9),(2,22),(3,23)],false⟩
  | 25 => some ⟨4,72,true,[.int .i64 0,.str [],.nils,.nils],.struct [(0,3),(1,9),(2,22),(3,23)],false⟩
  | 26 => some ⟨1,8,false,[.v .nilFunc],.other,false⟩
  | 27 => some ⟨1,8,false,[.v .nilFunc],.other,false⟩
  | 28 => some ⟨1,8,false,[.int .i64 0],.int .i64,false⟩
  | 30 => some ⟨1,8,false,[.v .nilFunc],.other,false⟩
  | 31 => some ⟨1,24,false,[.nils],.slice 48,false⟩
  | 32 => some ⟨1,24,false,[.nils],.slice 46,false⟩
  | 33 => some ⟨5,112,true,[.str [],.nils,.nils,.nils,.nils],.struct [(0,9),(1,22),(2,22),(3,31),(4,32)],false⟩
  | 34 => some ⟨5,112,true,[.str [],.nils,.nils,.nils,.nils],.struct [(0,9),(1,22),(2,22),(3,31),(4,32)],false⟩
  | 36 => some ⟨1,8,false,[.v .nilFunc],.other,false⟩
  | 37 => some ⟨1,8,false,[.v .nilFunc],.other,false⟩
  | 38 => some ⟨1,8,false,[.v .nilFunc],.other,false⟩
  | 40 => some ⟨1,8,false,[.v .nilFunc],.other,false⟩
  | 41 => some ⟨1,8,false,[.v .nilFunc],.other,false⟩
  | 42 => some ⟨1,8,false,[.v .nilFunc],.other,false⟩
  | 43 => some ⟨1,8,false,[.v .nilFunc],.other,false⟩
  | 44 => some ⟨1,8,false,[.v .nilFunc],.other,false⟩
  | 45 => some ⟨3,64,true,[.str [],.nils,.nils],.struct [(0,9),(1,22),(2,22)],false⟩
  | 46 => some ⟨3,64,true,[.str [],.nils,.nils],.struct [(0,9),(1,22),(2,22)],false⟩
  | 47 => some ⟨3,48,true,[.str [],.str [],.str []],.struct [(0,9),(1,9),(2,9)],false⟩
  | 48 => some ⟨3,48,true,[.str [],.str [],.str []],.struct [(0,9),(1,9),(2,9)],true⟩
  | 49 => some ⟨1,8,false,[.v .nilFunc],.other,false⟩
  | 50 => some ⟨1,8,false,[.v .nilFunc],.other,false⟩
  | 51 => some ⟨1,8,false,[.v (.pointer none)],.ptr 53,false⟩
  | 52 => some ⟨5,48,true,[.str [],.int .i64 0,.int .i64 0,.int .i64 0,.int .i64 0],.struct [(0,9),(1,3),(2,3),(3,28),(4,3)],false⟩
  | 53 => some ⟨5,48,true,[.str [],.int .i64 0,.int .i64 0,.int .i64 0,.int .i64 0],.struct [(0,9),(1,3),(2,3),(3,28),(4,3)],true⟩
  | 54 => some ⟨1,8,false,[.v .nilFunc],.other,false⟩
  | 55 => some ⟨3,32,true,[.int .i64 0,.str [],.int .i64 0],.struct [(0,3),(1,9),(2,3)],false⟩
  | 56 => some ⟨3,32,true,[.int .i64 0,.str [],.int .i64 0],.struct [(0,3),(1,9),(2,3)],true⟩
  | 57 => some ⟨1,8,false,[.v .nilFunc],.other,false⟩
  | 58 => some ⟨1,8,false,[.v .nilFunc],.other,false⟩
  | 59 => some ⟨2,32,true,[.str [],.str []],.struct [(0,9),(1,9)],false⟩
  | 60 => some ⟨2,32,true,[.str [],.str []],.struct [(0,9),(1,9)],true⟩
  | 61 => some ⟨3,40,true,[.str [],.str [],.int .i64 0],.struct [(0,60),(2,28)],false⟩
  | 62 => some ⟨3,40,true,[.str [],.str [],.int .i64 0],.struct [(0,60),(2,28)],true⟩
  | 64 => some ⟨1,8,false,[.v .nilFunc],.other,false⟩
  | 65 => some ⟨1,8,false,[.v .nilFunc],.other,false⟩
  | 66 => some ⟨1,8,false,[.v .nilFunc],.other,false⟩
  | 67 => some ⟨1,8,false,[.v .nilFunc],.other,false⟩
  | 68 => some ⟨1,8,false,[.v .nilFunc],.other,false⟩
  | 69 => some ⟨1,8,false,[.v .nilFunc],.other,false⟩
  | 70 => some ⟨1,8,false,[.v .nilFunc],.other,false⟩
  | 71 => some ⟨1,8,false,[.v .nilFunc],.other,false⟩
  | 72 => some ⟨1,8,false,[.v (.pointer none)],.ptr 74,false⟩
  | 73 => some ⟨3,40,true,[.str [],.str [],.int .i64 0],.struct [(0,60),(2,28)],false⟩
  | 74 => some ⟨3,40,true,[.str [],.str [],.int .i64 0],.struct [(0,60),(2,28)],true⟩
  | 75 => some ⟨1,8,false,[.v .nilFunc],.other,false⟩
  | 76 => some ⟨1,8,false,[.v .nilFunc],.other,false⟩
  | 77 => some ⟨1,8,false,[.v .nilFunc],.other,false⟩
  | 78 => some ⟨1,8,false,[.v .nilFunc],.other,false⟩
  | 79 => some ⟨1,8,false,[.v .nilFunc],.other,false⟩
  | 80 => some ⟨7,88,true,[.str [],.str [],.str [],.str [],.str [],.bool false,.bool false],.struct [(0,60),(2,9),(3,9),(4,9),(5,4),(6,4)],false⟩
  | 81 => some ⟨7,88,true,[.str [],.str [],.str [],.str [],.str [],.bool false,.bool false],.struct [(0,60),(2,9),(3,9),(4,9),(5,4),(6,4)],true⟩
  | 83 => some ⟨1,8,false,[.v .nilFunc],.other,false⟩
  | 84 => some ⟨1,8,false,[.v .nilFunc],.other,false⟩
  | 85 => some ⟨1,8,false,[.v .nilFunc],.other,false⟩
  | 86 => some ⟨1,8,false,[.v .nilFunc],.other,false⟩
  | 87 => some ⟨1,8,false,[.v .nilFunc],.other,false⟩
  | 88 => some ⟨1,8,false,[.v .nilFunc],.other,false⟩
  | 89 => some ⟨1,8,false,[.v .nilFunc],.other,false⟩
  | 90 => some ⟨1,8,false,[.v .nilFunc],.other,false⟩
  | 91 => some ⟨1,8,false,[.v .nilFunc],.other,false⟩
  | 92 => some ⟨1,8,false,[.v .nilFunc],.other,false⟩
  | 94 => some ⟨1,8,false,[.v .nilFunc],.other,false⟩
  | 95 => some ⟨1,8,false,[.v .nilFunc],.other,false⟩
  | 96 => some ⟨1,8,false,[.v .nilFunc],.other,false⟩
  | 98 => some ⟨1,8,false,[.v .nilFunc],.other,false⟩
  | 100 => some ⟨1,8,false,[.v .nilFunc],.other,false⟩
  | 102 => some ⟨1,8,false,[.v .nilFunc],.other,false⟩
  | 103 => some ⟨1,8,false,[.v (.pointer none)],.ptr 62,false⟩
  | 104 => some ⟨1,8,false,[.v .nilFunc],.other,false⟩
  | 105 => some ⟨1,8,false,[.v .nilFunc],.other,false⟩
  | 106 => some ⟨1,8,false,[.v .nilFunc],.other,false⟩
  | 107 => some ⟨1,8,false,[.v .nilFunc],.other,false⟩
  | 108 => some ⟨1,8,false,[.v .nilFunc],.other,false⟩
  | 109 => some ⟨1,8,false,[.v .nilFunc],.other,false⟩
  | 110 => some ⟨1,8,false,[.v .nilFunc],.other,false⟩
  | 111 => some ⟨1,8,false,[.v .nilFunc],.other,false⟩
  | 112 => some ⟨1,8,false,[.v .nilFunc],.other,false⟩
  | 113 => some ⟨1,8,false,[.v .nilFunc],.other,false⟩
  | 114 => some ⟨1,8,false,[.int .u64 0],.int .u64,false⟩
  | 116 => some ⟨1,8,false,[.v .nilFunc],.other,false⟩
  | 117 => some ⟨1,8,false,[.v .nilFunc],.other,false⟩
  | 118 => some ⟨1,8,false,[.v .nilFunc],.other,false⟩
  | 119 => some ⟨1,8,false,[.v .nilFunc],.other,false⟩
  | 120 => some ⟨1,24,false,[.nils],.slice 5,false⟩
  | 122 => some ⟨1,8,false,[.v .nilFunc],.other,false⟩
  | 123 => some ⟨1,8,false,[.v .nilFunc],.other,false⟩
  | 125 => some ⟨1,8,false,[.v .nilFunc],.other,false⟩
  | 126 => some ⟨1,24,false,[.nils],.slice 5,false⟩
  | 127 => some ⟨1,8,false,[.v .nilFunc],.other,false⟩
  | 128 => some ⟨1,8,false,[.v .nilFunc],.other,false⟩
  | 129 => some ⟨1,8,false,[.v .nilFunc],.other,false⟩
  | 131 => some ⟨1,8,false,[.v .nilFunc],.other,false⟩
  | 132 => some ⟨1,8,false,[.v .nilFunc],.other,false⟩
  | 133 => some ⟨1,8,false,[.v .nilFunc],.other,false⟩
  | 134 => some ⟨1,8,false,[.int .u64 0],.int .u64,false⟩
  | 135 => some ⟨1,8,false,[.v (.pointer none)],.ptr 126,false⟩
  | 136 => some ⟨1,8,false,[.v (.pointer none)],.ptr 138,false⟩
  | 137 => some ⟨2,32,true,[.v (.pointer none),.nils],.struct [(0,136),(1,120)],false⟩
  | 138 => some ⟨2,32,true,[.v (.pointer none),.nils],.struct [(0,136),(1,120)],false⟩
  | 139 => some ⟨1,8,false,[.v .nilFunc],.other,false⟩
  | 140 => some ⟨1,16,false,[.v .nilIface],.other,false⟩
  | 141 => some ⟨1,16,false,[.v .nilIface],.other,false⟩
  | 143 => some ⟨1,8,false,[.v .nilFunc],.other,false⟩
  | 145 => some ⟨1,8,false,[.v .nilFunc],.other,false⟩
  | 146 => some ⟨1,8,false,[.v .nilFunc],.other,false⟩
  | 148 => some ⟨1,8,false,[.v .nilFunc],.other,false⟩
  | 149 => some ⟨1,8,false,[.v .nilFunc],.other,false⟩
  | 150 => some ⟨1,4,false,[.int .u32 0],.int .u32,false⟩
  | 152 => some ⟨1,8,false,[.v .nilFunc],.other,false⟩
  | 153 => some ⟨1,8,false,[.v (.pointer none)],.ptr 5,false⟩
  | 154 => some ⟨1,8,false,[.v .nilFunc],.other,false⟩
  | 156 => some ⟨1,8,false,[.v .nilFunc],.other,false⟩
  | 157 => some ⟨1,8,false,[.v .nilFunc],.other,false⟩
  | 159 => some ⟨2,2,true,[.int .u8 0,.int .u8 0],.struct [(0,5),(1,5)],false⟩
  | 160 => some ⟨2,2,true,[.int .u8 0,.int .u8 0],.struct [(0,5),(1,5)],false⟩
  | 161 => some ⟨32,32,true,[.int .u8 0,.int .u8 0,.int .u8 0,.int .u8 0,.int .u8 0,.int .u8 0,.int .u8 0,.int .u8 0,.int .u8 0,.int .u8 0,.int .u8 0,.int .u8 0,.int .u8 0,.int .u8 0,.int .u8 0,.int .u8 0,.int .u8 0,.int .u8 0,.int .u8 0,.int .u8 0,.int .u8 0,.int .u8 0,.int .u8 0,.int .u8 0,.int .u8 0,.int .u8 0,.int .u8 0,.int .u8 0,.int .u8 0,.int .u8 0,.int .u8 0,.int .u8 0],.arr 16 160,false⟩
  | 162 => some ⟨4,40,true,[.v (.pointer none),.v (.pointer none),.v (.pointer none),.str []],.struct [(0,17),(1,17),(2,17),(3,9)],false⟩
  | 163 => some ⟨4,40,true,[.v (.pointer none),.v (.pointer none),.v (.pointer none),.str []],.struct [(0,17),(1,17),(2,17),(3,9)],false⟩
  | 164 => some ⟨0,0,true,[],.arr 0 16,false⟩
  | 165 => some ⟨0,0,true,[],.struct [(0,164)],false⟩
  | 166 => some ⟨0,0,true,[],.struct [(0,164)],false⟩
  | 167 => some ⟨1,8,false,[.v .nilFunc],.other,false⟩
  | 168 => some ⟨1,1,false,[.int .u8 0],.int .u8,false⟩
  | 169 => some ⟨1,1,false,[.int .u8 0],.int .u8,false⟩
  | 170 => some ⟨1,8,false,[.v .nilFunc],.other,false⟩
  | 171 => some ⟨1,4,false,[.int .i32 0],.int .i32,false⟩
  | 172 => some ⟨1,4,false,[.int .i32 0],.int .i32,false⟩
  | 173 => some ⟨11,48,true,[.int .u64 0,.int .u64 0,.int .u32 0,.int .u8 0,.int .u8 0,.int .u8 0,.int .u8 0,.v .nilFunc,.v (.pointer none),.int .i32 0,.int .i32 0],.struct [(0,12),(1,12),(2,150),(3,168),(4,5),(5,5),(6,169),(7,170),(8,153),(9,171),(10,172)],false⟩
  | 174 => some ⟨11,48,true,[.int .u64 0,.int .u64 0,.int .u32 0,.int .u8 0,.int .u8 0,.int .u8 0,.int .u8 0,.v .nilFunc,.v (.pointer none),.int .i32 0,.int .i32 0],.struct [(0,12),(1,12),(2,150),(3,168),(4,5),(5,5),(6,169),(7,170),(8,153),(9,171),(10,172)],false⟩
  | _ => none
theorem Tryz.Γs : (((((((Tryz.Γ 1 = some ⟨1,8,false,[.v .nilFunc],.other,false⟩) ∧ (Tryz.Γ 2 = some ⟨1,8,false,[.int .i64 0],.int .i64,false⟩)) ∧ ((Tryz.Γ 3 = some ⟨1,8,false,[.int .i64 0],.int .i64,false⟩) ∧ (Tryz.Γ 4 = some ⟨1,1,false,[.bool false],.bool,false⟩))) ∧ (((Tryz.Γ 5 = some ⟨1,1,false,[.int .u8 0],.int .u8,false⟩) ∧ (Tryz.Γ 6 = some ⟨1,1,false,[.int .u8 0],.int .u8,false⟩)) ∧ ((Tryz.Γ 7 = some ⟨4,24,true,[.int .i64 0,.int .i64 0,.bool false,.int .u8 0],.struct [(0,2),(1,3),(2,4),(3,6)],false⟩) ∧ ((Tryz.Γ 8 = some ⟨4,24,true,[.int .i64 0,.int .i64 0,.bool false,.int .u8 0],.struct [(0,2),(1,3),(2,4),(3,6)],false⟩) ∧ (Tryz.Γ 9 = some ⟨1,16,false,[.str []],.str,false⟩))))) ∧ ((((Tryz.Γ 10 = some ⟨1,16,false,[.str []],.str,false⟩) ∧ (Tryz.Γ 11 = some ⟨1,16,false,[.str []],.str,false⟩)) ∧ ((Tryz.Γ 12 = some ⟨1,8,false,[.int .u64 0],.int .u64,false⟩) ∧ ((Tryz.Γ 13 = some ⟨2,24,true,[.str [],.int .u64 0],.struct [(0,9),(1,12)],false⟩) ∧ (Tryz.Γ 14 = some ⟨2,24,true,[.str [],.int .u64 0],.struct [(0,9),(1,12)],false⟩)))) ∧ (((Tryz.Γ 15 = some ⟨1,8,false,[.v (.pointer none)],.ptr 163,false⟩) ∧ (Tryz.Γ 16 = some ⟨1,8,false,[.v (.pointer none)],.ptr 166,false⟩)) ∧ ((Tryz.Γ 17 = some ⟨1,8,false,[.v (.pointer none)],.ptr 174,false⟩) ∧ ((Tryz.Γ 18 = some ⟨1,8,true,[.v (.pointer none)],.struct [(0,17)],false⟩) ∧ (Tryz.Γ 19 = some ⟨1,8,true,[.v (.pointer none)],.struct [(0,17)],false⟩)))))) ∧ (((((Tryz.Γ 20 = some ⟨1,16,false,[.v .nilIface],.other,false⟩) ∧ (Tryz.Γ 21 = some ⟨1,4,false,[.int .i32 0],.int .i32,false⟩)) ∧ ((Tryz.Γ 22 = some ⟨1,24,false,[.nils],.slice 9,false⟩) ∧ (Tryz.Γ 23 = some ⟨1,24,false,[.nils],.slice 25,false⟩))) ∧ (((Tryz.Γ 24 = some ⟨4,72,true,[.int .i64 0,.str [],.nils,.nils],.struct [(0,3),(1,9),(2,22),(3,23)],false⟩) ∧ (Tryz.Γ 25 = some ⟨4,72,true,[.int .i64 0,.str [],.nils,.nils],.struct [(0,3),(1,9),(2,22),(3,23)],false⟩)) ∧ ((Tryz.Γ 26 = some ⟨1,8,false,[.v .nilFunc],.other,false⟩) ∧ ((Tryz.Γ 27 = some ⟨1,8,false,[.v .nilFunc],.other,false⟩) ∧ (Tryz.Γ 28 = some ⟨1,8,false,[.int .i64 0],.int .i64,false⟩))))) ∧ ((((Tryz.Γ 30 = some ⟨1,8,false,[.v .nilFunc],.other,false⟩) ∧ (Tryz.Γ 31 = some ⟨1,24,false,[.nils],.slice 48,false⟩)) ∧ ((Tryz.Γ 32 = some ⟨1,24,false,[.nils],.slice 46,false⟩) ∧ ((Tryz.Γ 33 = some ⟨5,112,true,[.str [],.nils,.nils,.nils,.nils],.struct [(0,9),(1,22),(2,22),(3,31),(4,32)],false⟩) ∧ (Tryz.Γ 34 = some ⟨5,112,true,[.str [],.nils,.nils,.nils,.nils],.struct [(0,9),(1,22),(2,22),(3,31),(4,32)],false⟩)))) ∧ (((Tryz.Γ 36 = some ⟨1,8,false,[.v .nilFunc],.other,false⟩) ∧ (Tryz.Γ 37 = some ⟨1,8,false,[.v .nilFunc],.other,false⟩)) ∧ ((Tryz.Γ 38 = some ⟨1,8,false,[.v .nilFunc],.other,false⟩) ∧ ((Tryz.Γ 40 = some ⟨1,8,false,[.v .nilFunc],.other,false⟩) ∧ (Tryz.Γ 41 = some ⟨1,8,false,[.v .nilFunc],.other,false⟩))))))) ∧ ((((((Tryz.Γ 42 = some ⟨1,8,false,[.v .nilFunc],.other,false⟩) ∧ (Tryz.Γ 43 = some ⟨1,8,false,[.v .nilFunc],.other,false⟩)) ∧ ((Tryz.Γ 44 = some ⟨1,8,false,[.v .nilFunc],.other,false⟩) ∧ (Tryz.Γ 45 = some ⟨3,64,true,[.str [],.nils,.nils],.struct [(0,9),(1,22),(2,22)],false⟩))) ∧ (((Tryz.Γ 46 = some ⟨3,64,true,[.str [],.nils,.nils],.struct [(0,9),(1,22),(2,22)],false⟩) ∧ (Tryz.Γ 47 = some ⟨3,48,true,[.str [],.str [],.str []],.struct [(0,9),(1,9),(2,9)],false⟩)) ∧ ((Tryz.Γ 48 = some ⟨3,48,true,[.str [],.str [],.str []],.struct [(0,9),(1,9),(2,9)],true⟩) ∧ ((Tryz.Γ 49 = some ⟨1,8,false,[.v .nilFunc],.other,false⟩) ∧ (Tryz.Γ 50 = some ⟨1,8,false,[.v .nilFunc],.other,false⟩))))) ∧ ((((Tryz.Γ 51 = some ⟨1,8,false,[.v (.pointer none)],.ptr 53,false⟩) ∧ (Tryz.Γ 52 = some ⟨5,48,true,[.str [],.int .i64 0,.int .i64 0,.int .i64 0,.int .i64 0],.struct [(0,9),(1,3),(2,3),(3,28),(4,3)],false⟩)) ∧ ((Tryz.Γ 53 = some ⟨5,48,true,[.str [],.int .i64 0,.int .i64 0,.int .i64 0,.int .i64 0],.struct [(0,9),(1,3),(2,3),(3,28),(4,3)],true⟩) ∧ ((Tryz.Γ 54 = some ⟨1,8,false,[.v .nilFunc],.other,false⟩) ∧ (Tryz.Γ 55 = some ⟨3,32,true,[.int .i64 0,.str [],.int .i64 0],.struct [(0,3),(1,9),(2,3)],false⟩)))) ∧ (((Tryz.Γ 56 = some ⟨3,32,true,[.int .i64 0,.str [],.int .i64 0],.struct [(0,3),(1,9),(2,3)],true⟩) ∧ (Tryz.Γ 57 = some ⟨1,8,false,[.v .nilFunc],.other,false⟩)) ∧ ((Tryz.Γ 58 = some ⟨1,8,false,[.v .nilFunc],.other,false⟩) ∧ ((Tryz.Γ 59 = some ⟨2,32,true,[.str [],.str []],.struct [(0,9),(1,9)],false⟩) ∧ (Tryz.Γ 60 = some ⟨2,32,true,[.str [],.str []],.struct [(0,9),(1,9)],true⟩)))))) ∧ (((((Tryz.Γ 61 = some ⟨3,40,true,[.str [],.str [],.int .i64 0],.struct [(0,60),(2,28)],false⟩) ∧ (Tryz.Γ 62 = some ⟨3,40,true,[.str [],.str [],.int .i64 0],.struct [(0,60),(2,28)],true⟩)) ∧ ((Tryz.Γ 64 = some ⟨1,8,false,[.v .nilFunc],.other,false⟩) ∧ ((Tryz.Γ 65 = some ⟨1,8,false,[.v .nilFunc],.other,false⟩) ∧ (Tryz.Γ 66 = some ⟨1,8,false,[.v .nilFunc],.other,false⟩)))) ∧ (((Tryz.Γ 67 = some ⟨1,8,false,[.v .nilFunc],.other,false⟩) ∧ (Tryz.Γ 68 = some ⟨1,8,false,[.v .nilFunc],.other,false⟩)) ∧ ((Tryz.Γ 69 = some ⟨1,8,false,[.v .nilFunc],.other,false⟩) ∧ ((Tryz.Γ 70 = some ⟨1,8,false,[.v .nilFunc],.other,false⟩) ∧ (Tryz.Γ 71 = some ⟨1,8,false,[.v .nilFunc],.other,false⟩))))) ∧ ((((Tryz.Γ 72 = some ⟨1,8,false,[.v (.pointer none)],.ptr 74,false⟩) ∧ (Tryz.Γ 73 = some ⟨3,40,true,[.str [],.str [],.int .i64 0],.struct [(0,60),(2,28)],false⟩)) ∧ ((Tryz.Γ 74 = some ⟨3,40,true,[.str [],.str [],.int .i64 0],.struct [(0,60),(2,28)],true⟩) ∧ ((Tryz.Γ 75 = some ⟨1,8,false,[.v .nilFunc],.other,false⟩) ∧ (Tryz.Γ 76 = some ⟨1,8,false,[.v .nilFunc],.other,false⟩)))) ∧ (((Tryz.Γ 77 = some ⟨1,8,false,[.v .nilFunc],.other,false⟩) ∧ (Tryz.Γ 78 = some ⟨1,8,false,[.v .nilFunc],.other,false⟩)) ∧ ((Tryz.Γ 79 = some ⟨1,8,false,[.v .nilFunc],.other,false⟩) ∧ ((Tryz.Γ 80 = some ⟨7,88,true,[.str [],.str [],.str [],.str [],.str [],.bool false,.bool false],.struct [(0,60),(2,9),(3,9),(4,9),(5,4),(6,4)],false⟩) ∧ (Tryz.Γ 81 = some ⟨7,88,true,[.str [],.str [],.str [],.str [],.str [],.bool false,.bool false],.struct [(0,60),(2,9),(3,9),(4,9),(5,4),(6,4)],true⟩)))))))) ∧ (((((((Tryz.Γ 83 = some ⟨1,8,false,[.v .nilFunc],.other,false⟩) ∧ (Tryz.Γ 84 = some ⟨1,8,false,[.v .nilFunc],.other,false⟩)) ∧ ((Tryz.Γ 85 = some ⟨1,8,false,[.v .nilFunc],.other,false⟩) ∧ (Tryz.Γ 86 = some ⟨1,8,false,[.v .nilFunc],.other,false⟩))) ∧ (((Tryz.Γ 87 = some ⟨1,8,false,[.v .nilFunc],.other,false⟩) ∧ (Tryz.Γ 88 = some ⟨1,8,false,[.v .nilFunc],.other,false⟩)) ∧ ((Tryz.Γ 89 = some ⟨1,8,false,[.v .nilFunc],.other,false⟩) ∧ ((Tryz.Γ 90 = some ⟨1,8,false,[.v .nilFunc],.other,false⟩) ∧ (Tryz.Γ 91 = some ⟨1,8,false,[.v .nilFunc],.other,false⟩))))) ∧ ((((Tryz.Γ 92 = some ⟨1,8,false,[.v .nilFunc],.other,false⟩) ∧ (Tryz.Γ 94 = some ⟨1,8,false,[.v .nilFunc],.other,false⟩)) ∧ ((Tryz.Γ 95 = some ⟨1,8,false,[.v .nilFunc],.other,false⟩) ∧ ((Tryz.Γ 96 = some ⟨1,8,false,[.v .nilFunc],.other,false⟩) ∧ (Tryz.Γ 98 = some ⟨1,8,false,[.v .nilFunc],.other,false⟩)))) ∧ (((Tryz.Γ 100 = some ⟨1,8,false,[.v .nilFunc],.other,false⟩) ∧ (Tryz.Γ 102 = some ⟨1,8,false,[.v .nilFunc],.other,false⟩)) ∧ ((Tryz.Γ 103 = some ⟨1,8,false,[.v (.pointer none)],.ptr 62,false⟩) ∧ ((Tryz.Γ 104 = some ⟨1,8,false,[.v .nilFunc],.other,false⟩) ∧ (Tryz.Γ 105 = some ⟨1,8,false,[.v .nilFunc],.other,false⟩)))))) ∧ (((((Tryz.Γ 106 = some ⟨1,8,false,[.v .nilFunc],.other,false⟩) ∧ (Tryz.Γ 107 = some ⟨1,8,false,[.v .nilFunc],.other,false⟩)) ∧ ((Tryz.Γ 108 = some ⟨1,8,false,[.v .nilFunc],.other,false⟩) ∧ ((Tryz.Γ 109 = some ⟨1,8,false,[.v .nilFunc],.other,false⟩) ∧ (Tryz.Γ 110 = some ⟨1,8,false,[.v .nilFunc],.other,false⟩)))) ∧ (((Tryz.Γ 111 = some ⟨1,8,false,[.v .nilFunc],.other,false⟩) ∧ (Tryz.Γ 112 = some ⟨1,8,false,[.v .nilFunc],.other,false⟩)) ∧ ((Tryz.Γ 113 = some ⟨1,8,false,[.v .nilFunc],.other,false⟩) ∧ ((Tryz.Γ 114 = some ⟨1,8,false,[.int .u64 0],.int .u64,false⟩) ∧ (Tryz.Γ 116 = some ⟨1,8,false,[.v .nilFunc],.other,false⟩))))) ∧ ((((Tryz.Γ 117 = some ⟨1,8,false,[.v .nilFunc],.other,false⟩) ∧ (Tryz.Γ 118 = some ⟨1,8,false,[.v .nilFunc],.other,false⟩)) ∧ ((Tryz.Γ 119 = some ⟨1,8,false,[.v .nilFunc],.other,false⟩) ∧ ((Tryz.Γ 120 = some ⟨1,24,false,[.nils],.slice 5,false⟩) ∧ (Tryz.Γ 122 = some ⟨1,8,false,[.v .nilFunc],.other,false⟩)))) ∧ (((Tryz.Γ 123 = some ⟨1,8,false,[.v .nilFunc],.other,false⟩) ∧ (Tryz.Γ 125 = some ⟨1,8,false,[.v .nilFunc],.other,false⟩)) ∧ ((Tryz.Γ 126 = some ⟨1,24,false,[.nils],.slice 5,false⟩) ∧ ((Tryz.Γ 127 = some ⟨1,8,false,[.v .nilFunc],.other,false⟩) ∧ (Tryz.Γ 128 = some ⟨1,8,false,[.v .nilFunc],.other,false⟩))))))) ∧ ((((((Tryz.Γ 129 = some ⟨1,8,false,[.v .nilFunc],.other,false⟩) ∧ (Tryz.Γ 131 = some ⟨1,8,false,[.v .nilFunc],.other,false⟩)) ∧ ((Tryz.Γ 132 = some ⟨1,8,false,[.v .nilFunc],.other,false⟩) ∧ (Tryz.Γ 133 = some ⟨1,8,false,[.v .nilFunc],.other,false⟩))) ∧ (((Tryz.Γ 134 = some ⟨1,8,false,[.int .u64 0],.int .u64,false⟩) ∧ (Tryz.Γ 135 = some ⟨1,8,false,[.v (.pointer none)],.ptr 126,false⟩)) ∧ ((Tryz.Γ 136 = some ⟨1,8,false,[.v (.pointer none)],.ptr 138,false⟩) ∧ ((Tryz.Γ 137 = some ⟨2,32,true,[.v (.pointer none),.nils],.struct [(0,136),(1,120)],false⟩) ∧ (Tryz.Γ 138 = some ⟨2,32,true,[.v (.pointer none),.nils],.struct [(0,136),(1,120)],false⟩))))) ∧ ((((Tryz.Γ 139 = some ⟨1,8,false,[.v .nilFunc],.other,false⟩) ∧ (Tryz.Γ 140 = some ⟨1,16,false,[.v .nilIface],.other,false⟩)) ∧ ((Tryz.Γ 141 = some ⟨1,16,false,[.v .nilIface],.other,false⟩) ∧ ((Tryz.Γ 143 = some ⟨1,8,false,[.v .nilFunc],.other,false⟩) ∧ (Tryz.Γ 145 = some ⟨1,8,false,[.v .nilFunc],.other,false⟩)))) ∧ (((Tryz.Γ 146 = some ⟨1,8,false,[.v .nilFunc],.other,false⟩) ∧ (Tryz.Γ 148 = some ⟨1,8,false,[.v .nilFunc],.other,false⟩)) ∧ ((Tryz.Γ 149 = some ⟨1,8,false,[.v .nilFunc],.other,false⟩) ∧ ((Tryz.Γ 150 = some ⟨1,4,false,[.int .u32 0],.int .u32,false⟩) ∧ (Tryz.Γ 152 = some ⟨1,8,false,[.v .nilFunc],.other,false⟩)))))) ∧ (((((Tryz.Γ 153 = some ⟨1,8,false,[.v (.pointer none)],.ptr 5,false⟩) ∧ (Tryz.Γ 154 = some ⟨1,8,false,[.v .nilFunc],.other,false⟩)) ∧ ((Tryz.Γ 156 = some ⟨1,8,false,[.v .nilFunc],.other,false⟩) ∧ ((Tryz.Γ 157 = some ⟨1,8,false,[.v .nilFunc],.other,false⟩) ∧ (Tryz.Γ 159 = some ⟨2,2,true,[.int .u8 0,.int .u8 0],.struct [(0,5),(1,5)],false⟩)))) ∧ (((Tryz.Γ 160 = some ⟨2,2,true,[.int .u8 0,.int .u8 0],.struct [(0,5),(1,5)],false⟩) ∧ (Tryz.Γ 161 = some ⟨32,32,true,[.int .u8 0,.int .u8 0,.int .u8 0,.int .u8 0,.int .u8 0,.int .u8 0,.int .u8 0,.int .u8 0,.int .u8 0,.int .u8 0,.int .u8 0,.int .u8 0,.int .u8 0,.int .u8 0,.int .u8 0,.int .u8 0,.int .u8 0,.int .u8 0,.int .u8 0,.int .u8 0,.int .u8 0,.int .u8 0,.int .u8 0,.int .u8 0,.int .u8 0,.int .u8 0,.int .u8 0,.int .u8 0,.int .u8 0,.int .u8 0,.int .u8 0,.int .u8 0],.arr 16 160,false⟩)) ∧ ((Tryz.Γ 162 = some ⟨4,40,true,[.v (.pointer none),.v (.pointer none),.v (.pointer none),.str []],.struct [(0,17),(1,17),(2,17),(3,9)],false⟩) ∧ ((Tryz.Γ 163 = some ⟨4,40,true,[.v (.pointer none),.v (.pointer none),.v (.pointer none),.str []],.struct [(0,17),(1,17),(2,17),(3,9)],false⟩) ∧ (Tryz.Γ 164 = some ⟨0,0,true,[],.arr 0 16,false⟩))))) ∧ ((((Tryz.Γ 165 = some ⟨0,0,true,[],.struct [(0,164)],false⟩) ∧ (Tryz.Γ 166 = some ⟨0,0,true,[],.struct [(0,164)],false⟩)) ∧ ((Tryz.Γ 167 = some ⟨1,8,false,[.v .nilFunc],.other,false⟩) ∧ ((Tryz.Γ 168 = some ⟨1,1,false,[.int .u8 0],.int .u8,false⟩) ∧ (Tryz.Γ 169 = some ⟨1,1,false,[.int .u8 0],.int .u8,false⟩)))) ∧ (((Tryz.Γ 170 = some ⟨1,8,false,[.v .nilFunc],.other,false⟩) ∧ (Tryz.Γ 171 = some ⟨1,4,false,[.int .i32 0],.int .i32,false⟩)) ∧ ((Tryz.Γ 172 = some ⟨1,4,false,[.int .i32 0],.int .i32,false⟩) ∧ ((Tryz.Γ 173 = some ⟨11,48,true,[.int .u64 0,.int .u64 0,.int .u32 0,.int .u8 0,.int .u8 0,.int .u8 0,.int .u8 0,.v .nilFunc,.v (.pointer none),.int .i32 0,.int .i32 0],.struct [(0,12),(1,12),(2,150),(3,168),(4,5),(5,5),(6,169),(7,170),(8,153),(9,171),(10,172)],false⟩) ∧ (Tryz.Γ 174 = some ⟨11,48,true,[.int .u64 0,.int .u64 0,.int .u32 0,.int .u8 0,.int .u8 0,.int .u8 0,.int .u8 0,.v .nilFunc,.v (.pointer none),.int .i32 0,.int .i32 0],.struct [(0,12),(1,12),(2,150),(3,168),(4,5),(5,5),(6,169),(7,170),(8,153),(9,171),(10,172)],false⟩)))))))) :=
  ⟨⟨⟨⟨⟨⟨⟨rfl,rfl⟩,⟨rfl,rfl⟩⟩,⟨⟨rfl,rfl⟩,⟨rfl,⟨rfl,rfl⟩⟩⟩⟩,⟨⟨⟨rfl,rfl⟩,⟨rfl,⟨rfl,rfl⟩⟩⟩,⟨⟨rfl,rfl⟩,⟨rfl,⟨rfl,rfl⟩⟩⟩⟩⟩,⟨⟨⟨⟨rfl,rfl⟩,⟨rfl,rfl⟩⟩,⟨⟨rfl,rfl⟩,⟨rfl,⟨rfl,rfl⟩⟩⟩⟩,⟨⟨⟨rfl,rfl⟩,⟨rfl,⟨rfl,rfl⟩⟩⟩,⟨⟨rfl,rfl⟩,⟨rfl,⟨rfl,rfl⟩⟩⟩⟩⟩⟩,⟨⟨⟨⟨⟨rfl,rfl⟩,⟨rfl,rfl⟩⟩,⟨⟨rfl,rfl⟩,⟨rfl,⟨rfl,rfl⟩⟩⟩⟩,⟨⟨⟨rfl,rfl⟩,⟨rfl,⟨rfl,rfl⟩⟩⟩,⟨⟨rfl,rfl⟩,⟨rfl,⟨rfl,rfl⟩⟩⟩⟩⟩,⟨⟨⟨⟨rfl,rfl⟩,⟨rfl,⟨rfl,rfl⟩⟩⟩,⟨⟨rfl,rfl⟩,⟨rfl,⟨rfl,rfl⟩⟩⟩⟩,⟨⟨⟨rfl,rfl⟩,⟨rfl,⟨rfl,rfl⟩⟩⟩,⟨⟨rfl,rfl⟩,⟨rfl,⟨rfl,rfl⟩⟩⟩⟩⟩⟩⟩,⟨⟨⟨⟨⟨⟨rfl,rfl⟩,⟨rfl,rfl⟩⟩,⟨⟨rfl,rfl⟩,⟨rfl,⟨rfl,rfl⟩⟩⟩⟩,⟨⟨⟨rfl,rfl⟩,⟨rfl,⟨rfl,rfl⟩⟩⟩,⟨⟨rfl,rfl⟩,⟨rfl,⟨rfl,rfl⟩⟩⟩⟩⟩,⟨⟨⟨⟨rfl,rfl⟩,⟨rfl,⟨rfl,rfl⟩⟩⟩,⟨⟨rfl,rfl⟩,⟨rfl,⟨rfl,rfl⟩⟩⟩⟩,⟨⟨⟨rfl,rfl⟩,⟨rfl,⟨rfl,rfl⟩⟩⟩,⟨⟨rfl,rfl⟩,⟨rfl,⟨rfl,rfl⟩⟩⟩⟩⟩⟩,⟨⟨⟨⟨⟨rfl,rfl⟩,⟨rfl,rfl⟩⟩,⟨⟨rfl,rfl⟩,⟨rfl,⟨rfl,rfl⟩⟩⟩⟩,⟨⟨⟨rfl,rfl⟩,⟨rfl,⟨rfl,rfl⟩⟩⟩,⟨⟨rfl,rfl⟩,⟨rfl,⟨rfl,rfl⟩⟩⟩⟩⟩,⟨⟨⟨⟨rfl,rfl⟩,⟨rfl,⟨rfl,rfl⟩⟩⟩,⟨⟨rfl,rfl⟩,⟨rfl,⟨rfl,rfl⟩⟩⟩⟩,⟨⟨⟨rfl,rfl⟩,⟨rfl,⟨rfl,rfl⟩⟩⟩,⟨⟨rfl,rfl⟩,⟨rfl,⟨rfl,rfl⟩⟩⟩⟩⟩⟩⟩⟩
theorem Tryz.gok : Vc.GOK Tryz.prog Tryz.Γ := by
  intro T t h
  unfold Tryz.Γ at h
  split at h
  · cases h; exact Tryz.ty1
  · cases h; exact Tryz.ty2
  · cases h; exact Tryz.ty3
  · cases h; exact Tryz.ty4
  · cases h; exact Tryz.ty5
  · cases h; exact Tryz.ty6
  · cases h; exact Tryz.ty7
  · cases h; exact Tryz.ty8
  · cases h; exact Tryz.ty9
  · cases h; exact Tryz.ty10
  · cases h; exact Tryz.ty11
  · cases h; exact Tryz.ty12
  · cases h; exact Tryz.ty13
  · cases h; exact Tryz.ty14
  · cases h; exact Tryz.ty15
  · cases h; exact Tryz.ty16
  · cases h; exact Tryz.ty17
  · cases h; exact Tryz.ty18
  · cases h; exact Tryz.ty19
  · cases h; exact Tryz.ty20
  · cases h; exact Tryz.ty21
  · cases h; exact Tryz.ty22
  · cases h; exact Tryz.ty23
  · cases h; exact Tryz.ty24
  · cases h; exact Tryz.ty25
  · cases h; exact Tryz.ty26
  · cases h; exact Tryz.ty27
  · cases h; exact Tryz.ty28
  · cases h; exact Tryz.ty30
  · cases h; exact Tryz.ty31
  · cases h; exact Tryz.ty32
  · cases h; exact Tryz.ty33
  · cases h; exact Tryz.ty34
  · cases h; exact Tryz.ty36
  · cases h; exact Tryz.ty37
  · cases h; exact Tryz.ty38
  · cases h; exact Tryz.ty40
  · cases h; exact Tryz.ty41
  · cases h; exact Tryz.ty42
  · cases h; exact Tryz.ty43
  · cases h; exact Tryz.ty44
  · cases h; exact Tryz.ty45
  · cases h; exact Tryz.ty46
  · cases h; exact Tryz.ty47
  · cases h; exact Tryz.ty48
  · cases h; exact Tryz.ty49
  · cases h; exact Tryz.ty50
  · cases h; exact Tryz.ty51
  · cases h; exact Tryz.ty52
  · cases h; exact Tryz.ty53
  · cases h; exact Tryz.ty54
  · cases h; exact Tryz.ty55
  · cases h; exact Tryz.ty56
  · cases h; exact Tryz.ty57
  · cases h; exact Tryz.ty58
  · cases h; exact Tryz.ty59
  · cases h; exact Tryz.ty60
  · cases h; exact Tryz.ty61
  · cases h; exact Tryz.ty62
  · cases h; exact Tryz.ty64
  · cases h; exact Tryz.ty65
  · cases h; exact Tryz.ty66
  · cases h; exact Tryz.ty67
  · cases h; exact Tryz.ty68
  · cases h; exact Tryz.ty69
  · cases h; exact Tryz.ty70
  · cases h; exact Tryz.ty71
  · cases h; exact Tryz.ty72
  · cases h; exact Tryz.ty73
  · cases h; exact Tryz.ty74
  · cases h; exact Tryz.ty75
  · cases h; exact Tryz.ty76
  · cases h; exact Tryz.ty77
  · cases h; exact Tryz.ty78
  · cases h; exact Tryz.ty79
  · cases h; exact Tryz.ty80
  · cases h; exact Tryz.ty81
  · cases h; exact Tryz.ty83
  · cases h; exact Tryz.ty84
  · cases h; exact Tryz.ty85
  · cases h; exact Tryz.ty86
  · cases h; exact Tryz.ty87
  · cases h; exact Tryz.ty88
  · cases h; exact Tryz.ty89
  · cases h; exact Tryz.ty90
  · cases h; exact Tryz.ty91
  · cases h; exact Tryz.ty92
  · cases h; exact Tryz.ty94
  · cases h; exact Tryz.ty95
  · cases h; exact Tryz.ty96
  · cases h; exact Tryz.ty98
  · cases h; exact Tryz.ty100
  · cases h; exact Tryz.ty102
  · cases h; exact Tryz.ty103
  · cases h; exact Tryz.ty104
  · cases h; exact Tryz.ty105
  · cases h; exact Tryz.ty106
  · cases h; exact Tryz.ty107
  · cases h; exact Tryz.ty108
  · cases h; exact Tryz.ty109
  · cases h; exact Tryz.ty110
  · cases h; exact Tryz.ty111
  · cases h; exact Tryz.ty112
  · cases h; exact Tryz.ty113
  · cases h; exact Tryz.ty114
  · cases h; exact Tryz.ty116
  · cases h; exact Tryz.ty117
  · cases h; exact Tryz.ty118
  · cases h; exact Tryz.ty119
  · cases h; exact Tryz.ty120
  · cases h; exact Tryz.ty122
  · cases h; exact Tryz.ty123
  · cases h; exact Tryz.ty125
  · cases h; exact Tryz.ty126
  · cases h; exact Tryz.ty127
  · cases h; exact Tryz.ty128
  · cases h; exact Tryz.ty129
  · cases h; exact Tryz.ty131
  · cases h; exact Tryz.ty132
  · cases h; exact Tryz.ty133
  · cases h; exact Tryz.ty134
  · cases h; exact Tryz.ty135
  · cases h; exact Tryz.ty136
  · cases h; exact Tryz.ty137
  · cases h; exact Tryz.ty138
  · cases h; exact Tryz.ty139
  · cases h; exact Tryz.ty140
  · cases h; exact Tryz.ty141
  · cases h; exact Tryz.ty143
  · cases h; exact Tryz.ty145
  · cases h; exact Tryz.ty146
  · cases h; exact Tryz.ty148
  · cases h; exact Tryz.ty149
  · cases h; exact Tryz.ty150
  · cases h; exact Tryz.ty152
  · cases h; exact Tryz.ty153
  · cases h; exact Tryz.ty154
  · cases h; exact Tryz.ty156
  · cases h; exact Tryz.ty157
  · cases h; exact Tryz.ty159
  · cases h; exact Tryz.ty160
  · cases h; exact Tryz.ty161
  · cases h; exact Tryz.ty162
  · cases h; exact Tryz.ty163
  · cases h; exact Tryz.ty164
  · cases h; exact Tryz.ty165
  · cases h; exact Tryz.ty166
  · cases h; exact Tryz.ty167
  · cases h; exact Tryz.ty168
  · cases h; exact Tryz.ty169
  · cases h; exact Tryz.ty170
  · cases h; exact Tryz.ty171
  · cases h; exact Tryz.ty172
  · cases h; exact Tryz.ty173
  · cases h; exact Tryz.ty174
  · cases h
end Go.Proofs
/- Contracts of the library at this program,laid by the kit. -/
namespace Go.Proofs
open Go.Shelf
def Tryz.lays137_ren : Go.Shelf.Ren := ⟨fun | 137 => 99 | 217 => 113 | 266 => 132 | n => n,fun | 9 => 9 | 5 => 5 | 3 => 3 | n => n,fun | n => n⟩
theorem Tryz.lays137 : Go.Proofs.Lays.n137 Tryz.prog Tryz.lays137_ren := {
  mixed := by kernel_rfl
  f137 := Tryz.func99.trans (congrArg some (by kernel_rfl))
  f217 := Tryz.func113.trans (congrArg some (by kernel_rfl))
  f266 := Tryz.func132.trans (congrArg some (by kernel_rfl))
  t3 := Tryz.underlying3
  a3 := Tryz.isAgg3
  z3 := Tryz.sizeOf3
  v3 := Tryz.zeroValue3
  t5 := Tryz.underlying5
  a5 := Tryz.isAgg5
  z5 := Tryz.sizeOf5
  v5 := Tryz.zeroValue5
  t9 := Tryz.underlying9
  a9 := Tryz.isAgg9
  z9 := Tryz.sizeOf9
  v9 := Tryz.zeroValue9 }
open Go.RowKit in
theorem Tryz.strings_IndexByte (s : ByteArray) (c : Int) (w : World) :
    Calls Tryz.prog 99 #[.string s,.int .u8 c] w fun e w' => e = .returned (.int .i64 (Lib.indexByte s.data.toList c.toNat.toUInt8)) ∧ w' = w := Any.strings_IndexByte Tryz.lays137 s c w
def Tryz.lays210_ren : Go.Shelf.Ren := ⟨fun | 210 => 89 | 206 => 106 | n => n,fun | 9 => 9 | 4 => 4 | 3 => 3 | n => n,fun | n => n⟩
def Tryz.lays103_ren : Go.Shelf.Ren := ⟨fun | 103 => 60 | 210 => 89 | 206 => 106 | n => n,fun | 9 => 9 | 4 => 4 | 24 => 99 | 3 => 3 | n => n,fun | n => n⟩
theorem Tryz.lays103 : Go.Proofs.Lays.n103 Tryz.prog Tryz.lays103_ren := {
  mixed := by kernel_rfl
  f103 := Tryz.func60.trans (congrArg some (by kernel_rfl))
  f206 := Tryz.func106.trans (congrArg some (by kernel_rfl))
  f210 := Tryz.func89.trans (congrArg some (by kernel_rfl))
  t3 := Tryz.underlying3
  a3 := Tryz.isAgg3
  z3 := Tryz.sizeOf3
  v3 := Tryz.zeroValue3
  t4 := Tryz.underlying4
  a4 := Tryz.isAgg4
  z4 := Tryz.sizeOf4
  v4 := Tryz.zeroValue4
  t9 := Tryz.underlying9
  a9 := Tryz.isAgg9
  z9 := Tryz.sizeOf9
  v9 := Tryz.zeroValue9
  t24 := Tryz.underlying99
  a24 := Tryz.isAgg99
  z24 := Tryz.sizeOf99
  v24 := Tryz.zeroValue99 }
open Go.RowKit in
theorem Tryz.strings_CutPrefix (s p : ByteArray) (w : World) :
    Calls Tryz.prog 60 #[.string s,.string p] w fun e w' => e = .returned (.tuple #[.string ⟨(Lib.trimPrefix s.data.toList p.data.toList).toArray⟩,.bool (Lib.hasPrefix s.data.toList p.data.toList)]) ∧ w' = w := Any.strings_CutPrefix Tryz.lays103 s p w
def Tryz.lays219_ren : Go.Shelf.Ren := ⟨fun | 219 => 107 | 217 => 113 | 225 => 120 | 224 => 121 | 267 => 122 | 266 => 132 | 314 => 135 | n => n,fun | 9 => 9 | 3 => 3 | 4 => 4 | 5 => 5 | 46 => 134 | 146 => 151 | 51 => 150 | n => n,fun | 1 => 0 | n => n⟩
def Tryz.lays144_ren : Go.Shelf.Ren := ⟨fun | 144 => 94 | 143 => 111 | 219 => 107 | 217 => 113 | 225 => 120 | 224 => 121 | 267 => 122 | 266 => 132 | 314 => 135 | n => n,fun | 9 => 9 | 4 => 4 | 3 => 3 | 5 => 5 | 46 => 134 | 146 => 151 | 51 => 150 | n => n,fun | 1 => 0 | n => n⟩
theorem Tryz.lays144 : Go.Proofs.Lays.n144 Tryz.prog Tryz.lays144_ren := {
  mixed := by kernel_rfl
  f143 := Tryz.func111.trans (congrArg some (by kernel_rfl))
  f144 := Tryz.func94.trans (congrArg some (by kernel_rfl))
  f217 := Tryz.func113.trans (congrArg some (by kernel_rfl))
  f219 := Tryz.func107.trans (congrArg some (by kernel_rfl))
  f224 := Tryz.func121.trans (congrArg some (by kernel_rfl))
  f225 := Tryz.func120.trans (congrArg some (by kernel_rfl))
  f266 := Tryz.func132.trans (congrArg some (by kernel_rfl))
  f267 := Tryz.func122.trans (congrArg some (by kernel_rfl))
  f314 := Tryz.func135.trans (congrArg some (by kernel_rfl))
  t3 := Tryz.underlying3
  a3 := Tryz.isAgg3
  z3 := Tryz.sizeOf3
  v3 := Tryz.zeroValue3
  t4 := Tryz.underlying4
  a4 := Tryz.isAgg4
  z4 := Tryz.sizeOf4
  v4 := Tryz.zeroValue4
  t5 := Tryz.underlying5
  a5 := Tryz.isAgg5
  z5 := Tryz.sizeOf5
  v5 := Tryz.zeroValue5
  t9 := Tryz.underlying9
  a9 := Tryz.isAgg9
  z9 := Tryz.sizeOf9
  v9 := Tryz.zeroValue9
  t46 := Tryz.underlying134
  a46 := Tryz.isAgg134
  z46 := Tryz.sizeOf134
  v46 := Tryz.zeroValue134
  t51 := Tryz.underlying150
  a51 := Tryz.isAgg150
  z51 := Tryz.sizeOf150
  v51 := Tryz.zeroValue150
  t146 := Tryz.underlying151
  a146 := Tryz.isAgg151
  z146 := Tryz.sizeOf151
  v146 := Tryz.zeroValue151
  g1 := by kernel_rfl }
open Go.RowKit Go.Lib in
theorem Tryz.strings_Contains_one (s : ByteArray) (c : UInt8) (w : World) :
    Calls Tryz.prog 94 #[.string s,.string ⟨#[c]⟩] w fun e w' => e = .returned (.bool (decide (0 ≤ Lib.indexByte s.data.toList c))) ∧ w' = w := Any.strings_Contains_one Tryz.lays144 s c w
def Tryz.lays145_ren : Go.Shelf.Ren := ⟨fun | 145 => 61 | 220 => 90 | 219 => 107 | 217 => 113 | 225 => 120 | 224 => 121 | 267 => 122 | 266 => 132 | 314 => 135 | n => n,fun | 9 => 9 | 4 => 4 | 59 => 101 | 3 => 3 | 5 => 5 | 46 => 134 | 146 => 151 | 51 => 150 | n => n,fun | 1 => 0 | n => n⟩
theorem Tryz.lays145 : Go.Proofs.Lays.n145 Tryz.prog Tryz.lays145_ren := {
  mixed := by kernel_rfl
  f145 := Tryz.func61.trans (congrArg some (by kernel_rfl))
  f217 := Tryz.func113.trans (congrArg some (by kernel_rfl))
  f219 := Tryz.func107.trans (congrArg some (by kernel_rfl))
  f220 := Tryz.func90.trans (congrArg some (by kernel_rfl))
  f224 := Tryz.func121.trans (congrArg some (by kernel_rfl))
  f225 := Tryz.func120.trans (congrArg some (by kernel_rfl))
  f266 := Tryz.func132.trans (congrArg some (by kernel_rfl))
  f267 := Tryz.func122.trans (congrArg some (by kernel_rfl))
  f314 := Tryz.func135.trans (congrArg some (by kernel_rfl))
  t3 := Tryz.underlying3
  a3 := Tryz.isAgg3
  z3 := Tryz.sizeOf3
  v3 := Tryz.zeroValue3
  t4 := Tryz.underlying4
  a4 := Tryz.isAgg4
  z4 := Tryz.sizeOf4
  v4 := Tryz.zeroValue4
  t5 := Tryz.underlying5
  a5 := Tryz.isAgg5
  z5 := Tryz.sizeOf5
  v5 := Tryz.zeroValue5
  t9 := Tryz.underlying9
  a9 := Tryz.isAgg9
  z9 := Tryz.sizeOf9
  v9 := Tryz.zeroValue9
  t46 := Tryz.underlying134
  a46 := Tryz.isAgg134
  z46 := Tryz.sizeOf134
  v46 := Tryz.zeroValue134
  t51 := Tryz.underlying150
  a51 := Tryz.isAgg150
  z51 := Tryz.sizeOf150
  v51 := Tryz.zeroValue150
  t59 := Tryz.underlying101
  a59 := Tryz.isAgg101
  z59 := Tryz.sizeOf101
  v59 := Tryz.zeroValue101
  t146 := Tryz.underlying151
  a146 := Tryz.isAgg151
  z146 := Tryz.sizeOf151
  v146 := Tryz.zeroValue151
  g1 := by kernel_rfl }
open Go.RowKit Go.Lib in
theorem Tryz.strings_Cut (s sep : ByteArray) (m : Int) (w : World) (hs : s.size < 4294967281) (hm : w.cell? ⟨0,0,none⟩ = some (.int .i64 m)) :
    Calls Tryz.prog 61 #[.string s,.string sep] w fun e w' => e = .returned (.tuple #[.string ⟨(Lib.cut s.data.toList sep.data.toList).1.toArray⟩,.string ⟨(Lib.cut s.data.toList sep.data.toList).2.1.toArray⟩,.bool (Lib.cut s.data.toList sep.data.toList).2.2]) ∧ ∃ n,w' = w.drewN n := Any.strings_Cut Tryz.lays145 s sep m w hs hm
def Tryz.lays99_ren : Go.Shelf.Ren := ⟨fun | 99 => 97 | 206 => 106 | n => n,fun | 9 => 9 | 4 => 4 | 3 => 3 | n => n,fun | n => n⟩
theorem Tryz.lays99 : Go.Proofs.Lays.n99 Tryz.prog Tryz.lays99_ren := {
  mixed := by kernel_rfl
  f99 := Tryz.func97.trans (congrArg some (by kernel_rfl))
  f206 := Tryz.func106.trans (congrArg some (by kernel_rfl))
  t3 := Tryz.underlying3
  a3 := Tryz.isAgg3
  z3 := Tryz.sizeOf3
  v3 := Tryz.zeroValue3
  t4 := Tryz.underlying4
  a4 := Tryz.isAgg4
  z4 := Tryz.sizeOf4
  v4 := Tryz.zeroValue4
  t9 := Tryz.underlying9
  a9 := Tryz.isAgg9
  z9 := Tryz.sizeOf9
  v9 := Tryz.zeroValue9 }
open Go.RowKit Go.Lib in
theorem Tryz.strings_HasPrefix (s p : ByteArray) (w : World) :
    Calls Tryz.prog 97 #[.string s,.string p] w fun e w' => e = .returned (.bool (Lib.hasPrefix s.data.toList p.data.toList)) ∧ w' = w := Any.strings_HasPrefix Tryz.lays99 s p w
def Tryz.lays100_ren : Go.Shelf.Ren := ⟨fun | 100 => 64 | 207 => 96 | n => n,fun | 9 => 9 | 4 => 4 | 3 => 3 | n => n,fun | n => n⟩
theorem Tryz.lays100 : Go.Proofs.Lays.n100 Tryz.prog Tryz.lays100_ren := {
  mixed := by kernel_rfl
  f100 := Tryz.func64.trans (congrArg some (by kernel_rfl))
  f207 := Tryz.func96.trans (congrArg some (by kernel_rfl))
  t3 := Tryz.underlying3
  a3 := Tryz.isAgg3
  z3 := Tryz.sizeOf3
  v3 := Tryz.zeroValue3
  t4 := Tryz.underlying4
  a4 := Tryz.isAgg4
  z4 := Tryz.sizeOf4
  v4 := Tryz.zeroValue4
  t9 := Tryz.underlying9
  a9 := Tryz.isAgg9
  z9 := Tryz.sizeOf9
  v9 := Tryz.zeroValue9 }
open Go.RowKit Go.Lib in
theorem Tryz.strings_HasSuffix (s p : ByteArray) (w : World) (hs : s.size ≤ 9223372036854775807) :
    Calls Tryz.prog 64 #[.string s,.string p] w fun e w' => e = .returned (.bool (Lib.hasSuffix s.data.toList p.data.toList)) ∧ w' = w := Any.strings_HasSuffix Tryz.lays100 s p w hs
def Tryz.lays154_ren : Go.Shelf.Ren := ⟨fun | 154 => 112 | 138 => 127 | 165 => 128 | 143 => 111 | 166 => 129 | 197 => 130 | 169 => 131 | 195 => 137 | 218 => 138 | 240 => 139 | 241 => 140 | 219 => 107 | 260 => 141 | 276 => 143 | 277 => 144 | 217 => 113 | 225 => 120 | 224 => 121 | 267 => 122 | 266 => 132 | 314 => 135 | n => n,fun | 9 => 9 | 3 => 3 | 4 => 4 | 72 => 138 | 0 => 0 | 76 => 142 | 105 => 144 | 21 => 21 | 5 => 5 | 70 => 136 | 20 => 20 | 37 => 120 | 75 => 141 | 127 => 153 | 164 => 155 | 46 => 134 | 119 => 158 | 139 => 161 | 138 => 160 | 146 => 151 | 51 => 150 | 80 => 146 | n => n,fun | 1 => 0 | 3 => 1 | 4 => 2 | n => n⟩
def Tryz.lays155_ren : Go.Shelf.Ren := ⟨fun | 155 => 95 | 154 => 112 | 138 => 127 | 165 => 128 | 143 => 111 | 166 => 129 | 197 => 130 | 169 => 131 | 195 => 137 | 218 => 138 | 240 => 139 | 241 => 140 | 219 => 107 | 260 => 141 | 276 => 143 | 277 => 144 | 217 => 113 | 225 => 120 | 224 => 121 | 267 => 122 | 266 => 132 | 314 => 135 | n => n,fun | 9 => 9 | 3 => 3 | 4 => 4 | 72 => 138 | 0 => 0 | 76 => 142 | 105 => 144 | 21 => 21 | 5 => 5 | 70 => 136 | 20 => 20 | 37 => 120 | 75 => 141 | 127 => 153 | 164 => 155 | 46 => 134 | 119 => 158 | 139 => 161 | 138 => 160 | 146 => 151 | 51 => 150 | 80 => 146 | n => n,fun | 1 => 0 | 3 => 1 | 4 => 2 | n => n⟩
theorem Tryz.lays155 : Go.Proofs.Lays.n155 Tryz.prog Tryz.lays155_ren := {
  mixed := by kernel_rfl
  f138 := Tryz.func127.trans (congrArg some (by kernel_rfl))
  f143 := Tryz.func111.trans (congrArg some (by kernel_rfl))
  f154 := Tryz.func112.trans (congrArg some (by kernel_rfl))
  f155 := Tryz.func95.trans (congrArg some (by kernel_rfl))
  f165 := Tryz.func128.trans (congrArg some (by kernel_rfl))
  f166 := Tryz.func129.trans (congrArg some (by kernel_rfl))
  f169 := Tryz.func131.trans (congrArg some (by kernel_rfl))
  f195 := Tryz.func137.trans (congrArg some (by kernel_rfl))
  f197 := Tryz.func130.trans (congrArg some (by kernel_rfl))
  f217 := Tryz.func113.trans (congrArg some (by kernel_rfl))
  f218 := Tryz.func138.trans (congrArg some (by kernel_rfl))
  f219 := Tryz.func107.trans (congrArg some (by kernel_rfl))
  f224 := Tryz.func121.trans (congrArg some (by kernel_rfl))
  f225 := Tryz.func120.trans (congrArg some (by kernel_rfl))
  f240 := Tryz.func139.trans (congrArg some (by kernel_rfl))
  f241 := Tryz.func140.trans (congrArg some (by kernel_rfl))
  f260 := Tryz.func141.trans (congrArg some (by kernel_rfl))
  f266 := Tryz.func132.trans (congrArg some (by kernel_rfl))
  f267 := Tryz.func122.trans (congrArg some (by kernel_rfl))
  f276 := Tryz.func143.trans (congrArg some (by kernel_rfl))
  f277 := Tryz.func144.trans (congrArg some (by kernel_rfl))
  f314 := Tryz.func135.trans (congrArg some (by kernel_rfl))
  t0 := Tryz.underlying0
  a0 := Tryz.isAgg0
  z0 := Tryz.sizeOf0
  v0 := Tryz.zeroValue0
  t3 := Tryz.underlying3
  a3 := Tryz.isAgg3
  z3 := Tryz.sizeOf3
  v3 := Tryz.zeroValue3
  t4 := Tryz.underlying4
  a4 := Tryz.isAgg4
  z4 := Tryz.sizeOf4
  v4 := Tryz.zeroValue4
  t5 := Tryz.underlying5
  a5 := Tryz.isAgg5
  z5 := Tryz.sizeOf5
  v5 := Tryz.zeroValue5
  t9 := Tryz.underlying9
  a9 := Tryz.isAgg9
  z9 := Tryz.sizeOf9
  v9 := Tryz.zeroValue9
  t20 := Tryz.underlying20
  a20 := Tryz.isAgg20
  z20 := Tryz.sizeOf20
  v20 := Tryz.zeroValue20
  t21 := Tryz.underlying21
  a21 := Tryz.isAgg21
  z21 := Tryz.sizeOf21
  v21 := Tryz.zeroValue21
  t37 := Tryz.underlying120
  a37 := Tryz.isAgg120
  z37 := Tryz.sizeOf120
  v37 := Tryz.zeroValue120
  t46 := Tryz.underlying134
  a46 := Tryz.isAgg134
  z46 := Tryz.sizeOf134
  v46 := Tryz.zeroValue134
  t51 := Tryz.underlying150
  a51 := Tryz.isAgg150
  z51 := Tryz.sizeOf150
  v51 := Tryz.zeroValue150
  t70 := Tryz.underlying136
  a70 := Tryz.isAgg136
  z70 := Tryz.sizeOf136
  v70 := Tryz.zeroValue136
  t72 := Tryz.underlying138
  a72 := Tryz.isAgg138
  z72 := Tryz.sizeOf138
  v72 := Tryz.zeroValue138
  t75 := Tryz.underlying141
  a75 := Tryz.isAgg141
  z75 := Tryz.sizeOf141
  v75 := Tryz.zeroValue141
  t76 := Tryz.underlying142
  a76 := Tryz.isAgg142
  z76 := Tryz.sizeOf142
  v76 := Tryz.zeroValue142
  t105 := Tryz.underlying144
  a105 := Tryz.isAgg144
  z105 := Tryz.sizeOf144
  v105 := Tryz.zeroValue144
  t119 := Tryz.underlying158
  a119 := Tryz.isAgg158
  z119 := Tryz.sizeOf158
  t127 := Tryz.underlying153
  a127 := Tryz.isAgg153
  z127 := Tryz.sizeOf153
  v127 := Tryz.zeroValue153
  t138 := Tryz.underlying160
  a138 := Tryz.isAgg160
  z138 := Tryz.sizeOf160
  v138 := Tryz.zeroValue160
  t139 := Tryz.underlying161
  a139 := Tryz.isAgg161
  z139 := Tryz.sizeOf161
  v139 := Tryz.zeroValue161
  t146 := Tryz.underlying151
  a146 := Tryz.isAgg151
  z146 := Tryz.sizeOf151
  v146 := Tryz.zeroValue151
  t164 := Tryz.underlying155
  a164 := Tryz.isAgg155
  z164 := Tryz.sizeOf155
  v164 := Tryz.zeroValue155
  g1 := by kernel_rfl
  g3 := by kernel_rfl
  g4 := by kernel_rfl }
theorem Tryz.Builder_Extra_155 : Builder.Extra Tryz.prog Tryz.lays155_ren := {
  sizeBuilder := by kernel_rfl
  liesBuilder := by kernel_rfl
  t5 := Tryz.underlying5
  a5 := Tryz.isAgg5
  z5 := Tryz.sizeOf5
  v5 := Tryz.zeroValue5
  infoByte := by kernel_rfl
  cellsByte := by kernel_rfl
  sizeByte := by kernel_rfl
  neB5 := by decide }
open Go.RowKit Go.Lib in
theorem Tryz.strings_ReplaceAll (s old new : ByteArray) (m : Int) (w : World) (hs : s.size < 4294967281) (hm : w.cell? ⟨0,0,none⟩ = some (.int .i64 m)) (h1 : 1 ≤ old.size) (hlen : s.size + Lib.countB s old * new.size ≤ 140737488355328) :
    Calls Tryz.prog 95 #[.string s,.string old,.string new] w fun e w' =>
      e = .returned (.string ⟨(Lib.replaceAll s.data.toList old.data.toList new.data.toList).toArray⟩) ∧ Below w.heap.size w w' := Any.strings_ReplaceAll Tryz.lays155 Tryz.Builder_Extra_155 s old new m w hs hm h1 hlen
end Go.Proofs
/- Plain functions: splitting,URIs,percent-encoding,hosts,URLs. -/
set_option linter.all false
namespace Wf
open Go Go.RowKit
theorem index_one (c : UInt8) (s : Bytes) : Lib.index s [c] = Lib.indexByte s c := by
  induction s with
  | nil => rfl
  | cons b l ih =>
    rw [Lib.index,Lib.indexByte,ih]
    have : [c].isPrefixOf (b :: l) = (b == c) := by simp [List.isPrefixOf]; exact Bool.beq_comm
    rw [this]
def cutC (c : UInt8) (s : Bytes) : Bytes × Bytes × Bool :=
  if pre (· == c) s < s.length then (s.take (pre (· == c) s),s.drop (pre (· == c) s + 1),true) else (s,[],false)
theorem cutC_len (c : UInt8) (s : Bytes) : (cutC c s).1.length ≤ s.length ∧ (cutC c s).2.1.length ≤ s.length := by
  unfold cutC
  split
  · simp; omega
  · simp
theorem cut_one (c : UInt8) (s : Bytes) : Lib.cut s [c] = cutC c s := by
  unfold Lib.cut cutC
  rw [index_one,indexByte_pre]
  by_cases h : pre (· == c) s < s.length
  · simp [h]
  · simp [h]
def splitC (c : UInt8) : Bytes → List Bytes
  | [] => [[]]
  | x :: r => if x == c then [] :: splitC c r else match splitC c r with
    | h :: t => (x :: h) :: t
    | [] => [[x]]
theorem splitC_miss {c : UInt8} {s : Bytes} (h : ¬ pre (· == c) s < s.length) : splitC c s = [s] := by
  induction s with
  | nil => rfl
  | cons x r ih =>
    rw [pre_cons] at h
    rw [splitC]
    cases hx : x == c
    · rw [hx] at h
      simp at h
      rw [ih (by omega)]
      rfl
    · rw [hx] at h; simp at h
theorem splitC_hit {c : UInt8} {s : Bytes} (h : pre (· == c) s < s.length) : splitC c s = s.take (pre (· == c) s) :: splitC c (s.drop (pre (· == c) s + 1)) := by
  induction s with
  | nil => simp at h
  | cons x r ih =>
    rw [pre_cons] at h ⊢
    rw [splitC]
    cases hx : x == c
    · rw [hx] at h
      simp at h
      rw [ih h]
      simp
    · simp
theorem count_pre {c : UInt8} {s : Bytes} (h : pre (· == c) s < s.length) : s.count c = (s.drop (pre (· == c) s + 1)).count c + 1 := by
  induction s with
  | nil => simp at h
  | cons x r ih =>
    rw [pre_cons] at h ⊢
    cases hx : x == c
    · rw [hx] at h
      simp at h
      rw [List.count_cons,hx,ih h]
      simp
    · simp [List.count_cons,hx]
theorem count_zero {c : UInt8} {s : Bytes} (h : ¬ pre (· == c) s < s.length) : s.count c = 0 := by
  induction s with
  | nil => rfl
  | cons x r ih =>
    rw [pre_cons] at h
    cases hx : x == c
    · rw [hx] at h
      simp at h
      rw [List.count_cons,hx,ih (by omega)]; rfl
    · rw [hx] at h; simp at h
def strV (l : Bytes) : Value := .string ⟨List.toArray l⟩
end Wf
namespace Wf
open Go Go.RowKit
structure Uri where
  scheme : Bytes
  authority : Bytes
  path : Bytes
  query : Bytes
  fragment : Bytes
  hasScheme : Bool
  hasAuthority : Bool
  hasQuery : Bool
  hasFrag : Bool
  deriving DecidableEq
def Uri.none : Uri := ⟨[],[],[],[],[],false,false,false,false⟩
def Uri.cells (u : Uri) : Array Value := #[strV u.scheme,strV u.authority,strV u.path,strV u.query,strV u.fragment,.bool u.hasScheme,.bool u.hasAuthority,.bool u.hasQuery,.bool u.hasFrag]
def Uri.val (u : Uri) : Value := .agg u.cells
def schemeC (c : UInt8) : Bool := isAlpha c || isDigit c || [43,45,46].contains c
def schemeOk (s : Bytes) : Bool := match s with
  | [] => false
  | c :: r => isAlpha c && r.all schemeC
def colonSlash (c : UInt8) : Bool := [58,47].contains c
def authPath (s : Bytes) : Bytes × Bool × Bytes := match s with
  | 47 :: 47 :: r => (r.take (pre (· == 47) r),true,r.drop (pre (· == 47) r))
  | s => ([],false,s)
def splitRest (s frag query : Bytes) (hasFrag hasQuery : Bool) : Uri × Int :=
  if (s.drop (pre colonSlash s)).head? = some 58 then
    if schemeOk (s.take (pre colonSlash s)) then
      (⟨s.take (pre colonSlash s),(authPath (s.drop (pre colonSlash s + 1))).1,(authPath (s.drop (pre colonSlash s + 1))).2.2,query,frag,true,(authPath (s.drop (pre colonSlash s + 1))).2.1,hasQuery,hasFrag⟩,0)
    else (Uri.none,6)
  else (⟨[],(authPath s).1,(authPath s).2.2,query,frag,false,(authPath s).2.1,hasQuery,hasFrag⟩,0)
def uriSplit (s : Bytes) : Uri × Int :=
  if 16384 < s.length then (Uri.none,5)
  else splitRest (cutC 63 (cutC 35 s).1).1 (cutC 35 s).2.1 (cutC 63 (cutC 35 s).1).2.1 (cutC 35 s).2.2 (cutC 63 (cutC 35 s).1).2.2
def uriJoin (u : Uri) : Bytes :=
  (if u.hasScheme then u.scheme ++ [58] else []) ++ (if u.hasAuthority then [47,47] ++ u.authority else []) ++ u.path ++ (if u.hasQuery then [63] ++ u.query else []) ++ (if u.hasFrag then [35] ++ u.fragment else [])
def shorten (out : Bytes) : Bytes := (out.reverse.dropWhile (· != 47)).drop 1 |>.reverse
def dotStep (path out : Bytes) : Bytes × Bytes :=
  if [46,46,47].isPrefixOf path then (path.drop 3,out)
  else if [46,47].isPrefixOf path then (path.drop 2,out)
  else if [47,46,47].isPrefixOf path then (path.drop 2,out)
  else if path = [47,46] then ([47],out)
  else if [47,46,46,47].isPrefixOf path then (path.drop 3,shorten out)
  else if path = [47,46,46] then ([47],shorten out)
  else if path = [46] ∨ path = [46,46] then ([],out)
  else (path.drop (1 + pre (· == 47) (path.drop 1)),out ++ path.take (1 + pre (· == 47) (path.drop 1)))
def dotsGo : Nat → Bytes → Bytes → Bytes
  | 0,_,out => out
  | f + 1,path,out => if path = [] then out else dotsGo f (dotStep path out).1 (dotStep path out).2
def removeDots (path : Bytes) : Bytes := dotsGo path.length path []
end Wf
namespace Wf
open Go Go.RowKit
def unres (c : UInt8) : Bool := isAlpha c || isDigit c || ([45,46,95,126] : Bytes).contains c
def hexU (n : Nat) : UInt8 := if n < 10 then (48 + n).toUInt8 else (55 + n).toUInt8
def esc (c : UInt8) : Bytes := [37,hexU (c.toNat / 16),hexU (c.toNat % 16)]
def unhex (a b : UInt8) : UInt8 := (hexVal a * 16 + hexVal b).toUInt8
inductive PU where
  | lit (c : UInt8) | hex (a b : UInt8) | bad
  deriving DecidableEq
def hexPair : Bytes → Option (UInt8 × UInt8 × Bytes)
  | a :: b :: r => if isHex a && isHex b then some (a,b,r) else none
  | _ => none
theorem hexPair_some {s r : Bytes} {a b : UInt8} (h : hexPair s = some (a,b,r)) : s = a :: b :: r ∧ isHex a = true ∧ isHex b = true := by
  unfold hexPair at h
  split at h
  · split at h
    · rename_i hx
      simp only [Bool.and_eq_true] at hx
      cases h
      exact ⟨rfl,hx⟩
    · cases h
  · cases h
def unitsGo : Nat → Bytes → List PU
  | 0,_ => []
  | _ + 1,[] => []
  | f + 1,c :: r => if c = 37 then (match hexPair r with
      | some (a,b,r) => .hex a b :: unitsGo f r
      | none => [.bad]) else .lit c :: unitsGo f r
def units (s : Bytes) : List PU := unitsGo s.length s
theorem unitsGo_fuel : ∀ (f g : Nat) (s : Bytes),s.length ≤ f → s.length ≤ g → unitsGo f s = unitsGo g s
  | 0,0,_,_,_ => rfl
  | 0,g + 1,s,h,_ => by obtain rfl := List.length_eq_zero_iff.1 (Nat.le_zero.1 h); rfl
  | f + 1,0,s,_,h => by obtain rfl := List.length_eq_zero_iff.1 (Nat.le_zero.1 h); rfl
  | f + 1,g + 1,[],_,_ => rfl
  | f + 1,g + 1,c :: r,h,h' => by
    simp only [List.length_cons] at h h'
    rw [unitsGo,unitsGo]
    split
    · cases hp : hexPair r with
      | none => rfl
      | some x =>
        obtain ⟨a,b,r'⟩ := x
        obtain ⟨rfl,-,-⟩ := hexPair_some hp
        simp only [List.length_cons] at h h' ⊢
        rw [unitsGo_fuel f g r' (by omega) (by omega)]
    · rw [unitsGo_fuel f g r (by omega) (by omega)]
theorem units_nil : units [] = [] := rfl
theorem units_lit {c : UInt8} (h : c ≠ 37) (r : Bytes) : units (c :: r) = .lit c :: units r := by
  unfold units; rw [List.length_cons,unitsGo,if_neg h]
theorem units_hex {a b : UInt8} (ha : isHex a = true) (hb : isHex b = true) (r : Bytes) : units (37 :: a :: b :: r) = .hex a b :: units r := by
  unfold units
  rw [List.length_cons,unitsGo,if_pos rfl,show hexPair (a :: b :: r) = some (a,b,r) by simp [hexPair,ha,hb]]
  simp only [List.length_cons]
  rw [unitsGo_fuel _ r.length r (by omega) (Nat.le_refl _)]
theorem units_bad {s : Bytes} (h : hexPair s = none) : units (37 :: s) = [.bad] := by
  unfold units; rw [List.length_cons,unitsGo,if_pos rfl,h]
def PU.val : PU → UInt8
  | .lit c => c
  | .hex a b => unhex a b
  | .bad => 0
def pctDecode (s : Bytes) : Bytes × Int := if 16384 < s.length then ([],5) else if PU.bad ∈ units s then ([],2) else ((units s).map PU.val,0)
def keepB (also : Bytes) (c : UInt8) : Bool := unres c || also.contains c
def normB (c : UInt8) : Bytes := if unres c then [c] else esc c
def comb (d : Bytes) (x : Bytes × Int) : Bytes × Int := if x.2 = 0 then (d ++ x.1,0) else ([],x.2)
def normU (also : Bytes) : List PU → Bytes × Int
  | [] => ([],0)
  | .bad :: _ => ([],2)
  | .lit c :: r => if keepB also c then comb [c] (normU also r) else ([],1)
  | .hex a b :: r => comb (normB (unhex a b)) (normU also r)
def pctNorm (also s : Bytes) : Bytes × Int := if 16384 < s.length then ([],5) else normU also (units s)
theorem comb_nil (x : Bytes × Int) (h : x.2 ≠ 0 → x.1 = []) : comb [] x = x := by
  obtain ⟨x,e⟩ := x
  unfold comb
  simp only at h ⊢
  split
  · rename_i h0; subst h0; rfl
  · rename_i h0; rw [h h0]
theorem comb_comb (a b : Bytes) (x : Bytes × Int) : comb a (comb b x) = comb (a ++ b) x := by
  unfold comb
  by_cases h : x.2 = 0
  · simp [h]
  · simp [h]
theorem normU_err (also : Bytes) : ∀ l,(normU also l).2 ≠ 0 → (normU also l).1 = []
  | [],h => by simp [normU] at h
  | .bad :: _,_ => rfl
  | .lit c :: r,h => by
    rw [normU] at h ⊢
    split
    · rename_i hk
      rw [if_pos hk] at h
      unfold comb at h ⊢
      split
      · rename_i h0; rw [if_pos h0] at h; simp at h
      · rfl
    · rfl
  | .hex a b :: r,h => by
    rw [normU] at h ⊢
    unfold comb at h ⊢
    split
    · rename_i h0; rw [if_pos h0] at h; simp at h
    · rfl
def canU (also : Bytes) : PU → Prop
  | .lit c => keepB also c = true ∧ c ≠ 37
  | .hex a b => unres (unhex a b) = false ∧ a = hexU ((unhex a b).toNat / 16) ∧ b = hexU ((unhex a b).toNat % 16) ∧ isHex a = true ∧ isHex b = true
  | .bad => False
def PU.str : PU → Bytes
  | .lit c => [c]
  | .hex a b => [37,a,b]
  | .bad => []
theorem unitsGo_len : ∀ (f : Nat) (s : Bytes),((unitsGo f s).flatMap PU.str).length ≤ s.length
  | 0,_ => by simp [unitsGo]
  | _ + 1,[] => by simp [unitsGo]
  | f + 1,d :: r => by
    rw [unitsGo]
    split
    · cases hp : hexPair r with
      | none => simp [PU.str]
      | some x =>
        obtain ⟨a,b,r'⟩ := x
        obtain ⟨rfl,-,-⟩ := hexPair_some hp
        have := unitsGo_len f r'
        simp [PU.str] at this ⊢; omega
    · have := unitsGo_len f r
      simp [PU.str] at this ⊢; omega
theorem normU_len (also : Bytes) : ∀ (l : List PU),(normU also l).1.length ≤ (l.flatMap PU.str).length
  | [] => by simp [normU]
  | .bad :: _ => by simp [normU]
  | .lit c :: r => by
    have := normU_len also r
    rw [normU]
    split
    · unfold comb; split
      · simp [PU.str] at this ⊢; omega
      · simp
    · simp
  | .hex a b :: r => by
    have := normU_len also r
    rw [normU]
    unfold comb normB; split
    · split
      · simp [PU.str] at this ⊢; omega
      · simp [PU.str,esc] at this ⊢; omega
    · simp
theorem pctNorm_len (also s : Bytes) : (pctNorm also s).1.length ≤ s.length := by
  unfold pctNorm
  split
  · simp
  · exact Nat.le_trans (normU_len also _) (unitsGo_len _ s)
end Wf
namespace Wf
open Go Go.RowKit
def ldh (c : UInt8) : Bool := isAlpha c || isDigit c || c == 45
def labelOk (s : Bytes) : Bool := !s.isEmpty && decide (s.length ≤ 63) && !(s.head? == some 45) && !(s.getLast? == some 45) && s.all ldh
def nameL : List Bytes → Bool
  | [] => true
  | [x] => labelOk x && !digitsOk x
  | x :: y :: r => labelOk x && nameL (y :: r)
def nameOk (s : Bytes) : Bool := nameL (splitC 46 s)
def octetOk (s : Bytes) : Bool := (numStrict 255 s).2 == 0
def ipv4 (s : Bytes) : Bool := (splitC 46 s).length == 4 && (splitC 46 s).all octetOk
def hostM (s : Bytes) : Bytes × Int :=
  if s.isEmpty then ([],3) else if 253 < s.length then ([],5) else if !ipv4 s && !nameOk s then ([],50) else (lower s,0)
def portM (s : Bytes) : Int × Int :=
  if (numStrict 65535 s).2 ≠ 0 ∨ (numStrict 65535 s).1 = 0 then (0,51) else ((numStrict 65535 s).1,0)
def hostPortOf (h : Bytes × Int) (colon : Bool) (p : Int × Int) : (Bytes × Int) × Int :=
  if h.2 ≠ 0 then (([],0),h.2)
  else if colon then if p.2 ≠ 0 then (([],0),p.2) else ((h.1,if p.1 = 443 then 0 else p.1),0)
  else ((h.1,0),0)
def hostPort (s : Bytes) : (Bytes × Int) × Int := hostPortOf (hostM (cutC 58 s).1) (cutC 58 s).2.2 (portM (cutC 58 s).2.1)
def hostText (h : Bytes) (p : Int) : Bytes := if p = 0 then h else if p < 0 then h ++ [58,45] ++ decS p.natAbs else h ++ [58] ++ decS p.natAbs
end Wf
namespace Wf
open Go Go.RowKit
structure Url where
  host : Bytes
  port : Int
  path : Bytes
  query : Bytes
  fragment : Bytes
  hasQuery : Bool
  hasFrag : Bool
  deriving DecidableEq
def Url.none : Url := ⟨[],0,[],[],[],false,false⟩
def inPath : Bytes := [33,36,38,39,40,41,42,43,44,59,61,58,64,47]
def inQuery : Bytes := [33,36,38,39,40,41,42,43,44,59,61,58,64,47,63]
def https : Bytes := [104,116,116,112,115]
def urlTarget (u : Url) : Bytes := if u.hasQuery then u.path ++ [63] ++ u.query else u.path
def urlText (u : Url) : Bytes := [104,116,116,112,115,58,47,47] ++ hostText u.host u.port ++ urlTarget u ++ (if u.hasFrag then [35] ++ u.fragment else [])
end Wf
