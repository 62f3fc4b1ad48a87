/- A calculus of conditions for functions over strings, numbers and structs: values, frames, pure operations. Nothing of the program. -/
import Derived.Test.YtkebjbphjnpjeaaBase
import Derived.Laws.StructEq
set_option linter.all false
namespace Wf
theorem toNat_succ (n : Nat) : ((n : Int) + 1).toNat = n + 1 := by omega
theorem toNat_add2 (n : Nat) : ((n : Int) + 2).toNat = n + 2 := by omega
theorem toNat_add3 (n : Nat) : ((n : Int) + 3).toNat = n + 3 := by omega
end Wf
namespace Vc
open Go Go.RowKit Wf

/-- Symbolic values. A place of the call's own is named by its number in the state's list of blocks. -/
inductive SV where
  | bool (b : Bool)
  | int (k : IntKind) (n : Int)
  | str (l : List UInt8)
  | p (i off : Nat)
  | o (i n : Nat)
  | nils
  | agg (l : List SV)
  | tup (l : List SV)
  | fn (f : Fn) (caps : List SV)
  | v (x : Value)

/-- Where a block of the state lies: the block, the first cell, for a slice one more than the capacity (0: nil). -/
structure Bt where
  blk : Nat
  off : Nat
  cap : Nat
def bt0 : Nat → Bt := fun _ => ⟨0, 0, 0⟩
/-- A slice value. -/
def oV (b : Bt) (n : Nat) : Value := if b.cap = 0 then .slice none n 0 else .slice (some ⟨b.blk, b.off, none⟩) n (b.cap - 1)
mutual
def conc (β : Nat → Bt) : SV → Value
  | .bool b => .bool b
  | .int k n => .int k n
  | .str l => .string ⟨List.toArray l⟩
  | .p i off => .pointer (some ⟨(β i).blk, (β i).off + off, none⟩)
  | .o i n => oV (β i) n
  | .nils => .slice none 0 0
  | .agg l => .agg (concL β l).toArray
  | .tup l => .tuple (concL β l).toArray
  | .fn f l => .func f #[] (concL β l).toArray
  | .v x => x
def concL (β : Nat → Bt) : List SV → List Value
  | [] => []
  | x :: r => conc β x :: concL β r
end
theorem concL_map (β : Nat → Bt) (l : List SV) : concL β l = l.map (conc β) := by
  induction l with
  | nil => rfl
  | cons x r ih => rw [concL, ih]; rfl

/-- A constant of the text. -/
def ofV : Value → SV
  | .bool b => .bool b
  | .int k n => .int k n
  | .string b => .str b.data.toList
  | .slice none 0 0 => .nils
  | .func f ⟨[]⟩ ⟨[]⟩ => .fn f []
  | x => .v x
theorem conc_ofV (β : Nat → Bt) (x : Value) : conc β (ofV x) = x := by
  unfold ofV
  split <;> simp [conc, concL]

/-- What is known of the type's values. -/
inductive Kd where
  | int (k : IntKind) | bool | str | slice (e : TypeId) | ptr (e : TypeId) | struct (fs : List (Nat × TypeId)) | arr (n : Nat) (e : TypeId) | other
structure TI where
  size : Nat
  bytes : Nat
  agg : Bool
  zero : List SV
  kind : Kd
  cmp : Bool
def undSays : Kd → TypeDesc → Prop
  | .int k, d => d = .int k
  | .bool, d => d = .bool
  | .str, d => d = .string
  | .slice e, d => d = .slice e
  | .ptr e, d => d = .pointer e
  | .struct fs, d => ∃ F : Array Field, d = .struct F ∧ F.toList.map (fun f => (f.offset, f.type)) = fs
  | .arr n e, d => d = .array n e
  | .other, _ => True
structure TyOK (P : Program) (T : TypeId) (t : TI) : Prop where
  size : ∀ w, (Go.sizeOf T).run P w = Result.ok t.size w
  agg : ∀ w, (isAgg T).run P w = Result.ok t.agg w
  zero : ∀ w, ∃ z : Value, (zeroValue T).run P w = Result.ok z w ∧ z.cells = (t.zero.map (conc bt0)).toArray
  flat : ∀ β, t.zero.map (conc β) = t.zero.map (conc bt0)
  len : t.zero.length = t.size
  und : ∃ d, P.underlying T = some d ∧ undSays t.kind d
  flds : ∀ fs, t.kind = .struct fs → ∀ f ∈ fs, ∃ n, ∀ w, (Go.sizeOf f.2).run P w = Result.ok n w
  cmp : t.cmp = true → P.stoodInHeld T = false ∧ P.eqGuardType P.depth T = false ∧ (P.fieldsOf T).all (fun f => f.name != "_") = true
  info : ∃ i z, P.info? T = some i ∧ i.zero = some z ∧ i.size = t.size ∧ i.bytes = t.bytes ∧ z.cells = (t.zero.map (conc bt0)).toArray
def GOK (P : Program) (Γ : TypeId → Option TI) : Prop := ∀ T t, Γ T = some t → TyOK P T t

/-- The frame, as an association list: the latest entry counts. -/
def lk (d : Nat) : List (Nat × SV) → Option SV
  | [] => none
  | (e, x) :: r => if d = e then some x else lk d r
def ev (t : List (Nat × SV)) : Operand → Option SV
  | .tmp d => lk d t
  | .const v => some (ofV v)
  | .global g => some (.v (.pointer (some ⟨g, 0, none⟩)))
  | .func f => some (.fn (.func f) [])
structure FrOK (β : Nat → Bt) (n : Nat) (t : List (Nat × SV)) (a : Act) : Prop where
  size : a.tmps.size = n
  defers : a.defers = []
  get : ∀ d x, lk d t = some x → a.tmps.getD d undef = conc β x
theorem FrOK.ev {β : Nat → Bt} {n : Nat} {t : List (Nat × SV)} {a : Act} (h : FrOK β n t a) {o : Operand} {x : SV} (e : ev t o = some x) : a.eval o = conc β x := by
  cases o with
  | tmp d => exact h.get d x e
  | const v => simp [Vc.ev] at e; subst e; exact (conc_ofV β v).symm
  | global g => simp [Vc.ev] at e; subst e; rfl
  | func f => simp [Vc.ev] at e; subst e; simp [Act.eval, conc, concL]
theorem FrOK.put {β : Nat → Bt} {n : Nat} {t : List (Nat × SV)} {a : Act} (h : FrOK β n t a) {d : Nat} (hd : d < n) (x : SV) : FrOK β n ((d, x) :: t) (a.put (some d) (conc β x)) := by
  refine ⟨by simp [Act.put, h.size], h.defers, fun e y hy => ?_⟩
  simp only [lk] at hy
  simp only [Act.put]
  split at hy
  · rename_i he
    subst he
    cases hy
    simp [h.size, hd]
  · rename_i he
    rw [Array.getD_eq_getD_getElem?, Array.getElem?_setIfInBounds_ne (fun q => he q.symm), ← Array.getD_eq_getD_getElem?]
    exact h.get e y hy
/-- The destination's entry. -/
def put (dst : Option Tmp) (x : SV) (t : List (Nat × SV)) : List (Nat × SV) := match dst with
  | some d => (d, x) :: t
  | none => t
def fits (n : Nat) : Option Tmp → Bool
  | some d => decide (d < n)
  | none => true
theorem FrOK.put' {β : Nat → Bt} {n : Nat} {t : List (Nat × SV)} {a : Act} (h : FrOK β n t a) {dst : Option Tmp} (hd : fits n dst = true) (x : SV) : FrOK β n (Vc.put dst x t) (a.put dst (conc β x)) := by
  cases dst with
  | none => exact ⟨h.size, h.defers, h.get⟩
  | some d => exact h.put (by simpa [fits] using hd) x

/-- The cells of a value. -/
def cells : SV → List SV
  | .agg l => l
  | x => [x]
theorem oV_cells (b : Bt) (n : Nat) : (oV b n).cells = #[oV b n] := by
  unfold oV; by_cases h : b.cap = 0 <;> simp [h, Value.cells]
theorem conc_cells (β : Nat → Bt) (x : SV) (hx : ∀ y, x ≠ .v y) : (conc β x).cells = ((cells x).map (conc β)).toArray := by
  cases x
  case o i n => simpa [conc, cells] using oV_cells (β i) n
  all_goals simp [conc, cells, Value.cells, concL_map]
  exact absurd rfl (hx _)
def isV : SV → Bool
  | .v _ => true
  | _ => false
theorem conc_cells' (β : Nat → Bt) (x : SV) (hx : isV x = false) : (conc β x).cells = ((cells x).map (conc β)).toArray :=
  conc_cells β x (by rintro y rfl; cases hx)
/-- A part of cells: one cell, or an aggregate. -/
def partS (agg : Bool) (off size : Nat) (l : List SV) : Option SV :=
  if agg then some (.agg ((l.drop off).take size)) else l[off]?
def intB (k : IntKind) (n : Int) : Prop := match k with
  | .i64 => -9223372036854775808 ≤ n ∧ n ≤ 9223372036854775807
  | _ => False
/-- Arithmetic on int asks that nothing wraps; other kinds keep the wrap. -/
def ar (k : IntKind) (n : Int) : Prop × SV := match k with
  | .i64 => (-9223372036854775808 ≤ n ∧ n ≤ 9223372036854775807, .int .i64 n)
  | k => (True, .int k (k.wrap n))
theorem ar_ok (k : IntKind) (n : Int) (β : Nat → Bt) (h : (ar k n).1) : conc β (ar k n).2 = .int k (k.wrap n) := by
  unfold ar at h ⊢
  split
  · simp only at h
    simp only [conc, IntKind.wrap, IntKind.signed, IntKind.bits]
    simp
    omega
  · rfl
/-- Shifts, divisions, bits: reckoned by name; the laws are outside. -/
def shI (op : BinOp) (k : IntKind) (x y : Int) : Int := match op with
  | .shl => k.wrap (x * 2 ^ (min y.toNat k.bits))
  | _ => x.fdiv (2 ^ (min y.toNat k.bits))
def divI (op : BinOp) (k : IntKind) (x y : Int) : Int := match op with
  | .quo => k.wrap (x.tdiv y)
  | _ => x.tmod y
def bitI (op : BinOp) (k : IntKind) (x y : Int) : Int := match op with
  | .and => k.wrap (BitVec.ofInt k.bits x &&& BitVec.ofInt k.bits y).toNat
  | .or => k.wrap (BitVec.ofInt k.bits x ||| BitVec.ofInt k.bits y).toNat
  | .xor => k.wrap (BitVec.ofInt k.bits x ^^^ BitVec.ofInt k.bits y).toNat
  | _ => k.wrap (BitVec.ofInt k.bits x &&& ~~~BitVec.ofInt k.bits y).toNat
def ifK (k k' : IntKind) (r : Prop × SV) : Option (Prop × SV) := if k = k' then some r else none
def binI (op : BinOp) (k k' : IntKind) (a b : Int) : Option (Prop × SV) := match op with
  | .shl => some (0 ≤ b, .int k (shI .shl k a b))
  | .shr => some (0 ≤ b, .int k (shI .shr k a b))
  | .add => ifK k k' (ar k (a + b))
  | .sub => ifK k k' (ar k (a - b))
  | .mul => ifK k k' (ar k (a * b))
  | .quo => ifK k k' (b ≠ 0, .int k (divI .quo k a b))
  | .rem => ifK k k' (b ≠ 0, .int k (divI .rem k a b))
  | .and => ifK k k' (True, .int k (bitI .and k a b))
  | .or => ifK k k' (True, .int k (bitI .or k a b))
  | .xor => ifK k k' (True, .int k (bitI .xor k a b))
  | .andNot => ifK k k' (True, .int k (bitI .andNot k a b))
  | .eql => ifK k k' (True, .bool (a == b))
  | .neq => ifK k k' (True, .bool (a != b))
  | .lss => ifK k k' (True, .bool (decide (a < b)))
  | .leq => ifK k k' (True, .bool (decide (a ≤ b)))
  | .gtr => ifK k k' (True, .bool (decide (b < a)))
  | .geq => ifK k k' (True, .bool (decide (b ≤ a)))
def binS (op : BinOp) (a b : List UInt8) : Option (Prop × SV) := match op with
  | .add => some (a.length + b.length ≤ 9223372036854775807, .str (a ++ b))
  | .eql => some (True, .bool (a == b))
  | .neq => some (True, .bool (a != b))
  | .lss => some (True, .bool (Op.bytesLess a b))
  | .leq => some (True, .bool (Op.bytesLess a b || a == b))
  | .gtr => some (True, .bool (!(Op.bytesLess a b || a == b)))
  | .geq => some (True, .bool (!Op.bytesLess a b))
  | _ => none
def bin (op : BinOp) : SV → SV → Option (Prop × SV)
  | .int k a, .int k' b => binI op k k' a b
  | .str a, .str b => binS op a b
  | _, _ => none
/-- Equality of the values of a type, the structs with their parts. -/
def eqK (Γ : TypeId → Option TI) (rc : TypeId → SV → SV → Option Bool) (cmp : Bool) : Kd → SV → SV → Option Bool
  | .int _, .int k a, .int k' b => if k = k' then some (a == b) else none
  | .bool, .bool a, .bool b => some (a == b)
  | .str, .str a, .str b => some (a == b)
  | .struct fs, .agg l, .agg l' => if cmp then eqF Γ rc l l' fs else none
  | _, _, _ => none
where eqF (Γ : TypeId → Option TI) (rc : TypeId → SV → SV → Option Bool) (l l' : List SV) : List (Nat × TypeId) → Option Bool
  | [] => some true
  | (off, ft) :: r => match Γ ft with
    | some ti => match partS ti.agg off ti.size l with
      | some x => match partS ti.agg off ti.size l' with
        | some y => match rc ft x y with
          | some p => match eqF Γ rc l l' r with
            | some q => some (p && q)
            | none => none
          | none => none
        | none => none
      | none => none
    | none => none
def eqS (Γ : TypeId → Option TI) : Nat → TypeId → SV → SV → Option Bool
  | 0, _, _, _ => none
  | d + 1, T, x, y => match Γ T with
    | some ti => eqK Γ (eqS Γ d) ti.cmp ti.kind x y
    | none => none
def negB (op : BinOp) (b : Bool) : Option SV := match op with
  | .eql => some (.bool b)
  | .neq => some (.bool (!b))
  | _ => none
def eqB (Γ : TypeId → Option TI) (T : TypeId) (xType : Kd) (op : BinOp) : SV → SV → Option SV
  | .bool a, .bool b => match xType with
    | .bool => match op with
      | .eql => some (.bool (a == b))
      | .neq => some (.bool (a != b))
      | _ => none
    | _ => none
  | .agg l, .agg l' => match eqS Γ 4 T (.agg l) (.agg l') with
    | some b => negB op b
    | none => none
  | .nils, .nils => match xType with
    | .slice _ => negB op true
    | _ => none
  | _, _ => none
/-- The bounds of a slice expression: the condition, from, to. -/
def bnds (len : Nat) (lo hi : Option SV) : Option (Prop × Nat × Nat) :=
  match hi, lo with
  | none, none => some (True, 0, len)
  | none, some (.int _ l) => some (0 ≤ l ∧ l ≤ len, l.toNat, len)
  | some (.int _ h), none => some (0 ≤ h ∧ h ≤ len, 0, h.toNat)
  | some (.int _ h), some (.int _ l) => some (0 ≤ l ∧ l ≤ h ∧ h ≤ len, l.toNat, h.toNat)
  | _, _ => none
def optE (t : List (Nat × SV)) : Option Operand → Option (Option SV)
  | none => some none
  | some o => (ev t o).map some
def kd (Γ : TypeId → Option TI) (T : TypeId) : Option Kd := (Γ T).map TI.kind
def sz (Γ : TypeId → Option TI) (T : TypeId) : Option Nat := (Γ T).map TI.size
/-- Operations that look at their operands alone: the condition, the value. -/
def oMove (t : List (Nat × SV)) (x : Operand) : Option (Prop × SV) := (ev t x).map fun x => (True, x)
def pickS : SV → Option SV → Option SV → Option SV
  | .bool c, some (.bool x), some (.bool y) => some (.bool (if c then x else y))
  | .bool true, some x, _ => some x
  | .bool false, _, some y => some y
  | _, _, _ => none
def oPick (t : List (Nat × SV)) (c a b : Operand) : Option (Prop × SV) := match ev t c with
  | some c => (pickS c (ev t a) (ev t b)).map fun x => (True, x)
  | none => none
def oFieldAddr (Γ : TypeId → Option TI) (t : List (Nat × SV)) (S : TypeId) (x : Operand) (f : Nat) : Option (Prop × SV) := match kd Γ S with
  | some (.struct fs) => match ev t x with
    | some (.p i off) => match fs[f]? with
      | some (o, ft) => match sz Γ ft with
        | some (_ + 1) => some (True, .p i (off + o))
        | _ => none
      | none => none
    | _ => none
  | _ => none
def oField (Γ : TypeId → Option TI) (t : List (Nat × SV)) (S : TypeId) (x : Operand) (f : Nat) : Option (Prop × SV) := match kd Γ S with
  | some (.struct fs) => match ev t x with
    | some (.agg l) => match fs[f]? with
      | some (o, ft) => match Γ ft with
        | some ti => (partS ti.agg o ti.size l).map fun x => (True, x)
        | none => none
      | none => none
    | _ => none
  | _ => none
def oBin (Γ : TypeId → Option TI) (t : List (Nat × SV)) (op : BinOp) (T : TypeId) (x y : Operand) : Option (Prop × SV) := match ev t x with
  | some x => match ev t y with
    | some y => match bin op x y with
      | some r => some r
      | none => match kd Γ T with
        | some k => (eqB Γ T k op x y).map fun x => (True, x)
        | none => none
    | none => none
  | none => none
def oUn (t : List (Nat × SV)) (op : UnOp) (x : Operand) : Option (Prop × SV) := match op with
  | .not => match ev t x with
    | some (.bool b) => some (True, .bool (!b))
    | _ => none
  | _ => none
def convS : Kd → SV → Option SV
  | .int k, .int _ n => some (.int k (k.wrap n))
  | .str, .str l => some (.str l)
  | _, _ => none
def oConv (Γ : TypeId → Option TI) (t : List (Nat × SV)) (src dst : TypeId) (x : Operand) : Option (Prop × SV) := match kd Γ src with
  | some _ => match kd Γ dst with
    | some k => match ev t x with
      | some x => (convS k x).map fun x => (True, x)
      | none => none
    | none => none
  | none => none
def oSlice (Γ : TypeId → Option TI) (t : List (Nat × SV)) (T : TypeId) (x : Operand) (lo hi : Option Operand) : Option (Prop × SV) := match kd Γ T with
  | some .str => match ev t x with
    | some (.str l) => match optE t lo with
      | some lo => match optE t hi with
        | some hi => (bnds l.length lo hi).map fun r => (r.1, .str ((l.take r.2.2).drop r.2.1))
        | none => none
      | none => none
    | _ => none
  | _ => none
def oIndex (Γ : TypeId → Option TI) (t : List (Nat × SV)) (T : TypeId) (x i : Operand) : Option (Prop × SV) := match kd Γ T with
  | some .str => match ev t x with
    | some (.str l) => match ev t i with
      | some (.int _ n) => some (0 ≤ n ∧ n < l.length, .int .u8 (l.getD n.toNat 0).toNat)
      | _ => none
    | _ => none
  | _ => none
def oExtract (t : List (Nat × SV)) (x : Operand) (i : Nat) : Option (Prop × SV) := match ev t x with
  | some (.tup l) => (l[i]?).map fun x => (True, x)
  | _ => none
def lenS : Kd → SV → Option SV
  | .str, .str l => some (.int .i64 l.length)
  | .slice _, .o _ n => some (.int .i64 n)
  | .slice _, .nils => some (.int .i64 0)
  | _, _ => none
def oLen (Γ : TypeId → Option TI) (t : List (Nat × SV)) (args : List Operand) (ts : List TypeId) : Option (Prop × SV) := match args with
  | [x] => match ts with
    | [T] => match kd Γ T with
      | some k => match ev t x with
        | some x => (lenS k x).map fun x => (True, x)
        | none => none
      | none => none
    | _ => none
  | _ => none
/-- The values of a list of operands. -/
def evs (t : List (Nat × SV)) (l : List Operand) : Option (List SV) := l.mapM (ev t)
def consO : Option SV → Option (List SV) → Option (List SV)
  | some x, some l => some (x :: l)
  | _, _ => none
theorem evs_nil (t : List (Nat × SV)) : evs t [] = some [] := rfl
theorem evs_cons (t : List (Nat × SV)) (o : Operand) (r : List Operand) : evs t (o :: r) = consO (ev t o) (evs t r) := by
  unfold evs
  rw [List.mapM_cons]
  cases ev t o with
  | none => rfl
  | some x => cases List.mapM (ev t) r <;> rfl
def oFunc (t : List (Nat × SV)) (f : Fn) (first caps : List Operand) : Option (Prop × SV) := match first with
  | [] => match evs t caps with
    | some l => some (True, .fn f l)
    | none => none
  | _ => none
def splice (c : List SV) (off : Nat) (x : List SV) : List SV := c.take off ++ x ++ c.drop (off + x.length)
def evParts (t : List (Nat × SV)) : List (Nat × Operand) → Option (List (Nat × SV))
  | [] => some []
  | (i, o) :: r => match ev t o with
    | some x => match evParts t r with
      | some l => some ((i, x) :: l)
      | none => none
    | none => none
/-- Parts laid into the cells of an array. -/
def fillA (s : Nat) : List (Nat × SV) → List SV → Option (List SV)
  | [], c => some c
  | (i, x) :: r, c => if isV x = false ∧ (cells x).length = s ∧ i * s + s ≤ c.length then fillA s r (splice c (i * s) (cells x)) else none
def oBuildA (Γ : TypeId → Option TI) (t : List (Nat × SV)) (T : TypeId) (ps : List (Nat × Operand)) : Option (Prop × SV) := match Γ T with
  | some ti => match ti.kind with
    | .arr _ e => match sz Γ e with
      | some s => match evParts t ps with
        | some l => match fillA s l ti.zero with
          | some c => some (True, .agg c)
          | none => none
        | none => none
      | none => none
    | _ => none
  | none => none
/-- The place of an element of an array behind a pointer. -/
def oIdxA (Γ : TypeId → Option TI) (t : List (Nat × SV)) (T : TypeId) (x i : Operand) : Option (Prop × SV) := match kd Γ T with
  | some (.arr n e) => match sz Γ e with
    | some s => match ev t x with
      | some (.p b off) => match ev t i with
        | some (.int _ k) => some (0 < s ∧ 0 ≤ k ∧ k < n, .p b (off + k.toNat * s))
        | _ => none
      | _ => none
    | none => none
  | _ => none
def pv (Γ : TypeId → Option TI) (t : List (Nat × SV)) : Op → Option (Prop × SV)
  | .move x => oMove t x
  | .assign x => oMove t x
  | .pick c a b => oPick t c a b
  | .fieldAddr S x f => oFieldAddr Γ t S x f
  | .field S x f => oField Γ t S x f
  | .binOp op T x y _ => oBin Γ t op T x y
  | .unOp op _ x => oUn t op x
  | .convert src dst x => oConv Γ t src dst x
  | .slice T x lo hi none => oSlice Γ t T x lo hi
  | .index T x i => oIndex Γ t T x i
  | .extract x i => oExtract t x i
  | .call ⟨.builtin .len, args, ts⟩ => oLen Γ t args.toList ts.toList
  | .makeFunc f first caps => oFunc t f first.toList caps.toList
  | .build T ps => oBuildA Γ t T ps.toList
  | .indexAddr T x i => oIdxA Γ t T x i
  | _ => none

section
variable {P : Program} {Γ : TypeId → Option TI}
theorem kd_some (h : GOK P Γ) {T : TypeId} {k : Kd} (e : kd Γ T = some k) : ∃ d, P.underlying T = some d ∧ undSays k d := by
  unfold kd at e
  cases ht : Γ T with
  | none => simp [ht] at e
  | some ti => simp [ht] at e; subst e; exact (h T ti ht).und
theorem run_underlying {T : TypeId} {d : TypeDesc} (e : P.underlying T = some d) (w : World) : (underlying T).run P w = Result.ok d w := by
  show Sem.run P (match P.underlying T with | some d => pure d | none => stuck "no such type") w = _
  rw [e]; rfl
theorem ifK_ok {k k' : IntKind} {r : Prop × SV} {c : Prop} {x : SV} (h : ifK k k' r = some (c, x)) : k' = k ∧ r = (c, x) := by
  unfold ifK at h
  split at h
  · rename_i e; exact ⟨e.symm, by simpa using h⟩
  · cases h
theorem bin_ok {op : BinOp} {x y r : SV} {c : Prop} {T : TypeId} {β : Nat → Bt} (h : bin op x y = some (c, r)) (hc : c) (w : World) :
    (binOp op T (conc β x) (conc β y)).run P w = Result.ok (conc β r) w := by
  unfold bin at h
  split at h
  · rename_i k a k' b
    unfold binI at h
    split at h
    case h_1 =>
      obtain ⟨rfl, rfl⟩ := Prod.mk.inj (Option.some.inj h)
      simp [conc, binOp, Op.shift, shI, go_sem]; omega
    case h_2 =>
      obtain ⟨rfl, rfl⟩ := Prod.mk.inj (Option.some.inj h)
      simp [conc, binOp, Op.shift, shI, go_sem]; omega
    all_goals obtain ⟨rfl, hq⟩ := ifK_ok h
    case h_3 => have := ar_ok k' (a + b) β (by rw [hq]; exact hc); rw [hq] at this; rw [this]; simp [conc, binOp, Op.intArith, go_sem]
    case h_4 => have := ar_ok k' (a - b) β (by rw [hq]; exact hc); rw [hq] at this; rw [this]; simp [conc, binOp, Op.intArith, go_sem]
    case h_5 => have := ar_ok k' (a * b) β (by rw [hq]; exact hc); rw [hq] at this; rw [this]; simp [conc, binOp, Op.intArith, go_sem]
    case h_6 =>
      obtain ⟨rfl, rfl⟩ := Prod.mk.inj hq
      simp [conc, binOp, Op.intDiv, divI, hc, go_sem]
    case h_7 =>
      obtain ⟨rfl, rfl⟩ := Prod.mk.inj hq
      simp [conc, binOp, Op.intDiv, divI, hc, go_sem]
    case h_8 => obtain ⟨-, rfl⟩ := Prod.mk.inj hq; simp [conc, binOp, Op.intBits, bitI, go_sem]
    case h_9 => obtain ⟨-, rfl⟩ := Prod.mk.inj hq; simp [conc, binOp, Op.intBits, bitI, go_sem]
    case h_10 => obtain ⟨-, rfl⟩ := Prod.mk.inj hq; simp [conc, binOp, Op.intBits, bitI, go_sem]
    case h_11 => obtain ⟨-, rfl⟩ := Prod.mk.inj hq; simp [conc, binOp, Op.intBits, bitI, go_sem]
    all_goals
      obtain ⟨-, rfl⟩ := Prod.mk.inj hq
      simp [conc, binOp, Op.intCmp, go_sem]
  · rename_i a b
    unfold binS at h
    split at h <;> simp only [Option.some.injEq, reduceCtorEq] at h
    · obtain ⟨rfl, rfl⟩ := Prod.mk.inj h
      have hle : (a.length : Int) + b.length ≤ 9223372036854775807 := by omega
      simp [conc, binOp, Op.stringOp, go_sem, app_list]
      exact hle
    all_goals
      obtain ⟨-, rfl⟩ := Prod.mk.inj h
      simp [conc, binOp, Op.stringOp, go_sem, bne]
  · cases h
theorem bnds_ok {len : Nat} {lo hi : Option SV} {c : Prop} {f u : Nat} {β : Nat → Bt} (h : bnds len lo hi = some (c, f, u)) (hc : c) (b : Bool) (w : World) :
    (Instr.sliceBounds b len len (lo.map (conc β)) (hi.map (conc β)) none).run P w = Result.ok (f, u, len) w := by
  unfold bnds at h
  split at h <;> simp only [Option.some.injEq, Prod.mk.injEq, reduceCtorEq] at h
  all_goals
    obtain ⟨rfl, rfl, rfl⟩ := h
    simp [conc, Instr.sliceBounds, Instr.sliceBound, asIntOf, go_sem]
    try omega
  rw [if_pos (by omega), if_pos (by omega)]
theorem opt_map {t : List (Nat × SV)} {β : Nat → Bt} {n : Nat} {a : Act} (hf : FrOK β n t a) {o : Option Operand} {x : Option SV} (h : optE t o = some x) : o.map a.eval = x.map (conc β) := by
  cases o with
  | none => simp [optE] at h; subst h; rfl
  | some o =>
    simp only [optE, Option.map_eq_some_iff] at h
    obtain ⟨y, hy, rfl⟩ := h
    simp [hf.ev hy]
theorem mapM_ev {t : List (Nat × SV)} {β : Nat → Bt} {n : Nat} {a : Act} (hf : FrOK β n t a) : ∀ {os : List Operand} {l : List SV}, os.mapM (ev t) = some l → os.map a.eval = l.map (conc β)
  | [], l, h => by simp at h; subst h; rfl
  | o :: os, l, h => by
    simp only [List.mapM_cons, Option.bind_eq_bind, Option.bind_eq_some_iff] at h
    obtain ⟨x, hx, r, hr, he⟩ := h
    simp at he
    subst he
    simp [hf.ev hx, mapM_ev hf hr]
theorem part_ok (hΓ : GOK P Γ) {T : TypeId} {ti : TI} (ht : Γ T = some ti) {β : Nat → Bt} {off : Nat} {l : List SV} {x : SV} (h : partS ti.agg off ti.size l = some x) (w : World) :
    (part T (l.map (conc β)).toArray off).run P w = Result.ok (conc β x) w := by
  have ha := (hΓ T ti ht).agg w
  have hz := (hΓ T ti ht).size w
  unfold partS at h
  cases hg : ti.agg
  · rw [hg] at h ha
    simp only [Bool.false_eq_true, if_false] at h
    simp [part, ha, go_sem, h]
  · rw [hg] at h ha
    simp only [if_true, Option.some.injEq] at h
    subst h
    simp [part, ha, hz, go_sem, conc, concL_map]

theorem fields_of {T : TypeId} {F : Array Field} (h : P.underlying T = some (.struct F)) : P.fieldsOf T = F := by
  unfold Program.fieldsOf; rw [h]
theorem eqF_ok (hΓ : GOK P Γ) {rc : TypeId → SV → SV → Option Bool} {β : Nat → Bt} {m : Nat} (w : World)
    (hrc : ∀ T x y b, rc T x y = some b → (Op.equalIn m T (conc β x) (conc β y)).run P w = Result.ok b w) (l l' : List SV) : ∀ (F : List Field) (b : Bool), (∀ f ∈ F, f.name ≠ "_") → eqK.eqF Γ rc l l' (F.map fun f => (f.offset, f.type)) = some b →
      (Op.eqFields m (concL β l).toArray (concL β l').toArray F).run P w = Result.ok b w
  | [], b, _, h => by simp only [List.map_nil, eqK.eqF, Option.some.injEq] at h; subst h; rfl
  | f :: F, b, hn, h => by
    simp only [List.map_cons, eqK.eqF] at h
    split at h
    · rename_i ti hti
      split at h
      · rename_i x hx
        split at h
        · rename_i y hy
          split at h
          · rename_i p hp
            split at h
            · rename_i q hq
              simp only [Option.some.injEq] at h
              subst h
              have px := part_ok (P := P) hΓ hti (β := β) hx w
              have py := part_ok (P := P) hΓ hti (β := β) hy w
              have pe := hrc _ _ _ _ hp
              have ih := eqF_ok hΓ w hrc l l' F q (fun f hf => hn f (List.mem_cons_of_mem _ hf)) hq
              rw [← concL_map] at px py
              simp only [Op.eqFields, if_pos (hn f List.mem_cons_self), Sem.run_bind, px, py, pe, Result.andThen_ok]
              cases p
              · simp
              · simpa using ih
            · cases h
          · cases h
        · cases h
      · cases h
    · cases h
theorem eqS_ok (hΓ : GOK P Γ) {β : Nat → Bt} (w : World) : ∀ (d : Nat) (T : TypeId) (x y : SV) (b : Bool), eqS Γ d T x y = some b → ∀ m, d ≤ m → (Op.equalIn m T (conc β x) (conc β y)).run P w = Result.ok b w
  | 0, _, _, _, _, h, _, _ => by cases h
  | d + 1, T, x, y, b, h, m, hm => by
    obtain ⟨m, rfl⟩ : ∃ k, m = k + 1 := ⟨m - 1, by omega⟩
    simp only [eqS] at h
    split at h
    · rename_i ti hti
      have hT := hΓ T ti hti
      obtain ⟨D, hD, hs⟩ := hT.und
      unfold eqK at h
      split at h
      · rename_i e
        rw [e] at hs
        simp only [undSays] at hs
        subst hs
        split at h
        · rename_i hk; subst hk
          simp only [Option.some.injEq] at h; subst h
          simp only [conc]
          exact run_equalIn_int w m T _ _ _ _ hD
        · cases h
      · rename_i e
        rw [e] at hs
        simp only [undSays] at hs
        subst hs
        simp only [Option.some.injEq] at h; subst h
        simp only [conc]
        exact run_equalIn_bool' w m T _ _ hD
      · rename_i e
        rw [e] at hs
        simp only [undSays] at hs
        subst hs
        simp only [Option.some.injEq] at h; subst h
        simp only [conc]
        rw [run_equalIn_string w m T _ _ hD]
        simp
      · rename_i fs l l' e
        rw [e] at hs
        obtain ⟨F, rfl, hF⟩ := hs
        split at h
        · rename_i hcmp
          obtain ⟨h1, h2, h3⟩ := hT.cmp hcmp
          have hfo := fields_of hD
          rw [hfo] at h3
          simp only [conc]
          rw [run_equalIn_agg w m T _ _ (by rw [hfo]; exact hD) h1, hfo]
          subst hF
          refine eqF_ok hΓ w (fun T x y b hb => eqS_ok hΓ w d T x y b hb m (by omega)) l l' F.toList b (fun f hf => ?_) h
          rw [Array.all_eq_true'] at h3
          have := h3 f (by simpa using hf)
          simpa using this
        · cases h
      · cases h
    · cases h
theorem run_equalIn_nils (w : World) (d : Nat) (T e : TypeId) (h : P.underlying T = some (.slice e)) : (Op.equalIn (d + 1) T (.slice none 0 0) (.slice none 0 0)).run P w = Result.ok true w := by
  simp [Op.equalIn, run_underlying h]
theorem negB_run {op : BinOp} {b : Bool} {r : SV} (h : negB op b = some r) : (op = .eql ∧ r = .bool b) ∨ (op = .neq ∧ r = .bool (!b)) := by
  unfold negB at h
  split at h
  · exact .inl ⟨rfl, (Option.some.inj h).symm⟩
  · exact .inr ⟨rfl, (Option.some.inj h).symm⟩
  · cases h
theorem eqB_ok {op : BinOp} {x y r : SV} {k : Kd} (hΓ : GOK P Γ) {T : TypeId} (ht : kd Γ T = some k) {β : Nat → Bt} (h : eqB Γ T k op x y = some r) (w : World) :
    (binOp op T (conc β x) (conc β y)).run P w = Result.ok (conc β r) w := by
  obtain ⟨d, hd, hs⟩ := kd_some hΓ ht
  unfold eqB at h
  split at h
  · split at h
    · rename_i a b _
      have hd' : P.underlying T = some .bool := by rw [hd]; exact congrArg some hs
      split at h <;> simp only [Option.some.injEq, reduceCtorEq] at h
      all_goals
        subst h
        simp only [conc]
        first
        | (show Sem.run P (do pure (Value.bool (← Op.equal T (Value.bool a) (Value.bool b)))) w = _
           simp [run_equal_bool (w := w) T a b hd', Result.andThen])
        | (show Sem.run P (do pure (Value.bool (!(← Op.equal T (Value.bool a) (Value.bool b))))) w = _
           simp [run_equal_bool (w := w) T a b hd', Result.andThen, bne])
    · cases h
  · rename_i l l'
    split at h
    · rename_i b hb
      have he := eqS_ok (P := P) hΓ (β := β) w 4 T _ _ b hb 10000 (by omega)
      simp only [conc] at he ⊢
      rcases negB_run h with ⟨rfl, rfl⟩ | ⟨rfl, rfl⟩
      · rw [run_eql_struct, he]; rfl
      · rw [run_neq_struct, he]; rfl
    · cases h
  · split at h
    · rename_i e
      have hd' : P.underlying T = some (.slice e) := by rw [hd]; exact congrArg some hs
      have he : (Op.equal T (.slice none 0 0) (.slice none 0 0)).run P w = Result.ok true w := by
        exact run_equalIn_nils w 9999 T e hd'
      rcases negB_run h with ⟨rfl, rfl⟩ | ⟨rfl, rfl⟩
      · show Sem.run P (do pure (Value.bool (← Op.equal T (.slice none 0 0) (.slice none 0 0)))) w = _
        rw [Sem.run_bind, he]; rfl
      · show Sem.run P (do pure (Value.bool (!(← Op.equal T (.slice none 0 0) (.slice none 0 0))))) w = _
        rw [Sem.run_bind, he]; rfl
    · cases h
  · cases h
theorem eqB_guard {op : BinOp} {x y r : SV} {k : Kd} (hΓ : GOK P Γ) {T : TypeId} {β : Nat → Bt} (h : eqB Γ T k op x y = some r) (a b : Operand) (w : World) :
    (eqGuard op T a b (conc β x) (conc β y)).run P w = Result.ok () w := by
  unfold eqB at h
  split at h
  · simp only [conc]; unfold eqGuard; split <;> rfl
  · rename_i l l'
    split at h
    · rename_i b' hb
      have hg : P.eqGuardType P.depth T = false := by
        unfold eqS at hb
        split at hb
        · rename_i ti hti
          unfold eqK at hb
          split at hb
          · rename_i e1 e2; cases e2
          · rename_i e1 e2; cases e2
          · rename_i e1 e2; cases e2
          · split at hb
            · rename_i hcmp; exact ((hΓ T ti hti).cmp hcmp).2.1
            · cases hb
          · cases hb
        · cases hb
      simp only [conc]
      exact run_eqGuard_agg w op T a b _ _ hg
    · cases h
  · simp only [conc]; unfold eqGuard; split <;> rfl
  · cases h
theorem moved {x : SV} {y : Option SV} {c : Prop} (h : y.map (fun x => (True, x)) = some (c, x)) : y = some x := by
  cases y with
  | none => simp at h
  | some y => simp only [Option.map_some, Option.some.injEq, Prod.mk.injEq] at h; rw [h.2]
theorem run_val {s : Sem Value} {v : Value} {w w' : World} (h : s.run P w = Result.ok v w') : Sem.run P (do pure (Next.value (← s))) w = Result.ok (.value v) w' := by
  simp [h, Result.andThen, go_sem]
theorem pick_ok {c : SV} {a b : Option SV} {x : SV} {va vb : Value} {β : Nat → Bt} (h : pickS c a b = some x) (ha : ∀ y, a = some y → va = conc β y) (hb : ∀ y, b = some y → vb = conc β y) (w : World) :
    Sem.run P (do pure (if ← asBool (conc β c) then va else vb)) w = Result.ok (conc β x) w := by
  unfold pickS at h
  split at h <;> simp only [Option.some.injEq, reduceCtorEq] at h
  · subst h
    rename_i c' x y
    rw [ha _ rfl, hb _ rfl]
    cases c' <;> simp [conc, asBool, go_sem]
  · subst h
    rename_i y _
    rw [ha _ rfl]
    simp [conc, asBool, go_sem]
  · subst h
    rename_i y _
    rw [hb _ rfl]
    simp [conc, asBool, go_sem]
theorem fieldAddr_ok (hΓ : GOK P Γ) {t : List (Nat × SV)} {β : Nat → Bt} {n : Nat} {a : Act} (hf : FrOK β n t a) {S : TypeId} {x : Operand} {f : Nat} {c : Prop} {r : SV} (h : oFieldAddr Γ t S x f = some (c, r)) (w : World) :
    (Instr.fieldAt S (a.eval x) f).run P w = Result.ok (conc β r) w := by
  unfold oFieldAddr at h
  split at h
  · rename_i fs hk
    obtain ⟨d, hd, F, rfl, hF⟩ := kd_some hΓ hk
    split at h
    · rename_i i off he
      split at h
      · rename_i o ft hft
        split at h
        · rename_i m hm
          simp only [Option.some.injEq, Prod.mk.injEq] at h
          obtain ⟨-, rfl⟩ := h
          rw [hf.ev he]
          subst hF
          simp only [List.getElem?_map, Option.map_eq_some_iff, Prod.mk.injEq] at hft
          obtain ⟨fl, hfl, rfl, rfl⟩ := hft
          have hfl' : F[f]? = some fl := by simpa using hfl
          unfold sz at hm
          cases hti : Γ fl.type with
          | none => simp [hti] at hm
          | some ti =>
            simp [hti] at hm
            have hs := (hΓ _ _ hti).size w
            rw [hm] at hs
            simp [Instr.fieldAt, run_underlying hd, hfl', conc, Instr.sureAddr, fieldPlace, hs, go_sem, Addr.add]
            split <;> simp <;> omega
        · cases h
      · cases h
    · cases h
  · cases h
theorem field_ok (hΓ : GOK P Γ) {t : List (Nat × SV)} {β : Nat → Bt} {n : Nat} {a : Act} (hf : FrOK β n t a) {S : TypeId} {x : Operand} {f : Nat} {c : Prop} {r : SV} (h : oField Γ t S x f = some (c, r)) (w : World) :
    (Instr.field S (a.eval x) f).run P w = Result.ok (conc β r) w := by
  unfold oField at h
  split at h
  · rename_i fs hk
    obtain ⟨d, hd, F, rfl, hF⟩ := kd_some hΓ hk
    split at h
    · rename_i l he
      split at h
      · rename_i o ft hft
        split at h
        · rename_i ti hti
          have h' := moved h
          rw [hf.ev he]
          subst hF
          simp only [List.getElem?_map, Option.map_eq_some_iff, Prod.mk.injEq] at hft
          obtain ⟨fl, hfl, rfl, rfl⟩ := hft
          have hfl' : F[f]? = some fl := by simpa using hfl
          have hp := part_ok hΓ hti (β := β) h' w
          simpa [Instr.field, run_underlying hd, hfl', conc, concL_map, asAgg, go_sem] using hp
        · cases h
      · cases h
    · cases h
  · cases h
theorem conv_ok (hΓ : GOK P Γ) {t : List (Nat × SV)} {β : Nat → Bt} {n : Nat} {a : Act} (hf : FrOK β n t a) {S D : TypeId} {x : Operand} {c : Prop} {r : SV} (h : oConv Γ t S D x = some (c, r)) (w : World) :
    (convert S D (a.eval x)).run P w = Result.ok (conc β r) w := by
  unfold oConv at h
  split at h
  · rename_i k0 hk0
    obtain ⟨d0, hd0, -⟩ := kd_some hΓ hk0
    split at h
    · rename_i k hk
      obtain ⟨d, hd, hs⟩ := kd_some hΓ hk
      split at h
      · rename_i y he
        have h' := moved h
        rw [hf.ev he]
        unfold convS at h'
        split at h' <;> simp only [Option.some.injEq, reduceCtorEq] at h'
        · subst h'
          simp only [undSays] at hs
          subst hs
          simp [convert, run_underlying hd, run_underlying hd0, conc, Conv.intToInt, go_sem]
        · subst h'
          simp only [undSays] at hs
          subst hs
          simp [convert, run_underlying hd, run_underlying hd0, conc, go_sem]
      · cases h
    · cases h
  · cases h
theorem slice_ok (hΓ : GOK P Γ) {t : List (Nat × SV)} {β : Nat → Bt} {n : Nat} {a : Act} (hf : FrOK β n t a) {T : TypeId} {x : Operand} {lo hi : Option Operand} {c : Prop} {r : SV} (h : oSlice Γ t T x lo hi = some (c, r)) (hc : c) (w : World) :
    (Instr.sliceAt T (a.eval x) (lo.map a.eval) (hi.map a.eval) none).run P w = Result.ok (conc β r) w := by
  unfold oSlice at h
  split at h
  · rename_i hk
    obtain ⟨d, hd, hs⟩ := kd_some hΓ hk
    simp only [undSays] at hs
    subst hs
    split at h
    · rename_i l he
      split at h
      · rename_i lo' hlo
        split at h
        · rename_i hi' hhi
          simp only [Option.map_eq_some_iff, Prod.mk.injEq] at h
          obtain ⟨⟨c', f, u⟩, hb, rfl, rfl⟩ := h
          rw [hf.ev he, opt_map hf hlo, opt_map hf hhi]
          have := bnds_ok (P := P) (β := β) hb hc false w
          simp only [Instr.sliceAt, Sem.run_bind, run_underlying hd, Result.andThen, conc, Instr.slice, Option.isSome_none, Bool.false_eq_true, if_false]
          rw [show (⟨List.toArray l⟩ : ByteArray).size = l.length from rfl, this]
          simp [ex_list]
        · cases h
      · cases h
    · cases h
  · cases h
theorem index_ok (hΓ : GOK P Γ) {t : List (Nat × SV)} {β : Nat → Bt} {n : Nat} {a : Act} (hf : FrOK β n t a) {T : TypeId} {x i : Operand} {c : Prop} {r : SV} (h : oIndex Γ t T x i = some (c, r)) (hc : c) (w : World) :
    (Instr.index T (a.eval x) (a.eval i)).run P w = Result.ok (conc β r) w := by
  unfold oIndex at h
  split at h
  · rename_i hk
    obtain ⟨d, hd, hs⟩ := kd_some hΓ hk
    simp only [undSays] at hs
    subst hs
    split at h
    · rename_i l he
      split at h
      · rename_i k m hi
        simp only [Option.some.injEq, Prod.mk.injEq] at h
        obtain ⟨rfl, rfl⟩ := h
        rw [hf.ev he, hf.ev hi]
        obtain ⟨h0, h1⟩ := hc
        have h2 : m.toNat < l.length := by omega
        simp only [Instr.index, conc, asIntOf, Sem.run_bind, Sem.run_pure, Result.andThen_ok, run_underlying hd, if_pos h0]
        rw [getElem?_pos (⟨List.toArray l⟩ : ByteArray) m.toNat h2]
        simp [List.getD_eq_getElem?_getD, List.getElem?_eq_getElem h2, get_list]
      · cases h
    · cases h
  · cases h
theorem zip_fold (off : Nat) : ∀ (xs : List Value) (j : Nat) (arr : Array Value), off + j + xs.length ≤ arr.size →
    (xs.zipIdx j).foldl (fun cs (p : Value × Nat) => cs.setIfInBounds (off + p.2) p.1) arr = (arr.toList.take (off + j) ++ xs ++ arr.toList.drop (off + j + xs.length)).toArray
  | [], j, arr, _ => by simp
  | x :: r, j, arr, h => by
    simp only [List.length_cons] at h
    rw [List.zipIdx_cons, List.foldl_cons, zip_fold off r (j + 1) _ (by simp; omega)]
    congr 1
    simp only [Array.toList_setIfInBounds, List.length_cons]
    have hlt : off + j < arr.toList.length := by simp; omega
    rw [show off + (j + 1) = off + j + 1 by omega, show off + j + 1 + r.length = off + j + (r.length + 1) by omega]
    rw [List.take_succ_eq_append_getElem (by simp; omega), List.getElem_set_self, List.take_set_of_le (Nat.le_refl _), List.drop_set_of_lt (by omega)]
    simp
theorem evParts_fr {t : List (Nat × SV)} {β : Nat → Bt} {n : Nat} {a : Act} (hf : FrOK β n t a) : ∀ {ps : List (Nat × Operand)} {l : List (Nat × SV)}, evParts t ps = some l → ps.map (fun p => (p.1, a.eval p.2)) = l.map fun p => (p.1, conc β p.2)
  | [], l, e => by simp [evParts] at e; subst e; rfl
  | (i, o) :: r, l, e => by
    simp only [evParts] at e
    split at e
    · rename_i x hx
      split at e
      · rename_i l' hl
        cases e
        simp [hf.ev hx, evParts_fr hf hl]
      · cases e
    · cases e
theorem fillA_ok (s : Nat) (β : Nat → Bt) : ∀ (ps : List (Nat × SV)) (c c' : List SV), fillA s ps c = some c' → Instr.fill (fun i => some (i * s, s)) (c.map (conc β)).toArray (ps.map fun p => (p.1, conc β p.2)) = some (c'.map (conc β)).toArray
  | [], c, c', e => by simp [fillA] at e; subst e; rfl
  | (i, x) :: r, c, c', e => by
    simp only [fillA] at e
    split at e
    · rename_i hcond
      obtain ⟨hv, hl, ho⟩ := hcond
      have ih := fillA_ok s β r _ c' e
      have hcells := conc_cells' β x hv
      simp only [List.map_cons, Instr.fill, hcells, List.size_toArray, List.length_map]
      rw [if_neg (by simp [hl]; omega)]
      rw [← ih]
      congr 1
      have hz := zip_fold (i * s) ((cells x).map (conc β)) 0 (c.map (conc β)).toArray (by simp; omega)
      rw [← Array.foldl_toList, Array.toList_zipIdx]
      simp only [Nat.add_zero, List.length_map] at hz
      rw [hz]
      simp [splice, List.map_take, List.map_drop]
    · cases e
theorem sz_some (hΓ : GOK P Γ) {e : TypeId} {s : Nat} (h : sz Γ e = some s) (w : World) : (Go.sizeOf e).run P w = Result.ok s w := by
  unfold sz at h
  cases ht : Γ e with
  | none => simp [ht] at h
  | some ti => simp [ht] at h; rw [← h]; exact (hΓ _ ti ht).size w
theorem buildA_ok (hΓ : GOK P Γ) {t : List (Nat × SV)} {β : Nat → Bt} {n : Nat} {a : Act} (hf : FrOK β n t a) {T : TypeId} {ps : Array (Nat × Operand)} {c : Prop} {r : SV} (h : oBuildA Γ t T ps.toList = some (c, r)) (w : World) :
    (Instr.build T (ps.map fun p => (p.1, a.eval p.2))).run P w = Result.ok (conc β r) w := by
  unfold oBuildA at h
  (repeat' split at h) <;> try (cases h; done)
  rename_i ti hti _ m e hk _ s hs _ l hl _ cc hc
  cases h
  have hok := hΓ T ti hti
  obtain ⟨d, hd, hu⟩ := hok.und
  rw [hk] at hu
  simp only [undSays] at hu
  subst hu
  obtain ⟨z, hz, hzc⟩ := hok.zero w
  have hsz := sz_some hΓ hs w
  have hfill := fillA_ok s β l ti.zero cc hc
  rw [← evParts_fr hf hl, hok.flat β, ← hzc] at hfill
  simp only [Instr.build, Sem.run_bind, hz, Result.andThen_ok, run_underlying hd, hsz, Array.toList_map, hfill, conc, concL_map]
  rfl
theorem idxA_ok (hΓ : GOK P Γ) {t : List (Nat × SV)} {β : Nat → Bt} {n : Nat} {a : Act} (hf : FrOK β n t a) {T : TypeId} {x i : Operand} {c : Prop} {r : SV} (h : oIdxA Γ t T x i = some (c, r)) (hc : c) (w : World) :
    (Instr.indexAt T (a.eval x) (a.eval i)).run P w = Result.ok (conc β r) w := by
  unfold oIdxA at h
  (repeat' split at h) <;> try (cases h; done)
  rename_i _ m e hk _ s hs _ b off hx _ k kk hi
  cases h
  obtain ⟨d, hd, hu⟩ := kd_some hΓ hk
  simp only [undSays] at hu
  subst hu
  have hsz := sz_some hΓ hs w
  rw [hf.ev hx, hf.ev hi]
  obtain ⟨h0, h1, h2⟩ := hc
  have : kk.toNat < m := by omega
  simp [Instr.indexAt, asIntOf, run_underlying hd, h1, h2, hsz, conc, Instr.sureAddr, Addr.add, go_sem]
  split <;> simp <;> omega
theorem pv_ok (hΓ : GOK P Γ) {t : List (Nat × SV)} {β : Nat → Bt} {n : Nat} {a : Act} (hf : FrOK β n t a) {o : Oper} {c : Prop} {x : SV} (h : pv Γ t o.op = some (c, x)) (hc : c) (w : World) :
    (execOp a.eval o).run P w = Result.ok (.value (conc β x)) w := by
  obtain ⟨dst, op, ty, pos, after, guard⟩ := o
  simp only at h
  cases op <;> simp only [pv, reduceCtorEq] at h
  case move y => simp only [execOp]; rw [hf.ev (moved h)]; rfl
  case assign y => simp only [execOp]; rw [hf.ev (moved h)]; rfl
  case pick c' y z =>
    unfold oPick at h
    split at h
    · rename_i b hb
      simp only [execOp]
      rw [hf.ev hb]
      have := pick_ok (P := P) (moved h) (va := a.eval y) (vb := a.eval z) (fun _ e => hf.ev e) (fun _ e => hf.ev e) w
      have := run_val this
      simpa using this
    · cases h
  case fieldAddr S y f => exact run_val (fieldAddr_ok hΓ hf h w)
  case field S y f => exact run_val (field_ok hΓ hf h w)
  case convert S D y => exact run_val (conv_ok hΓ hf h w)
  case index T y i => exact run_val (index_ok hΓ hf h hc w)
  case build T ps => exact run_val (buildA_ok hΓ hf h w)
  case indexAddr T y i => exact run_val (idxA_ok hΓ hf h hc w)
  case slice T y lo hi mx =>
    cases mx with
    | none => exact run_val (slice_ok hΓ hf h hc w)
    | some _ => cases h
  case binOp op T y z yt =>
    unfold oBin at h
    split at h
    · rename_i u hu
      split at h
      · rename_i v hv
        have key : ∀ r, (binOp op T (conc β u) (conc β v)).run P w = Result.ok r w → (∀ l, conc β u ≠ .agg l) → conc β u ≠ .nilIface → Sem.run P (do eqGuard op T y z (conc β u) (conc β v); binOp op T (conc β u) (conc β v)) w = Result.ok r w := by
          intro r hr h1 h2
          have hg : (eqGuard op T y z (conc β u) (conc β v)).run P w = Result.ok () w := by
            generalize conc β u = A at h1 h2
            cases A <;> first | exact absurd rfl (h1 _) | exact absurd rfl h2 | (unfold eqGuard; simp; done) | (unfold eqGuard; split <;> rfl)
          rw [Sem.run_bind, hg, Result.andThen_ok, hr]
        simp only [execOp]
        rw [hf.ev hu, hf.ev hv]
        split at h
        · rename_i r hr
          cases h
          refine run_val (key _ (bin_ok hr hc w) ?_ ?_)
          all_goals
            unfold bin at hr
            cases u <;> simp [conc] at hr ⊢
        · split at h
          · rename_i k hk
            have hr := moved h
            refine run_val ?_
            rw [Sem.run_bind, eqB_guard hΓ hr y z w, Result.andThen_ok]
            exact eqB_ok hΓ hk hr w
          · cases h
      · cases h
    · cases h
  case unOp op T y =>
    unfold oUn at h
    split at h
    · split at h
      · rename_i b hb
        cases h
        simp only [execOp]
        rw [hf.ev hb]
        rfl
      · cases h
    · cases h
  case extract y i =>
    unfold oExtract at h
    split at h
    · rename_i l hl
      have h' := moved h
      simp only [execOp]
      rw [hf.ev hl]
      refine run_val ?_
      simp [Instr.extract, conc, concL_map, h']
    · cases h
  case makeFunc fn first caps =>
    unfold oFunc at h
    split at h
    · rename_i hfst
      split at h
      · rename_i l hl
        cases h
        have hm := mapM_ev hf hl
        simp only [execOp]
        have h0 : first = #[] := by simpa using hfst
        subst h0
        refine run_val ?_
        simp only [Instr.makeFunc, conc, concL_map, ← hm]
        have e : Array.map a.eval caps = (List.map a.eval caps.toList).toArray := Array.ext' (by simp)
        simp [e]
      · cases h
    · cases h
  case call cl =>
    obtain ⟨callee, args, ts⟩ := cl
    cases callee <;> (try simp only [reduceCtorEq] at h)
    rename_i b
    cases b <;> (try simp only [reduceCtorEq] at h)
    unfold oLen at h
    split at h
    · rename_i y hy
      split at h
      · rename_i T hT
        split at h
        · rename_i k hk
          obtain ⟨d, hd, hs⟩ := kd_some hΓ hk
          split at h
          · rename_i u hu
            have h' := moved h
            have ea : args = #[y] := by apply Array.ext'; simpa using hy
            have et : ts = #[T] := by apply Array.ext'; simpa using hT
            subst ea et
            have hev := hf.ev hu
            unfold lenS at h'
            split at h' <;> simp only [Option.some.injEq, reduceCtorEq] at h'
            all_goals
              subst h'
              simp only [undSays] at hs
              subst hs
              simp only [conc] at hev
              try (unfold oV at hev; split at hev)
              all_goals
              generalize a.eval = ρ at hev ⊢
              simp [execOp, resolve, invoke, builtin, Builtin.len_, hev, run_underlying hd, conc, goInt, go_sem]
          · cases h
        · cases h
      · cases h
    · cases h
end
end Vc
