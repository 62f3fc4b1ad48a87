/- A calculus of conditions: the conditions of a body, reckoned step by step. -/
import Derived.Test.YtkebjbphjnpjeaaVcN
import Derived.Still
set_option linter.all false
namespace Vc
open Go Go.RowKit Wf
/-- What a step leads to: a condition and a state; a call; nothing. -/
inductive StepR where
  | go (c : Prop) (σ : St)
  | call (f : FuncId) (args : List SV) (dst : Option Tmp) (σ : St)
  | bad
def goR (dst : Option Tmp) (σ : St) : Option (Prop × SV) → StepR → StepR
  | some (c, x), _ => .go c ⟨put dst x σ.t, σ.b⟩
  | none, m => m
def sAlloc (V : Cx) (dst : Option Tmp) (T : TypeId) (σ : St) : StepR := match V.Γ T with
  | some ti => .go True ⟨put dst (.p σ.b.length 0) σ.t, σ.b ++ [.cells ti.zero T true]⟩
  | none => .bad
def sBox (dst : Option Tmp) (T : TypeId) (x : Operand) (σ : St) : StepR := match ev σ.t x with
  | some x => .go (isV x = false) ⟨put dst (.p σ.b.length 0) σ.t, σ.b ++ [.cells (cells x) T true]⟩
  | none => .bad
def sLoad (V : Cx) (dst : Option Tmp) (T : TypeId) (x : Operand) (σ : St) : StepR := match ev σ.t x with
  | some (.p i off) => match getB σ.b i with
    | some (c, _, _) => match V.Γ T with
      | some ti => match partS ti.agg off ti.size c with
        | some x => .go (off + ti.size ≤ c.length) ⟨put dst x σ.t, σ.b⟩
        | none => .bad
      | none => .bad
    | none => .bad
  | _ => .bad
def sStore (V : Cx) (dst : Option Tmp) (T : TypeId) (x y : Operand) (σ : St) : StepR := match ev σ.t x with
  | some (.p i off) => match ev σ.t y with
    | some y => match getB σ.b i with
      | some (c, _, m) => match sz V.Γ T with
        | some s => .go (m = true ∧ (cells y).all one = true ∧ (cells y).length = s ∧ off + s ≤ c.length) ⟨put dst (.v undef) σ.t, setB σ.b i (splice c off (cells y))⟩
        | none => .bad
      | none => .bad
    | none => .bad
  | _ => .bad
def sBuild (V : Cx) (dst : Option Tmp) (T : TypeId) (ps : List (Nat × Operand)) (σ : St) : StepR := match V.Γ T with
  | some ti => match ti.kind with
    | .struct fs => match evParts σ.t ps with
      | some ps => match fillS fs V.Γ ps ti.zero with
        | some c => .go True ⟨put dst (.agg c) σ.t, σ.b⟩
        | none => .bad
      | none => .bad
    | _ => .bad
  | none => .bad
def isFunc : Fn → Bool
  | .func _ => true
  | _ => false
def sNil (dst : Option Tmp) (x : Operand) (σ : St) : StepR := match ev σ.t x with
  | some (.p i off) => .go True ⟨put dst (.p i off) σ.t, σ.b⟩
  | some (.fn f l) => .go (isFunc f = true) ⟨put dst (.fn f l) σ.t, σ.b⟩
  | _ => .bad
def sCall (dst : Option Tmp) (f : Operand) (args : List Operand) (σ : St) : StepR := match ev σ.t f with
  | some (.fn (.func f) caps) => match evs σ.t args with
    | some l => .call f (l ++ caps) dst σ
    | none => .bad
  | _ => .bad
def stepM (V : Cx) (dst : Option Tmp) : Op → St → StepR
  | .alloc T, σ => sAlloc V dst T σ
  | .box T x, σ => sBox dst T x σ
  | .load T x, σ => sLoad V dst T x σ
  | .store T x y, σ => sStore V dst T x y σ
  | .build T ps, σ => sBuild V dst T ps.toList σ
  | .nilCheck x, σ => sNil dst x σ
  | .call ⟨.value f, args, _⟩, σ => sCall dst f args.toList σ
  | _, _ => .bad
def stepO1 (V : Cx) (dst : Option Tmp) (op : Op) (σ : St) : StepR := goR dst σ (pv V.Γ σ.t op) (stepM V dst op σ)
def orN : Option (Prop × St) → StepR → StepR
  | some (c, σ), _ => .go c σ
  | none, m => m
def stepO (V : Cx) (dst : Option Tmp) (op : Op) (σ : St) : StepR := goR dst σ (pv V.Γ σ.t op) (orN (stepN V dst op σ) (stepM V dst op σ))
/-- What is asked of a step. -/
def HoldsR (V : Cx) (K : St → Prop) : StepR → Prop
  | .go c σ => c ∧ K σ
  | .call f args dst σ => (∃ r, PC V f args r ∧ K ⟨put dst r σ.t, σ.b⟩) ∨ (∃ R, SC V f args σ.b R ∧ ∀ r bs, R r bs → K ⟨put dst r σ.t, bs⟩)
  | .bad => False
theorem vcO_of_step {V : Cx} {n : Nat} {dst : Option Tmp} {op : Op} {σ : St} {K : St → Prop} (hf : fits n dst = true) (h : HoldsR V K (stepO1 V dst op σ)) : vcO V n dst op σ K := by
  refine ⟨hf, ?_⟩
  unfold stepO1 at h
  split
  · rename_i c x hp
    rw [hp] at h
    exact h
  · rename_i hp
    rw [hp] at h
    simp only [goR] at h
    cases op <;> simp only [stepM] at h <;> simp only [vcM]
    case alloc T => unfold sAlloc at h; (repeat' split at h) <;> simp_all [HoldsR]
    case box T x => unfold sBox at h; (repeat' split at h) <;> simp_all [HoldsR]
    case load T x => unfold sLoad at h; (repeat' split at h) <;> simp_all [HoldsR]
    case store T x y => unfold sStore at h; (repeat' split at h) <;> simp_all [HoldsR]
    case build T ps => unfold sBuild at h; (repeat' split at h) <;> simp_all [HoldsR]
    case nilCheck x =>
      unfold sNil at h
      split at h
      · rename_i e; rw [e]; exact h.2
      · rename_i f l e
        rw [e]
        refine ⟨?_, h.2⟩
        have := h.1
        cases f <;> simp [isFunc] at this ⊢
      · cases h
    case call c =>
      obtain ⟨callee, args, ts⟩ := c
      cases callee <;> simp only at h ⊢
      case value f => unfold sCall at h; (repeat' split at h) <;> simp_all [HoldsR]
      all_goals exact h
    all_goals exact h
theorem stepO_sound {V : Cx} {F : Fx V} {dst : Option Tmp} {op : Op} {σ : St} {K : St → Prop} (hfit : fits F.n dst = true) (h : HoldsR V K (stepO V dst op σ)) {a : Act} {w : World} (hr : Rel F σ a w) (ty : TypeId) (pos : String) (after : Array Edge) (guard : Option (Nat × Bool)) (Q : Exit → Act → World → Prop) :
    (⟨dst, op, ty, pos, after, guard⟩ : Oper).wp V.P a w (fun a w => ∃ σ, K σ ∧ Rel F σ a w) Q := by
  unfold stepO at h
  cases hp : pv V.Γ σ.t op with
  | some p =>
    rw [hp] at h
    exact vcO_sound (vcO_of_step hfit (by unfold stepO1; rw [hp]; exact h)) hr _ rfl rfl Q
  | none =>
    rw [hp] at h
    simp only [goR] at h
    cases hn : stepN V dst op σ with
    | some p =>
      rw [hn] at h
      exact stepN_sound hfit hn h.1 h.2 hr ty pos after guard Q
    | none =>
      rw [hn] at h
      exact vcO_sound (vcO_of_step hfit (by unfold stepO1; rw [hp]; exact h)) hr _ rfl rfl Q
/-- A store, cell by cell. -/
def setL (c : List SV) (off : Nat) (ys : List SV) : List SV := c.mapIdx fun p v => if off ≤ p ∧ p < off + ys.length then ys.getD (p - off) v else v
def stB (bs : List Res) : Option (Nat × Nat × List SV) → List Res
  | none => bs
  | some (j, off, ys) => match getB bs j with
    | some (c, _, _) => setB bs j (setL c off ys)
    | none => bs
/-- What an operation of a region that draws its order has done: the value, the store, the place it touched (block, from, how many; whether it was written). -/
structure Rec where
  x : SV
  st : Option (Nat × Nat × List SV)
  fp : Option (Bool × Nat × Nat × Nat)
inductive StepD where
  | val (c : Prop) (r : Rec)
  | call (f : FuncId) (args : List SV)
  | bad
def valD (c : Prop) (x : SV) : StepD := .val c ⟨x, none, none⟩
def goD : Option (Prop × SV) → StepD → StepD
  | some (c, x), _ => valD c x
  | none, m => m
def dLoad (V : Cx) (T : TypeId) (x : Operand) (σ : St) : StepD := match ev σ.t x with
  | some (.p i off) => match getB σ.b i with
    | some (c, _, _) => match V.Γ T with
      | some ti => match partS ti.agg off ti.size c with
        | some x => .val (off + ti.size ≤ c.length ∧ 0 < ti.size) ⟨x, none, some (false, i, off, ti.size)⟩
        | none => .bad
      | none => .bad
    | none => .bad
  | _ => .bad
def dStore (V : Cx) (T : TypeId) (x y : Operand) (σ : St) : StepD := match ev σ.t x with
  | some (.p i off) => match ev σ.t y with
    | some y => match getB σ.b i with
      | some (c, _, m) => match sz V.Γ T with
        | some s =>   .val (m = true ∧ (cells y).all one = true ∧ (cells y).length = s ∧ off + s ≤ c.length ∧ 0 < s) ⟨.v undef, some (i, off, cells y), some (true, i, off, s)⟩
        | none => .bad
      | none => .bad
    | none => .bad
  | _ => .bad
def dBuild (V : Cx) (T : TypeId) (ps : List (Nat × Operand)) (σ : St) : StepD := match V.Γ T with
  | some ti => match ti.kind with
    | .struct fs => match evParts σ.t ps with
      | some ps => match fillS fs V.Γ ps ti.zero with
        | some c => valD True (.agg c)
        | none => .bad
      | none => .bad
    | _ => .bad
  | none => .bad
def dNil (x : Operand) (σ : St) : StepD := match ev σ.t x with
  | some (.p i off) => valD True (.p i off)
  | some (.fn f l) => valD (isFunc f = true) (.fn f l)
  | _ => .bad
def dCall (f : Operand) (args : List Operand) (σ : St) : StepD := match ev σ.t f with
  | some (.fn (.func f) caps) => match evs σ.t args with
    | some l => .call f (l ++ caps)
    | none => .bad
  | _ => .bad
def stepDM (V : Cx) : Op → St → StepD
  | .load T x, σ => dLoad V T x σ
  | .store T x y, σ => dStore V T x y σ
  | .build T ps, σ => dBuild V T ps.toList σ
  | .nilCheck x, σ => dNil x σ
  | .call ⟨.value f, args, _⟩, σ => dCall f args.toList σ
  | _, _ => .bad
def stepD (V : Cx) (op : Op) (σ : St) : StepD := goD (pv V.Γ σ.t op) (stepDM V op σ)
/-- May these operations come in every order that the text allows? -/
def depB (ops : Array Oper) : Nat → Nat → Nat → Bool
  | 0, _, _ => false
  | f + 1, i, k => match ops[i]? with
    | some o => o.after.any fun e => Region.binds .any e && (e.on == k || depB ops f e.on k)
    | none => false
def overB : Option (Bool × Nat × Nat × Nat) → Option (Bool × Nat × Nat × Nat) → Bool
  | some (true, j, off, n), some (_, j', off', n') => j == j' && decide (off < off' + n') && decide (off' < off + n)
  | _, _ => false
def conflB (ops : Array Oper) (fps : List (Option (Bool × Nat × Nat × Nat))) (i k : Nat) : Bool :=
  (match (ops[k]?).bind (·.dst) with
   | some d => (match ops[i]? with
     | some o => (o.looksAt ops).contains d || o.dst == some d
     | none => false)
   | none => false) || overB ((fps[k]?).getD none) ((fps[i]?).getD none)
def compatB (ops : Array Oper) (fps : List (Option (Bool × Nat × Nat × Nat))) : Bool :=
  (List.range ops.size).all fun i => (List.range ops.size).all fun k =>
    k == i || !conflB ops fps i k || (if k < i then depB ops ops.size i k else depB ops ops.size k i)
def aheadB (ops : Array Oper) : Bool :=
  (List.range ops.size).all fun i => match ops[i]? with
    | some o => o.after.all fun e => !Region.binds .any e || decide (e.on < i)
    | none => true
def OkD (ops : Array Oper) (fps : List (Option (Bool × Nat × Nat × Nat))) : Prop := (compatB ops fps && aheadB ops) = true
/-- What is left to be run. -/
inductive Item where
  | dops (ops : Array Oper) (l : List Oper) (rs : List (Option (Bool × Nat × Nat × Nat)))
  | code (c : Code)
  | ops (ops : Array Oper) (l : List Oper)
  | endb (id : Nat)
  | endl (I : St → Prop) (μ : St → Nat) (m : Nat)
def exitIt (id : Nat) : List Item → Option (List Item)
  | [] => none
  | .endb id' :: k => if id' = id then some k else exitIt id k
  | _ :: k => exitIt id k
/-- The end of the function. -/
structure Fin where
  rs : List ResultVar
  K : SV → List Res → Prop
def endV (V : Cx) (E : Fin) (σ : St) : Option (List SV) → Prop
  | some l => E.K (tupS l) σ.b
  | none => False
/-- The guard's place and value. -/
def gdst : List Oper → Nat → Option Tmp
  | [], _ => none
  | o :: _, 0 => o.dst
  | _ :: r, j + 1 => gdst r j
def gvalD (t : List (Nat × SV)) : Option Tmp → Option (Nat × Bool)
  | some d => match lk d t with
    | some (.bool b) => some (d, b)
    | _ => none
  | none => none
/-- No bool: the slot of an operation that was itself left out. -/
def nob : Value → Bool
  | .bool _ => false
  | _ => true
theorem nob_undef : nob undef = true := rfl
def gvU (t : List (Nat × SV)) : Option Tmp → Bool
  | some d => match lk d t with
    | some (.v x) => nob x
    | _ => false
  | none => false
mutual
def vcS (V : Cx) (n : Nat) (E : Fin) : Nat → List Item → St → Prop
  | 0, _, _ => False
  | _ + 1, [], σ => endV V E σ (ressS V σ E.rs)
  | f + 1, .code .skip :: k, σ => vcS V n E f k σ
  | f + 1, .code (.region _ ops false) :: k, σ => vcS V n E f (.ops ops ops.toList :: k) σ
  | f + 1, .code (.region _ ops true) :: k, σ => vcS V n E f (.dops ops ops.toList [] :: k) σ
  | f + 1, .code (.seq x y) :: k, σ => vcS V n E f (.code x :: .code y :: k) σ
  | f + 1, .code (.cond c x y) :: k, σ => condV V n E f x y k σ (ev σ.t c)
  | f + 1, .code (.block id x) :: k, σ => vcS V n E f (.code x :: .endb id :: k) σ
  | f + 1, .code (.loop x) :: k, σ => loopV V n E f x k σ
  | f + 1, .code (.exit id) :: k, σ => exitV V n E f σ (exitIt id k)
  | _ + 1, .code .ret :: _, σ => endV V E σ (ressS V σ E.rs)
  | _ + 1, .code _ :: _, _ => False
  | f + 1, .endb _ :: k, σ => vcS V n E f k σ
  | _ + 1, .endl I μ m :: _, σ => I σ ∧ μ σ < m
  | f + 1, .ops _ [] :: k, σ => vcS V n E f k σ
  | f + 1, .ops ops (⟨dst, op, _, _, _, none⟩ :: r) :: k, σ => fits n dst = true ∧ contV V n E f ops r k (stepO V dst op σ)
  | f + 1, .ops ops (⟨dst, op, _, _, _, some (j, want)⟩ :: r) :: k, σ => fits n dst = true ∧ guardV V n E f ops dst op want r k σ (gvalD σ.t (gdst ops.toList j)) (gvU σ.t (gdst ops.toList j))
  | f + 1, .dops ops [] rs :: k, σ => OkD ops rs ∧ vcS V n E f k σ
  | f + 1, .dops ops (⟨dst, op, _, _, _, none⟩ :: r) rs :: k, σ => fits n dst = true ∧ contD V n E f ops r rs k dst σ (stepD V op σ)
  | f + 1, .dops ops (⟨dst, op, _, _, _, some (j, want)⟩ :: r) rs :: k, σ => fits n dst = true ∧ guardD V n E f ops dst op want r rs k σ (gvalD σ.t (gdst ops.toList j)) (gvU σ.t (gdst ops.toList j))
def contD (V : Cx) (n : Nat) (E : Fin) : Nat → Array Oper → List Oper → List (Option (Bool × Nat × Nat × Nat)) → List Item → Option Tmp → St → StepD → Prop
  | f, ops, r, rs, k, dst, σ, .val c ⟨x, st, fp⟩ => c ∧ vcS V n E f (.dops ops r (rs ++ [fp]) :: k) ⟨put dst x σ.t, stB σ.b st⟩
  | f, ops, r, rs, k, dst, σ, .call g args => callD V n E f ops r rs k dst σ g args
  | _, _, _, _, _, _, _, .bad => False
def callD (V : Cx) (n : Nat) (E : Fin) : Nat → Array Oper → List Oper → List (Option (Bool × Nat × Nat × Nat)) → List Item → Option Tmp → St → FuncId → List SV → Prop
  | f, ops, r, rs, k, dst, σ, g, args => ∃ x, PC V g args x ∧ vcS V n E f (.dops ops r (rs ++ [none]) :: k) ⟨put dst x σ.t, σ.b⟩
def guardD (V : Cx) (n : Nat) (E : Fin) : Nat → Array Oper → Option Tmp → Op → Bool → List Oper → List (Option (Bool × Nat × Nat × Nat)) → List Item → St → Option (Nat × Bool) → Bool → Prop
  | f, ops, dst, op, want, r, rs, k, σ, some (d, b), _ => fits n (some d) = true ∧ (b = want → contD V n E f ops r rs k dst ⟨(d, .bool want) :: σ.t, σ.b⟩ (stepD V op ⟨(d, .bool want) :: σ.t, σ.b⟩)) ∧ (b = !want → vcS V n E f (.dops ops r (rs ++ [none]) :: k) ⟨put dst (.v undef) ((d, .bool (!want)) :: σ.t), σ.b⟩)
  | f, ops, dst, _, _, r, rs, k, σ, none, true => vcS V n E f (.dops ops r (rs ++ [none]) :: k) ⟨put dst (.v undef) σ.t, σ.b⟩
  | _, _, _, _, _, _, _, _, _, none, false => False
def condV (V : Cx) (n : Nat) (E : Fin) : Nat → Code → Code → List Item → St → Option SV → Prop
  | f, x, y, k, σ, some (.bool b) => (b = true → vcS V n E f (.code x :: k) σ) ∧ (b = false → vcS V n E f (.code y :: k) σ)
  | _, _, _, _, _, _ => False
def loopV (V : Cx) (n : Nat) (E : Fin) : Nat → Code → List Item → St → Prop
  | f, x, k, σ => ∃ (I : St → Prop) (μ : St → Nat), I σ ∧ ∀ σ', I σ' → vcS V n E f (.code x :: .endl I μ (μ σ') :: k) σ'
def exitV (V : Cx) (n : Nat) (E : Fin) : Nat → St → Option (List Item) → Prop
  | f, σ, some k => vcS V n E f k σ
  | _, _, none => False
def contV (V : Cx) (n : Nat) (E : Fin) : Nat → Array Oper → List Oper → List Item → StepR → Prop
  | f, ops, r, k, .go c σ => c ∧ vcS V n E f (.ops ops r :: k) σ
  | f, ops, r, k, .call g args dst σ => callV V n E f ops r k g args dst σ
  | _, _, _, _, .bad => False
def callV (V : Cx) (n : Nat) (E : Fin) : Nat → Array Oper → List Oper → List Item → FuncId → List SV → Option Tmp → St → Prop
  | f, ops, r, k, g, args, dst, σ => (∃ x, PC V g args x ∧ vcS V n E f (.ops ops r :: k) ⟨put dst x σ.t, σ.b⟩) ∨ (∃ R, SC V g args σ.b R ∧ ∀ x bs, R x bs → vcS V n E f (.ops ops r :: k) ⟨put dst x σ.t, bs⟩)
def guardV (V : Cx) (n : Nat) (E : Fin) : Nat → Array Oper → Option Tmp → Op → Bool → List Oper → List Item → St → Option (Nat × Bool) → Bool → Prop
  | f, ops, dst, op, want, r, k, σ, some (d, b), _ => fits n (some d) = true ∧ (b = want → contV V n E f ops r k (stepO V dst op ⟨(d, .bool want) :: σ.t, σ.b⟩)) ∧ (b = !want → vcS V n E f (.ops ops r :: k) ⟨put dst (.v undef) ((d, .bool (!want)) :: σ.t), σ.b⟩)
  | f, ops, dst, _, _, r, k, σ, none, true => vcS V n E f (.ops ops r :: k) ⟨put dst (.v undef) σ.t, σ.b⟩
  | _, _, _, _, _, _, _, _, none, false => False
end
end Vc
