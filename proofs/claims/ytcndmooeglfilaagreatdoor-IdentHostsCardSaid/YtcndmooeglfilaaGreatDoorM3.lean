/- Texts of this claim, laid together: Vc7, Frame, Laid, ProgF, PlainQ, AcctP, DidP, DidQ, DidR. -/
import Derived.Still
import Derived.Test.YtcndmooeglfilaaGreatDoorRows
import Derived.WalkKit
import Derived.ProofKit
import Derived.OpenShut
import Derived.ShutString
import Derived.WideKeyArgs
import Derived.ChangeSame
import Derived.Deep.DeepHandedRow
import Derived.Deep.DeepLaidRun
import Derived.Lib.LaidTab
import Derived.Lib.SmallJoins
import Derived.SizedLaws
import Derived.Test.YtcndmooeglfilaaGreatDoorCards
import Derived.Test.YtcndmooeglfilaaGreatDoorTie
import Derived.Lib.Replace
import Derived.Test.YtcndmooeglfilaaGreatDoorM2
/- A calculus of conditions: whole functions, drawn regions, and the soundness of the reckoned conditions. -/
set_option linter.all false
namespace Vc
open Go Go.RowKit Wf
inductive StepR where
  | go (c : Prop) (σ : St)
  | call (f : FuncId) (args : List SV) (dst : Option Tmp) (σ : St)
  | bad
def goR (dst : Option Tmp) (σ : St) : Option (Prop × SV) → StepR → StepR
  | some (c, x), _ => .go c ⟨put dst x σ.t, σ.b⟩
  | none, m => m
def XC (V : Cx) (dst : Option Tmp) (T : TypeId) (σ : St) : StepR := match V.Γ T with
  | some ti => .go True ⟨put dst (.p σ.b.length 0) σ.t, σ.b ++ [.cells ti.zero T true]⟩
  | none => .bad
def sBox (dst : Option Tmp) (T : TypeId) (x : Operand) (σ : St) : StepR := match ev σ.t x with
  | some x => .go (isV x = false) ⟨put dst (.p σ.b.length 0) σ.t, σ.b ++ [.cells (cells x) T true]⟩
  | none => .bad
def XU (V : Cx) (dst : Option Tmp) (T : TypeId) (x : Operand) (σ : St) : StepR := match ev σ.t x with
  | some (.p i off) => match getB σ.b i with
    | some (c, _, _) => match V.Γ T with
      | some ti => match XM ti.agg off ti.size c with
        | some x => .go (off + ti.size ≤ c.length) ⟨put dst x σ.t, σ.b⟩
        | none => .bad
      | none => .bad
    | none => .bad
  | _ => .bad
def XH (V : Cx) (dst : Option Tmp) (T : TypeId) (x y : Operand) (σ : St) : StepR := match ev σ.t x with
  | some (.p i off) => match ev σ.t y with
    | some y => match getB σ.b i with
      | some (c, _, m) => match sz V.Γ T with
        | some s => .go (m = true ∧ (cells y).all one = true ∧ (cells y).length = s ∧ off + s ≤ c.length) ⟨put dst (.v undef) σ.t, setB σ.b i (Xs c off (cells y))⟩
        | none => .bad
      | none => .bad
    | none => .bad
  | _ => .bad
def Xr (V : Cx) (dst : Option Tmp) (T : TypeId) (ps : List (Nat × Operand)) (σ : St) : StepR := match V.Γ T with
  | some ti => match ti.kind with
    | .struct fs => match Xl σ.t ps with
      | some ps => match XZ fs V.Γ ps ti.zero with
        | some c => .go True ⟨put dst (.agg c) σ.t, σ.b⟩
        | none => .bad
      | none => .bad
    | _ => .bad
  | none => .bad
def Xt : Fn → Bool
  | .func _ => true
  | _ => false
def sNil (dst : Option Tmp) (x : Operand) (σ : St) : StepR := match ev σ.t x with
  | some (.p i off) => .go True ⟨put dst (.p i off) σ.t, σ.b⟩
  | some (.fn f l) => .go (Xt f = true) ⟨put dst (.fn f l) σ.t, σ.b⟩
  | some (.mv f l) => .go True ⟨put dst (.mv f l) σ.t, σ.b⟩
  | _ => .bad
def XL (dst : Option Tmp) (f : Operand) (args : List Operand) (σ : St) : StepR := match ev σ.t f with
  | some (.fn (.func f) caps) => match evs σ.t args with
    | some l => .call f (l ++ caps) dst σ
    | none => .bad
  | some (.mv f first) => match evs σ.t args with
    | some l => .call f (first ++ l) dst σ
    | none => .bad
  | _ => .bad
def Yd (V : Cx) (dst : Option Tmp) : Op → St → StepR
  | .alloc T, σ => XC V dst T σ
  | .box T x, σ => sBox dst T x σ
  | .load T x, σ => XU V dst T x σ
  | .store T x y, σ => XH V dst T x y σ
  | .build T ps, σ => Xr V dst T ps.toList σ
  | .nilCheck x, σ => sNil dst x σ
  | .call ⟨.value f, args, _⟩, σ => XL dst f args.toList σ
  | _, _ => .bad
def stepO1 (V : Cx) (dst : Option Tmp) (op : Op) (σ : St) : StepR := goR dst σ (pv V.Γ σ.t op) (Yd V dst op σ)
def orN : Option (Prop × St) → StepR → StepR
  | some (c, σ), _ => .go c σ
  | none, m => m
def XR (V : Cx) (dst : Option Tmp) (op : Op) (σ : St) : StepR := goR dst σ (pv V.Γ σ.t op) (orN (Yl V dst op σ) (Yd V dst op σ))
def HoldsR (V : Cx) (K : St → Prop) : StepR → Prop
  | .go c σ => c ∧ K σ
  | .call f args dst σ => (∃ r, PC V f args r ∧ K ⟨put dst r σ.t, σ.b⟩) ∨ (∃ R, SC V f args σ.b R ∧ ∀ r bs, R r bs → K ⟨put dst r σ.t, bs⟩)
  | .bad => False
theorem vcO_of_step {V : Cx} {n : Nat} {dst : Option Tmp} {op : Op} {σ : St} {K : St → Prop} (hf : fits n dst = true) (h : HoldsR V K (stepO1 V dst op σ)) : vcO V n dst op σ K := by
  refine ⟨hf, ?_⟩
  unfold stepO1 at h
  split
  · rename_i c x hp
    rw [hp] at h
    exact h
  · rename_i hp
    rw [hp] at h
    simp only [goR] at h
    cases op <;> simp only [Yd] at h <;> simp only [vcM]
    case alloc T => unfold XC at h; (repeat' split at h) <;> simp_all [HoldsR]
    case box T x => unfold sBox at h; (repeat' split at h) <;> simp_all [HoldsR]
    case load T x => unfold XU at h; (repeat' split at h) <;> simp_all [HoldsR]
    case store T x y => unfold XH at h; (repeat' split at h) <;> simp_all [HoldsR]
    case build T ps => unfold Xr at h; (repeat' split at h) <;> simp_all [HoldsR]
    case nilCheck x =>
      unfold sNil at h
      split at h
      · rename_i e; rw [e]; exact h.2
      · rename_i f l e
        rw [e]
        refine ⟨?_, h.2⟩
        have := h.1
        cases f <;> simp [Xt] at this ⊢
      · rename_i f l e; rw [e]; exact h.2
      · cases h
    case call c =>
      obtain ⟨callee, args, ts⟩ := c
      cases callee <;> simp only at h ⊢
      case value f => unfold XL at h; (repeat' split at h) <;> simp_all [HoldsR]
      all_goals exact h
    all_goals exact h
theorem stepO_sound {V : Cx} {F : Fx V} {dst : Option Tmp} {op : Op} {σ : St} {K : St → Prop} (hfit : fits F.n dst = true) (h : HoldsR V K (XR V dst op σ)) {a : Act} {w : World} (hr : Rel F σ a w) (ty : TypeId) (pos : String) (after : Array Edge) (guard : Option (Nat × Bool)) (Q : Exit → Act → World → Prop) :
    (⟨dst, op, ty, pos, after, guard⟩ : Oper).wp V.P a w (fun a w => ∃ σ, K σ ∧ Rel F σ a w) Q := by
  unfold XR at h
  cases hp : pv V.Γ σ.t op with
  | some p =>
    rw [hp] at h
    exact vcO_sound (vcO_of_step hfit (by unfold stepO1; rw [hp]; exact h)) hr _ rfl rfl Q
  | none =>
    rw [hp] at h
    simp only [goR] at h
    cases hn : Yl V dst op σ with
    | some p =>
      rw [hn] at h
      exact stepN_sound hfit hn h.1 h.2 hr ty pos after guard Q
    | none =>
      rw [hn] at h
      exact vcO_sound (vcO_of_step hfit (by unfold stepO1; rw [hp]; exact h)) hr _ rfl rfl Q
structure RecE where
  x : SV
  nb : Option (List Res)
  all : Bool
  rd : List (Nat × Nat × Nat)
  wr : List (Nat × Nat × Nat)
structure Rk where
  s : Bool
  all : Bool
  rd : List (Nat × Nat × Nat)
  wr : List (Nat × Nat × Nat)
inductive StepD where
  | val (c : Prop) (r : RecE)
  | call (f : FuncId) (args : List SV)
  | bad
def valD (c : Prop) (x : SV) : StepD := .val c ⟨x, none, false, [], []⟩
def goD : Option (Prop × SV) → StepD → StepD
  | some (c, x), _ => valD c x
  | none, m => m
def XD (V : Cx) (T : TypeId) (σ : St) : StepD := match V.Γ T with
  | some ti => .val True ⟨.p σ.b.length 0, some (σ.b ++ [.cells ti.zero T true]), false, [], [(σ.b.length, 0, 0)]⟩
  | none => .bad
def dBox (T : TypeId) (x : Operand) (σ : St) : StepD := match ev σ.t x with
  | some x => .val (isV x = false) ⟨.p σ.b.length 0, some (σ.b ++ [.cells (cells x) T true]), false, [], [(σ.b.length, 0, 0)]⟩
  | none => .bad
def XI (V : Cx) (T : TypeId) (x : Operand) (σ : St) : StepD := match ev σ.t x with
  | some (.p i off) => match getB σ.b i with
    | some (c, _, _) => match V.Γ T with
      | some ti => match XM ti.agg off ti.size c with
        | some x => .val (off + ti.size ≤ c.length ∧ 0 < ti.size) ⟨x, none, false, [(i, off, ti.size)], []⟩
        | none => .bad
      | none => .bad
    | none => .bad
  | _ => .bad
def XF (V : Cx) (T : TypeId) (x y : Operand) (σ : St) : StepD := match ev σ.t x with
  | some (.p i off) => match ev σ.t y with
    | some y => match getB σ.b i with
      | some (c, _, m) => match sz V.Γ T with
        | some s => .val (m = true ∧ (cells y).all one = true ∧ (cells y).length = s ∧ off + s ≤ c.length ∧ 0 < s) ⟨.v undef, some (setB σ.b i (Xs c off (cells y))), false, [], [(i, off, s)]⟩
        | none => .bad
      | none => .bad
    | none => .bad
  | _ => .bad
def XB (V : Cx) (T : TypeId) (ps : List (Nat × Operand)) (σ : St) : StepD := match V.Γ T with
  | some ti => match ti.kind with
    | .struct fs => match Xl σ.t ps with
      | some ps => match XZ fs V.Γ ps ti.zero with
        | some c => valD True (.agg c)
        | none => .bad
      | none => .bad
    | _ => .bad
  | none => .bad
def dNil (x : Operand) (σ : St) : StepD := match ev σ.t x with
  | some (.p i off) => valD True (.p i off)
  | some (.fn f l) => valD (Xt f = true) (.fn f l)
  | _ => .bad
def XK (f : Operand) (args : List Operand) (σ : St) : StepD := match ev σ.t f with
  | some (.fn (.func f) caps) => match evs σ.t args with
    | some l => .call f (l ++ caps)
    | none => .bad
  | _ => .bad
def Xv (V : Cx) : Op → St → StepD
  | .alloc T, σ => XD V T σ
  | .box T x, σ => dBox T x σ
  | .load T x, σ => XI V T x σ
  | .store T x y, σ => XF V T x y σ
  | .build T ps, σ => XB V T ps.toList σ
  | .nilCheck x, σ => dNil x σ
  | .call ⟨.value f, args, _⟩, σ => XK f args.toList σ
  | _, _ => .bad
def idxs : List (Option SV) → List (Nat × Nat × Nat)
  | [] => []
  | some (.o j _) :: r => (j, 0, 0) :: idxs r
  | _ :: r => idxs r
def Xz (V : Cx) : Op → Bool
  | .call ⟨.builtin .append, _, _⟩ => false
  | .makeSlice _ _ _ => false
  | .buildSlice _ _ _ => false
  | .slice _ _ _ _ _ => false
  | .convert _ _ _ => false
  | _ => true
def opL : Op → List Operand
  | .call ⟨_, args, _⟩ => args.toList
  | .buildSlice _ _ ps => ps.toList.map (·.2)
  | .makeSlice _ a v => [a, v]
  | .indexAddr _ a v => [a, v]
  | .slice _ x _ _ _ => [x]
  | .convert _ _ x => [x]
  | _ => []
def dN (V : Cx) (op : Op) (σ : St) : Option (Prop × St) → StepD → StepD
  | some (c, σ'), _ => match σ'.t with
    | (_, x) :: _ => if Xz V op then .val c ⟨x, none, false, idxs ((opL op).map (ev σ.t)), []⟩
        else .val c ⟨x, some σ'.b, false, [], (σ.b.length, 0, 0) :: idxs ((opL op).map (ev σ.t))⟩
    | [] => .bad
  | none, m => m
def XV (V : Cx) (op : Op) (σ : St) : StepD := goD (pv V.Γ σ.t op) (dN V op σ (Yl V (some 0) op σ) (Xv V op σ))
def depB (ops : Array Oper) : Nat → Nat → Nat → Bool
  | 0, _, _ => false
  | f + 1, i, k => match ops[i]? with
    | some o => o.after.any fun e => Region.binds .any e && (e.on == k || depB ops f e.on k)
    | none => false
def ovl (a b : Nat × Nat × Nat) : Bool := a.1 == b.1 && (b.2.2 == 0 || (decide (a.2.1 < b.2.1 + b.2.2) && decide (b.2.1 < a.2.1 + a.2.2)))
def anyOvl (xs ys : List (Nat × Nat × Nat)) : Bool := xs.any fun a => ys.any fun b => ovl a b
def slotC (ops : Array Oper) (i k : Nat) : Bool := match (ops[k]?).bind (·.dst) with
  | some d => (match ops[i]? with
    | some o => (o.looksAt ops).contains d || o.dst == some d
    | none => false)
  | none => false
def rk0 : Rk := ⟨false, false, [], []⟩
def pairB (ops : Array Oper) (rs : List Rk) (i k : Nat) : Bool :=
  if slotC ops i k || (((rs[i]?).getD rk0).s && ((rs[k]?).getD rk0).s) then (if k < i then depB ops ops.size i k else depB ops ops.size k i)
  else if ((rs[k]?).getD rk0).s && !((rs[i]?).getD rk0).rd.isEmpty then (if k < i then depB ops ops.size i k else depB ops ops.size k i) || !(((rs[k]?).getD rk0).all || anyOvl ((rs[i]?).getD rk0).rd ((rs[k]?).getD rk0).wr)
  else true
def compatB (ops : Array Oper) (rs : List Rk) : Bool :=
  (List.range ops.size).all fun i => (List.range ops.size).all fun k => k == i || pairB ops rs i k
def aheadB (ops : Array Oper) : Bool :=
  (List.range ops.size).all fun i => match ops[i]? with
    | some o => o.after.all fun e => !Region.binds .any e || decide (e.on < i)
    | none => true
def OkD (ops : Array Oper) (rs : List Rk) : Prop := (compatB ops rs && aheadB ops) = true
inductive Item where
  | dops (ops : Array Oper) (l : List Oper) (rs : List Rk) (fl : Option (List (Nat × List SV × TypeId)))
  | code (c : Code)
  | ops (ops : Array Oper) (l : List Oper)
  | endb (id : Nat)
  | endl (I : St → Prop) (μ : St → Nat) (m : Nat)
def XE (id : Nat) : List Item → Option (List Item)
  | [] => none
  | .endb id' :: k => if id' = id then some k else XE id k
  | _ :: k => XE id k
structure Fin where
  rs : List ResultVar
  K : SV → List Res → Prop
  late : List Nat := []
def flOf : List Nat → Nat → Option (List (Nat × List SV × TypeId))
  | [], _ => none
  | i :: r, id => if id = i then some [] else flOf r id
def allocT : Op → Option TypeId
  | .alloc T => some T
  | _ => none
def nameF : List (Nat × List SV × TypeId) → St → St
  | [], σ => σ
  | (d, z, T) :: r, σ => nameF r ⟨(d, .p σ.b.length 0) :: σ.t, σ.b ++ [.cells z T true]⟩
def flatD (ops : Array Oper) (i : Nat) : Option Tmp := (ops[i]?).bind (·.dst)
def okFl (ops : Array Oper) (ds : List Nat) : Bool :=
  ds.all fun d => (ops.toList.all fun o => !(o.looksAt ops).contains d) && (List.range ops.size).all fun i => (List.range ops.size).all fun k => i == k || !(flatD ops i == some d && flatD ops k == some d)
def endV (V : Cx) (E : Fin) (σ : St) : Option (List SV) → Prop
  | some l => E.K (tupS l) σ.b
  | none => False
def gdst : List Oper → Nat → Option Tmp
  | [], _ => none
  | o :: _, 0 => o.dst
  | _ :: r, j + 1 => gdst r j
def Yk (t : List (Nat × SV)) : Option Tmp → Option (Nat × Bool)
  | some d => match lk d t with
    | some (.bool b) => some (d, b)
    | _ => none
  | none => none
def nob : Value → Bool
  | .bool _ => false
  | _ => true
theorem nob_undef : nob undef = true := rfl
def gvU (t : List (Nat × SV)) : Option Tmp → Bool
  | some d => match lk d t with
    | some (.v x) => nob x
    | _ => false
  | none => false
def shape : Res → Res
  | .cells _ T m => .cells [] T m
  | .own _ e s n m => .own [] e s n m
  | r => r
def cellsR : Res → List SV
  | .cells c _ _ => c
  | .own c _ _ _ _ => c
  | _ => []
def ob (q : Option Nat) (r : Res) : Res × Nat × Option SV := (shape r, (cellsR r).length, match q with
  | some p => (cellsR r)[p]?
  | none => none)
def inR (x : Nat × Nat × Nat) (q : Option Nat) : Prop := q = none ∨ ∃ p, q = some p ∧ x.2.1 ≤ p ∧ p < x.2.1 + x.2.2
def touch (x : Nat × Nat × Nat) (j : Nat) (q : Option Nat) : Prop := x.1 = j ∧ (x.2.2 = 0 ∨ ∃ p, q = some p ∧ x.2.1 ≤ p ∧ p < x.2.1 + x.2.2)
def seen (x : Nat × Nat × Nat) (bi bs : List Res) : Prop := ∀ q, inR x q → (bs[x.1]?).map (ob q) = (bi[x.1]?).map (ob q)
def Outs (W : List (Nat × Nat × Nat)) (b b0 : List Res) : Prop := ∀ j q, (∀ y ∈ W, ¬ touch y j q) → (b[j]?).map (ob q) = (b0[j]?).map (ob q)
theorem outs_of {W : List (Nat × Nat × Nat)} {b b0 : List Res} (h : ∀ j, (∀ y ∈ W, y.1 ≠ j) → b[j]? = b0[j]?) (hW : ∀ y ∈ W, y.2.2 = 0) : Outs W b b0 := fun j q hq => by
  rw [h j fun y hy e => hq y hy ⟨e, .inl (hW y hy)⟩]
def XQ (b : Bool) (X Y : Prop) : Prop := (b = true → X) ∧ (b = false → Y)
theorem Xn (X Y : Prop) : XQ true X Y = X := by simp [XQ]
theorem Xo (X Y : Prop) : XQ false X Y = Y := by simp [XQ]
def XG (b want : Bool) (X Y : Prop) : Prop := (b = want → X) ∧ (b = !want → Y)
theorem Xg (X Y : Prop) : XG true true X Y = X := by simp [XG]
theorem Xd (X Y : Prop) : XG false false X Y = X := by simp [XG]
theorem Xe (X Y : Prop) : XG true false X Y = Y := by simp [XG]
theorem Xf (X Y : Prop) : XG false true X Y = Y := by simp [XG]
mutual
def vcS (V : Cx) (n : Nat) (E : Fin) : Nat → List Item → St → Prop
  | 0, _, _ => False
  | _ + 1, [], σ => endV V E σ (XT V σ E.rs)
  | f + 1, .code .skip :: k, σ => vcS V n E f k σ
  | f + 1, .code (.region _ ops false) :: k, σ => vcS V n E f (.ops ops ops.toList :: k) σ
  | f + 1, .code (.region id ops true) :: k, σ => vcS V n E f (.dops ops ops.toList [] (flOf E.late id) :: k) σ
  | f + 1, .code (.seq x y) :: k, σ => vcS V n E f (.code x :: .code y :: k) σ
  | f + 1, .code (.cond c x y) :: k, σ => XN V n E f x y k σ (ev σ.t c)
  | f + 1, .code (.block id x) :: k, σ => vcS V n E f (.code x :: .endb id :: k) σ
  | f + 1, .code (.loop x) :: k, σ => loopV V n E f x k σ
  | f + 1, .code (.exit id) :: k, σ => XO V n E f σ (XE id k)
  | _ + 1, .code .ret :: _, σ => endV V E σ (XT V σ E.rs)
  | _ + 1, .code _ :: _, _ => False
  | f + 1, .endb _ :: k, σ => vcS V n E f k σ
  | _ + 1, .endl I μ m :: _, σ => I σ ∧ μ σ < m
  | f + 1, .ops _ [] :: k, σ => vcS V n E f k σ
  | f + 1, .ops ops (⟨dst, op, _, _, _, none⟩ :: r) :: k, σ => fits n dst = true ∧ Yc V n E f ops r k (XR V dst op σ)
  | f + 1, .ops ops (⟨dst, op, _, _, _, some (j, want)⟩ :: r) :: k, σ => fits n dst = true ∧ XA V n E f ops dst op want r k σ (Yk σ.t (gdst ops.toList j)) (gvU σ.t (gdst ops.toList j))
  | f + 1, .dops ops [] rs none :: k, σ => OkD ops rs ∧ vcS V n E f k σ
  | f + 1, .dops ops [] rs (some ys) :: k, σ => (OkD ops rs ∧ okFl ops (ys.map (·.1)) = true) ∧ vcS V n E f k (nameF ys σ)
  | f + 1, .dops ops (⟨dst, op, _, _, _, none⟩ :: r) rs fl :: k, σ => fits n dst = true ∧ contF V n E f ops r rs fl k dst op σ
  | f + 1, .dops ops (⟨dst, op, _, _, _, some (j, want)⟩ :: r) rs fl :: k, σ => fits n dst = true ∧ Xy V n E f ops dst op want r rs fl k σ (Yk σ.t (gdst ops.toList j)) (gvU σ.t (gdst ops.toList j))
def contF (V : Cx) (n : Nat) (E : Fin) : Nat → Array Oper → List Oper → List Rk → Option (List (Nat × List SV × TypeId)) → List Item → Option Tmp → Op → St → Prop
  | f, ops, r, rs, none, k, dst, op, σ => Yg V n E f ops r rs none k dst σ (XV V op σ)
  | f, ops, r, rs, some ys, k, dst, op, σ => contG V n E f ops r rs ys k dst op σ (allocT op)
def contG (V : Cx) (n : Nat) (E : Fin) : Nat → Array Oper → List Oper → List Rk → List (Nat × List SV × TypeId) → List Item → Option Tmp → Op → St → Option TypeId → Prop
  | f, ops, r, rs, ys, k, dst, op, σ, none => Yg V n E f ops r rs (some ys) k dst σ (XV V op σ)
  | f, ops, r, rs, ys, k, dst, _, σ, some T => contH V n E f ops r rs ys k dst σ T (V.Γ T)
def contH (V : Cx) (n : Nat) (E : Fin) : Nat → Array Oper → List Oper → List Rk → List (Nat × List SV × TypeId) → List Item → Option Tmp → St → TypeId → Option TI → Prop
  | f, ops, r, rs, ys, k, some d, σ, T, some ti => vcS V n E f (.dops ops r (rs ++ [⟨false, false, [], []⟩]) (some (ys ++ [(d, ti.zero, T)])) :: k) ⟨(d, .v undef) :: σ.t, σ.b⟩
  | _, _, _, _, _, _, _, _, _, _ => False
def Yg (V : Cx) (n : Nat) (E : Fin) : Nat → Array Oper → List Oper → List Rk → Option (List (Nat × List SV × TypeId)) → List Item → Option Tmp → St → StepD → Prop
  | f, ops, r, rs, fl, k, dst, σ, .val c ⟨x, none, all, rd, wr⟩ => c ∧ vcS V n E f (.dops ops r (rs ++ [⟨false, all, rd, wr⟩]) fl :: k) ⟨put dst x σ.t, σ.b⟩
  | f, ops, r, rs, fl, k, dst, σ, .val c ⟨x, some b, all, rd, wr⟩ => c ∧ vcS V n E f (.dops ops r (rs ++ [⟨true, all, rd, wr⟩]) fl :: k) ⟨put dst x σ.t, b⟩
  | f, ops, r, rs, fl, k, dst, σ, .call g args => callD V n E f ops r rs fl k dst σ g args
  | _, _, _, _, _, _, _, _, .bad => False
def callD (V : Cx) (n : Nat) (E : Fin) : Nat → Array Oper → List Oper → List Rk → Option (List (Nat × List SV × TypeId)) → List Item → Option Tmp → St → FuncId → List SV → Prop
  | f, ops, r, rs, fl, k, dst, σ, g, args => (∃ x, PC V g args x ∧ vcS V n E f (.dops ops r (rs ++ [⟨false, false, [], []⟩]) fl :: k) ⟨put dst x σ.t, σ.b⟩) ∨ (∃ x b, SC V g args σ.b (fun r b' => r = x ∧ b' = b) ∧ vcS V n E f (.dops ops r (rs ++ [⟨true, true, [], []⟩]) fl :: k) ⟨put dst x σ.t, b⟩) ∨
    (∃ x b W, SC V g args σ.b (fun r b' => r = x ∧ b' = b) ∧ Outs W b σ.b ∧ vcS V n E f (.dops ops r (rs ++ [⟨true, false, [], W⟩]) fl :: k) ⟨put dst x σ.t, b⟩)
def Xy (V : Cx) (n : Nat) (E : Fin) : Nat → Array Oper → Option Tmp → Op → Bool → List Oper → List Rk → Option (List (Nat × List SV × TypeId)) → List Item → St → Option (Nat × Bool) → Bool → Prop
  | f, ops, dst, op, want, r, rs, fl, k, σ, some (d, b), _ => fits n (some d) = true ∧ XG b want (Yg V n E f ops r rs fl k dst ⟨(d, .bool want) :: σ.t, σ.b⟩ (XV V op ⟨(d, .bool want) :: σ.t, σ.b⟩)) (vcS V n E f (.dops ops r (rs ++ [⟨false, false, [], []⟩]) fl :: k) ⟨put dst (.v undef) ((d, .bool (!want)) :: σ.t), σ.b⟩)
  | f, ops, dst, _, _, r, rs, fl, k, σ, none, true => vcS V n E f (.dops ops r (rs ++ [⟨false, false, [], []⟩]) fl :: k) ⟨put dst (.v undef) σ.t, σ.b⟩
  | _, _, _, _, _, _, _, _, _, _, none, false => False
def XN (V : Cx) (n : Nat) (E : Fin) : Nat → Code → Code → List Item → St → Option SV → Prop
  | f, x, y, k, σ, some (.bool b) => XQ b (vcS V n E f (.code x :: k) σ) (vcS V n E f (.code y :: k) σ)
  | _, _, _, _, _, _ => False
def loopV (V : Cx) (n : Nat) (E : Fin) : Nat → Code → List Item → St → Prop
  | f, x, k, σ => ∃ (I : St → Prop) (μ : St → Nat), I σ ∧ ∀ σ', I σ' → vcS V n E f (.code x :: .endl I μ (μ σ') :: k) σ'
def XO (V : Cx) (n : Nat) (E : Fin) : Nat → St → Option (List Item) → Prop
  | f, σ, some k => vcS V n E f k σ
  | _, _, none => False
def Yc (V : Cx) (n : Nat) (E : Fin) : Nat → Array Oper → List Oper → List Item → StepR → Prop
  | f, ops, r, k, .go c σ => c ∧ vcS V n E f (.ops ops r :: k) σ
  | f, ops, r, k, .call g args dst σ => callV V n E f ops r k g args dst σ
  | _, _, _, _, .bad => False
def callV (V : Cx) (n : Nat) (E : Fin) : Nat → Array Oper → List Oper → List Item → FuncId → List SV → Option Tmp → St → Prop
  | f, ops, r, k, g, args, dst, σ => (∃ x, PC V g args x ∧ vcS V n E f (.ops ops r :: k) ⟨put dst x σ.t, σ.b⟩) ∨ (∃ R, SC V g args σ.b R ∧ ∀ x bs, R x bs → vcS V n E f (.ops ops r :: k) ⟨put dst x σ.t, bs⟩)
def XA (V : Cx) (n : Nat) (E : Fin) : Nat → Array Oper → Option Tmp → Op → Bool → List Oper → List Item → St → Option (Nat × Bool) → Bool → Prop
  | f, ops, dst, op, want, r, k, σ, some (d, b), _ => fits n (some d) = true ∧ XG b want (Yc V n E f ops r k (XR V dst op ⟨(d, .bool want) :: σ.t, σ.b⟩)) (vcS V n E f (.ops ops r :: k) ⟨put dst (.v undef) ((d, .bool (!want)) :: σ.t), σ.b⟩)
  | f, ops, dst, _, _, r, k, σ, none, true => vcS V n E f (.ops ops r :: k) ⟨put dst (.v undef) σ.t, σ.b⟩
  | _, _, _, _, _, _, _, _, none, false => False
end
end Vc
namespace Vc
open Go Go.RowKit Wf
/-! Updates in some order -/
def foldD {S : Type} (u : Nat → S → S) (D : Nat → Bool) : Nat → S → S
  | 0, s => s
  | n + 1, s => if D n then u n (foldD u D n s) else foldD u D n s
theorem fold_obs {S X : Type} (u : Nat → S → S) (obs : S → X) (hu : ∀ k s s', obs s = obs s' → obs (u k s) = obs (u k s')) (D D' : Nat → Bool) : ∀ (n : Nat) (s : S),
    (∀ k, k < n → D k = D' k ∨ ∀ s, obs (u k s) = obs s) → obs (foldD u D n s) = obs (foldD u D' n s)
  | 0, _, _ => rfl
  | n + 1, s, h => by
    have ih := fold_obs u obs hu D D' n s (fun k hk => h k (by omega))
    simp only [foldD]
    rcases h n (by omega) with e | e
    · rw [e]
      split
      · exact hu _ _ _ ih
      · exact ih
    · split <;> split <;> simp only [e, ih]
theorem fold_congr {S : Type} (u : Nat → S → S) (D D' : Nat → Bool) : ∀ (n : Nat) (s : S), (∀ k, k < n → D k = D' k) → foldD u D n s = foldD u D' n s
  | 0, _, _ => rfl
  | n + 1, s, h => by simp only [foldD]; rw [h n (by omega), fold_congr u D D' n s (fun k hk => h k (by omega))]
def preD (i : Nat) : Nat → Bool := fun k => decide (k < i)
def insD (D : Nat → Bool) (i : Nat) : Nat → Bool := fun k => D k || decide (k = i)
theorem fold_pre {S : Type} (u : Nat → S → S) : ∀ (n i : Nat) (s : S), i ≤ n → foldD u (preD i) n s = foldD u (preD i) i s := by
  intro n
  induction n with
  | zero => intro i s h; have : i = 0 := by omega
            subst this; rfl
  | succ n ih =>
    intro i s h
    by_cases e : i = n + 1
    · subst e; rfl
    · simp only [foldD]
      rw [if_neg (by simp [preD]; omega)]
      exact ih i s (by omega)
theorem fold_all {S : Type} (u : Nat → S → S) (D : Nat → Bool) : ∀ (n : Nat) (s : S), (∀ k, k < n → D k = true) → foldD u D n s = foldD u (preD n) n s := by
  intro n s h
  exact fold_congr u D (preD n) n s (fun k hk => by rw [h k hk]; simp [preD, hk])
theorem fold_pre_succ {S : Type} (u : Nat → S → S) (i : Nat) (s : S) : foldD u (preD (i + 1)) (i + 1) s = u i (foldD u (preD i) i s) := by
  simp only [foldD]
  rw [if_pos (by simp [preD])]
  congr 1
  exact fold_congr u _ _ i s (fun k hk => by simp [preD]; omega)
theorem fold_see {S X : Type} (u : Nat → S → S) (obs : S → X) (hu : ∀ k s s', obs s = obs s' → obs (u k s) = obs (u k s')) (D : Nat → Bool) (n i : Nat) (s : S) (hi : i ≤ n)
    (h : ∀ k, k < n → (∃ s, obs (u k s) ≠ obs s) → D k = decide (k < i)) : obs (foldD u D n s) = obs (foldD u (preD i) i s) := by
  rw [← fold_pre u n i s hi]
  refine fold_obs u obs hu D (preD i) n s (fun k hk => ?_)
  by_cases e : ∃ s, obs (u k s) ≠ obs s
  · exact .inl (h k hk e)
  · exact .inr (fun s => Classical.byContradiction fun hne => e ⟨s, hne⟩)
theorem fold_ins {S X : Type} (u : Nat → S → S) (obs : S → X) (hu : ∀ k s s', obs s = obs s' → obs (u k s) = obs (u k s')) (D : Nat → Bool) (n i : Nat) (s : S) (hi : i < n) (hD : D i = false)
    (h : (∃ s, obs (u i s) ≠ obs s) → ∀ k, k < n → (∃ s, obs (u k s) ≠ obs s) → D k = true → k < i)
    : obs (foldD u (insD D i) n s) = obs (u i (foldD u D n s)) := by
  by_cases e : ∃ s, obs (u i s) ≠ obs s
  · -- nothing behind i shows
    have h1 : obs (foldD u (insD D i) n s) = obs (foldD u (fun k => insD D i k && decide (k ≤ i)) n s) :=
      fold_obs u obs hu _ _ n s (fun k hk => by
        by_cases ek : ∃ s, obs (u k s) ≠ obs s
        · left
          by_cases hki : k ≤ i
          · simp [hki]
          · have : D k = false := by
              cases hdk : D k
              · rfl
              · have := h e k hk ek hdk; omega
            simp [insD, this]; omega
        · exact .inr (fun s => Classical.byContradiction fun hne => ek ⟨s, hne⟩))
    have h2 : ∀ m, i < m → foldD u (fun k => insD D i k && decide (k ≤ i)) m s = u i (foldD u D i s) := by
      intro m
      induction m with
      | zero => intro hm; omega
      | succ m ih =>
        intro hm
        simp only [foldD]
        by_cases hmi : m = i
        · subst hmi
          rw [if_pos (by simp [insD])]
          congr 1
          exact fold_congr u _ _ m s (fun k hk => by simp [insD, show k ≠ m by omega, show k ≤ m by omega])
        · rw [if_neg (by simp; omega)]
          exact ih (by omega)
    rw [h1, h2 n hi]
    refine hu _ _ _ ?_
    have h3 : obs (foldD u D n s) = obs (foldD u (fun k => D k && decide (k < i)) n s) :=
      fold_obs u obs hu _ _ n s (fun k hk => by
        by_cases ek : ∃ s, obs (u k s) ≠ obs s
        · left
          cases hdk : D k
          · simp
          · have := h e k hk ek hdk; simp [this]
        · exact .inr (fun s => Classical.byContradiction fun hne => ek ⟨s, hne⟩))
    have h4 : ∀ m, i ≤ m → foldD u (fun k => D k && decide (k < i)) m s = foldD u D i s := by
      intro m
      induction m with
      | zero => intro hm; have : i = 0 := by omega
                subst this; rfl
      | succ m ih =>
        intro hm
        by_cases hmi : i = m + 1
        · subst hmi
          exact fold_congr u _ _ (m + 1) s (fun k hk => by simp; omega)
        · simp only [foldD]
          rw [if_neg (by simp; omega)]
          exact ih (by omega)
    rw [h3, h4 n (by omega)]
  · have e' : ∀ s, obs (u i s) = obs s := fun s => Classical.byContradiction fun hne => e ⟨s, hne⟩
    rw [e']
    refine fold_obs u obs hu _ _ n s (fun k hk => ?_)
    by_cases hki : k = i
    · subst hki; exact .inr e'
    · left; simp [insD, hki]
/-! Any order -/
theorem wpAny_inv {P : Program} {ops : Array Oper} {Q : Exit → Act → World → Prop} {md : Region.Mode} (Inv : (Nat → Bool) → Act → World → Prop)
    (hstep : ∀ (listed : Array Bool) a w i, listed.size = ops.size → Inv (fun k => listed.getD k false) a w → i ∈ Region.ready md ops listed → wpOp P ops Q i (fun a' w' => Inv (insD (fun k => listed.getD k false) i) a' w') a w)
    (hend : ∀ (listed : Array Bool) a w, listed.size = ops.size → Inv (fun k => listed.getD k false) a w → Region.ready md ops listed = [] → Q .normal a w) :
    ∀ (fuel : Nat) (listed : Array Bool) a w, listed.size = ops.size → (listed.toList.filter (fun b => !b)).length ≤ fuel → Inv (fun k => listed.getD k false) a w → wpAny P md ops Q fuel listed a w := by
  have key : ∀ (listed : Array Bool) (i : Nat), i ∈ Region.ready md ops listed → i < listed.size ∧ listed.getD i false = false := by
    intro listed i hi
    have := (mem_ready.1 hi).1
    have hlt : i < listed.size := by
      rcases Nat.lt_or_ge i listed.size with h | h
      · exact h
      · simp [h] at this
    exact ⟨hlt, by simp [hlt] at this ⊢; exact this⟩
  intro fuel
  induction fuel with
  | zero =>
    intro listed a w hs hc hI
    have hr : Region.ready md ops listed = [] := by
      rcases h : Region.ready md ops listed with _ | ⟨i, r⟩
      · rfl
      · have hi : i ∈ Region.ready md ops listed := by rw [h]; simp
        obtain ⟨hlt, hf⟩ := key listed i hi
        have : false ∈ listed.toList.filter (fun b => !b) := by
          simp only [List.mem_filter]
          refine ⟨?_, rfl⟩
          have : listed[i] = false := by simpa [hlt] using hf
          rw [← this]
          exact Array.mem_toList_iff.2 (Array.getElem_mem hlt)
        have := List.length_pos_of_mem this
        omega
    exact ⟨hr, hend listed a w hs hI hr⟩
  | succ fuel ih =>
    intro listed a w hs hc hI
    refine ⟨fun hr => hend listed a w hs hI hr, fun i hi => ?_⟩
    obtain ⟨hlt, hf⟩ := key listed i hi
    refine wpOp_mono (fun a' w' hI' => ih (listed.setIfInBounds i true) a' w' (by simp [hs]) ?_ ?_) (hstep listed a w i hs hI hi)
    · have hl : listed[i] = false := by simpa [hlt] using hf
      have e : listed.toList = listed.toList.take i ++ false :: listed.toList.drop (i + 1) := by
        have h1 := (List.take_append_drop i listed.toList).symm
        rw [List.drop_eq_getElem_cons (by simpa using hlt)] at h1
        simpa [hl] using h1
      have hlen : (listed.toList.take i).length = i := by simp; omega
      have e2 : (listed.setIfInBounds i true).toList = listed.toList.take i ++ true :: listed.toList.drop (i + 1) := by
        rw [Array.toList_setIfInBounds]
        conv => lhs; rw [e]
        rw [List.set_append_right _ _ (by omega)]
        simp [hlen]
      rw [e2]
      rw [e] at hc
      simp at hc ⊢
      omega
    · have e : (fun k => (listed.setIfInBounds i true).getD k false) = insD (fun k => listed.getD k false) i := by
        funext k
        by_cases h : k = i
        · subst h; simp [insD, hlt]
        · simp only [insD]
          rw [Array.getD_eq_getD_getElem?, Array.getElem?_setIfInBounds_ne (fun q => h q.symm), ← Array.getD_eq_getD_getElem?]
          simp [h]
      rw [e]
      exact hI'
end Vc
namespace Vc
open Go Go.RowKit Wf
section
variable {V : Cx} {F : Fx V} {β : Nat → Bt} {fp : Nat → Nat → Prop}
theorem pv_congr {Γ : TypeId → Option TI} {t t' : List (Nat × SV)} {op : Op} (h : ∀ x ∈ op.operands, ev t x = ev t' x) : pv Γ t op = pv Γ t' op := by
  have opt : ∀ o : Option Operand, (∀ x, o = some x → ev t x = ev t' x) → optE t o = optE t' o := fun o ho => by
    cases o with
    | none => rfl
    | some x => simp [optE, ho x rfl]
  have lst : ∀ l : List Operand, (∀ x ∈ l, ev t x = ev t' x) → l.mapM (ev t) = l.mapM (ev t') := fun l => by
    induction l with
    | nil => intro _; rfl
    | cons x r ih => intro hl; simp only [List.mapM_cons]; rw [hl x (by simp), ih (fun y hy => hl y (by simp [hy]))]
  cases op <;> simp only [pv]
  case move x => simp only [XX]; rw [h x (by simp [Op.operands])]
  case assign x => simp only [XX]; rw [h x (by simp [Op.operands])]
  case pick c a b => simp only [Ya]; rw [h c (by simp [Op.operands]), h a (by simp [Op.operands]), h b (by simp [Op.operands])]
  case fieldAddr S x f => simp only [Xb]; rw [h x (by simp [Op.operands])]
  case field S x f => simp only [Xu]; rw [h x (by simp [Op.operands])]
  case binOp op T x y yt => simp only [oBin]; rw [h x (by simp [Op.operands]), h y (by simp [Op.operands])]
  case unOp op T x => simp only [oUn]; rw [h x (by simp [Op.operands])]
  case convert S D x => simp only [Ye]; rw [h x (by simp [Op.operands])]
  case slice T x lo hi mx =>
    cases mx with
    | some _ => rfl
    | none =>
      simp only [Xw]
      rw [h x (by simp [Op.operands]), opt lo (fun y hy => h y (by simp [Op.operands, hy])), opt hi (fun y hy => h y (by simp [Op.operands, hy]))]
  case index T x i => simp only [Xx]; rw [h x (by simp [Op.operands]), h i (by simp [Op.operands])]
  case build T ps =>
    have hp : ∀ l : List (Nat × Operand), (∀ x ∈ l, ev t x.2 = ev t' x.2) → Xl t l = Xl t' l := fun l => by
      induction l with
      | nil => intro _; rfl
      | cons x r ih => intro hl; obtain ⟨i, o⟩ := x; simp only [Xl]; rw [hl (i, o) (by simp), ih (fun y hy => hl y (by simp [hy]))]
    simp only [Xk]
    rw [hp ps.toList (fun x hx => h x.2 (by simp only [Op.operands]; rw [List.mem_toArray]; exact List.mem_map_of_mem hx))]
  case indexAddr T x i => simp only [XS]; rw [h x (by simp [Op.operands]), h i (by simp [Op.operands])]
  case extract x i => simp only [Xh]; rw [h x (by simp [Op.operands])]
  case makeFunc f first caps =>
    simp only [Yh]
    unfold evs
    rw [lst caps.toList (fun x hx => h x (by simp only [Op.operands]; exact Array.mem_append.2 (.inr (Array.mem_toList_iff.1 hx)))),
      lst first.toList (fun x hx => h x (by simp only [Op.operands]; exact Array.mem_append.2 (.inl (Array.mem_toList_iff.1 hx))))]
  case call c =>
    obtain ⟨callee, args, ts⟩ := c
    cases callee <;> (try simp only)
    rename_i b
    cases b <;> (try simp only)
    simp only [oLen]
    split
    · rename_i x hx
      rw [h x (by
        simp only [Op.operands, Call.operands]
        refine Array.mem_append.2 (.inr (Array.mem_toList_iff.1 ?_))
        rw [hx]; simp)]
    · rfl
theorem shape_setR (c : List SV) (r : Res) : shape (setR c r) = shape r := by cases r <;> rfl
theorem getB_shape {bs : List Res} {i : Nat} {c : List SV} {T : TypeId} {m : Bool} (h : getB bs i = some (c, T, m)) : ∃ r, bs[i]? = some r ∧ cellsR r = c ∧ ∀ c' r', shape r' = shape r → cellsR r' = c' → (∀ bs' : List Res, bs'[i]? = some r' → getB bs' i = some (c', T, m)) := by
  obtain ⟨r, hr, -, hc⟩ := getB_some h
  refine ⟨r, hr, by rcases hc with rfl | ⟨s, n, rfl⟩ <;> rfl, fun c' r' hs hcr bs' hb => ?_⟩
  unfold getB
  rw [hb]
  rcases hc with rfl | ⟨s, n, rfl⟩ <;> cases r' <;> simp [shape] at hs <;> simp [cellsR] at hcr <;> simp [hs, hcr]
theorem ovl_touch {a b : Nat × Nat × Nat} (h : ovl a b = false) {q : Option Nat} (hq : inR a q) : ¬ touch b a.1 q := by
  rintro ⟨h1, h2⟩
  have : ovl a b = true := by
    unfold ovl
    simp only [Bool.and_eq_true, beq_iff_eq, Bool.or_eq_true, decide_eq_true_eq]
    refine ⟨h1.symm, ?_⟩
    rcases h2 with h2 | ⟨p, rfl, h3, h4⟩
    · exact .inl h2
    · rcases hq with hq | ⟨p', hp, h5, h6⟩
      · cases hq
      · cases hp
        exact .inr ⟨by omega, by omega⟩
  rw [h] at this
  cases this
theorem seen_get {j off n : Nat} {bi bs : List Res} (h : seen (j, off, n) bi bs) {c : List SV} {T : TypeId} {m : Bool} (hg : getB bi j = some (c, T, m)) :
    ∃ c', getB bs j = some (c', T, m) ∧ c'.length = c.length ∧ ∀ p, off ≤ p → p < off + n → c'[p]? = c[p]? := by
  obtain ⟨r, hr, rfl, hall⟩ := getB_shape hg
  have key : ∀ q, inR (j, off, n) q → ∃ r', bs[j]? = some r' ∧ ob q r' = ob q r := fun q hq => by
    have := h q hq
    simp only [hr] at this
    cases hbs : bs[j]? with
    | none => rw [hbs] at this; simp at this
    | some r' =>
      rw [hbs] at this
      simp only [Option.map_some, Option.some.injEq] at this
      exact ⟨r', rfl, this⟩
  obtain ⟨r', hr', ho⟩ := key none (.inl rfl)
  simp only [ob, Prod.mk.injEq, and_true] at ho
  refine ⟨cellsR r', hall _ r' ho.1 rfl bs hr', ho.2, fun p h1 h2 => ?_⟩
  obtain ⟨r2, hr2, ho2⟩ := key (some p) (.inr ⟨p, rfl, h1, h2⟩)
  rw [hr'] at hr2
  cases hr2
  simp only [ob, Prod.mk.injEq] at ho2
  exact ho2.2.2
theorem seen_own {j off k : Nat} {bi bs : List Res} (h : seen (j, off, k) bi bs) {c : List SV} {e s n : Nat} {m : Bool} (hg : bi[j]? = some (.own c e s n m)) : ∃ c', bs[j]? = some (.own c' e s n m) := by
  have := h none (.inl rfl)
  simp only [hg] at this
  cases hbs : bs[j]? with
  | none => rw [hbs] at this; simp at this
  | some r' =>
    rw [hbs] at this
    simp only [Option.map_some, Option.some.injEq, ob, Prod.mk.injEq, and_true] at this
    cases r' <;> simp [shape] at this
    rename_i c' _ _ _ _
    obtain ⟨⟨rfl, rfl, rfl, rfl⟩, -⟩ := this
    exact ⟨c', rfl⟩
theorem partS_congr {agg : Bool} {off n : Nat} {c c' : List SV} (hn : 0 < n) (h : ∀ p, off ≤ p → p < off + n → c'[p]? = c[p]?) : XM agg off n c' = XM agg off n c := by
  unfold XM
  cases agg
  · simp [h off (Nat.le_refl _) (by omega)]
  · simp only [if_true]
    congr 2
    apply List.ext_getElem?
    intro q
    simp only [List.getElem?_take, List.getElem?_drop]
    split
    · exact h (off + q) (by omega) (by omega)
    · rfl
theorem mapM_congr {t t' : List (Nat × SV)} : ∀ (l : List Operand), (∀ x ∈ l, ev t x = ev t' x) → evs t l = evs t' l
  | [], _ => rfl
  | x :: r, h => by
    have := mapM_congr r (fun y hy => h y (by simp [hy]))
    unfold evs at this ⊢
    simp only [List.mapM_cons]
    rw [h x (by simp), this]
theorem evParts_congr {t t' : List (Nat × SV)} : ∀ (l : List (Nat × Operand)), (∀ x ∈ l.map (·.2), ev t x = ev t' x) → Xl t l = Xl t' l
  | [], _ => rfl
  | (i, x) :: r, h => by
    simp only [Xl]
    rw [h x (by simp), evParts_congr r (fun y hy => h y (by simp only [List.map_cons, List.mem_cons]; exact .inr hy))]
def hdS : List (Nat × SV) → SV
  | (_, x) :: _ => x
  | [] => .v undef
theorem stepN_put {dst : Option Tmp} {op : Op} {t : List (Nat × SV)} {b : List Res} {c : Prop} {σ' : St} (hs : Yl V dst op ⟨t, b⟩ = some (c, σ')) : ∃ x, σ'.t = put dst x t := by
  cases op <;> simp only [Yl, reduceCtorEq] at hs
  case call cl =>
    obtain ⟨callee, args, ts⟩ := cl
    cases callee <;> (try simp only [reduceCtorEq] at hs)
    rename_i bi
    cases bi <;> (try simp only [reduceCtorEq] at hs)
    case append =>
      unfold Xm at hs
      (repeat' split at hs) <;> try (cases hs; done)
      cases hs
      exact ⟨_, rfl⟩
    all_goals
      unfold Xq at hs
      (repeat' split at hs) <;> try (cases hs; done)
      obtain ⟨z, hz, e⟩ := Option.map_eq_some_iff.1 hs
      cases e
      exact ⟨z, rfl⟩
  case slice T x lo hi mx =>
    cases mx <;> simp only [reduceCtorEq] at hs
    unfold Xj at hs
    (repeat' split at hs) <;> try (cases hs; done)
    cases hs
    exact ⟨_, rfl⟩
  case convert S D x =>
    unfold Yb at hs
    (repeat' split at hs) <;> try (cases hs; done)
    all_goals
      cases hs
      exact ⟨_, rfl⟩
  all_goals
    first | unfold Yn at hs | unfold Xa at hs | unfold Xc at hs
    (repeat' split at hs) <;> try (cases hs; done)
    cases hs
    exact ⟨_, rfl⟩
theorem stepN_map {op : Op} {t t' : List (Nat × SV)} {b : List Res} (h : ∀ x ∈ op.operands, ev t' x = ev t x) (dst : Option Tmp) :
    Yl V dst op ⟨t', b⟩ = (Yl V (some 0) op ⟨t, b⟩).map fun p => (p.1, ⟨put dst (hdS p.2.t) t', p.2.b⟩) := by
  have opt : ∀ o : Option Operand, (∀ x, o = some x → ev t' x = ev t x) → optE t' o = optE t o := fun o ho => by
    cases o with
    | none => rfl
    | some x => simp [optE, ho x rfl]
  cases op <;> simp only [Yl, Option.map_none]
  case call cl =>
    obtain ⟨callee, args, ts⟩ := cl
    have harg : ∀ x ∈ args.toList, ev t' x = ev t x := fun x hx => h x (by
      simp only [Op.operands, Call.operands]
      exact Array.mem_append.2 (.inr (Array.mem_toList_iff.1 hx)))
    cases callee <;> (try simp only [Option.map_none])
    rename_i bi
    cases bi <;> (try simp only [Option.map_none])
    case append =>
      unfold Xm
      generalize args.toList = L at harg
      generalize ts.toList = TS
      match L, harg with
      | [s, x], harg =>
        simp only [harg s (by simp), harg x (by simp)]
        (repeat' split) <;> rfl
      | [], _ => rfl
      | [_], _ => rfl
      | _ :: _ :: _ :: _, _ => rfl
    all_goals
      unfold Xq
      generalize args.toList = L at harg
      match L, harg with
      | [s, x], harg =>
        simp only [harg s (by simp), harg x (by simp)]
        split
        · split
          · rw [Option.map_map]; rfl
          · rfl
        · rfl
      | [], _ => rfl
      | [_], _ => rfl
      | _ :: _ :: _ :: _, _ => rfl
  case makeSlice T l cc =>
    unfold Yn
    simp only [h l (by simp [Op.operands]), h cc (by simp [Op.operands])]
    (repeat' split) <;> rfl
  case buildSlice T n ps =>
    unfold Xa
    simp only [evParts_congr (t := t') (t' := t) ps.toList (fun x hx => h x (by simp only [Op.operands]; rw [List.mem_toArray]; exact hx))]
    (repeat' split) <;> rfl
  case indexAddr T x i =>
    unfold Xc
    simp only [h x (by simp [Op.operands]), h i (by simp [Op.operands])]
    (repeat' split) <;> rfl
  case slice T x lo hi mx =>
    cases mx <;> simp only [Option.map_none]
    unfold Xj
    simp only [h x (by simp [Op.operands]), opt lo (fun y hy => h y (by simp [Op.operands, hy])), opt hi (fun y hy => h y (by simp [Op.operands, hy]))]
    (repeat' split) <;> rfl
  case convert S D x =>
    unfold Yb
    simp only [h x (by simp [Op.operands])]
    (repeat' split) <;> rfl
theorem stepN_same {op : Op} {t t' : List (Nat × SV)} {b : List Res} (h : ∀ x ∈ op.operands, ev t' x = ev t x) {c : Prop} {σ' : St} (hs : Yl V (some 0) op ⟨t, b⟩ = some (c, σ')) :
    ∃ x, σ'.t = (0, x) :: t ∧ ∀ dst, Yl V dst op ⟨t', b⟩ = some (c, ⟨put dst x t', σ'.b⟩) := by
  obtain ⟨x, hx⟩ := stepN_put hs
  refine ⟨x, hx, fun dst => ?_⟩
  rw [stepN_map h dst, hs]
  simp only [Option.map_some, hx]
  rfl
theorem idxs_mem {l : List (Option SV)} {j n : Nat} (h : some (SV.o j n) ∈ l) : (j, 0, 0) ∈ idxs l := by
  induction l with
  | nil => cases h
  | cons x r ih =>
    simp only [List.mem_cons] at h
    rcases h with h | h
    · subst h; simp [idxs]
    · have := ih h
      cases x with
      | none => simpa [idxs] using this
      | some v => cases v <;> simp [idxs, this]
theorem idxs_zero {l : List (Option SV)} {x : Nat × Nat × Nat} (h : x ∈ idxs l) : x.2.2 = 0 := by
  induction l with
  | nil => cases h
  | cons y r ih =>
    cases y with
    | none => exact ih (by simpa [idxs] using h)
    | some v =>
      cases v
      case o j n =>
        simp only [idxs, List.mem_cons] at h
        rcases h with rfl | h
        · rfl
        · exact ih h
      all_goals exact ih (by simpa [idxs] using h)
theorem op_idx {op : Op} {t : List (Nat × SV)} {o : Operand} (ho : o ∈ opL op) {j n : Nat} (he : ev t o = some (.o j n)) : (j, 0, 0) ∈ idxs ((opL op).map (ev t)) :=
  idxs_mem (by rw [← he]; exact List.mem_map_of_mem ho)
theorem dst_keep {e s : Nat} {x : SV} {b bs : List Res} {n : Nat} {c : List SV} (h : dstS b e s x = some (n, c, bs)) {j : Nat} (hj : ∀ i m, x = .o i m → i ≠ j) : bs[j]? = b[j]? ∧ bs.length = b.length := by
  cases x <;> simp only [dstS, reduceCtorEq] at h
  case nils => cases h; exact ⟨rfl, rfl⟩
  case o i m =>
    split at h
    · split at h
      · cases h
        exact ⟨List.getElem?_set_ne (hj i _ rfl), by simp⟩
      · cases h
    · cases h
theorem app_keep {b : List Res} {X : Res} {j : Nat} (hj : j ≠ b.length) : (b ++ [X])[j]? = b[j]? := by
  rcases Nat.lt_or_ge j b.length with h | h
  · rw [List.getElem?_append_left h]
  · rw [List.getElem?_append_right h, List.getElem?_eq_none h, List.getElem?_eq_none (by simp; omega)]
theorem stepN_keep {op : Op} {t : List (Nat × SV)} {b : List Res} {c : Prop} {σ' : St} (hs : Yl V (some 0) op ⟨t, b⟩ = some (c, σ')) {j : Nat} (hj : j ≠ b.length) (hi : ∀ x ∈ idxs ((opL op).map (ev t)), x.1 ≠ j) : σ'.b[j]? = b[j]? := by
  have hne : ∀ (o : Operand), o ∈ opL op → ∀ i m, ev t o = some (.o i m) → i ≠ j := fun o ho i m he => hi _ (op_idx ho he)
  cases op <;> simp only [Yl, reduceCtorEq] at hs
  case call cl =>
    obtain ⟨callee, args, ts⟩ := cl
    have harg : ∀ x ∈ args.toList, x ∈ opL (Op.call ⟨callee, args, ts⟩) := fun x hx => hx
    cases callee <;> (try simp only [reduceCtorEq] at hs)
    rename_i bi
    cases bi <;> (try simp only [reduceCtorEq] at hs)
    case append =>
      unfold Xm at hs
      split at hs
      · rename_i s x hl
        (repeat' split at hs) <;> try (cases hs; done)
        cases hs
        rename_i hd _ _ _ _
        obtain ⟨h1, h2⟩ := dst_keep hd (j := j) (fun i m e => hne s (harg s (by rw [hl]; simp)) i m (by rw [← e]; assumption))
        simp only
        rw [app_keep (by rw [h2]; exact hj), h1]
      · cases hs
    all_goals
      unfold Xq at hs
      (repeat' split at hs) <;> try (cases hs; done)
      obtain ⟨z, hz, e⟩ := Option.map_eq_some_iff.1 hs
      cases e
      rfl
  case makeSlice T l cc =>
    unfold Yn at hs
    (repeat' split at hs) <;> try (cases hs; done)
    cases hs
    exact app_keep hj
  case buildSlice T n ps =>
    unfold Xa at hs
    (repeat' split at hs) <;> try (cases hs; done)
    cases hs
    exact app_keep hj
  case indexAddr T x i =>
    unfold Xc at hs
    (repeat' split at hs) <;> try (cases hs; done)
    cases hs
    rfl
  case slice T x lo hi' mx =>
    cases mx <;> simp only [reduceCtorEq] at hs
    unfold Xj at hs
    (repeat' split at hs) <;> try (cases hs; done)
    rename_i hre
    cases hs
    simp only
    unfold reS at hre
    split at hre
    · rename_i i m he
      have hij : i ≠ j := hne x (by simp [opL]) i m he
      split at hre
      · split at hre
        · split at hre
          · cases hre
            rw [app_keep (by simpa using hj), List.getElem?_set_ne hij]
          · cases hre
            rw [app_keep (by simpa using hj), List.getElem?_set_ne hij]
        · cases hre
      · cases hre
    · cases hre
  case convert S D x =>
    unfold Yb at hs
    (repeat' split at hs) <;> try (cases hs; done)
    all_goals cases hs
    all_goals first | rfl | exact app_keep hj
theorem stepN_reads {op : Op} (hr : Xz V op = true) {t : List (Nat × SV)} {b b' : List Res} {c : Prop} {σ' : St} (hs : Yl V (some 0) op ⟨t, b⟩ = some (c, σ')) (hc : c)
    (hseen : ∀ x ∈ idxs ((opL op).map (ev t)), seen x b b') : ∃ c', c' ∧ Yl V (some 0) op ⟨t, b'⟩ = some (c', ⟨σ'.t, b'⟩) := by
  cases op <;> simp only [Yl, reduceCtorEq] at hs
  case call cl =>
    obtain ⟨callee, args, ts⟩ := cl
    cases callee <;> (try simp only [reduceCtorEq] at hs)
    rename_i bi
    cases bi <;> (try simp only [reduceCtorEq] at hs)
    case append => simp [Xz] at hr
    all_goals
      simp only [Yl]
      unfold Xq at hs ⊢
      split at hs
      · rename_i s x hl
        simp only
        split at hs
        · rename_i u hu
          split at hs
          · rename_i v hv
            obtain ⟨z, hz, e⟩ := Option.map_eq_some_iff.1 hs
            cases e
            exact ⟨True, trivial, by simp [hl, hu, hv, hz]⟩
          · cases hs
        · cases hs
      · cases hs
  case indexAddr T x i =>
    simp only [Yl]
    unfold Xc at hs ⊢
    split at hs
    · rename_i e hk
      split at hs
      · rename_i s hsz
        split at hs
        · rename_i u hu
          split at hs
          · rename_i k kk hi
            split at hs
            · rename_i c0 y ha
              cases hs
              simp only at hu hi
              simp only [hu, hi]
              unfold Ym at ha
              split at ha
              · rename_i j n
                split at ha
                · rename_i cc e1 s1 n1 m1 hj
                  cases ha
                  obtain ⟨c'', hb'⟩ := seen_own (hseen (j, 0, 0) (op_idx (o := x) (by simp [opL]) hu)) hj
                  simp only at hc
                  refine ⟨_, ?_, by simp only [Ym, hb']; rfl⟩
                  refine ⟨hc.1, ?_⟩
                  have h2 := hc.2
                  simp only [Xc.sizeIs, hj] at h2
                  simp only [Xc.sizeIs, hb']
                  exact h2
                · cases ha
              · cases ha
            · cases hs
          · cases hs
        · cases hs
      · cases hs
    · cases hs
  all_goals simp [Xz] at hr
theorem stepD_go {dst : Option Tmp} {op : Op} {t t' : List (Nat × SV)} {b b' : List Res} (h : ∀ x ∈ op.operands, ev t' x = ev t x) {c : Prop} {r : RecE} (hs : XV V op ⟨t, b⟩ = .val c r) (hc : c) (hb : r.nb.isSome = true → b' = b) (hseen : r.nb = none → ∀ x ∈ r.rd, seen x b b') :
    HoldsR V (fun σ => σ = ⟨put dst r.x t', r.nb.getD b'⟩) (XR V dst op ⟨t', b'⟩) := by
  unfold XV at hs
  unfold XR
  rw [pv_congr (t := t') (t' := t) h]
  simp only at hs
  cases hp : pv V.Γ t op with
  | some p =>
    rw [hp] at hs
    obtain ⟨c', x⟩ := p
    simp only [goD, valD] at hs
    cases hs
    exact ⟨hc, rfl⟩
  | none =>
    rw [hp] at hs
    simp only [goD, goR] at hs ⊢
    cases hn : Yl V (some 0) op ⟨t, b⟩ with
    | some p =>
      obtain ⟨c', σ'⟩ := p
      rw [hn] at hs
      obtain ⟨x, hx, -⟩ := stepN_same (t' := t) (fun _ _ => rfl) hn
      simp only [dN, hx] at hs
      split at hs
      · rename_i hrd
        cases hs
        obtain ⟨c2, hc2, e2⟩ := stepN_reads hrd hn hc (hseen rfl)
        obtain ⟨x2, hx2, e3⟩ := stepN_same h e2
        simp only [hx, List.cons.injEq, Prod.mk.injEq, true_and, and_true] at hx2
        rw [e3 dst]
        simp only [orN]
        exact ⟨hc2, by rw [← hx2]; rfl⟩
      · cases hs
        obtain rfl := hb rfl
        obtain ⟨x2, hx2, e3⟩ := stepN_same h hn
        simp only [hx, List.cons.injEq, Prod.mk.injEq, true_and, and_true] at hx2
        rw [e3 dst]
        simp only [orN]
        exact ⟨hc, by rw [← hx2]; rfl⟩
    | none =>
      rw [hn] at hs
      simp only [dN] at hs
      cases op <;> simp only [Xv, reduceCtorEq] at hs
      case alloc T =>
        unfold XD at hs
        simp only [Yl, orN, Yd, XC]
        split at hs
        · rename_i ti hti
          cases hs
          obtain rfl := hb rfl
          exact ⟨trivial, rfl⟩
        · cases hs
      case box T x =>
        unfold dBox at hs
        simp only [Yl, orN, Yd, sBox]
        split at hs
        · rename_i u hu
          cases hs
          obtain rfl := hb rfl
          simp only at hu
          rw [h x (by simp [Op.operands]), hu]
          exact ⟨hc, rfl⟩
        · cases hs
      case load T x =>
        unfold XI at hs
        simp only [Yl, orN, Yd, XU]
        rw [h x (by simp [Op.operands])]
        (repeat' split at hs) <;> try (cases hs; done)
        rename_i i off he _ c0 T0 m0 hg _ ti hti _ y hy
        cases hs
        simp only at he hg
        obtain ⟨c1, hg1, hl1, hp1⟩ := seen_get (hseen rfl (i, off, ti.size) (by simp)) hg
        rw [he]
        simp only [hg1, hti, partS_congr hc.2 hp1, hy]
        exact ⟨by rw [hl1]; exact hc.1, rfl⟩
      case store T x y =>
        unfold XF at hs
        simp only [Yl, orN, Yd, XH]
        rw [h x (by simp [Op.operands]), h y (by simp [Op.operands])]
        (repeat' split at hs) <;> try (cases hs; done)
        rename_i i off he _ u hu _ c0 T0 m0 hg _ s hsz
        cases hs
        obtain rfl := hb rfl
        simp only at he hg hu
        rw [he, hu]
        simp only [hg, hsz]
        exact ⟨⟨hc.1, hc.2.1, hc.2.2.1, hc.2.2.2.1⟩, rfl⟩
      case build T ps =>
        unfold XB at hs
        simp only [Yl, orN, Yd, Xr]
        rw [evParts_congr (t := t') (t' := t) ps.toList (fun x hx => h x (by simp only [Op.operands]; rw [List.mem_toArray]; exact hx))]
        (repeat' split at hs) <;> try (cases hs; done)
        rename_i ti hti _ fs hk _ l hl _ cc hcc
        simp only [valD] at hs
        cases hs
        simp only at hl
        simp only [hti, hk, hl, hcc]
        exact ⟨trivial, rfl⟩
      case nilCheck x =>
        unfold dNil at hs
        simp only [Yl, orN, Yd, sNil]
        rw [h x (by simp [Op.operands])]
        split at hs
        · rename_i i off he
          simp only [valD] at hs
          cases hs
          simp only at he
          rw [he]
          exact ⟨trivial, rfl⟩
        · rename_i f l he
          simp only [valD] at hs
          cases hs
          simp only at he
          rw [he]
          exact ⟨hc, rfl⟩
        · cases hs
      case call cl =>
        obtain ⟨callee, args, ts⟩ := cl
        cases callee <;> simp only [reduceCtorEq] at hs
        unfold XK at hs
        (repeat' split at hs) <;> cases hs
theorem stepD_call {dst : Option Tmp} {op : Op} {t t' : List (Nat × SV)} {b b' : List Res} (h : ∀ x ∈ op.operands, ev t' x = ev t x) {g : FuncId} {args : List SV} (hs : XV V op ⟨t, b⟩ = .call g args) : XR V dst op ⟨t', b'⟩ = .call g args dst ⟨t', b'⟩ := by
  unfold XV at hs
  unfold XR
  rw [pv_congr (t := t') (t' := t) h]
  simp only at hs
  cases hp : pv V.Γ t op with
  | some p => rw [hp] at hs; obtain ⟨c', x⟩ := p; simp [goD, valD] at hs
  | none =>
    rw [hp] at hs
    simp only [goD, goR] at hs ⊢
    cases hn : Yl V (some 0) op ⟨t, b⟩ with
    | some p =>
      obtain ⟨c', σ'⟩ := p
      rw [hn] at hs
      obtain ⟨x, hx, -⟩ := stepN_same (t' := t) (fun _ _ => rfl) hn
      simp only [dN, hx] at hs
      split at hs <;> cases hs
    | none =>
      rw [hn] at hs
      simp only [dN] at hs
      cases op <;> simp only [Xv, reduceCtorEq] at hs
      case alloc T => unfold XD at hs; (repeat' split at hs) <;> cases hs
      case box T x => unfold dBox at hs; (repeat' split at hs) <;> cases hs
      case load T x => unfold XI at hs; (repeat' split at hs) <;> cases hs
      case store T x y => unfold XF at hs; (repeat' split at hs) <;> cases hs
      case build T ps => unfold XB at hs; (repeat' split at hs) <;> (try simp only [valD] at hs) <;> cases hs
      case nilCheck x => unfold dNil at hs; (repeat' split at hs) <;> (try simp only [valD] at hs) <;> cases hs
      case call cl =>
        obtain ⟨callee, args, ts⟩ := cl
        cases callee <;> simp only [reduceCtorEq] at hs
        rename_i f
        unfold XK at hs
        simp only [Yl, orN, Yd, XL]
        rw [h f (by simp [Op.operands, Call.operands])]
        have he : evs t' args.toList = evs t args.toList := mapM_congr args.toList (fun x hx => h x (by
          simp only [Op.operands, Call.operands]
          exact Array.mem_append.2 (.inr (Array.mem_toList_iff.1 hx))))
        rw [he]
        split at hs
        · rename_i ff caps hf
          split at hs
          · rename_i l hl
            simp only at hf hl
            rw [hf]
            simp only [hl]
            cases hs
            rfl
          · cases hs
        · cases hs
def UnE (r : RecE) (bi : List Res) : Prop := ∀ nb, r.nb = some nb → r.all = false → ∀ j q, (∀ x ∈ r.wr, ¬ touch x j q) → (nb[j]?).map (ob q) = (bi[j]?).map (ob q)
theorem stepD_un {op : Op} {t : List (Nat × SV)} {b : List Res} {c : Prop} {r : RecE} (hs : XV V op ⟨t, b⟩ = .val c r) (hc : c) : UnE r b := by
  intro nb hnb hall j q hwr
  unfold XV at hs
  simp only at hs
  cases hp : pv V.Γ t op with
  | some p => rw [hp] at hs; obtain ⟨c', x⟩ := p; simp only [goD, valD] at hs; cases hs; cases hnb
  | none =>
    rw [hp] at hs
    simp only [goD] at hs
    cases hn : Yl V (some 0) op ⟨t, b⟩ with
    | some p =>
      obtain ⟨c', σ'⟩ := p
      rw [hn] at hs
      obtain ⟨x, hx, -⟩ := stepN_same (t' := t) (fun _ _ => rfl) hn
      simp only [dN, hx] at hs
      split at hs
      · cases hs; cases hnb
      · cases hs
        cases hnb
        rw [stepN_keep hn (j := j) (fun e => hwr (b.length, 0, 0) (by simp) ⟨e.symm, .inl rfl⟩) (fun x hx e => hwr x (by simp [hx]) ⟨e, .inl ?_⟩)]
        exact idxs_zero hx
    | none =>
      rw [hn] at hs
      simp only [dN] at hs
      cases op <;> simp only [Xv, reduceCtorEq] at hs
      case alloc T =>
        unfold XD at hs
        (repeat' split at hs) <;> try (cases hs; done)
        cases hs; cases hnb
        rw [app_keep (fun e => hwr (b.length, 0, 0) (by simp) ⟨e.symm, .inl rfl⟩)]
      case box T x =>
        unfold dBox at hs
        (repeat' split at hs) <;> try (cases hs; done)
        cases hs; cases hnb
        rw [app_keep (fun e => hwr (b.length, 0, 0) (by simp) ⟨e.symm, .inl rfl⟩)]
      case load T x =>
        unfold XI at hs
        (repeat' split at hs) <;> try (cases hs; done)
        cases hs; cases hnb
      case store T x y =>
        unfold XF at hs
        (repeat' split at hs) <;> try (cases hs; done)
        rename_i i off he _ u hu _ c0 T0 m0 hg _ s hsz
        cases hs; cases hnb
        obtain ⟨-, -, h3, h4, h5⟩ := hc
        simp only at hg hwr
        obtain ⟨r0, hr0, -, hc0⟩ := getB_some hg
        rw [setB_at hr0]
        by_cases hji : i = j
        · subst hji
          have hil : i < b.length := (List.getElem?_eq_some_iff.1 hr0).1
          rw [List.getElem?_set_self hil, hr0]
          have hcell : cellsR r0 = c0 := by rcases hc0 with rfl | ⟨s', n', rfl⟩ <;> rfl
          have hcell2 : cellsR (setR (Xs c0 off (cells u)) r0) = Xs c0 off (cells u) := by rcases hc0 with rfl | ⟨s', n', rfl⟩ <;> rfl
          have hlen : (Xs c0 off (cells u)).length = c0.length := by simp [Xs]; omega
          simp only [Option.map_some, ob, shape_setR, hcell, hcell2, hlen]
          congr 3
          cases q with
          | none => rfl
          | some p =>
            have hpr : ¬ (off ≤ p ∧ p < off + s) := fun hh => hwr (i, off, s) (by simp) ⟨rfl, .inr ⟨p, rfl, hh.1, hh.2⟩⟩
            simp only [Xs]
            rcases Nat.lt_or_ge p off with hlt | hge
            · rw [List.append_assoc, List.getElem?_append_left (by simp; omega), List.getElem?_take, if_pos hlt]
            · have hge2 : off + s ≤ p := by omega
              rw [List.getElem?_append_right (by simp; omega), List.getElem?_drop]
              congr 1
              simp
              omega
        · rw [List.getElem?_set_ne hji]
      case build T ps =>
        unfold XB at hs
        (repeat' split at hs) <;> (try simp only [valD] at hs) <;> cases hs
        cases hnb
      case nilCheck x =>
        unfold dNil at hs
        (repeat' split at hs) <;> (try simp only [valD] at hs) <;> cases hs
        all_goals cases hnb
      case call cl =>
        obtain ⟨callee, args, ts⟩ := cl
        cases callee <;> simp only [reduceCtorEq] at hs
        unfold XK at hs
        (repeat' split at hs) <;> cases hs
end
end Vc
namespace Vc
open Go Go.RowKit Wf
section
variable {V : Cx} {F : Fx V}
def recE0 : RecE := ⟨.v undef, none, false, [], []⟩
def StepE (F : Fx V) (ops : Array Oper) (i : Nat) (ti : List (Nat × SV)) (bi : List Res) (r : RecE) : Prop :=
  ∀ (Q : Exit → Act → World → Prop) (K : Act → World → Prop) (a : Act) (w : World) (t' : List (Nat × SV)) (b' : List Res) (o : Oper), ops[i]? = some o →
    (∀ d ∈ o.looksAt ops, lk d t' = lk d ti) → (r.nb.isSome = true → b' = bi) → (r.nb = none → ∀ x ∈ r.rd, seen x bi b') → Rel F ⟨t', b'⟩ a w →
    (∀ a' w', Rel F ⟨put o.dst r.x t', r.nb.getD b'⟩ a' w' → K a' w') → wpOp V.P ops Q i K a w
def dstAt (ops : Array Oper) (k : Nat) : Option Tmp := (ops[k]?).bind (·.dst)
def uS (ops : Array Oper) (recs : List RecE) (k : Nat) (t : List (Nat × SV)) : List (Nat × SV) := put (dstAt ops k) (recs.getD k recE0).x t
def uN (recs : List RecE) (k : Nat) (b : List Res) : List Res := (recs.getD k recE0).nb.getD b
theorem rel_congr {t t' : List (Nat × SV)} {b : List Res} {a : Act} {w : World} (h : Rel F ⟨t, b⟩ a w) (e : ∀ d, lk d t' = lk d t) : Rel F ⟨t', b⟩ a w := by
  obtain ⟨β, fp, hf, hw⟩ := h
  exact ⟨β, fp, ⟨fun β' hβ => ⟨(hf.ok β' hβ).size, (hf.ok β' hβ).defers, fun d x hd => (hf.ok β' hβ).get d x (by rw [← e]; exact hd)⟩⟩, hw⟩
theorem lk_put (d : Nat) (dst : Option Tmp) (x : SV) (t : List (Nat × SV)) : lk d (put dst x t) = if dst = some d then some x else lk d t := by
  cases dst with
  | none => simp [put]
  | some e =>
    simp only [put, lk, Option.some.injEq]
    by_cases h : d = e
    · subst h; simp
    · rw [if_neg h, if_neg (fun q => h q.symm)]
theorem lk_put_congr {d : Nat} {dst : Option Tmp} {x : SV} {t t' : List (Nat × SV)} (h : lk d t = lk d t') : lk d (put dst x t) = lk d (put dst x t') := by
  rw [lk_put, lk_put, h]
theorem dep_closed {ops : Array Oper} {D : Nat → Bool} (hcl : ∀ i o, ops[i]? = some o → D i = true → ∀ e ∈ o.after, Region.binds .any e = true → D e.on = true) :
    ∀ (f i k : Nat), depB ops f i k = true → (∀ o, ops[i]? = some o → ∀ e ∈ o.after, Region.binds .any e = true → D e.on = true) → D k = true
  | 0, i, k, h, _ => by simp [depB] at h
  | f + 1, i, k, h, hp => by
    simp only [depB] at h
    split at h
    · rename_i o ho
      obtain ⟨e, he, h⟩ := Array.any_eq_true'.1 h
      simp only [Bool.and_eq_true, Bool.or_eq_true, beq_iff_eq] at h
      obtain ⟨hb, h⟩ := h
      have hon := hp o ho e he hb
      rcases h with rfl | h
      · exact hon
      · exact dep_closed hcl f e.on k h (fun o' ho' => hcl e.on o' ho' hon)
    · cases h
theorem repl_false (m j : Nat) : (Array.replicate m false).getD j false = false := by
  rcases Nat.lt_or_ge j m with h | h <;> simp [h]
theorem draw_abs {ops : Array Oper} {recs : List RecE} {id : Nat} {a0 : Act} {w : World} {t0 : List (Nat × SV)} {b0 : List Res} {Q : Exit → Act → World → Prop} (R : (Nat → Bool) → List (Nat × SV) → List Res → Act → World → Prop)
    (T : Nat → List (Nat × SV)) (B : Nat → List Res) (hT0 : ∀ d, lk d (T 0) = lk d t0) (hB0 : B 0 = b0)
    (hT : ∀ i, i < ops.size → ∀ d, lk d (T (i + 1)) = lk d (put (dstAt ops i) (recs.getD i recE0).x (T i)))
    (hB : ∀ i, i < ops.size → B (i + 1) = (recs.getD i recE0).nb.getD (B i))
    (hcg : ∀ D t t' b a w, R D t b a w → (∀ d, lk d t' = lk d t) → R D t' b a w)
    (hop : ∀ i D a w t' b' o, i < ops.size → ops[i]? = some o → D i = false → (∀ d ∈ o.looksAt ops, lk d t' = lk d (T i)) → ((recs.getD i recE0).nb.isSome = true → b' = B i) → ((recs.getD i recE0).nb = none → ∀ x ∈ (recs.getD i recE0).rd, seen x (B i) b') → R D t' b' a w →
      wpOp V.P ops Q i (fun a' w' => R (insD D i) (put o.dst (recs.getD i recE0).x t') ((recs.getD i recE0).nb.getD b') a' w') a w) (hun : ∀ i, i < ops.size → UnE (recs.getD i recE0) (B i))
    (hlen : recs.length = ops.size) (hc : OkD ops (recs.map fun r => ⟨r.nb.isSome, r.all, r.rd, r.wr⟩)) (hr : R (fun _ => false) t0 b0 a0 w.drew)
    (hQ : ∀ D a w', (∀ k, k < ops.size → D k = true) → R D (T ops.size) (B ops.size) a w' → Q .normal a w') : (Code.region id ops true).wp V.P Q a0 w := by
  simp only [OkD, Bool.and_eq_true] at hc
  obtain ⟨hc, hah⟩ := hc
  refine wp_region_any V.mixed ?_
  let n := ops.size
  let isS : Nat → Prop := fun k => (recs.getD k recE0).nb.isSome = true
  have hrk : ∀ k, k < n → (((recs.map fun r => (⟨r.nb.isSome, r.all, r.rd, r.wr⟩ : Rk))[k]?).getD rk0) = ⟨(recs.getD k recE0).nb.isSome, (recs.getD k recE0).all, (recs.getD k recE0).rd, (recs.getD k recE0).wr⟩ := fun k hk => by
    have hk' : k < recs.length := by rw [hlen]; exact hk
    simp [List.getD_eq_getElem?_getD, List.getElem?_eq_getElem hk']
  have hpair : ∀ i k, i < n → k < n → k ≠ i → pairB ops (recs.map fun r => (⟨r.nb.isSome, r.all, r.rd, r.wr⟩ : Rk)) i k = true := fun i k hi hk hne => by
    have h1 := List.all_eq_true.1 (List.all_eq_true.1 hc i (List.mem_range.2 hi)) k (List.mem_range.2 hk)
    simp only [Bool.or_eq_true, beq_iff_eq] at h1
    rcases h1 with h1 | h1
    · exact absurd h1 hne
    · exact h1
  -- what must be ordered
  have hslot : ∀ i k, i < n → k < n → k ≠ i → (slotC ops i k = true ∨ (isS i ∧ isS k)) → (if k < i then depB ops ops.size i k else depB ops ops.size k i) = true := fun i k hi hk hne hcf => by
    have h1 := hpair i k hi hk hne
    unfold pairB at h1
    rw [hrk i hi, hrk k hk] at h1
    rw [if_pos (by
      simp only [Bool.or_eq_true, Bool.and_eq_true]
      exact hcf)] at h1
    exact h1
  have hmem : ∀ i k, i < n → k < n → k ≠ i → isS k → ∀ x ∈ (recs.getD i recE0).rd, ((recs.getD k recE0).all = true ∨ ∃ y ∈ (recs.getD k recE0).wr, ovl x y = true) → (if k < i then depB ops ops.size i k else depB ops ops.size k i) = true := fun i k hi hk hne hs x hx hcf => by
    have h1 := hpair i k hi hk hne
    unfold pairB at h1
    rw [hrk i hi, hrk k hk] at h1
    split at h1
    · exact h1
    · rw [if_pos (by
        simp only [Bool.and_eq_true, Bool.not_eq_true']
        refine ⟨hs, ?_⟩
        cases hl : (recs.getD i recE0).rd with
        | nil => rw [hl] at hx; cases hx
        | cons _ _ => rfl)] at h1
      simp only [Bool.or_eq_true, Bool.not_eq_true'] at h1
      rcases h1 with h1 | h1
      · exact h1
      · exfalso
        simp only [Bool.or_eq_false_iff] at h1
        rcases hcf with hcf | ⟨y, hy, hxy⟩
        · rw [hcf] at h1; cases h1.1
        · have : anyOvl (recs.getD i recE0).rd (recs.getD k recE0).wr = true := by
            unfold anyOvl
            exact List.any_eq_true.2 ⟨x, hx, List.any_eq_true.2 ⟨y, hy, hxy⟩⟩
          rw [this] at h1
          cases h1.2
  -- the run in the text's order
  have hTf : ∀ i, i ≤ n → ∀ d, lk d (T i) = lk d (foldD (uS ops recs) (preD i) i t0) := fun i => by
    induction i with
    | zero => intro _ d; exact hT0 d
    | succ i ih =>
      intro hi d
      rw [hT i (by omega) d, fold_pre_succ]
      exact lk_put_congr (ih (by omega) d)
  have hBf : ∀ i, i ≤ n → B i = foldD (uN recs) (preD i) i b0 := fun i => by
    induction i with
    | zero => intro _; exact hB0
    | succ i ih =>
      intro hi
      rw [hB i (by omega), fold_pre_succ, ih (by omega)]
      rfl
  have huS : ∀ d k (s s' : List (Nat × SV)), lk d s = lk d s' → lk d (uS ops recs k s) = lk d (uS ops recs k s') := fun d k s s' h => lk_put_congr h
  have hchS : ∀ d k, (∃ s, lk d (uS ops recs k s) ≠ lk d s) → dstAt ops k = some d := fun d k ⟨s, hs⟩ => by
    unfold uS at hs
    rw [lk_put] at hs
    by_cases h : dstAt ops k = some d
    · exact h
    · rw [if_neg h] at hs; exact absurd rfl hs
  let Inv : (Nat → Bool) → Act → World → Prop := fun D a w => R D (foldD (uS ops recs) D n t0) (foldD (uN recs) D n b0) a w ∧ (∀ i o, ops[i]? = some o → D i = true → ∀ e ∈ o.after, Region.binds .any e = true → D e.on = true)
  refine wpAny_inv Inv ?_ ?_ ops.size _ a0 _ (by simp) (by simp) ?_
  · rintro listed a w i hsz ⟨hrel, hcl⟩ hi
    obtain ⟨hun1, o, ho, hall⟩ := mem_ready.1 hi
    have hin : i < n := (Array.getElem?_eq_some_iff.1 ho).1
    have hDi : listed.getD i false = false := by
      have : i < listed.size := by rw [hsz]; exact hin
      simp [this] at hun1 ⊢; exact hun1
    have hpre : ∀ o', ops[i]? = some o' → ∀ e ∈ o'.after, Region.binds .any e = true → listed.getD e.on false = true := fun o' ho' e he hb => by
      rw [ho] at ho'; cases ho'; exact hall e he hb
    obtain ⟨D, hDD⟩ : ∃ D : Nat → Bool, D = fun k => listed.getD k false := ⟨_, rfl⟩
    have hDk : ∀ k, listed.getD k false = D k := fun k => by rw [hDD]
    rw [← hDD] at hrel hcl ⊢
    rw [hDk] at hDi
    simp only [hDk] at hpre
    have order : ∀ k, k < n → k ≠ i → (if k < i then depB ops ops.size i k else depB ops ops.size k i) = true → D k = decide (k < i) := fun k hk hne h1 => by
      split at h1
      · rename_i hlt
        rw [decide_eq_true hlt]
        exact dep_closed hcl _ i k h1 hpre
      · rename_i hlt
        rw [decide_eq_false hlt]
        cases hD : D k with
        | false => rfl
        | true =>
          have := dep_closed hcl _ k i h1 (fun o' ho' => hcl k o' ho' hD)
          rw [hDi] at this
          cases this
    -- two that change things: the earlier one is done first
    have chain : ∀ k l, k < n → l < n → k < l → isS k → isS l → D l = true → D k = true := fun k l hk hl hkl hsk hsl hD => by
      have h1 := hslot l k hl hk (by omega) (.inr ⟨hsl, hsk⟩)
      rw [if_pos hkl] at h1
      exact dep_closed hcl _ l k h1 (fun o' ho' => hcl l o' ho' hD)
    have hconfT : ∀ d, (d ∈ o.looksAt ops ∨ o.dst = some d) → ∀ k, k < n → (∃ s, lk d (uS ops recs k s) ≠ lk d s) → D k = decide (k < i) := fun d hd k hk hch => by
      by_cases hki : k = i
      · subst hki; rw [hDi]; simp
      · refine order k hk hki (hslot i k hin hk hki (.inl ?_))
        unfold slotC
        have := hchS d k hch
        unfold dstAt at this
        rw [this, ho]
        simp only [Bool.or_eq_true, List.contains_iff_mem, beq_iff_eq]
        exact hd
    have hlooks : ∀ d, d ∈ o.looksAt ops → lk d (foldD (uS ops recs) D n t0) = lk d (T i) := fun d hd => by
      rw [hTf i (Nat.le_of_lt hin) d]
      exact fold_see (uS ops recs) (lk d) (huS d) D n i t0 (Nat.le_of_lt hin) (hconfT d (.inl hd))
    -- how far those that change things have come
    obtain ⟨c, hcn, hcD⟩ : ∃ c, c ≤ n ∧ ∀ k, k < n → isS k → (D k = true ↔ k < c) := by
      by_cases hex : ∃ k, k < n ∧ isS k ∧ D k = false
      · obtain ⟨c, ⟨h1, h2, h3⟩, h4⟩ := least hex
        refine ⟨c, Nat.le_of_lt h1, fun k hk hs => ⟨fun hD => ?_, fun hlt => ?_⟩⟩
        · apply Nat.lt_of_not_le
          intro hle
          rcases Nat.lt_or_eq_of_le hle with hlt | rfl
          · have := chain c k h1 hk hlt h2 hs hD
            rw [h3] at this; cases this
          · rw [h3] at hD; cases hD
        · cases hD : D k with
          | true => rfl
          | false => have := h4 k ⟨hk, hs, hD⟩; omega
      · refine ⟨n, Nat.le_refl _, fun k hk hs => ⟨fun _ => hk, fun _ => ?_⟩⟩
        cases hD : D k with
        | true => rfl
        | false => exact absurd ⟨k, hk, hs, hD⟩ hex
    have hidN : ∀ k, ¬ isS k → ∀ b, uN recs k b = b := fun k hs b => by
      unfold uN
      cases h : (recs.getD k recE0).nb with
      | none => rfl
      | some x => exact absurd (by show ((recs.getD k recE0).nb).isSome = true; rw [h]; rfl) hs
    have hbN : ∀ (D' : Nat → Bool) (c' : Nat), c' ≤ n → (∀ k, k < n → isS k → (D' k = true ↔ k < c')) → foldD (uN recs) D' n b0 = B c' := fun D' c' hc' h => by
      rw [hBf c' hc', ← fold_pre (uN recs) n c' b0 hc']
      refine fold_obs (uN recs) (fun b => b) (fun k s s' e => by show uN recs k s = uN recs k s'; rw [show s = s' from e]) D' (preD c') n b0 (fun k hk => ?_)
      by_cases hs : isS k
      · left
        have := h k hk hs
        cases hD : D' k with
        | true => simp [preD, this.1 hD]
        | false =>
          have : ¬ k < c' := fun hlt => by have := this.2 hlt; rw [hD] at this; cases this
          simp [preD, this]
      · exact .inr (hidN k hs)
    have hbD := hbN D c hcn hcD
    have hordS : isS i → ∀ k, k < n → isS k → (D k = true ↔ k < i) := fun hs k hk hsk => by
      by_cases hki : k = i
      · subst hki; rw [hDi]; simp
      · rw [order k hk hki (hslot i k hin hk hki (.inr ⟨hs, hsk⟩))]
        simp
    have hbS : isS i → foldD (uN recs) D n b0 = B i := fun hs => hbN D i (Nat.le_of_lt hin) (hordS hs)
    have hread : ¬ isS i → ∀ x ∈ (recs.getD i recE0).rd, seen x (B i) (B c) := fun hs x hx q hq => by
      have step : ∀ k, k < n → (k < i ∧ c ≤ k ∨ i < k ∧ k < c) → ((B (k + 1))[x.1]?).map (ob q) = ((B k)[x.1]?).map (ob q) := fun k hk hb => by
        rw [hB k hk]
        cases hnb : (recs.getD k recE0).nb with
        | none => rfl
        | some nb =>
          have hsk : isS k := by show ((recs.getD k recE0).nb).isSome = true; rw [hnb]; rfl
          have hne : k ≠ i := by omega
          have hno : ¬ ((recs.getD k recE0).all = true ∨ ∃ y ∈ (recs.getD k recE0).wr, ovl x y = true) := fun hcf => by
            have h2 := order k hk hne (hmem i k hin hk hne hsk x hx hcf)
            have h3 := hcD k hk hsk
            rw [h2] at h3
            simp only [decide_eq_true_eq] at h3
            omega
          simp only [not_or, not_exists, not_and, Bool.not_eq_true] at hno
          exact hun k hk nb hnb hno.1 x.1 q (fun y hy => ovl_touch (hno.2 y hy) hq)
      have walk : ∀ (m p : Nat), p + m ≤ n → (∀ k, p ≤ k → k < p + m → ((B (k + 1))[x.1]?).map (ob q) = ((B k)[x.1]?).map (ob q)) → ((B (p + m))[x.1]?).map (ob q) = ((B p)[x.1]?).map (ob q) := fun m p => by
        induction m with
        | zero => intro _ _; rfl
        | succ m ih =>
          intro h1 h2
          have := h2 (p + m) (by omega) (by omega)
          rw [show p + (m + 1) = p + m + 1 by omega, this]
          exact ih (by omega) (fun k h3 h4 => h2 k h3 (by omega))
      rcases Nat.lt_or_ge c i with hlt | hge
      · have := walk (i - c) c (by omega) (fun k h3 h4 => step k (by omega) (.inl ⟨by omega, h3⟩))
        rw [show c + (i - c) = i by omega] at this
        exact this.symm
      · -- those from i on: i itself changes nothing
        have hi1 : ((B (i + 1))[x.1]?).map (ob q) = ((B i)[x.1]?).map (ob q) := by
          rw [hB i hin]
          have := hidN i hs (B i)
          unfold uN at this
          rw [this]
        have := walk (c - i) i (by omega) (fun k h3 h4 => by
          rcases Nat.lt_or_eq_of_le h3 with h5 | rfl
          · exact step k (by omega) (.inr ⟨h5, by omega⟩)
          · exact hi1)
        rw [show i + (c - i) = c by omega] at this
        exact this
    refine wpOp_mono ?_ (hop i D a w _ _ o hin ho hDi hlooks hbS (fun hnb x hx => by rw [hbD]; exact hread (fun hs => by have : ((recs.getD i recE0).nb).isSome = true := hs; rw [hnb] at this; cases this) x hx) hrel)
    refine fun a' w' hrel' => ⟨?_, ?_⟩
    · have e1 : ∀ d, lk d (foldD (uS ops recs) (insD D i) n t0) = lk d (put o.dst (recs.getD i recE0).x (foldD (uS ops recs) D n t0)) := fun d => by
        have hd : dstAt ops i = o.dst := by unfold dstAt; rw [ho]; rfl
        have := fold_ins (uS ops recs) (lk d) (huS d) D n i t0 hin hDi (fun hch k hk hk' hD => by
          have hdd := hchS d i hch
          rw [hd] at hdd
          have := hconfT d (.inr hdd) k hk hk'
          rw [hD] at this
          exact of_decide_eq_true this.symm)
        rw [this]
        unfold uS
        rw [hd]
      have e2 : foldD (uN recs) (insD D i) n b0 = (recs.getD i recE0).nb.getD (foldD (uN recs) D n b0) := by
        by_cases hs : isS i
        · rw [hbN (insD D i) (i + 1) hin (fun k hk hsk => by
            simp only [insD, Bool.or_eq_true, decide_eq_true_eq]
            rw [hordS hs k hk hsk]
            omega), hbS hs, hB i hin]
        · have h1 := hidN i hs (foldD (uN recs) D n b0)
          unfold uN at h1 ⊢
          rw [h1]
          refine fold_obs (uN recs) (fun b => b) (fun k s s' e => by show uN recs k s = uN recs k s'; rw [show s = s' from e]) (insD D i) D n b0 (fun k hk => ?_)
          by_cases hki : k = i
          · subst hki; exact .inr (hidN k hs)
          · left; simp [insD, hki]
      rw [e2]
      exact hcg _ _ _ _ _ _ hrel' e1
    · intro l o' ho' hl e he hb
      simp only [insD, Bool.or_eq_true, decide_eq_true_eq] at hl ⊢
      rcases hl with hl | rfl
      · exact .inl (hcl l o' ho' hl e he hb)
      · exact .inl (hpre o' ho' e he hb)
  · rintro listed a w hsz ⟨hrel, hcl⟩ hr
    have hall : ∀ k, k < n → listed.getD k false = true := fun k => by
      induction k using Nat.strongRecOn with
      | _ k ih =>
        intro hk
        cases hl : listed.getD k false with
        | true => rfl
        | false =>
          exfalso
          obtain ⟨o, ho⟩ : ∃ o, ops[k]? = some o := ⟨ops[k]'hk, by simp [hk]⟩
          have hks : k < listed.size := by rw [hsz]; exact hk
          have : k ∈ Region.ready .any ops listed := by
            refine mem_ready.2 ⟨?_, o, ho, fun e he hb => ?_⟩
            · simp [hks] at hl ⊢; exact hl
            · have h1 := List.all_eq_true.1 hah k (List.mem_range.2 hk)
              rw [ho] at h1
              have h2 := Array.all_eq_true'.1 h1 e he
              simp only [hb, Bool.not_true, Bool.false_or, decide_eq_true_eq] at h2
              exact ih e.on h2 (by omega)
          rw [hr] at this
          cases this
    have e1 := fold_all (uS ops recs) (fun k => listed.getD k false) n t0 hall
    have e2 := fold_all (uN recs) (fun k => listed.getD k false) n b0 hall
    rw [e1, e2, ← hBf n (Nat.le_refl _)] at hrel
    exact hQ _ a w hall (hcg _ _ _ _ _ _ hrel (fun d => hTf n (Nat.le_refl _) d))
  · refine ⟨?_, fun i o _ h => ?_⟩
    · have e : ∀ {S : Type} (u : Nat → S → S) (m : Nat) (s : S), foldD u (fun k => (Array.replicate ops.size false).getD k false) m s = s := fun u m s => by
        induction m with
        | zero => rfl
        | succ m ih => simp only [foldD]; rw [if_neg (by show ¬ ((Array.replicate ops.size false).getD m false = true); rw [repl_false]; simp), ih]
      rw [e, e]
      have e3 : (fun k => (Array.replicate ops.size false).getD k false) = fun _ => false := funext fun k => repl_false _ _
      rw [e3]
      exact hr
    · simp only [repl_false] at h; cases h
structure Flt where
  i : Nat
  d : Nat
  z : List SV
  T : TypeId
def Flt.ok (F : Fx V) (b : List Res) (fp : Nat → Nat → Prop) (w : World) (y : Flt) (Y : Nat) : Prop :=
  F.w0.heap.size ≤ Y ∧ Y < w.heap.size ∧ w.heap[Y]? = some (.cells (y.z.map (conc bt0)).toArray y.T) ∧ ∀ i r, b[i]? = some r → ¬ fp i Y
def pY (Y : Nat) : SV := .v (.pointer (some ⟨Y, 0, none⟩))
def RelF (F : Fx V) (fs : List Flt) (D : Nat → Bool) (t : List (Nat × SV)) (b : List Res) (a : Act) (w : World) : Prop := ∃ (β : Nat → Bt) (fp : Nat → Nat → Prop) (Y : Nat → Nat) (tt : List (Nat × SV)),
  Fm F β b.length tt a ∧ Wd F β fp b w ∧ (∀ y ∈ fs, D y.i = true → lk y.d tt = some (pY (Y y.i)) ∧ y.ok F b fp w (Y y.i)) ∧ (∀ y ∈ fs, ∀ y' ∈ fs, D y.i = true → D y'.i = true → y.i ≠ y'.i → Y y.i ≠ Y y'.i) ∧
  ∀ e, (∀ y ∈ fs, D y.i = true → y.d ≠ e) → lk e tt = lk e t
def Fx.at (F : Fx V) {β : Nat → Bt} {fp : Nat → Nat → Prop} {b : List Res} {w : World} (h : Wd F β fp b w) : Fx V :=
  ⟨F.n, w, fun k => ∃ i r, b[i]? = some r ∧ r.mine = true ∧ fp i k, h.env, fun k ⟨i, r, hi, hm, hk⟩ => (h.mine i r hi hm k hk).elim (fun h1 => Nat.le_trans (V.esize _ F.e0) h1) (fun h1 => F.ownG k h1), β, b, fun k => ∃ i r, b[i]? = some r ∧ fp i k⟩
theorem Wd.here {β : Nat → Bt} {fp : Nat → Nat → Prop} {b : List Res} {w : World} (h : Wd F β fp b w) : Wd (F.at h) β fp b w := ⟨FrW.refl _ _, h.bx, fun i r hi hm k hk => .inr ⟨i, r, hi, hm, hk⟩, ⟨Agr.refl _ _, Nat.le_refl _⟩, fun i r hi k hk => .inr ⟨i, r, hi, hk⟩⟩
theorem Wd.join {b b₂ : List Res} {w w' : World} {β β₂ : Nat → Bt} {fp fp₂ : Nat → Nat → Prop} (h : Wd F β fp b w) (h2 : Wd (F.at h) β₂ fp₂ b₂ w') : Wd F β₂ fp₂ b₂ w' := by
  have hsz := h2.fr.size
  refine ⟨⟨h2.fr.os.trans h.fr.os, h2.fr.tape.trans h.fr.tape, h2.fr.output.trans h.fr.output, Nat.le_trans h.fr.size hsz, fun k hk hn => ?_⟩, h2.bx, fun i r hi hm k hk => ?_, ?_, fun i r hi k hk => ?_⟩
  · rw [h2.fr.block k (Nat.lt_of_lt_of_le hk h.fr.size) (fun ⟨i, r, hi, hm, hk'⟩ => ?_)]
    · exact h.fr.block k hk hn
    · rcases h.mine i r hi hm k hk' with h1 | h1
      · omega
      · exact hn h1
  · rcases h2.mine i r hi hm k hk with h1 | ⟨j, r0, hj, hm0, hk0⟩
    · exact .inl (Nat.le_trans h.fr.size h1)
    · exact h.mine j r0 hj hm0 k hk0
  · exact ⟨fun i hi => (h.ini.agr i hi).trans (h2.ini.agr i (Nat.lt_of_lt_of_le hi h.ini.len)), Nat.le_trans h.ini.len h2.ini.len⟩
  · rcases h2.foot i r hi k hk with h1 | ⟨j, r0, hj, hk0⟩
    · exact .inl (Nat.le_trans h.fr.size h1)
    · exact h.foot j r0 hj k hk0
theorem Wd.adopt {β : Nat → Bt} {fp : Nat → Nat → Prop} {w : World} {b : List Res} (h : Wd F β fp b w) (r : Res) (t : Bt) (f : Nat → Prop)
    (hr : ∀ β', Agr (b.length + 1) (upd β b.length t) β' → Holds β' t f w r) (hf : ∀ k, f k → F.w0.heap.size ≤ k ∧ k < w.heap.size ∧ ∀ i r, b[i]? = some r → ¬ fp i k) :
    Wd F (upd β b.length t) (updF fp b.length f) (b ++ [r]) w := by
  have old : ∀ {i r'}, (b ++ [r])[i]? = some r' → (i < b.length ∧ b[i]? = some r') ∨ (i = b.length ∧ r' = r) := fun {i r'} hi => by
    rcases Nat.lt_or_ge i b.length with hlt | hge
    · rw [List.getElem?_append_left hlt] at hi; exact .inl ⟨hlt, hi⟩
    · have hi' : i = b.length := by
        have := (List.getElem?_eq_some_iff.1 hi).1
        rw [List.length_append, List.length_singleton] at this
        omega
      subst hi'
      rw [List.getElem?_append_right (Nat.le_refl _)] at hi
      simp at hi
      exact .inr ⟨rfl, hi.symm⟩
  have fo : ∀ {i}, i < b.length → updF fp b.length f i = fp i := fun {i} hi => by funext k; simp [updF, show i ≠ b.length by omega]
  have fn : updF fp b.length f b.length = f := by funext k; simp [updF]
  refine ⟨h.fr, fun β' hβ => ?_, fun i r' hi hm k hk => ?_, ?_, fun i r' hi k hk => ?_⟩
  · rw [List.length_append, List.length_singleton] at hβ
    have hb' := h.bx β' hβ.of_upd
    have hlast : β' b.length = t := by rw [← hβ b.length (by omega), upd_at]
    refine ⟨fun i r' hi => ?_, fun i r' hi k hk => ?_, fun i j r1 r2 hi hj hne hm k hk hk' => ?_⟩
    · rcases old hi with ⟨hlt, hi⟩ | ⟨rfl, rfl⟩
      · rw [fo hlt]; exact hb'.holds i r' hi
      · rw [fn, hlast]; exact hr β' hβ
    · rcases old hi with ⟨hlt, hi⟩ | ⟨rfl, rfl⟩
      · rw [fo hlt] at hk; exact hb'.lt i r' hi k hk
      · rw [fn] at hk; exact (hf k hk).2.1
    · rcases old hi with ⟨hlt, hi2⟩ | ⟨ei, e1⟩
      · rcases old hj with ⟨hlt', hj2⟩ | ⟨ej, e2⟩
        · rw [fo hlt] at hk; rw [fo hlt'] at hk'; exact hb'.sep i j r1 r2 hi2 hj2 hne hm k hk hk'
        · rw [ej] at hk'
          rw [fo hlt] at hk; rw [fn] at hk'
          exact (hf k hk').2.2 i r1 hi2 hk
      · rcases old hj with ⟨hlt', hj2⟩ | ⟨ej, e2⟩
        · rw [ei] at hk
          rw [fn] at hk; rw [fo hlt'] at hk'
          exact (hf k hk).2.2 j r2 hj2 hk'
        · exact hne (ei.trans ej.symm)
  · rcases old hi with ⟨hlt, hi⟩ | ⟨rfl, rfl⟩
    · rw [fo hlt] at hk; exact h.mine i r' hi hm k hk
    · rw [fn] at hk; exact .inl (hf k hk).1
  · have hl := h.ini.len
    exact ⟨fun i hi => (h.ini.agr i hi).trans (upd_agr β _ _ i (by omega)), by rw [List.length_append]; omega⟩
  · rcases old hi with ⟨hlt, hi⟩ | ⟨rfl, rfl⟩
    · rw [fo hlt] at hk; exact h.foot i r' hi k hk
    · rw [fn] at hk; exact .inl (hf k hk).1
theorem name_ok (Y : Nat → Nat) : ∀ (fs : List Flt) (t tt : List (Nat × SV)) (b : List Res) (β : Nat → Bt) (fp : Nat → Nat → Prop) (a : Act) (w : World), Fm F β b.length tt a → Wd F β fp b w →
    (∀ y ∈ fs, (∀ β', y.z.map (conc β') = y.z.map (conc bt0)) ∧ y.d < F.n) → (∀ y ∈ fs, lk y.d tt = some (pY (Y y.i)) ∧ y.ok F b fp w (Y y.i)) → fs.Pairwise (fun y y' => Y y.i ≠ Y y'.i ∧ y.d ≠ y'.d) → (∀ e, (∀ y ∈ fs, y.d ≠ e) → lk e tt = lk e t) →
    Rel F (nameF (fs.map fun y => (y.d, y.z, y.T)) ⟨t, b⟩) a w
  | [], t, tt, b, β, fp, a, w, hf, hw, _, _, _, hl => by
    refine rel_congr ⟨β, fp, hf, hw⟩ (fun d => (hl d (by simp)).symm)
  | y :: fs, t, tt, b, β, fp, a, w, hf, hw, hz, hy, hp, hl => by
    obtain ⟨h1, h2, h3, h4, h5⟩ := hy y List.mem_cons_self
    obtain ⟨hp1, hp2⟩ := List.pairwise_cons.1 hp
    have hw2 := hw.adopt (.cells y.z y.T true) ⟨Y y.i, 0, 0⟩ (· = Y y.i) (fun β' _ => ⟨rfl, ⟨[], (0, 0), ⟨by rw [(hz y List.mem_cons_self).1 β', List.append_nil]; exact h4, .inr (Nat.le_refl _)⟩, rfl⟩, fun k => Iff.rfl⟩) (fun k hk => by subst hk; exact ⟨h2, h3, h5⟩)
    have hf2 : Fm F (upd β b.length ⟨Y y.i, 0, 0⟩) (b ++ [Res.cells y.z y.T true]).length ((y.d, .p b.length 0) :: tt) a := ⟨fun β' hβ => by
      rw [List.length_append, List.length_singleton] at hβ
      have h0 := hf.ok β' hβ.of_upd
      refine ⟨h0.size, h0.defers, fun d x hd => ?_⟩
      simp only [lk] at hd
      split at hd
      · rename_i e
        subst e
        cases hd
        rw [h0.get _ _ h1]
        simp only [conc, pY]
        rw [← hβ b.length (by omega), upd_at]
      · exact h0.get d x hd⟩
    refine name_ok Y fs ((y.d, .p b.length 0) :: t) ((y.d, .p b.length 0) :: tt) (b ++ [.cells y.z y.T true]) _ _ a w hf2 hw2 (fun y' h => hz y' (List.mem_cons_of_mem _ h)) (fun y' h => ?_) hp2 (fun e he => ?_)
    · obtain ⟨g1, g2, g3, g4, g5⟩ := hy y' (List.mem_cons_of_mem _ h)
      obtain ⟨n1, n2⟩ := hp1 y' h
      refine ⟨?_, g2, g3, g4, fun i r hi hk => ?_⟩
      · simp only [lk]; rw [if_neg (fun e => n2 e.symm)]; exact g1
      · rcases Nat.lt_or_ge i b.length with hlt | hge
        · rw [List.getElem?_append_left hlt] at hi
          exact g5 i r hi (by simpa [updF, show i ≠ b.length by omega] using hk)
        · have hi' : i = b.length := by
            have := (List.getElem?_eq_some_iff.1 hi).1
            rw [List.length_append, List.length_singleton] at this
            omega
          subst hi'
          have : Y y'.i = Y y.i := by simpa [updF] using hk
          exact n1 this.symm
    · simp only [lk]
      split
      · rfl
      · rename_i hne
        refine hl e (fun y' h => ?_)
        rcases List.mem_cons.1 h with rfl | h
        · exact fun e' => hne e'.symm
        · exact he y' h
end
end Vc
namespace Vc
open Go Go.RowKit Wf
section
variable {V : Cx} {F : Fx V}
theorem looks_ev {ops : Array Oper} {o : Oper} {t t' : List (Nat × SV)} (h : ∀ d ∈ o.looksAt ops, lk d t' = lk d t) : ∀ x ∈ o.op.operands, ev t' x = ev t x := fun x hx => by
  cases x with
  | tmp d =>
    simp only [ev]
    refine h d ?_
    unfold Oper.looksAt
    simp only [List.mem_append, List.mem_filterMap]
    exact .inl ⟨.tmp d, Array.mem_toList_iff.2 hx, rfl⟩
  | const _ => rfl
  | global _ => rfl
  | func _ => rfl
theorem gdst_ok : ∀ (l : List Oper) (j : Nat), gdst l j = (l[j]?).bind (·.dst)
  | [], j => by simp [gdst]
  | o :: r, 0 => by simp [gdst]
  | o :: r, j + 1 => by simp [gdst, gdst_ok r j]
theorem gvalD_ok {ops : Array Oper} {σt : List (Nat × SV)} {β : Nat → Bt} {a : Act} (hf : FrOK β F.n σt a) {j d : Nat} {b : Bool} (h : Yk σt (gdst ops.toList j) = some (d, b)) :
    yielded ops a.tmps j = some b ∧ a.tmps.getD d undef = .bool b := by
  refine gval_ok hf ?_
  unfold Yk at h
  split at h
  · rename_i d' hd
    rw [gdst_ok] at hd
    unfold gval
    rw [List.getElem?_map]
    cases ho : ops.toList[j]? with
    | none => rw [ho] at hd; simp at hd
    | some o =>
      rw [ho] at hd
      simp at hd
      simp only [Option.map_some, hd]
      exact h
  · cases h
theorem gvU_at {ops : List Oper} {t : List (Nat × SV)} {j : Nat} (h : gvU t (gdst ops j) = true) : ∃ d x, gdst ops j = some d ∧ lk d t = some (.v x) ∧ nob x = true := by
  unfold gvU at h
  split at h
  · rename_i d hd
    split at h
    · rename_i x hx
      exact ⟨d, x, hd, hx, h⟩
    · cases h
  · cases h
theorem gvU_ok {ops : Array Oper} {σt : List (Nat × SV)} {β : Nat → Bt} {a : Act} (hf : FrOK β F.n σt a) {j d : Nat} {x : Value} (hd : gdst ops.toList j = some d) (hx : lk d σt = some (.v x)) (hn : nob x = true) : yielded ops a.tmps j = none := by
  have hg := hf.get _ _ hx
  simp only [conc] at hg
  rw [gdst_ok] at hd
  have hd' : (ops[j]?).bind (·.dst) = some d := by simpa using hd
  unfold yielded
  rw [hd']
  simp only [Option.bind_some]
  cases ht : a.tmps[d]? with
  | none => rfl
  | some y =>
    have : y = x := by rw [← hg]; simp [Array.getD_eq_getD_getElem?, ht]
    subst this
    cases y <;> simp [nob] at hn ⊢
theorem gval_same {ops : List Oper} {t t' : List (Nat × SV)} {j d : Nat} {b : Bool} (h : Yk t (gdst ops j) = some (d, b)) (hl : lk d t' = lk d t) : Yk t' (gdst ops j) = some (d, b) := by
  unfold Yk at h ⊢
  split at h
  · rename_i d' hd
    split at h
    · rename_i b' hb
      cases h
      rw [hl, hb]
    · cases h
  · cases h
theorem gval_lk {ops : List Oper} {t : List (Nat × SV)} {j d : Nat} {b : Bool} (h : Yk t (gdst ops j) = some (d, b)) : lk d t = some (.bool b) ∧ gdst ops j = some d := by
  unfold Yk at h
  split at h
  · rename_i d' hd
    split at h
    · rename_i b' hb
      cases h
      exact ⟨hb, hd⟩
    · cases h
  · cases h
theorem guard_looks {ops : Array Oper} {o : Oper} {j d : Nat} {want : Bool} (hg : o.guard = some (j, want)) (hd : gdst ops.toList j = some d) : d ∈ o.looksAt ops := by
  unfold Oper.looksAt
  rw [hg]
  simp only [List.mem_append]
  right
  rw [gdst_ok] at hd
  have : (ops[j]?).bind (·.dst) = some d := by simpa using hd
  rw [this]
  simp
theorem lk_relit {t : List (Nat × SV)} {d : Nat} {b : Bool} (h : lk d t = some (.bool b)) : ∀ e, lk e ((d, .bool b) :: t) = lk e t := fun e => by
  simp only [lk]
  split
  · rename_i he; subst he; exact h.symm
  · rfl
theorem wanted_none {ops : Array Oper} {o : Oper} (h : o.guard = none) (a : Act) : Region.wanted o (yielded ops a.tmps) = true := by simp [Region.wanted, h]
theorem opE_val {ops : Array Oper} {i : Nat} {t tt : List (Nat × SV)} {b : List Res} {o : Oper} {c : Prop} {r : RecE} (ho : ops[i]? = some o) (hfit : fits F.n o.dst = true) (hs : XV V o.op ⟨tt, b⟩ = .val c r) (hc : c) (htt : ∀ e, lk e tt = lk e t)
    (hw : ∀ (ta : List (Nat × SV)) (ba : List Res) (a : Act) (w : World), Rel F ⟨ta, ba⟩ a w → (∀ d ∈ o.looksAt ops, lk d ta = lk d t) → Region.wanted o (yielded ops a.tmps) = true) : StepE F ops i t b r := by
  intro Q K a w t' b' o' ho' hl hb hseen hr hK
  rw [ho] at ho'
  cases ho'
  unfold wpOp
  rw [ho]
  simp only
  rw [if_pos (hw t' b' a w hr hl)]
  left
  refine Oper.wp_mono (fun a w ⟨σ, hσ, hrel⟩ => ?_) (stepO_sound (F := F) hfit (stepD_go (dst := o.dst) (t' := t') (b' := b') (looks_ev (ops := ops) (t := tt) (fun d hd => (hl d hd).trans (htt d).symm)) hs hc hb hseen) hr o.type o.pos o.after o.guard _)
  subst hσ
  exact hK a w hrel
theorem opE_call {ops : Array Oper} {i : Nat} {t tt : List (Nat × SV)} {b : List Res} {o : Oper} {g : FuncId} {args : List SV} {r : RecE} (ho : ops[i]? = some o) (hfit : fits F.n o.dst = true) (hs : XV V o.op ⟨tt, b⟩ = .call g args) (htt : ∀ e, lk e tt = lk e t)
    (hr0 : (∃ x, PC V g args x ∧ r = ⟨x, none, false, [], []⟩) ∨ (∃ x nb al W, SC V g args b (fun r' b' => r' = x ∧ b' = nb) ∧ r = ⟨x, some nb, al, [], W⟩))
    (hw : ∀ (ta : List (Nat × SV)) (ba : List Res) (a : Act) (w : World), Rel F ⟨ta, ba⟩ a w → (∀ d ∈ o.looksAt ops, lk d ta = lk d t) → Region.wanted o (yielded ops a.tmps) = true) : StepE F ops i t b r := by
  intro Q K a w t' b' o' ho' hl hb hseen hr hK
  rw [ho] at ho'
  cases ho'
  unfold wpOp
  rw [ho]
  simp only
  rw [if_pos (hw t' b' a w hr hl)]
  left
  have hcall := stepD_call (dst := o.dst) (t' := t') (b' := b') (looks_ev (ops := ops) (t := tt) (fun d hd => (hl d hd).trans (htt d).symm)) hs
  have hh : HoldsR V (fun σ => σ = ⟨put o.dst r.x t', r.nb.getD b'⟩) (XR V o.dst o.op ⟨t', b'⟩) := by
    rw [hcall]
    rcases hr0 with ⟨x, hpc, rfl⟩ | ⟨x, nb, al, W, hsc, rfl⟩
    · exact .inl ⟨x, hpc, rfl⟩
    · obtain rfl := hb rfl
      exact .inr ⟨_, hsc, fun r' bs ⟨h1, h2⟩ => by subst h1 h2; rfl⟩
  refine Oper.wp_mono (fun a w ⟨σ, hσ, hrel⟩ => ?_) (stepO_sound (F := F) hfit hh hr o.type o.pos o.after o.guard _)
  subst hσ
  exact hK a w hrel
theorem opE_skip {ops : Array Oper} {i : Nat} {t : List (Nat × SV)} {b : List Res} {o : Oper} (ho : ops[i]? = some o) (hfit : fits F.n o.dst = true)
    (hw : ∀ (ta : List (Nat × SV)) (ba : List Res) (a : Act) (w : World), Rel F ⟨ta, ba⟩ a w → (∀ d ∈ o.looksAt ops, lk d ta = lk d t) → Region.wanted o (yielded ops a.tmps) = false) : StepE F ops i t b ⟨.v undef, none, false, [], []⟩ := by
  intro Q K a w t' b' o' ho' hl hb hseen hr hK
  rw [ho] at ho'
  cases ho'
  unfold wpOp
  rw [ho]
  simp only
  rw [if_neg (by rw [hw t' b' a w hr hl]; simp)]
  obtain ⟨β, fp, hf, hwd⟩ := hr
  exact hK _ w ⟨β, fp, hf.put hfit (fun _ _ => rfl), hwd⟩
theorem un_none (r : RecE) (h : r.nb = none) (b : List Res) : UnE r b := fun nb hnb => by rw [h] at hnb; cases hnb
theorem draw_okF {ops : Array Oper} {recs : List RecE} {id : Nat} {a0 : Act} {w : World} {t0 : List (Nat × SV)} {b0 : List Res} {Q : Exit → Act → World → Prop} (fs : List Flt) (T : Nat → List (Nat × SV)) (B : Nat → List Res) (hT0 : ∀ d, lk d (T 0) = lk d t0) (hB0 : B 0 = b0)
    (hT : ∀ i, i < ops.size → ∀ d, lk d (T (i + 1)) = lk d (put (dstAt ops i) (recs.getD i recE0).x (T i)))
    (hB : ∀ i, i < ops.size → B (i + 1) = (recs.getD i recE0).nb.getD (B i))
    (hop : ∀ i, i < ops.size → (∀ y ∈ fs, y.i ≠ i) → ∀ F' : Fx V, F'.n = F.n → StepE F' ops i (T i) (B i) (recs.getD i recE0)) (hun : ∀ i, i < ops.size → UnE (recs.getD i recE0) (B i))
    (hfs : ∀ y ∈ fs, y.i < ops.size ∧ (∃ o ti, ops[y.i]? = some o ∧ o.op = .alloc y.T ∧ o.guard = none ∧ o.dst = some y.d ∧ V.Γ y.T = some ti ∧ y.z = ti.zero) ∧ y.d < F.n ∧ recs.getD y.i recE0 = recE0)
    (hpi : fs.Pairwise fun y y' => y.i ≠ y'.i) (hfl : okFl ops (fs.map (·.d)) = true)
    (hlen : recs.length = ops.size) (hc : OkD ops (recs.map fun r => ⟨r.nb.isSome, r.all, r.rd, r.wr⟩)) (hr : Rel F ⟨t0, b0⟩ a0 w)
    (hQ : ∀ a w', Rel F (nameF (fs.map fun y => (y.d, y.z, y.T)) ⟨T ops.size, B ops.size⟩) a w' → Q .normal a w') : (Code.region id ops true).wp V.P Q a0 w := by
  have hds : ∀ y ∈ fs, ∀ o, (∃ i : Nat, ops[i]? = some o) → y.d ∉ o.looksAt ops := fun y hy o ⟨i, ho⟩ hd => by
    have h1 := List.all_eq_true.1 hfl y.d (List.mem_map_of_mem hy)
    simp only [Bool.and_eq_true] at h1
    have h2 := List.all_eq_true.1 h1.1 o (by rw [Array.mem_toList_iff]; exact Array.mem_of_getElem? ho)
    simp only [Bool.not_eq_true', List.contains_eq_mem, decide_eq_false_iff_not] at h2
    exact h2 hd
  have hdst : ∀ y ∈ fs, ∀ i k, i < ops.size → k < ops.size → i ≠ k → dstAt ops i = some y.d → dstAt ops k = some y.d → False := fun y hy i k hi hk hne e1 e2 => by
    have h1 := List.all_eq_true.1 hfl y.d (List.mem_map_of_mem hy)
    simp only [Bool.and_eq_true] at h1
    have h2 := List.all_eq_true.1 (List.all_eq_true.1 h1.2 i (List.mem_range.2 hi)) k (List.mem_range.2 hk)
    have g1 : flatD ops i = some y.d := e1
    have g2 : flatD ops k = some y.d := e2
    rw [g1, g2] at h2
    simp [hne] at h2
  have hat : ∀ y ∈ fs, dstAt ops y.i = some y.d := fun y hy => by
    obtain ⟨-, ⟨o, ti, ho, -, -, hd, -⟩, -⟩ := hfs y hy
    unfold dstAt; rw [ho]; exact hd
  have hsame : ∀ y ∈ fs, ∀ y' ∈ fs, y.i = y'.i → y.d = y'.d ∧ y.z = y'.z ∧ y.T = y'.T := fun y hy y' hy' e => by
    obtain ⟨-, ⟨o, ti, ho, hop, -, hd, hti, hz⟩, -⟩ := hfs y hy
    obtain ⟨-, ⟨o', ti', ho', hop', -, hd', hti', hz'⟩, -⟩ := hfs y' hy'
    rw [e, ho'] at ho
    cases ho
    rw [hop'] at hop
    rw [hd'] at hd
    injection hop with hop
    injection hd with hd
    rw [hop] at hti'
    rw [hti] at hti'
    cases hti'
    exact ⟨hd.symm, hz.trans hz'.symm, hop.symm⟩
  refine draw_abs (RelF F fs) T B hT0 hB0 hT hB ?_ ?_ hun hlen hc ?_ ?_
  · rintro D t t' b a w ⟨β, fp, Y, tt, hf, hw, hy, hd, hlk⟩ he
    exact ⟨β, fp, Y, tt, hf, hw, hy, hd, fun e h => (hlk e h).trans (he e).symm⟩
  · rintro i D a w t' b' o hi ho hDi hl hb hs ⟨β, fp, Y, tt, hf, hw, hy, hd, hlk⟩
    by_cases hfi : ∃ y ∈ fs, y.i = i
    · obtain ⟨y, hy0, rfl⟩ := hfi
      obtain ⟨-, ⟨o', ti, ho', hopT, hg, hdst', hti, hz⟩, hdn, hrec⟩ := hfs y hy0
      rw [ho] at ho'
      cases ho'
      rw [hrec]
      unfold wpOp
      rw [ho]
      simp only
      rw [if_pos (wanted_none hg a)]
      left
      obtain ⟨dst, op, ty, pos, after, guard⟩ := o
      simp only at hopT hg hdst'
      subst hopT hg hdst'
      have hrun : (execOp a.eval { dst := some y.d, op := .alloc y.T, type := ty, pos := pos, after := after, guard := none }).run V.P w = _ := run_val (run_alloc (V := V) y.T ti hti w)
      have hbel : Below w.heap.size w (w.alloc (.cells (ti.zero.map (conc bt0)).toArray y.T)) := (Below.refl _ _).alloc (Nat.le_refl _) _
      have hnew := heap_new w (.cells (ti.zero.map (conc bt0)).toArray y.T)
      have hsz : (w.alloc (.cells (ti.zero.map (conc bt0)).toArray y.T)).heap.size = w.heap.size + 1 := size_alloc _ _
      refine wp_of_value hrun ?_
      generalize w.alloc (.cells (ti.zero.map (conc bt0)).toArray y.T) = w2 at hbel hnew hsz
      refine ⟨β, fp, fun k => if k = y.i then w.heap.size else Y k, (y.d, pY w.heap.size) :: tt, ⟨fun β' hβ => (hf.ok β' hβ).put hdn (pY _)⟩, hw.below hbel, fun y' hy' hD' => ?_, fun y1 h1 y2 h2 hD1 hD2 hne => ?_, fun e he => ?_⟩
      · by_cases hyy : y'.i = y.i
        · obtain ⟨e1, e2, e3⟩ := hsame y' hy' y hy0 hyy
          simp only [hyy, if_true, e1]
          refine ⟨by simp [lk], hw.fr.size, by omega, by rw [e2, e3, hz]; exact hnew, fun j r hj hk => ?_⟩
          have := (hw.bx β (Agr.refl _ _)).lt j r hj _ hk
          omega
        · have hD : D y'.i = true := by simpa [insD, hyy] using hD'
          obtain ⟨g1, g2, g3, g4, g5⟩ := hy y' hy' hD
          simp only [if_neg hyy]
          refine ⟨?_, g2, by omega, (hbel.block _ g3).trans g4, g5⟩
          simp only [lk]
          rw [if_neg (fun e => hdst y hy0 y'.i y.i (hfs y' hy').1 (hfs y hy0).1 hyy (by rw [hat y' hy', e]) (hat y hy0))]
          exact g1
      · have D1 : y1.i ≠ y.i → D y1.i = true := fun h => by simpa [insD, h] using hD1
        have D2 : y2.i ≠ y.i → D y2.i = true := fun h => by simpa [insD, h] using hD2
        by_cases k1 : y1.i = y.i
        · have k2 : y2.i ≠ y.i := fun e => hne (k1.trans e.symm)
          simp only [if_pos k1, if_neg k2]
          have := (hy y2 h2 (D2 k2)).2.2.1
          omega
        · by_cases k2 : y2.i = y.i
          · simp only [if_neg k1, if_pos k2]
            have := (hy y1 h1 (D1 k1)).2.2.1
            omega
          · simp only [if_neg k1, if_neg k2]
            exact hd y1 h1 y2 h2 (D1 k1) (D2 k2) hne
      · have hne : y.d ≠ e := he y hy0 (by simp [insD])
        have h1 : lk e ((y.d, pY w.heap.size) :: tt) = lk e tt := by simp only [lk]; rw [if_neg (fun q => hne q.symm)]
        rw [h1, hlk e (fun y' hy' hD' => he y' hy' (by simp [insD, hD']))]
        show lk e t' = lk e (put (some y.d) recE0.x t')
        rw [lk_put, if_neg (fun q => hne (Option.some.inj q))]
    · have hne : ∀ y ∈ fs, y.i ≠ i := fun y hy0 e => hfi ⟨y, hy0, e⟩
      have hod : ∀ y ∈ fs, o.dst ≠ some y.d := fun y hy0 e => hdst y hy0 i y.i hi (hfs y hy0).1 (fun q => hne y hy0 q.symm) (by unfold dstAt; rw [ho]; exact e) (hat y hy0)
      refine hop i hi hne (F.at hw) rfl Q _ a w tt b' o ho (fun d hd' => (hlk d (fun y hy0 _ e => hds y hy0 o ⟨i, ho⟩ (by rw [e]; exact hd'))).trans (hl d hd')) hb hs ⟨β, fp, ⟨hf.ok⟩, hw.here⟩ ?_
      rintro a' w' ⟨β₂, fp₂, hf2, hw2⟩
      have hsz : w.heap.size ≤ w'.heap.size := hw2.fr.size
      refine ⟨β₂, fp₂, Y, put o.dst (recs.getD i recE0).x tt, ⟨hf2.ok⟩, hw.join hw2, fun y hy0 hD' => ?_, fun y1 h1 y2 h2 hD1 hD2 => ?_, fun e he => ?_⟩
      · have hD : D y.i = true := by simpa [insD, hne y hy0] using hD'
        obtain ⟨g1, g2, g3, g4, g5⟩ := hy y hy0 hD
        refine ⟨by rw [lk_put, if_neg (hod y hy0)]; exact g1, g2, Nat.lt_of_lt_of_le g3 hsz, (hw2.fr.block _ g3 (fun ⟨j, r, hj, _, hk⟩ => g5 j r hj hk)).trans g4, fun j r hj hk => ?_⟩
        rcases hw2.foot j r hj _ hk with h1 | ⟨j', r', hj', hk'⟩
        · have : w.heap.size ≤ Y y.i := h1
          omega
        · exact g5 j' r' hj' hk'
      · exact hd y1 h1 y2 h2 (by simpa [insD, hne y1 h1] using hD1) (by simpa [insD, hne y2 h2] using hD2)
      · rw [lk_put, lk_put]
        split
        · rfl
        · exact hlk e (fun y hy0 hD => he y hy0 (by simp [insD, hD]))
  · obtain ⟨β, fp, hf, hw⟩ := hr
    refine ⟨β, fp, fun _ => 0, t0, hf, hw.drew, fun y _ h => ?_, fun y _ y' _ h => ?_, fun _ _ => rfl⟩
    · simp at h
    · simp at h
  · rintro D a w' hall ⟨β, fp, Y, tt, hf, hw, hy, hd, hlk⟩
    refine hQ a w' (name_ok Y fs _ tt _ β fp a w' hf hw (fun y hy0 => ?_) (fun y hy0 => hy y hy0 (hall _ (hfs y hy0).1)) ?_ (fun e he => hlk e (fun y hy0 _ => he y hy0)))
    · obtain ⟨-, ⟨o, ti, -, -, -, -, hti, hz⟩, hdn, -⟩ := hfs y hy0
      exact ⟨fun β' => by rw [hz]; exact (V.gok y.T ti hti).flat β', hdn⟩
    · refine List.Pairwise.imp_of_mem (fun {y y'} h1 h2 hne => ⟨hd y h1 y' h2 (hall _ (hfs y h1).1) (hall _ (hfs y' h2).1) hne, fun e => ?_⟩) hpi
      exact hdst y h1 y.i y'.i (hfs y h1).1 (hfs y' h2).1 hne (hat y h1) (by rw [hat y' h2, e])
structure LexE (F : Fx V) (ops : Array Oper) (t0 : List (Nat × SV)) (b0 : List Res) (recs : List RecE) (fs : List Flt) (T : Nat → List (Nat × SV)) (B : Nat → List Res) (σ : St) : Prop where
  t0 : ∀ d, lk d (T 0) = lk d t0
  b0 : B 0 = b0
  t : ∀ i, i < recs.length → ∀ d, lk d (T (i + 1)) = lk d (put (dstAt ops i) (recs.getD i recE0).x (T i))
  b : ∀ i, i < recs.length → B (i + 1) = (recs.getD i recE0).nb.getD (B i)
  op : ∀ i, i < recs.length → (∀ y ∈ fs, y.i ≠ i) → ∀ F' : Fx V, F'.n = F.n → StepE F' ops i (T i) (B i) (recs.getD i recE0)
  un : ∀ i, i < recs.length → UnE (recs.getD i recE0) (B i)
  te : T recs.length = σ.t
  be : B recs.length = σ.b
  fl : ∀ y ∈ fs, y.i < recs.length ∧ (∃ o ti, ops[y.i]? = some o ∧ o.op = .alloc y.T ∧ o.guard = none ∧ o.dst = some y.d ∧ V.Γ y.T = some ti ∧ y.z = ti.zero) ∧ y.d < F.n ∧ recs.getD y.i recE0 = recE0
  pw : fs.Pairwise fun y y' => y.i ≠ y'.i
theorem LexE.step {ops : Array Oper} {t0 : List (Nat × SV)} {b0 : List Res} {recs : List RecE} {fs : List Flt} {T : Nat → List (Nat × SV)} {B : Nat → List Res} {σ : St} (h : LexE F ops t0 b0 recs fs T B σ) {o : Oper} (ho : ops[recs.length]? = some o) (r : RecE) (tt : List (Nat × SV))
    (htt : ∀ d, lk d tt = lk d (put o.dst r.x σ.t)) (fs' : List Flt) (hsub : ∀ y ∈ fs, y ∈ fs') (hop : (∀ y ∈ fs', y.i ≠ recs.length) → ∀ F' : Fx V, F'.n = F.n → StepE F' ops recs.length σ.t σ.b r) (hun : UnE r σ.b)
    (hfl : ∀ y ∈ fs', y ∈ fs ∨ (y.i = recs.length ∧ r = recE0 ∧ (∃ ti, o.op = .alloc y.T ∧ o.guard = none ∧ o.dst = some y.d ∧ V.Γ y.T = some ti ∧ y.z = ti.zero) ∧ y.d < F.n)) (hpw : fs'.Pairwise fun y y' => y.i ≠ y'.i) :
    LexE F ops t0 b0 (recs ++ [r]) fs' (fun i => if i = recs.length + 1 then tt else T i) (fun i => if i = recs.length + 1 then r.nb.getD σ.b else B i) ⟨tt, r.nb.getD σ.b⟩ := by
  have hlast : (recs ++ [r]).getD recs.length recE0 = r := by simp [List.getD_eq_getElem?_getD]
  have hprev : ∀ i, i < recs.length → (recs ++ [r]).getD i recE0 = recs.getD i recE0 := fun i hi => by simp [List.getD_eq_getElem?_getD, List.getElem?_append_left hi]
  have hd : dstAt ops recs.length = o.dst := by unfold dstAt; rw [ho]; rfl
  refine ⟨?_, ?_, fun i hi => ?_, fun i hi => ?_, fun i hi hne => ?_, fun i hi => ?_, ?_, ?_, fun y hy => ?_, hpw⟩
  · simp only [if_neg (show (0 : Nat) ≠ recs.length + 1 by omega)]; exact h.t0
  · simp only [if_neg (show (0 : Nat) ≠ recs.length + 1 by omega)]; exact h.b0
  all_goals try (rw [List.length_append, List.length_singleton] at hi)
  · intro d
    simp only [if_neg (show i ≠ recs.length + 1 by omega)]
    by_cases he : i = recs.length
    · subst he
      simp only [if_true]
      rw [hlast, hd, h.te]
      exact htt d
    · rw [if_neg (by omega), hprev i (by omega)]
      exact h.t i (by omega) d
  · simp only [if_neg (show i ≠ recs.length + 1 by omega)]
    by_cases he : i = recs.length
    · subst he
      simp only [if_true]
      rw [hlast, h.be]
    · rw [if_neg (by omega), hprev i (by omega)]
      exact h.b i (by omega)
  · simp only [if_neg (show i ≠ recs.length + 1 by omega)]
    by_cases he : i = recs.length
    · subst he
      rw [hlast, h.te, h.be]
      exact hop hne
    · rw [hprev i (by omega)]
      exact h.op i (by omega) (fun y hy => hne y (hsub y hy))
  · simp only [if_neg (show i ≠ recs.length + 1 by omega)]
    by_cases he : i = recs.length
    · subst he
      rw [hlast, h.be]
      exact hun
    · rw [hprev i (by omega)]
      exact h.un i (by omega)
  · simp
  · simp
  · rw [List.length_append, List.length_singleton]
    rcases hfl y hy with h1 | ⟨h1, h2, ⟨ti, h3⟩, h4⟩
    · obtain ⟨g1, g2, g3, g4⟩ := h.fl y h1
      exact ⟨by omega, g2, g3, by rw [hprev _ g1]; exact g4⟩
    · refine ⟨by omega, ⟨o, ti, by rw [h1]; exact ho, h3⟩, h4, by rw [h1, hlast]; exact h2⟩
def rkOf (r : RecE) : Rk := ⟨r.nb.isSome, r.all, r.rd, r.wr⟩
def tri (y : Flt) : Nat × List SV × TypeId := (y.d, y.z, y.T)
def FlE (fs : List Flt) : Option (List (Nat × List SV × TypeId)) → Prop
  | none => fs = []
  | some ys => ys = fs.map tri
theorem lexE_run {ops : Array Oper} {t0 : List (Nat × SV)} {b0 : List Res} {E : Fin} {k : List Item} : ∀ (f : Nat) (l pre : List Oper) (recs : List RecE) (fs : List Flt) (fl : Option (List (Nat × List SV × TypeId))) (T : Nat → List (Nat × SV)) (B : Nat → List Res) (σ : St), ops.toList = pre ++ l → recs.length = pre.length →
    LexE F ops t0 b0 recs fs T B σ → FlE fs fl → vcS V F.n E f (.dops ops l (recs.map rkOf) fl :: k) σ →
    ∃ f' recs' fs' T' B' σ', f' < f ∧ recs'.length = ops.size ∧ LexE F ops t0 b0 recs' fs' T' B' σ' ∧ OkD ops (recs'.map rkOf) ∧ okFl ops (fs'.map (·.d)) = true ∧ vcS V F.n E f' k (nameF (fs'.map tri) σ') := by
  intro f
  induction f with
  | zero => intro l pre recs fs fl T B σ _ _ _ _ h; cases l <;> simp [vcS] at h
  | succ f ih =>
    intro l pre recs fs fl T B σ hops hlen hlex hfe h
    match l with
    | [] =>
      have hsz : recs.length = ops.size := by
        have := congrArg List.length hops
        simp at this
        omega
      cases fl with
      | none =>
        simp only [vcS] at h
        obtain rfl : fs = [] := hfe
        exact ⟨f, recs, [], T, B, σ, Nat.lt_succ_self _, hsz, hlex, h.1, rfl, h.2⟩
      | some ys =>
        simp only [vcS] at h
        obtain rfl : ys = fs.map tri := hfe
        refine ⟨f, recs, fs, T, B, σ, Nat.lt_succ_self _, hsz, hlex, h.1.1, ?_, h.2⟩
        have e : (fs.map tri).map (·.1) = fs.map (·.d) := by rw [List.map_map]; rfl
        rw [← e]; exact h.1.2
    | o :: r =>
      have ho : ops[recs.length]? = some o := by
        have : ops.toList[recs.length]? = some o := by rw [hops, hlen]; simp
        simpa using this
      have nextG : ∀ (rc : RecE) (tt : List (Nat × SV)) (fs2 : List Flt) (fl2 : Option (List (Nat × List SV × TypeId))), FlE fs2 fl2 → (∀ d, lk d (put o.dst rc.x tt) = lk d (put o.dst rc.x σ.t)) → (∀ y ∈ fs, y ∈ fs2) → ((∀ y ∈ fs2, y.i ≠ recs.length) → ∀ F' : Fx V, F'.n = F.n → StepE F' ops recs.length σ.t σ.b rc) → UnE rc σ.b →
          (∀ y ∈ fs2, y ∈ fs ∨ (y.i = recs.length ∧ rc = recE0 ∧ (∃ ti, o.op = .alloc y.T ∧ o.guard = none ∧ o.dst = some y.d ∧ V.Γ y.T = some ti ∧ y.z = ti.zero) ∧ y.d < F.n)) → (fs2.Pairwise fun y y' => y.i ≠ y'.i) →
          vcS V F.n E f (.dops ops r (recs.map rkOf ++ [rkOf rc]) fl2 :: k) ⟨Vc.put o.dst rc.x tt, rc.nb.getD σ.b⟩ →
          ∃ f' recs' fs' T' B' σ', f' < f + 1 ∧ recs'.length = ops.size ∧ LexE F ops t0 b0 recs' fs' T' B' σ' ∧ OkD ops (recs'.map rkOf) ∧ okFl ops (fs'.map (·.d)) = true ∧ vcS V F.n E f' k (nameF (fs'.map tri) σ') := fun rc tt fs2 fl2 hfe2 htt hsub hop hun hfl hpw hv => by
        obtain ⟨f', recs', fs', T', B', σ', h1, h2⟩ := ih r (pre ++ [o]) (recs ++ [rc]) fs2 fl2 _ _ _ (by rw [hops]; simp) (by simp [hlen]) (hlex.step ho rc (Vc.put o.dst rc.x tt) htt fs2 hsub hop hun hfl hpw) hfe2 (by simpa using hv)
        exact ⟨f', recs', fs', T', B', σ', by omega, h2⟩
      have next : ∀ (rc : RecE) (tt : List (Nat × SV)), (∀ d, lk d (put o.dst rc.x tt) = lk d (put o.dst rc.x σ.t)) → (∀ F' : Fx V, F'.n = F.n → StepE F' ops recs.length σ.t σ.b rc) → UnE rc σ.b →
          vcS V F.n E f (.dops ops r (recs.map rkOf ++ [rkOf rc]) fl :: k) ⟨Vc.put o.dst rc.x tt, rc.nb.getD σ.b⟩ →
          ∃ f' recs' fs' T' B' σ', f' < f + 1 ∧ recs'.length = ops.size ∧ LexE F ops t0 b0 recs' fs' T' B' σ' ∧ OkD ops (recs'.map rkOf) ∧ okFl ops (fs'.map (·.d)) = true ∧ vcS V F.n E f' k (nameF (fs'.map tri) σ') := fun rc tt htt hop hun hv =>
        nextG rc tt fs fl hfe htt (fun _ h => h) (fun _ => hop) hun (fun _ h => .inl h) hlex.pw hv
      obtain ⟨dst, op, ty, pos, after, guard⟩ := o
      -- one operation, wanted
      have go : ∀ (tt : List (Nat × SV)), (∀ e, lk e tt = lk e σ.t) → (∀ F' : Fx V, F'.n = F.n → ∀ (ta : List (Nat × SV)) (ba : List Res) (a : Act) (w : World), Rel F' ⟨ta, ba⟩ a w → (∀ d ∈ (⟨dst, op, ty, pos, after, guard⟩ : Oper).looksAt ops, lk d ta = lk d σ.t) → Region.wanted ⟨dst, op, ty, pos, after, guard⟩ (yielded ops a.tmps) = true) →
          fits F.n dst = true → Yg V F.n E f ops r (recs.map rkOf) fl k dst ⟨tt, σ.b⟩ (XV V op ⟨tt, σ.b⟩) →
          ∃ f' recs' fs' T' B' σ', f' < f + 1 ∧ recs'.length = ops.size ∧ LexE F ops t0 b0 recs' fs' T' B' σ' ∧ OkD ops (recs'.map rkOf) ∧ okFl ops (fs'.map (·.d)) = true ∧ vcS V F.n E f' k (nameF (fs'.map tri) σ') := fun tt htt hwant hfit hcd => by
        have hput : ∀ x d, lk d (put dst x tt) = lk d (put dst x σ.t) := fun x d => lk_put_congr (htt d)
        have hfit' : ∀ F' : Fx V, F'.n = F.n → fits F'.n dst = true := fun F' e => by rw [e]; exact hfit
        cases hsd : XV V op ⟨tt, σ.b⟩ with
        | val c rc =>
          rw [hsd] at hcd
          obtain ⟨x, nb, al, rd, wr⟩ := rc
          cases nb with
          | none =>
            simp only [Yg] at hcd
            exact next ⟨x, none, al, rd, wr⟩ tt (hput x) (fun F' e => opE_val ho (hfit' F' e) hsd hcd.1 htt (hwant F' e)) (stepD_un hsd hcd.1) hcd.2
          | some nb =>
            simp only [Yg] at hcd
            exact next ⟨x, some nb, al, rd, wr⟩ tt (hput x) (fun F' e => opE_val ho (hfit' F' e) hsd hcd.1 htt (hwant F' e)) (stepD_un hsd hcd.1) hcd.2
        | call g args =>
          rw [hsd] at hcd
          simp only [Yg, callD] at hcd
          rcases hcd with ⟨x, hpc, hv⟩ | ⟨x, nb, hsc, hv⟩ | ⟨x, nb, W, hsc, hout, hv⟩
          · exact next ⟨x, none, false, [], []⟩ tt (hput x) (fun F' e => opE_call ho (hfit' F' e) hsd htt (.inl ⟨x, hpc, rfl⟩) (hwant F' e)) (un_none _ rfl _) hv
          · exact next ⟨x, some nb, true, [], []⟩ tt (hput x) (fun F' e => opE_call ho (hfit' F' e) hsd htt (.inr ⟨x, nb, true, [], hsc, rfl⟩) (hwant F' e)) (fun _ _ h => by cases h) hv
          · exact next ⟨x, some nb, false, [], W⟩ tt (hput x) (fun F' e => opE_call ho (hfit' F' e) hsd htt (.inr ⟨x, nb, false, W, hsc, rfl⟩) (hwant F' e)) (fun _ h _ j q hq => by cases h; exact hout j q hq) hv
        | bad => rw [hsd] at hcd; simp [Yg] at hcd
      cases guard with
      | none =>
        simp only [vcS] at h
        obtain ⟨hfit, h⟩ := h
        have plain : Yg V F.n E f ops r (recs.map rkOf) fl k dst σ (XV V op σ) → _ := go σ.t (fun _ => rfl) (fun F' e ta _ a _ _ _ => wanted_none rfl a) hfit
        cases fl with
        | none => simp only [contF] at h; exact plain h
        | some ys =>
          simp only [contF] at h
          cases hal : allocT op with
          | none => rw [hal] at h; simp only [contG] at h; exact plain h
          | some Ta =>
            rw [hal] at h
            simp only [contG] at h
            obtain rfl : op = .alloc Ta := by
              cases op <;> simp [allocT] at hal
              rw [hal]
            obtain rfl : ys = fs.map tri := hfe
            cases hti : V.Γ Ta with
            | none => rw [hti] at h; cases dst <;> simp [contH] at h
            | some ti =>
              rw [hti] at h
              cases dst with
              | none => simp [contH] at h
              | some d =>
                simp only [contH] at h
                refine nextG recE0 σ.t (fs ++ [⟨recs.length, d, ti.zero, Ta⟩]) (some (fs.map tri ++ [(d, ti.zero, Ta)])) (by show _ = (fs ++ _).map tri; rw [List.map_append]; rfl) (fun _ => rfl) (fun y hy => List.mem_append_left _ hy) (fun hne => absurd rfl (hne ⟨recs.length, d, ti.zero, Ta⟩ (by simp))) (un_none _ rfl _) (fun y hy => ?_) ?_ h
                · rcases List.mem_append.1 hy with hy | hy
                  · exact .inl hy
                  · obtain rfl := List.mem_singleton.1 hy
                    exact .inr ⟨rfl, rfl, ⟨ti, rfl, rfl, rfl, hti, rfl⟩, by simpa [fits] using hfit⟩
                · refine List.pairwise_append.2 ⟨hlex.pw, List.pairwise_singleton _ _, fun y hy y' hy' => ?_⟩
                  obtain rfl := List.mem_singleton.1 hy'
                  exact Nat.ne_of_lt (hlex.fl y hy).1
      | some q =>
        obtain ⟨j, want⟩ := q
        simp only [vcS] at h
        obtain ⟨hfit, h⟩ := h
        have hfit' : ∀ F' : Fx V, F'.n = F.n → fits F'.n dst = true := fun F' e => by rw [e]; exact hfit
        cases hg : Yk σ.t (gdst ops.toList j) with
        | none =>
          cases hu : gvU σ.t (gdst ops.toList j) with
          | false => rw [hg, hu] at h; simp [Xy] at h
          | true =>
            rw [hg, hu] at h
            simp only [Xy, XG] at h
            obtain ⟨d, x, hgd, hlk, hno⟩ := gvU_at hu
            refine next ⟨.v undef, none, false, [], []⟩ σ.t (fun _ => rfl) (fun F' e => opE_skip ho (hfit' F' e) (fun ta ba a w hr hl => by
              obtain ⟨β, fp, hf, -⟩ := hr
              have hy := gvU_ok (hf.ok β (Agr.refl _ _)) hgd (by rw [hl d (guard_looks rfl hgd)]; exact hlk) hno
              simp [Region.wanted, hy])) (un_none _ rfl _) h
        | some q =>
          obtain ⟨d, b⟩ := q
          rw [hg] at h
          simp only [Xy, XG] at h
          obtain ⟨hd, h1, h2⟩ := h
          obtain ⟨hlk, hgd⟩ := gval_lk hg
          have hyield : ∀ F' : Fx V, F'.n = F.n → ∀ (ta : List (Nat × SV)) (ba : List Res) (a : Act) (w : World), Rel F' ⟨ta, ba⟩ a w → (∀ e ∈ (⟨dst, op, ty, pos, after, some (j, want)⟩ : Oper).looksAt ops, lk e ta = lk e σ.t) → yielded ops a.tmps j = some b := fun F' _ ta ba a w hr hl => by
            obtain ⟨β, fp, hf, -⟩ := hr
            exact (gvalD_ok (hf.ok β (Agr.refl _ _)) (gval_same hg (hl d (guard_looks rfl hgd)))).1
          by_cases hb : b = want
          · subst hb
            exact go ((d, .bool b) :: σ.t) (lk_relit hlk) (fun F' e ta ba a w hr hl => by simp [Region.wanted, hyield F' e ta ba a w hr hl]) hfit (h1 rfl)
          · have hb' : b = !want := by cases b <;> cases want <;> simp at hb ⊢
            have hv := h2 hb'
            rw [← hb'] at hv
            exact next ⟨.v undef, none, false, [], []⟩ ((d, .bool b) :: σ.t) (fun e => lk_put_congr (lk_relit hlk e)) (fun F' e => opE_skip ho (hfit' F' e) (fun ta ba a w hr hl => by simp [Region.wanted, hyield F' e ta ba a w hr hl, hb])) (un_none _ rfl _) hv
end
end Vc
namespace Vc
open Go Go.RowKit Wf
section
variable {V : Cx} {F : Fx V}
def Qit (F : Fx V) (Qf : Exit → Act → World → Prop) : List Item → Exit → Act → World → Prop
  | [] => Qf
  | .code c :: k => Exit.then (c.wp V.P (Qit F Qf k)) (Qit F Qf k)
  | .ops ops l :: k => Exit.then (wpList V.P ops (Qit F Qf k) l) (Qit F Qf k)
  | .dops _ _ _ _ :: k => Exit.then (fun _ _ => True) (Qit F Qf k)
  | .endb id :: k => Exit.inBlock id (Qit F Qf k)
  | .endl I μ m :: k => Exit.then (fun a w => ∃ σ, I σ ∧ μ σ < m ∧ Rel F σ a w) (Qit F Qf k)
theorem Qit_exit {Qf : Exit → Act → World → Prop} {id : Nat} {a : Act} {w : World} : ∀ {k k' : List Item}, XE id k = some k' → Qit F Qf k' .normal a w → Qit F Qf k (.exit id) a w
  | [], k', h, _ => by simp [XE] at h
  | .code c :: k, k', h, hq => by simp only [XE] at h; exact Qit_exit (k := k) h hq
  | .ops ops l :: k, k', h, hq => by simp only [XE] at h; exact Qit_exit (k := k) h hq
  | .endl _ _ _ :: k, k', h, hq => by simp only [XE] at h; exact Qit_exit (k := k) h hq
  | .dops _ _ _ _ :: k, k', h, hq => by simp only [XE] at h; exact Qit_exit (k := k) h hq
  | .endb id' :: k, k', h, hq => by
    simp only [XE] at h
    show Exit.inBlock id' (Qit F Qf k) (.exit id) a w
    split at h
    · rename_i e
      cases h
      simp only [Exit.inBlock, if_pos e.symm]
      exact hq
    · rename_i e
      simp only [Exit.inBlock, if_neg (fun q => e (Eq.symm q))]
      exact Qit_exit (k := k) h hq
theorem Qit_ret {Qf : Exit → Act → World → Prop} {a : Act} {w : World} (hq : Qf .ret a w) : ∀ (k : List Item), Qit F Qf k .ret a w
  | [] => hq
  | .code c :: k => Qit_ret hq k
  | .ops ops l :: k => Qit_ret hq k
  | .endl _ _ _ :: k => Qit_ret hq k
  | .dops _ _ _ _ :: k => Qit_ret hq k
  | .endb id' :: k => Qit_ret hq k
theorem holds_of_cont {E : Fin} {n f : Nat} {ops : Array Oper} {r : List Oper} {k : List Item} {s : StepR} (h : Yc V n E f ops r k s) : HoldsR V (fun σ => vcS V n E f (.ops ops r :: k) σ) s := by
  cases s <;> simp only [Yc] at h
  · exact h
  · unfold callV at h; exact h
theorem vcS_sound {E : Fin} {Qf : Exit → Act → World → Prop} (hn : ∀ σ a w, endV V E σ (XT V σ E.rs) → Rel F σ a w → Qf .normal a w) (hret : ∀ σ a w, endV V E σ (XT V σ E.rs) → Rel F σ a w → Qf .ret a w) :
    ∀ (f : Nat) (items : List Item) (σ : St), vcS V F.n E f items σ → ∀ a w, Rel F σ a w → Qit F Qf items .normal a w := by
  intro f
  induction f using Nat.strongRecOn with
  | _ f0 ihs =>
  cases f0 with
  | zero => intro items σ h; cases items <;> simp [vcS] at h
  | succ f =>
    have ih : ∀ (items : List Item) (σ : St), vcS V F.n E f items σ → ∀ a w, Rel F σ a w → Qit F Qf items .normal a w := ihs f (Nat.lt_succ_self _)
    have step : ∀ (ops : Array Oper) (o : Oper) (r : List Oper) (k : List Item) (σ : St) (a : Act) (w : World), fits F.n o.dst = true → Yc V F.n E f ops r k (XR V o.dst o.op σ) → Rel F σ a w →
        o.wp V.P a w (wpList V.P ops (Qit F Qf k) r) (Qit F Qf k) := fun ops o r k σ a w hfit h hr => by
      refine Oper.wp_mono (fun a w ⟨σ', h1, h2⟩ => ?_) (stepO_sound (F := F) hfit (holds_of_cont h) hr o.type o.pos o.after o.guard _)
      exact ih (.ops ops r :: k) σ' h1 a w h2
    intro items σ h a w hr
    match items with
    | [] => simp only [vcS] at h; exact hn σ a w h hr
    | .endb id :: k => simp only [vcS] at h; exact ih k σ h a w hr
    | .endl I μ m :: k => simp only [vcS] at h; exact ⟨σ, h.1, h.2, hr⟩
    | .dops ops l rs fl :: k => exact trivial
    | .ops ops [] :: k => simp only [vcS] at h; exact ih k σ h a w hr
    | .ops ops (⟨dst, op, ty, pos, after, none⟩ :: r) :: k =>
      simp only [vcS] at h
      show wpList V.P ops (Qit F Qf k) (⟨dst, op, ty, pos, after, none⟩ :: r) a w
      unfold wpList
      rw [if_pos (by simp [Region.wanted])]
      exact .inl (step ops ⟨dst, op, ty, pos, after, none⟩ r k σ a w h.1 h.2 hr)
    | .ops ops (⟨dst, op, ty, pos, after, some (j, want)⟩ :: r) :: k =>
      simp only [vcS] at h
      obtain ⟨hfit, h⟩ := h
      show wpList V.P ops (Qit F Qf k) (⟨dst, op, ty, pos, after, some (j, want)⟩ :: r) a w
      cases hg : Yk σ.t (gdst ops.toList j) with
      | none =>
        cases hu : gvU σ.t (gdst ops.toList j) with
        | false => rw [hg, hu] at h; simp [XA] at h
        | true =>
          rw [hg, hu] at h
          simp only [XA, XG] at h
          obtain ⟨d, x, hgd, hlk, hno⟩ := gvU_at hu
          obtain ⟨β, fp, hf, hw⟩ := hr
          have hy := gvU_ok (hf.ok β (Agr.refl _ _)) hgd hlk hno
          unfold wpList
          rw [if_neg (by simp [Region.wanted, hy])]
          exact ih (.ops ops r :: k) _ h _ w ⟨β, fp, hf.put hfit (fun _ _ => rfl), hw⟩
      | some p =>
        obtain ⟨d, b⟩ := p
        rw [hg] at h
        simp only [XA, XG] at h
        obtain ⟨hd, h1, h2⟩ := h
        obtain ⟨β, fp, hf, hw⟩ := hr
        obtain ⟨hy, hv⟩ := gvalD_ok (hf.ok β (Agr.refl _ _)) hg
        unfold wpList
        by_cases hb : b = want
        · subst hb
          rw [if_pos (by simp [Region.wanted, hy])]
          exact .inl (step ops ⟨dst, op, ty, pos, after, some (j, b)⟩ r k _ a w hfit (h1 rfl) ⟨β, fp, hf.relit (fun _ _ => hv), hw⟩)
        · have hb' : b = !want := by cases b <;> cases want <;> simp at hb ⊢
          rw [if_neg (by simp [Region.wanted, hy, hb])]
          exact ih (.ops ops r :: k) _ (h2 hb') _ w ⟨β, fp, (hf.relit (x := .bool (!want)) (fun _ _ => by rw [← hb']; exact hv)).put hfit (fun _ _ => rfl), hw⟩
    | .code c :: k =>
      show c.wp V.P (Qit F Qf k) a w
      cases c with
      | skip => simp only [vcS] at h; exact wp_skip (ih k σ h a w hr)
      | region id ops draw =>
        cases draw
        · simp only [vcS] at h
          exact wp_region_list (ih (.ops ops ops.toList :: k) σ h a w hr)
        · simp only [vcS] at h
          cases f with
          | zero => simp [vcS] at h
          | succ f1 =>
          have hlex : LexE F ops σ.t σ.b [] [] (fun _ => σ.t) (fun _ => σ.b) σ := ⟨fun _ => rfl, rfl, fun i hi => by simp at hi, fun i hi => by simp at hi, fun i hi => by simp at hi, fun i hi => by simp at hi, rfl, rfl, fun y hy => by simp at hy, List.Pairwise.nil⟩
          have hfe : FlE [] (flOf E.late id) := by
            generalize E.late = l
            induction l with
            | nil => rfl
            | cons i r ihl =>
              unfold flOf
              split
              · rfl
              · exact ihl
          obtain ⟨f', recs, fs, T, B, σ', hlt, hlen, hl, hok, hokf, hv⟩ := lexE_run (f1 + 1) ops.toList [] [] [] _ _ _ σ (by simp) rfl hlex hfe h
          refine draw_okF (recs := recs) fs T B hl.t0 hl.b0 (fun i hi => hl.t i (by omega)) (fun i hi => hl.b i (by omega)) (fun i hi => hl.op i (by omega)) (fun i hi => hl.un i (by omega)) (fun y hy => by have := hl.fl y hy; rw [hlen] at this; exact this) hl.pw hokf hlen hok hr (fun a' w' hrel => ?_)
          rw [← hlen, hl.te, hl.be] at hrel
          exact ihs f' (by omega) k _ hv a' w' hrel
      | seq x y => simp only [vcS] at h; exact wp_seq (ih (.code x :: .code y :: k) σ h a w hr)
      | cond c x y =>
        simp only [vcS] at h
        cases hb : ev σ.t c with
        | none => rw [hb] at h; simp [XN] at h
        | some v =>
          rw [hb] at h
          cases v <;> simp only [XN, XQ] at h
          rename_i b
          obtain ⟨β, fp, hf, hw⟩ := hr
          exact wp_cond_split (t := b) ((hf.ev hb (Agr.refl _ β)).trans rfl) (fun e => ih (.code x :: k) σ (h.1 e) a w ⟨β, fp, hf, hw⟩) (fun e => ih (.code y :: k) σ (h.2 e) a w ⟨β, fp, hf, hw⟩)
      | block id x => simp only [vcS] at h; exact wp_block (ih (.code x :: .endb id :: k) σ h a w hr)
      | exit id =>
        simp only [vcS] at h
        cases hx : XE id k with
        | none => rw [hx] at h; simp [XO] at h
        | some k' =>
          rw [hx] at h
          simp only [XO] at h
          exact wp_exit (Qit_exit hx (ih k' σ h a w hr))
      | ret => simp only [vcS] at h; exact wp_ret (Qit_ret (hret σ a w h hr) k)
      | loop x =>
        simp only [vcS, loopV] at h
        obtain ⟨I, μ, h0, hround⟩ := h
        classical
        let S : Act → World → Nat → Prop := fun a w n => ∃ σ, μ σ = n ∧ I σ ∧ Rel F σ a w
        let m : Act → World → Nat := fun a w => if h : ∃ n, S a w n then Classical.choose (least h) else 0
        refine wp_loop (fun a w => ∃ n, S a w n) m ⟨μ σ, σ, rfl, h0, hr⟩ (fun a w hI => ?_)
        have hm : m a w = Classical.choose (least hI) := dif_pos hI
        obtain ⟨σ', hμ, hI', hr'⟩ := (Classical.choose_spec (least hI)).1
        refine wp_mono (ih (.code x :: .endl I μ (μ σ') :: k) σ' (hround σ' hI') a w hr') ?_
        intro e a2 w2 h2
        cases e with
        | normal =>
          obtain ⟨σ2, h3, h4, hr2⟩ := h2
          have hS : ∃ n, S a2 w2 n := ⟨μ σ2, σ2, rfl, h3, hr2⟩
          refine ⟨hS, ?_⟩
          have hm2 : m a2 w2 = Classical.choose (least hS) := dif_pos hS
          have := (Classical.choose_spec (least hS)).2 _ ⟨σ2, rfl, h3, hr2⟩
          rw [hm, hm2]
          omega
        | _ => exact h2
      | _ => simp [vcS] at h
theorem sc_ofL (late : List Nat) {f : FuncId} {fn : Func} {c : Code} {args : List SV} {bs : List Res} {R : SV → List Res → Prop} {n : Nat} {rs : Array ResultVar} (fuel : Nat) (hf : V.P.funcs[f]? = some fn) (hb : fn.body = some c) (hn : fn.ntmps = n) (hr : fn.results = rs) (hent : Enters V f)
    (hlen : args.length ≤ n) (hsc : ∀ β β', Agr bs.length β β' → concL β args = concL β' args) (h : vcS V n ⟨rs.toList, R, late⟩ fuel [.code c] ⟨Yj 0 args, bs⟩) : SC V f args bs R := by
  refine sc_core hf hb hn hr hent hlen hsc (fun F hF a w hrel => ?_)
  subst hF
  refine vcS_sound (Qf := Qof F (kret V rs.toList R)) (fun σ a w h hr => ⟨σ, ?_, hr⟩) (fun σ a w h hr => ⟨σ, ?_, hr⟩) fuel [.code c] ⟨Yj 0 args, bs⟩ h a w hrel
  all_goals
    simp only at h
    cases hl : XT V σ rs.toList with
    | none => rw [hl] at h; simp [endV] at h
    | some l => rw [hl] at h; simp only [kret, hl]; exact h
theorem pc_ofL (late : List Nat) {f : FuncId} {fn : Func} {c : Code} {args : List SV} {r : SV} {n : Nat} {rs : Array ResultVar} (fuel : Nat) (hf : V.P.funcs[f]? = some fn) (hb : fn.body = some c) (hn : fn.ntmps = n) (hr : fn.results = rs) (hent : Enters V f)
    (hlen : args.length ≤ n) (fa : flat.flatL args = true) (fr : flat r = true) (h : vcS V n ⟨rs.toList, fun r' _ => r' = r, late⟩ fuel [.code c] ⟨Yj 0 args, []⟩) : PC V f args r :=
  pc_of_sc fa fr (sc_ofL late fuel hf hb hn hr hent hlen (fun β β' _ => concL_flat args fa β β') h)
theorem sc_of {f : FuncId} {fn : Func} {c : Code} {args : List SV} {bs : List Res} {R : SV → List Res → Prop} {n : Nat} {rs : Array ResultVar} (fuel : Nat) (hf : V.P.funcs[f]? = some fn) (hb : fn.body = some c) (hn : fn.ntmps = n) (hr : fn.results = rs) (hent : Enters V f)
    (hlen : args.length ≤ n) (hsc : ∀ β β', Agr bs.length β β' → concL β args = concL β' args) (h : vcS V n ⟨rs.toList, R, []⟩ fuel [.code c] ⟨Yj 0 args, bs⟩) : SC V f args bs R :=
  sc_ofL [] fuel hf hb hn hr hent hlen hsc h
theorem pc_of {f : FuncId} {fn : Func} {c : Code} {args : List SV} {r : SV} {n : Nat} {rs : Array ResultVar} (fuel : Nat) (hf : V.P.funcs[f]? = some fn) (hb : fn.body = some c) (hn : fn.ntmps = n) (hr : fn.results = rs) (hent : Enters V f)
    (hlen : args.length ≤ n) (fa : flat.flatL args = true) (fr : flat r = true) (h : vcS V n ⟨rs.toList, fun r' _ => r' = r, []⟩ fuel [.code c] ⟨Yj 0 args, []⟩) : PC V f args r :=
  pc_ofL [] fuel hf hb hn hr hent hlen fa fr h
theorem callV_pc {E : Fin} {n f : Nat} {ops : Array Oper} {r : List Oper} {k : List Item} {g : FuncId} {args : List SV} {dst : Option Tmp} {σ : St} {x : SV} (h : PC V g args x) (h2 : vcS V n E f (.ops ops r :: k) ⟨put dst x σ.t, σ.b⟩) : callV V n E f ops r k g args dst σ := by
  unfold callV; exact .inl ⟨x, h, h2⟩
theorem callV_sc {E : Fin} {n f : Nat} {ops : Array Oper} {r : List Oper} {k : List Item} {g : FuncId} {args : List SV} {dst : Option Tmp} {σ : St} {R : SV → List Res → Prop} (h : SC V g args σ.b R) (h2 : ∀ x bs, R x bs → vcS V n E f (.ops ops r :: k) ⟨put dst x σ.t, bs⟩) : callV V n E f ops r k g args dst σ := by
  unfold callV; exact .inr ⟨R, h, h2⟩
theorem callD_pc {E : Fin} {n f : Nat} {ops : Array Oper} {r : List Oper} {rs : List Rk} {fl : Option (List (Nat × List SV × TypeId))} {k : List Item} {g : FuncId} {args : List SV} {dst : Option Tmp} {σ : St} {x : SV} (h : PC V g args x) (h2 : vcS V n E f (.dops ops r (rs ++ [⟨false, false, [], []⟩]) fl :: k) ⟨put dst x σ.t, σ.b⟩) : callD V n E f ops r rs fl k dst σ g args := by
  unfold callD; exact .inl ⟨x, h, h2⟩
theorem callD_scw {E : Fin} {n f : Nat} {ops : Array Oper} {r : List Oper} {rs : List Rk} {fl : Option (List (Nat × List SV × TypeId))} {k : List Item} {g : FuncId} {args : List SV} {dst : Option Tmp} {σ : St} {x : SV} {b : List Res} (W : List (Nat × Nat × Nat)) (h : SC V g args σ.b (fun r' b' => r' = x ∧ b' = b)) (ho : Outs W b σ.b)
    (h2 : vcS V n E f (.dops ops r (rs ++ [⟨true, false, [], W⟩]) fl :: k) ⟨put dst x σ.t, b⟩) : callD V n E f ops r rs fl k dst σ g args := by
  unfold callD; exact .inr (.inr ⟨x, b, W, h, ho, h2⟩)
theorem loopV_mk {E : Fin} {n f : Nat} {x : Code} {k : List Item} {σ : St} (I : St → Prop) (μ : St → Nat) (h0 : I σ) (h : ∀ σ', I σ' → vcS V n E f (.code x :: .endl I μ (μ σ') :: k) σ') : loopV V n E f x k σ := by
  unfold loopV; exact ⟨I, μ, h0, h⟩
def renT (f : Nat → Nat) (l : List (Nat × Nat × Nat)) : List (Nat × Nat × Nat) := l.map fun x => (f x.1, x.2.1, x.2.2)
def renRk (f : Nat → Nat) (r : Rk) : Rk := ⟨r.s, r.all, renT f r.rd, renT f r.wr⟩
theorem anyOvl_ren (f : Nat → Nat) (xs ys : List (Nat × Nat × Nat)) (h : anyOvl xs ys = true) : anyOvl (renT f xs) (renT f ys) = true := by
  unfold anyOvl at h ⊢
  obtain ⟨a, ha, h⟩ := List.any_eq_true.1 h
  obtain ⟨b, hb, h⟩ := List.any_eq_true.1 h
  refine List.any_eq_true.2 ⟨_, List.mem_map_of_mem ha, List.any_eq_true.2 ⟨_, List.mem_map_of_mem hb, ?_⟩⟩
  unfold ovl at h ⊢
  simp only [Bool.and_eq_true, beq_iff_eq] at h ⊢
  exact ⟨by rw [h.1], h.2⟩
theorem OkD_ren (f : Nat → Nat) {ops : Array Oper} {rs : List Rk} (h : OkD ops (rs.map (renRk f))) : OkD ops rs := by
  simp only [OkD, Bool.and_eq_true] at h ⊢
  refine ⟨?_, h.2⟩
  have h1 := h.1
  unfold compatB at h1 ⊢
  refine List.all_eq_true.2 (fun i hi => List.all_eq_true.2 (fun k hk => ?_))
  have h2 := List.all_eq_true.1 (List.all_eq_true.1 h1 i hi) k hk
  simp only [Bool.or_eq_true] at h2 ⊢
  refine h2.imp_right (fun h2 => ?_)
  have hg : ∀ j, ((rs.map (renRk f))[j]?).getD rk0 = renRk f ((rs[j]?).getD rk0) := fun j => by
    rw [List.getElem?_map]
    cases rs[j]? <;> rfl
  unfold pairB at h2 ⊢
  simp only [hg] at h2
  generalize (rs[i]?).getD rk0 = ri at h2 ⊢
  generalize (rs[k]?).getD rk0 = rk at h2 ⊢
  have hs : ∀ r, (renRk f r).s = r.s := fun _ => rfl
  have ha : ∀ r, (renRk f r).all = r.all := fun _ => rfl
  have he : (renRk f ri).rd.isEmpty = ri.rd.isEmpty := by
    show (ri.rd.map _).isEmpty = _
    cases ri.rd <;> rfl
  rw [hs, hs, ha, he] at h2
  split
  · rename_i hc
    rw [if_pos hc] at h2
    exact h2
  · rename_i hc
    rw [if_neg hc] at h2
    split
    · rename_i hc2
      rw [if_pos hc2] at h2
      simp only [Bool.or_eq_true, Bool.not_eq_true', Bool.or_eq_false_iff] at h2 ⊢
      refine h2.imp_right (fun h2 => ⟨h2.1, ?_⟩)
      cases ho : anyOvl ri.rd rk.wr with
      | false => rfl
      | true =>
        have := anyOvl_ren f _ _ ho
        rw [show anyOvl (renT f ri.rd) (renT f rk.wr) = false from h2.2] at this
        cases this
    · rfl
end
def maskOf (ms : List Nat) : List (Nat × Bool) → Nat
  | [] => 0
  | (e, true) :: r => maskOf ms r ||| (1 <<< e) ||| ms.getD e 0
  | (_, false) :: r => maskOf ms r
def forceN {β : Type} (m : Nat) (f : Nat → β) : β := match m with
  | 0 => f 0
  | k + 1 => f (k + 1)
theorem forceN_eq {β : Type} (m : Nat) (f : Nat → β) : forceN m f = f m := by cases m <;> rfl
def edges (o : Oper) : List (Nat × Bool) := o.after.toList.map fun e => (e.on, Region.binds .any e)
def depGo : List Oper → List Nat → List Nat
  | [], ms => ms
  | o :: r, ms => forceN (maskOf ms (edges o)) fun m => depGo r (ms ++ [m])
def hasDep (D : List Nat) (i k : Nat) : Bool := (D.getD i 0).testBit k
def pairF (ops : Array Oper) (rs : List Rk) (D : List Nat) (i k : Nat) : Bool :=
  if slotC ops i k || (((rs[i]?).getD rk0).s && ((rs[k]?).getD rk0).s) then (if k < i then hasDep D i k else hasDep D k i)
  else if ((rs[k]?).getD rk0).s && !((rs[i]?).getD rk0).rd.isEmpty then (if k < i then hasDep D i k else hasDep D k i) || !(((rs[k]?).getD rk0).all || anyOvl ((rs[i]?).getD rk0).rd ((rs[k]?).getD rk0).wr)
  else true
def okF (ops : Array Oper) (rs : List Rk) : Bool :=
  ((List.range ops.size).all fun i => (List.range ops.size).all fun k => k == i || pairF ops rs (depGo ops.toList []) i k) && aheadB ops
theorem dep_more {ops : Array Oper} : ∀ (f g i k : Nat), f ≤ g → depB ops f i k = true → depB ops g i k = true
  | 0, _, _, _, _, h => by simp [depB] at h
  | f + 1, 0, _, _, h, _ => by omega
  | f + 1, g + 1, i, k, hfg, h => by
    rw [depB] at h ⊢
    split at h
    · rename_i o ho
      rw [← Array.any_toList, List.any_eq_true] at h ⊢
      obtain ⟨e, he, h⟩ := h
      refine ⟨e, he, ?_⟩
      simp only [Bool.and_eq_true, Bool.or_eq_true] at h ⊢
      refine ⟨h.1, h.2.imp id (dep_more f g e.on k (by omega))⟩
    · cases h
theorem maskOf_bit (ms : List Nat) (k : Nat) : ∀ l : List (Nat × Bool), (maskOf ms l).testBit k = true → ∃ e, (e, true) ∈ l ∧ (e = k ∨ (ms.getD e 0).testBit k = true)
  | [], h => by simp [maskOf] at h
  | (e, true) :: r, h => by
    rw [maskOf, Nat.testBit_or, Nat.testBit_or, Bool.or_eq_true, Bool.or_eq_true] at h
    rcases h with (h | h) | h
    · obtain ⟨e', h1, h2⟩ := maskOf_bit ms k r h
      exact ⟨e', List.mem_cons_of_mem _ h1, h2⟩
    · refine ⟨e, List.mem_cons_self, .inl ?_⟩
      rw [Nat.one_shiftLeft, Nat.testBit_two_pow] at h
      simpa using h
    · exact ⟨e, List.mem_cons_self, .inr h⟩
  | (_, false) :: r, h => by
    rw [maskOf] at h
    obtain ⟨e', h1, h2⟩ := maskOf_bit ms k r h
    exact ⟨e', List.mem_cons_of_mem _ h1, h2⟩
theorem depGo_ok {ops : Array Oper} : ∀ (r : List Oper) (ms : List Nat), ops.toList.drop ms.length = r → (∀ i k, (ms.getD i 0).testBit k = true → i < ms.length ∧ depB ops (i + 1) i k = true) →
    ∀ i k, ((depGo r ms).getD i 0).testBit k = true → depB ops (i + 1) i k = true
  | [], ms, _, h, i, k, hb => (h i k hb).2
  | o :: r, ms, hd, h, i, k, hb => by
    rw [depGo, forceN_eq] at hb
    have hlt : ms.length < ops.toList.length := by
      apply Nat.lt_of_not_le
      intro hle
      rw [List.drop_eq_nil_of_le hle] at hd
      cases hd
    have ho : ops[ms.length]? = some o := by
      rw [← Array.getElem?_toList, List.getElem?_eq_getElem hlt]
      rw [List.drop_eq_getElem_cons hlt] at hd
      rw [(List.cons.inj hd).1]
    refine depGo_ok r (ms ++ [maskOf ms (edges o)]) ?_ ?_ i k hb
    · rw [List.length_append, List.length_singleton]
      rw [List.drop_eq_getElem_cons hlt] at hd
      exact (List.cons.inj hd).2
    · intro i k hb
      rw [List.getD_eq_getElem?_getD] at hb
      rcases Nat.lt_trichotomy i ms.length with hi | hi | hi
      · rw [List.getElem?_append_left hi, ← List.getD_eq_getElem?_getD] at hb
        exact ⟨by simp; omega, (h i k hb).2⟩
      · subst hi
        rw [List.getElem?_append_right (Nat.le_refl _), Nat.sub_self] at hb
        simp only [List.getElem?_cons_zero, Option.getD_some] at hb
        refine ⟨by simp, ?_⟩
        obtain ⟨e, h1, h2⟩ := maskOf_bit ms k _ hb
        obtain ⟨d, hd1, hd2⟩ := List.mem_map.1 h1
        rw [depB, ho]
        simp only
        rw [← Array.any_toList]
        refine List.any_eq_true.2 ⟨d, hd1, ?_⟩
        simp only [Prod.mk.injEq] at hd2
        rw [hd2.2, hd2.1, Bool.true_and, Bool.or_eq_true]
        rcases h2 with rfl | h2
        · left; simp
        · right
          have := h e k h2
          exact dep_more (e + 1) _ e k (by omega) this.2
      · rw [List.getElem?_eq_none (by simp; omega)] at hb
        simp at hb
theorem OkD_fast {ops : Array Oper} {rs : List Rk} (h : okF ops rs = true) : OkD ops rs := by
  unfold okF at h
  rw [Bool.and_eq_true] at h
  obtain ⟨h, ha⟩ := h
  unfold OkD compatB
  rw [Bool.and_eq_true]
  refine ⟨List.all_eq_true.2 fun i hi => List.all_eq_true.2 fun k hk => ?_, ha⟩
  have h1 := List.all_eq_true.1 (List.all_eq_true.1 h i hi) k hk
  rw [Bool.or_eq_true] at h1 ⊢
  refine h1.imp id fun h1 => ?_
  have hdep : ∀ i k, i ∈ List.range ops.size → hasDep (depGo ops.toList []) i k = true → depB ops ops.size i k = true := fun i k hi hb =>
    dep_more (i + 1) _ i k (by have := List.mem_range.1 hi; omega) (depGo_ok ops.toList [] (by simp) (fun i k hb => by simp at hb) i k hb)
  unfold pairF at h1
  unfold pairB
  split
  · rename_i hc
    rw [if_pos hc] at h1
    split
    · rename_i hki; rw [if_pos hki] at h1; exact hdep i k hi h1
    · rename_i hki; rw [if_neg hki] at h1; exact hdep k i hk h1
  · rename_i hc
    rw [if_neg hc] at h1
    split
    · rename_i hc2
      rw [if_pos hc2] at h1
      rw [Bool.or_eq_true] at h1 ⊢
      refine h1.imp (fun h1 => ?_) id
      split
      · rename_i hki; rw [if_pos hki] at h1; exact hdep i k hi h1
      · rename_i hki; rw [if_neg hki] at h1; exact hdep k i hk h1
    · rfl
def lawV := And.intro (And.intro (And.intro (And.intro (And.intro (@nob_undef) (And.intro (@Option.getD_some.{0}) (@Option.getD_none.{0}))) (And.intro (@List.getElem?_cons_zero.{0}) (And.intro (@List.getElem?_cons_succ.{0}) (@List.length_cons.{0})))) (And.intro (And.intro (@List.length_nil.{0}) (And.intro (@List.cons_append.{0}) (@List.nil_append.{0}))) (And.intro (@List.append_nil.{0}) (And.intro (@List.map_cons.{0, 0}) (@List.map_nil.{0, 0}))))) (And.intro (And.intro (And.intro (@List.take_succ_cons.{0}) (And.intro (@List.take_zero.{0}) (@List.drop_succ_cons.{0}))) (And.intro (@List.drop_zero.{0}) (And.intro (@List.set_cons_zero.{0}) (@List.set_cons_succ.{0})))) (And.intro (And.intro (@List.all_cons.{0}) (And.intro (@List.all_nil.{0}) (@List.mapIdx_cons.{0, 0}))) (And.intro (And.intro (@List.mapIdx_nil.{0, 0}) (@List.getD_cons_zero.{0})) (And.intro (@List.getD_cons_succ.{0}) (@Option.map_some.{0, 0})))))) (And.intro (And.intro (And.intro (And.intro (@Option.map_none.{0, 0}) (And.intro (@Option.some.injEq.{0}) (@Nat.zero_add))) (And.intro (@Nat.add_zero) (And.intro (@decide_true) (@decide_false)))) (And.intro (And.intro (@Bool.and_true) (And.intro (@Bool.true_and) (@Bool.and_false))) (And.intro (And.intro (@Bool.false_and) (@true_and)) (And.intro (@and_true) (@false_and))))) (And.intro (And.intro (And.intro (@and_false) (And.intro (@if_true.{1}) (@if_false.{1}))) (And.intro (@List.toList_toArray.{0}) (And.intro (@Bool.not_true) (@Bool.not_false)))) (And.intro (And.intro (@Bool.false_eq_true) (And.intro (@false_implies) (@Int.toNat_natCast))) (And.intro (And.intro (@Wf.toNat_succ) (@Wf.toNat_add2)) (And.intro (@Wf.toNat_add3) (@List.take_length.{0}))))))
def lawG := And.intro (And.intro (And.intro (And.intro (And.intro (And.intro (And.intro (And.intro (@vcS.eq_1) (@vcS.eq_2)) (And.intro (@vcS.eq_3) (@vcS.eq_4))) (And.intro (And.intro (@vcS.eq_5) (@vcS.eq_6)) (And.intro (@vcS.eq_7) (And.intro (@vcS.eq_8) (@vcS.eq_9))))) (And.intro (And.intro (And.intro (@vcS.eq_10) (@vcS.eq_11)) (And.intro (@vcS.eq_12) (And.intro (@vcS.eq_13) (@vcS.eq_14)))) (And.intro (And.intro (@vcS.eq_15) (@vcS.eq_16)) (And.intro (@vcS.eq_17) (And.intro (@vcS.eq_18) (@vcS.eq_19)))))) (And.intro (And.intro (And.intro (And.intro (@vcS.eq_20) (@vcS.eq_21)) (And.intro (@XQ.eq_1) (And.intro (@XG.eq_1) (@gvU.eq_1)))) (And.intro (And.intro (@gvU.eq_2) (@setR.eq_1)) (And.intro (@setR.eq_2) (And.intro (@setR.eq_3) (@orN.eq_1))))) (And.intro (And.intro (And.intro (@orN.eq_2) (@Yl.eq_1)) (And.intro (@Yl.eq_2) (And.intro (@Yl.eq_3) (@Yl.eq_4)))) (And.intro (And.intro (@Yl.eq_5) (@Yl.eq_6)) (And.intro (@Yl.eq_7) (And.intro (@Yl.eq_8) (@Yl.eq_9))))))) (And.intro (And.intro (And.intro (And.intro (And.intro (@Xm.eq_1) (@Xm.eq_2)) (And.intro (@Xm.eq_3) (And.intro (@Yn.eq_1) (@Yi.eq_1)))) (And.intro (And.intro (@Yi.eq_2) (@Xa.eq_1)) (And.intro (@Ym.eq_1) (And.intro (@Ym.eq_2) (@Xc.eq_1))))) (And.intro (And.intro (And.intro (@Xc.sizeIs.eq_1) (@Xc.sizeIs.eq_2)) (And.intro (@reS.eq_1) (And.intro (@reS.eq_2) (@Xj.eq_1)))) (And.intro (And.intro (@Yb.eq_1) (@mmS.eq_1)) (And.intro (@mmS.eq_2) (And.intro (@Xq.eq_1) (@Xq.eq_2)))))) (And.intro (And.intro (And.intro (And.intro (@dstS.eq_1) (@dstS.eq_2)) (And.intro (@dstS.eq_3) (And.intro (@srcS.eq_1) (@srcS.eq_2)))) (And.intro (And.intro (@srcS.eq_3) (@srcS.eq_4)) (And.intro (@XP.eq_1) (And.intro (@XP.eq_2) (@XP.eq_3))))) (And.intro (And.intro (And.intro (@XN.eq_1) (@XN.eq_2)) (And.intro (@XO.eq_1) (And.intro (@XO.eq_2) (@Yc.eq_1)))) (And.intro (And.intro (@Yc.eq_2) (@Yc.eq_3)) (And.intro (@XA.eq_1) (And.intro (@XA.eq_2) (@XA.eq_3)))))))) (And.intro (And.intro (And.intro (And.intro (And.intro (And.intro (@Yg.eq_1) (@Yg.eq_2)) (And.intro (@Yg.eq_3) (@Yg.eq_4))) (And.intro (And.intro (@Xy.eq_1) (@Xy.eq_2)) (And.intro (@Xy.eq_3) (And.intro (@XE.eq_1) (@XE.eq_2))))) (And.intro (And.intro (And.intro (@XE.eq_3) (@endV.eq_1)) (And.intro (@endV.eq_2) (And.intro (@gdst.eq_1) (@gdst.eq_2)))) (And.intro (And.intro (@gdst.eq_3) (@Yk.eq_1)) (And.intro (@Yk.eq_2) (And.intro (@XR.eq_1) (@Yd.eq_1)))))) (And.intro (And.intro (And.intro (And.intro (@Yd.eq_2) (@Yd.eq_3)) (And.intro (@Yd.eq_4) (And.intro (@Yd.eq_5) (@Yd.eq_6)))) (And.intro (And.intro (@Yd.eq_7) (@Yd.eq_8)) (And.intro (@goR.eq_1) (And.intro (@goR.eq_2) (@XC.eq_1))))) (And.intro (And.intro (And.intro (@sBox.eq_1) (@XU.eq_1)) (And.intro (@XH.eq_1) (And.intro (@Xr.eq_1) (@sNil.eq_1)))) (And.intro (And.intro (@XL.eq_1) (@Xt.eq_1)) (And.intro (@Xt.eq_2) (And.intro (@XV.eq_1) (@Xv.eq_1))))))) (And.intro (And.intro (And.intro (And.intro (And.intro (@Xv.eq_2) (@Xv.eq_3)) (And.intro (@Xv.eq_4) (And.intro (@Xv.eq_5) (@Xv.eq_6)))) (And.intro (And.intro (@Xv.eq_7) (@Xv.eq_8)) (And.intro (@goD.eq_1) (And.intro (@goD.eq_2) (@valD.eq_1))))) (And.intro (And.intro (And.intro (@XI.eq_1) (@XF.eq_1)) (And.intro (@XB.eq_1) (And.intro (@dNil.eq_1) (@XK.eq_1)))) (And.intro (And.intro (@XD.eq_1) (@dBox.eq_1)) (And.intro (@dN.eq_1) (And.intro (@dN.eq_2) (@Xz.eq_1)))))) (And.intro (And.intro (And.intro (And.intro (@Xz.eq_2) (@Xz.eq_3)) (And.intro (@Xz.eq_4) (And.intro (@Xz.eq_5) (@Xz.eq_6)))) (And.intro (And.intro (@opL.eq_1) (@opL.eq_2)) (And.intro (@opL.eq_3) (And.intro (@opL.eq_4) (@opL.eq_5))))) (And.intro (And.intro (And.intro (@opL.eq_6) (@opL.eq_7)) (And.intro (@idxs.eq_1) (And.intro (@idxs.eq_2) (@idxs.eq_3)))) (And.intro (And.intro (@pv.eq_1) (@pv.eq_2)) (And.intro (@pv.eq_3) (And.intro (@pv.eq_4) (@pv.eq_5))))))))) (And.intro (And.intro (And.intro (And.intro (And.intro (And.intro (And.intro (@pv.eq_6) (@pv.eq_7)) (And.intro (@pv.eq_8) (@pv.eq_9))) (And.intro (And.intro (@pv.eq_10) (@pv.eq_11)) (And.intro (@pv.eq_12) (And.intro (@pv.eq_13) (@pv.eq_14))))) (And.intro (And.intro (And.intro (@pv.eq_15) (@pv.eq_16)) (And.intro (@XX.eq_1) (And.intro (@Ya.eq_1) (@XJ.eq_1)))) (And.intro (And.intro (@XJ.eq_2) (@XJ.eq_3)) (And.intro (@XJ.eq_4) (And.intro (@Xb.eq_1) (@Xu.eq_1)))))) (And.intro (And.intro (And.intro (And.intro (@oBin.eq_1) (@oUn.eq_1)) (And.intro (@oUn.eq_2) (And.intro (@Ye.eq_1) (@XW.eq_1)))) (And.intro (And.intro (@XW.eq_2) (@XW.eq_3)) (And.intro (@Xw.eq_1) (And.intro (@Xx.eq_1) (@Xh.eq_1))))) (And.intro (And.intro (And.intro (@Xk.eq_1) (@XY.eq_1)) (And.intro (@XY.eq_2) (And.intro (@XS.eq_1) (@oLen.eq_1)))) (And.intro (And.intro (@oLen.eq_2) (@oLen.eq_3)) (And.intro (@lenS.eq_1) (And.intro (@lenS.eq_2) (@lenS.eq_3))))))) (And.intro (And.intro (And.intro (And.intro (And.intro (@lenS.eq_4) (@Yh.eq_1)) (And.intro (@Yh.eq_2) (And.intro (@Yh.eq_3) (@Yh.eq_4)))) (And.intro (And.intro (@ev.eq_1) (@ev.eq_2)) (And.intro (@ev.eq_3) (And.intro (@ev.eq_4) (@lk.eq_1))))) (And.intro (And.intro (And.intro (@lk.eq_2) (@put.eq_1)) (And.intro (@put.eq_2) (And.intro (@fits.eq_1) (@fits.eq_2)))) (And.intro (And.intro (@kd.eq_1) (@sz.eq_1)) (And.intro (@bin.eq_1) (And.intro (@bin.eq_2) (@bin.eq_3)))))) (And.intro (And.intro (And.intro (And.intro (@binI.eq_1) (@binI.eq_2)) (And.intro (@binI.eq_3) (And.intro (@binI.eq_4) (@binI.eq_5)))) (And.intro (And.intro (@binI.eq_6) (@binI.eq_7)) (And.intro (@binI.eq_8) (And.intro (@binI.eq_9) (@binI.eq_10))))) (And.intro (And.intro (And.intro (@binI.eq_11) (@binI.eq_12)) (And.intro (@binI.eq_13) (And.intro (@binI.eq_14) (@binI.eq_15)))) (And.intro (And.intro (@binI.eq_16) (@binI.eq_17)) (And.intro (@binS.eq_1) (And.intro (@binS.eq_2) (@binS.eq_3)))))))) (And.intro (And.intro (And.intro (And.intro (And.intro (And.intro (@binS.eq_4) (@binS.eq_5)) (And.intro (@binS.eq_6) (@binS.eq_7))) (And.intro (And.intro (@binS.eq_8) (@ifK.eq_1)) (And.intro (@ar.eq_1) (And.intro (@ar.eq_2) (@eqB.eq_1))))) (And.intro (And.intro (And.intro (@eqB.eq_2) (@eqB.eq_3)) (And.intro (@eqB.eq_4) (And.intro (@eqB.eq_5) (@eqB.eq_6)))) (And.intro (And.intro (@eqB.eq_7) (@eqB.eq_8)) (And.intro (@eqS.eq_1) (And.intro (@eqS.eq_2) (@eqK.eq_1)))))) (And.intro (And.intro (And.intro (And.intro (@eqK.eq_2) (@eqK.eq_3)) (And.intro (@eqK.eq_4) (And.intro (@eqK.eq_5) (@eqK.eqF.eq_1)))) (And.intro (And.intro (@eqK.eqF.eq_2) (@negB.eq_1)) (And.intro (@negB.eq_2) (And.intro (@negB.eq_3) (@bnds.eq_1))))) (And.intro (And.intro (And.intro (@bnds.eq_2) (@bnds.eq_3)) (And.intro (@bnds.eq_4) (And.intro (@bnds.eq_5) (@optE.eq_1)))) (And.intro (And.intro (@optE.eq_2) (@XM.eq_1)) (And.intro (@cells.eq_1) (And.intro (@cells.eq_2) (@isV.eq_1))))))) (And.intro (And.intro (And.intro (And.intro (And.intro (@isV.eq_2) (@one.eq_1)) (And.intro (@one.eq_2) (And.intro (@one.eq_3) (@one.eq_4)))) (And.intro (And.intro (@Xs.eq_1) (@getB.eq_1)) (And.intro (@setB.eq_1) (And.intro (@XZ.eq_1) (@XZ.eq_2))))) (And.intro (And.intro (And.intro (@Yf.eq_1) (@Yf.eq_2)) (And.intro (@Xl.eq_1) (And.intro (@Xl.eq_2) (@XT.eq_1)))) (And.intro (And.intro (@XT.eq_2) (@resS.eq_1)) (And.intro (@resS.eq_2) (And.intro (@tupS.eq_1) (@tupS.eq_2)))))) (And.intro (And.intro (And.intro (And.intro (@ofV.eq_1) (@ofV.eq_2)) (And.intro (@ofV.eq_3) (And.intro (@ofV.eq_4) (@ofV.eq_5)))) (And.intro (And.intro (@ofV.eq_6) (@Yj.eq_1)) (And.intro (@Yj.eq_2) (And.intro (@contF.eq_1) (@contF.eq_2))))) (And.intro (And.intro (And.intro (@contG.eq_1) (@contG.eq_2)) (And.intro (@contH.eq_1) (And.intro (@contH.eq_2) (@flOf.eq_1)))) (And.intro (And.intro (@flOf.eq_2) (@allocT.eq_1)) (And.intro (@allocT.eq_2) (And.intro (@nameF.eq_1) (@nameF.eq_2)))))))))
end Vc
/- The frame of the statements: from the law's contract to the given row. -/
set_option linter.all false
namespace Go.Proofs.YtcndmooeglfilaaGreatDoor
open Go Vc Go.RowKit Wf
open Go.ChangeShapes Go.WideShapes Go.ChangeAt
open Go.WideMaps Go.WideElems
open Go.ChangeMaps (setBlock shut_map_nil open_string shut_string keptBut_setBlock frozen?_setBlock heap_setBlock_same)
theorem env_of {W : World} (h : W.ShapedOpen Tryz.prog) : Env W :=
  Go.Proofs.cell_of_shapedOpen_int (zero := #[.int .i64 0]) (t := 3) h (of_decide_eq_true (by kernel_rfl)) (by kernel_rfl) rfl (by kernel_rfl) (by kernel_rfl) Tryz.underlying3
theorem own : ownKnob Tryz.prog.godebug = none := by kernel_rfl
theorem laidOut : laidOutB Tryz.prog = true := by kernel_rfl
section
variable {H : Type} {enc : TypeId × Value → H} {W W' : World}
theorem trodAll_stays {P : Program} (hl : laidOutB P = true) {B : Nat} : ∀ {ts : List TypeId} {vs : List Value} {ds : List (DataW H)} {ps : List MemPlace}, ts.all (fun t => P.readableRec t && decide (t < P.types.size)) = true →
    DataW.TrodAll enc P W 0 (fun _ => true) true ts vs ds ps → (∀ p ∈ ps, W.sameAt W' p) → (∀ p ∈ ps, p.block < B) → DataW.TrodAll enc P W' 0 (fun b => decide (b < B)) true ts vs ds ps
  | [], [], [], ps, _, h, _, _ => h
  | t :: ts, v :: vs, d :: ds, ps, hr, h, hs, hb => by
    obtain ⟨p, q, h1, h2, rfl⟩ := h
    simp only [List.all_cons, Bool.and_eq_true, decide_eq_true_eq] at hr
    exact ⟨p, q, Trod_stays hl hr.1.1 hr.1.2 h1 (fun x hx => hs x (List.mem_append_left _ hx)) (fun x hx => by simpa using hb x (List.mem_append_left _ hx)), trodAll_stays hl hr.2 h2 (fun x hx => hs x (List.mem_append_right _ hx)) (fun x hx => hb x (List.mem_append_right _ hx)), rfl⟩
  | [], _ :: _, _, _, _, h, _, _ => by cases h
  | [], [], _ :: _, _, _, h, _, _ => by cases h
  | _ :: _, [], _, _, _, h, _, _ => by cases h
  | _ :: _, _ :: _, [], _, _, h, _, _ => by cases h
theorem law_post {P : Program} {fn : Func} {s : ChangeSpec} {args : Array Value} {ds gs : List (DataW H)} {before : List MemPlace} {tb : TypeId} (hl : laidOutB P = true)
    (hpar : fn.params.toList.all (fun t => P.readableRec t && decide (t < P.types.size)) = true) (hv : s.vars = []) (hr : fn.resultTypes = #[tb]) (htb : P.underlying tb = some .bool)
    (hgs : gs = []) (hres : (s.fn H ds).results = [.lit (.bool true)]) (hargs : (s.fn H ds).args = ds) (hvs : (s.fn H ds).vars = [])
    (hW : DataW.Whole enc P fn.params.toList s.vars false W args.toList ds gs before) (bel : Below W.heap.size W W') : s.post enc P fn false true false false W args (.bool true) W' := by
  have hlt := hW.lt
  have hW' := hW
  obtain ⟨p, q, hA, hV, hb, -, -⟩ := hW
  subst hgs
  rw [hv] at hV
  obtain ⟨-, rfl⟩ := trodVars_none hV
  subst hb
  refine ⟨ds, [], _, [], p, [], hW', ?_, ?_, ?_, bel.frame _, fun h => by cases h⟩
  · rw [List.append_nil, hres, hr]
    exact trodAll_mk1 (shut_bool htb _)
  · rw [List.append_nil, hargs]
    exact trodAll_stays hl hpar hA (fun x hx => bel.same (hlt x (List.mem_append_left _ hx))) (fun x hx => hlt x (List.mem_append_left _ hx))
  · rw [List.append_nil, hvs, hv]
    rfl
end
end Go.Proofs.YtcndmooeglfilaaGreatDoor
/- The frame of the cards: a world with Go's tables. -/
set_option linter.all false
namespace Go.Proofs.YtcndmooeglfilaaGreatDoor
def flatD : Nat → DataW Unit → List Value
  | _, .lit (.int k i) => [.int k i]
  | n + 1, .agg ps => ps.flatMap (flatD n)
  | _, _ => []
def setCells (d : DataW Unit) : Obj → Obj
  | .cells _ t fr => .cells (flatD 8 d).toArray t fr
  | o => o
noncomputable def laidWorld (os : Os) : World :=
  { World.holding Tryz.prog os ⟨#[], #[], []⟩ with heap := ((World.holding Tryz.prog os ⟨#[], #[], []⟩).heap.modify 1 (setCells Go.Pinned.utf8First)).modify 2 (setCells Rows.laid_unicode_utf8_acceptRanges) }
set_option maxRecDepth 100000 in
theorem laid_met (os : Os) (args : Array Value) : laidMet Tryz.prog [("unicode/utf8.acceptRanges", Rows.laid_unicode_utf8_acceptRanges), ("unicode/utf8.first", Rows.laid_unicode_utf8_first)] ((laidWorld os).forCall (fun _ _ => 0) ⟨#[], args, []⟩).memory :=
  laidMet_of_run3 8 (by kernel_rfl) (by kernel_rfl) (by kernel_rfl)
open Go in
theorem pf_looks : false = Tryz.pinned.checked.prog.looks [] := by kernel_rfl
end Go.Proofs.YtcndmooeglfilaaGreatDoor
/- Facts about the whole program that every row asks for. -/
set_option linter.all false
namespace Go.Proofs.YtcndmooeglfilaaGreatDoor
open Go Go.RowKit
set_option maxRecDepth 100000
theorem pf_maps : mapsRowed Tryz.pinned.checked.prog = true := by kernel_rfl
theorem pf_stops : (Tryz.pinned.checked.prog.stops == []) = true := by kernel_rfl
theorem pf_knobs : (Tryz.pinned.checked.prog.stopKnobs == []) = true := by kernel_rfl
theorem pf_keys : (Rows.didwebHostsRow.plainKeys == Tryz.pinned.checked.prog.plainKeys) = true := by kernel_rfl
theorem pf_heard : Tryz.pinned.checked.prog.stopsHeard = true := by kernel_rfl
theorem pf_may : Tryz.pinned.checked.prog.mayEnter = true := by kernel_rfl
theorem pf_lifts : (Rows.didwebHostsRow.lifted == Tryz.pinned.checked.prog.liftsFinal) = true := by kernel_rfl
theorem pf_make : (Tryz.pinned.checked.prog.make == some Rows.didwebHostsRow.make) = true := by kernel_rfl
theorem and4 {a b c d : Bool} (h : (a && b && c && d) = true) : (a = true ∧ b = true) ∧ c = true ∧ d = true := by
  simp only [Bool.and_eq_true] at h
  exact ⟨⟨h.1.1.1, h.1.1.2⟩, h.1.2, h.2⟩
end Go.Proofs.YtcndmooeglfilaaGreatDoor
/- Plain laws: hosts, URIs, canonical strings, URLs. -/
set_option linter.all false
namespace Wf
open Go Go.RowKit
theorem lowerC_all (c : UInt8) : lowerC (lowerC c) = lowerC c ∧ ldh (lowerC c) = ldh c ∧ isDigit (lowerC c) = isDigit c ∧ (lowerC c == 45) = (c == 45) ∧ (lowerC c == 46) = (c == 46) ∧ (lowerC c == 58) = (c == 58) ∧ (isDigit c = true → lowerC c = c) := by
  have h := all256 (p := fun c => decide (lowerC (lowerC c) = lowerC c ∧ ldh (lowerC c) = ldh c ∧ isDigit (lowerC c) = isDigit c ∧ (lowerC c == 45) = (c == 45) ∧ (lowerC c == 46) = (c == 46) ∧ (lowerC c == 58) = (c == 58) ∧ (isDigit c = true → lowerC c = c))) (by decide +kernel) c
  exact of_decide_eq_true h
theorem lower_lower (s : Bytes) : lower (lower s) = lower s := by
  unfold lower; rw [List.map_map]; apply List.map_congr_left; intro c _; exact (lowerC_all c).1
theorem lower_length (s : Bytes) : (lower s).length = s.length := by unfold lower; simp
theorem lower_isEmpty (s : Bytes) : (lower s).isEmpty = s.isEmpty := by unfold lower; cases s <;> rfl
theorem lower_all {p : UInt8 → Bool} (hp : ∀ c, p (lowerC c) = p c) (s : Bytes) : (lower s).all p = s.all p := by
  unfold lower; rw [List.all_map]; congr 1; funext c; exact hp c
theorem lower_digits {s : Bytes} (h : s.all isDigit = true) : lower s = s := by
  unfold lower
  rw [List.all_eq_true] at h
  conv => rhs; rw [← List.map_id s]
  apply List.map_congr_left; intro c hc; exact (lowerC_all c).2.2.2.2.2.2 (h c hc)
theorem labelOk_lower (s : Bytes) : labelOk (lower s) = labelOk s := by
  unfold labelOk
  rw [lower_isEmpty, lower_length, lower_all (fun c => (lowerC_all c).2.1)]
  have h1 : ((lower s).head? == some 45) = (s.head? == some 45) := by
    unfold lower; rw [List.head?_map]; cases s.head? with
    | none => rfl
    | some c => simpa using (lowerC_all c).2.2.2.1
  have h2 : ((lower s).getLast? == some 45) = (s.getLast? == some 45) := by
    unfold lower; rw [List.getLast?_map]; cases s.getLast? with
    | none => rfl
    | some c => simpa using (lowerC_all c).2.2.2.1
  rw [h1, h2]
theorem digitsOk_lower (s : Bytes) : digitsOk (lower s) = digitsOk s := by
  unfold digitsOk; rw [lower_isEmpty, lower_all (fun c => (lowerC_all c).2.2.1)]
theorem splitC_lower (s : Bytes) : splitC 46 (lower s) = (splitC 46 s).map lower := by
  induction s with
  | nil => rfl
  | cons x r ih =>
    have hx := (lowerC_all x).2.2.2.2.1
    rw [show lower (x :: r) = lowerC x :: lower r from rfl, splitC, splitC, hx, ih]
    cases x == 46
    · simp only [Bool.false_eq_true, if_false]
      cases splitC 46 r <;> rfl
    · rfl
theorem numStrict_lower (m : Nat) (s : Bytes) : numStrict m (lower s) = numStrict m s := by
  cases h : s.all isDigit
  · have hd : digitsOk s = false := by unfold digitsOk; simp [h]
    have hl : (lower s).all isDigit = false := by rw [lower_all (fun c => (lowerC_all c).2.2.1), h]
    unfold numStrict numParse
    rw [digitsOk_lower, hd, hl, h, lower_isEmpty]
    simp
  · rw [lower_digits h]
theorem octetOk_lower (s : Bytes) : octetOk (lower s) = octetOk s := by unfold octetOk; rw [numStrict_lower]
theorem ipv4_lower (s : Bytes) : ipv4 (lower s) = ipv4 s := by
  unfold ipv4
  rw [splitC_lower, List.length_map, List.all_map]
  congr 2; funext x; exact octetOk_lower x
theorem nameL_lower (l : List Bytes) : nameL (l.map lower) = nameL l := by
  induction l with
  | nil => rfl
  | cons x r ih =>
    cases r with
    | nil => simp only [List.map, nameL, labelOk_lower, digitsOk_lower]
    | cons y r => simp only [List.map_cons, nameL, labelOk_lower] at ih ⊢; rw [ih]
theorem nameOk_lower (s : Bytes) : nameOk (lower s) = nameOk s := by unfold nameOk; rw [splitC_lower, nameL_lower]
theorem hostM_ok {s x : Bytes} (h : hostM s = (x, 0)) : x = lower s ∧ x.length ≤ 253 ∧ hostM x = (x, 0) := by
  unfold hostM at h
  cases h1 : s.isEmpty
  · rw [h1] at h
    by_cases h2 : 253 < s.length
    · simp [h2] at h
    · cases h3 : (!ipv4 s && !nameOk s)
      · simp [h2, h3] at h
        subst h
        refine ⟨rfl, by rw [lower_length]; omega, ?_⟩
        unfold hostM
        rw [lower_isEmpty, lower_length, ipv4_lower, nameOk_lower, h1, h3, lower_lower]
        simp [h2]
      · simp [h2, h3] at h
  · rw [h1] at h; simp at h
theorem pre_lower (s : Bytes) : pre (· == 58) (lower s) = pre (· == 58) s := by
  induction s with
  | nil => rfl
  | cons x r ih =>
    rw [show lower (x :: r) = lowerC x :: lower r from rfl, pre_cons, pre_cons, ih, (lowerC_all x).2.2.2.2.2.1]
theorem pre_take (p : UInt8 → Bool) (s : Bytes) : pre p (s.take (pre p s)) = (s.take (pre p s)).length := by
  induction s with
  | nil => rfl
  | cons x r ih =>
    rw [pre_cons]
    cases hx : p x
    · simp [pre_cons, hx]
      have := ih; simp at this; omega
    · rfl
theorem cutC_fst (c : UInt8) (s : Bytes) : pre (· == c) (cutC c s).1 = (cutC c s).1.length := by
  unfold cutC
  by_cases h : pre (· == c) s < s.length
  · rw [if_pos h]; exact pre_take _ s
  · rw [if_neg h]; have := pre_le (· == c) s; show pre (· == c) s = s.length; omega
theorem cutC_none {c : UInt8} {s : Bytes} (h : pre (· == c) s = s.length) : cutC c s = (s, [], false) := by
  unfold cutC; rw [if_neg (by omega)]
theorem pre_app {p : UInt8 → Bool} {x : Bytes} (h : pre p x = x.length) (c : UInt8) (r : Bytes) (hc : p c = true) : pre p (x ++ c :: r) = x.length := by
  induction x with
  | nil => simp [pre_cons, hc]
  | cons y x ih =>
    rw [pre_cons] at h
    cases hy : p y
    · rw [hy] at h; simp at h
      simp [pre_cons, hy, ih h]
    · rw [hy] at h; simp at h
theorem cutC_some {c : UInt8} {x : Bytes} (h : pre (· == c) x = x.length) (r : Bytes) : cutC c (x ++ c :: r) = (x, r, true) := by
  unfold cutC
  rw [pre_app h c r (by simp), if_pos (by simp)]
  simp
theorem hexVal_dig {n : Nat} (h : n < 10) : hexVal (dig n) = n ∧ isDigit (dig n) = true ∧ (dig n = 48 → n = 0) := by
  have h := (by decide +kernel : ∀ n, n < 10 → hexVal (dig n) = n ∧ isDigit (dig n) = true ∧ (dig n = 48 → n = 0)) n h
  exact h
theorem numGo_app {b m : Nat} (r : Bytes) : ∀ (l : Bytes) {a v : Nat}, numGo b m a l = (v, 0) → numGo b m a (l ++ r) = numGo b m v r := by
  intro l
  induction l with
  | nil => intro a v h; simp [numGo] at h; rw [h]; rfl
  | cons c l ih =>
    intro a v h
    rw [numGo] at h
    rw [List.cons_append, numGo]
    by_cases hm : m < a * b + hexVal c
    · rw [if_pos hm] at h; simp at h
    · rw [if_neg hm] at h
      rw [if_neg hm]
      exact ih h
theorem decS_back (m : Nat) : ∀ (k n : Nat), n ≤ k → n ≤ m → numGo 10 m 0 (decS n) = (n, 0) ∧ (decS n).all isDigit = true ∧ (0 < n → (decS n).head? ≠ some 48) := by
  intro k
  induction k with
  | zero =>
    intro n h _
    obtain rfl : n = 0 := by omega
    rw [decS_small (by omega)]
    exact ⟨by simp [numGo, dig, hexVal], by decide, fun h => by omega⟩
  | succ k ih =>
    intro n h hm
    by_cases hn : n < 10
    · rw [decS_small hn]
      obtain ⟨h1, h2, h3⟩ := hexVal_dig hn
      refine ⟨?_, by simp [h2], ?_⟩
      · rw [numGo, h1, if_neg (by omega), numGo]; simp
      · intro h0 he; simp at he; exact absurd (h3 he) (by omega)
    · rw [decS_big hn]
      obtain ⟨h1, h2, h3⟩ := ih (n / 10) (by omega) (by omega)
      obtain ⟨g1, g2, g3⟩ := hexVal_dig (show n % 10 < 10 by omega)
      refine ⟨?_, by rw [List.all_append, h2]; simp [g2], ?_⟩
      · rw [numGo_app _ _ h1, numGo, g1, if_neg (by omega), numGo]
        congr 1; omega
      · intro _
        have := decS_pos (n / 10)
        rw [List.head?_append]
        have h3 := h3 (by omega)
        cases hd : (decS (n / 10)).head? with
        | none => rw [List.head?_eq_none_iff] at hd; rw [hd] at this; simp at this
        | some c => rw [hd] at h3; simpa using h3
theorem portM_dec {n : Nat} (h0 : 0 < n) (h : n ≤ 65535) : portM (decS n) = ((n : Int), 0) := by
  obtain ⟨h1, h2, h3⟩ := decS_back 65535 n n (by omega) h
  have hp := decS_pos n
  have hne : (decS n).isEmpty = false := by cases hd : decS n <;> simp [hd] at hp ⊢
  have hs : numStrict 65535 (decS n) = (n, 0) := by
    unfold numStrict numParse
    rw [if_neg (fun hh => h3 h0 hh.2.2), hne, h2, h1]
    rfl
  unfold portM
  rw [hs]
  have : ¬ n = 0 := by omega
  simp [this]
theorem portM_ok {s : Bytes} {p : Int} (h : portM s = (p, 0)) : 0 < p ∧ p ≤ 65535 := by
  have hle := numStrict_le 65535 s
  unfold portM at h
  split at h
  · simp at h
  · rename_i hc
    simp at h
    subst h
    omega
theorem hostPort_back {s x : Bytes} {p : Int} (h : hostPort s = ((x, p), 0)) : hostPort (hostText x p) = ((x, p), 0) ∧ hostM x = (x, 0) ∧ p ≠ 443 ∧ x.length ≤ 253 ∧ 0 ≤ p ∧ p ≤ 65535 := by
  have hf := cutC_fst 58 s
  unfold hostPort at h
  generalize cutC 58 s = C at hf h
  obtain ⟨first, rest, colon⟩ := C
  simp only at hf h
  generalize hH : hostM first = H at h
  obtain ⟨y, e⟩ := H
  by_cases he : e = 0
  · subst he
    obtain ⟨hy, hlen, hback⟩ := hostM_ok hH
    have hpy : pre (· == 58) y = y.length := by rw [hy, pre_lower, lower_length]; exact hf
    have plain : hostPort (hostText y 0) = ((y, 0), 0) := by
      unfold hostText hostPort
      rw [if_pos rfl, cutC_none hpy, hback]; rfl
    cases colon
    · unfold hostPortOf at h
      simp at h
      obtain ⟨rfl, rfl⟩ := h
      exact ⟨plain, hback, by omega, hlen, by omega, by omega⟩
    · generalize hP : portM rest = P at h
      obtain ⟨q, f⟩ := P
      unfold hostPortOf at h
      by_cases hf0 : f = 0
      · subst hf0
        simp at h
        obtain ⟨rfl, h⟩ := h
        obtain ⟨q0, q1⟩ := portM_ok hP
        by_cases h443 : q = 443
        · rw [if_pos h443] at h
          subst h
          exact ⟨plain, hback, by omega, hlen, by omega, by omega⟩
        · rw [if_neg h443] at h
          subst h
          refine ⟨?_, hback, h443, hlen, by omega, q1⟩
          obtain ⟨n, rfl⟩ : ∃ n : Nat, q = n := ⟨q.toNat, by omega⟩
          unfold hostText hostPort
          rw [if_neg (by omega), if_neg (by omega)]
          have e : y ++ [58] ++ decS (n : Int).natAbs = y ++ 58 :: decS n := by simp
          rw [e, cutC_some hpy]
          simp only [hback, portM_dec (show 0 < n by omega) (show n ≤ 65535 by omega)]
          unfold hostPortOf
          simp [h443]
      · simp [hf0] at h
  · unfold hostPortOf at h
    simp [he] at h
def lab (n : Nat) : Bytes := List.replicate n 97
def labs (n : Nat) : Nat → Bytes
  | 0 => lab n
  | k + 1 => labs n k ++ [46] ++ lab n
end Wf
namespace Wf
open Go Go.RowKit
theorem uncut (c : UInt8) (s : Bytes) : s = (cutC c s).1 ++ (if (cutC c s).2.2 then [c] ++ (cutC c s).2.1 else []) := by
  unfold cutC
  split
  · rename_i h
    have h2 := pre_at (p := (· == c)) h
    simp only [if_true]
    have : s.drop (pre (· == c) s) = c :: s.drop (pre (· == c) s + 1) := by
      rw [List.drop_eq_getElem_cons h]
      simp only [beq_iff_eq] at h2
      rw [h2]
    rw [List.singleton_append, ← this, List.take_append_drop]
  · simp
theorem uncut_no (c : UInt8) (s : Bytes) (h : (cutC c s).2.2 = false) : (cutC c s).2.1 = [] := by
  unfold cutC at h ⊢
  split
  · rename_i h2; rw [if_pos h2] at h; simp at h
  · rfl
/-! paths that begin with a slash -/
def absP (l : List Bytes) : Bytes := l.flatMap (47 :: ·)
def goodSeg (s : Bytes) : Prop := (47 : UInt8) ∉ s ∧ s ≠ [46] ∧ s ≠ [46, 46]
theorem absP_cons (x : Bytes) (l : List Bytes) : absP (x :: l) = 47 :: (x ++ absP l) := rfl
theorem absP_app (l : List Bytes) (x : Bytes) : absP (l ++ [x]) = absP l ++ 47 :: x := by
  unfold absP; simp
theorem absP_head (l : List Bytes) : absP l = [] ∨ ∃ r, absP l = 47 :: r := by
  cases l with
  | nil => exact .inl rfl
  | cons x l => exact .inr ⟨_, rfl⟩
theorem pre_noslash {x : Bytes} (h : (47 : UInt8) ∉ x) (l : List Bytes) : pre (· == 47) (x ++ absP l) = x.length := by
  induction x with
  | nil =>
    rcases absP_head l with e | ⟨r, e⟩
    · simp [e, pre_nil]
    · simp [e, pre_cons]
  | cons c x ih =>
    simp only [List.mem_cons, not_or] at h
    rw [List.cons_append, pre_cons, if_neg (by simp; exact fun e => h.1 e.symm), ih h.2]
    rfl
theorem shorten_abs (l : List Bytes) (x : Bytes) (h : (47 : UInt8) ∉ x) : shorten (absP (l ++ [x])) = absP l := by
  rw [absP_app]
  unfold shorten
  rw [List.reverse_append, List.reverse_cons, List.append_assoc]
  have : (x.reverse ++ ([47] ++ (absP l).reverse)).dropWhile (· != 47) = [47] ++ (absP l).reverse := by
    rw [List.dropWhile_append_of_pos]
    · simp
    · intro c hc
      simp only [List.mem_reverse] at hc
      simp
      rintro rfl
      exact h hc
  rw [this]
  simp
theorem dotsGo_abs : ∀ (f : Nat) (p : Bytes) (l : List Bytes), p.length ≤ f → (p = [] ∨ ∃ r, p = 47 :: r) → (p = [] → l ≠ []) → (∀ x ∈ l, goodSeg x) → ∃ l', dotsGo f p (absP l) = absP l' ∧ l' ≠ [] ∧ ∀ x ∈ l', goodSeg x := by
  intro f
  induction f with
  | zero =>
    intro p l hp _ hn hg
    have : p = [] := List.length_eq_zero_iff.1 (by omega)
    exact ⟨l, rfl, hn this, hg⟩
  | succ f ih =>
    intro p l hp hs hn hg
    rw [dotsGo]
    rcases hs with rfl | ⟨r, rfl⟩
    · exact ⟨l, by rw [if_pos rfl], hn rfl, hg⟩
    · rw [if_neg (by simp)]
      have hsh : ∃ l2, shorten (absP l) = absP l2 ∧ ∀ x ∈ l2, goodSeg x := by
        rcases List.eq_nil_or_concat l with rfl | ⟨l2, x, rfl⟩
        · exact ⟨[], rfl, by simp⟩
        · refine ⟨l2, ?_, fun y hy => hg y (by simp [hy])⟩
          have := hg x (by simp)
          simpa using shorten_abs l2 x this.1
      obtain ⟨l2, hl2, hg2⟩ := hsh
      unfold dotStep
      rw [if_neg (by simp [List.isPrefixOf]), if_neg (by simp [List.isPrefixOf])]
      by_cases c1 : [47, 46, 47].isPrefixOf (47 :: r)
      · rw [if_pos c1]
        obtain ⟨q, hq⟩ := List.isPrefixOf_iff_prefix.1 c1
        simp only [List.cons_append, List.nil_append, List.cons.injEq, true_and] at hq
        subst hq
        exact ih _ l (by simp at hp ⊢; omega) (.inr ⟨q, rfl⟩) (by simp) hg
      rw [if_neg c1]
      by_cases c2 : (47 :: r) = [47, 46]
      · rw [if_pos c2]
        rw [c2] at hp
        exact ih _ l (by simp at hp ⊢; omega) (.inr ⟨[], rfl⟩) (by simp) hg
      rw [if_neg c2]
      by_cases c3 : [47, 46, 46, 47].isPrefixOf (47 :: r)
      · rw [if_pos c3]
        obtain ⟨q, hq⟩ := List.isPrefixOf_iff_prefix.1 c3
        simp only [List.cons_append, List.nil_append, List.cons.injEq, true_and] at hq
        subst hq
        simp only [hl2]
        exact ih _ l2 (by simp at hp ⊢; omega) (.inr ⟨q, rfl⟩) (by simp) hg2
      rw [if_neg c3]
      by_cases c4 : (47 :: r) = [47, 46, 46]
      · rw [if_pos c4]
        rw [c4] at hp
        simp only [hl2]
        exact ih _ l2 (by simp at hp ⊢; omega) (.inr ⟨[], rfl⟩) (by simp) hg2
      rw [if_neg c4, if_neg (by simp)]
      simp only [List.drop_succ_cons, List.drop_zero]
      have hseg : goodSeg (r.take (pre (· == 47) r)) := by
        refine ⟨fun hm => ?_, fun e => ?_, fun e => ?_⟩
        · obtain ⟨k, hk, hk2⟩ := List.getElem_of_mem hm
          rw [List.length_take] at hk
          have := pre_get (p := (· == 47)) (l := r) (k := k) (by omega) (by omega)
          rw [List.getElem_take] at hk2
          simp [hk2] at this
        · have hp1 := congrArg List.length e
          simp only [List.length_take, List.length_cons, List.length_nil] at hp1
          have hr := List.take_append_drop (pre (· == 47) r) r
          rw [e] at hr
          cases hd : r.drop (pre (· == 47) r) with
          | nil => rw [hd] at hr; exact c2 (by rw [← hr]; rfl)
          | cons y t =>
            have hlt : pre (· == 47) r < r.length := by
              apply Nat.lt_of_not_le; intro h; rw [List.drop_of_length_le h] at hd; cases hd
            have := pre_at (p := (· == 47)) hlt
            rw [List.drop_eq_getElem_cons hlt] at hd
            simp only [List.cons.injEq] at hd
            rw [hd.1] at this
            simp only [beq_iff_eq] at this
            subst this
            rw [List.drop_eq_getElem_cons hlt, hd.1] at hr
            exact c1 (by rw [← hr]; simp [List.isPrefixOf])
        · have hp1 := congrArg List.length e
          simp only [List.length_take, List.length_cons, List.length_nil] at hp1
          have hr := List.take_append_drop (pre (· == 47) r) r
          rw [e] at hr
          cases hd : r.drop (pre (· == 47) r) with
          | nil => rw [hd] at hr; exact c4 (by rw [← hr]; rfl)
          | cons y t =>
            have hlt : pre (· == 47) r < r.length := by
              apply Nat.lt_of_not_le; intro h; rw [List.drop_of_length_le h] at hd; cases hd
            have := pre_at (p := (· == 47)) hlt
            rw [List.drop_eq_getElem_cons hlt] at hd
            simp only [List.cons.injEq] at hd
            rw [hd.1] at this
            simp only [beq_iff_eq] at this
            subst this
            rw [List.drop_eq_getElem_cons hlt, hd.1] at hr
            exact c3 (by rw [← hr]; simp [List.isPrefixOf])
      have e1 : (47 :: r).drop (1 + pre (· == 47) r) = r.drop (pre (· == 47) r) := by rw [Nat.add_comm]; rfl
      have e2 : (47 :: r).take (1 + pre (· == 47) r) = 47 :: r.take (pre (· == 47) r) := by rw [Nat.add_comm]; rfl
      rw [e1, e2, ← absP_app]
      refine ih _ _ (by simp at hp ⊢; omega) ?_ (by simp) (fun x hx => ?_)
      · by_cases hlt : pre (· == 47) r < r.length
        · right
          have := pre_at (p := (· == 47)) hlt
          simp only [beq_iff_eq] at this
          exact ⟨_, by rw [List.drop_eq_getElem_cons hlt, this]⟩
        · left
          exact List.drop_of_length_le (by omega)
      · simp only [List.mem_append, List.mem_singleton] at hx
        rcases hx with hx | rfl
        · exact hg x hx
        · exact hseg
theorem removeDots_abs (r : Bytes) : ∃ l, removeDots (47 :: r) = absP l ∧ l ≠ [] ∧ ∀ x ∈ l, goodSeg x :=
  dotsGo_abs _ _ [] (Nat.le_refl _) (.inr ⟨r, rfl⟩) (by simp) (by simp)
theorem dotsGo_same : ∀ (l : List Bytes) (f : Nat) (out : Bytes), (absP l).length ≤ f → (∀ x ∈ l, goodSeg x) → dotsGo f (absP l) out = out ++ absP l
  | [], f, out, _, _ => by cases f <;> simp [absP, dotsGo]
  | x :: l, f, out, hf, hg => by
    rw [absP_cons] at hf ⊢
    obtain ⟨f, rfl⟩ : ∃ k, f = k + 1 := ⟨f - 1, by simp at hf; omega⟩
    rw [dotsGo, if_neg (by simp)]
    obtain ⟨h1, h2, h3⟩ := hg x (by simp)
    have hpre := pre_noslash h1 l
    have seg : ∀ (y : Bytes), (47 : UInt8) ∉ y → y ≠ x → ¬ (47 :: (y ++ [47])).isPrefixOf (47 :: (x ++ absP l)) = true := fun y hy hne hp => by
      obtain ⟨q, hq⟩ := List.isPrefixOf_iff_prefix.1 hp
      simp only [List.cons_append, List.append_assoc, List.cons.injEq, true_and] at hq
      have hpy := pre_noslash hy [q]
      have e : y ++ absP [q] = x ++ absP l := by rw [← hq]; simp [absP]
      rw [e, hpre] at hpy
      have := List.append_inj_left e hpy.symm
      exact hne this
    have seg2 : ∀ (y : Bytes), (47 : UInt8) ∉ y → y ≠ x → (47 :: (x ++ absP l)) ≠ 47 :: y := fun y hy hne he => by
      simp only [List.cons.injEq, true_and] at he
      have hpy : pre (· == 47) y = y.length := by simpa [absP] using pre_noslash hy []
      rw [← he, hpre, List.length_append] at hpy
      have h0 : absP l = [] := List.length_eq_zero_iff.1 (by omega)
      rw [h0, List.append_nil] at he
      exact hne he.symm
    have hd : dotStep (47 :: (x ++ absP l)) out = (absP l, out ++ 47 :: x) := by
      unfold dotStep
      rw [if_neg (by simp [List.isPrefixOf]), if_neg (by simp [List.isPrefixOf]), if_neg (show ¬ ([47, 46, 47] : Bytes).isPrefixOf _ = true from seg [46] (by decide) (fun e => h2 e.symm)), if_neg (seg2 [46] (by decide) (fun e => h2 e.symm)), if_neg (show ¬ ([47, 46, 46, 47] : Bytes).isPrefixOf _ = true from seg [46, 46] (by decide) (fun e => h3 e.symm)), if_neg (seg2 [46, 46] (by decide) (fun e => h3 e.symm)), if_neg (by simp)]
      simp only [List.drop_succ_cons, List.drop_zero, hpre]
      rw [Nat.add_comm]
      simp
    rw [hd]
    rw [dotsGo_same l f _ (by simp at hf; omega) (fun y hy => hg y (by simp [hy]))]
    simp
theorem removeDots_clean (r : Bytes) : removeDots (removeDots (47 :: r)) = removeDots (47 :: r) := by
  obtain ⟨l, h1, h2, h3⟩ := removeDots_abs r
  rw [h1]
  unfold removeDots
  rw [dotsGo_same l _ _ (Nat.le_refl _) h3]
  rfl
theorem splitC_abs : ∀ (l : List Bytes), l ≠ [] → (∀ x ∈ l, (47 : UInt8) ∉ x) → splitC 47 (absP l) = [] :: l
  | [], h, _ => absurd rfl h
  | x :: l, _, hg => by
    rw [absP_cons]
    have hx := hg x (by simp)
    rw [splitC, if_pos (by simp)]
    congr 1
    have hpre := pre_noslash hx l
    cases l with
    | nil =>
      simp only [absP, List.flatMap_nil, List.append_nil] at hpre ⊢
      rw [splitC_miss (by omega)]
    | cons y l =>
      rw [splitC_hit (by rw [hpre]; simp [absP_cons]), hpre]
      have ih := splitC_abs (y :: l) (by simp) (fun z hz => hg z (by simp [hz]))
      rw [absP_cons, splitC, if_pos (by simp)] at ih
      simp only [List.cons.injEq, true_and] at ih
      rw [absP_cons]
      simp [ih]
theorem clean_segs (r : Bytes) : (∃ q, removeDots (47 :: r) = 47 :: q) ∧ ∀ x ∈ splitC 47 (removeDots (47 :: r)), x ≠ [46] ∧ x ≠ [46, 46] := by
  obtain ⟨l, h1, h2, h3⟩ := removeDots_abs r
  rw [h1]
  constructor
  · cases l with
    | nil => exact absurd rfl h2
    | cons x l => exact ⟨_, rfl⟩
  · rw [splitC_abs l h2 (fun x hx => (h3 x hx).1)]
    intro x hx
    simp only [List.mem_cons] at hx
    rcases hx with rfl | hx
    · simp
    · exact (h3 x hx).2
end Wf
namespace Wf
open Go Go.RowKit
def Can (also s : Bytes) : Prop := ∃ l : List PU, s = l.flatMap PU.str ∧ ∀ x ∈ l, canU also x
theorem can_nil (also : Bytes) : Can also [] := ⟨[], rfl, by simp⟩
theorem can_app {also a b : Bytes} (ha : Can also a) (hb : Can also b) : Can also (a ++ b) := by
  obtain ⟨l, rfl, h1⟩ := ha
  obtain ⟨m, rfl, h2⟩ := hb
  exact ⟨l ++ m, by simp, fun x hx => by
    rcases List.mem_append.1 hx with h | h
    · exact h1 x h
    · exact h2 x h⟩
theorem can_one {also : Bytes} {c : UInt8} (h : keepB also c = true) (hc : c ≠ 37) : Can also [c] := ⟨[.lit c], rfl, fun x hx => by
  obtain rfl := List.mem_singleton.1 hx; exact ⟨h, hc⟩⟩
theorem can_esc (also : Bytes) {c : UInt8} (h : unres c = false) : Can also (esc c) := ⟨[.hex (hexU (c.toNat / 16)) (hexU (c.toNat % 16))], rfl, fun x hx => by
  obtain rfl := List.mem_singleton.1 hx
  have hn := c.toNat_lt
  have hv := unhex_esc c
  exact ⟨by rw [hv]; exact h, by rw [hv], by rw [hv], hexU_hex _ (by omega), hexU_hex _ (by omega)⟩⟩
theorem can_tail {also : Bytes} {c : UInt8} {r : Bytes} (hc : c ≠ 37) (h : Can also (c :: r)) : keepB also c = true ∧ Can also r := by
  obtain ⟨l, e, h1⟩ := h
  cases l with
  | nil => simp at e
  | cons x l =>
    have hx := h1 x List.mem_cons_self
    rw [List.flatMap_cons] at e
    cases x with
    | lit d =>
      simp only [PU.str, List.singleton_append, List.cons.injEq] at e
      obtain ⟨rfl, rfl⟩ := e
      exact ⟨hx.1, l, rfl, fun y hy => h1 y (List.mem_cons_of_mem _ hy)⟩
    | hex a b =>
      simp only [PU.str, List.cons_append, List.nil_append, List.cons.injEq] at e
      exact absurd e.1 hc
    | bad => exact hx.elim
theorem can_split {also : Bytes} {c : UInt8} (hc : c ≠ 37) (hx : isHex c = false) : ∀ (l : List PU) (a b : Bytes), (∀ x ∈ l, canU also x) → a ++ c :: b = l.flatMap PU.str → Can also a ∧ Can also (c :: b)
  | [], a, b, _, e => by simp at e
  | .lit d :: l, [], b, h, e => ⟨can_nil _, _, e, h⟩
  | .lit d :: l, y :: a, b, h, e => by
    rw [List.flatMap_cons] at e
    simp only [PU.str, List.singleton_append, List.cons_append, List.cons.injEq] at e
    obtain ⟨rfl, e⟩ := e
    obtain ⟨h1, h2⟩ := can_split hc hx l a b (fun y hy => h y (List.mem_cons_of_mem _ hy)) e
    have hy := h _ List.mem_cons_self
    exact ⟨can_app (a := [y]) (can_one hy.1 hy.2) h1, h2⟩
  | .hex u v :: l, [], b, h, e => by
    rw [List.flatMap_cons] at e
    simp only [PU.str, List.nil_append, List.cons_append, List.cons.injEq] at e
    exact absurd e.1 hc
  | .hex u v :: l, [x], b, h, e => by
    rw [List.flatMap_cons] at e
    simp only [PU.str, List.nil_append, List.cons_append, List.cons.injEq] at e
    have := (h _ List.mem_cons_self).2.2.2.1
    rw [← e.2.1, hx] at this; cases this
  | .hex u v :: l, [x, y], b, h, e => by
    rw [List.flatMap_cons] at e
    simp only [PU.str, List.nil_append, List.cons_append, List.cons.injEq] at e
    have := (h _ List.mem_cons_self).2.2.2.2
    rw [← e.2.2.1, hx] at this; cases this
  | .hex u v :: l, x :: y :: z :: a, b, h, e => by
    rw [List.flatMap_cons] at e
    simp only [PU.str, List.nil_append, List.cons_append, List.cons.injEq] at e
    obtain ⟨rfl, rfl, rfl, e⟩ := e
    obtain ⟨h1, h2⟩ := can_split hc hx l a b (fun y hy => h y (List.mem_cons_of_mem _ hy)) e
    refine ⟨can_app (a := [37, y, z]) ⟨[.hex y z], rfl, fun x hx => ?_⟩ h1, h2⟩
    obtain rfl := List.mem_singleton.1 hx
    exact h _ List.mem_cons_self
  | .bad :: l, a, b, h, e => (h _ List.mem_cons_self).elim
theorem Can.split {also a b : Bytes} {c : UInt8} (hc : c ≠ 37) (hx : isHex c = false) (h : Can also (a ++ c :: b)) : Can also a ∧ Can also (c :: b) := by
  obtain ⟨l, e, h1⟩ := h
  exact can_split hc hx l a b h1 e
theorem can_bytes {also s : Bytes} (h : Can also s) : ∀ c ∈ s, keepB also c = true ∨ c = 37 ∨ isHex c = true := by
  obtain ⟨l, rfl, h1⟩ := h
  intro c hc
  obtain ⟨x, hx, hcx⟩ := List.mem_flatMap.1 hc
  have hk := h1 x hx
  cases x with
  | lit d =>
    obtain rfl := List.mem_singleton.1 hcx
    exact .inl hk.1
  | hex a b =>
    simp only [PU.str, List.mem_cons, List.not_mem_nil, or_false] at hcx
    rcases hcx with rfl | rfl | rfl
    · exact .inr (.inl rfl)
    · exact .inr (.inr hk.2.2.2.1)
    · exact .inr (.inr hk.2.2.2.2)
  | bad => exact hk.elim
theorem can_norm {also s : Bytes} (h : Can also s) (hl : s.length ≤ 16384) : pctNorm also s = (s, 0) := by
  obtain ⟨l, rfl, h1⟩ := h
  unfold pctNorm
  rw [if_neg (by omega), units_can also l h1, normU_can also l h1]
theorem norm_can {also s : Bytes} (h : (pctNorm also s).2 = 0) : Can also (pctNorm also s).1 := by
  unfold pctNorm at h ⊢
  split at h
  · simp at h
  · rename_i hs
    rw [if_neg hs]
    obtain ⟨l', e, h1, -, -⟩ := normU_parts also (units s) (units_litne s) h
    exact ⟨l', e, h1⟩
theorem can_cut {also s : Bytes} (n : Nat) (hd : s.drop n = [] ∨ ∃ r, s.drop n = 47 :: r) (h : Can also s) : Can also (s.take n) ∧ Can also (s.drop n) := by
  rcases hd with hd | ⟨r, hd⟩
  · rw [hd]
    have e : s.take n = s := List.take_of_length_le (by simpa using hd)
    rw [e]; exact ⟨h, can_nil _⟩
  · rw [hd]
    have e : s = s.take n ++ 47 :: r := by rw [← hd, List.take_append_drop]
    rw [e] at h
    exact h.split (by decide) (by decide)
theorem drop_pre (s : Bytes) : s.drop (pre (· == 47) s) = [] ∨ ∃ r, s.drop (pre (· == 47) s) = 47 :: r := by
  by_cases h : pre (· == 47) s < s.length
  · right
    have := pre_at h
    simp only [beq_iff_eq] at this
    exact ⟨s.drop (pre (· == 47) s + 1), by rw [List.drop_eq_getElem_cons h, this]⟩
  · left; simp; omega
theorem shorten_split (s : Bytes) : shorten s = [] ∨ ∃ r, s = shorten s ++ 47 :: r := by
  unfold shorten
  have key : ∀ t : Bytes, t.dropWhile (· != 47) = [] ∨ ∃ a b, t = a ++ 47 :: b ∧ t.dropWhile (· != 47) = 47 :: b := by
    intro t
    induction t with
    | nil => left; rfl
    | cons x t ih =>
      by_cases hx : x = 47
      · subst hx
        right; exact ⟨[], t, rfl, by simp⟩
      · rw [List.dropWhile_cons_of_pos (by simp [hx])]
        rcases ih with ih | ⟨a, b, h1, h2⟩
        · left; exact ih
        · right; exact ⟨x :: a, b, by rw [h1]; rfl, h2⟩
  rcases key s.reverse with h | ⟨a, b, h1, h2⟩
  · left; rw [h]; rfl
  · right
    rw [h2]
    refine ⟨a.reverse, ?_⟩
    have := congrArg List.reverse h1
    rw [List.reverse_reverse] at this
    rw [this]; simp
theorem can_shorten {also s : Bytes} (h : Can also s) : Can also (shorten s) := by
  rcases shorten_split s with e | ⟨r, e⟩
  · rw [e]; exact can_nil _
  · rw [e] at h; exact (h.split (by decide) (by decide)).1
theorem can_dotStep {also p o : Bytes} (h47 : keepB also 47 = true) (hp : Can also p) (ho : Can also o) : Can also (dotStep p o).1 ∧ Can also (dotStep p o).2 := by
  have c47 : Can also [47] := can_one h47 (by decide)
  have drop1 : ∀ {c : UInt8} {r : Bytes}, c ≠ 37 → Can also (c :: r) → Can also r := fun hc h => (can_tail hc h).2
  unfold dotStep
  split
  · rename_i h
    obtain ⟨r, rfl⟩ := List.isPrefixOf_iff_prefix.1 h
    exact ⟨drop1 (by decide) (drop1 (by decide) (drop1 (by decide) hp)), ho⟩
  split
  · rename_i h
    obtain ⟨r, rfl⟩ := List.isPrefixOf_iff_prefix.1 h
    exact ⟨drop1 (by decide) (drop1 (by decide) hp), ho⟩
  split
  · rename_i h
    obtain ⟨r, rfl⟩ := List.isPrefixOf_iff_prefix.1 h
    exact ⟨drop1 (by decide) (drop1 (by decide) hp), ho⟩
  split
  · exact ⟨c47, ho⟩
  split
  · rename_i h
    obtain ⟨r, rfl⟩ := List.isPrefixOf_iff_prefix.1 h
    exact ⟨drop1 (by decide) (drop1 (by decide) (drop1 (by decide) hp)), can_shorten ho⟩
  split
  · exact ⟨c47, can_shorten ho⟩
  split
  · exact ⟨can_nil _, ho⟩
  · have hd : p.drop (1 + pre (· == 47) (p.drop 1)) = [] ∨ ∃ r, p.drop (1 + pre (· == 47) (p.drop 1)) = 47 :: r := by
      rw [← List.drop_drop]; exact drop_pre _
    obtain ⟨h1, h2⟩ := can_cut _ hd hp
    exact ⟨h2, can_app ho h1⟩
theorem can_dotsGo {also : Bytes} (h47 : keepB also 47 = true) : ∀ (f : Nat) (p o : Bytes), Can also p → Can also o → Can also (dotsGo f p o)
  | 0, _, _, _, ho => ho
  | f + 1, p, o, hp, ho => by
    rw [dotsGo]
    split
    · exact ho
    · obtain ⟨h1, h2⟩ := can_dotStep h47 hp ho
      exact can_dotsGo h47 f _ _ h1 h2
theorem can_removeDots {also p : Bytes} (h47 : keepB also 47 = true) (hp : Can also p) : Can also (removeDots p) := can_dotsGo h47 _ _ _ hp (can_nil _)
/-! hosts -/
theorem mem_splitC (d : UInt8) : ∀ (n : Nat) (s : Bytes), s.length ≤ n → ∀ c ∈ s, c = d ∨ ∃ x ∈ splitC d s, c ∈ x
  | 0, s, h, c, hc => by
    obtain rfl := List.length_eq_zero_iff.1 (Nat.le_zero.1 h)
    simp at hc
  | n + 1, s, h, c, hc => by
    by_cases hp : pre (· == d) s < s.length
    · rw [splitC_hit hp]
      have e : s = s.take (pre (· == d) s) ++ d :: s.drop (pre (· == d) s + 1) := by
        have := pre_at hp
        simp only [beq_iff_eq] at this
        conv => lhs; rw [← List.take_append_drop (pre (· == d) s) s, List.drop_eq_getElem_cons hp, this]
      rw [e] at hc
      rcases List.mem_append.1 hc with h1 | h1
      · exact .inr ⟨_, List.mem_cons_self, h1⟩
      · rcases List.mem_cons.1 h1 with h2 | h2
        · exact .inl h2
        · rcases mem_splitC d n _ (by simp; omega) c h2 with h3 | ⟨x, h3, h4⟩
          · exact .inl h3
          · exact .inr ⟨x, List.mem_cons_of_mem _ h3, h4⟩
    · rw [splitC_miss hp]
      exact .inr ⟨s, List.mem_singleton.2 rfl, hc⟩
theorem octet_digits {s : Bytes} (h : octetOk s = true) : s.all isDigit = true := by
  unfold octetOk numStrict at h
  split at h
  · simp at h
  · have := (numParse_err_dig 255 s).1 (.inl (by simpa using h))
    unfold digitsOk at this
    simp only [Bool.and_eq_true] at this
    exact this.2
theorem nameL_mem : ∀ (l : List Bytes), nameL l = true → ∀ x ∈ l, labelOk x = true
  | [], _, x, h => by simp at h
  | [y], h, x, hx => by
    simp only [nameL, Bool.and_eq_true] at h
    obtain rfl := List.mem_singleton.1 hx
    exact h.1
  | y :: z :: r, h, x, hx => by
    simp only [nameL, Bool.and_eq_true] at h
    rcases List.mem_cons.1 hx with rfl | hx
    · exact h.1
    · exact nameL_mem (z :: r) h.2 x hx
theorem hostM_bytes {s x : Bytes} (h : hostM s = (x, 0)) : ∀ c ∈ x, ldh c = true ∨ c = 46 := by
  have hx := (hostM_ok h).2.2
  clear h
  unfold hostM at hx
  split at hx
  · simp at hx
  split at hx
  · simp at hx
  split at hx
  · simp at hx
  · rename_i h3
    intro c hc
    rcases mem_splitC 46 _ x (Nat.le_refl _) c hc with h4 | ⟨y, h4, h5⟩
    · exact .inr h4
    · left
      cases hi : ipv4 x
      · have hn : nameOk x = true := by simpa [hi] using h3
        have := nameL_mem _ hn y h4
        unfold labelOk at this
        simp only [Bool.and_eq_true] at this
        exact List.all_eq_true.1 this.2 c h5
      · unfold ipv4 at hi
        simp only [Bool.and_eq_true] at hi
        have := octet_digits (List.all_eq_true.1 hi.2 y h4)
        have := List.all_eq_true.1 this c h5
        unfold ldh; rw [this]; simp
theorem decS_digits (n : Nat) : ∀ c ∈ decS n, isDigit c = true := fun c hc => List.all_eq_true.1 ((decS_back n n n (Nat.le_refl _) (Nat.le_refl _)).2.1) c hc
theorem hostPort_bytes {s x : Bytes} {p : Int} (h : hostPort s = ((x, p), 0)) : ∀ c ∈ hostText x p, ldh c = true ∨ c = 46 ∨ c = 58 := by
  obtain ⟨-, h1, -, -, h2, -⟩ := hostPort_back h
  have hb := hostM_bytes h1
  unfold hostText
  split
  · intro c hc; exact (hb c hc).imp id .inl
  split
  · omega
  · intro c hc
    rcases List.mem_append.1 hc with hc | hc
    · rcases List.mem_append.1 hc with hc | hc
      · exact (hb c hc).imp id .inl
      · exact .inr (.inr (List.mem_singleton.1 hc))
    · left; unfold ldh; rw [decS_digits _ c hc]; simp
theorem pre_none {c : UInt8} {l : Bytes} (h : c ∉ l) : pre (· == c) l = l.length := by
  induction l with
  | nil => rfl
  | cons x l ih =>
    simp only [List.mem_cons, not_or] at h
    rw [pre_cons, if_neg (by simpa using fun e => h.1 e.symm), ih h.2]; rfl
end Wf
namespace Wf
open Go Go.RowKit
theorem split_join (u : Uri) (h1 : u.scheme = https) (h2 : u.hasScheme = true) (h3 : u.hasAuthority = true) (ha : ∀ c ∈ u.authority, c ≠ 47 ∧ c ≠ 63 ∧ c ≠ 35) (hp : ∃ r, u.path = 47 :: r) (hpb : ∀ c ∈ u.path, c ≠ 63 ∧ c ≠ 35) (hq : (35 : UInt8) ∉ u.query) (hq0 : u.hasQuery = false → u.query = []) (hf0 : u.hasFrag = false → u.fragment = []) (hl : (uriJoin u).length ≤ 16384) :
    uriSplit (uriJoin u) = (u, 0) := by
  obtain ⟨sc, au, pa, qu, fr, b1, b2, b3, b4⟩ := u
  simp only at h1 h2 h3 ha hp hpb hq hq0 hf0
  subst h1 h2 h3
  have c1 : cutC 35 (uriJoin ⟨https, au, pa, qu, fr, true, true, b3, b4⟩) = (https ++ [58] ++ ([47, 47] ++ au) ++ pa ++ (if b3 then [63] ++ qu else []), fr, b4) := by
    have hn : (35 : UInt8) ∉ https ++ [58] ++ ([47, 47] ++ au) ++ pa ++ (if b3 then [63] ++ qu else []) := by
      simp only [List.mem_append, not_or]
      refine ⟨⟨⟨⟨by decide, by decide⟩, by decide, fun h => (ha _ h).2.2 rfl⟩, fun h => (hpb _ h).2 rfl⟩, ?_⟩
      split
      · simp only [List.mem_append, not_or]; exact ⟨by decide, hq⟩
      · simp
    cases b4
    · have : uriJoin ⟨https, au, pa, qu, fr, true, true, b3, false⟩ = https ++ [58] ++ ([47, 47] ++ au) ++ pa ++ (if b3 then [63] ++ qu else []) := by simp [uriJoin]
      rw [this, cutC_none (pre_none hn), hf0 rfl]
    · have : uriJoin ⟨https, au, pa, qu, fr, true, true, b3, true⟩ = (https ++ [58] ++ ([47, 47] ++ au) ++ pa ++ (if b3 then [63] ++ qu else [])) ++ 35 :: fr := by simp [uriJoin]
      rw [this, cutC_some (pre_none hn)]
  have c2 : cutC 63 (https ++ [58] ++ ([47, 47] ++ au) ++ pa ++ (if b3 then [63] ++ qu else [])) = (https ++ [58] ++ ([47, 47] ++ au) ++ pa, qu, b3) := by
    have hn : (63 : UInt8) ∉ https ++ [58] ++ ([47, 47] ++ au) ++ pa := by
      simp only [List.mem_append, not_or]
      exact ⟨⟨⟨by decide, by decide⟩, by decide, fun h => (ha _ h).2.1 rfl⟩, fun h => (hpb _ h).1 rfl⟩
    cases b3
    · rw [if_neg (by simp), List.append_nil, cutC_none (pre_none hn), hq0 rfl]
    · rw [if_pos rfl, List.singleton_append, cutC_some (pre_none hn)]
  unfold uriSplit
  rw [if_neg (by omega), c1]
  simp only
  rw [c2]
  simp only
  obtain ⟨r, rfl⟩ := hp
  have e : https ++ [58] ++ ([47, 47] ++ au) ++ 47 :: r = 104 :: 116 :: 116 :: 112 :: 115 :: 58 :: 47 :: 47 :: (au ++ 47 :: r) := by simp [https]
  have p5 : pre colonSlash (104 :: 116 :: 116 :: 112 :: 115 :: 58 :: 47 :: 47 :: (au ++ 47 :: r)) = 5 := by
    simp only [pre_cons]
    rw [if_neg (by decide), if_neg (by decide), if_neg (by decide), if_neg (by decide), if_neg (by decide), if_pos (by decide)]
  have pa : pre (· == 47) (au ++ 47 :: r) = au.length := pre_app (pre_none (fun h => (ha _ h).1 rfl)) 47 r (by decide)
  rw [e]
  unfold splitRest
  rw [p5]
  simp only [List.drop_succ_cons, List.drop_zero, List.take_succ_cons, List.take_zero, List.head?_cons, if_true, authPath, pa, List.take_left, List.drop_left]
  rw [if_pos (by decide)]
  rfl
def urlUri (u : Url) : Uri := ⟨https, hostText u.host u.port, u.path, u.query, u.fragment, true, true, u.hasQuery, u.hasFrag⟩
theorem urlText_join (u : Url) : urlText u = uriJoin (urlUri u) := by
  unfold urlText uriJoin urlUri urlTarget
  cases u.hasQuery <;> simp [https]
structure CanUrl (u : Url) : Prop where
  host : hostPort (hostText u.host u.port) = ((u.host, u.port), 0)
  path : Can inPath u.path
  slash : ∃ r, u.path = 47 :: r
  dots : removeDots u.path = u.path
  query : Can inQuery u.query
  frag : Can inQuery u.fragment
  noq : u.hasQuery = false → u.query = []
  nof : u.hasFrag = false → u.fragment = []
  len : (urlText u).length ≤ 4096
theorem host_no {x : Bytes} {p : Int} (h : hostPort (hostText x p) = ((x, p), 0)) : ∀ c ∈ hostText x p, c ≠ 47 ∧ c ≠ 63 ∧ c ≠ 35 ∧ c ≠ 64 := by
  intro c hc
  have h1 := hostPort_bytes h c hc
  have := all256 (p := fun c => !(ldh c || c == 46 || c == 58) || (c != 47 && c != 63 && c != 35 && c != 64)) (by decide +kernel) c
  have h2 : (ldh c || c == 46 || c == 58) = true := by rcases h1 with h | rfl | rfl <;> simp [*]
  rw [h2] at this
  simpa [and_assoc] using this
theorem path_no {s : Bytes} (h : Can inPath s) : ∀ c ∈ s, c ≠ 63 ∧ c ≠ 35 := by
  intro c hc
  have h1 := can_bytes h c hc
  have := all256 (p := fun c => !(keepB inPath c || c == 37 || isHex c) || (c != 63 && c != 35)) (by decide +kernel) c
  have h2 : (keepB inPath c || c == 37 || isHex c) = true := by rcases h1 with h | rfl | h <;> simp [*]
  rw [h2] at this
  simpa using this
theorem query_no {s : Bytes} (h : Can inQuery s) : (35 : UInt8) ∉ s := by
  intro hc
  have := can_bytes h _ hc
  revert this; decide
theorem CanUrl.split {u : Url} (h : CanUrl u) : uriSplit (urlText u) = (urlUri u, 0) := by
  rw [urlText_join]
  refine split_join (urlUri u) rfl rfl rfl (fun c hc => ?_) h.slash (path_no h.path) (query_no h.query) h.noq h.nof (by rw [← urlText_join]; have := h.len; omega)
  have := host_no h.host c hc
  exact ⟨this.1, this.2.1, this.2.2.1⟩
theorem urlText_len (u : Url) : u.path.length ≤ (urlText u).length ∧ (u.hasQuery = true → u.query.length ≤ (urlText u).length) ∧ (u.hasFrag = true → u.fragment.length ≤ (urlText u).length) := by
  unfold urlText urlTarget
  refine ⟨?_, fun h => ?_, fun h => ?_⟩
  · split <;> split <;> (simp; omega)
  · rw [if_pos h]; split <;> (simp; omega)
  · rw [if_pos h]; split <;> (simp; omega)
theorem CanUrl.parse {u : Url} (h : CanUrl u) : urlParse (urlText u) = (u, 0) := by
  obtain ⟨l1, l2, l3⟩ := urlText_len u
  have hl := h.len
  have n1 := can_norm h.path (by omega)
  have n2 : pctNorm inQuery u.query = (u.query, 0) := by
    cases hq : u.hasQuery
    · rw [h.noq hq]; rfl
    · exact can_norm h.query (by have := l2 hq; omega)
  have n3 : pctNorm inQuery u.fragment = (u.fragment, 0) := by
    cases hq : u.hasFrag
    · rw [h.nof hq]; rfl
    · exact can_norm h.frag (by have := l3 hq; omega)
  unfold urlParse
  rw [if_neg (by omega), h.split]
  simp only [ne_eq, not_true, if_false]
  unfold urlOf urlUri
  simp only
  rw [if_neg (by simp [show lower https = https by decide]), if_neg (by simp), if_neg (fun k => (host_no h.host _ k).2.2.2 rfl)]
  unfold urlParts
  simp only
  rw [h.host, n1, n2, n3]
  simp only [ne_eq, not_true, if_false]
  unfold urlEnd
  simp only
  obtain ⟨r, hr⟩ := h.slash
  have e : (if removeDots u.path = [] then [47] else removeDots u.path) = u.path := by
    rw [h.dots, hr, if_neg (by simp)]
  rw [e, if_neg (by show ¬ 4096 < (urlText u).length; omega)]
theorem urlEnd_ok {h : Bytes × Int} {p q f : Bytes} {hq hf : Bool} {u : Url} (k : urlEnd h p q f hq hf = (u, 0)) : u = ⟨h.1, h.2, if removeDots p = [] then [47] else removeDots p, q, f, hq, hf⟩ ∧ (urlText u).length ≤ 4096 := by
  unfold urlEnd at k
  generalize (if removeDots p = [] then [47] else removeDots p) = d at k ⊢
  split at k
  · simp at k
  · obtain rfl := (Prod.mk.inj k).1
    exact ⟨rfl, by omega⟩
theorem removeDots_one : removeDots [47] = [47] := by decide
theorem split_noq (s : Bytes) (h : (uriSplit s).2 = 0) : ((uriSplit s).1.hasQuery = false → (uriSplit s).1.query = []) ∧ ((uriSplit s).1.hasFrag = false → (uriSplit s).1.fragment = []) ∧ ((uriSplit s).1.hasAuthority = true → (uriSplit s).1.path = [] ∨ ∃ r, (uriSplit s).1.path = 47 :: r) := by
  unfold uriSplit at h ⊢
  split
  · rename_i h1; rw [if_pos h1] at h; simp at h
  rename_i h1
  rw [if_neg h1] at h
  have q1 := uncut_no 63 (cutC 35 s).1
  have q2 := uncut_no 35 s
  have ha : ∀ t : Bytes, (authPath t).2.1 = true → (authPath t).2.2 = [] ∨ ∃ r, (authPath t).2.2 = 47 :: r := by
    intro t
    unfold authPath
    split
    · intro _; exact drop_pre _
    · intro h; simp at h
  unfold splitRest at h ⊢
  split
  · rename_i h2
    rw [if_pos h2] at h
    split
    · exact ⟨q1, q2, ha _⟩
    · rename_i h3; rw [if_neg h3] at h; simp at h
  · exact ⟨q1, q2, ha _⟩
theorem can_of_parse {s : Bytes} {u : Url} (h : urlParse s = (u, 0)) : CanUrl u := by
  unfold urlParse at h
  split at h
  · simp at h
  split at h
  · rename_i h1 h2; exact absurd (Prod.mk.inj h).2 h2
  rename_i h1 h2
  have h2 : (uriSplit s).2 = 0 := by simpa using h2
  obtain ⟨q1, q2, q3⟩ := split_noq s h2
  generalize (uriSplit s).1 = r at h q1 q2 q3
  unfold urlOf at h
  split at h
  · simp at h
  split at h
  · simp at h
  split at h
  · simp at h
  rename_i h3 h4 h5
  have hau := q3 (by simpa using h4)
  unfold urlParts at h
  split at h
  · rename_i h6; exact absurd (Prod.mk.inj h).2 h6
  split at h
  · rename_i h6; exact absurd (Prod.mk.inj h).2 h6
  split at h
  · rename_i h6; exact absurd (Prod.mk.inj h).2 h6
  split at h
  · rename_i h6; exact absurd (Prod.mk.inj h).2 h6
  rename_i e1 e2 e3 e4
  obtain ⟨h, hlen⟩ := urlEnd_ok h
  have hp := norm_can (also := inPath) (s := r.path) (by simpa using e2)
  have hq := norm_can (also := inQuery) (s := r.query) (by simpa using e3)
  have hf := norm_can (also := inQuery) (s := r.fragment) (by simpa using e4)
  have hd : removeDots (pctNorm inPath r.path).1 = [] ∨ ∃ q, removeDots (pctNorm inPath r.path).1 = 47 :: q ∧ removeDots (47 :: q) = 47 :: q := by
    have hh : (pctNorm inPath r.path).1 = [] ∨ ∃ q, (pctNorm inPath r.path).1 = 47 :: q := by
      rcases hau with h | ⟨q, h⟩
      · left; rw [h]; rfl
      · right
        have e2' : (pctNorm inPath r.path).2 = 0 := by simpa using e2
        rw [h] at e2' ⊢
        unfold pctNorm at e2' ⊢
        split
        · rename_i hx; rw [if_pos hx] at e2'; simp at e2'
        rename_i hx
        rw [if_neg hx, units_lit (by decide), normU, if_pos (by decide)] at e2'
        rw [units_lit (by decide), normU, if_pos (by decide)]
        unfold comb at e2' ⊢
        split
        · exact ⟨_, rfl⟩
        · rename_i hy; rw [if_neg hy] at e2'; exact absurd e2' hy
    rcases hh with h | ⟨q, h⟩
    · left; rw [h]; rfl
    · right
      rw [h]
      obtain ⟨⟨q', hq'⟩, -⟩ := clean_segs q
      exact ⟨q', hq', by have := removeDots_clean q; rw [hq'] at this; exact this⟩
  have hhp : hostPort r.authority = (((hostPort r.authority).1.1, (hostPort r.authority).1.2), 0) := by
    have : (hostPort r.authority).2 = 0 := by simpa using e1
    rw [← this]
  subst h
  refine ⟨(hostPort_back hhp).1, ?_, ?_, ?_, hq, hf, fun k => by simp only at k ⊢; rw [q1 k]; rfl, fun k => by simp only at k ⊢; rw [q2 k]; rfl, by omega⟩
  · simp only
    rcases hd with hd | ⟨q, hd, -⟩
    · rw [if_pos hd]; exact can_one (by decide) (by decide)
    · rw [if_neg (by rw [hd]; simp)]; exact can_removeDots (by decide) hp
  · simp only
    rcases hd with hd | ⟨q, hd, -⟩
    · rw [if_pos hd]; exact ⟨_, rfl⟩
    · rw [if_neg (by rw [hd]; simp)]; exact ⟨_, hd⟩
  · simp only
    rcases hd with hd | ⟨q, hd, hd2⟩
    · rw [if_pos hd]; exact removeDots_one
    · rw [if_neg (by rw [hd]; simp), hd]; exact hd2
def Url.bare (u : Url) : Url := { u with fragment := [], hasFrag := false }
theorem CanUrl.bare {u : Url} (h : CanUrl u) : CanUrl u.bare :=
  ⟨h.host, h.path, h.slash, h.dots, h.query, can_nil _, h.noq, fun _ => rfl, by
    have := h.len
    unfold urlText at this ⊢
    unfold Url.bare urlTarget at *
    simp at this ⊢
    omega⟩
theorem CanUrl.valid {u : Url} (h : CanUrl u) : urlValid u = true := by unfold urlValid; rw [h.parse]; simp
theorem valid_can {u : Url} (h : urlValid u = true) : CanUrl u := can_of_parse (of_decide_eq_true h)
end Wf
/- Plain functions and laws of package acct. -/
set_option linter.all false
namespace Wf
open Go Go.RowKit
structure Acct where
  user : Bytes
  host : Bytes
  deriving DecidableEq
def Acct.none : Acct := ⟨[], []⟩
def inUser : Bytes := [33, 36, 38, 39, 40, 41, 42, 43, 44, 59, 61]
def acctS : Bytes := [97, 99, 99, 116, 58]
def acctOf (n : Bytes × Int) (h : Bytes × Int) : Acct × Int :=
  if n.2 ≠ 0 ∨ n.1 = [] ∨ n.1.head? = some 37 then (Acct.none, 80)
  else if h.2 ≠ 0 then (Acct.none, h.2)
  else (⟨n.1, h.1⟩, 0)
def acctRest (s : Bytes) : Acct × Int :=
  if (cutC 64 s).2.2 = false then (Acct.none, 6)
  else acctOf (pctNorm inUser (cutC 64 s).1) (hostM (cutC 64 s).2.1)
def acctParse (s : Bytes) : Acct × Int :=
  if 4096 < s.length then (Acct.none, 5)
  else if s.length < 5 ∨ lower (s.take 5) ≠ acctS then (Acct.none, 60)
  else acctRest (s.drop 5)
def acctText (a : Acct) : Bytes := acctS ++ a.user ++ [64] ++ a.host
theorem cut_parts {c : UInt8} {s : Bytes} (h : (cutC c s).2.2 = true) : s.length = (cutC c s).1.length + 1 + (cutC c s).2.1.length := by
  have := congrArg List.length (uncut c s)
  rw [if_pos h] at this
  simp at this; omega
theorem user_no {s : Bytes} (h : Can inUser s) : (64 : UInt8) ∉ s := by
  intro hc
  have := can_bytes h _ hc
  revert this; decide
structure CanAcct (a : Acct) : Prop where
  user : Can inUser a.user
  ne : a.user ≠ []
  no : a.user.head? ≠ some 37
  host : hostM a.host = (a.host, 0)
theorem acct_can {s : Bytes} {a : Acct} (h : acctParse s = (a, 0)) : CanAcct a ∧ (acctText a).length ≤ s.length ∧ s.length ≤ 4096 := by
  unfold acctParse at h
  split at h
  · simp at h
  split at h
  · simp at h
  rename_i h1 h2
  unfold acctRest at h
  split at h
  · simp at h
  rename_i h3
  have hlen := cut_parts (c := 64) (s := s.drop 5) (by simpa using h3)
  rw [List.length_drop] at hlen
  unfold acctOf at h
  split at h
  · simp at h
  rename_i h4
  simp only [not_or] at h4
  split at h
  · rename_i h5; exact absurd (Prod.mk.inj h).2 h5
  rename_i h5
  simp only [Prod.mk.injEq, and_true] at h
  subst h
  have e : hostM (cutC 64 (s.drop 5)).2.1 = ((hostM (cutC 64 (s.drop 5)).2.1).1, 0) := by
    have : (hostM (cutC 64 (s.drop 5)).2.1).2 = 0 := by simpa using h5
    rw [← this]
  obtain ⟨k1, k2, k3⟩ := hostM_ok e
  refine ⟨⟨norm_can (by simpa using h4.1), h4.2.1, h4.2.2, k3⟩, ?_, by omega⟩
  have := pctNorm_len inUser (cutC 64 (s.drop 5)).1
  have hl : (hostM (cutC 64 (s.drop 5)).2.1).1.length = (cutC 64 (s.drop 5)).2.1.length := by rw [k1, lower_length]
  simp only [acctText, acctS, List.length_append, List.length_cons, List.length_nil]
  simp only [not_or] at h2
  omega
theorem acct_read {a : Acct} (h : CanAcct a) (hl : (acctText a).length ≤ 4096) : acctParse (acctText a) = (a, 0) := by
  have e1 : (acctText a).take 5 = acctS := rfl
  have e2 : (acctText a).drop 5 = a.user ++ 64 :: a.host := by show a.user ++ [64] ++ a.host = _; simp
  have l5 : 5 ≤ (acctText a).length := by simp [acctText, acctS]
  have lu : a.user.length ≤ 4096 := by simp [acctText] at hl; omega
  unfold acctParse
  rw [if_neg (by omega), if_neg (by rw [e1, show lower acctS = acctS by decide]; simp; omega), e2]
  unfold acctRest
  rw [cutC_some (pre_none (user_no h.user)), if_neg (by simp)]
  simp only
  rw [can_norm h.user (by omega), h.host]
  unfold acctOf
  rw [if_neg (by simp [h.ne, h.no]), if_neg (by simp)]
theorem acct_back {s : Bytes} {a : Acct} (h : acctParse s = (a, 0)) : acctParse (acctText a) = (a, 0) ∧ (acctText a).length ≤ s.length := by
  obtain ⟨h1, h2, h3⟩ := acct_can h
  exact ⟨acct_read h1 (by omega), h2⟩
end Wf
/- Plain functions and laws of package did. -/
set_option linter.all false
namespace Wf
open Go Go.RowKit
structure Did where
  method : Bytes
  id : Bytes
  deriving DecidableEq
def Did.none : Did := ⟨[], []⟩
structure DidUrl where
  did : Did
  path : Bytes
  query : Bytes
  fragment : Bytes
  hasQuery : Bool
  hasFrag : Bool
  deriving DecidableEq
def DidUrl.none : DidUrl := ⟨Did.none, [], [], [], false, false⟩
def plainD (c : UInt8) : Bool := isAlpha c || isDigit c || ([46, 45, 95] : Bytes).contains c
def methodC (c : UInt8) : Bool := isDigit c || decide (97 ≤ c.toNat ∧ c.toNat ≤ 122)
def methodOk (s : Bytes) : Bool := !s.isEmpty && s.all methodC
def didB (c : UInt8) : Bytes := if plainD c then [c] else esc c
def didEsc (s : Bytes) : Bytes := s.flatMap didB
def didU : PU → Bytes
  | .lit c => [c]
  | .hex a b => didB (unhex a b)
  | .bad => []
def litOk : PU → Bool
  | .lit c => plainD c || c == 58
  | _ => true
def didCanon (s : Bytes) : Bytes × Int :=
  if PU.bad ∈ units s then ([], 2) else if (units s).all litOk = false then ([], 1) else ((units s).flatMap didU, 0)
def didEnd (m : Bytes) (c : Bytes × Int) : Did × Int :=
  if c.2 ≠ 0 then (Did.none, c.2) else if c.1 = [] ∨ c.1.getLast? = some 58 then (Did.none, 3) else (⟨m, c.1⟩, 0)
def didRest (s : Bytes) : Did × Int :=
  if (cutC 58 s).2.2 = false then (Did.none, 6)
  else if methodOk (cutC 58 s).1 = false then (Did.none, 100)
  else didEnd (cutC 58 s).1 (didCanon (cutC 58 s).2.1)
def didS : Bytes := [100, 105, 100, 58]
def didParse (s : Bytes) : Did × Int :=
  if 4096 < s.length then (Did.none, 5)
  else if didS.isPrefixOf s = false then (Did.none, 60)
  else didRest (s.drop 4)
def didText (d : Did) : Bytes := didS ++ d.method ++ [58] ++ d.id
def didUrlText (u : DidUrl) : Bytes := didText u.did ++ u.path ++ (if u.hasQuery then [63] ++ u.query else []) ++ (if u.hasFrag then [35] ++ u.fragment else [])
def didUrlEnd (d : Did × Int) (p q f : Bytes × Int) (hq hf : Bool) : DidUrl × Int :=
  if d.2 ≠ 0 then (DidUrl.none, d.2)
  else if p.2 ≠ 0 then (DidUrl.none, p.2)
  else if q.2 ≠ 0 then (DidUrl.none, q.2)
  else if f.2 ≠ 0 then (DidUrl.none, f.2)
  else (⟨d.1, p.1, q.1, f.1, hq, hf⟩, 0)
def didUrlOf (s q f : Bytes) (hq hf : Bool) : DidUrl × Int :=
  didUrlEnd (didParse (s.take (pre (· == 47) s))) (pctNorm inPath (s.drop (pre (· == 47) s))) (pctNorm inQuery q) (pctNorm inQuery f) hq hf
def didUrl (s : Bytes) : DidUrl × Int :=
  if 4096 < s.length then (DidUrl.none, 5)
  else didUrlOf (cutC 63 (cutC 35 s).1).1 (cutC 63 (cutC 35 s).1).2.1 (cutC 35 s).2.1 (cutC 63 (cutC 35 s).1).2.2 (cutC 35 s).2.2
def didResolve (d : Did) (r : Bytes) : DidUrl × Int :=
  if didS.isPrefixOf r = true then didUrl r
  else if r = [] ∨ r.head? = some 47 ∨ r.head? = some 63 ∨ r.head? = some 35 then didUrl (didText d ++ r)
  else (DidUrl.none, 6)
/-! units -/
theorem units_str : ∀ (l : List PU), (∀ x ∈ l, (∀ c, x = .lit c → c ≠ 37) ∧ (∀ a b, x = .hex a b → isHex a = true ∧ isHex b = true) ∧ x ≠ .bad) → units (l.flatMap PU.str) = l
  | [], _ => rfl
  | .lit c :: r, h => by
    have h1 := (h _ List.mem_cons_self).1 c rfl
    rw [List.flatMap_cons, PU.str, List.singleton_append, units_lit h1, units_str r (fun x hx => h x (List.mem_cons_of_mem _ hx))]
  | .hex a b :: r, h => by
    have h1 := (h _ List.mem_cons_self).2.1 a b rfl
    rw [List.flatMap_cons, PU.str]
    simp only [List.cons_append, List.nil_append]
    rw [units_hex h1.1 h1.2, units_str r (fun x hx => h x (List.mem_cons_of_mem _ hx))]
  | .bad :: r, h => ((h _ List.mem_cons_self).2.2 rfl).elim
theorem unitsGo_back : ∀ (f : Nat) (s : Bytes), s.length ≤ f → PU.bad ∉ unitsGo f s → (unitsGo f s).flatMap PU.str = s
  | 0, s, h, _ => by
    obtain rfl := List.length_eq_zero_iff.1 (Nat.le_zero.1 h)
    rfl
  | f + 1, [], _, _ => rfl
  | f + 1, c :: r, h, hb => by
    rw [unitsGo] at hb ⊢
    simp only [List.length_cons] at h
    split
    · rename_i hc
      rw [if_pos hc] at hb
      cases hp : hexPair r with
      | none => rw [hp] at hb; simp at hb
      | some x =>
        obtain ⟨a, b, r'⟩ := x
        rw [hp] at hb
        obtain ⟨rfl, -, -⟩ := hexPair_some hp
        simp only [List.mem_cons, reduceCtorEq, false_or] at hb
        simp only [List.length_cons] at h
        simp only [List.flatMap_cons, PU.str, unitsGo_back f r' (by omega) hb]
        rw [hc]; rfl
    · rename_i hc
      rw [if_neg hc] at hb
      simp only [List.mem_cons, reduceCtorEq, false_or] at hb
      simp only [List.flatMap_cons, PU.str, unitsGo_back f r (by omega) hb]
      rfl
theorem units_back {s : Bytes} (h : PU.bad ∉ units s) : (units s).flatMap PU.str = s := unitsGo_back _ s (Nat.le_refl _) h
theorem unitsGo_hex : ∀ (f : Nat) (s : Bytes) (a b : UInt8), PU.hex a b ∈ unitsGo f s → isHex a = true ∧ isHex b = true
  | 0, _, _, _, h => by simp [unitsGo] at h
  | _ + 1, [], _, _, h => by simp [unitsGo] at h
  | f + 1, d :: r, a, b, h => by
    rw [unitsGo] at h
    split at h
    · cases hp : hexPair r with
      | none => rw [hp] at h; simp at h
      | some x =>
        obtain ⟨a', b', r'⟩ := x
        rw [hp] at h
        obtain ⟨-, h2, h3⟩ := hexPair_some hp
        simp only [List.mem_cons, PU.hex.injEq] at h
        rcases h with ⟨rfl, rfl⟩ | h
        · exact ⟨h2, h3⟩
        · exact unitsGo_hex f _ a b h
    · simp only [List.mem_cons, reduceCtorEq, false_or] at h
      exact unitsGo_hex f _ a b h
theorem units_hexes {s : Bytes} {a b : UInt8} (h : PU.hex a b ∈ units s) : isHex a = true ∧ isHex b = true := unitsGo_hex _ s a b h
theorem units_app_colon : ∀ (n : Nat) (a b : Bytes), a.length ≤ n → PU.bad ∉ units a → units (a ++ 58 :: b) = units a ++ .lit 58 :: units b
  | 0, a, b, h, _ => by
    obtain rfl := List.length_eq_zero_iff.1 (Nat.le_zero.1 h)
    rw [List.nil_append, units_lit (by decide)]; rfl
  | n + 1, [], b, _, _ => by rw [List.nil_append, units_lit (by decide)]; rfl
  | n + 1, c :: a, b, h, hb => by
    simp only [List.length_cons] at h
    by_cases hc : c = 37
    · subst hc
      cases hp : hexPair a with
      | none => rw [units_bad hp] at hb; simp at hb
      | some x =>
        obtain ⟨u, v, r⟩ := x
        obtain ⟨rfl, h1, h2⟩ := hexPair_some hp
        rw [units_hex h1 h2] at hb ⊢
        simp only [List.length_cons] at h
        simp only [List.cons_append]
        rw [units_hex h1 h2, units_app_colon n r b (by omega) (by simpa using hb)]
    · rw [units_lit hc] at hb ⊢
      rw [List.cons_append, units_lit hc, units_app_colon n a b (by omega) (by simpa using hb)]
      rfl
/-! canonical identifiers -/
def canD : PU → Prop
  | .lit c => (plainD c || c == 58) = true
  | .hex a b => plainD (unhex a b) = false ∧ a = hexU ((unhex a b).toNat / 16) ∧ b = hexU ((unhex a b).toNat % 16) ∧ isHex a = true ∧ isHex b = true
  | .bad => False
def CanI (s : Bytes) : Prop := ∃ l : List PU, s = l.flatMap PU.str ∧ ∀ x ∈ l, canD x
theorem plainD_no {c : UInt8} (h : (plainD c || c == 58) = true) : c ≠ 37 ∧ c ≠ 47 ∧ c ≠ 63 ∧ c ≠ 35 := by
  have := all256 (p := fun c => !(plainD c || c == 58) || (c != 37 && c != 47 && c != 63 && c != 35)) (by decide +kernel) c
  rw [h] at this
  simpa [and_assoc] using this
theorem hex_no {c : UInt8} (h : isHex c = true) : c ≠ 37 ∧ c ≠ 47 ∧ c ≠ 63 ∧ c ≠ 35 ∧ c ≠ 58 := by
  have := all256 (p := fun c => !(isHex c) || (c != 37 && c != 47 && c != 63 && c != 35 && c != 58)) (by decide +kernel) c
  rw [h] at this
  simpa [and_assoc] using this
theorem canI_units {l : List PU} (h : ∀ x ∈ l, canD x) : units (l.flatMap PU.str) = l :=
  units_str l fun x hx => by
    have := h x hx
    cases x with
    | lit c => exact ⟨fun d e => by cases e; exact (plainD_no this).1, by simp, by simp⟩
    | hex a b => exact ⟨by simp, fun u v e => by cases e; exact this.2.2.2, by simp⟩
    | bad => exact this.elim
theorem canI_canon {s : Bytes} (h : CanI s) : didCanon s = (s, 0) := by
  obtain ⟨l, rfl, hl⟩ := h
  unfold didCanon
  rw [canI_units hl, if_neg (fun k => absurd (hl _ k) (by simp [canD])), if_neg ?_]
  · congr 1
    have : ∀ m : List PU, (∀ x ∈ m, canD x) → m.flatMap didU = m.flatMap PU.str := by
      intro m
      induction m with
      | nil => intro _; rfl
      | cons x m ih =>
        intro hm
        rw [List.flatMap_cons, List.flatMap_cons, ih (fun y hy => hm y (List.mem_cons_of_mem _ hy))]
        congr 1
        have := hm x List.mem_cons_self
        cases x with
        | lit c => rfl
        | hex a b =>
          simp only [didU, didB, PU.str]
          rw [if_neg (by simp [this.1])]
          unfold esc
          rw [← this.2.1, ← this.2.2.1]
        | bad => exact this.elim
    exact this l hl
  · simp only [Bool.not_eq_false]
    refine List.all_eq_true.2 fun x hx => ?_
    have := hl x hx
    cases x with
    | lit c => exact this
    | hex a b => rfl
    | bad => rfl
theorem canon_can {s x : Bytes} (h : didCanon s = (x, 0)) : CanI x ∧ x.length ≤ s.length ∧ (∀ c ∈ s, c ≠ 47 ∧ c ≠ 63 ∧ c ≠ 35) := by
  unfold didCanon at h
  split at h
  · simp at h
  rename_i hb
  split at h
  · simp at h
  rename_i ha
  simp only [Prod.mk.injEq, and_true] at h
  subst h
  have ha : (units s).all litOk = true := by simpa using ha
  have hs := units_back hb
  have hlit : ∀ c, PU.lit c ∈ units s → (plainD c || c == 58) = true := fun c hc => List.all_eq_true.1 ha _ hc
  have hhex := fun a b => units_hexes (s := s) (a := a) (b := b)
  generalize units s = l at *
  subst hs
  have key : ∀ m : List PU, (∀ c, PU.lit c ∈ m → (plainD c || c == 58) = true) → (∀ a b, PU.hex a b ∈ m → isHex a = true ∧ isHex b = true) → PU.bad ∉ m →
      CanI (m.flatMap didU) ∧ (m.flatMap didU).length ≤ (m.flatMap PU.str).length ∧ (∀ c ∈ m.flatMap PU.str, c ≠ 47 ∧ c ≠ 63 ∧ c ≠ 35) := by
    intro m
    induction m with
    | nil => intro _ _ _; exact ⟨⟨[], rfl, by simp⟩, by simp, by simp⟩
    | cons x m ih =>
      intro h1 h2 h3
      obtain ⟨⟨l', e', k'⟩, i2, i3⟩ := ih (fun c hc => h1 c (List.mem_cons_of_mem _ hc)) (fun a b hc => h2 a b (List.mem_cons_of_mem _ hc)) (fun hc => h3 (List.mem_cons_of_mem _ hc))
      simp only [List.flatMap_cons, List.length_append]
      cases x with
      | lit c =>
        have hc := h1 c List.mem_cons_self
        refine ⟨⟨.lit c :: l', by rw [e']; rfl, fun y hy => ?_⟩, by rw [show (didU (.lit c)).length = 1 from rfl, show (PU.str (.lit c)).length = 1 from rfl]; omega, fun d hd => ?_⟩
        · rcases List.mem_cons.1 hy with rfl | hy
          · exact hc
          · exact k' y hy
        · rcases List.mem_append.1 hd with hd | hd
          · obtain rfl := List.mem_singleton.1 hd; exact (plainD_no hc).2
          · exact i3 d hd
      | hex a b =>
        obtain ⟨ha', hb'⟩ := h2 a b List.mem_cons_self
        have hbytes : ∀ d ∈ PU.str (.hex a b) ++ m.flatMap PU.str, d ≠ 47 ∧ d ≠ 63 ∧ d ≠ 35 := by
          intro d hd
          rcases List.mem_append.1 hd with hd | hd
          · simp only [PU.str, List.mem_cons, List.not_mem_nil, or_false] at hd
            rcases hd with rfl | rfl | rfl
            · decide
            · have := hex_no ha'; exact ⟨this.2.1, this.2.2.1, this.2.2.2.1⟩
            · have := hex_no hb'; exact ⟨this.2.1, this.2.2.1, this.2.2.2.1⟩
          · exact i3 d hd
        have q1 : (didU (.hex a b)).length ≤ 3 := by simp only [didU, didB]; split <;> simp [esc]
        have q2 : (PU.str (.hex a b)).length = 3 := rfl
        have q3 : (if plainD (unhex a b) = true then 1 else 3) = (didU (.hex a b)).length := by simp only [didU, didB]; split <;> simp [esc]
        by_cases hp : plainD (unhex a b) = true
        · refine ⟨⟨.lit (unhex a b) :: l', by rw [e', List.flatMap_cons]; simp only [didU, didB, hp, PU.str, if_true], fun y hy => ?_⟩, by omega, hbytes⟩
          rcases List.mem_cons.1 hy with rfl | hy
          · show (plainD _ || _) = true; rw [hp]; rfl
          · exact k' y hy
        · have hp : plainD (unhex a b) = false := by simpa using hp
          have hn := (unhex a b).toNat_lt
          have hv := unhex_esc (unhex a b)
          refine ⟨⟨.hex (hexU ((unhex a b).toNat / 16)) (hexU ((unhex a b).toNat % 16)) :: l', by rw [e', List.flatMap_cons]; simp only [didU, didB, hp, PU.str, esc, Bool.false_eq_true, if_false], fun y hy => ?_⟩, by omega, hbytes⟩
          rcases List.mem_cons.1 hy with rfl | hy
          · exact ⟨by rw [hv]; exact hp, by rw [hv], by rw [hv], hexU_hex _ (by omega), hexU_hex _ (by omega)⟩
          · exact k' y hy
      | bad => exact (h3 List.mem_cons_self).elim
  exact key l hlit hhex hb
structure CanDid (d : Did) : Prop where
  method : methodOk d.method = true
  id : CanI d.id
  ne : d.id ≠ []
  last : d.id.getLast? ≠ some 58
theorem method_no {s : Bytes} (h : methodOk s = true) : ∀ c ∈ s, c ≠ 47 ∧ c ≠ 63 ∧ c ≠ 35 ∧ c ≠ 58 := by
  intro c hc
  unfold methodOk at h
  simp only [Bool.and_eq_true] at h
  have h1 := List.all_eq_true.1 h.2 c hc
  have := all256 (p := fun c => !(methodC c) || (c != 47 && c != 63 && c != 35 && c != 58)) (by decide +kernel) c
  rw [h1] at this
  simpa [and_assoc] using this
theorem did_can {s : Bytes} {d : Did} (h : didParse s = (d, 0)) : CanDid d ∧ (didText d).length ≤ s.length ∧ s.length ≤ 4096 ∧ ∀ c ∈ s, c ≠ 47 ∧ c ≠ 63 ∧ c ≠ 35 := by
  unfold didParse at h
  split at h
  · simp at h
  split at h
  · simp at h
  rename_i h1 h2
  have h2 : didS.isPrefixOf s = true := by simpa using h2
  obtain ⟨r, rfl⟩ := List.isPrefixOf_iff_prefix.1 h2
  have e4 : (didS ++ r).drop 4 = r := rfl
  rw [e4] at h
  unfold didRest at h
  split at h
  · simp at h
  split at h
  · simp at h
  rename_i h3 h4
  have h3 : (cutC 58 r).2.2 = true := by simpa using h3
  have h4 : methodOk (cutC 58 r).1 = true := by simpa using h4
  unfold didEnd at h
  split at h
  · rename_i h5; exact absurd (Prod.mk.inj h).2 h5
  split at h
  · simp at h
  rename_i h5 h6
  simp only [not_or] at h6
  simp only [Prod.mk.injEq, and_true] at h
  subst h
  have e : didCanon (cutC 58 r).2.1 = ((didCanon (cutC 58 r).2.1).1, 0) := by
    have : (didCanon (cutC 58 r).2.1).2 = 0 := by simpa using h5
    rw [← this]
  obtain ⟨k1, k2, k3⟩ := canon_can e
  have hlen := cut_parts h3
  refine ⟨⟨h4, k1, h6.1, h6.2⟩, ?_, by omega, ?_⟩
  · simp only [didText, List.length_append, List.length_cons, List.length_nil]; omega
  · have hu := uncut 58 r
    rw [if_pos h3] at hu
    intro c hc
    rcases List.mem_append.1 hc with hc | hc
    · have : ∀ c ∈ didS, c ≠ 47 ∧ c ≠ 63 ∧ c ≠ 35 := by decide
      exact this c hc
    · rw [hu] at hc
      rcases List.mem_append.1 hc with hc | hc
      · have := method_no h4 c hc; exact ⟨this.1, this.2.1, this.2.2.1⟩
      · rcases List.mem_append.1 hc with hc | hc
        · obtain rfl := List.mem_singleton.1 hc; decide
        · exact k3 c hc
theorem didParse_err (s : Bytes) (h : (didParse s).2 ≠ 0) : (didParse s).1 = Did.none := by
  unfold didParse at h ⊢
  split
  · rfl
  rename_i h1
  rw [if_neg h1] at h
  split
  · rfl
  rename_i h2
  rw [if_neg h2] at h
  unfold didRest at h ⊢
  split
  · rfl
  rename_i h3
  rw [if_neg h3] at h
  split
  · rfl
  rename_i h4
  rw [if_neg h4] at h
  unfold didEnd at h ⊢
  split
  · rfl
  rename_i h5
  rw [if_neg h5] at h
  split
  · rfl
  rename_i h6
  rw [if_neg h6] at h
  exact absurd rfl h
theorem did_read {d : Did} (h : CanDid d) (hl : (didText d).length ≤ 4096) : didParse (didText d) = (d, 0) := by
  unfold didParse
  have e1 : didS.isPrefixOf (didText d) = true := rfl
  have e2 : (didText d).drop 4 = d.method ++ 58 :: d.id := by show d.method ++ [58] ++ d.id = _; simp
  rw [if_neg (by omega), if_neg (by rw [e1]; simp), e2]
  unfold didRest
  rw [cutC_some (pre_none (fun k => (method_no h.method _ k).2.2.2 rfl)), if_neg (by simp), if_neg (by simp [h.method])]
  simp only
  rw [canI_canon h.id]
  unfold didEnd
  rw [if_neg (by simp), if_neg (by simp only [not_or]; exact ⟨h.ne, h.last⟩)]
structure CanDidUrl (u : DidUrl) : Prop where
  did : CanDid u.did
  path : Can inPath u.path
  slash : u.path = [] ∨ ∃ r, u.path = 47 :: r
  query : Can inQuery u.query
  frag : Can inQuery u.fragment
  noq : u.hasQuery = false → u.query = []
  nof : u.hasFrag = false → u.fragment = []
end Wf
/- Plain laws on DIDs: what the program and the reference compute for an identifier. -/
set_option linter.all false
namespace Wf
open Go Go.RowKit
def repB (c : UInt8) (new : Bytes) (d : UInt8) : Bytes := if d = c then new else [d]
theorem rep_none {c : UInt8} {new s : Bytes} (h : c ∉ s) : s.flatMap (repB c new) = s := by
  induction s with
  | nil => rfl
  | cons d s ih =>
    simp only [List.mem_cons, not_or] at h
    rw [List.flatMap_cons, ih h.2]
    unfold repB
    rw [if_neg (fun e => h.1 e.symm)]; rfl
theorem replaceK_one (c : UInt8) (new : Bytes) : ∀ (k : Nat) (s : Bytes), s.count c = k → Lib.replaceK [c] new k s = s.flatMap (repB c new) := by
  intro k
  induction k with
  | zero =>
    intro s h
    rw [rep_none (fun hm => by have := List.count_pos_iff.2 hm; omega)]; rfl
  | succ k ih =>
    intro s h
    by_cases hp : pre (· == c) s < s.length
    · have hk : Lib.index s [c] = (pre (· == c) s : Nat) := by rw [index_one, indexByte_pre, if_pos hp]
      rw [Lib.replaceK_hit [c] new k s _ hk]
      rw [count_pre hp] at h
      have e : s = s.take (pre (· == c) s) ++ c :: s.drop (pre (· == c) s + 1) := by
        have := pre_at hp
        simp only [beq_iff_eq] at this
        conv => lhs; rw [← List.take_append_drop (pre (· == c) s) s, List.drop_eq_getElem_cons hp, this]
      have hn : c ∉ s.take (pre (· == c) s) := by
        intro hm
        have h1 := pre_take (· == c) s
        obtain ⟨j, hj, e⟩ := List.getElem_of_mem hm
        have := pre_get (p := (· == c)) (l := s.take (pre (· == c) s)) (k := j) (by omega) hj
        rw [e] at this
        simp at this
      rw [show [c].length = 1 from rfl, ih _ (by omega)]
      conv => rhs; rw [e, List.flatMap_append, List.flatMap_cons, rep_none hn]
      simp [repB]
    · rw [count_zero hp] at h; omega
theorem replaceAll_one (c : UInt8) (new s : Bytes) (hne : ([c] == new) = false) : Lib.replaceAll s [c] new = s.flatMap (repB c new) := by
  unfold Lib.replaceAll Lib.replace Lib.replaceNum
  rw [hne, if_neg (by simp), if_pos (.inl (by omega)), Lib.count_one, replaceK_one c new _ s rfl]
/-! The program's way. -/
def nU : PU → Bytes
  | .lit c => [c]
  | .hex a b => normB (unhex a b)
  | .bad => []
def litKeep (also : Bytes) : PU → Bool
  | .lit c => keepB also c
  | _ => true
theorem normU_nobad (also : Bytes) : ∀ l : List PU, PU.bad ∉ l → normU also l = if l.all (litKeep also) then (l.flatMap nU, 0) else ([], 1)
  | [], _ => rfl
  | .bad :: r, h => by simp at h
  | .lit c :: r, h => by
    rw [normU, normU_nobad also r (by simpa using h), List.all_cons]
    cases hk : keepB also c
    · simp [litKeep, hk]
    · cases hr : r.all (litKeep also) <;> simp [litKeep, hk, comb, nU]
  | .hex a b :: r, h => by
    rw [normU, normU_nobad also r (by simpa using h), List.all_cons]
    cases hr : r.all (litKeep also) <;> simp [litKeep, comb, nU]
def progCanon (s : Bytes) : Bytes × Int :=
  if (pctDecode s).2 ≠ 0 then ([], (pctDecode s).2)
  else ((pctNorm [58] s).1.flatMap (repB 126 [37, 55, 69]), if (pctNorm [58] s).2 = 0 ∧ (126 : UInt8) ∈ s then 1 else (pctNorm [58] s).2)
theorem rep_norm (v : UInt8) : (normB v).flatMap (repB 126 [37, 55, 69]) = didB v := by
  have := all256 (p := fun v => (normB v).flatMap (repB 126 [37, 55, 69]) == didB v) (by decide +kernel) v
  simpa using this
theorem lit_mem {s : Bytes} {c : UInt8} (hb : PU.bad ∉ units s) (hc : c ≠ 37) (hx : isHex c = false) : c ∈ s ↔ PU.lit c ∈ units s := by
  have hs := units_back hb
  constructor
  · intro h
    rw [← hs] at h
    obtain ⟨u, hu, h⟩ := List.mem_flatMap.1 h
    cases u with
    | lit d => obtain rfl := List.mem_singleton.1 h; exact hu
    | hex a b =>
      have := units_hexes hu
      simp only [PU.str, List.mem_cons, List.not_mem_nil, or_false] at h
      rcases h with rfl | rfl | rfl
      · exact absurd rfl hc
      · rw [this.1] at hx; cases hx
      · rw [this.2] at hx; cases hx
    | bad => simp [PU.str] at h
  · intro h
    rw [← hs]
    exact List.mem_flatMap.2 ⟨_, h, List.mem_singleton.2 rfl⟩
theorem progCanon_eq (s : Bytes) (hl : s.length ≤ 16384) : (progCanon s).2 = (didCanon s).2 ∧ ((didCanon s).2 = 0 → (progCanon s).1 = (didCanon s).1) := by
  have d1 : pctDecode s = if PU.bad ∈ units s then ([], 2) else ((units s).map PU.val, 0) := if_neg (by omega)
  have d2 : pctNorm [58] s = normU [58] (units s) := by unfold pctNorm; first | rfl | exact if_neg (by omega)
  unfold progCanon didCanon
  rw [d1, d2]
  clear d1 d2
  by_cases hb : PU.bad ∈ units s
  · rw [if_pos hb, if_pos hb]; simp
  · rw [if_neg hb, if_neg hb, normU_nobad [58] _ hb]
    simp only [ne_eq, not_true, if_false]
    have key : ∀ c : UInt8, (plainD c || c == 58) = (keepB [58] c && c != 126) := fun c => by
      have := all256 (p := fun c => (plainD c || c == 58) == (keepB [58] c && c != 126)) (by decide +kernel) c
      simpa using this
    have h126 := lit_mem (s := s) (c := 126) hb (by decide) (by decide)
    generalize units s = l at *
    by_cases ha : l.all (litKeep [58]) = true
    · rw [if_pos ha]
      by_cases hm : PU.lit 126 ∈ l
      · have hno : l.all litOk = false := by
          rw [← Bool.not_eq_true]
          intro h
          have := List.all_eq_true.1 h _ hm
          revert this; decide
        rw [if_pos hno, if_pos ⟨rfl, h126.2 hm⟩]
        exact ⟨rfl, fun h => by simp at h⟩
      · have hyes : ¬ l.all litOk = false := by
          rw [Bool.not_eq_false]
          refine List.all_eq_true.2 fun u hu => ?_
          have := List.all_eq_true.1 ha u hu
          cases u with
          | lit c =>
            show (plainD c || c == 58) = true
            rw [key]
            have h1 : keepB [58] c = true := this
            rw [h1, Bool.true_and, bne_iff_ne]
            rintro rfl; exact hm hu
          | hex a b => rfl
          | bad => rfl
        rw [if_neg hyes, if_neg (fun k => hm (h126.1 k.2))]
        refine ⟨rfl, fun _ => ?_⟩
        show (l.flatMap nU).flatMap (repB 126 [37, 55, 69]) = l.flatMap didU
        clear hyes h126 ha
        induction l with
        | nil => rfl
        | cons u l ih =>
          rw [List.flatMap_cons, List.flatMap_append, List.flatMap_cons, ih (fun k => hb (List.mem_cons_of_mem _ k)) (fun k => hm (List.mem_cons_of_mem _ k)) rfl]
          congr 1
          cases u with
          | lit c =>
            have : c ≠ 126 := by rintro rfl; exact hm List.mem_cons_self
            show ([c] : Bytes).flatMap (repB 126 [37, 55, 69]) = [c]
            simp [repB, this]
          | hex a b => exact rep_norm _
          | bad => rfl
    · rw [if_neg ha]
      have hno : l.all litOk = false := by
        rw [← Bool.not_eq_true]
        intro h
        refine ha (List.all_eq_true.2 fun u hu => ?_)
        have := List.all_eq_true.1 h u hu
        cases u with
        | lit c =>
          have h1 : (plainD c || c == 58) = true := this
          rw [key, Bool.and_eq_true] at h1
          exact h1.1
        | hex a b => rfl
        | bad => rfl
      rw [if_pos hno, if_neg (by simp)]
      exact ⟨rfl, fun h => by simp at h⟩
/-! The reference's way: segment by segment. -/
theorem units_app_bad : ∀ (n : Nat) (a b : Bytes), a.length ≤ n → PU.bad ∈ units a → PU.bad ∈ units (a ++ 58 :: b)
  | _, [], b, _, h => by simp [units_nil] at h
  | 0, c :: a, b, h, _ => by simp at h
  | n + 1, c :: a, b, h, hb => by
    simp only [List.length_cons] at h
    by_cases hc : c = 37
    · subst hc
      cases hp : hexPair a with
      | none =>
        have : hexPair (a ++ 58 :: b) = none := by
          rcases a with _ | ⟨u, _ | ⟨v, r⟩⟩
          · cases b <;> simp [hexPair, show isHex 58 = false by decide]
          · simp [hexPair, show isHex 58 = false by decide]
          · unfold hexPair at hp ⊢
            simp only [List.cons_append]
            by_cases hx : (isHex u && isHex v) = true
            · simp [hx] at hp
            · simp [hx]
        rw [List.cons_append, units_bad this]; simp
      | some x =>
        obtain ⟨u, v, r⟩ := x
        obtain ⟨rfl, h1, h2⟩ := hexPair_some hp
        rw [units_hex h1 h2] at hb
        simp only [List.length_cons] at h
        simp only [List.cons_append]
        rw [units_hex h1 h2]
        exact List.mem_cons_of_mem _ (units_app_bad n r b (by omega) (by simpa using hb))
    · rw [units_lit hc] at hb
      rw [List.cons_append, units_lit hc]
      exact List.mem_cons_of_mem _ (units_app_bad n a b (by omega) (by simpa using hb))
theorem segs_units : ∀ (l : List Bytes) (x : Bytes), ((∃ y ∈ x :: l, PU.bad ∈ units y) ↔ PU.bad ∈ units (x ++ l.flatMap (58 :: ·))) ∧
    ((∀ y ∈ x :: l, PU.bad ∉ units y) → units (x ++ l.flatMap (58 :: ·)) = units x ++ l.flatMap (fun y => .lit 58 :: units y))
  | [], x => by simp
  | y :: l, x => by
    obtain ⟨h1, h2⟩ := segs_units l y
    have e : x ++ (y :: l).flatMap (58 :: ·) = x ++ 58 :: (y ++ l.flatMap (58 :: ·)) := by simp
    rw [e]
    constructor
    · constructor
      · rintro ⟨z, hz, hb⟩
        by_cases hx : PU.bad ∈ units x
        · exact units_app_bad _ _ _ (Nat.le_refl _) hx
        · rw [units_app_colon _ _ _ (Nat.le_refl _) hx]
          rcases List.mem_cons.1 hz with rfl | hz
          · exact absurd hb hx
          · exact List.mem_append_right _ (List.mem_cons_of_mem _ (h1.1 ⟨z, hz, hb⟩))
      · intro hb
        by_cases hx : PU.bad ∈ units x
        · exact ⟨x, List.mem_cons_self, hx⟩
        · rw [units_app_colon _ _ _ (Nat.le_refl _) hx] at hb
          rcases List.mem_append.1 hb with hb | hb
          · exact absurd hb hx
          · simp only [List.mem_cons, reduceCtorEq, false_or] at hb
            obtain ⟨z, hz, hb⟩ := h1.2 hb
            exact ⟨z, List.mem_cons_of_mem _ hz, hb⟩
    · intro h
      rw [units_app_colon _ _ _ (Nat.le_refl _) (h x List.mem_cons_self), h2 (fun z hz => h z (List.mem_cons_of_mem _ hz))]
      simp
def segPlain (y : Bytes) : Bool := y.all fun c => plainD c || c == 37
def decV (y : Bytes) : Bytes := (units y).map PU.val
theorem hex_plain {c : UInt8} (h : isHex c = true) : plainD c = true := by
  have := all256 (p := fun c => !(isHex c) || plainD c) (by decide +kernel) c
  rw [h] at this
  simpa using this
theorem segPlain_units {y : Bytes} (hb : PU.bad ∉ units y) (hc : (58 : UInt8) ∉ y) : segPlain y = (units y).all litOk := by
  have key : ∀ l : List PU, (∀ a b, PU.hex a b ∈ l → isHex a = true ∧ isHex b = true) → (∀ c, PU.lit c ∈ l → c ≠ 37) → (58 : UInt8) ∉ l.flatMap PU.str →
      (l.flatMap PU.str).all (fun c => plainD c || c == 37) = l.all litOk := by
    intro l
    induction l with
    | nil => intros; rfl
    | cons u l ih =>
      intro hh hl hc
      have ih := ih (fun a b k => hh a b (List.mem_cons_of_mem _ k)) (fun c k => hl c (List.mem_cons_of_mem _ k)) (fun k => hc (by rw [List.flatMap_cons]; exact List.mem_append_right _ k))
      rw [List.flatMap_cons, List.all_append, List.all_cons, ih]
      congr 1
      cases u with
      | lit c =>
        have h1 : c ≠ 37 := hl c List.mem_cons_self
        have h2 : c ≠ 58 := by rintro rfl; exact hc (by simp [PU.str])
        have e1 : (c == 37) = false := by simpa using h1
        have e2 : (c == 58) = false := by simpa using h2
        simp [PU.str, litOk, e1, e2]
      | hex a b =>
        obtain ⟨h1, h2⟩ := hh a b List.mem_cons_self
        simp [PU.str, litOk, hex_plain h1, hex_plain h2]
      | bad => rfl
  have := key (units y) (fun a b => units_hexes) (units_litne y) (by rw [units_back hb]; exact hc)
  rw [units_back hb] at this
  exact this
theorem didEsc_units2 {l : List PU} (h : ∀ c, PU.lit c ∈ l → plainD c = true) (hb : PU.bad ∉ l) : l.flatMap didU = didEsc (l.map PU.val) := by
  induction l with
  | nil => rfl
  | cons u l ih =>
    have ih := ih (fun c k => h c (List.mem_cons_of_mem _ k)) (fun k => hb (List.mem_cons_of_mem _ k))
    rw [List.flatMap_cons, ih, List.map_cons]
    show _ = didB u.val ++ didEsc (l.map PU.val)
    congr 1
    cases u with
    | lit c => simp [didU, PU.val, didB, h c List.mem_cons_self]
    | hex a b => rfl
    | bad => exact absurd List.mem_cons_self hb
def segsId (x : Bytes) (l : List Bytes) : Bytes := didEsc (decV x) ++ l.flatMap fun y => 58 :: didEsc (decV y)
theorem segs_canon {s x : Bytes} {l : List Bytes} (e : s = x ++ l.flatMap (58 :: ·)) (hn : ∀ y ∈ x :: l, (58 : UInt8) ∉ y) :
    didCanon s = if ∃ y ∈ x :: l, PU.bad ∈ units y then ([], 2) else if (x :: l).all segPlain = false then ([], 1) else (segsId x l, 0) := by
  obtain ⟨h1, h2⟩ := segs_units l x
  rw [← e] at h1 h2
  unfold didCanon
  by_cases hb : ∃ y ∈ x :: l, PU.bad ∈ units y
  · rw [if_pos hb, if_pos (h1.1 hb)]
  · rw [if_neg hb, if_neg (fun k => hb (h1.2 k))]
    have hb : ∀ y ∈ x :: l, PU.bad ∉ units y := fun y hy k => hb ⟨y, hy, k⟩
    rw [h2 hb]
    have hall : (units x ++ l.flatMap fun y => PU.lit 58 :: units y).all litOk = (x :: l).all segPlain := by
      rw [List.all_append, List.all_cons, segPlain_units (hb x List.mem_cons_self) (hn x List.mem_cons_self)]
      congr 1
      have : ∀ m : List Bytes, (∀ y ∈ m, PU.bad ∉ units y ∧ (58 : UInt8) ∉ y) → (m.flatMap fun y => PU.lit 58 :: units y).all litOk = m.all segPlain := by
        intro m
        induction m with
        | nil => intro _; rfl
        | cons y m ih =>
          intro hm
          rw [List.flatMap_cons, List.all_append, List.all_cons, List.all_cons, ih (fun z hz => hm z (List.mem_cons_of_mem _ hz)), segPlain_units (hm y List.mem_cons_self).1 (hm y List.mem_cons_self).2]
          rfl
      exact this l fun y hy => ⟨hb y (List.mem_cons_of_mem _ hy), hn y (List.mem_cons_of_mem _ hy)⟩
    rw [hall]
    by_cases ha : (x :: l).all segPlain = false
    · rw [if_pos ha, if_pos ha]
    · rw [if_neg ha, if_neg ha]
      have ha : (x :: l).all segPlain = true := by simpa using ha
      congr 1
      have hp : ∀ y ∈ x :: l, (units y).flatMap didU = didEsc (decV y) := by
        intro y hy
        refine didEsc_units2 (fun c hc => ?_) (hb y hy)
        have h3 := List.all_eq_true.1 ha y hy
        rw [segPlain_units (hb y hy) (hn y hy)] at h3
        have h4 : (plainD c || c == 58) = true := List.all_eq_true.1 h3 _ hc
        have h5 : c ≠ 58 := by
          rintro rfl
          exact hn y hy ((lit_mem (hb y hy) (by decide) (by decide)).2 hc)
        simpa [h5] using h4
      rw [List.flatMap_append, hp x List.mem_cons_self]
      unfold segsId
      congr 1
      have : ∀ m : List Bytes, (∀ y ∈ m, (units y).flatMap didU = didEsc (decV y)) → (m.flatMap fun y => PU.lit 58 :: units y).flatMap didU = m.flatMap fun y => 58 :: didEsc (decV y) := by
        intro m
        induction m with
        | nil => intro _; rfl
        | cons y m ih =>
          intro hm
          rw [List.flatMap_cons, List.flatMap_append, List.flatMap_cons, List.flatMap_cons, ih (fun z hz => hm z (List.mem_cons_of_mem _ hz)), hm y List.mem_cons_self]
          rfl
      exact this l fun y hy => hp y (List.mem_cons_of_mem _ hy)
theorem esc_no58 (s : Bytes) : (58 : UInt8) ∉ didEsc s := by
  intro hc
  obtain ⟨d, -, hd⟩ := List.mem_flatMap.1 hc
  have h1 := all256 (p := fun d => (didB d).all fun c => c != 58) (by decide +kernel) d
  have := List.all_eq_true.1 h1 _ hd
  simp at this
theorem esc_nil {s : Bytes} : didEsc s = [] ↔ s = [] := by
  constructor
  · intro h
    cases s with
    | nil => rfl
    | cons c s =>
      have : didB c ++ didEsc s = [] := h
      have h2 : didB c = [] := (List.append_eq_nil_iff.1 this).1
      unfold didB esc at h2
      split at h2 <;> simp at h2
  · rintro rfl; rfl
theorem decV_nil {y : Bytes} (hb : PU.bad ∉ units y) : decV y = [] ↔ y = [] := by
  constructor
  · intro h
    have : units y = [] := List.map_eq_nil_iff.1 h
    rw [← units_back hb, this]; rfl
  · rintro rfl; rfl
theorem segs_last {x : Bytes} {l : List Bytes} (hb : ∀ y ∈ x :: l, PU.bad ∉ units y) : (segsId x l = [] ∨ (segsId x l).getLast? = some 58) ↔ (x :: l).getLast? = some [] := by
  have last : ∀ y : Bytes, (didEsc y).getLast? ≠ some 58 := fun y k => esc_no58 y (List.mem_of_getLast? k)
  rcases List.eq_nil_or_concat l with rfl | ⟨m, z, rfl⟩
  · unfold segsId
    rw [List.flatMap_nil, List.append_nil, esc_nil, decV_nil (hb x List.mem_cons_self)]
    simp [last]
  · rw [List.concat_eq_append] at *
    have hz := hb z (by simp)
    have e : segsId x (m ++ [z]) = segsId x m ++ 58 :: didEsc (decV z) := by simp [segsId]
    rw [e, show x :: (m ++ [z]) = (x :: m) ++ [z] by simp, List.getLast?_append, List.getLast?_append]
    simp only [List.getLast?_singleton, Option.some_or, Option.some.injEq]
    constructor
    · rintro (h | h)
      · simp at h
      · cases hd : didEsc (decV z) with
        | nil => exact (decV_nil hz).1 (esc_nil.1 hd)
        | cons a r =>
          rw [hd] at h
          rw [List.getLast?_cons_cons, ← hd] at h
          cases hq : (didEsc (decV z)).getLast? with
          | none => rw [List.getLast?_eq_none_iff] at hq; rw [hq] at hd; cases hd
          | some w => rw [hq] at h; exact absurd (by rw [hq]; simpa using h) (last (decV z))
    · rintro rfl
      right
      simp [decV, units_nil, didEsc]
end Wf
/- Plain: the parts of a DID URL, cut from the other end; and the segments of an ID. -/
set_option linter.all false
namespace Wf
open Go Go.RowKit
theorem pre_past {p : UInt8 → Bool} : ∀ {a : Bytes} (r : Bytes), (∀ c ∈ a, p c = false) → pre p (a ++ r) = a.length + pre p r
  | [], r, _ => by simp
  | c :: a, r, h => by
    have h1 := h c List.mem_cons_self
    have ih := pre_past (a := a) r (fun d hd => h d (List.mem_cons_of_mem _ hd))
    rw [List.cons_append, pre_cons, h1, if_neg (by simp), ih, List.length_cons]
    omega
theorem cutC_past {c : UInt8} {a : Bytes} (r : Bytes) (h : c ∉ a) : cutC c (a ++ r) = (a ++ (cutC c r).1, (cutC c r).2.1, (cutC c r).2.2) := by
  have hp : pre (· == c) (a ++ r) = a.length + pre (· == c) r := pre_past r fun d hd => by
    have : d ≠ c := by rintro rfl; exact h hd
    simpa using this
  by_cases hr : pre (· == c) r < r.length
  · rw [show cutC c r = (r.take (pre (· == c) r), r.drop (pre (· == c) r + 1), true) from if_pos hr]
    rw [show cutC c (a ++ r) = ((a ++ r).take (pre (· == c) (a ++ r)), (a ++ r).drop (pre (· == c) (a ++ r) + 1), true) from if_pos (by rw [hp, List.length_append]; omega)]
    rw [hp, List.take_length_add_append, Nat.add_assoc, List.drop_length_add_append]
  · have hle := pre_le (· == c) r
    rw [cutC_none (s := r) (by omega), cutC_none (s := a ++ r) (by rw [hp, List.length_append]; omega)]
def didHead (s : Bytes) : Nat := pre ([47, 63, 35].contains ·) s
/-! The segments of an ID, as the reference takes them. -/
theorem split_segs (c : UInt8) : ∀ (n : Nat) (s : Bytes), s.length ≤ n → ∃ x l, splitC c s = x :: l ∧ s = x ++ l.flatMap (c :: ·) ∧ ∀ y ∈ x :: l, c ∉ y := by
  intro n
  induction n with
  | zero =>
    intro s h
    obtain rfl := List.length_eq_zero_iff.1 (Nat.le_zero.1 h)
    exact ⟨[], [], rfl, rfl, by simp⟩
  | succ n ih =>
    intro s h
    have hno : c ∉ s.take (pre (· == c) s) := by
      intro hm
      obtain ⟨j, hj, e⟩ := List.getElem_of_mem hm
      have hj2 : j < pre (· == c) s ∧ j < s.length := by rw [List.length_take] at hj; omega
      have := pre_get (p := (· == c)) (l := s) (k := j) hj2.1 hj2.2
      rw [List.getElem_take] at e
      rw [e] at this
      simp at this
    by_cases hp : pre (· == c) s < s.length
    · obtain ⟨x, l, e1, e2, e3⟩ := ih (s.drop (pre (· == c) s + 1)) (by simp; omega)
      refine ⟨s.take (pre (· == c) s), x :: l, by rw [splitC_hit hp, e1], ?_, ?_⟩
      · have hg := pre_at hp
        simp only [beq_iff_eq] at hg
        conv => lhs; rw [← List.take_append_drop (pre (· == c) s) s, List.drop_eq_getElem_cons hp, hg, e2]
        simp
      · intro y hy
        rcases List.mem_cons.1 hy with rfl | hy
        · exact hno
        · exact e3 y hy
    · have hq := pre_le (· == c) s
      rw [List.take_of_length_le (by omega)] at hno
      exact ⟨s, [], splitC_miss hp, by simp, by simpa using hno⟩
def segsJoin : List Bytes → Bytes
  | [] => []
  | x :: l => segsId x l
theorem segsJoin_snoc (l : List Bytes) (y : Bytes) : segsJoin (l ++ [y]) = segsJoin l ++ (if l = [] then [] else [58]) ++ didEsc (decV y) := by
  cases l with
  | nil => simp [segsJoin, segsId]
  | cons x l => simp [segsJoin, segsId]
theorem segsJoin_take {l : List Bytes} {k : Nat} (h : k < l.length) : segsJoin (l.take (k + 1)) = segsJoin (l.take k) ++ (if k = 0 then [] else [58]) ++ didEsc (decV l[k]) := by
  rw [List.take_succ_eq_append_getElem h, segsJoin_snoc]
  congr 2
  cases k with
  | zero => simp
  | succ k => cases l with
    | nil => simp at h
    | cons x l => simp
theorem didB_len (c : UInt8) : (didB c).length ≤ 3 := by unfold didB; split <;> simp [esc]
theorem didEsc_len (s : Bytes) : (didEsc s).length ≤ 3 * s.length := by
  induction s with
  | nil => simp [didEsc]
  | cons c s ih =>
    have := didB_len c
    show (didB c ++ didEsc s).length ≤ _
    rw [List.length_append, List.length_cons]
    omega
theorem unitsGo_cnt : ∀ (f : Nat) (s : Bytes), (unitsGo f s).length ≤ f
  | 0, s => by simp [unitsGo]
  | f + 1, [] => by simp [unitsGo]
  | f + 1, c :: r => by
    rw [unitsGo]
    split
    · split
      · rename_i a b r' h
        have := unitsGo_cnt f r'
        simpa using this
      · simp
    · have := unitsGo_cnt f r
      simpa using this
theorem decV_len (y : Bytes) : (decV y).length ≤ y.length := by
  have := unitsGo_cnt y.length y
  simpa [decV, units] using this
theorem segsJoin_len : ∀ (l : List Bytes), (segsJoin l).length ≤ 3 * l.flatten.length + l.length
  | [] => by simp [segsJoin]
  | x :: l => by
    have h1 := didEsc_len (decV x)
    have h2 := decV_len x
    have h3 : ∀ m : List Bytes, (m.flatMap fun y => 58 :: didEsc (decV y)).length ≤ 3 * m.flatten.length + m.length := by
      intro m
      induction m with
      | nil => simp
      | cons y m ih =>
        have k1 := didEsc_len (decV y)
        have k2 := decV_len y
        simp only [List.flatMap_cons, List.length_append, List.length_cons, List.flatten_cons] at ih ⊢
        omega
    have h4 := h3 l
    simp only [segsJoin, segsId, List.length_append, List.flatten_cons, List.length_cons]
    omega
theorem didEnd_segs (m s : Bytes) : didEnd m (didCanon s) =
    if ∃ y ∈ splitC 58 s, PU.bad ∈ units y then (Did.none, 2) else if (splitC 58 s).all segPlain = false then (Did.none, 1)
    else if (splitC 58 s).getLast? = some [] then (Did.none, 3) else (⟨m, segsJoin (splitC 58 s)⟩, 0) := by
  obtain ⟨x, l, e1, e2, e3⟩ := split_segs 58 _ s (Nat.le_refl _)
  rw [e1, segs_canon e2 e3]
  by_cases hb : ∃ y ∈ x :: l, PU.bad ∈ units y
  · rw [if_pos hb, if_pos hb]; rfl
  rw [if_neg hb, if_neg hb]
  by_cases ha : (x :: l).all segPlain = false
  · rw [if_pos ha, if_pos ha]; rfl
  rw [if_neg ha, if_neg ha]
  have hb : ∀ y ∈ x :: l, PU.bad ∉ units y := fun y hy k => hb ⟨y, hy, k⟩
  have hs := segs_last hb
  unfold didEnd
  rw [if_neg (by simp)]
  by_cases hq : (x :: l).getLast? = some []
  · rw [if_pos hq, if_pos (hs.2 hq)]
  · rw [if_neg hq, if_neg (fun k => hq (hs.1 k))]; rfl
theorem decode_seg {y : Bytes} (h : y.length ≤ 16384) : pctDecode y = if PU.bad ∈ units y then ([], 2) else (decV y, 0) := if_neg (by omega)
end Wf
