/- Texts of this claim, laid together: Vc7, Frame, Laid, ProgF, VcB, SlRows, BodyP, BodyQ, PlainQ, HeadP. -/
import Derived.Still
import Derived.Test.YtfmafmgbfamaiaaGreatDoorRows
import Derived.WalkKit
import Derived.ProofKit
import Derived.OpenShut
import Derived.Shelf.Vars
import Derived.ShutString
import Derived.WideKeyArgs
import Derived.ChangeSame
import Derived.Deep.DeepHandedRow
import Derived.Deep.DeepLaidRun
import Derived.Lib.LaidTab
import Derived.Lib.SmallJoins
import Derived.SizedLaws
import Derived.Test.YtfmafmgbfamaiaaGreatDoorCards
import Derived.Test.YtfmafmgbfamaiaaGreatDoorTie
import Derived.Deep.Slices
import Derived.Test.YtfmafmgbfamaiaaGreatDoorM2
/- A calculus of conditions: whole functions, drawn regions, and the soundness of the reckoned conditions. -/
set_option linter.all false
namespace Vc
open Go Go.RowKit Wf
inductive StepR where
  | go (c : Prop) (σ : St)
  | call (f : FuncId) (args : List SV) (dst : Option Tmp) (σ : St)
  | bad
def goR (dst : Option Tmp) (σ : St) : Option (Prop × SV) → StepR → StepR
  | some (c, x), _ => .go c ⟨put dst x σ.t, σ.b⟩
  | none, m => m
def XC (V : Cx) (dst : Option Tmp) (T : TypeId) (σ : St) : StepR := match V.Γ T with
  | some ti => .go True ⟨put dst (.p σ.b.length 0) σ.t, σ.b ++ [.cells ti.zero T true]⟩
  | none => .bad
def sBox (dst : Option Tmp) (T : TypeId) (x : Operand) (σ : St) : StepR := match ev σ.t x with
  | some x => .go (isV x = false) ⟨put dst (.p σ.b.length 0) σ.t, σ.b ++ [.cells (cells x) T true]⟩
  | none => .bad
def XU (V : Cx) (dst : Option Tmp) (T : TypeId) (x : Operand) (σ : St) : StepR := match ev σ.t x with
  | some (.p i off) => match getB σ.b i with
    | some (c, _, _) => match V.Γ T with
      | some ti => match XM ti.agg off ti.size c with
        | some x => .go (off + ti.size ≤ c.length) ⟨put dst x σ.t, σ.b⟩
        | none => .bad
      | none => .bad
    | none => .bad
  | _ => .bad
def XH (V : Cx) (dst : Option Tmp) (T : TypeId) (x y : Operand) (σ : St) : StepR := match ev σ.t x with
  | some (.p i off) => match ev σ.t y with
    | some y => match getB σ.b i with
      | some (c, _, m) => match sz V.Γ T with
        | some s => .go (m = true ∧ (cells y).all one = true ∧ (cells y).length = s ∧ off + s ≤ c.length) ⟨put dst (.v undef) σ.t, setB σ.b i (Xs c off (cells y))⟩
        | none => .bad
      | none => .bad
    | none => .bad
  | _ => .bad
def Xr (V : Cx) (dst : Option Tmp) (T : TypeId) (ps : List (Nat × Operand)) (σ : St) : StepR := match V.Γ T with
  | some ti => match ti.kind with
    | .struct fs => match Xl σ.t ps with
      | some ps => match XZ fs V.Γ ps ti.zero with
        | some c => .go True ⟨put dst (.agg c) σ.t, σ.b⟩
        | none => .bad
      | none => .bad
    | _ => .bad
  | none => .bad
def Xt : Fn → Bool
  | .func _ => true
  | _ => false
def sNil (dst : Option Tmp) (x : Operand) (σ : St) : StepR := match ev σ.t x with
  | some (.p i off) => .go True ⟨put dst (.p i off) σ.t, σ.b⟩
  | some (.fn f l) => .go (Xt f = true) ⟨put dst (.fn f l) σ.t, σ.b⟩
  | some (.mv f l) => .go True ⟨put dst (.mv f l) σ.t, σ.b⟩
  | _ => .bad
def XL (dst : Option Tmp) (f : Operand) (args : List Operand) (σ : St) : StepR := match ev σ.t f with
  | some (.fn (.func f) caps) => match evs σ.t args with
    | some l => .call f (l ++ caps) dst σ
    | none => .bad
  | some (.mv f first) => match evs σ.t args with
    | some l => .call f (first ++ l) dst σ
    | none => .bad
  | _ => .bad
def Yd (V : Cx) (dst : Option Tmp) : Op → St → StepR
  | .alloc T, σ => XC V dst T σ
  | .box T x, σ => sBox dst T x σ
  | .load T x, σ => XU V dst T x σ
  | .store T x y, σ => XH V dst T x y σ
  | .build T ps, σ => Xr V dst T ps.toList σ
  | .nilCheck x, σ => sNil dst x σ
  | .call ⟨.value f, args, _⟩, σ => XL dst f args.toList σ
  | _, _ => .bad
def stepO1 (V : Cx) (dst : Option Tmp) (op : Op) (σ : St) : StepR := goR dst σ (pv V.Γ σ.t op) (Yd V dst op σ)
def orN : Option (Prop × St) → StepR → StepR
  | some (c, σ), _ => .go c σ
  | none, m => m
def XR (V : Cx) (dst : Option Tmp) (op : Op) (σ : St) : StepR := goR dst σ (pv V.Γ σ.t op) (orN (Yl V dst op σ) (Yd V dst op σ))
def HoldsR (V : Cx) (K : St → Prop) : StepR → Prop
  | .go c σ => c ∧ K σ
  | .call f args dst σ => (∃ r, PC V f args r ∧ K ⟨put dst r σ.t, σ.b⟩) ∨ (∃ R, SC V f args σ.b R ∧ ∀ r bs, R r bs → K ⟨put dst r σ.t, bs⟩)
  | .bad => False
theorem vcO_of_step {V : Cx} {n : Nat} {dst : Option Tmp} {op : Op} {σ : St} {K : St → Prop} (hf : fits n dst = true) (h : HoldsR V K (stepO1 V dst op σ)) : vcO V n dst op σ K := by
  refine ⟨hf, ?_⟩
  unfold stepO1 at h
  split
  · rename_i c x hp
    rw [hp] at h
    exact h
  · rename_i hp
    rw [hp] at h
    simp only [goR] at h
    cases op <;> simp only [Yd] at h <;> simp only [vcM]
    case alloc T => unfold XC at h; (repeat' split at h) <;> simp_all [HoldsR]
    case box T x => unfold sBox at h; (repeat' split at h) <;> simp_all [HoldsR]
    case load T x => unfold XU at h; (repeat' split at h) <;> simp_all [HoldsR]
    case store T x y => unfold XH at h; (repeat' split at h) <;> simp_all [HoldsR]
    case build T ps => unfold Xr at h; (repeat' split at h) <;> simp_all [HoldsR]
    case nilCheck x =>
      unfold sNil at h
      split at h
      · rename_i e; rw [e]; exact h.2
      · rename_i f l e
        rw [e]
        refine ⟨?_, h.2⟩
        have := h.1
        cases f <;> simp [Xt] at this ⊢
      · rename_i f l e; rw [e]; exact h.2
      · cases h
    case call c =>
      obtain ⟨callee, args, ts⟩ := c
      cases callee <;> simp only at h ⊢
      case value f => unfold XL at h; (repeat' split at h) <;> simp_all [HoldsR]
      all_goals exact h
    all_goals exact h
theorem stepO_sound {V : Cx} {F : Fx V} {dst : Option Tmp} {op : Op} {σ : St} {K : St → Prop} (hfit : fits F.n dst = true) (h : HoldsR V K (XR V dst op σ)) {a : Act} {w : World} (hr : Rel F σ a w) (ty : TypeId) (pos : String) (after : Array Edge) (guard : Option (Nat × Bool)) (Q : Exit → Act → World → Prop) :
    (⟨dst, op, ty, pos, after, guard⟩ : Oper).wp V.P a w (fun a w => ∃ σ, K σ ∧ Rel F σ a w) Q := by
  unfold XR at h
  cases hp : pv V.Γ σ.t op with
  | some p =>
    rw [hp] at h
    exact vcO_sound (vcO_of_step hfit (by unfold stepO1; rw [hp]; exact h)) hr _ rfl rfl Q
  | none =>
    rw [hp] at h
    simp only [goR] at h
    cases hn : Yl V dst op σ with
    | some p =>
      rw [hn] at h
      exact stepN_sound hfit hn h.1 h.2 hr ty pos after guard Q
    | none =>
      rw [hn] at h
      exact vcO_sound (vcO_of_step hfit (by unfold stepO1; rw [hp]; exact h)) hr _ rfl rfl Q
structure RecE where
  x : SV
  nb : Option (List Res)
  all : Bool
  rd : List (Nat × Nat × Nat)
  wr : List (Nat × Nat × Nat)
structure Rk where
  s : Bool
  all : Bool
  rd : List (Nat × Nat × Nat)
  wr : List (Nat × Nat × Nat)
inductive StepD where
  | val (c : Prop) (r : RecE)
  | call (f : FuncId) (args : List SV)
  | bad
def valD (c : Prop) (x : SV) : StepD := .val c ⟨x, none, false, [], []⟩
def goD : Option (Prop × SV) → StepD → StepD
  | some (c, x), _ => valD c x
  | none, m => m
def XD (V : Cx) (T : TypeId) (σ : St) : StepD := match V.Γ T with
  | some ti => .val True ⟨.p σ.b.length 0, some (σ.b ++ [.cells ti.zero T true]), false, [], [(σ.b.length, 0, 0)]⟩
  | none => .bad
def dBox (T : TypeId) (x : Operand) (σ : St) : StepD := match ev σ.t x with
  | some x => .val (isV x = false) ⟨.p σ.b.length 0, some (σ.b ++ [.cells (cells x) T true]), false, [], [(σ.b.length, 0, 0)]⟩
  | none => .bad
def XI (V : Cx) (T : TypeId) (x : Operand) (σ : St) : StepD := match ev σ.t x with
  | some (.p i off) => match getB σ.b i with
    | some (c, _, _) => match V.Γ T with
      | some ti => match XM ti.agg off ti.size c with
        | some x => .val (off + ti.size ≤ c.length ∧ 0 < ti.size) ⟨x, none, false, [(i, off, ti.size)], []⟩
        | none => .bad
      | none => .bad
    | none => .bad
  | _ => .bad
def XF (V : Cx) (T : TypeId) (x y : Operand) (σ : St) : StepD := match ev σ.t x with
  | some (.p i off) => match ev σ.t y with
    | some y => match getB σ.b i with
      | some (c, _, m) => match sz V.Γ T with
        | some s => .val (m = true ∧ (cells y).all one = true ∧ (cells y).length = s ∧ off + s ≤ c.length ∧ 0 < s) ⟨.v undef, some (setB σ.b i (Xs c off (cells y))), false, [], [(i, off, s)]⟩
        | none => .bad
      | none => .bad
    | none => .bad
  | _ => .bad
def XB (V : Cx) (T : TypeId) (ps : List (Nat × Operand)) (σ : St) : StepD := match V.Γ T with
  | some ti => match ti.kind with
    | .struct fs => match Xl σ.t ps with
      | some ps => match XZ fs V.Γ ps ti.zero with
        | some c => valD True (.agg c)
        | none => .bad
      | none => .bad
    | _ => .bad
  | none => .bad
def dNil (x : Operand) (σ : St) : StepD := match ev σ.t x with
  | some (.p i off) => valD True (.p i off)
  | some (.fn f l) => valD (Xt f = true) (.fn f l)
  | _ => .bad
def XK (f : Operand) (args : List Operand) (σ : St) : StepD := match ev σ.t f with
  | some (.fn (.func f) caps) => match evs σ.t args with
    | some l => .call f (l ++ caps)
    | none => .bad
  | _ => .bad
def Xv (V : Cx) : Op → St → StepD
  | .alloc T, σ => XD V T σ
  | .box T x, σ => dBox T x σ
  | .load T x, σ => XI V T x σ
  | .store T x y, σ => XF V T x y σ
  | .build T ps, σ => XB V T ps.toList σ
  | .nilCheck x, σ => dNil x σ
  | .call ⟨.value f, args, _⟩, σ => XK f args.toList σ
  | _, _ => .bad
def idxs : List (Option SV) → List (Nat × Nat × Nat)
  | [] => []
  | some (.o j _) :: r => (j, 0, 0) :: idxs r
  | _ :: r => idxs r
def Xz (V : Cx) : Op → Bool
  | .call ⟨.builtin .append, _, _⟩ => false
  | .makeSlice _ _ _ => false
  | .buildSlice _ _ _ => false
  | .slice _ _ _ _ _ => false
  | .convert _ _ _ => false
  | _ => true
def opL : Op → List Operand
  | .call ⟨_, args, _⟩ => args.toList
  | .buildSlice _ _ ps => ps.toList.map (·.2)
  | .makeSlice _ a v => [a, v]
  | .indexAddr _ a v => [a, v]
  | .slice _ x _ _ _ => [x]
  | .convert _ _ x => [x]
  | _ => []
def dN (V : Cx) (op : Op) (σ : St) : Option (Prop × St) → StepD → StepD
  | some (c, σ'), _ => match σ'.t with
    | (_, x) :: _ => if Xz V op then .val c ⟨x, none, false, idxs ((opL op).map (ev σ.t)), []⟩
        else .val c ⟨x, some σ'.b, false, [], (σ.b.length, 0, 0) :: idxs ((opL op).map (ev σ.t))⟩
    | [] => .bad
  | none, m => m
def XV (V : Cx) (op : Op) (σ : St) : StepD := goD (pv V.Γ σ.t op) (dN V op σ (Yl V (some 0) op σ) (Xv V op σ))
def depB (ops : Array Oper) : Nat → Nat → Nat → Bool
  | 0, _, _ => false
  | f + 1, i, k => match ops[i]? with
    | some o => o.after.any fun e => Region.binds .any e && (e.on == k || depB ops f e.on k)
    | none => false
def ovl (a b : Nat × Nat × Nat) : Bool := a.1 == b.1 && (b.2.2 == 0 || (decide (a.2.1 < b.2.1 + b.2.2) && decide (b.2.1 < a.2.1 + a.2.2)))
def anyOvl (xs ys : List (Nat × Nat × Nat)) : Bool := xs.any fun a => ys.any fun b => ovl a b
def slotC (ops : Array Oper) (i k : Nat) : Bool := match (ops[k]?).bind (·.dst) with
  | some d => (match ops[i]? with
    | some o => (o.looksAt ops).contains d || o.dst == some d
    | none => false)
  | none => false
def rk0 : Rk := ⟨false, false, [], []⟩
def isFl (ops : Array Oper) (k : Nat) : Bool := match ops[k]? with
  | some ⟨some _, .alloc _, _, _, _, none⟩ => true
  | some ⟨some _, .buildSlice _ _ _, _, _, _, none⟩ => true
  | _ => false
def tieB (ops : Array Oper) (i k : Nat) : Bool := if k < i then depB ops ops.size i k else depB ops ops.size k i
def preS (ops : Array Oper) (rs : List Rk) (i k : Nat) : Bool := !(isFl ops k && decide (k < i)) || (List.range k).all fun j => !(((rs[j]?).getD rk0).s) || depB ops ops.size i j
def pairB (ops : Array Oper) (rs : List Rk) (i k : Nat) : Bool :=
  if slotC ops i k then tieB ops i k && preS ops rs i k
  else if ((rs[i]?).getD rk0).s && ((rs[k]?).getD rk0).s then isFl ops (max i k) || tieB ops i k
  else if ((rs[k]?).getD rk0).s && !((rs[i]?).getD rk0).rd.isEmpty then (tieB ops i k && preS ops rs i k) || !(((rs[k]?).getD rk0).all || anyOvl ((rs[i]?).getD rk0).rd ((rs[k]?).getD rk0).wr)
  else true
def compatB (ops : Array Oper) (rs : List Rk) : Bool :=
  (List.range ops.size).all fun i => (List.range ops.size).all fun k => k == i || pairB ops rs i k
def aheadB (ops : Array Oper) : Bool :=
  (List.range ops.size).all fun i => match ops[i]? with
    | some o => o.after.all fun e => !Region.binds .any e || decide (e.on < i)
    | none => true
def OkD (ops : Array Oper) (rs : List Rk) : Prop := (compatB ops rs && aheadB ops) = true
inductive Item where
  | dops (ops : Array Oper) (l : List Oper) (rs : List Rk)
  | code (c : Code)
  | ops (ops : Array Oper) (l : List Oper)
  | endb (id : Nat)
  | endl (I : St → Prop) (μ : St → Nat) (m : Nat)
def XE (id : Nat) : List Item → Option (List Item)
  | [] => none
  | .endb id' :: k => if id' = id then some k else XE id k
  | _ :: k => XE id k
structure Fin where
  rs : List ResultVar
  K : SV → List Res → Prop
def endV (V : Cx) (E : Fin) (σ : St) : Option (List SV) → Prop
  | some l => E.K (tupS l) σ.b
  | none => False
def gdst : List Oper → Nat → Option Tmp
  | [], _ => none
  | o :: _, 0 => o.dst
  | _ :: r, j + 1 => gdst r j
def Yk (t : List (Nat × SV)) : Option Tmp → Option (Nat × Bool)
  | some d => match lk d t with
    | some (.bool b) => some (d, b)
    | _ => none
  | none => none
def nob : Value → Bool
  | .bool _ => false
  | _ => true
theorem nob_undef : nob undef = true := rfl
def gvU (t : List (Nat × SV)) : Option Tmp → Bool
  | some d => match lk d t with
    | some (.v x) => nob x
    | _ => false
  | none => false
def shape : Res → Res
  | .cells _ T m => .cells [] T m
  | .own _ e s n m => .own [] e s n m
  | r => r
def cellsR : Res → List SV
  | .cells c _ _ => c
  | .own c _ _ _ _ => c
  | _ => []
def ob (q : Option Nat) (r : Res) : Res × Nat × Option SV := (shape r, (cellsR r).length, match q with
  | some p => (cellsR r)[p]?
  | none => none)
def inR (x : Nat × Nat × Nat) (q : Option Nat) : Prop := q = none ∨ ∃ p, q = some p ∧ x.2.1 ≤ p ∧ p < x.2.1 + x.2.2
def touch (x : Nat × Nat × Nat) (j : Nat) (q : Option Nat) : Prop := x.1 = j ∧ (x.2.2 = 0 ∨ ∃ p, q = some p ∧ x.2.1 ≤ p ∧ p < x.2.1 + x.2.2)
def seen (x : Nat × Nat × Nat) (bi bs : List Res) : Prop := ∀ q, inR x q → (bs[x.1]?).map (ob q) = (bi[x.1]?).map (ob q)
def Outs (W : List (Nat × Nat × Nat)) (b b0 : List Res) : Prop := ∀ j q, (∀ y ∈ W, ¬ touch y j q) → (b[j]?).map (ob q) = (b0[j]?).map (ob q)
def XQ (b : Bool) (X Y : Prop) : Prop := (b = true → X) ∧ (b = false → Y)
theorem Xn (X Y : Prop) : XQ true X Y = X := by simp [XQ]
theorem Xo (X Y : Prop) : XQ false X Y = Y := by simp [XQ]
def XG (b want : Bool) (X Y : Prop) : Prop := (b = want → X) ∧ (b = !want → Y)
theorem Xg (X Y : Prop) : XG true true X Y = X := by simp [XG]
theorem Xd (X Y : Prop) : XG false false X Y = X := by simp [XG]
theorem Xe (X Y : Prop) : XG true false X Y = Y := by simp [XG]
theorem Xf (X Y : Prop) : XG false true X Y = Y := by simp [XG]
mutual
def vcS (V : Cx) (n : Nat) (E : Fin) : Nat → List Item → St → Prop
  | 0, _, _ => False
  | _ + 1, [], σ => endV V E σ (XT V σ E.rs)
  | f + 1, .code .skip :: k, σ => vcS V n E f k σ
  | f + 1, .code (.region _ ops false) :: k, σ => vcS V n E f (.ops ops ops.toList :: k) σ
  | f + 1, .code (.region _ ops true) :: k, σ => vcS V n E f (.dops ops ops.toList [] :: k) σ
  | f + 1, .code (.seq x y) :: k, σ => vcS V n E f (.code x :: .code y :: k) σ
  | f + 1, .code (.cond c x y) :: k, σ => XN V n E f x y k σ (ev σ.t c)
  | f + 1, .code (.block id x) :: k, σ => vcS V n E f (.code x :: .endb id :: k) σ
  | f + 1, .code (.loop x) :: k, σ => loopV V n E f x k σ
  | f + 1, .code (.exit id) :: k, σ => XO V n E f σ (XE id k)
  | _ + 1, .code .ret :: _, σ => endV V E σ (XT V σ E.rs)
  | _ + 1, .code _ :: _, _ => False
  | f + 1, .endb _ :: k, σ => vcS V n E f k σ
  | _ + 1, .endl I μ m :: _, σ => I σ ∧ μ σ < m
  | f + 1, .ops _ [] :: k, σ => vcS V n E f k σ
  | f + 1, .ops ops (⟨dst, op, _, _, _, none⟩ :: r) :: k, σ => fits n dst = true ∧ Yc V n E f ops r k (XR V dst op σ)
  | f + 1, .ops ops (⟨dst, op, _, _, _, some (j, want)⟩ :: r) :: k, σ => fits n dst = true ∧ XA V n E f ops dst op want r k σ (Yk σ.t (gdst ops.toList j)) (gvU σ.t (gdst ops.toList j))
  | f + 1, .dops ops [] rs :: k, σ => OkD ops rs ∧ vcS V n E f k σ
  | f + 1, .dops ops (⟨dst, op, _, _, _, none⟩ :: r) rs :: k, σ => fits n dst = true ∧ Yg V n E f ops r rs k dst σ (XV V op σ)
  | f + 1, .dops ops (⟨dst, op, _, _, _, some (j, want)⟩ :: r) rs :: k, σ => fits n dst = true ∧ Xy V n E f ops dst op want r rs k σ (Yk σ.t (gdst ops.toList j)) (gvU σ.t (gdst ops.toList j))
def Yg (V : Cx) (n : Nat) (E : Fin) : Nat → Array Oper → List Oper → List Rk → List Item → Option Tmp → St → StepD → Prop
  | f, ops, r, rs, k, dst, σ, .val c ⟨x, none, all, rd, wr⟩ => c ∧ vcS V n E f (.dops ops r (rs ++ [⟨false, all, rd, wr⟩]) :: k) ⟨put dst x σ.t, σ.b⟩
  | f, ops, r, rs, k, dst, σ, .val c ⟨x, some b, all, rd, wr⟩ => c ∧ vcS V n E f (.dops ops r (rs ++ [⟨true, all, rd, wr⟩]) :: k) ⟨put dst x σ.t, b⟩
  | f, ops, r, rs, k, dst, σ, .call g args => callD V n E f ops r rs k dst σ g args
  | _, _, _, _, _, _, _, .bad => False
def callD (V : Cx) (n : Nat) (E : Fin) : Nat → Array Oper → List Oper → List Rk → List Item → Option Tmp → St → FuncId → List SV → Prop
  | f, ops, r, rs, k, dst, σ, g, args => (∃ x, PC V g args x ∧ vcS V n E f (.dops ops r (rs ++ [⟨false, false, [], []⟩]) :: k) ⟨put dst x σ.t, σ.b⟩) ∨ (∃ x b, SC V g args σ.b (fun r b' => r = x ∧ b' = b) ∧ vcS V n E f (.dops ops r (rs ++ [⟨true, true, [], []⟩]) :: k) ⟨put dst x σ.t, b⟩) ∨
    (∃ x b W, SC V g args σ.b (fun r b' => r = x ∧ b' = b) ∧ Outs W b σ.b ∧ vcS V n E f (.dops ops r (rs ++ [⟨true, false, [], W⟩]) :: k) ⟨put dst x σ.t, b⟩)
def Xy (V : Cx) (n : Nat) (E : Fin) : Nat → Array Oper → Option Tmp → Op → Bool → List Oper → List Rk → List Item → St → Option (Nat × Bool) → Bool → Prop
  | f, ops, dst, op, want, r, rs, k, σ, some (d, b), _ => fits n (some d) = true ∧ XG b want (Yg V n E f ops r rs k dst ⟨(d, .bool want) :: σ.t, σ.b⟩ (XV V op ⟨(d, .bool want) :: σ.t, σ.b⟩)) (vcS V n E f (.dops ops r (rs ++ [⟨false, false, [], []⟩]) :: k) ⟨put dst (.v undef) ((d, .bool (!want)) :: σ.t), σ.b⟩)
  | f, ops, dst, _, _, r, rs, k, σ, none, true => vcS V n E f (.dops ops r (rs ++ [⟨false, false, [], []⟩]) :: k) ⟨put dst (.v undef) σ.t, σ.b⟩
  | _, _, _, _, _, _, _, _, _, none, false => False
def XN (V : Cx) (n : Nat) (E : Fin) : Nat → Code → Code → List Item → St → Option SV → Prop
  | f, x, y, k, σ, some (.bool b) => XQ b (vcS V n E f (.code x :: k) σ) (vcS V n E f (.code y :: k) σ)
  | _, _, _, _, _, _ => False
def loopV (V : Cx) (n : Nat) (E : Fin) : Nat → Code → List Item → St → Prop
  | f, x, k, σ => ∃ (I : St → Prop) (μ : St → Nat), I σ ∧ ∀ σ', I σ' → vcS V n E f (.code x :: .endl I μ (μ σ') :: k) σ'
def XO (V : Cx) (n : Nat) (E : Fin) : Nat → St → Option (List Item) → Prop
  | f, σ, some k => vcS V n E f k σ
  | _, _, none => False
def Yc (V : Cx) (n : Nat) (E : Fin) : Nat → Array Oper → List Oper → List Item → StepR → Prop
  | f, ops, r, k, .go c σ => c ∧ vcS V n E f (.ops ops r :: k) σ
  | f, ops, r, k, .call g args dst σ => callV V n E f ops r k g args dst σ
  | _, _, _, _, .bad => False
def callV (V : Cx) (n : Nat) (E : Fin) : Nat → Array Oper → List Oper → List Item → FuncId → List SV → Option Tmp → St → Prop
  | f, ops, r, k, g, args, dst, σ => (∃ x, PC V g args x ∧ vcS V n E f (.ops ops r :: k) ⟨put dst x σ.t, σ.b⟩) ∨ (∃ R, SC V g args σ.b R ∧ ∀ x bs, R x bs → vcS V n E f (.ops ops r :: k) ⟨put dst x σ.t, bs⟩)
def XA (V : Cx) (n : Nat) (E : Fin) : Nat → Array Oper → Option Tmp → Op → Bool → List Oper → List Item → St → Option (Nat × Bool) → Bool → Prop
  | f, ops, dst, op, want, r, k, σ, some (d, b), _ => fits n (some d) = true ∧ XG b want (Yc V n E f ops r k (XR V dst op ⟨(d, .bool want) :: σ.t, σ.b⟩)) (vcS V n E f (.ops ops r :: k) ⟨put dst (.v undef) ((d, .bool (!want)) :: σ.t), σ.b⟩)
  | f, ops, dst, _, _, r, k, σ, none, true => vcS V n E f (.ops ops r :: k) ⟨put dst (.v undef) σ.t, σ.b⟩
  | _, _, _, _, _, _, _, _, none, false => False
end
end Vc
namespace Vc
open Go Go.RowKit Wf
/-! Updates in some order -/
def foldD {S : Type} (u : Nat → S → S) (D : Nat → Bool) : Nat → S → S
  | 0, s => s
  | n + 1, s => if D n then u n (foldD u D n s) else foldD u D n s
theorem fold_obs {S X : Type} (u : Nat → S → S) (obs : S → X) (hu : ∀ k s s', obs s = obs s' → obs (u k s) = obs (u k s')) (D D' : Nat → Bool) : ∀ (n : Nat) (s : S),
    (∀ k, k < n → D k = D' k ∨ ∀ s, obs (u k s) = obs s) → obs (foldD u D n s) = obs (foldD u D' n s)
  | 0, _, _ => rfl
  | n + 1, s, h => by
    have ih := fold_obs u obs hu D D' n s (fun k hk => h k (by omega))
    simp only [foldD]
    rcases h n (by omega) with e | e
    · rw [e]
      split
      · exact hu _ _ _ ih
      · exact ih
    · split <;> split <;> simp only [e, ih]
theorem fold_congr {S : Type} (u : Nat → S → S) (D D' : Nat → Bool) : ∀ (n : Nat) (s : S), (∀ k, k < n → D k = D' k) → foldD u D n s = foldD u D' n s
  | 0, _, _ => rfl
  | n + 1, s, h => by simp only [foldD]; rw [h n (by omega), fold_congr u D D' n s (fun k hk => h k (by omega))]
def preD (i : Nat) : Nat → Bool := fun k => decide (k < i)
def insD (D : Nat → Bool) (i : Nat) : Nat → Bool := fun k => D k || decide (k = i)
theorem fold_pre {S : Type} (u : Nat → S → S) : ∀ (n i : Nat) (s : S), i ≤ n → foldD u (preD i) n s = foldD u (preD i) i s := by
  intro n
  induction n with
  | zero => intro i s h; have : i = 0 := by omega
            subst this; rfl
  | succ n ih =>
    intro i s h
    by_cases e : i = n + 1
    · subst e; rfl
    · simp only [foldD]
      rw [if_neg (by simp [preD]; omega)]
      exact ih i s (by omega)
theorem fold_all {S : Type} (u : Nat → S → S) (D : Nat → Bool) : ∀ (n : Nat) (s : S), (∀ k, k < n → D k = true) → foldD u D n s = foldD u (preD n) n s := by
  intro n s h
  exact fold_congr u D (preD n) n s (fun k hk => by rw [h k hk]; simp [preD, hk])
theorem fold_pre_succ {S : Type} (u : Nat → S → S) (i : Nat) (s : S) : foldD u (preD (i + 1)) (i + 1) s = u i (foldD u (preD i) i s) := by
  simp only [foldD]
  rw [if_pos (by simp [preD])]
  congr 1
  exact fold_congr u _ _ i s (fun k hk => by simp [preD]; omega)
theorem fold_see {S X : Type} (u : Nat → S → S) (obs : S → X) (hu : ∀ k s s', obs s = obs s' → obs (u k s) = obs (u k s')) (D : Nat → Bool) (n i : Nat) (s : S) (hi : i ≤ n)
    (h : ∀ k, k < n → (∃ s, obs (u k s) ≠ obs s) → D k = decide (k < i)) : obs (foldD u D n s) = obs (foldD u (preD i) i s) := by
  rw [← fold_pre u n i s hi]
  refine fold_obs u obs hu D (preD i) n s (fun k hk => ?_)
  by_cases e : ∃ s, obs (u k s) ≠ obs s
  · exact .inl (h k hk e)
  · exact .inr (fun s => Classical.byContradiction fun hne => e ⟨s, hne⟩)
theorem fold_ins {S X : Type} (u : Nat → S → S) (obs : S → X) (hu : ∀ k s s', obs s = obs s' → obs (u k s) = obs (u k s')) (D : Nat → Bool) (n i : Nat) (s : S) (hi : i < n) (hD : D i = false)
    (h : (∃ s, obs (u i s) ≠ obs s) → ∀ k, k < n → (∃ s, obs (u k s) ≠ obs s) → D k = true → k < i)
    : obs (foldD u (insD D i) n s) = obs (u i (foldD u D n s)) := by
  by_cases e : ∃ s, obs (u i s) ≠ obs s
  · -- nothing behind i shows
    have h1 : obs (foldD u (insD D i) n s) = obs (foldD u (fun k => insD D i k && decide (k ≤ i)) n s) :=
      fold_obs u obs hu _ _ n s (fun k hk => by
        by_cases ek : ∃ s, obs (u k s) ≠ obs s
        · left
          by_cases hki : k ≤ i
          · simp [hki]
          · have : D k = false := by
              cases hdk : D k
              · rfl
              · have := h e k hk ek hdk; omega
            simp [insD, this]; omega
        · exact .inr (fun s => Classical.byContradiction fun hne => ek ⟨s, hne⟩))
    have h2 : ∀ m, i < m → foldD u (fun k => insD D i k && decide (k ≤ i)) m s = u i (foldD u D i s) := by
      intro m
      induction m with
      | zero => intro hm; omega
      | succ m ih =>
        intro hm
        simp only [foldD]
        by_cases hmi : m = i
        · subst hmi
          rw [if_pos (by simp [insD])]
          congr 1
          exact fold_congr u _ _ m s (fun k hk => by simp [insD, show k ≠ m by omega, show k ≤ m by omega])
        · rw [if_neg (by simp; omega)]
          exact ih (by omega)
    rw [h1, h2 n hi]
    refine hu _ _ _ ?_
    have h3 : obs (foldD u D n s) = obs (foldD u (fun k => D k && decide (k < i)) n s) :=
      fold_obs u obs hu _ _ n s (fun k hk => by
        by_cases ek : ∃ s, obs (u k s) ≠ obs s
        · left
          cases hdk : D k
          · simp
          · have := h e k hk ek hdk; simp [this]
        · exact .inr (fun s => Classical.byContradiction fun hne => ek ⟨s, hne⟩))
    have h4 : ∀ m, i ≤ m → foldD u (fun k => D k && decide (k < i)) m s = foldD u D i s := by
      intro m
      induction m with
      | zero => intro hm; have : i = 0 := by omega
                subst this; rfl
      | succ m ih =>
        intro hm
        by_cases hmi : i = m + 1
        · subst hmi
          exact fold_congr u _ _ (m + 1) s (fun k hk => by simp; omega)
        · simp only [foldD]
          rw [if_neg (by simp; omega)]
          exact ih (by omega)
    rw [h3, h4 n (by omega)]
  · have e' : ∀ s, obs (u i s) = obs s := fun s => Classical.byContradiction fun hne => e ⟨s, hne⟩
    rw [e']
    refine fold_obs u obs hu _ _ n s (fun k hk => ?_)
    by_cases hki : k = i
    · subst hki; exact .inr e'
    · left; simp [insD, hki]
/-! Any order -/
theorem wpAny_inv {P : Program} {ops : Array Oper} {Q : Exit → Act → World → Prop} {md : Region.Mode} (Inv : (Nat → Bool) → Act → World → Prop)
    (hstep : ∀ (listed : Array Bool) a w i, listed.size = ops.size → Inv (fun k => listed.getD k false) a w → i ∈ Region.ready md ops listed → wpOp P ops Q i (fun a' w' => Inv (insD (fun k => listed.getD k false) i) a' w') a w)
    (hend : ∀ (listed : Array Bool) a w, listed.size = ops.size → Inv (fun k => listed.getD k false) a w → Region.ready md ops listed = [] → Q .normal a w) :
    ∀ (fuel : Nat) (listed : Array Bool) a w, listed.size = ops.size → (listed.toList.filter (fun b => !b)).length ≤ fuel → Inv (fun k => listed.getD k false) a w → wpAny P md ops Q fuel listed a w := by
  have key : ∀ (listed : Array Bool) (i : Nat), i ∈ Region.ready md ops listed → i < listed.size ∧ listed.getD i false = false := by
    intro listed i hi
    have := (mem_ready.1 hi).1
    have hlt : i < listed.size := by
      rcases Nat.lt_or_ge i listed.size with h | h
      · exact h
      · simp [h] at this
    exact ⟨hlt, by simp [hlt] at this ⊢; exact this⟩
  intro fuel
  induction fuel with
  | zero =>
    intro listed a w hs hc hI
    have hr : Region.ready md ops listed = [] := by
      rcases h : Region.ready md ops listed with _ | ⟨i, r⟩
      · rfl
      · have hi : i ∈ Region.ready md ops listed := by rw [h]; simp
        obtain ⟨hlt, hf⟩ := key listed i hi
        have : false ∈ listed.toList.filter (fun b => !b) := by
          simp only [List.mem_filter]
          refine ⟨?_, rfl⟩
          have : listed[i] = false := by simpa [hlt] using hf
          rw [← this]
          exact Array.mem_toList_iff.2 (Array.getElem_mem hlt)
        have := List.length_pos_of_mem this
        omega
    exact ⟨hr, hend listed a w hs hI hr⟩
  | succ fuel ih =>
    intro listed a w hs hc hI
    refine ⟨fun hr => hend listed a w hs hI hr, fun i hi => ?_⟩
    obtain ⟨hlt, hf⟩ := key listed i hi
    refine wpOp_mono (fun a' w' hI' => ih (listed.setIfInBounds i true) a' w' (by simp [hs]) ?_ ?_) (hstep listed a w i hs hI hi)
    · have hl : listed[i] = false := by simpa [hlt] using hf
      have e : listed.toList = listed.toList.take i ++ false :: listed.toList.drop (i + 1) := by
        have h1 := (List.take_append_drop i listed.toList).symm
        rw [List.drop_eq_getElem_cons (by simpa using hlt)] at h1
        simpa [hl] using h1
      have hlen : (listed.toList.take i).length = i := by simp; omega
      have e2 : (listed.setIfInBounds i true).toList = listed.toList.take i ++ true :: listed.toList.drop (i + 1) := by
        rw [Array.toList_setIfInBounds]
        conv => lhs; rw [e]
        rw [List.set_append_right _ _ (by omega)]
        simp [hlen]
      rw [e2]
      rw [e] at hc
      simp at hc ⊢
      omega
    · have e : (fun k => (listed.setIfInBounds i true).getD k false) = insD (fun k => listed.getD k false) i := by
        funext k
        by_cases h : k = i
        · subst h; simp [insD, hlt]
        · simp only [insD]
          rw [Array.getD_eq_getD_getElem?, Array.getElem?_setIfInBounds_ne (fun q => h q.symm), ← Array.getD_eq_getD_getElem?]
          simp [h]
      rw [e]
      exact hI'
end Vc
namespace Vc
open Go Go.RowKit Wf
section
variable {V : Cx} {F : Fx V} {β : Nat → Bt} {fp : Nat → Nat → Prop}
theorem pv_congr {Γ : TypeId → Option TI} {t t' : List (Nat × SV)} {op : Op} (h : ∀ x ∈ op.operands, ev t x = ev t' x) : pv Γ t op = pv Γ t' op := by
  have opt : ∀ o : Option Operand, (∀ x, o = some x → ev t x = ev t' x) → optE t o = optE t' o := fun o ho => by
    cases o with
    | none => rfl
    | some x => simp [optE, ho x rfl]
  have lst : ∀ l : List Operand, (∀ x ∈ l, ev t x = ev t' x) → l.mapM (ev t) = l.mapM (ev t') := fun l => by
    induction l with
    | nil => intro _; rfl
    | cons x r ih => intro hl; simp only [List.mapM_cons]; rw [hl x (by simp), ih (fun y hy => hl y (by simp [hy]))]
  cases op <;> simp only [pv]
  case move x => simp only [XX]; rw [h x (by simp [Op.operands])]
  case assign x => simp only [XX]; rw [h x (by simp [Op.operands])]
  case pick c a b => simp only [Ya]; rw [h c (by simp [Op.operands]), h a (by simp [Op.operands]), h b (by simp [Op.operands])]
  case fieldAddr S x f => simp only [Xb]; rw [h x (by simp [Op.operands])]
  case field S x f => simp only [Xu]; rw [h x (by simp [Op.operands])]
  case binOp op T x y yt => simp only [oBin]; rw [h x (by simp [Op.operands]), h y (by simp [Op.operands])]
  case unOp op T x => simp only [oUn]; rw [h x (by simp [Op.operands])]
  case convert S D x => simp only [Ye]; rw [h x (by simp [Op.operands])]
  case slice T x lo hi mx =>
    cases mx with
    | some _ => rfl
    | none =>
      simp only [Xw]
      rw [h x (by simp [Op.operands]), opt lo (fun y hy => h y (by simp [Op.operands, hy])), opt hi (fun y hy => h y (by simp [Op.operands, hy]))]
  case index T x i => simp only [Xx]; rw [h x (by simp [Op.operands]), h i (by simp [Op.operands])]
  case build T ps =>
    have hp : ∀ l : List (Nat × Operand), (∀ x ∈ l, ev t x.2 = ev t' x.2) → Xl t l = Xl t' l := fun l => by
      induction l with
      | nil => intro _; rfl
      | cons x r ih => intro hl; obtain ⟨i, o⟩ := x; simp only [Xl]; rw [hl (i, o) (by simp), ih (fun y hy => hl y (by simp [hy]))]
    simp only [Xk]
    rw [hp ps.toList (fun x hx => h x.2 (by simp only [Op.operands]; rw [List.mem_toArray]; exact List.mem_map_of_mem hx))]
  case indexAddr T x i => simp only [XS]; rw [h x (by simp [Op.operands]), h i (by simp [Op.operands])]
  case extract x i => simp only [Xh]; rw [h x (by simp [Op.operands])]
  case makeFunc f first caps =>
    simp only [Yh]
    unfold evs
    rw [lst caps.toList (fun x hx => h x (by simp only [Op.operands]; exact Array.mem_append.2 (.inr (Array.mem_toList_iff.1 hx)))),
      lst first.toList (fun x hx => h x (by simp only [Op.operands]; exact Array.mem_append.2 (.inl (Array.mem_toList_iff.1 hx))))]
  case call c =>
    obtain ⟨callee, args, ts⟩ := c
    cases callee <;> (try simp only)
    rename_i b
    cases b <;> (try simp only)
    simp only [oLen]
    split
    · rename_i x hx
      rw [h x (by
        simp only [Op.operands, Call.operands]
        refine Array.mem_append.2 (.inr (Array.mem_toList_iff.1 ?_))
        rw [hx]; simp)]
    · rfl
theorem shape_setR (c : List SV) (r : Res) : shape (setR c r) = shape r := by cases r <;> rfl
theorem getB_shape {bs : List Res} {i : Nat} {c : List SV} {T : TypeId} {m : Bool} (h : getB bs i = some (c, T, m)) : ∃ r, bs[i]? = some r ∧ cellsR r = c ∧ ∀ c' r', shape r' = shape r → cellsR r' = c' → (∀ bs' : List Res, bs'[i]? = some r' → getB bs' i = some (c', T, m)) := by
  obtain ⟨r, hr, -, hc⟩ := getB_some h
  refine ⟨r, hr, by rcases hc with rfl | ⟨s, n, rfl⟩ <;> rfl, fun c' r' hs hcr bs' hb => ?_⟩
  unfold getB
  rw [hb]
  rcases hc with rfl | ⟨s, n, rfl⟩ <;> cases r' <;> simp [shape] at hs <;> simp [cellsR] at hcr <;> simp [hs, hcr]
theorem ovl_touch {a b : Nat × Nat × Nat} (h : ovl a b = false) {q : Option Nat} (hq : inR a q) : ¬ touch b a.1 q := by
  rintro ⟨h1, h2⟩
  have : ovl a b = true := by
    unfold ovl
    simp only [Bool.and_eq_true, beq_iff_eq, Bool.or_eq_true, decide_eq_true_eq]
    refine ⟨h1.symm, ?_⟩
    rcases h2 with h2 | ⟨p, rfl, h3, h4⟩
    · exact .inl h2
    · rcases hq with hq | ⟨p', hp, h5, h6⟩
      · cases hq
      · cases hp
        exact .inr ⟨by omega, by omega⟩
  rw [h] at this
  cases this
theorem seen_get {j off n : Nat} {bi bs : List Res} (h : seen (j, off, n) bi bs) {c : List SV} {T : TypeId} {m : Bool} (hg : getB bi j = some (c, T, m)) :
    ∃ c', getB bs j = some (c', T, m) ∧ c'.length = c.length ∧ ∀ p, off ≤ p → p < off + n → c'[p]? = c[p]? := by
  obtain ⟨r, hr, rfl, hall⟩ := getB_shape hg
  have key : ∀ q, inR (j, off, n) q → ∃ r', bs[j]? = some r' ∧ ob q r' = ob q r := fun q hq => by
    have := h q hq
    simp only [hr] at this
    cases hbs : bs[j]? with
    | none => rw [hbs] at this; simp at this
    | some r' =>
      rw [hbs] at this
      simp only [Option.map_some, Option.some.injEq] at this
      exact ⟨r', rfl, this⟩
  obtain ⟨r', hr', ho⟩ := key none (.inl rfl)
  simp only [ob, Prod.mk.injEq, and_true] at ho
  refine ⟨cellsR r', hall _ r' ho.1 rfl bs hr', ho.2, fun p h1 h2 => ?_⟩
  obtain ⟨r2, hr2, ho2⟩ := key (some p) (.inr ⟨p, rfl, h1, h2⟩)
  rw [hr'] at hr2
  cases hr2
  simp only [ob, Prod.mk.injEq] at ho2
  exact ho2.2.2
theorem seen_own {j off k : Nat} {bi bs : List Res} (h : seen (j, off, k) bi bs) {c : List SV} {e s n : Nat} {m : Bool} (hg : bi[j]? = some (.own c e s n m)) : ∃ c', bs[j]? = some (.own c' e s n m) := by
  have := h none (.inl rfl)
  simp only [hg] at this
  cases hbs : bs[j]? with
  | none => rw [hbs] at this; simp at this
  | some r' =>
    rw [hbs] at this
    simp only [Option.map_some, Option.some.injEq, ob, Prod.mk.injEq, and_true] at this
    cases r' <;> simp [shape] at this
    rename_i c' _ _ _ _
    obtain ⟨⟨rfl, rfl, rfl, rfl⟩, -⟩ := this
    exact ⟨c', rfl⟩
theorem partS_congr {agg : Bool} {off n : Nat} {c c' : List SV} (hn : 0 < n) (h : ∀ p, off ≤ p → p < off + n → c'[p]? = c[p]?) : XM agg off n c' = XM agg off n c := by
  unfold XM
  cases agg
  · simp [h off (Nat.le_refl _) (by omega)]
  · simp only [if_true]
    congr 2
    apply List.ext_getElem?
    intro q
    simp only [List.getElem?_take, List.getElem?_drop]
    split
    · exact h (off + q) (by omega) (by omega)
    · rfl
theorem mapM_congr {t t' : List (Nat × SV)} : ∀ (l : List Operand), (∀ x ∈ l, ev t x = ev t' x) → evs t l = evs t' l
  | [], _ => rfl
  | x :: r, h => by
    have := mapM_congr r (fun y hy => h y (by simp [hy]))
    unfold evs at this ⊢
    simp only [List.mapM_cons]
    rw [h x (by simp), this]
theorem evParts_congr {t t' : List (Nat × SV)} : ∀ (l : List (Nat × Operand)), (∀ x ∈ l.map (·.2), ev t x = ev t' x) → Xl t l = Xl t' l
  | [], _ => rfl
  | (i, x) :: r, h => by
    simp only [Xl]
    rw [h x (by simp), evParts_congr r (fun y hy => h y (by simp only [List.map_cons, List.mem_cons]; exact .inr hy))]
def hdS : List (Nat × SV) → SV
  | (_, x) :: _ => x
  | [] => .v undef
theorem stepN_put {dst : Option Tmp} {op : Op} {t : List (Nat × SV)} {b : List Res} {c : Prop} {σ' : St} (hs : Yl V dst op ⟨t, b⟩ = some (c, σ')) : ∃ x, σ'.t = put dst x t := by
  cases op <;> simp only [Yl, reduceCtorEq] at hs
  case call cl =>
    obtain ⟨callee, args, ts⟩ := cl
    cases callee <;> (try simp only [reduceCtorEq] at hs)
    rename_i bi
    cases bi <;> (try simp only [reduceCtorEq] at hs)
    case append =>
      unfold Xm at hs
      (repeat' split at hs) <;> try (cases hs; done)
      cases hs
      exact ⟨_, rfl⟩
    all_goals
      unfold Xq at hs
      (repeat' split at hs) <;> try (cases hs; done)
      obtain ⟨z, hz, e⟩ := Option.map_eq_some_iff.1 hs
      cases e
      exact ⟨z, rfl⟩
  case slice T x lo hi mx =>
    cases mx <;> simp only [reduceCtorEq] at hs
    unfold Xj at hs
    (repeat' split at hs) <;> try (cases hs; done)
    cases hs
    exact ⟨_, rfl⟩
  case convert S D x =>
    unfold Yb at hs
    (repeat' split at hs) <;> try (cases hs; done)
    all_goals
      cases hs
      exact ⟨_, rfl⟩
  all_goals
    first | unfold Yn at hs | unfold Xa at hs | unfold Xc at hs
    (repeat' split at hs) <;> try (cases hs; done)
    cases hs
    exact ⟨_, rfl⟩
theorem stepN_map {op : Op} {t t' : List (Nat × SV)} {b : List Res} (h : ∀ x ∈ op.operands, ev t' x = ev t x) (dst : Option Tmp) :
    Yl V dst op ⟨t', b⟩ = (Yl V (some 0) op ⟨t, b⟩).map fun p => (p.1, ⟨put dst (hdS p.2.t) t', p.2.b⟩) := by
  have opt : ∀ o : Option Operand, (∀ x, o = some x → ev t' x = ev t x) → optE t' o = optE t o := fun o ho => by
    cases o with
    | none => rfl
    | some x => simp [optE, ho x rfl]
  cases op <;> simp only [Yl, Option.map_none]
  case call cl =>
    obtain ⟨callee, args, ts⟩ := cl
    have harg : ∀ x ∈ args.toList, ev t' x = ev t x := fun x hx => h x (by
      simp only [Op.operands, Call.operands]
      exact Array.mem_append.2 (.inr (Array.mem_toList_iff.1 hx)))
    cases callee <;> (try simp only [Option.map_none])
    rename_i bi
    cases bi <;> (try simp only [Option.map_none])
    case append =>
      unfold Xm
      generalize args.toList = L at harg
      generalize ts.toList = TS
      match L, harg with
      | [s, x], harg =>
        simp only [harg s (by simp), harg x (by simp)]
        (repeat' split) <;> rfl
      | [], _ => rfl
      | [_], _ => rfl
      | _ :: _ :: _ :: _, _ => rfl
    all_goals
      unfold Xq
      generalize args.toList = L at harg
      match L, harg with
      | [s, x], harg =>
        simp only [harg s (by simp), harg x (by simp)]
        split
        · split
          · rw [Option.map_map]; rfl
          · rfl
        · rfl
      | [], _ => rfl
      | [_], _ => rfl
      | _ :: _ :: _ :: _, _ => rfl
  case makeSlice T l cc =>
    unfold Yn
    simp only [h l (by simp [Op.operands]), h cc (by simp [Op.operands])]
    (repeat' split) <;> rfl
  case buildSlice T n ps =>
    unfold Xa
    simp only [evParts_congr (t := t') (t' := t) ps.toList (fun x hx => h x (by simp only [Op.operands]; rw [List.mem_toArray]; exact hx))]
    (repeat' split) <;> rfl
  case indexAddr T x i =>
    unfold Xc
    simp only [h x (by simp [Op.operands]), h i (by simp [Op.operands])]
    (repeat' split) <;> rfl
  case slice T x lo hi mx =>
    cases mx <;> simp only [Option.map_none]
    unfold Xj
    simp only [h x (by simp [Op.operands]), opt lo (fun y hy => h y (by simp [Op.operands, hy])), opt hi (fun y hy => h y (by simp [Op.operands, hy]))]
    (repeat' split) <;> rfl
  case convert S D x =>
    unfold Yb
    simp only [h x (by simp [Op.operands])]
    (repeat' split) <;> rfl
theorem stepN_same {op : Op} {t t' : List (Nat × SV)} {b : List Res} (h : ∀ x ∈ op.operands, ev t' x = ev t x) {c : Prop} {σ' : St} (hs : Yl V (some 0) op ⟨t, b⟩ = some (c, σ')) :
    ∃ x, σ'.t = (0, x) :: t ∧ ∀ dst, Yl V dst op ⟨t', b⟩ = some (c, ⟨put dst x t', σ'.b⟩) := by
  obtain ⟨x, hx⟩ := stepN_put hs
  refine ⟨x, hx, fun dst => ?_⟩
  rw [stepN_map h dst, hs]
  simp only [Option.map_some, hx]
  rfl
theorem idxs_mem {l : List (Option SV)} {j n : Nat} (h : some (SV.o j n) ∈ l) : (j, 0, 0) ∈ idxs l := by
  induction l with
  | nil => cases h
  | cons x r ih =>
    simp only [List.mem_cons] at h
    rcases h with h | h
    · subst h; simp [idxs]
    · have := ih h
      cases x with
      | none => simpa [idxs] using this
      | some v => cases v <;> simp [idxs, this]
theorem idxs_zero {l : List (Option SV)} {x : Nat × Nat × Nat} (h : x ∈ idxs l) : x.2.2 = 0 := by
  induction l with
  | nil => cases h
  | cons y r ih =>
    cases y with
    | none => exact ih (by simpa [idxs] using h)
    | some v =>
      cases v
      case o j n =>
        simp only [idxs, List.mem_cons] at h
        rcases h with rfl | h
        · rfl
        · exact ih h
      all_goals exact ih (by simpa [idxs] using h)
theorem op_idx {op : Op} {t : List (Nat × SV)} {o : Operand} (ho : o ∈ opL op) {j n : Nat} (he : ev t o = some (.o j n)) : (j, 0, 0) ∈ idxs ((opL op).map (ev t)) :=
  idxs_mem (by rw [← he]; exact List.mem_map_of_mem ho)
theorem dst_keep {e s : Nat} {x : SV} {b bs : List Res} {n : Nat} {c : List SV} (h : dstS b e s x = some (n, c, bs)) {j : Nat} (hj : ∀ i m, x = .o i m → i ≠ j) : bs[j]? = b[j]? ∧ bs.length = b.length := by
  cases x <;> simp only [dstS, reduceCtorEq] at h
  case nils => cases h; exact ⟨rfl, rfl⟩
  case o i m =>
    split at h
    · split at h
      · cases h
        exact ⟨List.getElem?_set_ne (hj i _ rfl), by simp⟩
      · cases h
    · cases h
theorem app_keep {b : List Res} {X : Res} {j : Nat} (hj : j ≠ b.length) : (b ++ [X])[j]? = b[j]? := by
  rcases Nat.lt_or_ge j b.length with h | h
  · rw [List.getElem?_append_left h]
  · rw [List.getElem?_append_right h, List.getElem?_eq_none h, List.getElem?_eq_none (by simp; omega)]
theorem stepN_keep {op : Op} {t : List (Nat × SV)} {b : List Res} {c : Prop} {σ' : St} (hs : Yl V (some 0) op ⟨t, b⟩ = some (c, σ')) {j : Nat} (hj : j ≠ b.length) (hi : ∀ x ∈ idxs ((opL op).map (ev t)), x.1 ≠ j) : σ'.b[j]? = b[j]? := by
  have hne : ∀ (o : Operand), o ∈ opL op → ∀ i m, ev t o = some (.o i m) → i ≠ j := fun o ho i m he => hi _ (op_idx ho he)
  cases op <;> simp only [Yl, reduceCtorEq] at hs
  case call cl =>
    obtain ⟨callee, args, ts⟩ := cl
    have harg : ∀ x ∈ args.toList, x ∈ opL (Op.call ⟨callee, args, ts⟩) := fun x hx => hx
    cases callee <;> (try simp only [reduceCtorEq] at hs)
    rename_i bi
    cases bi <;> (try simp only [reduceCtorEq] at hs)
    case append =>
      unfold Xm at hs
      split at hs
      · rename_i s x hl
        (repeat' split at hs) <;> try (cases hs; done)
        cases hs
        rename_i hd _ _ _ _
        obtain ⟨h1, h2⟩ := dst_keep hd (j := j) (fun i m e => hne s (harg s (by rw [hl]; simp)) i m (by rw [← e]; assumption))
        simp only
        rw [app_keep (by rw [h2]; exact hj), h1]
      · cases hs
    all_goals
      unfold Xq at hs
      (repeat' split at hs) <;> try (cases hs; done)
      obtain ⟨z, hz, e⟩ := Option.map_eq_some_iff.1 hs
      cases e
      rfl
  case makeSlice T l cc =>
    unfold Yn at hs
    (repeat' split at hs) <;> try (cases hs; done)
    cases hs
    exact app_keep hj
  case buildSlice T n ps =>
    unfold Xa at hs
    (repeat' split at hs) <;> try (cases hs; done)
    cases hs
    exact app_keep hj
  case indexAddr T x i =>
    unfold Xc at hs
    (repeat' split at hs) <;> try (cases hs; done)
    cases hs
    rfl
  case slice T x lo hi' mx =>
    cases mx <;> simp only [reduceCtorEq] at hs
    unfold Xj at hs
    (repeat' split at hs) <;> try (cases hs; done)
    rename_i hre
    cases hs
    simp only
    unfold reS at hre
    split at hre
    · rename_i i m he
      have hij : i ≠ j := hne x (by simp [opL]) i m he
      split at hre
      · split at hre
        · split at hre
          · cases hre
            rw [app_keep (by simpa using hj), List.getElem?_set_ne hij]
          · cases hre
            rw [app_keep (by simpa using hj), List.getElem?_set_ne hij]
        · cases hre
      · cases hre
    · cases hre
  case convert S D x =>
    unfold Yb at hs
    (repeat' split at hs) <;> try (cases hs; done)
    all_goals cases hs
    all_goals first | rfl | exact app_keep hj
theorem stepN_reads {op : Op} (hr : Xz V op = true) {t : List (Nat × SV)} {b b' : List Res} {c : Prop} {σ' : St} (hs : Yl V (some 0) op ⟨t, b⟩ = some (c, σ')) (hc : c)
    (hseen : ∀ x ∈ idxs ((opL op).map (ev t)), seen x b b') : ∃ c', c' ∧ Yl V (some 0) op ⟨t, b'⟩ = some (c', ⟨σ'.t, b'⟩) := by
  cases op <;> simp only [Yl, reduceCtorEq] at hs
  case call cl =>
    obtain ⟨callee, args, ts⟩ := cl
    cases callee <;> (try simp only [reduceCtorEq] at hs)
    rename_i bi
    cases bi <;> (try simp only [reduceCtorEq] at hs)
    case append => simp [Xz] at hr
    all_goals
      simp only [Yl]
      unfold Xq at hs ⊢
      split at hs
      · rename_i s x hl
        simp only
        split at hs
        · rename_i u hu
          split at hs
          · rename_i v hv
            obtain ⟨z, hz, e⟩ := Option.map_eq_some_iff.1 hs
            cases e
            exact ⟨True, trivial, by simp [hl, hu, hv, hz]⟩
          · cases hs
        · cases hs
      · cases hs
  case indexAddr T x i =>
    simp only [Yl]
    unfold Xc at hs ⊢
    split at hs
    · rename_i e hk
      split at hs
      · rename_i s hsz
        split at hs
        · rename_i u hu
          split at hs
          · rename_i k kk hi
            split at hs
            · rename_i c0 y ha
              cases hs
              simp only at hu hi
              simp only [hu, hi]
              unfold Ym at ha
              split at ha
              · rename_i j n
                split at ha
                · rename_i cc e1 s1 n1 m1 hj
                  cases ha
                  obtain ⟨c'', hb'⟩ := seen_own (hseen (j, 0, 0) (op_idx (o := x) (by simp [opL]) hu)) hj
                  simp only at hc
                  refine ⟨_, ?_, by simp only [Ym, hb']; rfl⟩
                  refine ⟨hc.1, ?_⟩
                  have h2 := hc.2
                  simp only [Xc.sizeIs, hj] at h2
                  simp only [Xc.sizeIs, hb']
                  exact h2
                · cases ha
              · cases ha
            · cases hs
          · cases hs
        · cases hs
      · cases hs
    · cases hs
  all_goals simp [Xz] at hr
theorem stepD_go {dst : Option Tmp} {op : Op} {t t' : List (Nat × SV)} {b b' : List Res} (h : ∀ x ∈ op.operands, ev t' x = ev t x) {c : Prop} {r : RecE} (hs : XV V op ⟨t, b⟩ = .val c r) (hc : c) (hb : r.nb.isSome = true → b' = b) (hseen : r.nb = none → ∀ x ∈ r.rd, seen x b b') :
    HoldsR V (fun σ => σ = ⟨put dst r.x t', r.nb.getD b'⟩) (XR V dst op ⟨t', b'⟩) := by
  unfold XV at hs
  unfold XR
  rw [pv_congr (t := t') (t' := t) h]
  simp only at hs
  cases hp : pv V.Γ t op with
  | some p =>
    rw [hp] at hs
    obtain ⟨c', x⟩ := p
    simp only [goD, valD] at hs
    cases hs
    exact ⟨hc, rfl⟩
  | none =>
    rw [hp] at hs
    simp only [goD, goR] at hs ⊢
    cases hn : Yl V (some 0) op ⟨t, b⟩ with
    | some p =>
      obtain ⟨c', σ'⟩ := p
      rw [hn] at hs
      obtain ⟨x, hx, -⟩ := stepN_same (t' := t) (fun _ _ => rfl) hn
      simp only [dN, hx] at hs
      split at hs
      · rename_i hrd
        cases hs
        obtain ⟨c2, hc2, e2⟩ := stepN_reads hrd hn hc (hseen rfl)
        obtain ⟨x2, hx2, e3⟩ := stepN_same h e2
        simp only [hx, List.cons.injEq, Prod.mk.injEq, true_and, and_true] at hx2
        rw [e3 dst]
        simp only [orN]
        exact ⟨hc2, by rw [← hx2]; rfl⟩
      · cases hs
        obtain rfl := hb rfl
        obtain ⟨x2, hx2, e3⟩ := stepN_same h hn
        simp only [hx, List.cons.injEq, Prod.mk.injEq, true_and, and_true] at hx2
        rw [e3 dst]
        simp only [orN]
        exact ⟨hc, by rw [← hx2]; rfl⟩
    | none =>
      rw [hn] at hs
      simp only [dN] at hs
      cases op <;> simp only [Xv, reduceCtorEq] at hs
      case alloc T =>
        unfold XD at hs
        simp only [Yl, orN, Yd, XC]
        split at hs
        · rename_i ti hti
          cases hs
          obtain rfl := hb rfl
          exact ⟨trivial, rfl⟩
        · cases hs
      case box T x =>
        unfold dBox at hs
        simp only [Yl, orN, Yd, sBox]
        split at hs
        · rename_i u hu
          cases hs
          obtain rfl := hb rfl
          simp only at hu
          rw [h x (by simp [Op.operands]), hu]
          exact ⟨hc, rfl⟩
        · cases hs
      case load T x =>
        unfold XI at hs
        simp only [Yl, orN, Yd, XU]
        rw [h x (by simp [Op.operands])]
        (repeat' split at hs) <;> try (cases hs; done)
        rename_i i off he _ c0 T0 m0 hg _ ti hti _ y hy
        cases hs
        simp only at he hg
        obtain ⟨c1, hg1, hl1, hp1⟩ := seen_get (hseen rfl (i, off, ti.size) (by simp)) hg
        rw [he]
        simp only [hg1, hti, partS_congr hc.2 hp1, hy]
        exact ⟨by rw [hl1]; exact hc.1, rfl⟩
      case store T x y =>
        unfold XF at hs
        simp only [Yl, orN, Yd, XH]
        rw [h x (by simp [Op.operands]), h y (by simp [Op.operands])]
        (repeat' split at hs) <;> try (cases hs; done)
        rename_i i off he _ u hu _ c0 T0 m0 hg _ s hsz
        cases hs
        obtain rfl := hb rfl
        simp only at he hg hu
        rw [he, hu]
        simp only [hg, hsz]
        exact ⟨⟨hc.1, hc.2.1, hc.2.2.1, hc.2.2.2.1⟩, rfl⟩
      case build T ps =>
        unfold XB at hs
        simp only [Yl, orN, Yd, Xr]
        rw [evParts_congr (t := t') (t' := t) ps.toList (fun x hx => h x (by simp only [Op.operands]; rw [List.mem_toArray]; exact hx))]
        (repeat' split at hs) <;> try (cases hs; done)
        rename_i ti hti _ fs hk _ l hl _ cc hcc
        simp only [valD] at hs
        cases hs
        simp only at hl
        simp only [hti, hk, hl, hcc]
        exact ⟨trivial, rfl⟩
      case nilCheck x =>
        unfold dNil at hs
        simp only [Yl, orN, Yd, sNil]
        rw [h x (by simp [Op.operands])]
        split at hs
        · rename_i i off he
          simp only [valD] at hs
          cases hs
          simp only at he
          rw [he]
          exact ⟨trivial, rfl⟩
        · rename_i f l he
          simp only [valD] at hs
          cases hs
          simp only at he
          rw [he]
          exact ⟨hc, rfl⟩
        · cases hs
      case call cl =>
        obtain ⟨callee, args, ts⟩ := cl
        cases callee <;> simp only [reduceCtorEq] at hs
        unfold XK at hs
        (repeat' split at hs) <;> cases hs
theorem stepD_call {dst : Option Tmp} {op : Op} {t t' : List (Nat × SV)} {b b' : List Res} (h : ∀ x ∈ op.operands, ev t' x = ev t x) {g : FuncId} {args : List SV} (hs : XV V op ⟨t, b⟩ = .call g args) : XR V dst op ⟨t', b'⟩ = .call g args dst ⟨t', b'⟩ := by
  unfold XV at hs
  unfold XR
  rw [pv_congr (t := t') (t' := t) h]
  simp only at hs
  cases hp : pv V.Γ t op with
  | some p => rw [hp] at hs; obtain ⟨c', x⟩ := p; simp [goD, valD] at hs
  | none =>
    rw [hp] at hs
    simp only [goD, goR] at hs ⊢
    cases hn : Yl V (some 0) op ⟨t, b⟩ with
    | some p =>
      obtain ⟨c', σ'⟩ := p
      rw [hn] at hs
      obtain ⟨x, hx, -⟩ := stepN_same (t' := t) (fun _ _ => rfl) hn
      simp only [dN, hx] at hs
      split at hs <;> cases hs
    | none =>
      rw [hn] at hs
      simp only [dN] at hs
      cases op <;> simp only [Xv, reduceCtorEq] at hs
      case alloc T => unfold XD at hs; (repeat' split at hs) <;> cases hs
      case box T x => unfold dBox at hs; (repeat' split at hs) <;> cases hs
      case load T x => unfold XI at hs; (repeat' split at hs) <;> cases hs
      case store T x y => unfold XF at hs; (repeat' split at hs) <;> cases hs
      case build T ps => unfold XB at hs; (repeat' split at hs) <;> (try simp only [valD] at hs) <;> cases hs
      case nilCheck x => unfold dNil at hs; (repeat' split at hs) <;> (try simp only [valD] at hs) <;> cases hs
      case call cl =>
        obtain ⟨callee, args, ts⟩ := cl
        cases callee <;> simp only [reduceCtorEq] at hs
        rename_i f
        unfold XK at hs
        simp only [Yl, orN, Yd, XL]
        rw [h f (by simp [Op.operands, Call.operands])]
        have he : evs t' args.toList = evs t args.toList := mapM_congr args.toList (fun x hx => h x (by
          simp only [Op.operands, Call.operands]
          exact Array.mem_append.2 (.inr (Array.mem_toList_iff.1 hx))))
        rw [he]
        split at hs
        · rename_i ff caps hf
          split at hs
          · rename_i l hl
            simp only at hf hl
            rw [hf]
            simp only [hl]
            cases hs
            rfl
          · cases hs
        · cases hs
def UnE (r : RecE) (bi : List Res) : Prop := ∀ nb, r.nb = some nb → r.all = false → ∀ j q, (∀ x ∈ r.wr, ¬ touch x j q) → (nb[j]?).map (ob q) = (bi[j]?).map (ob q)
theorem stepD_un {op : Op} {t : List (Nat × SV)} {b : List Res} {c : Prop} {r : RecE} (hs : XV V op ⟨t, b⟩ = .val c r) (hc : c) : UnE r b := by
  intro nb hnb hall j q hwr
  unfold XV at hs
  simp only at hs
  cases hp : pv V.Γ t op with
  | some p => rw [hp] at hs; obtain ⟨c', x⟩ := p; simp only [goD, valD] at hs; cases hs; cases hnb
  | none =>
    rw [hp] at hs
    simp only [goD] at hs
    cases hn : Yl V (some 0) op ⟨t, b⟩ with
    | some p =>
      obtain ⟨c', σ'⟩ := p
      rw [hn] at hs
      obtain ⟨x, hx, -⟩ := stepN_same (t' := t) (fun _ _ => rfl) hn
      simp only [dN, hx] at hs
      split at hs
      · cases hs; cases hnb
      · cases hs
        cases hnb
        rw [stepN_keep hn (j := j) (fun e => hwr (b.length, 0, 0) (by simp) ⟨e.symm, .inl rfl⟩) (fun x hx e => hwr x (by simp [hx]) ⟨e, .inl ?_⟩)]
        exact idxs_zero hx
    | none =>
      rw [hn] at hs
      simp only [dN] at hs
      cases op <;> simp only [Xv, reduceCtorEq] at hs
      case alloc T =>
        unfold XD at hs
        (repeat' split at hs) <;> try (cases hs; done)
        cases hs; cases hnb
        rw [app_keep (fun e => hwr (b.length, 0, 0) (by simp) ⟨e.symm, .inl rfl⟩)]
      case box T x =>
        unfold dBox at hs
        (repeat' split at hs) <;> try (cases hs; done)
        cases hs; cases hnb
        rw [app_keep (fun e => hwr (b.length, 0, 0) (by simp) ⟨e.symm, .inl rfl⟩)]
      case load T x =>
        unfold XI at hs
        (repeat' split at hs) <;> try (cases hs; done)
        cases hs; cases hnb
      case store T x y =>
        unfold XF at hs
        (repeat' split at hs) <;> try (cases hs; done)
        rename_i i off he _ u hu _ c0 T0 m0 hg _ s hsz
        cases hs; cases hnb
        obtain ⟨-, -, h3, h4, h5⟩ := hc
        simp only at hg hwr
        obtain ⟨r0, hr0, -, hc0⟩ := getB_some hg
        rw [setB_at hr0]
        by_cases hji : i = j
        · subst hji
          have hil : i < b.length := (List.getElem?_eq_some_iff.1 hr0).1
          rw [List.getElem?_set_self hil, hr0]
          have hcell : cellsR r0 = c0 := by rcases hc0 with rfl | ⟨s', n', rfl⟩ <;> rfl
          have hcell2 : cellsR (setR (Xs c0 off (cells u)) r0) = Xs c0 off (cells u) := by rcases hc0 with rfl | ⟨s', n', rfl⟩ <;> rfl
          have hlen : (Xs c0 off (cells u)).length = c0.length := by simp [Xs]; omega
          simp only [Option.map_some, ob, shape_setR, hcell, hcell2, hlen]
          congr 3
          cases q with
          | none => rfl
          | some p =>
            have hpr : ¬ (off ≤ p ∧ p < off + s) := fun hh => hwr (i, off, s) (by simp) ⟨rfl, .inr ⟨p, rfl, hh.1, hh.2⟩⟩
            simp only [Xs]
            rcases Nat.lt_or_ge p off with hlt | hge
            · rw [List.append_assoc, List.getElem?_append_left (by simp; omega), List.getElem?_take, if_pos hlt]
            · have hge2 : off + s ≤ p := by omega
              rw [List.getElem?_append_right (by simp; omega), List.getElem?_drop]
              congr 1
              simp
              omega
        · rw [List.getElem?_set_ne hji]
      case build T ps =>
        unfold XB at hs
        (repeat' split at hs) <;> (try simp only [valD] at hs) <;> cases hs
        cases hnb
      case nilCheck x =>
        unfold dNil at hs
        (repeat' split at hs) <;> (try simp only [valD] at hs) <;> cases hs
        all_goals cases hnb
      case call cl =>
        obtain ⟨callee, args, ts⟩ := cl
        cases callee <;> simp only [reduceCtorEq] at hs
        unfold XK at hs
        (repeat' split at hs) <;> cases hs
end
end Vc
namespace Vc
open Go Go.RowKit Wf
section
variable {V : Cx} {F : Fx V}
def recE0 : RecE := ⟨.v undef, none, false, [], []⟩
def StepE (F : Fx V) (ops : Array Oper) (i : Nat) (ti : List (Nat × SV)) (bi : List Res) (r : RecE) : Prop :=
  ∀ (Q : Exit → Act → World → Prop) (K : Act → World → Prop) (a : Act) (w : World) (t' : List (Nat × SV)) (b' : List Res) (o : Oper), ops[i]? = some o →
    (∀ d ∈ o.looksAt ops, lk d t' = lk d ti) → (r.nb.isSome = true → b' = bi) → (r.nb = none → ∀ x ∈ r.rd, seen x bi b') → Rel F ⟨t', b'⟩ a w →
    (∀ a' w', Rel F ⟨put o.dst r.x t', r.nb.getD b'⟩ a' w' → K a' w') → wpOp V.P ops Q i K a w
def dstAt (ops : Array Oper) (k : Nat) : Option Tmp := (ops[k]?).bind (·.dst)
def uS (ops : Array Oper) (recs : List RecE) (k : Nat) (t : List (Nat × SV)) : List (Nat × SV) := put (dstAt ops k) (recs.getD k recE0).x t
def uN (recs : List RecE) (k : Nat) (b : List Res) : List Res := (recs.getD k recE0).nb.getD b
theorem rel_congr {t t' : List (Nat × SV)} {b : List Res} {a : Act} {w : World} (h : Rel F ⟨t, b⟩ a w) (e : ∀ d, lk d t' = lk d t) : Rel F ⟨t', b⟩ a w := by
  obtain ⟨β, fp, hf, hw⟩ := h
  exact ⟨β, fp, ⟨fun β' hβ => ⟨(hf.ok β' hβ).size, (hf.ok β' hβ).defers, fun d x hd => (hf.ok β' hβ).get d x (by rw [← e]; exact hd)⟩⟩, hw⟩
theorem lk_put (d : Nat) (dst : Option Tmp) (x : SV) (t : List (Nat × SV)) : lk d (put dst x t) = if dst = some d then some x else lk d t := by
  cases dst with
  | none => simp [put]
  | some e =>
    simp only [put, lk, Option.some.injEq]
    by_cases h : d = e
    · subst h; simp
    · rw [if_neg h, if_neg (fun q => h q.symm)]
theorem lk_put_congr {d : Nat} {dst : Option Tmp} {x : SV} {t t' : List (Nat × SV)} (h : lk d t = lk d t') : lk d (put dst x t) = lk d (put dst x t') := by
  rw [lk_put, lk_put, h]
theorem dep_closed {ops : Array Oper} {D : Nat → Bool} (hcl : ∀ i o, ops[i]? = some o → D i = true → ∀ e ∈ o.after, Region.binds .any e = true → D e.on = true) :
    ∀ (f i k : Nat), depB ops f i k = true → (∀ o, ops[i]? = some o → ∀ e ∈ o.after, Region.binds .any e = true → D e.on = true) → D k = true
  | 0, i, k, h, _ => by simp [depB] at h
  | f + 1, i, k, h, hp => by
    simp only [depB] at h
    split at h
    · rename_i o ho
      obtain ⟨e, he, h⟩ := Array.any_eq_true'.1 h
      simp only [Bool.and_eq_true, Bool.or_eq_true, beq_iff_eq] at h
      obtain ⟨hb, h⟩ := h
      have hon := hp o ho e he hb
      rcases h with rfl | h
      · exact hon
      · exact dep_closed hcl f e.on k h (fun o' ho' => hcl e.on o' ho' hon)
    · cases h
theorem repl_false (m j : Nat) : (Array.replicate m false).getD j false = false := by
  rcases Nat.lt_or_ge j m with h | h <;> simp [h]
def pY (Y : Nat) : SV := .v (.pointer (some ⟨Y, 0, none⟩))
def Fx.at (F : Fx V) {β : Nat → Bt} {fp : Nat → Nat → Prop} {b : List Res} {w : World} (h : Wd F β fp b w) : Fx V :=
  ⟨F.n, w, fun k => ∃ i r, b[i]? = some r ∧ r.mine = true ∧ fp i k, h.env, fun k ⟨i, r, hi, hm, hk⟩ => (h.mine i r hi hm k hk).elim (fun h1 => Nat.le_trans (V.esize _ F.e0) h1) (fun h1 => F.ownG k h1), β, b, fun k => ∃ i r, b[i]? = some r ∧ fp i k⟩
theorem Wd.here {β : Nat → Bt} {fp : Nat → Nat → Prop} {b : List Res} {w : World} (h : Wd F β fp b w) : Wd (F.at h) β fp b w := ⟨FrW.refl _ _, h.bx, fun i r hi hm k hk => .inr ⟨i, r, hi, hm, hk⟩, ⟨Agr.refl _ _, Nat.le_refl _⟩, fun i r hi k hk => .inr ⟨i, r, hi, hk⟩⟩
theorem Wd.join {b b₂ : List Res} {w w' : World} {β β₂ : Nat → Bt} {fp fp₂ : Nat → Nat → Prop} (h : Wd F β fp b w) (h2 : Wd (F.at h) β₂ fp₂ b₂ w') : Wd F β₂ fp₂ b₂ w' := by
  have hsz := h2.fr.size
  refine ⟨⟨h2.fr.os.trans h.fr.os, h2.fr.tape.trans h.fr.tape, h2.fr.output.trans h.fr.output, Nat.le_trans h.fr.size hsz, fun k hk hn => ?_⟩, h2.bx, fun i r hi hm k hk => ?_, ?_, fun i r hi k hk => ?_⟩
  · rw [h2.fr.block k (Nat.lt_of_lt_of_le hk h.fr.size) (fun ⟨i, r, hi, hm, hk'⟩ => ?_)]
    · exact h.fr.block k hk hn
    · rcases h.mine i r hi hm k hk' with h1 | h1
      · omega
      · exact hn h1
  · rcases h2.mine i r hi hm k hk with h1 | ⟨j, r0, hj, hm0, hk0⟩
    · exact .inl (Nat.le_trans h.fr.size h1)
    · exact h.mine j r0 hj hm0 k hk0
  · exact ⟨fun i hi => (h.ini.agr i hi).trans (h2.ini.agr i (Nat.lt_of_lt_of_le hi h.ini.len)), Nat.le_trans h.ini.len h2.ini.len⟩
  · rcases h2.foot i r hi k hk with h1 | ⟨j, r0, hj, hk0⟩
    · exact .inl (Nat.le_trans h.fr.size h1)
    · exact h.foot j r0 hj k hk0
theorem Wd.adopt {β : Nat → Bt} {fp : Nat → Nat → Prop} {w : World} {b : List Res} (h : Wd F β fp b w) (r : Res) (t : Bt) (f : Nat → Prop)
    (hr : ∀ β', Agr (b.length + 1) (upd β b.length t) β' → Holds β' t f w r) (hf : ∀ k, f k → F.w0.heap.size ≤ k ∧ k < w.heap.size ∧ ∀ i r, b[i]? = some r → ¬ fp i k) :
    Wd F (upd β b.length t) (updF fp b.length f) (b ++ [r]) w := by
  have old : ∀ {i r'}, (b ++ [r])[i]? = some r' → (i < b.length ∧ b[i]? = some r') ∨ (i = b.length ∧ r' = r) := fun {i r'} hi => by
    rcases Nat.lt_or_ge i b.length with hlt | hge
    · rw [List.getElem?_append_left hlt] at hi; exact .inl ⟨hlt, hi⟩
    · have hi' : i = b.length := by
        have := (List.getElem?_eq_some_iff.1 hi).1
        rw [List.length_append, List.length_singleton] at this
        omega
      subst hi'
      rw [List.getElem?_append_right (Nat.le_refl _)] at hi
      simp at hi
      exact .inr ⟨rfl, hi.symm⟩
  have fo : ∀ {i}, i < b.length → updF fp b.length f i = fp i := fun {i} hi => by funext k; simp [updF, show i ≠ b.length by omega]
  have fn : updF fp b.length f b.length = f := by funext k; simp [updF]
  refine ⟨h.fr, fun β' hβ => ?_, fun i r' hi hm k hk => ?_, ?_, fun i r' hi k hk => ?_⟩
  · rw [List.length_append, List.length_singleton] at hβ
    have hb' := h.bx β' hβ.of_upd
    have hlast : β' b.length = t := by rw [← hβ b.length (by omega), upd_at]
    refine ⟨fun i r' hi => ?_, fun i r' hi k hk => ?_, fun i j r1 r2 hi hj hne hm k hk hk' => ?_⟩
    · rcases old hi with ⟨hlt, hi⟩ | ⟨rfl, rfl⟩
      · rw [fo hlt]; exact hb'.holds i r' hi
      · rw [fn, hlast]; exact hr β' hβ
    · rcases old hi with ⟨hlt, hi⟩ | ⟨rfl, rfl⟩
      · rw [fo hlt] at hk; exact hb'.lt i r' hi k hk
      · rw [fn] at hk; exact (hf k hk).2.1
    · rcases old hi with ⟨hlt, hi2⟩ | ⟨ei, e1⟩
      · rcases old hj with ⟨hlt', hj2⟩ | ⟨ej, e2⟩
        · rw [fo hlt] at hk; rw [fo hlt'] at hk'; exact hb'.sep i j r1 r2 hi2 hj2 hne hm k hk hk'
        · rw [ej] at hk'
          rw [fo hlt] at hk; rw [fn] at hk'
          exact (hf k hk').2.2 i r1 hi2 hk
      · rcases old hj with ⟨hlt', hj2⟩ | ⟨ej, e2⟩
        · rw [ei] at hk
          rw [fn] at hk; rw [fo hlt'] at hk'
          exact (hf k hk).2.2 j r2 hj2 hk'
        · exact hne (ei.trans ej.symm)
  · rcases old hi with ⟨hlt, hi⟩ | ⟨rfl, rfl⟩
    · rw [fo hlt] at hk; exact h.mine i r' hi hm k hk
    · rw [fn] at hk; exact .inl (hf k hk).1
  · have hl := h.ini.len
    exact ⟨fun i hi => (h.ini.agr i hi).trans (upd_agr β _ _ i (by omega)), by rw [List.length_append]; omega⟩
  · rcases old hi with ⟨hlt, hi⟩ | ⟨rfl, rfl⟩
    · rw [fo hlt] at hk; exact h.foot i r' hi k hk
    · rw [fn] at hk; exact .inl (hf k hk).1
structure FlD where
  d : Nat → Nat
  z : Nat → List SV
  T : Nat → TypeId
  L : Nat → Nat
  q : Nat → Option (Nat × Nat)
def flR (q : Option (Nat × Nat)) (z : List SV) (T : TypeId) : Res := match q with
  | none => .cells z T true
  | some (s, n) => .own z T s n true
def flV (q : Option (Nat × Nat)) (L : Nat) : SV := match q with
  | none => .p L 0
  | some (_, n) => .o L n
def flB (q : Option (Nat × Nat)) (Y : Nat) : Bt := match q with
  | none => ⟨Y, 0, 0⟩
  | some (_, n) => ⟨Y, 0, n + 1⟩
def flP (q : Option (Nat × Nat)) (Y : Nat) : SV := match q with
  | none => pY Y
  | some (_, n) => .v (.slice (some ⟨Y, 0, none⟩) n n)
def flW (q : Option (Nat × Nat)) (z : List SV) : Prop := match q with
  | none => True
  | some (s, n) => z.length = n * s ∧ n ≤ maxLen
theorem fl_holds {q : Option (Nat × Nat)} {z : List SV} {T : TypeId} {Y : Nat} {β' : Nat → Bt} {w : World} (hq : flW q z) (h : w.heap[Y]? = some (.cells (z.map (conc β')).toArray T)) : Holds β' (flB q Y) (· = Y) w (flR q z T) := by
  cases q with
  | none => exact ⟨rfl, ⟨[], (0, 0), ⟨by rw [List.append_nil]; exact h, .inr (Nat.le_refl _)⟩, rfl⟩, fun k => Iff.rfl⟩
  | some p =>
    obtain ⟨s, n⟩ := p
    exact holds_row (rest := []) (fz := (0, 0)) (by rw [List.append_nil]; exact h) (.inr (Nat.le_refl _)) hq.1 (Nat.le_refl _) hq.2 (by simpa using hq.1)
theorem fl_conc {q : Option (Nat × Nat)} {Y L : Nat} {β' β : Nat → Bt} (h : β' L = flB q Y) : conc β (flP q Y) = conc β' (flV q L) := by
  cases q with
  | none => simp [conc, pY, flP, flV, h, flB]
  | some p => obtain ⟨s, n⟩ := p; simp [conc, flP, flV, h, flB, oV]
theorem flP_conc {q : Option (Nat × Nat)} {Y : Nat} (β β' : Nat → Bt) : conc β (flP q Y) = conc β' (flP q Y) := by
  cases q with
  | none => simp [conc, pY, flP]
  | some p => obtain ⟨s, n⟩ := p; simp [conc, flP]
def RelA (F : Fx V) (G : FlD) (A : Nat → Bool) (t : List (Nat × SV)) (b : List Res) (a : Act) (w : World) : Prop := ∃ (β : Nat → Bt) (fp : Nat → Nat → Prop) (Y : Nat → Nat) (tt : List (Nat × SV)),
  Fm F β b.length tt a ∧ Wd F β fp b w ∧
  (∀ k, A k = true → lk (G.d k) tt = some (flP (G.q k) (Y k)) ∧ lk (G.d k) t = some (flV (G.q k) (G.L k)) ∧ F.w0.heap.size ≤ Y k ∧ Y k < w.heap.size ∧ (∀ β', Agr b.length β β' → w.heap[Y k]? = some (.cells ((G.z k).map (conc β')).toArray (G.T k))) ∧ ∀ i r, b[i]? = some r → ¬ fp i (Y k)) ∧
  (∀ k l, A k = true → A l = true → k ≠ l → Y k ≠ Y l) ∧ ∀ e, (∀ k, A k = true → G.d k ≠ e) → lk e tt = lk e t
theorem RelA.none {G : FlD} {A : Nat → Bool} {t : List (Nat × SV)} {b : List Res} {a : Act} {w : World} (h : RelA F G A t b a w) (hA : ∀ k, A k = false) : Rel F ⟨t, b⟩ a w := by
  obtain ⟨β, fp, Y, tt, hf, hw, -, -, hl⟩ := h
  exact rel_congr ⟨β, fp, hf, hw⟩ (fun d => (hl d (fun k hk => by rw [hA k] at hk; cases hk)).symm)
theorem RelA.take {G : FlD} {A A' : Nat → Bool} {t : List (Nat × SV)} {b : List Res} {a : Act} {w : World} (h : RelA F G A t b a w) {c : Nat} (hc : A c = true) (hA : ∀ k, A' k = true → A k = true ∧ k ≠ c) (hA2 : ∀ k, A k = true → k ≠ c → A' k = true) (hL : G.L c = b.length)
    (hz : flW (G.q c) (G.z c)) (hd : ∀ k, A k = true → k ≠ c → G.d k ≠ G.d c) : RelA F G A' t (b ++ [flR (G.q c) (G.z c) (G.T c)]) a w := by
  obtain ⟨β, fp, Y, tt, hf, hw, hy, hdis, hl⟩ := h
  obtain ⟨g1, g2, g3, g4, g5, g6⟩ := hy c hc
  have hw2 := hw.adopt (flR (G.q c) (G.z c) (G.T c)) (flB (G.q c) (Y c)) (· = Y c) (fun β' hβ => fl_holds hz (g5 β' hβ.of_upd)) (fun k hk => by subst hk; exact ⟨g3, g4, g6⟩)
  refine ⟨_, _, Y, (G.d c, flV (G.q c) b.length) :: tt, ⟨fun β' hβ => ?_⟩, hw2, fun k hk => ?_, fun k l hk hl' hne => hdis k l (hA k hk).1 (hA l hl').1 hne, fun e he => ?_⟩
  · rw [List.length_append, List.length_singleton] at hβ
    have h0 := hf.ok β' hβ.of_upd
    refine ⟨h0.size, h0.defers, fun d x hd => ?_⟩
    simp only [lk] at hd
    split at hd
    · rename_i e
      subst e
      cases hd
      rw [h0.get _ _ g1]
      exact fl_conc (by rw [← hβ b.length (by omega), upd_at])
    · exact h0.get d x hd
  · obtain ⟨hk1, hk2⟩ := hA k hk
    obtain ⟨q1, q2, q3, q4, q5, q6⟩ := hy k hk1
    refine ⟨?_, q2, q3, q4, fun β' hβ => q5 β' (by rw [List.length_append, List.length_singleton] at hβ; exact hβ.of_upd), fun i r hi hfp => ?_⟩
    · simp only [lk]; rw [if_neg (hd k hk1 hk2)]; exact q1
    · rcases Nat.lt_or_ge i b.length with hlt | hge
      · rw [List.getElem?_append_left hlt] at hi
        exact q6 i r hi (by simpa [updF, show i ≠ b.length by omega] using hfp)
      · have hi' : i = b.length := by
          have := (List.getElem?_eq_some_iff.1 hi).1
          rw [List.length_append, List.length_singleton] at this
          omega
        subst hi'
        have : Y k = Y c := by simpa [updF] using hfp
        exact hdis k c hk1 hc hk2 this
  · simp only [lk]
    split
    · rename_i e1
      rw [e1, g2, hL]
    · rename_i e1
      refine hl e (fun k hk => ?_)
      by_cases hkc : k = c
      · subst hkc; exact fun q => e1 q.symm
      · exact he k (hA2 k hk hkc)
theorem draw_okG {ops : Array Oper} {recs : List RecE} {id : Nat} {a0 : Act} {w : World} {t0 : List (Nat × SV)} {b0 : List Res} {Q : Exit → Act → World → Prop} (G : FlD) (T : Nat → List (Nat × SV)) (B : Nat → List Res) (hT0 : ∀ d, lk d (T 0) = lk d t0) (hB0 : B 0 = b0)
    (hT : ∀ i, i < ops.size → ∀ d, lk d (T (i + 1)) = lk d (put (dstAt ops i) (recs.getD i recE0).x (T i)))
    (hB : ∀ i, i < ops.size → B (i + 1) = (recs.getD i recE0).nb.getD (B i))
    (hop : ∀ i, i < ops.size → ∀ F' : Fx V, F'.n = F.n → StepE F' ops i (T i) (B i) (recs.getD i recE0)) (hun : ∀ i, i < ops.size → UnE (recs.getD i recE0) (B i))
    (hfl : ∀ k, isFl ops k = true → dstAt ops k = some (G.d k) ∧ G.d k < F.n ∧ G.L k = (B k).length ∧ (∃ W, recs.getD k recE0 = ⟨flV (G.q k) (B k).length, some (B k ++ [flR (G.q k) (G.z k) (G.T k)]), false, [], W⟩) ∧ flW (G.q k) (G.z k) ∧ ∃ o, ops[k]? = some o ∧ o.guard = none ∧
      ∀ (β : Nat → Bt) (m : Nat) (tt : List (Nat × SV)) (a : Act) (w : World), Fm F β m tt a → (∀ d ∈ o.looksAt ops, lk d tt = lk d (T k)) → ∀ β', Agr m β β' → (execOp a.eval o).run V.P w = Result.ok (.value (conc bt0 (flP (G.q k) w.heap.size))) (w.alloc (.cells ((G.z k).map (conc β')).toArray (G.T k))))
    (hlen : recs.length = ops.size) (hc : OkD ops (recs.map fun r => ⟨r.nb.isSome, r.all, r.rd, r.wr⟩)) (hr : Rel F ⟨t0, b0⟩ a0 w)
    (hQ : ∀ a w', Rel F ⟨T ops.size, B ops.size⟩ a w' → Q .normal a w') : (Code.region id ops true).wp V.P Q a0 w := by
  simp only [OkD, Bool.and_eq_true] at hc
  obtain ⟨hc, hah⟩ := hc
  refine wp_region_any V.mixed ?_
  let n := ops.size
  let isS : Nat → Prop := fun k => (recs.getD k recE0).nb.isSome = true
  have hrk : ∀ k, k < n → (((recs.map fun r => (⟨r.nb.isSome, r.all, r.rd, r.wr⟩ : Rk))[k]?).getD rk0) = ⟨(recs.getD k recE0).nb.isSome, (recs.getD k recE0).all, (recs.getD k recE0).rd, (recs.getD k recE0).wr⟩ := fun k hk => by
    have hk' : k < recs.length := by rw [hlen]; exact hk
    simp [List.getD_eq_getElem?_getD, List.getElem?_eq_getElem hk']
  have hpair : ∀ i k, i < n → k < n → k ≠ i → pairB ops (recs.map fun r => (⟨r.nb.isSome, r.all, r.rd, r.wr⟩ : Rk)) i k = true := fun i k hi hk hne => by
    have h1 := List.all_eq_true.1 (List.all_eq_true.1 hc i (List.mem_range.2 hi)) k (List.mem_range.2 hk)
    simp only [Bool.or_eq_true, beq_iff_eq] at h1
    rcases h1 with h1 | h1
    · exact absurd h1 hne
    · exact h1
  have hpreS : ∀ i k, k < n → preS ops (recs.map fun r => (⟨r.nb.isSome, r.all, r.rd, r.wr⟩ : Rk)) i k = true → isFl ops k = true → k < i → ∀ j, j < k → isS j → depB ops ops.size i j = true := fun i k hk hp hf hki j hj hs => by
    unfold preS at hp
    rw [hf, decide_eq_true hki] at hp
    simp only [Bool.and_self, Bool.not_true, Bool.false_or] at hp
    have h1 := List.all_eq_true.1 hp j (List.mem_range.2 hj)
    rw [hrk j (by omega)] at h1
    have hs' : (recs.getD j recE0).nb.isSome = true := hs
    have h1 : (!((recs.getD j recE0).nb.isSome) || depB ops ops.size i j) = true := h1
    rw [hs', Bool.not_true, Bool.false_or] at h1
    exact h1
  -- what must be ordered
  have hslot : ∀ i k, i < n → k < n → k ≠ i → slotC ops i k = true → tieB ops i k = true ∧ (isFl ops k = true → k < i → ∀ j, j < k → isS j → depB ops ops.size i j = true) := fun i k hi hk hne hcf => by
    have h1 := hpair i k hi hk hne
    unfold pairB at h1
    rw [if_pos hcf, Bool.and_eq_true] at h1
    exact ⟨h1.1, hpreS i k hk h1.2⟩
  have hSS : ∀ i k, k < i → i < n → isS i → isS k → isFl ops i = false → depB ops ops.size i k = true := fun i k hki hi hsi hsk hnf => by
    have h1 := hpair i k hi (by omega) (by omega)
    have hmax : max i k = i := by omega
    unfold pairB at h1
    rw [hrk i hi, hrk k (by omega)] at h1
    have e1 : (recs.getD i recE0).nb.isSome = true := hsi
    have e2 : (recs.getD k recE0).nb.isSome = true := hsk
    split at h1
    · rw [Bool.and_eq_true] at h1
      have := h1.1
      unfold tieB at this
      rwa [if_pos hki] at this
    · rw [if_pos (by simp only [e1, e2, Bool.and_self]), hmax, hnf, Bool.false_or] at h1
      unfold tieB at h1
      rwa [if_pos hki] at h1
  have hmem : ∀ i k, i < n → k < n → k ≠ i → ¬ isS i → isS k → ∀ x ∈ (recs.getD i recE0).rd, ((recs.getD k recE0).all = true ∨ ∃ y ∈ (recs.getD k recE0).wr, ovl x y = true) → tieB ops i k = true ∧ (isFl ops k = true → k < i → ∀ j, j < k → isS j → depB ops ops.size i j = true) := fun i k hi hk hne hnsi hs x hx hcf => by
    have h1 := hpair i k hi hk hne
    unfold pairB at h1
    rw [hrk i hi, hrk k hk] at h1
    have e1 : (recs.getD i recE0).nb.isSome = false := by
      cases h : (recs.getD i recE0).nb.isSome with
      | false => rfl
      | true => exact absurd h hnsi
    split at h1
    · rw [Bool.and_eq_true] at h1
      exact ⟨h1.1, hpreS i k hk h1.2⟩
    · rw [if_neg (by simp only [e1, Bool.false_and]; simp), if_pos (by
        simp only [Bool.and_eq_true, Bool.not_eq_true']
        refine ⟨hs, ?_⟩
        cases hl : (recs.getD i recE0).rd with
        | nil => rw [hl] at hx; cases hx
        | cons _ _ => rfl)] at h1
      simp only [Bool.or_eq_true, Bool.not_eq_true', Bool.and_eq_true] at h1
      rcases h1 with h1 | h1
      · exact ⟨h1.1, hpreS i k hk h1.2⟩
      · exfalso
        simp only [Bool.or_eq_false_iff] at h1
        rcases hcf with hcf | ⟨y, hy, hxy⟩
        · rw [hcf] at h1; cases h1.1
        · have : anyOvl (recs.getD i recE0).rd (recs.getD k recE0).wr = true := by
            unfold anyOvl
            exact List.any_eq_true.2 ⟨x, hx, List.any_eq_true.2 ⟨y, hy, hxy⟩⟩
          rw [this] at h1
          cases h1.2
  have hflt : ∀ k, isFl ops k = true → k < n := fun k hk => by
    obtain ⟨-, -, -, -, -, o, ho, -⟩ := hfl k hk
    exact (Array.getElem?_eq_some_iff.1 ho).1
  have hflS : ∀ k, isFl ops k = true → isS k := fun k hk => by
    obtain ⟨-, -, -, ⟨_, hrec⟩, -⟩ := hfl k hk
    show (recs.getD k recE0).nb.isSome = true
    rw [hrec]; rfl
  -- the run in the text's order
  have hTf : ∀ i, i ≤ n → ∀ d, lk d (T i) = lk d (foldD (uS ops recs) (preD i) i t0) := fun i => by
    induction i with
    | zero => intro _ d; exact hT0 d
    | succ i ih =>
      intro hi d
      rw [hT i (by omega) d, fold_pre_succ]
      exact lk_put_congr (ih (by omega) d)
  have huS : ∀ d k (s s' : List (Nat × SV)), lk d s = lk d s' → lk d (uS ops recs k s) = lk d (uS ops recs k s') := fun d k s s' h => lk_put_congr h
  have hchS : ∀ d k, (∃ s, lk d (uS ops recs k s) ≠ lk d s) → dstAt ops k = some d := fun d k ⟨s, hs⟩ => by
    unfold uS at hs
    rw [lk_put] at hs
    by_cases h : dstAt ops k = some d
    · exact h
    · rw [if_neg h] at hs; exact absurd rfl hs
  have hidN : ∀ k, ¬ isS k → ∀ b, (recs.getD k recE0).nb.getD b = b := fun k hs b => by
    cases h : (recs.getD k recE0).nb with
    | none => rfl
    | some x => exact absurd (by show ((recs.getD k recE0).nb).isSome = true; rw [h]; rfl) hs
  let AS : (Nat → Bool) → Nat → Nat → Bool := fun D c k => isFl ops k && (D k && decide (c ≤ k))
  have hdis : ∀ k l, isFl ops k = true → isFl ops l = true → k ≠ l → G.d k = G.d l → ∀ (D : Nat → Bool), (∀ i o, ops[i]? = some o → D i = true → ∀ e ∈ o.after, Region.binds .any e = true → D e.on = true) → D k = true → D l = true → ∀ c, c < n → D c = false → isS c → c ≤ k → c ≤ l → False := fun k l hk hl hne he D hcl hDk hDl c hcn hDc hsc hck hcl' => by
    -- the later one comes behind all that is ahead of the earlier one
    have key : ∀ k l, isFl ops k = true → isFl ops l = true → k < l → G.d k = G.d l → D k = true → D l = true → c ≤ k → False := fun k l hk hl hkl he hDk hDl hck => by
      obtain ⟨hdk, -⟩ := hfl k hk
      obtain ⟨hdl, -, -, -, -, o, ho, -⟩ := hfl l hl
      have hs : slotC ops l k = true := by
        unfold slotC
        unfold dstAt at hdk
        rw [hdk, ho]
        have : o.dst = some (G.d l) := by unfold dstAt at hdl; rw [ho] at hdl; exact hdl
        simp [this, he]
      obtain ⟨-, h2⟩ := hslot l k (hflt l hl) (hflt k hk) (by omega) hs
      have hck' : c ≠ k := fun e => by rw [← e, hDc] at hDk; cases hDk
      have := dep_closed hcl _ l c (h2 hk hkl c (by omega) hsc) (fun o' ho' => hcl l o' ho' hDl)
      rw [hDc] at this; cases this
    rcases Nat.lt_or_gt_of_ne hne with h | h
    · exact key k l hk hl h he hDk hDl hck
    · exact key l k hl hk h he.symm hDl hDk hcl'
  -- those that are next are counted
  have hadv : ∀ (D : Nat → Bool) (a : Act) (w : World) (t : List (Nat × SV)), (∀ i o, ops[i]? = some o → D i = true → ∀ e ∈ o.after, Region.binds .any e = true → D e.on = true) → ∀ (m c : Nat), c + m = n → (∀ k, k < c → isS k → D k = true) → (∀ k, c ≤ k → k < n → isS k → D k = true → isFl ops k = true) →
      (∀ k l, AS D c k = true → AS D c l = true → k ≠ l → G.d k ≠ G.d l) → RelA F G (AS D c) t (B c) a w → ∃ c', c' ≤ n ∧ (∀ k, k < c' → isS k → D k = true) ∧ (c' < n → isS c' ∧ D c' = false) ∧ RelA F G (AS D c') t (B c') a w := fun D a w t hcl m => by
    induction m with
    | zero =>
      intro c hcn hpre _ _ hrel
      exact ⟨c, by omega, hpre, fun h => by omega, hrel⟩
    | succ m ih =>
      intro c hcn hpre hflo hdd hrel
      by_cases hs : isS c
      · cases hD : D c with
        | false => exact ⟨c, by omega, hpre, fun _ => ⟨hs, hD⟩, hrel⟩
        | true =>
          have hf := hflo c (Nat.le_refl _) (by omega) hs hD
          obtain ⟨-, -, hL, ⟨_, hrec⟩, hW, -⟩ := hfl c hf
          have hBc : B (c + 1) = B c ++ [flR (G.q c) (G.z c) (G.T c)] := by rw [hB c (by omega), hrec]; rfl
          have hAc : AS D c c = true := by simp [AS, hf, hD]
          have hA1 : ∀ k, AS D (c + 1) k = true → AS D c k = true ∧ k ≠ c := fun k hk => by
            simp only [AS, Bool.and_eq_true, decide_eq_true_eq] at hk ⊢
            exact ⟨⟨hk.1, hk.2.1, by omega⟩, by omega⟩
          refine ih (c + 1) (by omega) (fun k hk hsk => ?_) (fun k hk => hflo k (by omega)) (fun k l hk hl => hdd k l (hA1 k hk).1 (hA1 l hl).1) ?_
          · rcases Nat.lt_or_eq_of_le (Nat.lt_succ_iff.1 hk) with h1 | rfl
            · exact hpre k h1 hsk
            · exact hD
          · rw [hBc]
            refine hrel.take hAc hA1 (fun k hk hne => ?_) hL hW (fun k hk hne => hdd k c hk hAc hne)
            simp only [AS, Bool.and_eq_true, decide_eq_true_eq] at hk ⊢
            exact ⟨hk.1, hk.2.1, by omega⟩
      · have hBc : B (c + 1) = B c := by rw [hB c (by omega)]; exact hidN c hs _
        have hAe : AS D (c + 1) = AS D c := by
          funext k
          by_cases hk : isFl ops k = true
          · have hne : k ≠ c := fun e => hs (e ▸ hflS k hk)
            simp only [AS]
            congr 2
            exact decide_eq_decide.2 ⟨fun h => by omega, fun h => by omega⟩
          · simp only [AS, Bool.not_eq_true] at hk ⊢
            rw [hk]; rfl
        refine ih (c + 1) (by omega) (fun k hk hsk => ?_) (fun k hk => hflo k (by omega)) (by rw [hAe]; exact hdd) (by rw [hBc, hAe]; exact hrel)
        rcases Nat.lt_or_eq_of_le (Nat.lt_succ_iff.1 hk) with h1 | rfl
        · exact hpre k h1 hsk
        · exact absurd hsk hs
  let Inv : (Nat → Bool) → Act → World → Prop := fun D a w => (∃ c, c ≤ n ∧ (∀ k, k < c → isS k → D k = true) ∧ (c < n → isS c ∧ D c = false) ∧ RelA F G (AS D c) (foldD (uS ops recs) D n t0) (B c) a w) ∧ (∀ i o, ops[i]? = some o → D i = true → ∀ e ∈ o.after, Region.binds .any e = true → D e.on = true)
  refine wpAny_inv Inv ?_ ?_ ops.size _ a0 _ (by simp) (by simp) ?_
  · rintro listed a w i hsz ⟨⟨c, hcn, hpre, hfirst, hrel⟩, hcl⟩ hi
    obtain ⟨hun1, o, ho, hall⟩ := mem_ready.1 hi
    have hin : i < n := (Array.getElem?_eq_some_iff.1 ho).1
    have hDi : listed.getD i false = false := by
      have : i < listed.size := by rw [hsz]; exact hin
      simp [this] at hun1 ⊢; exact hun1
    have hpr : ∀ o', ops[i]? = some o' → ∀ e ∈ o'.after, Region.binds .any e = true → listed.getD e.on false = true := fun o' ho' e he hb => by
      rw [ho] at ho'; cases ho'; exact hall e he hb
    obtain ⟨D, hDD⟩ : ∃ D : Nat → Bool, D = fun k => listed.getD k false := ⟨_, rfl⟩
    have hDk : ∀ k, listed.getD k false = D k := fun k => by rw [hDD]
    rw [← hDD] at hrel hcl ⊢
    rw [hDk] at hDi
    simp only [hDk] at hpr hpre hfirst
    have hclI : ∀ l o', ops[l]? = some o' → insD D i l = true → ∀ e ∈ o'.after, Region.binds .any e = true → insD D i e.on = true := by
      intro l o' ho' hl e he hb
      simp only [insD, Bool.or_eq_true, decide_eq_true_eq] at hl ⊢
      rcases hl with hl | rfl
      · exact .inl (hcl l o' ho' hl e he hb)
      · exact .inl (hpr o' ho' e he hb)
    have order : ∀ k, k < n → k ≠ i → tieB ops i k = true → D k = decide (k < i) := fun k hk hne h1 => by
      unfold tieB at h1
      split at h1
      · rename_i hlt
        rw [decide_eq_true hlt]
        exact dep_closed hcl _ i k h1 hpr
      · rename_i hlt
        rw [decide_eq_false hlt]
        cases hD : D k with
        | false => rfl
        | true =>
          have := dep_closed hcl _ k i h1 (fun o' ho' => hcl k o' ho' hD)
          rw [hDi] at this
          cases this
    have hconfT : ∀ d, (d ∈ o.looksAt ops ∨ o.dst = some d) → ∀ k, k < n → (∃ s, lk d (uS ops recs k s) ≠ lk d s) → D k = decide (k < i) := fun d hd k hk hch => by
      by_cases hki : k = i
      · subst hki; rw [hDi]; simp
      · refine order k hk hki (hslot i k hin hk hki ?_).1
        unfold slotC
        have := hchS d k hch
        unfold dstAt at this
        rw [this, ho]
        simp only [Bool.or_eq_true, List.contains_iff_mem, beq_iff_eq]
        exact hd
    have hlooks : ∀ d, d ∈ o.looksAt ops → lk d (foldD (uS ops recs) D n t0) = lk d (T i) := fun d hd => by
      rw [hTf i (Nat.le_of_lt hin) d]
      exact fold_see (uS ops recs) (lk d) (huS d) D n i t0 (Nat.le_of_lt hin) (hconfT d (.inl hd))
    have e1 : ∀ d, lk d (foldD (uS ops recs) (insD D i) n t0) = lk d (put o.dst (recs.getD i recE0).x (foldD (uS ops recs) D n t0)) := fun d => by
      have hd : dstAt ops i = o.dst := by unfold dstAt; rw [ho]; rfl
      have := fold_ins (uS ops recs) (lk d) (huS d) D n i t0 hin hDi (fun hch k hk hk' hD => by
        have hdd := hchS d i hch
        rw [hd] at hdd
        have := hconfT d (.inr hdd) k hk hk'
        rw [hD] at this
        exact of_decide_eq_true this.symm)
      rw [this]
      unfold uS
      rw [hd]
    -- what is done of what changes things
    have hmin : ∀ k, c ≤ k → k < n → isS k → D k = true → isFl ops k = true := fun k hck hk hs hD => by
      cases hf : isFl ops k with
      | true => rfl
      | false =>
        exfalso
        obtain ⟨hsc, hDc⟩ := hfirst (by omega)
        have hne : c ≠ k := fun e => by rw [← e, hDc] at hD; cases hD
        have := dep_closed hcl _ k c (hSS k c (by omega) hk hs hsc hf) (fun o' ho' => hcl k o' ho' hD)
        rw [hDc] at this
        cases this
    have hA : ∀ k, AS D c k = true → isFl ops k = true ∧ D k = true ∧ c ≤ k := fun k hk => by
      simp only [AS, Bool.and_eq_true, decide_eq_true_eq] at hk
      exact hk
    have hnear : ∀ k, AS D c k = true → (isFl ops k = true → k < i → ∀ j, j < k → isS j → depB ops ops.size i j = true) → D k = decide (k < i) → False := fun k hk h2 h3 => by
      obtain ⟨hf, hD, hck⟩ := hA k hk
      have hkn := hflt k hf
      obtain ⟨hsc, hDc⟩ := hfirst (by omega)
      have hne : c ≠ k := fun e => by rw [← e, hDc] at hD; cases hD
      rw [hD] at h3
      have hki := of_decide_eq_true h3.symm
      have := dep_closed hcl _ i c (h2 hf hki c (by omega) hsc) hpr
      rw [hDc] at this
      cases this
    have haside : ∀ k, AS D c k = true → G.d k ∉ o.looksAt ops ∧ o.dst ≠ some (G.d k) := fun k hk => by
      obtain ⟨hf, hD, hck⟩ := hA k hk
      have hkn := hflt k hf
      have hki : k ≠ i := fun e => by rw [e, hDi] at hD; cases hD
      have hno : ¬ slotC ops i k = true := fun hs => by
        obtain ⟨h1, h2⟩ := hslot i k hin hkn hki hs
        exact hnear k hk h2 (order k hkn hki h1)
      have hdk := (hfl k hf).1
      unfold dstAt at hdk
      unfold slotC at hno
      rw [hdk, ho] at hno
      simp only [Bool.or_eq_true, List.contains_iff_mem, beq_iff_eq, not_or] at hno
      exact hno
    have hddD : ∀ k l, AS D c k = true → AS D c l = true → k ≠ l → G.d k ≠ G.d l := fun k l hk hl hne he => by
      obtain ⟨hf, hD, hck⟩ := hA k hk
      obtain ⟨hf', hD', hck'⟩ := hA l hl
      have hkn := hflt k hf
      obtain ⟨hsc, hDc⟩ := hfirst (by omega)
      exact hdis k l hf hf' hne he D hcl hD hD' c (by omega) hDc hsc hck hck'
    -- an operation that is no such cell
    have hplain : isFl ops i = false → ((recs.getD i recE0).nb.isSome = true → B c = B i) → ((recs.getD i recE0).nb = none → ∀ x ∈ (recs.getD i recE0).rd, seen x (B i) (B c)) → ∀ c', (recs.getD i recE0).nb.getD (B c) = B c' → (∀ k, AS (insD D i) c' k = AS D c k) →
        wpOp V.P ops Q i (fun a' w' => RelA F G (AS (insD D i) c') (foldD (uS ops recs) (insD D i) n t0) (B c') a' w') a w := fun hnf hb hseen c' hc' hAe => by
      obtain ⟨β, fp, Y, tt, hf, hw, hy, hd, hlk⟩ := hrel
      refine hop i hin (F.at hw) rfl Q _ a w tt (B c) o ho (fun d hd' => (hlk d (fun k hk e => (haside k hk).1 (by rw [e]; exact hd'))).trans (hlooks d hd')) hb hseen ⟨β, fp, ⟨hf.ok⟩, hw.here⟩ ?_
      rintro a' w' ⟨β₂, fp₂, hf2, hw2⟩
      have hsz : w.heap.size ≤ w'.heap.size := hw2.fr.size
      rw [show (⟨put o.dst (recs.getD i recE0).x tt, (recs.getD i recE0).nb.getD (B c)⟩ : St) = ⟨put o.dst (recs.getD i recE0).x tt, B c'⟩ by rw [hc']] at hf2 hw2
      refine ⟨β₂, fp₂, Y, put o.dst (recs.getD i recE0).x tt, ⟨hf2.ok⟩, hw.join hw2, fun k hk => ?_, fun k l hk hl => hd k l (by rw [← hAe]; exact hk) (by rw [← hAe]; exact hl), fun e he => ?_⟩
      · rw [hAe] at hk
        obtain ⟨g1, g2, g3, g4, g5, g6⟩ := hy k hk
        have hne := (haside k hk).2
        refine ⟨by rw [lk_put, if_neg hne]; exact g1, by rw [e1, lk_put, if_neg hne]; exact g2, g3, Nat.lt_of_lt_of_le g4 hsz, fun β' hβ => (hw2.fr.block _ g4 (fun ⟨j, r, hj, _, hk⟩ => g6 j r hj hk)).trans (g5 β' (fun i hi => (hw2.ini.agr i hi).trans (hβ i (Nat.lt_of_lt_of_le hi hw2.ini.len)))), fun j r hj hk => ?_⟩
        rcases hw2.foot j r hj _ hk with h1 | ⟨j', r', hj', hk'⟩
        · have : w.heap.size ≤ Y k := h1
          omega
        · exact g6 j' r' hj' hk'
      · rw [e1, lk_put, lk_put]
        split
        · rfl
        · exact hlk e (fun k hk => he k (by rw [hAe]; exact hk))
    have hAins : ∀ c' k, k ≠ i → AS (insD D i) c' k = AS D c' k := fun c' k hk => by simp [AS, insD, hk]
    by_cases hfi : isFl ops i = true
    · -- such a cell
      have hci : c ≤ i := by
        apply Nat.le_of_not_lt
        intro hlt
        have := hpre i hlt (hflS i hfi)
        rw [hDi] at this; cases this
      obtain ⟨hdi, hdn, hLi, ⟨_, hrec⟩, hW, o', ho', hg, hexec⟩ := hfl i hfi
      rw [ho] at ho'
      cases ho'
      have hodst : o.dst = some (G.d i) := by unfold dstAt at hdi; rw [ho] at hdi; exact hdi
      have hfin : ∀ a' w', RelA F G (AS (insD D i) c) (foldD (uS ops recs) (insD D i) n t0) (B c) a' w' → Inv (insD D i) a' w' := fun a' w' hr' => by
        refine ⟨hadv (insD D i) a' w' _ hclI (n - c) c (by omega) (fun k hk hs => by simp [insD, hpre k hk hs]) (fun k hk hkn hs hD => ?_) (fun k l hk hl hne he => ?_) hr', hclI⟩
        · by_cases hki : k = i
          · rw [hki]; exact hfi
          · exact hmin k hk hkn hs (by simpa [insD, hki] using hD)
        · by_cases hki : k = i
          · subst hki
            have hl' : AS D c l = true := by rw [← hAins c l (fun e => hne e.symm)]; exact hl
            exact (haside l hl').2 (by rw [hodst, he])
          · by_cases hli : l = i
            · subst hli
              have hk' : AS D c k = true := by rw [← hAins c k hki]; exact hk
              exact (haside k hk').2 (by rw [hodst, he])
            · exact hddD k l (by rw [← hAins c k hki]; exact hk) (by rw [← hAins c l hli]; exact hl) hne he
      refine wpOp_mono (fun a' w' h => hfin a' w' h) ?_
      obtain ⟨β, fp, Y, tt, hf, hw, hy, hd, hlk⟩ := hrel
      have ho2 := ho
      unfold wpOp
      rw [ho]
      simp only
      rw [if_pos (by simp [Region.wanted, hg])]
      left
      have hex := hexec β _ tt a w hf (fun d hd' => (hlk d (fun k hk e => (haside k hk).1 (by rw [e]; exact hd'))).trans (hlooks d hd'))
      have hrun := hex β (Agr.refl _ _)
      have hall' : ∀ β', Agr (B c).length β β' → (G.z i).map (conc β) = (G.z i).map (conc β') := fun β' hβ => by
        have h1 := hex β' hβ
        rw [hrun] at h1
        injection h1 with _ h1
        have h2 := congrArg (fun w' : World => w'.heap[w.heap.size]?) h1
        simp only [heap_new] at h2
        have h3 := (Obj.cells.inj (Option.some.inj h2)).1
        exact congrArg Array.toList h3
      have hbel : Below w.heap.size w (w.alloc (.cells ((G.z i).map (conc β)).toArray (G.T i))) := (Below.refl _ _).alloc (Nat.le_refl _) _
      have hnew := heap_new w (.cells ((G.z i).map (conc β)).toArray (G.T i))
      have hsz : (w.alloc (.cells ((G.z i).map (conc β)).toArray (G.T i))).heap.size = w.heap.size + 1 := size_alloc _ _
      refine wp_of_value hrun ?_
      rw [hodst]
      generalize w.alloc (.cells ((G.z i).map (conc β)).toArray (G.T i)) = w2 at hbel hnew hsz
      refine ⟨β, fp, fun k => if k = i then w.heap.size else Y k, (G.d i, flP (G.q i) w.heap.size) :: tt, ⟨fun β' hβ => by rw [flP_conc bt0 β']; exact (hf.ok β' hβ).put hdn (flP (G.q i) w.heap.size)⟩, hw.below hbel, fun k hk => ?_, fun k l hk hl hne => ?_, fun e he => ?_⟩
      · by_cases hki : k = i
        · subst hki
          simp only [if_true]
          refine ⟨by simp [lk], ?_, hw.fr.size, by omega, fun β' hβ => by rw [← hall' β' hβ]; exact hnew, fun j r hj hk => ?_⟩
          · rw [e1, lk_put, if_pos hodst, hrec, hLi]
          · have := (hw.bx β (Agr.refl _ _)).lt j r hj _ hk
            omega
        · have hk' : AS D c k = true := by rw [← hAins c k hki]; exact hk
          obtain ⟨g1, g2, g3, g4, g5, g6⟩ := hy k hk'
          have hne := (haside k hk').2
          simp only [if_neg hki]
          refine ⟨?_, ?_, g3, by omega, fun β' hβ => (hbel.block _ g4).trans (g5 β' hβ), g6⟩
          · simp only [lk]
            rw [if_neg (fun e => hne (by rw [hodst, e]))]
            exact g1
          · rw [e1, lk_put, if_neg hne]; exact g2
      · have D1 : ∀ k, AS (insD D i) c k = true → k ≠ i → AS D c k = true := fun k h1 h2 => by rw [← hAins c k h2]; exact h1
        by_cases k1 : k = i
        · have k2 : l ≠ i := fun e => hne (k1.trans e.symm)
          simp only [if_pos k1, if_neg k2]
          have := (hy l (D1 l hl k2)).2.2.2.1
          omega
        · by_cases k2 : l = i
          · simp only [if_neg k1, if_pos k2]
            have := (hy k (D1 k hk k1)).2.2.2.1
            omega
          · simp only [if_neg k1, if_neg k2]
            exact hd k l (D1 k hk k1) (D1 l hl k2) hne
      · have hne : G.d i ≠ e := he i (by simp [AS, insD, hfi, hci])
        have h1 : lk e ((G.d i, flP (G.q i) w.heap.size) :: tt) = lk e tt := by simp only [lk]; rw [if_neg (fun q => hne q.symm)]
        rw [h1, hlk e (fun k hk => he k (by
          obtain ⟨-, hD, -⟩ := hA k hk
          rw [hAins c k (fun q => by rw [q, hDi] at hD; cases hD)]; exact hk)), e1, lk_put, if_neg (fun q => hne (Option.some.inj (hodst.symm.trans q)))]
    · have hfi : isFl ops i = false := by simpa using hfi
      by_cases hs : isS i
      · -- the next that changes things
        have hci : c = i := by
          apply Nat.le_antisymm
          · apply Nat.le_of_not_lt
            intro hlt
            have := hpre i hlt hs
            rw [hDi] at this; cases this
          · apply Nat.le_of_not_lt
            intro hlt
            obtain ⟨hsc, hDc⟩ := hfirst (by omega)
            have := dep_closed hcl _ i c (hSS i c hlt hin hs hsc hfi) hpr
            rw [hDc] at this; cases this
        subst hci
        have hAe : ∀ k, AS (insD D c) (c + 1) k = AS D c k := fun k => by
          by_cases hkc : k = c
          · subst hkc; simp [AS, hfi]
          · simp only [AS, insD, hkc, decide_false, Bool.or_false]
            congr 2
            exact decide_eq_decide.2 ⟨fun h => by omega, fun h => by omega⟩
        refine wpOp_mono ?_ (hplain hfi (fun _ => rfl) (fun hnb => by have : (recs.getD c recE0).nb.isSome = true := hs; rw [hnb] at this; cases this) (c + 1) (hB c hin).symm hAe)
        intro a' w' hr'
        refine ⟨hadv (insD D c) a' w' _ hclI (n - (c + 1)) (c + 1) (by omega) (fun k hk hsk => ?_) (fun k hk hkn hsk hD => hmin k (by omega) hkn hsk (by simpa [insD, show k ≠ c by omega] using hD)) (fun k l hk hl => hddD k l (by rw [← hAe]; exact hk) (by rw [← hAe]; exact hl)) hr', hclI⟩
        rcases Nat.lt_or_eq_of_le (Nat.lt_succ_iff.1 hk) with h1 | rfl
        · simp [insD, hpre k h1 hsk]
        · simp [insD]
      · -- one that reads
        have hseen : ∀ x ∈ (recs.getD i recE0).rd, seen x (B i) (B c) := fun x hx q hq => by
          have step : ∀ k, k < n → (k < i ∧ c ≤ k ∨ i < k ∧ k < c) → ((B (k + 1))[x.1]?).map (ob q) = ((B k)[x.1]?).map (ob q) := fun k hk hb => by
            rw [hB k hk]
            cases hnb : (recs.getD k recE0).nb with
            | none => rfl
            | some nb =>
              have hsk : isS k := by show ((recs.getD k recE0).nb).isSome = true; rw [hnb]; rfl
              have hne : k ≠ i := by omega
              have hno : ¬ ((recs.getD k recE0).all = true ∨ ∃ y ∈ (recs.getD k recE0).wr, ovl x y = true) := fun hcf => by
                obtain ⟨h1, h2⟩ := hmem i k hin hk hne hs hsk x hx hcf
                have h3 := order k hk hne h1
                rcases hb with ⟨hki, hck⟩ | ⟨hik, hkc⟩
                · have hD : D k = true := by rw [h3]; exact decide_eq_true hki
                  exact hnear k (by simp only [AS, hmin k hck hk hsk hD, hD, decide_eq_true hck, Bool.and_self]) h2 h3
                · have := hpre k hkc hsk
                  rw [h3, decide_eq_false (by omega)] at this
                  cases this
              simp only [not_or, not_exists, not_and, Bool.not_eq_true] at hno
              exact hun k hk nb hnb hno.1 x.1 q (fun y hy => ovl_touch (hno.2 y hy) hq)
          have walk : ∀ (m p : Nat), p + m ≤ n → (∀ k, p ≤ k → k < p + m → ((B (k + 1))[x.1]?).map (ob q) = ((B k)[x.1]?).map (ob q)) → ((B (p + m))[x.1]?).map (ob q) = ((B p)[x.1]?).map (ob q) := fun m p => by
            induction m with
            | zero => intro _ _; rfl
            | succ m ih =>
              intro h1 h2
              have := h2 (p + m) (by omega) (by omega)
              rw [show p + (m + 1) = p + m + 1 by omega, this]
              exact ih (by omega) (fun k h3 h4 => h2 k h3 (by omega))
          rcases Nat.lt_or_ge c i with hlt | hge
          · have := walk (i - c) c (by omega) (fun k h3 h4 => step k (by omega) (.inl ⟨by omega, h3⟩))
            rw [show c + (i - c) = i by omega] at this
            exact this.symm
          · have hi1 : ((B (i + 1))[x.1]?).map (ob q) = ((B i)[x.1]?).map (ob q) := by
              rw [hB i hin, hidN i hs (B i)]
            have := walk (c - i) i (by omega) (fun k h3 h4 => by
              rcases Nat.lt_or_eq_of_le h3 with h5 | rfl
              · exact step k (by omega) (.inr ⟨h5, by omega⟩)
              · exact hi1)
            rw [show i + (c - i) = c by omega] at this
            exact this
        have hAe : ∀ k, AS (insD D i) c k = AS D c k := fun k => by
          by_cases hki : k = i
          · subst hki; simp [AS, hfi]
          · exact hAins c k hki
        refine wpOp_mono ?_ (hplain hfi (fun h => absurd h hs) (fun _ => hseen) c (hidN i hs _) hAe)
        intro a' w' hr'
        refine ⟨⟨c, hcn, fun k hk hsk => by simp [insD, hpre k hk hsk], fun hlt => ⟨(hfirst hlt).1, ?_⟩, hr'⟩, hclI⟩
        have hne : c ≠ i := fun e => hs (e ▸ (hfirst hlt).1)
        simp [insD, hne, (hfirst hlt).2]
  · rintro listed a w hsz ⟨⟨c, hcn, hpre, hfirst, hrel⟩, hcl⟩ hr
    have hall : ∀ k, k < n → listed.getD k false = true := fun k => by
      induction k using Nat.strongRecOn with
      | _ k ih =>
        intro hk
        cases hl : listed.getD k false with
        | true => rfl
        | false =>
          exfalso
          obtain ⟨o, ho⟩ : ∃ o, ops[k]? = some o := ⟨ops[k]'hk, by simp [hk]⟩
          have hks : k < listed.size := by rw [hsz]; exact hk
          have : k ∈ Region.ready .any ops listed := by
            refine mem_ready.2 ⟨?_, o, ho, fun e he hb => ?_⟩
            · simp [hks] at hl ⊢; exact hl
            · have h1 := List.all_eq_true.1 hah k (List.mem_range.2 hk)
              rw [ho] at h1
              have h2 := Array.all_eq_true'.1 h1 e he
              simp only [hb, Bool.not_true, Bool.false_or, decide_eq_true_eq] at h2
              exact ih e.on h2 (by omega)
          rw [hr] at this
          cases this
    have hce : c = n := by
      apply Nat.le_antisymm hcn
      apply Nat.le_of_not_lt
      intro hlt
      have h1 := (hfirst hlt).2
      have h2 := hall c hlt
      simp only at h1
      rw [h2] at h1
      cases h1
    subst hce
    have hrel2 := hrel.none (fun k => by
      cases hf : isFl ops k with
      | false => simp only [AS, hf, Bool.false_and]
      | true =>
        have := hflt k hf
        show (isFl ops k && (listed.getD k false && decide (ops.size ≤ k))) = false
        rw [decide_eq_false (show ¬ ops.size ≤ k from Nat.not_le.2 this), Bool.and_false, Bool.and_false])
    have e1 := fold_all (uS ops recs) (fun k => listed.getD k false) ops.size t0 hall
    have hrel2 : Rel F ⟨foldD (uS ops recs) (fun k => listed.getD k false) ops.size t0, B ops.size⟩ a w := hrel2
    rw [e1] at hrel2
    exact hQ a w (rel_congr hrel2 (fun d => hTf ops.size (Nat.le_refl _) d))
  · have e3 : (fun k => (Array.replicate ops.size false).getD k false) = fun _ => false := funext fun k => repl_false _ _
    show Inv _ a0 _
    rw [e3]
    have e : ∀ {S : Type} (u : Nat → S → S) (m : Nat) (s : S), foldD u (fun _ => false) m s = s := fun u m s => by
      induction m with
      | zero => rfl
      | succ m ih => simp only [foldD]; rw [if_neg (by simp), ih]
    obtain ⟨β, fp, hf, hw⟩ := hr
    refine ⟨?_, fun i o _ h => by cases h⟩
    have h0 : RelA F G (AS (fun _ => false) 0) t0 (B 0) a0 w.drew := by
      rw [hB0]
      refine ⟨β, fp, fun _ => 0, t0, hf, hw.drew, fun k hk => ?_, fun k l hk => ?_, fun _ _ => rfl⟩ <;> simp [AS] at hk
    have := hadv (fun _ => false) a0 w.drew t0 (fun i o _ h => by cases h) n 0 (by omega) (fun k hk => by omega) (fun k _ _ _ h => by cases h) (fun k l hk => by simp [AS] at hk) h0
    obtain ⟨c, h1, h2, h3, h4⟩ := this
    exact ⟨c, h1, h2, h3, by rw [e]; exact h4⟩
end
end Vc
namespace Vc
open Go Go.RowKit Wf
section
variable {V : Cx} {F : Fx V}
theorem looks_ev {ops : Array Oper} {o : Oper} {t t' : List (Nat × SV)} (h : ∀ d ∈ o.looksAt ops, lk d t' = lk d t) : ∀ x ∈ o.op.operands, ev t' x = ev t x := fun x hx => by
  cases x with
  | tmp d =>
    simp only [ev]
    refine h d ?_
    unfold Oper.looksAt
    simp only [List.mem_append, List.mem_filterMap]
    exact .inl ⟨.tmp d, Array.mem_toList_iff.2 hx, rfl⟩
  | const _ => rfl
  | global _ => rfl
  | func _ => rfl
theorem gdst_ok : ∀ (l : List Oper) (j : Nat), gdst l j = (l[j]?).bind (·.dst)
  | [], j => by simp [gdst]
  | o :: r, 0 => by simp [gdst]
  | o :: r, j + 1 => by simp [gdst, gdst_ok r j]
theorem gvalD_ok {ops : Array Oper} {σt : List (Nat × SV)} {β : Nat → Bt} {a : Act} (hf : FrOK β F.n σt a) {j d : Nat} {b : Bool} (h : Yk σt (gdst ops.toList j) = some (d, b)) :
    yielded ops a.tmps j = some b ∧ a.tmps.getD d undef = .bool b := by
  refine gval_ok hf ?_
  unfold Yk at h
  split at h
  · rename_i d' hd
    rw [gdst_ok] at hd
    unfold gval
    rw [List.getElem?_map]
    cases ho : ops.toList[j]? with
    | none => rw [ho] at hd; simp at hd
    | some o =>
      rw [ho] at hd
      simp at hd
      simp only [Option.map_some, hd]
      exact h
  · cases h
theorem gvU_at {ops : List Oper} {t : List (Nat × SV)} {j : Nat} (h : gvU t (gdst ops j) = true) : ∃ d x, gdst ops j = some d ∧ lk d t = some (.v x) ∧ nob x = true := by
  unfold gvU at h
  split at h
  · rename_i d hd
    split at h
    · rename_i x hx
      exact ⟨d, x, hd, hx, h⟩
    · cases h
  · cases h
theorem gvU_ok {ops : Array Oper} {σt : List (Nat × SV)} {β : Nat → Bt} {a : Act} (hf : FrOK β F.n σt a) {j d : Nat} {x : Value} (hd : gdst ops.toList j = some d) (hx : lk d σt = some (.v x)) (hn : nob x = true) : yielded ops a.tmps j = none := by
  have hg := hf.get _ _ hx
  simp only [conc] at hg
  rw [gdst_ok] at hd
  have hd' : (ops[j]?).bind (·.dst) = some d := by simpa using hd
  unfold yielded
  rw [hd']
  simp only [Option.bind_some]
  cases ht : a.tmps[d]? with
  | none => rfl
  | some y =>
    have : y = x := by rw [← hg]; simp [Array.getD_eq_getD_getElem?, ht]
    subst this
    cases y <;> simp [nob] at hn ⊢
theorem gval_same {ops : List Oper} {t t' : List (Nat × SV)} {j d : Nat} {b : Bool} (h : Yk t (gdst ops j) = some (d, b)) (hl : lk d t' = lk d t) : Yk t' (gdst ops j) = some (d, b) := by
  unfold Yk at h ⊢
  split at h
  · rename_i d' hd
    split at h
    · rename_i b' hb
      cases h
      rw [hl, hb]
    · cases h
  · cases h
theorem gval_lk {ops : List Oper} {t : List (Nat × SV)} {j d : Nat} {b : Bool} (h : Yk t (gdst ops j) = some (d, b)) : lk d t = some (.bool b) ∧ gdst ops j = some d := by
  unfold Yk at h
  split at h
  · rename_i d' hd
    split at h
    · rename_i b' hb
      cases h
      exact ⟨hb, hd⟩
    · cases h
  · cases h
theorem guard_looks {ops : Array Oper} {o : Oper} {j d : Nat} {want : Bool} (hg : o.guard = some (j, want)) (hd : gdst ops.toList j = some d) : d ∈ o.looksAt ops := by
  unfold Oper.looksAt
  rw [hg]
  simp only [List.mem_append]
  right
  rw [gdst_ok] at hd
  have : (ops[j]?).bind (·.dst) = some d := by simpa using hd
  rw [this]
  simp
theorem lk_relit {t : List (Nat × SV)} {d : Nat} {b : Bool} (h : lk d t = some (.bool b)) : ∀ e, lk e ((d, .bool b) :: t) = lk e t := fun e => by
  simp only [lk]
  split
  · rename_i he; subst he; exact h.symm
  · rfl
theorem wanted_none {ops : Array Oper} {o : Oper} (h : o.guard = none) (a : Act) : Region.wanted o (yielded ops a.tmps) = true := by simp [Region.wanted, h]
theorem opE_val {ops : Array Oper} {i : Nat} {t tt : List (Nat × SV)} {b : List Res} {o : Oper} {c : Prop} {r : RecE} (ho : ops[i]? = some o) (hfit : fits F.n o.dst = true) (hs : XV V o.op ⟨tt, b⟩ = .val c r) (hc : c) (htt : ∀ e, lk e tt = lk e t)
    (hw : ∀ (ta : List (Nat × SV)) (ba : List Res) (a : Act) (w : World), Rel F ⟨ta, ba⟩ a w → (∀ d ∈ o.looksAt ops, lk d ta = lk d t) → Region.wanted o (yielded ops a.tmps) = true) : StepE F ops i t b r := by
  intro Q K a w t' b' o' ho' hl hb hseen hr hK
  rw [ho] at ho'
  cases ho'
  unfold wpOp
  rw [ho]
  simp only
  rw [if_pos (hw t' b' a w hr hl)]
  left
  refine Oper.wp_mono (fun a w ⟨σ, hσ, hrel⟩ => ?_) (stepO_sound (F := F) hfit (stepD_go (dst := o.dst) (t' := t') (b' := b') (looks_ev (ops := ops) (t := tt) (fun d hd => (hl d hd).trans (htt d).symm)) hs hc hb hseen) hr o.type o.pos o.after o.guard _)
  subst hσ
  exact hK a w hrel
theorem opE_call {ops : Array Oper} {i : Nat} {t tt : List (Nat × SV)} {b : List Res} {o : Oper} {g : FuncId} {args : List SV} {r : RecE} (ho : ops[i]? = some o) (hfit : fits F.n o.dst = true) (hs : XV V o.op ⟨tt, b⟩ = .call g args) (htt : ∀ e, lk e tt = lk e t)
    (hr0 : (∃ x, PC V g args x ∧ r = ⟨x, none, false, [], []⟩) ∨ (∃ x nb al W, SC V g args b (fun r' b' => r' = x ∧ b' = nb) ∧ r = ⟨x, some nb, al, [], W⟩))
    (hw : ∀ (ta : List (Nat × SV)) (ba : List Res) (a : Act) (w : World), Rel F ⟨ta, ba⟩ a w → (∀ d ∈ o.looksAt ops, lk d ta = lk d t) → Region.wanted o (yielded ops a.tmps) = true) : StepE F ops i t b r := by
  intro Q K a w t' b' o' ho' hl hb hseen hr hK
  rw [ho] at ho'
  cases ho'
  unfold wpOp
  rw [ho]
  simp only
  rw [if_pos (hw t' b' a w hr hl)]
  left
  have hcall := stepD_call (dst := o.dst) (t' := t') (b' := b') (looks_ev (ops := ops) (t := tt) (fun d hd => (hl d hd).trans (htt d).symm)) hs
  have hh : HoldsR V (fun σ => σ = ⟨put o.dst r.x t', r.nb.getD b'⟩) (XR V o.dst o.op ⟨t', b'⟩) := by
    rw [hcall]
    rcases hr0 with ⟨x, hpc, rfl⟩ | ⟨x, nb, al, W, hsc, rfl⟩
    · exact .inl ⟨x, hpc, rfl⟩
    · obtain rfl := hb rfl
      exact .inr ⟨_, hsc, fun r' bs ⟨h1, h2⟩ => by subst h1 h2; rfl⟩
  refine Oper.wp_mono (fun a w ⟨σ, hσ, hrel⟩ => ?_) (stepO_sound (F := F) hfit hh hr o.type o.pos o.after o.guard _)
  subst hσ
  exact hK a w hrel
theorem opE_skip {ops : Array Oper} {i : Nat} {t : List (Nat × SV)} {b : List Res} {o : Oper} (ho : ops[i]? = some o) (hfit : fits F.n o.dst = true)
    (hw : ∀ (ta : List (Nat × SV)) (ba : List Res) (a : Act) (w : World), Rel F ⟨ta, ba⟩ a w → (∀ d ∈ o.looksAt ops, lk d ta = lk d t) → Region.wanted o (yielded ops a.tmps) = false) : StepE F ops i t b ⟨.v undef, none, false, [], []⟩ := by
  intro Q K a w t' b' o' ho' hl hb hseen hr hK
  rw [ho] at ho'
  cases ho'
  unfold wpOp
  rw [ho]
  simp only
  rw [if_neg (by rw [hw t' b' a w hr hl]; simp)]
  obtain ⟨β, fp, hf, hwd⟩ := hr
  exact hK _ w ⟨β, fp, hf.put hfit (fun _ _ => rfl), hwd⟩
theorem un_none (r : RecE) (h : r.nb = none) (b : List Res) : UnE r b := fun nb hnb => by rw [h] at hnb; cases hnb
def FlOK (F : Fx V) (ops : Array Oper) (r : RecE) (t : List (Nat × SV)) (b : List Res) (i d : Nat) (z : List SV) (T : TypeId) (q : Option (Nat × Nat)) : Prop :=
  dstAt ops i = some d ∧ d < F.n ∧ (∃ W, r = ⟨flV q b.length, some (b ++ [flR q z T]), false, [], W⟩) ∧ flW q z ∧ ∃ o, ops[i]? = some o ∧ o.guard = none ∧
    ∀ (β : Nat → Bt) (m : Nat) (tt : List (Nat × SV)) (a : Act) (w : World), Fm F β m tt a → (∀ d ∈ o.looksAt ops, lk d tt = lk d t) → ∀ β', Agr m β β' → (execOp a.eval o).run V.P w = Result.ok (.value (conc bt0 (flP q w.heap.size))) (w.alloc (.cells (z.map (conc β')).toArray T))
theorem stepD_alloc {T : TypeId} {σ : St} {c : Prop} {r : RecE} (h : XV V (.alloc T) σ = .val c r) : ∃ ti, V.Γ T = some ti ∧ r = ⟨.p σ.b.length 0, some (σ.b ++ [.cells ti.zero T true]), false, [], [(σ.b.length, 0, 0)]⟩ := by
  unfold XV at h
  simp only [pv, Yl, goD, dN, Xv, XD] at h
  split at h
  · rename_i ti hti
    cases h
    exact ⟨ti, hti, rfl⟩
  · cases h
theorem stepD_alloc_call {T : TypeId} {σ : St} {g : FuncId} {args : List SV} (h : XV V (.alloc T) σ = .call g args) : False := by
  unfold XV at h
  simp only [pv, Yl, goD, dN, Xv, XD] at h
  split at h <;> cases h
set_option maxHeartbeats 2000000 in
theorem build_run {ts e : TypeId} {n : Nat} {ps : Array (Nat × Operand)} {t : List (Nat × SV)} {l : List (Nat × SV)} {c0 : List SV} {ti : TI} (ht : kd V.Γ ts = some (.slice e)) (hti : V.Γ e = some ti) (hl : Xl t ps.toList = some l) (hfl : Yi ti.size 0 l = some c0) (hpn : l.length = n) (h24 : n * ti.size ≤ 16777216) (hs0 : 0 < ti.size)
    {β : Nat → Bt} {m : Nat} {a : Act} (hf : Fm F β m t a) (w : World) (β' : Nat → Bt) (hβ : Agr m β β') : (Instr.buildSlice ts n (ps.map fun p => (p.1, a.eval p.2))).run V.P w = Result.ok (.slice (some ⟨w.heap.size, 0, none⟩) n n) (w.alloc (.cells (c0.map (conc β')).toArray e)) := by
  obtain ⟨d1, hd1, hk1⟩ := kd_some V.gok ht
  simp only [undSays] at hk1
  subst hk1
  obtain ⟨i, z, hi, hz, hisz, hiby, hzc⟩ := (V.gok e ti hti).info
  have e2 := evParts_ok (β' := β') hf hβ hl
  have hcl := fillN_len hfl
  rw [hpn] at hcl
  have hfill := fillN_ok β' ti.size l 0 c0 hfl ((Array.range (n * i.size)).map (z.cells[· % z.cells.size]!)) (by rw [Nat.zero_add, hpn]; simp [hisz])
  by_cases hn : n = 0
  · subst hn
    have hl0 : l = [] := List.eq_nil_of_length_eq_zero hpn
    subst hl0
    have hc0 : c0 = [] := List.eq_nil_of_length_eq_zero (by rw [hcl]; simp)
    subst hc0
    have e3 : (ps.toList.map fun p => (p.1, a.eval p.2)) = [] := e2
    have e4 : Array.range 0 = #[] := rfl
    simp [Instr.buildSlice, run_underlying hd1, Go.sizeOf, typeInfo, hi, e3, Instr.fill, newRow, e4]
  · refine run_buildSlice (P := V.P) w ts e n (ps.map fun p => (p.1, a.eval p.2)) (c0.map (conc β')).toArray i z hd1 hi hz (by rw [hisz]; omega) (by rw [hisz]; exact Nat.ne_of_gt (Nat.mul_pos (by omega) hs0)) ?_
    have e3 := hfill
    rw [← hisz] at e3
    rw [Array.toList_map, e2, e3]
    congr 1
    apply Array.ext'
    rw [Nat.zero_add, hpn]
    simp
theorem stepD_build {ts : TypeId} {n : Nat} {ps : Array (Nat × Operand)} {σ : St} {c : Prop} {r : RecE} (h : XV V (.buildSlice ts n ps) σ = .val c r) (hc : c) : ∃ e ti l c0, kd V.Γ ts = some (.slice e) ∧ V.Γ e = some ti ∧ Xl σ.t ps.toList = some l ∧ Yi ti.size 0 l = some c0 ∧ l.length = n ∧ n * ti.size ≤ 16777216 ∧ 0 < ti.size ∧ ∃ W, r = ⟨.o σ.b.length n, some (σ.b ++ [.own c0 e ti.size n true]), false, [], W⟩ := by
  unfold XV at h
  simp only [pv, goD, Yl, Xv] at h
  cases hx : Xa V (some 0) ts n ps.toList σ with
  | none => rw [hx] at h; simp only [dN] at h; cases h
  | some y =>
    rw [hx] at h
    obtain ⟨c', σ'⟩ := y
    unfold Xa at hx
    (repeat' split at hx) <;> try (cases hx; done)
    rename_i _ e ht _ ti hti _ l hl _ c0 hfl
    cases hx
    simp only [dN, put, Xz, Bool.false_eq_true, if_false] at h
    cases h
    exact ⟨e, ti, l, c0, ht, hti, hl, hfl, hc.1, hc.2.1, hc.2.2, _, rfl⟩
theorem stepD_build_call {ts : TypeId} {n : Nat} {ps : Array (Nat × Operand)} {σ : St} {g : FuncId} {args : List SV} (h : XV V (.buildSlice ts n ps) σ = .call g args) : False := by
  unfold XV at h
  simp only [pv, goD, Yl, Xv] at h
  cases hx : Xa V (some 0) ts n ps.toList σ with
  | none => rw [hx] at h; simp only [dN] at h; cases h
  | some y =>
    rw [hx] at h
    obtain ⟨c', σ'⟩ := y
    simp only [dN] at h
    split at h
    · split at h <;> cases h
    · cases h
structure LexE (F : Fx V) (ops : Array Oper) (t0 : List (Nat × SV)) (b0 : List Res) (recs : List RecE) (T : Nat → List (Nat × SV)) (B : Nat → List Res) (σ : St) : Prop where
  t0 : ∀ d, lk d (T 0) = lk d t0
  b0 : B 0 = b0
  t : ∀ i, i < recs.length → ∀ d, lk d (T (i + 1)) = lk d (put (dstAt ops i) (recs.getD i recE0).x (T i))
  b : ∀ i, i < recs.length → B (i + 1) = (recs.getD i recE0).nb.getD (B i)
  op : ∀ i, i < recs.length → ∀ F' : Fx V, F'.n = F.n → StepE F' ops i (T i) (B i) (recs.getD i recE0)
  un : ∀ i, i < recs.length → UnE (recs.getD i recE0) (B i)
  te : T recs.length = σ.t
  be : B recs.length = σ.b
  fl : ∀ i, i < recs.length → isFl ops i = true → ∃ d z Ta q, FlOK F ops (recs.getD i recE0) (T i) (B i) i d z Ta q
theorem LexE.step {ops : Array Oper} {t0 : List (Nat × SV)} {b0 : List Res} {recs : List RecE} {T : Nat → List (Nat × SV)} {B : Nat → List Res} {σ : St} (h : LexE F ops t0 b0 recs T B σ) {o : Oper} (ho : ops[recs.length]? = some o) (r : RecE) (tt : List (Nat × SV))
    (htt : ∀ d, lk d tt = lk d (put o.dst r.x σ.t)) (hop : ∀ F' : Fx V, F'.n = F.n → StepE F' ops recs.length σ.t σ.b r) (hun : UnE r σ.b) (hfl : isFl ops recs.length = true → ∃ d z Ta q, FlOK F ops r σ.t σ.b recs.length d z Ta q) :
    LexE F ops t0 b0 (recs ++ [r]) (fun i => if i = recs.length + 1 then tt else T i) (fun i => if i = recs.length + 1 then r.nb.getD σ.b else B i) ⟨tt, r.nb.getD σ.b⟩ := by
  have hlast : (recs ++ [r]).getD recs.length recE0 = r := by simp [List.getD_eq_getElem?_getD]
  have hprev : ∀ i, i < recs.length → (recs ++ [r]).getD i recE0 = recs.getD i recE0 := fun i hi => by simp [List.getD_eq_getElem?_getD, List.getElem?_append_left hi]
  have hd : dstAt ops recs.length = o.dst := by unfold dstAt; rw [ho]; rfl
  refine ⟨?_, ?_, fun i hi => ?_, fun i hi => ?_, fun i hi => ?_, fun i hi => ?_, ?_, ?_, fun i hi hf => ?_⟩
  · simp only [if_neg (show (0 : Nat) ≠ recs.length + 1 by omega)]; exact h.t0
  · simp only [if_neg (show (0 : Nat) ≠ recs.length + 1 by omega)]; exact h.b0
  all_goals try (rw [List.length_append, List.length_singleton] at hi)
  · intro d
    simp only [if_neg (show i ≠ recs.length + 1 by omega)]
    by_cases he : i = recs.length
    · subst he
      simp only [if_true]
      rw [hlast, hd, h.te]
      exact htt d
    · rw [if_neg (by omega), hprev i (by omega)]
      exact h.t i (by omega) d
  · simp only [if_neg (show i ≠ recs.length + 1 by omega)]
    by_cases he : i = recs.length
    · subst he
      simp only [if_true]
      rw [hlast, h.be]
    · rw [if_neg (by omega), hprev i (by omega)]
      exact h.b i (by omega)
  · simp only [if_neg (show i ≠ recs.length + 1 by omega)]
    by_cases he : i = recs.length
    · subst he
      rw [hlast, h.te, h.be]
      exact hop
    · rw [hprev i (by omega)]
      exact h.op i (by omega)
  · simp only [if_neg (show i ≠ recs.length + 1 by omega)]
    by_cases he : i = recs.length
    · subst he
      rw [hlast, h.be]
      exact hun
    · rw [hprev i (by omega)]
      exact h.un i (by omega)
  · simp
  · simp
  · simp only [if_neg (show i ≠ recs.length + 1 by omega)]
    by_cases he : i = recs.length
    · subst he
      rw [hlast, h.te, h.be]
      exact hfl hf
    · rw [hprev i (by omega)]
      exact h.fl i (by omega) hf
def rkOf (r : RecE) : Rk := ⟨r.nb.isSome, r.all, r.rd, r.wr⟩
theorem lexE_run {ops : Array Oper} {t0 : List (Nat × SV)} {b0 : List Res} {E : Fin} {k : List Item} : ∀ (f : Nat) (l pre : List Oper) (recs : List RecE) (T : Nat → List (Nat × SV)) (B : Nat → List Res) (σ : St), ops.toList = pre ++ l → recs.length = pre.length →
    LexE F ops t0 b0 recs T B σ → vcS V F.n E f (.dops ops l (recs.map rkOf) :: k) σ →
    ∃ f' recs' T' B' σ', f' < f ∧ recs'.length = ops.size ∧ LexE F ops t0 b0 recs' T' B' σ' ∧ OkD ops (recs'.map rkOf) ∧ vcS V F.n E f' k σ' := by
  intro f
  induction f with
  | zero => intro l pre recs T B σ _ _ _ h; cases l <;> simp [vcS] at h
  | succ f ih =>
    intro l pre recs T B σ hops hlen hlex h
    match l with
    | [] =>
      simp only [vcS] at h
      refine ⟨f, recs, T, B, σ, Nat.lt_succ_self _, ?_, hlex, h.1, h.2⟩
      have := congrArg List.length hops
      simp at this
      omega
    | o :: r =>
      have ho : ops[recs.length]? = some o := by
        have : ops.toList[recs.length]? = some o := by rw [hops, hlen]; simp
        simpa using this
      have next : ∀ (rc : RecE) (tt : List (Nat × SV)), (∀ d, lk d (put o.dst rc.x tt) = lk d (put o.dst rc.x σ.t)) → (∀ F' : Fx V, F'.n = F.n → StepE F' ops recs.length σ.t σ.b rc) → UnE rc σ.b → (isFl ops recs.length = true → ∃ d z Ta q, FlOK F ops rc σ.t σ.b recs.length d z Ta q) →
          vcS V F.n E f (.dops ops r (recs.map rkOf ++ [rkOf rc]) :: k) ⟨Vc.put o.dst rc.x tt, rc.nb.getD σ.b⟩ →
          ∃ f' recs' T' B' σ', f' < f + 1 ∧ recs'.length = ops.size ∧ LexE F ops t0 b0 recs' T' B' σ' ∧ OkD ops (recs'.map rkOf) ∧ vcS V F.n E f' k σ' := fun rc tt htt hop hun hflr hv => by
        obtain ⟨f', recs', T', B', σ', h1, h2, h3, h4, h5⟩ := ih r (pre ++ [o]) (recs ++ [rc]) _ _ _ (by rw [hops]; simp) (by simp [hlen]) (hlex.step ho rc (Vc.put o.dst rc.x tt) htt hop hun hflr) (by simpa using hv)
        exact ⟨f', recs', T', B', σ', by omega, h2, h3, h4, h5⟩
      have hflo : isFl ops recs.length = true → o.guard = none ∧ ∃ d, o.dst = some d ∧ ((∃ Ta, o.op = .alloc Ta) ∨ ∃ ts n ps, o.op = .buildSlice ts n ps) := fun h => by
        unfold isFl at h
        rw [ho] at h
        split at h
        · rename_i e; cases e; exact ⟨rfl, _, rfl, .inl ⟨_, rfl⟩⟩
        · rename_i e; cases e; exact ⟨rfl, _, rfl, .inr ⟨_, _, _, rfl⟩⟩
        · cases h
      have hdat : dstAt ops recs.length = o.dst := by unfold dstAt; rw [ho]; rfl
      obtain ⟨dst, op, ty, pos, after, guard⟩ := o
      simp only at hflo hdat
      -- one operation, wanted
      have go : ∀ (tt : List (Nat × SV)), (∀ e, lk e tt = lk e σ.t) → (∀ F' : Fx V, F'.n = F.n → ∀ (ta : List (Nat × SV)) (ba : List Res) (a : Act) (w : World), Rel F' ⟨ta, ba⟩ a w → (∀ d ∈ (⟨dst, op, ty, pos, after, guard⟩ : Oper).looksAt ops, lk d ta = lk d σ.t) → Region.wanted ⟨dst, op, ty, pos, after, guard⟩ (yielded ops a.tmps) = true) →
          fits F.n dst = true → Yg V F.n E f ops r (recs.map rkOf) k dst ⟨tt, σ.b⟩ (XV V op ⟨tt, σ.b⟩) →
          ∃ f' recs' T' B' σ', f' < f + 1 ∧ recs'.length = ops.size ∧ LexE F ops t0 b0 recs' T' B' σ' ∧ OkD ops (recs'.map rkOf) ∧ vcS V F.n E f' k σ' := fun tt htt hwant hfit hcd => by
        have hput : ∀ x d, lk d (put dst x tt) = lk d (put dst x σ.t) := fun x d => lk_put_congr (htt d)
        have hfit' : ∀ F' : Fx V, F'.n = F.n → fits F'.n dst = true := fun F' e => by rw [e]; exact hfit
        have hval : ∀ {c : Prop} {rc : RecE}, XV V op ⟨tt, σ.b⟩ = .val c rc → c → isFl ops recs.length = true → ∃ d z Ta q, FlOK F ops rc σ.t σ.b recs.length d z Ta q := fun {c rc} hs hc hf => by
          obtain ⟨hg, d, hd, ⟨Ta, hop⟩ | ⟨ts, n, ps, hop⟩⟩ := hflo hf
          · subst hop
            obtain ⟨ti, hti, hrc⟩ := stepD_alloc hs
            refine ⟨d, ti.zero, Ta, none, hdat.trans hd, ?_, ⟨_, hrc⟩, trivial, _, ho, hg, fun β m tt' a w hfm hlk β' hβ => ?_⟩
            · rw [hd] at hfit
              simpa [fits] using hfit
            · rw [(V.gok Ta ti hti).flat β']
              exact run_val (run_alloc (V := V) Ta ti hti w)
          · subst hop
            obtain ⟨e, ti, l, c0, h1, h2, h3, h4, h5, h6, h7, W, hrc⟩ := stepD_build hs hc
            have hcl := fillN_len h4
            refine ⟨d, c0, e, some (ti.size, n), hdat.trans hd, ?_, ⟨W, hrc⟩, ⟨by rw [hcl, h5], ?_⟩, _, ho, hg, fun β m tt' a w hfm hlk β' hβ => ?_⟩
            · rw [hd] at hfit
              simpa [fits] using hfit
            · unfold maxLen
              have : n * 1 ≤ n * ti.size := Nat.mul_le_mul_left _ h7
              omega
            · have hev := looks_ev (ops := ops) (o := ⟨dst, .buildSlice ts n ps, ty, pos, after, guard⟩) (t := tt) (t' := tt') (fun d hd => (hlk d hd).trans (htt d).symm)
              have h3' : Xl tt' ps.toList = some l := by
                rw [evParts_congr (t := tt') (t' := tt) ps.toList (fun x hx => hev x (by simp only [Op.operands]; rw [List.mem_toArray]; exact hx))]
                exact h3
              exact run_val (build_run (F := F) h1 h2 h3' h4 h5 h6 h7 hfm w β' hβ)
        have hnc : ∀ {g : FuncId} {args : List SV} {rc : RecE}, XV V op ⟨tt, σ.b⟩ = .call g args → isFl ops recs.length = true → ∃ d z Ta q, FlOK F ops rc σ.t σ.b recs.length d z Ta q := fun {g args rc} hs hf => by
          obtain ⟨-, d, -, ⟨Ta, hop⟩ | ⟨ts, n, ps, hop⟩⟩ := hflo hf
          · rw [hop] at hs
            exact (stepD_alloc_call hs).elim
          · rw [hop] at hs
            exact (stepD_build_call hs).elim
        cases hsd : XV V op ⟨tt, σ.b⟩ with
        | val c rc =>
          rw [hsd] at hcd
          obtain ⟨x, nb, al, rd, wr⟩ := rc
          cases nb with
          | none =>
            simp only [Yg] at hcd
            exact next ⟨x, none, al, rd, wr⟩ tt (hput x) (fun F' e => opE_val ho (hfit' F' e) hsd hcd.1 htt (hwant F' e)) (stepD_un hsd hcd.1) (hval hsd hcd.1) hcd.2
          | some nb =>
            simp only [Yg] at hcd
            exact next ⟨x, some nb, al, rd, wr⟩ tt (hput x) (fun F' e => opE_val ho (hfit' F' e) hsd hcd.1 htt (hwant F' e)) (stepD_un hsd hcd.1) (hval hsd hcd.1) hcd.2
        | call g args =>
          rw [hsd] at hcd
          simp only [Yg, callD] at hcd
          rcases hcd with ⟨x, hpc, hv⟩ | ⟨x, nb, hsc, hv⟩ | ⟨x, nb, W, hsc, hout, hv⟩
          · exact next ⟨x, none, false, [], []⟩ tt (hput x) (fun F' e => opE_call ho (hfit' F' e) hsd htt (.inl ⟨x, hpc, rfl⟩) (hwant F' e)) (un_none _ rfl _) (hnc hsd) hv
          · exact next ⟨x, some nb, true, [], []⟩ tt (hput x) (fun F' e => opE_call ho (hfit' F' e) hsd htt (.inr ⟨x, nb, true, [], hsc, rfl⟩) (hwant F' e)) (fun _ _ h => by cases h) (hnc hsd) hv
          · exact next ⟨x, some nb, false, [], W⟩ tt (hput x) (fun F' e => opE_call ho (hfit' F' e) hsd htt (.inr ⟨x, nb, false, W, hsc, rfl⟩) (hwant F' e)) (fun _ h _ j q hq => by cases h; exact hout j q hq) (hnc hsd) hv
        | bad => rw [hsd] at hcd; simp [Yg] at hcd
      cases guard with
      | none =>
        simp only [vcS] at h
        exact go σ.t (fun _ => rfl) (fun F' _ ta _ a _ _ _ => wanted_none rfl a) h.1 h.2
      | some q =>
        obtain ⟨j, want⟩ := q
        simp only [vcS] at h
        obtain ⟨hfit, h⟩ := h
        have hfit' : ∀ F' : Fx V, F'.n = F.n → fits F'.n dst = true := fun F' e => by rw [e]; exact hfit
        have hng : ∀ {rc : RecE}, isFl ops recs.length = true → ∃ d z Ta q, FlOK F ops rc σ.t σ.b recs.length d z Ta q := fun hf => by
          have := (hflo hf).1
          cases this
        cases hg : Yk σ.t (gdst ops.toList j) with
        | none =>
          cases hu : gvU σ.t (gdst ops.toList j) with
          | false => rw [hg, hu] at h; simp [Xy] at h
          | true =>
            rw [hg, hu] at h
            simp only [Xy, XG] at h
            obtain ⟨d, x, hgd, hlk, hno⟩ := gvU_at hu
            refine next ⟨.v undef, none, false, [], []⟩ σ.t (fun _ => rfl) (fun F' e => opE_skip ho (hfit' F' e) (fun ta ba a w hr hl => by
              obtain ⟨β, fp, hf, -⟩ := hr
              have hy := gvU_ok (hf.ok β (Agr.refl _ _)) hgd (by rw [hl d (guard_looks rfl hgd)]; exact hlk) hno
              simp [Region.wanted, hy])) (un_none _ rfl _) hng h
        | some q =>
          obtain ⟨d, b⟩ := q
          rw [hg] at h
          simp only [Xy, XG] at h
          obtain ⟨hd, h1, h2⟩ := h
          obtain ⟨hlk, hgd⟩ := gval_lk hg
          have hyield : ∀ F' : Fx V, F'.n = F.n → ∀ (ta : List (Nat × SV)) (ba : List Res) (a : Act) (w : World), Rel F' ⟨ta, ba⟩ a w → (∀ e ∈ (⟨dst, op, ty, pos, after, some (j, want)⟩ : Oper).looksAt ops, lk e ta = lk e σ.t) → yielded ops a.tmps j = some b := fun F' _ ta ba a w hr hl => by
            obtain ⟨β, fp, hf, -⟩ := hr
            exact (gvalD_ok (hf.ok β (Agr.refl _ _)) (gval_same hg (hl d (guard_looks rfl hgd)))).1
          by_cases hb : b = want
          · subst hb
            exact go ((d, .bool b) :: σ.t) (lk_relit hlk) (fun F' e ta ba a w hr hl => by simp [Region.wanted, hyield F' e ta ba a w hr hl]) hfit (h1 rfl)
          · have hb' : b = !want := by cases b <;> cases want <;> simp at hb ⊢
            have hv := h2 hb'
            rw [← hb'] at hv
            exact next ⟨.v undef, none, false, [], []⟩ ((d, .bool b) :: σ.t) (fun e => lk_put_congr (lk_relit hlk e)) (fun F' e => opE_skip ho (hfit' F' e) (fun ta ba a w hr hl => by simp [Region.wanted, hyield F' e ta ba a w hr hl, hb])) (un_none _ rfl _) hng hv
end
end Vc
namespace Vc
open Go Go.RowKit Wf
section
variable {V : Cx} {F : Fx V}
def Qit (F : Fx V) (Qf : Exit → Act → World → Prop) : List Item → Exit → Act → World → Prop
  | [] => Qf
  | .code c :: k => Exit.then (c.wp V.P (Qit F Qf k)) (Qit F Qf k)
  | .ops ops l :: k => Exit.then (wpList V.P ops (Qit F Qf k) l) (Qit F Qf k)
  | .dops _ _ _ :: k => Exit.then (fun _ _ => True) (Qit F Qf k)
  | .endb id :: k => Exit.inBlock id (Qit F Qf k)
  | .endl I μ m :: k => Exit.then (fun a w => ∃ σ, I σ ∧ μ σ < m ∧ Rel F σ a w) (Qit F Qf k)
theorem Qit_exit {Qf : Exit → Act → World → Prop} {id : Nat} {a : Act} {w : World} : ∀ {k k' : List Item}, XE id k = some k' → Qit F Qf k' .normal a w → Qit F Qf k (.exit id) a w
  | [], k', h, _ => by simp [XE] at h
  | .code c :: k, k', h, hq => by simp only [XE] at h; exact Qit_exit (k := k) h hq
  | .ops ops l :: k, k', h, hq => by simp only [XE] at h; exact Qit_exit (k := k) h hq
  | .endl _ _ _ :: k, k', h, hq => by simp only [XE] at h; exact Qit_exit (k := k) h hq
  | .dops _ _ _ :: k, k', h, hq => by simp only [XE] at h; exact Qit_exit (k := k) h hq
  | .endb id' :: k, k', h, hq => by
    simp only [XE] at h
    show Exit.inBlock id' (Qit F Qf k) (.exit id) a w
    split at h
    · rename_i e
      cases h
      simp only [Exit.inBlock, if_pos e.symm]
      exact hq
    · rename_i e
      simp only [Exit.inBlock, if_neg (fun q => e (Eq.symm q))]
      exact Qit_exit (k := k) h hq
theorem Qit_ret {Qf : Exit → Act → World → Prop} {a : Act} {w : World} (hq : Qf .ret a w) : ∀ (k : List Item), Qit F Qf k .ret a w
  | [] => hq
  | .code c :: k => Qit_ret hq k
  | .ops ops l :: k => Qit_ret hq k
  | .endl _ _ _ :: k => Qit_ret hq k
  | .dops _ _ _ :: k => Qit_ret hq k
  | .endb id' :: k => Qit_ret hq k
theorem holds_of_cont {E : Fin} {n f : Nat} {ops : Array Oper} {r : List Oper} {k : List Item} {s : StepR} (h : Yc V n E f ops r k s) : HoldsR V (fun σ => vcS V n E f (.ops ops r :: k) σ) s := by
  cases s <;> simp only [Yc] at h
  · exact h
  · unfold callV at h; exact h
theorem vcS_sound {E : Fin} {Qf : Exit → Act → World → Prop} (hn : ∀ σ a w, endV V E σ (XT V σ E.rs) → Rel F σ a w → Qf .normal a w) (hret : ∀ σ a w, endV V E σ (XT V σ E.rs) → Rel F σ a w → Qf .ret a w) :
    ∀ (f : Nat) (items : List Item) (σ : St), vcS V F.n E f items σ → ∀ a w, Rel F σ a w → Qit F Qf items .normal a w := by
  intro f
  induction f using Nat.strongRecOn with
  | _ f0 ihs =>
  cases f0 with
  | zero => intro items σ h; cases items <;> simp [vcS] at h
  | succ f =>
    have ih : ∀ (items : List Item) (σ : St), vcS V F.n E f items σ → ∀ a w, Rel F σ a w → Qit F Qf items .normal a w := ihs f (Nat.lt_succ_self _)
    have step : ∀ (ops : Array Oper) (o : Oper) (r : List Oper) (k : List Item) (σ : St) (a : Act) (w : World), fits F.n o.dst = true → Yc V F.n E f ops r k (XR V o.dst o.op σ) → Rel F σ a w →
        o.wp V.P a w (wpList V.P ops (Qit F Qf k) r) (Qit F Qf k) := fun ops o r k σ a w hfit h hr => by
      refine Oper.wp_mono (fun a w ⟨σ', h1, h2⟩ => ?_) (stepO_sound (F := F) hfit (holds_of_cont h) hr o.type o.pos o.after o.guard _)
      exact ih (.ops ops r :: k) σ' h1 a w h2
    intro items σ h a w hr
    match items with
    | [] => simp only [vcS] at h; exact hn σ a w h hr
    | .endb id :: k => simp only [vcS] at h; exact ih k σ h a w hr
    | .endl I μ m :: k => simp only [vcS] at h; exact ⟨σ, h.1, h.2, hr⟩
    | .dops ops l rs :: k => exact trivial
    | .ops ops [] :: k => simp only [vcS] at h; exact ih k σ h a w hr
    | .ops ops (⟨dst, op, ty, pos, after, none⟩ :: r) :: k =>
      simp only [vcS] at h
      show wpList V.P ops (Qit F Qf k) (⟨dst, op, ty, pos, after, none⟩ :: r) a w
      unfold wpList
      rw [if_pos (by simp [Region.wanted])]
      exact .inl (step ops ⟨dst, op, ty, pos, after, none⟩ r k σ a w h.1 h.2 hr)
    | .ops ops (⟨dst, op, ty, pos, after, some (j, want)⟩ :: r) :: k =>
      simp only [vcS] at h
      obtain ⟨hfit, h⟩ := h
      show wpList V.P ops (Qit F Qf k) (⟨dst, op, ty, pos, after, some (j, want)⟩ :: r) a w
      cases hg : Yk σ.t (gdst ops.toList j) with
      | none =>
        cases hu : gvU σ.t (gdst ops.toList j) with
        | false => rw [hg, hu] at h; simp [XA] at h
        | true =>
          rw [hg, hu] at h
          simp only [XA, XG] at h
          obtain ⟨d, x, hgd, hlk, hno⟩ := gvU_at hu
          obtain ⟨β, fp, hf, hw⟩ := hr
          have hy := gvU_ok (hf.ok β (Agr.refl _ _)) hgd hlk hno
          unfold wpList
          rw [if_neg (by simp [Region.wanted, hy])]
          exact ih (.ops ops r :: k) _ h _ w ⟨β, fp, hf.put hfit (fun _ _ => rfl), hw⟩
      | some p =>
        obtain ⟨d, b⟩ := p
        rw [hg] at h
        simp only [XA, XG] at h
        obtain ⟨hd, h1, h2⟩ := h
        obtain ⟨β, fp, hf, hw⟩ := hr
        obtain ⟨hy, hv⟩ := gvalD_ok (hf.ok β (Agr.refl _ _)) hg
        unfold wpList
        by_cases hb : b = want
        · subst hb
          rw [if_pos (by simp [Region.wanted, hy])]
          exact .inl (step ops ⟨dst, op, ty, pos, after, some (j, b)⟩ r k _ a w hfit (h1 rfl) ⟨β, fp, hf.relit (fun _ _ => hv), hw⟩)
        · have hb' : b = !want := by cases b <;> cases want <;> simp at hb ⊢
          rw [if_neg (by simp [Region.wanted, hy, hb])]
          exact ih (.ops ops r :: k) _ (h2 hb') _ w ⟨β, fp, (hf.relit (x := .bool (!want)) (fun _ _ => by rw [← hb']; exact hv)).put hfit (fun _ _ => rfl), hw⟩
    | .code c :: k =>
      show c.wp V.P (Qit F Qf k) a w
      cases c with
      | skip => simp only [vcS] at h; exact wp_skip (ih k σ h a w hr)
      | region id ops draw =>
        cases draw
        · simp only [vcS] at h
          exact wp_region_list (ih (.ops ops ops.toList :: k) σ h a w hr)
        · simp only [vcS] at h
          cases f with
          | zero => simp [vcS] at h
          | succ f1 =>
          have hlex : LexE F ops σ.t σ.b [] (fun _ => σ.t) (fun _ => σ.b) σ := ⟨fun _ => rfl, rfl, fun i hi => by simp at hi, fun i hi => by simp at hi, fun i hi => by simp at hi, fun i hi => by simp at hi, rfl, rfl, fun i hi => by simp at hi⟩
          obtain ⟨f', recs, T, B, σ', hlt, hlen, hl, hok, hv⟩ := lexE_run (f1 + 1) ops.toList [] [] _ _ σ (by simp) rfl hlex h
          classical
          have hch : ∃ G : FlD, ∀ k, isFl ops k = true → FlOK F ops (recs.getD k recE0) (T k) (B k) k (G.d k) (G.z k) (G.T k) (G.q k) ∧ G.L k = (B k).length := by
            have h1 : ∀ k, ∃ p : Nat × List SV × TypeId × Option (Nat × Nat), isFl ops k = true → FlOK F ops (recs.getD k recE0) (T k) (B k) k p.1 p.2.1 p.2.2.1 p.2.2.2 := fun k => by
              by_cases hk : isFl ops k = true
              · have hlt : k < recs.length := by
                  unfold isFl at hk
                  split at hk
                  · rename_i e
                    rw [hlen]
                    exact (Array.getElem?_eq_some_iff.1 e).1
                  · rename_i e
                    rw [hlen]
                    exact (Array.getElem?_eq_some_iff.1 e).1
                  · cases hk
                obtain ⟨d, z, Ta, q, h⟩ := hl.fl k hlt hk
                exact ⟨(d, z, Ta, q), fun _ => h⟩
              · exact ⟨(0, [], 0, none), fun h => absurd h hk⟩
            exact ⟨⟨fun k => (Classical.choose (h1 k)).1, fun k => (Classical.choose (h1 k)).2.1, fun k => (Classical.choose (h1 k)).2.2.1, fun k => (B k).length, fun k => (Classical.choose (h1 k)).2.2.2⟩, fun k hk => ⟨Classical.choose_spec (h1 k) hk, rfl⟩⟩
          obtain ⟨G, hG⟩ := hch
          refine draw_okG (recs := recs) G T B hl.t0 hl.b0 (fun i hi => hl.t i (by omega)) (fun i hi => hl.b i (by omega)) (fun i hi => hl.op i (by omega)) (fun i hi => hl.un i (by omega)) (fun k hk => by obtain ⟨⟨g1, g2, g3, g4⟩, g5⟩ := hG k hk; exact ⟨g1, g2, g5, g3, g4⟩) hlen hok hr (fun a' w' hrel => ?_)
          rw [← hlen, hl.te, hl.be] at hrel
          exact ihs f' (by omega) k σ' hv a' w' hrel
      | seq x y => simp only [vcS] at h; exact wp_seq (ih (.code x :: .code y :: k) σ h a w hr)
      | cond c x y =>
        simp only [vcS] at h
        cases hb : ev σ.t c with
        | none => rw [hb] at h; simp [XN] at h
        | some v =>
          rw [hb] at h
          cases v <;> simp only [XN, XQ] at h
          rename_i b
          obtain ⟨β, fp, hf, hw⟩ := hr
          exact wp_cond_split (t := b) ((hf.ev hb (Agr.refl _ β)).trans rfl) (fun e => ih (.code x :: k) σ (h.1 e) a w ⟨β, fp, hf, hw⟩) (fun e => ih (.code y :: k) σ (h.2 e) a w ⟨β, fp, hf, hw⟩)
      | block id x => simp only [vcS] at h; exact wp_block (ih (.code x :: .endb id :: k) σ h a w hr)
      | exit id =>
        simp only [vcS] at h
        cases hx : XE id k with
        | none => rw [hx] at h; simp [XO] at h
        | some k' =>
          rw [hx] at h
          simp only [XO] at h
          exact wp_exit (Qit_exit hx (ih k' σ h a w hr))
      | ret => simp only [vcS] at h; exact wp_ret (Qit_ret (hret σ a w h hr) k)
      | loop x =>
        simp only [vcS, loopV] at h
        obtain ⟨I, μ, h0, hround⟩ := h
        classical
        let S : Act → World → Nat → Prop := fun a w n => ∃ σ, μ σ = n ∧ I σ ∧ Rel F σ a w
        let m : Act → World → Nat := fun a w => if h : ∃ n, S a w n then Classical.choose (least h) else 0
        refine wp_loop (fun a w => ∃ n, S a w n) m ⟨μ σ, σ, rfl, h0, hr⟩ (fun a w hI => ?_)
        have hm : m a w = Classical.choose (least hI) := dif_pos hI
        obtain ⟨σ', hμ, hI', hr'⟩ := (Classical.choose_spec (least hI)).1
        refine wp_mono (ih (.code x :: .endl I μ (μ σ') :: k) σ' (hround σ' hI') a w hr') ?_
        intro e a2 w2 h2
        cases e with
        | normal =>
          obtain ⟨σ2, h3, h4, hr2⟩ := h2
          have hS : ∃ n, S a2 w2 n := ⟨μ σ2, σ2, rfl, h3, hr2⟩
          refine ⟨hS, ?_⟩
          have hm2 : m a2 w2 = Classical.choose (least hS) := dif_pos hS
          have := (Classical.choose_spec (least hS)).2 _ ⟨σ2, rfl, h3, hr2⟩
          rw [hm, hm2]
          omega
        | _ => exact h2
      | _ => simp [vcS] at h
theorem sc_of {f : FuncId} {fn : Func} {c : Code} {args : List SV} {bs : List Res} {R : SV → List Res → Prop} {n : Nat} {rs : Array ResultVar} (fuel : Nat) (hf : V.P.funcs[f]? = some fn) (hb : fn.body = some c) (hn : fn.ntmps = n) (hr : fn.results = rs) (hent : Enters V f)
    (hlen : args.length ≤ n) (hsc : ∀ β β', Agr bs.length β β' → concL β args = concL β' args) (h : vcS V n ⟨rs.toList, R⟩ fuel [.code c] ⟨Yj 0 args, bs⟩) : SC V f args bs R := by
  refine sc_core hf hb hn hr hent hlen hsc (fun F hF a w hrel => ?_)
  subst hF
  refine vcS_sound (Qf := Qof F (kret V rs.toList R)) (fun σ a w h hr => ⟨σ, ?_, hr⟩) (fun σ a w h hr => ⟨σ, ?_, hr⟩) fuel [.code c] ⟨Yj 0 args, bs⟩ h a w hrel
  all_goals
    simp only at h
    cases hl : XT V σ rs.toList with
    | none => rw [hl] at h; simp [endV] at h
    | some l => rw [hl] at h; simp only [kret, hl]; exact h
theorem pc_of {f : FuncId} {fn : Func} {c : Code} {args : List SV} {r : SV} {n : Nat} {rs : Array ResultVar} (fuel : Nat) (hf : V.P.funcs[f]? = some fn) (hb : fn.body = some c) (hn : fn.ntmps = n) (hr : fn.results = rs) (hent : Enters V f)
    (hlen : args.length ≤ n) (fa : flat.flatL args = true) (fr : flat r = true) (h : vcS V n ⟨rs.toList, fun r' _ => r' = r⟩ fuel [.code c] ⟨Yj 0 args, []⟩) : PC V f args r :=
  pc_of_sc fa fr (sc_of fuel hf hb hn hr hent hlen (fun β β' _ => concL_flat args fa β β') h)
theorem callV_pc {E : Fin} {n f : Nat} {ops : Array Oper} {r : List Oper} {k : List Item} {g : FuncId} {args : List SV} {dst : Option Tmp} {σ : St} {x : SV} (h : PC V g args x) (h2 : vcS V n E f (.ops ops r :: k) ⟨put dst x σ.t, σ.b⟩) : callV V n E f ops r k g args dst σ := by
  unfold callV; exact .inl ⟨x, h, h2⟩
theorem callV_sc {E : Fin} {n f : Nat} {ops : Array Oper} {r : List Oper} {k : List Item} {g : FuncId} {args : List SV} {dst : Option Tmp} {σ : St} {R : SV → List Res → Prop} (h : SC V g args σ.b R) (h2 : ∀ x bs, R x bs → vcS V n E f (.ops ops r :: k) ⟨put dst x σ.t, bs⟩) : callV V n E f ops r k g args dst σ := by
  unfold callV; exact .inr ⟨R, h, h2⟩
theorem callD_pc {E : Fin} {n f : Nat} {ops : Array Oper} {r : List Oper} {rs : List Rk} {k : List Item} {g : FuncId} {args : List SV} {dst : Option Tmp} {σ : St} {x : SV} (h : PC V g args x) (h2 : vcS V n E f (.dops ops r (rs ++ [⟨false, false, [], []⟩]) :: k) ⟨put dst x σ.t, σ.b⟩) : callD V n E f ops r rs k dst σ g args := by
  unfold callD; exact .inl ⟨x, h, h2⟩
theorem callD_scw {E : Fin} {n f : Nat} {ops : Array Oper} {r : List Oper} {rs : List Rk} {k : List Item} {g : FuncId} {args : List SV} {dst : Option Tmp} {σ : St} {x : SV} {b : List Res} (W : List (Nat × Nat × Nat)) (h : SC V g args σ.b (fun r' b' => r' = x ∧ b' = b)) (ho : Outs W b σ.b)
    (h2 : vcS V n E f (.dops ops r (rs ++ [⟨true, false, [], W⟩]) :: k) ⟨put dst x σ.t, b⟩) : callD V n E f ops r rs k dst σ g args := by
  unfold callD; exact .inr (.inr ⟨x, b, W, h, ho, h2⟩)
theorem loopV_mk {E : Fin} {n f : Nat} {x : Code} {k : List Item} {σ : St} (I : St → Prop) (μ : St → Nat) (h0 : I σ) (h : ∀ σ', I σ' → vcS V n E f (.code x :: .endl I μ (μ σ') :: k) σ') : loopV V n E f x k σ := by
  unfold loopV; exact ⟨I, μ, h0, h⟩
def renT (f : Nat → Nat) (l : List (Nat × Nat × Nat)) : List (Nat × Nat × Nat) := l.map fun x => (f x.1, x.2.1, x.2.2)
def renRk (f : Nat → Nat) (r : Rk) : Rk := ⟨r.s, r.all, renT f r.rd, renT f r.wr⟩
theorem anyOvl_ren (f : Nat → Nat) (xs ys : List (Nat × Nat × Nat)) (h : anyOvl xs ys = true) : anyOvl (renT f xs) (renT f ys) = true := by
  unfold anyOvl at h ⊢
  obtain ⟨a, ha, h⟩ := List.any_eq_true.1 h
  obtain ⟨b, hb, h⟩ := List.any_eq_true.1 h
  refine List.any_eq_true.2 ⟨_, List.mem_map_of_mem ha, List.any_eq_true.2 ⟨_, List.mem_map_of_mem hb, ?_⟩⟩
  unfold ovl at h ⊢
  simp only [Bool.and_eq_true, beq_iff_eq] at h ⊢
  exact ⟨by rw [h.1], h.2⟩
theorem OkD_ren (f : Nat → Nat) {ops : Array Oper} {rs : List Rk} (h : OkD ops (rs.map (renRk f))) : OkD ops rs := by
  simp only [OkD, Bool.and_eq_true] at h ⊢
  refine ⟨?_, h.2⟩
  have h1 := h.1
  unfold compatB at h1 ⊢
  refine List.all_eq_true.2 (fun i hi => List.all_eq_true.2 (fun k hk => ?_))
  have h2 := List.all_eq_true.1 (List.all_eq_true.1 h1 i hi) k hk
  simp only [Bool.or_eq_true] at h2 ⊢
  refine h2.imp_right (fun h2 => ?_)
  have hg : ∀ j, ((rs.map (renRk f))[j]?).getD rk0 = renRk f ((rs[j]?).getD rk0) := fun j => by
    rw [List.getElem?_map]
    cases rs[j]? <;> rfl
  have hp : preS ops (rs.map (renRk f)) i k = preS ops rs i k := by unfold preS; simp only [hg]; rfl
  unfold pairB at h2 ⊢
  simp only [hg, hp] at h2
  generalize (rs[i]?).getD rk0 = ri at h2 ⊢
  generalize (rs[k]?).getD rk0 = rk at h2 ⊢
  have hs : ∀ r, (renRk f r).s = r.s := fun _ => rfl
  have ha : ∀ r, (renRk f r).all = r.all := fun _ => rfl
  have he : (renRk f ri).rd.isEmpty = ri.rd.isEmpty := by
    show (ri.rd.map _).isEmpty = _
    cases ri.rd <;> rfl
  rw [hs, hs, ha, he] at h2
  split
  · rename_i hc
    rw [if_pos hc] at h2
    exact h2
  · rename_i hc
    rw [if_neg hc] at h2
    split
    · rename_i hc1
      rw [if_pos hc1] at h2
      exact h2
    · rename_i hc1
      rw [if_neg hc1] at h2
      split
      · rename_i hc2
        rw [if_pos hc2] at h2
        simp only [Bool.or_eq_true, Bool.not_eq_true', Bool.or_eq_false_iff] at h2 ⊢
        refine h2.imp_right (fun h2 => ⟨h2.1, ?_⟩)
        cases ho : anyOvl ri.rd rk.wr with
        | false => rfl
        | true =>
          have := anyOvl_ren f _ _ ho
          rw [show anyOvl (renT f ri.rd) (renT f rk.wr) = false from h2.2] at this
          cases this
      · rfl
end
def maskOf (ms : List Nat) : List (Nat × Bool) → Nat
  | [] => 0
  | (e, true) :: r => maskOf ms r ||| (1 <<< e) ||| ms.getD e 0
  | (_, false) :: r => maskOf ms r
def forceN {β : Type} (m : Nat) (f : Nat → β) : β := match m with
  | 0 => f 0
  | k + 1 => f (k + 1)
theorem forceN_eq {β : Type} (m : Nat) (f : Nat → β) : forceN m f = f m := by cases m <;> rfl
def edges (o : Oper) : List (Nat × Bool) := o.after.toList.map fun e => (e.on, Region.binds .any e)
def depGo : List Oper → List Nat → List Nat
  | [], ms => ms
  | o :: r, ms => forceN (maskOf ms (edges o)) fun m => depGo r (ms ++ [m])
def hasDep (D : List Nat) (i k : Nat) : Bool := (D.getD i 0).testBit k
def tieF (D : List Nat) (i k : Nat) : Bool := if k < i then hasDep D i k else hasDep D k i
def preF (ops : Array Oper) (rs : List Rk) (D : List Nat) (i k : Nat) : Bool := !(isFl ops k && decide (k < i)) || (List.range k).all fun j => !(((rs[j]?).getD rk0).s) || hasDep D i j
def pairF (ops : Array Oper) (rs : List Rk) (D : List Nat) (i k : Nat) : Bool :=
  if slotC ops i k then tieF D i k && preF ops rs D i k
  else if ((rs[i]?).getD rk0).s && ((rs[k]?).getD rk0).s then isFl ops (max i k) || tieF D i k
  else if ((rs[k]?).getD rk0).s && !((rs[i]?).getD rk0).rd.isEmpty then (tieF D i k && preF ops rs D i k) || !(((rs[k]?).getD rk0).all || anyOvl ((rs[i]?).getD rk0).rd ((rs[k]?).getD rk0).wr)
  else true
def okF (ops : Array Oper) (rs : List Rk) : Bool :=
  ((List.range ops.size).all fun i => (List.range ops.size).all fun k => k == i || pairF ops rs (depGo ops.toList []) i k) && aheadB ops
theorem dep_more {ops : Array Oper} : ∀ (f g i k : Nat), f ≤ g → depB ops f i k = true → depB ops g i k = true
  | 0, _, _, _, _, h => by simp [depB] at h
  | f + 1, 0, _, _, h, _ => by omega
  | f + 1, g + 1, i, k, hfg, h => by
    rw [depB] at h ⊢
    split at h
    · rename_i o ho
      rw [← Array.any_toList, List.any_eq_true] at h ⊢
      obtain ⟨e, he, h⟩ := h
      refine ⟨e, he, ?_⟩
      simp only [Bool.and_eq_true, Bool.or_eq_true] at h ⊢
      refine ⟨h.1, h.2.imp id (dep_more f g e.on k (by omega))⟩
    · cases h
theorem maskOf_bit (ms : List Nat) (k : Nat) : ∀ l : List (Nat × Bool), (maskOf ms l).testBit k = true → ∃ e, (e, true) ∈ l ∧ (e = k ∨ (ms.getD e 0).testBit k = true)
  | [], h => by simp [maskOf] at h
  | (e, true) :: r, h => by
    rw [maskOf, Nat.testBit_or, Nat.testBit_or, Bool.or_eq_true, Bool.or_eq_true] at h
    rcases h with (h | h) | h
    · obtain ⟨e', h1, h2⟩ := maskOf_bit ms k r h
      exact ⟨e', List.mem_cons_of_mem _ h1, h2⟩
    · refine ⟨e, List.mem_cons_self, .inl ?_⟩
      rw [Nat.one_shiftLeft, Nat.testBit_two_pow] at h
      simpa using h
    · exact ⟨e, List.mem_cons_self, .inr h⟩
  | (_, false) :: r, h => by
    rw [maskOf] at h
    obtain ⟨e', h1, h2⟩ := maskOf_bit ms k r h
    exact ⟨e', List.mem_cons_of_mem _ h1, h2⟩
theorem depGo_ok {ops : Array Oper} : ∀ (r : List Oper) (ms : List Nat), ops.toList.drop ms.length = r → (∀ i k, (ms.getD i 0).testBit k = true → i < ms.length ∧ depB ops (i + 1) i k = true) →
    ∀ i k, ((depGo r ms).getD i 0).testBit k = true → depB ops (i + 1) i k = true
  | [], ms, _, h, i, k, hb => (h i k hb).2
  | o :: r, ms, hd, h, i, k, hb => by
    rw [depGo, forceN_eq] at hb
    have hlt : ms.length < ops.toList.length := by
      apply Nat.lt_of_not_le
      intro hle
      rw [List.drop_eq_nil_of_le hle] at hd
      cases hd
    have ho : ops[ms.length]? = some o := by
      rw [← Array.getElem?_toList, List.getElem?_eq_getElem hlt]
      rw [List.drop_eq_getElem_cons hlt] at hd
      rw [(List.cons.inj hd).1]
    refine depGo_ok r (ms ++ [maskOf ms (edges o)]) ?_ ?_ i k hb
    · rw [List.length_append, List.length_singleton]
      rw [List.drop_eq_getElem_cons hlt] at hd
      exact (List.cons.inj hd).2
    · intro i k hb
      rw [List.getD_eq_getElem?_getD] at hb
      rcases Nat.lt_trichotomy i ms.length with hi | hi | hi
      · rw [List.getElem?_append_left hi, ← List.getD_eq_getElem?_getD] at hb
        exact ⟨by simp; omega, (h i k hb).2⟩
      · subst hi
        rw [List.getElem?_append_right (Nat.le_refl _), Nat.sub_self] at hb
        simp only [List.getElem?_cons_zero, Option.getD_some] at hb
        refine ⟨by simp, ?_⟩
        obtain ⟨e, h1, h2⟩ := maskOf_bit ms k _ hb
        obtain ⟨d, hd1, hd2⟩ := List.mem_map.1 h1
        rw [depB, ho]
        simp only
        rw [← Array.any_toList]
        refine List.any_eq_true.2 ⟨d, hd1, ?_⟩
        simp only [Prod.mk.injEq] at hd2
        rw [hd2.2, hd2.1, Bool.true_and, Bool.or_eq_true]
        rcases h2 with rfl | h2
        · left; simp
        · right
          have := h e k h2
          exact dep_more (e + 1) _ e k (by omega) this.2
      · rw [List.getElem?_eq_none (by simp; omega)] at hb
        simp at hb
theorem OkD_fast {ops : Array Oper} {rs : List Rk} (h : okF ops rs = true) : OkD ops rs := by
  unfold okF at h
  rw [Bool.and_eq_true] at h
  obtain ⟨h, ha⟩ := h
  unfold OkD compatB
  rw [Bool.and_eq_true]
  refine ⟨List.all_eq_true.2 fun i hi => List.all_eq_true.2 fun k hk => ?_, ha⟩
  have h1 := List.all_eq_true.1 (List.all_eq_true.1 h i hi) k hk
  rw [Bool.or_eq_true] at h1 ⊢
  refine h1.imp id fun h1 => ?_
  have hdep : ∀ i k, i ∈ List.range ops.size → hasDep (depGo ops.toList []) i k = true → depB ops ops.size i k = true := fun i k hi hb =>
    dep_more (i + 1) _ i k (by have := List.mem_range.1 hi; omega) (depGo_ok ops.toList [] (by simp) (fun i k hb => by simp at hb) i k hb)
  have htie : tieF (depGo ops.toList []) i k = true → tieB ops i k = true := fun h => by
    unfold tieF at h
    unfold tieB
    split
    · rename_i hki; rw [if_pos hki] at h; exact hdep i k hi h
    · rename_i hki; rw [if_neg hki] at h; exact hdep k i hk h
  have hpre : preF ops rs (depGo ops.toList []) i k = true → preS ops rs i k = true := fun h => by
    unfold preF at h
    unfold preS
    rw [Bool.or_eq_true] at h ⊢
    refine h.imp id (fun h => List.all_eq_true.2 fun j hj => ?_)
    have := List.all_eq_true.1 h j hj
    rw [Bool.or_eq_true] at this ⊢
    exact this.imp id (fun h => hdep i j hi h)
  unfold pairF at h1
  unfold pairB
  split
  · rename_i hc
    rw [if_pos hc, Bool.and_eq_true] at h1
    rw [Bool.and_eq_true]
    exact ⟨htie h1.1, hpre h1.2⟩
  · rename_i hc
    rw [if_neg hc] at h1
    split
    · rename_i hc1
      rw [if_pos hc1, Bool.or_eq_true] at h1
      rw [Bool.or_eq_true]
      exact h1.imp id htie
    · rename_i hc1
      rw [if_neg hc1] at h1
      split
      · rename_i hc2
        rw [if_pos hc2] at h1
        rw [Bool.or_eq_true] at h1 ⊢
        refine h1.imp (fun h1 => ?_) id
        rw [Bool.and_eq_true] at h1 ⊢
        exact ⟨htie h1.1, hpre h1.2⟩
      · rfl
def lawV := And.intro (And.intro (And.intro (And.intro (And.intro (@nob_undef) (And.intro (@Option.getD_some.{0}) (@Option.getD_none.{0}))) (And.intro (@List.getElem?_cons_zero.{0}) (And.intro (@List.getElem?_cons_succ.{0}) (@List.length_cons.{0})))) (And.intro (And.intro (@List.length_nil.{0}) (And.intro (@List.cons_append.{0}) (@List.nil_append.{0}))) (And.intro (@List.append_nil.{0}) (And.intro (@List.map_cons.{0, 0}) (@List.map_nil.{0, 0}))))) (And.intro (And.intro (And.intro (@List.take_succ_cons.{0}) (And.intro (@List.take_zero.{0}) (@List.drop_succ_cons.{0}))) (And.intro (@List.drop_zero.{0}) (And.intro (@List.set_cons_zero.{0}) (@List.set_cons_succ.{0})))) (And.intro (And.intro (@List.all_cons.{0}) (And.intro (@List.all_nil.{0}) (@List.mapIdx_cons.{0, 0}))) (And.intro (And.intro (@List.mapIdx_nil.{0, 0}) (@List.getD_cons_zero.{0})) (And.intro (@List.getD_cons_succ.{0}) (@Option.map_some.{0, 0})))))) (And.intro (And.intro (And.intro (And.intro (@Option.map_none.{0, 0}) (And.intro (@Option.some.injEq.{0}) (@Nat.zero_add))) (And.intro (@Nat.add_zero) (And.intro (@decide_true) (@decide_false)))) (And.intro (And.intro (@Bool.and_true) (And.intro (@Bool.true_and) (@Bool.and_false))) (And.intro (And.intro (@Bool.false_and) (@true_and)) (And.intro (@and_true) (@false_and))))) (And.intro (And.intro (And.intro (@and_false) (And.intro (@if_true.{1}) (@if_false.{1}))) (And.intro (@List.toList_toArray.{0}) (And.intro (@Bool.not_true) (@Bool.not_false)))) (And.intro (And.intro (@Bool.false_eq_true) (And.intro (@false_implies) (@Int.toNat_natCast))) (And.intro (And.intro (@Wf.toNat_succ) (@Wf.toNat_add2)) (And.intro (@Wf.toNat_add3) (@List.take_length.{0}))))))
def lawG := And.intro (And.intro (And.intro (And.intro (And.intro (And.intro (And.intro (And.intro (@vcS.eq_1) (@vcS.eq_2)) (And.intro (@vcS.eq_3) (@vcS.eq_4))) (And.intro (And.intro (@vcS.eq_5) (@vcS.eq_6)) (And.intro (@vcS.eq_7) (And.intro (@vcS.eq_8) (@vcS.eq_9))))) (And.intro (And.intro (And.intro (@vcS.eq_10) (@vcS.eq_11)) (And.intro (@vcS.eq_12) (@vcS.eq_13))) (And.intro (And.intro (@vcS.eq_14) (@vcS.eq_15)) (And.intro (@vcS.eq_16) (And.intro (@vcS.eq_17) (@vcS.eq_18)))))) (And.intro (And.intro (And.intro (And.intro (@vcS.eq_19) (@vcS.eq_20)) (And.intro (@XQ.eq_1) (@XG.eq_1))) (And.intro (And.intro (@gvU.eq_1) (@gvU.eq_2)) (And.intro (@setR.eq_1) (And.intro (@setR.eq_2) (@setR.eq_3))))) (And.intro (And.intro (And.intro (@orN.eq_1) (@orN.eq_2)) (And.intro (@Yl.eq_1) (And.intro (@Yl.eq_2) (@Yl.eq_3)))) (And.intro (And.intro (@Yl.eq_4) (@Yl.eq_5)) (And.intro (@Yl.eq_6) (And.intro (@Yl.eq_7) (@Yl.eq_8))))))) (And.intro (And.intro (And.intro (And.intro (And.intro (@Yl.eq_9) (@Xm.eq_1)) (And.intro (@Xm.eq_2) (@Xm.eq_3))) (And.intro (And.intro (@Yn.eq_1) (@Yi.eq_1)) (And.intro (@Yi.eq_2) (And.intro (@Xa.eq_1) (@Ym.eq_1))))) (And.intro (And.intro (And.intro (@Ym.eq_2) (@Xc.eq_1)) (And.intro (@Xc.sizeIs.eq_1) (And.intro (@Xc.sizeIs.eq_2) (@reS.eq_1)))) (And.intro (And.intro (@reS.eq_2) (@Xj.eq_1)) (And.intro (@Yb.eq_1) (And.intro (@mmS.eq_1) (@mmS.eq_2)))))) (And.intro (And.intro (And.intro (And.intro (@Xq.eq_1) (@Xq.eq_2)) (And.intro (@dstS.eq_1) (@dstS.eq_2))) (And.intro (And.intro (@dstS.eq_3) (@srcS.eq_1)) (And.intro (@srcS.eq_2) (And.intro (@srcS.eq_3) (@srcS.eq_4))))) (And.intro (And.intro (And.intro (@XP.eq_1) (@XP.eq_2)) (And.intro (@XP.eq_3) (And.intro (@XN.eq_1) (@XN.eq_2)))) (And.intro (And.intro (@XO.eq_1) (@XO.eq_2)) (And.intro (@Yc.eq_1) (And.intro (@Yc.eq_2) (@Yc.eq_3)))))))) (And.intro (And.intro (And.intro (And.intro (And.intro (And.intro (@XA.eq_1) (@XA.eq_2)) (And.intro (@XA.eq_3) (@Yg.eq_1))) (And.intro (And.intro (@Yg.eq_2) (@Yg.eq_3)) (And.intro (@Yg.eq_4) (And.intro (@Xy.eq_1) (@Xy.eq_2))))) (And.intro (And.intro (And.intro (@Xy.eq_3) (@XE.eq_1)) (And.intro (@XE.eq_2) (And.intro (@XE.eq_3) (@endV.eq_1)))) (And.intro (And.intro (@endV.eq_2) (@gdst.eq_1)) (And.intro (@gdst.eq_2) (And.intro (@gdst.eq_3) (@Yk.eq_1)))))) (And.intro (And.intro (And.intro (And.intro (@Yk.eq_2) (@XR.eq_1)) (And.intro (@Yd.eq_1) (@Yd.eq_2))) (And.intro (And.intro (@Yd.eq_3) (@Yd.eq_4)) (And.intro (@Yd.eq_5) (And.intro (@Yd.eq_6) (@Yd.eq_7))))) (And.intro (And.intro (And.intro (@Yd.eq_8) (@goR.eq_1)) (And.intro (@goR.eq_2) (And.intro (@XC.eq_1) (@sBox.eq_1)))) (And.intro (And.intro (@XU.eq_1) (@XH.eq_1)) (And.intro (@Xr.eq_1) (And.intro (@sNil.eq_1) (@XL.eq_1))))))) (And.intro (And.intro (And.intro (And.intro (And.intro (@Xt.eq_1) (@Xt.eq_2)) (And.intro (@XV.eq_1) (@Xv.eq_1))) (And.intro (And.intro (@Xv.eq_2) (@Xv.eq_3)) (And.intro (@Xv.eq_4) (And.intro (@Xv.eq_5) (@Xv.eq_6))))) (And.intro (And.intro (And.intro (@Xv.eq_7) (@Xv.eq_8)) (And.intro (@goD.eq_1) (And.intro (@goD.eq_2) (@valD.eq_1)))) (And.intro (And.intro (@XI.eq_1) (@XF.eq_1)) (And.intro (@XB.eq_1) (And.intro (@dNil.eq_1) (@XK.eq_1)))))) (And.intro (And.intro (And.intro (And.intro (@XD.eq_1) (@dBox.eq_1)) (And.intro (@dN.eq_1) (@dN.eq_2))) (And.intro (And.intro (@Xz.eq_1) (@Xz.eq_2)) (And.intro (@Xz.eq_3) (And.intro (@Xz.eq_4) (@Xz.eq_5))))) (And.intro (And.intro (And.intro (@Xz.eq_6) (@opL.eq_1)) (And.intro (@opL.eq_2) (And.intro (@opL.eq_3) (@opL.eq_4)))) (And.intro (And.intro (@opL.eq_5) (@opL.eq_6)) (And.intro (@opL.eq_7) (And.intro (@idxs.eq_1) (@idxs.eq_2))))))))) (And.intro (And.intro (And.intro (And.intro (And.intro (And.intro (And.intro (@idxs.eq_3) (@pv.eq_1)) (And.intro (@pv.eq_2) (@pv.eq_3))) (And.intro (And.intro (@pv.eq_4) (@pv.eq_5)) (And.intro (@pv.eq_6) (And.intro (@pv.eq_7) (@pv.eq_8))))) (And.intro (And.intro (And.intro (@pv.eq_9) (@pv.eq_10)) (And.intro (@pv.eq_11) (And.intro (@pv.eq_12) (@pv.eq_13)))) (And.intro (And.intro (@pv.eq_14) (@pv.eq_15)) (And.intro (@pv.eq_16) (And.intro (@XX.eq_1) (@Ya.eq_1)))))) (And.intro (And.intro (And.intro (And.intro (@XJ.eq_1) (@XJ.eq_2)) (And.intro (@XJ.eq_3) (@XJ.eq_4))) (And.intro (And.intro (@Xb.eq_1) (@Xu.eq_1)) (And.intro (@oBin.eq_1) (And.intro (@oUn.eq_1) (@oUn.eq_2))))) (And.intro (And.intro (And.intro (@Ye.eq_1) (@XW.eq_1)) (And.intro (@XW.eq_2) (And.intro (@XW.eq_3) (@Xw.eq_1)))) (And.intro (And.intro (@Xx.eq_1) (@Xh.eq_1)) (And.intro (@Xk.eq_1) (And.intro (@XY.eq_1) (@XY.eq_2))))))) (And.intro (And.intro (And.intro (And.intro (And.intro (@XS.eq_1) (@oLen.eq_1)) (And.intro (@oLen.eq_2) (@oLen.eq_3))) (And.intro (And.intro (@lenS.eq_1) (@lenS.eq_2)) (And.intro (@lenS.eq_3) (And.intro (@lenS.eq_4) (@Yh.eq_1))))) (And.intro (And.intro (And.intro (@Yh.eq_2) (@Yh.eq_3)) (And.intro (@Yh.eq_4) (And.intro (@ev.eq_1) (@ev.eq_2)))) (And.intro (And.intro (@ev.eq_3) (@ev.eq_4)) (And.intro (@lk.eq_1) (And.intro (@lk.eq_2) (@put.eq_1)))))) (And.intro (And.intro (And.intro (And.intro (@put.eq_2) (@fits.eq_1)) (And.intro (@fits.eq_2) (@kd.eq_1))) (And.intro (And.intro (@sz.eq_1) (@bin.eq_1)) (And.intro (@bin.eq_2) (And.intro (@bin.eq_3) (@binI.eq_1))))) (And.intro (And.intro (And.intro (@binI.eq_2) (@binI.eq_3)) (And.intro (@binI.eq_4) (And.intro (@binI.eq_5) (@binI.eq_6)))) (And.intro (And.intro (@binI.eq_7) (@binI.eq_8)) (And.intro (@binI.eq_9) (And.intro (@binI.eq_10) (@binI.eq_11)))))))) (And.intro (And.intro (And.intro (And.intro (And.intro (And.intro (@binI.eq_12) (@binI.eq_13)) (And.intro (@binI.eq_14) (@binI.eq_15))) (And.intro (And.intro (@binI.eq_16) (@binI.eq_17)) (And.intro (@binS.eq_1) (And.intro (@binS.eq_2) (@binS.eq_3))))) (And.intro (And.intro (And.intro (@binS.eq_4) (@binS.eq_5)) (And.intro (@binS.eq_6) (And.intro (@binS.eq_7) (@binS.eq_8)))) (And.intro (And.intro (@ifK.eq_1) (@ar.eq_1)) (And.intro (@ar.eq_2) (And.intro (@eqB.eq_1) (@eqB.eq_2)))))) (And.intro (And.intro (And.intro (And.intro (@eqB.eq_3) (@eqB.eq_4)) (And.intro (@eqB.eq_5) (@eqB.eq_6))) (And.intro (And.intro (@eqB.eq_7) (@eqB.eq_8)) (And.intro (@eqS.eq_1) (And.intro (@eqS.eq_2) (@eqK.eq_1))))) (And.intro (And.intro (And.intro (@eqK.eq_2) (@eqK.eq_3)) (And.intro (@eqK.eq_4) (And.intro (@eqK.eq_5) (@eqK.eqF.eq_1)))) (And.intro (And.intro (@eqK.eqF.eq_2) (@negB.eq_1)) (And.intro (@negB.eq_2) (And.intro (@negB.eq_3) (@bnds.eq_1))))))) (And.intro (And.intro (And.intro (And.intro (And.intro (@bnds.eq_2) (@bnds.eq_3)) (And.intro (@bnds.eq_4) (@bnds.eq_5))) (And.intro (And.intro (@optE.eq_1) (@optE.eq_2)) (And.intro (@XM.eq_1) (And.intro (@cells.eq_1) (@cells.eq_2))))) (And.intro (And.intro (And.intro (@isV.eq_1) (@isV.eq_2)) (And.intro (@one.eq_1) (And.intro (@one.eq_2) (@one.eq_3)))) (And.intro (And.intro (@one.eq_4) (@Xs.eq_1)) (And.intro (@getB.eq_1) (And.intro (@setB.eq_1) (@XZ.eq_1)))))) (And.intro (And.intro (And.intro (And.intro (@XZ.eq_2) (@Yf.eq_1)) (And.intro (@Yf.eq_2) (@Xl.eq_1))) (And.intro (And.intro (@Xl.eq_2) (@XT.eq_1)) (And.intro (@XT.eq_2) (And.intro (@resS.eq_1) (@resS.eq_2))))) (And.intro (And.intro (And.intro (@tupS.eq_1) (@tupS.eq_2)) (And.intro (@ofV.eq_1) (And.intro (@ofV.eq_2) (@ofV.eq_3)))) (And.intro (And.intro (@ofV.eq_4) (@ofV.eq_5)) (And.intro (@ofV.eq_6) (And.intro (@Yj.eq_1) (@Yj.eq_2)))))))))
end Vc
/- The frame of the statements: from the law's contract to the given row. -/
set_option linter.all false
namespace Go.Proofs.YtfmafmgbfamaiaaGreatDoor
open Go Vc Go.RowKit Wf
open Go.ChangeShapes Go.WideShapes Go.ChangeAt
open Go.WideMaps Go.WideElems
open Go.ChangeMaps (setBlock shut_map_nil open_string shut_string keptBut_setBlock frozen?_setBlock heap_setBlock_same)
theorem env_of {W : World} (h : W.ShapedOpen Tryz.prog) : Env W :=
  Go.Proofs.cell_of_shapedOpen_int (zero := #[.int .i64 0]) (t := 3) h (of_decide_eq_true (by kernel_rfl)) (by kernel_rfl) rfl (by kernel_rfl) (by kernel_rfl) Tryz.underlying3
theorem own : ownKnob Tryz.prog.godebug = none := by kernel_rfl
theorem laidOut : laidOutB Tryz.prog = true := by kernel_rfl
section
variable {H : Type} {enc : TypeId × Value → H} {W W' : World}
theorem trodAll_stays {P : Program} (hl : laidOutB P = true) {B : Nat} : ∀ {ts : List TypeId} {vs : List Value} {ds : List (DataW H)} {ps : List MemPlace}, ts.all (fun t => P.readableRec t && decide (t < P.types.size)) = true →
    DataW.TrodAll enc P W 0 (fun _ => true) true ts vs ds ps → (∀ p ∈ ps, W.sameAt W' p) → (∀ p ∈ ps, p.block < B) → DataW.TrodAll enc P W' 0 (fun b => decide (b < B)) true ts vs ds ps
  | [], [], [], ps, _, h, _, _ => h
  | t :: ts, v :: vs, d :: ds, ps, hr, h, hs, hb => by
    obtain ⟨p, q, h1, h2, rfl⟩ := h
    simp only [List.all_cons, Bool.and_eq_true, decide_eq_true_eq] at hr
    exact ⟨p, q, Trod_stays hl hr.1.1 hr.1.2 h1 (fun x hx => hs x (List.mem_append_left _ hx)) (fun x hx => by simpa using hb x (List.mem_append_left _ hx)), trodAll_stays hl hr.2 h2 (fun x hx => hs x (List.mem_append_right _ hx)) (fun x hx => hb x (List.mem_append_right _ hx)), rfl⟩
  | [], _ :: _, _, _, _, h, _, _ => by cases h
  | [], [], _ :: _, _, _, h, _, _ => by cases h
  | _ :: _, [], _, _, _, h, _, _ => by cases h
  | _ :: _, _ :: _, [], _, _, h, _, _ => by cases h
theorem law_post {P : Program} {fn : Func} {s : ChangeSpec} {args : Array Value} {ds gs : List (DataW H)} {before : List MemPlace} {tb : TypeId} (hl : laidOutB P = true)
    (hpar : fn.params.toList.all (fun t => P.readableRec t && decide (t < P.types.size)) = true) (hv : s.vars = []) (hr : fn.resultTypes = #[tb]) (htb : P.underlying tb = some .bool)
    (hgs : gs = []) (hres : (s.fn H ds).results = [.lit (.bool true)]) (hargs : (s.fn H ds).args = ds) (hvs : (s.fn H ds).vars = [])
    (hW : DataW.Whole enc P fn.params.toList s.vars false W args.toList ds gs before) (bel : Below W.heap.size W W') : s.post enc P fn false true false false W args (.bool true) W' := by
  have hlt := hW.lt
  have hW' := hW
  obtain ⟨p, q, hA, hV, hb, -, -⟩ := hW
  subst hgs
  rw [hv] at hV
  obtain ⟨-, rfl⟩ := trodVars_none hV
  subst hb
  refine ⟨ds, [], _, [], p, [], hW', ?_, ?_, ?_, bel.frame _, fun h => by cases h⟩
  · rw [List.append_nil, hres, hr]
    exact trodAll_mk1 (shut_bool htb _)
  · rw [List.append_nil, hargs]
    exact trodAll_stays hl hpar hA (fun x hx => bel.same (hlt x (List.mem_append_left _ hx))) (fun x hx => hlt x (List.mem_append_left _ hx))
  · rw [List.append_nil, hvs, hv]
    rfl
end
end Go.Proofs.YtfmafmgbfamaiaaGreatDoor
/- The frame of the cards: a world with Go's tables. -/
set_option linter.all false
namespace Go.Proofs.YtfmafmgbfamaiaaGreatDoor
def flatD : Nat → DataW Unit → List Value
  | _, .lit (.int k i) => [.int k i]
  | n + 1, .agg ps => ps.flatMap (flatD n)
  | _, _ => []
def setCells (d : DataW Unit) : Obj → Obj
  | .cells _ t fr => .cells (flatD 8 d).toArray t fr
  | o => o
noncomputable def laidWorld (os : Os) : World :=
  { World.holding Tryz.prog os ⟨#[], #[], []⟩ with heap := ((World.holding Tryz.prog os ⟨#[], #[], []⟩).heap.modify 1 (setCells Go.Pinned.utf8First)).modify 2 (setCells Rows.laid_unicode_utf8_acceptRanges) }
set_option maxRecDepth 100000 in
theorem laid_met (os : Os) (args : Array Value) : laidMet Tryz.prog [("unicode/utf8.acceptRanges", Rows.laid_unicode_utf8_acceptRanges), ("unicode/utf8.first", Rows.laid_unicode_utf8_first)] ((laidWorld os).forCall (fun _ _ => 0) ⟨#[], args, []⟩).memory :=
  laidMet_of_run3 8 (by kernel_rfl) (by kernel_rfl) (by kernel_rfl)
open Go in
theorem pf_looks : false = Tryz.pinned.checked.prog.looks [] := by kernel_rfl
end Go.Proofs.YtfmafmgbfamaiaaGreatDoor
/- Facts about the whole program that every row asks for. -/
set_option linter.all false
namespace Go.Proofs.YtfmafmgbfamaiaaGreatDoor
open Go Go.RowKit
set_option maxRecDepth 100000
theorem pf_maps : mapsRowed Tryz.pinned.checked.prog = true := by kernel_rfl
theorem pf_stops : (Tryz.pinned.checked.prog.stops == []) = true := by kernel_rfl
theorem pf_knobs : (Tryz.pinned.checked.prog.stopKnobs == []) = true := by kernel_rfl
theorem pf_keys : (Rows.fetchHopsRow.plainKeys == Tryz.pinned.checked.prog.plainKeys) = true := by kernel_rfl
theorem pf_heard : Tryz.pinned.checked.prog.stopsHeard = true := by kernel_rfl
theorem pf_may : Tryz.pinned.checked.prog.mayEnter = true := by kernel_rfl
theorem pf_lifts : (Rows.fetchHopsRow.lifted == Tryz.pinned.checked.prog.liftsFinal) = true := by kernel_rfl
theorem pf_make : (Tryz.pinned.checked.prog.make == some Rows.fetchHopsRow.make) = true := by kernel_rfl
theorem and4 {a b c d : Bool} (h : (a && b && c && d) = true) : (a = true ∧ b = true) ∧ c = true ∧ d = true := by
  simp only [Bool.and_eq_true] at h
  exact ⟨⟨h.1.1.1, h.1.1.2⟩, h.1.2, h.2⟩
end Go.Proofs.YtfmafmgbfamaiaaGreatDoor
/- A calculus of conditions: a strings.Builder is one thing of the state. -/
set_option linter.all false
namespace Vc
open Go Go.RowKit Wf
theorem FrW.mono {own own' : Nat → Prop} {w w' : World} (h : FrW own w w') (k : ∀ b, own b → own' b) : FrW own' w w' :=
  ⟨h.os, h.tape, h.output, h.size, fun b hb hn => h.block b hb (fun e => hn (k b e))⟩
def BldR (TB TU : TypeId) (l : List UInt8) : Rsc where
  holds t fp w := t.off = 0 ∧ ∃ (p : Value) (t2 : Bt) (f2 : Nat → Prop), (p = .pointer none ∨ p = .pointer (some ⟨t.blk, 0, none⟩)) ∧
    (∃ fz, Head w t.blk TB [p, oV t2 l.length] [] fz) ∧ Holds bt0 t2 f2 w (.own (l.map u8S) TU 1 l.length true) ∧ ¬ f2 t.blk ∧ ∀ k, fp k ↔ k = t.blk ∨ f2 k
  stays b fp w w' := by
    rintro ⟨h0, p, t2, f2, hp, ⟨fz, h1, h2⟩, h3, h4, h5⟩ hk
    exact ⟨h0, p, t2, f2, hp, ⟨fz, (hk _ ((h5 _).2 (.inl rfl))).trans h1, h2⟩, h3.stays (fun k hf => hk k ((h5 k).2 (.inr hf))), h4, h5⟩
theorem u8_conc (l : List UInt8) (β β' : Nat → Bt) : (l.map u8S).map (conc β) = (l.map u8S).map (conc β') := by
  simp [u8S, conc]
theorem holds_u8 {β β' : Nat → Bt} {t : Bt} {f : Nat → Prop} {w : World} {l : List UInt8} {TU : TypeId} {n : Nat} {m : Bool} (h : Holds β t f w (.own (l.map u8S) TU 1 n m)) : Holds β' t f w (.own (l.map u8S) TU 1 n m) := by
  simp only [Holds] at h ⊢
  rw [u8_conc l β' β]
  exact h
theorem res_agr {b1 b2 : Nat → Bt} {t t' : Bt} {fq fq' : Nat → Prop} {w w' : World} {r : Res} (h1 : Holds b1 t fq w r) (h2 : Holds b2 t fq w r) (h : Holds b1 t' fq' w' r) : Holds b2 t' fq' w' r := by
  cases r with
  | cells c T m =>
    obtain ⟨-, ⟨r1, f1, d1, rfl⟩, -⟩ := h1
    obtain ⟨-, ⟨r2, f2, d2, rfl⟩, -⟩ := h2
    have e := lies_agr (by simp) d1.lies d2.lies
    simp only [Holds] at h ⊢
    rw [← e]; exact h
  | own c e s n m =>
    rcases h1 with ⟨-, -, rfl, -⟩ | ⟨-, -, -, -, l1, -⟩
    · simpa [Holds] using h
    · rcases h2 with ⟨-, -, rfl, -⟩ | ⟨-, -, -, -, l2, -⟩
      · simpa [Holds] using h
      · have e := lies_agr (by simp) l1 l2
        simp only [Holds] at h ⊢
        rw [← e]; exact h
  | ext R => exact h
  | gone => exact h
variable {V : Cx} {f : FuncId} {args : List SV} {bs : List Res} {R : SV → List Res → Prop}
theorem sc_view {i : Nat} {r0 r1 : Res} (hi : bs[i]? = some r0) (hm : r1.mine = r0.mine) (hv : ∀ (β : Nat → Bt) (fp : Nat → Nat → Prop) (w : World), Holds β (β i) (fp i) w r0 → Holds β (β i) (fp i) w r1) (h : SC V f args (bs.set i r1) R) : SC V f args bs R := by
  refine ⟨h.1, fun β fp w hbx hG hE => ?_⟩
  have hil : i < bs.length := (List.getElem?_eq_some_iff.1 hi).1
  have old : ∀ {j r'}, (bs.set i r1)[j]? = some r' → ∃ r, bs[j]? = some r ∧ r.mine = r'.mine ∧ (j ≠ i ∧ r' = r ∨ j = i ∧ r' = r1) := fun {j r'} hj => by
    by_cases hji : j = i
    · subst hji
      rw [List.getElem?_set_self hil] at hj
      obtain rfl := Option.some.inj hj
      exact ⟨r0, hi, hm.symm, .inr ⟨rfl, rfl⟩⟩
    · rw [List.getElem?_set_ne (fun e => hji e.symm)] at hj
      exact ⟨r', hj, rfl, .inl ⟨hji, rfl⟩⟩
  refine (h.2 β fp w (fun β' hβ => ?_) (fun j r hj hjm k hk => ?_) hE).mono ?_
  · rw [List.length_set] at hβ
    have hb := hbx β' hβ
    refine ⟨fun j r' hj => ?_, fun j r' hj k hk => ?_, fun j l a b hj hl hne hmm => ?_⟩
    · obtain ⟨r, hr, -, ⟨-, rfl⟩ | ⟨rfl, rfl⟩⟩ := old hj
      · exact hb.holds j _ hr
      · exact hv β' fp w (hb.holds _ _ hi)
    · obtain ⟨r, hr, -⟩ := old hj
      exact hb.lt j r hr k hk
    · obtain ⟨r, hr, e, -⟩ := old hj
      obtain ⟨r', hr', e', -⟩ := old hl
      exact hb.sep j l r r' hr hr' hne (by rw [e, e']; exact hmm)
  · obtain ⟨r, hr, e, -⟩ := old hj
    exact hG j r hr (e.trans hjm) k hk
  · rintro e w' ⟨r, bs', β₂, fp₂, hR, hag, hlen, hall, hfr, hmine, hfoot⟩
    rw [List.length_set] at hag hlen
    refine ⟨r, bs', β₂, fp₂, hR, hag, hlen, hall, hfr.mono ?_, fun j r' hj hjm k hk => ?_, fun j r' hj k hk => ?_⟩
    · rintro k ⟨j, r', hj, hjm, hk⟩
      obtain ⟨r, hr, e, -⟩ := old hj
      exact ⟨j, r, hr, e.trans hjm, hk⟩
    · rcases hmine j r' hj hjm k hk with h1 | ⟨j2, r2, hj2, hm2, hk2⟩
      · exact .inl h1
      · obtain ⟨r, hr, e, -⟩ := old hj2
        exact .inr ⟨j2, r, hr, e.trans hm2, hk2⟩
    · rcases hfoot j r' hj k hk with h1 | ⟨j2, r2, hj2, hk2⟩
      · exact .inl h1
      · obtain ⟨r, hr, -⟩ := old hj2
        exact .inr ⟨j2, r, hr, hk2⟩
theorem sc_fresh {i TB TU : Nat} (hi : bs[i]? = some (.cells [.v (.pointer none), .nils] TB true)) (h : SC V f args (bs.set i (.ext (BldR TB TU []))) R) : SC V f args bs R := by
  refine sc_view (r1 := .ext (BldR TB TU [])) hi rfl (fun β fp w hh => ?_) h
  obtain ⟨h0, ⟨rest, fz, hd, rfl⟩, h3⟩ := hh
  refine ⟨h0, Value.pointer none, ⟨0, 0, 0⟩, fun _ => False, .inl rfl, ⟨fz, ?_⟩, holds_nil, not_false, fun k => (h3 k).trans ⟨.inl, fun h => h.elim id False.elim⟩⟩
  simpa [conc, oV] using hd
theorem sc_open {i TB TU : Nat} {l : List UInt8} (hi : bs[i]? = some (.ext (BldR TB TU l))) {R' : SV → List Res → Prop}
    (h : ∀ x, (x = .v (.pointer none) ∨ x = .p i 0) → SC V f args (bs.set i (.cells [x, .o bs.length l.length] TB true) ++ [.own (l.map u8S) TU 1 l.length true]) R')
    (hR : ∀ r bs', R' r bs' → ∃ x j l', flat r = true ∧ (x = .v (.pointer none) ∨ x = .p i 0) ∧ R r (bs.set i (.ext (BldR TB TU l'))) ∧ bs'[i]? = some (.cells [x, .o j l'.length] TB true) ∧ bs'[j]? = some (.own (l'.map u8S) TU 1 l'.length true) ∧
      bs.length ≤ j ∧ ∀ k, k < bs.length → k ≠ i → bs'[k]? = bs[k]?)
    (hargs : within.withinL bs.length args = true) : SC V f args bs R := by
  have hil : i < bs.length := (List.getElem?_eq_some_iff.1 hi).1
  refine ⟨(h _ (.inl rfl)).1, fun β fp w hbx hG hE => ?_⟩
  have hb0 := hbx β (Agr.refl _ _)
  obtain ⟨h0, p, t2, f2, hp, ⟨fz, hd⟩, hrow, hnb, hfp⟩ := hb0.holds i _ hi
  obtain ⟨x, hx, hxc⟩ : ∃ x : SV, (x = .v (.pointer none) ∨ x = .p i 0) ∧ ∀ β', Agr bs.length β β' → conc β' x = p := by
    rcases hp with rfl | rfl
    · exact ⟨_, .inl rfl, fun _ _ => rfl⟩
    · exact ⟨_, .inr rfl, fun β' hβ => by simp only [conc]; rw [← hβ i hil, h0]⟩
  let β₁ := upd β bs.length t2
  let fp₁ : Nat → Nat → Prop := fun j k => if j = i then k = (β i).blk else if j = bs.length then f2 k else fp j k
  have agr1 : ∀ {β'}, Agr (bs.length + 1) β₁ β' → Agr bs.length β β' := fun {β'} hβ j hj => by
    rw [← hβ j (by omega)]; simp only [β₁, upd]; rw [if_neg (by omega)]
  have at1 : ∀ {β'}, Agr (bs.length + 1) β₁ β' → β' bs.length = t2 := fun {β'} hβ => by
    rw [← hβ bs.length (by omega)]; simp [β₁, upd]
  have old : ∀ {j r'}, (bs.set i (.cells [x, .o bs.length l.length] TB true) ++ [.own (l.map u8S) TU 1 l.length true])[j]? = some r' →
      (j = i ∧ r' = .cells [x, .o bs.length l.length] TB true) ∨ (j = bs.length ∧ r' = .own (l.map u8S) TU 1 l.length true) ∨ (j < bs.length ∧ j ≠ i ∧ bs[j]? = some r') := fun {j r'} hj => by
    have hjl : j < bs.length + 1 := by
      have := (List.getElem?_eq_some_iff.1 hj).1
      simpa using this
    by_cases hjm : j = bs.length
    · subst hjm
      rw [List.getElem?_append_right (by simp)] at hj
      simp at hj
      exact .inr (.inl ⟨rfl, hj.symm⟩)
    · rw [List.getElem?_append_left (by simp; omega)] at hj
      by_cases hji : j = i
      · subst hji
        rw [List.getElem?_set_self hil] at hj
        exact .inl ⟨rfl, (Option.some.inj hj).symm⟩
      · rw [List.getElem?_set_ne (fun e => hji e.symm)] at hj
        exact .inr (.inr ⟨by omega, hji, hj⟩)
  have in1 : ∀ {j r'}, (bs.set i (.cells [x, .o bs.length l.length] TB true) ++ [.own (l.map u8S) TU 1 l.length true])[j]? = some r' → r'.mine = true → ∀ k, fp₁ j k → ∃ j2 r2, bs[j2]? = some r2 ∧ r2.mine = true ∧ fp j2 k := fun {j r'} hj hm k hk => by
    rcases old hj with ⟨rfl, rfl⟩ | ⟨rfl, rfl⟩ | ⟨hj1, hj2, hj3⟩
    · refine ⟨j, _, hi, rfl, (hfp k).2 (.inl ?_)⟩
      simpa [fp₁] using hk
    · refine ⟨i, _, hi, rfl, (hfp k).2 (.inr ?_)⟩
      simpa [fp₁, Nat.ne_of_gt hil] using hk
    · exact ⟨j, r', hj3, hm, by simpa [fp₁, hj2, Nat.ne_of_lt hj1] using hk⟩
  have inF : ∀ {j r'}, (bs.set i (.cells [x, .o bs.length l.length] TB true) ++ [.own (l.map u8S) TU 1 l.length true])[j]? = some r' → ∀ k, fp₁ j k → ∃ j2 r2, bs[j2]? = some r2 ∧ fp j2 k := fun {j r'} hj k hk => by
    rcases old hj with ⟨rfl, rfl⟩ | ⟨rfl, rfl⟩ | ⟨hj1, hj2, hj3⟩
    · refine ⟨j, _, hi, (hfp k).2 (.inl ?_)⟩
      simpa [fp₁] using hk
    · refine ⟨i, _, hi, (hfp k).2 (.inr ?_)⟩
      simpa [fp₁, Nat.ne_of_gt hil] using hk
    · exact ⟨j, r', hj3, by simpa [fp₁, hj2, Nat.ne_of_lt hj1] using hk⟩
  have ea : concL β args = concL β₁ args := concL_within bs.length args hargs β β₁ (fun j hj => by simp only [β₁, upd]; rw [if_neg (by omega)])
  rw [ea]
  refine ((h x hx).2 β₁ fp₁ w (fun β' hβ => ?_) (fun j r hj hm k hk => ?_) hE).mono ?_
  · have hβq : Agr (bs.length + 1) β₁ β' := by simpa using hβ
    clear hβ
    have hb := hbx β' (agr1 hβq)
    have hbi : β' i = β i := (agr1 hβq i hil).symm
    refine ⟨fun j r' hj => ?_, fun j r' hj k hk => ?_, fun j q a b hj hq hne hmm k hk hk2 => ?_⟩
    · rcases old hj with ⟨rfl, rfl⟩ | ⟨rfl, rfl⟩ | ⟨hj1, hj2, hj3⟩
      · refine ⟨by rw [hbi]; exact h0, ⟨[], fz, ?_, rfl⟩, fun k => by simp [fp₁, hbi]⟩
        rw [hbi]
        simpa [hxc β' (agr1 hβq), conc, at1 hβq] using hd
      · rw [at1 hβq]
        have e : fp₁ bs.length = f2 := by funext k; simp [fp₁, Nat.ne_of_gt hil]
        rw [e]
        exact holds_u8 hrow
      · have e : fp₁ j = fp j := by funext k; simp [fp₁, hj2, Nat.ne_of_lt hj1]
        rw [e]
        exact hb.holds j _ hj3
    · rcases old hj with ⟨rfl, rfl⟩ | ⟨rfl, rfl⟩ | ⟨hj1, hj2, hj3⟩
      · exact hb.lt j _ hi k ((hfp k).2 (.inl (by simpa [fp₁] using hk)))
      · exact hb.lt i _ hi k ((hfp k).2 (.inr (by simpa [fp₁, Nat.ne_of_gt hil] using hk)))
      · exact hb.lt j _ hj3 k (by simpa [fp₁, hj2, Nat.ne_of_lt hj1] using hk)
    · rcases old hj with ⟨rfl, rfl⟩ | ⟨rfl, rfl⟩ | ⟨hj1, hj2, hj3⟩ <;> rcases old hq with ⟨rfl, rfl⟩ | ⟨rfl, rfl⟩ | ⟨hq1, hq2, hq3⟩
      · exact hne rfl
      · have e1 : k = (β j).blk := by simpa [fp₁] using hk
        have e2 : f2 k := by simpa [fp₁, Nat.ne_of_gt hil] using hk2
        exact hnb (e1 ▸ e2)
      · have e1 : k = (β j).blk := by simpa [fp₁] using hk
        have e2 : fp q k := by simpa [fp₁, hq2, Nat.ne_of_lt hq1] using hk2
        exact hb.sep j q _ _ hi hq3 hne (.inl rfl) k ((hfp k).2 (.inl e1)) e2
      · have e2 : k = (β q).blk := by simpa [fp₁] using hk2
        have e1 : f2 k := by simpa [fp₁, Nat.ne_of_gt hil] using hk
        exact hnb (e2 ▸ e1)
      · exact hne rfl
      · have e1 : f2 k := by simpa [fp₁, Nat.ne_of_gt hil] using hk
        have e2 : fp q k := by simpa [fp₁, hq2, Nat.ne_of_lt hq1] using hk2
        exact hb.sep i q _ _ hi hq3 (fun e => hq2 e.symm) (.inl rfl) k ((hfp k).2 (.inr e1)) e2
      · have e1 : k = (β q).blk := by simpa [fp₁] using hk2
        have e2 : fp j k := by simpa [fp₁, hj2, Nat.ne_of_lt hj1] using hk
        exact hb.sep q j _ _ hi hj3 (fun e => hne e.symm) (.inl rfl) k ((hfp k).2 (.inl e1)) e2
      · have e1 : f2 k := by simpa [fp₁, Nat.ne_of_gt hil] using hk2
        have e2 : fp j k := by simpa [fp₁, hj2, Nat.ne_of_lt hj1] using hk
        exact hb.sep i j _ _ hi hj3 (fun e => hj2 e.symm) (.inl rfl) k ((hfp k).2 (.inr e1)) e2
      · exact hb.sep j q _ _ hj3 hq3 hne hmm k (by simpa [fp₁, hj2, Nat.ne_of_lt hj1] using hk) (by simpa [fp₁, hq2, Nat.ne_of_lt hq1] using hk2)
  · obtain ⟨j2, r2, h1, h2, h3⟩ := in1 hj hm k hk
    exact hG j2 r2 h1 h2 k h3
  · rintro e w' ⟨r, bs', β₂, fp₂, hR', hag, hlen, hall, hfr, hmine, hfoot⟩
    have hag : Agr (bs.length + 1) β₁ β₂ := by simpa using hag
    have hlen : bs.length + 1 ≤ bs'.length := by simpa using hlen
    obtain ⟨x', j, l', hfl, hx', hRr, hbi, hbj, hjm, hoth⟩ := hR r bs' hR'
    have hjl : j < bs'.length := (List.getElem?_eq_some_iff.1 hbj).1
    have hag2 : Agr bs.length β β₂ := agr1 hag
    let fp₃ : Nat → Nat → Prop := fun q k => if q = i then fp₂ i k ∨ fp₂ j k else fp₂ q k
    have lift : ∀ {β'}, Agr bs.length β₂ β' → ∃ β'', Agr bs'.length β₂ β'' ∧ Agr bs.length β'' β' := fun {β'} hβ =>
      ⟨β₂, Agr.refl _ _, hβ⟩
    have old2 : ∀ {q r'}, (bs.set i (.ext (BldR TB TU l')))[q]? = some r' → (q = i ∧ r' = .ext (BldR TB TU l')) ∨ (q < bs.length ∧ q ≠ i ∧ bs[q]? = some r' ∧ bs'[q]? = some r') := fun {q r'} hq => by
      by_cases hqi : q = i
      · subst hqi
        rw [List.getElem?_set_self hil] at hq
        exact .inl ⟨rfl, (Option.some.inj hq).symm⟩
      · rw [List.getElem?_set_ne (fun e => hqi e.symm)] at hq
        have hql : q < bs.length := (List.getElem?_eq_some_iff.1 hq).1
        exact .inr ⟨hql, hqi, hq, (hoth q hql hqi).trans hq⟩
    refine ⟨r, bs.set i (.ext (BldR TB TU l')), β₂, fp₃, hRr, hag2, by simp, fun β' hβ => ?_, hfr.mono ?_, fun q r' hq hqm k hk => ?_, fun q r' hq k hk => ?_⟩
    · rw [List.length_set] at hβ
      -- the things of the caller are read at any β' that agrees on them
      let β'' : Nat → Bt := fun q => if q < bs.length then β' q else β₂ q
      have hβ2 : Agr bs'.length β₂ β'' := fun q hq => by
        show _ = if _ then _ else _
        split
        · rename_i hlt; exact hβ q hlt
        · rfl
      obtain ⟨he, hb⟩ := hall β'' hβ2
      refine ⟨by rw [he, conc_flat r hfl β'' β'], ?_⟩
      have hbi' : β'' i = β₂ i := (hβ2 i (by omega)).symm
      have hbi2 : β' i = β₂ i := (hβ i hil).symm
      refine ⟨fun q r' hq => ?_, fun q r' hq k hk => ?_, fun q s a b hq hs hne hmm k hk hk2 => ?_⟩
      · rcases old2 hq with ⟨rfl, rfl⟩ | ⟨h1, h2, h3, h4⟩
        · obtain ⟨k0, ⟨rest, fz', hd', rfl⟩, k3⟩ := hb.holds _ _ hbi
          have hrow' := hb.holds _ _ hbj
          refine ⟨by rw [hbi2, ← hbi']; exact k0, conc β'' x', β'' j, fp₂ j, ?_, ⟨fz', ?_⟩, holds_u8 hrow', ?_, fun k => ?_⟩
          · rcases hx' with rfl | rfl
            · exact .inl rfl
            · right
              simp only [conc]
              rw [k0, hbi', hbi2]
          · rw [hbi2, ← hbi']
            simpa [conc] using hd'
          · intro hc
            have : fp₂ q (β'' q).blk := (k3 _).2 rfl
            rw [hbi2, ← hbi'] at hc
            exact hb.sep q j _ _ hbi hbj (by omega) (.inl rfl) _ this hc
          · show (if _ then _ else _) ↔ _
            rw [if_pos rfl, k3 k, hbi', hbi2]
        · have e : fp₃ q = fp₂ q := by funext k; show (if _ then _ else _) = _; rw [if_neg h2]
          rw [e]
          have e2 : β' q = β'' q := by show _ = if _ then _ else _; rw [if_pos h1]
          have := hb.holds _ _ h4
          rw [e2]
          -- what it holds of cells looks at β'' alone through the things of the caller
          have hA : Agr bs.length β β' := fun q hq => (hag2 q hq).trans (hβ q hq)
          have hA2 : Agr bs.length β β'' := fun q hq => (hag2 q hq).trans (hβ2 q (by omega))
          have u1 := (hbx β'' hA2).holds q _ h3
          have u2 := (hbx β' hA).holds q _ h3
          rw [e2] at u2
          exact res_agr u1 u2 this
      · rcases old2 hq with ⟨rfl, rfl⟩ | ⟨h1, h2, h3, h4⟩
        · have hk : fp₂ q k ∨ fp₂ j k := by simpa [fp₃] using hk
          rcases hk with hk | hk
          · exact hb.lt _ _ hbi k hk
          · exact hb.lt _ _ hbj k hk
        · exact hb.lt _ _ h4 k (by simpa [fp₃, h2] using hk)
      · rcases old2 hq with ⟨rfl, rfl⟩ | ⟨h1, h2, h3, h4⟩ <;> rcases old2 hs with ⟨rfl, rfl⟩ | ⟨g1, g2, g3, g4⟩
        · exact hne rfl
        · have hk2 : fp₂ s k := by simpa [fp₃, g2] using hk2
          have hk : fp₂ q k ∨ fp₂ j k := by simpa [fp₃] using hk
          rcases hk with hk | hk
          · exact hb.sep _ _ _ _ hbi g4 hne (.inl rfl) k hk hk2
          · exact hb.sep _ _ _ _ hbj g4 (by omega) (.inl rfl) k hk hk2
        · have hk : fp₂ q k := by simpa [fp₃, h2] using hk
          have hk2 : fp₂ s k ∨ fp₂ j k := by simpa [fp₃] using hk2
          rcases hk2 with hk2 | hk2
          · exact hb.sep _ _ _ _ hbi h4 (fun e => hne e.symm) (.inl rfl) k hk2 hk
          · exact hb.sep _ _ _ _ hbj h4 (by omega) (.inl rfl) k hk2 hk
        · exact hb.sep _ _ _ _ h4 g4 hne hmm k (by simpa [fp₃, h2] using hk) (by simpa [fp₃, g2] using hk2)
    · rintro k ⟨j1, r1, hj1, hm1, hk1⟩
      exact in1 hj1 hm1 k hk1
    · rcases old2 hq with ⟨rfl, rfl⟩ | ⟨h1, h2, h3, h4⟩
      · have hk : fp₂ q k ∨ fp₂ j k := by simpa [fp₃] using hk
        rcases hk with hk | hk
        · rcases hmine _ _ hbi rfl k hk with h1 | ⟨j1, r1, hj1, hm1, hk1⟩
          · exact .inl h1
          · exact .inr (in1 hj1 hm1 k hk1)
        · rcases hmine _ _ hbj rfl k hk with h1 | ⟨j1, r1, hj1, hm1, hk1⟩
          · exact .inl h1
          · exact .inr (in1 hj1 hm1 k hk1)
      · rcases hmine _ _ h4 hqm k (by simpa [fp₃, h2] using hk) with h1 | ⟨j1, r1, hj1, hm1, hk1⟩
        · exact .inl h1
        · exact .inr (in1 hj1 hm1 k hk1)
    · rcases old2 hq with ⟨rfl, rfl⟩ | ⟨h1, h2, h3, h4⟩
      · have hk : fp₂ q k ∨ fp₂ j k := by simpa [fp₃] using hk
        rcases hk with hk | hk
        · rcases hfoot _ _ hbi k hk with h1 | ⟨j1, r1, hj1, hk1⟩
          · exact .inl h1
          · exact .inr (inF hj1 k hk1)
        · rcases hfoot _ _ hbj k hk with h1 | ⟨j1, r1, hj1, hk1⟩
          · exact .inl h1
          · exact .inr (inF hj1 k hk1)
      · rcases hfoot _ _ h4 k (by simpa [fp₃, h2] using hk) with h1 | ⟨j1, r1, hj1, hk1⟩
        · exact .inl h1
        · exact .inr (inF hj1 k hk1)
theorem sc_direct {i : Nat} {r0 r1 : Res} {r : SV} (hi : bs[i]? = some r0) (hm : r0.mine = true) (hent : Enters V f) (hr : flat r = true)
    (h : ∀ (β : Nat → Bt) (fp : Nat → Nat → Prop) (w : World), V.E w → (∀ β', Agr bs.length β β' → Holds β' (β' i) (fp i) w r0) → Calls V.P f (concL β args).toArray w fun e w' => e = .returned (conc bt0 r) ∧ FrW (fp i) w w' ∧ ∃ f1 : Nat → Prop, (∀ k, f1 k → fp i k) ∧ ∀ β', Agr bs.length β β' → Holds β' (β' i) f1 w' r1) :
    SC V f args bs (fun r' bs' => r' = r ∧ bs' = bs.set i r1) := by
  have hil : i < bs.length := (List.getElem?_eq_some_iff.1 hi).1
  refine ⟨hent, fun β fp w hbx hG hE => ?_⟩
  refine (h β fp w hE (fun β' hβ => (hbx β' hβ).holds i _ hi)).mono ?_
  rintro e w' ⟨rfl, hfr, f1, hf1, hh⟩
  have old : ∀ {j r'}, (bs.set i r1)[j]? = some r' → (j = i ∧ r' = r1) ∨ (j ≠ i ∧ bs[j]? = some r') := fun {j r'} hj => by
    by_cases hji : j = i
    · subst hji
      rw [List.getElem?_set_self hil] at hj
      exact .inl ⟨rfl, (Option.some.inj hj).symm⟩
    · rw [List.getElem?_set_ne (fun e => hji e.symm)] at hj
      exact .inr ⟨hji, hj⟩
  let fp₂ : Nat → Nat → Prop := fun j k => if j = i then f1 k else fp j k
  refine ⟨r, bs.set i r1, β, fp₂, ⟨rfl, rfl⟩, Agr.refl _ _, by simp, fun β' hβ => ⟨by rw [conc_flat r hr bt0 β'], ?_⟩, hfr.mono (fun k hk => ⟨i, _, hi, hm, hk⟩), fun j r' hj hjm k hk => ?_, fun j r' hj k hk => ?_⟩
  · rw [List.length_set] at hβ
    have hb := hbx β' hβ
    refine ⟨fun j r' hj => ?_, fun j r' hj k hk => ?_, fun j l a b hj hl hne hmm k hk hk2 => ?_⟩
    · rcases old hj with ⟨rfl, rfl⟩ | ⟨h1, h2⟩
      · have e : fp₂ j = f1 := by funext k; simp [fp₂]
        rw [e]; exact hh β' hβ
      · have e : fp₂ j = fp j := by funext k; simp [fp₂, h1]
        rw [e]
        exact (hb.holds j _ h2).stays (fun k hk => hfr.block k (hb.lt j _ h2 k hk) (fun hki => hb.sep i j _ _ hi h2 (fun e => h1 e.symm) (.inl hm) k hki hk))
    · rcases old hj with ⟨rfl, rfl⟩ | ⟨h1, h2⟩
      · exact Nat.lt_of_lt_of_le (hb.lt _ _ hi k (hf1 k (by simpa [fp₂] using hk))) hfr.size
      · exact Nat.lt_of_lt_of_le (hb.lt j _ h2 k (by simpa [fp₂, h1] using hk)) hfr.size
    · rcases old hj with ⟨rfl, rfl⟩ | ⟨h1, h2⟩ <;> rcases old hl with ⟨rfl, rfl⟩ | ⟨g1, g2⟩
      · exact hne rfl
      · exact hb.sep _ _ _ _ hi g2 hne (.inl hm) k (hf1 k (by simpa [fp₂] using hk)) (by simpa [fp₂, g1] using hk2)
      · exact hb.sep _ _ _ _ hi h2 (fun e => hne e.symm) (.inl hm) k (hf1 k (by simpa [fp₂] using hk2)) (by simpa [fp₂, h1] using hk)
      · exact hb.sep _ _ _ _ h2 g2 hne hmm k (by simpa [fp₂, h1] using hk) (by simpa [fp₂, g1] using hk2)
  · rcases old hj with ⟨rfl, rfl⟩ | ⟨h1, h2⟩
    · exact .inr ⟨_, _, hi, hm, hf1 k (by simpa [fp₂] using hk)⟩
    · exact .inr ⟨j, r', h2, hjm, by simpa [fp₂, h1] using hk⟩
  · rcases old hj with ⟨rfl, rfl⟩ | ⟨h1, h2⟩
    · exact .inr ⟨_, _, hi, hf1 k (by simpa [fp₂] using hk)⟩
    · exact .inr ⟨j, r', h2, by simpa [fp₂, h1] using hk⟩
theorem SC.mono {R R' : SV → List Res → Prop} (h : SC V f args bs R) (k : ∀ r bs', R r bs' → R' r bs') : SC V f args bs R' := by
  refine ⟨h.1, fun β fp w hbx hG hE => (h.2 β fp w hbx hG hE).mono ?_⟩
  rintro e w' ⟨r, bs', β₂, fp₂, hR, h2⟩
  exact ⟨r, bs', β₂, fp₂, k _ _ hR, h2⟩
/-! slices that grow -/
theorem at_new (b : List Res) (X : Res) : (b ++ [X])[b.length]? = some X := by simp
theorem at_old {b : List Res} {j : Nat} {r : Res} (h : b[j]? = some r) (X : List Res) : (b ++ X)[j]? = some r := by
  rw [List.getElem?_append_left ((List.getElem?_eq_some_iff.1 h).1)]; exact h
def Sl (e s L : Nat) (x : SV) (b : List Res) (c : List SV) (n : Nat) : Prop := (x = .nils ∧ c = [] ∧ n = 0) ∨ ∃ j, x = .o j n ∧ L ≤ j ∧ b[j]? = some (.own c e s n true)
def Kp (bs b : List Res) : Prop := bs.length ≤ b.length ∧ ∀ k, k < bs.length → b[k]? = bs[k]?
theorem Kp.refl (bs : List Res) : Kp bs bs := ⟨Nat.le_refl _, fun _ _ => rfl⟩
theorem Kp.trans {a b c : List Res} (h : Kp a b) (k : Kp b c) : Kp a c := ⟨Nat.le_trans h.1 k.1, fun i hi => (k.2 i (Nat.lt_of_lt_of_le hi h.1)).trans (h.2 i hi)⟩
theorem Kp.app {bs b : List Res} (h : Kp bs b) (X : List Res) : Kp bs (b ++ X) := ⟨by rw [List.length_append]; have := h.1; omega, fun k hk => by rw [List.getElem?_append_left (by have := h.1; omega)]; exact h.2 k hk⟩
theorem Kp.set {bs b : List Res} (h : Kp bs b) {j : Nat} (hj : bs.length ≤ j) (X : Res) : Kp bs (b.set j X) := ⟨by rw [List.length_set]; exact h.1, fun k hk => by rw [List.getElem?_set_ne (by omega)]; exact h.2 k hk⟩
theorem Kp.at {bs b : List Res} (h : Kp bs b) {j : Nat} {r : Res} (hj : bs[j]? = some r) : b[j]? = some r := (h.2 j ((List.getElem?_eq_some_iff.1 hj).1)).trans hj
theorem Sl.app {e s L : Nat} {x : SV} {b : List Res} {c : List SV} {n : Nat} (h : Sl e s L x b c n) (X : List Res) : Sl e s L x (b ++ X) c n := by
  rcases h with h | ⟨j, h1, h2, h3⟩
  · exact .inl h
  · exact .inr ⟨j, h1, h2, at_old h3 X⟩
theorem set_new {α : Type} (b : List α) (X Y : α) : (b ++ [X]).set b.length Y = b ++ [Y] := by simp
theorem set_prev {α : Type} (b : List α) (X Y Z : α) : (b ++ [X] ++ [Y]).set b.length Z = b ++ [Z] ++ [Y] := by simp
theorem set_prev2 {α : Type} (b : List α) (X Y Z W : α) : (b ++ [X] ++ [Y] ++ [W]).set b.length Z = b ++ [Z] ++ [Y] ++ [W] := by simp
theorem at_prev {α : Type} (b : List α) (X Y : α) : (b ++ [X] ++ [Y])[b.length]? = some X := by simp
theorem at_prev2 {α : Type} (b : List α) (X Y Z : α) : (b ++ [X] ++ [Y] ++ [Z])[b.length]? = some X := by simp
theorem at_prev3 {α : Type} (b : List α) (X Y Z W : α) : (b ++ [X] ++ [Y] ++ [Z] ++ [W])[b.length]? = some X := by simp
theorem at_prev4 {α : Type} (b : List α) (X Y Z W U : α) : (b ++ [X] ++ [Y] ++ [Z] ++ [W] ++ [U])[b.length]? = some X := by simp
def lawB := And.intro (And.intro (@at_new) (And.intro (@at_prev) (@at_prev2))) (And.intro (And.intro (@at_prev3) (@at_prev4)) (And.intro (@set_new) (And.intro (@set_prev) (@set_prev2))))
end Vc
/- Slices of flat values among the arguments. -/
set_option linter.all false
namespace Go.Proofs.YtfmafmgbfamaiaaGreatDoor
open Go Vc Go.RowKit Wf
open Go.ChangeShapes Go.WideShapes Go.ChangeAt
open Go.WideMaps Go.WideElems
theorem lies_app {w : World} {b off : Nat} {xs ys : List Value} (h1 : Lies w b off xs) (h2 : Lies w b (off + xs.length) ys) : Lies w b off (xs ++ ys) := fun j v hv => by
  rcases Nat.lt_or_ge j xs.length with h | h
  · rw [List.getElem?_append_left h] at hv
    exact h1 j v hv
  · rw [List.getElem?_append_right h] at hv
    have := h2 (j - xs.length) v hv
    rwa [show off + xs.length + (j - xs.length) = off + j by omega] at this
theorem lies_rows {ρ : Type} {w : World} {b s : Nat} (vs : ρ → List Value) : ∀ (L : List ρ) (off : Nat), (∀ r ∈ L, (vs r).length = s) → (∀ (i : Nat) (r : ρ), L[i]? = some r → Lies w b (off + i * s) (vs r)) → Lies w b off (L.flatMap vs)
  | [], _, _, _ => fun j v hv => by simp at hv
  | r :: L, off, hs, h => by
    rw [List.flatMap_cons]
    refine lies_app (by simpa using h 0 r rfl) (lies_rows vs L _ (fun q hq => hs q (List.mem_cons_of_mem _ hq)) (fun i q hq => ?_))
    have := h (i + 1) q hq
    rw [hs r List.mem_cons_self]
    rwa [show off + s + i * s = off + (i + 1) * s by rw [Nat.add_mul]; omega]
theorem flat_rows {ρ : Type} {s : Nat} (vs : ρ → List SV) : ∀ (L : List ρ), (∀ r ∈ L, (vs r).length = s) → (L.flatMap vs).length = L.length * s
  | [], _ => by simp
  | r :: L, hs => by
    rw [List.flatMap_cons, List.length_append, hs r List.mem_cons_self, flat_rows vs L (fun q hq => hs q (List.mem_cons_of_mem _ hq)), List.length_cons, Nat.add_mul]
    omega
section
variable {H : Type} {enc : TypeId × Value → H} {P : Program} {w : World} {held : Bool}
theorem open_rows {ρ : Type} (dflt : ρ) (cl : ρ → List SV) (dt : ρ → DataW H) (Q : ρ → Prop) (hfl : ∀ r, flat.flatL (cl r) = true) {t e : TypeId} {s : Nat} (ht : P.underlying t = some (.slice e)) (hs : P.cellsOf e = s)
    (hrow : ∀ fuel cs x, DataW.trod enc P w 0 (fun _ => true) held fuel e cs = some x → ∃ r, cs = concL bt0 (cl r) ∧ x.1 = dt r ∧ Q r)
    {rch : Reach} {b0 : Nat} {v : Value} {n : Nat} {x : DataW H × List MemPlace} (hok : Cell.okWide P w rch b0 t v) (h : DataW.trod enc P w 0 (fun _ => true) held n t [v] = some x) :
    ∃ (b : Bt) (L : List ρ), v = oV b L.length ∧ L.length ≤ 9223372036854775807 ∧ ((x.1 = .nil ∧ L = []) ∨ ∃ sp', x.1 = .slice (L.map dt) sp') ∧ (∀ β, Holds β b (fun k => k = b.blk ∧ b.cap ≠ 0) w (.own (L.flatMap cl) e s L.length false)) ∧ (b.cap ≠ 0 → b.blk < w.heap.size) ∧ ∀ r ∈ L, Q r := by
  obtain ⟨a0, len0, cap0, rfl⟩ : ∃ a len cap, v = .slice a len cap := by
    simp only [Cell.okWide, ht] at hok
    cases v <;> simp_all [Cell.ok]
  have hf := h
  rcases Go.Deep.open_slice ht hf with ⟨hv, hx⟩ | ⟨a, len, cap, m, n, D, Pl, hv, hb, hl, hm, hmm, hx, hel⟩
  · simp only [List.cons.injEq, Value.slice.injEq, and_true] at hv
    obtain ⟨rfl, rfl, rfl⟩ := hv
    exact ⟨⟨0, 0, 0⟩, [], by simp [oV], by simp, .inl ⟨by rw [hx], rfl⟩, fun β => .inl ⟨rfl, rfl, rfl, by simp⟩, fun k => absurd rfl k, fun _ hr => absurd hr (by simp)⟩
  · simp only [List.cons.injEq, Value.slice.injEq, and_true] at hv
    obtain ⟨rfl, rfl, rfl⟩ := hv
    have hhas : w.has P rch b0 a e cap0 := by
      simp only [Cell.okWide, ht, Cell.ok] at hok
      exact hok.2.2
    obtain ⟨-, hspot, row, cells, hshape, -⟩ := hhas
    obtain ⟨blk, off, spot⟩ := a
    simp only at hspot hshape
    subst hspot
    have hblk : blk < w.heap.size := by
      rcases Nat.lt_or_ge blk w.heap.size with h' | h'
      · exact h'
      · unfold World.shape? at hshape
        simp [Array.getElem?_eq_none h'] at hshape
    have hmc : m = cap0 := by rw [hmm]; simp
    subst hmc
    haveI : Inhabited ρ := ⟨dflt⟩
    obtain ⟨R, hR⟩ := Go.Deep.choose_lt (α := ρ) (n := len0) (p := fun i r => (∀ q v, (concL bt0 (cl r))[q]? = some v → w.cell? ⟨blk, off + i * s + q, none⟩ = some v) ∧ (cl r).length = s ∧ D i = dt r ∧ Q r) (fun i hi => by
      obtain ⟨cs', h1, h2⟩ := hel i (by omega)
      obtain ⟨r, rfl, hd, hQ⟩ := hrow n cs' _ h2
      rw [hs] at h1
      obtain ⟨-, h3, h4⟩ := World.cells?_some h1
      rw [concL_map, List.length_map] at h3
      refine ⟨r, fun q v hv => ?_, h3, hd, hQ⟩
      have hq : q < s := by
        have := (List.getElem?_eq_some_iff.1 hv).1
        rwa [concL_map, List.length_map, h3] at this
      have := h4 q hq
      rw [addr_plus, addr_plus] at this
      rw [this]; exact hv)
    have hlen : ((List.range len0).map R).length = len0 := by simp
    have hall : ∀ r ∈ (List.range len0).map R, (cl r).length = s := by
      intro r hr
      obtain ⟨i, hi, rfl⟩ := List.mem_map.1 hr
      exact (hR i (List.mem_range.1 hi)).2.1
    have hmx : m ≤ 9223372036854775807 := by unfold maxLen at hm; simpa using hm
    have hlies : ∀ β, Lies w blk off ((((List.range len0).map R).flatMap cl).map (conc β)) := fun β => by
      have e1 : (((List.range len0).map R).flatMap cl).map (conc β) = ((List.range len0).map R).flatMap fun r => concL β (cl r) := by
        rw [List.map_flatMap]
        congr 1
        funext r
        rw [concL_map]
      rw [e1]
      refine lies_rows (s := s) _ _ _ (fun r hr => by rw [concL_map, List.length_map]; exact hall r hr) (fun i r hr q v hv => ?_)
      have hi : i < len0 := by
        have := (List.getElem?_eq_some_iff.1 hr).1
        simpa using this
      have hr2 : R i = r := by simpa [hi] using hr
      subst hr2
      rw [concL_flat _ (hfl _) β bt0] at hv
      have := (hR i hi).1 q v hv
      simpa [Nat.add_assoc] using this
    refine ⟨⟨blk, off, m + 1⟩, (List.range len0).map R, by simp [oV], by rw [hlen]; omega, .inr ⟨(List.range (m - len0)).map fun j => D (len0 + j), ?_⟩, fun β => .inr ⟨by simp, by simpa using hl, by simpa using hm, flat_rows cl _ hall, hlies β, (fun hm => absurd hm (by simp)), fun k => by simp⟩, fun _ => hblk, fun r hr => by
      obtain ⟨i, hi, rfl⟩ := List.mem_map.1 hr
      exact (hR i (List.mem_range.1 hi)).2.2.2⟩
    have hD : (List.range len0).map D = ((List.range len0).map R).map dt := by
      rw [List.map_map]
      exact List.map_congr_left fun i hi => (hR i (List.mem_range.1 hi)).2.2.1
    rw [hx, hD]
end
theorem ok_cell {P : Program} {w : World} {r : Reach} {b : Nat} {t e : TypeId} {v : Value} (ht : P.underlying t = some (.slice e)) (h : Value.okWide P w r b t v) : Cell.okWide P w r b t v := by
  simpa only [Value.okWide, ht] using h
theorem SC.law {V : Cx} {f : FuncId} {args : List SV} {l : List (Bt × Res)} (h : SC V f args (l.map (·.2)) (fun r _ => r = .bool true)) {w : World} (hE : V.E w)
    (hh : ∀ x ∈ l, x.2.mine = false ∧ (∀ β, Holds β x.1 (fun k => k = x.1.blk ∧ x.1.cap ≠ 0) w x.2) ∧ (x.1.cap ≠ 0 → x.1.blk < w.heap.size)) :
    Calls V.P f (concL (fun i => ((l[i]?).map (·.1)).getD (bt0 0)) args).toArray w fun e w' => e = .returned (.bool true) ∧ Below w.heap.size w w' := by
  have hno : ∀ (i : Nat) (r : Res), (l.map (·.2))[i]? = some r → r.mine = false := fun i r hi => by
    rw [List.getElem?_map, Option.map_eq_some_iff] at hi
    obtain ⟨x, hx, rfl⟩ := hi
    exact (hh x (List.mem_of_getElem? hx)).1
  obtain ⟨β, hβ0⟩ : ∃ β : Nat → Bt, β = fun i => ((l[i]?).map (·.1)).getD (bt0 0) := ⟨_, rfl⟩
  rw [← hβ0]
  obtain ⟨fp, hfp⟩ : ∃ fp : Nat → Nat → Prop, ∀ i k, fp i k ↔ ∃ x, l[i]? = some x ∧ k = x.1.blk ∧ x.1.cap ≠ 0 := ⟨fun i k => ∃ x, l[i]? = some x ∧ k = x.1.blk ∧ x.1.cap ≠ 0, fun _ _ => Iff.rfl⟩
  have hbx : ∀ β', Agr (l.map (·.2)).length β β' → BxOK β' fp w (l.map (·.2)) := fun β' hβ => by
    refine BxOK.mk ?_ ?_ ?_
    · intro i r hi
      rw [List.getElem?_map, Option.map_eq_some_iff] at hi
      obtain ⟨x, hx, rfl⟩ := hi
      have hb : β' i = x.1 := by
        have := hβ i (by simpa using (List.getElem?_eq_some_iff.1 hx).1)
        rw [← this, hβ0]; simp [hx]
      rw [hb]
      have h2 := (hh x (List.mem_of_getElem? hx)).2.1 β'
      have e : fp i = fun k => k = x.1.blk ∧ x.1.cap ≠ 0 := by
        funext k
        exact propext ⟨fun h => by obtain ⟨y, hy, h1⟩ := (hfp i k).1 h; rw [hx] at hy; cases hy; exact h1, fun h => (hfp i k).2 ⟨x, hx, h⟩⟩
      rw [e]; exact h2
    · intro i r hi k hk
      obtain ⟨x, hx, rfl, hc⟩ := (hfp i k).1 hk
      exact (hh x (List.mem_of_getElem? hx)).2.2 hc
    · intro i j r r' hi hj _ hm
      rw [hno i r hi, hno j r' hj] at hm
      simp at hm
  refine (h.2 β fp w hbx ?_ hE).mono ?_
  · intro i r hi hm
    rw [hno i r hi] at hm
    cases hm
  · rintro e w' ⟨r, bs', β₂, fp₂, rfl, hag, hle, hall, hfr, -⟩
    refine ⟨by have := (hall β₂ (Agr.refl _ _)).1; simpa [conc] using this, ?_⟩
    refine (hfr.mono (own' := fun _ => False) ?_).below
    rintro k ⟨i, r, hi, hm, -⟩
    rw [hno i r hi] at hm
    cases hm
end Go.Proofs.YtfmafmgbfamaiaaGreatDoor
/- Plain functions of package body. -/
set_option linter.all false
namespace Wf
open Go Go.RowKit
def hexDig (d : Nat) : UInt8 := if d < 10 then (48 + d).toUInt8 else (87 + d).toUInt8
def hexS (n : Nat) : Bytes := if _h : n = 0 then [] else hexS (n / 16) ++ [hexDig (n % 16)]
termination_by n
decreasing_by omega
theorem hex_at (k : Nat) : List.drop (k % 16) (48 :: List.take (k % 16) [49, 50, 51, 52, 53, 54, 55, 56, 57, 97, 98, 99, 100, 101, 102]) = [hexDig (k % 16)] := by
  have : (List.range 16).all (fun d => List.drop d (48 :: List.take d [49, 50, 51, 52, 53, 54, 55, 56, 57, 97, 98, 99, 100, 101, 102]) == [hexDig d]) = true := by decide +kernel
  rw [List.all_eq_true] at this
  simpa using this (k % 16) (by simp; omega)
theorem hex_next {k n : Nat} {l : Bytes} (h0 : 0 < k) (h : hexS k ++ l = hexS n) : hexS (k / 16) ++ (hexDig (k % 16) :: l) = hexS n := by
  rw [← h]; conv => rhs; rw [hexS, dif_neg (by omega)]
  simp
theorem hexS_pos {n : Nat} (h : 0 < n) : hexS n = hexS (n / 16) ++ [hexDig (n % 16)] := by
  rw [hexS, dif_neg (by omega)]
theorem hexS_zero : hexS 0 = [] := by rw [hexS]; rfl
theorem hexS_length (n : Nat) : (hexS n).length ≤ n := by
  induction n using Nat.strongRecOn with
  | _ n ih =>
    rcases Nat.eq_zero_or_pos n with rfl | h
    · simp [hexS_zero]
    · rw [hexS_pos h]; have := ih (n / 16) (by omega); simp; omega
def chunkLen (size : Int) (s : Bytes) : Nat := (min (max size 1) s.length).toNat
theorem chunkLen_pos {size : Int} {s : Bytes} (h : s ≠ []) : 0 < chunkLen size s ∧ chunkLen size s ≤ s.length := by
  have := List.length_pos_iff.2 h; unfold chunkLen; omega
def crlf : Bytes := [13, 10]
def encode (size : Int) (s : Bytes) : Bytes :=
  if _h : s = [] then [48, 13, 10, 13, 10] else hexS (chunkLen size s) ++ crlf ++ s.take (chunkLen size s) ++ crlf ++ encode size (s.drop (chunkLen size s))
termination_by s.length
decreasing_by have := chunkLen_pos (size := size) _h; simp; omega
theorem encode_ne {size : Int} {s : Bytes} (h : s ≠ []) : encode size s = hexS (chunkLen size s) ++ crlf ++ s.take (chunkLen size s) ++ crlf ++ encode size (s.drop (chunkLen size s)) := by
  rw [encode, dif_neg h]
theorem encode_nil {size : Int} : encode size [] = [48, 13, 10, 13, 10] := by rw [encode]; rfl
theorem encode_next {size : Int} {s0 s acc : Bytes} (h : s ≠ []) (he : acc ++ encode size s = encode size s0) : (acc ++ (hexS (chunkLen size s) ++ (13 :: 10 :: (s.take (chunkLen size s) ++ [13, 10])))) ++ encode size (s.drop (chunkLen size s)) = encode size s0 := by
  rw [← he, encode_ne h]; simp [crlf]
def newline : Bytes → Int × Bytes
  | 13 :: 10 :: r => (0, r)
  | [] => (191, [])
  | [13] => (191, [13])
  | r => (190, r)
theorem newline_cases (r : Bytes) : (∃ t, r = 13 :: 10 :: t) ∨ r = [] ∨ r = [13] ∨ (Lib.hasPrefix r [13, 10] = false ∧ r.isEmpty = false ∧ (r == [13]) = false ∧ newline r = (190, r)) := by
  match r with
  | [] => exact .inr (.inl rfl)
  | [c] =>
    by_cases h : c = 13
    · exact .inr (.inr (.inl (by rw [h])))
    · refine .inr (.inr (.inr ⟨by simp [Lib.hasPrefix, List.isPrefixOf], rfl, by simp [h], ?_⟩))
      unfold newline
      split <;> simp_all
  | c :: d :: t =>
    by_cases h : c = 13 ∧ d = 10
    · exact .inl ⟨t, by rw [h.1, h.2]⟩
    · refine .inr (.inr (.inr ⟨?_, rfl, by simp, ?_⟩))
      · simp [Lib.hasPrefix, List.isPrefixOf]; intro h1; subst h1; intro h2; exact h ⟨rfl, h2.symm⟩
      · unfold newline
        split <;> simp_all
theorem newline_le (r : Bytes) : (newline r).2.length ≤ r.length := by
  rcases newline_cases r with ⟨t, rfl⟩ | rfl | rfl | ⟨_, _, _, h⟩
  · simp [newline]; omega
  · simp [newline]
  · simp [newline]
  · rw [h]; exact Nat.le_refl _
def isNL (c : UInt8) : Bool := [13, 10].contains c
def sizeOf' (r : Bytes) (n : Nat) : Nat := if (numParse isHex 16 4611686018427387904 (r.take n)).2 = 0 then (numParse isHex 16 4611686018427387904 (r.take n)).1 else 4611686018427387904
def hexLen (r : Bytes) : Nat := pre (fun c => !isHex c) r
def sepAt (r : Bytes) : Bool := match r.drop (hexLen r) with
  | c :: _ => c == 59 || c == 13
  | [] => false
def sizes (r : Bytes) (old : Nat) : Int × Nat × Bytes :=
  if hexLen r = r.length then (191, old, r)
  else if hexLen r = 0 ∨ sepAt r = false then (190, old, r)
  else if (newline (r.drop (pre isNL r))).1 = 0 then (0, sizeOf' r (hexLen r), (newline (r.drop (pre isNL r))).2)
  else ((newline (r.drop (pre isNL r))).1, old, (newline (r.drop (pre isNL r))).2)
theorem sepAt_get {r : Bytes} (h : hexLen r < r.length) : sepAt r = (r[hexLen r] == 59 || r[hexLen r] == 13) := by
  unfold sepAt; rw [drop_cons r _ h]
theorem semi_at (c : UInt8) : Lib.indexByte [59, 13] c = if c = 59 then 0 else if c = 13 then 1 else -1 := by
  have := all256 (p := fun c => decide (Lib.indexByte [59, 13] c = if c = 59 then 0 else if c = 13 then 1 else -1)) (by decide +kernel) c
  exact of_decide_eq_true this
theorem newline_ok {r : Bytes} (h : (newline r).1 = 0) : (newline r).2.length + 2 = r.length := by
  rcases newline_cases r with ⟨t, rfl⟩ | rfl | rfl | ⟨_, _, _, h4⟩
  · simp [newline]
  · simp [newline] at h
  · simp [newline] at h
  · rw [h4] at h; simp at h
def trailerGo : Nat → Bytes → Int
  | 0, _ => 0
  | f + 1, r =>
    if (newline (r.drop (pre isNL r))).1 ≠ 0 then (newline (r.drop (pre isNL r))).1
    else if r.take (pre isNL r) = [] then 0
    else trailerGo f (newline (r.drop (pre isNL r))).2
def chunkGo (most : Int) : Nat → Bytes → Bytes → Nat → Bytes × Int
  | 0, _, _, _ => ([], 0)
  | f + 1, acc, r, old =>
    if (sizes r old).1 ≠ 0 then ([], (sizes r old).1)
    else if most < 0 ∨ most - acc.length < (sizes r old).2.1 then ([], 142)
    else if (sizes r old).2.1 = 0 then
      if trailerGo ((sizes r old).2.2.length + 1) (sizes r old).2.2 ≠ 0 then ([], trailerGo ((sizes r old).2.2.length + 1) (sizes r old).2.2) else (acc, 0)
    else if (sizes r old).2.2.length < (sizes r old).2.1 then ([], 191)
    else if (newline ((sizes r old).2.2.drop (sizes r old).2.1)).1 ≠ 0 then ([], (newline ((sizes r old).2.2.drop (sizes r old).2.1)).1)
    else chunkGo most f (acc ++ (sizes r old).2.2.take (sizes r old).2.1) (newline ((sizes r old).2.2.drop (sizes r old).2.1)).2 (sizes r old).2.1
def chunked (s : Bytes) (most : Int) : Bytes × Int := chunkGo most (s.length + 1) [] s 0
theorem sizes_ok {r : Bytes} {old : Nat} (h : (sizes r old).1 = 0) : (sizes r old).2.2.length < r.length := by
  unfold sizes at h ⊢
  split at h
  · simp at h
  · split at h
    · simp at h
    · split at h
      · rename_i h1 h2 h3
        rw [if_neg h1, if_neg h2, if_pos h3]
        have := newline_ok h3
        simp at this ⊢
        omega
      · rename_i h3
        exact absurd h h3
theorem sizes_len (r : Bytes) (old : Nat) : (sizes r old).2.2.length ≤ r.length := by
  unfold sizes
  split
  · exact Nat.le_refl _
  · split
    · exact Nat.le_refl _
    · have := newline_le (r.drop (pre isNL r))
      simp at this
      split <;> (simp only; omega)
theorem sizes_bound (r : Bytes) (old : Nat) (h : old ≤ 4611686018427387904) : (sizes r old).2.1 ≤ 4611686018427387904 := by
  unfold sizes
  split
  · exact h
  · split
    · exact h
    · split
      · simp only [sizeOf']
        split
        · exact numParse_le _ _ _ _
        · exact Nat.le_refl _
      · exact h
end Wf
/- What the chunked forms mean: plain laws. -/
set_option linter.all false
namespace Wf
open Go Go.RowKit
theorem pre_append {p : UInt8 → Bool} {a b : Bytes} (h : ∀ c ∈ a, p c = false) : pre p (a ++ b) = a.length + pre p b := by
  induction a with
  | nil => simp
  | cons c a ih =>
    rw [List.cons_append, pre_cons, h c (by simp), ih (fun x hx => h x (by simp [hx]))]
    simp; omega
end Wf
/- Plain laws: hosts, URIs, canonical strings, URLs. -/
set_option linter.all false
namespace Wf
open Go Go.RowKit
theorem lowerC_all (c : UInt8) : lowerC (lowerC c) = lowerC c ∧ ldh (lowerC c) = ldh c ∧ isDigit (lowerC c) = isDigit c ∧ (lowerC c == 45) = (c == 45) ∧ (lowerC c == 46) = (c == 46) ∧ (lowerC c == 58) = (c == 58) ∧ (isDigit c = true → lowerC c = c) := by
  have h := all256 (p := fun c => decide (lowerC (lowerC c) = lowerC c ∧ ldh (lowerC c) = ldh c ∧ isDigit (lowerC c) = isDigit c ∧ (lowerC c == 45) = (c == 45) ∧ (lowerC c == 46) = (c == 46) ∧ (lowerC c == 58) = (c == 58) ∧ (isDigit c = true → lowerC c = c))) (by decide +kernel) c
  exact of_decide_eq_true h
theorem lower_lower (s : Bytes) : lower (lower s) = lower s := by
  unfold lower; rw [List.map_map]; apply List.map_congr_left; intro c _; exact (lowerC_all c).1
theorem lower_length (s : Bytes) : (lower s).length = s.length := by unfold lower; simp
theorem lower_isEmpty (s : Bytes) : (lower s).isEmpty = s.isEmpty := by unfold lower; cases s <;> rfl
theorem lower_all {p : UInt8 → Bool} (hp : ∀ c, p (lowerC c) = p c) (s : Bytes) : (lower s).all p = s.all p := by
  unfold lower; rw [List.all_map]; congr 1; funext c; exact hp c
theorem lower_digits {s : Bytes} (h : s.all isDigit = true) : lower s = s := by
  unfold lower
  rw [List.all_eq_true] at h
  conv => rhs; rw [← List.map_id s]
  apply List.map_congr_left; intro c hc; exact (lowerC_all c).2.2.2.2.2.2 (h c hc)
theorem labelOk_lower (s : Bytes) : labelOk (lower s) = labelOk s := by
  unfold labelOk
  rw [lower_isEmpty, lower_length, lower_all (fun c => (lowerC_all c).2.1)]
  have h1 : ((lower s).head? == some 45) = (s.head? == some 45) := by
    unfold lower; rw [List.head?_map]; cases s.head? with
    | none => rfl
    | some c => simpa using (lowerC_all c).2.2.2.1
  have h2 : ((lower s).getLast? == some 45) = (s.getLast? == some 45) := by
    unfold lower; rw [List.getLast?_map]; cases s.getLast? with
    | none => rfl
    | some c => simpa using (lowerC_all c).2.2.2.1
  rw [h1, h2]
theorem digitsOk_lower (s : Bytes) : digitsOk (lower s) = digitsOk s := by
  unfold digitsOk; rw [lower_isEmpty, lower_all (fun c => (lowerC_all c).2.2.1)]
theorem splitC_lower (s : Bytes) : splitC 46 (lower s) = (splitC 46 s).map lower := by
  induction s with
  | nil => rfl
  | cons x r ih =>
    have hx := (lowerC_all x).2.2.2.2.1
    rw [show lower (x :: r) = lowerC x :: lower r from rfl, splitC, splitC, hx, ih]
    cases x == 46
    · simp only [Bool.false_eq_true, if_false]
      cases splitC 46 r <;> rfl
    · rfl
theorem numStrict_lower (m : Nat) (s : Bytes) : numStrict m (lower s) = numStrict m s := by
  cases h : s.all isDigit
  · have hd : digitsOk s = false := by unfold digitsOk; simp [h]
    have hl : (lower s).all isDigit = false := by rw [lower_all (fun c => (lowerC_all c).2.2.1), h]
    unfold numStrict numParse
    rw [digitsOk_lower, hd, hl, h, lower_isEmpty]
    simp
  · rw [lower_digits h]
theorem octetOk_lower (s : Bytes) : octetOk (lower s) = octetOk s := by unfold octetOk; rw [numStrict_lower]
theorem ipv4_lower (s : Bytes) : ipv4 (lower s) = ipv4 s := by
  unfold ipv4
  rw [splitC_lower, List.length_map, List.all_map]
  congr 2; funext x; exact octetOk_lower x
theorem nameL_lower (l : List Bytes) : nameL (l.map lower) = nameL l := by
  induction l with
  | nil => rfl
  | cons x r ih =>
    cases r with
    | nil => simp only [List.map, nameL, labelOk_lower, digitsOk_lower]
    | cons y r => simp only [List.map_cons, nameL, labelOk_lower] at ih ⊢; rw [ih]
theorem nameOk_lower (s : Bytes) : nameOk (lower s) = nameOk s := by unfold nameOk; rw [splitC_lower, nameL_lower]
theorem hostM_ok {s x : Bytes} (h : hostM s = (x, 0)) : x = lower s ∧ x.length ≤ 253 ∧ hostM x = (x, 0) := by
  unfold hostM at h
  cases h1 : s.isEmpty
  · rw [h1] at h
    by_cases h2 : 253 < s.length
    · simp [h2] at h
    · cases h3 : (!ipv4 s && !nameOk s)
      · simp [h2, h3] at h
        subst h
        refine ⟨rfl, by rw [lower_length]; omega, ?_⟩
        unfold hostM
        rw [lower_isEmpty, lower_length, ipv4_lower, nameOk_lower, h1, h3, lower_lower]
        simp [h2]
      · simp [h2, h3] at h
  · rw [h1] at h; simp at h
theorem pre_lower (s : Bytes) : pre (· == 58) (lower s) = pre (· == 58) s := by
  induction s with
  | nil => rfl
  | cons x r ih =>
    rw [show lower (x :: r) = lowerC x :: lower r from rfl, pre_cons, pre_cons, ih, (lowerC_all x).2.2.2.2.2.1]
theorem pre_take (p : UInt8 → Bool) (s : Bytes) : pre p (s.take (pre p s)) = (s.take (pre p s)).length := by
  induction s with
  | nil => rfl
  | cons x r ih =>
    rw [pre_cons]
    cases hx : p x
    · simp [pre_cons, hx]
      have := ih; simp at this; omega
    · rfl
theorem cutC_fst (c : UInt8) (s : Bytes) : pre (· == c) (cutC c s).1 = (cutC c s).1.length := by
  unfold cutC
  by_cases h : pre (· == c) s < s.length
  · rw [if_pos h]; exact pre_take _ s
  · rw [if_neg h]; have := pre_le (· == c) s; show pre (· == c) s = s.length; omega
theorem cutC_none {c : UInt8} {s : Bytes} (h : pre (· == c) s = s.length) : cutC c s = (s, [], false) := by
  unfold cutC; rw [if_neg (by omega)]
theorem pre_app {p : UInt8 → Bool} {x : Bytes} (h : pre p x = x.length) (c : UInt8) (r : Bytes) (hc : p c = true) : pre p (x ++ c :: r) = x.length := by
  induction x with
  | nil => simp [pre_cons, hc]
  | cons y x ih =>
    rw [pre_cons] at h
    cases hy : p y
    · rw [hy] at h; simp at h
      simp [pre_cons, hy, ih h]
    · rw [hy] at h; simp at h
theorem cutC_some {c : UInt8} {x : Bytes} (h : pre (· == c) x = x.length) (r : Bytes) : cutC c (x ++ c :: r) = (x, r, true) := by
  unfold cutC
  rw [pre_app h c r (by simp), if_pos (by simp)]
  simp
theorem hexVal_dig {n : Nat} (h : n < 10) : hexVal (dig n) = n ∧ isDigit (dig n) = true ∧ (dig n = 48 → n = 0) := by
  have h := (by decide +kernel : ∀ n, n < 10 → hexVal (dig n) = n ∧ isDigit (dig n) = true ∧ (dig n = 48 → n = 0)) n h
  exact h
theorem numGo_app {b m : Nat} (r : Bytes) : ∀ (l : Bytes) {a v : Nat}, numGo b m a l = (v, 0) → numGo b m a (l ++ r) = numGo b m v r := by
  intro l
  induction l with
  | nil => intro a v h; simp [numGo] at h; rw [h]; rfl
  | cons c l ih =>
    intro a v h
    rw [numGo] at h
    rw [List.cons_append, numGo]
    by_cases hm : m < a * b + hexVal c
    · rw [if_pos hm] at h; simp at h
    · rw [if_neg hm] at h
      rw [if_neg hm]
      exact ih h
theorem decS_back (m : Nat) : ∀ (k n : Nat), n ≤ k → n ≤ m → numGo 10 m 0 (decS n) = (n, 0) ∧ (decS n).all isDigit = true ∧ (0 < n → (decS n).head? ≠ some 48) := by
  intro k
  induction k with
  | zero =>
    intro n h _
    obtain rfl : n = 0 := by omega
    rw [decS_small (by omega)]
    exact ⟨by simp [numGo, dig, hexVal], by decide, fun h => by omega⟩
  | succ k ih =>
    intro n h hm
    by_cases hn : n < 10
    · rw [decS_small hn]
      obtain ⟨h1, h2, h3⟩ := hexVal_dig hn
      refine ⟨?_, by simp [h2], ?_⟩
      · rw [numGo, h1, if_neg (by omega), numGo]; simp
      · intro h0 he; simp at he; exact absurd (h3 he) (by omega)
    · rw [decS_big hn]
      obtain ⟨h1, h2, h3⟩ := ih (n / 10) (by omega) (by omega)
      obtain ⟨g1, g2, g3⟩ := hexVal_dig (show n % 10 < 10 by omega)
      refine ⟨?_, by rw [List.all_append, h2]; simp [g2], ?_⟩
      · rw [numGo_app _ _ h1, numGo, g1, if_neg (by omega), numGo]
        congr 1; omega
      · intro _
        have := decS_pos (n / 10)
        rw [List.head?_append]
        have h3 := h3 (by omega)
        cases hd : (decS (n / 10)).head? with
        | none => rw [List.head?_eq_none_iff] at hd; rw [hd] at this; simp at this
        | some c => rw [hd] at h3; simpa using h3
theorem portM_dec {n : Nat} (h0 : 0 < n) (h : n ≤ 65535) : portM (decS n) = ((n : Int), 0) := by
  obtain ⟨h1, h2, h3⟩ := decS_back 65535 n n (by omega) h
  have hp := decS_pos n
  have hne : (decS n).isEmpty = false := by cases hd : decS n <;> simp [hd] at hp ⊢
  have hs : numStrict 65535 (decS n) = (n, 0) := by
    unfold numStrict numParse
    rw [if_neg (fun hh => h3 h0 hh.2.2), hne, h2, h1]
    rfl
  unfold portM
  rw [hs]
  have : ¬ n = 0 := by omega
  simp [this]
theorem portM_ok {s : Bytes} {p : Int} (h : portM s = (p, 0)) : 0 < p ∧ p ≤ 65535 := by
  have hle := numStrict_le 65535 s
  unfold portM at h
  split at h
  · simp at h
  · rename_i hc
    simp at h
    subst h
    omega
theorem hostPort_back {s x : Bytes} {p : Int} (h : hostPort s = ((x, p), 0)) : hostPort (hostText x p) = ((x, p), 0) ∧ hostM x = (x, 0) ∧ p ≠ 443 ∧ x.length ≤ 253 ∧ 0 ≤ p ∧ p ≤ 65535 := by
  have hf := cutC_fst 58 s
  unfold hostPort at h
  generalize cutC 58 s = C at hf h
  obtain ⟨first, rest, colon⟩ := C
  simp only at hf h
  generalize hH : hostM first = H at h
  obtain ⟨y, e⟩ := H
  by_cases he : e = 0
  · subst he
    obtain ⟨hy, hlen, hback⟩ := hostM_ok hH
    have hpy : pre (· == 58) y = y.length := by rw [hy, pre_lower, lower_length]; exact hf
    have plain : hostPort (hostText y 0) = ((y, 0), 0) := by
      unfold hostText hostPort
      rw [if_pos rfl, cutC_none hpy, hback]; rfl
    cases colon
    · unfold hostPortOf at h
      simp at h
      obtain ⟨rfl, rfl⟩ := h
      exact ⟨plain, hback, by omega, hlen, by omega, by omega⟩
    · generalize hP : portM rest = P at h
      obtain ⟨q, f⟩ := P
      unfold hostPortOf at h
      by_cases hf0 : f = 0
      · subst hf0
        simp at h
        obtain ⟨rfl, h⟩ := h
        obtain ⟨q0, q1⟩ := portM_ok hP
        by_cases h443 : q = 443
        · rw [if_pos h443] at h
          subst h
          exact ⟨plain, hback, by omega, hlen, by omega, by omega⟩
        · rw [if_neg h443] at h
          subst h
          refine ⟨?_, hback, h443, hlen, by omega, q1⟩
          obtain ⟨n, rfl⟩ : ∃ n : Nat, q = n := ⟨q.toNat, by omega⟩
          unfold hostText hostPort
          rw [if_neg (by omega), if_neg (by omega)]
          have e : y ++ [58] ++ decS (n : Int).natAbs = y ++ 58 :: decS n := by simp
          rw [e, cutC_some hpy]
          simp only [hback, portM_dec (show 0 < n by omega) (show n ≤ 65535 by omega)]
          unfold hostPortOf
          simp [h443]
      · simp [hf0] at h
  · unfold hostPortOf at h
    simp [he] at h
def lab (n : Nat) : Bytes := List.replicate n 97
def labs (n : Nat) : Nat → Bytes
  | 0 => lab n
  | k + 1 => labs n k ++ [46] ++ lab n
end Wf
namespace Wf
open Go Go.RowKit
theorem uncut_no (c : UInt8) (s : Bytes) (h : (cutC c s).2.2 = false) : (cutC c s).2.1 = [] := by
  unfold cutC at h ⊢
  split
  · rename_i h2; rw [if_pos h2] at h; simp at h
  · rfl
/-! paths that begin with a slash -/
def absP (l : List Bytes) : Bytes := l.flatMap (47 :: ·)
def goodSeg (s : Bytes) : Prop := (47 : UInt8) ∉ s ∧ s ≠ [46] ∧ s ≠ [46, 46]
theorem absP_cons (x : Bytes) (l : List Bytes) : absP (x :: l) = 47 :: (x ++ absP l) := rfl
theorem absP_app (l : List Bytes) (x : Bytes) : absP (l ++ [x]) = absP l ++ 47 :: x := by
  unfold absP; simp
theorem absP_head (l : List Bytes) : absP l = [] ∨ ∃ r, absP l = 47 :: r := by
  cases l with
  | nil => exact .inl rfl
  | cons x l => exact .inr ⟨_, rfl⟩
theorem pre_noslash {x : Bytes} (h : (47 : UInt8) ∉ x) (l : List Bytes) : pre (· == 47) (x ++ absP l) = x.length := by
  induction x with
  | nil =>
    rcases absP_head l with e | ⟨r, e⟩
    · simp [e, pre_nil]
    · simp [e, pre_cons]
  | cons c x ih =>
    simp only [List.mem_cons, not_or] at h
    rw [List.cons_append, pre_cons, if_neg (by simp; exact fun e => h.1 e.symm), ih h.2]
    rfl
theorem shorten_abs (l : List Bytes) (x : Bytes) (h : (47 : UInt8) ∉ x) : shorten (absP (l ++ [x])) = absP l := by
  rw [absP_app]
  unfold shorten
  rw [List.reverse_append, List.reverse_cons, List.append_assoc]
  have : (x.reverse ++ ([47] ++ (absP l).reverse)).dropWhile (· != 47) = [47] ++ (absP l).reverse := by
    rw [List.dropWhile_append_of_pos]
    · simp
    · intro c hc
      simp only [List.mem_reverse] at hc
      simp
      rintro rfl
      exact h hc
  rw [this]
  simp
theorem dotsGo_abs : ∀ (f : Nat) (p : Bytes) (l : List Bytes), p.length ≤ f → (p = [] ∨ ∃ r, p = 47 :: r) → (p = [] → l ≠ []) → (∀ x ∈ l, goodSeg x) → ∃ l', dotsGo f p (absP l) = absP l' ∧ l' ≠ [] ∧ ∀ x ∈ l', goodSeg x := by
  intro f
  induction f with
  | zero =>
    intro p l hp _ hn hg
    have : p = [] := List.length_eq_zero_iff.1 (by omega)
    exact ⟨l, rfl, hn this, hg⟩
  | succ f ih =>
    intro p l hp hs hn hg
    rw [dotsGo]
    rcases hs with rfl | ⟨r, rfl⟩
    · exact ⟨l, by rw [if_pos rfl], hn rfl, hg⟩
    · rw [if_neg (by simp)]
      have hsh : ∃ l2, shorten (absP l) = absP l2 ∧ ∀ x ∈ l2, goodSeg x := by
        rcases List.eq_nil_or_concat l with rfl | ⟨l2, x, rfl⟩
        · exact ⟨[], rfl, by simp⟩
        · refine ⟨l2, ?_, fun y hy => hg y (by simp [hy])⟩
          have := hg x (by simp)
          simpa using shorten_abs l2 x this.1
      obtain ⟨l2, hl2, hg2⟩ := hsh
      unfold dotStep
      rw [if_neg (by simp [List.isPrefixOf]), if_neg (by simp [List.isPrefixOf])]
      by_cases c1 : [47, 46, 47].isPrefixOf (47 :: r)
      · rw [if_pos c1]
        obtain ⟨q, hq⟩ := List.isPrefixOf_iff_prefix.1 c1
        simp only [List.cons_append, List.nil_append, List.cons.injEq, true_and] at hq
        subst hq
        exact ih _ l (by simp at hp ⊢; omega) (.inr ⟨q, rfl⟩) (by simp) hg
      rw [if_neg c1]
      by_cases c2 : (47 :: r) = [47, 46]
      · rw [if_pos c2]
        rw [c2] at hp
        exact ih _ l (by simp at hp ⊢; omega) (.inr ⟨[], rfl⟩) (by simp) hg
      rw [if_neg c2]
      by_cases c3 : [47, 46, 46, 47].isPrefixOf (47 :: r)
      · rw [if_pos c3]
        obtain ⟨q, hq⟩ := List.isPrefixOf_iff_prefix.1 c3
        simp only [List.cons_append, List.nil_append, List.cons.injEq, true_and] at hq
        subst hq
        simp only [hl2]
        exact ih _ l2 (by simp at hp ⊢; omega) (.inr ⟨q, rfl⟩) (by simp) hg2
      rw [if_neg c3]
      by_cases c4 : (47 :: r) = [47, 46, 46]
      · rw [if_pos c4]
        rw [c4] at hp
        simp only [hl2]
        exact ih _ l2 (by simp at hp ⊢; omega) (.inr ⟨[], rfl⟩) (by simp) hg2
      rw [if_neg c4, if_neg (by simp)]
      simp only [List.drop_succ_cons, List.drop_zero]
      have hseg : goodSeg (r.take (pre (· == 47) r)) := by
        refine ⟨fun hm => ?_, fun e => ?_, fun e => ?_⟩
        · obtain ⟨k, hk, hk2⟩ := List.getElem_of_mem hm
          rw [List.length_take] at hk
          have := pre_get (p := (· == 47)) (l := r) (k := k) (by omega) (by omega)
          rw [List.getElem_take] at hk2
          simp [hk2] at this
        · have hp1 := congrArg List.length e
          simp only [List.length_take, List.length_cons, List.length_nil] at hp1
          have hr := List.take_append_drop (pre (· == 47) r) r
          rw [e] at hr
          cases hd : r.drop (pre (· == 47) r) with
          | nil => rw [hd] at hr; exact c2 (by rw [← hr]; rfl)
          | cons y t =>
            have hlt : pre (· == 47) r < r.length := by
              apply Nat.lt_of_not_le; intro h; rw [List.drop_of_length_le h] at hd; cases hd
            have := pre_at (p := (· == 47)) hlt
            rw [List.drop_eq_getElem_cons hlt] at hd
            simp only [List.cons.injEq] at hd
            rw [hd.1] at this
            simp only [beq_iff_eq] at this
            subst this
            rw [List.drop_eq_getElem_cons hlt, hd.1] at hr
            exact c1 (by rw [← hr]; simp [List.isPrefixOf])
        · have hp1 := congrArg List.length e
          simp only [List.length_take, List.length_cons, List.length_nil] at hp1
          have hr := List.take_append_drop (pre (· == 47) r) r
          rw [e] at hr
          cases hd : r.drop (pre (· == 47) r) with
          | nil => rw [hd] at hr; exact c4 (by rw [← hr]; rfl)
          | cons y t =>
            have hlt : pre (· == 47) r < r.length := by
              apply Nat.lt_of_not_le; intro h; rw [List.drop_of_length_le h] at hd; cases hd
            have := pre_at (p := (· == 47)) hlt
            rw [List.drop_eq_getElem_cons hlt] at hd
            simp only [List.cons.injEq] at hd
            rw [hd.1] at this
            simp only [beq_iff_eq] at this
            subst this
            rw [List.drop_eq_getElem_cons hlt, hd.1] at hr
            exact c3 (by rw [← hr]; simp [List.isPrefixOf])
      have e1 : (47 :: r).drop (1 + pre (· == 47) r) = r.drop (pre (· == 47) r) := by rw [Nat.add_comm]; rfl
      have e2 : (47 :: r).take (1 + pre (· == 47) r) = 47 :: r.take (pre (· == 47) r) := by rw [Nat.add_comm]; rfl
      rw [e1, e2, ← absP_app]
      refine ih _ _ (by simp at hp ⊢; omega) ?_ (by simp) (fun x hx => ?_)
      · by_cases hlt : pre (· == 47) r < r.length
        · right
          have := pre_at (p := (· == 47)) hlt
          simp only [beq_iff_eq] at this
          exact ⟨_, by rw [List.drop_eq_getElem_cons hlt, this]⟩
        · left
          exact List.drop_of_length_le (by omega)
      · simp only [List.mem_append, List.mem_singleton] at hx
        rcases hx with hx | rfl
        · exact hg x hx
        · exact hseg
theorem removeDots_abs (r : Bytes) : ∃ l, removeDots (47 :: r) = absP l ∧ l ≠ [] ∧ ∀ x ∈ l, goodSeg x :=
  dotsGo_abs _ _ [] (Nat.le_refl _) (.inr ⟨r, rfl⟩) (by simp) (by simp)
theorem dotsGo_same : ∀ (l : List Bytes) (f : Nat) (out : Bytes), (absP l).length ≤ f → (∀ x ∈ l, goodSeg x) → dotsGo f (absP l) out = out ++ absP l
  | [], f, out, _, _ => by cases f <;> simp [absP, dotsGo]
  | x :: l, f, out, hf, hg => by
    rw [absP_cons] at hf ⊢
    obtain ⟨f, rfl⟩ : ∃ k, f = k + 1 := ⟨f - 1, by simp at hf; omega⟩
    rw [dotsGo, if_neg (by simp)]
    obtain ⟨h1, h2, h3⟩ := hg x (by simp)
    have hpre := pre_noslash h1 l
    have seg : ∀ (y : Bytes), (47 : UInt8) ∉ y → y ≠ x → ¬ (47 :: (y ++ [47])).isPrefixOf (47 :: (x ++ absP l)) = true := fun y hy hne hp => by
      obtain ⟨q, hq⟩ := List.isPrefixOf_iff_prefix.1 hp
      simp only [List.cons_append, List.append_assoc, List.cons.injEq, true_and] at hq
      have hpy := pre_noslash hy [q]
      have e : y ++ absP [q] = x ++ absP l := by rw [← hq]; simp [absP]
      rw [e, hpre] at hpy
      have := List.append_inj_left e hpy.symm
      exact hne this
    have seg2 : ∀ (y : Bytes), (47 : UInt8) ∉ y → y ≠ x → (47 :: (x ++ absP l)) ≠ 47 :: y := fun y hy hne he => by
      simp only [List.cons.injEq, true_and] at he
      have hpy : pre (· == 47) y = y.length := by simpa [absP] using pre_noslash hy []
      rw [← he, hpre, List.length_append] at hpy
      have h0 : absP l = [] := List.length_eq_zero_iff.1 (by omega)
      rw [h0, List.append_nil] at he
      exact hne he.symm
    have hd : dotStep (47 :: (x ++ absP l)) out = (absP l, out ++ 47 :: x) := by
      unfold dotStep
      rw [if_neg (by simp [List.isPrefixOf]), if_neg (by simp [List.isPrefixOf]), if_neg (show ¬ ([47, 46, 47] : Bytes).isPrefixOf _ = true from seg [46] (by decide) (fun e => h2 e.symm)), if_neg (seg2 [46] (by decide) (fun e => h2 e.symm)), if_neg (show ¬ ([47, 46, 46, 47] : Bytes).isPrefixOf _ = true from seg [46, 46] (by decide) (fun e => h3 e.symm)), if_neg (seg2 [46, 46] (by decide) (fun e => h3 e.symm)), if_neg (by simp)]
      simp only [List.drop_succ_cons, List.drop_zero, hpre]
      rw [Nat.add_comm]
      simp
    rw [hd]
    rw [dotsGo_same l f _ (by simp at hf; omega) (fun y hy => hg y (by simp [hy]))]
    simp
theorem removeDots_clean (r : Bytes) : removeDots (removeDots (47 :: r)) = removeDots (47 :: r) := by
  obtain ⟨l, h1, h2, h3⟩ := removeDots_abs r
  rw [h1]
  unfold removeDots
  rw [dotsGo_same l _ _ (Nat.le_refl _) h3]
  rfl
theorem splitC_abs : ∀ (l : List Bytes), l ≠ [] → (∀ x ∈ l, (47 : UInt8) ∉ x) → splitC 47 (absP l) = [] :: l
  | [], h, _ => absurd rfl h
  | x :: l, _, hg => by
    rw [absP_cons]
    have hx := hg x (by simp)
    rw [splitC, if_pos (by simp)]
    congr 1
    have hpre := pre_noslash hx l
    cases l with
    | nil =>
      simp only [absP, List.flatMap_nil, List.append_nil] at hpre ⊢
      rw [splitC_miss (by omega)]
    | cons y l =>
      rw [splitC_hit (by rw [hpre]; simp [absP_cons]), hpre]
      have ih := splitC_abs (y :: l) (by simp) (fun z hz => hg z (by simp [hz]))
      rw [absP_cons, splitC, if_pos (by simp)] at ih
      simp only [List.cons.injEq, true_and] at ih
      rw [absP_cons]
      simp [ih]
theorem clean_segs (r : Bytes) : (∃ q, removeDots (47 :: r) = 47 :: q) ∧ ∀ x ∈ splitC 47 (removeDots (47 :: r)), x ≠ [46] ∧ x ≠ [46, 46] := by
  obtain ⟨l, h1, h2, h3⟩ := removeDots_abs r
  rw [h1]
  constructor
  · cases l with
    | nil => exact absurd rfl h2
    | cons x l => exact ⟨_, rfl⟩
  · rw [splitC_abs l h2 (fun x hx => (h3 x hx).1)]
    intro x hx
    simp only [List.mem_cons] at hx
    rcases hx with rfl | hx
    · simp
    · exact (h3 x hx).2
end Wf
namespace Wf
open Go Go.RowKit
def Can (also s : Bytes) : Prop := ∃ l : List PU, s = l.flatMap PU.str ∧ ∀ x ∈ l, canU also x
theorem can_nil (also : Bytes) : Can also [] := ⟨[], rfl, by simp⟩
theorem can_app {also a b : Bytes} (ha : Can also a) (hb : Can also b) : Can also (a ++ b) := by
  obtain ⟨l, rfl, h1⟩ := ha
  obtain ⟨m, rfl, h2⟩ := hb
  exact ⟨l ++ m, by simp, fun x hx => by
    rcases List.mem_append.1 hx with h | h
    · exact h1 x h
    · exact h2 x h⟩
theorem can_one {also : Bytes} {c : UInt8} (h : keepB also c = true) (hc : c ≠ 37) : Can also [c] := ⟨[.lit c], rfl, fun x hx => by
  obtain rfl := List.mem_singleton.1 hx; exact ⟨h, hc⟩⟩
theorem can_tail {also : Bytes} {c : UInt8} {r : Bytes} (hc : c ≠ 37) (h : Can also (c :: r)) : keepB also c = true ∧ Can also r := by
  obtain ⟨l, e, h1⟩ := h
  cases l with
  | nil => simp at e
  | cons x l =>
    have hx := h1 x List.mem_cons_self
    rw [List.flatMap_cons] at e
    cases x with
    | lit d =>
      simp only [PU.str, List.singleton_append, List.cons.injEq] at e
      obtain ⟨rfl, rfl⟩ := e
      exact ⟨hx.1, l, rfl, fun y hy => h1 y (List.mem_cons_of_mem _ hy)⟩
    | hex a b =>
      simp only [PU.str, List.cons_append, List.nil_append, List.cons.injEq] at e
      exact absurd e.1 hc
    | bad => exact hx.elim
theorem can_split {also : Bytes} {c : UInt8} (hc : c ≠ 37) (hx : isHex c = false) : ∀ (l : List PU) (a b : Bytes), (∀ x ∈ l, canU also x) → a ++ c :: b = l.flatMap PU.str → Can also a ∧ Can also (c :: b)
  | [], a, b, _, e => by simp at e
  | .lit d :: l, [], b, h, e => ⟨can_nil _, _, e, h⟩
  | .lit d :: l, y :: a, b, h, e => by
    rw [List.flatMap_cons] at e
    simp only [PU.str, List.singleton_append, List.cons_append, List.cons.injEq] at e
    obtain ⟨rfl, e⟩ := e
    obtain ⟨h1, h2⟩ := can_split hc hx l a b (fun y hy => h y (List.mem_cons_of_mem _ hy)) e
    have hy := h _ List.mem_cons_self
    exact ⟨can_app (a := [y]) (can_one hy.1 hy.2) h1, h2⟩
  | .hex u v :: l, [], b, h, e => by
    rw [List.flatMap_cons] at e
    simp only [PU.str, List.nil_append, List.cons_append, List.cons.injEq] at e
    exact absurd e.1 hc
  | .hex u v :: l, [x], b, h, e => by
    rw [List.flatMap_cons] at e
    simp only [PU.str, List.nil_append, List.cons_append, List.cons.injEq] at e
    have := (h _ List.mem_cons_self).2.2.2.1
    rw [← e.2.1, hx] at this; cases this
  | .hex u v :: l, [x, y], b, h, e => by
    rw [List.flatMap_cons] at e
    simp only [PU.str, List.nil_append, List.cons_append, List.cons.injEq] at e
    have := (h _ List.mem_cons_self).2.2.2.2
    rw [← e.2.2.1, hx] at this; cases this
  | .hex u v :: l, x :: y :: z :: a, b, h, e => by
    rw [List.flatMap_cons] at e
    simp only [PU.str, List.nil_append, List.cons_append, List.cons.injEq] at e
    obtain ⟨rfl, rfl, rfl, e⟩ := e
    obtain ⟨h1, h2⟩ := can_split hc hx l a b (fun y hy => h y (List.mem_cons_of_mem _ hy)) e
    refine ⟨can_app (a := [37, y, z]) ⟨[.hex y z], rfl, fun x hx => ?_⟩ h1, h2⟩
    obtain rfl := List.mem_singleton.1 hx
    exact h _ List.mem_cons_self
  | .bad :: l, a, b, h, e => (h _ List.mem_cons_self).elim
theorem Can.split {also a b : Bytes} {c : UInt8} (hc : c ≠ 37) (hx : isHex c = false) (h : Can also (a ++ c :: b)) : Can also a ∧ Can also (c :: b) := by
  obtain ⟨l, e, h1⟩ := h
  exact can_split hc hx l a b h1 e
theorem can_bytes {also s : Bytes} (h : Can also s) : ∀ c ∈ s, keepB also c = true ∨ c = 37 ∨ isHex c = true := by
  obtain ⟨l, rfl, h1⟩ := h
  intro c hc
  obtain ⟨x, hx, hcx⟩ := List.mem_flatMap.1 hc
  have hk := h1 x hx
  cases x with
  | lit d =>
    obtain rfl := List.mem_singleton.1 hcx
    exact .inl hk.1
  | hex a b =>
    simp only [PU.str, List.mem_cons, List.not_mem_nil, or_false] at hcx
    rcases hcx with rfl | rfl | rfl
    · exact .inr (.inl rfl)
    · exact .inr (.inr hk.2.2.2.1)
    · exact .inr (.inr hk.2.2.2.2)
  | bad => exact hk.elim
theorem can_norm {also s : Bytes} (h : Can also s) (hl : s.length ≤ 16384) : pctNorm also s = (s, 0) := by
  obtain ⟨l, rfl, h1⟩ := h
  unfold pctNorm
  rw [if_neg (by omega), units_can also l h1, normU_can also l h1]
theorem norm_can {also s : Bytes} (h : (pctNorm also s).2 = 0) : Can also (pctNorm also s).1 := by
  unfold pctNorm at h ⊢
  split at h
  · simp at h
  · rename_i hs
    rw [if_neg hs]
    obtain ⟨l', e, h1, -, -⟩ := normU_parts also (units s) (units_litne s) h
    exact ⟨l', e, h1⟩
theorem can_cut {also s : Bytes} (n : Nat) (hd : s.drop n = [] ∨ ∃ r, s.drop n = 47 :: r) (h : Can also s) : Can also (s.take n) ∧ Can also (s.drop n) := by
  rcases hd with hd | ⟨r, hd⟩
  · rw [hd]
    have e : s.take n = s := List.take_of_length_le (by simpa using hd)
    rw [e]; exact ⟨h, can_nil _⟩
  · rw [hd]
    have e : s = s.take n ++ 47 :: r := by rw [← hd, List.take_append_drop]
    rw [e] at h
    exact h.split (by decide) (by decide)
theorem drop_pre (s : Bytes) : s.drop (pre (· == 47) s) = [] ∨ ∃ r, s.drop (pre (· == 47) s) = 47 :: r := by
  by_cases h : pre (· == 47) s < s.length
  · right
    have := pre_at h
    simp only [beq_iff_eq] at this
    exact ⟨s.drop (pre (· == 47) s + 1), by rw [List.drop_eq_getElem_cons h, this]⟩
  · left; simp; omega
theorem shorten_split (s : Bytes) : shorten s = [] ∨ ∃ r, s = shorten s ++ 47 :: r := by
  unfold shorten
  have key : ∀ t : Bytes, t.dropWhile (· != 47) = [] ∨ ∃ a b, t = a ++ 47 :: b ∧ t.dropWhile (· != 47) = 47 :: b := by
    intro t
    induction t with
    | nil => left; rfl
    | cons x t ih =>
      by_cases hx : x = 47
      · subst hx
        right; exact ⟨[], t, rfl, by simp⟩
      · rw [List.dropWhile_cons_of_pos (by simp [hx])]
        rcases ih with ih | ⟨a, b, h1, h2⟩
        · left; exact ih
        · right; exact ⟨x :: a, b, by rw [h1]; rfl, h2⟩
  rcases key s.reverse with h | ⟨a, b, h1, h2⟩
  · left; rw [h]; rfl
  · right
    rw [h2]
    refine ⟨a.reverse, ?_⟩
    have := congrArg List.reverse h1
    rw [List.reverse_reverse] at this
    rw [this]; simp
theorem can_shorten {also s : Bytes} (h : Can also s) : Can also (shorten s) := by
  rcases shorten_split s with e | ⟨r, e⟩
  · rw [e]; exact can_nil _
  · rw [e] at h; exact (h.split (by decide) (by decide)).1
theorem can_dotStep {also p o : Bytes} (h47 : keepB also 47 = true) (hp : Can also p) (ho : Can also o) : Can also (dotStep p o).1 ∧ Can also (dotStep p o).2 := by
  have c47 : Can also [47] := can_one h47 (by decide)
  have drop1 : ∀ {c : UInt8} {r : Bytes}, c ≠ 37 → Can also (c :: r) → Can also r := fun hc h => (can_tail hc h).2
  unfold dotStep
  split
  · rename_i h
    obtain ⟨r, rfl⟩ := List.isPrefixOf_iff_prefix.1 h
    exact ⟨drop1 (by decide) (drop1 (by decide) (drop1 (by decide) hp)), ho⟩
  split
  · rename_i h
    obtain ⟨r, rfl⟩ := List.isPrefixOf_iff_prefix.1 h
    exact ⟨drop1 (by decide) (drop1 (by decide) hp), ho⟩
  split
  · rename_i h
    obtain ⟨r, rfl⟩ := List.isPrefixOf_iff_prefix.1 h
    exact ⟨drop1 (by decide) (drop1 (by decide) hp), ho⟩
  split
  · exact ⟨c47, ho⟩
  split
  · rename_i h
    obtain ⟨r, rfl⟩ := List.isPrefixOf_iff_prefix.1 h
    exact ⟨drop1 (by decide) (drop1 (by decide) (drop1 (by decide) hp)), can_shorten ho⟩
  split
  · exact ⟨c47, can_shorten ho⟩
  split
  · exact ⟨can_nil _, ho⟩
  · have hd : p.drop (1 + pre (· == 47) (p.drop 1)) = [] ∨ ∃ r, p.drop (1 + pre (· == 47) (p.drop 1)) = 47 :: r := by
      rw [← List.drop_drop]; exact drop_pre _
    obtain ⟨h1, h2⟩ := can_cut _ hd hp
    exact ⟨h2, can_app ho h1⟩
theorem can_dotsGo {also : Bytes} (h47 : keepB also 47 = true) : ∀ (f : Nat) (p o : Bytes), Can also p → Can also o → Can also (dotsGo f p o)
  | 0, _, _, _, ho => ho
  | f + 1, p, o, hp, ho => by
    rw [dotsGo]
    split
    · exact ho
    · obtain ⟨h1, h2⟩ := can_dotStep h47 hp ho
      exact can_dotsGo h47 f _ _ h1 h2
theorem can_removeDots {also p : Bytes} (h47 : keepB also 47 = true) (hp : Can also p) : Can also (removeDots p) := can_dotsGo h47 _ _ _ hp (can_nil _)
/-! hosts -/
theorem mem_splitC (d : UInt8) : ∀ (n : Nat) (s : Bytes), s.length ≤ n → ∀ c ∈ s, c = d ∨ ∃ x ∈ splitC d s, c ∈ x
  | 0, s, h, c, hc => by
    obtain rfl := List.length_eq_zero_iff.1 (Nat.le_zero.1 h)
    simp at hc
  | n + 1, s, h, c, hc => by
    by_cases hp : pre (· == d) s < s.length
    · rw [splitC_hit hp]
      have e : s = s.take (pre (· == d) s) ++ d :: s.drop (pre (· == d) s + 1) := by
        have := pre_at hp
        simp only [beq_iff_eq] at this
        conv => lhs; rw [← List.take_append_drop (pre (· == d) s) s, List.drop_eq_getElem_cons hp, this]
      rw [e] at hc
      rcases List.mem_append.1 hc with h1 | h1
      · exact .inr ⟨_, List.mem_cons_self, h1⟩
      · rcases List.mem_cons.1 h1 with h2 | h2
        · exact .inl h2
        · rcases mem_splitC d n _ (by simp; omega) c h2 with h3 | ⟨x, h3, h4⟩
          · exact .inl h3
          · exact .inr ⟨x, List.mem_cons_of_mem _ h3, h4⟩
    · rw [splitC_miss hp]
      exact .inr ⟨s, List.mem_singleton.2 rfl, hc⟩
theorem octet_digits {s : Bytes} (h : octetOk s = true) : s.all isDigit = true := by
  unfold octetOk numStrict at h
  split at h
  · simp at h
  · have := (numParse_err_dig 255 s).1 (.inl (by simpa using h))
    unfold digitsOk at this
    simp only [Bool.and_eq_true] at this
    exact this.2
theorem nameL_mem : ∀ (l : List Bytes), nameL l = true → ∀ x ∈ l, labelOk x = true
  | [], _, x, h => by simp at h
  | [y], h, x, hx => by
    simp only [nameL, Bool.and_eq_true] at h
    obtain rfl := List.mem_singleton.1 hx
    exact h.1
  | y :: z :: r, h, x, hx => by
    simp only [nameL, Bool.and_eq_true] at h
    rcases List.mem_cons.1 hx with rfl | hx
    · exact h.1
    · exact nameL_mem (z :: r) h.2 x hx
theorem hostM_bytes {s x : Bytes} (h : hostM s = (x, 0)) : ∀ c ∈ x, ldh c = true ∨ c = 46 := by
  have hx := (hostM_ok h).2.2
  clear h
  unfold hostM at hx
  split at hx
  · simp at hx
  split at hx
  · simp at hx
  split at hx
  · simp at hx
  · rename_i h3
    intro c hc
    rcases mem_splitC 46 _ x (Nat.le_refl _) c hc with h4 | ⟨y, h4, h5⟩
    · exact .inr h4
    · left
      cases hi : ipv4 x
      · have hn : nameOk x = true := by simpa [hi] using h3
        have := nameL_mem _ hn y h4
        unfold labelOk at this
        simp only [Bool.and_eq_true] at this
        exact List.all_eq_true.1 this.2 c h5
      · unfold ipv4 at hi
        simp only [Bool.and_eq_true] at hi
        have := octet_digits (List.all_eq_true.1 hi.2 y h4)
        have := List.all_eq_true.1 this c h5
        unfold ldh; rw [this]; simp
theorem decS_digits (n : Nat) : ∀ c ∈ decS n, isDigit c = true := fun c hc => List.all_eq_true.1 ((decS_back n n n (Nat.le_refl _) (Nat.le_refl _)).2.1) c hc
theorem hostPort_bytes {s x : Bytes} {p : Int} (h : hostPort s = ((x, p), 0)) : ∀ c ∈ hostText x p, ldh c = true ∨ c = 46 ∨ c = 58 := by
  obtain ⟨-, h1, -, -, h2, -⟩ := hostPort_back h
  have hb := hostM_bytes h1
  unfold hostText
  split
  · intro c hc; exact (hb c hc).imp id .inl
  split
  · omega
  · intro c hc
    rcases List.mem_append.1 hc with hc | hc
    · rcases List.mem_append.1 hc with hc | hc
      · exact (hb c hc).imp id .inl
      · exact .inr (.inr (List.mem_singleton.1 hc))
    · left; unfold ldh; rw [decS_digits _ c hc]; simp
theorem pre_none {c : UInt8} {l : Bytes} (h : c ∉ l) : pre (· == c) l = l.length := by
  induction l with
  | nil => rfl
  | cons x l ih =>
    simp only [List.mem_cons, not_or] at h
    rw [pre_cons, if_neg (by simpa using fun e => h.1 e.symm), ih h.2]; rfl
end Wf
namespace Wf
open Go Go.RowKit
theorem split_join (u : Uri) (h1 : u.scheme = https) (h2 : u.hasScheme = true) (h3 : u.hasAuthority = true) (ha : ∀ c ∈ u.authority, c ≠ 47 ∧ c ≠ 63 ∧ c ≠ 35) (hp : ∃ r, u.path = 47 :: r) (hpb : ∀ c ∈ u.path, c ≠ 63 ∧ c ≠ 35) (hq : (35 : UInt8) ∉ u.query) (hq0 : u.hasQuery = false → u.query = []) (hf0 : u.hasFrag = false → u.fragment = []) (hl : (uriJoin u).length ≤ 16384) :
    uriSplit (uriJoin u) = (u, 0) := by
  obtain ⟨sc, au, pa, qu, fr, b1, b2, b3, b4⟩ := u
  simp only at h1 h2 h3 ha hp hpb hq hq0 hf0
  subst h1 h2 h3
  have c1 : cutC 35 (uriJoin ⟨https, au, pa, qu, fr, true, true, b3, b4⟩) = (https ++ [58] ++ ([47, 47] ++ au) ++ pa ++ (if b3 then [63] ++ qu else []), fr, b4) := by
    have hn : (35 : UInt8) ∉ https ++ [58] ++ ([47, 47] ++ au) ++ pa ++ (if b3 then [63] ++ qu else []) := by
      simp only [List.mem_append, not_or]
      refine ⟨⟨⟨⟨by decide, by decide⟩, by decide, fun h => (ha _ h).2.2 rfl⟩, fun h => (hpb _ h).2 rfl⟩, ?_⟩
      split
      · simp only [List.mem_append, not_or]; exact ⟨by decide, hq⟩
      · simp
    cases b4
    · have : uriJoin ⟨https, au, pa, qu, fr, true, true, b3, false⟩ = https ++ [58] ++ ([47, 47] ++ au) ++ pa ++ (if b3 then [63] ++ qu else []) := by simp [uriJoin]
      rw [this, cutC_none (pre_none hn), hf0 rfl]
    · have : uriJoin ⟨https, au, pa, qu, fr, true, true, b3, true⟩ = (https ++ [58] ++ ([47, 47] ++ au) ++ pa ++ (if b3 then [63] ++ qu else [])) ++ 35 :: fr := by simp [uriJoin]
      rw [this, cutC_some (pre_none hn)]
  have c2 : cutC 63 (https ++ [58] ++ ([47, 47] ++ au) ++ pa ++ (if b3 then [63] ++ qu else [])) = (https ++ [58] ++ ([47, 47] ++ au) ++ pa, qu, b3) := by
    have hn : (63 : UInt8) ∉ https ++ [58] ++ ([47, 47] ++ au) ++ pa := by
      simp only [List.mem_append, not_or]
      exact ⟨⟨⟨by decide, by decide⟩, by decide, fun h => (ha _ h).2.1 rfl⟩, fun h => (hpb _ h).1 rfl⟩
    cases b3
    · rw [if_neg (by simp), List.append_nil, cutC_none (pre_none hn), hq0 rfl]
    · rw [if_pos rfl, List.singleton_append, cutC_some (pre_none hn)]
  unfold uriSplit
  rw [if_neg (by omega), c1]
  simp only
  rw [c2]
  simp only
  obtain ⟨r, rfl⟩ := hp
  have e : https ++ [58] ++ ([47, 47] ++ au) ++ 47 :: r = 104 :: 116 :: 116 :: 112 :: 115 :: 58 :: 47 :: 47 :: (au ++ 47 :: r) := by simp [https]
  have p5 : pre colonSlash (104 :: 116 :: 116 :: 112 :: 115 :: 58 :: 47 :: 47 :: (au ++ 47 :: r)) = 5 := by
    simp only [pre_cons]
    rw [if_neg (by decide), if_neg (by decide), if_neg (by decide), if_neg (by decide), if_neg (by decide), if_pos (by decide)]
  have pa : pre (· == 47) (au ++ 47 :: r) = au.length := pre_app (pre_none (fun h => (ha _ h).1 rfl)) 47 r (by decide)
  rw [e]
  unfold splitRest
  rw [p5]
  simp only [List.drop_succ_cons, List.drop_zero, List.take_succ_cons, List.take_zero, List.head?_cons, if_true, authPath, pa, List.take_left, List.drop_left]
  rw [if_pos (by decide)]
  rfl
def urlUri (u : Url) : Uri := ⟨https, hostText u.host u.port, u.path, u.query, u.fragment, true, true, u.hasQuery, u.hasFrag⟩
theorem urlText_join (u : Url) : urlText u = uriJoin (urlUri u) := by
  unfold urlText uriJoin urlUri urlTarget
  cases u.hasQuery <;> simp [https]
structure CanUrl (u : Url) : Prop where
  host : hostPort (hostText u.host u.port) = ((u.host, u.port), 0)
  path : Can inPath u.path
  slash : ∃ r, u.path = 47 :: r
  dots : removeDots u.path = u.path
  query : Can inQuery u.query
  frag : Can inQuery u.fragment
  noq : u.hasQuery = false → u.query = []
  nof : u.hasFrag = false → u.fragment = []
  len : (urlText u).length ≤ 4096
theorem host_no {x : Bytes} {p : Int} (h : hostPort (hostText x p) = ((x, p), 0)) : ∀ c ∈ hostText x p, c ≠ 47 ∧ c ≠ 63 ∧ c ≠ 35 ∧ c ≠ 64 := by
  intro c hc
  have h1 := hostPort_bytes h c hc
  have := all256 (p := fun c => !(ldh c || c == 46 || c == 58) || (c != 47 && c != 63 && c != 35 && c != 64)) (by decide +kernel) c
  have h2 : (ldh c || c == 46 || c == 58) = true := by rcases h1 with h | rfl | rfl <;> simp [*]
  rw [h2] at this
  simpa [and_assoc] using this
theorem path_no {s : Bytes} (h : Can inPath s) : ∀ c ∈ s, c ≠ 63 ∧ c ≠ 35 := by
  intro c hc
  have h1 := can_bytes h c hc
  have := all256 (p := fun c => !(keepB inPath c || c == 37 || isHex c) || (c != 63 && c != 35)) (by decide +kernel) c
  have h2 : (keepB inPath c || c == 37 || isHex c) = true := by rcases h1 with h | rfl | h <;> simp [*]
  rw [h2] at this
  simpa using this
theorem query_no {s : Bytes} (h : Can inQuery s) : (35 : UInt8) ∉ s := by
  intro hc
  have := can_bytes h _ hc
  revert this; decide
theorem CanUrl.split {u : Url} (h : CanUrl u) : uriSplit (urlText u) = (urlUri u, 0) := by
  rw [urlText_join]
  refine split_join (urlUri u) rfl rfl rfl (fun c hc => ?_) h.slash (path_no h.path) (query_no h.query) h.noq h.nof (by rw [← urlText_join]; have := h.len; omega)
  have := host_no h.host c hc
  exact ⟨this.1, this.2.1, this.2.2.1⟩
theorem urlText_len (u : Url) : u.path.length ≤ (urlText u).length ∧ (u.hasQuery = true → u.query.length ≤ (urlText u).length) ∧ (u.hasFrag = true → u.fragment.length ≤ (urlText u).length) := by
  unfold urlText urlTarget
  refine ⟨?_, fun h => ?_, fun h => ?_⟩
  · split <;> split <;> (simp; omega)
  · rw [if_pos h]; split <;> (simp; omega)
  · rw [if_pos h]; split <;> (simp; omega)
theorem CanUrl.parse {u : Url} (h : CanUrl u) : urlParse (urlText u) = (u, 0) := by
  obtain ⟨l1, l2, l3⟩ := urlText_len u
  have hl := h.len
  have n1 := can_norm h.path (by omega)
  have n2 : pctNorm inQuery u.query = (u.query, 0) := by
    cases hq : u.hasQuery
    · rw [h.noq hq]; rfl
    · exact can_norm h.query (by have := l2 hq; omega)
  have n3 : pctNorm inQuery u.fragment = (u.fragment, 0) := by
    cases hq : u.hasFrag
    · rw [h.nof hq]; rfl
    · exact can_norm h.frag (by have := l3 hq; omega)
  unfold urlParse
  rw [if_neg (by omega), h.split]
  simp only [ne_eq, not_true, if_false]
  unfold urlOf urlUri
  simp only
  rw [if_neg (by simp [show lower https = https by decide]), if_neg (by simp), if_neg (fun k => (host_no h.host _ k).2.2.2 rfl)]
  unfold urlParts
  simp only
  rw [h.host, n1, n2, n3]
  simp only [ne_eq, not_true, if_false]
  unfold urlEnd
  simp only
  obtain ⟨r, hr⟩ := h.slash
  have e : (if removeDots u.path = [] then [47] else removeDots u.path) = u.path := by
    rw [h.dots, hr, if_neg (by simp)]
  rw [e, if_neg (by show ¬ 4096 < (urlText u).length; omega)]
theorem urlEnd_ok {h : Bytes × Int} {p q f : Bytes} {hq hf : Bool} {u : Url} (k : urlEnd h p q f hq hf = (u, 0)) : u = ⟨h.1, h.2, if removeDots p = [] then [47] else removeDots p, q, f, hq, hf⟩ ∧ (urlText u).length ≤ 4096 := by
  unfold urlEnd at k
  generalize (if removeDots p = [] then [47] else removeDots p) = d at k ⊢
  split at k
  · simp at k
  · obtain rfl := (Prod.mk.inj k).1
    exact ⟨rfl, by omega⟩
theorem removeDots_one : removeDots [47] = [47] := by decide
theorem split_noq (s : Bytes) (h : (uriSplit s).2 = 0) : ((uriSplit s).1.hasQuery = false → (uriSplit s).1.query = []) ∧ ((uriSplit s).1.hasFrag = false → (uriSplit s).1.fragment = []) ∧ ((uriSplit s).1.hasAuthority = true → (uriSplit s).1.path = [] ∨ ∃ r, (uriSplit s).1.path = 47 :: r) := by
  unfold uriSplit at h ⊢
  split
  · rename_i h1; rw [if_pos h1] at h; simp at h
  rename_i h1
  rw [if_neg h1] at h
  have q1 := uncut_no 63 (cutC 35 s).1
  have q2 := uncut_no 35 s
  have ha : ∀ t : Bytes, (authPath t).2.1 = true → (authPath t).2.2 = [] ∨ ∃ r, (authPath t).2.2 = 47 :: r := by
    intro t
    unfold authPath
    split
    · intro _; exact drop_pre _
    · intro h; simp at h
  unfold splitRest at h ⊢
  split
  · rename_i h2
    rw [if_pos h2] at h
    split
    · exact ⟨q1, q2, ha _⟩
    · rename_i h3; rw [if_neg h3] at h; simp at h
  · exact ⟨q1, q2, ha _⟩
theorem can_of_parse {s : Bytes} {u : Url} (h : urlParse s = (u, 0)) : CanUrl u := by
  unfold urlParse at h
  split at h
  · simp at h
  split at h
  · rename_i h1 h2; exact absurd (Prod.mk.inj h).2 h2
  rename_i h1 h2
  have h2 : (uriSplit s).2 = 0 := by simpa using h2
  obtain ⟨q1, q2, q3⟩ := split_noq s h2
  generalize (uriSplit s).1 = r at h q1 q2 q3
  unfold urlOf at h
  split at h
  · simp at h
  split at h
  · simp at h
  split at h
  · simp at h
  rename_i h3 h4 h5
  have hau := q3 (by simpa using h4)
  unfold urlParts at h
  split at h
  · rename_i h6; exact absurd (Prod.mk.inj h).2 h6
  split at h
  · rename_i h6; exact absurd (Prod.mk.inj h).2 h6
  split at h
  · rename_i h6; exact absurd (Prod.mk.inj h).2 h6
  split at h
  · rename_i h6; exact absurd (Prod.mk.inj h).2 h6
  rename_i e1 e2 e3 e4
  obtain ⟨h, hlen⟩ := urlEnd_ok h
  have hp := norm_can (also := inPath) (s := r.path) (by simpa using e2)
  have hq := norm_can (also := inQuery) (s := r.query) (by simpa using e3)
  have hf := norm_can (also := inQuery) (s := r.fragment) (by simpa using e4)
  have hd : removeDots (pctNorm inPath r.path).1 = [] ∨ ∃ q, removeDots (pctNorm inPath r.path).1 = 47 :: q ∧ removeDots (47 :: q) = 47 :: q := by
    have hh : (pctNorm inPath r.path).1 = [] ∨ ∃ q, (pctNorm inPath r.path).1 = 47 :: q := by
      rcases hau with h | ⟨q, h⟩
      · left; rw [h]; rfl
      · right
        have e2' : (pctNorm inPath r.path).2 = 0 := by simpa using e2
        rw [h] at e2' ⊢
        unfold pctNorm at e2' ⊢
        split
        · rename_i hx; rw [if_pos hx] at e2'; simp at e2'
        rename_i hx
        rw [if_neg hx, units_lit (by decide), normU, if_pos (by decide)] at e2'
        rw [units_lit (by decide), normU, if_pos (by decide)]
        unfold comb at e2' ⊢
        split
        · exact ⟨_, rfl⟩
        · rename_i hy; rw [if_neg hy] at e2'; exact absurd e2' hy
    rcases hh with h | ⟨q, h⟩
    · left; rw [h]; rfl
    · right
      rw [h]
      obtain ⟨⟨q', hq'⟩, -⟩ := clean_segs q
      exact ⟨q', hq', by have := removeDots_clean q; rw [hq'] at this; exact this⟩
  have hhp : hostPort r.authority = (((hostPort r.authority).1.1, (hostPort r.authority).1.2), 0) := by
    have : (hostPort r.authority).2 = 0 := by simpa using e1
    rw [← this]
  subst h
  refine ⟨(hostPort_back hhp).1, ?_, ?_, ?_, hq, hf, fun k => by simp only at k ⊢; rw [q1 k]; rfl, fun k => by simp only at k ⊢; rw [q2 k]; rfl, by omega⟩
  · simp only
    rcases hd with hd | ⟨q, hd, -⟩
    · rw [if_pos hd]; exact can_one (by decide) (by decide)
    · rw [if_neg (by rw [hd]; simp)]; exact can_removeDots (by decide) hp
  · simp only
    rcases hd with hd | ⟨q, hd, -⟩
    · rw [if_pos hd]; exact ⟨_, rfl⟩
    · rw [if_neg (by rw [hd]; simp)]; exact ⟨_, hd⟩
  · simp only
    rcases hd with hd | ⟨q, hd, hd2⟩
    · rw [if_pos hd]; exact removeDots_one
    · rw [if_neg (by rw [hd]; simp), hd]; exact hd2
def Url.bare (u : Url) : Url := { u with fragment := [], hasFrag := false }
theorem CanUrl.bare {u : Url} (h : CanUrl u) : CanUrl u.bare :=
  ⟨h.host, h.path, h.slash, h.dots, h.query, can_nil _, h.noq, fun _ => rfl, by
    have := h.len
    unfold urlText at this ⊢
    unfold Url.bare urlTarget at *
    simp at this ⊢
    omega⟩
theorem CanUrl.valid {u : Url} (h : CanUrl u) : urlValid u = true := by unfold urlValid; rw [h.parse]; simp
theorem valid_can {u : Url} (h : urlValid u = true) : CanUrl u := can_of_parse (of_decide_eq_true h)
theorem rel_self {b u : Url} (hb : urlValid b = true) (h : CanUrl u) : urlRelative b (urlText u) = (u, 0) := by
  have e : ∀ x, uriResolve x (urlUri u) = urlUri u := by
    intro x
    unfold uriResolve
    rw [if_pos (show (urlUri u).hasScheme = true from rfl)]
    show ({ urlUri u with path := removeDots u.path } : Uri) = _
    rw [h.dots]; rfl
  unfold urlRelative
  rw [hb, h.split]
  simp only [ne_eq, not_true, if_false, Bool.true_eq_false, e]
  rw [if_neg (by show ¬ lower https ≠ https; simp [show lower https = https by decide]), ← urlText_join, h.parse]
end Wf
/- Plain functions of package head. -/
set_option linter.all false
namespace Wf
open Go Go.RowKit
def blankB (c : UInt8) : Bool := c == 32 || c == 9
def trimB (s : Bytes) : Bytes := ((s.dropWhile blankB).reverse.dropWhile blankB).reverse
def tokB (c : UInt8) : Bool := isAlpha c || isDigit c || [33, 35, 36, 37, 38, 39, 42, 43, 45, 46, 94, 95, 96, 124, 126].contains c
def printB (c : UInt8) : Bool := c == 9 || (decide (32 ≤ c.toNat) && c != 127)
def nameB (s : Bytes) : Bool := !s.isEmpty && s.all tokB
def valueB (s : Bytes) : Bool := s.all printB
def fieldOf (l : Bytes) : Option (Bytes × Bytes) := if (cutC 58 l).2.2 && nameB (cutC 58 l).1 && valueB (cutC 58 l).2.1 then some (lower (cutC 58 l).1, trimB (cutC 58 l).2.1) else none
def headGo : Nat → Bytes → Bool → List (Bytes × Bytes) → List (Bytes × Bytes) × Int
  | 0, _, _, _ => ([], 0)
  | f + 1, rest, more, fs =>
    if more = false then (fs, 0) else if 64 ≤ fs.length then ([], 161) else match fieldOf (Lib.cut rest [13, 10]).1 with
      | none => ([], 180)
      | some x => headGo f (Lib.cut rest [13, 10]).2.1 (Lib.cut rest [13, 10]).2.2 (fs ++ [x])
def httpS : Bytes := [72, 84, 84, 80, 47, 49, 46]
def statusOf (l : Bytes) : Option (Int × Int) :=
  if Lib.hasPrefix l httpS = false ∨ (l.drop 7).length < 6 then none
  else if ((l.drop 7).getD 0 0 != 48 && (l.drop 7).getD 0 0 != 49) || (l.drop 7).getD 1 0 != 32 || (l.drop 7).getD 5 0 != 32 || !valueB ((l.drop 7).drop 6) then none
  else if (numStrict 599 (((l.drop 7).drop 2).take 3)).2 ≠ 0 ∨ (numStrict 599 (((l.drop 7).drop 2).take 3)).1 < 100 then none
  else some (((l.drop 7).getD 0 0).toNat - 48, (numStrict 599 (((l.drop 7).drop 2).take 3)).1)
def headParse (s : Bytes) : (Int × Int × List (Bytes × Bytes)) × Int × Int :=
  if Lib.index (s.take 16384) [13, 10, 13, 10] < 0 then ((0, 0, []), 0, if 16384 < s.length then 142 else 191)
  else match statusOf (Lib.cut (s.take (Lib.index (s.take 16384) [13, 10, 13, 10]).toNat) [13, 10]).1 with
    | none => ((0, 0, []), 0, 180)
    | some (m, n) =>
      if (headGo (s.length + 1) (Lib.cut (s.take (Lib.index (s.take 16384) [13, 10, 13, 10]).toNat) [13, 10]).2.1 (Lib.cut (s.take (Lib.index (s.take 16384) [13, 10, 13, 10]).toNat) [13, 10]).2.2 []).2 = 0
      then ((m, n, (headGo (s.length + 1) (Lib.cut (s.take (Lib.index (s.take 16384) [13, 10, 13, 10]).toNat) [13, 10]).2.1 (Lib.cut (s.take (Lib.index (s.take 16384) [13, 10, 13, 10]).toNat) [13, 10]).2.2 []).1), Lib.index (s.take 16384) [13, 10, 13, 10] + 4, 0)
      else ((0, 0, []), 0, (headGo (s.length + 1) (Lib.cut (s.take (Lib.index (s.take 16384) [13, 10, 13, 10]).toNat) [13, 10]).2.1 (Lib.cut (s.take (Lib.index (s.take 16384) [13, 10, 13, 10]).toNat) [13, 10]).2.2 []).2)
/-! What Format writes. -/
def fieldLine (f : Bytes × Bytes) : Bytes := f.1 ++ [58, 32] ++ f.2
def headText (status : Nat) (fs : List (Bytes × Bytes)) : Bytes := httpS ++ [49, 32] ++ decS status ++ [32, 45] ++ [13, 10] ++ fs.flatMap (fun f => fieldLine f ++ [13, 10]) ++ [13, 10]
def no13 (l : Bytes) : Prop := ∀ c ∈ l, c ≠ 13
theorem index_line {l : Bytes} (h : no13 l) (t : Bytes) : Lib.index (l ++ 13 :: 10 :: t) [13, 10] = l.length := by
  induction l with
  | nil => rw [List.nil_append, Lib.index, if_pos (by rfl)]; rfl
  | cons c l ih =>
    have hc := h c (by simp)
    have ih := ih (fun x hx => h x (by simp [hx]))
    rw [List.cons_append, Lib.index, if_neg (by simp [List.isPrefixOf, Ne.symm hc]), ih]
    rw [if_neg (by simp)]
    simp
theorem cut_line {l : Bytes} (h : no13 l) (t : Bytes) : Lib.cut (l ++ 13 :: 10 :: t) [13, 10] = (l, t, true) := by
  unfold Lib.cut
  rw [index_line h, if_pos (by omega)]
  simp
theorem index_none {l : Bytes} (h : no13 l) : Lib.index l [13, 10] = -1 := by
  induction l with
  | nil => rfl
  | cons c l ih =>
    have hc := h c (by simp)
    rw [Lib.index, if_neg (by simp [List.isPrefixOf, Ne.symm hc]), ih (fun x hx => h x (by simp [hx]))]
    rfl
theorem cut_none {l : Bytes} (h : no13 l) : Lib.cut l [13, 10] = (l, [], false) := by
  unfold Lib.cut
  rw [index_none h, if_neg (by omega)]
theorem idx2_skip {l : Bytes} (h : no13 l) (t : Bytes) : Lib.index (l ++ t) [13, 10, 13, 10] = if Lib.index t [13, 10, 13, 10] = -1 then -1 else l.length + Lib.index t [13, 10, 13, 10] := by
  induction l with
  | nil => simp only [List.nil_append, List.length_nil]; split <;> omega
  | cons c l ih =>
    have hc := h c (by simp)
    rw [List.cons_append, Lib.index, if_neg (by simp [List.isPrefixOf, Ne.symm hc]), ih (fun x hx => h x (by simp [hx]))]
    have hge := Lib.index_ge t [13, 10, 13, 10]
    split
    · rfl
    · rw [if_neg (by simp; omega), List.length_cons]
      omega
theorem idx2_end (t : Bytes) : Lib.index (13 :: 10 :: 13 :: 10 :: t) [13, 10, 13, 10] = 0 := by
  rw [Lib.index, if_pos (by simp [List.isPrefixOf])]
theorem idx2_crlf {c : UInt8} (h : c ≠ 13) (t : Bytes) : Lib.index (13 :: 10 :: c :: t) [13, 10, 13, 10] = if Lib.index (c :: t) [13, 10, 13, 10] = -1 then -1 else 2 + Lib.index (c :: t) [13, 10, 13, 10] := by
  have hge := Lib.index_ge (c :: t) [13, 10, 13, 10]
  have e1 : Lib.index (13 :: 10 :: c :: t) [13, 10, 13, 10] = if Lib.index (10 :: c :: t) [13, 10, 13, 10] == -1 then -1 else Lib.index (10 :: c :: t) [13, 10, 13, 10] + 1 := by
    rw [Lib.index, if_neg (by simp [List.isPrefixOf, Ne.symm h])]
  have e2 : Lib.index (10 :: c :: t) [13, 10, 13, 10] = if Lib.index (c :: t) [13, 10, 13, 10] == -1 then -1 else Lib.index (c :: t) [13, 10, 13, 10] + 1 := by
    rw [Lib.index, if_neg (by simp [List.isPrefixOf])]
  rw [e1, e2]
  generalize Lib.index (c :: t) [13, 10, 13, 10] = x at hge
  by_cases hx : x = -1
  · subst hx; rfl
  · have h1 : (x == -1) = false := by simpa using hx
    have h2 : (x + 1 == -1) = false := by simp; omega
    rw [h1]
    simp only [Bool.false_eq_true, if_false, h2, if_neg hx]
    omega
def LinesOk (ls : List Bytes) : Prop := ∀ l ∈ ls, l ≠ [] ∧ no13 l
theorem idx2_lines : ∀ (ls : List Bytes) (first : Bytes) (t : Bytes), no13 first → LinesOk ls → Lib.index (first ++ 13 :: 10 :: (ls.flatMap (· ++ [13, 10]) ++ 13 :: 10 :: t)) [13, 10, 13, 10] = (first ++ ls.flatMap ([13, 10] ++ ·)).length
  | [], first, t, h, _ => by
    rw [List.flatMap_nil, List.nil_append, idx2_skip h, idx2_end, if_neg (by omega)]
    simp
  | l :: ls, first, t, h, hl => by
    obtain ⟨h0, h1⟩ := hl l (by simp)
    have ih := idx2_lines ls l t h1 (fun x hx => hl x (by simp [hx]))
    obtain ⟨c, r, rfl⟩ : ∃ c r, l = c :: r := by
      cases l with
      | nil => exact absurd rfl h0
      | cons c r => exact ⟨c, r, rfl⟩
    rw [List.flatMap_cons, idx2_skip h]
    have e2 : ((c :: r) ++ [13, 10] ++ ls.flatMap (· ++ [13, 10]) ++ 13 :: 10 :: t) = c :: (r ++ 13 :: 10 :: (ls.flatMap (· ++ [13, 10]) ++ 13 :: 10 :: t)) := by simp
    rw [e2, idx2_crlf (h1 c (by simp))]
    rw [List.cons_append] at ih
    rw [ih, if_neg (by omega), if_neg (by omega)]
    simp
    omega
def FieldOk (f : Bytes × Bytes) : Prop := nameB f.1 = true ∧ lower f.1 = f.1 ∧ valueB f.2 = true ∧ trimB f.2 = f.2
theorem tok_plain : ∀ c : UInt8, tokB c = true → c ≠ 13 ∧ (c == 58) = false := by
  intro c
  have := all256 (p := fun c => !tokB c || (c != 13 && !(c == 58))) (by decide +kernel) c
  intro h
  rw [h] at this
  simpa using this
theorem print_plain : ∀ c : UInt8, printB c = true → c ≠ 13 := by
  intro c
  have := all256 (p := fun c => !printB c || c != 13) (by decide +kernel) c
  intro h
  rw [h] at this
  simpa using this
theorem FieldOk.line {f : Bytes × Bytes} (h : FieldOk f) : fieldLine f ≠ [] ∧ no13 (fieldLine f) := by
  obtain ⟨h1, -, h3, -⟩ := h
  unfold nameB at h1
  rw [Bool.and_eq_true] at h1
  have h1 := List.all_eq_true.1 h1.2
  have h3 := List.all_eq_true.1 h3
  refine ⟨by simp [fieldLine], fun c hc => ?_⟩
  unfold fieldLine at hc
  rcases List.mem_append.1 hc with hc | hc
  · rcases List.mem_append.1 hc with hc | hc
    · exact (tok_plain c (h1 c hc)).1
    · rcases List.mem_cons.1 hc with rfl | hc
      · decide
      · rw [List.mem_singleton.1 hc]; decide
  · exact print_plain c (h3 c hc)
theorem FieldOk.read {f : Bytes × Bytes} (h : FieldOk f) : fieldOf (fieldLine f) = some f := by
  obtain ⟨h1, h2, h3, h4⟩ := h
  have hn := h1
  unfold nameB at h1
  rw [Bool.and_eq_true] at h1
  have hp := List.all_eq_true.1 h1.2
  have e : fieldLine f = f.1 ++ 58 :: 32 :: f.2 := by simp [fieldLine]
  have hpre : pre (· == 58) (f.1 ++ 58 :: 32 :: f.2) = f.1.length := by
    rw [pre_append (fun c hc => (tok_plain c (hp c hc)).2), pre_cons]
    simp
  have hc : cutC 58 (fieldLine f) = (f.1, 32 :: f.2, true) := by
    unfold cutC
    rw [e, hpre, if_pos (by simp)]
    simp
  have ht : trimB (32 :: f.2) = f.2 := by
    have : trimB (32 :: f.2) = trimB f.2 := by unfold trimB; rw [List.dropWhile_cons, if_pos (by decide)]
    rw [this, h4]
  have hv : valueB (32 :: f.2) = true := by unfold valueB at h3 ⊢; rw [List.all_cons, h3]; rfl
  unfold fieldOf
  rw [hc]
  simp only [hn, hv, Bool.and_self, if_true, h2, ht]
theorem headGo_lines : ∀ (fs : List (Bytes × Bytes)) (f0 : Bytes × Bytes) (acc : List (Bytes × Bytes)) (n : Nat), (∀ f ∈ f0 :: fs, FieldOk f) → fs.length + 1 < n → acc.length + fs.length + 1 ≤ 64 →
    headGo n (fieldLine f0 ++ fs.flatMap (fun f => 13 :: 10 :: fieldLine f)) true acc = (acc ++ f0 :: fs, 0)
  | [], f0, acc, n, hf, hn, ha => by
    obtain ⟨n, rfl⟩ : ∃ k, n = k + 2 := ⟨n - 2, by omega⟩
    have h0 := hf f0 (by simp)
    rw [List.flatMap_nil, List.append_nil, headGo, if_neg (by simp), if_neg (by omega), cut_none h0.line.2, h0.read]
    simp only
    rw [headGo, if_pos rfl]
  | f1 :: fs, f0, acc, n, hf, hn, ha => by
    obtain ⟨n, rfl⟩ : ∃ k, n = k + 1 := ⟨n - 1, by omega⟩
    have h0 := hf f0 (by simp)
    rw [List.flatMap_cons, headGo, if_neg (by simp), if_neg (by omega)]
    have e : fieldLine f0 ++ ((13 :: 10 :: fieldLine f1) ++ fs.flatMap fun f => 13 :: 10 :: fieldLine f) = fieldLine f0 ++ 13 :: 10 :: (fieldLine f1 ++ fs.flatMap fun f => 13 :: 10 :: fieldLine f) := by simp
    rw [e, cut_line h0.line.2, h0.read]
    simp only
    simp only [List.length_cons] at hn ha
    rw [headGo_lines fs f1 (acc ++ [f0]) n (fun f hf' => hf f (List.mem_cons_of_mem _ hf')) (by omega) (by simp; omega)]
    simp
def firstLine (st : Nat) : Bytes := httpS ++ [49, 32] ++ decS st ++ [32, 45]
def dec3 (st : Nat) : Bytes := [dig (st / 100), dig (st / 10 % 10), dig (st % 10)]
theorem decS_three {st : Nat} (h1 : 100 ≤ st) (h2 : st < 1000) : decS st = dec3 st := by
  rw [decS_big (by omega), decS_big (by omega), decS_small (by omega)]
  unfold dec3
  rw [show st / 10 / 10 = st / 100 by omega]
  rfl
theorem status_all : ∀ st : Nat, st < 600 → 100 ≤ st → statusOf (httpS ++ [49, 32] ++ dec3 st ++ [32, 45]) = some (1, (st : Int)) := by decide +kernel
theorem first_status {st : Nat} (h1 : 100 ≤ st) (h2 : st < 600) : statusOf (firstLine st) = some (1, (st : Int)) := by
  unfold firstLine
  rw [decS_three h1 (by omega)]
  exact status_all st h2 h1
theorem first_no13 (st : Nat) : no13 (firstLine st) := by
  intro c hc
  unfold firstLine at hc
  rcases List.mem_append.1 hc with hc | hc
  · rcases List.mem_append.1 hc with hc | hc
    · have : ∀ c ∈ httpS ++ [49, 32], c ≠ 13 := by decide
      exact this c hc
    · have h := List.all_eq_true.1 (decS_back st st st (Nat.le_refl _) (Nat.le_refl _)).2.1 c hc
      rintro rfl
      exact absurd h (by decide)
  · have : ∀ c ∈ ([32, 45] : Bytes), c ≠ 13 := by decide
    exact this c hc
theorem headText_eq (st : Nat) (fs : List (Bytes × Bytes)) (t : Bytes) : headText st fs ++ t = firstLine st ++ 13 :: 10 :: ((fs.map fieldLine).flatMap (· ++ [13, 10]) ++ 13 :: 10 :: t) := by
  unfold headText firstLine
  rw [List.flatMap_map]
  simp
theorem lines_turn : ∀ (ls : List Bytes), [13, 10] ++ ls.flatMap (· ++ [13, 10]) = ls.flatMap ([13, 10] ++ ·) ++ [13, 10]
  | [] => rfl
  | l :: ls => by
    have ih := lines_turn ls
    rw [List.flatMap_cons, List.flatMap_cons]
    have e : [13, 10] ++ (l ++ [13, 10] ++ ls.flatMap (· ++ [13, 10])) = [13, 10] ++ l ++ ([13, 10] ++ ls.flatMap (· ++ [13, 10])) := by simp
    rw [e, ih]
    simp
theorem headText_cut (st : Nat) (fs : List (Bytes × Bytes)) (t : Bytes) : headText st fs ++ t = (firstLine st ++ (fs.map fieldLine).flatMap ([13, 10] ++ ·)) ++ 13 :: 10 :: 13 :: 10 :: t := by
  rw [headText_eq]
  have e : firstLine st ++ 13 :: 10 :: ((fs.map fieldLine).flatMap (· ++ [13, 10]) ++ 13 :: 10 :: t) = firstLine st ++ ([13, 10] ++ (fs.map fieldLine).flatMap (· ++ [13, 10])) ++ 13 :: 10 :: t := by simp
  rw [e, lines_turn]
  simp
theorem headText_len (st : Nat) (fs : List (Bytes × Bytes)) : (headText st fs).length = (firstLine st ++ (fs.map fieldLine).flatMap ([13, 10] ++ ·)).length + 4 := by
  have := congrArg List.length (headText_cut st fs [])
  rw [List.append_nil] at this
  rw [this, List.length_append]
  rfl
theorem headParse_format {st : Nat} (h1 : 100 ≤ st) (h2 : st < 600) (fs : List (Bytes × Bytes)) (hf : ∀ f ∈ fs, FieldOk f) (hn : fs.length ≤ 64) (hl : (headText st fs).length ≤ 16384) (t : Bytes) :
    headParse (headText st fs ++ t) = ((1, (st : Int), fs), ((headText st fs).length : Int), 0) := by
  have hlo : LinesOk (fs.map fieldLine) := fun l h => by
    obtain ⟨f, hm, rfl⟩ := List.mem_map.1 h
    exact (hf f hm).line
  have hlen := headText_len st fs
  have hi : Lib.index ((headText st fs ++ t).take 16384) [13, 10, 13, 10] = (firstLine st ++ (fs.map fieldLine).flatMap ([13, 10] ++ ·)).length := by
    rw [List.take_append, List.take_of_length_le hl, headText_eq]
    exact idx2_lines _ _ _ (first_no13 st) hlo
  have ht : (headText st fs ++ t).take (firstLine st ++ (fs.map fieldLine).flatMap ([13, 10] ++ ·)).length = firstLine st ++ (fs.map fieldLine).flatMap ([13, 10] ++ ·) := by
    rw [headText_cut, List.take_left]
  unfold headParse
  rw [hi, if_neg (by omega), Int.toNat_natCast, ht]
  cases fs with
  | nil =>
    rw [List.map_nil, List.flatMap_nil, List.append_nil, cut_none (first_no13 st), first_status h1 h2]
    simp only
    rw [headGo, if_pos rfl, if_pos rfl]
    simp only [List.map_nil, List.flatMap_nil, List.append_nil] at hlen
    rw [hlen]
    rfl
  | cons f0 fs =>
    have e : firstLine st ++ ((f0 :: fs).map fieldLine).flatMap ([13, 10] ++ ·) = firstLine st ++ 13 :: 10 :: (fieldLine f0 ++ fs.flatMap fun f => 13 :: 10 :: fieldLine f) := by
      rw [List.map_cons, List.flatMap_cons, List.flatMap_map]
      simp
    have hg := headGo_lines fs f0 [] ((headText st (f0 :: fs) ++ t).length + 1) hf (by
      rw [List.length_append, hlen, e]
      have : fs.length ≤ (fs.flatMap fun f => 13 :: 10 :: fieldLine f).length := by
        clear e hlen hi ht hlo hl hn hf
        induction fs with
        | nil => simp
        | cons f fs ih => rw [List.flatMap_cons, List.length_append, List.length_cons]; simp only [List.length_cons]; omega
      simp only [List.length_append, List.length_cons]
      omega) (by simp at hn ⊢; omega)
    rw [e, cut_line (first_no13 st), first_status h1 h2]
    simp only
    rw [hg, if_pos rfl]
    rw [hlen, e]
    simp
end Wf
