/- A calculus of conditions: worlds, blocks, operations, code. -/
import Derived.Test.YtkebjbphjnpjeaaVc
import Derived.Laws.CopyRow
set_option linter.all false
namespace Vc
open Go Go.RowKit Wf

/-- What a call may do: blocks of 'own' may be written, new blocks may come. -/
structure FrW (own : Nat → Prop) (w w' : World) : Prop where
  os : w'.os = w.os
  tape : w'.tape = w.tape
  output : w'.output = w.output
  size : w.heap.size ≤ w'.heap.size
  block : ∀ k, k < w.heap.size → ¬ own k → w'.heap[k]? = w.heap[k]?
theorem FrW.refl (own : Nat → Prop) (w : World) : FrW own w w := ⟨rfl, rfl, rfl, Nat.le_refl _, fun _ _ _ => rfl⟩
theorem FrW.trans {own : Nat → Prop} {a b c : World} (h : FrW own a b) (k : FrW own b c) : FrW own a c :=
  ⟨k.os.trans h.os, k.tape.trans h.tape, k.output.trans h.output, Nat.le_trans h.size k.size, fun i hi hn => (k.block i (Nat.lt_of_lt_of_le hi h.size) hn).trans (h.block i hi hn)⟩
theorem FrW.of_below {own : Nat → Prop} {w w' : World} (h : Below w.heap.size w w') : FrW own w w' := ⟨h.os, h.tape, h.output, h.size, fun k hk _ => h.block k hk⟩
theorem FrW.below {w w' : World} (h : FrW (fun _ => False) w w') : Below w.heap.size w w' := ⟨h.os, h.tape, h.output, h.size, fun k hk => h.block k hk (by simp)⟩

/-- A resource of another kind: what it says of its block, on a footprint. -/
structure Rsc where
  holds : Bt → (Nat → Prop) → World → Prop
  stays : ∀ b fp w w', holds b fp w → (∀ k, fp k → w'.heap[k]? = w.heap[k]?) → holds b fp w'
/-- What the state knows: a block that begins with some cells; a slice with its cells; another thing; nothing any more. -/
inductive Res where
  | cells (c : List SV) (T : TypeId) (mine : Bool)
  | own (c : List SV) (e : TypeId) (s n : Nat) (mine : Bool)
  | ext (R : Rsc)
  | gone
def Res.mine : Res → Bool
  | .cells _ _ m => m
  | .own _ _ _ _ m => m
  | .ext _ => true
  | .gone => false
/-- Values in the cells of a block, from an offset on. -/
def Lies (w : World) (b off : Nat) (vs : List Value) : Prop := ∀ (j : Nat) (v : Value), vs[j]? = some v → w.cell? ⟨b, off + j, none⟩ = some v
/-- A block that begins with some values, which may be written. -/
def Head (w : World) (b : Nat) (T : TypeId) (vs rest : List Value) (fz : Nat × Nat) : Prop := w.heap[b]? = some (.cells (vs ++ rest).toArray T fz) ∧ (vs.length ≤ fz.1 ∨ fz.2 ≤ fz.1)
theorem Head.lies {w : World} {b : Nat} {T : TypeId} {vs rest : List Value} {fz : Nat × Nat} (h : Head w b T vs rest fz) : Lies w b 0 vs := fun j v hv => by
  have hj : j < vs.length := (List.getElem?_eq_some_iff.1 hv).1
  simp only [World.cell?, h.1, Nat.zero_add]
  simp only [Option.isSome_none, Bool.false_eq_true, if_false, List.getElem?_toArray]
  rw [List.getElem?_append_left hj]
  exact hv
def Holds (β : Nat → Bt) (t : Bt) (fp : Nat → Prop) (w : World) : Res → Prop
  | .cells c T _ => t.off = 0 ∧ (∃ rest fz, Head w t.blk T (c.map (conc β)) rest fz ∧ rest = []) ∧ ∀ k, fp k ↔ k = t.blk
  | .own c e s n m => (t.cap = 0 ∧ n = 0 ∧ c = [] ∧ ∀ k, ¬ fp k) ∨
      (t.cap ≠ 0 ∧ n ≤ t.cap - 1 ∧ t.cap - 1 ≤ maxLen ∧ c.length = n * s ∧ Lies w t.blk t.off (c.map (conc β)) ∧ (m = true → t.off = 0 ∧ ∃ rest fz, Head w t.blk e (c.map (conc β)) rest fz ∧ (c.length + rest.length ≤ fz.1 ∨ fz.2 ≤ fz.1) ∧ c.length + rest.length = (t.cap - 1) * s) ∧ ∀ k, fp k ↔ k = t.blk)
  | .ext R => R.holds t fp w
  | .gone => ∀ k, ¬ fp k
theorem Lies.stays {w w' : World} {b off : Nat} {vs : List Value} (h : Lies w b off vs) (hk : w'.heap[b]? = w.heap[b]?) : Lies w' b off vs := fun j v hv =>
  (World.cell?_of_block (w := w) (a := ⟨b, off + j, none⟩) hk).trans (h j v hv)
theorem Holds.stays {β : Nat → Bt} {t : Bt} {fp : Nat → Prop} {w w' : World} {r : Res} (h : Holds β t fp w r) (hk : ∀ k, fp k → w'.heap[k]? = w.heap[k]?) : Holds β t fp w' r := by
  cases r with
  | cells c T m =>
    obtain ⟨h0, ⟨rest, fz, ⟨h1, h2⟩, hr⟩, h3⟩ := h
    exact ⟨h0, ⟨rest, fz, ⟨(hk _ ((h3 _).2 rfl)).trans h1, h2⟩, hr⟩, h3⟩
  | own c e s n m =>
    rcases h with h | ⟨h1, h2, h3, h4, h5, h6, h7⟩
    · exact .inl h
    · have e := hk _ ((h7 _).2 rfl)
      exact .inr ⟨h1, h2, h3, h4, h5.stays e, fun hm => by
        obtain ⟨h8, rest, fz, h9, h10⟩ := h6 hm
        exact ⟨h8, rest, fz, ⟨e.trans h9.1, h9.2⟩, h10⟩, h7⟩
  | ext R => exact R.stays _ _ _ _ h hk
  | gone => exact h
structure BxOK (β : Nat → Bt) (fp : Nat → Nat → Prop) (w : World) (bs : List Res) : Prop where
  holds : ∀ i r, bs[i]? = some r → Holds β (β i) (fp i) w r
  lt : ∀ i r, bs[i]? = some r → ∀ k, fp i k → k < w.heap.size
  sep : ∀ i j r r', bs[i]? = some r → bs[j]? = some r' → i ≠ j → (r.mine = true ∨ r'.mine = true) → ∀ k, fp i k → ¬ fp j k
structure St where
  t : List (Nat × SV)
  b : List Res
/-- What is fixed in a walk: the program, its types, the frame's size, the world at the start, the blocks of others that may be written, what is known of the program's variables. -/
structure Cx where
  P : Program
  Γ : TypeId → Option TI
  E : World → Prop
  G : Nat
  esize : ∀ w, E w → G ≤ w.heap.size
  estays : ∀ w w', E w → (∀ k, k < G → w'.heap[k]? = w.heap[k]?) → w.heap.size ≤ w'.heap.size → E w'
  gok : GOK P Γ
  mixed : P.follows .mixedOrders = true
structure Fx (V : Cx) where
  n : Nat
  w0 : World
  own : Nat → Prop
  e0 : V.E w0
  ownG : ∀ k, own k → V.G ≤ k
  β0 : Nat → Bt
  bs0 : List Res
def Agr (m : Nat) (β β' : Nat → Bt) : Prop := ∀ i, i < m → β i = β' i
theorem Agr.refl (m : Nat) (β : Nat → Bt) : Agr m β β := fun _ _ => rfl
/-- The blocks of the start keep their numbers. -/
structure Ini {V : Cx} (F : Fx V) (β : Nat → Bt) (bs : List Res) : Prop where
  agr : Agr F.bs0.length F.β0 β
  len : F.bs0.length ≤ bs.length
/-- The blocks and the world. -/
structure Wd {V : Cx} (F : Fx V) (β : Nat → Bt) (fp : Nat → Nat → Prop) (bs : List Res) (w : World) : Prop where
  fr : FrW F.own F.w0 w
  bx : ∀ β', Agr bs.length β β' → BxOK β' fp w bs
  mine : ∀ i r, bs[i]? = some r → r.mine = true → ∀ k, fp i k → F.w0.heap.size ≤ k ∨ F.own k
  ini : Ini F β bs
theorem Wd.env {V : Cx} {F : Fx V} {β : Nat → Bt} {fp : Nat → Nat → Prop} {bs : List Res} {w : World} (h : Wd F β fp bs w) : V.E w :=
  V.estays F.w0 w F.e0 (fun k hk => h.fr.block k (Nat.lt_of_lt_of_le hk (V.esize _ F.e0)) (fun ho => by have := F.ownG k ho; omega)) h.fr.size
theorem Wd.below {V : Cx} {F : Fx V} {β : Nat → Bt} {fp : Nat → Nat → Prop} {bs : List Res} {w w' : World} (h : Wd F β fp bs w) (hb : Below w.heap.size w w') : Wd F β fp bs w' :=
  ⟨h.fr.trans (FrW.of_below hb), fun β' hβ => ⟨fun i r hi => ((h.bx β' hβ).holds i r hi).stays (fun k hk => hb.block k ((h.bx β' hβ).lt i r hi k hk)), fun i r hi k hk => Nat.lt_of_lt_of_le ((h.bx β' hβ).lt i r hi k hk) hb.size, (h.bx β' hβ).sep⟩, h.mine, h.ini⟩
theorem Wd.drew {V : Cx} {F : Fx V} {β : Nat → Bt} {fp : Nat → Nat → Prop} {bs : List Res} {w : World} (h : Wd F β fp bs w) : Wd F β fp bs { w with drawn := w.drawn + 1 } :=
  h.below (Below.drew (Below.refl _ _))
structure Fm {V : Cx} (F : Fx V) (β : Nat → Bt) (m : Nat) (t : List (Nat × SV)) (a : Act) : Prop where
  ok : ∀ β', Agr m β β' → FrOK β' F.n t a
/-- The state, the frame and the world fit. -/
def Rel {V : Cx} (F : Fx V) (σ : St) (a : Act) (w : World) : Prop := ∃ β fp, Fm F β σ.b.length σ.t a ∧ Wd F β fp σ.b w
/-- The condition behind a piece of code, as a condition on frame and world. -/
def Qof {V : Cx} (F : Fx V) (K : Exit → St → Prop) : Exit → Act → World → Prop := fun e a w => ∃ σ, K e σ ∧ Rel F σ a w
theorem Fm.put {V : Cx} {F : Fx V} {β : Nat → Bt} {m : Nat} {t : List (Nat × SV)} {a : Act} (h : Fm F β m t a) {dst : Option Tmp} (hd : fits F.n dst = true) {x : SV} {v : Value} (hv : ∀ β', Agr m β β' → v = conc β' x) : Fm F β m (put dst x t) (a.put dst v) :=
  ⟨fun β' hβ => by rw [hv β' hβ]; exact (h.ok β' hβ).put' hd x⟩
theorem Fm.more {V : Cx} {F : Fx V} {β β₂ : Nat → Bt} {m m₂ : Nat} {t : List (Nat × SV)} {a : Act} (h : Fm F β m t a) (hm : m ≤ m₂) (hβ : Agr m β β₂) : Fm F β₂ m₂ t a :=
  ⟨fun β' hβ' => h.ok β' (fun i hi => (hβ i hi).trans (hβ' i (Nat.lt_of_lt_of_le hi hm)))⟩

/-- Values without places. -/
def flat : SV → Bool
  | .p _ _ => false
  | .o _ _ => false
  | .agg l => flatL l
  | .tup l => flatL l
  | .fn _ l => flatL l
  | _ => true
where flatL : List SV → Bool
  | [] => true
  | x :: r => flat x && flatL r
mutual
theorem conc_flat (x : SV) (h : flat x = true) (β β' : Nat → Bt) : conc β x = conc β' x := by
  cases x <;> simp only [flat, Bool.false_eq_true] at h <;> simp only [conc]
  · rw [concL_flat _ h β β']
  · rw [concL_flat _ h β β']
  · rw [concL_flat _ h β β']
theorem concL_flat (l : List SV) (h : flat.flatL l = true) (β β' : Nat → Bt) : concL β l = concL β' l := by
  cases l with
  | nil => rfl
  | cons x r =>
    simp only [flat.flatL, Bool.and_eq_true] at h
    simp only [concL]
    rw [conc_flat x h.1 β β', concL_flat r h.2 β β']
end
/-- A call of the function enters its body. -/
def Enters (V : Cx) (f : FuncId) : Prop := ∀ args w, (callFunc f args).run V.P w = Result.ok (.enter f args) w
/-- A call that computes: what it returns; it may lay blocks, and leaves what was there. -/
structure PC (V : Cx) (f : FuncId) (args : List SV) (r : SV) : Prop where
  enters : Enters V f
  fa : flat.flatL args = true
  fr : flat r = true
  calls : ∀ w, V.E w → Calls V.P f (concL bt0 args).toArray w fun e w' => e = .returned (conc bt0 r) ∧ Below w.heap.size w w'
/-- A call that may write into blocks of the caller. -/
def SC (V : Cx) (f : FuncId) (args : List SV) (bs : List Res) (R : SV → List Res → Prop) : Prop := Enters V f ∧
  ∀ β fp w, (∀ β', Agr bs.length β β' → BxOK β' fp w bs) → (∀ i r, bs[i]? = some r → r.mine = true → ∀ k, fp i k → V.G ≤ k) → V.E w → Calls V.P f (concL β args).toArray w fun e w' =>
    ∃ r bs' β₂ fp₂, R r bs' ∧ Agr bs.length β β₂ ∧ bs.length ≤ bs'.length ∧ (∀ β', Agr bs'.length β₂ β' → e = .returned (conc β' r) ∧ BxOK β' fp₂ w' bs') ∧
      FrW (fun k => ∃ i r, bs[i]? = some r ∧ r.mine = true ∧ fp i k) w w' ∧
      (∀ i r', bs'[i]? = some r' → r'.mine = true → ∀ k, fp₂ i k → w.heap.size ≤ k ∨ ∃ j r, bs[j]? = some r ∧ r.mine = true ∧ fp j k)

/-- One cell. -/
def one : SV → Bool
  | .agg _ => false
  | .tup _ => false
  | .v _ => false
  | _ => true
def getB (bs : List Res) (i : Nat) : Option (List SV × TypeId × Bool) := match bs[i]? with
  | some (.cells c T m) => some (c, T, m)
  | some (.own c e _ _ m) => some (c, e, m)
  | _ => none
def setR (c : List SV) : Res → Res
  | .cells _ T m => .cells c T m
  | .own _ e s n m => .own c e s n m
  | r => r
def setB (bs : List Res) (i : Nat) (c : List SV) : List Res := match bs[i]? with
  | some r => bs.set i (setR c r)
  | none => bs
/-- Parts laid into the cells of a struct. -/
def fillS (fs : List (Nat × TypeId)) (Γ : TypeId → Option TI) : List (Nat × SV) → List SV → Option (List SV)
  | [], c => some c
  | (i, x) :: r, c => match fs[i]? with
    | some (off, T) => match sz Γ T with
      | some n => if isV x = false ∧ (cells x).length = n ∧ off + n ≤ c.length then fillS fs Γ r (splice c off (cells x)) else none
      | none => none
    | none => none
/-- Operations that touch memory: the state behind each. -/
def vcM (V : Cx) (n : Nat) (dst : Option Tmp) (op : Op) (σ : St) (K : St → Prop) : Prop :=
  match op with
  | .alloc T => match V.Γ T with
    | some ti => K ⟨put dst (.p σ.b.length 0) σ.t, σ.b ++ [.cells ti.zero T true]⟩
    | none => False
  | .box T x => match ev σ.t x with
    | some x => isV x = false ∧ K ⟨put dst (.p σ.b.length 0) σ.t, σ.b ++ [.cells (cells x) T true]⟩
    | none => False
  | .load T x => match ev σ.t x with
    | some (.p i off) => match getB σ.b i with
      | some (c, _, _) => match V.Γ T with
        | some ti => off + ti.size ≤ c.length ∧ (match partS ti.agg off ti.size c with
          | some x => K ⟨put dst x σ.t, σ.b⟩
          | none => False)
        | none => False
      | none => False
    | _ => False
  | .store T x y => match ev σ.t x with
    | some (.p i off) => match ev σ.t y with
      | some y => match getB σ.b i with
        | some (c, _, m) => match sz V.Γ T with
          | some s => (m = true ∧ (cells y).all one = true ∧ (cells y).length = s ∧ off + s ≤ c.length) ∧ K ⟨put dst (.v undef) σ.t, setB σ.b i (splice c off (cells y))⟩
          | none => False
        | none => False
      | none => False
    | _ => False
  | .build T ps => match V.Γ T with
    | some ti => match ti.kind with
      | .struct fs => match evParts σ.t ps.toList with
        | some ps => match fillS fs V.Γ ps ti.zero with
          | some c => K ⟨put dst (.agg c) σ.t, σ.b⟩
          | none => False
        | none => False
      | _ => False
    | none => False
  | .nilCheck x => match ev σ.t x with
    | some (.p i off) => K ⟨put dst (.p i off) σ.t, σ.b⟩
    | some (.fn f l) => (match f with | .func _ => True | _ => False) ∧ K ⟨put dst (.fn f l) σ.t, σ.b⟩
    | _ => False
  | .call ⟨.value f, args, _⟩ => match ev σ.t f with
    | some (.fn (.func f) caps) => match evs σ.t args.toList with
      | some l => (∃ r, PC V f (l ++ caps) r ∧ K ⟨put dst r σ.t, σ.b⟩) ∨ (∃ R, SC V f (l ++ caps) σ.b R ∧ ∀ r bs, R r bs → K ⟨put dst r σ.t, bs⟩)
      | none => False
    | _ => False
  | _ => False
def vcO (V : Cx) (n : Nat) (dst : Option Tmp) (op : Op) (σ : St) (K : St → Prop) : Prop :=
  fits n dst = true ∧ match pv V.Γ σ.t op with
  | some (c, x) => c ∧ K ⟨put dst x σ.t, σ.b⟩
  | none => vcM V n dst op σ K
/-- The guard's value. -/
def gval (dsts : List (Option Tmp)) (t : List (Nat × SV)) (j : Nat) : Option (Nat × Bool) := match dsts[j]? with
  | some (some d) => match lk d t with
    | some (.bool b) => some (d, b)
    | _ => none
  | _ => none
def vcL (V : Cx) (n : Nat) (dsts : List (Option Tmp)) : List Oper → St → (St → Prop) → Prop
  | [], σ, K => K σ
  | ⟨dst, op, _, _, _, none⟩ :: r, σ, K => vcO V n dst op σ fun σ => vcL V n dsts r σ K
  | ⟨dst, op, _, _, _, some (j, want)⟩ :: r, σ, K => match gval dsts σ.t j with
    | some (d, b) => fits n (some d) = true ∧ fits n dst = true ∧ (b = want → vcO V n dst op ⟨(d, .bool want) :: σ.t, σ.b⟩ fun σ => vcL V n dsts r σ K) ∧ (b = !want → vcL V n dsts r ⟨put dst (.v undef) ((d, .bool (!want)) :: σ.t), σ.b⟩ K)
    | none => False
/-- A piece of code. -/
def vcC (V : Cx) (n : Nat) : Code → St → (Exit → St → Prop) → Prop
  | .skip, σ, K => K .normal σ
  | .region _ ops draw, σ, K => draw = false ∧ vcL V n (ops.toList.map (·.dst)) ops.toList σ (K .normal)
  | .seq x y, σ, K => vcC V n x σ fun e σ => match e with
    | .normal => vcC V n y σ K
    | e => K e σ
  | .cond c x y, σ, K => match ev σ.t c with
    | some (.bool b) => (b = true → vcC V n x σ K) ∧ (b = false → vcC V n y σ K)
    | _ => False
  | .block id x, σ, K => vcC V n x σ fun e σ => match e with
    | .exit id' => if id' = id then K .normal σ else K (.exit id') σ
    | e => K e σ
  | .loop x, σ, K => ∃ (I : St → Prop) (μ : St → Nat), I σ ∧ ∀ σ', I σ' → vcC V n x σ' fun e σ => match e with
    | .normal => I σ ∧ μ σ < μ σ'
    | e => K e σ
  | .exit id, σ, K => K (.exit id) σ
  | .ret, σ, K => K .ret σ
  | _, _, _ => False
end Vc
