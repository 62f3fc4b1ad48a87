/- Texts of this claim,laid together: Vc7,Frame,Laid,ProgF,VcB,SlRows,OpenT,IdxAny,Ascii,Bytes,Ascii2,Lib,Comm,TreeP,Pick,TreeA,Tj,PickP. -/
import Derived.Laws.RangeString
import Derived.Test.YtejfjmcjicpodaaGreatDoorRows
import Derived.WalkKit
import Derived.ProofKit
import Derived.OpenShut
import Derived.Shelf.Vars
import Derived.ShutString
import Derived.WideKeyArgs
import Derived.ChangeSame
import Derived.Deep.DeepHandedRow
import Derived.Deep.DeepLaidRun
import Derived.Lib.LaidTab
import Derived.Lib.SmallJoins
import Derived.SizedLaws
import Derived.Test.YtejfjmcjicpodaaGreatDoorCards
import Derived.Test.YtejfjmcjicpodaaGreatDoorTie
import Derived.Deep.Slices
import Derived.Lib.OthersKept
import Derived.Deep.QuietTactic
import Derived.BigQuiet
import Derived.Test.YtejfjmcjicpodaaGreatDoorProg
import Derived.Lib.ConvBytes
import Derived.Laws.IdiomStrings
import Derived.Test.YtejfjmcjicpodaaGreatDoorD2
/- A calculus of conditions: whole functions,drawn regions,and the soundness of the reckoned conditions. -/
set_option linter.all false
namespace Vc
open Go Go.RowKit Wf
inductive StepR where
  | go (c : Prop) (σ : St)
  | call (f : FuncId) (args : List SV) (dst : Option Tmp) (σ : St)
  | bad
def goR (dst : Option Tmp) (σ : St) : Option (Prop × SV) → StepR → StepR
  | some (c,x),_ => .go c ⟨put dst x σ.t,σ.b⟩
  | none,m => m
def XC (V : Cx) (dst : Option Tmp) (T : TypeId) (σ : St) : StepR := match V.Γ T with
  | some ti => .go True ⟨put dst (.p σ.b.length 0) σ.t,σ.b ++ [.cells ti.zero T true]⟩
  | none => .bad
def sBox (dst : Option Tmp) (T : TypeId) (x : Operand) (σ : St) : StepR := match ev σ.t x with
  | some x => .go (isV x = false) ⟨put dst (.p σ.b.length 0) σ.t,σ.b ++ [.cells (cells x) T true]⟩
  | none => .bad
def XU (V : Cx) (dst : Option Tmp) (T : TypeId) (x : Operand) (σ : St) : StepR := match ev σ.t x with
  | some (.p i off) => match getB σ.b i with
    | some (c,_,_) => match V.Γ T with
      | some ti => match XM ti.agg off ti.size c with
        | some x => .go (off + ti.size ≤ c.length) ⟨put dst x σ.t,σ.b⟩
        | none => .bad
      | none => .bad
    | none => .bad
  | _ => .bad
def XH (V : Cx) (dst : Option Tmp) (T : TypeId) (x y : Operand) (σ : St) : StepR := match ev σ.t x with
  | some (.p i off) => match ev σ.t y with
    | some y => match getB σ.b i with
      | some (c,_,m) => match sz V.Γ T with
        | some s => .go (m = true ∧ (cells y).all one = true ∧ (cells y).length = s ∧ off + s ≤ c.length) ⟨put dst (.v undef) σ.t,setB σ.b i (Xs c off (cells y))⟩
        | none => .bad
      | none => .bad
    | none => .bad
  | _ => .bad
def Xr (V : Cx) (dst : Option Tmp) (T : TypeId) (ps : List (Nat × Operand)) (σ : St) : StepR := match V.Γ T with
  | some ti => match ti.kind with
    | .struct fs => match Xl σ.t ps with
      | some ps => match XZ fs V.Γ ps ti.zero with
        | some c => .go True ⟨put dst (.agg c) σ.t,σ.b⟩
        | none => .bad
      | none => .bad
    | _ => .bad
  | none => .bad
def Xt : Fn → Bool
  | .func _ => true
  | _ => false
def sNil (dst : Option Tmp) (x : Operand) (σ : St) : StepR := match ev σ.t x with
  | some (.p i off) => .go True ⟨put dst (.p i off) σ.t,σ.b⟩
  | some (.fn f l) => .go (Xt f = true) ⟨put dst (.fn f l) σ.t,σ.b⟩
  | some (.mv f l) => .go True ⟨put dst (.mv f l) σ.t,σ.b⟩
  | _ => .bad
def XL (dst : Option Tmp) (f : Operand) (args : List Operand) (σ : St) : StepR := match ev σ.t f with
  | some (.fn (.func f) caps) => match evs σ.t args with
    | some l => .call f (l ++ caps) dst σ
    | none => .bad
  | some (.mv f first) => match evs σ.t args with
    | some l => .call f (first ++ l) dst σ
    | none => .bad
  | _ => .bad
def sInvoke (V : Cx) (dst : Option Tmp) (rc : Operand) (name : String) (args : List Operand) (σ : St) : StepR := match ev σ.t rc with
  | some (.ifc T x) => match V.M T name with
    | some f => match evs σ.t args with
      | some l => .call f (x :: l) dst σ
      | none => .bad
    | none => .bad
  | _ => .bad
def iterR (l : List UInt8) (p : Nat) : Rsc where
  holds t fp w := t.off = 0 ∧ w.heap[t.blk]? = some (.stringIter ⟨List.toArray l⟩ p) ∧ ∀ k,fp k ↔ k = t.blk
  stays b fp w w' := by
    rintro ⟨h0,h1,h2⟩ hk
    exact ⟨h0,(hk _ ((h2 _).2 rfl)).trans h1,h2⟩
  it := some (l,p)
  itOk l' p' b fp w h k := by cases h; exact k
theorem iterR_it (l : List UInt8) (p : Nat) : (iterR l p).it = some (l,p) := rfl
def itOf : Option Res → Option (List UInt8 × Nat)
  | some (.ext R) => R.it
  | _ => none
def nextV (dst : Option Tmp) (σ : St) (i : Nat) (l : List UInt8) (p : Nat) : Bool → StepR
  | true => .go ((l.getD p 0).toNat < 128) ⟨put dst (.tup [.bool true,.int .i64 p,.int .i32 (l.getD p 0).toNat]) σ.t,σ.b.set i (.ext (iterR l (p + 1)))⟩
  | false => .go True ⟨put dst (.tup [.bool false]) σ.t,σ.b⟩
def sRange (V : Cx) (dst : Option Tmp) (T : TypeId) (x : Operand) (σ : St) : StepR := match kd V.Γ T with
  | some .str => match ev σ.t x with
    | some (.str l) => .go True ⟨put dst (.p σ.b.length 0) σ.t,σ.b ++ [.ext (iterR l 0)]⟩
    | _ => .bad
  | _ => .bad
def sNext (dst : Option Tmp) (x : Operand) (σ : St) : StepR := match ev σ.t x with
  | some (.p i 0) => match itOf σ.b[i]? with
    | some (l,p) => nextV dst σ i l p (decide (p < l.length))
    | none => .bad
  | _ => .bad
def isIt : Op → Bool
  | .range _ _ => true
  | .next _ _ => true
  | _ => false
def Yd (V : Cx) (dst : Option Tmp) : Op → St → StepR
  | .alloc T,σ => XC V dst T σ
  | .box T x,σ => sBox dst T x σ
  | .load T x,σ => XU V dst T x σ
  | .store T x y,σ => XH V dst T x y σ
  | .build T ps,σ => Xr V dst T ps.toList σ
  | .nilCheck x,σ => sNil dst x σ
  | .call ⟨.value f,args,_⟩,σ => XL dst f args.toList σ
  | .call ⟨.invoke rc name,args,_⟩,σ => sInvoke V dst rc name args.toList σ
  | .range T x,σ => sRange V dst T x σ
  | .next x true,σ => sNext dst x σ
  | _,_ => .bad
def stepO1 (V : Cx) (dst : Option Tmp) (op : Op) (σ : St) : StepR := goR dst σ (pv V.Γ σ.t op) (Yd V dst op σ)
def orN : Option (Prop × St) → StepR → StepR
  | some (c,σ),_ => .go c σ
  | none,m => m
def XR (V : Cx) (dst : Option Tmp) (op : Op) (σ : St) : StepR := goR dst σ (pv V.Γ σ.t op) (orN (Yl V dst op σ) (Yd V dst op σ))
def HoldsR (V : Cx) (K : St → Prop) : StepR → Prop
  | .go c σ => c ∧ K σ
  | .call f args dst σ => (∃ r,PC V f args r ∧ K ⟨put dst r σ.t,σ.b⟩) ∨ (∃ R,SC V f args σ.b R ∧ ∀ r bs,R r bs → K ⟨put dst r σ.t,bs⟩)
  | .bad => False
theorem vcO_of_step {V : Cx} {n : Nat} {dst : Option Tmp} {op : Op} {σ : St} {K : St → Prop} (hf : fits n dst = true) (h : HoldsR V K (stepO1 V dst op σ)) (hI : isIt op = false ∨ ∃ p,pv V.Γ σ.t op = some p) : vcO V n dst op σ K := by
  refine ⟨hf,?_⟩
  unfold stepO1 at h
  split
  · rename_i c x hp
    rw [hp] at h
    exact h
  · rename_i hp
    rw [hp] at h
    simp only [goR] at h
    replace hI : isIt op = false := hI.resolve_right (by rintro ⟨p,hp2⟩; rw [hp] at hp2; cases hp2)
    cases op <;> simp only [Yd] at h <;> simp only [vcM]
    case range => simp [isIt] at hI
    case next => simp [isIt] at hI
    case alloc T => unfold XC at h; (repeat' split at h) <;> simp_all [HoldsR]
    case box T x => unfold sBox at h; (repeat' split at h) <;> simp_all [HoldsR]
    case load T x => unfold XU at h; (repeat' split at h) <;> simp_all [HoldsR]
    case store T x y => unfold XH at h; (repeat' split at h) <;> simp_all [HoldsR]
    case build T ps => unfold Xr at h; (repeat' split at h) <;> simp_all [HoldsR]
    case nilCheck x =>
      unfold sNil at h
      split at h
      · rename_i e; rw [e]; exact h.2
      · rename_i f l e
        rw [e]
        refine ⟨?_,h.2⟩
        have := h.1
        cases f <;> simp [Xt] at this ⊢
      · rename_i f l e; rw [e]; exact h.2
      · cases h
    case call c =>
      clear hI
      obtain ⟨callee,args,ts⟩ := c
      cases callee <;> simp only at h ⊢
      case value f => unfold XL at h; (repeat' split at h) <;> simp_all [HoldsR]
      case invoke rc name => unfold sInvoke at h; (repeat' split at h) <;> simp_all [HoldsR]
      all_goals exact h
    all_goals exact h
theorem Wd.turn {V : Cx} {F : Fx V} {β : Nat → Bt} {fp : Nat → Nat → Prop} {bs : List Res} {w w' : World} (h : Wd F β fp bs w) {i : Nat} {R R' : Rsc} (hi : bs[i]? = some (.ext R)) (hfr : FrW (fp i) w w') (hsz : w'.heap.size = w.heap.size) (hR : ∀ β',Agr bs.length β β' → R'.holds (β' i) (fp i) w') : Wd F β fp (bs.set i (.ext R')) w' := by
  have hil := (List.getElem?_eq_some_iff.1 hi).1
  have old : ∀ {j : Nat} {r : Res},(bs.set i (.ext R'))[j]? = some r → (j ≠ i ∧ bs[j]? = some r) ∨ (j = i ∧ r = .ext R') := fun {j r} hj => by
    by_cases e : j = i
    · subst e
      rw [List.getElem?_set_self hil] at hj
      exact .inr ⟨rfl,by simpa using hj.symm⟩
    · rw [List.getElem?_set_ne (fun q => e q.symm)] at hj
      exact .inl ⟨e,hj⟩
  have oldr : ∀ {j : Nat} {r : Res},(bs.set i (.ext R'))[j]? = some r → ∃ r0,bs[j]? = some r0 ∧ r0.mine = r.mine := fun {j r} hj => by
    rcases old hj with ⟨-,hj⟩ | ⟨rfl,rfl⟩
    · exact ⟨r,hj,rfl⟩
    · exact ⟨_,hi,rfl⟩
  have hb0 := h.bx β (Agr.refl _ _)
  refine ⟨⟨hfr.os.trans h.fr.os,hfr.tape.trans h.fr.tape,hfr.output.trans h.fr.output,Nat.le_trans h.fr.size hfr.size,fun k hk hn => ?_⟩,fun β' hβ => ?_,fun j r hj hm k hk => ?_,⟨h.ini.agr,by rw [List.length_set]; exact h.ini.len⟩,fun j r hj k hk => ?_⟩
  · rw [hfr.block k (Nat.lt_of_lt_of_le hk h.fr.size) (fun hk' => ?_)]
    · exact h.fr.block k hk hn
    · rcases h.mine i _ hi rfl k hk' with h1 | h1
      · omega
      · exact hn h1
  · rw [List.length_set] at hβ
    have hb := h.bx β' hβ
    refine ⟨fun j r hj => ?_,fun j r hj k hk => ?_,fun j q r r' hj hq hne hm k hk hk' => ?_⟩
    · rcases old hj with ⟨e,hj⟩ | ⟨rfl,rfl⟩
      · exact (hb.holds j r hj).stays (fun k hk => hfr.block k (hb.lt j r hj k hk) (fun hk' => hb.sep j i r _ hj hi e (.inr rfl) k hk hk'))
      · exact hR β' hβ
    · obtain ⟨r0,h1,-⟩ := oldr hj
      rw [hsz]; exact hb.lt j r0 h1 k hk
    · obtain ⟨r0,h1,e1⟩ := oldr hj
      obtain ⟨r1,h2,e2⟩ := oldr hq
      exact hb.sep j q r0 r1 h1 h2 hne (by rw [e1,e2]; exact hm) k hk hk'
  · obtain ⟨r0,h1,e1⟩ := oldr hj
    exact h.mine j r0 h1 (by rw [e1]; exact hm) k hk
  · obtain ⟨r0,h1,-⟩ := oldr hj
    exact h.foot j r0 h1 k hk
theorem run_next_at {P : Program} {w : World} {k : Nat} {l : List UInt8} {p : Nat} (hw : w.heap[k]? = some (.stringIter ⟨List.toArray l⟩ p)) (ty : TypeId) (h : p < l.length) (ha : (l.getD p 0).toNat < 128) :
    (Instr.next (.pointer (some ⟨k,0,none⟩)) true ty).run P w = .ok (.tuple #[.bool true,.int .i64 p,.int .i32 (l.getD p 0).toNat]) { w with heap := w.heap.setIfInBounds k (.stringIter ⟨List.toArray l⟩ (p + 1)) } := by
  have hs : (⟨List.toArray l⟩ : ByteArray).size = l.length := by simp [ByteArray.size]
  have hb : (⟨List.toArray l⟩ : ByteArray)[p]'(by rw [hs]; exact h) = l.getD p 0 := by
    rw [List.getD_eq_getElem?_getD,List.getElem?_eq_getElem h]; rfl
  have hd := decode_ascii (⟨List.toArray l⟩ : ByteArray) p (by rw [hs]; exact h) (by rw [hb]; exact ha)
  rw [hb] at hd
  simp only [Instr.next,getObj,setObj,Sem.run_bind,Sem.run,hw,Result.andThen,hs,h,if_true,hd]
  simp [goInt,Sem.run,hw]
theorem run_next_done {P : Program} {w : World} {k : Nat} {l : List UInt8} {p : Nat} (hw : w.heap[k]? = some (.stringIter ⟨List.toArray l⟩ p)) (ty : TypeId) (h : ¬ p < l.length) :
    (Instr.next (.pointer (some ⟨k,0,none⟩)) true ty).run P w = .ok (.tuple #[.bool false]) w := by
  have hs : (⟨List.toArray l⟩ : ByteArray).size = l.length := by simp [ByteArray.size]
  simp [Instr.next,getObj,Sem.run,hw,hs,h]
theorem stepI_sound {V : Cx} {F : Fx V} {dst : Option Tmp} {op : Op} {σ : St} {K : St → Prop} (hfit : fits F.n dst = true) (hI : isIt op = true) (h : HoldsR V K (Yd V dst op σ)) {a : Act} {w : World} (hr : Rel F σ a w) (ty : TypeId) (pos : String) (after : Array Edge) (guard : Option (Nat × Bool)) (Q : Exit → Act → World → Prop) :
    (⟨dst,op,ty,pos,after,guard⟩ : Oper).wp V.P a w (fun a w => ∃ σ,K σ ∧ Rel F σ a w) Q := by
  obtain ⟨β,fp,hf,hw⟩ := hr
  cases op <;> simp only [isIt,Bool.false_eq_true] at hI
  case range T x =>
    simp only [Yd,sRange] at h
    split at h
    rotate_left
    · cases h
    rename_i hk
    split at h
    rotate_left
    · cases h
    rename_i l hx
    have hK := h.2
    have hund : V.P.underlying T = some .string := by
      unfold kd at hk
      cases hT : V.Γ T with
      | none => rw [hT] at hk; cases hk
      | some ti =>
        rw [hT] at hk
        obtain ⟨d,h1,h2⟩ := (V.gok T ti hT).und
        simp only [Option.map_some,Option.some.injEq] at hk
        rw [hk] at h2
        rw [h1,h2]
    have he := (hf.ok β (Agr.refl _ _)).ev hx
    have hrun : (execOp a.eval ⟨dst,.range T x,ty,pos,after,guard⟩).run V.P w = Result.ok (.value (.pointer (some ⟨w.heap.size,0,none⟩))) (w.iter ⟨List.toArray l⟩ 0) := by
      refine run_val ?_
      rw [he]
      exact run_range_string w T _ hund
    refine wp_of_value hrun ⟨_,hK,upd β σ.b.length ⟨w.heap.size,0,0⟩,updF fp σ.b.length (· = w.heap.size),?_,hw.more ((Below.refl _ _).alloc (Nat.le_refl _) _) _ ⟨w.heap.size,0,0⟩ _ (fun β' hβ => ⟨rfl,World.iter_heap w _ 0,fun k => Iff.rfl⟩) (fun k hk => ?_)⟩
    · exact (hf.more (by simp) (upd_agr _ _ _)).put hfit (fun β' hβ => by simp only [conc]; rw [← hβ σ.b.length (by simp),upd_at])
    · subst hk
      exact ⟨Nat.le_refl _,by rw [size_alloc]; omega⟩
  case next x b =>
    cases b
    · simp only [Yd,HoldsR] at h
    · simp only [Yd,sNext] at h
      split at h
      rotate_left
      · cases h
      rename_i i hx
      split at h
      rotate_left
      · cases h
      rename_i l p hit
      obtain ⟨R,hR,hRi⟩ : ∃ R : Rsc,σ.b[i]? = some (.ext R) ∧ R.it = some (l,p) := by
        unfold itOf at hit
        split at hit
        · rename_i R hR; exact ⟨R,hR,hit⟩
        · cases hit
      have he := (hf.ok β (Agr.refl _ _)).ev hx
      have hh : ∀ β',Agr σ.b.length β β' → (β' i).off = 0 ∧ w.heap[(β' i).blk]? = some (.stringIter ⟨List.toArray l⟩ p) ∧ ∀ k,fp i k ↔ k = (β' i).blk := fun β' hβ => R.itOk l p _ _ _ hRi ((hw.bx β' hβ).holds i _ hR)
      obtain ⟨h0,h1,h2⟩ := hh β (Agr.refl _ _)
      have hev : a.eval x = .pointer (some ⟨(β i).blk,0,none⟩) := by rw [he]; simp [conc,h0]
      by_cases hp : p < l.length
      · have hd : decide (p < l.length) = true := decide_eq_true hp
        rw [hd] at h
        obtain ⟨ha,hK⟩ := h
        have hrun : (execOp a.eval ⟨dst,.next x true,ty,pos,after,guard⟩).run V.P w = Result.ok (.value (.tuple #[.bool true,.int .i64 p,.int .i32 (l.getD p 0).toNat])) { w with heap := w.heap.setIfInBounds (β i).blk (.stringIter ⟨List.toArray l⟩ (p + 1)) } := by
          refine run_val ?_
          rw [hev]
          exact run_next_at h1 ty hp ha
        have hlt : (β i).blk < w.heap.size := (Array.getElem?_eq_some_iff.1 h1).1
        refine wp_of_value hrun ⟨_,hK,β,fp,?_,hw.turn hR ⟨rfl,rfl,rfl,by simp,fun k hk hn => ?_⟩ (by simp) (fun β' hβ => ?_)⟩
        · rw [List.length_set]; exact hf.put hfit (fun β' hβ => by simp [conc,concL])
        · exact Array.getElem?_setIfInBounds_ne (fun e => hn ((h2 k).2 e.symm))
        · obtain ⟨q0,q1,q2⟩ := hh β' hβ
          have e : (β' i).blk = (β i).blk := ((h2 _).1 ((q2 _).2 rfl))
          exact ⟨q0,by rw [e]; simp [hlt],q2⟩
      · have hd : decide (p < l.length) = false := decide_eq_false hp
        rw [hd] at h
        have hK := h.2
        have hrun : (execOp a.eval ⟨dst,.next x true,ty,pos,after,guard⟩).run V.P w = Result.ok (.value (.tuple #[.bool false])) w := by
          refine run_val ?_
          rw [hev]
          exact run_next_done h1 ty hp
        exact wp_of_value hrun ⟨_,hK,β,fp,hf.put hfit (fun β' hβ => by simp [conc,concL]),hw⟩
theorem stepO_sound {V : Cx} {F : Fx V} {dst : Option Tmp} {op : Op} {σ : St} {K : St → Prop} (hfit : fits F.n dst = true) (h : HoldsR V K (XR V dst op σ)) {a : Act} {w : World} (hr : Rel F σ a w) (ty : TypeId) (pos : String) (after : Array Edge) (guard : Option (Nat × Bool)) (Q : Exit → Act → World → Prop) :
    (⟨dst,op,ty,pos,after,guard⟩ : Oper).wp V.P a w (fun a w => ∃ σ,K σ ∧ Rel F σ a w) Q := by
  unfold XR at h
  cases hp : pv V.Γ σ.t op with
  | some p =>
    rw [hp] at h
    exact vcO_sound (vcO_of_step hfit (by unfold stepO1; rw [hp]; exact h) (.inr ⟨p,hp⟩)) hr _ rfl rfl Q
  | none =>
    rw [hp] at h
    simp only [goR] at h
    cases hn : Yl V dst op σ with
    | some p =>
      rw [hn] at h
      exact stepN_sound hfit hn h.1 h.2 hr ty pos after guard Q
    | none =>
      rw [hn] at h
      cases hI : isIt op with
      | false => exact vcO_sound (vcO_of_step hfit (by unfold stepO1; rw [hp]; exact h) (.inl hI)) hr _ rfl rfl Q
      | true => exact stepI_sound hfit hI h hr ty pos after guard Q
structure RecE where
  x : SV
  nb : Option (List Res)
  all : Bool
  rd : List (Nat × Nat × Nat)
  wr : List (Nat × Nat × Nat)
structure Rk where
  s : Bool
  all : Bool
  rd : List (Nat × Nat × Nat)
  wr : List (Nat × Nat × Nat)
inductive StepD where
  | val (c : Prop) (r : RecE)
  | call (f : FuncId) (args : List SV)
  | bad
def valD (c : Prop) (x : SV) : StepD := .val c ⟨x,none,false,[],[]⟩
def goD : Option (Prop × SV) → StepD → StepD
  | some (c,x),_ => valD c x
  | none,m => m
def XD (V : Cx) (T : TypeId) (σ : St) : StepD := match V.Γ T with
  | some ti => .val True ⟨.p σ.b.length 0,some (σ.b ++ [.cells ti.zero T true]),false,[],[(σ.b.length,0,0)]⟩
  | none => .bad
def dBox (T : TypeId) (x : Operand) (σ : St) : StepD := match ev σ.t x with
  | some x => .val (isV x = false) ⟨.p σ.b.length 0,some (σ.b ++ [.cells (cells x) T true]),false,[],[(σ.b.length,0,0)]⟩
  | none => .bad
def XI (V : Cx) (T : TypeId) (x : Operand) (σ : St) : StepD := match ev σ.t x with
  | some (.p i off) => match getB σ.b i with
    | some (c,_,_) => match V.Γ T with
      | some ti => match XM ti.agg off ti.size c with
        | some x => .val (off + ti.size ≤ c.length ∧ 0 < ti.size) ⟨x,none,false,[(i,off,ti.size)],[]⟩
        | none => .bad
      | none => .bad
    | none => .bad
  | _ => .bad
def XF (V : Cx) (T : TypeId) (x y : Operand) (σ : St) : StepD := match ev σ.t x with
  | some (.p i off) => match ev σ.t y with
    | some y => match getB σ.b i with
      | some (c,_,m) => match sz V.Γ T with
        | some s => .val (m = true ∧ (cells y).all one = true ∧ (cells y).length = s ∧ off + s ≤ c.length ∧ 0 < s) ⟨.v undef,some (setB σ.b i (Xs c off (cells y))),false,[],[(i,off,s)]⟩
        | none => .bad
      | none => .bad
    | none => .bad
  | _ => .bad
def XB (V : Cx) (T : TypeId) (ps : List (Nat × Operand)) (σ : St) : StepD := match V.Γ T with
  | some ti => match ti.kind with
    | .struct fs => match Xl σ.t ps with
      | some ps => match XZ fs V.Γ ps ti.zero with
        | some c => valD True (.agg c)
        | none => .bad
      | none => .bad
    | _ => .bad
  | none => .bad
def dNil (x : Operand) (σ : St) : StepD := match ev σ.t x with
  | some (.p i off) => valD True (.p i off)
  | some (.fn f l) => valD (Xt f = true) (.fn f l)
  | _ => .bad
def XK (f : Operand) (args : List Operand) (σ : St) : StepD := match ev σ.t f with
  | some (.fn (.func f) caps) => match evs σ.t args with
    | some l => .call f (l ++ caps)
    | none => .bad
  | _ => .bad
def Xv (V : Cx) : Op → St → StepD
  | .alloc T,σ => XD V T σ
  | .box T x,σ => dBox T x σ
  | .load T x,σ => XI V T x σ
  | .store T x y,σ => XF V T x y σ
  | .build T ps,σ => XB V T ps.toList σ
  | .nilCheck x,σ => dNil x σ
  | .call ⟨.value f,args,_⟩,σ => XK f args.toList σ
  | _,_ => .bad
def idxs : List (Option SV) → List (Nat × Nat × Nat)
  | [] => []
  | some (.o j _) :: r => (j,0,0) :: idxs r
  | some (.f j _) :: r => (j,0,0) :: idxs r
  | _ :: r => idxs r
def Xz (V : Cx) : Op → Bool
  | .call ⟨.builtin .append,_,_⟩ => false
  | .makeSlice _ _ _ => false
  | .buildSlice _ _ _ => false
  | .slice _ _ none (some _) (some _) => true
  | .slice _ _ _ _ _ => false
  | .convert _ _ _ => false
  | _ => true
def opL : Op → List Operand
  | .call ⟨_,args,_⟩ => args.toList
  | .buildSlice _ _ ps => ps.toList.map (·.2)
  | .makeSlice _ a v => [a,v]
  | .indexAddr _ a v => [a,v]
  | .slice _ x _ _ _ => [x]
  | .convert _ _ x => [x]
  | _ => []
def dN (V : Cx) (op : Op) (σ : St) : Option (Prop × St) → StepD → StepD
  | some (c,σ'),_ => match σ'.t with
    | (_,x) :: _ => if Xz V op then .val c ⟨x,none,false,idxs ((opL op).map (ev σ.t)),[]⟩
        else .val c ⟨x,some σ'.b,false,[],(σ.b.length,0,0) :: idxs ((opL op).map (ev σ.t))⟩
    | [] => .bad
  | none,m => m
def XV (V : Cx) (op : Op) (σ : St) : StepD := goD (pv V.Γ σ.t op) (dN V op σ (Yl V (some 0) op σ) (Xv V op σ))
def depB (ops : Array Oper) : Nat → Nat → Nat → Bool
  | 0,_,_ => false
  | f + 1,i,k => match ops[i]? with
    | some o => o.after.any fun e => Region.binds .any e && (e.on == k || depB ops f e.on k)
    | none => false
def ovl (a b : Nat × Nat × Nat) : Bool := a.1 == b.1 && (b.2.2 == 0 || (decide (a.2.1 < b.2.1 + b.2.2) && decide (b.2.1 < a.2.1 + a.2.2)))
def anyOvl (xs ys : List (Nat × Nat × Nat)) : Bool := xs.any fun a => ys.any fun b => ovl a b
def slotC (ops : Array Oper) (i k : Nat) : Bool := match (ops[k]?).bind (·.dst) with
  | some d => (match ops[i]? with
    | some o => (o.looksAt ops).contains d || o.dst == some d
    | none => false)
  | none => false
def rk0 : Rk := ⟨false,false,[],[]⟩
def isFl (ops : Array Oper) (k : Nat) : Bool := match ops[k]? with
  | some ⟨some _,.alloc _,_,_,_,none⟩ => true
  | some ⟨some _,.buildSlice _ _ _,_,_,_,none⟩ => true
  | _ => false
def tieB (ops : Array Oper) (i k : Nat) : Bool := if k < i then depB ops ops.size i k else depB ops ops.size k i
def preS (ops : Array Oper) (rs : List Rk) (i k : Nat) : Bool := !(isFl ops k && decide (k < i)) || (List.range k).all fun j => !(((rs[j]?).getD rk0).s) || depB ops ops.size i j
def pairB (ops : Array Oper) (rs : List Rk) (i k : Nat) : Bool :=
  if slotC ops i k then tieB ops i k && preS ops rs i k
  else if ((rs[i]?).getD rk0).s && ((rs[k]?).getD rk0).s then isFl ops (max i k) || tieB ops i k
  else if ((rs[k]?).getD rk0).s && !((rs[i]?).getD rk0).rd.isEmpty then (tieB ops i k && preS ops rs i k) || !(((rs[k]?).getD rk0).all || anyOvl ((rs[i]?).getD rk0).rd ((rs[k]?).getD rk0).wr)
  else true
def compatB (ops : Array Oper) (rs : List Rk) : Bool :=
  (List.range ops.size).all fun i => (List.range ops.size).all fun k => k == i || pairB ops rs i k
def aheadB (ops : Array Oper) : Bool :=
  (List.range ops.size).all fun i => match ops[i]? with
    | some o => o.after.all fun e => !Region.binds .any e || decide (e.on < i)
    | none => true
def OkD (ops : Array Oper) (rs : List Rk) : Prop := (compatB ops rs && aheadB ops) = true
inductive OT where
  | leaf
  | one (i : Nat) (t : OT)
  | pur (i : Nat) (t : OT)
  | alt (a b : OT)
def arrL (n : Nat) (L : List Nat) : Array Bool := L.foldr (fun i a => a.setIfInBounds i true) (Array.replicate n false)
def OT.heads : OT → List Nat
  | .one i _ => [i]
  | .alt a b => a.heads ++ b.heads
  | _ => []
def OT.okT (ops : Array Oper) : List Nat → OT → Bool
  | L,.leaf => (Region.ready .any ops (arrL ops.size L)).isEmpty
  | L,.one i t => decide (L.length < ops.size) && (Region.ready .any ops (arrL ops.size L) == [i]) && okT ops (i :: L) t
  | L,.pur i t => decide (L.length < ops.size) && Region.noSelect ops && Region.free .any ops (arrL ops.size L) i && (Region.ready .any ops (arrL ops.size L)).contains i && okT ops (i :: L) t
  | L,.alt a b => decide (L.length < ops.size) && !(Region.ready .any ops (arrL ops.size L)).isEmpty && ((Region.ready .any ops (arrL ops.size L)).all fun i => (OT.alt a b).heads.contains i) && okA ops L a && okA ops L b
where okA (ops : Array Oper) : List Nat → OT → Bool
  | L,.one i t => okT ops (i :: L) t
  | L,.alt a b => okA ops L a && okA ops L b
  | _,_ => false
inductive How where
  | ord (p : List Nat)
  | all (t : OT)
inductive Item where
  | aops (ops : Array Oper) (L : List Nat) (t : OT)
  | cut (J : St → Prop)
  | dops (ops : Array Oper) (l : List Oper) (rs : List Rk)
  | code (c : Code)
  | ops (ops : Array Oper) (l : List Oper)
  | endb (id : Nat)
  | endl (I : St → Prop) (μ : St → Nat) (m : Nat)
def XE (id : Nat) : List Item → Option (List Item)
  | [] => none
  | .endb id' :: k => if id' = id then some k else XE id k
  | _ :: k => XE id k
structure Fin where
  rs : List ResultVar
  K : SV → List Res → Prop
  /-- How each region that draws is reckoned. -/
  how : Nat → How
  /-- Has each call one outcome? -/
  uni : Bool
def endV (V : Cx) (E : Fin) (σ : St) : Option (List SV) → Prop
  | some l => E.K (tupS l) σ.b
  | none => False
def gdst : List Oper → Nat → Option Tmp
  | [],_ => none
  | o :: _,0 => o.dst
  | _ :: r,j + 1 => gdst r j
def Yk (t : List (Nat × SV)) : Option Tmp → Option (Nat × Bool)
  | some d => match lk d t with
    | some (.bool b) => some (d,b)
    | _ => none
  | none => none
def nob : Value → Bool
  | .bool _ => false
  | _ => true
theorem nob_undef : nob undef = true := rfl
def gvU (t : List (Nat × SV)) : Option Tmp → Bool
  | some d => match lk d t with
    | some (.v x) => nob x
    | _ => false
  | none => false
def shape : Res → Res
  | .cells _ T m => .cells [] T m
  | .own _ e s n m => .own [] e s n m
  | r => r
def cellsR : Res → List SV
  | .cells c _ _ => c
  | .own c _ _ _ _ => c
  | _ => []
def ob (q : Option Nat) (r : Res) : Res × Nat × Option SV := (shape r,(cellsR r).length,match q with
  | some p => (cellsR r)[p]?
  | none => none)
def inR (x : Nat × Nat × Nat) (q : Option Nat) : Prop := q = none ∨ ∃ p,q = some p ∧ x.2.1 ≤ p ∧ p < x.2.1 + x.2.2
def touch (x : Nat × Nat × Nat) (j : Nat) (q : Option Nat) : Prop := x.1 = j ∧ (x.2.2 = 0 ∨ ∃ p,q = some p ∧ x.2.1 ≤ p ∧ p < x.2.1 + x.2.2)
def seen (x : Nat × Nat × Nat) (bi bs : List Res) : Prop := ∀ q,inR x q → (bs[x.1]?).map (ob q) = (bi[x.1]?).map (ob q)
def Outs (W : List (Nat × Nat × Nat)) (b b0 : List Res) : Prop := ∀ j q,(∀ y ∈ W,¬ touch y j q) → (b[j]?).map (ob q) = (b0[j]?).map (ob q)
theorem outs_of {W : List (Nat × Nat × Nat)} {b b0 : List Res} (h : ∀ j,(∀ y ∈ W,y.1 ≠ j) → b[j]? = b0[j]?) (hW : ∀ y ∈ W,y.2.2 = 0) : Outs W b b0 := fun j q hq => by
  rw [h j fun y hy e => hq y hy ⟨e,.inl (hW y hy)⟩]
def XQ (b : Bool) (X Y : Prop) : Prop := (b = true → X) ∧ (b = false → Y)
theorem Xn (X Y : Prop) : XQ true X Y = X := by simp [XQ]
theorem Xo (X Y : Prop) : XQ false X Y = Y := by simp [XQ]
def XG (b want : Bool) (X Y : Prop) : Prop := (b = want → X) ∧ (b = !want → Y)
theorem Xg (X Y : Prop) : XG true true X Y = X := by simp [XG]
theorem Xd (X Y : Prop) : XG false false X Y = X := by simp [XG]
theorem Xe (X Y : Prop) : XG true false X Y = Y := by simp [XG]
theorem Xf (X Y : Prop) : XG false true X Y = Y := by simp [XG]
mutual
def vcS (V : Cx) (n : Nat) (E : Fin) : Nat → List Item → St → Prop
  | 0,_,_ => False
  | _ + 1,[],σ => endV V E σ (XT V σ E.rs)
  | f + 1,.code .skip :: k,σ => vcS V n E f k σ
  | f + 1,.code (.region _ ops false) :: k,σ => vcS V n E f (.ops ops ops.toList :: k) σ
  | f + 1,.code (.region id ops true) :: k,σ => regV V n E f ops k σ (E.how id)
  | f + 1,.code (.seq x y) :: k,σ => vcS V n E f (.code x :: .code y :: k) σ
  | f + 1,.code (.cond c x y) :: k,σ => XN V n E f x y k σ (ev σ.t c)
  | f + 1,.code (.block id x) :: k,σ => vcS V n E f (.code x :: .endb id :: k) σ
  | f + 1,.code (.loop x) :: k,σ => loopV V n E f x k σ
  | f + 1,.code (.exit id) :: k,σ => XO V n E f σ (XE id k)
  | _ + 1,.code .ret :: _,σ => endV V E σ (XT V σ E.rs)
  | _ + 1,.code _ :: _,_ => False
  | f + 1,.endb _ :: k,σ => vcS V n E f k σ
  | _ + 1,.endl I μ m :: _,σ => I σ ∧ μ σ < m
  | f + 1,.ops _ [] :: k,σ => vcS V n E f k σ
  | f + 1,.ops ops (⟨dst,op,_,_,_,none⟩ :: r) :: k,σ => fits n dst = true ∧ Yc V n E f ops r k (XR V dst op σ)
  | f + 1,.ops ops (⟨dst,op,_,_,_,some (j,want)⟩ :: r) :: k,σ => fits n dst = true ∧ XA V n E f ops dst op want r k σ (Yk σ.t (gdst ops.toList j)) (gvU σ.t (gdst ops.toList j))
  | _ + 1,.cut J :: _,σ => J σ
  | f + 1,.aops _ _ .leaf :: k,σ => vcS V n E f k σ
  | f + 1,.aops ops L (.one i t) :: k,σ => vcS V n E f (.ops ops (nthL ops.toList i) :: .aops ops (i :: L) t :: k) σ
  | f + 1,.aops ops L (.pur i t) :: k,σ => pureV V n E f ops L i t k σ (nthL ops.toList i)
  | f + 1,.aops ops L (.alt a b) :: k,σ => vcS V n E f (.aops ops L a :: k) σ ∧ vcS V n E f (.aops ops L b :: k) σ
  | f + 1,.dops ops [] rs :: k,σ => OkD ops rs ∧ vcS V n E f k σ
  | f + 1,.dops ops (⟨dst,op,_,_,_,none⟩ :: r) rs :: k,σ => fits n dst = true ∧ Yg V n E f ops r rs k dst σ (XV V op σ)
  | f + 1,.dops ops (⟨dst,op,_,_,_,some (j,want)⟩ :: r) rs :: k,σ => fits n dst = true ∧ Xy V n E f ops dst op want r rs k σ (Yk σ.t (gdst ops.toList j)) (gvU σ.t (gdst ops.toList j))
def regV (V : Cx) (n : Nat) (E : Fin) : Nat → Array Oper → List Item → St → How → Prop
  | f,ops,k,σ,.ord p => permB ops p ∧ vcS V n E f (.dops (permD ops p) (permD ops p).toList [] :: k) σ
  | f,ops,k,σ,.all t => E.uni = false ∧ OT.okT ops [] t = true ∧ ∃ J : St → Prop,vcS V n E f (.aops ops [] t :: .cut J :: k) σ ∧ ∀ σ',J σ' → vcS V n E f k σ'
def pureV (V : Cx) (n : Nat) (E : Fin) : Nat → Array Oper → List Nat → Nat → OT → List Item → St → List Oper → Prop
  | f,ops,L,i,t,k,σ,[⟨dst,op,_,_,_,none⟩] => fits n dst = true ∧ pureW V n E f ops L i t k σ dst (pv V.Γ σ.t op)
  | _,_,_,_,_,_,_,_ => False
def pureW (V : Cx) (n : Nat) (E : Fin) : Nat → Array Oper → List Nat → Nat → OT → List Item → St → Option Tmp → Option (Prop × SV) → Prop
  | f,ops,L,i,t,k,σ,dst,some (c,x) => c ∧ vcS V n E f (.aops ops (i :: L) t :: k) ⟨put dst x σ.t,σ.b⟩
  | _,_,_,_,_,_,_,_,none => False
def Yg (V : Cx) (n : Nat) (E : Fin) : Nat → Array Oper → List Oper → List Rk → List Item → Option Tmp → St → StepD → Prop
  | f,ops,r,rs,k,dst,σ,.val c ⟨x,none,all,rd,wr⟩ => c ∧ vcS V n E f (.dops ops r (rs ++ [⟨false,all,rd,wr⟩]) :: k) ⟨put dst x σ.t,σ.b⟩
  | f,ops,r,rs,k,dst,σ,.val c ⟨x,some b,all,rd,wr⟩ => c ∧ vcS V n E f (.dops ops r (rs ++ [⟨true,all,rd,wr⟩]) :: k) ⟨put dst x σ.t,b⟩
  | f,ops,r,rs,k,dst,σ,.call g args => callD V n E f ops r rs k dst σ g args
  | _,_,_,_,_,_,_,.bad => False
def callD (V : Cx) (n : Nat) (E : Fin) : Nat → Array Oper → List Oper → List Rk → List Item → Option Tmp → St → FuncId → List SV → Prop
  | f,ops,r,rs,k,dst,σ,g,args => (∃ x,PC V g args x ∧ vcS V n E f (.dops ops r (rs ++ [⟨false,false,[],[]⟩]) :: k) ⟨put dst x σ.t,σ.b⟩) ∨ (∃ x b,SC V g args σ.b (fun r b' => r = x ∧ b' = b) ∧ vcS V n E f (.dops ops r (rs ++ [⟨true,true,[],[]⟩]) :: k) ⟨put dst x σ.t,b⟩) ∨
    (∃ x b W,SC V g args σ.b (fun r b' => r = x ∧ b' = b) ∧ Outs W b σ.b ∧ vcS V n E f (.dops ops r (rs ++ [⟨true,false,[],W⟩]) :: k) ⟨put dst x σ.t,b⟩)
def Xy (V : Cx) (n : Nat) (E : Fin) : Nat → Array Oper → Option Tmp → Op → Bool → List Oper → List Rk → List Item → St → Option (Nat × Bool) → Bool → Prop
  | f,ops,dst,op,want,r,rs,k,σ,some (d,b),_ => fits n (some d) = true ∧ XG b want (Yg V n E f ops r rs k dst ⟨(d,.bool want) :: σ.t,σ.b⟩ (XV V op ⟨(d,.bool want) :: σ.t,σ.b⟩)) (vcS V n E f (.dops ops r (rs ++ [⟨false,false,[],[]⟩]) :: k) ⟨put dst (.v undef) ((d,.bool (!want)) :: σ.t),σ.b⟩)
  | f,ops,dst,_,_,r,rs,k,σ,none,true => vcS V n E f (.dops ops r (rs ++ [⟨false,false,[],[]⟩]) :: k) ⟨put dst (.v undef) σ.t,σ.b⟩
  | _,_,_,_,_,_,_,_,_,none,false => False
def XN (V : Cx) (n : Nat) (E : Fin) : Nat → Code → Code → List Item → St → Option SV → Prop
  | f,x,y,k,σ,some (.bool b) => XQ b (vcS V n E f (.code x :: k) σ) (vcS V n E f (.code y :: k) σ)
  | _,_,_,_,_,_ => False
def loopV (V : Cx) (n : Nat) (E : Fin) : Nat → Code → List Item → St → Prop
  | f,x,k,σ => ∃ (I : St → Prop) (μ : St → Nat),I σ ∧ ∀ σ',I σ' → vcS V n E f (.code x :: .endl I μ (μ σ') :: k) σ'
def XO (V : Cx) (n : Nat) (E : Fin) : Nat → St → Option (List Item) → Prop
  | f,σ,some k => vcS V n E f k σ
  | _,_,none => False
def Yc (V : Cx) (n : Nat) (E : Fin) : Nat → Array Oper → List Oper → List Item → StepR → Prop
  | f,ops,r,k,.go c σ => c ∧ vcS V n E f (.ops ops r :: k) σ
  | f,ops,r,k,.call g args dst σ => callV V n E f ops r k g args dst σ
  | _,_,_,_,.bad => False
def callV (V : Cx) (n : Nat) (E : Fin) : Nat → Array Oper → List Oper → List Item → FuncId → List SV → Option Tmp → St → Prop
  | f,ops,r,k,g,args,dst,σ => (∃ x,PC V g args x ∧ vcS V n E f (.ops ops r :: k) ⟨put dst x σ.t,σ.b⟩) ∨ (∃ R,SC V g args σ.b R ∧ (E.uni = true → ∃ x b,R x b ∧ SC V g args σ.b (fun r b' => r = x ∧ b' = b)) ∧ ∀ x bs,R x bs → vcS V n E f (.ops ops r :: k) ⟨put dst x σ.t,bs⟩)
def XA (V : Cx) (n : Nat) (E : Fin) : Nat → Array Oper → Option Tmp → Op → Bool → List Oper → List Item → St → Option (Nat × Bool) → Bool → Prop
  | f,ops,dst,op,want,r,k,σ,some (d,b),_ => fits n (some d) = true ∧ XG b want (Yc V n E f ops r k (XR V dst op ⟨(d,.bool want) :: σ.t,σ.b⟩)) (vcS V n E f (.ops ops r :: k) ⟨put dst (.v undef) ((d,.bool (!want)) :: σ.t),σ.b⟩)
  | f,ops,dst,_,_,r,k,σ,none,true => vcS V n E f (.ops ops r :: k) ⟨put dst (.v undef) σ.t,σ.b⟩
  | _,_,_,_,_,_,_,_,none,false => False
end
end Vc
namespace Vc
open Go Go.RowKit Wf
/-! Updates in some order -/
def foldD {S : Type} (u : Nat → S → S) (D : Nat → Bool) : Nat → S → S
  | 0,s => s
  | n + 1,s => if D n then u n (foldD u D n s) else foldD u D n s
theorem fold_obs {S X : Type} (u : Nat → S → S) (obs : S → X) (hu : ∀ k s s',obs s = obs s' → obs (u k s) = obs (u k s')) (D D' : Nat → Bool) : ∀ (n : Nat) (s : S),
    (∀ k,k < n → D k = D' k ∨ ∀ s,obs (u k s) = obs s) → obs (foldD u D n s) = obs (foldD u D' n s)
  | 0,_,_ => rfl
  | n + 1,s,h => by
    have ih := fold_obs u obs hu D D' n s (fun k hk => h k (by omega))
    simp only [foldD]
    rcases h n (by omega) with e | e
    · rw [e]
      split
      · exact hu _ _ _ ih
      · exact ih
    · split <;> split <;> simp only [e,ih]
theorem fold_congr {S : Type} (u : Nat → S → S) (D D' : Nat → Bool) : ∀ (n : Nat) (s : S),(∀ k,k < n → D k = D' k) → foldD u D n s = foldD u D' n s
  | 0,_,_ => rfl
  | n + 1,s,h => by simp only [foldD]; rw [h n (by omega),fold_congr u D D' n s (fun k hk => h k (by omega))]
def preD (i : Nat) : Nat → Bool := fun k => decide (k < i)
def insD (D : Nat → Bool) (i : Nat) : Nat → Bool := fun k => D k || decide (k = i)
theorem fold_pre {S : Type} (u : Nat → S → S) : ∀ (n i : Nat) (s : S),i ≤ n → foldD u (preD i) n s = foldD u (preD i) i s := by
  intro n
  induction n with
  | zero => intro i s h; have : i = 0 := by omega
            subst this; rfl
  | succ n ih =>
    intro i s h
    by_cases e : i = n + 1
    · subst e; rfl
    · simp only [foldD]
      rw [if_neg (by simp [preD]; omega)]
      exact ih i s (by omega)
theorem fold_all {S : Type} (u : Nat → S → S) (D : Nat → Bool) : ∀ (n : Nat) (s : S),(∀ k,k < n → D k = true) → foldD u D n s = foldD u (preD n) n s := by
  intro n s h
  exact fold_congr u D (preD n) n s (fun k hk => by rw [h k hk]; simp [preD,hk])
theorem fold_pre_succ {S : Type} (u : Nat → S → S) (i : Nat) (s : S) : foldD u (preD (i + 1)) (i + 1) s = u i (foldD u (preD i) i s) := by
  simp only [foldD]
  rw [if_pos (by simp [preD])]
  congr 1
  exact fold_congr u _ _ i s (fun k hk => by simp [preD]; omega)
theorem fold_see {S X : Type} (u : Nat → S → S) (obs : S → X) (hu : ∀ k s s',obs s = obs s' → obs (u k s) = obs (u k s')) (D : Nat → Bool) (n i : Nat) (s : S) (hi : i ≤ n)
    (h : ∀ k,k < n → (∃ s,obs (u k s) ≠ obs s) → D k = decide (k < i)) : obs (foldD u D n s) = obs (foldD u (preD i) i s) := by
  rw [← fold_pre u n i s hi]
  refine fold_obs u obs hu D (preD i) n s (fun k hk => ?_)
  by_cases e : ∃ s,obs (u k s) ≠ obs s
  · exact .inl (h k hk e)
  · exact .inr (fun s => Classical.byContradiction fun hne => e ⟨s,hne⟩)
theorem fold_ins {S X : Type} (u : Nat → S → S) (obs : S → X) (hu : ∀ k s s',obs s = obs s' → obs (u k s) = obs (u k s')) (D : Nat → Bool) (n i : Nat) (s : S) (hi : i < n) (hD : D i = false)
    (h : (∃ s,obs (u i s) ≠ obs s) → ∀ k,k < n → (∃ s,obs (u k s) ≠ obs s) → D k = true → k < i)
    : obs (foldD u (insD D i) n s) = obs (u i (foldD u D n s)) := by
  by_cases e : ∃ s,obs (u i s) ≠ obs s
  · -- nothing behind i shows
    have h1 : obs (foldD u (insD D i) n s) = obs (foldD u (fun k => insD D i k && decide (k ≤ i)) n s) :=
      fold_obs u obs hu _ _ n s (fun k hk => by
        by_cases ek : ∃ s,obs (u k s) ≠ obs s
        · left
          by_cases hki : k ≤ i
          · simp [hki]
          · have : D k = false := by
              cases hdk : D k
              · rfl
              · have := h e k hk ek hdk; omega
            simp [insD,this]; omega
        · exact .inr (fun s => Classical.byContradiction fun hne => ek ⟨s,hne⟩))
    have h2 : ∀ m,i < m → foldD u (fun k => insD D i k && decide (k ≤ i)) m s = u i (foldD u D i s) := by
      intro m
      induction m with
      | zero => intro hm; omega
      | succ m ih =>
        intro hm
        simp only [foldD]
        by_cases hmi : m = i
        · subst hmi
          rw [if_pos (by simp [insD])]
          congr 1
          exact fold_congr u _ _ m s (fun k hk => by simp [insD,show k ≠ m by omega,show k ≤ m by omega])
        · rw [if_neg (by simp; omega)]
          exact ih (by omega)
    rw [h1,h2 n hi]
    refine hu _ _ _ ?_
    have h3 : obs (foldD u D n s) = obs (foldD u (fun k => D k && decide (k < i)) n s) :=
      fold_obs u obs hu _ _ n s (fun k hk => by
        by_cases ek : ∃ s,obs (u k s) ≠ obs s
        · left
          cases hdk : D k
          · simp
          · have := h e k hk ek hdk; simp [this]
        · exact .inr (fun s => Classical.byContradiction fun hne => ek ⟨s,hne⟩))
    have h4 : ∀ m,i ≤ m → foldD u (fun k => D k && decide (k < i)) m s = foldD u D i s := by
      intro m
      induction m with
      | zero => intro hm; have : i = 0 := by omega
                subst this; rfl
      | succ m ih =>
        intro hm
        by_cases hmi : i = m + 1
        · subst hmi
          exact fold_congr u _ _ (m + 1) s (fun k hk => by simp; omega)
        · simp only [foldD]
          rw [if_neg (by simp; omega)]
          exact ih (by omega)
    rw [h3,h4 n (by omega)]
  · have e' : ∀ s,obs (u i s) = obs s := fun s => Classical.byContradiction fun hne => e ⟨s,hne⟩
    rw [e']
    refine fold_obs u obs hu _ _ n s (fun k hk => ?_)
    by_cases hki : k = i
    · subst hki; exact .inr e'
    · left; simp [insD,hki]
/-! Any order -/
theorem wpAny_inv {P : Program} {ops : Array Oper} {Q : Exit → Act → World → Prop} {md : Region.Mode} (Inv : (Nat → Bool) → Act → World → Prop)
    (hstep : ∀ (listed : Array Bool) a w i,listed.size = ops.size → Inv (fun k => listed.getD k false) a w → i ∈ Region.ready md ops listed → wpOp P ops Q i (fun a' w' => Inv (insD (fun k => listed.getD k false) i) a' w') a w)
    (hend : ∀ (listed : Array Bool) a w,listed.size = ops.size → Inv (fun k => listed.getD k false) a w → Region.ready md ops listed = [] → Q .normal a w) :
    ∀ (fuel : Nat) (listed : Array Bool) a w,listed.size = ops.size → (listed.toList.filter (fun b => !b)).length ≤ fuel → Inv (fun k => listed.getD k false) a w → wpAny P md ops Q fuel listed a w := by
  have key : ∀ (listed : Array Bool) (i : Nat),i ∈ Region.ready md ops listed → i < listed.size ∧ listed.getD i false = false := by
    intro listed i hi
    have := (mem_ready.1 hi).1
    have hlt : i < listed.size := by
      rcases Nat.lt_or_ge i listed.size with h | h
      · exact h
      · simp [h] at this
    exact ⟨hlt,by simp [hlt] at this ⊢; exact this⟩
  intro fuel
  induction fuel with
  | zero =>
    intro listed a w hs hc hI
    have hr : Region.ready md ops listed = [] := by
      rcases h : Region.ready md ops listed with _ | ⟨i,r⟩
      · rfl
      · have hi : i ∈ Region.ready md ops listed := by rw [h]; simp
        obtain ⟨hlt,hf⟩ := key listed i hi
        have : false ∈ listed.toList.filter (fun b => !b) := by
          simp only [List.mem_filter]
          refine ⟨?_,rfl⟩
          have : listed[i] = false := by simpa [hlt] using hf
          rw [← this]
          exact Array.mem_toList_iff.2 (Array.getElem_mem hlt)
        have := List.length_pos_of_mem this
        omega
    exact ⟨hr,hend listed a w hs hI hr⟩
  | succ fuel ih =>
    intro listed a w hs hc hI
    refine ⟨fun hr => hend listed a w hs hI hr,fun i hi => ?_⟩
    obtain ⟨hlt,hf⟩ := key listed i hi
    refine wpOp_mono (fun a' w' hI' => ih (listed.setIfInBounds i true) a' w' (by simp [hs]) ?_ ?_) (hstep listed a w i hs hI hi)
    · have hl : listed[i] = false := by simpa [hlt] using hf
      have e : listed.toList = listed.toList.take i ++ false :: listed.toList.drop (i + 1) := by
        have h1 := (List.take_append_drop i listed.toList).symm
        rw [List.drop_eq_getElem_cons (by simpa using hlt)] at h1
        simpa [hl] using h1
      have hlen : (listed.toList.take i).length = i := by simp; omega
      have e2 : (listed.setIfInBounds i true).toList = listed.toList.take i ++ true :: listed.toList.drop (i + 1) := by
        rw [Array.toList_setIfInBounds]
        conv => lhs; rw [e]
        rw [List.set_append_right _ _ (by omega)]
        simp [hlen]
      rw [e2]
      rw [e] at hc
      simp at hc ⊢
      omega
    · have e : (fun k => (listed.setIfInBounds i true).getD k false) = insD (fun k => listed.getD k false) i := by
        funext k
        by_cases h : k = i
        · subst h; simp [insD,hlt]
        · simp only [insD]
          rw [Array.getD_eq_getD_getElem?,Array.getElem?_setIfInBounds_ne (fun q => h q.symm),← Array.getD_eq_getD_getElem?]
          simp [h]
      rw [e]
      exact hI'
end Vc
namespace Vc
open Go Go.RowKit Wf
section
variable {V : Cx} {F : Fx V} {β : Nat → Bt} {fp : Nat → Nat → Prop}
theorem pv_congr {Γ : TypeId → Option TI} {t t' : List (Nat × SV)} {op : Op} (h : ∀ x ∈ op.operands,ev t x = ev t' x) : pv Γ t op = pv Γ t' op := by
  have opt : ∀ o : Option Operand,(∀ x,o = some x → ev t x = ev t' x) → optE t o = optE t' o := fun o ho => by
    cases o with
    | none => rfl
    | some x => simp [optE,ho x rfl]
  have lst : ∀ l : List Operand,(∀ x ∈ l,ev t x = ev t' x) → l.mapM (ev t) = l.mapM (ev t') := fun l => by
    induction l with
    | nil => intro _; rfl
    | cons x r ih => intro hl; simp only [List.mapM_cons]; rw [hl x (by simp),ih (fun y hy => hl y (by simp [hy]))]
  cases op <;> simp only [pv]
  case move x => simp only [XX]; rw [h x (by simp [Op.operands])]
  case assign x => simp only [XX]; rw [h x (by simp [Op.operands])]
  case pick c a b => simp only [Ya]; rw [h c (by simp [Op.operands]),h a (by simp [Op.operands]),h b (by simp [Op.operands])]
  case fieldAddr S x f => simp only [Xb]; rw [h x (by simp [Op.operands])]
  case field S x f => simp only [Xu]; rw [h x (by simp [Op.operands])]
  case binOp op T x y yt => simp only [oBin]; rw [h x (by simp [Op.operands]),h y (by simp [Op.operands])]
  case unOp op T x => simp only [oUn]; rw [h x (by simp [Op.operands])]
  case convert S D x => simp only [Ye]; rw [h x (by simp [Op.operands])]
  case slice T x lo hi mx =>
    cases mx with
    | some _ => rfl
    | none =>
      simp only [Xw]
      rw [h x (by simp [Op.operands]),opt lo (fun y hy => h y (by simp [Op.operands,hy])),opt hi (fun y hy => h y (by simp [Op.operands,hy]))]
  case index T x i => simp only [Xx]; rw [h x (by simp [Op.operands]),h i (by simp [Op.operands])]
  case build T ps =>
    have hp : ∀ l : List (Nat × Operand),(∀ x ∈ l,ev t x.2 = ev t' x.2) → Xl t l = Xl t' l := fun l => by
      induction l with
      | nil => intro _; rfl
      | cons x r ih => intro hl; obtain ⟨i,o⟩ := x; simp only [Xl]; rw [hl (i,o) (by simp),ih (fun y hy => hl y (by simp [hy]))]
    simp only [Xk]
    rw [hp ps.toList (fun x hx => h x.2 (by simp only [Op.operands]; rw [List.mem_toArray]; exact List.mem_map_of_mem hx))]
  case indexAddr T x i => simp only [XS]; rw [h x (by simp [Op.operands]),h i (by simp [Op.operands])]
  case makeInterface T x => simp only [oIface]; rw [h x (by simp [Op.operands])]
  case typeAssert x S A ok =>
    cases ok
    · rfl
    · simp only [oAssert]; rw [h x (by simp [Op.operands])]
  case extract x i => simp only [Xh]; rw [h x (by simp [Op.operands])]
  case makeFunc f first caps =>
    simp only [Yh]
    unfold evs
    rw [lst caps.toList (fun x hx => h x (by simp only [Op.operands]; exact Array.mem_append.2 (.inr (Array.mem_toList_iff.1 hx)))),
      lst first.toList (fun x hx => h x (by simp only [Op.operands]; exact Array.mem_append.2 (.inl (Array.mem_toList_iff.1 hx))))]
  case call c =>
    obtain ⟨callee,args,ts⟩ := c
    cases callee <;> (try simp only)
    rename_i b
    cases b <;> (try simp only)
    simp only [oLen]
    split
    · rename_i x hx
      rw [h x (by
        simp only [Op.operands,Call.operands]
        refine Array.mem_append.2 (.inr (Array.mem_toList_iff.1 ?_))
        rw [hx]; simp)]
    · rfl
theorem shape_setR (c : List SV) (r : Res) : shape (setR c r) = shape r := by cases r <;> rfl
theorem getB_shape {bs : List Res} {i : Nat} {c : List SV} {T : TypeId} {m : Bool} (h : getB bs i = some (c,T,m)) : ∃ r,bs[i]? = some r ∧ cellsR r = c ∧ ∀ c' r',shape r' = shape r → cellsR r' = c' → (∀ bs' : List Res,bs'[i]? = some r' → getB bs' i = some (c',T,m)) := by
  obtain ⟨r,hr,-,hc⟩ := getB_some h
  refine ⟨r,hr,by rcases hc with rfl | ⟨s,n,rfl⟩ <;> rfl,fun c' r' hs hcr bs' hb => ?_⟩
  unfold getB
  rw [hb]
  rcases hc with rfl | ⟨s,n,rfl⟩ <;> cases r' <;> simp [shape] at hs <;> simp [cellsR] at hcr <;> simp [hs,hcr]
theorem ovl_touch {a b : Nat × Nat × Nat} (h : ovl a b = false) {q : Option Nat} (hq : inR a q) : ¬ touch b a.1 q := by
  rintro ⟨h1,h2⟩
  have : ovl a b = true := by
    unfold ovl
    simp only [Bool.and_eq_true,beq_iff_eq,Bool.or_eq_true,decide_eq_true_eq]
    refine ⟨h1.symm,?_⟩
    rcases h2 with h2 | ⟨p,rfl,h3,h4⟩
    · exact .inl h2
    · rcases hq with hq | ⟨p',hp,h5,h6⟩
      · cases hq
      · cases hp
        exact .inr ⟨by omega,by omega⟩
  rw [h] at this
  cases this
theorem seen_get {j off n : Nat} {bi bs : List Res} (h : seen (j,off,n) bi bs) {c : List SV} {T : TypeId} {m : Bool} (hg : getB bi j = some (c,T,m)) :
    ∃ c',getB bs j = some (c',T,m) ∧ c'.length = c.length ∧ ∀ p,off ≤ p → p < off + n → c'[p]? = c[p]? := by
  obtain ⟨r,hr,rfl,hall⟩ := getB_shape hg
  have key : ∀ q,inR (j,off,n) q → ∃ r',bs[j]? = some r' ∧ ob q r' = ob q r := fun q hq => by
    have := h q hq
    simp only [hr] at this
    cases hbs : bs[j]? with
    | none => rw [hbs] at this; simp at this
    | some r' =>
      rw [hbs] at this
      simp only [Option.map_some,Option.some.injEq] at this
      exact ⟨r',rfl,this⟩
  obtain ⟨r',hr',ho⟩ := key none (.inl rfl)
  simp only [ob,Prod.mk.injEq,and_true] at ho
  refine ⟨cellsR r',hall _ r' ho.1 rfl bs hr',ho.2,fun p h1 h2 => ?_⟩
  obtain ⟨r2,hr2,ho2⟩ := key (some p) (.inr ⟨p,rfl,h1,h2⟩)
  rw [hr'] at hr2
  cases hr2
  simp only [ob,Prod.mk.injEq] at ho2
  exact ho2.2.2
theorem seen_own {j off k : Nat} {bi bs : List Res} (h : seen (j,off,k) bi bs) {c : List SV} {e s n : Nat} {m : Bool} (hg : bi[j]? = some (.own c e s n m)) : ∃ c',bs[j]? = some (.own c' e s n m) := by
  have := h none (.inl rfl)
  simp only [hg] at this
  cases hbs : bs[j]? with
  | none => rw [hbs] at this; simp at this
  | some r' =>
    rw [hbs] at this
    simp only [Option.map_some,Option.some.injEq,ob,Prod.mk.injEq,and_true] at this
    cases r' <;> simp [shape] at this
    rename_i c' _ _ _ _
    obtain ⟨⟨rfl,rfl,rfl,rfl⟩,-⟩ := this
    exact ⟨c',rfl⟩
theorem partS_congr {agg : Bool} {off n : Nat} {c c' : List SV} (hn : 0 < n) (h : ∀ p,off ≤ p → p < off + n → c'[p]? = c[p]?) : XM agg off n c' = XM agg off n c := by
  unfold XM
  cases agg
  · simp [h off (Nat.le_refl _) (by omega)]
  · simp only [if_true]
    congr 2
    apply List.ext_getElem?
    intro q
    simp only [List.getElem?_take,List.getElem?_drop]
    split
    · exact h (off + q) (by omega) (by omega)
    · rfl
theorem mapM_congr {t t' : List (Nat × SV)} : ∀ (l : List Operand),(∀ x ∈ l,ev t x = ev t' x) → evs t l = evs t' l
  | [],_ => rfl
  | x :: r,h => by
    have := mapM_congr r (fun y hy => h y (by simp [hy]))
    unfold evs at this ⊢
    simp only [List.mapM_cons]
    rw [h x (by simp),this]
theorem evParts_congr {t t' : List (Nat × SV)} : ∀ (l : List (Nat × Operand)),(∀ x ∈ l.map (·.2),ev t x = ev t' x) → Xl t l = Xl t' l
  | [],_ => rfl
  | (i,x) :: r,h => by
    simp only [Xl]
    rw [h x (by simp),evParts_congr r (fun y hy => h y (by simp only [List.map_cons,List.mem_cons]; exact .inr hy))]
def hdS : List (Nat × SV) → SV
  | (_,x) :: _ => x
  | [] => .v undef
theorem stepN_put {dst : Option Tmp} {op : Op} {t : List (Nat × SV)} {b : List Res} {c : Prop} {σ' : St} (hs : Yl V dst op ⟨t,b⟩ = some (c,σ')) : ∃ x,σ'.t = put dst x t := by
  cases op <;> simp only [Yl,reduceCtorEq] at hs
  case call cl =>
    obtain ⟨callee,args,ts⟩ := cl
    cases callee <;> (try simp only [reduceCtorEq] at hs)
    rename_i bi
    cases bi <;> (try simp only [reduceCtorEq] at hs)
    case append =>
      unfold Xm at hs
      (repeat' split at hs) <;> try (cases hs; done)
      cases hs
      exact ⟨_,rfl⟩
    all_goals
      unfold Xq at hs
      (repeat' split at hs) <;> try (cases hs; done)
      obtain ⟨z,hz,e⟩ := Option.map_eq_some_iff.1 hs
      cases e
      exact ⟨z,rfl⟩
  case slice T x lo hi mx =>
    cases mx with
    | some mx =>
      cases lo <;> cases hi <;> simp only [reduceCtorEq] at hs
      unfold nCap at hs
      (repeat' split at hs) <;> try (cases hs; done)
      cases hs
      exact ⟨_,rfl⟩
    | none =>
    simp only at hs
    unfold Xj at hs
    (repeat' split at hs) <;> try (cases hs; done)
    cases hs
    exact ⟨_,rfl⟩
  case convert S D x =>
    unfold Yb at hs
    (repeat' split at hs) <;> try (cases hs; done)
    all_goals
      cases hs
      exact ⟨_,rfl⟩
  all_goals
    first | unfold Yn at hs | unfold Xa at hs | unfold Xc at hs
    (repeat' split at hs) <;> try (cases hs; done)
    cases hs
    exact ⟨_,rfl⟩
theorem stepN_map {op : Op} {t t' : List (Nat × SV)} {b : List Res} (h : ∀ x ∈ op.operands,ev t' x = ev t x) (dst : Option Tmp) :
    Yl V dst op ⟨t',b⟩ = (Yl V (some 0) op ⟨t,b⟩).map fun p => (p.1,⟨put dst (hdS p.2.t) t',p.2.b⟩) := by
  have opt : ∀ o : Option Operand,(∀ x,o = some x → ev t' x = ev t x) → optE t' o = optE t o := fun o ho => by
    cases o with
    | none => rfl
    | some x => simp [optE,ho x rfl]
  cases op <;> simp only [Yl,Option.map_none]
  case call cl =>
    obtain ⟨callee,args,ts⟩ := cl
    have harg : ∀ x ∈ args.toList,ev t' x = ev t x := fun x hx => h x (by
      simp only [Op.operands,Call.operands]
      exact Array.mem_append.2 (.inr (Array.mem_toList_iff.1 hx)))
    cases callee <;> (try simp only [Option.map_none])
    rename_i bi
    cases bi <;> (try simp only [Option.map_none])
    case append =>
      unfold Xm
      generalize args.toList = L at harg
      generalize ts.toList = TS
      match L,harg with
      | [s,x],harg =>
        simp only [harg s (by simp),harg x (by simp)]
        (repeat' split) <;> rfl
      | [],_ => rfl
      | [_],_ => rfl
      | _ :: _ :: _ :: _,_ => rfl
    all_goals
      unfold Xq
      generalize args.toList = L at harg
      match L,harg with
      | [s,x],harg =>
        simp only [harg s (by simp),harg x (by simp)]
        split
        · split
          · rw [Option.map_map]; rfl
          · rfl
        · rfl
      | [],_ => rfl
      | [_],_ => rfl
      | _ :: _ :: _ :: _,_ => rfl
  case makeSlice T l cc =>
    unfold Yn
    simp only [h l (by simp [Op.operands]),h cc (by simp [Op.operands])]
    (repeat' split) <;> rfl
  case buildSlice T n ps =>
    unfold Xa
    simp only [evParts_congr (t := t') (t' := t) ps.toList (fun x hx => h x (by simp only [Op.operands]; rw [List.mem_toArray]; exact hx))]
    (repeat' split) <;> rfl
  case indexAddr T x i =>
    unfold Xc
    simp only [h x (by simp [Op.operands]),h i (by simp [Op.operands])]
    (repeat' split) <;> rfl
  case slice T x lo hi mx =>
    cases mx with
    | some mx =>
      cases lo <;> cases hi <;> simp only [Option.map_none]
      rename_i hi
      unfold nCap
      simp only [h x (by simp [Op.operands]),h hi (by simp [Op.operands]),h mx (by simp [Op.operands])]
      (repeat' split) <;> rfl
    | none =>
    simp only
    unfold Xj
    simp only [h x (by simp [Op.operands]),opt lo (fun y hy => h y (by simp [Op.operands,hy])),opt hi (fun y hy => h y (by simp [Op.operands,hy]))]
    (repeat' split) <;> rfl
  case convert S D x =>
    unfold Yb
    simp only [h x (by simp [Op.operands])]
    (repeat' split) <;> rfl
theorem stepN_same {op : Op} {t t' : List (Nat × SV)} {b : List Res} (h : ∀ x ∈ op.operands,ev t' x = ev t x) {c : Prop} {σ' : St} (hs : Yl V (some 0) op ⟨t,b⟩ = some (c,σ')) :
    ∃ x,σ'.t = (0,x) :: t ∧ ∀ dst,Yl V dst op ⟨t',b⟩ = some (c,⟨put dst x t',σ'.b⟩) := by
  obtain ⟨x,hx⟩ := stepN_put hs
  refine ⟨x,hx,fun dst => ?_⟩
  rw [stepN_map h dst,hs]
  simp only [Option.map_some,hx]
  rfl
theorem idxs_mem {l : List (Option SV)} {j n : Nat} (h : some (SV.o j n) ∈ l) : (j,0,0) ∈ idxs l := by
  induction l with
  | nil => cases h
  | cons x r ih =>
    simp only [List.mem_cons] at h
    rcases h with h | h
    · subst h; simp [idxs]
    · have := ih h
      cases x with
      | none => simpa [idxs] using this
      | some v => cases v <;> simp [idxs,this]
theorem idxs_zero {l : List (Option SV)} {x : Nat × Nat × Nat} (h : x ∈ idxs l) : x.2.2 = 0 := by
  induction l with
  | nil => cases h
  | cons y r ih =>
    cases y with
    | none => exact ih (by simpa [idxs] using h)
    | some v =>
      cases v
      case o j n =>
        simp only [idxs,List.mem_cons] at h
        rcases h with rfl | h
        · rfl
        · exact ih h
      case f j n =>
        simp only [idxs,List.mem_cons] at h
        rcases h with rfl | h
        · rfl
        · exact ih h
      all_goals exact ih (by simpa [idxs] using h)
theorem op_idx {op : Op} {t : List (Nat × SV)} {o : Operand} (ho : o ∈ opL op) {j n : Nat} (he : ev t o = some (.o j n)) : (j,0,0) ∈ idxs ((opL op).map (ev t)) :=
  idxs_mem (by rw [← he]; exact List.mem_map_of_mem ho)
theorem dst_keep {e s : Nat} {x : SV} {b bs : List Res} {n : Nat} {c : List SV} (h : dstS b e s x = some (n,c,bs)) {j : Nat} (hj : ∀ i m,x = .o i m → i ≠ j) : bs[j]? = b[j]? ∧ bs.length = b.length := by
  cases x <;> simp only [dstS,reduceCtorEq] at h
  case nils => cases h; exact ⟨rfl,rfl⟩
  case o i m =>
    split at h
    · split at h
      · cases h
        exact ⟨List.getElem?_set_ne (hj i _ rfl),by simp⟩
      · cases h
    · cases h
  case f i m =>
    split at h
    · split at h
      · cases h
        exact ⟨rfl,rfl⟩
      · cases h
    · cases h
theorem app_keep {b : List Res} {X : Res} {j : Nat} (hj : j ≠ b.length) : (b ++ [X])[j]? = b[j]? := by
  rcases Nat.lt_or_ge j b.length with h | h
  · rw [List.getElem?_append_left h]
  · rw [List.getElem?_append_right h,List.getElem?_eq_none h,List.getElem?_eq_none (by simp; omega)]
theorem stepN_keep {op : Op} {t : List (Nat × SV)} {b : List Res} {c : Prop} {σ' : St} (hs : Yl V (some 0) op ⟨t,b⟩ = some (c,σ')) {j : Nat} (hj : j ≠ b.length) (hi : ∀ x ∈ idxs ((opL op).map (ev t)),x.1 ≠ j) : σ'.b[j]? = b[j]? := by
  have hne : ∀ (o : Operand),o ∈ opL op → ∀ i m,ev t o = some (.o i m) → i ≠ j := fun o ho i m he => hi _ (op_idx ho he)
  cases op <;> simp only [Yl,reduceCtorEq] at hs
  case call cl =>
    obtain ⟨callee,args,ts⟩ := cl
    have harg : ∀ x ∈ args.toList,x ∈ opL (Op.call ⟨callee,args,ts⟩) := fun x hx => hx
    cases callee <;> (try simp only [reduceCtorEq] at hs)
    rename_i bi
    cases bi <;> (try simp only [reduceCtorEq] at hs)
    case append =>
      unfold Xm at hs
      split at hs
      · rename_i s x hl
        (repeat' split at hs) <;> try (cases hs; done)
        cases hs
        rename_i hd _ _ _ _
        obtain ⟨h1,h2⟩ := dst_keep hd (j := j) (fun i m e => hne s (harg s (by rw [hl]; simp)) i m (by rw [← e]; assumption))
        simp only
        rw [app_keep (by rw [h2]; exact hj),h1]
      · cases hs
    all_goals
      unfold Xq at hs
      (repeat' split at hs) <;> try (cases hs; done)
      obtain ⟨z,hz,e⟩ := Option.map_eq_some_iff.1 hs
      cases e
      rfl
  case makeSlice T l cc =>
    unfold Yn at hs
    (repeat' split at hs) <;> try (cases hs; done)
    cases hs
    exact app_keep hj
  case buildSlice T n ps =>
    unfold Xa at hs
    (repeat' split at hs) <;> try (cases hs; done)
    cases hs
    exact app_keep hj
  case indexAddr T x i =>
    unfold Xc at hs
    (repeat' split at hs) <;> try (cases hs; done)
    cases hs
    rfl
  case slice T x lo hi' mx =>
    cases mx with
    | some mx =>
      cases lo <;> cases hi' <;> simp only [reduceCtorEq] at hs
      unfold nCap at hs
      (repeat' split at hs) <;> try (cases hs; done)
      cases hs
      rfl
    | none =>
    simp only at hs
    unfold Xj at hs
    (repeat' split at hs) <;> try (cases hs; done)
    rename_i hre
    cases hs
    simp only
    unfold reS at hre
    split at hre
    · rename_i i m he
      have hij : i ≠ j := hne x (by simp [opL]) i m he
      split at hre
      · split at hre
        · (repeat' split at hre) <;> cases hre
          all_goals first
            | rw [app_keep (by simpa using hj),List.getElem?_set_ne hij]
            | exact app_keep hj
        · cases hre
      · cases hre
    · cases hre
  case convert S D x =>
    unfold Yb at hs
    (repeat' split at hs) <;> try (cases hs; done)
    all_goals cases hs
    all_goals first | rfl | exact app_keep hj
theorem stepN_reads {op : Op} (hr : Xz V op = true) {t : List (Nat × SV)} {b b' : List Res} {c : Prop} {σ' : St} (hs : Yl V (some 0) op ⟨t,b⟩ = some (c,σ')) (hc : c)
    (hseen : ∀ x ∈ idxs ((opL op).map (ev t)),seen x b b') : ∃ c',c' ∧ Yl V (some 0) op ⟨t,b'⟩ = some (c',⟨σ'.t,b'⟩) := by
  cases op <;> simp only [Yl,reduceCtorEq] at hs
  case call cl =>
    obtain ⟨callee,args,ts⟩ := cl
    cases callee <;> (try simp only [reduceCtorEq] at hs)
    rename_i bi
    cases bi <;> (try simp only [reduceCtorEq] at hs)
    case append => simp [Xz] at hr
    all_goals
      simp only [Yl]
      unfold Xq at hs ⊢
      split at hs
      · rename_i s x hl
        simp only
        split at hs
        · rename_i u hu
          split at hs
          · rename_i v hv
            obtain ⟨z,hz,e⟩ := Option.map_eq_some_iff.1 hs
            cases e
            exact ⟨True,trivial,by simp [hl,hu,hv,hz]⟩
          · cases hs
        · cases hs
      · cases hs
  case indexAddr T x i =>
    simp only [Yl]
    unfold Xc at hs ⊢
    split at hs
    · rename_i e hk
      split at hs
      · rename_i s hsz
        split at hs
        · rename_i u hu
          split at hs
          · rename_i k kk hi
            split at hs
            · rename_i c0 y ha
              cases hs
              simp only at hu hi
              simp only [hu,hi]
              unfold Ym at ha
              split at ha
              · rename_i j n
                split at ha
                · rename_i cc e1 s1 n1 m1 hj
                  cases ha
                  obtain ⟨c'',hb'⟩ := seen_own (hseen (j,0,0) (op_idx (o := x) (by simp [opL]) hu)) hj
                  simp only at hc
                  refine ⟨_,?_,by simp only [Ym,hb']; rfl⟩
                  refine ⟨hc.1,?_⟩
                  have h2 := hc.2
                  simp only [Xc.sizeIs,hj] at h2
                  simp only [Xc.sizeIs,hb']
                  exact h2
                · cases ha
              · cases ha
            · cases hs
          · cases hs
        · cases hs
      · cases hs
    · cases hs
  case slice T x lo hi mx =>
    cases mx with
    | none => cases lo <;> cases hi <;> simp [Xz] at hr
    | some mx =>
      cases lo with
      | some _ => cases hi <;> simp [Xz] at hr
      | none =>
        cases hi with
        | none => simp [Xz] at hr
        | some hi =>
          simp only [Yl]
          simp only at hs
          unfold nCap at hs ⊢
          split at hs
          · rename_i e hk
            split at hs
            · rename_i s hsz
              split at hs
              · rename_i u hu
                split at hs
                · rename_i k1 h1 hhi
                  split at hs
                  · rename_i k2 h2 hmx
                    split at hs
                    · rename_i c0 y ha
                      cases hs
                      simp only at hu hhi hmx
                      simp only [hu,hhi,hmx]
                      unfold capS at ha
                      split at ha
                      · rename_i j n
                        split at ha
                        · rename_i cc e1 s1 n1 m1 hj
                          cases ha
                          obtain ⟨c'',hb'⟩ := seen_own (hseen (j,0,0) (op_idx (o := x) (by simp [opL]) hu)) hj
                          refine ⟨_,hc,by simp only [capS,hb']⟩
                        · cases ha
                      · cases ha
                        exact ⟨_,hc,by simp only [capS]⟩
                      · cases ha
                    · cases hs
                  · cases hs
                · cases hs
              · cases hs
            · cases hs
          · cases hs
  all_goals simp [Xz] at hr
theorem stepD_go {dst : Option Tmp} {op : Op} {t t' : List (Nat × SV)} {b b' : List Res} (h : ∀ x ∈ op.operands,ev t' x = ev t x) {c : Prop} {r : RecE} (hs : XV V op ⟨t,b⟩ = .val c r) (hc : c) (hb : r.nb.isSome = true → b' = b) (hseen : r.nb = none → ∀ x ∈ r.rd,seen x b b') :
    HoldsR V (fun σ => σ = ⟨put dst r.x t',r.nb.getD b'⟩) (XR V dst op ⟨t',b'⟩) := by
  unfold XV at hs
  unfold XR
  rw [pv_congr (t := t') (t' := t) h]
  simp only at hs
  cases hp : pv V.Γ t op with
  | some p =>
    rw [hp] at hs
    obtain ⟨c',x⟩ := p
    simp only [goD,valD] at hs
    cases hs
    exact ⟨hc,rfl⟩
  | none =>
    rw [hp] at hs
    simp only [goD,goR] at hs ⊢
    cases hn : Yl V (some 0) op ⟨t,b⟩ with
    | some p =>
      obtain ⟨c',σ'⟩ := p
      rw [hn] at hs
      obtain ⟨x,hx,-⟩ := stepN_same (t' := t) (fun _ _ => rfl) hn
      simp only [dN,hx] at hs
      split at hs
      · rename_i hrd
        cases hs
        obtain ⟨c2,hc2,e2⟩ := stepN_reads hrd hn hc (hseen rfl)
        obtain ⟨x2,hx2,e3⟩ := stepN_same h e2
        simp only [hx,List.cons.injEq,Prod.mk.injEq,true_and,and_true] at hx2
        rw [e3 dst]
        simp only [orN]
        exact ⟨hc2,by rw [← hx2]; rfl⟩
      · cases hs
        obtain rfl := hb rfl
        obtain ⟨x2,hx2,e3⟩ := stepN_same h hn
        simp only [hx,List.cons.injEq,Prod.mk.injEq,true_and,and_true] at hx2
        rw [e3 dst]
        simp only [orN]
        exact ⟨hc,by rw [← hx2]; rfl⟩
    | none =>
      rw [hn] at hs
      simp only [dN] at hs
      cases op <;> simp only [Xv,reduceCtorEq] at hs
      case alloc T =>
        unfold XD at hs
        simp only [Yl,orN,Yd,XC]
        split at hs
        · rename_i ti hti
          cases hs
          obtain rfl := hb rfl
          exact ⟨trivial,rfl⟩
        · cases hs
      case box T x =>
        unfold dBox at hs
        simp only [Yl,orN,Yd,sBox]
        split at hs
        · rename_i u hu
          cases hs
          obtain rfl := hb rfl
          simp only at hu
          rw [h x (by simp [Op.operands]),hu]
          exact ⟨hc,rfl⟩
        · cases hs
      case load T x =>
        unfold XI at hs
        simp only [Yl,orN,Yd,XU]
        rw [h x (by simp [Op.operands])]
        (repeat' split at hs) <;> try (cases hs; done)
        rename_i i off he _ c0 T0 m0 hg _ ti hti _ y hy
        cases hs
        simp only at he hg
        obtain ⟨c1,hg1,hl1,hp1⟩ := seen_get (hseen rfl (i,off,ti.size) (by simp)) hg
        rw [he]
        simp only [hg1,hti,partS_congr hc.2 hp1,hy]
        exact ⟨by rw [hl1]; exact hc.1,rfl⟩
      case store T x y =>
        unfold XF at hs
        simp only [Yl,orN,Yd,XH]
        rw [h x (by simp [Op.operands]),h y (by simp [Op.operands])]
        (repeat' split at hs) <;> try (cases hs; done)
        rename_i i off he _ u hu _ c0 T0 m0 hg _ s hsz
        cases hs
        obtain rfl := hb rfl
        simp only at he hg hu
        rw [he,hu]
        simp only [hg,hsz]
        exact ⟨⟨hc.1,hc.2.1,hc.2.2.1,hc.2.2.2.1⟩,rfl⟩
      case build T ps =>
        unfold XB at hs
        simp only [Yl,orN,Yd,Xr]
        rw [evParts_congr (t := t') (t' := t) ps.toList (fun x hx => h x (by simp only [Op.operands]; rw [List.mem_toArray]; exact hx))]
        (repeat' split at hs) <;> try (cases hs; done)
        rename_i ti hti _ fs hk _ l hl _ cc hcc
        simp only [valD] at hs
        cases hs
        simp only at hl
        simp only [hti,hk,hl,hcc]
        exact ⟨trivial,rfl⟩
      case nilCheck x =>
        unfold dNil at hs
        simp only [Yl,orN,Yd,sNil]
        rw [h x (by simp [Op.operands])]
        split at hs
        · rename_i i off he
          simp only [valD] at hs
          cases hs
          simp only at he
          rw [he]
          exact ⟨trivial,rfl⟩
        · rename_i f l he
          simp only [valD] at hs
          cases hs
          simp only at he
          rw [he]
          exact ⟨hc,rfl⟩
        · cases hs
      case call cl =>
        obtain ⟨callee,args,ts⟩ := cl
        cases callee <;> simp only [reduceCtorEq] at hs
        unfold XK at hs
        (repeat' split at hs) <;> cases hs
theorem stepD_call {dst : Option Tmp} {op : Op} {t t' : List (Nat × SV)} {b b' : List Res} (h : ∀ x ∈ op.operands,ev t' x = ev t x) {g : FuncId} {args : List SV} (hs : XV V op ⟨t,b⟩ = .call g args) : XR V dst op ⟨t',b'⟩ = .call g args dst ⟨t',b'⟩ := by
  unfold XV at hs
  unfold XR
  rw [pv_congr (t := t') (t' := t) h]
  simp only at hs
  cases hp : pv V.Γ t op with
  | some p => rw [hp] at hs; obtain ⟨c',x⟩ := p; simp [goD,valD] at hs
  | none =>
    rw [hp] at hs
    simp only [goD,goR] at hs ⊢
    cases hn : Yl V (some 0) op ⟨t,b⟩ with
    | some p =>
      obtain ⟨c',σ'⟩ := p
      rw [hn] at hs
      obtain ⟨x,hx,-⟩ := stepN_same (t' := t) (fun _ _ => rfl) hn
      simp only [dN,hx] at hs
      split at hs <;> cases hs
    | none =>
      rw [hn] at hs
      simp only [dN] at hs
      cases op <;> simp only [Xv,reduceCtorEq] at hs
      case alloc T => unfold XD at hs; (repeat' split at hs) <;> cases hs
      case box T x => unfold dBox at hs; (repeat' split at hs) <;> cases hs
      case load T x => unfold XI at hs; (repeat' split at hs) <;> cases hs
      case store T x y => unfold XF at hs; (repeat' split at hs) <;> cases hs
      case build T ps => unfold XB at hs; (repeat' split at hs) <;> (try simp only [valD] at hs) <;> cases hs
      case nilCheck x => unfold dNil at hs; (repeat' split at hs) <;> (try simp only [valD] at hs) <;> cases hs
      case call cl =>
        obtain ⟨callee,args,ts⟩ := cl
        cases callee <;> simp only [reduceCtorEq] at hs
        rename_i f
        unfold XK at hs
        simp only [Yl,orN,Yd,XL]
        rw [h f (by simp [Op.operands,Call.operands])]
        have he : evs t' args.toList = evs t args.toList := mapM_congr args.toList (fun x hx => h x (by
          simp only [Op.operands,Call.operands]
          exact Array.mem_append.2 (.inr (Array.mem_toList_iff.1 hx))))
        rw [he]
        split at hs
        · rename_i ff caps hf
          split at hs
          · rename_i l hl
            simp only at hf hl
            rw [hf]
            simp only [hl]
            cases hs
            rfl
          · cases hs
        · cases hs
def UnE (r : RecE) (bi : List Res) : Prop := ∀ nb,r.nb = some nb → r.all = false → ∀ j q,(∀ x ∈ r.wr,¬ touch x j q) → (nb[j]?).map (ob q) = (bi[j]?).map (ob q)
theorem stepD_un {op : Op} {t : List (Nat × SV)} {b : List Res} {c : Prop} {r : RecE} (hs : XV V op ⟨t,b⟩ = .val c r) (hc : c) : UnE r b := by
  intro nb hnb hall j q hwr
  unfold XV at hs
  simp only at hs
  cases hp : pv V.Γ t op with
  | some p => rw [hp] at hs; obtain ⟨c',x⟩ := p; simp only [goD,valD] at hs; cases hs; cases hnb
  | none =>
    rw [hp] at hs
    simp only [goD] at hs
    cases hn : Yl V (some 0) op ⟨t,b⟩ with
    | some p =>
      obtain ⟨c',σ'⟩ := p
      rw [hn] at hs
      obtain ⟨x,hx,-⟩ := stepN_same (t' := t) (fun _ _ => rfl) hn
      simp only [dN,hx] at hs
      split at hs
      · cases hs; cases hnb
      · cases hs
        cases hnb
        rw [stepN_keep hn (j := j) (fun e => hwr (b.length,0,0) (by simp) ⟨e.symm,.inl rfl⟩) (fun x hx e => hwr x (by simp [hx]) ⟨e,.inl ?_⟩)]
        exact idxs_zero hx
    | none =>
      rw [hn] at hs
      simp only [dN] at hs
      cases op <;> simp only [Xv,reduceCtorEq] at hs
      case alloc T =>
        unfold XD at hs
        (repeat' split at hs) <;> try (cases hs; done)
        cases hs; cases hnb
        rw [app_keep (fun e => hwr (b.length,0,0) (by simp) ⟨e.symm,.inl rfl⟩)]
      case box T x =>
        unfold dBox at hs
        (repeat' split at hs) <;> try (cases hs; done)
        cases hs; cases hnb
        rw [app_keep (fun e => hwr (b.length,0,0) (by simp) ⟨e.symm,.inl rfl⟩)]
      case load T x =>
        unfold XI at hs
        (repeat' split at hs) <;> try (cases hs; done)
        cases hs; cases hnb
      case store T x y =>
        unfold XF at hs
        (repeat' split at hs) <;> try (cases hs; done)
        rename_i i off he _ u hu _ c0 T0 m0 hg _ s hsz
        cases hs; cases hnb
        obtain ⟨-,-,h3,h4,h5⟩ := hc
        simp only at hg hwr
        obtain ⟨r0,hr0,-,hc0⟩ := getB_some hg
        rw [setB_at hr0]
        by_cases hji : i = j
        · subst hji
          have hil : i < b.length := (List.getElem?_eq_some_iff.1 hr0).1
          rw [List.getElem?_set_self hil,hr0]
          have hcell : cellsR r0 = c0 := by rcases hc0 with rfl | ⟨s',n',rfl⟩ <;> rfl
          have hcell2 : cellsR (setR (Xs c0 off (cells u)) r0) = Xs c0 off (cells u) := by rcases hc0 with rfl | ⟨s',n',rfl⟩ <;> rfl
          have hlen : (Xs c0 off (cells u)).length = c0.length := by simp [Xs]; omega
          simp only [Option.map_some,ob,shape_setR,hcell,hcell2,hlen]
          congr 3
          cases q with
          | none => rfl
          | some p =>
            have hpr : ¬ (off ≤ p ∧ p < off + s) := fun hh => hwr (i,off,s) (by simp) ⟨rfl,.inr ⟨p,rfl,hh.1,hh.2⟩⟩
            simp only [Xs]
            rcases Nat.lt_or_ge p off with hlt | hge
            · rw [List.append_assoc,List.getElem?_append_left (by simp; omega),List.getElem?_take,if_pos hlt]
            · have hge2 : off + s ≤ p := by omega
              rw [List.getElem?_append_right (by simp; omega),List.getElem?_drop]
              congr 1
              simp
              omega
        · rw [List.getElem?_set_ne hji]
      case build T ps =>
        unfold XB at hs
        (repeat' split at hs) <;> (try simp only [valD] at hs) <;> cases hs
        cases hnb
      case nilCheck x =>
        unfold dNil at hs
        (repeat' split at hs) <;> (try simp only [valD] at hs) <;> cases hs
        all_goals cases hnb
      case call cl =>
        obtain ⟨callee,args,ts⟩ := cl
        cases callee <;> simp only [reduceCtorEq] at hs
        unfold XK at hs
        (repeat' split at hs) <;> cases hs
end
end Vc
namespace Vc
open Go Go.RowKit Wf
section
variable {V : Cx} {F : Fx V}
def recE0 : RecE := ⟨.v undef,none,false,[],[]⟩
def StepE (F : Fx V) (ops : Array Oper) (i : Nat) (ti : List (Nat × SV)) (bi : List Res) (r : RecE) : Prop :=
  ∀ (Q : Exit → Act → World → Prop) (K : Act → World → Prop) (a : Act) (w : World) (t' : List (Nat × SV)) (b' : List Res) (o : Oper),ops[i]? = some o →
    (∀ d ∈ o.looksAt ops,lk d t' = lk d ti) → (r.nb.isSome = true → b' = bi) → (r.nb = none → ∀ x ∈ r.rd,seen x bi b') → Rel F ⟨t',b'⟩ a w →
    (∀ a' w',Rel F ⟨put o.dst r.x t',r.nb.getD b'⟩ a' w' → K a' w') → wpOp V.P ops Q i K a w
def dstAt (ops : Array Oper) (k : Nat) : Option Tmp := (ops[k]?).bind (·.dst)
def uS (ops : Array Oper) (recs : List RecE) (k : Nat) (t : List (Nat × SV)) : List (Nat × SV) := put (dstAt ops k) (recs.getD k recE0).x t
theorem rel_congr {t t' : List (Nat × SV)} {b : List Res} {a : Act} {w : World} (h : Rel F ⟨t,b⟩ a w) (e : ∀ d,lk d t' = lk d t) : Rel F ⟨t',b⟩ a w := by
  obtain ⟨β,fp,hf,hw⟩ := h
  exact ⟨β,fp,⟨fun β' hβ => ⟨(hf.ok β' hβ).size,(hf.ok β' hβ).defers,fun d x hd => (hf.ok β' hβ).get d x (by rw [← e]; exact hd)⟩⟩,hw⟩
theorem rel_drew {σ : St} {a : Act} {w : World} (h : Rel F σ a w) : Rel F σ a w.drew := by
  obtain ⟨β,fp,hf,hw⟩ := h
  exact ⟨β,fp,hf,hw.drew⟩
theorem lk_put (d : Nat) (dst : Option Tmp) (x : SV) (t : List (Nat × SV)) : lk d (put dst x t) = if dst = some d then some x else lk d t := by
  cases dst with
  | none => simp [put]
  | some e =>
    simp only [put,lk,Option.some.injEq]
    by_cases h : d = e
    · subst h; simp
    · rw [if_neg h,if_neg (fun q => h q.symm)]
theorem lk_put_congr {d : Nat} {dst : Option Tmp} {x : SV} {t t' : List (Nat × SV)} (h : lk d t = lk d t') : lk d (put dst x t) = lk d (put dst x t') := by
  rw [lk_put,lk_put,h]
theorem dep_closed {ops : Array Oper} {D : Nat → Bool} (hcl : ∀ i o,ops[i]? = some o → D i = true → ∀ e ∈ o.after,Region.binds .any e = true → D e.on = true) :
    ∀ (f i k : Nat),depB ops f i k = true → (∀ o,ops[i]? = some o → ∀ e ∈ o.after,Region.binds .any e = true → D e.on = true) → D k = true
  | 0,i,k,h,_ => by simp [depB] at h
  | f + 1,i,k,h,hp => by
    simp only [depB] at h
    split at h
    · rename_i o ho
      obtain ⟨e,he,h⟩ := Array.any_eq_true'.1 h
      simp only [Bool.and_eq_true,Bool.or_eq_true,beq_iff_eq] at h
      obtain ⟨hb,h⟩ := h
      have hon := hp o ho e he hb
      rcases h with rfl | h
      · exact hon
      · exact dep_closed hcl f e.on k h (fun o' ho' => hcl e.on o' ho' hon)
    · cases h
theorem repl_false (m j : Nat) : (Array.replicate m false).getD j false = false := by
  rcases Nat.lt_or_ge j m with h | h <;> simp [h]
def pY (Y : Nat) : SV := .v (.pointer (some ⟨Y,0,none⟩))
def Fx.at (F : Fx V) {β : Nat → Bt} {fp : Nat → Nat → Prop} {b : List Res} {w : World} (h : Wd F β fp b w) : Fx V :=
  ⟨F.n,w,fun k => ∃ i r,b[i]? = some r ∧ r.mine = true ∧ fp i k,h.env,fun k ⟨i,r,hi,hm,hk⟩ => (h.mine i r hi hm k hk).elim (fun h1 => Nat.le_trans (V.esize _ F.e0) h1) (fun h1 => F.ownG k h1),β,b,fun k => ∃ i r,b[i]? = some r ∧ fp i k⟩
theorem Wd.here {β : Nat → Bt} {fp : Nat → Nat → Prop} {b : List Res} {w : World} (h : Wd F β fp b w) : Wd (F.at h) β fp b w := ⟨FrW.refl _ _,h.bx,fun i r hi hm k hk => .inr ⟨i,r,hi,hm,hk⟩,⟨Agr.refl _ _,Nat.le_refl _⟩,fun i r hi k hk => .inr ⟨i,r,hi,hk⟩⟩
theorem Wd.join {b b₂ : List Res} {w w' : World} {β β₂ : Nat → Bt} {fp fp₂ : Nat → Nat → Prop} (h : Wd F β fp b w) (h2 : Wd (F.at h) β₂ fp₂ b₂ w') : Wd F β₂ fp₂ b₂ w' := by
  have hsz := h2.fr.size
  refine ⟨⟨h2.fr.os.trans h.fr.os,h2.fr.tape.trans h.fr.tape,h2.fr.output.trans h.fr.output,Nat.le_trans h.fr.size hsz,fun k hk hn => ?_⟩,h2.bx,fun i r hi hm k hk => ?_,?_,fun i r hi k hk => ?_⟩
  · rw [h2.fr.block k (Nat.lt_of_lt_of_le hk h.fr.size) (fun ⟨i,r,hi,hm,hk'⟩ => ?_)]
    · exact h.fr.block k hk hn
    · rcases h.mine i r hi hm k hk' with h1 | h1
      · omega
      · exact hn h1
  · rcases h2.mine i r hi hm k hk with h1 | ⟨j,r0,hj,hm0,hk0⟩
    · exact .inl (Nat.le_trans h.fr.size h1)
    · exact h.mine j r0 hj hm0 k hk0
  · exact ⟨fun i hi => (h.ini.agr i hi).trans (h2.ini.agr i (Nat.lt_of_lt_of_le hi h.ini.len)),Nat.le_trans h.ini.len h2.ini.len⟩
  · rcases h2.foot i r hi k hk with h1 | ⟨j,r0,hj,hk0⟩
    · exact .inl (Nat.le_trans h.fr.size h1)
    · exact h.foot j r0 hj k hk0
theorem Wd.adopt {β : Nat → Bt} {fp : Nat → Nat → Prop} {w : World} {b : List Res} (h : Wd F β fp b w) (r : Res) (t : Bt) (f : Nat → Prop)
    (hr : ∀ β',Agr (b.length + 1) (upd β b.length t) β' → Holds β' t f w r) (hf : ∀ k,f k → F.w0.heap.size ≤ k ∧ k < w.heap.size ∧ ∀ i r,b[i]? = some r → ¬ fp i k) :
    Wd F (upd β b.length t) (updF fp b.length f) (b ++ [r]) w := by
  have old : ∀ {i r'},(b ++ [r])[i]? = some r' → (i < b.length ∧ b[i]? = some r') ∨ (i = b.length ∧ r' = r) := fun {i r'} hi => by
    rcases Nat.lt_or_ge i b.length with hlt | hge
    · rw [List.getElem?_append_left hlt] at hi; exact .inl ⟨hlt,hi⟩
    · have hi' : i = b.length := by
        have := (List.getElem?_eq_some_iff.1 hi).1
        rw [List.length_append,List.length_singleton] at this
        omega
      subst hi'
      rw [List.getElem?_append_right (Nat.le_refl _)] at hi
      simp at hi
      exact .inr ⟨rfl,hi.symm⟩
  have fo : ∀ {i},i < b.length → updF fp b.length f i = fp i := fun {i} hi => by funext k; simp [updF,show i ≠ b.length by omega]
  have fn : updF fp b.length f b.length = f := by funext k; simp [updF]
  refine ⟨h.fr,fun β' hβ => ?_,fun i r' hi hm k hk => ?_,?_,fun i r' hi k hk => ?_⟩
  · rw [List.length_append,List.length_singleton] at hβ
    have hb' := h.bx β' hβ.of_upd
    have hlast : β' b.length = t := by rw [← hβ b.length (by omega),upd_at]
    refine ⟨fun i r' hi => ?_,fun i r' hi k hk => ?_,fun i j r1 r2 hi hj hne hm k hk hk' => ?_⟩
    · rcases old hi with ⟨hlt,hi⟩ | ⟨rfl,rfl⟩
      · rw [fo hlt]; exact hb'.holds i r' hi
      · rw [fn,hlast]; exact hr β' hβ
    · rcases old hi with ⟨hlt,hi⟩ | ⟨rfl,rfl⟩
      · rw [fo hlt] at hk; exact hb'.lt i r' hi k hk
      · rw [fn] at hk; exact (hf k hk).2.1
    · rcases old hi with ⟨hlt,hi2⟩ | ⟨ei,e1⟩
      · rcases old hj with ⟨hlt',hj2⟩ | ⟨ej,e2⟩
        · rw [fo hlt] at hk; rw [fo hlt'] at hk'; exact hb'.sep i j r1 r2 hi2 hj2 hne hm k hk hk'
        · rw [ej] at hk'
          rw [fo hlt] at hk; rw [fn] at hk'
          exact (hf k hk').2.2 i r1 hi2 hk
      · rcases old hj with ⟨hlt',hj2⟩ | ⟨ej,e2⟩
        · rw [ei] at hk
          rw [fn] at hk; rw [fo hlt'] at hk'
          exact (hf k hk).2.2 j r2 hj2 hk'
        · exact hne (ei.trans ej.symm)
  · rcases old hi with ⟨hlt,hi⟩ | ⟨rfl,rfl⟩
    · rw [fo hlt] at hk; exact h.mine i r' hi hm k hk
    · rw [fn] at hk; exact .inl (hf k hk).1
  · have hl := h.ini.len
    exact ⟨fun i hi => (h.ini.agr i hi).trans (upd_agr β _ _ i (by omega)),by rw [List.length_append]; omega⟩
  · rcases old hi with ⟨hlt,hi⟩ | ⟨rfl,rfl⟩
    · rw [fo hlt] at hk; exact h.foot i r' hi k hk
    · rw [fn] at hk; exact .inl (hf k hk).1
structure FlD where
  d : Nat → Nat
  z : Nat → List SV
  T : Nat → TypeId
  L : Nat → Nat
  q : Nat → Option (Nat × Nat)
def flR (q : Option (Nat × Nat)) (z : List SV) (T : TypeId) : Res := match q with
  | none => .cells z T true
  | some (s,n) => .own z T s n true
def flV (q : Option (Nat × Nat)) (L : Nat) : SV := match q with
  | none => .p L 0
  | some (_,n) => .o L n
def flB (q : Option (Nat × Nat)) (Y : Nat) : Bt := match q with
  | none => ⟨Y,0,0⟩
  | some (_,n) => ⟨Y,0,n + 1⟩
def flP (q : Option (Nat × Nat)) (Y : Nat) : SV := match q with
  | none => pY Y
  | some (_,n) => .v (.slice (some ⟨Y,0,none⟩) n n)
def flW (q : Option (Nat × Nat)) (z : List SV) : Prop := match q with
  | none => True
  | some (s,n) => z.length = n * s ∧ n ≤ maxLen
theorem fl_holds {q : Option (Nat × Nat)} {z : List SV} {T : TypeId} {Y : Nat} {β' : Nat → Bt} {w : World} (hq : flW q z) (h : w.heap[Y]? = some (.cells (z.map (conc β')).toArray T)) : Holds β' (flB q Y) (· = Y) w (flR q z T) := by
  cases q with
  | none => exact ⟨rfl,⟨[],(0,0),⟨by rw [List.append_nil]; exact h,.inr (Nat.le_refl _)⟩,rfl⟩,fun k => Iff.rfl⟩
  | some p =>
    obtain ⟨s,n⟩ := p
    exact holds_row (rest := []) (fz := (0,0)) (by rw [List.append_nil]; exact h) (.inr (Nat.le_refl _)) hq.1 (Nat.le_refl _) hq.2 (by simpa using hq.1)
theorem fl_conc {q : Option (Nat × Nat)} {Y L : Nat} {β' β : Nat → Bt} (h : β' L = flB q Y) : conc β (flP q Y) = conc β' (flV q L) := by
  cases q with
  | none => simp [conc,pY,flP,flV,h,flB]
  | some p => obtain ⟨s,n⟩ := p; simp [conc,flP,flV,h,flB,oV]
theorem flP_conc {q : Option (Nat × Nat)} {Y : Nat} (β β' : Nat → Bt) : conc β (flP q Y) = conc β' (flP q Y) := by
  cases q with
  | none => simp [conc,pY,flP]
  | some p => obtain ⟨s,n⟩ := p; simp [conc,flP]
def RelA (F : Fx V) (G : FlD) (A : Nat → Bool) (t : List (Nat × SV)) (b : List Res) (a : Act) (w : World) : Prop := ∃ (β : Nat → Bt) (fp : Nat → Nat → Prop) (Y : Nat → Nat) (tt : List (Nat × SV)),
  Fm F β b.length tt a ∧ Wd F β fp b w ∧
  (∀ k,A k = true → lk (G.d k) tt = some (flP (G.q k) (Y k)) ∧ lk (G.d k) t = some (flV (G.q k) (G.L k)) ∧ F.w0.heap.size ≤ Y k ∧ Y k < w.heap.size ∧ (∀ β',Agr b.length β β' → w.heap[Y k]? = some (.cells ((G.z k).map (conc β')).toArray (G.T k))) ∧ ∀ i r,b[i]? = some r → ¬ fp i (Y k)) ∧
  (∀ k l,A k = true → A l = true → k ≠ l → Y k ≠ Y l) ∧ ∀ e,(∀ k,A k = true → G.d k ≠ e) → lk e tt = lk e t
theorem RelA.none {G : FlD} {A : Nat → Bool} {t : List (Nat × SV)} {b : List Res} {a : Act} {w : World} (h : RelA F G A t b a w) (hA : ∀ k,A k = false) : Rel F ⟨t,b⟩ a w := by
  obtain ⟨β,fp,Y,tt,hf,hw,-,-,hl⟩ := h
  exact rel_congr ⟨β,fp,hf,hw⟩ (fun d => (hl d (fun k hk => by rw [hA k] at hk; cases hk)).symm)
theorem RelA.take {G : FlD} {A A' : Nat → Bool} {t : List (Nat × SV)} {b : List Res} {a : Act} {w : World} (h : RelA F G A t b a w) {c : Nat} (hc : A c = true) (hA : ∀ k,A' k = true → A k = true ∧ k ≠ c) (hA2 : ∀ k,A k = true → k ≠ c → A' k = true) (hL : G.L c = b.length)
    (hz : flW (G.q c) (G.z c)) (hd : ∀ k,A k = true → k ≠ c → G.d k ≠ G.d c) : RelA F G A' t (b ++ [flR (G.q c) (G.z c) (G.T c)]) a w := by
  obtain ⟨β,fp,Y,tt,hf,hw,hy,hdis,hl⟩ := h
  obtain ⟨g1,g2,g3,g4,g5,g6⟩ := hy c hc
  have hw2 := hw.adopt (flR (G.q c) (G.z c) (G.T c)) (flB (G.q c) (Y c)) (· = Y c) (fun β' hβ => fl_holds hz (g5 β' hβ.of_upd)) (fun k hk => by subst hk; exact ⟨g3,g4,g6⟩)
  refine ⟨_,_,Y,(G.d c,flV (G.q c) b.length) :: tt,⟨fun β' hβ => ?_⟩,hw2,fun k hk => ?_,fun k l hk hl' hne => hdis k l (hA k hk).1 (hA l hl').1 hne,fun e he => ?_⟩
  · rw [List.length_append,List.length_singleton] at hβ
    have h0 := hf.ok β' hβ.of_upd
    refine ⟨h0.size,h0.defers,fun d x hd => ?_⟩
    simp only [lk] at hd
    split at hd
    · rename_i e
      subst e
      cases hd
      rw [h0.get _ _ g1]
      exact fl_conc (by rw [← hβ b.length (by omega),upd_at])
    · exact h0.get d x hd
  · obtain ⟨hk1,hk2⟩ := hA k hk
    obtain ⟨q1,q2,q3,q4,q5,q6⟩ := hy k hk1
    refine ⟨?_,q2,q3,q4,fun β' hβ => q5 β' (by rw [List.length_append,List.length_singleton] at hβ; exact hβ.of_upd),fun i r hi hfp => ?_⟩
    · simp only [lk]; rw [if_neg (hd k hk1 hk2)]; exact q1
    · rcases Nat.lt_or_ge i b.length with hlt | hge
      · rw [List.getElem?_append_left hlt] at hi
        exact q6 i r hi (by simpa [updF,show i ≠ b.length by omega] using hfp)
      · have hi' : i = b.length := by
          have := (List.getElem?_eq_some_iff.1 hi).1
          rw [List.length_append,List.length_singleton] at this
          omega
        subst hi'
        have : Y k = Y c := by simpa [updF] using hfp
        exact hdis k c hk1 hc hk2 this
  · simp only [lk]
    split
    · rename_i e1
      rw [e1,g2,hL]
    · rename_i e1
      refine hl e (fun k hk => ?_)
      by_cases hkc : k = c
      · subst hkc; exact fun q => e1 q.symm
      · exact he k (hA2 k hk hkc)
theorem draw_okG {ops : Array Oper} {recs : List RecE} {a0 : Act} {w : World} {t0 : List (Nat × SV)} {b0 : List Res} {Q : Exit → Act → World → Prop} (G : FlD) (T : Nat → List (Nat × SV)) (B : Nat → List Res) (hT0 : ∀ d,lk d (T 0) = lk d t0) (hB0 : B 0 = b0)
    (hT : ∀ i,i < ops.size → ∀ d,lk d (T (i + 1)) = lk d (put (dstAt ops i) (recs.getD i recE0).x (T i)))
    (hB : ∀ i,i < ops.size → B (i + 1) = (recs.getD i recE0).nb.getD (B i))
    (hop : ∀ i,i < ops.size → ∀ F' : Fx V,F'.n = F.n → StepE F' ops i (T i) (B i) (recs.getD i recE0)) (hun : ∀ i,i < ops.size → UnE (recs.getD i recE0) (B i))
    (hfl : ∀ k,isFl ops k = true → dstAt ops k = some (G.d k) ∧ G.d k < F.n ∧ G.L k = (B k).length ∧ (∃ W,recs.getD k recE0 = ⟨flV (G.q k) (B k).length,some (B k ++ [flR (G.q k) (G.z k) (G.T k)]),false,[],W⟩) ∧ flW (G.q k) (G.z k) ∧ ∃ o,ops[k]? = some o ∧ o.guard = none ∧
      ∀ (β : Nat → Bt) (m : Nat) (tt : List (Nat × SV)) (a : Act) (w : World),Fm F β m tt a → (∀ d ∈ o.looksAt ops,lk d tt = lk d (T k)) → ∀ β',Agr m β β' → (execOp a.eval o).run V.P w = Result.ok (.value (conc bt0 (flP (G.q k) w.heap.size))) (w.alloc (.cells ((G.z k).map (conc β')).toArray (G.T k))))
    (hlen : recs.length = ops.size) (hc : OkD ops (recs.map fun r => ⟨r.nb.isSome,r.all,r.rd,r.wr⟩)) (hr : Rel F ⟨t0,b0⟩ a0 w)
    (hQ : ∀ a w',Rel F ⟨T ops.size,B ops.size⟩ a w' → Q .normal a w') : wpAny V.P .any ops Q ops.size (Array.replicate ops.size false) a0 { w with drawn := w.drawn + 1 } := by
  simp only [OkD,Bool.and_eq_true] at hc
  obtain ⟨hc,hah⟩ := hc
  let n := ops.size
  let isS : Nat → Prop := fun k => (recs.getD k recE0).nb.isSome = true
  have hrk : ∀ k,k < n → (((recs.map fun r => (⟨r.nb.isSome,r.all,r.rd,r.wr⟩ : Rk))[k]?).getD rk0) = ⟨(recs.getD k recE0).nb.isSome,(recs.getD k recE0).all,(recs.getD k recE0).rd,(recs.getD k recE0).wr⟩ := fun k hk => by
    have hk' : k < recs.length := by rw [hlen]; exact hk
    simp [List.getD_eq_getElem?_getD,List.getElem?_eq_getElem hk']
  have hpair : ∀ i k,i < n → k < n → k ≠ i → pairB ops (recs.map fun r => (⟨r.nb.isSome,r.all,r.rd,r.wr⟩ : Rk)) i k = true := fun i k hi hk hne => by
    have h1 := List.all_eq_true.1 (List.all_eq_true.1 hc i (List.mem_range.2 hi)) k (List.mem_range.2 hk)
    simp only [Bool.or_eq_true,beq_iff_eq] at h1
    rcases h1 with h1 | h1
    · exact absurd h1 hne
    · exact h1
  have hpreS : ∀ i k,k < n → preS ops (recs.map fun r => (⟨r.nb.isSome,r.all,r.rd,r.wr⟩ : Rk)) i k = true → isFl ops k = true → k < i → ∀ j,j < k → isS j → depB ops ops.size i j = true := fun i k hk hp hf hki j hj hs => by
    unfold preS at hp
    rw [hf,decide_eq_true hki] at hp
    simp only [Bool.and_self,Bool.not_true,Bool.false_or] at hp
    have h1 := List.all_eq_true.1 hp j (List.mem_range.2 hj)
    rw [hrk j (by omega)] at h1
    have hs' : (recs.getD j recE0).nb.isSome = true := hs
    have h1 : (!((recs.getD j recE0).nb.isSome) || depB ops ops.size i j) = true := h1
    rw [hs',Bool.not_true,Bool.false_or] at h1
    exact h1
  -- what must be ordered
  have hslot : ∀ i k,i < n → k < n → k ≠ i → slotC ops i k = true → tieB ops i k = true ∧ (isFl ops k = true → k < i → ∀ j,j < k → isS j → depB ops ops.size i j = true) := fun i k hi hk hne hcf => by
    have h1 := hpair i k hi hk hne
    unfold pairB at h1
    rw [if_pos hcf,Bool.and_eq_true] at h1
    exact ⟨h1.1,hpreS i k hk h1.2⟩
  have hSS : ∀ i k,k < i → i < n → isS i → isS k → isFl ops i = false → depB ops ops.size i k = true := fun i k hki hi hsi hsk hnf => by
    have h1 := hpair i k hi (by omega) (by omega)
    have hmax : max i k = i := by omega
    unfold pairB at h1
    rw [hrk i hi,hrk k (by omega)] at h1
    have e1 : (recs.getD i recE0).nb.isSome = true := hsi
    have e2 : (recs.getD k recE0).nb.isSome = true := hsk
    split at h1
    · rw [Bool.and_eq_true] at h1
      have := h1.1
      unfold tieB at this
      rwa [if_pos hki] at this
    · rw [if_pos (by simp only [e1,e2,Bool.and_self]),hmax,hnf,Bool.false_or] at h1
      unfold tieB at h1
      rwa [if_pos hki] at h1
  have hmem : ∀ i k,i < n → k < n → k ≠ i → ¬ isS i → isS k → ∀ x ∈ (recs.getD i recE0).rd,((recs.getD k recE0).all = true ∨ ∃ y ∈ (recs.getD k recE0).wr,ovl x y = true) → tieB ops i k = true ∧ (isFl ops k = true → k < i → ∀ j,j < k → isS j → depB ops ops.size i j = true) := fun i k hi hk hne hnsi hs x hx hcf => by
    have h1 := hpair i k hi hk hne
    unfold pairB at h1
    rw [hrk i hi,hrk k hk] at h1
    have e1 : (recs.getD i recE0).nb.isSome = false := by
      cases h : (recs.getD i recE0).nb.isSome with
      | false => rfl
      | true => exact absurd h hnsi
    split at h1
    · rw [Bool.and_eq_true] at h1
      exact ⟨h1.1,hpreS i k hk h1.2⟩
    · rw [if_neg (by simp only [e1,Bool.false_and]; simp),if_pos (by
        simp only [Bool.and_eq_true,Bool.not_eq_true']
        refine ⟨hs,?_⟩
        cases hl : (recs.getD i recE0).rd with
        | nil => rw [hl] at hx; cases hx
        | cons _ _ => rfl)] at h1
      simp only [Bool.or_eq_true,Bool.not_eq_true',Bool.and_eq_true] at h1
      rcases h1 with h1 | h1
      · exact ⟨h1.1,hpreS i k hk h1.2⟩
      · exfalso
        simp only [Bool.or_eq_false_iff] at h1
        rcases hcf with hcf | ⟨y,hy,hxy⟩
        · rw [hcf] at h1; cases h1.1
        · have : anyOvl (recs.getD i recE0).rd (recs.getD k recE0).wr = true := by
            unfold anyOvl
            exact List.any_eq_true.2 ⟨x,hx,List.any_eq_true.2 ⟨y,hy,hxy⟩⟩
          rw [this] at h1
          cases h1.2
  have hflt : ∀ k,isFl ops k = true → k < n := fun k hk => by
    obtain ⟨-,-,-,-,-,o,ho,-⟩ := hfl k hk
    exact (Array.getElem?_eq_some_iff.1 ho).1
  have hflS : ∀ k,isFl ops k = true → isS k := fun k hk => by
    obtain ⟨-,-,-,⟨_,hrec⟩,-⟩ := hfl k hk
    show (recs.getD k recE0).nb.isSome = true
    rw [hrec]; rfl
  -- the run in the text's order
  have hTf : ∀ i,i ≤ n → ∀ d,lk d (T i) = lk d (foldD (uS ops recs) (preD i) i t0) := fun i => by
    induction i with
    | zero => intro _ d; exact hT0 d
    | succ i ih =>
      intro hi d
      rw [hT i (by omega) d,fold_pre_succ]
      exact lk_put_congr (ih (by omega) d)
  have huS : ∀ d k (s s' : List (Nat × SV)),lk d s = lk d s' → lk d (uS ops recs k s) = lk d (uS ops recs k s') := fun d k s s' h => lk_put_congr h
  have hchS : ∀ d k,(∃ s,lk d (uS ops recs k s) ≠ lk d s) → dstAt ops k = some d := fun d k ⟨s,hs⟩ => by
    unfold uS at hs
    rw [lk_put] at hs
    by_cases h : dstAt ops k = some d
    · exact h
    · rw [if_neg h] at hs; exact absurd rfl hs
  have hidN : ∀ k,¬ isS k → ∀ b,(recs.getD k recE0).nb.getD b = b := fun k hs b => by
    cases h : (recs.getD k recE0).nb with
    | none => rfl
    | some x => exact absurd (by show ((recs.getD k recE0).nb).isSome = true; rw [h]; rfl) hs
  let AS : (Nat → Bool) → Nat → Nat → Bool := fun D c k => isFl ops k && (D k && decide (c ≤ k))
  have hdis : ∀ k l,isFl ops k = true → isFl ops l = true → k ≠ l → G.d k = G.d l → ∀ (D : Nat → Bool),(∀ i o,ops[i]? = some o → D i = true → ∀ e ∈ o.after,Region.binds .any e = true → D e.on = true) → D k = true → D l = true → ∀ c,c < n → D c = false → isS c → c ≤ k → c ≤ l → False := fun k l hk hl hne he D hcl hDk hDl c hcn hDc hsc hck hcl' => by
    -- the later one comes behind all that is ahead of the earlier one
    have key : ∀ k l,isFl ops k = true → isFl ops l = true → k < l → G.d k = G.d l → D k = true → D l = true → c ≤ k → False := fun k l hk hl hkl he hDk hDl hck => by
      obtain ⟨hdk,-⟩ := hfl k hk
      obtain ⟨hdl,-,-,-,-,o,ho,-⟩ := hfl l hl
      have hs : slotC ops l k = true := by
        unfold slotC
        unfold dstAt at hdk
        rw [hdk,ho]
        have : o.dst = some (G.d l) := by unfold dstAt at hdl; rw [ho] at hdl; exact hdl
        simp [this,he]
      obtain ⟨-,h2⟩ := hslot l k (hflt l hl) (hflt k hk) (by omega) hs
      have hck' : c ≠ k := fun e => by rw [← e,hDc] at hDk; cases hDk
      have := dep_closed hcl _ l c (h2 hk hkl c (by omega) hsc) (fun o' ho' => hcl l o' ho' hDl)
      rw [hDc] at this; cases this
    rcases Nat.lt_or_gt_of_ne hne with h | h
    · exact key k l hk hl h he hDk hDl hck
    · exact key l k hl hk h he.symm hDl hDk hcl'
  -- those that are next are counted
  have hadv : ∀ (D : Nat → Bool) (a : Act) (w : World) (t : List (Nat × SV)),(∀ i o,ops[i]? = some o → D i = true → ∀ e ∈ o.after,Region.binds .any e = true → D e.on = true) → ∀ (m c : Nat),c + m = n → (∀ k,k < c → isS k → D k = true) → (∀ k,c ≤ k → k < n → isS k → D k = true → isFl ops k = true) →
      (∀ k l,AS D c k = true → AS D c l = true → k ≠ l → G.d k ≠ G.d l) → RelA F G (AS D c) t (B c) a w → ∃ c',c' ≤ n ∧ (∀ k,k < c' → isS k → D k = true) ∧ (c' < n → isS c' ∧ D c' = false) ∧ RelA F G (AS D c') t (B c') a w := fun D a w t hcl m => by
    induction m with
    | zero =>
      intro c hcn hpre _ _ hrel
      exact ⟨c,by omega,hpre,fun h => by omega,hrel⟩
    | succ m ih =>
      intro c hcn hpre hflo hdd hrel
      by_cases hs : isS c
      · cases hD : D c with
        | false => exact ⟨c,by omega,hpre,fun _ => ⟨hs,hD⟩,hrel⟩
        | true =>
          have hf := hflo c (Nat.le_refl _) (by omega) hs hD
          obtain ⟨-,-,hL,⟨_,hrec⟩,hW,-⟩ := hfl c hf
          have hBc : B (c + 1) = B c ++ [flR (G.q c) (G.z c) (G.T c)] := by rw [hB c (by omega),hrec]; rfl
          have hAc : AS D c c = true := by simp [AS,hf,hD]
          have hA1 : ∀ k,AS D (c + 1) k = true → AS D c k = true ∧ k ≠ c := fun k hk => by
            simp only [AS,Bool.and_eq_true,decide_eq_true_eq] at hk ⊢
            exact ⟨⟨hk.1,hk.2.1,by omega⟩,by omega⟩
          refine ih (c + 1) (by omega) (fun k hk hsk => ?_) (fun k hk => hflo k (by omega)) (fun k l hk hl => hdd k l (hA1 k hk).1 (hA1 l hl).1) ?_
          · rcases Nat.lt_or_eq_of_le (Nat.lt_succ_iff.1 hk) with h1 | rfl
            · exact hpre k h1 hsk
            · exact hD
          · rw [hBc]
            refine hrel.take hAc hA1 (fun k hk hne => ?_) hL hW (fun k hk hne => hdd k c hk hAc hne)
            simp only [AS,Bool.and_eq_true,decide_eq_true_eq] at hk ⊢
            exact ⟨hk.1,hk.2.1,by omega⟩
      · have hBc : B (c + 1) = B c := by rw [hB c (by omega)]; exact hidN c hs _
        have hAe : AS D (c + 1) = AS D c := by
          funext k
          by_cases hk : isFl ops k = true
          · have hne : k ≠ c := fun e => hs (e ▸ hflS k hk)
            simp only [AS]
            congr 2
            exact decide_eq_decide.2 ⟨fun h => by omega,fun h => by omega⟩
          · simp only [AS,Bool.not_eq_true] at hk ⊢
            rw [hk]; rfl
        refine ih (c + 1) (by omega) (fun k hk hsk => ?_) (fun k hk => hflo k (by omega)) (by rw [hAe]; exact hdd) (by rw [hBc,hAe]; exact hrel)
        rcases Nat.lt_or_eq_of_le (Nat.lt_succ_iff.1 hk) with h1 | rfl
        · exact hpre k h1 hsk
        · exact absurd hsk hs
  let Inv : (Nat → Bool) → Act → World → Prop := fun D a w => (∃ c,c ≤ n ∧ (∀ k,k < c → isS k → D k = true) ∧ (c < n → isS c ∧ D c = false) ∧ RelA F G (AS D c) (foldD (uS ops recs) D n t0) (B c) a w) ∧ (∀ i o,ops[i]? = some o → D i = true → ∀ e ∈ o.after,Region.binds .any e = true → D e.on = true)
  refine wpAny_inv Inv ?_ ?_ ops.size _ a0 _ (by simp) (by simp) ?_
  · rintro listed a w i hsz ⟨⟨c,hcn,hpre,hfirst,hrel⟩,hcl⟩ hi
    obtain ⟨hun1,o,ho,hall⟩ := mem_ready.1 hi
    have hin : i < n := (Array.getElem?_eq_some_iff.1 ho).1
    have hDi : listed.getD i false = false := by
      have : i < listed.size := by rw [hsz]; exact hin
      simp [this] at hun1 ⊢; exact hun1
    have hpr : ∀ o',ops[i]? = some o' → ∀ e ∈ o'.after,Region.binds .any e = true → listed.getD e.on false = true := fun o' ho' e he hb => by
      rw [ho] at ho'; cases ho'; exact hall e he hb
    obtain ⟨D,hDD⟩ : ∃ D : Nat → Bool,D = fun k => listed.getD k false := ⟨_,rfl⟩
    have hDk : ∀ k,listed.getD k false = D k := fun k => by rw [hDD]
    rw [← hDD] at hrel hcl ⊢
    rw [hDk] at hDi
    simp only [hDk] at hpr hpre hfirst
    have hclI : ∀ l o',ops[l]? = some o' → insD D i l = true → ∀ e ∈ o'.after,Region.binds .any e = true → insD D i e.on = true := by
      intro l o' ho' hl e he hb
      simp only [insD,Bool.or_eq_true,decide_eq_true_eq] at hl ⊢
      rcases hl with hl | rfl
      · exact .inl (hcl l o' ho' hl e he hb)
      · exact .inl (hpr o' ho' e he hb)
    have order : ∀ k,k < n → k ≠ i → tieB ops i k = true → D k = decide (k < i) := fun k hk hne h1 => by
      unfold tieB at h1
      split at h1
      · rename_i hlt
        rw [decide_eq_true hlt]
        exact dep_closed hcl _ i k h1 hpr
      · rename_i hlt
        rw [decide_eq_false hlt]
        cases hD : D k with
        | false => rfl
        | true =>
          have := dep_closed hcl _ k i h1 (fun o' ho' => hcl k o' ho' hD)
          rw [hDi] at this
          cases this
    have hconfT : ∀ d,(d ∈ o.looksAt ops ∨ o.dst = some d) → ∀ k,k < n → (∃ s,lk d (uS ops recs k s) ≠ lk d s) → D k = decide (k < i) := fun d hd k hk hch => by
      by_cases hki : k = i
      · subst hki; rw [hDi]; simp
      · refine order k hk hki (hslot i k hin hk hki ?_).1
        unfold slotC
        have := hchS d k hch
        unfold dstAt at this
        rw [this,ho]
        simp only [Bool.or_eq_true,List.contains_iff_mem,beq_iff_eq]
        exact hd
    have hlooks : ∀ d,d ∈ o.looksAt ops → lk d (foldD (uS ops recs) D n t0) = lk d (T i) := fun d hd => by
      rw [hTf i (Nat.le_of_lt hin) d]
      exact fold_see (uS ops recs) (lk d) (huS d) D n i t0 (Nat.le_of_lt hin) (hconfT d (.inl hd))
    have e1 : ∀ d,lk d (foldD (uS ops recs) (insD D i) n t0) = lk d (put o.dst (recs.getD i recE0).x (foldD (uS ops recs) D n t0)) := fun d => by
      have hd : dstAt ops i = o.dst := by unfold dstAt; rw [ho]; rfl
      have := fold_ins (uS ops recs) (lk d) (huS d) D n i t0 hin hDi (fun hch k hk hk' hD => by
        have hdd := hchS d i hch
        rw [hd] at hdd
        have := hconfT d (.inr hdd) k hk hk'
        rw [hD] at this
        exact of_decide_eq_true this.symm)
      rw [this]
      unfold uS
      rw [hd]
    -- what is done of what changes things
    have hmin : ∀ k,c ≤ k → k < n → isS k → D k = true → isFl ops k = true := fun k hck hk hs hD => by
      cases hf : isFl ops k with
      | true => rfl
      | false =>
        exfalso
        obtain ⟨hsc,hDc⟩ := hfirst (by omega)
        have hne : c ≠ k := fun e => by rw [← e,hDc] at hD; cases hD
        have := dep_closed hcl _ k c (hSS k c (by omega) hk hs hsc hf) (fun o' ho' => hcl k o' ho' hD)
        rw [hDc] at this
        cases this
    have hA : ∀ k,AS D c k = true → isFl ops k = true ∧ D k = true ∧ c ≤ k := fun k hk => by
      simp only [AS,Bool.and_eq_true,decide_eq_true_eq] at hk
      exact hk
    have hnear : ∀ k,AS D c k = true → (isFl ops k = true → k < i → ∀ j,j < k → isS j → depB ops ops.size i j = true) → D k = decide (k < i) → False := fun k hk h2 h3 => by
      obtain ⟨hf,hD,hck⟩ := hA k hk
      have hkn := hflt k hf
      obtain ⟨hsc,hDc⟩ := hfirst (by omega)
      have hne : c ≠ k := fun e => by rw [← e,hDc] at hD; cases hD
      rw [hD] at h3
      have hki := of_decide_eq_true h3.symm
      have := dep_closed hcl _ i c (h2 hf hki c (by omega) hsc) hpr
      rw [hDc] at this
      cases this
    have haside : ∀ k,AS D c k = true → G.d k ∉ o.looksAt ops ∧ o.dst ≠ some (G.d k) := fun k hk => by
      obtain ⟨hf,hD,hck⟩ := hA k hk
      have hkn := hflt k hf
      have hki : k ≠ i := fun e => by rw [e,hDi] at hD; cases hD
      have hno : ¬ slotC ops i k = true := fun hs => by
        obtain ⟨h1,h2⟩ := hslot i k hin hkn hki hs
        exact hnear k hk h2 (order k hkn hki h1)
      have hdk := (hfl k hf).1
      unfold dstAt at hdk
      unfold slotC at hno
      rw [hdk,ho] at hno
      simp only [Bool.or_eq_true,List.contains_iff_mem,beq_iff_eq,not_or] at hno
      exact hno
    have hddD : ∀ k l,AS D c k = true → AS D c l = true → k ≠ l → G.d k ≠ G.d l := fun k l hk hl hne he => by
      obtain ⟨hf,hD,hck⟩ := hA k hk
      obtain ⟨hf',hD',hck'⟩ := hA l hl
      have hkn := hflt k hf
      obtain ⟨hsc,hDc⟩ := hfirst (by omega)
      exact hdis k l hf hf' hne he D hcl hD hD' c (by omega) hDc hsc hck hck'
    -- an operation that is no such cell
    have hplain : isFl ops i = false → ((recs.getD i recE0).nb.isSome = true → B c = B i) → ((recs.getD i recE0).nb = none → ∀ x ∈ (recs.getD i recE0).rd,seen x (B i) (B c)) → ∀ c',(recs.getD i recE0).nb.getD (B c) = B c' → (∀ k,AS (insD D i) c' k = AS D c k) →
        wpOp V.P ops Q i (fun a' w' => RelA F G (AS (insD D i) c') (foldD (uS ops recs) (insD D i) n t0) (B c') a' w') a w := fun hnf hb hseen c' hc' hAe => by
      obtain ⟨β,fp,Y,tt,hf,hw,hy,hd,hlk⟩ := hrel
      refine hop i hin (F.at hw) rfl Q _ a w tt (B c) o ho (fun d hd' => (hlk d (fun k hk e => (haside k hk).1 (by rw [e]; exact hd'))).trans (hlooks d hd')) hb hseen ⟨β,fp,⟨hf.ok⟩,hw.here⟩ ?_
      rintro a' w' ⟨β₂,fp₂,hf2,hw2⟩
      have hsz : w.heap.size ≤ w'.heap.size := hw2.fr.size
      rw [show (⟨put o.dst (recs.getD i recE0).x tt,(recs.getD i recE0).nb.getD (B c)⟩ : St) = ⟨put o.dst (recs.getD i recE0).x tt,B c'⟩ by rw [hc']] at hf2 hw2
      refine ⟨β₂,fp₂,Y,put o.dst (recs.getD i recE0).x tt,⟨hf2.ok⟩,hw.join hw2,fun k hk => ?_,fun k l hk hl => hd k l (by rw [← hAe]; exact hk) (by rw [← hAe]; exact hl),fun e he => ?_⟩
      · rw [hAe] at hk
        obtain ⟨g1,g2,g3,g4,g5,g6⟩ := hy k hk
        have hne := (haside k hk).2
        refine ⟨by rw [lk_put,if_neg hne]; exact g1,by rw [e1,lk_put,if_neg hne]; exact g2,g3,Nat.lt_of_lt_of_le g4 hsz,fun β' hβ => (hw2.fr.block _ g4 (fun ⟨j,r,hj,_,hk⟩ => g6 j r hj hk)).trans (g5 β' (fun i hi => (hw2.ini.agr i hi).trans (hβ i (Nat.lt_of_lt_of_le hi hw2.ini.len)))),fun j r hj hk => ?_⟩
        rcases hw2.foot j r hj _ hk with h1 | ⟨j',r',hj',hk'⟩
        · have : w.heap.size ≤ Y k := h1
          omega
        · exact g6 j' r' hj' hk'
      · rw [e1,lk_put,lk_put]
        split
        · rfl
        · exact hlk e (fun k hk => he k (by rw [hAe]; exact hk))
    have hAins : ∀ c' k,k ≠ i → AS (insD D i) c' k = AS D c' k := fun c' k hk => by simp [AS,insD,hk]
    by_cases hfi : isFl ops i = true
    · -- such a cell
      have hci : c ≤ i := by
        apply Nat.le_of_not_lt
        intro hlt
        have := hpre i hlt (hflS i hfi)
        rw [hDi] at this; cases this
      obtain ⟨hdi,hdn,hLi,⟨_,hrec⟩,hW,o',ho',hg,hexec⟩ := hfl i hfi
      rw [ho] at ho'
      cases ho'
      have hodst : o.dst = some (G.d i) := by unfold dstAt at hdi; rw [ho] at hdi; exact hdi
      have hfin : ∀ a' w',RelA F G (AS (insD D i) c) (foldD (uS ops recs) (insD D i) n t0) (B c) a' w' → Inv (insD D i) a' w' := fun a' w' hr' => by
        refine ⟨hadv (insD D i) a' w' _ hclI (n - c) c (by omega) (fun k hk hs => by simp [insD,hpre k hk hs]) (fun k hk hkn hs hD => ?_) (fun k l hk hl hne he => ?_) hr',hclI⟩
        · by_cases hki : k = i
          · rw [hki]; exact hfi
          · exact hmin k hk hkn hs (by simpa [insD,hki] using hD)
        · by_cases hki : k = i
          · subst hki
            have hl' : AS D c l = true := by rw [← hAins c l (fun e => hne e.symm)]; exact hl
            exact (haside l hl').2 (by rw [hodst,he])
          · by_cases hli : l = i
            · subst hli
              have hk' : AS D c k = true := by rw [← hAins c k hki]; exact hk
              exact (haside k hk').2 (by rw [hodst,he])
            · exact hddD k l (by rw [← hAins c k hki]; exact hk) (by rw [← hAins c l hli]; exact hl) hne he
      refine wpOp_mono (fun a' w' h => hfin a' w' h) ?_
      obtain ⟨β,fp,Y,tt,hf,hw,hy,hd,hlk⟩ := hrel
      have ho2 := ho
      unfold wpOp
      rw [ho]
      simp only
      rw [if_pos (by simp [Region.wanted,hg])]
      left
      have hex := hexec β _ tt a w hf (fun d hd' => (hlk d (fun k hk e => (haside k hk).1 (by rw [e]; exact hd'))).trans (hlooks d hd'))
      have hrun := hex β (Agr.refl _ _)
      have hall' : ∀ β',Agr (B c).length β β' → (G.z i).map (conc β) = (G.z i).map (conc β') := fun β' hβ => by
        have h1 := hex β' hβ
        rw [hrun] at h1
        injection h1 with _ h1
        have h2 := congrArg (fun w' : World => w'.heap[w.heap.size]?) h1
        simp only [heap_new] at h2
        have h3 := (Obj.cells.inj (Option.some.inj h2)).1
        exact congrArg Array.toList h3
      have hbel : Below w.heap.size w (w.alloc (.cells ((G.z i).map (conc β)).toArray (G.T i))) := (Below.refl _ _).alloc (Nat.le_refl _) _
      have hnew := heap_new w (.cells ((G.z i).map (conc β)).toArray (G.T i))
      have hsz : (w.alloc (.cells ((G.z i).map (conc β)).toArray (G.T i))).heap.size = w.heap.size + 1 := size_alloc _ _
      refine wp_of_value hrun ?_
      rw [hodst]
      generalize w.alloc (.cells ((G.z i).map (conc β)).toArray (G.T i)) = w2 at hbel hnew hsz
      refine ⟨β,fp,fun k => if k = i then w.heap.size else Y k,(G.d i,flP (G.q i) w.heap.size) :: tt,⟨fun β' hβ => by rw [flP_conc bt0 β']; exact (hf.ok β' hβ).put hdn (flP (G.q i) w.heap.size)⟩,hw.below hbel,fun k hk => ?_,fun k l hk hl hne => ?_,fun e he => ?_⟩
      · by_cases hki : k = i
        · subst hki
          simp only [if_true]
          refine ⟨by simp [lk],?_,hw.fr.size,by omega,fun β' hβ => by rw [← hall' β' hβ]; exact hnew,fun j r hj hk => ?_⟩
          · rw [e1,lk_put,if_pos hodst,hrec,hLi]
          · have := (hw.bx β (Agr.refl _ _)).lt j r hj _ hk
            omega
        · have hk' : AS D c k = true := by rw [← hAins c k hki]; exact hk
          obtain ⟨g1,g2,g3,g4,g5,g6⟩ := hy k hk'
          have hne := (haside k hk').2
          simp only [if_neg hki]
          refine ⟨?_,?_,g3,by omega,fun β' hβ => (hbel.block _ g4).trans (g5 β' hβ),g6⟩
          · simp only [lk]
            rw [if_neg (fun e => hne (by rw [hodst,e]))]
            exact g1
          · rw [e1,lk_put,if_neg hne]; exact g2
      · have D1 : ∀ k,AS (insD D i) c k = true → k ≠ i → AS D c k = true := fun k h1 h2 => by rw [← hAins c k h2]; exact h1
        by_cases k1 : k = i
        · have k2 : l ≠ i := fun e => hne (k1.trans e.symm)
          simp only [if_pos k1,if_neg k2]
          have := (hy l (D1 l hl k2)).2.2.2.1
          omega
        · by_cases k2 : l = i
          · simp only [if_neg k1,if_pos k2]
            have := (hy k (D1 k hk k1)).2.2.2.1
            omega
          · simp only [if_neg k1,if_neg k2]
            exact hd k l (D1 k hk k1) (D1 l hl k2) hne
      · have hne : G.d i ≠ e := he i (by simp [AS,insD,hfi,hci])
        have h1 : lk e ((G.d i,flP (G.q i) w.heap.size) :: tt) = lk e tt := by simp only [lk]; rw [if_neg (fun q => hne q.symm)]
        rw [h1,hlk e (fun k hk => he k (by
          obtain ⟨-,hD,-⟩ := hA k hk
          rw [hAins c k (fun q => by rw [q,hDi] at hD; cases hD)]; exact hk)),e1,lk_put,if_neg (fun q => hne (Option.some.inj (hodst.symm.trans q)))]
    · have hfi : isFl ops i = false := by simpa using hfi
      by_cases hs : isS i
      · -- the next that changes things
        have hci : c = i := by
          apply Nat.le_antisymm
          · apply Nat.le_of_not_lt
            intro hlt
            have := hpre i hlt hs
            rw [hDi] at this; cases this
          · apply Nat.le_of_not_lt
            intro hlt
            obtain ⟨hsc,hDc⟩ := hfirst (by omega)
            have := dep_closed hcl _ i c (hSS i c hlt hin hs hsc hfi) hpr
            rw [hDc] at this; cases this
        subst hci
        have hAe : ∀ k,AS (insD D c) (c + 1) k = AS D c k := fun k => by
          by_cases hkc : k = c
          · subst hkc; simp [AS,hfi]
          · simp only [AS,insD,hkc,decide_false,Bool.or_false]
            congr 2
            exact decide_eq_decide.2 ⟨fun h => by omega,fun h => by omega⟩
        refine wpOp_mono ?_ (hplain hfi (fun _ => rfl) (fun hnb => by have : (recs.getD c recE0).nb.isSome = true := hs; rw [hnb] at this; cases this) (c + 1) (hB c hin).symm hAe)
        intro a' w' hr'
        refine ⟨hadv (insD D c) a' w' _ hclI (n - (c + 1)) (c + 1) (by omega) (fun k hk hsk => ?_) (fun k hk hkn hsk hD => hmin k (by omega) hkn hsk (by simpa [insD,show k ≠ c by omega] using hD)) (fun k l hk hl => hddD k l (by rw [← hAe]; exact hk) (by rw [← hAe]; exact hl)) hr',hclI⟩
        rcases Nat.lt_or_eq_of_le (Nat.lt_succ_iff.1 hk) with h1 | rfl
        · simp [insD,hpre k h1 hsk]
        · simp [insD]
      · -- one that reads
        have hseen : ∀ x ∈ (recs.getD i recE0).rd,seen x (B i) (B c) := fun x hx q hq => by
          have step : ∀ k,k < n → (k < i ∧ c ≤ k ∨ i < k ∧ k < c) → ((B (k + 1))[x.1]?).map (ob q) = ((B k)[x.1]?).map (ob q) := fun k hk hb => by
            rw [hB k hk]
            cases hnb : (recs.getD k recE0).nb with
            | none => rfl
            | some nb =>
              have hsk : isS k := by show ((recs.getD k recE0).nb).isSome = true; rw [hnb]; rfl
              have hne : k ≠ i := by omega
              have hno : ¬ ((recs.getD k recE0).all = true ∨ ∃ y ∈ (recs.getD k recE0).wr,ovl x y = true) := fun hcf => by
                obtain ⟨h1,h2⟩ := hmem i k hin hk hne hs hsk x hx hcf
                have h3 := order k hk hne h1
                rcases hb with ⟨hki,hck⟩ | ⟨hik,hkc⟩
                · have hD : D k = true := by rw [h3]; exact decide_eq_true hki
                  exact hnear k (by simp only [AS,hmin k hck hk hsk hD,hD,decide_eq_true hck,Bool.and_self]) h2 h3
                · have := hpre k hkc hsk
                  rw [h3,decide_eq_false (by omega)] at this
                  cases this
              simp only [not_or,not_exists,not_and,Bool.not_eq_true] at hno
              exact hun k hk nb hnb hno.1 x.1 q (fun y hy => ovl_touch (hno.2 y hy) hq)
          have walk : ∀ (m p : Nat),p + m ≤ n → (∀ k,p ≤ k → k < p + m → ((B (k + 1))[x.1]?).map (ob q) = ((B k)[x.1]?).map (ob q)) → ((B (p + m))[x.1]?).map (ob q) = ((B p)[x.1]?).map (ob q) := fun m p => by
            induction m with
            | zero => intro _ _; rfl
            | succ m ih =>
              intro h1 h2
              have := h2 (p + m) (by omega) (by omega)
              rw [show p + (m + 1) = p + m + 1 by omega,this]
              exact ih (by omega) (fun k h3 h4 => h2 k h3 (by omega))
          rcases Nat.lt_or_ge c i with hlt | hge
          · have := walk (i - c) c (by omega) (fun k h3 h4 => step k (by omega) (.inl ⟨by omega,h3⟩))
            rw [show c + (i - c) = i by omega] at this
            exact this.symm
          · have hi1 : ((B (i + 1))[x.1]?).map (ob q) = ((B i)[x.1]?).map (ob q) := by
              rw [hB i hin,hidN i hs (B i)]
            have := walk (c - i) i (by omega) (fun k h3 h4 => by
              rcases Nat.lt_or_eq_of_le h3 with h5 | rfl
              · exact step k (by omega) (.inr ⟨h5,by omega⟩)
              · exact hi1)
            rw [show i + (c - i) = c by omega] at this
            exact this
        have hAe : ∀ k,AS (insD D i) c k = AS D c k := fun k => by
          by_cases hki : k = i
          · subst hki; simp [AS,hfi]
          · exact hAins c k hki
        refine wpOp_mono ?_ (hplain hfi (fun h => absurd h hs) (fun _ => hseen) c (hidN i hs _) hAe)
        intro a' w' hr'
        refine ⟨⟨c,hcn,fun k hk hsk => by simp [insD,hpre k hk hsk],fun hlt => ⟨(hfirst hlt).1,?_⟩,hr'⟩,hclI⟩
        have hne : c ≠ i := fun e => hs (e ▸ (hfirst hlt).1)
        simp [insD,hne,(hfirst hlt).2]
  · rintro listed a w hsz ⟨⟨c,hcn,hpre,hfirst,hrel⟩,hcl⟩ hr
    have hall : ∀ k,k < n → listed.getD k false = true := fun k => by
      induction k using Nat.strongRecOn with
      | _ k ih =>
        intro hk
        cases hl : listed.getD k false with
        | true => rfl
        | false =>
          exfalso
          obtain ⟨o,ho⟩ : ∃ o,ops[k]? = some o := ⟨ops[k]'hk,by simp [hk]⟩
          have hks : k < listed.size := by rw [hsz]; exact hk
          have : k ∈ Region.ready .any ops listed := by
            refine mem_ready.2 ⟨?_,o,ho,fun e he hb => ?_⟩
            · simp [hks] at hl ⊢; exact hl
            · have h1 := List.all_eq_true.1 hah k (List.mem_range.2 hk)
              rw [ho] at h1
              have h2 := Array.all_eq_true'.1 h1 e he
              simp only [hb,Bool.not_true,Bool.false_or,decide_eq_true_eq] at h2
              exact ih e.on h2 (by omega)
          rw [hr] at this
          cases this
    have hce : c = n := by
      apply Nat.le_antisymm hcn
      apply Nat.le_of_not_lt
      intro hlt
      have h1 := (hfirst hlt).2
      have h2 := hall c hlt
      simp only at h1
      rw [h2] at h1
      cases h1
    subst hce
    have hrel2 := hrel.none (fun k => by
      cases hf : isFl ops k with
      | false => simp only [AS,hf,Bool.false_and]
      | true =>
        have := hflt k hf
        show (isFl ops k && (listed.getD k false && decide (ops.size ≤ k))) = false
        rw [decide_eq_false (show ¬ ops.size ≤ k from Nat.not_le.2 this),Bool.and_false,Bool.and_false])
    have e1 := fold_all (uS ops recs) (fun k => listed.getD k false) ops.size t0 hall
    have hrel2 : Rel F ⟨foldD (uS ops recs) (fun k => listed.getD k false) ops.size t0,B ops.size⟩ a w := hrel2
    rw [e1] at hrel2
    exact hQ a w (rel_congr hrel2 (fun d => hTf ops.size (Nat.le_refl _) d))
  · have e3 : (fun k => (Array.replicate ops.size false).getD k false) = fun _ => false := funext fun k => repl_false _ _
    show Inv _ a0 _
    rw [e3]
    have e : ∀ {S : Type} (u : Nat → S → S) (m : Nat) (s : S),foldD u (fun _ => false) m s = s := fun u m s => by
      induction m with
      | zero => rfl
      | succ m ih => simp only [foldD]; rw [if_neg (by simp),ih]
    obtain ⟨β,fp,hf,hw⟩ := hr
    refine ⟨?_,fun i o _ h => by cases h⟩
    have h0 : RelA F G (AS (fun _ => false) 0) t0 (B 0) a0 w.drew := by
      rw [hB0]
      refine ⟨β,fp,fun _ => 0,t0,hf,hw.drew,fun k hk => ?_,fun k l hk => ?_,fun _ _ => rfl⟩ <;> simp [AS] at hk
    have := hadv (fun _ => false) a0 w.drew t0 (fun i o _ h => by cases h) n 0 (by omega) (fun k hk => by omega) (fun k _ _ _ h => by cases h) (fun k l hk => by simp [AS] at hk) h0
    obtain ⟨c,h1,h2,h3,h4⟩ := this
    exact ⟨c,h1,h2,h3,by rw [e]; exact h4⟩
end
end Vc
namespace Vc
open Go Go.RowKit Wf
section
variable {V : Cx} {F : Fx V}
theorem looks_ev {ops : Array Oper} {o : Oper} {t t' : List (Nat × SV)} (h : ∀ d ∈ o.looksAt ops,lk d t' = lk d t) : ∀ x ∈ o.op.operands,ev t' x = ev t x := fun x hx => by
  cases x with
  | tmp d =>
    simp only [ev]
    refine h d ?_
    unfold Oper.looksAt
    simp only [List.mem_append,List.mem_filterMap]
    exact .inl ⟨.tmp d,Array.mem_toList_iff.2 hx,rfl⟩
  | const _ => rfl
  | global _ => rfl
  | func _ => rfl
theorem gdst_ok : ∀ (l : List Oper) (j : Nat),gdst l j = (l[j]?).bind (·.dst)
  | [],j => by simp [gdst]
  | o :: r,0 => by simp [gdst]
  | o :: r,j + 1 => by simp [gdst,gdst_ok r j]
theorem gvalD_ok {ops : Array Oper} {σt : List (Nat × SV)} {β : Nat → Bt} {a : Act} (hf : FrOK β F.n σt a) {j d : Nat} {b : Bool} (h : Yk σt (gdst ops.toList j) = some (d,b)) :
    yielded ops a.tmps j = some b ∧ a.tmps.getD d undef = .bool b := by
  refine gval_ok hf ?_
  unfold Yk at h
  split at h
  · rename_i d' hd
    rw [gdst_ok] at hd
    unfold gval
    rw [List.getElem?_map]
    cases ho : ops.toList[j]? with
    | none => rw [ho] at hd; simp at hd
    | some o =>
      rw [ho] at hd
      simp at hd
      simp only [Option.map_some,hd]
      exact h
  · cases h
theorem gvU_at {ops : List Oper} {t : List (Nat × SV)} {j : Nat} (h : gvU t (gdst ops j) = true) : ∃ d x,gdst ops j = some d ∧ lk d t = some (.v x) ∧ nob x = true := by
  unfold gvU at h
  split at h
  · rename_i d hd
    split at h
    · rename_i x hx
      exact ⟨d,x,hd,hx,h⟩
    · cases h
  · cases h
theorem gvU_ok {ops : Array Oper} {σt : List (Nat × SV)} {β : Nat → Bt} {a : Act} (hf : FrOK β F.n σt a) {j d : Nat} {x : Value} (hd : gdst ops.toList j = some d) (hx : lk d σt = some (.v x)) (hn : nob x = true) : yielded ops a.tmps j = none := by
  have hg := hf.get _ _ hx
  simp only [conc] at hg
  rw [gdst_ok] at hd
  have hd' : (ops[j]?).bind (·.dst) = some d := by simpa using hd
  unfold yielded
  rw [hd']
  simp only [Option.bind_some]
  cases ht : a.tmps[d]? with
  | none => rfl
  | some y =>
    have : y = x := by rw [← hg]; simp [Array.getD_eq_getD_getElem?,ht]
    subst this
    cases y <;> simp [nob] at hn ⊢
theorem gval_same {ops : List Oper} {t t' : List (Nat × SV)} {j d : Nat} {b : Bool} (h : Yk t (gdst ops j) = some (d,b)) (hl : lk d t' = lk d t) : Yk t' (gdst ops j) = some (d,b) := by
  unfold Yk at h ⊢
  split at h
  · rename_i d' hd
    split at h
    · rename_i b' hb
      cases h
      rw [hl,hb]
    · cases h
  · cases h
theorem gval_lk {ops : List Oper} {t : List (Nat × SV)} {j d : Nat} {b : Bool} (h : Yk t (gdst ops j) = some (d,b)) : lk d t = some (.bool b) ∧ gdst ops j = some d := by
  unfold Yk at h
  split at h
  · rename_i d' hd
    split at h
    · rename_i b' hb
      cases h
      exact ⟨hb,hd⟩
    · cases h
  · cases h
theorem guard_looks {ops : Array Oper} {o : Oper} {j d : Nat} {want : Bool} (hg : o.guard = some (j,want)) (hd : gdst ops.toList j = some d) : d ∈ o.looksAt ops := by
  unfold Oper.looksAt
  rw [hg]
  simp only [List.mem_append]
  right
  rw [gdst_ok] at hd
  have : (ops[j]?).bind (·.dst) = some d := by simpa using hd
  rw [this]
  simp
theorem lk_relit {t : List (Nat × SV)} {d : Nat} {b : Bool} (h : lk d t = some (.bool b)) : ∀ e,lk e ((d,.bool b) :: t) = lk e t := fun e => by
  simp only [lk]
  split
  · rename_i he; subst he; exact h.symm
  · rfl
theorem wanted_none {ops : Array Oper} {o : Oper} (h : o.guard = none) (a : Act) : Region.wanted o (yielded ops a.tmps) = true := by simp [Region.wanted,h]
theorem opE_val {ops : Array Oper} {i : Nat} {t tt : List (Nat × SV)} {b : List Res} {o : Oper} {c : Prop} {r : RecE} (ho : ops[i]? = some o) (hfit : fits F.n o.dst = true) (hs : XV V o.op ⟨tt,b⟩ = .val c r) (hc : c) (htt : ∀ e,lk e tt = lk e t)
    (hw : ∀ (ta : List (Nat × SV)) (ba : List Res) (a : Act) (w : World),Rel F ⟨ta,ba⟩ a w → (∀ d ∈ o.looksAt ops,lk d ta = lk d t) → Region.wanted o (yielded ops a.tmps) = true) : StepE F ops i t b r := by
  intro Q K a w t' b' o' ho' hl hb hseen hr hK
  rw [ho] at ho'
  cases ho'
  unfold wpOp
  rw [ho]
  simp only
  rw [if_pos (hw t' b' a w hr hl)]
  left
  refine Oper.wp_mono (fun a w ⟨σ,hσ,hrel⟩ => ?_) (stepO_sound (F := F) hfit (stepD_go (dst := o.dst) (t' := t') (b' := b') (looks_ev (ops := ops) (t := tt) (fun d hd => (hl d hd).trans (htt d).symm)) hs hc hb hseen) hr o.type o.pos o.after o.guard _)
  subst hσ
  exact hK a w hrel
theorem opE_call {ops : Array Oper} {i : Nat} {t tt : List (Nat × SV)} {b : List Res} {o : Oper} {g : FuncId} {args : List SV} {r : RecE} (ho : ops[i]? = some o) (hfit : fits F.n o.dst = true) (hs : XV V o.op ⟨tt,b⟩ = .call g args) (htt : ∀ e,lk e tt = lk e t)
    (hr0 : (∃ x,PC V g args x ∧ r = ⟨x,none,false,[],[]⟩) ∨ (∃ x nb al W,SC V g args b (fun r' b' => r' = x ∧ b' = nb) ∧ r = ⟨x,some nb,al,[],W⟩))
    (hw : ∀ (ta : List (Nat × SV)) (ba : List Res) (a : Act) (w : World),Rel F ⟨ta,ba⟩ a w → (∀ d ∈ o.looksAt ops,lk d ta = lk d t) → Region.wanted o (yielded ops a.tmps) = true) : StepE F ops i t b r := by
  intro Q K a w t' b' o' ho' hl hb hseen hr hK
  rw [ho] at ho'
  cases ho'
  unfold wpOp
  rw [ho]
  simp only
  rw [if_pos (hw t' b' a w hr hl)]
  left
  have hcall := stepD_call (dst := o.dst) (t' := t') (b' := b') (looks_ev (ops := ops) (t := tt) (fun d hd => (hl d hd).trans (htt d).symm)) hs
  have hh : HoldsR V (fun σ => σ = ⟨put o.dst r.x t',r.nb.getD b'⟩) (XR V o.dst o.op ⟨t',b'⟩) := by
    rw [hcall]
    rcases hr0 with ⟨x,hpc,rfl⟩ | ⟨x,nb,al,W,hsc,rfl⟩
    · exact .inl ⟨x,hpc,rfl⟩
    · obtain rfl := hb rfl
      exact .inr ⟨_,hsc,fun r' bs ⟨h1,h2⟩ => by subst h1 h2; rfl⟩
  refine Oper.wp_mono (fun a w ⟨σ,hσ,hrel⟩ => ?_) (stepO_sound (F := F) hfit hh hr o.type o.pos o.after o.guard _)
  subst hσ
  exact hK a w hrel
theorem opE_skip {ops : Array Oper} {i : Nat} {t : List (Nat × SV)} {b : List Res} {o : Oper} (ho : ops[i]? = some o) (hfit : fits F.n o.dst = true)
    (hw : ∀ (ta : List (Nat × SV)) (ba : List Res) (a : Act) (w : World),Rel F ⟨ta,ba⟩ a w → (∀ d ∈ o.looksAt ops,lk d ta = lk d t) → Region.wanted o (yielded ops a.tmps) = false) : StepE F ops i t b ⟨.v undef,none,false,[],[]⟩ := by
  intro Q K a w t' b' o' ho' hl hb hseen hr hK
  rw [ho] at ho'
  cases ho'
  unfold wpOp
  rw [ho]
  simp only
  rw [if_neg (by rw [hw t' b' a w hr hl]; simp)]
  obtain ⟨β,fp,hf,hwd⟩ := hr
  exact hK _ w ⟨β,fp,hf.put hfit (fun _ _ => rfl),hwd⟩
theorem un_none (r : RecE) (h : r.nb = none) (b : List Res) : UnE r b := fun nb hnb => by rw [h] at hnb; cases hnb
def FlOK (F : Fx V) (ops : Array Oper) (r : RecE) (t : List (Nat × SV)) (b : List Res) (i d : Nat) (z : List SV) (T : TypeId) (q : Option (Nat × Nat)) : Prop :=
  dstAt ops i = some d ∧ d < F.n ∧ (∃ W,r = ⟨flV q b.length,some (b ++ [flR q z T]),false,[],W⟩) ∧ flW q z ∧ ∃ o,ops[i]? = some o ∧ o.guard = none ∧
    ∀ (β : Nat → Bt) (m : Nat) (tt : List (Nat × SV)) (a : Act) (w : World),Fm F β m tt a → (∀ d ∈ o.looksAt ops,lk d tt = lk d t) → ∀ β',Agr m β β' → (execOp a.eval o).run V.P w = Result.ok (.value (conc bt0 (flP q w.heap.size))) (w.alloc (.cells (z.map (conc β')).toArray T))
theorem stepD_alloc {T : TypeId} {σ : St} {c : Prop} {r : RecE} (h : XV V (.alloc T) σ = .val c r) : ∃ ti,V.Γ T = some ti ∧ r = ⟨.p σ.b.length 0,some (σ.b ++ [.cells ti.zero T true]),false,[],[(σ.b.length,0,0)]⟩ := by
  unfold XV at h
  simp only [pv,Yl,goD,dN,Xv,XD] at h
  split at h
  · rename_i ti hti
    cases h
    exact ⟨ti,hti,rfl⟩
  · cases h
theorem stepD_alloc_call {T : TypeId} {σ : St} {g : FuncId} {args : List SV} (h : XV V (.alloc T) σ = .call g args) : False := by
  unfold XV at h
  simp only [pv,Yl,goD,dN,Xv,XD] at h
  split at h <;> cases h
set_option maxHeartbeats 2000000 in
theorem build_run {ts e : TypeId} {n : Nat} {ps : Array (Nat × Operand)} {t : List (Nat × SV)} {l : List (Nat × SV)} {c0 : List SV} {ti : TI} (ht : kd V.Γ ts = some (.slice e)) (hti : V.Γ e = some ti) (hl : Xl t ps.toList = some l) (hfl : Yi ti.size 0 l = some c0) (hpn : l.length = n) (h24 : n * ti.size ≤ 16777216) (hs0 : 0 < ti.size)
    {β : Nat → Bt} {m : Nat} {a : Act} (hf : Fm F β m t a) (w : World) (β' : Nat → Bt) (hβ : Agr m β β') : (Instr.buildSlice ts n (ps.map fun p => (p.1,a.eval p.2))).run V.P w = Result.ok (.slice (some ⟨w.heap.size,0,none⟩) n n) (w.alloc (.cells (c0.map (conc β')).toArray e)) := by
  obtain ⟨d1,hd1,hk1⟩ := kd_some V.gok ht
  simp only [undSays] at hk1
  subst hk1
  obtain ⟨i,z,hi,hz,hisz,hiby,hzc⟩ := (V.gok e ti hti).info
  have e2 := evParts_ok (β' := β') hf hβ hl
  have hcl := fillN_len hfl
  rw [hpn] at hcl
  have hfill := fillN_ok β' ti.size l 0 c0 hfl ((Array.range (n * i.size)).map (z.cells[· % z.cells.size]!)) (by rw [Nat.zero_add,hpn]; simp [hisz])
  by_cases hn : n = 0
  · subst hn
    have hl0 : l = [] := List.eq_nil_of_length_eq_zero hpn
    subst hl0
    have hc0 : c0 = [] := List.eq_nil_of_length_eq_zero (by rw [hcl]; simp)
    subst hc0
    have e3 : (ps.toList.map fun p => (p.1,a.eval p.2)) = [] := e2
    have e4 : Array.range 0 = #[] := rfl
    simp [Instr.buildSlice,run_underlying hd1,Go.sizeOf,typeInfo,hi,e3,Instr.fill,newRow,e4]
  · refine run_buildSlice (P := V.P) w ts e n (ps.map fun p => (p.1,a.eval p.2)) (c0.map (conc β')).toArray i z hd1 hi hz (by rw [hisz]; omega) (by rw [hisz]; exact Nat.ne_of_gt (Nat.mul_pos (by omega) hs0)) ?_
    have e3 := hfill
    rw [← hisz] at e3
    rw [Array.toList_map,e2,e3]
    congr 1
    apply Array.ext'
    rw [Nat.zero_add,hpn]
    simp
theorem stepD_build {ts : TypeId} {n : Nat} {ps : Array (Nat × Operand)} {σ : St} {c : Prop} {r : RecE} (h : XV V (.buildSlice ts n ps) σ = .val c r) (hc : c) : ∃ e ti l c0,kd V.Γ ts = some (.slice e) ∧ V.Γ e = some ti ∧ Xl σ.t ps.toList = some l ∧ Yi ti.size 0 l = some c0 ∧ l.length = n ∧ n * ti.size ≤ 16777216 ∧ 0 < ti.size ∧ ∃ W,r = ⟨.o σ.b.length n,some (σ.b ++ [.own c0 e ti.size n true]),false,[],W⟩ := by
  unfold XV at h
  simp only [pv,goD,Yl,Xv] at h
  cases hx : Xa V (some 0) ts n ps.toList σ with
  | none => rw [hx] at h; simp only [dN] at h; cases h
  | some y =>
    rw [hx] at h
    obtain ⟨c',σ'⟩ := y
    unfold Xa at hx
    (repeat' split at hx) <;> try (cases hx; done)
    rename_i _ e ht _ ti hti _ l hl _ c0 hfl
    cases hx
    simp only [dN,put,Xz,Bool.false_eq_true,if_false] at h
    cases h
    exact ⟨e,ti,l,c0,ht,hti,hl,hfl,hc.1,hc.2.1,hc.2.2,_,rfl⟩
theorem stepD_build_call {ts : TypeId} {n : Nat} {ps : Array (Nat × Operand)} {σ : St} {g : FuncId} {args : List SV} (h : XV V (.buildSlice ts n ps) σ = .call g args) : False := by
  unfold XV at h
  simp only [pv,goD,Yl,Xv] at h
  cases hx : Xa V (some 0) ts n ps.toList σ with
  | none => rw [hx] at h; simp only [dN] at h; cases h
  | some y =>
    rw [hx] at h
    obtain ⟨c',σ'⟩ := y
    simp only [dN] at h
    split at h
    · split at h <;> cases h
    · cases h
structure LexE (F : Fx V) (ops : Array Oper) (t0 : List (Nat × SV)) (b0 : List Res) (recs : List RecE) (T : Nat → List (Nat × SV)) (B : Nat → List Res) (σ : St) : Prop where
  t0 : ∀ d,lk d (T 0) = lk d t0
  b0 : B 0 = b0
  t : ∀ i,i < recs.length → ∀ d,lk d (T (i + 1)) = lk d (put (dstAt ops i) (recs.getD i recE0).x (T i))
  b : ∀ i,i < recs.length → B (i + 1) = (recs.getD i recE0).nb.getD (B i)
  op : ∀ i,i < recs.length → ∀ F' : Fx V,F'.n = F.n → StepE F' ops i (T i) (B i) (recs.getD i recE0)
  un : ∀ i,i < recs.length → UnE (recs.getD i recE0) (B i)
  te : T recs.length = σ.t
  be : B recs.length = σ.b
  fl : ∀ i,i < recs.length → isFl ops i = true → ∃ d z Ta q,FlOK F ops (recs.getD i recE0) (T i) (B i) i d z Ta q
theorem LexE.step {ops : Array Oper} {t0 : List (Nat × SV)} {b0 : List Res} {recs : List RecE} {T : Nat → List (Nat × SV)} {B : Nat → List Res} {σ : St} (h : LexE F ops t0 b0 recs T B σ) {o : Oper} (ho : ops[recs.length]? = some o) (r : RecE) (tt : List (Nat × SV))
    (htt : ∀ d,lk d tt = lk d (put o.dst r.x σ.t)) (hop : ∀ F' : Fx V,F'.n = F.n → StepE F' ops recs.length σ.t σ.b r) (hun : UnE r σ.b) (hfl : isFl ops recs.length = true → ∃ d z Ta q,FlOK F ops r σ.t σ.b recs.length d z Ta q) :
    LexE F ops t0 b0 (recs ++ [r]) (fun i => if i = recs.length + 1 then tt else T i) (fun i => if i = recs.length + 1 then r.nb.getD σ.b else B i) ⟨tt,r.nb.getD σ.b⟩ := by
  have hlast : (recs ++ [r]).getD recs.length recE0 = r := by simp [List.getD_eq_getElem?_getD]
  have hprev : ∀ i,i < recs.length → (recs ++ [r]).getD i recE0 = recs.getD i recE0 := fun i hi => by simp [List.getD_eq_getElem?_getD,List.getElem?_append_left hi]
  have hd : dstAt ops recs.length = o.dst := by unfold dstAt; rw [ho]; rfl
  refine ⟨?_,?_,fun i hi => ?_,fun i hi => ?_,fun i hi => ?_,fun i hi => ?_,?_,?_,fun i hi hf => ?_⟩
  · simp only [if_neg (show (0 : Nat) ≠ recs.length + 1 by omega)]; exact h.t0
  · simp only [if_neg (show (0 : Nat) ≠ recs.length + 1 by omega)]; exact h.b0
  all_goals try (rw [List.length_append,List.length_singleton] at hi)
  · intro d
    simp only [if_neg (show i ≠ recs.length + 1 by omega)]
    by_cases he : i = recs.length
    · subst he
      simp only [if_true]
      rw [hlast,hd,h.te]
      exact htt d
    · rw [if_neg (by omega),hprev i (by omega)]
      exact h.t i (by omega) d
  · simp only [if_neg (show i ≠ recs.length + 1 by omega)]
    by_cases he : i = recs.length
    · subst he
      simp only [if_true]
      rw [hlast,h.be]
    · rw [if_neg (by omega),hprev i (by omega)]
      exact h.b i (by omega)
  · simp only [if_neg (show i ≠ recs.length + 1 by omega)]
    by_cases he : i = recs.length
    · subst he
      rw [hlast,h.te,h.be]
      exact hop
    · rw [hprev i (by omega)]
      exact h.op i (by omega)
  · simp only [if_neg (show i ≠ recs.length + 1 by omega)]
    by_cases he : i = recs.length
    · subst he
      rw [hlast,h.be]
      exact hun
    · rw [hprev i (by omega)]
      exact h.un i (by omega)
  · simp
  · simp
  · simp only [if_neg (show i ≠ recs.length + 1 by omega)]
    by_cases he : i = recs.length
    · subst he
      rw [hlast,h.te,h.be]
      exact hfl hf
    · rw [hprev i (by omega)]
      exact h.fl i (by omega) hf
def rkOf (r : RecE) : Rk := ⟨r.nb.isSome,r.all,r.rd,r.wr⟩
theorem lexE_run {ops : Array Oper} {t0 : List (Nat × SV)} {b0 : List Res} {E : Fin} {k : List Item} : ∀ (f : Nat) (l pre : List Oper) (recs : List RecE) (T : Nat → List (Nat × SV)) (B : Nat → List Res) (σ : St),ops.toList = pre ++ l → recs.length = pre.length →
    LexE F ops t0 b0 recs T B σ → vcS V F.n E f (.dops ops l (recs.map rkOf) :: k) σ →
    ∃ f' recs' T' B' σ',f' < f ∧ recs'.length = ops.size ∧ LexE F ops t0 b0 recs' T' B' σ' ∧ OkD ops (recs'.map rkOf) ∧ vcS V F.n E f' k σ' := by
  intro f
  induction f with
  | zero => intro l pre recs T B σ _ _ _ h; cases l <;> simp [vcS] at h
  | succ f ih =>
    intro l pre recs T B σ hops hlen hlex h
    match l with
    | [] =>
      simp only [vcS] at h
      refine ⟨f,recs,T,B,σ,Nat.lt_succ_self _,?_,hlex,h.1,h.2⟩
      have := congrArg List.length hops
      simp at this
      omega
    | o :: r =>
      have ho : ops[recs.length]? = some o := by
        have : ops.toList[recs.length]? = some o := by rw [hops,hlen]; simp
        simpa using this
      have next : ∀ (rc : RecE) (tt : List (Nat × SV)),(∀ d,lk d (put o.dst rc.x tt) = lk d (put o.dst rc.x σ.t)) → (∀ F' : Fx V,F'.n = F.n → StepE F' ops recs.length σ.t σ.b rc) → UnE rc σ.b → (isFl ops recs.length = true → ∃ d z Ta q,FlOK F ops rc σ.t σ.b recs.length d z Ta q) →
          vcS V F.n E f (.dops ops r (recs.map rkOf ++ [rkOf rc]) :: k) ⟨Vc.put o.dst rc.x tt,rc.nb.getD σ.b⟩ →
          ∃ f' recs' T' B' σ',f' < f + 1 ∧ recs'.length = ops.size ∧ LexE F ops t0 b0 recs' T' B' σ' ∧ OkD ops (recs'.map rkOf) ∧ vcS V F.n E f' k σ' := fun rc tt htt hop hun hflr hv => by
        obtain ⟨f',recs',T',B',σ',h1,h2,h3,h4,h5⟩ := ih r (pre ++ [o]) (recs ++ [rc]) _ _ _ (by rw [hops]; simp) (by simp [hlen]) (hlex.step ho rc (Vc.put o.dst rc.x tt) htt hop hun hflr) (by simpa using hv)
        exact ⟨f',recs',T',B',σ',by omega,h2,h3,h4,h5⟩
      have hflo : isFl ops recs.length = true → o.guard = none ∧ ∃ d,o.dst = some d ∧ ((∃ Ta,o.op = .alloc Ta) ∨ ∃ ts n ps,o.op = .buildSlice ts n ps) := fun h => by
        unfold isFl at h
        rw [ho] at h
        split at h
        · rename_i e; cases e; exact ⟨rfl,_,rfl,.inl ⟨_,rfl⟩⟩
        · rename_i e; cases e; exact ⟨rfl,_,rfl,.inr ⟨_,_,_,rfl⟩⟩
        · cases h
      have hdat : dstAt ops recs.length = o.dst := by unfold dstAt; rw [ho]; rfl
      obtain ⟨dst,op,ty,pos,after,guard⟩ := o
      simp only at hflo hdat
      -- one operation,wanted
      have go : ∀ (tt : List (Nat × SV)),(∀ e,lk e tt = lk e σ.t) → (∀ F' : Fx V,F'.n = F.n → ∀ (ta : List (Nat × SV)) (ba : List Res) (a : Act) (w : World),Rel F' ⟨ta,ba⟩ a w → (∀ d ∈ (⟨dst,op,ty,pos,after,guard⟩ : Oper).looksAt ops,lk d ta = lk d σ.t) → Region.wanted ⟨dst,op,ty,pos,after,guard⟩ (yielded ops a.tmps) = true) →
          fits F.n dst = true → Yg V F.n E f ops r (recs.map rkOf) k dst ⟨tt,σ.b⟩ (XV V op ⟨tt,σ.b⟩) →
          ∃ f' recs' T' B' σ',f' < f + 1 ∧ recs'.length = ops.size ∧ LexE F ops t0 b0 recs' T' B' σ' ∧ OkD ops (recs'.map rkOf) ∧ vcS V F.n E f' k σ' := fun tt htt hwant hfit hcd => by
        have hput : ∀ x d,lk d (put dst x tt) = lk d (put dst x σ.t) := fun x d => lk_put_congr (htt d)
        have hfit' : ∀ F' : Fx V,F'.n = F.n → fits F'.n dst = true := fun F' e => by rw [e]; exact hfit
        have hval : ∀ {c : Prop} {rc : RecE},XV V op ⟨tt,σ.b⟩ = .val c rc → c → isFl ops recs.length = true → ∃ d z Ta q,FlOK F ops rc σ.t σ.b recs.length d z Ta q := fun {c rc} hs hc hf => by
          obtain ⟨hg,d,hd,⟨Ta,hop⟩ | ⟨ts,n,ps,hop⟩⟩ := hflo hf
          · subst hop
            obtain ⟨ti,hti,hrc⟩ := stepD_alloc hs
            refine ⟨d,ti.zero,Ta,none,hdat.trans hd,?_,⟨_,hrc⟩,trivial,_,ho,hg,fun β m tt' a w hfm hlk β' hβ => ?_⟩
            · rw [hd] at hfit
              simpa [fits] using hfit
            · rw [(V.gok Ta ti hti).flat β']
              exact run_val (run_alloc (V := V) Ta ti hti w)
          · subst hop
            obtain ⟨e,ti,l,c0,h1,h2,h3,h4,h5,h6,h7,W,hrc⟩ := stepD_build hs hc
            have hcl := fillN_len h4
            refine ⟨d,c0,e,some (ti.size,n),hdat.trans hd,?_,⟨W,hrc⟩,⟨by rw [hcl,h5],?_⟩,_,ho,hg,fun β m tt' a w hfm hlk β' hβ => ?_⟩
            · rw [hd] at hfit
              simpa [fits] using hfit
            · unfold maxLen
              have : n * 1 ≤ n * ti.size := Nat.mul_le_mul_left _ h7
              omega
            · have hev := looks_ev (ops := ops) (o := ⟨dst,.buildSlice ts n ps,ty,pos,after,guard⟩) (t := tt) (t' := tt') (fun d hd => (hlk d hd).trans (htt d).symm)
              have h3' : Xl tt' ps.toList = some l := by
                rw [evParts_congr (t := tt') (t' := tt) ps.toList (fun x hx => hev x (by simp only [Op.operands]; rw [List.mem_toArray]; exact hx))]
                exact h3
              exact run_val (build_run (F := F) h1 h2 h3' h4 h5 h6 h7 hfm w β' hβ)
        have hnc : ∀ {g : FuncId} {args : List SV} {rc : RecE},XV V op ⟨tt,σ.b⟩ = .call g args → isFl ops recs.length = true → ∃ d z Ta q,FlOK F ops rc σ.t σ.b recs.length d z Ta q := fun {g args rc} hs hf => by
          obtain ⟨-,d,-,⟨Ta,hop⟩ | ⟨ts,n,ps,hop⟩⟩ := hflo hf
          · rw [hop] at hs
            exact (stepD_alloc_call hs).elim
          · rw [hop] at hs
            exact (stepD_build_call hs).elim
        cases hsd : XV V op ⟨tt,σ.b⟩ with
        | val c rc =>
          rw [hsd] at hcd
          obtain ⟨x,nb,al,rd,wr⟩ := rc
          cases nb with
          | none =>
            simp only [Yg] at hcd
            exact next ⟨x,none,al,rd,wr⟩ tt (hput x) (fun F' e => opE_val ho (hfit' F' e) hsd hcd.1 htt (hwant F' e)) (stepD_un hsd hcd.1) (hval hsd hcd.1) hcd.2
          | some nb =>
            simp only [Yg] at hcd
            exact next ⟨x,some nb,al,rd,wr⟩ tt (hput x) (fun F' e => opE_val ho (hfit' F' e) hsd hcd.1 htt (hwant F' e)) (stepD_un hsd hcd.1) (hval hsd hcd.1) hcd.2
        | call g args =>
          rw [hsd] at hcd
          simp only [Yg,callD] at hcd
          rcases hcd with ⟨x,hpc,hv⟩ | ⟨x,nb,hsc,hv⟩ | ⟨x,nb,W,hsc,hout,hv⟩
          · exact next ⟨x,none,false,[],[]⟩ tt (hput x) (fun F' e => opE_call ho (hfit' F' e) hsd htt (.inl ⟨x,hpc,rfl⟩) (hwant F' e)) (un_none _ rfl _) (hnc hsd) hv
          · exact next ⟨x,some nb,true,[],[]⟩ tt (hput x) (fun F' e => opE_call ho (hfit' F' e) hsd htt (.inr ⟨x,nb,true,[],hsc,rfl⟩) (hwant F' e)) (fun _ _ h => by cases h) (hnc hsd) hv
          · exact next ⟨x,some nb,false,[],W⟩ tt (hput x) (fun F' e => opE_call ho (hfit' F' e) hsd htt (.inr ⟨x,nb,false,W,hsc,rfl⟩) (hwant F' e)) (fun _ h _ j q hq => by cases h; exact hout j q hq) (hnc hsd) hv
        | bad => rw [hsd] at hcd; simp [Yg] at hcd
      cases guard with
      | none =>
        simp only [vcS] at h
        exact go σ.t (fun _ => rfl) (fun F' _ ta _ a _ _ _ => wanted_none rfl a) h.1 h.2
      | some q =>
        obtain ⟨j,want⟩ := q
        simp only [vcS] at h
        obtain ⟨hfit,h⟩ := h
        have hfit' : ∀ F' : Fx V,F'.n = F.n → fits F'.n dst = true := fun F' e => by rw [e]; exact hfit
        have hng : ∀ {rc : RecE},isFl ops recs.length = true → ∃ d z Ta q,FlOK F ops rc σ.t σ.b recs.length d z Ta q := fun hf => by
          have := (hflo hf).1
          cases this
        cases hg : Yk σ.t (gdst ops.toList j) with
        | none =>
          cases hu : gvU σ.t (gdst ops.toList j) with
          | false => rw [hg,hu] at h; simp [Xy] at h
          | true =>
            rw [hg,hu] at h
            simp only [Xy,XG] at h
            obtain ⟨d,x,hgd,hlk,hno⟩ := gvU_at hu
            refine next ⟨.v undef,none,false,[],[]⟩ σ.t (fun _ => rfl) (fun F' e => opE_skip ho (hfit' F' e) (fun ta ba a w hr hl => by
              obtain ⟨β,fp,hf,-⟩ := hr
              have hy := gvU_ok (hf.ok β (Agr.refl _ _)) hgd (by rw [hl d (guard_looks rfl hgd)]; exact hlk) hno
              simp [Region.wanted,hy])) (un_none _ rfl _) hng h
        | some q =>
          obtain ⟨d,b⟩ := q
          rw [hg] at h
          simp only [Xy,XG] at h
          obtain ⟨hd,h1,h2⟩ := h
          obtain ⟨hlk,hgd⟩ := gval_lk hg
          have hyield : ∀ F' : Fx V,F'.n = F.n → ∀ (ta : List (Nat × SV)) (ba : List Res) (a : Act) (w : World),Rel F' ⟨ta,ba⟩ a w → (∀ e ∈ (⟨dst,op,ty,pos,after,some (j,want)⟩ : Oper).looksAt ops,lk e ta = lk e σ.t) → yielded ops a.tmps j = some b := fun F' _ ta ba a w hr hl => by
            obtain ⟨β,fp,hf,-⟩ := hr
            exact (gvalD_ok (hf.ok β (Agr.refl _ _)) (gval_same hg (hl d (guard_looks rfl hgd)))).1
          by_cases hb : b = want
          · subst hb
            exact go ((d,.bool b) :: σ.t) (lk_relit hlk) (fun F' e ta ba a w hr hl => by simp [Region.wanted,hyield F' e ta ba a w hr hl]) hfit (h1 rfl)
          · have hb' : b = !want := by cases b <;> cases want <;> simp at hb ⊢
            have hv := h2 hb'
            rw [← hb'] at hv
            exact next ⟨.v undef,none,false,[],[]⟩ ((d,.bool b) :: σ.t) (fun e => lk_put_congr (lk_relit hlk e)) (fun F' e => opE_skip ho (hfit' F' e) (fun ta ba a w hr hl => by simp [Region.wanted,hyield F' e ta ba a w hr hl,hb])) (un_none _ rfl _) hng hv
end
end Vc
namespace Vc
open Go Go.RowKit Wf
section
variable {V : Cx} {F : Fx V}
theorem wp_then {P : Program} {o : Oper} {a : Act} {w : World} {N K : Act → World → Prop} {Q : Exit → Act → World → Prop} (hk : ∀ a w,N a w → K a w) (h : o.wp P a w (fun a w => Exit.then N Q .normal a w) (Exit.then N Q)) : o.wp P a w K Q := by
  refine Oper.wp_mono hk ?_
  unfold Oper.wp at *
  generalize (execOp a.eval o).run P w = r at *
  cases r with
  | ok n w' =>
    cases n <;> simp only [Oper.upon] at h ⊢ <;> exact h
  | halt x w' => cases x <;> simp only [Oper.upon] at h ⊢ <;> exact h
theorem lets_then {N : Act → World → Prop} {Q : Exit → Act → World → Prop} (h : LetsOut (Exit.then N Q)) : LetsOut Q := h
def aoV (P : Program) (ops : Array Oper) (L : List Nat) (t : OT) (Q : Exit → Act → World → Prop) (a : Act) (w : World) : Prop :=
  (OT.okT ops L t = true → wpAny P .any ops Q (ops.size - L.length) (arrL ops.size L) a w) ∧
  (OT.okT.okA ops L t = true → L.length < ops.size → ∀ i ∈ t.heads,wpOp P ops Q i (wpAny P .any ops Q (ops.size - (L.length + 1)) (arrL ops.size (i :: L))) a w)
def Qit (F : Fx V) (Qf : Exit → Act → World → Prop) : List Item → Exit → Act → World → Prop
  | [] => Qf
  | .code c :: k => Exit.then (c.wp V.P (Qit F Qf k)) (Qit F Qf k)
  | .ops ops l :: k => Exit.then (wpList V.P ops (Qit F Qf k) l) (Qit F Qf k)
  | .dops _ _ _ :: k => Exit.then (fun _ _ => True) (Qit F Qf k)
  | .aops ops L t :: k => Exit.then (fun a w => OT.okT ops L t = true ∨ OT.okT.okA ops L t = true → aoV V.P ops L t (Qit F Qf k) a w) (Qit F Qf k)
  | .cut J :: k => Exit.then (fun a w => ∃ σ,J σ ∧ Rel F σ a w) (Qit F Qf k)
  | .endb id :: k => Exit.inBlock id (Qit F Qf k)
  | .endl I μ m :: k => Exit.then (fun a w => ∃ σ,I σ ∧ μ σ < m ∧ Rel F σ a w) (Qit F Qf k)
theorem Qit_exit {Qf : Exit → Act → World → Prop} {id : Nat} {a : Act} {w : World} : ∀ {k k' : List Item},XE id k = some k' → Qit F Qf k' .normal a w → Qit F Qf k (.exit id) a w
  | [],k',h,_ => by simp [XE] at h
  | .code c :: k,k',h,hq => by simp only [XE] at h; exact Qit_exit (k := k) h hq
  | .ops ops l :: k,k',h,hq => by simp only [XE] at h; exact Qit_exit (k := k) h hq
  | .endl _ _ _ :: k,k',h,hq => by simp only [XE] at h; exact Qit_exit (k := k) h hq
  | .dops _ _ _ :: k,k',h,hq => by simp only [XE] at h; exact Qit_exit (k := k) h hq
  | .aops _ _ _ :: k,k',h,hq => by simp only [XE] at h; exact Qit_exit (k := k) h hq
  | .cut _ :: k,k',h,hq => by simp only [XE] at h; exact Qit_exit (k := k) h hq
  | .endb id' :: k,k',h,hq => by
    simp only [XE] at h
    show Exit.inBlock id' (Qit F Qf k) (.exit id) a w
    split at h
    · rename_i e
      cases h
      simp only [Exit.inBlock,if_pos e.symm]
      exact hq
    · rename_i e
      simp only [Exit.inBlock,if_neg (fun q => e (Eq.symm q))]
      exact Qit_exit (k := k) h hq
theorem Qit_ret {Qf : Exit → Act → World → Prop} {a : Act} {w : World} (hq : Qf .ret a w) : ∀ (k : List Item),Qit F Qf k .ret a w
  | [] => hq
  | .code c :: k => Qit_ret hq k
  | .ops ops l :: k => Qit_ret hq k
  | .endl _ _ _ :: k => Qit_ret hq k
  | .dops _ _ _ :: k => Qit_ret hq k
  | .aops _ _ _ :: k => Qit_ret hq k
  | .cut _ :: k => Qit_ret hq k
  | .endb id' :: k => Qit_ret hq k
theorem Qit_panic {Qf : Exit → Act → World → Prop} {c : List PanicEntry} {a : Act} {w : World} : ∀ (k : List Item),Qit F Qf k (.panic c) a w → Qf (.panic c) a w
  | [],h => h
  | .code _ :: k,h => Qit_panic k h
  | .ops _ _ :: k,h => Qit_panic k h
  | .dops _ _ _ :: k,h => Qit_panic k h
  | .aops _ _ _ :: k,h => Qit_panic k h
  | .cut _ :: k,h => Qit_panic k h
  | .endb _ :: k,h => Qit_panic k h
  | .endl _ _ _ :: k,h => Qit_panic k h
theorem holds_of_cont {E : Fin} {n f : Nat} {ops : Array Oper} {r : List Oper} {k : List Item} {s : StepR} (h : Yc V n E f ops r k s) : HoldsR V (fun σ => vcS V n E f (.ops ops r :: k) σ) s := by
  cases s <;> simp only [Yc] at h
  · exact h
  · unfold callV at h
    rcases h with h | ⟨R,h1,-,h2⟩
    · exact .inl h
    · exact .inr ⟨R,h1,h2⟩
theorem vcS_sound {E : Fin} {Qf : Exit → Act → World → Prop} (hn : ∀ σ a w,endV V E σ (XT V σ E.rs) → Rel F σ a w → Qf .normal a w) (hret : ∀ σ a w,endV V E σ (XT V σ E.rs) → Rel F σ a w → Qf .ret a w) (hpan : ∀ c a w,¬ Qf (.panic c) a w) :
    ∀ (f : Nat) (items : List Item) (σ : St),vcS V F.n E f items σ → ∀ a w,Rel F σ a w → Qit F Qf items .normal a w := by
  intro f
  induction f using Nat.strongRecOn with
  | _ f0 ihs =>
  cases f0 with
  | zero => intro items σ h; cases items <;> simp [vcS] at h
  | succ f =>
    have ih : ∀ (items : List Item) (σ : St),vcS V F.n E f items σ → ∀ a w,Rel F σ a w → Qit F Qf items .normal a w := ihs f (Nat.lt_succ_self _)
    have step : ∀ (ops : Array Oper) (o : Oper) (r : List Oper) (k : List Item) (σ : St) (a : Act) (w : World),fits F.n o.dst = true → Yc V F.n E f ops r k (XR V o.dst o.op σ) → Rel F σ a w →
        o.wp V.P a w (wpList V.P ops (Qit F Qf k) r) (Qit F Qf k) := fun ops o r k σ a w hfit h hr => by
      refine Oper.wp_mono (fun a w ⟨σ',h1,h2⟩ => ?_) (stepO_sound (F := F) hfit (holds_of_cont h) hr o.type o.pos o.after o.guard _)
      exact ih (.ops ops r :: k) σ' h1 a w h2
    intro items σ h a w hr
    match items with
    | [] => simp only [vcS] at h; exact hn σ a w h hr
    | .endb id :: k => simp only [vcS] at h; exact ih k σ h a w hr
    | .endl I μ m :: k => simp only [vcS] at h; exact ⟨σ,h.1,h.2,hr⟩
    | .dops ops l rs :: k => exact trivial
    | .cut J :: k => simp only [vcS] at h; exact ⟨σ,h,hr⟩
    | .aops ops L .leaf :: k =>
      simp only [vcS] at h
      refine fun _ => ⟨fun hok => ?_,fun hok => by simp [OT.okT.okA] at hok⟩
      simp only [OT.okT,List.isEmpty_iff] at hok
      have hq : Qit F Qf k .normal a w := ih k σ h a w hr
      cases hf : ops.size - L.length with
      | zero => exact ⟨hok,hq⟩
      | succ m => exact ⟨fun _ => hq,fun i hi => by rw [hok] at hi; cases hi⟩
    | .aops ops L (.one i t) :: k =>
      simp only [vcS] at h
      have hone : OT.okT ops (i :: L) t = true → i < ops.size → wpOp V.P ops (Qit F Qf k) i (wpAny V.P .any ops (Qit F Qf k) (ops.size - (L.length + 1)) (arrL ops.size (i :: L))) a w := fun hok hi => by
        have h1 : wpList V.P ops (Qit F Qf (.aops ops (i :: L) t :: k)) (nthL ops.toList i) a w := ih _ σ h a w hr
        have ho : ops[i]? = some ops[i] := Array.getElem?_eq_getElem hi
        have hn : nthL ops.toList i = [ops[i]] := by rw [nthL_eq]; simp [ho]
        rw [hn] at h1
        have hk : ∀ a w,Qit F Qf (.aops ops (i :: L) t :: k) .normal a w → wpAny V.P .any ops (Qit F Qf k) (ops.size - (L.length + 1)) (arrL ops.size (i :: L)) a w := fun a w hq => (hq (.inl hok)).1 hok
        unfold wpOp
        rw [ho]
        simp only [wpList] at h1 ⊢
        split
        · rename_i hw
          rw [if_pos hw] at h1
          rcases h1 with h1 | ⟨h1,h2⟩
          · refine .inl ?_
            exact wp_then hk h1
          · exact .inr ⟨h1,lets_then h2⟩
        · rename_i hw
          rw [if_neg hw] at h1
          exact hk _ _ h1
      refine fun _ => ⟨fun hok => ?_,fun hok hL j hj => ?_⟩
      · simp only [OT.okT,Bool.and_eq_true,decide_eq_true_eq,beq_iff_eq] at hok
        obtain ⟨⟨hL,hrd⟩,hok⟩ := hok
        obtain ⟨m,hm⟩ : ∃ m,ops.size - L.length = m + 1 := ⟨ops.size - L.length - 1,by omega⟩
        have hm' : ops.size - (L.length + 1) = m := by omega
        rw [hm' ] at hone
        rw [hm]
        refine ⟨fun h0 => by rw [h0] at hrd; simp at hrd,fun j hj => ?_⟩
        have hi : i < ops.size := by
          have h1 : i ∈ Region.ready .any ops (arrL ops.size L) := by rw [hrd]; exact List.mem_singleton.2 rfl
          obtain ⟨o,ho,_⟩ := (mem_ready.1 h1).2
          exact (Array.getElem?_eq_some_iff.1 ho).1
        rw [hrd,List.mem_singleton] at hj
        subst hj
        exact hone hok hi
      · simp only [OT.heads,List.mem_singleton] at hj
        subst hj
        simp only [OT.okT.okA] at hok
        by_cases hi : j < ops.size
        · exact hone hok hi
        · unfold wpOp
          rw [Array.getElem?_eq_none (by omega)]
          have h1 : wpList V.P ops (Qit F Qf (.aops ops (j :: L) t :: k)) (nthL ops.toList j) a w := ih _ σ h a w hr
          rw [nthL_eq,show ops.toList[j]? = none from by simp; omega] at h1
          exact (h1 (.inl hok)).1 hok
    | .aops ops L (.alt x y) :: k =>
      simp only [vcS] at h
      have hx : OT.okT.okA ops L x = true → _ := fun hok => (ih (.aops ops L x :: k) σ h.1 a w hr (.inr hok)).2 hok
      have hy : OT.okT.okA ops L y = true → _ := fun hok => (ih (.aops ops L y :: k) σ h.2 a w hr (.inr hok)).2 hok
      refine fun _ => ⟨fun hok => ?_,fun hok hL j hj => ?_⟩
      · simp only [OT.okT,Bool.and_eq_true,decide_eq_true_eq,Bool.not_eq_true',List.all_eq_true] at hok
        obtain ⟨⟨⟨⟨hL,hne⟩,hall⟩,h1⟩,h2⟩ := hok
        obtain ⟨m,hm⟩ : ∃ m,ops.size - L.length = m + 1 := ⟨ops.size - L.length - 1,by omega⟩
        have hm' : ops.size - (L.length + 1) = m := by omega
        rw [hm'] at hx hy
        rw [hm]
        refine ⟨fun h0 => by rw [h0] at hne; simp at hne,fun j hj => ?_⟩
        have hmem := List.contains_iff_mem.1 (hall j hj)
        have hset : (arrL ops.size L).setIfInBounds j true = arrL ops.size (j :: L) := rfl
        rw [hset]
        simp only [OT.heads,List.mem_append] at hmem
        rcases hmem with hm | hm
        · exact hx h1 hL j hm
        · exact hy h2 hL j hm
      · simp only [OT.okT.okA,Bool.and_eq_true] at hok
        simp only [OT.heads,List.mem_append] at hj
        rcases hj with hj | hj
        · exact hx hok.1 hL j hj
        · exact hy hok.2 hL j hj
    | .aops ops L (.pur i t) :: k =>
      simp only [vcS] at h
      refine fun _ => ⟨fun hok => ?_,fun hok => by simp [OT.okT.okA] at hok⟩
      simp only [OT.okT,Bool.and_eq_true,decide_eq_true_eq] at hok
      obtain ⟨⟨⟨⟨hL,hns⟩,hfr⟩,hrd⟩,hok⟩ := hok
      obtain ⟨m,hm⟩ : ∃ m,ops.size - L.length = m + 1 := ⟨ops.size - L.length - 1,by omega⟩
      have hi : i < ops.size := by
        obtain ⟨o,ho,_⟩ := (mem_ready.1 (List.contains_iff_mem.1 hrd)).2
        exact (Array.getElem?_eq_some_iff.1 ho).1
      have ho : ops[i]? = some ops[i] := Array.getElem?_eq_getElem hi
      have hn : nthL ops.toList i = [ops[i]] := by rw [nthL_eq]; simp [ho]
      rw [hn] at h
      generalize hoi : ops[i] = oi at h ho
      obtain ⟨dst,op,ty,pos,after,guard⟩ := oi
      cases guard with
      | some g => simp [pureV] at h
      | none =>
      simp only [pureV] at h
      obtain ⟨hfit,h⟩ := h
      cases hp : pv V.Γ σ.t op with
      | none => rw [hp] at h; simp [pureW] at h
      | some p =>
      obtain ⟨c,x⟩ := p
      rw [hp] at h
      simp only [pureW] at h
      obtain ⟨hc,h⟩ := h
      obtain ⟨β,fp,hf,hw⟩ := hr
      have hy : Yields V.P ops ⟨dst,op,ty,pos,after,none⟩ (conc β x) a := .inl ⟨by simp [Region.wanted],fun w => pv_ok (o := ⟨dst,op,ty,pos,after,none⟩) V.gok (hf.ok β (Agr.refl _ _)) hp hc w⟩
      rw [hm]
      refine wpAny_take ho hns hfr hrd (fun c a w hq => absurd (Qit_panic k hq) (hpan c _ w)) hy ?_
      have hrel : Rel F ⟨put dst x σ.t,σ.b⟩ (a.put dst (conc β x)) w := ⟨β,fp,hf.put hfit (fun β' hβ => ?_),hw⟩
      · have h1 := (ih (.aops ops (i :: L) t :: k) _ h _ w hrel (.inl hok)).1 hok
        have hm' : ops.size - (L.length + 1) = m := by omega
        rw [List.length_cons,hm'] at h1
        exact h1
      · have h1 := pv_ok (o := ⟨dst,op,ty,pos,after,none⟩) V.gok (hf.ok β (Agr.refl _ _)) hp hc w
        have h2 := pv_ok (o := ⟨dst,op,ty,pos,after,none⟩) V.gok (hf.ok β' hβ) hp hc w
        rw [h1] at h2
        injection h2 with h2
        injection h2
    | .ops ops [] :: k => simp only [vcS] at h; exact ih k σ h a w hr
    | .ops ops (⟨dst,op,ty,pos,after,none⟩ :: r) :: k =>
      simp only [vcS] at h
      show wpList V.P ops (Qit F Qf k) (⟨dst,op,ty,pos,after,none⟩ :: r) a w
      unfold wpList
      rw [if_pos (by simp [Region.wanted])]
      exact .inl (step ops ⟨dst,op,ty,pos,after,none⟩ r k σ a w h.1 h.2 hr)
    | .ops ops (⟨dst,op,ty,pos,after,some (j,want)⟩ :: r) :: k =>
      simp only [vcS] at h
      obtain ⟨hfit,h⟩ := h
      show wpList V.P ops (Qit F Qf k) (⟨dst,op,ty,pos,after,some (j,want)⟩ :: r) a w
      cases hg : Yk σ.t (gdst ops.toList j) with
      | none =>
        cases hu : gvU σ.t (gdst ops.toList j) with
        | false => rw [hg,hu] at h; simp [XA] at h
        | true =>
          rw [hg,hu] at h
          simp only [XA,XG] at h
          obtain ⟨d,x,hgd,hlk,hno⟩ := gvU_at hu
          obtain ⟨β,fp,hf,hw⟩ := hr
          have hy := gvU_ok (hf.ok β (Agr.refl _ _)) hgd hlk hno
          unfold wpList
          rw [if_neg (by simp [Region.wanted,hy])]
          exact ih (.ops ops r :: k) _ h _ w ⟨β,fp,hf.put hfit (fun _ _ => rfl),hw⟩
      | some p =>
        obtain ⟨d,b⟩ := p
        rw [hg] at h
        simp only [XA,XG] at h
        obtain ⟨hd,h1,h2⟩ := h
        obtain ⟨β,fp,hf,hw⟩ := hr
        obtain ⟨hy,hv⟩ := gvalD_ok (hf.ok β (Agr.refl _ _)) hg
        unfold wpList
        by_cases hb : b = want
        · subst hb
          rw [if_pos (by simp [Region.wanted,hy])]
          exact .inl (step ops ⟨dst,op,ty,pos,after,some (j,b)⟩ r k _ a w hfit (h1 rfl) ⟨β,fp,hf.relit (fun _ _ => hv),hw⟩)
        · have hb' : b = !want := by cases b <;> cases want <;> simp at hb ⊢
          rw [if_neg (by simp [Region.wanted,hy,hb])]
          exact ih (.ops ops r :: k) _ (h2 hb') _ w ⟨β,fp,(hf.relit (x := .bool (!want)) (fun _ _ => by rw [← hb']; exact hv)).put hfit (fun _ _ => rfl),hw⟩
    | .code c :: k =>
      show c.wp V.P (Qit F Qf k) a w
      cases c with
      | skip => simp only [vcS] at h; exact wp_skip (ih k σ h a w hr)
      | region id ops draw =>
        cases draw
        · simp only [vcS] at h
          exact wp_region_list (ih (.ops ops ops.toList :: k) σ h a w hr)
        · simp only [vcS] at h
          cases hw : E.how id with
          | all t =>
            rw [hw] at h
            simp only [regV] at h
            obtain ⟨-,hok,J,h1,h2⟩ := h
            refine wp_mono (Q := Qit F Qf (.cut J :: k)) (wp_region_any V.mixed ?_) (fun e a' w' hq => ?_)
            · have h3 := (ih (.aops ops [] t :: .cut J :: k) σ h1 a { w with drawn := w.drawn + 1 } (rel_drew hr) (.inl hok)).1 hok
              exact h3
            · cases e with
              | normal =>
                obtain ⟨σ',hj,hr'⟩ := hq
                exact ih k σ' (h2 σ' hj) a' w' hr'
              | _ => exact hq
          | ord p =>
          rw [hw] at h
          simp only [regV] at h
          obtain ⟨hpm,h⟩ := h
          refine wp_region_any V.mixed (wpAny_perm p hpm ?_)
          generalize permD ops p = ops at h ⊢
          cases f with
          | zero => simp [vcS] at h
          | succ f1 =>
          have hlex : LexE F ops σ.t σ.b [] (fun _ => σ.t) (fun _ => σ.b) σ := ⟨fun _ => rfl,rfl,fun i hi => by simp at hi,fun i hi => by simp at hi,fun i hi => by simp at hi,fun i hi => by simp at hi,rfl,rfl,fun i hi => by simp at hi⟩
          obtain ⟨f',recs,T,B,σ',hlt,hlen,hl,hok,hv⟩ := lexE_run (f1 + 1) ops.toList [] [] _ _ σ (by simp) rfl hlex h
          classical
          have hch : ∃ G : FlD,∀ k,isFl ops k = true → FlOK F ops (recs.getD k recE0) (T k) (B k) k (G.d k) (G.z k) (G.T k) (G.q k) ∧ G.L k = (B k).length := by
            have h1 : ∀ k,∃ p : Nat × List SV × TypeId × Option (Nat × Nat),isFl ops k = true → FlOK F ops (recs.getD k recE0) (T k) (B k) k p.1 p.2.1 p.2.2.1 p.2.2.2 := fun k => by
              by_cases hk : isFl ops k = true
              · have hlt : k < recs.length := by
                  unfold isFl at hk
                  split at hk
                  · rename_i e
                    rw [hlen]
                    exact (Array.getElem?_eq_some_iff.1 e).1
                  · rename_i e
                    rw [hlen]
                    exact (Array.getElem?_eq_some_iff.1 e).1
                  · cases hk
                obtain ⟨d,z,Ta,q,h⟩ := hl.fl k hlt hk
                exact ⟨(d,z,Ta,q),fun _ => h⟩
              · exact ⟨(0,[],0,none),fun h => absurd h hk⟩
            exact ⟨⟨fun k => (Classical.choose (h1 k)).1,fun k => (Classical.choose (h1 k)).2.1,fun k => (Classical.choose (h1 k)).2.2.1,fun k => (B k).length,fun k => (Classical.choose (h1 k)).2.2.2⟩,fun k hk => ⟨Classical.choose_spec (h1 k) hk,rfl⟩⟩
          obtain ⟨G,hG⟩ := hch
          refine draw_okG (recs := recs) G T B hl.t0 hl.b0 (fun i hi => hl.t i (by omega)) (fun i hi => hl.b i (by omega)) (fun i hi => hl.op i (by omega)) (fun i hi => hl.un i (by omega)) (fun k hk => by obtain ⟨⟨g1,g2,g3,g4⟩,g5⟩ := hG k hk; exact ⟨g1,g2,g5,g3,g4⟩) hlen hok hr (fun a' w' hrel => ?_)
          rw [← hlen,hl.te,hl.be] at hrel
          exact ihs f' (by omega) k σ' hv a' w' hrel
      | seq x y => simp only [vcS] at h; exact wp_seq (ih (.code x :: .code y :: k) σ h a w hr)
      | cond c x y =>
        simp only [vcS] at h
        cases hb : ev σ.t c with
        | none => rw [hb] at h; simp [XN] at h
        | some v =>
          rw [hb] at h
          cases v <;> simp only [XN,XQ] at h
          rename_i b
          obtain ⟨β,fp,hf,hw⟩ := hr
          exact wp_cond_split (t := b) ((hf.ev hb (Agr.refl _ β)).trans rfl) (fun e => ih (.code x :: k) σ (h.1 e) a w ⟨β,fp,hf,hw⟩) (fun e => ih (.code y :: k) σ (h.2 e) a w ⟨β,fp,hf,hw⟩)
      | block id x => simp only [vcS] at h; exact wp_block (ih (.code x :: .endb id :: k) σ h a w hr)
      | exit id =>
        simp only [vcS] at h
        cases hx : XE id k with
        | none => rw [hx] at h; simp [XO] at h
        | some k' =>
          rw [hx] at h
          simp only [XO] at h
          exact wp_exit (Qit_exit hx (ih k' σ h a w hr))
      | ret => simp only [vcS] at h; exact wp_ret (Qit_ret (hret σ a w h hr) k)
      | loop x =>
        simp only [vcS,loopV] at h
        obtain ⟨I,μ,h0,hround⟩ := h
        classical
        let S : Act → World → Nat → Prop := fun a w n => ∃ σ,μ σ = n ∧ I σ ∧ Rel F σ a w
        let m : Act → World → Nat := fun a w => if h : ∃ n,S a w n then Classical.choose (least h) else 0
        refine wp_loop (fun a w => ∃ n,S a w n) m ⟨μ σ,σ,rfl,h0,hr⟩ (fun a w hI => ?_)
        have hm : m a w = Classical.choose (least hI) := dif_pos hI
        obtain ⟨σ',hμ,hI',hr'⟩ := (Classical.choose_spec (least hI)).1
        refine wp_mono (ih (.code x :: .endl I μ (μ σ') :: k) σ' (hround σ' hI') a w hr') ?_
        intro e a2 w2 h2
        cases e with
        | normal =>
          obtain ⟨σ2,h3,h4,hr2⟩ := h2
          have hS : ∃ n,S a2 w2 n := ⟨μ σ2,σ2,rfl,h3,hr2⟩
          refine ⟨hS,?_⟩
          have hm2 : m a2 w2 = Classical.choose (least hS) := dif_pos hS
          have := (Classical.choose_spec (least hS)).2 _ ⟨σ2,rfl,h3,hr2⟩
          rw [hm,hm2]
          omega
        | _ => exact h2
      | _ => simp [vcS] at h
theorem sc_ofU (u : Bool) (how : Nat → How) {f : FuncId} {fn : Func} {c : Code} {args : List SV} {bs : List Res} {R : SV → List Res → Prop} {n : Nat} {rs : Array ResultVar} (fuel : Nat) (hf : V.P.funcs[f]? = some fn) (hb : fn.body = some c) (hn : fn.ntmps = n) (hr : fn.results = rs) (hent : Enters V f)
    (hlen : args.length ≤ n) (hsc : ∀ β β',Agr bs.length β β' → concL β args = concL β' args) (h : vcS V n ⟨rs.toList,R,how,u⟩ fuel [.code c] ⟨Yj 0 args,bs⟩) : SC V f args bs R := by
  refine sc_core hf hb hn hr hent hlen hsc (fun F hF a w hrel => ?_)
  subst hF
  refine vcS_sound (Qf := Qof F (kret V rs.toList R)) (fun σ a w h hr => ⟨σ,?_,hr⟩) (fun σ a w h hr => ⟨σ,?_,hr⟩) (fun c a w ⟨_,h,_⟩ => h) fuel [.code c] ⟨Yj 0 args,bs⟩ h a w hrel
  all_goals
    simp only at h
    cases hl : XT V σ rs.toList with
    | none => rw [hl] at h; simp [endV] at h
    | some l => rw [hl] at h; simp only [kret,hl]; exact h
theorem sc_ofP (how : Nat → How) {f : FuncId} {fn : Func} {c : Code} {args : List SV} {bs : List Res} {R : SV → List Res → Prop} {n : Nat} {rs : Array ResultVar} (fuel : Nat) (hf : V.P.funcs[f]? = some fn) (hb : fn.body = some c) (hn : fn.ntmps = n) (hr : fn.results = rs) (hent : Enters V f)
    (hlen : args.length ≤ n) (hsc : ∀ β β',Agr bs.length β β' → concL β args = concL β' args) (h : vcS V n ⟨rs.toList,R,how,false⟩ fuel [.code c] ⟨Yj 0 args,bs⟩) : SC V f args bs R :=
  sc_ofU false how fuel hf hb hn hr hent hlen hsc h
theorem sc_of {f : FuncId} {fn : Func} {c : Code} {args : List SV} {bs : List Res} {R : SV → List Res → Prop} {n : Nat} {rs : Array ResultVar} (fuel : Nat) (hf : V.P.funcs[f]? = some fn) (hb : fn.body = some c) (hn : fn.ntmps = n) (hr : fn.results = rs) (hent : Enters V f)
    (hlen : args.length ≤ n) (hsc : ∀ β β',Agr bs.length β β' → concL β args = concL β' args) (h : vcS V n ⟨rs.toList,R,fun _ => .ord [],false⟩ fuel [.code c] ⟨Yj 0 args,bs⟩) : SC V f args bs R :=
  sc_ofP (fun _ => .ord []) fuel hf hb hn hr hent hlen hsc h
theorem pc_of {f : FuncId} {fn : Func} {c : Code} {args : List SV} {r : SV} {n : Nat} {rs : Array ResultVar} (fuel : Nat) (hf : V.P.funcs[f]? = some fn) (hb : fn.body = some c) (hn : fn.ntmps = n) (hr : fn.results = rs) (hent : Enters V f)
    (hlen : args.length ≤ n) (fa : flat.flatL args = true) (fr : flat r = true) (h : vcS V n ⟨rs.toList,fun r' _ => r' = r,fun _ => .ord [],false⟩ fuel [.code c] ⟨Yj 0 args,[]⟩) : PC V f args r :=
  pc_of_sc fa fr (sc_of fuel hf hb hn hr hent hlen (fun β β' _ => concL_flat args fa β β') h)
theorem callV_pc {E : Fin} {n f : Nat} {ops : Array Oper} {r : List Oper} {k : List Item} {g : FuncId} {args : List SV} {dst : Option Tmp} {σ : St} {x : SV} (h : PC V g args x) (h2 : vcS V n E f (.ops ops r :: k) ⟨put dst x σ.t,σ.b⟩) : callV V n E f ops r k g args dst σ := by
  unfold callV; exact .inl ⟨x,h,h2⟩
theorem callV_sc {E : Fin} {n f : Nat} {ops : Array Oper} {r : List Oper} {k : List Item} {g : FuncId} {args : List SV} {dst : Option Tmp} {σ : St} {R : SV → List Res → Prop} (h : SC V g args σ.b R) (h2 : ∀ x bs,R x bs → vcS V n E f (.ops ops r :: k) ⟨put dst x σ.t,bs⟩) (hu : E.uni = false := by rfl) : callV V n E f ops r k g args dst σ := by
  unfold callV; exact .inr ⟨R,h,fun hn => (by rw [hu] at hn; cases hn),h2⟩
theorem callD_pc {E : Fin} {n f : Nat} {ops : Array Oper} {r : List Oper} {rs : List Rk} {k : List Item} {g : FuncId} {args : List SV} {dst : Option Tmp} {σ : St} {x : SV} (h : PC V g args x) (h2 : vcS V n E f (.dops ops r (rs ++ [⟨false,false,[],[]⟩]) :: k) ⟨put dst x σ.t,σ.b⟩) : callD V n E f ops r rs k dst σ g args := by
  unfold callD; exact .inl ⟨x,h,h2⟩
theorem callD_scw {E : Fin} {n f : Nat} {ops : Array Oper} {r : List Oper} {rs : List Rk} {k : List Item} {g : FuncId} {args : List SV} {dst : Option Tmp} {σ : St} {x : SV} {b : List Res} (W : List (Nat × Nat × Nat)) (h : SC V g args σ.b (fun r' b' => r' = x ∧ b' = b)) (ho : Outs W b σ.b)
    (h2 : vcS V n E f (.dops ops r (rs ++ [⟨true,false,[],W⟩]) :: k) ⟨put dst x σ.t,b⟩) : callD V n E f ops r rs k dst σ g args := by
  unfold callD; exact .inr (.inr ⟨x,b,W,h,ho,h2⟩)
theorem regV_mk {E : Fin} {n f : Nat} {ops : Array Oper} {k : List Item} {σ : St} {t : OT} (J : St → Prop) (hok : OT.okT ops [] t = true) (h : vcS V n E f (.aops ops [] t :: .cut J :: k) σ) (h2 : ∀ σ',J σ' → vcS V n E f k σ') (hu : E.uni = false := by rfl) : regV V n E f ops k σ (.all t) := by
  simp only [regV]
  exact ⟨hu,hok,J,h,h2⟩
theorem loopV_mk {E : Fin} {n f : Nat} {x : Code} {k : List Item} {σ : St} (I : St → Prop) (μ : St → Nat) (h0 : I σ) (h : ∀ σ',I σ' → vcS V n E f (.code x :: .endl I μ (μ σ') :: k) σ') : loopV V n E f x k σ := by
  unfold loopV; exact ⟨I,μ,h0,h⟩
def renT (f : Nat → Nat) (l : List (Nat × Nat × Nat)) : List (Nat × Nat × Nat) := l.map fun x => (f x.1,x.2.1,x.2.2)
def renRk (f : Nat → Nat) (r : Rk) : Rk := ⟨r.s,r.all,renT f r.rd,renT f r.wr⟩
theorem anyOvl_ren (f : Nat → Nat) (xs ys : List (Nat × Nat × Nat)) (h : anyOvl xs ys = true) : anyOvl (renT f xs) (renT f ys) = true := by
  unfold anyOvl at h ⊢
  obtain ⟨a,ha,h⟩ := List.any_eq_true.1 h
  obtain ⟨b,hb,h⟩ := List.any_eq_true.1 h
  refine List.any_eq_true.2 ⟨_,List.mem_map_of_mem ha,List.any_eq_true.2 ⟨_,List.mem_map_of_mem hb,?_⟩⟩
  unfold ovl at h ⊢
  simp only [Bool.and_eq_true,beq_iff_eq] at h ⊢
  exact ⟨by rw [h.1],h.2⟩
theorem OkD_ren (f : Nat → Nat) {ops : Array Oper} {rs : List Rk} (h : OkD ops (rs.map (renRk f))) : OkD ops rs := by
  simp only [OkD,Bool.and_eq_true] at h ⊢
  refine ⟨?_,h.2⟩
  have h1 := h.1
  unfold compatB at h1 ⊢
  refine List.all_eq_true.2 (fun i hi => List.all_eq_true.2 (fun k hk => ?_))
  have h2 := List.all_eq_true.1 (List.all_eq_true.1 h1 i hi) k hk
  simp only [Bool.or_eq_true] at h2 ⊢
  refine h2.imp_right (fun h2 => ?_)
  have hg : ∀ j,((rs.map (renRk f))[j]?).getD rk0 = renRk f ((rs[j]?).getD rk0) := fun j => by
    rw [List.getElem?_map]
    cases rs[j]? <;> rfl
  have hp : preS ops (rs.map (renRk f)) i k = preS ops rs i k := by unfold preS; simp only [hg]; rfl
  unfold pairB at h2 ⊢
  simp only [hg,hp] at h2
  generalize (rs[i]?).getD rk0 = ri at h2 ⊢
  generalize (rs[k]?).getD rk0 = rk at h2 ⊢
  have hs : ∀ r,(renRk f r).s = r.s := fun _ => rfl
  have ha : ∀ r,(renRk f r).all = r.all := fun _ => rfl
  have he : (renRk f ri).rd.isEmpty = ri.rd.isEmpty := by
    show (ri.rd.map _).isEmpty = _
    cases ri.rd <;> rfl
  rw [hs,hs,ha,he] at h2
  split
  · rename_i hc
    rw [if_pos hc] at h2
    exact h2
  · rename_i hc
    rw [if_neg hc] at h2
    split
    · rename_i hc1
      rw [if_pos hc1] at h2
      exact h2
    · rename_i hc1
      rw [if_neg hc1] at h2
      split
      · rename_i hc2
        rw [if_pos hc2] at h2
        simp only [Bool.or_eq_true,Bool.not_eq_true',Bool.or_eq_false_iff] at h2 ⊢
        refine h2.imp_right (fun h2 => ⟨h2.1,?_⟩)
        cases ho : anyOvl ri.rd rk.wr with
        | false => rfl
        | true =>
          have := anyOvl_ren f _ _ ho
          rw [show anyOvl (renT f ri.rd) (renT f rk.wr) = false from h2.2] at this
          cases this
      · rfl
end
def maskOf (ms : List Nat) : List (Nat × Bool) → Nat
  | [] => 0
  | (e,true) :: r => maskOf ms r ||| (1 <<< e) ||| ms.getD e 0
  | (_,false) :: r => maskOf ms r
def forceN {β : Type} (m : Nat) (f : Nat → β) : β := match m with
  | 0 => f 0
  | k + 1 => f (k + 1)
theorem forceN_eq {β : Type} (m : Nat) (f : Nat → β) : forceN m f = f m := by cases m <;> rfl
def edges (o : Oper) : List (Nat × Bool) := o.after.toList.map fun e => (e.on,Region.binds .any e)
def depGo : List Oper → List Nat → List Nat
  | [],ms => ms
  | o :: r,ms => forceN (maskOf ms (edges o)) fun m => depGo r (ms ++ [m])
def hasDep (D : List Nat) (i k : Nat) : Bool := (D.getD i 0).testBit k
def tieF (D : List Nat) (i k : Nat) : Bool := if k < i then hasDep D i k else hasDep D k i
def preF (ops : Array Oper) (rs : List Rk) (D : List Nat) (i k : Nat) : Bool := !(isFl ops k && decide (k < i)) || (List.range k).all fun j => !(((rs[j]?).getD rk0).s) || hasDep D i j
def pairF (ops : Array Oper) (rs : List Rk) (D : List Nat) (i k : Nat) : Bool :=
  if slotC ops i k then tieF D i k && preF ops rs D i k
  else if ((rs[i]?).getD rk0).s && ((rs[k]?).getD rk0).s then isFl ops (max i k) || tieF D i k
  else if ((rs[k]?).getD rk0).s && !((rs[i]?).getD rk0).rd.isEmpty then (tieF D i k && preF ops rs D i k) || !(((rs[k]?).getD rk0).all || anyOvl ((rs[i]?).getD rk0).rd ((rs[k]?).getD rk0).wr)
  else true
def okF (ops : Array Oper) (rs : List Rk) : Bool :=
  ((List.range ops.size).all fun i => (List.range ops.size).all fun k => k == i || pairF ops rs (depGo ops.toList []) i k) && aheadB ops
theorem dep_more {ops : Array Oper} : ∀ (f g i k : Nat),f ≤ g → depB ops f i k = true → depB ops g i k = true
  | 0,_,_,_,_,h => by simp [depB] at h
  | f + 1,0,_,_,h,_ => by omega
  | f + 1,g + 1,i,k,hfg,h => by
    rw [depB] at h ⊢
    split at h
    · rename_i o ho
      rw [← Array.any_toList,List.any_eq_true] at h ⊢
      obtain ⟨e,he,h⟩ := h
      refine ⟨e,he,?_⟩
      simp only [Bool.and_eq_true,Bool.or_eq_true] at h ⊢
      refine ⟨h.1,h.2.imp id (dep_more f g e.on k (by omega))⟩
    · cases h
theorem maskOf_bit (ms : List Nat) (k : Nat) : ∀ l : List (Nat × Bool),(maskOf ms l).testBit k = true → ∃ e,(e,true) ∈ l ∧ (e = k ∨ (ms.getD e 0).testBit k = true)
  | [],h => by simp [maskOf] at h
  | (e,true) :: r,h => by
    rw [maskOf,Nat.testBit_or,Nat.testBit_or,Bool.or_eq_true,Bool.or_eq_true] at h
    rcases h with (h | h) | h
    · obtain ⟨e',h1,h2⟩ := maskOf_bit ms k r h
      exact ⟨e',List.mem_cons_of_mem _ h1,h2⟩
    · refine ⟨e,List.mem_cons_self,.inl ?_⟩
      rw [Nat.one_shiftLeft,Nat.testBit_two_pow] at h
      simpa using h
    · exact ⟨e,List.mem_cons_self,.inr h⟩
  | (_,false) :: r,h => by
    rw [maskOf] at h
    obtain ⟨e',h1,h2⟩ := maskOf_bit ms k r h
    exact ⟨e',List.mem_cons_of_mem _ h1,h2⟩
theorem depGo_ok {ops : Array Oper} : ∀ (r : List Oper) (ms : List Nat),ops.toList.drop ms.length = r → (∀ i k,(ms.getD i 0).testBit k = true → i < ms.length ∧ depB ops (i + 1) i k = true) →
    ∀ i k,((depGo r ms).getD i 0).testBit k = true → depB ops (i + 1) i k = true
  | [],ms,_,h,i,k,hb => (h i k hb).2
  | o :: r,ms,hd,h,i,k,hb => by
    rw [depGo,forceN_eq] at hb
    have hlt : ms.length < ops.toList.length := by
      apply Nat.lt_of_not_le
      intro hle
      rw [List.drop_eq_nil_of_le hle] at hd
      cases hd
    have ho : ops[ms.length]? = some o := by
      rw [← Array.getElem?_toList,List.getElem?_eq_getElem hlt]
      rw [List.drop_eq_getElem_cons hlt] at hd
      rw [(List.cons.inj hd).1]
    refine depGo_ok r (ms ++ [maskOf ms (edges o)]) ?_ ?_ i k hb
    · rw [List.length_append,List.length_singleton]
      rw [List.drop_eq_getElem_cons hlt] at hd
      exact (List.cons.inj hd).2
    · intro i k hb
      rw [List.getD_eq_getElem?_getD] at hb
      rcases Nat.lt_trichotomy i ms.length with hi | hi | hi
      · rw [List.getElem?_append_left hi,← List.getD_eq_getElem?_getD] at hb
        exact ⟨by simp; omega,(h i k hb).2⟩
      · subst hi
        rw [List.getElem?_append_right (Nat.le_refl _),Nat.sub_self] at hb
        simp only [List.getElem?_cons_zero,Option.getD_some] at hb
        refine ⟨by simp,?_⟩
        obtain ⟨e,h1,h2⟩ := maskOf_bit ms k _ hb
        obtain ⟨d,hd1,hd2⟩ := List.mem_map.1 h1
        rw [depB,ho]
        simp only
        rw [← Array.any_toList]
        refine List.any_eq_true.2 ⟨d,hd1,?_⟩
        simp only [Prod.mk.injEq] at hd2
        rw [hd2.2,hd2.1,Bool.true_and,Bool.or_eq_true]
        rcases h2 with rfl | h2
        · left; simp
        · right
          have := h e k h2
          exact dep_more (e + 1) _ e k (by omega) this.2
      · rw [List.getElem?_eq_none (by simp; omega)] at hb
        simp at hb
theorem OkD_fast {ops : Array Oper} {rs : List Rk} (h : okF ops rs = true) : OkD ops rs := by
  unfold okF at h
  rw [Bool.and_eq_true] at h
  obtain ⟨h,ha⟩ := h
  unfold OkD compatB
  rw [Bool.and_eq_true]
  refine ⟨List.all_eq_true.2 fun i hi => List.all_eq_true.2 fun k hk => ?_,ha⟩
  have h1 := List.all_eq_true.1 (List.all_eq_true.1 h i hi) k hk
  rw [Bool.or_eq_true] at h1 ⊢
  refine h1.imp id fun h1 => ?_
  have hdep : ∀ i k,i ∈ List.range ops.size → hasDep (depGo ops.toList []) i k = true → depB ops ops.size i k = true := fun i k hi hb =>
    dep_more (i + 1) _ i k (by have := List.mem_range.1 hi; omega) (depGo_ok ops.toList [] (by simp) (fun i k hb => by simp at hb) i k hb)
  have htie : tieF (depGo ops.toList []) i k = true → tieB ops i k = true := fun h => by
    unfold tieF at h
    unfold tieB
    split
    · rename_i hki; rw [if_pos hki] at h; exact hdep i k hi h
    · rename_i hki; rw [if_neg hki] at h; exact hdep k i hk h
  have hpre : preF ops rs (depGo ops.toList []) i k = true → preS ops rs i k = true := fun h => by
    unfold preF at h
    unfold preS
    rw [Bool.or_eq_true] at h ⊢
    refine h.imp id (fun h => List.all_eq_true.2 fun j hj => ?_)
    have := List.all_eq_true.1 h j hj
    rw [Bool.or_eq_true] at this ⊢
    exact this.imp id (fun h => hdep i j hi h)
  unfold pairF at h1
  unfold pairB
  split
  · rename_i hc
    rw [if_pos hc,Bool.and_eq_true] at h1
    rw [Bool.and_eq_true]
    exact ⟨htie h1.1,hpre h1.2⟩
  · rename_i hc
    rw [if_neg hc] at h1
    split
    · rename_i hc1
      rw [if_pos hc1,Bool.or_eq_true] at h1
      rw [Bool.or_eq_true]
      exact h1.imp id htie
    · rename_i hc1
      rw [if_neg hc1] at h1
      split
      · rename_i hc2
        rw [if_pos hc2] at h1
        rw [Bool.or_eq_true] at h1 ⊢
        refine h1.imp (fun h1 => ?_) id
        rw [Bool.and_eq_true] at h1 ⊢
        exact ⟨htie h1.1,hpre h1.2⟩
      · rfl
def lawV := And.intro (And.intro (And.intro (And.intro (And.intro (@nob_undef) (And.intro (@Option.getD_some.{0}) (@Option.getD_none.{0}))) (And.intro (@List.getElem?_cons_zero.{0}) (And.intro (@List.getElem?_cons_succ.{0}) (@List.length_cons.{0})))) (And.intro (And.intro (@List.length_nil.{0}) (And.intro (@List.cons_append.{0}) (@List.nil_append.{0}))) (And.intro (@List.append_nil.{0}) (And.intro (@List.map_cons.{0,0}) (@List.map_nil.{0,0}))))) (And.intro (And.intro (And.intro (@List.take_succ_cons.{0}) (And.intro (@List.take_zero.{0}) (@List.drop_succ_cons.{0}))) (And.intro (@List.drop_zero.{0}) (And.intro (@List.set_cons_zero.{0}) (@List.set_cons_succ.{0})))) (And.intro (And.intro (@List.all_cons.{0}) (And.intro (@List.all_nil.{0}) (@List.mapIdx_cons.{0,0}))) (And.intro (And.intro (@List.mapIdx_nil.{0,0}) (@List.getD_cons_zero.{0})) (And.intro (@List.getD_cons_succ.{0}) (@Option.map_some.{0,0})))))) (And.intro (And.intro (And.intro (And.intro (@Option.map_none.{0,0}) (And.intro (@Option.some.injEq.{0}) (@Nat.zero_add))) (And.intro (@Nat.add_zero) (And.intro (@decide_true) (@decide_false)))) (And.intro (And.intro (@Bool.and_true) (And.intro (@Bool.true_and) (@Bool.and_false))) (And.intro (And.intro (@Bool.false_and) (@true_and)) (And.intro (@and_true) (@false_and))))) (And.intro (And.intro (And.intro (@and_false) (And.intro (@if_true.{1}) (@if_false.{1}))) (And.intro (@List.toList_toArray.{0}) (And.intro (@Bool.not_true) (@Bool.not_false)))) (And.intro (And.intro (@Bool.false_eq_true) (And.intro (@false_implies) (@Int.toNat_natCast))) (And.intro (And.intro (@Wf.toNat_succ) (@Wf.toNat_add2)) (And.intro (@Wf.toNat_add3) (@List.take_length.{0}))))))
def lawG := And.intro (And.intro (And.intro (@Yd.eq_11) (@Yd.eq_10)) (And.intro (@sRange.eq_1) (And.intro (@sNext.eq_1) (@iterR_it)))) (And.intro (And.intro (@nextV.eq_1) (@nextV.eq_2)) (And.intro (@itOf.eq_1) (And.intro (And.intro (And.intro (And.intro (@vcS.eq_21) (@vcS.eq_22)) (And.intro (@vcS.eq_23) (@vcS.eq_24))) (And.intro (And.intro (@vcS.eq_25) (@regV.eq_1)) (And.intro (@pureV.eq_1) (@pureW.eq_1)))) (And.intro (And.intro (And.intro (And.intro (@permD.eq_1) (And.intro (@permD.eq_2) (@permB.eq_1))) (And.intro (@permL.eq_1) (And.intro (@permL.eq_2) (@nthL.eq_1)))) (And.intro (And.intro (@nthL.eq_2) (And.intro (@nthL.eq_3) (@permO.eq_1))) (And.intro (And.intro (@permG.eq_1) (@permG.eq_2)) (And.intro (@invL.eq_1) (@invL.eq_2))))) (And.intro (And.intro (And.intro (And.intro (And.intro (And.intro (And.intro (And.intro (@vcS.eq_1) (@vcS.eq_2)) (And.intro (@vcS.eq_3) (@vcS.eq_4))) (And.intro (And.intro (@vcS.eq_5) (@vcS.eq_6)) (And.intro (@vcS.eq_7) (And.intro (@vcS.eq_8) (@vcS.eq_9))))) (And.intro (And.intro (And.intro (@vcS.eq_10) (@vcS.eq_11)) (And.intro (@vcS.eq_12) (@vcS.eq_13))) (And.intro (And.intro (@vcS.eq_14) (@vcS.eq_15)) (And.intro (@vcS.eq_16) (And.intro (@vcS.eq_17) (@vcS.eq_18)))))) (And.intro (And.intro (And.intro (And.intro (@vcS.eq_19) (@vcS.eq_20)) (And.intro (@XQ.eq_1) (@XG.eq_1))) (And.intro (And.intro (@gvU.eq_1) (@gvU.eq_2)) (And.intro (@setR.eq_1) (And.intro (@setR.eq_2) (@setR.eq_3))))) (And.intro (And.intro (And.intro (@orN.eq_1) (@orN.eq_2)) (And.intro (@Yl.eq_1) (And.intro (@Yl.eq_2) (@Yl.eq_3)))) (And.intro (And.intro (@Yl.eq_4) (@Yl.eq_5)) (And.intro (@Yl.eq_6) (And.intro (@Yl.eq_7) (@Yl.eq_8))))))) (And.intro (And.intro (And.intro (And.intro (And.intro (And.intro @Yl.eq_9 (And.intro @Yl.eq_10 (And.intro @nCap.eq_1 (And.intro @capS.eq_1 @capS.eq_2)))) (@Xm.eq_1)) (And.intro (@Xm.eq_2) (@Xm.eq_3))) (And.intro (And.intro (@Yn.eq_1) (@Yi.eq_1)) (And.intro (@Yi.eq_2) (And.intro (@Xa.eq_1) (@Ym.eq_1))))) (And.intro (And.intro (And.intro (@Ym.eq_2) (@Xc.eq_1)) (And.intro (@Xc.sizeIs.eq_1) (And.intro (@Xc.sizeIs.eq_2) (@reS.eq_1)))) (And.intro (And.intro (@reS.eq_2) (@Xj.eq_1)) (And.intro (@Yb.eq_1) (And.intro (@mmS.eq_1) (@mmS.eq_2)))))) (And.intro (And.intro (And.intro (And.intro (@Xq.eq_1) (@Xq.eq_2)) (And.intro (@dstS.eq_1) (@dstS.eq_2))) (And.intro (And.intro (And.intro @dstS.eq_3 (And.intro @capB.eq_1 @capB.eq_2)) (@srcS.eq_1)) (And.intro (@srcS.eq_2) (And.intro (@srcS.eq_3) (@srcS.eq_4))))) (And.intro (And.intro (And.intro (@XP.eq_1) (@XP.eq_2)) (And.intro (@XP.eq_3) (And.intro (@XN.eq_1) (@XN.eq_2)))) (And.intro (And.intro (@XO.eq_1) (@XO.eq_2)) (And.intro (@Yc.eq_1) (And.intro (@Yc.eq_2) (@Yc.eq_3)))))))) (And.intro (And.intro (And.intro (And.intro (And.intro (And.intro (@XA.eq_1) (@XA.eq_2)) (And.intro (@XA.eq_3) (@Yg.eq_1))) (And.intro (And.intro (@Yg.eq_2) (@Yg.eq_3)) (And.intro (@Yg.eq_4) (And.intro (@Xy.eq_1) (@Xy.eq_2))))) (And.intro (And.intro (And.intro (@Xy.eq_3) (@XE.eq_1)) (And.intro (@XE.eq_2) (And.intro (@XE.eq_3) (@endV.eq_1)))) (And.intro (And.intro (@endV.eq_2) (@gdst.eq_1)) (And.intro (@gdst.eq_2) (And.intro (@gdst.eq_3) (@Yk.eq_1)))))) (And.intro (And.intro (And.intro (And.intro (@Yk.eq_2) (@XR.eq_1)) (And.intro (@Yd.eq_1) (@Yd.eq_2))) (And.intro (And.intro (@Yd.eq_3) (@Yd.eq_4)) (And.intro (@Yd.eq_5) (And.intro (@Yd.eq_6) (@Yd.eq_7))))) (And.intro (And.intro (And.intro (And.intro (@Yd.eq_8) (And.intro (@Yd.eq_9) (And.intro (@sInvoke.eq_1) (And.intro (@oIface.eq_1) (And.intro (@oAssert.eq_1) (And.intro (@plainK.eq_1) (@plainK.eq_2))))))) (@goR.eq_1)) (And.intro (@goR.eq_2) (And.intro (@XC.eq_1) (@sBox.eq_1)))) (And.intro (And.intro (@XU.eq_1) (@XH.eq_1)) (And.intro (@Xr.eq_1) (And.intro (@sNil.eq_1) (@XL.eq_1))))))) (And.intro (And.intro (And.intro (And.intro (And.intro (@Xt.eq_1) (@Xt.eq_2)) (And.intro (@XV.eq_1) (@Xv.eq_1))) (And.intro (And.intro (@Xv.eq_2) (@Xv.eq_3)) (And.intro (@Xv.eq_4) (And.intro (@Xv.eq_5) (@Xv.eq_6))))) (And.intro (And.intro (And.intro (@Xv.eq_7) (@Xv.eq_8)) (And.intro (@goD.eq_1) (And.intro (@goD.eq_2) (@valD.eq_1)))) (And.intro (And.intro (@XI.eq_1) (@XF.eq_1)) (And.intro (@XB.eq_1) (And.intro (@dNil.eq_1) (@XK.eq_1)))))) (And.intro (And.intro (And.intro (And.intro (@XD.eq_1) (@dBox.eq_1)) (And.intro (@dN.eq_1) (@dN.eq_2))) (And.intro (And.intro (@Xz.eq_1) (@Xz.eq_2)) (And.intro (@Xz.eq_3) (And.intro (@Xz.eq_4) (@Xz.eq_5))))) (And.intro (And.intro (And.intro (And.intro (@Xz.eq_6) (@Xz.eq_7)) (@opL.eq_1)) (And.intro (@opL.eq_2) (And.intro (@opL.eq_3) (@opL.eq_4)))) (And.intro (And.intro (@opL.eq_5) (@opL.eq_6)) (And.intro (@opL.eq_7) (And.intro (@idxs.eq_1) (@idxs.eq_2))))))))) (And.intro (And.intro (And.intro (And.intro (And.intro (And.intro (And.intro (And.intro (@idxs.eq_3) (@idxs.eq_4)) (@pv.eq_1)) (And.intro (@pv.eq_2) (@pv.eq_3))) (And.intro (And.intro (@pv.eq_4) (@pv.eq_5)) (And.intro (@pv.eq_6) (And.intro (@pv.eq_7) (@pv.eq_8))))) (And.intro (And.intro (And.intro (@pv.eq_9) (@pv.eq_10)) (And.intro (@pv.eq_11) (And.intro (@pv.eq_12) (@pv.eq_13)))) (And.intro (And.intro (@pv.eq_14) (@pv.eq_15)) (And.intro (And.intro (@pv.eq_16) (And.intro (@pv.eq_17) (@pv.eq_18))) (And.intro (@XX.eq_1) (@Ya.eq_1)))))) (And.intro (And.intro (And.intro (And.intro (@XJ.eq_1) (@XJ.eq_2)) (And.intro (@XJ.eq_3) (@XJ.eq_4))) (And.intro (And.intro (@Xb.eq_1) (@Xu.eq_1)) (And.intro (@oBin.eq_1) (And.intro (@oUn.eq_1) (And.intro (@oUn.eq_2) (@oUn.eq_3)))))) (And.intro (And.intro (And.intro (@Ye.eq_1) (@XW.eq_1)) (And.intro (@XW.eq_2) (And.intro (@XW.eq_3) (@Xw.eq_1)))) (And.intro (And.intro (@Xx.eq_1) (@Xh.eq_1)) (And.intro (@Xk.eq_1) (And.intro (@XY.eq_1) (@XY.eq_2))))))) (And.intro (And.intro (And.intro (And.intro (And.intro (@XS.eq_1) (@oLen.eq_1)) (And.intro (@oLen.eq_2) (@oLen.eq_3))) (And.intro (And.intro (@lenS.eq_1) (@lenS.eq_2)) (And.intro (@lenS.eq_3) (And.intro (@lenS.eq_4) (@Yh.eq_1))))) (And.intro (And.intro (And.intro (@Yh.eq_2) (@Yh.eq_3)) (And.intro (@Yh.eq_4) (And.intro (@ev.eq_1) (@ev.eq_2)))) (And.intro (And.intro (@ev.eq_3) (@ev.eq_4)) (And.intro (@lk.eq_1) (And.intro (@lk.eq_2) (@put.eq_1)))))) (And.intro (And.intro (And.intro (And.intro (@put.eq_2) (@fits.eq_1)) (And.intro (@fits.eq_2) (@kd.eq_1))) (And.intro (And.intro (@sz.eq_1) (@bin.eq_1)) (And.intro (@bin.eq_2) (And.intro (@bin.eq_3) (@binI.eq_1))))) (And.intro (And.intro (And.intro (@binI.eq_2) (@binI.eq_3)) (And.intro (@binI.eq_4) (And.intro (@binI.eq_5) (@binI.eq_6)))) (And.intro (And.intro (@binI.eq_7) (@binI.eq_8)) (And.intro (@binI.eq_9) (And.intro (@binI.eq_10) (@binI.eq_11)))))))) (And.intro (And.intro (And.intro (And.intro (And.intro (And.intro (@binI.eq_12) (@binI.eq_13)) (And.intro (@binI.eq_14) (@binI.eq_15))) (And.intro (And.intro (@binI.eq_16) (@binI.eq_17)) (And.intro (@binS.eq_1) (And.intro (@binS.eq_2) (@binS.eq_3))))) (And.intro (And.intro (And.intro (@binS.eq_4) (@binS.eq_5)) (And.intro (@binS.eq_6) (And.intro (@binS.eq_7) (@binS.eq_8)))) (And.intro (And.intro (@ifK.eq_1) (@ar.eq_1)) (And.intro (@ar.eq_2) (And.intro (@eqB.eq_1) (@eqB.eq_2)))))) (And.intro (And.intro (And.intro (And.intro (@eqB.eq_3) (@eqB.eq_4)) (And.intro (@eqB.eq_5) (@eqB.eq_6))) (And.intro (And.intro (@eqB.eq_7) (@eqB.eq_8)) (And.intro (@eqS.eq_1) (And.intro (@eqS.eq_2) (@eqK.eq_1))))) (And.intro (And.intro (And.intro (@eqK.eq_2) (@eqK.eq_3)) (And.intro (@eqK.eq_4) (And.intro (@eqK.eq_5) (@eqK.eqF.eq_1)))) (And.intro (And.intro (@eqK.eqF.eq_2) (@negB.eq_1)) (And.intro (@negB.eq_2) (And.intro (@negB.eq_3) (@bnds.eq_1))))))) (And.intro (And.intro (And.intro (And.intro (And.intro (@bnds.eq_2) (@bnds.eq_3)) (And.intro (@bnds.eq_4) (@bnds.eq_5))) (And.intro (And.intro (@optE.eq_1) (@optE.eq_2)) (And.intro (@XM.eq_1) (And.intro (@cells.eq_1) (@cells.eq_2))))) (And.intro (And.intro (And.intro (@isV.eq_1) (@isV.eq_2)) (And.intro (@one.eq_1) (And.intro (@one.eq_2) (@one.eq_3)))) (And.intro (And.intro (@one.eq_4) (@Xs.eq_1)) (And.intro (@getB.eq_1) (And.intro (@setB.eq_1) (@XZ.eq_1)))))) (And.intro (And.intro (And.intro (And.intro (@XZ.eq_2) (@Yf.eq_1)) (And.intro (@Yf.eq_2) (@Xl.eq_1))) (And.intro (And.intro (@Xl.eq_2) (@XT.eq_1)) (And.intro (@XT.eq_2) (And.intro (@resS.eq_1) (@resS.eq_2))))) (And.intro (And.intro (And.intro (@tupS.eq_1) (@tupS.eq_2)) (And.intro (@ofV.eq_1) (And.intro (@ofV.eq_2) (@ofV.eq_3)))) (And.intro (And.intro (@ofV.eq_4) (@ofV.eq_5)) (And.intro (@ofV.eq_6) (And.intro (@Yj.eq_1) (@Yj.eq_2))))))))))))))
end Vc
/- The frame of the statements: from the law's contract to the given row. -/
set_option linter.all false
namespace Go.Proofs.YtejfjmcjicpodaaGreatDoor
open Go Vc Go.RowKit Wf
open Go.ChangeShapes Go.WideShapes Go.ChangeAt
open Go.WideMaps Go.WideElems
open Go.ChangeMaps (setBlock shut_map_nil open_string shut_string keptBut_setBlock frozen?_setBlock heap_setBlock_same)
theorem env_of {W : World} (h : W.ShapedOpen Tryz.prog) : Env W :=
  Go.Proofs.cell_of_shapedOpen_int (zero := #[.int .i64 0]) (t := 3) h (of_decide_eq_true (by kernel_rfl)) (by kernel_rfl) rfl (by kernel_rfl) (by kernel_rfl) Tryz.underlying3
theorem own : ownKnob Tryz.prog.godebug = none := by kernel_rfl
theorem laidOut : laidOutB Tryz.prog = true := by kernel_rfl
section
variable {H : Type} {enc : TypeId × Value → H} {W W' : World}
theorem trodAll_stays {P : Program} (hl : laidOutB P = true) {B : Nat} : ∀ {ts : List TypeId} {vs : List Value} {ds : List (DataW H)} {ps : List MemPlace},ts.all (fun t => P.readableRec t && decide (t < P.types.size)) = true →
    DataW.TrodAll enc P W 0 (fun _ => true) true ts vs ds ps → (∀ p ∈ ps,W.sameAt W' p) → (∀ p ∈ ps,p.block < B) → DataW.TrodAll enc P W' 0 (fun b => decide (b < B)) true ts vs ds ps
  | [],[],[],ps,_,h,_,_ => h
  | t :: ts,v :: vs,d :: ds,ps,hr,h,hs,hb => by
    obtain ⟨p,q,h1,h2,rfl⟩ := h
    simp only [List.all_cons,Bool.and_eq_true,decide_eq_true_eq] at hr
    exact ⟨p,q,Trod_stays hl hr.1.1 hr.1.2 h1 (fun x hx => hs x (List.mem_append_left _ hx)) (fun x hx => by simpa using hb x (List.mem_append_left _ hx)),trodAll_stays hl hr.2 h2 (fun x hx => hs x (List.mem_append_right _ hx)) (fun x hx => hb x (List.mem_append_right _ hx)),rfl⟩
  | [],_ :: _,_,_,_,h,_,_ => by cases h
  | [],[],_ :: _,_,_,h,_,_ => by cases h
  | _ :: _,[],_,_,_,h,_,_ => by cases h
  | _ :: _,_ :: _,[],_,_,h,_,_ => by cases h
theorem law_post {P : Program} {fn : Func} {s : ChangeSpec} {args : Array Value} {ds gs : List (DataW H)} {before : List MemPlace} {tb : TypeId} (hl : laidOutB P = true)
    (hpar : fn.params.toList.all (fun t => P.readableRec t && decide (t < P.types.size)) = true) (hv : s.vars = []) (hr : fn.resultTypes = #[tb]) (htb : P.underlying tb = some .bool)
    (hgs : gs = []) (hres : (s.fn H ds).results = [.lit (.bool true)]) (hargs : (s.fn H ds).args = ds) (hvs : (s.fn H ds).vars = [])
    (hW : DataW.Whole enc P fn.params.toList s.vars false W args.toList ds gs before) (bel : Below W.heap.size W W') : s.post enc P fn false true false false W args (.bool true) W' := by
  have hlt := hW.lt
  have hW' := hW
  obtain ⟨p,q,hA,hV,hb,-,-⟩ := hW
  subst hgs
  rw [hv] at hV
  obtain ⟨-,rfl⟩ := trodVars_none hV
  subst hb
  refine ⟨ds,[],_,[],p,[],hW',?_,?_,?_,bel.frame _,fun h => by cases h⟩
  · rw [List.append_nil,hres,hr]
    exact trodAll_mk1 (shut_bool htb _)
  · rw [List.append_nil,hargs]
    exact trodAll_stays hl hpar hA (fun x hx => bel.same (hlt x (List.mem_append_left _ hx))) (fun x hx => hlt x (List.mem_append_left _ hx))
  · rw [List.append_nil,hvs,hv]
    rfl
end
end Go.Proofs.YtejfjmcjicpodaaGreatDoor
/- The frame of the cards: a world with Go's tables. -/
set_option linter.all false
namespace Go.Proofs.YtejfjmcjicpodaaGreatDoor
def flatD : Nat → DataW Unit → List Value
  | _,.lit (.int k i) => [.int k i]
  | n + 1,.agg ps => ps.flatMap (flatD n)
  | _,_ => []
def setCells (d : DataW Unit) : Obj → Obj
  | .cells _ t fr => .cells (flatD 8 d).toArray t fr
  | o => o
noncomputable def laidWorld (os : Os) : World :=
  { World.holding Tryz.prog os ⟨#[],#[],[]⟩ with heap := ((World.holding Tryz.prog os ⟨#[],#[],[]⟩).heap.modify 1 (setCells Go.Pinned.utf8First)).modify 2 (setCells Rows.laid_unicode_utf8_acceptRanges) }
set_option maxRecDepth 100000 in
theorem laid_met (os : Os) (args : Array Value) : laidMet Tryz.prog [("unicode/utf8.acceptRanges", Rows.laid_unicode_utf8_acceptRanges), ("unicode/utf8.first", Rows.laid_unicode_utf8_first)] ((laidWorld os).forCall (fun _ _ => 0) ⟨#[], args, []⟩).memory :=
  laidMet_of_run3 8 (by kernel_rfl) (by kernel_rfl) (by kernel_rfl)
open Go in
theorem pf_looks : false = Tryz.pinned.checked.prog.looks [] := by kernel_rfl
end Go.Proofs.YtejfjmcjicpodaaGreatDoor
/- Facts about the whole program that every row asks for. -/
set_option linter.all false
namespace Go.Proofs.YtejfjmcjicpodaaGreatDoor
open Go Go.RowKit
set_option maxRecDepth 100000
theorem pf_maps : mapsRowed Tryz.pinned.checked.prog = true := by kernel_rfl
theorem pf_stops : (Tryz.pinned.checked.prog.stops == []) = true := by kernel_rfl
theorem pf_knobs : (Tryz.pinned.checked.prog.stopKnobs == []) = true := by kernel_rfl
theorem pf_keys : (Rows.diddocDecodesRow.plainKeys == Tryz.pinned.checked.prog.plainKeys) = true := by kernel_rfl
theorem pf_heard : Tryz.pinned.checked.prog.stopsHeard = true := by kernel_rfl
theorem pf_may : Tryz.pinned.checked.prog.mayEnter = true := by kernel_rfl
theorem pf_lifts : (Rows.diddocDecodesRow.lifted == Tryz.pinned.checked.prog.liftsFinal) = true := by kernel_rfl
theorem pf_make : (Tryz.pinned.checked.prog.make == some Rows.diddocDecodesRow.make) = true := by kernel_rfl
theorem and4 {a b c d : Bool} (h : (a && b && c && d) = true) : (a = true ∧ b = true) ∧ c = true ∧ d = true := by
  simp only [Bool.and_eq_true] at h
  exact ⟨⟨h.1.1.1,h.1.1.2⟩,h.1.2,h.2⟩
end Go.Proofs.YtejfjmcjicpodaaGreatDoor
/- A calculus of conditions: a strings.Builder is one thing of the state. -/
set_option linter.all false
namespace Vc
open Go Go.RowKit Wf
theorem FrW.mono {own own' : Nat → Prop} {w w' : World} (h : FrW own w w') (k : ∀ b,own b → own' b) : FrW own' w w' :=
  ⟨h.os,h.tape,h.output,h.size,fun b hb hn => h.block b hb (fun e => hn (k b e))⟩
theorem res_agr {b1 b2 : Nat → Bt} {t t' : Bt} {fq fq' : Nat → Prop} {w w' : World} {r : Res} (h1 : Holds b1 t fq w r) (h2 : Holds b2 t fq w r) (h : Holds b1 t' fq' w' r) : Holds b2 t' fq' w' r := by
  cases r with
  | cells c T m =>
    obtain ⟨-,⟨r1,f1,d1,rfl⟩,-⟩ := h1
    obtain ⟨-,⟨r2,f2,d2,rfl⟩,-⟩ := h2
    have e := lies_agr (by simp) d1.lies d2.lies
    simp only [Holds] at h ⊢
    rw [← e]; exact h
  | own c e s n m =>
    rcases h1 with ⟨-,-,rfl,-⟩ | ⟨-,-,-,-,l1,-⟩
    · simpa [Holds] using h
    · rcases h2 with ⟨-,-,rfl,-⟩ | ⟨-,-,-,-,l2,-⟩
      · simpa [Holds] using h
      · have e := lies_agr (by simp) l1 l2
        simp only [Holds] at h ⊢
        rw [← e]; exact h
  | ext R => exact h
  | gone => exact h
variable {V : Cx} {f : FuncId} {args : List SV} {bs : List Res} {R : SV → List Res → Prop}
theorem sc_weak {i : Nat} {r0 r1 : Res} (hi : bs[i]? = some r0) (hm : r1.mine = true → r0.mine = true) (hv : ∀ (β : Nat → Bt) (fp : Nat → Nat → Prop) (w : World),Holds β (β i) (fp i) w r0 → Holds β (β i) (fp i) w r1) (h : SC V f args (bs.set i r1) R) : SC V f args bs R := by
  refine ⟨h.1,fun β fp w hbx hG hE => ?_⟩
  have hil : i < bs.length := (List.getElem?_eq_some_iff.1 hi).1
  have old : ∀ {j r'},(bs.set i r1)[j]? = some r' → ∃ r,bs[j]? = some r ∧ (r'.mine = true → r.mine = true) ∧ (j ≠ i ∧ r' = r ∨ j = i ∧ r' = r1) := fun {j r'} hj => by
    by_cases hji : j = i
    · subst hji
      rw [List.getElem?_set_self hil] at hj
      obtain rfl := Option.some.inj hj
      exact ⟨r0,hi,hm,.inr ⟨rfl,rfl⟩⟩
    · rw [List.getElem?_set_ne (fun e => hji e.symm)] at hj
      exact ⟨r',hj,id,.inl ⟨hji,rfl⟩⟩
  refine (h.2 β fp w (fun β' hβ => ?_) (fun j r hj hjm k hk => ?_) hE).mono ?_
  · rw [List.length_set] at hβ
    have hb := hbx β' hβ
    refine ⟨fun j r' hj => ?_,fun j r' hj k hk => ?_,fun j l a b hj hl hne hmm => ?_⟩
    · obtain ⟨r,hr,-,⟨-,rfl⟩ | ⟨rfl,rfl⟩⟩ := old hj
      · exact hb.holds j _ hr
      · exact hv β' fp w (hb.holds _ _ hi)
    · obtain ⟨r,hr,-⟩ := old hj
      exact hb.lt j r hr k hk
    · obtain ⟨r,hr,e,-⟩ := old hj
      obtain ⟨r',hr',e',-⟩ := old hl
      exact hb.sep j l r r' hr hr' hne (hmm.imp e e')
  · obtain ⟨r,hr,e,-⟩ := old hj
    exact hG j r hr (e hjm) k hk
  · rintro e w' ⟨r,bs',β₂,fp₂,hR,hag,hlen,hall,hfr,hmine,hfoot⟩
    rw [List.length_set] at hag hlen
    refine ⟨r,bs',β₂,fp₂,hR,hag,hlen,hall,hfr.mono ?_,fun j r' hj hjm k hk => ?_,fun j r' hj k hk => ?_⟩
    · rintro k ⟨j,r',hj,hjm,hk⟩
      obtain ⟨r,hr,e,-⟩ := old hj
      exact ⟨j,r,hr,e hjm,hk⟩
    · rcases hmine j r' hj hjm k hk with h1 | ⟨j2,r2,hj2,hm2,hk2⟩
      · exact .inl h1
      · obtain ⟨r,hr,e,-⟩ := old hj2
        exact .inr ⟨j2,r,hr,e hm2,hk2⟩
    · rcases hfoot j r' hj k hk with h1 | ⟨j2,r2,hj2,hk2⟩
      · exact .inl h1
      · obtain ⟨r,hr,-⟩ := old hj2
        exact .inr ⟨j2,r,hr,hk2⟩
theorem sc_dull {i : Nat} {c : List SV} {e s n : Nat} {m : Bool} (hi : bs[i]? = some (.own c e s n m)) (h : SC V f args (bs.set i (.own c e s n false)) R) : SC V f args bs R := by
  refine sc_weak hi (fun e => by cases e) (fun β fp w hh => ?_) h
  rcases hh with h0 | ⟨h1,h2,h3,h4,h5,-,h7⟩
  · exact .inl ⟨h0.1,h0.2.1,h0.2.2.1,h0.2.2.2.1,fun e => by cases e⟩
  · exact .inr ⟨h1,h2,h3,h4,h5,(by simp),h7⟩
def Dim (b b2 : List Res) : Prop := b2.length = b.length ∧ ∀ (i : Nat) (r : Res),b2[i]? = some r → b[i]? = some r ∨ ∃ (c : List SV) (e s n : Nat) (m : Bool),b[i]? = some (Res.own c e s n m) ∧ r = Res.own c e s n false
theorem Dim.refl (b : List Res) : Dim b b := ⟨rfl,fun _ _ h => .inl h⟩
theorem Dim.one {b : List Res} {i : Nat} {c : List SV} {e s n : Nat} {m : Bool} (hi : b[i]? = some (.own c e s n m)) : Dim b (b.set i (.own c e s n false)) := ⟨by simp,fun j r hj => by
  by_cases hji : j = i
  · subst hji
    rw [List.getElem?_set_self (List.getElem?_eq_some_iff.1 hi).1] at hj
    exact .inr ⟨c,e,s,n,m,hi,(Option.some.inj hj).symm⟩
  · rw [List.getElem?_set_ne (fun e => hji e.symm)] at hj
    exact .inl hj⟩
theorem Dim.trans {a b c : List Res} (h : Dim a b) (k : Dim b c) : Dim a c := ⟨k.1.trans h.1,fun i r hi => by
  rcases k.2 i r hi with h1 | ⟨c,e,s,n,m,h1,rfl⟩
  · exact h.2 i r h1
  · rcases h.2 i _ h1 with h2 | ⟨c',e',s',n',m',h2,h3⟩
    · exact .inr ⟨c,e,s,n,m,h2,rfl⟩
    · cases h3
      exact .inr ⟨_,_,_,_,m',h2,rfl⟩⟩
theorem SC.dim (h : SC V f args bs (fun r b => ∃ b2 : List Res,Dim b b2 ∧ R r b2)) : SC V f args bs R := by
  refine ⟨h.1,fun β fp w hbx hG hE => (h.2 β fp w hbx hG hE).mono ?_⟩
  rintro e w' ⟨r,bs',β₂,fp₂,⟨b2,hd,hR⟩,hag,hlen,hall,hfr,hmine,hfoot⟩
  have old : ∀ {j r'},b2[j]? = some r' → ∃ r,bs'[j]? = some r ∧ (r'.mine = true → r.mine = true) ∧ ∀ {β t f w},Holds β t f w r → Holds β t f w r' := fun {j r'} hj => by
    rcases hd.2 j r' hj with h1 | ⟨c,e,s,n,m,h1,rfl⟩
    · exact ⟨r',h1,id,id⟩
    · refine ⟨_,h1,(fun e => by cases e),fun hh => ?_⟩
      rcases hh with h0 | ⟨h1,h2,h3,h4,h5,-,h7⟩
      · exact .inl ⟨h0.1,h0.2.1,h0.2.2.1,h0.2.2.2.1,fun e => by cases e⟩
      · exact .inr ⟨h1,h2,h3,h4,h5,(by simp),h7⟩
  refine ⟨r,b2,β₂,fp₂,hR,hag,by rw [hd.1]; exact hlen,fun β' hβ => ?_,hfr,fun j r' hj hm k hk => ?_,fun j r' hj k hk => ?_⟩
  · rw [hd.1] at hβ
    obtain ⟨he,hb⟩ := hall β' hβ
    refine ⟨he,⟨fun j r' hj => ?_,fun j r' hj k hk => ?_,fun j l a b hj hl hne hmm => ?_⟩⟩
    · obtain ⟨r,hr,-,hv⟩ := old hj
      exact hv (hb.holds j _ hr)
    · obtain ⟨r,hr,-⟩ := old hj
      exact hb.lt j r hr k hk
    · obtain ⟨r,hr,e,-⟩ := old hj
      obtain ⟨r',hr',e',-⟩ := old hl
      exact hb.sep j l r r' hr hr' hne (hmm.imp e e')
  · obtain ⟨r,hr,e,-⟩ := old hj
    exact hmine j r hr (e hm) k hk
  · obtain ⟨r,hr,-⟩ := old hj
    exact hfoot j r hr k hk
theorem SC.mono {R R' : SV → List Res → Prop} (h : SC V f args bs R) (k : ∀ r bs',R r bs' → R' r bs') : SC V f args bs R' := by
  refine ⟨h.1,fun β fp w hbx hG hE => (h.2 β fp w hbx hG hE).mono ?_⟩
  rintro e w' ⟨r,bs',β₂,fp₂,hR,h2⟩
  exact ⟨r,bs',β₂,fp₂,k _ _ hR,h2⟩
/-! slices that grow -/
theorem at_new (b : List Res) (X : Res) : (b ++ [X])[b.length]? = some X := by simp
theorem at_old {b : List Res} {j : Nat} {r : Res} (h : b[j]? = some r) (X : List Res) : (b ++ X)[j]? = some r := by
  rw [List.getElem?_append_left ((List.getElem?_eq_some_iff.1 h).1)]; exact h
def Sl (e s L : Nat) (x : SV) (b : List Res) (c : List SV) (n : Nat) : Prop := (x = .nils ∧ c = [] ∧ n = 0) ∨ ∃ j,x = .o j n ∧ L ≤ j ∧ b[j]? = some (.own c e s n true)
def Kp (bs b : List Res) : Prop := bs.length ≤ b.length ∧ ∀ k,k < bs.length → b[k]? = bs[k]?
theorem Kp.refl (bs : List Res) : Kp bs bs := ⟨Nat.le_refl _,fun _ _ => rfl⟩
theorem Kp.trans {a b c : List Res} (h : Kp a b) (k : Kp b c) : Kp a c := ⟨Nat.le_trans h.1 k.1,fun i hi => (k.2 i (Nat.lt_of_lt_of_le hi h.1)).trans (h.2 i hi)⟩
theorem Kp.app {bs b : List Res} (h : Kp bs b) (X : List Res) : Kp bs (b ++ X) := ⟨by rw [List.length_append]; have := h.1; omega,fun k hk => by rw [List.getElem?_append_left (by have := h.1; omega)]; exact h.2 k hk⟩
theorem Kp.set {bs b : List Res} (h : Kp bs b) {j : Nat} (hj : bs.length ≤ j) (X : Res) : Kp bs (b.set j X) := ⟨by rw [List.length_set]; exact h.1,fun k hk => by rw [List.getElem?_set_ne (by omega)]; exact h.2 k hk⟩
theorem Kp.at {bs b : List Res} (h : Kp bs b) {j : Nat} {r : Res} (hj : bs[j]? = some r) : b[j]? = some r := (h.2 j ((List.getElem?_eq_some_iff.1 hj).1)).trans hj
theorem Sl.app {e s L : Nat} {x : SV} {b : List Res} {c : List SV} {n : Nat} (h : Sl e s L x b c n) (X : List Res) : Sl e s L x (b ++ X) c n := by
  rcases h with h | ⟨j,h1,h2,h3⟩
  · exact .inl h
  · exact .inr ⟨j,h1,h2,at_old h3 X⟩
theorem set_new {α : Type} (b : List α) (X Y : α) : (b ++ [X]).set b.length Y = b ++ [Y] := by simp
theorem set_prev {α : Type} (b : List α) (X Y Z : α) : (b ++ [X] ++ [Y]).set b.length Z = b ++ [Z] ++ [Y] := by simp
theorem set_prev2 {α : Type} (b : List α) (X Y Z W : α) : (b ++ [X] ++ [Y] ++ [W]).set b.length Z = b ++ [Z] ++ [Y] ++ [W] := by simp
theorem at_prev {α : Type} (b : List α) (X Y : α) : (b ++ [X] ++ [Y])[b.length]? = some X := by simp
theorem at_prev2 {α : Type} (b : List α) (X Y Z : α) : (b ++ [X] ++ [Y] ++ [Z])[b.length]? = some X := by simp
theorem at_prev3 {α : Type} (b : List α) (X Y Z W : α) : (b ++ [X] ++ [Y] ++ [Z] ++ [W])[b.length]? = some X := by simp
theorem at_prev4 {α : Type} (b : List α) (X Y Z W U : α) : (b ++ [X] ++ [Y] ++ [Z] ++ [W] ++ [U])[b.length]? = some X := by simp
def lawB := And.intro (And.intro (@at_new) (And.intro (@at_prev) (@at_prev2))) (And.intro (And.intro (@at_prev3) (@at_prev4)) (And.intro (@set_new) (And.intro (@set_prev) (@set_prev2))))
end Vc
/- Slices of flat values among the arguments. -/
set_option linter.all false
namespace Go.Proofs.YtejfjmcjicpodaaGreatDoor
open Go Vc Go.RowKit Wf
open Go.ChangeShapes Go.WideShapes Go.ChangeAt
open Go.WideMaps Go.WideElems
theorem lies_app {w : World} {b off : Nat} {xs ys : List Value} (h1 : Lies w b off xs) (h2 : Lies w b (off + xs.length) ys) : Lies w b off (xs ++ ys) := fun j v hv => by
  rcases Nat.lt_or_ge j xs.length with h | h
  · rw [List.getElem?_append_left h] at hv
    exact h1 j v hv
  · rw [List.getElem?_append_right h] at hv
    have := h2 (j - xs.length) v hv
    rwa [show off + xs.length + (j - xs.length) = off + j by omega] at this
theorem lies_rows {ρ : Type} {w : World} {b s : Nat} (vs : ρ → List Value) : ∀ (L : List ρ) (off : Nat),(∀ r ∈ L,(vs r).length = s) → (∀ (i : Nat) (r : ρ),L[i]? = some r → Lies w b (off + i * s) (vs r)) → Lies w b off (L.flatMap vs)
  | [],_,_,_ => fun j v hv => by simp at hv
  | r :: L,off,hs,h => by
    rw [List.flatMap_cons]
    refine lies_app (by simpa using h 0 r rfl) (lies_rows vs L _ (fun q hq => hs q (List.mem_cons_of_mem _ hq)) (fun i q hq => ?_))
    have := h (i + 1) q hq
    rw [hs r List.mem_cons_self]
    rwa [show off + s + i * s = off + (i + 1) * s by rw [Nat.add_mul]; omega]
theorem flat_rows {ρ : Type} {s : Nat} (vs : ρ → List SV) : ∀ (L : List ρ),(∀ r ∈ L,(vs r).length = s) → (L.flatMap vs).length = L.length * s
  | [],_ => by simp
  | r :: L,hs => by
    rw [List.flatMap_cons,List.length_append,hs r List.mem_cons_self,flat_rows vs L (fun q hq => hs q (List.mem_cons_of_mem _ hq)),List.length_cons,Nat.add_mul]
    omega
section
variable {H : Type} {enc : TypeId × Value → H} {P : Program} {w : World} {held : Bool}
end
theorem weights_field {H : Type} {P : Program} {t u : TypeId} {fs : Array Field} (ht : P.underlying t = some (.struct fs)) {parts : List (DataW H)} {j : Nat} {d : DataW H} (hj : (fs.toList.map (·.type))[j]? = some u) (hd : parts[j]? = some d) {n : Nat} (hn : n ∈ d.weights P u) : n ∈ (DataW.agg parts).weights P t := by
  simp only [DataW.weights,ht]
  exact DataW.weights_mem_each hj hd n hn
end Go.Proofs.YtejfjmcjicpodaaGreatDoor
/- Slices within slices among the arguments. -/
set_option linter.all false
namespace Go.Proofs.YtejfjmcjicpodaaGreatDoor
open Go Vc Go.RowKit Wf
open Go.ChangeShapes Go.WideShapes Go.ChangeAt
open Go.WideMaps Go.WideElems
def Ext (β : Nat → Bt) (l : List (Bt × Res)) : Prop := ∀ (i : Nat) (x : Bt × Res),l[i]? = some x → β i = x.1
theorem Ext.left {β : Nat → Bt} {l m : List (Bt × Res)} (h : Ext β (l ++ m)) : Ext β l := fun i x hx => h i x (by rw [List.getElem?_append_left (List.getElem?_eq_some_iff.1 hx).1]; exact hx)
def OpenL (w : World) (l : List (Bt × Res)) : Prop := ∀ β,Ext β l → ∀ x ∈ l,x.2.mine = false ∧ Holds β x.1 (fun k => k = x.1.blk ∧ x.1.cap ≠ 0) w x.2 ∧ (x.1.cap ≠ 0 → x.1.blk < w.heap.size)
theorem OpenL.nil (w : World) : OpenL w [] := fun _ _ x hx => by cases hx
theorem OpenL.snoc {w : World} {l : List (Bt × Res)} (h : OpenL w l) {b : Bt} {r : Res} (hm : r.mine = false) (hh : ∀ β,Ext β l → Holds β b (fun k => k = b.blk ∧ b.cap ≠ 0) w r) (hb : b.cap ≠ 0 → b.blk < w.heap.size) : OpenL w (l ++ [(b,r)]) := fun β hβ x hx => by
  rcases List.mem_append.1 hx with hx | hx
  · exact h β hβ.left x hx
  · obtain rfl := List.mem_singleton.1 hx
    exact ⟨hm,hh β hβ.left,hb⟩
def betaL (l : List (Bt × Res)) : Nat → Bt := fun i => ((l[i]?).map (·.1)).getD (bt0 0)
theorem betaL_ext (l : List (Bt × Res)) : Ext (betaL l) l := fun i x hx => by simp [betaL,hx]
theorem SC.lawN {V : Cx} {f : FuncId} {args : List SV} {l : List (Bt × Res)} (h : SC V f args (l.map (·.2)) (fun r _ => r = .bool true)) {w : World} (hE : V.E w) (hh : OpenL w l) :
    Calls V.P f (concL (betaL l) args).toArray w fun e w' => e = .returned (.bool true) ∧ Below w.heap.size w w' := by
  have hno : ∀ (i : Nat) (r : Res),(l.map (·.2))[i]? = some r → r.mine = false := fun i r hi => by
    rw [List.getElem?_map,Option.map_eq_some_iff] at hi
    obtain ⟨x,hx,rfl⟩ := hi
    exact (hh _ (betaL_ext l) x (List.mem_of_getElem? hx)).1
  obtain ⟨fp,hfp⟩ : ∃ fp : Nat → Nat → Prop,∀ i k,fp i k ↔ ∃ x,l[i]? = some x ∧ k = x.1.blk ∧ x.1.cap ≠ 0 := ⟨fun i k => ∃ x,l[i]? = some x ∧ k = x.1.blk ∧ x.1.cap ≠ 0,fun _ _ => Iff.rfl⟩
  have hbx : ∀ β',Agr (l.map (·.2)).length (betaL l) β' → BxOK β' fp w (l.map (·.2)) := fun β' hβ => by
    have hext : Ext β' l := fun i x hx => by
      have := hβ i (by simpa using (List.getElem?_eq_some_iff.1 hx).1)
      rw [← this]; exact betaL_ext l i x hx
    refine BxOK.mk ?_ ?_ ?_
    · intro i r hi
      rw [List.getElem?_map,Option.map_eq_some_iff] at hi
      obtain ⟨x,hx,rfl⟩ := hi
      rw [hext i x hx]
      have h2 := (hh β' hext x (List.mem_of_getElem? hx)).2.1
      have e : fp i = fun k => k = x.1.blk ∧ x.1.cap ≠ 0 := by
        funext k
        exact propext ⟨fun h => by obtain ⟨y,hy,h1⟩ := (hfp i k).1 h; rw [hx] at hy; cases hy; exact h1,fun h => (hfp i k).2 ⟨x,hx,h⟩⟩
      rw [e]; exact h2
    · intro i r hi k hk
      obtain ⟨x,hx,rfl,hc⟩ := (hfp i k).1 hk
      exact (hh _ (betaL_ext l) x (List.mem_of_getElem? hx)).2.2 hc
    · intro i j r r' hi hj _ hm
      rw [hno i r hi,hno j r' hj] at hm
      simp at hm
  refine (h.2 (betaL l) fp w hbx ?_ hE).mono ?_
  · intro i r hi hm
    rw [hno i r hi] at hm
    cases hm
  · rintro e w' ⟨r,bs',β₂,fp₂,rfl,hag,hle,hall,hfr,-⟩
    refine ⟨by have := (hall β₂ (Agr.refl _ _)).1; simpa [conc] using this,?_⟩
    refine (hfr.mono (own' := fun _ => False) ?_).below
    rintro k ⟨i,r,hi,hm,-⟩
    rw [hno i r hi] at hm
    cases hm
theorem cell_spot {w : World} {a : Addr} {v : Value} (h : w.cell? a = some v) : a.spot = none ∧ a.block < w.heap.size := by
  unfold World.cell? at h
  split at h
  · rename_i c t fz hh
    split at h
    · cases h
    · rename_i hs
      exact ⟨by simpa using hs,(Array.getElem?_eq_some_iff.1 hh).1⟩
  · cases h
section
variable {H : Type} {enc : TypeId × Value → H} {P : Program} {w : World} {held : Bool}
theorem open_rowsN {ρ : Type} (cl : ρ → List SV) (Pr : List (Bt × Res) → ρ → Prop) (mono : ∀ l ls r,Pr l r → Pr (l ++ ls) r) {t e : TypeId} {s m : Nat} (hs0 : 0 < s)
    (ht : P.underlying t = some (.slice e)) (hs : P.cellsOf e = s) (W : DataW H → Prop)
    (hrow : ∀ (l : List (Bt × Res)),OpenL w l → ∀ cs x,DataW.trod enc P w 0 (fun _ => true) held m e cs = some x → W x.1 → ∃ ls r,OpenL w (l ++ ls) ∧ (∀ β,Ext β (l ++ ls) → cs = (cl r).map (conc β)) ∧ Pr (l ++ ls) r)
    {l : List (Bt × Res)} (hl : OpenL w l) {c : Value} {x : DataW H × List MemPlace} {M : Nat} (hM : M ≤ m + 1) (h : DataW.trod enc P w 0 (fun _ => true) held M t [c] = some x) (hW : ∀ L sp,x.1 = .slice L sp → ∀ d ∈ L,W d) :
    ∃ ls y L,OpenL w (l ++ ls) ∧ L.length ≤ 9223372036854775807 ∧ (∀ β,Ext β (l ++ ls) → c = conc β y) ∧ ((y = .nils ∧ L = []) ∨ ∃ i,y = .o i L.length ∧ ((l ++ ls).map (·.2))[i]? = some (.own (L.flatMap cl) e s L.length false)) ∧ (∀ r ∈ L,Pr (l ++ ls) r) ∧ (L = [] ∨ ∃ Le sp,x.1 = .slice Le sp ∧ Le.length = L.length) := by
  have h := DataW.trod_le hM h
  rcases DataW.trod_slice ht h with ⟨hc,hx⟩ | ⟨a,len,cap,elems,rest,n,hn,hc,hx,-,hlc,hcm,hel,hE,hR,-⟩
  · simp only [List.cons.injEq,and_true] at hc
    subst hc
    exact ⟨[],.nils,[],by rw [List.append_nil]; exact hl,by simp,fun β _ => by simp [conc],.inl ⟨rfl,rfl⟩,by simp,.inl rfl⟩
  obtain rfl : n = m := by omega
  clear hn
  simp only [List.cons.injEq,and_true] at hc
  subst hc hx
  rw [hs] at hE hR
  obtain ⟨hRl,hR⟩ := hR rfl
  have hcm' : cap ≤ 9223372036854775807 := by unfold maxLen at hcm; simpa using hcm
  by_cases h0 : cap = 0
  · subst h0
    obtain rfl : len = 0 := by omega
    obtain ⟨b,hb,hA⟩ := nilA_any a
    refine ⟨[(b,.own [] e s 0 false)],.o l.length 0,[],hl.snoc rfl (fun β _ => .inl ⟨hb,rfl,rfl,fun k hk => hk.2 hb,fun e => by cases e⟩) (fun k => absurd hb k),by simp,fun β hβ => ?_,.inr ⟨l.length,rfl,by simp⟩,by simp,.inl rfl⟩
    have := hβ l.length (b,.own [] e s 0 false) (by simp)
    simp only [conc,oV,this,hb,if_true,hA]
  -- the first cell tells that the place is a row's
  have hspot : a.spot = none ∧ a.block < w.heap.size := by
    have h1 : ∃ cs,w.cells? 0 a s = some cs := by
      rcases Nat.eq_zero_or_pos len with e | e
      · subst e
        have h2 := hR 0 (by omega)
        rw [List.getElem?_eq_getElem (by omega)] at h2
        obtain ⟨cs,h3,-⟩ := Option.bind_eq_some_iff.1 h2
        simp only [Nat.add_zero,Nat.zero_mul] at h3
        exact ⟨cs,by simpa [Addr.add] using h3⟩
      · have h2 := hE 0 e
        rw [List.getElem?_eq_getElem (by omega)] at h2
        obtain ⟨cs,h3,-⟩ := Option.bind_eq_some_iff.1 h2
        simp only [Nat.zero_mul] at h3
        exact ⟨cs,by simpa [Addr.add] using h3⟩
    obtain ⟨cs,h1⟩ := h1
    obtain ⟨-,h2,h3⟩ := World.cells?_some h1
    have h4 := h3 0 hs0
    rw [List.getElem?_eq_getElem (by omega)] at h4
    exact cell_spot (a := a) (by simpa [Addr.add] using h4)
  obtain ⟨blk,off,spot⟩ := a
  obtain ⟨hsp,hbl⟩ := hspot
  simp only at hsp hbl
  subst hsp
  -- the elements,one after the other
  have acc : ∀ k,k ≤ len → ∃ (ls : List (Bt × Res)) (L : List ρ),OpenL w (l ++ ls) ∧ L.length = k ∧ (∀ r ∈ L,Pr (l ++ ls) r ∧ (cl r).length = s) ∧ ∀ (i : Nat) (r : ρ),L[i]? = some r → ∀ β,Ext β (l ++ ls) → Lies w blk (off + i * s) ((cl r).map (conc β)) := by
    intro k
    induction k with
    | zero => exact fun _ => ⟨[],[],by rw [List.append_nil]; exact hl,rfl,by simp,fun i r h => by simp at h⟩
    | succ k ih =>
      intro hk
      obtain ⟨ls,L,g1,g2,g3,g4⟩ := ih (by omega)
      have h2 := hE k (by omega)
      rw [List.getElem?_eq_getElem (by omega)] at h2
      obtain ⟨cs,h3,h4⟩ := Option.bind_eq_some_iff.1 h2
      obtain ⟨ls',r,k1,k2,k3⟩ := hrow (l ++ ls) g1 cs _ h4 (hW _ _ rfl _ (List.mem_map.2 ⟨_,List.getElem_mem (by omega),rfl⟩))
      rw [List.append_assoc] at k1 k2 k3
      obtain ⟨-,h5,h6⟩ := World.cells?_some h3
      have hrl : (cl r).length = s := by rw [← h5,k2 (betaL _) (betaL_ext _),List.length_map]
      refine ⟨ls ++ ls',L ++ [r],k1,by simp [g2],fun q hq => ?_,fun i q hq β hβ => ?_⟩
      · rcases List.mem_append.1 hq with hq | hq
        · rw [← List.append_assoc]
          exact ⟨mono _ _ _ (g3 q hq).1,(g3 q hq).2⟩
        · obtain rfl := List.mem_singleton.1 hq
          exact ⟨k3,hrl⟩
      · rcases Nat.lt_or_ge i L.length with hi | hi
        · rw [List.getElem?_append_left hi] at hq
          exact g4 i q hq β (by rw [← List.append_assoc] at hβ; exact hβ.left)
        · have hi' : i = k := by
            have := (List.getElem?_eq_some_iff.1 hq).1
            simp at this
            omega
          subst hi'
          rw [List.getElem?_append_right hi,g2,Nat.sub_self] at hq
          cases hq
          intro j v hv
          rw [← k2 β hβ] at hv
          have hj : j < s := by rw [← h5]; exact (List.getElem?_eq_some_iff.1 hv).1
          have := h6 j hj
          rw [addr_plus,addr_plus] at this
          rw [this]; exact hv
  obtain ⟨ls,L,g1,g2,g3,g4⟩ := acc len (Nat.le_refl _)
  have hi : l.length + ls.length = (l ++ ls).length := by simp
  refine ⟨ls ++ [(⟨blk,off,cap + 1⟩,.own (L.flatMap cl) e s L.length false)],.o (l.length + ls.length) L.length,L,?_,by omega,fun β hβ => ?_,.inr ⟨_,rfl,?_⟩,fun r hr => ?_,.inr ⟨_,_,rfl,by simp [hel,g2]⟩⟩
  · rw [← List.append_assoc]
    refine g1.snoc rfl (fun β hβ => .inr ⟨by simp,by simp; omega,by simpa using hcm,flat_rows cl _ fun r hr => (g3 r hr).2,?_,(by simp),fun k => by simp⟩) (fun _ => hbl)
    rw [List.map_flatMap]
    exact lies_rows (fun r => (cl r).map (conc β)) L off (fun r hr => by rw [List.length_map]; exact (g3 r hr).2) (fun i r hr => g4 i r hr β hβ)
  · rw [← List.append_assoc] at hβ
    have := hβ (l.length + ls.length) (⟨blk,off,cap + 1⟩,.own (L.flatMap cl) e s L.length false) (by rw [hi]; simp)
    simp [conc,oV,this,g2]
  · rw [← List.append_assoc,List.map_append,List.getElem?_append_right (by simp)]
    simp
  · rw [← List.append_assoc]
    exact mono _ _ _ (g3 r hr).1
end
end Go.Proofs.YtejfjmcjicpodaaGreatDoor
/- strings.IndexRune at a rune that is no ASCII,in an ASCII string; strings.IndexAny at an ASCII set. -/
set_option linter.all false
namespace Go.Proofs.YtejfjmcjicpodaaGreatDoor
open Go.RowKit Wf
attribute [local go_sem] ex_list app_list get_list

end Go.Proofs.YtejfjmcjicpodaaGreatDoor
/- The walks of package ascii. -/
set_option linter.all false
namespace Go.Proofs.YtejfjmcjicpodaaGreatDoor
open Go.RowKit Wf
attribute [local go_sem] ex_list app_list get_list
set_option maxHeartbeats 400000 in
theorem ascii_IsDigit (c : UInt8) (w : World) : Calls Tryz.prog 91 #[.int .u8 c.toNat] w fun e w' => e = .returned (.bool (isDigit c)) ∧ w = w' := by
  go_enter Tryz.func91,Tryz.ntmps91
  go_wp2
  all_goals
    go_ret
    refine ⟨ret_bool ?_,rfl⟩
    have hb := or32 c
    have hc := c.toNat_lt
    rw [Bool.eq_iff_iff]
    simp [isDigit]
    try omega
set_option maxHeartbeats 400000 in
theorem ascii_IsAlpha (c : UInt8) (w : World) : Calls Tryz.prog 136 #[.int .u8 c.toNat] w fun e w' => e = .returned (.bool (isAlpha c)) ∧ w = w' := by
  go_enter Tryz.func136,Tryz.ntmps136
  go_wp2
  all_goals
    go_ret
    refine ⟨ret_bool ?_,rfl⟩
    have hb := or32 c
    have hc := c.toNat_lt
    rw [Bool.eq_iff_iff]
    simp [isAlpha]
    try omega
set_option maxHeartbeats 400000 in
theorem ascii_IsHex (c : UInt8) (w : World) : Calls Tryz.prog 123 #[.int .u8 c.toNat] w fun e w' => e = .returned (.bool (isHex c)) ∧ w = w' := by
  go_enter Tryz.func123,Tryz.ntmps123
  go_wp2
  all_goals
    go_ret
    refine ⟨ret_bool ?_,rfl⟩
    have hb := or32 c
    have hc := c.toNat_lt
    rw [Bool.eq_iff_iff]
    simp [isHex]
    try omega
set_option maxHeartbeats 400000 in
theorem ref01_IsHex (c : UInt8) (w : World) : Calls Tryz.prog 114 #[.int .u8 c.toNat] w fun e w' => e = .returned (.bool (isHex c)) ∧ w = w' := by
  go_enter Tryz.func114,Tryz.ntmps114
  go_wp2
  all_goals
    go_ret
    refine ⟨ret_bool ?_,rfl⟩
    have hb := or32 c
    have hc := c.toNat_lt
    rw [Bool.eq_iff_iff]
    simp [isHex]
    try omega
end Go.Proofs.YtejfjmcjicpodaaGreatDoor
/- Rows of bytes of the call's own: what a conversion lays,reads and stores; a string made of them. -/
set_option linter.all false
namespace Go.Proofs.YtejfjmcjicpodaaGreatDoor
open Go.RowKit Wf
def u8V (b : UInt8) : Value := .int .u8 b.toNat
def RowU8 (w : World) (b : Nat) (l : Bytes) : Prop := ∃ (rest : List Value) (T : TypeId) (fz : Nat × Nat),w.heap[b]? = some (.cells (l.map u8V ++ rest).toArray T fz) ∧ (l.length ≤ fz.1 ∨ fz.2 ≤ fz.1)
theorem RowU8.set {w : World} {b : Nat} {l : Bytes} (h : RowU8 w b l) {k : Nat} (hk : k < l.length) (x : UInt8) : RowU8 (w.setCell ⟨b,k,none⟩ (.int .u8 x.toNat)) b (l.set k x) := by
  obtain ⟨rest,T,fz,hb,hf⟩ := h
  refine ⟨rest,T,fz,?_,by simpa using hf⟩
  rw [heap_set hb]
  congr 2
  simp [List.set_append_left,hk,List.map_set,u8V]
end Go.Proofs.YtejfjmcjicpodaaGreatDoor
/- The walks of package ascii: strings. -/
set_option linter.all false
namespace Go.Proofs.YtejfjmcjicpodaaGreatDoor
open Go.RowKit Wf
attribute [local go_sem] ex_list app_list get_list


end Go.Proofs.YtejfjmcjicpodaaGreatDoor
/- The library's contracts on strings,for the calculus of conditions. -/
set_option linter.all false
namespace Go.Proofs.YtejfjmcjicpodaaGreatDoor
open Go Vc Go.RowKit Wf
theorem below_draws {w w' : World} (h : ∃ n,w' = w.drewN n) : Below w.heap.size w w' := by
  obtain ⟨n,rfl⟩ := h
  exact below_drewN (Below.refl _ _) _
theorem below_same {w w' : World} (h : w = w') : Below w.heap.size w w' := by subst h; exact Below.refl _ _
theorem p_IndexByte (l : Bytes) (c : UInt8) : PC Tryz.V 99 [.str l,.int .u8 c.toNat] (.int .i64 (Lib.indexByte l c)) :=
  ⟨Tryz.call99,by simp [flat,flat.flatL],by simp [flat,flat.flatL],fun w hE => (s_IndexByte l c w).mono fun _ _ ⟨h,k⟩ => ⟨h,below_same k⟩⟩
theorem p_HasPrefix (l p : Bytes) : PC Tryz.V 97 [.str l,.str p] (.bool (Lib.hasPrefix l p)) :=
  ⟨Tryz.call97,by simp [flat,flat.flatL],by simp [flat,flat.flatL],fun w hE => (s_HasPrefix l p w).mono fun _ _ ⟨h,k⟩ => ⟨h,below_same k⟩⟩
theorem p_CutPrefix (l p : Bytes) : PC Tryz.V 60 [.str l,.str p] (.tup [.str (Lib.trimPrefix l p),.bool (Lib.hasPrefix l p)]) :=
  ⟨Tryz.call60,by simp [flat,flat.flatL],by simp [flat,flat.flatL],fun w hE => (s_CutPrefix l p w).mono fun _ _ ⟨h,k⟩ => ⟨h,below_same k⟩⟩
theorem p_Cut (l : Bytes) (c : UInt8) (hl : l.length < 4294967281) : PC Tryz.V 61 [.str l,.str [c]] (.tup [.str (cutC c l).1,.str (cutC c l).2.1,.bool (cutC c l).2.2]) :=
  ⟨Tryz.call61,by simp [flat,flat.flatL],by simp [flat,flat.flatL],fun w hE => (s_Cut l c w hE hl).mono fun _ _ ⟨h,k⟩ => ⟨h,below_draws k⟩⟩
theorem byte_is {s : Bytes} {k : Nat} (hk : k < s.length) (c : UInt8) {n : Int} (hn : n = c.toNat) : (((s.getD k 0).toNat : Int) == n) = (s[k] == c) := by
  subst hn
  rw [show s.getD k 0 = s[k] by simp [List.getD,hk],Bool.eq_iff_iff]
  simp only [beq_iff_eq]
  exact ⟨fun h => UInt8.toNat_inj.1 (by exact_mod_cast h),fun h => by rw [h]⟩
theorem one_u8 (l : Bytes) : (l.map u8S).all Vc.one = true := by simp [u8S,Vc.one]
end Go.Proofs.YtejfjmcjicpodaaGreatDoor
/- Small parts of the calculus that many walks use. -/
set_option linter.all false
set_option maxRecDepth 20000
namespace Go.Proofs.YtejfjmcjicpodaaGreatDoor
open Go Vc Go.RowKit Wf
def lkI (i : Nat) (σ : St) : Nat := match lk i σ.t with
  | some (.int _ n) => n.toNat
  | _ => 0
theorem lkI_eq {i : Nat} {σ : St} {k : IntKind} {n : Int} (h : lk i σ.t = some (.int k n)) : lkI i σ = n.toNat := by simp [lkI,h]
theorem rows_at {ρ : Type} (cl : ρ → List SV) (s : Nat) (hs : ∀ r,(cl r).length = s) : ∀ (L : List ρ) (k : Nat) (h : k < L.length),((L.flatMap cl).drop (k * s)).take s = cl L[k]
  | [],k,h => by simp at h
  | r :: L,0,_ => by
    have := hs r
    simp [List.take_append,List.take_of_length_le (Nat.le_of_eq this),this]
  | r :: L,k + 1,h => by
    have h1 := hs r
    have h2 : ((r :: L).flatMap cl).drop ((k + 1) * s) = (L.flatMap cl).drop (k * s) := by
      rw [List.flatMap_cons,List.drop_append,List.drop_of_length_le (by rw [Nat.add_mul]; omega),List.nil_append,show (k + 1) * s - (cl r).length = k * s by rw [Nat.add_mul]; omega]
    rw [h2]
    simpa using rows_at cl s hs L k (by simpa using h)
theorem rows_len {ρ : Type} (cl : ρ → List SV) (s : Nat) (hs : ∀ r,(cl r).length = s) : ∀ (L : List ρ),(L.flatMap cl).length = L.length * s
  | [] => by simp
  | r :: L => by rw [List.flatMap_cons,List.length_append,hs r,rows_len cl s hs L,List.length_cons,Nat.add_mul]; omega
theorem rows_snoc {ρ : Type} (cl : ρ → List SV) (L : List ρ) (r : ρ) : (L ++ [r]).flatMap cl = L.flatMap cl ++ cl r := by simp
theorem sc_forget {V : Cx} {f : FuncId} {args : List SV} {bs : List Res} {x : SV} (hx : flat x = true) (h : SC V f args bs (fun r b => r = x ∧ Kp bs b)) : SC V f args bs (fun r b => r = x ∧ b = bs) := by
  refine ⟨h.1,fun β fp w hbx hG hE => (h.2 β fp w hbx hG hE).mono ?_⟩
  rintro e w' ⟨r,bs',β₂,fp₂,⟨rfl,hlen,hkp⟩,hag,-,hall,hfr,hmine,hfoot⟩
  have old : ∀ {i r},bs[i]? = some r → bs'[i]? = some r := fun {i r} hi => (hkp i (List.getElem?_eq_some_iff.1 hi).1).trans hi
  refine ⟨r,bs,β₂,fp₂,⟨rfl,rfl⟩,hag,Nat.le_refl _,fun β' hβ => ?_,hfr,fun i r' hi => hmine i r' (old hi),fun i r' hi => hfoot i r' (old hi)⟩
  have hc : ∀ i,i < bs.length → (if i < bs.length then β' i else β₂ i) = β' i := fun i hi => if_pos hi
  have hall2 := hall (fun i => if i < bs.length then β' i else β₂ i) (fun i _ => by
    by_cases hi : i < bs.length
    · exact (hβ i hi).trans (hc i hi).symm
    · exact (if_neg hi).symm)
  have hb1 := hbx (fun i => if i < bs.length then β' i else β₂ i) (fun i hi => ((hag i hi).trans (hβ i hi)).trans (hc i hi).symm)
  have hb2 := hbx β' (fun i hi => (hag i hi).trans (hβ i hi))
  obtain ⟨he,hbx2⟩ := hall2
  refine ⟨by rw [he,conc_flat _ hx _ β'],⟨fun i r hi => ?_,fun i r hi => hbx2.lt i r (old hi),fun i j r r' hi hj => hbx2.sep i j r r' (old hi) (old hj)⟩⟩
  have h1 := hb1.holds i r hi
  have h2 := hb2.holds i r hi
  have h3 := hbx2.holds i r (old hi)
  have e := hc i (List.getElem?_eq_some_iff.1 hi).1
  simp only [e] at h1 h3
  exact res_agr h1 h2 h3
end Go.Proofs.YtejfjmcjicpodaaGreatDoor
/- Trees of JSON values whose rows may only be read. -/
set_option linter.all false
namespace Go.Proofs.YtejfjmcjicpodaaGreatDoor
open Go Vc Go.RowKit Wf
set_option linter.unusedSimpArgs false
def Ro (a b : List Res) : Prop := ∀ (j : Nat) (c : List SV) (e s n : Nat),a[j]? = some (.own c e s n false) → b[j]? = some (.own c e s n false)
theorem Ro.refl (a : List Res) : Ro a a := fun _ _ _ _ _ h => h
theorem Ro.trans {a b c : List Res} (h : Ro a b) (k : Ro b c) : Ro a c := fun j _ _ _ _ x => k j _ _ _ _ (h j _ _ _ _ x)
end Go.Proofs.YtejfjmcjicpodaaGreatDoor
namespace Vc
open Go.Proofs.YtejfjmcjicpodaaGreatDoor
open Go Vc Go.RowKit Wf
theorem Kp.ro {a b : List Res} (h : Kp a b) : Ro a b := fun _ _ _ _ _ x => h.at x
end Vc
namespace Go.Proofs.YtejfjmcjicpodaaGreatDoor
open Go Vc Go.RowKit Wf
theorem Ro.app {a b : List Res} (h : Ro a b) (X : List Res) : Ro a (b ++ X) := fun j _ _ _ _ x => at_old (h j _ _ _ _ x) X
end Go.Proofs.YtejfjmcjicpodaaGreatDoor
namespace Vc
open Go.Proofs.YtejfjmcjicpodaaGreatDoor
open Go Vc Go.RowKit Wf
theorem Dim.ro {a b : List Res} (h : Dim a b) : Ro a b := fun j c e s n x => by
  have hl : j < b.length := by rw [h.1]; exact (List.getElem?_eq_some_iff.1 x).1
  rcases h.2 j b[j] (List.getElem?_eq_getElem hl) with h1 | ⟨c',e',s',n',m',h1,h2⟩
  · rw [List.getElem?_eq_getElem hl,← h1,x]
  · rw [x] at h1
    cases h1
    rw [List.getElem?_eq_getElem hl,h2]
end Vc
namespace Go.Proofs.YtejfjmcjicpodaaGreatDoor
open Go Vc Go.RowKit Wf
theorem Ro.set {a b : List Res} (h : Ro a b) {q : Nat} (hq : ∀ c e s n,b[q]? ≠ some (.own c e s n false)) (X : Res) : Ro a (b.set q X) := fun j c e s n x => by
  have := h j c e s n x
  have hne : q ≠ j := by rintro rfl; exact hq _ _ _ _ this
  rw [List.getElem?_set_ne hne]
  exact this
theorem Ro.setT {a b : List Res} (h : Ro a b) {q : Nat} {c : List SV} {e s n : Nat} (hq : b[q]? = some (.own c e s n true)) (X : Res) : Ro a (b.set q X) := h.set (fun c e s n hx => by rw [hq] at hx; cases hx) X
structure Tv where
  k : Int
  t : Bytes
  xk : SV
  xi : SV
def tv (v : Tv) : List SV := [.int .i64 v.k,.str v.t,v.xk,v.xi]
def Rs (b : List Res) (x : SV) (L : List Bytes) : Prop := (x = .nils ∧ L = []) ∨ ∃ j,x = .o j L.length ∧ b[j]? = some (.own (L.map SV.str) 9 1 L.length false)
def Ri (b : List Res) (x : SV) (L : List Tv) : Prop := (x = .nils ∧ L = []) ∨ ∃ j,x = .o j L.length ∧ b[j]? = some (.own (L.flatMap tv) 25 4 L.length false)
theorem Rs.ro {a b : List Res} {x : SV} {L : List Bytes} (h : Rs a x L) (k : Ro a b) : Rs b x L := by
  rcases h with h | ⟨j,h1,h2⟩
  · exact .inl h
  · exact .inr ⟨j,h1,k _ _ _ _ _ h2⟩
theorem Ri.ro {a b : List Res} {x : SV} {L : List Tv} (h : Ri a x L) (k : Ro a b) : Ri b x L := by
  rcases h with h | ⟨j,h1,h2⟩
  · exact .inl h
  · exact .inr ⟨j,h1,k _ _ _ _ _ h2⟩
theorem Rs.within {b : List Res} {x : SV} {L : List Bytes} (h : Rs b x L) : Vc.within b.length x = true := by
  rcases h with ⟨rfl,-⟩ | ⟨j,rfl,h2⟩
  · rfl
  · have := (List.getElem?_eq_some_iff.1 h2).1
    simp [Vc.within,this]
theorem Ri.within {b : List Res} {x : SV} {L : List Tv} (h : Ri b x L) : Vc.within b.length x = true := by
  rcases h with ⟨rfl,-⟩ | ⟨j,rfl,h2⟩
  · rfl
  · have := (List.getElem?_eq_some_iff.1 h2).1
    simp [Vc.within,this]
def Tr (b : List Res) : Nat → Tv → Prop
  | 0,_ => False
  | d + 1,v => v.t.length ≤ 20000 ∧ (v.k = 0 ∨ v.k = 5 ∨ v.k = 6 ∨ v.k = 7) ∧ ∃ (K : List Bytes) (L : List Tv),Rs b v.xk K ∧ Ri b v.xi L ∧ K.length ≤ 16 ∧ L.length ≤ 16 ∧ (∀ s ∈ K,s.length ≤ 20000) ∧ (v.k = 7 → K.length = L.length) ∧ (v.k ≠ 7 → K = []) ∧ ∀ x ∈ L,Tr b d x
theorem Tr.ro {a b : List Res} (k : Ro a b) : ∀ {d : Nat} {v : Tv},Tr a d v → Tr b d v
  | 0,_,h => h
  | _ + 1,_,⟨h1,h2,K,L,h3,h4,h5,h6,h7,h8,h9,h10⟩ => ⟨h1,h2,K,L,h3.ro k,h4.ro k,h5,h6,h7,h8,h9,fun x hx => (h10 x hx).ro k⟩
theorem Tr.zero (b : List Res) (d : Nat) : Tr b (d + 1) ⟨0,[],.nils,.nils⟩ := ⟨by simp,.inl rfl,[],[],.inl ⟨rfl,rfl⟩,.inl ⟨rfl,rfl⟩,by simp,by simp,by simp,by simp,by simp,by simp⟩
theorem Tr.text (b : List Res) (d : Nat) (s : Bytes) (hs : s.length ≤ 20000) : Tr b (d + 1) ⟨5,s,.nils,.nils⟩ := ⟨hs,.inr (.inl rfl),[],[],.inl ⟨rfl,rfl⟩,.inl ⟨rfl,rfl⟩,by simp,by simp,by simp,by simp,by simp,by simp⟩
theorem Tr.within {b : List Res} : ∀ {d : Nat} {v : Tv},Tr b d v → Vc.within b.length (.agg (tv v)) = true
  | 0,_,h => h.elim
  | _ + 1,_,⟨_,_,_,_,h3,h4,_⟩ => by simp [Vc.within,Vc.within.withinL,tv,h3.within,h4.within]
theorem tv_at (L : List Tv) (k : Nat) (h : k < L.length) : ((L.flatMap tv).drop (k * 4)).take 4 = tv L[k] := rows_at tv 4 (fun _ => rfl) L k h
theorem tv_len (L : List Tv) : (L.flatMap tv).length = L.length * 4 := rows_len tv 4 (fun _ => rfl) L
end Go.Proofs.YtejfjmcjicpodaaGreatDoor
/- What comes back,by new names: of the new things only some are kept,to be read only. -/
set_option linter.all false
namespace Vc
open Go Go.RowKit Wf
mutual
def ren (ρ : Nat → Nat) : SV → SV
  | .p i off => .p (ρ i) off
  | .o i n => .o (ρ i) n
  | .f i n => .f (ρ i) n
  | .agg l => .agg (renL ρ l)
  | .tup l => .tup (renL ρ l)
  | .fn f l => .fn f (renL ρ l)
  | .mv f l => .mv f (renL ρ l)
  | .ifc t x => .ifc t (ren ρ x)
  | .bool b => .bool b
  | .int k n => .int k n
  | .str l => .str l
  | .nils => .nils
  | .v x => .v x
def renL (ρ : Nat → Nat) : List SV → List SV
  | [] => []
  | x :: r => ren ρ x :: renL ρ r
end
mutual
theorem conc_ren (ρ : Nat → Nat) (β : Nat → Bt) (x : SV) : conc β (ren ρ x) = conc (fun i => β (ρ i)) x := by
  cases x <;> simp only [ren,conc]
  · rw [concL_ren ρ β _]
  · rw [concL_ren ρ β _]
  · rw [concL_ren ρ β _]
  · rw [concL_ren ρ β _]
  · rw [conc_ren ρ β _]
theorem concL_ren (ρ : Nat → Nat) (β : Nat → Bt) (l : List SV) : concL β (renL ρ l) = concL (fun i => β (ρ i)) l := by
  cases l with
  | nil => rfl
  | cons x r =>
    simp only [renL,concL]
    rw [conc_ren ρ β x,concL_ren ρ β r]
end
mutual
theorem ren_within {ρ : Nat → Nat} {m : Nat} (hρ : ∀ k,k < m → ρ k = k) (x : SV) (h : within m x = true) : ren ρ x = x := by
  cases x <;> simp only [within,decide_eq_true_eq] at h <;> simp only [ren]
  · rw [hρ _ h]
  · rw [hρ _ h]
  · rw [hρ _ h]
  · rw [renL_within hρ _ h]
  · rw [renL_within hρ _ h]
  · rw [renL_within hρ _ h]
  · rw [renL_within hρ _ h]
  · rw [ren_within hρ _ h]
theorem renL_within {ρ : Nat → Nat} {m : Nat} (hρ : ∀ k,k < m → ρ k = k) (l : List SV) (h : within.withinL m l = true) : renL ρ l = l := by
  cases l with
  | nil => rfl
  | cons x r =>
    simp only [within.withinL,Bool.and_eq_true] at h
    simp only [renL]
    rw [ren_within hρ x h.1,renL_within hρ r h.2]
end
theorem renL_map (ρ : Nat → Nat) (l : List SV) : renL ρ l = l.map (ren ρ) := by
  induction l with
  | nil => rfl
  | cons x r ih => rw [renL,ih]; rfl
variable {V : Cx} {f : FuncId} {args : List SV} {bs : List Res} {R : SV → List Res → Prop}
def Kept (bs b : List Res) (ρ : Nat → Nat) (m i : Nat) (X : Res) : Prop := X = .gone ∨ ∃ (c : List SV) (e s n : Nat) (mm : Bool),X = .own c e s n false ∧ bs.length ≤ ρ i ∧ b[ρ i]? = some (.own (renL ρ c) e s n mm) ∧ within.withinL m c = true
theorem SC.pick (h : SC V f args bs (fun r b => ∃ (ρ : Nat → Nat) (Xs : List Res) (r2 : SV),Kp bs b ∧ (∀ k,k < bs.length → ρ k = k) ∧ (∀ q X,Xs[q]? = some X → Kept bs b ρ (bs.length + Xs.length) (bs.length + q) X) ∧ r = ren ρ r2 ∧ within (bs.length + Xs.length) r2 = true ∧ R r2 (bs ++ Xs))) : SC V f args bs R := by
  refine ⟨h.1,fun β fp w hbx hG hE => (h.2 β fp w hbx hG hE).mono ?_⟩
  rintro ex w' ⟨r,bs',β₂,fp₂,⟨ρ,Xs,r2,⟨hlen,hkp⟩,hρ,hX,rfl,hw,hR⟩,hag,-,hall,hfr,hmine,hfoot⟩
  have old : ∀ {i r},bs[i]? = some r → bs'[i]? = some r := fun {i r} hi => (hkp i (List.getElem?_eq_some_iff.1 hi).1).trans hi
  obtain ⟨he,hb2⟩ := hall β₂ (fun _ _ => rfl)
  have low : ∀ {i X},(bs ++ Xs)[i]? = some X → (i < bs.length ∧ bs[i]? = some X) ∨ (bs.length ≤ i ∧ (X = .gone ∨ ∃ (c : List SV) (e s n : Nat) (mm : Bool),X = .own c e s n false ∧ bs.length ≤ ρ i ∧ bs'[ρ i]? = some (.own (renL ρ c) e s n mm) ∧ within.withinL (bs.length + Xs.length) c = true)) := fun {i X} hi => by
    rcases Nat.lt_or_ge i bs.length with h1 | h1
    · rw [List.getElem?_append_left h1] at hi
      exact .inl ⟨h1,hi⟩
    · rw [List.getElem?_append_right h1] at hi
      have := hX _ _ hi
      rw [show bs.length + (i - bs.length) = i by omega] at this
      exact .inr ⟨h1,this⟩
  have ng : ∀ {i X},(bs ++ Xs)[i]? = some X → X ≠ .gone → bs'[ρ i]? ≠ none ∧ (i < bs.length ∧ ρ i = i ∨ bs.length ≤ i ∧ bs.length ≤ ρ i) := fun {i X} hi hg => by
    rcases low hi with ⟨h1,h2⟩ | ⟨h1,h2 | ⟨c,e,s,n,mm,-,h3,h4,-⟩⟩
    · rw [hρ i h1,old h2]
      exact ⟨by simp,.inl ⟨h1,rfl⟩⟩
    · exact absurd h2 hg
    · rw [h4]
      exact ⟨by simp,.inr ⟨h1,h3⟩⟩
  refine ⟨r2,bs ++ Xs,fun i => β₂ (ρ i),fun i k => (bs ++ Xs)[i]? ≠ some .gone ∧ fp₂ (ρ i) k,hR,fun i hi => ?_,by simp,fun β' hβ => ?_,hfr,fun i X hi hm k hk => ?_,fun i X hi k hk => ?_⟩
  · show β i = β₂ (ρ i)
    rw [hρ i hi]
    exact hag i hi
  · rw [List.length_append] at hβ
    have e1 : ∀ c,within.withinL (bs.length + Xs.length) c = true → (renL ρ c).map (conc β₂) = c.map (conc β') := fun c hc => by
      rw [← concL_map,← concL_map,concL_ren]
      exact concL_within _ c hc _ _ hβ
    have hB : Agr bs.length β₂ β' := fun i hi => by
      have : β₂ (ρ i) = β' i := hβ i (by omega)
      rw [← this,hρ i hi]
    refine ⟨by rw [he,conc_ren]; rw [conc_within _ r2 hw _ _ hβ],⟨fun i X hi => ?_,fun i X hi k hk => ?_,fun i j X Y hi hj hij hm k hk hk2 => ?_⟩⟩
    · rcases low hi with ⟨h1,h2⟩ | ⟨h1,rfl | ⟨c,e,s,n,mm,rfl,h3,h4,h5⟩⟩
      · have g1 := (hbx β₂ hag).holds i X h2
        have g2 := (hbx β' (fun i hi => (hag i hi).trans (hB i hi))).holds i X h2
        have e : β₂ i = β' i := hB i h1
        have g3 := hb2.holds i X (old h2)
        rw [e] at g1 g3
        have g4 := res_agr g1 g2 g3
        by_cases hg : X = .gone
        · subst hg
          intro k hk
          exact hk.1 hi
        · have : (fun k => (bs ++ Xs)[i]? ≠ some .gone ∧ fp₂ (ρ i) k) = fp₂ i := by
            funext k
            rw [hρ i h1,hi]
            simp [hg]
          rw [this]
          exact g4
      · intro k hk
        exact hk.1 hi
      · have g3 := hb2.holds _ _ h4
        have hi2 : i < bs.length + Xs.length := by
          have := (List.getElem?_eq_some_iff.1 hi).1
          simpa using this
        have e : β₂ (ρ i) = β' i := hβ i hi2
        rw [e] at g3
        have : (fun k => (bs ++ Xs)[i]? ≠ some .gone ∧ fp₂ (ρ i) k) = fp₂ (ρ i) := by
          funext k
          rw [hi]
          simp
        rw [this]
        rcases g3 with ⟨k1,k2,k3,k4⟩ | ⟨k1,k2,k3,k4,k5,-,k7⟩
        · refine .inl ⟨k1,k2,?_,k4.1,fun e => by cases e⟩
          cases c with
          | nil => rfl
          | cons x r => simp [renL] at k3
        · refine .inr ⟨k1,k2,k3,?_,?_,(by simp),k7⟩
          · rw [renL_map,List.length_map] at k4
            exact k4
          · rw [e1 c h5] at k5
            exact k5
    · obtain ⟨X',hX'⟩ : ∃ X',bs'[ρ i]? = some X' := by
        have := (ng hi (fun e => hk.1 (e ▸ hi))).1
        cases hh : bs'[ρ i]? with
        | none => exact absurd hh this
        | some x => exact ⟨x,rfl⟩
      exact hb2.lt _ _ hX' k hk.2
    · have hgi : X ≠ .gone := fun e => hk.1 (e ▸ hi)
      have hgj : Y ≠ .gone := fun e => hk2.1 (e ▸ hj)
      rcases low hi with ⟨h1,h2⟩ | ⟨h1,rfl | ⟨c,e,s,n,mm,rfl,h3,h4,h5⟩⟩
      · rcases low hj with ⟨l1,l2⟩ | ⟨l1,rfl | ⟨c',e',s',n',mm',rfl,l3,l4,l5⟩⟩
        · have a1 := hk.2
          have a2 := hk2.2
          rw [hρ i h1] at a1
          rw [hρ j l1] at a2
          exact hb2.sep i j X Y (old h2) (old l2) hij hm k a1 a2
        · exact hgj rfl
        · have a1 := hk.2
          rw [hρ i h1] at a1
          have hm1 : X.mine = true := hm.resolve_right (by simp [Res.mine])
          exact hb2.sep i (ρ j) X _ (old h2) l4 (by omega) (.inl hm1) k a1 hk2.2
      · exact hgi rfl
      · rcases low hj with ⟨l1,l2⟩ | ⟨l1,rfl | ⟨c',e',s',n',mm',rfl,l3,l4,l5⟩⟩
        · have a2 := hk2.2
          rw [hρ j l1] at a2
          have hm1 : Y.mine = true := hm.resolve_left (by simp [Res.mine])
          exact hb2.sep (ρ i) j _ Y h4 (old l2) (by omega) (.inr hm1) k hk.2 a2
        · exact hgj rfl
        · rcases hm with hm | hm <;> simp [Res.mine] at hm
  · rcases low hi with ⟨h1,h2⟩ | ⟨h1,rfl | ⟨c,e,s,n,mm,rfl,h3,h4,h5⟩⟩
    · have a1 := hk.2
      rw [hρ i h1] at a1
      exact hmine i X (old h2) hm k a1
    · simp [Res.mine] at hm
    · simp [Res.mine] at hm
  · rcases low hi with ⟨h1,h2⟩ | ⟨h1,rfl | ⟨c,e,s,n,mm,rfl,h3,h4,h5⟩⟩
    · have a1 := hk.2
      rw [hρ i h1] at a1
      exact hfoot i X (old h2) k a1
    · exact absurd hi hk.1
    · exact hfoot _ _ h4 k hk.2
def dull : Res → Res
  | .own c e s n _ => .own c e s n false
  | r => r
def dimB (lo : Nat) (b : List Res) : List Res := b.take lo ++ (b.drop lo).map dull
theorem dimB_len (lo : Nat) (b : List Res) : (dimB lo b).length = b.length := by
  simp [dimB]; omega
theorem dimB_old {lo : Nat} {b : List Res} {k : Nat} (h : k < lo) (hl : lo ≤ b.length) : (dimB lo b)[k]? = b[k]? := by
  unfold dimB
  rw [List.getElem?_append_left (by simp; omega),List.getElem?_take]
  simp [h]
theorem dimB_at {lo : Nat} {b : List Res} {k : Nat} (h : lo ≤ k) {r : Res} (hr : b[k]? = some r) : (dimB lo b)[k]? = some (dull r) := by
  have hk := (List.getElem?_eq_some_iff.1 hr).1
  unfold dimB
  rw [List.getElem?_append_right (by simp; omega),List.getElem?_map,List.getElem?_drop,List.length_take,Nat.min_eq_left (by omega),show lo + (k - lo) = k by omega,hr]
  rfl
theorem dimB_dim {lo : Nat} {b : List Res} (hl : lo ≤ b.length) : Dim b (dimB lo b) := ⟨dimB_len lo b,fun i r hi => by
  have hil := (List.getElem?_eq_some_iff.1 hi).1
  rw [dimB_len] at hil
  have hb := List.getElem?_eq_getElem hil
  rcases Nat.lt_or_ge i lo with h | h
  · rw [dimB_old h hl] at hi
    exact .inl hi
  · rw [dimB_at h hb] at hi
    rw [hb]
    have hi := (Option.some.inj hi).symm
    cases hx : b[i] with
    | own c e s n m => rw [hx] at hi; exact .inr ⟨c,e,s,n,m,rfl,hi⟩
    | cells c T m => rw [hx] at hi; exact .inl (by rw [hi]; rfl)
    | ext R => rw [hx] at hi; exact .inl (by rw [hi]; rfl)
    | gone => rw [hx] at hi; exact .inl (by rw [hi]; rfl)⟩
theorem Kp.dimB {bs b : List Res} (h : Kp bs b) : Kp bs (dimB bs.length b) := ⟨by rw [dimB_len]; exact h.1,fun k hk => by rw [dimB_old hk h.1]; exact h.2 k hk⟩
theorem SC.dimAll (h : SC V f args bs (fun r b => bs.length ≤ b.length ∧ R r (dimB bs.length b))) : SC V f args bs R :=
  SC.dim (h.mono fun r b ⟨h1,h2⟩ => ⟨_,dimB_dim h1,h2⟩)
theorem app_at (b l : List Res) (k : Nat) : (b ++ l)[b.length + k]? = l[k]? := by
  rw [List.getElem?_append_right (by omega),Nat.add_sub_cancel_left]
theorem app_at0 (b l : List Res) : (b ++ l)[b.length]? = l[0]? := app_at b l 0
theorem app_set (b l : List Res) (k : Nat) (X : Res) : (b ++ l).set (b.length + k) X = b ++ l.set k X := by
  rw [List.set_append_right _ _ (by omega),Nat.add_sub_cancel_left]
theorem app_set0 (b l : List Res) (X : Res) : (b ++ l).set b.length X = b ++ l.set 0 X := app_set b l 0 X
def lawA := And.intro (And.intro (@app_at) (And.intro (@app_at0) (@app_set))) (And.intro (And.intro (@app_set0) (@List.append_assoc.{0})) (And.intro (And.intro (@List.cons_append.{0}) (@List.nil_append.{0})) (And.intro (And.intro (@List.length_append.{0}) (@List.length_cons.{0})) (And.intro (And.intro (@List.length_nil.{0}) (@Nat.zero_add)) (And.intro (And.intro (@List.set_cons_succ.{0}) (@List.set_cons_zero.{0})) (@Nat.add_assoc))))))
theorem app_atL {l1 : List Res} {n : Nat} (hn : l1.length = n) (l : List Res) (k : Nat) : (l1 ++ l)[n + k]? = l[k]? := by
  subst hn; exact app_at _ _ _
theorem app_setL {l1 : List Res} {i : Nat} (hi : i < l1.length) (l : List Res) (X : Res) : (l1 ++ l).set i X = l1.set i X ++ l := List.set_append_left _ _ hi
theorem get_setS {l1 : List Res} {i : Nat} (hi : i < l1.length) (X : Res) (l : List Res) : (l1.set i X ++ l)[i]? = some X := by
  rw [List.getElem?_append_left (by simpa using hi),List.getElem?_set_self hi]
theorem get_setN {l1 : List Res} {i j : Nat} {r : Res} (h : l1[j]? = some r) (hn : i ≠ j) (X : Res) : (l1.set i X)[j]? = some r := by
  rw [List.getElem?_set_ne hn]; exact h
theorem regV_mkG {V : Cx} {E : Fin} {n f : Nat} {ops : Array Oper} {k : List Item} {σ : St} {t : OT} (J : St → Prop) (hok : OT.okT ops [] t = true) (h : ∀ (E' : Fin) (k' : List Item),vcS V n ⟨E'.rs,E'.K,E'.how,false⟩ f (.aops ops [] t :: .cut J :: k') σ) (h2 : ∀ σ',J σ' → vcS V n E f k σ') (hu : E.uni = false := by rfl) : regV V n E f ops k σ (.all t) := by
  obtain ⟨rs,K,how,u⟩ := E
  simp only at hu
  subst hu
  exact regV_mk J hok (h ⟨rs,K,how,false⟩ k) h2
end Vc
/- The walks of ref16: Text,with,With,some,Array,members. -/
set_option linter.all false
set_option maxRecDepth 20000
namespace Go.Proofs.YtejfjmcjicpodaaGreatDoor
open Go Vc Go.RowKit Wf
set_option linter.unusedSimpArgs false
def TvIn (m : Nat) (x : Tv) : Prop := Vc.within m x.xk = true ∧ Vc.within m x.xi = true ∧ one x.xk = true ∧ one x.xi = true
mutual
theorem within_up {m n : Nat} (h : m ≤ n) : ∀ {x : SV},Vc.within m x = true → Vc.within n x = true := fun {x} hx => by
  cases x <;> simp only [Vc.within,decide_eq_true_eq] at hx ⊢
  · omega
  · omega
  · omega
  · exact withinL_up h hx
  · exact withinL_up h hx
  · exact withinL_up h hx
  · exact withinL_up h hx
  · exact within_up h hx
theorem withinL_up {m n : Nat} (h : m ≤ n) : ∀ {l : List SV},within.withinL m l = true → within.withinL n l = true := fun {l} hx => by
  cases l with
  | nil => rfl
  | cons x r =>
    simp only [within.withinL,Bool.and_eq_true] at hx ⊢
    exact ⟨within_up h hx.1,withinL_up h hx.2⟩
end
theorem TvIn.w {m : Nat} {x : Tv} (hx : TvIn m x) : within.withinL m (tv x) = true := by
  simp [within,within.withinL,tv,hx.1,hx.2.1]
theorem withinL_app {m : Nat} : ∀ (a b : List SV),within.withinL m (a ++ b) = (within.withinL m a && within.withinL m b)
  | [],b => by simp [within.withinL]
  | x :: a,b => by simp [within.withinL,withinL_app a b,Bool.and_assoc]
theorem TvIn.all {m : Nat} {L : List Tv} (h : ∀ x ∈ L,TvIn m x) : within.withinL m (L.flatMap tv) = true := by
  induction L with
  | nil => rfl
  | cons x r ih =>
    rw [List.flatMap_cons,withinL_app,(h x (by simp)).w,ih (fun y hy => h y (by simp [hy]))]
    rfl
theorem Rs.one {b : List Res} {x : SV} {L : List Bytes} (h : Rs b x L) : Vc.one x = true := by
  rcases h with ⟨rfl,-⟩ | ⟨j,rfl,h2⟩ <;> rfl
theorem Ri.one {b : List Res} {x : SV} {L : List Tv} (h : Ri b x L) : Vc.one x = true := by
  rcases h with ⟨rfl,-⟩ | ⟨j,rfl,h2⟩ <;> rfl
theorem str_in (m : Nat) (L : List Bytes) : within.withinL m (L.map SV.str) = true := by
  induction L with
  | nil => rfl
  | cons x r ih => simp [within.withinL,within,ih]
def Ob (b : List Res) (d n : Nat) (v : Tv) : Prop := v.k = 7 ∧ v.t = [] ∧ ∃ (K : List Bytes) (L : List Tv),Rs b v.xk K ∧ Ri b v.xi L ∧ K.length = L.length ∧ K.length ≤ n ∧ (∀ s ∈ K,s.length ≤ 20000) ∧ ∀ x ∈ L,Tr b d x
theorem Ob.zero (b : List Res) (d n : Nat) : Ob b d n ⟨7,[],.nils,.nils⟩ := ⟨rfl,rfl,[],[],.inl ⟨rfl,rfl⟩,.inl ⟨rfl,rfl⟩,rfl,by simp,by simp,by simp⟩
theorem Ob.within {b : List Res} {d n : Nat} {v : Tv} : Ob b d n v → Vc.within b.length (.agg (tv v)) = true
  | ⟨_,_,_,_,h3,h4,_⟩ => by simp [Vc.within,Vc.within.withinL,tv,h3.within,h4.within]
end Go.Proofs.YtejfjmcjicpodaaGreatDoor
/- Trees of JSON values,exactly. -/
set_option linter.all false
set_option maxRecDepth 20000
namespace Go.Proofs.YtejfjmcjicpodaaGreatDoor
open Go Vc Go.RowKit Wf
set_option linter.unusedSimpArgs false
inductive Jv where
  | mk (k : Int) (t : Bytes) (K : List Bytes) (L : List Jv)
def Jv.k : Jv → Int
  | .mk k _ _ _ => k
def Jv.t : Jv → Bytes
  | .mk _ t _ _ => t
def Jv.K : Jv → List Bytes
  | .mk _ _ K _ => K
def Jv.L : Jv → List Jv
  | .mk _ _ _ L => L
def Jv.zero : Jv := .mk 0 [] [] []
def Jv.str (s : Bytes) : Jv := .mk 5 s [] []
mutual
def TJ (b : List Res) : Jv → Tv → Prop
  | .mk k t K L,v => v.k = k ∧ v.t = t ∧ t.length ≤ 140737488355328 ∧ Rs b v.xk K ∧ K.length ≤ 9223372036854775807 ∧ (∀ s ∈ K,s.length ≤ 140737488355328) ∧ L.length ≤ 9223372036854775807 ∧ ∃ Ls,Ri b v.xi Ls ∧ TJs b L Ls
def TJs (b : List Res) : List Jv → List Tv → Prop
  | [],Ls => Ls = []
  | j :: L,Ls => ∃ v r,Ls = v :: r ∧ TJ b j v ∧ TJs b L r
end
theorem TJ.un {b : List Res} : ∀ {j : Jv} {v : Tv},TJ b j v → v.k = j.k ∧ v.t = j.t ∧ j.t.length ≤ 140737488355328 ∧ Rs b v.xk j.K ∧ j.K.length ≤ 9223372036854775807 ∧ (∀ s ∈ j.K,s.length ≤ 140737488355328) ∧ j.L.length ≤ 9223372036854775807 ∧ ∃ Ls,Ri b v.xi Ls ∧ TJs b j.L Ls
  | .mk _ _ _ _,_,h => by rw [TJ] at h; exact h
theorem TJ.mk' {b : List Res} : ∀ {j : Jv} {v : Tv},v.k = j.k → v.t = j.t → j.t.length ≤ 140737488355328 → Rs b v.xk j.K → j.K.length ≤ 9223372036854775807 → (∀ s ∈ j.K,s.length ≤ 140737488355328) → j.L.length ≤ 9223372036854775807 → (∃ Ls,Ri b v.xi Ls ∧ TJs b j.L Ls) → TJ b j v
  | .mk _ _ _ _,_,h1,h2,h3,h4,h5,h6,h7,h8 => by rw [TJ]; exact ⟨h1,h2,h3,h4,h5,h6,h7,h8⟩
theorem TJs.len {b : List Res} : ∀ {L : List Jv} {Ls : List Tv},TJs b L Ls → Ls.length = L.length
  | [],_,h => by rw [TJs] at h; subst h; rfl
  | _ :: L,_,h => by
    rw [TJs] at h
    obtain ⟨v,r,rfl,-,h2⟩ := h
    simp [TJs.len h2]
theorem TJs.at {b : List Res} : ∀ {L : List Jv} {Ls : List Tv} (_ : TJs b L Ls) (k : Nat) (h : k < L.length) (h' : k < Ls.length),TJ b L[k] Ls[k]
  | [],_,_,_,h,_ => by simp at h
  | _ :: L,_,h,k,hk,hk' => by
    rw [TJs] at h
    obtain ⟨v,r,rfl,h1,h2⟩ := h
    cases k with
    | zero => exact h1
    | succ k => exact TJs.at h2 k (by simpa using hk) (by simpa using hk')
theorem TJs.of {b : List Res} : ∀ {L : List Jv} {Ls : List Tv},Ls.length = L.length → (∀ (k : Nat) (h : k < L.length) (h' : k < Ls.length),TJ b L[k] Ls[k]) → TJs b L Ls
  | [],Ls,h,_ => by rw [TJs]; exact List.length_eq_zero_iff.1 h
  | j :: L,[],h,_ => by simp at h
  | j :: L,v :: r,h,k => by
    rw [TJs]
    exact ⟨v,r,rfl,k 0 (by simp) (by simp),TJs.of (by simpa using h) fun q h1 h2 => k (q + 1) (by simpa using h1) (by simpa using h2)⟩
mutual
theorem TJ.ro {a b : List Res} (k : Ro a b) : ∀ {j : Jv} {v : Tv},TJ a j v → TJ b j v
  | .mk _ _ _ L,v,h => by
    rw [TJ] at h ⊢
    obtain ⟨h1,h2,h3,h4,h5,h6,h7,Ls,h8,h9⟩ := h
    exact ⟨h1,h2,h3,h4.ro k,h5,h6,h7,Ls,h8.ro k,TJs.ro k h9⟩
theorem TJs.ro {a b : List Res} (k : Ro a b) : ∀ {L : List Jv} {Ls : List Tv},TJs a L Ls → TJs b L Ls
  | [],_,h => by rw [TJs] at h ⊢; exact h
  | j :: L,_,h => by
    rw [TJs] at h ⊢
    obtain ⟨v,r,h1,h2,h3⟩ := h
    exact ⟨v,r,h1,TJ.ro k h2,TJs.ro k h3⟩
end
theorem TJ.tin {b : List Res} {j : Jv} {v : Tv} (h : TJ b j v) : TvIn b.length v := by
  obtain ⟨-,-,-,h3,-,-,-,Ls,h4,-⟩ := h.un
  exact ⟨h3.within,h4.within,h3.one,h4.one⟩
theorem TJs.tin {b : List Res} {L : List Jv} {Ls : List Tv} (h : TJs b L Ls) : ∀ v ∈ Ls,TvIn b.length v := fun v hv => by
  obtain ⟨k,hk,rfl⟩ := List.mem_iff_getElem.1 hv
  exact (h.at k (by rw [← h.len]; exact hk) hk).tin
theorem TJs.app {b : List Res} {L L2 : List Jv} {Ls Ls2 : List Tv} (h : TJs b L Ls) (h2 : TJs b L2 Ls2) : TJs b (L ++ L2) (Ls ++ Ls2) := by
  induction L generalizing Ls with
  | nil => rw [TJs] at h; subst h; exact h2
  | cons j L ih =>
    rw [TJs] at h
    obtain ⟨v,r,rfl,h3,h4⟩ := h
    rw [List.cons_append,TJs]
    exact ⟨v,r ++ Ls2,rfl,h3,ih h4⟩
theorem TJ.zero (b : List Res) : TJ b Jv.zero ⟨0,[],.nils,.nils⟩ := TJ.mk' rfl rfl (by simp [Jv.zero,Jv.t]) (.inl ⟨rfl,rfl⟩) (by simp [Jv.zero,Jv.K]) (by simp [Jv.zero,Jv.K]) (by simp [Jv.zero,Jv.L]) ⟨[],.inl ⟨rfl,rfl⟩,by rw [Jv.zero,Jv.L,TJs]⟩
theorem TJ.text (b : List Res) (s : Bytes) (hs : s.length ≤ 140737488355328) : TJ b (Jv.str s) ⟨5,s,.nils,.nils⟩ := TJ.mk' rfl rfl hs (.inl ⟨rfl,rfl⟩) (by simp [Jv.str,Jv.K]) (by simp [Jv.str,Jv.K]) (by simp [Jv.str,Jv.L]) ⟨[],.inl ⟨rfl,rfl⟩,by rw [Jv.str,Jv.L,TJs]⟩
def getK (key : Bytes) : List Bytes → List Jv → Option Jv
  | k :: K,x :: L => if k = key then some x else getK key K L
  | _,_ => none
def Jv.get (j : Jv) (key : Bytes) : Option Jv := if j.k = 7 then getK key j.K j.L else none
theorem getK_some {key : Bytes} : ∀ {K : List Bytes} {L : List Jv} {k : Nat} (h : k < K.length) (h' : k < L.length),(∀ (q : Nat) (hq : q < k),K[q]'(by omega) ≠ key) → K[k] = key → getK key K L = some L[k]
  | [],_,_,h,_,_,_ => by simp at h
  | _ :: _,[],_,_,h,_,_ => by simp at h
  | a :: K,x :: L,k,h,h',hn,e => by
    rw [getK]
    cases k with
    | zero => rw [if_pos (show a = key from e)]; rfl
    | succ k =>
      rw [if_neg (show ¬ a = key from hn 0 (Nat.succ_pos _))]
      exact getK_some (Nat.lt_of_succ_lt_succ h) (Nat.lt_of_succ_lt_succ h') (fun q hq e => hn (q + 1) (Nat.succ_lt_succ hq) e) e
theorem getK_none {key : Bytes} : ∀ {K : List Bytes} {L : List Jv},(∀ (q : Nat) (hq : q < K.length),q < L.length → K[q] ≠ key) → getK key K L = none
  | [],_,_ => by rw [getK]; intro _ _ _ _ h; cases h
  | _ :: _,[],_ => by rw [getK]; intro _ _ _ _ _ h; cases h
  | a :: K,x :: L,hn => by
    rw [getK,if_neg (show ¬ a = key from hn 0 (Nat.succ_pos _) (Nat.succ_pos _))]
    exact getK_none fun q h1 h2 e => hn (q + 1) (Nat.succ_lt_succ h1) (Nat.succ_lt_succ h2) e
end Go.Proofs.YtejfjmcjicpodaaGreatDoor
/- What comes back,by new names,where one box of the caller's was changed. -/
set_option linter.all false
namespace Vc
open Go Go.RowKit Wf
def KpP (p : Nat) (c : List SV) (T : TypeId) (m : Bool) (bs b : List Res) : Prop := bs.length ≤ b.length ∧ (∀ k,k < bs.length → k ≠ p → b[k]? = bs[k]?) ∧ b[p]? = some (.cells c T m)
theorem KpP.app {p : Nat} {c : List SV} {T : TypeId} {m : Bool} {bs b : List Res} (h : KpP p c T m bs b) (X : List Res) : KpP p c T m bs (b ++ X) := ⟨by have := h.1; simp; omega,fun k hk hn => by rw [List.getElem?_append_left (Nat.lt_of_lt_of_le hk h.1)]; exact h.2.1 k hk hn,by
  rw [List.getElem?_append_left (List.getElem?_eq_some_iff.1 h.2.2).1]; exact h.2.2⟩
theorem KpP.of {p : Nat} {c : List SV} {T : TypeId} {m : Bool} {bs b : List Res} (hp : bs[p]? = some (.cells c T m)) (h : Kp bs b) : KpP p c T m bs b := ⟨h.1,fun k hk _ => h.2 k hk,h.at hp⟩
theorem KpP.set {p : Nat} {c : List SV} {T : TypeId} {m : Bool} {bs b : List Res} (h : KpP p c T m bs b) (c' : List SV) (T' : TypeId) (m' : Bool) : KpP p c' T' m' bs (b.set p (.cells c' T' m')) := ⟨by simpa using h.1,fun k hk hn => by rw [List.getElem?_set_ne (fun e => hn e.symm)]; exact h.2.1 k hk hn,List.getElem?_set_self (List.getElem?_eq_some_iff.1 h.2.2).1⟩
theorem KpP.setN {p : Nat} {c : List SV} {T : TypeId} {m : Bool} {bs b : List Res} (h : KpP p c T m bs b) {i : Nat} (hi : bs.length ≤ i) (hip : i ≠ p) (X : Res) : KpP p c T m bs (b.set i X) := ⟨by simpa using h.1,fun k hk hn => by rw [List.getElem?_set_ne (by omega)]; exact h.2.1 k hk hn,by rw [List.getElem?_set_ne hip]; exact h.2.2⟩
theorem KpP.trans {p : Nat} {c c' : List SV} {T T' : TypeId} {m m' : Bool} {bs b b' : List Res} (h : KpP p c T m bs b) (k : KpP p c' T' m' b b') : KpP p c' T' m' bs b' := ⟨Nat.le_trans h.1 k.1,fun q hq hn => (k.2.1 q (Nat.lt_of_lt_of_le hq h.1) hn).trans (h.2.1 q hq hn),k.2.2⟩
theorem KpP.at {p : Nat} {c : List SV} {T : TypeId} {m : Bool} {bs b : List Res} (h : KpP p c T m bs b) {k : Nat} {r : Res} (hk : bs[k]? = some r) (hn : k ≠ p) : b[k]? = some r := (h.2.1 k (List.getElem?_eq_some_iff.1 hk).1 hn).trans hk
theorem KpP.dimB {p : Nat} {c : List SV} {T : TypeId} {m : Bool} {bs b : List Res} (h : KpP p c T m bs b) (hp : p < bs.length) : KpP p c T m bs (dimB bs.length b) := ⟨by rw [dimB_len]; exact h.1,fun k hk hn => by rw [dimB_old hk h.1]; exact h.2.1 k hk hn,by rw [dimB_old hp h.1]; exact h.2.2⟩
mutual
theorem flat_in (m : Nat) (x : SV) (h : flat x = true) : within m x = true := by
  cases x <;> simp only [flat,Bool.false_eq_true] at h <;> simp only [within]
  · exact flatL_in m _ h
  · exact flatL_in m _ h
  · exact flatL_in m _ h
  · exact flatL_in m _ h
  · exact flat_in m _ h
theorem flatL_in (m : Nat) (l : List SV) (h : flat.flatL l = true) : within.withinL m l = true := by
  cases l with
  | nil => rfl
  | cons x r =>
    simp only [flat.flatL,Bool.and_eq_true] at h
    simp only [within.withinL]
    rw [flat_in m x h.1,flatL_in m r h.2]
    rfl
end
variable {V : Cx} {f : FuncId} {args : List SV} {bs : List Res} {R : SV → List Res → Prop}
theorem SC.pickP {p : Nat} {c : List SV} {T : TypeId} {mb : Bool} (hp : p < bs.length) (hfc : flat.flatL c = true) (h : SC V f args bs (fun r b => ∃ (ρ : Nat → Nat) (Xs : List Res) (r2 : SV),KpP p c T mb bs b ∧ (∀ k,k < bs.length → ρ k = k) ∧ (∀ q X,Xs[q]? = some X → Kept bs b ρ (bs.length + Xs.length) (bs.length + q) X) ∧ r = ren ρ r2 ∧ within (bs.length + Xs.length) r2 = true ∧ R r2 (bs.set p (.cells c T mb) ++ Xs))) : SC V f args bs R := by
  refine ⟨h.1,fun β fp w hbx hG hE => (h.2 β fp w hbx hG hE).mono ?_⟩
  rintro ex w' ⟨r,bs',β₂,fp₂,⟨ρ,Xs,r2,⟨hlen,hkp,hpp⟩,hρ,hX,rfl,hw,hR⟩,hag,-,hall,hfr,hmine,hfoot⟩
  obtain ⟨he,hb2⟩ := hall β₂ (fun _ _ => rfl)
  have hln : (bs.set p (.cells c T mb)).length = bs.length := List.length_set
  have old : ∀ {i r},i < bs.length → (bs.set p (.cells c T mb))[i]? = some r → bs'[i]? = some r := fun {i r} hl hi => by
    by_cases e : i = p
    · subst e
      rw [List.getElem?_set_self hp] at hi
      rw [hpp]; exact hi
    · rw [List.getElem?_set_ne (fun q => e q.symm)] at hi
      exact (hkp i hl e).trans hi
  have low : ∀ {i X},(bs.set p (.cells c T mb) ++ Xs)[i]? = some X → (i < bs.length ∧ (bs.set p (.cells c T mb))[i]? = some X) ∨ (bs.length ≤ i ∧ (X = .gone ∨ ∃ (c : List SV) (e s n : Nat) (mm : Bool),X = .own c e s n false ∧ bs.length ≤ ρ i ∧ bs'[ρ i]? = some (.own (renL ρ c) e s n mm) ∧ within.withinL (bs.length + Xs.length) c = true)) := fun {i X} hi => by
    rcases Nat.lt_or_ge i bs.length with h1 | h1
    · rw [List.getElem?_append_left (by omega)] at hi
      exact .inl ⟨h1,hi⟩
    · rw [List.getElem?_append_right (by omega),hln] at hi
      have := hX _ _ hi
      rw [show bs.length + (i - bs.length) = i by omega] at this
      exact .inr ⟨h1,this⟩
  have ng : ∀ {i X},(bs.set p (.cells c T mb) ++ Xs)[i]? = some X → X ≠ .gone → bs'[ρ i]? ≠ none := fun {i X} hi hg => by
    rcases low hi with ⟨h1,h2⟩ | ⟨h1,h2 | ⟨c,e,s,n,mm,-,h3,h4,-⟩⟩
    · rw [hρ i h1,old h1 h2]
      simp
    · exact absurd h2 hg
    · rw [h4]
      simp
  refine ⟨r2,bs.set p (.cells c T mb) ++ Xs,fun i => β₂ (ρ i),fun i k => (bs.set p (.cells c T mb) ++ Xs)[i]? ≠ some .gone ∧ fp₂ (ρ i) k,hR,fun i hi => ?_,by simp,fun β' hβ => ?_,hfr,fun i X hi hm k hk => ?_,fun i X hi k hk => ?_⟩
  · show β i = β₂ (ρ i)
    rw [hρ i hi]
    exact hag i hi
  · rw [List.length_append,hln] at hβ
    have e1 : ∀ c,within.withinL (bs.length + Xs.length) c = true → (renL ρ c).map (conc β₂) = c.map (conc β') := fun c hc => by
      rw [← concL_map,← concL_map,concL_ren]
      exact concL_within _ c hc _ _ hβ
    have hB : Agr bs.length β₂ β' := fun i hi => by
      have : β₂ (ρ i) = β' i := hβ i (by omega)
      rw [← this,hρ i hi]
    refine ⟨by rw [he,conc_ren]; rw [conc_within _ r2 hw _ _ hβ],⟨fun i X hi => ?_,fun i X hi k hk => ?_,fun i j X Y hi hj hij hm k hk hk2 => ?_⟩⟩
    · rcases low hi with ⟨h1,h2⟩ | ⟨h1,rfl | ⟨c1,e,s,n,mm,rfl,h3,h4,h5⟩⟩
      · have e : β₂ i = β' i := hB i h1
        have g3 := hb2.holds i X (old h1 h2)
        by_cases hip : i = p
        · subst hip
          rw [List.getElem?_set_self hp] at h2
          cases h2
          have : (fun k => (bs.set i (.cells c T mb) ++ Xs)[i]? ≠ some .gone ∧ fp₂ (ρ i) k) = fp₂ i := by
            funext k
            rw [hρ i h1,hi]
            simp
          rw [this]
          have ec : c.map (conc β₂) = c.map (conc β') := by rw [← concL_map,← concL_map]; exact concL_flat c hfc β₂ β'
          rw [e] at g3
          simp only [Holds] at g3 ⊢
          rw [ec] at g3
          exact g3
        · rw [List.getElem?_set_ne (fun q => hip q.symm)] at h2
          have g1 := (hbx β₂ hag).holds i X h2
          have g2 := (hbx β' (fun i hi => (hag i hi).trans (hB i hi))).holds i X h2
          rw [e] at g1 g3
          have g4 := res_agr g1 g2 g3
          by_cases hg : X = .gone
          · subst hg
            intro k hk
            exact hk.1 hi
          · have : (fun k => (bs.set p (.cells c T mb) ++ Xs)[i]? ≠ some .gone ∧ fp₂ (ρ i) k) = fp₂ i := by
              funext k
              rw [hρ i h1,hi]
              simp [hg]
            rw [this]
            exact g4
      · intro k hk
        exact hk.1 hi
      · have g3 := hb2.holds _ _ h4
        have hi2 : i < bs.length + Xs.length := by
          have := (List.getElem?_eq_some_iff.1 hi).1
          simpa using this
        have e : β₂ (ρ i) = β' i := hβ i hi2
        rw [e] at g3
        have : (fun k => (bs.set p (.cells c T mb) ++ Xs)[i]? ≠ some .gone ∧ fp₂ (ρ i) k) = fp₂ (ρ i) := by
          funext k
          rw [hi]
          simp
        rw [this]
        rcases g3 with ⟨k1,k2,k3,k4⟩ | ⟨k1,k2,k3,k4,k5,-,k7⟩
        · refine .inl ⟨k1,k2,?_,k4.1,fun e => by cases e⟩
          cases c1 with
          | nil => rfl
          | cons x r => simp [renL] at k3
        · refine .inr ⟨k1,k2,k3,?_,?_,(by simp),k7⟩
          · rw [renL_map,List.length_map] at k4
            exact k4
          · rw [e1 c1 h5] at k5
            exact k5
    · obtain ⟨X',hX'⟩ : ∃ X',bs'[ρ i]? = some X' := by
        have := ng hi (fun e => hk.1 (e ▸ hi))
        cases hh : bs'[ρ i]? with
        | none => exact absurd hh this
        | some x => exact ⟨x,rfl⟩
      exact hb2.lt _ _ hX' k hk.2
    · have hgi : X ≠ .gone := fun e => hk.1 (e ▸ hi)
      have hgj : Y ≠ .gone := fun e => hk2.1 (e ▸ hj)
      rcases low hi with ⟨h1,h2⟩ | ⟨h1,rfl | ⟨c,e,s,n,mm,rfl,h3,h4,h5⟩⟩
      · rcases low hj with ⟨l1,l2⟩ | ⟨l1,rfl | ⟨c',e',s',n',mm',rfl,l3,l4,l5⟩⟩
        · have a1 := hk.2
          have a2 := hk2.2
          rw [hρ i h1] at a1
          rw [hρ j l1] at a2
          exact hb2.sep i j X Y (old h1 h2) (old l1 l2) hij hm k a1 a2
        · exact hgj rfl
        · have a1 := hk.2
          rw [hρ i h1] at a1
          have hm1 : X.mine = true := hm.resolve_right (by simp [Res.mine])
          exact hb2.sep i (ρ j) X _ (old h1 h2) l4 (by omega) (.inl hm1) k a1 hk2.2
      · exact hgi rfl
      · rcases low hj with ⟨l1,l2⟩ | ⟨l1,rfl | ⟨c',e',s',n',mm',rfl,l3,l4,l5⟩⟩
        · have a2 := hk2.2
          rw [hρ j l1] at a2
          have hm1 : Y.mine = true := hm.resolve_left (by simp [Res.mine])
          exact hb2.sep (ρ i) j _ Y h4 (old l1 l2) (by omega) (.inr hm1) k hk.2 a2
        · exact hgj rfl
        · rcases hm with hm | hm <;> simp [Res.mine] at hm
  · rcases low hi with ⟨h1,h2⟩ | ⟨h1,rfl | ⟨c,e,s,n,mm,rfl,h3,h4,h5⟩⟩
    · have a1 := hk.2
      rw [hρ i h1] at a1
      exact hmine i X (old h1 h2) hm k a1
    · simp [Res.mine] at hm
    · simp [Res.mine] at hm
  · rcases low hi with ⟨h1,h2⟩ | ⟨h1,rfl | ⟨c,e,s,n,mm,rfl,h3,h4,h5⟩⟩
    · have a1 := hk.2
      rw [hρ i h1] at a1
      exact hfoot i X (old h1 h2) k a1
    · exact absurd hi hk.1
    · exact hfoot _ _ h4 k hk.2
end Vc
