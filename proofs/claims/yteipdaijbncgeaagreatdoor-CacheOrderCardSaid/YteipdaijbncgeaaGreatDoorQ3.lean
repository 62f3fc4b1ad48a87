/- Texts of this claim, laid together: Perm, Vc7, Frame, Laid, ProgF, VcB, SlRows. -/
import Derived.Still
import Derived.Laws.RangeString
import Derived.Test.YteipdaijbncgeaaGreatDoorRows
import Derived.WalkKit
import Derived.ProofKit
import Derived.OpenShut
import Derived.Shelf.Vars
import Derived.ShutString
import Derived.WideKeyArgs
import Derived.ChangeSame
import Derived.Deep.DeepHandedRow
import Derived.Deep.DeepLaidRun
import Derived.Lib.LaidTab
import Derived.Lib.SmallJoins
import Derived.SizedLaws
import Derived.Test.YteipdaijbncgeaaGreatDoorCards
import Derived.Test.YteipdaijbncgeaaGreatDoorTie
import Derived.Deep.Slices
import Derived.Test.YteipdaijbncgeaaGreatDoorQ2
open And renaming intro → zJt
open List renaming getElem?_eq_some_iff → zJu, all_eq_true → zJy, getElem?_append_left → zJz, getElem?_set_ne → zJA, range → zJB, length_append → zJC, getD_eq_getElem?_getD → zJD, getElem?_append_right → zJE, getElem?_set_self → zJH, length_singleton → zJI, mem_range → zJK, toArray → zJN, any_eq_true → zJO, mem_cons_self → zJP, getElem?_eq_getElem → zJR, length_set → zJS, contains_iff_mem → zJX, mem_cons_of_mem → zJY, append_nil → zJ0, mem_append_left → zJ6, mem_map_of_mem → zJ7
open Bool renaming and_eq_true → zJv, or_eq_true → zJw
open Array renaming getElem?_eq_some_iff → zJx, mem_toList_iff → zJL, getElem?_eq_getElem → zJQ, replicate → zJZ, getElem?_eq_none → zJ1, getD_eq_getD_getElem? → zJ4, mem_append → zJ5
open Option renaming some → zJF, map_some → zJM, map_eq_some_iff → zJU, map_none → zJ8
open Nat renaming le_refl → zJG, lt_of_lt_of_le → zJJ, ne_of_lt → zJT, lt_or_ge → zJV, ne_of_gt → zJW, le_trans → zJ3
set_option linter.all false
set_option maxHeartbeats 16000000
set_option maxRecDepth 20000
namespace Vc
open Go
def oj:List Oper→Nat→List Oper
 | [],_=>[]
 | o::_,0=>[o]
 | _::r,k+1=>oj r k
def ir:List Nat→Nat→Nat
 | [],_=>0
 | x::r,j=>if x=j then 0 else ir r j+1
def permE (p:List Nat)(e:Edge):Edge:=⟨ir p e.on,e.ground⟩
def DH (p:List Nat):Option (Nat × Bool)→Option (Nat × Bool)
 | none=>none
 | some (g,b)=>some (ir p g,b)
def oy (p:List Nat):Oper→Oper
 | ⟨dst,op,ty,pos,after,guard⟩=>⟨dst,op,ty,pos,after.map (permE p),DH p guard⟩
def mV (ops:List Oper)(q:List Nat):List Nat→List Oper
 | []=>[]
 | x::r=>(oj ops x).map (oy q)++mV ops q r
def mW (ops:Array Oper):List Nat→Array Oper
 | []=>ops
 | x::r=>(mV ops.toList (x::r) (x::r)).toArray
def GS (ops:Array Oper)(p:List Nat):Bool:=p.length==ops.size&&p.all (fun i=>decide (i<ops.size))&&(zJB ops.size).all (fun k=>p.contains k&&(decide (p.getD k 0<ops.size)&&ir p (p.getD k 0)==k))
def DI (ops:Array Oper):List Nat→Prop
 | []=>True
 | x::r=>GS ops (x::r)=true
theorem sP (l:List Oper)(k:Nat):oj l k=l[k]?.toList:=by
 induction l generalizing k with
 | nil=>simp[oj]
 | cons o r ih=>cases k with
   | zero=>simp[oj]
   | succ k=>simp[oj,ih]
theorem q8 (ops:List Oper)(q:List Nat):∀ (p:List Nat),(∀ i∈p,i<ops.length)→(mV ops q p).length=p.length∧∀ k:Nat,(mV ops q p)[k]? = (p[k]?).bind fun i=>(ops[i]?).map (oy q)
 | [],_=>⟨rfl,fun k=>by simp[mV]⟩
 | x::r,h=>by
   obtain⟨h1,h2⟩:=q8 ops q r (fun i hi=>h i (zJY _ hi))
   have hx:x<ops.length:=h x (zJP ..)
   have e:oj ops x=[ops[x]]:=by rw[sP,zJR hx];rfl
   refine⟨by simp[mV,e,h1],fun k=>?_⟩
   cases k with
   | zero=>simp[mV,e,zJR hx]
   | succ k=>simp[mV,e,h2]
theorem jw:∀ (p:List Nat)(j:Nat),(j∈p→p[ir p j]? = some j)∧(j ∉ p→ir p j=p.length)
 | [],j=>by simp[ir]
 | x::r,j=>by
   obtain⟨h1,h2⟩:=jw r j
   by_cases h:x=j
   ·simp[ir,h]
   ·have h':¬ j=x:=fun e=>h e.symm
    simp only[ir,if_neg h,List.mem_cons,h',false_or,List.getElem?_cons_succ,List.length_cons]
    exact⟨h1,fun hn=>by rw[h2 hn]⟩
theorem wM (p:List Nat)(o:Oper):(oy p o).dst=o.dst:=by cases o;rfl
theorem GR {P:Program}{p:List Nat}{o:Oper}{a:Act}{w:World}{K:Act→World→Prop}{Q:Exit→Act→World→Prop}(h:(oy p o).wp P a w K Q):o.wp P a w K Q:=by cases o;exact h
theorem Ck {P:Program}{p:List Nat}{o:Oper}{a:Act}{w:World}(h:(oy p o).asks P a w):o.asks P a w:=by cases o;exact h
structure OrdP (p:List Nat) (n:Nat):Prop where
 len:p.length=n
 lt:∀ i∈p,i<n
 mem:∀ {i:Nat},i<n→i∈p
 onto:∀ k,k<n→∃ i,i<n∧ir p i=k
section
variable {ops:Array Oper} {p:List Nat} (hp:OrdP p ops.size)
def pT (ops:Array Oper)(p:List Nat):Array Oper:=(mV ops.toList p p).toArray
include hp
theorem ra:(pT ops p).size=ops.size:=by
 have:=(q8 ops.toList p p (fun i hi=>by simpa using hp.lt i hi)).1
 simp[pT,this,hp.len]
theorem tV {i:Nat}(hi:i<ops.size):(pT ops p)[ir p i]? = (ops[i]?).map (oy p):=by
 have h2:=(q8 ops.toList p p (fun i hi=>by simpa using hp.lt i hi)).2 (ir p i)
 have h3:=(jw p i).1 (hp.mem hi)
 simp only[pT,List.getElem?_toArray,h2,h3,Option.bind_some]
 simp
theorem CI {i:Nat}(hi:i<ops.size):ir p i<ops.size:=by
 have h3:=(jw p i).1 (hp.mem hi)
 have:=(zJu.1 h3).1
 rw[hp.len]at this
 exact this
theorem Hf {i:Nat}(hi:¬ i<ops.size):ir p i=ops.size:=by
 rw[(jw p i).2 (fun h=>hi (hp.lt i h)),hp.len]
theorem inv_inj {i k:Nat}(hi:i<ops.size)(hk:k<ops.size)(h:ir p i=ir p k):i=k:=by
 have h1:=(jw p i).1 (hp.mem hi)
 have h2:=(jw p k).1 (hp.mem hk)
 rw[h,h2]at h1
 exact((zJF.injEq _ _).mp h1).symm
theorem Gc (tmps:Array Value)(g:Nat):yielded (pT ops p) tmps (ir p g)=yielded ops tmps g:=by
 unfold yielded
 have:((pT ops p)[ir p g]?).bind (·.dst)=(ops[g]?).bind (·.dst):=by
  by_cases h:g<ops.size
  ·rw[tV hp h]
   rw[zJQ h]
   simp[wM]
  ·rw[Hf hp h,zJ1 (by rw[ra hp];exact zJG _),zJ1 (by omega)]
 rw[this]
theorem wanted' (tmps:Array Value)(o:Oper):Region.wanted (oy p o) (yielded (pT ops p) tmps)=Region.wanted o (yielded ops tmps):=by
 obtain⟨dst,op,ty,pos,after,guard⟩:=o
 cases guard with
 | none=>rfl
 | some g =>
   obtain⟨g,b⟩:=g
   simp only[oy,DH,Region.wanted,Gc hp]
def BL (ops:Array Oper)(p:List Nat)(L L':Array Bool):Prop:=L.size=ops.size∧L'.size=ops.size∧∀ i,i<ops.size→L'.getD (ir p i) false=L.getD i false
omit hp in
theorem Ee {L:Array Bool}{i:Nat}(h:i<L.size):L.getD i true=L.getD i false:=by simp[Array.getD,h]
theorem Cj {md:Region.Mode}{L L':Array Bool}(hs:BL ops p L L'){i:Nat}(hi:i<ops.size):ir p i∈Region.ready md (pT ops p) L'↔i∈Region.ready md ops L:=by
 obtain⟨s1,s2,s3⟩:=hs
 rw[mem_ready,mem_ready,Ee (by rw[s2];exact CI hp hi),Ee (by rw[s1];exact hi),s3 i hi,tV hp hi]
 have ho:ops[i]? = some ops[i]:=zJQ hi
 rw[ho]
 have A5:∀ n:Nat,L'.getD (ir p n) false=L.getD n false:=fun n=>by
  by_cases hn:n<ops.size
  ·exact s3 n hn
  ·rw[Hf hp hn]
   simp[Array.getD,s1,s2,hn]
 refine and_congr_right fun _=>?_
 generalize ops[i]=o
 obtain⟨dst,op,ty,pos,after,guard⟩:=o
 simp only[zJM,zJF.injEq,exists_eq_left',oy,Array.mem_map,forall_exists_index,and_imp,forall_apply_eq_imp_iff₂]
 refine forall_congr' fun e=>forall_congr' fun he=>?_
 simp only[permE,A5]
 rfl
theorem set' {L L':Array Bool}(hs:BL ops p L L'){i:Nat}(hi:i<ops.size):BL ops p (L.setIfInBounds i true) (L'.setIfInBounds (ir p i) true):=by
 obtain⟨s1,s2,s3⟩:=hs
 refine⟨by simpa using s1,by simpa using s2,fun k hk=>?_⟩
 by_cases h:i=k
 ·subst h
  have:=CI hp hk
  simp[Array.getD,s1,s2,hk,this]
 ·have h':ir p i≠ir p k:=fun e=>h (inv_inj hp hi hk e)
  rw[getD_set_ne false h,getD_set_ne false h']
  exact s3 k hk
theorem none' {md:Region.Mode}{L L':Array Bool}(hs:BL ops p L L'):Region.ready md ops L=[]→Region.ready md (pT ops p) L'=[]:=fun h=>by
 cases h':Region.ready md (pT ops p) L' with
 | nil=>rfl
 | cons k r =>
   have hk:k∈Region.ready md (pT ops p) L':=by rw[h'];exact zJP ..
   have aA:k<ops.size:=by
    obtain⟨o,ho,_⟩:=(mem_ready.1 hk).2
    have:=(zJx.1 ho).1
    rwa [ra hp]at this
   obtain⟨i,hi,e⟩:=hp.onto k aA
   rw[← e,Cj hp hs hi,h]at hk
   cases hk
theorem ze {P:Program}{Q:Exit→Act→World→Prop}{md:Region.Mode}:∀ (fuel:Nat)(L L':Array Bool)(a:Act)(w:World),BL ops p L L'→wpAny P md (pT ops p) Q fuel L' a w→wpAny P md ops Q fuel L a w:=by
 intro fuel
 induction fuel with
 | zero =>
   intro L L' a w hs h
   refine⟨?_,h.2⟩
   cases h':Region.ready md ops L with
   | nil=>rfl
   | cons i r =>
     have hi:i∈Region.ready md ops L:=by rw[h'];exact zJP ..
     have aA:i<ops.size:=by
      obtain⟨o,ho,_⟩:=(mem_ready.1 hi).2
      exact(zJx.1 ho).1
     rw[← Cj hp hs aA,h.1]at hi
     cases hi
 | succ fuel ih =>
   intro L L' a w hs h
   refine⟨fun h0=>h.1 (none' hp hs h0),fun i hi=>?_⟩
   have aA:i<ops.size:=by
    obtain⟨o,ho,_⟩:=(mem_ready.1 hi).2
    exact(zJx.1 ho).1
   have h1:=h.2 _ ((Cj hp hs aA).2 hi)
   have ho:ops[i]? = some ops[i]:=zJQ aA
   unfold wpOp at h1 ⊢
   rw[tV hp aA,ho]at h1
   rw[ho]
   simp only[zJM,wanted' hp,wM]at h1 ⊢
   have hK:∀ a w,wpAny P md (pT ops p) Q fuel (L'.setIfInBounds (ir p i) true) a w→wpAny P md ops Q fuel (L.setIfInBounds i true) a w:=fun a w=>ih _ _ a w (set' hp hs aA)
   split
   ·rename_i hw
    rw[if_pos hw]at h1
    exact h1.imp (fun h=>Oper.wp_mono hK (GR h)) (fun h=>⟨Ck h.1,h.2⟩)
   ·rename_i hw
    rw[if_neg hw]at h1
    exact hK _ _ h1
end
theorem BZ {P:Program}{Q:Exit→Act→World→Prop}{md:Region.Mode}{ops:Array Oper}{a:Act}{w:World}:∀ (p:List Nat),DI ops p→wpAny P md (mW ops p) Q (mW ops p).size (zJZ (mW ops p).size false) a w→wpAny P md ops Q ops.size (zJZ ops.size false) a w
 | [],_,h=>h
 | x::r,hb,h=>by
   simp only[DI,GS,zJv,beq_iff_eq,decide_eq_true_eq,zJy]at hb
   obtain⟨⟨h1,h2⟩,h3⟩:=hb
   have hp:OrdP (x::r) ops.size:=⟨h1,h2,fun {i} hi=>zJX.1 (h3 i (zJK.2 hi)).1,fun k hk=>⟨_,(h3 k (zJK.2 hk)).2⟩⟩
   have hs:=ra hp
   have e:mW ops (x::r)=pT ops (x::r):=rfl
   rw[e,hs]at h
   refine ze hp _ _ _ _ _ ⟨by simp,by simp,fun i hi=>?_⟩ h
   have:=CI hp hi
   simp[Array.getD,hi,this]
open Go Go.RowKit Wf
inductive fj where
 | go (c:Prop) (σ:St)
 | call (f:FuncId) (args:List SV) (dst:Option Tmp) (σ:St)
 | bad
def goR (dst:Option Tmp)(σ:St):Option (Prop × SV)→fj→fj
 | some (c,x),_=>.go c ⟨put dst x σ.t,σ.b⟩
 | none,m=>m
def XC (V:Cx)(dst:Option Tmp)(T:TypeId)(σ:St):fj:=match V.Γ T with
 | some ti=>.go True ⟨put dst (.p σ.b.length 0) σ.t,σ.b++[.cells ti.zero T true]⟩
 | none=>.bad
def sBox (dst:Option Tmp)(T:TypeId)(x:Operand)(σ:St):fj:=match ev σ.t x with
 | some x=>.go (He x=false) ⟨put dst (.p σ.b.length 0) σ.t,σ.b++[.cells (cells x) T true]⟩
 | none=>.bad
def XU (V:Cx)(dst:Option Tmp)(T:TypeId)(x:Operand)(σ:St):fj:=match ev σ.t x with
 | some (.p i off)=>match iy σ.b i with
   | some (c,_,_)=>match V.Γ T with
     | some ti=>match XM ti.agg off ti.size c with
       | some x=>.go (off+ti.size≤c.length) ⟨put dst x σ.t,σ.b⟩
       | none=>.bad
     | none=>.bad
   | none=>.bad
 | _=>.bad
def XH (V:Cx)(dst:Option Tmp)(T:TypeId)(x y:Operand)(σ:St):fj:=match ev σ.t x with
 | some (.p i off)=>match ev σ.t y with
   | some y=>match iy σ.b i with
     | some (c,_,m)=>match sz V.Γ T with
       | some s=>.go (m=true∧(cells y).all one=true∧(cells y).length=s∧off+s≤c.length) ⟨put dst (.v undef) σ.t,sn σ.b i (Xs c off (cells y))⟩
       | none=>.bad
     | none=>.bad
   | none=>.bad
 | _=>.bad
def Xr (V:Cx)(dst:Option Tmp)(T:TypeId)(ps:List (Nat × Operand))(σ:St):fj:=match V.Γ T with
 | some ti=>match ti.kind with
   | .struct fs=>match Xl σ.t ps with
     | some ps=>match XZ fs V.Γ ps ti.zero with
       | some c=>.go True ⟨put dst (.agg c) σ.t,σ.b⟩
       | none=>.bad
     | none=>.bad
   | _=>.bad
 | none=>.bad
def Xt:Fn→Bool
 | .func _=>true
 | _=>false
def sNil (dst:Option Tmp)(x:Operand)(σ:St):fj:=match ev σ.t x with
 | some (.p i off)=>.go True ⟨put dst (.p i off) σ.t,σ.b⟩
 | some (.fn f l)=>.go (Xt f=true) ⟨put dst (.fn f l) σ.t,σ.b⟩
 | some (.mv f l)=>.go True ⟨put dst (.mv f l) σ.t,σ.b⟩
 | _=>.bad
def XL (dst:Option Tmp)(f:Operand)(args:List Operand)(σ:St):fj:=match ev σ.t f with
 | some (.fn (.func f) caps)=>match xu σ.t args with
   | some l=>.call f (l++caps) dst σ
   | none=>.bad
 | some (.mv f first)=>match xu σ.t args with
   | some l=>.call f (first++l) dst σ
   | none=>.bad
 | _=>.bad
def xV (V:Cx)(dst:Option Tmp)(rc:Operand)(name:String)(args:List Operand)(σ:St):fj:=match ev σ.t rc with
 | some (.DT T x)=>match V.M T name with
   | some f=>match xu σ.t args with
     | some l=>.call f (x::l) dst σ
     | none=>.bad
   | none=>.bad
 | _=>.bad
def Hb (l:List UInt8)(p:Nat):Rsc where
 holds t fp w:=t.off=0∧w.heap[t.cB]? = some (.stringIter ⟨zJN l⟩ p)∧∀ k,fp k↔k=t.cB
 stays b fp w w':=by
  rintro⟨h0,h1,h2⟩ hk
  exact⟨h0,(hk _ ((h2 _).2 rfl)).trans h1,h2⟩
 it:=some (l,p)
 itOk l' p' b fp w h k:=by cases h;exact k
theorem G9 (l:List UInt8)(p:Nat):(Hb l p).it=some (l,p):=rfl
def itOf:Option ay→Option (List UInt8 × Nat)
 | some (.ext R)=>R.it
 | _=>none
def G0 (dst:Option Tmp)(σ:St)(i:Nat)(l:List UInt8)(p:Nat):Bool→fj
 | true=>.go ((l.getD p 0).toNat<128) ⟨put dst (.eN [.bool true,.int .i64 p,.int .i32 (l.getD p 0).toNat]) σ.t,σ.b.set i (.ext (Hb l (p+1)))⟩
 | false=>.go True ⟨put dst (.eN [.bool false]) σ.t,σ.b⟩
def Cf (V:Cx)(dst:Option Tmp)(T:TypeId)(x:Operand)(σ:St):fj:=match kd V.Γ T with
 | some .str=>match ev σ.t x with
   | some (.str l)=>.go True ⟨put dst (.p σ.b.length 0) σ.t,σ.b++[.ext (Hb l 0)]⟩
   | _=>.bad
 | _=>.bad
def GC (dst:Option Tmp)(x:Operand)(σ:St):fj:=match ev σ.t x with
 | some (.p i 0)=>match itOf σ.b[i]? with
   | some (l,p)=>G0 dst σ i l p (decide (p<l.length))
   | none=>.bad
 | _=>.bad
def CG:Op→Bool
 | .range _ _=>true
 | .next _ _=>true
 | _=>false
def Yd (V:Cx)(dst:Option Tmp):Op→St→fj
 | .alloc T,σ=>XC V dst T σ
 | .box T x,σ=>sBox dst T x σ
 | .load T x,σ=>XU V dst T x σ
 | .store T x y,σ=>XH V dst T x y σ
 | .build T ps,σ=>Xr V dst T ps.toList σ
 | .nilCheck x,σ=>sNil dst x σ
 | .call ⟨.value f,args,_⟩,σ=>XL dst f args.toList σ
 | .call ⟨.invoke rc name,args,_⟩,σ=>xV V dst rc name args.toList σ
 | .range T x,σ=>Cf V dst T x σ
 | .next x true,σ=>GC dst x σ
 | _,_=>.bad
def xJ (V:Cx)(dst:Option Tmp)(op:Op)(σ:St):fj:=goR dst σ (pv V.Γ σ.t op) (Yd V dst op σ)
def FX:Option (Prop × St)→fj→fj
 | some (c,σ),_=>.go c σ
 | none,m=>m
def XR (V:Cx)(dst:Option Tmp)(op:Op)(σ:St):fj:=goR dst σ (pv V.Γ σ.t op) (FX (Yl V dst op σ) (Yd V dst op σ))
def hN (V:Cx)(K:St→Prop):fj→Prop
 | .go c σ=>c∧K σ
 | .call f args dst σ=>(∃ r,PC V f args r∧K ⟨put dst r σ.t,σ.b⟩)∨(∃ R,SC V f args σ.b R∧∀ r bs,R r bs→K ⟨put dst r σ.t,bs⟩)
 | .bad=>False
theorem rF {V:Cx}{n:Nat}{dst:Option Tmp}{op:Op}{σ:St}{K:St→Prop}(hf:fits n dst=true)(h:hN V K (xJ V dst op σ))(hI:CG op=false∨∃ p,pv V.Γ σ.t op=some p):vcO V n dst op σ K:=by
 refine⟨hf,?_⟩
 unfold xJ at h
 split
 ·rename_i c x hp
  rw[hp]at h
  exact h
 ·rename_i hp
  rw[hp]at h
  simp only[goR]at h
  replace hI:CG op=false:=hI.resolve_right (by rintro⟨p,hp2⟩;rw[hp]at hp2;cases hp2)
  cases op <;> simp only[Yd]at h <;> simp only[vcM]
  case range=>simp[CG]at hI
  case next=>simp[CG]at hI
  case alloc T=>unfold XC at h;(repeat' split at h) <;> simp_all [hN]
  case box T x=>unfold sBox at h;(repeat' split at h) <;> simp_all [hN]
  case load T x=>unfold XU at h;(repeat' split at h) <;> simp_all [hN]
  case store T x y=>unfold XH at h;(repeat' split at h) <;> simp_all [hN]
  case build T ps=>unfold Xr at h;(repeat' split at h) <;> simp_all [hN]
  case nilCheck x =>
   unfold sNil at h
   split at h
   ·rename_i e;rw[e];exact h.2
   ·rename_i f l e
    rw[e]
    refine⟨?_,h.2⟩
    have:=h.1
    cases f <;> simp[Xt]at this ⊢
   ·rename_i f l e;rw[e];exact h.2
   ·cases h
  case call c =>
   clear hI
   obtain⟨callee,args,ts⟩:=c
   cases callee <;> simp only at h ⊢
   case value f=>unfold XL at h;(repeat' split at h) <;> simp_all [hN]
   case invoke rc name=>unfold xV at h;(repeat' split at h) <;> simp_all [hN]
   all_goals exact h
  all_goals exact h
theorem Wd.turn {V:Cx}{F:Fx V}{β:Nat→Bt}{fp:Nat→Nat→Prop}{bs:List ay}{w w':World}(h:Wd F β fp bs w){i:Nat}{R R':Rsc}(hi:bs[i]? = some (.ext R))(jx:mD (fp i) w w')(kC:w'.heap.size=w.heap.size)(hR:∀ β',bp bs.length β β'→R'.holds (β' i) (fp i) w'):Wd F β fp (bs.set i (.ext R')) w':=by
 have dR:=(zJu.1 hi).1
 have old:∀ {j:Nat} {r:ay},(bs.set i (.ext R'))[j]? = some r→(j≠i∧bs[j]? = some r)∨(j=i∧r=.ext R'):=fun {j r} hj=>by
  by_cases e:j=i
  ·subst e
   rw[zJH dR]at hj
   exact .inr ⟨rfl,by simpa using hj.symm⟩
  ·rw[zJA (fun q=>e q.symm)]at hj
   exact .inl ⟨e,hj⟩
 have oldr:∀ {j:Nat} {r:ay},(bs.set i (.ext R'))[j]? = some r→∃ r0,bs[j]? = some r0∧r0.cf=r.cf:=fun {j r} hj=>by
  rcases old hj with⟨-,hj⟩|⟨rfl,rfl⟩
  ·exact⟨r,hj,rfl⟩
  ·exact⟨_,hi,rfl⟩
 have eU:=h.bx β (bp.refl _ _)
 refine⟨⟨jx.os.trans h.fr.os,jx.tape.trans h.fr.tape,jx.output.trans h.fr.output,zJ3 h.fr.size jx.size,fun k hk hn=>?_⟩,fun β' hβ=>?_,fun j r hj hm k hk=>?_,⟨h.sR.zc,by rw[zJS];exact h.sR.len⟩,fun j r hj k hk=>?_⟩
 ·rw[jx.block k (zJJ hk h.fr.size) (fun hk'=>?_)]
  ·exact h.fr.block k hk hn
  ·rcases h.cf i _ hi rfl k hk' with h1|h1
   ·omega
   ·exact hn h1
 ·rw[zJS]at hβ
  have hb:=h.bx β' hβ
  refine⟨fun j r hj=>?_,fun j r hj k hk=>?_,fun j q r r' hj hq bk hm k hk hk'=>?_⟩
  ·rcases old hj with⟨e,hj⟩|⟨rfl,rfl⟩
   ·exact(hb.holds j r hj).stays (fun k hk=>jx.block k (hb.lt j r hj k hk) (fun hk'=>hb.sep j i r _ hj hi e (.inr rfl) k hk hk'))
   ·exact hR β' hβ
  ·obtain⟨r0,h1,-⟩:=oldr hj
   rw[kC];exact hb.lt j r0 h1 k hk
  ·obtain⟨r0,h1,e1⟩:=oldr hj
   obtain⟨r1,h2,e2⟩:=oldr hq
   exact hb.sep j q r0 r1 h1 h2 bk (by rw[e1,e2];exact hm) k hk hk'
 ·obtain⟨r0,h1,e1⟩:=oldr hj
  exact h.cf j r0 h1 (by rw[e1];exact hm) k hk
 ·obtain⟨r0,h1,-⟩:=oldr hj
  exact h.lO j r0 h1 k hk
theorem run_next_at {P:Program}{w:World}{k:Nat}{l:List UInt8}{p:Nat}(hw:w.heap[k]? = some (.stringIter ⟨zJN l⟩ p))(ty:TypeId)(h:p<l.length)(ha:(l.getD p 0).toNat<128) :
 (Instr.next (.pointer (some ⟨k,0,none⟩)) true ty).run P w=.ok (.tuple #[.bool true,.int .i64 p,.int .i32 (l.getD p 0).toNat]) { w with heap:=w.heap.setIfInBounds k (.stringIter ⟨zJN l⟩ (p+1)) }:=by
 have hs:(⟨zJN l⟩:ByteArray).size=l.length:=by simp[ByteArray.size]
 have hb:(⟨zJN l⟩:ByteArray)[p]'(by rw[hs];exact h)=l.getD p 0:=by
  rw[zJD,zJR h];rfl
 have hd:=decode_ascii (⟨zJN l⟩:ByteArray) p (by rw[hs];exact h) (by rw[hb];exact ha)
 rw[hb]at hd
 simp only[Instr.next,getObj,setObj,Sem.run_bind,Sem.run,hw,Result.andThen,hs,h,if_true,hd]
 simp[goInt,Sem.run,hw]
theorem vK {P:Program}{w:World}{k:Nat}{l:List UInt8}{p:Nat}(hw:w.heap[k]? = some (.stringIter ⟨zJN l⟩ p))(ty:TypeId)(h:¬ p<l.length) :
 (Instr.next (.pointer (some ⟨k,0,none⟩)) true ty).run P w=.ok (.tuple #[.bool false]) w:=by
 have hs:(⟨zJN l⟩:ByteArray).size=l.length:=by simp[ByteArray.size]
 simp[Instr.next,getObj,Sem.run,hw,hs,h]
theorem zx {V:Cx}{F:Fx V}{dst:Option Tmp}{op:Op}{σ:St}{K:St→Prop}(bR:fits F.n dst=true)(hI:CG op=true)(h:hN V K (Yd V dst op σ)){a:Act}{w:World}(hr:Rel F σ a w)(ty:TypeId)(pos:String)(after:Array Edge)(guard:Option (Nat × Bool))(Q:Exit→Act→World→Prop) :
 (⟨dst,op,ty,pos,after,guard⟩:Oper).wp V.P a w (fun a w=>∃ σ,K σ∧Rel F σ a w) Q:=by
 obtain⟨β,fp,hf,hw⟩:=hr
 cases op <;> simp only[CG,Bool.false_eq_true]at hI
 case range T x =>
  simp only[Yd,Cf]at h
  split at h
  rotate_left
  ·cases h
  rename_i hk
  split at h
  rotate_left
  ·cases h
  rename_i l hx
  have hK:=h.2
  have hund:V.P.underlying T=some .string:=by
   unfold kd at hk
   cases hT:V.Γ T with
   | none=>rw[hT]at hk;cases hk
   | some ti =>
     rw[hT]at hk
     obtain⟨d,h1,h2⟩:=(V.gI T ti hT).und
     simp only[zJM,zJF.injEq]at hk
     rw[hk]at h2
     rw[h1,h2]
  have he:=(hf.ok β (bp.refl _ _)).ev hx
  have bG:(execOp a.eval ⟨dst,.range T x,ty,pos,after,guard⟩).run V.P w=Result.ok (.value (.pointer (some ⟨w.heap.size,0,none⟩))) (w.iter ⟨zJN l⟩ 0):=by
   refine bE ?_
   rw[he]
   exact run_range_string w T _ hund
  refine wp_of_value bG ⟨_,hK,nT β σ.b.length ⟨w.heap.size,0,0⟩,og fp σ.b.length (·=w.heap.size),?_,hw.more ((Below.refl _ _).alloc (zJG _) _) _ ⟨w.heap.size,0,0⟩ _ (fun β' hβ=>⟨rfl,World.iter_heap w _ 0,fun k=>Iff.rfl⟩) (fun k hk=>?_)⟩
  ·exact(hf.more (by simp) (dZ _ _ _)).put bR (fun β' hβ=>by simp only[ah];rw[← hβ σ.b.length (by simp),fY])
  ·subst hk
   exact⟨zJG _,by rw[size_alloc];omega⟩
 case next x b =>
  cases b
  ·simp only[Yd,hN]at h
  ·simp only[Yd,GC]at h
   split at h
   rotate_left
   ·cases h
   rename_i i hx
   split at h
   rotate_left
   ·cases h
   rename_i l p hit
   obtain⟨R,hR,hRi⟩:∃ R:Rsc,σ.b[i]? = some (.ext R)∧R.it=some (l,p):=by
    unfold itOf at hit
    split at hit
    ·rename_i R hR;exact⟨R,hR,hit⟩
    ·cases hit
   have he:=(hf.ok β (bp.refl _ _)).ev hx
   have hh:∀ β',bp σ.b.length β β'→(β' i).off=0∧w.heap[(β' i).cB]? = some (.stringIter ⟨zJN l⟩ p)∧∀ k,fp i k↔k=(β' i).cB:=fun β' hβ=>R.itOk l p _ _ _ hRi ((hw.bx β' hβ).holds i _ hR)
   obtain⟨h0,h1,h2⟩:=hh β (bp.refl _ _)
   have hev:a.eval x=.pointer (some ⟨(β i).cB,0,none⟩):=by rw[he];simp[ah,h0]
   by_cases hp:p<l.length
   ·have hd:decide (p<l.length)=true:=decide_eq_true hp
    rw[hd]at h
    obtain⟨ha,hK⟩:=h
    have bG:(execOp a.eval ⟨dst,.next x true,ty,pos,after,guard⟩).run V.P w=Result.ok (.value (.tuple #[.bool true,.int .i64 p,.int .i32 (l.getD p 0).toNat])) { w with heap:=w.heap.setIfInBounds (β i).cB (.stringIter ⟨zJN l⟩ (p+1)) }:=by
     refine bE ?_
     rw[hev]
     exact run_next_at h1 ty hp ha
    have aA:(β i).cB<w.heap.size:=(zJx.1 h1).1
    refine wp_of_value bG ⟨_,hK,β,fp,?_,hw.turn hR ⟨rfl,rfl,rfl,by simp,fun k hk hn=>?_⟩ (by simp) (fun β' hβ=>?_)⟩
    ·rw[zJS];exact hf.put bR (fun β' hβ=>by simp[ah,aI])
    ·exact Array.getElem?_setIfInBounds_ne (fun e=>hn ((h2 k).2 e.symm))
    ·obtain⟨q0,q1,q2⟩:=hh β' hβ
     have e:(β' i).cB=(β i).cB:=((h2 _).1 ((q2 _).2 rfl))
     exact⟨q0,by rw[e];simp[aA],q2⟩
   ·have hd:decide (p<l.length)=false:=decide_eq_false hp
    rw[hd]at h
    have hK:=h.2
    have bG:(execOp a.eval ⟨dst,.next x true,ty,pos,after,guard⟩).run V.P w=Result.ok (.value (.tuple #[.bool false])) w:=by
     refine bE ?_
     rw[hev]
     exact vK h1 ty hp
    exact wp_of_value bG ⟨_,hK,β,fp,hf.put bR (fun β' hβ=>by simp[ah,aI]),hw⟩
theorem mM {V:Cx}{F:Fx V}{dst:Option Tmp}{op:Op}{σ:St}{K:St→Prop}(bR:fits F.n dst=true)(h:hN V K (XR V dst op σ)){a:Act}{w:World}(hr:Rel F σ a w)(ty:TypeId)(pos:String)(after:Array Edge)(guard:Option (Nat × Bool))(Q:Exit→Act→World→Prop) :
 (⟨dst,op,ty,pos,after,guard⟩:Oper).wp V.P a w (fun a w=>∃ σ,K σ∧Rel F σ a w) Q:=by
 unfold XR at h
 cases hp:pv V.Γ σ.t op with
 | some p =>
   rw[hp]at h
   exact wu (rF bR (by unfold xJ;rw[hp];exact h) (.inr ⟨p,hp⟩)) hr _ rfl rfl Q
 | none =>
   rw[hp]at h
   simp only[goR]at h
   cases hn:Yl V dst op σ with
   | some p =>
     rw[hn]at h
     exact zv bR hn h.1 h.2 hr ty pos after guard Q
   | none =>
     rw[hn]at h
     cases hI:CG op with
     | false=>exact wu (rF bR (by unfold xJ;rw[hp];exact h) (.inl hI)) hr _ rfl rfl Q
     | true=>exact zx bR hI h hr ty pos after guard Q
structure jT where
 x:SV
 nb:Option (List ay)
 all:Bool
 rd:List (Nat × Nat × Nat)
 wr:List (Nat × Nat × Nat)
structure Rk where
 s:Bool
 all:Bool
 rd:List (Nat × Nat × Nat)
 wr:List (Nat × Nat × Nat)
inductive iT where
 | val (c:Prop) (r:jT)
 | call (f:FuncId) (args:List SV)
 | bad
def oL (c:Prop)(x:SV):iT:=.val c ⟨x,none,false,[],[]⟩
def FD:Option (Prop × SV)→iT→iT
 | some (c,x),_=>oL c x
 | none,m=>m
def XD (V:Cx)(T:TypeId)(σ:St):iT:=match V.Γ T with
 | some ti=>.val True ⟨.p σ.b.length 0,some (σ.b++[.cells ti.zero T true]),false,[],[(σ.b.length,0,0)]⟩
 | none=>.bad
def IG (T:TypeId)(x:Operand)(σ:St):iT:=match ev σ.t x with
 | some x=>.val (He x=false) ⟨.p σ.b.length 0,some (σ.b++[.cells (cells x) T true]),false,[],[(σ.b.length,0,0)]⟩
 | none=>.bad
def XI (V:Cx)(T:TypeId)(x:Operand)(σ:St):iT:=match ev σ.t x with
 | some (.p i off)=>match iy σ.b i with
   | some (c,_,_)=>match V.Γ T with
     | some ti=>match XM ti.agg off ti.size c with
       | some x=>.val (off+ti.size≤c.length∧0<ti.size) ⟨x,none,false,[(i,off,ti.size)],[]⟩
       | none=>.bad
     | none=>.bad
   | none=>.bad
 | _=>.bad
def XF (V:Cx)(T:TypeId)(x y:Operand)(σ:St):iT:=match ev σ.t x with
 | some (.p i off)=>match ev σ.t y with
   | some y=>match iy σ.b i with
     | some (c,_,m)=>match sz V.Γ T with
       | some s=>.val (m=true∧(cells y).all one=true∧(cells y).length=s∧off+s≤c.length∧0<s) ⟨.v undef,some (sn σ.b i (Xs c off (cells y))),false,[],[(i,off,s)]⟩
       | none=>.bad
     | none=>.bad
   | none=>.bad
 | _=>.bad
def XB (V:Cx)(T:TypeId)(ps:List (Nat × Operand))(σ:St):iT:=match V.Γ T with
 | some ti=>match ti.kind with
   | .struct fs=>match Xl σ.t ps with
     | some ps=>match XZ fs V.Γ ps ti.zero with
       | some c=>oL True (.agg c)
       | none=>.bad
     | none=>.bad
   | _=>.bad
 | none=>.bad
def IF (x:Operand)(σ:St):iT:=match ev σ.t x with
 | some (.p i off)=>oL True (.p i off)
 | some (.fn f l)=>oL (Xt f=true) (.fn f l)
 | _=>.bad
def XK (f:Operand)(args:List Operand)(σ:St):iT:=match ev σ.t f with
 | some (.fn (.func f) caps)=>match xu σ.t args with
   | some l=>.call f (l++caps)
   | none=>.bad
 | _=>.bad
def Xv (V:Cx):Op→St→iT
 | .alloc T,σ=>XD V T σ
 | .box T x,σ=>IG T x σ
 | .load T x,σ=>XI V T x σ
 | .store T x y,σ=>XF V T x y σ
 | .build T ps,σ=>XB V T ps.toList σ
 | .nilCheck x,σ=>IF x σ
 | .call ⟨.value f,args,_⟩,σ=>XK f args.toList σ
 | _,_=>.bad
def idxs:List (Option SV)→List (Nat × Nat × Nat)
 | []=>[]
 | some (.o j _)::r=>(j,0,0)::idxs r
 | some (.f j _)::r=>(j,0,0)::idxs r
 | _::r=>idxs r
def Xz (V:Cx):Op→Bool
 | .call ⟨.builtin .append,_,_⟩=>false
 | .makeSlice _ _ _=>false
 | .buildSlice _ _ _=>false
 | .slice _ _ none (some _) (some _)=>true
 | .slice _ _ _ _ _=>false
 | .convert _ _ _=>false
 | _=>true
def y2:Op→List Operand
 | .call ⟨_,args,_⟩=>args.toList
 | .buildSlice _ _ ps=>ps.toList.map (·.2)
 | .makeSlice _ a v=>[a,v]
 | .indexAddr _ a v=>[a,v]
 | .slice _ x _ _ _=>[x]
 | .convert _ _ x=>[x]
 | _=>[]
def dN (V:Cx)(op:Op)(σ:St):Option (Prop × St)→iT→iT
 | some (c,σ'),_=>match σ'.t with
   | (_,x)::_=>if Xz V op then .val c ⟨x,none,false,idxs ((y2 op).map (ev σ.t)),[]⟩
       else .val c ⟨x,some σ'.b,false,[],(σ.b.length,0,0)::idxs ((y2 op).map (ev σ.t))⟩
   | []=>.bad
 | none,m=>m
def XV (V:Cx)(op:Op)(σ:St):iT:=FD (pv V.Γ σ.t op) (dN V op σ (Yl V (some 0) op σ) (Xv V op σ))
def kH (ops:Array Oper):Nat→Nat→Nat→Bool
 | 0,_,_=>false
 | f+1,i,k=>match ops[i]? with
   | some o=>o.after.any fun e=>Region.binds .any e&&(e.on==k||kH ops f e.on k)
   | none=>false
def ovl (a b:Nat × Nat × Nat):Bool:=a.1==b.1&&(b.2.2==0||(decide (a.2.1<b.2.1+b.2.2)&&decide (b.2.1<a.2.1+a.2.2)))
def lX (xs ys:List (Nat × Nat × Nat)):Bool:=xs.any fun a=>ys.any fun b=>ovl a b
def rL (ops:Array Oper)(i k:Nat):Bool:=match (ops[k]?).bind (·.dst) with
 | some d=>(match ops[i]? with
   | some o=>(o.looksAt ops).contains d||o.dst==some d
   | none=>false)
 | none=>false
def vL:Rk:=⟨false,false,[],[]⟩
def eh (ops:Array Oper)(k:Nat):Bool:=match ops[k]? with
 | some ⟨some _,.alloc _,_,_,_,none⟩=>true
 | some ⟨some _,.buildSlice _ _ _,_,_,_,none⟩=>true
 | _=>false
def tc (ops:Array Oper)(i k:Nat):Bool:=if k<i then kH ops ops.size i k else kH ops ops.size k i
def x8 (ops:Array Oper)(rs:List Rk)(i k:Nat):Bool:=!(eh ops k&&decide (k<i))||(zJB k).all fun j=>!(((rs[j]?).getD vL).s)||kH ops ops.size i j
def tK (ops:Array Oper)(rs:List Rk)(i k:Nat):Bool :=
 if rL ops i k then tc ops i k&&x8 ops rs i k
 else if ((rs[i]?).getD vL).s&&((rs[k]?).getD vL).s then eh ops (max i k)||tc ops i k
 else if ((rs[k]?).getD vL).s&&!((rs[i]?).getD vL).rd.isEmpty then(tc ops i k&&x8 ops rs i k)||!(((rs[k]?).getD vL).all||lX ((rs[i]?).getD vL).rd ((rs[k]?).getD vL).wr)
 else true
def yQ (ops:Array Oper)(rs:List Rk):Bool :=
 (zJB ops.size).all fun i=>(zJB ops.size).all fun k=>k==i||tK ops rs i k
def IQ (ops:Array Oper):Bool :=
 (zJB ops.size).all fun i=>match ops[i]? with
  | some o=>o.after.all fun e=>!Region.binds .any e||decide (e.on<i)
  | none=>true
def IX (ops:Array Oper)(rs:List Rk):Prop:=(yQ ops rs&&IQ ops)=true
inductive OT where
 | leaf
 | one (i:Nat) (t:OT)
 | pur (i:Nat) (t:OT)
 | alt (a b:OT)
def rD (n:Nat)(L:List Nat):Array Bool:=L.foldr (fun i a=>a.setIfInBounds i true) (zJZ n false)
def OT.uM:OT→List Nat
 | .one i _=>[i]
 | .alt a b=>a.uM++b.uM
 | _=>[]
def OT.yr (ops:Array Oper):List Nat→OT→Bool
 | L,.leaf=>(Region.ready .any ops (rD ops.size L)).isEmpty
 | L,.one i t=>decide (L.length<ops.size)&&(Region.ready .any ops (rD ops.size L)==[i])&&yr ops (i::L) t
 | L,.pur i t=>decide (L.length<ops.size)&&Region.noSelect ops&&Region.free .any ops (rD ops.size L) i&&(Region.ready .any ops (rD ops.size L)).contains i&&yr ops (i::L) t
 | L,.alt a b=>decide (L.length<ops.size)&&!(Region.ready .any ops (rD ops.size L)).isEmpty&&((Region.ready .any ops (rD ops.size L)).all fun i=>(OT.alt a b).uM.contains i)&&FY ops L a&&FY ops L b
where FY (ops:Array Oper):List Nat→OT→Bool
 | L,.one i t=>yr ops (i::L) t
 | L,.alt a b=>FY ops L a&&FY ops L b
 | _,_=>false
inductive How where
 | ord (p:List Nat)
 | all (t:OT)
inductive Item where
 | fJ (ops:Array Oper) (L:List Nat) (t:OT)
 | cut (J:St→Prop)
 | eE (ops:Array Oper) (l:List Oper) (rs:List Rk)
 | code (c:Code)
 | ops (ops:Array Oper) (l:List Oper)
 | lf (id:Nat)
 | kG (I:St→Prop) (μ:St→Nat) (m:Nat)
def XE (id:Nat):List Item→Option (List Item)
 | []=>none
 | .lf id'::k=>if id'=id then some k else XE id k
 | _::k=>XE id k
structure Fin where
 rs:List ResultVar
 K:SV→List ay→Prop
 /-- How each region that draws is reckoned. -/
 y5:Nat→How
 /-- Has each call one outcome? -/
 uni:Bool
def rA (V:Cx)(E:Fin)(σ:St):Option (List SV)→Prop
 | some l=>E.K (qP l) σ.b
 | none=>False
def eK:List Oper→Nat→Option Tmp
 | [],_=>none
 | o::_,0=>o.dst
 | _::r,j+1=>eK r j
def Yk (t:List (Nat × SV)):Option Tmp→Option (Nat × Bool)
 | some d=>match lk d t with
   | some (.bool b)=>some (d,b)
   | _=>none
 | none=>none
def nob:Value→Bool
 | .bool _=>false
 | _=>true
theorem E7:nob undef=true:=rfl
def Ec (t:List (Nat × SV)):Option Tmp→Bool
 | some d=>match lk d t with
   | some (.v x)=>nob x
   | _=>false
 | none=>false
def shape:ay→ay
 | .cells _ T m=>.cells [] T m
 | .own _ e s n m=>.own [] e s n m
 | r=>r
def nN:ay→List SV
 | .cells c _ _=>c
 | .own c _ _ _ _=>c
 | _=>[]
def ob (q:Option Nat)(r:ay):ay × Nat × Option SV:=(shape r,(nN r).length,match q with
 | some p=>(nN r)[p]?
 | none=>none)
def inR (x:Nat × Nat × Nat)(q:Option Nat):Prop:=q=none∨∃ p,q=some p∧x.2.1≤p∧p<x.2.1+x.2.2
def Gk (x:Nat × Nat × Nat)(j:Nat)(q:Option Nat):Prop:=x.1=j∧(x.2.2=0∨∃ p,q=some p∧x.2.1≤p∧p<x.2.1+x.2.2)
def seen (x:Nat × Nat × Nat)(bi bs:List ay):Prop:=∀ q,inR x q→(bs[x.1]?).map (ob q)=(bi[x.1]?).map (ob q)
def FT (W:List (Nat × Nat × Nat))(b b0:List ay):Prop:=∀ j q,(∀ y∈W,¬ Gk y j q)→(b[j]?).map (ob q)=(b0[j]?).map (ob q)
theorem yo {W:List (Nat × Nat × Nat)}{b b0:List ay}(h:∀ j,(∀ y∈W,y.1≠j)→b[j]? = b0[j]?)(hW:∀ y∈W,y.2.2=0):FT W b b0:=fun j q hq=>by
 rw[h j fun y hy e=>hq y hy ⟨e,.inl (hW y hy)⟩]
def XQ (b:Bool)(X Y:Prop):Prop:=(b=true→X)∧(b=false→Y)
theorem Xn (X Y:Prop):XQ true X Y=X:=by simp[XQ]
theorem Xo (X Y:Prop):XQ false X Y=Y:=by simp[XQ]
def XG (b want:Bool)(X Y:Prop):Prop:=(b=want→X)∧(b=!want→Y)
theorem Xg (X Y:Prop):XG true true X Y=X:=by simp[XG]
theorem Xd (X Y:Prop):XG false false X Y=X:=by simp[XG]
theorem Xe (X Y:Prop):XG true false X Y=Y:=by simp[XG]
theorem Xf (X Y:Prop):XG false true X Y=Y:=by simp[XG]
mutual
def bo (V:Cx)(n:Nat)(E:Fin):Nat→List Item→St→Prop
 | 0,_,_=>False
 | _+1,[],σ=>rA V E σ (XT V σ E.rs)
 | f+1,.code .skip::k,σ=>bo V n E f k σ
 | f+1,.code (.region _ ops false)::k,σ=>bo V n E f (.ops ops ops.toList::k) σ
 | f+1,.code (.region id ops true)::k,σ=>xY V n E f ops k σ (E.y5 id)
 | f+1,.code (.seq x y)::k,σ=>bo V n E f (.code x::.code y::k) σ
 | f+1,.code (.cond c x y)::k,σ=>XN V n E f x y k σ (ev σ.t c)
 | f+1,.code (.block id x)::k,σ=>bo V n E f (.code x::.lf id::k) σ
 | f+1,.code (.loop x)::k,σ=>uf V n E f x k σ
 | f+1,.code (.exit id)::k,σ=>XO V n E f σ (XE id k)
 | _+1,.code .ret::_,σ=>rA V E σ (XT V σ E.rs)
 | _+1,.code _::_,_=>False
 | f+1,.lf _::k,σ=>bo V n E f k σ
 | _+1,.kG I μ m::_,σ=>I σ∧μ σ<m
 | f+1,.ops _ []::k,σ=>bo V n E f k σ
 | f+1,.ops ops (⟨dst,op,_,_,_,none⟩::r)::k,σ=>fits n dst=true∧Yc V n E f ops r k (XR V dst op σ)
 | f+1,.ops ops (⟨dst,op,_,_,_,some (j,want)⟩::r)::k,σ=>fits n dst=true∧XA V n E f ops dst op want r k σ (Yk σ.t (eK ops.toList j)) (Ec σ.t (eK ops.toList j))
 | _+1,.cut J::_,σ=>J σ
 | f+1,.fJ _ _ .leaf::k,σ=>bo V n E f k σ
 | f+1,.fJ ops L (.one i t)::k,σ=>bo V n E f (.ops ops (oj ops.toList i)::.fJ ops (i::L) t::k) σ
 | f+1,.fJ ops L (.pur i t)::k,σ=>DG V n E f ops L i t k σ (oj ops.toList i)
 | f+1,.fJ ops L (.alt a b)::k,σ=>bo V n E f (.fJ ops L a::k) σ∧bo V n E f (.fJ ops L b::k) σ
 | f+1,.eE ops [] rs::k,σ=>IX ops rs∧bo V n E f k σ
 | f+1,.eE ops (⟨dst,op,_,_,_,none⟩::r) rs::k,σ=>fits n dst=true∧Yg V n E f ops r rs k dst σ (XV V op σ)
 | f+1,.eE ops (⟨dst,op,_,_,_,some (j,want)⟩::r) rs::k,σ=>fits n dst=true∧Xy V n E f ops dst op want r rs k σ (Yk σ.t (eK ops.toList j)) (Ec σ.t (eK ops.toList j))
def xY (V:Cx)(n:Nat)(E:Fin):Nat→Array Oper→List Item→St→How→Prop
 | f,ops,k,σ,.ord p=>DI ops p∧bo V n E f (.eE (mW ops p) (mW ops p).toList []::k) σ
 | f,ops,k,σ,.all t=>E.uni=false∧OT.yr ops [] t=true∧∃ J:St→Prop,bo V n E f (.fJ ops [] t::.cut J::k) σ∧∀ σ',J σ'→bo V n E f k σ'
def DG (V:Cx)(n:Nat)(E:Fin):Nat→Array Oper→List Nat→Nat→OT→List Item→St→List Oper→Prop
 | f,ops,L,i,t,k,σ,[⟨dst,op,_,_,_,none⟩]=>fits n dst=true∧DF V n E f ops L i t k σ dst (pv V.Γ σ.t op)
 | _,_,_,_,_,_,_,_=>False
def DF (V:Cx)(n:Nat)(E:Fin):Nat→Array Oper→List Nat→Nat→OT→List Item→St→Option Tmp→Option (Prop × SV)→Prop
 | f,ops,L,i,t,k,σ,dst,some (c,x)=>c∧bo V n E f (.fJ ops (i::L) t::k) ⟨put dst x σ.t,σ.b⟩
 | _,_,_,_,_,_,_,_,none=>False
def Yg (V:Cx)(n:Nat)(E:Fin):Nat→Array Oper→List Oper→List Rk→List Item→Option Tmp→St→iT→Prop
 | f,ops,r,rs,k,dst,σ,.val c ⟨x,none,all,rd,wr⟩=>c∧bo V n E f (.eE ops r (rs++[⟨false,all,rd,wr⟩])::k) ⟨put dst x σ.t,σ.b⟩
 | f,ops,r,rs,k,dst,σ,.val c ⟨x,some b,all,rd,wr⟩=>c∧bo V n E f (.eE ops r (rs++[⟨true,all,rd,wr⟩])::k) ⟨put dst x σ.t,b⟩
 | f,ops,r,rs,k,dst,σ,.call g args=>ll V n E f ops r rs k dst σ g args
 | _,_,_,_,_,_,_,.bad=>False
def ll (V:Cx)(n:Nat)(E:Fin):Nat→Array Oper→List Oper→List Rk→List Item→Option Tmp→St→FuncId→List SV→Prop
 | f,ops,r,rs,k,dst,σ,g,args=>(∃ x,PC V g args x∧bo V n E f (.eE ops r (rs++[⟨false,false,[],[]⟩])::k) ⟨put dst x σ.t,σ.b⟩)∨(∃ x b,SC V g args σ.b (fun r b'=>r=x∧b'=b)∧bo V n E f (.eE ops r (rs++[⟨true,true,[],[]⟩])::k) ⟨put dst x σ.t,b⟩) ∨
   (∃ x b W,SC V g args σ.b (fun r b'=>r=x∧b'=b)∧FT W b σ.b∧bo V n E f (.eE ops r (rs++[⟨true,false,[],W⟩])::k) ⟨put dst x σ.t,b⟩)
def Xy (V:Cx)(n:Nat)(E:Fin):Nat→Array Oper→Option Tmp→Op→Bool→List Oper→List Rk→List Item→St→Option (Nat × Bool)→Bool→Prop
 | f,ops,dst,op,want,r,rs,k,σ,some (d,b),_=>fits n (some d)=true∧XG b want (Yg V n E f ops r rs k dst ⟨(d,.bool want)::σ.t,σ.b⟩ (XV V op ⟨(d,.bool want)::σ.t,σ.b⟩)) (bo V n E f (.eE ops r (rs++[⟨false,false,[],[]⟩])::k) ⟨put dst (.v undef) ((d,.bool (!want))::σ.t),σ.b⟩)
 | f,ops,dst,_,_,r,rs,k,σ,none,true=>bo V n E f (.eE ops r (rs++[⟨false,false,[],[]⟩])::k) ⟨put dst (.v undef) σ.t,σ.b⟩
 | _,_,_,_,_,_,_,_,_,none,false=>False
def XN (V:Cx)(n:Nat)(E:Fin):Nat→Code→Code→List Item→St→Option SV→Prop
 | f,x,y,k,σ,some (.bool b)=>XQ b (bo V n E f (.code x::k) σ) (bo V n E f (.code y::k) σ)
 | _,_,_,_,_,_=>False
def uf (V:Cx)(n:Nat)(E:Fin):Nat→Code→List Item→St→Prop
 | f,x,k,σ=>∃ (I:St→Prop) (μ:St→Nat),I σ∧∀ σ',I σ'→bo V n E f (.code x::.kG I μ (μ σ')::k) σ'
def XO (V:Cx)(n:Nat)(E:Fin):Nat→St→Option (List Item)→Prop
 | f,σ,some k=>bo V n E f k σ
 | _,_,none=>False
def Yc (V:Cx)(n:Nat)(E:Fin):Nat→Array Oper→List Oper→List Item→fj→Prop
 | f,ops,r,k,.go c σ=>c∧bo V n E f (.ops ops r::k) σ
 | f,ops,r,k,.call g args dst σ=>lj V n E f ops r k g args dst σ
 | _,_,_,_,.bad=>False
def lj (V:Cx)(n:Nat)(E:Fin):Nat→Array Oper→List Oper→List Item→FuncId→List SV→Option Tmp→St→Prop
 | f,ops,r,k,g,args,dst,σ=>(∃ x,PC V g args x∧bo V n E f (.ops ops r::k) ⟨put dst x σ.t,σ.b⟩)∨(∃ R,SC V g args σ.b R∧(E.uni=true→∃ x b,R x b∧SC V g args σ.b (fun r b'=>r=x∧b'=b))∧∀ x bs,R x bs→bo V n E f (.ops ops r::k) ⟨put dst x σ.t,bs⟩)
def XA (V:Cx)(n:Nat)(E:Fin):Nat→Array Oper→Option Tmp→Op→Bool→List Oper→List Item→St→Option (Nat × Bool)→Bool→Prop
 | f,ops,dst,op,want,r,k,σ,some (d,b),_=>fits n (some d)=true∧XG b want (Yc V n E f ops r k (XR V dst op ⟨(d,.bool want)::σ.t,σ.b⟩)) (bo V n E f (.ops ops r::k) ⟨put dst (.v undef) ((d,.bool (!want))::σ.t),σ.b⟩)
 | f,ops,dst,_,_,r,k,σ,none,true=>bo V n E f (.ops ops r::k) ⟨put dst (.v undef) σ.t,σ.b⟩
 | _,_,_,_,_,_,_,_,none,false=>False
end
open Go Go.RowKit Wf
def cH {S:Type}(u:Nat→S→S)(D:Nat→Bool):Nat→S→S
 | 0,s=>s
 | n+1,s=>if D n then u n (cH u D n s) else cH u D n s
theorem nF {S X:Type}(u:Nat→S→S)(obs:S→X)(hu:∀ k s s',obs s=obs s'→obs (u k s)=obs (u k s'))(D D':Nat→Bool):∀ (n:Nat)(s:S),
 (∀ k,k<n→D k=D' k∨∀ s,obs (u k s)=obs s)→obs (cH u D n s)=obs (cH u D' n s)
 | 0,_,_=>rfl
 | n+1,s,h=>by
   have ih:=nF u obs hu D D' n s (fun k hk=>h k (by omega))
   simp only[cH]
   rcases h n (by omega) with e|e
   ·rw[e]
    split
    ·exact hu _ _ _ ih
    ·exact ih
   ·split <;> split <;> simp only[e,ih]
theorem fold_congr {S:Type}(u:Nat→S→S)(D D':Nat→Bool):∀ (n:Nat)(s:S),(∀ k,k<n→D k=D' k)→cH u D n s=cH u D' n s
 | 0,_,_=>rfl
 | n+1,s,h=>by simp only[cH];rw[h n (by omega),fold_congr u D D' n s (fun k hk=>h k (by omega))]
def qY (i:Nat):Nat→Bool:=fun k=>decide (k<i)
def eD (D:Nat→Bool)(i:Nat):Nat→Bool:=fun k=>D k||decide (k=i)
theorem Im {S : Type} (u : Nat → S → S) : ∀ (n i : Nat) (s : S), i ≤ n → cH u (qY i) n s = cH u (qY i) i s := by
  intro n
  induction n with
  | zero => intro i s h; have : i = 0 := by omega
            subst this; rfl
  | succ n ih =>
    intro i s h
    by_cases e : i = n + 1
    · subst e; rfl
    · simp only [cH]
      rw [if_neg (by simp [qY]; omega)]
      exact ih i s (by omega)
theorem Ip {S:Type}(u:Nat→S→S)(D:Nat→Bool):∀ (n:Nat)(s:S),(∀ k,k<n→D k=true)→cH u D n s=cH u (qY n) n s:=by
 intro n s h
 exact fold_congr u D (qY n) n s (fun k hk=>by rw[h k hk];simp[qY,hk])
theorem wh {S:Type}(u:Nat→S→S)(i:Nat)(s:S):cH u (qY (i+1)) (i+1) s=u i (cH u (qY i) i s):=by
 simp only[cH]
 rw[if_pos (by simp[qY])]
 congr 1
 exact fold_congr u _ _ i s (fun k hk=>by simp[qY];omega)
theorem Il {S X:Type}(u:Nat→S→S)(obs:S→X)(hu:∀ k s s',obs s=obs s'→obs (u k s)=obs (u k s'))(D:Nat→Bool)(n i:Nat)(s:S)(hi:i≤n)
 (h:∀ k,k<n→(∃ s,obs (u k s)≠obs s)→D k=decide (k<i)):obs (cH u D n s)=obs (cH u (qY i) i s):=by
 rw[← Im u n i s hi]
 refine nF u obs hu D (qY i) n s (fun k hk=>?_)
 by_cases e:∃ s,obs (u k s)≠obs s
 ·exact .inl (h k hk e)
 ·exact .inr (fun s=>Classical.byContradiction fun bk=>e ⟨s,bk⟩)
theorem Io {S X : Type} (u : Nat → S → S) (obs : S → X) (hu : ∀ k s s', obs s = obs s' → obs (u k s) = obs (u k s')) (D : Nat → Bool) (n i : Nat) (s : S) (hi : i < n) (hD : D i = false)
    (h : (∃ s, obs (u i s) ≠ obs s) → ∀ k, k < n → (∃ s, obs (u k s) ≠ obs s) → D k = true → k < i)
    : obs (cH u (eD D i) n s) = obs (u i (cH u D n s)) := by
  by_cases e : ∃ s, obs (u i s) ≠ obs s
  · -- nothing behind i shows
    have h1 : obs (cH u (eD D i) n s) = obs (cH u (fun k => eD D i k && decide (k ≤ i)) n s) :=
      nF u obs hu _ _ n s (fun k hk => by
        by_cases ek : ∃ s, obs (u k s) ≠ obs s
        · left
          by_cases iV : k ≤ i
          · simp [iV]
          · have : D k = false := by
              cases D8 : D k
              · rfl
              · have := h e k hk ek D8; omega
            simp [eD, this]; omega
        · exact .inr (fun s => Classical.byContradiction fun bk => ek ⟨s, bk⟩))
    have h2 : ∀ m, i < m → cH u (fun k => eD D i k && decide (k ≤ i)) m s = u i (cH u D i s) := by
      intro m
      induction m with
      | zero => intro hm; omega
      | succ m ih =>
        intro hm
        simp only [cH]
        by_cases hmi : m = i
        · subst hmi
          rw [if_pos (by simp [eD])]
          congr 1
          exact fold_congr u _ _ m s (fun k hk => by simp [eD, show k ≠ m by omega, show k ≤ m by omega])
        · rw [if_neg (by simp; omega)]
          exact ih (by omega)
    rw [h1, h2 n hi]
    refine hu _ _ _ ?_
    have h3 : obs (cH u D n s) = obs (cH u (fun k => D k && decide (k < i)) n s) :=
      nF u obs hu _ _ n s (fun k hk => by
        by_cases ek : ∃ s, obs (u k s) ≠ obs s
        · left
          cases D8 : D k
          · simp
          · have := h e k hk ek D8; simp [this]
        · exact .inr (fun s => Classical.byContradiction fun bk => ek ⟨s, bk⟩))
    have h4 : ∀ m, i ≤ m → cH u (fun k => D k && decide (k < i)) m s = cH u D i s := by
      intro m
      induction m with
      | zero => intro hm; have : i = 0 := by omega
                subst this; rfl
      | succ m ih =>
        intro hm
        by_cases hmi : i = m + 1
        · subst hmi
          exact fold_congr u _ _ (m + 1) s (fun k hk => by simp; omega)
        · simp only [cH]
          rw [if_neg (by simp; omega)]
          exact ih (by omega)
    rw [h3, h4 n (by omega)]
  · have e' : ∀ s, obs (u i s) = obs s := fun s => Classical.byContradiction fun bk => e ⟨s, bk⟩
    rw [e']
    refine nF u obs hu _ _ n s (fun k hk => ?_)
    by_cases iV : k = i
    · subst iV; exact .inr e'
    · left; simp [eD, iV]
theorem ED {P:Program}{ops:Array Oper}{Q:Exit→Act→World→Prop}{md:Region.Mode}(Inv:(Nat→Bool)→Act→World→Prop)
 (hstep:∀ (listed:Array Bool) a w i,listed.size=ops.size→Inv (fun k=>listed.getD k false) a w→i∈Region.ready md ops listed→wpOp P ops Q i (fun a' w'=>Inv (eD (fun k=>listed.getD k false) i) a' w') a w)
 (Bb:∀ (listed:Array Bool) a w,listed.size=ops.size→Inv (fun k=>listed.getD k false) a w→Region.ready md ops listed=[]→Q .normal a w) :
 ∀ (fuel:Nat) (listed:Array Bool) a w,listed.size=ops.size→(listed.toList.filter (fun b=>!b)).length≤fuel→Inv (fun k=>listed.getD k false) a w→wpAny P md ops Q fuel listed a w:=by
 have key:∀ (listed:Array Bool) (i:Nat),i∈Region.ready md ops listed→i<listed.size∧listed.getD i false=false:=by
  intro listed i hi
  have:=(mem_ready.1 hi).1
  have aA:i<listed.size:=by
   rcases zJV i listed.size with h|h
   ·exact h
   ·simp[h]at this
  exact⟨aA,by simp[aA]at this ⊢;exact this⟩
 intro fuel
 induction fuel with
 | zero =>
   intro listed a w hs hc hI
   have hr:Region.ready md ops listed=[]:=by
    rcases h:Region.ready md ops listed with _|⟨i,r⟩
    ·rfl
    ·have hi:i∈Region.ready md ops listed:=by rw[h];simp
     obtain⟨aA,hf⟩:=key listed i hi
     have:false∈listed.toList.filter (fun b=>!b):=by
      simp only[List.mem_filter]
      refine⟨?_,rfl⟩
      have:listed[i]=false:=by simpa[aA] using hf
      rw[← this]
      exact zJL.2 (Array.getElem_mem aA)
     have:=List.length_pos_of_mem this
     omega
   exact⟨hr,Bb listed a w hs hI hr⟩
 | succ fuel ih =>
   intro listed a w hs hc hI
   refine⟨fun hr=>Bb listed a w hs hI hr,fun i hi=>?_⟩
   obtain⟨aA,hf⟩:=key listed i hi
   refine wpOp_mono (fun a' w' hI'=>ih (listed.setIfInBounds i true) a' w' (by simp[hs]) ?_ ?_) (hstep listed a w i hs hI hi)
   ·have hl:listed[i]=false:=by simpa[aA] using hf
    have e:listed.toList=listed.toList.take i++false::listed.toList.drop (i+1):=by
     have h1:=(List.take_append_drop i listed.toList).symm
     rw[List.drop_eq_getElem_cons (by simpa using aA)]at h1
     simpa[hl] using h1
    have hlen:(listed.toList.take i).length=i:=by simp;omega
    have e2:(listed.setIfInBounds i true).toList=listed.toList.take i++true::listed.toList.drop (i+1):=by
     rw[Array.toList_setIfInBounds]
     conv=>lhs;rw[e]
     rw[List.set_append_right _ _ (by omega)]
     simp[hlen]
    rw[e2]
    rw[e]at hc
    simp at hc ⊢
    omega
   ·have e:(fun k=>(listed.setIfInBounds i true).getD k false)=eD (fun k=>listed.getD k false) i:=by
     funext k
     by_cases h:k=i
     ·subst h;simp[eD,aA]
     ·simp only[eD]
      rw[zJ4,Array.getElem?_setIfInBounds_ne (fun q=>h q.symm),← zJ4]
      simp[h]
    rw[e]
    exact hI'
open Go Go.RowKit Wf
section
variable {V:Cx} {F:Fx V} {β:Nat→Bt} {fp:Nat→Nat→Prop}
theorem zY {Γ:TypeId→Option TI}{t t':List (Nat × SV)}{op:Op}(h:∀ x∈op.operands,ev t x=ev t' x):pv Γ t op=pv Γ t' op:=by
 have opt:∀ o:Option Operand,(∀ x,o=some x→ev t x=ev t' x)→oX t o=oX t' o:=fun o ho=>by
  cases o with
  | none=>rfl
  | some x=>simp[oX,ho x rfl]
 have lst:∀ l:List Operand,(∀ x∈l,ev t x=ev t' x)→l.mapM (ev t)=l.mapM (ev t'):=fun l=>by
  induction l with
  | nil=>intro _;rfl
  | cons x r ih=>intro hl;simp only[List.mapM_cons];rw[hl x (by simp),ih (fun y hy=>hl y (by simp[hy]))]
 cases op <;> simp only[pv]
 case move x=>simp only[XX];rw[h x (by simp[Op.operands])]
 case assign x=>simp only[XX];rw[h x (by simp[Op.operands])]
 case pick c a b=>simp only[Ya];rw[h c (by simp[Op.operands]),h a (by simp[Op.operands]),h b (by simp[Op.operands])]
 case fieldAddr S x f=>simp only[Xb];rw[h x (by simp[Op.operands])]
 case field S x f=>simp only[Xu];rw[h x (by simp[Op.operands])]
 case binOp op T x y yt=>simp only[oBin];rw[h x (by simp[Op.operands]),h y (by simp[Op.operands])]
 case unOp op T x=>simp only[oUn];rw[h x (by simp[Op.operands])]
 case convert S D x=>simp only[Ye];rw[h x (by simp[Op.operands])]
 case slice T x lo hi mx =>
  cases mx with
  | some _=>rfl
  | none =>
    simp only[Xw]
    rw[h x (by simp[Op.operands]),opt lo (fun y hy=>h y (by simp[Op.operands,hy])),opt hi (fun y hy=>h y (by simp[Op.operands,hy]))]
 case index T x i=>simp only[Xx];rw[h x (by simp[Op.operands]),h i (by simp[Op.operands])]
 case build T ps =>
  have hp:∀ l:List (Nat × Operand),(∀ x∈l,ev t x.2=ev t' x.2)→Xl t l=Xl t' l:=fun l=>by
   induction l with
   | nil=>intro _;rfl
   | cons x r ih=>intro hl;obtain⟨i,o⟩:=x;simp only[Xl];rw[hl (i,o) (by simp),ih (fun y hy=>hl y (by simp[hy]))]
  simp only[Xk]
  rw[hp ps.toList (fun x hx=>h x.2 (by simp only[Op.operands];rw[List.mem_toArray];exact zJ7 hx))]
 case indexAddr T x i=>simp only[XS];rw[h x (by simp[Op.operands]),h i (by simp[Op.operands])]
 case makeInterface T x=>simp only[yv];rw[h x (by simp[Op.operands])]
 case typeAssert x S A ok =>
  cases ok
  ·rfl
  ·simp only[sO];rw[h x (by simp[Op.operands])]
 case extract x i=>simp only[Xh];rw[h x (by simp[Op.operands])]
 case makeFunc f first caps =>
  simp only[Yh]
  unfold xu
  rw[lst caps.toList (fun x hx=>h x (by simp only[Op.operands];exact zJ5.2 (.inr (zJL.1 hx)))),
   lst first.toList (fun x hx=>h x (by simp only[Op.operands];exact zJ5.2 (.inl (zJL.1 hx))))]
 case call c =>
  obtain⟨callee,args,ts⟩:=c
  cases callee <;> (try simp only)
  rename_i b
  cases b <;> (try simp only)
  simp only[E5]
  split
  ·rename_i x hx
   rw[h x (by
    simp only[Op.operands,Call.operands]
    refine zJ5.2 (.inr (zJL.1 ?_))
    rw[hx];simp)]
  ·rfl
theorem Cb (c:List SV)(r:ay):shape (sm c r)=shape r:=by cases r <;> rfl
theorem C9 {bs:List ay}{i:Nat}{c:List SV}{T:TypeId}{m:Bool}(h:iy bs i=some (c,T,m)):∃ r,bs[i]? = some r∧nN r=c∧∀ c' r',shape r'=shape r→nN r'=c'→(∀ bs':List ay,bs'[i]? = some r'→iy bs' i=some (c',T,m)):=by
 obtain⟨r,hr,-,hc⟩:=kZ h
 refine⟨r,hr,by rcases hc with rfl|⟨s,n,rfl⟩ <;> rfl,fun c' r' hs hcr bs' hb=>?_⟩
 unfold iy
 rw[hb]
 rcases hc with rfl|⟨s,n,rfl⟩ <;> cases r' <;> simp[shape]at hs <;> simp[nN]at hcr <;> simp[hs,hcr]
theorem E4 {a b:Nat × Nat × Nat}(h:ovl a b=false){q:Option Nat}(hq:inR a q):¬ Gk b a.1 q:=by
 rintro⟨h1,h2⟩
 have:ovl a b=true:=by
  unfold ovl
  simp only[zJv,beq_iff_eq,zJw,decide_eq_true_eq]
  refine⟨h1.symm,?_⟩
  rcases h2 with h2|⟨p,rfl,h3,h4⟩
  ·exact .inl h2
  ·rcases hq with hq|⟨p',hp,h5,h6⟩
   ·cases hq
   ·cases hp
    exact .inr ⟨by omega,by omega⟩
 rw[h]at this
 cases this
theorem Gs {j off n:Nat}{bi bs:List ay}(h:seen (j,off,n) bi bs){c:List SV}{T:TypeId}{m:Bool}(hg:iy bi j=some (c,T,m)) :
 ∃ c',iy bs j=some (c',T,m)∧c'.length=c.length∧∀ p,off≤p→p<off+n→c'[p]? = c[p]? := by
 obtain⟨r,hr,rfl,aT⟩:=C9 hg
 have key:∀ q,inR (j,off,n) q→∃ r',bs[j]? = some r'∧ob q r'=ob q r:=fun q hq=>by
  have:=h q hq
  simp only[hr]at this
  cases hbs:bs[j]? with
  | none=>rw[hbs]at this;simp at this
  | some r' =>
    rw[hbs]at this
    simp only[zJM,zJF.injEq]at this
    exact⟨r',rfl,this⟩
 obtain⟨r',hr',ho⟩:=key none (.inl rfl)
 simp only[ob,Prod.mk.injEq,and_true]at ho
 refine⟨nN r',aT _ r' ho.1 rfl bs hr',ho.2,fun p h1 h2=>?_⟩
 obtain⟨r2,HI,jJ⟩:=key (some p) (.inr ⟨p,rfl,h1,h2⟩)
 rw[hr']at HI
 cases HI
 simp only[ob,Prod.mk.injEq]at jJ
 exact jJ.2.2
theorem zH {j off k:Nat}{bi bs:List ay}(h:seen (j,off,k) bi bs){c:List SV}{e s n:Nat}{m:Bool}(hg:bi[j]? = some (.own c e s n m)):∃ c',bs[j]? = some (.own c' e s n m):=by
 have:=h none (.inl rfl)
 simp only[hg]at this
 cases hbs:bs[j]? with
 | none=>rw[hbs]at this;simp at this
 | some r' =>
   rw[hbs]at this
   simp only[zJM,zJF.injEq,ob,Prod.mk.injEq,and_true]at this
   cases r' <;> simp[shape]at this
   rename_i c' _ _ _ _
   obtain⟨⟨rfl,rfl,rfl,rfl⟩,-⟩:=this
   exact⟨c',rfl⟩
theorem z8 {agg:Bool}{off n:Nat}{c c':List SV}(hn:0<n)(h:∀ p,off≤p→p<off+n→c'[p]? = c[p]?):XM agg off n c'=XM agg off n c:=by
 unfold XM
 cases agg
 ·simp[h off (zJG _) (by omega)]
 ·simp only[if_true]
  congr 2
  apply List.ext_getElem?
  intro q
  simp only[List.getElem?_take,List.getElem?_drop]
  split
  ·exact h (off+q) (by omega) (by omega)
  ·rfl
theorem mapM_congr {t t':List (Nat × SV)}:∀ (l:List Operand),(∀ x∈l,ev t x=ev t' x)→xu t l=xu t' l
 | [],_=>rfl
 | x::r,h=>by
   have:=mapM_congr r (fun y hy=>h y (by simp[hy]))
   unfold xu at this ⊢
   simp only[List.mapM_cons]
   rw[h x (by simp),this]
theorem iJ {t t':List (Nat × SV)}:∀ (l:List (Nat × Operand)),(∀ x∈l.map (·.2),ev t x=ev t' x)→Xl t l=Xl t' l
 | [],_=>rfl
 | (i,x)::r,h=>by
  simp only[Xl]
  rw[h x (by simp),iJ r (fun y hy=>h y (by simp only[List.map_cons,List.mem_cons];exact .inr hy))]
def hdS:List (Nat × SV)→SV
 | (_,x)::_=>x
 | []=>.v undef
theorem EH {dst:Option Tmp}{op:Op}{t:List (Nat × SV)}{b:List ay}{c:Prop}{σ':St}(hs:Yl V dst op ⟨t,b⟩=some (c,σ')):∃ x,σ'.t=put dst x t:=by
 cases op <;> simp only[Yl,reduceCtorEq]at hs
 case call cl =>
  obtain⟨callee,args,ts⟩:=cl
  cases callee <;> (try simp only[reduceCtorEq]at hs)
  rename_i bi
  cases bi <;> (try simp only[reduceCtorEq]at hs)
  case append =>
   unfold Xm at hs
   (repeat' split at hs) <;> try (cases hs;done)
   cases hs
   exact⟨_,rfl⟩
  all_goals
   unfold Xq at hs
   (repeat' split at hs) <;> try (cases hs;done)
   obtain⟨z,hz,e⟩:=zJU.1 hs
   cases e
   exact⟨z,rfl⟩
 case slice T x lo hi mx =>
  cases mx with
  | some mx =>
    cases lo <;> cases hi <;> simp only[reduceCtorEq]at hs
    unfold CB at hs
    (repeat' split at hs) <;> try (cases hs;done)
    cases hs
    exact⟨_,rfl⟩
  | none =>
  simp only at hs
  unfold Xj at hs
  (repeat' split at hs) <;> try (cases hs;done)
  cases hs
  exact⟨_,rfl⟩
 case convert S D x =>
  unfold Yb at hs
  (repeat' split at hs) <;> try (cases hs;done)
  all_goals
   cases hs
   exact⟨_,rfl⟩
 all_goals
  first|unfold Yn at hs|unfold Xa at hs|unfold Xc at hs
  (repeat' split at hs) <;> try (cases hs;done)
  cases hs
  exact⟨_,rfl⟩
theorem EI {op:Op}{t t':List (Nat × SV)}{b:List ay}(h:∀ x∈op.operands,ev t' x=ev t x)(dst:Option Tmp) :
 Yl V dst op ⟨t',b⟩=(Yl V (some 0) op ⟨t,b⟩).map fun p=>(p.1,⟨put dst (hdS p.2.t) t',p.2.b⟩):=by
 have opt:∀ o:Option Operand,(∀ x,o=some x→ev t' x=ev t x)→oX t' o=oX t o:=fun o ho=>by
  cases o with
  | none=>rfl
  | some x=>simp[oX,ho x rfl]
 cases op <;> simp only[Yl,zJ8]
 case call cl =>
  obtain⟨callee,args,ts⟩:=cl
  have sE:∀ x∈args.toList,ev t' x=ev t x:=fun x hx=>h x (by
   simp only[Op.operands,Call.operands]
   exact zJ5.2 (.inr (zJL.1 hx)))
  cases callee <;> (try simp only[zJ8])
  rename_i bi
  cases bi <;> (try simp only[zJ8])
  case append =>
   unfold Xm
   generalize args.toList=L at sE
   generalize ts.toList=TS
   match L,sE with
   | [s,x],sE =>
     simp only[sE s (by simp),sE x (by simp)]
     (repeat' split) <;> rfl
   | [],_=>rfl
   | [_],_=>rfl
   | _::_::_::_,_=>rfl
  all_goals
   unfold Xq
   generalize args.toList=L at sE
   match L,sE with
   | [s,x],sE =>
     simp only[sE s (by simp),sE x (by simp)]
     split
     ·split
      ·rw[Option.map_map];rfl
      ·rfl
     ·rfl
   | [],_=>rfl
   | [_],_=>rfl
   | _::_::_::_,_=>rfl
 case makeSlice T l cc =>
  unfold Yn
  simp only[h l (by simp[Op.operands]),h cc (by simp[Op.operands])]
  (repeat' split) <;> rfl
 case buildSlice T n ps =>
  unfold Xa
  simp only[iJ (t:=t') (t':=t) ps.toList (fun x hx=>h x (by simp only[Op.operands];rw[List.mem_toArray];exact hx))]
  (repeat' split) <;> rfl
 case indexAddr T x i =>
  unfold Xc
  simp only[h x (by simp[Op.operands]),h i (by simp[Op.operands])]
  (repeat' split) <;> rfl
 case slice T x lo hi mx =>
  cases mx with
  | some mx =>
    cases lo <;> cases hi <;> simp only[zJ8]
    rename_i hi
    unfold CB
    simp only[h x (by simp[Op.operands]),h hi (by simp[Op.operands]),h mx (by simp[Op.operands])]
    (repeat' split) <;> rfl
  | none =>
  simp only
  unfold Xj
  simp only[h x (by simp[Op.operands]),opt lo (fun y hy=>h y (by simp[Op.operands,hy])),opt hi (fun y hy=>h y (by simp[Op.operands,hy]))]
  (repeat' split) <;> rfl
 case convert S D x =>
  unfold Yb
  simp only[h x (by simp[Op.operands])]
  (repeat' split) <;> rfl
theorem jC {op:Op}{t t':List (Nat × SV)}{b:List ay}(h:∀ x∈op.operands,ev t' x=ev t x){c:Prop}{σ':St}(hs:Yl V (some 0) op ⟨t,b⟩=some (c,σ')) :
 ∃ x,σ'.t=(0,x)::t∧∀ dst,Yl V dst op ⟨t',b⟩=some (c,⟨put dst x t',σ'.b⟩):=by
 obtain⟨x,hx⟩:=EH hs
 refine⟨x,hx,fun dst=>?_⟩
 rw[EI h dst,hs]
 simp only[zJM,hx]
 rfl
theorem Hj {l:List (Option SV)}{j n:Nat}(h:some (SV.o j n)∈l):(j,0,0)∈idxs l:=by
 induction l with
 | nil=>cases h
 | cons x r ih =>
   simp only[List.mem_cons]at h
   rcases h with h|h
   ·subst h;simp[idxs]
   ·have:=ih h
    cases x with
    | none=>simpa[idxs] using this
    | some v=>cases v <;> simp[idxs,this]
theorem Ff {l:List (Option SV)}{x:Nat × Nat × Nat}(h:x∈idxs l):x.2.2=0:=by
 induction l with
 | nil=>cases h
 | cons y r ih =>
   cases y with
   | none=>exact ih (by simpa[idxs] using h)
   | some v =>
     cases v
     case o j n =>
      simp only[idxs,List.mem_cons]at h
      rcases h with rfl|h
      ·rfl
      ·exact ih h
     case f j n =>
      simp only[idxs,List.mem_cons]at h
      rcases h with rfl|h
      ·rfl
      ·exact ih h
     all_goals exact ih (by simpa[idxs] using h)
theorem Cy {op:Op}{t:List (Nat × SV)}{o:Operand}(ho:o∈y2 op){j n:Nat}(he:ev t o=some (.o j n)):(j,0,0)∈idxs ((y2 op).map (ev t)) :=
 Hj (by rw[← he];exact zJ7 ho)
theorem IA {e s:Nat}{x:SV}{b bs:List ay}{n:Nat}{c:List SV}(h:sG b e s x=some (n,c,bs)){j:Nat}(hj:∀ i m,x=.o i m→i≠j):bs[j]? = b[j]? ∧ bs.length=b.length:=by
 cases x <;> simp only[sG,reduceCtorEq]at h
 case aD=>cases h;exact⟨rfl,rfl⟩
 case o i m =>
  split at h
  ·split at h
   ·cases h
    exact⟨zJA (hj i _ rfl),by simp⟩
   ·cases h
  ·cases h
 case f i m =>
  split at h
  ·split at h
   ·cases h
    exact⟨rfl,rfl⟩
   ·cases h
  ·cases h
theorem iR {b:List ay}{X:ay}{j:Nat}(hj:j≠b.length):(b++[X])[j]? = b[j]? := by
 rcases zJV j b.length with h|h
 ·rw[zJz h]
 ·rw[zJE h,List.getElem?_eq_none h,List.getElem?_eq_none (by simp;omega)]
theorem B6 {op:Op}{t:List (Nat × SV)}{b:List ay}{c:Prop}{σ':St}(hs:Yl V (some 0) op ⟨t,b⟩=some (c,σ')){j:Nat}(hj:j≠b.length)(hi:∀ x∈idxs ((y2 op).map (ev t)),x.1≠j):σ'.b[j]? = b[j]? := by
 have bk:∀ (o:Operand),o∈y2 op→∀ i m,ev t o=some (.o i m)→i≠j:=fun o ho i m he=>hi _ (Cy ho he)
 cases op <;> simp only[Yl,reduceCtorEq]at hs
 case call cl =>
  obtain⟨callee,args,ts⟩:=cl
  have sE:∀ x∈args.toList,x∈y2 (Op.call ⟨callee,args,ts⟩):=fun x hx=>hx
  cases callee <;> (try simp only[reduceCtorEq]at hs)
  rename_i bi
  cases bi <;> (try simp only[reduceCtorEq]at hs)
  case append =>
   unfold Xm at hs
   split at hs
   ·rename_i s x hl
    (repeat' split at hs) <;> try (cases hs;done)
    cases hs
    rename_i hd _ _ _ _
    obtain⟨h1,h2⟩:=IA hd (j:=j) (fun i m e=>bk s (sE s (by rw[hl];simp)) i m (by rw[← e];assumption))
    simp only
    rw[iR (by rw[h2];exact hj),h1]
   ·cases hs
  all_goals
   unfold Xq at hs
   (repeat' split at hs) <;> try (cases hs;done)
   obtain⟨z,hz,e⟩:=zJU.1 hs
   cases e
   rfl
 case makeSlice T l cc =>
  unfold Yn at hs
  (repeat' split at hs) <;> try (cases hs;done)
  cases hs
  exact iR hj
 case buildSlice T n ps =>
  unfold Xa at hs
  (repeat' split at hs) <;> try (cases hs;done)
  cases hs
  exact iR hj
 case indexAddr T x i =>
  unfold Xc at hs
  (repeat' split at hs) <;> try (cases hs;done)
  cases hs
  rfl
 case slice T x lo hi' mx =>
  cases mx with
  | some mx =>
    cases lo <;> cases hi' <;> simp only[reduceCtorEq]at hs
    unfold CB at hs
    (repeat' split at hs) <;> try (cases hs;done)
    cases hs
    rfl
  | none =>
  simp only at hs
  unfold Xj at hs
  (repeat' split at hs) <;> try (cases hs;done)
  rename_i HH
  cases hs
  simp only
  unfold reS at HH
  split at HH
  ·rename_i i m he
   have vx:i≠j:=bk x (by simp[y2]) i m he
   split at HH
   ·split at HH
    ·(repeat' split at HH) <;> cases HH
     all_goals first
      | rw[iR (by simpa using hj),zJA vx]
      | exact iR hj
    ·cases HH
   ·cases HH
  ·cases HH
 case convert S D x =>
  unfold Yb at hs
  (repeat' split at hs) <;> try (cases hs;done)
  all_goals cases hs
  all_goals first|rfl|exact iR hj
theorem zw {op:Op}(hr:Xz V op=true){t:List (Nat × SV)}{b b':List ay}{c:Prop}{σ':St}(hs:Yl V (some 0) op ⟨t,b⟩=some (c,σ'))(hc:c)
 (kS:∀ x∈idxs ((y2 op).map (ev t)),seen x b b'):∃ c',c'∧Yl V (some 0) op ⟨t,b'⟩=some (c',⟨σ'.t,b'⟩):=by
 cases op <;> simp only[Yl,reduceCtorEq]at hs
 case call cl =>
  obtain⟨callee,args,ts⟩:=cl
  cases callee <;> (try simp only[reduceCtorEq]at hs)
  rename_i bi
  cases bi <;> (try simp only[reduceCtorEq]at hs)
  case append=>simp[Xz]at hr
  all_goals
   simp only[Yl]
   unfold Xq at hs ⊢
   split at hs
   ·rename_i s x hl
    simp only
    split at hs
    ·rename_i u hu
     split at hs
     ·rename_i v hv
      obtain⟨z,hz,e⟩:=zJU.1 hs
      cases e
      exact⟨True,trivial,by simp[hl,hu,hv,hz]⟩
     ·cases hs
    ·cases hs
   ·cases hs
 case indexAddr T x i =>
  simp only[Yl]
  unfold Xc at hs ⊢
  split at hs
  ·rename_i e hk
   split at hs
   ·rename_i s kC
    split at hs
    ·rename_i u hu
     split at hs
     ·rename_i k kk hi
      split at hs
      ·rename_i c0 y ha
       cases hs
       simp only at hu hi
       simp only[hu,hi]
       unfold Ym at ha
       split at ha
       ·rename_i j n
        split at ha
        ·rename_i cc e1 s1 n1 m1 hj
         cases ha
         obtain⟨c'',hb'⟩:=zH (kS (j,0,0) (Cy (o:=x) (by simp[y2]) hu)) hj
         simp only at hc
         refine⟨_,?_,by simp only[Ym,hb'];rfl⟩
         refine⟨hc.1,?_⟩
         have h2:=hc.2
         simp only[Xc.lD,hj]at h2
         simp only[Xc.lD,hb']
         exact h2
        ·cases ha
       ·cases ha
      ·cases hs
     ·cases hs
    ·cases hs
   ·cases hs
  ·cases hs
 case slice T x lo hi mx =>
  cases mx with
  | none=>cases lo <;> cases hi <;> simp[Xz]at hr
  | some mx =>
    cases lo with
    | some _=>cases hi <;> simp[Xz]at hr
    | none =>
      cases hi with
      | none=>simp[Xz]at hr
      | some hi =>
        simp only[Yl]
        simp only at hs
        unfold CB at hs ⊢
        split at hs
        ·rename_i e hk
         split at hs
         ·rename_i s kC
          split at hs
          ·rename_i u hu
           split at hs
           ·rename_i k1 h1 hhi
            split at hs
            ·rename_i k2 h2 hmx
             split at hs
             ·rename_i c0 y ha
              cases hs
              simp only at hu hhi hmx
              simp only[hu,hhi,hmx]
              unfold BB at ha
              split at ha
              ·rename_i j n
               split at ha
               ·rename_i cc e1 s1 n1 m1 hj
                cases ha
                obtain⟨c'',hb'⟩:=zH (kS (j,0,0) (Cy (o:=x) (by simp[y2]) hu)) hj
                refine⟨_,hc,by simp only[BB,hb']⟩
               ·cases ha
              ·cases ha
               exact⟨_,hc,by simp only[BB]⟩
              ·cases ha
             ·cases hs
            ·cases hs
           ·cases hs
          ·cases hs
         ·cases hs
        ·cases hs
 all_goals simp[Xz]at hr
theorem Gp {dst:Option Tmp}{op:Op}{t t':List (Nat × SV)}{b b':List ay}(h:∀ x∈op.operands,ev t' x=ev t x){c:Prop}{r:jT}(hs:XV V op ⟨t,b⟩=.val c r)(hc:c)(hb:r.nb.isSome=true→b'=b)(kS:r.nb=none→∀ x∈r.rd,seen x b b') :
 hN V (fun σ=>σ=⟨put dst r.x t',r.nb.getD b'⟩) (XR V dst op ⟨t',b'⟩):=by
 unfold XV at hs
 unfold XR
 rw[zY (t:=t') (t':=t) h]
 simp only at hs
 cases hp:pv V.Γ t op with
 | some p =>
   rw[hp]at hs
   obtain⟨c',x⟩:=p
   simp only[FD,oL]at hs
   cases hs
   exact⟨hc,rfl⟩
 | none =>
   rw[hp]at hs
   simp only[FD,goR]at hs ⊢
   cases hn:Yl V (some 0) op ⟨t,b⟩ with
   | some p =>
     obtain⟨c',σ'⟩:=p
     rw[hn]at hs
     obtain⟨x,hx,-⟩:=jC (t':=t) (fun _ _=>rfl) hn
     simp only[dN,hx]at hs
     split at hs
     ·rename_i hrd
      cases hs
      obtain⟨c2,uO,e2⟩:=zw hrd hn hc (kS rfl)
      obtain⟨x2,hx2,e3⟩:=jC h e2
      simp only[hx,List.cons.injEq,Prod.mk.injEq,true_and,and_true]at hx2
      rw[e3 dst]
      simp only[FX]
      exact⟨uO,by rw[← hx2];rfl⟩
     ·cases hs
      obtain rfl:=hb rfl
      obtain⟨x2,hx2,e3⟩:=jC h hn
      simp only[hx,List.cons.injEq,Prod.mk.injEq,true_and,and_true]at hx2
      rw[e3 dst]
      simp only[FX]
      exact⟨hc,by rw[← hx2];rfl⟩
   | none =>
     rw[hn]at hs
     simp only[dN]at hs
     cases op <;> simp only[Xv,reduceCtorEq]at hs
     case alloc T =>
      unfold XD at hs
      simp only[Yl,FX,Yd,XC]
      split at hs
      ·rename_i ti jI
       cases hs
       obtain rfl:=hb rfl
       exact⟨trivial,rfl⟩
      ·cases hs
     case box T x =>
      unfold IG at hs
      simp only[Yl,FX,Yd,sBox]
      split at hs
      ·rename_i u hu
       cases hs
       obtain rfl:=hb rfl
       simp only at hu
       rw[h x (by simp[Op.operands]),hu]
       exact⟨hc,rfl⟩
      ·cases hs
     case load T x =>
      unfold XI at hs
      simp only[Yl,FX,Yd,XU]
      rw[h x (by simp[Op.operands])]
      (repeat' split at hs) <;> try (cases hs;done)
      rename_i i off he _ c0 T0 m0 hg _ ti jI _ y hy
      cases hs
      simp only at he hg
      obtain⟨c1,hg1,ny,hp1⟩:=Gs (kS rfl (i,off,ti.size) (by simp)) hg
      rw[he]
      simp only[hg1,jI,z8 hc.2 hp1,hy]
      exact⟨by rw[ny];exact hc.1,rfl⟩
     case store T x y =>
      unfold XF at hs
      simp only[Yl,FX,Yd,XH]
      rw[h x (by simp[Op.operands]),h y (by simp[Op.operands])]
      (repeat' split at hs) <;> try (cases hs;done)
      rename_i i off he _ u hu _ c0 T0 m0 hg _ s kC
      cases hs
      obtain rfl:=hb rfl
      simp only at he hg hu
      rw[he,hu]
      simp only[hg,kC]
      exact⟨⟨hc.1,hc.2.1,hc.2.2.1,hc.2.2.2.1⟩,rfl⟩
     case build T ps =>
      unfold XB at hs
      simp only[Yl,FX,Yd,Xr]
      rw[iJ (t:=t') (t':=t) ps.toList (fun x hx=>h x (by simp only[Op.operands];rw[List.mem_toArray];exact hx))]
      (repeat' split at hs) <;> try (cases hs;done)
      rename_i ti jI _ fs hk _ l hl _ cc hcc
      simp only[oL]at hs
      cases hs
      simp only at hl
      simp only[jI,hk,hl,hcc]
      exact⟨trivial,rfl⟩
     case nilCheck x =>
      unfold IF at hs
      simp only[Yl,FX,Yd,sNil]
      rw[h x (by simp[Op.operands])]
      split at hs
      ·rename_i i off he
       simp only[oL]at hs
       cases hs
       simp only at he
       rw[he]
       exact⟨trivial,rfl⟩
      ·rename_i f l he
       simp only[oL]at hs
       cases hs
       simp only at he
       rw[he]
       exact⟨hc,rfl⟩
      ·cases hs
     case call cl =>
      obtain⟨callee,args,ts⟩:=cl
      cases callee <;> simp only[reduceCtorEq]at hs
      unfold XK at hs
      (repeat' split at hs) <;> cases hs
theorem B7 {dst:Option Tmp}{op:Op}{t t':List (Nat × SV)}{b b':List ay}(h:∀ x∈op.operands,ev t' x=ev t x){g:FuncId}{args:List SV}(hs:XV V op ⟨t,b⟩=.call g args):XR V dst op ⟨t',b'⟩=.call g args dst ⟨t',b'⟩:=by
 unfold XV at hs
 unfold XR
 rw[zY (t:=t') (t':=t) h]
 simp only at hs
 cases hp:pv V.Γ t op with
 | some p=>rw[hp]at hs;obtain⟨c',x⟩:=p;simp[FD,oL]at hs
 | none =>
   rw[hp]at hs
   simp only[FD,goR]at hs ⊢
   cases hn:Yl V (some 0) op ⟨t,b⟩ with
   | some p =>
     obtain⟨c',σ'⟩:=p
     rw[hn]at hs
     obtain⟨x,hx,-⟩:=jC (t':=t) (fun _ _=>rfl) hn
     simp only[dN,hx]at hs
     split at hs <;> cases hs
   | none =>
     rw[hn]at hs
     simp only[dN]at hs
     cases op <;> simp only[Xv,reduceCtorEq]at hs
     case alloc T=>unfold XD at hs;(repeat' split at hs) <;> cases hs
     case box T x=>unfold IG at hs;(repeat' split at hs) <;> cases hs
     case load T x=>unfold XI at hs;(repeat' split at hs) <;> cases hs
     case store T x y=>unfold XF at hs;(repeat' split at hs) <;> cases hs
     case build T ps=>unfold XB at hs;(repeat' split at hs) <;> (try simp only[oL]at hs) <;> cases hs
     case nilCheck x=>unfold IF at hs;(repeat' split at hs) <;> (try simp only[oL]at hs) <;> cases hs
     case call cl =>
      obtain⟨callee,args,ts⟩:=cl
      cases callee <;> simp only[reduceCtorEq]at hs
      rename_i f
      unfold XK at hs
      simp only[Yl,FX,Yd,XL]
      rw[h f (by simp[Op.operands,Call.operands])]
      have he:xu t' args.toList=xu t args.toList:=mapM_congr args.toList (fun x hx=>h x (by
       simp only[Op.operands,Call.operands]
       exact zJ5.2 (.inr (zJL.1 hx))))
      rw[he]
      split at hs
      ·rename_i ff caps hf
       split at hs
       ·rename_i l hl
        simp only at hf hl
        rw[hf]
        simp only[hl]
        cases hs
        rfl
       ·cases hs
      ·cases hs
def UnE (r:jT)(bi:List ay):Prop:=∀ nb,r.nb=some nb→r.all=false→∀ j q,(∀ x∈r.wr,¬ Gk x j q)→(nb[j]?).map (ob q)=(bi[j]?).map (ob q)
theorem zy {op:Op}{t:List (Nat × SV)}{b:List ay}{c:Prop}{r:jT}(hs:XV V op ⟨t,b⟩=.val c r)(hc:c):UnE r b:=by
 intro nb xh aT j q hwr
 unfold XV at hs
 simp only at hs
 cases hp:pv V.Γ t op with
 | some p=>rw[hp]at hs;obtain⟨c',x⟩:=p;simp only[FD,oL]at hs;cases hs;cases xh
 | none =>
   rw[hp]at hs
   simp only[FD]at hs
   cases hn:Yl V (some 0) op ⟨t,b⟩ with
   | some p =>
     obtain⟨c',σ'⟩:=p
     rw[hn]at hs
     obtain⟨x,hx,-⟩:=jC (t':=t) (fun _ _=>rfl) hn
     simp only[dN,hx]at hs
     split at hs
     ·cases hs;cases xh
     ·cases hs
      cases xh
      rw[B6 hn (j:=j) (fun e=>hwr (b.length,0,0) (by simp) ⟨e.symm,.inl rfl⟩) (fun x hx e=>hwr x (by simp[hx]) ⟨e,.inl ?_⟩)]
      exact Ff hx
   | none =>
     rw[hn]at hs
     simp only[dN]at hs
     cases op <;> simp only[Xv,reduceCtorEq]at hs
     case alloc T =>
      unfold XD at hs
      (repeat' split at hs) <;> try (cases hs;done)
      cases hs;cases xh
      rw[iR (fun e=>hwr (b.length,0,0) (by simp) ⟨e.symm,.inl rfl⟩)]
     case box T x =>
      unfold IG at hs
      (repeat' split at hs) <;> try (cases hs;done)
      cases hs;cases xh
      rw[iR (fun e=>hwr (b.length,0,0) (by simp) ⟨e.symm,.inl rfl⟩)]
     case load T x =>
      unfold XI at hs
      (repeat' split at hs) <;> try (cases hs;done)
      cases hs;cases xh
     case store T x y =>
      unfold XF at hs
      (repeat' split at hs) <;> try (cases hs;done)
      rename_i i off he _ u hu _ c0 T0 m0 hg _ s kC
      cases hs;cases xh
      obtain⟨-,-,h3,h4,h5⟩:=hc
      simp only at hg hwr
      obtain⟨r0,HJ,-,fL⟩:=kZ hg
      rw[sJ HJ]
      by_cases lM:i=j
      ·subst lM
       have dR:i<b.length:=(zJu.1 HJ).1
       rw[zJH dR,HJ]
       have gw:nN r0=c0:=by rcases fL with rfl|⟨s',n',rfl⟩ <;> rfl
       have hcell2:nN (sm (Xs c0 off (cells u)) r0)=Xs c0 off (cells u):=by rcases fL with rfl|⟨s',n',rfl⟩ <;> rfl
       have hlen:(Xs c0 off (cells u)).length=c0.length:=by simp[Xs];omega
       simp only[zJM,ob,Cb,gw,hcell2,hlen]
       congr 3
       cases q with
       | none=>rfl
       | some p =>
         have F2:¬ (off≤p∧p<off+s):=fun hh=>hwr (i,off,s) (by simp) ⟨rfl,.inr ⟨p,rfl,hh.1,hh.2⟩⟩
         simp only[Xs]
         rcases zJV p off with aA|rm
         ·rw[List.append_assoc,zJz (by simp;omega),List.getElem?_take,if_pos aA]
         ·have hge2:off+s≤p:=by omega
          rw[zJE (by simp;omega),List.getElem?_drop]
          congr 1
          simp
          omega
      ·rw[zJA lM]
     case build T ps =>
      unfold XB at hs
      (repeat' split at hs) <;> (try simp only[oL]at hs) <;> cases hs
      cases xh
     case nilCheck x =>
      unfold IF at hs
      (repeat' split at hs) <;> (try simp only[oL]at hs) <;> cases hs
      all_goals cases xh
     case call cl =>
      obtain⟨callee,args,ts⟩:=cl
      cases callee <;> simp only[reduceCtorEq]at hs
      unfold XK at hs
      (repeat' split at hs) <;> cases hs
end
open Go Go.RowKit Wf
section
variable {V:Cx} {F:Fx V}
def bP:jT:=⟨.v undef,none,false,[],[]⟩
def vq (F:Fx V)(ops:Array Oper)(i:Nat)(ti:List (Nat × SV))(bi:List ay)(r:jT):Prop :=
 ∀ (Q:Exit→Act→World→Prop) (K:Act→World→Prop) (a:Act) (w:World) (t':List (Nat × SV)) (b':List ay) (o:Oper),ops[i]? = some o →
  (∀ d∈o.looksAt ops,lk d t'=lk d ti)→(r.nb.isSome=true→b'=bi)→(r.nb=none→∀ x∈r.rd,seen x bi b')→Rel F ⟨t',b'⟩ a w →
  (∀ a' w',Rel F ⟨put o.dst r.x t',r.nb.getD b'⟩ a' w'→K a' w')→wpOp V.P ops Q i K a w
def ib (ops:Array Oper)(k:Nat):Option Tmp:=(ops[k]?).bind (·.dst)
def uS (ops:Array Oper)(recs:List jT)(k:Nat)(t:List (Nat × SV)):List (Nat × SV):=put (ib ops k) (recs.getD k bP).x t
theorem wJ {t t':List (Nat × SV)}{b:List ay}{a:Act}{w:World}(h:Rel F ⟨t,b⟩ a w)(e:∀ d,lk d t'=lk d t):Rel F ⟨t',b⟩ a w:=by
 obtain⟨β,fp,hf,hw⟩:=h
 exact⟨β,fp,⟨fun β' hβ=>⟨(hf.ok β' hβ).size,(hf.ok β' hβ).defers,fun d x hd=>(hf.ok β' hβ).get d x (by rw[← e];exact hd)⟩⟩,hw⟩
theorem GJ {σ:St}{a:Act}{w:World}(h:Rel F σ a w):Rel F σ a w.drew:=by
 obtain⟨β,fp,hf,hw⟩:=h
 exact⟨β,fp,hf,hw.drew⟩
theorem kA (d:Nat)(dst:Option Tmp)(x:SV)(t:List (Nat × SV)):lk d (put dst x t)=if dst=some d then some x else lk d t:=by
 cases dst with
 | none=>simp[put]
 | some e =>
   simp only[put,lk,zJF.injEq]
   by_cases h:d=e
   ·subst h;simp
   ·rw[if_neg h,if_neg (fun q=>h q.symm)]
theorem jm {d:Nat}{dst:Option Tmp}{x:SV}{t t':List (Nat × SV)}(h:lk d t=lk d t'):lk d (put dst x t)=lk d (put dst x t'):=by
 rw[kA,kA,h]
theorem gf {ops:Array Oper}{D:Nat→Bool}(dO:∀ i o,ops[i]? = some o→D i=true→∀ e∈o.after,Region.binds .any e=true→D e.on=true) :
 ∀ (f i k:Nat),kH ops f i k=true→(∀ o,ops[i]? = some o→∀ e∈o.after,Region.binds .any e=true→D e.on=true)→D k=true
 | 0,i,k,h,_=>by simp[kH]at h
 | f+1,i,k,h,hp=>by
   simp only[kH]at h
   split at h
   ·rename_i o ho
    obtain⟨e,he,h⟩:=Array.any_eq_true'.1 h
    simp only[zJv,zJw,beq_iff_eq]at h
    obtain⟨hb,h⟩:=h
    have hon:=hp o ho e he hb
    rcases h with rfl|h
    ·exact hon
    ·exact gf dO f e.on k h (fun o' ho'=>dO e.on o' ho' hon)
   ·cases h
theorem Ch (m j:Nat):(zJZ m false).getD j false=false:=by
 rcases zJV j m with h|h <;> simp[h]
def pY (Y:Nat):SV:=.v (.pointer (some ⟨Y,0,none⟩))
def Fx.at (F:Fx V){β:Nat→Bt}{fp:Nat→Nat→Prop}{b:List ay}{w:World}(h:Wd F β fp b w):Fx V :=
 ⟨F.n,w,fun k=>∃ i r,b[i]? = some r∧r.cf=true∧fp i k,h.env,fun k ⟨i,r,hi,hm,hk⟩=>(h.cf i r hi hm k hk).elim (fun h1=>zJ3 (V.oI _ F.e0) h1) (fun h1=>F.ownG k h1),β,b,fun k=>∃ i r,b[i]? = some r∧fp i k⟩
theorem Wd.here {β:Nat→Bt}{fp:Nat→Nat→Prop}{b:List ay}{w:World}(h:Wd F β fp b w):Wd (F.at h) β fp b w:=⟨mD.refl _ _,h.bx,fun i r hi hm k hk=>.inr ⟨i,r,hi,hm,hk⟩,⟨bp.refl _ _,zJG _⟩,fun i r hi k hk=>.inr ⟨i,r,hi,hk⟩⟩
theorem Wd.join {b b₂:List ay}{w w':World}{β β₂:Nat→Bt}{fp fp₂:Nat→Nat→Prop}(h:Wd F β fp b w)(h2:Wd (F.at h) β₂ fp₂ b₂ w'):Wd F β₂ fp₂ b₂ w':=by
 have kC:=h2.fr.size
 refine⟨⟨h2.fr.os.trans h.fr.os,h2.fr.tape.trans h.fr.tape,h2.fr.output.trans h.fr.output,zJ3 h.fr.size kC,fun k hk hn=>?_⟩,h2.bx,fun i r hi hm k hk=>?_,?_,fun i r hi k hk=>?_⟩
 ·rw[h2.fr.block k (zJJ hk h.fr.size) (fun⟨i,r,hi,hm,hk'⟩=>?_)]
  ·exact h.fr.block k hk hn
  ·rcases h.cf i r hi hm k hk' with h1|h1
   ·omega
   ·exact hn h1
 ·rcases h2.cf i r hi hm k hk with h1|⟨j,r0,hj,hm0,sC⟩
  ·exact .inl (zJ3 h.fr.size h1)
  ·exact h.cf j r0 hj hm0 k sC
 ·exact⟨fun i hi=>(h.sR.zc i hi).trans (h2.sR.zc i (zJJ hi h.sR.len)),zJ3 h.sR.len h2.sR.len⟩
 ·rcases h2.lO i r hi k hk with h1|⟨j,r0,hj,sC⟩
  ·exact .inl (zJ3 h.fr.size h1)
  ·exact h.lO j r0 hj k sC
theorem Wd.adopt {β:Nat→Bt}{fp:Nat→Nat→Prop}{w:World}{b:List ay}(h:Wd F β fp b w)(r:ay)(t:Bt)(f:Nat→Prop)
 (hr:∀ β',bp (b.length+1) (nT β b.length t) β'→Holds β' t f w r) (hf:∀ k,f k→F.w0.heap.size≤k∧k<w.heap.size∧∀ i r,b[i]? = some r→¬ fp i k) :
 Wd F (nT β b.length t) (og fp b.length f) (b++[r]) w:=by
 have old:∀ {i r'},(b++[r])[i]? = some r'→(i<b.length∧b[i]? = some r')∨(i=b.length∧r'=r):=fun {i r'} hi=>by
  rcases zJV i b.length with aA|rm
  ·rw[zJz aA]at hi;exact .inl ⟨aA,hi⟩
  ·have hi':i=b.length:=by
    have:=(zJu.1 hi).1
    rw[zJC,zJI]at this
    omega
   subst hi'
   rw[zJE (zJG _)]at hi
   simp at hi
   exact .inr ⟨rfl,hi.symm⟩
 have fo:∀ {i},i<b.length→og fp b.length f i=fp i:=fun {i} hi=>by funext k;simp[og,show i≠b.length by omega]
 have fn:og fp b.length f b.length=f:=by funext k;simp[og]
 refine⟨h.fr,fun β' hβ=>?_,fun i r' hi hm k hk=>?_,?_,fun i r' hi k hk=>?_⟩
 ·rw[zJC,zJI]at hβ
  have hb':=h.bx β' hβ.dp
  have kT:β' b.length=t:=by rw[← hβ b.length (by omega),fY]
  refine⟨fun i r' hi=>?_,fun i r' hi k hk=>?_,fun i j r1 r2 hi hj bk hm k hk hk'=>?_⟩
  ·rcases old hi with⟨aA,hi⟩|⟨rfl,rfl⟩
   ·rw[fo aA];exact hb'.holds i r' hi
   ·rw[fn,kT];exact hr β' hβ
  ·rcases old hi with⟨aA,hi⟩|⟨rfl,rfl⟩
   ·rw[fo aA]at hk;exact hb'.lt i r' hi k hk
   ·rw[fn]at hk;exact(hf k hk).2.1
  ·rcases old hi with⟨aA,F9⟩|⟨ei,e1⟩
   ·rcases old hj with⟨hlt',iw⟩|⟨ej,e2⟩
    ·rw[fo aA]at hk;rw[fo hlt']at hk';exact hb'.sep i j r1 r2 F9 iw bk hm k hk hk'
    ·rw[ej]at hk'
     rw[fo aA]at hk;rw[fn]at hk'
     exact(hf k hk').2.2 i r1 F9 hk
   ·rcases old hj with⟨hlt',iw⟩|⟨ej,e2⟩
    ·rw[ei]at hk
     rw[fn]at hk;rw[fo hlt']at hk'
     exact(hf k hk).2.2 j r2 iw hk'
    ·exact bk (ei.trans ej.symm)
 ·rcases old hi with⟨aA,hi⟩|⟨rfl,rfl⟩
  ·rw[fo aA]at hk;exact h.cf i r' hi hm k hk
  ·rw[fn]at hk;exact .inl (hf k hk).1
 ·have hl:=h.sR.len
  exact⟨fun i hi=>(h.sR.zc i hi).trans (dZ β _ _ i (by omega)),by rw[zJC];omega⟩
 ·rcases old hi with⟨aA,hi⟩|⟨rfl,rfl⟩
  ·rw[fo aA]at hk;exact h.lO i r' hi k hk
  ·rw[fn]at hk;exact .inl (hf k hk).1
structure FlD where
 d:Nat→Nat
 z:Nat→List SV
 T:Nat→TypeId
 L:Nat→Nat
 q:Nat→Option (Nat × Nat)
def flR (q:Option (Nat × Nat))(z:List SV)(T:TypeId):ay:=match q with
 | none=>.cells z T true
 | some (s,n)=>.own z T s n true
def flV (q:Option (Nat × Nat))(L:Nat):SV:=match q with
 | none=>.p L 0
 | some (_,n)=>.o L n
def flB (q:Option (Nat × Nat))(Y:Nat):Bt:=match q with
 | none=>⟨Y,0,0⟩
 | some (_,n)=>⟨Y,0,n+1⟩
def FF (q:Option (Nat × Nat))(Y:Nat):SV:=match q with
 | none=>pY Y
 | some (_,n)=>.v (.slice (some ⟨Y,0,none⟩) n n)
def flW (q:Option (Nat × Nat))(z:List SV):Prop:=match q with
 | none=>True
 | some (s,n)=>z.length=n * s∧n≤maxLen
theorem Iq {q:Option (Nat × Nat)}{z:List SV}{T:TypeId}{Y:Nat}{β':Nat→Bt}{w:World}(hq:flW q z)(h:w.heap[Y]? = some (.cells (z.map (ah β')).toArray T)):Holds β' (flB q Y) (·=Y) w (flR q z T):=by
 cases q with
 | none=>exact⟨rfl,⟨[],(0,0),⟨by rw[zJ0];exact h,.inr (zJG _)⟩,rfl⟩,fun k=>Iff.rfl⟩
 | some p =>
   obtain⟨s,n⟩:=p
   exact dM (rest:=[]) (fz:=(0,0)) (by rw[zJ0];exact h) (.inr (.inl (zJG _))) hq.1 (zJG _) hq.2 (by simpa using hq.1)
theorem fl_conc {q:Option (Nat × Nat)}{Y L:Nat}{β' β:Nat→Bt}(h:β' L=flB q Y):ah β (FF q Y)=ah β' (flV q L):=by
 cases q with
 | none=>simp[ah,pY,FF,flV,h,flB]
 | some p=>obtain⟨s,n⟩:=p;simp[ah,FF,flV,h,flB,oV]
theorem Ir {q:Option (Nat × Nat)}{Y:Nat}(β β':Nat→Bt):ah β (FF q Y)=ah β' (FF q Y):=by
 cases q with
 | none=>simp[ah,pY,FF]
 | some p=>obtain⟨s,n⟩:=p;simp[ah,FF]
def vr (F:Fx V)(G:FlD)(A:Nat→Bool)(t:List (Nat × SV))(b:List ay)(a:Act)(w:World):Prop:=∃ (β:Nat→Bt) (fp:Nat→Nat→Prop) (Y:Nat→Nat) (tt:List (Nat × SV)),
 Fm F β b.length tt a∧Wd F β fp b w ∧
 (∀ k,A k=true→lk (G.d k) tt=some (FF (G.q k) (Y k))∧lk (G.d k) t=some (flV (G.q k) (G.L k))∧F.w0.heap.size≤Y k∧Y k<w.heap.size∧(∀ β',bp b.length β β'→w.heap[Y k]? = some (.cells ((G.z k).map (ah β')).toArray (G.T k)))∧∀ i r,b[i]? = some r→¬ fp i (Y k)) ∧
 (∀ k l,A k=true→A l=true→k≠l→Y k≠Y l)∧∀ e,(∀ k,A k=true→G.d k≠e)→lk e tt=lk e t
theorem vr.none {G:FlD}{A:Nat→Bool}{t:List (Nat × SV)}{b:List ay}{a:Act}{w:World}(h:vr F G A t b a w)(hA:∀ k,A k=false):Rel F ⟨t,b⟩ a w:=by
 obtain⟨β,fp,Y,tt,hf,hw,-,-,hl⟩:=h
 exact wJ ⟨β,fp,hf,hw⟩ (fun d=>(hl d (fun k hk=>by rw[hA k]at hk;cases hk)).symm)
theorem vr.take {G:FlD}{A A':Nat→Bool}{t:List (Nat × SV)}{b:List ay}{a:Act}{w:World}(h:vr F G A t b a w){c:Nat}(hc:A c=true)(hA:∀ k,A' k=true→A k=true∧k≠c)(hA2:∀ k,A k=true→k≠c→A' k=true)(hL:G.L c=b.length)
 (hz:flW (G.q c) (G.z c)) (hd:∀ k,A k=true→k≠c→G.d k≠G.d c):vr F G A' t (b++[flR (G.q c) (G.z c) (G.T c)]) a w:=by
 obtain⟨β,fp,Y,tt,hf,hw,hy,hdis,hl⟩:=h
 obtain⟨g1,g2,g3,g4,g5,g6⟩:=hy c hc
 have dF:=hw.adopt (flR (G.q c) (G.z c) (G.T c)) (flB (G.q c) (Y c)) (·=Y c) (fun β' hβ=>Iq hz (g5 β' hβ.dp)) (fun k hk=>by subst hk;exact⟨g3,g4,g6⟩)
 refine⟨_,_,Y,(G.d c,flV (G.q c) b.length)::tt,⟨fun β' hβ=>?_⟩,dF,fun k hk=>?_,fun k l hk hl' bk=>hdis k l (hA k hk).1 (hA l hl').1 bk,fun e he=>?_⟩
 ·rw[zJC,zJI]at hβ
  have h0:=hf.ok β' hβ.dp
  refine⟨h0.size,h0.defers,fun d x hd=>?_⟩
  simp only[lk]at hd
  split at hd
  ·rename_i e
   subst e
   cases hd
   rw[h0.get _ _ g1]
   exact fl_conc (by rw[← hβ b.length (by omega),fY])
  ·exact h0.get d x hd
 ·obtain⟨iN,fH⟩:=hA k hk
  obtain⟨q1,q2,q3,q4,q5,q6⟩:=hy k iN
  refine⟨?_,q2,q3,q4,fun β' hβ=>q5 β' (by rw[zJC,zJI]at hβ;exact hβ.dp),fun i r hi qH=>?_⟩
  ·simp only[lk];rw[if_neg (hd k iN fH)];exact q1
  ·rcases zJV i b.length with aA|rm
   ·rw[zJz aA]at hi
    exact q6 i r hi (by simpa[og,show i≠b.length by omega] using qH)
   ·have hi':i=b.length:=by
     have:=(zJu.1 hi).1
     rw[zJC,zJI]at this
     omega
    subst hi'
    have:Y k=Y c:=by simpa[og] using qH
    exact hdis k c iN hc fH this
 ·simp only[lk]
  split
  ·rename_i e1
   rw[e1,g2,hL]
  ·rename_i e1
   refine hl e (fun k hk=>?_)
   by_cases hkc:k=c
   ·subst hkc;exact fun q=>e1 q.symm
   ·exact he k (hA2 k hk hkc)
theorem IB {ops:Array Oper}{recs:List jT}{a0:Act}{w:World}{t0:List (Nat × SV)}{b0:List ay}{Q:Exit→Act→World→Prop}(G:FlD)(T:Nat→List (Nat × SV))(B:Nat→List ay)(hT0:∀ d,lk d (T 0)=lk d t0)(nE:B 0=b0)
 (hT:∀ i,i<ops.size→∀ d,lk d (T (i+1))=lk d (put (ib ops i) (recs.getD i bP).x (T i)))
 (hB:∀ i,i<ops.size→B (i+1)=(recs.getD i bP).nb.getD (B i))
 (Fk:∀ i,i<ops.size→∀ F':Fx V,F'.n=F.n→vq F' ops i (T i) (B i) (recs.getD i bP)) (HA:∀ i,i<ops.size→UnE (recs.getD i bP) (B i))
 (mg:∀ k,eh ops k=true→ib ops k=some (G.d k)∧G.d k<F.n∧G.L k=(B k).length∧(∃ W,recs.getD k bP=⟨flV (G.q k) (B k).length,some (B k++[flR (G.q k) (G.z k) (G.T k)]),false,[],W⟩)∧flW (G.q k) (G.z k)∧∃ o,ops[k]? = some o∧o.guard=none ∧
   ∀ (β:Nat→Bt) (m:Nat) (tt:List (Nat × SV)) (a:Act) (w:World),Fm F β m tt a→(∀ d∈o.looksAt ops,lk d tt=lk d (T k))→∀ β',bp m β β'→(execOp a.eval o).run V.P w=Result.ok (.value (ah jR (FF (G.q k) w.heap.size))) (w.alloc (.cells ((G.z k).map (ah β')).toArray (G.T k))))
 (hlen:recs.length=ops.size) (hc:IX ops (recs.map fun r=>⟨r.nb.isSome,r.all,r.rd,r.wr⟩)) (hr:Rel F ⟨t0,b0⟩ a0 w)
 (hQ:∀ a w',Rel F ⟨T ops.size,B ops.size⟩ a w'→Q .normal a w'):wpAny V.P .any ops Q ops.size (zJZ ops.size false) a0 { w with drawn:=w.drawn+1 }:=by
 simp only[IX,zJv]at hc
 obtain⟨hc,hah⟩:=hc
 let n:=ops.size
 let isS:Nat→Prop:=fun k=>(recs.getD k bP).nb.isSome=true
 have hrk:∀ k,k<n→(((recs.map fun r=>(⟨r.nb.isSome,r.all,r.rd,r.wr⟩:Rk))[k]?).getD vL)=⟨(recs.getD k bP).nb.isSome,(recs.getD k bP).all,(recs.getD k bP).rd,(recs.getD k bP).wr⟩:=fun k hk=>by
  have hk':k<recs.length:=by rw[hlen];exact hk
  simp[zJD,zJR hk']
 have HM:∀ i k,i<n→k<n→k≠i→tK ops (recs.map fun r=>(⟨r.nb.isSome,r.all,r.rd,r.wr⟩:Rk)) i k=true:=fun i k hi hk bk=>by
  have h1:=zJy.1 (zJy.1 hc i (zJK.2 hi)) k (zJK.2 hk)
  simp only[zJw,beq_iff_eq]at h1
  rcases h1 with h1|h1
  ·exact absurd h1 bk
  ·exact h1
 have HK:∀ i k,k<n→x8 ops (recs.map fun r=>(⟨r.nb.isSome,r.all,r.rd,r.wr⟩:Rk)) i k=true→eh ops k=true→k<i→∀ j,j<k→isS j→kH ops ops.size i j=true:=fun i k hk hp hf iV j hj hs=>by
  unfold x8 at hp
  rw[hf,decide_eq_true iV]at hp
  simp only[Bool.and_self,Bool.not_true,Bool.false_or]at hp
  have h1:=zJy.1 hp j (zJK.2 hj)
  rw[hrk j (by omega)]at h1
  have hs':(recs.getD j bP).nb.isSome=true:=hs
  have h1:(!((recs.getD j bP).nb.isSome)||kH ops ops.size i j)=true:=h1
  rw[hs',Bool.not_true,Bool.false_or]at h1
  exact h1
 -- what must be ordered
 have HD:∀ i k,i<n→k<n→k≠i→rL ops i k=true→tc ops i k=true∧(eh ops k=true→k<i→∀ j,j<k→isS j→kH ops ops.size i j=true):=fun i k hi hk bk Fw=>by
  have h1:=HM i k hi hk bk
  unfold tK at h1
  rw[if_pos Fw,zJv]at h1
  exact⟨h1.1,HK i k hk h1.2⟩
 have hSS:∀ i k,k<i→i<n→isS i→isS k→eh ops i=false→kH ops ops.size i k=true:=fun i k iV hi hsi BS hnf=>by
  have h1:=HM i k hi (by omega) (by omega)
  have hmax:max i k=i:=by omega
  unfold tK at h1
  rw[hrk i hi,hrk k (by omega)]at h1
  have e1:(recs.getD i bP).nb.isSome=true:=hsi
  have e2:(recs.getD k bP).nb.isSome=true:=BS
  split at h1
  ·rw[zJv]at h1
   have:=h1.1
   unfold tc at this
   rwa [if_pos iV]at this
  ·rw[if_pos (by simp only[e1,e2,Bool.and_self]),hmax,hnf,Bool.false_or]at h1
   unfold tc at h1
   rwa [if_pos iV]at h1
 have o7:∀ i k,i<n→k<n→k≠i→¬ isS i→isS k→∀ x∈(recs.getD i bP).rd,((recs.getD k bP).all=true∨∃ y∈(recs.getD k bP).wr,ovl x y=true)→tc ops i k=true∧(eh ops k=true→k<i→∀ j,j<k→isS j→kH ops ops.size i j=true):=fun i k hi hk bk hnsi hs x hx Fw=>by
  have h1:=HM i k hi hk bk
  unfold tK at h1
  rw[hrk i hi,hrk k hk]at h1
  have e1:(recs.getD i bP).nb.isSome=false:=by
   cases h:(recs.getD i bP).nb.isSome with
   | false=>rfl
   | true=>exact absurd h hnsi
  split at h1
  ·rw[zJv]at h1
   exact⟨h1.1,HK i k hk h1.2⟩
  ·rw[if_neg (by simp only[e1,Bool.false_and];simp),if_pos (by
    simp only[zJv,Bool.not_eq_true']
    refine⟨hs,?_⟩
    cases hl:(recs.getD i bP).rd with
    | nil=>rw[hl]at hx;cases hx
    | cons _ _=>rfl)]at h1
   simp only[zJw,Bool.not_eq_true',zJv]at h1
   rcases h1 with h1|h1
   ·exact⟨h1.1,HK i k hk h1.2⟩
   ·exfalso
    simp only[Bool.or_eq_false_iff]at h1
    rcases Fw with Fw|⟨y,hy,hxy⟩
    ·rw[Fw]at h1;cases h1.1
    ·have:lX (recs.getD i bP).rd (recs.getD k bP).wr=true:=by
      unfold lX
      exact zJO.2 ⟨x,hx,zJO.2 ⟨y,hy,hxy⟩⟩
     rw[this]at h1
     cases h1.2
 have A8:∀ k,eh ops k=true→k<n:=fun k hk=>by
  obtain⟨-,-,-,-,-,o,ho,-⟩:=mg k hk
  exact(zJx.1 ho).1
 have hflS:∀ k,eh ops k=true→isS k:=fun k hk=>by
  obtain⟨-,-,-,⟨_,HG⟩,-⟩:=mg k hk
  show (recs.getD k bP).nb.isSome=true
  rw[HG];rfl
 -- the run in the text's order
 have hTf:∀ i,i≤n→∀ d,lk d (T i)=lk d (cH (uS ops recs) (qY i) i t0):=fun i=>by
  induction i with
  | zero=>intro _ d;exact hT0 d
  | succ i ih =>
    intro hi d
    rw[hT i (by omega) d,wh]
    exact jm (ih (by omega) d)
 have huS:∀ d k (s s':List (Nat × SV)),lk d s=lk d s'→lk d (uS ops recs k s)=lk d (uS ops recs k s'):=fun d k s s' h=>jm h
 have hchS:∀ d k,(∃ s,lk d (uS ops recs k s)≠lk d s)→ib ops k=some d:=fun d k ⟨s,hs⟩=>by
  unfold uS at hs
  rw[kA]at hs
  by_cases h:ib ops k=some d
  ·exact h
  ·rw[if_neg h]at hs;exact absurd rfl hs
 have hidN:∀ k,¬ isS k→∀ b,(recs.getD k bP).nb.getD b=b:=fun k hs b=>by
  cases h:(recs.getD k bP).nb with
  | none=>rfl
  | some x=>exact absurd (by show ((recs.getD k bP).nb).isSome=true;rw[h];rfl) hs
 let AS:(Nat→Bool)→Nat→Nat→Bool:=fun D c k=>eh ops k&&(D k&&decide (c≤k))
 have hdis:∀ k l,eh ops k=true→eh ops l=true→k≠l→G.d k=G.d l→∀ (D:Nat→Bool),(∀ i o,ops[i]? = some o→D i=true→∀ e∈o.after,Region.binds .any e=true→D e.on=true)→D k=true→D l=true→∀ c,c<n→D c=false→isS c→c≤k→c≤l→False:=fun k l hk hl bk he D dO hDk hDl c H4 Gb jo H6 hcl'=>by
  -- the later one comes behind all that is ahead of the earlier one
  have key:∀ k l,eh ops k=true→eh ops l=true→k<l→G.d k=G.d l→D k=true→D l=true→c≤k→False:=fun k l hk hl sV he hDk hDl H6=>by
   obtain⟨D8,-⟩:=mg k hk
   obtain⟨pb,-,-,-,-,o,ho,-⟩:=mg l hl
   have hs:rL ops l k=true:=by
    unfold rL
    unfold ib at D8
    rw[D8,ho]
    have:o.dst=some (G.d l):=by unfold ib at pb;rw[ho]at pb;exact pb
    simp[this,he]
   obtain⟨-,h2⟩:=HD l k (A8 l hl) (A8 k hk) (by omega) hs
   have hck':c≠k:=fun e=>by rw[← e,Gb]at hDk;cases hDk
   have:=gf dO _ l c (h2 hk sV c (by omega) jo) (fun o' ho'=>dO l o' ho' hDl)
   rw[Gb]at this;cases this
  rcases Nat.lt_or_gt_of_ne bk with h|h
  ·exact key k l hk hl h he hDk hDl H6
  ·exact key l k hl hk h he.symm hDl hDk hcl'
 -- those that are next are counted
 have hadv:∀ (D:Nat→Bool) (a:Act) (w:World) (t:List (Nat × SV)),(∀ i o,ops[i]? = some o→D i=true→∀ e∈o.after,Region.binds .any e=true→D e.on=true)→∀ (m c:Nat),c+m=n→(∀ k,k<c→isS k→D k=true)→(∀ k,c≤k→k<n→isS k→D k=true→eh ops k=true) →
  (∀ k l,AS D c k=true→AS D c l=true→k≠l→G.d k≠G.d l)→vr F G (AS D c) t (B c) a w→∃ c',c'≤n∧(∀ k,k<c'→isS k→D k=true)∧(c'<n→isS c'∧D c'=false)∧vr F G (AS D c') t (B c') a w:=fun D a w t dO m=>by
  induction m with
  | zero =>
    intro c H4 dz _ _ hrel
    exact⟨c,by omega,dz,fun h=>by omega,hrel⟩
  | succ m ih =>
    intro c H4 dz A9 hdd hrel
    by_cases hs:isS c
    ·cases hD:D c with
     | false=>exact⟨c,by omega,dz,fun _=>⟨hs,hD⟩,hrel⟩
     | true =>
       have hf:=A9 c (zJG _) (by omega) hs hD
       obtain⟨-,-,hL,⟨_,HG⟩,hW,-⟩:=mg c hf
       have hBc:B (c+1)=B c++[flR (G.q c) (G.z c) (G.T c)]:=by rw[hB c (by omega),HG];rfl
       have hAc:AS D c c=true:=by simp[AS,hf,hD]
       have hA1:∀ k,AS D (c+1) k=true→AS D c k=true∧k≠c:=fun k hk=>by
        simp only[AS,zJv,decide_eq_true_eq]at hk ⊢
        exact⟨⟨hk.1,hk.2.1,by omega⟩,by omega⟩
       refine ih (c+1) (by omega) (fun k hk BS=>?_) (fun k hk=>A9 k (by omega)) (fun k l hk hl=>hdd k l (hA1 k hk).1 (hA1 l hl).1) ?_
       ·rcases Nat.lt_or_eq_of_le (Nat.lt_succ_iff.1 hk) with h1|rfl
        ·exact dz k h1 BS
        ·exact hD
       ·rw[hBc]
        refine hrel.take hAc hA1 (fun k hk bk=>?_) hL hW (fun k hk bk=>hdd k c hk hAc bk)
        simp only[AS,zJv,decide_eq_true_eq]at hk ⊢
        exact⟨hk.1,hk.2.1,by omega⟩
    ·have hBc:B (c+1)=B c:=by rw[hB c (by omega)];exact hidN c hs _
     have Fy:AS D (c+1)=AS D c:=by
      funext k
      by_cases hk:eh ops k=true
      ·have bk:k≠c:=fun e=>hs (e ▸ hflS k hk)
       simp only[AS]
       congr 2
       exact decide_eq_decide.2 ⟨fun h=>by omega,fun h=>by omega⟩
      ·simp only[AS,Bool.not_eq_true]at hk ⊢
       rw[hk];rfl
     refine ih (c+1) (by omega) (fun k hk BS=>?_) (fun k hk=>A9 k (by omega)) (by rw[Fy];exact hdd) (by rw[hBc,Fy];exact hrel)
     rcases Nat.lt_or_eq_of_le (Nat.lt_succ_iff.1 hk) with h1|rfl
     ·exact dz k h1 BS
     ·exact absurd BS hs
 let Inv:(Nat→Bool)→Act→World→Prop:=fun D a w=>(∃ c,c≤n∧(∀ k,k<c→isS k→D k=true)∧(c<n→isS c∧D c=false)∧vr F G (AS D c) (cH (uS ops recs) D n t0) (B c) a w)∧(∀ i o,ops[i]? = some o→D i=true→∀ e∈o.after,Region.binds .any e=true→D e.on=true)
 refine ED Inv ?_ ?_ ops.size _ a0 _ (by simp) (by simp) ?_
 ·rintro listed a w i kC ⟨⟨c,H4,dz,kE,hrel⟩,dO⟩ hi
  obtain⟨hun1,o,ho,aT⟩:=mem_ready.1 hi
  have mr:i<n:=(zJx.1 ho).1
  have hDi:listed.getD i false=false:=by
   have:i<listed.size:=by rw[kC];exact mr
   simp[this]at hun1 ⊢;exact hun1
  have F2:∀ o',ops[i]? = some o'→∀ e∈o'.after,Region.binds .any e=true→listed.getD e.on false=true:=fun o' ho' e he hb=>by
   rw[ho]at ho';cases ho';exact aT e he hb
  obtain⟨D,hDD⟩:∃ D:Nat→Bool,D=fun k=>listed.getD k false:=⟨_,rfl⟩
  have hDk:∀ k,listed.getD k false=D k:=fun k=>by rw[hDD]
  rw[← hDD]at hrel dO ⊢
  rw[hDk]at hDi
  simp only[hDk]at F2 dz kE
  have H5:∀ l o',ops[l]? = some o'→eD D i l=true→∀ e∈o'.after,Region.binds .any e=true→eD D i e.on=true:=by
   intro l o' ho' hl e he hb
   simp only[eD,zJw,decide_eq_true_eq]at hl ⊢
   rcases hl with hl|rfl
   ·exact .inl (dO l o' ho' hl e he hb)
   ·exact .inl (F2 o' ho' e he hb)
  have order:∀ k,k<n→k≠i→tc ops i k=true→D k=decide (k<i):=fun k hk bk h1=>by
   unfold tc at h1
   split at h1
   ·rename_i aA
    rw[decide_eq_true aA]
    exact gf dO _ i k h1 F2
   ·rename_i aA
    rw[decide_eq_false aA]
    cases hD:D k with
    | false=>rfl
    | true =>
      have:=gf dO _ k i h1 (fun o' ho'=>dO k o' ho' hD)
      rw[hDi]at this
      cases this
  have H3:∀ d,(d∈o.looksAt ops∨o.dst=some d)→∀ k,k<n→(∃ s,lk d (uS ops recs k s)≠lk d s)→D k=decide (k<i):=fun d hd k hk hch=>by
   by_cases iV:k=i
   ·subst iV;rw[hDi];simp
   ·refine order k hk iV (HD i k mr hk iV ?_).1
    unfold rL
    have:=hchS d k hch
    unfold ib at this
    rw[this,ho]
    simp only[zJw,zJX,beq_iff_eq]
    exact hd
  have HQ:∀ d,d∈o.looksAt ops→lk d (cH (uS ops recs) D n t0)=lk d (T i):=fun d hd=>by
   rw[hTf i (Nat.le_of_lt mr) d]
   exact Il (uS ops recs) (lk d) (huS d) D n i t0 (Nat.le_of_lt mr) (H3 d (.inl hd))
  have e1:∀ d,lk d (cH (uS ops recs) (eD D i) n t0)=lk d (put o.dst (recs.getD i bP).x (cH (uS ops recs) D n t0)):=fun d=>by
   have hd:ib ops i=o.dst:=by unfold ib;rw[ho];rfl
   have:=Io (uS ops recs) (lk d) (huS d) D n i t0 mr hDi (fun hch k hk hk' hD=>by
    have hdd:=hchS d i hch
    rw[hd]at hdd
    have:=H3 d (.inr hdd) k hk hk'
    rw[hD]at this
    exact of_decide_eq_true this.symm)
   rw[this]
   unfold uS
   rw[hd]
  -- what is done of what changes things
  have uG:∀ k,c≤k→k<n→isS k→D k=true→eh ops k=true:=fun k H6 hk hs hD=>by
   cases hf:eh ops k with
   | true=>rfl
   | false =>
     exfalso
     obtain⟨jo,Gb⟩:=kE (by omega)
     have bk:c≠k:=fun e=>by rw[← e,Gb]at hD;cases hD
     have:=gf dO _ k c (hSS k c (by omega) hk hs jo hf) (fun o' ho'=>dO k o' ho' hD)
     rw[Gb]at this
     cases this
  have hA:∀ k,AS D c k=true→eh ops k=true∧D k=true∧c≤k:=fun k hk=>by
   simp only[AS,zJv,decide_eq_true_eq]at hk
   exact hk
  have hnear:∀ k,AS D c k=true→(eh ops k=true→k<i→∀ j,j<k→isS j→kH ops ops.size i j=true)→D k=decide (k<i)→False:=fun k hk h2 h3=>by
   obtain⟨hf,hD,H6⟩:=hA k hk
   have F7:=A8 k hf
   obtain⟨jo,Gb⟩:=kE (by omega)
   have bk:c≠k:=fun e=>by rw[← e,Gb]at hD;cases hD
   rw[hD]at h3
   have iV:=of_decide_eq_true h3.symm
   have:=gf dO _ i c (h2 hf iV c (by omega) jo) F2
   rw[Gb]at this
   cases this
  have rq:∀ k,AS D c k=true→G.d k ∉ o.looksAt ops∧o.dst≠some (G.d k):=fun k hk=>by
   obtain⟨hf,hD,H6⟩:=hA k hk
   have F7:=A8 k hf
   have iV:k≠i:=fun e=>by rw[e,hDi]at hD;cases hD
   have fA:¬ rL ops i k=true:=fun hs=>by
    obtain⟨h1,h2⟩:=HD i k mr F7 iV hs
    exact hnear k hk h2 (order k F7 iV h1)
   have D8:=(mg k hf).1
   unfold ib at D8
   unfold rL at fA
   rw[D8,ho]at fA
   simp only[zJw,zJX,beq_iff_eq,not_or]at fA
   exact fA
  have hddD:∀ k l,AS D c k=true→AS D c l=true→k≠l→G.d k≠G.d l:=fun k l hk hl bk he=>by
   obtain⟨hf,hD,H6⟩:=hA k hk
   obtain⟨hf',hD',hck'⟩:=hA l hl
   have F7:=A8 k hf
   obtain⟨jo,Gb⟩:=kE (by omega)
   exact hdis k l hf hf' bk he D dO hD hD' c (by omega) Gb jo H6 hck'
  -- an operation that is no such cell
  have HL:eh ops i=false→((recs.getD i bP).nb.isSome=true→B c=B i)→((recs.getD i bP).nb=none→∀ x∈(recs.getD i bP).rd,seen x (B i) (B c))→∀ c',(recs.getD i bP).nb.getD (B c)=B c'→(∀ k,AS (eD D i) c' k=AS D c k) →
   wpOp V.P ops Q i (fun a' w'=>vr F G (AS (eD D i) c') (cH (uS ops recs) (eD D i) n t0) (B c') a' w') a w:=fun hnf hb kS c' hc' Fy=>by
   obtain⟨β,fp,Y,tt,hf,hw,hy,hd,A5⟩:=hrel
   refine Fk i mr (F.at hw) rfl Q _ a w tt (B c) o ho (fun d hd'=>(A5 d (fun k hk e=>(rq k hk).1 (by rw[e];exact hd'))).trans (HQ d hd')) hb kS ⟨β,fp,⟨hf.ok⟩,hw.here⟩ ?_
   rintro a' w' ⟨β₂,fp₂,Fp,dF⟩
   have kC:w.heap.size≤w'.heap.size:=dF.fr.size
   rw[show (⟨put o.dst (recs.getD i bP).x tt,(recs.getD i bP).nb.getD (B c)⟩:St)=⟨put o.dst (recs.getD i bP).x tt,B c'⟩ by rw[hc']]at Fp dF
   refine⟨β₂,fp₂,Y,put o.dst (recs.getD i bP).x tt,⟨Fp.ok⟩,hw.join dF,fun k hk=>?_,fun k l hk hl=>hd k l (by rw[← Fy];exact hk) (by rw[← Fy];exact hl),fun e he=>?_⟩
   ·rw[Fy]at hk
    obtain⟨g1,g2,g3,g4,g5,g6⟩:=hy k hk
    have bk:=(rq k hk).2
    refine⟨by rw[kA,if_neg bk];exact g1,by rw[e1,kA,if_neg bk];exact g2,g3,zJJ g4 kC,fun β' hβ=>(dF.fr.block _ g4 (fun⟨j,r,hj,_,hk⟩=>g6 j r hj hk)).trans (g5 β' (fun i hi=>(dF.sR.zc i hi).trans (hβ i (zJJ hi dF.sR.len)))),fun j r hj hk=>?_⟩
    rcases dF.lO j r hj _ hk with h1|⟨j',r',hj',hk'⟩
    ·have:w.heap.size≤Y k:=h1
     omega
    ·exact g6 j' r' hj' hk'
   ·rw[e1,kA,kA]
    split
    ·rfl
    ·exact A5 e (fun k hk=>he k (by rw[Fy];exact hk))
  have se:∀ c' k,k≠i→AS (eD D i) c' k=AS D c' k:=fun c' k hk=>by simp[AS,eD,hk]
  by_cases CX:eh ops i=true
  ·
   have hci:c≤i:=by
    apply Nat.le_of_not_lt
    intro aA
    have:=dz i aA (hflS i CX)
    rw[hDi]at this;cases this
   obtain⟨hdi,hdn,hLi,⟨_,HG⟩,hW,o',ho',hg,nA⟩:=mg i CX
   rw[ho]at ho'
   cases ho'
   have xf:o.dst=some (G.d i):=by unfold ib at hdi;rw[ho]at hdi;exact hdi
   have nz:∀ a' w',vr F G (AS (eD D i) c) (cH (uS ops recs) (eD D i) n t0) (B c) a' w'→Inv (eD D i) a' w':=fun a' w' hr'=>by
    refine⟨hadv (eD D i) a' w' _ H5 (n - c) c (by omega) (fun k hk hs=>by simp[eD,dz k hk hs]) (fun k hk F7 hs hD=>?_) (fun k l hk hl bk he=>?_) hr',H5⟩
    ·by_cases iV:k=i
     ·rw[iV];exact CX
     ·exact uG k hk F7 hs (by simpa[eD,iV] using hD)
    ·by_cases iV:k=i
     ·subst iV
      have hl':AS D c l=true:=by rw[← se c l (fun e=>bk e.symm)];exact hl
      exact(rq l hl').2 (by rw[xf,he])
     ·by_cases hli:l=i
      ·subst hli
       have hk':AS D c k=true:=by rw[← se c k iV];exact hk
       exact(rq k hk').2 (by rw[xf,he])
      ·exact hddD k l (by rw[← se c k iV];exact hk) (by rw[← se c l hli];exact hl) bk he
   refine wpOp_mono (fun a' w' h=>nz a' w' h) ?_
   obtain⟨β,fp,Y,tt,hf,hw,hy,hd,A5⟩:=hrel
   have jJ:=ho
   unfold wpOp
   rw[ho]
   simp only
   rw[if_pos (by simp[Region.wanted,hg])]
   left
   have hex:=nA β _ tt a w hf (fun d hd'=>(A5 d (fun k hk e=>(rq k hk).1 (by rw[e];exact hd'))).trans (HQ d hd'))
   have bG:=hex β (bp.refl _ _)
   have hall':∀ β',bp (B c).length β β'→(G.z i).map (ah β)=(G.z i).map (ah β'):=fun β' hβ=>by
    have h1:=hex β' hβ
    rw[bG]at h1
    injection h1 with _ h1
    have h2:=congrArg (fun w':World=>w'.heap[w.heap.size]?) h1
    simp only[cw]at h2
    have h3:=(Obj.cells.inj (zJF.inj h2)).1
    exact congrArg Array.toList h3
   have uP:Below w.heap.size w (w.alloc (.cells ((G.z i).map (ah β)).toArray (G.T i))):=(Below.refl _ _).alloc (zJG _) _
   have fI:=cw w (.cells ((G.z i).map (ah β)).toArray (G.T i))
   have kC:(w.alloc (.cells ((G.z i).map (ah β)).toArray (G.T i))).heap.size=w.heap.size+1:=size_alloc _ _
   refine wp_of_value bG ?_
   rw[xf]
   generalize w.alloc (.cells ((G.z i).map (ah β)).toArray (G.T i))=w2 at uP fI kC
   refine⟨β,fp,fun k=>if k=i then w.heap.size else Y k,(G.d i,FF (G.q i) w.heap.size)::tt,⟨fun β' hβ=>by rw[Ir jR β'];exact(hf.ok β' hβ).put hdn (FF (G.q i) w.heap.size)⟩,hw.below uP,fun k hk=>?_,fun k l hk hl bk=>?_,fun e he=>?_⟩
   ·by_cases iV:k=i
    ·subst iV
     simp only[if_true]
     refine⟨by simp[lk],?_,hw.fr.size,by omega,fun β' hβ=>by rw[← hall' β' hβ];exact fI,fun j r hj hk=>?_⟩
     ·rw[e1,kA,if_pos xf,HG,hLi]
     ·have:=(hw.bx β (bp.refl _ _)).lt j r hj _ hk
      omega
    ·have hk':AS D c k=true:=by rw[← se c k iV];exact hk
     obtain⟨g1,g2,g3,g4,g5,g6⟩:=hy k hk'
     have bk:=(rq k hk').2
     simp only[if_neg iV]
     refine⟨?_,?_,g3,by omega,fun β' hβ=>(uP.block _ g4).trans (g5 β' hβ),g6⟩
     ·simp only[lk]
      rw[if_neg (fun e=>bk (by rw[xf,e]))]
      exact g1
     ·rw[e1,kA,if_neg bk];exact g2
   ·have D1:∀ k,AS (eD D i) c k=true→k≠i→AS D c k=true:=fun k h1 h2=>by rw[← se c k h2];exact h1
    by_cases k1:k=i
    ·have k2:l≠i:=fun e=>bk (k1.trans e.symm)
     simp only[if_pos k1,if_neg k2]
     have:=(hy l (D1 l hl k2)).2.2.2.1
     omega
    ·by_cases k2:l=i
     ·simp only[if_neg k1,if_pos k2]
      have:=(hy k (D1 k hk k1)).2.2.2.1
      omega
     ·simp only[if_neg k1,if_neg k2]
      exact hd k l (D1 k hk k1) (D1 l hl k2) bk
   ·have bk:G.d i≠e:=he i (by simp[AS,eD,CX,hci])
    have h1:lk e ((G.d i,FF (G.q i) w.heap.size)::tt)=lk e tt:=by simp only[lk];rw[if_neg (fun q=>bk q.symm)]
    rw[h1,A5 e (fun k hk=>he k (by
     obtain⟨-,hD,-⟩:=hA k hk
     rw[se c k (fun q=>by rw[q,hDi]at hD;cases hD)];exact hk)),e1,kA,if_neg (fun q=>bk (zJF.inj (xf.symm.trans q)))]
  ·have CX:eh ops i=false:=by simpa using CX
   by_cases hs:isS i
   ·
    have hci:c=i:=by
     apply Nat.le_antisymm
     ·apply Nat.le_of_not_lt
      intro aA
      have:=dz i aA hs
      rw[hDi]at this;cases this
     ·apply Nat.le_of_not_lt
      intro aA
      obtain⟨jo,Gb⟩:=kE (by omega)
      have:=gf dO _ i c (hSS i c aA mr hs jo CX) F2
      rw[Gb]at this;cases this
    subst hci
    have Fy:∀ k,AS (eD D c) (c+1) k=AS D c k:=fun k=>by
     by_cases hkc:k=c
     ·subst hkc;simp[AS,CX]
     ·simp only[AS,eD,hkc,decide_false,Bool.or_false]
      congr 2
      exact decide_eq_decide.2 ⟨fun h=>by omega,fun h=>by omega⟩
    refine wpOp_mono ?_ (HL CX (fun _=>rfl) (fun xh=>by have:(recs.getD c bP).nb.isSome=true:=hs;rw[xh]at this;cases this) (c+1) (hB c mr).symm Fy)
    intro a' w' hr'
    refine⟨hadv (eD D c) a' w' _ H5 (n - (c+1)) (c+1) (by omega) (fun k hk BS=>?_) (fun k hk F7 BS hD=>uG k (by omega) F7 BS (by simpa[eD,show k≠c by omega] using hD)) (fun k l hk hl=>hddD k l (by rw[← Fy];exact hk) (by rw[← Fy];exact hl)) hr',H5⟩
    rcases Nat.lt_or_eq_of_le (Nat.lt_succ_iff.1 hk) with h1|rfl
    ·simp[eD,dz k h1 BS]
    ·simp[eD]
   ·
    have kS:∀ x∈(recs.getD i bP).rd,seen x (B i) (B c):=fun x hx q hq=>by
     have step:∀ k,k<n→(k<i∧c≤k∨i<k∧k<c)→((B (k+1))[x.1]?).map (ob q)=((B k)[x.1]?).map (ob q):=fun k hk hb=>by
      rw[hB k hk]
      cases xh:(recs.getD k bP).nb with
      | none=>rfl
      | some nb =>
        have BS:isS k:=by show ((recs.getD k bP).nb).isSome=true;rw[xh];rfl
        have bk:k≠i:=by omega
        have fA:¬ ((recs.getD k bP).all=true∨∃ y∈(recs.getD k bP).wr,ovl x y=true):=fun Fw=>by
         obtain⟨h1,h2⟩:=o7 i k mr hk bk hs BS x hx Fw
         have h3:=order k hk bk h1
         rcases hb with⟨iV,H6⟩|⟨hik,hkc⟩
         ·have hD:D k=true:=by rw[h3];exact decide_eq_true iV
          exact hnear k (by simp only[AS,uG k H6 hk BS hD,hD,decide_eq_true H6,Bool.and_self]) h2 h3
         ·have:=dz k hkc BS
          rw[h3,decide_eq_false (by omega)]at this
          cases this
        simp only[not_or,not_exists,not_and,Bool.not_eq_true]at fA
        exact HA k hk nb xh fA.1 x.1 q (fun y hy=>E4 (fA.2 y hy) hq)
     have walk:∀ (m p:Nat),p+m≤n→(∀ k,p≤k→k<p+m→((B (k+1))[x.1]?).map (ob q)=((B k)[x.1]?).map (ob q))→((B (p+m))[x.1]?).map (ob q)=((B p)[x.1]?).map (ob q):=fun m p=>by
      induction m with
      | zero=>intro _ _;rfl
      | succ m ih =>
        intro h1 h2
        have:=h2 (p+m) (by omega) (by omega)
        rw[show p+(m+1)=p+m+1 by omega,this]
        exact ih (by omega) (fun k h3 h4=>h2 k h3 (by omega))
     rcases zJV c i with aA|rm
     ·have:=walk (i - c) c (by omega) (fun k h3 h4=>step k (by omega) (.inl ⟨by omega,h3⟩))
      rw[show c+(i - c)=i by omega]at this
      exact this.symm
     ·have hi1:((B (i+1))[x.1]?).map (ob q)=((B i)[x.1]?).map (ob q):=by
       rw[hB i mr,hidN i hs (B i)]
      have:=walk (c - i) i (by omega) (fun k h3 h4=>by
       rcases Nat.lt_or_eq_of_le h3 with h5|rfl
       ·exact step k (by omega) (.inr ⟨h5,by omega⟩)
       ·exact hi1)
      rw[show i+(c - i)=c by omega]at this
      exact this
    have Fy:∀ k,AS (eD D i) c k=AS D c k:=fun k=>by
     by_cases iV:k=i
     ·subst iV;simp[AS,CX]
     ·exact se c k iV
    refine wpOp_mono ?_ (HL CX (fun h=>absurd h hs) (fun _=>kS) c (hidN i hs _) Fy)
    intro a' w' hr'
    refine⟨⟨c,H4,fun k hk BS=>by simp[eD,dz k hk BS],fun aA=>⟨(kE aA).1,?_⟩,hr'⟩,H5⟩
    have bk:c≠i:=fun e=>hs (e ▸ (kE aA).1)
    simp[eD,bk,(kE aA).2]
 ·rintro listed a w kC ⟨⟨c,H4,dz,kE,hrel⟩,dO⟩ hr
  have aT:∀ k,k<n→listed.getD k false=true:=fun k=>by
   induction k using Nat.strongRecOn with
   | _ k ih =>
     intro hk
     cases hl:listed.getD k false with
     | true=>rfl
     | false =>
       exfalso
       obtain⟨o,ho⟩:∃ o,ops[k]? = some o:=⟨ops[k]'hk,by simp[hk]⟩
       have hks:k<listed.size:=by rw[kC];exact hk
       have:k∈Region.ready .any ops listed:=by
        refine mem_ready.2 ⟨?_,o,ho,fun e he hb=>?_⟩
        ·simp[hks]at hl ⊢;exact hl
        ·have h1:=zJy.1 hah k (zJK.2 hk)
         rw[ho]at h1
         have h2:=Array.all_eq_true'.1 h1 e he
         simp only[hb,Bool.not_true,Bool.false_or,decide_eq_true_eq]at h2
         exact ih e.on h2 (by omega)
       rw[hr]at this
       cases this
  have hce:c=n:=by
   apply Nat.le_antisymm H4
   apply Nat.le_of_not_lt
   intro aA
   have h1:=(kE aA).2
   have h2:=aT c aA
   simp only at h1
   rw[h2]at h1
   cases h1
  subst hce
  have D0:=hrel.none (fun k=>by
   cases hf:eh ops k with
   | false=>simp only[AS,hf,Bool.false_and]
   | true =>
     have:=A8 k hf
     show (eh ops k&&(listed.getD k false&&decide (ops.size≤k)))=false
     rw[decide_eq_false (show ¬ ops.size≤k from Nat.not_le.2 this),Bool.and_false,Bool.and_false])
  have e1:=Ip (uS ops recs) (fun k=>listed.getD k false) ops.size t0 aT
  have D0:Rel F ⟨cH (uS ops recs) (fun k=>listed.getD k false) ops.size t0,B ops.size⟩ a w:=D0
  rw[e1]at D0
  exact hQ a w (wJ D0 (fun d=>hTf ops.size (zJG _) d))
 ·have e3:(fun k=>(zJZ ops.size false).getD k false)=fun _=>false:=funext fun k=>Ch _ _
  show Inv _ a0 _
  rw[e3]
  have e:∀ {S:Type} (u:Nat→S→S) (m:Nat) (s:S),cH u (fun _=>false) m s=s:=fun u m s=>by
   induction m with
   | zero=>rfl
   | succ m ih=>simp only[cH];rw[if_neg (by simp),ih]
  obtain⟨β,fp,hf,hw⟩:=hr
  refine⟨?_,fun i o _ h=>by cases h⟩
  have h0:vr F G (AS (fun _=>false) 0) t0 (B 0) a0 w.drew:=by
   rw[nE]
   refine⟨β,fp,fun _=>0,t0,hf,hw.drew,fun k hk=>?_,fun k l hk=>?_,fun _ _=>rfl⟩ <;> simp[AS]at hk
  have:=hadv (fun _=>false) a0 w.drew t0 (fun i o _ h=>by cases h) n 0 (by omega) (fun k hk=>by omega) (fun k _ _ _ h=>by cases h) (fun k l hk=>by simp[AS]at hk) h0
  obtain⟨c,h1,h2,h3,h4⟩:=this
  exact⟨c,h1,h2,h3,by rw[e];exact h4⟩
end
open Go Go.RowKit Wf
section
variable {V:Cx} {F:Fx V}
theorem ug {ops:Array Oper}{o:Oper}{t t':List (Nat × SV)}(h:∀ d∈o.looksAt ops,lk d t'=lk d t):∀ x∈o.op.operands,ev t' x=ev t x:=fun x hx=>by
 cases x with
 | tmp d =>
   simp only[ev]
   refine h d ?_
   unfold Oper.looksAt
   simp only[List.mem_append,List.mem_filterMap]
   exact .inl ⟨.tmp d,zJL.2 hx,rfl⟩
 | const _=>rfl
 | global _=>rfl
 | func _=>rfl
theorem sY:∀ (l:List Oper)(j:Nat),eK l j=(l[j]?).bind (·.dst)
 | [],j=>by simp[eK]
 | o::r,0=>by simp[eK]
 | o::r,j+1=>by simp[eK,sY r j]
theorem Bh {ops:Array Oper}{σt:List (Nat × SV)}{β:Nat→Bt}{a:Act}(hf:jU β F.n σt a){j d:Nat}{b:Bool}(h:Yk σt (eK ops.toList j)=some (d,b)) :
 yielded ops a.tmps j=some b∧a.tmps.getD d undef=.bool b:=by
 refine gval_ok hf ?_
 unfold Yk at h
 split at h
 ·rename_i d' hd
  rw[sY]at hd
  unfold gval
  rw[List.getElem?_map]
  cases ho:ops.toList[j]? with
  | none=>rw[ho]at hd;simp at hd
  | some o =>
    rw[ho]at hd
    simp at hd
    simp only[zJM,hd]
    exact h
 ·cases h
theorem Ii {ops:List Oper}{t:List (Nat × SV)}{j:Nat}(h:Ec t (eK ops j)=true):∃ d x,eK ops j=some d∧lk d t=some (.v x)∧nob x=true:=by
 unfold Ec at h
 split at h
 ·rename_i d hd
  split at h
  ·rename_i x hx
   exact⟨d,x,hd,hx,h⟩
  ·cases h
 ·cases h
theorem Ih {ops:Array Oper}{σt:List (Nat × SV)}{β:Nat→Bt}{a:Act}(hf:jU β F.n σt a){j d:Nat}{x:Value}(hd:eK ops.toList j=some d)(hx:lk d σt=some (.v x))(hn:nob x=true):yielded ops a.tmps j=none:=by
 have hg:=hf.get _ _ hx
 simp only[ah]at hg
 rw[sY]at hd
 have hd':(ops[j]?).bind (·.dst)=some d:=by simpa using hd
 unfold yielded
 rw[hd']
 simp only[Option.bind_some]
 cases ht:a.tmps[d]? with
 | none=>rfl
 | some y =>
   have:y=x:=by rw[← hg];simp[zJ4,ht]
   subst this
   cases y <;> simp[nob]at hn ⊢
theorem FC {ops:List Oper}{t t':List (Nat × SV)}{j d:Nat}{b:Bool}(h:Yk t (eK ops j)=some (d,b))(hl:lk d t'=lk d t):Yk t' (eK ops j)=some (d,b):=by
 unfold Yk at h ⊢
 split at h
 ·rename_i d' hd
  split at h
  ·rename_i b' hb
   cases h
   rw[hl,hb]
  ·cases h
 ·cases h
theorem gval_lk {ops:List Oper}{t:List (Nat × SV)}{j d:Nat}{b:Bool}(h:Yk t (eK ops j)=some (d,b)):lk d t=some (.bool b)∧eK ops j=some d:=by
 unfold Yk at h
 split at h
 ·rename_i d' hd
  split at h
  ·rename_i b' hb
   cases h
   exact⟨hb,hd⟩
  ·cases h
 ·cases h
theorem sf {ops:Array Oper}{o:Oper}{j d:Nat}{want:Bool}(hg:o.guard=some (j,want))(hd:eK ops.toList j=some d):d∈o.looksAt ops:=by
 unfold Oper.looksAt
 rw[hg]
 simp only[List.mem_append]
 right
 rw[sY]at hd
 have:(ops[j]?).bind (·.dst)=some d:=by simpa using hd
 rw[this]
 simp
theorem Ax {t:List (Nat × SV)}{d:Nat}{b:Bool}(h:lk d t=some (.bool b)):∀ e,lk e ((d,.bool b)::t)=lk e t:=fun e=>by
 simp only[lk]
 split
 ·rename_i he;subst he;exact h.symm
 ·rfl
theorem zh {ops:Array Oper}{o:Oper}(h:o.guard=none)(a:Act):Region.wanted o (yielded ops a.tmps)=true:=by simp[Region.wanted,h]
theorem DL {ops:Array Oper}{i:Nat}{t tt:List (Nat × SV)}{b:List ay}{o:Oper}{c:Prop}{r:jT}(ho:ops[i]? = some o)(bR:fits F.n o.dst=true)(hs:XV V o.op ⟨tt,b⟩=.val c r)(hc:c)(uB:∀ e,lk e tt=lk e t)
 (hw:∀ (ta:List (Nat × SV)) (ba:List ay) (a:Act) (w:World),Rel F ⟨ta,ba⟩ a w→(∀ d∈o.looksAt ops,lk d ta=lk d t)→Region.wanted o (yielded ops a.tmps)=true):vq F ops i t b r:=by
 intro Q K a w t' b' o' ho' hl hb kS hr hK
 rw[ho]at ho'
 cases ho'
 unfold wpOp
 rw[ho]
 simp only
 rw[if_pos (hw t' b' a w hr hl)]
 left
 refine Oper.wp_mono (fun a w ⟨σ,hσ,hrel⟩=>?_) (mM (F:=F) bR (Gp (dst:=o.dst) (t':=t') (b':=b') (ug (ops:=ops) (t:=tt) (fun d hd=>(hl d hd).trans (uB d).symm)) hs hc hb kS) hr o.type o.pos o.after o.guard _)
 subst hσ
 exact hK a w hrel
theorem tW {ops:Array Oper}{i:Nat}{t tt:List (Nat × SV)}{b:List ay}{o:Oper}{g:FuncId}{args:List SV}{r:jT}(ho:ops[i]? = some o)(bR:fits F.n o.dst=true)(hs:XV V o.op ⟨tt,b⟩=.call g args)(uB:∀ e,lk e tt=lk e t)
 (HJ:(∃ x,PC V g args x∧r=⟨x,none,false,[],[]⟩)∨(∃ x nb al W,SC V g args b (fun r' b'=>r'=x∧b'=nb)∧r=⟨x,some nb,al,[],W⟩))
 (hw:∀ (ta:List (Nat × SV)) (ba:List ay) (a:Act) (w:World),Rel F ⟨ta,ba⟩ a w→(∀ d∈o.looksAt ops,lk d ta=lk d t)→Region.wanted o (yielded ops a.tmps)=true):vq F ops i t b r:=by
 intro Q K a w t' b' o' ho' hl hb kS hr hK
 rw[ho]at ho'
 cases ho'
 unfold wpOp
 rw[ho]
 simp only
 rw[if_pos (hw t' b' a w hr hl)]
 left
 have hcall:=B7 (dst:=o.dst) (t':=t') (b':=b') (ug (ops:=ops) (t:=tt) (fun d hd=>(hl d hd).trans (uB d).symm)) hs
 have hh:hN V (fun σ=>σ=⟨put o.dst r.x t',r.nb.getD b'⟩) (XR V o.dst o.op ⟨t',b'⟩):=by
  rw[hcall]
  rcases HJ with⟨x,hpc,rfl⟩|⟨x,nb,al,W,jo,rfl⟩
  ·exact .inl ⟨x,hpc,rfl⟩
  ·obtain rfl:=hb rfl
   exact .inr ⟨_,jo,fun r' bs ⟨h1,h2⟩=>by subst h1 h2;rfl⟩
 refine Oper.wp_mono (fun a w ⟨σ,hσ,hrel⟩=>?_) (mM (F:=F) bR hh hr o.type o.pos o.after o.guard _)
 subst hσ
 exact hK a w hrel
theorem Aq {ops:Array Oper}{i:Nat}{t:List (Nat × SV)}{b:List ay}{o:Oper}(ho:ops[i]? = some o)(bR:fits F.n o.dst=true)
 (hw:∀ (ta:List (Nat × SV)) (ba:List ay) (a:Act) (w:World),Rel F ⟨ta,ba⟩ a w→(∀ d∈o.looksAt ops,lk d ta=lk d t)→Region.wanted o (yielded ops a.tmps)=false):vq F ops i t b ⟨.v undef,none,false,[],[]⟩:=by
 intro Q K a w t' b' o' ho' hl hb kS hr hK
 rw[ho]at ho'
 cases ho'
 unfold wpOp
 rw[ho]
 simp only
 rw[if_neg (by rw[hw t' b' a w hr hl];simp)]
 obtain⟨β,fp,hf,mq⟩:=hr
 exact hK _ w ⟨β,fp,hf.put bR (fun _ _=>rfl),mq⟩
theorem xG (r:jT)(h:r.nb=none)(b:List ay):UnE r b:=fun nb xh=>by rw[h]at xh;cases xh
def BP (F:Fx V)(ops:Array Oper)(r:jT)(t:List (Nat × SV))(b:List ay)(i d:Nat)(z:List SV)(T:TypeId)(q:Option (Nat × Nat)):Prop :=
 ib ops i=some d∧d<F.n∧(∃ W,r=⟨flV q b.length,some (b++[flR q z T]),false,[],W⟩)∧flW q z∧∃ o,ops[i]? = some o∧o.guard=none ∧
  ∀ (β:Nat→Bt) (m:Nat) (tt:List (Nat × SV)) (a:Act) (w:World),Fm F β m tt a→(∀ d∈o.looksAt ops,lk d tt=lk d t)→∀ β',bp m β β'→(execOp a.eval o).run V.P w=Result.ok (.value (ah jR (FF q w.heap.size))) (w.alloc (.cells (z.map (ah β')).toArray T))
theorem zA {T:TypeId}{σ:St}{c:Prop}{r:jT}(h:XV V (.alloc T) σ=.val c r):∃ ti,V.Γ T=some ti∧r=⟨.p σ.b.length 0,some (σ.b++[.cells ti.zero T true]),false,[],[(σ.b.length,0,0)]⟩:=by
 unfold XV at h
 simp only[pv,Yl,FD,dN,Xv,XD]at h
 split at h
 ·rename_i ti jI
  cases h
  exact⟨ti,jI,rfl⟩
 ·cases h
theorem qS {T:TypeId}{σ:St}{g:FuncId}{args:List SV}(h:XV V (.alloc T) σ=.call g args):False:=by
 unfold XV at h
 simp only[pv,Yl,FD,dN,Xv,XD]at h
 split at h <;> cases h
theorem FP {ts e:TypeId}{n:Nat}{ps:Array (Nat × Operand)}{t:List (Nat × SV)}{l:List (Nat × SV)}{c0:List SV}{ti:TI}(ht:kd V.Γ ts=some (.slice e))(jI:V.Γ e=some ti)(hl:Xl t ps.toList=some l)(mg:Yi ti.size 0 l=some c0)(Fh:l.length=n)(h24:n * ti.size≤16777216)(eV:0<ti.size)
 {β:Nat→Bt} {m:Nat} {a:Act} (hf:Fm F β m t a) (w:World) (β':Nat→Bt) (hβ:bp m β β'):(Instr.buildSlice ts n (ps.map fun p=>(p.1,a.eval p.2))).run V.P w=Result.ok (.slice (some ⟨w.heap.size,0,none⟩) n n) (w.alloc (.cells (c0.map (ah β')).toArray e)):=by
 obtain⟨d1,pg,iN⟩:=bV V.gI ht
 simp only[ch]at iN
 subst iN
 obtain⟨i,z,hi,hz,o8,HT,CK⟩:=(V.gI e ti jI).info
 have e2:=lP (β':=β') hf hβ hl
 have dO:=oa mg
 rw[Fh]at dO
 have ql:=uU β' ti.size l 0 c0 mg ((Array.range (n * i.size)).map (z.cells[· % z.cells.size]!)) (by rw[Nat.zero_add,Fh];simp[o8])
 by_cases hn:n=0
 ·subst hn
  have F6:l=[]:=List.eq_nil_of_length_eq_zero Fh
  subst F6
  have fL:c0=[]:=List.eq_nil_of_length_eq_zero (by rw[dO];simp)
  subst fL
  have e3:(ps.toList.map fun p=>(p.1,a.eval p.2))=[]:=e2
  have e4:Array.range 0=#[]:=rfl
  simp[Instr.buildSlice,run_underlying pg,Go.sizeOf,typeInfo,hi,e3,Instr.fill,newRow,e4]
 ·refine run_buildSlice (P:=V.P) w ts e n (ps.map fun p=>(p.1,a.eval p.2)) (c0.map (ah β')).toArray i z pg hi hz (by rw[o8];omega) (by rw[o8];exact zJW (Nat.mul_pos (by omega) eV)) ?_
  have e3:=ql
  rw[← o8]at e3
  rw[Array.toList_map,e2,e3]
  congr 1
  apply Array.ext'
  rw[Nat.zero_add,Fh]
  simp
theorem zz {ts:TypeId}{n:Nat}{ps:Array (Nat × Operand)}{σ:St}{c:Prop}{r:jT}(h:XV V (.buildSlice ts n ps) σ=.val c r)(hc:c):∃ e ti l c0,kd V.Γ ts=some (.slice e)∧V.Γ e=some ti∧Xl σ.t ps.toList=some l∧Yi ti.size 0 l=some c0∧l.length=n∧n * ti.size≤16777216∧0<ti.size∧∃ W,r=⟨.o σ.b.length n,some (σ.b++[.own c0 e ti.size n true]),false,[],W⟩:=by
 unfold XV at h
 simp only[pv,FD,Yl,Xv]at h
 cases hx:Xa V (some 0) ts n ps.toList σ with
 | none=>rw[hx]at h;simp only[dN]at h;cases h
 | some y =>
   rw[hx]at h
   obtain⟨c',σ'⟩:=y
   unfold Xa at hx
   (repeat' split at hx) <;> try (cases hx;done)
   rename_i _ e ht _ ti jI _ l hl _ c0 mg
   cases hx
   simp only[dN,put,Xz,Bool.false_eq_true,if_false]at h
   cases h
   exact⟨e,ti,l,c0,ht,jI,hl,mg,hc.1,hc.2.1,hc.2.2,_,rfl⟩
theorem qR {ts:TypeId}{n:Nat}{ps:Array (Nat × Operand)}{σ:St}{g:FuncId}{args:List SV}(h:XV V (.buildSlice ts n ps) σ=.call g args):False:=by
 unfold XV at h
 simp only[pv,FD,Yl,Xv]at h
 cases hx:Xa V (some 0) ts n ps.toList σ with
 | none=>rw[hx]at h;simp only[dN]at h;cases h
 | some y =>
   rw[hx]at h
   obtain⟨c',σ'⟩:=y
   simp only[dN]at h
   split at h
   ·split at h <;> cases h
   ·cases h
structure BM (F:Fx V) (ops:Array Oper) (t0:List (Nat × SV)) (b0:List ay) (recs:List jT) (T:Nat→List (Nat × SV)) (B:Nat→List ay) (σ:St):Prop where
 t0:∀ d,lk d (T 0)=lk d t0
 b0:B 0=b0
 t:∀ i,i<recs.length→∀ d,lk d (T (i+1))=lk d (put (ib ops i) (recs.getD i bP).x (T i))
 b:∀ i,i<recs.length→B (i+1)=(recs.getD i bP).nb.getD (B i)
 op:∀ i,i<recs.length→∀ F':Fx V,F'.n=F.n→vq F' ops i (T i) (B i) (recs.getD i bP)
 un:∀ i,i<recs.length→UnE (recs.getD i bP) (B i)
 te:T recs.length=σ.t
 be:B recs.length=σ.b
 fl:∀ i,i<recs.length→eh ops i=true→∃ d z Ta q,BP F ops (recs.getD i bP) (T i) (B i) i d z Ta q
theorem BM.step {ops:Array Oper}{t0:List (Nat × SV)}{b0:List ay}{recs:List jT}{T:Nat→List (Nat × SV)}{B:Nat→List ay}{σ:St}(h:BM F ops t0 b0 recs T B σ){o:Oper}(ho:ops[recs.length]? = some o)(r:jT)(tt:List (Nat × SV))
 (uB:∀ d,lk d tt=lk d (put o.dst r.x σ.t)) (Fk:∀ F':Fx V,F'.n=F.n→vq F' ops recs.length σ.t σ.b r) (HA:UnE r σ.b) (mg:eh ops recs.length=true→∃ d z Ta q,BP F ops r σ.t σ.b recs.length d z Ta q) :
 BM F ops t0 b0 (recs++[r]) (fun i=>if i=recs.length+1 then tt else T i) (fun i=>if i=recs.length+1 then r.nb.getD σ.b else B i) ⟨tt,r.nb.getD σ.b⟩:=by
 have kT:(recs++[r]).getD recs.length bP=r:=by simp[zJD]
 have A1:∀ i,i<recs.length→(recs++[r]).getD i bP=recs.getD i bP:=fun i hi=>by simp[zJD,zJz hi]
 have hd:ib ops recs.length=o.dst:=by unfold ib;rw[ho];rfl
 refine⟨?_,?_,fun i hi=>?_,fun i hi=>?_,fun i hi=>?_,fun i hi=>?_,?_,?_,fun i hi hf=>?_⟩
 ·simp only[if_neg (show (0:Nat)≠recs.length+1 by omega)];exact h.t0
 ·simp only[if_neg (show (0:Nat)≠recs.length+1 by omega)];exact h.b0
 all_goals try (rw[zJC,zJI]at hi)
 ·intro d
  simp only[if_neg (show i≠recs.length+1 by omega)]
  by_cases he:i=recs.length
  ·subst he
   simp only[if_true]
   rw[kT,hd,h.te]
   exact uB d
  ·rw[if_neg (by omega),A1 i (by omega)]
   exact h.t i (by omega) d
 ·simp only[if_neg (show i≠recs.length+1 by omega)]
  by_cases he:i=recs.length
  ·subst he
   simp only[if_true]
   rw[kT,h.be]
  ·rw[if_neg (by omega),A1 i (by omega)]
   exact h.b i (by omega)
 ·simp only[if_neg (show i≠recs.length+1 by omega)]
  by_cases he:i=recs.length
  ·subst he
   rw[kT,h.te,h.be]
   exact Fk
  ·rw[A1 i (by omega)]
   exact h.op i (by omega)
 ·simp only[if_neg (show i≠recs.length+1 by omega)]
  by_cases he:i=recs.length
  ·subst he
   rw[kT,h.be]
   exact HA
  ·rw[A1 i (by omega)]
   exact h.un i (by omega)
 ·simp
 ·simp
 ·simp only[if_neg (show i≠recs.length+1 by omega)]
  by_cases he:i=recs.length
  ·subst he
   rw[kT,h.te,h.be]
   exact mg hf
  ·rw[A1 i (by omega)]
   exact h.fl i (by omega) hf
def Cg (r:jT):Rk:=⟨r.nb.isSome,r.all,r.rd,r.wr⟩
theorem G4 {ops:Array Oper}{t0:List (Nat × SV)}{b0:List ay}{E:Fin}{k:List Item}:∀ (f:Nat)(l pre:List Oper)(recs:List jT)(T:Nat→List (Nat × SV))(B:Nat→List ay)(σ:St),ops.toList=pre++l→recs.length=pre.length →
 BM F ops t0 b0 recs T B σ→bo V F.n E f (.eE ops l (recs.map Cg)::k) σ →
 ∃ f' recs' T' B' σ',f'<f∧recs'.length=ops.size∧BM F ops t0 b0 recs' T' B' σ'∧IX ops (recs'.map Cg)∧bo V F.n E f' k σ':=by
 intro f
 induction f with
 | zero=>intro l pre recs T B σ _ _ _ h;cases l <;> simp[bo]at h
 | succ f ih =>
   intro l pre recs T B σ hops hlen hlex h
   match l with
   | [] =>
     simp only[bo]at h
     refine⟨f,recs,T,B,σ,Nat.lt_succ_self _,?_,hlex,h.1,h.2⟩
     have:=congrArg List.length hops
     simp at this
     omega
   | o::r =>
     have ho:ops[recs.length]? = some o:=by
      have:ops.toList[recs.length]? = some o:=by rw[hops,hlen];simp
      simpa using this
     have next:∀ (rc:jT) (tt:List (Nat × SV)),(∀ d,lk d (put o.dst rc.x tt)=lk d (put o.dst rc.x σ.t))→(∀ F':Fx V,F'.n=F.n→vq F' ops recs.length σ.t σ.b rc)→UnE rc σ.b→(eh ops recs.length=true→∃ d z Ta q,BP F ops rc σ.t σ.b recs.length d z Ta q) →
      bo V F.n E f (.eE ops r (recs.map Cg++[Cg rc])::k) ⟨Vc.put o.dst rc.x tt,rc.nb.getD σ.b⟩ →
      ∃ f' recs' T' B' σ',f'<f+1∧recs'.length=ops.size∧BM F ops t0 b0 recs' T' B' σ'∧IX ops (recs'.map Cg)∧bo V F.n E f' k σ':=fun rc tt uB Fk HA hflr hv=>by
      obtain⟨f',recs',T',B',σ',h1,h2,h3,h4,h5⟩:=ih r (pre++[o]) (recs++[rc]) _ _ _ (by rw[hops];simp) (by simp[hlen]) (hlex.step ho rc (Vc.put o.dst rc.x tt) uB Fk HA hflr) (by simpa using hv)
      exact⟨f',recs',T',B',σ',by omega,h2,h3,h4,h5⟩
     have A9:eh ops recs.length=true→o.guard=none∧∃ d,o.dst=some d∧((∃ Ta,o.op=.alloc Ta)∨∃ ts n ps,o.op=.buildSlice ts n ps):=fun h=>by
      unfold eh at h
      rw[ho]at h
      split at h
      ·rename_i e;cases e;exact⟨rfl,_,rfl,.inl ⟨_,rfl⟩⟩
      ·rename_i e;cases e;exact⟨rfl,_,rfl,.inr ⟨_,_,_,rfl⟩⟩
      ·cases h
     have hdat:ib ops recs.length=o.dst:=by unfold ib;rw[ho];rfl
     obtain⟨dst,op,ty,pos,after,guard⟩:=o
     simp only at A9 hdat
     -- one operation, wanted
     have go:∀ (tt:List (Nat × SV)),(∀ e,lk e tt=lk e σ.t)→(∀ F':Fx V,F'.n=F.n→∀ (ta:List (Nat × SV)) (ba:List ay) (a:Act) (w:World),Rel F' ⟨ta,ba⟩ a w→(∀ d∈(⟨dst,op,ty,pos,after,guard⟩:Oper).looksAt ops,lk d ta=lk d σ.t)→Region.wanted ⟨dst,op,ty,pos,after,guard⟩ (yielded ops a.tmps)=true) →
      fits F.n dst=true→Yg V F.n E f ops r (recs.map Cg) k dst ⟨tt,σ.b⟩ (XV V op ⟨tt,σ.b⟩) →
      ∃ f' recs' T' B' σ',f'<f+1∧recs'.length=ops.size∧BM F ops t0 b0 recs' T' B' σ'∧IX ops (recs'.map Cg)∧bo V F.n E f' k σ':=fun tt uB AW bR qI=>by
      have o6:∀ x d,lk d (put dst x tt)=lk d (put dst x σ.t):=fun x d=>jm (uB d)
      have hfit':∀ F':Fx V,F'.n=F.n→fits F'.n dst=true:=fun F' e=>by rw[e];exact bR
      have iY:∀ {c:Prop} {rc:jT},XV V op ⟨tt,σ.b⟩=.val c rc→c→eh ops recs.length=true→∃ d z Ta q,BP F ops rc σ.t σ.b recs.length d z Ta q:=fun {c rc} hs hc hf=>by
       obtain⟨hg,d,hd,⟨Ta,Fk⟩|⟨ts,n,ps,Fk⟩⟩:=A9 hf
       ·subst Fk
        obtain⟨ti,jI,hrc⟩:=zA hs
        refine⟨d,ti.zero,Ta,none,hdat.trans hd,?_,⟨_,hrc⟩,trivial,_,ho,hg,fun β m tt' a w hfm A5 β' hβ=>?_⟩
        ·rw[hd]at bR
         simpa[fits] using bR
        ·rw[(V.gI Ta ti jI).flat β']
         exact bE (wH (V:=V) Ta ti jI w)
       ·subst Fk
        obtain⟨e,ti,l,c0,h1,h2,h3,h4,h5,h6,h7,W,hrc⟩:=zz hs hc
        have dO:=oa h4
        refine⟨d,c0,e,some (ti.size,n),hdat.trans hd,?_,⟨W,hrc⟩,⟨by rw[dO,h5],?_⟩,_,ho,hg,fun β m tt' a w hfm A5 β' hβ=>?_⟩
        ·rw[hd]at bR
         simpa[fits] using bR
        ·unfold maxLen
         have:n * 1≤n * ti.size:=Nat.mul_le_mul_left _ h7
         omega
        ·have hev:=ug (ops:=ops) (o:=⟨dst,.buildSlice ts n ps,ty,pos,after,guard⟩) (t:=tt) (t':=tt') (fun d hd=>(A5 d hd).trans (uB d).symm)
         have h3':Xl tt' ps.toList=some l:=by
          rw[iJ (t:=tt') (t':=tt) ps.toList (fun x hx=>hev x (by simp only[Op.operands];rw[List.mem_toArray];exact hx))]
          exact h3
         exact bE (FP (F:=F) h1 h2 h3' h4 h5 h6 h7 hfm w β' hβ)
      have hnc:∀ {g:FuncId} {args:List SV} {rc:jT},XV V op ⟨tt,σ.b⟩=.call g args→eh ops recs.length=true→∃ d z Ta q,BP F ops rc σ.t σ.b recs.length d z Ta q:=fun {g args rc} hs hf=>by
       obtain⟨-,d,-,⟨Ta,Fk⟩|⟨ts,n,ps,Fk⟩⟩:=A9 hf
       ·rw[Fk]at hs
        exact(qS hs).elim
       ·rw[Fk]at hs
        exact(qR hs).elim
      cases o4:XV V op ⟨tt,σ.b⟩ with
      | val c rc =>
        rw[o4]at qI
        obtain⟨x,nb,al,rd,wr⟩:=rc
        cases nb with
        | none =>
          simp only[Yg]at qI
          exact next ⟨x,none,al,rd,wr⟩ tt (o6 x) (fun F' e=>DL ho (hfit' F' e) o4 qI.1 uB (AW F' e)) (zy o4 qI.1) (iY o4 qI.1) qI.2
        | some nb =>
          simp only[Yg]at qI
          exact next ⟨x,some nb,al,rd,wr⟩ tt (o6 x) (fun F' e=>DL ho (hfit' F' e) o4 qI.1 uB (AW F' e)) (zy o4 qI.1) (iY o4 qI.1) qI.2
      | call g args =>
        rw[o4]at qI
        simp only[Yg,ll]at qI
        rcases qI with⟨x,hpc,hv⟩|⟨x,nb,jo,hv⟩|⟨x,nb,W,jo,hout,hv⟩
        ·exact next ⟨x,none,false,[],[]⟩ tt (o6 x) (fun F' e=>tW ho (hfit' F' e) o4 uB (.inl ⟨x,hpc,rfl⟩) (AW F' e)) (xG _ rfl _) (hnc o4) hv
        ·exact next ⟨x,some nb,true,[],[]⟩ tt (o6 x) (fun F' e=>tW ho (hfit' F' e) o4 uB (.inr ⟨x,nb,true,[],jo,rfl⟩) (AW F' e)) (fun _ _ h=>by cases h) (hnc o4) hv
        ·exact next ⟨x,some nb,false,[],W⟩ tt (o6 x) (fun F' e=>tW ho (hfit' F' e) o4 uB (.inr ⟨x,nb,false,W,jo,rfl⟩) (AW F' e)) (fun _ h _ j q hq=>by cases h;exact hout j q hq) (hnc o4) hv
      | bad=>rw[o4]at qI;simp[Yg]at qI
     cases guard with
     | none =>
       simp only[bo]at h
       exact go σ.t (fun _=>rfl) (fun F' _ ta _ a _ _ _=>zh rfl a) h.1 h.2
     | some q =>
       obtain⟨j,want⟩:=q
       simp only[bo]at h
       obtain⟨bR,h⟩:=h
       have hfit':∀ F':Fx V,F'.n=F.n→fits F'.n dst=true:=fun F' e=>by rw[e];exact bR
       have hng:∀ {rc:jT},eh ops recs.length=true→∃ d z Ta q,BP F ops rc σ.t σ.b recs.length d z Ta q:=fun hf=>by
        have:=(A9 hf).1
        cases this
       cases hg:Yk σ.t (eK ops.toList j) with
       | none =>
         cases hu:Ec σ.t (eK ops.toList j) with
         | false=>rw[hg,hu]at h;simp[Xy]at h
         | true =>
           rw[hg,hu]at h
           simp only[Xy,XG]at h
           obtain⟨d,x,hgd,A5,fA⟩:=Ii hu
           refine next ⟨.v undef,none,false,[],[]⟩ σ.t (fun _=>rfl) (fun F' e=>Aq ho (hfit' F' e) (fun ta ba a w hr hl=>by
            obtain⟨β,fp,hf,-⟩:=hr
            have hy:=Ih (hf.ok β (bp.refl _ _)) hgd (by rw[hl d (sf rfl hgd)];exact A5) fA
            simp[Region.wanted,hy])) (xG _ rfl _) hng h
       | some q =>
         obtain⟨d,b⟩:=q
         rw[hg]at h
         simp only[Xy,XG]at h
         obtain⟨hd,h1,h2⟩:=h
         obtain⟨A5,hgd⟩:=gval_lk hg
         have Ho:∀ F':Fx V,F'.n=F.n→∀ (ta:List (Nat × SV)) (ba:List ay) (a:Act) (w:World),Rel F' ⟨ta,ba⟩ a w→(∀ e∈(⟨dst,op,ty,pos,after,some (j,want)⟩:Oper).looksAt ops,lk e ta=lk e σ.t)→yielded ops a.tmps j=some b:=fun F' _ ta ba a w hr hl=>by
          obtain⟨β,fp,hf,-⟩:=hr
          exact(Bh (hf.ok β (bp.refl _ _)) (FC hg (hl d (sf rfl hgd)))).1
         by_cases hb:b=want
         ·subst hb
          exact go ((d,.bool b)::σ.t) (Ax A5) (fun F' e ta ba a w hr hl=>by simp[Region.wanted,Ho F' e ta ba a w hr hl]) bR (h1 rfl)
         ·have hb':b=!want:=by cases b <;> cases want <;> simp at hb ⊢
          have hv:=h2 hb'
          rw[← hb']at hv
          exact next ⟨.v undef,none,false,[],[]⟩ ((d,.bool b)::σ.t) (fun e=>jm (Ax A5 e)) (fun F' e=>Aq ho (hfit' F' e) (fun ta ba a w hr hl=>by simp[Region.wanted,Ho F' e ta ba a w hr hl,hb])) (xG _ rfl _) hng hv
end
open Go Go.RowKit Wf
section
variable {V:Cx} {F:Fx V}
theorem wp_then {P:Program}{o:Oper}{a:Act}{w:World}{N K:Act→World→Prop}{Q:Exit→Act→World→Prop}(hk:∀ a w,N a w→K a w)(h:o.wp P a w (fun a w=>Exit.then N Q .normal a w) (Exit.then N Q)):o.wp P a w K Q:=by
 refine Oper.wp_mono hk ?_
 unfold Oper.wp at *
 generalize (execOp a.eval o).run P w=r at *
 cases r with
 | ok n w' =>
   cases n <;> simp only[Oper.upon]at h ⊢ <;> exact h
 | halt x w'=>cases x <;> simp only[Oper.upon]at h ⊢ <;> exact h
theorem Fc {N:Act→World→Prop}{Q:Exit→Act→World→Prop}(h:LetsOut (Exit.then N Q)):LetsOut Q:=h
def aoV (P:Program)(ops:Array Oper)(L:List Nat)(t:OT)(Q:Exit→Act→World→Prop)(a:Act)(w:World):Prop :=
 (OT.yr ops L t=true→wpAny P .any ops Q (ops.size - L.length) (rD ops.size L) a w) ∧
 (OT.yr.FY ops L t=true→L.length<ops.size→∀ i∈t.uM,wpOp P ops Q i (wpAny P .any ops Q (ops.size - (L.length+1)) (rD ops.size (i::L))) a w)
def ot (F:Fx V)(Qf:Exit→Act→World→Prop):List Item→Exit→Act→World→Prop
 | []=>Qf
 | .code c::k=>Exit.then (c.wp V.P (ot F Qf k)) (ot F Qf k)
 | .ops ops l::k=>Exit.then (wpList V.P ops (ot F Qf k) l) (ot F Qf k)
 | .eE _ _ _::k=>Exit.then (fun _ _=>True) (ot F Qf k)
 | .fJ ops L t::k=>Exit.then (fun a w=>OT.yr ops L t=true∨OT.yr.FY ops L t=true→aoV V.P ops L t (ot F Qf k) a w) (ot F Qf k)
 | .cut J::k=>Exit.then (fun a w=>∃ σ,J σ∧Rel F σ a w) (ot F Qf k)
 | .lf id::k=>Exit.inBlock id (ot F Qf k)
 | .kG I μ m::k=>Exit.then (fun a w=>∃ σ,I σ∧μ σ<m∧Rel F σ a w) (ot F Qf k)
theorem iU {Qf:Exit→Act→World→Prop}{id:Nat}{a:Act}{w:World}:∀ {k k':List Item},XE id k=some k'→ot F Qf k' .normal a w→ot F Qf k (.exit id) a w
 | [],k',h,_=>by simp[XE]at h
 | .code c::k,k',h,hq=>by simp only[XE]at h;exact iU (k:=k) h hq
 | .ops ops l::k,k',h,hq=>by simp only[XE]at h;exact iU (k:=k) h hq
 | .kG _ _ _::k,k',h,hq=>by simp only[XE]at h;exact iU (k:=k) h hq
 | .eE _ _ _::k,k',h,hq=>by simp only[XE]at h;exact iU (k:=k) h hq
 | .fJ _ _ _::k,k',h,hq=>by simp only[XE]at h;exact iU (k:=k) h hq
 | .cut _::k,k',h,hq=>by simp only[XE]at h;exact iU (k:=k) h hq
 | .lf id'::k,k',h,hq=>by
   simp only[XE]at h
   show Exit.inBlock id' (ot F Qf k) (.exit id) a w
   split at h
   ·rename_i e
    cases h
    simp only[Exit.inBlock,if_pos e.symm]
    exact hq
   ·rename_i e
    simp only[Exit.inBlock,if_neg (fun q=>e (Eq.symm q))]
    exact iU (k:=k) h hq
theorem ki {Qf:Exit→Act→World→Prop}{a:Act}{w:World}(hq:Qf .ret a w):∀ (k:List Item),ot F Qf k .ret a w
 | []=>hq
 | .code c::k=>ki hq k
 | .ops ops l::k=>ki hq k
 | .kG _ _ _::k=>ki hq k
 | .eE _ _ _::k=>ki hq k
 | .fJ _ _ _::k=>ki hq k
 | .cut _::k=>ki hq k
 | .lf id'::k=>ki hq k
theorem gB {Qf:Exit→Act→World→Prop}{c:List PanicEntry}{a:Act}{w:World}:∀ (k:List Item),ot F Qf k (.panic c) a w→Qf (.panic c) a w
 | [],h=>h
 | .code _::k,h=>gB k h
 | .ops _ _::k,h=>gB k h
 | .eE _ _ _::k,h=>gB k h
 | .fJ _ _ _::k,h=>gB k h
 | .cut _::k,h=>gB k h
 | .lf _::k,h=>gB k h
 | .kG _ _ _::k,h=>gB k h
theorem wb {E:Fin}{n f:Nat}{ops:Array Oper}{r:List Oper}{k:List Item}{s:fj}(h:Yc V n E f ops r k s):hN V (fun σ=>bo V n E f (.ops ops r::k) σ) s:=by
 cases s <;> simp only[Yc]at h
 ·exact h
 ·unfold lj at h
  rcases h with h|⟨R,h1,-,h2⟩
  ·exact .inl h
  ·exact .inr ⟨R,h1,h2⟩
theorem wo {E:Fin}{Qf:Exit→Act→World→Prop}(hn:∀ σ a w,rA V E σ (XT V σ E.rs)→Rel F σ a w→Qf .normal a w)(hret:∀ σ a w,rA V E σ (XT V σ E.rs)→Rel F σ a w→Qf .ret a w)(hpan:∀ c a w,¬ Qf (.panic c) a w) :
 ∀ (f:Nat) (items:List Item) (σ:St),bo V F.n E f items σ→∀ a w,Rel F σ a w→ot F Qf items .normal a w:=by
 intro f
 induction f using Nat.strongRecOn with
 | _ f0 ihs =>
 cases f0 with
 | zero=>intro items σ h;cases items <;> simp[bo]at h
 | succ f =>
   have ih:∀ (items:List Item) (σ:St),bo V F.n E f items σ→∀ a w,Rel F σ a w→ot F Qf items .normal a w:=ihs f (Nat.lt_succ_self _)
   have step:∀ (ops:Array Oper) (o:Oper) (r:List Oper) (k:List Item) (σ:St) (a:Act) (w:World),fits F.n o.dst=true→Yc V F.n E f ops r k (XR V o.dst o.op σ)→Rel F σ a w →
    o.wp V.P a w (wpList V.P ops (ot F Qf k) r) (ot F Qf k):=fun ops o r k σ a w bR h hr=>by
    refine Oper.wp_mono (fun a w ⟨σ',h1,h2⟩=>?_) (mM (F:=F) bR (wb h) hr o.type o.pos o.after o.guard _)
    exact ih (.ops ops r::k) σ' h1 a w h2
   intro items σ h a w hr
   match items with
   | []=>simp only[bo]at h;exact hn σ a w h hr
   | .lf id::k=>simp only[bo]at h;exact ih k σ h a w hr
   | .kG I μ m::k=>simp only[bo]at h;exact⟨σ,h.1,h.2,hr⟩
   | .eE ops l rs::k=>exact trivial
   | .cut J::k=>simp only[bo]at h;exact⟨σ,h,hr⟩
   | .fJ ops L .leaf::k =>
     simp only[bo]at h
     refine fun _=>⟨fun bU=>?_,fun bU=>by simp[OT.yr.FY]at bU⟩
     simp only[OT.yr,List.isEmpty_iff]at bU
     have hq:ot F Qf k .normal a w:=ih k σ h a w hr
     cases hf:ops.size - L.length with
     | zero=>exact⟨bU,hq⟩
     | succ m=>exact⟨fun _=>hq,fun i hi=>by rw[bU]at hi;cases hi⟩
   | .fJ ops L (.one i t)::k =>
     simp only[bo]at h
     have HN:OT.yr ops (i::L) t=true→i<ops.size→wpOp V.P ops (ot F Qf k) i (wpAny V.P .any ops (ot F Qf k) (ops.size - (L.length+1)) (rD ops.size (i::L))) a w:=fun bU hi=>by
      have h1:wpList V.P ops (ot F Qf (.fJ ops (i::L) t::k)) (oj ops.toList i) a w:=ih _ σ h a w hr
      have ho:ops[i]? = some ops[i]:=zJQ hi
      have hn:oj ops.toList i=[ops[i]]:=by rw[sP];simp[ho]
      rw[hn]at h1
      have hk:∀ a w,ot F Qf (.fJ ops (i::L) t::k) .normal a w→wpAny V.P .any ops (ot F Qf k) (ops.size - (L.length+1)) (rD ops.size (i::L)) a w:=fun a w hq=>(hq (.inl bU)).1 bU
      unfold wpOp
      rw[ho]
      simp only[wpList]at h1 ⊢
      split
      ·rename_i hw
       rw[if_pos hw]at h1
       rcases h1 with h1|⟨h1,h2⟩
       ·refine .inl ?_
        exact wp_then hk h1
       ·exact .inr ⟨h1,Fc h2⟩
      ·rename_i hw
       rw[if_neg hw]at h1
       exact hk _ _ h1
     refine fun _=>⟨fun bU=>?_,fun bU hL j hj=>?_⟩
     ·simp only[OT.yr,zJv,decide_eq_true_eq,beq_iff_eq]at bU
      obtain⟨⟨hL,hrd⟩,bU⟩:=bU
      obtain⟨m,hm⟩:∃ m,ops.size - L.length=m+1:=⟨ops.size - L.length - 1,by omega⟩
      have hm':ops.size - (L.length+1)=m:=by omega
      rw[hm' ]at HN
      rw[hm]
      refine⟨fun h0=>by rw[h0]at hrd;simp at hrd,fun j hj=>?_⟩
      have hi:i<ops.size:=by
       have h1:i∈Region.ready .any ops (rD ops.size L):=by rw[hrd];exact List.mem_singleton.2 rfl
       obtain⟨o,ho,_⟩:=(mem_ready.1 h1).2
       exact(zJx.1 ho).1
      rw[hrd,List.mem_singleton]at hj
      subst hj
      exact HN bU hi
     ·simp only[OT.uM,List.mem_singleton]at hj
      subst hj
      simp only[OT.yr.FY]at bU
      by_cases hi:j<ops.size
      ·exact HN bU hi
      ·unfold wpOp
       rw[zJ1 (by omega)]
       have h1:wpList V.P ops (ot F Qf (.fJ ops (j::L) t::k)) (oj ops.toList j) a w:=ih _ σ h a w hr
       rw[sP,show ops.toList[j]? = none from by simp;omega]at h1
       exact(h1 (.inl bU)).1 bU
   | .fJ ops L (.alt x y)::k =>
     simp only[bo]at h
     have hx:OT.yr.FY ops L x=true→_:=fun bU=>(ih (.fJ ops L x::k) σ h.1 a w hr (.inr bU)).2 bU
     have hy:OT.yr.FY ops L y=true→_:=fun bU=>(ih (.fJ ops L y::k) σ h.2 a w hr (.inr bU)).2 bU
     refine fun _=>⟨fun bU=>?_,fun bU hL j hj=>?_⟩
     ·simp only[OT.yr,zJv,decide_eq_true_eq,Bool.not_eq_true',zJy]at bU
      obtain⟨⟨⟨⟨hL,bk⟩,aT⟩,h1⟩,h2⟩:=bU
      obtain⟨m,hm⟩:∃ m,ops.size - L.length=m+1:=⟨ops.size - L.length - 1,by omega⟩
      have hm':ops.size - (L.length+1)=m:=by omega
      rw[hm']at hx hy
      rw[hm]
      refine⟨fun h0=>by rw[h0]at bk;simp at bk,fun j hj=>?_⟩
      have o7:=zJX.1 (aT j hj)
      have iu:(rD ops.size L).setIfInBounds j true=rD ops.size (j::L):=rfl
      rw[iu]
      simp only[OT.uM,List.mem_append]at o7
      rcases o7 with hm|hm
      ·exact hx h1 hL j hm
      ·exact hy h2 hL j hm
     ·simp only[OT.yr.FY,zJv]at bU
      simp only[OT.uM,List.mem_append]at hj
      rcases hj with hj|hj
      ·exact hx bU.1 hL j hj
      ·exact hy bU.2 hL j hj
   | .fJ ops L (.pur i t)::k =>
     simp only[bo]at h
     refine fun _=>⟨fun bU=>?_,fun bU=>by simp[OT.yr.FY]at bU⟩
     simp only[OT.yr,zJv,decide_eq_true_eq]at bU
     obtain⟨⟨⟨⟨hL,hns⟩,jx⟩,hrd⟩,bU⟩:=bU
     obtain⟨m,hm⟩:∃ m,ops.size - L.length=m+1:=⟨ops.size - L.length - 1,by omega⟩
     have hi:i<ops.size:=by
      obtain⟨o,ho,_⟩:=(mem_ready.1 (zJX.1 hrd)).2
      exact(zJx.1 ho).1
     have ho:ops[i]? = some ops[i]:=zJQ hi
     have hn:oj ops.toList i=[ops[i]]:=by rw[sP];simp[ho]
     rw[hn]at h
     generalize hoi:ops[i]=oi at h ho
     obtain⟨dst,op,ty,pos,after,guard⟩:=oi
     cases guard with
     | some g=>simp[DG]at h
     | none =>
     simp only[DG]at h
     obtain⟨bR,h⟩:=h
     cases hp:pv V.Γ σ.t op with
     | none=>rw[hp]at h;simp[DF]at h
     | some p =>
     obtain⟨c,x⟩:=p
     rw[hp]at h
     simp only[DF]at h
     obtain⟨hc,h⟩:=h
     obtain⟨β,fp,hf,hw⟩:=hr
     have hy:Yields V.P ops ⟨dst,op,ty,pos,after,none⟩ (ah β x) a:=.inl ⟨by simp[Region.wanted],fun w=>wK (o:=⟨dst,op,ty,pos,after,none⟩) V.gI (hf.ok β (bp.refl _ _)) hp hc w⟩
     rw[hm]
     refine wpAny_take ho hns jx hrd (fun c a w hq=>absurd (gB k hq) (hpan c _ w)) hy ?_
     have hrel:Rel F ⟨put dst x σ.t,σ.b⟩ (a.put dst (ah β x)) w:=⟨β,fp,hf.put bR (fun β' hβ=>?_),hw⟩
     ·have h1:=(ih (.fJ ops (i::L) t::k) _ h _ w hrel (.inl bU)).1 bU
      have hm':ops.size - (L.length+1)=m:=by omega
      rw[List.length_cons,hm']at h1
      exact h1
     ·have h1:=wK (o:=⟨dst,op,ty,pos,after,none⟩) V.gI (hf.ok β (bp.refl _ _)) hp hc w
      have h2:=wK (o:=⟨dst,op,ty,pos,after,none⟩) V.gI (hf.ok β' hβ) hp hc w
      rw[h1]at h2
      injection h2 with h2
      injection h2
   | .ops ops []::k=>simp only[bo]at h;exact ih k σ h a w hr
   | .ops ops (⟨dst,op,ty,pos,after,none⟩::r)::k =>
     simp only[bo]at h
     show wpList V.P ops (ot F Qf k) (⟨dst,op,ty,pos,after,none⟩::r) a w
     unfold wpList
     rw[if_pos (by simp[Region.wanted])]
     exact .inl (step ops ⟨dst,op,ty,pos,after,none⟩ r k σ a w h.1 h.2 hr)
   | .ops ops (⟨dst,op,ty,pos,after,some (j,want)⟩::r)::k =>
     simp only[bo]at h
     obtain⟨bR,h⟩:=h
     show wpList V.P ops (ot F Qf k) (⟨dst,op,ty,pos,after,some (j,want)⟩::r) a w
     cases hg:Yk σ.t (eK ops.toList j) with
     | none =>
       cases hu:Ec σ.t (eK ops.toList j) with
       | false=>rw[hg,hu]at h;simp[XA]at h
       | true =>
         rw[hg,hu]at h
         simp only[XA,XG]at h
         obtain⟨d,x,hgd,A5,fA⟩:=Ii hu
         obtain⟨β,fp,hf,hw⟩:=hr
         have hy:=Ih (hf.ok β (bp.refl _ _)) hgd A5 fA
         unfold wpList
         rw[if_neg (by simp[Region.wanted,hy])]
         exact ih (.ops ops r::k) _ h _ w ⟨β,fp,hf.put bR (fun _ _=>rfl),hw⟩
     | some p =>
       obtain⟨d,b⟩:=p
       rw[hg]at h
       simp only[XA,XG]at h
       obtain⟨hd,h1,h2⟩:=h
       obtain⟨β,fp,hf,hw⟩:=hr
       obtain⟨hy,hv⟩:=Bh (hf.ok β (bp.refl _ _)) hg
       unfold wpList
       by_cases hb:b=want
       ·subst hb
        rw[if_pos (by simp[Region.wanted,hy])]
        exact .inl (step ops ⟨dst,op,ty,pos,after,some (j,b)⟩ r k _ a w bR (h1 rfl) ⟨β,fp,hf.relit (fun _ _=>hv),hw⟩)
       ·have hb':b=!want:=by cases b <;> cases want <;> simp at hb ⊢
        rw[if_neg (by simp[Region.wanted,hy,hb])]
        exact ih (.ops ops r::k) _ (h2 hb') _ w ⟨β,fp,(hf.relit (x:=.bool (!want)) (fun _ _=>by rw[← hb'];exact hv)).put bR (fun _ _=>rfl),hw⟩
   | .code c::k =>
     show c.wp V.P (ot F Qf k) a w
     cases c with
     | skip=>simp only[bo]at h;exact wp_skip (ih k σ h a w hr)
     | region id ops draw =>
       cases draw
       ·simp only[bo]at h
        exact wp_region_list (ih (.ops ops ops.toList::k) σ h a w hr)
       ·simp only[bo]at h
        cases hw:E.y5 id with
        | all t =>
          rw[hw]at h
          simp only[xY]at h
          obtain⟨-,bU,J,h1,h2⟩:=h
          refine wp_mono (Q:=ot F Qf (.cut J::k)) (wp_region_any V.mixed ?_) (fun e a' w' hq=>?_)
          ·have h3:=(ih (.fJ ops [] t::.cut J::k) σ h1 a { w with drawn:=w.drawn+1 } (GJ hr) (.inl bU)).1 bU
           exact h3
          ·cases e with
           | normal =>
             obtain⟨σ',hj,hr'⟩:=hq
             exact ih k σ' (h2 σ' hj) a' w' hr'
           | _=>exact hq
        | ord p =>
        rw[hw]at h
        simp only[xY]at h
        obtain⟨Fi,h⟩:=h
        refine wp_region_any V.mixed (BZ p Fi ?_)
        generalize mW ops p=ops at h ⊢
        cases f with
        | zero=>simp[bo]at h
        | succ f1 =>
        have hlex:BM F ops σ.t σ.b [] (fun _=>σ.t) (fun _=>σ.b) σ:=⟨fun _=>rfl,rfl,fun i hi=>by simp at hi,fun i hi=>by simp at hi,fun i hi=>by simp at hi,fun i hi=>by simp at hi,rfl,rfl,fun i hi=>by simp at hi⟩
        obtain⟨f',recs,T,B,σ',aA,hlen,hl,bU,hv⟩:=G4 (f1+1) ops.toList [] [] _ _ σ (by simp) rfl hlex h
        classical
        have hch:∃ G:FlD,∀ k,eh ops k=true→BP F ops (recs.getD k bP) (T k) (B k) k (G.d k) (G.z k) (G.T k) (G.q k)∧G.L k=(B k).length:=by
         have h1:∀ k,∃ p:Nat × List SV × TypeId × Option (Nat × Nat),eh ops k=true→BP F ops (recs.getD k bP) (T k) (B k) k p.1 p.2.1 p.2.2.1 p.2.2.2:=fun k=>by
          by_cases hk:eh ops k=true
          ·have aA:k<recs.length:=by
            unfold eh at hk
            split at hk
            ·rename_i e
             rw[hlen]
             exact(zJx.1 e).1
            ·rename_i e
             rw[hlen]
             exact(zJx.1 e).1
            ·cases hk
           obtain⟨d,z,Ta,q,h⟩:=hl.fl k aA hk
           exact⟨(d,z,Ta,q),fun _=>h⟩
          ·exact⟨(0,[],0,none),fun h=>absurd h hk⟩
         exact⟨⟨fun k=>(Classical.choose (h1 k)).1,fun k=>(Classical.choose (h1 k)).2.1,fun k=>(Classical.choose (h1 k)).2.2.1,fun k=>(B k).length,fun k=>(Classical.choose (h1 k)).2.2.2⟩,fun k hk=>⟨Classical.choose_spec (h1 k) hk,rfl⟩⟩
        obtain⟨G,hG⟩:=hch
        refine IB (recs:=recs) G T B hl.t0 hl.b0 (fun i hi=>hl.t i (by omega)) (fun i hi=>hl.b i (by omega)) (fun i hi=>hl.op i (by omega)) (fun i hi=>hl.un i (by omega)) (fun k hk=>by obtain⟨⟨g1,g2,g3,g4⟩,g5⟩:=hG k hk;exact⟨g1,g2,g5,g3,g4⟩) hlen bU hr (fun a' w' hrel=>?_)
        rw[← hlen,hl.te,hl.be]at hrel
        exact ihs f' (by omega) k σ' hv a' w' hrel
     | seq x y=>simp only[bo]at h;exact wp_seq (ih (.code x::.code y::k) σ h a w hr)
     | cond c x y =>
       simp only[bo]at h
       cases hb:ev σ.t c with
       | none=>rw[hb]at h;simp[XN]at h
       | some v =>
         rw[hb]at h
         cases v <;> simp only[XN,XQ]at h
         rename_i b
         obtain⟨β,fp,hf,hw⟩:=hr
         exact wp_cond_split (t:=b) ((hf.ev hb (bp.refl _ β)).trans rfl) (fun e=>ih (.code x::k) σ (h.1 e) a w ⟨β,fp,hf,hw⟩) (fun e=>ih (.code y::k) σ (h.2 e) a w ⟨β,fp,hf,hw⟩)
     | block id x=>simp only[bo]at h;exact wp_block (ih (.code x::.lf id::k) σ h a w hr)
     | exit id =>
       simp only[bo]at h
       cases hx:XE id k with
       | none=>rw[hx]at h;simp[XO]at h
       | some k' =>
         rw[hx]at h
         simp only[XO]at h
         exact wp_exit (iU hx (ih k' σ h a w hr))
     | ret=>simp only[bo]at h;exact wp_ret (ki (hret σ a w h hr) k)
     | loop x =>
       simp only[bo,uf]at h
       obtain⟨I,μ,h0,hround⟩:=h
       classical
       let S:Act→World→Nat→Prop:=fun a w n=>∃ σ,μ σ=n∧I σ∧Rel F σ a w
       let m:Act→World→Nat:=fun a w=>if h:∃ n,S a w n then Classical.choose (least h) else 0
       refine wp_loop (fun a w=>∃ n,S a w n) m ⟨μ σ,σ,rfl,h0,hr⟩ (fun a w hI=>?_)
       have hm:m a w=Classical.choose (least hI):=dif_pos hI
       obtain⟨σ',hμ,hI',hr'⟩:=(Classical.choose_spec (least hI)).1
       refine wp_mono (ih (.code x::.kG I μ (μ σ')::k) σ' (hround σ' hI') a w hr') ?_
       intro e a2 w2 h2
       cases e with
       | normal =>
         obtain⟨σ2,h3,h4,HI⟩:=h2
         have hS:∃ n,S a2 w2 n:=⟨μ σ2,σ2,rfl,h3,HI⟩
         refine⟨hS,?_⟩
         have hm2:m a2 w2=Classical.choose (least hS):=dif_pos hS
         have:=(Classical.choose_spec (least hS)).2 _ ⟨σ2,rfl,h3,HI⟩
         rw[hm,hm2]
         omega
       | _=>exact h2
     | _=>simp[bo]at h
theorem Gv (u:Bool)(y5:Nat→How){f:FuncId}{fn:Func}{c:Code}{args:List SV}{bs:List ay}{R:SV→List ay→Prop}{n:Nat}{rs:Array ResultVar}(fuel:Nat)(hf:V.P.funcs[f]? = some fn)(hb:fn.body=some c)(hn:fn.ntmps=n)(hr:fn.results=rs)(iZ:Enters V f)
 (hlen:args.length≤n) (jo:∀ β β',bp bs.length β β'→aI β args=aI β' args) (h:bo V n ⟨rs.toList,R,y5,u⟩ fuel [.code c] ⟨Yj 0 args,bs⟩):SC V f args bs R:=by
 refine DA hf hb hn hr iZ hlen jo (fun F hF a w hrel=>?_)
 subst hF
 refine wo (Qf:=Qof F (CE V rs.toList R)) (fun σ a w h hr=>⟨σ,?_,hr⟩) (fun σ a w h hr=>⟨σ,?_,hr⟩) (fun c a w ⟨_,h,_⟩=>h) fuel [.code c] ⟨Yj 0 args,bs⟩ h a w hrel
 all_goals
  simp only at h
  cases hl:XT V σ rs.toList with
  | none=>rw[hl]at h;simp[rA]at h
  | some l=>rw[hl]at h;simp only[CE,hl];exact h
theorem sc_ofP (y5:Nat→How){f:FuncId}{fn:Func}{c:Code}{args:List SV}{bs:List ay}{R:SV→List ay→Prop}{n:Nat}{rs:Array ResultVar}(fuel:Nat)(hf:V.P.funcs[f]? = some fn)(hb:fn.body=some c)(hn:fn.ntmps=n)(hr:fn.results=rs)(iZ:Enters V f)
 (hlen:args.length≤n) (jo:∀ β β',bp bs.length β β'→aI β args=aI β' args) (h:bo V n ⟨rs.toList,R,y5,false⟩ fuel [.code c] ⟨Yj 0 args,bs⟩):SC V f args bs R :=
 Gv false y5 fuel hf hb hn hr iZ hlen jo h
theorem cK {f:FuncId}{fn:Func}{c:Code}{args:List SV}{bs:List ay}{R:SV→List ay→Prop}{n:Nat}{rs:Array ResultVar}(fuel:Nat)(hf:V.P.funcs[f]? = some fn)(hb:fn.body=some c)(hn:fn.ntmps=n)(hr:fn.results=rs)(iZ:Enters V f)
 (hlen:args.length≤n) (jo:∀ β β',bp bs.length β β'→aI β args=aI β' args) (h:bo V n ⟨rs.toList,R,fun _=>.ord [],false⟩ fuel [.code c] ⟨Yj 0 args,bs⟩):SC V f args bs R :=
 sc_ofP (fun _=>.ord []) fuel hf hb hn hr iZ hlen jo h
theorem aU {f:FuncId}{fn:Func}{c:Code}{args:List SV}{r:SV}{n:Nat}{rs:Array ResultVar}(fuel:Nat)(hf:V.P.funcs[f]? = some fn)(hb:fn.body=some c)(hn:fn.ntmps=n)(hr:fn.results=rs)(iZ:Enters V f)
 (hlen:args.length≤n) (fa:flat.ai args=true) (fr:flat r=true) (h:bo V n ⟨rs.toList,fun r' _=>r'=r,fun _=>.ord [],false⟩ fuel [.code c] ⟨Yj 0 args,[]⟩):PC V f args r :=
 GU fa fr (cK fuel hf hb hn hr iZ hlen (fun β β' _=>di args fa β β') h)
theorem ae {E:Fin}{n f:Nat}{ops:Array Oper}{r:List Oper}{k:List Item}{g:FuncId}{args:List SV}{dst:Option Tmp}{σ:St}{x:SV}(h:PC V g args x)(h2:bo V n E f (.ops ops r::k) ⟨put dst x σ.t,σ.b⟩):lj V n E f ops r k g args dst σ:=by
 unfold lj;exact .inl ⟨x,h,h2⟩
theorem aG {E:Fin}{n f:Nat}{ops:Array Oper}{r:List Oper}{k:List Item}{g:FuncId}{args:List SV}{dst:Option Tmp}{σ:St}{R:SV→List ay→Prop}(h:SC V g args σ.b R)(h2:∀ x bs,R x bs→bo V n E f (.ops ops r::k) ⟨put dst x σ.t,bs⟩)(hu:E.uni=false:=by rfl):lj V n E f ops r k g args dst σ:=by
 unfold lj;exact .inr ⟨R,h,fun hn=>(by rw[hu]at hn;cases hn),h2⟩
theorem aV {E:Fin}{n f:Nat}{ops:Array Oper}{r:List Oper}{rs:List Rk}{k:List Item}{g:FuncId}{args:List SV}{dst:Option Tmp}{σ:St}{x:SV}(h:PC V g args x)(h2:bo V n E f (.eE ops r (rs++[⟨false,false,[],[]⟩])::k) ⟨put dst x σ.t,σ.b⟩):ll V n E f ops r rs k dst σ g args:=by
 unfold ll;exact .inl ⟨x,h,h2⟩
theorem jQ {E:Fin}{n f:Nat}{ops:Array Oper}{r:List Oper}{rs:List Rk}{k:List Item}{g:FuncId}{args:List SV}{dst:Option Tmp}{σ:St}{x:SV}{b:List ay}(h:SC V g args σ.b (fun r' b'=>r'=x∧b'=b))(h2:bo V n E f (.eE ops r (rs++[⟨true,true,[],[]⟩])::k) ⟨put dst x σ.t,b⟩):ll V n E f ops r rs k dst σ g args:=by
 unfold ll;exact .inr (.inl ⟨x,b,h,h2⟩)
theorem cn {E:Fin}{n f:Nat}{ops:Array Oper}{r:List Oper}{rs:List Rk}{k:List Item}{g:FuncId}{args:List SV}{dst:Option Tmp}{σ:St}{x:SV}{b:List ay}(W:List (Nat × Nat × Nat))(h:SC V g args σ.b (fun r' b'=>r'=x∧b'=b))(ho:FT W b σ.b)
 (h2:bo V n E f (.eE ops r (rs++[⟨true,false,[],W⟩])::k) ⟨put dst x σ.t,b⟩):ll V n E f ops r rs k dst σ g args:=by
 unfold ll;exact .inr (.inr ⟨x,b,W,h,ho,h2⟩)
theorem aJ {E:Fin}{n f:Nat}{x:Code}{k:List Item}{σ:St}(I:St→Prop)(μ:St→Nat)(h0:I σ)(h:∀ σ',I σ'→bo V n E f (.code x::.kG I μ (μ σ')::k) σ'):uf V n E f x k σ:=by
 unfold uf;exact⟨I,μ,h0,h⟩
def kK (f:Nat→Nat)(l:List (Nat × Nat × Nat)):List (Nat × Nat × Nat):=l.map fun x=>(f x.1,x.2.1,x.2.2)
def fO (f:Nat→Nat)(r:Rk):Rk:=⟨r.s,r.all,kK f r.rd,kK f r.wr⟩
theorem Dn (f:Nat→Nat)(xs ys:List (Nat × Nat × Nat))(h:lX xs ys=true):lX (kK f xs) (kK f ys)=true:=by
 unfold lX at h ⊢
 obtain⟨a,ha,h⟩:=zJO.1 h
 obtain⟨b,hb,h⟩:=zJO.1 h
 refine zJO.2 ⟨_,zJ7 ha,zJO.2 ⟨_,zJ7 hb,?_⟩⟩
 unfold ovl at h ⊢
 simp only[zJv,beq_iff_eq]at h ⊢
 exact⟨by rw[h.1],h.2⟩
theorem eT (f:Nat→Nat){ops:Array Oper}{rs:List Rk}(h:IX ops (rs.map (fO f))):IX ops rs:=by
 simp only[IX,zJv]at h ⊢
 refine⟨?_,h.2⟩
 have h1:=h.1
 unfold yQ at h1 ⊢
 refine zJy.2 (fun i hi=>zJy.2 (fun k hk=>?_))
 have h2:=zJy.1 (zJy.1 h1 i hi) k hk
 simp only[zJw]at h2 ⊢
 refine h2.imp_right (fun h2=>?_)
 have hg:∀ j,((rs.map (fO f))[j]?).getD vL=fO f ((rs[j]?).getD vL):=fun j=>by
  rw[List.getElem?_map]
  cases rs[j]? <;> rfl
 have hp:x8 ops (rs.map (fO f)) i k=x8 ops rs i k:=by unfold x8;simp only[hg];rfl
 unfold tK at h2 ⊢
 simp only[hg,hp]at h2
 generalize (rs[i]?).getD vL=ri at h2 ⊢
 generalize (rs[k]?).getD vL=rk at h2 ⊢
 have hs:∀ r,(fO f r).s=r.s:=fun _=>rfl
 have ha:∀ r,(fO f r).all=r.all:=fun _=>rfl
 have he:(fO f ri).rd.isEmpty=ri.rd.isEmpty:=by
  show (ri.rd.map _).isEmpty=_
  cases ri.rd <;> rfl
 rw[hs,hs,ha,he]at h2
 split
 ·rename_i hc
  rw[if_pos hc]at h2
  exact h2
 ·rename_i hc
  rw[if_neg hc]at h2
  split
  ·rename_i vz
   rw[if_pos vz]at h2
   exact h2
  ·rename_i vz
   rw[if_neg vz]at h2
   split
   ·rename_i uO
    rw[if_pos uO]at h2
    simp only[zJw,Bool.not_eq_true',Bool.or_eq_false_iff]at h2 ⊢
    refine h2.imp_right (fun h2=>⟨h2.1,?_⟩)
    cases ho:lX ri.rd rk.wr with
    | false=>rfl
    | true =>
      have:=Dn f _ _ ho
      rw[show lX (kK f ri.rd) (kK f rk.wr)=false from h2.2]at this
      cases this
   ·rfl
end
def nh (ms:List Nat):List (Nat × Bool)→Nat
 | []=>0
 | (e,true)::r=>nh ms r ||| (1 <<< e) ||| ms.getD e 0
 | (_,false)::r=>nh ms r
def Ik {β:Type}(m:Nat)(f:Nat→β):β:=match m with
 | 0=>f 0
 | k+1=>f (k+1)
theorem FE {β:Type}(m:Nat)(f:Nat→β):Ik m f=f m:=by cases m <;> rfl
def edges (o:Oper):List (Nat × Bool):=o.after.toList.map fun e=>(e.on,Region.binds .any e)
def u4:List Oper→List Nat→List Nat
 | [],ms=>ms
 | o::r,ms=>Ik (nh ms (edges o)) fun m=>u4 r (ms++[m])
def yK (D:List Nat)(i k:Nat):Bool:=(D.getD i 0).testBit k
def Gl (D:List Nat)(i k:Nat):Bool:=if k<i then yK D i k else yK D k i
def preF (ops:Array Oper)(rs:List Rk)(D:List Nat)(i k:Nat):Bool:=!(eh ops k&&decide (k<i))||(zJB k).all fun j=>!(((rs[j]?).getD vL).s)||yK D i j
def pairF (ops:Array Oper)(rs:List Rk)(D:List Nat)(i k:Nat):Bool :=
 if rL ops i k then Gl D i k&&preF ops rs D i k
 else if ((rs[i]?).getD vL).s&&((rs[k]?).getD vL).s then eh ops (max i k)||Gl D i k
 else if ((rs[k]?).getD vL).s&&!((rs[i]?).getD vL).rd.isEmpty then(Gl D i k&&preF ops rs D i k)||!(((rs[k]?).getD vL).all||lX ((rs[i]?).getD vL).rd ((rs[k]?).getD vL).wr)
 else true
def okF (ops:Array Oper)(rs:List Rk):Bool :=
 ((zJB ops.size).all fun i=>(zJB ops.size).all fun k=>k==i||pairF ops rs (u4 ops.toList []) i k)&&IQ ops
theorem u3 {ops:Array Oper}:∀ (f g i k:Nat),f≤g→kH ops f i k=true→kH ops g i k=true
 | 0,_,_,_,_,h=>by simp[kH]at h
 | f+1,0,_,_,h,_=>by omega
 | f+1,g+1,i,k,hfg,h=>by
   rw[kH]at h ⊢
   split at h
   ·rename_i o ho
    rw[← Array.any_toList,zJO]at h ⊢
    obtain⟨e,he,h⟩:=h
    refine⟨e,he,?_⟩
    simp only[zJv,zJw]at h ⊢
    refine⟨h.1,h.2.imp id (u3 f g e.on k (by omega))⟩
   ·cases h
theorem o0 (ms:List Nat)(k:Nat):∀ l:List (Nat × Bool),(nh ms l).testBit k=true→∃ e,(e,true)∈l∧(e=k∨(ms.getD e 0).testBit k=true)
 | [],h=>by simp[nh]at h
 | (e,true)::r,h=>by
  rw[nh,Nat.testBit_or,Nat.testBit_or,zJw,zJw]at h
  rcases h with(h|h) | h
  ·obtain⟨e',h1,h2⟩:=o0 ms k r h
   exact⟨e',zJY _ h1,h2⟩
  ·refine⟨e,zJP,.inl ?_⟩
   rw[Nat.one_shiftLeft,Nat.testBit_two_pow]at h
   simpa using h
  ·exact⟨e,zJP,.inr h⟩
 | (_,false)::r,h=>by
  rw[nh]at h
  obtain⟨e',h1,h2⟩:=o0 ms k r h
  exact⟨e',zJY _ h1,h2⟩
theorem Bw {ops:Array Oper}:∀ (r:List Oper)(ms:List Nat),ops.toList.drop ms.length=r→(∀ i k,(ms.getD i 0).testBit k=true→i<ms.length∧kH ops (i+1) i k=true) →
 ∀ i k,((u4 r ms).getD i 0).testBit k=true→kH ops (i+1) i k=true
 | [],ms,_,h,i,k,hb=>(h i k hb).2
 | o::r,ms,hd,h,i,k,hb=>by
   rw[u4,FE]at hb
   have aA:ms.length<ops.toList.length:=by
    apply Nat.lt_of_not_le
    intro hle
    rw[List.drop_eq_nil_of_le hle]at hd
    cases hd
   have ho:ops[ms.length]? = some o:=by
    rw[← Array.getElem?_toList,zJR aA]
    rw[List.drop_eq_getElem_cons aA]at hd
    rw[(List.cons.inj hd).1]
   refine Bw r (ms++[nh ms (edges o)]) ?_ ?_ i k hb
   ·rw[zJC,zJI]
    rw[List.drop_eq_getElem_cons aA]at hd
    exact(List.cons.inj hd).2
   ·intro i k hb
    rw[zJD]at hb
    rcases Nat.lt_trichotomy i ms.length with hi|hi|hi
    ·rw[zJz hi,← zJD]at hb
     exact⟨by simp;omega,(h i k hb).2⟩
    ·subst hi
     rw[zJE (zJG _),Nat.sub_self]at hb
     simp only[List.getElem?_cons_zero,Option.getD_some]at hb
     refine⟨by simp,?_⟩
     obtain⟨e,h1,h2⟩:=o0 ms k _ hb
     obtain⟨d,pg,nC⟩:=List.mem_map.1 h1
     rw[kH,ho]
     simp only
     rw[← Array.any_toList]
     refine zJO.2 ⟨d,pg,?_⟩
     simp only[Prod.mk.injEq]at nC
     rw[nC.2,nC.1,Bool.true_and,zJw]
     rcases h2 with rfl|h2
     ·left;simp
     ·right
      have:=h e k h2
      exact u3 (e+1) _ e k (by omega) this.2
    ·rw[List.getElem?_eq_none (by simp;omega)]at hb
     simp at hb
theorem av {ops:Array Oper}{rs:List Rk}(h:okF ops rs=true):IX ops rs:=by
 unfold okF at h
 rw[zJv]at h
 obtain⟨h,ha⟩:=h
 unfold IX yQ
 rw[zJv]
 refine⟨zJy.2 fun i hi=>zJy.2 fun k hk=>?_,ha⟩
 have h1:=zJy.1 (zJy.1 h i hi) k hk
 rw[zJw]at h1 ⊢
 refine h1.imp id fun h1=>?_
 have hdep:∀ i k,i∈zJB ops.size→yK (u4 ops.toList []) i k=true→kH ops ops.size i k=true:=fun i k hi hb =>
  u3 (i+1) _ i k (by have:=zJK.1 hi;omega) (Bw ops.toList [] (by simp) (fun i k hb=>by simp at hb) i k hb)
 have htie:Gl (u4 ops.toList []) i k=true→tc ops i k=true:=fun h=>by
  unfold Gl at h
  unfold tc
  split
  ·rename_i iV;rw[if_pos iV]at h;exact hdep i k hi h
  ·rename_i iV;rw[if_neg iV]at h;exact hdep k i hk h
 have dz:preF ops rs (u4 ops.toList []) i k=true→x8 ops rs i k=true:=fun h=>by
  unfold preF at h
  unfold x8
  rw[zJw]at h ⊢
  refine h.imp id (fun h=>zJy.2 fun j hj=>?_)
  have:=zJy.1 h j hj
  rw[zJw]at this ⊢
  exact this.imp id (fun h=>hdep i j hi h)
 unfold pairF at h1
 unfold tK
 split
 ·rename_i hc
  rw[if_pos hc,zJv]at h1
  rw[zJv]
  exact⟨htie h1.1,dz h1.2⟩
 ·rename_i hc
  rw[if_neg hc]at h1
  split
  ·rename_i vz
   rw[if_pos vz,zJw]at h1
   rw[zJw]
   exact h1.imp id htie
  ·rename_i vz
   rw[if_neg vz]at h1
   split
   ·rename_i uO
    rw[if_pos uO]at h1
    rw[zJw]at h1 ⊢
    refine h1.imp (fun h1=>?_) id
    rw[zJv]at h1 ⊢
    exact⟨htie h1.1,dz h1.2⟩
   ·rfl
def aa:=zJt (zJt (zJt (zJt (zJt (@E7) (zJt (@Option.getD_some.{0}) (@Option.getD_none.{0}))) (zJt (@List.getElem?_cons_zero.{0}) (zJt (@List.getElem?_cons_succ.{0}) (@List.length_cons.{0})))) (zJt (zJt (@List.length_nil.{0}) (zJt (@List.cons_append.{0}) (@List.nil_append.{0}))) (zJt (@zJ0.{0}) (zJt (@List.map_cons.{0,0}) (@List.map_nil.{0,0}))))) (zJt (zJt (zJt (@List.take_succ_cons.{0}) (zJt (@List.take_zero.{0}) (@List.drop_succ_cons.{0}))) (zJt (@List.drop_zero.{0}) (zJt (@List.set_cons_zero.{0}) (@List.set_cons_succ.{0})))) (zJt (zJt (@List.all_cons.{0}) (zJt (@List.all_nil.{0}) (@List.mapIdx_cons.{0,0}))) (zJt (zJt (@List.mapIdx_nil.{0,0}) (@List.getD_cons_zero.{0})) (zJt (@List.getD_cons_succ.{0}) (@zJM.{0,0})))))) (zJt (zJt (zJt (zJt (@zJ8.{0,0}) (zJt (@zJF.injEq.{0}) (@Nat.zero_add))) (zJt (@Nat.add_zero) (zJt (@decide_true) (@decide_false)))) (zJt (zJt (@Bool.and_true) (zJt (@Bool.true_and) (@Bool.and_false))) (zJt (zJt (@Bool.false_and) (@true_and)) (zJt (@and_true) (@false_and))))) (zJt (zJt (zJt (@and_false) (zJt (@if_true.{1}) (@if_false.{1}))) (zJt (@List.toList_toArray.{0}) (zJt (@Bool.not_true) (@Bool.not_false)))) (zJt (zJt (@Bool.false_eq_true) (zJt (@false_implies) (@Int.toNat_natCast))) (zJt (zJt (@Wf.B2) (@Wf.B4)) (zJt (@Wf.B3) (@List.take_length.{0}))))))
def ad:=zJt (zJt (zJt (@Yd.eq_11) (@Yd.eq_10)) (zJt (@Cf.eq_1) (zJt (@GC.eq_1) (@G9)))) (zJt (zJt (@G0.eq_1) (@G0.eq_2)) (zJt (@itOf.eq_1) (zJt (zJt (zJt (zJt (@bo.eq_21) (@bo.eq_22)) (zJt (@bo.eq_23) (@bo.eq_24))) (zJt (zJt (@bo.eq_25) (@xY.eq_1)) (zJt (@DG.eq_1) (@DF.eq_1)))) (zJt (zJt (zJt (zJt (@mW.eq_1) (zJt (@mW.eq_2) (@DI.eq_1))) (zJt (@mV.eq_1) (zJt (@mV.eq_2) (@oj.eq_1)))) (zJt (zJt (@oj.eq_2) (zJt (@oj.eq_3) (@oy.eq_1))) (zJt (zJt (@DH.eq_1) (@DH.eq_2)) (zJt (@ir.eq_1) (@ir.eq_2))))) (zJt (zJt (zJt (zJt (zJt (zJt (zJt (zJt (@bo.eq_1) (@bo.eq_2)) (zJt (@bo.eq_3) (@bo.eq_4))) (zJt (zJt (@bo.eq_5) (@bo.eq_6)) (zJt (@bo.eq_7) (zJt (@bo.eq_8) (@bo.eq_9))))) (zJt (zJt (zJt (@bo.eq_10) (@bo.eq_11)) (zJt (@bo.eq_12) (@bo.eq_13))) (zJt (zJt (@bo.eq_14) (@bo.eq_15)) (zJt (@bo.eq_16) (zJt (@bo.eq_17) (@bo.eq_18)))))) (zJt (zJt (zJt (zJt (@bo.eq_19) (@bo.eq_20)) (zJt (@XQ.eq_1) (@XG.eq_1))) (zJt (zJt (@Ec.eq_1) (@Ec.eq_2)) (zJt (@sm.eq_1) (zJt (@sm.eq_2) (@sm.eq_3))))) (zJt (zJt (zJt (@FX.eq_1) (@FX.eq_2)) (zJt (@Yl.eq_1) (zJt (@Yl.eq_2) (@Yl.eq_3)))) (zJt (zJt (@Yl.eq_4) (@Yl.eq_5)) (zJt (@Yl.eq_6) (zJt (@Yl.eq_7) (@Yl.eq_8))))))) (zJt (zJt (zJt (zJt (zJt (zJt @Yl.eq_9 (zJt @Yl.eq_10 (zJt @CB.eq_1 (zJt @BB.eq_1 @BB.eq_2)))) (@Xm.eq_1)) (zJt (@Xm.eq_2) (@Xm.eq_3))) (zJt (zJt (@Yn.eq_1) (@Yi.eq_1)) (zJt (@Yi.eq_2) (zJt (@Xa.eq_1) (@Ym.eq_1))))) (zJt (zJt (zJt (@Ym.eq_2) (@Xc.eq_1)) (zJt (@Xc.lD.eq_1) (zJt (@Xc.lD.eq_2) (@reS.eq_1)))) (zJt (zJt (@reS.eq_2) (@Xj.eq_1)) (zJt (@Yb.eq_1) (zJt (@mmS.eq_1) (@mmS.eq_2)))))) (zJt (zJt (zJt (zJt (@Xq.eq_1) (@Xq.eq_2)) (zJt (@sG.eq_1) (@sG.eq_2))) (zJt (zJt (zJt @sG.eq_3 (zJt @capB.eq_1 @capB.eq_2)) (@zB.eq_1)) (zJt (@zB.eq_2) (zJt (@zB.eq_3) (@zB.eq_4))))) (zJt (zJt (zJt (@XP.eq_1) (@XP.eq_2)) (zJt (@XP.eq_3) (zJt (@XN.eq_1) (@XN.eq_2)))) (zJt (zJt (@XO.eq_1) (@XO.eq_2)) (zJt (@Yc.eq_1) (zJt (@Yc.eq_2) (@Yc.eq_3)))))))) (zJt (zJt (zJt (zJt (zJt (zJt (@XA.eq_1) (@XA.eq_2)) (zJt (@XA.eq_3) (@Yg.eq_1))) (zJt (zJt (@Yg.eq_2) (@Yg.eq_3)) (zJt (@Yg.eq_4) (zJt (@Xy.eq_1) (@Xy.eq_2))))) (zJt (zJt (zJt (@Xy.eq_3) (@XE.eq_1)) (zJt (@XE.eq_2) (zJt (@XE.eq_3) (@rA.eq_1)))) (zJt (zJt (@rA.eq_2) (@eK.eq_1)) (zJt (@eK.eq_2) (zJt (@eK.eq_3) (@Yk.eq_1)))))) (zJt (zJt (zJt (zJt (@Yk.eq_2) (@XR.eq_1)) (zJt (@Yd.eq_1) (@Yd.eq_2))) (zJt (zJt (@Yd.eq_3) (@Yd.eq_4)) (zJt (@Yd.eq_5) (zJt (@Yd.eq_6) (@Yd.eq_7))))) (zJt (zJt (zJt (zJt (@Yd.eq_8) (zJt (@Yd.eq_9) (zJt (@xV.eq_1) (zJt (@yv.eq_1) (zJt (@sO.eq_1) (zJt (@qZ.eq_1) (@qZ.eq_2))))))) (@goR.eq_1)) (zJt (@goR.eq_2) (zJt (@XC.eq_1) (@sBox.eq_1)))) (zJt (zJt (@XU.eq_1) (@XH.eq_1)) (zJt (@Xr.eq_1) (zJt (@sNil.eq_1) (@XL.eq_1))))))) (zJt (zJt (zJt (zJt (zJt (@Xt.eq_1) (@Xt.eq_2)) (zJt (@XV.eq_1) (@Xv.eq_1))) (zJt (zJt (@Xv.eq_2) (@Xv.eq_3)) (zJt (@Xv.eq_4) (zJt (@Xv.eq_5) (@Xv.eq_6))))) (zJt (zJt (zJt (@Xv.eq_7) (@Xv.eq_8)) (zJt (@FD.eq_1) (zJt (@FD.eq_2) (@oL.eq_1)))) (zJt (zJt (@XI.eq_1) (@XF.eq_1)) (zJt (@XB.eq_1) (zJt (@IF.eq_1) (@XK.eq_1)))))) (zJt (zJt (zJt (zJt (@XD.eq_1) (@IG.eq_1)) (zJt (@dN.eq_1) (@dN.eq_2))) (zJt (zJt (@Xz.eq_1) (@Xz.eq_2)) (zJt (@Xz.eq_3) (zJt (@Xz.eq_4) (@Xz.eq_5))))) (zJt (zJt (zJt (zJt (@Xz.eq_6) (@Xz.eq_7)) (@y2.eq_1)) (zJt (@y2.eq_2) (zJt (@y2.eq_3) (@y2.eq_4)))) (zJt (zJt (@y2.eq_5) (@y2.eq_6)) (zJt (@y2.eq_7) (zJt (@idxs.eq_1) (@idxs.eq_2))))))))) (zJt (zJt (zJt (zJt (zJt (zJt (zJt (zJt (@idxs.eq_3) (@idxs.eq_4)) (@pv.eq_1)) (zJt (@pv.eq_2) (@pv.eq_3))) (zJt (zJt (@pv.eq_4) (@pv.eq_5)) (zJt (@pv.eq_6) (zJt (@pv.eq_7) (@pv.eq_8))))) (zJt (zJt (zJt (@pv.eq_9) (@pv.eq_10)) (zJt (@pv.eq_11) (zJt (@pv.eq_12) (@pv.eq_13)))) (zJt (zJt (@pv.eq_14) (@pv.eq_15)) (zJt (zJt (@pv.eq_16) (zJt (@pv.eq_17) (@pv.eq_18))) (zJt (@XX.eq_1) (@Ya.eq_1)))))) (zJt (zJt (zJt (zJt (@XJ.eq_1) (@XJ.eq_2)) (zJt (@XJ.eq_3) (@XJ.eq_4))) (zJt (zJt (@Xb.eq_1) (@Xu.eq_1)) (zJt (@oBin.eq_1) (zJt (@oUn.eq_1) (zJt (@oUn.eq_2) (@oUn.eq_3)))))) (zJt (zJt (zJt (@Ye.eq_1) (@XW.eq_1)) (zJt (@XW.eq_2) (zJt (@XW.eq_3) (@Xw.eq_1)))) (zJt (zJt (@Xx.eq_1) (@Xh.eq_1)) (zJt (@Xk.eq_1) (zJt (@XY.eq_1) (@XY.eq_2))))))) (zJt (zJt (zJt (zJt (zJt (@XS.eq_1) (@E5.eq_1)) (zJt (@E5.eq_2) (@E5.eq_3))) (zJt (zJt (@nm.eq_1) (@nm.eq_2)) (zJt (@nm.eq_3) (zJt (@nm.eq_4) (@Yh.eq_1))))) (zJt (zJt (zJt (@Yh.eq_2) (@Yh.eq_3)) (zJt (@Yh.eq_4) (zJt (@ev.eq_1) (@ev.eq_2)))) (zJt (zJt (@ev.eq_3) (@ev.eq_4)) (zJt (@lk.eq_1) (zJt (@lk.eq_2) (@put.eq_1)))))) (zJt (zJt (zJt (zJt (@put.eq_2) (@fits.eq_1)) (zJt (@fits.eq_2) (@kd.eq_1))) (zJt (zJt (@sz.eq_1) (@bin.eq_1)) (zJt (@bin.eq_2) (zJt (@bin.eq_3) (@lW.eq_1))))) (zJt (zJt (zJt (@lW.eq_2) (@lW.eq_3)) (zJt (@lW.eq_4) (zJt (@lW.eq_5) (@lW.eq_6)))) (zJt (zJt (@lW.eq_7) (@lW.eq_8)) (zJt (@lW.eq_9) (zJt (@lW.eq_10) (@lW.eq_11)))))))) (zJt (zJt (zJt (zJt (zJt (zJt (@lW.eq_12) (@lW.eq_13)) (zJt (@lW.eq_14) (@lW.eq_15))) (zJt (zJt (@lW.eq_16) (@lW.eq_17)) (zJt (@wk.eq_1) (zJt (@wk.eq_2) (@wk.eq_3))))) (zJt (zJt (zJt (@wk.eq_4) (@wk.eq_5)) (zJt (@wk.eq_6) (zJt (@wk.eq_7) (@wk.eq_8)))) (zJt (zJt (@y3.eq_1) (@ar.eq_1)) (zJt (@ar.eq_2) (zJt (@Dd.eq_1) (@Dd.eq_2)))))) (zJt (zJt (zJt (zJt (@Dd.eq_3) (@Dd.eq_4)) (zJt (@Dd.eq_5) (@Dd.eq_6))) (zJt (zJt (@Dd.eq_7) (@Dd.eq_8)) (zJt (@eqS.eq_1) (zJt (@eqS.eq_2) (@Bn.eq_1))))) (zJt (zJt (zJt (@Bn.eq_2) (@Bn.eq_3)) (zJt (@Bn.eq_4) (zJt (@Bn.eq_5) (@Bn.eqF.eq_1)))) (zJt (zJt (@Bn.eqF.eq_2) (@CA.eq_1)) (zJt (@CA.eq_2) (zJt (@CA.eq_3) (@vk.eq_1))))))) (zJt (zJt (zJt (zJt (zJt (@vk.eq_2) (@vk.eq_3)) (zJt (@vk.eq_4) (@vk.eq_5))) (zJt (zJt (@oX.eq_1) (@oX.eq_2)) (zJt (@XM.eq_1) (zJt (@cells.eq_1) (@cells.eq_2))))) (zJt (zJt (zJt (@He.eq_1) (@He.eq_2)) (zJt (@one.eq_1) (zJt (@one.eq_2) (@one.eq_3)))) (zJt (zJt (@one.eq_4) (@Xs.eq_1)) (zJt (@iy.eq_1) (zJt (@sn.eq_1) (@XZ.eq_1)))))) (zJt (zJt (zJt (zJt (@XZ.eq_2) (@Yf.eq_1)) (zJt (@Yf.eq_2) (@Xl.eq_1))) (zJt (zJt (@Xl.eq_2) (@XT.eq_1)) (zJt (@XT.eq_2) (zJt (@EU.eq_1) (@EU.eq_2))))) (zJt (zJt (zJt (@qP.eq_1) (@qP.eq_2)) (zJt (@ofV.eq_1) (zJt (@ofV.eq_2) (@ofV.eq_3)))) (zJt (zJt (@ofV.eq_4) (@ofV.eq_5)) (zJt (@ofV.eq_6) (zJt (@Yj.eq_1) (@Yj.eq_2))))))))))))))
end Vc
namespace Go.Proofs.YteipdaijbncgeaaGreatDoor
open Go Vc Go.RowKit Wf
open Go.ChangeShapes Go.WideShapes Go.ChangeAt
open Go.WideMaps Go.WideElems
open Go.ChangeMaps (setBlock shut_map_nil open_string shut_string keptBut_setBlock frozen?_setBlock heap_setBlock_same)
theorem De {W:World}(h:W.ShapedOpen Tryz.prog):Env W :=
 Go.Proofs.cell_of_shapedOpen_int (zero:=#[.int .i64 0]) (t:=3) h (of_decide_eq_true (by kernel_rfl)) (by kernel_rfl) rfl (by kernel_rfl) (by kernel_rfl) Tryz.underlying3
theorem own:ownKnob Tryz.prog.godebug=none:=by kernel_rfl
theorem laidOut:laidOutB Tryz.prog=true:=by kernel_rfl
section
variable {H:Type} {enc:TypeId × Value→H} {W W':World}
theorem ov {P:Program}(hl:laidOutB P=true){B:Nat}:∀ {ts:List TypeId}{vs:List Value}{ds:List (DataW H)}{ps:List MemPlace},ts.all (fun t=>P.readableRec t&&decide (t<P.types.size))=true →
 DataW.TrodAll enc P W 0 (fun _=>true) true ts vs ds ps→(∀ p∈ps,W.sameAt W' p)→(∀ p∈ps,p.block<B)→DataW.TrodAll enc P W' 0 (fun b=>decide (b<B)) true ts vs ds ps
 | [],[],[],ps,_,h,_,_=>h
 | t::ts,v::vs,d::ds,ps,hr,h,hs,hb=>by
   obtain⟨p,q,h1,h2,rfl⟩:=h
   simp only[List.all_cons,zJv,decide_eq_true_eq]at hr
   exact⟨p,q,Trod_stays hl hr.1.1 hr.1.2 h1 (fun x hx=>hs x (zJ6 _ hx)) (fun x hx=>by simpa using hb x (zJ6 _ hx)),ov hl hr.2 h2 (fun x hx=>hs x (List.mem_append_right _ hx)) (fun x hx=>hb x (List.mem_append_right _ hx)),rfl⟩
 | [],_::_,_,_,_,h,_,_=>by cases h
 | [],[],_::_,_,_,h,_,_=>by cases h
 | _::_,[],_,_,_,h,_,_=>by cases h
 | _::_,_::_,[],_,_,h,_,_=>by cases h
theorem uh {P:Program}{fn:Func}{s:ChangeSpec}{args:Array Value}{ds gs:List (DataW H)}{before:List MemPlace}{tb:TypeId}(hl:laidOutB P=true)
 (hpar:fn.params.toList.all (fun t=>P.readableRec t&&decide (t<P.types.size))=true) (hv:s.vars=[]) (hr:fn.resultTypes=#[tb]) (htb:P.underlying tb=some .bool)
 (hgs:gs=[]) (kD:(s.fn H ds).results=[.lit (.bool true)]) (gx:(s.fn H ds).args=ds) (hvs:(s.fn H ds).vars=[])
 (hW:DataW.Whole enc P fn.params.toList s.vars false W args.toList ds gs before) (bel:Below W.heap.size W W'):s.post enc P fn false true false false W args (.bool true) W':=by
 have aA:=hW.lt
 have hW':=hW
 obtain⟨p,q,hA,hV,hb,-,-⟩:=hW
 subst hgs
 rw[hv]at hV
 obtain⟨-,rfl⟩:=trodVars_none hV
 subst hb
 refine⟨ds,[],_,[],p,[],hW',?_,?_,?_,bel.frame _,fun h=>by cases h⟩
 ·rw[zJ0,kD,hr]
  exact trodAll_mk1 (shut_bool htb _)
 ·rw[zJ0,gx]
  exact ov hl hpar hA (fun x hx=>bel.same (aA x (zJ6 _ hx))) (fun x hx=>aA x (zJ6 _ hx))
 ·rw[zJ0,hvs,hv]
  rfl
end
def flatD:Nat→DataW Unit→List Value
 | _,.lit (.int k i)=>[.int k i]
 | n+1,.agg ps=>ps.flatMap (flatD n)
 | _,_=>[]
def setCells (d:DataW Unit):Obj→Obj
 | .cells _ t fr=>.cells (flatD 8 d).toArray t fr
 | o=>o
noncomputable def nY (os:Os):World :=
 { World.holding Tryz.prog os ⟨#[],#[],[]⟩ with heap:=((World.holding Tryz.prog os ⟨#[],#[],[]⟩).heap.modify 1 (setCells Go.Pinned.utf8First)).modify 2 (setCells Rows.laid_unicode_utf8_acceptRanges) }
set_option maxRecDepth 100000 in
theorem uj (os : Os) (args : Array Value) : laidMet Tryz.prog [("unicode/utf8.acceptRanges", Rows.laid_unicode_utf8_acceptRanges), ("unicode/utf8.first", Rows.laid_unicode_utf8_first)] ((nY os).forCall (fun _ _ => 0) ⟨#[], args, []⟩).memory :=
 laidMet_of_run3 8 (by kernel_rfl) (by kernel_rfl) (by kernel_rfl)
open Go in
theorem tJ:true=Tryz.pinned.checked.prog.looks []:=by kernel_rfl
open Go Go.RowKit
set_option maxRecDepth 100000
theorem pf_maps:mapsRowed Tryz.pinned.checked.prog=true:=by kernel_rfl
theorem pf_stops:(Tryz.pinned.checked.prog.stops==[])=true:=by kernel_rfl
theorem pf_knobs:(Tryz.pinned.checked.prog.stopKnobs==[])=true:=by kernel_rfl
theorem pf_keys:(Rows.cacheSoundRow.plainKeys==Tryz.pinned.checked.prog.plainKeys)=true:=by kernel_rfl
theorem pf_heard:Tryz.pinned.checked.prog.stopsHeard=true:=by kernel_rfl
theorem pf_may:Tryz.pinned.checked.prog.mayEnter=true:=by kernel_rfl
theorem pf_lifts:(Rows.cacheSoundRow.lifted==Tryz.pinned.checked.prog.liftsFinal)=true:=by kernel_rfl
theorem pf_make:(Tryz.pinned.checked.prog.make==some Rows.cacheSoundRow.make)=true:=by kernel_rfl
theorem and4 {a b c d:Bool}(h:(a&&b&&c&&d)=true):(a=true∧b=true)∧c=true∧d=true:=by
 simp only[zJv]at h
 exact⟨⟨h.1.1.1,h.1.1.2⟩,h.1.2,h.2⟩
end Go.Proofs.YteipdaijbncgeaaGreatDoor
namespace Vc
open Go Go.RowKit Wf
theorem mD.mono {own own':Nat→Prop}{w w':World}(h:mD own w w')(k:∀ b,own b→own' b):mD own' w w' :=
 ⟨h.os,h.tape,h.output,h.size,fun b hb hn=>h.block b hb (fun e=>hn (k b e))⟩
def rE (TB TU:TypeId)(l:List UInt8):Rsc where
 holds t fp w:=t.off=0∧∃ (p:Value) (t2:Bt) (f2:Nat→Prop),(p=.pointer none∨p=.pointer (some ⟨t.cB,0,none⟩)) ∧
  (∃ fz,Head w t.cB TB [p,oV t2 l.length] [] fz)∧Holds jR t2 f2 w (.own (l.map cU) TU 1 l.length true)∧¬ f2 t.cB∧∀ k,fp k↔k=t.cB∨f2 k
 stays b fp w w':=by
  rintro⟨h0,p,t2,f2,hp,⟨fz,h1,h2⟩,h3,h4,h5⟩ hk
  exact⟨h0,p,t2,f2,hp,⟨fz,(hk _ ((h5 _).2 (.inl rfl))).trans h1,h2⟩,h3.stays (fun k hf=>hk k ((h5 k).2 (.inr hf))),h4,h5⟩
theorem u8_conc (l:List UInt8)(β β':Nat→Bt):(l.map cU).map (ah β)=(l.map cU).map (ah β'):=by
 simp[cU,ah]
theorem A3 {β β':Nat→Bt}{t:Bt}{f:Nat→Prop}{w:World}{l:List UInt8}{TU:TypeId}{n:Nat}{m:Bool}(h:Holds β t f w (.own (l.map cU) TU 1 n m)):Holds β' t f w (.own (l.map cU) TU 1 n m):=by
 simp only[Holds]at h ⊢
 rw[u8_conc l β' β]
 exact h
theorem xW {b1 b2:Nat→Bt}{t t':Bt}{fq fq':Nat→Prop}{w w':World}{r:ay}(h1:Holds b1 t fq w r)(h2:Holds b2 t fq w r)(h:Holds b1 t' fq' w' r):Holds b2 t' fq' w' r:=by
 cases r with
 | cells c T m =>
   obtain⟨-,⟨r1,f1,d1,rfl⟩,-⟩:=h1
   obtain⟨-,⟨r2,f2,d2,rfl⟩,-⟩:=h2
   have e:=p6 (by simp) d1.sA d2.sA
   simp only[Holds]at h ⊢
   rw[← e];exact h
 | own c e s n m =>
   rcases h1 with⟨-,-,rfl,-⟩|⟨-,-,-,-,l1,-⟩
   ·simpa[Holds] using h
   ·rcases h2 with⟨-,-,rfl,-⟩|⟨-,-,-,-,l2,-⟩
    ·simpa[Holds] using h
    ·have e:=p6 (by simp) l1 l2
     simp only[Holds]at h ⊢
     rw[← e];exact h
 | ext R=>exact h
 | gone=>exact h
variable {V:Cx} {f:FuncId} {args:List SV} {bs:List ay} {R:SV→List ay→Prop}
theorem sc_weak {i:Nat}{r0 r1:ay}(hi:bs[i]? = some r0)(hm:r1.cf=true→r0.cf=true)(hv:∀ (β:Nat→Bt)(fp:Nat→Nat→Prop)(w:World),Holds β (β i) (fp i) w r0→Holds β (β i) (fp i) w r1)(h:SC V f args (bs.set i r1) R):SC V f args bs R:=by
 refine⟨h.1,fun β fp w fU hG hE=>?_⟩
 have dR:i<bs.length:=(zJu.1 hi).1
 have old:∀ {j r'},(bs.set i r1)[j]? = some r'→∃ r,bs[j]? = some r∧(r'.cf=true→r.cf=true)∧(j≠i∧r'=r∨j=i∧r'=r1):=fun {j r'} hj=>by
  by_cases lM:j=i
  ·subst lM
   rw[zJH dR]at hj
   obtain rfl:=zJF.inj hj
   exact⟨r0,hi,hm,.inr ⟨rfl,rfl⟩⟩
  ·rw[zJA (fun e=>lM e.symm)]at hj
   exact⟨r',hj,id,.inl ⟨lM,rfl⟩⟩
 refine(h.2 β fp w (fun β' hβ=>?_) (fun j r hj hjm k hk=>?_) hE).mono ?_
 ·rw[zJS]at hβ
  have hb:=fU β' hβ
  refine⟨fun j r' hj=>?_,fun j r' hj k hk=>?_,fun j l a b hj hl bk jc=>?_⟩
  ·obtain⟨r,hr,-,⟨-,rfl⟩|⟨rfl,rfl⟩⟩:=old hj
   ·exact hb.holds j _ hr
   ·exact hv β' fp w (hb.holds _ _ hi)
  ·obtain⟨r,hr,-⟩:=old hj
   exact hb.lt j r hr k hk
  ·obtain⟨r,hr,e,-⟩:=old hj
   obtain⟨r',hr',e',-⟩:=old hl
   exact hb.sep j l r r' hr hr' bk (jc.imp e e')
 ·obtain⟨r,hr,e,-⟩:=old hj
  exact hG j r hr (e hjm) k hk
 ·rintro e w' ⟨r,bs',β₂,fp₂,hR,Bf,hlen,aT,jx,nx,mf⟩
  rw[zJS]at Bf hlen
  refine⟨r,bs',β₂,fp₂,hR,Bf,hlen,aT,jx.mono ?_,fun j r' hj hjm k hk=>?_,fun j r' hj k hk=>?_⟩
  ·rintro k ⟨j,r',hj,hjm,hk⟩
   obtain⟨r,hr,e,-⟩:=old hj
   exact⟨j,r,hr,e hjm,hk⟩
  ·rcases nx j r' hj hjm k hk with h1|⟨j2,r2,iw,hm2,fH⟩
   ·exact .inl h1
   ·obtain⟨r,hr,e,-⟩:=old iw
    exact .inr ⟨j2,r,hr,e hm2,fH⟩
  ·rcases mf j r' hj k hk with h1|⟨j2,r2,iw,fH⟩
   ·exact .inl h1
   ·obtain⟨r,hr,-⟩:=old iw
    exact .inr ⟨j2,r,hr,fH⟩
theorem sc_view {i:Nat}{r0 r1:ay}(hi:bs[i]? = some r0)(hm:r1.cf=r0.cf)(hv:∀ (β:Nat→Bt)(fp:Nat→Nat→Prop)(w:World),Holds β (β i) (fp i) w r0→Holds β (β i) (fp i) w r1)(h:SC V f args (bs.set i r1) R):SC V f args bs R:=sc_weak hi (fun e=>hm ▸ e) hv h
def Dim (b b2:List ay):Prop:=b2.length=b.length∧∀ (i:Nat) (r:ay),b2[i]? = some r→b[i]? = some r∨∃ (c:List SV) (e s n:Nat) (m:Bool),b[i]? = some (ay.own c e s n m)∧r=ay.own c e s n false
theorem Dim.refl (b:List ay):Dim b b:=⟨rfl,fun _ _ h=>.inl h⟩
theorem Dim.one {b:List ay}{i:Nat}{c:List SV}{e s n:Nat}{m:Bool}(hi:b[i]? = some (.own c e s n m)):Dim b (b.set i (.own c e s n false)):=⟨by simp,fun j r hj=>by
 by_cases lM:j=i
 ·subst lM
  rw[zJH (zJu.1 hi).1]at hj
  exact .inr ⟨c,e,s,n,m,hi,(zJF.inj hj).symm⟩
 ·rw[zJA (fun e=>lM e.symm)]at hj
  exact .inl hj⟩
theorem Dim.trans {a b c:List ay}(h:Dim a b)(k:Dim b c):Dim a c:=⟨k.1.trans h.1,fun i r hi=>by
 rcases k.2 i r hi with h1|⟨c,e,s,n,m,h1,rfl⟩
 ·exact h.2 i r h1
 ·rcases h.2 i _ h1 with h2|⟨c',e',s',n',m',h2,h3⟩
  ·exact .inr ⟨c,e,s,n,m,h2,rfl⟩
  ·cases h3
   exact .inr ⟨_,_,_,_,m',h2,rfl⟩⟩
theorem zJ {i TB TU:Nat}(hi:bs[i]? = some (.cells [.v (.pointer none),.aD] TB true))(h:SC V f args (bs.set i (.ext (rE TB TU []))) R):SC V f args bs R:=by
 refine sc_view (r1:=.ext (rE TB TU [])) hi rfl (fun β fp w hh=>?_) h
 obtain⟨h0,⟨rest,fz,hd,rfl⟩,h3⟩:=hh
 refine⟨h0,Value.pointer none,⟨0,0,0⟩,fun _=>False,.inl rfl,⟨fz,?_⟩,holds_nil,not_false,fun k=>(h3 k).trans ⟨.inl,fun h=>h.elim id False.elim⟩⟩
 simpa[ah,oV,oY] using hd
theorem sc_open {i TB TU:Nat}{l:List UInt8}(hi:bs[i]? = some (.ext (rE TB TU l))){R':SV→List ay→Prop}
 (h:∀ x,(x=.v (.pointer none)∨x=.p i 0)→SC V f args (bs.set i (.cells [x,.o bs.length l.length] TB true)++[.own (l.map cU) TU 1 l.length true]) R')
 (hR:∀ r bs',R' r bs'→∃ x j l',flat r=true∧(x=.v (.pointer none)∨x=.p i 0)∧R r (bs.set i (.ext (rE TB TU l')))∧bs'[i]? = some (.cells [x,.o j l'.length] TB true)∧bs'[j]? = some (.own (l'.map cU) TU 1 l'.length true) ∧
   bs.length≤j∧∀ k,k<bs.length→k≠i→bs'[k]? = bs[k]?)
 (gx:within.aN bs.length args=true):SC V f args bs R:=by
 have dR:i<bs.length:=(zJu.1 hi).1
 refine⟨(h _ (.inl rfl)).1,fun β fp w fU hG hE=>?_⟩
 have eU:=fU β (bp.refl _ _)
 obtain⟨h0,p,t2,f2,hp,⟨fz,hd⟩,gE,xh,qH⟩:=eU.holds i _ hi
 obtain⟨x,hx,hxc⟩:∃ x:SV,(x=.v (.pointer none)∨x=.p i 0)∧∀ β',bp bs.length β β'→ah β' x=p:=by
  rcases hp with rfl|rfl
  ·exact⟨_,.inl rfl,fun _ _=>rfl⟩
  ·exact⟨_,.inr rfl,fun β' hβ=>by simp only[ah];rw[← hβ i dR,h0]⟩
 let β₁:=nT β bs.length t2
 let fp₁:Nat→Nat→Prop:=fun j k=>if j=i then k=(β i).cB else if j=bs.length then f2 k else fp j k
 have agr1:∀ {β'},bp (bs.length+1) β₁ β'→bp bs.length β β':=fun {β'} hβ j hj=>by
  rw[← hβ j (by omega)];simp only[β₁,nT];rw[if_neg (by omega)]
 have at1:∀ {β'},bp (bs.length+1) β₁ β'→β' bs.length=t2:=fun {β'} hβ=>by
  rw[← hβ bs.length (by omega)];simp[β₁,nT]
 have old:∀ {j r'},(bs.set i (.cells [x,.o bs.length l.length] TB true)++[.own (l.map cU) TU 1 l.length true])[j]? = some r' →
  (j=i∧r'=.cells [x,.o bs.length l.length] TB true)∨(j=bs.length∧r'=.own (l.map cU) TU 1 l.length true)∨(j<bs.length∧j≠i∧bs[j]? = some r'):=fun {j r'} hj=>by
  have mA:j<bs.length+1:=by
   have:=(zJu.1 hj).1
   simpa using this
  by_cases hjm:j=bs.length
  ·subst hjm
   rw[zJE (by simp)]at hj
   simp at hj
   exact .inr (.inl ⟨rfl,hj.symm⟩)
  ·rw[zJz (by simp;omega)]at hj
   by_cases lM:j=i
   ·subst lM
    rw[zJH dR]at hj
    exact .inl ⟨rfl,(zJF.inj hj).symm⟩
   ·rw[zJA (fun e=>lM e.symm)]at hj
    exact .inr (.inr ⟨by omega,lM,hj⟩)
 have in1:∀ {j r'},(bs.set i (.cells [x,.o bs.length l.length] TB true)++[.own (l.map cU) TU 1 l.length true])[j]? = some r'→r'.cf=true→∀ k,fp₁ j k→∃ j2 r2,bs[j2]? = some r2∧r2.cf=true∧fp j2 k:=fun {j r'} hj hm k hk=>by
  rcases old hj with⟨rfl,rfl⟩|⟨rfl,rfl⟩|⟨sb,iw,F8⟩
  ·refine⟨j,_,hi,rfl,(qH k).2 (.inl ?_)⟩
   simpa[fp₁] using hk
  ·refine⟨i,_,hi,rfl,(qH k).2 (.inr ?_)⟩
   simpa[fp₁,zJW dR] using hk
  ·exact⟨j,r',F8,hm,by simpa[fp₁,iw,zJT sb] using hk⟩
 have inF:∀ {j r'},(bs.set i (.cells [x,.o bs.length l.length] TB true)++[.own (l.map cU) TU 1 l.length true])[j]? = some r'→∀ k,fp₁ j k→∃ j2 r2,bs[j2]? = some r2∧fp j2 k:=fun {j r'} hj k hk=>by
  rcases old hj with⟨rfl,rfl⟩|⟨rfl,rfl⟩|⟨sb,iw,F8⟩
  ·refine⟨j,_,hi,(qH k).2 (.inl ?_)⟩
   simpa[fp₁] using hk
  ·refine⟨i,_,hi,(qH k).2 (.inr ?_)⟩
   simpa[fp₁,zJW dR] using hk
  ·exact⟨j,r',F8,by simpa[fp₁,iw,zJT sb] using hk⟩
 have ea:aI β args=aI β₁ args:=aw bs.length args gx β β₁ (fun j hj=>by simp only[β₁,nT];rw[if_neg (by omega)])
 rw[ea]
 refine((h x hx).2 β₁ fp₁ w (fun β' hβ=>?_) (fun j r hj hm k hk=>?_) hE).mono ?_
 ·have hβq:bp (bs.length+1) β₁ β':=by simpa using hβ
  clear hβ
  have hb:=fU β' (agr1 hβq)
  have pz:β' i=β i:=(agr1 hβq i dR).symm
  refine⟨fun j r' hj=>?_,fun j r' hj k hk=>?_,fun j q a b hj hq bk jc k hk fH=>?_⟩
  ·rcases old hj with⟨rfl,rfl⟩|⟨rfl,rfl⟩|⟨sb,iw,F8⟩
   ·refine⟨by rw[pz];exact h0,⟨[],fz,?_,rfl⟩,fun k=>by simp[fp₁,pz]⟩
    rw[pz]
    simpa[hxc β' (agr1 hβq),ah,at1 hβq] using hd
   ·rw[at1 hβq]
    have e:fp₁ bs.length=f2:=by funext k;simp[fp₁,zJW dR]
    rw[e]
    exact A3 gE
   ·have e:fp₁ j=fp j:=by funext k;simp[fp₁,iw,zJT sb]
    rw[e]
    exact hb.holds j _ F8
  ·rcases old hj with⟨rfl,rfl⟩|⟨rfl,rfl⟩|⟨sb,iw,F8⟩
   ·exact hb.lt j _ hi k ((qH k).2 (.inl (by simpa[fp₁] using hk)))
   ·exact hb.lt i _ hi k ((qH k).2 (.inr (by simpa[fp₁,zJW dR] using hk)))
   ·exact hb.lt j _ F8 k (by simpa[fp₁,iw,zJT sb] using hk)
  ·rcases old hj with⟨rfl,rfl⟩|⟨rfl,rfl⟩|⟨sb,iw,F8⟩ <;> rcases old hq with⟨rfl,rfl⟩|⟨rfl,rfl⟩|⟨da,qi,kJ⟩
   ·exact bk rfl
   ·have e1:k=(β j).cB:=by simpa[fp₁] using hk
    have e2:f2 k:=by simpa[fp₁,zJW dR] using fH
    exact xh (e1 ▸ e2)
   ·have e1:k=(β j).cB:=by simpa[fp₁] using hk
    have e2:fp q k:=by simpa[fp₁,qi,zJT da] using fH
    exact hb.sep j q _ _ hi kJ bk (.inl rfl) k ((qH k).2 (.inl e1)) e2
   ·have e2:k=(β q).cB:=by simpa[fp₁] using fH
    have e1:f2 k:=by simpa[fp₁,zJW dR] using hk
    exact xh (e2 ▸ e1)
   ·exact bk rfl
   ·have e1:f2 k:=by simpa[fp₁,zJW dR] using hk
    have e2:fp q k:=by simpa[fp₁,qi,zJT da] using fH
    exact hb.sep i q _ _ hi kJ (fun e=>qi e.symm) (.inl rfl) k ((qH k).2 (.inr e1)) e2
   ·have e1:k=(β q).cB:=by simpa[fp₁] using fH
    have e2:fp j k:=by simpa[fp₁,iw,zJT sb] using hk
    exact hb.sep q j _ _ hi F8 (fun e=>bk e.symm) (.inl rfl) k ((qH k).2 (.inl e1)) e2
   ·have e1:f2 k:=by simpa[fp₁,zJW dR] using fH
    have e2:fp j k:=by simpa[fp₁,iw,zJT sb] using hk
    exact hb.sep i j _ _ hi F8 (fun e=>iw e.symm) (.inl rfl) k ((qH k).2 (.inr e1)) e2
   ·exact hb.sep j q _ _ F8 kJ bk jc k (by simpa[fp₁,iw,zJT sb] using hk) (by simpa[fp₁,qi,zJT da] using fH)
 ·obtain⟨j2,r2,h1,h2,h3⟩:=in1 hj hm k hk
  exact hG j2 r2 h1 h2 k h3
 ·rintro e w' ⟨r,bs',β₂,fp₂,hR',Bf,hlen,aT,jx,nx,mf⟩
  have Bf:bp (bs.length+1) β₁ β₂:=by simpa using Bf
  have hlen:bs.length+1≤bs'.length:=by simpa using hlen
  obtain⟨x',j,l',mg,hx',hRr,pz,Ga,hjm,hoth⟩:=hR r bs' hR'
  have mA:j<bs'.length:=(zJu.1 Ga).1
  have hag2:bp bs.length β β₂:=agr1 Bf
  let fp₃:Nat→Nat→Prop:=fun q k=>if q=i then fp₂ i k∨fp₂ j k else fp₂ q k
  have lift:∀ {β'},bp bs.length β₂ β'→∃ β'',bp bs'.length β₂ β''∧bp bs.length β'' β':=fun {β'} hβ =>
   ⟨β₂,bp.refl _ _,hβ⟩
  have old2:∀ {q r'},(bs.set i (.ext (rE TB TU l')))[q]? = some r'→(q=i∧r'=.ext (rE TB TU l'))∨(q<bs.length∧q≠i∧bs[q]? = some r'∧bs'[q]? = some r'):=fun {q r'} hq=>by
   by_cases F0:q=i
   ·subst F0
    rw[zJH dR]at hq
    exact .inl ⟨rfl,(zJF.inj hq).symm⟩
   ·rw[zJA (fun e=>F0 e.symm)]at hq
    have oD:q<bs.length:=(zJu.1 hq).1
    exact .inr ⟨oD,F0,hq,(hoth q oD F0).trans hq⟩
  refine⟨r,bs.set i (.ext (rE TB TU l')),β₂,fp₃,hRr,hag2,by simp,fun β' hβ=>?_,jx.mono ?_,fun q r' hq hqm k hk=>?_,fun q r' hq k hk=>?_⟩
  ·rw[zJS]at hβ
   -- the things of the caller are read at any β' that agrees on them
   let β'':Nat→Bt:=fun q=>if q<bs.length then β' q else β₂ q
   have hβ2:bp bs'.length β₂ β'':=fun q hq=>by
    show _=if _ then _ else _
    split
    ·rename_i aA;exact hβ q aA
    ·rfl
   obtain⟨he,hb⟩:=aT β'' hβ2
   refine⟨by rw[he,fD r mg β'' β'],?_⟩
   have hbi':β'' i=β₂ i:=(hβ2 i (by omega)).symm
   have Ia:β' i=β₂ i:=(hβ i dR).symm
   refine⟨fun q r' hq=>?_,fun q r' hq k hk=>?_,fun q s a b hq hs bk jc k hk fH=>?_⟩
   ·rcases old2 hq with⟨rfl,rfl⟩|⟨h1,h2,h3,h4⟩
    ·obtain⟨k0,⟨rest,fz',hd',rfl⟩,k3⟩:=hb.holds _ _ pz
     have hrow':=hb.holds _ _ Ga
     refine⟨by rw[Ia,← hbi'];exact k0,ah β'' x',β'' j,fp₂ j,?_,⟨fz',?_⟩,A3 hrow',?_,fun k=>?_⟩
     ·rcases hx' with rfl|rfl
      ·exact .inl rfl
      ·right
       simp only[ah]
       rw[k0,hbi',Ia]
     ·rw[Ia,← hbi']
      simpa[ah] using hd'
     ·intro hc
      have:fp₂ q (β'' q).cB:=(k3 _).2 rfl
      rw[Ia,← hbi']at hc
      exact hb.sep q j _ _ pz Ga (by omega) (.inl rfl) _ this hc
     ·show (if _ then _ else _)↔_
      rw[if_pos rfl,k3 k,hbi',Ia]
    ·have e:fp₃ q=fp₂ q:=by funext k;show (if _ then _ else _)=_;rw[if_neg h2]
     rw[e]
     have e2:β' q=β'' q:=by show _=if _ then _ else _;rw[if_pos h1]
     have:=hb.holds _ _ h4
     rw[e2]
     -- what it holds of cells looks at β'' alone through the things of the caller
     have hA:bp bs.length β β':=fun q hq=>(hag2 q hq).trans (hβ q hq)
     have hA2:bp bs.length β β'':=fun q hq=>(hag2 q hq).trans (hβ2 q (by omega))
     have u1:=(fU β'' hA2).holds q _ h3
     have u2:=(fU β' hA).holds q _ h3
     rw[e2]at u2
     exact xW u1 u2 this
   ·rcases old2 hq with⟨rfl,rfl⟩|⟨h1,h2,h3,h4⟩
    ·have hk:fp₂ q k∨fp₂ j k:=by simpa[fp₃] using hk
     rcases hk with hk|hk
     ·exact hb.lt _ _ pz k hk
     ·exact hb.lt _ _ Ga k hk
    ·exact hb.lt _ _ h4 k (by simpa[fp₃,h2] using hk)
   ·rcases old2 hq with⟨rfl,rfl⟩|⟨h1,h2,h3,h4⟩ <;> rcases old2 hs with⟨rfl,rfl⟩|⟨g1,g2,g3,g4⟩
    ·exact bk rfl
    ·have fH:fp₂ s k:=by simpa[fp₃,g2] using fH
     have hk:fp₂ q k∨fp₂ j k:=by simpa[fp₃] using hk
     rcases hk with hk|hk
     ·exact hb.sep _ _ _ _ pz g4 bk (.inl rfl) k hk fH
     ·exact hb.sep _ _ _ _ Ga g4 (by omega) (.inl rfl) k hk fH
    ·have hk:fp₂ q k:=by simpa[fp₃,h2] using hk
     have fH:fp₂ s k∨fp₂ j k:=by simpa[fp₃] using fH
     rcases fH with fH|fH
     ·exact hb.sep _ _ _ _ pz h4 (fun e=>bk e.symm) (.inl rfl) k fH hk
     ·exact hb.sep _ _ _ _ Ga h4 (by omega) (.inl rfl) k fH hk
    ·exact hb.sep _ _ _ _ h4 g4 bk jc k (by simpa[fp₃,h2] using hk) (by simpa[fp₃,g2] using fH)
  ·rintro k ⟨j1,r1,sb,yF,iN⟩
   exact in1 sb yF k iN
  ·rcases old2 hq with⟨rfl,rfl⟩|⟨h1,h2,h3,h4⟩
   ·have hk:fp₂ q k∨fp₂ j k:=by simpa[fp₃] using hk
    rcases hk with hk|hk
    ·rcases nx _ _ pz rfl k hk with h1|⟨j1,r1,sb,yF,iN⟩
     ·exact .inl h1
     ·exact .inr (in1 sb yF k iN)
    ·rcases nx _ _ Ga rfl k hk with h1|⟨j1,r1,sb,yF,iN⟩
     ·exact .inl h1
     ·exact .inr (in1 sb yF k iN)
   ·rcases nx _ _ h4 hqm k (by simpa[fp₃,h2] using hk) with h1|⟨j1,r1,sb,yF,iN⟩
    ·exact .inl h1
    ·exact .inr (in1 sb yF k iN)
  ·rcases old2 hq with⟨rfl,rfl⟩|⟨h1,h2,h3,h4⟩
   ·have hk:fp₂ q k∨fp₂ j k:=by simpa[fp₃] using hk
    rcases hk with hk|hk
    ·rcases mf _ _ pz k hk with h1|⟨j1,r1,sb,iN⟩
     ·exact .inl h1
     ·exact .inr (inF sb k iN)
    ·rcases mf _ _ Ga k hk with h1|⟨j1,r1,sb,iN⟩
     ·exact .inl h1
     ·exact .inr (inF sb k iN)
   ·rcases mf _ _ h4 k (by simpa[fp₃,h2] using hk) with h1|⟨j1,r1,sb,iN⟩
    ·exact .inl h1
    ·exact .inr (inF sb k iN)
theorem wE {i:Nat}{r0 r1:ay}{r:SV}(hi:bs[i]? = some r0)(hm:r0.cf=true)(iZ:Enters V f)(hr:flat r=true)
 (h:∀ (β:Nat→Bt) (fp:Nat→Nat→Prop) (w:World),V.E w→(∀ β',bp bs.length β β'→Holds β' (β' i) (fp i) w r0)→Calls V.P f (aI β args).toArray w fun e w'=>e=.returned (ah jR r)∧mD (fp i) w w'∧∃ f1:Nat→Prop,(∀ k,f1 k→fp i k)∧∀ β',bp bs.length β β'→Holds β' (β' i) f1 w' r1) :
 SC V f args bs (fun r' bs'=>r'=r∧bs'=bs.set i r1):=by
 have dR:i<bs.length:=(zJu.1 hi).1
 refine⟨iZ,fun β fp w fU hG hE=>?_⟩
 refine(h β fp w hE (fun β' hβ=>(fU β' hβ).holds i _ hi)).mono ?_
 rintro e w' ⟨rfl,jx,f1,y7,hh⟩
 have old:∀ {j r'},(bs.set i r1)[j]? = some r'→(j=i∧r'=r1)∨(j≠i∧bs[j]? = some r'):=fun {j r'} hj=>by
  by_cases lM:j=i
  ·subst lM
   rw[zJH dR]at hj
   exact .inl ⟨rfl,(zJF.inj hj).symm⟩
  ·rw[zJA (fun e=>lM e.symm)]at hj
   exact .inr ⟨lM,hj⟩
 let fp₂:Nat→Nat→Prop:=fun j k=>if j=i then f1 k else fp j k
 refine⟨r,bs.set i r1,β,fp₂,⟨rfl,rfl⟩,bp.refl _ _,by simp,fun β' hβ=>⟨by rw[fD r hr jR β'],?_⟩,jx.mono (fun k hk=>⟨i,_,hi,hm,hk⟩),fun j r' hj hjm k hk=>?_,fun j r' hj k hk=>?_⟩
 ·rw[zJS]at hβ
  have hb:=fU β' hβ
  refine⟨fun j r' hj=>?_,fun j r' hj k hk=>?_,fun j l a b hj hl bk jc k hk fH=>?_⟩
  ·rcases old hj with⟨rfl,rfl⟩|⟨h1,h2⟩
   ·have e:fp₂ j=f1:=by funext k;simp[fp₂]
    rw[e];exact hh β' hβ
   ·have e:fp₂ j=fp j:=by funext k;simp[fp₂,h1]
    rw[e]
    exact(hb.holds j _ h2).stays (fun k hk=>jx.block k (hb.lt j _ h2 k hk) (fun iV=>hb.sep i j _ _ hi h2 (fun e=>h1 e.symm) (.inl hm) k iV hk))
  ·rcases old hj with⟨rfl,rfl⟩|⟨h1,h2⟩
   ·exact zJJ (hb.lt _ _ hi k (y7 k (by simpa[fp₂] using hk))) jx.size
   ·exact zJJ (hb.lt j _ h2 k (by simpa[fp₂,h1] using hk)) jx.size
  ·rcases old hj with⟨rfl,rfl⟩|⟨h1,h2⟩ <;> rcases old hl with⟨rfl,rfl⟩|⟨g1,g2⟩
   ·exact bk rfl
   ·exact hb.sep _ _ _ _ hi g2 bk (.inl hm) k (y7 k (by simpa[fp₂] using hk)) (by simpa[fp₂,g1] using fH)
   ·exact hb.sep _ _ _ _ hi h2 (fun e=>bk e.symm) (.inl hm) k (y7 k (by simpa[fp₂] using fH)) (by simpa[fp₂,h1] using hk)
   ·exact hb.sep _ _ _ _ h2 g2 bk jc k (by simpa[fp₂,h1] using hk) (by simpa[fp₂,g1] using fH)
 ·rcases old hj with⟨rfl,rfl⟩|⟨h1,h2⟩
  ·exact .inr ⟨_,_,hi,hm,y7 k (by simpa[fp₂] using hk)⟩
  ·exact .inr ⟨j,r',h2,hjm,by simpa[fp₂,h1] using hk⟩
 ·rcases old hj with⟨rfl,rfl⟩|⟨h1,h2⟩
  ·exact .inr ⟨_,_,hi,y7 k (by simpa[fp₂] using hk)⟩
  ·exact .inr ⟨j,r',h2,by simpa[fp₂,h1] using hk⟩
theorem SC.mono {R R':SV→List ay→Prop}(h:SC V f args bs R)(k:∀ r bs',R r bs'→R' r bs'):SC V f args bs R':=by
 refine⟨h.1,fun β fp w fU hG hE=>(h.2 β fp w fU hG hE).mono ?_⟩
 rintro e w' ⟨r,bs',β₂,fp₂,hR,h2⟩
 exact⟨r,bs',β₂,fp₂,k _ _ hR,h2⟩
theorem aX (b:List ay)(X:ay):(b++[X])[b.length]? = some X:=by simp
theorem af {b:List ay}{j:Nat}{r:ay}(h:b[j]? = some r)(X:List ay):(b++X)[j]? = some r:=by
 rw[zJz ((zJu.1 h).1)];exact h
def Sl (e s L:Nat)(x:SV)(b:List ay)(c:List SV)(n:Nat):Prop:=(x=.aD∧c=[]∧n=0)∨∃ j,x=.o j n∧L≤j∧b[j]? = some (.own c e s n true)
def Kp (bs b:List ay):Prop:=bs.length≤b.length∧∀ k,k<bs.length→b[k]? = bs[k]?
theorem Kp.refl (bs:List ay):Kp bs bs:=⟨zJG _,fun _ _=>rfl⟩
theorem Kp.trans {a b c:List ay}(h:Kp a b)(k:Kp b c):Kp a c:=⟨zJ3 h.1 k.1,fun i hi=>(k.2 i (zJJ hi h.1)).trans (h.2 i hi)⟩
theorem Kp.app {bs b:List ay}(h:Kp bs b)(X:List ay):Kp bs (b++X):=⟨by rw[zJC];have:=h.1;omega,fun k hk=>by rw[zJz (by have:=h.1;omega)];exact h.2 k hk⟩
theorem Kp.set {bs b:List ay}(h:Kp bs b){j:Nat}(hj:bs.length≤j)(X:ay):Kp bs (b.set j X):=⟨by rw[zJS];exact h.1,fun k hk=>by rw[zJA (by omega)];exact h.2 k hk⟩
theorem Kp.at {bs b:List ay}(h:Kp bs b){j:Nat}{r:ay}(hj:bs[j]? = some r):b[j]? = some r:=(h.2 j ((zJu.1 hj).1)).trans hj
theorem Sl.app {e s L:Nat}{x:SV}{b:List ay}{c:List SV}{n:Nat}(h:Sl e s L x b c n)(X:List ay):Sl e s L x (b++X) c n:=by
 rcases h with h|⟨j,h1,h2,h3⟩
 ·exact .inl h
 ·exact .inr ⟨j,h1,h2,af h3 X⟩
theorem dH {α:Type}(b:List α)(X Y:α):(b++[X]).set b.length Y=b++[Y]:=by simp
theorem pF {α:Type}(b:List α)(X Y Z:α):(b++[X]++[Y]).set b.length Z=b++[Z]++[Y]:=by simp
theorem set_prev2 {α:Type}(b:List α)(X Y Z W:α):(b++[X]++[Y]++[W]).set b.length Z=b++[Z]++[Y]++[W]:=by simp
theorem qC {α:Type}(b:List α)(X Y:α):(b++[X]++[Y])[b.length]? = some X:=by simp
theorem qB {α:Type}(b:List α)(X Y Z:α):(b++[X]++[Y]++[Z])[b.length]? = some X:=by simp
theorem at_prev3 {α:Type}(b:List α)(X Y Z W:α):(b++[X]++[Y]++[Z]++[W])[b.length]? = some X:=by simp
theorem at_prev4 {α:Type}(b:List α)(X Y Z W U:α):(b++[X]++[Y]++[Z]++[W]++[U])[b.length]? = some X:=by simp
def ui:=zJt (zJt (@aX) (zJt (@qC) (@qB))) (zJt (zJt (@at_prev3) (@at_prev4)) (zJt (@dH) (zJt (@pF) (@set_prev2))))
end Vc
namespace Go.Proofs.YteipdaijbncgeaaGreatDoor
open Go Vc Go.RowKit Wf
open Go.ChangeShapes Go.WideShapes Go.ChangeAt
open Go.WideMaps Go.WideElems
theorem G3 {w:World}{b off:Nat}{xs ys:List Value}(h1:nQ w b off xs)(h2:nQ w b (off+xs.length) ys):nQ w b off (xs++ys):=fun j v hv=>by
 rcases zJV j xs.length with h|h
 ·rw[zJz h]at hv
  exact h1 j v hv
 ·rw[zJE h]at hv
  have:=h2 (j - xs.length) v hv
  rwa [show off+xs.length+(j - xs.length)=off+j by omega]at this
theorem wY {ρ:Type}{w:World}{b s:Nat}(vs:ρ→List Value):∀ (L:List ρ)(off:Nat),(∀ r∈L,(vs r).length=s)→(∀ (i:Nat) (r:ρ),L[i]? = some r→nQ w b (off+i * s) (vs r))→nQ w b off (L.flatMap vs)
 | [],_,_,_=>fun j v hv=>by simp at hv
 | r::L,off,hs,h=>by
   rw[List.flatMap_cons]
   refine G3 (by simpa using h 0 r rfl) (wY vs L _ (fun q hq=>hs q (zJY _ hq)) (fun i q hq=>?_))
   have:=h (i+1) q hq
   rw[hs r zJP]
   rwa [show off+s+i * s=off+(i+1) * s by rw[Nat.add_mul];omega]
theorem xr {ρ:Type}{s:Nat}(vs:ρ→List SV):∀ (L:List ρ),(∀ r∈L,(vs r).length=s)→(L.flatMap vs).length=L.length * s
 | [],_=>by simp
 | r::L,hs=>by
   rw[List.flatMap_cons,zJC,hs r zJP,xr vs L (fun q hq=>hs q (zJY _ hq)),List.length_cons,Nat.add_mul]
   omega
section
variable {H:Type} {enc:TypeId × Value→H} {P:Program} {w:World} {held:Bool}
theorem rb {ρ:Type}(dflt:ρ)(cl:ρ→List SV)(dt:ρ→DataW H)(Q:ρ→Prop)(mg:∀ r,flat.ai (cl r)=true){t e:TypeId}{s:Nat}(ht:P.underlying t=some (.slice e))(hs:P.cellsOf e=s)
 (gE:∀ fuel cs x,DataW.trod enc P w 0 (fun _=>true) held fuel e cs=some x→∃ r,cs=aI jR (cl r)∧x.1=dt r∧Q r)
 {rch:Reach} {b0:Nat} {v:Value} {n:Nat} {x:DataW H × List MemPlace} (bU:Cell.okWide P w rch b0 t v) (h:DataW.trod enc P w 0 (fun _=>true) held n t [v]=some x) :
 ∃ (b:Bt) (L:List ρ),v=oV b L.length∧L.length≤9223372036854775807∧((x.1=.nil∧L=[])∨∃ sp',x.1=.slice (L.map dt) sp')∧(∀ β,Holds β b (fun k=>k=b.cB∧b.cap≠0) w (.own (L.flatMap cl) e s L.length false))∧(b.cap≠0→b.cB<w.heap.size)∧∀ r∈L,Q r:=by
 obtain⟨a0,len0,cap0,rfl⟩:∃ a len cap,v=.slice a len cap:=by
  simp only[Cell.okWide,ht]at bU
  cases v <;> simp_all [Cell.ok]
 have hf:=h
 rcases Go.Deep.open_slice ht hf with⟨hv,hx⟩|⟨a,len,cap,m,n,D,Pl,hv,hb,hl,hm,jc,hx,mh⟩
 ·simp only[List.cons.injEq,Value.slice.injEq,and_true]at hv
  obtain⟨rfl,rfl,rfl⟩:=hv
  exact⟨⟨0,0,0⟩,[],by simp[oV,oY],by simp,.inl ⟨by rw[hx],rfl⟩,fun β=>.inl ⟨rfl,rfl,rfl,by simp,fun e=>by cases e⟩,fun k=>absurd rfl k,fun _ hr=>absurd hr (by simp)⟩
 ·simp only[List.cons.injEq,Value.slice.injEq,and_true]at hv
  obtain⟨rfl,rfl,rfl⟩:=hv
  have HU:w.has P rch b0 a e cap0:=by
   simp only[Cell.okWide,ht,Cell.ok]at bU
   exact bU.2.2
  obtain⟨-,hspot,row,cells,CN,-⟩:=HU
  obtain⟨cB,off,spot⟩:=a
  simp only at hspot CN
  subst hspot
  have hblk:cB<w.heap.size:=by
   rcases zJV cB w.heap.size with h' | h'
   ·exact h'
   ·unfold World.shape? at CN
    simp[zJ1 h']at CN
  have hmc:m=cap0:=by rw[jc];simp
  subst hmc
  haveI:Inhabited ρ:=⟨dflt⟩
  obtain⟨R,hR⟩:=Go.Deep.choose_lt (α:=ρ) (n:=len0) (p:=fun i r=>(∀ q v,(aI jR (cl r))[q]? = some v→w.cell? ⟨cB,off+i * s+q,none⟩=some v)∧(cl r).length=s∧D i=dt r∧Q r) (fun i hi=>by
   obtain⟨cs',h1,h2⟩:=mh i (by omega)
   obtain⟨r,rfl,hd,hQ⟩:=gE n cs' _ h2
   rw[hs]at h1
   obtain⟨-,h3,h4⟩:=World.cells?_some h1
   rw[bO,List.length_map]at h3
   refine⟨r,fun q v hv=>?_,h3,hd,hQ⟩
   have hq:q<s:=by
    have:=(zJu.1 hv).1
    rwa [bO,List.length_map,h3]at this
   have:=h4 q hq
   rw[dh,dh]at this
   rw[this];exact hv)
  have hlen:((zJB len0).map R).length=len0:=by simp
  have aT:∀ r∈(zJB len0).map R,(cl r).length=s:=by
   intro r hr
   obtain⟨i,hi,rfl⟩:=List.mem_map.1 hr
   exact(hR i (zJK.1 hi)).2.1
  have hmx:m≤9223372036854775807:=by unfold maxLen at hm;simpa using hm
  have hlies:∀ β,nQ w cB off ((((zJB len0).map R).flatMap cl).map (ah β)):=fun β=>by
   have e1:(((zJB len0).map R).flatMap cl).map (ah β)=((zJB len0).map R).flatMap fun r=>aI β (cl r):=by
    rw[List.map_flatMap]
    congr 1
    funext r
    rw[bO]
   rw[e1]
   refine wY (s:=s) _ _ _ (fun r hr=>by rw[bO,List.length_map];exact aT r hr) (fun i r hr q v hv=>?_)
   have hi:i<len0:=by
    have:=(zJu.1 hr).1
    simpa using this
   have HI:R i=r:=by simpa[hi] using hr
   subst HI
   rw[di _ (mg _) β jR]at hv
   have:=(hR i hi).1 q v hv
   simpa[Nat.add_assoc] using this
  refine⟨⟨cB,off,m+1⟩,(zJB len0).map R,by simp[oV],by rw[hlen];omega,.inr ⟨(zJB (m - len0)).map fun j=>D (len0+j),?_⟩,fun β=>.inr ⟨by simp,by simpa using hl,by simpa using hm,xr cl _ aT,hlies β,(fun hm=>absurd hm (by simp)),fun k=>by simp⟩,fun _=>hblk,fun r hr=>by
   obtain⟨i,hi,rfl⟩:=List.mem_map.1 hr
   exact(hR i (zJK.1 hi)).2.2.2⟩
  have hD:(zJB len0).map D=((zJB len0).map R).map dt:=by
   rw[List.map_map]
   exact List.map_congr_left fun i hi=>(hR i (zJK.1 hi)).2.2.1
  rw[hx,hD]
end
theorem yp {P:Program}{w:World}{r:Reach}{b:Nat}{t e:TypeId}{v:Value}(ht:P.underlying t=some (.slice e))(h:Value.okWide P w r b t v):Cell.okWide P w r b t v:=by
 simpa only[Value.okWide,ht] using h
theorem SC.law {V:Cx}{f:FuncId}{args:List SV}{l:List (Bt × ay)}(h:SC V f args (l.map (·.2)) (fun r _=>r=.bool true)){w:World}(hE:V.E w)
 (hh:∀ x∈l,x.2.cf=false∧(∀ β,Holds β x.1 (fun k=>k=x.1.cB∧x.1.cap≠0) w x.2)∧(x.1.cap≠0→x.1.cB<w.heap.size)) :
 Calls V.P f (aI (fun i=>((l[i]?).map (·.1)).getD (jR 0)) args).toArray w fun e w'=>e=.returned (.bool true)∧Below w.heap.size w w':=by
 have fA:∀ (i:Nat) (r:ay),(l.map (·.2))[i]? = some r→r.cf=false:=fun i r hi=>by
  rw[List.getElem?_map,zJU]at hi
  obtain⟨x,hx,rfl⟩:=hi
  exact(hh x (List.mem_of_getElem? hx)).1
 obtain⟨β,hβ0⟩:∃ β:Nat→Bt,β=fun i=>((l[i]?).map (·.1)).getD (jR 0):=⟨_,rfl⟩
 rw[← hβ0]
 obtain⟨fp,qH⟩:∃ fp:Nat→Nat→Prop,∀ i k,fp i k↔∃ x,l[i]? = some x∧k=x.1.cB∧x.1.cap≠0:=⟨fun i k=>∃ x,l[i]? = some x∧k=x.1.cB∧x.1.cap≠0,fun _ _=>Iff.rfl⟩
 have fU:∀ β',bp (l.map (·.2)).length β β'→vt β' fp w (l.map (·.2)):=fun β' hβ=>by
  refine vt.mk ?_ ?_ ?_
  ·intro i r hi
   rw[List.getElem?_map,zJU]at hi
   obtain⟨x,hx,rfl⟩:=hi
   have hb:β' i=x.1:=by
    have:=hβ i (by simpa using(zJu.1 hx).1)
    rw[← this,hβ0];simp[hx]
   rw[hb]
   have h2:=(hh x (List.mem_of_getElem? hx)).2.1 β'
   have e:fp i=fun k=>k=x.1.cB∧x.1.cap≠0:=by
    funext k
    exact propext ⟨fun h=>by obtain⟨y,hy,h1⟩:=(qH i k).1 h;rw[hx]at hy;cases hy;exact h1,fun h=>(qH i k).2 ⟨x,hx,h⟩⟩
   rw[e];exact h2
  ·intro i r hi k hk
   obtain⟨x,hx,rfl,hc⟩:=(qH i k).1 hk
   exact(hh x (List.mem_of_getElem? hx)).2.2 hc
  ·intro i j r r' hi hj _ hm
   rw[fA i r hi,fA j r' hj]at hm
   simp at hm
 refine(h.2 β fp w fU ?_ hE).mono ?_
 ·intro i r hi hm
  rw[fA i r hi]at hm
  cases hm
 ·rintro e w' ⟨r,bs',β₂,fp₂,rfl,Bf,hle,aT,jx,-⟩
  refine⟨by have:=(aT β₂ (bp.refl _ _)).1;simpa[ah] using this,?_⟩
  refine(jx.mono (own':=fun _=>False) ?_).below
  rintro k ⟨i,r,hi,hm,-⟩
  rw[fA i r hi]at hm
  cases hm
end Go.Proofs.YteipdaijbncgeaaGreatDoor
