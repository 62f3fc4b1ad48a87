/- Texts of this claim, laid together: Perm, Vc7, Frame, Laid, ProgF, Open, VcB, SlRows. -/
import Derived.Still
import Derived.Laws.RangeString
import Derived.Test.YteipdaijbncgeaaGreatDoorRows
import Derived.WalkKit
import Derived.ProofKit
import Derived.OpenShut
import Derived.Shelf.Vars
import Derived.ShutString
import Derived.WideKeyArgs
import Derived.ChangeSame
import Derived.Deep.DeepHandedRow
import Derived.Deep.DeepLaidRun
import Derived.Lib.LaidTab
import Derived.Lib.SmallJoins
import Derived.SizedLaws
import Derived.Test.YteipdaijbncgeaaGreatDoorCards
import Derived.Test.YteipdaijbncgeaaGreatDoorTie
import Derived.Deep.Slices
import Derived.Test.YteipdaijbncgeaaGreatDoorU2
open And renaming intro → zKN
open List renaming getElem?_eq_some_iff → zKO, all_eq_true → zKS, getElem?_append_left → zKT, cons → zKU, getElem?_set_ne → zKV, range → zKW, length_append → zKX, getD_eq_getElem?_getD → zKY, getElem?_append_right → zKZ, getElem?_set_self → zK2, length_singleton → zK3, mem_range → zK5, toArray → zK8, any_eq_true → zK9, mem_cons_self → zLa, getElem?_eq_getElem → zLc, length_set → zLd, contains_iff_mem → zLi, mem_cons_of_mem → zLj, mem_cons → zLk, append_nil → zLm, mem_append → zLn, mem_append_left → zLs, mem_map_of_mem → zLt
open Bool renaming and_eq_true → zKP, or_eq_true → zKQ
open Array renaming getElem?_eq_some_iff → zKR, mem_toList_iff → zK6, getElem?_eq_getElem → zLb, replicate → zLl, getElem?_eq_none → zLo, getD_eq_getD_getElem? → zLq, mem_append → zLr
open Option renaming some → zK0, map_some → zK7, map_eq_some_iff → zLf, map_none → zLu
open Nat renaming le_refl → zK1, lt_of_lt_of_le → zK4, ne_of_lt → zLe, lt_or_ge → zLg, ne_of_gt → zLh, le_trans → zLp
set_option linter.all false
set_option maxHeartbeats 16000000
set_option maxRecDepth 20000
namespace Vc
open Go
def oK:List Oper→Nat→List Oper
 | [],_=>[]
 | o::_,0=>[o]
 | _::r,k+1=>oK r k
def iy:List Nat→Nat→Nat
 | [],_=>0
 | x::r,j=>if x=j then 0 else iy r j+1
def permE (p:List Nat)(e:Edge):Edge:=⟨iy p e.on,e.ground⟩
def EV (p:List Nat):Option (Nat × Bool)→Option (Nat × Bool)
 | none=>none
 | some (g,b)=>some (iy p g,b)
def oT (p:List Nat):Oper→Oper
 | ⟨dst,op,ty,pos,after,guard⟩=>⟨dst,op,ty,pos,after.map (permE p),EV p guard⟩
def nz (ops:List Oper)(q:List Nat):List Nat→List Oper
 | []=>[]
 | x::r=>(oK ops x).map (oT q)++nz ops q r
def nA (ops:Array Oper):List Nat→Array Oper
 | []=>ops
 | x::r=>(nz ops.toList (x::r) (x::r)).toArray
def Io (ops:Array Oper)(p:List Nat):Bool:=p.length==ops.size&&p.all (fun i=>decide (i<ops.size))&&(zKW ops.size).all (fun k=>p.contains k&&(decide (p.getD k 0<ops.size)&&iy p (p.getD k 0)==k))
def EW (ops:Array Oper):List Nat→Prop
 | []=>True
 | x::r=>Io ops (x::r)=true
theorem tM (l:List Oper)(k:Nat):oK l k=l[k]?.toList:=by
 induction l generalizing k with
 | nil=>simp[oK]
 | cons o r ih=>cases k with
   | zero=>simp[oK]
   | succ k=>simp[oK,ih]
theorem rK (ops:List Oper)(q:List Nat):∀ (p:List Nat),(∀ i∈p,i<ops.length)→(nz ops q p).length=p.length∧∀ k:Nat,(nz ops q p)[k]? = (p[k]?).bind fun i=>(ops[i]?).map (oT q)
 | [],_=>⟨rfl,fun k=>by simp[nz]⟩
 | x::r,h=>by
   obtain⟨h1,h2⟩:=rK ops q r (fun i hi=>h i (zLj _ hi))
   have hx:x<ops.length:=h x (zLa ..)
   have e:oK ops x=[ops[x]]:=by rw[tM,zLc hx];rfl
   refine⟨by simp[nz,e,h1],fun k=>?_⟩
   cases k with
   | zero=>simp[nz,e,zLc hx]
   | succ k=>simp[nz,e,h2]
theorem jA:∀ (p:List Nat)(j:Nat),(j∈p→p[iy p j]? = some j)∧(j ∉ p→iy p j=p.length)
 | [],j=>by simp[iy]
 | x::r,j=>by
   obtain⟨h1,h2⟩:=jA r j
   by_cases h:x=j
   ·simp[iy,h]
   ·have h':¬ j=x:=fun e=>h e.symm
    simp only[iy,if_neg h,zLk,h',false_or,List.getElem?_cons_succ,List.length_cons]
    exact⟨h1,fun hn=>by rw[h2 hn]⟩
theorem xI (p:List Nat)(o:Oper):(oT p o).dst=o.dst:=by cases o;rfl
theorem Im {P:Program}{p:List Nat}{o:Oper}{a:Act}{w:World}{K:Act→World→Prop}{Q:Exit→Act→World→Prop}(h:(oT p o).wp P a w K Q):o.wp P a w K Q:=by cases o;exact h
theorem DD {P:Program}{p:List Nat}{o:Oper}{a:Act}{w:World}(h:(oT p o).asks P a w):o.asks P a w:=by cases o;exact h
structure OrdP (p:List Nat) (n:Nat):Prop where
 len:p.length=n
 lt:∀ i∈p,i<n
 mem:∀ {i:Nat},i<n→i∈p
 onto:∀ k,k<n→∃ i,i<n∧iy p i=k
section
variable {ops:Array Oper} {p:List Nat} (hp:OrdP p ops.size)
def qx (ops:Array Oper)(p:List Nat):Array Oper:=(nz ops.toList p p).toArray
include hp
theorem rM:(qx ops p).size=ops.size:=by
 have:=(rK ops.toList p p (fun i hi=>by simpa using hp.lt i hi)).1
 simp[qx,this,hp.len]
theorem uG {i:Nat}(hi:i<ops.size):(qx ops p)[iy p i]? = (ops[i]?).map (oT p):=by
 have h2:=(rK ops.toList p p (fun i hi=>by simpa using hp.lt i hi)).2 (iy p i)
 have h3:=(jA p i).1 (hp.mem hi)
 simp only[qx,List.getElem?_toArray,h2,h3,Option.bind_some]
 simp
theorem D4 {i:Nat}(hi:i<ops.size):iy p i<ops.size:=by
 have h3:=(jA p i).1 (hp.mem hi)
 have:=(zKO.1 h3).1
 rw[hp.len]at this
 exact this
theorem IL {i:Nat}(hi:¬ i<ops.size):iy p i=ops.size:=by
 rw[(jA p i).2 (fun h=>hi (hp.lt i h)),hp.len]
theorem inv_inj {i k:Nat}(hi:i<ops.size)(hk:k<ops.size)(h:iy p i=iy p k):i=k:=by
 have h1:=(jA p i).1 (hp.mem hi)
 have h2:=(jA p k).1 (hp.mem hk)
 rw[h,h2]at h1
 exact((zK0.injEq _ _).mp h1).symm
theorem Hu (tmps:Array Value)(g:Nat):yielded (qx ops p) tmps (iy p g)=yielded ops tmps g:=by
 unfold yielded
 have:((qx ops p)[iy p g]?).bind (·.dst)=(ops[g]?).bind (·.dst):=by
  by_cases h:g<ops.size
  ·rw[uG hp h]
   rw[zLb h]
   simp[xI]
  ·rw[IL hp h,zLo (by rw[rM hp];exact zK1 _),zLo (by omega)]
 rw[this]
theorem wanted' (tmps:Array Value)(o:Oper):Region.wanted (oT p o) (yielded (qx ops p) tmps)=Region.wanted o (yielded ops tmps):=by
 obtain⟨dst,op,ty,pos,after,guard⟩:=o
 cases guard with
 | none=>rfl
 | some g =>
   obtain⟨g,b⟩:=g
   simp only[oT,EV,Region.wanted,Hu hp]
def CU (ops:Array Oper)(p:List Nat)(L L':Array Bool):Prop:=L.size=ops.size∧L'.size=ops.size∧∀ i,i<ops.size→L'.getD (iy p i) false=L.getD i false
omit hp in
theorem Fv {L:Array Bool}{i:Nat}(h:i<L.size):L.getD i true=L.getD i false:=by simp[Array.getD,h]
theorem DC {md:Region.Mode}{L L':Array Bool}(hs:CU ops p L L'){i:Nat}(hi:i<ops.size):iy p i∈Region.ready md (qx ops p) L'↔i∈Region.ready md ops L:=by
 obtain⟨s1,s2,s3⟩:=hs
 rw[mem_ready,mem_ready,Fv (by rw[s2];exact D4 hp hi),Fv (by rw[s1];exact hi),s3 i hi,uG hp hi]
 have ho:ops[i]? = some ops[i]:=zLb hi
 rw[ho]
 have B9:∀ n:Nat,L'.getD (iy p n) false=L.getD n false:=fun n=>by
  by_cases hn:n<ops.size
  ·exact s3 n hn
  ·rw[IL hp hn]
   simp[Array.getD,s1,s2,hn]
 refine and_congr_right fun _=>?_
 generalize ops[i]=o
 obtain⟨dst,op,ty,pos,after,guard⟩:=o
 simp only[zK7,zK0.injEq,exists_eq_left',oT,Array.mem_map,forall_exists_index,and_imp,forall_apply_eq_imp_iff₂]
 refine forall_congr' fun e=>forall_congr' fun he=>?_
 simp only[permE,B9]
 rfl
theorem set' {L L':Array Bool}(hs:CU ops p L L'){i:Nat}(hi:i<ops.size):CU ops p (L.setIfInBounds i true) (L'.setIfInBounds (iy p i) true):=by
 obtain⟨s1,s2,s3⟩:=hs
 refine⟨by simpa using s1,by simpa using s2,fun k hk=>?_⟩
 by_cases h:i=k
 ·subst h
  have:=D4 hp hk
  simp[Array.getD,s1,s2,hk,this]
 ·have h':iy p i≠iy p k:=fun e=>h (inv_inj hp hi hk e)
  rw[getD_set_ne false h,getD_set_ne false h']
  exact s3 k hk
theorem none' {md:Region.Mode}{L L':Array Bool}(hs:CU ops p L L'):Region.ready md ops L=[]→Region.ready md (qx ops p) L'=[]:=fun h=>by
 cases h':Region.ready md (qx ops p) L' with
 | nil=>rfl
 | cons k r =>
   have hk:k∈Region.ready md (qx ops p) L':=by rw[h'];exact zLa ..
   have aB:k<ops.size:=by
    obtain⟨o,ho,_⟩:=(mem_ready.1 hk).2
    have:=(zKR.1 ho).1
    rwa [rM hp]at this
   obtain⟨i,hi,e⟩:=hp.onto k aB
   rw[← e,DC hp hs hi,h]at hk
   cases hk
theorem Ak {P:Program}{Q:Exit→Act→World→Prop}{md:Region.Mode}:∀ (fuel:Nat)(L L':Array Bool)(a:Act)(w:World),CU ops p L L'→wpAny P md (qx ops p) Q fuel L' a w→wpAny P md ops Q fuel L a w:=by
 intro fuel
 induction fuel with
 | zero =>
   intro L L' a w hs h
   refine⟨?_,h.2⟩
   cases h':Region.ready md ops L with
   | nil=>rfl
   | cons i r =>
     have hi:i∈Region.ready md ops L:=by rw[h'];exact zLa ..
     have aB:i<ops.size:=by
      obtain⟨o,ho,_⟩:=(mem_ready.1 hi).2
      exact(zKR.1 ho).1
     rw[← DC hp hs aB,h.1]at hi
     cases hi
 | succ fuel ih =>
   intro L L' a w hs h
   refine⟨fun h0=>h.1 (none' hp hs h0),fun i hi=>?_⟩
   have aB:i<ops.size:=by
    obtain⟨o,ho,_⟩:=(mem_ready.1 hi).2
    exact(zKR.1 ho).1
   have h1:=h.2 _ ((DC hp hs aB).2 hi)
   have ho:ops[i]? = some ops[i]:=zLb aB
   unfold wpOp at h1 ⊢
   rw[uG hp aB,ho]at h1
   rw[ho]
   simp only[zK7,wanted' hp,xI]at h1 ⊢
   have hK:∀ a w,wpAny P md (qx ops p) Q fuel (L'.setIfInBounds (iy p i) true) a w→wpAny P md ops Q fuel (L.setIfInBounds i true) a w:=fun a w=>ih _ _ a w (set' hp hs aB)
   split
   ·rename_i hw
    rw[if_pos hw]at h1
    exact h1.imp (fun h=>Oper.wp_mono hK (Im h)) (fun h=>⟨DD h.1,h.2⟩)
   ·rename_i hw
    rw[if_neg hw]at h1
    exact hK _ _ h1
end
theorem Db {P:Program}{Q:Exit→Act→World→Prop}{md:Region.Mode}{ops:Array Oper}{a:Act}{w:World}:∀ (p:List Nat),EW ops p→wpAny P md (nA ops p) Q (nA ops p).size (zLl (nA ops p).size false) a w→wpAny P md ops Q ops.size (zLl ops.size false) a w
 | [],_,h=>h
 | x::r,hb,h=>by
   simp only[EW,Io,zKP,beq_iff_eq,decide_eq_true_eq,zKS]at hb
   obtain⟨⟨h1,h2⟩,h3⟩:=hb
   have hp:OrdP (x::r) ops.size:=⟨h1,h2,fun {i} hi=>zLi.1 (h3 i (zK5.2 hi)).1,fun k hk=>⟨_,(h3 k (zK5.2 hk)).2⟩⟩
   have hs:=rM hp
   have e:nA ops (x::r)=qx ops (x::r):=rfl
   rw[e,hs]at h
   refine Ak hp _ _ _ _ _ ⟨by simp,by simp,fun i hi=>?_⟩ h
   have:=D4 hp hi
   simp[Array.getD,hi,this]
open Go Go.RowKit Wf
inductive fD where
 | go (c:Prop) (σ:St)
 | call (f:FuncId) (args:List SV) (dst:Option Tmp) (σ:St)
 | bad
def goR (dst:Option Tmp)(σ:St):Option (Prop × SV)→fD→fD
 | some (c,x),_=>.go c ⟨put dst x σ.t,σ.b⟩
 | none,m=>m
def XC (V:Cx)(dst:Option Tmp)(T:TypeId)(σ:St):fD:=match V.Γ T with
 | some ti=>.go True ⟨put dst (.p σ.b.length 0) σ.t,σ.b++[.cells ti.zero T true]⟩
 | none=>.bad
def sBox (dst:Option Tmp)(T:TypeId)(x:Operand)(σ:St):fD:=match ev σ.t x with
 | some x=>.go (IK x=false) ⟨put dst (.p σ.b.length 0) σ.t,σ.b++[.cells (cells x) T true]⟩
 | none=>.bad
def XU (V:Cx)(dst:Option Tmp)(T:TypeId)(x:Operand)(σ:St):fD:=match ev σ.t x with
 | some (.p i off)=>match iC σ.b i with
   | some (c,_,_)=>match V.Γ T with
     | some ti=>match XM ti.agg off ti.size c with
       | some x=>.go (off+ti.size≤c.length) ⟨put dst x σ.t,σ.b⟩
       | none=>.bad
     | none=>.bad
   | none=>.bad
 | _=>.bad
def XH (V:Cx)(dst:Option Tmp)(T:TypeId)(x y:Operand)(σ:St):fD:=match ev σ.t x with
 | some (.p i off)=>match ev σ.t y with
   | some y=>match iC σ.b i with
     | some (c,_,m)=>match sz V.Γ T with
       | some s=>.go (m=true∧(cells y).all one=true∧(cells y).length=s∧off+s≤c.length) ⟨put dst (.v undef) σ.t,tg σ.b i (Xs c off (cells y))⟩
       | none=>.bad
     | none=>.bad
   | none=>.bad
 | _=>.bad
def Xr (V:Cx)(dst:Option Tmp)(T:TypeId)(ps:List (Nat × Operand))(σ:St):fD:=match V.Γ T with
 | some ti=>match ti.kind with
   | .struct fs=>match Xl σ.t ps with
     | some ps=>match XZ fs V.Γ ps ti.zero with
       | some c=>.go True ⟨put dst (.agg c) σ.t,σ.b⟩
       | none=>.bad
     | none=>.bad
   | _=>.bad
 | none=>.bad
def Xt:Fn→Bool
 | .func _=>true
 | _=>false
def sNil (dst:Option Tmp)(x:Operand)(σ:St):fD:=match ev σ.t x with
 | some (.p i off)=>.go True ⟨put dst (.p i off) σ.t,σ.b⟩
 | some (.fn f l)=>.go (Xt f=true) ⟨put dst (.fn f l) σ.t,σ.b⟩
 | some (.mv f l)=>.go True ⟨put dst (.mv f l) σ.t,σ.b⟩
 | _=>.bad
def XL (dst:Option Tmp)(f:Operand)(args:List Operand)(σ:St):fD:=match ev σ.t f with
 | some (.fn (.func f) caps)=>match yu σ.t args with
   | some l=>.call f (l++caps) dst σ
   | none=>.bad
 | some (.mv f first)=>match yu σ.t args with
   | some l=>.call f (first++l) dst σ
   | none=>.bad
 | _=>.bad
def yS (V:Cx)(dst:Option Tmp)(rc:Operand)(name:String)(args:List Operand)(σ:St):fD:=match ev σ.t rc with
 | some (.E7 T x)=>match V.M T name with
   | some f=>match yu σ.t args with
     | some l=>.call f (x::l) dst σ
     | none=>.bad
   | none=>.bad
 | _=>.bad
def IJ (l:List UInt8)(p:Nat):Rsc where
 holds t fp w:=t.off=0∧w.heap[t.cE]? = some (.stringIter ⟨zK8 l⟩ p)∧∀ k,fp k↔k=t.cE
 stays b fp w w':=by
  rintro⟨h0,h1,h2⟩ hk
  exact⟨h0,(hk _ ((h2 _).2 rfl)).trans h1,h2⟩
 it:=some (l,p)
 itOk l' p' b fp w h k:=by cases h;exact k
theorem II (l:List UInt8)(p:Nat):(IJ l p).it=some (l,p):=rfl
def itOf:Option ax→Option (List UInt8 × Nat)
 | some (.ext R)=>R.it
 | _=>none
def Iw (dst:Option Tmp)(σ:St)(i:Nat)(l:List UInt8)(p:Nat):Bool→fD
 | true=>.go ((l.getD p 0).toNat<128) ⟨put dst (.eS [.bool true,.int .i64 p,.int .i32 (l.getD p 0).toNat]) σ.t,σ.b.set i (.ext (IJ l (p+1)))⟩
 | false=>.go True ⟨put dst (.eS [.bool false]) σ.t,σ.b⟩
def Dy (V:Cx)(dst:Option Tmp)(T:TypeId)(x:Operand)(σ:St):fD:=match kd V.Γ T with
 | some .str=>match ev σ.t x with
   | some (.str l)=>.go True ⟨put dst (.p σ.b.length 0) σ.t,σ.b++[.ext (IJ l 0)]⟩
   | _=>.bad
 | _=>.bad
def H5 (dst:Option Tmp)(x:Operand)(σ:St):fD:=match ev σ.t x with
 | some (.p i 0)=>match itOf σ.b[i]? with
   | some (l,p)=>Iw dst σ i l p (decide (p<l.length))
   | none=>.bad
 | _=>.bad
def DZ:Op→Bool
 | .range _ _=>true
 | .next _ _=>true
 | _=>false
def Yd (V:Cx)(dst:Option Tmp):Op→St→fD
 | .alloc T,σ=>XC V dst T σ
 | .box T x,σ=>sBox dst T x σ
 | .load T x,σ=>XU V dst T x σ
 | .store T x y,σ=>XH V dst T x y σ
 | .build T ps,σ=>Xr V dst T ps.toList σ
 | .nilCheck x,σ=>sNil dst x σ
 | .call ⟨.value f,args,_⟩,σ=>XL dst f args.toList σ
 | .call ⟨.invoke rc name,args,_⟩,σ=>yS V dst rc name args.toList σ
 | .range T x,σ=>Dy V dst T x σ
 | .next x true,σ=>H5 dst x σ
 | _,_=>.bad
def yG (V:Cx)(dst:Option Tmp)(op:Op)(σ:St):fD:=goR dst σ (pv V.Γ σ.t op) (Yd V dst op σ)
def G9:Option (Prop × St)→fD→fD
 | some (c,σ),_=>.go c σ
 | none,m=>m
def XR (V:Cx)(dst:Option Tmp)(op:Op)(σ:St):fD:=goR dst σ (pv V.Γ σ.t op) (G9 (Yl V dst op σ) (Yd V dst op σ))
def hN (V:Cx)(K:St→Prop):fD→Prop
 | .go c σ=>c∧K σ
 | .call f args dst σ=>(∃ r,PC V f args r∧K ⟨put dst r σ.t,σ.b⟩)∨(∃ R,SC V f args σ.b R∧∀ r bs,R r bs→K ⟨put dst r σ.t,bs⟩)
 | .bad=>False
theorem so {V:Cx}{n:Nat}{dst:Option Tmp}{op:Op}{σ:St}{K:St→Prop}(hf:fits n dst=true)(h:hN V K (yG V dst op σ))(hI:DZ op=false∨∃ p,pv V.Γ σ.t op=some p):vcO V n dst op σ K:=by
 refine⟨hf,?_⟩
 unfold yG at h
 split
 ·rename_i c x hp
  rw[hp]at h
  exact h
 ·rename_i hp
  rw[hp]at h
  simp only[goR]at h
  replace hI:DZ op=false:=hI.resolve_right (by rintro⟨p,hp2⟩;rw[hp]at hp2;cases hp2)
  cases op <;> simp only[Yd]at h <;> simp only[vcM]
  case range=>simp[DZ]at hI
  case next=>simp[DZ]at hI
  case alloc T=>unfold XC at h;(repeat' split at h) <;> simp_all [hN]
  case box T x=>unfold sBox at h;(repeat' split at h) <;> simp_all [hN]
  case load T x=>unfold XU at h;(repeat' split at h) <;> simp_all [hN]
  case store T x y=>unfold XH at h;(repeat' split at h) <;> simp_all [hN]
  case build T ps=>unfold Xr at h;(repeat' split at h) <;> simp_all [hN]
  case nilCheck x =>
   unfold sNil at h
   split at h
   ·rename_i e;rw[e];exact h.2
   ·rename_i f l e
    rw[e]
    refine⟨?_,h.2⟩
    have:=h.1
    cases f <;> simp[Xt]at this ⊢
   ·rename_i f l e;rw[e];exact h.2
   ·cases h
  case call c =>
   clear hI
   obtain⟨callee,args,ts⟩:=c
   cases callee <;> simp only at h ⊢
   case value f=>unfold XL at h;(repeat' split at h) <;> simp_all [hN]
   case invoke rc name=>unfold yS at h;(repeat' split at h) <;> simp_all [hN]
   all_goals exact h
  all_goals exact h
theorem Wd.turn {V:Cx}{F:Fx V}{β:Nat→Bt}{fp:Nat→Nat→Prop}{bs:List ax}{w w':World}(h:Wd F β fp bs w){i:Nat}{R R':Rsc}(hi:bs[i]? = some (.ext R))(jB:mW (fp i) w w')(jZ:w'.heap.size=w.heap.size)(hR:∀ β',bw bs.length β β'→R'.holds (β' i) (fp i) w'):Wd F β fp (bs.set i (.ext R')) w':=by
 have eh:=(zKO.1 hi).1
 have old:∀ {j:Nat} {r:ax},(bs.set i (.ext R'))[j]? = some r→(j≠i∧bs[j]? = some r)∨(j=i∧r=.ext R'):=fun {j r} hj=>by
  by_cases e:j=i
  ·subst e
   rw[zK2 eh]at hj
   exact .inr ⟨rfl,by simpa using hj.symm⟩
  ·rw[zKV (fun q=>e q.symm)]at hj
   exact .inl ⟨e,hj⟩
 have oldr:∀ {j:Nat} {r:ax},(bs.set i (.ext R'))[j]? = some r→∃ r0,bs[j]? = some r0∧r0.cr=r.cr:=fun {j r} hj=>by
  rcases old hj with⟨-,hj⟩|⟨rfl,rfl⟩
  ·exact⟨r,hj,rfl⟩
  ·exact⟨_,hi,rfl⟩
 have eV:=h.bx β (bw.refl _ _)
 refine⟨⟨jB.os.trans h.fr.os,jB.tape.trans h.fr.tape,jB.output.trans h.fr.output,zLp h.fr.size jB.size,fun k hk hn=>?_⟩,fun β' hβ=>?_,fun j r hj hm k hk=>?_,⟨h.tO.Ai,by rw[zLd];exact h.tO.len⟩,fun j r hj k hk=>?_⟩
 ·rw[jB.block k (zK4 hk h.fr.size) (fun hk'=>?_)]
  ·exact h.fr.block k hk hn
  ·rcases h.cr i _ hi rfl k hk' with h1|h1
   ·omega
   ·exact hn h1
 ·rw[zLd]at hβ
  have hb:=h.bx β' hβ
  refine⟨fun j r hj=>?_,fun j r hj k hk=>?_,fun j q r r' hj hq bn hm k hk hk'=>?_⟩
  ·rcases old hj with⟨e,hj⟩|⟨rfl,rfl⟩
   ·exact(hb.holds j r hj).stays (fun k hk=>jB.block k (hb.lt j r hj k hk) (fun hk'=>hb.sep j i r _ hj hi e (.inr rfl) k hk hk'))
   ·exact hR β' hβ
  ·obtain⟨r0,h1,-⟩:=oldr hj
   rw[jZ];exact hb.lt j r0 h1 k hk
  ·obtain⟨r0,h1,e1⟩:=oldr hj
   obtain⟨r1,h2,e2⟩:=oldr hq
   exact hb.sep j q r0 r1 h1 h2 bn (by rw[e1,e2];exact hm) k hk hk'
 ·obtain⟨r0,h1,e1⟩:=oldr hj
  exact h.cr j r0 h1 (by rw[e1];exact hm) k hk
 ·obtain⟨r0,h1,-⟩:=oldr hj
  exact h.mi j r0 h1 k hk
theorem run_next_at {P:Program}{w:World}{k:Nat}{l:List UInt8}{p:Nat}(hw:w.heap[k]? = some (.stringIter ⟨zK8 l⟩ p))(ty:TypeId)(h:p<l.length)(ha:(l.getD p 0).toNat<128) :
 (Instr.next (.pointer (some ⟨k,0,none⟩)) true ty).run P w=.ok (.tuple #[.bool true,.int .i64 p,.int .i32 (l.getD p 0).toNat]) { w with heap:=w.heap.setIfInBounds k (.stringIter ⟨zK8 l⟩ (p+1)) }:=by
 have hs:(⟨zK8 l⟩:ByteArray).size=l.length:=by simp[ByteArray.size]
 have hb:(⟨zK8 l⟩:ByteArray)[p]'(by rw[hs];exact h)=l.getD p 0:=by
  rw[zKY,zLc h];rfl
 have hd:=decode_ascii (⟨zK8 l⟩:ByteArray) p (by rw[hs];exact h) (by rw[hb];exact ha)
 rw[hb]at hd
 simp only[Instr.next,getObj,setObj,Sem.run_bind,Sem.run,hw,Result.andThen,hs,h,if_true,hd]
 simp[goInt,Sem.run,hw]
theorem wF {P:Program}{w:World}{k:Nat}{l:List UInt8}{p:Nat}(hw:w.heap[k]? = some (.stringIter ⟨zK8 l⟩ p))(ty:TypeId)(h:¬ p<l.length) :
 (Instr.next (.pointer (some ⟨k,0,none⟩)) true ty).run P w=.ok (.tuple #[.bool false]) w:=by
 have hs:(⟨zK8 l⟩:ByteArray).size=l.length:=by simp[ByteArray.size]
 simp[Instr.next,getObj,Sem.run,hw,hs,h]
theorem Az {V:Cx}{F:Fx V}{dst:Option Tmp}{op:Op}{σ:St}{K:St→Prop}(bX:fits F.n dst=true)(hI:DZ op=true)(h:hN V K (Yd V dst op σ)){a:Act}{w:World}(hr:Rel F σ a w)(ty:TypeId)(pos:String)(after:Array Edge)(guard:Option (Nat × Bool))(Q:Exit→Act→World→Prop) :
 (⟨dst,op,ty,pos,after,guard⟩:Oper).wp V.P a w (fun a w=>∃ σ,K σ∧Rel F σ a w) Q:=by
 obtain⟨β,fp,hf,hw⟩:=hr
 cases op <;> simp only[DZ,Bool.false_eq_true]at hI
 case range T x =>
  simp only[Yd,Dy]at h
  split at h
  rotate_left
  ·cases h
  rename_i hk
  split at h
  rotate_left
  ·cases h
  rename_i l hx
  have hK:=h.2
  have hund:V.P.underlying T=some .string:=by
   unfold kd at hk
   cases hT:V.Γ T with
   | none=>rw[hT]at hk;cases hk
   | some ti =>
     rw[hT]at hk
     obtain⟨d,h1,h2⟩:=(V.gH T ti hT).und
     simp only[zK7,zK0.injEq]at hk
     rw[hk]at h2
     rw[h1,h2]
  have he:=(hf.ok β (bw.refl _ _)).ev hx
  have bL:(execOp a.eval ⟨dst,.range T x,ty,pos,after,guard⟩).run V.P w=Result.ok (.value (.pointer (some ⟨w.heap.size,0,none⟩))) (w.iter ⟨zK8 l⟩ 0):=by
   refine bJ ?_
   rw[he]
   exact run_range_string w T _ hund
  refine wp_of_value bL ⟨_,hK,mY β σ.b.length ⟨w.heap.size,0,0⟩,oJ fp σ.b.length (·=w.heap.size),?_,hw.more ((Below.refl _ _).alloc (zK1 _) _) _ ⟨w.heap.size,0,0⟩ _ (fun β' hβ=>⟨rfl,World.iter_heap w _ 0,fun k=>Iff.rfl⟩) (fun k hk=>?_)⟩
  ·exact(hf.more (by simp) (ez _ _ _)).put bX (fun β' hβ=>by simp only[ah];rw[← hβ σ.b.length (by simp),gh])
  ·subst hk
   exact⟨zK1 _,by rw[size_alloc];omega⟩
 case next x b =>
  cases b
  ·simp only[Yd,hN]at h
  ·simp only[Yd,H5]at h
   split at h
   rotate_left
   ·cases h
   rename_i i hx
   split at h
   rotate_left
   ·cases h
   rename_i l p hit
   obtain⟨R,hR,hRi⟩:∃ R:Rsc,σ.b[i]? = some (.ext R)∧R.it=some (l,p):=by
    unfold itOf at hit
    split at hit
    ·rename_i R hR;exact⟨R,hR,hit⟩
    ·cases hit
   have he:=(hf.ok β (bw.refl _ _)).ev hx
   have hh:∀ β',bw σ.b.length β β'→(β' i).off=0∧w.heap[(β' i).cE]? = some (.stringIter ⟨zK8 l⟩ p)∧∀ k,fp i k↔k=(β' i).cE:=fun β' hβ=>R.itOk l p _ _ _ hRi ((hw.bx β' hβ).holds i _ hR)
   obtain⟨h0,h1,h2⟩:=hh β (bw.refl _ _)
   have hev:a.eval x=.pointer (some ⟨(β i).cE,0,none⟩):=by rw[he];simp[ah,h0]
   by_cases hp:p<l.length
   ·have hd:decide (p<l.length)=true:=decide_eq_true hp
    rw[hd]at h
    obtain⟨ha,hK⟩:=h
    have bL:(execOp a.eval ⟨dst,.next x true,ty,pos,after,guard⟩).run V.P w=Result.ok (.value (.tuple #[.bool true,.int .i64 p,.int .i32 (l.getD p 0).toNat])) { w with heap:=w.heap.setIfInBounds (β i).cE (.stringIter ⟨zK8 l⟩ (p+1)) }:=by
     refine bJ ?_
     rw[hev]
     exact run_next_at h1 ty hp ha
    have aB:(β i).cE<w.heap.size:=(zKR.1 h1).1
    refine wp_of_value bL ⟨_,hK,β,fp,?_,hw.turn hR ⟨rfl,rfl,rfl,by simp,fun k hk hn=>?_⟩ (by simp) (fun β' hβ=>?_)⟩
    ·rw[zLd];exact hf.put bX (fun β' hβ=>by simp[ah,aG])
    ·exact Array.getElem?_setIfInBounds_ne (fun e=>hn ((h2 k).2 e.symm))
    ·obtain⟨q0,q1,q2⟩:=hh β' hβ
     have e:(β' i).cE=(β i).cE:=((h2 _).1 ((q2 _).2 rfl))
     exact⟨q0,by rw[e];simp[aB],q2⟩
   ·have hd:decide (p<l.length)=false:=decide_eq_false hp
    rw[hd]at h
    have hK:=h.2
    have bL:(execOp a.eval ⟨dst,.next x true,ty,pos,after,guard⟩).run V.P w=Result.ok (.value (.tuple #[.bool false])) w:=by
     refine bJ ?_
     rw[hev]
     exact wF h1 ty hp
    exact wp_of_value bL ⟨_,hK,β,fp,hf.put bX (fun β' hβ=>by simp[ah,aG]),hw⟩
theorem nk {V:Cx}{F:Fx V}{dst:Option Tmp}{op:Op}{σ:St}{K:St→Prop}(bX:fits F.n dst=true)(h:hN V K (XR V dst op σ)){a:Act}{w:World}(hr:Rel F σ a w)(ty:TypeId)(pos:String)(after:Array Edge)(guard:Option (Nat × Bool))(Q:Exit→Act→World→Prop) :
 (⟨dst,op,ty,pos,after,guard⟩:Oper).wp V.P a w (fun a w=>∃ σ,K σ∧Rel F σ a w) Q:=by
 unfold XR at h
 cases hp:pv V.Γ σ.t op with
 | some p =>
   rw[hp]at h
   exact xk (so bX (by unfold yG;rw[hp];exact h) (.inr ⟨p,hp⟩)) hr _ rfl rfl Q
 | none =>
   rw[hp]at h
   simp only[goR]at h
   cases hn:Yl V dst op σ with
   | some p =>
     rw[hn]at h
     exact Ax bX hn h.1 h.2 hr ty pos after guard Q
   | none =>
     rw[hn]at h
     cases hI:DZ op with
     | false=>exact xk (so bX (by unfold yG;rw[hp];exact h) (.inl hI)) hr _ rfl rfl Q
     | true=>exact Az bX hI h hr ty pos after guard Q
structure jU where
 x:SV
 nb:Option (List ax)
 all:Bool
 rd:List (Nat × Nat × Nat)
 wr:List (Nat × Nat × Nat)
structure Rk where
 s:Bool
 all:Bool
 rd:List (Nat × Nat × Nat)
 wr:List (Nat × Nat × Nat)
inductive iY where
 | val (c:Prop) (r:jU)
 | call (f:FuncId) (args:List SV)
 | bad
def pq (c:Prop)(x:SV):iY:=.val c ⟨x,none,false,[],[]⟩
def GQ:Option (Prop × SV)→iY→iY
 | some (c,x),_=>pq c x
 | none,m=>m
def XD (V:Cx)(T:TypeId)(σ:St):iY:=match V.Γ T with
 | some ti=>.val True ⟨.p σ.b.length 0,some (σ.b++[.cells ti.zero T true]),false,[],[(σ.b.length,0,0)]⟩
 | none=>.bad
def JZ (T:TypeId)(x:Operand)(σ:St):iY:=match ev σ.t x with
 | some x=>.val (IK x=false) ⟨.p σ.b.length 0,some (σ.b++[.cells (cells x) T true]),false,[],[(σ.b.length,0,0)]⟩
 | none=>.bad
def XI (V:Cx)(T:TypeId)(x:Operand)(σ:St):iY:=match ev σ.t x with
 | some (.p i off)=>match iC σ.b i with
   | some (c,_,_)=>match V.Γ T with
     | some ti=>match XM ti.agg off ti.size c with
       | some x=>.val (off+ti.size≤c.length∧0<ti.size) ⟨x,none,false,[(i,off,ti.size)],[]⟩
       | none=>.bad
     | none=>.bad
   | none=>.bad
 | _=>.bad
def XF (V:Cx)(T:TypeId)(x y:Operand)(σ:St):iY:=match ev σ.t x with
 | some (.p i off)=>match ev σ.t y with
   | some y=>match iC σ.b i with
     | some (c,_,m)=>match sz V.Γ T with
       | some s=>.val (m=true∧(cells y).all one=true∧(cells y).length=s∧off+s≤c.length∧0<s) ⟨.v undef,some (tg σ.b i (Xs c off (cells y))),false,[],[(i,off,s)]⟩
       | none=>.bad
     | none=>.bad
   | none=>.bad
 | _=>.bad
def XB (V:Cx)(T:TypeId)(ps:List (Nat × Operand))(σ:St):iY:=match V.Γ T with
 | some ti=>match ti.kind with
   | .struct fs=>match Xl σ.t ps with
     | some ps=>match XZ fs V.Γ ps ti.zero with
       | some c=>pq True (.agg c)
       | none=>.bad
     | none=>.bad
   | _=>.bad
 | none=>.bad
def JY (x:Operand)(σ:St):iY:=match ev σ.t x with
 | some (.p i off)=>pq True (.p i off)
 | some (.fn f l)=>pq (Xt f=true) (.fn f l)
 | _=>.bad
def XK (f:Operand)(args:List Operand)(σ:St):iY:=match ev σ.t f with
 | some (.fn (.func f) caps)=>match yu σ.t args with
   | some l=>.call f (l++caps)
   | none=>.bad
 | _=>.bad
def Xv (V:Cx):Op→St→iY
 | .alloc T,σ=>XD V T σ
 | .box T x,σ=>JZ T x σ
 | .load T x,σ=>XI V T x σ
 | .store T x y,σ=>XF V T x y σ
 | .build T ps,σ=>XB V T ps.toList σ
 | .nilCheck x,σ=>JY x σ
 | .call ⟨.value f,args,_⟩,σ=>XK f args.toList σ
 | _,_=>.bad
def idxs:List (Option SV)→List (Nat × Nat × Nat)
 | []=>[]
 | some (.o j _)::r=>(j,0,0)::idxs r
 | some (.f j _)::r=>(j,0,0)::idxs r
 | _::r=>idxs r
def Xz (V:Cx):Op→Bool
 | .call ⟨.builtin .append,_,_⟩=>false
 | .makeSlice _ _ _=>false
 | .buildSlice _ _ _=>false
 | .slice _ _ none (some _) (some _)=>true
 | .slice _ _ _ _ _=>false
 | .convert _ _ _=>false
 | _=>true
def Ac:Op→List Operand
 | .call ⟨_,args,_⟩=>args.toList
 | .buildSlice _ _ ps=>ps.toList.map (·.2)
 | .makeSlice _ a v=>[a,v]
 | .indexAddr _ a v=>[a,v]
 | .slice _ x _ _ _=>[x]
 | .convert _ _ x=>[x]
 | _=>[]
def dN (V:Cx)(op:Op)(σ:St):Option (Prop × St)→iY→iY
 | some (c,σ'),_=>match σ'.t with
   | (_,x)::_=>if Xz V op then .val c ⟨x,none,false,idxs ((Ac op).map (ev σ.t)),[]⟩
       else .val c ⟨x,some σ'.b,false,[],(σ.b.length,0,0)::idxs ((Ac op).map (ev σ.t))⟩
   | []=>.bad
 | none,m=>m
def XV (V:Cx)(op:Op)(σ:St):iY:=GQ (pv V.Γ σ.t op) (dN V op σ (Yl V (some 0) op σ) (Xv V op σ))
def kT (ops:Array Oper):Nat→Nat→Nat→Bool
 | 0,_,_=>false
 | f+1,i,k=>match ops[i]? with
   | some o=>o.after.any fun e=>Region.binds .any e&&(e.on==k||kT ops f e.on k)
   | none=>false
def ovl (a b:Nat × Nat × Nat):Bool:=a.1==b.1&&(b.2.2==0||(decide (a.2.1<b.2.1+b.2.2)&&decide (b.2.1<a.2.1+a.2.2)))
def mB (xs ys:List (Nat × Nat × Nat)):Bool:=xs.any fun a=>ys.any fun b=>ovl a b
def sy (ops:Array Oper)(i k:Nat):Bool:=match (ops[k]?).bind (·.dst) with
 | some d=>(match ops[i]? with
   | some o=>(o.looksAt ops).contains d||o.dst==some d
   | none=>false)
 | none=>false
def wG:Rk:=⟨false,false,[],[]⟩
def eC (ops:Array Oper)(k:Nat):Bool:=match ops[k]? with
 | some ⟨some _,.alloc _,_,_,_,none⟩=>true
 | some ⟨some _,.buildSlice _ _ _,_,_,_,none⟩=>true
 | _=>false
def tW (ops:Array Oper)(i k:Nat):Bool:=if k<i then kT ops ops.size i k else kT ops ops.size k i
def za (ops:Array Oper)(rs:List Rk)(i k:Nat):Bool:=!(eC ops k&&decide (k<i))||(zKW k).all fun j=>!(((rs[j]?).getD wG).s)||kT ops ops.size i j
def uv (ops:Array Oper)(rs:List Rk)(i k:Nat):Bool :=
 if sy ops i k then tW ops i k&&za ops rs i k
 else if ((rs[i]?).getD wG).s&&((rs[k]?).getD wG).s then eC ops (max i k)||tW ops i k
 else if ((rs[k]?).getD wG).s&&!((rs[i]?).getD wG).rd.isEmpty then(tW ops i k&&za ops rs i k)||!(((rs[k]?).getD wG).all||mB ((rs[i]?).getD wG).rd ((rs[k]?).getD wG).wr)
 else true
def zS (ops:Array Oper)(rs:List Rk):Bool :=
 (zKW ops.size).all fun i=>(zKW ops.size).all fun k=>k==i||uv ops rs i k
def J9 (ops:Array Oper):Bool :=
 (zKW ops.size).all fun i=>match ops[i]? with
  | some o=>o.after.all fun e=>!Region.binds .any e||decide (e.on<i)
  | none=>true
def Kg (ops:Array Oper)(rs:List Rk):Prop:=(zS ops rs&&J9 ops)=true
inductive OT where
 | leaf
 | one (i:Nat) (t:OT)
 | pur (i:Nat) (t:OT)
 | alt (a b:OT)
def sm (n:Nat)(L:List Nat):Array Bool:=L.foldr (fun i a=>a.setIfInBounds i true) (zLl n false)
def OT.vt:OT→List Nat
 | .one i _=>[i]
 | .alt a b=>a.vt++b.vt
 | _=>[]
def OT.zq (ops:Array Oper):List Nat→OT→Bool
 | L,.leaf=>(Region.ready .any ops (sm ops.size L)).isEmpty
 | L,.one i t=>decide (L.length<ops.size)&&(Region.ready .any ops (sm ops.size L)==[i])&&zq ops (i::L) t
 | L,.pur i t=>decide (L.length<ops.size)&&Region.noSelect ops&&Region.free .any ops (sm ops.size L) i&&(Region.ready .any ops (sm ops.size L)).contains i&&zq ops (i::L) t
 | L,.alt a b=>decide (L.length<ops.size)&&!(Region.ready .any ops (sm ops.size L)).isEmpty&&((Region.ready .any ops (sm ops.size L)).all fun i=>(OT.alt a b).vt.contains i)&&Hb ops L a&&Hb ops L b
where Hb (ops:Array Oper):List Nat→OT→Bool
 | L,.one i t=>zq ops (i::L) t
 | L,.alt a b=>Hb ops L a&&Hb ops L b
 | _,_=>false
inductive How where
 | ord (p:List Nat)
 | all (t:OT)
inductive Item where
 | fS (ops:Array Oper) (L:List Nat) (t:OT)
 | cut (J:St→Prop)
 | eP (ops:Array Oper) (l:List Oper) (rs:List Rk)
 | code (c:Code)
 | ops (ops:Array Oper) (l:List Oper)
 | lE (id:Nat)
 | kS (I:St→Prop) (μ:St→Nat) (m:Nat)
def XE (id:Nat):List Item→Option (List Item)
 | []=>none
 | .lE id'::k=>if id'=id then some k else XE id k
 | _::k=>XE id k
structure Fin where
 rs:List ResultVar
 K:SV→List ax→Prop
 /-- How each region that draws is reckoned. -/
 Ae:Nat→How
 /-- Has each call one outcome? -/
 uni:Bool
def si (V:Cx)(E:Fin)(σ:St):Option (List SV)→Prop
 | some l=>E.K (rz l) σ.b
 | none=>False
def eX:List Oper→Nat→Option Tmp
 | [],_=>none
 | o::_,0=>o.dst
 | _::r,j+1=>eX r j
def Yk (t:List (Nat × SV)):Option Tmp→Option (Nat × Bool)
 | some d=>match lk d t with
   | some (.bool b)=>some (d,b)
   | _=>none
 | none=>none
def nob:Value→Bool
 | .bool _=>false
 | _=>true
theorem Gm:nob undef=true:=rfl
def Ft (t:List (Nat × SV)):Option Tmp→Bool
 | some d=>match lk d t with
   | some (.v x)=>nob x
   | _=>false
 | none=>false
def shape:ax→ax
 | .cells _ T m=>.cells [] T m
 | .own _ e s n m=>.own [] e s n m
 | r=>r
def om:ax→List SV
 | .cells c _ _=>c
 | .own c _ _ _ _=>c
 | _=>[]
def ob (q:Option Nat)(r:ax):ax × Nat × Option SV:=(shape r,(om r).length,match q with
 | some p=>(om r)[p]?
 | none=>none)
def inR (x:Nat × Nat × Nat)(q:Option Nat):Prop:=q=none∨∃ p,q=some p∧x.2.1≤p∧p<x.2.1+x.2.2
def HJ (x:Nat × Nat × Nat)(j:Nat)(q:Option Nat):Prop:=x.1=j∧(x.2.2=0∨∃ p,q=some p∧x.2.1≤p∧p<x.2.1+x.2.2)
def seen (x:Nat × Nat × Nat)(bi bs:List ax):Prop:=∀ q,inR x q→(bs[x.1]?).map (ob q)=(bi[x.1]?).map (ob q)
def CV (W:List (Nat × Nat × Nat))(b b0:List ax):Prop:=∀ j q,(∀ y∈W,¬ HJ y j q)→(b[j]?).map (ob q)=(b0[j]?).map (ob q)
theorem qw {W:List (Nat × Nat × Nat)}{b b0:List ax}(h:∀ j,(∀ y∈W,y.1≠j)→b[j]? = b0[j]?)(hW:∀ y∈W,y.2.2=0):CV W b b0:=fun j q hq=>by
 rw[h j fun y hy e=>hq y hy ⟨e,.inl (hW y hy)⟩]
def XQ (b:Bool)(X Y:Prop):Prop:=(b=true→X)∧(b=false→Y)
theorem Xn (X Y:Prop):XQ true X Y=X:=by simp[XQ]
theorem Xo (X Y:Prop):XQ false X Y=Y:=by simp[XQ]
def XG (b want:Bool)(X Y:Prop):Prop:=(b=want→X)∧(b=!want→Y)
theorem Xg (X Y:Prop):XG true true X Y=X:=by simp[XG]
theorem Xd (X Y:Prop):XG false false X Y=X:=by simp[XG]
theorem Xe (X Y:Prop):XG true false X Y=Y:=by simp[XG]
theorem Xf (X Y:Prop):XG false true X Y=Y:=by simp[XG]
mutual
def bu (V:Cx)(n:Nat)(E:Fin):Nat→List Item→St→Prop
 | 0,_,_=>False
 | _+1,[],σ=>si V E σ (XT V σ E.rs)
 | f+1,.code .skip::k,σ=>bu V n E f k σ
 | f+1,.code (.region _ ops false)::k,σ=>bu V n E f (.ops ops ops.toList::k) σ
 | f+1,.code (.region id ops true)::k,σ=>yV V n E f ops k σ (E.Ae id)
 | f+1,.code (.seq x y)::k,σ=>bu V n E f (.code x::.code y::k) σ
 | f+1,.code (.cond c x y)::k,σ=>XN V n E f x y k σ (ev σ.t c)
 | f+1,.code (.block id x)::k,σ=>bu V n E f (.code x::.lE id::k) σ
 | f+1,.code (.loop x)::k,σ=>uQ V n E f x k σ
 | f+1,.code (.exit id)::k,σ=>XO V n E f σ (XE id k)
 | _+1,.code .ret::_,σ=>si V E σ (XT V σ E.rs)
 | _+1,.code _::_,_=>False
 | f+1,.lE _::k,σ=>bu V n E f k σ
 | _+1,.kS I μ m::_,σ=>I σ∧μ σ<m
 | f+1,.ops _ []::k,σ=>bu V n E f k σ
 | f+1,.ops ops (⟨dst,op,_,_,_,none⟩::r)::k,σ=>fits n dst=true∧Yc V n E f ops r k (XR V dst op σ)
 | f+1,.ops ops (⟨dst,op,_,_,_,some (j,want)⟩::r)::k,σ=>fits n dst=true∧XA V n E f ops dst op want r k σ (Yk σ.t (eX ops.toList j)) (Ft σ.t (eX ops.toList j))
 | _+1,.cut J::_,σ=>J σ
 | f+1,.fS _ _ .leaf::k,σ=>bu V n E f k σ
 | f+1,.fS ops L (.one i t)::k,σ=>bu V n E f (.ops ops (oK ops.toList i)::.fS ops (i::L) t::k) σ
 | f+1,.fS ops L (.pur i t)::k,σ=>ET V n E f ops L i t k σ (oK ops.toList i)
 | f+1,.fS ops L (.alt a b)::k,σ=>bu V n E f (.fS ops L a::k) σ∧bu V n E f (.fS ops L b::k) σ
 | f+1,.eP ops [] rs::k,σ=>Kg ops rs∧bu V n E f k σ
 | f+1,.eP ops (⟨dst,op,_,_,_,none⟩::r) rs::k,σ=>fits n dst=true∧Yg V n E f ops r rs k dst σ (XV V op σ)
 | f+1,.eP ops (⟨dst,op,_,_,_,some (j,want)⟩::r) rs::k,σ=>fits n dst=true∧Xy V n E f ops dst op want r rs k σ (Yk σ.t (eX ops.toList j)) (Ft σ.t (eX ops.toList j))
def yV (V:Cx)(n:Nat)(E:Fin):Nat→Array Oper→List Item→St→How→Prop
 | f,ops,k,σ,.ord p=>EW ops p∧bu V n E f (.eP (nA ops p) (nA ops p).toList []::k) σ
 | f,ops,k,σ,.all t=>E.uni=false∧OT.zq ops [] t=true∧∃ J:St→Prop,bu V n E f (.fS ops [] t::.cut J::k) σ∧∀ σ',J σ'→bu V n E f k σ'
def ET (V:Cx)(n:Nat)(E:Fin):Nat→Array Oper→List Nat→Nat→OT→List Item→St→List Oper→Prop
 | f,ops,L,i,t,k,σ,[⟨dst,op,_,_,_,none⟩]=>fits n dst=true∧ES V n E f ops L i t k σ dst (pv V.Γ σ.t op)
 | _,_,_,_,_,_,_,_=>False
def ES (V:Cx)(n:Nat)(E:Fin):Nat→Array Oper→List Nat→Nat→OT→List Item→St→Option Tmp→Option (Prop × SV)→Prop
 | f,ops,L,i,t,k,σ,dst,some (c,x)=>c∧bu V n E f (.fS ops (i::L) t::k) ⟨put dst x σ.t,σ.b⟩
 | _,_,_,_,_,_,_,_,none=>False
def Yg (V:Cx)(n:Nat)(E:Fin):Nat→Array Oper→List Oper→List Rk→List Item→Option Tmp→St→iY→Prop
 | f,ops,r,rs,k,dst,σ,.val c ⟨x,none,all,rd,wr⟩=>c∧bu V n E f (.eP ops r (rs++[⟨false,all,rd,wr⟩])::k) ⟨put dst x σ.t,σ.b⟩
 | f,ops,r,rs,k,dst,σ,.val c ⟨x,some b,all,rd,wr⟩=>c∧bu V n E f (.eP ops r (rs++[⟨true,all,rd,wr⟩])::k) ⟨put dst x σ.t,b⟩
 | f,ops,r,rs,k,dst,σ,.call g args=>lI V n E f ops r rs k dst σ g args
 | _,_,_,_,_,_,_,.bad=>False
def lI (V:Cx)(n:Nat)(E:Fin):Nat→Array Oper→List Oper→List Rk→List Item→Option Tmp→St→FuncId→List SV→Prop
 | f,ops,r,rs,k,dst,σ,g,args=>(∃ x,PC V g args x∧bu V n E f (.eP ops r (rs++[⟨false,false,[],[]⟩])::k) ⟨put dst x σ.t,σ.b⟩)∨(∃ x b,SC V g args σ.b (fun r b'=>r=x∧b'=b)∧bu V n E f (.eP ops r (rs++[⟨true,true,[],[]⟩])::k) ⟨put dst x σ.t,b⟩) ∨
   (∃ x b W,SC V g args σ.b (fun r b'=>r=x∧b'=b)∧CV W b σ.b∧bu V n E f (.eP ops r (rs++[⟨true,false,[],W⟩])::k) ⟨put dst x σ.t,b⟩)
def Xy (V:Cx)(n:Nat)(E:Fin):Nat→Array Oper→Option Tmp→Op→Bool→List Oper→List Rk→List Item→St→Option (Nat × Bool)→Bool→Prop
 | f,ops,dst,op,want,r,rs,k,σ,some (d,b),_=>fits n (some d)=true∧XG b want (Yg V n E f ops r rs k dst ⟨(d,.bool want)::σ.t,σ.b⟩ (XV V op ⟨(d,.bool want)::σ.t,σ.b⟩)) (bu V n E f (.eP ops r (rs++[⟨false,false,[],[]⟩])::k) ⟨put dst (.v undef) ((d,.bool (!want))::σ.t),σ.b⟩)
 | f,ops,dst,_,_,r,rs,k,σ,none,true=>bu V n E f (.eP ops r (rs++[⟨false,false,[],[]⟩])::k) ⟨put dst (.v undef) σ.t,σ.b⟩
 | _,_,_,_,_,_,_,_,_,none,false=>False
def XN (V:Cx)(n:Nat)(E:Fin):Nat→Code→Code→List Item→St→Option SV→Prop
 | f,x,y,k,σ,some (.bool b)=>XQ b (bu V n E f (.code x::k) σ) (bu V n E f (.code y::k) σ)
 | _,_,_,_,_,_=>False
def uQ (V:Cx)(n:Nat)(E:Fin):Nat→Code→List Item→St→Prop
 | f,x,k,σ=>∃ (I:St→Prop) (μ:St→Nat),I σ∧∀ σ',I σ'→bu V n E f (.code x::.kS I μ (μ σ')::k) σ'
def XO (V:Cx)(n:Nat)(E:Fin):Nat→St→Option (List Item)→Prop
 | f,σ,some k=>bu V n E f k σ
 | _,_,none=>False
def Yc (V:Cx)(n:Nat)(E:Fin):Nat→Array Oper→List Oper→List Item→fD→Prop
 | f,ops,r,k,.go c σ=>c∧bu V n E f (.ops ops r::k) σ
 | f,ops,r,k,.call g args dst σ=>lH V n E f ops r k g args dst σ
 | _,_,_,_,.bad=>False
def lH (V:Cx)(n:Nat)(E:Fin):Nat→Array Oper→List Oper→List Item→FuncId→List SV→Option Tmp→St→Prop
 | f,ops,r,k,g,args,dst,σ=>(∃ x,PC V g args x∧bu V n E f (.ops ops r::k) ⟨put dst x σ.t,σ.b⟩)∨(∃ R,SC V g args σ.b R∧(E.uni=true→∃ x b,R x b∧SC V g args σ.b (fun r b'=>r=x∧b'=b))∧∀ x bs,R x bs→bu V n E f (.ops ops r::k) ⟨put dst x σ.t,bs⟩)
def XA (V:Cx)(n:Nat)(E:Fin):Nat→Array Oper→Option Tmp→Op→Bool→List Oper→List Item→St→Option (Nat × Bool)→Bool→Prop
 | f,ops,dst,op,want,r,k,σ,some (d,b),_=>fits n (some d)=true∧XG b want (Yc V n E f ops r k (XR V dst op ⟨(d,.bool want)::σ.t,σ.b⟩)) (bu V n E f (.ops ops r::k) ⟨put dst (.v undef) ((d,.bool (!want))::σ.t),σ.b⟩)
 | f,ops,dst,_,_,r,k,σ,none,true=>bu V n E f (.ops ops r::k) ⟨put dst (.v undef) σ.t,σ.b⟩
 | _,_,_,_,_,_,_,_,none,false=>False
end
open Go Go.RowKit Wf
def cP {S:Type}(u:Nat→S→S)(D:Nat→Bool):Nat→S→S
 | 0,s=>s
 | n+1,s=>if D n then u n (cP u D n s) else cP u D n s
theorem nZ {S X:Type}(u:Nat→S→S)(obs:S→X)(hu:∀ k s s',obs s=obs s'→obs (u k s)=obs (u k s'))(D D':Nat→Bool):∀ (n:Nat)(s:S),
 (∀ k,k<n→D k=D' k∨∀ s,obs (u k s)=obs s)→obs (cP u D n s)=obs (cP u D' n s)
 | 0,_,_=>rfl
 | n+1,s,h=>by
   have ih:=nZ u obs hu D D' n s (fun k hk=>h k (by omega))
   simp only[cP]
   rcases h n (by omega) with e|e
   ·rw[e]
    split
    ·exact hu _ _ _ ih
    ·exact ih
   ·split <;> split <;> simp only[e,ih]
theorem fold_congr {S:Type}(u:Nat→S→S)(D D':Nat→Bool):∀ (n:Nat)(s:S),(∀ k,k<n→D k=D' k)→cP u D n s=cP u D' n s
 | 0,_,_=>rfl
 | n+1,s,h=>by simp only[cP];rw[h n (by omega),fold_congr u D D' n s (fun k hk=>h k (by omega))]
def rH (i:Nat):Nat→Bool:=fun k=>decide (k<i)
def eM (D:Nat→Bool)(i:Nat):Nat→Bool:=fun k=>D k||decide (k=i)
theorem JG {S : Type} (u : Nat → S → S) : ∀ (n i : Nat) (s : S), i ≤ n → cP u (rH i) n s = cP u (rH i) i s := by
  intro n
  induction n with
  | zero => intro i s h; have : i = 0 := by omega
            subst this; rfl
  | succ n ih =>
    intro i s h
    by_cases e : i = n + 1
    · subst e; rfl
    · simp only [cP]
      rw [if_neg (by simp [rH]; omega)]
      exact ih i s (by omega)
theorem JI {S:Type}(u:Nat→S→S)(D:Nat→Bool):∀ (n:Nat)(s:S),(∀ k,k<n→D k=true)→cP u D n s=cP u (rH n) n s:=by
 intro n s h
 exact fold_congr u D (rH n) n s (fun k hk=>by rw[h k hk];simp[rH,hk])
theorem xb {S:Type}(u:Nat→S→S)(i:Nat)(s:S):cP u (rH (i+1)) (i+1) s=u i (cP u (rH i) i s):=by
 simp only[cP]
 rw[if_pos (by simp[rH])]
 congr 1
 exact fold_congr u _ _ i s (fun k hk=>by simp[rH];omega)
theorem JF {S X:Type}(u:Nat→S→S)(obs:S→X)(hu:∀ k s s',obs s=obs s'→obs (u k s)=obs (u k s'))(D:Nat→Bool)(n i:Nat)(s:S)(hi:i≤n)
 (h:∀ k,k<n→(∃ s,obs (u k s)≠obs s)→D k=decide (k<i)):obs (cP u D n s)=obs (cP u (rH i) i s):=by
 rw[← JG u n i s hi]
 refine nZ u obs hu D (rH i) n s (fun k hk=>?_)
 by_cases e:∃ s,obs (u k s)≠obs s
 ·exact .inl (h k hk e)
 ·exact .inr (fun s=>Classical.byContradiction fun bn=>e ⟨s,bn⟩)
theorem JH {S X : Type} (u : Nat → S → S) (obs : S → X) (hu : ∀ k s s', obs s = obs s' → obs (u k s) = obs (u k s')) (D : Nat → Bool) (n i : Nat) (s : S) (hi : i < n) (hD : D i = false)
    (h : (∃ s, obs (u i s) ≠ obs s) → ∀ k, k < n → (∃ s, obs (u k s) ≠ obs s) → D k = true → k < i)
    : obs (cP u (eM D i) n s) = obs (u i (cP u D n s)) := by
  by_cases e : ∃ s, obs (u i s) ≠ obs s
  · -- nothing behind i shows
    have h1 : obs (cP u (eM D i) n s) = obs (cP u (fun k => eM D i k && decide (k ≤ i)) n s) :=
      nZ u obs hu _ _ n s (fun k hk => by
        by_cases ek : ∃ s, obs (u k s) ≠ obs s
        · left
          by_cases jb : k ≤ i
          · simp [jb]
          · have : D k = false := by
              cases Fk : D k
              · rfl
              · have := h e k hk ek Fk; omega
            simp [eM, this]; omega
        · exact .inr (fun s => Classical.byContradiction fun bn => ek ⟨s, bn⟩))
    have h2 : ∀ m, i < m → cP u (fun k => eM D i k && decide (k ≤ i)) m s = u i (cP u D i s) := by
      intro m
      induction m with
      | zero => intro hm; omega
      | succ m ih =>
        intro hm
        simp only [cP]
        by_cases hmi : m = i
        · subst hmi
          rw [if_pos (by simp [eM])]
          congr 1
          exact fold_congr u _ _ m s (fun k hk => by simp [eM, show k ≠ m by omega, show k ≤ m by omega])
        · rw [if_neg (by simp; omega)]
          exact ih (by omega)
    rw [h1, h2 n hi]
    refine hu _ _ _ ?_
    have h3 : obs (cP u D n s) = obs (cP u (fun k => D k && decide (k < i)) n s) :=
      nZ u obs hu _ _ n s (fun k hk => by
        by_cases ek : ∃ s, obs (u k s) ≠ obs s
        · left
          cases Fk : D k
          · simp
          · have := h e k hk ek Fk; simp [this]
        · exact .inr (fun s => Classical.byContradiction fun bn => ek ⟨s, bn⟩))
    have h4 : ∀ m, i ≤ m → cP u (fun k => D k && decide (k < i)) m s = cP u D i s := by
      intro m
      induction m with
      | zero => intro hm; have : i = 0 := by omega
                subst this; rfl
      | succ m ih =>
        intro hm
        by_cases hmi : i = m + 1
        · subst hmi
          exact fold_congr u _ _ (m + 1) s (fun k hk => by simp; omega)
        · simp only [cP]
          rw [if_neg (by simp; omega)]
          exact ih (by omega)
    rw [h3, h4 n (by omega)]
  · have e' : ∀ s, obs (u i s) = obs s := fun s => Classical.byContradiction fun bn => e ⟨s, bn⟩
    rw [e']
    refine nZ u obs hu _ _ n s (fun k hk => ?_)
    by_cases jb : k = i
    · subst jb; exact .inr e'
    · left; simp [eM, jb]
theorem FU {P:Program}{ops:Array Oper}{Q:Exit→Act→World→Prop}{md:Region.Mode}(Inv:(Nat→Bool)→Act→World→Prop)
 (hstep:∀ (listed:Array Bool) a w i,listed.size=ops.size→Inv (fun k=>listed.getD k false) a w→i∈Region.ready md ops listed→wpOp P ops Q i (fun a' w'=>Inv (eM (fun k=>listed.getD k false) i) a' w') a w)
 (Cf:∀ (listed:Array Bool) a w,listed.size=ops.size→Inv (fun k=>listed.getD k false) a w→Region.ready md ops listed=[]→Q .normal a w) :
 ∀ (fuel:Nat) (listed:Array Bool) a w,listed.size=ops.size→(listed.toList.filter (fun b=>!b)).length≤fuel→Inv (fun k=>listed.getD k false) a w→wpAny P md ops Q fuel listed a w:=by
 have key:∀ (listed:Array Bool) (i:Nat),i∈Region.ready md ops listed→i<listed.size∧listed.getD i false=false:=by
  intro listed i hi
  have:=(mem_ready.1 hi).1
  have aB:i<listed.size:=by
   rcases zLg i listed.size with h|h
   ·exact h
   ·simp[h]at this
  exact⟨aB,by simp[aB]at this ⊢;exact this⟩
 intro fuel
 induction fuel with
 | zero =>
   intro listed a w hs hc hI
   have hr:Region.ready md ops listed=[]:=by
    rcases h:Region.ready md ops listed with _|⟨i,r⟩
    ·rfl
    ·have hi:i∈Region.ready md ops listed:=by rw[h];simp
     obtain⟨aB,hf⟩:=key listed i hi
     have:false∈listed.toList.filter (fun b=>!b):=by
      simp only[List.mem_filter]
      refine⟨?_,rfl⟩
      have:listed[i]=false:=by simpa[aB] using hf
      rw[← this]
      exact zK6.2 (Array.getElem_mem aB)
     have:=List.length_pos_of_mem this
     omega
   exact⟨hr,Cf listed a w hs hI hr⟩
 | succ fuel ih =>
   intro listed a w hs hc hI
   refine⟨fun hr=>Cf listed a w hs hI hr,fun i hi=>?_⟩
   obtain⟨aB,hf⟩:=key listed i hi
   refine wpOp_mono (fun a' w' hI'=>ih (listed.setIfInBounds i true) a' w' (by simp[hs]) ?_ ?_) (hstep listed a w i hs hI hi)
   ·have hl:listed[i]=false:=by simpa[aB] using hf
    have e:listed.toList=listed.toList.take i++false::listed.toList.drop (i+1):=by
     have h1:=(List.take_append_drop i listed.toList).symm
     rw[List.drop_eq_getElem_cons (by simpa using aB)]at h1
     simpa[hl] using h1
    have hlen:(listed.toList.take i).length=i:=by simp;omega
    have e2:(listed.setIfInBounds i true).toList=listed.toList.take i++true::listed.toList.drop (i+1):=by
     rw[Array.toList_setIfInBounds]
     conv=>lhs;rw[e]
     rw[List.set_append_right _ _ (by omega)]
     simp[hlen]
    rw[e2]
    rw[e]at hc
    simp at hc ⊢
    omega
   ·have e:(fun k=>(listed.setIfInBounds i true).getD k false)=eM (fun k=>listed.getD k false) i:=by
     funext k
     by_cases h:k=i
     ·subst h;simp[eM,aB]
     ·simp only[eM]
      rw[zLq,Array.getElem?_setIfInBounds_ne (fun q=>h q.symm),← zLq]
      simp[h]
    rw[e]
    exact hI'
open Go Go.RowKit Wf
section
variable {V:Cx} {F:Fx V} {β:Nat→Bt} {fp:Nat→Nat→Prop}
theorem A2 {Γ:TypeId→Option TI}{t t':List (Nat × SV)}{op:Op}(h:∀ x∈op.operands,ev t x=ev t' x):pv Γ t op=pv Γ t' op:=by
 have opt:∀ o:Option Operand,(∀ x,o=some x→ev t x=ev t' x)→pH t o=pH t' o:=fun o ho=>by
  cases o with
  | none=>rfl
  | some x=>simp[pH,ho x rfl]
 have lst:∀ l:List Operand,(∀ x∈l,ev t x=ev t' x)→l.mapM (ev t)=l.mapM (ev t'):=fun l=>by
  induction l with
  | nil=>intro _;rfl
  | cons x r ih=>intro hl;simp only[List.mapM_cons];rw[hl x (by simp),ih (fun y hy=>hl y (by simp[hy]))]
 cases op <;> simp only[pv]
 case move x=>simp only[XX];rw[h x (by simp[Op.operands])]
 case assign x=>simp only[XX];rw[h x (by simp[Op.operands])]
 case pick c a b=>simp only[Ya];rw[h c (by simp[Op.operands]),h a (by simp[Op.operands]),h b (by simp[Op.operands])]
 case fieldAddr S x f=>simp only[Xb];rw[h x (by simp[Op.operands])]
 case field S x f=>simp only[Xu];rw[h x (by simp[Op.operands])]
 case binOp op T x y yt=>simp only[oBin];rw[h x (by simp[Op.operands]),h y (by simp[Op.operands])]
 case unOp op T x=>simp only[oUn];rw[h x (by simp[Op.operands])]
 case convert S D x=>simp only[Ye];rw[h x (by simp[Op.operands])]
 case slice T x lo hi mx =>
  cases mx with
  | some _=>rfl
  | none =>
    simp only[Xw]
    rw[h x (by simp[Op.operands]),opt lo (fun y hy=>h y (by simp[Op.operands,hy])),opt hi (fun y hy=>h y (by simp[Op.operands,hy]))]
 case index T x i=>simp only[Xx];rw[h x (by simp[Op.operands]),h i (by simp[Op.operands])]
 case build T ps =>
  have hp:∀ l:List (Nat × Operand),(∀ x∈l,ev t x.2=ev t' x.2)→Xl t l=Xl t' l:=fun l=>by
   induction l with
   | nil=>intro _;rfl
   | cons x r ih=>intro hl;obtain⟨i,o⟩:=x;simp only[Xl];rw[hl (i,o) (by simp),ih (fun y hy=>hl y (by simp[hy]))]
  simp only[Xk]
  rw[hp ps.toList (fun x hx=>h x.2 (by simp only[Op.operands];rw[List.mem_toArray];exact zLt hx))]
 case indexAddr T x i=>simp only[XS];rw[h x (by simp[Op.operands]),h i (by simp[Op.operands])]
 case makeInterface T x=>simp only[zu];rw[h x (by simp[Op.operands])]
 case typeAssert x S A ok =>
  cases ok
  ·rfl
  ·simp only[tL];rw[h x (by simp[Op.operands])]
 case extract x i=>simp only[Xh];rw[h x (by simp[Op.operands])]
 case makeFunc f first caps =>
  simp only[Yh]
  unfold yu
  rw[lst caps.toList (fun x hx=>h x (by simp only[Op.operands];exact zLr.2 (.inr (zK6.1 hx)))),
   lst first.toList (fun x hx=>h x (by simp only[Op.operands];exact zLr.2 (.inl (zK6.1 hx))))]
 case call c =>
  obtain⟨callee,args,ts⟩:=c
  cases callee <;> (try simp only)
  rename_i b
  cases b <;> (try simp only)
  simp only[Gk]
  split
  ·rename_i x hx
   rw[h x (by
    simp only[Op.operands,Call.operands]
    refine zLr.2 (.inr (zK6.1 ?_))
    rw[hx];simp)]
  ·rfl
theorem Dr (c:List SV)(r:ax):shape (tf c r)=shape r:=by cases r <;> rfl
theorem Em {bs:List ax}{i:Nat}{c:List SV}{T:TypeId}{m:Bool}(h:iC bs i=some (c,T,m)):∃ r,bs[i]? = some r∧om r=c∧∀ c' r',shape r'=shape r→om r'=c'→(∀ bs':List ax,bs'[i]? = some r'→iC bs' i=some (c',T,m)):=by
 obtain⟨r,hr,-,hc⟩:=lB h
 refine⟨r,hr,by rcases hc with rfl|⟨s,n,rfl⟩ <;> rfl,fun c' r' hs hcr bs' hb=>?_⟩
 unfold iC
 rw[hb]
 rcases hc with rfl|⟨s,n,rfl⟩ <;> cases r' <;> simp[shape]at hs <;> simp[om]at hcr <;> simp[hs,hcr]
theorem Gj {a b:Nat × Nat × Nat}(h:ovl a b=false){q:Option Nat}(hq:inR a q):¬ HJ b a.1 q:=by
 rintro⟨h1,h2⟩
 have:ovl a b=true:=by
  unfold ovl
  simp only[zKP,beq_iff_eq,zKQ,decide_eq_true_eq]
  refine⟨h1.symm,?_⟩
  rcases h2 with h2|⟨p,rfl,h3,h4⟩
  ·exact .inl h2
  ·rcases hq with hq|⟨p',hp,h5,h6⟩
   ·cases hq
   ·cases hp
    exact .inr ⟨by omega,by omega⟩
 rw[h]at this
 cases this
theorem HS {j off n:Nat}{bi bs:List ax}(h:seen (j,off,n) bi bs){c:List SV}{T:TypeId}{m:Bool}(hg:iC bi j=some (c,T,m)) :
 ∃ c',iC bs j=some (c',T,m)∧c'.length=c.length∧∀ p,off≤p→p<off+n→c'[p]? = c[p]? := by
 obtain⟨r,hr,rfl,aR⟩:=Em hg
 have key:∀ q,inR (j,off,n) q→∃ r',bs[j]? = some r'∧ob q r'=ob q r:=fun q hq=>by
  have:=h q hq
  simp only[hr]at this
  cases Jv:bs[j]? with
  | none=>rw[Jv]at this;simp at this
  | some r' =>
    rw[Jv]at this
    simp only[zK7,zK0.injEq]at this
    exact⟨r',rfl,this⟩
 obtain⟨r',hr',ho⟩:=key none (.inl rfl)
 simp only[ob,Prod.mk.injEq,and_true]at ho
 refine⟨om r',aR _ r' ho.1 rfl bs hr',ho.2,fun p h1 h2=>?_⟩
 obtain⟨r2,I5,kU⟩:=key (some p) (.inr ⟨p,rfl,h1,h2⟩)
 rw[hr']at I5
 cases I5
 simp only[ob,Prod.mk.injEq]at kU
 exact kU.2.2
theorem AK {j off k:Nat}{bi bs:List ax}(h:seen (j,off,k) bi bs){c:List SV}{e s n:Nat}{m:Bool}(hg:bi[j]? = some (.own c e s n m)):∃ c',bs[j]? = some (.own c' e s n m):=by
 have:=h none (.inl rfl)
 simp only[hg]at this
 cases Jv:bs[j]? with
 | none=>rw[Jv]at this;simp at this
 | some r' =>
   rw[Jv]at this
   simp only[zK7,zK0.injEq,ob,Prod.mk.injEq,and_true]at this
   cases r' <;> simp[shape]at this
   rename_i c' _ _ _ _
   obtain⟨⟨rfl,rfl,rfl,rfl⟩,-⟩:=this
   exact⟨c',rfl⟩
theorem A7 {agg:Bool}{off n:Nat}{c c':List SV}(hn:0<n)(h:∀ p,off≤p→p<off+n→c'[p]? = c[p]?):XM agg off n c'=XM agg off n c:=by
 unfold XM
 cases agg
 ·simp[h off (zK1 _) (by omega)]
 ·simp only[if_true]
  congr 2
  apply List.ext_getElem?
  intro q
  simp only[List.getElem?_take,List.getElem?_drop]
  split
  ·exact h (off+q) (by omega) (by omega)
  ·rfl
theorem mapM_congr {t t':List (Nat × SV)}:∀ (l:List Operand),(∀ x∈l,ev t x=ev t' x)→yu t l=yu t' l
 | [],_=>rfl
 | x::r,h=>by
   have:=mapM_congr r (fun y hy=>h y (by simp[hy]))
   unfold yu at this ⊢
   simp only[List.mapM_cons]
   rw[h x (by simp),this]
theorem iN {t t':List (Nat × SV)}:∀ (l:List (Nat × Operand)),(∀ x∈l.map (·.2),ev t x=ev t' x)→Xl t l=Xl t' l
 | [],_=>rfl
 | (i,x)::r,h=>by
  simp only[Xl]
  rw[h x (by simp),iN r (fun y hy=>h y (by simp only[List.map_cons,zLk];exact .inr hy))]
def hdS:List (Nat × SV)→SV
 | (_,x)::_=>x
 | []=>.v undef
theorem FY {dst:Option Tmp}{op:Op}{t:List (Nat × SV)}{b:List ax}{c:Prop}{σ':St}(hs:Yl V dst op ⟨t,b⟩=some (c,σ')):∃ x,σ'.t=put dst x t:=by
 cases op <;> simp only[Yl,reduceCtorEq]at hs
 case call cl =>
  obtain⟨callee,args,ts⟩:=cl
  cases callee <;> (try simp only[reduceCtorEq]at hs)
  rename_i bi
  cases bi <;> (try simp only[reduceCtorEq]at hs)
  case append =>
   unfold Xm at hs
   (repeat' split at hs) <;> try (cases hs;done)
   cases hs
   exact⟨_,rfl⟩
  all_goals
   unfold Xq at hs
   (repeat' split at hs) <;> try (cases hs;done)
   obtain⟨z,hz,e⟩:=zLf.1 hs
   cases e
   exact⟨z,rfl⟩
 case slice T x lo hi mx =>
  cases mx with
  | some mx =>
    cases lo <;> cases hi <;> simp only[reduceCtorEq]at hs
    unfold DU at hs
    (repeat' split at hs) <;> try (cases hs;done)
    cases hs
    exact⟨_,rfl⟩
  | none =>
  simp only at hs
  unfold Xj at hs
  (repeat' split at hs) <;> try (cases hs;done)
  cases hs
  exact⟨_,rfl⟩
 case convert S D x =>
  unfold Yb at hs
  (repeat' split at hs) <;> try (cases hs;done)
  all_goals
   cases hs
   exact⟨_,rfl⟩
 all_goals
  first|unfold Yn at hs|unfold Xa at hs|unfold Xc at hs
  (repeat' split at hs) <;> try (cases hs;done)
  cases hs
  exact⟨_,rfl⟩
theorem FZ {op:Op}{t t':List (Nat × SV)}{b:List ax}(h:∀ x∈op.operands,ev t' x=ev t x)(dst:Option Tmp) :
 Yl V dst op ⟨t',b⟩=(Yl V (some 0) op ⟨t,b⟩).map fun p=>(p.1,⟨put dst (hdS p.2.t) t',p.2.b⟩):=by
 have opt:∀ o:Option Operand,(∀ x,o=some x→ev t' x=ev t x)→pH t' o=pH t o:=fun o ho=>by
  cases o with
  | none=>rfl
  | some x=>simp[pH,ho x rfl]
 cases op <;> simp only[Yl,zLu]
 case call cl =>
  obtain⟨callee,args,ts⟩:=cl
  have tA:∀ x∈args.toList,ev t' x=ev t x:=fun x hx=>h x (by
   simp only[Op.operands,Call.operands]
   exact zLr.2 (.inr (zK6.1 hx)))
  cases callee <;> (try simp only[zLu])
  rename_i bi
  cases bi <;> (try simp only[zLu])
  case append =>
   unfold Xm
   generalize args.toList=L at tA
   generalize ts.toList=TS
   match L,tA with
   | [s,x],tA =>
     simp only[tA s (by simp),tA x (by simp)]
     (repeat' split) <;> rfl
   | [],_=>rfl
   | [_],_=>rfl
   | _::_::_::_,_=>rfl
  all_goals
   unfold Xq
   generalize args.toList=L at tA
   match L,tA with
   | [s,x],tA =>
     simp only[tA s (by simp),tA x (by simp)]
     split
     ·split
      ·rw[Option.map_map];rfl
      ·rfl
     ·rfl
   | [],_=>rfl
   | [_],_=>rfl
   | _::_::_::_,_=>rfl
 case makeSlice T l cc =>
  unfold Yn
  simp only[h l (by simp[Op.operands]),h cc (by simp[Op.operands])]
  (repeat' split) <;> rfl
 case buildSlice T n ps =>
  unfold Xa
  simp only[iN (t:=t') (t':=t) ps.toList (fun x hx=>h x (by simp only[Op.operands];rw[List.mem_toArray];exact hx))]
  (repeat' split) <;> rfl
 case indexAddr T x i =>
  unfold Xc
  simp only[h x (by simp[Op.operands]),h i (by simp[Op.operands])]
  (repeat' split) <;> rfl
 case slice T x lo hi mx =>
  cases mx with
  | some mx =>
    cases lo <;> cases hi <;> simp only[zLu]
    rename_i hi
    unfold DU
    simp only[h x (by simp[Op.operands]),h hi (by simp[Op.operands]),h mx (by simp[Op.operands])]
    (repeat' split) <;> rfl
  | none =>
  simp only
  unfold Xj
  simp only[h x (by simp[Op.operands]),opt lo (fun y hy=>h y (by simp[Op.operands,hy])),opt hi (fun y hy=>h y (by simp[Op.operands,hy]))]
  (repeat' split) <;> rfl
 case convert S D x =>
  unfold Yb
  simp only[h x (by simp[Op.operands])]
  (repeat' split) <;> rfl
theorem jH {op:Op}{t t':List (Nat × SV)}{b:List ax}(h:∀ x∈op.operands,ev t' x=ev t x){c:Prop}{σ':St}(hs:Yl V (some 0) op ⟨t,b⟩=some (c,σ')) :
 ∃ x,σ'.t=(0,x)::t∧∀ dst,Yl V dst op ⟨t',b⟩=some (c,⟨put dst x t',σ'.b⟩):=by
 obtain⟨x,hx⟩:=FY hs
 refine⟨x,hx,fun dst=>?_⟩
 rw[FZ h dst,hs]
 simp only[zK7,hx]
 rfl
theorem IP {l:List (Option SV)}{j n:Nat}(h:some (SV.o j n)∈l):(j,0,0)∈idxs l:=by
 induction l with
 | nil=>cases h
 | cons x r ih =>
   simp only[zLk]at h
   rcases h with h|h
   ·subst h;simp[idxs]
   ·have:=ih h
    cases x with
    | none=>simpa[idxs] using this
    | some v=>cases v <;> simp[idxs,this]
theorem Gu {l:List (Option SV)}{x:Nat × Nat × Nat}(h:x∈idxs l):x.2.2=0:=by
 induction l with
 | nil=>cases h
 | cons y r ih =>
   cases y with
   | none=>exact ih (by simpa[idxs] using h)
   | some v =>
     cases v
     case o j n =>
      simp only[idxs,zLk]at h
      rcases h with rfl|h
      ·rfl
      ·exact ih h
     case f j n =>
      simp only[idxs,zLk]at h
      rcases h with rfl|h
      ·rfl
      ·exact ih h
     all_goals exact ih (by simpa[idxs] using h)
theorem DR {op:Op}{t:List (Nat × SV)}{o:Operand}(ho:o∈Ac op){j n:Nat}(he:ev t o=some (.o j n)):(j,0,0)∈idxs ((Ac op).map (ev t)) :=
 IP (by rw[← he];exact zLt ho)
theorem JT {e s:Nat}{x:SV}{b bs:List ax}{n:Nat}{c:List SV}(h:tC b e s x=some (n,c,bs)){j:Nat}(hj:∀ i m,x=.o i m→i≠j):bs[j]? = b[j]? ∧ bs.length=b.length:=by
 cases x <;> simp only[tC,reduceCtorEq]at h
 case aE=>cases h;exact⟨rfl,rfl⟩
 case o i m =>
  split at h
  ·split at h
   ·cases h
    exact⟨zKV (hj i _ rfl),by simp⟩
   ·cases h
  ·cases h
 case f i m =>
  split at h
  ·split at h
   ·cases h
    exact⟨rfl,rfl⟩
   ·cases h
  ·cases h
theorem iW {b:List ax}{X:ax}{j:Nat}(hj:j≠b.length):(b++[X])[j]? = b[j]? := by
 rcases zLg j b.length with h|h
 ·rw[zKT h]
 ·rw[zKZ h,List.getElem?_eq_none h,List.getElem?_eq_none (by simp;omega)]
theorem Dl {op:Op}{t:List (Nat × SV)}{b:List ax}{c:Prop}{σ':St}(hs:Yl V (some 0) op ⟨t,b⟩=some (c,σ')){j:Nat}(hj:j≠b.length)(hi:∀ x∈idxs ((Ac op).map (ev t)),x.1≠j):σ'.b[j]? = b[j]? := by
 have bn:∀ (o:Operand),o∈Ac op→∀ i m,ev t o=some (.o i m)→i≠j:=fun o ho i m he=>hi _ (DR ho he)
 cases op <;> simp only[Yl,reduceCtorEq]at hs
 case call cl =>
  obtain⟨callee,args,ts⟩:=cl
  have tA:∀ x∈args.toList,x∈Ac (Op.call ⟨callee,args,ts⟩):=fun x hx=>hx
  cases callee <;> (try simp only[reduceCtorEq]at hs)
  rename_i bi
  cases bi <;> (try simp only[reduceCtorEq]at hs)
  case append =>
   unfold Xm at hs
   split at hs
   ·rename_i s x hl
    (repeat' split at hs) <;> try (cases hs;done)
    cases hs
    rename_i hd _ _ _ _
    obtain⟨h1,h2⟩:=JT hd (j:=j) (fun i m e=>bn s (tA s (by rw[hl];simp)) i m (by rw[← e];assumption))
    simp only
    rw[iW (by rw[h2];exact hj),h1]
   ·cases hs
  all_goals
   unfold Xq at hs
   (repeat' split at hs) <;> try (cases hs;done)
   obtain⟨z,hz,e⟩:=zLf.1 hs
   cases e
   rfl
 case makeSlice T l cc =>
  unfold Yn at hs
  (repeat' split at hs) <;> try (cases hs;done)
  cases hs
  exact iW hj
 case buildSlice T n ps =>
  unfold Xa at hs
  (repeat' split at hs) <;> try (cases hs;done)
  cases hs
  exact iW hj
 case indexAddr T x i =>
  unfold Xc at hs
  (repeat' split at hs) <;> try (cases hs;done)
  cases hs
  rfl
 case slice T x lo hi' mx =>
  cases mx with
  | some mx =>
    cases lo <;> cases hi' <;> simp only[reduceCtorEq]at hs
    unfold DU at hs
    (repeat' split at hs) <;> try (cases hs;done)
    cases hs
    rfl
  | none =>
  simp only at hs
  unfold Xj at hs
  (repeat' split at hs) <;> try (cases hs;done)
  rename_i I4
  cases hs
  simp only
  unfold reS at I4
  split at I4
  ·rename_i i m he
   have wm:i≠j:=bn x (by simp[Ac]) i m he
   split at I4
   ·split at I4
    ·(repeat' split at I4) <;> cases I4
     all_goals first
      | rw[iW (by simpa using hj),zKV wm]
      | exact iW hj
    ·cases I4
   ·cases I4
  ·cases I4
 case convert S D x =>
  unfold Yb at hs
  (repeat' split at hs) <;> try (cases hs;done)
  all_goals cases hs
  all_goals first|rfl|exact iW hj
theorem Ay {op:Op}(hr:Xz V op=true){t:List (Nat × SV)}{b b':List ax}{c:Prop}{σ':St}(hs:Yl V (some 0) op ⟨t,b⟩=some (c,σ'))(hc:c)
 (ll:∀ x∈idxs ((Ac op).map (ev t)),seen x b b'):∃ c',c'∧Yl V (some 0) op ⟨t,b'⟩=some (c',⟨σ'.t,b'⟩):=by
 cases op <;> simp only[Yl,reduceCtorEq]at hs
 case call cl =>
  obtain⟨callee,args,ts⟩:=cl
  cases callee <;> (try simp only[reduceCtorEq]at hs)
  rename_i bi
  cases bi <;> (try simp only[reduceCtorEq]at hs)
  case append=>simp[Xz]at hr
  all_goals
   simp only[Yl]
   unfold Xq at hs ⊢
   split at hs
   ·rename_i s x hl
    simp only
    split at hs
    ·rename_i u hu
     split at hs
     ·rename_i v hv
      obtain⟨z,hz,e⟩:=zLf.1 hs
      cases e
      exact⟨True,trivial,by simp[hl,hu,hv,hz]⟩
     ·cases hs
    ·cases hs
   ·cases hs
 case indexAddr T x i =>
  simp only[Yl]
  unfold Xc at hs ⊢
  split at hs
  ·rename_i e hk
   split at hs
   ·rename_i s jZ
    split at hs
    ·rename_i u hu
     split at hs
     ·rename_i k kk hi
      split at hs
      ·rename_i c0 y ha
       cases hs
       simp only at hu hi
       simp only[hu,hi]
       unfold Ym at ha
       split at ha
       ·rename_i j n
        split at ha
        ·rename_i cc e1 s1 n1 m1 hj
         cases ha
         obtain⟨c'',hb'⟩:=AK (ll (j,0,0) (DR (o:=x) (by simp[Ac]) hu)) hj
         simp only at hc
         refine⟨_,?_,by simp only[Ym,hb'];rfl⟩
         refine⟨hc.1,?_⟩
         have h2:=hc.2
         simp only[Xc.lU,hj]at h2
         simp only[Xc.lU,hb']
         exact h2
        ·cases ha
       ·cases ha
      ·cases hs
     ·cases hs
    ·cases hs
   ·cases hs
  ·cases hs
 case slice T x lo hi mx =>
  cases mx with
  | none=>cases lo <;> cases hi <;> simp[Xz]at hr
  | some mx =>
    cases lo with
    | some _=>cases hi <;> simp[Xz]at hr
    | none =>
      cases hi with
      | none=>simp[Xz]at hr
      | some hi =>
        simp only[Yl]
        simp only at hs
        unfold DU at hs ⊢
        split at hs
        ·rename_i e hk
         split at hs
         ·rename_i s jZ
          split at hs
          ·rename_i u hu
           split at hs
           ·rename_i k1 h1 hhi
            split at hs
            ·rename_i k2 h2 hmx
             split at hs
             ·rename_i c0 y ha
              cases hs
              simp only at hu hhi hmx
              simp only[hu,hhi,hmx]
              unfold CJ at ha
              split at ha
              ·rename_i j n
               split at ha
               ·rename_i cc e1 s1 n1 m1 hj
                cases ha
                obtain⟨c'',hb'⟩:=AK (ll (j,0,0) (DR (o:=x) (by simp[Ac]) hu)) hj
                refine⟨_,hc,by simp only[CJ,hb']⟩
               ·cases ha
              ·cases ha
               exact⟨_,hc,by simp only[CJ]⟩
              ·cases ha
             ·cases hs
            ·cases hs
           ·cases hs
          ·cases hs
         ·cases hs
        ·cases hs
 all_goals simp[Xz]at hr
theorem HN {dst:Option Tmp}{op:Op}{t t':List (Nat × SV)}{b b':List ax}(h:∀ x∈op.operands,ev t' x=ev t x){c:Prop}{r:jU}(hs:XV V op ⟨t,b⟩=.val c r)(hc:c)(hb:r.nb.isSome=true→b'=b)(ll:r.nb=none→∀ x∈r.rd,seen x b b') :
 hN V (fun σ=>σ=⟨put dst r.x t',r.nb.getD b'⟩) (XR V dst op ⟨t',b'⟩):=by
 unfold XV at hs
 unfold XR
 rw[A2 (t:=t') (t':=t) h]
 simp only at hs
 cases hp:pv V.Γ t op with
 | some p =>
   rw[hp]at hs
   obtain⟨c',x⟩:=p
   simp only[GQ,pq]at hs
   cases hs
   exact⟨hc,rfl⟩
 | none =>
   rw[hp]at hs
   simp only[GQ,goR]at hs ⊢
   cases hn:Yl V (some 0) op ⟨t,b⟩ with
   | some p =>
     obtain⟨c',σ'⟩:=p
     rw[hn]at hs
     obtain⟨x,hx,-⟩:=jH (t':=t) (fun _ _=>rfl) hn
     simp only[dN,hx]at hs
     split at hs
     ·rename_i hrd
      cases hs
      obtain⟨c2,vw,e2⟩:=Ay hrd hn hc (ll rfl)
      obtain⟨x2,hx2,e3⟩:=jH h e2
      simp only[hx,zKU.injEq,Prod.mk.injEq,true_and,and_true]at hx2
      rw[e3 dst]
      simp only[G9]
      exact⟨vw,by rw[← hx2];rfl⟩
     ·cases hs
      obtain rfl:=hb rfl
      obtain⟨x2,hx2,e3⟩:=jH h hn
      simp only[hx,zKU.injEq,Prod.mk.injEq,true_and,and_true]at hx2
      rw[e3 dst]
      simp only[G9]
      exact⟨hc,by rw[← hx2];rfl⟩
   | none =>
     rw[hn]at hs
     simp only[dN]at hs
     cases op <;> simp only[Xv,reduceCtorEq]at hs
     case alloc T =>
      unfold XD at hs
      simp only[Yl,G9,Yd,XC]
      split at hs
      ·rename_i ti jY
       cases hs
       obtain rfl:=hb rfl
       exact⟨trivial,rfl⟩
      ·cases hs
     case box T x =>
      unfold JZ at hs
      simp only[Yl,G9,Yd,sBox]
      split at hs
      ·rename_i u hu
       cases hs
       obtain rfl:=hb rfl
       simp only at hu
       rw[h x (by simp[Op.operands]),hu]
       exact⟨hc,rfl⟩
      ·cases hs
     case load T x =>
      unfold XI at hs
      simp only[Yl,G9,Yd,XU]
      rw[h x (by simp[Op.operands])]
      (repeat' split at hs) <;> try (cases hs;done)
      rename_i i off he _ c0 T0 m0 hg _ ti jY _ y hy
      cases hs
      simp only at he hg
      obtain⟨c1,hg1,mO,hp1⟩:=HS (ll rfl (i,off,ti.size) (by simp)) hg
      rw[he]
      simp only[hg1,jY,A7 hc.2 hp1,hy]
      exact⟨by rw[mO];exact hc.1,rfl⟩
     case store T x y =>
      unfold XF at hs
      simp only[Yl,G9,Yd,XH]
      rw[h x (by simp[Op.operands]),h y (by simp[Op.operands])]
      (repeat' split at hs) <;> try (cases hs;done)
      rename_i i off he _ u hu _ c0 T0 m0 hg _ s jZ
      cases hs
      obtain rfl:=hb rfl
      simp only at he hg hu
      rw[he,hu]
      simp only[hg,jZ]
      exact⟨⟨hc.1,hc.2.1,hc.2.2.1,hc.2.2.2.1⟩,rfl⟩
     case build T ps =>
      unfold XB at hs
      simp only[Yl,G9,Yd,Xr]
      rw[iN (t:=t') (t':=t) ps.toList (fun x hx=>h x (by simp only[Op.operands];rw[List.mem_toArray];exact hx))]
      (repeat' split at hs) <;> try (cases hs;done)
      rename_i ti jY _ fs hk _ l hl _ cc hcc
      simp only[pq]at hs
      cases hs
      simp only at hl
      simp only[jY,hk,hl,hcc]
      exact⟨trivial,rfl⟩
     case nilCheck x =>
      unfold JY at hs
      simp only[Yl,G9,Yd,sNil]
      rw[h x (by simp[Op.operands])]
      split at hs
      ·rename_i i off he
       simp only[pq]at hs
       cases hs
       simp only at he
       rw[he]
       exact⟨trivial,rfl⟩
      ·rename_i f l he
       simp only[pq]at hs
       cases hs
       simp only at he
       rw[he]
       exact⟨hc,rfl⟩
      ·cases hs
     case call cl =>
      obtain⟨callee,args,ts⟩:=cl
      cases callee <;> simp only[reduceCtorEq]at hs
      unfold XK at hs
      (repeat' split at hs) <;> cases hs
theorem Dm {dst:Option Tmp}{op:Op}{t t':List (Nat × SV)}{b b':List ax}(h:∀ x∈op.operands,ev t' x=ev t x){g:FuncId}{args:List SV}(hs:XV V op ⟨t,b⟩=.call g args):XR V dst op ⟨t',b'⟩=.call g args dst ⟨t',b'⟩:=by
 unfold XV at hs
 unfold XR
 rw[A2 (t:=t') (t':=t) h]
 simp only at hs
 cases hp:pv V.Γ t op with
 | some p=>rw[hp]at hs;obtain⟨c',x⟩:=p;simp[GQ,pq]at hs
 | none =>
   rw[hp]at hs
   simp only[GQ,goR]at hs ⊢
   cases hn:Yl V (some 0) op ⟨t,b⟩ with
   | some p =>
     obtain⟨c',σ'⟩:=p
     rw[hn]at hs
     obtain⟨x,hx,-⟩:=jH (t':=t) (fun _ _=>rfl) hn
     simp only[dN,hx]at hs
     split at hs <;> cases hs
   | none =>
     rw[hn]at hs
     simp only[dN]at hs
     cases op <;> simp only[Xv,reduceCtorEq]at hs
     case alloc T=>unfold XD at hs;(repeat' split at hs) <;> cases hs
     case box T x=>unfold JZ at hs;(repeat' split at hs) <;> cases hs
     case load T x=>unfold XI at hs;(repeat' split at hs) <;> cases hs
     case store T x y=>unfold XF at hs;(repeat' split at hs) <;> cases hs
     case build T ps=>unfold XB at hs;(repeat' split at hs) <;> (try simp only[pq]at hs) <;> cases hs
     case nilCheck x=>unfold JY at hs;(repeat' split at hs) <;> (try simp only[pq]at hs) <;> cases hs
     case call cl =>
      obtain⟨callee,args,ts⟩:=cl
      cases callee <;> simp only[reduceCtorEq]at hs
      rename_i f
      unfold XK at hs
      simp only[Yl,G9,Yd,XL]
      rw[h f (by simp[Op.operands,Call.operands])]
      have he:yu t' args.toList=yu t args.toList:=mapM_congr args.toList (fun x hx=>h x (by
       simp only[Op.operands,Call.operands]
       exact zLr.2 (.inr (zK6.1 hx))))
      rw[he]
      split at hs
      ·rename_i ff caps hf
       split at hs
       ·rename_i l hl
        simp only at hf hl
        rw[hf]
        simp only[hl]
        cases hs
        rfl
       ·cases hs
      ·cases hs
def UnE (r:jU)(bi:List ax):Prop:=∀ nb,r.nb=some nb→r.all=false→∀ j q,(∀ x∈r.wr,¬ HJ x j q)→(nb[j]?).map (ob q)=(bi[j]?).map (ob q)
theorem AA {op:Op}{t:List (Nat × SV)}{b:List ax}{c:Prop}{r:jU}(hs:XV V op ⟨t,b⟩=.val c r)(hc:c):UnE r b:=by
 intro nb yj aR j q hwr
 unfold XV at hs
 simp only at hs
 cases hp:pv V.Γ t op with
 | some p=>rw[hp]at hs;obtain⟨c',x⟩:=p;simp only[GQ,pq]at hs;cases hs;cases yj
 | none =>
   rw[hp]at hs
   simp only[GQ]at hs
   cases hn:Yl V (some 0) op ⟨t,b⟩ with
   | some p =>
     obtain⟨c',σ'⟩:=p
     rw[hn]at hs
     obtain⟨x,hx,-⟩:=jH (t':=t) (fun _ _=>rfl) hn
     simp only[dN,hx]at hs
     split at hs
     ·cases hs;cases yj
     ·cases hs
      cases yj
      rw[Dl hn (j:=j) (fun e=>hwr (b.length,0,0) (by simp) ⟨e.symm,.inl rfl⟩) (fun x hx e=>hwr x (by simp[hx]) ⟨e,.inl ?_⟩)]
      exact Gu hx
   | none =>
     rw[hn]at hs
     simp only[dN]at hs
     cases op <;> simp only[Xv,reduceCtorEq]at hs
     case alloc T =>
      unfold XD at hs
      (repeat' split at hs) <;> try (cases hs;done)
      cases hs;cases yj
      rw[iW (fun e=>hwr (b.length,0,0) (by simp) ⟨e.symm,.inl rfl⟩)]
     case box T x =>
      unfold JZ at hs
      (repeat' split at hs) <;> try (cases hs;done)
      cases hs;cases yj
      rw[iW (fun e=>hwr (b.length,0,0) (by simp) ⟨e.symm,.inl rfl⟩)]
     case load T x =>
      unfold XI at hs
      (repeat' split at hs) <;> try (cases hs;done)
      cases hs;cases yj
     case store T x y =>
      unfold XF at hs
      (repeat' split at hs) <;> try (cases hs;done)
      rename_i i off he _ u hu _ c0 T0 m0 hg _ s jZ
      cases hs;cases yj
      obtain⟨-,-,h3,h4,h5⟩:=hc
      simp only at hg hwr
      obtain⟨r0,I6,-,fR⟩:=lB hg
      rw[tF I6]
      by_cases mg:i=j
      ·subst mg
       have eh:i<b.length:=(zKO.1 I6).1
       rw[zK2 eh,I6]
       have eo:om r0=c0:=by rcases fR with rfl|⟨s',n',rfl⟩ <;> rfl
       have hcell2:om (tf (Xs c0 off (cells u)) r0)=Xs c0 off (cells u):=by rcases fR with rfl|⟨s',n',rfl⟩ <;> rfl
       have hlen:(Xs c0 off (cells u)).length=c0.length:=by simp[Xs];omega
       simp only[zK7,ob,Dr,eo,hcell2,hlen]
       congr 3
       cases q with
       | none=>rfl
       | some p =>
         have Hf:¬ (off≤p∧p<off+s):=fun hh=>hwr (i,off,s) (by simp) ⟨rfl,.inr ⟨p,rfl,hh.1,hh.2⟩⟩
         simp only[Xs]
         rcases zLg p off with aB|rU
         ·rw[List.append_assoc,zKT (by simp;omega),List.getElem?_take,if_pos aB]
         ·have hge2:off+s≤p:=by omega
          rw[zKZ (by simp;omega),List.getElem?_drop]
          congr 1
          simp
          omega
      ·rw[zKV mg]
     case build T ps =>
      unfold XB at hs
      (repeat' split at hs) <;> (try simp only[pq]at hs) <;> cases hs
      cases yj
     case nilCheck x =>
      unfold JY at hs
      (repeat' split at hs) <;> (try simp only[pq]at hs) <;> cases hs
      all_goals cases yj
     case call cl =>
      obtain⟨callee,args,ts⟩:=cl
      cases callee <;> simp only[reduceCtorEq]at hs
      unfold XK at hs
      (repeat' split at hs) <;> cases hs
end
open Go Go.RowKit Wf
section
variable {V:Cx} {F:Fx V}
def bV:jU:=⟨.v undef,none,false,[],[]⟩
def vX (F:Fx V)(ops:Array Oper)(i:Nat)(ti:List (Nat × SV))(bi:List ax)(r:jU):Prop :=
 ∀ (Q:Exit→Act→World→Prop) (K:Act→World→Prop) (a:Act) (w:World) (t':List (Nat × SV)) (b':List ax) (o:Oper),ops[i]? = some o →
  (∀ d∈o.looksAt ops,lk d t'=lk d ti)→(r.nb.isSome=true→b'=bi)→(r.nb=none→∀ x∈r.rd,seen x bi b')→Rel F ⟨t',b'⟩ a w →
  (∀ a' w',Rel F ⟨put o.dst r.x t',r.nb.getD b'⟩ a' w'→K a' w')→wpOp V.P ops Q i K a w
def ij (ops:Array Oper)(k:Nat):Option Tmp:=(ops[k]?).bind (·.dst)
def uS (ops:Array Oper)(recs:List jU)(k:Nat)(t:List (Nat × SV)):List (Nat × SV):=put (ij ops k) (recs.getD k bV).x t
theorem xE {t t':List (Nat × SV)}{b:List ax}{a:Act}{w:World}(h:Rel F ⟨t,b⟩ a w)(e:∀ d,lk d t'=lk d t):Rel F ⟨t',b⟩ a w:=by
 obtain⟨β,fp,hf,hw⟩:=h
 exact⟨β,fp,⟨fun β' hβ=>⟨(hf.ok β' hβ).size,(hf.ok β' hβ).defers,fun d x hd=>(hf.ok β' hβ).get d x (by rw[← e];exact hd)⟩⟩,hw⟩
theorem Ib {σ:St}{a:Act}{w:World}(h:Rel F σ a w):Rel F σ a w.drew:=by
 obtain⟨β,fp,hf,hw⟩:=h
 exact⟨β,fp,hf,hw.drew⟩
theorem kM (d:Nat)(dst:Option Tmp)(x:SV)(t:List (Nat × SV)):lk d (put dst x t)=if dst=some d then some x else lk d t:=by
 cases dst with
 | none=>simp[put]
 | some e =>
   simp only[put,lk,zK0.injEq]
   by_cases h:d=e
   ·subst h;simp
   ·rw[if_neg h,if_neg (fun q=>h q.symm)]
theorem ju {d:Nat}{dst:Option Tmp}{x:SV}{t t':List (Nat × SV)}(h:lk d t=lk d t'):lk d (put dst x t)=lk d (put dst x t'):=by
 rw[kM,kM,h]
theorem gm {ops:Array Oper}{D:Nat→Bool}(dB:∀ i o,ops[i]? = some o→D i=true→∀ e∈o.after,Region.binds .any e=true→D e.on=true) :
 ∀ (f i k:Nat),kT ops f i k=true→(∀ o,ops[i]? = some o→∀ e∈o.after,Region.binds .any e=true→D e.on=true)→D k=true
 | 0,i,k,h,_=>by simp[kT]at h
 | f+1,i,k,h,hp=>by
   simp only[kT]at h
   split at h
   ·rename_i o ho
    obtain⟨e,he,h⟩:=Array.any_eq_true'.1 h
    simp only[zKP,zKQ,beq_iff_eq]at h
    obtain⟨hb,h⟩:=h
    have hon:=hp o ho e he hb
    rcases h with rfl|h
    ·exact hon
    ·exact gm dB f e.on k h (fun o' ho'=>dB e.on o' ho' hon)
   ·cases h
theorem DA (m j:Nat):(zLl m false).getD j false=false:=by
 rcases zLg j m with h|h <;> simp[h]
def pY (Y:Nat):SV:=.v (.pointer (some ⟨Y,0,none⟩))
def Fx.at (F:Fx V){β:Nat→Bt}{fp:Nat→Nat→Prop}{b:List ax}{w:World}(h:Wd F β fp b w):Fx V :=
 ⟨F.n,w,fun k=>∃ i r,b[i]? = some r∧r.cr=true∧fp i k,h.env,fun k ⟨i,r,hi,hm,hk⟩=>(h.cr i r hi hm k hk).elim (fun h1=>zLp (V.oZ _ F.e0) h1) (fun h1=>F.ownG k h1),β,b,fun k=>∃ i r,b[i]? = some r∧fp i k⟩
theorem Wd.here {β:Nat→Bt}{fp:Nat→Nat→Prop}{b:List ax}{w:World}(h:Wd F β fp b w):Wd (F.at h) β fp b w:=⟨mW.refl _ _,h.bx,fun i r hi hm k hk=>.inr ⟨i,r,hi,hm,hk⟩,⟨bw.refl _ _,zK1 _⟩,fun i r hi k hk=>.inr ⟨i,r,hi,hk⟩⟩
theorem Wd.join {b b₂:List ax}{w w':World}{β β₂:Nat→Bt}{fp fp₂:Nat→Nat→Prop}(h:Wd F β fp b w)(h2:Wd (F.at h) β₂ fp₂ b₂ w'):Wd F β₂ fp₂ b₂ w':=by
 have jZ:=h2.fr.size
 refine⟨⟨h2.fr.os.trans h.fr.os,h2.fr.tape.trans h.fr.tape,h2.fr.output.trans h.fr.output,zLp h.fr.size jZ,fun k hk hn=>?_⟩,h2.bx,fun i r hi hm k hk=>?_,?_,fun i r hi k hk=>?_⟩
 ·rw[h2.fr.block k (zK4 hk h.fr.size) (fun⟨i,r,hi,hm,hk'⟩=>?_)]
  ·exact h.fr.block k hk hn
  ·rcases h.cr i r hi hm k hk' with h1|h1
   ·omega
   ·exact hn h1
 ·rcases h2.cr i r hi hm k hk with h1|⟨j,r0,hj,hm0,wk⟩
  ·exact .inl (zLp h.fr.size h1)
  ·exact h.cr j r0 hj hm0 k wk
 ·exact⟨fun i hi=>(h.tO.Ai i hi).trans (h2.tO.Ai i (zK4 hi h.tO.len)),zLp h.tO.len h2.tO.len⟩
 ·rcases h2.mi i r hi k hk with h1|⟨j,r0,hj,wk⟩
  ·exact .inl (zLp h.fr.size h1)
  ·exact h.mi j r0 hj k wk
theorem Wd.adopt {β:Nat→Bt}{fp:Nat→Nat→Prop}{w:World}{b:List ax}(h:Wd F β fp b w)(r:ax)(t:Bt)(f:Nat→Prop)
 (hr:∀ β',bw (b.length+1) (mY β b.length t) β'→Holds β' t f w r) (hf:∀ k,f k→F.w0.heap.size≤k∧k<w.heap.size∧∀ i r,b[i]? = some r→¬ fp i k) :
 Wd F (mY β b.length t) (oJ fp b.length f) (b++[r]) w:=by
 have old:∀ {i r'},(b++[r])[i]? = some r'→(i<b.length∧b[i]? = some r')∨(i=b.length∧r'=r):=fun {i r'} hi=>by
  rcases zLg i b.length with aB|rU
  ·rw[zKT aB]at hi;exact .inl ⟨aB,hi⟩
  ·have hi':i=b.length:=by
    have:=(zKO.1 hi).1
    rw[zKX,zK3]at this
    omega
   subst hi'
   rw[zKZ (zK1 _)]at hi
   simp at hi
   exact .inr ⟨rfl,hi.symm⟩
 have fo:∀ {i},i<b.length→oJ fp b.length f i=fp i:=fun {i} hi=>by funext k;simp[oJ,show i≠b.length by omega]
 have fn:oJ fp b.length f b.length=f:=by funext k;simp[oJ]
 refine⟨h.fr,fun β' hβ=>?_,fun i r' hi hm k hk=>?_,?_,fun i r' hi k hk=>?_⟩
 ·rw[zKX,zK3]at hβ
  have hb':=h.bx β' hβ.dy
  have lp:β' b.length=t:=by rw[← hβ b.length (by omega),gh]
  refine⟨fun i r' hi=>?_,fun i r' hi k hk=>?_,fun i j r1 r2 hi hj bn hm k hk hk'=>?_⟩
  ·rcases old hi with⟨aB,hi⟩|⟨rfl,rfl⟩
   ·rw[fo aB];exact hb'.holds i r' hi
   ·rw[fn,lp];exact hr β' hβ
  ·rcases old hi with⟨aB,hi⟩|⟨rfl,rfl⟩
   ·rw[fo aB]at hk;exact hb'.lt i r' hi k hk
   ·rw[fn]at hk;exact(hf k hk).2.1
  ·rcases old hi with⟨aB,GD⟩|⟨ei,e1⟩
   ·rcases old hj with⟨hlt',iz⟩|⟨ej,e2⟩
    ·rw[fo aB]at hk;rw[fo hlt']at hk';exact hb'.sep i j r1 r2 GD iz bn hm k hk hk'
    ·rw[ej]at hk'
     rw[fo aB]at hk;rw[fn]at hk'
     exact(hf k hk').2.2 i r1 GD hk
   ·rcases old hj with⟨hlt',iz⟩|⟨ej,e2⟩
    ·rw[ei]at hk
     rw[fn]at hk;rw[fo hlt']at hk'
     exact(hf k hk).2.2 j r2 iz hk'
    ·exact bn (ei.trans ej.symm)
 ·rcases old hi with⟨aB,hi⟩|⟨rfl,rfl⟩
  ·rw[fo aB]at hk;exact h.cr i r' hi hm k hk
  ·rw[fn]at hk;exact .inl (hf k hk).1
 ·have hl:=h.tO.len
  exact⟨fun i hi=>(h.tO.Ai i hi).trans (ez β _ _ i (by omega)),by rw[zKX];omega⟩
 ·rcases old hi with⟨aB,hi⟩|⟨rfl,rfl⟩
  ·rw[fo aB]at hk;exact h.mi i r' hi k hk
  ·rw[fn]at hk;exact .inl (hf k hk).1
structure FlD where
 d:Nat→Nat
 z:Nat→List SV
 T:Nat→TypeId
 L:Nat→Nat
 q:Nat→Option (Nat × Nat)
def flR (q:Option (Nat × Nat))(z:List SV)(T:TypeId):ax:=match q with
 | none=>.cells z T true
 | some (s,n)=>.own z T s n true
def flV (q:Option (Nat × Nat))(L:Nat):SV:=match q with
 | none=>.p L 0
 | some (_,n)=>.o L n
def flB (q:Option (Nat × Nat))(Y:Nat):Bt:=match q with
 | none=>⟨Y,0,0⟩
 | some (_,n)=>⟨Y,0,n+1⟩
def GS (q:Option (Nat × Nat))(Y:Nat):SV:=match q with
 | none=>pY Y
 | some (_,n)=>.v (.slice (some ⟨Y,0,none⟩) n n)
def flW (q:Option (Nat × Nat))(z:List SV):Prop:=match q with
 | none=>True
 | some (s,n)=>z.length=n * s∧n≤maxLen
theorem JJ {q:Option (Nat × Nat)}{z:List SV}{T:TypeId}{Y:Nat}{β':Nat→Bt}{w:World}(hq:flW q z)(h:w.heap[Y]? = some (.cells (z.map (ah β')).toArray T)):Holds β' (flB q Y) (·=Y) w (flR q z T):=by
 cases q with
 | none=>exact⟨rfl,⟨[],(0,0),⟨by rw[zLm];exact h,.inr (zK1 _)⟩,rfl⟩,fun k=>Iff.rfl⟩
 | some p =>
   obtain⟨s,n⟩:=p
   exact dF (rest:=[]) (fz:=(0,0)) (by rw[zLm];exact h) (.inr (.inl (zK1 _))) hq.1 (zK1 _) hq.2 (by simpa using hq.1)
theorem fl_conc {q:Option (Nat × Nat)}{Y L:Nat}{β' β:Nat→Bt}(h:β' L=flB q Y):ah β (GS q Y)=ah β' (flV q L):=by
 cases q with
 | none=>simp[ah,pY,GS,flV,h,flB]
 | some p=>obtain⟨s,n⟩:=p;simp[ah,GS,flV,h,flB,oV]
theorem JK {q:Option (Nat × Nat)}{Y:Nat}(β β':Nat→Bt):ah β (GS q Y)=ah β' (GS q Y):=by
 cases q with
 | none=>simp[ah,pY,GS]
 | some p=>obtain⟨s,n⟩:=p;simp[ah,GS]
def vY (F:Fx V)(G:FlD)(A:Nat→Bool)(t:List (Nat × SV))(b:List ax)(a:Act)(w:World):Prop:=∃ (β:Nat→Bt) (fp:Nat→Nat→Prop) (Y:Nat→Nat) (tt:List (Nat × SV)),
 Fm F β b.length tt a∧Wd F β fp b w ∧
 (∀ k,A k=true→lk (G.d k) tt=some (GS (G.q k) (Y k))∧lk (G.d k) t=some (flV (G.q k) (G.L k))∧F.w0.heap.size≤Y k∧Y k<w.heap.size∧(∀ β',bw b.length β β'→w.heap[Y k]? = some (.cells ((G.z k).map (ah β')).toArray (G.T k)))∧∀ i r,b[i]? = some r→¬ fp i (Y k)) ∧
 (∀ k l,A k=true→A l=true→k≠l→Y k≠Y l)∧∀ e,(∀ k,A k=true→G.d k≠e)→lk e tt=lk e t
theorem vY.none {G:FlD}{A:Nat→Bool}{t:List (Nat × SV)}{b:List ax}{a:Act}{w:World}(h:vY F G A t b a w)(hA:∀ k,A k=false):Rel F ⟨t,b⟩ a w:=by
 obtain⟨β,fp,Y,tt,hf,hw,-,-,hl⟩:=h
 exact xE ⟨β,fp,hf,hw⟩ (fun d=>(hl d (fun k hk=>by rw[hA k]at hk;cases hk)).symm)
theorem vY.take {G:FlD}{A A':Nat→Bool}{t:List (Nat × SV)}{b:List ax}{a:Act}{w:World}(h:vY F G A t b a w){c:Nat}(hc:A c=true)(hA:∀ k,A' k=true→A k=true∧k≠c)(hA2:∀ k,A k=true→k≠c→A' k=true)(hL:G.L c=b.length)
 (hz:flW (G.q c) (G.z c)) (hd:∀ k,A k=true→k≠c→G.d k≠G.d c):vY F G A' t (b++[flR (G.q c) (G.z c) (G.T c)]) a w:=by
 obtain⟨β,fp,Y,tt,hf,hw,hy,hdis,hl⟩:=h
 obtain⟨g1,g2,g3,g4,g5,g6⟩:=hy c hc
 have eD:=hw.adopt (flR (G.q c) (G.z c) (G.T c)) (flB (G.q c) (Y c)) (·=Y c) (fun β' hβ=>JJ hz (g5 β' hβ.dy)) (fun k hk=>by subst hk;exact⟨g3,g4,g6⟩)
 refine⟨_,_,Y,(G.d c,flV (G.q c) b.length)::tt,⟨fun β' hβ=>?_⟩,eD,fun k hk=>?_,fun k l hk hl' bn=>hdis k l (hA k hk).1 (hA l hl').1 bn,fun e he=>?_⟩
 ·rw[zKX,zK3]at hβ
  have h0:=hf.ok β' hβ.dy
  refine⟨h0.size,h0.defers,fun d x hd=>?_⟩
  simp only[lk]at hd
  split at hd
  ·rename_i e
   subst e
   cases hd
   rw[h0.get _ _ g1]
   exact fl_conc (by rw[← hβ b.length (by omega),gh])
  ·exact h0.get d x hd
 ·obtain⟨hO,eW⟩:=hA k hk
  obtain⟨q1,q2,q3,q4,q5,q6⟩:=hy k hO
  refine⟨?_,q2,q3,q4,fun β' hβ=>q5 β' (by rw[zKX,zK3]at hβ;exact hβ.dy),fun i r hi qN=>?_⟩
  ·simp only[lk];rw[if_neg (hd k hO eW)];exact q1
  ·rcases zLg i b.length with aB|rU
   ·rw[zKT aB]at hi
    exact q6 i r hi (by simpa[oJ,show i≠b.length by omega] using qN)
   ·have hi':i=b.length:=by
     have:=(zKO.1 hi).1
     rw[zKX,zK3]at this
     omega
    subst hi'
    have:Y k=Y c:=by simpa[oJ] using qN
    exact hdis k c hO hc eW this
 ·simp only[lk]
  split
  ·rename_i e1
   rw[e1,g2,hL]
  ·rename_i e1
   refine hl e (fun k hk=>?_)
   by_cases Jg:k=c
   ·subst Jg;exact fun q=>e1 q.symm
   ·exact he k (hA2 k hk Jg)
theorem JU {ops:Array Oper}{recs:List jU}{a0:Act}{w:World}{t0:List (Nat × SV)}{b0:List ax}{Q:Exit→Act→World→Prop}(G:FlD)(T:Nat→List (Nat × SV))(B:Nat→List ax)(hT0:∀ d,lk d (T 0)=lk d t0)(pR:B 0=b0)
 (hT:∀ i,i<ops.size→∀ d,lk d (T (i+1))=lk d (put (ij ops i) (recs.getD i bV).x (T i)))
 (hB:∀ i,i<ops.size→B (i+1)=(recs.getD i bV).nb.getD (B i))
 (GA:∀ i,i<ops.size→∀ F':Fx V,F'.n=F.n→vX F' ops i (T i) (B i) (recs.getD i bV)) (IW:∀ i,i<ops.size→UnE (recs.getD i bV) (B i))
 (mI:∀ k,eC ops k=true→ij ops k=some (G.d k)∧G.d k<F.n∧G.L k=(B k).length∧(∃ W,recs.getD k bV=⟨flV (G.q k) (B k).length,some (B k++[flR (G.q k) (G.z k) (G.T k)]),false,[],W⟩)∧flW (G.q k) (G.z k)∧∃ o,ops[k]? = some o∧o.guard=none ∧
   ∀ (β:Nat→Bt) (m:Nat) (tt:List (Nat × SV)) (a:Act) (w:World),Fm F β m tt a→(∀ d∈o.looksAt ops,lk d tt=lk d (T k))→∀ β',bw m β β'→(execOp a.eval o).run V.P w=Result.ok (.value (ah ke (GS (G.q k) w.heap.size))) (w.alloc (.cells ((G.z k).map (ah β')).toArray (G.T k))))
 (hlen:recs.length=ops.size) (hc:Kg ops (recs.map fun r=>⟨r.nb.isSome,r.all,r.rd,r.wr⟩)) (hr:Rel F ⟨t0,b0⟩ a0 w)
 (hQ:∀ a w',Rel F ⟨T ops.size,B ops.size⟩ a w'→Q .normal a w'):wpAny V.P .any ops Q ops.size (zLl ops.size false) a0 { w with drawn:=w.drawn+1 }:=by
 simp only[Kg,zKP]at hc
 obtain⟨hc,hah⟩:=hc
 let n:=ops.size
 let isS:Nat→Prop:=fun k=>(recs.getD k bV).nb.isSome=true
 have hrk:∀ k,k<n→(((recs.map fun r=>(⟨r.nb.isSome,r.all,r.rd,r.wr⟩:Rk))[k]?).getD wG)=⟨(recs.getD k bV).nb.isSome,(recs.getD k bV).all,(recs.getD k bV).rd,(recs.getD k bV).wr⟩:=fun k hk=>by
  have hk':k<recs.length:=by rw[hlen];exact hk
  simp[zKY,zLc hk']
 have I9:∀ i k,i<n→k<n→k≠i→uv ops (recs.map fun r=>(⟨r.nb.isSome,r.all,r.rd,r.wr⟩:Rk)) i k=true:=fun i k hi hk bn=>by
  have h1:=zKS.1 (zKS.1 hc i (zK5.2 hi)) k (zK5.2 hk)
  simp only[zKQ,beq_iff_eq]at h1
  rcases h1 with h1|h1
  ·exact absurd h1 bn
  ·exact h1
 have I7:∀ i k,k<n→za ops (recs.map fun r=>(⟨r.nb.isSome,r.all,r.rd,r.wr⟩:Rk)) i k=true→eC ops k=true→k<i→∀ j,j<k→isS j→kT ops ops.size i j=true:=fun i k hk hp hf jb j hj hs=>by
  unfold za at hp
  rw[hf,decide_eq_true jb]at hp
  simp only[Bool.and_self,Bool.not_true,Bool.false_or]at hp
  have h1:=zKS.1 hp j (zK5.2 hj)
  rw[hrk j (by omega)]at h1
  have hs':(recs.getD j bV).nb.isSome=true:=hs
  have h1:(!((recs.getD j bV).nb.isSome)||kT ops ops.size i j)=true:=h1
  rw[hs',Bool.not_true,Bool.false_or]at h1
  exact h1
 -- what must be ordered
 have I0:∀ i k,i<n→k<n→k≠i→sy ops i k=true→tW ops i k=true∧(eC ops k=true→k<i→∀ j,j<k→isS j→kT ops ops.size i j=true):=fun i k hi hk bn GK=>by
  have h1:=I9 i k hi hk bn
  unfold uv at h1
  rw[if_pos GK,zKP]at h1
  exact⟨h1.1,I7 i k hk h1.2⟩
 have hSS:∀ i k,k<i→i<n→isS i→isS k→eC ops i=false→kT ops ops.size i k=true:=fun i k jb hi hsi C5 hnf=>by
  have h1:=I9 i k hi (by omega) (by omega)
  have hmax:max i k=i:=by omega
  unfold uv at h1
  rw[hrk i hi,hrk k (by omega)]at h1
  have e1:(recs.getD i bV).nb.isSome=true:=hsi
  have e2:(recs.getD k bV).nb.isSome=true:=C5
  split at h1
  ·rw[zKP]at h1
   have:=h1.1
   unfold tW at this
   rwa [if_pos jb]at this
  ·rw[if_pos (by simp only[e1,e2,Bool.and_self]),hmax,hnf,Bool.false_or]at h1
   unfold tW at h1
   rwa [if_pos jb]at h1
 have wY:∀ i k,i<n→k<n→k≠i→¬ isS i→isS k→∀ x∈(recs.getD i bV).rd,((recs.getD k bV).all=true∨∃ y∈(recs.getD k bV).wr,ovl x y=true)→tW ops i k=true∧(eC ops k=true→k<i→∀ j,j<k→isS j→kT ops ops.size i j=true):=fun i k hi hk bn hnsi hs x hx GK=>by
  have h1:=I9 i k hi hk bn
  unfold uv at h1
  rw[hrk i hi,hrk k hk]at h1
  have e1:(recs.getD i bV).nb.isSome=false:=by
   cases h:(recs.getD i bV).nb.isSome with
   | false=>rfl
   | true=>exact absurd h hnsi
  split at h1
  ·rw[zKP]at h1
   exact⟨h1.1,I7 i k hk h1.2⟩
  ·rw[if_neg (by simp only[e1,Bool.false_and];simp),if_pos (by
    simp only[zKP,Bool.not_eq_true']
    refine⟨hs,?_⟩
    cases hl:(recs.getD i bV).rd with
    | nil=>rw[hl]at hx;cases hx
    | cons _ _=>rfl)]at h1
   simp only[zKQ,Bool.not_eq_true',zKP]at h1
   rcases h1 with h1|h1
   ·exact⟨h1.1,I7 i k hk h1.2⟩
   ·exfalso
    simp only[Bool.or_eq_false_iff]at h1
    rcases GK with GK|⟨y,hy,hxy⟩
    ·rw[GK]at h1;cases h1.1
    ·have:mB (recs.getD i bV).rd (recs.getD k bV).wr=true:=by
      unfold mB
      exact zK9.2 ⟨x,hx,zK9.2 ⟨y,hy,hxy⟩⟩
     rw[this]at h1
     cases h1.2
 have Cd:∀ k,eC ops k=true→k<n:=fun k hk=>by
  obtain⟨-,-,-,-,-,o,ho,-⟩:=mI k hk
  exact(zKR.1 ho).1
 have hflS:∀ k,eC ops k=true→isS k:=fun k hk=>by
  obtain⟨-,-,-,⟨_,I3⟩,-⟩:=mI k hk
  show (recs.getD k bV).nb.isSome=true
  rw[I3];rfl
 -- the run in the text's order
 have hTf:∀ i,i≤n→∀ d,lk d (T i)=lk d (cP (uS ops recs) (rH i) i t0):=fun i=>by
  induction i with
  | zero=>intro _ d;exact hT0 d
  | succ i ih =>
    intro hi d
    rw[hT i (by omega) d,xb]
    exact ju (ih (by omega) d)
 have huS:∀ d k (s s':List (Nat × SV)),lk d s=lk d s'→lk d (uS ops recs k s)=lk d (uS ops recs k s'):=fun d k s s' h=>ju h
 have hchS:∀ d k,(∃ s,lk d (uS ops recs k s)≠lk d s)→ij ops k=some d:=fun d k ⟨s,hs⟩=>by
  unfold uS at hs
  rw[kM]at hs
  by_cases h:ij ops k=some d
  ·exact h
  ·rw[if_neg h]at hs;exact absurd rfl hs
 have hidN:∀ k,¬ isS k→∀ b,(recs.getD k bV).nb.getD b=b:=fun k hs b=>by
  cases h:(recs.getD k bV).nb with
  | none=>rfl
  | some x=>exact absurd (by show ((recs.getD k bV).nb).isSome=true;rw[h];rfl) hs
 let AS:(Nat→Bool)→Nat→Nat→Bool:=fun D c k=>eC ops k&&(D k&&decide (c≤k))
 have hdis:∀ k l,eC ops k=true→eC ops l=true→k≠l→G.d k=G.d l→∀ (D:Nat→Bool),(∀ i o,ops[i]? = some o→D i=true→∀ e∈o.after,Region.binds .any e=true→D e.on=true)→D k=true→D l=true→∀ c,c<n→D c=false→isS c→c≤k→c≤l→False:=fun k l hk hl bn he D dB hDk hDl c Jq Ht iM Js hcl'=>by
  -- the later one comes behind all that is ahead of the earlier one
  have key:∀ k l,eC ops k=true→eC ops l=true→k<l→G.d k=G.d l→D k=true→D l=true→c≤k→False:=fun k l hk hl ym he hDk hDl Js=>by
   obtain⟨Fk,-⟩:=mI k hk
   obtain⟨pQ,-,-,-,-,o,ho,-⟩:=mI l hl
   have hs:sy ops l k=true:=by
    unfold sy
    unfold ij at Fk
    rw[Fk,ho]
    have:o.dst=some (G.d l):=by unfold ij at pQ;rw[ho]at pQ;exact pQ
    simp[this,he]
   obtain⟨-,h2⟩:=I0 l k (Cd l hl) (Cd k hk) (by omega) hs
   have hck':c≠k:=fun e=>by rw[← e,Ht]at hDk;cases hDk
   have:=gm dB _ l c (h2 hk ym c (by omega) iM) (fun o' ho'=>dB l o' ho' hDl)
   rw[Ht]at this;cases this
  rcases Nat.lt_or_gt_of_ne bn with h|h
  ·exact key k l hk hl h he hDk hDl Js
  ·exact key l k hl hk h he.symm hDl hDk hcl'
 -- those that are next are counted
 have hadv:∀ (D:Nat→Bool) (a:Act) (w:World) (t:List (Nat × SV)),(∀ i o,ops[i]? = some o→D i=true→∀ e∈o.after,Region.binds .any e=true→D e.on=true)→∀ (m c:Nat),c+m=n→(∀ k,k<c→isS k→D k=true)→(∀ k,c≤k→k<n→isS k→D k=true→eC ops k=true) →
  (∀ k l,AS D c k=true→AS D c l=true→k≠l→G.d k≠G.d l)→vY F G (AS D c) t (B c) a w→∃ c',c'≤n∧(∀ k,k<c'→isS k→D k=true)∧(c'<n→isS c'∧D c'=false)∧vY F G (AS D c') t (B c') a w:=fun D a w t dB m=>by
  induction m with
  | zero =>
    intro c Jq dK _ _ hrel
    exact⟨c,by omega,dK,fun h=>by omega,hrel⟩
  | succ m ih =>
    intro c Jq dK Ce hdd hrel
    by_cases hs:isS c
    ·cases hD:D c with
     | false=>exact⟨c,by omega,dK,fun _=>⟨hs,hD⟩,hrel⟩
     | true =>
       have hf:=Ce c (zK1 _) (by omega) hs hD
       obtain⟨-,-,hL,⟨_,I3⟩,hW,-⟩:=mI c hf
       have hBc:B (c+1)=B c++[flR (G.q c) (G.z c) (G.T c)]:=by rw[hB c (by omega),I3];rfl
       have hAc:AS D c c=true:=by simp[AS,hf,hD]
       have hA1:∀ k,AS D (c+1) k=true→AS D c k=true∧k≠c:=fun k hk=>by
        simp only[AS,zKP,decide_eq_true_eq]at hk ⊢
        exact⟨⟨hk.1,hk.2.1,by omega⟩,by omega⟩
       refine ih (c+1) (by omega) (fun k hk C5=>?_) (fun k hk=>Ce k (by omega)) (fun k l hk hl=>hdd k l (hA1 k hk).1 (hA1 l hl).1) ?_
       ·rcases Nat.lt_or_eq_of_le (Nat.lt_succ_iff.1 hk) with h1|rfl
        ·exact dK k h1 C5
        ·exact hD
       ·rw[hBc]
        refine hrel.take hAc hA1 (fun k hk bn=>?_) hL hW (fun k hk bn=>hdd k c hk hAc bn)
        simp only[AS,zKP,decide_eq_true_eq]at hk ⊢
        exact⟨hk.1,hk.2.1,by omega⟩
    ·have hBc:B (c+1)=B c:=by rw[hB c (by omega)];exact hidN c hs _
     have GL:AS D (c+1)=AS D c:=by
      funext k
      by_cases hk:eC ops k=true
      ·have bn:k≠c:=fun e=>hs (e ▸ hflS k hk)
       simp only[AS]
       congr 2
       exact decide_eq_decide.2 ⟨fun h=>by omega,fun h=>by omega⟩
      ·simp only[AS,Bool.not_eq_true]at hk ⊢
       rw[hk];rfl
     refine ih (c+1) (by omega) (fun k hk C5=>?_) (fun k hk=>Ce k (by omega)) (by rw[GL];exact hdd) (by rw[hBc,GL];exact hrel)
     rcases Nat.lt_or_eq_of_le (Nat.lt_succ_iff.1 hk) with h1|rfl
     ·exact dK k h1 C5
     ·exact absurd C5 hs
 let Inv:(Nat→Bool)→Act→World→Prop:=fun D a w=>(∃ c,c≤n∧(∀ k,k<c→isS k→D k=true)∧(c<n→isS c∧D c=false)∧vY F G (AS D c) (cP (uS ops recs) D n t0) (B c) a w)∧(∀ i o,ops[i]? = some o→D i=true→∀ e∈o.after,Region.binds .any e=true→D e.on=true)
 refine FU Inv ?_ ?_ ops.size _ a0 _ (by simp) (by simp) ?_
 ·rintro listed a w i jZ ⟨⟨c,Jq,dK,kP,hrel⟩,dB⟩ hi
  obtain⟨hun1,o,ho,aR⟩:=mem_ready.1 hi
  have nW:i<n:=(zKR.1 ho).1
  have hDi:listed.getD i false=false:=by
   have:i<listed.size:=by rw[jZ];exact nW
   simp[this]at hun1 ⊢;exact hun1
  have Hf:∀ o',ops[i]? = some o'→∀ e∈o'.after,Region.binds .any e=true→listed.getD e.on false=true:=fun o' ho' e he hb=>by
   rw[ho]at ho';cases ho';exact aR e he hb
  obtain⟨D,hDD⟩:∃ D:Nat→Bool,D=fun k=>listed.getD k false:=⟨_,rfl⟩
  have hDk:∀ k,listed.getD k false=D k:=fun k=>by rw[hDD]
  rw[← hDD]at hrel dB ⊢
  rw[hDk]at hDi
  simp only[hDk]at Hf dK kP
  have Jr:∀ l o',ops[l]? = some o'→eM D i l=true→∀ e∈o'.after,Region.binds .any e=true→eM D i e.on=true:=by
   intro l o' ho' hl e he hb
   simp only[eM,zKQ,decide_eq_true_eq]at hl ⊢
   rcases hl with hl|rfl
   ·exact .inl (dB l o' ho' hl e he hb)
   ·exact .inl (Hf o' ho' e he hb)
  have order:∀ k,k<n→k≠i→tW ops i k=true→D k=decide (k<i):=fun k hk bn h1=>by
   unfold tW at h1
   split at h1
   ·rename_i aB
    rw[decide_eq_true aB]
    exact gm dB _ i k h1 Hf
   ·rename_i aB
    rw[decide_eq_false aB]
    cases hD:D k with
    | false=>rfl
    | true =>
      have:=gm dB _ k i h1 (fun o' ho'=>dB k o' ho' hD)
      rw[hDi]at this
      cases this
  have Jp:∀ d,(d∈o.looksAt ops∨o.dst=some d)→∀ k,k<n→(∃ s,lk d (uS ops recs k s)≠lk d s)→D k=decide (k<i):=fun d hd k hk hch=>by
   by_cases jb:k=i
   ·subst jb;rw[hDi];simp
   ·refine order k hk jb (I0 i k nW hk jb ?_).1
    unfold sy
    have:=hchS d k hch
    unfold ij at this
    rw[this,ho]
    simp only[zKQ,zLi,beq_iff_eq]
    exact hd
  have Je:∀ d,d∈o.looksAt ops→lk d (cP (uS ops recs) D n t0)=lk d (T i):=fun d hd=>by
   rw[hTf i (Nat.le_of_lt nW) d]
   exact JF (uS ops recs) (lk d) (huS d) D n i t0 (Nat.le_of_lt nW) (Jp d (.inl hd))
  have e1:∀ d,lk d (cP (uS ops recs) (eM D i) n t0)=lk d (put o.dst (recs.getD i bV).x (cP (uS ops recs) D n t0)):=fun d=>by
   have hd:ij ops i=o.dst:=by unfold ij;rw[ho];rfl
   have:=JH (uS ops recs) (lk d) (huS d) D n i t0 nW hDi (fun hch k hk hk' hD=>by
    have hdd:=hchS d i hch
    rw[hd]at hdd
    have:=Jp d (.inr hdd) k hk hk'
    rw[hD]at this
    exact of_decide_eq_true this.symm)
   rw[this]
   unfold uS
   rw[hd]
  -- what is done of what changes things
  have hmin:∀ k,c≤k→k<n→isS k→D k=true→eC ops k=true:=fun k Js hk hs hD=>by
   cases hf:eC ops k with
   | true=>rfl
   | false =>
     exfalso
     obtain⟨iM,Ht⟩:=kP (by omega)
     have bn:c≠k:=fun e=>by rw[← e,Ht]at hD;cases hD
     have:=gm dB _ k c (hSS k c (by omega) hk hs iM hf) (fun o' ho'=>dB k o' ho' hD)
     rw[Ht]at this
     cases this
  have hA:∀ k,AS D c k=true→eC ops k=true∧D k=true∧c≤k:=fun k hk=>by
   simp only[AS,zKP,decide_eq_true_eq]at hk
   exact hk
  have hnear:∀ k,AS D c k=true→(eC ops k=true→k<i→∀ j,j<k→isS j→kT ops ops.size i j=true)→D k=decide (k<i)→False:=fun k hk h2 h3=>by
   obtain⟨hf,hD,Js⟩:=hA k hk
   have Hk:=Cd k hf
   obtain⟨iM,Ht⟩:=kP (by omega)
   have bn:c≠k:=fun e=>by rw[← e,Ht]at hD;cases hD
   rw[hD]at h3
   have jb:=of_decide_eq_true h3.symm
   have:=gm dB _ i c (h2 hf jb c (by omega) iM) Hf
   rw[Ht]at this
   cases this
  have sa:∀ k,AS D c k=true→G.d k ∉ o.looksAt ops∧o.dst≠some (G.d k):=fun k hk=>by
   obtain⟨hf,hD,Js⟩:=hA k hk
   have Hk:=Cd k hf
   have jb:k≠i:=fun e=>by rw[e,hDi]at hD;cases hD
   have gx:¬ sy ops i k=true:=fun hs=>by
    obtain⟨h1,h2⟩:=I0 i k nW Hk jb hs
    exact hnear k hk h2 (order k Hk jb h1)
   have Fk:=(mI k hf).1
   unfold ij at Fk
   unfold sy at gx
   rw[Fk,ho]at gx
   simp only[zKQ,zLi,beq_iff_eq,not_or]at gx
   exact gx
  have hddD:∀ k l,AS D c k=true→AS D c l=true→k≠l→G.d k≠G.d l:=fun k l hk hl bn he=>by
   obtain⟨hf,hD,Js⟩:=hA k hk
   obtain⟨hf',hD',hck'⟩:=hA l hl
   have Hk:=Cd k hf
   obtain⟨iM,Ht⟩:=kP (by omega)
   exact hdis k l hf hf' bn he D dB hD hD' c (by omega) Ht iM Js hck'
  -- an operation that is no such cell
  have I8:eC ops i=false→((recs.getD i bV).nb.isSome=true→B c=B i)→((recs.getD i bV).nb=none→∀ x∈(recs.getD i bV).rd,seen x (B i) (B c))→∀ c',(recs.getD i bV).nb.getD (B c)=B c'→(∀ k,AS (eM D i) c' k=AS D c k) →
   wpOp V.P ops Q i (fun a' w'=>vY F G (AS (eM D i) c') (cP (uS ops recs) (eM D i) n t0) (B c') a' w') a w:=fun hnf hb ll c' hc' GL=>by
   obtain⟨β,fp,Y,tt,hf,hw,hy,hd,B9⟩:=hrel
   refine GA i nW (F.at hw) rfl Q _ a w tt (B c) o ho (fun d hd'=>(B9 d (fun k hk e=>(sa k hk).1 (by rw[e];exact hd'))).trans (Je d hd')) hb ll ⟨β,fp,⟨hf.ok⟩,hw.here⟩ ?_
   rintro a' w' ⟨β₂,fp₂,GF,eD⟩
   have jZ:w.heap.size≤w'.heap.size:=eD.fr.size
   rw[show (⟨put o.dst (recs.getD i bV).x tt,(recs.getD i bV).nb.getD (B c)⟩:St)=⟨put o.dst (recs.getD i bV).x tt,B c'⟩ by rw[hc']]at GF eD
   refine⟨β₂,fp₂,Y,put o.dst (recs.getD i bV).x tt,⟨GF.ok⟩,hw.join eD,fun k hk=>?_,fun k l hk hl=>hd k l (by rw[← GL];exact hk) (by rw[← GL];exact hl),fun e he=>?_⟩
   ·rw[GL]at hk
    obtain⟨g1,g2,g3,g4,g5,g6⟩:=hy k hk
    have bn:=(sa k hk).2
    refine⟨by rw[kM,if_neg bn];exact g1,by rw[e1,kM,if_neg bn];exact g2,g3,zK4 g4 jZ,fun β' hβ=>(eD.fr.block _ g4 (fun⟨j,r,hj,_,hk⟩=>g6 j r hj hk)).trans (g5 β' (fun i hi=>(eD.tO.Ai i hi).trans (hβ i (zK4 hi eD.tO.len)))),fun j r hj hk=>?_⟩
    rcases eD.mi j r hj _ hk with h1|⟨j',r',hj',hk'⟩
    ·have:w.heap.size≤Y k:=h1
     omega
    ·exact g6 j' r' hj' hk'
   ·rw[e1,kM,kM]
    split
    ·rfl
    ·exact B9 e (fun k hk=>he k (by rw[GL];exact hk))
  have sU:∀ c' k,k≠i→AS (eM D i) c' k=AS D c' k:=fun c' k hk=>by simp[AS,eM,hk]
  by_cases Eg:eC ops i=true
  ·
   have hci:c≤i:=by
    apply Nat.le_of_not_lt
    intro aB
    have:=dK i aB (hflS i Eg)
    rw[hDi]at this;cases this
   obtain⟨hdi,hdn,hLi,⟨_,I3⟩,hW,o',ho',hg,nX⟩:=mI i Eg
   rw[ho]at ho'
   cases ho'
   have yi:o.dst=some (G.d i):=by unfold ij at hdi;rw[ho]at hdi;exact hdi
   have pP:∀ a' w',vY F G (AS (eM D i) c) (cP (uS ops recs) (eM D i) n t0) (B c) a' w'→Inv (eM D i) a' w':=fun a' w' hr'=>by
    refine⟨hadv (eM D i) a' w' _ Jr (n - c) c (by omega) (fun k hk hs=>by simp[eM,dK k hk hs]) (fun k hk Hk hs hD=>?_) (fun k l hk hl bn he=>?_) hr',Jr⟩
    ·by_cases jb:k=i
     ·rw[jb];exact Eg
     ·exact hmin k hk Hk hs (by simpa[eM,jb] using hD)
    ·by_cases jb:k=i
     ·subst jb
      have hl':AS D c l=true:=by rw[← sU c l (fun e=>bn e.symm)];exact hl
      exact(sa l hl').2 (by rw[yi,he])
     ·by_cases Jf:l=i
      ·subst Jf
       have hk':AS D c k=true:=by rw[← sU c k jb];exact hk
       exact(sa k hk').2 (by rw[yi,he])
      ·exact hddD k l (by rw[← sU c k jb];exact hk) (by rw[← sU c l Jf];exact hl) bn he
   refine wpOp_mono (fun a' w' h=>pP a' w' h) ?_
   obtain⟨β,fp,Y,tt,hf,hw,hy,hd,B9⟩:=hrel
   have kU:=ho
   unfold wpOp
   rw[ho]
   simp only
   rw[if_pos (by simp[Region.wanted,hg])]
   left
   have hex:=nX β _ tt a w hf (fun d hd'=>(B9 d (fun k hk e=>(sa k hk).1 (by rw[e];exact hd'))).trans (Je d hd'))
   have bL:=hex β (bw.refl _ _)
   have hall':∀ β',bw (B c).length β β'→(G.z i).map (ah β)=(G.z i).map (ah β'):=fun β' hβ=>by
    have h1:=hex β' hβ
    rw[bL]at h1
    injection h1 with _ h1
    have h2:=congrArg (fun w':World=>w'.heap[w.heap.size]?) h1
    simp only[cC]at h2
    have h3:=(Obj.cells.inj (zK0.inj h2)).1
    exact congrArg Array.toList h3
   have rZ:Below w.heap.size w (w.alloc (.cells ((G.z i).map (ah β)).toArray (G.T i))):=(Below.refl _ _).alloc (zK1 _) _
   have hY:=cC w (.cells ((G.z i).map (ah β)).toArray (G.T i))
   have jZ:(w.alloc (.cells ((G.z i).map (ah β)).toArray (G.T i))).heap.size=w.heap.size+1:=size_alloc _ _
   refine wp_of_value bL ?_
   rw[yi]
   generalize w.alloc (.cells ((G.z i).map (ah β)).toArray (G.T i))=w2 at rZ hY jZ
   refine⟨β,fp,fun k=>if k=i then w.heap.size else Y k,(G.d i,GS (G.q i) w.heap.size)::tt,⟨fun β' hβ=>by rw[JK ke β'];exact(hf.ok β' hβ).put hdn (GS (G.q i) w.heap.size)⟩,hw.below rZ,fun k hk=>?_,fun k l hk hl bn=>?_,fun e he=>?_⟩
   ·by_cases jb:k=i
    ·subst jb
     simp only[if_true]
     refine⟨by simp[lk],?_,hw.fr.size,by omega,fun β' hβ=>by rw[← hall' β' hβ];exact hY,fun j r hj hk=>?_⟩
     ·rw[e1,kM,if_pos yi,I3,hLi]
     ·have:=(hw.bx β (bw.refl _ _)).lt j r hj _ hk
      omega
    ·have hk':AS D c k=true:=by rw[← sU c k jb];exact hk
     obtain⟨g1,g2,g3,g4,g5,g6⟩:=hy k hk'
     have bn:=(sa k hk').2
     simp only[if_neg jb]
     refine⟨?_,?_,g3,by omega,fun β' hβ=>(rZ.block _ g4).trans (g5 β' hβ),g6⟩
     ·simp only[lk]
      rw[if_neg (fun e=>bn (by rw[yi,e]))]
      exact g1
     ·rw[e1,kM,if_neg bn];exact g2
   ·have D1:∀ k,AS (eM D i) c k=true→k≠i→AS D c k=true:=fun k h1 h2=>by rw[← sU c k h2];exact h1
    by_cases k1:k=i
    ·have k2:l≠i:=fun e=>bn (k1.trans e.symm)
     simp only[if_pos k1,if_neg k2]
     have:=(hy l (D1 l hl k2)).2.2.2.1
     omega
    ·by_cases k2:l=i
     ·simp only[if_neg k1,if_pos k2]
      have:=(hy k (D1 k hk k1)).2.2.2.1
      omega
     ·simp only[if_neg k1,if_neg k2]
      exact hd k l (D1 k hk k1) (D1 l hl k2) bn
   ·have bn:G.d i≠e:=he i (by simp[AS,eM,Eg,hci])
    have h1:lk e ((G.d i,GS (G.q i) w.heap.size)::tt)=lk e tt:=by simp only[lk];rw[if_neg (fun q=>bn q.symm)]
    rw[h1,B9 e (fun k hk=>he k (by
     obtain⟨-,hD,-⟩:=hA k hk
     rw[sU c k (fun q=>by rw[q,hDi]at hD;cases hD)];exact hk)),e1,kM,if_neg (fun q=>bn (zK0.inj (yi.symm.trans q)))]
  ·have Eg:eC ops i=false:=by simpa using Eg
   by_cases hs:isS i
   ·
    have hci:c=i:=by
     apply Nat.le_antisymm
     ·apply Nat.le_of_not_lt
      intro aB
      have:=dK i aB hs
      rw[hDi]at this;cases this
     ·apply Nat.le_of_not_lt
      intro aB
      obtain⟨iM,Ht⟩:=kP (by omega)
      have:=gm dB _ i c (hSS i c aB nW hs iM Eg) Hf
      rw[Ht]at this;cases this
    subst hci
    have GL:∀ k,AS (eM D c) (c+1) k=AS D c k:=fun k=>by
     by_cases Jg:k=c
     ·subst Jg;simp[AS,Eg]
     ·simp only[AS,eM,Jg,decide_false,Bool.or_false]
      congr 2
      exact decide_eq_decide.2 ⟨fun h=>by omega,fun h=>by omega⟩
    refine wpOp_mono ?_ (I8 Eg (fun _=>rfl) (fun yj=>by have:(recs.getD c bV).nb.isSome=true:=hs;rw[yj]at this;cases this) (c+1) (hB c nW).symm GL)
    intro a' w' hr'
    refine⟨hadv (eM D c) a' w' _ Jr (n - (c+1)) (c+1) (by omega) (fun k hk C5=>?_) (fun k hk Hk C5 hD=>hmin k (by omega) Hk C5 (by simpa[eM,show k≠c by omega] using hD)) (fun k l hk hl=>hddD k l (by rw[← GL];exact hk) (by rw[← GL];exact hl)) hr',Jr⟩
    rcases Nat.lt_or_eq_of_le (Nat.lt_succ_iff.1 hk) with h1|rfl
    ·simp[eM,dK k h1 C5]
    ·simp[eM]
   ·
    have ll:∀ x∈(recs.getD i bV).rd,seen x (B i) (B c):=fun x hx q hq=>by
     have step:∀ k,k<n→(k<i∧c≤k∨i<k∧k<c)→((B (k+1))[x.1]?).map (ob q)=((B k)[x.1]?).map (ob q):=fun k hk hb=>by
      rw[hB k hk]
      cases yj:(recs.getD k bV).nb with
      | none=>rfl
      | some nb =>
        have C5:isS k:=by show ((recs.getD k bV).nb).isSome=true;rw[yj];rfl
        have bn:k≠i:=by omega
        have gx:¬ ((recs.getD k bV).all=true∨∃ y∈(recs.getD k bV).wr,ovl x y=true):=fun GK=>by
         obtain⟨h1,h2⟩:=wY i k nW hk bn hs C5 x hx GK
         have h3:=order k hk bn h1
         rcases hb with⟨jb,Js⟩|⟨hik,Jg⟩
         ·have hD:D k=true:=by rw[h3];exact decide_eq_true jb
          exact hnear k (by simp only[AS,hmin k Js hk C5 hD,hD,decide_eq_true Js,Bool.and_self]) h2 h3
         ·have:=dK k Jg C5
          rw[h3,decide_eq_false (by omega)]at this
          cases this
        simp only[not_or,not_exists,not_and,Bool.not_eq_true]at gx
        exact IW k hk nb yj gx.1 x.1 q (fun y hy=>Gj (gx.2 y hy) hq)
     have walk:∀ (m p:Nat),p+m≤n→(∀ k,p≤k→k<p+m→((B (k+1))[x.1]?).map (ob q)=((B k)[x.1]?).map (ob q))→((B (p+m))[x.1]?).map (ob q)=((B p)[x.1]?).map (ob q):=fun m p=>by
      induction m with
      | zero=>intro _ _;rfl
      | succ m ih =>
        intro h1 h2
        have:=h2 (p+m) (by omega) (by omega)
        rw[show p+(m+1)=p+m+1 by omega,this]
        exact ih (by omega) (fun k h3 h4=>h2 k h3 (by omega))
     rcases zLg c i with aB|rU
     ·have:=walk (i - c) c (by omega) (fun k h3 h4=>step k (by omega) (.inl ⟨by omega,h3⟩))
      rw[show c+(i - c)=i by omega]at this
      exact this.symm
     ·have hi1:((B (i+1))[x.1]?).map (ob q)=((B i)[x.1]?).map (ob q):=by
       rw[hB i nW,hidN i hs (B i)]
      have:=walk (c - i) i (by omega) (fun k h3 h4=>by
       rcases Nat.lt_or_eq_of_le h3 with h5|rfl
       ·exact step k (by omega) (.inr ⟨h5,by omega⟩)
       ·exact hi1)
      rw[show i+(c - i)=c by omega]at this
      exact this
    have GL:∀ k,AS (eM D i) c k=AS D c k:=fun k=>by
     by_cases jb:k=i
     ·subst jb;simp[AS,Eg]
     ·exact sU c k jb
    refine wpOp_mono ?_ (I8 Eg (fun h=>absurd h hs) (fun _=>ll) c (hidN i hs _) GL)
    intro a' w' hr'
    refine⟨⟨c,Jq,fun k hk C5=>by simp[eM,dK k hk C5],fun aB=>⟨(kP aB).1,?_⟩,hr'⟩,Jr⟩
    have bn:c≠i:=fun e=>hs (e ▸ (kP aB).1)
    simp[eM,bn,(kP aB).2]
 ·rintro listed a w jZ ⟨⟨c,Jq,dK,kP,hrel⟩,dB⟩ hr
  have aR:∀ k,k<n→listed.getD k false=true:=fun k=>by
   induction k using Nat.strongRecOn with
   | _ k ih =>
     intro hk
     cases hl:listed.getD k false with
     | true=>rfl
     | false =>
       exfalso
       obtain⟨o,ho⟩:∃ o,ops[k]? = some o:=⟨ops[k]'hk,by simp[hk]⟩
       have hks:k<listed.size:=by rw[jZ];exact hk
       have:k∈Region.ready .any ops listed:=by
        refine mem_ready.2 ⟨?_,o,ho,fun e he hb=>?_⟩
        ·simp[hks]at hl ⊢;exact hl
        ·have h1:=zKS.1 hah k (zK5.2 hk)
         rw[ho]at h1
         have h2:=Array.all_eq_true'.1 h1 e he
         simp only[hb,Bool.not_true,Bool.false_or,decide_eq_true_eq]at h2
         exact ih e.on h2 (by omega)
       rw[hr]at this
       cases this
  have hce:c=n:=by
   apply Nat.le_antisymm Jq
   apply Nat.le_of_not_lt
   intro aB
   have h1:=(kP aB).2
   have h2:=aR c aB
   simp only at h1
   rw[h2]at h1
   cases h1
  subst hce
  have Fh:=hrel.none (fun k=>by
   cases hf:eC ops k with
   | false=>simp only[AS,hf,Bool.false_and]
   | true =>
     have:=Cd k hf
     show (eC ops k&&(listed.getD k false&&decide (ops.size≤k)))=false
     rw[decide_eq_false (show ¬ ops.size≤k from Nat.not_le.2 this),Bool.and_false,Bool.and_false])
  have e1:=JI (uS ops recs) (fun k=>listed.getD k false) ops.size t0 aR
  have Fh:Rel F ⟨cP (uS ops recs) (fun k=>listed.getD k false) ops.size t0,B ops.size⟩ a w:=Fh
  rw[e1]at Fh
  exact hQ a w (xE Fh (fun d=>hTf ops.size (zK1 _) d))
 ·have e3:(fun k=>(zLl ops.size false).getD k false)=fun _=>false:=funext fun k=>DA _ _
  show Inv _ a0 _
  rw[e3]
  have e:∀ {S:Type} (u:Nat→S→S) (m:Nat) (s:S),cP u (fun _=>false) m s=s:=fun u m s=>by
   induction m with
   | zero=>rfl
   | succ m ih=>simp only[cP];rw[if_neg (by simp),ih]
  obtain⟨β,fp,hf,hw⟩:=hr
  refine⟨?_,fun i o _ h=>by cases h⟩
  have h0:vY F G (AS (fun _=>false) 0) t0 (B 0) a0 w.drew:=by
   rw[pR]
   refine⟨β,fp,fun _=>0,t0,hf,hw.drew,fun k hk=>?_,fun k l hk=>?_,fun _ _=>rfl⟩ <;> simp[AS]at hk
  have:=hadv (fun _=>false) a0 w.drew t0 (fun i o _ h=>by cases h) n 0 (by omega) (fun k hk=>by omega) (fun k _ _ _ h=>by cases h) (fun k l hk=>by simp[AS]at hk) h0
  obtain⟨c,h1,h2,h3,h4⟩:=this
  exact⟨c,h1,h2,h3,by rw[e];exact h4⟩
end
open Go Go.RowKit Wf
section
variable {V:Cx} {F:Fx V}
theorem uR {ops:Array Oper}{o:Oper}{t t':List (Nat × SV)}(h:∀ d∈o.looksAt ops,lk d t'=lk d t):∀ x∈o.op.operands,ev t' x=ev t x:=fun x hx=>by
 cases x with
 | tmp d =>
   simp only[ev]
   refine h d ?_
   unfold Oper.looksAt
   simp only[zLn,List.mem_filterMap]
   exact .inl ⟨.tmp d,zK6.2 hx,rfl⟩
 | const _=>rfl
 | global _=>rfl
 | func _=>rfl
theorem tP:∀ (l:List Oper)(j:Nat),eX l j=(l[j]?).bind (·.dst)
 | [],j=>by simp[eX]
 | o::r,0=>by simp[eX]
 | o::r,j+1=>by simp[eX,tP r j]
theorem Cm {ops:Array Oper}{σt:List (Nat × SV)}{β:Nat→Bt}{a:Act}(hf:jV β F.n σt a){j d:Nat}{b:Bool}(h:Yk σt (eX ops.toList j)=some (d,b)) :
 yielded ops a.tmps j=some b∧a.tmps.getD d undef=.bool b:=by
 refine gval_ok hf ?_
 unfold Yk at h
 split at h
 ·rename_i d' hd
  rw[tP]at hd
  unfold gval
  rw[List.getElem?_map]
  cases ho:ops.toList[j]? with
  | none=>rw[ho]at hd;simp at hd
  | some o =>
    rw[ho]at hd
    simp at hd
    simp only[zK7,hd]
    exact h
 ·cases h
theorem JC {ops:List Oper}{t:List (Nat × SV)}{j:Nat}(h:Ft t (eX ops j)=true):∃ d x,eX ops j=some d∧lk d t=some (.v x)∧nob x=true:=by
 unfold Ft at h
 split at h
 ·rename_i d hd
  split at h
  ·rename_i x hx
   exact⟨d,x,hd,hx,h⟩
  ·cases h
 ·cases h
theorem JB {ops:Array Oper}{σt:List (Nat × SV)}{β:Nat→Bt}{a:Act}(hf:jV β F.n σt a){j d:Nat}{x:Value}(hd:eX ops.toList j=some d)(hx:lk d σt=some (.v x))(hn:nob x=true):yielded ops a.tmps j=none:=by
 have hg:=hf.get _ _ hx
 simp only[ah]at hg
 rw[tP]at hd
 have hd':(ops[j]?).bind (·.dst)=some d:=by simpa using hd
 unfold yielded
 rw[hd']
 simp only[Option.bind_some]
 cases ht:a.tmps[d]? with
 | none=>rfl
 | some y =>
   have:y=x:=by rw[← hg];simp[zLq,ht]
   subst this
   cases y <;> simp[nob]at hn ⊢
theorem GP {ops:List Oper}{t t':List (Nat × SV)}{j d:Nat}{b:Bool}(h:Yk t (eX ops j)=some (d,b))(hl:lk d t'=lk d t):Yk t' (eX ops j)=some (d,b):=by
 unfold Yk at h ⊢
 split at h
 ·rename_i d' hd
  split at h
  ·rename_i b' hb
   cases h
   rw[hl,hb]
  ·cases h
 ·cases h
theorem gval_lk {ops:List Oper}{t:List (Nat × SV)}{j d:Nat}{b:Bool}(h:Yk t (eX ops j)=some (d,b)):lk d t=some (.bool b)∧eX ops j=some d:=by
 unfold Yk at h
 split at h
 ·rename_i d' hd
  split at h
  ·rename_i b' hb
   cases h
   exact⟨hb,hd⟩
  ·cases h
 ·cases h
theorem sV {ops:Array Oper}{o:Oper}{j d:Nat}{want:Bool}(hg:o.guard=some (j,want))(hd:eX ops.toList j=some d):d∈o.looksAt ops:=by
 unfold Oper.looksAt
 rw[hg]
 simp only[zLn]
 right
 rw[tP]at hd
 have:(ops[j]?).bind (·.dst)=some d:=by simpa using hd
 rw[this]
 simp
theorem By {t:List (Nat × SV)}{d:Nat}{b:Bool}(h:lk d t=some (.bool b)):∀ e,lk e ((d,.bool b)::t)=lk e t:=fun e=>by
 simp only[lk]
 split
 ·rename_i he;subst he;exact h.symm
 ·rfl
theorem An {ops:Array Oper}{o:Oper}(h:o.guard=none)(a:Act):Region.wanted o (yielded ops a.tmps)=true:=by simp[Region.wanted,h]
theorem EZ {ops:Array Oper}{i:Nat}{t tt:List (Nat × SV)}{b:List ax}{o:Oper}{c:Prop}{r:jU}(ho:ops[i]? = some o)(bX:fits F.n o.dst=true)(hs:XV V o.op ⟨tt,b⟩=.val c r)(hc:c)(vf:∀ e,lk e tt=lk e t)
 (hw:∀ (ta:List (Nat × SV)) (ba:List ax) (a:Act) (w:World),Rel F ⟨ta,ba⟩ a w→(∀ d∈o.looksAt ops,lk d ta=lk d t)→Region.wanted o (yielded ops a.tmps)=true):vX F ops i t b r:=by
 intro Q K a w t' b' o' ho' hl hb ll hr hK
 rw[ho]at ho'
 cases ho'
 unfold wpOp
 rw[ho]
 simp only
 rw[if_pos (hw t' b' a w hr hl)]
 left
 refine Oper.wp_mono (fun a w ⟨σ,hσ,hrel⟩=>?_) (nk (F:=F) bX (HN (dst:=o.dst) (t':=t') (b':=b') (uR (ops:=ops) (t:=tt) (fun d hd=>(hl d hd).trans (vf d).symm)) hs hc hb ll) hr o.type o.pos o.after o.guard _)
 subst hσ
 exact hK a w hrel
theorem uH {ops:Array Oper}{i:Nat}{t tt:List (Nat × SV)}{b:List ax}{o:Oper}{g:FuncId}{args:List SV}{r:jU}(ho:ops[i]? = some o)(bX:fits F.n o.dst=true)(hs:XV V o.op ⟨tt,b⟩=.call g args)(vf:∀ e,lk e tt=lk e t)
 (I6:(∃ x,PC V g args x∧r=⟨x,none,false,[],[]⟩)∨(∃ x nb al W,SC V g args b (fun r' b'=>r'=x∧b'=nb)∧r=⟨x,some nb,al,[],W⟩))
 (hw:∀ (ta:List (Nat × SV)) (ba:List ax) (a:Act) (w:World),Rel F ⟨ta,ba⟩ a w→(∀ d∈o.looksAt ops,lk d ta=lk d t)→Region.wanted o (yielded ops a.tmps)=true):vX F ops i t b r:=by
 intro Q K a w t' b' o' ho' hl hb ll hr hK
 rw[ho]at ho'
 cases ho'
 unfold wpOp
 rw[ho]
 simp only
 rw[if_pos (hw t' b' a w hr hl)]
 left
 have hcall:=Dm (dst:=o.dst) (t':=t') (b':=b') (uR (ops:=ops) (t:=tt) (fun d hd=>(hl d hd).trans (vf d).symm)) hs
 have hh:hN V (fun σ=>σ=⟨put o.dst r.x t',r.nb.getD b'⟩) (XR V o.dst o.op ⟨t',b'⟩):=by
  rw[hcall]
  rcases I6 with⟨x,hpc,rfl⟩|⟨x,nb,al,W,iM,rfl⟩
  ·exact .inl ⟨x,hpc,rfl⟩
  ·obtain rfl:=hb rfl
   exact .inr ⟨_,iM,fun r' bs ⟨h1,h2⟩=>by subst h1 h2;rfl⟩
 refine Oper.wp_mono (fun a w ⟨σ,hσ,hrel⟩=>?_) (nk (F:=F) bX hh hr o.type o.pos o.after o.guard _)
 subst hσ
 exact hK a w hrel
theorem Bp {ops:Array Oper}{i:Nat}{t:List (Nat × SV)}{b:List ax}{o:Oper}(ho:ops[i]? = some o)(bX:fits F.n o.dst=true)
 (hw:∀ (ta:List (Nat × SV)) (ba:List ax) (a:Act) (w:World),Rel F ⟨ta,ba⟩ a w→(∀ d∈o.looksAt ops,lk d ta=lk d t)→Region.wanted o (yielded ops a.tmps)=false):vX F ops i t b ⟨.v undef,none,false,[],[]⟩:=by
 intro Q K a w t' b' o' ho' hl hb ll hr hK
 rw[ho]at ho'
 cases ho'
 unfold wpOp
 rw[ho]
 simp only
 rw[if_neg (by rw[hw t' b' a w hr hl];simp)]
 obtain⟨β,fp,hf,lK⟩:=hr
 exact hK _ w ⟨β,fp,hf.put bX (fun _ _=>rfl),lK⟩
theorem yE (r:jU)(h:r.nb=none)(b:List ax):UnE r b:=fun nb yj=>by rw[h]at yj;cases yj
def CZ (F:Fx V)(ops:Array Oper)(r:jU)(t:List (Nat × SV))(b:List ax)(i d:Nat)(z:List SV)(T:TypeId)(q:Option (Nat × Nat)):Prop :=
 ij ops i=some d∧d<F.n∧(∃ W,r=⟨flV q b.length,some (b++[flR q z T]),false,[],W⟩)∧flW q z∧∃ o,ops[i]? = some o∧o.guard=none ∧
  ∀ (β:Nat→Bt) (m:Nat) (tt:List (Nat × SV)) (a:Act) (w:World),Fm F β m tt a→(∀ d∈o.looksAt ops,lk d tt=lk d t)→∀ β',bw m β β'→(execOp a.eval o).run V.P w=Result.ok (.value (ah ke (GS q w.heap.size))) (w.alloc (.cells (z.map (ah β')).toArray T))
theorem AD {T:TypeId}{σ:St}{c:Prop}{r:jU}(h:XV V (.alloc T) σ=.val c r):∃ ti,V.Γ T=some ti∧r=⟨.p σ.b.length 0,some (σ.b++[.cells ti.zero T true]),false,[],[(σ.b.length,0,0)]⟩:=by
 unfold XV at h
 simp only[pv,Yl,GQ,dN,Xv,XD]at h
 split at h
 ·rename_i ti jY
  cases h
  exact⟨ti,jY,rfl⟩
 ·cases h
theorem rC {T:TypeId}{σ:St}{g:FuncId}{args:List SV}(h:XV V (.alloc T) σ=.call g args):False:=by
 unfold XV at h
 simp only[pv,Yl,GQ,dN,Xv,XD]at h
 split at h <;> cases h
theorem G3 {ts e:TypeId}{n:Nat}{ps:Array (Nat × Operand)}{t:List (Nat × SV)}{l:List (Nat × SV)}{c0:List SV}{ti:TI}(ht:kd V.Γ ts=some (.slice e))(jY:V.Γ e=some ti)(hl:Xl t ps.toList=some l)(mI:Yi ti.size 0 l=some c0)(Gx:l.length=n)(h24:n * ti.size≤16777216)(eN:0<ti.size)
 {β:Nat→Bt} {m:Nat} {a:Act} (hf:Fm F β m t a) (w:World) (β':Nat→Bt) (hβ:bw m β β'):(Instr.buildSlice ts n (ps.map fun p=>(p.1,a.eval p.2))).run V.P w=Result.ok (.slice (some ⟨w.heap.size,0,none⟩) n n) (w.alloc (.cells (c0.map (ah β')).toArray e)):=by
 obtain⟨d1,lM,hO⟩:=cf V.gH ht
 simp only[ct]at hO
 subst hO
 obtain⟨i,z,hi,hz,pO,Jh,BY⟩:=(V.gH e ti jY).info
 have e2:=ml (β':=β') hf hβ hl
 have dB:=oF mI
 rw[Gx]at dB
 have qO:=vz β' ti.size l 0 c0 mI ((Array.range (n * i.size)).map (z.cells[· % z.cells.size]!)) (by rw[Nat.zero_add,Gx];simp[pO])
 by_cases hn:n=0
 ·subst hn
  have hl0:l=[]:=List.eq_nil_of_length_eq_zero Gx
  subst hl0
  have fR:c0=[]:=List.eq_nil_of_length_eq_zero (by rw[dB];simp)
  subst fR
  have e3:(ps.toList.map fun p=>(p.1,a.eval p.2))=[]:=e2
  have e4:Array.range 0=#[]:=rfl
  simp[Instr.buildSlice,run_underlying lM,Go.sizeOf,typeInfo,hi,e3,Instr.fill,newRow,e4]
 ·refine run_buildSlice (P:=V.P) w ts e n (ps.map fun p=>(p.1,a.eval p.2)) (c0.map (ah β')).toArray i z lM hi hz (by rw[pO];omega) (by rw[pO];exact zLh (Nat.mul_pos (by omega) eN)) ?_
  have e3:=qO
  rw[← pO]at e3
  rw[Array.toList_map,e2,e3]
  congr 1
  apply Array.ext'
  rw[Nat.zero_add,Gx]
  simp
theorem AB {ts:TypeId}{n:Nat}{ps:Array (Nat × Operand)}{σ:St}{c:Prop}{r:jU}(h:XV V (.buildSlice ts n ps) σ=.val c r)(hc:c):∃ e ti l c0,kd V.Γ ts=some (.slice e)∧V.Γ e=some ti∧Xl σ.t ps.toList=some l∧Yi ti.size 0 l=some c0∧l.length=n∧n * ti.size≤16777216∧0<ti.size∧∃ W,r=⟨.o σ.b.length n,some (σ.b++[.own c0 e ti.size n true]),false,[],W⟩:=by
 unfold XV at h
 simp only[pv,GQ,Yl,Xv]at h
 cases hx:Xa V (some 0) ts n ps.toList σ with
 | none=>rw[hx]at h;simp only[dN]at h;cases h
 | some y =>
   rw[hx]at h
   obtain⟨c',σ'⟩:=y
   unfold Xa at hx
   (repeat' split at hx) <;> try (cases hx;done)
   rename_i _ e ht _ ti jY _ l hl _ c0 mI
   cases hx
   simp only[dN,put,Xz,Bool.false_eq_true,if_false]at h
   cases h
   exact⟨e,ti,l,c0,ht,jY,hl,mI,hc.1,hc.2.1,hc.2.2,_,rfl⟩
theorem rB {ts:TypeId}{n:Nat}{ps:Array (Nat × Operand)}{σ:St}{g:FuncId}{args:List SV}(h:XV V (.buildSlice ts n ps) σ=.call g args):False:=by
 unfold XV at h
 simp only[pv,GQ,Yl,Xv]at h
 cases hx:Xa V (some 0) ts n ps.toList σ with
 | none=>rw[hx]at h;simp only[dN]at h;cases h
 | some y =>
   rw[hx]at h
   obtain⟨c',σ'⟩:=y
   simp only[dN]at h
   split at h
   ·split at h <;> cases h
   ·cases h
structure CW (F:Fx V) (ops:Array Oper) (t0:List (Nat × SV)) (b0:List ax) (recs:List jU) (T:Nat→List (Nat × SV)) (B:Nat→List ax) (σ:St):Prop where
 t0:∀ d,lk d (T 0)=lk d t0
 b0:B 0=b0
 t:∀ i,i<recs.length→∀ d,lk d (T (i+1))=lk d (put (ij ops i) (recs.getD i bV).x (T i))
 b:∀ i,i<recs.length→B (i+1)=(recs.getD i bV).nb.getD (B i)
 op:∀ i,i<recs.length→∀ F':Fx V,F'.n=F.n→vX F' ops i (T i) (B i) (recs.getD i bV)
 un:∀ i,i<recs.length→UnE (recs.getD i bV) (B i)
 te:T recs.length=σ.t
 be:B recs.length=σ.b
 fl:∀ i,i<recs.length→eC ops i=true→∃ d z Ta q,CZ F ops (recs.getD i bV) (T i) (B i) i d z Ta q
theorem CW.step {ops:Array Oper}{t0:List (Nat × SV)}{b0:List ax}{recs:List jU}{T:Nat→List (Nat × SV)}{B:Nat→List ax}{σ:St}(h:CW F ops t0 b0 recs T B σ){o:Oper}(ho:ops[recs.length]? = some o)(r:jU)(tt:List (Nat × SV))
 (vf:∀ d,lk d tt=lk d (put o.dst r.x σ.t)) (GA:∀ F':Fx V,F'.n=F.n→vX F' ops recs.length σ.t σ.b r) (IW:UnE r σ.b) (mI:eC ops recs.length=true→∃ d z Ta q,CZ F ops r σ.t σ.b recs.length d z Ta q) :
 CW F ops t0 b0 (recs++[r]) (fun i=>if i=recs.length+1 then tt else T i) (fun i=>if i=recs.length+1 then r.nb.getD σ.b else B i) ⟨tt,r.nb.getD σ.b⟩:=by
 have lp:(recs++[r]).getD recs.length bV=r:=by simp[zKY]
 have B4:∀ i,i<recs.length→(recs++[r]).getD i bV=recs.getD i bV:=fun i hi=>by simp[zKY,zKT hi]
 have hd:ij ops recs.length=o.dst:=by unfold ij;rw[ho];rfl
 refine⟨?_,?_,fun i hi=>?_,fun i hi=>?_,fun i hi=>?_,fun i hi=>?_,?_,?_,fun i hi hf=>?_⟩
 ·simp only[if_neg (show (0:Nat)≠recs.length+1 by omega)];exact h.t0
 ·simp only[if_neg (show (0:Nat)≠recs.length+1 by omega)];exact h.b0
 all_goals try (rw[zKX,zK3]at hi)
 ·intro d
  simp only[if_neg (show i≠recs.length+1 by omega)]
  by_cases he:i=recs.length
  ·subst he
   simp only[if_true]
   rw[lp,hd,h.te]
   exact vf d
  ·rw[if_neg (by omega),B4 i (by omega)]
   exact h.t i (by omega) d
 ·simp only[if_neg (show i≠recs.length+1 by omega)]
  by_cases he:i=recs.length
  ·subst he
   simp only[if_true]
   rw[lp,h.be]
  ·rw[if_neg (by omega),B4 i (by omega)]
   exact h.b i (by omega)
 ·simp only[if_neg (show i≠recs.length+1 by omega)]
  by_cases he:i=recs.length
  ·subst he
   rw[lp,h.te,h.be]
   exact GA
  ·rw[B4 i (by omega)]
   exact h.op i (by omega)
 ·simp only[if_neg (show i≠recs.length+1 by omega)]
  by_cases he:i=recs.length
  ·subst he
   rw[lp,h.be]
   exact IW
  ·rw[B4 i (by omega)]
   exact h.un i (by omega)
 ·simp
 ·simp
 ·simp only[if_neg (show i≠recs.length+1 by omega)]
  by_cases he:i=recs.length
  ·subst he
   rw[lp,h.te,h.be]
   exact mI hf
  ·rw[B4 i (by omega)]
   exact h.fl i (by omega) hf
def Dz (r:jU):Rk:=⟨r.nb.isSome,r.all,r.rd,r.wr⟩
theorem IA {ops:Array Oper}{t0:List (Nat × SV)}{b0:List ax}{E:Fin}{k:List Item}:∀ (f:Nat)(l pre:List Oper)(recs:List jU)(T:Nat→List (Nat × SV))(B:Nat→List ax)(σ:St),ops.toList=pre++l→recs.length=pre.length →
 CW F ops t0 b0 recs T B σ→bu V F.n E f (.eP ops l (recs.map Dz)::k) σ →
 ∃ f' recs' T' B' σ',f'<f∧recs'.length=ops.size∧CW F ops t0 b0 recs' T' B' σ'∧Kg ops (recs'.map Dz)∧bu V F.n E f' k σ':=by
 intro f
 induction f with
 | zero=>intro l pre recs T B σ _ _ _ h;cases l <;> simp[bu]at h
 | succ f ih =>
   intro l pre recs T B σ hops hlen hlex h
   match l with
   | [] =>
     simp only[bu]at h
     refine⟨f,recs,T,B,σ,Nat.lt_succ_self _,?_,hlex,h.1,h.2⟩
     have:=congrArg List.length hops
     simp at this
     omega
   | o::r =>
     have ho:ops[recs.length]? = some o:=by
      have:ops.toList[recs.length]? = some o:=by rw[hops,hlen];simp
      simpa using this
     have next:∀ (rc:jU) (tt:List (Nat × SV)),(∀ d,lk d (put o.dst rc.x tt)=lk d (put o.dst rc.x σ.t))→(∀ F':Fx V,F'.n=F.n→vX F' ops recs.length σ.t σ.b rc)→UnE rc σ.b→(eC ops recs.length=true→∃ d z Ta q,CZ F ops rc σ.t σ.b recs.length d z Ta q) →
      bu V F.n E f (.eP ops r (recs.map Dz++[Dz rc])::k) ⟨Vc.put o.dst rc.x tt,rc.nb.getD σ.b⟩ →
      ∃ f' recs' T' B' σ',f'<f+1∧recs'.length=ops.size∧CW F ops t0 b0 recs' T' B' σ'∧Kg ops (recs'.map Dz)∧bu V F.n E f' k σ':=fun rc tt vf GA IW hflr hv=>by
      obtain⟨f',recs',T',B',σ',h1,h2,h3,h4,h5⟩:=ih r (pre++[o]) (recs++[rc]) _ _ _ (by rw[hops];simp) (by simp[hlen]) (hlex.step ho rc (Vc.put o.dst rc.x tt) vf GA IW hflr) (by simpa using hv)
      exact⟨f',recs',T',B',σ',by omega,h2,h3,h4,h5⟩
     have Ce:eC ops recs.length=true→o.guard=none∧∃ d,o.dst=some d∧((∃ Ta,o.op=.alloc Ta)∨∃ ts n ps,o.op=.buildSlice ts n ps):=fun h=>by
      unfold eC at h
      rw[ho]at h
      split at h
      ·rename_i e;cases e;exact⟨rfl,_,rfl,.inl ⟨_,rfl⟩⟩
      ·rename_i e;cases e;exact⟨rfl,_,rfl,.inr ⟨_,_,_,rfl⟩⟩
      ·cases h
     have hdat:ij ops recs.length=o.dst:=by unfold ij;rw[ho];rfl
     obtain⟨dst,op,ty,pos,after,guard⟩:=o
     simp only at Ce hdat
     -- one operation, wanted
     have go:∀ (tt:List (Nat × SV)),(∀ e,lk e tt=lk e σ.t)→(∀ F':Fx V,F'.n=F.n→∀ (ta:List (Nat × SV)) (ba:List ax) (a:Act) (w:World),Rel F' ⟨ta,ba⟩ a w→(∀ d∈(⟨dst,op,ty,pos,after,guard⟩:Oper).looksAt ops,lk d ta=lk d σ.t)→Region.wanted ⟨dst,op,ty,pos,after,guard⟩ (yielded ops a.tmps)=true) →
      fits F.n dst=true→Yg V F.n E f ops r (recs.map Dz) k dst ⟨tt,σ.b⟩ (XV V op ⟨tt,σ.b⟩) →
      ∃ f' recs' T' B' σ',f'<f+1∧recs'.length=ops.size∧CW F ops t0 b0 recs' T' B' σ'∧Kg ops (recs'.map Dz)∧bu V F.n E f' k σ':=fun tt vf BZ bX rn=>by
      have tw:∀ x d,lk d (put dst x tt)=lk d (put dst x σ.t):=fun x d=>ju (vf d)
      have hfit':∀ F':Fx V,F'.n=F.n→fits F'.n dst=true:=fun F' e=>by rw[e];exact bX
      have rS:∀ {c:Prop} {rc:jU},XV V op ⟨tt,σ.b⟩=.val c rc→c→eC ops recs.length=true→∃ d z Ta q,CZ F ops rc σ.t σ.b recs.length d z Ta q:=fun {c rc} hs hc hf=>by
       obtain⟨hg,d,hd,⟨Ta,GA⟩|⟨ts,n,ps,GA⟩⟩:=Ce hf
       ·subst GA
        obtain⟨ti,jY,hrc⟩:=AD hs
        refine⟨d,ti.zero,Ta,none,hdat.trans hd,?_,⟨_,hrc⟩,trivial,_,ho,hg,fun β m tt' a w hfm B9 β' hβ=>?_⟩
        ·rw[hd]at bX
         simpa[fits] using bX
        ·rw[(V.gH Ta ti jY).flat β']
         exact bJ (xC (V:=V) Ta ti jY w)
       ·subst GA
        obtain⟨e,ti,l,c0,h1,h2,h3,h4,h5,h6,h7,W,hrc⟩:=AB hs hc
        have dB:=oF h4
        refine⟨d,c0,e,some (ti.size,n),hdat.trans hd,?_,⟨W,hrc⟩,⟨by rw[dB,h5],?_⟩,_,ho,hg,fun β m tt' a w hfm B9 β' hβ=>?_⟩
        ·rw[hd]at bX
         simpa[fits] using bX
        ·unfold maxLen
         have:n * 1≤n * ti.size:=Nat.mul_le_mul_left _ h7
         omega
        ·have hev:=uR (ops:=ops) (o:=⟨dst,.buildSlice ts n ps,ty,pos,after,guard⟩) (t:=tt) (t':=tt') (fun d hd=>(B9 d hd).trans (vf d).symm)
         have h3':Xl tt' ps.toList=some l:=by
          rw[iN (t:=tt') (t':=tt) ps.toList (fun x hx=>hev x (by simp only[Op.operands];rw[List.mem_toArray];exact hx))]
          exact h3
         exact bJ (G3 (F:=F) h1 h2 h3' h4 h5 h6 h7 hfm w β' hβ)
      have Jc:∀ {g:FuncId} {args:List SV} {rc:jU},XV V op ⟨tt,σ.b⟩=.call g args→eC ops recs.length=true→∃ d z Ta q,CZ F ops rc σ.t σ.b recs.length d z Ta q:=fun {g args rc} hs hf=>by
       obtain⟨-,d,-,⟨Ta,GA⟩|⟨ts,n,ps,GA⟩⟩:=Ce hf
       ·rw[GA]at hs
        exact(rC hs).elim
       ·rw[GA]at hs
        exact(rB hs).elim
      cases vg:XV V op ⟨tt,σ.b⟩ with
      | val c rc =>
        rw[vg]at rn
        obtain⟨x,nb,al,rd,wr⟩:=rc
        cases nb with
        | none =>
          simp only[Yg]at rn
          exact next ⟨x,none,al,rd,wr⟩ tt (tw x) (fun F' e=>EZ ho (hfit' F' e) vg rn.1 vf (BZ F' e)) (AA vg rn.1) (rS vg rn.1) rn.2
        | some nb =>
          simp only[Yg]at rn
          exact next ⟨x,some nb,al,rd,wr⟩ tt (tw x) (fun F' e=>EZ ho (hfit' F' e) vg rn.1 vf (BZ F' e)) (AA vg rn.1) (rS vg rn.1) rn.2
      | call g args =>
        rw[vg]at rn
        simp only[Yg,lI]at rn
        rcases rn with⟨x,hpc,hv⟩|⟨x,nb,iM,hv⟩|⟨x,nb,W,iM,hout,hv⟩
        ·exact next ⟨x,none,false,[],[]⟩ tt (tw x) (fun F' e=>uH ho (hfit' F' e) vg vf (.inl ⟨x,hpc,rfl⟩) (BZ F' e)) (yE _ rfl _) (Jc vg) hv
        ·exact next ⟨x,some nb,true,[],[]⟩ tt (tw x) (fun F' e=>uH ho (hfit' F' e) vg vf (.inr ⟨x,nb,true,[],iM,rfl⟩) (BZ F' e)) (fun _ _ h=>by cases h) (Jc vg) hv
        ·exact next ⟨x,some nb,false,[],W⟩ tt (tw x) (fun F' e=>uH ho (hfit' F' e) vg vf (.inr ⟨x,nb,false,W,iM,rfl⟩) (BZ F' e)) (fun _ h _ j q hq=>by cases h;exact hout j q hq) (Jc vg) hv
      | bad=>rw[vg]at rn;simp[Yg]at rn
     cases guard with
     | none =>
       simp only[bu]at h
       exact go σ.t (fun _=>rfl) (fun F' _ ta _ a _ _ _=>An rfl a) h.1 h.2
     | some q =>
       obtain⟨j,want⟩:=q
       simp only[bu]at h
       obtain⟨bX,h⟩:=h
       have hfit':∀ F':Fx V,F'.n=F.n→fits F'.n dst=true:=fun F' e=>by rw[e];exact bX
       have hng:∀ {rc:jU},eC ops recs.length=true→∃ d z Ta q,CZ F ops rc σ.t σ.b recs.length d z Ta q:=fun hf=>by
        have:=(Ce hf).1
        cases this
       cases hg:Yk σ.t (eX ops.toList j) with
       | none =>
         cases hu:Ft σ.t (eX ops.toList j) with
         | false=>rw[hg,hu]at h;simp[Xy]at h
         | true =>
           rw[hg,hu]at h
           simp only[Xy,XG]at h
           obtain⟨d,x,hgd,B9,gx⟩:=JC hu
           refine next ⟨.v undef,none,false,[],[]⟩ σ.t (fun _=>rfl) (fun F' e=>Bp ho (hfit' F' e) (fun ta ba a w hr hl=>by
            obtain⟨β,fp,hf,-⟩:=hr
            have hy:=JB (hf.ok β (bw.refl _ _)) hgd (by rw[hl d (sV rfl hgd)];exact B9) gx
            simp[Region.wanted,hy])) (yE _ rfl _) hng h
       | some q =>
         obtain⟨d,b⟩:=q
         rw[hg]at h
         simp only[Xy,XG]at h
         obtain⟨hd,h1,h2⟩:=h
         obtain⟨B9,hgd⟩:=gval_lk hg
         have IT:∀ F':Fx V,F'.n=F.n→∀ (ta:List (Nat × SV)) (ba:List ax) (a:Act) (w:World),Rel F' ⟨ta,ba⟩ a w→(∀ e∈(⟨dst,op,ty,pos,after,some (j,want)⟩:Oper).looksAt ops,lk e ta=lk e σ.t)→yielded ops a.tmps j=some b:=fun F' _ ta ba a w hr hl=>by
          obtain⟨β,fp,hf,-⟩:=hr
          exact(Cm (hf.ok β (bw.refl _ _)) (GP hg (hl d (sV rfl hgd)))).1
         by_cases hb:b=want
         ·subst hb
          exact go ((d,.bool b)::σ.t) (By B9) (fun F' e ta ba a w hr hl=>by simp[Region.wanted,IT F' e ta ba a w hr hl]) bX (h1 rfl)
         ·have hb':b=!want:=by cases b <;> cases want <;> simp at hb ⊢
          have hv:=h2 hb'
          rw[← hb']at hv
          exact next ⟨.v undef,none,false,[],[]⟩ ((d,.bool b)::σ.t) (fun e=>ju (By B9 e)) (fun F' e=>Bp ho (hfit' F' e) (fun ta ba a w hr hl=>by simp[Region.wanted,IT F' e ta ba a w hr hl,hb])) (yE _ rfl _) hng hv
end
open Go Go.RowKit Wf
section
variable {V:Cx} {F:Fx V}
theorem wp_then {P:Program}{o:Oper}{a:Act}{w:World}{N K:Act→World→Prop}{Q:Exit→Act→World→Prop}(hk:∀ a w,N a w→K a w)(h:o.wp P a w (fun a w=>Exit.then N Q .normal a w) (Exit.then N Q)):o.wp P a w K Q:=by
 refine Oper.wp_mono hk ?_
 unfold Oper.wp at *
 generalize (execOp a.eval o).run P w=r at *
 cases r with
 | ok n w' =>
   cases n <;> simp only[Oper.upon]at h ⊢ <;> exact h
 | halt x w'=>cases x <;> simp only[Oper.upon]at h ⊢ <;> exact h
theorem Gs {N:Act→World→Prop}{Q:Exit→Act→World→Prop}(h:LetsOut (Exit.then N Q)):LetsOut Q:=h
def aoV (P:Program)(ops:Array Oper)(L:List Nat)(t:OT)(Q:Exit→Act→World→Prop)(a:Act)(w:World):Prop :=
 (OT.zq ops L t=true→wpAny P .any ops Q (ops.size - L.length) (sm ops.size L) a w) ∧
 (OT.zq.Hb ops L t=true→L.length<ops.size→∀ i∈t.vt,wpOp P ops Q i (wpAny P .any ops Q (ops.size - (L.length+1)) (sm ops.size (i::L))) a w)
def oN (F:Fx V)(Qf:Exit→Act→World→Prop):List Item→Exit→Act→World→Prop
 | []=>Qf
 | .code c::k=>Exit.then (c.wp V.P (oN F Qf k)) (oN F Qf k)
 | .ops ops l::k=>Exit.then (wpList V.P ops (oN F Qf k) l) (oN F Qf k)
 | .eP _ _ _::k=>Exit.then (fun _ _=>True) (oN F Qf k)
 | .fS ops L t::k=>Exit.then (fun a w=>OT.zq ops L t=true∨OT.zq.Hb ops L t=true→aoV V.P ops L t (oN F Qf k) a w) (oN F Qf k)
 | .cut J::k=>Exit.then (fun a w=>∃ σ,J σ∧Rel F σ a w) (oN F Qf k)
 | .lE id::k=>Exit.inBlock id (oN F Qf k)
 | .kS I μ m::k=>Exit.then (fun a w=>∃ σ,I σ∧μ σ<m∧Rel F σ a w) (oN F Qf k)
theorem iZ {Qf:Exit→Act→World→Prop}{id:Nat}{a:Act}{w:World}:∀ {k k':List Item},XE id k=some k'→oN F Qf k' .normal a w→oN F Qf k (.exit id) a w
 | [],k',h,_=>by simp[XE]at h
 | .code c::k,k',h,hq=>by simp only[XE]at h;exact iZ (k:=k) h hq
 | .ops ops l::k,k',h,hq=>by simp only[XE]at h;exact iZ (k:=k) h hq
 | .kS _ _ _::k,k',h,hq=>by simp only[XE]at h;exact iZ (k:=k) h hq
 | .eP _ _ _::k,k',h,hq=>by simp only[XE]at h;exact iZ (k:=k) h hq
 | .fS _ _ _::k,k',h,hq=>by simp only[XE]at h;exact iZ (k:=k) h hq
 | .cut _::k,k',h,hq=>by simp only[XE]at h;exact iZ (k:=k) h hq
 | .lE id'::k,k',h,hq=>by
   simp only[XE]at h
   show Exit.inBlock id' (oN F Qf k) (.exit id) a w
   split at h
   ·rename_i e
    cases h
    simp only[Exit.inBlock,if_pos e.symm]
    exact hq
   ·rename_i e
    simp only[Exit.inBlock,if_neg (fun q=>e (Eq.symm q))]
    exact iZ (k:=k) h hq
theorem kE {Qf:Exit→Act→World→Prop}{a:Act}{w:World}(hq:Qf .ret a w):∀ (k:List Item),oN F Qf k .ret a w
 | []=>hq
 | .code c::k=>kE hq k
 | .ops ops l::k=>kE hq k
 | .kS _ _ _::k=>kE hq k
 | .eP _ _ _::k=>kE hq k
 | .fS _ _ _::k=>kE hq k
 | .cut _::k=>kE hq k
 | .lE id'::k=>kE hq k
theorem gD {Qf:Exit→Act→World→Prop}{c:List PanicEntry}{a:Act}{w:World}:∀ (k:List Item),oN F Qf k (.panic c) a w→Qf (.panic c) a w
 | [],h=>h
 | .code _::k,h=>gD k h
 | .ops _ _::k,h=>gD k h
 | .eP _ _ _::k,h=>gD k h
 | .fS _ _ _::k,h=>gD k h
 | .cut _::k,h=>gD k h
 | .lE _::k,h=>gD k h
 | .kS _ _ _::k,h=>gD k h
theorem wX {E:Fin}{n f:Nat}{ops:Array Oper}{r:List Oper}{k:List Item}{s:fD}(h:Yc V n E f ops r k s):hN V (fun σ=>bu V n E f (.ops ops r::k) σ) s:=by
 cases s <;> simp only[Yc]at h
 ·exact h
 ·unfold lH at h
  rcases h with h|⟨R,h1,-,h2⟩
  ·exact .inl h
  ·exact .inr ⟨R,h1,h2⟩
theorem xj {E:Fin}{Qf:Exit→Act→World→Prop}(hn:∀ σ a w,si V E σ (XT V σ E.rs)→Rel F σ a w→Qf .normal a w)(hret:∀ σ a w,si V E σ (XT V σ E.rs)→Rel F σ a w→Qf .ret a w)(hpan:∀ c a w,¬ Qf (.panic c) a w) :
 ∀ (f:Nat) (items:List Item) (σ:St),bu V F.n E f items σ→∀ a w,Rel F σ a w→oN F Qf items .normal a w:=by
 intro f
 induction f using Nat.strongRecOn with
 | _ f0 ihs =>
 cases f0 with
 | zero=>intro items σ h;cases items <;> simp[bu]at h
 | succ f =>
   have ih:∀ (items:List Item) (σ:St),bu V F.n E f items σ→∀ a w,Rel F σ a w→oN F Qf items .normal a w:=ihs f (Nat.lt_succ_self _)
   have step:∀ (ops:Array Oper) (o:Oper) (r:List Oper) (k:List Item) (σ:St) (a:Act) (w:World),fits F.n o.dst=true→Yc V F.n E f ops r k (XR V o.dst o.op σ)→Rel F σ a w →
    o.wp V.P a w (wpList V.P ops (oN F Qf k) r) (oN F Qf k):=fun ops o r k σ a w bX h hr=>by
    refine Oper.wp_mono (fun a w ⟨σ',h1,h2⟩=>?_) (nk (F:=F) bX (wX h) hr o.type o.pos o.after o.guard _)
    exact ih (.ops ops r::k) σ' h1 a w h2
   intro items σ h a w hr
   match items with
   | []=>simp only[bu]at h;exact hn σ a w h hr
   | .lE id::k=>simp only[bu]at h;exact ih k σ h a w hr
   | .kS I μ m::k=>simp only[bu]at h;exact⟨σ,h.1,h.2,hr⟩
   | .eP ops l rs::k=>exact trivial
   | .cut J::k=>simp only[bu]at h;exact⟨σ,h,hr⟩
   | .fS ops L .leaf::k =>
     simp only[bu]at h
     refine fun _=>⟨fun bZ=>?_,fun bZ=>by simp[OT.zq.Hb]at bZ⟩
     simp only[OT.zq,List.isEmpty_iff]at bZ
     have hq:oN F Qf k .normal a w:=ih k σ h a w hr
     cases hf:ops.size - L.length with
     | zero=>exact⟨bZ,hq⟩
     | succ m=>exact⟨fun _=>hq,fun i hi=>by rw[bZ]at hi;cases hi⟩
   | .fS ops L (.one i t)::k =>
     simp only[bu]at h
     have Ja:OT.zq ops (i::L) t=true→i<ops.size→wpOp V.P ops (oN F Qf k) i (wpAny V.P .any ops (oN F Qf k) (ops.size - (L.length+1)) (sm ops.size (i::L))) a w:=fun bZ hi=>by
      have h1:wpList V.P ops (oN F Qf (.fS ops (i::L) t::k)) (oK ops.toList i) a w:=ih _ σ h a w hr
      have ho:ops[i]? = some ops[i]:=zLb hi
      have hn:oK ops.toList i=[ops[i]]:=by rw[tM];simp[ho]
      rw[hn]at h1
      have hk:∀ a w,oN F Qf (.fS ops (i::L) t::k) .normal a w→wpAny V.P .any ops (oN F Qf k) (ops.size - (L.length+1)) (sm ops.size (i::L)) a w:=fun a w hq=>(hq (.inl bZ)).1 bZ
      unfold wpOp
      rw[ho]
      simp only[wpList]at h1 ⊢
      split
      ·rename_i hw
       rw[if_pos hw]at h1
       rcases h1 with h1|⟨h1,h2⟩
       ·refine .inl ?_
        exact wp_then hk h1
       ·exact .inr ⟨h1,Gs h2⟩
      ·rename_i hw
       rw[if_neg hw]at h1
       exact hk _ _ h1
     refine fun _=>⟨fun bZ=>?_,fun bZ hL j hj=>?_⟩
     ·simp only[OT.zq,zKP,decide_eq_true_eq,beq_iff_eq]at bZ
      obtain⟨⟨hL,hrd⟩,bZ⟩:=bZ
      obtain⟨m,hm⟩:∃ m,ops.size - L.length=m+1:=⟨ops.size - L.length - 1,by omega⟩
      have hm':ops.size - (L.length+1)=m:=by omega
      rw[hm' ]at Ja
      rw[hm]
      refine⟨fun h0=>by rw[h0]at hrd;simp at hrd,fun j hj=>?_⟩
      have hi:i<ops.size:=by
       have h1:i∈Region.ready .any ops (sm ops.size L):=by rw[hrd];exact List.mem_singleton.2 rfl
       obtain⟨o,ho,_⟩:=(mem_ready.1 h1).2
       exact(zKR.1 ho).1
      rw[hrd,List.mem_singleton]at hj
      subst hj
      exact Ja bZ hi
     ·simp only[OT.vt,List.mem_singleton]at hj
      subst hj
      simp only[OT.zq.Hb]at bZ
      by_cases hi:j<ops.size
      ·exact Ja bZ hi
      ·unfold wpOp
       rw[zLo (by omega)]
       have h1:wpList V.P ops (oN F Qf (.fS ops (j::L) t::k)) (oK ops.toList j) a w:=ih _ σ h a w hr
       rw[tM,show ops.toList[j]? = none from by simp;omega]at h1
       exact(h1 (.inl bZ)).1 bZ
   | .fS ops L (.alt x y)::k =>
     simp only[bu]at h
     have hx:OT.zq.Hb ops L x=true→_:=fun bZ=>(ih (.fS ops L x::k) σ h.1 a w hr (.inr bZ)).2 bZ
     have hy:OT.zq.Hb ops L y=true→_:=fun bZ=>(ih (.fS ops L y::k) σ h.2 a w hr (.inr bZ)).2 bZ
     refine fun _=>⟨fun bZ=>?_,fun bZ hL j hj=>?_⟩
     ·simp only[OT.zq,zKP,decide_eq_true_eq,Bool.not_eq_true',zKS]at bZ
      obtain⟨⟨⟨⟨hL,bn⟩,aR⟩,h1⟩,h2⟩:=bZ
      obtain⟨m,hm⟩:∃ m,ops.size - L.length=m+1:=⟨ops.size - L.length - 1,by omega⟩
      have hm':ops.size - (L.length+1)=m:=by omega
      rw[hm']at hx hy
      rw[hm]
      refine⟨fun h0=>by rw[h0]at bn;simp at bn,fun j hj=>?_⟩
      have wY:=zLi.1 (aR j hj)
      have gE:(sm ops.size L).setIfInBounds j true=sm ops.size (j::L):=rfl
      rw[gE]
      simp only[OT.vt,zLn]at wY
      rcases wY with hm|hm
      ·exact hx h1 hL j hm
      ·exact hy h2 hL j hm
     ·simp only[OT.zq.Hb,zKP]at bZ
      simp only[OT.vt,zLn]at hj
      rcases hj with hj|hj
      ·exact hx bZ.1 hL j hj
      ·exact hy bZ.2 hL j hj
   | .fS ops L (.pur i t)::k =>
     simp only[bu]at h
     refine fun _=>⟨fun bZ=>?_,fun bZ=>by simp[OT.zq.Hb]at bZ⟩
     simp only[OT.zq,zKP,decide_eq_true_eq]at bZ
     obtain⟨⟨⟨⟨hL,hns⟩,jB⟩,hrd⟩,bZ⟩:=bZ
     obtain⟨m,hm⟩:∃ m,ops.size - L.length=m+1:=⟨ops.size - L.length - 1,by omega⟩
     have hi:i<ops.size:=by
      obtain⟨o,ho,_⟩:=(mem_ready.1 (zLi.1 hrd)).2
      exact(zKR.1 ho).1
     have ho:ops[i]? = some ops[i]:=zLb hi
     have hn:oK ops.toList i=[ops[i]]:=by rw[tM];simp[ho]
     rw[hn]at h
     generalize hoi:ops[i]=oi at h ho
     obtain⟨dst,op,ty,pos,after,guard⟩:=oi
     cases guard with
     | some g=>simp[ET]at h
     | none =>
     simp only[ET]at h
     obtain⟨bX,h⟩:=h
     cases hp:pv V.Γ σ.t op with
     | none=>rw[hp]at h;simp[ES]at h
     | some p =>
     obtain⟨c,x⟩:=p
     rw[hp]at h
     simp only[ES]at h
     obtain⟨hc,h⟩:=h
     obtain⟨β,fp,hf,hw⟩:=hr
     have hy:Yields V.P ops ⟨dst,op,ty,pos,after,none⟩ (ah β x) a:=.inl ⟨by simp[Region.wanted],fun w=>xG (o:=⟨dst,op,ty,pos,after,none⟩) V.gH (hf.ok β (bw.refl _ _)) hp hc w⟩
     rw[hm]
     refine wpAny_take ho hns jB hrd (fun c a w hq=>absurd (gD k hq) (hpan c _ w)) hy ?_
     have hrel:Rel F ⟨put dst x σ.t,σ.b⟩ (a.put dst (ah β x)) w:=⟨β,fp,hf.put bX (fun β' hβ=>?_),hw⟩
     ·have h1:=(ih (.fS ops (i::L) t::k) _ h _ w hrel (.inl bZ)).1 bZ
      have hm':ops.size - (L.length+1)=m:=by omega
      rw[List.length_cons,hm']at h1
      exact h1
     ·have h1:=xG (o:=⟨dst,op,ty,pos,after,none⟩) V.gH (hf.ok β (bw.refl _ _)) hp hc w
      have h2:=xG (o:=⟨dst,op,ty,pos,after,none⟩) V.gH (hf.ok β' hβ) hp hc w
      rw[h1]at h2
      injection h2 with h2
      injection h2
   | .ops ops []::k=>simp only[bu]at h;exact ih k σ h a w hr
   | .ops ops (⟨dst,op,ty,pos,after,none⟩::r)::k =>
     simp only[bu]at h
     show wpList V.P ops (oN F Qf k) (⟨dst,op,ty,pos,after,none⟩::r) a w
     unfold wpList
     rw[if_pos (by simp[Region.wanted])]
     exact .inl (step ops ⟨dst,op,ty,pos,after,none⟩ r k σ a w h.1 h.2 hr)
   | .ops ops (⟨dst,op,ty,pos,after,some (j,want)⟩::r)::k =>
     simp only[bu]at h
     obtain⟨bX,h⟩:=h
     show wpList V.P ops (oN F Qf k) (⟨dst,op,ty,pos,after,some (j,want)⟩::r) a w
     cases hg:Yk σ.t (eX ops.toList j) with
     | none =>
       cases hu:Ft σ.t (eX ops.toList j) with
       | false=>rw[hg,hu]at h;simp[XA]at h
       | true =>
         rw[hg,hu]at h
         simp only[XA,XG]at h
         obtain⟨d,x,hgd,B9,gx⟩:=JC hu
         obtain⟨β,fp,hf,hw⟩:=hr
         have hy:=JB (hf.ok β (bw.refl _ _)) hgd B9 gx
         unfold wpList
         rw[if_neg (by simp[Region.wanted,hy])]
         exact ih (.ops ops r::k) _ h _ w ⟨β,fp,hf.put bX (fun _ _=>rfl),hw⟩
     | some p =>
       obtain⟨d,b⟩:=p
       rw[hg]at h
       simp only[XA,XG]at h
       obtain⟨hd,h1,h2⟩:=h
       obtain⟨β,fp,hf,hw⟩:=hr
       obtain⟨hy,hv⟩:=Cm (hf.ok β (bw.refl _ _)) hg
       unfold wpList
       by_cases hb:b=want
       ·subst hb
        rw[if_pos (by simp[Region.wanted,hy])]
        exact .inl (step ops ⟨dst,op,ty,pos,after,some (j,b)⟩ r k _ a w bX (h1 rfl) ⟨β,fp,hf.relit (fun _ _=>hv),hw⟩)
       ·have hb':b=!want:=by cases b <;> cases want <;> simp at hb ⊢
        rw[if_neg (by simp[Region.wanted,hy,hb])]
        exact ih (.ops ops r::k) _ (h2 hb') _ w ⟨β,fp,(hf.relit (x:=.bool (!want)) (fun _ _=>by rw[← hb'];exact hv)).put bX (fun _ _=>rfl),hw⟩
   | .code c::k =>
     show c.wp V.P (oN F Qf k) a w
     cases c with
     | skip=>simp only[bu]at h;exact wp_skip (ih k σ h a w hr)
     | region id ops draw =>
       cases draw
       ·simp only[bu]at h
        exact wp_region_list (ih (.ops ops ops.toList::k) σ h a w hr)
       ·simp only[bu]at h
        cases hw:E.Ae id with
        | all t =>
          rw[hw]at h
          simp only[yV]at h
          obtain⟨-,bZ,J,h1,h2⟩:=h
          refine wp_mono (Q:=oN F Qf (.cut J::k)) (wp_region_any V.mixed ?_) (fun e a' w' hq=>?_)
          ·have h3:=(ih (.fS ops [] t::.cut J::k) σ h1 a { w with drawn:=w.drawn+1 } (Ib hr) (.inl bZ)).1 bZ
           exact h3
          ·cases e with
           | normal =>
             obtain⟨σ',hj,hr'⟩:=hq
             exact ih k σ' (h2 σ' hj) a' w' hr'
           | _=>exact hq
        | ord p =>
        rw[hw]at h
        simp only[yV]at h
        obtain⟨Gy,h⟩:=h
        refine wp_region_any V.mixed (Db p Gy ?_)
        generalize nA ops p=ops at h ⊢
        cases f with
        | zero=>simp[bu]at h
        | succ f1 =>
        have hlex:CW F ops σ.t σ.b [] (fun _=>σ.t) (fun _=>σ.b) σ:=⟨fun _=>rfl,rfl,fun i hi=>by simp at hi,fun i hi=>by simp at hi,fun i hi=>by simp at hi,fun i hi=>by simp at hi,rfl,rfl,fun i hi=>by simp at hi⟩
        obtain⟨f',recs,T,B,σ',aB,hlen,hl,bZ,hv⟩:=IA (f1+1) ops.toList [] [] _ _ σ (by simp) rfl hlex h
        classical
        have hch:∃ G:FlD,∀ k,eC ops k=true→CZ F ops (recs.getD k bV) (T k) (B k) k (G.d k) (G.z k) (G.T k) (G.q k)∧G.L k=(B k).length:=by
         have h1:∀ k,∃ p:Nat × List SV × TypeId × Option (Nat × Nat),eC ops k=true→CZ F ops (recs.getD k bV) (T k) (B k) k p.1 p.2.1 p.2.2.1 p.2.2.2:=fun k=>by
          by_cases hk:eC ops k=true
          ·have aB:k<recs.length:=by
            unfold eC at hk
            split at hk
            ·rename_i e
             rw[hlen]
             exact(zKR.1 e).1
            ·rename_i e
             rw[hlen]
             exact(zKR.1 e).1
            ·cases hk
           obtain⟨d,z,Ta,q,h⟩:=hl.fl k aB hk
           exact⟨(d,z,Ta,q),fun _=>h⟩
          ·exact⟨(0,[],0,none),fun h=>absurd h hk⟩
         exact⟨⟨fun k=>(Classical.choose (h1 k)).1,fun k=>(Classical.choose (h1 k)).2.1,fun k=>(Classical.choose (h1 k)).2.2.1,fun k=>(B k).length,fun k=>(Classical.choose (h1 k)).2.2.2⟩,fun k hk=>⟨Classical.choose_spec (h1 k) hk,rfl⟩⟩
        obtain⟨G,hG⟩:=hch
        refine JU (recs:=recs) G T B hl.t0 hl.b0 (fun i hi=>hl.t i (by omega)) (fun i hi=>hl.b i (by omega)) (fun i hi=>hl.op i (by omega)) (fun i hi=>hl.un i (by omega)) (fun k hk=>by obtain⟨⟨g1,g2,g3,g4⟩,g5⟩:=hG k hk;exact⟨g1,g2,g5,g3,g4⟩) hlen bZ hr (fun a' w' hrel=>?_)
        rw[← hlen,hl.te,hl.be]at hrel
        exact ihs f' (by omega) k σ' hv a' w' hrel
     | seq x y=>simp only[bu]at h;exact wp_seq (ih (.code x::.code y::k) σ h a w hr)
     | cond c x y =>
       simp only[bu]at h
       cases hb:ev σ.t c with
       | none=>rw[hb]at h;simp[XN]at h
       | some v =>
         rw[hb]at h
         cases v <;> simp only[XN,XQ]at h
         rename_i b
         obtain⟨β,fp,hf,hw⟩:=hr
         exact wp_cond_split (t:=b) ((hf.ev hb (bw.refl _ β)).trans rfl) (fun e=>ih (.code x::k) σ (h.1 e) a w ⟨β,fp,hf,hw⟩) (fun e=>ih (.code y::k) σ (h.2 e) a w ⟨β,fp,hf,hw⟩)
     | block id x=>simp only[bu]at h;exact wp_block (ih (.code x::.lE id::k) σ h a w hr)
     | exit id =>
       simp only[bu]at h
       cases hx:XE id k with
       | none=>rw[hx]at h;simp[XO]at h
       | some k' =>
         rw[hx]at h
         simp only[XO]at h
         exact wp_exit (iZ hx (ih k' σ h a w hr))
     | ret=>simp only[bu]at h;exact wp_ret (kE (hret σ a w h hr) k)
     | loop x =>
       simp only[bu,uQ]at h
       obtain⟨I,μ,h0,hround⟩:=h
       classical
       let S:Act→World→Nat→Prop:=fun a w n=>∃ σ,μ σ=n∧I σ∧Rel F σ a w
       let m:Act→World→Nat:=fun a w=>if h:∃ n,S a w n then Classical.choose (least h) else 0
       refine wp_loop (fun a w=>∃ n,S a w n) m ⟨μ σ,σ,rfl,h0,hr⟩ (fun a w hI=>?_)
       have hm:m a w=Classical.choose (least hI):=dif_pos hI
       obtain⟨σ',hμ,hI',hr'⟩:=(Classical.choose_spec (least hI)).1
       refine wp_mono (ih (.code x::.kS I μ (μ σ')::k) σ' (hround σ' hI') a w hr') ?_
       intro e a2 w2 h2
       cases e with
       | normal =>
         obtain⟨σ2,h3,h4,I5⟩:=h2
         have hS:∃ n,S a2 w2 n:=⟨μ σ2,σ2,rfl,h3,I5⟩
         refine⟨hS,?_⟩
         have hm2:m a2 w2=Classical.choose (least hS):=dif_pos hS
         have:=(Classical.choose_spec (least hS)).2 _ ⟨σ2,rfl,h3,I5⟩
         rw[hm,hm2]
         omega
       | _=>exact h2
     | _=>simp[bu]at h
theorem HV (u:Bool)(Ae:Nat→How){f:FuncId}{fn:Func}{c:Code}{args:List SV}{bs:List ax}{R:SV→List ax→Prop}{n:Nat}{rs:Array ResultVar}(fuel:Nat)(hf:V.P.funcs[f]? = some fn)(hb:fn.body=some c)(hn:fn.ntmps=n)(hr:fn.results=rs)(jf:Enters V f)
 (hlen:args.length≤n) (iM:∀ β β',bw bs.length β β'→aG β args=aG β' args) (h:bu V n ⟨rs.toList,R,Ae,u⟩ fuel [.code c] ⟨Yj 0 args,bs⟩):SC V f args bs R:=by
 refine EM hf hb hn hr jf hlen iM (fun F hF a w hrel=>?_)
 subst hF
 refine xj (Qf:=Qof F (DX V rs.toList R)) (fun σ a w h hr=>⟨σ,?_,hr⟩) (fun σ a w h hr=>⟨σ,?_,hr⟩) (fun c a w ⟨_,h,_⟩=>h) fuel [.code c] ⟨Yj 0 args,bs⟩ h a w hrel
 all_goals
  simp only at h
  cases hl:XT V σ rs.toList with
  | none=>rw[hl]at h;simp[si]at h
  | some l=>rw[hl]at h;simp only[DX,hl];exact h
theorem sc_ofP (Ae:Nat→How){f:FuncId}{fn:Func}{c:Code}{args:List SV}{bs:List ax}{R:SV→List ax→Prop}{n:Nat}{rs:Array ResultVar}(fuel:Nat)(hf:V.P.funcs[f]? = some fn)(hb:fn.body=some c)(hn:fn.ntmps=n)(hr:fn.results=rs)(jf:Enters V f)
 (hlen:args.length≤n) (iM:∀ β β',bw bs.length β β'→aG β args=aG β' args) (h:bu V n ⟨rs.toList,R,Ae,false⟩ fuel [.code c] ⟨Yj 0 args,bs⟩):SC V f args bs R :=
 HV false Ae fuel hf hb hn hr jf hlen iM h
theorem cz {f:FuncId}{fn:Func}{c:Code}{args:List SV}{bs:List ax}{R:SV→List ax→Prop}{n:Nat}{rs:Array ResultVar}(fuel:Nat)(hf:V.P.funcs[f]? = some fn)(hb:fn.body=some c)(hn:fn.ntmps=n)(hr:fn.results=rs)(jf:Enters V f)
 (hlen:args.length≤n) (iM:∀ β β',bw bs.length β β'→aG β args=aG β' args) (h:bu V n ⟨rs.toList,R,fun _=>.ord [],false⟩ fuel [.code c] ⟨Yj 0 args,bs⟩):SC V f args bs R :=
 sc_ofP (fun _=>.ord []) fuel hf hb hn hr jf hlen iM h
theorem aQ {f:FuncId}{fn:Func}{c:Code}{args:List SV}{r:SV}{n:Nat}{rs:Array ResultVar}(fuel:Nat)(hf:V.P.funcs[f]? = some fn)(hb:fn.body=some c)(hn:fn.ntmps=n)(hr:fn.results=rs)(jf:Enters V f)
 (hlen:args.length≤n) (fa:flat.ai args=true) (fr:flat r=true) (h:bu V n ⟨rs.toList,fun r' _=>r'=r,fun _=>.ord [],false⟩ fuel [.code c] ⟨Yj 0 args,[]⟩):PC V f args r :=
 Ip fa fr (cz fuel hf hb hn hr jf hlen (fun β β' _=>dz args fa β β') h)
theorem ae {E:Fin}{n f:Nat}{ops:Array Oper}{r:List Oper}{k:List Item}{g:FuncId}{args:List SV}{dst:Option Tmp}{σ:St}{x:SV}(h:PC V g args x)(h2:bu V n E f (.ops ops r::k) ⟨put dst x σ.t,σ.b⟩):lH V n E f ops r k g args dst σ:=by
 unfold lH;exact .inl ⟨x,h,h2⟩
theorem aJ {E:Fin}{n f:Nat}{ops:Array Oper}{r:List Oper}{k:List Item}{g:FuncId}{args:List SV}{dst:Option Tmp}{σ:St}{R:SV→List ax→Prop}(h:SC V g args σ.b R)(h2:∀ x bs,R x bs→bu V n E f (.ops ops r::k) ⟨put dst x σ.t,bs⟩)(hu:E.uni=false:=by rfl):lH V n E f ops r k g args dst σ:=by
 unfold lH;exact .inr ⟨R,h,fun hn=>(by rw[hu]at hn;cases hn),h2⟩
theorem aU {E:Fin}{n f:Nat}{ops:Array Oper}{r:List Oper}{rs:List Rk}{k:List Item}{g:FuncId}{args:List SV}{dst:Option Tmp}{σ:St}{x:SV}(h:PC V g args x)(h2:bu V n E f (.eP ops r (rs++[⟨false,false,[],[]⟩])::k) ⟨put dst x σ.t,σ.b⟩):lI V n E f ops r rs k dst σ g args:=by
 unfold lI;exact .inl ⟨x,h,h2⟩
theorem oo {E:Fin}{n f:Nat}{ops:Array Oper}{r:List Oper}{rs:List Rk}{k:List Item}{g:FuncId}{args:List SV}{dst:Option Tmp}{σ:St}{x:SV}{b:List ax}(h:SC V g args σ.b (fun r' b'=>r'=x∧b'=b))(h2:bu V n E f (.eP ops r (rs++[⟨true,true,[],[]⟩])::k) ⟨put dst x σ.t,b⟩):lI V n E f ops r rs k dst σ g args:=by
 unfold lI;exact .inr (.inl ⟨x,b,h,h2⟩)
theorem bC {E:Fin}{n f:Nat}{ops:Array Oper}{r:List Oper}{rs:List Rk}{k:List Item}{g:FuncId}{args:List SV}{dst:Option Tmp}{σ:St}{x:SV}{b:List ax}(W:List (Nat × Nat × Nat))(h:SC V g args σ.b (fun r' b'=>r'=x∧b'=b))(ho:CV W b σ.b)
 (h2:bu V n E f (.eP ops r (rs++[⟨true,false,[],W⟩])::k) ⟨put dst x σ.t,b⟩):lI V n E f ops r rs k dst σ g args:=by
 unfold lI;exact .inr (.inr ⟨x,b,W,h,ho,h2⟩)
theorem aM {E:Fin}{n f:Nat}{x:Code}{k:List Item}{σ:St}(I:St→Prop)(μ:St→Nat)(h0:I σ)(h:∀ σ',I σ'→bu V n E f (.code x::.kS I μ (μ σ')::k) σ'):uQ V n E f x k σ:=by
 unfold uQ;exact⟨I,μ,h0,h⟩
def kX (f:Nat→Nat)(l:List (Nat × Nat × Nat)):List (Nat × Nat × Nat):=l.map fun x=>(f x.1,x.2.1,x.2.2)
def fX (f:Nat→Nat)(r:Rk):Rk:=⟨r.s,r.all,kX f r.rd,kX f r.wr⟩
theorem EB (f:Nat→Nat)(xs ys:List (Nat × Nat × Nat))(h:mB xs ys=true):mB (kX f xs) (kX f ys)=true:=by
 unfold mB at h ⊢
 obtain⟨a,ha,h⟩:=zK9.1 h
 obtain⟨b,hb,h⟩:=zK9.1 h
 refine zK9.2 ⟨_,zLt ha,zK9.2 ⟨_,zLt hb,?_⟩⟩
 unfold ovl at h ⊢
 simp only[zKP,beq_iff_eq]at h ⊢
 exact⟨by rw[h.1],h.2⟩
theorem fg (f:Nat→Nat){ops:Array Oper}{rs:List Rk}(h:Kg ops (rs.map (fX f))):Kg ops rs:=by
 simp only[Kg,zKP]at h ⊢
 refine⟨?_,h.2⟩
 have h1:=h.1
 unfold zS at h1 ⊢
 refine zKS.2 (fun i hi=>zKS.2 (fun k hk=>?_))
 have h2:=zKS.1 (zKS.1 h1 i hi) k hk
 simp only[zKQ]at h2 ⊢
 refine h2.imp_right (fun h2=>?_)
 have hg:∀ j,((rs.map (fX f))[j]?).getD wG=fX f ((rs[j]?).getD wG):=fun j=>by
  rw[List.getElem?_map]
  cases rs[j]? <;> rfl
 have hp:za ops (rs.map (fX f)) i k=za ops rs i k:=by unfold za;simp only[hg];rfl
 unfold uv at h2 ⊢
 simp only[hg,hp]at h2
 generalize (rs[i]?).getD wG=ri at h2 ⊢
 generalize (rs[k]?).getD wG=rk at h2 ⊢
 have hs:∀ r,(fX f r).s=r.s:=fun _=>rfl
 have ha:∀ r,(fX f r).all=r.all:=fun _=>rfl
 have he:(fX f ri).rd.isEmpty=ri.rd.isEmpty:=by
  show (ri.rd.map _).isEmpty=_
  cases ri.rd <;> rfl
 rw[hs,hs,ha,he]at h2
 split
 ·rename_i hc
  rw[if_pos hc]at h2
  exact h2
 ·rename_i hc
  rw[if_neg hc]at h2
  split
  ·rename_i rX
   rw[if_pos rX]at h2
   exact h2
  ·rename_i rX
   rw[if_neg rX]at h2
   split
   ·rename_i vw
    rw[if_pos vw]at h2
    simp only[zKQ,Bool.not_eq_true',Bool.or_eq_false_iff]at h2 ⊢
    refine h2.imp_right (fun h2=>⟨h2.1,?_⟩)
    cases ho:mB ri.rd rk.wr with
    | false=>rfl
    | true =>
      have:=EB f _ _ ho
      rw[show mB (kX f ri.rd) (kX f rk.wr)=false from h2.2]at this
      cases this
   ·rfl
end
def nK (ms:List Nat):List (Nat × Bool)→Nat
 | []=>0
 | (e,true)::r=>nK ms r ||| (1 <<< e) ||| ms.getD e 0
 | (_,false)::r=>nK ms r
def JE {β:Type}(m:Nat)(f:Nat→β):β:=match m with
 | 0=>f 0
 | k+1=>f (k+1)
theorem GR {β:Type}(m:Nat)(f:Nat→β):JE m f=f m:=by cases m <;> rfl
def edges (o:Oper):List (Nat × Bool):=o.after.toList.map fun e=>(e.on,Region.binds .any e)
def vI:List Oper→List Nat→List Nat
 | [],ms=>ms
 | o::r,ms=>JE (nK ms (edges o)) fun m=>vI r (ms++[m])
def zM (D:List Nat)(i k:Nat):Bool:=(D.getD i 0).testBit k
def HK (D:List Nat)(i k:Nat):Bool:=if k<i then zM D i k else zM D k i
def preF (ops:Array Oper)(rs:List Rk)(D:List Nat)(i k:Nat):Bool:=!(eC ops k&&decide (k<i))||(zKW k).all fun j=>!(((rs[j]?).getD wG).s)||zM D i j
def pairF (ops:Array Oper)(rs:List Rk)(D:List Nat)(i k:Nat):Bool :=
 if sy ops i k then HK D i k&&preF ops rs D i k
 else if ((rs[i]?).getD wG).s&&((rs[k]?).getD wG).s then eC ops (max i k)||HK D i k
 else if ((rs[k]?).getD wG).s&&!((rs[i]?).getD wG).rd.isEmpty then(HK D i k&&preF ops rs D i k)||!(((rs[k]?).getD wG).all||mB ((rs[i]?).getD wG).rd ((rs[k]?).getD wG).wr)
 else true
def okF (ops:Array Oper)(rs:List Rk):Bool :=
 ((zKW ops.size).all fun i=>(zKW ops.size).all fun k=>k==i||pairF ops rs (vI ops.toList []) i k)&&J9 ops
theorem vH {ops:Array Oper}:∀ (f g i k:Nat),f≤g→kT ops f i k=true→kT ops g i k=true
 | 0,_,_,_,_,h=>by simp[kT]at h
 | f+1,0,_,_,h,_=>by omega
 | f+1,g+1,i,k,hfg,h=>by
   rw[kT]at h ⊢
   split at h
   ·rename_i o ho
    rw[← Array.any_toList,zK9]at h ⊢
    obtain⟨e,he,h⟩:=h
    refine⟨e,he,?_⟩
    simp only[zKP,zKQ]at h ⊢
    refine⟨h.1,h.2.imp id (vH f g e.on k (by omega))⟩
   ·cases h
theorem pJ (ms:List Nat)(k:Nat):∀ l:List (Nat × Bool),(nK ms l).testBit k=true→∃ e,(e,true)∈l∧(e=k∨(ms.getD e 0).testBit k=true)
 | [],h=>by simp[nK]at h
 | (e,true)::r,h=>by
  rw[nK,Nat.testBit_or,Nat.testBit_or,zKQ,zKQ]at h
  rcases h with(h|h) | h
  ·obtain⟨e',h1,h2⟩:=pJ ms k r h
   exact⟨e',zLj _ h1,h2⟩
  ·refine⟨e,zLa,.inl ?_⟩
   rw[Nat.one_shiftLeft,Nat.testBit_two_pow]at h
   simpa using h
  ·exact⟨e,zLa,.inr h⟩
 | (_,false)::r,h=>by
  rw[nK]at h
  obtain⟨e',h1,h2⟩:=pJ ms k r h
  exact⟨e',zLj _ h1,h2⟩
theorem CE {ops:Array Oper}:∀ (r:List Oper)(ms:List Nat),ops.toList.drop ms.length=r→(∀ i k,(ms.getD i 0).testBit k=true→i<ms.length∧kT ops (i+1) i k=true) →
 ∀ i k,((vI r ms).getD i 0).testBit k=true→kT ops (i+1) i k=true
 | [],ms,_,h,i,k,hb=>(h i k hb).2
 | o::r,ms,hd,h,i,k,hb=>by
   rw[vI,GR]at hb
   have aB:ms.length<ops.toList.length:=by
    apply Nat.lt_of_not_le
    intro hle
    rw[List.drop_eq_nil_of_le hle]at hd
    cases hd
   have ho:ops[ms.length]? = some o:=by
    rw[← Array.getElem?_toList,zLc aB]
    rw[List.drop_eq_getElem_cons aB]at hd
    rw[(zKU.inj hd).1]
   refine CE r (ms++[nK ms (edges o)]) ?_ ?_ i k hb
   ·rw[zKX,zK3]
    rw[List.drop_eq_getElem_cons aB]at hd
    exact(zKU.inj hd).2
   ·intro i k hb
    rw[zKY]at hb
    rcases Nat.lt_trichotomy i ms.length with hi|hi|hi
    ·rw[zKT hi,← zKY]at hb
     exact⟨by simp;omega,(h i k hb).2⟩
    ·subst hi
     rw[zKZ (zK1 _),Nat.sub_self]at hb
     simp only[List.getElem?_cons_zero,Option.getD_some]at hb
     refine⟨by simp,?_⟩
     obtain⟨e,h1,h2⟩:=pJ ms k _ hb
     obtain⟨d,lM,nY⟩:=List.mem_map.1 h1
     rw[kT,ho]
     simp only
     rw[← Array.any_toList]
     refine zK9.2 ⟨d,lM,?_⟩
     simp only[Prod.mk.injEq]at nY
     rw[nY.2,nY.1,Bool.true_and,zKQ]
     rcases h2 with rfl|h2
     ·left;simp
     ·right
      have:=h e k h2
      exact vH (e+1) _ e k (by omega) this.2
    ·rw[List.getElem?_eq_none (by simp;omega)]at hb
     simp at hb
theorem aq {ops:Array Oper}{rs:List Rk}(h:okF ops rs=true):Kg ops rs:=by
 unfold okF at h
 rw[zKP]at h
 obtain⟨h,ha⟩:=h
 unfold Kg zS
 rw[zKP]
 refine⟨zKS.2 fun i hi=>zKS.2 fun k hk=>?_,ha⟩
 have h1:=zKS.1 (zKS.1 h i hi) k hk
 rw[zKQ]at h1 ⊢
 refine h1.imp id fun h1=>?_
 have hdep:∀ i k,i∈zKW ops.size→zM (vI ops.toList []) i k=true→kT ops ops.size i k=true:=fun i k hi hb =>
  vH (i+1) _ i k (by have:=zK5.1 hi;omega) (CE ops.toList [] (by simp) (fun i k hb=>by simp at hb) i k hb)
 have htie:HK (vI ops.toList []) i k=true→tW ops i k=true:=fun h=>by
  unfold HK at h
  unfold tW
  split
  ·rename_i jb;rw[if_pos jb]at h;exact hdep i k hi h
  ·rename_i jb;rw[if_neg jb]at h;exact hdep k i hk h
 have dK:preF ops rs (vI ops.toList []) i k=true→za ops rs i k=true:=fun h=>by
  unfold preF at h
  unfold za
  rw[zKQ]at h ⊢
  refine h.imp id (fun h=>zKS.2 fun j hj=>?_)
  have:=zKS.1 h j hj
  rw[zKQ]at this ⊢
  exact this.imp id (fun h=>hdep i j hi h)
 unfold pairF at h1
 unfold uv
 split
 ·rename_i hc
  rw[if_pos hc,zKP]at h1
  rw[zKP]
  exact⟨htie h1.1,dK h1.2⟩
 ·rename_i hc
  rw[if_neg hc]at h1
  split
  ·rename_i rX
   rw[if_pos rX,zKQ]at h1
   rw[zKQ]
   exact h1.imp id htie
  ·rename_i rX
   rw[if_neg rX]at h1
   split
   ·rename_i vw
    rw[if_pos vw]at h1
    rw[zKQ]at h1 ⊢
    refine h1.imp (fun h1=>?_) id
    rw[zKP]at h1 ⊢
    exact⟨htie h1.1,dK h1.2⟩
   ·rfl
def aa:=zKN (zKN (zKN (zKN (zKN (@Gm) (zKN (@Option.getD_some.{0}) (@Option.getD_none.{0}))) (zKN (@List.getElem?_cons_zero.{0}) (zKN (@List.getElem?_cons_succ.{0}) (@List.length_cons.{0})))) (zKN (zKN (@List.length_nil.{0}) (zKN (@List.cons_append.{0}) (@List.nil_append.{0}))) (zKN (@zLm.{0}) (zKN (@List.map_cons.{0,0}) (@List.map_nil.{0,0}))))) (zKN (zKN (zKN (@List.take_succ_cons.{0}) (zKN (@List.take_zero.{0}) (@List.drop_succ_cons.{0}))) (zKN (@List.drop_zero.{0}) (zKN (@List.set_cons_zero.{0}) (@List.set_cons_succ.{0})))) (zKN (zKN (@List.all_cons.{0}) (zKN (@List.all_nil.{0}) (@List.mapIdx_cons.{0,0}))) (zKN (zKN (@List.mapIdx_nil.{0,0}) (@List.getD_cons_zero.{0})) (zKN (@List.getD_cons_succ.{0}) (@zK7.{0,0})))))) (zKN (zKN (zKN (zKN (@zLu.{0,0}) (zKN (@zK0.injEq.{0}) (@Nat.zero_add))) (zKN (@Nat.add_zero) (zKN (@decide_true) (@decide_false)))) (zKN (zKN (@Bool.and_true) (zKN (@Bool.true_and) (@Bool.and_false))) (zKN (zKN (@Bool.false_and) (@true_and)) (zKN (@and_true) (@false_and))))) (zKN (zKN (zKN (@and_false) (zKN (@if_true.{1}) (@if_false.{1}))) (zKN (@List.toList_toArray.{0}) (zKN (@Bool.not_true) (@Bool.not_false)))) (zKN (zKN (@Bool.false_eq_true) (zKN (@false_implies) (@Int.toNat_natCast))) (zKN (zKN (@Wf.De) (@Wf.Dg)) (zKN (@Wf.Df) (@List.take_length.{0}))))))
def ad:=zKN (zKN (zKN (@Yd.eq_11) (@Yd.eq_10)) (zKN (@Dy.eq_1) (zKN (@H5.eq_1) (@II)))) (zKN (zKN (@Iw.eq_1) (@Iw.eq_2)) (zKN (@itOf.eq_1) (zKN (zKN (zKN (zKN (@bu.eq_21) (@bu.eq_22)) (zKN (@bu.eq_23) (@bu.eq_24))) (zKN (zKN (@bu.eq_25) (@yV.eq_1)) (zKN (@ET.eq_1) (@ES.eq_1)))) (zKN (zKN (zKN (zKN (@nA.eq_1) (zKN (@nA.eq_2) (@EW.eq_1))) (zKN (@nz.eq_1) (zKN (@nz.eq_2) (@oK.eq_1)))) (zKN (zKN (@oK.eq_2) (zKN (@oK.eq_3) (@oT.eq_1))) (zKN (zKN (@EV.eq_1) (@EV.eq_2)) (zKN (@iy.eq_1) (@iy.eq_2))))) (zKN (zKN (zKN (zKN (zKN (zKN (zKN (zKN (@bu.eq_1) (@bu.eq_2)) (zKN (@bu.eq_3) (@bu.eq_4))) (zKN (zKN (@bu.eq_5) (@bu.eq_6)) (zKN (@bu.eq_7) (zKN (@bu.eq_8) (@bu.eq_9))))) (zKN (zKN (zKN (@bu.eq_10) (@bu.eq_11)) (zKN (@bu.eq_12) (@bu.eq_13))) (zKN (zKN (@bu.eq_14) (@bu.eq_15)) (zKN (@bu.eq_16) (zKN (@bu.eq_17) (@bu.eq_18)))))) (zKN (zKN (zKN (zKN (@bu.eq_19) (@bu.eq_20)) (zKN (@XQ.eq_1) (@XG.eq_1))) (zKN (zKN (@Ft.eq_1) (@Ft.eq_2)) (zKN (@tf.eq_1) (zKN (@tf.eq_2) (@tf.eq_3))))) (zKN (zKN (zKN (@G9.eq_1) (@G9.eq_2)) (zKN (@Yl.eq_1) (zKN (@Yl.eq_2) (@Yl.eq_3)))) (zKN (zKN (@Yl.eq_4) (@Yl.eq_5)) (zKN (@Yl.eq_6) (zKN (@Yl.eq_7) (@Yl.eq_8))))))) (zKN (zKN (zKN (zKN (zKN (zKN @Yl.eq_9 (zKN @Yl.eq_10 (zKN @DU.eq_1 (zKN @CJ.eq_1 @CJ.eq_2)))) (@Xm.eq_1)) (zKN (@Xm.eq_2) (@Xm.eq_3))) (zKN (zKN (@Yn.eq_1) (@Yi.eq_1)) (zKN (@Yi.eq_2) (zKN (@Xa.eq_1) (@Ym.eq_1))))) (zKN (zKN (zKN (@Ym.eq_2) (@Xc.eq_1)) (zKN (@Xc.lU.eq_1) (zKN (@Xc.lU.eq_2) (@reS.eq_1)))) (zKN (zKN (@reS.eq_2) (@Xj.eq_1)) (zKN (@Yb.eq_1) (zKN (@mmS.eq_1) (@mmS.eq_2)))))) (zKN (zKN (zKN (zKN (@Xq.eq_1) (@Xq.eq_2)) (zKN (@tC.eq_1) (@tC.eq_2))) (zKN (zKN (zKN @tC.eq_3 (zKN @capB.eq_1 @capB.eq_2)) (@AE.eq_1)) (zKN (@AE.eq_2) (zKN (@AE.eq_3) (@AE.eq_4))))) (zKN (zKN (zKN (@XP.eq_1) (@XP.eq_2)) (zKN (@XP.eq_3) (zKN (@XN.eq_1) (@XN.eq_2)))) (zKN (zKN (@XO.eq_1) (@XO.eq_2)) (zKN (@Yc.eq_1) (zKN (@Yc.eq_2) (@Yc.eq_3)))))))) (zKN (zKN (zKN (zKN (zKN (zKN (@XA.eq_1) (@XA.eq_2)) (zKN (@XA.eq_3) (@Yg.eq_1))) (zKN (zKN (@Yg.eq_2) (@Yg.eq_3)) (zKN (@Yg.eq_4) (zKN (@Xy.eq_1) (@Xy.eq_2))))) (zKN (zKN (zKN (@Xy.eq_3) (@XE.eq_1)) (zKN (@XE.eq_2) (zKN (@XE.eq_3) (@si.eq_1)))) (zKN (zKN (@si.eq_2) (@eX.eq_1)) (zKN (@eX.eq_2) (zKN (@eX.eq_3) (@Yk.eq_1)))))) (zKN (zKN (zKN (zKN (@Yk.eq_2) (@XR.eq_1)) (zKN (@Yd.eq_1) (@Yd.eq_2))) (zKN (zKN (@Yd.eq_3) (@Yd.eq_4)) (zKN (@Yd.eq_5) (zKN (@Yd.eq_6) (@Yd.eq_7))))) (zKN (zKN (zKN (zKN (@Yd.eq_8) (zKN (@Yd.eq_9) (zKN (@yS.eq_1) (zKN (@zu.eq_1) (zKN (@tL.eq_1) (zKN (@rI.eq_1) (@rI.eq_2))))))) (@goR.eq_1)) (zKN (@goR.eq_2) (zKN (@XC.eq_1) (@sBox.eq_1)))) (zKN (zKN (@XU.eq_1) (@XH.eq_1)) (zKN (@Xr.eq_1) (zKN (@sNil.eq_1) (@XL.eq_1))))))) (zKN (zKN (zKN (zKN (zKN (@Xt.eq_1) (@Xt.eq_2)) (zKN (@XV.eq_1) (@Xv.eq_1))) (zKN (zKN (@Xv.eq_2) (@Xv.eq_3)) (zKN (@Xv.eq_4) (zKN (@Xv.eq_5) (@Xv.eq_6))))) (zKN (zKN (zKN (@Xv.eq_7) (@Xv.eq_8)) (zKN (@GQ.eq_1) (zKN (@GQ.eq_2) (@pq.eq_1)))) (zKN (zKN (@XI.eq_1) (@XF.eq_1)) (zKN (@XB.eq_1) (zKN (@JY.eq_1) (@XK.eq_1)))))) (zKN (zKN (zKN (zKN (@XD.eq_1) (@JZ.eq_1)) (zKN (@dN.eq_1) (@dN.eq_2))) (zKN (zKN (@Xz.eq_1) (@Xz.eq_2)) (zKN (@Xz.eq_3) (zKN (@Xz.eq_4) (@Xz.eq_5))))) (zKN (zKN (zKN (zKN (@Xz.eq_6) (@Xz.eq_7)) (@Ac.eq_1)) (zKN (@Ac.eq_2) (zKN (@Ac.eq_3) (@Ac.eq_4)))) (zKN (zKN (@Ac.eq_5) (@Ac.eq_6)) (zKN (@Ac.eq_7) (zKN (@idxs.eq_1) (@idxs.eq_2))))))))) (zKN (zKN (zKN (zKN (zKN (zKN (zKN (zKN (@idxs.eq_3) (@idxs.eq_4)) (@pv.eq_1)) (zKN (@pv.eq_2) (@pv.eq_3))) (zKN (zKN (@pv.eq_4) (@pv.eq_5)) (zKN (@pv.eq_6) (zKN (@pv.eq_7) (@pv.eq_8))))) (zKN (zKN (zKN (@pv.eq_9) (@pv.eq_10)) (zKN (@pv.eq_11) (zKN (@pv.eq_12) (@pv.eq_13)))) (zKN (zKN (@pv.eq_14) (@pv.eq_15)) (zKN (zKN (@pv.eq_16) (zKN (@pv.eq_17) (@pv.eq_18))) (zKN (@XX.eq_1) (@Ya.eq_1)))))) (zKN (zKN (zKN (zKN (@XJ.eq_1) (@XJ.eq_2)) (zKN (@XJ.eq_3) (@XJ.eq_4))) (zKN (zKN (@Xb.eq_1) (@Xu.eq_1)) (zKN (@oBin.eq_1) (zKN (@oUn.eq_1) (zKN (@oUn.eq_2) (@oUn.eq_3)))))) (zKN (zKN (zKN (@Ye.eq_1) (@XW.eq_1)) (zKN (@XW.eq_2) (zKN (@XW.eq_3) (@Xw.eq_1)))) (zKN (zKN (@Xx.eq_1) (@Xh.eq_1)) (zKN (@Xk.eq_1) (zKN (@XY.eq_1) (@XY.eq_2))))))) (zKN (zKN (zKN (zKN (zKN (@XS.eq_1) (@Gk.eq_1)) (zKN (@Gk.eq_2) (@Gk.eq_3))) (zKN (zKN (@mc.eq_1) (@mc.eq_2)) (zKN (@mc.eq_3) (zKN (@mc.eq_4) (@Yh.eq_1))))) (zKN (zKN (zKN (@Yh.eq_2) (@Yh.eq_3)) (zKN (@Yh.eq_4) (zKN (@ev.eq_1) (@ev.eq_2)))) (zKN (zKN (@ev.eq_3) (@ev.eq_4)) (zKN (@lk.eq_1) (zKN (@lk.eq_2) (@put.eq_1)))))) (zKN (zKN (zKN (zKN (@put.eq_2) (@fits.eq_1)) (zKN (@fits.eq_2) (@kd.eq_1))) (zKN (zKN (@sz.eq_1) (@bin.eq_1)) (zKN (@bin.eq_2) (zKN (@bin.eq_3) (@mA.eq_1))))) (zKN (zKN (zKN (@mA.eq_2) (@mA.eq_3)) (zKN (@mA.eq_4) (zKN (@mA.eq_5) (@mA.eq_6)))) (zKN (zKN (@mA.eq_7) (@mA.eq_8)) (zKN (@mA.eq_9) (zKN (@mA.eq_10) (@mA.eq_11)))))))) (zKN (zKN (zKN (zKN (zKN (zKN (@mA.eq_12) (@mA.eq_13)) (zKN (@mA.eq_14) (@mA.eq_15))) (zKN (zKN (@mA.eq_16) (@mA.eq_17)) (zKN (@xf.eq_1) (zKN (@xf.eq_2) (@xf.eq_3))))) (zKN (zKN (zKN (@xf.eq_4) (@xf.eq_5)) (zKN (@xf.eq_6) (zKN (@xf.eq_7) (@xf.eq_8)))) (zKN (zKN (@Ad.eq_1) (@ar.eq_1)) (zKN (@ar.eq_2) (zKN (@Et.eq_1) (@Et.eq_2)))))) (zKN (zKN (zKN (zKN (@Et.eq_3) (@Et.eq_4)) (zKN (@Et.eq_5) (@Et.eq_6))) (zKN (zKN (@Et.eq_7) (@Et.eq_8)) (zKN (@eqS.eq_1) (zKN (@eqS.eq_2) (@Cu.eq_1))))) (zKN (zKN (zKN (@Cu.eq_2) (@Cu.eq_3)) (zKN (@Cu.eq_4) (zKN (@Cu.eq_5) (@Cu.eqF.eq_1)))) (zKN (zKN (@Cu.eqF.eq_2) (@DT.eq_1)) (zKN (@DT.eq_2) (zKN (@DT.eq_3) (@vT.eq_1))))))) (zKN (zKN (zKN (zKN (zKN (@vT.eq_2) (@vT.eq_3)) (zKN (@vT.eq_4) (@vT.eq_5))) (zKN (zKN (@pH.eq_1) (@pH.eq_2)) (zKN (@XM.eq_1) (zKN (@cells.eq_1) (@cells.eq_2))))) (zKN (zKN (zKN (@IK.eq_1) (@IK.eq_2)) (zKN (@one.eq_1) (zKN (@one.eq_2) (@one.eq_3)))) (zKN (zKN (@one.eq_4) (@Xs.eq_1)) (zKN (@iC.eq_1) (zKN (@tg.eq_1) (@XZ.eq_1)))))) (zKN (zKN (zKN (zKN (@XZ.eq_2) (@Yf.eq_1)) (zKN (@Yf.eq_2) (@Xl.eq_1))) (zKN (zKN (@Xl.eq_2) (@XT.eq_1)) (zKN (@XT.eq_2) (zKN (@Gb.eq_1) (@Gb.eq_2))))) (zKN (zKN (zKN (@rz.eq_1) (@rz.eq_2)) (zKN (@ofV.eq_1) (zKN (@ofV.eq_2) (@ofV.eq_3)))) (zKN (zKN (@ofV.eq_4) (@ofV.eq_5)) (zKN (@ofV.eq_6) (zKN (@Yj.eq_1) (@Yj.eq_2))))))))))))))
end Vc
namespace Go.Proofs.YteipdaijbncgeaaGreatDoor
open Go Vc Go.RowKit Wf
open Go.ChangeShapes Go.WideShapes Go.ChangeAt
open Go.WideMaps Go.WideElems
open Go.ChangeMaps (setBlock shut_map_nil open_string shut_string keptBut_setBlock frozen?_setBlock heap_setBlock_same)
theorem env_of {W:World}(h:W.ShapedOpen Tryz.prog):Env W :=
 Go.Proofs.cell_of_shapedOpen_int (zero:=#[.int .i64 0]) (t:=3) h (of_decide_eq_true (by kernel_rfl)) (by kernel_rfl) rfl (by kernel_rfl) (by kernel_rfl) Tryz.underlying3
theorem own:ownKnob Tryz.prog.godebug=none:=by kernel_rfl
theorem laidOut:laidOutB Tryz.prog=true:=by kernel_rfl
section
variable {H:Type} {enc:TypeId × Value→H} {W W':World}
theorem oP {P:Program}(hl:laidOutB P=true){B:Nat}:∀ {ts:List TypeId}{vs:List Value}{ds:List (DataW H)}{ps:List MemPlace},ts.all (fun t=>P.readableRec t&&decide (t<P.types.size))=true →
 DataW.TrodAll enc P W 0 (fun _=>true) true ts vs ds ps→(∀ p∈ps,W.sameAt W' p)→(∀ p∈ps,p.block<B)→DataW.TrodAll enc P W' 0 (fun b=>decide (b<B)) true ts vs ds ps
 | [],[],[],ps,_,h,_,_=>h
 | t::ts,v::vs,d::ds,ps,hr,h,hs,hb=>by
   obtain⟨p,q,h1,h2,rfl⟩:=h
   simp only[List.all_cons,zKP,decide_eq_true_eq]at hr
   exact⟨p,q,Trod_stays hl hr.1.1 hr.1.2 h1 (fun x hx=>hs x (zLs _ hx)) (fun x hx=>by simpa using hb x (zLs _ hx)),oP hl hr.2 h2 (fun x hx=>hs x (List.mem_append_right _ hx)) (fun x hx=>hb x (List.mem_append_right _ hx)),rfl⟩
 | [],_::_,_,_,_,h,_,_=>by cases h
 | [],[],_::_,_,_,h,_,_=>by cases h
 | _::_,[],_,_,_,h,_,_=>by cases h
 | _::_,_::_,[],_,_,h,_,_=>by cases h
theorem IE {P:Program}{fn:Func}{s:ChangeSpec}{args:Array Value}{ds gs:List (DataW H)}{before:List MemPlace}{tb:TypeId}(hl:laidOutB P=true)
 (hpar:fn.params.toList.all (fun t=>P.readableRec t&&decide (t<P.types.size))=true) (hv:s.vars=[]) (hr:fn.resultTypes=#[tb]) (htb:P.underlying tb=some .bool)
 (hgs:gs=[]) (kO:(s.fn H ds).results=[.lit (.bool true)]) (ig:(s.fn H ds).args=ds) (hvs:(s.fn H ds).vars=[])
 (hW:DataW.Whole enc P fn.params.toList s.vars false W args.toList ds gs before) (bel:Below W.heap.size W W'):s.post enc P fn false true false false W args (.bool true) W':=by
 have aB:=hW.lt
 have hW':=hW
 obtain⟨p,q,hA,hV,hb,-,-⟩:=hW
 subst hgs
 rw[hv]at hV
 obtain⟨-,rfl⟩:=trodVars_none hV
 subst hb
 refine⟨ds,[],_,[],p,[],hW',?_,?_,?_,bel.frame _,fun h=>by cases h⟩
 ·rw[zLm,kO,hr]
  exact trodAll_mk1 (shut_bool htb _)
 ·rw[zLm,ig]
  exact oP hl hpar hA (fun x hx=>bel.same (aB x (zLs _ hx))) (fun x hx=>aB x (zLs _ hx))
 ·rw[zLm,hvs,hv]
  rfl
end
def flatD:Nat→DataW Unit→List Value
 | _,.lit (.int k i)=>[.int k i]
 | n+1,.agg ps=>ps.flatMap (flatD n)
 | _,_=>[]
def setCells (d:DataW Unit):Obj→Obj
 | .cells _ t fr=>.cells (flatD 8 d).toArray t fr
 | o=>o
noncomputable def xZ (os:Os):World :=
 { World.holding Tryz.prog os ⟨#[],#[],[]⟩ with heap:=((World.holding Tryz.prog os ⟨#[],#[],[]⟩).heap.modify 1 (setCells Go.Pinned.utf8First)).modify 2 (setCells Rows.laid_unicode_utf8_acceptRanges) }
set_option maxRecDepth 100000 in
theorem IH (os : Os) (args : Array Value) : laidMet Tryz.prog [("unicode/utf8.acceptRanges", Rows.laid_unicode_utf8_acceptRanges), ("unicode/utf8.first", Rows.laid_unicode_utf8_first)] ((xZ os).forCall (fun _ _ => 0) ⟨#[], args, []⟩).memory :=
 laidMet_of_run3 8 (by kernel_rfl) (by kernel_rfl) (by kernel_rfl)
open Go in
theorem Il:true=Tryz.pinned.checked.prog.looks []:=by kernel_rfl
open Go Go.RowKit
set_option maxRecDepth 100000
theorem pf_maps:mapsRowed Tryz.pinned.checked.prog=true:=by kernel_rfl
theorem pf_stops:(Tryz.pinned.checked.prog.stops==[])=true:=by kernel_rfl
theorem pf_knobs:(Tryz.pinned.checked.prog.stopKnobs==[])=true:=by kernel_rfl
theorem pf_keys:(Rows.cacheSoundRow.plainKeys==Tryz.pinned.checked.prog.plainKeys)=true:=by kernel_rfl
theorem pf_heard:Tryz.pinned.checked.prog.stopsHeard=true:=by kernel_rfl
theorem pf_may:Tryz.pinned.checked.prog.mayEnter=true:=by kernel_rfl
theorem pf_lifts:(Rows.cacheSoundRow.lifted==Tryz.pinned.checked.prog.liftsFinal)=true:=by kernel_rfl
theorem pf_make:(Tryz.pinned.checked.prog.make==some Rows.cacheSoundRow.make)=true:=by kernel_rfl
theorem and4 {a b c d:Bool}(h:(a&&b&&c&&d)=true):(a=true∧b=true)∧c=true∧d=true:=by
 simp only[zKP]at h
 exact⟨⟨h.1.1.1,h.1.1.2⟩,h.1.2,h.2⟩
open Go Vc Go.RowKit Wf
open Go.ChangeShapes Go.WideShapes Go.ChangeAt
open Go.WideMaps Go.WideElems
section
variable {H:Type} {enc:TypeId × Value→H} {w:World} {base:Nat} {sp:Nat→Bool} {held:Bool}
theorem EF {fuel:Nat}{cs:List Value}{x:DataW H × List MemPlace}(h:DataW.trod enc Tryz.prog w base sp held fuel 36 cs=some x):∃ (a0:Int) (a1:Bytes) (a2:Bytes) (a3:Int),cs=[Value.int .i64 a0,Value.string ⟨⟨a1⟩⟩,Value.string ⟨⟨a2⟩⟩,Value.int .i64 a3]∧x=(.agg [.lit (.int .i64 a0),.lit (.string a1),.lit (.string a2),.lit (.int .i64 a3)],[])∧(Lit.int .i64 a0).wf=true∧a1.length≤maxLen∧a2.length≤maxLen∧(Lit.int .i64 a3).wf=true:=by
 obtain⟨xs,n,_,rfl,hl,hlen,hf⟩:=DataW.trod_struct Tryz.underlying36 h
 have hC:Tryz.prog.cellsOf 36=4:=by kernel_rfl
 rw[hC]at hl
 obtain⟨c0,c1,c2,c3,rfl⟩:∃ c0 c1 c2 c3,cs=[c0,c1,c2,c3]:=by
  match cs,hl with
  | [c0,c1,c2,c3],_=>exact⟨c0,c1,c2,c3,rfl⟩
 obtain⟨y0,y1,y2,y3,rfl⟩:∃ y0 y1 y2 y3,xs=[y0,y1,y2,y3]:=by
  match xs,hlen with
  | [y0,y1,y2,y3],_=>exact⟨y0,y1,y2,y3,rfl⟩
 have e0:DataW.trod enc Tryz.prog w base sp held n 3 [c0]=some y0:=hf 0 _ rfl
 obtain⟨a0,q0,rfl,w0⟩:=DataW.trod_int Tryz.underlying3 e0
 obtain rfl:=(zKU.inj q0).1
 have e1:DataW.trod enc Tryz.prog w base sp held n 9 [c1]=some y1:=hf 1 _ rfl
 obtain⟨⟨⟨a1⟩⟩,q1,rfl,w1⟩:=DataW.trod_string Tryz.underlying9 e1
 obtain rfl:=(zKU.inj q1).1
 have e2:DataW.trod enc Tryz.prog w base sp held n 9 [c2]=some y2:=hf 2 _ rfl
 obtain⟨⟨⟨a2⟩⟩,q2,rfl,w2⟩:=DataW.trod_string Tryz.underlying9 e2
 obtain rfl:=(zKU.inj q2).1
 have e3:DataW.trod enc Tryz.prog w base sp held n 3 [c3]=some y3:=hf 3 _ rfl
 obtain⟨a3,q3,rfl,w3⟩:=DataW.trod_int Tryz.underlying3 e3
 obtain rfl:=(zKU.inj q3).1
 exact⟨a0,a1,a2,a3,rfl,rfl,w0,w1,w2,w3⟩
theorem trod_38 {fuel:Nat}{cs:List Value}{x:DataW H × List MemPlace}(h:DataW.trod enc Tryz.prog w base sp held fuel 38 cs=some x):∃ (a0:Bool) (a1:Int),cs=[Value.bool a0,Value.int .u64 a1]∧x=(.agg [.lit (.bool a0),.lit (.int .u64 a1)],[])∧(Lit.int .u64 a1).wf=true:=by
 obtain⟨xs,n,_,rfl,hl,hlen,hf⟩:=DataW.trod_struct Tryz.underlying38 h
 have hC:Tryz.prog.cellsOf 38=2:=by kernel_rfl
 rw[hC]at hl
 obtain⟨c0,c1,rfl⟩:∃ c0 c1,cs=[c0,c1]:=by
  match cs,hl with
  | [c0,c1],_=>exact⟨c0,c1,rfl⟩
 obtain⟨y0,y1,rfl⟩:∃ y0 y1,xs=[y0,y1]:=by
  match xs,hlen with
  | [y0,y1],_=>exact⟨y0,y1,rfl⟩
 have e0:DataW.trod enc Tryz.prog w base sp held n 4 [c0]=some y0:=hf 0 _ rfl
 obtain⟨a0,q0,rfl⟩:=DataW.trod_bool Tryz.underlying4 e0
 obtain rfl:=(zKU.inj q0).1
 have e1:DataW.trod enc Tryz.prog w base sp held n 31 [c1]=some y1:=hf 1 _ rfl
 obtain⟨a1,q1,rfl,w1⟩:=DataW.trod_int Tryz.underlying31 e1
 obtain rfl:=(zKU.inj q1).1
 exact⟨a0,a1,rfl,rfl,w1⟩
theorem trod_91 {fuel:Nat}{cs:List Value}{x:DataW H × List MemPlace}(h:DataW.trod enc Tryz.prog w base sp held fuel 91 cs=some x):∃ (a0:Bytes) (a1:Int) (a2:Bytes) (a3:Bytes) (a4:Bytes) (a5:Bool) (a6:Bool),cs=[Value.string ⟨⟨a0⟩⟩,Value.int .i64 a1,Value.string ⟨⟨a2⟩⟩,Value.string ⟨⟨a3⟩⟩,Value.string ⟨⟨a4⟩⟩,Value.bool a5,Value.bool a6]∧x=(.agg [.lit (.string a0),.lit (.int .i64 a1),.lit (.string a2),.lit (.string a3),.lit (.string a4),.lit (.bool a5),.lit (.bool a6)],[])∧a0.length≤maxLen∧(Lit.int .i64 a1).wf=true∧a2.length≤maxLen∧a3.length≤maxLen∧a4.length≤maxLen:=by
 obtain⟨xs,n,_,rfl,hl,hlen,hf⟩:=DataW.trod_struct Tryz.underlying91 h
 have hC:Tryz.prog.cellsOf 91=7:=by kernel_rfl
 rw[hC]at hl
 obtain⟨c0,c1,c2,c3,c4,c5,c6,rfl⟩:∃ c0 c1 c2 c3 c4 c5 c6,cs=[c0,c1,c2,c3,c4,c5,c6]:=by
  match cs,hl with
  | [c0,c1,c2,c3,c4,c5,c6],_=>exact⟨c0,c1,c2,c3,c4,c5,c6,rfl⟩
 obtain⟨y0,y1,y2,y3,y4,y5,y6,rfl⟩:∃ y0 y1 y2 y3 y4 y5 y6,xs=[y0,y1,y2,y3,y4,y5,y6]:=by
  match xs,hlen with
  | [y0,y1,y2,y3,y4,y5,y6],_=>exact⟨y0,y1,y2,y3,y4,y5,y6,rfl⟩
 have e0:DataW.trod enc Tryz.prog w base sp held n 9 [c0]=some y0:=hf 0 _ rfl
 obtain⟨⟨⟨a0⟩⟩,q0,rfl,w0⟩:=DataW.trod_string Tryz.underlying9 e0
 obtain rfl:=(zKU.inj q0).1
 have e1:DataW.trod enc Tryz.prog w base sp held n 3 [c1]=some y1:=hf 1 _ rfl
 obtain⟨a1,q1,rfl,w1⟩:=DataW.trod_int Tryz.underlying3 e1
 obtain rfl:=(zKU.inj q1).1
 have e2:DataW.trod enc Tryz.prog w base sp held n 9 [c2]=some y2:=hf 2 _ rfl
 obtain⟨⟨⟨a2⟩⟩,q2,rfl,w2⟩:=DataW.trod_string Tryz.underlying9 e2
 obtain rfl:=(zKU.inj q2).1
 have e3:DataW.trod enc Tryz.prog w base sp held n 9 [c3]=some y3:=hf 3 _ rfl
 obtain⟨⟨⟨a3⟩⟩,q3,rfl,w3⟩:=DataW.trod_string Tryz.underlying9 e3
 obtain rfl:=(zKU.inj q3).1
 have e4:DataW.trod enc Tryz.prog w base sp held n 9 [c4]=some y4:=hf 4 _ rfl
 obtain⟨⟨⟨a4⟩⟩,q4,rfl,w4⟩:=DataW.trod_string Tryz.underlying9 e4
 obtain rfl:=(zKU.inj q4).1
 have e5:DataW.trod enc Tryz.prog w base sp held n 4 [c5]=some y5:=hf 5 _ rfl
 obtain⟨a5,q5,rfl⟩:=DataW.trod_bool Tryz.underlying4 e5
 obtain rfl:=(zKU.inj q5).1
 have e6:DataW.trod enc Tryz.prog w base sp held n 4 [c6]=some y6:=hf 6 _ rfl
 obtain⟨a6,q6,rfl⟩:=DataW.trod_bool Tryz.underlying4 e6
 obtain rfl:=(zKU.inj q6).1
 exact⟨a0,a1,a2,a3,a4,a5,a6,rfl,rfl,w0,w1,w2,w3,w4⟩
theorem trod_93 {fuel:Nat}{cs:List Value}{x:DataW H × List MemPlace}(h:DataW.trod enc Tryz.prog w base sp held fuel 93 cs=some x):∃ (a0:Bytes) (a1:Int) (a2:Bytes) (a3:Bytes) (a4:Bytes) (a5:Bool) (a6:Bool) (a7:Int) (a8:Int),cs=[Value.string ⟨⟨a0⟩⟩,Value.int .i64 a1,Value.string ⟨⟨a2⟩⟩,Value.string ⟨⟨a3⟩⟩,Value.string ⟨⟨a4⟩⟩,Value.bool a5,Value.bool a6,Value.int .i64 a7,Value.int .i64 a8]∧x=(.agg [.agg [.lit (.string a0),.lit (.int .i64 a1),.lit (.string a2),.lit (.string a3),.lit (.string a4),.lit (.bool a5),.lit (.bool a6)],.lit (.int .i64 a7),.lit (.int .i64 a8)],[])∧a0.length≤maxLen∧(Lit.int .i64 a1).wf=true∧a2.length≤maxLen∧a3.length≤maxLen∧a4.length≤maxLen∧(Lit.int .i64 a7).wf=true∧(Lit.int .i64 a8).wf=true:=by
 obtain⟨xs,n,_,rfl,hl,hlen,hf⟩:=DataW.trod_struct Tryz.underlying93 h
 have hC:Tryz.prog.cellsOf 93=9:=by kernel_rfl
 rw[hC]at hl
 obtain⟨c0,c1,c2,c3,c4,c5,c6,c7,c8,rfl⟩:∃ c0 c1 c2 c3 c4 c5 c6 c7 c8,cs=[c0,c1,c2,c3,c4,c5,c6,c7,c8]:=by
  match cs,hl with
  | [c0,c1,c2,c3,c4,c5,c6,c7,c8],_=>exact⟨c0,c1,c2,c3,c4,c5,c6,c7,c8,rfl⟩
 obtain⟨y0,y1,y2,rfl⟩:∃ y0 y1 y2,xs=[y0,y1,y2]:=by
  match xs,hlen with
  | [y0,y1,y2],_=>exact⟨y0,y1,y2,rfl⟩
 have e0:DataW.trod enc Tryz.prog w base sp held n 91 [c0,c1,c2,c3,c4,c5,c6]=some y0:=hf 0 _ rfl
 obtain⟨a0,a1,a2,a3,a4,a5,a6,q0,rfl,w0,w1,w2,w3,w4⟩:=trod_91 e0
 simp only[zKU.injEq,and_true]at q0
 obtain⟨rfl,rfl,rfl,rfl,rfl,rfl,rfl⟩:=q0
 have e1:DataW.trod enc Tryz.prog w base sp held n 3 [c7]=some y1:=hf 1 _ rfl
 obtain⟨a7,q1,rfl,w7⟩:=DataW.trod_int Tryz.underlying3 e1
 obtain rfl:=(zKU.inj q1).1
 have e2:DataW.trod enc Tryz.prog w base sp held n 28 [c8]=some y2:=hf 2 _ rfl
 obtain⟨a8,q2,rfl,w8⟩:=DataW.trod_int Tryz.underlying28 e2
 obtain rfl:=(zKU.inj q2).1
 exact⟨a0,a1,a2,a3,a4,a5,a6,a7,a8,rfl,rfl,w0,w1,w2,w3,w4,w7,w8⟩
theorem HI {fuel:Nat}{cs:List Value}{x:DataW H × List MemPlace}(h:DataW.trod enc Tryz.prog w base sp held fuel 41 cs=some x):∃ (a0:Int) (a1:Int) (a2:Bytes) (a3:Bytes) (a4:Int) (a5:Int) (a6:Bytes) (a7:Bytes) (a8:Int) (a9:Bool) (a10:Int) (a11:Value) (n11:Nat) (y11:DataW H × List MemPlace),cs=[Value.int .i64 a0,Value.int .i64 a1,Value.string ⟨⟨a2⟩⟩,Value.string ⟨⟨a3⟩⟩,Value.int .i64 a4,Value.int .i64 a5,Value.string ⟨⟨a6⟩⟩,Value.string ⟨⟨a7⟩⟩,Value.int .i64 a8,Value.bool a9,Value.int .u64 a10,a11]∧x.1=.agg [.lit (.int .i64 a0),.agg [.lit (.int .i64 a1),.lit (.string a2),.lit (.string a3),.lit (.int .i64 a4)],.agg [.lit (.int .i64 a5),.lit (.string a6),.lit (.string a7),.lit (.int .i64 a8)],.agg [.lit (.bool a9),.lit (.int .u64 a10)],y11.1]∧(Lit.int .i64 a0).wf=true∧(Lit.int .i64 a1).wf=true∧a2.length≤maxLen∧a3.length≤maxLen∧(Lit.int .i64 a4).wf=true∧(Lit.int .i64 a5).wf=true∧a6.length≤maxLen∧a7.length≤maxLen∧(Lit.int .i64 a8).wf=true∧(Lit.int .u64 a10).wf=true∧DataW.trod enc Tryz.prog w base sp held n11 39 [a11]=some y11:=by
 obtain⟨xs,n,_,rfl,hl,hlen,hf⟩:=DataW.trod_struct Tryz.underlying41 h
 have hC:Tryz.prog.cellsOf 41=12:=by kernel_rfl
 rw[hC]at hl
 obtain⟨c0,c1,c2,c3,c4,c5,c6,c7,c8,c9,c10,c11,rfl⟩:∃ c0 c1 c2 c3 c4 c5 c6 c7 c8 c9 c10 c11,cs=[c0,c1,c2,c3,c4,c5,c6,c7,c8,c9,c10,c11]:=by
  match cs,hl with
  | [c0,c1,c2,c3,c4,c5,c6,c7,c8,c9,c10,c11],_=>exact⟨c0,c1,c2,c3,c4,c5,c6,c7,c8,c9,c10,c11,rfl⟩
 obtain⟨z0,z1,z2,z3,z4,rfl⟩:∃ z0 z1 z2 z3 z4,xs=[z0,z1,z2,z3,z4]:=by
  match xs,hlen with
  | [z0,z1,z2,z3,z4],_=>exact⟨z0,z1,z2,z3,z4,rfl⟩
 have e0:DataW.trod enc Tryz.prog w base sp held n 28 [c0]=some z0:=hf 0 _ rfl
 obtain⟨a0,q0,rfl,w0⟩:=DataW.trod_int Tryz.underlying28 e0
 obtain rfl:=(zKU.inj q0).1
 have e1:DataW.trod enc Tryz.prog w base sp held n 36 [c1,c2,c3,c4]=some z1:=hf 1 _ rfl
 obtain⟨a1,a2,a3,a4,q1,rfl,w1,w2,w3,w4⟩:=EF e1
 simp only[zKU.injEq,and_true]at q1
 obtain⟨rfl,rfl,rfl,rfl⟩:=q1
 have e2:DataW.trod enc Tryz.prog w base sp held n 36 [c5,c6,c7,c8]=some z2:=hf 2 _ rfl
 obtain⟨a5,a6,a7,a8,q2,rfl,w5,w6,w7,w8⟩:=EF e2
 simp only[zKU.injEq,and_true]at q2
 obtain⟨rfl,rfl,rfl,rfl⟩:=q2
 have e3:DataW.trod enc Tryz.prog w base sp held n 38 [c9,c10]=some z3:=hf 3 _ rfl
 obtain⟨a9,a10,q3,rfl,w10⟩:=trod_38 e3
 simp only[zKU.injEq,and_true]at q3
 obtain⟨rfl,rfl⟩:=q3
 have e4:DataW.trod enc Tryz.prog w base sp held n 39 [c11]=some z4:=hf 4 _ rfl
 exact⟨a0,a1,a2,a3,a4,a5,a6,a7,a8,a9,a10,c11,n,z4,rfl,rfl,w0,w1,w2,w3,w4,w5,w6,w7,w8,w10,e4⟩
end
end Go.Proofs.YteipdaijbncgeaaGreatDoor
namespace Vc
open Go Go.RowKit Wf
theorem mW.mono {own own':Nat→Prop}{w w':World}(h:mW own w w')(k:∀ b,own b→own' b):mW own' w w' :=
 ⟨h.os,h.tape,h.output,h.size,fun b hb hn=>h.block b hb (fun e=>hn (k b e))⟩
def sn (TB TU:TypeId)(l:List UInt8):Rsc where
 holds t fp w:=t.off=0∧∃ (p:Value) (t2:Bt) (f2:Nat→Prop),(p=.pointer none∨p=.pointer (some ⟨t.cE,0,none⟩)) ∧
  (∃ fz,Head w t.cE TB [p,oV t2 l.length] [] fz)∧Holds ke t2 f2 w (.own (l.map da) TU 1 l.length true)∧¬ f2 t.cE∧∀ k,fp k↔k=t.cE∨f2 k
 stays b fp w w':=by
  rintro⟨h0,p,t2,f2,hp,⟨fz,h1,h2⟩,h3,h4,h5⟩ hk
  exact⟨h0,p,t2,f2,hp,⟨fz,(hk _ ((h5 _).2 (.inl rfl))).trans h1,h2⟩,h3.stays (fun k hf=>hk k ((h5 k).2 (.inr hf))),h4,h5⟩
theorem u8_conc (l:List UInt8)(β β':Nat→Bt):(l.map da).map (ah β)=(l.map da).map (ah β'):=by
 simp[da,ah]
theorem B6 {β β':Nat→Bt}{t:Bt}{f:Nat→Prop}{w:World}{l:List UInt8}{TU:TypeId}{n:Nat}{m:Bool}(h:Holds β t f w (.own (l.map da) TU 1 n m)):Holds β' t f w (.own (l.map da) TU 1 n m):=by
 simp only[Holds]at h ⊢
 rw[u8_conc l β' β]
 exact h
theorem yT {b1 b2:Nat→Bt}{t t':Bt}{fq fq':Nat→Prop}{w w':World}{r:ax}(h1:Holds b1 t fq w r)(h2:Holds b2 t fq w r)(h:Holds b1 t' fq' w' r):Holds b2 t' fq' w' r:=by
 cases r with
 | cells c T m =>
   obtain⟨-,⟨r1,f1,d1,rfl⟩,-⟩:=h1
   obtain⟨-,⟨r2,f2,d2,rfl⟩,-⟩:=h2
   have e:=qD (by simp) d1.tv d2.tv
   simp only[Holds]at h ⊢
   rw[← e];exact h
 | own c e s n m =>
   rcases h1 with⟨-,-,rfl,-⟩|⟨-,-,-,-,l1,-⟩
   ·simpa[Holds] using h
   ·rcases h2 with⟨-,-,rfl,-⟩|⟨-,-,-,-,l2,-⟩
    ·simpa[Holds] using h
    ·have e:=qD (by simp) l1 l2
     simp only[Holds]at h ⊢
     rw[← e];exact h
 | ext R=>exact h
 | gone=>exact h
variable {V:Cx} {f:FuncId} {args:List SV} {bs:List ax} {R:SV→List ax→Prop}
theorem sc_weak {i:Nat}{r0 r1:ax}(hi:bs[i]? = some r0)(hm:r1.cr=true→r0.cr=true)(hv:∀ (β:Nat→Bt)(fp:Nat→Nat→Prop)(w:World),Holds β (β i) (fp i) w r0→Holds β (β i) (fp i) w r1)(h:SC V f args (bs.set i r1) R):SC V f args bs R:=by
 refine⟨h.1,fun β fp w fQ hG hE=>?_⟩
 have eh:i<bs.length:=(zKO.1 hi).1
 have old:∀ {j r'},(bs.set i r1)[j]? = some r'→∃ r,bs[j]? = some r∧(r'.cr=true→r.cr=true)∧(j≠i∧r'=r∨j=i∧r'=r1):=fun {j r'} hj=>by
  by_cases mg:j=i
  ·subst mg
   rw[zK2 eh]at hj
   obtain rfl:=zK0.inj hj
   exact⟨r0,hi,hm,.inr ⟨rfl,rfl⟩⟩
  ·rw[zKV (fun e=>mg e.symm)]at hj
   exact⟨r',hj,id,.inl ⟨mg,rfl⟩⟩
 refine(h.2 β fp w (fun β' hβ=>?_) (fun j r hj hjm k hk=>?_) hE).mono ?_
 ·rw[zLd]at hβ
  have hb:=fQ β' hβ
  refine⟨fun j r' hj=>?_,fun j r' hj k hk=>?_,fun j l a b hj hl bn jj=>?_⟩
  ·obtain⟨r,hr,-,⟨-,rfl⟩|⟨rfl,rfl⟩⟩:=old hj
   ·exact hb.holds j _ hr
   ·exact hv β' fp w (hb.holds _ _ hi)
  ·obtain⟨r,hr,-⟩:=old hj
   exact hb.lt j r hr k hk
  ·obtain⟨r,hr,e,-⟩:=old hj
   obtain⟨r',hr',e',-⟩:=old hl
   exact hb.sep j l r r' hr hr' bn (jj.imp e e')
 ·obtain⟨r,hr,e,-⟩:=old hj
  exact hG j r hr (e hjm) k hk
 ·rintro e w' ⟨r,bs',β₂,fp₂,hR,Ck,hlen,aR,jB,nV,mH⟩
  rw[zLd]at Ck hlen
  refine⟨r,bs',β₂,fp₂,hR,Ck,hlen,aR,jB.mono ?_,fun j r' hj hjm k hk=>?_,fun j r' hj k hk=>?_⟩
  ·rintro k ⟨j,r',hj,hjm,hk⟩
   obtain⟨r,hr,e,-⟩:=old hj
   exact⟨j,r,hr,e hjm,hk⟩
  ·rcases nV j r' hj hjm k hk with h1|⟨j2,r2,iz,hm2,eW⟩
   ·exact .inl h1
   ·obtain⟨r,hr,e,-⟩:=old iz
    exact .inr ⟨j2,r,hr,e hm2,eW⟩
  ·rcases mH j r' hj k hk with h1|⟨j2,r2,iz,eW⟩
   ·exact .inl h1
   ·obtain⟨r,hr,-⟩:=old iz
    exact .inr ⟨j2,r,hr,eW⟩
theorem sc_view {i:Nat}{r0 r1:ax}(hi:bs[i]? = some r0)(hm:r1.cr=r0.cr)(hv:∀ (β:Nat→Bt)(fp:Nat→Nat→Prop)(w:World),Holds β (β i) (fp i) w r0→Holds β (β i) (fp i) w r1)(h:SC V f args (bs.set i r1) R):SC V f args bs R:=sc_weak hi (fun e=>hm ▸ e) hv h
def Dim (b b2:List ax):Prop:=b2.length=b.length∧∀ (i:Nat) (r:ax),b2[i]? = some r→b[i]? = some r∨∃ (c:List SV) (e s n:Nat) (m:Bool),b[i]? = some (ax.own c e s n m)∧r=ax.own c e s n false
theorem Dim.refl (b:List ax):Dim b b:=⟨rfl,fun _ _ h=>.inl h⟩
theorem Dim.one {b:List ax}{i:Nat}{c:List SV}{e s n:Nat}{m:Bool}(hi:b[i]? = some (.own c e s n m)):Dim b (b.set i (.own c e s n false)):=⟨by simp,fun j r hj=>by
 by_cases mg:j=i
 ·subst mg
  rw[zK2 (zKO.1 hi).1]at hj
  exact .inr ⟨c,e,s,n,m,hi,(zK0.inj hj).symm⟩
 ·rw[zKV (fun e=>mg e.symm)]at hj
  exact .inl hj⟩
theorem Dim.trans {a b c:List ax}(h:Dim a b)(k:Dim b c):Dim a c:=⟨k.1.trans h.1,fun i r hi=>by
 rcases k.2 i r hi with h1|⟨c,e,s,n,m,h1,rfl⟩
 ·exact h.2 i r h1
 ·rcases h.2 i _ h1 with h2|⟨c',e',s',n',m',h2,h3⟩
  ·exact .inr ⟨c,e,s,n,m,h2,rfl⟩
  ·cases h3
   exact .inr ⟨_,_,_,_,m',h2,rfl⟩⟩
theorem AM {i TB TU:Nat}(hi:bs[i]? = some (.cells [.v (.pointer none),.aE] TB true))(h:SC V f args (bs.set i (.ext (sn TB TU []))) R):SC V f args bs R:=by
 refine sc_view (r1:=.ext (sn TB TU [])) hi rfl (fun β fp w hh=>?_) h
 obtain⟨h0,⟨rest,fz,hd,rfl⟩,h3⟩:=hh
 refine⟨h0,Value.pointer none,⟨0,0,0⟩,fun _=>False,.inl rfl,⟨fz,?_⟩,holds_nil,not_false,fun k=>(h3 k).trans ⟨.inl,fun h=>h.elim id False.elim⟩⟩
 simpa[ah,oV,nJ] using hd
theorem sc_open {i TB TU:Nat}{l:List UInt8}(hi:bs[i]? = some (.ext (sn TB TU l))){R':SV→List ax→Prop}
 (h:∀ x,(x=.v (.pointer none)∨x=.p i 0)→SC V f args (bs.set i (.cells [x,.o bs.length l.length] TB true)++[.own (l.map da) TU 1 l.length true]) R')
 (hR:∀ r bs',R' r bs'→∃ x j l',flat r=true∧(x=.v (.pointer none)∨x=.p i 0)∧R r (bs.set i (.ext (sn TB TU l')))∧bs'[i]? = some (.cells [x,.o j l'.length] TB true)∧bs'[j]? = some (.own (l'.map da) TU 1 l'.length true) ∧
   bs.length≤j∧∀ k,k<bs.length→k≠i→bs'[k]? = bs[k]?)
 (ig:within.ay bs.length args=true):SC V f args bs R:=by
 have eh:i<bs.length:=(zKO.1 hi).1
 refine⟨(h _ (.inl rfl)).1,fun β fp w fQ hG hE=>?_⟩
 have eV:=fQ β (bw.refl _ _)
 obtain⟨h0,p,t2,f2,hp,⟨fz,hd⟩,fI,yj,qN⟩:=eV.holds i _ hi
 obtain⟨x,hx,hxc⟩:∃ x:SV,(x=.v (.pointer none)∨x=.p i 0)∧∀ β',bw bs.length β β'→ah β' x=p:=by
  rcases hp with rfl|rfl
  ·exact⟨_,.inl rfl,fun _ _=>rfl⟩
  ·exact⟨_,.inr rfl,fun β' hβ=>by simp only[ah];rw[← hβ i eh,h0]⟩
 let β₁:=mY β bs.length t2
 let fp₁:Nat→Nat→Prop:=fun j k=>if j=i then k=(β i).cE else if j=bs.length then f2 k else fp j k
 have agr1:∀ {β'},bw (bs.length+1) β₁ β'→bw bs.length β β':=fun {β'} hβ j hj=>by
  rw[← hβ j (by omega)];simp only[β₁,mY];rw[if_neg (by omega)]
 have at1:∀ {β'},bw (bs.length+1) β₁ β'→β' bs.length=t2:=fun {β'} hβ=>by
  rw[← hβ bs.length (by omega)];simp[β₁,mY]
 have old:∀ {j r'},(bs.set i (.cells [x,.o bs.length l.length] TB true)++[.own (l.map da) TU 1 l.length true])[j]? = some r' →
  (j=i∧r'=.cells [x,.o bs.length l.length] TB true)∨(j=bs.length∧r'=.own (l.map da) TU 1 l.length true)∨(j<bs.length∧j≠i∧bs[j]? = some r'):=fun {j r'} hj=>by
  have mU:j<bs.length+1:=by
   have:=(zKO.1 hj).1
   simpa using this
  by_cases hjm:j=bs.length
  ·subst hjm
   rw[zKZ (by simp)]at hj
   simp at hj
   exact .inr (.inl ⟨rfl,hj.symm⟩)
  ·rw[zKT (by simp;omega)]at hj
   by_cases mg:j=i
   ·subst mg
    rw[zK2 eh]at hj
    exact .inl ⟨rfl,(zK0.inj hj).symm⟩
   ·rw[zKV (fun e=>mg e.symm)]at hj
    exact .inr (.inr ⟨by omega,mg,hj⟩)
 have in1:∀ {j r'},(bs.set i (.cells [x,.o bs.length l.length] TB true)++[.own (l.map da) TU 1 l.length true])[j]? = some r'→r'.cr=true→∀ k,fp₁ j k→∃ j2 r2,bs[j2]? = some r2∧r2.cr=true∧fp j2 k:=fun {j r'} hj hm k hk=>by
  rcases old hj with⟨rfl,rfl⟩|⟨rfl,rfl⟩|⟨sS,iz,Hl⟩
  ·refine⟨j,_,hi,rfl,(qN k).2 (.inl ?_)⟩
   simpa[fp₁] using hk
  ·refine⟨i,_,hi,rfl,(qN k).2 (.inr ?_)⟩
   simpa[fp₁,zLh eh] using hk
  ·exact⟨j,r',Hl,hm,by simpa[fp₁,iz,zLe sS] using hk⟩
 have inF:∀ {j r'},(bs.set i (.cells [x,.o bs.length l.length] TB true)++[.own (l.map da) TU 1 l.length true])[j]? = some r'→∀ k,fp₁ j k→∃ j2 r2,bs[j2]? = some r2∧fp j2 k:=fun {j r'} hj k hk=>by
  rcases old hj with⟨rfl,rfl⟩|⟨rfl,rfl⟩|⟨sS,iz,Hl⟩
  ·refine⟨j,_,hi,(qN k).2 (.inl ?_)⟩
   simpa[fp₁] using hk
  ·refine⟨i,_,hi,(qN k).2 (.inr ?_)⟩
   simpa[fp₁,zLh eh] using hk
  ·exact⟨j,r',Hl,by simpa[fp₁,iz,zLe sS] using hk⟩
 have ea:aG β args=aG β₁ args:=aw bs.length args ig β β₁ (fun j hj=>by simp only[β₁,mY];rw[if_neg (by omega)])
 rw[ea]
 refine((h x hx).2 β₁ fp₁ w (fun β' hβ=>?_) (fun j r hj hm k hk=>?_) hE).mono ?_
 ·have hβq:bw (bs.length+1) β₁ β':=by simpa using hβ
  clear hβ
  have hb:=fQ β' (agr1 hβq)
  have pW:β' i=β i:=(agr1 hβq i eh).symm
  refine⟨fun j r' hj=>?_,fun j r' hj k hk=>?_,fun j q a b hj hq bn jj k hk eW=>?_⟩
  ·rcases old hj with⟨rfl,rfl⟩|⟨rfl,rfl⟩|⟨sS,iz,Hl⟩
   ·refine⟨by rw[pW];exact h0,⟨[],fz,?_,rfl⟩,fun k=>by simp[fp₁,pW]⟩
    rw[pW]
    simpa[hxc β' (agr1 hβq),ah,at1 hβq] using hd
   ·rw[at1 hβq]
    have e:fp₁ bs.length=f2:=by funext k;simp[fp₁,zLh eh]
    rw[e]
    exact B6 fI
   ·have e:fp₁ j=fp j:=by funext k;simp[fp₁,iz,zLe sS]
    rw[e]
    exact hb.holds j _ Hl
  ·rcases old hj with⟨rfl,rfl⟩|⟨rfl,rfl⟩|⟨sS,iz,Hl⟩
   ·exact hb.lt j _ hi k ((qN k).2 (.inl (by simpa[fp₁] using hk)))
   ·exact hb.lt i _ hi k ((qN k).2 (.inr (by simpa[fp₁,zLh eh] using hk)))
   ·exact hb.lt j _ Hl k (by simpa[fp₁,iz,zLe sS] using hk)
  ·rcases old hj with⟨rfl,rfl⟩|⟨rfl,rfl⟩|⟨sS,iz,Hl⟩ <;> rcases old hq with⟨rfl,rfl⟩|⟨rfl,rfl⟩|⟨dp,pN,pM⟩
   ·exact bn rfl
   ·have e1:k=(β j).cE:=by simpa[fp₁] using hk
    have e2:f2 k:=by simpa[fp₁,zLh eh] using eW
    exact yj (e1 ▸ e2)
   ·have e1:k=(β j).cE:=by simpa[fp₁] using hk
    have e2:fp q k:=by simpa[fp₁,pN,zLe dp] using eW
    exact hb.sep j q _ _ hi pM bn (.inl rfl) k ((qN k).2 (.inl e1)) e2
   ·have e2:k=(β q).cE:=by simpa[fp₁] using eW
    have e1:f2 k:=by simpa[fp₁,zLh eh] using hk
    exact yj (e2 ▸ e1)
   ·exact bn rfl
   ·have e1:f2 k:=by simpa[fp₁,zLh eh] using hk
    have e2:fp q k:=by simpa[fp₁,pN,zLe dp] using eW
    exact hb.sep i q _ _ hi pM (fun e=>pN e.symm) (.inl rfl) k ((qN k).2 (.inr e1)) e2
   ·have e1:k=(β q).cE:=by simpa[fp₁] using eW
    have e2:fp j k:=by simpa[fp₁,iz,zLe sS] using hk
    exact hb.sep q j _ _ hi Hl (fun e=>bn e.symm) (.inl rfl) k ((qN k).2 (.inl e1)) e2
   ·have e1:f2 k:=by simpa[fp₁,zLh eh] using eW
    have e2:fp j k:=by simpa[fp₁,iz,zLe sS] using hk
    exact hb.sep i j _ _ hi Hl (fun e=>iz e.symm) (.inl rfl) k ((qN k).2 (.inr e1)) e2
   ·exact hb.sep j q _ _ Hl pM bn jj k (by simpa[fp₁,iz,zLe sS] using hk) (by simpa[fp₁,pN,zLe dp] using eW)
 ·obtain⟨j2,r2,h1,h2,h3⟩:=in1 hj hm k hk
  exact hG j2 r2 h1 h2 k h3
 ·rintro e w' ⟨r,bs',β₂,fp₂,hR',Ck,hlen,aR,jB,nV,mH⟩
  have Ck:bw (bs.length+1) β₁ β₂:=by simpa using Ck
  have hlen:bs.length+1≤bs'.length:=by simpa using hlen
  obtain⟨x',j,l',mI,hx',hRr,pW,Hs,hjm,hoth⟩:=hR r bs' hR'
  have mU:j<bs'.length:=(zKO.1 Hs).1
  have hag2:bw bs.length β β₂:=agr1 Ck
  let fp₃:Nat→Nat→Prop:=fun q k=>if q=i then fp₂ i k∨fp₂ j k else fp₂ q k
  have lift:∀ {β'},bw bs.length β₂ β'→∃ β'',bw bs'.length β₂ β''∧bw bs.length β'' β':=fun {β'} hβ =>
   ⟨β₂,bw.refl _ _,hβ⟩
  have old2:∀ {q r'},(bs.set i (.ext (sn TB TU l')))[q]? = some r'→(q=i∧r'=.ext (sn TB TU l'))∨(q<bs.length∧q≠i∧bs[q]? = some r'∧bs'[q]? = some r'):=fun {q r'} hq=>by
   by_cases He:q=i
   ·subst He
    rw[zK2 eh]at hq
    exact .inl ⟨rfl,(zK0.inj hq).symm⟩
   ·rw[zKV (fun e=>He e.symm)]at hq
    have lL:q<bs.length:=(zKO.1 hq).1
    exact .inr ⟨lL,He,hq,(hoth q lL He).trans hq⟩
  refine⟨r,bs.set i (.ext (sn TB TU l')),β₂,fp₃,hRr,hag2,by simp,fun β' hβ=>?_,jB.mono ?_,fun q r' hq hqm k hk=>?_,fun q r' hq k hk=>?_⟩
  ·rw[zLd]at hβ
   -- the things of the caller are read at any β' that agrees on them
   let β'':Nat→Bt:=fun q=>if q<bs.length then β' q else β₂ q
   have hβ2:bw bs'.length β₂ β'':=fun q hq=>by
    show _=if _ then _ else _
    split
    ·rename_i aB;exact hβ q aB
    ·rfl
   obtain⟨he,hb⟩:=aR β'' hβ2
   refine⟨by rw[he,fL r mI β'' β'],?_⟩
   have hbi':β'' i=β₂ i:=(hβ2 i (by omega)).symm
   have Jx:β' i=β₂ i:=(hβ i eh).symm
   refine⟨fun q r' hq=>?_,fun q r' hq k hk=>?_,fun q s a b hq hs bn jj k hk eW=>?_⟩
   ·rcases old2 hq with⟨rfl,rfl⟩|⟨h1,h2,h3,h4⟩
    ·obtain⟨k0,⟨rest,fz',hd',rfl⟩,k3⟩:=hb.holds _ _ pW
     have hrow':=hb.holds _ _ Hs
     refine⟨by rw[Jx,← hbi'];exact k0,ah β'' x',β'' j,fp₂ j,?_,⟨fz',?_⟩,B6 hrow',?_,fun k=>?_⟩
     ·rcases hx' with rfl|rfl
      ·exact .inl rfl
      ·right
       simp only[ah]
       rw[k0,hbi',Jx]
     ·rw[Jx,← hbi']
      simpa[ah] using hd'
     ·intro hc
      have:fp₂ q (β'' q).cE:=(k3 _).2 rfl
      rw[Jx,← hbi']at hc
      exact hb.sep q j _ _ pW Hs (by omega) (.inl rfl) _ this hc
     ·show (if _ then _ else _)↔_
      rw[if_pos rfl,k3 k,hbi',Jx]
    ·have e:fp₃ q=fp₂ q:=by funext k;show (if _ then _ else _)=_;rw[if_neg h2]
     rw[e]
     have e2:β' q=β'' q:=by show _=if _ then _ else _;rw[if_pos h1]
     have:=hb.holds _ _ h4
     rw[e2]
     -- what it holds of cells looks at β'' alone through the things of the caller
     have hA:bw bs.length β β':=fun q hq=>(hag2 q hq).trans (hβ q hq)
     have hA2:bw bs.length β β'':=fun q hq=>(hag2 q hq).trans (hβ2 q (by omega))
     have u1:=(fQ β'' hA2).holds q _ h3
     have u2:=(fQ β' hA).holds q _ h3
     rw[e2]at u2
     exact yT u1 u2 this
   ·rcases old2 hq with⟨rfl,rfl⟩|⟨h1,h2,h3,h4⟩
    ·have hk:fp₂ q k∨fp₂ j k:=by simpa[fp₃] using hk
     rcases hk with hk|hk
     ·exact hb.lt _ _ pW k hk
     ·exact hb.lt _ _ Hs k hk
    ·exact hb.lt _ _ h4 k (by simpa[fp₃,h2] using hk)
   ·rcases old2 hq with⟨rfl,rfl⟩|⟨h1,h2,h3,h4⟩ <;> rcases old2 hs with⟨rfl,rfl⟩|⟨g1,g2,g3,g4⟩
    ·exact bn rfl
    ·have eW:fp₂ s k:=by simpa[fp₃,g2] using eW
     have hk:fp₂ q k∨fp₂ j k:=by simpa[fp₃] using hk
     rcases hk with hk|hk
     ·exact hb.sep _ _ _ _ pW g4 bn (.inl rfl) k hk eW
     ·exact hb.sep _ _ _ _ Hs g4 (by omega) (.inl rfl) k hk eW
    ·have hk:fp₂ q k:=by simpa[fp₃,h2] using hk
     have eW:fp₂ s k∨fp₂ j k:=by simpa[fp₃] using eW
     rcases eW with eW|eW
     ·exact hb.sep _ _ _ _ pW h4 (fun e=>bn e.symm) (.inl rfl) k eW hk
     ·exact hb.sep _ _ _ _ Hs h4 (by omega) (.inl rfl) k eW hk
    ·exact hb.sep _ _ _ _ h4 g4 bn jj k (by simpa[fp₃,h2] using hk) (by simpa[fp₃,g2] using eW)
  ·rintro k ⟨j1,r1,sS,zG,hO⟩
   exact in1 sS zG k hO
  ·rcases old2 hq with⟨rfl,rfl⟩|⟨h1,h2,h3,h4⟩
   ·have hk:fp₂ q k∨fp₂ j k:=by simpa[fp₃] using hk
    rcases hk with hk|hk
    ·rcases nV _ _ pW rfl k hk with h1|⟨j1,r1,sS,zG,hO⟩
     ·exact .inl h1
     ·exact .inr (in1 sS zG k hO)
    ·rcases nV _ _ Hs rfl k hk with h1|⟨j1,r1,sS,zG,hO⟩
     ·exact .inl h1
     ·exact .inr (in1 sS zG k hO)
   ·rcases nV _ _ h4 hqm k (by simpa[fp₃,h2] using hk) with h1|⟨j1,r1,sS,zG,hO⟩
    ·exact .inl h1
    ·exact .inr (in1 sS zG k hO)
  ·rcases old2 hq with⟨rfl,rfl⟩|⟨h1,h2,h3,h4⟩
   ·have hk:fp₂ q k∨fp₂ j k:=by simpa[fp₃] using hk
    rcases hk with hk|hk
    ·rcases mH _ _ pW k hk with h1|⟨j1,r1,sS,hO⟩
     ·exact .inl h1
     ·exact .inr (inF sS k hO)
    ·rcases mH _ _ Hs k hk with h1|⟨j1,r1,sS,hO⟩
     ·exact .inl h1
     ·exact .inr (inF sS k hO)
   ·rcases mH _ _ h4 k (by simpa[fp₃,h2] using hk) with h1|⟨j1,r1,sS,hO⟩
    ·exact .inl h1
    ·exact .inr (inF sS k hO)
theorem xz {i:Nat}{r0 r1:ax}{r:SV}(hi:bs[i]? = some r0)(hm:r0.cr=true)(jf:Enters V f)(hr:flat r=true)
 (h:∀ (β:Nat→Bt) (fp:Nat→Nat→Prop) (w:World),V.E w→(∀ β',bw bs.length β β'→Holds β' (β' i) (fp i) w r0)→Calls V.P f (aG β args).toArray w fun e w'=>e=.returned (ah ke r)∧mW (fp i) w w'∧∃ f1:Nat→Prop,(∀ k,f1 k→fp i k)∧∀ β',bw bs.length β β'→Holds β' (β' i) f1 w' r1) :
 SC V f args bs (fun r' bs'=>r'=r∧bs'=bs.set i r1):=by
 have eh:i<bs.length:=(zKO.1 hi).1
 refine⟨jf,fun β fp w fQ hG hE=>?_⟩
 refine(h β fp w hE (fun β' hβ=>(fQ β' hβ).holds i _ hi)).mono ?_
 rintro e w' ⟨rfl,jB,f1,Af,hh⟩
 have old:∀ {j r'},(bs.set i r1)[j]? = some r'→(j=i∧r'=r1)∨(j≠i∧bs[j]? = some r'):=fun {j r'} hj=>by
  by_cases mg:j=i
  ·subst mg
   rw[zK2 eh]at hj
   exact .inl ⟨rfl,(zK0.inj hj).symm⟩
  ·rw[zKV (fun e=>mg e.symm)]at hj
   exact .inr ⟨mg,hj⟩
 let fp₂:Nat→Nat→Prop:=fun j k=>if j=i then f1 k else fp j k
 refine⟨r,bs.set i r1,β,fp₂,⟨rfl,rfl⟩,bw.refl _ _,by simp,fun β' hβ=>⟨by rw[fL r hr ke β'],?_⟩,jB.mono (fun k hk=>⟨i,_,hi,hm,hk⟩),fun j r' hj hjm k hk=>?_,fun j r' hj k hk=>?_⟩
 ·rw[zLd]at hβ
  have hb:=fQ β' hβ
  refine⟨fun j r' hj=>?_,fun j r' hj k hk=>?_,fun j l a b hj hl bn jj k hk eW=>?_⟩
  ·rcases old hj with⟨rfl,rfl⟩|⟨h1,h2⟩
   ·have e:fp₂ j=f1:=by funext k;simp[fp₂]
    rw[e];exact hh β' hβ
   ·have e:fp₂ j=fp j:=by funext k;simp[fp₂,h1]
    rw[e]
    exact(hb.holds j _ h2).stays (fun k hk=>jB.block k (hb.lt j _ h2 k hk) (fun jb=>hb.sep i j _ _ hi h2 (fun e=>h1 e.symm) (.inl hm) k jb hk))
  ·rcases old hj with⟨rfl,rfl⟩|⟨h1,h2⟩
   ·exact zK4 (hb.lt _ _ hi k (Af k (by simpa[fp₂] using hk))) jB.size
   ·exact zK4 (hb.lt j _ h2 k (by simpa[fp₂,h1] using hk)) jB.size
  ·rcases old hj with⟨rfl,rfl⟩|⟨h1,h2⟩ <;> rcases old hl with⟨rfl,rfl⟩|⟨g1,g2⟩
   ·exact bn rfl
   ·exact hb.sep _ _ _ _ hi g2 bn (.inl hm) k (Af k (by simpa[fp₂] using hk)) (by simpa[fp₂,g1] using eW)
   ·exact hb.sep _ _ _ _ hi h2 (fun e=>bn e.symm) (.inl hm) k (Af k (by simpa[fp₂] using eW)) (by simpa[fp₂,h1] using hk)
   ·exact hb.sep _ _ _ _ h2 g2 bn jj k (by simpa[fp₂,h1] using hk) (by simpa[fp₂,g1] using eW)
 ·rcases old hj with⟨rfl,rfl⟩|⟨h1,h2⟩
  ·exact .inr ⟨_,_,hi,hm,Af k (by simpa[fp₂] using hk)⟩
  ·exact .inr ⟨j,r',h2,hjm,by simpa[fp₂,h1] using hk⟩
 ·rcases old hj with⟨rfl,rfl⟩|⟨h1,h2⟩
  ·exact .inr ⟨_,_,hi,Af k (by simpa[fp₂] using hk)⟩
  ·exact .inr ⟨j,r',h2,by simpa[fp₂,h1] using hk⟩
theorem SC.mono {R R':SV→List ax→Prop}(h:SC V f args bs R)(k:∀ r bs',R r bs'→R' r bs'):SC V f args bs R':=by
 refine⟨h.1,fun β fp w fQ hG hE=>(h.2 β fp w fQ hG hE).mono ?_⟩
 rintro e w' ⟨r,bs',β₂,fp₂,hR,h2⟩
 exact⟨r,bs',β₂,fp₂,k _ _ hR,h2⟩
theorem aW (b:List ax)(X:ax):(b++[X])[b.length]? = some X:=by simp
theorem af {b:List ax}{j:Nat}{r:ax}(h:b[j]? = some r)(X:List ax):(b++X)[j]? = some r:=by
 rw[zKT ((zKO.1 h).1)];exact h
def Sl (e s L:Nat)(x:SV)(b:List ax)(c:List SV)(n:Nat):Prop:=(x=.aE∧c=[]∧n=0)∨∃ j,x=.o j n∧L≤j∧b[j]? = some (.own c e s n true)
def Kp (bs b:List ax):Prop:=bs.length≤b.length∧∀ k,k<bs.length→b[k]? = bs[k]?
theorem Kp.refl (bs:List ax):Kp bs bs:=⟨zK1 _,fun _ _=>rfl⟩
theorem Kp.trans {a b c:List ax}(h:Kp a b)(k:Kp b c):Kp a c:=⟨zLp h.1 k.1,fun i hi=>(k.2 i (zK4 hi h.1)).trans (h.2 i hi)⟩
theorem Kp.app {bs b:List ax}(h:Kp bs b)(X:List ax):Kp bs (b++X):=⟨by rw[zKX];have:=h.1;omega,fun k hk=>by rw[zKT (by have:=h.1;omega)];exact h.2 k hk⟩
theorem Kp.set {bs b:List ax}(h:Kp bs b){j:Nat}(hj:bs.length≤j)(X:ax):Kp bs (b.set j X):=⟨by rw[zLd];exact h.1,fun k hk=>by rw[zKV (by omega)];exact h.2 k hk⟩
theorem Kp.at {bs b:List ax}(h:Kp bs b){j:Nat}{r:ax}(hj:bs[j]? = some r):b[j]? = some r:=(h.2 j ((zKO.1 hj).1)).trans hj
theorem Sl.app {e s L:Nat}{x:SV}{b:List ax}{c:List SV}{n:Nat}(h:Sl e s L x b c n)(X:List ax):Sl e s L x (b++X) c n:=by
 rcases h with h|⟨j,h1,h2,h3⟩
 ·exact .inl h
 ·exact .inr ⟨j,h1,h2,af h3 X⟩
theorem dX {α:Type}(b:List α)(X Y:α):(b++[X]).set b.length Y=b++[Y]:=by simp
theorem qd {α:Type}(b:List α)(X Y Z:α):(b++[X]++[Y]).set b.length Z=b++[Z]++[Y]:=by simp
theorem set_prev2 {α:Type}(b:List α)(X Y Z W:α):(b++[X]++[Y]++[W]).set b.length Z=b++[Z]++[Y]++[W]:=by simp
theorem rb {α:Type}(b:List α)(X Y:α):(b++[X]++[Y])[b.length]? = some X:=by simp
theorem ra {α:Type}(b:List α)(X Y Z:α):(b++[X]++[Y]++[Z])[b.length]? = some X:=by simp
theorem at_prev3 {α:Type}(b:List α)(X Y Z W:α):(b++[X]++[Y]++[Z]++[W])[b.length]? = some X:=by simp
theorem at_prev4 {α:Type}(b:List α)(X Y Z W U:α):(b++[X]++[Y]++[Z]++[W]++[U])[b.length]? = some X:=by simp
def rQ:=zKN (zKN (@aW) (zKN (@rb) (@ra))) (zKN (zKN (@at_prev3) (@at_prev4)) (zKN (@dX) (zKN (@qd) (@set_prev2))))
end Vc
namespace Go.Proofs.YteipdaijbncgeaaGreatDoor
open Go Vc Go.RowKit Wf
open Go.ChangeShapes Go.WideShapes Go.ChangeAt
open Go.WideMaps Go.WideElems
theorem Iz {w:World}{b off:Nat}{xs ys:List Value}(h1:ov w b off xs)(h2:ov w b (off+xs.length) ys):ov w b off (xs++ys):=fun j v hv=>by
 rcases zLg j xs.length with h|h
 ·rw[zKT h]at hv
  exact h1 j v hv
 ·rw[zKZ h]at hv
  have:=h2 (j - xs.length) v hv
  rwa [show off+xs.length+(j - xs.length)=off+j by omega]at this
theorem xX {ρ:Type}{w:World}{b s:Nat}(vs:ρ→List Value):∀ (L:List ρ)(off:Nat),(∀ r∈L,(vs r).length=s)→(∀ (i:Nat) (r:ρ),L[i]? = some r→ov w b (off+i * s) (vs r))→ov w b off (L.flatMap vs)
 | [],_,_,_=>fun j v hv=>by simp at hv
 | r::L,off,hs,h=>by
   rw[List.flatMap_cons]
   refine Iz (by simpa using h 0 r rfl) (xX vs L _ (fun q hq=>hs q (zLj _ hq)) (fun i q hq=>?_))
   have:=h (i+1) q hq
   rw[hs r zLa]
   rwa [show off+s+i * s=off+(i+1) * s by rw[Nat.add_mul];omega]
theorem yq {ρ:Type}{s:Nat}(vs:ρ→List SV):∀ (L:List ρ),(∀ r∈L,(vs r).length=s)→(L.flatMap vs).length=L.length * s
 | [],_=>by simp
 | r::L,hs=>by
   rw[List.flatMap_cons,zKX,hs r zLa,yq vs L (fun q hq=>hs q (zLj _ hq)),List.length_cons,Nat.add_mul]
   omega
section
variable {H:Type} {enc:TypeId × Value→H} {P:Program} {w:World} {held:Bool}
theorem xP {ρ:Type}(dflt:ρ)(cl:ρ→List SV)(dt:ρ→DataW H)(Q:ρ→Prop)(mI:∀ r,flat.ai (cl r)=true){t e:TypeId}{s:Nat}(ht:P.underlying t=some (.slice e))(hs:P.cellsOf e=s)
 (fI:∀ fuel cs x,DataW.trod enc P w 0 (fun _=>true) held fuel e cs=some x→∃ r,cs=aG ke (cl r)∧x.1=dt r∧Q r)
 {rch:Reach} {b0:Nat} {v:Value} {n:Nat} {x:DataW H × List MemPlace} (bZ:Cell.okWide P w rch b0 t v) (h:DataW.trod enc P w 0 (fun _=>true) held n t [v]=some x) :
 ∃ (b:Bt) (L:List ρ),v=oV b L.length∧L.length≤9223372036854775807∧((x.1=.nil∧L=[])∨∃ sp',x.1=.slice (L.map dt) sp')∧(∀ β,Holds β b (fun k=>k=b.cE∧b.cap≠0) w (.own (L.flatMap cl) e s L.length false))∧(b.cap≠0→b.cE<w.heap.size)∧∀ r∈L,Q r:=by
 obtain⟨a0,len0,cap0,rfl⟩:∃ a len cap,v=.slice a len cap:=by
  simp only[Cell.okWide,ht]at bZ
  cases v <;> simp_all [Cell.ok]
 have hf:=h
 rcases Go.Deep.open_slice ht hf with⟨hv,hx⟩|⟨a,len,cap,m,n,D,Pl,hv,hb,hl,hm,jj,hx,mJ⟩
 ·simp only[zKU.injEq,Value.slice.injEq,and_true]at hv
  obtain⟨rfl,rfl,rfl⟩:=hv
  exact⟨⟨0,0,0⟩,[],by simp[oV,nJ],by simp,.inl ⟨by rw[hx],rfl⟩,fun β=>.inl ⟨rfl,rfl,rfl,by simp,fun e=>by cases e⟩,fun k=>absurd rfl k,fun _ hr=>absurd hr (by simp)⟩
 ·simp only[zKU.injEq,Value.slice.injEq,and_true]at hv
  obtain⟨rfl,rfl,rfl⟩:=hv
  have Ji:w.has P rch b0 a e cap0:=by
   simp only[Cell.okWide,ht,Cell.ok]at bZ
   exact bZ.2.2
  obtain⟨-,hspot,row,cells,D8,-⟩:=Ji
  obtain⟨cE,off,spot⟩:=a
  simp only at hspot D8
  subst hspot
  have hblk:cE<w.heap.size:=by
   rcases zLg cE w.heap.size with h' | h'
   ·exact h'
   ·unfold World.shape? at D8
    simp[zLo h']at D8
  have hmc:m=cap0:=by rw[jj];simp
  subst hmc
  haveI:Inhabited ρ:=⟨dflt⟩
  obtain⟨R,hR⟩:=Go.Deep.choose_lt (α:=ρ) (n:=len0) (p:=fun i r=>(∀ q v,(aG ke (cl r))[q]? = some v→w.cell? ⟨cE,off+i * s+q,none⟩=some v)∧(cl r).length=s∧D i=dt r∧Q r) (fun i hi=>by
   obtain⟨cs',h1,h2⟩:=mJ i (by omega)
   obtain⟨r,rfl,hd,hQ⟩:=fI n cs' _ h2
   rw[hs]at h1
   obtain⟨-,h3,h4⟩:=World.cells?_some h1
   rw[bU,List.length_map]at h3
   refine⟨r,fun q v hv=>?_,h3,hd,hQ⟩
   have hq:q<s:=by
    have:=(zKO.1 hv).1
    rwa [bU,List.length_map,h3]at this
   have:=h4 q hq
   rw[dx,dx]at this
   rw[this];exact hv)
  have hlen:((zKW len0).map R).length=len0:=by simp
  have aR:∀ r∈(zKW len0).map R,(cl r).length=s:=by
   intro r hr
   obtain⟨i,hi,rfl⟩:=List.mem_map.1 hr
   exact(hR i (zK5.1 hi)).2.1
  have hmx:m≤9223372036854775807:=by unfold maxLen at hm;simpa using hm
  have hlies:∀ β,ov w cE off ((((zKW len0).map R).flatMap cl).map (ah β)):=fun β=>by
   have e1:(((zKW len0).map R).flatMap cl).map (ah β)=((zKW len0).map R).flatMap fun r=>aG β (cl r):=by
    rw[List.map_flatMap]
    congr 1
    funext r
    rw[bU]
   rw[e1]
   refine xX (s:=s) _ _ _ (fun r hr=>by rw[bU,List.length_map];exact aR r hr) (fun i r hr q v hv=>?_)
   have hi:i<len0:=by
    have:=(zKO.1 hr).1
    simpa using this
   have I5:R i=r:=by simpa[hi] using hr
   subst I5
   rw[dz _ (mI _) β ke]at hv
   have:=(hR i hi).1 q v hv
   simpa[Nat.add_assoc] using this
  refine⟨⟨cE,off,m+1⟩,(zKW len0).map R,by simp[oV],by rw[hlen];omega,.inr ⟨(zKW (m - len0)).map fun j=>D (len0+j),?_⟩,fun β=>.inr ⟨by simp,by simpa using hl,by simpa using hm,yq cl _ aR,hlies β,(fun hm=>absurd hm (by simp)),fun k=>by simp⟩,fun _=>hblk,fun r hr=>by
   obtain⟨i,hi,rfl⟩:=List.mem_map.1 hr
   exact(hR i (zK5.1 hi)).2.2.2⟩
  have hD:(zKW len0).map D=((zKW len0).map R).map dt:=by
   rw[List.map_map]
   exact List.map_congr_left fun i hi=>(hR i (zK5.1 hi)).2.2.1
  rw[hx,hD]
end
theorem jn {H:Type}{P:Program}{t e:TypeId}(ht:P.underlying t=some (.slice e)){ρ:Type}{dt:ρ→DataW H}{L:List ρ}{d:DataW H}(hd:(d=.nil∧L=[])∨∃ sp,d=.slice (L.map dt) sp){r:ρ}(hr:r∈L){n:Nat}(hn:n∈(dt r).weights P e):n∈d.weights P t:=by
 rcases hd with⟨-,rfl⟩|⟨sp,rfl⟩
 ·cases hr
 ·simp only[DataW.weights,ht,zLk,zLn]
  right;left
  induction L with
  | nil=>cases hr
  | cons q L ih =>
    simp only[List.map_cons,DataW.weightsAll,zLn]
    rcases zLk.1 hr with rfl|hr
    ·exact .inl hn
    ·exact .inr (ih hr)
theorem iH {H:Type}{P:Program}{t u:TypeId}{fs:Array Field}(ht:P.underlying t=some (.struct fs)){parts:List (DataW H)}{j:Nat}{d:DataW H}(hj:(fs.toList.map (·.type))[j]? = some u)(hd:parts[j]? = some d){n:Nat}(hn:n∈d.weights P u):n∈(DataW.agg parts).weights P t:=by
 simp only[DataW.weights,ht]
 exact DataW.weights_mem_each hj hd n hn
theorem ok_cell {P:Program}{w:World}{r:Reach}{b:Nat}{t e:TypeId}{v:Value}(ht:P.underlying t=some (.slice e))(h:Value.okWide P w r b t v):Cell.okWide P w r b t v:=by
 simpa only[Value.okWide,ht] using h
theorem It {P:Program}{w:World}{r:Reach}{b:Nat}{t:TypeId}{fs:Array Field}{cs:List Value}{ts:List TypeId}(ht:P.underlying t=some (.struct fs))(IX:P.cellTypes P.depth t=some ts)(h:Value.okWide P w r b t (.agg cs.toArray))(i:Nat)(u:TypeId)(v:Value)(hv:cs[i]? = some v)(hu:ts[i % ts.length]? = some u):Cell.okWide P w r b u v:=by
 simp only[Value.okWide,ht]at h
 obtain⟨cs',h1,-,ts',h3,-,h5⟩:=h
 rw[IX]at h3
 cases h3
 injection h1 with h1
 subst h1
 obtain⟨u',h6,h7⟩:=h5 i v (by simpa using hv)
 rw[hu]at h6
 cases h6
 exact h7
theorem SC.law {V:Cx}{f:FuncId}{args:List SV}{l:List (Bt × ax)}(h:SC V f args (l.map (·.2)) (fun r _=>r=.bool true)){w:World}(hE:V.E w)
 (hh:∀ x∈l,x.2.cr=false∧(∀ β,Holds β x.1 (fun k=>k=x.1.cE∧x.1.cap≠0) w x.2)∧(x.1.cap≠0→x.1.cE<w.heap.size)) :
 Calls V.P f (aG (fun i=>((l[i]?).map (·.1)).getD (ke 0)) args).toArray w fun e w'=>e=.returned (.bool true)∧Below w.heap.size w w':=by
 have gx:∀ (i:Nat) (r:ax),(l.map (·.2))[i]? = some r→r.cr=false:=fun i r hi=>by
  rw[List.getElem?_map,zLf]at hi
  obtain⟨x,hx,rfl⟩:=hi
  exact(hh x (List.mem_of_getElem? hx)).1
 obtain⟨β,hβ0⟩:∃ β:Nat→Bt,β=fun i=>((l[i]?).map (·.1)).getD (ke 0):=⟨_,rfl⟩
 rw[← hβ0]
 obtain⟨fp,qN⟩:∃ fp:Nat→Nat→Prop,∀ i k,fp i k↔∃ x,l[i]? = some x∧k=x.1.cE∧x.1.cap≠0:=⟨fun i k=>∃ x,l[i]? = some x∧k=x.1.cE∧x.1.cap≠0,fun _ _=>Iff.rfl⟩
 have fQ:∀ β',bw (l.map (·.2)).length β β'→vZ β' fp w (l.map (·.2)):=fun β' hβ=>by
  refine vZ.mk ?_ ?_ ?_
  ·intro i r hi
   rw[List.getElem?_map,zLf]at hi
   obtain⟨x,hx,rfl⟩:=hi
   have hb:β' i=x.1:=by
    have:=hβ i (by simpa using(zKO.1 hx).1)
    rw[← this,hβ0];simp[hx]
   rw[hb]
   have h2:=(hh x (List.mem_of_getElem? hx)).2.1 β'
   have e:fp i=fun k=>k=x.1.cE∧x.1.cap≠0:=by
    funext k
    exact propext ⟨fun h=>by obtain⟨y,hy,h1⟩:=(qN i k).1 h;rw[hx]at hy;cases hy;exact h1,fun h=>(qN i k).2 ⟨x,hx,h⟩⟩
   rw[e];exact h2
  ·intro i r hi k hk
   obtain⟨x,hx,rfl,hc⟩:=(qN i k).1 hk
   exact(hh x (List.mem_of_getElem? hx)).2.2 hc
  ·intro i j r r' hi hj _ hm
   rw[gx i r hi,gx j r' hj]at hm
   simp at hm
 refine(h.2 β fp w fQ ?_ hE).mono ?_
 ·intro i r hi hm
  rw[gx i r hi]at hm
  cases hm
 ·rintro e w' ⟨r,bs',β₂,fp₂,rfl,Ck,hle,aR,jB,-⟩
  refine⟨by have:=(aR β₂ (bw.refl _ _)).1;simpa[ah] using this,?_⟩
  refine(jB.mono (own':=fun _=>False) ?_).below
  rintro k ⟨i,r,hi,hm,-⟩
  rw[gx i r hi]at hm
  cases hm
end Go.Proofs.YteipdaijbncgeaaGreatDoor
