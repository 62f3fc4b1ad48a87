/- Texts of this claim, laid together: Perm, Vc7, Frame, Laid, ProgF, VcB, SlRows, OpenT, Open. -/
import Derived.Still
import Derived.Laws.RangeString
import Derived.Test.YteipdaijbncgeaaGreatDoorRows
import Derived.WalkKit
import Derived.ProofKit
import Derived.OpenShut
import Derived.Shelf.Vars
import Derived.ShutString
import Derived.WideKeyArgs
import Derived.ChangeSame
import Derived.Deep.DeepHandedRow
import Derived.Deep.DeepLaidRun
import Derived.Lib.LaidTab
import Derived.Lib.SmallJoins
import Derived.SizedLaws
import Derived.Test.YteipdaijbncgeaaGreatDoorCards
import Derived.Test.YteipdaijbncgeaaGreatDoorTie
import Derived.Deep.Slices
import Derived.Test.YteipdaijbncgeaaGreatDoorI2
open And renaming intro → zJJ
open List renaming getElem?_eq_some_iff → zJK, getElem?_append_left → zJM, all_eq_true → zJP, getElem?_eq_getElem → zJQ, cons → zJR, getElem?_append_right → zJS, getElem?_set_ne → zJT, range → zJU, length_append → zJV, getD_eq_getElem?_getD → zJX, getElem?_set_self → zJZ, length_singleton → zJ0, mem_range → zJ2, append_assoc → zJ4, toArray → zJ6, any_eq_true → zJ7, mem_cons_self → zJ8, length_set → zKa, append_nil → zKc, contains_iff_mem → zKh, mem_cons_of_mem → zKi, mem_append → zKk, mem_singleton → zKl, mem_append_left → zKr, mem_map_of_mem → zKs, length_map → zKu
open Bool renaming and_eq_true → zJL, or_eq_true → zJO
open Array renaming getElem?_eq_some_iff → zJN, mem_toList_iff → zJ3, getElem?_eq_getElem → zJ9, replicate → zKj, getElem?_eq_none → zKm, getD_eq_getD_getElem? → zKo, mem_append → zKq
open Nat renaming le_refl → zJW, lt_of_lt_of_le → zJ1, lt_or_ge → zKb, ne_of_lt → zKe, ne_of_gt → zKg, le_trans → zKn
open Option renaming some → zJY, map_some → zJ5, map_eq_some_iff → zKf, map_none → zKt
set_option linter.all false
set_option maxHeartbeats 16000000
set_option maxRecDepth 20000
namespace Vc
open Go
def oa:List Oper→Nat→List Oper
 | [],_=>[]
 | o::_,0=>[o]
 | _::r,k+1=>oa r k
def ig:List Nat→Nat→Nat
 | [],_=>0
 | x::r,j=>if x=j then 0 else ig r j+1
def permE (p:List Nat)(e:Edge):Edge:=⟨ig p e.on,e.ground⟩
def Ea (p:List Nat):Option (Nat × Bool)→Option (Nat × Bool)
 | none=>none
 | some (g,b)=>some (ig p g,b)
def ov (p:List Nat):Oper→Oper
 | ⟨dst,op,ty,pos,after,guard⟩=>⟨dst,op,ty,pos,after.map (permE p),Ea p guard⟩
def na (ops:List Oper)(q:List Nat):List Nat→List Oper
 | []=>[]
 | x::r=>(oa ops x).map (ov q)++na ops q r
def nd (ops:Array Oper):List Nat→Array Oper
 | []=>ops
 | x::r=>(na ops.toList (x::r) (x::r)).toArray
def G8 (ops:Array Oper)(p:List Nat):Bool:=p.length==ops.size&&p.all (fun i=>decide (i<ops.size))&&(zJU ops.size).all (fun k=>p.contains k&&(decide (p.getD k 0<ops.size)&&ig p (p.getD k 0)==k))
def Eb (ops:Array Oper):List Nat→Prop
 | []=>True
 | x::r=>G8 ops (x::r)=true
theorem tq (l:List Oper)(k:Nat):oa l k=l[k]?.toList:=by
 induction l generalizing k with
 | nil=>simp[oa]
 | cons o r ih=>cases k with
   | zero=>simp[oa]
   | succ k=>simp[oa,ih]
theorem rn (ops:List Oper)(q:List Nat):∀ (p:List Nat),(∀ i∈p,i<ops.length)→(na ops q p).length=p.length∧∀ k:Nat,(na ops q p)[k]? = (p[k]?).bind fun i=>(ops[i]?).map (ov q)
 | [],_=>⟨rfl,fun k=>by simp[na]⟩
 | x::r,h=>by
   obtain⟨h1,h2⟩:=rn ops q r (fun i hi=>h i (zKi _ hi))
   have hx:x<ops.length:=h x (zJ8 ..)
   have e:oa ops x=[ops[x]]:=by rw[tq,zJQ hx];rfl
   refine⟨by simp[na,e,h1],fun k=>?_⟩
   cases k with
   | zero=>simp[na,e,zJQ hx]
   | succ k=>simp[na,e,h2]
theorem jr:∀ (p:List Nat)(j:Nat),(j∈p→p[ig p j]? = some j)∧(j ∉ p→ig p j=p.length)
 | [],j=>by simp[ig]
 | x::r,j=>by
   obtain⟨h1,h2⟩:=jr r j
   by_cases h:x=j
   ·simp[ig,h]
   ·have h':¬ j=x:=fun e=>h e.symm
    simp only[ig,if_neg h,List.mem_cons,h',false_or,List.getElem?_cons_succ,List.length_cons]
    exact⟨h1,fun hn=>by rw[h2 hn]⟩
theorem xd (p:List Nat)(o:Oper):(ov p o).dst=o.dst:=by cases o;rfl
theorem G7 {P:Program}{p:List Nat}{o:Oper}{a:Act}{w:World}{K:Act→World→Prop}{Q:Exit→Act→World→Prop}(h:(ov p o).wp P a w K Q):o.wp P a w K Q:=by cases o;exact h
theorem CV {P:Program}{p:List Nat}{o:Oper}{a:Act}{w:World}(h:(ov p o).asks P a w):o.asks P a w:=by cases o;exact h
structure OrdP (p:List Nat) (n:Nat):Prop where
 len:p.length=n
 lt:∀ i∈p,i<n
 mem:∀ {i:Nat},i<n→i∈p
 onto:∀ k,k<n→∃ i,i<n∧ig p i=k
section
variable {ops:Array Oper} {p:List Nat} (hp:OrdP p ops.size)
def pT (ops:Array Oper)(p:List Nat):Array Oper:=(na ops.toList p p).toArray
include hp
theorem rq:(pT ops p).size=ops.size:=by
 have:=(rn ops.toList p p (fun i hi=>by simpa using hp.lt i hi)).1
 simp[pT,this,hp.len]
theorem ui {i:Nat}(hi:i<ops.size):(pT ops p)[ig p i]? = (ops[i]?).map (ov p):=by
 have h2:=(rn ops.toList p p (fun i hi=>by simpa using hp.lt i hi)).2 (ig p i)
 have h3:=(jr p i).1 (hp.mem hi)
 simp only[pT,List.getElem?_toArray,h2,h3,Option.bind_some]
 simp
theorem Dn {i:Nat}(hi:i<ops.size):ig p i<ops.size:=by
 have h3:=(jr p i).1 (hp.mem hi)
 have:=(zJK.1 h3).1
 rw[hp.len]at this
 exact this
theorem HI {i:Nat}(hi:¬ i<ops.size):ig p i=ops.size:=by
 rw[(jr p i).2 (fun h=>hi (hp.lt i h)),hp.len]
theorem inv_inj {i k:Nat}(hi:i<ops.size)(hk:k<ops.size)(h:ig p i=ig p k):i=k:=by
 have h1:=(jr p i).1 (hp.mem hi)
 have h2:=(jr p k).1 (hp.mem hk)
 rw[h,h2]at h1
 exact((zJY.injEq _ _).mp h1).symm
theorem Gt (tmps:Array Value)(g:Nat):yielded (pT ops p) tmps (ig p g)=yielded ops tmps g:=by
 unfold yielded
 have:((pT ops p)[ig p g]?).bind (·.dst)=(ops[g]?).bind (·.dst):=by
  by_cases h:g<ops.size
  ·rw[ui hp h]
   rw[zJ9 h]
   simp[xd]
  ·rw[HI hp h,zKm (by rw[rq hp];exact zJW _),zKm (by omega)]
 rw[this]
theorem wanted' (tmps:Array Value)(o:Oper):Region.wanted (ov p o) (yielded (pT ops p) tmps)=Region.wanted o (yielded ops tmps):=by
 obtain⟨dst,op,ty,pos,after,guard⟩:=o
 cases guard with
 | none=>rfl
 | some g =>
   obtain⟨g,b⟩:=g
   simp only[ov,Ea,Region.wanted,Gt hp]
def Ci (ops:Array Oper)(p:List Nat)(L L':Array Bool):Prop:=L.size=ops.size∧L'.size=ops.size∧∀ i,i<ops.size→L'.getD (ig p i) false=L.getD i false
omit hp in
theorem EE {L:Array Bool}{i:Nat}(h:i<L.size):L.getD i true=L.getD i false:=by simp[Array.getD,h]
theorem CU {md:Region.Mode}{L L':Array Bool}(hs:Ci ops p L L'){i:Nat}(hi:i<ops.size):ig p i∈Region.ready md (pT ops p) L'↔i∈Region.ready md ops L:=by
 obtain⟨s1,s2,s3⟩:=hs
 rw[mem_ready,mem_ready,EE (by rw[s2];exact Dn hp hi),EE (by rw[s1];exact hi),s3 i hi,ui hp hi]
 have ho:ops[i]? = some ops[i]:=zJ9 hi
 rw[ho]
 have BB:∀ n:Nat,L'.getD (ig p n) false=L.getD n false:=fun n=>by
  by_cases hn:n<ops.size
  ·exact s3 n hn
  ·rw[HI hp hn]
   simp[Array.getD,s1,s2,hn]
 refine and_congr_right fun _=>?_
 generalize ops[i]=o
 obtain⟨dst,op,ty,pos,after,guard⟩:=o
 simp only[zJ5,zJY.injEq,exists_eq_left',ov,Array.mem_map,forall_exists_index,and_imp,forall_apply_eq_imp_iff₂]
 refine forall_congr' fun e=>forall_congr' fun he=>?_
 simp only[permE,BB]
 rfl
theorem set' {L L':Array Bool}(hs:Ci ops p L L'){i:Nat}(hi:i<ops.size):Ci ops p (L.setIfInBounds i true) (L'.setIfInBounds (ig p i) true):=by
 obtain⟨s1,s2,s3⟩:=hs
 refine⟨by simpa using s1,by simpa using s2,fun k hk=>?_⟩
 by_cases h:i=k
 ·subst h
  have:=Dn hp hk
  simp[Array.getD,s1,s2,hk,this]
 ·have h':ig p i≠ig p k:=fun e=>h (inv_inj hp hi hk e)
  rw[getD_set_ne false h,getD_set_ne false h']
  exact s3 k hk
theorem none' {md:Region.Mode}{L L':Array Bool}(hs:Ci ops p L L'):Region.ready md ops L=[]→Region.ready md (pT ops p) L'=[]:=fun h=>by
 cases h':Region.ready md (pT ops p) L' with
 | nil=>rfl
 | cons k r =>
   have hk:k∈Region.ready md (pT ops p) L':=by rw[h'];exact zJ8 ..
   have aC:k<ops.size:=by
    obtain⟨o,ho,_⟩:=(mem_ready.1 hk).2
    have:=(zJN.1 ho).1
    rwa [rq hp]at this
   obtain⟨i,hi,e⟩:=hp.onto k aC
   rw[← e,CU hp hs hi,h]at hk
   cases hk
theorem zG {P:Program}{Q:Exit→Act→World→Prop}{md:Region.Mode}:∀ (fuel:Nat)(L L':Array Bool)(a:Act)(w:World),Ci ops p L L'→wpAny P md (pT ops p) Q fuel L' a w→wpAny P md ops Q fuel L a w:=by
 intro fuel
 induction fuel with
 | zero =>
   intro L L' a w hs h
   refine⟨?_,h.2⟩
   cases h':Region.ready md ops L with
   | nil=>rfl
   | cons i r =>
     have hi:i∈Region.ready md ops L:=by rw[h'];exact zJ8 ..
     have aC:i<ops.size:=by
      obtain⟨o,ho,_⟩:=(mem_ready.1 hi).2
      exact(zJN.1 ho).1
     rw[← CU hp hs aC,h.1]at hi
     cases hi
 | succ fuel ih =>
   intro L L' a w hs h
   refine⟨fun h0=>h.1 (none' hp hs h0),fun i hi=>?_⟩
   have aC:i<ops.size:=by
    obtain⟨o,ho,_⟩:=(mem_ready.1 hi).2
    exact(zJN.1 ho).1
   have h1:=h.2 _ ((CU hp hs aC).2 hi)
   have ho:ops[i]? = some ops[i]:=zJ9 aC
   unfold wpOp at h1 ⊢
   rw[ui hp aC,ho]at h1
   rw[ho]
   simp only[zJ5,wanted' hp,xd]at h1 ⊢
   have hK:∀ a w,wpAny P md (pT ops p) Q fuel (L'.setIfInBounds (ig p i) true) a w→wpAny P md ops Q fuel (L.setIfInBounds i true) a w:=fun a w=>ih _ _ a w (set' hp hs aC)
   split
   ·rename_i hw
    rw[if_pos hw]at h1
    exact h1.imp (fun h=>Oper.wp_mono hK (G7 h)) (fun h=>⟨CV h.1,h.2⟩)
   ·rename_i hw
    rw[if_neg hw]at h1
    exact hK _ _ h1
end
theorem Cv {P:Program}{Q:Exit→Act→World→Prop}{md:Region.Mode}{ops:Array Oper}{a:Act}{w:World}:∀ (p:List Nat),Eb ops p→wpAny P md (nd ops p) Q (nd ops p).size (zKj (nd ops p).size false) a w→wpAny P md ops Q ops.size (zKj ops.size false) a w
 | [],_,h=>h
 | x::r,hb,h=>by
   simp only[Eb,G8,zJL,beq_iff_eq,decide_eq_true_eq,zJP]at hb
   obtain⟨⟨h1,h2⟩,h3⟩:=hb
   have hp:OrdP (x::r) ops.size:=⟨h1,h2,fun {i} hi=>zKh.1 (h3 i (zJ2.2 hi)).1,fun k hk=>⟨_,(h3 k (zJ2.2 hk)).2⟩⟩
   have hs:=rq hp
   have e:nd ops (x::r)=pT ops (x::r):=rfl
   rw[e,hs]at h
   refine zG hp _ _ _ _ _ ⟨by simp,by simp,fun i hi=>?_⟩ h
   have:=Dn hp hi
   simp[Array.getD,hi,this]
open Go Go.RowKit Wf
inductive fA where
 | go (c:Prop) (σ:St)
 | call (f:FuncId) (args:List SV) (dst:Option Tmp) (σ:St)
 | bad
def goR (dst:Option Tmp)(σ:St):Option (Prop × SV)→fA→fA
 | some (c,x),_=>.go c ⟨put dst x σ.t,σ.b⟩
 | none,m=>m
def XC (V:Cx)(dst:Option Tmp)(T:TypeId)(σ:St):fA:=match V.Γ T with
 | some ti=>.go True ⟨put dst (.p σ.b.length 0) σ.t,σ.b++[.cells ti.zero T true]⟩
 | none=>.bad
def sBox (dst:Option Tmp)(T:TypeId)(x:Operand)(σ:St):fA:=match ev σ.t x with
 | some x=>.go (HH x=false) ⟨put dst (.p σ.b.length 0) σ.t,σ.b++[.cells (cells x) T true]⟩
 | none=>.bad
def XU (V:Cx)(dst:Option Tmp)(T:TypeId)(x:Operand)(σ:St):fA:=match ev σ.t x with
 | some (.p i off)=>match iH σ.b i with
   | some (c,_,_)=>match V.Γ T with
     | some ti=>match XM ti.agg off ti.size c with
       | some x=>.go (off+ti.size≤c.length) ⟨put dst x σ.t,σ.b⟩
       | none=>.bad
     | none=>.bad
   | none=>.bad
 | _=>.bad
def XH (V:Cx)(dst:Option Tmp)(T:TypeId)(x y:Operand)(σ:St):fA:=match ev σ.t x with
 | some (.p i off)=>match ev σ.t y with
   | some y=>match iH σ.b i with
     | some (c,_,m)=>match sz V.Γ T with
       | some s=>.go (m=true∧(cells y).all one=true∧(cells y).length=s∧off+s≤c.length) ⟨put dst (.v undef) σ.t,tP σ.b i (Xs c off (cells y))⟩
       | none=>.bad
     | none=>.bad
   | none=>.bad
 | _=>.bad
def Xr (V:Cx)(dst:Option Tmp)(T:TypeId)(ps:List (Nat × Operand))(σ:St):fA:=match V.Γ T with
 | some ti=>match ti.kind with
   | .struct fs=>match Xl σ.t ps with
     | some ps=>match XZ fs V.Γ ps ti.zero with
       | some c=>.go True ⟨put dst (.agg c) σ.t,σ.b⟩
       | none=>.bad
     | none=>.bad
   | _=>.bad
 | none=>.bad
def Xt:Fn→Bool
 | .func _=>true
 | _=>false
def sNil (dst:Option Tmp)(x:Operand)(σ:St):fA:=match ev σ.t x with
 | some (.p i off)=>.go True ⟨put dst (.p i off) σ.t,σ.b⟩
 | some (.fn f l)=>.go (Xt f=true) ⟨put dst (.fn f l) σ.t,σ.b⟩
 | some (.mv f l)=>.go True ⟨put dst (.mv f l) σ.t,σ.b⟩
 | _=>.bad
def XL (dst:Option Tmp)(f:Operand)(args:List Operand)(σ:St):fA:=match ev σ.t f with
 | some (.fn (.func f) caps)=>match xQ σ.t args with
   | some l=>.call f (l++caps) dst σ
   | none=>.bad
 | some (.mv f first)=>match xQ σ.t args with
   | some l=>.call f (first++l) dst σ
   | none=>.bad
 | _=>.bad
def yo (V:Cx)(dst:Option Tmp)(rc:Operand)(name:String)(args:List Operand)(σ:St):fA:=match ev σ.t rc with
 | some (.Ek T x)=>match V.M T name with
   | some f=>match xQ σ.t args with
     | some l=>.call f (x::l) dst σ
     | none=>.bad
   | none=>.bad
 | _=>.bad
def HG (l:List UInt8)(p:Nat):Rsc where
 holds t fp w:=t.off=0∧w.heap[t.cK]? = some (.stringIter ⟨zJ6 l⟩ p)∧∀ k,fp k↔k=t.cK
 stays b fp w w':=by
  rintro⟨h0,h1,h2⟩ hk
  exact⟨h0,(hk _ ((h2 _).2 rfl)).trans h1,h2⟩
 it:=some (l,p)
 itOk l' p' b fp w h k:=by cases h;exact k
theorem HF (l:List UInt8)(p:Nat):(HG l p).it=some (l,p):=rfl
def itOf:Option aw→Option (List UInt8 × Nat)
 | some (.ext R)=>R.it
 | _=>none
def Hj (dst:Option Tmp)(σ:St)(i:Nat)(l:List UInt8)(p:Nat):Bool→fA
 | true=>.go ((l.getD p 0).toNat<128) ⟨put dst (.eR [.bool true,.int .i64 p,.int .i32 (l.getD p 0).toNat]) σ.t,σ.b.set i (.ext (HG l (p+1)))⟩
 | false=>.go True ⟨put dst (.eR [.bool false]) σ.t,σ.b⟩
def CO (V:Cx)(dst:Option Tmp)(T:TypeId)(x:Operand)(σ:St):fA:=match kd V.Γ T with
 | some .str=>match ev σ.t x with
   | some (.str l)=>.go True ⟨put dst (.p σ.b.length 0) σ.t,σ.b++[.ext (HG l 0)]⟩
   | _=>.bad
 | _=>.bad
def GS (dst:Option Tmp)(x:Operand)(σ:St):fA:=match ev σ.t x with
 | some (.p i 0)=>match itOf σ.b[i]? with
   | some (l,p)=>Hj dst σ i l p (decide (p<l.length))
   | none=>.bad
 | _=>.bad
def Dl:Op→Bool
 | .range _ _=>true
 | .next _ _=>true
 | _=>false
def Yd (V:Cx)(dst:Option Tmp):Op→St→fA
 | .alloc T,σ=>XC V dst T σ
 | .box T x,σ=>sBox dst T x σ
 | .load T x,σ=>XU V dst T x σ
 | .store T x y,σ=>XH V dst T x y σ
 | .build T ps,σ=>Xr V dst T ps.toList σ
 | .nilCheck x,σ=>sNil dst x σ
 | .call ⟨.value f,args,_⟩,σ=>XL dst f args.toList σ
 | .call ⟨.invoke rc name,args,_⟩,σ=>yo V dst rc name args.toList σ
 | .range T x,σ=>CO V dst T x σ
 | .next x true,σ=>GS dst x σ
 | _,_=>.bad
def yd (V:Cx)(dst:Option Tmp)(op:Op)(σ:St):fA:=goR dst σ (pv V.Γ σ.t op) (Yd V dst op σ)
def Gg:Option (Prop × St)→fA→fA
 | some (c,σ),_=>.go c σ
 | none,m=>m
def XR (V:Cx)(dst:Option Tmp)(op:Op)(σ:St):fA:=goR dst σ (pv V.Γ σ.t op) (Gg (Yl V dst op σ) (Yd V dst op σ))
def gV (V:Cx)(K:St→Prop):fA→Prop
 | .go c σ=>c∧K σ
 | .call f args dst σ=>(∃ r,PC V f args r∧K ⟨put dst r σ.t,σ.b⟩)∨(∃ R,SC V f args σ.b R∧∀ r bs,R r bs→K ⟨put dst r σ.t,bs⟩)
 | .bad=>False
theorem rT {V:Cx}{n:Nat}{dst:Option Tmp}{op:Op}{σ:St}{K:St→Prop}(hf:fits n dst=true)(h:gV V K (yd V dst op σ))(hI:Dl op=false∨∃ p,pv V.Γ σ.t op=some p):vcO V n dst op σ K:=by
 refine⟨hf,?_⟩
 unfold yd at h
 split
 ·rename_i c x hp
  rw[hp]at h
  exact h
 ·rename_i hp
  rw[hp]at h
  simp only[goR]at h
  replace hI:Dl op=false:=hI.resolve_right (by rintro⟨p,hp2⟩;rw[hp]at hp2;cases hp2)
  cases op <;> simp only[Yd]at h <;> simp only[vcM]
  case range=>simp[Dl]at hI
  case next=>simp[Dl]at hI
  case alloc T=>unfold XC at h;(repeat' split at h) <;> simp_all [gV]
  case box T x=>unfold sBox at h;(repeat' split at h) <;> simp_all [gV]
  case load T x=>unfold XU at h;(repeat' split at h) <;> simp_all [gV]
  case store T x y=>unfold XH at h;(repeat' split at h) <;> simp_all [gV]
  case build T ps=>unfold Xr at h;(repeat' split at h) <;> simp_all [gV]
  case nilCheck x =>
   unfold sNil at h
   split at h
   ·rename_i e;rw[e];exact h.2
   ·rename_i f l e
    rw[e]
    refine⟨?_,h.2⟩
    have:=h.1
    cases f <;> simp[Xt]at this ⊢
   ·rename_i f l e;rw[e];exact h.2
   ·cases h
  case call c =>
   clear hI
   obtain⟨callee,args,ts⟩:=c
   cases callee <;> simp only at h ⊢
   case value f=>unfold XL at h;(repeat' split at h) <;> simp_all [gV]
   case invoke rc name=>unfold yo at h;(repeat' split at h) <;> simp_all [gV]
   all_goals exact h
  all_goals exact h
theorem Wd.turn {V:Cx}{F:Fx V}{β:Nat→Bt}{fp:Nat→Nat→Prop}{bs:List aw}{w w':World}(h:Wd F β fp bs w){i:Nat}{R R':Rsc}(hi:bs[i]? = some (.ext R))(jM:mJ (fp i) w w')(kS:w'.heap.size=w.heap.size)(hR:∀ β',bC bs.length β β'→R'.holds (β' i) (fp i) w'):Wd F β fp (bs.set i (.ext R')) w':=by
 have eF:=(zJK.1 hi).1
 have old:∀ {j:Nat} {r:aw},(bs.set i (.ext R'))[j]? = some r→(j≠i∧bs[j]? = some r)∨(j=i∧r=.ext R'):=fun {j r} hj=>by
  by_cases e:j=i
  ·subst e
   rw[zJZ eF]at hj
   exact .inr ⟨rfl,by simpa using hj.symm⟩
  ·rw[zJT (fun q=>e q.symm)]at hj
   exact .inl ⟨e,hj⟩
 have oldr:∀ {j:Nat} {r:aw},(bs.set i (.ext R'))[j]? = some r→∃ r0,bs[j]? = some r0∧r0.cC=r.cC:=fun {j r} hj=>by
  rcases old hj with⟨-,hj⟩|⟨rfl,rfl⟩
  ·exact⟨r,hj,rfl⟩
  ·exact⟨_,hi,rfl⟩
 have fB:=h.bx β (bC.refl _ _)
 refine⟨⟨jM.os.trans h.fr.os,jM.tape.trans h.fr.tape,jM.output.trans h.fr.output,zKn h.fr.size jM.size,fun k hk hn=>?_⟩,fun β' hβ=>?_,fun j r hj hm k hk=>?_,⟨h.tv.zE,by rw[zKa];exact h.tv.len⟩,fun j r hj k hk=>?_⟩
 ·rw[jM.block k (zJ1 hk h.fr.size) (fun hk'=>?_)]
  ·exact h.fr.block k hk hn
  ·rcases h.cC i _ hi rfl k hk' with h1|h1
   ·omega
   ·exact hn h1
 ·rw[zKa]at hβ
  have hb:=h.bx β' hβ
  refine⟨fun j r hj=>?_,fun j r hj k hk=>?_,fun j q r r' hj hq bp hm k hk hk'=>?_⟩
  ·rcases old hj with⟨e,hj⟩|⟨rfl,rfl⟩
   ·exact(hb.holds j r hj).stays (fun k hk=>jM.block k (hb.lt j r hj k hk) (fun hk'=>hb.sep j i r _ hj hi e (.inr rfl) k hk hk'))
   ·exact hR β' hβ
  ·obtain⟨r0,h1,-⟩:=oldr hj
   rw[kS];exact hb.lt j r0 h1 k hk
  ·obtain⟨r0,h1,e1⟩:=oldr hj
   obtain⟨r1,h2,e2⟩:=oldr hq
   exact hb.sep j q r0 r1 h1 h2 bp (by rw[e1,e2];exact hm) k hk hk'
 ·obtain⟨r0,h1,e1⟩:=oldr hj
  exact h.cC j r0 h1 (by rw[e1];exact hm) k hk
 ·obtain⟨r0,h1,-⟩:=oldr hj
  exact h.lU j r0 h1 k hk
theorem run_next_at {P:Program}{w:World}{k:Nat}{l:List UInt8}{p:Nat}(hw:w.heap[k]? = some (.stringIter ⟨zJ6 l⟩ p))(ty:TypeId)(h:p<l.length)(ha:(l.getD p 0).toNat<128) :
 (Instr.next (.pointer (some ⟨k,0,none⟩)) true ty).run P w=.ok (.tuple #[.bool true,.int .i64 p,.int .i32 (l.getD p 0).toNat]) { w with heap:=w.heap.setIfInBounds k (.stringIter ⟨zJ6 l⟩ (p+1)) }:=by
 have hs:(⟨zJ6 l⟩:ByteArray).size=l.length:=by simp[ByteArray.size]
 have hb:(⟨zJ6 l⟩:ByteArray)[p]'(by rw[hs];exact h)=l.getD p 0:=by
  rw[zJX,zJQ h];rfl
 have hd:=decode_ascii (⟨zJ6 l⟩:ByteArray) p (by rw[hs];exact h) (by rw[hb];exact ha)
 rw[hb]at hd
 simp only[Instr.next,getObj,setObj,Sem.run_bind,Sem.run,hw,Result.andThen,hs,h,if_true,hd]
 simp[goInt,Sem.run,hw]
theorem vU {P:Program}{w:World}{k:Nat}{l:List UInt8}{p:Nat}(hw:w.heap[k]? = some (.stringIter ⟨zJ6 l⟩ p))(ty:TypeId)(h:¬ p<l.length) :
 (Instr.next (.pointer (some ⟨k,0,none⟩)) true ty).run P w=.ok (.tuple #[.bool false]) w:=by
 have hs:(⟨zJ6 l⟩:ByteArray).size=l.length:=by simp[ByteArray.size]
 simp[Instr.next,getObj,Sem.run,hw,hs,h]
theorem zV {V:Cx}{F:Fx V}{dst:Option Tmp}{op:Op}{σ:St}{K:St→Prop}(bU:fits F.n dst=true)(hI:Dl op=true)(h:gV V K (Yd V dst op σ)){a:Act}{w:World}(hr:Rel F σ a w)(ty:TypeId)(pos:String)(after:Array Edge)(guard:Option (Nat × Bool))(Q:Exit→Act→World→Prop) :
 (⟨dst,op,ty,pos,after,guard⟩:Oper).wp V.P a w (fun a w=>∃ σ,K σ∧Rel F σ a w) Q:=by
 obtain⟨β,fp,hf,hw⟩:=hr
 cases op <;> simp only[Dl,Bool.false_eq_true]at hI
 case range T x =>
  simp only[Yd,CO]at h
  split at h
  rotate_left
  ·cases h
  rename_i hk
  split at h
  rotate_left
  ·cases h
  rename_i l hx
  have hK:=h.2
  have hund:V.P.underlying T=some .string:=by
   unfold kd at hk
   cases hT:V.Γ T with
   | none=>rw[hT]at hk;cases hk
   | some ti =>
     rw[hT]at hk
     obtain⟨d,h1,h2⟩:=(V.gZ T ti hT).und
     simp only[zJ5,zJY.injEq]at hk
     rw[hk]at h2
     rw[h1,h2]
  have he:=(hf.ok β (bC.refl _ _)).ev hx
  have bJ:(execOp a.eval ⟨dst,.range T x,ty,pos,after,guard⟩).run V.P w=Result.ok (.value (.pointer (some ⟨w.heap.size,0,none⟩))) (w.iter ⟨zJ6 l⟩ 0):=by
   refine bO ?_
   rw[he]
   exact run_range_string w T _ hund
  refine wp_of_value bJ ⟨_,hK,nO β σ.b.length ⟨w.heap.size,0,0⟩,nZ fp σ.b.length (·=w.heap.size),?_,hw.more ((Below.refl _ _).alloc (zJW _) _) _ ⟨w.heap.size,0,0⟩ _ (fun β' hβ=>⟨rfl,World.iter_heap w _ 0,fun k=>Iff.rfl⟩) (fun k hk=>?_)⟩
  ·exact(hf.more (by simp) (ez _ _ _)).put bU (fun β' hβ=>by simp only[ah];rw[← hβ σ.b.length (by simp),fZ])
  ·subst hk
   exact⟨zJW _,by rw[size_alloc];omega⟩
 case next x b =>
  cases b
  ·simp only[Yd,gV]at h
  ·simp only[Yd,GS]at h
   split at h
   rotate_left
   ·cases h
   rename_i i hx
   split at h
   rotate_left
   ·cases h
   rename_i l p hit
   obtain⟨R,hR,hRi⟩:∃ R:Rsc,σ.b[i]? = some (.ext R)∧R.it=some (l,p):=by
    unfold itOf at hit
    split at hit
    ·rename_i R hR;exact⟨R,hR,hit⟩
    ·cases hit
   have he:=(hf.ok β (bC.refl _ _)).ev hx
   have hh:∀ β',bC σ.b.length β β'→(β' i).off=0∧w.heap[(β' i).cK]? = some (.stringIter ⟨zJ6 l⟩ p)∧∀ k,fp i k↔k=(β' i).cK:=fun β' hβ=>R.itOk l p _ _ _ hRi ((hw.bx β' hβ).holds i _ hR)
   obtain⟨h0,h1,h2⟩:=hh β (bC.refl _ _)
   have hev:a.eval x=.pointer (some ⟨(β i).cK,0,none⟩):=by rw[he];simp[ah,h0]
   by_cases hp:p<l.length
   ·have hd:decide (p<l.length)=true:=decide_eq_true hp
    rw[hd]at h
    obtain⟨ha,hK⟩:=h
    have bJ:(execOp a.eval ⟨dst,.next x true,ty,pos,after,guard⟩).run V.P w=Result.ok (.value (.tuple #[.bool true,.int .i64 p,.int .i32 (l.getD p 0).toNat])) { w with heap:=w.heap.setIfInBounds (β i).cK (.stringIter ⟨zJ6 l⟩ (p+1)) }:=by
     refine bO ?_
     rw[hev]
     exact run_next_at h1 ty hp ha
    have aC:(β i).cK<w.heap.size:=(zJN.1 h1).1
    refine wp_of_value bJ ⟨_,hK,β,fp,?_,hw.turn hR ⟨rfl,rfl,rfl,by simp,fun k hk hn=>?_⟩ (by simp) (fun β' hβ=>?_)⟩
    ·rw[zKa];exact hf.put bU (fun β' hβ=>by simp[ah,aJ])
    ·exact Array.getElem?_setIfInBounds_ne (fun e=>hn ((h2 k).2 e.symm))
    ·obtain⟨q0,q1,q2⟩:=hh β' hβ
     have e:(β' i).cK=(β i).cK:=((h2 _).1 ((q2 _).2 rfl))
     exact⟨q0,by rw[e];simp[aC],q2⟩
   ·have hd:decide (p<l.length)=false:=decide_eq_false hp
    rw[hd]at h
    have hK:=h.2
    have bJ:(execOp a.eval ⟨dst,.next x true,ty,pos,after,guard⟩).run V.P w=Result.ok (.value (.tuple #[.bool false])) w:=by
     refine bO ?_
     rw[hev]
     exact vU h1 ty hp
    exact wp_of_value bJ ⟨_,hK,β,fp,hf.put bU (fun β' hβ=>by simp[ah,aJ]),hw⟩
theorem mS {V:Cx}{F:Fx V}{dst:Option Tmp}{op:Op}{σ:St}{K:St→Prop}(bU:fits F.n dst=true)(h:gV V K (XR V dst op σ)){a:Act}{w:World}(hr:Rel F σ a w)(ty:TypeId)(pos:String)(after:Array Edge)(guard:Option (Nat × Bool))(Q:Exit→Act→World→Prop) :
 (⟨dst,op,ty,pos,after,guard⟩:Oper).wp V.P a w (fun a w=>∃ σ,K σ∧Rel F σ a w) Q:=by
 unfold XR at h
 cases hp:pv V.Γ σ.t op with
 | some p =>
   rw[hp]at h
   exact wM (rT bU (by unfold yd;rw[hp];exact h) (.inr ⟨p,hp⟩)) hr _ rfl rfl Q
 | none =>
   rw[hp]at h
   simp only[goR]at h
   cases hn:Yl V dst op σ with
   | some p =>
     rw[hn]at h
     exact zT bU hn h.1 h.2 hr ty pos after guard Q
   | none =>
     rw[hn]at h
     cases hI:Dl op with
     | false=>exact wM (rT bU (by unfold yd;rw[hp];exact h) (.inl hI)) hr _ rfl rfl Q
     | true=>exact zV bU hI h hr ty pos after guard Q
structure jK where
 x:SV
 nb:Option (List aw)
 all:Bool
 rd:List (Nat × Nat × Nat)
 wr:List (Nat × Nat × Nat)
structure Rk where
 s:Bool
 all:Bool
 rd:List (Nat × Nat × Nat)
 wr:List (Nat × Nat × Nat)
inductive iM where
 | val (c:Prop) (r:jK)
 | call (f:FuncId) (args:List SV)
 | bad
def oE (c:Prop)(x:SV):iM:=.val c ⟨x,none,false,[],[]⟩
def FW:Option (Prop × SV)→iM→iM
 | some (c,x),_=>oE c x
 | none,m=>m
def XD (V:Cx)(T:TypeId)(σ:St):iM:=match V.Γ T with
 | some ti=>.val True ⟨.p σ.b.length 0,some (σ.b++[.cells ti.zero T true]),false,[],[(σ.b.length,0,0)]⟩
 | none=>.bad
def I1 (T:TypeId)(x:Operand)(σ:St):iM:=match ev σ.t x with
 | some x=>.val (HH x=false) ⟨.p σ.b.length 0,some (σ.b++[.cells (cells x) T true]),false,[],[(σ.b.length,0,0)]⟩
 | none=>.bad
def XI (V:Cx)(T:TypeId)(x:Operand)(σ:St):iM:=match ev σ.t x with
 | some (.p i off)=>match iH σ.b i with
   | some (c,_,_)=>match V.Γ T with
     | some ti=>match XM ti.agg off ti.size c with
       | some x=>.val (off+ti.size≤c.length∧0<ti.size) ⟨x,none,false,[(i,off,ti.size)],[]⟩
       | none=>.bad
     | none=>.bad
   | none=>.bad
 | _=>.bad
def XF (V:Cx)(T:TypeId)(x y:Operand)(σ:St):iM:=match ev σ.t x with
 | some (.p i off)=>match ev σ.t y with
   | some y=>match iH σ.b i with
     | some (c,_,m)=>match sz V.Γ T with
       | some s=>.val (m=true∧(cells y).all one=true∧(cells y).length=s∧off+s≤c.length∧0<s) ⟨.v undef,some (tP σ.b i (Xs c off (cells y))),false,[],[(i,off,s)]⟩
       | none=>.bad
     | none=>.bad
   | none=>.bad
 | _=>.bad
def XB (V:Cx)(T:TypeId)(ps:List (Nat × Operand))(σ:St):iM:=match V.Γ T with
 | some ti=>match ti.kind with
   | .struct fs=>match Xl σ.t ps with
     | some ps=>match XZ fs V.Γ ps ti.zero with
       | some c=>oE True (.agg c)
       | none=>.bad
     | none=>.bad
   | _=>.bad
 | none=>.bad
def I0 (x:Operand)(σ:St):iM:=match ev σ.t x with
 | some (.p i off)=>oE True (.p i off)
 | some (.fn f l)=>oE (Xt f=true) (.fn f l)
 | _=>.bad
def XK (f:Operand)(args:List Operand)(σ:St):iM:=match ev σ.t f with
 | some (.fn (.func f) caps)=>match xQ σ.t args with
   | some l=>.call f (l++caps)
   | none=>.bad
 | _=>.bad
def Xv (V:Cx):Op→St→iM
 | .alloc T,σ=>XD V T σ
 | .box T x,σ=>I1 T x σ
 | .load T x,σ=>XI V T x σ
 | .store T x y,σ=>XF V T x y σ
 | .build T ps,σ=>XB V T ps.toList σ
 | .nilCheck x,σ=>I0 x σ
 | .call ⟨.value f,args,_⟩,σ=>XK f args.toList σ
 | _,_=>.bad
def idxs:List (Option SV)→List (Nat × Nat × Nat)
 | []=>[]
 | some (.o j _)::r=>(j,0,0)::idxs r
 | some (.f j _)::r=>(j,0,0)::idxs r
 | _::r=>idxs r
def Xz (V:Cx):Op→Bool
 | .call ⟨.builtin .append,_,_⟩=>false
 | .makeSlice _ _ _=>false
 | .buildSlice _ _ _=>false
 | .slice _ _ none (some _) (some _)=>true
 | .slice _ _ _ _ _=>false
 | .convert _ _ _=>false
 | _=>true
def zx:Op→List Operand
 | .call ⟨_,args,_⟩=>args.toList
 | .buildSlice _ _ ps=>ps.toList.map (·.2)
 | .makeSlice _ a v=>[a,v]
 | .indexAddr _ a v=>[a,v]
 | .slice _ x _ _ _=>[x]
 | .convert _ _ x=>[x]
 | _=>[]
def dN (V:Cx)(op:Op)(σ:St):Option (Prop × St)→iM→iM
 | some (c,σ'),_=>match σ'.t with
   | (_,x)::_=>if Xz V op then .val c ⟨x,none,false,idxs ((zx op).map (ev σ.t)),[]⟩
       else .val c ⟨x,some σ'.b,false,[],(σ.b.length,0,0)::idxs ((zx op).map (ev σ.t))⟩
   | []=>.bad
 | none,m=>m
def XV (V:Cx)(op:Op)(σ:St):iM:=FW (pv V.Γ σ.t op) (dN V op σ (Yl V (some 0) op σ) (Xv V op σ))
def kE (ops:Array Oper):Nat→Nat→Nat→Bool
 | 0,_,_=>false
 | f+1,i,k=>match ops[i]? with
   | some o=>o.after.any fun e=>Region.binds .any e&&(e.on==k||kE ops f e.on k)
   | none=>false
def ovl (a b:Nat × Nat × Nat):Bool:=a.1==b.1&&(b.2.2==0||(decide (a.2.1<b.2.1+b.2.2)&&decide (b.2.1<a.2.1+a.2.2)))
def mh (xs ys:List (Nat × Nat × Nat)):Bool:=xs.any fun a=>ys.any fun b=>ovl a b
def rZ (ops:Array Oper)(i k:Nat):Bool:=match (ops[k]?).bind (·.dst) with
 | some d=>(match ops[i]? with
   | some o=>(o.looksAt ops).contains d||o.dst==some d
   | none=>false)
 | none=>false
def vW:Rk:=⟨false,false,[],[]⟩
def eD (ops:Array Oper)(k:Nat):Bool:=match ops[k]? with
 | some ⟨some _,.alloc _,_,_,_,none⟩=>true
 | some ⟨some _,.buildSlice _ _ _,_,_,_,none⟩=>true
 | _=>false
def tI (ops:Array Oper)(i k:Nat):Bool:=if k<i then kE ops ops.size i k else kE ops ops.size k i
def yy (ops:Array Oper)(rs:List Rk)(i k:Nat):Bool:=!(eD ops k&&decide (k<i))||(zJU k).all fun j=>!(((rs[j]?).getD vW).s)||kE ops ops.size i j
def tX (ops:Array Oper)(rs:List Rk)(i k:Nat):Bool :=
 if rZ ops i k then tI ops i k&&yy ops rs i k
 else if ((rs[i]?).getD vW).s&&((rs[k]?).getD vW).s then eD ops (max i k)||tI ops i k
 else if ((rs[k]?).getD vW).s&&!((rs[i]?).getD vW).rd.isEmpty then(tI ops i k&&yy ops rs i k)||!(((rs[k]?).getD vW).all||mh ((rs[i]?).getD vW).rd ((rs[k]?).getD vW).wr)
 else true
def zm (ops:Array Oper)(rs:List Rk):Bool :=
 (zJU ops.size).all fun i=>(zJU ops.size).all fun k=>k==i||tX ops rs i k
def I9 (ops:Array Oper):Bool :=
 (zJU ops.size).all fun i=>match ops[i]? with
  | some o=>o.after.all fun e=>!Region.binds .any e||decide (e.on<i)
  | none=>true
def Je (ops:Array Oper)(rs:List Rk):Prop:=(zm ops rs&&I9 ops)=true
inductive OT where
 | leaf
 | one (i:Nat) (t:OT)
 | pur (i:Nat) (t:OT)
 | alt (a b:OT)
def rR (n:Nat)(L:List Nat):Array Bool:=L.foldr (fun i a=>a.setIfInBounds i true) (zKj n false)
def OT.uT:OT→List Nat
 | .one i _=>[i]
 | .alt a b=>a.uT++b.uT
 | _=>[]
def OT.yN (ops:Array Oper):List Nat→OT→Bool
 | L,.leaf=>(Region.ready .any ops (rR ops.size L)).isEmpty
 | L,.one i t=>decide (L.length<ops.size)&&(Region.ready .any ops (rR ops.size L)==[i])&&yN ops (i::L) t
 | L,.pur i t=>decide (L.length<ops.size)&&Region.noSelect ops&&Region.free .any ops (rR ops.size L) i&&(Region.ready .any ops (rR ops.size L)).contains i&&yN ops (i::L) t
 | L,.alt a b=>decide (L.length<ops.size)&&!(Region.ready .any ops (rR ops.size L)).isEmpty&&((Region.ready .any ops (rR ops.size L)).all fun i=>(OT.alt a b).uT.contains i)&&Gi ops L a&&Gi ops L b
where Gi (ops:Array Oper):List Nat→OT→Bool
 | L,.one i t=>yN ops (i::L) t
 | L,.alt a b=>Gi ops L a&&Gi ops L b
 | _,_=>false
inductive How where
 | ord (p:List Nat)
 | all (t:OT)
inductive Item where
 | fM (ops:Array Oper) (L:List Nat) (t:OT)
 | cut (J:St→Prop)
 | eO (ops:Array Oper) (l:List Oper) (rs:List Rk)
 | code (c:Code)
 | ops (ops:Array Oper) (l:List Oper)
 | lp (id:Nat)
 | kD (I:St→Prop) (μ:St→Nat) (m:Nat)
def XE (id:Nat):List Item→Option (List Item)
 | []=>none
 | .lp id'::k=>if id'=id then some k else XE id k
 | _::k=>XE id k
structure Fin where
 rs:List ResultVar
 K:SV→List aw→Prop
 /-- How each region that draws is reckoned. -/
 Ev:Nat→How
 /-- Has each call one outcome? -/
 uni:Bool
def vf (V:Cx)(E:Fin)(σ:St):Option (List SV)→Prop
 | some l=>E.K (qV l) σ.b
 | none=>False
def eW:List Oper→Nat→Option Tmp
 | [],_=>none
 | o::_,0=>o.dst
 | _::r,j+1=>eW r j
def Yk (t:List (Nat × SV)):Option Tmp→Option (Nat × Bool)
 | some d=>match lk d t with
   | some (.bool b)=>some (d,b)
   | _=>none
 | none=>none
def nob:Value→Bool
 | .bool _=>false
 | _=>true
theorem Fz:nob undef=true:=rfl
def ED (t:List (Nat × SV)):Option Tmp→Bool
 | some d=>match lk d t with
   | some (.v x)=>nob x
   | _=>false
 | none=>false
def shape:aw→aw
 | .cells _ T m=>.cells [] T m
 | .own _ e s n m=>.own [] e s n m
 | r=>r
def nJ:aw→List SV
 | .cells c _ _=>c
 | .own c _ _ _ _=>c
 | _=>[]
def ob (q:Option Nat)(r:aw):aw × Nat × Option SV:=(shape r,(nJ r).length,match q with
 | some p=>(nJ r)[p]?
 | none=>none)
def inR (x:Nat × Nat × Nat)(q:Option Nat):Prop:=q=none∨∃ p,q=some p∧x.2.1≤p∧p<x.2.1+x.2.2
def GA (x:Nat × Nat × Nat)(j:Nat)(q:Option Nat):Prop:=x.1=j∧(x.2.2=0∨∃ p,q=some p∧x.2.1≤p∧p<x.2.1+x.2.2)
def seen (x:Nat × Nat × Nat)(bi bs:List aw):Prop:=∀ q,inR x q→(bs[x.1]?).map (ob q)=(bi[x.1]?).map (ob q)
def Gd (W:List (Nat × Nat × Nat))(b b0:List aw):Prop:=∀ j q,(∀ y∈W,¬ GA y j q)→(b[j]?).map (ob q)=(b0[j]?).map (ob q)
theorem yM {W:List (Nat × Nat × Nat)}{b b0:List aw}(h:∀ j,(∀ y∈W,y.1≠j)→b[j]? = b0[j]?)(hW:∀ y∈W,y.2.2=0):Gd W b b0:=fun j q hq=>by
 rw[h j fun y hy e=>hq y hy ⟨e,.inl (hW y hy)⟩]
def XQ (b:Bool)(X Y:Prop):Prop:=(b=true→X)∧(b=false→Y)
theorem Xn (X Y:Prop):XQ true X Y=X:=by simp[XQ]
theorem Xo (X Y:Prop):XQ false X Y=Y:=by simp[XQ]
def XG (b want:Bool)(X Y:Prop):Prop:=(b=want→X)∧(b=!want→Y)
theorem Xg (X Y:Prop):XG true true X Y=X:=by simp[XG]
theorem Xd (X Y:Prop):XG false false X Y=X:=by simp[XG]
theorem Xe (X Y:Prop):XG true false X Y=Y:=by simp[XG]
theorem Xf (X Y:Prop):XG false true X Y=Y:=by simp[XG]
mutual
def bw (V:Cx)(n:Nat)(E:Fin):Nat→List Item→St→Prop
 | 0,_,_=>False
 | _+1,[],σ=>vf V E σ (XT V σ E.rs)
 | f+1,.code .skip::k,σ=>bw V n E f k σ
 | f+1,.code (.region _ ops false)::k,σ=>bw V n E f (.ops ops ops.toList::k) σ
 | f+1,.code (.region id ops true)::k,σ=>yr V n E f ops k σ (E.Ev id)
 | f+1,.code (.seq x y)::k,σ=>bw V n E f (.code x::.code y::k) σ
 | f+1,.code (.cond c x y)::k,σ=>XN V n E f x y k σ (ev σ.t c)
 | f+1,.code (.block id x)::k,σ=>bw V n E f (.code x::.lp id::k) σ
 | f+1,.code (.loop x)::k,σ=>uy V n E f x k σ
 | f+1,.code (.exit id)::k,σ=>XO V n E f σ (XE id k)
 | _+1,.code .ret::_,σ=>vf V E σ (XT V σ E.rs)
 | _+1,.code _::_,_=>False
 | f+1,.lp _::k,σ=>bw V n E f k σ
 | _+1,.kD I μ m::_,σ=>I σ∧μ σ<m
 | f+1,.ops _ []::k,σ=>bw V n E f k σ
 | f+1,.ops ops (⟨dst,op,_,_,_,none⟩::r)::k,σ=>fits n dst=true∧Yc V n E f ops r k (XR V dst op σ)
 | f+1,.ops ops (⟨dst,op,_,_,_,some (j,want)⟩::r)::k,σ=>fits n dst=true∧XA V n E f ops dst op want r k σ (Yk σ.t (eW ops.toList j)) (ED σ.t (eW ops.toList j))
 | _+1,.cut J::_,σ=>J σ
 | f+1,.fM _ _ .leaf::k,σ=>bw V n E f k σ
 | f+1,.fM ops L (.one i t)::k,σ=>bw V n E f (.ops ops (oa ops.toList i)::.fM ops (i::L) t::k) σ
 | f+1,.fM ops L (.pur i t)::k,σ=>D9 V n E f ops L i t k σ (oa ops.toList i)
 | f+1,.fM ops L (.alt a b)::k,σ=>bw V n E f (.fM ops L a::k) σ∧bw V n E f (.fM ops L b::k) σ
 | f+1,.eO ops [] rs::k,σ=>Je ops rs∧bw V n E f k σ
 | f+1,.eO ops (⟨dst,op,_,_,_,none⟩::r) rs::k,σ=>fits n dst=true∧Yg V n E f ops r rs k dst σ (XV V op σ)
 | f+1,.eO ops (⟨dst,op,_,_,_,some (j,want)⟩::r) rs::k,σ=>fits n dst=true∧Xy V n E f ops dst op want r rs k σ (Yk σ.t (eW ops.toList j)) (ED σ.t (eW ops.toList j))
def yr (V:Cx)(n:Nat)(E:Fin):Nat→Array Oper→List Item→St→How→Prop
 | f,ops,k,σ,.ord p=>Eb ops p∧bw V n E f (.eO (nd ops p) (nd ops p).toList []::k) σ
 | f,ops,k,σ,.all t=>E.uni=false∧OT.yN ops [] t=true∧∃ J:St→Prop,bw V n E f (.fM ops [] t::.cut J::k) σ∧∀ σ',J σ'→bw V n E f k σ'
def D9 (V:Cx)(n:Nat)(E:Fin):Nat→Array Oper→List Nat→Nat→OT→List Item→St→List Oper→Prop
 | f,ops,L,i,t,k,σ,[⟨dst,op,_,_,_,none⟩]=>fits n dst=true∧D8 V n E f ops L i t k σ dst (pv V.Γ σ.t op)
 | _,_,_,_,_,_,_,_=>False
def D8 (V:Cx)(n:Nat)(E:Fin):Nat→Array Oper→List Nat→Nat→OT→List Item→St→Option Tmp→Option (Prop × SV)→Prop
 | f,ops,L,i,t,k,σ,dst,some (c,x)=>c∧bw V n E f (.fM ops (i::L) t::k) ⟨put dst x σ.t,σ.b⟩
 | _,_,_,_,_,_,_,_,none=>False
def Yg (V:Cx)(n:Nat)(E:Fin):Nat→Array Oper→List Oper→List Rk→List Item→Option Tmp→St→iM→Prop
 | f,ops,r,rs,k,dst,σ,.val c ⟨x,none,all,rd,wr⟩=>c∧bw V n E f (.eO ops r (rs++[⟨false,all,rd,wr⟩])::k) ⟨put dst x σ.t,σ.b⟩
 | f,ops,r,rs,k,dst,σ,.val c ⟨x,some b,all,rd,wr⟩=>c∧bw V n E f (.eO ops r (rs++[⟨true,all,rd,wr⟩])::k) ⟨put dst x σ.t,b⟩
 | f,ops,r,rs,k,dst,σ,.call g args=>lv V n E f ops r rs k dst σ g args
 | _,_,_,_,_,_,_,.bad=>False
def lv (V:Cx)(n:Nat)(E:Fin):Nat→Array Oper→List Oper→List Rk→List Item→Option Tmp→St→FuncId→List SV→Prop
 | f,ops,r,rs,k,dst,σ,g,args=>(∃ x,PC V g args x∧bw V n E f (.eO ops r (rs++[⟨false,false,[],[]⟩])::k) ⟨put dst x σ.t,σ.b⟩)∨(∃ x b,SC V g args σ.b (fun r b'=>r=x∧b'=b)∧bw V n E f (.eO ops r (rs++[⟨true,true,[],[]⟩])::k) ⟨put dst x σ.t,b⟩) ∨
   (∃ x b W,SC V g args σ.b (fun r b'=>r=x∧b'=b)∧Gd W b σ.b∧bw V n E f (.eO ops r (rs++[⟨true,false,[],W⟩])::k) ⟨put dst x σ.t,b⟩)
def Xy (V:Cx)(n:Nat)(E:Fin):Nat→Array Oper→Option Tmp→Op→Bool→List Oper→List Rk→List Item→St→Option (Nat × Bool)→Bool→Prop
 | f,ops,dst,op,want,r,rs,k,σ,some (d,b),_=>fits n (some d)=true∧XG b want (Yg V n E f ops r rs k dst ⟨(d,.bool want)::σ.t,σ.b⟩ (XV V op ⟨(d,.bool want)::σ.t,σ.b⟩)) (bw V n E f (.eO ops r (rs++[⟨false,false,[],[]⟩])::k) ⟨put dst (.v undef) ((d,.bool (!want))::σ.t),σ.b⟩)
 | f,ops,dst,_,_,r,rs,k,σ,none,true=>bw V n E f (.eO ops r (rs++[⟨false,false,[],[]⟩])::k) ⟨put dst (.v undef) σ.t,σ.b⟩
 | _,_,_,_,_,_,_,_,_,none,false=>False
def XN (V:Cx)(n:Nat)(E:Fin):Nat→Code→Code→List Item→St→Option SV→Prop
 | f,x,y,k,σ,some (.bool b)=>XQ b (bw V n E f (.code x::k) σ) (bw V n E f (.code y::k) σ)
 | _,_,_,_,_,_=>False
def uy (V:Cx)(n:Nat)(E:Fin):Nat→Code→List Item→St→Prop
 | f,x,k,σ=>∃ (I:St→Prop) (μ:St→Nat),I σ∧∀ σ',I σ'→bw V n E f (.code x::.kD I μ (μ σ')::k) σ'
def XO (V:Cx)(n:Nat)(E:Fin):Nat→St→Option (List Item)→Prop
 | f,σ,some k=>bw V n E f k σ
 | _,_,none=>False
def Yc (V:Cx)(n:Nat)(E:Fin):Nat→Array Oper→List Oper→List Item→fA→Prop
 | f,ops,r,k,.go c σ=>c∧bw V n E f (.ops ops r::k) σ
 | f,ops,r,k,.call g args dst σ=>lu V n E f ops r k g args dst σ
 | _,_,_,_,.bad=>False
def lu (V:Cx)(n:Nat)(E:Fin):Nat→Array Oper→List Oper→List Item→FuncId→List SV→Option Tmp→St→Prop
 | f,ops,r,k,g,args,dst,σ=>(∃ x,PC V g args x∧bw V n E f (.ops ops r::k) ⟨put dst x σ.t,σ.b⟩)∨(∃ R,SC V g args σ.b R∧(E.uni=true→∃ x b,R x b∧SC V g args σ.b (fun r b'=>r=x∧b'=b))∧∀ x bs,R x bs→bw V n E f (.ops ops r::k) ⟨put dst x σ.t,bs⟩)
def XA (V:Cx)(n:Nat)(E:Fin):Nat→Array Oper→Option Tmp→Op→Bool→List Oper→List Item→St→Option (Nat × Bool)→Bool→Prop
 | f,ops,dst,op,want,r,k,σ,some (d,b),_=>fits n (some d)=true∧XG b want (Yc V n E f ops r k (XR V dst op ⟨(d,.bool want)::σ.t,σ.b⟩)) (bw V n E f (.ops ops r::k) ⟨put dst (.v undef) ((d,.bool (!want))::σ.t),σ.b⟩)
 | f,ops,dst,_,_,r,k,σ,none,true=>bw V n E f (.ops ops r::k) ⟨put dst (.v undef) σ.t,σ.b⟩
 | _,_,_,_,_,_,_,_,none,false=>False
end
open Go Go.RowKit Wf
def cM {S:Type}(u:Nat→S→S)(D:Nat→Bool):Nat→S→S
 | 0,s=>s
 | n+1,s=>if D n then u n (cM u D n s) else cM u D n s
theorem nC {S X:Type}(u:Nat→S→S)(obs:S→X)(hu:∀ k s s',obs s=obs s'→obs (u k s)=obs (u k s'))(D D':Nat→Bool):∀ (n:Nat)(s:S),
 (∀ k,k<n→D k=D' k∨∀ s,obs (u k s)=obs s)→obs (cM u D n s)=obs (cM u D' n s)
 | 0,_,_=>rfl
 | n+1,s,h=>by
   have ih:=nC u obs hu D D' n s (fun k hk=>h k (by omega))
   simp only[cM]
   rcases h n (by omega) with e|e
   ·rw[e]
    split
    ·exact hu _ _ _ ih
    ·exact ih
   ·split <;> split <;> simp only[e,ih]
theorem fold_congr {S:Type}(u:Nat→S→S)(D D':Nat→Bool):∀ (n:Nat)(s:S),(∀ k,k<n→D k=D' k)→cM u D n s=cM u D' n s
 | 0,_,_=>rfl
 | n+1,s,h=>by simp only[cM];rw[h n (by omega),fold_congr u D D' n s (fun k hk=>h k (by omega))]
def rh (i:Nat):Nat→Bool:=fun k=>decide (k<i)
def eN (D:Nat→Bool)(i:Nat):Nat→Bool:=fun k=>D k||decide (k=i)
theorem IG {S : Type} (u : Nat → S → S) : ∀ (n i : Nat) (s : S), i ≤ n → cM u (rh i) n s = cM u (rh i) i s := by
  intro n
  induction n with
  | zero => intro i s h; have : i = 0 := by omega
            subst this; rfl
  | succ n ih =>
    intro i s h
    by_cases e : i = n + 1
    · subst e; rfl
    · simp only [cM]
      rw [if_neg (by simp [rh]; omega)]
      exact ih i s (by omega)
theorem II {S:Type}(u:Nat→S→S)(D:Nat→Bool):∀ (n:Nat)(s:S),(∀ k,k<n→D k=true)→cM u D n s=cM u (rh n) n s:=by
 intro n s h
 exact fold_congr u D (rh n) n s (fun k hk=>by rw[h k hk];simp[rh,hk])
theorem wG {S:Type}(u:Nat→S→S)(i:Nat)(s:S):cM u (rh (i+1)) (i+1) s=u i (cM u (rh i) i s):=by
 simp only[cM]
 rw[if_pos (by simp[rh])]
 congr 1
 exact fold_congr u _ _ i s (fun k hk=>by simp[rh];omega)
theorem IF {S X:Type}(u:Nat→S→S)(obs:S→X)(hu:∀ k s s',obs s=obs s'→obs (u k s)=obs (u k s'))(D:Nat→Bool)(n i:Nat)(s:S)(hi:i≤n)
 (h:∀ k,k<n→(∃ s,obs (u k s)≠obs s)→D k=decide (k<i)):obs (cM u D n s)=obs (cM u (rh i) i s):=by
 rw[← IG u n i s hi]
 refine nC u obs hu D (rh i) n s (fun k hk=>?_)
 by_cases e:∃ s,obs (u k s)≠obs s
 ·exact .inl (h k hk e)
 ·exact .inr (fun s=>Classical.byContradiction fun bp=>e ⟨s,bp⟩)
theorem IH {S X : Type} (u : Nat → S → S) (obs : S → X) (hu : ∀ k s s', obs s = obs s' → obs (u k s) = obs (u k s')) (D : Nat → Bool) (n i : Nat) (s : S) (hi : i < n) (hD : D i = false)
    (h : (∃ s, obs (u i s) ≠ obs s) → ∀ k, k < n → (∃ s, obs (u k s) ≠ obs s) → D k = true → k < i)
    : obs (cM u (eN D i) n s) = obs (u i (cM u D n s)) := by
  by_cases e : ∃ s, obs (u i s) ≠ obs s
  · -- nothing behind i shows
    have h1 : obs (cM u (eN D i) n s) = obs (cM u (fun k => eN D i k && decide (k ≤ i)) n s) :=
      nC u obs hu _ _ n s (fun k hk => by
        by_cases ek : ∃ s, obs (u k s) ≠ obs s
        · left
          by_cases iO : k ≤ i
          · simp [iO]
          · have : D k = false := by
              cases Ey : D k
              · rfl
              · have := h e k hk ek Ey; omega
            simp [eN, this]; omega
        · exact .inr (fun s => Classical.byContradiction fun bp => ek ⟨s, bp⟩))
    have h2 : ∀ m, i < m → cM u (fun k => eN D i k && decide (k ≤ i)) m s = u i (cM u D i s) := by
      intro m
      induction m with
      | zero => intro hm; omega
      | succ m ih =>
        intro hm
        simp only [cM]
        by_cases hmi : m = i
        · subst hmi
          rw [if_pos (by simp [eN])]
          congr 1
          exact fold_congr u _ _ m s (fun k hk => by simp [eN, show k ≠ m by omega, show k ≤ m by omega])
        · rw [if_neg (by simp; omega)]
          exact ih (by omega)
    rw [h1, h2 n hi]
    refine hu _ _ _ ?_
    have h3 : obs (cM u D n s) = obs (cM u (fun k => D k && decide (k < i)) n s) :=
      nC u obs hu _ _ n s (fun k hk => by
        by_cases ek : ∃ s, obs (u k s) ≠ obs s
        · left
          cases Ey : D k
          · simp
          · have := h e k hk ek Ey; simp [this]
        · exact .inr (fun s => Classical.byContradiction fun bp => ek ⟨s, bp⟩))
    have h4 : ∀ m, i ≤ m → cM u (fun k => D k && decide (k < i)) m s = cM u D i s := by
      intro m
      induction m with
      | zero => intro hm; have : i = 0 := by omega
                subst this; rfl
      | succ m ih =>
        intro hm
        by_cases hmi : i = m + 1
        · subst hmi
          exact fold_congr u _ _ (m + 1) s (fun k hk => by simp; omega)
        · simp only [cM]
          rw [if_neg (by simp; omega)]
          exact ih (by omega)
    rw [h3, h4 n (by omega)]
  · have e' : ∀ s, obs (u i s) = obs s := fun s => Classical.byContradiction fun bp => e ⟨s, bp⟩
    rw [e']
    refine nC u obs hu _ _ n s (fun k hk => ?_)
    by_cases iO : k = i
    · subst iO; exact .inr e'
    · left; simp [eN, iO]
theorem E1 {P:Program}{ops:Array Oper}{Q:Exit→Act→World→Prop}{md:Region.Mode}(Inv:(Nat→Bool)→Act→World→Prop)
 (hstep:∀ (listed:Array Bool) a w i,listed.size=ops.size→Inv (fun k=>listed.getD k false) a w→i∈Region.ready md ops listed→wpOp P ops Q i (fun a' w'=>Inv (eN (fun k=>listed.getD k false) i) a' w') a w)
 (BH:∀ (listed:Array Bool) a w,listed.size=ops.size→Inv (fun k=>listed.getD k false) a w→Region.ready md ops listed=[]→Q .normal a w) :
 ∀ (fuel:Nat) (listed:Array Bool) a w,listed.size=ops.size→(listed.toList.filter (fun b=>!b)).length≤fuel→Inv (fun k=>listed.getD k false) a w→wpAny P md ops Q fuel listed a w:=by
 have key:∀ (listed:Array Bool) (i:Nat),i∈Region.ready md ops listed→i<listed.size∧listed.getD i false=false:=by
  intro listed i hi
  have:=(mem_ready.1 hi).1
  have aC:i<listed.size:=by
   rcases zKb i listed.size with h|h
   ·exact h
   ·simp[h]at this
  exact⟨aC,by simp[aC]at this ⊢;exact this⟩
 intro fuel
 induction fuel with
 | zero =>
   intro listed a w hs hc hI
   have hr:Region.ready md ops listed=[]:=by
    rcases h:Region.ready md ops listed with _|⟨i,r⟩
    ·rfl
    ·have hi:i∈Region.ready md ops listed:=by rw[h];simp
     obtain⟨aC,hf⟩:=key listed i hi
     have:false∈listed.toList.filter (fun b=>!b):=by
      simp only[List.mem_filter]
      refine⟨?_,rfl⟩
      have:listed[i]=false:=by simpa[aC] using hf
      rw[← this]
      exact zJ3.2 (Array.getElem_mem aC)
     have:=List.length_pos_of_mem this
     omega
   exact⟨hr,BH listed a w hs hI hr⟩
 | succ fuel ih =>
   intro listed a w hs hc hI
   refine⟨fun hr=>BH listed a w hs hI hr,fun i hi=>?_⟩
   obtain⟨aC,hf⟩:=key listed i hi
   refine wpOp_mono (fun a' w' hI'=>ih (listed.setIfInBounds i true) a' w' (by simp[hs]) ?_ ?_) (hstep listed a w i hs hI hi)
   ·have hl:listed[i]=false:=by simpa[aC] using hf
    have e:listed.toList=listed.toList.take i++false::listed.toList.drop (i+1):=by
     have h1:=(List.take_append_drop i listed.toList).symm
     rw[List.drop_eq_getElem_cons (by simpa using aC)]at h1
     simpa[hl] using h1
    have hlen:(listed.toList.take i).length=i:=by simp;omega
    have e2:(listed.setIfInBounds i true).toList=listed.toList.take i++true::listed.toList.drop (i+1):=by
     rw[Array.toList_setIfInBounds]
     conv=>lhs;rw[e]
     rw[List.set_append_right _ _ (by omega)]
     simp[hlen]
    rw[e2]
    rw[e]at hc
    simp at hc ⊢
    omega
   ·have e:(fun k=>(listed.setIfInBounds i true).getD k false)=eN (fun k=>listed.getD k false) i:=by
     funext k
     by_cases h:k=i
     ·subst h;simp[eN,aC]
     ·simp only[eN]
      rw[zKo,Array.getElem?_setIfInBounds_ne (fun q=>h q.symm),← zKo]
      simp[h]
    rw[e]
    exact hI'
open Go Go.RowKit Wf
section
variable {V:Cx} {F:Fx V} {β:Nat→Bt} {fp:Nat→Nat→Prop}
theorem Ax {Γ:TypeId→Option TI}{t t':List (Nat × SV)}{op:Op}(h:∀ x∈op.operands,ev t x=ev t' x):pv Γ t op=pv Γ t' op:=by
 have opt:∀ o:Option Operand,(∀ x,o=some x→ev t x=ev t' x)→oO t o=oO t' o:=fun o ho=>by
  cases o with
  | none=>rfl
  | some x=>simp[oO,ho x rfl]
 have lst:∀ l:List Operand,(∀ x∈l,ev t x=ev t' x)→l.mapM (ev t)=l.mapM (ev t'):=fun l=>by
  induction l with
  | nil=>intro _;rfl
  | cons x r ih=>intro hl;simp only[List.mapM_cons];rw[hl x (by simp),ih (fun y hy=>hl y (by simp[hy]))]
 cases op <;> simp only[pv]
 case move x=>simp only[XX];rw[h x (by simp[Op.operands])]
 case assign x=>simp only[XX];rw[h x (by simp[Op.operands])]
 case pick c a b=>simp only[Ya];rw[h c (by simp[Op.operands]),h a (by simp[Op.operands]),h b (by simp[Op.operands])]
 case fieldAddr S x f=>simp only[Xb];rw[h x (by simp[Op.operands])]
 case field S x f=>simp only[Xu];rw[h x (by simp[Op.operands])]
 case binOp op T x y yt=>simp only[oBin];rw[h x (by simp[Op.operands]),h y (by simp[Op.operands])]
 case unOp op T x=>simp only[oUn];rw[h x (by simp[Op.operands])]
 case convert S D x=>simp only[Ye];rw[h x (by simp[Op.operands])]
 case slice T x lo hi mx =>
  cases mx with
  | some _=>rfl
  | none =>
    simp only[Xw]
    rw[h x (by simp[Op.operands]),opt lo (fun y hy=>h y (by simp[Op.operands,hy])),opt hi (fun y hy=>h y (by simp[Op.operands,hy]))]
 case index T x i=>simp only[Xx];rw[h x (by simp[Op.operands]),h i (by simp[Op.operands])]
 case build T ps =>
  have hp:∀ l:List (Nat × Operand),(∀ x∈l,ev t x.2=ev t' x.2)→Xl t l=Xl t' l:=fun l=>by
   induction l with
   | nil=>intro _;rfl
   | cons x r ih=>intro hl;obtain⟨i,o⟩:=x;simp only[Xl];rw[hl (i,o) (by simp),ih (fun y hy=>hl y (by simp[hy]))]
  simp only[Xk]
  rw[hp ps.toList (fun x hx=>h x.2 (by simp only[Op.operands];rw[List.mem_toArray];exact zKs hx))]
 case indexAddr T x i=>simp only[XS];rw[h x (by simp[Op.operands]),h i (by simp[Op.operands])]
 case makeInterface T x=>simp only[yR];rw[h x (by simp[Op.operands])]
 case typeAssert x S A ok =>
  cases ok
  ·rfl
  ·simp only[tp];rw[h x (by simp[Op.operands])]
 case extract x i=>simp only[Xh];rw[h x (by simp[Op.operands])]
 case makeFunc f first caps =>
  simp only[Yh]
  unfold xQ
  rw[lst caps.toList (fun x hx=>h x (by simp only[Op.operands];exact zKq.2 (.inr (zJ3.1 hx)))),
   lst first.toList (fun x hx=>h x (by simp only[Op.operands];exact zKq.2 (.inl (zJ3.1 hx))))]
 case call c =>
  obtain⟨callee,args,ts⟩:=c
  cases callee <;> (try simp only)
  rename_i b
  cases b <;> (try simp only)
  simp only[Fw]
  split
  ·rename_i x hx
   rw[h x (by
    simp only[Op.operands,Call.operands]
    refine zKq.2 (.inr (zJ3.1 ?_))
    rw[hx];simp)]
  ·rfl
theorem CI (c:List SV)(r:aw):shape (tO c r)=shape r:=by cases r <;> rfl
theorem DF {bs:List aw}{i:Nat}{c:List SV}{T:TypeId}{m:Bool}(h:iH bs i=some (c,T,m)):∃ r,bs[i]? = some r∧nJ r=c∧∀ c' r',shape r'=shape r→nJ r'=c'→(∀ bs':List aw,bs'[i]? = some r'→iH bs' i=some (c',T,m)):=by
 obtain⟨r,hr,-,hc⟩:=lj h
 refine⟨r,hr,by rcases hc with rfl|⟨s,n,rfl⟩ <;> rfl,fun c' r' hs hcr bs' hb=>?_⟩
 unfold iH
 rw[hb]
 rcases hc with rfl|⟨s,n,rfl⟩ <;> cases r' <;> simp[shape]at hs <;> simp[nJ]at hcr <;> simp[hs,hcr]
theorem Fu {a b:Nat × Nat × Nat}(h:ovl a b=false){q:Option Nat}(hq:inR a q):¬ GA b a.1 q:=by
 rintro⟨h1,h2⟩
 have:ovl a b=true:=by
  unfold ovl
  simp only[zJL,beq_iff_eq,zJO,decide_eq_true_eq]
  refine⟨h1.symm,?_⟩
  rcases h2 with h2|⟨p,rfl,h3,h4⟩
  ·exact .inl h2
  ·rcases hq with hq|⟨p',hp,h5,h6⟩
   ·cases hq
   ·cases hp
    exact .inr ⟨by omega,by omega⟩
 rw[h]at this
 cases this
theorem GK {j off n:Nat}{bi bs:List aw}(h:seen (j,off,n) bi bs){c:List SV}{T:TypeId}{m:Bool}(hg:iH bi j=some (c,T,m)) :
 ∃ c',iH bs j=some (c',T,m)∧c'.length=c.length∧∀ p,off≤p→p<off+n→c'[p]? = c[p]? := by
 obtain⟨r,hr,rfl,aP⟩:=DF hg
 have key:∀ q,inR (j,off,n) q→∃ r',bs[j]? = some r'∧ob q r'=ob q r:=fun q hq=>by
  have:=h q hq
  simp only[hr]at this
  cases hbs:bs[j]? with
  | none=>rw[hbs]at this;simp at this
  | some r' =>
    rw[hbs]at this
    simp only[zJ5,zJY.injEq]at this
    exact⟨r',rfl,this⟩
 obtain⟨r',hr',ho⟩:=key none (.inl rfl)
 simp only[ob,Prod.mk.injEq,and_true]at ho
 refine⟨nJ r',aP _ r' ho.1 rfl bs hr',ho.2,fun p h1 h2=>?_⟩
 obtain⟨r2,hr2,lz⟩:=key (some p) (.inr ⟨p,rfl,h1,h2⟩)
 rw[hr']at hr2
 cases hr2
 simp only[ob,Prod.mk.injEq]at lz
 exact lz.2.2
theorem Ag {j off k:Nat}{bi bs:List aw}(h:seen (j,off,k) bi bs){c:List SV}{e s n:Nat}{m:Bool}(hg:bi[j]? = some (.own c e s n m)):∃ c',bs[j]? = some (.own c' e s n m):=by
 have:=h none (.inl rfl)
 simp only[hg]at this
 cases hbs:bs[j]? with
 | none=>rw[hbs]at this;simp at this
 | some r' =>
   rw[hbs]at this
   simp only[zJ5,zJY.injEq,ob,Prod.mk.injEq,and_true]at this
   cases r' <;> simp[shape]at this
   rename_i c' _ _ _ _
   obtain⟨⟨rfl,rfl,rfl,rfl⟩,-⟩:=this
   exact⟨c',rfl⟩
theorem AB {agg:Bool}{off n:Nat}{c c':List SV}(hn:0<n)(h:∀ p,off≤p→p<off+n→c'[p]? = c[p]?):XM agg off n c'=XM agg off n c:=by
 unfold XM
 cases agg
 ·simp[h off (zJW _) (by omega)]
 ·simp only[if_true]
  congr 2
  apply List.ext_getElem?
  intro q
  simp only[List.getElem?_take,List.getElem?_drop]
  split
  ·exact h (off+q) (by omega) (by omega)
  ·rfl
theorem mapM_congr {t t':List (Nat × SV)}:∀ (l:List Operand),(∀ x∈l,ev t x=ev t' x)→xQ t l=xQ t' l
 | [],_=>rfl
 | x::r,h=>by
   have:=mapM_congr r (fun y hy=>h y (by simp[hy]))
   unfold xQ at this ⊢
   simp only[List.mapM_cons]
   rw[h x (by simp),this]
theorem iC {t t':List (Nat × SV)}:∀ (l:List (Nat × Operand)),(∀ x∈l.map (·.2),ev t x=ev t' x)→Xl t l=Xl t' l
 | [],_=>rfl
 | (i,x)::r,h=>by
  simp only[Xl]
  rw[h x (by simp),iC r (fun y hy=>h y (by simp only[List.map_cons,List.mem_cons];exact .inr hy))]
def hdS:List (Nat × SV)→SV
 | (_,x)::_=>x
 | []=>.v undef
theorem E5 {dst:Option Tmp}{op:Op}{t:List (Nat × SV)}{b:List aw}{c:Prop}{σ':St}(hs:Yl V dst op ⟨t,b⟩=some (c,σ')):∃ x,σ'.t=put dst x t:=by
 cases op <;> simp only[Yl,reduceCtorEq]at hs
 case call cl =>
  obtain⟨callee,args,ts⟩:=cl
  cases callee <;> (try simp only[reduceCtorEq]at hs)
  rename_i bi
  cases bi <;> (try simp only[reduceCtorEq]at hs)
  case append =>
   unfold Xm at hs
   (repeat' split at hs) <;> try (cases hs;done)
   cases hs
   exact⟨_,rfl⟩
  all_goals
   unfold Xq at hs
   (repeat' split at hs) <;> try (cases hs;done)
   obtain⟨z,hz,e⟩:=zKf.1 hs
   cases e
   exact⟨z,rfl⟩
 case slice T x lo hi mx =>
  cases mx with
  | some mx =>
    cases lo <;> cases hi <;> simp only[reduceCtorEq]at hs
    unfold Dg at hs
    (repeat' split at hs) <;> try (cases hs;done)
    cases hs
    exact⟨_,rfl⟩
  | none =>
  simp only at hs
  unfold Xj at hs
  (repeat' split at hs) <;> try (cases hs;done)
  cases hs
  exact⟨_,rfl⟩
 case convert S D x =>
  unfold Yb at hs
  (repeat' split at hs) <;> try (cases hs;done)
  all_goals
   cases hs
   exact⟨_,rfl⟩
 all_goals
  first|unfold Yn at hs|unfold Xa at hs|unfold Xc at hs
  (repeat' split at hs) <;> try (cases hs;done)
  cases hs
  exact⟨_,rfl⟩
theorem E6 {op:Op}{t t':List (Nat × SV)}{b:List aw}(h:∀ x∈op.operands,ev t' x=ev t x)(dst:Option Tmp) :
 Yl V dst op ⟨t',b⟩=(Yl V (some 0) op ⟨t,b⟩).map fun p=>(p.1,⟨put dst (hdS p.2.t) t',p.2.b⟩):=by
 have opt:∀ o:Option Operand,(∀ x,o=some x→ev t' x=ev t x)→oO t' o=oO t o:=fun o ho=>by
  cases o with
  | none=>rfl
  | some x=>simp[oO,ho x rfl]
 cases op <;> simp only[Yl,zKt]
 case call cl =>
  obtain⟨callee,args,ts⟩:=cl
  have sZ:∀ x∈args.toList,ev t' x=ev t x:=fun x hx=>h x (by
   simp only[Op.operands,Call.operands]
   exact zKq.2 (.inr (zJ3.1 hx)))
  cases callee <;> (try simp only[zKt])
  rename_i bi
  cases bi <;> (try simp only[zKt])
  case append =>
   unfold Xm
   generalize args.toList=L at sZ
   generalize ts.toList=TS
   match L,sZ with
   | [s,x],sZ =>
     simp only[sZ s (by simp),sZ x (by simp)]
     (repeat' split) <;> rfl
   | [],_=>rfl
   | [_],_=>rfl
   | _::_::_::_,_=>rfl
  all_goals
   unfold Xq
   generalize args.toList=L at sZ
   match L,sZ with
   | [s,x],sZ =>
     simp only[sZ s (by simp),sZ x (by simp)]
     split
     ·split
      ·rw[Option.map_map];rfl
      ·rfl
     ·rfl
   | [],_=>rfl
   | [_],_=>rfl
   | _::_::_::_,_=>rfl
 case makeSlice T l cc =>
  unfold Yn
  simp only[h l (by simp[Op.operands]),h cc (by simp[Op.operands])]
  (repeat' split) <;> rfl
 case buildSlice T n ps =>
  unfold Xa
  simp only[iC (t:=t') (t':=t) ps.toList (fun x hx=>h x (by simp only[Op.operands];rw[List.mem_toArray];exact hx))]
  (repeat' split) <;> rfl
 case indexAddr T x i =>
  unfold Xc
  simp only[h x (by simp[Op.operands]),h i (by simp[Op.operands])]
  (repeat' split) <;> rfl
 case slice T x lo hi mx =>
  cases mx with
  | some mx =>
    cases lo <;> cases hi <;> simp only[zKt]
    rename_i hi
    unfold Dg
    simp only[h x (by simp[Op.operands]),h hi (by simp[Op.operands]),h mx (by simp[Op.operands])]
    (repeat' split) <;> rfl
  | none =>
  simp only
  unfold Xj
  simp only[h x (by simp[Op.operands]),opt lo (fun y hy=>h y (by simp[Op.operands,hy])),opt hi (fun y hy=>h y (by simp[Op.operands,hy]))]
  (repeat' split) <;> rfl
 case convert S D x =>
  unfold Yb
  simp only[h x (by simp[Op.operands])]
  (repeat' split) <;> rfl
theorem jx {op:Op}{t t':List (Nat × SV)}{b:List aw}(h:∀ x∈op.operands,ev t' x=ev t x){c:Prop}{σ':St}(hs:Yl V (some 0) op ⟨t,b⟩=some (c,σ')) :
 ∃ x,σ'.t=(0,x)::t∧∀ dst,Yl V dst op ⟨t',b⟩=some (c,⟨put dst x t',σ'.b⟩):=by
 obtain⟨x,hx⟩:=E5 hs
 refine⟨x,hx,fun dst=>?_⟩
 rw[E6 h dst,hs]
 simp only[zJ5,hx]
 rfl
theorem HL {l:List (Option SV)}{j n:Nat}(h:some (SV.o j n)∈l):(j,0,0)∈idxs l:=by
 induction l with
 | nil=>cases h
 | cons x r ih =>
   simp only[List.mem_cons]at h
   rcases h with h|h
   ·subst h;simp[idxs]
   ·have:=ih h
    cases x with
    | none=>simpa[idxs] using this
    | some v=>cases v <;> simp[idxs,this]
theorem FF {l:List (Option SV)}{x:Nat × Nat × Nat}(h:x∈idxs l):x.2.2=0:=by
 induction l with
 | nil=>cases h
 | cons y r ih =>
   cases y with
   | none=>exact ih (by simpa[idxs] using h)
   | some v =>
     cases v
     case o j n =>
      simp only[idxs,List.mem_cons]at h
      rcases h with rfl|h
      ·rfl
      ·exact ih h
     case f j n =>
      simp only[idxs,List.mem_cons]at h
      rcases h with rfl|h
      ·rfl
      ·exact ih h
     all_goals exact ih (by simpa[idxs] using h)
theorem Dd {op:Op}{t:List (Nat × SV)}{o:Operand}(ho:o∈zx op){j n:Nat}(he:ev t o=some (.o j n)):(j,0,0)∈idxs ((zx op).map (ev t)) :=
 HL (by rw[← he];exact zKs ho)
theorem IV {e s:Nat}{x:SV}{b bs:List aw}{n:Nat}{c:List SV}(h:tf b e s x=some (n,c,bs)){j:Nat}(hj:∀ i m,x=.o i m→i≠j):bs[j]? = b[j]? ∧ bs.length=b.length:=by
 cases x <;> simp only[tf,reduceCtorEq]at h
 case aI=>cases h;exact⟨rfl,rfl⟩
 case o i m =>
  split at h
  ·split at h
   ·cases h
    exact⟨zJT (hj i _ rfl),by simp⟩
   ·cases h
  ·cases h
 case f i m =>
  split at h
  ·split at h
   ·cases h
    exact⟨rfl,rfl⟩
   ·cases h
  ·cases h
theorem iK {b:List aw}{X:aw}{j:Nat}(hj:j≠b.length):(b++[X])[j]? = b[j]? := by
 rcases zKb j b.length with h|h
 ·rw[zJM h]
 ·rw[zJS h,List.getElem?_eq_none h,List.getElem?_eq_none (by simp;omega)]
theorem CD {op:Op}{t:List (Nat × SV)}{b:List aw}{c:Prop}{σ':St}(hs:Yl V (some 0) op ⟨t,b⟩=some (c,σ')){j:Nat}(hj:j≠b.length)(hi:∀ x∈idxs ((zx op).map (ev t)),x.1≠j):σ'.b[j]? = b[j]? := by
 have bp:∀ (o:Operand),o∈zx op→∀ i m,ev t o=some (.o i m)→i≠j:=fun o ho i m he=>hi _ (Dd ho he)
 cases op <;> simp only[Yl,reduceCtorEq]at hs
 case call cl =>
  obtain⟨callee,args,ts⟩:=cl
  have sZ:∀ x∈args.toList,x∈zx (Op.call ⟨callee,args,ts⟩):=fun x hx=>hx
  cases callee <;> (try simp only[reduceCtorEq]at hs)
  rename_i bi
  cases bi <;> (try simp only[reduceCtorEq]at hs)
  case append =>
   unfold Xm at hs
   split at hs
   ·rename_i s x hl
    (repeat' split at hs) <;> try (cases hs;done)
    cases hs
    rename_i hd _ _ _ _
    obtain⟨h1,h2⟩:=IV hd (j:=j) (fun i m e=>bp s (sZ s (by rw[hl];simp)) i m (by rw[← e];assumption))
    simp only
    rw[iK (by rw[h2];exact hj),h1]
   ·cases hs
  all_goals
   unfold Xq at hs
   (repeat' split at hs) <;> try (cases hs;done)
   obtain⟨z,hz,e⟩:=zKf.1 hs
   cases e
   rfl
 case makeSlice T l cc =>
  unfold Yn at hs
  (repeat' split at hs) <;> try (cases hs;done)
  cases hs
  exact iK hj
 case buildSlice T n ps =>
  unfold Xa at hs
  (repeat' split at hs) <;> try (cases hs;done)
  cases hs
  exact iK hj
 case indexAddr T x i =>
  unfold Xc at hs
  (repeat' split at hs) <;> try (cases hs;done)
  cases hs
  rfl
 case slice T x lo hi' mx =>
  cases mx with
  | some mx =>
    cases lo <;> cases hi' <;> simp only[reduceCtorEq]at hs
    unfold Dg at hs
    (repeat' split at hs) <;> try (cases hs;done)
    cases hs
    rfl
  | none =>
  simp only at hs
  unfold Xj at hs
  (repeat' split at hs) <;> try (cases hs;done)
  rename_i H3
  cases hs
  simp only
  unfold reS at H3
  split at H3
  ·rename_i i m he
   have xL:i≠j:=bp x (by simp[zx]) i m he
   split at H3
   ·split at H3
    ·(repeat' split at H3) <;> cases H3
     all_goals first
      | rw[iK (by simpa using hj),zJT xL]
      | exact iK hj
    ·cases H3
   ·cases H3
  ·cases H3
 case convert S D x =>
  unfold Yb at hs
  (repeat' split at hs) <;> try (cases hs;done)
  all_goals cases hs
  all_goals first|rfl|exact iK hj
theorem zU {op:Op}(hr:Xz V op=true){t:List (Nat × SV)}{b b':List aw}{c:Prop}{σ':St}(hs:Yl V (some 0) op ⟨t,b⟩=some (c,σ'))(hc:c)
 (kT:∀ x∈idxs ((zx op).map (ev t)),seen x b b'):∃ c',c'∧Yl V (some 0) op ⟨t,b'⟩=some (c',⟨σ'.t,b'⟩):=by
 cases op <;> simp only[Yl,reduceCtorEq]at hs
 case call cl =>
  obtain⟨callee,args,ts⟩:=cl
  cases callee <;> (try simp only[reduceCtorEq]at hs)
  rename_i bi
  cases bi <;> (try simp only[reduceCtorEq]at hs)
  case append=>simp[Xz]at hr
  all_goals
   simp only[Yl]
   unfold Xq at hs ⊢
   split at hs
   ·rename_i s x hl
    simp only
    split at hs
    ·rename_i u hu
     split at hs
     ·rename_i v hv
      obtain⟨z,hz,e⟩:=zKf.1 hs
      cases e
      exact⟨True,trivial,by simp[hl,hu,hv,hz]⟩
     ·cases hs
    ·cases hs
   ·cases hs
 case indexAddr T x i =>
  simp only[Yl]
  unfold Xc at hs ⊢
  split at hs
  ·rename_i e hk
   split at hs
   ·rename_i s kS
    split at hs
    ·rename_i u hu
     split at hs
     ·rename_i k kk hi
      split at hs
      ·rename_i c0 y ha
       cases hs
       simp only at hu hi
       simp only[hu,hi]
       unfold Ym at ha
       split at ha
       ·rename_i j n
        split at ha
        ·rename_i cc e1 s1 n1 m1 hj
         cases ha
         obtain⟨c'',hb'⟩:=Ag (kT (j,0,0) (Dd (o:=x) (by simp[zx]) hu)) hj
         simp only at hc
         refine⟨_,?_,by simp only[Ym,hb'];rfl⟩
         refine⟨hc.1,?_⟩
         have h2:=hc.2
         simp only[Xc.lH,hj]at h2
         simp only[Xc.lH,hb']
         exact h2
        ·cases ha
       ·cases ha
      ·cases hs
     ·cases hs
    ·cases hs
   ·cases hs
  ·cases hs
 case slice T x lo hi mx =>
  cases mx with
  | none=>cases lo <;> cases hi <;> simp[Xz]at hr
  | some mx =>
    cases lo with
    | some _=>cases hi <;> simp[Xz]at hr
    | none =>
      cases hi with
      | none=>simp[Xz]at hr
      | some hi =>
        simp only[Yl]
        simp only at hs
        unfold Dg at hs ⊢
        split at hs
        ·rename_i e hk
         split at hs
         ·rename_i s kS
          split at hs
          ·rename_i u hu
           split at hs
           ·rename_i k1 h1 hhi
            split at hs
            ·rename_i k2 h2 hmx
             split at hs
             ·rename_i c0 y ha
              cases hs
              simp only at hu hhi hmx
              simp only[hu,hhi,hmx]
              unfold B7 at ha
              split at ha
              ·rename_i j n
               split at ha
               ·rename_i cc e1 s1 n1 m1 hj
                cases ha
                obtain⟨c'',hb'⟩:=Ag (kT (j,0,0) (Dd (o:=x) (by simp[zx]) hu)) hj
                refine⟨_,hc,by simp only[B7,hb']⟩
               ·cases ha
              ·cases ha
               exact⟨_,hc,by simp only[B7]⟩
              ·cases ha
             ·cases hs
            ·cases hs
           ·cases hs
          ·cases hs
         ·cases hs
        ·cases hs
 all_goals simp[Xz]at hr
theorem GH {dst:Option Tmp}{op:Op}{t t':List (Nat × SV)}{b b':List aw}(h:∀ x∈op.operands,ev t' x=ev t x){c:Prop}{r:jK}(hs:XV V op ⟨t,b⟩=.val c r)(hc:c)(hb:r.nb.isSome=true→b'=b)(kT:r.nb=none→∀ x∈r.rd,seen x b b') :
 gV V (fun σ=>σ=⟨put dst r.x t',r.nb.getD b'⟩) (XR V dst op ⟨t',b'⟩):=by
 unfold XV at hs
 unfold XR
 rw[Ax (t:=t') (t':=t) h]
 simp only at hs
 cases hp:pv V.Γ t op with
 | some p =>
   rw[hp]at hs
   obtain⟨c',x⟩:=p
   simp only[FW,oE]at hs
   cases hs
   exact⟨hc,rfl⟩
 | none =>
   rw[hp]at hs
   simp only[FW,goR]at hs ⊢
   cases hn:Yl V (some 0) op ⟨t,b⟩ with
   | some p =>
     obtain⟨c',σ'⟩:=p
     rw[hn]at hs
     obtain⟨x,hx,-⟩:=jx (t':=t) (fun _ _=>rfl) hn
     simp only[dN,hx]at hs
     split at hs
     ·rename_i hrd
      cases hs
      obtain⟨c2,uU,e2⟩:=zU hrd hn hc (kT rfl)
      obtain⟨x2,hx2,e3⟩:=jx h e2
      simp only[hx,zJR.injEq,Prod.mk.injEq,true_and,and_true]at hx2
      rw[e3 dst]
      simp only[Gg]
      exact⟨uU,by rw[← hx2];rfl⟩
     ·cases hs
      obtain rfl:=hb rfl
      obtain⟨x2,hx2,e3⟩:=jx h hn
      simp only[hx,zJR.injEq,Prod.mk.injEq,true_and,and_true]at hx2
      rw[e3 dst]
      simp only[Gg]
      exact⟨hc,by rw[← hx2];rfl⟩
   | none =>
     rw[hn]at hs
     simp only[dN]at hs
     cases op <;> simp only[Xv,reduceCtorEq]at hs
     case alloc T =>
      unfold XD at hs
      simp only[Yl,Gg,Yd,XC]
      split at hs
      ·rename_i ti iS
       cases hs
       obtain rfl:=hb rfl
       exact⟨trivial,rfl⟩
      ·cases hs
     case box T x =>
      unfold I1 at hs
      simp only[Yl,Gg,Yd,sBox]
      split at hs
      ·rename_i u hu
       cases hs
       obtain rfl:=hb rfl
       simp only at hu
       rw[h x (by simp[Op.operands]),hu]
       exact⟨hc,rfl⟩
      ·cases hs
     case load T x =>
      unfold XI at hs
      simp only[Yl,Gg,Yd,XU]
      rw[h x (by simp[Op.operands])]
      (repeat' split at hs) <;> try (cases hs;done)
      rename_i i off he _ c0 T0 m0 hg _ ti iS _ y hy
      cases hs
      simp only at he hg
      obtain⟨c1,hg1,ny,hp1⟩:=GK (kT rfl (i,off,ti.size) (by simp)) hg
      rw[he]
      simp only[hg1,iS,AB hc.2 hp1,hy]
      exact⟨by rw[ny];exact hc.1,rfl⟩
     case store T x y =>
      unfold XF at hs
      simp only[Yl,Gg,Yd,XH]
      rw[h x (by simp[Op.operands]),h y (by simp[Op.operands])]
      (repeat' split at hs) <;> try (cases hs;done)
      rename_i i off he _ u hu _ c0 T0 m0 hg _ s kS
      cases hs
      obtain rfl:=hb rfl
      simp only at he hg hu
      rw[he,hu]
      simp only[hg,kS]
      exact⟨⟨hc.1,hc.2.1,hc.2.2.1,hc.2.2.2.1⟩,rfl⟩
     case build T ps =>
      unfold XB at hs
      simp only[Yl,Gg,Yd,Xr]
      rw[iC (t:=t') (t':=t) ps.toList (fun x hx=>h x (by simp only[Op.operands];rw[List.mem_toArray];exact hx))]
      (repeat' split at hs) <;> try (cases hs;done)
      rename_i ti iS _ fs hk _ l hl _ cc hcc
      simp only[oE]at hs
      cases hs
      simp only at hl
      simp only[iS,hk,hl,hcc]
      exact⟨trivial,rfl⟩
     case nilCheck x =>
      unfold I0 at hs
      simp only[Yl,Gg,Yd,sNil]
      rw[h x (by simp[Op.operands])]
      split at hs
      ·rename_i i off he
       simp only[oE]at hs
       cases hs
       simp only at he
       rw[he]
       exact⟨trivial,rfl⟩
      ·rename_i f l he
       simp only[oE]at hs
       cases hs
       simp only at he
       rw[he]
       exact⟨hc,rfl⟩
      ·cases hs
     case call cl =>
      obtain⟨callee,args,ts⟩:=cl
      cases callee <;> simp only[reduceCtorEq]at hs
      unfold XK at hs
      (repeat' split at hs) <;> cases hs
theorem CE {dst:Option Tmp}{op:Op}{t t':List (Nat × SV)}{b b':List aw}(h:∀ x∈op.operands,ev t' x=ev t x){g:FuncId}{args:List SV}(hs:XV V op ⟨t,b⟩=.call g args):XR V dst op ⟨t',b'⟩=.call g args dst ⟨t',b'⟩:=by
 unfold XV at hs
 unfold XR
 rw[Ax (t:=t') (t':=t) h]
 simp only at hs
 cases hp:pv V.Γ t op with
 | some p=>rw[hp]at hs;obtain⟨c',x⟩:=p;simp[FW,oE]at hs
 | none =>
   rw[hp]at hs
   simp only[FW,goR]at hs ⊢
   cases hn:Yl V (some 0) op ⟨t,b⟩ with
   | some p =>
     obtain⟨c',σ'⟩:=p
     rw[hn]at hs
     obtain⟨x,hx,-⟩:=jx (t':=t) (fun _ _=>rfl) hn
     simp only[dN,hx]at hs
     split at hs <;> cases hs
   | none =>
     rw[hn]at hs
     simp only[dN]at hs
     cases op <;> simp only[Xv,reduceCtorEq]at hs
     case alloc T=>unfold XD at hs;(repeat' split at hs) <;> cases hs
     case box T x=>unfold I1 at hs;(repeat' split at hs) <;> cases hs
     case load T x=>unfold XI at hs;(repeat' split at hs) <;> cases hs
     case store T x y=>unfold XF at hs;(repeat' split at hs) <;> cases hs
     case build T ps=>unfold XB at hs;(repeat' split at hs) <;> (try simp only[oE]at hs) <;> cases hs
     case nilCheck x=>unfold I0 at hs;(repeat' split at hs) <;> (try simp only[oE]at hs) <;> cases hs
     case call cl =>
      obtain⟨callee,args,ts⟩:=cl
      cases callee <;> simp only[reduceCtorEq]at hs
      rename_i f
      unfold XK at hs
      simp only[Yl,Gg,Yd,XL]
      rw[h f (by simp[Op.operands,Call.operands])]
      have he:xQ t' args.toList=xQ t args.toList:=mapM_congr args.toList (fun x hx=>h x (by
       simp only[Op.operands,Call.operands]
       exact zKq.2 (.inr (zJ3.1 hx))))
      rw[he]
      split at hs
      ·rename_i ff caps hf
       split at hs
       ·rename_i l hl
        simp only at hf hl
        rw[hf]
        simp only[hl]
        cases hs
        rfl
       ·cases hs
      ·cases hs
def UnE (r:jK)(bi:List aw):Prop:=∀ nb,r.nb=some nb→r.all=false→∀ j q,(∀ x∈r.wr,¬ GA x j q)→(nb[j]?).map (ob q)=(bi[j]?).map (ob q)
theorem zW {op:Op}{t:List (Nat × SV)}{b:List aw}{c:Prop}{r:jK}(hs:XV V op ⟨t,b⟩=.val c r)(hc:c):UnE r b:=by
 intro nb xI aP j q Ep
 unfold XV at hs
 simp only at hs
 cases hp:pv V.Γ t op with
 | some p=>rw[hp]at hs;obtain⟨c',x⟩:=p;simp only[FW,oE]at hs;cases hs;cases xI
 | none =>
   rw[hp]at hs
   simp only[FW]at hs
   cases hn:Yl V (some 0) op ⟨t,b⟩ with
   | some p =>
     obtain⟨c',σ'⟩:=p
     rw[hn]at hs
     obtain⟨x,hx,-⟩:=jx (t':=t) (fun _ _=>rfl) hn
     simp only[dN,hx]at hs
     split at hs
     ·cases hs;cases xI
     ·cases hs
      cases xI
      rw[CD hn (j:=j) (fun e=>Ep (b.length,0,0) (by simp) ⟨e.symm,.inl rfl⟩) (fun x hx e=>Ep x (by simp[hx]) ⟨e,.inl ?_⟩)]
      exact FF hx
   | none =>
     rw[hn]at hs
     simp only[dN]at hs
     cases op <;> simp only[Xv,reduceCtorEq]at hs
     case alloc T =>
      unfold XD at hs
      (repeat' split at hs) <;> try (cases hs;done)
      cases hs;cases xI
      rw[iK (fun e=>Ep (b.length,0,0) (by simp) ⟨e.symm,.inl rfl⟩)]
     case box T x =>
      unfold I1 at hs
      (repeat' split at hs) <;> try (cases hs;done)
      cases hs;cases xI
      rw[iK (fun e=>Ep (b.length,0,0) (by simp) ⟨e.symm,.inl rfl⟩)]
     case load T x =>
      unfold XI at hs
      (repeat' split at hs) <;> try (cases hs;done)
      cases hs;cases xI
     case store T x y =>
      unfold XF at hs
      (repeat' split at hs) <;> try (cases hs;done)
      rename_i i off he _ u hu _ c0 T0 m0 hg _ s kS
      cases hs;cases xI
      obtain⟨-,-,h3,h4,h5⟩:=hc
      simp only at hg Ep
      obtain⟨r0,H4,-,fG⟩:=lj hg
      rw[yf H4]
      by_cases lR:i=j
      ·subst lR
       have eF:i<b.length:=(zJK.1 H4).1
       rw[zJZ eF,H4]
       have gu:nJ r0=c0:=by rcases fG with rfl|⟨s',n',rfl⟩ <;> rfl
       have hcell2:nJ (tO (Xs c0 off (cells u)) r0)=Xs c0 off (cells u):=by rcases fG with rfl|⟨s',n',rfl⟩ <;> rfl
       have hlen:(Xs c0 off (cells u)).length=c0.length:=by simp[Xs];omega
       simp only[zJ5,ob,CI,gu,hcell2,hlen]
       congr 3
       cases q with
       | none=>rfl
       | some p =>
         have hpr:¬ (off≤p∧p<off+s):=fun hh=>Ep (i,off,s) (by simp) ⟨rfl,.inr ⟨p,rfl,hh.1,hh.2⟩⟩
         simp only[Xs]
         rcases zKb p off with aC|rC
         ·rw[zJ4,zJM (by simp;omega),List.getElem?_take,if_pos aC]
         ·have hge2:off+s≤p:=by omega
          rw[zJS (by simp;omega),List.getElem?_drop]
          congr 1
          simp
          omega
      ·rw[zJT lR]
     case build T ps =>
      unfold XB at hs
      (repeat' split at hs) <;> (try simp only[oE]at hs) <;> cases hs
      cases xI
     case nilCheck x =>
      unfold I0 at hs
      (repeat' split at hs) <;> (try simp only[oE]at hs) <;> cases hs
      all_goals cases xI
     case call cl =>
      obtain⟨callee,args,ts⟩:=cl
      cases callee <;> simp only[reduceCtorEq]at hs
      unfold XK at hs
      (repeat' split at hs) <;> cases hs
end
open Go Go.RowKit Wf
section
variable {V:Cx} {F:Fx V}
def bT:jK:=⟨.v undef,none,false,[],[]⟩
def vC (F:Fx V)(ops:Array Oper)(i:Nat)(ti:List (Nat × SV))(bi:List aw)(r:jK):Prop :=
 ∀ (Q:Exit→Act→World→Prop) (K:Act→World→Prop) (a:Act) (w:World) (t':List (Nat × SV)) (b':List aw) (o:Oper),ops[i]? = some o →
  (∀ d∈o.looksAt ops,lk d t'=lk d ti)→(r.nb.isSome=true→b'=bi)→(r.nb=none→∀ x∈r.rd,seen x bi b')→Rel F ⟨t',b'⟩ a w →
  (∀ a' w',Rel F ⟨put o.dst r.x t',r.nb.getD b'⟩ a' w'→K a' w')→wpOp V.P ops Q i K a w
def hO (ops:Array Oper)(k:Nat):Option Tmp:=(ops[k]?).bind (·.dst)
def uS (ops:Array Oper)(recs:List jK)(k:Nat)(t:List (Nat × SV)):List (Nat × SV):=put (hO ops k) (recs.getD k bT).x t
theorem wZ {t t':List (Nat × SV)}{b:List aw}{a:Act}{w:World}(h:Rel F ⟨t,b⟩ a w)(e:∀ d,lk d t'=lk d t):Rel F ⟨t',b⟩ a w:=by
 obtain⟨β,fp,hf,hw⟩:=h
 exact⟨β,fp,⟨fun β' hβ=>⟨(hf.ok β' hβ).size,(hf.ok β' hβ).defers,fun d x hd=>(hf.ok β' hβ).get d x (by rw[← e];exact hd)⟩⟩,hw⟩
theorem GY {σ:St}{a:Act}{w:World}(h:Rel F σ a w):Rel F σ a w.drew:=by
 obtain⟨β,fp,hf,hw⟩:=h
 exact⟨β,fp,hf,hw.drew⟩
theorem ky (d:Nat)(dst:Option Tmp)(x:SV)(t:List (Nat × SV)):lk d (put dst x t)=if dst=some d then some x else lk d t:=by
 cases dst with
 | none=>simp[put]
 | some e =>
   simp only[put,lk,zJY.injEq]
   by_cases h:d=e
   ·subst h;simp
   ·rw[if_neg h,if_neg (fun q=>h q.symm)]
theorem jh {d:Nat}{dst:Option Tmp}{x:SV}{t t':List (Nat × SV)}(h:lk d t=lk d t'):lk d (put dst x t)=lk d (put dst x t'):=by
 rw[ky,ky,h]
theorem gf {ops:Array Oper}{D:Nat→Bool}(eg:∀ i o,ops[i]? = some o→D i=true→∀ e∈o.after,Region.binds .any e=true→D e.on=true) :
 ∀ (f i k:Nat),kE ops f i k=true→(∀ o,ops[i]? = some o→∀ e∈o.after,Region.binds .any e=true→D e.on=true)→D k=true
 | 0,i,k,h,_=>by simp[kE]at h
 | f+1,i,k,h,hp=>by
   simp only[kE]at h
   split at h
   ·rename_i o ho
    obtain⟨e,he,h⟩:=Array.any_eq_true'.1 h
    simp only[zJL,zJO,beq_iff_eq]at h
    obtain⟨hb,h⟩:=h
    have hon:=hp o ho e he hb
    rcases h with rfl|h
    ·exact hon
    ·exact gf eg f e.on k h (fun o' ho'=>eg e.on o' ho' hon)
   ·cases h
theorem CR (m j:Nat):(zKj m false).getD j false=false:=by
 rcases zKb j m with h|h <;> simp[h]
def pY (Y:Nat):SV:=.v (.pointer (some ⟨Y,0,none⟩))
def Fx.at (F:Fx V){β:Nat→Bt}{fp:Nat→Nat→Prop}{b:List aw}{w:World}(h:Wd F β fp b w):Fx V :=
 ⟨F.n,w,fun k=>∃ i r,b[i]? = some r∧r.cC=true∧fp i k,h.env,fun k ⟨i,r,hi,hm,hk⟩=>(h.cC i r hi hm k hk).elim (fun h1=>zKn (V.oB _ F.e0) h1) (fun h1=>F.ownG k h1),β,b,fun k=>∃ i r,b[i]? = some r∧fp i k⟩
theorem Wd.here {β:Nat→Bt}{fp:Nat→Nat→Prop}{b:List aw}{w:World}(h:Wd F β fp b w):Wd (F.at h) β fp b w:=⟨mJ.refl _ _,h.bx,fun i r hi hm k hk=>.inr ⟨i,r,hi,hm,hk⟩,⟨bC.refl _ _,zJW _⟩,fun i r hi k hk=>.inr ⟨i,r,hi,hk⟩⟩
theorem Wd.join {b b₂:List aw}{w w':World}{β β₂:Nat→Bt}{fp fp₂:Nat→Nat→Prop}(h:Wd F β fp b w)(h2:Wd (F.at h) β₂ fp₂ b₂ w'):Wd F β₂ fp₂ b₂ w':=by
 have kS:=h2.fr.size
 refine⟨⟨h2.fr.os.trans h.fr.os,h2.fr.tape.trans h.fr.tape,h2.fr.output.trans h.fr.output,zKn h.fr.size kS,fun k hk hn=>?_⟩,h2.bx,fun i r hi hm k hk=>?_,?_,fun i r hi k hk=>?_⟩
 ·rw[h2.fr.block k (zJ1 hk h.fr.size) (fun⟨i,r,hi,hm,hk'⟩=>?_)]
  ·exact h.fr.block k hk hn
  ·rcases h.cC i r hi hm k hk' with h1|h1
   ·omega
   ·exact hn h1
 ·rcases h2.cC i r hi hm k hk with h1|⟨j,r0,hj,hm0,sW⟩
  ·exact .inl (zKn h.fr.size h1)
  ·exact h.cC j r0 hj hm0 k sW
 ·exact⟨fun i hi=>(h.tv.zE i hi).trans (h2.tv.zE i (zJ1 hi h.tv.len)),zKn h.tv.len h2.tv.len⟩
 ·rcases h2.lU i r hi k hk with h1|⟨j,r0,hj,sW⟩
  ·exact .inl (zKn h.fr.size h1)
  ·exact h.lU j r0 hj k sW
theorem Wd.adopt {β:Nat→Bt}{fp:Nat→Nat→Prop}{w:World}{b:List aw}(h:Wd F β fp b w)(r:aw)(t:Bt)(f:Nat→Prop)
 (hr:∀ β',bC (b.length+1) (nO β b.length t) β'→Holds β' t f w r) (hf:∀ k,f k→F.w0.heap.size≤k∧k<w.heap.size∧∀ i r,b[i]? = some r→¬ fp i k) :
 Wd F (nO β b.length t) (nZ fp b.length f) (b++[r]) w:=by
 have old:∀ {i r'},(b++[r])[i]? = some r'→(i<b.length∧b[i]? = some r')∨(i=b.length∧r'=r):=fun {i r'} hi=>by
  rcases zKb i b.length with aC|rC
  ·rw[zJM aC]at hi;exact .inl ⟨aC,hi⟩
  ·have hi':i=b.length:=by
    have:=(zJK.1 hi).1
    rw[zJV,zJ0]at this
    omega
   subst hi'
   rw[zJS (zJW _)]at hi
   simp at hi
   exact .inr ⟨rfl,hi.symm⟩
 have fo:∀ {i},i<b.length→nZ fp b.length f i=fp i:=fun {i} hi=>by funext k;simp[nZ,show i≠b.length by omega]
 have fn:nZ fp b.length f b.length=f:=by funext k;simp[nZ]
 refine⟨h.fr,fun β' hβ=>?_,fun i r' hi hm k hk=>?_,?_,fun i r' hi k hk=>?_⟩
 ·rw[zJV,zJ0]at hβ
  have hb':=h.bx β' hβ.dz
  have kV:β' b.length=t:=by rw[← hβ b.length (by omega),fZ]
  refine⟨fun i r' hi=>?_,fun i r' hi k hk=>?_,fun i j r1 r2 hi hj bp hm k hk hk'=>?_⟩
  ·rcases old hi with⟨aC,hi⟩|⟨rfl,rfl⟩
   ·rw[fo aC];exact hb'.holds i r' hi
   ·rw[fn,kV];exact hr β' hβ
  ·rcases old hi with⟨aC,hi⟩|⟨rfl,rfl⟩
   ·rw[fo aC]at hk;exact hb'.lt i r' hi k hk
   ·rw[fn]at hk;exact(hf k hk).2.1
  ·rcases old hi with⟨aC,hi2⟩|⟨ei,e1⟩
   ·rcases old hj with⟨hlt',ij⟩|⟨ej,e2⟩
    ·rw[fo aC]at hk;rw[fo hlt']at hk';exact hb'.sep i j r1 r2 hi2 ij bp hm k hk hk'
    ·rw[ej]at hk'
     rw[fo aC]at hk;rw[fn]at hk'
     exact(hf k hk').2.2 i r1 hi2 hk
   ·rcases old hj with⟨hlt',ij⟩|⟨ej,e2⟩
    ·rw[ei]at hk
     rw[fn]at hk;rw[fo hlt']at hk'
     exact(hf k hk).2.2 j r2 ij hk'
    ·exact bp (ei.trans ej.symm)
 ·rcases old hi with⟨aC,hi⟩|⟨rfl,rfl⟩
  ·rw[fo aC]at hk;exact h.cC i r' hi hm k hk
  ·rw[fn]at hk;exact .inl (hf k hk).1
 ·have hl:=h.tv.len
  exact⟨fun i hi=>(h.tv.zE i hi).trans (ez β _ _ i (by omega)),by rw[zJV];omega⟩
 ·rcases old hi with⟨aC,hi⟩|⟨rfl,rfl⟩
  ·rw[fo aC]at hk;exact h.lU i r' hi k hk
  ·rw[fn]at hk;exact .inl (hf k hk).1
structure FlD where
 d:Nat→Nat
 z:Nat→List SV
 T:Nat→TypeId
 L:Nat→Nat
 q:Nat→Option (Nat × Nat)
def flR (q:Option (Nat × Nat))(z:List SV)(T:TypeId):aw:=match q with
 | none=>.cells z T true
 | some (s,n)=>.own z T s n true
def flV (q:Option (Nat × Nat))(L:Nat):SV:=match q with
 | none=>.p L 0
 | some (_,n)=>.o L n
def flB (q:Option (Nat × Nat))(Y:Nat):Bt:=match q with
 | none=>⟨Y,0,0⟩
 | some (_,n)=>⟨Y,0,n+1⟩
def FY (q:Option (Nat × Nat))(Y:Nat):SV:=match q with
 | none=>pY Y
 | some (_,n)=>.v (.slice (some ⟨Y,0,none⟩) n n)
def flW (q:Option (Nat × Nat))(z:List SV):Prop:=match q with
 | none=>True
 | some (s,n)=>z.length=n * s∧n≤maxLen
theorem IJ {q:Option (Nat × Nat)}{z:List SV}{T:TypeId}{Y:Nat}{β':Nat→Bt}{w:World}(hq:flW q z)(h:w.heap[Y]? = some (.cells (z.map (ah β')).toArray T)):Holds β' (flB q Y) (·=Y) w (flR q z T):=by
 cases q with
 | none=>exact⟨rfl,⟨[],(0,0),⟨by rw[zKc];exact h,.inr (zJW _)⟩,rfl⟩,fun k=>Iff.rfl⟩
 | some p =>
   obtain⟨s,n⟩:=p
   exact dY (rest:=[]) (fz:=(0,0)) (by rw[zKc];exact h) (.inr (.inl (zJW _))) hq.1 (zJW _) hq.2 (by simpa using hq.1)
theorem fl_conc {q:Option (Nat × Nat)}{Y L:Nat}{β' β:Nat→Bt}(h:β' L=flB q Y):ah β (FY q Y)=ah β' (flV q L):=by
 cases q with
 | none=>simp[ah,pY,FY,flV,h,flB]
 | some p=>obtain⟨s,n⟩:=p;simp[ah,FY,flV,h,flB,oV]
theorem IK {q:Option (Nat × Nat)}{Y:Nat}(β β':Nat→Bt):ah β (FY q Y)=ah β' (FY q Y):=by
 cases q with
 | none=>simp[ah,pY,FY]
 | some p=>obtain⟨s,n⟩:=p;simp[ah,FY]
def vD (F:Fx V)(G:FlD)(A:Nat→Bool)(t:List (Nat × SV))(b:List aw)(a:Act)(w:World):Prop:=∃ (β:Nat→Bt) (fp:Nat→Nat→Prop) (Y:Nat→Nat) (tt:List (Nat × SV)),
 Fm F β b.length tt a∧Wd F β fp b w ∧
 (∀ k,A k=true→lk (G.d k) tt=some (FY (G.q k) (Y k))∧lk (G.d k) t=some (flV (G.q k) (G.L k))∧F.w0.heap.size≤Y k∧Y k<w.heap.size∧(∀ β',bC b.length β β'→w.heap[Y k]? = some (.cells ((G.z k).map (ah β')).toArray (G.T k)))∧∀ i r,b[i]? = some r→¬ fp i (Y k)) ∧
 (∀ k l,A k=true→A l=true→k≠l→Y k≠Y l)∧∀ e,(∀ k,A k=true→G.d k≠e)→lk e tt=lk e t
theorem vD.none {G:FlD}{A:Nat→Bool}{t:List (Nat × SV)}{b:List aw}{a:Act}{w:World}(h:vD F G A t b a w)(hA:∀ k,A k=false):Rel F ⟨t,b⟩ a w:=by
 obtain⟨β,fp,Y,tt,hf,hw,-,-,hl⟩:=h
 exact wZ ⟨β,fp,hf,hw⟩ (fun d=>(hl d (fun k hk=>by rw[hA k]at hk;cases hk)).symm)
theorem vD.take {G:FlD}{A A':Nat→Bool}{t:List (Nat × SV)}{b:List aw}{a:Act}{w:World}(h:vD F G A t b a w){c:Nat}(hc:A c=true)(hA:∀ k,A' k=true→A k=true∧k≠c)(hA2:∀ k,A k=true→k≠c→A' k=true)(hL:G.L c=b.length)
 (hz:flW (G.q c) (G.z c)) (hd:∀ k,A k=true→k≠c→G.d k≠G.d c):vD F G A' t (b++[flR (G.q c) (G.z c) (G.T c)]) a w:=by
 obtain⟨β,fp,Y,tt,hf,hw,hy,hdis,hl⟩:=h
 obtain⟨g1,g2,g3,g4,g5,g6⟩:=hy c hc
 have eU:=hw.adopt (flR (G.q c) (G.z c) (G.T c)) (flB (G.q c) (Y c)) (·=Y c) (fun β' hβ=>IJ hz (g5 β' hβ.dz)) (fun k hk=>by subst hk;exact⟨g3,g4,g6⟩)
 refine⟨_,_,Y,(G.d c,flV (G.q c) b.length)::tt,⟨fun β' hβ=>?_⟩,eU,fun k hk=>?_,fun k l hk hl' bp=>hdis k l (hA k hk).1 (hA l hl').1 bp,fun e he=>?_⟩
 ·rw[zJV,zJ0]at hβ
  have h0:=hf.ok β' hβ.dz
  refine⟨h0.size,h0.defers,fun d x hd=>?_⟩
  simp only[lk]at hd
  split at hd
  ·rename_i e
   subst e
   cases hd
   rw[h0.get _ _ g1]
   exact fl_conc (by rw[← hβ b.length (by omega),fZ])
  ·exact h0.get d x hd
 ·obtain⟨iB,fQ⟩:=hA k hk
  obtain⟨q1,q2,q3,q4,q5,q6⟩:=hy k iB
  refine⟨?_,q2,q3,q4,fun β' hβ=>q5 β' (by rw[zJV,zJ0]at hβ;exact hβ.dz),fun i r hi rD=>?_⟩
  ·simp only[lk];rw[if_neg (hd k iB fQ)];exact q1
  ·rcases zKb i b.length with aC|rC
   ·rw[zJM aC]at hi
    exact q6 i r hi (by simpa[nZ,show i≠b.length by omega] using rD)
   ·have hi':i=b.length:=by
     have:=(zJK.1 hi).1
     rw[zJV,zJ0]at this
     omega
    subst hi'
    have:Y k=Y c:=by simpa[nZ] using rD
    exact hdis k c iB hc fQ this
 ·simp only[lk]
  split
  ·rename_i e1
   rw[e1,g2,hL]
  ·rename_i e1
   refine hl e (fun k hk=>?_)
   by_cases hkc:k=c
   ·subst hkc;exact fun q=>e1 q.symm
   ·exact he k (hA2 k hk hkc)
theorem IW {ops:Array Oper}{recs:List jK}{a0:Act}{w:World}{t0:List (Nat × SV)}{b0:List aw}{Q:Exit→Act→World→Prop}(G:FlD)(T:Nat→List (Nat × SV))(B:Nat→List aw)(hT0:∀ d,lk d (T 0)=lk d t0)(oU:B 0=b0)
 (hT:∀ i,i<ops.size→∀ d,lk d (T (i+1))=lk d (put (hO ops i) (recs.getD i bT).x (T i)))
 (hB:∀ i,i<ops.size→B (i+1)=(recs.getD i bT).nb.getD (B i))
 (FK:∀ i,i<ops.size→∀ F':Fx V,F'.n=F.n→vC F' ops i (T i) (B i) (recs.getD i bT)) (HU:∀ i,i<ops.size→UnE (recs.getD i bT) (B i))
 (mH:∀ k,eD ops k=true→hO ops k=some (G.d k)∧G.d k<F.n∧G.L k=(B k).length∧(∃ W,recs.getD k bT=⟨flV (G.q k) (B k).length,some (B k++[flR (G.q k) (G.z k) (G.T k)]),false,[],W⟩)∧flW (G.q k) (G.z k)∧∃ o,ops[k]? = some o∧o.guard=none ∧
   ∀ (β:Nat→Bt) (m:Nat) (tt:List (Nat × SV)) (a:Act) (w:World),Fm F β m tt a→(∀ d∈o.looksAt ops,lk d tt=lk d (T k))→∀ β',bC m β β'→(execOp a.eval o).run V.P w=Result.ok (.value (ah kH (FY (G.q k) w.heap.size))) (w.alloc (.cells ((G.z k).map (ah β')).toArray (G.T k))))
 (hlen:recs.length=ops.size) (hc:Je ops (recs.map fun r=>⟨r.nb.isSome,r.all,r.rd,r.wr⟩)) (hr:Rel F ⟨t0,b0⟩ a0 w)
 (hQ:∀ a w',Rel F ⟨T ops.size,B ops.size⟩ a w'→Q .normal a w'):wpAny V.P .any ops Q ops.size (zKj ops.size false) a0 { w with drawn:=w.drawn+1 }:=by
 simp only[Je,zJL]at hc
 obtain⟨hc,hah⟩:=hc
 let n:=ops.size
 let isS:Nat→Prop:=fun k=>(recs.getD k bT).nb.isSome=true
 have hrk:∀ k,k<n→(((recs.map fun r=>(⟨r.nb.isSome,r.all,r.rd,r.wr⟩:Rk))[k]?).getD vW)=⟨(recs.getD k bT).nb.isSome,(recs.getD k bT).all,(recs.getD k bT).rd,(recs.getD k bT).wr⟩:=fun k hk=>by
  have hk':k<recs.length:=by rw[hlen];exact hk
  simp[zJX,zJQ hk']
 have H8:∀ i k,i<n→k<n→k≠i→tX ops (recs.map fun r=>(⟨r.nb.isSome,r.all,r.rd,r.wr⟩:Rk)) i k=true:=fun i k hi hk bp=>by
  have h1:=zJP.1 (zJP.1 hc i (zJ2.2 hi)) k (zJ2.2 hk)
  simp only[zJO,beq_iff_eq]at h1
  rcases h1 with h1|h1
  ·exact absurd h1 bp
  ·exact h1
 have H6:∀ i k,k<n→yy ops (recs.map fun r=>(⟨r.nb.isSome,r.all,r.rd,r.wr⟩:Rk)) i k=true→eD ops k=true→k<i→∀ j,j<k→isS j→kE ops ops.size i j=true:=fun i k hk hp hf iO j hj hs=>by
  unfold yy at hp
  rw[hf,decide_eq_true iO]at hp
  simp only[Bool.and_self,Bool.not_true,Bool.false_or]at hp
  have h1:=zJP.1 hp j (zJ2.2 hj)
  rw[hrk j (by omega)]at h1
  have hs':(recs.getD j bT).nb.isSome=true:=hs
  have h1:(!((recs.getD j bT).nb.isSome)||kE ops ops.size i j)=true:=h1
  rw[hs',Bool.not_true,Bool.false_or]at h1
  exact h1
 -- what must be ordered
 have HW:∀ i k,i<n→k<n→k≠i→rZ ops i k=true→tI ops i k=true∧(eD ops k=true→k<i→∀ j,j<k→isS j→kE ops ops.size i j=true):=fun i k hi hk bp It=>by
  have h1:=H8 i k hi hk bp
  unfold tX at h1
  rw[if_pos It,zJL]at h1
  exact⟨h1.1,H6 i k hk h1.2⟩
 have hSS:∀ i k,k<i→i<n→isS i→isS k→eD ops i=false→kE ops ops.size i k=true:=fun i k iO hi hsi Cq hnf=>by
  have h1:=H8 i k hi (by omega) (by omega)
  have hmax:max i k=i:=by omega
  unfold tX at h1
  rw[hrk i hi,hrk k (by omega)]at h1
  have e1:(recs.getD i bT).nb.isSome=true:=hsi
  have e2:(recs.getD k bT).nb.isSome=true:=Cq
  split at h1
  ·rw[zJL]at h1
   have:=h1.1
   unfold tI at this
   rwa [if_pos iO]at this
  ·rw[if_pos (by simp only[e1,e2,Bool.and_self]),hmax,hnf,Bool.false_or]at h1
   unfold tI at h1
   rwa [if_pos iO]at h1
 have wB:∀ i k,i<n→k<n→k≠i→¬ isS i→isS k→∀ x∈(recs.getD i bT).rd,((recs.getD k bT).all=true∨∃ y∈(recs.getD k bT).wr,ovl x y=true)→tI ops i k=true∧(eD ops k=true→k<i→∀ j,j<k→isS j→kE ops ops.size i j=true):=fun i k hi hk bp hnsi hs x hx It=>by
  have h1:=H8 i k hi hk bp
  unfold tX at h1
  rw[hrk i hi,hrk k hk]at h1
  have e1:(recs.getD i bT).nb.isSome=false:=by
   cases h:(recs.getD i bT).nb.isSome with
   | false=>rfl
   | true=>exact absurd h hnsi
  split at h1
  ·rw[zJL]at h1
   exact⟨h1.1,H6 i k hk h1.2⟩
  ·rw[if_neg (by simp only[e1,Bool.false_and];simp),if_pos (by
    simp only[zJL,Bool.not_eq_true']
    refine⟨hs,?_⟩
    cases hl:(recs.getD i bT).rd with
    | nil=>rw[hl]at hx;cases hx
    | cons _ _=>rfl)]at h1
   simp only[zJO,Bool.not_eq_true',zJL]at h1
   rcases h1 with h1|h1
   ·exact⟨h1.1,H6 i k hk h1.2⟩
   ·exfalso
    simp only[Bool.or_eq_false_iff]at h1
    rcases It with It|⟨y,hy,hxy⟩
    ·rw[It]at h1;cases h1.1
    ·have:mh (recs.getD i bT).rd (recs.getD k bT).wr=true:=by
      unfold mh
      exact zJ7.2 ⟨x,hx,zJ7.2 ⟨y,hy,hxy⟩⟩
     rw[this]at h1
     cases h1.2
 have BF:∀ k,eD ops k=true→k<n:=fun k hk=>by
  obtain⟨-,-,-,-,-,o,ho,-⟩:=mH k hk
  exact(zJN.1 ho).1
 have hflS:∀ k,eD ops k=true→isS k:=fun k hk=>by
  obtain⟨-,-,-,⟨_,HZ⟩,-⟩:=mH k hk
  show (recs.getD k bT).nb.isSome=true
  rw[HZ];rfl
 -- the run in the text's order
 have hTf:∀ i,i≤n→∀ d,lk d (T i)=lk d (cM (uS ops recs) (rh i) i t0):=fun i=>by
  induction i with
  | zero=>intro _ d;exact hT0 d
  | succ i ih =>
    intro hi d
    rw[hT i (by omega) d,wG]
    exact jh (ih (by omega) d)
 have huS:∀ d k (s s':List (Nat × SV)),lk d s=lk d s'→lk d (uS ops recs k s)=lk d (uS ops recs k s'):=fun d k s s' h=>jh h
 have hchS:∀ d k,(∃ s,lk d (uS ops recs k s)≠lk d s)→hO ops k=some d:=fun d k ⟨s,hs⟩=>by
  unfold uS at hs
  rw[ky]at hs
  by_cases h:hO ops k=some d
  ·exact h
  ·rw[if_neg h]at hs;exact absurd rfl hs
 have hidN:∀ k,¬ isS k→∀ b,(recs.getD k bT).nb.getD b=b:=fun k hs b=>by
  cases h:(recs.getD k bT).nb with
  | none=>rfl
  | some x=>exact absurd (by show ((recs.getD k bT).nb).isSome=true;rw[h];rfl) hs
 let AS:(Nat→Bool)→Nat→Nat→Bool:=fun D c k=>eD ops k&&(D k&&decide (c≤k))
 have hdis:∀ k l,eD ops k=true→eD ops l=true→k≠l→G.d k=G.d l→∀ (D:Nat→Bool),(∀ i o,ops[i]? = some o→D i=true→∀ e∈o.after,Region.binds .any e=true→D e.on=true)→D k=true→D l=true→∀ c,c<n→D c=false→isS c→c≤k→c≤l→False:=fun k l hk hl bp he D eg hDk hDl c Iq Gs kU Is hcl'=>by
  -- the later one comes behind all that is ahead of the earlier one
  have key:∀ k l,eD ops k=true→eD ops l=true→k<l→G.d k=G.d l→D k=true→D l=true→c≤k→False:=fun k l hk hl Dx he hDk hDl Is=>by
   obtain⟨Ey,-⟩:=mH k hk
   obtain⟨oT,-,-,-,-,o,ho,-⟩:=mH l hl
   have hs:rZ ops l k=true:=by
    unfold rZ
    unfold hO at Ey
    rw[Ey,ho]
    have:o.dst=some (G.d l):=by unfold hO at oT;rw[ho]at oT;exact oT
    simp[this,he]
   obtain⟨-,h2⟩:=HW l k (BF l hl) (BF k hk) (by omega) hs
   have hck':c≠k:=fun e=>by rw[← e,Gs]at hDk;cases hDk
   have:=gf eg _ l c (h2 hk Dx c (by omega) kU) (fun o' ho'=>eg l o' ho' hDl)
   rw[Gs]at this;cases this
  rcases Nat.lt_or_gt_of_ne bp with h|h
  ·exact key k l hk hl h he hDk hDl Is
  ·exact key l k hl hk h he.symm hDl hDk hcl'
 -- those that are next are counted
 have hadv:∀ (D:Nat→Bool) (a:Act) (w:World) (t:List (Nat × SV)),(∀ i o,ops[i]? = some o→D i=true→∀ e∈o.after,Region.binds .any e=true→D e.on=true)→∀ (m c:Nat),c+m=n→(∀ k,k<c→isS k→D k=true)→(∀ k,c≤k→k<n→isS k→D k=true→eD ops k=true) →
  (∀ k l,AS D c k=true→AS D c l=true→k≠l→G.d k≠G.d l)→vD F G (AS D c) t (B c) a w→∃ c',c'≤n∧(∀ k,k<c'→isS k→D k=true)∧(c'<n→isS c'∧D c'=false)∧vD F G (AS D c') t (B c') a w:=fun D a w t eg m=>by
  induction m with
  | zero =>
    intro c Iq eh _ _ hrel
    exact⟨c,by omega,eh,fun h=>by omega,hrel⟩
  | succ m ih =>
    intro c Iq eh BG hdd hrel
    by_cases hs:isS c
    ·cases hD:D c with
     | false=>exact⟨c,by omega,eh,fun _=>⟨hs,hD⟩,hrel⟩
     | true =>
       have hf:=BG c (zJW _) (by omega) hs hD
       obtain⟨-,-,hL,⟨_,HZ⟩,hW,-⟩:=mH c hf
       have hBc:B (c+1)=B c++[flR (G.q c) (G.z c) (G.T c)]:=by rw[hB c (by omega),HZ];rfl
       have hAc:AS D c c=true:=by simp[AS,hf,hD]
       have hA1:∀ k,AS D (c+1) k=true→AS D c k=true∧k≠c:=fun k hk=>by
        simp only[AS,zJL,decide_eq_true_eq]at hk ⊢
        exact⟨⟨hk.1,hk.2.1,by omega⟩,by omega⟩
       refine ih (c+1) (by omega) (fun k hk Cq=>?_) (fun k hk=>BG k (by omega)) (fun k l hk hl=>hdd k l (hA1 k hk).1 (hA1 l hl).1) ?_
       ·rcases Nat.lt_or_eq_of_le (Nat.lt_succ_iff.1 hk) with h1|rfl
        ·exact eh k h1 Cq
        ·exact hD
       ·rw[hBc]
        refine hrel.take hAc hA1 (fun k hk bp=>?_) hL hW (fun k hk bp=>hdd k c hk hAc bp)
        simp only[AS,zJL,decide_eq_true_eq]at hk ⊢
        exact⟨hk.1,hk.2.1,by omega⟩
    ·have hBc:B (c+1)=B c:=by rw[hB c (by omega)];exact hidN c hs _
     have FQ:AS D (c+1)=AS D c:=by
      funext k
      by_cases hk:eD ops k=true
      ·have bp:k≠c:=fun e=>hs (e ▸ hflS k hk)
       simp only[AS]
       congr 2
       exact decide_eq_decide.2 ⟨fun h=>by omega,fun h=>by omega⟩
      ·simp only[AS,Bool.not_eq_true]at hk ⊢
       rw[hk];rfl
     refine ih (c+1) (by omega) (fun k hk Cq=>?_) (fun k hk=>BG k (by omega)) (by rw[FQ];exact hdd) (by rw[hBc,FQ];exact hrel)
     rcases Nat.lt_or_eq_of_le (Nat.lt_succ_iff.1 hk) with h1|rfl
     ·exact eh k h1 Cq
     ·exact absurd Cq hs
 let Inv:(Nat→Bool)→Act→World→Prop:=fun D a w=>(∃ c,c≤n∧(∀ k,k<c→isS k→D k=true)∧(c<n→isS c∧D c=false)∧vD F G (AS D c) (cM (uS ops recs) D n t0) (B c) a w)∧(∀ i o,ops[i]? = some o→D i=true→∀ e∈o.after,Region.binds .any e=true→D e.on=true)
 refine E1 Inv ?_ ?_ ops.size _ a0 _ (by simp) (by simp) ?_
 ·rintro listed a w i kS ⟨⟨c,Iq,eh,kC,hrel⟩,eg⟩ hi
  obtain⟨hun1,o,ho,aP⟩:=mem_ready.1 hi
  have nz:i<n:=(zJN.1 ho).1
  have hDi:listed.getD i false=false:=by
   have:i<listed.size:=by rw[kS];exact nz
   simp[this]at hun1 ⊢;exact hun1
  have hpr:∀ o',ops[i]? = some o'→∀ e∈o'.after,Region.binds .any e=true→listed.getD e.on false=true:=fun o' ho' e he hb=>by
   rw[ho]at ho';cases ho';exact aP e he hb
  obtain⟨D,hDD⟩:∃ D:Nat→Bool,D=fun k=>listed.getD k false:=⟨_,rfl⟩
  have hDk:∀ k,listed.getD k false=D k:=fun k=>by rw[hDD]
  rw[← hDD]at hrel eg ⊢
  rw[hDk]at hDi
  simp only[hDk]at hpr eh kC
  have Ir:∀ l o',ops[l]? = some o'→eN D i l=true→∀ e∈o'.after,Region.binds .any e=true→eN D i e.on=true:=by
   intro l o' ho' hl e he hb
   simp only[eN,zJO,decide_eq_true_eq]at hl ⊢
   rcases hl with hl|rfl
   ·exact .inl (eg l o' ho' hl e he hb)
   ·exact .inl (hpr o' ho' e he hb)
  have order:∀ k,k<n→k≠i→tI ops i k=true→D k=decide (k<i):=fun k hk bp h1=>by
   unfold tI at h1
   split at h1
   ·rename_i aC
    rw[decide_eq_true aC]
    exact gf eg _ i k h1 hpr
   ·rename_i aC
    rw[decide_eq_false aC]
    cases hD:D k with
    | false=>rfl
    | true =>
      have:=gf eg _ k i h1 (fun o' ho'=>eg k o' ho' hD)
      rw[hDi]at this
      cases this
  have Ip:∀ d,(d∈o.looksAt ops∨o.dst=some d)→∀ k,k<n→(∃ s,lk d (uS ops recs k s)≠lk d s)→D k=decide (k<i):=fun d hd k hk hch=>by
   by_cases iO:k=i
   ·subst iO;rw[hDi];simp
   ·refine order k hk iO (HW i k nz hk iO ?_).1
    unfold rZ
    have:=hchS d k hch
    unfold hO at this
    rw[this,ho]
    simp only[zJO,zKh,beq_iff_eq]
    exact hd
  have Ic:∀ d,d∈o.looksAt ops→lk d (cM (uS ops recs) D n t0)=lk d (T i):=fun d hd=>by
   rw[hTf i (Nat.le_of_lt nz) d]
   exact IF (uS ops recs) (lk d) (huS d) D n i t0 (Nat.le_of_lt nz) (Ip d (.inl hd))
  have e1:∀ d,lk d (cM (uS ops recs) (eN D i) n t0)=lk d (put o.dst (recs.getD i bT).x (cM (uS ops recs) D n t0)):=fun d=>by
   have hd:hO ops i=o.dst:=by unfold hO;rw[ho];rfl
   have:=IH (uS ops recs) (lk d) (huS d) D n i t0 nz hDi (fun hch k hk hk' hD=>by
    have hdd:=hchS d i hch
    rw[hd]at hdd
    have:=Ip d (.inr hdd) k hk hk'
    rw[hD]at this
    exact of_decide_eq_true this.symm)
   rw[this]
   unfold uS
   rw[hd]
  -- what is done of what changes things
  have hmin:∀ k,c≤k→k<n→isS k→D k=true→eD ops k=true:=fun k Is hk hs hD=>by
   cases hf:eD ops k with
   | true=>rfl
   | false =>
     exfalso
     obtain⟨kU,Gs⟩:=kC (by omega)
     have bp:c≠k:=fun e=>by rw[← e,Gs]at hD;cases hD
     have:=gf eg _ k c (hSS k c (by omega) hk hs kU hf) (fun o' ho'=>eg k o' ho' hD)
     rw[Gs]at this
     cases this
  have hA:∀ k,AS D c k=true→eD ops k=true∧D k=true∧c≤k:=fun k hk=>by
   simp only[AS,zJL,decide_eq_true_eq]at hk
   exact hk
  have hnear:∀ k,AS D c k=true→(eD ops k=true→k<i→∀ j,j<k→isS j→kE ops ops.size i j=true)→D k=decide (k<i)→False:=fun k hk h2 h3=>by
   obtain⟨hf,hD,Is⟩:=hA k hk
   have Gp:=BF k hf
   obtain⟨kU,Gs⟩:=kC (by omega)
   have bp:c≠k:=fun e=>by rw[← e,Gs]at hD;cases hD
   rw[hD]at h3
   have iO:=of_decide_eq_true h3.symm
   have:=gf eg _ i c (h2 hf iO c (by omega) kU) hpr
   rw[Gs]at this
   cases this
  have rG:∀ k,AS D c k=true→G.d k ∉ o.looksAt ops∧o.dst≠some (G.d k):=fun k hk=>by
   obtain⟨hf,hD,Is⟩:=hA k hk
   have Gp:=BF k hf
   have iO:k≠i:=fun e=>by rw[e,hDi]at hD;cases hD
   have iT:¬ rZ ops i k=true:=fun hs=>by
    obtain⟨h1,h2⟩:=HW i k nz Gp iO hs
    exact hnear k hk h2 (order k Gp iO h1)
   have Ey:=(mH k hf).1
   unfold hO at Ey
   unfold rZ at iT
   rw[Ey,ho]at iT
   simp only[zJO,zKh,beq_iff_eq,not_or]at iT
   exact iT
  have hddD:∀ k l,AS D c k=true→AS D c l=true→k≠l→G.d k≠G.d l:=fun k l hk hl bp he=>by
   obtain⟨hf,hD,Is⟩:=hA k hk
   obtain⟨hf',hD',hck'⟩:=hA l hl
   have Gp:=BF k hf
   obtain⟨kU,Gs⟩:=kC (by omega)
   exact hdis k l hf hf' bp he D eg hD hD' c (by omega) Gs kU Is hck'
  -- an operation that is no such cell
  have H7:eD ops i=false→((recs.getD i bT).nb.isSome=true→B c=B i)→((recs.getD i bT).nb=none→∀ x∈(recs.getD i bT).rd,seen x (B i) (B c))→∀ c',(recs.getD i bT).nb.getD (B c)=B c'→(∀ k,AS (eN D i) c' k=AS D c k) →
   wpOp V.P ops Q i (fun a' w'=>vD F G (AS (eN D i) c') (cM (uS ops recs) (eN D i) n t0) (B c') a' w') a w:=fun hnf hb kT c' hc' FQ=>by
   obtain⟨β,fp,Y,tt,hf,hw,hy,hd,BB⟩:=hrel
   refine FK i nz (F.at hw) rfl Q _ a w tt (B c) o ho (fun d hd'=>(BB d (fun k hk e=>(rG k hk).1 (by rw[e];exact hd'))).trans (Ic d hd')) hb kT ⟨β,fp,⟨hf.ok⟩,hw.here⟩ ?_
   rintro a' w' ⟨β₂,fp₂,Gq,eU⟩
   have kS:w.heap.size≤w'.heap.size:=eU.fr.size
   rw[show (⟨put o.dst (recs.getD i bT).x tt,(recs.getD i bT).nb.getD (B c)⟩:St)=⟨put o.dst (recs.getD i bT).x tt,B c'⟩ by rw[hc']]at Gq eU
   refine⟨β₂,fp₂,Y,put o.dst (recs.getD i bT).x tt,⟨Gq.ok⟩,hw.join eU,fun k hk=>?_,fun k l hk hl=>hd k l (by rw[← FQ];exact hk) (by rw[← FQ];exact hl),fun e he=>?_⟩
   ·rw[FQ]at hk
    obtain⟨g1,g2,g3,g4,g5,g6⟩:=hy k hk
    have bp:=(rG k hk).2
    refine⟨by rw[ky,if_neg bp];exact g1,by rw[e1,ky,if_neg bp];exact g2,g3,zJ1 g4 kS,fun β' hβ=>(eU.fr.block _ g4 (fun⟨j,r,hj,_,hk⟩=>g6 j r hj hk)).trans (g5 β' (fun i hi=>(eU.tv.zE i hi).trans (hβ i (zJ1 hi eU.tv.len)))),fun j r hj hk=>?_⟩
    rcases eU.lU j r hj _ hk with h1|⟨j',r',hj',hk'⟩
    ·have:w.heap.size≤Y k:=h1
     omega
    ·exact g6 j' r' hj' hk'
   ·rw[e1,ky,ky]
    split
    ·rfl
    ·exact BB e (fun k hk=>he k (by rw[FQ];exact hk))
  have sC:∀ c' k,k≠i→AS (eN D i) c' k=AS D c' k:=fun c' k hk=>by simp[AS,eN,hk]
  by_cases Dz:eD ops i=true
  ·
   have hci:c≤i:=by
    apply Nat.le_of_not_lt
    intro aC
    have:=eh i aC (hflS i Dz)
    rw[hDi]at this;cases this
   obtain⟨hdi,hdn,hLi,⟨_,HZ⟩,hW,o',ho',hg,nA⟩:=mH i Dz
   rw[ho]at ho'
   cases ho'
   have xH:o.dst=some (G.d i):=by unfold hO at hdi;rw[ho]at hdi;exact hdi
   have kW:∀ a' w',vD F G (AS (eN D i) c) (cM (uS ops recs) (eN D i) n t0) (B c) a' w'→Inv (eN D i) a' w':=fun a' w' hr'=>by
    refine⟨hadv (eN D i) a' w' _ Ir (n - c) c (by omega) (fun k hk hs=>by simp[eN,eh k hk hs]) (fun k hk Gp hs hD=>?_) (fun k l hk hl bp he=>?_) hr',Ir⟩
    ·by_cases iO:k=i
     ·rw[iO];exact Dz
     ·exact hmin k hk Gp hs (by simpa[eN,iO] using hD)
    ·by_cases iO:k=i
     ·subst iO
      have hl':AS D c l=true:=by rw[← sC c l (fun e=>bp e.symm)];exact hl
      exact(rG l hl').2 (by rw[xH,he])
     ·by_cases hli:l=i
      ·subst hli
       have hk':AS D c k=true:=by rw[← sC c k iO];exact hk
       exact(rG k hk').2 (by rw[xH,he])
      ·exact hddD k l (by rw[← sC c k iO];exact hk) (by rw[← sC c l hli];exact hl) bp he
   refine wpOp_mono (fun a' w' h=>kW a' w' h) ?_
   obtain⟨β,fp,Y,tt,hf,hw,hy,hd,BB⟩:=hrel
   have lz:=ho
   unfold wpOp
   rw[ho]
   simp only
   rw[if_pos (by simp[Region.wanted,hg])]
   left
   have hex:=nA β _ tt a w hf (fun d hd'=>(BB d (fun k hk e=>(rG k hk).1 (by rw[e];exact hd'))).trans (Ic d hd'))
   have bJ:=hex β (bC.refl _ _)
   have hall':∀ β',bC (B c).length β β'→(G.z i).map (ah β)=(G.z i).map (ah β'):=fun β' hβ=>by
    have h1:=hex β' hβ
    rw[bJ]at h1
    injection h1 with _ h1
    have h2:=congrArg (fun w':World=>w'.heap[w.heap.size]?) h1
    simp only[cz]at h2
    have h3:=(Obj.cells.inj (zJY.inj h2)).1
    exact congrArg Array.toList h3
   have uV:Below w.heap.size w (w.alloc (.cells ((G.z i).map (ah β)).toArray (G.T i))):=(Below.refl _ _).alloc (zJW _) _
   have gX:=cz w (.cells ((G.z i).map (ah β)).toArray (G.T i))
   have kS:(w.alloc (.cells ((G.z i).map (ah β)).toArray (G.T i))).heap.size=w.heap.size+1:=size_alloc _ _
   refine wp_of_value bJ ?_
   rw[xH]
   generalize w.alloc (.cells ((G.z i).map (ah β)).toArray (G.T i))=w2 at uV gX kS
   refine⟨β,fp,fun k=>if k=i then w.heap.size else Y k,(G.d i,FY (G.q i) w.heap.size)::tt,⟨fun β' hβ=>by rw[IK kH β'];exact(hf.ok β' hβ).put hdn (FY (G.q i) w.heap.size)⟩,hw.below uV,fun k hk=>?_,fun k l hk hl bp=>?_,fun e he=>?_⟩
   ·by_cases iO:k=i
    ·subst iO
     simp only[if_true]
     refine⟨by simp[lk],?_,hw.fr.size,by omega,fun β' hβ=>by rw[← hall' β' hβ];exact gX,fun j r hj hk=>?_⟩
     ·rw[e1,ky,if_pos xH,HZ,hLi]
     ·have:=(hw.bx β (bC.refl _ _)).lt j r hj _ hk
      omega
    ·have hk':AS D c k=true:=by rw[← sC c k iO];exact hk
     obtain⟨g1,g2,g3,g4,g5,g6⟩:=hy k hk'
     have bp:=(rG k hk').2
     simp only[if_neg iO]
     refine⟨?_,?_,g3,by omega,fun β' hβ=>(uV.block _ g4).trans (g5 β' hβ),g6⟩
     ·simp only[lk]
      rw[if_neg (fun e=>bp (by rw[xH,e]))]
      exact g1
     ·rw[e1,ky,if_neg bp];exact g2
   ·have D1:∀ k,AS (eN D i) c k=true→k≠i→AS D c k=true:=fun k h1 h2=>by rw[← sC c k h2];exact h1
    by_cases k1:k=i
    ·have k2:l≠i:=fun e=>bp (k1.trans e.symm)
     simp only[if_pos k1,if_neg k2]
     have:=(hy l (D1 l hl k2)).2.2.2.1
     omega
    ·by_cases k2:l=i
     ·simp only[if_neg k1,if_pos k2]
      have:=(hy k (D1 k hk k1)).2.2.2.1
      omega
     ·simp only[if_neg k1,if_neg k2]
      exact hd k l (D1 k hk k1) (D1 l hl k2) bp
   ·have bp:G.d i≠e:=he i (by simp[AS,eN,Dz,hci])
    have h1:lk e ((G.d i,FY (G.q i) w.heap.size)::tt)=lk e tt:=by simp only[lk];rw[if_neg (fun q=>bp q.symm)]
    rw[h1,BB e (fun k hk=>he k (by
     obtain⟨-,hD,-⟩:=hA k hk
     rw[sC c k (fun q=>by rw[q,hDi]at hD;cases hD)];exact hk)),e1,ky,if_neg (fun q=>bp (zJY.inj (xH.symm.trans q)))]
  ·have Dz:eD ops i=false:=by simpa using Dz
   by_cases hs:isS i
   ·
    have hci:c=i:=by
     apply Nat.le_antisymm
     ·apply Nat.le_of_not_lt
      intro aC
      have:=eh i aC hs
      rw[hDi]at this;cases this
     ·apply Nat.le_of_not_lt
      intro aC
      obtain⟨kU,Gs⟩:=kC (by omega)
      have:=gf eg _ i c (hSS i c aC nz hs kU Dz) hpr
      rw[Gs]at this;cases this
    subst hci
    have FQ:∀ k,AS (eN D c) (c+1) k=AS D c k:=fun k=>by
     by_cases hkc:k=c
     ·subst hkc;simp[AS,Dz]
     ·simp only[AS,eN,hkc,decide_false,Bool.or_false]
      congr 2
      exact decide_eq_decide.2 ⟨fun h=>by omega,fun h=>by omega⟩
    refine wpOp_mono ?_ (H7 Dz (fun _=>rfl) (fun xI=>by have:(recs.getD c bT).nb.isSome=true:=hs;rw[xI]at this;cases this) (c+1) (hB c nz).symm FQ)
    intro a' w' hr'
    refine⟨hadv (eN D c) a' w' _ Ir (n - (c+1)) (c+1) (by omega) (fun k hk Cq=>?_) (fun k hk Gp Cq hD=>hmin k (by omega) Gp Cq (by simpa[eN,show k≠c by omega] using hD)) (fun k l hk hl=>hddD k l (by rw[← FQ];exact hk) (by rw[← FQ];exact hl)) hr',Ir⟩
    rcases Nat.lt_or_eq_of_le (Nat.lt_succ_iff.1 hk) with h1|rfl
    ·simp[eN,eh k h1 Cq]
    ·simp[eN]
   ·
    have kT:∀ x∈(recs.getD i bT).rd,seen x (B i) (B c):=fun x hx q hq=>by
     have step:∀ k,k<n→(k<i∧c≤k∨i<k∧k<c)→((B (k+1))[x.1]?).map (ob q)=((B k)[x.1]?).map (ob q):=fun k hk hb=>by
      rw[hB k hk]
      cases xI:(recs.getD k bT).nb with
      | none=>rfl
      | some nb =>
        have Cq:isS k:=by show ((recs.getD k bT).nb).isSome=true;rw[xI];rfl
        have bp:k≠i:=by omega
        have iT:¬ ((recs.getD k bT).all=true∨∃ y∈(recs.getD k bT).wr,ovl x y=true):=fun It=>by
         obtain⟨h1,h2⟩:=wB i k nz hk bp hs Cq x hx It
         have h3:=order k hk bp h1
         rcases hb with⟨iO,Is⟩|⟨hik,hkc⟩
         ·have hD:D k=true:=by rw[h3];exact decide_eq_true iO
          exact hnear k (by simp only[AS,hmin k Is hk Cq hD,hD,decide_eq_true Is,Bool.and_self]) h2 h3
         ·have:=eh k hkc Cq
          rw[h3,decide_eq_false (by omega)]at this
          cases this
        simp only[not_or,not_exists,not_and,Bool.not_eq_true]at iT
        exact HU k hk nb xI iT.1 x.1 q (fun y hy=>Fu (iT.2 y hy) hq)
     have walk:∀ (m p:Nat),p+m≤n→(∀ k,p≤k→k<p+m→((B (k+1))[x.1]?).map (ob q)=((B k)[x.1]?).map (ob q))→((B (p+m))[x.1]?).map (ob q)=((B p)[x.1]?).map (ob q):=fun m p=>by
      induction m with
      | zero=>intro _ _;rfl
      | succ m ih =>
        intro h1 h2
        have:=h2 (p+m) (by omega) (by omega)
        rw[show p+(m+1)=p+m+1 by omega,this]
        exact ih (by omega) (fun k h3 h4=>h2 k h3 (by omega))
     rcases zKb c i with aC|rC
     ·have:=walk (i - c) c (by omega) (fun k h3 h4=>step k (by omega) (.inl ⟨by omega,h3⟩))
      rw[show c+(i - c)=i by omega]at this
      exact this.symm
     ·have hi1:((B (i+1))[x.1]?).map (ob q)=((B i)[x.1]?).map (ob q):=by
       rw[hB i nz,hidN i hs (B i)]
      have:=walk (c - i) i (by omega) (fun k h3 h4=>by
       rcases Nat.lt_or_eq_of_le h3 with h5|rfl
       ·exact step k (by omega) (.inr ⟨h5,by omega⟩)
       ·exact hi1)
      rw[show i+(c - i)=c by omega]at this
      exact this
    have FQ:∀ k,AS (eN D i) c k=AS D c k:=fun k=>by
     by_cases iO:k=i
     ·subst iO;simp[AS,Dz]
     ·exact sC c k iO
    refine wpOp_mono ?_ (H7 Dz (fun h=>absurd h hs) (fun _=>kT) c (hidN i hs _) FQ)
    intro a' w' hr'
    refine⟨⟨c,Iq,fun k hk Cq=>by simp[eN,eh k hk Cq],fun aC=>⟨(kC aC).1,?_⟩,hr'⟩,Ir⟩
    have bp:c≠i:=fun e=>hs (e ▸ (kC aC).1)
    simp[eN,bp,(kC aC).2]
 ·rintro listed a w kS ⟨⟨c,Iq,eh,kC,hrel⟩,eg⟩ hr
  have aP:∀ k,k<n→listed.getD k false=true:=fun k=>by
   induction k using Nat.strongRecOn with
   | _ k ih =>
     intro hk
     cases hl:listed.getD k false with
     | true=>rfl
     | false =>
       exfalso
       obtain⟨o,ho⟩:∃ o,ops[k]? = some o:=⟨ops[k]'hk,by simp[hk]⟩
       have hks:k<listed.size:=by rw[kS];exact hk
       have:k∈Region.ready .any ops listed:=by
        refine mem_ready.2 ⟨?_,o,ho,fun e he hb=>?_⟩
        ·simp[hks]at hl ⊢;exact hl
        ·have h1:=zJP.1 hah k (zJ2.2 hk)
         rw[ho]at h1
         have h2:=Array.all_eq_true'.1 h1 e he
         simp only[hb,Bool.not_true,Bool.false_or,decide_eq_true_eq]at h2
         exact ih e.on h2 (by omega)
       rw[hr]at this
       cases this
  have hce:c=n:=by
   apply Nat.le_antisymm Iq
   apply Nat.le_of_not_lt
   intro aC
   have h1:=(kC aC).2
   have h2:=aP c aC
   simp only at h1
   rw[h2]at h1
   cases h1
  subst hce
  have Eu:=hrel.none (fun k=>by
   cases hf:eD ops k with
   | false=>simp only[AS,hf,Bool.false_and]
   | true =>
     have:=BF k hf
     show (eD ops k&&(listed.getD k false&&decide (ops.size≤k)))=false
     rw[decide_eq_false (show ¬ ops.size≤k from Nat.not_le.2 this),Bool.and_false,Bool.and_false])
  have e1:=II (uS ops recs) (fun k=>listed.getD k false) ops.size t0 aP
  have Eu:Rel F ⟨cM (uS ops recs) (fun k=>listed.getD k false) ops.size t0,B ops.size⟩ a w:=Eu
  rw[e1]at Eu
  exact hQ a w (wZ Eu (fun d=>hTf ops.size (zJW _) d))
 ·have e3:(fun k=>(zKj ops.size false).getD k false)=fun _=>false:=funext fun k=>CR _ _
  show Inv _ a0 _
  rw[e3]
  have e:∀ {S:Type} (u:Nat→S→S) (m:Nat) (s:S),cM u (fun _=>false) m s=s:=fun u m s=>by
   induction m with
   | zero=>rfl
   | succ m ih=>simp only[cM];rw[if_neg (by simp),ih]
  obtain⟨β,fp,hf,hw⟩:=hr
  refine⟨?_,fun i o _ h=>by cases h⟩
  have h0:vD F G (AS (fun _=>false) 0) t0 (B 0) a0 w.drew:=by
   rw[oU]
   refine⟨β,fp,fun _=>0,t0,hf,hw.drew,fun k hk=>?_,fun k l hk=>?_,fun _ _=>rfl⟩ <;> simp[AS]at hk
  have:=hadv (fun _=>false) a0 w.drew t0 (fun i o _ h=>by cases h) n 0 (by omega) (fun k hk=>by omega) (fun k _ _ _ h=>by cases h) (fun k l hk=>by simp[AS]at hk) h0
  obtain⟨c,h1,h2,h3,h4⟩:=this
  exact⟨c,h1,h2,h3,by rw[e];exact h4⟩
end
open Go Go.RowKit Wf
section
variable {V:Cx} {F:Fx V}
theorem uz {ops:Array Oper}{o:Oper}{t t':List (Nat × SV)}(h:∀ d∈o.looksAt ops,lk d t'=lk d t):∀ x∈o.op.operands,ev t' x=ev t x:=fun x hx=>by
 cases x with
 | tmp d =>
   simp only[ev]
   refine h d ?_
   unfold Oper.looksAt
   simp only[zKk,List.mem_filterMap]
   exact .inl ⟨.tmp d,zJ3.2 hx,rfl⟩
 | const _=>rfl
 | global _=>rfl
 | func _=>rfl
theorem tB:∀ (l:List Oper)(j:Nat),eW l j=(l[j]?).bind (·.dst)
 | [],j=>by simp[eW]
 | o::r,0=>by simp[eW]
 | o::r,j+1=>by simp[eW,tB r j]
theorem BM {ops:Array Oper}{σt:List (Nat × SV)}{β:Nat→Bt}{a:Act}(hf:jL β F.n σt a){j d:Nat}{b:Bool}(h:Yk σt (eW ops.toList j)=some (d,b)) :
 yielded ops a.tmps j=some b∧a.tmps.getD d undef=.bool b:=by
 refine gval_ok hf ?_
 unfold Yk at h
 split at h
 ·rename_i d' hd
  rw[tB]at hd
  unfold gval
  rw[List.getElem?_map]
  cases ho:ops.toList[j]? with
  | none=>rw[ho]at hd;simp at hd
  | some o =>
    rw[ho]at hd
    simp at hd
    simp only[zJ5,hd]
    exact h
 ·cases h
theorem IC {ops:List Oper}{t:List (Nat × SV)}{j:Nat}(h:ED t (eW ops j)=true):∃ d x,eW ops j=some d∧lk d t=some (.v x)∧nob x=true:=by
 unfold ED at h
 split at h
 ·rename_i d hd
  split at h
  ·rename_i x hx
   exact⟨d,x,hd,hx,h⟩
  ·cases h
 ·cases h
theorem IB {ops:Array Oper}{σt:List (Nat × SV)}{β:Nat→Bt}{a:Act}(hf:jL β F.n σt a){j d:Nat}{x:Value}(hd:eW ops.toList j=some d)(hx:lk d σt=some (.v x))(hn:nob x=true):yielded ops a.tmps j=none:=by
 have hg:=hf.get _ _ hx
 simp only[ah]at hg
 rw[tB]at hd
 have hd':(ops[j]?).bind (·.dst)=some d:=by simpa using hd
 unfold yielded
 rw[hd']
 simp only[Option.bind_some]
 cases ht:a.tmps[d]? with
 | none=>rfl
 | some y =>
   have:y=x:=by rw[← hg];simp[zKo,ht]
   subst this
   cases y <;> simp[nob]at hn ⊢
theorem FV {ops:List Oper}{t t':List (Nat × SV)}{j d:Nat}{b:Bool}(h:Yk t (eW ops j)=some (d,b))(hl:lk d t'=lk d t):Yk t' (eW ops j)=some (d,b):=by
 unfold Yk at h ⊢
 split at h
 ·rename_i d' hd
  split at h
  ·rename_i b' hb
   cases h
   rw[hl,hb]
  ·cases h
 ·cases h
theorem gval_lk {ops:List Oper}{t:List (Nat × SV)}{j d:Nat}{b:Bool}(h:Yk t (eW ops j)=some (d,b)):lk d t=some (.bool b)∧eW ops j=some d:=by
 unfold Yk at h
 split at h
 ·rename_i d' hd
  split at h
  ·rename_i b' hb
   cases h
   exact⟨hb,hd⟩
  ·cases h
 ·cases h
theorem sD {ops:Array Oper}{o:Oper}{j d:Nat}{want:Bool}(hg:o.guard=some (j,want))(hd:eW ops.toList j=some d):d∈o.looksAt ops:=by
 unfold Oper.looksAt
 rw[hg]
 simp only[zKk]
 right
 rw[tB]at hd
 have:(ops[j]?).bind (·.dst)=some d:=by simpa using hd
 rw[this]
 simp
theorem A1 {t:List (Nat × SV)}{d:Nat}{b:Bool}(h:lk d t=some (.bool b)):∀ e,lk e ((d,.bool b)::t)=lk e t:=fun e=>by
 simp only[lk]
 split
 ·rename_i he;subst he;exact h.symm
 ·rfl
theorem zJ {ops:Array Oper}{o:Oper}(h:o.guard=none)(a:Act):Region.wanted o (yielded ops a.tmps)=true:=by simp[Region.wanted,h]
theorem Ee {ops:Array Oper}{i:Nat}{t tt:List (Nat × SV)}{b:List aw}{o:Oper}{c:Prop}{r:jK}(ho:ops[i]? = some o)(bU:fits F.n o.dst=true)(hs:XV V o.op ⟨tt,b⟩=.val c r)(hc:c)(uJ:∀ e,lk e tt=lk e t)
 (hw:∀ (ta:List (Nat × SV)) (ba:List aw) (a:Act) (w:World),Rel F ⟨ta,ba⟩ a w→(∀ d∈o.looksAt ops,lk d ta=lk d t)→Region.wanted o (yielded ops a.tmps)=true):vC F ops i t b r:=by
 intro Q K a w t' b' o' ho' hl hb kT hr hK
 rw[ho]at ho'
 cases ho'
 unfold wpOp
 rw[ho]
 simp only
 rw[if_pos (hw t' b' a w hr hl)]
 left
 refine Oper.wp_mono (fun a w ⟨σ,hσ,hrel⟩=>?_) (mS (F:=F) bU (GH (dst:=o.dst) (t':=t') (b':=b') (uz (ops:=ops) (t:=tt) (fun d hd=>(hl d hd).trans (uJ d).symm)) hs hc hb kT) hr o.type o.pos o.after o.guard _)
 subst hσ
 exact hK a w hrel
theorem uk {ops:Array Oper}{i:Nat}{t tt:List (Nat × SV)}{b:List aw}{o:Oper}{g:FuncId}{args:List SV}{r:jK}(ho:ops[i]? = some o)(bU:fits F.n o.dst=true)(hs:XV V o.op ⟨tt,b⟩=.call g args)(uJ:∀ e,lk e tt=lk e t)
 (H4:(∃ x,PC V g args x∧r=⟨x,none,false,[],[]⟩)∨(∃ x nb al W,SC V g args b (fun r' b'=>r'=x∧b'=nb)∧r=⟨x,some nb,al,[],W⟩))
 (hw:∀ (ta:List (Nat × SV)) (ba:List aw) (a:Act) (w:World),Rel F ⟨ta,ba⟩ a w→(∀ d∈o.looksAt ops,lk d ta=lk d t)→Region.wanted o (yielded ops a.tmps)=true):vC F ops i t b r:=by
 intro Q K a w t' b' o' ho' hl hb kT hr hK
 rw[ho]at ho'
 cases ho'
 unfold wpOp
 rw[ho]
 simp only
 rw[if_pos (hw t' b' a w hr hl)]
 left
 have hcall:=CE (dst:=o.dst) (t':=t') (b':=b') (uz (ops:=ops) (t:=tt) (fun d hd=>(hl d hd).trans (uJ d).symm)) hs
 have hh:gV V (fun σ=>σ=⟨put o.dst r.x t',r.nb.getD b'⟩) (XR V o.dst o.op ⟨t',b'⟩):=by
  rw[hcall]
  rcases H4 with⟨x,hpc,rfl⟩|⟨x,nb,al,W,kU,rfl⟩
  ·exact .inl ⟨x,hpc,rfl⟩
  ·obtain rfl:=hb rfl
   exact .inr ⟨_,kU,fun r' bs ⟨h1,h2⟩=>by subst h1 h2;rfl⟩
 refine Oper.wp_mono (fun a w ⟨σ,hσ,hrel⟩=>?_) (mS (F:=F) bU hh hr o.type o.pos o.after o.guard _)
 subst hσ
 exact hK a w hrel
theorem AV {ops:Array Oper}{i:Nat}{t:List (Nat × SV)}{b:List aw}{o:Oper}(ho:ops[i]? = some o)(bU:fits F.n o.dst=true)
 (hw:∀ (ta:List (Nat × SV)) (ba:List aw) (a:Act) (w:World),Rel F ⟨ta,ba⟩ a w→(∀ d∈o.looksAt ops,lk d ta=lk d t)→Region.wanted o (yielded ops a.tmps)=false):vC F ops i t b ⟨.v undef,none,false,[],[]⟩:=by
 intro Q K a w t' b' o' ho' hl hb kT hr hK
 rw[ho]at ho'
 cases ho'
 unfold wpOp
 rw[ho]
 simp only
 rw[if_neg (by rw[hw t' b' a w hr hl];simp)]
 obtain⟨β,fp,hf,mB⟩:=hr
 exact hK _ w ⟨β,fp,hf.put bU (fun _ _=>rfl),mB⟩
theorem yc (r:jK)(h:r.nb=none)(b:List aw):UnE r b:=fun nb xI=>by rw[h]at xI;cases xI
def Cm (F:Fx V)(ops:Array Oper)(r:jK)(t:List (Nat × SV))(b:List aw)(i d:Nat)(z:List SV)(T:TypeId)(q:Option (Nat × Nat)):Prop :=
 hO ops i=some d∧d<F.n∧(∃ W,r=⟨flV q b.length,some (b++[flR q z T]),false,[],W⟩)∧flW q z∧∃ o,ops[i]? = some o∧o.guard=none ∧
  ∀ (β:Nat→Bt) (m:Nat) (tt:List (Nat × SV)) (a:Act) (w:World),Fm F β m tt a→(∀ d∈o.looksAt ops,lk d tt=lk d t)→∀ β',bC m β β'→(execOp a.eval o).run V.P w=Result.ok (.value (ah kH (FY q w.heap.size))) (w.alloc (.cells (z.map (ah β')).toArray T))
theorem zY {T:TypeId}{σ:St}{c:Prop}{r:jK}(h:XV V (.alloc T) σ=.val c r):∃ ti,V.Γ T=some ti∧r=⟨.p σ.b.length 0,some (σ.b++[.cells ti.zero T true]),false,[],[(σ.b.length,0,0)]⟩:=by
 unfold XV at h
 simp only[pv,Yl,FW,dN,Xv,XD]at h
 split at h
 ·rename_i ti iS
  cases h
  exact⟨ti,iS,rfl⟩
 ·cases h
theorem qY {T:TypeId}{σ:St}{g:FuncId}{args:List SV}(h:XV V (.alloc T) σ=.call g args):False:=by
 unfold XV at h
 simp only[pv,Yl,FW,dN,Xv,XD]at h
 split at h <;> cases h
theorem F8 {ts e:TypeId}{n:Nat}{ps:Array (Nat × Operand)}{t:List (Nat × SV)}{l:List (Nat × SV)}{c0:List SV}{ti:TI}(ht:kd V.Γ ts=some (.slice e))(iS:V.Γ e=some ti)(hl:Xl t ps.toList=some l)(mH:Yi ti.size 0 l=some c0)(FH:l.length=n)(h24:n * ti.size≤16777216)(fe:0<ti.size)
 {β:Nat→Bt} {m:Nat} {a:Act} (hf:Fm F β m t a) (w:World) (β':Nat→Bt) (hβ:bC m β β'):(Instr.buildSlice ts n (ps.map fun p=>(p.1,a.eval p.2))).run V.P w=Result.ok (.slice (some ⟨w.heap.size,0,none⟩) n n) (w.alloc (.cells (c0.map (ah β')).toArray e)):=by
 obtain⟨d1,qv,iB⟩:=bY V.gZ ht
 simp only[ck]at iB
 subst iB
 obtain⟨i,z,hi,hz,rB,Ie,Gj⟩:=(V.gZ e ti iS).info
 have e2:=lV (β':=β') hf hβ hl
 have eg:=nV mH
 rw[FH]at eg
 have qs:=uY β' ti.size l 0 c0 mH ((Array.range (n * i.size)).map (z.cells[· % z.cells.size]!)) (by rw[Nat.zero_add,FH];simp[rB])
 by_cases hn:n=0
 ·subst hn
  have hl0:l=[]:=List.eq_nil_of_length_eq_zero FH
  subst hl0
  have fG:c0=[]:=List.eq_nil_of_length_eq_zero (by rw[eg];simp)
  subst fG
  have e3:(ps.toList.map fun p=>(p.1,a.eval p.2))=[]:=e2
  have e4:Array.range 0=#[]:=rfl
  simp[Instr.buildSlice,run_underlying qv,Go.sizeOf,typeInfo,hi,e3,Instr.fill,newRow,e4]
 ·refine run_buildSlice (P:=V.P) w ts e n (ps.map fun p=>(p.1,a.eval p.2)) (c0.map (ah β')).toArray i z qv hi hz (by rw[rB];omega) (by rw[rB];exact zKg (Nat.mul_pos (by omega) fe)) ?_
  have e3:=qs
  rw[← rB]at e3
  rw[Array.toList_map,e2,e3]
  congr 1
  apply Array.ext'
  rw[Nat.zero_add,FH]
  simp
theorem zX {ts:TypeId}{n:Nat}{ps:Array (Nat × Operand)}{σ:St}{c:Prop}{r:jK}(h:XV V (.buildSlice ts n ps) σ=.val c r)(hc:c):∃ e ti l c0,kd V.Γ ts=some (.slice e)∧V.Γ e=some ti∧Xl σ.t ps.toList=some l∧Yi ti.size 0 l=some c0∧l.length=n∧n * ti.size≤16777216∧0<ti.size∧∃ W,r=⟨.o σ.b.length n,some (σ.b++[.own c0 e ti.size n true]),false,[],W⟩:=by
 unfold XV at h
 simp only[pv,FW,Yl,Xv]at h
 cases hx:Xa V (some 0) ts n ps.toList σ with
 | none=>rw[hx]at h;simp only[dN]at h;cases h
 | some y =>
   rw[hx]at h
   obtain⟨c',σ'⟩:=y
   unfold Xa at hx
   (repeat' split at hx) <;> try (cases hx;done)
   rename_i _ e ht _ ti iS _ l hl _ c0 mH
   cases hx
   simp only[dN,put,Xz,Bool.false_eq_true,if_false]at h
   cases h
   exact⟨e,ti,l,c0,ht,iS,hl,mH,hc.1,hc.2.1,hc.2.2,_,rfl⟩
theorem qX {ts:TypeId}{n:Nat}{ps:Array (Nat × Operand)}{σ:St}{g:FuncId}{args:List SV}(h:XV V (.buildSlice ts n ps) σ=.call g args):False:=by
 unfold XV at h
 simp only[pv,FW,Yl,Xv]at h
 cases hx:Xa V (some 0) ts n ps.toList σ with
 | none=>rw[hx]at h;simp only[dN]at h;cases h
 | some y =>
   rw[hx]at h
   obtain⟨c',σ'⟩:=y
   simp only[dN]at h
   split at h
   ·split at h <;> cases h
   ·cases h
structure Cj (F:Fx V) (ops:Array Oper) (t0:List (Nat × SV)) (b0:List aw) (recs:List jK) (T:Nat→List (Nat × SV)) (B:Nat→List aw) (σ:St):Prop where
 t0:∀ d,lk d (T 0)=lk d t0
 b0:B 0=b0
 t:∀ i,i<recs.length→∀ d,lk d (T (i+1))=lk d (put (hO ops i) (recs.getD i bT).x (T i))
 b:∀ i,i<recs.length→B (i+1)=(recs.getD i bT).nb.getD (B i)
 op:∀ i,i<recs.length→∀ F':Fx V,F'.n=F.n→vC F' ops i (T i) (B i) (recs.getD i bT)
 un:∀ i,i<recs.length→UnE (recs.getD i bT) (B i)
 te:T recs.length=σ.t
 be:B recs.length=σ.b
 fl:∀ i,i<recs.length→eD ops i=true→∃ d z Ta q,Cm F ops (recs.getD i bT) (T i) (B i) i d z Ta q
theorem Cj.step {ops:Array Oper}{t0:List (Nat × SV)}{b0:List aw}{recs:List jK}{T:Nat→List (Nat × SV)}{B:Nat→List aw}{σ:St}(h:Cj F ops t0 b0 recs T B σ){o:Oper}(ho:ops[recs.length]? = some o)(r:jK)(tt:List (Nat × SV))
 (uJ:∀ d,lk d tt=lk d (put o.dst r.x σ.t)) (FK:∀ F':Fx V,F'.n=F.n→vC F' ops recs.length σ.t σ.b r) (HU:UnE r σ.b) (mH:eD ops recs.length=true→∃ d z Ta q,Cm F ops r σ.t σ.b recs.length d z Ta q) :
 Cj F ops t0 b0 (recs++[r]) (fun i=>if i=recs.length+1 then tt else T i) (fun i=>if i=recs.length+1 then r.nb.getD σ.b else B i) ⟨tt,r.nb.getD σ.b⟩:=by
 have kV:(recs++[r]).getD recs.length bT=r:=by simp[zJX]
 have Bu:∀ i,i<recs.length→(recs++[r]).getD i bT=recs.getD i bT:=fun i hi=>by simp[zJX,zJM hi]
 have hd:hO ops recs.length=o.dst:=by unfold hO;rw[ho];rfl
 refine⟨?_,?_,fun i hi=>?_,fun i hi=>?_,fun i hi=>?_,fun i hi=>?_,?_,?_,fun i hi hf=>?_⟩
 ·simp only[if_neg (show (0:Nat)≠recs.length+1 by omega)];exact h.t0
 ·simp only[if_neg (show (0:Nat)≠recs.length+1 by omega)];exact h.b0
 all_goals try (rw[zJV,zJ0]at hi)
 ·intro d
  simp only[if_neg (show i≠recs.length+1 by omega)]
  by_cases he:i=recs.length
  ·subst he
   simp only[if_true]
   rw[kV,hd,h.te]
   exact uJ d
  ·rw[if_neg (by omega),Bu i (by omega)]
   exact h.t i (by omega) d
 ·simp only[if_neg (show i≠recs.length+1 by omega)]
  by_cases he:i=recs.length
  ·subst he
   simp only[if_true]
   rw[kV,h.be]
  ·rw[if_neg (by omega),Bu i (by omega)]
   exact h.b i (by omega)
 ·simp only[if_neg (show i≠recs.length+1 by omega)]
  by_cases he:i=recs.length
  ·subst he
   rw[kV,h.te,h.be]
   exact FK
  ·rw[Bu i (by omega)]
   exact h.op i (by omega)
 ·simp only[if_neg (show i≠recs.length+1 by omega)]
  by_cases he:i=recs.length
  ·subst he
   rw[kV,h.be]
   exact HU
  ·rw[Bu i (by omega)]
   exact h.un i (by omega)
 ·simp
 ·simp
 ·simp only[if_neg (show i≠recs.length+1 by omega)]
  by_cases he:i=recs.length
  ·subst he
   rw[kV,h.te,h.be]
   exact mH hf
  ·rw[Bu i (by omega)]
   exact h.fl i (by omega) hf
def CQ (r:jK):Rk:=⟨r.nb.isSome,r.all,r.rd,r.wr⟩
theorem Hs {ops:Array Oper}{t0:List (Nat × SV)}{b0:List aw}{E:Fin}{k:List Item}:∀ (f:Nat)(l pre:List Oper)(recs:List jK)(T:Nat→List (Nat × SV))(B:Nat→List aw)(σ:St),ops.toList=pre++l→recs.length=pre.length →
 Cj F ops t0 b0 recs T B σ→bw V F.n E f (.eO ops l (recs.map CQ)::k) σ →
 ∃ f' recs' T' B' σ',f'<f∧recs'.length=ops.size∧Cj F ops t0 b0 recs' T' B' σ'∧Je ops (recs'.map CQ)∧bw V F.n E f' k σ':=by
 intro f
 induction f with
 | zero=>intro l pre recs T B σ _ _ _ h;cases l <;> simp[bw]at h
 | succ f ih =>
   intro l pre recs T B σ hops hlen hlex h
   match l with
   | [] =>
     simp only[bw]at h
     refine⟨f,recs,T,B,σ,Nat.lt_succ_self _,?_,hlex,h.1,h.2⟩
     have:=congrArg List.length hops
     simp at this
     omega
   | o::r =>
     have ho:ops[recs.length]? = some o:=by
      have:ops.toList[recs.length]? = some o:=by rw[hops,hlen];simp
      simpa using this
     have next:∀ (rc:jK) (tt:List (Nat × SV)),(∀ d,lk d (put o.dst rc.x tt)=lk d (put o.dst rc.x σ.t))→(∀ F':Fx V,F'.n=F.n→vC F' ops recs.length σ.t σ.b rc)→UnE rc σ.b→(eD ops recs.length=true→∃ d z Ta q,Cm F ops rc σ.t σ.b recs.length d z Ta q) →
      bw V F.n E f (.eO ops r (recs.map CQ++[CQ rc])::k) ⟨Vc.put o.dst rc.x tt,rc.nb.getD σ.b⟩ →
      ∃ f' recs' T' B' σ',f'<f+1∧recs'.length=ops.size∧Cj F ops t0 b0 recs' T' B' σ'∧Je ops (recs'.map CQ)∧bw V F.n E f' k σ':=fun rc tt uJ FK HU hflr hv=>by
      obtain⟨f',recs',T',B',σ',h1,h2,h3,h4,h5⟩:=ih r (pre++[o]) (recs++[rc]) _ _ _ (by rw[hops];simp) (by simp[hlen]) (hlex.step ho rc (Vc.put o.dst rc.x tt) uJ FK HU hflr) (by simpa using hv)
      exact⟨f',recs',T',B',σ',by omega,h2,h3,h4,h5⟩
     have BG:eD ops recs.length=true→o.guard=none∧∃ d,o.dst=some d∧((∃ Ta,o.op=.alloc Ta)∨∃ ts n ps,o.op=.buildSlice ts n ps):=fun h=>by
      unfold eD at h
      rw[ho]at h
      split at h
      ·rename_i e;cases e;exact⟨rfl,_,rfl,.inl ⟨_,rfl⟩⟩
      ·rename_i e;cases e;exact⟨rfl,_,rfl,.inr ⟨_,_,_,rfl⟩⟩
      ·cases h
     have hdat:hO ops recs.length=o.dst:=by unfold hO;rw[ho];rfl
     obtain⟨dst,op,ty,pos,after,guard⟩:=o
     simp only at BG hdat
     -- one operation, wanted
     have go:∀ (tt:List (Nat × SV)),(∀ e,lk e tt=lk e σ.t)→(∀ F':Fx V,F'.n=F.n→∀ (ta:List (Nat × SV)) (ba:List aw) (a:Act) (w:World),Rel F' ⟨ta,ba⟩ a w→(∀ d∈(⟨dst,op,ty,pos,after,guard⟩:Oper).looksAt ops,lk d ta=lk d σ.t)→Region.wanted ⟨dst,op,ty,pos,after,guard⟩ (yielded ops a.tmps)=true) →
      fits F.n dst=true→Yg V F.n E f ops r (recs.map CQ) k dst ⟨tt,σ.b⟩ (XV V op ⟨tt,σ.b⟩) →
      ∃ f' recs' T' B' σ',f'<f+1∧recs'.length=ops.size∧Cj F ops t0 b0 recs' T' B' σ'∧Je ops (recs'.map CQ)∧bw V F.n E f' k σ':=fun tt uJ Bp bU qO=>by
      have H5:∀ x d,lk d (put dst x tt)=lk d (put dst x σ.t):=fun x d=>jh (uJ d)
      have hfit':∀ F':Fx V,F'.n=F.n→fits F'.n dst=true:=fun F' e=>by rw[e];exact bU
      have sU:∀ {c:Prop} {rc:jK},XV V op ⟨tt,σ.b⟩=.val c rc→c→eD ops recs.length=true→∃ d z Ta q,Cm F ops rc σ.t σ.b recs.length d z Ta q:=fun {c rc} hs hc hf=>by
       obtain⟨hg,d,hd,⟨Ta,FK⟩|⟨ts,n,ps,FK⟩⟩:=BG hf
       ·subst FK
        obtain⟨ti,iS,hrc⟩:=zY hs
        refine⟨d,ti.zero,Ta,none,hdat.trans hd,?_,⟨_,hrc⟩,trivial,_,ho,hg,fun β m tt' a w hfm BB β' hβ=>?_⟩
        ·rw[hd]at bU
         simpa[fits] using bU
        ·rw[(V.gZ Ta ti iS).flat β']
         exact bO (wX (V:=V) Ta ti iS w)
       ·subst FK
        obtain⟨e,ti,l,c0,h1,h2,h3,h4,h5,h6,h7,W,hrc⟩:=zX hs hc
        have eg:=nV h4
        refine⟨d,c0,e,some (ti.size,n),hdat.trans hd,?_,⟨W,hrc⟩,⟨by rw[eg,h5],?_⟩,_,ho,hg,fun β m tt' a w hfm BB β' hβ=>?_⟩
        ·rw[hd]at bU
         simpa[fits] using bU
        ·unfold maxLen
         have:n * 1≤n * ti.size:=Nat.mul_le_mul_left _ h7
         omega
        ·have hev:=uz (ops:=ops) (o:=⟨dst,.buildSlice ts n ps,ty,pos,after,guard⟩) (t:=tt) (t':=tt') (fun d hd=>(BB d hd).trans (uJ d).symm)
         have h3':Xl tt' ps.toList=some l:=by
          rw[iC (t:=tt') (t':=tt) ps.toList (fun x hx=>hev x (by simp only[Op.operands];rw[List.mem_toArray];exact hx))]
          exact h3
         exact bO (F8 (F:=F) h1 h2 h3' h4 h5 h6 h7 hfm w β' hβ)
      have hnc:∀ {g:FuncId} {args:List SV} {rc:jK},XV V op ⟨tt,σ.b⟩=.call g args→eD ops recs.length=true→∃ d z Ta q,Cm F ops rc σ.t σ.b recs.length d z Ta q:=fun {g args rc} hs hf=>by
       obtain⟨-,d,-,⟨Ta,FK⟩|⟨ts,n,ps,FK⟩⟩:=BG hf
       ·rw[FK]at hs
        exact(qY hs).elim
       ·rw[FK]at hs
        exact(qX hs).elim
      cases uL:XV V op ⟨tt,σ.b⟩ with
      | val c rc =>
        rw[uL]at qO
        obtain⟨x,nb,al,rd,wr⟩:=rc
        cases nb with
        | none =>
          simp only[Yg]at qO
          exact next ⟨x,none,al,rd,wr⟩ tt (H5 x) (fun F' e=>Ee ho (hfit' F' e) uL qO.1 uJ (Bp F' e)) (zW uL qO.1) (sU uL qO.1) qO.2
        | some nb =>
          simp only[Yg]at qO
          exact next ⟨x,some nb,al,rd,wr⟩ tt (H5 x) (fun F' e=>Ee ho (hfit' F' e) uL qO.1 uJ (Bp F' e)) (zW uL qO.1) (sU uL qO.1) qO.2
      | call g args =>
        rw[uL]at qO
        simp only[Yg,lv]at qO
        rcases qO with⟨x,hpc,hv⟩|⟨x,nb,kU,hv⟩|⟨x,nb,W,kU,hout,hv⟩
        ·exact next ⟨x,none,false,[],[]⟩ tt (H5 x) (fun F' e=>uk ho (hfit' F' e) uL uJ (.inl ⟨x,hpc,rfl⟩) (Bp F' e)) (yc _ rfl _) (hnc uL) hv
        ·exact next ⟨x,some nb,true,[],[]⟩ tt (H5 x) (fun F' e=>uk ho (hfit' F' e) uL uJ (.inr ⟨x,nb,true,[],kU,rfl⟩) (Bp F' e)) (fun _ _ h=>by cases h) (hnc uL) hv
        ·exact next ⟨x,some nb,false,[],W⟩ tt (H5 x) (fun F' e=>uk ho (hfit' F' e) uL uJ (.inr ⟨x,nb,false,W,kU,rfl⟩) (Bp F' e)) (fun _ h _ j q hq=>by cases h;exact hout j q hq) (hnc uL) hv
      | bad=>rw[uL]at qO;simp[Yg]at qO
     cases guard with
     | none =>
       simp only[bw]at h
       exact go σ.t (fun _=>rfl) (fun F' _ ta _ a _ _ _=>zJ rfl a) h.1 h.2
     | some q =>
       obtain⟨j,want⟩:=q
       simp only[bw]at h
       obtain⟨bU,h⟩:=h
       have hfit':∀ F':Fx V,F'.n=F.n→fits F'.n dst=true:=fun F' e=>by rw[e];exact bU
       have hng:∀ {rc:jK},eD ops recs.length=true→∃ d z Ta q,Cm F ops rc σ.t σ.b recs.length d z Ta q:=fun hf=>by
        have:=(BG hf).1
        cases this
       cases hg:Yk σ.t (eW ops.toList j) with
       | none =>
         cases hu:ED σ.t (eW ops.toList j) with
         | false=>rw[hg,hu]at h;simp[Xy]at h
         | true =>
           rw[hg,hu]at h
           simp only[Xy,XG]at h
           obtain⟨d,x,hgd,BB,iT⟩:=IC hu
           refine next ⟨.v undef,none,false,[],[]⟩ σ.t (fun _=>rfl) (fun F' e=>AV ho (hfit' F' e) (fun ta ba a w hr hl=>by
            obtain⟨β,fp,hf,-⟩:=hr
            have hy:=IB (hf.ok β (bC.refl _ _)) hgd (by rw[hl d (sD rfl hgd)];exact BB) iT
            simp[Region.wanted,hy])) (yc _ rfl _) hng h
       | some q =>
         obtain⟨d,b⟩:=q
         rw[hg]at h
         simp only[Xy,XG]at h
         obtain⟨hd,h1,h2⟩:=h
         obtain⟨BB,hgd⟩:=gval_lk hg
         have HO:∀ F':Fx V,F'.n=F.n→∀ (ta:List (Nat × SV)) (ba:List aw) (a:Act) (w:World),Rel F' ⟨ta,ba⟩ a w→(∀ e∈(⟨dst,op,ty,pos,after,some (j,want)⟩:Oper).looksAt ops,lk e ta=lk e σ.t)→yielded ops a.tmps j=some b:=fun F' _ ta ba a w hr hl=>by
          obtain⟨β,fp,hf,-⟩:=hr
          exact(BM (hf.ok β (bC.refl _ _)) (FV hg (hl d (sD rfl hgd)))).1
         by_cases hb:b=want
         ·subst hb
          exact go ((d,.bool b)::σ.t) (A1 BB) (fun F' e ta ba a w hr hl=>by simp[Region.wanted,HO F' e ta ba a w hr hl]) bU (h1 rfl)
         ·have hb':b=!want:=by cases b <;> cases want <;> simp at hb ⊢
          have hv:=h2 hb'
          rw[← hb']at hv
          exact next ⟨.v undef,none,false,[],[]⟩ ((d,.bool b)::σ.t) (fun e=>jh (A1 BB e)) (fun F' e=>AV ho (hfit' F' e) (fun ta ba a w hr hl=>by simp[Region.wanted,HO F' e ta ba a w hr hl,hb])) (yc _ rfl _) hng hv
end
open Go Go.RowKit Wf
section
variable {V:Cx} {F:Fx V}
theorem wp_then {P:Program}{o:Oper}{a:Act}{w:World}{N K:Act→World→Prop}{Q:Exit→Act→World→Prop}(hk:∀ a w,N a w→K a w)(h:o.wp P a w (fun a w=>Exit.then N Q .normal a w) (Exit.then N Q)):o.wp P a w K Q:=by
 refine Oper.wp_mono hk ?_
 unfold Oper.wp at *
 generalize (execOp a.eval o).run P w=r at *
 cases r with
 | ok n w' =>
   cases n <;> simp only[Oper.upon]at h ⊢ <;> exact h
 | halt x w'=>cases x <;> simp only[Oper.upon]at h ⊢ <;> exact h
theorem FD {N:Act→World→Prop}{Q:Exit→Act→World→Prop}(h:LetsOut (Exit.then N Q)):LetsOut Q:=h
def aoV (P:Program)(ops:Array Oper)(L:List Nat)(t:OT)(Q:Exit→Act→World→Prop)(a:Act)(w:World):Prop :=
 (OT.yN ops L t=true→wpAny P .any ops Q (ops.size - L.length) (rR ops.size L) a w) ∧
 (OT.yN.Gi ops L t=true→L.length<ops.size→∀ i∈t.uT,wpOp P ops Q i (wpAny P .any ops Q (ops.size - (L.length+1)) (rR ops.size (i::L))) a w)
def pq (F:Fx V)(Qf:Exit→Act→World→Prop):List Item→Exit→Act→World→Prop
 | []=>Qf
 | .code c::k=>Exit.then (c.wp V.P (pq F Qf k)) (pq F Qf k)
 | .ops ops l::k=>Exit.then (wpList V.P ops (pq F Qf k) l) (pq F Qf k)
 | .eO _ _ _::k=>Exit.then (fun _ _=>True) (pq F Qf k)
 | .fM ops L t::k=>Exit.then (fun a w=>OT.yN ops L t=true∨OT.yN.Gi ops L t=true→aoV V.P ops L t (pq F Qf k) a w) (pq F Qf k)
 | .cut J::k=>Exit.then (fun a w=>∃ σ,J σ∧Rel F σ a w) (pq F Qf k)
 | .lp id::k=>Exit.inBlock id (pq F Qf k)
 | .kD I μ m::k=>Exit.then (fun a w=>∃ σ,I σ∧μ σ<m∧Rel F σ a w) (pq F Qf k)
theorem iN {Qf:Exit→Act→World→Prop}{id:Nat}{a:Act}{w:World}:∀ {k k':List Item},XE id k=some k'→pq F Qf k' .normal a w→pq F Qf k (.exit id) a w
 | [],k',h,_=>by simp[XE]at h
 | .code c::k,k',h,hq=>by simp only[XE]at h;exact iN (k:=k) h hq
 | .ops ops l::k,k',h,hq=>by simp only[XE]at h;exact iN (k:=k) h hq
 | .kD _ _ _::k,k',h,hq=>by simp only[XE]at h;exact iN (k:=k) h hq
 | .eO _ _ _::k,k',h,hq=>by simp only[XE]at h;exact iN (k:=k) h hq
 | .fM _ _ _::k,k',h,hq=>by simp only[XE]at h;exact iN (k:=k) h hq
 | .cut _::k,k',h,hq=>by simp only[XE]at h;exact iN (k:=k) h hq
 | .lp id'::k,k',h,hq=>by
   simp only[XE]at h
   show Exit.inBlock id' (pq F Qf k) (.exit id) a w
   split at h
   ·rename_i e
    cases h
    simp only[Exit.inBlock,if_pos e.symm]
    exact hq
   ·rename_i e
    simp only[Exit.inBlock,if_neg (fun q=>e (Eq.symm q))]
    exact iN (k:=k) h hq
theorem ki {Qf:Exit→Act→World→Prop}{a:Act}{w:World}(hq:Qf .ret a w):∀ (k:List Item),pq F Qf k .ret a w
 | []=>hq
 | .code c::k=>ki hq k
 | .ops ops l::k=>ki hq k
 | .kD _ _ _::k=>ki hq k
 | .eO _ _ _::k=>ki hq k
 | .fM _ _ _::k=>ki hq k
 | .cut _::k=>ki hq k
 | .lp id'::k=>ki hq k
theorem gy {Qf:Exit→Act→World→Prop}{c:List PanicEntry}{a:Act}{w:World}:∀ (k:List Item),pq F Qf k (.panic c) a w→Qf (.panic c) a w
 | [],h=>h
 | .code _::k,h=>gy k h
 | .ops _ _::k,h=>gy k h
 | .eO _ _ _::k,h=>gy k h
 | .fM _ _ _::k,h=>gy k h
 | .cut _::k,h=>gy k h
 | .lp _::k,h=>gy k h
 | .kD _ _ _::k,h=>gy k h
theorem wz {E:Fin}{n f:Nat}{ops:Array Oper}{r:List Oper}{k:List Item}{s:fA}(h:Yc V n E f ops r k s):gV V (fun σ=>bw V n E f (.ops ops r::k) σ) s:=by
 cases s <;> simp only[Yc]at h
 ·exact h
 ·unfold lu at h
  rcases h with h|⟨R,h1,-,h2⟩
  ·exact .inl h
  ·exact .inr ⟨R,h1,h2⟩
theorem E2 {E:Fin}{Qf:Exit→Act→World→Prop}(hn:∀ σ a w,vf V E σ (XT V σ E.rs)→Rel F σ a w→Qf .normal a w)(hret:∀ σ a w,vf V E σ (XT V σ E.rs)→Rel F σ a w→Qf .ret a w)(hpan:∀ c a w,¬ Qf (.panic c) a w) :
 ∀ (f:Nat) (items:List Item) (σ:St),bw V F.n E f items σ→∀ a w,Rel F σ a w→pq F Qf items .normal a w:=by
 intro f
 induction f using Nat.strongRecOn with
 | _ f0 ihs =>
 cases f0 with
 | zero=>intro items σ h;cases items <;> simp[bw]at h
 | succ f =>
   have ih:∀ (items:List Item) (σ:St),bw V F.n E f items σ→∀ a w,Rel F σ a w→pq F Qf items .normal a w:=ihs f (Nat.lt_succ_self _)
   have step:∀ (ops:Array Oper) (o:Oper) (r:List Oper) (k:List Item) (σ:St) (a:Act) (w:World),fits F.n o.dst=true→Yc V F.n E f ops r k (XR V o.dst o.op σ)→Rel F σ a w →
    o.wp V.P a w (wpList V.P ops (pq F Qf k) r) (pq F Qf k):=fun ops o r k σ a w bU h hr=>by
    refine Oper.wp_mono (fun a w ⟨σ',h1,h2⟩=>?_) (mS (F:=F) bU (wz h) hr o.type o.pos o.after o.guard _)
    exact ih (.ops ops r::k) σ' h1 a w h2
   intro items σ h a w hr
   match items with
   | []=>simp only[bw]at h;exact hn σ a w h hr
   | .lp id::k=>simp only[bw]at h;exact ih k σ h a w hr
   | .kD I μ m::k=>simp only[bw]at h;exact⟨σ,h.1,h.2,hr⟩
   | .eO ops l rs::k=>exact trivial
   | .cut J::k=>simp only[bw]at h;exact⟨σ,h,hr⟩
   | .fM ops L .leaf::k =>
     simp only[bw]at h
     refine fun _=>⟨fun bN=>?_,fun bN=>by simp[OT.yN.Gi]at bN⟩
     simp only[OT.yN,List.isEmpty_iff]at bN
     have hq:pq F Qf k .normal a w:=ih k σ h a w hr
     cases hf:ops.size - L.length with
     | zero=>exact⟨bN,hq⟩
     | succ m=>exact⟨fun _=>hq,fun i hi=>by rw[bN]at hi;cases hi⟩
   | .fM ops L (.one i t)::k =>
     simp only[bw]at h
     have H9:OT.yN ops (i::L) t=true→i<ops.size→wpOp V.P ops (pq F Qf k) i (wpAny V.P .any ops (pq F Qf k) (ops.size - (L.length+1)) (rR ops.size (i::L))) a w:=fun bN hi=>by
      have h1:wpList V.P ops (pq F Qf (.fM ops (i::L) t::k)) (oa ops.toList i) a w:=ih _ σ h a w hr
      have ho:ops[i]? = some ops[i]:=zJ9 hi
      have hn:oa ops.toList i=[ops[i]]:=by rw[tq];simp[ho]
      rw[hn]at h1
      have hk:∀ a w,pq F Qf (.fM ops (i::L) t::k) .normal a w→wpAny V.P .any ops (pq F Qf k) (ops.size - (L.length+1)) (rR ops.size (i::L)) a w:=fun a w hq=>(hq (.inl bN)).1 bN
      unfold wpOp
      rw[ho]
      simp only[wpList]at h1 ⊢
      split
      ·rename_i hw
       rw[if_pos hw]at h1
       rcases h1 with h1|⟨h1,h2⟩
       ·refine .inl ?_
        exact wp_then hk h1
       ·exact .inr ⟨h1,FD h2⟩
      ·rename_i hw
       rw[if_neg hw]at h1
       exact hk _ _ h1
     refine fun _=>⟨fun bN=>?_,fun bN hL j hj=>?_⟩
     ·simp only[OT.yN,zJL,decide_eq_true_eq,beq_iff_eq]at bN
      obtain⟨⟨hL,hrd⟩,bN⟩:=bN
      obtain⟨m,hm⟩:∃ m,ops.size - L.length=m+1:=⟨ops.size - L.length - 1,by omega⟩
      have hm':ops.size - (L.length+1)=m:=by omega
      rw[hm' ]at H9
      rw[hm]
      refine⟨fun h0=>by rw[h0]at hrd;simp at hrd,fun j hj=>?_⟩
      have hi:i<ops.size:=by
       have h1:i∈Region.ready .any ops (rR ops.size L):=by rw[hrd];exact zKl.2 rfl
       obtain⟨o,ho,_⟩:=(mem_ready.1 h1).2
       exact(zJN.1 ho).1
      rw[hrd,zKl]at hj
      subst hj
      exact H9 bN hi
     ·simp only[OT.uT,zKl]at hj
      subst hj
      simp only[OT.yN.Gi]at bN
      by_cases hi:j<ops.size
      ·exact H9 bN hi
      ·unfold wpOp
       rw[zKm (by omega)]
       have h1:wpList V.P ops (pq F Qf (.fM ops (j::L) t::k)) (oa ops.toList j) a w:=ih _ σ h a w hr
       rw[tq,show ops.toList[j]? = none from by simp;omega]at h1
       exact(h1 (.inl bN)).1 bN
   | .fM ops L (.alt x y)::k =>
     simp only[bw]at h
     have hx:OT.yN.Gi ops L x=true→_:=fun bN=>(ih (.fM ops L x::k) σ h.1 a w hr (.inr bN)).2 bN
     have hy:OT.yN.Gi ops L y=true→_:=fun bN=>(ih (.fM ops L y::k) σ h.2 a w hr (.inr bN)).2 bN
     refine fun _=>⟨fun bN=>?_,fun bN hL j hj=>?_⟩
     ·simp only[OT.yN,zJL,decide_eq_true_eq,Bool.not_eq_true',zJP]at bN
      obtain⟨⟨⟨⟨hL,bp⟩,aP⟩,h1⟩,h2⟩:=bN
      obtain⟨m,hm⟩:∃ m,ops.size - L.length=m+1:=⟨ops.size - L.length - 1,by omega⟩
      have hm':ops.size - (L.length+1)=m:=by omega
      rw[hm']at hx hy
      rw[hm]
      refine⟨fun h0=>by rw[h0]at bp;simp at bp,fun j hj=>?_⟩
      have wB:=zKh.1 (aP j hj)
      have jD:(rR ops.size L).setIfInBounds j true=rR ops.size (j::L):=rfl
      rw[jD]
      simp only[OT.uT,zKk]at wB
      rcases wB with hm|hm
      ·exact hx h1 hL j hm
      ·exact hy h2 hL j hm
     ·simp only[OT.yN.Gi,zJL]at bN
      simp only[OT.uT,zKk]at hj
      rcases hj with hj|hj
      ·exact hx bN.1 hL j hj
      ·exact hy bN.2 hL j hj
   | .fM ops L (.pur i t)::k =>
     simp only[bw]at h
     refine fun _=>⟨fun bN=>?_,fun bN=>by simp[OT.yN.Gi]at bN⟩
     simp only[OT.yN,zJL,decide_eq_true_eq]at bN
     obtain⟨⟨⟨⟨hL,hns⟩,jM⟩,hrd⟩,bN⟩:=bN
     obtain⟨m,hm⟩:∃ m,ops.size - L.length=m+1:=⟨ops.size - L.length - 1,by omega⟩
     have hi:i<ops.size:=by
      obtain⟨o,ho,_⟩:=(mem_ready.1 (zKh.1 hrd)).2
      exact(zJN.1 ho).1
     have ho:ops[i]? = some ops[i]:=zJ9 hi
     have hn:oa ops.toList i=[ops[i]]:=by rw[tq];simp[ho]
     rw[hn]at h
     generalize hoi:ops[i]=oi at h ho
     obtain⟨dst,op,ty,pos,after,guard⟩:=oi
     cases guard with
     | some g=>simp[D9]at h
     | none =>
     simp only[D9]at h
     obtain⟨bU,h⟩:=h
     cases hp:pv V.Γ σ.t op with
     | none=>rw[hp]at h;simp[D8]at h
     | some p =>
     obtain⟨c,x⟩:=p
     rw[hp]at h
     simp only[D8]at h
     obtain⟨hc,h⟩:=h
     obtain⟨β,fp,hf,hw⟩:=hr
     have hy:Yields V.P ops ⟨dst,op,ty,pos,after,none⟩ (ah β x) a:=.inl ⟨by simp[Region.wanted],fun w=>xa (o:=⟨dst,op,ty,pos,after,none⟩) V.gZ (hf.ok β (bC.refl _ _)) hp hc w⟩
     rw[hm]
     refine wpAny_take ho hns jM hrd (fun c a w hq=>absurd (gy k hq) (hpan c _ w)) hy ?_
     have hrel:Rel F ⟨put dst x σ.t,σ.b⟩ (a.put dst (ah β x)) w:=⟨β,fp,hf.put bU (fun β' hβ=>?_),hw⟩
     ·have h1:=(ih (.fM ops (i::L) t::k) _ h _ w hrel (.inl bN)).1 bN
      have hm':ops.size - (L.length+1)=m:=by omega
      rw[List.length_cons,hm']at h1
      exact h1
     ·have h1:=xa (o:=⟨dst,op,ty,pos,after,none⟩) V.gZ (hf.ok β (bC.refl _ _)) hp hc w
      have h2:=xa (o:=⟨dst,op,ty,pos,after,none⟩) V.gZ (hf.ok β' hβ) hp hc w
      rw[h1]at h2
      injection h2 with h2
      injection h2
   | .ops ops []::k=>simp only[bw]at h;exact ih k σ h a w hr
   | .ops ops (⟨dst,op,ty,pos,after,none⟩::r)::k =>
     simp only[bw]at h
     show wpList V.P ops (pq F Qf k) (⟨dst,op,ty,pos,after,none⟩::r) a w
     unfold wpList
     rw[if_pos (by simp[Region.wanted])]
     exact .inl (step ops ⟨dst,op,ty,pos,after,none⟩ r k σ a w h.1 h.2 hr)
   | .ops ops (⟨dst,op,ty,pos,after,some (j,want)⟩::r)::k =>
     simp only[bw]at h
     obtain⟨bU,h⟩:=h
     show wpList V.P ops (pq F Qf k) (⟨dst,op,ty,pos,after,some (j,want)⟩::r) a w
     cases hg:Yk σ.t (eW ops.toList j) with
     | none =>
       cases hu:ED σ.t (eW ops.toList j) with
       | false=>rw[hg,hu]at h;simp[XA]at h
       | true =>
         rw[hg,hu]at h
         simp only[XA,XG]at h
         obtain⟨d,x,hgd,BB,iT⟩:=IC hu
         obtain⟨β,fp,hf,hw⟩:=hr
         have hy:=IB (hf.ok β (bC.refl _ _)) hgd BB iT
         unfold wpList
         rw[if_neg (by simp[Region.wanted,hy])]
         exact ih (.ops ops r::k) _ h _ w ⟨β,fp,hf.put bU (fun _ _=>rfl),hw⟩
     | some p =>
       obtain⟨d,b⟩:=p
       rw[hg]at h
       simp only[XA,XG]at h
       obtain⟨hd,h1,h2⟩:=h
       obtain⟨β,fp,hf,hw⟩:=hr
       obtain⟨hy,hv⟩:=BM (hf.ok β (bC.refl _ _)) hg
       unfold wpList
       by_cases hb:b=want
       ·subst hb
        rw[if_pos (by simp[Region.wanted,hy])]
        exact .inl (step ops ⟨dst,op,ty,pos,after,some (j,b)⟩ r k _ a w bU (h1 rfl) ⟨β,fp,hf.relit (fun _ _=>hv),hw⟩)
       ·have hb':b=!want:=by cases b <;> cases want <;> simp at hb ⊢
        rw[if_neg (by simp[Region.wanted,hy,hb])]
        exact ih (.ops ops r::k) _ (h2 hb') _ w ⟨β,fp,(hf.relit (x:=.bool (!want)) (fun _ _=>by rw[← hb'];exact hv)).put bU (fun _ _=>rfl),hw⟩
   | .code c::k =>
     show c.wp V.P (pq F Qf k) a w
     cases c with
     | skip=>simp only[bw]at h;exact wp_skip (ih k σ h a w hr)
     | region id ops draw =>
       cases draw
       ·simp only[bw]at h
        exact wp_region_list (ih (.ops ops ops.toList::k) σ h a w hr)
       ·simp only[bw]at h
        cases hw:E.Ev id with
        | all t =>
          rw[hw]at h
          simp only[yr]at h
          obtain⟨-,bN,J,h1,h2⟩:=h
          refine wp_mono (Q:=pq F Qf (.cut J::k)) (wp_region_any V.mixed ?_) (fun e a' w' hq=>?_)
          ·have h3:=(ih (.fM ops [] t::.cut J::k) σ h1 a { w with drawn:=w.drawn+1 } (GY hr) (.inl bN)).1 bN
           exact h3
          ·cases e with
           | normal =>
             obtain⟨σ',hj,hr'⟩:=hq
             exact ih k σ' (h2 σ' hj) a' w' hr'
           | _=>exact hq
        | ord p =>
        rw[hw]at h
        simp only[yr]at h
        obtain⟨FI,h⟩:=h
        refine wp_region_any V.mixed (Cv p FI ?_)
        generalize nd ops p=ops at h ⊢
        cases f with
        | zero=>simp[bw]at h
        | succ f1 =>
        have hlex:Cj F ops σ.t σ.b [] (fun _=>σ.t) (fun _=>σ.b) σ:=⟨fun _=>rfl,rfl,fun i hi=>by simp at hi,fun i hi=>by simp at hi,fun i hi=>by simp at hi,fun i hi=>by simp at hi,rfl,rfl,fun i hi=>by simp at hi⟩
        obtain⟨f',recs,T,B,σ',aC,hlen,hl,bN,hv⟩:=Hs (f1+1) ops.toList [] [] _ _ σ (by simp) rfl hlex h
        classical
        have hch:∃ G:FlD,∀ k,eD ops k=true→Cm F ops (recs.getD k bT) (T k) (B k) k (G.d k) (G.z k) (G.T k) (G.q k)∧G.L k=(B k).length:=by
         have h1:∀ k,∃ p:Nat × List SV × TypeId × Option (Nat × Nat),eD ops k=true→Cm F ops (recs.getD k bT) (T k) (B k) k p.1 p.2.1 p.2.2.1 p.2.2.2:=fun k=>by
          by_cases hk:eD ops k=true
          ·have aC:k<recs.length:=by
            unfold eD at hk
            split at hk
            ·rename_i e
             rw[hlen]
             exact(zJN.1 e).1
            ·rename_i e
             rw[hlen]
             exact(zJN.1 e).1
            ·cases hk
           obtain⟨d,z,Ta,q,h⟩:=hl.fl k aC hk
           exact⟨(d,z,Ta,q),fun _=>h⟩
          ·exact⟨(0,[],0,none),fun h=>absurd h hk⟩
         exact⟨⟨fun k=>(Classical.choose (h1 k)).1,fun k=>(Classical.choose (h1 k)).2.1,fun k=>(Classical.choose (h1 k)).2.2.1,fun k=>(B k).length,fun k=>(Classical.choose (h1 k)).2.2.2⟩,fun k hk=>⟨Classical.choose_spec (h1 k) hk,rfl⟩⟩
        obtain⟨G,hG⟩:=hch
        refine IW (recs:=recs) G T B hl.t0 hl.b0 (fun i hi=>hl.t i (by omega)) (fun i hi=>hl.b i (by omega)) (fun i hi=>hl.op i (by omega)) (fun i hi=>hl.un i (by omega)) (fun k hk=>by obtain⟨⟨g1,g2,g3,g4⟩,g5⟩:=hG k hk;exact⟨g1,g2,g5,g3,g4⟩) hlen bN hr (fun a' w' hrel=>?_)
        rw[← hlen,hl.te,hl.be]at hrel
        exact ihs f' (by omega) k σ' hv a' w' hrel
     | seq x y=>simp only[bw]at h;exact wp_seq (ih (.code x::.code y::k) σ h a w hr)
     | cond c x y =>
       simp only[bw]at h
       cases hb:ev σ.t c with
       | none=>rw[hb]at h;simp[XN]at h
       | some v =>
         rw[hb]at h
         cases v <;> simp only[XN,XQ]at h
         rename_i b
         obtain⟨β,fp,hf,hw⟩:=hr
         exact wp_cond_split (t:=b) ((hf.ev hb (bC.refl _ β)).trans rfl) (fun e=>ih (.code x::k) σ (h.1 e) a w ⟨β,fp,hf,hw⟩) (fun e=>ih (.code y::k) σ (h.2 e) a w ⟨β,fp,hf,hw⟩)
     | block id x=>simp only[bw]at h;exact wp_block (ih (.code x::.lp id::k) σ h a w hr)
     | exit id =>
       simp only[bw]at h
       cases hx:XE id k with
       | none=>rw[hx]at h;simp[XO]at h
       | some k' =>
         rw[hx]at h
         simp only[XO]at h
         exact wp_exit (iN hx (ih k' σ h a w hr))
     | ret=>simp only[bw]at h;exact wp_ret (ki (hret σ a w h hr) k)
     | loop x =>
       simp only[bw,uy]at h
       obtain⟨I,μ,h0,hround⟩:=h
       classical
       let S:Act→World→Nat→Prop:=fun a w n=>∃ σ,μ σ=n∧I σ∧Rel F σ a w
       let m:Act→World→Nat:=fun a w=>if h:∃ n,S a w n then Classical.choose (least h) else 0
       refine wp_loop (fun a w=>∃ n,S a w n) m ⟨μ σ,σ,rfl,h0,hr⟩ (fun a w hI=>?_)
       have hm:m a w=Classical.choose (least hI):=dif_pos hI
       obtain⟨σ',hμ,hI',hr'⟩:=(Classical.choose_spec (least hI)).1
       refine wp_mono (ih (.code x::.kD I μ (μ σ')::k) σ' (hround σ' hI') a w hr') ?_
       intro e a2 w2 h2
       cases e with
       | normal =>
         obtain⟨σ2,h3,h4,hr2⟩:=h2
         have hS:∃ n,S a2 w2 n:=⟨μ σ2,σ2,rfl,h3,hr2⟩
         refine⟨hS,?_⟩
         have hm2:m a2 w2=Classical.choose (least hS):=dif_pos hS
         have:=(Classical.choose_spec (least hS)).2 _ ⟨σ2,rfl,h3,hr2⟩
         rw[hm,hm2]
         omega
       | _=>exact h2
     | _=>simp[bw]at h
theorem GN (u:Bool)(Ev:Nat→How){f:FuncId}{fn:Func}{c:Code}{args:List SV}{bs:List aw}{R:SV→List aw→Prop}{n:Nat}{rs:Array ResultVar}(fuel:Nat)(hf:V.P.funcs[f]? = some fn)(hb:fn.body=some c)(hn:fn.ntmps=n)(hr:fn.results=rs)(jE:Enters V f)
 (hlen:args.length≤n) (kU:∀ β β',bC bs.length β β'→aJ β args=aJ β' args) (h:bw V n ⟨rs.toList,R,Ev,u⟩ fuel [.code c] ⟨Yj 0 args,bs⟩):SC V f args bs R:=by
 refine sc_core hf hb hn hr jE hlen kU (fun F hF a w hrel=>?_)
 subst hF
 refine E2 (Qf:=Qof F (kret V rs.toList R)) (fun σ a w h hr=>⟨σ,?_,hr⟩) (fun σ a w h hr=>⟨σ,?_,hr⟩) (fun c a w ⟨_,h,_⟩=>h) fuel [.code c] ⟨Yj 0 args,bs⟩ h a w hrel
 all_goals
  simp only at h
  cases hl:XT V σ rs.toList with
  | none=>rw[hl]at h;simp[vf]at h
  | some l=>rw[hl]at h;simp only[kret,hl];exact h
theorem sc_ofP (Ev:Nat→How){f:FuncId}{fn:Func}{c:Code}{args:List SV}{bs:List aw}{R:SV→List aw→Prop}{n:Nat}{rs:Array ResultVar}(fuel:Nat)(hf:V.P.funcs[f]? = some fn)(hb:fn.body=some c)(hn:fn.ntmps=n)(hr:fn.results=rs)(jE:Enters V f)
 (hlen:args.length≤n) (kU:∀ β β',bC bs.length β β'→aJ β args=aJ β' args) (h:bw V n ⟨rs.toList,R,Ev,false⟩ fuel [.code c] ⟨Yj 0 args,bs⟩):SC V f args bs R :=
 GN false Ev fuel hf hb hn hr jE hlen kU h
theorem cV {f:FuncId}{fn:Func}{c:Code}{args:List SV}{bs:List aw}{R:SV→List aw→Prop}{n:Nat}{rs:Array ResultVar}(fuel:Nat)(hf:V.P.funcs[f]? = some fn)(hb:fn.body=some c)(hn:fn.ntmps=n)(hr:fn.results=rs)(jE:Enters V f)
 (hlen:args.length≤n) (kU:∀ β β',bC bs.length β β'→aJ β args=aJ β' args) (h:bw V n ⟨rs.toList,R,fun _=>.ord [],false⟩ fuel [.code c] ⟨Yj 0 args,bs⟩):SC V f args bs R :=
 sc_ofP (fun _=>.ord []) fuel hf hb hn hr jE hlen kU h
theorem aQ {f:FuncId}{fn:Func}{c:Code}{args:List SV}{r:SV}{n:Nat}{rs:Array ResultVar}(fuel:Nat)(hf:V.P.funcs[f]? = some fn)(hb:fn.body=some c)(hn:fn.ntmps=n)(hr:fn.results=rs)(jE:Enters V f)
 (hlen:args.length≤n) (fa:flat.ai args=true) (fr:flat r=true) (h:bw V n ⟨rs.toList,fun r' _=>r'=r,fun _=>.ord [],false⟩ fuel [.code c] ⟨Yj 0 args,[]⟩):PC V f args r :=
 G9 fa fr (cV fuel hf hb hn hr jE hlen (fun β β' _=>dx args fa β β') h)
theorem aa {E:Fin}{n f:Nat}{ops:Array Oper}{r:List Oper}{k:List Item}{g:FuncId}{args:List SV}{dst:Option Tmp}{σ:St}{x:SV}(h:PC V g args x)(h2:bw V n E f (.ops ops r::k) ⟨put dst x σ.t,σ.b⟩):lu V n E f ops r k g args dst σ:=by
 unfold lu;exact .inl ⟨x,h,h2⟩
theorem aT {E:Fin}{n f:Nat}{ops:Array Oper}{r:List Oper}{k:List Item}{g:FuncId}{args:List SV}{dst:Option Tmp}{σ:St}{R:SV→List aw→Prop}(h:SC V g args σ.b R)(h2:∀ x bs,R x bs→bw V n E f (.ops ops r::k) ⟨put dst x σ.t,bs⟩)(hu:E.uni=false:=by rfl):lu V n E f ops r k g args dst σ:=by
 unfold lu;exact .inr ⟨R,h,fun hn=>(by rw[hu]at hn;cases hn),h2⟩
theorem aR {E:Fin}{n f:Nat}{ops:Array Oper}{r:List Oper}{rs:List Rk}{k:List Item}{g:FuncId}{args:List SV}{dst:Option Tmp}{σ:St}{x:SV}(h:PC V g args x)(h2:bw V n E f (.eO ops r (rs++[⟨false,false,[],[]⟩])::k) ⟨put dst x σ.t,σ.b⟩):lv V n E f ops r rs k dst σ g args:=by
 unfold lv;exact .inl ⟨x,h,h2⟩
theorem nK {E:Fin}{n f:Nat}{ops:Array Oper}{r:List Oper}{rs:List Rk}{k:List Item}{g:FuncId}{args:List SV}{dst:Option Tmp}{σ:St}{x:SV}{b:List aw}(h:SC V g args σ.b (fun r' b'=>r'=x∧b'=b))(h2:bw V n E f (.eO ops r (rs++[⟨true,true,[],[]⟩])::k) ⟨put dst x σ.t,b⟩):lv V n E f ops r rs k dst σ g args:=by
 unfold lv;exact .inr (.inl ⟨x,b,h,h2⟩)
theorem bn {E:Fin}{n f:Nat}{ops:Array Oper}{r:List Oper}{rs:List Rk}{k:List Item}{g:FuncId}{args:List SV}{dst:Option Tmp}{σ:St}{x:SV}{b:List aw}(W:List (Nat × Nat × Nat))(h:SC V g args σ.b (fun r' b'=>r'=x∧b'=b))(ho:Gd W b σ.b)
 (h2:bw V n E f (.eO ops r (rs++[⟨true,false,[],W⟩])::k) ⟨put dst x σ.t,b⟩):lv V n E f ops r rs k dst σ g args:=by
 unfold lv;exact .inr (.inr ⟨x,b,W,h,ho,h2⟩)
theorem aL {E:Fin}{n f:Nat}{x:Code}{k:List Item}{σ:St}(I:St→Prop)(μ:St→Nat)(h0:I σ)(h:∀ σ',I σ'→bw V n E f (.code x::.kD I μ (μ σ')::k) σ'):uy V n E f x k σ:=by
 unfold uy;exact⟨I,μ,h0,h⟩
def iE (f:Nat→Nat)(l:List (Nat × Nat × Nat)):List (Nat × Nat × Nat):=l.map fun x=>(f x.1,x.2.1,x.2.2)
def dW (f:Nat→Nat)(r:Rk):Rk:=⟨r.s,r.all,iE f r.rd,iE f r.wr⟩
theorem DQ (f:Nat→Nat)(xs ys:List (Nat × Nat × Nat))(h:mh xs ys=true):mh (iE f xs) (iE f ys)=true:=by
 unfold mh at h ⊢
 obtain⟨a,ha,h⟩:=zJ7.1 h
 obtain⟨b,hb,h⟩:=zJ7.1 h
 refine zJ7.2 ⟨_,zKs ha,zJ7.2 ⟨_,zKs hb,?_⟩⟩
 unfold ovl at h ⊢
 simp only[zJL,beq_iff_eq]at h ⊢
 exact⟨by rw[h.1],h.2⟩
theorem dm (f:Nat→Nat){ops:Array Oper}{rs:List Rk}(h:Je ops (rs.map (dW f))):Je ops rs:=by
 simp only[Je,zJL]at h ⊢
 refine⟨?_,h.2⟩
 have h1:=h.1
 unfold zm at h1 ⊢
 refine zJP.2 (fun i hi=>zJP.2 (fun k hk=>?_))
 have h2:=zJP.1 (zJP.1 h1 i hi) k hk
 simp only[zJO]at h2 ⊢
 refine h2.imp_right (fun h2=>?_)
 have hg:∀ j,((rs.map (dW f))[j]?).getD vW=dW f ((rs[j]?).getD vW):=fun j=>by
  rw[List.getElem?_map]
  cases rs[j]? <;> rfl
 have hp:yy ops (rs.map (dW f)) i k=yy ops rs i k:=by unfold yy;simp only[hg];rfl
 unfold tX at h2 ⊢
 simp only[hg,hp]at h2
 generalize (rs[i]?).getD vW=ri at h2 ⊢
 generalize (rs[k]?).getD vW=rk at h2 ⊢
 have hs:∀ r,(dW f r).s=r.s:=fun _=>rfl
 have ha:∀ r,(dW f r).all=r.all:=fun _=>rfl
 have he:(dW f ri).rd.isEmpty=ri.rd.isEmpty:=by
  show (ri.rd.map _).isEmpty=_
  cases ri.rd <;> rfl
 rw[hs,hs,ha,he]at h2
 split
 ·rename_i hc
  rw[if_pos hc]at h2
  exact h2
 ·rename_i hc
  rw[if_neg hc]at h2
  split
  ·rename_i tz
   rw[if_pos tz]at h2
   exact h2
  ·rename_i tz
   rw[if_neg tz]at h2
   split
   ·rename_i uU
    rw[if_pos uU]at h2
    simp only[zJO,Bool.not_eq_true',Bool.or_eq_false_iff]at h2 ⊢
    refine h2.imp_right (fun h2=>⟨h2.1,?_⟩)
    cases ho:mh ri.rd rk.wr with
    | false=>rfl
    | true =>
      have:=DQ f _ _ ho
      rw[show mh (iE f ri.rd) (iE f rk.wr)=false from h2.2]at this
      cases this
   ·rfl
end
def nk (ms:List Nat):List (Nat × Bool)→Nat
 | []=>0
 | (e,true)::r=>nk ms r ||| (1 <<< e) ||| ms.getD e 0
 | (_,false)::r=>nk ms r
def IE {β:Type}(m:Nat)(f:Nat→β):β:=match m with
 | 0=>f 0
 | k+1=>f (k+1)
theorem FX {β:Type}(m:Nat)(f:Nat→β):IE m f=f m:=by cases m <;> rfl
def edges (o:Oper):List (Nat × Bool):=o.after.toList.map fun e=>(e.on,Region.binds .any e)
def vo:List Oper→List Nat→List Nat
 | [],ms=>ms
 | o::r,ms=>IE (nk ms (edges o)) fun m=>vo r (ms++[m])
def ze (D:List Nat)(i k:Nat):Bool:=(D.getD i 0).testBit k
def GB (D:List Nat)(i k:Nat):Bool:=if k<i then ze D i k else ze D k i
def preF (ops:Array Oper)(rs:List Rk)(D:List Nat)(i k:Nat):Bool:=!(eD ops k&&decide (k<i))||(zJU k).all fun j=>!(((rs[j]?).getD vW).s)||ze D i j
def pairF (ops:Array Oper)(rs:List Rk)(D:List Nat)(i k:Nat):Bool :=
 if rZ ops i k then GB D i k&&preF ops rs D i k
 else if ((rs[i]?).getD vW).s&&((rs[k]?).getD vW).s then eD ops (max i k)||GB D i k
 else if ((rs[k]?).getD vW).s&&!((rs[i]?).getD vW).rd.isEmpty then(GB D i k&&preF ops rs D i k)||!(((rs[k]?).getD vW).all||mh ((rs[i]?).getD vW).rd ((rs[k]?).getD vW).wr)
 else true
def okF (ops:Array Oper)(rs:List Rk):Bool :=
 ((zJU ops.size).all fun i=>(zJU ops.size).all fun k=>k==i||pairF ops rs (vo ops.toList []) i k)&&I9 ops
theorem vk {ops:Array Oper}:∀ (f g i k:Nat),f≤g→kE ops f i k=true→kE ops g i k=true
 | 0,_,_,_,_,h=>by simp[kE]at h
 | f+1,0,_,_,h,_=>by omega
 | f+1,g+1,i,k,hfg,h=>by
   rw[kE]at h ⊢
   split at h
   ·rename_i o ho
    rw[← Array.any_toList,zJ7]at h ⊢
    obtain⟨e,he,h⟩:=h
    refine⟨e,he,?_⟩
    simp only[zJL,zJO]at h ⊢
    refine⟨h.1,h.2.imp id (vk f g e.on k (by omega))⟩
   ·cases h
theorem oQ (ms:List Nat)(k:Nat):∀ l:List (Nat × Bool),(nk ms l).testBit k=true→∃ e,(e,true)∈l∧(e=k∨(ms.getD e 0).testBit k=true)
 | [],h=>by simp[nk]at h
 | (e,true)::r,h=>by
  rw[nk,Nat.testBit_or,Nat.testBit_or,zJO,zJO]at h
  rcases h with(h|h) | h
  ·obtain⟨e',h1,h2⟩:=oQ ms k r h
   exact⟨e',zKi _ h1,h2⟩
  ·refine⟨e,zJ8,.inl ?_⟩
   rw[Nat.one_shiftLeft,Nat.testBit_two_pow]at h
   simpa using h
  ·exact⟨e,zJ8,.inr h⟩
 | (_,false)::r,h=>by
  rw[nk]at h
  obtain⟨e',h1,h2⟩:=oQ ms k r h
  exact⟨e',zKi _ h1,h2⟩
theorem B3 {ops:Array Oper}:∀ (r:List Oper)(ms:List Nat),ops.toList.drop ms.length=r→(∀ i k,(ms.getD i 0).testBit k=true→i<ms.length∧kE ops (i+1) i k=true) →
 ∀ i k,((vo r ms).getD i 0).testBit k=true→kE ops (i+1) i k=true
 | [],ms,_,h,i,k,hb=>(h i k hb).2
 | o::r,ms,hd,h,i,k,hb=>by
   rw[vo,FX]at hb
   have aC:ms.length<ops.toList.length:=by
    apply Nat.lt_of_not_le
    intro hle
    rw[List.drop_eq_nil_of_le hle]at hd
    cases hd
   have ho:ops[ms.length]? = some o:=by
    rw[← Array.getElem?_toList,zJQ aC]
    rw[List.drop_eq_getElem_cons aC]at hd
    rw[(zJR.inj hd).1]
   refine B3 r (ms++[nk ms (edges o)]) ?_ ?_ i k hb
   ·rw[zJV,zJ0]
    rw[List.drop_eq_getElem_cons aC]at hd
    exact(zJR.inj hd).2
   ·intro i k hb
    rw[zJX]at hb
    rcases Nat.lt_trichotomy i ms.length with hi|hi|hi
    ·rw[zJM hi,← zJX]at hb
     exact⟨by simp;omega,(h i k hb).2⟩
    ·subst hi
     rw[zJS (zJW _),Nat.sub_self]at hb
     simp only[List.getElem?_cons_zero,Option.getD_some]at hb
     refine⟨by simp,?_⟩
     obtain⟨e,h1,h2⟩:=oQ ms k _ hb
     obtain⟨d,qv,oe⟩:=List.mem_map.1 h1
     rw[kE,ho]
     simp only
     rw[← Array.any_toList]
     refine zJ7.2 ⟨d,qv,?_⟩
     simp only[Prod.mk.injEq]at oe
     rw[oe.2,oe.1,Bool.true_and,zJO]
     rcases h2 with rfl|h2
     ·left;simp
     ·right
      have:=h e k h2
      exact vk (e+1) _ e k (by omega) this.2
    ·rw[List.getElem?_eq_none (by simp;omega)]at hb
     simp at hb
theorem aj {ops:Array Oper}{rs:List Rk}(h:okF ops rs=true):Je ops rs:=by
 unfold okF at h
 rw[zJL]at h
 obtain⟨h,ha⟩:=h
 unfold Je zm
 rw[zJL]
 refine⟨zJP.2 fun i hi=>zJP.2 fun k hk=>?_,ha⟩
 have h1:=zJP.1 (zJP.1 h i hi) k hk
 rw[zJO]at h1 ⊢
 refine h1.imp id fun h1=>?_
 have hdep:∀ i k,i∈zJU ops.size→ze (vo ops.toList []) i k=true→kE ops ops.size i k=true:=fun i k hi hb =>
  vk (i+1) _ i k (by have:=zJ2.1 hi;omega) (B3 ops.toList [] (by simp) (fun i k hb=>by simp at hb) i k hb)
 have htie:GB (vo ops.toList []) i k=true→tI ops i k=true:=fun h=>by
  unfold GB at h
  unfold tI
  split
  ·rename_i iO;rw[if_pos iO]at h;exact hdep i k hi h
  ·rename_i iO;rw[if_neg iO]at h;exact hdep k i hk h
 have eh:preF ops rs (vo ops.toList []) i k=true→yy ops rs i k=true:=fun h=>by
  unfold preF at h
  unfold yy
  rw[zJO]at h ⊢
  refine h.imp id (fun h=>zJP.2 fun j hj=>?_)
  have:=zJP.1 h j hj
  rw[zJO]at this ⊢
  exact this.imp id (fun h=>hdep i j hi h)
 unfold pairF at h1
 unfold tX
 split
 ·rename_i hc
  rw[if_pos hc,zJL]at h1
  rw[zJL]
  exact⟨htie h1.1,eh h1.2⟩
 ·rename_i hc
  rw[if_neg hc]at h1
  split
  ·rename_i tz
   rw[if_pos tz,zJO]at h1
   rw[zJO]
   exact h1.imp id htie
  ·rename_i tz
   rw[if_neg tz]at h1
   split
   ·rename_i uU
    rw[if_pos uU]at h1
    rw[zJO]at h1 ⊢
    refine h1.imp (fun h1=>?_) id
    rw[zJL]at h1 ⊢
    exact⟨htie h1.1,eh h1.2⟩
   ·rfl
def ad:=zJJ (zJJ (zJJ (zJJ (zJJ (@Fz) (zJJ (@Option.getD_some.{0}) (@Option.getD_none.{0}))) (zJJ (@List.getElem?_cons_zero.{0}) (zJJ (@List.getElem?_cons_succ.{0}) (@List.length_cons.{0})))) (zJJ (zJJ (@List.length_nil.{0}) (zJJ (@List.cons_append.{0}) (@List.nil_append.{0}))) (zJJ (@zKc.{0}) (zJJ (@List.map_cons.{0,0}) (@List.map_nil.{0,0}))))) (zJJ (zJJ (zJJ (@List.take_succ_cons.{0}) (zJJ (@List.take_zero.{0}) (@List.drop_succ_cons.{0}))) (zJJ (@List.drop_zero.{0}) (zJJ (@List.set_cons_zero.{0}) (@List.set_cons_succ.{0})))) (zJJ (zJJ (@List.all_cons.{0}) (zJJ (@List.all_nil.{0}) (@List.mapIdx_cons.{0,0}))) (zJJ (zJJ (@List.mapIdx_nil.{0,0}) (@List.getD_cons_zero.{0})) (zJJ (@List.getD_cons_succ.{0}) (@zJ5.{0,0})))))) (zJJ (zJJ (zJJ (zJJ (@zKt.{0,0}) (zJJ (@zJY.injEq.{0}) (@Nat.zero_add))) (zJJ (@Nat.add_zero) (zJJ (@decide_true) (@decide_false)))) (zJJ (zJJ (@Bool.and_true) (zJJ (@Bool.true_and) (@Bool.and_false))) (zJJ (zJJ (@Bool.false_and) (@true_and)) (zJJ (@and_true) (@false_and))))) (zJJ (zJJ (zJJ (@and_false) (zJJ (@if_true.{1}) (@if_false.{1}))) (zJJ (@List.toList_toArray.{0}) (zJJ (@Bool.not_true) (@Bool.not_false)))) (zJJ (zJJ (@Bool.false_eq_true) (zJJ (@false_implies) (@Int.toNat_natCast))) (zJJ (zJJ (@Wf.Cz) (@Wf.CB)) (zJJ (@Wf.CA) (@List.take_length.{0}))))))
def ae:=zJJ (zJJ (zJJ (@Yd.eq_11) (@Yd.eq_10)) (zJJ (@CO.eq_1) (zJJ (@GS.eq_1) (@HF)))) (zJJ (zJJ (@Hj.eq_1) (@Hj.eq_2)) (zJJ (@itOf.eq_1) (zJJ (zJJ (zJJ (zJJ (@bw.eq_21) (@bw.eq_22)) (zJJ (@bw.eq_23) (@bw.eq_24))) (zJJ (zJJ (@bw.eq_25) (@yr.eq_1)) (zJJ (@D9.eq_1) (@D8.eq_1)))) (zJJ (zJJ (zJJ (zJJ (@nd.eq_1) (zJJ (@nd.eq_2) (@Eb.eq_1))) (zJJ (@na.eq_1) (zJJ (@na.eq_2) (@oa.eq_1)))) (zJJ (zJJ (@oa.eq_2) (zJJ (@oa.eq_3) (@ov.eq_1))) (zJJ (zJJ (@Ea.eq_1) (@Ea.eq_2)) (zJJ (@ig.eq_1) (@ig.eq_2))))) (zJJ (zJJ (zJJ (zJJ (zJJ (zJJ (zJJ (zJJ (@bw.eq_1) (@bw.eq_2)) (zJJ (@bw.eq_3) (@bw.eq_4))) (zJJ (zJJ (@bw.eq_5) (@bw.eq_6)) (zJJ (@bw.eq_7) (zJJ (@bw.eq_8) (@bw.eq_9))))) (zJJ (zJJ (zJJ (@bw.eq_10) (@bw.eq_11)) (zJJ (@bw.eq_12) (@bw.eq_13))) (zJJ (zJJ (@bw.eq_14) (@bw.eq_15)) (zJJ (@bw.eq_16) (zJJ (@bw.eq_17) (@bw.eq_18)))))) (zJJ (zJJ (zJJ (zJJ (@bw.eq_19) (@bw.eq_20)) (zJJ (@XQ.eq_1) (@XG.eq_1))) (zJJ (zJJ (@ED.eq_1) (@ED.eq_2)) (zJJ (@tO.eq_1) (zJJ (@tO.eq_2) (@tO.eq_3))))) (zJJ (zJJ (zJJ (@Gg.eq_1) (@Gg.eq_2)) (zJJ (@Yl.eq_1) (zJJ (@Yl.eq_2) (@Yl.eq_3)))) (zJJ (zJJ (@Yl.eq_4) (@Yl.eq_5)) (zJJ (@Yl.eq_6) (zJJ (@Yl.eq_7) (@Yl.eq_8))))))) (zJJ (zJJ (zJJ (zJJ (zJJ (zJJ @Yl.eq_9 (zJJ @Yl.eq_10 (zJJ @Dg.eq_1 (zJJ @B7.eq_1 @B7.eq_2)))) (@Xm.eq_1)) (zJJ (@Xm.eq_2) (@Xm.eq_3))) (zJJ (zJJ (@Yn.eq_1) (@Yi.eq_1)) (zJJ (@Yi.eq_2) (zJJ (@Xa.eq_1) (@Ym.eq_1))))) (zJJ (zJJ (zJJ (@Ym.eq_2) (@Xc.eq_1)) (zJJ (@Xc.lH.eq_1) (zJJ (@Xc.lH.eq_2) (@reS.eq_1)))) (zJJ (zJJ (@reS.eq_2) (@Xj.eq_1)) (zJJ (@Yb.eq_1) (zJJ (@mmS.eq_1) (@mmS.eq_2)))))) (zJJ (zJJ (zJJ (zJJ (@Xq.eq_1) (@Xq.eq_2)) (zJJ (@tf.eq_1) (@tf.eq_2))) (zJJ (zJJ (zJJ @tf.eq_3 (zJJ @capB.eq_1 @capB.eq_2)) (@zZ.eq_1)) (zJJ (@zZ.eq_2) (zJJ (@zZ.eq_3) (@zZ.eq_4))))) (zJJ (zJJ (zJJ (@XP.eq_1) (@XP.eq_2)) (zJJ (@XP.eq_3) (zJJ (@XN.eq_1) (@XN.eq_2)))) (zJJ (zJJ (@XO.eq_1) (@XO.eq_2)) (zJJ (@Yc.eq_1) (zJJ (@Yc.eq_2) (@Yc.eq_3)))))))) (zJJ (zJJ (zJJ (zJJ (zJJ (zJJ (@XA.eq_1) (@XA.eq_2)) (zJJ (@XA.eq_3) (@Yg.eq_1))) (zJJ (zJJ (@Yg.eq_2) (@Yg.eq_3)) (zJJ (@Yg.eq_4) (zJJ (@Xy.eq_1) (@Xy.eq_2))))) (zJJ (zJJ (zJJ (@Xy.eq_3) (@XE.eq_1)) (zJJ (@XE.eq_2) (zJJ (@XE.eq_3) (@vf.eq_1)))) (zJJ (zJJ (@vf.eq_2) (@eW.eq_1)) (zJJ (@eW.eq_2) (zJJ (@eW.eq_3) (@Yk.eq_1)))))) (zJJ (zJJ (zJJ (zJJ (@Yk.eq_2) (@XR.eq_1)) (zJJ (@Yd.eq_1) (@Yd.eq_2))) (zJJ (zJJ (@Yd.eq_3) (@Yd.eq_4)) (zJJ (@Yd.eq_5) (zJJ (@Yd.eq_6) (@Yd.eq_7))))) (zJJ (zJJ (zJJ (zJJ (@Yd.eq_8) (zJJ (@Yd.eq_9) (zJJ (@yo.eq_1) (zJJ (@yR.eq_1) (zJJ (@tp.eq_1) (zJJ (@rl.eq_1) (@rl.eq_2))))))) (@goR.eq_1)) (zJJ (@goR.eq_2) (zJJ (@XC.eq_1) (@sBox.eq_1)))) (zJJ (zJJ (@XU.eq_1) (@XH.eq_1)) (zJJ (@Xr.eq_1) (zJJ (@sNil.eq_1) (@XL.eq_1))))))) (zJJ (zJJ (zJJ (zJJ (zJJ (@Xt.eq_1) (@Xt.eq_2)) (zJJ (@XV.eq_1) (@Xv.eq_1))) (zJJ (zJJ (@Xv.eq_2) (@Xv.eq_3)) (zJJ (@Xv.eq_4) (zJJ (@Xv.eq_5) (@Xv.eq_6))))) (zJJ (zJJ (zJJ (@Xv.eq_7) (@Xv.eq_8)) (zJJ (@FW.eq_1) (zJJ (@FW.eq_2) (@oE.eq_1)))) (zJJ (zJJ (@XI.eq_1) (@XF.eq_1)) (zJJ (@XB.eq_1) (zJJ (@I0.eq_1) (@XK.eq_1)))))) (zJJ (zJJ (zJJ (zJJ (@XD.eq_1) (@I1.eq_1)) (zJJ (@dN.eq_1) (@dN.eq_2))) (zJJ (zJJ (@Xz.eq_1) (@Xz.eq_2)) (zJJ (@Xz.eq_3) (zJJ (@Xz.eq_4) (@Xz.eq_5))))) (zJJ (zJJ (zJJ (zJJ (@Xz.eq_6) (@Xz.eq_7)) (@zx.eq_1)) (zJJ (@zx.eq_2) (zJJ (@zx.eq_3) (@zx.eq_4)))) (zJJ (zJJ (@zx.eq_5) (@zx.eq_6)) (zJJ (@zx.eq_7) (zJJ (@idxs.eq_1) (@idxs.eq_2))))))))) (zJJ (zJJ (zJJ (zJJ (zJJ (zJJ (zJJ (zJJ (@idxs.eq_3) (@idxs.eq_4)) (@pv.eq_1)) (zJJ (@pv.eq_2) (@pv.eq_3))) (zJJ (zJJ (@pv.eq_4) (@pv.eq_5)) (zJJ (@pv.eq_6) (zJJ (@pv.eq_7) (@pv.eq_8))))) (zJJ (zJJ (zJJ (@pv.eq_9) (@pv.eq_10)) (zJJ (@pv.eq_11) (zJJ (@pv.eq_12) (@pv.eq_13)))) (zJJ (zJJ (@pv.eq_14) (@pv.eq_15)) (zJJ (zJJ (@pv.eq_16) (zJJ (@pv.eq_17) (@pv.eq_18))) (zJJ (@XX.eq_1) (@Ya.eq_1)))))) (zJJ (zJJ (zJJ (zJJ (@XJ.eq_1) (@XJ.eq_2)) (zJJ (@XJ.eq_3) (@XJ.eq_4))) (zJJ (zJJ (@Xb.eq_1) (@Xu.eq_1)) (zJJ (@oBin.eq_1) (zJJ (@oUn.eq_1) (zJJ (@oUn.eq_2) (@oUn.eq_3)))))) (zJJ (zJJ (zJJ (@Ye.eq_1) (@XW.eq_1)) (zJJ (@XW.eq_2) (zJJ (@XW.eq_3) (@Xw.eq_1)))) (zJJ (zJJ (@Xx.eq_1) (@Xh.eq_1)) (zJJ (@Xk.eq_1) (zJJ (@XY.eq_1) (@XY.eq_2))))))) (zJJ (zJJ (zJJ (zJJ (zJJ (@XS.eq_1) (@Fw.eq_1)) (zJJ (@Fw.eq_2) (@Fw.eq_3))) (zJJ (zJJ (@lO.eq_1) (@lO.eq_2)) (zJJ (@lO.eq_3) (zJJ (@lO.eq_4) (@Yh.eq_1))))) (zJJ (zJJ (zJJ (@Yh.eq_2) (@Yh.eq_3)) (zJJ (@Yh.eq_4) (zJJ (@ev.eq_1) (@ev.eq_2)))) (zJJ (zJJ (@ev.eq_3) (@ev.eq_4)) (zJJ (@lk.eq_1) (zJJ (@lk.eq_2) (@put.eq_1)))))) (zJJ (zJJ (zJJ (zJJ (@put.eq_2) (@fits.eq_1)) (zJJ (@fits.eq_2) (@kd.eq_1))) (zJJ (zJJ (@sz.eq_1) (@bin.eq_1)) (zJJ (@bin.eq_2) (zJJ (@bin.eq_3) (@mg.eq_1))))) (zJJ (zJJ (zJJ (@mg.eq_2) (@mg.eq_3)) (zJJ (@mg.eq_4) (zJJ (@mg.eq_5) (@mg.eq_6)))) (zJJ (zJJ (@mg.eq_7) (@mg.eq_8)) (zJJ (@mg.eq_9) (zJJ (@mg.eq_10) (@mg.eq_11)))))))) (zJJ (zJJ (zJJ (zJJ (zJJ (zJJ (@mg.eq_12) (@mg.eq_13)) (zJJ (@mg.eq_14) (@mg.eq_15))) (zJJ (zJJ (@mg.eq_16) (@mg.eq_17)) (zJJ (@wJ.eq_1) (zJJ (@wJ.eq_2) (@wJ.eq_3))))) (zJJ (zJJ (zJJ (@wJ.eq_4) (@wJ.eq_5)) (zJJ (@wJ.eq_6) (zJJ (@wJ.eq_7) (@wJ.eq_8)))) (zJJ (zJJ (@zy.eq_1) (@ar.eq_1)) (zJJ (@ar.eq_2) (zJJ (@DI.eq_1) (@DI.eq_2)))))) (zJJ (zJJ (zJJ (zJJ (@DI.eq_3) (@DI.eq_4)) (zJJ (@DI.eq_5) (@DI.eq_6))) (zJJ (zJJ (@DI.eq_7) (@DI.eq_8)) (zJJ (@eqS.eq_1) (zJJ (@eqS.eq_2) (@BS.eq_1))))) (zJJ (zJJ (zJJ (@BS.eq_2) (@BS.eq_3)) (zJJ (@BS.eq_4) (zJJ (@BS.eq_5) (@BS.eqF.eq_1)))) (zJJ (zJJ (@BS.eqF.eq_2) (@Df.eq_1)) (zJJ (@Df.eq_2) (zJJ (@Df.eq_3) (@vz.eq_1))))))) (zJJ (zJJ (zJJ (zJJ (zJJ (@vz.eq_2) (@vz.eq_3)) (zJJ (@vz.eq_4) (@vz.eq_5))) (zJJ (zJJ (@oO.eq_1) (@oO.eq_2)) (zJJ (@XM.eq_1) (zJJ (@cells.eq_1) (@cells.eq_2))))) (zJJ (zJJ (zJJ (@HH.eq_1) (@HH.eq_2)) (zJJ (@one.eq_1) (zJJ (@one.eq_2) (@one.eq_3)))) (zJJ (zJJ (@one.eq_4) (@Xs.eq_1)) (zJJ (@iH.eq_1) (zJJ (@tP.eq_1) (@XZ.eq_1)))))) (zJJ (zJJ (zJJ (zJJ (@XZ.eq_2) (@Yf.eq_1)) (zJJ (@Yf.eq_2) (@Xl.eq_1))) (zJJ (zJJ (@Xl.eq_2) (@XT.eq_1)) (zJJ (@XT.eq_2) (zJJ (@Fi.eq_1) (@Fi.eq_2))))) (zJJ (zJJ (zJJ (@qV.eq_1) (@qV.eq_2)) (zJJ (@ofV.eq_1) (zJJ (@ofV.eq_2) (@ofV.eq_3)))) (zJJ (zJJ (@ofV.eq_4) (@ofV.eq_5)) (zJJ (@ofV.eq_6) (zJJ (@Yj.eq_1) (@Yj.eq_2))))))))))))))
end Vc
namespace Go.Proofs.YteipdaijbncgeaaGreatDoor
open Go Vc Go.RowKit Wf
open Go.ChangeShapes Go.WideShapes Go.ChangeAt
open Go.WideMaps Go.WideElems
open Go.ChangeMaps (setBlock shut_map_nil open_string shut_string keptBut_setBlock frozen?_setBlock heap_setBlock_same)
theorem env_of {W:World}(h:W.ShapedOpen Tryz.prog):Env W :=
 Go.Proofs.cell_of_shapedOpen_int (zero:=#[.int .i64 0]) (t:=3) h (of_decide_eq_true (by kernel_rfl)) (by kernel_rfl) rfl (by kernel_rfl) (by kernel_rfl) Tryz.underlying3
theorem own:ownKnob Tryz.prog.godebug=none:=by kernel_rfl
theorem laidOut:laidOutB Tryz.prog=true:=by kernel_rfl
section
variable {H:Type} {enc:TypeId × Value→H} {W W':World}
theorem oq {P:Program}(hl:laidOutB P=true){B:Nat}:∀ {ts:List TypeId}{vs:List Value}{ds:List (DataW H)}{ps:List MemPlace},ts.all (fun t=>P.readableRec t&&decide (t<P.types.size))=true →
 DataW.TrodAll enc P W 0 (fun _=>true) true ts vs ds ps→(∀ p∈ps,W.sameAt W' p)→(∀ p∈ps,p.block<B)→DataW.TrodAll enc P W' 0 (fun b=>decide (b<B)) true ts vs ds ps
 | [],[],[],ps,_,h,_,_=>h
 | t::ts,v::vs,d::ds,ps,hr,h,hs,hb=>by
   obtain⟨p,q,h1,h2,rfl⟩:=h
   simp only[List.all_cons,zJL,decide_eq_true_eq]at hr
   exact⟨p,q,Trod_stays hl hr.1.1 hr.1.2 h1 (fun x hx=>hs x (zKr _ hx)) (fun x hx=>by simpa using hb x (zKr _ hx)),oq hl hr.2 h2 (fun x hx=>hs x (List.mem_append_right _ hx)) (fun x hx=>hb x (List.mem_append_right _ hx)),rfl⟩
 | [],_::_,_,_,_,h,_,_=>by cases h
 | [],[],_::_,_,_,h,_,_=>by cases h
 | _::_,[],_,_,_,h,_,_=>by cases h
 | _::_,_::_,[],_,_,h,_,_=>by cases h
theorem Hz {P:Program}{fn:Func}{s:ChangeSpec}{args:Array Value}{ds gs:List (DataW H)}{before:List MemPlace}{tb:TypeId}(hl:laidOutB P=true)
 (hpar:fn.params.toList.all (fun t=>P.readableRec t&&decide (t<P.types.size))=true) (hv:s.vars=[]) (hr:fn.resultTypes=#[tb]) (htb:P.underlying tb=some .bool)
 (hgs:gs=[]) (kB:(s.fn H ds).results=[.lit (.bool true)]) (hN:(s.fn H ds).args=ds) (hvs:(s.fn H ds).vars=[])
 (hW:DataW.Whole enc P fn.params.toList s.vars false W args.toList ds gs before) (bel:Below W.heap.size W W'):s.post enc P fn false true false false W args (.bool true) W':=by
 have aC:=hW.lt
 have hW':=hW
 obtain⟨p,q,hA,hV,hb,-,-⟩:=hW
 subst hgs
 rw[hv]at hV
 obtain⟨-,rfl⟩:=trodVars_none hV
 subst hb
 refine⟨ds,[],_,[],p,[],hW',?_,?_,?_,bel.frame _,fun h=>by cases h⟩
 ·rw[zKc,kB,hr]
  exact trodAll_mk1 (shut_bool htb _)
 ·rw[zKc,hN]
  exact oq hl hpar hA (fun x hx=>bel.same (aC x (zKr _ hx))) (fun x hx=>aC x (zKr _ hx))
 ·rw[zKc,hvs,hv]
  rfl
end
def flatD:Nat→DataW Unit→List Value
 | _,.lit (.int k i)=>[.int k i]
 | n+1,.agg ps=>ps.flatMap (flatD n)
 | _,_=>[]
def setCells (d:DataW Unit):Obj→Obj
 | .cells _ t fr=>.cells (flatD 8 d).toArray t fr
 | o=>o
noncomputable def xA (os:Os):World :=
 { World.holding Tryz.prog os ⟨#[],#[],[]⟩ with heap:=((World.holding Tryz.prog os ⟨#[],#[],[]⟩).heap.modify 1 (setCells Go.Pinned.utf8First)).modify 2 (setCells Rows.laid_unicode_utf8_acceptRanges) }
set_option maxRecDepth 100000 in
theorem HD (os : Os) (args : Array Value) : laidMet Tryz.prog [("unicode/utf8.acceptRanges", Rows.laid_unicode_utf8_acceptRanges), ("unicode/utf8.first", Rows.laid_unicode_utf8_first)] ((xA os).forCall (fun _ _ => 0) ⟨#[], args, []⟩).memory :=
 laidMet_of_run3 8 (by kernel_rfl) (by kernel_rfl) (by kernel_rfl)
open Go in
theorem G6:true=Tryz.pinned.checked.prog.looks []:=by kernel_rfl
open Go Go.RowKit
set_option maxRecDepth 100000
theorem pf_maps:mapsRowed Tryz.pinned.checked.prog=true:=by kernel_rfl
theorem pf_stops:(Tryz.pinned.checked.prog.stops==[])=true:=by kernel_rfl
theorem pf_knobs:(Tryz.pinned.checked.prog.stopKnobs==[])=true:=by kernel_rfl
theorem pf_keys:(Rows.cacheSoundRow.plainKeys==Tryz.pinned.checked.prog.plainKeys)=true:=by kernel_rfl
theorem pf_heard:Tryz.pinned.checked.prog.stopsHeard=true:=by kernel_rfl
theorem pf_may:Tryz.pinned.checked.prog.mayEnter=true:=by kernel_rfl
theorem pf_lifts:(Rows.cacheSoundRow.lifted==Tryz.pinned.checked.prog.liftsFinal)=true:=by kernel_rfl
theorem pf_make:(Tryz.pinned.checked.prog.make==some Rows.cacheSoundRow.make)=true:=by kernel_rfl
theorem and4 {a b c d:Bool}(h:(a&&b&&c&&d)=true):(a=true∧b=true)∧c=true∧d=true:=by
 simp only[zJL]at h
 exact⟨⟨h.1.1.1,h.1.1.2⟩,h.1.2,h.2⟩
end Go.Proofs.YteipdaijbncgeaaGreatDoor
namespace Vc
open Go Go.RowKit Wf
theorem mJ.mono {own own':Nat→Prop}{w w':World}(h:mJ own w w')(k:∀ b,own b→own' b):mJ own' w w' :=
 ⟨h.os,h.tape,h.output,h.size,fun b hb hn=>h.block b hb (fun e=>hn (k b e))⟩
def rS (TB TU:TypeId)(l:List UInt8):Rsc where
 holds t fp w:=t.off=0∧∃ (p:Value) (t2:Bt) (f2:Nat→Prop),(p=.pointer none∨p=.pointer (some ⟨t.cK,0,none⟩)) ∧
  (∃ fz,Head w t.cK TB [p,oV t2 l.length] [] fz)∧Holds kH t2 f2 w (.own (l.map da) TU 1 l.length true)∧¬ f2 t.cK∧∀ k,fp k↔k=t.cK∨f2 k
 stays b fp w w':=by
  rintro⟨h0,p,t2,f2,hp,⟨fz,h1,h2⟩,h3,h4,h5⟩ hk
  exact⟨h0,p,t2,f2,hp,⟨fz,(hk _ ((h5 _).2 (.inl rfl))).trans h1,h2⟩,h3.stays (fun k hf=>hk k ((h5 k).2 (.inr hf))),h4,h5⟩
theorem u8_conc (l:List UInt8)(β β':Nat→Bt):(l.map da).map (ah β)=(l.map da).map (ah β'):=by
 simp[da,ah]
theorem Bw {β β':Nat→Bt}{t:Bt}{f:Nat→Prop}{w:World}{l:List UInt8}{TU:TypeId}{n:Nat}{m:Bool}(h:Holds β t f w (.own (l.map da) TU 1 n m)):Holds β' t f w (.own (l.map da) TU 1 n m):=by
 simp only[Holds]at h ⊢
 rw[u8_conc l β' β]
 exact h
theorem D6 {b1 b2:Nat→Bt}{t t':Bt}{fq fq':Nat→Prop}{w w':World}{r:aw}(h1:Holds b1 t fq w r)(h2:Holds b2 t fq w r)(h:Holds b1 t' fq' w' r):Holds b2 t' fq' w' r:=by
 cases r with
 | cells c T m =>
   obtain⟨-,⟨r1,f1,d1,rfl⟩,-⟩:=h1
   obtain⟨-,⟨r2,f2,d2,rfl⟩,-⟩:=h2
   have e:=qb (by simp) d1.sS d2.sS
   simp only[Holds]at h ⊢
   rw[← e];exact h
 | own c e s n m =>
   rcases h1 with⟨-,-,rfl,-⟩|⟨-,-,-,-,l1,-⟩
   ·simpa[Holds] using h
   ·rcases h2 with⟨-,-,rfl,-⟩|⟨-,-,-,-,l2,-⟩
    ·simpa[Holds] using h
    ·have e:=qb (by simp) l1 l2
     simp only[Holds]at h ⊢
     rw[← e];exact h
 | ext R=>exact h
 | gone=>exact h
variable {V:Cx} {f:FuncId} {args:List SV} {bs:List aw} {R:SV→List aw→Prop}
theorem sc_weak {i:Nat}{r0 r1:aw}(hi:bs[i]? = some r0)(hm:r1.cC=true→r0.cC=true)(hv:∀ (β:Nat→Bt)(fp:Nat→Nat→Prop)(w:World),Holds β (β i) (fp i) w r0→Holds β (β i) (fp i) w r1)(h:SC V f args (bs.set i r1) R):SC V f args bs R:=by
 refine⟨h.1,fun β fp w gC hG hE=>?_⟩
 have eF:i<bs.length:=(zJK.1 hi).1
 have old:∀ {j r'},(bs.set i r1)[j]? = some r'→∃ r,bs[j]? = some r∧(r'.cC=true→r.cC=true)∧(j≠i∧r'=r∨j=i∧r'=r1):=fun {j r'} hj=>by
  by_cases lR:j=i
  ·subst lR
   rw[zJZ eF]at hj
   obtain rfl:=zJY.inj hj
   exact⟨r0,hi,hm,.inr ⟨rfl,rfl⟩⟩
  ·rw[zJT (fun e=>lR e.symm)]at hj
   exact⟨r',hj,id,.inl ⟨lR,rfl⟩⟩
 refine(h.2 β fp w (fun β' hβ=>?_) (fun j r hj hjm k hk=>?_) hE).mono ?_
 ·rw[zKa]at hβ
  have hb:=gC β' hβ
  refine⟨fun j r' hj=>?_,fun j r' hj k hk=>?_,fun j l a b hj hl bp iY=>?_⟩
  ·obtain⟨r,hr,-,⟨-,rfl⟩|⟨rfl,rfl⟩⟩:=old hj
   ·exact hb.holds j _ hr
   ·exact hv β' fp w (hb.holds _ _ hi)
  ·obtain⟨r,hr,-⟩:=old hj
   exact hb.lt j r hr k hk
  ·obtain⟨r,hr,e,-⟩:=old hj
   obtain⟨r',hr',e',-⟩:=old hl
   exact hb.sep j l r r' hr hr' bp (iY.imp e e')
 ·obtain⟨r,hr,e,-⟩:=old hj
  exact hG j r hr (e hjm) k hk
 ·rintro e w' ⟨r,bs',β₂,fp₂,hR,FP,hlen,aP,jM,qm,qp⟩
  rw[zKa]at FP hlen
  refine⟨r,bs',β₂,fp₂,hR,FP,hlen,aP,jM.mono ?_,fun j r' hj hjm k hk=>?_,fun j r' hj k hk=>?_⟩
  ·rintro k ⟨j,r',hj,hjm,hk⟩
   obtain⟨r,hr,e,-⟩:=old hj
   exact⟨j,r,hr,e hjm,hk⟩
  ·rcases qm j r' hj hjm k hk with h1|⟨j2,r2,ij,hm2,fQ⟩
   ·exact .inl h1
   ·obtain⟨r,hr,e,-⟩:=old ij
    exact .inr ⟨j2,r,hr,e hm2,fQ⟩
  ·rcases qp j r' hj k hk with h1|⟨j2,r2,ij,fQ⟩
   ·exact .inl h1
   ·obtain⟨r,hr,-⟩:=old ij
    exact .inr ⟨j2,r,hr,fQ⟩
theorem sc_view {i:Nat}{r0 r1:aw}(hi:bs[i]? = some r0)(hm:r1.cC=r0.cC)(hv:∀ (β:Nat→Bt)(fp:Nat→Nat→Prop)(w:World),Holds β (β i) (fp i) w r0→Holds β (β i) (fp i) w r1)(h:SC V f args (bs.set i r1) R):SC V f args bs R:=sc_weak hi (fun e=>hm ▸ e) hv h
def Dim (b b2:List aw):Prop:=b2.length=b.length∧∀ (i:Nat) (r:aw),b2[i]? = some r→b[i]? = some r∨∃ (c:List SV) (e s n:Nat) (m:Bool),b[i]? = some (aw.own c e s n m)∧r=aw.own c e s n false
theorem Dim.refl (b:List aw):Dim b b:=⟨rfl,fun _ _ h=>.inl h⟩
theorem Dim.one {b:List aw}{i:Nat}{c:List SV}{e s n:Nat}{m:Bool}(hi:b[i]? = some (.own c e s n m)):Dim b (b.set i (.own c e s n false)):=⟨by simp,fun j r hj=>by
 by_cases lR:j=i
 ·subst lR
  rw[zJZ (zJK.1 hi).1]at hj
  exact .inr ⟨c,e,s,n,m,hi,(zJY.inj hj).symm⟩
 ·rw[zJT (fun e=>lR e.symm)]at hj
  exact .inl hj⟩
theorem Dim.trans {a b c:List aw}(h:Dim a b)(k:Dim b c):Dim a c:=⟨k.1.trans h.1,fun i r hi=>by
 rcases k.2 i r hi with h1|⟨c,e,s,n,m,h1,rfl⟩
 ·exact h.2 i r h1
 ·rcases h.2 i _ h1 with h2|⟨c',e',s',n',m',h2,h3⟩
  ·exact .inr ⟨c,e,s,n,m,h2,rfl⟩
  ·cases h3
   exact .inr ⟨_,_,_,_,m',h2,rfl⟩⟩
theorem Ai {i TB TU:Nat}(hi:bs[i]? = some (.cells [.v (.pointer none),.aI] TB true))(h:SC V f args (bs.set i (.ext (rS TB TU []))) R):SC V f args bs R:=by
 refine sc_view (r1:=.ext (rS TB TU [])) hi rfl (fun β fp w hh=>?_) h
 obtain⟨h0,⟨rest,fz,hd,rfl⟩,h3⟩:=hh
 refine⟨h0,Value.pointer none,⟨0,0,0⟩,fun _=>False,.inl rfl,⟨fz,?_⟩,holds_nil,not_false,fun k=>(h3 k).trans ⟨.inl,fun h=>h.elim id False.elim⟩⟩
 simpa[ah,oV,mA] using hd
theorem sc_open {i TB TU:Nat}{l:List UInt8}(hi:bs[i]? = some (.ext (rS TB TU l))){R':SV→List aw→Prop}
 (h:∀ x,(x=.v (.pointer none)∨x=.p i 0)→SC V f args (bs.set i (.cells [x,.o bs.length l.length] TB true)++[.own (l.map da) TU 1 l.length true]) R')
 (hR:∀ r bs',R' r bs'→∃ x j l',flat r=true∧(x=.v (.pointer none)∨x=.p i 0)∧R r (bs.set i (.ext (rS TB TU l')))∧bs'[i]? = some (.cells [x,.o j l'.length] TB true)∧bs'[j]? = some (.own (l'.map da) TU 1 l'.length true) ∧
   bs.length≤j∧∀ k,k<bs.length→k≠i→bs'[k]? = bs[k]?)
 (hN:within.aS bs.length args=true):SC V f args bs R:=by
 have eF:i<bs.length:=(zJK.1 hi).1
 refine⟨(h _ (.inl rfl)).1,fun β fp w gC hG hE=>?_⟩
 have fB:=gC β (bC.refl _ _)
 obtain⟨h0,p,t2,f2,hp,⟨fz,hd⟩,eV,xI,rD⟩:=fB.holds i _ hi
 obtain⟨x,hx,hxc⟩:∃ x:SV,(x=.v (.pointer none)∨x=.p i 0)∧∀ β',bC bs.length β β'→ah β' x=p:=by
  rcases hp with rfl|rfl
  ·exact⟨_,.inl rfl,fun _ _=>rfl⟩
  ·exact⟨_,.inr rfl,fun β' hβ=>by simp only[ah];rw[← hβ i eF,h0]⟩
 let β₁:=nO β bs.length t2
 let fp₁:Nat→Nat→Prop:=fun j k=>if j=i then k=(β i).cK else if j=bs.length then f2 k else fp j k
 have agr1:∀ {β'},bC (bs.length+1) β₁ β'→bC bs.length β β':=fun {β'} hβ j hj=>by
  rw[← hβ j (by omega)];simp only[β₁,nO];rw[if_neg (by omega)]
 have at1:∀ {β'},bC (bs.length+1) β₁ β'→β' bs.length=t2:=fun {β'} hβ=>by
  rw[← hβ bs.length (by omega)];simp[β₁,nO]
 have old:∀ {j r'},(bs.set i (.cells [x,.o bs.length l.length] TB true)++[.own (l.map da) TU 1 l.length true])[j]? = some r' →
  (j=i∧r'=.cells [x,.o bs.length l.length] TB true)∨(j=bs.length∧r'=.own (l.map da) TU 1 l.length true)∨(j<bs.length∧j≠i∧bs[j]? = some r'):=fun {j r'} hj=>by
  have mG:j<bs.length+1:=by
   have:=(zJK.1 hj).1
   simpa using this
  by_cases hjm:j=bs.length
  ·subst hjm
   rw[zJS (by simp)]at hj
   simp at hj
   exact .inr (.inl ⟨rfl,hj.symm⟩)
  ·rw[zJM (by simp;omega)]at hj
   by_cases lR:j=i
   ·subst lR
    rw[zJZ eF]at hj
    exact .inl ⟨rfl,(zJY.inj hj).symm⟩
   ·rw[zJT (fun e=>lR e.symm)]at hj
    exact .inr (.inr ⟨by omega,lR,hj⟩)
 have in1:∀ {j r'},(bs.set i (.cells [x,.o bs.length l.length] TB true)++[.own (l.map da) TU 1 l.length true])[j]? = some r'→r'.cC=true→∀ k,fp₁ j k→∃ j2 r2,bs[j2]? = some r2∧r2.cC=true∧fp j2 k:=fun {j r'} hj hm k hk=>by
  rcases old hj with⟨rfl,rfl⟩|⟨rfl,rfl⟩|⟨qN,ij,BC⟩
  ·refine⟨j,_,hi,rfl,(rD k).2 (.inl ?_)⟩
   simpa[fp₁] using hk
  ·refine⟨i,_,hi,rfl,(rD k).2 (.inr ?_)⟩
   simpa[fp₁,zKg eF] using hk
  ·exact⟨j,r',BC,hm,by simpa[fp₁,ij,zKe qN] using hk⟩
 have inF:∀ {j r'},(bs.set i (.cells [x,.o bs.length l.length] TB true)++[.own (l.map da) TU 1 l.length true])[j]? = some r'→∀ k,fp₁ j k→∃ j2 r2,bs[j2]? = some r2∧fp j2 k:=fun {j r'} hj k hk=>by
  rcases old hj with⟨rfl,rfl⟩|⟨rfl,rfl⟩|⟨qN,ij,BC⟩
  ·refine⟨j,_,hi,(rD k).2 (.inl ?_)⟩
   simpa[fp₁] using hk
  ·refine⟨i,_,hi,(rD k).2 (.inr ?_)⟩
   simpa[fp₁,zKg eF] using hk
  ·exact⟨j,r',BC,by simpa[fp₁,ij,zKe qN] using hk⟩
 have ea:aJ β args=aJ β₁ args:=ax bs.length args hN β β₁ (fun j hj=>by simp only[β₁,nO];rw[if_neg (by omega)])
 rw[ea]
 refine((h x hx).2 β₁ fp₁ w (fun β' hβ=>?_) (fun j r hj hm k hk=>?_) hE).mono ?_
 ·have hβq:bC (bs.length+1) β₁ β':=by simpa using hβ
  clear hβ
  have hb:=gC β' (agr1 hβq)
  have pg:β' i=β i:=(agr1 hβq i eF).symm
  refine⟨fun j r' hj=>?_,fun j r' hj k hk=>?_,fun j q a b hj hq bp iY k hk fQ=>?_⟩
  ·rcases old hj with⟨rfl,rfl⟩|⟨rfl,rfl⟩|⟨qN,ij,BC⟩
   ·refine⟨by rw[pg];exact h0,⟨[],fz,?_,rfl⟩,fun k=>by simp[fp₁,pg]⟩
    rw[pg]
    simpa[hxc β' (agr1 hβq),ah,at1 hβq] using hd
   ·rw[at1 hβq]
    have e:fp₁ bs.length=f2:=by funext k;simp[fp₁,zKg eF]
    rw[e]
    exact Bw eV
   ·have e:fp₁ j=fp j:=by funext k;simp[fp₁,ij,zKe qN]
    rw[e]
    exact hb.holds j _ BC
  ·rcases old hj with⟨rfl,rfl⟩|⟨rfl,rfl⟩|⟨qN,ij,BC⟩
   ·exact hb.lt j _ hi k ((rD k).2 (.inl (by simpa[fp₁] using hk)))
   ·exact hb.lt i _ hi k ((rD k).2 (.inr (by simpa[fp₁,zKg eF] using hk)))
   ·exact hb.lt j _ BC k (by simpa[fp₁,ij,zKe qN] using hk)
  ·rcases old hj with⟨rfl,rfl⟩|⟨rfl,rfl⟩|⟨qN,ij,BC⟩ <;> rcases old hq with⟨rfl,rfl⟩|⟨rfl,rfl⟩|⟨ct,rA,lQ⟩
   ·exact bp rfl
   ·have e1:k=(β j).cK:=by simpa[fp₁] using hk
    have e2:f2 k:=by simpa[fp₁,zKg eF] using fQ
    exact xI (e1 ▸ e2)
   ·have e1:k=(β j).cK:=by simpa[fp₁] using hk
    have e2:fp q k:=by simpa[fp₁,rA,zKe ct] using fQ
    exact hb.sep j q _ _ hi lQ bp (.inl rfl) k ((rD k).2 (.inl e1)) e2
   ·have e2:k=(β q).cK:=by simpa[fp₁] using fQ
    have e1:f2 k:=by simpa[fp₁,zKg eF] using hk
    exact xI (e2 ▸ e1)
   ·exact bp rfl
   ·have e1:f2 k:=by simpa[fp₁,zKg eF] using hk
    have e2:fp q k:=by simpa[fp₁,rA,zKe ct] using fQ
    exact hb.sep i q _ _ hi lQ (fun e=>rA e.symm) (.inl rfl) k ((rD k).2 (.inr e1)) e2
   ·have e1:k=(β q).cK:=by simpa[fp₁] using fQ
    have e2:fp j k:=by simpa[fp₁,ij,zKe qN] using hk
    exact hb.sep q j _ _ hi BC (fun e=>bp e.symm) (.inl rfl) k ((rD k).2 (.inl e1)) e2
   ·have e1:f2 k:=by simpa[fp₁,zKg eF] using fQ
    have e2:fp j k:=by simpa[fp₁,ij,zKe qN] using hk
    exact hb.sep i j _ _ hi BC (fun e=>ij e.symm) (.inl rfl) k ((rD k).2 (.inr e1)) e2
   ·exact hb.sep j q _ _ BC lQ bp iY k (by simpa[fp₁,ij,zKe qN] using hk) (by simpa[fp₁,rA,zKe ct] using fQ)
 ·obtain⟨j2,r2,h1,h2,h3⟩:=in1 hj hm k hk
  exact hG j2 r2 h1 h2 k h3
 ·rintro e w' ⟨r,bs',β₂,fp₂,hR',FP,hlen,aP,jM,qm,qp⟩
  have FP:bC (bs.length+1) β₁ β₂:=by simpa using FP
  have hlen:bs.length+1≤bs'.length:=by simpa using hlen
  obtain⟨x',j,l',mH,hx',hRr,pg,Gr,hjm,hoth⟩:=hR r bs' hR'
  have mG:j<bs'.length:=(zJK.1 Gr).1
  have hag2:bC bs.length β β₂:=agr1 FP
  let fp₃:Nat→Nat→Prop:=fun q k=>if q=i then fp₂ i k∨fp₂ j k else fp₂ q k
  have lift:∀ {β'},bC bs.length β₂ β'→∃ β'',bC bs'.length β₂ β''∧bC bs.length β'' β':=fun {β'} hβ =>
   ⟨β₂,bC.refl _ _,hβ⟩
  have old2:∀ {q r'},(bs.set i (.ext (rS TB TU l')))[q]? = some r'→(q=i∧r'=.ext (rS TB TU l'))∨(q<bs.length∧q≠i∧bs[q]? = some r'∧bs'[q]? = some r'):=fun {q r'} hq=>by
   by_cases Gk:q=i
   ·subst Gk
    rw[zJZ eF]at hq
    exact .inl ⟨rfl,(zJY.inj hq).symm⟩
   ·rw[zJT (fun e=>Gk e.symm)]at hq
    have pb:q<bs.length:=(zJK.1 hq).1
    exact .inr ⟨pb,Gk,hq,(hoth q pb Gk).trans hq⟩
  refine⟨r,bs.set i (.ext (rS TB TU l')),β₂,fp₃,hRr,hag2,by simp,fun β' hβ=>?_,jM.mono ?_,fun q r' hq hqm k hk=>?_,fun q r' hq k hk=>?_⟩
  ·rw[zKa]at hβ
   -- the things of the caller are read at any β' that agrees on them
   let β'':Nat→Bt:=fun q=>if q<bs.length then β' q else β₂ q
   have hβ2:bC bs'.length β₂ β'':=fun q hq=>by
    show _=if _ then _ else _
    split
    ·rename_i aC;exact hβ q aC
    ·rfl
   obtain⟨he,hb⟩:=aP β'' hβ2
   refine⟨by rw[he,fJ r mH β'' β'],?_⟩
   have hbi':β'' i=β₂ i:=(hβ2 i (by omega)).symm
   have Ix:β' i=β₂ i:=(hβ i eF).symm
   refine⟨fun q r' hq=>?_,fun q r' hq k hk=>?_,fun q s a b hq hs bp iY k hk fQ=>?_⟩
   ·rcases old2 hq with⟨rfl,rfl⟩|⟨h1,h2,h3,h4⟩
    ·obtain⟨k0,⟨rest,fz',hd',rfl⟩,k3⟩:=hb.holds _ _ pg
     have hrow':=hb.holds _ _ Gr
     refine⟨by rw[Ix,← hbi'];exact k0,ah β'' x',β'' j,fp₂ j,?_,⟨fz',?_⟩,Bw hrow',?_,fun k=>?_⟩
     ·rcases hx' with rfl|rfl
      ·exact .inl rfl
      ·right
       simp only[ah]
       rw[k0,hbi',Ix]
     ·rw[Ix,← hbi']
      simpa[ah] using hd'
     ·intro hc
      have:fp₂ q (β'' q).cK:=(k3 _).2 rfl
      rw[Ix,← hbi']at hc
      exact hb.sep q j _ _ pg Gr (by omega) (.inl rfl) _ this hc
     ·show (if _ then _ else _)↔_
      rw[if_pos rfl,k3 k,hbi',Ix]
    ·have e:fp₃ q=fp₂ q:=by funext k;show (if _ then _ else _)=_;rw[if_neg h2]
     rw[e]
     have e2:β' q=β'' q:=by show _=if _ then _ else _;rw[if_pos h1]
     have:=hb.holds _ _ h4
     rw[e2]
     -- what it holds of cells looks at β'' alone through the things of the caller
     have hA:bC bs.length β β':=fun q hq=>(hag2 q hq).trans (hβ q hq)
     have hA2:bC bs.length β β'':=fun q hq=>(hag2 q hq).trans (hβ2 q (by omega))
     have u1:=(gC β'' hA2).holds q _ h3
     have u2:=(gC β' hA).holds q _ h3
     rw[e2]at u2
     exact D6 u1 u2 this
   ·rcases old2 hq with⟨rfl,rfl⟩|⟨h1,h2,h3,h4⟩
    ·have hk:fp₂ q k∨fp₂ j k:=by simpa[fp₃] using hk
     rcases hk with hk|hk
     ·exact hb.lt _ _ pg k hk
     ·exact hb.lt _ _ Gr k hk
    ·exact hb.lt _ _ h4 k (by simpa[fp₃,h2] using hk)
   ·rcases old2 hq with⟨rfl,rfl⟩|⟨h1,h2,h3,h4⟩ <;> rcases old2 hs with⟨rfl,rfl⟩|⟨g1,g2,g3,g4⟩
    ·exact bp rfl
    ·have fQ:fp₂ s k:=by simpa[fp₃,g2] using fQ
     have hk:fp₂ q k∨fp₂ j k:=by simpa[fp₃] using hk
     rcases hk with hk|hk
     ·exact hb.sep _ _ _ _ pg g4 bp (.inl rfl) k hk fQ
     ·exact hb.sep _ _ _ _ Gr g4 (by omega) (.inl rfl) k hk fQ
    ·have hk:fp₂ q k:=by simpa[fp₃,h2] using hk
     have fQ:fp₂ s k∨fp₂ j k:=by simpa[fp₃] using fQ
     rcases fQ with fQ|fQ
     ·exact hb.sep _ _ _ _ pg h4 (fun e=>bp e.symm) (.inl rfl) k fQ hk
     ·exact hb.sep _ _ _ _ Gr h4 (by omega) (.inl rfl) k fQ hk
    ·exact hb.sep _ _ _ _ h4 g4 bp iY k (by simpa[fp₃,h2] using hk) (by simpa[fp₃,g2] using fQ)
  ·rintro k ⟨j1,r1,qN,Dw,iB⟩
   exact in1 qN Dw k iB
  ·rcases old2 hq with⟨rfl,rfl⟩|⟨h1,h2,h3,h4⟩
   ·have hk:fp₂ q k∨fp₂ j k:=by simpa[fp₃] using hk
    rcases hk with hk|hk
    ·rcases qm _ _ pg rfl k hk with h1|⟨j1,r1,qN,Dw,iB⟩
     ·exact .inl h1
     ·exact .inr (in1 qN Dw k iB)
    ·rcases qm _ _ Gr rfl k hk with h1|⟨j1,r1,qN,Dw,iB⟩
     ·exact .inl h1
     ·exact .inr (in1 qN Dw k iB)
   ·rcases qm _ _ h4 hqm k (by simpa[fp₃,h2] using hk) with h1|⟨j1,r1,qN,Dw,iB⟩
    ·exact .inl h1
    ·exact .inr (in1 qN Dw k iB)
  ·rcases old2 hq with⟨rfl,rfl⟩|⟨h1,h2,h3,h4⟩
   ·have hk:fp₂ q k∨fp₂ j k:=by simpa[fp₃] using hk
    rcases hk with hk|hk
    ·rcases qp _ _ pg k hk with h1|⟨j1,r1,qN,iB⟩
     ·exact .inl h1
     ·exact .inr (inF qN k iB)
    ·rcases qp _ _ Gr k hk with h1|⟨j1,r1,qN,iB⟩
     ·exact .inl h1
     ·exact .inr (inF qN k iB)
   ·rcases qp _ _ h4 k (by simpa[fp₃,h2] using hk) with h1|⟨j1,r1,qN,iB⟩
    ·exact .inl h1
    ·exact .inr (inF qN k iB)
theorem wV {i:Nat}{r0 r1:aw}{r:SV}(hi:bs[i]? = some r0)(hm:r0.cC=true)(jE:Enters V f)(hr:flat r=true)
 (h:∀ (β:Nat→Bt) (fp:Nat→Nat→Prop) (w:World),V.E w→(∀ β',bC bs.length β β'→Holds β' (β' i) (fp i) w r0)→Calls V.P f (aJ β args).toArray w fun e w'=>e=.returned (ah kH r)∧mJ (fp i) w w'∧∃ f1:Nat→Prop,(∀ k,f1 k→fp i k)∧∀ β',bC bs.length β β'→Holds β' (β' i) f1 w' r1) :
 SC V f args bs (fun r' bs'=>r'=r∧bs'=bs.set i r1):=by
 have eF:i<bs.length:=(zJK.1 hi).1
 refine⟨jE,fun β fp w gC hG hE=>?_⟩
 refine(h β fp w hE (fun β' hβ=>(gC β' hβ).holds i _ hi)).mono ?_
 rintro e w' ⟨rfl,jM,f1,zB,hh⟩
 have old:∀ {j r'},(bs.set i r1)[j]? = some r'→(j=i∧r'=r1)∨(j≠i∧bs[j]? = some r'):=fun {j r'} hj=>by
  by_cases lR:j=i
  ·subst lR
   rw[zJZ eF]at hj
   exact .inl ⟨rfl,(zJY.inj hj).symm⟩
  ·rw[zJT (fun e=>lR e.symm)]at hj
   exact .inr ⟨lR,hj⟩
 let fp₂:Nat→Nat→Prop:=fun j k=>if j=i then f1 k else fp j k
 refine⟨r,bs.set i r1,β,fp₂,⟨rfl,rfl⟩,bC.refl _ _,by simp,fun β' hβ=>⟨by rw[fJ r hr kH β'],?_⟩,jM.mono (fun k hk=>⟨i,_,hi,hm,hk⟩),fun j r' hj hjm k hk=>?_,fun j r' hj k hk=>?_⟩
 ·rw[zKa]at hβ
  have hb:=gC β' hβ
  refine⟨fun j r' hj=>?_,fun j r' hj k hk=>?_,fun j l a b hj hl bp iY k hk fQ=>?_⟩
  ·rcases old hj with⟨rfl,rfl⟩|⟨h1,h2⟩
   ·have e:fp₂ j=f1:=by funext k;simp[fp₂]
    rw[e];exact hh β' hβ
   ·have e:fp₂ j=fp j:=by funext k;simp[fp₂,h1]
    rw[e]
    exact(hb.holds j _ h2).stays (fun k hk=>jM.block k (hb.lt j _ h2 k hk) (fun iO=>hb.sep i j _ _ hi h2 (fun e=>h1 e.symm) (.inl hm) k iO hk))
  ·rcases old hj with⟨rfl,rfl⟩|⟨h1,h2⟩
   ·exact zJ1 (hb.lt _ _ hi k (zB k (by simpa[fp₂] using hk))) jM.size
   ·exact zJ1 (hb.lt j _ h2 k (by simpa[fp₂,h1] using hk)) jM.size
  ·rcases old hj with⟨rfl,rfl⟩|⟨h1,h2⟩ <;> rcases old hl with⟨rfl,rfl⟩|⟨g1,g2⟩
   ·exact bp rfl
   ·exact hb.sep _ _ _ _ hi g2 bp (.inl hm) k (zB k (by simpa[fp₂] using hk)) (by simpa[fp₂,g1] using fQ)
   ·exact hb.sep _ _ _ _ hi h2 (fun e=>bp e.symm) (.inl hm) k (zB k (by simpa[fp₂] using fQ)) (by simpa[fp₂,h1] using hk)
   ·exact hb.sep _ _ _ _ h2 g2 bp iY k (by simpa[fp₂,h1] using hk) (by simpa[fp₂,g1] using fQ)
 ·rcases old hj with⟨rfl,rfl⟩|⟨h1,h2⟩
  ·exact .inr ⟨_,_,hi,hm,zB k (by simpa[fp₂] using hk)⟩
  ·exact .inr ⟨j,r',h2,hjm,by simpa[fp₂,h1] using hk⟩
 ·rcases old hj with⟨rfl,rfl⟩|⟨h1,h2⟩
  ·exact .inr ⟨_,_,hi,zB k (by simpa[fp₂] using hk)⟩
  ·exact .inr ⟨j,r',h2,by simpa[fp₂,h1] using hk⟩
theorem SC.mono {R R':SV→List aw→Prop}(h:SC V f args bs R)(k:∀ r bs',R r bs'→R' r bs'):SC V f args bs R':=by
 refine⟨h.1,fun β fp w gC hG hE=>(h.2 β fp w gC hG hE).mono ?_⟩
 rintro e w' ⟨r,bs',β₂,fp₂,hR,h2⟩
 exact⟨r,bs',β₂,fp₂,k _ _ hR,h2⟩
theorem aW (b:List aw)(X:aw):(b++[X])[b.length]? = some X:=by simp
theorem af {b:List aw}{j:Nat}{r:aw}(h:b[j]? = some r)(X:List aw):(b++X)[j]? = some r:=by
 rw[zJM ((zJK.1 h).1)];exact h
def Sl (e s L:Nat)(x:SV)(b:List aw)(c:List SV)(n:Nat):Prop:=(x=.aI∧c=[]∧n=0)∨∃ j,x=.o j n∧L≤j∧b[j]? = some (.own c e s n true)
def Kp (bs b:List aw):Prop:=bs.length≤b.length∧∀ k,k<bs.length→b[k]? = bs[k]?
theorem Kp.refl (bs:List aw):Kp bs bs:=⟨zJW _,fun _ _=>rfl⟩
theorem Kp.trans {a b c:List aw}(h:Kp a b)(k:Kp b c):Kp a c:=⟨zKn h.1 k.1,fun i hi=>(k.2 i (zJ1 hi h.1)).trans (h.2 i hi)⟩
theorem Kp.app {bs b:List aw}(h:Kp bs b)(X:List aw):Kp bs (b++X):=⟨by rw[zJV];have:=h.1;omega,fun k hk=>by rw[zJM (by have:=h.1;omega)];exact h.2 k hk⟩
theorem Kp.set {bs b:List aw}(h:Kp bs b){j:Nat}(hj:bs.length≤j)(X:aw):Kp bs (b.set j X):=⟨by rw[zKa];exact h.1,fun k hk=>by rw[zJT (by omega)];exact h.2 k hk⟩
theorem Kp.at {bs b:List aw}(h:Kp bs b){j:Nat}{r:aw}(hj:bs[j]? = some r):b[j]? = some r:=(h.2 j ((zJK.1 hj).1)).trans hj
theorem Sl.app {e s L:Nat}{x:SV}{b:List aw}{c:List SV}{n:Nat}(h:Sl e s L x b c n)(X:List aw):Sl e s L x (b++X) c n:=by
 rcases h with h|⟨j,h1,h2,h3⟩
 ·exact .inl h
 ·exact .inr ⟨j,h1,h2,af h3 X⟩
theorem dR {α:Type}(b:List α)(X Y:α):(b++[X]).set b.length Y=b++[Y]:=by simp
theorem pD {α:Type}(b:List α)(X Y Z:α):(b++[X]++[Y]).set b.length Z=b++[Z]++[Y]:=by simp
theorem set_prev2 {α:Type}(b:List α)(X Y Z W:α):(b++[X]++[Y]++[W]).set b.length Z=b++[Z]++[Y]++[W]:=by simp
theorem qI {α:Type}(b:List α)(X Y:α):(b++[X]++[Y])[b.length]? = some X:=by simp
theorem qH {α:Type}(b:List α)(X Y Z:α):(b++[X]++[Y]++[Z])[b.length]? = some X:=by simp
theorem at_prev3 {α:Type}(b:List α)(X Y Z W:α):(b++[X]++[Y]++[Z]++[W])[b.length]? = some X:=by simp
theorem at_prev4 {α:Type}(b:List α)(X Y Z W U:α):(b++[X]++[Y]++[Z]++[W]++[U])[b.length]? = some X:=by simp
def Dj:=zJJ (zJJ (@aW) (zJJ (@qI) (@qH))) (zJJ (zJJ (@at_prev3) (@at_prev4)) (zJJ (@dR) (zJJ (@pD) (@set_prev2))))
end Vc
namespace Go.Proofs.YteipdaijbncgeaaGreatDoor
open Go Vc Go.RowKit Wf
open Go.ChangeShapes Go.WideShapes Go.ChangeAt
open Go.WideMaps Go.WideElems
theorem Ho {w:World}{b off:Nat}{xs ys:List Value}(h1:mF w b off xs)(h2:mF w b (off+xs.length) ys):mF w b off (xs++ys):=fun j v hv=>by
 rcases zKb j xs.length with h|h
 ·rw[zJM h]at hv
  exact h1 j v hv
 ·rw[zJS h]at hv
  have:=h2 (j - xs.length) v hv
  rwa [show off+xs.length+(j - xs.length)=off+j by omega]at this
theorem ry {ρ:Type}{w:World}{b s:Nat}(vs:ρ→List Value):∀ (L:List ρ)(off:Nat),(∀ r∈L,(vs r).length=s)→(∀ (i:Nat) (r:ρ),L[i]? = some r→mF w b (off+i * s) (vs r))→mF w b off (L.flatMap vs)
 | [],_,_,_=>fun j v hv=>by simp at hv
 | r::L,off,hs,h=>by
   rw[List.flatMap_cons]
   refine Ho (by simpa using h 0 r rfl) (ry vs L _ (fun q hq=>hs q (zKi _ hq)) (fun i q hq=>?_))
   have:=h (i+1) q hq
   rw[hs r zJ8]
   rwa [show off+s+i * s=off+(i+1) * s by rw[Nat.add_mul];omega]
theorem rJ {ρ:Type}{s:Nat}(vs:ρ→List SV):∀ (L:List ρ),(∀ r∈L,(vs r).length=s)→(L.flatMap vs).length=L.length * s
 | [],_=>by simp
 | r::L,hs=>by
   rw[List.flatMap_cons,zJV,hs r zJ8,rJ vs L (fun q hq=>hs q (zKi _ hq)),List.length_cons,Nat.add_mul]
   omega
section
variable {H:Type} {enc:TypeId × Value→H} {P:Program} {w:World} {held:Bool}
theorem Fv {ρ:Type}(dflt:ρ)(cl:ρ→List SV)(dt:ρ→DataW H)(Q:ρ→Prop)(mH:∀ r,flat.ai (cl r)=true){t e:TypeId}{s:Nat}(ht:P.underlying t=some (.slice e))(hs:P.cellsOf e=s)
 (eV:∀ fuel cs x,DataW.trod enc P w 0 (fun _=>true) held fuel e cs=some x→∃ r,cs=aJ kH (cl r)∧x.1=dt r∧Q r)
 {rch:Reach} {b0:Nat} {v:Value} {n:Nat} {x:DataW H × List MemPlace} (bN:Cell.okWide P w rch b0 t v) (h:DataW.trod enc P w 0 (fun _=>true) held n t [v]=some x) :
 ∃ (b:Bt) (L:List ρ),v=oV b L.length∧L.length≤9223372036854775807∧((x.1=.nil∧L=[])∨∃ sp',x.1=.slice (L.map dt) sp')∧(∀ β,Holds β b (fun k=>k=b.cK∧b.cap≠0) w (.own (L.flatMap cl) e s L.length false))∧(b.cap≠0→b.cK<w.heap.size)∧∀ r∈L,Q r:=by
 obtain⟨a0,len0,cap0,rfl⟩:∃ a len cap,v=.slice a len cap:=by
  simp only[Cell.okWide,ht]at bN
  cases v <;> simp_all [Cell.ok]
 have hf:=h
 rcases Go.Deep.open_slice ht hf with⟨hv,hx⟩|⟨a,len,cap,m,n,D,Pl,hv,hb,hl,hm,iY,hx,jN⟩
 ·simp only[zJR.injEq,Value.slice.injEq,and_true]at hv
  obtain⟨rfl,rfl,rfl⟩:=hv
  exact⟨⟨0,0,0⟩,[],by simp[oV,mA],by simp,.inl ⟨by rw[hx],rfl⟩,fun β=>.inl ⟨rfl,rfl,rfl,by simp,fun e=>by cases e⟩,fun k=>absurd rfl k,fun _ hr=>absurd hr (by simp)⟩
 ·simp only[zJR.injEq,Value.slice.injEq,and_true]at hv
  obtain⟨rfl,rfl,rfl⟩:=hv
  have Ig:w.has P rch b0 a e cap0:=by
   simp only[Cell.okWide,ht,Cell.ok]at bN
   exact bN.2.2
  obtain⟨-,Es,row,cells,Dq,-⟩:=Ig
  obtain⟨cK,off,spot⟩:=a
  simp only at Es Dq
  subst Es
  have hblk:cK<w.heap.size:=by
   rcases zKb cK w.heap.size with h' | h'
   ·exact h'
   ·unfold World.shape? at Dq
    simp[zKm h']at Dq
  have hmc:m=cap0:=by rw[iY];simp
  subst hmc
  haveI:Inhabited ρ:=⟨dflt⟩
  obtain⟨R,hR⟩:=Go.Deep.choose_lt (α:=ρ) (n:=len0) (p:=fun i r=>(∀ q v,(aJ kH (cl r))[q]? = some v→w.cell? ⟨cK,off+i * s+q,none⟩=some v)∧(cl r).length=s∧D i=dt r∧Q r) (fun i hi=>by
   obtain⟨cs',h1,h2⟩:=jN i (by omega)
   obtain⟨r,rfl,hd,hQ⟩:=eV n cs' _ h2
   rw[hs]at h1
   obtain⟨-,h3,h4⟩:=World.cells?_some h1
   rw[bV,zKu]at h3
   refine⟨r,fun q v hv=>?_,h3,hd,hQ⟩
   have hq:q<s:=by
    have:=(zJK.1 hv).1
    rwa [bV,zKu,h3]at this
   have:=h4 q hq
   rw[dj,dj]at this
   rw[this];exact hv)
  have hlen:((zJU len0).map R).length=len0:=by simp
  have aP:∀ r∈(zJU len0).map R,(cl r).length=s:=by
   intro r hr
   obtain⟨i,hi,rfl⟩:=List.mem_map.1 hr
   exact(hR i (zJ2.1 hi)).2.1
  have hmx:m≤9223372036854775807:=by unfold maxLen at hm;simpa using hm
  have hlies:∀ β,mF w cK off ((((zJU len0).map R).flatMap cl).map (ah β)):=fun β=>by
   have e1:(((zJU len0).map R).flatMap cl).map (ah β)=((zJU len0).map R).flatMap fun r=>aJ β (cl r):=by
    rw[List.map_flatMap]
    congr 1
    funext r
    rw[bV]
   rw[e1]
   refine ry (s:=s) _ _ _ (fun r hr=>by rw[bV,zKu];exact aP r hr) (fun i r hr q v hv=>?_)
   have hi:i<len0:=by
    have:=(zJK.1 hr).1
    simpa using this
   have hr2:R i=r:=by simpa[hi] using hr
   subst hr2
   rw[dx _ (mH _) β kH]at hv
   have:=(hR i hi).1 q v hv
   simpa[Nat.add_assoc] using this
  refine⟨⟨cK,off,m+1⟩,(zJU len0).map R,by simp[oV],by rw[hlen];omega,.inr ⟨(zJU (m - len0)).map fun j=>D (len0+j),?_⟩,fun β=>.inr ⟨by simp,by simpa using hl,by simpa using hm,rJ cl _ aP,hlies β,(fun hm=>absurd hm (by simp)),fun k=>by simp⟩,fun _=>hblk,fun r hr=>by
   obtain⟨i,hi,rfl⟩:=List.mem_map.1 hr
   exact(hR i (zJ2.1 hi)).2.2.2⟩
  have hD:(zJU len0).map D=((zJU len0).map R).map dt:=by
   rw[List.map_map]
   exact List.map_congr_left fun i hi=>(hR i (zJ2.1 hi)).2.2.1
  rw[hx,hD]
end
theorem vK {H:Type}{P:Program}{t u:TypeId}{fs:Array Field}(ht:P.underlying t=some (.struct fs)){parts:List (DataW H)}{j:Nat}{d:DataW H}(hj:(fs.toList.map (·.type))[j]? = some u)(hd:parts[j]? = some d){n:Nat}(hn:n∈d.weights P u):n∈(DataW.agg parts).weights P t:=by
 simp only[DataW.weights,ht]
 exact DataW.weights_mem_each hj hd n hn
theorem ok_cell {P:Program}{w:World}{r:Reach}{b:Nat}{t e:TypeId}{v:Value}(ht:P.underlying t=some (.slice e))(h:Value.okWide P w r b t v):Cell.okWide P w r b t v:=by
 simpa only[Value.okWide,ht] using h
open Go Vc Go.RowKit Wf
open Go.ChangeShapes Go.WideShapes Go.ChangeAt
open Go.WideMaps Go.WideElems
def Ext (β:Nat→Bt)(l:List (Bt × aw)):Prop:=∀ (i:Nat) (x:Bt × aw),l[i]? = some x→β i=x.1
theorem Ext.left {β:Nat→Bt}{l m:List (Bt × aw)}(h:Ext β (l++m)):Ext β l:=fun i x hx=>h i x (by rw[zJM (zJK.1 hx).1];exact hx)
def gz (w:World)(l:List (Bt × aw)):Prop:=∀ β,Ext β l→∀ x∈l,x.2.cC=false∧Holds β x.1 (fun k=>k=x.1.cK∧x.1.cap≠0) w x.2∧(x.1.cap≠0→x.1.cK<w.heap.size)
theorem gz.nil (w:World):gz w []:=fun _ _ x hx=>by cases hx
theorem gz.snoc {w:World}{l:List (Bt × aw)}(h:gz w l){b:Bt}{r:aw}(hm:r.cC=false)(hh:∀ β,Ext β l→Holds β b (fun k=>k=b.cK∧b.cap≠0) w r)(hb:b.cap≠0→b.cK<w.heap.size):gz w (l++[(b,r)]):=fun β hβ x hx=>by
 rcases zKk.1 hx with hx|hx
 ·exact h β hβ.left x hx
 ·obtain rfl:=zKl.1 hx
  exact⟨hm,hh β hβ.left,hb⟩
def qG (l:List (Bt × aw)):Nat→Bt:=fun i=>((l[i]?).map (·.1)).getD (kH 0)
theorem lx (l:List (Bt × aw)):Ext (qG l) l:=fun i x hx=>by simp[qG,hx]
theorem SC.lawN {V:Cx}{f:FuncId}{args:List SV}{l:List (Bt × aw)}(h:SC V f args (l.map (·.2)) (fun r _=>r=.bool true)){w:World}(hE:V.E w)(hh:gz w l) :
 Calls V.P f (aJ (qG l) args).toArray w fun e w'=>e=.returned (.bool true)∧Below w.heap.size w w':=by
 have iT:∀ (i:Nat) (r:aw),(l.map (·.2))[i]? = some r→r.cC=false:=fun i r hi=>by
  rw[List.getElem?_map,zKf]at hi
  obtain⟨x,hx,rfl⟩:=hi
  exact(hh _ (lx l) x (List.mem_of_getElem? hx)).1
 obtain⟨fp,rD⟩:∃ fp:Nat→Nat→Prop,∀ i k,fp i k↔∃ x,l[i]? = some x∧k=x.1.cK∧x.1.cap≠0:=⟨fun i k=>∃ x,l[i]? = some x∧k=x.1.cK∧x.1.cap≠0,fun _ _=>Iff.rfl⟩
 have gC:∀ β',bC (l.map (·.2)).length (qG l) β'→vE β' fp w (l.map (·.2)):=fun β' hβ=>by
  have hext:Ext β' l:=fun i x hx=>by
   have:=hβ i (by simpa using(zJK.1 hx).1)
   rw[← this];exact lx l i x hx
  refine vE.mk ?_ ?_ ?_
  ·intro i r hi
   rw[List.getElem?_map,zKf]at hi
   obtain⟨x,hx,rfl⟩:=hi
   rw[hext i x hx]
   have h2:=(hh β' hext x (List.mem_of_getElem? hx)).2.1
   have e:fp i=fun k=>k=x.1.cK∧x.1.cap≠0:=by
    funext k
    exact propext ⟨fun h=>by obtain⟨y,hy,h1⟩:=(rD i k).1 h;rw[hx]at hy;cases hy;exact h1,fun h=>(rD i k).2 ⟨x,hx,h⟩⟩
   rw[e];exact h2
  ·intro i r hi k hk
   obtain⟨x,hx,rfl,hc⟩:=(rD i k).1 hk
   exact(hh _ (lx l) x (List.mem_of_getElem? hx)).2.2 hc
  ·intro i j r r' hi hj _ hm
   rw[iT i r hi,iT j r' hj]at hm
   simp at hm
 refine(h.2 (qG l) fp w gC ?_ hE).mono ?_
 ·intro i r hi hm
  rw[iT i r hi]at hm
  cases hm
 ·rintro e w' ⟨r,bs',β₂,fp₂,rfl,FP,hle,aP,jM,-⟩
  refine⟨by have:=(aP β₂ (bC.refl _ _)).1;simpa[ah] using this,?_⟩
  refine(jM.mono (own':=fun _=>False) ?_).below
  rintro k ⟨i,r,hi,hm,-⟩
  rw[iT i r hi]at hm
  cases hm
theorem F6 {w:World}{a:Addr}{v:Value}(h:w.cell? a=some v):a.spot=none∧a.block<w.heap.size:=by
 unfold World.cell? at h
 split at h
 ·rename_i c t fz hh
  split at h
  ·cases h
  ·rename_i hs
   exact⟨by simpa using hs,(zJN.1 hh).1⟩
 ·cases h
section
variable {H:Type} {enc:TypeId × Value→H} {P:Program} {w:World} {held:Bool}
theorem uj {ρ:Type}(cl:ρ→List SV)(Pr:List (Bt × aw)→ρ→Prop)(mono:∀ l ls r,Pr l r→Pr (l++ls) r){t e:TypeId}{s m:Nat}(fe:0<s)
 (ht:P.underlying t=some (.slice e)) (hs:P.cellsOf e=s) (W:DataW H→Prop)
 (eV:∀ (l:List (Bt × aw)),gz w l→∀ cs x,DataW.trod enc P w 0 (fun _=>true) held m e cs=some x→W x.1→∃ ls r,gz w (l++ls)∧(∀ β,Ext β (l++ls)→cs=(cl r).map (ah β))∧Pr (l++ls) r)
 {l:List (Bt × aw)} (hl:gz w l) {c:Value} {x:DataW H × List MemPlace} {M:Nat} (hM:M≤m+1) (h:DataW.trod enc P w 0 (fun _=>true) held M t [c]=some x) (hW:∀ L sp,x.1=.slice L sp→∀ d∈L,W d) :
 ∃ ls y L,gz w (l++ls)∧L.length≤9223372036854775807∧(∀ β,Ext β (l++ls)→c=ah β y)∧((y=.aI∧L=[])∨∃ i,y=.o i L.length∧((l++ls).map (·.2))[i]? = some (.own (L.flatMap cl) e s L.length false))∧(∀ r∈L,Pr (l++ls) r)∧(L=[]∨∃ Le sp,x.1=.slice Le sp∧Le.length=L.length):=by
 have h:=DataW.trod_le hM h
 rcases DataW.trod_slice ht h with⟨hc,hx⟩|⟨a,len,cap,elems,rest,n,hn,hc,hx,-,hlc,sY,jN,hE,hR,-⟩
 ·simp only[zJR.injEq,and_true]at hc
  subst hc
  exact⟨[],.aI,[],by rw[zKc];exact hl,by simp,fun β _=>by simp[ah],.inl ⟨rfl,rfl⟩,by simp,.inl rfl⟩
 obtain rfl:n=m:=by omega
 clear hn
 simp only[zJR.injEq,and_true]at hc
 subst hc hx
 rw[hs]at hE hR
 obtain⟨hRl,hR⟩:=hR rfl
 have hcm':cap≤9223372036854775807:=by unfold maxLen at sY;simpa using sY
 by_cases h0:cap=0
 ·subst h0
  obtain rfl:len=0:=by omega
  obtain⟨b,hb,hA⟩:=Hi a
  refine⟨[(b,.own [] e s 0 false)],.o l.length 0,[],hl.snoc rfl (fun β _=>.inl ⟨hb,rfl,rfl,fun k hk=>hk.2 hb,fun e=>by cases e⟩) (fun k=>absurd hb k),by simp,fun β hβ=>?_,.inr ⟨l.length,rfl,by simp⟩,by simp,.inl rfl⟩
  have:=hβ l.length (b,.own [] e s 0 false) (by simp)
  simp only[ah,oV,this,hb,if_true,hA]
 -- the first cell tells that the place is a row's
 have Es:a.spot=none∧a.block<w.heap.size:=by
  have h1:∃ cs,w.cells? 0 a s=some cs:=by
   rcases Nat.eq_zero_or_pos len with e|e
   ·subst e
    have h2:=hR 0 (by omega)
    rw[zJQ (by omega)]at h2
    obtain⟨cs,h3,-⟩:=Option.bind_eq_some_iff.1 h2
    simp only[Nat.add_zero,Nat.zero_mul]at h3
    exact⟨cs,by simpa[Addr.add] using h3⟩
   ·have h2:=hE 0 e
    rw[zJQ (by omega)]at h2
    obtain⟨cs,h3,-⟩:=Option.bind_eq_some_iff.1 h2
    simp only[Nat.zero_mul]at h3
    exact⟨cs,by simpa[Addr.add] using h3⟩
  obtain⟨cs,h1⟩:=h1
  obtain⟨-,h2,h3⟩:=World.cells?_some h1
  have h4:=h3 0 fe
  rw[zJQ (by omega)]at h4
  exact F6 (a:=a) (by simpa[Addr.add] using h4)
 obtain⟨cK,off,spot⟩:=a
 obtain⟨mr,mu⟩:=Es
 simp only at mr mu
 subst mr
 -- the elements, one after the other
 have acc:∀ k,k≤len→∃ (ls:List (Bt × aw)) (L:List ρ),gz w (l++ls)∧L.length=k∧(∀ r∈L,Pr (l++ls) r∧(cl r).length=s)∧∀ (i:Nat) (r:ρ),L[i]? = some r→∀ β,Ext β (l++ls)→mF w cK (off+i * s) ((cl r).map (ah β)):=by
  intro k
  induction k with
  | zero=>exact fun _=>⟨[],[],by rw[zKc];exact hl,rfl,by simp,fun i r h=>by simp at h⟩
  | succ k ih =>
    intro hk
    obtain⟨ls,L,g1,g2,g3,g4⟩:=ih (by omega)
    have h2:=hE k (by omega)
    rw[zJQ (by omega)]at h2
    obtain⟨cs,h3,h4⟩:=Option.bind_eq_some_iff.1 h2
    obtain⟨ls',r,k1,k2,k3⟩:=eV (l++ls) g1 cs _ h4 (hW _ _ rfl _ (List.mem_map.2 ⟨_,List.getElem_mem (by omega),rfl⟩))
    rw[zJ4]at k1 k2 k3
    obtain⟨-,h5,h6⟩:=World.cells?_some h3
    have hrl:(cl r).length=s:=by rw[← h5,k2 (qG _) (lx _),zKu]
    refine⟨ls++ls',L++[r],k1,by simp[g2],fun q hq=>?_,fun i q hq β hβ=>?_⟩
    ·rcases zKk.1 hq with hq|hq
     ·rw[← zJ4]
      exact⟨mono _ _ _ (g3 q hq).1,(g3 q hq).2⟩
     ·obtain rfl:=zKl.1 hq
      exact⟨k3,hrl⟩
    ·rcases zKb i L.length with hi|hi
     ·rw[zJM hi]at hq
      exact g4 i q hq β (by rw[← zJ4]at hβ;exact hβ.left)
     ·have hi':i=k:=by
       have:=(zJK.1 hq).1
       simp at this
       omega
      subst hi'
      rw[zJS hi,g2,Nat.sub_self]at hq
      cases hq
      intro j v hv
      rw[← k2 β hβ]at hv
      have hj:j<s:=by rw[← h5];exact(zJK.1 hv).1
      have:=h6 j hj
      rw[dj,dj]at this
      rw[this];exact hv
 obtain⟨ls,L,g1,g2,g3,g4⟩:=acc len (zJW _)
 have hi:l.length+ls.length=(l++ls).length:=by simp
 refine⟨ls++[(⟨cK,off,cap+1⟩,.own (L.flatMap cl) e s L.length false)],.o (l.length+ls.length) L.length,L,?_,by omega,fun β hβ=>?_,.inr ⟨_,rfl,?_⟩,fun r hr=>?_,.inr ⟨_,_,rfl,by simp[jN,g2]⟩⟩
 ·rw[← zJ4]
  refine g1.snoc rfl (fun β hβ=>.inr ⟨by simp,by simp;omega,by simpa using sY,rJ cl _ fun r hr=>(g3 r hr).2,?_,(by simp),fun k=>by simp⟩) (fun _=>mu)
  rw[List.map_flatMap]
  exact ry (fun r=>(cl r).map (ah β)) L off (fun r hr=>by rw[zKu];exact(g3 r hr).2) (fun i r hr=>g4 i r hr β hβ)
 ·rw[← zJ4]at hβ
  have:=hβ (l.length+ls.length) (⟨cK,off,cap+1⟩,.own (L.flatMap cl) e s L.length false) (by rw[hi];simp)
  simp[ah,oV,this,g2]
 ·rw[← zJ4,List.map_append,zJS (by simp)]
  simp
 ·rw[← zJ4]
  exact mono _ _ _ (g3 r hr).1
end
open Go Vc Go.RowKit Wf
open Go.ChangeShapes Go.WideShapes Go.ChangeAt
open Go.WideMaps Go.WideElems
section
variable {H:Type} {enc:TypeId × Value→H} {w:World} {base:Nat} {sp:Nat→Bool} {held:Bool}
theorem DV {fuel:Nat}{cs:List Value}{x:DataW H × List MemPlace}(h:DataW.trod enc Tryz.prog w base sp held fuel 36 cs=some x):∃ (a0:Int) (a1:Bytes) (a2:Bytes) (a3:Int),cs=[Value.int .i64 a0,Value.string ⟨⟨a1⟩⟩,Value.string ⟨⟨a2⟩⟩,Value.int .i64 a3]∧x=(.agg [.lit (.int .i64 a0),.lit (.string a1),.lit (.string a2),.lit (.int .i64 a3)],[])∧(Lit.int .i64 a0).wf=true∧a1.length≤maxLen∧a2.length≤maxLen∧(Lit.int .i64 a3).wf=true:=by
 obtain⟨xs,n,_,rfl,hl,hlen,hf⟩:=DataW.trod_struct Tryz.underlying36 h
 have hC:Tryz.prog.cellsOf 36=4:=by kernel_rfl
 rw[hC]at hl
 obtain⟨c0,c1,c2,c3,rfl⟩:∃ c0 c1 c2 c3,cs=[c0,c1,c2,c3]:=by
  match cs,hl with
  | [c0,c1,c2,c3],_=>exact⟨c0,c1,c2,c3,rfl⟩
 obtain⟨y0,y1,y2,y3,rfl⟩:∃ y0 y1 y2 y3,xs=[y0,y1,y2,y3]:=by
  match xs,hlen with
  | [y0,y1,y2,y3],_=>exact⟨y0,y1,y2,y3,rfl⟩
 have e0:DataW.trod enc Tryz.prog w base sp held n 3 [c0]=some y0:=hf 0 _ rfl
 obtain⟨a0,q0,rfl,w0⟩:=DataW.trod_int Tryz.underlying3 e0
 obtain rfl:=(zJR.inj q0).1
 have e1:DataW.trod enc Tryz.prog w base sp held n 9 [c1]=some y1:=hf 1 _ rfl
 obtain⟨⟨⟨a1⟩⟩,q1,rfl,w1⟩:=DataW.trod_string Tryz.underlying9 e1
 obtain rfl:=(zJR.inj q1).1
 have e2:DataW.trod enc Tryz.prog w base sp held n 9 [c2]=some y2:=hf 2 _ rfl
 obtain⟨⟨⟨a2⟩⟩,q2,rfl,w2⟩:=DataW.trod_string Tryz.underlying9 e2
 obtain rfl:=(zJR.inj q2).1
 have e3:DataW.trod enc Tryz.prog w base sp held n 3 [c3]=some y3:=hf 3 _ rfl
 obtain⟨a3,q3,rfl,w3⟩:=DataW.trod_int Tryz.underlying3 e3
 obtain rfl:=(zJR.inj q3).1
 exact⟨a0,a1,a2,a3,rfl,rfl,w0,w1,w2,w3⟩
theorem trod_38 {fuel:Nat}{cs:List Value}{x:DataW H × List MemPlace}(h:DataW.trod enc Tryz.prog w base sp held fuel 38 cs=some x):∃ (a0:Bool) (a1:Int),cs=[Value.bool a0,Value.int .u64 a1]∧x=(.agg [.lit (.bool a0),.lit (.int .u64 a1)],[])∧(Lit.int .u64 a1).wf=true:=by
 obtain⟨xs,n,_,rfl,hl,hlen,hf⟩:=DataW.trod_struct Tryz.underlying38 h
 have hC:Tryz.prog.cellsOf 38=2:=by kernel_rfl
 rw[hC]at hl
 obtain⟨c0,c1,rfl⟩:∃ c0 c1,cs=[c0,c1]:=by
  match cs,hl with
  | [c0,c1],_=>exact⟨c0,c1,rfl⟩
 obtain⟨y0,y1,rfl⟩:∃ y0 y1,xs=[y0,y1]:=by
  match xs,hlen with
  | [y0,y1],_=>exact⟨y0,y1,rfl⟩
 have e0:DataW.trod enc Tryz.prog w base sp held n 4 [c0]=some y0:=hf 0 _ rfl
 obtain⟨a0,q0,rfl⟩:=DataW.trod_bool Tryz.underlying4 e0
 obtain rfl:=(zJR.inj q0).1
 have e1:DataW.trod enc Tryz.prog w base sp held n 31 [c1]=some y1:=hf 1 _ rfl
 obtain⟨a1,q1,rfl,w1⟩:=DataW.trod_int Tryz.underlying31 e1
 obtain rfl:=(zJR.inj q1).1
 exact⟨a0,a1,rfl,rfl,w1⟩
theorem trod_91 {fuel:Nat}{cs:List Value}{x:DataW H × List MemPlace}(h:DataW.trod enc Tryz.prog w base sp held fuel 91 cs=some x):∃ (a0:Bytes) (a1:Int) (a2:Bytes) (a3:Bytes) (a4:Bytes) (a5:Bool) (a6:Bool),cs=[Value.string ⟨⟨a0⟩⟩,Value.int .i64 a1,Value.string ⟨⟨a2⟩⟩,Value.string ⟨⟨a3⟩⟩,Value.string ⟨⟨a4⟩⟩,Value.bool a5,Value.bool a6]∧x=(.agg [.lit (.string a0),.lit (.int .i64 a1),.lit (.string a2),.lit (.string a3),.lit (.string a4),.lit (.bool a5),.lit (.bool a6)],[])∧a0.length≤maxLen∧(Lit.int .i64 a1).wf=true∧a2.length≤maxLen∧a3.length≤maxLen∧a4.length≤maxLen:=by
 obtain⟨xs,n,_,rfl,hl,hlen,hf⟩:=DataW.trod_struct Tryz.underlying91 h
 have hC:Tryz.prog.cellsOf 91=7:=by kernel_rfl
 rw[hC]at hl
 obtain⟨c0,c1,c2,c3,c4,c5,c6,rfl⟩:∃ c0 c1 c2 c3 c4 c5 c6,cs=[c0,c1,c2,c3,c4,c5,c6]:=by
  match cs,hl with
  | [c0,c1,c2,c3,c4,c5,c6],_=>exact⟨c0,c1,c2,c3,c4,c5,c6,rfl⟩
 obtain⟨y0,y1,y2,y3,y4,y5,y6,rfl⟩:∃ y0 y1 y2 y3 y4 y5 y6,xs=[y0,y1,y2,y3,y4,y5,y6]:=by
  match xs,hlen with
  | [y0,y1,y2,y3,y4,y5,y6],_=>exact⟨y0,y1,y2,y3,y4,y5,y6,rfl⟩
 have e0:DataW.trod enc Tryz.prog w base sp held n 9 [c0]=some y0:=hf 0 _ rfl
 obtain⟨⟨⟨a0⟩⟩,q0,rfl,w0⟩:=DataW.trod_string Tryz.underlying9 e0
 obtain rfl:=(zJR.inj q0).1
 have e1:DataW.trod enc Tryz.prog w base sp held n 3 [c1]=some y1:=hf 1 _ rfl
 obtain⟨a1,q1,rfl,w1⟩:=DataW.trod_int Tryz.underlying3 e1
 obtain rfl:=(zJR.inj q1).1
 have e2:DataW.trod enc Tryz.prog w base sp held n 9 [c2]=some y2:=hf 2 _ rfl
 obtain⟨⟨⟨a2⟩⟩,q2,rfl,w2⟩:=DataW.trod_string Tryz.underlying9 e2
 obtain rfl:=(zJR.inj q2).1
 have e3:DataW.trod enc Tryz.prog w base sp held n 9 [c3]=some y3:=hf 3 _ rfl
 obtain⟨⟨⟨a3⟩⟩,q3,rfl,w3⟩:=DataW.trod_string Tryz.underlying9 e3
 obtain rfl:=(zJR.inj q3).1
 have e4:DataW.trod enc Tryz.prog w base sp held n 9 [c4]=some y4:=hf 4 _ rfl
 obtain⟨⟨⟨a4⟩⟩,q4,rfl,w4⟩:=DataW.trod_string Tryz.underlying9 e4
 obtain rfl:=(zJR.inj q4).1
 have e5:DataW.trod enc Tryz.prog w base sp held n 4 [c5]=some y5:=hf 5 _ rfl
 obtain⟨a5,q5,rfl⟩:=DataW.trod_bool Tryz.underlying4 e5
 obtain rfl:=(zJR.inj q5).1
 have e6:DataW.trod enc Tryz.prog w base sp held n 4 [c6]=some y6:=hf 6 _ rfl
 obtain⟨a6,q6,rfl⟩:=DataW.trod_bool Tryz.underlying4 e6
 obtain rfl:=(zJR.inj q6).1
 exact⟨a0,a1,a2,a3,a4,a5,a6,rfl,rfl,w0,w1,w2,w3,w4⟩
theorem trod_93 {fuel:Nat}{cs:List Value}{x:DataW H × List MemPlace}(h:DataW.trod enc Tryz.prog w base sp held fuel 93 cs=some x):∃ (a0:Bytes) (a1:Int) (a2:Bytes) (a3:Bytes) (a4:Bytes) (a5:Bool) (a6:Bool) (a7:Int) (a8:Int),cs=[Value.string ⟨⟨a0⟩⟩,Value.int .i64 a1,Value.string ⟨⟨a2⟩⟩,Value.string ⟨⟨a3⟩⟩,Value.string ⟨⟨a4⟩⟩,Value.bool a5,Value.bool a6,Value.int .i64 a7,Value.int .i64 a8]∧x=(.agg [.agg [.lit (.string a0),.lit (.int .i64 a1),.lit (.string a2),.lit (.string a3),.lit (.string a4),.lit (.bool a5),.lit (.bool a6)],.lit (.int .i64 a7),.lit (.int .i64 a8)],[])∧a0.length≤maxLen∧(Lit.int .i64 a1).wf=true∧a2.length≤maxLen∧a3.length≤maxLen∧a4.length≤maxLen∧(Lit.int .i64 a7).wf=true∧(Lit.int .i64 a8).wf=true:=by
 obtain⟨xs,n,_,rfl,hl,hlen,hf⟩:=DataW.trod_struct Tryz.underlying93 h
 have hC:Tryz.prog.cellsOf 93=9:=by kernel_rfl
 rw[hC]at hl
 obtain⟨c0,c1,c2,c3,c4,c5,c6,c7,c8,rfl⟩:∃ c0 c1 c2 c3 c4 c5 c6 c7 c8,cs=[c0,c1,c2,c3,c4,c5,c6,c7,c8]:=by
  match cs,hl with
  | [c0,c1,c2,c3,c4,c5,c6,c7,c8],_=>exact⟨c0,c1,c2,c3,c4,c5,c6,c7,c8,rfl⟩
 obtain⟨y0,y1,y2,rfl⟩:∃ y0 y1 y2,xs=[y0,y1,y2]:=by
  match xs,hlen with
  | [y0,y1,y2],_=>exact⟨y0,y1,y2,rfl⟩
 have e0:DataW.trod enc Tryz.prog w base sp held n 91 [c0,c1,c2,c3,c4,c5,c6]=some y0:=hf 0 _ rfl
 obtain⟨a0,a1,a2,a3,a4,a5,a6,q0,rfl,w0,w1,w2,w3,w4⟩:=trod_91 e0
 simp only[zJR.injEq,and_true]at q0
 obtain⟨rfl,rfl,rfl,rfl,rfl,rfl,rfl⟩:=q0
 have e1:DataW.trod enc Tryz.prog w base sp held n 3 [c7]=some y1:=hf 1 _ rfl
 obtain⟨a7,q1,rfl,w7⟩:=DataW.trod_int Tryz.underlying3 e1
 obtain rfl:=(zJR.inj q1).1
 have e2:DataW.trod enc Tryz.prog w base sp held n 28 [c8]=some y2:=hf 2 _ rfl
 obtain⟨a8,q2,rfl,w8⟩:=DataW.trod_int Tryz.underlying28 e2
 obtain rfl:=(zJR.inj q2).1
 exact⟨a0,a1,a2,a3,a4,a5,a6,a7,a8,rfl,rfl,w0,w1,w2,w3,w4,w7,w8⟩
end
end Go.Proofs.YteipdaijbncgeaaGreatDoor
