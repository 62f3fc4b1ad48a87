/- Texts of this claim, laid together: TreeA, TreeB, TreeC, TreeD, MadeS, MadeC, MadeD, MadeE, TreeG, TreeS, TreeU, TreeQ, TreeW, TreeX. -/
import Derived.Test.YtnmlimehgifadaaGreatDoorW5
open And renaming intro → zL7
open List renaming getElem?_eq_some_iff → zL8, mem_singleton → zMa, length_append → zMc, length_set → zMd, map_cons → zMe, map_nil → zMf, getElem?_set_self → zMg, mem_append → zMh, getElem_mem → zMj, flatMap_append → zMk, length_nil → zMl, length_cons → zMm, length_eq_zero_iff → zMn, append_assoc → zMo, take → zMp, cons_append → zMq, nil_append → zMs, drop → zMt, getElem?_append_right → zMv
open Nat renaming add_sub_cancel_left → zMb, sub_self → zMi, le_refl → zMx
open Bool renaming and_self → zMr, not_true → zMw
open Int renaming toNat → zMu
set_option linter.all false
set_option maxHeartbeats 16000000
set_option maxRecDepth 20000
namespace Go.Proofs.YtnmlimehgifadaaGreatDoor
open Go Vc Go.RowKit Wf
theorem jH (s:Bytes):PC Tryz.V 140 [.str s] (.agg (tv ⟨5,s,.ah,.ah⟩)):=by
 refine aV 3000 Tryz.func140 rfl Tryz.ntmps140 Tryz.results140 Tryz.call140 (by simp) (by simp[flat,flat.af]) (by simp[flat,flat.af,tv]) ?_
 unfold tv
 exact bo True.intro
def mQ (m:Nat)(x:Tv):Prop:=Vc.within m x.xk=true∧Vc.within m x.xi=true∧one x.xk=true∧one x.xi=true
mutual
theorem nW {m n:Nat}(h:m≤n):∀ {x:SV},Vc.within m x=true→Vc.within n x=true:=fun {x} hx=>by
 cases x <;> simp only[Vc.within,decide_eq_true_eq]at hx ⊢
 ·omega
 ·omega
 ·omega
 ·exact jw h hx
 ·exact jw h hx
 ·exact jw h hx
 ·exact jw h hx
 ·exact nW h hx
theorem jw {m n:Nat}(h:m≤n):∀ {l:List SV},within.ax m l=true→within.ax n l=true:=fun {l} hx=>by
 cases l with
 | nil=>rfl
 | cons x r =>
   simp only[within.ax,Bool.and_eq_true]at hx ⊢
   exact⟨nW h hx.1,jw h hx.2⟩
end
theorem mQ.up {m n:Nat}(h:m≤n){x:Tv}(hx:mQ m x):mQ n x:=⟨nW h hx.1,nW h hx.2.1,hx.2.2⟩
theorem mQ.w {m:Nat}{x:Tv}(hx:mQ m x):within.ax m (tv x)=true:=by
 simp[within,within.ax,tv,hx.1,hx.2.1]
theorem mU {m:Nat}:∀ (a b:List SV),within.ax m (a++b)=(within.ax m a&&within.ax m b)
 | [],b=>by simp[within.ax]
 | x::a,b=>by simp[within.ax,mU a b,Bool.and_assoc]
theorem mQ.all {m:Nat}{L:List Tv}(h:∀ x∈L,mQ m x):within.ax m (L.flatMap tv)=true:=by
 induction L with
 | nil=>rfl
 | cons x r ih =>
   rw[List.flatMap_cons,mU,(h x (by simp)).w,ih (fun y hy=>h y (by simp[hy]))]
   rfl
theorem Rs.one {b:List aw}{x:SV}{L:List Bytes}(h:Rs b x L):Vc.one x=true:=by
 rcases h with⟨rfl,-⟩|⟨j,rfl,h2⟩ <;> rfl
theorem Ri.one {b:List aw}{x:SV}{L:List Tv}(h:Ri b x L):Vc.one x=true:=by
 rcases h with⟨rfl,-⟩|⟨j,rfl,h2⟩ <;> rfl
theorem Tr.lb {b:List aw}:∀ {d:Nat}{v:Tv},Tr b d v→mQ b.length v
 | 0,_,h=>h.elim
 | _+1,_,⟨_,_,_,_,h3,h4,_⟩=>⟨h3.within,h4.within,h3.one,h4.one⟩
theorem Hu (m:Nat)(L:List Bytes):within.ax m (L.map SV.str)=true:=by
 induction L with
 | nil=>rfl
 | cons x r ih=>simp[within.ax,within,ih]
def Ob (b:List aw)(d n:Nat)(v:Tv):Prop:=v.k=7∧v.t=[]∧∃ (K:List Bytes) (L:List Tv),Rs b v.xk K∧Ri b v.xi L∧K.length=L.length∧K.length≤n∧(∀ s∈K,s.length≤20000)∧∀ x∈L,Tr b d x
theorem Ob.ro {a b:List aw}(k:Ro a b){d n:Nat}{v:Tv}:Ob a d n v→Ob b d n v
 | ⟨h1,h2,K,L,h3,h4,h5,h6,h7,h8⟩=>⟨h1,h2,K,L,h3.ro k,h4.ro k,h5,h6,h7,fun x hx=>(h8 x hx).ro k⟩
theorem Ob.tr {b:List aw}{d n:Nat}{v:Tv}(hn:n≤16):Ob b d n v→Tr b (d+1) v
 | ⟨h1,h2,K,L,h3,h4,h5,h6,h7,h8⟩=>⟨by rw[h2];simp,.inr (.inr (.inr h1)),K,L,h3,h4,by omega,by omega,h7,fun _=>h5,fun h=>absurd h1 h,h8⟩
theorem Ob.zero (b:List aw)(d n:Nat):Ob b d n ⟨7,[],.ah,.ah⟩:=⟨rfl,rfl,[],[],.inl ⟨rfl,rfl⟩,.inl ⟨rfl,rfl⟩,rfl,by simp,by simp,by simp⟩
theorem Ob.up {b:List aw}{d n m:Nat}{v:Tv}(hm:n≤m):Ob b d n v→Ob b d m v
 | ⟨h1,h2,K,L,h3,h4,h5,h6,h7,h8⟩=>⟨h1,h2,K,L,h3,h4,h5,by omega,h7,h8⟩
theorem Ob.within {b:List aw}{d n:Nat}{v:Tv}:Ob b d n v→Vc.within b.length (.agg (tv v))=true
 | ⟨_,_,_,_,h3,h4,_⟩=>by simp[Vc.within,Vc.within.ax,tv,h3.within,h4.within]
def CR (bs:List aw)(v x:Tv)(K:List Bytes)(L:List Tv)(key:Bytes)(r:SV)(b:List aw):Prop:=∃ (q1 q2:Nat) (m1 m2:Bool),Kp bs b∧bs.length≤q1∧bs.length≤q2∧b[q1]? = some (.own ((K++[key]).map SV.str) 9 1 (K++[key]).length m1)∧b[q2]? = some (.own ((L++[x]).flatMap tv) 139 4 (L++[x]).length m2)∧r=.agg (tv ⟨v.k,v.t,.o q1 (K++[key]).length,.o q2 (L++[x]).length⟩)
theorem CR.pick {bs:List aw}{v x:Tv}{K:List Bytes}{L:List Tv}{key:Bytes}(hx:mQ bs.length x)(hLw:∀ y∈L,mQ bs.length y){r:SV}{b:List aw}(h:CR bs v x K L key r b) :
 ∃ (ρ:Nat→Nat) (Xs:List aw) (r2:SV),Kp bs b∧(∀ k,k<bs.length→ρ k=k)∧(∀ q X,Xs[q]? = some X→Kept bs b ρ (bs.length+Xs.length) (bs.length+q) X)∧r=HK ρ r2∧within (bs.length+Xs.length) r2=true∧(r2=.agg (tv ⟨v.k,v.t,.o bs.length (K++[key]).length,.o (bs.length+1) (L++[x]).length⟩)∧bs++Xs=bs++[.own ((K++[key]).map SV.str) 9 1 (K++[key]).length false,.own ((L++[x]).flatMap tv) 139 4 (L++[x]).length false]):=by
 obtain⟨q1,q2,m1,m2,bf,h1,h2,h3,h4,rfl⟩:=h
 have hρ:∀ k,k<bs.length→(fun i=>if i=bs.length then q1 else if i=bs.length+1 then q2 else i) k=k:=fun k hk=>by
  show (if k=bs.length then q1 else if k=bs.length+1 then q2 else k)=k
  rw[if_neg (by omega),if_neg (by omega)]
 have w1:within.ax bs.length ((K++[key]).map SV.str)=true:=Hu _ _
 have w2:within.ax bs.length ((L++[x]).flatMap tv)=true:=by
  rw[zMk,mU,mQ.all hLw]
  simpa[List.flatMap_cons] using hx.w
 refine⟨fun i=>if i=bs.length then q1 else if i=bs.length+1 then q2 else i,[.own ((K++[key]).map SV.str) 9 1 (K++[key]).length false,.own ((L++[x]).flatMap tv) 139 4 (L++[x]).length false],_,bf,hρ,?_,?_,?_,rfl,rfl⟩
 ·rintro q X hq
  match q,hq with
  | 0,hq =>
    cases hq
    refine .inr ⟨_,_,_,_,m1,rfl,?_,?_,Hu _ _⟩
    ·simpa using h1
    ·rw[ez hρ _ w1];simpa using h3
  | 1,hq =>
    cases hq
    refine .inr ⟨_,_,_,_,m2,rfl,?_,?_,?_⟩
    ·simpa using h2
    ·rw[ez hρ _ w2];simpa using h4
    ·refine mQ.all (fun y hy=>?_)
     rcases zMh.1 hy with hy|hy
     ·exact(hLw y hy).up (by simp)
     ·obtain rfl:=zMa.1 hy
      exact hx.up (by simp)
 ·simp[HK,nk,tv]
 ·simp[within,within.ax,tv]
theorem ni {bs:List aw}{v x:Tv}{K:List Bytes}{L:List Tv}(hk:Rs bs v.xk K)(hi:Ri bs v.xi L)(hK:K.length≤1000)(hL:L.length≤1000)(key:Bytes)(hx:mQ bs.length x)(hLw:∀ y∈L,mQ bs.length y) :
 SC Tryz.V 137 [.agg (tv v),.str key,.agg (tv x)] bs (fun r b=>r=.agg (tv ⟨v.k,v.t,.o bs.length (K++[key]).length,.o (bs.length+1) (L++[x]).length⟩)∧b=bs++[.own ((K++[key]).map SV.str) 9 1 (K++[key]).length false,.own ((L++[x]).flatMap tv) 139 4 (L++[x]).length false]):=by
 obtain⟨k,t,xk,xi⟩:=v
 have gH:=hk.within
 have fA:=hi.within
 simp only at hk hi gH fA
 obtain⟨BW,GV,hx3,F1⟩:=hx
 have nG:(one x.xk&&one x.xi)=true:=by rw[hx3,F1];rfl
 refine SC.pick (SC.mono (R:=CR bs ⟨k,t,xk,xi⟩ x K L key) ?_ ?_)
 rotate_left
 ·exact fun r b h=>h.pick ⟨BW,GV,hx3,F1⟩ hLw
 refine bJ 3000 Tryz.func137 rfl Tryz.ntmps137 Tryz.results137 Tryz.call137 (by simp) (aj bs.length _ (by simp[within,within.ax,tv,gH,fA,BW,GV])) ?_
 have oM:(K.map SV.str).length=K.length:=List.length_map ..
 have hll:=lJ L
 unfold tv
 rcases hk with⟨rfl,rfl⟩|⟨jk,rfl,hk⟩ <;> rcases hi with⟨rfl,rfl⟩|⟨ji,rfl,hi⟩
 ·refine gA nG ?_
  refine⟨by omega,⟨by unfold maxLen;omega,by omega⟩,by omega,⟨by unfold maxLen;omega,by omega⟩,?_,?_⟩
  ·(refine bE (fun n=>n - bs.length) ?_;simp only[zMe,zMf,cM,dZ,zMb,zMi,if_true];exact av (by kernel_rfl))
  ·refine⟨bs.length+4,bs.length+6,true,true,(Kp.refl bs).app _,by omega,by omega,?_,?_,by simp[tv]⟩
   ·rw[aQ];simp
   ·rw[aQ];simp[tv]
 ·have hj:ji - bs.length=0:=by have:=(zL8.1 hi).1;omega
  refine gA (zL7 nG (ad hi)) ?_
  refine⟨by omega,⟨by unfold maxLen;omega,by omega⟩,by omega,⟨by unfold maxLen;omega,by omega⟩,?_,?_⟩
  ·(refine bE (fun n=>n - bs.length) ?_;simp only[zMe,zMf,cM,dZ,zMb,zMi,hj];exact av (by kernel_rfl))
  ·refine⟨bs.length+4,bs.length+6,true,true,(Kp.refl bs).app _,by omega,by omega,?_,?_,by simp[tv]⟩
   ·rw[aQ];simp
   ·rw[aQ];simp[tv]
 ·have iB:jk<bs.length:=(zL8.1 hk).1
  have n0:∀ q,(bs.length+q=jk)=False:=fun q=>eq_false (by omega)
  have n2:(bs.length=jk)=False:=eq_false (by omega)
  refine gA (zL7 nG (ad hk)) ?_
  refine⟨by omega,⟨by unfold maxLen;omega,by omega⟩,by omega,⟨by unfold maxLen;omega,by omega⟩,?_,?_⟩
  ·refine bE (fun n=>if n=jk then 20 else n - bs.length) ?_
   simp only[zMe,zMf,cM,dZ,zMb,zMi,n0,n2,eq_self,if_true,if_false]
   exact av (by kernel_rfl)
  ·refine⟨bs.length+4,bs.length+6,true,true,(Kp.refl bs).app _,by omega,by omega,?_,?_,by simp[tv]⟩
   ·rw[aQ];simp
   ·rw[aQ];simp[tv]
 ·have hj:ji<bs.length:=(zL8.1 hi).1
  have iB:jk<bs.length:=(zL8.1 hk).1
  have bt:(ji=jk)=False:=eq_false (by rintro rfl;rw[hi]at hk;simp at hk)
  have n0:∀ q,(bs.length+q=jk)=False:=fun q=>eq_false (by omega)
  have n1:∀ q,(bs.length+q=ji)=False:=fun q=>eq_false (by omega)
  have n2:(bs.length=jk)=False:=eq_false (by omega)
  have n3:(bs.length=ji)=False:=eq_false (by omega)
  refine gA (zL7 nG (zL7 (ad hi) (ad hk))) ?_
  refine⟨by omega,⟨by unfold maxLen;omega,by omega⟩,by omega,⟨by unfold maxLen;omega,by omega⟩,?_,?_⟩
  ·refine bE (fun n=>if n=jk then 20 else if n=ji then 21 else n - bs.length) ?_
   simp only[zMe,zMf,cM,dZ,zMb,zMi,n0,n1,n2,n3,bt,eq_self,if_true,if_false]
   exact av (by kernel_rfl)
  ·refine⟨bs.length+4,bs.length+6,true,true,(Kp.refl bs).app _,by omega,by omega,?_,?_,by simp[tv]⟩
   ·rw[aQ];simp
   ·rw[aQ];simp[tv]
theorem Tr.one {b:List aw}:∀ {d:Nat}{v:Tv},Tr b d v→mQ b.length v:=Tr.lb
theorem tW {bs:List aw}{v x:Tv}{d n:Nat}(hv:Ob bs d n v)(hn:n≤900)(key:Bytes)(hk:key.length≤20000)(hx:Tr bs d x):∃ v' A B,Ob (bs++[A,B]) d (n+1) v'∧SC Tryz.V 137 [.agg (tv v),.str key,.agg (tv x)] bs (fun r b=>r=.agg (tv v')∧b=bs++[A,B]):=by
 obtain⟨h1,h2,K,L,h3,h4,h5,h6,h7,h8⟩:=hv
 have hr:Ro bs (bs++[.own ((K++[key]).map SV.str) 9 1 (K++[key]).length false,.own ((L++[x]).flatMap tv) 139 4 (L++[x]).length false]):=(Ro.refl bs).app _
 refine⟨_,_,_,?_,ni h3 h4 (by omega) (by omega) key hx.lb (fun y hy=>(h8 y hy).lb)⟩
 refine⟨h1,h2,K++[key],L++[x],.inr ⟨_,rfl,aI _ _⟩,.inr ⟨_,rfl,aQ _ _ 1⟩,by simp[h5],by simp;omega,fun s hs=>?_,fun y hy=>?_⟩
 ·rcases zMh.1 hs with hs|hs
  ·exact h7 s hs
  ·rw[zMa.1 hs];exact hk
 ·rcases zMh.1 hy with hy|hy
  ·exact(h8 y hy).ro hr
  ·rw[zMa.1 hy];exact hx.ro hr
theorem se {bs b:List aw}{r:SV}(hk:Kp bs b)(hr:within bs.length r=true)(n:Nat){P:SV→List aw→Prop}(hP:P r (bs++List.replicate n .gone)) :
 ∃ (ρ:Nat→Nat) (Xs:List aw) (r2:SV),Kp bs b∧(∀ k,k<bs.length→ρ k=k)∧(∀ q X,Xs[q]? = some X→Kept bs b ρ (bs.length+Xs.length) (bs.length+q) X)∧r=HK ρ r2∧within (bs.length+Xs.length) r2=true∧P r2 (bs++Xs) :=
 ⟨id,List.replicate n .gone,r,hk,fun _ _=>rfl,fun q X h=>.inl (by
  have:=(zL8.1 h)
  obtain⟨h1,h2⟩:=this
  rw[List.getElem_replicate]at h2
  exact h2.symm),(uP (fun _ _=>rfl) _ hr).symm,nW (by omega) hr,hP⟩
theorem tX {bs:List aw}{v:Tv}{d n:Nat}(hv:Ob bs (d+1) n v)(hn:n≤900)(key:Bytes)(hk:key.length≤20000)(s:Bytes)(hs:s.length≤20000):∃ v' A B,Ob (bs++[A,B]) (d+1) (n+1) v'∧SC Tryz.V 136 [.agg (tv v),.str key,.str s] bs (fun r b=>r=.agg (tv v')∧b=bs++[A,B]):=by
 have hw:=hv.within
 have hw':=hw
 have j1:(one v.xk&&one v.xi)=true:=by
  obtain⟨_,_,_,_,h3,h4,_⟩:=hv
  rw[h3.one,h4.one];rfl
 simp only[within,within.ax,tv,Bool.and_true,Bool.true_and,Bool.and_eq_true]at hw'
 by_cases lE:s=[]
 ·refine⟨v,.gone,.gone,(hv.ro ((Ro.refl bs).app _)).up (by omega),SC.pick (SC.mono (R:=fun r b=>Kp bs b∧r=.agg (tv v)) ?_ ?_)⟩
  ·have hb:(s==[])=true:=by simp[lE]
   refine bJ 3000 Tryz.func136 rfl Tryz.ntmps136 Tryz.results136 Tryz.call136 (by simp) (aj bs.length _ (by simp[within,within.ax,tv,hw'])) ?_
   unfold tv
   refine gA (zL7 hb j1) ?_
   exact(Kp.refl bs).app _
  ·rintro r b ⟨h1,rfl⟩
   exact se (P:=fun r b=>r=.agg (tv v)∧b=bs++[.gone,.gone]) h1 hw 2 ⟨rfl,rfl⟩
 ·obtain⟨h1,h2,K,L,h3,h4,h5,h6,h7,h8⟩:=hv
  have ht:=Tr.text bs d s hs
  have hr:Ro bs (bs++[.own ((K++[key]).map SV.str) 9 1 (K++[key]).length false,.own ((L++[(⟨5,s,.ah,.ah⟩:Tv)]).flatMap tv) 139 4 (L++[(⟨5,s,.ah,.ah⟩:Tv)]).length false]):=(Ro.refl bs).app _
  refine⟨⟨v.k,v.t,.o bs.length (K++[key]).length,.o (bs.length+1) (L++[(⟨5,s,.ah,.ah⟩:Tv)]).length⟩,.own ((K++[key]).map SV.str) 9 1 (K++[key]).length false,.own ((L++[(⟨5,s,.ah,.ah⟩:Tv)]).flatMap tv) 139 4 (L++[(⟨5,s,.ah,.ah⟩:Tv)]).length false,⟨h1,h2,K++[key],L++[(⟨5,s,.ah,.ah⟩:Tv)],.inr ⟨_,rfl,aI _ _⟩,.inr ⟨_,rfl,aQ _ _ 1⟩,by simp[h5],by simp;omega,fun s hs=>?_,fun y hy=>?_⟩,SC.pick (SC.mono (R:=CR bs v (⟨5,s,.ah,.ah⟩:Tv) K L key) ?_ (fun r b h=>h.pick ht.lb (fun y hy=>(h8 y hy).lb)))⟩
  ·rcases zMh.1 hs with hs|hs
   ·exact h7 s hs
   ·rw[zMa.1 hs];exact hk
  ·rcases zMh.1 hy with hy|hy
   ·exact(h8 y hy).ro hr
   ·rw[zMa.1 hy];exact Tr.text _ d s hs
  have hb:(s==[])=false:=by simp[lE]
  have p1:=jH s
  have s1:=fun A B=>ni (bs:=bs++[A,B]) (h3.ro ((Ro.refl bs).app _)) (h4.ro ((Ro.refl bs).app _)) (by omega) (by omega) key (x:=(⟨5,s,.ah,.ah⟩:Tv)) (ht.lb.up (by simp)) (fun y hy=>(h8 y hy).lb.up (by simp))
  refine bJ 3000 Tryz.func136 rfl Tryz.ntmps136 Tryz.results136 Tryz.call136 (by simp) (aj bs.length _ (by simp[within,within.ax,tv,hw'])) ?_
  unfold tv at p1 s1 ⊢
  refine gA (zL7 hb j1) ?_
  (refine aW (p1) ?_;refine dz ?_)
  refine aS [(bs.length+2,0,0),(bs.length+3,0,0)] (s1 _ _) ?_ ?_
  ·exact outs2 (by simp) (by simp) _ _
  refine dz ?_
  refine⟨?_,bs.length+2,bs.length+3,false,false,(Kp.refl bs).app _,by omega,by omega,?_,?_,by simp[tv]⟩
  ·(refine bE (fun n=>n - bs.length) ?_;simp only[zMe,zMf,cM,dZ,zMb,zMi,if_true];exact av (by kernel_rfl))
  ·rw[aQ];simp
  ·rw[aQ];simp;rfl
theorem nZ {bs:List aw}{v x:Tv}{d n:Nat}(hv:Ob bs d n v)(hn:n≤900)(key:Bytes)(hk:key.length≤20000)(hx:Tr bs d x):∃ v' A B,Ob (bs++[A,B]) d (n+1) v'∧SC Tryz.V 189 [.agg (tv v),.str key,.agg (tv x)] bs (fun r b=>r=.agg (tv v')∧b=bs++[A,B]):=by
 have hw:=hv.within
 simp only[within,within.ax,tv,Bool.and_true,Bool.true_and,Bool.and_eq_true]at hw
 obtain⟨h1,h2,K,L,h3,h4,h5,h6,h7,h8⟩:=hv
 have hr:Ro bs (bs++[.own ((K++[key]).map SV.str) 9 1 (K++[key]).length false,.own ((L++[x]).flatMap tv) 139 4 (L++[x]).length false]):=(Ro.refl bs).app _
 have hxi:=hx.lb
 refine⟨⟨v.k,v.t,.o bs.length (K++[key]).length,.o (bs.length+1) (L++[x]).length⟩,.own ((K++[key]).map SV.str) 9 1 (K++[key]).length false,.own ((L++[x]).flatMap tv) 139 4 (L++[x]).length false,⟨h1,h2,K++[key],L++[x],.inr ⟨_,rfl,aI _ _⟩,.inr ⟨_,rfl,aQ _ _ 1⟩,by simp[h5],by simp;omega,fun s hs=>?_,fun y hy=>?_⟩,SC.pick (SC.mono (R:=CR bs v x K L key) ?_ (fun r b h=>h.pick hxi (fun y hy=>(h8 y hy).lb)))⟩
 ·rcases zMh.1 hs with hs|hs
  ·exact h7 s hs
  ·rw[zMa.1 hs];exact hk
 ·rcases zMh.1 hy with hy|hy
  ·exact(h8 y hy).ro hr
  ·rw[zMa.1 hy];exact hx.ro hr
 have s1:=fun X=>ni (bs:=bs++X) (h3.ro ((Ro.refl bs).app _)) (h4.ro ((Ro.refl bs).app _)) (by omega) (by omega) key (hxi.up (by simp)) (fun y hy=>(h8 y hy).lb.up (by simp))
 obtain⟨x1,x2,x3,x4⟩:=hxi
 refine bJ 3000 Tryz.func189 rfl Tryz.ntmps189 Tryz.results189 Tryz.call189 (by simp) (aj bs.length _ (by simp[within,within.ax,tv,hw,x1,x2])) ?_
 unfold tv at s1 ⊢
 refine dz ?_
 refine ae (s1 _) ?_
 rintro r b ⟨rfl,rfl⟩
 refine dz ?_
 refine⟨bs.length+3,bs.length+4,false,false,(Kp.refl bs).app _,by omega,by omega,?_,?_,by simp[tv]⟩
 ·rw[aQ];simp
 ·rw[aQ];simp;rfl
theorem lR {bs:List aw}{v:Tv}(hv:mQ bs.length v)(key:Bytes):SC Tryz.V 139 [.agg (tv v),.str key,.ah] bs (fun r b=>r=.agg (tv v)∧b=bs):=by
 obtain⟨h1,h2,h3,h4⟩:=hv
 have j1:(one v.xk&&one v.xi)=true:=by rw[h3,h4];rfl
 refine SC.pick (SC.mono (R:=fun r b=>Kp bs b∧r=.agg (tv v)) ?_ ?_)
 ·refine bJ 3000 Tryz.func139 rfl Tryz.ntmps139 Tryz.results139 Tryz.call139 (by simp) (aj bs.length _ (by simp[within,within.ax,tv,h1,h2])) ?_
  unfold tv
  refine gA j1 ?_
  exact(Kp.refl bs).app _
 ·rintro r b ⟨hk,rfl⟩
  exact se (P:=fun r b=>r=.agg (tv v)∧b=bs) hk (by simp[within,within.ax,tv,h1,h2]) 0 ⟨rfl,by simp⟩
def txt (s:Bytes):Tv:=⟨5,s,.ah,.ah⟩
def ArrR (bs:List aw)(L:List Bytes)(r:SV)(b:List aw):Prop:=∃ y,Kp bs b∧r=.agg (tv ⟨6,[],.ah,y⟩)∧((y=.ah∧L=[])∨∃ q m,0<L.length∧y=.o q L.length∧bs.length≤q∧b[q]? = some (.own ((L.map txt).flatMap tv) 139 4 L.length m))
theorem Hj {L:List Bytes}{k:Nat}(h:k<L.length):((L.take (k+1)).map txt).flatMap tv=((L.take k).map txt).flatMap tv++[.int .i64 5,.str L[k],.ah,.ah]:=by
 rw[List.take_succ_eq_append_getElem h,List.map_append,zMk]
 rfl
theorem ED {bs:List aw}{x:SV}{L:List Bytes}(hx:Rs bs x L)(hL:L.length≤1000):SC Tryz.V 138 [x] bs (ArrR bs L):=by
 have zB:=hx.within
 have p1:=jH
 refine bJ 3000 Tryz.func138 rfl Tryz.ntmps138 Tryz.results138 Tryz.call138 (by simp) (aj bs.length _ (by simp[within,within.ax,zB])) ?_
 unfold tv at p1
 rcases hx with⟨rfl,rfl⟩|⟨j,rfl,hj⟩
 ·refine dz ?_
  refine az (fun σ=>lk 8 σ.t=some (.int .i64 0)∧lk 9 σ.t=some (.int .i64 0)∧lk 2 σ.t=some (.p bs.length 0)∧lk 3 σ.t=some (.p (bs.length+1) 0)∧σ.b=bs++[.cells [.int .i64 0,.str [],.ah,.ah] 139 true,.cells [.int .i64 6,.str [],.ah,.ah] 139 true]) (fun _=>1) ⟨rfl,rfl,rfl,rfl,rfl⟩ ?_
  rintro⟨t,b⟩ ⟨h8,h9,h2,h3,hb⟩
  simp only at h8 h9 h2 h3 hb
  subst hb
  refine gA (zL7 h8 (zL7 h9 (zL7 h2 h3))) ?_
  exact⟨.ah,(Kp.refl bs).app _,rfl,.inl ⟨rfl,rfl⟩⟩
 ·have iG:=(zL8.1 hj).1
  refine dz ?_
  refine az (fun σ=>∃ (k:Nat) (y:SV),k≤L.length∧lk 7 σ.t=some (.o j L.length)∧lk 8 σ.t=some (.int .i64 L.length)∧lk 9 σ.t=some (.int .i64 k)∧lk 2 σ.t=some (.p bs.length 0)∧lk 3 σ.t=some (.p (bs.length+1) 0)∧Kp bs σ.b∧σ.b[bs.length]? = some (.cells [.int .i64 0,.str [],.ah,.ah] 139 true)∧σ.b[bs.length+1]? = some (.cells [.int .i64 6,.str [],.ah,y] 139 true) ∧
   ((y=.ah∧k=0)∨∃ q,0<k∧y=.o q k∧bs.length+1<q∧σ.b[q]? = some (.own (((L.take k).map txt).flatMap tv) 139 4 k true))) (fun σ=>L.length - fC 9 σ) ⟨0,.ah,by omega,rfl,rfl,rfl,rfl,rfl,(Kp.refl bs).app _,aI _ _,aQ _ _ 1,.inl ⟨rfl,rfl⟩⟩ ?_
  rintro⟨t,b⟩ ⟨k,y,hk,h7,h8,h9,h2,h3,bf,de,eQ,hy⟩
  simp only at h7 h8 h9 h2 h3 bf de eQ hy
  rw[ao h9]
  have pC:=(zL8.1 eQ).1
  have tm:=bf.at hj
  by_cases aC:k<L.length
  ·have bg:decide ((k:Int)<L.length)=true:=decide_eq_true (by omega)
   have Cc:(L.map SV.str)[k * 1]? = some (.str L[k]):=by simp[aC]
   have dL:∀ (l:List aw) X,(b++l).set (bs.length+1) X=b.set (bs.length+1) X++l:=fun l X=>aK pC l X
   have hsn:=Hj aC
   rcases hy with⟨rfl,rfl⟩|⟨q,lh,rfl,hq,bU⟩
   ·refine gA (zL7 h7 (zL7 h8 (zL7 h9 (zL7 h2 (zL7 h3 (zL7 tm (zL7 eQ (zL7 (ad eQ) (zL7 Cc (zL7 bg dL)))))))))) ?_
    refine⟨by omega,by simp;omega,?_⟩
    (refine aW (p1 _) ?_;refine gA (zL7 h7 (zL7 h8 (zL7 h9 (zL7 h2 (zL7 h3 (zL7 (ad eQ) dL)))))) ?_)
    have z1:(b.length=bs.length+1)=False:=eq_false (by omega)
    have z2:(b.length+1=bs.length+1)=False:=eq_false (by omega)
    refine⟨by omega,⟨by unfold maxLen;omega,by omega⟩,?_,by omega,⟨1,.o (b.length+1) 1,by omega,rfl,(bf.set (by omega) _).app _,ad (ak de (by omega) _) _,bN pC _ _,.inr ⟨b.length+1,by omega,rfl,by omega,?_⟩⟩,?_⟩
    ·refine bE (fun n=>if n=bs.length+1 then 0 else n - b.length+2) ?_
     simp only[zMe,zMf,cM,dZ,zMb,zMi,z1,z2,eq_self,if_true,if_false]
     exact av (by kernel_rfl)
    ·rw[aJ (by simp),hsn];rfl
    ·rw[ao (show lk 9 _=some (.int .i64 ((1:Nat):Int)) from rfl)];omega
   ·have kK:=(zL8.1 bU).1
    have kR:∀ (l:List aw) X,(b++l).set q X=b.set q X++l:=fun l X=>aK kK l X
    refine gA (zL7 h7 (zL7 h8 (zL7 h9 (zL7 h2 (zL7 h3 (zL7 tm (zL7 eQ (zL7 (ad eQ) (zL7 (ad bU) (zL7 Cc (zL7 bg (zL7 dL kR)))))))))))) ?_
    refine⟨by omega,by simp;omega,?_⟩
    have jY:q≠bs.length+1:=by omega
    have vH:∀ (l:List aw) Y X,(b.set q Y++l).set (bs.length+1) X=(b.set q Y).set (bs.length+1) X++l:=fun l Y X=>aK (by simpa using pC) l X
    have gF:=fun Y=>ad (ak eQ jY Y)
    (refine aW (p1 _) ?_;refine gA (zL7 h7 (zL7 h8 (zL7 h9 (zL7 h2 (zL7 h3 (zL7 (ad eQ) (zL7 (ad bU) (zL7 dL (zL7 kR (zL7 vH gF)))))))))) ?_)
    have z1:(b.length=bs.length+1)=False:=eq_false (by omega)
    have z2:(b.length+1=bs.length+1)=False:=eq_false (by omega)
    have z3:(q=bs.length+1)=False:=eq_false (by omega)
    have z4:(b.length=q)=False:=eq_false (by omega)
    have z5:(b.length+1=q)=False:=eq_false (by omega)
    refine⟨by omega,⟨by unfold maxLen;omega,by omega⟩,?_,by omega,⟨k+1,.o (b.length+1) (k+1),by omega,rfl,((bf.set (by omega) _).set (by omega) _).app _,ad (ak (ak de (by omega) _) (by omega) _) _,bN (by simpa using pC) _ _,.inr ⟨b.length+1,by omega,rfl,by omega,?_⟩⟩,?_⟩
    ·refine bE (fun n=>if n=bs.length+1 then 0 else if n=q then 1 else n - b.length+2) ?_
     simp only[zMe,zMf,cM,dZ,zMb,zMi,z1,z2,z3,z4,z5,eq_self,if_true,if_false]
     exact av (by kernel_rfl)
    ·rw[aJ (by simp),hsn];rfl
    ·rw[ao (show lk 9 _=some (.int .i64 ((k+1:Nat):Int)) from rfl)];omega
  ·have bg:decide ((k:Int)<L.length)=false:=decide_eq_false (by omega)
   have hb0l:=(zL8.1 de).1
   have lE:∀ X,(b.set bs.length X)[bs.length]? = some X:=fun X=>zMg hb0l
   have F0:one y=true:=by rcases hy with⟨rfl,-⟩|⟨q,-,rfl,-⟩ <;> rfl
   obtain rfl:k=L.length:=by omega
   refine gA (zL7 h8 (zL7 h9 (zL7 h2 (zL7 h3 (zL7 bg (zL7 de (zL7 eQ (zL7 lE F0)))))))) ?_
   refine⟨y,bf.set (zMx _) _,rfl,?_⟩
   rcases hy with⟨rfl,h0⟩|⟨q,lh,rfl,hq,bU⟩
   ·exact .inl ⟨rfl,zMn.1 h0⟩
   ·rw[List.take_length]at bU
    exact .inr ⟨q,true,lh,rfl,by omega,ak bU (by omega) _⟩
theorem re {bs:List aw}{x:SV}{L:List Bytes}(hx:Rs bs x L)(hL:L.length≤16)(hs:∀ s∈L,s.length≤20000):∃ v' A,Tr (bs++[A]) 2 v'∧SC Tryz.V 138 [x] bs (fun r b=>r=.agg (tv v')∧b=bs++[A]):=by
 by_cases h0:L=[]
 ·subst h0
  refine⟨⟨6,[],.ah,.ah⟩,.gone,⟨by simp,.inr (.inr (.inl rfl)),[],[],.inl ⟨rfl,rfl⟩,.inl ⟨rfl,rfl⟩,by simp,by simp,by simp,by simp,by simp,by simp⟩,SC.pick ((ED hx (by omega)).mono ?_)⟩
  rintro r b ⟨y,hk,rfl,⟨rfl,-⟩|⟨q,m,h0,-⟩⟩
  ·exact se (P:=fun r b=>r=.agg (tv ⟨6,[],.ah,.ah⟩)∧b=bs++[.gone]) hk (by simp[within,within.ax,tv]) 1 ⟨rfl,rfl⟩
  ·exact absurd h0 (by simp)
 ·refine⟨⟨6,[],.ah,.o bs.length L.length⟩,.own ((L.map txt).flatMap tv) 139 4 L.length false,⟨by simp,.inr (.inr (.inl rfl)),[],L.map txt,.inl ⟨rfl,rfl⟩,.inr ⟨bs.length,by simp,by rw[aI];simp⟩,by simp,by simpa using hL,by simp,by simp,by simp,fun y hy=>?_⟩,SC.pick ((ED hx (by omega)).mono ?_)⟩
  ·obtain⟨s,h1,rfl⟩:=List.mem_map.1 hy
   exact Tr.text _ 0 s (hs s h1)
  ·rintro r b ⟨y,hk,rfl,⟨-,hn⟩|⟨q,m,h0,rfl,hq,bU⟩⟩
   ·exact absurd hn h0
   ·have hρ:∀ k,k<bs.length→(fun i=>if i=bs.length then q else i) k=k:=fun k hk=>by
     show (if k=bs.length then q else k)=k
     rw[if_neg (by omega)]
    have w2:∀ m,within.ax m ((L.map txt).flatMap tv)=true:=fun m=>mQ.all (fun y hy=>by
     obtain⟨s,h1,rfl⟩:=List.mem_map.1 hy
     exact⟨rfl,rfl,rfl,rfl⟩)
    refine⟨fun i=>if i=bs.length then q else i,[.own ((L.map txt).flatMap tv) 139 4 L.length false],_,hk,hρ,?_,?_,?_,rfl,rfl⟩
    ·rintro p X hp
     match p,hp with
     | 0,hp =>
       cases hp
       refine .inr ⟨_,_,_,_,m,rfl,?_,?_,w2 _⟩
       ·simpa using hq
       ·rw[ez hρ _ (w2 _)];simpa using bU
    ·simp[HK,nk,tv]
    ·simp[within,within.ax,tv]
theorem Ro.cell {a b:List aw}(h:Ro a b){i:Nat}{c:List SV}{T:TypeId}{m:Bool}(hi:b[i]? = some (.cells c T m))(X:aw):Ro a (b.set i X):=h.set (fun c e s n hx=>by rw[hi]at hx;cases hx) X
structure Lk where
 rel:Bytes
 type:Bytes
 DZ:Bytes
 jz:Bytes
def lc (l:Lk):List SV:=[.str l.rel,.str l.type,.str l.DZ,.str l.jz,.ah,.ah]
def LkB (l:Lk):Prop:=l.rel.length≤20000∧l.type.length≤20000∧l.DZ.length≤20000∧l.jz.length≤20000
def Rl (b:List aw)(x:SV)(L:List Lk):Prop:=(x=.ah∧L=[])∨∃ j,x=.o j L.length∧b[j]? = some (.own (L.flatMap lc) 132 6 L.length false)
theorem Rl.within {b:List aw}{x:SV}{L:List Lk}(h:Rl b x L):Vc.within b.length x=true:=by
 rcases h with⟨rfl,-⟩|⟨j,rfl,h2⟩
 ·rfl
 ·have:=(zL8.1 h2).1
  simp[Vc.within,this]
theorem Rl.one {b:List aw}{x:SV}{L:List Lk}(h:Rl b x L):Vc.one x=true:=by
 rcases h with⟨rfl,-⟩|⟨j,rfl,h2⟩ <;> rfl
theorem lc_at (L:List Lk)(k:Nat)(h:k<L.length):((L.flatMap lc).drop (k * 6)).take 6=lc L[k]:=lT lc 6 (fun _=>rfl) L k h
theorem lc_len (L:List Lk):(L.flatMap lc).length=L.length * 6:=iq lc 6 (fun _=>rfl) L
theorem Rs.len {b:List aw}{x:SV}{L:List Bytes}(h:Rs b x L)(e:TypeId):vz (.slice e) x=some (.int .i64 L.length):=by
 rcases h with⟨rfl,rfl⟩|⟨j,rfl,-⟩ <;> rfl
theorem Rl.len {b:List aw}{x:SV}{L:List Lk}(h:Rl b x L)(e:TypeId):vz (.slice e) x=some (.int .i64 L.length):=by
 rcases h with⟨rfl,rfl⟩|⟨j,rfl,-⟩ <;> rfl
theorem Ob.one {b:List aw}{d n:Nat}{v:Tv}:Ob b d n v→(Vc.one v.xk&&Vc.one v.xi)=true
 | ⟨_,_,_,_,h3,h4,_⟩=>by rw[h3.one,h4.one];rfl
theorem Ob.lb {b:List aw}{d n:Nat}{v:Tv}:Ob b d n v→mQ b.length v
 | ⟨_,_,_,_,h3,h4,_⟩=>⟨h3.within,h4.within,h3.one,h4.one⟩
theorem Ro.grow {b:List aw}(l l2:List aw):Ro (b++l) (b++(l++l2)):=by
 rw[← zMo]
 exact(Ro.refl _).app _
theorem Ro.pre {b b':List aw}(h:Ro b b')(hl:b'.length=b.length)(l l2:List aw):Ro (b++l) (b'++(l++l2)):=fun j c e s n hj=>by
 rcases Nat.lt_or_ge j b.length with h1|h1
 ·rw[List.getElem?_append_left h1]at hj
  exact ad (h _ _ _ _ _ hj) _
 ·rw[zMv h1]at hj
  rw[zMv (by omega),hl]
  exact ad hj _
theorem Ro.list {b:List aw}(l1:List aw)(c:List SV)(T:TypeId)(m:Bool)(X:aw)(l2:List aw):Ro (b++(l1++.cells c T m::l2)) (b++(l1++X::l2)):=fun j c' e s n h=>by
 rw[← zMo]at h ⊢
 rcases Nat.lt_trichotomy j (b++l1).length with hj|hj|hj
 ·rw[List.getElem?_append_left hj]at h ⊢
  exact h
 ·subst hj
  rw[aI]at h
  cases h
 ·obtain⟨q,rfl⟩:∃ q,j=(b++l1).length+(q+1):=⟨j - (b++l1).length - 1,by omega⟩
  rw[aQ]at h ⊢
  exact h
theorem fG {bs:List aw}(s:Bytes)(hs:s.length≤20000){x:SV}{A:List Bytes}(hx:Rs bs x A)(hA:A.length≤16)(hAs:∀ a∈A,a.length≤20000){y:SV}{L:List Lk}(hy:Rl bs y L)(hL:L.length≤16)(hLs:∀ l∈L,LkB l) :
 SC Tryz.V 77 [.agg [.str s,x,.ah,y]] bs (fun r b=>∃ v,r=.agg (tv v)∧Kp bs b∧Tr b 4 v):=by
 refine SC.si ?_
 have zB:=hx.within
 have hyw:=hy.within
 have nG:=hx.one
 have F0:=hy.one
 refine bJ 3000 Tryz.func77 rfl Tryz.ntmps77 Tryz.results77 Tryz.call77 (by simp) (aj bs.length _ (by simp[within,within.ax,zB,hyw])) ?_
 obtain⟨v1,A1,B1,ho1,s1⟩:=tX (bs:=bs++[.cells [.str s,x,.ah,y] 135 true,.cells [.int .i64 0,.str [],.ah,.ah] 139 true]) (v:=⟨7,[],.ah,.ah⟩) (n:=0) (Ob.zero _ (2+1) 0) (by omega) ([115,117,98,106,101,99,116]:List UInt8) (by decide) s hs
 unfold tv at s1
 refine dz ?_
 refine ae s1 ?_
 rintro r b ⟨rfl,rfl⟩
 have o1:=ho1.one
 have hlx:=hx.len
 have hly:=hy.len
 refine gA (zL7 nG (zL7 F0 (zL7 zMr (zL7 o1 (zL7 hlx hly))))) ?_
 refine⟨fun hc=>?_,fun hc=>?_⟩
 obtain⟨v2,C,ht2,s2⟩:=re (bs:=bs++[.cells [.str s,x,.ah,y] 135 true,.cells [.int .i64 0,.str [],.ah,.ah] 139 true,A1,B1,.cells (tv v1) 139 true]) (hx.ro ((Ro.refl bs).app _)) hA hAs
 obtain⟨v,D,E,hv,s3⟩:=tW (ho1.ro (b:=bs++[.cells [.str s,x,.ah,y] 135 true,.cells [.int .i64 0,.str [],.ah,.ah] 139 true,A1,B1,.cells (tv v1) 139 true]++[C]) (by
  have:=(Ro.refl (bs++[.cells [.str s,x,.ah,y] 135 true,.cells [.int .i64 0,.str [],.ah,.ah] 139 true,A1,B1])).app [.cells (tv v1) 139 true,C]
  simpa using this)) (by omega) ([97,108,105,97,115,101,115]:List UInt8) (by decide) (x:=v2) (ht2.up)
 unfold tv at s2 s3
 simp only[zMo,zMq,zMs]at s2 s3
 refine aS [(bs.length+5,0,0)] s2 (rN [_,_,_,_,_] rfl _) ?_
 refine dz ?_
 refine aS [(bs.length+6,0,0),(bs.length+7,0,0)] s3 (iE [_,_,_,_,_,_] rfl rfl _ _) ?_
 have o2:=hv.one
 have hv:Ob (bs++[.cells [.str s,x,.ah,y] 135 true,.cells [.int .i64 0,.str [],.ah,.ah] 139 true,A1,B1,.cells (tv v) 139 true,C,D,E]) 3 2 v:=by
  refine hv.ro ?_
  have:=Ro.list (b:=bs) [.cells [.str s,x,.ah,y] 135 true,.cells [.int .i64 0,.str [],.ah,.ah] 139 true,A1,B1] (tv v1) 139 true (.cells (tv v) 139 true) [C,D,E]
  simpa using this
 refine gA o2 ?_
 refine⟨by(refine bE (fun n=>n - bs.length) ?_;simp only[zMe,zMf,cM,dZ,zMb,zMi,if_true];exact av (by kernel_rfl)),?_⟩
 have C3:=hv.lb
 have s4:=lR hv.lb ([112,114,111,112,101,114,116,105,101,115]:List UInt8)
 unfold tv at s4
 refine ae s4 ?_
 rintro r b ⟨rfl,rfl⟩
 refine gA (zL7 F0 (zL7 hly o2)) ?_
 rotate_left
 obtain⟨v,hvd⟩:∃ v,v=v1:=⟨_,rfl⟩
 subst hvd
 have hv:=(ho1.up (m:=2) (by omega)).ro (b:=bs++[.cells [.str s,x,.ah,y] 135 true,.cells [.int .i64 0,.str [],.ah,.ah] 139 true,A1,B1,.cells (tv v) 139 true]) (by simpa using(Ro.refl (bs++[.cells [.str s,x,.ah,y] 135 true,.cells [.int .i64 0,.str [],.ah,.ah] 139 true,A1,B1])).app [.cells (tv v) 139 true])
 have s4:=lR hv.lb ([112,114,111,112,101,114,116,105,101,115]:List UInt8)
 have o2:=hv.one
 unfold tv at s4
 refine ae s4 ?_
 rintro r b ⟨rfl,rfl⟩
 refine gA (zL7 F0 (zL7 hly o2)) ?_
 rotate_left
 all_goals
  refine⟨fun hz=>⟨by omega,v,rfl,((Kp.refl bs).app _).fM,((hv.ro (Ro.list (b:=bs) [_] _ _ _ _ _)).ro (eZ (by simp)).ro).tr (by omega)⟩,fun hz=>?_⟩
  refine az (fun σ=>∃ (k li:Nat) (y':SV) (Is:List Tv),k≤L.length∧lk 2 σ.t=some (.p (bs.length+1) 0)∧lk 3 σ.t=some (.p (bs.length+4) 0)∧lk 4 σ.t=some (.p li 0)∧lk 32 σ.t=some y∧lk 33 σ.t=some (.int .i64 L.length)∧lk 34 σ.t=some (.int .i64 k)∧Kp bs σ.b∧σ.b[bs.length+1]? = some (.cells [.int .i64 0,.str [],.ah,.ah] 139 true) ∧
   σ.b[bs.length+4]? = some (.cells (tv v) 139 true)∧σ.b[li]? = some (.cells [.int .i64 6,.str [],.ah,y'] 139 true)∧bs.length+4<li∧Ob σ.b 3 2 v∧Is.length=k∧(∀ x∈Is,Tr σ.b 2 x) ∧
   ((y'=.ah∧k=0)∨∃ q,0<k∧y'=.o q k∧li<q∧σ.b[q]? = some (.own (Is.flatMap tv) 139 4 k true))) (fun σ=>L.length - fC 34 σ) ?_ ?_
  ·refine⟨0,_,.ah,[],by omega,rfl,rfl,rfl,rfl,rfl,rfl,(Kp.refl bs).app _,aQ _ _ 1,aQ _ _ 4,aQ _ _ _,by omega,?_,rfl,by simp,.inl ⟨rfl,rfl⟩⟩
   exact hv.ro (by first|exact Ro.grow [_,_,_,_,_] [_] | exact Ro.grow [_,_,_,_,_,_,_,_] [_])
  ·rintro⟨t,b⟩ ⟨k,li,y',Is,hk,h2,h3,h4,j6,jP,ky,bf,eQ,oz,pB,ov,B9,Ck,zL,hy'⟩
   simp only at h2 h3 h4 j6 jP ky bf eQ oz pB B9 zL hy'
   rw[ao ky]
   have pC:=(zL8.1 eQ).1
   have hb4l:=(zL8.1 oz).1
   have tM:=(zL8.1 pB).1
   unfold tv at oz
   by_cases aC:k<L.length
   ·have bg:decide ((k:Int)<L.length)=true:=decide_eq_true (by omega)
    rcases hy with⟨rfl,rfl⟩|⟨j,rfl,hj⟩
    ·exact absurd aC (by simp)
    have tm:=bf.at hj
    have hu:zMp 6 (zMt (k * 6) (L.flatMap lc))=[.str L[k].rel,.str L[k].type,.str L[k].DZ,.str L[k].jz,.ah,.ah]:=lc_at L k aC
    have oL:=lc_len L
    obtain⟨m1,m2,m3,m4⟩:=hLs L[k] (zMj aC)
    generalize L[k]=l at hu m1 m2 m3 m4
    have p1:=jH l.rel
    obtain⟨x1,A2,B2,BW,t1⟩:=tW (bs:=b++[.cells [.str l.rel,.str l.type,.str l.DZ,.str l.jz,.ah,.ah] 132 true]) (Ob.zero _ 1 0) (by omega) ([114,101,108]:List UInt8) (by decide) (Tr.text _ 0 l.rel m1)
    obtain⟨x2,A3,B3,GV,t2⟩:=tX (bs:=b++[.cells [.str l.rel,.str l.type,.str l.DZ,.str l.jz,.ah,.ah] 132 true,A2,B2,.cells (tv x1) 139 true]) (d:=0) (BW.ro (by simpa using Ro.grow (b:=b) [.cells [.str l.rel,.str l.type,.str l.DZ,.str l.jz,.ah,.ah] 132 true,A2,B2] [.cells (tv x1) 139 true])) (by omega) ([116,121,112,101]:List UInt8) (by decide) l.type m2
    obtain⟨x3,A4,B4,hx3,t3⟩:=tX (d:=0) GV (by omega) ([104,114,101,102]:List UInt8) (by decide) l.DZ m3
    obtain⟨x4,A5,B5,F1,t4⟩:=tX (d:=0) hx3 (by omega) ([116,101,109,112,108,97,116,101]:List UInt8) (by decide) l.jz m4
    have hx5:=F1
    simp only[zMo,zMq,zMs]at t2 t3 t4 F1
    replace F1:=F1.ro (Ro.list (b:=b) [_,_,_] (tv x1) 139 true (.cells (tv x4) 139 true) [_,_,_,_,_,_])
    unfold tv at p1 t1 t2 t3 t4
    have u1:=BW.one
    have u4:=F1.one
    refine gA (zL7 h2 (zL7 h3 (zL7 h4 (zL7 j6 (zL7 jP (zL7 ky (zL7 bg (zL7 tm hu)))))))) ?_
    refine⟨by omega,by omega,?_⟩
    (refine aa (p1) ?_;refine dz ?_)
    refine ae t1 ?_
    rintro r b1 ⟨rfl,rfl⟩
    refine gA u1 ?_
    refine aS [(b.length+4,0,0),(b.length+5,0,0)] t2 (iE [_,_,_,_] rfl rfl _ _) ?_
    refine dz ?_
    refine aS [(b.length+6,0,0),(b.length+7,0,0)] t3 (iE [_,_,_,_,_,_] rfl rfl _ _) ?_
    refine dz ?_
    refine aS [(b.length+8,0,0),(b.length+9,0,0)] t4 (iE [_,_,_,_,_,_,_,_] rfl rfl _ _) ?_
    refine gA u4 ?_
    refine⟨by(refine bE (fun n=>n - List.length b) ?_;simp only[zMe,zMf,cM,dZ,zMb,zMi,if_true];exact av (by kernel_rfl)),?_⟩
    have s5:=lR F1.lb ([116,105,116,108,101,115]:List UInt8)
    have s6:=lR F1.lb ([112,114,111,112,101,114,116,105,101,115]:List UInt8)
    unfold tv at s5 s6
    refine aS [] s5 (fun _ _ _=>rfl) ?_
    refine gA u4 ?_
    refine aS [] s6 (fun _ _ _=>rfl) ?_
    have dL:∀ (l:List aw) X,(b++l).set li X=b.set li X++l:=fun l X=>aK tM l X
    have hx6:=F1.tr (n:=4) (by omega)
    rcases hy' with⟨rfl,rfl⟩|⟨q,lh,rfl,hq,bU⟩
    ·refine gA (zL7 u4 (zL7 h2 (zL7 h3 (zL7 h4 (zL7 j6 (zL7 jP (zL7 ky (zL7 (ad pB) dL)))))))) ?_
     have pk:=(Ro.refl b).cell pB (.cells [.int .i64 6,.str [],.ah,.o (b.length+11) 1] 139 true)
     refine⟨by(refine bE (fun n=>n - List.length b) ?_;simp only[zMe,zMf,cM,dZ,zMb,zMi,if_true];exact av (by kernel_rfl)),by omega,⟨by unfold maxLen;omega,by omega⟩,by omega,⟨1,li,.o (b.length+11) 1,[x4],by omega,rfl,rfl,(bf.set (by omega) _).app _,ad (ak eQ (by omega) _) _,ad (ak oz (by omega) _) _,bN tM _ _,ov,B9.ro (pk.app _),rfl,?_,.inr ⟨b.length+11,by omega,rfl,by omega,?_⟩⟩,?_⟩
     ·intro x hx
      obtain rfl:=zMa.1 hx
      exact hx6.ro (pk.pre (by simp) [_,_,_,_,_,_,_,_,_,_] [_,_])
     ·rw[aJ (by simp)];rfl
     ·rw[ao (k:=.i64) (n:=(1:Int)) rfl];omega
    ·have kK:=(zL8.1 bU).1
     have kR:∀ (l:List aw) X,(b++l).set q X=b.set q X++l:=fun l X=>aK kK l X
     have vH:∀ (l:List aw) Y X,(b.set q Y++l).set li X=(b.set q Y).set li X++l:=fun l Y X=>aK (by simpa using tM) l X
     have gF:=fun Y=>ad (ak pB (show q≠li by omega) Y)
     refine gA (zL7 u4 (zL7 h2 (zL7 h3 (zL7 h4 (zL7 j6 (zL7 jP (zL7 ky (zL7 (ad pB) (zL7 (ad bU) (zL7 dL (zL7 kR (zL7 vH gF)))))))))))) ?_
     have pk:=((Ro.refl b).oj bU .gone).cell (ak pB (show q≠li by omega) .gone) (.cells [.int .i64 6,.str [],.ah,.o (b.length+11) (k+1)] 139 true)
     have zq:∀ m,(b.length+m=q)=False:=fun m=>eq_false (by omega)
     refine⟨?_,by omega,⟨by unfold maxLen;omega,by omega⟩,by omega,⟨k+1,li,.o (b.length+11) (k+1),Is++[x4],by omega,rfl,rfl,((bf.set (by omega) _).set (by omega) _).app _,ad (ak (ak eQ (by omega) _) (by omega) _) _,ad (ak (ak oz (by omega) _) (by omega) _) _,bN (by simpa using tM) _ _,ov,B9.ro (pk.app _),by simp[Ck],?_,.inr ⟨b.length+11,by omega,rfl,by omega,?_⟩⟩,?_⟩
     ·(refine bE (fun n=>n - List.length b) ?_;simp only[zMe,zMf,cM,dZ,zMb,zMi,if_true];exact av (by kernel_rfl))
     ·intro x hx
      rcases zMh.1 hx with hx|hx
      ·exact(zL x hx).ro (pk.app _)
      ·obtain rfl:=zMa.1 hx
       exact hx6.ro (pk.pre (by simp) [_,_,_,_,_,_,_,_,_,_] [_,_])
     ·rw[aJ (by simp),zMk];rfl
     ·rw[ao (k:=.i64) (n:=(k:Int)+1) rfl];omega
   ·have bg:decide ((k:Int)<L.length)=false:=decide_eq_false (by omega)
    have F0:one y'=true:=by rcases hy' with⟨rfl,-⟩|⟨q,-,rfl,-⟩ <;> rfl
    have o3:=B9.one
    refine gA (zL7 h2 (zL7 h3 (zL7 h4 (zL7 j6 (zL7 jP (zL7 ky (zL7 bg (zL7 oz pB)))))))) ?_
    rcases hy' with⟨rfl,rfl⟩|⟨q,lh,rfl,hq,bU⟩
    ·obtain⟨v',A6,B6,hv',s7⟩:=tW B9 (by omega) ([108,105,110,107,115]:List UInt8) (by decide) (x:=⟨6,[],.ah,.ah⟩) (d:=3) ⟨by simp,.inr (.inr (.inl rfl)),[],[],.inl ⟨rfl,rfl⟩,.inl ⟨rfl,rfl⟩,by simp,by simp,by simp,by simp,by simp,by simp⟩
     have u7:=hv'.one
     unfold tv at s7
     refine ae s7 ?_
     rintro r b1 ⟨rfl,rfl⟩
     have nH:∀ (l:List aw) X,(b++l).set (bs.length+1) X=b.set (bs.length+1) X++l:=fun l X=>aK pC l X
     have xh:∀ (l:List aw) X,(b.set (bs.length+1) X++l)[bs.length+1]? = some X:=fun l X=>bN pC X l
     refine gA (zL7 h2 (zL7 h3 (zL7 h4 (zL7 nH (zL7 xh (zL7 (ad eQ) u7)))))) ?_
     have mE:=(bf.set (j:=bs.length+1) (by omega) (.cells [.int .i64 v'.k,.str v'.t,v'.xk,v'.xi] 139 true)).app [A6,B6]
     refine⟨by simpa using mE.1,v',rfl,mE.fM,((hv'.ro (((Ro.refl b).cell eQ _).pre (by simp) [A6,B6] [])).ro (eZ (by simpa using mE.1)).ro).tr (by omega)⟩
    ·have kK:=(zL8.1 bU).1
     have pk:=(Ro.refl b).oj bU (.own (Is.flatMap tv) 139 4 k false)
     obtain⟨v',A6,B6,hv',s7⟩:=tW (B9.ro pk) (by omega) ([108,105,110,107,115]:List UInt8) (by decide) (x:=⟨6,[],.ah,.o q k⟩) (d:=3) ⟨by simp,.inr (.inr (.inl rfl)),[],Is,.inl ⟨rfl,rfl⟩,.inr ⟨q,by rw[Ck],by rw[zMg kK,Ck]⟩,by simp,by omega,by simp,by simp,by simp,fun x hx=>(zL x hx).ro pk⟩
     have u7:=hv'.one
     refine ae (j9 bU s7) ?_
     rintro r b1 ⟨rfl,rfl⟩
     have xn:=ak eQ (show q≠bs.length+1 by omega) (.own (Is.flatMap tv) 139 4 k false)
     have eN:=bf.set (j:=q) (by omega) (.own (Is.flatMap tv) 139 4 k false)
     have jZ:bs.length+1<(b.set q (.own (Is.flatMap tv) 139 4 k false)).length:=by simpa using pC
     generalize b.set q (.own (Is.flatMap tv) 139 4 k false)=b2 at *
     have nH:∀ (l:List aw) X,(b2++l).set (bs.length+1) X=b2.set (bs.length+1) X++l:=fun l X=>aK jZ l X
     have xh:∀ (l:List aw) X,(b2.set (bs.length+1) X++l)[bs.length+1]? = some X:=fun l X=>bN jZ X l
     simp only[cq,↓Xn,↓Xo,↓Xg,↓Xd,↓Xe,↓Xf,Tryz.VΓ,Tryz.Γs,Xp,Xi,Nat.reduceAdd,Nat.reduceSub,Nat.reduceLT,Nat.reduceLeDiff,reduceIte,reduceCtorEq,Nat.reduceEqDiff,implies_true,forall_const,cp,dy,beq_self_eq_true,bne_self_eq_false,Int.reduceBEq,Int.reduceBNe,Int.reduceLT,Int.reduceLE,h2,h3,h4,nH,xh,ad xn,u7,tv]
     have mE:=(eN.set (j:=bs.length+1) (by omega) (.cells [.int .i64 v'.k,.str v'.t,v'.xk,v'.xi] 139 true)).app [A6,B6]
     refine⟨by simpa using mE.1,v',rfl,mE.fM,((hv'.ro (((Ro.refl b2).cell xn _).pre (by simp) [A6,B6] [])).ro (eZ (by simpa using mE.1)).ro).tr (by omega)⟩
structure Sv where
 id:Bytes
 xt:SV
 xe:SV
def svc (s:Sv):List SV:=[.str s.id,s.xt,s.xe]
def JF (b:List aw)(s:Sv):Prop:=s.id.length≤20000∧∃ T E:List Bytes,Rs b s.xt T∧Rs b s.xe E∧T.length≤16∧E.length≤16∧(∀ x∈T,x.length≤20000)∧∀ x∈E,x.length≤20000
def Rv (b:List aw)(x:SV)(S:List Sv):Prop:=(x=.ah∧S=[])∨∃ j,x=.o j S.length∧b[j]? = some (.own (S.flatMap svc) 225 3 S.length false)
theorem JF.ro {a b:List aw}{s:Sv}(k:Ro a b):JF a s→JF b s
 | ⟨h1,T,E,h2,h3,h⟩=>⟨h1,T,E,h2.ro k,h3.ro k,h⟩
theorem Rv.ro {a b:List aw}{x:SV}{L:List Sv}(h:Rv a x L)(k:Ro a b):Rv b x L:=by
 rcases h with h|⟨j,h1,h2⟩
 ·exact .inl h
 ·exact .inr ⟨j,h1,k _ _ _ _ _ h2⟩
theorem Rv.within {b:List aw}{x:SV}{L:List Sv}(h:Rv b x L):Vc.within b.length x=true:=by
 rcases h with⟨rfl,-⟩|⟨j,rfl,h2⟩
 ·rfl
 ·have:=(zL8.1 h2).1
  simp[Vc.within,this]
theorem Rv.one {b:List aw}{x:SV}{L:List Sv}(h:Rv b x L):Vc.one x=true:=by
 rcases h with⟨rfl,-⟩|⟨j,rfl,h2⟩ <;> rfl
theorem Rv.len {b:List aw}{x:SV}{L:List Sv}(h:Rv b x L)(e:TypeId):vz (.slice e) x=some (.int .i64 L.length):=by
 rcases h with⟨rfl,rfl⟩|⟨j,rfl,-⟩ <;> rfl
theorem svc_at (L:List Sv)(k:Nat)(h:k<L.length):((L.flatMap svc).drop (k * 3)).take 3=svc L[k]:=lT svc 3 (fun _=>rfl) L k h
theorem svc_len (L:List Sv):(L.flatMap svc).length=L.length * 3:=iq svc 3 (fun _=>rfl) L
theorem zm:PC Tryz.V 190 [] (.agg (tv ⟨7,[],.ah,.ah⟩)):=by
 refine aV 3000 Tryz.func190 rfl Tryz.ntmps190 Tryz.results190 Tryz.call190 (by simp) (by simp[flat,flat.af]) (by simp[flat,flat.af,tv]) ?_
 unfold tv
 exact bo True.intro
theorem wQ {bs:List aw}(s:Bytes)(hs:s.length≤20000){x:SV}{A:List Bytes}(hx:Rs bs x A)(hA:A.length≤16)(hAs:∀ a∈A,a.length≤20000){y:SV}{L:List Sv}(hy:Rv bs y L)(hL:L.length≤16)(hLs:∀ l∈L,JF bs l) :
 SC Tryz.V 123 [.agg [.str s,x,.ah,.ah,y]] bs (fun r b=>∃ v,r=.agg (tv v)∧Kp bs b∧Tr b 5 v):=by
 refine SC.si ?_
 have zB:=hx.within
 have hyw:=hy.within
 have nG:=hx.one
 have F0:=hy.one
 refine bJ 3000 Tryz.func123 rfl Tryz.ntmps123 Tryz.results123 Tryz.call123 (by simp) (aj bs.length _ (by simp[within,within.ax,zB,hyw])) ?_
 have p0:=zm
 have p1:=jH s
 obtain⟨v1,A1,B1,ho1,s1⟩:=nZ (bs:=bs++[.cells [.str s,x,.ah,.ah,y] 179 true,.cells [.int .i64 0,.str [],.ah,.ah] 139 true]) (Ob.zero _ 4 0) (by omega) ([105,100]:List UInt8) (by decide) (Tr.text _ 3 s hs)
 unfold tv at p0 p1 s1
 simp only[zMo,zMq,zMs]at s1 ho1
 refine dz ?_
 (refine aW (p0) ?_;refine gA (zL7 nG (zL7 F0 zMr)) ?_)
 (refine aW (p1) ?_;refine dz ?_)
 refine aS [(bs.length+2,0,0),(bs.length+3,0,0)] s1 (iE [_,_] rfl rfl _ _) ?_
 have o1:=ho1.one
 have hlx:=hx.len
 have hly:=hy.len
 refine gA (zL7 nG (zL7 F0 (zL7 zMr (zL7 o1 (zL7 hlx hly))))) ?_
 refine⟨by(refine bE (fun n=>n - bs.length) ?_;simp only[zMe,zMf,cM,dZ,zMb,zMi,if_true];exact av (by kernel_rfl)),fun hc=>?_,fun hc=>?_⟩
 obtain⟨v2,C,ht2,s2⟩:=re (bs:=bs++[.cells [.str s,x,.ah,.ah,y] 179 true,.cells [.int .i64 0,.str [],.ah,.ah] 139 true,A1,B1,.cells (tv v1) 139 true]) (hx.ro ((Ro.refl bs).app _)) hA hAs
 obtain⟨v,D,E,hv,s3⟩:=nZ (ho1.ro (b:=bs++[.cells [.str s,x,.ah,.ah,y] 179 true,.cells [.int .i64 0,.str [],.ah,.ah] 139 true,A1,B1,.cells (tv v1) 139 true]++[C]) (by
  have:=Ro.grow (b:=bs) [.cells [.str s,x,.ah,.ah,y] 179 true,.cells [.int .i64 0,.str [],.ah,.ah] 139 true,A1,B1] [.cells (tv v1) 139 true,C]
  simpa using this)) (by omega) ([97,108,115,111,75,110,111,119,110,65,115]:List UInt8) (by decide) (x:=v2) (ht2.le (by omega))
 unfold tv at s2 s3
 simp only[zMo,zMq,zMs]at s2 s3
 refine aS [(bs.length+5,0,0)] s2 (rN [_,_,_,_,_] rfl _) ?_
 refine dz ?_
 refine aS [(bs.length+6,0,0),(bs.length+7,0,0)] s3 (iE [_,_,_,_,_,_] rfl rfl _ _) ?_
 have o2:=hv.one
 have hv:Ob (bs++[.cells [.str s,x,.ah,.ah,y] 179 true,.cells [.int .i64 0,.str [],.ah,.ah] 139 true,A1,B1,.cells (tv v) 139 true,C,D,E]) 4 2 v:=by
  refine hv.ro ?_
  have:=Ro.list (b:=bs) [.cells [.str s,x,.ah,.ah,y] 179 true,.cells [.int .i64 0,.str [],.ah,.ah] 139 true,A1,B1] (tv v1) 139 true (.cells (tv v) 139 true) [C,D,E]
  simpa using this
 refine gA (zL7 o2 (zL7 F0 hly)) ?_
 refine⟨by(refine bE (fun n=>n - bs.length) ?_;simp only[zMe,zMf,cM,dZ,zMb,zMi,if_true];exact av (by kernel_rfl)),?_⟩
 rotate_left
 obtain⟨v,hvd⟩:∃ v,v=v1:=⟨_,rfl⟩
 subst hvd
 have hv:=(ho1.up (m:=2) (by omega)).ro (b:=bs++[.cells [.str s,x,.ah,.ah,y] 179 true,.cells [.int .i64 0,.str [],.ah,.ah] 139 true,A1,B1,.cells (tv v) 139 true]) (by simpa using Ro.grow (b:=bs) [.cells [.str s,x,.ah,.ah,y] 179 true,.cells [.int .i64 0,.str [],.ah,.ah] 139 true,A1,B1] [.cells (tv v) 139 true])
 have o2:=o1
 rotate_left
 all_goals
  refine az (fun σ=>∃ li,bs.length+4<li∧lk 1 σ.t=some (.p bs.length 0)∧lk 2 σ.t=some (.p (bs.length+1) 0)∧lk 3 σ.t=some (.p (bs.length+4) 0)∧lk 4 σ.t=some (.p li 0)∧lk 35 σ.t=some (.int .i64 0)∧lk 36 σ.t=some (.int .i64 0)∧Kp bs σ.b∧σ.b[bs.length]? = some (.cells [.str s,x,.ah,.ah,y] 179 true)∧σ.b[bs.length+1]? = some (.cells [.int .i64 0,.str [],.ah,.ah] 139 true) ∧
   σ.b[bs.length+4]? = some (.cells (tv v) 139 true)∧σ.b[li]? = some (.cells [.int .i64 6,.str [],.ah,.ah] 139 true)∧Ob σ.b 4 2 v) (fun _=>1) ?_ ?_
  ·exact⟨_,by omega,rfl,rfl,rfl,rfl,rfl,rfl,(Kp.refl bs).app _,aI _ _,aQ _ _ 1,aQ _ _ 4,aQ _ _ _,hv.ro (by first|exact Ro.grow [_,_,_,_,_] [_] | exact Ro.grow [_,_,_,_,_,_,_,_] [_])⟩
  ·rintro⟨t,b⟩ ⟨li,ov,h1,h2,h3,h4,h35,Eg,bf,de,eQ,oz,pB,B9⟩
   simp only at h1 h2 h3 h4 h35 Eg bf de eQ oz pB B9
   have tM:=(zL8.1 pB).1
   have dL:=fun X=>ak de (show li≠bs.length by omega) X
   refine gA (zL7 h1 (zL7 h2 (zL7 h3 (zL7 h4 (zL7 h35 (zL7 Eg (zL7 pB (zL7 dL (zL7 hly F0))))))))) ?_
   refine az (fun σ=>∃ (k:Nat) (y':SV) (Is:List Tv),k≤L.length∧lk 2 σ.t=some (.p (bs.length+1) 0)∧lk 3 σ.t=some (.p (bs.length+4) 0)∧lk 4 σ.t=some (.p li 0)∧lk 68 σ.t=some y∧lk 69 σ.t=some (.int .i64 L.length)∧lk 70 σ.t=some (.int .i64 k)∧Kp bs σ.b∧σ.b[bs.length+1]? = some (.cells [.int .i64 0,.str [],.ah,.ah] 139 true) ∧
    σ.b[bs.length+4]? = some (.cells (tv v) 139 true)∧σ.b[li]? = some (.cells [.int .i64 6,.str [],.ah,y'] 139 true)∧Ob σ.b 4 2 v∧Is.length=k∧(∀ x∈Is,Tr σ.b 3 x) ∧
    ((y'=.ah∧k=0)∨∃ q,0<k∧y'=.o q k∧li<q∧σ.b[q]? = some (.own (Is.flatMap tv) 139 4 k true))) (fun σ=>L.length - fC 70 σ) ?_ ?_
   ·exact⟨0,.ah,[],by omega,h2,h3,h4,rfl,rfl,rfl,bf.set (by omega) _,ak eQ (by omega) _,ak oz (by omega) _,zMg tM,B9.ro ((Ro.refl b).cell pB _),rfl,by simp,.inl ⟨rfl,rfl⟩⟩
   ·clear dL h35 Eg de h1 h2 h3 h4 bf eQ oz pB B9 tM
    clear t b
    rintro⟨t,b⟩ ⟨k,y',Is,hk,h2,h3,h4,j6,jP,ky,bf,eQ,oz,pB,B9,Ck,zL,hy'⟩
    simp only at h2 h3 h4 j6 jP ky bf eQ oz pB B9 zL hy'
    rw[ao ky]
    have pC:=(zL8.1 eQ).1
    have hb4l:=(zL8.1 oz).1
    have tM:=(zL8.1 pB).1
    unfold tv at oz
    by_cases aC:k<L.length
    ·have bg:decide ((k:Int)<L.length)=true:=decide_eq_true (by omega)
     rcases hy with⟨rfl,rfl⟩|⟨j,rfl,hj⟩
     ·exact absurd aC (by simp)
     have tm:=bf.at hj
     have hu:zMp 3 (zMt (k * 3) (L.flatMap svc))=[.str L[k].id,L[k].xt,L[k].xe]:=svc_at L k aC
     have oL:=svc_len L
     obtain⟨m1,T,E',hT,hE,m2,m3,m4,m5⟩:=(hLs L[k] (zMj aC)).ro bf.ro
     generalize L[k]=l at hu m1 hT hE
     have p1:=jH l.id
     obtain⟨x1,A2,B2,BW,t1⟩:=nZ (bs:=b++[.cells [.str l.id,l.xt,l.xe] 225 true]) (Ob.zero _ 2 0) (by omega) ([105,100]:List UInt8) (by decide) (Tr.text _ 1 l.id m1)
     obtain⟨x2,C2,GV,t2⟩:=re (bs:=b++[.cells [.str l.id,l.xt,l.xe] 225 true]++[A2,B2]) (hT.ro (by simpa using(Ro.refl b).app [.cells [.str l.id,l.xt,l.xe] 225 true,A2,B2])) m2 m4
     obtain⟨x3,A3,B3,hx3,t3⟩:=nZ (BW.ro ((Ro.refl _).app [C2])) (by omega) ([116,121,112,101]:List UInt8) (by decide) GV
     obtain⟨x4,C4,F1,t4⟩:=re (bs:=b++[.cells [.str l.id,l.xt,l.xe] 225 true]++[A2,B2]++[C2]++[A3,B3]) (hE.ro (by simpa using(Ro.refl b).app [.cells [.str l.id,l.xt,l.xe] 225 true,A2,B2,C2,A3,B3])) m3 m5
     obtain⟨x5,A5,B5,hx5,t5⟩:=nZ (hx3.ro ((Ro.refl _).app [C4])) (by omega) ([115,101,114,118,105,99,101,69,110,100,112,111,105,110,116]:List UInt8) (by decide) F1
     have hx6:=hx5.tr (n:=3) (by omega)
     have u5:=hx5.one
     have ue:one l.xt=true:=hT.one
     have uf:one l.xe=true:=hE.one
     simp only[zMo,zMq,zMs]at t1 t2 t3 t4 t5 hx6
     unfold tv at p1 t1 t2 t3 t4 t5
     have dL:∀ (l:List aw) X,(b++l).set li X=b.set li X++l:=fun l X=>aK tM l X
     have z0:∀ m,(b.length+m=li)=False:=fun m=>eq_false (by omega)
     have z1:(b.length=li)=False:=eq_false (by omega)
     refine gA (zL7 h2 (zL7 h3 (zL7 h4 (zL7 j6 (zL7 jP (zL7 ky (zL7 bg (zL7 tm (zL7 hu (zL7 ue (zL7 uf zMr))))))))))) ?_
     refine⟨by omega,by omega,?_⟩
     rcases hy' with⟨rfl,rfl⟩|⟨q,lh,rfl,hq,bU⟩
     ·refine gA (zL7 h2 (zL7 h3 (zL7 h4 (zL7 (ad pB) dL)))) ?_
      (refine aW (p0) ?_;refine dz ?_)
      (refine aW (p1) ?_;refine dz ?_)
      refine aS [(b.length+1,0,0),(b.length+2,0,0)] t1 (iE [_] rfl rfl _ _) ?_
      refine dz ?_
      refine aS [(b.length+3,0,0)] t2 (rN [_,_,_] rfl _) ?_
      refine dz ?_
      refine aS [(b.length+4,0,0),(b.length+5,0,0)] t3 (iE [_,_,_,_] rfl rfl _ _) ?_
      refine dz ?_
      refine aS [(b.length+6,0,0)] t4 (rN [_,_,_,_,_,_] rfl _) ?_
      refine dz ?_
      refine aS [(b.length+7,0,0),(b.length+8,0,0)] t5 (iE [_,_,_,_,_,_,_] rfl rfl _ _) ?_
      refine gA (zL7 h2 (zL7 h3 (zL7 h4 (zL7 j6 (zL7 jP (zL7 ky (zL7 (ad pB) (zL7 dL u5)))))))) ?_
      have pk:=(Ro.refl b).cell pB (.cells [.int .i64 6,.str [],.ah,.o (b.length+10) 1] 139 true)
      refine⟨by omega,⟨by unfold maxLen;omega,by omega⟩,?_,by omega,⟨1,.o (b.length+10) 1,[x5],by omega,rfl,(bf.set (by omega) _).app _,ad (ak eQ (by omega) _) _,ad (ak oz (by omega) _) _,bN tM _ _,B9.ro (pk.app _),rfl,?_,.inr ⟨b.length+10,by omega,rfl,by omega,?_⟩⟩,?_⟩
      ·refine bE (fun n=>if n=li then 100 else n - b.length) ?_
       simp only[zMe,zMf,cM,dZ,zMb,zMi,z0,z1,eq_self,if_true,if_false]
       exact av (by kernel_rfl)
      ·intro x hx
       obtain rfl:=zMa.1 hx
       exact hx6.ro (pk.pre (by simp) [_,_,_,_,_,_,_,_,_] [_,_])
      ·rw[aJ (by simp)];rfl
      ·rw[ao (k:=.i64) (n:=(1:Int)) rfl];omega
     ·have kK:=(zL8.1 bU).1
      have kR:∀ (l:List aw) X,(b++l).set q X=b.set q X++l:=fun l X=>aK kK l X
      have vH:∀ (l:List aw) Y X,(b.set q Y++l).set li X=(b.set q Y).set li X++l:=fun l Y X=>aK (by simpa using tM) l X
      have gF:=fun Y=>ad (ak pB (show q≠li by omega) Y)
      have z2:∀ m,(b.length+m=q)=False:=fun m=>eq_false (by omega)
      have z3:(b.length=q)=False:=eq_false (by omega)
      have z4:(q=li)=False:=eq_false (by omega)
      refine gA (zL7 h2 (zL7 h3 (zL7 h4 (zL7 (ad pB) dL)))) ?_
      (refine aW (p0) ?_;refine dz ?_)
      (refine aW (p1) ?_;refine dz ?_)
      refine aS [(b.length+1,0,0),(b.length+2,0,0)] t1 (iE [_] rfl rfl _ _) ?_
      refine dz ?_
      refine aS [(b.length+3,0,0)] t2 (rN [_,_,_] rfl _) ?_
      refine dz ?_
      refine aS [(b.length+4,0,0),(b.length+5,0,0)] t3 (iE [_,_,_,_] rfl rfl _ _) ?_
      refine dz ?_
      refine aS [(b.length+6,0,0)] t4 (rN [_,_,_,_,_,_] rfl _) ?_
      refine dz ?_
      refine aS [(b.length+7,0,0),(b.length+8,0,0)] t5 (iE [_,_,_,_,_,_,_] rfl rfl _ _) ?_
      refine gA (zL7 h2 (zL7 h3 (zL7 h4 (zL7 j6 (zL7 jP (zL7 ky (zL7 (ad pB) (zL7 (ad bU) (zL7 dL (zL7 kR (zL7 vH (zL7 gF u5)))))))))))) ?_
      have pk:=((Ro.refl b).oj bU .gone).cell (ak pB (show q≠li by omega) .gone) (.cells [.int .i64 6,.str [],.ah,.o (b.length+10) (k+1)] 139 true)
      refine⟨by omega,⟨by unfold maxLen;omega,by omega⟩,?_,by omega,⟨k+1,.o (b.length+10) (k+1),Is++[x5],by omega,rfl,((bf.set (by omega) _).set (by omega) _).app _,ad (ak (ak eQ (by omega) _) (by omega) _) _,ad (ak (ak oz (by omega) _) (by omega) _) _,bN (by simpa using tM) _ _,B9.ro (pk.app _),by simp[Ck],?_,.inr ⟨b.length+10,by omega,rfl,by omega,?_⟩⟩,?_⟩
      ·refine bE (fun n=>if n=li then 100 else if n=q then 101 else n - b.length) ?_
       simp only[zMe,zMf,cM,dZ,zMb,zMi,z0,z1,z2,z3,z4,eq_self,if_true,if_false]
       exact av (by kernel_rfl)
      ·intro x hx
       rcases zMh.1 hx with hx|hx
       ·exact(zL x hx).ro (pk.app _)
       ·obtain rfl:=zMa.1 hx
        exact hx6.ro (pk.pre (by simp) [_,_,_,_,_,_,_,_,_] [_,_])
      ·rw[aJ (by simp),zMk];rfl
      ·rw[ao (k:=.i64) (n:=(k:Int)+1) rfl];omega
    ·have bg:decide ((k:Int)<L.length)=false:=decide_eq_false (by omega)
     have o3:=B9.one
     rcases hy' with⟨rfl,rfl⟩|⟨q,lh,rfl,hq,bU⟩
     ·have nH:∀ X,(b.set (bs.length+1) X)[bs.length+1]? = some X:=fun X=>zMg pC
      refine gA (zL7 h2 (zL7 h3 (zL7 h4 (zL7 j6 (zL7 jP (zL7 ky (zL7 bg (zL7 oz (zL7 pB (zL7 eQ (zL7 nH o3))))))))))) ?_
      have mE:=bf.set (j:=bs.length+1) (by omega) (.cells [.int .i64 v.k,.str v.t,v.xk,v.xi] 139 true)
      exact⟨by simpa using mE.1,v,rfl,mE.fM,((B9.ro ((Ro.refl b).cell eQ _)).ro (eZ (by simpa using mE.1)).ro).tr (by omega)⟩
     ·have kK:=(zL8.1 bU).1
      have cN:decide ((0:Int)<k)=true:=decide_eq_true (by omega)
      have pk:=(Ro.refl b).oj bU (.own (Is.flatMap tv) 139 4 k false)
      obtain⟨v',A6,B6,hv',s7⟩:=nZ (B9.ro pk) (by omega) ([115,101,114,118,105,99,101]:List UInt8) (by decide) (x:=⟨6,[],.ah,.o q k⟩) (d:=4) ⟨by simp,.inr (.inr (.inl rfl)),[],Is,.inl ⟨rfl,rfl⟩,.inr ⟨q,by rw[Ck],by rw[zMg kK,Ck]⟩,by simp,by omega,by simp,by simp,by simp,fun x hx=>(zL x hx).ro pk⟩
      have u7:=hv'.one
      refine gA (zL7 h2 (zL7 h3 (zL7 h4 (zL7 j6 (zL7 jP (zL7 ky (zL7 bg (zL7 oz (zL7 pB (zL7 eQ (zL7 o3 cN))))))))))) ?_
      refine ae (j9 bU s7) ?_
      rintro r b1 ⟨rfl,rfl⟩
      have xn:=ak eQ (show q≠bs.length+1 by omega) (.own (Is.flatMap tv) 139 4 k false)
      have hb42:=ak oz (show q≠bs.length+4 by omega) (.own (Is.flatMap tv) 139 4 k false)
      have eN:=bf.set (j:=q) (by omega) (.own (Is.flatMap tv) 139 4 k false)
      have jZ:bs.length+1<(b.set q (.own (Is.flatMap tv) 139 4 k false)).length:=by simpa using pC
      have GZ:bs.length+4<(b.set q (.own (Is.flatMap tv) 139 4 k false)).length:=by simpa using hb4l
      generalize b.set q (.own (Is.flatMap tv) 139 4 k false)=b2 at *
      have nH:∀ (l:List aw) Y X,(b2.set (bs.length+4) Y++l).set (bs.length+1) X=(b2.set (bs.length+4) Y).set (bs.length+1) X++l:=fun l Y X=>aK (by simpa using jZ) l X
      have hset4:∀ (l:List aw) X,(b2++l).set (bs.length+4) X=b2.set (bs.length+4) X++l:=fun l X=>aK GZ l X
      have xh:∀ (l:List aw) Y X,((b2.set (bs.length+4) Y).set (bs.length+1) X++l)[bs.length+1]? = some X:=fun l Y X=>bN (by simpa using jZ) X l
      have Ai:∀ (l:List aw) Y,(b2.set (bs.length+4) Y++l)[bs.length+1]? = _:=fun l Y=>ad (ak xn (by omega) Y) l
      have hg4:∀ (l:List aw) X,(b2.set (bs.length+4) X++l)[bs.length+4]? = some X:=fun l X=>bN GZ X l
      simp only[cq,↓Xn,↓Xo,↓Xg,↓Xd,↓Xe,↓Xf,Tryz.VΓ,Tryz.Γs,Xp,Xi,Nat.reduceAdd,Nat.reduceSub,Nat.reduceLT,Nat.reduceLeDiff,reduceIte,reduceCtorEq,Nat.reduceEqDiff,implies_true,forall_const,cp,dy,beq_self_eq_true,bne_self_eq_false,Int.reduceBEq,Int.reduceBNe,Int.reduceLT,Int.reduceLE,h2,h3,h4,nH,hset4,xh,Ai,hg4,ad xn,ad hb42,u7,tv]
      have mE:=((eN.set (j:=bs.length+4) (by omega) (.cells [.int .i64 v'.k,.str v'.t,v'.xk,v'.xi] 139 true)).set (j:=bs.length+1) (by omega) (.cells [.int .i64 v'.k,.str v'.t,v'.xk,v'.xi] 139 true)).app [A6,B6]
      exact⟨by simpa using mE.1,v',rfl,mE.fM,((hv'.ro ((((Ro.refl b2).cell hb42 _).cell (ak xn (by omega) _) _).pre (by simp) [A6,B6] [])).ro (eZ (by simpa using mE.1)).ro).tr (by omega)⟩
theorem er.fM {i:Nat}{a b:List aw}(h:er i a b):er i a (fM a.length b):=⟨by rw[qV];exact h.1,fun k hk hn=>by rw[qU hk h.1];exact h.2 k hk hn⟩
theorem aR.ro {a b:List aw}{i:Nat}{L:List Int}(h:aR a i L)(hi:b[i]? = a[i]?)(hr:Ro a b):aR b i L:=by
 obtain⟨x,hx,hs,hq⟩:=h
 refine⟨x,hi.trans hx,?_,hq⟩
 rcases hs with h|⟨j,h1,h2,h3⟩
 ·exact .inl h
 ·exact .inr ⟨j,h1,h2,hr _ _ _ _ _ h3⟩
theorem aR.fM {b:List aw}{i lo:Nat}{L:List Int}(h:aR b i L)(hi:i<lo)(hl:lo≤b.length):aR (fM lo b) i L:=h.ro (qU hi hl) (eZ hl).ro
theorem AM {bs:List aw}{i:Nat}{L:List Int}(h:aR bs i L)(id:Bytes)(hid:id.length≤10000):SC Tryz.V 124 [.p i 0,.str id] bs (fun r b=>∃ S L',Rv b r S∧S.length≤2∧(∀ s∈S,JF b s)∧aR b i L'∧er i bs b):=by
 have fD:i<bs.length:=by obtain⟨x,hi,-⟩:=h;exact(zL8.1 hi).1
 refine SC.si ?_
 refine bJ 3000 Tryz.func124 rfl Tryz.ntmps124 Tryz.results124 Tryz.call124 (by simp) (aj bs.length _ (by simp[within,within.ax,fD])) ?_
 refine uo ?_
 refine ae (dr h 3 (by omega)) ?_
 rintro r b ⟨v,L1,rfl,hv,h,hk⟩
 have ug:=hk.1
 by_cases hv0:0<v
 ·have e0:decide (0<v)=true:=decide_eq_true hv0
  refine gB e0 ?_
  exact⟨ug,[],_,.inl ⟨rfl,rfl⟩,by simp,by simp,h.fM fD ug,hk.fM⟩
 have e0:decide (0<v)=false:=decide_eq_false hv0
 have s1:=fR (bs:=b++[.own [.str [70]] 9 1 1 true]) (h.app _) [([104,116,116,112,115,58,47,47,97,46,101,120,97,109,112,108,101,47,102,47]:List UInt8),([104,116,116,112,115,58,47,47,98,46,101,120,97,109,112,108,101,47,120,63,121,35,122]:List UInt8),([104,116,116,112,58,47,47,99,46,101,120,97,109,112,108,101,47]:List UInt8),([110,111,116,104,105,110,103]:List UInt8)] (n:=4) (m:=100) rfl (by omega) (by decide) rfl
 simp only[zMo,zMq,zMs,zMc,zMm,zMl,Nat.zero_add,zMe,zMf]at s1
 refine gA e0 ?_
 refine⟨by omega,by omega,by omega,ae s1 ?_⟩
 rintro r b2 ⟨s,L2,rfl,hs,h2,bM⟩
 have xl:=bM.1
 simp only[zMc,zMm,zMl]at xl
 have hF:=bM.at (aI b _) (by omega)
 have mE:=(hk.app _).trans bM
 refine dz ?_
 refine⟨by omega,by omega,by omega,by omega,by omega,by omega,?_⟩
 have wI:=mE.1
 have rs:∀ (B:List aw) (j:Nat) (x:Bytes),bs.length≤j→B[j]? = some (.own [.str x] 9 1 1 true)→Rs (fM bs.length B) (.o j 1) [x]:=fun B j x hl hj=>.inr ⟨j,rfl,by rw[ij hl hj];rfl⟩
 refine⟨[⟨id++[35,102,105,108,101,115],.o b.length 1,.o b2.length 1⟩,⟨id++[35,107],.o (b2.length+1) 1,.o (b2.length+2) 1⟩],L2,.inr ⟨b2.length+3,rfl,?_⟩,by simp,?_,(h2.app _).fM fD (by simp;omega),(mE.app _).fM⟩
 ·rw[ij (by omega) (aQ b2 _ 3)]
  rfl
 ·intro x hx
  simp only[List.mem_cons,List.not_mem_nil,or_false]at hx
  rcases hx with rfl|rfl
  ·refine⟨by simp;omega,[[70]],[s],rs _ _ _ (by omega) (ad hF _),rs _ _ _ (by omega) (aI b2 _),by simp,by simp,by simp,fun y hy=>?_⟩
   rw[zMa.1 hy];omega
  ·exact⟨by simp;omega,[[75]],[[104,116,116,112,115,58,47,47,100,46,101,120,97,109,112,108,101]],rs _ _ _ (by omega) (aQ b2 _ 1),rs _ _ _ (by omega) (aQ b2 _ 2),by simp,by simp,by simp,by simp⟩
def oB (a:gz):Prop:=a.host.length≤10000∧a.target.length≤10001∧a.raw.length≤3000000∧-9223372036854775808≤a.port∧a.port≤9223372036854775807∧0≤a.fail∧a.fail≤10∧a.since=0∧a.Ho=0
def Small (u:cX):Prop:=u.host.length+u.path.length+u.query.length+u.fragment.length≤10000∧-9223372036854775808≤u.port∧u.port≤9223372036854775807
theorem Small.fair {u:cX}(h:Small u):Fair u:=⟨by have:=h.1;omega,h.2⟩
theorem Small.G9 {u:cX}(h:Small u){raw:Bytes}(hr:raw.length≤3000000):oB (cB u raw):=by
 obtain⟨h1,h2,h3⟩:=h
 refine⟨by simp only[cB];omega,?_,hr,h2,h3,by simp[cB],by simp[cB],rfl,rfl⟩
 simp only[cB,bz]
 split
 ·simp;omega
 ·omega
theorem aR.lP {b:List aw}{i:Nat}{L:List Int}(h:aR b i L){k:Nat}{c:List SV}{T:TypeId}{m:Bool}(hk:b[k]? = some (.cells c T m))(hn:k≠i)(X:aw):aR (b.set k X) i L:=h.ro (List.getElem?_set_ne hn) ((Ro.refl b).cell hk X)
theorem jE {st:Nat}(jn:st≤1000000000)(fs:List (Bytes × Bytes))(body:Bytes)(hb:body.length≤1000000000):(eb st fs body false).length≤dc fs+4 * fs.length+body.length+200:=by
 have h1:=ga st jn (fs++[(clN,bD body.length)])
 have h2:=bP 9 body.length (by omega)
 rw[eM]at h1
 simp only[dc,zMc,zMm,zMl]at h1
 have jL:clN.length=14:=rfl
 unfold eb EG
 simp only[Bool.false_eq_true,if_false,zMc]
 omega
theorem uM {bs:List aw}{i:Nat}{L:List Int}(h:aR bs i L)(u:cX)(hu:Small u):SC Tryz.V 71 [.p i 0,.agg (uc u)] bs (fun r b=>∃ a L',r=.agg (ac a)∧oB a∧aR b i L'∧er i bs b):=by
 have fD:i<bs.length:=by obtain⟨x,hi,-⟩:=h;exact(zL8.1 hi).1
 have jn:∀ v:Int,0≤v→v<5→∃ st:Nat,st≤1000∧([.int .i64 404,.int .i64 410,.int .i64 500,.int .i64 403,.int .i64 204]:List SV)[v.toNat * 1]? = some (.int .i64 st):=fun v h1 h2=>by
  have:v=0∨v=1∨v=2∨v=3∨v=4:=by omega
  rcases this with rfl|rfl|rfl|rfl|rfl
  ·exact⟨404,by omega,rfl⟩
  ·exact⟨410,by omega,rfl⟩
  ·exact⟨500,by omega,rfl⟩
  ·exact⟨403,by omega,rfl⟩
  ·exact⟨204,by omega,rfl⟩
 obtain⟨nB,tf,D6,mD,Cb⟩:=pJ (h.app [.cells (uc u) 35 true,.cells (ac ⟨[],0,[],[],0,0,0⟩) 33 true]) 5 (by omega)
 have hv:=nC L (n:=5) (by omega)
 obtain⟨st,hst1,hst2⟩:=jn _ hv.1 hv.2
 generalize gG L 5=v at Cb hv hst2
 have p1:=dC u hu.fair (eb st [] [] false)
 refine o0 (fun n=>if n=1 then .ord [0,2,3,1,4,5,6,7,8,9] else .ord []) 3000 Tryz.func71 rfl Tryz.ntmps71 Tryz.results71 Tryz.call71 (by simp) (aj bs.length _ (by simp[within,within.ax,uc,fD])) ?_
 have de:=mD.at (aI bs _) (by omega)
 have eQ:=mD.at (aQ bs _ 1) (by omega)
 have bf:er i bs nB:=(er.of ((Kp.refl bs).app _)).trans mD
 have hnl2:bs.length+2≤nB.length:=by have:=mD.1;simp at this;omega
 have ud:=mD.outs tf
 simp only[uc,ac,zMc,zMm,zMl,Nat.zero_add]at Cb mD tf de eQ ud
 unfold uc
 refine dz ?_
 refine⟨Be (by kernel_rfl),aS [(i,0,0),(bs.length+2,0,0)] Cb ud ?_⟩
 have s1:=fun(B:List aw)=>fj (bs:=B) (x:=.ah) (fs:=[]) (.inl ⟨rfl,rfl,rfl⟩) (by decide) (by decide) st (by omega) [] (by simp) false
 refine gA hst2 ?_
 refine⟨by omega,hv,by omega,?_⟩
 refine aS [] (s1 _) (fun _ _ _=>rfl) ?_
 refine dz ?_
 unfold uc ac at p1
 (refine aW (p1) ?_;refine dz ?_)
 refine⟨?_,ae (dr (D6.app _) 8 (by omega)) ?_⟩
 ·have hv5:v=0∨v=1∨v=2∨v=3∨v=4:=by omega
  have z1:(bs.length=i)=False:=eq_false (by omega)
  have z2:(bs.length+2=i)=False:=eq_false (by omega)
  have z3:(nB.length=i)=False:=eq_false (by omega)
  have z4:(nB.length+1=i)=False:=eq_false (by omega)
  have z5:(bs.length+2=bs.length)=False:=eq_false (by omega)
  have z6:(nB.length=bs.length)=False:=eq_false (by omega)
  have z7:(nB.length+1=bs.length)=False:=eq_false (by omega)
  have z8:(bs.length+2=nB.length+1)=False:=eq_false (by omega)
  have z9:(nB.length=nB.length+1)=False:=eq_false (by omega)
  refine bE (fun n=>if n=i then 0 else if n=bs.length then 1 else if n=nB.length+1 then 3 else 2) ?_
  simp only[zMe,zMf,cM,dZ,z1,z2,z3,z4,z5,z6,z7,z8,z9,eq_self,if_true,if_false]
  rcases hv5 with rfl|rfl|rfl|rfl|rfl <;> exact av (by kernel_rfl)
 rintro r b ⟨w,L2,rfl,hw,h2,bM⟩
 have mE:=(bf.app _).trans bM
 have hc5:=bM.at (aQ nB _ 1) (by omega)
 have hc4:=bM.at (ad eQ _) (by omega)
 have hcl5:=(zL8.1 hc5).1
 have hcl4:=(zL8.1 hc4).1
 have qN:=mE.1
 have s5:∀ X,(b.set (nB.length+1) X)[nB.length+1]? = some X:=fun X=>zMg hcl5
 have s4:∀ X,(b.set (bs.length+1) X)[bs.length+1]? = some X:=fun X=>zMg hcl4
 have s45:∀ X Y,((b.set (nB.length+1) X).set (bs.length+1) Y)[bs.length+1]? = some Y:=fun X Y=>zMg (by simpa using hcl4)
 have t4:=fun X=>ak hc4 (show nB.length+1≠bs.length+1 by omega) X
 have B0:(eb st [] [] false).length≤3000000:=by
  have:=jE (st:=st) (by omega) [] [] (by simp)
  simp[dc]at this
  omega
 have w1:(w==1)=true∨(w==1)=false:=by cases w==1 <;> simp
 have w2:(w==2)=true∨(w==2)=false:=by cases w==2 <;> simp
 have w3:(w==3)=true∨(w==3)=false:=by cases w==3 <;> simp
 rcases w1 with w1|w1
 ·refine gA (zL7 w1 (zL7 hc5 (zL7 hc4 (zL7 s5 (zL7 s45 t4))))) ?_
  exact⟨⟨u.host,u.port,bz u,_,0,0,0⟩,_,rfl,hu.G9 (raw:=[72,84,84,80,47,49,46,49,32,50,48,48,32,79,75,13,10,99,111,110,116,101,110,116,45,108,101,110,103,116,104,58,32,57,13,10,13,10,97,98,99]) (by simp),(h2.lP hc5 (by omega) _).lP (t4 _) (by omega) _,(mE.fu (by omega) _).fu (by omega) _⟩
 rcases w2 with w2|w2
 ·refine gA (zL7 w1 w2) ?_
  refine ae (dr h2 4 (by omega)) ?_
  rintro r b3 ⟨x,L3,rfl,hx,h3,eh⟩
  have hkk3:=mE.trans eh
  have hc53:=eh.at hc5 (by omega)
  have hc43:=eh.at hc4 (by omega)
  have hcl53:=(zL8.1 hc53).1
  have hcl43:=(zL8.1 hc43).1
  have s5:∀ X,(b3.set (nB.length+1) X)[nB.length+1]? = some X:=fun X=>zMg hcl53
  have s45:∀ X Y,((b3.set (nB.length+1) X).set (bs.length+1) Y)[bs.length+1]? = some Y:=fun X Y=>zMg (by simpa using hcl43)
  have t4:=fun X=>ak hc43 (show nB.length+1≠bs.length+1 by omega) X
  refine gA (zL7 hc53 (zL7 hc43 (zL7 s5 (zL7 s45 t4)))) ?_
  have hA:=hu.G9 B0
  refine⟨by omega,⟨u.host,u.port,bz u,_,1+x,0,0⟩,_,rfl,⟨hA.1,hA.2.1,hA.2.2.1,hA.2.2.2.1,hA.2.2.2.2.1,by simp only;omega,by simp only;omega,rfl,rfl⟩,(h3.lP hc53 (by omega) _).lP (t4 _) (by omega) _,(hkk3.fu (by omega) _).fu (by omega) _⟩
 rcases w3 with w3|w3
 ·refine gA (zL7 w1 (zL7 w2 (zL7 w3 (zL7 hc5 (zL7 hc4 (zL7 s5 (zL7 s45 t4))))))) ?_
  exact⟨⟨u.host,u.port,bz u,_,0,0,0⟩,_,rfl,hu.G9 (raw:=[110,111,110,115,101,110,115,101]) (by simp),(h2.lP hc5 (by omega) _).lP (t4 _) (by omega) _,(mE.fu (by omega) _).fu (by omega) _⟩
 ·refine gA (zL7 w1 (zL7 w2 (zL7 w3 (zL7 hc5 (zL7 hc4 s4))))) ?_
  exact⟨cB u (eb st [] [] false),_,rfl,hu.G9 B0,h2.lP hc4 (by omega) _,mE.fu (by omega) _⟩
theorem uy {u:cX}(hu:Small u):(aT u).length≤10100:=by
 have h1:=ie u.host hu.2.1 hu.2.2
 have h2:=hJ u
 have h3:=hu.1
 unfold aT
 simp only[zMc]
 split <;> simp only[zMc,zMm,zMl] <;> omega
theorem Small.CX {h p:Bytes}(hh:h.length+p.length≤10000):Small ⟨h,0,p,[],[],false,false⟩:=⟨by simpa using hh,by simp,by simp⟩
def Out (bs:List aw)(i:Nat)(x:SV)(b:List aw)(A:List gz):Prop:=(x=.ah∧A=[])∨∃ q,x=.o q A.length∧bs.length<q∧q≠i∧b[q]? = some (.own (A.flatMap ac) 33 7 A.length true)
theorem Out.kp {bs:List aw}{i:Nat}{x:SV}{b b':List aw}{A:List gz}(h:Out bs i x b A)(k:er i b b'):Out bs i x b' A:=by
 rcases h with h|⟨q,h1,h2,h3,h4⟩
 ·exact .inl h
 ·exact .inr ⟨q,h1,h2,h3,k.at h4 h3⟩
structure RInv (bs:List aw) (i:Nat) (n k:Nat) (σ:St):Prop where
 h0:lk 0 σ.t=some (.p i 0)
 h2:lk 2 σ.t=some (.int .i64 n)
 h4:lk 4 σ.t=some (.p bs.length 0)
 h8:lk 8 σ.t=some (.int .i64 k)
 hK:er i bs σ.b
 hy:∃ (to':cX) (x:SV) (A:List gz) (L:List Int),lk 7 σ.t=some x∧σ.b[bs.length]? = some (.cells (uc to') 35 true)∧Small to'∧aR σ.b i L∧Out bs i x σ.b A∧A.length=k∧∀ a∈A,oB a
theorem yK {bs:List aw}{i:Nat}{L:List Int}(h:aR bs i L)(u:cX)(hu:Small u)(n:Nat)(hn:n≤10):SC Tryz.V 130 [.p i 0,.agg (uc u),.int .i64 n] bs (fun r b=>∃ (A:List gz) (L':List Int) (q:Nat),r=.o q A.length∧A.length=n+1∧(∀ a,A.getLast? = some a→a.raw.length≤20000)∧bs.length<q∧b[q]? = some (.own (A.flatMap ac) 33 7 A.length true)∧(∀ a∈A,oB a)∧aR b i L'∧er i bs b):=by
 have fD:i<bs.length:=by obtain⟨x,hi,-⟩:=h;exact(zL8.1 hi).1
 refine bJ 3000 Tryz.func130 rfl Tryz.ntmps130 Tryz.results130 Tryz.call130 (by simp) (aj bs.length _ (by simp[within,within.ax,uc,fD])) ?_
 unfold uc
 refine dz ?_
 refine az (fun σ=>∃ k,k≤n∧RInv bs i n k σ) (fun σ=>n - fC 8 σ) ⟨0,by omega,rfl,rfl,rfl,rfl,er.of ((Kp.refl bs).app _),⟨u,.ah,[],_,rfl,aI _ _,hu,h.app _,.inl ⟨rfl,rfl⟩,rfl,by simp⟩⟩ ?_
 rintro⟨t,b⟩ ⟨k,hk,h0,h2,h4,h8,hK,to',x,A,L1,h7,BY,hS,hD,hO,hA,oO⟩
 simp only at h0 h2 h4 h8 hK h7 BY hD hO
 rw[ao h8]
 have qN:=hK.1
 unfold uc at BY
 by_cases aC:k<n
 ·have bg:decide ((k:Int)<n)=true:=decide_eq_true (by omega)
  have s1:=fR (bs:=b) hD [([97,46,101,120,97,109,112,108,101]:List UInt8),([98,46,101,120,97,109,112,108,101]:List UInt8),([101,46,101,120,97,109,112,108,101]:List UInt8)] (n:=3) (m:=20) rfl (by omega) (by decide) rfl
  refine gA (zL7 h0 (zL7 h2 (zL7 h4 (zL7 h8 (zL7 h7 bg))))) ?_
  refine⟨by omega,ae s1 ?_⟩
  rintro r b1 ⟨hs,L2,rfl,hhs,xo,cN⟩
  have hk01:=cN
  refine gA (zL7 h0 (zL7 h2 (zL7 h4 (zL7 h8 h7)))) ?_
  refine ae (dr xo 20 (by omega)) ?_
  rintro r b2 ⟨v1,L3,rfl,hv1,Gq,bM⟩
  obtain⟨m1,rfl⟩:∃ m:Nat,v1=m:=⟨v1.toNat,by omega⟩
  have p1:=eY m1 (by omega)
  have p2:=eY k (by omega)
  have d1:=bP 9 m1 (by omega)
  have d2:=bP 9 k (by omega)
  have IH:=hk01.trans bM
  have hto2:=IH.at BY (by omega)
  have hO2:=hO.kp IH
  have pF:=eA to' hS.fair
  unfold cR at pF
  refine gA (zL7 h0 (zL7 h2 (zL7 h4 (zL7 h8 h7)))) ?_
  (refine aa (p1) ?_;refine gA (zL7 h0 (zL7 h2 (zL7 h4 (zL7 h8 h7)))) ?_)
  refine⟨by omega,?_⟩
  (refine aa (p2) ?_;refine gA (zL7 h0 (zL7 h2 (zL7 h4 (zL7 h8 h7)))) ?_)
  refine⟨by omega,?_⟩
  refine gA (zL7 h0 (zL7 h2 (zL7 h4 (zL7 h8 (zL7 h7 (zL7 hto2 (ad hto2))))))) ?_
  (refine aa (pF) ?_;refine gA (zL7 h0 (zL7 h2 (zL7 h4 (zL7 h8 (zL7 h7 (zL7 hto2 (ad hto2))))))) ?_)
  have oL:=uy hS
  refine ae (dr (Gq.app [.cells [.str hs,.int .i64 0,.str (47::114::(bD m1++bD k)),.str [],.str [],.bool false,.bool false] 35 true]) 20 (by omega)) ?_
  rintro r b3 ⟨v2,L4,rfl,hv2,r8,eh⟩
  have hk03:=(IH.app _).trans eh
  have tO:=hK.trans hk03
  have tL:=eh.at (aI b2 _) (by have:=IH.1;omega)
  have tJ:=hk03.at BY (by omega)
  have hO3:=hO.kp hk03
  have pT:=nv to' hS.fair
  unfold cR at pT
  have w1:(v2==1)=true∨(v2==1)=false:=by cases v2==1 <;> simp
  have w2:(v2==2)=true∨(v2==2)=false:=by cases v2==2 <;> simp
  have wh:(hs==to'.host)=true∨(hs==to'.host)=false:=by cases hs==to'.host <;> simp
  have htl:=hJ to'
  have hS1:=hS.1
  have hb2n:i≠b2.length:=by have:=IH.1;omega
  have hw:(v2==1)=true∨((v2==1)=false∧(v2==2)=true)∨((v2==1)=false∧(v2==2)=false):=by cases v2==1 <;> cases v2==2 <;> simp
  rcases hw with w1|⟨w1,w2⟩|⟨w1,w2⟩
  rcases wh with wh|wh
  refine gA (zL7 h0 (zL7 h2 (zL7 h4 (zL7 h8 (zL7 h7 (zL7 w1 (zL7 wh (zL7 tL tJ)))))))) ?_
  refine ae (dr r8 2 (by omega)) ?_
  rintro r b4 ⟨v3,L5,rfl,zC,yh,j3⟩
  have oA:=tO.trans j3
  have Cf:=j3.at tL (by omega)
  have xd:=j3.at tJ (by omega)
  have hO4:=hO3.kp j3
  have w3:(v3==0)=true∨(v3==0)=false:=by cases v3==0 <;> simp
  rcases w3 with w3|w3
  refine gA (zL7 h0 (zL7 h2 (zL7 h4 (zL7 h8 (zL7 h7 (zL7 w3 xd)))))) ?_
  (refine aa (pT) ?_;refine gA (zL7 h0 (zL7 h2 (zL7 h4 (zL7 h8 h7)))) ?_)
  generalize hl:bz to'=loc at *
  have hlb:loc.length≤10100:=by omega
  rotate_left
  refine gA (zL7 h0 (zL7 h2 (zL7 h4 (zL7 h8 (zL7 h7 w3))))) ?_
  generalize hl:([104,116,116,112,58,47,47,97,46,101,120,97,109,112,108,101,47]:Bytes)=loc
  have hlb:loc.length≤10100:=by rw[← hl];simp
  rotate_left
  refine gA (zL7 h0 (zL7 h2 (zL7 h4 (zL7 h8 (zL7 h7 (zL7 w1 (zL7 wh (zL7 tL tJ)))))))) ?_
  generalize hl:([104,116,116,112,58,47,47,97,46,101,120,97,109,112,108,101,47]:Bytes)=loc
  have hlb:loc.length≤10100:=by rw[← hl];simp
  have yh:=r8
  have oA:=tO
  have Cf:=tL
  have xd:=tJ
  have hO4:=hO3
  generalize b3=b4 at *
  generalize L4=L5 at *
  rotate_left
  rcases wh with wh|wh
  refine gA (zL7 h0 (zL7 h2 (zL7 h4 (zL7 h8 (zL7 h7 (zL7 w1 (zL7 w2 (zL7 wh (zL7 tL tJ))))))))) ?_
  refine ae (dr r8 2 (by omega)) ?_
  rintro r b4 ⟨v3,L5,rfl,zC,yh,j3⟩
  have oA:=tO.trans j3
  have Cf:=j3.at tL (by omega)
  have xd:=j3.at tJ (by omega)
  have hO4:=hO3.kp j3
  have w3:(v3==0)=true∨(v3==0)=false:=by cases v3==0 <;> simp
  rcases w3 with w3|w3
  refine gA (zL7 h0 (zL7 h2 (zL7 h4 (zL7 h8 (zL7 h7 (zL7 w3 xd)))))) ?_
  (refine aa (pT) ?_;refine gA (zL7 h0 (zL7 h2 (zL7 h4 (zL7 h8 h7)))) ?_)
  generalize hl:bz to'=loc at *
  have hlb:loc.length≤10100:=by omega
  rotate_left
  refine gA (zL7 h0 (zL7 h2 (zL7 h4 (zL7 h8 (zL7 h7 w3))))) ?_
  generalize hl:([63]:Bytes)=loc
  have hlb:loc.length≤10100:=by rw[← hl];simp
  rotate_left
  refine gA (zL7 h0 (zL7 h2 (zL7 h4 (zL7 h8 (zL7 h7 (zL7 w1 (zL7 w2 (zL7 wh (zL7 tL tJ))))))))) ?_
  generalize hl:([63]:Bytes)=loc
  have hlb:loc.length≤10100:=by rw[← hl];simp
  have yh:=r8
  have oA:=tO
  have Cf:=tL
  have xd:=tJ
  have hO4:=hO3
  generalize b3=b4 at *
  generalize L4=L5 at *
  rotate_left
  rcases wh with wh|wh
  refine gA (zL7 h0 (zL7 h2 (zL7 h4 (zL7 h8 (zL7 h7 (zL7 w1 (zL7 w2 (zL7 wh (zL7 tL tJ))))))))) ?_
  refine ae (dr r8 2 (by omega)) ?_
  rintro r b4 ⟨v3,L5,rfl,zC,yh,j3⟩
  have oA:=tO.trans j3
  have Cf:=j3.at tL (by omega)
  have xd:=j3.at tJ (by omega)
  have hO4:=hO3.kp j3
  have w3:(v3==0)=true∨(v3==0)=false:=by cases v3==0 <;> simp
  rcases w3 with w3|w3
  refine gA (zL7 h0 (zL7 h2 (zL7 h4 (zL7 h8 (zL7 h7 (zL7 w3 xd)))))) ?_
  (refine aa (pT) ?_;refine gA (zL7 h0 (zL7 h2 (zL7 h4 (zL7 h8 h7)))) ?_)
  generalize hl:bz to'=loc at *
  have hlb:loc.length≤10100:=by omega
  rotate_left
  refine gA (zL7 h0 (zL7 h2 (zL7 h4 (zL7 h8 (zL7 h7 w3))))) ?_
  generalize hl:aT to'=loc at *
  have hlb:loc.length≤10100:=oL
  rotate_left
  refine gA (zL7 h0 (zL7 h2 (zL7 h4 (zL7 h8 (zL7 h7 (zL7 w1 (zL7 w2 (zL7 wh (zL7 tL tJ))))))))) ?_
  generalize hl:aT to'=loc at *
  have hlb:loc.length≤10100:=oL
  have yh:=r8
  have oA:=tO
  have Cf:=tL
  have xd:=tJ
  have hO4:=hO3
  generalize b3=b4 at *
  generalize L4=L5 at *
  rotate_left
  all_goals
   obtain⟨nB,tf,D6,mD,Cb⟩:=pJ yh 2 (by omega)
   have ud:=mD.outs tf
   have hv:=nC L5 (n:=2) (by omega)
   obtain⟨m3,hm3⟩:∃ m:Nat,gG L5 2=m:=⟨(gG L5 2).toNat,by omega⟩
   rw[hm3]at Cb hv
   have em:(302+5 * (m3:Int))=((302+5 * m3:Nat):Int):=by omega
   have hKn:=oA.trans mD
   have xj:=mD.at Cf (by omega)
   have Ip:=mD.at xd (by omega)
   have hnl2:=mD.1
   have hKl:=oA.1
   have kT:=(zL8.1 Cf).1
   have hSf:Small ⟨hs,0,47::114::(bD m1++bD k),[],[],false,false⟩:=Small.CX (by simp;omega)
   have r1:=fj (bs:=nB++[.own [.str ([108,111,99,97,116,105,111,110]:List UInt8),.str (loc)] 100 2 1 true]) (x:=.o nB.length 1) (fs:=[(([108,111,99,97,116,105,111,110]:List UInt8),loc)]) (.inr ⟨nB.length,true,rfl,by simp,aI _ _⟩) (by simp) (by simp[dc] <;> omega) (302+5 * m3) (by omega) [] (by simp) false
   have B0:=jE (st:=302+5 * m3) (by omega) [(([108,111,99,97,116,105,111,110]:List UInt8),loc)] [] (by simp)
   simp only[dc,zMm,zMl]at B0
   have pA:=dC ⟨hs,0,47::114::(bD m1++bD k),[],[],false,false⟩ hSf.fair (eb (302+5 * m3) [(([108,111,99,97,116,105,111,110]:List UInt8),loc)] [] false)
   have hAn:=hSf.G9 (raw:=eb (302+5 * m3) [(([108,111,99,97,116,105,111,110]:List UInt8),loc)] [] false) (by omega)
   unfold uc ac cB at pA
   simp only at pA
   try refine gA (zL7 h0 (zL7 h2 (zL7 h4 (zL7 h8 (zL7 h7 (zL7 Cf xd)))))) ?_
   refine aS [(i,0,0),(b4.length,0,0)] Cb ud ?_
   refine gA (zL7 h0 (zL7 h2 (zL7 h4 (zL7 h8 (zL7 h7 (zL7 em (zL7 xj (ad xj)))))))) ?_
   refine⟨by omega,by omega,by omega,aS [] r1 (fun _ _ _=>rfl) ?_⟩
   refine gA (zL7 h0 (zL7 h2 (zL7 h4 (zL7 h8 (zL7 h7 (zL7 xj (ad xj))))))) ?_
   have htl2:=(zL8.1 Ip).1
   have hsT:∀ (l:List aw) X,(nB++l).set bs.length X=nB.set bs.length X++l:=fun l X=>aK htl2 l X
   have z1:(b2.length=i)=False:=eq_false (by omega)
   have z2:(b4.length=i)=False:=eq_false (by omega)
   have z3:(b4.length=b2.length)=False:=eq_false (by omega)
   have z4:(b4.length=nB.length+1)=False:=eq_false (by omega)
   have z5:(b4.length=nB.length+2)=False:=eq_false (by omega)
   have z6:(nB.length=i)=False:=eq_false (by omega)
   have z7:(nB.length=b2.length)=False:=eq_false (by omega)
   have z8:(nB.length=nB.length+1)=False:=eq_false (by omega)
   have z9:(nB.length=nB.length+2)=False:=eq_false (by omega)
   have y1:(nB.length+1=i)=False:=eq_false (by omega)
   have y2:(nB.length+1=b2.length)=False:=eq_false (by omega)
   have y3:(nB.length+2=i)=False:=eq_false (by omega)
   have y4:(nB.length+2=b2.length)=False:=eq_false (by omega)
   have y5:(nB.length+2=nB.length+1)=False:=eq_false (by omega)
   rcases hO4 with⟨rfl,rfl⟩|⟨q,rfl,hq,hqi,hbq0⟩
   ·(refine aW (pA) ?_;refine gA (zL7 h0 (zL7 h2 (zL7 h4 (zL7 h8 (zL7 h7 (zL7 xj (zL7 (ad xj) (zL7 (ad Ip) hsT)))))))) ?_)
    refine⟨by omega,⟨by unfold maxLen;omega,by omega⟩,?_,by omega,⟨k+1,by omega,h0,h2,h4,rfl,(hKn.fu (zMx _) _).app _,⟨⟨hs,0,47::114::(bD m1++bD k),[],[],false,false⟩,.o (nB.length+2) 1,[(cB ⟨hs,0,47::114::(bD m1++bD k),[],[],false,false⟩ (eb (302+5 * m3) [(([108,111,99,97,116,105,111,110]:List UInt8),loc)] [] false))],_,rfl,bN htl2 _ _,hSf,(D6.lP Ip (by omega) _).app _,.inr ⟨nB.length+2,rfl,by omega,by omega,aJ (by simp) _ 2⟩,by simp at hA;simp[← hA],fun a ha=>by rw[zMa.1 ha];exact hAn⟩⟩,?_⟩
    ·refine bE (fun n=>if n=i then 0 else if n=b2.length then 5 else if n=nB.length+1 then 3 else if n=nB.length+2 then 4 else 2) ?_
     simp only[zMe,zMf,cM,dZ,z1,z2,z3,z4,z5,z6,z7,z8,z9,y1,y2,y3,y4,y5,eq_self,if_true,if_false]
     exact av (by kernel_rfl)
    ·rw[ao (k:=.i64) (n:=(k:Int)+1) rfl];omega
   ·have bU:=mD.at hbq0 hqi
    have hql0:=(zL8.1 hbq0).1
    have kK:=(zL8.1 bU).1
    have kR:∀ (l:List aw) X,(nB++l).set q X=nB.set q X++l:=fun l X=>aK kK l X
    have hnq:q≠b2.length:=by rintro rfl;rw[xj]at bU;simp at bU
    have xh:=fun Y=>ad (ak xj hnq Y)
    have hsT2:∀ (l:List aw) Y X,(nB.set q Y++l).set bs.length X=(nB.set q Y).set bs.length X++l:=fun l Y X=>aK (by simpa using htl2) l X
    have Ai:=fun Y=>ad (ak Ip (show q≠bs.length by omega) Y)
    have x1:(q=i)=False:=eq_false hqi
    have x2:(q=b2.length)=False:=eq_false hnq
    have x3:(q=nB.length+1)=False:=eq_false (by omega)
    have x4:(q=nB.length+2)=False:=eq_false (by omega)
    have x5:(b4.length=q)=False:=eq_false (by omega)
    have x6:(nB.length=q)=False:=eq_false (by omega)
    (refine aW (pA) ?_;simp only[cq,↓Xn,↓Xo,↓Xg,↓Xd,↓Xe,↓Xf,Tryz.VΓ,Tryz.Γs,Xp,Xi,Nat.reduceAdd,Nat.reduceSub,Nat.reduceLT,Nat.reduceLeDiff,reduceIte,reduceCtorEq,Nat.reduceEqDiff,implies_true,forall_const,cp,dy,beq_self_eq_true,bne_self_eq_false,Int.reduceBEq,Int.reduceBNe,Int.reduceLT,Int.reduceLE,h0,h2,h4,h8,h7,xj,ad xj,ad bU,kR,xh,Ai,hsT2,zMd])
    refine⟨by omega,⟨by unfold maxLen;omega,by omega⟩,?_,by omega,⟨k+1,by omega,h0,h2,h4,rfl,((hKn.fu (by omega) _).fu (zMx _) _).app _,⟨⟨hs,0,47::114::(bD m1++bD k),[],[],false,false⟩,.o (nB.length+2) (A.length+1),A++[(cB ⟨hs,0,47::114::(bD m1++bD k),[],[],false,false⟩ (eb (302+5 * m3) [(([108,111,99,97,116,105,111,110]:List UInt8),loc)] [] false))],_,rfl,bN (by simpa using htl2) _ _,hSf,((D6.set hqi bU _).lP (ak Ip (by omega) _) (by omega) _).app _,.inr ⟨nB.length+2,by simp,by omega,by omega,?_⟩,by simp[hA],fun a ha=>?_⟩⟩,?_⟩
    ·refine bE (fun n=>if n=i then 0 else if n=b2.length then 5 else if n=nB.length+1 then 3 else if n=nB.length+2 then 4 else if n=q then 6 else 2) ?_
     simp only[zMe,zMf,cM,dZ,z1,z2,z3,z4,z5,z6,z7,z8,z9,y1,y2,y3,y4,y5,x1,x2,x3,x4,x5,x6,eq_self,if_true,if_false]
     exact av (by kernel_rfl)
    ·rw[show ((nB.set q aw.gone).set bs.length _++[_,_,_])[nB.length+2]? = some _ from aJ (by simp) _ 2,zMk,zMc]
     rfl
    ·rcases zMh.1 ha with ha|ha
     ·exact oO a ha
     ·rw[zMa.1 ha];exact hAn
    ·rw[ao (k:=.i64) (n:=(k:Int)+1) rfl];omega
 ·have bg:decide ((k:Int)<n)=false:=decide_eq_false (by omega)
  refine gA (zL7 h0 (zL7 h2 (zL7 h4 (zL7 h8 (zL7 h7 (zL7 bg BY)))))) ?_
  have oL:=uy hS
  have pF:=eA to' hS.fair
  have pA:=dC ⟨[],0,[],[],[],false,false⟩ ⟨by decide,by decide,by decide⟩ (aT to')
  have hAn:oB (cB ⟨[],0,[],[],[],false,false⟩ (aT to')):=(Small.CX (h:=[]) (p:=[]) (by simp)).G9 (by omega)
  unfold cR at pF
  unfold uc ac cB at pA
  simp only at pA
  have E6:∀ a∈A++[cB ⟨[],0,[],[],[],false,false⟩ (aT to')],oB a:=fun a ha=>by
   rcases zMh.1 ha with ha|ha
   ·exact oO a ha
   ·rw[zMa.1 ha];exact hAn
  have C6:k=n:=by omega
  (refine aa (pF) ?_;refine gA (zL7 h0 (zL7 h2 (zL7 h4 (zL7 h8 h7)))) ?_)
  (refine aa (pA) ?_;refine gA (zL7 h0 (zL7 h2 (zL7 h4 (zL7 h8 h7)))) ?_)
  rcases hO with⟨rfl,rfl⟩|⟨q,rfl,hq,hqi,bU⟩
  ·refine gA (zL7 h0 (zL7 h2 (zL7 h4 (zL7 h8 h7)))) ?_
   exact⟨by omega,⟨by unfold maxLen;omega,by omega⟩,[cB ⟨[],0,[],[],[],false,false⟩ (aT to')],_,_,rfl,by simp at hA;simp;omega,(fun a ha=>by simp at ha;subst ha;simp only[cB];omega),by omega,aQ _ _ 1,E6,hD.app _,hK.app _⟩
  ·have kK:=(zL8.1 bU).1
   have kR:∀ (l:List aw) X,(b++l).set q X=b.set q X++l:=fun l X=>aK kK l X
   simp only[cq,↓Xn,↓Xo,↓Xg,↓Xd,↓Xe,↓Xf,Tryz.VΓ,Tryz.Γs,Xp,Xi,Nat.reduceAdd,Nat.reduceSub,Nat.reduceLT,Nat.reduceLeDiff,reduceIte,reduceCtorEq,Nat.reduceEqDiff,implies_true,forall_const,cp,dy,beq_self_eq_true,bne_self_eq_false,Int.reduceBEq,Int.reduceBNe,Int.reduceLT,Int.reduceLE,h0,h2,h4,h8,h7,ad bU,kR,zMd]
   refine⟨by omega,⟨by unfold maxLen;omega,by omega⟩,A++[cB ⟨[],0,[],[],[],false,false⟩ (aT to')],_,b.length+1,by simp,by simp;omega,(fun a ha=>by simp at ha;subst ha;simp only[cB];omega),by omega,?_,E6,(hD.set hqi bU _).app _,(hK.fu (by omega) _).app _⟩
   rw[aJ (by simp),zMk,zMc]
   rfl
theorem gS {bs:List aw}{i:Nat}{L:List Int}(h:aR bs i L)(u:cX)(hu:Small u)(raw:Bytes)(hr:raw.length≤3000000):SC Tryz.V 72 [.p i 0,.agg (uc u),.str raw] bs (fun r b=>∃ (A:List gz) (L':List Int) (q:Nat),r=.o q A.length∧0<A.length∧A.length≤10∧bs.length≤q∧b[q]? = some (.own (A.flatMap ac) 33 7 A.length true)∧(∀ a∈A,oB a)∧aR b i L'∧er i bs b):=by
 have fD:i<bs.length:=by obtain⟨x,hi,-⟩:=h;exact(zL8.1 hi).1
 refine bJ 3000 Tryz.func72 rfl Tryz.ntmps72 Tryz.results72 Tryz.call72 (by simp) (aj bs.length _ (by simp[within,within.ax,uc,fD])) ?_
 have pA:=dC u hu.fair raw
 have hAu:=hu.G9 hr
 unfold uc ac cB at pA
 simp only at pA
 unfold uc
 refine dz ?_
 refine ae (dr (h.app _) 3 (by omega)) ?_
 rintro r b ⟨v,L1,rfl,hv,hD,hk⟩
 have hK:=(er.of (i:=i) ((Kp.refl bs).app _)).trans hk
 have hbu:=hk.at (aI bs _) (by omega)
 have w1:(v==0)=true∨(v==0)=false:=by cases v==0 <;> simp
 rcases w1 with w1|w1
 rotate_left
 refine gA (zL7 w1 hbu) ?_
 (refine aa (pA) ?_;refine dz ?_)
 refine⟨by omega,[cB u raw],_,_,rfl,by simp,by simp,by have:=hK.1;omega,aI _ _,(fun a ha=>by rw[zMa.1 ha];exact hAu),hD.app _,hK.app _⟩
 refine gA w1 ?_
 refine ae (dr hD 7 (by omega)) ?_
 rintro r b2 ⟨m,L2,rfl,hm,Gq,bM⟩
 have hK2:=hK.trans bM
 have hbu2:=bM.at hbu (by omega)
 have w2:(m==0)=true∨(m==0)=false:=by cases m==0 <;> simp
 rcases w2 with w2|w2
 refine gA (zL7 w2 hbu2) ?_
 (refine aa (pA) ?_;refine dz ?_)
 refine⟨by omega,[cB u raw],_,_,rfl,by simp,by simp,by have:=hK2.1;omega,aI _ _,(fun a ha=>by rw[zMa.1 ha];exact hAu),Gq.app _,hK2.app _⟩
 have hm0:m≠0:=by simpa using w2
 have s1:=fR Gq [([97,46,101,120,97,109,112,108,101]:List UInt8),([101,46,101,120,97,109,112,108,101]:List UInt8)] (n:=2) (m:=20) rfl (by omega) (by decide) rfl
 refine gA w2 ?_
 refine⟨by omega,ae s1 ?_⟩
 rintro r b3 ⟨hs,L3,rfl,hhs,r8,eh⟩
 refine dz ?_
 refine ae (dr r8 9 (by omega)) ?_
 rintro r b4 ⟨v1,L4,rfl,hv1,yh,j3⟩
 obtain⟨m1,rfl⟩:∃ m:Nat,v1=m:=⟨v1.toNat,by omega⟩
 have p1:=eY m1 (by omega)
 have d1:=bP 9 m1 (by omega)
 have oA:=(hK2.trans eh).trans j3
 have hbu4:=(eh.trans j3).at hbu2 (by omega)
 have hSe:Small ⟨hs,0,47::101::110::100::bD m1,[],[],false,false⟩:=Small.CX (by simp;omega)
 refine dz ?_
 (refine aa (p1) ?_;refine dz ?_)
 obtain⟨k,cN⟩:∃ k:Nat,m - 1=k:=⟨(m - 1).toNat,by omega⟩
 have s2:=yK (yh.app [.cells [.str hs,.int .i64 0,.str (47::101::110::100::bD m1),.str [],.str [],.bool false,.bool false] 35 true]) _ hSe k (by omega)
 unfold uc at s2
 simp only at s2
 refine gA cN ?_
 refine⟨by omega,by omega,ae s2 ?_⟩
 rintro r b5 ⟨A,L5,q,rfl,hA,jK,hq,bU,oO,oN,ow⟩
 obtain⟨A0,z,rfl⟩:∃ A0 z,A=A0++[z]:=by
  rcases List.eq_nil_or_concat A with h|⟨A0,z,h⟩
  ·rw[h]at hA;simp at hA
  ·exact⟨A0,z,by rw[h,List.concat_eq_append]⟩
 have CZ:=jK z (by simp)
 have rp:A0.length=k:=by simp at hA;exact hA
 have e0:(A0++[z]).length=A0.length+1:=by simp
 rw[e0]at bU
 have e1:(((A0.length+1:Nat):Int) - 1).toNat=A0.length:=by omega
 have kT:=dO A0
 have a3:((A0++[z]).flatMap ac)[A0.length * 7+3]? = some (.str z.raw):=by
  rw[zMk,← kT,zMv (by omega),zMb]
  rfl
 have a4:zMp (A0.length * 7) ((A0++[z]).flatMap ac)=A0.flatMap ac:=by
  rw[zMk,← kT,List.take_left]
 have kV:=(oA.app _).trans ow
 have hbu5:=ow.at (ad hbu4 _) (by omega)
 have hbe5:=ow.at (aI b4 _) (by have:=oA.1;omega)
 have hbl4:=oA.1
 have hbl5:=kV.1
 have kK:=(zL8.1 bU).1
 have hqi:q≠i:=by simp at hq;omega
 have GX:q≠bs.length:=by simp at hq;omega
 have hqe:q≠b4.length:=by simp at hq;omega
 have kR:∀ (l:List aw) X,(b5++l).set q X=b5.set q X++l:=fun l X=>aK kK l X
 have D8:∀ (l:List aw) Y k,(b5.set q Y++l)[b5.length+k]? = l[k]? := fun l Y k=>aJ (by simp) l k
 have xh:∀ (l:List aw) Y,(b5.set q Y++l)[b5.length]? = l[0]? := fun l Y=>aJ (by simp) l 0
 have Ai:∀ (l:List aw) Y X,(b5.set q Y++l).set b5.length X=b5.set q Y++l.set 0 X:=fun l Y X=>by
  have:=ly (b5.set q Y) l X
  rwa [zMd]at this
 have hg3:∀ (l:List aw) Y k X,(b5.set q Y++l).set (b5.length+k) X=b5.set q Y++l.set k X:=fun l Y k X=>by
  have:=zX (b5.set q Y) l k X
  rwa [zMd]at this
 have hu1:=fun Y=>ad (ak hbu5 GX Y)
 have hu2:=fun Y=>ad (ak hbe5 hqe Y)
 have pE:=dC ⟨hs,0,47::101::110::100::bD m1,[],[],false,false⟩ hSe.fair raw
 have Ef:=hSe.G9 hr
 unfold uc ac cB at pE
 simp only at pE
 simp only[cq,↓Xn,↓Xo,↓Xg,↓Xd,↓Xe,↓Xf,Tryz.VΓ,Tryz.Γs,Xp,Xi,Nat.reduceAdd,Nat.reduceSub,Nat.reduceLT,Nat.reduceLeDiff,reduceIte,reduceCtorEq,Nat.reduceEqDiff,implies_true,forall_const,cp,dy,beq_self_eq_true,bne_self_eq_false,Int.reduceBEq,Int.reduceBNe,Int.reduceLT,Int.reduceLE,e0,e1,bU,a3,a4,kR,zMd,hu1,hu2]
 refine⟨by omega,by omega,by rw[dO];simp;omega,by omega,by omega,?_⟩
 have r1:=fun(B:List aw) (j:Nat) (hB:B[j]? = some (.own [.str ([108,111,99,97,116,105,111,110]:List UInt8),.str z.raw] 100 2 1 true))=>fj (bs:=B) (x:=.o j 1) (fs:=[(([108,111,99,97,116,105,111,110]:List UInt8),z.raw)]) (.inr ⟨j,true,rfl,by simp,hB⟩) (by simp) (by simp[dc];omega) 301 (by omega) [] (by simp) false
 have B0:=jE (st:=301) (by omega) [(([108,111,99,97,116,105,111,110]:List UInt8),z.raw)] [] (by simp)
 simp only[dc,zMm,zMl]at B0
 have pU:=dC u hu.fair (eb 301 [(([108,111,99,97,116,105,111,110]:List UInt8),z.raw)] [] false)
 have hAf:=hu.G9 (raw:=eb 301 [(([108,111,99,97,116,105,111,110]:List UInt8),z.raw)] [] false) (by omega)
 unfold uc ac cB at pU
 simp only at pU
 have Ec:b5.length≠q:=by omega
 have z1:(b5.length=q)=False:=eq_false (by omega)
 have z2:(b4.length=q)=False:=eq_false (by omega)
 have z3:∀ k,(b5.length+k=q)=False:=fun k=>eq_false (by omega)
 have hb45:b4.length<b5.length:=(zL8.1 hbe5).1
 have z4:(b5.length=b4.length)=False:=eq_false (by omega)
 have z5:∀ k,(b5.length+k=b4.length)=False:=fun k=>eq_false (by omega)
 have z6:(bs.length=q)=False:=eq_false (by omega)
 have z8:∀ k,(b5.length+k=bs.length)=False:=fun k=>eq_false (by omega)
 (refine aW (pE) ?_;simp only[cq,↓Xn,↓Xo,↓Xg,↓Xd,↓Xe,↓Xf,Tryz.VΓ,Tryz.Γs,Xp,Xi,Nat.reduceAdd,Nat.reduceSub,Nat.reduceLT,Nat.reduceLeDiff,reduceIte,reduceCtorEq,Nat.reduceEqDiff,implies_true,forall_const,cp,dy,beq_self_eq_true,bne_self_eq_false,Int.reduceBEq,Int.reduceBNe,Int.reduceLT,Int.reduceLE,kR,zMd,hu1,hu2,D8,xh,Ai,hg3])
 refine⟨by omega,⟨by unfold maxLen;omega,by omega⟩,?_,by omega,?_⟩
 ·refine bE (fun n=>if n=q then 100 else if n=b4.length then 101 else n - b5.length) ?_
  simp only[zMe,zMf,cM,dZ,zMb,zMi,z1,z2,z3,z4,z5,eq_self,if_true,if_false]
  exact av (by kernel_rfl)
 refine aS [] (r1 _ (b5.length+3) (aJ (by simp) _ 3)) (fun _ _ _=>rfl) ?_
 simp only[cq,↓Xn,↓Xo,↓Xg,↓Xd,↓Xe,↓Xf,Tryz.VΓ,Tryz.Γs,Xp,Xi,Nat.reduceAdd,Nat.reduceSub,Nat.reduceLT,Nat.reduceLeDiff,reduceIte,reduceCtorEq,Nat.reduceEqDiff,implies_true,forall_const,cp,dy,beq_self_eq_true,bne_self_eq_false,Int.reduceBEq,Int.reduceBNe,Int.reduceLT,Int.reduceLE,kR,zMd,hu1,hu2,D8,xh,Ai,hg3]
 (refine aW (pU) ?_;simp only[cq,↓Xn,↓Xo,↓Xg,↓Xd,↓Xe,↓Xf,Tryz.VΓ,Tryz.Γs,Xp,Xi,Nat.reduceAdd,Nat.reduceSub,Nat.reduceLT,Nat.reduceLeDiff,reduceIte,reduceCtorEq,Nat.reduceEqDiff,implies_true,forall_const,cp,dy,beq_self_eq_true,bne_self_eq_false,Int.reduceBEq,Int.reduceBNe,Int.reduceLT,Int.reduceLE,kR,zMd,hu1,hu2,D8,xh,Ai,hg3])
 refine⟨by omega,⟨by unfold maxLen;omega,by omega⟩,?_,A0++[cB ⟨hs,0,47::101::110::100::bD m1,[],[],false,false⟩ raw]++[cB u (eb 301 [(([108,111,99,97,116,105,111,110]:List UInt8),z.raw)] [] false)],_,b5.length+5,by simp,by simp,by simp;omega,by omega,?_,fun a ha=>?_,(oN.set hqi bU _).app _,(kV.fu (by simp at hq;omega) _).app _⟩
 ·refine bE (fun n=>if n=bs.length then 100 else n - b5.length) ?_
  simp only[zMe,zMf,cM,dZ,zMb,zMi,z8,eq_self,if_true,if_false]
  exact av (by kernel_rfl)
 ·rw[aJ (by simp)]
  simp[ac,cB]
 ·rcases zMh.1 ha with ha|ha
  ·rcases zMh.1 ha with ha|ha
   ·exact oO a (by simp[ha])
   ·rw[zMa.1 ha];exact Ef
  ·rw[zMa.1 ha];exact hAf
theorem Rs.w7 {b:List aw}{x:SV}{L:List Bytes}(h:Rs b x L)(e:TypeId):vz (.slice e) x=some (.int .i64 L.length):=by
 rcases h with⟨rfl,rfl⟩|⟨j,rfl,-⟩ <;> rfl
theorem Ri.len {b:List aw}{x:SV}{L:List Tv}(h:Ri b x L)(e:TypeId):vz (.slice e) x=some (.int .i64 L.length):=by
 rcases h with⟨rfl,rfl⟩|⟨j,rfl,-⟩ <;> rfl
theorem Du {bs:List aw}{d:Nat}{v:Tv}(hv:Tr bs (d+1) v)(hd:1≤d)(key:Bytes):SC Tryz.V 196 [.agg (tv v),.str key] bs (fun r b=>∃ x ok,r=.fF [.agg (tv x),.bool ok]∧Kp bs b∧Tr b d x):=by
 obtain⟨e,rfl⟩:∃ e,d=e+1:=⟨d - 1,by omega⟩
 have C3:=hv.lb
 obtain⟨v1,v2,v3,v4⟩:=C3
 have ho:(one v.xk&&one v.xi)=true:=by rw[v3,v4];rfl
 obtain⟨g1,g2,K,L,g3,g4,g5,g6,g7,g8,g9,g10⟩:=hv
 refine bJ 3000 Tryz.func196 rfl Tryz.ntmps196 Tryz.results196 Tryz.call196 (by simp) (aj bs.length _ (by simp[within,within.ax,tv,v1,v2])) ?_
 by_cases h7:v.k=7
 ·have hb7:(v.k != 7)=false:=by rw[h7];rfl
  have oM:=g3.w7
  have ov:=g4.len
  have hKL:=g8 h7
  unfold tv
  refine gA (zL7 ho (zL7 hb7 (zL7 oM ov))) ?_
  refine az (fun σ=>∃ k:Nat,k≤K.length∧lk 1 σ.t=some (.str key)∧lk 2 σ.t=some (.p bs.length 0)∧lk 4 σ.t=some (.p (bs.length+1) 0)∧lk 13 σ.t=some (.int .i64 K.length)∧lk 14 σ.t=some (.int .i64 k)∧σ.b=bs++[.cells [.int .i64 v.k,.str v.t,v.xk,v.xi] 139 true,.cells [.int .i64 0,.str [],.ah,.ah] 139 true]) (fun σ=>K.length - fC 14 σ) ⟨0,by omega,rfl,rfl,rfl,rfl,rfl,rfl⟩ ?_
  rintro⟨t,b⟩ ⟨k,hk,h1,h2,h4,mO,sd,hb⟩
  simp only at h1 h2 h4 mO sd hb
  subst hb
  rw[ao sd]
  by_cases aC:k<K.length
  ·have bg:decide ((k:Int)<K.length)=true:=decide_eq_true (by omega)
   rcases g3 with⟨-,rfl⟩|⟨j,oy,hj⟩
   ·exact absurd aC (by simp)
   rcases g4 with⟨-,rfl⟩|⟨q,jY,hq⟩
   ·exact absurd hKL (by simp;rintro rfl;simp at aC)
   have Cc:(K.map SV.str)[k * 1]? = some (.str K[k]):=by simp[aC]
   have hltL:k<L.length:=by omega
   have hlt3:decide ((k:Int)<L.length)=true:=decide_eq_true (by omega)
   have hu:zMp 4 (zMt (k * 4) (L.flatMap tv))=[.int .i64 L[k].k,.str L[k].t,L[k].xk,L[k].xi]:=sE L k hltL
   have oL:=lJ L
   have hx:=g10 L[k] (zMj hltL)
   obtain⟨x1,x2,x3,x4⟩:=hx.lb
   have nG:(one L[k].xk&&one L[k].xi)=true:=by rw[x3,x4];rfl
   refine gA (zL7 h1 (zL7 h2 (zL7 h4 (zL7 mO (zL7 sd (zL7 bg (zL7 hlt3 (zL7 oy (zL7 jY (zL7 (ad hj) (zL7 (ad hq) (zL7 Cc (zL7 hu (zL7 nG (zL7 ov (zL7 oM (zL7 Bool.and_true zMr))))))))))))))))) ?_
   refine⟨by omega,by simp;omega,fun _=>⟨by omega,by omega,L[k],true,rfl,(Kp.refl bs).app _,hx.ro ((Ro.refl bs).app _)⟩,fun _=>⟨by omega,⟨k+1,by omega,rfl⟩,?_⟩⟩
   rw[ao (k:=.i64) (n:=(k:Int)+1) rfl];omega
  ·have bg:decide ((k:Int)<K.length)=false:=decide_eq_false (by omega)
   refine gA (zL7 h1 (zL7 h2 (zL7 h4 (zL7 mO (zL7 sd bg))))) ?_
   exact⟨⟨0,[],.ah,.ah⟩,false,rfl,(Kp.refl bs).app _,Tr.zero _ _⟩
 ·have hb7:(v.k != 7)=true:=bne_iff_ne.2 h7
  unfold tv
  refine gA (zL7 ho hb7) ?_
  exact⟨⟨0,[],.ah,.ah⟩,false,rfl,(Kp.refl bs).app _,Tr.zero _ _⟩
theorem Tr.ex {b:List aw}{d:Nat}{v:Tv}(h:Tr b d v):∃ e,d=e+1:=by
 cases d with
 | zero=>exact h.elim
 | succ e=>exact⟨e,rfl⟩
theorem qf:∀ (d:Nat){bs:List aw}{v:Tv},Tr bs d v→∀ depth:Int,0≤depth→depth≤64→SC Tryz.V 192 [.agg (tv v),.int .i64 depth] bs (fun r b=>∃ n:Nat,r=.int .i64 n∧n≤20001∧Kp bs b)
 | 0,_,_,h,_,_,_=>h.elim
 | d+1,bs,v,hv,depth,hd0,rn=>by
   have ih:=fun {bs:List aw} {v:Tv} (h:Tr bs d v) (depth:Int) h0 h1=>qf d h depth h0 h1
   have C3:=hv.lb
   obtain⟨v1,v2,v3,v4⟩:=C3
   have ho:(one v.xk&&one v.xi)=true:=by rw[v3,v4];rfl
   obtain⟨g1,g2,K,L,g3,g4,g5,g6,g7,g8,g9,g10⟩:=hv
   refine bJ 3000 Tryz.func192 rfl Tryz.ntmps192 Tryz.results192 Tryz.call192 (by simp) (aj bs.length _ (by simp[within,within.ax,tv,v1,v2])) ?_
   have ov:=g4.len
   obtain⟨c,hc⟩:∃ c:Bool,c=(v.k==6||v.k==7):=⟨_,rfl⟩
   unfold tv
   have hk67:(v.k==6)=true∨(v.k==6)=false∧(v.k==7)=true∨(v.k==6)=false∧(v.k==7)=false:=by
    cases h6:v.k==6 <;> cases h7:v.k==7 <;> simp
   rcases hk67 with h6|⟨h6,h7⟩|⟨h6,h7⟩
   all_goals
    first|refine gA (zL7 ho (zL7 h6 (zL7 h7 ov))) ?_|refine gA (zL7 ho (zL7 h6 ov)) ?_
    first|refine⟨by omega,fun hc=>⟨0,rfl,by omega,(Kp.refl bs).app _⟩,fun hc=>?_⟩|refine⟨fun hc=>⟨0,rfl,by omega,(Kp.refl bs).app _⟩,fun hc=>?_⟩
    have hc:=of_decide_eq_false hc
    refine az (fun σ=>∃ (k n:Nat) (inner:Int),k≤L.length∧n≤20000∧0≤inner∧inner≤64∧lk 5 σ.t=some (.int .i64 inner)∧lk 6 σ.t=some (.int .i64 n)∧lk 24 σ.t=some v.xi∧lk 25 σ.t=some (.int .i64 L.length)∧lk 26 σ.t=some (.int .i64 k)∧Kp bs σ.b) (fun σ=>L.length - fC 26 σ) ⟨0,1,_,by omega,by omega,?_,?_,rfl,rfl,rfl,rfl,rfl,(Kp.refl bs).app _⟩ ?_
    ·omega
    ·omega
    rintro⟨t,b⟩ ⟨k,n,inner,hk,hn,hi0,hi1,h5,h6,oP,ui,rq,bf⟩
    simp only at h5 h6 oP ui rq bf
    rw[ao rq]
    by_cases aC:k<L.length
    ·have bg:decide ((k:Int)<L.length)=true:=decide_eq_true (by omega)
     rcases g4 with⟨-,rfl⟩|⟨q,jY,hq⟩
     ·exact absurd aC (by simp)
     have bU:=bf.at hq
     have hu:zMp 4 (zMt (k * 4) (L.flatMap tv))=[.int .i64 L[k].k,.str L[k].t,L[k].xk,L[k].xi]:=sE L k aC
     have oL:=lJ L
     have hx:=g10 L[k] (zMj aC)
     obtain⟨x1,x2,x3,x4⟩:=hx.lb
     have nG:(one L[k].xk&&one L[k].xi)=true:=by rw[x3,x4];rfl
     refine gA (zL7 h5 (zL7 h6 (zL7 oP (zL7 ui (zL7 rq (zL7 bg (zL7 jY (zL7 bU (zL7 hu nG))))))))) ?_
     refine⟨by omega,by omega,ae (ih (hx.ro (bf.ro.app _)) inner hi0 hi1) ?_⟩
     rintro r b1 ⟨m,rfl,hm,iY⟩
     have eN:=(bf.app [_]).trans iY
     refine gA (zL7 h5 (zL7 h6 (zL7 oP (zL7 ui rq)))) ?_
     refine⟨fun _=>⟨0,rfl,by omega,eN⟩,fun _=>⟨by omega,fun _=>⟨20001,rfl,by omega,eN⟩,fun Gg=>⟨by omega,⟨k+1,n+m,inner,by omega,by have:=of_decide_eq_false Gg;omega,hi0,hi1,rfl,rfl,jY,rfl,eN⟩,?_⟩⟩⟩
     rw[ao (k:=.i64) (n:=(k:Int)+1) rfl];omega
    ·have bg:decide ((k:Int)<L.length)=false:=decide_eq_false (by omega)
     refine gA (zL7 h5 (zL7 h6 (zL7 oP (zL7 ui (zL7 rq bg))))) ?_
     exact⟨n,rfl,by omega,bf⟩
theorem sL:∀ (d:Nat){bs:List aw}{v:Tv},Tr bs d v→SC Tryz.V 133 [.agg (tv v)] bs (fun r b=>∃ x,r=.bool x∧Kp bs b)
 | 0,_,_,h=>h.elim
 | d+1,bs,v,hv=>by
   have ih:=fun {bs:List aw} {v:Tv} (h:Tr bs d v)=>sL d h
   have C3:=hv.lb
   obtain⟨v1,v2,v3,v4⟩:=C3
   have ho:(one v.xk&&one v.xi)=true:=by rw[v3,v4];rfl
   obtain⟨g1,g2,K,L,g3,g4,g5,g6,g7,g8,g9,g10⟩:=hv
   refine bJ 3000 Tryz.func133 rfl Tryz.ntmps133 Tryz.results133 Tryz.call133 (by simp) (aj bs.length _ (by simp[within,within.ax,tv,v1,v2])) ?_
   have ov:=g4.len
   have oM:=g3.w7
   unfold tv
   refine gA (zL7 ho (zL7 ov oM)) ?_
   refine az (fun σ=>∃ (k n:Nat),k≤K.length∧n≤20000+20000 * k∧lk 1 σ.t=some (.p bs.length 0)∧lk 3 σ.t=some (.int .i64 n)∧lk 12 σ.t=some v.xk∧lk 13 σ.t=some (.int .i64 K.length)∧lk 14 σ.t=some (.int .i64 k)∧σ.b=bs++[.cells [.int .i64 v.k,.str v.t,v.xk,v.xi] 139 true]) (fun σ=>K.length - fC 14 σ) ⟨0,v.t.length,by omega,by omega,rfl,rfl,rfl,rfl,rfl,rfl⟩ ?_
   rintro⟨t,b⟩ ⟨k,n,hk,hn,h1,h3,mP,mO,sd,hb⟩
   simp only at h1 h3 mP mO sd hb
   subst hb
   rw[ao sd]
   by_cases aC:k<K.length
   ·have bg:decide ((k:Int)<K.length)=true:=decide_eq_true (by omega)
    rcases g3 with⟨-,rfl⟩|⟨j,oy,hj⟩
    ·exact absurd aC (by simp)
    have Cc:(K.map SV.str)[k * 1]? = some (.str K[k]):=by simp[aC]
    have ug:=g7 K[k] (zMj aC)
    refine gA (zL7 h1 (zL7 h3 (zL7 mP (zL7 mO (zL7 sd (zL7 bg (zL7 oy (zL7 (ad hj) Cc)))))))) ?_
    refine⟨by omega,by simp;omega,by omega,by omega,⟨k+1,n+K[k].length,by omega,by omega,rfl,rfl⟩,?_⟩
    rw[ao (k:=.i64) (n:=(k:Int)+1) rfl];omega
   ·have bg:decide ((k:Int)<K.length)=false:=decide_eq_false (by omega)
    refine gA (zL7 h1 (zL7 h3 (zL7 mP (zL7 mO (zL7 sd (zL7 bg ov)))))) ?_
    refine⟨fun _=>⟨_,rfl,(Kp.refl bs).app _⟩,fun _=>?_⟩
    refine az (fun σ=>∃ (k:Nat),k≤L.length∧lk 26 σ.t=some v.xi∧lk 27 σ.t=some (.int .i64 L.length)∧lk 28 σ.t=some (.int .i64 k)∧Kp bs σ.b) (fun σ=>L.length - fC 28 σ) ⟨0,by omega,rfl,rfl,rfl,(Kp.refl bs).app _⟩ ?_
    rintro⟨t,b⟩ ⟨k,hk,oP,ui,rq,bf⟩
    simp only at oP ui rq bf
    rw[ao rq]
    by_cases aC:k<L.length
    ·have bg:decide ((k:Int)<L.length)=true:=decide_eq_true (by omega)
     rcases g4 with⟨-,rfl⟩|⟨q,jY,hq⟩
     ·exact absurd aC (by simp)
     have bU:=bf.at hq
     have hu:zMp 4 (zMt (k * 4) (L.flatMap tv))=[.int .i64 L[k].k,.str L[k].t,L[k].xk,L[k].xi]:=sE L k aC
     have oL:=lJ L
     have hx:=g10 L[k] (zMj aC)
     obtain⟨x1,x2,x3,x4⟩:=hx.lb
     have nG:(one L[k].xk&&one L[k].xi)=true:=by rw[x3,x4];rfl
     refine gA (zL7 oP (zL7 ui (zL7 rq (zL7 bg (zL7 jY (zL7 bU (zL7 hu nG))))))) ?_
     refine⟨by omega,by omega,ae (ih (hx.ro (bf.ro.app _))) ?_⟩
     rintro r b1 ⟨m,rfl,iY⟩
     have eN:=(bf.app [_]).trans iY
     refine gA (zL7 oP (zL7 ui rq)) ?_
     refine⟨fun _=>⟨_,rfl,eN⟩,fun _=>⟨by omega,⟨k+1,by omega,jY,rfl,eN⟩,?_⟩⟩
     rw[ao (k:=.i64) (n:=(k:Int)+1) rfl];omega
    ·have bg:decide ((k:Int)<L.length)=false:=decide_eq_false (by omega)
     refine gA (zL7 oP (zL7 ui (zL7 rq bg))) ?_
     exact⟨_,rfl,bf⟩
def Le (M:Nat)(L:List Bytes):Prop:=∀ s∈L,s.length≤M
def H2 (i:Nat)(σ:St):Nat:=match lk i σ.t with
 | some (.o _ n)=>n
 | _=>0
theorem Rs.H2 {b:List aw}{x:SV}{L:List Bytes}(h:Rs b x L){i:Nat}{σ:St}(hx:lk i σ.t=some x):H2 i σ=L.length:=by
 unfold Go.Proofs.YtnmlimehgifadaaGreatDoor.H2
 rw[hx]
 rcases h with⟨rfl,rfl⟩|⟨j,rfl,-⟩ <;> rfl
theorem dY {b:List aw}{j:Nat}{X:aw}(h:b[j]? = some X):b.set j X=b:=by
 apply List.ext_getElem?
 intro q
 rw[List.getElem?_set]
 split
 ·rename_i hq
  subst hq
  rw[if_pos (zL8.1 h).1]
  exact h.symm
 ·rfl
theorem Rs.src {b:List aw}{x:SV}{L:List Bytes}(h:Rs b x L):oh b 1 x=some (L.length,L.map SV.str):=by
 rcases h with⟨rfl,rfl⟩|⟨j,rfl,h⟩
 ·rfl
 ·simp[oh,h]
theorem tS (L:List Bytes):(L.map SV.str).all Vc.one=true:=by
 induction L with
 | nil=>rfl
 | cons x r ih=>simpa[Vc.one] using ih
theorem Le.app {M:Nat}{A B:List Bytes}(h:Le M A)(k:Le M B):Le M (A++B):=fun s hs=>by
 rcases zMh.1 hs with h1|h1
 ·exact h s h1
 ·exact k s h1
def sr (bs:List aw)(M n:Nat)(σ:St)(m:Nat):Prop:=∃ (x y o:SV) (A B O:List Bytes),lk 3 σ.t=some x∧lk 4 σ.t=some y∧lk 5 σ.t=some o∧Rs σ.b x A∧Rs σ.b y B∧Le M A∧Le M B∧Le M O∧A.length+B.length+O.length=n∧A.length+B.length=m∧Kp bs σ.b∧((o=.ah∧O=[])∨∃ q,o=.o q O.length∧bs.length≤q∧σ.b[q]? = some (.own (O.map SV.str) 9 1 O.length true))
theorem sr.mu {bs:List aw}{M n m:Nat}{σ:St}(h:sr bs M n σ m):H2 3 σ+H2 4 σ=m:=by
 obtain⟨x,y,o,A,B,O,h3,h4,h5,hA,hB,-,-,-,-,hm,-⟩:=h
 rw[hA.H2 h3,hB.H2 h4,hm]
theorem sr.left {bs b:List aw}{M n:Nat}{t:List (Nat × SV)}{A B O:List Bytes}(rp:0<A.length){qa qo:Nat}{y:SV}(h3:lk 3 t=some (.o qa (A.length - zMu 1)))(h4:lk 4 t=some y)(h5:lk 5 t=some (.o qo (O.length+1)))(ha:b[qa]? = some (.own (A.tail.map SV.str) 9 1 (A.length - zMu 1) false))(hB:Rs b y B)
 (ho:b[qo]? = some (.own (O.map SV.str++[.str (A[0]'rp)]) 9 1 (O.length+1) true)) (hq:bs.length≤qo) (lA:Le M A) (lB:Le M B) (lO:Le M O) (dc:A.length+B.length+O.length=n) (bf:Kp bs b):∃ m,m<A.length+B.length∧sr bs M n ⟨t,b⟩ m:=by
 have e1:zMu 1=1:=rfl
 rw[e1]at h3 ha
 have et:A.tail.length=A.length - 1:=List.length_tail ..
 have eo:(O++[A[0]'rp]).length=O.length+1:=by simp
 refine⟨A.length - 1+B.length,by omega,_,y,_,A.tail,B,O++[A[0]'rp],h3,h4,h5,.inr ⟨qa,by rw[et],by rw[et];exact ha⟩,hB,fun s hs=>lA s (List.mem_of_mem_tail hs),lB,lO.app (fun s hs=>?_),by rw[et,eo];omega,by rw[et],bf,.inr ⟨qo,by rw[eo],hq,?_⟩⟩
 ·rw[zMa.1 hs]
  exact lA _ (zMj rp)
 ·rw[eo]
  simpa using ho
theorem sr.right {bs b:List aw}{M n:Nat}{t:List (Nat × SV)}{A B O:List Bytes}(kW:0<B.length){qa qo:Nat}{x:SV}(h3:lk 3 t=some x)(h4:lk 4 t=some (.o qa (B.length - zMu 1)))(h5:lk 5 t=some (.o qo (O.length+1)))(ha:b[qa]? = some (.own (B.tail.map SV.str) 9 1 (B.length - zMu 1) false))(hA:Rs b x A)
 (ho:b[qo]? = some (.own (O.map SV.str++[.str (B[0]'kW)]) 9 1 (O.length+1) true)) (hq:bs.length≤qo) (lA:Le M A) (lB:Le M B) (lO:Le M O) (dc:A.length+B.length+O.length=n) (bf:Kp bs b):∃ m,m<A.length+B.length∧sr bs M n ⟨t,b⟩ m:=by
 have e1:zMu 1=1:=rfl
 rw[e1]at h4 ha
 have et:B.tail.length=B.length - 1:=List.length_tail ..
 have eo:(O++[B[0]'kW]).length=O.length+1:=by simp
 refine⟨A.length+(B.length - 1),by omega,x,_,_,A,B.tail,O++[B[0]'kW],h3,h4,h5,hA,.inr ⟨qa,by rw[et],by rw[et];exact ha⟩,lA,fun s hs=>lB s (List.mem_of_mem_tail hs),lO.app (fun s hs=>?_),by rw[et,eo];omega,by rw[et],bf,.inr ⟨qo,by rw[eo],hq,?_⟩⟩
 ·rw[zMa.1 hs]
  exact lB _ (zMj kW)
 ·rw[eo]
  simpa using ho
theorem I1 (x:Nat)(hx:x≤9223372036854775807):jc .quo .i64 (x:Int) 2=((x / 2:Nat):Int):=by
 have h:jc .quo .i64 (x:Int) 2=IntKind.i64.wrap (Int.tdiv x ((2:Nat):Int)):=rfl
 have h2:Int.tdiv (x:Int) ((2:Nat):Int)=((x / 2:Nat):Int):=by
  first
  | exact(Int.ofNat_tdiv x 2).symm
  | exact Int.ofNat_tdiv x 2
  | (rw[Int.tdiv_eq_ediv_of_nonneg (by omega)];omega)
 have h3:x / 2≤x:=Nat.div_le_self x 2
 rw[h,h2]
 generalize x / 2=z at h3 ⊢
 simp[IntKind.wrap,IntKind.bits,IntKind.signed]
 omega
def Hz:OT:=.bO 0 (.bO 1 (.bO 2 (.bO 3 (.bO 6 (.bO 7 (.bO 8 (.bO 9 (.alt (.one 4 (.alt (.one 5 (.one 10 (.one 11 (.one 12 (.one 13 .leaf))))) (.one 10 (.one 5 (.one 11 (.one 12 (.one 13 .leaf))))))) (.one 10 (.one 4 (.one 5 (.one 11 (.one 12 (.one 13 .leaf))))))))))))))
def rC:OT:=.bO 0 (.bO 1 (.bO 6 (.alt (.one 2 (.alt (.one 3 (.alt (.one 4 (.alt (.one 5 (.alt (.one 8 (.one 7 (.one 9 .leaf))) (.one 7 (.one 8 (.one 9 .leaf))))) (.one 7 (.one 5 (.one 8 (.one 9 .leaf)))))) (.one 7 (.one 4 (.one 5 (.one 8 (.one 9 .leaf))))))) (.one 7 (.one 3 (.one 4 (.one 5 (.one 8 (.one 9 .leaf)))))))) (.one 7 (.one 2 (.one 3 (.one 4 (.one 5 (.one 8 (.one 9 .leaf))))))))))
theorem kE (M:Nat)(hM:M≤1000000):∀ (n:Nat){bs:List aw}{x:SV}{L:List Bytes},Rs bs x L→L.length≤n→n≤1000→Le M L→SC Tryz.V 195 [x] bs (fun r b=>∃ L',Rs b r L'∧L'.length=L.length∧Le M L'∧Kp bs b)
 | 0,bs,x,L,hx,hn,_,hL=>by
   refine SC.si ?_
   have zB:=hx.within
   have mL:=hx.w7
   obtain rfl:=zMn.1 (Nat.le_zero.1 hn)
   refine o0 (fun _=>.ord []) 3000 Tryz.func195 rfl Tryz.ntmps195 Tryz.results195 Tryz.call195 (by simp) (aj bs.length _ (by simp[within,within.ax,zB])) ?_
   have e2:decide (((0:Nat):Int)<2)=true:=rfl
   simp only[cq,↓Xn,↓Xo,↓Xg,↓Xd,↓Xe,↓Xf,Tryz.VΓ,Tryz.Γs,Xp,Xi,Nat.reduceAdd,Nat.reduceSub,Nat.reduceLT,Nat.reduceLeDiff,reduceIte,reduceCtorEq,Nat.reduceEqDiff,implies_true,forall_const,cp,dy,beq_self_eq_true,bne_self_eq_false,Int.reduceBEq,Int.reduceBNe,Int.reduceLT,Int.reduceLE,mL,zMl,e2]
   exact⟨by omega,[],hx.ro (eZ (zMx _)).ro,rfl,hL,(Kp.refl bs).fM⟩
 | n+1,bs,x,L,hx,hn,D6,hL=>by
   have ih:=fun {bs:List aw} {x:SV} {L:List Bytes} (h:Rs bs x L) (hl:L.length≤n) (hm:Le M L)=>kE M hM n h hl (by omega) hm
   refine SC.si ?_
   have zB:=hx.within
   have mL:=hx.w7
   refine o0 (fun n=>if n=3 then .all Hz else if n=7 then .all rC else if n=8 then .all rC else .ord []) 3000 Tryz.func195 rfl Tryz.ntmps195 Tryz.results195 Tryz.call195 (by simp) (aj bs.length _ (by simp[within,within.ax,zB])) ?_
   by_cases h2:L.length<2
   ·have e2:decide ((L.length:Int)<2)=true:=decide_eq_true (by omega)
    refine gA (zL7 mL e2) ?_
    exact⟨by omega,L,hx.ro (eZ (zMx _)).ro,rfl,hL,(Kp.refl bs).fM⟩
   ·have e2:decide ((L.length:Int)<2)=false:=decide_eq_false (by omega)
    rcases hx with⟨rfl,rfl⟩|⟨j,rfl,hj⟩
    ·exact absurd h2 (by simp)
    have iG:=(zL8.1 hj).1
    have hq:jc .quo .i64 (L.length:Int) 2=((L.length / 2:Nat):Int):=I1 _ (by omega)
    have e3:zMp (L.length / 2 * 1) (L.map SV.str)=(L.take (L.length / 2)).map SV.str:=by rw[Nat.mul_one,List.map_take]
    have e4:zMt (L.length / 2 * 1) (zMp (L.length * 1) (L.map SV.str))=(L.drop (L.length / 2)).map SV.str:=by rw[Nat.mul_one,Nat.mul_one,List.take_of_length_le (by simp),List.map_drop]
    have f1:(L.take (L.length / 2)).length=L.length / 2:=by rw[List.length_take];omega
    have f2:(L.drop (L.length / 2)).length=L.length - L.length / 2:=by rw[List.length_drop]
    have r1:∀ (b:List aw) (q:Nat),b[q]? = some (.own ((L.take (L.length / 2)).map SV.str) 9 1 (L.length / 2) false)→Rs b (.o q (L.length / 2)) (L.take (L.length / 2)):=fun b q h=>.inr ⟨q,by rw[f1],by rw[f1];exact h⟩
    have r2:∀ (b:List aw) (q:Nat),b[q]? = some (.own ((L.drop (L.length / 2)).map SV.str) 9 1 (L.length - L.length / 2) false)→Rs b (.o q (L.length - L.length / 2)) (L.drop (L.length / 2)):=fun b q h=>.inr ⟨q,by rw[f2],by rw[f2];exact h⟩
    have l1:Le M (L.take (L.length / 2)):=fun s hs=>hL s (List.mem_of_mem_take hs)
    have l2:Le M (L.drop (L.length / 2)):=fun s hs=>hL s (List.mem_of_mem_drop hs)
    refine gA e2 ?_
    refine qk (fun σ=>∃ (x y:SV) (A B:List Bytes),lk 3 σ.t=some x∧lk 4 σ.t=some y∧Rs σ.b x A∧Rs σ.b y B∧Le M A∧Le M B∧A.length+B.length=L.length∧Kp bs σ.b) (by kernel_rfl) ?_ ?_
    ·simp only[cq,↓Xn,↓Xo,↓Xg,↓Xd,↓Xe,↓Xf,Tryz.VΓ,Tryz.Γs,Xp,Xi,Nat.reduceAdd,Nat.reduceSub,Nat.reduceLT,Nat.reduceLeDiff,reduceIte,reduceCtorEq,Nat.reduceEqDiff,implies_true,forall_const,cp,dy,beq_self_eq_true,bne_self_eq_false,Int.reduceBEq,Int.reduceBNe,Int.reduceLT,Int.reduceLE,Hz,hq,hj,ad hj,dY hj,dY (ad hj _),e3,e4]
     refine⟨by omega,by omega,⟨by omega,?_,?_⟩,?_⟩
     ·refine ae (ih (r1 _ _ (aI _ _)) (by omega) l1) ?_
      rintro x1 b1 ⟨A,hA,E6,lA,cN⟩
      have hbj1:=cN.at (ad hj _)
      have iY:=((Kp.refl bs).app _).trans cN
      refine gA (zL7 hq (zL7 hbj1 (zL7 (dY hbj1) e4))) ?_
      refine⟨by omega,ae (ih (r2 _ _ (aI _ _)) (by omega) l2) ?_⟩
      rintro y1 b2 ⟨B,hB,I3,lB,bM⟩
      refine dz ?_
      exact⟨x1,y1,A,B,rfl,rfl,hA.ro ((Ro.refl _).app _ |>.trans bM.ro),hB,lA,lB,by omega,(iY.app _).trans bM⟩
     ·refine⟨by omega,ae (ih (r1 _ _ (aI _ _)) (by omega) l1) ?_⟩
      rintro x1 b1 ⟨A,hA,E6,lA,cN⟩
      have iY:=((Kp.refl bs).app _).trans cN
      refine dz ?_
      refine ae (ih (r2 _ _ (cN.at (aQ _ _ 1))) (by omega) l2) ?_
      rintro y1 b2 ⟨B,hB,I3,lB,bM⟩
      refine dz ?_
      exact⟨x1,y1,A,B,rfl,rfl,hA.ro bM.ro,hB,lA,lB,by omega,iY.trans bM⟩
     ·refine⟨by omega,by omega,ae (ih (r1 _ _ (aQ _ _ 1)) (by omega) l1) ?_⟩
      rintro x1 b1 ⟨A,hA,E6,lA,cN⟩
      have iY:=((Kp.refl bs).app _).trans cN
      refine dz ?_
      refine ae (ih (r2 _ _ (cN.at (aI _ _))) (by omega) l2) ?_
      rintro y1 b2 ⟨B,hB,I3,lB,bM⟩
      refine dz ?_
      exact⟨x1,y1,A,B,rfl,rfl,hA.ro bM.ro,hB,lA,lB,by omega,iY.trans bM⟩
    ·rintro⟨t,b⟩ ⟨x,y,A,B,h3,h4,hA,hB,lA,lB,oO,bf⟩
     simp only at h3 h4 hA hB bf
     refine gA (zL7 h3 h4) ?_
     refine az (fun σ=>∃ m,sr bs M L.length σ m) (fun σ=>H2 3 σ+H2 4 σ) ⟨_,x,y,.ah,A,B,[],h3,h4,rfl,hA,hB,lA,lB,(by intro s hs;cases hs),(by simpa using oO),rfl,bf,.inl ⟨rfl,rfl⟩⟩ ?_
     clear h3 h4 hA hB lA lB oO bf t b x y A B
     rintro⟨t,b⟩ ⟨m,x,y,o,A,B,O,h3,h4,h5,hA,hB,lA,lB,lO,dc,hm,bf,ho⟩
     simp only at h3 h4 h5 hA hB bf ho
     rw[hA.H2 h3,hB.H2 h4]
     have E6:=hA.w7
     have I3:=hB.w7
     by_cases rp:0<A.length
     ·by_cases kW:0<B.length
      ·have c1:decide ((0:Int)<A.length)=true:=decide_eq_true (by omega)
       have c2:decide ((0:Int)<B.length)=true:=decide_eq_true (by omega)
       have hAA:=hA
       have hBB:=hB
       rcases hA with⟨rfl,rfl⟩|⟨ja,rfl,G1⟩
       ·exact absurd rp (by simp)
       rcases hB with⟨rfl,rfl⟩|⟨jb,rfl,G0⟩
       ·exact absurd kW (by simp)
       have a0:(A.map SV.str)[zMu 0 * 1]? = some (.str (A[0]'rp)):=by simp[rp]
       have b0:(B.map SV.str)[zMu 0 * 1]? = some (.str (B[0]'kW)):=by simp[kW]
       refine gA (zL7 h3 (zL7 h4 (zL7 h5 (zL7 E6 (zL7 I3 (zL7 c1 (zL7 c2 (zL7 G1 (zL7 G0 (zL7 a0 b0)))))))))) ?_
       have a1:zMt (zMu 1 * 1) (zMp (A.length * 1) (A.map SV.str))=A.tail.map SV.str:=by rw[Nat.mul_one,List.take_of_length_le (by simp)];simp
       have b1:zMt (zMu 1 * 1) (zMp (B.length * 1) (B.map SV.str))=B.tail.map SV.str:=by rw[Nat.mul_one,List.take_of_length_le (by simp)];simp
       refine⟨by omega,by simp;omega,by omega,by simp;omega,?_,fun _=>?_,fun _=>?_⟩
       ·refine bE (fun _=>0) ?_
        simp only[zMe,zMf,cM,dZ]
        exact av (by kernel_rfl)
       ·refine qk (fun σ=>∃ m,m<A.length+B.length∧sr bs M L.length σ m) (by kernel_rfl) ?_ ?_
        ·have ug:=bf.1
         rcases ho with⟨rfl,rfl⟩|⟨q,rfl,hq,bU⟩
         ·simp only[cq,↓Xn,↓Xo,↓Xg,↓Xd,↓Xe,↓Xf,Tryz.VΓ,Tryz.Γs,Xp,Xi,Nat.reduceAdd,Nat.reduceSub,Nat.reduceLT,Nat.reduceLeDiff,reduceIte,reduceCtorEq,Nat.reduceEqDiff,implies_true,forall_const,cp,dy,beq_self_eq_true,bne_self_eq_false,Int.reduceBEq,Int.reduceBNe,Int.reduceLT,Int.reduceLE,rC,h3,h4,h5,G1,ad G1,dY G1,dY (ad G1 _),a0,a1]
          repeat' apply zL7
          all_goals first
           | omega
           | (unfold maxLen;omega)
           | (simp;omega)
           | exact sr.left (O:=[]) rp rfl h4 rfl (by first | exact aI _ _ | exact aQ _ _ 1 | exact aQ _ _ 2) (hBB.ro ((Ro.refl b).app _)) (by first | exact aI _ _ | exact aQ _ _ 1 | exact aQ _ _ 2) (by omega) lA lB lO dc (bf.app _)
         ·have kK:=(zL8.1 bU).1
          have kR:∀ (l:List aw) X,(b++l).set q X=b.set q X++l:=fun l X=>aK kK l X
          have hnq:q≠ja:=by rintro rfl;rw[bU]at G1;simp at G1
          have iB:=ak G1 hnq .gone
          simp only[cq,↓Xn,↓Xo,↓Xg,↓Xd,↓Xe,↓Xf,Tryz.VΓ,Tryz.Γs,Xp,Xi,Nat.reduceAdd,Nat.reduceSub,Nat.reduceLT,Nat.reduceLeDiff,reduceIte,reduceCtorEq,Nat.reduceEqDiff,implies_true,forall_const,cp,dy,beq_self_eq_true,bne_self_eq_false,Int.reduceBEq,Int.reduceBNe,Int.reduceLT,Int.reduceLE,rC,h3,h4,h5,bU,ad bU,G1,ad G1,dY G1,dY (ad G1 _),ad iB,dY (ad iB _),kR,zMd,a0,a1]
          repeat' apply zL7
          all_goals first
           | omega
           | (unfold maxLen;omega)
           | (simp;omega)
           | exact sr.left rp rfl h4 rfl (by first | exact aJ (by simp) _ 0 | exact aJ (by simp) _ 1 | exact aJ (by simp) _ 2) (hBB.ro (((Ro.refl b).oj bU _).app _)) (by first | exact aJ (by simp) _ 0 | exact aJ (by simp) _ 1 | exact aJ (by simp) _ 2) (by omega) lA lB lO dc ((bf.set hq _).app _)
        ·rintro σ ⟨m,hm,hi⟩
         refine dz ?_
         exact⟨⟨m,hi⟩,by rw[hi.mu];exact hm⟩
       ·refine qk (fun σ=>∃ m,m<A.length+B.length∧sr bs M L.length σ m) (by kernel_rfl) ?_ ?_
        ·have ug:=bf.1
         rcases ho with⟨rfl,rfl⟩|⟨q,rfl,hq,bU⟩
         ·simp only[cq,↓Xn,↓Xo,↓Xg,↓Xd,↓Xe,↓Xf,Tryz.VΓ,Tryz.Γs,Xp,Xi,Nat.reduceAdd,Nat.reduceSub,Nat.reduceLT,Nat.reduceLeDiff,reduceIte,reduceCtorEq,Nat.reduceEqDiff,implies_true,forall_const,cp,dy,beq_self_eq_true,bne_self_eq_false,Int.reduceBEq,Int.reduceBNe,Int.reduceLT,Int.reduceLE,rC,h3,h4,h5,G0,ad G0,dY G0,dY (ad G0 _),b0,b1]
          repeat' apply zL7
          all_goals first
           | omega
           | (unfold maxLen;omega)
           | (simp;omega)
           | exact sr.right (O:=[]) kW h3 rfl rfl (by first | exact aI _ _ | exact aQ _ _ 1 | exact aQ _ _ 2) (hAA.ro ((Ro.refl b).app _)) (by first | exact aI _ _ | exact aQ _ _ 1 | exact aQ _ _ 2) (by omega) lA lB lO dc (bf.app _)
         ·have kK:=(zL8.1 bU).1
          have kR:∀ (l:List aw) X,(b++l).set q X=b.set q X++l:=fun l X=>aK kK l X
          have hnq:q≠jb:=by rintro rfl;rw[bU]at G0;simp at G0
          have iB:=ak G0 hnq .gone
          simp only[cq,↓Xn,↓Xo,↓Xg,↓Xd,↓Xe,↓Xf,Tryz.VΓ,Tryz.Γs,Xp,Xi,Nat.reduceAdd,Nat.reduceSub,Nat.reduceLT,Nat.reduceLeDiff,reduceIte,reduceCtorEq,Nat.reduceEqDiff,implies_true,forall_const,cp,dy,beq_self_eq_true,bne_self_eq_false,Int.reduceBEq,Int.reduceBNe,Int.reduceLT,Int.reduceLE,rC,h3,h4,h5,bU,ad bU,G0,ad G0,dY G0,dY (ad G0 _),ad iB,dY (ad iB _),kR,zMd,b0,b1]
          repeat' apply zL7
          all_goals first
           | omega
           | (unfold maxLen;omega)
           | (simp;omega)
           | exact sr.right kW h3 rfl rfl (by first | exact aJ (by simp) _ 0 | exact aJ (by simp) _ 1 | exact aJ (by simp) _ 2) (hAA.ro (((Ro.refl b).oj bU _).app _)) (by first | exact aJ (by simp) _ 0 | exact aJ (by simp) _ 1 | exact aJ (by simp) _ 2) (by omega) lA lB lO dc ((bf.set hq _).app _)
        ·rintro σ ⟨m,hm,hi⟩
         refine dz ?_
         exact⟨⟨m,hi⟩,by rw[hi.mu];exact hm⟩
      ·have c1:decide ((0:Int)<A.length)=true:=decide_eq_true (by omega)
       have c2:decide ((0:Int)<B.length)=false:=decide_eq_false (by omega)
       have sx:=hA.src
       have os:=tS A
       have ot:=tS B
       rcases ho with⟨rfl,rfl⟩|⟨q,rfl,hq,bU⟩
       ·have sy:=fun X=>(hB.ro ((Ro.refl b).app X)).src
        refine gA (zL7 h3 (zL7 h4 (zL7 h5 (zL7 E6 (zL7 I3 (zL7 c1 (zL7 c2 (zL7 sx (zL7 sy (zL7 os ot)))))))))) ?_
        have ug:=bf.1
        refine⟨⟨by unfold maxLen;omega,by omega⟩,⟨by unfold maxLen;omega,by omega⟩,by omega,A++B,.inr ⟨b.length+1,by rw[zMc],?_⟩,by rw[zMc];simpa using dc,Le.app lA lB,(bf.app _).fM⟩
        have:=ij (lo:=bs.length) (k:=b.length+1) (by omega) (r:=.own (A.map SV.str++B.map SV.str) 9 1 (A.length+B.length) true) (aQ b [.gone,_] 1)
        simpa[GF] using this
       ·have kK:=(zL8.1 bU).1
        have kR:∀ (l:List aw) X,(b++l).set q X=b.set q X++l:=fun l X=>aK kK l X
        have sy:=fun X=>(hB.ro (((Ro.refl b).oj bU .gone).app X)).src
        have lE:∀ (l:List aw) X,(b.set q .gone++l).set b.length X=b.set q .gone++l.set 0 X:=fun l X=>by
         have:=ly (b.set q .gone) l X
         rwa [zMd]at this
        have D8:∀ (l:List aw),(b.set q .gone++l)[b.length]? = l[0]? := fun l=>by
         have:=aI (b.set q .gone) l
         rwa [zMd]at this
        simp only[cq,↓Xn,↓Xo,↓Xg,↓Xd,↓Xe,↓Xf,Tryz.VΓ,Tryz.Γs,Xp,Xi,Nat.reduceAdd,Nat.reduceSub,Nat.reduceLT,Nat.reduceLeDiff,reduceIte,reduceCtorEq,Nat.reduceEqDiff,implies_true,forall_const,cp,dy,beq_self_eq_true,bne_self_eq_false,Int.reduceBEq,Int.reduceBNe,Int.reduceLT,Int.reduceLE,h3,h4,h5,E6,I3,c1,c2,bU,sx,sy,os,ot,kR,lE,D8,zMd]
        have ug:=bf.1
        refine⟨⟨by unfold maxLen;omega,by omega⟩,⟨by unfold maxLen;omega,by omega⟩,by omega,O++(A++B),.inr ⟨b.length+1,by simp only[zMc],?_⟩,by simp only[zMc];omega,Le.app lO (Le.app lA lB),((bf.set hq _).app _).fM⟩
        have:=ij (lo:=bs.length) (k:=b.length+1) (by omega) (r:=.own (O.map SV.str++(A.map SV.str++B.map SV.str)) 9 1 (O.length+(A.length+B.length)) true) (aJ (l1:=b.set q .gone) (by simp) [.gone,_] 1)
        simpa[GF] using this
     ·have c1:decide ((0:Int)<A.length)=false:=decide_eq_false (by omega)
      have sx:=hA.src
      have os:=tS A
      have ot:=tS B
      rcases ho with⟨rfl,rfl⟩|⟨q,rfl,hq,bU⟩
      ·have sy:=fun X=>(hB.ro ((Ro.refl b).app X)).src
       refine gA (zL7 h3 (zL7 h4 (zL7 h5 (zL7 E6 (zL7 I3 (zL7 c1 (zL7 sx (zL7 sy (zL7 os ot))))))))) ?_
       have ug:=bf.1
       refine⟨⟨by unfold maxLen;omega,by omega⟩,⟨by unfold maxLen;omega,by omega⟩,by omega,A++B,.inr ⟨b.length+1,by rw[zMc],?_⟩,by rw[zMc];simpa using dc,Le.app lA lB,(bf.app _).fM⟩
       have:=ij (lo:=bs.length) (k:=b.length+1) (by omega) (r:=.own (A.map SV.str++B.map SV.str) 9 1 (A.length+B.length) true) (aQ b [.gone,_] 1)
       simpa[GF] using this
      ·have kK:=(zL8.1 bU).1
       have kR:∀ (l:List aw) X,(b++l).set q X=b.set q X++l:=fun l X=>aK kK l X
       have sy:=fun X=>(hB.ro (((Ro.refl b).oj bU .gone).app X)).src
       have lE:∀ (l:List aw) X,(b.set q .gone++l).set b.length X=b.set q .gone++l.set 0 X:=fun l X=>by
        have:=ly (b.set q .gone) l X
        rwa [zMd]at this
       have D8:∀ (l:List aw),(b.set q .gone++l)[b.length]? = l[0]? := fun l=>by
        have:=aI (b.set q .gone) l
        rwa [zMd]at this
       simp only[cq,↓Xn,↓Xo,↓Xg,↓Xd,↓Xe,↓Xf,Tryz.VΓ,Tryz.Γs,Xp,Xi,Nat.reduceAdd,Nat.reduceSub,Nat.reduceLT,Nat.reduceLeDiff,reduceIte,reduceCtorEq,Nat.reduceEqDiff,implies_true,forall_const,cp,dy,beq_self_eq_true,bne_self_eq_false,Int.reduceBEq,Int.reduceBNe,Int.reduceLT,Int.reduceLE,h3,h4,h5,E6,I3,c1,bU,sx,sy,os,ot,kR,lE,D8,zMd]
       have ug:=bf.1
       refine⟨⟨by unfold maxLen;omega,by omega⟩,⟨by unfold maxLen;omega,by omega⟩,by omega,O++(A++B),.inr ⟨b.length+1,by simp only[zMc],?_⟩,by simp only[zMc];omega,Le.app lO (Le.app lA lB),((bf.set hq _).app _).fM⟩
       have:=ij (lo:=bs.length) (k:=b.length+1) (by omega) (r:=.own (O.map SV.str++(A.map SV.str++B.map SV.str)) 9 1 (O.length+(A.length+B.length)) true) (aJ (l1:=b.set q .gone) (by simp) [.gone,_] 1)
       simpa[GF] using this
def DE (r:Int):Bool:=decide (0≤r)&&(decide (r≤1114111)&&(decide (r<55296)||decide (57343<r)))
theorem DK (r:Int):PC Tryz.V 296 [.int .i64 r] (.bool (DE r)):=by
 unfold DE
 refine aV 3000 Tryz.func296 rfl Tryz.ntmps296 Tryz.results296 Tryz.call296 (by simp) (by simp[flat,flat.af]) (by simp[flat,flat.af]) ?_
 cases h1:decide (0≤r)
 ·exact gA (zL7 h1 Bool.false_and) True.intro
 cases h2:decide (r≤1114111)
 ·exact gA (zL7 h1 (zL7 h2 (zL7 Bool.false_and Bool.true_and))) True.intro
 cases h3:decide (r<55296)
 ·exact gA (zL7 h1 (zL7 h2 (zL7 h3 (zL7 Bool.false_or Bool.true_and)))) True.intro
 ·exact gA (zL7 h1 (zL7 h2 (zL7 h3 (zL7 Bool.true_or Bool.true_and)))) True.intro
theorem FY (x:Int):w9 (.int .u8 (IntKind.u8.wrap x))=true:=by
 have h:IntKind.u8.wrap x=x % 256:=rfl
 rw[h]
 simp only[w9,Bool.and_eq_true,decide_eq_true_eq]
 omega
theorem yL {bs:List aw}(r:Int):SC Tryz.V 294 [.int .i64 r] bs (fun x b=>∃ s e,x=.fF [.str s,.int .i64 e]∧s.length≤4∧Kp bs b):=by
 have p1:=DK r
 refine bJ 3000 Tryz.func294 rfl Tryz.ntmps294 Tryz.results294 Tryz.call294 (by simp) (aj bs.length _ (by simp[within,within.ax])) ?_
 refine dz ?_
 (refine aa (p1) ?_;refine dz ?_)
 cases hp:DE r
 ·refine gA (zL7 hp Bool.not_false) ?_
  exact⟨_,_,rfl,by simp,Kp.refl bs⟩
 ·refine gA (zL7 hp (zL7 zMw (zL7 @FY zMr))) ?_
  exact⟨fun _=>⟨by omega,_,_,rfl,by simp,(Kp.refl bs).app _⟩,fun _=>⟨fun _=>⟨by omega,_,_,rfl,by simp,(Kp.refl bs).app _⟩,fun _=>⟨fun _=>⟨by omega,_,_,rfl,by simp,(Kp.refl bs).app _⟩,fun _=>⟨by omega,_,_,rfl,by simp,(Kp.refl bs).app _⟩⟩⟩⟩
theorem AN {bs:List aw}(s:Bytes)(h0:0<s.length)(h4:s.length≤4):SC Tryz.V 293 [.str s] bs (fun x b=>∃ n,x=.int .i64 n∧Kp bs b):=by
 refine bJ 3000 Tryz.func293 rfl Tryz.ntmps293 Tryz.results293 Tryz.call293 (by simp) (aj bs.length _ (by simp[within,within.ax])) ?_
 obtain⟨c,hc⟩:∃ c,s[0]? = some c:=⟨s[0],List.getElem?_eq_getElem h0⟩
 by_cases h1:s.length=1
 ·have e1:((s.length:Int)==1)=true:=by rw[h1];rfl
  refine gA (zL7 e1 hc) ?_
  exact⟨by omega,_,rfl,Kp.refl bs⟩
 ·have e1:((s.length:Int)==1)=false:=by simp;omega
  refine gA (zL7 e1 hc) ?_
  have hsh:HB .shl .i64 1 (7 - (s.length:Int))=32∨HB .shl .i64 1 (7 - (s.length:Int))=16∨HB .shl .i64 1 (7 - (s.length:Int))=8:=by
   have:s.length=2∨s.length=3∨s.length=4:=by omega
   rcases this with h|h|h <;> rw[h]
   ·exact .inl rfl
   ·exact .inr (.inl rfl)
   ·exact .inr (.inr rfl)
  refine⟨by omega,by omega,by omega,by omega,(av (by kernel_rfl)),?_⟩
  refine az (fun σ=>∃ (k:Nat) (r:Int),k≤s.length∧lk 0 σ.t=some (.str s)∧lk 3 σ.t=some (.int .i64 r)∧lk 4 σ.t=some (.int .i64 k)∧σ.b=bs) (fun σ=>s.length - fC 4 σ) ⟨1,_,by omega,rfl,rfl,rfl,rfl⟩ ?_
  rintro⟨t,b⟩ ⟨k,r,hk,h0,h3,h4,hb⟩
  simp only at h0 h3 h4 hb
  subst hb
  rw[ao h4]
  by_cases aC:k<s.length
  ·have bg:decide ((k:Int)<s.length)=true:=decide_eq_true (by omega)
   refine gA (zL7 h0 (zL7 h3 (zL7 h4 bg))) ?_
   refine⟨by omega,by omega,⟨k+1,_,by omega,rfl,rfl⟩,?_⟩
   rw[ao (k:=.i64) (n:=(k:Int)+1) rfl];omega
  ·have bg:decide ((k:Int)<s.length)=false:=decide_eq_false (by omega)
   refine gA (zL7 h0 (zL7 h3 (zL7 h4 bg))) ?_
   exact⟨_,rfl,Kp.refl _⟩
theorem yM {bs:List aw}(s:Bytes)(hs:s.length≤2000000)(at':Nat):SC Tryz.V 287 [.str s,.int .i64 at'] bs (fun x b=>∃ r q e:Int,x=.fF [.int .i64 r,.int .i64 q,.int .i64 e]∧(e=0→(at':Int)<q∧q≤s.length)∧Kp bs b):=by
 refine bJ 3000 Tryz.func287 rfl Tryz.ntmps287 Tryz.results287 Tryz.call287 (by simp) (aj bs.length _ (by simp[within,within.ax])) ?_
 have e0:decide ((at':Int)<0)=false:=decide_eq_false (by omega)
 by_cases hl:at'<s.length
 ·have e1:decide ((s.length:Int)≤at')=false:=decide_eq_false (by omega)
  refine gA (zL7 e0 e1) ?_
  refine az (fun σ=>∃ (n:Nat),1≤n∧n≤5∧lk 0 σ.t=some (.str s)∧lk 1 σ.t=some (.int .i64 at')∧lk 7 σ.t=some (.int .i64 n)∧Kp bs σ.b) (fun σ=>5 - fC 7 σ) ⟨1,by omega,by omega,rfl,rfl,rfl,Kp.refl bs⟩ ?_
  rintro⟨t,b⟩ ⟨n,D6,hn5,h0,h1,h7,bf⟩
  simp only at h0 h1 h7 bf
  rw[ao h7]
  by_cases hn4:n≤4
  ·have c1:decide ((n:Int)≤4)=true:=decide_eq_true (by omega)
   by_cases cY:at'+n≤s.length
   ·have c2:decide ((at':Int)+n≤s.length)=true:=decide_eq_true (by omega)
    refine gA (zL7 h0 (zL7 h1 (zL7 h7 (zL7 c1 c2)))) ?_
    have hl:(s.take ((at':Int)+n).toNat |>.drop at').length=n:=by
     rw[List.length_drop,List.length_take];omega
    refine⟨by omega,by omega,by omega,ae (AN _ (by omega) (by omega)) ?_⟩
    rintro x b1 ⟨r,rfl,cN⟩
    have iY:=bf.trans cN
    refine gA (zL7 h0 (zL7 h1 h7)) ?_
    refine ae (yL r) ?_
    rintro x b2 ⟨u,e,rfl,hu,bM⟩
    have eN:=iY.trans bM
    cases he:e==0
    ·refine gA (zL7 h0 (zL7 h1 (zL7 h7 he))) ?_
     refine⟨by omega,⟨n+1,by omega,by omega,rfl,eN⟩,?_⟩
     rw[ao (k:=.i64) (n:=(n:Int)+1) rfl];omega
    ·refine gA (zL7 h0 (zL7 h1 (zL7 h7 he))) ?_
     refine⟨by omega,by omega,fun _=>⟨by omega,_,_,_,rfl,fun _=>⟨by omega,by omega⟩,eN⟩,fun _=>⟨by omega,⟨n+1,by omega,by omega,rfl,eN⟩,?_⟩⟩
     rw[ao (k:=.i64) (n:=(n:Int)+1) rfl];omega
   ·have c2:decide ((at':Int)+n≤s.length)=false:=decide_eq_false (by omega)
    refine gA (zL7 h0 (zL7 h1 (zL7 h7 (zL7 c1 c2)))) ?_
    exact⟨by omega,_,_,_,rfl,fun h=>by simp at h,bf⟩
  ·have c1:decide ((n:Int)≤4)=false:=decide_eq_false (by omega)
   refine gA (zL7 h0 (zL7 h1 (zL7 h7 c1))) ?_
   exact⟨_,_,_,rfl,fun h=>by simp at h,bf⟩
 ·have e1:decide ((s.length:Int)≤at')=true:=decide_eq_true (by omega)
  refine gA (zL7 e0 e1) ?_
  exact⟨_,_,_,rfl,fun h=>by simp at h,Kp.refl _⟩
theorem AO {bs:List aw}(s:Bytes)(hs:s.length≤2000000):SC Tryz.V 275 [.str s] bs (fun x b=>∃ n:Int,x=.int .i64 n∧Kp bs b):=by
 refine bJ 3000 Tryz.func275 rfl Tryz.ntmps275 Tryz.results275 Tryz.call275 (by simp) (aj bs.length _ (by simp[within,within.ax])) ?_
 refine dz ?_
 refine az (fun σ=>∃ (k n:Nat),n≤k∧k≤s.length∧lk 0 σ.t=some (.str s)∧lk 3 σ.t=some (.int .i64 n)∧lk 4 σ.t=some (.int .i64 k)∧Kp bs σ.b) (fun σ=>s.length - fC 4 σ) ⟨0,0,by omega,by omega,rfl,rfl,rfl,Kp.refl bs⟩ ?_
 rintro⟨t,b⟩ ⟨k,n,hn,hk,h0,h3,h4,bf⟩
 simp only at h0 h3 h4 bf
 rw[ao h4]
 by_cases aC:k<s.length
 ·have bg:decide ((k:Int)<s.length)=true:=decide_eq_true (by omega)
  refine gA (zL7 h0 (zL7 h3 (zL7 h4 bg))) ?_
  refine ae (yM s hs k) ?_
  rintro x b1 ⟨r,q,e,rfl,hq,cN⟩
  have iY:=bf.trans cN
  cases he:e != 0
  ·have he0:e=0:=by simpa using he
   obtain⟨q1,q2⟩:=hq he0
   obtain⟨m,rfl⟩:∃ m:Nat,q=m:=⟨q.toNat,by omega⟩
   refine gA (zL7 h0 (zL7 h3 (zL7 h4 he))) ?_
   refine⟨by omega,⟨m,n+1,by omega,by omega,rfl,rfl,iY⟩,?_⟩
   rw[ao (k:=.i64) (n:=(m:Int)) rfl];omega
  ·refine gA (zL7 h0 (zL7 h3 (zL7 h4 he))) ?_
   exact⟨_,rfl,iY⟩
 ·have bg:decide ((k:Int)<s.length)=false:=decide_eq_false (by omega)
  refine gA (zL7 h0 (zL7 h3 (zL7 h4 bg))) ?_
  exact⟨_,rfl,bf⟩
theorem nf {bs:List aw}(s:Bytes)(hs:s.length≤2000000):SC Tryz.V 242 [.str s] bs (fun x b=>∃ y:Bool,x=.bool y∧Kp bs b):=by
 refine bJ 3000 Tryz.func242 rfl Tryz.ntmps242 Tryz.results242 Tryz.call242 (by simp) (aj bs.length _ (by simp[within,within.ax])) ?_
 refine dz ?_
 refine ae (AO s hs) ?_
 rintro x b1 ⟨n,rfl,cN⟩
 refine dz ?_
 exact⟨_,rfl,cN⟩
theorem quo16 (c:UInt8):(0≤jc .quo .u8 (c.toNat:Int) 16∧jc .quo .u8 (c.toNat:Int) 16<((16:Nat):Int))∧(0≤jc .rem .u8 (c.toNat:Int) 16∧jc .rem .u8 (c.toNat:Int) 16<((16:Nat):Int)):=by
 have:=cW (p:=fun c=>decide ((0≤jc .quo .u8 (c.toNat:Int) 16∧jc .quo .u8 (c.toNat:Int) 16<((16:Nat):Int))∧(0≤jc .rem .u8 (c.toNat:Int) 16∧jc .rem .u8 (c.toNat:Int) 16<((16:Nat):Int)))) (by decide +kernel) c
 exact of_decide_eq_true this
theorem lQ {bs:List aw}(s:Bytes)(hs:s.length≤1000000):SC Tryz.V 194 [.str s] bs (fun x b=>∃ (u:Bytes) (e:Int),x=.fF [.str u,.int .i64 e]∧u.length≤6 * s.length+2∧Kp bs b):=by
 refine bJ 3000 Tryz.func194 rfl Tryz.ntmps194 Tryz.results194 Tryz.call194 (by simp) (aj bs.length _ (by simp[within,within.ax])) ?_
 have e0:decide (1048576<(s.length:Int))=false:=decide_eq_false (by omega)
 refine gA e0 ?_
 refine ae (nf s (by omega)) ?_
 rintro x b1 ⟨y,rfl,cN⟩
 cases y
 ·refine gA Bool.not_false ?_
  exact⟨_,_,rfl,by simp,cN⟩
 refine gA zMw ?_
 refine⟨by omega,?_⟩
 refine az (fun σ=>∃ (k q:Nat) (W:Bytes),k≤s.length∧W.length≤1+6 * k∧lk 0 σ.t=some (.str s)∧lk 4 σ.t=some (.o q W.length)∧lk 5 σ.t=some (.int .i64 k)∧Kp bs σ.b∧bs.length≤q∧σ.b[q]? = some (.own (W.map dP) 5 1 W.length true)) (fun σ=>s.length - fC 5 σ) ⟨0,b1.length,[34],by omega,by simp,rfl,rfl,rfl,cN.app _,cN.1,aI _ _⟩ ?_
 rintro⟨t,b⟩ ⟨k,q,W,hk,hW,h0,h4,h5,bf,hq,bU⟩
 simp only at h0 h4 h5 bf bU
 rw[ao h5]
 have kK:=(zL8.1 bU).1
 have kR:∀ (l:List aw) X,(b++l).set q X=b.set q X++l:=fun l X=>aK kK l X
 by_cases aC:k<s.length
 ·have bg:decide ((k:Int)<s.length)=true:=decide_eq_true (by omega)
  refine gA (zL7 h0 (zL7 h4 (zL7 h5 (zL7 bg (zL7 bU (zL7 (ad bU) kR)))))) ?_
  refine⟨by omega,?_⟩
  generalize s.getD k 0=c
  refine⟨fun _=>⟨fun _=>?_,fun _=>⟨fun _=>?_,fun _=>⟨fun _=>?_,fun _=>⟨fun _=>?_,fun _=>⟨fun _=>?_,fun _=>⟨fun _=>?_,fun _=>⟨fun hc32=>?_,fun _=>?_⟩⟩⟩⟩⟩⟩⟩,fun _=>?_⟩
  ·exact⟨by omega,⟨by unfold maxLen;omega,by omega⟩,by omega,⟨k+1,b.length+1,W++[92,c],by omega,by simp;omega,by simp,rfl,(bf.set hq _).app _,by omega,by rw[aJ (by simp)];simp[dP]⟩,by rw[ao (k:=.i64) (n:=(k:Int)+1) rfl];omega⟩
  ·exact⟨⟨rfl,by unfold maxLen;omega,by omega⟩,by omega,⟨k+1,b.length,W++[92,98],by omega,by simp;omega,by simp,rfl,(bf.set hq _).app _,by omega,by rw[← Nat.add_zero b.length,aJ (by simp)];simp[dP]⟩,by rw[ao (k:=.i64) (n:=(k:Int)+1) rfl];omega⟩
  ·exact⟨⟨rfl,by unfold maxLen;omega,by omega⟩,by omega,⟨k+1,b.length,W++[92,102],by omega,by simp;omega,by simp,rfl,(bf.set hq _).app _,by omega,by rw[← Nat.add_zero b.length,aJ (by simp)];simp[dP]⟩,by rw[ao (k:=.i64) (n:=(k:Int)+1) rfl];omega⟩
  ·exact⟨⟨rfl,by unfold maxLen;omega,by omega⟩,by omega,⟨k+1,b.length,W++[92,110],by omega,by simp;omega,by simp,rfl,(bf.set hq _).app _,by omega,by rw[← Nat.add_zero b.length,aJ (by simp)];simp[dP]⟩,by rw[ao (k:=.i64) (n:=(k:Int)+1) rfl];omega⟩
  ·exact⟨⟨rfl,by unfold maxLen;omega,by omega⟩,by omega,⟨k+1,b.length,W++[92,114],by omega,by simp;omega,by simp,rfl,(bf.set hq _).app _,by omega,by rw[← Nat.add_zero b.length,aJ (by simp)];simp[dP]⟩,by rw[ao (k:=.i64) (n:=(k:Int)+1) rfl];omega⟩
  ·exact⟨⟨rfl,by unfold maxLen;omega,by omega⟩,by omega,⟨k+1,b.length,W++[92,116],by omega,by simp;omega,by simp,rfl,(bf.set hq _).app _,by omega,by rw[← Nat.add_zero b.length,aJ (by simp)];simp[dP]⟩,by rw[ao (k:=.i64) (n:=(k:Int)+1) rfl];omega⟩
  ·have hq16:=quo16 c
   refine⟨by omega,hq16.1,by omega,hq16.2,by omega,⟨by unfold maxLen;omega,by omega⟩,?_,by omega,⟨k+1,b.length+1,W++[92,117,48,48,_,_],by omega,by simp;omega,by simp,rfl,(bf.set hq _).app _,by omega,by rw[aJ (by simp)];simp[dP];exact⟨rfl,rfl⟩⟩,by rw[ao (k:=.i64) (n:=(k:Int)+1) rfl];omega⟩
   refine bE (fun n=>if n=q then 100 else n - b.length) ?_
   have z2:∀ m,(b.length+m=q)=False:=fun m=>eq_false (by omega)
   have z3:(b.length=q)=False:=eq_false (by omega)
   simp only[zMe,zMf,cM,dZ,zMb,zMi,z2,z3,eq_self,if_true,if_false]
   exact av (by kernel_rfl)
  ·exact⟨by omega,⟨by unfold maxLen;omega,by omega⟩,by omega,⟨k+1,b.length+1,W++[c],by omega,by simp;omega,by simp,rfl,(bf.set hq _).app _,by omega,by rw[aJ (by simp)];simp[dP]⟩,by rw[ao (k:=.i64) (n:=(k:Int)+1) rfl];omega⟩
  ·exact⟨by omega,⟨by unfold maxLen;omega,by omega⟩,by omega,⟨k+1,b.length+1,W++[92,c],by omega,by simp;omega,by simp,rfl,(bf.set hq _).app _,by omega,by rw[aJ (by simp)];simp[dP]⟩,by rw[ao (k:=.i64) (n:=(k:Int)+1) rfl];omega⟩
 ·have bg:decide ((k:Int)<s.length)=false:=decide_eq_false (by omega)
  refine gA (zL7 h0 (zL7 h4 (zL7 h5 (zL7 bg (zL7 bU (zL7 (ad bU) kR)))))) ?_
  have hb3:(b.set q .gone++[.own [.int .u8 34] 5 1 1 true,.own (W.map dP++[.int .u8 34]) 5 1 (W.length+1) true])[b.length+1]? = some (.own (W.map dP++[.int .u8 34]) 5 1 (W.length+1) true):=aJ (by simp) _ 1
  refine gA hb3 ?_
  refine⟨by omega,⟨by unfold maxLen;omega,by omega⟩,?_,_,_,rfl,?_,(bf.set hq _).app _⟩
  ·rw[List.all_append,eK];rfl
  ·simp;omega
theorem rE {bs:List aw}{x:SV}{L:List Bytes}(hx:Rs bs x L)(hn:L.length≤1000)(hL:Le 20000 L):SC Tryz.V 243 [x] bs (fun r b=>∃ y:Bool,r=.bool y∧Kp bs b):=by
 have zB:=hx.within
 refine bJ 3000 Tryz.func243 rfl Tryz.ntmps243 Tryz.results243 Tryz.call243 (by simp) (aj bs.length _ (by simp[within,within.ax,zB])) ?_
 refine dz ?_
 refine ae (kE 20000 (by omega) _ hx (zMx _) hn hL) ?_
 rintro z b1 ⟨S,hS,hSl,lS,cN⟩
 have CZ:=hS.w7
 refine gA CZ ?_
 refine az (fun σ=>∃ k:Nat,k≤S.length∧lk 3 σ.t=some z∧lk 8 σ.t=some z∧lk 9 σ.t=some (.int .i64 S.length)∧lk 10 σ.t=some (.int .i64 k)∧Kp bs σ.b∧Rs σ.b z S) (fun σ=>S.length - fC 10 σ) ⟨0,by omega,rfl,rfl,rfl,rfl,cN,hS⟩ ?_
 rintro⟨t,b⟩ ⟨k,hk,h3,h8,h9,dH,bf,hS⟩
 simp only at h3 h8 h9 dH bf hS
 rw[ao dH]
 by_cases aC:k<S.length
 ·have bg:decide ((k:Int)<S.length)=true:=decide_eq_true (by omega)
  have hSS:=hS
  rcases hS with⟨rfl,rfl⟩|⟨j,rfl,hj⟩
  ·exact absurd aC (by simp)
  have Cc:(S.map SV.str)[k * 1]? = some (.str S[k]):=by simp[aC]
  refine gA (zL7 h3 (zL7 h8 (zL7 h9 (zL7 dH (zL7 bg (zL7 hj Cc)))))) ?_
  refine⟨by omega,by simp;omega,ae (nf _ (by have:=lS S[k] (zMj aC);omega)) ?_⟩
  rintro r b2 ⟨y,rfl,bM⟩
  have iB:=bM.at hj
  have eN:=bf.trans bM
  cases y
  ·refine gA (zL7 h3 (zL7 h8 (zL7 h9 (zL7 dH Bool.not_false)))) ?_
   exact⟨_,rfl,eN⟩
  ·by_cases h0:0<k
   ·have c0:decide ((0:Int)<k)=true:=decide_eq_true (by omega)
    have hkt2:(S.map SV.str)[((k:Int) - 1).toNat * 1]? = some (.str (S[k - 1]'(by omega))):=by
     rw[show ((k:Int) - 1).toNat * 1=k - 1 by omega]
     simp
    refine gA (zL7 h3 (zL7 h8 (zL7 h9 (zL7 dH (zL7 zMw (zL7 c0 (zL7 iB hkt2))))))) ?_
    refine⟨by omega,by omega,by simp;omega,fun _=>⟨_,rfl,eN⟩,fun _=>⟨by omega,⟨k+1,by omega,rfl,eN,hSS.ro bM.ro⟩,?_⟩⟩
    rw[ao (k:=.i64) (n:=(k:Int)+1) rfl];omega
   ·have c0:decide ((0:Int)<k)=false:=decide_eq_false (by omega)
    refine gA (zL7 h3 (zL7 h8 (zL7 h9 (zL7 dH (zL7 zMw c0))))) ?_
    refine⟨by omega,⟨k+1,by omega,rfl,eN,hSS.ro bM.ro⟩,?_⟩
    rw[ao (k:=.i64) (n:=(k:Int)+1) rfl];omega
 ·have bg:decide ((k:Int)<S.length)=false:=decide_eq_false (by omega)
  refine gA (zL7 h3 (zL7 h8 (zL7 h9 (zL7 dH bg)))) ?_
  exact⟨_,rfl,bf⟩
theorem qd:∀ (d:Nat){bs:List aw}{v:Tv},Tr bs d v→SC Tryz.V 193 [.agg (tv v)] bs (fun r b=>∃ y:Bool,r=.bool y∧Kp bs b)
 | 0,_,_,h=>h.elim
 | d+1,bs,v,hv=>by
   have ih:=fun {bs:List aw} {v:Tv} (h:Tr bs d v)=>qd d h
   have C3:=hv.lb
   obtain⟨kk,tt,xk,xi⟩:=v
   obtain⟨v1,v2,v3,v4⟩:=C3
   simp only at v1 v2 v3 v4
   have ho:(one xk&&one xi)=true:=by rw[v3,v4];rfl
   obtain⟨g1,g2,K,L,g3,g4,g5,g6,g7,g8,g9,g10⟩:=hv
   simp only at g1 g2 g3 g4 g8 g9
   refine bJ 3000 Tryz.func193 rfl Tryz.ntmps193 Tryz.results193 Tryz.call193 (by simp) (aj bs.length _ (by simp[within,within.ax,tv,v1,v2])) ?_
   have ov:=g4.len
   have oM:=g3.w7
   unfold tv
   rcases g2 with rfl|rfl|rfl|rfl
   ·refine gA (zL7 ho (zL7 ov oM)) ?_
    exact⟨_,rfl,(Kp.refl bs).app _⟩
   ·refine gA (zL7 ho (zL7 ov oM)) ?_
    obtain rfl:=g9 (by decide)
    refine ae (nf _ (by omega)) ?_
    rintro r b2 ⟨y,rfl,bM⟩
    have mF:=((Kp.refl bs).app _).trans bM
    have de:=bM.at (aI bs _)
    cases y
    ·refine gA (zL7 ho (zL7 ov (zL7 oM de))) ?_
     exact⟨_,rfl,mF⟩
    ·have c1:(((0:Nat):Int)==0)=true:=rfl
     simp only[cq,↓Xn,↓Xo,↓Xg,↓Xd,↓Xe,↓Xf,Tryz.VΓ,Tryz.Γs,Xp,Xi,Nat.reduceAdd,Nat.reduceSub,Nat.reduceLT,Nat.reduceLeDiff,reduceIte,reduceCtorEq,Nat.reduceEqDiff,implies_true,forall_const,cp,dy,beq_self_eq_true,bne_self_eq_false,Int.reduceBEq,Int.reduceBNe,Int.reduceLT,Int.reduceLE,ho,ov,oM,de,zMl,c1]
     exact⟨_,rfl,mF⟩
   obtain rfl:=g9 (by decide)
   have c1:(((0:Nat):Int) != 0)=false:=rfl
   cases ht:(tt != [])
   rotate_left
   refine gA (zL7 ho (zL7 ov (zL7 oM (zL7 ht c1)))) ?_
   exact⟨_,rfl,(Kp.refl bs).app _⟩
   have c1:((K.length:Int) != L.length)=false:=by rw[g8 rfl];simp
   have s1:=fun X=>rE (g3.ro ((Ro.refl bs).app [X])) (by omega) g7
   cases ht:(tt != [])
   rotate_left
   refine gA (zL7 ho (zL7 ov (zL7 oM (zL7 ht c1)))) ?_
   exact⟨_,rfl,(Kp.refl bs).app _⟩
   have cN:Kp bs (bs++[.cells [.int .i64 6,.str tt,xk,xi] 139 true]):=(Kp.refl bs).app _
   simp only[cq,↓Xn,↓Xo,↓Xg,↓Xd,↓Xe,↓Xf,Tryz.VΓ,Tryz.Γs,Xp,Xi,Nat.reduceAdd,Nat.reduceSub,Nat.reduceLT,Nat.reduceLeDiff,reduceIte,reduceCtorEq,Nat.reduceEqDiff,implies_true,forall_const,cp,dy,beq_self_eq_true,bne_self_eq_false,Int.reduceBEq,Int.reduceBNe,Int.reduceLT,Int.reduceLE,ho,ov,oM,ht,zMl,c1]
   rotate_left
   refine gA (zL7 ho (zL7 ov (zL7 oM (zL7 ht c1)))) ?_
   refine ae (s1 _) ?_
   rintro r b1 ⟨y,rfl,cN⟩
   have de:=cN.at (aI bs _)
   replace cN:=((Kp.refl bs).app _).trans cN
   cases y
   refine gA Bool.not_false ?_
   exact⟨_,rfl,cN⟩
   refine gA (zL7 zMw (zL7 de ov)) ?_
   all_goals
    refine az (fun σ=>∃ k:Nat,k≤L.length∧lk 105 σ.t=some xi∧lk 106 σ.t=some (.int .i64 L.length)∧lk 107 σ.t=some (.int .i64 k)∧Kp bs σ.b) (fun σ=>L.length - fC 107 σ) ⟨0,by omega,rfl,rfl,rfl,cN⟩ ?_
    rintro⟨t,b⟩ ⟨k,hk,oP,ui,rq,bf⟩
    simp only at oP ui rq bf
    rw[ao rq]
    by_cases aC:k<L.length
    ·have bg:decide ((k:Int)<L.length)=true:=decide_eq_true (by omega)
     rcases g4 with⟨-,rfl⟩|⟨q,jY,hq⟩
     ·exact absurd aC (by simp)
     have bU:=bf.at hq
     have hu:zMp 4 (zMt (k * 4) (L.flatMap tv))=[.int .i64 L[k].k,.str L[k].t,L[k].xk,L[k].xi]:=sE L k aC
     have oL:=lJ L
     have hx:=g10 L[k] (zMj aC)
     obtain⟨x1,x2,x3,x4⟩:=hx.lb
     have nG:(one L[k].xk&&one L[k].xi)=true:=by rw[x3,x4];rfl
     refine gA (zL7 oP (zL7 ui (zL7 rq (zL7 bg (zL7 jY (zL7 bU (zL7 hu nG))))))) ?_
     refine⟨by omega,by omega,ae (ih (hx.ro (bf.ro.app _))) ?_⟩
     rintro r b1 ⟨m,rfl,iY⟩
     have eN:=(bf.app [_]).trans iY
     cases m
     ·refine gA (zL7 oP (zL7 ui (zL7 rq Bool.not_false))) ?_
      exact⟨_,rfl,eN⟩
     ·refine gA (zL7 oP (zL7 ui (zL7 rq zMw))) ?_
      refine⟨by omega,⟨k+1,by omega,jY,rfl,eN⟩,?_⟩
      rw[ao (k:=.i64) (n:=(k:Int)+1) rfl];omega
    ·have bg:decide ((k:Int)<L.length)=false:=decide_eq_false (by omega)
     refine gA (zL7 oP (zL7 ui (zL7 rq bg))) ?_
     exact⟨_,rfl,bf⟩
theorem yP (d:Nat){bs:List aw}{v:Tv}(hv:Tr bs d v):SC Tryz.V 132 [.agg (tv v)] bs (fun r b=>∃ y:Bool,r=.bool y∧Kp bs b):=by
 have C3:=hv.lb
 obtain⟨v1,v2,v3,v4⟩:=C3
 have ho:(one v.xk&&one v.xi)=true:=by rw[v3,v4];rfl
 refine bJ 3000 Tryz.func132 rfl Tryz.ntmps132 Tryz.results132 Tryz.call132 (by simp) (aj bs.length _ (by simp[within,within.ax,tv,v1,v2])) ?_
 have e1:∀ X,Tr (bs++[X]) d v:=fun X=>hv.ro ((Ro.refl bs).app _)
 have s1:=fun X=>qf d (e1 X) 0 (by omega) (by omega)
 unfold tv at s1 ⊢
 refine gA ho ?_
 refine ae (s1 _) ?_
 rintro r b2 ⟨n,rfl,hn,bM⟩
 have mF:=((Kp.refl bs).app _).trans bM
 have de:=bM.at (aI bs _)
 by_cases h0:0<n
 ·have c0:decide ((0:Int)<n)=true:=decide_eq_true (by omega)
  by_cases h1:n≤20000
  ·have c1:decide ((n:Int)≤20000)=true:=decide_eq_true (by omega)
   have s2:=qd d ((e1 _).ro bM.ro)
   unfold tv at s2
   refine gA (zL7 ho (zL7 c0 (zL7 c1 de))) ?_
   refine ae s2 ?_
   rintro r b3 ⟨y,rfl,eh⟩
   refine dz ?_
   exact⟨_,rfl,mF.trans eh⟩
  ·have c1:decide ((n:Int)≤20000)=false:=decide_eq_false (by omega)
   refine gA (zL7 ho (zL7 c0 c1)) ?_
   exact⟨_,rfl,mF⟩
 ·have c0:decide ((0:Int)<n)=false:=decide_eq_false (by omega)
  refine gA (zL7 ho c0) ?_
  exact⟨_,rfl,mF⟩
def EO:OT:=(.bO 0 (.alt (.one 1 (.one 2 (.one 3 (.one 4 (.one 5 (.bO 6 (.one 7 .leaf))))))) (.one 2 (.alt (.one 1 (.one 3 (.one 4 (.one 5 (.bO 6 (.one 7 .leaf)))))) (.one 3 (.alt (.one 1 (.one 4 (.one 5 (.bO 6 (.one 7 .leaf))))) (.one 4 (.one 1 (.one 5 (.bO 6 (.one 7 .leaf)))))))))))
def Bw:OT:=(.bO 0 (.bO 2 (.bO 5 (.alt (.one 1 (.alt (.one 3 (.alt (.one 4 (.alt (.one 6 (.bO 11 (.one 7 (.one 8 (.one 9 (.one 10 (.one 12 (.bO 13 (.one 14 .leaf))))))))) (.one 7 (.alt (.one 6 (.bO 11 (.one 8 (.one 9 (.one 10 (.one 12 (.bO 13 (.one 14 .leaf)))))))) (.one 8 (.alt (.one 6 (.bO 11 (.one 9 (.one 10 (.one 12 (.bO 13 (.one 14 .leaf))))))) (.one 9 (.one 6 (.bO 11 (.one 10 (.one 12 (.bO 13 (.one 14 .leaf))))))))))))) (.alt (.one 6 (.alt (.one 4 (.bO 11 (.one 7 (.one 8 (.one 9 (.one 10 (.one 12 (.bO 13 (.one 14 .leaf))))))))) (.one 7 (.one 4 (.bO 11 (.one 8 (.one 9 (.one 10 (.one 12 (.bO 13 (.one 14 .leaf))))))))))) (.one 7 (.alt (.one 4 (.alt (.one 6 (.bO 11 (.one 8 (.one 9 (.one 10 (.one 12 (.bO 13 (.one 14 .leaf)))))))) (.one 8 (.alt (.one 6 (.bO 11 (.one 9 (.one 10 (.one 12 (.bO 13 (.one 14 .leaf))))))) (.one 9 (.one 6 (.bO 11 (.one 10 (.one 12 (.bO 13 (.one 14 .leaf))))))))))) (.one 6 (.one 4 (.bO 11 (.one 8 (.one 9 (.one 10 (.one 12 (.bO 13 (.one 14 .leaf)))))))))))))) (.alt (.one 6 (.alt (.one 3 (.alt (.one 4 (.bO 11 (.one 7 (.one 8 (.one 9 (.one 10 (.one 12 (.bO 13 (.one 14 .leaf))))))))) (.one 7 (.one 4 (.bO 11 (.one 8 (.one 9 (.one 10 (.one 12 (.bO 13 (.one 14 .leaf))))))))))) (.one 7 (.one 3 (.one 4 (.bO 11 (.one 8 (.one 9 (.one 10 (.one 12 (.bO 13 (.one 14 .leaf)))))))))))) (.one 7 (.alt (.one 3 (.alt (.one 4 (.alt (.one 6 (.bO 11 (.one 8 (.one 9 (.one 10 (.one 12 (.bO 13 (.one 14 .leaf)))))))) (.one 8 (.alt (.one 6 (.bO 11 (.one 9 (.one 10 (.one 12 (.bO 13 (.one 14 .leaf))))))) (.one 9 (.one 6 (.bO 11 (.one 10 (.one 12 (.bO 13 (.one 14 .leaf))))))))))) (.one 6 (.one 4 (.bO 11 (.one 8 (.one 9 (.one 10 (.one 12 (.bO 13 (.one 14 .leaf))))))))))) (.one 6 (.one 3 (.one 4 (.bO 11 (.one 8 (.one 9 (.one 10 (.one 12 (.bO 13 (.one 14 .leaf))))))))))))))) (.alt (.one 3 (.alt (.one 1 (.alt (.one 4 (.alt (.one 6 (.bO 11 (.one 7 (.one 8 (.one 9 (.one 10 (.one 12 (.bO 13 (.one 14 .leaf))))))))) (.one 7 (.alt (.one 6 (.bO 11 (.one 8 (.one 9 (.one 10 (.one 12 (.bO 13 (.one 14 .leaf)))))))) (.one 8 (.alt (.one 6 (.bO 11 (.one 9 (.one 10 (.one 12 (.bO 13 (.one 14 .leaf))))))) (.one 9 (.one 6 (.bO 11 (.one 10 (.one 12 (.bO 13 (.one 14 .leaf))))))))))))) (.alt (.one 6 (.alt (.one 4 (.bO 11 (.one 7 (.one 8 (.one 9 (.one 10 (.one 12 (.bO 13 (.one 14 .leaf))))))))) (.one 7 (.one 4 (.bO 11 (.one 8 (.one 9 (.one 10 (.one 12 (.bO 13 (.one 14 .leaf))))))))))) (.one 7 (.alt (.one 4 (.alt (.one 6 (.bO 11 (.one 8 (.one 9 (.one 10 (.one 12 (.bO 13 (.one 14 .leaf)))))))) (.one 8 (.alt (.one 6 (.bO 11 (.one 9 (.one 10 (.one 12 (.bO 13 (.one 14 .leaf))))))) (.one 9 (.one 6 (.bO 11 (.one 10 (.one 12 (.bO 13 (.one 14 .leaf))))))))))) (.one 6 (.one 4 (.bO 11 (.one 8 (.one 9 (.one 10 (.one 12 (.bO 13 (.one 14 .leaf)))))))))))))) (.alt (.one 6 (.alt (.one 1 (.alt (.one 4 (.bO 11 (.one 7 (.one 8 (.one 9 (.one 10 (.one 12 (.bO 13 (.one 14 .leaf))))))))) (.one 7 (.one 4 (.bO 11 (.one 8 (.one 9 (.one 10 (.one 12 (.bO 13 (.one 14 .leaf))))))))))) (.one 7 (.one 1 (.one 4 (.bO 11 (.one 8 (.one 9 (.one 10 (.one 12 (.bO 13 (.one 14 .leaf)))))))))))) (.one 7 (.alt (.one 1 (.alt (.one 4 (.alt (.one 6 (.bO 11 (.one 8 (.one 9 (.one 10 (.one 12 (.bO 13 (.one 14 .leaf)))))))) (.one 8 (.alt (.one 6 (.bO 11 (.one 9 (.one 10 (.one 12 (.bO 13 (.one 14 .leaf))))))) (.one 9 (.one 6 (.bO 11 (.one 10 (.one 12 (.bO 13 (.one 14 .leaf))))))))))) (.one 6 (.one 4 (.bO 11 (.one 8 (.one 9 (.one 10 (.one 12 (.bO 13 (.one 14 .leaf))))))))))) (.one 6 (.one 1 (.one 4 (.bO 11 (.one 8 (.one 9 (.one 10 (.one 12 (.bO 13 (.one 14 .leaf))))))))))))))) (.alt (.one 6 (.alt (.one 1 (.alt (.one 3 (.alt (.one 4 (.bO 11 (.one 7 (.one 8 (.one 9 (.one 10 (.one 12 (.bO 13 (.one 14 .leaf))))))))) (.one 7 (.one 4 (.bO 11 (.one 8 (.one 9 (.one 10 (.one 12 (.bO 13 (.one 14 .leaf))))))))))) (.one 7 (.one 3 (.one 4 (.bO 11 (.one 8 (.one 9 (.one 10 (.one 12 (.bO 13 (.one 14 .leaf)))))))))))) (.alt (.one 3 (.alt (.one 1 (.alt (.one 4 (.bO 11 (.one 7 (.one 8 (.one 9 (.one 10 (.one 12 (.bO 13 (.one 14 .leaf))))))))) (.one 7 (.one 4 (.bO 11 (.one 8 (.one 9 (.one 10 (.one 12 (.bO 13 (.one 14 .leaf))))))))))) (.one 7 (.one 1 (.one 4 (.bO 11 (.one 8 (.one 9 (.one 10 (.one 12 (.bO 13 (.one 14 .leaf)))))))))))) (.one 7 (.alt (.one 1 (.one 3 (.one 4 (.bO 11 (.one 8 (.one 9 (.one 10 (.one 12 (.bO 13 (.one 14 .leaf)))))))))) (.one 3 (.one 1 (.one 4 (.bO 11 (.one 8 (.one 9 (.one 10 (.one 12 (.bO 13 (.one 14 .leaf))))))))))))))) (.one 7 (.alt (.one 1 (.alt (.one 3 (.alt (.one 4 (.alt (.one 6 (.bO 11 (.one 8 (.one 9 (.one 10 (.one 12 (.bO 13 (.one 14 .leaf)))))))) (.one 8 (.alt (.one 6 (.bO 11 (.one 9 (.one 10 (.one 12 (.bO 13 (.one 14 .leaf))))))) (.one 9 (.one 6 (.bO 11 (.one 10 (.one 12 (.bO 13 (.one 14 .leaf))))))))))) (.one 6 (.one 4 (.bO 11 (.one 8 (.one 9 (.one 10 (.one 12 (.bO 13 (.one 14 .leaf))))))))))) (.one 6 (.one 3 (.one 4 (.bO 11 (.one 8 (.one 9 (.one 10 (.one 12 (.bO 13 (.one 14 .leaf)))))))))))) (.alt (.one 3 (.alt (.one 1 (.alt (.one 4 (.alt (.one 6 (.bO 11 (.one 8 (.one 9 (.one 10 (.one 12 (.bO 13 (.one 14 .leaf)))))))) (.one 8 (.alt (.one 6 (.bO 11 (.one 9 (.one 10 (.one 12 (.bO 13 (.one 14 .leaf))))))) (.one 9 (.one 6 (.bO 11 (.one 10 (.one 12 (.bO 13 (.one 14 .leaf))))))))))) (.one 6 (.one 4 (.bO 11 (.one 8 (.one 9 (.one 10 (.one 12 (.bO 13 (.one 14 .leaf))))))))))) (.one 6 (.one 1 (.one 4 (.bO 11 (.one 8 (.one 9 (.one 10 (.one 12 (.bO 13 (.one 14 .leaf)))))))))))) (.one 6 (.alt (.one 1 (.one 3 (.one 4 (.bO 11 (.one 8 (.one 9 (.one 10 (.one 12 (.bO 13 (.one 14 .leaf)))))))))) (.one 3 (.one 1 (.one 4 (.bO 11 (.one 8 (.one 9 (.one 10 (.one 12 (.bO 13 (.one 14 .leaf)))))))))))))))))))))
structure OA (bs:List aw) (d:Nat) (s:Bytes) (xi:SV) (n k m:Nat) (σ:St):Prop where
 h2:lk 2 σ.t=some (.p (bs.length+1) 0)
 h3:lk 3 σ.t=some (.p (bs.length+2) 0)
 wJ:lk 19 σ.t=some xi
 yi:lk 20 σ.t=some (.int .i64 n)
 qR:lk 21 σ.t=some (.int .i64 k)
 bf:Kp bs σ.b
 eQ:σ.b[bs.length+1]? = some (.cells [.int .i64 0,.str [],.ah,.ah] 139 true)
 hy:∃ (y:SV) (Is:List Tv),σ.b[bs.length+2]? = some (.cells [.int .i64 6,.str s,.ah,y] 139 true)∧Is.length=m∧(∀ x∈Is,Tr σ.b d x)∧((y=.ah∧m=0)∨∃ q,0<m∧y=.o q m∧bs.length+2<q∧σ.b[q]? = some (.own (Is.flatMap tv) 139 4 m true))
structure OB (bs:List aw) (d:Nat) (v:Tv) (z:SV) (S:List Bytes) (k m:Nat) (σ:St):Prop where
 h1:lk 1 σ.t=some (.p bs.length 0)
 h2:lk 2 σ.t=some (.p (bs.length+1) 0)
 h3:lk 3 σ.t=some (.p (bs.length+2) 0)
 Eg:lk 36 σ.t=some z
 sb:lk 37 σ.t=some (.int .i64 S.length)
 I4:lk 38 σ.t=some (.int .i64 k)
 bf:Kp bs σ.b
 de:σ.b[bs.length]? = some (.cells [.int .i64 v.k,.str v.t,v.xk,v.xi] 139 true)
 eQ:σ.b[bs.length+1]? = some (.cells [.int .i64 0,.str [],.ah,.ah] 139 true)
 hS:Rs σ.b z S
 hy:∃ (y1 y2:SV) (Is:List Tv),σ.b[bs.length+2]? = some (.cells [.int .i64 v.k,.str v.t,y1,y2] 139 true)∧Is.length=m∧(∀ x∈Is,Tr σ.b d x)∧((y1=.ah∧y2=.ah∧m=0)∨∃ q1 q2,0<m∧y1=.o q1 m∧y2=.o q2 m∧bs.length+2<q1∧bs.length+2<q2∧σ.b[q1]? = some (.own ((S.take m).map SV.str) 9 1 m true)∧σ.b[q2]? = some (.own (Is.flatMap tv) 139 4 m true))
theorem qe:∀ (d:Nat){bs:List aw}{v:Tv},Tr bs d v→SC Tryz.V 135 [.agg (tv v)] bs (fun r b=>∃ v',r=.agg (tv v')∧Kp bs b∧Tr b d v')
 | 0,_,_,h=>h.elim
 | d+1,bs,v,hv=>by
   have ih:=fun {bs:List aw} {v:Tv} (h:Tr bs d v)=>qe d h
   refine SC.si ?_
   have hvv:=hv
   have C3:=hv.lb
   obtain⟨v1,v2,v3,v4⟩:=C3
   have ho:(one v.xk&&one v.xi)=true:=by rw[v3,v4];rfl
   obtain⟨g1,g2,K,L,g3,g4,g5,g6,g7,g8,g9,g10⟩:=hv
   refine o0 (fun n=>if n=6 then .all EO else if n=13 then .all Bw else .ord []) 3000 Tryz.func135 rfl Tryz.ntmps135 Tryz.results135 Tryz.call135 (by simp) (aj bs.length _ (by simp[within,within.ax,tv,v1,v2])) ?_
   have ov:=g4.len
   unfold tv
   by_cases h6:v.k=6
   ·have e6:(v.k==6)=true:=by rw[h6];rfl
    refine gA (zL7 ho (zL7 ov e6)) ?_
    rw[h6]
    refine az (fun σ=>∃ k,k≤L.length∧OA bs d v.t v.xi L.length k k σ) (fun σ=>L.length - fC 21 σ) ⟨0,by omega,rfl,rfl,rfl,rfl,rfl,(Kp.refl bs).app _,aQ _ _ 1,⟨.ah,[],aQ _ _ 2,rfl,by simp,.inl ⟨rfl,rfl⟩⟩⟩ ?_
    rintro⟨t,b⟩ ⟨k,hk,h2,h3,wJ,yi,qR,bf,eQ,y,Is,wI,Ck,zL,hy⟩
    simp only at h2 h3 wJ yi qR bf eQ wI zL hy
    rw[ao qR]
    by_cases aC:k<L.length
    ·have bg:decide ((k:Int)<L.length)=true:=decide_eq_true (by omega)
     rcases g4 with⟨-,rfl⟩|⟨j,oy,hj⟩
     ·exact absurd aC (by simp)
     have tm:=bf.at hj
     rw[oy]at wJ
     have hu:zMp 4 (zMt (k * 4) (L.flatMap tv))=[.int .i64 L[k].k,.str L[k].t,L[k].xk,L[k].xi]:=sE L k aC
     have oL:=lJ L
     have hx:=g10 L[k] (zMj aC)
     generalize L[k]=x at hu hx
     obtain⟨x1,x2,x3,x4⟩:=hx.lb
     have nG:(one x.xk&&one x.xi)=true:=by rw[x3,x4];rfl
     refine gA (zL7 h2 (zL7 h3 (zL7 wJ (zL7 yi (zL7 qR (zL7 bg (zL7 oy (zL7 tm (zL7 hu nG))))))))) ?_
     refine⟨by omega,by omega,qk (fun σ=>OA bs d v.t (.o j L.length) L.length k (k+1) σ) (by kernel_rfl) ?_ ?_⟩
     ·simp only[cq,↓Xn,↓Xo,↓Xg,↓Xd,↓Xe,↓Xf,Tryz.VΓ,Tryz.Γs,Xp,Xi,Nat.reduceAdd,Nat.reduceSub,Nat.reduceLT,Nat.reduceLeDiff,reduceIte,reduceCtorEq,Nat.reduceEqDiff,implies_true,forall_const,cp,dy,beq_self_eq_true,bne_self_eq_false,Int.reduceBEq,Int.reduceBNe,Int.reduceLT,Int.reduceLE,EO,h2,h3,wJ,yi,qR,ad wI]
      refine⟨?_,?_,?_⟩
      all_goals
       refine ae (ih (hx.ro (bf.ro.app _))) ?_
       rintro r b1 ⟨v',rfl,cN,hT1⟩
       obtain⟨w1,w2,w3,w4⟩:=hT1.lb
       have C0:(one v'.xk&&one v'.xi)=true:=by rw[w3,w4];rfl
       have mF:=((Kp.refl b).app _).trans cN
       have IZ:=mF.at eQ
       have qP:=mF.at wI
       have qO:=(zL8.1 qP).1
       have qN:=mF.1
       have dL:∀ (l:List aw) X,(b1++l).set (bs.length+2) X=b1.set (bs.length+2) X++l:=fun l X=>aK qO l X
       rcases hy with⟨rfl,rfl⟩|⟨q,lh,rfl,hq,bU⟩
       ·have pk:=(Ro.refl b1).cell qP (.cells [.int .i64 6,.str v.t,.ah,.o (b1.length+1) 1] 139 true)
        simp only[cq,↓Xn,↓Xo,↓Xg,↓Xd,↓Xe,↓Xf,Tryz.VΓ,Tryz.Γs,Xp,Xi,Nat.reduceAdd,Nat.reduceSub,Nat.reduceLT,Nat.reduceLeDiff,reduceIte,reduceCtorEq,Nat.reduceEqDiff,implies_true,forall_const,cp,dy,beq_self_eq_true,bne_self_eq_false,Int.reduceBEq,Int.reduceBNe,Int.reduceLT,Int.reduceLE,h2,h3,wJ,yi,qR,qP,ad qP,dL,C0,tv]
        repeat' apply zL7
        all_goals first
         | omega
         | (unfold maxLen;omega)
         | exact⟨h2,h3,wJ,yi,qR,((bf.trans mF).set (by omega) _).app _,ad (ak IZ (by omega) _) _,⟨.o (b1.length+1) 1,[v'],bN qO _ _,rfl,(fun x hx=>by obtain rfl:=zMa.1 hx;exact hT1.ro (pk.app _)),.inr ⟨b1.length+1,by omega,rfl,by omega,aJ (by simp) _ 1⟩⟩⟩
       ·have gY:=mF.at bU
        have kK:=(zL8.1 gY).1
        have kR:∀ (l:List aw) X,(b1++l).set q X=b1.set q X++l:=fun l X=>aK kK l X
        have vH:∀ (l:List aw) Y X,(b1.set q Y++l).set (bs.length+2) X=(b1.set q Y).set (bs.length+2) X++l:=fun l Y X=>aK (by simpa using qO) l X
        have gF:=fun Y=>ad (ak qP (show q≠bs.length+2 by omega) Y)
        have pk:=((Ro.refl b1).oj gY .gone).cell (ak qP (show q≠bs.length+2 by omega) .gone) (.cells [.int .i64 6,.str v.t,.ah,.o (b1.length+1) (k+1)] 139 true)
        simp only[cq,↓Xn,↓Xo,↓Xg,↓Xd,↓Xe,↓Xf,Tryz.VΓ,Tryz.Γs,Xp,Xi,Nat.reduceAdd,Nat.reduceSub,Nat.reduceLT,Nat.reduceLeDiff,reduceIte,reduceCtorEq,Nat.reduceEqDiff,implies_true,forall_const,cp,dy,beq_self_eq_true,bne_self_eq_false,Int.reduceBEq,Int.reduceBNe,Int.reduceLT,Int.reduceLE,h2,h3,wJ,yi,qR,qP,ad qP,ad gY,dL,kR,vH,gF,C0,tv]
        repeat' apply zL7
        all_goals first
         | omega
         | (unfold maxLen;omega)
         | exact⟨h2,h3,wJ,yi,qR,(((bf.trans mF).set (by omega) _).set (by omega) _).app _,ad (ak (ak IZ (by omega) _) (by omega) _) _,⟨.o (b1.length+1) (k+1),Is++[v'],bN (by simpa using qO) _ _,by simp[Ck],(fun x hx=>by
            rcases zMh.1 hx with hx|hx
            ·exact(zL x hx).ro (mF.ro.trans (pk.app _))
            ·obtain rfl:=zMa.1 hx;exact hT1.ro (pk.app _)),.inr ⟨b1.length+1,by omega,rfl,by omega,by rw[aJ (by simp),zMk];rfl⟩⟩⟩
     ·rintro⟨t,b⟩ ⟨h2,h3,wJ,yi,qR,bf,eQ,y,Is,wI,Ck,zL,hy⟩
      simp only at h2 h3 wJ yi qR bf eQ wI zL hy
      refine gA (zL7 h2 (zL7 h3 (zL7 wJ (zL7 yi qR)))) ?_
      refine⟨by omega,⟨k+1,by omega,h2,h3,wJ,yi,rfl,bf,eQ,y,Is,wI,Ck,zL,hy⟩,?_⟩
      rw[ao (k:=.i64) (n:=(k:Int)+1) rfl];omega
    ·have bg:decide ((k:Int)<L.length)=false:=decide_eq_false (by omega)
     have pC:=(zL8.1 eQ).1
     have F0:one y=true:=by rcases hy with⟨rfl,-⟩|⟨q,-,rfl,-⟩ <;> rfl
     have nH:∀ X,(b.set (bs.length+1) X)[bs.length+1]? = some X:=fun X=>zMg pC
     refine gA (zL7 h2 (zL7 h3 (zL7 wJ (zL7 yi (zL7 qR (zL7 bg (zL7 wI (zL7 eQ (zL7 F0 nH))))))))) ?_
     have mE:=bf.set (j:=bs.length+1) (by omega) (.cells [.int .i64 6,.str v.t,.ah,y] 139 true)
     have hrr:=((Ro.refl b).cell eQ (.cells [.int .i64 6,.str v.t,.ah,y] 139 true)).trans (eZ (lo:=bs.length) (by simpa using mE.1)).ro
     refine⟨by simpa using mE.1,⟨6,v.t,.ah,y⟩,rfl,mE.fM,g1,.inr (.inr (.inl rfl)),[],Is,.inl ⟨rfl,rfl⟩,?_,by simp,by omega,by simp,by simp,by simp,fun x hx=>(zL x hx).ro hrr⟩
     rcases hy with⟨rfl,h0⟩|⟨q,lh,rfl,hq,bU⟩
     ·exact .inl ⟨rfl,zMn.1 (by omega)⟩
     ·exact .inr ⟨q,by rw[Ck],by rw[ij (by omega) (ak bU (by omega) _),Ck];rfl⟩
   ·have e6:(v.k==6)=false:=beq_eq_false_iff_ne.2 h6
    refine gA (zL7 ho (zL7 ov e6)) ?_
    refine ae (kE 20000 (by omega) _ (g3.ro ((Ro.refl bs).app [.cells [.int .i64 v.k,.str v.t,v.xk,v.xi] 139 true,.cells [.int .i64 0,.str [],.ah,.ah] 139 true,.cells [.int .i64 v.k,.str v.t,.ah,.ah] 139 true])) (zMx _) (by omega) g7) ?_
    rintro z b9 ⟨S,hS,hSl,lS,cN⟩
    have CZ:=hS.w7
    refine gA CZ ?_
    refine az (fun σ=>∃ k,k≤S.length∧OB bs d v z S k k σ) (fun σ=>S.length - fC 38 σ) ⟨0,by omega,rfl,rfl,rfl,rfl,rfl,rfl,((Kp.refl bs).app _).trans cN,cN.at (aI _ _),cN.at (aQ _ _ 1),hS,⟨.ah,.ah,[],cN.at (aQ _ _ 2),rfl,by simp,.inl ⟨rfl,rfl,rfl⟩⟩⟩ ?_
    clear CZ hS cN
    rintro⟨t,b⟩ ⟨k,hk,h1,h2,h3,Eg,sb,I4,bf,de,eQ,hS,y1,y2,Is,wI,Ck,zL,hy⟩
    simp only at h1 h2 h3 Eg sb I4 bf de eQ hS wI zL hy
    rw[ao I4]
    by_cases aC:k<S.length
    ·have bg:decide ((k:Int)<S.length)=true:=decide_eq_true (by omega)
     have hSS:=hS
     rcases hS with⟨rfl,rfl⟩|⟨j,rfl,hj⟩
     ·exact absurd aC (by simp)
     have Gc:v.k=7:=by
      rcases Decidable.em (v.k=7) with h|h
      ·exact h
      ·rw[g9 h]at hSl;rw[hSl]at aC;simp at aC
     have hL0:0<L.length:=by rw[← g8 Gc];omega
     have rn:1≤d:=by
      obtain⟨e,rfl⟩:=(g10 (L[0]'hL0) (zMj hL0)).ex
      omega
     have Cc:(S.map SV.str)[k * 1]? = some (.str S[k]):=by simp[aC]
     have hSk:=lS S[k] (zMj aC)
     have hsn:(S.take (k+1)).map SV.str=(S.take k).map SV.str++[.str S[k]]:=by
      rw[List.take_succ_eq_append_getElem aC,List.map_append];rfl
     generalize S[k]=key at Cc hSk hsn
     have s1:=Du (hvv.ro bf.ro) rn key
     unfold tv at s1
     refine gA (zL7 h1 (zL7 h2 (zL7 h3 (zL7 Eg (zL7 sb (zL7 I4 (zL7 bg (zL7 hj (zL7 Cc de))))))))) ?_
     refine⟨by omega,by simp;omega,ae s1 ?_⟩
     rintro r b1 ⟨x,ok,rfl,cN,hx⟩
     obtain⟨x1,x2,x3,x4⟩:=hx.lb
     have nG:(one x.xk&&one x.xi)=true:=by rw[x3,x4];rfl
     have iY:=bf.trans cN
     have Gm:=cN.at de
     have IZ:=cN.at eQ
     have qP:=cN.at wI
     have qN:=cN.1
     have hb2l':=(zL8.1 wI).1
     refine gA (zL7 h1 (zL7 h2 (zL7 h3 (zL7 Eg (zL7 sb (zL7 I4 nG)))))) ?_
     have hSS1:=hSS.ro cN.ro
     have hIs1:=fun x hx=>(zL x hx).ro cN.ro
     generalize hT:((9,SV.bool ok)::_:List (Nat × SV))=T
     have f1:lk 1 T=some (.p bs.length 0):=by rw[← hT];exact h1
     have f2:lk 2 T=some (.p (bs.length+1) 0):=by rw[← hT];exact h2
     have f3:lk 3 T=some (.p (bs.length+2) 0):=by rw[← hT];exact h3
     have f7:lk 7 T=some (.str key):=by rw[← hT];rfl
     have f8:lk 8 T=some (.p b1.length 0):=by rw[← hT];rfl
     have f36:lk 36 T=some (.o j S.length):=by rw[← hT];exact Eg
     have f37:lk 37 T=some (.int .i64 S.length):=by rw[← hT];exact sb
     have f38:lk 38 T=some (.int .i64 k):=by rw[← hT];exact I4
     clear hT h1 h2 h3 Eg sb I4 de eQ hSS zL s1 hj
     refine jC (fun σ=>OB bs d v (.o j S.length) S k (k+1) σ) (by kernel_rfl) ?_ ?_
     ·intro E' k'
      unfold Bw
      rcases hy with⟨rfl,rfl,rfl⟩|⟨q1,q2,lh,rfl,rfl,jY,qH,gF,gY⟩
      ·refine gA (zL7 f3 (zL7 f7 (zL7 f8 (ad qP)))) ?_
       repeat' apply zL7
       all_goals first
        | omega
        | (unfold maxLen;omega)
        | skip
       all_goals
        refine ae (ih (hx.ro ((Ro.refl b1).app _))) ?_
        rintro r b2 ⟨v',rfl,bM,hT1⟩
        obtain⟨w1,w2,w3,w4⟩:=hT1.lb
        have C0:(one v'.xk&&one v'.xi)=true:=by rw[w3,w4];rfl
        have eN:Kp bs b2:=(iY.app _).trans bM
        have hro2:Ro b1 b2:=((Ro.refl b1).app _).trans bM.ro
        have nL:b2[bs.length]? = _:=bM.at (ad Gm _)
        have xn:b2[bs.length+1]? = _:=bM.at (ad IZ _)
        have xm:b2[bs.length+2]? = _:=bM.at (ad qP _)
        have hr1:=bM.at (aJ (l1:=b1) (n:=b1.length) (by simp) _ 2)
        have xl:=bM.1
        simp only[zMc,zMd,zMm,zMl]at xl
        have qO:bs.length+2<b2.length:=(zL8.1 xm).1
        have dL:∀ (l:List aw) X,(b2++l).set (bs.length+2) X=b2.set (bs.length+2) X++l:=fun l X=>aK qO l X
        have hset':∀ (l:List aw) Y X,(b2.set (bs.length+2) Y++l).set (bs.length+2) X=b2.set (bs.length+2) X++l:=fun l Y X=>by rw[aK (by simpa using qO),List.set_set]
        have hget:∀ (l:List aw) Y,(b2.set (bs.length+2) Y++l)[bs.length+2]? = some Y:=fun l Y=>bN qO Y l
        simp only[cq,↓Xn,↓Xo,↓Xg,↓Xd,↓Xe,↓Xf,Tryz.VΓ,Tryz.Γs,Xp,Xi,Nat.reduceAdd,Nat.reduceSub,Nat.reduceLT,Nat.reduceLeDiff,reduceIte,reduceCtorEq,Nat.reduceEqDiff,implies_true,forall_const,cp,dy,beq_self_eq_true,bne_self_eq_false,Int.reduceBEq,Int.reduceBNe,Int.reduceLT,Int.reduceLE,f3,f7,f8,xm,ad xm,dL,hset',hget,C0,tv]
        have pk:=(Ro.refl b2).cell xm (.cells [.int .i64 v.k,.str v.t,.o (b1.length+2) 1,.o (b2.length+1) 1] 139 true)
        repeat' apply zL7
        all_goals first
         | omega
         | (unfold maxLen;omega)
         | exact⟨f1,f2,f3,f36,f37,f38,(eN.set (by omega) _).app _,ad (ak nL (by omega) _) _,ad (ak xn (by omega) _) _,hSS1.ro (hro2.trans (pk.app _)),⟨.o (b1.length+2) 1,.o (b2.length+1) 1,[v'],bN qO _ _,rfl,(fun x hx=>by obtain rfl:=zMa.1 hx;exact hT1.ro (pk.app _)),.inr ⟨b1.length+2,b2.length+1,by omega,rfl,rfl,by omega,by omega,ad (ak (hr1.trans (by rw[hsn];rfl)) (by omega) _) _,aJ (by simp) _ 1⟩⟩⟩
      ·replace gF:=cN.at gF
       replace gY:=cN.at gY
       have hq1l:=(zL8.1 gF).1
       have hq2l:=(zL8.1 gY).1
       have hqn:q1≠q2:=by rintro rfl;rw[gF]at gY;simp at gY
       have kR:∀ (l:List aw) X,(b1++l).set q1 X=b1.set q1 X++l:=fun l X=>aK hq1l l X
       have hb3:=fun Y=>ad (ak qP (show q1≠bs.length+2 by omega) Y)
       have D8:∀ (l:List aw) Y,(b1.set q1 Y++l)[b1.length]? = l[0]? := fun l Y=>aJ (by simp) l 0
       simp only[cq,↓Xn,↓Xo,↓Xg,↓Xd,↓Xe,↓Xf,Tryz.VΓ,Tryz.Γs,Xp,Xi,Nat.reduceAdd,Nat.reduceSub,Nat.reduceLT,Nat.reduceLeDiff,reduceIte,reduceCtorEq,Nat.reduceEqDiff,implies_true,forall_const,cp,dy,beq_self_eq_true,bne_self_eq_false,Int.reduceBEq,Int.reduceBNe,Int.reduceLT,Int.reduceLE,f3,f7,f8,ad qP,ad gF,kR,hb3,D8,zMd]
       repeat' apply zL7
       all_goals first
        | omega
        | (unfold maxLen;omega)
        | skip
       all_goals
        refine ae (ih (hx.ro (((Ro.refl b1).oj gF .gone).app _))) ?_
        rintro r b2 ⟨v',rfl,bM,hT1⟩
        obtain⟨w1,w2,w3,w4⟩:=hT1.lb
        have C0:(one v'.xk&&one v'.xi)=true:=by rw[w3,w4];rfl
        have eN:Kp bs b2:=((iY.set (by omega) _).app _).trans bM
        have hro2:Ro b1 b2:=(((Ro.refl b1).oj gF .gone).app _).trans bM.ro
        have nL:b2[bs.length]? = _:=bM.at (ad (ak Gm (by omega) _) _)
        have xn:b2[bs.length+1]? = _:=bM.at (ad (ak IZ (by omega) _) _)
        have xm:b2[bs.length+2]? = _:=bM.at (ad (ak qP (by omega) _) _)
        have hr1:=bM.at (aJ (l1:=b1.set q1 .gone) (n:=b1.length) (by simp) _ 2)
        have xl:=bM.1
        simp only[zMc,zMd,zMm,zMl]at xl
        have qO:bs.length+2<b2.length:=(zL8.1 xm).1
        have IY:=bM.at (ad (ak gY hqn .gone) _)
        have hq22l:=(zL8.1 IY).1
        have hsq2:∀ (l:List aw) X,(b2++l).set q2 X=b2.set q2 X++l:=fun l X=>aK hq22l l X
        have oz:=fun Y=>ad (ak xm (show q2≠bs.length+2 by omega) Y)
        have dL:∀ (l:List aw) Z X,(b2.set q2 Z++l).set (bs.length+2) X=(b2.set q2 Z).set (bs.length+2) X++l:=fun l Z X=>aK (by simpa using qO) l X
        have hset':∀ (l:List aw) Z Y X,((b2.set q2 Z).set (bs.length+2) Y++l).set (bs.length+2) X=(b2.set q2 Z).set (bs.length+2) X++l:=fun l Z Y X=>by rw[aK (by simpa using qO),List.set_set]
        have hget:∀ (l:List aw) Z Y,((b2.set q2 Z).set (bs.length+2) Y++l)[bs.length+2]? = some Y:=fun l Z Y=>bN (by simpa using qO) Y l
        simp only[cq,↓Xn,↓Xo,↓Xg,↓Xd,↓Xe,↓Xf,Tryz.VΓ,Tryz.Γs,Xp,Xi,Nat.reduceAdd,Nat.reduceSub,Nat.reduceLT,Nat.reduceLeDiff,reduceIte,reduceCtorEq,Nat.reduceEqDiff,implies_true,forall_const,cp,dy,beq_self_eq_true,bne_self_eq_false,Int.reduceBEq,Int.reduceBNe,Int.reduceLT,Int.reduceLE,f3,f7,f8,xm,ad xm,ad IY,hsq2,oz,dL,hset',hget,C0,tv,zMd]
        have pk:=((Ro.refl b2).oj IY .gone).cell (ak xm (show q2≠bs.length+2 by omega) .gone) (.cells [.int .i64 v.k,.str v.t,.o (b1.length+2) (k+1),.o (b2.length+1) (k+1)] 139 true)
        repeat' apply zL7
        all_goals first
         | omega
         | (unfold maxLen;omega)
         | exact⟨f1,f2,f3,f36,f37,f38,((eN.set (by omega) _).set (by omega) _).app _,ad (ak (ak nL (by omega) _) (by omega) _) _,ad (ak (ak xn (by omega) _) (by omega) _) _,hSS1.ro (hro2.trans (pk.app _)),⟨.o (b1.length+2) (k+1),.o (b2.length+1) (k+1),Is++[v'],bN (by simpa using qO) _ _,by simp[Ck],(fun x hx=>by
            rcases zMh.1 hx with hx|hx
            ·exact(hIs1 x hx).ro (hro2.trans (pk.app _))
            ·obtain rfl:=zMa.1 hx;exact hT1.ro (pk.app _)),.inr ⟨b1.length+2,b2.length+1,by omega,rfl,rfl,by omega,by omega,ad (ak (ak (hr1.trans (by rw[hsn];try rfl)) (by omega) _) (by omega) _) _,by rw[aJ (by simp),zMk];try rfl⟩⟩⟩
     ·rintro⟨t,b⟩ ⟨h1,h2,h3,Eg,sb,I4,bf,de,eQ,hS,hy⟩
      simp only at h1 h2 h3 Eg sb I4 bf de eQ hS hy
      refine gA (zL7 h1 (zL7 h2 (zL7 h3 (zL7 Eg (zL7 sb I4))))) ?_
      refine⟨by omega,⟨k+1,by omega,h1,h2,h3,Eg,sb,rfl,bf,de,eQ,hS,hy⟩,?_⟩
      rw[ao (k:=.i64) (n:=(k:Int)+1) rfl];omega
    ·have bg:decide ((k:Int)<S.length)=false:=decide_eq_false (by omega)
     have pC:=(zL8.1 eQ).1
     obtain⟨hyo1,hyo2⟩:one y1=true∧one y2=true:=by rcases hy with⟨rfl,rfl,-⟩|⟨q1,q2,-,rfl,rfl,-⟩ <;> exact⟨rfl,rfl⟩
     have nH:∀ X,(b.set (bs.length+1) X)[bs.length+1]? = some X:=fun X=>zMg pC
     refine gA (zL7 h1 (zL7 h2 (zL7 h3 (zL7 Eg (zL7 sb (zL7 I4 (zL7 bg (zL7 wI (zL7 eQ (zL7 hyo1 (zL7 hyo2 (zL7 zMr nH)))))))))))) ?_
     have mE:=bf.set (j:=bs.length+1) (by omega) (.cells [.int .i64 v.k,.str v.t,y1,y2] 139 true)
     have hrr:=((Ro.refl b).cell eQ (.cells [.int .i64 v.k,.str v.t,y1,y2] 139 true)).trans (eZ (lo:=bs.length) (by simpa using mE.1)).ro
     have hkS:k=S.length:=by omega
     refine⟨by simpa using mE.1,⟨v.k,v.t,y1,y2⟩,rfl,mE.fM,g1,g2,S,Is,?_,?_,by omega,by omega,lS,fun _=>by omega,fun h=>?_,fun x hx=>(zL x hx).ro hrr⟩
     ·rcases hy with⟨rfl,rfl,h0⟩|⟨q1,q2,lh,rfl,rfl,jY,qH,gF,gY⟩
      ·exact .inl ⟨rfl,zMn.1 (by omega)⟩
      ·exact .inr ⟨q1,by rw[hkS],by rw[ij (by omega) (ak gF (by omega) _),hkS,List.take_length];rfl⟩
     ·rcases hy with⟨rfl,rfl,h0⟩|⟨q1,q2,lh,rfl,rfl,jY,qH,gF,gY⟩
      ·exact .inl ⟨rfl,zMn.1 (by omega)⟩
      ·exact .inr ⟨q2,by rw[Ck],by rw[ij (by omega) (ak gY (by omega) _),Ck];rfl⟩
     ·have:=g9 h
      subst this
      exact zMn.1 hSl
end Go.Proofs.YtnmlimehgifadaaGreatDoor
