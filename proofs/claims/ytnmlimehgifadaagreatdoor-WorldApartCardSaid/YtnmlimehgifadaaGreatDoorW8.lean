/- Texts of this claim, laid together: MadeF, TrimW, TrimR, HeadW, LnkA, LnkB, LnkC, Fing, LnkD, TplP, TplQ, TplW, LnkE, AboutA, About, WorldM, WorldN, HeadW2, FetchW, FetchW2, Law24, Law24w, Law24p. -/
import Derived.Lib.IndexMore
import Derived.Lib.CountLaws
import Derived.Lib.Split
import Derived.Test.YtnmlimehgifadaaGreatDoorW7
open And renaming intro → zNg
open List renaming getElem?_eq_some_iff → zNh, length_nil → zNi, length_cons → zNj, length_append → zNk, getElem?_set_self → zNq, mem_singleton → zNs, mem_append → zNt, take_succ_eq_append_getElem → zNw, mem_cons → zNx, length_set → zNy, nil_append → zNz, map_cons → zNC
open Bool renaming false_eq_true → zNl, true_eq_false → zNn, not_true → zNr
open Int renaming cast_ofNat_Int → zNp, toNat_natCast → zNv
open True renaming intro → zNu
open Nat renaming add_comm → zNA, zero_add → zNB
set_option linter.all false
set_option maxHeartbeats 16000000
set_option maxRecDepth 20000
namespace Go.Proofs.YtnmlimehgifadaaGreatDoor
open Go Vc Go.RowKit Wf
theorem er.roD {i:Nat}{a b:List aw}{L:List Int}(h:er i a b)(hd:aR a i L):Ro a b:=fun j c e s n hj=>by
 refine h.at hj ?_
 rintro rfl
 obtain⟨x,hx,-⟩:=hd
 rw[hj]at hx
 simp at hx
theorem Rs.cell {b:List aw}{x:SV}{L:List Bytes}(h:Rs b x L):Vc.cells x=[x]∧CY x=false:=by
 rcases h with⟨rfl,-⟩|⟨j,rfl,-⟩ <;> exact⟨rfl,rfl⟩
theorem Rv.cell {b:List aw}{x:SV}{L:List Sv}(h:Rv b x L):Vc.cells x=[x]∧CY x=false:=by
 rcases h with⟨rfl,-⟩|⟨j,rfl,-⟩ <;> exact⟨rfl,rfl⟩
def An (lo:Nat)(bs b:List aw):Prop:=bs.length≤b.length∧∀ k,k<bs.length→(k<lo∨∀ (c:List SV) (e s n:Nat),bs[k]? ≠ some (.own c e s n true))→b[k]? = bs[k]?
theorem An.of {lo:Nat}{bs b:List aw}(h:Kp bs b):An lo bs b:=⟨h.1,fun k hk _=>h.2 k hk⟩
theorem An.set {lo:Nat}{bs b:List aw}{q:Nat}{c:List SV}{e s n:Nat}(hq:bs[q]? = some (.own c e s n true)){X:aw}(h:An lo (bs.set q X) b)(hl:lo≤q)(hX:∀ (c:List SV)(e s n:Nat),X≠.own c e s n true):An lo bs b:=⟨by simpa using h.1,fun k hk hn=>by
 have bt:q≠k:=by
  rintro rfl
  rcases hn with hn|hn
  ·omega
  ·exact hn _ _ _ _ hq
 have:=h.2 k (by simpa using hk) (hn.imp (fun x=>x) (fun hn c e s n hx=>by rw[List.getElem?_set_ne bt]at hx;exact hn _ _ _ _ hx))
 rwa [List.getElem?_set_ne bt]at this⟩
theorem An.at {lo:Nat}{bs b:List aw}(h:An lo bs b){k:Nat}{c:List SV}{T:TypeId}{m:Bool}(hk:bs[k]? = some (.cells c T m)):b[k]? = some (.cells c T m):=(h.2 k (zNh.1 hk).1 (.inr fun c e s n hx=>by rw[hk]at hx;cases hx)).trans hk
theorem An.ro {lo:Nat}{bs b:List aw}(h:An lo bs b):Ro bs b:=fun j c e s n hj=>(h.2 j (zNh.1 hj).1 (.inr fun c e s n hx=>by rw[hj]at hx;simp at hx)).trans hj
theorem o4 {lo:Nat}{bs:List aw}(s:Bytes)(hs:s.length≤20000){x:SV}{A:List Bytes}(hx:(x=.ah∧A=[])∨∃ q,x=.o q A.length∧lo<q∧bs[q]? = some (.own (A.map SV.str) 9 1 A.length true))(hA:A.length≤16)(hAs:∀ a∈A,a.length≤20000){y:SV}{L:List Lk}(hy:(y=.ah∧L=[])∨∃ q,y=.o q L.length∧lo<q∧bs[q]? = some (.own (L.flatMap lc) 132 6 L.length true))(hL:L.length≤16)(hLs:∀ l∈L,LkB l) :
 SC Tryz.V 77 [.agg [.str s,x,.ah,y]] bs (fun r b=>∃ v,r=.agg (tv v)∧An lo bs b∧Tr b 4 v):=by
 rcases hx with⟨rfl,rfl⟩|⟨q1,rfl,l1,h1⟩ <;> rcases hy with⟨rfl,rfl⟩|⟨q2,rfl,l2,h2⟩
 ·exact(fG s hs (.inl ⟨rfl,rfl⟩) hA hAs (.inl ⟨rfl,rfl⟩) hL hLs).mono fun r b ⟨v,e,hk,hT⟩=>⟨v,e,An.of hk,hT⟩
 ·refine j9 h2 ((fG s hs (.inl ⟨rfl,rfl⟩) hA hAs (.inr ⟨q2,rfl,zNq (zNh.1 h2).1⟩) hL hLs).mono fun r b ⟨v,e,hk,hT⟩=>⟨v,e,An.set h2 (An.of hk) (by omega) (by simp),hT⟩)
 ·refine j9 h1 ((fG s hs (.inr ⟨q1,rfl,zNq (zNh.1 h1).1⟩) hA hAs (.inl ⟨rfl,rfl⟩) hL hLs).mono fun r b ⟨v,e,hk,hT⟩=>⟨v,e,An.set h1 (An.of hk) (by omega) (by simp),hT⟩)
 ·have bt:q1≠q2:=by rintro rfl;rw[h1]at h2;simp at h2
  have h2':=ak h2 bt (.own (A.map SV.str) 9 1 A.length false)
  have jZ:=(zNh.1 h2').1
  refine j9 h1 (j9 h2' ((fG s hs (.inr ⟨q1,rfl,ak (zNq (zNh.1 h1).1) (fun e=>bt e.symm) _⟩) hA hAs (.inr ⟨q2,rfl,zNq jZ⟩) hL hLs).mono fun r b ⟨v,e,hk,hT⟩=>⟨v,e,An.set h1 (An.set h2' (An.of hk) (by omega) (by simp)) (by omega) (by simp),hT⟩))
structure JInv (bs:List aw) (i:Nat) (x0:SV) (N:List Bytes) (ab kd:Bytes) (vi ji k:Nat) (σ:St):Prop where
 h0:lk 0 σ.t=some (.p i 0)
 h8:lk 8 σ.t=some (.str ab)
 h9:lk 9 σ.t=some (.str kd)
 dH:lk 10 σ.t=some (.p vi 0)
 gj:lk 11 σ.t=some (.p ji 0)
 xu:lk 50 σ.t=some x0
 vT:lk 51 σ.t=some (.int .i64 N.length)
 xr:lk 52 σ.t=some (.int .i64 k)
 hK:er i bs σ.b
 hv:σ.b[vi]? = some (.cells [.int .i64 0,.str [],.ah,.ah] 139 true)
 hy:∃ (x y:SV) (A:List Bytes) (K:List Lk) (L:List Int),σ.b[ji]? = some (.cells [.str ab,x,.ah,y] 135 true)∧aR σ.b i L∧A.length+K.length=k∧Le 4096 A∧(∀ l∈K,LkB l) ∧
  ((x=.ah∧A=[])∨∃ q,x=.o q A.length∧ji<q∧σ.b[q]? = some (.own (A.map SV.str) 9 1 A.length true))∧((y=.ah∧K=[])∨∃ q,y=.o q K.length∧ji<q∧σ.b[q]? = some (.own (K.flatMap lc) 132 6 K.length true))
theorem AT {bs:List aw}{i:Nat}{L:List Int}(h:aR bs i L)(id:jg)(hid:id.text.length≤4096){x0:SV}{N:List Bytes}(hx0:Rs bs x0 N)(hN:N.length≤8)(Cj:Le 4096 N):SC Tryz.V 67 [.p i 0,iM id,x0] bs (fun r b=>∃ (s kd:Bytes) (L':List Int),r=.fF [.str s,.str kd]∧s.length≤1048576∧kd.length≤100∧aR b i L'∧er i bs b):=by
 have fD:i<bs.length:=by obtain⟨x,hi,-⟩:=h;exact(zNh.1 hi).1
 have zB:=hx0.within
 refine bJ 3000 Tryz.func67 rfl Tryz.ntmps67 Tryz.results67 Tryz.call67 (by simp) (aj bs.length _ (by simp[within,within.ax,iM,fD,zB])) ?_
 unfold iM
 refine dz ?_
 refine ae (dr (h.app _) 24 (by omega)) ?_
 rintro r b ⟨v,L1,rfl,hv,hD,hk⟩
 have hK:=(er.of (i:=i) ((Kp.refl bs).app _)).trans hk
 have pB:=hk.at (aI bs _) (by omega)
 have qN:=hK.1
 have w1:(v==1)=true∨(v==1)=false:=by cases v==1 <;> simp
 have w2:(v==2)=true∨(v==2)=false:=by cases v==2 <;> simp
 have w3:(v==3)=true∨(v==3)=false:=by cases v==3 <;> simp
 have w4:(v==4)=true∨(v==4)=false:=by cases v==4 <;> simp
 have w5:(v==5)=true∨(v==5)=false:=by cases v==5 <;> simp
 have wk:(id.kind==4)=true∨(id.kind==4)=false:=by cases id.kind==4 <;> simp
 rcases w2 with w2|w2
 ·have w1':(v==1)=false:=by simp at w2 ⊢;omega
  refine gA (zNg w1' w2) ?_
  exact⟨_,_,_,rfl,by simp,by simp,hD,hK⟩
 rcases w4 with w4|w4
 ·have w1':(v==1)=false:=by simp at w4 ⊢;omega
  have w3':(v==3)=false:=by simp at w4 ⊢;omega
  refine gA (zNg w1' (zNg w2 (zNg w3' w4))) ?_
  exact⟨_,_,_,rfl,by simp,by simp,hD,hK⟩
 have hN20:∀ a∈N,a.length≤20000:=fun a ha=>by have:=Cj a ha;omega
 rcases wk with wk|wk
 ·rcases w1 with w1|w1
  rotate_left
  rcases w3 with w3|w3
  rotate_left
  rcases w5 with w5|w5
  all_goals
   refine gA (zNg w1 (zNg w2 (zNg w3 (zNg w4 (zNg w5 (zNg (ad pB) (zNg pB wk))))))) ?_
   refine ae (AM (hD.app _) _ (by first|omega|simp)) ?_
   rintro r b2 ⟨S,L2,hSv,G3,hSok,Gq,bM⟩
   have hKv:=(hK.app [.cells [.int .i64 0,.str [],.ah,.ah] 139 true]).trans bM
   have hv2:=bM.at (aI b _) (by omega)
   obtain⟨cx,vx⟩:=hx0.cell
   obtain⟨cr,vr⟩:=hSv.cell
   refine gA (zNg cx (zNg vx (zNg cr vr))) ?_
   refine ae (wQ (bs:=b2) _ ?_ (x:=x0) (A:=N) (L:=S) ?_ (by omega) hN20 hSv (by omega) hSok) ?_
   ·first|omega|simp
   ·rcases hx0 with h0|⟨j,h1,h2⟩
    ·exact .inl h0
    ·refine .inr ⟨j,h1,hKv.at h2 ?_⟩
     rintro rfl
     obtain⟨x,hx,-⟩:=h
     rw[h2]at hx
     simp at hx
   rintro r b3 ⟨tr,rfl,eh,hT⟩
   have tO:=hKv.trans (er.of eh)
   have zC:=eh.at hv2
   have r8:aR b3 i L2:=Gq.ro (eh.2 i (by have:=hKv.1;omega)) eh.ro
   refine dz ?_
   refine⟨by omega,ae (fR r8 [_,_] (n:=2) (m:=100) rfl (by omega) ?_ rfl) ?_⟩
   ·simp
   rintro r b4 ⟨kd,L4,rfl,IG,yh,j3⟩
   have oA:=tO.trans j3
   have hv4:=j3.at zC (by omega)
   have hvl:=(zNh.1 hv4).1
   have sv:∀ X,(b4.set b.length X)[b.length]? = some X:=fun X=>zNq hvl
   obtain⟨t1,t2,t3,t4⟩:=hT.lb
   have BY:(one tr.xk&&one tr.xi)=true:=by rw[t3,t4];rfl
   have hT4:Tr (b4.set b.length (.cells (tv tr) 139 true)) 5 tr:=hT.ro ((j3.roD r8).trans ((Ro.refl b4).cell hv4 _))
   have sW:=gn (by omega) hT4
   have kV:=oA.fu (k:=b.length) (by omega) (.cells (tv tr) 139 true)
   have oN:=yh.lP hv4 (by omega) (.cells (tv tr) 139 true)
   unfold tv at sW kV oN
   cases hc:(kd==[97,112,112,108,105,99,97,116,105,111,110,47,106,114,100,43,106,115,111,110])
   ·simp only[cq,↓Xn,↓Xo,↓Xg,↓Xd,↓Xe,↓Xf,Tryz.VΓ,Tryz.Γs,Xp,Xi,Nat.reduceAdd,Nat.reduceSub,Nat.reduceLT,Nat.reduceLeDiff,reduceIte,reduceCtorEq,Nat.reduceEqDiff,implies_true,forall_const,cp,dy,beq_self_eq_true,bne_self_eq_false,Int.reduceBEq,Int.reduceBNe,Int.reduceLT,Int.reduceLE,hv4,sv,BY,hc,tv]
    refine ae sW ?_
    rintro r b6 ⟨s,e,rfl,hs,kx⟩
    refine dz ?_
    exact⟨_,_,_,rfl,hs,IG,oN.ro (kx.2 i (by have:=kV.1;omega)) kx.ro,kV.trans (er.of kx)⟩
   ·simp only[cq,↓Xn,↓Xo,↓Xg,↓Xd,↓Xe,↓Xf,Tryz.VΓ,Tryz.Γs,Xp,Xi,Nat.reduceAdd,Nat.reduceSub,Nat.reduceLT,Nat.reduceLeDiff,reduceIte,reduceCtorEq,Nat.reduceEqDiff,implies_true,forall_const,cp,dy,beq_self_eq_true,bne_self_eq_false,Int.reduceBEq,Int.reduceBNe,Int.reduceLT,Int.reduceLE,hv4,sv,BY,hc,tv]
    refine ae sW ?_
    rintro r b6 ⟨s,e,rfl,hs,kx⟩
    refine dz ?_
    exact⟨_,_,_,rfl,hs,by simp,oN.ro (kx.2 i (by have:=kV.1;omega)) kx.ro,kV.trans (er.of kx)⟩
 ·have mL:=hx0.w7
  rcases w1 with w1|w1
  rotate_left
  rcases w3 with w3|w3
  rotate_left
  rcases w5 with w5|w5
  all_goals
   refine gA (zNg w1 (zNg w2 (zNg w3 (zNg w4 (zNg w5 (zNg (ad pB) (zNg pB (zNg wk mL)))))))) ?_
   refine az (fun σ=>∃ (k:Nat) (ab kd:Bytes),k≤N.length∧ab.length≤4096∧kd.length≤100∧JInv bs i x0 N ab kd b.length (b.length+1) k σ) (fun σ=>N.length - fC 52 σ) ⟨0,_,_,by omega,?_,?_,rfl,rfl,rfl,rfl,rfl,rfl,rfl,rfl,hK.app _,aI b _,⟨.ah,.ah,[],[],_,aQ b _ 1,hD.app _,rfl,(fun s hs=>by cases hs),(fun s hs=>by cases hs),.inl ⟨rfl,rfl⟩,.inl ⟨rfl,rfl⟩⟩⟩ ?_
   ·first|omega|simp
   ·simp
   rintro⟨t,b9⟩ ⟨k,ab,kd,hk,hab,IG,h0,h8,h9,dH,gj,xu,vT,xr,I2,hv9,x,y,A,K,L9,hj9,Gp,hAK,lA,lK,hx,hy⟩
   simp only at h0 h8 h9 dH gj xu vT xr I2 hv9 hj9 Gp hx hy
   rw[ao xr]
   by_cases aC:k<N.length
   ·have bg:decide ((k:Int)<N.length)=true:=decide_eq_true (by omega)
    rcases hx0 with⟨rfl,rfl⟩|⟨j,rfl,hj⟩
    ·exact absurd aC (by simp)
    have ox:j≠i:=by
     rintro rfl
     obtain⟨x,hx,-⟩:=h
     rw[hj]at hx
     simp at hx
    have tm:=I2.at hj ox
    have Cc:(N.map SV.str)[k * 1]? = some (.str N[k]):=by simp[aC]
    have hNk:=Cj N[k] (List.getElem_mem aC)
    generalize N[k]=nm at Cc hNk
    refine gA (zNg h0 (zNg h8 (zNg h9 (zNg dH (zNg gj (zNg xu (zNg vT (zNg xr (zNg bg (zNg tm Cc)))))))))) ?_
    refine⟨by omega,by simp;omega,ae (dr Gp 2 (by omega)) ?_⟩
    rintro r b1 ⟨v,L1,rfl,hv,xo,cN⟩
    have Gn:=I2.trans cN
    have hv1:=cN.at hv9 (by omega)
    have oy:=cN.at hj9 (by omega)
    have iG:=(zNh.1 oy).1
    have hbl1:=Gn.1
    have dL:∀ (l:List aw) X,(b1++l).set (b.length+1) X=b1.set (b.length+1) X++l:=fun l X=>aK iG l X
    have wv:(v==0)=true∨(v==0)=false:=by cases v==0 <;> simp
    have BW:((x=.ah∧A=[])∨∃ q,x=.o q A.length∧b.length+1<q∧b1[q]? = some (.own (A.map SV.str) 9 1 A.length true)):=hx.imp (fun x=>x) (fun⟨q,h1,h2,h3⟩=>⟨q,h1,h2,cN.at h3 (by omega)⟩)
    have hy1:((y=.ah∧K=[])∨∃ q,y=.o q K.length∧b.length+1<q∧b1[q]? = some (.own (K.flatMap lc) 132 6 K.length true)):=hy.imp (fun x=>x) (fun⟨q,h1,h2,h3⟩=>⟨q,h1,h2,cN.at h3 (by omega)⟩)
    clear hx hy
    have yb:∀ q q':Nat,x=.o q A.length→y=.o q' K.length→q≠q':=by
     rintro q q' rfl rfl rfl
     rcases BW with⟨h0,-⟩|⟨p,h1,-,h3⟩
     ·cases h0
     rcases hy1 with⟨h0,-⟩|⟨p',h1',-,h3'⟩
     ·cases h0
     cases h1
     cases h1'
     rw[h3]at h3'
     simp at h3'
    rcases wv with wv|wv
    ·have hKB:∀ l∈K++[⟨([115,101,108,102]:List UInt8),[],nm,[]⟩],LkB l:=fun l hl=>by
      rcases zNt.1 hl with hl|hl
      ·exact lK l hl
      ·rw[zNs.1 hl];exact⟨by simp,by simp,by simp only;omega,by simp⟩
     rcases hy1 with⟨rfl,rfl⟩|⟨q,rfl,hq,bU⟩
     ·refine gA (zNg h0 (zNg h8 (zNg h9 (zNg dH (zNg gj (zNg xu (zNg vT (zNg xr (zNg wv (zNg oy (zNg (ad oy) dL))))))))))) ?_
      refine⟨by omega,⟨by unfold maxLen;omega,by omega⟩,by omega,⟨k+1,ab,kd,by omega,hab,IG,h0,h8,h9,dH,gj,xu,vT,rfl,(Gn.fu (by omega) _).app _,ad (ak hv1 (by omega) _) _,⟨x,.o (b1.length+1) 1,A,[⟨([115,101,108,102]:List UInt8),[],nm,[]⟩],_,bN iG _ _,(xo.lP oy (by omega) _).app _,by simp at hAK ⊢;omega,lA,hKB,BW.imp (fun x=>x) (fun⟨q,h1,h2,h3⟩=>⟨q,h1,h2,ad (ak h3 (by omega) _) _⟩),.inr ⟨b1.length+1,rfl,by omega,?_⟩⟩⟩,?_⟩
      ·rw[aJ (by simp)];rfl
      ·rw[ao (k:=.i64) (n:=(k:Int)+1) rfl];omega
     ·have kK:=(zNh.1 bU).1
      have kR:∀ (l:List aw) X,(b1++l).set q X=b1.set q X++l:=fun l X=>aK kK l X
      have xh:=fun Y=>ad (ak oy (show q≠b.length+1 by omega) Y)
      have fw:∀ (l:List aw) Y X,(b1.set q Y++l).set (b.length+1) X=(b1.set q Y).set (b.length+1) X++l:=fun l Y X=>aK (by simpa using iG) l X
      simp only[cq,↓Xn,↓Xo,↓Xg,↓Xd,↓Xe,↓Xf,Tryz.VΓ,Tryz.Γs,Xp,Xi,Nat.reduceAdd,Nat.reduceSub,Nat.reduceLT,Nat.reduceLeDiff,reduceIte,reduceCtorEq,Nat.reduceEqDiff,implies_true,forall_const,cp,dy,beq_self_eq_true,bne_self_eq_false,Int.reduceBEq,Int.reduceBNe,Int.reduceLT,Int.reduceLE,h0,h8,h9,dH,gj,xu,vT,xr,wv,oy,ad oy,dL,ad bU,kR,xh,fw,zNy]
      refine⟨by omega,⟨by unfold maxLen;omega,by omega⟩,by omega,⟨k+1,ab,kd,by omega,hab,IG,h0,h8,h9,dH,gj,xu,vT,rfl,((Gn.fu (by omega) _).fu (by omega) _).app _,ad (ak (ak hv1 (by omega) _) (by omega) _) _,⟨x,.o (b1.length+1) (K.length+1),A,K++[⟨([115,101,108,102]:List UInt8),[],nm,[]⟩],_,bN (by simpa using iG) _ _,((xo.set (by omega) bU _).lP (ak oy (by omega) _) (by omega) _).app _,by simp;omega,lA,hKB,BW.imp (fun x=>x) (fun⟨q',h1,h2,h3⟩=>⟨q',h1,h2,ad (ak (ak h3 (fun e=>yb q' q h1 rfl e.symm) _) (by omega) _) _⟩),.inr ⟨b1.length+1,by simp,by omega,?_⟩⟩⟩,?_⟩
      ·rw[aJ (by simp),List.flatMap_append,zNk];rfl
      ·rw[ao (k:=.i64) (n:=(k:Int)+1) rfl];omega
    ·have oO:Le 4096 (A++[nm]):=fun l hl=>by
      rcases zNt.1 hl with hl|hl
      ·exact lA l hl
      ·rw[zNs.1 hl];exact hNk
     rcases BW with⟨rfl,rfl⟩|⟨q,rfl,hq,bU⟩
     ·refine gA (zNg h0 (zNg h8 (zNg h9 (zNg dH (zNg gj (zNg xu (zNg vT (zNg xr (zNg wv (zNg oy (zNg (ad oy) dL))))))))))) ?_
      refine⟨by omega,⟨by unfold maxLen;omega,by omega⟩,by omega,⟨k+1,ab,kd,by omega,hab,IG,h0,h8,h9,dH,gj,xu,vT,rfl,(Gn.fu (by omega) _).app _,ad (ak hv1 (by omega) _) _,⟨.o (b1.length+1) 1,y,[nm],K,_,bN iG _ _,(xo.lP oy (by omega) _).app _,by simp at hAK ⊢;omega,oO,lK,.inr ⟨b1.length+1,rfl,by omega,?_⟩,hy1.imp (fun x=>x) (fun⟨q,h1,h2,h3⟩=>⟨q,h1,h2,ad (ak h3 (by omega) _) _⟩)⟩⟩,?_⟩
      ·rw[aJ (by simp)];rfl
      ·rw[ao (k:=.i64) (n:=(k:Int)+1) rfl];omega
     ·have kK:=(zNh.1 bU).1
      have kR:∀ (l:List aw) X,(b1++l).set q X=b1.set q X++l:=fun l X=>aK kK l X
      have xh:=fun Y=>ad (ak oy (show q≠b.length+1 by omega) Y)
      have fw:∀ (l:List aw) Y X,(b1.set q Y++l).set (b.length+1) X=(b1.set q Y).set (b.length+1) X++l:=fun l Y X=>aK (by simpa using iG) l X
      simp only[cq,↓Xn,↓Xo,↓Xg,↓Xd,↓Xe,↓Xf,Tryz.VΓ,Tryz.Γs,Xp,Xi,Nat.reduceAdd,Nat.reduceSub,Nat.reduceLT,Nat.reduceLeDiff,reduceIte,reduceCtorEq,Nat.reduceEqDiff,implies_true,forall_const,cp,dy,beq_self_eq_true,bne_self_eq_false,Int.reduceBEq,Int.reduceBNe,Int.reduceLT,Int.reduceLE,h0,h8,h9,dH,gj,xu,vT,xr,wv,oy,ad oy,dL,ad bU,kR,xh,fw,zNy]
      refine⟨by omega,⟨by unfold maxLen;omega,by omega⟩,by omega,⟨k+1,ab,kd,by omega,hab,IG,h0,h8,h9,dH,gj,xu,vT,rfl,((Gn.fu (by omega) _).fu (by omega) _).app _,ad (ak (ak hv1 (by omega) _) (by omega) _) _,⟨.o (b1.length+1) (A.length+1),y,A++[nm],K,_,bN (by simpa using iG) _ _,((xo.set (by omega) bU _).lP (ak oy (by omega) _) (by omega) _).app _,by simp;omega,oO,lK,.inr ⟨b1.length+1,by simp,by omega,?_⟩,hy1.imp (fun x=>x) (fun⟨q',h1,h2,h3⟩=>⟨q',h1,h2,ad (ak (ak h3 (yb q q' rfl h1) _) (by omega) _) _⟩)⟩⟩,?_⟩
      ·rw[aJ (by simp),List.map_append,zNk];rfl
      ·rw[ao (k:=.i64) (n:=(k:Int)+1) rfl];omega
   ·have bg:decide ((k:Int)<N.length)=false:=decide_eq_false (by omega)
    refine gA (zNg h0 (zNg h8 (zNg h9 (zNg dH (zNg gj (zNg xu (zNg vT (zNg xr bg)))))))) ?_
    refine ae (dr Gp 6 (by omega)) ?_
    rintro r b1 ⟨v,L1,rfl,hv,xo,cN⟩
    have hv1:=cN.at hv9 (by omega)
    have oy:=cN.at hj9 (by omega)
    have iG:=(zNh.1 oy).1
    have Gn:=I2.trans cN
    have dL:∀ (l:List aw) X,(b1++l).set (b.length+1) X=b1.set (b.length+1) X++l:=fun l X=>aK iG l X
    have wv:(v==0)=true∨(v==0)=false:=by cases v==0 <;> simp
    have BW:((x=.ah∧A=[])∨∃ q,x=.o q A.length∧b.length+1<q∧b1[q]? = some (.own (A.map SV.str) 9 1 A.length true)):=hx.imp (fun x=>x) (fun⟨q,h1,h2,h3⟩=>⟨q,h1,h2,cN.at h3 (by omega)⟩)
    have hy1:((y=.ah∧K=[])∨∃ q,y=.o q K.length∧b.length+1<q∧b1[q]? = some (.own (K.flatMap lc) 132 6 K.length true)):=hy.imp (fun x=>x) (fun⟨q,h1,h2,h3⟩=>⟨q,h1,h2,cN.at h3 (by omega)⟩)
    clear hx hy
    have yb:∀ q q':Nat,x=.o q A.length→y=.o q' K.length→q≠q':=by
     rintro q q' rfl rfl rfl
     rcases BW with⟨h0,-⟩|⟨p,h1,-,h3⟩
     ·cases h0
     rcases hy1 with⟨h0,-⟩|⟨p',h1',-,h3'⟩
     ·cases h0
     cases h1
     cases h1'
     rw[h3]at h3'
     simp at h3'
    have oO:Le 4096 (A++[ab]):=fun l hl=>by
     rcases zNt.1 hl with hl|hl
     ·exact lA l hl
     ·rw[zNs.1 hl];exact hab
    have lkx:∀ b:List aw,(∃ q,x=.o q A.length∧b[q]? = some (.own (A.map SV.str) 9 1 A.length true))→Vc.cells x=[x]∧CY x=false:=fun b ⟨q,h,_⟩=>by rw[h];exact⟨rfl,rfl⟩
    obtain⟨cx,vx⟩:Vc.cells x=[x]∧CY x=false:=by
     rcases BW with⟨rfl,-⟩|⟨q,rfl,-⟩ <;> exact⟨rfl,rfl⟩
    obtain⟨cy,vy⟩:Vc.cells y=[y]∧CY y=false:=by
     rcases hy1 with⟨rfl,-⟩|⟨q,rfl,-⟩ <;> exact⟨rfl,rfl⟩
    have hg3:=fun Y l=>bN iG Y l
    have hs5:∀ (l:List aw) Y X,(b1.set (b.length+1) Y++l).set (b.length+1) X=b1.set (b.length+1) X++l:=fun l Y X=>by rw[aK (by simpa using iG),List.set_set]
    rcases wv with wv|wv
    ·rcases BW with⟨rfl,rfl⟩|⟨q,rfl,hq,bU⟩
     ·refine gA (zNg h0 (zNg h8 (zNg h9 (zNg dH (zNg gj (zNg xu (zNg vT (zNg xr (zNg wv (zNg oy (zNg (ad oy) (zNg dL (zNg hg3 (zNg hs5 (zNg cy vy))))))))))))))) ?_
      refine⟨by omega,⟨by unfold maxLen;omega,by omega⟩,?_⟩
      obtain⟨S,sj,sv,sD,sK,sx,sy,e⟩:∃ S,S[b.length+1]? = some (.cells [.str [104,116,116,112,115,58,47,47,120,46,101,120,97,109,112,108,101,47],SV.o (b1.length+1) 1,.ah,y] 135 true)∧S[b.length]? = some (.cells [.int .i64 0,.str [],.ah,.ah] 139 true)∧aR S i L1∧er i bs S∧((SV.o (b1.length+1) 1=.ah∧([ab]:List Bytes)=[])∨∃ q,SV.o (b1.length+1) 1=.o q (([ab]:List Bytes)).length∧b.length+1<q∧S[q]? = some (.own ((([ab]:List Bytes)).map SV.str) 9 1 (([ab]:List Bytes)).length true))∧((y=.ah∧K=[])∨∃ q,y=.o q K.length∧b.length+1<q∧S[q]? = some (.own (K.flatMap lc) 132 6 K.length true))∧S=_ :=
       ⟨b1.set (b.length+1) (.cells [.str [104,116,116,112,115,58,47,47,120,46,101,120,97,109,112,108,101,47],.o (b1.length+1) 1,.ah,y] 135 true)++[.own [.str ab] 9 1 1 true,.own [.str ab] 9 1 1 true],bN iG _ _,ad (ak hv1 (by omega) _) _,(xo.lP oy (by omega) _).app _,(Gn.fu (by omega) _).app _,.inr ⟨b1.length+1,rfl,by omega,by rw[aJ (by simp)];rfl⟩,hy1.imp (fun x=>x) (fun⟨q,h1,h2,h3⟩=>⟨q,h1,h2,ad (ak h3 (by omega) _) _⟩),rfl⟩
      rw[← e]
      clear e
      refine ae (o4 (bs:=S) _ ?_ sx ?_ ?_ sy ?_ lK) ?_
      ·(try simp only[zNj,zNi]);omega
      ·(try simp only[zNj,zNi,zNk]);omega
      ·intro a ha;have:=oO a ha;omega
      ·omega
      rintro r b3 ⟨tr,rfl,eh,hT⟩
      have hk3l:=eh.1
      have oq:=sK.1
      have zC:=eh.at sv
      have hvl:=(zNh.1 zC).1
      have hsv:∀ X,(b3.set b.length X)[b.length]? = some X:=fun X=>zNq hvl
      obtain⟨t1,t2,t3,t4⟩:=hT.lb
      have BY:(one tr.xk&&one tr.xi)=true:=by rw[t3,t4];rfl
      have r8:aR b3 i L1:=sD.ro (eh.2 i (by omega) (.inr fun c e s n hx=>by obtain⟨x,hi,-⟩:=sD;rw[hx]at hi;cases hi)) eh.ro
      have hT4:Tr (b3.set b.length (.cells (tv tr) 139 true)) 4 tr:=hT.ro ((Ro.refl b3).cell zC _)
      have sW:=gn (by omega) hT4
      have oN:=r8.lP zC (by omega) (.cells (tv tr) 139 true)
      have tO:er i bs b3:=⟨by have:=sK.1;omega,fun k hk hn=>(eh.2 k (by omega) (.inl (by omega))).trans (sK.2 k hk hn)⟩
      have kV:=tO.fu (k:=b.length) (by omega) (.cells (tv tr) 139 true)
      unfold tv at sW kV oN
      simp only[cq,↓Xn,↓Xo,↓Xg,↓Xd,↓Xe,↓Xf,Tryz.VΓ,Tryz.Γs,Xp,Xi,Nat.reduceAdd,Nat.reduceSub,Nat.reduceLT,Nat.reduceLeDiff,reduceIte,reduceCtorEq,Nat.reduceEqDiff,implies_true,forall_const,cp,dy,beq_self_eq_true,bne_self_eq_false,Int.reduceBEq,Int.reduceBNe,Int.reduceLT,Int.reduceLE,h0,h8,h9,dH,gj,xu,vT,xr,zC,hsv,BY,tv]
      refine ae sW ?_
      rintro r b6 ⟨s,e,rfl,hs,kx⟩
      refine gA (zNg h0 (zNg h8 (zNg h9 (zNg dH (zNg gj (zNg xu (zNg vT xr))))))) ?_
      exact⟨_,_,_,rfl,hs,IG,oN.ro (kx.2 i (by simp only[zNy];omega)) kx.ro,kV.trans (er.of kx)⟩
     ·have kK:=(zNh.1 bU).1
      have kR:∀ (l:List aw) X,(b1++l).set q X=b1.set q X++l:=fun l X=>aK kK l X
      have xh:=fun Y=>ad (ak oy (show q≠b.length+1 by omega) Y)
      have fw:∀ (l:List aw) Y X,(b1.set q Y++l).set (b.length+1) X=(b1.set q Y).set (b.length+1) X++l:=fun l Y X=>aK (by simpa using iG) l X
      have hs6:∀ (l:List aw) Z Y X,((b1.set q Z).set (b.length+1) Y++l).set (b.length+1) X=(b1.set q Z).set (b.length+1) X++l:=fun l Z Y X=>by rw[aK (by simpa using iG),List.set_set]
      have hg6:=fun Z Y l=>bN (l1:=b1.set q Z) (i:=b.length+1) (by simpa using iG) Y l
      simp only[cq,↓Xn,↓Xo,↓Xg,↓Xd,↓Xe,↓Xf,Tryz.VΓ,Tryz.Γs,Xp,Xi,Nat.reduceAdd,Nat.reduceSub,Nat.reduceLT,Nat.reduceLeDiff,reduceIte,reduceCtorEq,Nat.reduceEqDiff,implies_true,forall_const,cp,dy,beq_self_eq_true,bne_self_eq_false,Int.reduceBEq,Int.reduceBNe,Int.reduceLT,Int.reduceLE,h0,h8,h9,dH,gj,xu,vT,xr,wv,oy,ad oy,dL,hg3,hs5,cy,vy,ad bU,kR,xh,fw,hs6,hg6,zNy]
      refine⟨by omega,⟨by unfold maxLen;omega,by omega⟩,?_⟩
      obtain⟨S,sj,sv,sD,sK,sx,sy,e⟩:∃ S,S[b.length+1]? = some (.cells [.str [104,116,116,112,115,58,47,47,120,46,101,120,97,109,112,108,101,47],SV.o (b1.length+1) (A.length+1),.ah,y] 135 true)∧S[b.length]? = some (.cells [.int .i64 0,.str [],.ah,.ah] 139 true)∧aR S i L1∧er i bs S∧((SV.o (b1.length+1) (A.length+1)=.ah∧(A++[ab])=[])∨∃ q,SV.o (b1.length+1) (A.length+1)=.o q ((A++[ab])).length∧b.length+1<q∧S[q]? = some (.own (((A++[ab])).map SV.str) 9 1 ((A++[ab])).length true))∧((y=.ah∧K=[])∨∃ q,y=.o q K.length∧b.length+1<q∧S[q]? = some (.own (K.flatMap lc) 132 6 K.length true))∧S=_ :=
       ⟨(b1.set q .gone).set (b.length+1) (.cells [.str [104,116,116,112,115,58,47,47,120,46,101,120,97,109,112,108,101,47],.o (b1.length+1) (A.length+1),.ah,y] 135 true)++[.own [.str ab] 9 1 1 true,.own (A.map SV.str++[.str ab]) 9 1 (A.length+1) true],hg6 _ _ _,ad (ak (ak hv1 (by omega) _) (by omega) _) _,((xo.set (by omega) bU _).lP (ak oy (by omega) _) (by omega) _).app _,((Gn.fu (by omega) _).fu (by omega) _).app _,.inr ⟨b1.length+1,by simp,by omega,by rw[aJ (by simp),List.map_append,zNk];rfl⟩,hy1.imp (fun x=>x) (fun⟨q',h1,h2,h3⟩=>⟨q',h1,h2,ad (ak (ak h3 (yb q q' rfl h1) _) (by omega) _) _⟩),rfl⟩
      rw[← e]
      clear e
      refine ae (o4 (bs:=S) _ ?_ sx ?_ ?_ sy ?_ lK) ?_
      ·(try simp only[zNj,zNi]);omega
      ·(try simp only[zNj,zNi,zNk]);omega
      ·intro a ha;have:=oO a ha;omega
      ·omega
      rintro r b3 ⟨tr,rfl,eh,hT⟩
      have hk3l:=eh.1
      have oq:=sK.1
      have zC:=eh.at sv
      have hvl:=(zNh.1 zC).1
      have hsv:∀ X,(b3.set b.length X)[b.length]? = some X:=fun X=>zNq hvl
      obtain⟨t1,t2,t3,t4⟩:=hT.lb
      have BY:(one tr.xk&&one tr.xi)=true:=by rw[t3,t4];rfl
      have r8:aR b3 i L1:=sD.ro (eh.2 i (by omega) (.inr fun c e s n hx=>by obtain⟨x,hi,-⟩:=sD;rw[hx]at hi;cases hi)) eh.ro
      have hT4:Tr (b3.set b.length (.cells (tv tr) 139 true)) 4 tr:=hT.ro ((Ro.refl b3).cell zC _)
      have sW:=gn (by omega) hT4
      have oN:=r8.lP zC (by omega) (.cells (tv tr) 139 true)
      have tO:er i bs b3:=⟨by have:=sK.1;omega,fun k hk hn=>(eh.2 k (by omega) (.inl (by omega))).trans (sK.2 k hk hn)⟩
      have kV:=tO.fu (k:=b.length) (by omega) (.cells (tv tr) 139 true)
      unfold tv at sW kV oN
      simp only[cq,↓Xn,↓Xo,↓Xg,↓Xd,↓Xe,↓Xf,Tryz.VΓ,Tryz.Γs,Xp,Xi,Nat.reduceAdd,Nat.reduceSub,Nat.reduceLT,Nat.reduceLeDiff,reduceIte,reduceCtorEq,Nat.reduceEqDiff,implies_true,forall_const,cp,dy,beq_self_eq_true,bne_self_eq_false,Int.reduceBEq,Int.reduceBNe,Int.reduceLT,Int.reduceLE,h0,h8,h9,dH,gj,xu,vT,xr,zC,hsv,BY,tv]
      refine ae sW ?_
      rintro r b6 ⟨s,e,rfl,hs,kx⟩
      refine gA (zNg h0 (zNg h8 (zNg h9 (zNg dH (zNg gj (zNg xu (zNg vT xr))))))) ?_
      exact⟨_,_,_,rfl,hs,IG,oN.ro (kx.2 i (by simp only[zNy];omega)) kx.ro,kV.trans (er.of kx)⟩
    ·refine gA (zNg h0 (zNg h8 (zNg h9 (zNg dH (zNg gj (zNg xu (zNg vT (zNg xr (zNg wv (zNg oy (zNg cx (zNg vx (zNg cy vy))))))))))))) ?_
     obtain⟨S,sj,sv,sD,sK,sx,sy,e⟩:∃ S,S[b.length+1]? = some (.cells [.str ab,x,.ah,y] 135 true)∧S[b.length]? = some (.cells [.int .i64 0,.str [],.ah,.ah] 139 true)∧aR S i L1∧er i bs S∧((x=.ah∧A=[])∨∃ q,x=.o q (A).length∧b.length+1<q∧S[q]? = some (.own ((A).map SV.str) 9 1 (A).length true))∧((y=.ah∧K=[])∨∃ q,y=.o q K.length∧b.length+1<q∧S[q]? = some (.own (K.flatMap lc) 132 6 K.length true))∧S=_:=⟨b1,oy,hv1,xo,Gn,BW,hy1,rfl⟩
     rw[← e]
     clear e
     refine ae (o4 (bs:=S) _ ?_ sx ?_ ?_ sy ?_ lK) ?_
     ·(try simp only[zNj,zNi]);omega
     ·(try simp only[zNj,zNi,zNk]);omega
     ·intro a ha;have:=lA a ha;omega
     ·omega
     rintro r b3 ⟨tr,rfl,eh,hT⟩
     have hk3l:=eh.1
     have oq:=sK.1
     have zC:=eh.at sv
     have hvl:=(zNh.1 zC).1
     have hsv:∀ X,(b3.set b.length X)[b.length]? = some X:=fun X=>zNq hvl
     obtain⟨t1,t2,t3,t4⟩:=hT.lb
     have BY:(one tr.xk&&one tr.xi)=true:=by rw[t3,t4];rfl
     have r8:aR b3 i L1:=sD.ro (eh.2 i (by omega) (.inr fun c e s n hx=>by obtain⟨x,hi,-⟩:=sD;rw[hx]at hi;cases hi)) eh.ro
     have hT4:Tr (b3.set b.length (.cells (tv tr) 139 true)) 4 tr:=hT.ro ((Ro.refl b3).cell zC _)
     have sW:=gn (by omega) hT4
     have oN:=r8.lP zC (by omega) (.cells (tv tr) 139 true)
     have tO:er i bs b3:=⟨by have:=sK.1;omega,fun k hk hn=>(eh.2 k (by omega) (.inl (by omega))).trans (sK.2 k hk hn)⟩
     have kV:=tO.fu (k:=b.length) (by omega) (.cells (tv tr) 139 true)
     unfold tv at sW kV oN
     simp only[cq,↓Xn,↓Xo,↓Xg,↓Xd,↓Xe,↓Xf,Tryz.VΓ,Tryz.Γs,Xp,Xi,Nat.reduceAdd,Nat.reduceSub,Nat.reduceLT,Nat.reduceLeDiff,reduceIte,reduceCtorEq,Nat.reduceEqDiff,implies_true,forall_const,cp,dy,beq_self_eq_true,bne_self_eq_false,Int.reduceBEq,Int.reduceBNe,Int.reduceLT,Int.reduceLE,h0,h8,h9,dH,gj,xu,vT,xr,zC,hsv,BY,tv]
     refine ae sW ?_
     rintro r b6 ⟨s,e,rfl,hs,kx⟩
     refine gA (zNg h0 (zNg h8 (zNg h9 (zNg dH (zNg gj (zNg xu (zNg vT xr))))))) ?_
     exact⟨_,_,_,rfl,hs,IG,oN.ro (kx.2 i (by simp only[zNy];omega)) kx.ro,kV.trans (er.of kx)⟩
theorem gD {s:Bytes}{q:Nat}(h:q<s.length):s.getD q 0=s[q]:=by simp[List.getD,h]
theorem dj {p:UInt8→Bool}{s:Bytes}{q:Nat}(h:q<s.length)(h2:p s[q]=false):s.all p=false:=by
 rw[List.all_eq_false]
 exact⟨_,List.getElem_mem h,by rw[h2];simp⟩
theorem qv (c:UInt8):PC Tryz.V 216 [.int .u8 c.toNat] (.bool (yF c)):=by
 refine aV 3000 Tryz.func216 rfl Tryz.ntmps216 Tryz.results216 Tryz.call216 (by simp) (by simp[flat,flat.af]) (by simp[flat,flat.af]) ?_
 refine bo ?_
 (refine aa (gv c) ?_;refine bo ?_)
 refine⟨fun h=>?_,fun h=>?_⟩
 ·(refine aa (fk c) ?_;refine bo ?_)
  refine⟨fun h2=>?_,fun h2=>?_⟩
  ·(refine aa (iS c [33,35,36,37,38,39,42,43,45,46,94,95,96,124,126] (by simp)) ?_;refine bo ?_)
   unfold yF;rw[h,h2];rfl
  ·unfold yF;rw[h,h2];rfl
 ·unfold yF;rw[h];rfl
theorem o8 (c:UInt8):PC Tryz.V 218 [.int .u8 c.toNat] (.bool (fB c)):=by
 have k:=cW (p:=fun c=>decide (fB c=((c.toNat:Int)==32||(c.toNat:Int)==9))) (by decide +kernel) c
 rw[of_decide_eq_true k]
 refine aV 3000 Tryz.func218 rfl Tryz.ntmps218 Tryz.results218 Tryz.call218 (by simp) (by simp[flat,flat.af]) (by simp[flat,flat.af]) ?_
 cases h1:((c.toNat:Int)==32) <;> cases h2:((c.toNat:Int)==9) <;> exact gK (zNg h1 (zNg h2 (zNg Bool.or_true (zNg Bool.or_false (zNg Bool.true_or Bool.false_or))))) zNu
theorem mz (c:UInt8):PC Tryz.V 217 [.int .u8 c.toNat] (.bool (gT c)):=by
 have k:=cW (p:=fun c=>decide (gT c=((c.toNat:Int)==9||(decide ((32:Int)≤(c.toNat:Int))&&!((c.toNat:Int)==127))))) (by decide +kernel) c
 rw[of_decide_eq_true k]
 refine aV 3000 Tryz.func217 rfl Tryz.ntmps217 Tryz.results217 Tryz.call217 (by simp) (by simp[flat,flat.af]) (by simp[flat,flat.af]) ?_
 have e:((c.toNat:Int) != 127)=!((c.toNat:Int)==127):=rfl
 cases h1:((c.toNat:Int)==9) <;> cases h2:decide ((32:Int)≤(c.toNat:Int)) <;> cases h3:((c.toNat:Int)==127) <;> rw[h3]at e <;> simp only[cq,↓Xn,↓Xo,↓Xg,↓Xd,↓Xe,↓Xf,Tryz.VΓ,Tryz.Γs,Xp,Xi,Nat.reduceAdd,Nat.reduceSub,Nat.reduceLT,Nat.reduceLeDiff,reduceIte,reduceCtorEq,Nat.reduceEqDiff,implies_true,forall_const,cp,beq_self_eq_true,bne_self_eq_false,Int.reduceBEq,Int.reduceBNe,Int.reduceLT,Int.reduceLE,h1,h2,e,Bool.or_true,Bool.or_false,Bool.true_or,Bool.false_or,Bool.and_true,Bool.and_false,Bool.true_and,Bool.false_and,zNr,Bool.not_false]
def gM (p:UInt8→Bool)(s:Bytes)(a b:Nat):Prop:=a≤b∧b≤s.length∧(∀ i,a≤i→i<b→p (s.getD i 0)=true)∧(b<s.length→p (s.getD b 0)=false)
theorem gM.of {p:UInt8→Bool}{s:Bytes}{a b:Nat}(h:(decide (a≤b∧b≤s.length)&&(List.range (b - a)).all (fun i=>p (s.getD (a+i) 0))&&(decide (s.length≤b)||!p (s.getD b 0)))=true):gM p s a b:=by
 simp only[Bool.and_eq_true,decide_eq_true_eq,List.all_eq_true,List.mem_range,Bool.or_eq_true,Bool.not_eq_true']at h
 obtain⟨⟨⟨h1,h2⟩,h3⟩,h4⟩:=h
 refine⟨h1,h2,fun i h5 h6=>?_,fun h5=>h4.resolve_left (by omega)⟩
 have:=h3 (i - a) (by omega)
 rwa [show a+(i - a)=i by omega]at this
theorem eB {s:Bytes}{a b:Nat}(h:gM fB s a b)(hs:s.length≤4294967281):PC Tryz.V 198 [.str s,.int .i64 a] (.int .i64 b):=by
 obtain⟨hab,hb,a6,qL⟩:=h
 refine aV 3000 Tryz.func198 rfl Tryz.ntmps198 Tryz.results198 Tryz.call198 (by simp) (by simp[flat,flat.af]) (by simp[flat,flat.af]) ?_
 refine bo ?_
 refine az (fun σ=>∃ k:Nat,a≤k∧k≤b∧lk 0 σ.t=some (.str s)∧lk 1 σ.t=some (.int .i64 k)) (fun σ=>b - fC 1 σ) ⟨a,by omega,by omega,rfl,rfl⟩ ?_
 rintro⟨t,b'⟩ ⟨k,hk,mF,h0,h1⟩
 simp only at h0 h1
 rw[ao h1]
 by_cases aC:k<s.length
 ·have hd:decide ((k:Int)<s.length)=true:=decide_eq_true (by omega)
  refine gK (zNg h0 (zNg h1 hd)) ?_
  refine⟨by omega,?_⟩
  by_cases e:k=b
  ·subst e
   (refine aa (o8 (s.getD k 0)) ?_;exact gN (zNg h0 (zNg h1 (qL aC))) zNu)
  ·(refine aa (o8 (s.getD k 0)) ?_;refine gN (zNg h0 (zNg h1 (a6 k hk (by omega)))) ?_)
   exact⟨by omega,⟨k+1,by omega,by omega,rfl⟩,by rw[ao (k:=.i64) (n:=(k:Int)+1) rfl];omega⟩
 ·have hd:decide ((k:Int)<s.length)=false:=decide_eq_false (by omega)
  obtain rfl:k=b:=by omega
  exact gK (zNg h0 (zNg h1 hd)) zNu
theorem Bs {s:Bytes}{a b:Nat}(h:gM yF s a b)(aC:a<b)(hs:s.length≤4294967281):PC Tryz.V 276 [.str s,.int .i64 a] (.fF [.str ((s.take b).drop a),.int .i64 b,.bool true]):=by
 obtain⟨hab,hb,a6,qL⟩:=h
 refine aV 3000 Tryz.func276 rfl Tryz.ntmps276 Tryz.results276 Tryz.call276 (by simp) (by simp[flat,flat.af]) (by simp[flat,flat.af]) ?_
 refine bo ?_
 refine az (fun σ=>∃ k:Nat,a≤k∧k≤b∧lk 0 σ.t=some (.str s)∧lk 1 σ.t=some (.int .i64 a)∧lk 7 σ.t=some (.int .i64 k)) (fun σ=>b - fC 7 σ) ⟨a,by omega,by omega,rfl,rfl,rfl⟩ ?_
 rintro⟨t,b'⟩ ⟨k,hk,mF,h0,h1,h7⟩
 simp only at h0 h1 h7
 rw[ao h7]
 have hle:decide ((b:Int)≤a)=false:=decide_eq_false (by omega)
 by_cases hl:k<s.length
 ·have hd:decide ((k:Int)<s.length)=true:=decide_eq_true (by omega)
  refine gK (zNg h0 (zNg h1 (zNg h7 hd))) ?_
  refine⟨by omega,?_⟩
  by_cases e:k=b
  ·subst e
   (refine aa (qv (s.getD k 0)) ?_;refine gN (zNg h0 (zNg h1 (zNg h7 (zNg (qL hl) hle)))) ?_)
   exact⟨by omega,by omega⟩
  ·(refine aa (qv (s.getD k 0)) ?_;refine gN (zNg h0 (zNg h1 (zNg h7 (a6 k hk (by omega))))) ?_)
   exact⟨by omega,⟨k+1,by omega,by omega,rfl⟩,by rw[ao (k:=.i64) (n:=(k:Int)+1) rfl];omega⟩
 ·have hd:decide ((k:Int)<s.length)=false:=decide_eq_false (by omega)
  obtain rfl:k=b:=by omega
  refine gK (zNg h0 (zNg h1 (zNg h7 (zNg hd hle)))) ?_
  exact⟨by omega,by omega⟩
def za (c:UInt8):Bool:=gT c&&c != 34&&c != 92
theorem zl {s:Bytes}{a b:Nat}(ha:s.getD a 0=34)(h:gM za s (a+1) b)(hb:b<s.length)(hq:s.getD b 0=34)(hs:s.length≤4294967281):PC Tryz.V 288 [.str s,.int .i64 a] (.fF [.str ((s.take b).drop (a+1)),.int .i64 ((b:Int)+1),.bool true]):=by
 obtain⟨hab,hb',a6,qL⟩:=h
 refine aV 3000 Tryz.func288 rfl Tryz.ntmps288 Tryz.results288 Tryz.call288 (by simp) (by simp[flat,flat.af]) (by simp[flat,flat.af]) ?_
 have g0:decide ((s.length:Int)≤a)=false:=decide_eq_false (by omega)
 have g1:(((s.getD a 0).toNat:Int) != 34)=false:=by rw[ha];rfl
 refine gK (zNg g0 g1) ?_
 refine⟨by omega,by omega,az (fun σ=>∃ k:Nat,a+1≤k∧k≤b∧lk 0 σ.t=some (.str s)∧lk 7 σ.t=some (.str ((s.take k).drop (a+1)))∧lk 8 σ.t=some (.int .i64 k)) (fun σ=>b - fC 8 σ) ⟨a+1,by omega,by omega,rfl,by simp[lk],by simp[lk]⟩ ?_⟩
 rintro⟨t,b'⟩ ⟨k,hk,mF,h0,h7,h8⟩
 simp only at h0 h7 h8
 rw[ao h8]
 have hd:decide ((k:Int)<s.length)=true:=decide_eq_true (by omega)
 by_cases e:k=b
 ·subst e
  have g2:(((s.getD k 0).toNat:Int)==34)=true:=by rw[hq];rfl
  refine gK (zNg h0 (zNg h7 (zNg h8 (zNg hd g2)))) ?_
  exact⟨by omega,by omega⟩
 ·have hp:=a6 k hk (by omega)
  have GY:=cW (p:=fun c=>!za c||(decide (((c.toNat:Int)==34)=false)&&decide (((c.toNat:Int)==92)=false)&&gT c)) (by decide +kernel) (s.getD k 0)
  rw[hp]at GY
  simp only[zNr,Bool.false_or,Bool.and_eq_true,decide_eq_true_eq]at GY
  obtain⟨⟨g2,g3⟩,g4⟩:=GY
  refine gK (zNg h0 (zNg h7 (zNg h8 (zNg hd (zNg g2 g3))))) ?_
  refine⟨by omega,?_⟩
  (refine aa (mz (s.getD k 0)) ?_;refine gA (zNg h0 (zNg h7 (zNg h8 (zNg g4 zNr)))) ?_)
  have ug:k<s.length:=by omega
  refine⟨by omega,by simpa[dP] using eK [s.getD k 0],by simp;omega,by omega,⟨k+1,by omega,by omega,?_,rfl⟩,by rw[ao (k:=.i64) (n:=(k:Int)+1) rfl];omega⟩
  rw[show rv (.int .u8 (s.getD k 0).toNat)=s[k] by rw[gD ug];simp[rv],zNw ug,List.drop_append_of_le_length (by simp;omega)]
theorem zk {s:Bytes}{a b:Nat}(ha:s.getD a 0=34)(h:gM za s (a+1) b)(hb:b<s.length)(hq:s.getD b 0=34)(hs:s.length≤4294967281):PC Tryz.V 277 [.str s,.int .i64 a] (.fF [.str ((s.take b).drop (a+1)),.int .i64 ((b:Int)+1),.bool true]):=by
 have p1:=zl ha h hb hq hs
 obtain⟨hab,hb',a6,qL⟩:=h
 refine aV 3000 Tryz.func277 rfl Tryz.ntmps277 Tryz.results277 Tryz.call277 (by simp) (by simp[flat,flat.af]) (by simp[flat,flat.af]) ?_
 have g0:decide ((a:Int)<s.length)=true:=decide_eq_true (by omega)
 have g1:(((s.getD a 0).toNat:Int)==34)=true:=by rw[ha];rfl
 refine gK (zNg g0 g1) ?_
 refine⟨by omega,?_⟩
 (refine aa (p1) ?_;exact od zNu)
def wS1:aw:=.own [.str ([108,114,100,100]:List UInt8)] 9 1 1 true
def wS3:aw:=.own [.str ([120]:List UInt8)] 9 1 1 true
def wS4:aw:=.own [.str ([108,114,100,100]:List UInt8),.str ([120]:List UInt8)] 9 1 2 true
theorem HF {bs:List aw}:SC Tryz.V 245 [.str ([108,114,100,100,32,120]:List UInt8)] bs (fun r b=>r=.o (bs.length+3) 2∧b=bs++[wS1,.gone,wS3,wS4]):=by
 have s0:PC Tryz.V 198 [.str ([108,114,100,100,32,120]:List UInt8),.int .i64 0] (.int .i64 0):=eB (a:=0) (b:=0) (gM.of (by decide)) (by simp)
 have s4:PC Tryz.V 198 [.str ([108,114,100,100,32,120]:List UInt8),.int .i64 4] (.int .i64 5):=eB (a:=4) (b:=5) (gM.of (by decide)) (by simp)
 have s6:PC Tryz.V 198 [.str ([108,114,100,100,32,120]:List UInt8),.int .i64 6] (.int .i64 6):=eB (a:=6) (b:=6) (gM.of (by decide)) (by simp)
 have k1:fB 32=true:=rfl
 have k2:fB 108=false:=rfl
 have k3:fB 114=false:=rfl
 have k4:fB 100=false:=rfl
 have k5:fB 120=false:=rfl
 have c6:((6:Nat):Int)=6:=rfl
 have bl:=o8
 have lw1:=gU ([108,114,100,100]:List UInt8) (by simp)
 have lw2:=gU ([120]:List UInt8) (by simp)
 rw[show lower ([108,114,100,100]:List UInt8)=([108,114,100,100]:List UInt8) by decide]at lw1
 rw[show lower ([120]:List UInt8)=([120]:List UInt8) by decide]at lw2
 refine bJ 3000 Tryz.func245 rfl Tryz.ntmps245 Tryz.results245 Tryz.call245 (by simp) (aj bs.length _ (by simp[within,within.ax])) ?_
 refine dz ?_
 (refine aa (s0) ?_;refine dz ?_)
 refine az (fun σ=>lk 0 σ.t=some (.str ([108,114,100,100,32,120]:List UInt8))∧((lk 3 σ.t=some .ah∧lk 4 σ.t=some (.int .i64 0)∧σ.b=bs)∨(lk 3 σ.t=some (.o (bs.length+1) 1)∧lk 4 σ.t=some (.int .i64 5)∧σ.b=bs++[wS1,wS1])∨(lk 3 σ.t=some (.o (bs.length+3) 2)∧lk 4 σ.t=some (.int .i64 6)∧σ.b=bs++[wS1,.gone,wS3,wS4]))) (fun σ=>7 - fC 4 σ) ⟨rfl,.inl ⟨rfl,rfl,rfl⟩⟩ ?_
 rintro⟨t,b⟩ ⟨h0,⟨h3,h4,hb⟩|⟨h3,h4,hb⟩|⟨h3,h4,hb⟩⟩ <;> simp only at h0 h3 h4 hb <;> subst hb <;> rw[ao h4]
 ·simp only[cq,↓Xn,↓Xo,↓Xg,↓Xd,↓Xe,↓Xf,Tryz.VΓ,Tryz.Γs,Xp,Xi,Nat.reduceAdd,Nat.reduceSub,Nat.reduceLT,Nat.reduceLeDiff,reduceIte,reduceCtorEq,Nat.reduceEqDiff,implies_true,forall_const,cp,dy,h0,h3,h4,beq_self_eq_true,bne_self_eq_false,Int.reduceBEq,Int.reduceBNe,Int.reduceLT,Int.reduceLE,zNj,zNi,c6,decide_true,decide_false,zNn,zNl]
  (refine az (fun σ=>∃ k:Nat,0≤k∧k≤4∧lk 0 σ.t=some (.str ([108,114,100,100,32,120]:List UInt8))∧lk 3 σ.t=some .ah∧lk 4 σ.t=some (.int .i64 0)∧lk 5 σ.t=some (.int .i64 k)∧σ.b=b) (fun σ=>4 - fC 5 σ) ⟨0,by omega,by omega,h0,h3,h4,rfl,rfl⟩ ?_
   rintro⟨t2,b2⟩ ⟨k,hk,mF,h0,h3,h4,h5,hb⟩
   simp only at h0 h3 h4 h5 hb
   subst hb
   rw[ao h5])
  by_cases hke:k=4
  ·subst hke
   simp only[cq,↓Xn,↓Xo,↓Xg,↓Xd,↓Xe,↓Xf,Tryz.VΓ,Tryz.Γs,Xp,Xi,Nat.reduceAdd,Nat.reduceSub,Nat.reduceLT,Nat.reduceLeDiff,reduceIte,reduceCtorEq,Nat.reduceEqDiff,implies_true,forall_const,cp,dy,beq_self_eq_true,bne_self_eq_false,Int.reduceBEq,Int.reduceBNe,Int.reduceLT,Int.reduceLE,zNj,zNi,Nat.reduceAdd,zNp,decide_true,decide_false,zNn,zNl,Int.reduceLT,Int.reduceToNat,h0,h3,h4,h5]
   (refine aa (bl _) ?_;simp only[cq,↓Xn,↓Xo,↓Xg,↓Xd,↓Xe,↓Xf,Tryz.VΓ,Tryz.Γs,Xp,Xi,Nat.reduceAdd,Nat.reduceSub,Nat.reduceLT,Nat.reduceLeDiff,reduceIte,reduceCtorEq,Nat.reduceEqDiff,implies_true,forall_const,cp,dy,beq_self_eq_true,bne_self_eq_false,Int.reduceBEq,Int.reduceBNe,Int.reduceLT,Int.reduceLE,zNj,zNi,Nat.reduceAdd,zNp,decide_true,decide_false,zNn,zNl,Int.reduceLT,Int.reduceToNat,h0,h3,h4,h5,k1,zNr,List.take_succ_cons,List.take_zero,List.drop_zero])
   (refine aa (lw1) ?_;simp only[cq,↓Xn,↓Xo,↓Xg,↓Xd,↓Xe,↓Xf,Tryz.VΓ,Tryz.Γs,Xp,Xi,Nat.reduceAdd,Nat.reduceSub,Nat.reduceLT,Nat.reduceLeDiff,reduceIte,reduceCtorEq,Nat.reduceEqDiff,implies_true,forall_const,cp,dy,beq_self_eq_true,bne_self_eq_false,Int.reduceBEq,Int.reduceBNe,Int.reduceLT,Int.reduceLE,zNj,zNi,Nat.reduceAdd,zNp,decide_true,decide_false,zNn,zNl,Int.reduceLT,Int.reduceToNat,h0,h3,h4,h5])
   refine⟨by omega,⟨by unfold maxLen;omega,by omega⟩,?_⟩
   (refine aa (s4) ?_;simp only[cq,↓Xn,↓Xo,↓Xg,↓Xd,↓Xe,↓Xf,Tryz.VΓ,Tryz.Γs,Xp,Xi,Nat.reduceAdd,Nat.reduceSub,Nat.reduceLT,Nat.reduceLeDiff,reduceIte,reduceCtorEq,Nat.reduceEqDiff,implies_true,forall_const,cp,dy,beq_self_eq_true,bne_self_eq_false,Int.reduceBEq,Int.reduceBNe,Int.reduceLT,Int.reduceLE,zNj,zNi,Nat.reduceAdd,zNp,decide_true,decide_false,zNn,zNl,Int.reduceLT,Int.reduceToNat,h0,h3,h4,h5])
   exact⟨by(first|rfl|exact .inl rfl|exact .inr rfl|exact .inr (.inl rfl) | exact .inr (.inr rfl)),by rw[ao (k:=.i64) (n:=5) rfl];omega⟩
  ·obtain rfl|rfl|rfl|rfl:k=0∨k=1∨k=2∨k=3:=by omega
   all_goals
    simp only[cq,↓Xn,↓Xo,↓Xg,↓Xd,↓Xe,↓Xf,Tryz.VΓ,Tryz.Γs,Xp,Xi,Nat.reduceAdd,Nat.reduceSub,Nat.reduceLT,Nat.reduceLeDiff,reduceIte,reduceCtorEq,Nat.reduceEqDiff,implies_true,forall_const,cp,dy,beq_self_eq_true,bne_self_eq_false,Int.reduceBEq,Int.reduceBNe,Int.reduceLT,Int.reduceLE,zNj,zNi,Nat.reduceAdd,zNp,decide_true,decide_false,zNn,zNl,Int.reduceLT,Int.reduceToNat,h0,h3,h4,h5]
    (refine aa (bl _) ?_;simp only[cq,↓Xn,↓Xo,↓Xg,↓Xd,↓Xe,↓Xf,Tryz.VΓ,Tryz.Γs,Xp,Xi,Nat.reduceAdd,Nat.reduceSub,Nat.reduceLT,Nat.reduceLeDiff,reduceIte,reduceCtorEq,Nat.reduceEqDiff,implies_true,forall_const,cp,dy,beq_self_eq_true,bne_self_eq_false,Int.reduceBEq,Int.reduceBNe,Int.reduceLT,Int.reduceLE,zNj,zNi,Nat.reduceAdd,zNp,decide_true,decide_false,zNn,zNl,Int.reduceLT,Int.reduceToNat,h0,h3,h4,h5,k2,k3,k4,k5,Bool.not_false,Int.reduceAdd])
    first
     | exact⟨⟨1,by omega,by omega,rfl⟩,by rw[ao (k:=.i64) (n:=1) rfl];omega⟩
     | exact⟨⟨2,by omega,by omega,rfl⟩,by rw[ao (k:=.i64) (n:=2) rfl];omega⟩
     | exact⟨⟨3,by omega,by omega,rfl⟩,by rw[ao (k:=.i64) (n:=3) rfl];omega⟩
     | exact⟨⟨4,by omega,by omega,rfl⟩,by rw[ao (k:=.i64) (n:=4) rfl];omega⟩
 ·simp only[cq,↓Xn,↓Xo,↓Xg,↓Xd,↓Xe,↓Xf,Tryz.VΓ,Tryz.Γs,Xp,Xi,Nat.reduceAdd,Nat.reduceSub,Nat.reduceLT,Nat.reduceLeDiff,reduceIte,reduceCtorEq,Nat.reduceEqDiff,implies_true,forall_const,cp,dy,beq_self_eq_true,bne_self_eq_false,Int.reduceBEq,Int.reduceBNe,Int.reduceLT,Int.reduceLE,zNj,zNi,Nat.reduceAdd,zNp,decide_true,decide_false,zNn,zNl,Int.reduceLT,Int.reduceToNat,h0,h3,h4]
  (refine az (fun σ=>∃ k:Nat,5≤k∧k≤6∧lk 0 σ.t=some (.str ([108,114,100,100,32,120]:List UInt8))∧lk 3 σ.t=some (.o (bs.length+1) 1)∧lk 4 σ.t=some (.int .i64 5)∧lk 5 σ.t=some (.int .i64 k)∧σ.b=bs++[wS1,wS1]) (fun σ=>6 - fC 5 σ) ⟨5,by omega,by omega,h0,h3,h4,rfl,rfl⟩ ?_
   rintro⟨t2,b2⟩ ⟨k,hk,mF,h0,h3,h4,h5,hb⟩
   simp only at h0 h3 h4 h5 hb
   subst hb
   rw[ao h5])
  by_cases hke:k=6
  ·subst hke
   simp only[cq,↓Xn,↓Xo,↓Xg,↓Xd,↓Xe,↓Xf,Tryz.VΓ,Tryz.Γs,Xp,Xi,Nat.reduceAdd,Nat.reduceSub,Nat.reduceLT,Nat.reduceLeDiff,reduceIte,reduceCtorEq,Nat.reduceEqDiff,implies_true,forall_const,cp,dy,beq_self_eq_true,bne_self_eq_false,Int.reduceBEq,Int.reduceBNe,Int.reduceLT,Int.reduceLE,zNj,zNi,Nat.reduceAdd,zNp,decide_true,decide_false,zNn,zNl,Int.reduceLT,Int.reduceToNat,h0,h3,h4,h5,List.take_succ_cons,List.take_zero,List.drop_zero,wS1]
   (refine aa (lw2) ?_;simp only[cq,↓Xn,↓Xo,↓Xg,↓Xd,↓Xe,↓Xf,Tryz.VΓ,Tryz.Γs,Xp,Xi,Nat.reduceAdd,Nat.reduceSub,Nat.reduceLT,Nat.reduceLeDiff,reduceIte,reduceCtorEq,Nat.reduceEqDiff,implies_true,forall_const,cp,dy,beq_self_eq_true,bne_self_eq_false,Int.reduceBEq,Int.reduceBNe,Int.reduceLT,Int.reduceLE,zNj,zNi,Nat.reduceAdd,zNp,decide_true,decide_false,zNn,zNl,Int.reduceLT,Int.reduceToNat,h0,h3,h4,h5,wS1])
   refine⟨by omega,⟨by unfold maxLen;omega,by omega⟩,?_⟩
   (refine aa (s6) ?_;simp only[cq,↓Xn,↓Xo,↓Xg,↓Xd,↓Xe,↓Xf,Tryz.VΓ,Tryz.Γs,Xp,Xi,Nat.reduceAdd,Nat.reduceSub,Nat.reduceLT,Nat.reduceLeDiff,reduceIte,reduceCtorEq,Nat.reduceEqDiff,implies_true,forall_const,cp,dy,beq_self_eq_true,bne_self_eq_false,Int.reduceBEq,Int.reduceBNe,Int.reduceLT,Int.reduceLE,zNj,zNi,Nat.reduceAdd,zNp,decide_true,decide_false,zNn,zNl,Int.reduceLT,Int.reduceToNat,h0,h3,h4,h5])
   exact⟨by(first|rfl|exact .inl rfl|exact .inr rfl|exact .inr (.inl rfl) | exact .inr (.inr rfl)),by rw[ao (k:=.i64) (n:=6) rfl];omega⟩
  ·obtain rfl:k=5:=by omega
   simp only[cq,↓Xn,↓Xo,↓Xg,↓Xd,↓Xe,↓Xf,Tryz.VΓ,Tryz.Γs,Xp,Xi,Nat.reduceAdd,Nat.reduceSub,Nat.reduceLT,Nat.reduceLeDiff,reduceIte,reduceCtorEq,Nat.reduceEqDiff,implies_true,forall_const,cp,dy,beq_self_eq_true,bne_self_eq_false,Int.reduceBEq,Int.reduceBNe,Int.reduceLT,Int.reduceLE,zNj,zNi,Nat.reduceAdd,zNp,decide_true,decide_false,zNn,zNl,Int.reduceLT,Int.reduceToNat,h0,h3,h4,h5]
   (refine aa (bl _) ?_;simp only[cq,↓Xn,↓Xo,↓Xg,↓Xd,↓Xe,↓Xf,Tryz.VΓ,Tryz.Γs,Xp,Xi,Nat.reduceAdd,Nat.reduceSub,Nat.reduceLT,Nat.reduceLeDiff,reduceIte,reduceCtorEq,Nat.reduceEqDiff,implies_true,forall_const,cp,dy,beq_self_eq_true,bne_self_eq_false,Int.reduceBEq,Int.reduceBNe,Int.reduceLT,Int.reduceLE,zNj,zNi,Nat.reduceAdd,zNp,decide_true,decide_false,zNn,zNl,Int.reduceLT,Int.reduceToNat,h0,h3,h4,h5,k2,k3,k4,k5,Bool.not_false,Int.reduceAdd])
   exact⟨⟨6,by omega,by omega,rfl⟩,by rw[ao (k:=.i64) (n:=6) rfl];omega⟩
 ·simp only[cq,↓Xn,↓Xo,↓Xg,↓Xd,↓Xe,↓Xf,Tryz.VΓ,Tryz.Γs,Xp,Xi,Nat.reduceAdd,Nat.reduceSub,Nat.reduceLT,Nat.reduceLeDiff,reduceIte,reduceCtorEq,Nat.reduceEqDiff,implies_true,forall_const,cp,dy,beq_self_eq_true,bne_self_eq_false,Int.reduceBEq,Int.reduceBNe,Int.reduceLT,Int.reduceLE,zNj,zNi,Nat.reduceAdd,zNp,decide_true,decide_false,zNn,zNl,Int.reduceLT,Int.reduceToNat,h0,h3,h4]
structure WL (s t:Bytes) (n:Nat):Prop where
 len:s.length=n+16
 tn:n≤100
 g0:s.getD 0 0=60
 pr:gM (fun c=>gT c&&c != 62) s 1 (n+1)
 g1:s.getD (n+1) 0=62
 tk:(s.take (n+1)).drop 1=t
 g2:s.getD (n+2) 0=59
 sk0:gM fB s 0 0
 sk2:gM fB s (n+2) (n+2)
 sk3:gM fB s (n+3) (n+4)
 tok:gM yF s (n+4) (n+7)
 tokT:(s.take (n+7)).drop (n+4)=([114,101,108]:List UInt8)
 sk7:gM fB s (n+7) (n+7)
 g7:s.getD (n+7) 0=61
 sk8:gM fB s (n+8) (n+8)
 g8:s.getD (n+8) 0=34
 q:gM za s (n+8+1) (n+15)
 qT:(s.take (n+15)).drop (n+8+1)=([108,114,100,100,32,120]:List UInt8)
 g15:s.getD (n+15) 0=34
 sk16:gM fB s (n+16) (n+16)
def wlT (t:Bytes):Bytes:=[60]++t++([62,59,32,114,101,108,61,34,108,114,100,100,32,120,34]:List UInt8)
theorem WL.of {t:Bytes}(ht:t=([104,116,116,112,115,58,47,47,101,46,101,120,97,109,112,108,101,47,108,105,110,107]:List UInt8)∨t=([47,104,101,114,101]:List UInt8)∨t=([120,63,121]:List UInt8)∨t=([104,116,116,112,58,47,47,101,46,101,120,97,109,112,108,101,47]:List UInt8)):WL (wlT t) t t.length:=by
 rcases ht with rfl|rfl|rfl|rfl <;> exact⟨rfl,by decide,rfl,.of (by decide),rfl,rfl,rfl,.of (by decide),.of (by decide),.of (by decide),.of (by decide),rfl,.of (by decide),rfl,.of (by decide),rfl,.of (by decide),rfl,rfl,.of (by decide)⟩
theorem Br {s t:Bytes}{n:Nat}(h:WL s t n):PC Tryz.V 244 [.str s,.int .i64 ((n+4:Nat):Int)] (.fF [.agg [.str ([114,101,108]:List UInt8),.str ([108,114,100,100,32,120]:List UInt8)],.int .i64 ((n+16:Nat):Int),.bool true]):=by
 have hl:s.length≤4294967281:=by rw[h.len];have:=h.tn;omega
 have pT:=Bs h.tok (by omega) hl
 rw[h.tokT]at pT
 have s7:=eB h.sk7 hl
 have s8:=eB h.sk8 hl
 have pV:=zk h.g8 h.q (by rw[h.len];omega) h.g15 hl
 rw[h.qT,show (((n+15:Nat):Int)+1)=((n+16:Nat):Int) by omega]at pV
 have pL:=gU ([114,101,108]:List UInt8) (by simp)
 rw[show lower ([114,101,108]:List UInt8)=([114,101,108]:List UInt8) by decide]at pL
 have e8:((n+7:Nat):Int)+1=((n+8:Nat):Int):=by omega
 have d7:decide (((n+7:Nat):Int)<(s.length:Int))=true:=decide_eq_true (by rw[h.len];omega)
 have g7:(((s.getD (n+7) 0).toNat:Int)==61)=true:=by rw[h.g7];rfl
 have l7:n+7<s.length:=by rw[h.len];omega
 refine aV 3000 Tryz.func244 rfl Tryz.ntmps244 Tryz.results244 Tryz.call244 (by simp) (by simp[flat,flat.af]) (by simp[flat,flat.af]) ?_
 generalize hn7:n+7=n7 at pT s7 e8 d7 g7 l7 ⊢
 generalize hn8:n+8=n8 at pV s8 e8 ⊢
 generalize hn4:n+4=n4 at pT ⊢
 generalize hn16:n+16=n16 at pV ⊢
 have tn:=h.tn
 refine dz ?_
 (refine aa (pT) ?_;refine gA zNr ?_)
 (refine aa (pL) ?_;refine gA zNr ?_)
 (refine aa (s7) ?_;refine gA (zNg zNr (zNg d7 (zNg g7 e8))) ?_)
 refine⟨⟨by omega,by omega⟩,?_⟩
 refine⟨⟨by omega,by omega⟩,?_⟩
 (refine aa (s8) ?_;refine gA (zNg zNr e8) ?_)
 (refine aa (pV) ?_;exact gA zNr zNu)
def Hf:aw:=.own [.str ([108,114,100,100]:List UInt8),.str ([120]:List UInt8)] 9 1 2 true
def wPar:aw:=.own [.str ([114,101,108]:List UInt8),.str ([108,114,100,100,32,120]:List UInt8)] 100 2 1 true
theorem sc_link {bs:List aw}{s t:Bytes}{n:Nat}(h:WL s t n):SC Tryz.V 199 [.str s,.int .i64 0] bs (fun r b=>∃ q1 q2,r=.fF [.agg [.str t,.o q1 2,.o q2 1],.int .i64 ((n+16:Nat):Int),.bool true]∧Kp bs b∧bs.length≤q1∧bs.length≤q2∧b[q1]? = some Hf∧b[q2]? = some wPar):=by
 have hl:s.length≤4294967281:=by rw[h.len];have:=h.tn;omega
 have tn:=h.tn
 have len:=h.len
 have s2:=eB h.sk2 hl
 have s3:=eB h.sk3 hl
 have s16:=eB h.sk16 hl
 have pP:=Br h
 have e2:((n+1:Nat):Int)+1=((n+2:Nat):Int):=by omega
 have e3:((n+2:Nat):Int)+1=((n+3:Nat):Int):=by omega
 have g1:(((s.getD (n+1) 0).toNat:Int) != 62)=false:=by rw[h.g1];rfl
 have g2:(((s.getD (n+2) 0).toNat:Int)==59)=true:=by rw[h.g2];rfl
 have d1:decide (((n+1:Nat):Int)<(s.length:Int))=true:=decide_eq_true (by omega)
 have d2:decide (((n+2:Nat):Int)<(s.length:Int))=true:=decide_eq_true (by omega)
 have d16:decide (((n+16:Nat):Int)<(s.length:Int))=false:=decide_eq_false (by omega)
 have ne1:(((n+1:Nat):Int)==(s.length:Int))=false:=beq_eq_false_iff_ne.2 (by omega)
 have tk:=h.tk
 obtain⟨-,-,pr,-⟩:=h.pr
 refine bJ 3000 Tryz.func199 rfl Tryz.ntmps199 Tryz.results199 Tryz.call199 (by simp) (aj bs.length _ (by simp[within,within.ax])) ?_
 simp only[cq,↓Xn,↓Xo,↓Xg,↓Xd,↓Xe,↓Xf,Tryz.VΓ,Tryz.Γs,Xp,Xi,Nat.reduceAdd,Nat.reduceSub,Nat.reduceLT,Nat.reduceLeDiff,reduceIte,reduceCtorEq,Nat.reduceEqDiff,implies_true,forall_const,cp,dy,beq_self_eq_true,bne_self_eq_false,Int.reduceBEq,Int.reduceBNe,Int.reduceLT,Int.reduceLE,Int.reduceAdd]
 refine az (fun σ=>∃ k:Nat,1≤k∧k≤n+1∧lk 0 σ.t=some (.str s)∧lk 1 σ.t=some (.int .i64 0)∧lk 4 σ.t=some (.p bs.length 0)∧lk 7 σ.t=some (.int .i64 k)∧σ.b=bs++[.cells [.str [],.ah,.ah] 237 true]) (fun σ=>n+1 - fC 7 σ) ⟨1,by omega,by omega,rfl,rfl,rfl,rfl,rfl⟩ ?_
 rintro⟨t1,b1⟩ ⟨k,hk,mF,h0,h1,h4,h7,hb⟩
 simp only at h0 h1 h4 h7 hb
 subst hb
 rw[ao h7]
 by_cases hke:k=n+1
 ·subst hke
  have hle:n+1≤s.length:=by omega
  generalize D6:n+1=N1 at g1 d1 ne1 tk e2 hle h7 ⊢
  simp only[cq,↓Xn,↓Xo,↓Xg,↓Xd,↓Xe,↓Xf,Tryz.VΓ,Tryz.Γs,Xp,Xi,Nat.reduceAdd,Nat.reduceSub,Nat.reduceLT,Nat.reduceLeDiff,reduceIte,reduceCtorEq,Nat.reduceEqDiff,implies_true,forall_const,cp,dy,beq_self_eq_true,bne_self_eq_false,Int.reduceBEq,Int.reduceBNe,Int.reduceLT,Int.reduceLE,h0,h1,h4,h7,d1,g1,ne1,e2,Int.reduceAdd,Int.reduceToNat,tk]
  have e2':(N1:Int)+1=((n+2:Nat):Int):=by omega
  refine⟨by omega,by omega,by omega,?_⟩
  (refine aa (s2) ?_;refine gA (zNg h0 (zNg h1 (zNg h4 h7))) ?_)
  refine az (fun σ=>lk 0 σ.t=some (.str s)∧lk 4 σ.t=some (.p bs.length 0)∧lk 8 σ.t=some (.p (bs.length+1) 0)∧((lk 1 σ.t=some (.int .i64 ((n+2:Nat):Int))∧lk 9 σ.t=some (.bool false)∧σ.b=bs++[.cells [.str [],.ah,.ah] 237 true,.cells [.str t,.ah,.ah] 237 true])∨(lk 1 σ.t=some (.int .i64 ((n+16:Nat):Int))∧∃ q1 q2,Kp bs σ.b∧σ.b[bs.length]? = some (.cells [.str [],.ah,.ah] 237 true)∧σ.b[bs.length+1]? = some (.cells [.str t,.o q1 2,.o q2 1] 237 true)∧bs.length+1<q1∧bs.length+1<q2∧σ.b[q1]? = some Hf∧σ.b[q2]? = some wPar))) (fun σ=>n+17 - fC 1 σ) ⟨h0,h4,rfl,.inl ⟨rfl,rfl,rfl⟩⟩ ?_
  rintro⟨t2,b2⟩ ⟨h0,h4,h8,⟨h1,h9,hb⟩|⟨h1,q1,q2,bf,de,eQ,l1,l2,jY,qH⟩⟩
  ·simp only at h0 h4 h8 h1 h9 hb
   subst hb
   rw[ao h1]
   refine gA (zNg h0 (zNg h1 (zNg h4 (zNg h8 (zNg h9 (zNg d2 (zNg g2 e3))))))) ?_
   refine⟨⟨by omega,by omega⟩,⟨by omega,by omega⟩,?_⟩
   (refine aa (s3) ?_;refine gA (zNg h0 (zNg h1 (zNg h4 (zNg h8 h9)))) ?_)
   (refine aa (pP) ?_;refine gA (zNg h0 (zNg h1 (zNg h4 (zNg h8 (zNg h9 (zNg zNr Bool.not_false)))))) ?_)
   refine ae (HF) ?_
   rintro r b ⟨rfl,rfl⟩
   refine gA (zNg h0 (zNg h1 (zNg h4 (zNg h8 h9)))) ?_
   refine⟨by omega,⟨by unfold maxLen;omega,by omega⟩,?_⟩
   (refine aa (s16) ?_;refine gA (zNg h0 (zNg h1 (zNg h4 (zNg h8 h9)))) ?_)
   exact⟨.inr ⟨bs.length+6,bs.length+8,(Kp.refl bs).app _,rfl,by omega,by omega,aQ _ _ 6,aQ _ _ 8⟩,by rw[ao (k:=.i64) (n:=((n+16:Nat):Int)) rfl];omega⟩
  ·simp only at h0 h4 h8 h1 bf de eQ jY qH
   rw[ao h1]
   have lE:=fun X=>(zNq (zNh.1 de).1:(b2.set bs.length X)[bs.length]? = some X)
   refine gA (zNg h0 (zNg h1 (zNg h4 (zNg h8 (zNg d16 (zNg de (zNg eQ lE))))))) ?_
   exact⟨q1,q2,rfl,bf.set (Nat.le_refl _) _,by omega,by omega,ak jY (by omega) _,ak qH (by omega) _⟩
 ·have hp:(gT (s.getD k 0)&&s.getD k 0 != 62)=true:=pr k hk (by omega)
  have hd:decide ((k:Int)<(s.length:Int))=true:=decide_eq_true (by omega)
  have GY:(!(gT (s.getD k 0)&&s.getD k 0 != 62)||(decide ((((s.getD k 0).toNat:Int) != 62)=true)&&gT (s.getD k 0)))=true:=cW (p:=fun c=>!(gT c&&c != 62)||(decide (((c.toNat:Int) != 62)=true)&&gT c)) (by decide +kernel) (s.getD k 0)
  rw[hp]at GY
  simp only[zNr,Bool.false_or,Bool.and_eq_true,decide_eq_true_eq]at GY
  obtain⟨g3,g4⟩:=GY
  refine gA (zNg h0 (zNg h1 (zNg h4 (zNg h7 (zNg hd g3))))) ?_
  refine⟨⟨by omega,by omega⟩,⟨by omega,by omega⟩,?_⟩
  (refine aa (mz (s.getD k 0)) ?_;refine gA (zNg h0 (zNg h1 (zNg h4 (zNg h7 (zNg g4 zNr))))) ?_)
  exact⟨by omega,⟨k+1,by omega,by omega,rfl⟩,by rw[ao (k:=.i64) (n:=(k:Int)+1) rfl];omega⟩
def wLk (t:Bytes)(q1 q2:Nat):List SV:=[.str t,.o q1 2,.o q2 1]
theorem yO {bs:List aw}{s t:Bytes}{n:Nat}(h:WL s t n):SC Tryz.V 144 [.str s] bs (fun r b=>∃ q q1 q2,r=.fF [.o q 1,.int .i64 0]∧Kp bs b∧b[q]? = some (.own (wLk t q1 q2) 237 3 1 true)∧b[q1]? = some Hf):=by
 have hl:s.length≤4294967281:=by rw[h.len];have:=h.tn;omega
 have tn:=h.tn
 have len:=h.len
 have s0:PC Tryz.V 198 [.str s,.int .i64 0] (.int .i64 0):=eB (a:=0) (b:=0) h.sk0 hl
 have g0:(((s.getD 0 0).toNat:Int)==60)=true:=by rw[h.g0];rfl
 have d0:decide ((0:Int)<(s.length:Int))=true:=decide_eq_true (by omega)
 have e16:(((n+16:Nat):Int)==(s.length:Int))=true:=beq_iff_eq.2 (by omega)
 refine bJ 3000 Tryz.func144 rfl Tryz.ntmps144 Tryz.results144 Tryz.call144 (by simp) (aj bs.length _ (by simp[within,within.ax])) ?_
 refine dz ?_
 refine az (fun σ=>lk 0 σ.t=some (.str s)∧lk 4 σ.t=some .ah∧lk 5 σ.t=some (.int .i64 0)∧σ.b=bs) (fun σ=>1) ⟨rfl,rfl,rfl,rfl⟩ ?_
 rintro⟨t1,b1⟩ ⟨h0,h4,h5,hb⟩
 simp only at h0 h4 h5 hb
 subst hb
 refine gA (zNg h0 (zNg h4 h5)) ?_
 (refine aa (s0) ?_;simp only[cq,↓Xn,↓Xo,↓Xg,↓Xd,↓Xe,↓Xf,Tryz.VΓ,Tryz.Γs,Xp,Xi,Nat.reduceAdd,Nat.reduceSub,Nat.reduceLT,Nat.reduceLeDiff,reduceIte,reduceCtorEq,Nat.reduceEqDiff,implies_true,forall_const,cp,dy,beq_self_eq_true,bne_self_eq_false,Int.reduceBEq,Int.reduceBNe,Int.reduceLT,Int.reduceLE,h0,h4,h5,d0,g0,Int.reduceToNat,decide_false,decide_true,zNl])
 refine⟨by omega,ae (sc_link h) ?_⟩
 rintro r b ⟨q1,q2,rfl,hk,l1,l2,jY,qH⟩
 refine gA (zNg h0 (zNg h4 (zNg h5 (zNg e16 zNr)))) ?_
 refine⟨by omega,⟨by unfold maxLen;omega,by omega⟩,?_⟩
 exact⟨_,_,_,rfl,hk.app _,aQ _ _ 2,ad jY _⟩
theorem AP {bs:List aw}{t:Bytes}{q q1 q2:Nat}(hq:bs[q]? = some (.own (wLk t q1 q2) 237 3 1 true))(jY:bs[q1]? = some Hf):SC Tryz.V 145 [.o q 1,.str ([108,114,100,100]:List UInt8)] bs (fun r b=>r=.fF [.str t,.bool true]∧Kp bs b):=by
 have pE:=gV ([108,114,100,100]:List UInt8) ([108,114,100,100]:List UInt8) (by simp) (by simp)
 rw[show (lower ([108,114,100,100]:List UInt8)==lower ([108,114,100,100]:List UInt8))=true by decide]at pE
 have ql:=(zNh.1 hq).1
 unfold wLk at hq
 unfold Hf at jY
 refine bJ 3000 Tryz.func145 rfl Tryz.ntmps145 Tryz.results145 Tryz.call145 (by simp) (aj bs.length _ (by simp[within,within.ax,ql])) ?_
 refine dz ?_
 refine az (fun σ=>lk 1 σ.t=some (.str ([108,114,100,100]:List UInt8))∧lk 10 σ.t=some (.o q 1)∧lk 11 σ.t=some (.int .i64 1)∧lk 12 σ.t=some (.int .i64 0)∧σ.b=bs) (fun σ=>1) ⟨rfl,rfl,rfl,rfl,rfl⟩ ?_
 rintro⟨t1,b1⟩ ⟨h1,dH,gj,mP,hb⟩
 simp only at h1 dH gj mP hb
 subst hb
 refine gL (zNg h1 (zNg dH (zNg gj (zNg mP hq)))) ?_
 refine az (fun σ=>lk 1 σ.t=some (.str ([108,114,100,100]:List UInt8))∧lk 7 σ.t=some (.p b1.length 0)∧lk 17 σ.t=some (.o q1 2)∧lk 18 σ.t=some (.int .i64 2)∧lk 19 σ.t=some (.int .i64 0)∧σ.b=b1++[.cells [.str t,.o q1 2,.o q2 1] 237 true]) (fun σ=>1) ⟨h1,rfl,rfl,rfl,rfl,rfl⟩ ?_
 rintro⟨t2,b2⟩ ⟨h1,h7,h17,h18,wJ,hb⟩
 simp only at h1 h7 h17 h18 wJ hb
 subst hb
 refine gL (zNg h1 (zNg h7 (zNg h17 (zNg h18 (zNg wJ (ad jY)))))) ?_
 (refine aa (pE) ?_;simp only[cq,↓Xn,↓Xo,↓Xg,↓Xd,↓Xe,↓Xf,Tryz.VΓ,Tryz.Γs,Xp,Xi,Nat.reduceAdd,Nat.reduceSub,Nat.reduceLT,Nat.reduceLeDiff,reduceIte,reduceCtorEq,Nat.reduceEqDiff,implies_true,forall_const,cp,dy,beq_self_eq_true,bne_self_eq_false,Int.reduceBEq,Int.reduceBNe,Int.reduceLT,Int.reduceLE,zNj,zNi,Nat.reduceAdd,zNp,decide_true,decide_false,zNn,zNl,Int.reduceLT,Int.reduceToNat,h1,h7,h17,h18,wJ])
 exact(Kp.refl _).app _
def IdB (i:jg):Prop:=i.text.length≤4096∧i.host.length≤1000∧-9223372036854775808≤i.port∧i.port≤9223372036854775807
def mJ (i:jg)(path:Bytes):cX:=if ko i then⟨i.host,i.port,path,[],[],false,false⟩ else⟨[],0,[],[],[],false,false⟩
theorem tC {i:jg}(hi:IdB i){path:Bytes}(hp:path.length≤1000):Small (mJ i path):=by
 unfold mJ
 split
 ·exact⟨by have:=hi.2.1;simp only[zNi];omega,hi.2.2⟩
 ·exact Small.CX (by simp)
theorem u3 (i:jg)(path:Bytes):PC Tryz.V 131 [iM i,.str path] (.fF [cR (mJ i path),.int .i64 (if ko i then 0 else 8)]):=by
 have p1:=Bu ki i
 refine aV 3000 Tryz.func131 rfl Tryz.ntmps131 Tryz.results131 Tryz.call131 (by simp) (by simp[flat,flat.af,iM]) (by simp[flat,flat.af,cR]) ?_
 unfold iM at p1 ⊢
 unfold cR mJ
 refine dz ?_
 (refine aa (p1) ?_;refine dz ?_)
 cases hv:ko i
 ·exact gA Bool.not_false zNu
 ·exact gA zNr zNu
theorem u6 (i:jg):PC Tryz.V 74 [iM i] (.fF [cR (mJ i ([47,46,119,101,108,108,45,107,110,111,119,110,47,104,111,115,116,45,109,101,116,97,46,106,115,111,110]:List UInt8)),.int .i64 (if ko i then 0 else 8)]):=by
 have p1:=u3 i ([47,46,119,101,108,108,45,107,110,111,119,110,47,104,111,115,116,45,109,101,116,97,46,106,115,111,110]:List UInt8)
 refine aV 3000 Tryz.func74 rfl Tryz.ntmps74 Tryz.results74 Tryz.call74 (by simp) (by simp[flat,flat.af,iM]) (by simp[flat,flat.af,cR]) ?_
 unfold iM cR at p1
 unfold iM cR
 refine dz ?_
 (refine aa (p1) ?_;exact dz zNu)
theorem DL (i:jg):PC Tryz.V 75 [iM i] (.fF [cR (mJ i ([47]:List UInt8)),.int .i64 (if ko i then 0 else 8)]):=by
 have p1:=u3 i ([47]:List UInt8)
 refine aV 3000 Tryz.func75 rfl Tryz.ntmps75 Tryz.results75 Tryz.call75 (by simp) (by simp[flat,flat.af,iM]) (by simp[flat,flat.af,cR]) ?_
 unfold iM cR at p1
 unfold iM cR
 refine dz ?_
 (refine aa (p1) ?_;exact dz zNu)
theorem Bq (i:jg)(hi:IdB i):∃ u e,Small u∧PC Tryz.V 73 [iM i] (.fF [cR u,.int .i64 e]):=by
 have p1:=u3 i ([47,46,119,101,108,108,45,107,110,111,119,110,47,119,101,98,102,105,110,103,101,114]:List UInt8)
 have fP:=dB [] i.text
 have pe:=kg i.text [] (by have:=hi.1;omega) (by simp)
 have h1:=hi.1
 have h2:=hi.2.1
 cases hv:ko i
 ·refine⟨⟨[],0,[],[],[],false,false⟩,8,Small.CX (by simp),?_⟩
  rw[hv]at p1
  simp only[mJ,hv,zNl,if_false]at p1
  refine aV 3000 Tryz.func73 rfl Tryz.ntmps73 Tryz.results73 Tryz.call73 (by simp) (by simp[flat,flat.af,iM]) (by simp[flat,flat.af,cR]) ?_
  unfold iM cR at p1
  unfold iM cR
  refine dz ?_
  (refine aa (p1) ?_;exact dz zNu)
 ·have hF:Fair ⟨i.host,i.port,([47,46,119,101,108,108,45,107,110,111,119,110,47,119,101,98,102,105,110,103,101,114]:List UInt8),([114,101,115,111,117,114,99,101,61]:List UInt8)++aD [] i.text,[],true,false⟩:=⟨by simp;omega,hi.2.2⟩
  have hT:=(im ⟨i.host,i.port,([47,46,119,101,108,108,45,107,110,111,119,110,47,119,101,98,102,105,110,103,101,114]:List UInt8),([114,101,115,111,117,114,99,101,61]:List UInt8)++aD [] i.text,[],true,false⟩).2.1 rfl
  have pF:=eA _ hF
  rw[hv]at p1
  simp only[mJ,hv,if_true]at p1
  by_cases hl:4096<(aT ⟨i.host,i.port,([47,46,119,101,108,108,45,107,110,111,119,110,47,119,101,98,102,105,110,103,101,114]:List UInt8),([114,101,115,111,117,114,99,101,61]:List UInt8)++aD [] i.text,[],true,false⟩).length
  ·refine⟨⟨[],0,[],[],[],false,false⟩,5,Small.CX (by simp),?_⟩
   have hd:decide ((4096:Int)<(aT ⟨i.host,i.port,([47,46,119,101,108,108,45,107,110,111,119,110,47,119,101,98,102,105,110,103,101,114]:List UInt8),([114,101,115,111,117,114,99,101,61]:List UInt8)++aD [] i.text,[],true,false⟩).length)=true:=decide_eq_true (by omega)
   generalize aT _=T at hd pF hl
   refine aV 3000 Tryz.func73 rfl Tryz.ntmps73 Tryz.results73 Tryz.call73 (by simp) (by simp[flat,flat.af,iM]) (by simp[flat,flat.af,cR]) ?_
   unfold iM cR at p1
   unfold cR at pF
   simp only[List.cons_append,zNz]at pF
   unfold iM cR
   refine dz ?_
   (refine aa (p1) ?_;refine dz ?_)
   (refine aa (pe) ?_;refine dz ?_)
   refine⟨by omega,?_⟩
   (refine aa (pF) ?_;exact gA hd zNu)
  ·have hS:Small ⟨i.host,i.port,([47,46,119,101,108,108,45,107,110,111,119,110,47,119,101,98,102,105,110,103,101,114]:List UInt8),([114,101,115,111,117,114,99,101,61]:List UInt8)++aD [] i.text,[],true,false⟩:=⟨by simp only[zNk,zNj,zNi]at hT ⊢;omega,hi.2.2⟩
   refine⟨_,0,hS,?_⟩
   have hd:decide ((4096:Int)<(aT ⟨i.host,i.port,([47,46,119,101,108,108,45,107,110,111,119,110,47,119,101,98,102,105,110,103,101,114]:List UInt8),([114,101,115,111,117,114,99,101,61]:List UInt8)++aD [] i.text,[],true,false⟩).length)=false:=decide_eq_false (by omega)
   generalize aT _=T at hd pF hl
   refine aV 3000 Tryz.func73 rfl Tryz.ntmps73 Tryz.results73 Tryz.call73 (by simp) (by simp[flat,flat.af,iM]) (by simp[flat,flat.af,cR]) ?_
   unfold iM cR at p1
   unfold cR at pF
   simp only[List.cons_append,zNz]at pF
   unfold iM cR
   refine dz ?_
   (refine aa (p1) ?_;refine dz ?_)
   (refine aa (pe) ?_;refine dz ?_)
   refine⟨by omega,?_⟩
   (refine aa (pF) ?_;exact gA hd zNu)
theorem sw (u:cX)(hq:u.aN=false→u.query=[])(hf:u.aZ=false→u.fragment=[]):u.path.length+u.query.length+u.fragment.length≤(aT u).length:=by
 unfold aT bz
 split <;> split <;> simp_all <;> omega
theorem nu (s:Bytes):Small (a7 s).1:=by
 by_cases h:(a7 s).2=0
 ·have hc:=je (s:=s) (u:=(a7 s).1) (by rw[← h])
  have h1:=ck hc.host
  have h2:=sw (a7 s).1 hc.noq hc.nof
  have h3:=hc.len
  exact⟨by omega,by omega,by omega⟩
 ·rw[yx s h];exact Small.CX (by simp)
theorem uR (u:cX)(r:Bytes):Small (ey u r).1:=by
 unfold ey
 split
 ·exact Small.CX (by simp)
 split
 ·exact Small.CX (by simp)
 split
 ·exact Small.CX (by simp)
 ·exact nu _
theorem uL {bs:List aw}{n v:Bytes}{q:Nat}{m:Bool}(hn:n.length≤1000)(hv:v.length≤1000)(hq:bs[q]? = some (.own [.str n,.str v] 100 2 1 m)):SC Tryz.V 166 [.agg [.int .i64 0,.int .i64 0,.o q 1],.str n] bs (fun r b=>∃ q1,r=.o q1 1∧Kp bs b∧b[q1]? = some (.own [.str v] 9 1 1 true)):=by
 have pE:=gV n n (by omega) (by omega)
 rw[show (lower n==lower n)=true by simp]at pE
 have ql:=(zNh.1 hq).1
 refine bJ 3000 Tryz.func166 rfl Tryz.ntmps166 Tryz.results166 Tryz.call166 (by simp) (aj bs.length _ (by simp[within,within.ax,ql])) ?_
 refine gL0 ?_
 refine az (fun σ=>lk 1 σ.t=some (.str n)∧lk 9 σ.t=some (.o q 1)∧lk 10 σ.t=some (.int .i64 1)∧((lk 11 σ.t=some (.int .i64 0)∧lk 5 σ.t=some .ah∧σ.b=bs++[.cells [.int .i64 0,.int .i64 0,.o q 1] 48 true])∨(lk 11 σ.t=some (.int .i64 1)∧∃ q1,lk 5 σ.t=some (.o q1 1)∧Kp bs σ.b∧σ.b[q1]? = some (.own [.str v] 9 1 1 true)))) (fun σ=>1 - fC 11 σ) ⟨rfl,rfl,rfl,.inl ⟨rfl,rfl,rfl⟩⟩ ?_
 rintro⟨t1,b1⟩ ⟨h1,h9,dH,⟨gj,h5,hb⟩|⟨gj,q1,h5,bf,jY⟩⟩
 ·simp only at h1 h9 dH gj h5 hb
  subst hb
  rw[ao gj]
  refine gL (zNg h1 (zNg h9 (zNg dH (zNg gj (zNg h5 (ad hq)))))) ?_
  (refine aa (pE) ?_;refine gL (zNg h1 (zNg h9 (zNg dH (zNg gj h5)))) ?_)
  exact⟨by omega,⟨by unfold maxLen;omega,by omega⟩,by omega,.inr ⟨rfl,bs.length+3,rfl,(Kp.refl bs).app _,aQ _ _ 3⟩,by rw[ao (k:=.i64) (n:=(0:Int)+1) rfl];omega⟩
 ·simp only at h1 h9 dH gj h5 bf jY
  rw[ao gj]
  refine gL (zNg h1 (zNg h9 (zNg dH (zNg gj h5)))) ?_
  exact⟨q1,rfl,bf,jY⟩
theorem AQ {bs:List aw}{n v:Bytes}{q:Nat}{m:Bool}(hn:n.length≤1000)(hv:v.length≤1000)(hq:bs[q]? = some (.own [.str n,.str v] 100 2 1 m)):SC Tryz.V 143 [.agg [.int .i64 0,.int .i64 0,.o q 1],.str n] bs (fun r b=>r=.fF [.str v,.bool true]∧Kp bs b):=by
 have ql:=(zNh.1 hq).1
 have gt:decide ((0:Int)<1)=true:=rfl
 have gf:decide ((0:Int)<0)=false:=rfl
 refine bJ 3000 Tryz.func143 rfl Tryz.ntmps143 Tryz.results143 Tryz.call143 (by simp) (aj bs.length _ (by simp[within,within.ax,ql])) ?_
 refine gL0 ?_
 refine ae (uL hn hv (ad hq _)) ?_
 rintro r b ⟨q1,rfl,hk,jY⟩
 have bM:=((Kp.refl bs).app [.cells [.int .i64 0,.int .i64 0,.o q 1] 48 true]).trans hk
 refine gL0 ?_
 refine az (fun σ=>lk 6 σ.t=some (.o q1 1)∧lk 13 σ.t=some (.o q1 1)∧lk 14 σ.t=some (.int .i64 1)∧((lk 15 σ.t=some (.int .i64 0)∧lk 7 σ.t=some (.str []))∨(lk 15 σ.t=some (.int .i64 1)∧lk 7 σ.t=some (.str v)))∧σ.b=b) (fun σ=>1 - fC 15 σ) ⟨rfl,rfl,rfl,.inl ⟨rfl,rfl⟩,rfl⟩ ?_
 rintro⟨t1,b1⟩ ⟨h6,mO,sd,⟨wK,h7⟩|⟨wK,h7⟩,hb⟩ <;> simp only at h6 mO sd wK h7 hb <;> subst hb <;> rw[ao wK]
 ·simp only[cq,↓Xn,↓Xo,↓Xg,↓Xd,↓Xe,↓Xf,Tryz.VΓ,Tryz.Γs,Xp,Xi,Nat.reduceAdd,Nat.reduceSub,Nat.reduceLT,Nat.reduceLeDiff,reduceIte,reduceCtorEq,Nat.reduceEqDiff,implies_true,forall_const,cp,dy,beq_self_eq_true,bne_self_eq_false,Int.reduceBEq,Int.reduceBNe,Int.reduceLT,Int.reduceLE,zNj,zNi,Nat.reduceAdd,zNp,decide_true,decide_false,zNn,zNl,Int.reduceLT,Int.reduceToNat,Nat.zero_mul,h6,mO,sd,wK,h7,jY,zNz,gf]
  exact⟨by omega,by omega,.inr rfl,by rw[ao (k:=.i64) (n:=(0:Int)+1) rfl];omega⟩
 ·refine gL (zNg h6 (zNg mO (zNg sd (zNg wK (zNg h7 (zNg jY gt)))))) ?_
  exact bM
theorem wO {bs:List aw}{u:cX}(hu:Small u){s t:Bytes}{n q:Nat}{m:Bool}(hw:WL s t n)(hq:bs[q]? = some (.own [.str ([108,105,110,107]:List UInt8),.str s] 100 2 1 m)):SC Tryz.V 81 [cR u,.agg [.int .i64 0,.int .i64 0,.o q 1]] bs (fun r b=>∃ (v:cX) (e:Int),Small v∧r=.fF [cR v,.int .i64 e]∧Kp bs b):=by
 have ql:=(zNh.1 hq).1
 have hl:=hw.len
 have tn:=hw.tn
 have pR:=wW u t hu.fair
 have hs:=uR u t
 generalize ey u t=z at pR hs
 obtain⟨v,e⟩:=z
 simp only at pR hs
 unfold cR at pR
 refine bJ 3000 Tryz.func81 rfl Tryz.ntmps81 Tryz.results81 Tryz.call81 (by simp) (aj bs.length _ (by simp[within,within.ax,ql,cR])) ?_
 unfold cR
 refine gL0 ?_
 refine ae (AQ (v:=s) (by simp) (by omega) (ad hq _)) ?_
 rintro r b ⟨rfl,hk⟩
 have bM:=((Kp.refl bs).app [.cells [.str u.host,.int .i64 u.port,.str u.path,.str u.query,.str u.fragment,.bool u.aN,.bool u.aZ] 35 true,.cells [.int .i64 0,.int .i64 0,.o q 1] 48 true,.cells [.str [],.int .i64 0,.str [],.str [],.str [],.bool false,.bool false] 35 true]).trans hk
 refine gL0 ?_
 refine ae (yO hw) ?_
 rintro r b2 ⟨p,q1,q2,rfl,eh,hp,jY⟩
 have j3:=bM.trans eh
 refine gL0 ?_
 refine ae (AP hp jY) ?_
 rintro r b3 ⟨rfl,ow⟩
 have kx:=j3.trans ow
 have f0:=(hk.trans (eh.trans ow)).at (aI bs _)
 have f2:=(hk.trans (eh.trans ow)).at (aQ bs _ 2)
 have hf2l:=(zNh.1 f2).1
 have fw:∀ (l:List aw) X,(b3++l).set (bs.length+2) X=b3.set (bs.length+2) X++l:=fun l X=>aK hf2l l X
 have Ai:=fun X l=>bN hf2l X l
 have hkS:=fun X l=>(kx.set (j:=bs.length+2) (by omega) X).app l
 refine gL (zNg zNr f0) ?_
 cases he:(e != 0)
 ·(refine aa (pR) ?_;refine gL (zNg zNr (zNg f0 (zNg he (zNg (ad f2) (zNg fw Ai))))) ?_)
  exact⟨v,0,hs,rfl,hkS _ _⟩
 ·(refine aa (pR) ?_;refine gL (zNg zNr (zNg f0 (zNg he (zNg (ad f2) (zNg fw Ai))))) ?_)
  exact⟨cX.none,_,Small.CX (by simp),rfl,hkS _ _⟩
end Go.Proofs.YtnmlimehgifadaaGreatDoor
namespace Wf
open Go Go.RowKit
def cZ:Bytes:=[123,117,114,105,125]
def mI (c:UInt8):Bool:=c==123||c==125
def fy:Nat→Bytes→Bytes→Option (List Bytes)
 | _,cur,[]=>some [cur]
 | k+1,cur,_::r=>fy k cur r
 | 0,cur,c::r=>if cZ.isPrefixOf (c::r) then(fy 4 [] r).map (cur::·) else if mI c then none else fy 0 (cur++[c]) r
def xJ (t:Bytes):Option (List Bytes):=fy 0 [] t
theorem xH (k:Nat)(cur:Bytes):fy k cur []=some [cur]:=by cases k <;> rfl
theorem uC:∀ (k:Nat)(cur t:Bytes),fy k cur t=fy 0 cur (t.drop k)
 | 0,_,_=>rfl
 | k+1,cur,[]=>by simp[xH]
 | k+1,cur,c::r=>by rw[fy,uC k cur r];rfl
theorem xI (cur r:Bytes):fy 0 cur (cZ++r)=(xJ r).map (cur::·):=by
 show fy 0 cur (123::([117,114,105,125]++r))=_
 rw[fy,if_pos (by simp[cZ]),uC 4]
 rfl
theorem ry:∀ (t cur:Bytes),(Lib.index t cZ=-1→fy 0 cur t=if t.any mI then none else some [cur++t])∧(∀ k:Nat,Lib.index t cZ=k→fy 0 cur t=if (t.take k).any mI then none else(xJ (t.drop (k+5))).map ((cur++t.take k)::·))
 | [],cur=>⟨fun _=>by simp[fy],fun k h=>by
    unfold Lib.index at h
    rw[if_neg (by decide)]at h
    omega⟩
 | c::r,cur=>by
   obtain⟨h1,h2⟩:=ry r (cur++[c])
   by_cases hp:cZ.isPrefixOf (c::r)=true
   ·constructor
    ·intro h;unfold Lib.index at h;rw[if_pos hp]at h;omega
    ·intro k h
     unfold Lib.index at h
     rw[if_pos hp]at h
     obtain rfl:k=0:=by omega
     obtain⟨q,hq⟩:=List.isPrefixOf_iff_prefix.1 hp
     rw[← hq,xI]
     simp[cZ]
   ·have EZ:fy 0 cur (c::r)=if mI c then none else fy 0 (cur++[c]) r:=by rw[fy,if_neg hp]
    constructor
    ·intro h
     unfold Lib.index at h
     rw[if_neg hp]at h
     split at h
     ·rename_i h'
      rw[EZ,h1 (by simpa using h')]
      cases hc:mI c <;> simp[hc]
     ·rename_i h'
      have:=Lib.index_ge r cZ
      simp at h';omega
    ·intro k h
     unfold Lib.index at h
     rw[if_neg hp]at h
     split at h
     ·omega
     ·rename_i h'
      have:=Lib.index_ge r cZ
      simp at h'
      obtain⟨k,rfl⟩:∃ j,k=j+1:=⟨k - 1,by omega⟩
      rw[EZ,h2 k (by omega)]
      cases hc:mI c <;> simp[hc,show k+1+5=k+5+1 by omega]
theorem xG:∀ (n:Nat)(t:Bytes),Lib.count t cZ=n→xJ t=if (Lib.splitK cZ 0 n t).any (·.any mI) then none else some (Lib.splitK cZ 0 n t)
 | 0,t,h=>by
   have hm:Lib.index t cZ=-1:=by
    by_cases hm:Lib.index t cZ=-1
    ·exact hm
    ·have Ce:=Lib.index_ge t cZ
     have:=Lib.count_hit (s:=t) (sub:=cZ) (i:=(Lib.index t cZ).toNat) (by decide) (by omega)
     omega
   unfold xJ
   rw[(ry t []).1 hm]
   simp[Lib.splitK]
 | n+1,t,h=>by
   have hm:Lib.index t cZ≠-1:=fun hm=>by rw[Lib.count_miss hm]at h;omega
   have Ce:=Lib.index_ge t cZ
   obtain⟨k,hk⟩:∃ k:Nat,Lib.index t cZ=k:=⟨(Lib.index t cZ).toNat,by omega⟩
   have hc:=Lib.count_hit (s:=t) (sub:=cZ) (i:=k) (by decide) hk
   rw[show cZ.length=5 from rfl]at hc
   have ih:=xG n (t.drop (k+5)) (by omega)
   unfold xJ
   rw[(ry t []).2 k hk,ih,Lib.splitK,if_neg (show ¬ (Lib.index t cZ==-1)=true by simpa using hm),hk]
   simp only[zNv,Nat.add_zero,zNz,List.any_cons,show cZ.length=5 from rfl]
   cases (t.take k).any mI
   ·cases (Lib.splitK cZ 0 n (t.drop (k+5))).any (·.any mI) <;> simp
   ·simp
def p7 (t:Bytes):Bool:=match xJ t with
 | some (_::_::_)=>true
 | _=>false
def dp (e:Bytes):List Bytes→Bytes
 | []=>[]
 | x::r=>x++r.flatMap (e++·)
def gQ (t uri:Bytes):Bytes × Int :=
 if 4096<t.length then([],5)
 else if p7 t=false then([],230)
 else if 4096<(dp (aD [] uri) ((xJ t).getD [])).length then([],5)
 else(dp (aD [] uri) ((xJ t).getD []),0)
open Go Go.RowKit
def iC (t:Bytes):List Bytes:=Lib.splitK cZ 0 (Lib.count t cZ) t
theorem lL {t:Bytes}(h:Lib.index t cZ=-1):iC t=[t]:=by
 unfold iC
 rw[Lib.count_miss h];rfl
theorem sF {t:Bytes}{k:Nat}(h:Lib.index t cZ=k):iC t=t.take k::iC (t.drop (k+5)):=by
 have hc:=Lib.count_hit (s:=t) (sub:=cZ) (i:=k) (by decide) h
 rw[show cZ.length=5 from rfl]at hc
 unfold iC
 rw[hc,zNA 1,Lib.splitK,if_neg (by rw[h];simp <;> omega),h]
 simp[cZ]
theorem tpl_all (t:Bytes):xJ t=if (iC t).any (·.any mI) then none else some (iC t):=xG _ t rfl
theorem yE (e x:Bytes)(l:List Bytes):dp e (l++[x])=dp e l++(if l=[] then [] else e)++x:=by
 cases l with
 | nil=>simp[dp]
 | cons y r=>simp[dp]
theorem yD {e:Bytes}{l:List Bytes}{k:Nat}(h:k<l.length):dp e (l.take (k+1))=dp e (l.take k)++(if k=0 then [] else e)++l[k]:=by
 rw[zNw h,yE]
 congr 2
 cases k with
 | zero=>simp
 | succ k=>cases l with
   | nil=>simp at h
   | cons x l=>simp
theorem Ax (e:Bytes)(l:List Bytes)(k:Nat)(h:k<l.length)(h0:k≠0):(dp e (l.take k)).length+e.length+l[k].length≤(dp e l).length:=by
 have h1:∀ m:List Bytes,m≠[]→∀ r:List Bytes,dp e (m++r)=dp e m++r.flatMap (e++·):=by
  intro m hm r
  cases m with
  | nil=>exact absurd rfl hm
  | cons x m=>simp[dp]
 have e2:l=l.take k++l[k]::l.drop (k+1):=by
  rw[← List.drop_eq_getElem_cons h,List.take_append_drop]
 conv=>rhs;rw[e2]
 rw[h1 _ (fun hq=>(List.take_eq_nil_iff.1 hq).elim h0 (fun hq=>(by rw[hq]at h;simp at h)))]
 simp only[zNk,List.flatMap_cons]
 omega
theorem Df (t:Bytes):∀ x∈iC t,x.length≤t.length:=by
 have:∀ (n:Nat) (t:Bytes),t.length≤n→∀ x∈iC t,x.length≤t.length:=by
  intro n
  induction n with
  | zero =>
    intro t h x hx
    by_cases hi:Lib.index t cZ=-1
    ·rw[lL hi]at hx;rw[zNs.1 hx];omega
    ·have hg:=Lib.index_ge t cZ
     have:=Lib.index_room t cZ (by omega)
     rw[show cZ.length=5 from rfl]at this
     omega
  | succ n ih =>
    intro t h x hx
    by_cases hi:Lib.index t cZ=-1
    ·rw[lL hi]at hx;rw[zNs.1 hx];omega
    ·have hg:=Lib.index_ge t cZ
     have hr:=Lib.index_room t cZ (by omega)
     rw[show cZ.length=5 from rfl]at hr
     rw[sF (k:=(Lib.index t cZ).toNat) (by omega)]at hx
     rcases zNx.1 hx with rfl|hx
     ·simp;omega
     ·have:=ih _ (by simp;omega) x hx
      simp at this;omega
 exact this _ t (Nat.le_refl _)
theorem Dg (t:Bytes):(iC t).length≤t.length+1:=by
 have:∀ (n:Nat) (t:Bytes),t.length≤n→(iC t).length≤t.length+1:=by
  intro n
  induction n with
  | zero =>
    intro t h
    by_cases hi:Lib.index t cZ=-1
    ·rw[lL hi];simp
    ·have hg:=Lib.index_ge t cZ
     have:=Lib.index_room t cZ (by omega)
     rw[show cZ.length=5 from rfl]at this
     omega
  | succ n ih =>
    intro t h
    by_cases hi:Lib.index t cZ=-1
    ·rw[lL hi];simp
    ·have hg:=Lib.index_ge t cZ
     have hr:=Lib.index_room t cZ (by omega)
     rw[show cZ.length=5 from rfl]at hr
     rw[sF (k:=(Lib.index t cZ).toNat) (by omega)]
     have:=ih (t.drop ((Lib.index t cZ).toNat+5)) (by simp;omega)
     simp at this ⊢;omega
 exact this _ t (Nat.le_refl _)
theorem Fu {cur r:Bytes}(h:Lib.hasPrefix r cZ=true):fy 0 cur r=(xJ (r.drop 5)).map (cur::·):=by
 obtain⟨q,rfl⟩:=List.isPrefixOf_iff_prefix.1 h
 rw[xI];rfl
theorem Hl {cur:Bytes}{c:UInt8}{r:Bytes}(h:Lib.hasPrefix (c::r) cZ=false):fy 0 cur (c::r)=if mI c then none else fy 0 (cur++[c]) r:=by
 rw[fy,if_neg (by unfold Lib.hasPrefix at h;simp[h])]
end Wf
namespace Go.Proofs.YtnmlimehgifadaaGreatDoor
open Go Vc Go.RowKit Wf
def PtI (bs:List aw)(t:Bytes)(σ:St):Prop:=∃ (i a:Nat) (x:SV) (dn:List Bytes),lk 0 σ.t=some (.str t)∧lk 2 σ.t=some .ah∧lk 3 σ.t=some (.bool false)∧lk 4 σ.t=some x∧lk 5 σ.t=some (.int .i64 a)∧lk 6 σ.t=some (.int .i64 i) ∧
 a≤i∧i≤t.length∧dn.length≤a∧xJ t=(fy 0 ((t.take i).drop a) (t.drop i)).map (dn++·)∧Sl 9 1 bs.length x σ.b (dn.map SV.str) dn.length∧Kp bs σ.b
theorem yN {bs:List aw}(t:Bytes)(ht:t.length≤1100000):SC Tryz.V 197 [.str t] bs (fun r b=>Kp bs b∧match xJ t with
 | none=>r=.fF [.ah,.bool false]
 | some L=>∃ j,bs.length≤j∧b[j]? = some (.own (L.map SV.str) 9 1 L.length true)∧r=.fF [.o j L.length,.bool (decide (1<L.length))]):=by
 refine bJ 3000 Tryz.func197 rfl Tryz.ntmps197 Tryz.results197 Tryz.call197 (by simp) (aj bs.length _ (by simp[within,within.ax])) ?_
 refine bo ?_
 refine az (PtI bs t) (fun σ=>t.length - fC 6 σ) ⟨0,0,.ah,[],rfl,rfl,rfl,rfl,rfl,rfl,by omega,by omega,by simp,by simp[xJ],.inl ⟨rfl,rfl,rfl⟩,Kp.refl _⟩ ?_
 rintro⟨tt,b⟩ ⟨i,a,x,dn,h0,h2,h3,h4,h5,h6,hai,hit,hda,gX,oq,bf⟩
 simp only at h0 h2 h3 h4 h5 h6 oq bf
 rw[ao h6]
 by_cases aC:i<t.length
 ·have hg:t.getD i 0=t[i]:=by simp[List.getD,aC]
  have pp:=bK (t.drop i) cZ
  have hde:=List.drop_eq_getElem_cons aC
  refine gN (zNg h0 (zNg h2 (zNg h3 (zNg h4 (zNg h5 h6))))) ?_
  refine⟨fun _=>⟨⟨by omega,by omega⟩,?_⟩,fun h=>absurd h (by simp;omega)⟩
  cases hp:Lib.hasPrefix (t.drop i) cZ
  ·rw[hp]at pp
   rw[hde]at hp gX
   rw[Hl hp]at gX
   have hcur:(t.take (i+1)).drop a=(t.take i).drop a++[t[i]]:=by
    rw[zNw aC,List.drop_append_of_le_length (by simp;omega)]
   have hb:mI t[i]=(((t[i].toNat:Int)==123)||((t[i].toNat:Int)==125)):=by
    have e1:=cK aC 123 (n:=123) rfl
    have e2:=cK aC 125 (n:=125) rfl
    rw[hg]at e1 e2
    rw[e1,e2];rfl
   rw[hb]at gX
   have fin:((t[i].toNat:Int)==123)=false→((t[i].toNat:Int)==125)=false→∀ (t':List (Nat × SV)),lk 0 t'=some (.str t)→lk 2 t'=some .ah→lk 3 t'=some (.bool false)→lk 4 t'=some x→lk 5 t'=some (.int .i64 a)→lk 6 t'=some (.int .i64 ((i:Int)+1)) →
    PtI bs t ⟨t',b⟩∧t.length - fC 6 ⟨t',b⟩<t.length - (i:Int).toNat:=fun g1 g2 t' k0 k2 k3 k4 k5 k6 =>
    ⟨⟨i+1,a,x,dn,k0,k2,k3,k4,k5,k6,by omega,by omega,hda,by rw[gX,g1,g2,hcur];rfl,oq,bf⟩,by rw[ao (σ:=⟨t',b⟩) k6];omega⟩
   have bad:(((t[i].toNat:Int)==123)||((t[i].toNat:Int)==125))=true→xJ t=none:=fun h=>by rw[gX,h];rfl
   (refine aa pp ?_;refine gN (zNg h0 (zNg h2 (zNg h3 (zNg h4 (zNg h5 (zNg h6 hg)))))) ?_)
   refine⟨⟨by omega,by omega⟩,fun g1=>⟨⟨by omega,by omega⟩,fun g2=>?_,fun g2=>⟨⟨by omega,by omega⟩,fin g1 g2 _ h0 h2 h3 h4 h5 rfl⟩⟩,fun g1=>?_⟩
   ·rw[bad (by rw[g2];simp)];exact⟨bf,trivial⟩
   ·rw[bad (by rw[g1];simp)];exact⟨bf,trivial⟩
  ·rw[hp]at pp
   rw[Fu hp,List.drop_drop]at gX
   have fP:=eg hp
   rw[show cZ.length=5 from rfl,List.length_drop]at fP
   rcases oq with⟨rfl,kU,hda0⟩|⟨j,rfl,mM,hj⟩
   ·obtain rfl:dn=[]:=by simpa using kU
    (refine aa pp ?_;refine gN (zNg h0 (zNg h2 (zNg h3 (zNg h4 (zNg h5 (zNg h6 @aO)))))) ?_)
    refine⟨⟨by omega,by omega,by omega⟩,by omega,⟨by unfold maxLen;omega,by omega⟩,⟨by omega,by omega⟩,⟨by omega,by omega⟩,⟨by omega,by omega⟩,
     ⟨i+5,i+5,_,[(t.take i).drop a],h0,h2,h3,rfl,rfl,rfl,by omega,by omega,by simp,?_,.inr ⟨(b++[aw.own [.str ((t.take i).drop a)] 9 1 1 true]).length,rfl,?_,aO _ _⟩,(bf.app _).app _⟩,?_⟩
    ·rw[gX,show (t.take (i+5)).drop (i+5)=[] by simp]
     cases h:xJ (t.drop (i+5)) <;> simp[xJ]at h ⊢ <;> rw[h] <;> rfl
    ·have:=bf.1;simp;omega
    ·rw[ao (k:=.i64) (n:=(i:Int)+4+1) rfl];omega
   ·have ho:∀ X,(b++[X])[j]? = some (.own (dn.map SV.str) 9 1 dn.length true):=fun X=>ad hj [X]
    (refine aa pp ?_;refine gN (zNg h0 (zNg h2 (zNg h3 (zNg h4 (zNg h5 (zNg h6 (zNg @aO ho))))))) ?_)
    have iG:j<b.length:=(zNh.1 hj).1
    refine⟨⟨by omega,by omega,by omega⟩,by omega,⟨by unfold maxLen;omega,by omega⟩,⟨by omega,by omega⟩,⟨by omega,by omega⟩,⟨by omega,by omega⟩,
     ⟨i+5,i+5,_,dn++[(t.take i).drop a],h0,h2,h3,rfl,rfl,rfl,by omega,by omega,by simp;omega,?_,.inr ⟨(b++[aw.own [.str ((t.take i).drop a)] 9 1 1 true]).length,by simp,?_,?_⟩,((bf.app _).set mM _).app _⟩,?_⟩
    ·rw[gX,show (t.take (i+5)).drop (i+5)=[] by simp]
     cases h:xJ (t.drop (i+5)) <;> simp[xJ]at h ⊢ <;> rw[h] <;> simp
    ·have:=bf.1;simp;omega
    ·rw[List.getElem?_append_right (by simp)];simp
    ·rw[ao (k:=.i64) (n:=(i:Int)+4+1) rfl];omega
 ·have j4:i=t.length:=by omega
  subst j4
  rw[List.drop_length,xH,List.take_length]at gX
  rw[gX]
  simp only[Option.map_some]
  rcases oq with⟨rfl,kU,hda0⟩|⟨j,rfl,mM,hj⟩
  ·obtain rfl:dn=[]:=by simpa using kU
   refine gN (zNg h0 (zNg h2 (zNg h3 (zNg h4 (zNg h5 (zNg h6 @aO)))))) ?_
   refine⟨fun h=>absurd h (by simp),fun _=>⟨⟨by omega,by omega⟩,by omega,⟨by unfold maxLen;omega,by omega⟩,(bf.app _).app _,(b++[aw.own [.str (t.drop a)] 9 1 1 true]).length,?_,aO _ _,rfl⟩⟩
   have:=bf.1;simp;omega
  ·have ho:∀ X,(b++[X])[j]? = some (.own (dn.map SV.str) 9 1 dn.length true):=fun X=>ad hj [X]
   refine gN (zNg h0 (zNg h2 (zNg h3 (zNg h4 (zNg h5 (zNg h6 (zNg @aO ho))))))) ?_
   have iG:j<b.length:=(zNh.1 hj).1
   refine⟨fun h=>absurd h (by simp),fun _=>⟨⟨by omega,by omega⟩,by omega,⟨by unfold maxLen;omega,by omega⟩,((bf.app _).set mM _).app _,(b++[aw.own [.str (t.drop a)] 9 1 1 true]).length,?_,?_,?_⟩⟩
   ·have:=bf.1;simp;omega
   ·rw[List.getElem?_append_right (by simp)];simp
   ·simp only[zNk,zNj,zNi]
    rw[show decide ((0:Int)<dn.length)=decide (1<dn.length+(0+1)) from decide_eq_decide.2 ⟨fun h=>by omega,fun h=>by omega⟩]
theorem yC {t:Bytes}{L:List Bytes}(h:xJ t=some L):p7 t=decide (1<L.length):=by
 unfold p7
 rw[h]
 match L with
 | []=>rfl
 | [_]=>rfl
 | _::_::_=>simp
theorem zj (t uri:Bytes)(hu:uri.length≤300000):PC Tryz.V 142 [.str t,.str uri] (.fF [.str (gQ t uri).1,.int .i64 (gQ t uri).2]):=by
 have pe:=kg uri [] (by omega) (by simp)
 have C7:=dB [] uri
 unfold gQ
 generalize aD [] uri=E at pe C7 ⊢
 refine aV 3000 Tryz.func142 rfl Tryz.ntmps142 Tryz.results142 Tryz.call142 (by simp) (by simp[flat,flat.af]) (by simp[flat,flat.af]) ?_
 refine bo ?_
 refine⟨fun h=>?_,fun h=>?_⟩
 ·have h:4096<t.length:=(by simp at h;omega)
  rw[if_pos h]
 have h:¬ 4096<t.length:=(by simp at h;omega)
 rw[if_neg h]
 refine ae (yN t (by omega)) ?_
 rintro r b ⟨bf,hr⟩
 cases hq:xJ t with
 | none =>
   rw[hq]at hr
   subst hr
   refine od ?_
   rw[if_pos (by unfold p7;rw[hq])]
 | some L =>
   rw[hq]at hr
   obtain⟨j,mM,hj,rfl⟩:=hr
   rw[yC hq]
   refine bo ?_
   refine⟨fun h2=>(by rw[if_pos (by simpa using h2)]),fun h2=>?_⟩
   rw[if_neg (by simpa using h2)]
   have hLa:L=iC t:=by
    rw[tpl_all]at hq
    split at hq
    ·cases hq
    ·exact(Option.some.inj hq).symm
   have hLl:∀ x∈L,x.length≤t.length:=by rw[hLa];exact Df t
   have hLc:L.length≤t.length+1:=by rw[hLa];exact Dg t
   clear hLa hq bf h2
   refine az (fun σ=>∃ k:Nat,k≤L.length∧lk 1 σ.t=some (.str uri)∧lk 4 σ.t=some (.str [])∧lk 5 σ.t=some (.int .i64 0)∧lk 8 σ.t=some (.str (dp E (L.take k)))∧lk 21 σ.t=some (.o j L.length)∧lk 22 σ.t=some (.int .i64 L.length)∧lk 23 σ.t=some (.int .i64 k) ∧
    σ.b[j]? = some (.own (L.map SV.str) 9 1 L.length true)∧(dp E (L.take k)).length≤8192) (fun σ=>L.length - fC 23 σ) ⟨0,by omega,rfl,rfl,rfl,rfl,rfl,rfl,rfl,hj,by simp[dp]⟩ ?_
   clear hj
   rintro⟨tt,b⟩ ⟨k,hk,h1,h4,h5,h8,qR,h22,h23,hj,iG⟩
   simp only at h1 h4 h5 h8 qR h22 h23 hj
   rw[ao h23]
   by_cases aC:k<L.length
   ·have hx:(L.map SV.str)[k * 1]? = some (.str L[k]):=by simp[aC]
    have mL:=hLl L[k] (List.getElem_mem aC)
    have htk:=yD (e:=E) aC
    have dM:=Ax E L k aC
    refine gN (zNg h1 (zNg h4 (zNg h5 (zNg h8 (zNg qR (zNg h22 (zNg h23 (zNg hj hx)))))))) ?_
    refine⟨fun _=>⟨⟨by omega,by omega⟩,by simp;omega,fun h0=>?_,fun h0=>?_⟩,fun h=>absurd h (by simp;omega)⟩
    ·have h0:¬ k=0:=by simp at h0;omega
     have dM:=dM h0
     rw[if_neg h0]at htk
     (refine aa pe ?_;refine gN (zNg h1 (zNg h4 (zNg h5 (zNg h8 (zNg qR (zNg h22 (zNg h23 hj))))))) ?_)
     refine⟨by omega,fun hl=>?_,fun hl=>⟨?_,⟨by omega,by omega⟩,⟨k+1,by omega,by rw[htk],rfl,?_⟩,?_⟩⟩
     ·have hl:4096<(dp E (L.take k)++E).length:=by simp only[decide_eq_true_eq]at hl;omega
      rw[zNk]at hl
      rw[if_pos (by omega)]
     ·have hl:(dp E (L.take k)++E).length≤4096:=(by simp only[decide_eq_true_eq,decide_eq_false_iff_not]at hl;omega)
      omega
     ·have hl:(dp E (L.take k)++E).length≤4096:=(by simp only[decide_eq_true_eq,decide_eq_false_iff_not]at hl;omega)
      rw[htk,zNk];omega
     ·rw[ao (k:=.i64) (n:=(k:Int)+1) rfl];omega
    ·have h0:k=0:=by simp at h0;omega
     rw[if_pos h0,List.append_nil]at htk
     refine⟨by omega,⟨by omega,by omega⟩,⟨k+1,by omega,by rw[htk],rfl,?_⟩,?_⟩
     ·rw[htk,zNk,show (dp E (L.take k)).length=0 by rw[h0];rfl];omega
     ·rw[ao (k:=.i64) (n:=(k:Int)+1) rfl];omega
   ·have j4:k=L.length:=by omega
    subst j4
    rw[List.take_length]at h8 iG
    refine gN (zNg h1 (zNg h4 (zNg h5 (zNg h8 (zNg qR (zNg h22 (zNg h23 hj))))))) ?_
    refine⟨fun h=>absurd h (by simp),fun _=>⟨fun hl=>?_,fun hl=>?_⟩⟩
    ·rw[if_pos (by simp only[decide_eq_true_eq]at hl;omega)]
    ·rw[if_neg (by simp only[decide_eq_false_iff_not]at hl;omega)]
def lkS (r t:Bytes):List SV:=[.str r,.str [],.str [],.str t,.ah,.ah]
def Hk (a t:Bytes):List SV:=[.str ([111,116,104,101,114]:List UInt8),.str [],.str [],.str a,.ah,.ah,.str ([108,114,100,100]:List UInt8),.str [],.str [],.str t,.ah,.ah]
theorem AR {bs:List aw}{a t:Bytes}{q:Nat}{m:Bool}(hq:bs[q]? = some (.own (Hk a t) 132 6 2 m)):SC Tryz.V 141 [.agg [.str [],.ah,.ah,.o q 2],.str ([108,114,100,100]:List UInt8)] bs (fun r b=>∃ q1,r=.o q1 1∧Kp bs b∧b[q1]? = some (.own (lkS ([108,114,100,100]:List UInt8) t) 132 6 1 true)):=by
 have ql:=(zNh.1 hq).1
 unfold Hk at hq
 have e1:((([111,116,104,101,114]:List UInt8):Bytes)==([108,114,100,100]:List UInt8))=false:=by decide
 have e2:((([108,114,100,100]:List UInt8):Bytes)==([108,114,100,100]:List UInt8))=true:=by decide
 refine bJ 3000 Tryz.func141 rfl Tryz.ntmps141 Tryz.results141 Tryz.call141 (by simp) (aj bs.length _ (by simp[within,within.ax,ql])) ?_
 refine gL0 ?_
 refine az (fun σ=>lk 1 σ.t=some (.str ([108,114,100,100]:List UInt8))∧lk 9 σ.t=some (.o q 2)∧lk 10 σ.t=some (.int .i64 2)∧((lk 11 σ.t=some (.int .i64 0)∧lk 5 σ.t=some .ah∧σ.b=bs++[.cells [.str [],.ah,.ah,.o q 2] 135 true])∨(lk 11 σ.t=some (.int .i64 1)∧lk 5 σ.t=some .ah∧Kp bs σ.b)∨(lk 11 σ.t=some (.int .i64 2)∧∃ q1,lk 5 σ.t=some (.o q1 1)∧Kp bs σ.b∧σ.b[q1]? = some (.own (lkS ([108,114,100,100]:List UInt8) t) 132 6 1 true)))) (fun σ=>2 - fC 11 σ) ⟨rfl,rfl,rfl,.inl ⟨rfl,rfl,rfl⟩⟩ ?_
 rintro⟨t1,b1⟩ ⟨h1,h9,dH,⟨gj,h5,hb⟩|⟨gj,h5,bf⟩|⟨gj,q1,h5,bf,jY⟩⟩
 ·simp only at h1 h9 dH gj h5 hb
  subst hb
  rw[ao gj]
  refine gL (zNg h1 (zNg h9 (zNg dH (zNg gj (zNg h5 (zNg (ad hq) e1)))))) ?_
  exact⟨by omega,.inr (.inl ⟨rfl,(Kp.refl bs).app _⟩),by rw[ao (k:=.i64) (n:=(0:Int)+1) rfl];omega⟩
 ·simp only at h1 h9 dH gj h5 bf
  have bU:=bf.at hq
  rw[ao gj]
  simp only[cq,↓Xn,↓Xo,↓Xg,↓Xd,↓Xe,↓Xf,Tryz.VΓ,Tryz.Γs,Xp,Xi,Nat.reduceAdd,Nat.reduceSub,Nat.reduceLT,Nat.reduceLeDiff,reduceIte,reduceCtorEq,Nat.reduceEqDiff,implies_true,forall_const,cp,dy,beq_self_eq_true,bne_self_eq_false,Int.reduceBEq,Int.reduceBNe,Int.reduceLT,Int.reduceLE,zNj,zNi,Nat.reduceAdd,zNp,decide_true,decide_false,zNn,zNl,Int.reduceLT,Int.reduceToNat,Nat.zero_mul,h1,h9,dH,gj,h5,bU,e2,Nat.one_mul,Int.reduceAdd]
  exact⟨by unfold maxLen;omega,.inr (.inr ⟨_,rfl,bf.app _,aQ _ _ 2⟩),by rw[ao (k:=.i64) (n:=(2:Int)) rfl];omega⟩
 ·simp only at h1 h9 dH gj h5 bf jY
  rw[ao gj]
  refine gL (zNg h1 (zNg h9 (zNg dH (zNg gj h5)))) ?_
  exact⟨q1,rfl,bf,jY⟩
theorem tD {bs:List aw}{a t uri:Bytes}(hu:uri.length≤300000){q:Nat}{m:Bool}(hq:bs[q]? = some (.own (Hk a t) 132 6 2 m)):SC Tryz.V 79 [.agg [.str [],.ah,.ah,.o q 2],.str uri] bs (fun r b=>∃ (v:cX) (e:Int),Small v∧r=.fF [cR v,.int .i64 e]∧Kp bs b):=by
 have ql:=(zNh.1 hq).1
 have pX:=zj t uri hu
 have pP:=jG (gQ t uri).1
 have hs:=nu (gQ t uri).1
 generalize a7 (gQ t uri).1=z at pP hs
 generalize gQ t uri=y at pX pP
 obtain⟨v,f⟩:=z
 obtain⟨x,e⟩:=y
 simp only at pX pP hs
 unfold cR at pP
 refine bJ 3000 Tryz.func79 rfl Tryz.ntmps79 Tryz.results79 Tryz.call79 (by simp) (aj bs.length _ (by simp[within,within.ax,ql])) ?_
 unfold cR
 refine gL0 ?_
 refine ae (AR (ad hq _)) ?_
 rintro r b ⟨q1,rfl,hk,jY⟩
 have bM:=((Kp.refl bs).app [.cells [.str [],.ah,.ah,.o q 2] 135 true,.cells [.str [],.int .i64 0,.str [],.str [],.str [],.bool false,.bool false] 35 true]).trans hk
 have f1:=hk.at (aQ bs _ 1)
 have hf1l:=(zNh.1 f1).1
 refine gL0 ?_
 refine az (fun σ=>lk 1 σ.t=some (.str uri)∧lk 4 σ.t=some (.p (bs.length+1) 0)∧lk 13 σ.t=some (.o q1 1)∧lk 14 σ.t=some (.int .i64 1)∧(lk 15 σ.t=some (.int .i64 0)∧σ.b=b∨lk 15 σ.t=some (.int .i64 1)∧Kp b σ.b)) (fun σ=>1 - fC 15 σ) ⟨rfl,rfl,rfl,rfl,.inl ⟨rfl,rfl⟩⟩ ?_
 rintro⟨t1,b1⟩ ⟨h1,h4,mO,sd,⟨wK,hb⟩|⟨wK,mF⟩⟩
 ·simp only at h1 h4 mO sd wK hb
  subst hb
  rw[ao wK]
  unfold lkS at jY
  have fw:∀ (l:List aw) X,(b1++l).set (bs.length+1) X=b1.set (bs.length+1) X++l:=fun l X=>aK hf1l l X
  have Ai:=fun X l=>bN hf1l X l
  have hkS:=fun X l=>(bM.set (j:=bs.length+1) (by omega) X).app l
  cases ht:(t==[])
  ·refine gL (zNg h1 (zNg h4 (zNg mO (zNg sd (zNg wK (zNg jY ht)))))) ?_
   (refine aa (pX) ?_;refine gL (zNg h1 (zNg h4 (zNg mO (zNg sd (zNg wK (zNg jY ht)))))) ?_)
   cases he:(e != 0) <;> cases hf:(f != 0)
   ·(refine aa (pP) ?_;refine gL (zNg h1 (zNg h4 (zNg mO (zNg sd (zNg wK (zNg jY (zNg ht (zNg he (zNg hf (zNg (ad f1) (zNg fw Ai))))))))))) ?_)
    exact⟨v,0,hs,rfl,hkS _ _⟩
   all_goals
    (refine aa (pP) ?_;refine gL (zNg h1 (zNg h4 (zNg mO (zNg sd (zNg wK (zNg jY (zNg ht (zNg he (zNg hf (zNg (ad f1) (zNg fw Ai))))))))))) ?_)
    exact⟨cX.none,_,Small.CX (by simp),rfl,hkS _ _⟩
  ·refine gL (zNg h1 (zNg h4 (zNg mO (zNg sd (zNg wK (zNg jY ht)))))) ?_
   exact⟨by omega,.inr ⟨rfl,(Kp.refl _).app _⟩,by rw[ao (k:=.i64) (n:=(0:Int)+1) rfl];omega⟩
 ·simp only at h1 h4 mO sd wK mF
  rw[ao wK]
  have f1':=mF.at f1
  have kT:=(zNh.1 f1').1
  have hsX:∀ X,(b1.set (bs.length+1) X)[bs.length+1]? = some X:=fun X=>zNq kT
  refine gL (zNg h1 (zNg h4 (zNg mO (zNg sd (zNg wK (zNg f1' hsX)))))) ?_
  exact⟨cX.none,_,Small.CX (by simp),rfl,(bM.trans mF).set (by omega) _⟩
theorem tw:∀ (m:Nat)(s:Bytes),s.length≤m→(encode 50 s).length≤2 * s.length+20
 | 0,s,h=>by rw[List.length_eq_zero_iff.1 (Nat.le_zero.1 h),gZ];simp
 | m+1,s,h=>by
   by_cases hs:s=[]
   ·rw[hs,gZ];simp
   ·have h1:=jd (size:=50) hs
    have h3:=tw m (s.drop (cu 50 s)) (by simp;omega)
    rw[sh hs]
    simp only[zNk,List.length_drop,List.length_take]at h3 ⊢
    have hc:crlf.length=2:=rfl
    by_cases hl:50≤s.length
    ·have e:cu 50 s=50:=by unfold cu;omega
     have e2:(ll 50).length=2:=by rw[nK (by omega),nK (by omega),jq];rfl
     rw[e]at h3 ⊢
     rw[e2]
     omega
    ·have e:cu 50 s=s.length:=by unfold cu;omega
     have h2:(ll s.length).length≤2:=by
      by_cases h0:s.length=0
      ·rw[h0,jq];simp
      ·rw[nK (by omega)]
       by_cases h1:s.length / 16=0
       ·rw[h1,jq];simp
       ·rw[nK (by omega),show s.length / 16 / 16=0 by omega,jq];simp
     rw[e]at h3 ⊢
     rw[List.drop_length,gZ]
     simp only[zNj,zNi]
     omega
theorem EH {st:Nat}(jn:st≤1000000000)(kd:Bytes)(fs:List (Bytes × Bytes))(body:Bytes)(hb:body.length≤1000000000)(ch:Bool):(FG st kd fs body ch).length≤kd.length+dc fs+4 * fs.length+2 * body.length+400:=by
 have key:∀ fs:List (Bytes × Bytes),(eb st fs body ch).length≤dc fs+4 * fs.length+2 * body.length+300:=fun fs=>by
  cases ch
  ·have:=jE jn fs body hb
   omega
  ·have h1:=ga st jn (fs++[(teN,chN)])
   have h2:=tw _ body (Nat.le_refl _)
   rw[eM]at h1
   simp only[dc,zNk,zNj,zNi]at h1
   have jL:teN.length=17:=rfl
   have hcl2:chN.length=7:=rfl
   unfold eb
   simp only[if_true,zNk]
   omega
 unfold FG
 split
 ·have:=key fs;omega
 ·have:=key ((([99,111,110,116,101,110,116,45,116,121,112,101]:List UInt8),kd)::fs)
  simp only[dc,zNj,zNi]at this
  omega
theorem Ay (d:fQ):Small (eS d).1:=by
 unfold eS
 split
 ·exact Small.CX (by simp)
 rename_i h
 split
 ·exact Small.CX (by simp)
 unfold la
 split
 ·exact Small.CX (by simp)
 rename_i h2
 have h1:=ck (v7 (d:=d) (by simpa using h)).1
 have h3:=sw ⟨(bw d).1.1,(bw d).1.2,lM (aA 58 d.id).tail,[],[],false,false⟩ (fun _=>rfl) (fun _=>rfl)
 simp only[zNi]at h3
 exact⟨by simp only[zNi];omega,by simp only;omega,by simp only;omega⟩
theorem rL (s:Bytes):IdB (bY s).1:=by
 by_cases h:(bY s).2=0
 ·have hk:=Ic (s:=s) (i:=(bY s).1) (by rw[← h])
  have h1:=ck hk.2.1
  have h2:(bY s).1.text.length≤4096:=by
   apply Nat.le_of_not_lt
   intro hl
   have h1:=hk.1
   rw[show bY (bY s).1.text=(jg.none,5) from if_pos hl]at h1
   simp at h1
  exact⟨h2,by omega,by omega,by omega⟩
 ·rw[BU s h];exact⟨by simp[jg.none],by simp[jg.none],by simp[jg.none],by simp[jg.none]⟩
theorem mw (L:List gz):(L.flatMap ac).all Vc.one=true:=by
 induction L with
 | nil=>rfl
 | cons a L ih=>rw[List.flatMap_cons,List.all_append,ih];rfl
def CQ:OT:=(.bO 3 (.bO 5 (.alt (.one 0 (.alt (.one 1 (.alt (.one 2 (.alt (.one 4 (.one 6 (.one 7 (.one 8 (.bO 9 .leaf))))) (.one 6 (.one 4 (.one 7 (.one 8 (.bO 9 .leaf))))))) (.alt (.one 4 (.alt (.one 2 (.one 6 (.one 7 (.one 8 (.bO 9 .leaf))))) (.one 6 (.alt (.one 2 (.one 7 (.one 8 (.bO 9 .leaf)))) (.one 7 (.one 2 (.one 8 (.bO 9 .leaf)))))))) (.one 6 (.alt (.one 2 (.one 4 (.one 7 (.one 8 (.bO 9 .leaf))))) (.one 4 (.alt (.one 2 (.one 7 (.one 8 (.bO 9 .leaf)))) (.one 7 (.one 2 (.one 8 (.bO 9 .leaf))))))))))) (.one 4 (.one 1 (.alt (.one 2 (.one 6 (.one 7 (.one 8 (.bO 9 .leaf))))) (.one 6 (.alt (.one 2 (.one 7 (.one 8 (.bO 9 .leaf)))) (.one 7 (.one 2 (.one 8 (.bO 9 .leaf))))))))))) (.one 4 (.one 0 (.one 1 (.alt (.one 2 (.one 6 (.one 7 (.one 8 (.bO 9 .leaf))))) (.one 6 (.alt (.one 2 (.one 7 (.one 8 (.bO 9 .leaf)))) (.one 7 (.one 2 (.one 8 (.bO 9 .leaf)))))))))))))
def AnsR (bs:List aw)(i:Nat)(n:Nat)(r:SV)(b:List aw):Prop:=∃ (A:List gz) (L':List Int) (q:Nat),r=.o q A.length∧0<A.length∧A.length≤n∧bs.length≤q∧b[q]? = some (.own (A.flatMap ac) 33 7 A.length true)∧(∀ a∈A,oB a)∧aR b i L'∧er i bs b
theorem sc_jrd {bs:List aw}{a t:Bytes}{q:Nat}(hq:bs[q]? = some (.own (Hk a t) 132 6 2 true))(ha:a.length≤20000)(ht:t.length≤20000):SC Tryz.V 77 [.agg [.str [],.ah,.ah,.o q 2]] bs (fun r b=>∃ v,r=.agg (tv v)∧Kp (bs.set q (.own (Hk a t) 132 6 2 false)) b∧Tr b 4 v) :=
 j9 hq (fG (L:=[⟨([111,116,104,101,114]:List UInt8),[],[],a⟩,⟨([108,114,100,100]:List UInt8),[],[],t⟩]) [] (by simp) (.inl ⟨rfl,rfl⟩) (by simp) (by simp) (.inr ⟨q,rfl,zNq (zNh.1 hq).1⟩) (by simp) (fun l hl=>by
  rcases zNx.1 hl with rfl|hl
  ·exact⟨by simp,by simp,by simp,ha⟩
  ·rw[zNs.1 hl];exact⟨by simp,by simp,by simp,ht⟩))
theorem AU {bs:List aw}{i:Nat}{L:List Int}(h:aR bs i L)(id:jg)(hid:IdB id){x0:SV}{N:List Bytes}(hx0:Rs bs x0 N)(hN:N.length≤8)(Cj:Le 4096 N):SC Tryz.V 31 [.p i 0,iM id,x0] bs (AnsR bs i 30):=by
 have fD:i<bs.length:=by obtain⟨x,hi,-⟩:=h;exact(zNh.1 hi).1
 have zB:=hx0.within
 refine o0 (fun n=>if n=20 then .all CQ else if n=28 then .ord [0,1,2,3,5,6,7,8,4,9,10,11] else .ord []) 3000 Tryz.func31 rfl Tryz.ntmps31 Tryz.results31 Tryz.call31 (by simp) (aj bs.length _ (by simp[within,within.ax,iM,fD,zB])) ?_
 have sDoc:=fun X=>AT (bs:=bs++X) (h.app X) id hid.1 (hx0.ro ((Ro.refl bs).app X)) hN Cj
 have pQ:=Bq id hid
 have pM:=u6 id
 have pH:=DL id
 have hM:Small (mJ id ([47,46,119,101,108,108,45,107,110,111,119,110,47,104,111,115,116,45,109,101,116,97,46,106,115,111,110]:List UInt8)):=tC hid (by simp)
 have hH:Small (mJ id ([47]:List UInt8)):=tC hid (by simp)
 generalize mJ id _=um at pM hM
 generalize mJ id _=uh at pH hH
 have pD:=jI id.text
 have pT:=sT (bd id.text).1 (BQ id.text)
 have hT:=Ay (bd id.text).1
 generalize eS (bd id.text).1=zt at pT hT
 generalize bd id.text=zd at pD pT
 obtain⟨d,ed⟩:=zd
 obtain⟨ut,et⟩:=zt
 obtain⟨uq,eq,hQ,pQ⟩:=pQ
 simp only at pD pT hT
 unfold iM at sDoc pQ pM pH
 unfold cR at pQ pM pH pT
 unfold mH at pD pT
 unfold iM
 refine dz ?_
 refine ae (sDoc _) ?_
 rintro r b ⟨body,kd,L1,rfl,qN,IG,xo,cN⟩
 have oz:=cN.at (aI bs _) (by omega)
 have Gn:=((er.refl i bs).app _).trans cN
 clear sDoc
 refine dz ?_
 refine ae (Dw xo) ?_
 rintro r b2 ⟨fs,L2,q,rfl,Eb,hf2,hfs,hq,bU,Gq,bM⟩
 have oz:=bM.at oz (by omega)
 replace hq:b.length≤q:=hq
 have hK2:=Gn.trans bM
 have hbl1:=Gn.1
 refine dz ?_
 refine ae (dr Gq 3 (by omega)) ?_
 rintro r b3 ⟨v,L3,rfl,hv,r8,eh⟩
 have oz:=eh.at oz (by omega)
 have tO:=hK2.trans eh
 have bU:=eh.at bU (by omega)
 refine dz ?_
 refine ae (qh (bs:=b3) (x:=.o q fs.length) (fs:=fs) (.inr ⟨q,true,rfl,Eb,bU⟩) (by omega) (by omega) 200 (by omega) kd (by omega) body (by omega) (v==0)) ?_
 rintro r b4 ⟨rfl,rfl⟩
 have F3:=EH (st:=200) (by omega) kd fs body (by omega) (v==0)
 generalize FG 200 kd fs body (v==0)=raw at F3 ⊢
 replace F3:raw.length≤3000000:=by omega
 clear bU qN IG cN bM eh Gn hK2 xo Gq hfs Eb hf2 hv
 have hbl3:=tO.1
 have wk:(id.kind==4)=true∨(id.kind==4)=false:=by cases id.kind==4 <;> simp
 rcases wk with wk|wk
 ·refine gA (zNg oz wk) ?_
  (refine aa (pD) ?_;refine dz ?_)
  (refine aa (pT) ?_;refine dz ?_)
  refine ae (dr (r8.app _) 12 (by omega)) ?_
  rintro r b5 ⟨v5,L5,rfl,hv5,oN,ow⟩
  have kV:=(tO.app _).trans ow
  have hbu:=ow.at (aQ b4 _ 1) (by omega)
  cases w5:(v5==1)
  ·refine gA (zNg w5 hbu) ?_
   refine ae (gS oN ut hT raw F3) ?_
   rintro r b6 ⟨A,L6,q,rfl,h0,h1,hq,bU,hA,G6,kx⟩
   refine dz ?_
   exact⟨A,L6,q,rfl,h0,by omega,by have:=kV.1;omega,bU,hA,G6,kV.trans kx⟩
  ·refine gA (zNg w5 hbu) ?_
   refine ae (uM oN ut hT) ?_
   rintro r b6 ⟨a,L6,rfl,hA,G6,kx⟩
   have G4:=kV.trans kx
   unfold ac
   refine dz ?_
   exact⟨by omega,[a],L6,_,rfl,by simp,by simp,by have:=G4.1;omega,aI _ _,(fun x hx=>by rw[zNs.1 hx];exact hA),G6.app _,G4.app _⟩
 refine gA (zNg oz wk) ?_
 (refine aa (pQ) ?_;refine gA (ad oz) ?_)
 (refine aa (pM) ?_;refine gA (ad oz) ?_)
 (refine aa (pH) ?_;refine gA (ad oz) ?_)
 refine ae (dr (r8.app _) 8 (by omega)) ?_
 rintro r b5 ⟨v5,L5,rfl,hv5,oN,ow⟩
 have kV:=(tO.app _).trans ow
 have hbi5:=ow.at (ad oz _) (by omega)
 have Ec:=ow.at (aI b4 _) (by omega)
 have hbm5:=ow.at (aQ b4 _ 1) (by omega)
 have hbh5:=ow.at (aQ b4 _ 2) (by omega)
 have hbl5:=ow.1
 simp only[zNk,zNj,zNi,zNB]at hbl5
 clear ow oz r8 tO
 have w1:(v5==1)=true∨(v5==1)=false:=by cases v5==1 <;> simp
 have w2:(v5==2)=true∨(v5==2)=false:=by cases v5==2 <;> simp
 have w3:(v5==3)=true∨(v5==3)=false:=by cases v5==3 <;> simp
 have w4:(v5==4)=true∨(v5==4)=false:=by cases v5==4 <;> simp
 rcases w1 with w1|w1
 ·refine gA (zNg w1 Ec) ?_
  refine ae (uM oN uq hQ) ?_
  rintro r b6 ⟨a,L6,rfl,hA,G6,kx⟩
  have G4:=kV.trans kx
  unfold ac
  refine dz ?_
  exact⟨by omega,[a],L6,_,rfl,by simp,by simp,by have:=G4.1;omega,aI _ _,(fun x hx=>by rw[zNs.1 hx];exact hA),G6.app _,G4.app _⟩
 have w23:((v5==2)=true∨((v5==2)=false∧(v5==3)=true))∨((v5==2)=false∧(v5==3)=false):=by cases v5==2 <;> cases v5==3 <;> simp
 rcases w23 with w23|⟨w2,w3⟩
 ·rcases w23 with w2|⟨w2,w3⟩
  rotate_left
  refine gA (zNg w1 (zNg w2 w3)) ?_
  rotate_left
  have w3:(v5==3)=false:=by simp at w2 ⊢;omega
  refine gA (zNg w1 w2) ?_
  all_goals
   refine⟨by omega,ae (fR oN [([104,116,116,112,115,58,47,47,101,46,101,120,97,109,112,108,101,47,108,114,100,100,63,114,61,123,117,114,105,125]:List UInt8),([104,116,116,112,115,58,47,47,97,46,101,120,97,109,112,108,101,47,123,117,114,105,125]:List UInt8),([104,116,116,112,58,47,47,101,46,101,120,97,109,112,108,101,47,123,117,114,105,125]:List UInt8),([104,116,116,112,115,58,47,47,101,46,101,120,97,109,112,108,101,47,123,120,125]:List UInt8),([]:List UInt8)] (n:=5) (m:=100) rfl (by omega) (by decide) rfl) ?_⟩
   rintro r b6 ⟨t,L6,rfl,ht,G6,kx⟩
   have G4:=kV.trans kx
   have hbi6:=kx.at hbi5 (by omega)
   have hbq6:=kx.at Ec (by omega)
   have hbm6:=kx.at hbm5 (by omega)
   have hbl6:=kx.1
   clear kx hbi5 Ec hbm5 hbh5
   refine dz ?_
   have htl:t.length≤20000:=by omega
   refine⟨by omega,ae (sc_jrd (aI b6 _) (by simp) htl) ?_⟩
   rintro r b7 ⟨tr,rfl,Gc,hT7⟩
   simp only[ly,List.set_cons_zero]at Gc
   have hj7:=Gc.at (aQ b6 _ 1)
   have hl7:=Gc.at (aI b6 _)
   have hbi7:=Gc.at (ad hbi6 _)
   have hbq7:=Gc.at (ad hbq6 _)
   have hbm7:=Gc.at (ad hbm6 _)
   have hK7:=(G4.app _).trans (er.of Gc)
   have hD7:aR b7 i L6:=(G6.app _).ro (Gc.2 i (by have:=G4.1;simp;omega)) Gc.ro
   have hbl7:=Gc.1
   simp only[zNk,zNj,zNi,zNB]at hbl7
   obtain⟨-,-,t3,t4⟩:=hT7.lb
   have BY:(one tr.xk&&one tr.xi)=true:=by rw[t3,t4];rfl
   have sW:=gn (by omega) hT7
   clear Gc hbi6 hbq6 hbm6 G6 t3 t4
   unfold tv at sW ⊢
   refine gA BY ?_
   refine ae sW ?_
   rintro r b8 ⟨s,e,rfl,hs,hk8⟩
   have hj8:=hk8.at hj7
   have hl8:=hk8.at hl7
   have Gk:=hk8.at hbi7
   have Gi:=hk8.at hbq7
   have Gj:=hk8.at hbm7
   have hK8:=hK7.trans (er.of hk8)
   have hD8:aR b8 i L6:=hD7.ro (hk8.2 i (by have:=hK7.1;omega)) hk8.ro
   have hbl8:=hk8.1
   clear sW hk8 hj7 hl7 hbi7 hbq7 hbm7 hD7 hT7 BY
   refine dz ?_
   have pMi:=fun B=>my (bs:=B) uq hQ.fair
   have ID:=hQ.G9 (raw:=eb 404 [] [] false) (by have:=jE (st:=404) (by omega) [] [] (by simp);simp[dc]at this;omega)
   have pRw:=fun B=>qh (bs:=B) (x:=.ah) (fs:=[]) (.inl ⟨rfl,rfl,rfl⟩) (by simp) (by simp[dc]) 200 (by omega) ([97,112,112,108,105,99,97,116,105,111,110,47,106,114,100,43,106,115,111,110]:List UInt8) (by simp) s (by omega) false
   have hrw:=EH (st:=200) (by omega) ([97,112,112,108,105,99,97,116,105,111,110,47,106,114,100,43,106,115,111,110]:List UInt8) [] s (by omega) false
   generalize FG 200 ([97,112,112,108,105,99,97,116,105,111,110,47,106,114,100,43,106,115,111,110]:List UInt8) [] s false=rj at pRw hrw
   replace hrw:rj.length≤3000000:=by simp[dc]at hrw;omega
   generalize cB uq (eb 404 [] [] false)=mi at pMi ID
   refine jC (fun σ=>lk 0 σ.t=some (.p i 0)∧lk 4 σ.t=some (.p bs.length 0)∧lk 9 σ.t=some (.str raw)∧lk 21 σ.t=some (.p (b6.length+1) 0)∧σ.b[bs.length]? = b8[bs.length]? ∧ σ.b[b6.length]? = b8[b6.length]? ∧ σ.b[b6.length+1]? = b8[b6.length+1]? ∧ ∃ (A:List gz) (L':List Int) (q:Nat),lk 24 σ.t=some (.o q A.length)∧0<A.length∧A.length≤12∧b8.length≤q∧σ.b[q]? = some (.own (A.flatMap ac) 33 7 A.length true)∧(∀ a∈A,oB a)∧aR σ.b i L'∧er i bs σ.b) (by kernel_rfl) (fun E' k'=>?_) ?_
   ·simp only[cq,↓Xn,↓Xo,↓Xg,↓Xd,↓Xe,↓Xf,Tryz.VΓ,Tryz.Γs,Xp,Xi,Nat.reduceAdd,Nat.reduceSub,Nat.reduceLT,Nat.reduceLeDiff,reduceIte,reduceCtorEq,Nat.reduceEqDiff,implies_true,forall_const,cp,dy,beq_self_eq_true,bne_self_eq_false,Int.reduceBEq,Int.reduceBNe,Int.reduceLT,Int.reduceLE,CQ,Gi,Gj]
    repeat' first
     | (refine ae (pMi _) ?_
        rintro r B ⟨rfl,hB⟩
        cases hB.symm
        unfold ac
        refine gA (zNg Gi (zNg Gj (zNg (ad Gi) (ad Gj)))) ?_)
     | (refine ae (pRw _) ?_
        rintro r B ⟨rfl,hB⟩
        cases hB.symm
        refine gA (zNg Gi (zNg Gj (zNg (ad Gi) (ad Gj)))) ?_)
     | refine zNg ?_ ?_
    all_goals first
     | omega
     | (refine ae (gS hD8 um hM rj hrw) ?_
        rintro r b9 ⟨A,L9,q,rfl,rp,C8,hq,bU,oO,Gp,vN⟩
        have hal:=dO A
        refine gA (zNg (ad bU) hal) ?_
        refine⟨by omega,⟨mw A,by unfold maxLen;omega,by omega⟩,(ad (vN.at Gk (by omega)) _).trans Gk.symm,(ad (vN.at hl8 (by omega)) _).trans hl8.symm,(ad (vN.at hj8 (by omega)) _).trans hj8.symm,mi::A,L9,b9.length+1,by simp[zNA],by simp,by simp;omega,by have:=vN.1;omega,?_,?_,Gp.app _,(hK8.trans vN).app _⟩
        ·rw[aQ];simp[ac,zNA] <;> rfl
        ·intro a ha
         rcases zNx.1 ha with rfl|ha
         ·exact ID
         ·exact oO a ha)
     | (refine ae (gS (hD8.app _) um hM rj hrw) ?_
        rintro r b9 ⟨A,L9,q,rfl,rp,C8,hq,bU,oO,Gp,vN⟩
        have hal:=dO A
        have aC:=vN.at (aI b8 _) (by have:=hK8.1;omega)
        refine gA (zNg bU (zNg aC hal)) ?_
        have hbl9:=vN.1
        simp only[zNk,zNj,zNi,zNB]at hbl9
        have mE:=(hK8.app _).trans vN
        refine⟨⟨mw A,by unfold maxLen;omega,by omega⟩,(ad (ak (vN.at (ad Gk _) (by omega)) (by omega) _) _).trans Gk.symm,(ad (ak (vN.at (ad hl8 _) (by omega)) (by omega) _) _).trans hl8.symm,(ad (ak (vN.at (ad hj8 _) (by omega)) (by omega) _) _).trans hj8.symm,mi::A,L9,b9.length,by simp[zNA],by simp,by simp;omega,by omega,?_,?_,(Gp.set (by omega) aC _).app _,(mE.fu (by omega) _).app _⟩
        ·rw[show b9.length=(b9.set b8.length .gone).length by simp,aI];simp[ac,zNA] <;> rfl
        ·intro a ha
         rcases zNx.1 ha with rfl|ha
         ·exact ID
         ·exact oO a ha)
   ·rintro⟨tt,bb⟩ ⟨h0,h4,h9,qR,e1,e2,e3,A,L',q,oP,rp,hA12,hq,bU,oO,hD,hK⟩
    simp only at h0 h4 h9 qR e1 e2 e3 oP bU hD hK
    rw[Gk]at e1
    rw[hl8]at e2
    rw[hj8]at e3
    have hK8':=hK8.1
    clear Gk hl8 hj8 pMi pRw Gi Gj hD8 hK8
    refine gA (zNg h0 (zNg h4 (zNg h9 (zNg qR (zNg oP (zNg e1 e3)))))) ?_
    refine ae (tD (a:=([104,116,116,112,115,58,47,47,122,46,101,120,97,109,112,108,101,47,123,117,114,105,125]:List UInt8)) (t:=t) (by have:=hid.1;omega) e2) ?_
    rintro r b9 ⟨v,e,hv,rfl,vN⟩
    have IX:=vN.at bU
    have I2:=hK.trans (er.of vN)
    have Gp:aR b9 i L':=hD.ro (vN.2 i (by have:=hK.1;simp only;omega)) vN.ro
    unfold cR
    have we:(e==0)=true∨(e==0)=false:=by cases e==0 <;> simp
    have hal:=dO A
    rcases we with we|we
    ·refine gA (zNg h0 (zNg h4 (zNg h9 (zNg qR (zNg oP we))))) ?_
     refine ae (gS (Gp.app _) v hv raw F3) ?_
     rintro r b10 ⟨A2,L10,q2,rfl,Gs,Gr,qH,gY,r9,hD10,D7⟩
     have Ci:=D7.at (ad IX _) (by have:=hK.1;omega)
     have hal2:=dO A2
     refine gA (zNg h0 (zNg h4 (zNg h9 (zNg qR (zNg oP (zNg Ci (zNg gY (zNg hal hal2)))))))) ?_
     refine⟨⟨mw A2,by unfold maxLen;omega,by omega⟩,A++A2,L10,b10.length,by simp,by simp;omega,by simp;omega,by have:=(I2.app [.cells [.str v.host,.int .i64 v.port,.str v.path,.str v.query,.str v.fragment,.bool v.aN,.bool v.aZ] 35 true]).1;have:=D7.1;omega,?_,?_,(hD10.set (by have:=hK.1;omega) Ci _).app _,((((I2.app _).trans D7).fu (by have:=hK8';omega) _).app _)⟩
     ·rw[show b10.length=(b10.set q .gone).length by simp,aI];simp
     ·intro a ha
      rcases zNt.1 ha with ha|ha
      ·exact oO a ha
      ·exact r9 a ha
    ·refine gA (zNg h0 (zNg h4 (zNg h9 (zNg qR (zNg oP we))))) ?_
     exact⟨A,L',q,rfl,rp,by omega,by omega,ad IX _,oO,Gp.app _,I2.app _⟩
 ·rcases w4 with w4|w4
  ·obtain⟨nB,G6,kx,sO⟩:=v8 (oN.app [.own (([([104,116,116,112,115,58,47,47,101,46,101,120,97,109,112,108,101,47,108,105,110,107]:List UInt8),([47,104,101,114,101]:List UInt8),([120,63,121]:List UInt8),([104,116,116,112,58,47,47,101,46,101,120,97,109,112,108,101,47]:List UInt8)]:List Bytes).map .str) 9 1 4 true]) (m:=4) (by omega) rfl (aI b5 _) (by omega)
   have pw:=zs (T:=[([104,116,116,112,115,58,47,47,101,46,101,120,97,109,112,108,101,47,108,105,110,107]:List UInt8),([47,104,101,114,101]:List UInt8),([120,63,121]:List UInt8),([104,116,116,112,58,47,47,101,46,101,120,97,109,112,108,101,47]:List UInt8)]) (L:=L5) (by simp)
   rw[show ([([104,116,116,112,115,58,47,47,101,46,101,120,97,109,112,108,101,47,108,105,110,107]:List UInt8),([47,104,101,114,101]:List UInt8),([120,63,121]:List UInt8),([104,116,116,112,58,47,47,101,46,101,120,97,109,112,108,101,47]:List UInt8)]:List Bytes).length=4 from rfl]at pw
   generalize ([([104,116,116,112,115,58,47,47,101,46,101,120,97,109,112,108,101,47,108,105,110,107]:List UInt8),([47,104,101,114,101]:List UInt8),([120,63,121]:List UInt8),([104,116,116,112,58,47,47,101,46,101,120,97,109,112,108,101,47]:List UInt8)]:List Bytes).getD _ _=t at sO pw
   have G4:=(kV.app _).trans kx
   have hbi6:=kx.at (ad hbi5 _) (by omega)
   have hbq6:=kx.at (ad Ec _) (by omega)
   have hbm6:=kx.at (ad hbm5 _) (by omega)
   have hbh6:=kx.at (ad hbh5 _) (by omega)
   have hbl6:=kx.1
   have hw:=WL.of (t:=t) (by simpa using pw)
   have htl:t.length≤100:=hw.tn
   simp only[zNk,zNj,zNi,zNB]at hbl6
   clear kx hbi5 Ec hbm5 hbh5
   refine gA (zNg w1 (zNg w2 (zNg w3 w4))) ?_
   refine⟨by omega,ae sO ?_⟩
   rintro r b6 ⟨rfl,hB⟩
   cases hB.symm
   have pMi:=fun B u hu=>my (bs:=B) u hu
   have ID:=fun(u:cX) (hu:Small u)=>hu.G9 (raw:=eb 404 [] [] false) (by have:=jE (st:=404) (by omega) [] [] (by simp);simp[dc]at this;omega)
   unfold wlT at hw
   simp only[List.cons_append,zNz]at hw
   refine dz ?_
   refine⟨by omega,by omega,by omega,Be (by kernel_rfl),?_⟩
   have hwl:=hw.len
   generalize (60::(t++[62,59,32,114,101,108,61,34,108,114,100,100,32,120,34]):Bytes)=wt at hw hwl ⊢
   have hrw:=jE (st:=200) (by omega) [(([108,105,110,107]:List UInt8),wt)] [] (by simp)
   simp only[dc,zNj,zNi]at hrw
   have pR:=fun B (hB:B[nB.length]? = _)=>fj (bs:=B) (x:=.o nB.length 1) (fs:=[(([108,105,110,107]:List UInt8),wt)]) (.inr ⟨nB.length,true,rfl,by simp,hB⟩) (by simp) (by simp[dc];omega) 200 (by omega) [] (by simp) false
   have pA:=dC uh hH.fair (eb 200 [(([108,105,110,107]:List UInt8),wt)] [] false)
   have hA2:=hH.G9 (raw:=eb 200 [(([108,105,110,107]:List UInt8),wt)] [] false) (by omega)
   generalize eb 200 [(([108,105,110,107]:List UInt8),wt)] [] false=rw at pR pA hA2
   generalize hmq:cB uq (eb 404 [] [] false)=mq
   generalize iX:cB um (eb 404 [] [] false)=mm
   have hmq2:=ID uq hQ
   have hmm2:=ID um hM
   have pMq:=fun B=>pMi B uq hQ.fair
   have pMm:=fun B=>pMi B um hM.fair
   rw[hmq]at hmq2 pMq
   rw[iX]at hmm2 pMm
   clear ID pMi
   generalize cB uh rw=ma at pA hA2
   unfold uc ac at pA
   refine gA (ad hbq6) ?_
   refine aS [] (pMq _) (fun _ _ _=>rfl) ?_
   unfold ac
   refine gA (ad hbm6) ?_
   refine aS [] (pMm _) (fun _ _ _=>rfl) ?_
   unfold ac
   refine gA (ad hbh6) ?_
   refine aS [] (pR _ (aI nB _)) (fun _ _ _=>rfl) ?_
   refine dz ?_
   (refine aW (pA) ?_;refine gA (ad hbh6) ?_)
   have z:∀ j k,j≤2→(b4.length+j=nB.length+k)=False:=fun j k hj=>eq_false (by omega)
   have z1:=fun k=>z 1 k (by omega)
   have z2:=fun k=>z 2 k (by omega)
   have z0:∀ k,(b4.length=nB.length+k)=False:=fun k=>eq_false (by omega)
   refine⟨by omega,by omega,⟨by unfold maxLen;omega,by omega⟩,?_,ae (wO hH hw (aI nB _)) ?_⟩
   ·refine bE (fun n=>if n=nB.length+1 then 1 else if n=nB.length+2 then 2 else if n=nB.length+3 then 3 else 0) ?_
    simp only[zNC,List.map_nil,cM,dZ,z0,z1,z2,eq_self,if_true,if_false,Nat.add_left_cancel_iff,Nat.reduceEqDiff]
    exact av (by kernel_rfl)
   rintro r b9 ⟨v,e,hv,rfl,vN⟩
   have IX:=vN.at (aQ nB _ 3)
   have I2:=(G4.app _).trans (er.of vN)
   have Gp:aR b9 i _:=(G6.app _).ro (vN.2 i (by have:=G4.1;simp;omega)) vN.ro
   have hbl9:=vN.1
   simp only[zNk,zNj,zNi,zNB]at hbl9
   have E6:∀ a∈[mq,mm,ma],oB a:=fun a ha=>by
    simp only[zNx,List.not_mem_nil,or_false]at ha
    rcases ha with rfl|rfl|rfl
    ·exact hmq2
    ·exact hmm2
    ·exact hA2
   unfold cR
   have we:(e==0)=true∨(e==0)=false:=by cases e==0 <;> simp
   rcases we with we|we
   ·refine gA we ?_
    refine ae (gS (Gp.app _) v hv raw F3) ?_
    rintro r b10 ⟨A2,L10,q2,rfl,Gs,Gr,qH,gY,r9,hD10,D7⟩
    have Ci:=D7.at (ad IX _) (by have:=G4.1;omega)
    have hal2:=dO A2
    have hbl10:=D7.1
    simp only[zNk,zNj,zNi,zNB]at hbl10
    refine gA (zNg Ci (zNg gY hal2)) ?_
    refine⟨⟨mw A2,by unfold maxLen;omega,by omega⟩,[mq,mm,ma]++A2,L10,b10.length,by(simp[zNA];omega),by simp,by simp;omega,by omega,?_,?_,(hD10.set (by omega) Ci _).app _,((((I2.app _).trans D7).fu (by omega) _).app _)⟩
    ·rw[show b10.length=(b10.set (nB.length+3) .gone).length by simp,aI];simp[ac,zNA];omega
    ·intro a ha
     rcases zNt.1 ha with ha|ha
     ·exact E6 a ha
     ·exact r9 a ha
   ·refine gA we ?_
    exact⟨[mq,mm,ma],_,nB.length+3,rfl,by simp,by simp,by omega,ad IX _,E6,Gp.app _,I2.app _⟩
  ·refine gA (zNg w1 (zNg w2 (zNg w3 (zNg w4 Ec)))) ?_
   refine ae (gS oN uq hQ raw F3) ?_
   rintro r b6 ⟨A,L6,q,rfl,h0,h1,hq,bU,hA,G6,kx⟩
   refine dz ?_
   exact⟨A,L6,q,rfl,h0,by omega,by have:=kV.1;omega,bU,hA,G6,kV.trans kx⟩
def kX:OT:=(.bO 0 (.bO 1 (.bO 3 (.bO 5 (.bO 7 (.alt (.one 2 (.alt (.one 4 (.one 6 (.one 8 (.one 9 (.bO 10 (.bO 11 .leaf)))))) (.one 6 (.one 4 (.one 8 (.one 9 (.bO 10 (.bO 11 .leaf)))))))) (.one 6 (.one 2 (.one 4 (.one 8 (.one 9 (.bO 10 (.bO 11 .leaf)))))))))))))
theorem aR.il {b:List aw}{i:Nat}{L:List Int}(h:aR b i L):i<b.length:=by obtain⟨x,hi,-⟩:=h;exact(zNh.1 hi).1
def Am (b:List aw)(lo:Nat)(x:SV)(N:List Bytes):Prop:=(x=.ah∧N=[])∨∃ q,x=.o q N.length∧lo≤q∧b[q]? = some (.own (N.map SV.str) 9 1 N.length true)
theorem eP {bs:List aw}{i lo:Nat}{L:List Int}(h:aR bs i L)(id:jg)(hid:IdB id){x0:SV}{N:List Bytes}(hx:Am bs lo x0 N)(hl:i<lo)(hN:N.length≤8)(Cj:Le 4096 N):SC Tryz.V 31 [.p i 0,iM id,x0] bs (fun r b=>∃ bs':List aw,bs'.length=bs.length∧(∀ k,(∀ n,x0≠.o k n)→bs'[k]? = bs[k]?)∧AnsR bs' i 30 r b):=by
 rcases hx with⟨rfl,rfl⟩|⟨q,rfl,hq,bU⟩
 ·exact(AU h id hid (.inl ⟨rfl,rfl⟩) hN Cj).mono fun r b hr=>⟨bs,rfl,fun _ _=>rfl,hr⟩
 ·refine j9 bU ((AU (h.set (by omega) bU _) id hid (.inr ⟨q,rfl,zNq (zNh.1 bU).1⟩) hN Cj).mono fun r b hr=>⟨bs.set q _,by simp,fun k hk=>?_,hr⟩)
  refine List.getElem?_set_ne ?_
  rintro rfl
  exact hk _ rfl
theorem er.dul {i:Nat}{a S S':List aw}{x:SV}(h:er i a S)(hl:S'.length=S.length)(hk:∀ k,(∀ n,x≠.o k n)→S'[k]? = S[k]?)(hx:∀ q n,x=.o q n→a.length≤q):er i a S':=⟨by rw[hl];exact h.1,fun k ug bt=>(hk k fun n e=>by have:=hx k n e;omega).trans (h.2 k ug bt)⟩
theorem Am.low {b:List aw}{lo:Nat}{x:SV}{N:List Bytes}(h:Am b lo x N):∀ q n,x=.o q n→lo≤q:=by
 rintro q n rfl
 rcases h with⟨h,-⟩|⟨p,h1,h2,-⟩
 ·cases h
 ·cases h1;exact h2
theorem Am.after {S S' b4:List aw}{i lo:Nat}{x y:SV}{M:List Bytes}(hy:Am S lo y M)(yb:∀ q n m,x=.o q n→y=.o q m→False)(hk:∀ k,(∀ n,x≠.o k n)→S'[k]? = S[k]?)(hK:er i S' b4)(hi:i<lo):Am b4 lo y M:=by
 rcases hy with h|⟨q,h1,h2,h3⟩
 ·exact .inl h
 ·exact .inr ⟨q,h1,h2,hK.at ((hk q fun n e=>yb q n _ e h1).trans h3) (by omega)⟩
theorem Am.lt {S:List aw}{lo:Nat}{y:SV}{M:List Bytes}(hy:Am S lo y M):∀ q n,y=.o q n→q<S.length:=by
 rintro q n rfl
 rcases hy with⟨h,-⟩|⟨p,h1,-,h3⟩
 ·cases h
 ·cases h1;exact(zNh.1 h3).1
theorem HG {bs:List aw}{i:Nat}{L:List Int}(h:aR bs i L):SC Tryz.V 9 [.p i 0] bs (fun r b=>∃ (s:Bytes) (A:List gz) (L':List Int) (q:Nat),r=.fF [.str s,.o q A.length]∧s.length≤100∧0<A.length∧A.length≤60∧bs.length≤q∧b[q]? = some (.own (A.flatMap ac) 33 7 A.length true)∧(∀ a∈A,oB a)∧aR b i L'∧er i bs b):=by
 have fD:i<bs.length:=by obtain⟨x,hi,-⟩:=h;exact(zNh.1 hi).1
 refine o0 (fun n=>if n=16 then .all kX else .ord []) 3000 Tryz.func9 rfl Tryz.ntmps9 Tryz.results9 Tryz.call9 (by simp) (aj bs.length _ (by simp[within,within.ax,fD])) ?_
 refine dz ?_
 refine ae (yn h) ?_
 rintro r b1 ⟨s,L1,rfl,hs,xo,cN⟩
 refine dz ?_
 refine ae (yn xo) ?_
 rintro r b2 ⟨t,L2,rfl,ht,Gq,bM⟩
 have hK2:er i bs b2:=cN.trans bM
 have p1:=ki s
 have p2:=ki t
 have p3:=ki ([104,116,116,112,115,58,47,47,100,46,101,120,97,109,112,108,101,47,109,101]:List UInt8)
 have i1:=rL s
 have i2:=rL t
 have i3:=rL ([104,116,116,112,115,58,47,47,100,46,101,120,97,109,112,108,101,47,109,101]:List UInt8)
 generalize bY s=z1 at p1 i1
 generalize bY t=z2 at p2 i2
 generalize bY ([104,116,116,112,115,58,47,47,100,46,101,120,97,109,112,108,101,47,109,101]:List UInt8)=z3 at p3 i3
 obtain⟨id,e1⟩:=z1
 obtain⟨pf,e2⟩:=z2
 obtain⟨p3',e3⟩:=z3
 simp only at p1 p2 p3 i1 i2 i3
 unfold iM at p1 p2 p3
 refine dz ?_
 (refine aa (p1) ?_;refine dz ?_)
 (refine aa (p2) ?_;refine dz ?_)
 have bt:∀ P:jg,IdB P→Le 4096 [P.text]:=fun P hP s hs=>by rw[zNs.1 hs];exact hP.1
 refine⟨fun hc=>?_,fun hc=>?_⟩
 (refine aa (p3) ?_;refine dz ?_)
 clear hc p1 p2 p3 i2
 generalize p3'=P at i3 ⊢
 have iP:=i3
 rotate_left
 clear hc p1 p2 p3 i3
 generalize pf=P at i2 ⊢
 have iP:=i2
 all_goals
  refine⟨by omega,by omega,?_,ae (dr (Gq.app _) 10 (by omega)) ?_⟩
  ·(refine bE (fun n=>n - List.length b2) ?_;simp only[zNC,List.map_nil,cM,dZ,Nat.add_sub_cancel_left,Nat.sub_self,Nat.add_sub_cancel_left];exact av (by kernel_rfl))
  rintro r b3 ⟨v,L3,rfl,hv,r8,eh⟩
  have xl:bs.length≤b2.length:=hK2.1
  have tO:=(hK2.app _).trans eh
  have f0:=eh.at (aI b2 _) (by omega)
  have f1:=eh.at (aQ b2 _ 1) (by omega)
  have f2:=eh.at (aQ b2 _ 2) (by omega)
  have f3:=eh.at (aQ b2 _ 3) (by omega)
  have hbl3:=eh.1
  simp only[zNk,zNj,zNi,zNB]at hbl3
  clear eh Gq
  have hw:(v==1)=true∨(v==1)=false∧(v==2)=true∨(v==1)=false∧(v==2)=false∧(v==3)=true∨(v==1)=false∧(v==2)=false∧(v==3)=false∧(v==4)=true∨(v==1)=false∧(v==2)=false∧(v==3)=false∧(v==4)=false:=by
   cases v==1 <;> cases v==2 <;> cases v==3 <;> cases v==4 <;> simp
  rcases hw with w1|⟨w1,w2⟩|⟨w1,w2,w3⟩|⟨w1,w2,w3,w4⟩|⟨w1,w2,w3,w4⟩
  ·refine gA (zNg w1 (zNg f0 (ad f2))) ?_
   refine⟨by omega,⟨by unfold maxLen;omega,by omega⟩,?_⟩
   have hx:Am (b3++[.gone,.own [.str ([110,111,110,115,101,110,115,101]:List UInt8),.str id.text,.str P.text] 9 1 3 true]) (b2.length+2) (.o (b3.length+1) 3) [([110,111,110,115,101,110,115,101]:List UInt8),id.text,P.text]:=.inr ⟨b3.length+1,rfl,by omega,aQ b3 _ 1⟩
   have hN:([([110,111,110,115,101,110,115,101]:List UInt8),id.text,P.text]:List Bytes).length≤8:=by simp
   have Cj:Le 4096 [([110,111,110,115,101,110,115,101]:List UInt8),id.text,P.text]:=fun s hs=>by
    simp only[zNx,List.not_mem_nil,or_false]at hs
    rcases hs with rfl|rfl|rfl
    ·simp
    ·exact i1.1
    ·exact iP.1
   have hy:Am (b3++[.gone,.own [.str ([110,111,110,115,101,110,115,101]:List UInt8),.str id.text,.str P.text] 9 1 3 true]) (b2.length+2) (.o (b2.length+3) 1) [id.text]:=.inr ⟨_,rfl,by omega,ad f3 _⟩
   have hM:([id.text]:List Bytes).length≤8:=by simp
   have hMs:=bt id i1
   have yb:∀ q n m,SV.o (b3.length+1) 3=.o q n→SV.o (b2.length+3) 1=.o q m→False:=fun q n m h1 h2=>by cases h1;injection h2 with h2;omega
   have zM:=r8.app [.gone,.own [.str ([110,111,110,115,101,110,115,101]:List UInt8),.str id.text,.str P.text] 9 1 3 true]
   have E5:=tO.app [.gone,.own [.str ([110,111,110,115,101,110,115,101]:List UInt8),.str id.text,.str P.text] 9 1 3 true]
   refine jC (fun σ=>lk 2 σ.t=some (.str s)∧∃ (A:List gz) (L':List Int) (q:Nat),lk 3 σ.t=some (.o q A.length)∧0<A.length∧A.length≤60∧bs.length≤q∧σ.b[q]? = some (.own (A.flatMap ac) 33 7 A.length true)∧(∀ a∈A,oB a)∧aR σ.b i L'∧er i bs σ.b) (by kernel_rfl) (fun E' k'=>?_) ?_
   ·simp only[cq,↓Xn,↓Xo,↓Xg,↓Xd,↓Xe,↓Xf,Tryz.VΓ,Tryz.Γs,Xp,Xi,Nat.reduceAdd,Nat.reduceSub,Nat.reduceLT,Nat.reduceLeDiff,reduceIte,reduceCtorEq,Nat.reduceEqDiff,implies_true,forall_const,cp,dy,beq_self_eq_true,bne_self_eq_false,Int.reduceBEq,Int.reduceBNe,Int.reduceLT,Int.reduceLE,kX,ad f0,ad f1]
    refine⟨⟨?_,?_⟩,?_⟩
    all_goals
     refine ae (eP zM id i1 hx (by omega) hN Cj) ?_
     rintro r b4 ⟨b3',GZ,j3,A1,L4,q1,rfl,hA10,hA11,jY,gF,zN,yh,oA⟩
     have mL:=hx.low
     have g1:=oA.at ((j3 (b2.length+1) fun n e=>by have:=mL _ n e;omega).trans (show _=some (.cells [.int .i64 P.kind,.str P.text,.str P.host,.int .i64 P.port] 73 true) from by first|exact f1|exact ad f1 _)) (by omega)
     have hy':=hy.after yb j3 oA (by omega)
     have Ih:=hy.lt
     have zK:=(E5.dul GZ j3 (fun q n e=>by have:=mL q n e;omega)).trans oA
     refine gA g1 ?_
     refine ae (eP yh P iP hy' (by omega) hM hMs) ?_
     rintro r b5 ⟨b4',wG,ow,A2,L5,q2,rfl,Gs,Gr,qH,gY,r9,oN,kV⟩
     have hbq1':=kV.at ((ow q1 fun n e=>by have:=Ih _ n e;omega).trans gF) (by have:=zM.il;omega)
     have ha1:=dO A1
     have ha2:=dO A2
     have qQ:=(zK.dul wG ow (fun q n e=>by have:=hy'.low q n e;omega)).trans kV
     refine gA (zNg hbq1' (zNg gY (zNg ha1 ha2))) ?_
     have hil':=zM.il
     have hSl:=E5.1
     have h5l:=qQ.1
     refine⟨⟨mw A2,by unfold maxLen;omega,by omega⟩,A1++A2,L5,b5.length,by simp,by simp;omega,by simp;omega,h5l,?_,?_,(oN.set (by omega) hbq1' _).app _,(qQ.fu (by omega) _).app _⟩
     ·rw[show b5.length=(b5.set q1 .gone).length by simp,aI];simp
     ·intro a ha
      rcases zNt.1 ha with ha|ha
      ·exact zN a ha
      ·exact r9 a ha
   ·rintro⟨tt,bb⟩ ⟨h2,A,L',q,h3,rp,C8,hq,bU,oO,hD,hK⟩
    simp only at h2 h3 bU hD hK
    refine gA (zNg h2 h3) ?_
    exact⟨s,A,L',q,rfl,hs,rp,C8,hq,bU,oO,hD,hK⟩
  ·refine gA (zNg w1 w2) ?_
   have hx:Am b3 (b2.length+2) .ah []:=.inl ⟨rfl,rfl⟩
   have hN:([]:List Bytes).length≤8:=by simp
   have Cj:Le 4096 []:=fun s hs=>by cases hs
   have hy:Am b3 (b2.length+2) (.o (b2.length+3) 1) [id.text]:=.inr ⟨_,rfl,by omega,f3⟩
   have hM:([id.text]:List Bytes).length≤8:=by simp
   have hMs:=bt id i1
   have yb:∀ q n m,SV.ah=.o q n→SV.o (b2.length+3) 1=.o q m→False:=fun q n m h1 h2=>by cases h1
   have zM:=r8
   have E5:=tO
   refine jC (fun σ=>lk 2 σ.t=some (.str s)∧∃ (A:List gz) (L':List Int) (q:Nat),lk 3 σ.t=some (.o q A.length)∧0<A.length∧A.length≤60∧bs.length≤q∧σ.b[q]? = some (.own (A.flatMap ac) 33 7 A.length true)∧(∀ a∈A,oB a)∧aR σ.b i L'∧er i bs σ.b) (by kernel_rfl) (fun E' k'=>?_) ?_
   ·simp only[cq,↓Xn,↓Xo,↓Xg,↓Xd,↓Xe,↓Xf,Tryz.VΓ,Tryz.Γs,Xp,Xi,Nat.reduceAdd,Nat.reduceSub,Nat.reduceLT,Nat.reduceLeDiff,reduceIte,reduceCtorEq,Nat.reduceEqDiff,implies_true,forall_const,cp,dy,beq_self_eq_true,bne_self_eq_false,Int.reduceBEq,Int.reduceBNe,Int.reduceLT,Int.reduceLE,kX,f0,f1]
    refine⟨⟨?_,?_⟩,?_⟩
    all_goals
     refine ae (eP zM id i1 hx (by omega) hN Cj) ?_
     rintro r b4 ⟨b3',GZ,j3,A1,L4,q1,rfl,hA10,hA11,jY,gF,zN,yh,oA⟩
     have mL:=hx.low
     have g1:=oA.at ((j3 (b2.length+1) fun n e=>by have:=mL _ n e;omega).trans (show _=some (.cells [.int .i64 P.kind,.str P.text,.str P.host,.int .i64 P.port] 73 true) from by first|exact f1|exact ad f1 _)) (by omega)
     have hy':=hy.after yb j3 oA (by omega)
     have Ih:=hy.lt
     have zK:=(E5.dul GZ j3 (fun q n e=>by have:=mL q n e;omega)).trans oA
     refine gA g1 ?_
     refine ae (eP yh P iP hy' (by omega) hM hMs) ?_
     rintro r b5 ⟨b4',wG,ow,A2,L5,q2,rfl,Gs,Gr,qH,gY,r9,oN,kV⟩
     have hbq1':=kV.at ((ow q1 fun n e=>by have:=Ih _ n e;omega).trans gF) (by have:=zM.il;omega)
     have ha1:=dO A1
     have ha2:=dO A2
     have qQ:=(zK.dul wG ow (fun q n e=>by have:=hy'.low q n e;omega)).trans kV
     refine gA (zNg hbq1' (zNg gY (zNg ha1 ha2))) ?_
     have hil':=zM.il
     have hSl:=E5.1
     have h5l:=qQ.1
     refine⟨⟨mw A2,by unfold maxLen;omega,by omega⟩,A1++A2,L5,b5.length,by simp,by simp;omega,by simp;omega,h5l,?_,?_,(oN.set (by omega) hbq1' _).app _,(qQ.fu (by omega) _).app _⟩
     ·rw[show b5.length=(b5.set q1 .gone).length by simp,aI];simp
     ·intro a ha
      rcases zNt.1 ha with ha|ha
      ·exact zN a ha
      ·exact r9 a ha
   ·rintro⟨tt,bb⟩ ⟨h2,A,L',q,h3,rp,C8,hq,bU,oO,hD,hK⟩
    simp only at h2 h3 bU hD hK
    refine gA (zNg h2 h3) ?_
    exact⟨s,A,L',q,rfl,hs,rp,C8,hq,bU,oO,hD,hK⟩
  ·refine gA (zNg w1 (zNg w2 w3)) ?_
   refine⟨by omega,?_⟩
   have hx:Am (b3++[.own [.str ([97,99,99,116,58,113,64,97,46,101,120,97,109,112,108,101]:List UInt8)] 9 1 1 true]) (b2.length+2) (.o (b2.length+2) 1) [P.text]:=.inr ⟨_,rfl,by omega,ad f2 _⟩
   have hN:([P.text]:List Bytes).length≤8:=by simp
   have Cj:=bt P iP
   have hy:Am (b3++[.own [.str ([97,99,99,116,58,113,64,97,46,101,120,97,109,112,108,101]:List UInt8)] 9 1 1 true]) (b2.length+2) (.o b3.length 1) [([97,99,99,116,58,113,64,97,46,101,120,97,109,112,108,101]:List UInt8)]:=.inr ⟨_,rfl,by omega,aI b3 _⟩
   have hM:([([97,99,99,116,58,113,64,97,46,101,120,97,109,112,108,101]:List UInt8)]:List Bytes).length≤8:=by simp
   have hMs:Le 4096 [([97,99,99,116,58,113,64,97,46,101,120,97,109,112,108,101]:List UInt8)]:=fun s hs=>by rw[zNs.1 hs];simp
   have yb:∀ q n m,SV.o (b2.length+2) 1=.o q n→SV.o b3.length 1=.o q m→False:=fun q n m h1 h2=>by cases h1;injection h2 with h2;omega
   have zM:=r8.app [.own [.str ([97,99,99,116,58,113,64,97,46,101,120,97,109,112,108,101]:List UInt8)] 9 1 1 true]
   have E5:=tO.app [.own [.str ([97,99,99,116,58,113,64,97,46,101,120,97,109,112,108,101]:List UInt8)] 9 1 1 true]
   refine jC (fun σ=>lk 2 σ.t=some (.str s)∧∃ (A:List gz) (L':List Int) (q:Nat),lk 3 σ.t=some (.o q A.length)∧0<A.length∧A.length≤60∧bs.length≤q∧σ.b[q]? = some (.own (A.flatMap ac) 33 7 A.length true)∧(∀ a∈A,oB a)∧aR σ.b i L'∧er i bs σ.b) (by kernel_rfl) (fun E' k'=>?_) ?_
   ·simp only[cq,↓Xn,↓Xo,↓Xg,↓Xd,↓Xe,↓Xf,Tryz.VΓ,Tryz.Γs,Xp,Xi,Nat.reduceAdd,Nat.reduceSub,Nat.reduceLT,Nat.reduceLeDiff,reduceIte,reduceCtorEq,Nat.reduceEqDiff,implies_true,forall_const,cp,dy,beq_self_eq_true,bne_self_eq_false,Int.reduceBEq,Int.reduceBNe,Int.reduceLT,Int.reduceLE,kX,ad f0,ad f1]
    refine⟨⟨?_,?_⟩,?_⟩
    all_goals
     refine ae (eP zM id i1 hx (by omega) hN Cj) ?_
     rintro r b4 ⟨b3',GZ,j3,A1,L4,q1,rfl,hA10,hA11,jY,gF,zN,yh,oA⟩
     have mL:=hx.low
     have g1:=oA.at ((j3 (b2.length+1) fun n e=>by have:=mL _ n e;omega).trans (show _=some (.cells [.int .i64 P.kind,.str P.text,.str P.host,.int .i64 P.port] 73 true) from by first|exact f1|exact ad f1 _)) (by omega)
     have hy':=hy.after yb j3 oA (by omega)
     have Ih:=hy.lt
     have zK:=(E5.dul GZ j3 (fun q n e=>by have:=mL q n e;omega)).trans oA
     refine gA g1 ?_
     refine ae (eP yh P iP hy' (by omega) hM hMs) ?_
     rintro r b5 ⟨b4',wG,ow,A2,L5,q2,rfl,Gs,Gr,qH,gY,r9,oN,kV⟩
     have hbq1':=kV.at ((ow q1 fun n e=>by have:=Ih _ n e;omega).trans gF) (by have:=zM.il;omega)
     have ha1:=dO A1
     have ha2:=dO A2
     have qQ:=(zK.dul wG ow (fun q n e=>by have:=hy'.low q n e;omega)).trans kV
     refine gA (zNg hbq1' (zNg gY (zNg ha1 ha2))) ?_
     have hil':=zM.il
     have hSl:=E5.1
     have h5l:=qQ.1
     refine⟨⟨mw A2,by unfold maxLen;omega,by omega⟩,A1++A2,L5,b5.length,by simp,by simp;omega,by simp;omega,h5l,?_,?_,(oN.set (by omega) hbq1' _).app _,(qQ.fu (by omega) _).app _⟩
     ·rw[show b5.length=(b5.set q1 .gone).length by simp,aI];simp
     ·intro a ha
      rcases zNt.1 ha with ha|ha
      ·exact zN a ha
      ·exact r9 a ha
   ·rintro⟨tt,bb⟩ ⟨h2,A,L',q,h3,rp,C8,hq,bU,oO,hD,hK⟩
    simp only at h2 h3 bU hD hK
    refine gA (zNg h2 h3) ?_
    exact⟨s,A,L',q,rfl,hs,rp,C8,hq,bU,oO,hD,hK⟩
  ·refine gA (zNg w1 (zNg w2 (zNg w3 (zNg w4 (zNg f1 (ad f3)))))) ?_
   refine⟨by omega,⟨by unfold maxLen;omega,by omega⟩,?_⟩
   have hx:Am (b3++[.gone,.own [.str ([104,116,116,112,115,58,47,47,113,46,101,120,97,109,112,108,101,47]:List UInt8),.str id.text] 9 1 2 true]) (b2.length+2) (.o (b2.length+2) 1) [P.text]:=.inr ⟨_,rfl,by omega,ad f2 _⟩
   have hN:([P.text]:List Bytes).length≤8:=by simp
   have Cj:=bt P iP
   have hy:Am (b3++[.gone,.own [.str ([104,116,116,112,115,58,47,47,113,46,101,120,97,109,112,108,101,47]:List UInt8),.str id.text] 9 1 2 true]) (b2.length+2) (.o (b3.length+1) 2) [([104,116,116,112,115,58,47,47,113,46,101,120,97,109,112,108,101,47]:List UInt8),id.text]:=.inr ⟨_,rfl,by omega,aQ b3 _ 1⟩
   have hM:([([104,116,116,112,115,58,47,47,113,46,101,120,97,109,112,108,101,47]:List UInt8),id.text]:List Bytes).length≤8:=by simp
   have hMs:Le 4096 [([104,116,116,112,115,58,47,47,113,46,101,120,97,109,112,108,101,47]:List UInt8),id.text]:=fun s hs=>by
    simp only[zNx,List.not_mem_nil,or_false]at hs
    rcases hs with rfl|rfl
    ·simp
    ·exact i1.1
   have yb:∀ q n m,SV.o (b2.length+2) 1=.o q n→SV.o (b3.length+1) 2=.o q m→False:=fun q n m h1 h2=>by cases h1;injection h2 with h2;omega
   have zM:=r8.app [.gone,.own [.str ([104,116,116,112,115,58,47,47,113,46,101,120,97,109,112,108,101,47]:List UInt8),.str id.text] 9 1 2 true]
   have E5:=tO.app [.gone,.own [.str ([104,116,116,112,115,58,47,47,113,46,101,120,97,109,112,108,101,47]:List UInt8),.str id.text] 9 1 2 true]
   refine jC (fun σ=>lk 2 σ.t=some (.str s)∧∃ (A:List gz) (L':List Int) (q:Nat),lk 3 σ.t=some (.o q A.length)∧0<A.length∧A.length≤60∧bs.length≤q∧σ.b[q]? = some (.own (A.flatMap ac) 33 7 A.length true)∧(∀ a∈A,oB a)∧aR σ.b i L'∧er i bs σ.b) (by kernel_rfl) (fun E' k'=>?_) ?_
   ·simp only[cq,↓Xn,↓Xo,↓Xg,↓Xd,↓Xe,↓Xf,Tryz.VΓ,Tryz.Γs,Xp,Xi,Nat.reduceAdd,Nat.reduceSub,Nat.reduceLT,Nat.reduceLeDiff,reduceIte,reduceCtorEq,Nat.reduceEqDiff,implies_true,forall_const,cp,dy,beq_self_eq_true,bne_self_eq_false,Int.reduceBEq,Int.reduceBNe,Int.reduceLT,Int.reduceLE,kX,ad f0,ad f1]
    refine⟨⟨?_,?_⟩,?_⟩
    all_goals
     refine ae (eP zM id i1 hx (by omega) hN Cj) ?_
     rintro r b4 ⟨b3',GZ,j3,A1,L4,q1,rfl,hA10,hA11,jY,gF,zN,yh,oA⟩
     have mL:=hx.low
     have g1:=oA.at ((j3 (b2.length+1) fun n e=>by have:=mL _ n e;omega).trans (show _=some (.cells [.int .i64 P.kind,.str P.text,.str P.host,.int .i64 P.port] 73 true) from by first|exact f1|exact ad f1 _)) (by omega)
     have hy':=hy.after yb j3 oA (by omega)
     have Ih:=hy.lt
     have zK:=(E5.dul GZ j3 (fun q n e=>by have:=mL q n e;omega)).trans oA
     refine gA g1 ?_
     refine ae (eP yh P iP hy' (by omega) hM hMs) ?_
     rintro r b5 ⟨b4',wG,ow,A2,L5,q2,rfl,Gs,Gr,qH,gY,r9,oN,kV⟩
     have hbq1':=kV.at ((ow q1 fun n e=>by have:=Ih _ n e;omega).trans gF) (by have:=zM.il;omega)
     have ha1:=dO A1
     have ha2:=dO A2
     have qQ:=(zK.dul wG ow (fun q n e=>by have:=hy'.low q n e;omega)).trans kV
     refine gA (zNg hbq1' (zNg gY (zNg ha1 ha2))) ?_
     have hil':=zM.il
     have hSl:=E5.1
     have h5l:=qQ.1
     refine⟨⟨mw A2,by unfold maxLen;omega,by omega⟩,A1++A2,L5,b5.length,by simp,by simp;omega,by simp;omega,h5l,?_,?_,(oN.set (by omega) hbq1' _).app _,(qQ.fu (by omega) _).app _⟩
     ·rw[show b5.length=(b5.set q1 .gone).length by simp,aI];simp
     ·intro a ha
      rcases zNt.1 ha with ha|ha
      ·exact zN a ha
      ·exact r9 a ha
   ·rintro⟨tt,bb⟩ ⟨h2,A,L',q,h3,rp,C8,hq,bU,oO,hD,hK⟩
    simp only at h2 h3 bU hD hK
    refine gA (zNg h2 h3) ?_
    exact⟨s,A,L',q,rfl,hs,rp,C8,hq,bU,oO,hD,hK⟩
  ·refine gA (zNg w1 (zNg w2 (zNg w3 w4))) ?_
   have hx:Am b3 (b2.length+2) (.o (b2.length+2) 1) [P.text]:=.inr ⟨_,rfl,by omega,f2⟩
   have hN:([P.text]:List Bytes).length≤8:=by simp
   have Cj:=bt P iP
   have hy:Am b3 (b2.length+2) (.o (b2.length+3) 1) [id.text]:=.inr ⟨_,rfl,by omega,f3⟩
   have hM:([id.text]:List Bytes).length≤8:=by simp
   have hMs:=bt id i1
   have yb:∀ q n m,SV.o (b2.length+2) 1=.o q n→SV.o (b2.length+3) 1=.o q m→False:=fun q n m h1 h2=>by cases h1;injection h2 with h2;omega
   have zM:=r8
   have E5:=tO
   refine jC (fun σ=>lk 2 σ.t=some (.str s)∧∃ (A:List gz) (L':List Int) (q:Nat),lk 3 σ.t=some (.o q A.length)∧0<A.length∧A.length≤60∧bs.length≤q∧σ.b[q]? = some (.own (A.flatMap ac) 33 7 A.length true)∧(∀ a∈A,oB a)∧aR σ.b i L'∧er i bs σ.b) (by kernel_rfl) (fun E' k'=>?_) ?_
   ·simp only[cq,↓Xn,↓Xo,↓Xg,↓Xd,↓Xe,↓Xf,Tryz.VΓ,Tryz.Γs,Xp,Xi,Nat.reduceAdd,Nat.reduceSub,Nat.reduceLT,Nat.reduceLeDiff,reduceIte,reduceCtorEq,Nat.reduceEqDiff,implies_true,forall_const,cp,dy,beq_self_eq_true,bne_self_eq_false,Int.reduceBEq,Int.reduceBNe,Int.reduceLT,Int.reduceLE,kX,f0,f1]
    refine⟨⟨?_,?_⟩,?_⟩
    all_goals
     refine ae (eP zM id i1 hx (by omega) hN Cj) ?_
     rintro r b4 ⟨b3',GZ,j3,A1,L4,q1,rfl,hA10,hA11,jY,gF,zN,yh,oA⟩
     have mL:=hx.low
     have g1:=oA.at ((j3 (b2.length+1) fun n e=>by have:=mL _ n e;omega).trans (show _=some (.cells [.int .i64 P.kind,.str P.text,.str P.host,.int .i64 P.port] 73 true) from by first|exact f1|exact ad f1 _)) (by omega)
     have hy':=hy.after yb j3 oA (by omega)
     have Ih:=hy.lt
     have zK:=(E5.dul GZ j3 (fun q n e=>by have:=mL q n e;omega)).trans oA
     refine gA g1 ?_
     refine ae (eP yh P iP hy' (by omega) hM hMs) ?_
     rintro r b5 ⟨b4',wG,ow,A2,L5,q2,rfl,Gs,Gr,qH,gY,r9,oN,kV⟩
     have hbq1':=kV.at ((ow q1 fun n e=>by have:=Ih _ n e;omega).trans gF) (by have:=zM.il;omega)
     have ha1:=dO A1
     have ha2:=dO A2
     have qQ:=(zK.dul wG ow (fun q n e=>by have:=hy'.low q n e;omega)).trans kV
     refine gA (zNg hbq1' (zNg gY (zNg ha1 ha2))) ?_
     have hil':=zM.il
     have hSl:=E5.1
     have h5l:=qQ.1
     refine⟨⟨mw A2,by unfold maxLen;omega,by omega⟩,A1++A2,L5,b5.length,by simp,by simp;omega,by simp;omega,h5l,?_,?_,(oN.set (by omega) hbq1' _).app _,(qQ.fu (by omega) _).app _⟩
     ·rw[show b5.length=(b5.set q1 .gone).length by simp,aI];simp
     ·intro a ha
      rcases zNt.1 ha with ha|ha
      ·exact zN a ha
      ·exact r9 a ha
   ·rintro⟨tt,bb⟩ ⟨h2,A,L',q,h3,rp,C8,hq,bU,oO,hD,hK⟩
    simp only at h2 h3 bU hD hK
    refine gA (zNg h2 h3) ?_
    exact⟨s,A,L',q,rfl,hs,rp,C8,hq,bU,oO,hD,hK⟩
theorem HH (L:List Int)(n:Nat):(L.flatMap Af).take (n * 1)=(L.take n).flatMap Af:=by
 induction L generalizing n with
 | nil=>simp
 | cons a L ih =>
   cases n with
   | zero=>simp
   | succ n =>
     rw[List.take_succ_cons,List.flatMap_cons,List.flatMap_cons,← ih]
     rfl
theorem sc_New {bs:List aw}{j:Nat}{L:List Int}(hj:bs[j]? = some (.own (L.flatMap Af) 5 1 L.length false))(hr:∀ r∈L,0≤r∧r≤255)(hL:L.length≤9223372036854775807):SC Tryz.V 10 [.o j L.length] bs (fun r b=>∃ k L',r=.p k 0∧bs.length≤k∧Kp bs b∧aR b k L'):=by
 have iG:=(zNh.1 hj).1
 refine bJ 3000 Tryz.func10 rfl Tryz.ntmps10 Tryz.results10 Tryz.call10 (by simp) (aj bs.length _ (by simp[within,within.ax,iG])) ?_
 refine gA hj ?_
 obtain⟨n,hn,tf⟩:∃ n:Nat,(if (200:Int)<L.length then 200 else(L.length:Int))=n∧n≤L.length:=by
  split
  ·exact⟨200,rfl,by omega⟩
  ·exact⟨_,rfl,Nat.le_refl _⟩
 rw[hn,zNv,HH]
 refine⟨⟨by omega,by omega⟩,bs.length+1,L.take n,rfl,by omega,(Kp.refl bs).app _,.o bs.length n,aQ bs _ 1,.inr ⟨bs.length,by simp[tf],by omega,?_⟩,fun r h=>hr r (List.mem_of_mem_take h)⟩
 rw[aI]
 simp[tf]
def ec (t:cX × Int × Int):List SV:=uc t.1++[.int .i64 t.2.1,.int .i64 t.2.2]
theorem Sl1.one {e s L:Nat}{x:SV}{b:List aw}{c:List SV}{n:Nat}(h:Sl1 e s L x b c n):Vc.one x=true:=by rcases h with⟨rfl,-⟩|⟨j,rfl,-⟩ <;> rfl
theorem Sl1.cells {e s L:Nat}{x:SV}{b:List aw}{c:List SV}{n:Nat}(h:Sl1 e s L x b c n):Vc.cells x=[x]:=by rcases h with⟨rfl,-⟩|⟨j,rfl,-⟩ <;> rfl
def G7 (p:Bytes):cX:=⟨([97,46,101,120,97,109,112,108,101]:List UInt8),0,p,[],[],false,false⟩
def G8:gz:=⟨([97,46,101,120,97,109,112,108,101]:List UInt8),0,([47]:List UInt8),([120]:List UInt8),0,10,20⟩
theorem ur (p:Bytes)(h:p.length≤100):Fair (G7 p):=⟨by simp[G7];omega,by simp[G7],by simp[G7]⟩
theorem Aw (s:Bytes)(e:Int):flat (.fF [.str s,.int .i64 e])=true:=by simp[flat,flat.af]
theorem m_ask1:dk [G8] (G7 ([47]:List UInt8)) 10=(([120]:List UInt8),0):=by decide +kernel
theorem m_ask2:dk [G8] (G7 ([47]:List UInt8)) 19=(([120]:List UInt8),0):=by decide +kernel
theorem m_ask3:dk [G8] (G7 ([47]:List UInt8)) 9=([],241):=by decide +kernel
theorem m_ask4:dk [G8] (G7 ([47]:List UInt8)) 20=([],241):=by decide +kernel
theorem m_valid:lF [G8]=true:=by decide +kernel
theorem fb {bs:List aw}{j:Nat}{L:List gz}{m:Bool}(hj:bs[j]? = some (.own (L.flatMap ac) 33 7 L.length m))(hL:L.length≤9223372036854775807)(u:cX)(hu:Fair u)(now:Int){s:Bytes}{e:Int}(h:dk L u now=(s,e)) :
 SC Tryz.V 12 [.o j L.length,cR u,.int .u64 now] bs (fun r b=>r=.fF [.str s,.int .i64 e]∧b=bs):=by
 have h2:=qb hj hL u hu now
 rw[h]at h2
 exact jl (Aw _ _) h2
theorem zo:PC Tryz.V 8 [] (.bool true):=by
 refine aV 3000 Tryz.func8 rfl Tryz.ntmps8 Tryz.results8 Tryz.call8 (by simp) (by simp[flat,flat.af]) (by simp[flat,flat.af]) ?_
 refine od ?_
 refine⟨by decide,?_⟩
 have hs:CW G8:=⟨by decide,by decide,by decide⟩
 refine ae (fb (L:=[G8]) rfl (by simp) (G7 ([47]:List UInt8)) (ur _ (by simp)) 10 m_ask1) ?_
 rintro r b ⟨rfl,rfl⟩
 refine od ?_
 refine ae (fb (L:=[G8]) rfl (by simp) (G7 ([47]:List UInt8)) (ur _ (by simp)) 19 m_ask2) ?_
 rintro r b ⟨rfl,rfl⟩
 refine od ?_
 refine ae (fb (L:=[G8]) rfl (by simp) (G7 ([47]:List UInt8)) (ur _ (by simp)) 9 m_ask3) ?_
 rintro r b ⟨rfl,rfl⟩
 refine od ?_
 refine ae (fb (L:=[G8]) rfl (by simp) (G7 ([47]:List UInt8)) (ur _ (by simp)) 20 m_ask4) ?_
 rintro r b ⟨rfl,rfl⟩
 refine od ?_
 have hv:=uK (bs:=[.own ([G8].flatMap ac) 33 7 1 true,.cells [.str ([97,46,101,120,97,109,112,108,101]:List UInt8),.int .i64 0,.str ([47]:List UInt8),.str [],.str [],.bool false,.bool false] 35 true]) (j:=0) (L:=[G8]) rfl (by simp) (fun a ha=>by rw[zNs.1 ha];exact hs)
 rw[m_valid]at hv
 refine ae hv ?_
 rintro r b ⟨rfl,rfl⟩
 exact od zNu
theorem Bv {bs:List aw}{n:Nat}(hn:bs.length=n)(X:aw):Ac [(n,0,0)] (bs++[X]) bs:=by
 subst hn
 refine tU (fun j hj=>?_) (by simp)
 have h1:=hj _ List.mem_cons_self
 simp only at h1
 rcases Nat.lt_or_ge j bs.length with h|h
 ·rw[List.getElem?_append_left h]
 ·rw[List.getElem?_eq_none (by simp;omega),List.getElem?_eq_none h]
theorem Ex {bs:List aw}{j:Nat}{L:List gz}{m:Bool}(hj:bs[j]? = some (.own (L.flatMap ac) 33 7 L.length m))(hL:L.length≤1000000)(h:Bytes)(p:Int)(h0:(bp L h p).length=0) :
 SC Tryz.V 13 [.o j L.length,.agg [.str h,.int .i64 p]] bs (fun r b=>r=.ah∧b=bs):=by
 have w:=EC (Aa _) (ld hj hL h p)
 simpa only[Ey,Ez,h0,if_true] using w
theorem Ew {bs:List aw}{j k:Nat}{L:List gz}{m:Bool}(hk:bs.length=k)(hj:bs[j]? = some (.own (L.flatMap ac) 33 7 L.length m))(hL:L.length≤1000000)(h:Bytes)(p:Int)(h0:¬ (bp L h p).length=0) :
 SC Tryz.V 13 [.o j L.length,.agg [.str h,.int .i64 p]] bs (fun r b=>r=.o k (bp L h p).length∧b=bs++[.own ((bp L h p).flatMap ac) 33 7 (bp L h p).length true]):=by
 subst hk
 have w:=EC (Aa _) (ld hj hL h p)
 simpa only[Ey,Ez,if_neg h0] using w
def hc (x:Bytes × Int):List SV:=[.str x.1,.int .i64 x.2]
theorem hc_at (L:List (Bytes × Int))(k:Nat)(h:k<L.length):((L.flatMap hc).drop (k * 2)).take 2=hc L[k]:=lT hc 2 (fun _=>rfl) L k h
theorem hc_len (L:List (Bytes × Int)):(L.flatMap hc).length=L.length * 2:=iq hc 2 (fun _=>rfl) L
theorem Fh {bs:List aw}(u:cX)(hu:Fair u)(now:Int){s:Bytes}{e:Int}(h:dk [] u now=(s,e)) :
 SC Tryz.V 12 [.ah,cR u,.int .u64 now] bs (fun r b=>r=.fF [.str s,.int .i64 e]∧b=bs):=by
 refine jl (Aw _ _) ?_
 refine Dv (args':=[.o bs.length 0,cR u,.int .u64 now]) (e:=33) (s:=7) (m:=false) ((qb (L:=[]) (m:=false) (aO _ _) (by simp) u hu now).mono fun r b hr=>⟨?_,Kp.Ft hr.2⟩) (fun β=>?_)
 ·have:=hr.1
  rw[h]at this
  exact this
 ·simp[bG,ai,rm,oV,cR]
theorem yR (L:List Int)(h:Bytes × Int)(now n:Int)(hL:L.length≤9223372036854775807)(hq:∀ r∈L,(Lit.int .u8 r).wf=true)(hn:0≤n∧n≤255) :
 SC Tryz.V 3 [.o 0 L.length,.agg [.str h.1,.int .i64 h.2],.int .u64 now,.int .u8 n] [.own (L.flatMap Af) 5 1 L.length false] (fun r _=>r=.bool true):=by
 have hr:∀ r∈L,0≤r∧r≤255:=fun r h=>by
  have:IntKind.min .u8≤r∧r≤IntKind.max .u8:=by simpa[Lit.wf] using hq r h
  simpa[IntKind.min,IntKind.max,IntKind.signed,IntKind.bits] using this
 refine bJ 3000 Tryz.func3 rfl Tryz.ntmps3 Tryz.results3 Tryz.call3 (by simp) (aj 1 _ (by simp[within,within.ax])) ?_
 refine dz ?_
 (refine aa (zo) ?_;refine gA zNr ?_)
 refine ae (sc_New (j:=0) rfl hr hL) ?_
 rintro r b1 ⟨k,L1,rfl,hk,cN,xo⟩
 have vT:b1[1]? = some (.cells [.str h.1,.int .i64 h.2] 24 true):=cN.at (j:=1) rfl
 replace hk:2≤k:=hk
 refine dz ?_
 refine ae (HG xo) ?_
 rintro r b2 ⟨s,A,L2,q,rfl,hs,rp,C8,hq,bU,oO,Gq,bM⟩
 have xr:=bM.at vT (by omega)
 have hA2:((A.length:Int)==0)=false:=beq_eq_false_iff_ne.2 (by omega)
 obtain⟨m,hm,hml⟩:∃ m:Nat,jc .rem .i64 (IntKind.i64.wrap n) A.length=m∧m<A.length:=by
  have hw:IntKind.i64.wrap n=n:=by simp[IntKind.wrap,IntKind.bits,IntKind.signed];omega
  have h:jc .rem .i64 n A.length=n % A.length:=Int.tmod_eq_emod_of_nonneg hn.1
  have h1:=Int.emod_nonneg n (show (A.length:Int)≠0 by omega)
  have h2:=Int.emod_lt_of_pos n (show (0:Int)<A.length by omega)
  rw[hw,h]
  exact⟨(n % A.length).toNat,by omega,by omega⟩
 have gi:List.take 7 (List.drop (m * 7) (A.flatMap ac))=[.str A[m].host,.int .i64 A[m].port,.str A[m].target,.str A[m].raw,.int .i64 A[m].fail,.int .u64 A[m].since,.int .u64 A[m].Ho]:=CO A m hml
 have hal:=dO A
 obtain⟨a1,a2,a3,a4,a5,-⟩:=oO A[m] (List.getElem_mem hml)
 have pP:=jG (([104,116,116,112,115,58,47,47]:List UInt8)++A[m].host++A[m].target)
 have hP:=nu (([104,116,116,112,115,58,47,47]:List UInt8)++A[m].host++A[m].target)
 simp only[List.cons_append,zNz,List.append_assoc]at pP hP
 generalize A[m]=a at gi a1 a2 a3 a4 a5 pP hP
 generalize a7 _=z at pP hP
 obtain⟨u,e⟩:=z
 unfold cR at pP
 simp only at pP hP
 refine gA (zNg hA2 (zNg bU (zNg hm (zNg zNv (zNg gi (zNg xr hal)))))) ?_
 refine⟨by omega,⟨by omega,by omega⟩,by omega,by omega,by omega,?_⟩
 have G2:Fair ⟨u.host,a.port,u.path,u.query,u.fragment,u.aN,u.aZ⟩:=(show Small ⟨u.host,a.port,u.path,u.query,u.fragment,u.aN,u.aZ⟩ from⟨hP.1,a4,a5⟩).fair
 cases he:(e != 0)
 rotate_left
 ·(refine aa (pP) ?_;exact gA he zNu)
 (refine aa (pP) ?_;refine gA (zNg he (ad xr)) ?_)
 refine⟨by omega,?_⟩
 generalize hU:(⟨u.host,a.port,u.path,u.query,u.fragment,u.aN,u.aZ⟩:cX)=U at G2
 have hUc:([.str u.host,.int .i64 a.port,.str u.path,.str u.query,.str u.fragment,.bool u.aN,.bool u.aZ]:List SV)=uc U:=by rw[← hU];rfl
 rw[hUc]
 obtain⟨H,hH⟩:∃ H:List (Bytes × Int),H=[h,(([97,46,101,120,97,109,112,108,101]:List UInt8),0),(([101,46,101,120,97,109,112,108,101]:List UInt8),0)]:=⟨_,rfl⟩
 have hH3:H.length=3:=by rw[hH];rfl
 have hHc:([.str h.1,.int .i64 h.2,.str ([97,46,101,120,97,109,112,108,101]:List UInt8),.int .i64 0,.str ([101,46,101,120,97,109,112,108,101]:List UInt8),.int .i64 0]:List SV)=H.flatMap hc:=by rw[hH];rfl
 rw[hHc]
 have hw:=CK A
 generalize hww:dk A U now=z at *
 obtain⟨ws,we⟩:=z
 clear hH hHc hU hUc
 refine az (fun σ=>∃ k:Nat,k≤3∧lk 2 σ.t=some (.int .u64 now)∧lk 10 σ.t=some (.o q A.length)∧lk 12 σ.t=some (.p (b2.length+1) 0)∧lk 57 σ.t=some (.o (b2.length+2) 3)∧lk 58 σ.t=some (.int .i64 3)∧lk 59 σ.t=some (.int .i64 k) ∧
  σ.b[q]? = some (.own (A.flatMap ac) 33 7 A.length true)∧σ.b[b2.length+1]? = some (.cells (uc U) 35 true)∧σ.b[b2.length+2]? = some (.own (H.flatMap hc) 24 2 3 true)) (fun σ=>3 - fC 59 σ) ⟨0,by omega,rfl,rfl,rfl,rfl,rfl,rfl,ad bU _,aQ b2 _ 1,aQ b2 _ 2⟩ ?_
 rintro⟨t,b⟩ ⟨k,eh,h2,dH,mP,kM,jO,C9,bq,bu,bh⟩
 simp only at h2 dH mP kM jO C9 bq bu bh
 rw[ao C9]
 rcases Nat.lt_or_ge k 3 with aC|Ce
 ·have bg:decide ((k:Int)<3)=true:=decide_eq_true (by omega)
  have gi:List.take 2 (List.drop (k * 2) (H.flatMap hc))=[.str (H[k]'(by omega)).1,.int .i64 (H[k]'(by omega)).2]:=hc_at H k (by omega)
  have hhl:=hc_len H
  generalize H[k]'(by omega)=x at gi
  unfold uc at bu
  cases e1:(x.1==U.host)
  rotate_left
  cases e2:(x.2==U.port)
  rotate_left
  ·refine gA (zNg h2 (zNg dH (zNg mP (zNg kM (zNg jO (zNg C9 (zNg bh (zNg bu (zNg (ad bu) (zNg bg (zNg gi (zNg hhl (zNg hH3 (zNg zNv (zNg e1 e2))))))))))))))) ?_
   refine⟨⟨by omega,by omega⟩,by omega,⟨by omega,by omega⟩,⟨k+1,by omega,rfl,ad bq _,rfl,ad bh _⟩,?_⟩
   rw[ao (k:=.i64) (n:=(k:Int)+1) rfl];omega
  ·have bt:¬ (x.1=U.host∧x.2=U.port):=fun hh=>by rw[hh.1]at e1;simp at e1
   have C0:=hw x.1 x.2 U now bt
   rw[hww]at C0
   have sA:=fun(B:List aw) (hB:B[q]? = _)=>fb (bs:=B) (m:=true) hB (by omega) U G2 now hww
   unfold cR at sA
   refine gA (zNg h2 (zNg dH (zNg mP (zNg kM (zNg jO (zNg C9 (zNg bh (zNg bu (zNg (ad bu) (zNg bg (zNg gi (zNg hhl (zNg hH3 (zNg zNv e1)))))))))))))) ?_
   refine⟨⟨by omega,by omega⟩,by omega,?_⟩
   refine ae (sA _ (ad bq _)) ?_
   rintro r B ⟨rfl,hB⟩
   cases hB.symm
   refine gA (zNg h2 (zNg dH (zNg mP (zNg kM (zNg jO (zNg C9 (ad bu))))))) ?_
   have oL:=(zNh.1 bu).1
   have kK:=(zNh.1 bq).1
   by_cases h0:(bp A x.1 x.2).length=0
   ·rw[List.length_eq_zero_iff.1 h0]at C0
    have sN:=fun B=>Fh (bs:=B) U G2 now C0
    unfold cR at sN
    refine aS [] (Ex (ad bq _) (by omega) x.1 x.2 h0) (fun _ _ _=>rfl) ?_
    refine gA (zNg h2 (zNg dH (zNg mP (zNg kM (zNg jO (zNg C9 (ad bu))))))) ?_
    refine aS [] (sN _) (fun _ _ _=>rfl) ?_
    refine gA (zNg h2 (zNg dH (zNg mP (zNg kM (zNg jO (zNg C9 (ad bu))))))) ?_
    refine⟨?_,⟨by omega,by omega⟩,⟨k+1,by omega,rfl,ad bq _,rfl,ad bh _⟩,?_⟩
    ·refine bE (fun _=>0) ?_
     simp only[zNC,List.map_nil,cM,dZ]
     exact av (by kernel_rfl)
    ·rw[ao (k:=.i64) (n:=(k:Int)+1) rfl];omega
   ·refine aS [(b.length+1,0,0)] (Ew (k:=b.length+1) (by simp) (ad bq _) (by omega) x.1 x.2 h0) (Bv (by simp) _) ?_
    have hwl:=mT A x.1 x.2
    have sM:=fun(B:List aw) (hB:B[b.length+1]? = _)=>fb (bs:=B) (m:=true) hB (by omega) U G2 now C0
    unfold cR at sM
    refine gA (zNg h2 (zNg dH (zNg mP (zNg kM (zNg jO (zNg C9 (ad bu))))))) ?_
    refine aS [] (sM _ (aQ b _ 1)) (fun _ _ _=>rfl) ?_
    refine gA (zNg h2 (zNg dH (zNg mP (zNg kM (zNg jO (zNg C9 (ad bu))))))) ?_
    refine⟨?_,⟨by omega,by omega⟩,⟨k+1,by omega,rfl,ad bq _,rfl,ad bh _⟩,?_⟩
    ·refine bE (fun n=>if n=b.length+1 then 1 else 0) ?_
     have z1:(b.length=b.length+1)=False:=eq_false (by omega)
     have z2:(b2.length+1=b.length+1)=False:=eq_false (by omega)
     simp only[zNC,List.map_nil,cM,dZ,z1,z2,eq_self,if_true,if_false]
     exact av (by kernel_rfl)
    ·rw[ao (k:=.i64) (n:=(k:Int)+1) rfl];omega
  ·have bt:¬ (x.1=U.host∧x.2=U.port):=fun hh=>by rw[hh.2]at e2;simp at e2
   have C0:=hw x.1 x.2 U now bt
   rw[hww]at C0
   have sA:=fun(B:List aw) (hB:B[q]? = _)=>fb (bs:=B) (m:=true) hB (by omega) U G2 now hww
   unfold cR at sA
   refine gA (zNg h2 (zNg dH (zNg mP (zNg kM (zNg jO (zNg C9 (zNg bh (zNg bu (zNg (ad bu) (zNg bg (zNg gi (zNg hhl (zNg hH3 (zNg zNv (zNg e1 e2))))))))))))))) ?_
   refine⟨⟨by omega,by omega⟩,by omega,?_⟩
   refine ae (sA _ (ad bq _)) ?_
   rintro r B ⟨rfl,hB⟩
   cases hB.symm
   refine gA (zNg h2 (zNg dH (zNg mP (zNg kM (zNg jO (zNg C9 (ad bu))))))) ?_
   have oL:=(zNh.1 bu).1
   have kK:=(zNh.1 bq).1
   by_cases h0:(bp A x.1 x.2).length=0
   ·rw[List.length_eq_zero_iff.1 h0]at C0
    have sN:=fun B=>Fh (bs:=B) U G2 now C0
    unfold cR at sN
    refine aS [] (Ex (ad bq _) (by omega) x.1 x.2 h0) (fun _ _ _=>rfl) ?_
    refine gA (zNg h2 (zNg dH (zNg mP (zNg kM (zNg jO (zNg C9 (ad bu))))))) ?_
    refine aS [] (sN _) (fun _ _ _=>rfl) ?_
    refine gA (zNg h2 (zNg dH (zNg mP (zNg kM (zNg jO (zNg C9 (ad bu))))))) ?_
    refine⟨?_,⟨by omega,by omega⟩,⟨k+1,by omega,rfl,ad bq _,rfl,ad bh _⟩,?_⟩
    ·refine bE (fun _=>0) ?_
     simp only[zNC,List.map_nil,cM,dZ]
     exact av (by kernel_rfl)
    ·rw[ao (k:=.i64) (n:=(k:Int)+1) rfl];omega
   ·refine aS [(b.length+1,0,0)] (Ew (k:=b.length+1) (by simp) (ad bq _) (by omega) x.1 x.2 h0) (Bv (by simp) _) ?_
    have hwl:=mT A x.1 x.2
    have sM:=fun(B:List aw) (hB:B[b.length+1]? = _)=>fb (bs:=B) (m:=true) hB (by omega) U G2 now C0
    unfold cR at sM
    refine gA (zNg h2 (zNg dH (zNg mP (zNg kM (zNg jO (zNg C9 (ad bu))))))) ?_
    refine aS [] (sM _ (aQ b _ 1)) (fun _ _ _=>rfl) ?_
    refine gA (zNg h2 (zNg dH (zNg mP (zNg kM (zNg jO (zNg C9 (ad bu))))))) ?_
    refine⟨?_,⟨by omega,by omega⟩,⟨k+1,by omega,rfl,ad bq _,rfl,ad bh _⟩,?_⟩
    ·refine bE (fun n=>if n=b.length+1 then 1 else 0) ?_
     have z1:(b.length=b.length+1)=False:=eq_false (by omega)
     have z2:(b2.length+1=b.length+1)=False:=eq_false (by omega)
     simp only[zNC,List.map_nil,cM,dZ,z1,z2,eq_self,if_true,if_false]
     exact av (by kernel_rfl)
    ·rw[ao (k:=.i64) (n:=(k:Int)+1) rfl];omega
 ·obtain rfl:k=3:=by omega
  have bg:decide (((3:Nat):Int)<3)=false:=by decide
  exact gA (zNg h2 (zNg dH (zNg mP (zNg kM (zNg jO (zNg C9 bg)))))) zNu
end Go.Proofs.YtnmlimehgifadaaGreatDoor
