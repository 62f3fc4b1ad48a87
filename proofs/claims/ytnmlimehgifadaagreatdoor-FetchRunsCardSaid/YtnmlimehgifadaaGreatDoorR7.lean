/- R7 -/
import Derived.Lib.Replace
import Derived.Test.YtnmlimehgifadaaGreatDoorR6
open And renaming intro→zTm
open List renaming getElem?_eq_some_iff→zTn,mem_cons_of_mem→zTo,length_append→zTp,mem_cons_self→zTq,flatMap_cons→zTs,length_set→zTt,length_cons→zTu,mem_singleton→zTw,mem_append→zTx,getElem_mem→zTz,cons_append→zTA,length_nil→zTC,all_eq_true→zTD,flatMap_append→zTE,length_eq_zero_iff→zTF,mem_cons→zTG,append_nil→zTJ,map_cons→zTK,take→zTL,flatMap_map→zTM,flatten_cons→zTN,mem_of_getLast?→zTO,drop→zTP,mem_map→zTR,take_of_length_le→zTX,mem_flatMap→zTZ,getLast?_append→zT1,all_append→zT2,nil_append→zT3
open Nat renaming le_refl→zTH,add_sub_cancel_left→zTT
open Bool renaming and_eq_true→zTQ,not_true→zTV,not_false→zTY
open Int renaming toNat→zTW
open Go.Proofs.Tryz
set_option linter.all false
set_option maxHeartbeats 16000000
set_option maxRecDepth 20000
namespace Go.Proofs.YtnmlimehgifadaaGreatDoor
open Go Vc Go.RowKit Wf
theorem yP {u:bN}(hu:Small u):(bh u).length≤10100:=by
 have h1:=nK u.host hu.2.1 hu.2.2;have h2:=j4 u;have h3:=hu.1;unfold bh;simp only[zTp];split <;> simp only[zTp,zTu,zTC] <;> omega
theorem Small.Io {h p:Bytes}(hh:h.length+p.length≤10000):Small ⟨h,0,p,[],[],false,false⟩:=⟨by simpa using hh,QB,QB⟩
def Out (bs:List aq)(i:Nat)(x:SV)(b:List aq)(A:List jD):Prop:=(x=.ai∧A=[])∨∃ q,x=.o q A.length∧bs.length<q∧q≠i∧b[q]? = some (.own (A.flatMap ac) 33 7 A.length true)
theorem Out.kp {bs:List aq}{i:Nat}{x:SV}{b b':List aq}{A:List jD}(h:Out bs i x b A)(k:fS i b b'):Out bs i x b' A:=by
 rcases h with h|⟨q,h1,h2,h3,h4⟩
 ·exact .inl h
 ·exact .inr ⟨q,h1,h2,h3,k.at h4 h3⟩
structure RInv (bs:List aq) (i:Nat) (n k:Nat) (σ:St):Prop where
 h0:lk 0 σ.t=some (.p i 0)
 h2:lk 2 σ.t=some (.int .i64 n)
 h4:lk 4 σ.t=some (.p bs.length 0)
 h8:lk 8 σ.t=some (.int .i64 k)
 hK:fS i bs σ.b
 hy:∃ (to':bN) (x:SV) (A:List jD) (L:List Int),lk 7 σ.t=some x∧σ.b[bs.length]? = some (.cells (uc to') 35 true)∧Small to'∧bg σ.b i L∧Out bs i x σ.b A∧A.length=k∧∀ a∈A,rG a
theorem Ds {bs:List aq}{i:Nat}{L:List Int}(h:bg bs i L)(u:bN)(hu:Small u)(n:Nat)(hn:n≤10):SC QH 130 [.p i 0,.agg (uc u),.int .i64 n] bs (fun r b=>∃ (A:List jD) (L':List Int) (q:Nat),r=.o q A.length∧A.length=n+1∧(∀ a,A.getLast? = some a→a.raw.length≤20000)∧bs.length<q∧b[q]? = some (.own (A.flatMap ac) 33 7 A.length true)∧(∀ a∈A,rG a)∧bg b i L'∧fS i bs b):=by
 have dJ:i<bs.length:=by obtain⟨x,hi,-⟩:=h;exact(zTn.1 hi).1
 refine bp 3000 func130 rfl ntmps130 results130 call130 QB (af bs.length _ (by simp[within,within.av,uc,dJ])) ?_;unfold uc;refine dY ?_;refine ax (fun σ=>∃ k,k≤n∧RInv bs i n k σ) (fun σ=>n - fA 8 σ) ⟨0,QA,rfl,rfl,rfl,rfl,fS.of ((Kp.refl bs).app _),⟨u,.ai,[],_,rfl,aM _ _,hu,h.app _,.inl ⟨rfl,rfl⟩,rfl,QB⟩⟩ ?_;rintro⟨t,b⟩ ⟨k,hk,h0,h2,h4,h8,hK,to',x,A,L1,h7,yH,hS,hD,hO,hA,rp⟩;simp only at h0 h2 h4 h8 hK h7 yH hD hO;rw[ak h8];have jF:=hK.1;unfold uc at yH;by_cases az:k<n
 ·have aK:decide ((k:Int)<n)=true:=QF
  have s1:=iL (bs:=b) hD [([97,46,101,120,97,109,112,108,101]:List UInt8),([98,46,101,120,97,109,112,108,101]:List UInt8),([101,46,101,120,97,109,112,108,101]:List UInt8)] (n:=3) (m:=20) rfl QA QD rfl;refine gA (zTm h0 (zTm h2 (zTm h4 (zTm h8 (zTm h7 aK))))) ?_;refine⟨QA,ae s1 ?_⟩;rintro r b1 ⟨hs,L2,rfl,hhs,BV,cV⟩;have hk01:=cV;refine gA (zTm h0 (zTm h2 (zTm h4 (zTm h8 h7)))) ?_;refine ae (eF BV 20 QA) ?_;rintro r b2 ⟨v1,L3,rfl,hv1,MI,bS⟩;obtain⟨m1,rfl⟩:∃ m:Nat,v1=m:=⟨v1.toNat,QA⟩;have p1:=gV m1 QA;have p2:=gV k QA;have d1:=cJ 9 m1 QA;have d2:=cJ 9 k QA;have O7:=hk01.trans bS;have hto2:=O7.at yH QA;have hO2:=hO.kp O7;have pF:=fX to' hS.fair;unfold cA at pF;refine gA (zTm h0 (zTm h2 (zTm h4 (zTm h8 h7)))) ?_
  (refine aa (p1) ?_;refine gA (zTm h0 (zTm h2 (zTm h4 (zTm h8 h7)))) ?_)
  refine⟨QA,?_⟩
  (refine aa (p2) ?_;refine gA (zTm h0 (zTm h2 (zTm h4 (zTm h8 h7)))) ?_)
  refine⟨QA,?_⟩;refine gA (zTm h0 (zTm h2 (zTm h4 (zTm h8 (zTm h7 (zTm hto2 (ad hto2))))))) ?_
  (refine aa (pF) ?_;refine gA (zTm h0 (zTm h2 (zTm h4 (zTm h8 (zTm h7 (zTm hto2 (ad hto2))))))) ?_)
  have mI:=yP hS;refine ae (eF (MI.app [.cells [.str hs,.int .i64 0,.str (47::114::(cf m1++cf k)),.str [],.str [],.bool false,.bool false] 35 true]) 20 QA) ?_;rintro r b3 ⟨v2,L4,rfl,hv2,wO,eL⟩;have hk03:=(O7.app _).trans eL;have yp:=hK.trans hk03;have ym:=eL.at (aM b2 _) (by have:=O7.1;omega);have yj:=hk03.at yH QA;have hO3:=hO.kp hk03;have pT:=mT to' hS.fair;unfold cA at pT;have w1:(v2==1)=true∨(v2==1)=false:=by cases v2==1 <;> simp
  have w2:(v2==2)=true∨(v2==2)=false:=by cases v2==2 <;> simp
  have wh:(hs==to'.host)=true∨(hs==to'.host)=false:=by cases hs==to'.host <;> simp
  have htl:=j4 to';have hS1:=hS.1;have hb2n:i≠b2.length:=by have:=O7.1;omega
  have hw:(v2==1)=true∨((v2==1)=false∧(v2==2)=true)∨((v2==1)=false∧(v2==2)=false):=by cases v2==1 <;> cases v2==2 <;> simp
  rcases hw with w1|⟨w1,w2⟩|⟨w1,w2⟩
  rcases wh with wh|wh
  refine gA (zTm h0 (zTm h2 (zTm h4 (zTm h8 (zTm h7 (zTm w1 (zTm wh (zTm ym yj)))))))) ?_;refine ae (eF wO 2 QA) ?_;rintro r b4 ⟨v3,L5,rfl,Eo,CV,mJ⟩;have sb:=yp.trans mJ;have Hm:=mJ.at ym QA;have BJ:=mJ.at yj QA;have hO4:=hO3.kp mJ;have w3:(v3==0)=true∨(v3==0)=false:=by cases v3==0 <;> simp
  rcases w3 with w3|w3
  refine gA (zTm h0 (zTm h2 (zTm h4 (zTm h8 (zTm h7 (zTm w3 BJ)))))) ?_
  (refine aa (pT) ?_;refine gA (zTm h0 (zTm h2 (zTm h4 (zTm h8 h7)))) ?_)
  generalize hl:bK to'=loc at *;have hlb:loc.length≤10100:=QA;rotate_left
  refine gA (zTm h0 (zTm h2 (zTm h4 (zTm h8 (zTm h7 w3))))) ?_;generalize hl:([104,116,116,112,58,47,47,97,46,101,120,97,109,112,108,101,47]:Bytes)=loc;have hlb:loc.length≤10100:=by rw[← hl];simp
  rotate_left
  refine gA (zTm h0 (zTm h2 (zTm h4 (zTm h8 (zTm h7 (zTm w1 (zTm wh (zTm ym yj)))))))) ?_;generalize hl:([104,116,116,112,58,47,47,97,46,101,120,97,109,112,108,101,47]:Bytes)=loc;have hlb:loc.length≤10100:=by rw[← hl];simp
  have CV:=wO;have sb:=yp;have Hm:=ym;have BJ:=yj;have hO4:=hO3;generalize b3=b4 at *;generalize L4=L5 at *;rotate_left
  rcases wh with wh|wh
  refine gA (zTm h0 (zTm h2 (zTm h4 (zTm h8 (zTm h7 (zTm w1 (zTm w2 (zTm wh (zTm ym yj))))))))) ?_;refine ae (eF wO 2 QA) ?_;rintro r b4 ⟨v3,L5,rfl,Eo,CV,mJ⟩;have sb:=yp.trans mJ;have Hm:=mJ.at ym QA;have BJ:=mJ.at yj QA;have hO4:=hO3.kp mJ;have w3:(v3==0)=true∨(v3==0)=false:=by cases v3==0 <;> simp
  rcases w3 with w3|w3
  refine gA (zTm h0 (zTm h2 (zTm h4 (zTm h8 (zTm h7 (zTm w3 BJ)))))) ?_
  (refine aa (pT) ?_;refine gA (zTm h0 (zTm h2 (zTm h4 (zTm h8 h7)))) ?_)
  generalize hl:bK to'=loc at *;have hlb:loc.length≤10100:=QA;rotate_left
  refine gA (zTm h0 (zTm h2 (zTm h4 (zTm h8 (zTm h7 w3))))) ?_;generalize hl:([63]:Bytes)=loc;have hlb:loc.length≤10100:=by rw[← hl];simp
  rotate_left
  refine gA (zTm h0 (zTm h2 (zTm h4 (zTm h8 (zTm h7 (zTm w1 (zTm w2 (zTm wh (zTm ym yj))))))))) ?_;generalize hl:([63]:Bytes)=loc;have hlb:loc.length≤10100:=by rw[← hl];simp
  have CV:=wO;have sb:=yp;have Hm:=ym;have BJ:=yj;have hO4:=hO3;generalize b3=b4 at *;generalize L4=L5 at *;rotate_left
  rcases wh with wh|wh
  refine gA (zTm h0 (zTm h2 (zTm h4 (zTm h8 (zTm h7 (zTm w1 (zTm w2 (zTm wh (zTm ym yj))))))))) ?_;refine ae (eF wO 2 QA) ?_;rintro r b4 ⟨v3,L5,rfl,Eo,CV,mJ⟩;have sb:=yp.trans mJ;have Hm:=mJ.at ym QA;have BJ:=mJ.at yj QA;have hO4:=hO3.kp mJ;have w3:(v3==0)=true∨(v3==0)=false:=by cases v3==0 <;> simp
  rcases w3 with w3|w3
  refine gA (zTm h0 (zTm h2 (zTm h4 (zTm h8 (zTm h7 (zTm w3 BJ)))))) ?_
  (refine aa (pT) ?_;refine gA (zTm h0 (zTm h2 (zTm h4 (zTm h8 h7)))) ?_)
  generalize hl:bK to'=loc at *;have hlb:loc.length≤10100:=QA;rotate_left
  refine gA (zTm h0 (zTm h2 (zTm h4 (zTm h8 (zTm h7 w3))))) ?_;generalize hl:bh to'=loc at *;have hlb:loc.length≤10100:=mI;rotate_left
  refine gA (zTm h0 (zTm h2 (zTm h4 (zTm h8 (zTm h7 (zTm w1 (zTm w2 (zTm wh (zTm ym yj))))))))) ?_;generalize hl:bh to'=loc at *;have hlb:loc.length≤10100:=mI;have CV:=wO;have sb:=yp;have Hm:=ym;have BJ:=yj;have hO4:=hO3;generalize b3=b4 at *;generalize L4=L5 at *;rotate_left
  all_goals
   obtain⟨nB,tF,uZ,jG,tT⟩:=tO CV 2 QA;have p8:=jG.outs tF;have hv:=qW L5 (n:=2) QA;obtain⟨m3,hm3⟩:∃ m:Nat,jJ L5 2=m:=⟨(jJ L5 2).toNat,QA⟩;rw[hm3]at tT hv;have em:(302+5 * (m3:Int))=((302+5 * m3:Nat):Int):=QA;have hKn:=sb.trans jG;have BQ:=jG.at Hm QA;have OS:=jG.at BJ QA;have hnl2:=jG.1;have hKl:=sb.1;have nT:=(zTn.1 Hm).1;have hSf:Small ⟨hs,0,47::114::(cf m1++cf k),[],[],false,false⟩:=Small.Io QC;have r1:=fj (bs:=nB++[.own [.str ([108,111,99,97,116,105,111,110]:List UInt8),.str (loc)] 100 2 1 true]) (x:=.o nB.length 1) (fs:=[(([108,111,99,97,116,105,111,110]:List UInt8),loc)]) (.inr ⟨nB.length,true,rfl,QB,aM _ _⟩) QB (by simp[cF] <;> omega) (302+5 * m3) QA [] QB false;have BL:=lV (st:=302+5 * m3) QA [(([108,111,99,97,116,105,111,110]:List UInt8),loc)] [] QB;simp only[cF,zTu,zTC]at BL;have pA:=eP ⟨hs,0,47::114::(cf m1++cf k),[],[],false,false⟩ hSf.fair (eJ (302+5 * m3) [(([108,111,99,97,116,105,111,110]:List UInt8),loc)] [] false);have hAn:=hSf.Nu (raw:=eJ (302+5 * m3) [(([108,111,99,97,116,105,111,110]:List UInt8),loc)] [] false) QA;unfold uc ac dB at pA;simp only at pA;try refine gA (zTm h0 (zTm h2 (zTm h4 (zTm h8 (zTm h7 (zTm Hm BJ)))))) ?_
   refine bE [(i,0,0),(b4.length,0,0)] tT p8 ?_;refine gA (zTm h0 (zTm h2 (zTm h4 (zTm h8 (zTm h7 (zTm em (zTm BQ (ad BQ)))))))) ?_;refine⟨QA,QA,QA,bE [] r1 (fun _ _ _=>rfl) ?_⟩;refine gA (zTm h0 (zTm h2 (zTm h4 (zTm h8 (zTm h7 (zTm BQ (ad BQ))))))) ?_;have htl2:=(zTn.1 OS).1;have hsT:∀ (l:List aq) X,(nB++l).set bs.length X=nB.set bs.length X++l:=fun l X=>aQ htl2 l X
   have z1:(b2.length=i)=False:=eq_false QA;have z2:(b4.length=i)=False:=eq_false QA;have z3:(b4.length=b2.length)=False:=eq_false QA;have z4:(b4.length=nB.length+1)=False:=eq_false QA;have z5:(b4.length=nB.length+2)=False:=eq_false QA;have z6:(nB.length=i)=False:=eq_false QA;have z7:(nB.length=b2.length)=False:=eq_false QA;have z8:(nB.length=nB.length+1)=False:=eq_false QA;have z9:(nB.length=nB.length+2)=False:=eq_false QA;have y1:(nB.length+1=i)=False:=eq_false QA;have y2:(nB.length+1=b2.length)=False:=eq_false QA;have y3:(nB.length+2=i)=False:=eq_false QA;have y4:(nB.length+2=b2.length)=False:=eq_false QA;have y5:(nB.length+2=nB.length+1)=False:=eq_false QA;rcases hO4 with⟨rfl,rfl⟩|⟨q,rfl,hq,KP,hbq0⟩
   ·(refine aW (pA) ?_;refine gA (zTm h0 (zTm h2 (zTm h4 (zTm h8 (zTm h7 (zTm BQ (zTm (ad BQ) (zTm (ad OS) hsT)))))))) ?_)
    refine⟨QA,⟨by unfold maxLen;omega,QA⟩,?_,QA,⟨k+1,QA,h0,h2,h4,rfl,(hKn.ic (zTH _) _).app _,⟨⟨hs,0,47::114::(cf m1++cf k),[],[],false,false⟩,.o (nB.length+2) 1,[(dB ⟨hs,0,47::114::(cf m1++cf k),[],[],false,false⟩ (eJ (302+5 * m3) [(([108,111,99,97,116,105,111,110]:List UInt8),loc)] [] false))],_,rfl,bV htl2 _ _,hSf,(uZ.oO OS QA _).app _,.inr ⟨nB.length+2,rfl,QA,QA,aX QB _ 2⟩,by simp at hA;simp[← hA],fun a ha=>by rw[zTw.1 ha];exact hAn⟩⟩,?_⟩
    ·refine bt (fun n=>if n=i then 0 else if n=b2.length then 5 else if n=nB.length+1 then 3 else if n=nB.length+2 then 4 else 2) ?_
     simp only[zTK,List.map_nil,cz,dW,z1,z2,z3,z4,z5,z6,z7,z8,z9,y1,y2,y3,y4,y5,eq_self,if_true,if_false];exact ao QE
    ·rw[ak (k:=.i64) (n:=(k:Int)+1) rfl];omega
   ·have cM:=jG.at hbq0 KP
    have hql0:=(zTn.1 hbq0).1;have jV:=(zTn.1 cM).1;have nS:∀ (l:List aq) X,(nB++l).set q X=nB.set q X++l:=fun l X=>aQ jV l X
    have hnq:q≠b2.length:=by rintro rfl;rw[BQ]at cM;simp at cM
    have yl:=fun Y=>ad (aw BQ hnq Y)
    have hsT2:∀ (l:List aq) Y X,(nB.set q Y++l).set bs.length X=(nB.set q Y).set bs.length X++l:=fun l Y X=>aQ (by simpa using htl2) l X
    have E4:=fun Y=>ad (aw OS (show q≠bs.length by omega) Y)
    have x1:(q=i)=False:=eq_false KP;have x2:(q=b2.length)=False:=eq_false hnq;have x3:(q=nB.length+1)=False:=eq_false QA;have x4:(q=nB.length+2)=False:=eq_false QA;have x5:(b4.length=q)=False:=eq_false QA;have x6:(nB.length=q)=False:=eq_false QA
    (refine aW (pA) ?_;simp only[bJ,↓Xn,↓Xo,↓Xg,↓Xd,↓Xe,↓Xf,Tryz.VΓ,Tryz.Γs,Xp,Xi,Nat.reduceAdd,Nat.reduceSub,Nat.reduceLT,Nat.reduceLeDiff,reduceIte,reduceCtorEq,Nat.reduceEqDiff,implies_true,forall_const,bI,di,beq_self_eq_true,bne_self_eq_false,Int.reduceBEq,Int.reduceBNe,Int.reduceLT,Int.reduceLE,h0,h2,h4,h8,h7,BQ,ad BQ,ad cM,nS,yl,E4,hsT2,zTt])
    refine⟨QA,⟨by unfold maxLen;omega,QA⟩,?_,QA,⟨k+1,QA,h0,h2,h4,rfl,((hKn.ic QA _).ic (zTH _) _).app _,⟨⟨hs,0,47::114::(cf m1++cf k),[],[],false,false⟩,.o (nB.length+2) (A.length+1),A++[(dB ⟨hs,0,47::114::(cf m1++cf k),[],[],false,false⟩ (eJ (302+5 * m3) [(([108,111,99,97,116,105,111,110]:List UInt8),loc)] [] false))],_,rfl,bV (by simpa using htl2) _ _,hSf,((uZ.set KP cM _).oO (aw OS QA _) QA _).app _,.inr ⟨nB.length+2,QB,QA,QA,?_⟩,by simp[hA],fun a ha=>?_⟩⟩,?_⟩
    ·refine bt (fun n=>if n=i then 0 else if n=b2.length then 5 else if n=nB.length+1 then 3 else if n=nB.length+2 then 4 else if n=q then 6 else 2) ?_
     simp only[zTK,List.map_nil,cz,dW,z1,z2,z3,z4,z5,z6,z7,z8,z9,y1,y2,y3,y4,y5,x1,x2,x3,x4,x5,x6,eq_self,if_true,if_false];exact ao QE
    ·rw[show ((nB.set q aq.gone).set bs.length _++[_,_,_])[nB.length+2]? = some _ from aX QB _ 2,zTE,zTp]
     rfl
    ·rcases zTx.1 ha with ha|ha
     ·exact rp a ha
     ·rw[zTw.1 ha];exact hAn
    ·rw[ak (k:=.i64) (n:=(k:Int)+1) rfl];omega
 ·have aK:decide ((k:Int)<n)=false:=QG
  refine gA (zTm h0 (zTm h2 (zTm h4 (zTm h8 (zTm h7 (zTm aK yH)))))) ?_;have mI:=yP hS;have pF:=fX to' hS.fair;have pA:=eP ⟨[],0,[],[],[],false,false⟩ ⟨by decide,by decide,by decide⟩ (bh to');have hAn:rG (dB ⟨[],0,[],[],[],false,false⟩ (bh to')):=(Small.Io (h:=[]) (p:=[]) QB).Nu QA;unfold cA at pF;unfold uc ac dB at pA;simp only at pA;have K0:∀ a∈A++[dB ⟨[],0,[],[],[],false,false⟩ (bh to')],rG a:=fun a ha=>by
   rcases zTx.1 ha with ha|ha
   ·exact rp a ha
   ·rw[zTw.1 ha];exact hAn
  have Iv:k=n:=QA
  (refine aa (pF) ?_;refine gA (zTm h0 (zTm h2 (zTm h4 (zTm h8 h7)))) ?_)
  (refine aa (pA) ?_;refine gA (zTm h0 (zTm h2 (zTm h4 (zTm h8 h7)))) ?_)
  rcases hO with⟨rfl,rfl⟩|⟨q,rfl,hq,KP,cM⟩
  ·refine gA (zTm h0 (zTm h2 (zTm h4 (zTm h8 h7)))) ?_
   exact⟨QA,⟨by unfold maxLen;omega,QA⟩,[dB ⟨[],0,[],[],[],false,false⟩ (bh to')],_,_,rfl,by simp at hA;simp;omega,(fun a ha=>by simp at ha;subst ha;simp only[dB];omega),QA,aY _ _ 1,K0,hD.app _,hK.app _⟩
  ·have jV:=(zTn.1 cM).1
   have nS:∀ (l:List aq) X,(b++l).set q X=b.set q X++l:=fun l X=>aQ jV l X
   simp only[bJ,↓Xn,↓Xo,↓Xg,↓Xd,↓Xe,↓Xf,Tryz.VΓ,Tryz.Γs,Xp,Xi,Nat.reduceAdd,Nat.reduceSub,Nat.reduceLT,Nat.reduceLeDiff,reduceIte,reduceCtorEq,Nat.reduceEqDiff,implies_true,forall_const,bI,di,beq_self_eq_true,bne_self_eq_false,Int.reduceBEq,Int.reduceBNe,Int.reduceLT,Int.reduceLE,h0,h2,h4,h8,h7,ad cM,nS,zTt];refine⟨QA,⟨by unfold maxLen;omega,QA⟩,A++[dB ⟨[],0,[],[],[],false,false⟩ (bh to')],_,b.length+1,QB,QC,(fun a ha=>by simp at ha;subst ha;simp only[dB];omega),QA,?_,K0,(hD.set KP cM _).app _,(hK.ic QA _).app _⟩;rw[aX QB,zTE,zTp];rfl
theorem jR {bs:List aq}{i:Nat}{L:List Int}(h:bg bs i L)(u:bN)(hu:Small u)(raw:Bytes)(hr:raw.length≤3000000):SC QH 72 [.p i 0,.agg (uc u),.str raw] bs (fun r b=>∃ (A:List jD) (L':List Int) (q:Nat),r=.o q A.length∧0<A.length∧A.length≤10∧bs.length≤q∧b[q]? = some (.own (A.flatMap ac) 33 7 A.length true)∧(∀ a∈A,rG a)∧bg b i L'∧fS i bs b):=by
 have dJ:i<bs.length:=by obtain⟨x,hi,-⟩:=h;exact(zTn.1 hi).1
 refine bp 3000 func72 rfl ntmps72 results72 call72 QB (af bs.length _ (by simp[within,within.av,uc,dJ])) ?_;have pA:=eP u hu.fair raw;have hAu:=hu.Nu hr;unfold uc ac dB at pA;simp only at pA;unfold uc;refine dY ?_;refine ae (eF (h.app _) 3 QA) ?_;rintro r b ⟨v,L1,rfl,hv,hD,hk⟩;have hK:=(fS.of (i:=i) ((Kp.refl bs).app _)).trans hk;have hbu:=hk.at (aM bs _) QA;have w1:(v==0)=true∨(v==0)=false:=by cases v==0 <;> simp
 rcases w1 with w1|w1
 rotate_left
 refine gA (zTm w1 hbu) ?_
 (refine aa (pA) ?_;refine dY ?_)
 refine⟨QA,[dB u raw],_,_,rfl,QB,QB,by have:=hK.1;omega,aM _ _,(fun a ha=>by rw[zTw.1 ha];exact hAu),hD.app _,hK.app _⟩;refine gA w1 ?_;refine ae (eF hD 7 QA) ?_;rintro r b2 ⟨m,L2,rfl,hm,MI,bS⟩;have hK2:=hK.trans bS;have hbu2:=bS.at hbu QA;have w2:(m==0)=true∨(m==0)=false:=by cases m==0 <;> simp
 rcases w2 with w2|w2
 refine gA (zTm w2 hbu2) ?_
 (refine aa (pA) ?_;refine dY ?_)
 refine⟨QA,[dB u raw],_,_,rfl,QB,QB,by have:=hK2.1;omega,aM _ _,(fun a ha=>by rw[zTw.1 ha];exact hAu),MI.app _,hK2.app _⟩;have JG:m≠0:=by simpa using w2
 have s1:=iL MI [([97,46,101,120,97,109,112,108,101]:List UInt8),([101,46,101,120,97,109,112,108,101]:List UInt8)] (n:=2) (m:=20) rfl QA QD rfl;refine gA w2 ?_;refine⟨QA,ae s1 ?_⟩;rintro r b3 ⟨hs,L3,rfl,hhs,wO,eL⟩;refine dY ?_;refine ae (eF wO 9 QA) ?_;rintro r b4 ⟨v1,L4,rfl,hv1,CV,mJ⟩;obtain⟨m1,rfl⟩:∃ m:Nat,v1=m:=⟨v1.toNat,QA⟩;have p1:=gV m1 QA;have d1:=cJ 9 m1 QA;have sb:=(hK2.trans eL).trans mJ;have hbu4:=(eL.trans mJ).at hbu2 QA;have hSe:Small ⟨hs,0,47::101::110::100::cf m1,[],[],false,false⟩:=Small.Io QC;refine dY ?_
 (refine aa (p1) ?_;refine dY ?_)
 obtain⟨k,cV⟩:∃ k:Nat,m - 1=k:=⟨(m - 1).toNat,QA⟩;have s2:=Ds (CV.app [.cells [.str hs,.int .i64 0,.str (47::101::110::100::cf m1),.str [],.str [],.bool false,.bool false] 35 true]) _ hSe k QA;unfold uc at s2;simp only at s2;refine gA cV ?_;refine⟨QA,QA,ae s2 ?_⟩;rintro r b5 ⟨A,L5,q,rfl,hA,mc,hq,cM,rp,sM,r8⟩;obtain⟨A0,z,rfl⟩:∃ A0 z,A=A0++[z]:=by
  rcases List.eq_nil_or_concat A with h|⟨A0,z,h⟩
  ·rw[h]at hA;simp at hA
  ·exact⟨A0,z,by rw[h,List.concat_eq_append]⟩
 have Iq:=mc z QB;have mH:A0.length=k:=by simp at hA;exact hA
 have e0:(A0++[z]).length=A0.length+1:=by simp
 rw[e0]at cM;have e1:(((A0.length+1:Nat):Int) - 1).toNat=A0.length:=QA;have nT:=fF A0;have a3:((A0++[z]).flatMap ac)[A0.length * 7+3]? = some (.str z.raw):=by
  rw[zTE,← nT,List.getElem?_append_right QA,zTT];rfl
 have a4:zTL (A0.length * 7) ((A0++[z]).flatMap ac)=A0.flatMap ac:=by
  rw[zTE,← nT,List.take_left]
 have nV:=(sb.app _).trans r8;have hbu5:=r8.at (ad hbu4 _) QA;have hbe5:=r8.at (aM b4 _) (by have:=sb.1;omega);have hbl4:=sb.1;have hbl5:=nV.1;have jV:=(zTn.1 cM).1;have KP:q≠i:=by simp at hq;omega
 have Nh:q≠bs.length:=by simp at hq;omega
 have hqe:q≠b4.length:=by simp at hq;omega
 have nS:∀ (l:List aq) X,(b5++l).set q X=b5.set q X++l:=fun l X=>aQ jV l X
 have JJ:∀ (l:List aq) Y k,(b5.set q Y++l)[b5.length+k]? = l[k]? := fun l Y k=>aX QB l k
 have yl:∀ (l:List aq) Y,(b5.set q Y++l)[b5.length]? = l[0]? := fun l Y=>aX QB l 0
 have E4:∀ (l:List aq) Y X,(b5.set q Y++l).set b5.length X=b5.set q Y++l.set 0 X:=fun l Y X=>by
  have:=oB (b5.set q Y) l X
  rwa [zTt]at this
 have hg3:∀ (l:List aq) Y k X,(b5.set q Y++l).set (b5.length+k) X=b5.set q Y++l.set k X:=fun l Y k X=>by
  have:=EU (b5.set q Y) l k X
  rwa [zTt]at this
 have hu1:=fun Y=>ad (aw hbu5 Nh Y)
 have E3:=fun Y=>ad (aw hbe5 hqe Y)
 have pE:=eP ⟨hs,0,47::101::110::100::cf m1,[],[],false,false⟩ hSe.fair raw;have JR:=hSe.Nu hr;unfold uc ac dB at pE;simp only at pE;simp only[bJ,↓Xn,↓Xo,↓Xg,↓Xd,↓Xe,↓Xf,Tryz.VΓ,Tryz.Γs,Xp,Xi,Nat.reduceAdd,Nat.reduceSub,Nat.reduceLT,Nat.reduceLeDiff,reduceIte,reduceCtorEq,Nat.reduceEqDiff,implies_true,forall_const,bI,di,beq_self_eq_true,bne_self_eq_false,Int.reduceBEq,Int.reduceBNe,Int.reduceLT,Int.reduceLE,e0,e1,cM,a3,a4,nS,zTt,hu1,E3];refine⟨QA,QA,by rw[fF];simp;omega,QA,QA,?_⟩;have r1:=fun(B:List aq) (j:Nat) (hB:B[j]? = some (.own [.str ([108,111,99,97,116,105,111,110]:List UInt8),.str z.raw] 100 2 1 true))=>fj (bs:=B) (x:=.o j 1) (fs:=[(([108,111,99,97,116,105,111,110]:List UInt8),z.raw)]) (.inr ⟨j,true,rfl,QB,hB⟩) QB (by simp[cF];omega) 301 QA [] QB false
 have BL:=lV (st:=301) QA [(([108,111,99,97,116,105,111,110]:List UInt8),z.raw)] [] QB;simp only[cF,zTu,zTC]at BL;have pU:=eP u hu.fair (eJ 301 [(([108,111,99,97,116,105,111,110]:List UInt8),z.raw)] [] false);have hAf:=hu.Nu (raw:=eJ 301 [(([108,111,99,97,116,105,111,110]:List UInt8),z.raw)] [] false) QA;unfold uc ac dB at pU;simp only at pU;have JN:b5.length≠q:=QA;have z1:(b5.length=q)=False:=eq_false QA;have z2:(b4.length=q)=False:=eq_false QA;have z3:∀ k,(b5.length+k=q)=False:=fun k=>eq_false QA
 have hb45:b4.length<b5.length:=(zTn.1 hbe5).1;have z4:(b5.length=b4.length)=False:=eq_false QA;have z5:∀ k,(b5.length+k=b4.length)=False:=fun k=>eq_false QA
 have z6:(bs.length=q)=False:=eq_false QA;have z8:∀ k,(b5.length+k=bs.length)=False:=fun k=>eq_false QA
 (refine aW (pE) ?_;simp only[bJ,↓Xn,↓Xo,↓Xg,↓Xd,↓Xe,↓Xf,Tryz.VΓ,Tryz.Γs,Xp,Xi,Nat.reduceAdd,Nat.reduceSub,Nat.reduceLT,Nat.reduceLeDiff,reduceIte,reduceCtorEq,Nat.reduceEqDiff,implies_true,forall_const,bI,di,beq_self_eq_true,bne_self_eq_false,Int.reduceBEq,Int.reduceBNe,Int.reduceLT,Int.reduceLE,nS,zTt,hu1,E3,JJ,yl,E4,hg3])
 refine⟨QA,⟨by unfold maxLen;omega,QA⟩,?_,QA,?_⟩
 ·refine bt (fun n=>if n=q then 100 else if n=b4.length then 101 else n - b5.length) ?_
  simp only[zTK,List.map_nil,cz,dW,zTT,Nat.sub_self,z1,z2,z3,z4,z5,eq_self,if_true,if_false];exact ao QE
 refine bE [] (r1 _ (b5.length+3) (aX QB _ 3)) (fun _ _ _=>rfl) ?_;simp only[bJ,↓Xn,↓Xo,↓Xg,↓Xd,↓Xe,↓Xf,Tryz.VΓ,Tryz.Γs,Xp,Xi,Nat.reduceAdd,Nat.reduceSub,Nat.reduceLT,Nat.reduceLeDiff,reduceIte,reduceCtorEq,Nat.reduceEqDiff,implies_true,forall_const,bI,di,beq_self_eq_true,bne_self_eq_false,Int.reduceBEq,Int.reduceBNe,Int.reduceLT,Int.reduceLE,nS,zTt,hu1,E3,JJ,yl,E4,hg3]
 (refine aW (pU) ?_;simp only[bJ,↓Xn,↓Xo,↓Xg,↓Xd,↓Xe,↓Xf,Tryz.VΓ,Tryz.Γs,Xp,Xi,Nat.reduceAdd,Nat.reduceSub,Nat.reduceLT,Nat.reduceLeDiff,reduceIte,reduceCtorEq,Nat.reduceEqDiff,implies_true,forall_const,bI,di,beq_self_eq_true,bne_self_eq_false,Int.reduceBEq,Int.reduceBNe,Int.reduceLT,Int.reduceLE,nS,zTt,hu1,E3,JJ,yl,E4,hg3])
 refine⟨QA,⟨by unfold maxLen;omega,QA⟩,?_,A0++[dB ⟨hs,0,47::101::110::100::cf m1,[],[],false,false⟩ raw]++[dB u (eJ 301 [(([108,111,99,97,116,105,111,110]:List UInt8),z.raw)] [] false)],_,b5.length+5,QB,QB,QC,QA,?_,fun a ha=>?_,(sM.set KP cM _).app _,(nV.ic (by simp at hq;omega) _).app _⟩
 ·refine bt (fun n=>if n=bs.length then 100 else n - b5.length) ?_
  simp only[zTK,List.map_nil,cz,dW,zTT,Nat.sub_self,z8,eq_self,if_true,if_false];exact ao QE
 ·rw[aX QB]
  simp[ac,dB]
 ·rcases zTx.1 ha with ha|ha
  ·rcases zTx.1 ha with ha|ha
   ·exact rp a (by simp[ha])
   ·rw[zTw.1 ha];exact JR
  ·rw[zTw.1 ha];exact hAf
theorem Rs.BC {b:List aq}{x:SV}{L:List Bytes}(h:Rs b x L)(e:TypeId):zV (.slice e) x=some (.int .i64 L.length):=by
 rcases h with⟨rfl,rfl⟩|⟨j,rfl,-⟩ <;> rfl
theorem Ri.len {b:List aq}{x:SV}{L:List Tv}(h:Ri b x L)(e:TypeId):zV (.slice e) x=some (.int .i64 L.length):=by
 rcases h with⟨rfl,rfl⟩|⟨j,rfl,-⟩ <;> rfl
theorem IZ {bs:List aq}{d:Nat}{v:Tv}(hv:Tr bs (d+1) v)(hd:1≤d)(key:Bytes):SC QH 196 [.agg (tv v),.str key] bs (fun r b=>∃ x ok,r=.eh [.agg (tv x),.bool ok]∧Kp bs b∧Tr b d x):=by
 obtain⟨e,rfl⟩:∃ e,d=e+1:=⟨d - 1,QA⟩;have It:=hv.oc;obtain⟨v1,v2,v3,v4⟩:=It;have ho:(one v.xk&&one v.xi)=true:=by rw[v3,v4];rfl
 obtain⟨g1,g2,K,L,g3,g4,g5,g6,g7,g8,g9,g10⟩:=hv;refine bp 3000 func196 rfl ntmps196 results196 call196 QB (af bs.length _ (by simp[within,within.av,tv,v1,v2])) ?_;by_cases h7:v.k=7
 ·have hb7:(v.k != 7)=false:=by rw[h7];rfl
  have sJ:=g3.BC;have r7:=g4.len;have hKL:=g8 h7;unfold tv;refine gA (zTm ho (zTm hb7 (zTm sJ r7))) ?_;refine ax (fun σ=>∃ k:Nat,k≤K.length∧lk 1 σ.t=some (.str key)∧lk 2 σ.t=some (.p bs.length 0)∧lk 4 σ.t=some (.p (bs.length+1) 0)∧lk 13 σ.t=some (.int .i64 K.length)∧lk 14 σ.t=some (.int .i64 k)∧σ.b=bs++[.cells [.int .i64 v.k,.str v.t,v.xk,v.xi] 139 true,.cells [.int .i64 0,.str [],.ai,.ai] 139 true]) (fun σ=>K.length - fA 14 σ) ⟨0,QA,rfl,rfl,rfl,rfl,rfl,rfl⟩ ?_;rintro⟨t,b⟩ ⟨k,hk,h1,h2,h4,gO,oE,hb⟩;simp only at h1 h2 h4 gO oE hb;subst hb;rw[ak oE];by_cases az:k<K.length
  ·have aK:decide ((k:Int)<K.length)=true:=QF
   rcases g3 with⟨-,rfl⟩|⟨j,iQ,hj⟩
   ·exact absurd az QB
   rcases g4 with⟨-,rfl⟩|⟨q,jK,hq⟩
   ·exact absurd hKL (by simp;rintro rfl;simp at az)
   have BO:(K.map SV.str)[k * 1]? = some (.str K[k]):=by simp[az]
   have hltL:k<L.length:=QA;have hlt3:decide ((k:Int)<L.length)=true:=QF;have hu:zTL 4 (zTP (k * 4) (L.flatMap tv))=[.int .i64 L[k].k,.str L[k].t,L[k].xk,L[k].xi]:=xl L k hltL;have mI:=oI L;have hx:=g10 L[k] (zTz hltL);obtain⟨x1,x2,x3,x4⟩:=hx.oc;have qZ:(one L[k].xk&&one L[k].xi)=true:=by rw[x3,x4];rfl
   refine gA (zTm h1 (zTm h2 (zTm h4 (zTm gO (zTm oE (zTm aK (zTm hlt3 (zTm iQ (zTm jK (zTm (ad hj) (zTm (ad hq) (zTm BO (zTm hu (zTm qZ (zTm r7 (zTm sJ (zTm Bool.and_true Bool.and_self))))))))))))))))) ?_;refine⟨QA,QC,fun _=>⟨QA,QA,L[k],true,rfl,(Kp.refl bs).app _,hx.ro ((Ro.refl bs).app _)⟩,fun _=>⟨QA,⟨k+1,QA,rfl⟩,?_⟩⟩;rw[ak (k:=.i64) (n:=(k:Int)+1) rfl];omega
  ·have aK:decide ((k:Int)<K.length)=false:=QG
   refine gA (zTm h1 (zTm h2 (zTm h4 (zTm gO (zTm oE aK))))) ?_;exact⟨⟨0,[],.ai,.ai⟩,false,rfl,(Kp.refl bs).app _,Tr.zero _ _⟩
 ·have hb7:(v.k != 7)=true:=bne_iff_ne.2 h7
  unfold tv;refine gA (zTm ho hb7) ?_;exact⟨⟨0,[],.ai,.ai⟩,false,rfl,(Kp.refl bs).app _,Tr.zero _ _⟩
theorem Tr.ex {b:List aq}{d:Nat}{v:Tv}(h:Tr b d v):∃ e,d=e+1:=by
 cases d with
 | zero=>exact h.elim
 | succ e=>exact⟨e,rfl⟩
theorem uw:∀ (d:Nat){bs:List aq}{v:Tv},Tr bs d v→∀ depth:Int,0≤depth→depth≤64→SC QH 192 [.agg (tv v),.int .i64 depth] bs (fun r b=>∃ n:Nat,r=.int .i64 n∧n≤20001∧Kp bs b)
 | 0,_,_,h,_,_,_=>h.elim
 | d+1,bs,v,hv,depth,wL,vL=>by
   have ih:=fun {bs:List aq} {v:Tv} (h:Tr bs d v) (depth:Int) h0 h1=>uw d h depth h0 h1
   have It:=hv.oc;obtain⟨v1,v2,v3,v4⟩:=It;have ho:(one v.xk&&one v.xi)=true:=by rw[v3,v4];rfl
   obtain⟨g1,g2,K,L,g3,g4,g5,g6,g7,g8,g9,g10⟩:=hv;refine bp 3000 func192 rfl ntmps192 results192 call192 QB (af bs.length _ (by simp[within,within.av,tv,v1,v2])) ?_;have r7:=g4.len;obtain⟨c,hc⟩:∃ c:Bool,c=(v.k==6||v.k==7):=⟨_,rfl⟩;unfold tv;have hk67:(v.k==6)=true∨(v.k==6)=false∧(v.k==7)=true∨(v.k==6)=false∧(v.k==7)=false:=by
    cases h6:v.k==6 <;> cases h7:v.k==7 <;> simp
   rcases hk67 with h6|⟨h6,h7⟩|⟨h6,h7⟩
   all_goals
    first|refine gA (zTm ho (zTm h6 (zTm h7 r7))) ?_|refine gA (zTm ho (zTm h6 r7)) ?_
    first|refine⟨QA,fun hc=>⟨0,rfl,QA,(Kp.refl bs).app _⟩,fun hc=>?_⟩|refine⟨fun hc=>⟨0,rfl,QA,(Kp.refl bs).app _⟩,fun hc=>?_⟩
    have hc:=of_decide_eq_false hc;refine ax (fun σ=>∃ (k n:Nat) (inner:Int),k≤L.length∧n≤20000∧0≤inner∧inner≤64∧lk 5 σ.t=some (.int .i64 inner)∧lk 6 σ.t=some (.int .i64 n)∧lk 24 σ.t=some v.xi∧lk 25 σ.t=some (.int .i64 L.length)∧lk 26 σ.t=some (.int .i64 k)∧Kp bs σ.b) (fun σ=>L.length - fA 26 σ) ⟨0,1,_,QA,QA,?_,?_,rfl,rfl,rfl,rfl,rfl,(Kp.refl bs).app _⟩ ?_
    ·omega
    ·omega
    rintro⟨t,b⟩ ⟨k,n,inner,hk,hn,hi0,Nn,h5,h6,sN,yI,vM,bm⟩;simp only at h5 h6 sN yI vM bm;rw[ak vM];by_cases az:k<L.length
    ·have aK:decide ((k:Int)<L.length)=true:=QF
     rcases g4 with⟨-,rfl⟩|⟨q,jK,hq⟩
     ·exact absurd az QB
     have cM:=bm.at hq;have hu:zTL 4 (zTP (k * 4) (L.flatMap tv))=[.int .i64 L[k].k,.str L[k].t,L[k].xk,L[k].xi]:=xl L k az;have mI:=oI L;have hx:=g10 L[k] (zTz az);obtain⟨x1,x2,x3,x4⟩:=hx.oc;have qZ:(one L[k].xk&&one L[k].xi)=true:=by rw[x3,x4];rfl
     refine gA (zTm h5 (zTm h6 (zTm sN (zTm yI (zTm vM (zTm aK (zTm jK (zTm cM (zTm hu qZ))))))))) ?_;refine⟨QA,QA,ae (ih (hx.ro (bm.ro.app _)) inner hi0 Nn) ?_⟩;rintro r b1 ⟨m,rfl,hm,jX⟩;have eA:=(bm.app [_]).trans jX;refine gA (zTm h5 (zTm h6 (zTm sN (zTm yI vM)))) ?_;refine⟨fun _=>⟨0,rfl,QA,eA⟩,fun _=>⟨QA,fun _=>⟨20001,rfl,QA,eA⟩,fun mK=>⟨QA,⟨k+1,n+m,inner,QA,by have:=of_decide_eq_false mK;omega,hi0,Nn,rfl,rfl,jK,rfl,eA⟩,?_⟩⟩⟩;rw[ak (k:=.i64) (n:=(k:Int)+1) rfl];omega
    ·have aK:decide ((k:Int)<L.length)=false:=QG
     refine gA (zTm h5 (zTm h6 (zTm sN (zTm yI (zTm vM aK))))) ?_;exact⟨n,rfl,QA,bm⟩
theorem xw:∀ (d:Nat){bs:List aq}{v:Tv},Tr bs d v→SC QH 133 [.agg (tv v)] bs (fun r b=>∃ x,r=.bool x∧Kp bs b)
 | 0,_,_,h=>h.elim
 | d+1,bs,v,hv=>by
   have ih:=fun {bs:List aq} {v:Tv} (h:Tr bs d v)=>xw d h
   have It:=hv.oc;obtain⟨v1,v2,v3,v4⟩:=It;have ho:(one v.xk&&one v.xi)=true:=by rw[v3,v4];rfl
   obtain⟨g1,g2,K,L,g3,g4,g5,g6,g7,g8,g9,g10⟩:=hv;refine bp 3000 func133 rfl ntmps133 results133 call133 QB (af bs.length _ (by simp[within,within.av,tv,v1,v2])) ?_;have r7:=g4.len;have sJ:=g3.BC;unfold tv;refine gA (zTm ho (zTm r7 sJ)) ?_;refine ax (fun σ=>∃ (k n:Nat),k≤K.length∧n≤20000+20000 * k∧lk 1 σ.t=some (.p bs.length 0)∧lk 3 σ.t=some (.int .i64 n)∧lk 12 σ.t=some v.xk∧lk 13 σ.t=some (.int .i64 K.length)∧lk 14 σ.t=some (.int .i64 k)∧σ.b=bs++[.cells [.int .i64 v.k,.str v.t,v.xk,v.xi] 139 true]) (fun σ=>K.length - fA 14 σ) ⟨0,v.t.length,QA,QA,rfl,rfl,rfl,rfl,rfl,rfl⟩ ?_;rintro⟨t,b⟩ ⟨k,n,hk,hn,h1,h3,qq,gO,oE,hb⟩;simp only at h1 h3 qq gO oE hb;subst hb;rw[ak oE];by_cases az:k<K.length
   ·have aK:decide ((k:Int)<K.length)=true:=QF
    rcases g3 with⟨-,rfl⟩|⟨j,iQ,hj⟩
    ·exact absurd az QB
    have BO:(K.map SV.str)[k * 1]? = some (.str K[k]):=by simp[az]
    have u9:=g7 K[k] (zTz az);refine gA (zTm h1 (zTm h3 (zTm qq (zTm gO (zTm oE (zTm aK (zTm iQ (zTm (ad hj) BO)))))))) ?_;refine⟨QA,QC,QA,QA,⟨k+1,n+K[k].length,QA,QA,rfl,rfl⟩,?_⟩;rw[ak (k:=.i64) (n:=(k:Int)+1) rfl];omega
   ·have aK:decide ((k:Int)<K.length)=false:=QG
    refine gA (zTm h1 (zTm h3 (zTm qq (zTm gO (zTm oE (zTm aK r7)))))) ?_;refine⟨fun _=>⟨_,rfl,(Kp.refl bs).app _⟩,fun _=>?_⟩;refine ax (fun σ=>∃ (k:Nat),k≤L.length∧lk 26 σ.t=some v.xi∧lk 27 σ.t=some (.int .i64 L.length)∧lk 28 σ.t=some (.int .i64 k)∧Kp bs σ.b) (fun σ=>L.length - fA 28 σ) ⟨0,QA,rfl,rfl,rfl,(Kp.refl bs).app _⟩ ?_;rintro⟨t,b⟩ ⟨k,hk,sN,yI,vM,bm⟩;simp only at sN yI vM bm;rw[ak vM];by_cases az:k<L.length
    ·have aK:decide ((k:Int)<L.length)=true:=QF
     rcases g4 with⟨-,rfl⟩|⟨q,jK,hq⟩
     ·exact absurd az QB
     have cM:=bm.at hq;have hu:zTL 4 (zTP (k * 4) (L.flatMap tv))=[.int .i64 L[k].k,.str L[k].t,L[k].xk,L[k].xi]:=xl L k az;have mI:=oI L;have hx:=g10 L[k] (zTz az);obtain⟨x1,x2,x3,x4⟩:=hx.oc;have qZ:(one L[k].xk&&one L[k].xi)=true:=by rw[x3,x4];rfl
     refine gA (zTm sN (zTm yI (zTm vM (zTm aK (zTm jK (zTm cM (zTm hu qZ))))))) ?_;refine⟨QA,QA,ae (ih (hx.ro (bm.ro.app _))) ?_⟩;rintro r b1 ⟨m,rfl,jX⟩;have eA:=(bm.app [_]).trans jX;refine gA (zTm sN (zTm yI vM)) ?_;refine⟨fun _=>⟨_,rfl,eA⟩,fun _=>⟨QA,⟨k+1,QA,jK,rfl,eA⟩,?_⟩⟩;rw[ak (k:=.i64) (n:=(k:Int)+1) rfl];omega
    ·have aK:decide ((k:Int)<L.length)=false:=QG
     refine gA (zTm sN (zTm yI (zTm vM aK))) ?_;exact⟨_,rfl,bm⟩
def Le (M:Nat)(L:List Bytes):Prop:=∀ s∈L,s.length≤M
def Oy (i:Nat)(σ:St):Nat:=match lk i σ.t with
 | some (.o _ n)=>n
 | _=>0
theorem Rs.Oy {b:List aq}{x:SV}{L:List Bytes}(h:Rs b x L){i:Nat}{σ:St}(hx:lk i σ.t=some x):Oy i σ=L.length:=by
 unfold Go.Proofs.YtnmlimehgifadaaGreatDoor.Oy;rw[hx];rcases h with⟨rfl,rfl⟩|⟨j,rfl,-⟩ <;> rfl
theorem fO {b:List aq}{j:Nat}{X:aq}(h:b[j]? = some X):b.set j X=b:=by
 apply List.ext_getElem?
 intro q;rw[List.getElem?_set];split
 ·rename_i hq
  subst hq;rw[if_pos (zTn.1 h).1];exact h.symm
 ·rfl
theorem Rs.src {b:List aq}{x:SV}{L:List Bytes}(h:Rs b x L):rV b 1 x=some (L.length,L.map SV.str):=by
 rcases h with⟨rfl,rfl⟩|⟨j,rfl,h⟩
 ·rfl
 ·simp[rV,h]
theorem yv (L:List Bytes):(L.map SV.str).all Vc.one=true:=by
 induction L with
 | nil=>rfl
 | cons x r ih=>simpa[Vc.one] using ih
theorem Le.app {M:Nat}{A B:List Bytes}(h:Le M A)(k:Le M B):Le M (A++B):=fun s hs=>by
 rcases zTx.1 hs with h1|h1
 ·exact h s h1
 ·exact k s h1
def xb (bs:List aq)(M n:Nat)(σ:St)(m:Nat):Prop:=∃ (x y o:SV) (A B O:List Bytes),lk 3 σ.t=some x∧lk 4 σ.t=some y∧lk 5 σ.t=some o∧Rs σ.b x A∧Rs σ.b y B∧Le M A∧Le M B∧Le M O∧A.length+B.length+O.length=n∧A.length+B.length=m∧Kp bs σ.b∧((o=.ai∧O=[])∨∃ q,o=.o q O.length∧bs.length≤q∧σ.b[q]? = some (.own (O.map SV.str) 9 1 O.length true))
theorem xb.mu {bs:List aq}{M n m:Nat}{σ:St}(h:xb bs M n σ m):Oy 3 σ+Oy 4 σ=m:=by
 obtain⟨x,y,o,A,B,O,h3,h4,h5,hA,hB,-,-,-,-,hm,-⟩:=h;rw[hA.Oy h3,hB.Oy h4,hm]
theorem xb.left {bs b:List aq}{M n:Nat}{t:List (Nat × SV)}{A B O:List Bytes}(mH:0<A.length){qa qo:Nat}{y:SV}(h3:lk 3 t=some (.o qa (A.length - zTW 1)))(h4:lk 4 t=some y)(h5:lk 5 t=some (.o qo (O.length+1)))(ha:b[qa]? = some (.own (A.tail.map SV.str) 9 1 (A.length - zTW 1) false))(hB:Rs b y B)
 (ho:b[qo]? = some (.own (O.map SV.str++[.str (A[0]'mH)]) 9 1 (O.length+1) true)) (hq:bs.length≤qo) (lA:Le M A) (lB:Le M B) (lO:Le M O) (cF:A.length+B.length+O.length=n) (bm:Kp bs b):∃ m,m<A.length+B.length∧xb bs M n ⟨t,b⟩ m:=by
 have e1:zTW 1=1:=rfl;rw[e1]at h3 ha;have et:A.tail.length=A.length - 1:=List.length_tail ..;have eo:(O++[A[0]'mH]).length=O.length+1:=by simp
 refine⟨A.length - 1+B.length,QA,_,y,_,A.tail,B,O++[A[0]'mH],h3,h4,h5,.inr ⟨qa,by rw[et],by rw[et];exact ha⟩,hB,fun s hs=>lA s (List.mem_of_mem_tail hs),lB,lO.app (fun s hs=>?_),by rw[et,eo];omega,by rw[et],bm,.inr ⟨qo,by rw[eo],hq,?_⟩⟩
 ·rw[zTw.1 hs]
  exact lA _ (zTz mH)
 ·rw[eo]
  simpa using ho
theorem xb.right {bs b:List aq}{M n:Nat}{t:List (Nat × SV)}{A B O:List Bytes}(nW:0<B.length){qa qo:Nat}{x:SV}(h3:lk 3 t=some x)(h4:lk 4 t=some (.o qa (B.length - zTW 1)))(h5:lk 5 t=some (.o qo (O.length+1)))(ha:b[qa]? = some (.own (B.tail.map SV.str) 9 1 (B.length - zTW 1) false))(hA:Rs b x A)
 (ho:b[qo]? = some (.own (O.map SV.str++[.str (B[0]'nW)]) 9 1 (O.length+1) true)) (hq:bs.length≤qo) (lA:Le M A) (lB:Le M B) (lO:Le M O) (cF:A.length+B.length+O.length=n) (bm:Kp bs b):∃ m,m<A.length+B.length∧xb bs M n ⟨t,b⟩ m:=by
 have e1:zTW 1=1:=rfl;rw[e1]at h4 ha;have et:B.tail.length=B.length - 1:=List.length_tail ..;have eo:(O++[B[0]'nW]).length=O.length+1:=by simp
 refine⟨A.length+(B.length - 1),QA,x,_,_,A,B.tail,O++[B[0]'nW],h3,h4,h5,hA,.inr ⟨qa,by rw[et],by rw[et];exact ha⟩,lA,fun s hs=>lB s (List.mem_of_mem_tail hs),lO.app (fun s hs=>?_),by rw[et,eo];omega,by rw[et],bm,.inr ⟨qo,by rw[eo],hq,?_⟩⟩
 ·rw[zTw.1 hs]
  exact lB _ (zTz nW)
 ·rw[eo]
  simpa using ho
theorem Pu (x:Nat)(hx:x≤9223372036854775807):j0 .quo .i64 (x:Int) 2=((x / 2:Nat):Int):=by
 have h:j0 .quo .i64 (x:Int) 2=IntKind.i64.wrap (Int.tdiv x ((2:Nat):Int)):=rfl;have h2:Int.tdiv (x:Int) ((2:Nat):Int)=((x / 2:Nat):Int):=by
  first
  | exact(Int.ofNat_tdiv x 2).symm
  | exact Int.ofNat_tdiv x 2
  | (rw[Int.tdiv_eq_ediv_of_nonneg QA];omega)
 have h3:x / 2≤x:=Nat.div_le_self x 2;rw[h,h2];generalize x / 2=z at h3 ⊢;simp[IntKind.wrap,IntKind.bits,IntKind.signed];omega
def NP:OT:=.cI 0 (.cI 1 (.cI 2 (.cI 3 (.cI 6 (.cI 7 (.cI 8 (.cI 9 (.alt (.one 4 (.alt (.one 5 (.one 10 (.one 11 (.one 12 (.one 13 .leaf))))) (.one 10 (.one 5 (.one 11 (.one 12 (.one 13 .leaf))))))) (.one 10 (.one 4 (.one 5 (.one 11 (.one 12 (.one 13 .leaf))))))))))))))
def vU:OT:=.cI 0 (.cI 1 (.cI 6 (.alt (.one 2 (.alt (.one 3 (.alt (.one 4 (.alt (.one 5 (.alt (.one 8 (.one 7 (.one 9 .leaf))) (.one 7 (.one 8 (.one 9 .leaf))))) (.one 7 (.one 5 (.one 8 (.one 9 .leaf)))))) (.one 7 (.one 4 (.one 5 (.one 8 (.one 9 .leaf))))))) (.one 7 (.one 3 (.one 4 (.one 5 (.one 8 (.one 9 .leaf)))))))) (.one 7 (.one 2 (.one 3 (.one 4 (.one 5 (.one 8 (.one 9 .leaf))))))))))
theorem nF (M:Nat)(hM:M≤1000000):∀ (n:Nat){bs:List aq}{x:SV}{L:List Bytes},Rs bs x L→L.length≤n→n≤1000→Le M L→SC QH 195 [x] bs (fun r b=>∃ L',Rs b r L'∧L'.length=L.length∧Le M L'∧Kp bs b)
 | 0,bs,x,L,hx,hn,_,hL=>by
   refine SC.wV ?_;have Aa:=hx.within;have o6:=hx.BC;obtain rfl:=zTF.1 (Nat.le_zero.1 hn);refine tg (fun _=>.ord []) 3000 func195 rfl ntmps195 results195 call195 QB (af bs.length _ (by simp[within,within.av,Aa])) ?_;have e2:decide (((0:Nat):Int)<2)=true:=rfl;simp only[bJ,↓Xn,↓Xo,↓Xg,↓Xd,↓Xe,↓Xf,Tryz.VΓ,Tryz.Γs,Xp,Xi,Nat.reduceAdd,Nat.reduceSub,Nat.reduceLT,Nat.reduceLeDiff,reduceIte,reduceCtorEq,Nat.reduceEqDiff,implies_true,forall_const,bI,di,beq_self_eq_true,bne_self_eq_false,Int.reduceBEq,Int.reduceBNe,Int.reduceLT,Int.reduceLE,o6,zTC,e2];exact⟨QA,[],hx.ro (gY (zTH _)).ro,rfl,hL,(Kp.refl bs).iE⟩
 | n+1,bs,x,L,hx,hn,uZ,hL=>by
   have ih:=fun {bs:List aq} {x:SV} {L:List Bytes} (h:Rs bs x L) (hl:L.length≤n) (hm:Le M L)=>nF M hM n h hl QA hm
   refine SC.wV ?_;have Aa:=hx.within;have o6:=hx.BC;refine tg (fun n=>if n=3 then .all NP else if n=7 then .all vU else if n=8 then .all vU else .ord []) 3000 func195 rfl ntmps195 results195 call195 QB (af bs.length _ (by simp[within,within.av,Aa])) ?_;by_cases h2:L.length<2
   ·have e2:decide ((L.length:Int)<2)=true:=QF
    refine gA (zTm o6 e2) ?_;exact⟨QA,L,hx.ro (gY (zTH _)).ro,rfl,hL,(Kp.refl bs).iE⟩
   ·have e2:decide ((L.length:Int)<2)=false:=QG
    rcases hx with⟨rfl,rfl⟩|⟨j,rfl,hj⟩
    ·exact absurd h2 QB
    have e9:=(zTn.1 hj).1;have hq:j0 .quo .i64 (L.length:Int) 2=((L.length / 2:Nat):Int):=Pu _ QA;have e3:zTL (L.length / 2 * 1) (L.map SV.str)=(L.take (L.length / 2)).map SV.str:=by rw[Nat.mul_one,List.map_take]
    have e4:zTP (L.length / 2 * 1) (zTL (L.length * 1) (L.map SV.str))=(L.drop (L.length / 2)).map SV.str:=by rw[Nat.mul_one,Nat.mul_one,zTX QB,List.map_drop]
    have f1:(L.take (L.length / 2)).length=L.length / 2:=by rw[List.length_take];omega
    have f2:(L.drop (L.length / 2)).length=L.length - L.length / 2:=by rw[List.length_drop]
    have r1:∀ (b:List aq) (q:Nat),b[q]? = some (.own ((L.take (L.length / 2)).map SV.str) 9 1 (L.length / 2) false)→Rs b (.o q (L.length / 2)) (L.take (L.length / 2)):=fun b q h=>.inr ⟨q,by rw[f1],by rw[f1];exact h⟩
    have r2:∀ (b:List aq) (q:Nat),b[q]? = some (.own ((L.drop (L.length / 2)).map SV.str) 9 1 (L.length - L.length / 2) false)→Rs b (.o q (L.length - L.length / 2)) (L.drop (L.length / 2)):=fun b q h=>.inr ⟨q,by rw[f2],by rw[f2];exact h⟩
    have l1:Le M (L.take (L.length / 2)):=fun s hs=>hL s (List.mem_of_mem_take hs)
    have l2:Le M (L.drop (L.length / 2)):=fun s hs=>hL s (List.mem_of_mem_drop hs)
    refine gA e2 ?_;refine uD (fun σ=>∃ (x y:SV) (A B:List Bytes),lk 3 σ.t=some x∧lk 4 σ.t=some y∧Rs σ.b x A∧Rs σ.b y B∧Le M A∧Le M B∧A.length+B.length=L.length∧Kp bs σ.b) QE ?_ ?_
    ·simp only[bJ,↓Xn,↓Xo,↓Xg,↓Xd,↓Xe,↓Xf,Tryz.VΓ,Tryz.Γs,Xp,Xi,Nat.reduceAdd,Nat.reduceSub,Nat.reduceLT,Nat.reduceLeDiff,reduceIte,reduceCtorEq,Nat.reduceEqDiff,implies_true,forall_const,bI,di,beq_self_eq_true,bne_self_eq_false,Int.reduceBEq,Int.reduceBNe,Int.reduceLT,Int.reduceLE,NP,hq,hj,ad hj,fO hj,fO (ad hj _),e3,e4]
     refine⟨QA,QA,⟨QA,?_,?_⟩,?_⟩
     ·refine ae (ih (r1 _ _ (aM _ _)) QA l1) ?_
      rintro x1 b1 ⟨A,hA,K0,lA,cV⟩;have hbj1:=cV.at (ad hj _);have jX:=((Kp.refl bs).app _).trans cV;refine gA (zTm hq (zTm hbj1 (zTm (fO hbj1) e4))) ?_;refine⟨QA,ae (ih (r2 _ _ (aM _ _)) QA l2) ?_⟩;rintro y1 b2 ⟨B,hB,Px,lB,bS⟩;refine dY ?_;exact⟨x1,y1,A,B,rfl,rfl,hA.ro ((Ro.refl _).app _ |>.trans bS.ro),hB,lA,lB,QA,(jX.app _).trans bS⟩
     ·refine⟨QA,ae (ih (r1 _ _ (aM _ _)) QA l1) ?_⟩
      rintro x1 b1 ⟨A,hA,K0,lA,cV⟩;have jX:=((Kp.refl bs).app _).trans cV;refine dY ?_;refine ae (ih (r2 _ _ (cV.at (aY _ _ 1))) QA l2) ?_;rintro y1 b2 ⟨B,hB,Px,lB,bS⟩;refine dY ?_;exact⟨x1,y1,A,B,rfl,rfl,hA.ro bS.ro,hB,lA,lB,QA,jX.trans bS⟩
     ·refine⟨QA,QA,ae (ih (r1 _ _ (aY _ _ 1)) QA l1) ?_⟩
      rintro x1 b1 ⟨A,hA,K0,lA,cV⟩;have jX:=((Kp.refl bs).app _).trans cV;refine dY ?_;refine ae (ih (r2 _ _ (cV.at (aM _ _))) QA l2) ?_;rintro y1 b2 ⟨B,hB,Px,lB,bS⟩;refine dY ?_;exact⟨x1,y1,A,B,rfl,rfl,hA.ro bS.ro,hB,lA,lB,QA,jX.trans bS⟩
    ·rintro⟨t,b⟩ ⟨x,y,A,B,h3,h4,hA,hB,lA,lB,rp,bm⟩
     simp only at h3 h4 hA hB bm;refine gA (zTm h3 h4) ?_;refine ax (fun σ=>∃ m,xb bs M L.length σ m) (fun σ=>Oy 3 σ+Oy 4 σ) ⟨_,x,y,.ai,A,B,[],h3,h4,rfl,hA,hB,lA,lB,(by intro s hs;cases hs),(by simpa using rp),rfl,bm,.inl ⟨rfl,rfl⟩⟩ ?_;clear h3 h4 hA hB lA lB rp bm t b x y A B;rintro⟨t,b⟩ ⟨m,x,y,o,A,B,O,h3,h4,h5,hA,hB,lA,lB,lO,cF,hm,bm,ho⟩;simp only at h3 h4 h5 hA hB bm ho;rw[hA.Oy h3,hB.Oy h4];have K0:=hA.BC;have Px:=hB.BC;by_cases mH:0<A.length
     ·by_cases nW:0<B.length
      ·have c1:decide ((0:Int)<A.length)=true:=QF
       have c2:decide ((0:Int)<B.length)=true:=QF;have hAA:=hA;have hBB:=hB;rcases hA with⟨rfl,rfl⟩|⟨ja,rfl,Nl⟩
       ·exact absurd mH QB
       rcases hB with⟨rfl,rfl⟩|⟨jb,rfl,KT⟩
       ·exact absurd nW QB
       have a0:(A.map SV.str)[zTW 0 * 1]? = some (.str (A[0]'mH)):=by simp[mH]
       have b0:(B.map SV.str)[zTW 0 * 1]? = some (.str (B[0]'nW)):=by simp[nW]
       refine gA (zTm h3 (zTm h4 (zTm h5 (zTm K0 (zTm Px (zTm c1 (zTm c2 (zTm Nl (zTm KT (zTm a0 b0)))))))))) ?_;have a1:zTP (zTW 1 * 1) (zTL (A.length * 1) (A.map SV.str))=A.tail.map SV.str:=by rw[Nat.mul_one,zTX QB];simp
       have b1:zTP (zTW 1 * 1) (zTL (B.length * 1) (B.map SV.str))=B.tail.map SV.str:=by rw[Nat.mul_one,zTX QB];simp
       refine⟨QA,QC,QA,QC,?_,fun _=>?_,fun _=>?_⟩
       ·refine bt (fun _=>0) ?_
        simp only[zTK,List.map_nil,cz,dW];exact ao QE
       ·refine uD (fun σ=>∃ m,m<A.length+B.length∧xb bs M L.length σ m) QE ?_ ?_
        ·have u9:=bm.1
         rcases ho with⟨rfl,rfl⟩|⟨q,rfl,hq,cM⟩
         ·simp only[bJ,↓Xn,↓Xo,↓Xg,↓Xd,↓Xe,↓Xf,Tryz.VΓ,Tryz.Γs,Xp,Xi,Nat.reduceAdd,Nat.reduceSub,Nat.reduceLT,Nat.reduceLeDiff,reduceIte,reduceCtorEq,Nat.reduceEqDiff,implies_true,forall_const,bI,di,beq_self_eq_true,bne_self_eq_false,Int.reduceBEq,Int.reduceBNe,Int.reduceLT,Int.reduceLE,vU,h3,h4,h5,Nl,ad Nl,fO Nl,fO (ad Nl _),a0,a1]
          repeat' apply zTm
          all_goals first
           | omega
           | (unfold maxLen;omega)
           | (simp;omega)
           | exact xb.left (O:=[]) mH rfl h4 rfl (by first | exact aM _ _ | exact aY _ _ 1 | exact aY _ _ 2) (hBB.ro ((Ro.refl b).app _)) (by first | exact aM _ _ | exact aY _ _ 1 | exact aY _ _ 2) QA lA lB lO cF (bm.app _)
         ·have jV:=(zTn.1 cM).1
          have nS:∀ (l:List aq) X,(b++l).set q X=b.set q X++l:=fun l X=>aQ jV l X
          have hnq:q≠ja:=by rintro rfl;rw[cM]at Nl;simp at Nl
          have fU:=aw Nl hnq .gone;simp only[bJ,↓Xn,↓Xo,↓Xg,↓Xd,↓Xe,↓Xf,Tryz.VΓ,Tryz.Γs,Xp,Xi,Nat.reduceAdd,Nat.reduceSub,Nat.reduceLT,Nat.reduceLeDiff,reduceIte,reduceCtorEq,Nat.reduceEqDiff,implies_true,forall_const,bI,di,beq_self_eq_true,bne_self_eq_false,Int.reduceBEq,Int.reduceBNe,Int.reduceLT,Int.reduceLE,vU,h3,h4,h5,cM,ad cM,Nl,ad Nl,fO Nl,fO (ad Nl _),ad fU,fO (ad fU _),nS,zTt,a0,a1];repeat' apply zTm
          all_goals first
           | omega
           | (unfold maxLen;omega)
           | (simp;omega)
           | exact xb.left mH rfl h4 rfl (by first | exact aX QB _ 0 | exact aX QB _ 1 | exact aX QB _ 2) (hBB.ro (((Ro.refl b).rW cM _).app _)) (by first | exact aX QB _ 0 | exact aX QB _ 1 | exact aX QB _ 2) QA lA lB lO cF ((bm.set hq _).app _)
        ·rintro σ ⟨m,hm,hi⟩
         refine dY ?_;exact⟨⟨m,hi⟩,by rw[hi.mu];exact hm⟩
       ·refine uD (fun σ=>∃ m,m<A.length+B.length∧xb bs M L.length σ m) QE ?_ ?_
        ·have u9:=bm.1
         rcases ho with⟨rfl,rfl⟩|⟨q,rfl,hq,cM⟩
         ·simp only[bJ,↓Xn,↓Xo,↓Xg,↓Xd,↓Xe,↓Xf,Tryz.VΓ,Tryz.Γs,Xp,Xi,Nat.reduceAdd,Nat.reduceSub,Nat.reduceLT,Nat.reduceLeDiff,reduceIte,reduceCtorEq,Nat.reduceEqDiff,implies_true,forall_const,bI,di,beq_self_eq_true,bne_self_eq_false,Int.reduceBEq,Int.reduceBNe,Int.reduceLT,Int.reduceLE,vU,h3,h4,h5,KT,ad KT,fO KT,fO (ad KT _),b0,b1]
          repeat' apply zTm
          all_goals first
           | omega
           | (unfold maxLen;omega)
           | (simp;omega)
           | exact xb.right (O:=[]) nW h3 rfl rfl (by first | exact aM _ _ | exact aY _ _ 1 | exact aY _ _ 2) (hAA.ro ((Ro.refl b).app _)) (by first | exact aM _ _ | exact aY _ _ 1 | exact aY _ _ 2) QA lA lB lO cF (bm.app _)
         ·have jV:=(zTn.1 cM).1
          have nS:∀ (l:List aq) X,(b++l).set q X=b.set q X++l:=fun l X=>aQ jV l X
          have hnq:q≠jb:=by rintro rfl;rw[cM]at KT;simp at KT
          have fU:=aw KT hnq .gone;simp only[bJ,↓Xn,↓Xo,↓Xg,↓Xd,↓Xe,↓Xf,Tryz.VΓ,Tryz.Γs,Xp,Xi,Nat.reduceAdd,Nat.reduceSub,Nat.reduceLT,Nat.reduceLeDiff,reduceIte,reduceCtorEq,Nat.reduceEqDiff,implies_true,forall_const,bI,di,beq_self_eq_true,bne_self_eq_false,Int.reduceBEq,Int.reduceBNe,Int.reduceLT,Int.reduceLE,vU,h3,h4,h5,cM,ad cM,KT,ad KT,fO KT,fO (ad KT _),ad fU,fO (ad fU _),nS,zTt,b0,b1];repeat' apply zTm
          all_goals first
           | omega
           | (unfold maxLen;omega)
           | (simp;omega)
           | exact xb.right nW h3 rfl rfl (by first | exact aX QB _ 0 | exact aX QB _ 1 | exact aX QB _ 2) (hAA.ro (((Ro.refl b).rW cM _).app _)) (by first | exact aX QB _ 0 | exact aX QB _ 1 | exact aX QB _ 2) QA lA lB lO cF ((bm.set hq _).app _)
        ·rintro σ ⟨m,hm,hi⟩
         refine dY ?_;exact⟨⟨m,hi⟩,by rw[hi.mu];exact hm⟩
      ·have c1:decide ((0:Int)<A.length)=true:=QF
       have c2:decide ((0:Int)<B.length)=false:=QG;have sx:=hA.src;have os:=yv A;have ot:=yv B;rcases ho with⟨rfl,rfl⟩|⟨q,rfl,hq,cM⟩
       ·have sy:=fun X=>(hB.ro ((Ro.refl b).app X)).src
        refine gA (zTm h3 (zTm h4 (zTm h5 (zTm K0 (zTm Px (zTm c1 (zTm c2 (zTm sx (zTm sy (zTm os ot)))))))))) ?_;have u9:=bm.1;refine⟨⟨by unfold maxLen;omega,QA⟩,⟨by unfold maxLen;omega,QA⟩,QA,A++B,.inr ⟨b.length+1,by rw[zTp],?_⟩,by rw[zTp];simpa using cF,Le.app lA lB,(bm.app _).iE⟩;have:=ka (lo:=bs.length) (k:=b.length+1) QA (r:=.own (A.map SV.str++B.map SV.str) 9 1 (A.length+B.length) true) (aY b [.gone,_] 1)
        simpa[MW] using this
       ·have jV:=(zTn.1 cM).1
        have nS:∀ (l:List aq) X,(b++l).set q X=b.set q X++l:=fun l X=>aQ jV l X
        have sy:=fun X=>(hB.ro (((Ro.refl b).rW cM .gone).app X)).src
        have kN:∀ (l:List aq) X,(b.set q .gone++l).set b.length X=b.set q .gone++l.set 0 X:=fun l X=>by
         have:=oB (b.set q .gone) l X
         rwa [zTt]at this
        have JJ:∀ (l:List aq),(b.set q .gone++l)[b.length]? = l[0]? := fun l=>by
         have:=aM (b.set q .gone) l
         rwa [zTt]at this
        simp only[bJ,↓Xn,↓Xo,↓Xg,↓Xd,↓Xe,↓Xf,Tryz.VΓ,Tryz.Γs,Xp,Xi,Nat.reduceAdd,Nat.reduceSub,Nat.reduceLT,Nat.reduceLeDiff,reduceIte,reduceCtorEq,Nat.reduceEqDiff,implies_true,forall_const,bI,di,beq_self_eq_true,bne_self_eq_false,Int.reduceBEq,Int.reduceBNe,Int.reduceLT,Int.reduceLE,h3,h4,h5,K0,Px,c1,c2,cM,sx,sy,os,ot,nS,kN,JJ,zTt];have u9:=bm.1;refine⟨⟨by unfold maxLen;omega,QA⟩,⟨by unfold maxLen;omega,QA⟩,QA,O++(A++B),.inr ⟨b.length+1,by simp only[zTp],?_⟩,by simp only[zTp];omega,Le.app lO (Le.app lA lB),((bm.set hq _).app _).iE⟩;have:=ka (lo:=bs.length) (k:=b.length+1) QA (r:=.own (O.map SV.str++(A.map SV.str++B.map SV.str)) 9 1 (O.length+(A.length+B.length)) true) (aX (l1:=b.set q .gone) QB [.gone,_] 1)
        simpa[MW] using this
     ·have c1:decide ((0:Int)<A.length)=false:=QG
      have sx:=hA.src;have os:=yv A;have ot:=yv B;rcases ho with⟨rfl,rfl⟩|⟨q,rfl,hq,cM⟩
      ·have sy:=fun X=>(hB.ro ((Ro.refl b).app X)).src
       refine gA (zTm h3 (zTm h4 (zTm h5 (zTm K0 (zTm Px (zTm c1 (zTm sx (zTm sy (zTm os ot))))))))) ?_;have u9:=bm.1;refine⟨⟨by unfold maxLen;omega,QA⟩,⟨by unfold maxLen;omega,QA⟩,QA,A++B,.inr ⟨b.length+1,by rw[zTp],?_⟩,by rw[zTp];simpa using cF,Le.app lA lB,(bm.app _).iE⟩;have:=ka (lo:=bs.length) (k:=b.length+1) QA (r:=.own (A.map SV.str++B.map SV.str) 9 1 (A.length+B.length) true) (aY b [.gone,_] 1)
       simpa[MW] using this
      ·have jV:=(zTn.1 cM).1
       have nS:∀ (l:List aq) X,(b++l).set q X=b.set q X++l:=fun l X=>aQ jV l X
       have sy:=fun X=>(hB.ro (((Ro.refl b).rW cM .gone).app X)).src
       have kN:∀ (l:List aq) X,(b.set q .gone++l).set b.length X=b.set q .gone++l.set 0 X:=fun l X=>by
        have:=oB (b.set q .gone) l X
        rwa [zTt]at this
       have JJ:∀ (l:List aq),(b.set q .gone++l)[b.length]? = l[0]? := fun l=>by
        have:=aM (b.set q .gone) l
        rwa [zTt]at this
       simp only[bJ,↓Xn,↓Xo,↓Xg,↓Xd,↓Xe,↓Xf,Tryz.VΓ,Tryz.Γs,Xp,Xi,Nat.reduceAdd,Nat.reduceSub,Nat.reduceLT,Nat.reduceLeDiff,reduceIte,reduceCtorEq,Nat.reduceEqDiff,implies_true,forall_const,bI,di,beq_self_eq_true,bne_self_eq_false,Int.reduceBEq,Int.reduceBNe,Int.reduceLT,Int.reduceLE,h3,h4,h5,K0,Px,c1,cM,sx,sy,os,ot,nS,kN,JJ,zTt];have u9:=bm.1;refine⟨⟨by unfold maxLen;omega,QA⟩,⟨by unfold maxLen;omega,QA⟩,QA,O++(A++B),.inr ⟨b.length+1,by simp only[zTp],?_⟩,by simp only[zTp];omega,Le.app lO (Le.app lA lB),((bm.set hq _).app _).iE⟩;have:=ka (lo:=bs.length) (k:=b.length+1) QA (r:=.own (O.map SV.str++(A.map SV.str++B.map SV.str)) 9 1 (O.length+(A.length+B.length)) true) (aX (l1:=b.set q .gone) QB [.gone,_] 1)
       simpa[MW] using this
def I7 (r:Int):Bool:=decide (0≤r)&&(decide (r≤1114111)&&(decide (r<55296)||decide (57343<r)))
theorem Je (r:Int):PC QH 296 [.int .i64 r] (.bool (I7 r)):=by
 unfold I7;refine aU 3000 func296 rfl ntmps296 results296 call296 QB (by simp[flat,flat.ah]) (by simp[flat,flat.ah]) ?_;cases h1:decide (0≤r)
 ·exact gA (zTm h1 Bool.false_and) True.intro
 cases h2:decide (r≤1114111)
 ·exact gA (zTm h1 (zTm h2 (zTm Bool.false_and Bool.true_and))) True.intro
 cases h3:decide (r<55296)
 ·exact gA (zTm h1 (zTm h2 (zTm h3 (zTm Bool.false_or Bool.true_and)))) True.intro
 ·exact gA (zTm h1 (zTm h2 (zTm h3 (zTm Bool.true_or Bool.true_and)))) True.intro
theorem Mh (x:Int):BE (.int .u8 (IntKind.u8.wrap x))=true:=by
 have h:IntKind.u8.wrap x=x % 256:=rfl;rw[h];simp only[BE,zTQ,decide_eq_true_eq];omega
theorem Dt {bs:List aq}(r:Int):SC QH 294 [.int .i64 r] bs (fun x b=>∃ s e,x=.eh [.str s,.int .i64 e]∧s.length≤4∧Kp bs b):=by
 have p1:=Je r;refine bp 3000 func294 rfl ntmps294 results294 call294 QB (af bs.length _ (by simp[within,within.av])) ?_;refine dY ?_
 (refine aa (p1) ?_;refine dY ?_)
 cases hp:I7 r
 ·refine gA (zTm hp zTY) ?_
  exact⟨_,_,rfl,QB,Kp.refl bs⟩
 ·refine gA (zTm hp (zTm zTV (zTm @Mh Bool.and_self))) ?_
  exact⟨fun _=>⟨QA,_,_,rfl,QB,(Kp.refl bs).app _⟩,fun _=>⟨fun _=>⟨QA,_,_,rfl,QB,(Kp.refl bs).app _⟩,fun _=>⟨fun _=>⟨QA,_,_,rfl,QB,(Kp.refl bs).app _⟩,fun _=>⟨QA,_,_,rfl,QB,(Kp.refl bs).app _⟩⟩⟩⟩
theorem FJ {bs:List aq}(s:Bytes)(h0:0<s.length)(h4:s.length≤4):SC QH 293 [.str s] bs (fun x b=>∃ n,x=.int .i64 n∧Kp bs b):=by
 refine bp 3000 func293 rfl ntmps293 results293 call293 QB (af bs.length _ (by simp[within,within.av])) ?_;obtain⟨c,hc⟩:∃ c,s[0]? = some c:=⟨s[0],List.getElem?_eq_getElem h0⟩;by_cases h1:s.length=1
 ·have e1:((s.length:Int)==1)=true:=by rw[h1];rfl
  refine gA (zTm e1 hc) ?_;exact⟨QA,_,rfl,Kp.refl bs⟩
 ·have e1:((s.length:Int)==1)=false:=by simp;omega
  refine gA (zTm e1 hc) ?_;have hsh:NR .shl .i64 1 (7 - (s.length:Int))=32∨NR .shl .i64 1 (7 - (s.length:Int))=16∨NR .shl .i64 1 (7 - (s.length:Int))=8:=by
   have:s.length=2∨s.length=3∨s.length=4:=QA
   rcases this with h|h|h <;> rw[h]
   ·exact .inl rfl
   ·exact .inr (.inl rfl)
   ·exact .inr (.inr rfl)
  refine⟨QA,QA,QA,QA,(ao QE),?_⟩;refine ax (fun σ=>∃ (k:Nat) (r:Int),k≤s.length∧lk 0 σ.t=some (.str s)∧lk 3 σ.t=some (.int .i64 r)∧lk 4 σ.t=some (.int .i64 k)∧σ.b=bs) (fun σ=>s.length - fA 4 σ) ⟨1,_,QA,rfl,rfl,rfl,rfl⟩ ?_;rintro⟨t,b⟩ ⟨k,r,hk,h0,h3,h4,hb⟩;simp only at h0 h3 h4 hb;subst hb;rw[ak h4];by_cases az:k<s.length
  ·have aK:decide ((k:Int)<s.length)=true:=QF
   refine gA (zTm h0 (zTm h3 (zTm h4 aK))) ?_;refine⟨QA,QA,⟨k+1,_,QA,rfl,rfl⟩,?_⟩;rw[ak (k:=.i64) (n:=(k:Int)+1) rfl];omega
  ·have aK:decide ((k:Int)<s.length)=false:=QG
   refine gA (zTm h0 (zTm h3 (zTm h4 aK))) ?_;exact⟨_,rfl,Kp.refl _⟩
theorem Du {bs:List aq}(s:Bytes)(hs:s.length≤2000000)(at':Nat):SC QH 287 [.str s,.int .i64 at'] bs (fun x b=>∃ r q e:Int,x=.eh [.int .i64 r,.int .i64 q,.int .i64 e]∧(e=0→(at':Int)<q∧q≤s.length)∧Kp bs b):=by
 refine bp 3000 func287 rfl ntmps287 results287 call287 QB (af bs.length _ (by simp[within,within.av])) ?_;have e0:decide ((at':Int)<0)=false:=QG;by_cases hl:at'<s.length
 ·have e1:decide ((s.length:Int)≤at')=false:=QG
  refine gA (zTm e0 e1) ?_;refine ax (fun σ=>∃ (n:Nat),1≤n∧n≤5∧lk 0 σ.t=some (.str s)∧lk 1 σ.t=some (.int .i64 at')∧lk 7 σ.t=some (.int .i64 n)∧Kp bs σ.b) (fun σ=>5 - fA 7 σ) ⟨1,QA,QA,rfl,rfl,rfl,Kp.refl bs⟩ ?_;rintro⟨t,b⟩ ⟨n,uZ,hn5,h0,h1,h7,bm⟩;simp only at h0 h1 h7 bm;rw[ak h7];by_cases hn4:n≤4
  ·have c1:decide ((n:Int)≤4)=true:=QF
   by_cases dp:at'+n≤s.length
   ·have c2:decide ((at':Int)+n≤s.length)=true:=QF
    refine gA (zTm h0 (zTm h1 (zTm h7 (zTm c1 c2)))) ?_;have hl:(s.take ((at':Int)+n).toNat |>.drop at').length=n:=by
     rw[List.length_drop,List.length_take];omega
    refine⟨QA,QA,QA,ae (FJ _ QA QA) ?_⟩;rintro x b1 ⟨r,rfl,cV⟩;have jX:=bm.trans cV;refine gA (zTm h0 (zTm h1 h7)) ?_;refine ae (Dt r) ?_;rintro x b2 ⟨u,e,rfl,hu,bS⟩;have eA:=jX.trans bS;cases he:e==0
    ·refine gA (zTm h0 (zTm h1 (zTm h7 he))) ?_
     refine⟨QA,⟨n+1,QA,QA,rfl,eA⟩,?_⟩;rw[ak (k:=.i64) (n:=(n:Int)+1) rfl];omega
    ·refine gA (zTm h0 (zTm h1 (zTm h7 he))) ?_
     refine⟨QA,QA,fun _=>⟨QA,_,_,_,rfl,fun _=>⟨QA,QA⟩,eA⟩,fun _=>⟨QA,⟨n+1,QA,QA,rfl,eA⟩,?_⟩⟩;rw[ak (k:=.i64) (n:=(n:Int)+1) rfl];omega
   ·have c2:decide ((at':Int)+n≤s.length)=false:=QG
    refine gA (zTm h0 (zTm h1 (zTm h7 (zTm c1 c2)))) ?_;exact⟨QA,_,_,_,rfl,fun h=>by simp at h,bm⟩
  ·have c1:decide ((n:Int)≤4)=false:=QG
   refine gA (zTm h0 (zTm h1 (zTm h7 c1))) ?_;exact⟨_,_,_,rfl,fun h=>by simp at h,bm⟩
 ·have e1:decide ((s.length:Int)≤at')=true:=QF
  refine gA (zTm e0 e1) ?_;exact⟨_,_,_,rfl,fun h=>by simp at h,Kp.refl _⟩
theorem FK {bs:List aq}(s:Bytes)(hs:s.length≤2000000):SC QH 275 [.str s] bs (fun x b=>∃ n:Int,x=.int .i64 n∧Kp bs b):=by
 refine bp 3000 func275 rfl ntmps275 results275 call275 QB (af bs.length _ (by simp[within,within.av])) ?_;refine dY ?_;refine ax (fun σ=>∃ (k n:Nat),n≤k∧k≤s.length∧lk 0 σ.t=some (.str s)∧lk 3 σ.t=some (.int .i64 n)∧lk 4 σ.t=some (.int .i64 k)∧Kp bs σ.b) (fun σ=>s.length - fA 4 σ) ⟨0,0,QA,QA,rfl,rfl,rfl,Kp.refl bs⟩ ?_;rintro⟨t,b⟩ ⟨k,n,hn,hk,h0,h3,h4,bm⟩;simp only at h0 h3 h4 bm;rw[ak h4];by_cases az:k<s.length
 ·have aK:decide ((k:Int)<s.length)=true:=QF
  refine gA (zTm h0 (zTm h3 (zTm h4 aK))) ?_;refine ae (Du s hs k) ?_;rintro x b1 ⟨r,q,e,rfl,hq,cV⟩;have jX:=bm.trans cV;cases he:e != 0
  ·have he0:e=0:=by simpa using he
   obtain⟨q1,q2⟩:=hq he0;obtain⟨m,rfl⟩:∃ m:Nat,q=m:=⟨q.toNat,QA⟩;refine gA (zTm h0 (zTm h3 (zTm h4 he))) ?_;refine⟨QA,⟨m,n+1,QA,QA,rfl,rfl,jX⟩,?_⟩;rw[ak (k:=.i64) (n:=(m:Int)) rfl];omega
  ·refine gA (zTm h0 (zTm h3 (zTm h4 he))) ?_
   exact⟨_,rfl,jX⟩
 ·have aK:decide ((k:Int)<s.length)=false:=QG
  refine gA (zTm h0 (zTm h3 (zTm h4 aK))) ?_;exact⟨_,rfl,bm⟩
theorem qG {bs:List aq}(s:Bytes)(hs:s.length≤2000000):SC QH 242 [.str s] bs (fun x b=>∃ y:Bool,x=.bool y∧Kp bs b):=by
 refine bp 3000 func242 rfl ntmps242 results242 call242 QB (af bs.length _ (by simp[within,within.av])) ?_;refine dY ?_;refine ae (FK s hs) ?_;rintro x b1 ⟨n,rfl,cV⟩;refine dY ?_;exact⟨_,rfl,cV⟩
theorem quo16 (c:UInt8):(0≤j0 .quo .u8 (c.toNat:Int) 16∧j0 .quo .u8 (c.toNat:Int) 16<((16:Nat):Int))∧(0≤j0 .rem .u8 (c.toNat:Int) 16∧j0 .rem .u8 (c.toNat:Int) 16<((16:Nat):Int)):=by
 have:=du (p:=fun c=>decide ((0≤j0 .quo .u8 (c.toNat:Int) 16∧j0 .quo .u8 (c.toNat:Int) 16<((16:Nat):Int))∧(0≤j0 .rem .u8 (c.toNat:Int) 16∧j0 .rem .u8 (c.toNat:Int) 16<((16:Nat):Int)))) (by decide +kernel) c
 exact of_decide_eq_true this
theorem oP {bs:List aq}(s:Bytes)(hs:s.length≤1000000):SC QH 194 [.str s] bs (fun x b=>∃ (u:Bytes) (e:Int),x=.eh [.str u,.int .i64 e]∧u.length≤6 * s.length+2∧Kp bs b):=by
 refine bp 3000 func194 rfl ntmps194 results194 call194 QB (af bs.length _ (by simp[within,within.av])) ?_;have e0:decide (1048576<(s.length:Int))=false:=QG;refine gA e0 ?_;refine ae (qG s QA) ?_;rintro x b1 ⟨y,rfl,cV⟩;cases y
 ·refine gA zTY ?_
  exact⟨_,_,rfl,QB,cV⟩
 refine gA zTV ?_;refine⟨QA,?_⟩;refine ax (fun σ=>∃ (k q:Nat) (W:Bytes),k≤s.length∧W.length≤1+6 * k∧lk 0 σ.t=some (.str s)∧lk 4 σ.t=some (.o q W.length)∧lk 5 σ.t=some (.int .i64 k)∧Kp bs σ.b∧bs.length≤q∧σ.b[q]? = some (.own (W.map eb) 5 1 W.length true)) (fun σ=>s.length - fA 5 σ) ⟨0,b1.length,[34],QA,QB,rfl,rfl,rfl,cV.app _,cV.1,aM _ _⟩ ?_;rintro⟨t,b⟩ ⟨k,q,W,hk,hW,h0,h4,h5,bm,hq,cM⟩;simp only at h0 h4 h5 bm cM;rw[ak h5];have jV:=(zTn.1 cM).1;have nS:∀ (l:List aq) X,(b++l).set q X=b.set q X++l:=fun l X=>aQ jV l X
 by_cases az:k<s.length
 ·have aK:decide ((k:Int)<s.length)=true:=QF
  refine gA (zTm h0 (zTm h4 (zTm h5 (zTm aK (zTm cM (zTm (ad cM) nS)))))) ?_;refine⟨QA,?_⟩;generalize s.getD k 0=c;refine⟨fun _=>⟨fun _=>?_,fun _=>⟨fun _=>?_,fun _=>⟨fun _=>?_,fun _=>⟨fun _=>?_,fun _=>⟨fun _=>?_,fun _=>⟨fun _=>?_,fun _=>⟨fun hc32=>?_,fun _=>?_⟩⟩⟩⟩⟩⟩⟩,fun _=>?_⟩
  ·exact⟨QA,⟨by unfold maxLen;omega,QA⟩,QA,⟨k+1,b.length+1,W++[92,c],QA,QC,QB,rfl,(bm.set hq _).app _,QA,by rw[aX QB];simp[eb]⟩,by rw[ak (k:=.i64) (n:=(k:Int)+1) rfl];omega⟩
  ·exact⟨⟨rfl,by unfold maxLen;omega,QA⟩,QA,⟨k+1,b.length,W++[92,98],QA,QC,QB,rfl,(bm.set hq _).app _,QA,by rw[← Nat.add_zero b.length,aX QB];simp[eb]⟩,by rw[ak (k:=.i64) (n:=(k:Int)+1) rfl];omega⟩
  ·exact⟨⟨rfl,by unfold maxLen;omega,QA⟩,QA,⟨k+1,b.length,W++[92,102],QA,QC,QB,rfl,(bm.set hq _).app _,QA,by rw[← Nat.add_zero b.length,aX QB];simp[eb]⟩,by rw[ak (k:=.i64) (n:=(k:Int)+1) rfl];omega⟩
  ·exact⟨⟨rfl,by unfold maxLen;omega,QA⟩,QA,⟨k+1,b.length,W++[92,110],QA,QC,QB,rfl,(bm.set hq _).app _,QA,by rw[← Nat.add_zero b.length,aX QB];simp[eb]⟩,by rw[ak (k:=.i64) (n:=(k:Int)+1) rfl];omega⟩
  ·exact⟨⟨rfl,by unfold maxLen;omega,QA⟩,QA,⟨k+1,b.length,W++[92,114],QA,QC,QB,rfl,(bm.set hq _).app _,QA,by rw[← Nat.add_zero b.length,aX QB];simp[eb]⟩,by rw[ak (k:=.i64) (n:=(k:Int)+1) rfl];omega⟩
  ·exact⟨⟨rfl,by unfold maxLen;omega,QA⟩,QA,⟨k+1,b.length,W++[92,116],QA,QC,QB,rfl,(bm.set hq _).app _,QA,by rw[← Nat.add_zero b.length,aX QB];simp[eb]⟩,by rw[ak (k:=.i64) (n:=(k:Int)+1) rfl];omega⟩
  ·have hq16:=quo16 c
   refine⟨QA,hq16.1,QA,hq16.2,QA,⟨by unfold maxLen;omega,QA⟩,?_,QA,⟨k+1,b.length+1,W++[92,117,48,48,_,_],QA,QC,QB,rfl,(bm.set hq _).app _,QA,by rw[aX QB];simp[eb];exact⟨rfl,rfl⟩⟩,by rw[ak (k:=.i64) (n:=(k:Int)+1) rfl];omega⟩;refine bt (fun n=>if n=q then 100 else n - b.length) ?_;have z2:∀ m,(b.length+m=q)=False:=fun m=>eq_false QA
   have z3:(b.length=q)=False:=eq_false QA;simp only[zTK,List.map_nil,cz,dW,zTT,Nat.sub_self,z2,z3,eq_self,if_true,if_false];exact ao QE
  ·exact⟨QA,⟨by unfold maxLen;omega,QA⟩,QA,⟨k+1,b.length+1,W++[c],QA,QC,QB,rfl,(bm.set hq _).app _,QA,by rw[aX QB];simp[eb]⟩,by rw[ak (k:=.i64) (n:=(k:Int)+1) rfl];omega⟩
  ·exact⟨QA,⟨by unfold maxLen;omega,QA⟩,QA,⟨k+1,b.length+1,W++[92,c],QA,QC,QB,rfl,(bm.set hq _).app _,QA,by rw[aX QB];simp[eb]⟩,by rw[ak (k:=.i64) (n:=(k:Int)+1) rfl];omega⟩
 ·have aK:decide ((k:Int)<s.length)=false:=QG
  refine gA (zTm h0 (zTm h4 (zTm h5 (zTm aK (zTm cM (zTm (ad cM) nS)))))) ?_;have ME:(b.set q .gone++[.own [.int .u8 34] 5 1 1 true,.own (W.map eb++[.int .u8 34]) 5 1 (W.length+1) true])[b.length+1]? = some (.own (W.map eb++[.int .u8 34]) 5 1 (W.length+1) true):=aX QB _ 1;refine gA ME ?_;refine⟨QA,⟨by unfold maxLen;omega,QA⟩,?_,_,_,rfl,?_,(bm.set hq _).app _⟩
  ·rw[zT2,gw];rfl
  ·simp;omega
theorem vY {bs:List aq}{x:SV}{L:List Bytes}(hx:Rs bs x L)(hn:L.length≤1000)(hL:Le 20000 L):SC QH 243 [x] bs (fun r b=>∃ y:Bool,r=.bool y∧Kp bs b):=by
 have Aa:=hx.within;refine bp 3000 func243 rfl ntmps243 results243 call243 QB (af bs.length _ (by simp[within,within.av,Aa])) ?_;refine dY ?_;refine ae (nF 20000 QA _ hx (zTH _) hn hL) ?_;rintro z b1 ⟨S,hS,hSl,lS,cV⟩;have Iq:=hS.BC;refine gA Iq ?_;refine ax (fun σ=>∃ k:Nat,k≤S.length∧lk 3 σ.t=some z∧lk 8 σ.t=some z∧lk 9 σ.t=some (.int .i64 S.length)∧lk 10 σ.t=some (.int .i64 k)∧Kp bs σ.b∧Rs σ.b z S) (fun σ=>S.length - fA 10 σ) ⟨0,QA,rfl,rfl,rfl,rfl,cV,hS⟩ ?_;rintro⟨t,b⟩ ⟨k,hk,h3,h8,h9,eB,bm,hS⟩;simp only at h3 h8 h9 eB bm hS;rw[ak eB];by_cases az:k<S.length
 ·have aK:decide ((k:Int)<S.length)=true:=QF
  have hSS:=hS;rcases hS with⟨rfl,rfl⟩|⟨j,rfl,hj⟩
  ·exact absurd az QB
  have BO:(S.map SV.str)[k * 1]? = some (.str S[k]):=by simp[az]
  refine gA (zTm h3 (zTm h8 (zTm h9 (zTm eB (zTm aK (zTm hj BO)))))) ?_;refine⟨QA,QC,ae (qG _ (by have:=lS S[k] (zTz az);omega)) ?_⟩;rintro r b2 ⟨y,rfl,bS⟩;have fU:=bS.at hj;have eA:=bm.trans bS;cases y
  ·refine gA (zTm h3 (zTm h8 (zTm h9 (zTm eB zTY)))) ?_
   exact⟨_,rfl,eA⟩
  ·by_cases h0:0<k
   ·have c0:decide ((0:Int)<k)=true:=QF
    have hkt2:(S.map SV.str)[((k:Int) - 1).toNat * 1]? = some (.str (S[k - 1]'QA)):=by
     rw[show ((k:Int) - 1).toNat * 1=k - 1 by omega];simp
    refine gA (zTm h3 (zTm h8 (zTm h9 (zTm eB (zTm zTV (zTm c0 (zTm fU hkt2))))))) ?_;refine⟨QA,QA,QC,fun _=>⟨_,rfl,eA⟩,fun _=>⟨QA,⟨k+1,QA,rfl,eA,hSS.ro bS.ro⟩,?_⟩⟩;rw[ak (k:=.i64) (n:=(k:Int)+1) rfl];omega
   ·have c0:decide ((0:Int)<k)=false:=QG
    refine gA (zTm h3 (zTm h8 (zTm h9 (zTm eB (zTm zTV c0))))) ?_;refine⟨QA,⟨k+1,QA,rfl,eA,hSS.ro bS.ro⟩,?_⟩;rw[ak (k:=.i64) (n:=(k:Int)+1) rfl];omega
 ·have aK:decide ((k:Int)<S.length)=false:=QG
  refine gA (zTm h3 (zTm h8 (zTm h9 (zTm eB aK)))) ?_;exact⟨_,rfl,bm⟩
theorem uu:∀ (d:Nat){bs:List aq}{v:Tv},Tr bs d v→SC QH 193 [.agg (tv v)] bs (fun r b=>∃ y:Bool,r=.bool y∧Kp bs b)
 | 0,_,_,h=>h.elim
 | d+1,bs,v,hv=>by
   have ih:=fun {bs:List aq} {v:Tv} (h:Tr bs d v)=>uu d h
   have It:=hv.oc;obtain⟨kk,tt,xk,xi⟩:=v;obtain⟨v1,v2,v3,v4⟩:=It;simp only at v1 v2 v3 v4;have ho:(one xk&&one xi)=true:=by rw[v3,v4];rfl
   obtain⟨g1,g2,K,L,g3,g4,g5,g6,g7,g8,g9,g10⟩:=hv;simp only at g1 g2 g3 g4 g8 g9;refine bp 3000 func193 rfl ntmps193 results193 call193 QB (af bs.length _ (by simp[within,within.av,tv,v1,v2])) ?_;have r7:=g4.len;have sJ:=g3.BC;unfold tv;rcases g2 with rfl|rfl|rfl|rfl
   ·refine gA (zTm ho (zTm r7 sJ)) ?_
    exact⟨_,rfl,(Kp.refl bs).app _⟩
   ·refine gA (zTm ho (zTm r7 sJ)) ?_
    obtain rfl:=g9 QD;refine ae (qG _ QA) ?_;rintro r b2 ⟨y,rfl,bS⟩;have gp:=((Kp.refl bs).app _).trans bS;have dK:=bS.at (aM bs _);cases y
    ·refine gA (zTm ho (zTm r7 (zTm sJ dK))) ?_
     exact⟨_,rfl,gp⟩
    ·have c1:(((0:Nat):Int)==0)=true:=rfl
     simp only[bJ,↓Xn,↓Xo,↓Xg,↓Xd,↓Xe,↓Xf,Tryz.VΓ,Tryz.Γs,Xp,Xi,Nat.reduceAdd,Nat.reduceSub,Nat.reduceLT,Nat.reduceLeDiff,reduceIte,reduceCtorEq,Nat.reduceEqDiff,implies_true,forall_const,bI,di,beq_self_eq_true,bne_self_eq_false,Int.reduceBEq,Int.reduceBNe,Int.reduceLT,Int.reduceLE,ho,r7,sJ,dK,zTC,c1];exact⟨_,rfl,gp⟩
   obtain rfl:=g9 QD;have c1:(((0:Nat):Int) != 0)=false:=rfl;cases ht:(tt != [])
   rotate_left
   refine gA (zTm ho (zTm r7 (zTm sJ (zTm ht c1)))) ?_;exact⟨_,rfl,(Kp.refl bs).app _⟩;have c1:((K.length:Int) != L.length)=false:=by rw[g8 rfl];simp
   have s1:=fun X=>vY (g3.ro ((Ro.refl bs).app [X])) QA g7
   cases ht:(tt != [])
   rotate_left
   refine gA (zTm ho (zTm r7 (zTm sJ (zTm ht c1)))) ?_;exact⟨_,rfl,(Kp.refl bs).app _⟩;have cV:Kp bs (bs++[.cells [.int .i64 6,.str tt,xk,xi] 139 true]):=(Kp.refl bs).app _;simp only[bJ,↓Xn,↓Xo,↓Xg,↓Xd,↓Xe,↓Xf,Tryz.VΓ,Tryz.Γs,Xp,Xi,Nat.reduceAdd,Nat.reduceSub,Nat.reduceLT,Nat.reduceLeDiff,reduceIte,reduceCtorEq,Nat.reduceEqDiff,implies_true,forall_const,bI,di,beq_self_eq_true,bne_self_eq_false,Int.reduceBEq,Int.reduceBNe,Int.reduceLT,Int.reduceLE,ho,r7,sJ,ht,zTC,c1];rotate_left
   refine gA (zTm ho (zTm r7 (zTm sJ (zTm ht c1)))) ?_;refine ae (s1 _) ?_;rintro r b1 ⟨y,rfl,cV⟩;have dK:=cV.at (aM bs _);replace cV:=((Kp.refl bs).app _).trans cV;cases y
   refine gA zTY ?_;exact⟨_,rfl,cV⟩;refine gA (zTm zTV (zTm dK r7)) ?_;all_goals
    refine ax (fun σ=>∃ k:Nat,k≤L.length∧lk 105 σ.t=some xi∧lk 106 σ.t=some (.int .i64 L.length)∧lk 107 σ.t=some (.int .i64 k)∧Kp bs σ.b) (fun σ=>L.length - fA 107 σ) ⟨0,QA,rfl,rfl,rfl,cV⟩ ?_;rintro⟨t,b⟩ ⟨k,hk,sN,yI,vM,bm⟩;simp only at sN yI vM bm;rw[ak vM];by_cases az:k<L.length
    ·have aK:decide ((k:Int)<L.length)=true:=QF
     rcases g4 with⟨-,rfl⟩|⟨q,jK,hq⟩
     ·exact absurd az QB
     have cM:=bm.at hq;have hu:zTL 4 (zTP (k * 4) (L.flatMap tv))=[.int .i64 L[k].k,.str L[k].t,L[k].xk,L[k].xi]:=xl L k az;have mI:=oI L;have hx:=g10 L[k] (zTz az);obtain⟨x1,x2,x3,x4⟩:=hx.oc;have qZ:(one L[k].xk&&one L[k].xi)=true:=by rw[x3,x4];rfl
     refine gA (zTm sN (zTm yI (zTm vM (zTm aK (zTm jK (zTm cM (zTm hu qZ))))))) ?_;refine⟨QA,QA,ae (ih (hx.ro (bm.ro.app _))) ?_⟩;rintro r b1 ⟨m,rfl,jX⟩;have eA:=(bm.app [_]).trans jX;cases m
     ·refine gA (zTm sN (zTm yI (zTm vM zTY))) ?_
      exact⟨_,rfl,eA⟩
     ·refine gA (zTm sN (zTm yI (zTm vM zTV))) ?_
      refine⟨QA,⟨k+1,QA,jK,rfl,eA⟩,?_⟩;rw[ak (k:=.i64) (n:=(k:Int)+1) rfl];omega
    ·have aK:decide ((k:Int)<L.length)=false:=QG
     refine gA (zTm sN (zTm yI (zTm vM aK))) ?_;exact⟨_,rfl,bm⟩
theorem DC (d:Nat){bs:List aq}{v:Tv}(hv:Tr bs d v):SC QH 132 [.agg (tv v)] bs (fun r b=>∃ y:Bool,r=.bool y∧Kp bs b):=by
 have It:=hv.oc;obtain⟨v1,v2,v3,v4⟩:=It;have ho:(one v.xk&&one v.xi)=true:=by rw[v3,v4];rfl
 refine bp 3000 func132 rfl ntmps132 results132 call132 QB (af bs.length _ (by simp[within,within.av,tv,v1,v2])) ?_;have e1:∀ X,Tr (bs++[X]) d v:=fun X=>hv.ro ((Ro.refl bs).app _)
 have s1:=fun X=>uw d (e1 X) 0 QA QA
 unfold tv at s1 ⊢;refine gA ho ?_;refine ae (s1 _) ?_;rintro r b2 ⟨n,rfl,hn,bS⟩;have gp:=((Kp.refl bs).app _).trans bS;have dK:=bS.at (aM bs _);by_cases h0:0<n
 ·have c0:decide ((0:Int)<n)=true:=QF
  by_cases h1:n≤20000
  ·have c1:decide ((n:Int)≤20000)=true:=QF
   have s2:=uu d ((e1 _).ro bS.ro);unfold tv at s2;refine gA (zTm ho (zTm c0 (zTm c1 dK))) ?_;refine ae s2 ?_;rintro r b3 ⟨y,rfl,eL⟩;refine dY ?_;exact⟨_,rfl,gp.trans eL⟩
  ·have c1:decide ((n:Int)≤20000)=false:=QG
   refine gA (zTm ho (zTm c0 c1)) ?_;exact⟨_,rfl,gp⟩
 ·have c0:decide ((0:Int)<n)=false:=QG
  refine gA (zTm ho c0) ?_;exact⟨_,rfl,gp⟩
def Kz:OT:=(.cI 0 (.alt (.one 1 (.one 2 (.one 3 (.one 4 (.one 5 (.cI 6 (.one 7 .leaf))))))) (.one 2 (.alt (.one 1 (.one 3 (.one 4 (.one 5 (.cI 6 (.one 7 .leaf)))))) (.one 3 (.alt (.one 1 (.one 4 (.one 5 (.cI 6 (.one 7 .leaf))))) (.one 4 (.one 1 (.one 5 (.cI 6 (.one 7 .leaf)))))))))))
def Gu:OT:=(.cI 0 (.cI 2 (.cI 5 (.alt (.one 1 (.alt (.one 3 (.alt (.one 4 (.alt (.one 6 (.cI 11 (.one 7 (.one 8 (.one 9 (.one 10 (.one 12 (.cI 13 (.one 14 .leaf))))))))) (.one 7 (.alt (.one 6 (.cI 11 (.one 8 (.one 9 (.one 10 (.one 12 (.cI 13 (.one 14 .leaf)))))))) (.one 8 (.alt (.one 6 (.cI 11 (.one 9 (.one 10 (.one 12 (.cI 13 (.one 14 .leaf))))))) (.one 9 (.one 6 (.cI 11 (.one 10 (.one 12 (.cI 13 (.one 14 .leaf))))))))))))) (.alt (.one 6 (.alt (.one 4 (.cI 11 (.one 7 (.one 8 (.one 9 (.one 10 (.one 12 (.cI 13 (.one 14 .leaf))))))))) (.one 7 (.one 4 (.cI 11 (.one 8 (.one 9 (.one 10 (.one 12 (.cI 13 (.one 14 .leaf))))))))))) (.one 7 (.alt (.one 4 (.alt (.one 6 (.cI 11 (.one 8 (.one 9 (.one 10 (.one 12 (.cI 13 (.one 14 .leaf)))))))) (.one 8 (.alt (.one 6 (.cI 11 (.one 9 (.one 10 (.one 12 (.cI 13 (.one 14 .leaf))))))) (.one 9 (.one 6 (.cI 11 (.one 10 (.one 12 (.cI 13 (.one 14 .leaf))))))))))) (.one 6 (.one 4 (.cI 11 (.one 8 (.one 9 (.one 10 (.one 12 (.cI 13 (.one 14 .leaf)))))))))))))) (.alt (.one 6 (.alt (.one 3 (.alt (.one 4 (.cI 11 (.one 7 (.one 8 (.one 9 (.one 10 (.one 12 (.cI 13 (.one 14 .leaf))))))))) (.one 7 (.one 4 (.cI 11 (.one 8 (.one 9 (.one 10 (.one 12 (.cI 13 (.one 14 .leaf))))))))))) (.one 7 (.one 3 (.one 4 (.cI 11 (.one 8 (.one 9 (.one 10 (.one 12 (.cI 13 (.one 14 .leaf)))))))))))) (.one 7 (.alt (.one 3 (.alt (.one 4 (.alt (.one 6 (.cI 11 (.one 8 (.one 9 (.one 10 (.one 12 (.cI 13 (.one 14 .leaf)))))))) (.one 8 (.alt (.one 6 (.cI 11 (.one 9 (.one 10 (.one 12 (.cI 13 (.one 14 .leaf))))))) (.one 9 (.one 6 (.cI 11 (.one 10 (.one 12 (.cI 13 (.one 14 .leaf))))))))))) (.one 6 (.one 4 (.cI 11 (.one 8 (.one 9 (.one 10 (.one 12 (.cI 13 (.one 14 .leaf))))))))))) (.one 6 (.one 3 (.one 4 (.cI 11 (.one 8 (.one 9 (.one 10 (.one 12 (.cI 13 (.one 14 .leaf))))))))))))))) (.alt (.one 3 (.alt (.one 1 (.alt (.one 4 (.alt (.one 6 (.cI 11 (.one 7 (.one 8 (.one 9 (.one 10 (.one 12 (.cI 13 (.one 14 .leaf))))))))) (.one 7 (.alt (.one 6 (.cI 11 (.one 8 (.one 9 (.one 10 (.one 12 (.cI 13 (.one 14 .leaf)))))))) (.one 8 (.alt (.one 6 (.cI 11 (.one 9 (.one 10 (.one 12 (.cI 13 (.one 14 .leaf))))))) (.one 9 (.one 6 (.cI 11 (.one 10 (.one 12 (.cI 13 (.one 14 .leaf))))))))))))) (.alt (.one 6 (.alt (.one 4 (.cI 11 (.one 7 (.one 8 (.one 9 (.one 10 (.one 12 (.cI 13 (.one 14 .leaf))))))))) (.one 7 (.one 4 (.cI 11 (.one 8 (.one 9 (.one 10 (.one 12 (.cI 13 (.one 14 .leaf))))))))))) (.one 7 (.alt (.one 4 (.alt (.one 6 (.cI 11 (.one 8 (.one 9 (.one 10 (.one 12 (.cI 13 (.one 14 .leaf)))))))) (.one 8 (.alt (.one 6 (.cI 11 (.one 9 (.one 10 (.one 12 (.cI 13 (.one 14 .leaf))))))) (.one 9 (.one 6 (.cI 11 (.one 10 (.one 12 (.cI 13 (.one 14 .leaf))))))))))) (.one 6 (.one 4 (.cI 11 (.one 8 (.one 9 (.one 10 (.one 12 (.cI 13 (.one 14 .leaf)))))))))))))) (.alt (.one 6 (.alt (.one 1 (.alt (.one 4 (.cI 11 (.one 7 (.one 8 (.one 9 (.one 10 (.one 12 (.cI 13 (.one 14 .leaf))))))))) (.one 7 (.one 4 (.cI 11 (.one 8 (.one 9 (.one 10 (.one 12 (.cI 13 (.one 14 .leaf))))))))))) (.one 7 (.one 1 (.one 4 (.cI 11 (.one 8 (.one 9 (.one 10 (.one 12 (.cI 13 (.one 14 .leaf)))))))))))) (.one 7 (.alt (.one 1 (.alt (.one 4 (.alt (.one 6 (.cI 11 (.one 8 (.one 9 (.one 10 (.one 12 (.cI 13 (.one 14 .leaf)))))))) (.one 8 (.alt (.one 6 (.cI 11 (.one 9 (.one 10 (.one 12 (.cI 13 (.one 14 .leaf))))))) (.one 9 (.one 6 (.cI 11 (.one 10 (.one 12 (.cI 13 (.one 14 .leaf))))))))))) (.one 6 (.one 4 (.cI 11 (.one 8 (.one 9 (.one 10 (.one 12 (.cI 13 (.one 14 .leaf))))))))))) (.one 6 (.one 1 (.one 4 (.cI 11 (.one 8 (.one 9 (.one 10 (.one 12 (.cI 13 (.one 14 .leaf))))))))))))))) (.alt (.one 6 (.alt (.one 1 (.alt (.one 3 (.alt (.one 4 (.cI 11 (.one 7 (.one 8 (.one 9 (.one 10 (.one 12 (.cI 13 (.one 14 .leaf))))))))) (.one 7 (.one 4 (.cI 11 (.one 8 (.one 9 (.one 10 (.one 12 (.cI 13 (.one 14 .leaf))))))))))) (.one 7 (.one 3 (.one 4 (.cI 11 (.one 8 (.one 9 (.one 10 (.one 12 (.cI 13 (.one 14 .leaf)))))))))))) (.alt (.one 3 (.alt (.one 1 (.alt (.one 4 (.cI 11 (.one 7 (.one 8 (.one 9 (.one 10 (.one 12 (.cI 13 (.one 14 .leaf))))))))) (.one 7 (.one 4 (.cI 11 (.one 8 (.one 9 (.one 10 (.one 12 (.cI 13 (.one 14 .leaf))))))))))) (.one 7 (.one 1 (.one 4 (.cI 11 (.one 8 (.one 9 (.one 10 (.one 12 (.cI 13 (.one 14 .leaf)))))))))))) (.one 7 (.alt (.one 1 (.one 3 (.one 4 (.cI 11 (.one 8 (.one 9 (.one 10 (.one 12 (.cI 13 (.one 14 .leaf)))))))))) (.one 3 (.one 1 (.one 4 (.cI 11 (.one 8 (.one 9 (.one 10 (.one 12 (.cI 13 (.one 14 .leaf))))))))))))))) (.one 7 (.alt (.one 1 (.alt (.one 3 (.alt (.one 4 (.alt (.one 6 (.cI 11 (.one 8 (.one 9 (.one 10 (.one 12 (.cI 13 (.one 14 .leaf)))))))) (.one 8 (.alt (.one 6 (.cI 11 (.one 9 (.one 10 (.one 12 (.cI 13 (.one 14 .leaf))))))) (.one 9 (.one 6 (.cI 11 (.one 10 (.one 12 (.cI 13 (.one 14 .leaf))))))))))) (.one 6 (.one 4 (.cI 11 (.one 8 (.one 9 (.one 10 (.one 12 (.cI 13 (.one 14 .leaf))))))))))) (.one 6 (.one 3 (.one 4 (.cI 11 (.one 8 (.one 9 (.one 10 (.one 12 (.cI 13 (.one 14 .leaf)))))))))))) (.alt (.one 3 (.alt (.one 1 (.alt (.one 4 (.alt (.one 6 (.cI 11 (.one 8 (.one 9 (.one 10 (.one 12 (.cI 13 (.one 14 .leaf)))))))) (.one 8 (.alt (.one 6 (.cI 11 (.one 9 (.one 10 (.one 12 (.cI 13 (.one 14 .leaf))))))) (.one 9 (.one 6 (.cI 11 (.one 10 (.one 12 (.cI 13 (.one 14 .leaf))))))))))) (.one 6 (.one 4 (.cI 11 (.one 8 (.one 9 (.one 10 (.one 12 (.cI 13 (.one 14 .leaf))))))))))) (.one 6 (.one 1 (.one 4 (.cI 11 (.one 8 (.one 9 (.one 10 (.one 12 (.cI 13 (.one 14 .leaf)))))))))))) (.one 6 (.alt (.one 1 (.one 3 (.one 4 (.cI 11 (.one 8 (.one 9 (.one 10 (.one 12 (.cI 13 (.one 14 .leaf)))))))))) (.one 3 (.one 1 (.one 4 (.cI 11 (.one 8 (.one 9 (.one 10 (.one 12 (.cI 13 (.one 14 .leaf)))))))))))))))))))))
structure OA (bs:List aq) (d:Nat) (s:Bytes) (xi:SV) (n k m:Nat) (σ:St):Prop where
 h2:lk 2 σ.t=some (.p (bs.length+1) 0)
 h3:lk 3 σ.t=some (.p (bs.length+2) 0)
 Bd:lk 19 σ.t=some xi
 CW:lk 20 σ.t=some (.int .i64 n)
 vn:lk 21 σ.t=some (.int .i64 k)
 bm:Kp bs σ.b
 eZ:σ.b[bs.length+1]? = some (.cells [.int .i64 0,.str [],.ai,.ai] 139 true)
 hy:∃ (y:SV) (Is:List Tv),σ.b[bs.length+2]? = some (.cells [.int .i64 6,.str s,.ai,y] 139 true)∧Is.length=m∧(∀ x∈Is,Tr σ.b d x)∧((y=.ai∧m=0)∨∃ q,0<m∧y=.o q m∧bs.length+2<q∧σ.b[q]? = some (.own (Is.flatMap tv) 139 4 m true))
structure OB (bs:List aq) (d:Nat) (v:Tv) (z:SV) (S:List Bytes) (k m:Nat) (σ:St):Prop where
 h1:lk 1 σ.t=some (.p bs.length 0)
 h2:lk 2 σ.t=some (.p (bs.length+1) 0)
 h3:lk 3 σ.t=some (.p (bs.length+2) 0)
 JS:lk 36 σ.t=some z
 wR:lk 37 σ.t=some (.int .i64 S.length)
 Py:lk 38 σ.t=some (.int .i64 k)
 bm:Kp bs σ.b
 dK:σ.b[bs.length]? = some (.cells [.int .i64 v.k,.str v.t,v.xk,v.xi] 139 true)
 eZ:σ.b[bs.length+1]? = some (.cells [.int .i64 0,.str [],.ai,.ai] 139 true)
 hS:Rs σ.b z S
 hy:∃ (y1 y2:SV) (Is:List Tv),σ.b[bs.length+2]? = some (.cells [.int .i64 v.k,.str v.t,y1,y2] 139 true)∧Is.length=m∧(∀ x∈Is,Tr σ.b d x)∧((y1=.ai∧y2=.ai∧m=0)∨∃ q1 q2,0<m∧y1=.o q1 m∧y2=.o q2 m∧bs.length+2<q1∧bs.length+2<q2∧σ.b[q1]? = some (.own ((S.take m).map SV.str) 9 1 m true)∧σ.b[q2]? = some (.own (Is.flatMap tv) 139 4 m true))
theorem uv:∀ (d:Nat){bs:List aq}{v:Tv},Tr bs d v→SC QH 135 [.agg (tv v)] bs (fun r b=>∃ v',r=.agg (tv v')∧Kp bs b∧Tr b d v')
 | 0,_,_,h=>h.elim
 | d+1,bs,v,hv=>by
   have ih:=fun {bs:List aq} {v:Tv} (h:Tr bs d v)=>uv d h
   refine SC.wV ?_;have hvv:=hv;have It:=hv.oc;obtain⟨v1,v2,v3,v4⟩:=It;have ho:(one v.xk&&one v.xi)=true:=by rw[v3,v4];rfl
   obtain⟨g1,g2,K,L,g3,g4,g5,g6,g7,g8,g9,g10⟩:=hv;refine tg (fun n=>if n=6 then .all Kz else if n=13 then .all Gu else .ord []) 3000 func135 rfl ntmps135 results135 call135 QB (af bs.length _ (by simp[within,within.av,tv,v1,v2])) ?_;have r7:=g4.len;unfold tv;by_cases h6:v.k=6
   ·have e6:(v.k==6)=true:=by rw[h6];rfl
    refine gA (zTm ho (zTm r7 e6)) ?_;rw[h6];refine ax (fun σ=>∃ k,k≤L.length∧OA bs d v.t v.xi L.length k k σ) (fun σ=>L.length - fA 21 σ) ⟨0,QA,rfl,rfl,rfl,rfl,rfl,(Kp.refl bs).app _,aY _ _ 1,⟨.ai,[],aY _ _ 2,rfl,QB,.inl ⟨rfl,rfl⟩⟩⟩ ?_;rintro⟨t,b⟩ ⟨k,hk,h2,h3,Bd,CW,vn,bm,eZ,y,Is,qv,HF,EB,hy⟩;simp only at h2 h3 Bd CW vn bm eZ qv EB hy;rw[ak vn];by_cases az:k<L.length
    ·have aK:decide ((k:Int)<L.length)=true:=QF
     rcases g4 with⟨-,rfl⟩|⟨j,iQ,hj⟩
     ·exact absurd az QB
     have r9:=bm.at hj;rw[iQ]at Bd;have hu:zTL 4 (zTP (k * 4) (L.flatMap tv))=[.int .i64 L[k].k,.str L[k].t,L[k].xk,L[k].xi]:=xl L k az;have mI:=oI L;have hx:=g10 L[k] (zTz az);generalize L[k]=x at hu hx;obtain⟨x1,x2,x3,x4⟩:=hx.oc;have qZ:(one x.xk&&one x.xi)=true:=by rw[x3,x4];rfl
     refine gA (zTm h2 (zTm h3 (zTm Bd (zTm CW (zTm vn (zTm aK (zTm iQ (zTm r9 (zTm hu qZ))))))))) ?_;refine⟨QA,QA,uD (fun σ=>OA bs d v.t (.o j L.length) L.length k (k+1) σ) QE ?_ ?_⟩
     ·simp only[bJ,↓Xn,↓Xo,↓Xg,↓Xd,↓Xe,↓Xf,Tryz.VΓ,Tryz.Γs,Xp,Xi,Nat.reduceAdd,Nat.reduceSub,Nat.reduceLT,Nat.reduceLeDiff,reduceIte,reduceCtorEq,Nat.reduceEqDiff,implies_true,forall_const,bI,di,beq_self_eq_true,bne_self_eq_false,Int.reduceBEq,Int.reduceBNe,Int.reduceLT,Int.reduceLE,Kz,h2,h3,Bd,CW,vn,ad qv]
      refine⟨?_,?_,?_⟩;all_goals
       refine ae (ih (hx.ro (bm.ro.app _))) ?_;rintro r b1 ⟨v',rfl,cV,hT1⟩;obtain⟨w1,w2,w3,w4⟩:=hT1.oc;have hwo:(one v'.xk&&one v'.xi)=true:=by rw[w3,w4];rfl
       have gp:=((Kp.refl b).app _).trans cV;have Ps:=gp.at eZ;have vj:=gp.at qv;have vg:=(zTn.1 vj).1;have jF:=gp.1;have eU:∀ (l:List aq) X,(b1++l).set (bs.length+2) X=b1.set (bs.length+2) X++l:=fun l X=>aQ vg l X
       rcases hy with⟨rfl,rfl⟩|⟨q,kD,rfl,hq,cM⟩
       ·have tD:=(Ro.refl b1).cell vj (.cells [.int .i64 6,.str v.t,.ai,.o (b1.length+1) 1] 139 true)
        simp only[bJ,↓Xn,↓Xo,↓Xg,↓Xd,↓Xe,↓Xf,Tryz.VΓ,Tryz.Γs,Xp,Xi,Nat.reduceAdd,Nat.reduceSub,Nat.reduceLT,Nat.reduceLeDiff,reduceIte,reduceCtorEq,Nat.reduceEqDiff,implies_true,forall_const,bI,di,beq_self_eq_true,bne_self_eq_false,Int.reduceBEq,Int.reduceBNe,Int.reduceLT,Int.reduceLE,h2,h3,Bd,CW,vn,vj,ad vj,eU,hwo,tv];repeat' apply zTm
        all_goals first
         | omega
         | (unfold maxLen;omega)
         | exact⟨h2,h3,Bd,CW,vn,((bm.trans gp).set QA _).app _,ad (aw Ps QA _) _,⟨.o (b1.length+1) 1,[v'],bV vg _ _,rfl,(fun x hx=>by obtain rfl:=zTw.1 hx;exact hT1.ro (tD.app _)),.inr ⟨b1.length+1,QA,rfl,QA,aX QB _ 1⟩⟩⟩
       ·have jZ:=gp.at cM
        have jV:=(zTn.1 jZ).1;have nS:∀ (l:List aq) X,(b1++l).set q X=b1.set q X++l:=fun l X=>aQ jV l X
        have Ad:∀ (l:List aq) Y X,(b1.set q Y++l).set (bs.length+2) X=(b1.set q Y).set (bs.length+2) X++l:=fun l Y X=>aQ (by simpa using vg) l X
        have jI:=fun Y=>ad (aw vj (show q≠bs.length+2 by omega) Y)
        have tD:=((Ro.refl b1).rW jZ .gone).cell (aw vj (show q≠bs.length+2 by omega) .gone) (.cells [.int .i64 6,.str v.t,.ai,.o (b1.length+1) (k+1)] 139 true);simp only[bJ,↓Xn,↓Xo,↓Xg,↓Xd,↓Xe,↓Xf,Tryz.VΓ,Tryz.Γs,Xp,Xi,Nat.reduceAdd,Nat.reduceSub,Nat.reduceLT,Nat.reduceLeDiff,reduceIte,reduceCtorEq,Nat.reduceEqDiff,implies_true,forall_const,bI,di,beq_self_eq_true,bne_self_eq_false,Int.reduceBEq,Int.reduceBNe,Int.reduceLT,Int.reduceLE,h2,h3,Bd,CW,vn,vj,ad vj,ad jZ,eU,nS,Ad,jI,hwo,tv];repeat' apply zTm
        all_goals first
         | omega
         | (unfold maxLen;omega)
         | exact⟨h2,h3,Bd,CW,vn,(((bm.trans gp).set QA _).set QA _).app _,ad (aw (aw Ps QA _) QA _) _,⟨.o (b1.length+1) (k+1),Is++[v'],bV (by simpa using vg) _ _,by simp[HF],(fun x hx=>by
            rcases zTx.1 hx with hx|hx
            ·exact(EB x hx).ro (gp.ro.trans (tD.app _))
            ·obtain rfl:=zTw.1 hx;exact hT1.ro (tD.app _)),.inr ⟨b1.length+1,QA,rfl,QA,by rw[aX QB,zTE];rfl⟩⟩⟩
     ·rintro⟨t,b⟩ ⟨h2,h3,Bd,CW,vn,bm,eZ,y,Is,qv,HF,EB,hy⟩
      simp only at h2 h3 Bd CW vn bm eZ qv EB hy;refine gA (zTm h2 (zTm h3 (zTm Bd (zTm CW vn)))) ?_;refine⟨QA,⟨k+1,QA,h2,h3,Bd,CW,rfl,bm,eZ,y,Is,qv,HF,EB,hy⟩,?_⟩;rw[ak (k:=.i64) (n:=(k:Int)+1) rfl];omega
    ·have aK:decide ((k:Int)<L.length)=false:=QG
     have tK:=(zTn.1 eZ).1;have yi:one y=true:=by rcases hy with⟨rfl,-⟩|⟨q,-,rfl,-⟩ <;> rfl
     have ra:∀ X,(b.set (bs.length+1) X)[bs.length+1]? = some X:=fun X=>List.getElem?_set_self tK
     refine gA (zTm h2 (zTm h3 (zTm Bd (zTm CW (zTm vn (zTm aK (zTm qv (zTm eZ (zTm yi ra))))))))) ?_;have nL:=bm.set (j:=bs.length+1) QA (.cells [.int .i64 6,.str v.t,.ai,y] 139 true);have hrr:=((Ro.refl b).cell eZ (.cells [.int .i64 6,.str v.t,.ai,y] 139 true)).trans (gY (lo:=bs.length) (by simpa using nL.1)).ro;refine⟨by simpa using nL.1,⟨6,v.t,.ai,y⟩,rfl,nL.iE,g1,.inr (.inr (.inl rfl)),[],Is,.inl ⟨rfl,rfl⟩,?_,QB,QA,QB,QB,QB,fun x hx=>(EB x hx).ro hrr⟩;rcases hy with⟨rfl,h0⟩|⟨q,kD,rfl,hq,cM⟩
     ·exact .inl ⟨rfl,zTF.1 QA⟩
     ·exact .inr ⟨q,by rw[HF],by rw[ka QA (aw cM QA _),HF];rfl⟩
   ·have e6:(v.k==6)=false:=beq_eq_false_iff_ne.2 h6
    refine gA (zTm ho (zTm r7 e6)) ?_;refine ae (nF 20000 QA _ (g3.ro ((Ro.refl bs).app [.cells [.int .i64 v.k,.str v.t,v.xk,v.xi] 139 true,.cells [.int .i64 0,.str [],.ai,.ai] 139 true,.cells [.int .i64 v.k,.str v.t,.ai,.ai] 139 true])) (zTH _) QA g7) ?_;rintro z b9 ⟨S,hS,hSl,lS,cV⟩;have Iq:=hS.BC;refine gA Iq ?_;refine ax (fun σ=>∃ k,k≤S.length∧OB bs d v z S k k σ) (fun σ=>S.length - fA 38 σ) ⟨0,QA,rfl,rfl,rfl,rfl,rfl,rfl,((Kp.refl bs).app _).trans cV,cV.at (aM _ _),cV.at (aY _ _ 1),hS,⟨.ai,.ai,[],cV.at (aY _ _ 2),rfl,QB,.inl ⟨rfl,rfl,rfl⟩⟩⟩ ?_;clear Iq hS cV;rintro⟨t,b⟩ ⟨k,hk,h1,h2,h3,JS,wR,Py,bm,dK,eZ,hS,y1,y2,Is,qv,HF,EB,hy⟩;simp only at h1 h2 h3 JS wR Py bm dK eZ hS qv EB hy;rw[ak Py];by_cases az:k<S.length
    ·have aK:decide ((k:Int)<S.length)=true:=QF
     have hSS:=hS;rcases hS with⟨rfl,rfl⟩|⟨j,rfl,hj⟩
     ·exact absurd az QB
     have Ms:v.k=7:=by
      rcases Decidable.em (v.k=7) with h|h
      ·exact h
      ·rw[g9 h]at hSl;rw[hSl]at az;simp at az
     have hL0:0<L.length:=by rw[← g8 Ms];omega
     have vL:1≤d:=by
      obtain⟨e,rfl⟩:=(g10 (L[0]'hL0) (zTz hL0)).ex;omega
     have BO:(S.map SV.str)[k * 1]? = some (.str S[k]):=by simp[az]
     have hSk:=lS S[k] (zTz az);have hsn:(S.take (k+1)).map SV.str=(S.take k).map SV.str++[.str S[k]]:=by
      rw[List.take_succ_eq_append_getElem az,List.map_append];rfl
     generalize S[k]=key at BO hSk hsn;have s1:=IZ (hvv.ro bm.ro) vL key;unfold tv at s1;refine gA (zTm h1 (zTm h2 (zTm h3 (zTm JS (zTm wR (zTm Py (zTm aK (zTm hj (zTm BO dK))))))))) ?_;refine⟨QA,QC,ae s1 ?_⟩;rintro r b1 ⟨x,ok,rfl,cV,hx⟩;obtain⟨x1,x2,x3,x4⟩:=hx.oc;have qZ:(one x.xk&&one x.xi)=true:=by rw[x3,x4];rfl
     have jX:=bm.trans cV;have MF:=cV.at dK;have Ps:=cV.at eZ;have vj:=cV.at qv;have jF:=cV.1;have hb2l':=(zTn.1 qv).1;refine gA (zTm h1 (zTm h2 (zTm h3 (zTm JS (zTm wR (zTm Py qZ)))))) ?_;have hSS1:=hSS.ro cV.ro;have hIs1:=fun x hx=>(EB x hx).ro cV.ro
     generalize hT:((9,SV.bool ok)::_:List (Nat × SV))=T;have f1:lk 1 T=some (.p bs.length 0):=by rw[← hT];exact h1
     have f2:lk 2 T=some (.p (bs.length+1) 0):=by rw[← hT];exact h2
     have f3:lk 3 T=some (.p (bs.length+2) 0):=by rw[← hT];exact h3
     have f7:lk 7 T=some (.str key):=by rw[← hT];rfl
     have f8:lk 8 T=some (.p b1.length 0):=by rw[← hT];rfl
     have f36:lk 36 T=some (.o j S.length):=by rw[← hT];exact JS
     have f37:lk 37 T=some (.int .i64 S.length):=by rw[← hT];exact wR
     have f38:lk 38 T=some (.int .i64 k):=by rw[← hT];exact Py
     clear hT h1 h2 h3 JS wR Py dK eZ hSS EB s1 hj;refine lT (fun σ=>OB bs d v (.o j S.length) S k (k+1) σ) QE ?_ ?_
     ·intro E' k'
      unfold Gu;rcases hy with⟨rfl,rfl,rfl⟩|⟨q1,q2,kD,rfl,rfl,jK,p7,jI,jZ⟩
      ·refine gA (zTm f3 (zTm f7 (zTm f8 (ad vj)))) ?_
       repeat' apply zTm
       all_goals first
        | omega
        | (unfold maxLen;omega)
        | skip
       all_goals
        refine ae (ih (hx.ro ((Ro.refl b1).app _))) ?_;rintro r b2 ⟨v',rfl,bS,hT1⟩;obtain⟨w1,w2,w3,w4⟩:=hT1.oc;have hwo:(one v'.xk&&one v'.xi)=true:=by rw[w3,w4];rfl
        have eA:Kp bs b2:=(jX.app _).trans bS;have hro2:Ro b1 b2:=((Ro.refl b1).app _).trans bS.ro;have rn:b2[bs.length]? = _:=bS.at (ad MF _);have BU:b2[bs.length+1]? = _:=bS.at (ad Ps _);have BS:b2[bs.length+2]? = _:=bS.at (ad vj _);have hr1:=bS.at (aX (l1:=b1) (n:=b1.length) QB _ 2);have vf:=bS.1;simp only[zTp,zTt,zTu,zTC]at vf;have vg:bs.length+2<b2.length:=(zTn.1 BS).1;have eU:∀ (l:List aq) X,(b2++l).set (bs.length+2) X=b2.set (bs.length+2) X++l:=fun l X=>aQ vg l X
        have hset':∀ (l:List aq) Y X,(b2.set (bs.length+2) Y++l).set (bs.length+2) X=b2.set (bs.length+2) X++l:=fun l Y X=>by rw[aQ (by simpa using vg),List.set_set]
        have hget:∀ (l:List aq) Y,(b2.set (bs.length+2) Y++l)[bs.length+2]? = some Y:=fun l Y=>bV vg Y l
        simp only[bJ,↓Xn,↓Xo,↓Xg,↓Xd,↓Xe,↓Xf,Tryz.VΓ,Tryz.Γs,Xp,Xi,Nat.reduceAdd,Nat.reduceSub,Nat.reduceLT,Nat.reduceLeDiff,reduceIte,reduceCtorEq,Nat.reduceEqDiff,implies_true,forall_const,bI,di,beq_self_eq_true,bne_self_eq_false,Int.reduceBEq,Int.reduceBNe,Int.reduceLT,Int.reduceLE,f3,f7,f8,BS,ad BS,eU,hset',hget,hwo,tv];have tD:=(Ro.refl b2).cell BS (.cells [.int .i64 v.k,.str v.t,.o (b1.length+2) 1,.o (b2.length+1) 1] 139 true);repeat' apply zTm
        all_goals first
         | omega
         | (unfold maxLen;omega)
         | exact⟨f1,f2,f3,f36,f37,f38,(eA.set QA _).app _,ad (aw rn QA _) _,ad (aw BU QA _) _,hSS1.ro (hro2.trans (tD.app _)),⟨.o (b1.length+2) 1,.o (b2.length+1) 1,[v'],bV vg _ _,rfl,(fun x hx=>by obtain rfl:=zTw.1 hx;exact hT1.ro (tD.app _)),.inr ⟨b1.length+2,b2.length+1,QA,rfl,rfl,QA,QA,ad (aw (hr1.trans (by rw[hsn];rfl)) QA _) _,aX QB _ 1⟩⟩⟩
      ·replace jI:=cV.at jI
       replace jZ:=cV.at jZ;have hq1l:=(zTn.1 jI).1;have hq2l:=(zTn.1 jZ).1;have hqn:q1≠q2:=by rintro rfl;rw[jI]at jZ;simp at jZ
       have nS:∀ (l:List aq) X,(b1++l).set q1 X=b1.set q1 X++l:=fun l X=>aQ hq1l l X
       have ME:=fun Y=>ad (aw vj (show q1≠bs.length+2 by omega) Y)
       have JJ:∀ (l:List aq) Y,(b1.set q1 Y++l)[b1.length]? = l[0]? := fun l Y=>aX QB l 0
       simp only[bJ,↓Xn,↓Xo,↓Xg,↓Xd,↓Xe,↓Xf,Tryz.VΓ,Tryz.Γs,Xp,Xi,Nat.reduceAdd,Nat.reduceSub,Nat.reduceLT,Nat.reduceLeDiff,reduceIte,reduceCtorEq,Nat.reduceEqDiff,implies_true,forall_const,bI,di,beq_self_eq_true,bne_self_eq_false,Int.reduceBEq,Int.reduceBNe,Int.reduceLT,Int.reduceLE,f3,f7,f8,ad vj,ad jI,nS,ME,JJ,zTt];repeat' apply zTm
       all_goals first
        | omega
        | (unfold maxLen;omega)
        | skip
       all_goals
        refine ae (ih (hx.ro (((Ro.refl b1).rW jI .gone).app _))) ?_;rintro r b2 ⟨v',rfl,bS,hT1⟩;obtain⟨w1,w2,w3,w4⟩:=hT1.oc;have hwo:(one v'.xk&&one v'.xi)=true:=by rw[w3,w4];rfl
        have eA:Kp bs b2:=((jX.set QA _).app _).trans bS;have hro2:Ro b1 b2:=(((Ro.refl b1).rW jI .gone).app _).trans bS.ro;have rn:b2[bs.length]? = _:=bS.at (ad (aw MF QA _) _);have BU:b2[bs.length+1]? = _:=bS.at (ad (aw Ps QA _) _);have BS:b2[bs.length+2]? = _:=bS.at (ad (aw vj QA _) _);have hr1:=bS.at (aX (l1:=b1.set q1 .gone) (n:=b1.length) QB _ 2);have vf:=bS.1;simp only[zTp,zTt,zTu,zTC]at vf;have vg:bs.length+2<b2.length:=(zTn.1 BS).1;have Pp:=bS.at (ad (aw jZ hqn .gone) _);have hq22l:=(zTn.1 Pp).1;have hsq2:∀ (l:List aq) X,(b2++l).set q2 X=b2.set q2 X++l:=fun l X=>aQ hq22l l X
        have pc:=fun Y=>ad (aw BS (show q2≠bs.length+2 by omega) Y)
        have eU:∀ (l:List aq) Z X,(b2.set q2 Z++l).set (bs.length+2) X=(b2.set q2 Z).set (bs.length+2) X++l:=fun l Z X=>aQ (by simpa using vg) l X
        have hset':∀ (l:List aq) Z Y X,((b2.set q2 Z).set (bs.length+2) Y++l).set (bs.length+2) X=(b2.set q2 Z).set (bs.length+2) X++l:=fun l Z Y X=>by rw[aQ (by simpa using vg),List.set_set]
        have hget:∀ (l:List aq) Z Y,((b2.set q2 Z).set (bs.length+2) Y++l)[bs.length+2]? = some Y:=fun l Z Y=>bV (by simpa using vg) Y l
        simp only[bJ,↓Xn,↓Xo,↓Xg,↓Xd,↓Xe,↓Xf,Tryz.VΓ,Tryz.Γs,Xp,Xi,Nat.reduceAdd,Nat.reduceSub,Nat.reduceLT,Nat.reduceLeDiff,reduceIte,reduceCtorEq,Nat.reduceEqDiff,implies_true,forall_const,bI,di,beq_self_eq_true,bne_self_eq_false,Int.reduceBEq,Int.reduceBNe,Int.reduceLT,Int.reduceLE,f3,f7,f8,BS,ad BS,ad Pp,hsq2,pc,eU,hset',hget,hwo,tv,zTt];have tD:=((Ro.refl b2).rW Pp .gone).cell (aw BS (show q2≠bs.length+2 by omega) .gone) (.cells [.int .i64 v.k,.str v.t,.o (b1.length+2) (k+1),.o (b2.length+1) (k+1)] 139 true);repeat' apply zTm
        all_goals first
         | omega
         | (unfold maxLen;omega)
         | exact⟨f1,f2,f3,f36,f37,f38,((eA.set QA _).set QA _).app _,ad (aw (aw rn QA _) QA _) _,ad (aw (aw BU QA _) QA _) _,hSS1.ro (hro2.trans (tD.app _)),⟨.o (b1.length+2) (k+1),.o (b2.length+1) (k+1),Is++[v'],bV (by simpa using vg) _ _,by simp[HF],(fun x hx=>by
            rcases zTx.1 hx with hx|hx
            ·exact(hIs1 x hx).ro (hro2.trans (tD.app _))
            ·obtain rfl:=zTw.1 hx;exact hT1.ro (tD.app _)),.inr ⟨b1.length+2,b2.length+1,QA,rfl,rfl,QA,QA,ad (aw (aw (hr1.trans (by rw[hsn];try rfl)) QA _) QA _) _,by rw[aX QB,zTE];try rfl⟩⟩⟩
     ·rintro⟨t,b⟩ ⟨h1,h2,h3,JS,wR,Py,bm,dK,eZ,hS,hy⟩
      simp only at h1 h2 h3 JS wR Py bm dK eZ hS hy;refine gA (zTm h1 (zTm h2 (zTm h3 (zTm JS (zTm wR Py))))) ?_;refine⟨QA,⟨k+1,QA,h1,h2,h3,JS,wR,rfl,bm,dK,eZ,hS,hy⟩,?_⟩;rw[ak (k:=.i64) (n:=(k:Int)+1) rfl];omega
    ·have aK:decide ((k:Int)<S.length)=false:=QG
     have tK:=(zTn.1 eZ).1;obtain⟨hyo1,hyo2⟩:one y1=true∧one y2=true:=by rcases hy with⟨rfl,rfl,-⟩|⟨q1,q2,-,rfl,rfl,-⟩ <;> exact⟨rfl,rfl⟩
     have ra:∀ X,(b.set (bs.length+1) X)[bs.length+1]? = some X:=fun X=>List.getElem?_set_self tK
     refine gA (zTm h1 (zTm h2 (zTm h3 (zTm JS (zTm wR (zTm Py (zTm aK (zTm qv (zTm eZ (zTm hyo1 (zTm hyo2 (zTm Bool.and_self ra)))))))))))) ?_;have nL:=bm.set (j:=bs.length+1) QA (.cells [.int .i64 v.k,.str v.t,y1,y2] 139 true);have hrr:=((Ro.refl b).cell eZ (.cells [.int .i64 v.k,.str v.t,y1,y2] 139 true)).trans (gY (lo:=bs.length) (by simpa using nL.1)).ro;have hkS:k=S.length:=QA;refine⟨by simpa using nL.1,⟨v.k,v.t,y1,y2⟩,rfl,nL.iE,g1,g2,S,Is,?_,?_,QA,QA,lS,fun _=>QA,fun h=>?_,fun x hx=>(EB x hx).ro hrr⟩
     ·rcases hy with⟨rfl,rfl,h0⟩|⟨q1,q2,kD,rfl,rfl,jK,p7,jI,jZ⟩
      ·exact .inl ⟨rfl,zTF.1 QA⟩
      ·exact .inr ⟨q1,by rw[hkS],by rw[ka QA (aw jI QA _),hkS,List.take_length];rfl⟩
     ·rcases hy with⟨rfl,rfl,h0⟩|⟨q1,q2,kD,rfl,rfl,jK,p7,jI,jZ⟩
      ·exact .inl ⟨rfl,zTF.1 QA⟩
      ·exact .inr ⟨q2,by rw[HF],by rw[ka QA (aw jZ QA _),HF];rfl⟩
     ·have:=g9 h
      subst this;exact zTF.1 hSl
def Wb:Nat→Nat
 | 0=>200000
 | d+1=>16 * (Wb d+130000)+200000
theorem Qc:∀ d,d≤5→Wb d≤1000000000000:=by decide
theorem yN (d:Nat):Wb (d+1)=16 * (Wb d+130000)+200000:=rfl
attribute [irreducible] Wb
structure OW (bs:List aq) (d:Nat) (v:Tv) (n k m:Nat) (σ:St):Prop where
 h1:lk 1 σ.t=some (.p bs.length 0)
 mM:lk 32 σ.t=some v.xi
 mg:lk 33 σ.t=some (.int .i64 n)
 nt:lk 34 σ.t=some (.int .i64 k)
 bm:Kp bs σ.b
 dK:σ.b[bs.length]? = some (.cells [.int .i64 v.k,.str v.t,v.xk,v.xi] 139 true)
 hy:∃ (y:SV) (W:Bytes),lk 5 σ.t=some y∧W.length≤m * (Wb d+130000)∧((y=.ai∧W=[]∧m=0)∨∃ q,0<m∧y=.o q W.length∧bs.length<q∧σ.b[q]? = some (.own (W.map eb) 5 1 W.length true))
theorem ur:∀ (d:Nat),d≤5→∀ {bs:List aq} {v:Tv},Tr bs d v→SC QH 134 [.agg (tv v)] bs (fun r b=>∃ s:Bytes,r=.str s∧s.length≤Wb d∧Kp bs b)
 | 0,_,_,_,h=>h.elim
 | d+1,hd,bs,v,hv=>by
   have ih:=fun {bs:List aq} {v:Tv} (h:Tr bs d v)=>ur d QA h
   have It:=hv.oc;obtain⟨kk,tt,xk,xi⟩:=v;obtain⟨v1,v2,v3,v4⟩:=It;simp only at v1 v2 v3 v4;have ho:(one xk&&one xi)=true:=by rw[v3,v4];rfl
   obtain⟨g1,g2,K,L,g3,g4,g5,g6,g7,g8,g9,g10⟩:=hv;simp only at g1 g2 g3 g4 g8 g9;refine bp 3000 func134 rfl ntmps134 results134 call134 QB (af bs.length _ (by simp[within,within.av,tv,v1,v2])) ?_;have r7:=g4.len;unfold tv;have hwb:200000≤Wb (d+1):=by rw[yN];omega
   rcases g2 with rfl|rfl|rfl|rfl
   rotate_left
   refine gA (zTm ho r7) ?_;refine ae (oP _ QA) ?_;rintro r b1 ⟨u,e,rfl,hu,cV⟩;refine dY ?_;exact⟨_,rfl,QA,((Kp.refl bs).app _).trans cV⟩;refine gA (zTm ho r7) ?_;refine ax (fun σ=>∃ k,k≤L.length∧OW bs d ⟨6,tt,xk,xi⟩ L.length k k σ) (fun σ=>L.length - fA 34 σ) ⟨0,QA,rfl,rfl,rfl,rfl,(Kp.refl bs).app _,aM _ _,⟨.ai,[],rfl,QB,.inl ⟨rfl,rfl,rfl⟩⟩⟩ ?_;rintro⟨t,b⟩ ⟨k,hk,h1,mM,mg,nt,bm,dK,y,W,h5,hW,hy⟩;simp only at h1 mM mg nt bm dK h5 hy;rw[ak nt];have tS:=Qc d QA;have hkm:(k+1) * (Wb d+130000)=k * (Wb d+130000)+(Wb d+130000):=by rw[Nat.add_mul,Nat.one_mul]
   have hkM:k * (Wb d+130000)≤16 * (Wb d+130000):=Nat.mul_le_mul_right _ QA;by_cases az:k<L.length
   ·have aK:decide ((k:Int)<L.length)=true:=QF
    rcases g4 with⟨-,rfl⟩|⟨j,rfl,hj⟩
    ·exact absurd az QB
    have r9:=bm.at hj;have hu:zTL 4 (zTP (k * 4) (L.flatMap tv))=[.int .i64 L[k].k,.str L[k].t,L[k].xk,L[k].xi]:=xl L k az;have mI:=oI L;have hx:=g10 L[k] (zTz az);generalize L[k]=x at hu hx;obtain⟨x1,x2,x3,x4⟩:=hx.oc;have qZ:(one x.xk&&one x.xi)=true:=by rw[x3,x4];rfl
    have jF:=bm.1;rcases hy with⟨rfl,rfl,rfl⟩|⟨q,kD,rfl,hq,cM⟩
    ·clear hkm hkM hW
     have c0:decide ((0:Int)<((0:Nat):Int))=false:=rfl;refine gA (zTm h1 (zTm h5 (zTm mM (zTm mg (zTm nt (zTm aK (zTm r9 (zTm hu (zTm qZ (zTm (ad dK) c0)))))))))) ?_;refine⟨QA,QA,?_⟩;refine ae (ih (hx.ro (bm.ro.app _))) ?_;rintro r b2 ⟨u2,rfl,E3,bS⟩;have eA:=(bm.app [_]).trans bS;have rn:=bS.at (ad dK _);have vf:=bS.1;simp only[zTp,zTu,zTC]at vf;refine gA (zTm h1 (zTm h5 (zTm mM (zTm mg (zTm nt @jT))))) ?_;refine⟨⟨by unfold maxLen;omega,QA⟩,QA,⟨1,QA,h1,mM,mg,rfl,eA.app _,ad rn _,⟨.o b2.length u2.length,u2,rfl,QA,.inr ⟨b2.length,QA,rfl,QA,aM _ _⟩⟩⟩,?_⟩;rw[ak (k:=.i64) (n:=(1:Int)) rfl];omega
    ·have c0:decide ((0:Int)<k)=true:=QF
     have jV:=(zTn.1 cM).1;have nS:∀ (l:List aq) X,(b++l).set q X=b.set q X++l:=fun l X=>aQ jV l X
     have ME:=fun Y=>ad (aw dK (show q≠bs.length by omega) Y)
     have JJ:∀ (l:List aq) Y,(b.set q Y++l)[b.length]? = l[0]? := fun l Y=>aX QB l 0
     simp only[bJ,↓Xn,↓Xo,↓Xg,↓Xd,↓Xe,↓Xf,Tryz.VΓ,Tryz.Γs,Xp,Xi,Nat.reduceAdd,Nat.reduceSub,Nat.reduceLT,Nat.reduceLeDiff,reduceIte,reduceCtorEq,Nat.reduceEqDiff,implies_true,forall_const,bI,di,beq_self_eq_true,bne_self_eq_false,Int.reduceBEq,Int.reduceBNe,Int.reduceLT,Int.reduceLE,h1,h5,mM,mg,nt,aK,r9,hu,qZ,ad dK,c0,ad cM,nS,ME,JJ,zTt];refine⟨QA,QA,QA,⟨by unfold maxLen;omega,QA⟩,?_⟩;refine ae (ih (hx.ro (bm.ro.trans (((Ro.refl b).rW cM .gone).app _)))) ?_;rintro r b2 ⟨u2,rfl,E3,bS⟩;have eA:=((bm.set (j:=q) QA .gone).app _).trans bS;have rn:=bS.at (ad (aw dK (show q≠bs.length by omega) .gone) _);have hr:=bS.at (aX (l1:=b.set q .gone) (n:=b.length) QB _ 2);have BL:=(zTn.1 hr).1;have fI:∀ (l:List aq) X,(b2++l).set (b.length+2) X=b2.set (b.length+2) X++l:=fun l X=>aQ BL l X
     simp only[bJ,↓Xn,↓Xo,↓Xg,↓Xd,↓Xe,↓Xf,Tryz.VΓ,Tryz.Γs,Xp,Xi,Nat.reduceAdd,Nat.reduceSub,Nat.reduceLT,Nat.reduceLeDiff,reduceIte,reduceCtorEq,Nat.reduceEqDiff,implies_true,forall_const,bI,di,beq_self_eq_true,bne_self_eq_false,Int.reduceBEq,Int.reduceBNe,Int.reduceLT,Int.reduceLE,h1,h5,mM,mg,nt,jT,hr,ad hr,fI,zTt];refine⟨⟨by unfold maxLen;omega,QA⟩,QA,⟨k+1,QA,h1,mM,mg,rfl,(eA.set QA _).app _,ad (aw rn QA _) _,⟨_,W++[44]++u2,rfl,QC,.inr ⟨b2.length,QA,QC,QA,?_⟩⟩⟩,?_⟩
     ·rw[show (b2.set (b.length+2) aq.gone++[_])[b2.length]? = some _ from aX QB _ 0]
      simp[eb];omega
     ·rw[ak (k:=.i64) (n:=(k:Int)+1) rfl];omega
   ·have aK:decide ((k:Int)<L.length)=false:=QG
    have hWb:=yN d;rcases hy with⟨rfl,rfl,-⟩|⟨q,kD,rfl,hq,cM⟩
    ·refine gA (zTm h1 (zTm h5 (zTm mM (zTm mg (zTm nt (zTm aK dK)))))) ?_
     exact⟨_,rfl,QC,bm⟩
    ·refine gA (zTm h1 (zTm h5 (zTm mM (zTm mg (zTm nt (zTm aK (zTm dK cM))))))) ?_
     refine⟨gw W,QC,QC,_,rfl,QC,bm⟩
   refine gA (zTm ho r7) ?_;refine ax (fun σ=>∃ k,k≤L.length∧OW bs d ⟨7,tt,xk,xi⟩ L.length k k σ) (fun σ=>L.length - fA 34 σ) ⟨0,QA,rfl,rfl,rfl,rfl,(Kp.refl bs).app _,aM _ _,⟨.ai,[],rfl,QB,.inl ⟨rfl,rfl,rfl⟩⟩⟩ ?_;rintro⟨t,b⟩ ⟨k,hk,h1,mM,mg,nt,bm,dK,y,W,h5,hW,hy⟩;simp only at h1 mM mg nt bm dK h5 hy;rw[ak nt];have tS:=Qc d QA;have hkm:(k+1) * (Wb d+130000)=k * (Wb d+130000)+(Wb d+130000):=by rw[Nat.add_mul,Nat.one_mul]
   have hkM:k * (Wb d+130000)≤16 * (Wb d+130000):=Nat.mul_le_mul_right _ QA;by_cases az:k<L.length
   ·have aK:decide ((k:Int)<L.length)=true:=QF
    rcases g4 with⟨-,rfl⟩|⟨j,rfl,hj⟩
    ·exact absurd az QB
    have r9:=bm.at hj;have hu:zTL 4 (zTP (k * 4) (L.flatMap tv))=[.int .i64 L[k].k,.str L[k].t,L[k].xk,L[k].xi]:=xl L k az;have mI:=oI L;have hx:=g10 L[k] (zTz az);generalize L[k]=x at hu hx;obtain⟨x1,x2,x3,x4⟩:=hx.oc;have qZ:(one x.xk&&one x.xi)=true:=by rw[x3,x4];rfl
    have jF:=bm.1;rcases g3 with⟨-,rfl⟩|⟨jk,rfl,hjk⟩
    ·exact absurd (g8 rfl) QC
    have hbk:=bm.at hjk;have nL:=g8 rfl;have hltK:k<K.length:=QA;have BO:(K.map SV.str)[k * 1]? = some (.str K[k]):=by simp[hltK]
    have hKl:=g7 K[k] (zTz hltK);rcases hy with⟨rfl,rfl,rfl⟩|⟨q,kD,rfl,hq,cM⟩
    ·clear hkm hkM hW
     have c0:decide ((0:Int)<((0:Nat):Int))=false:=rfl;refine gA (zTm h1 (zTm h5 (zTm mM (zTm mg (zTm nt (zTm aK (zTm r9 (zTm hu (zTm qZ (zTm (ad dK) (zTm c0 (zTm (ad hbk) BO)))))))))))) ?_;refine⟨QA,QA,QA,QC,?_⟩;refine ae (oP _ QA) ?_;rintro r b1 ⟨u,e,rfl,hu1,cV⟩;have jX:=(bm.app [_]).trans cV;have MF:=cV.at (ad dK _);have hx7:=cV.at (aM b _);have Pq:=cV.1;simp only[zTp,zTu,zTC]at Pq;refine gA (zTm h1 (zTm h5 (zTm mM (zTm mg (zTm nt (zTm @jT (zTm qZ (zTm hx7 (ad hx7))))))))) ?_;refine⟨⟨by unfold maxLen;omega,QA⟩,QA,⟨by unfold maxLen;omega,QA⟩,?_⟩;refine ae (ih (hx.ro ((bm.ro.app _).trans (cV.ro.app _)))) ?_;rintro r b2 ⟨u2,rfl,E3,bS⟩;have eA:=(jX.app _).trans bS;have rn:=bS.at (ad MF _);have hr:=bS.at (aY b1 _ 2);have BL:=(zTn.1 hr).1;have fI:∀ (l:List aq) X,(b2++l).set (b1.length+2) X=b2.set (b1.length+2) X++l:=fun l X=>aQ BL l X
     simp only[bJ,↓Xn,↓Xo,↓Xg,↓Xd,↓Xe,↓Xf,Tryz.VΓ,Tryz.Γs,Xp,Xi,Nat.reduceAdd,Nat.reduceSub,Nat.reduceLT,Nat.reduceLeDiff,reduceIte,reduceCtorEq,Nat.reduceEqDiff,implies_true,forall_const,bI,di,beq_self_eq_true,bne_self_eq_false,Int.reduceBEq,Int.reduceBNe,Int.reduceLT,Int.reduceLE,h1,h5,mM,mg,nt,jT,hr,ad hr,fI,zTt];refine⟨⟨by unfold maxLen;omega,QA⟩,QA,⟨1,QA,h1,mM,mg,rfl,(eA.set QA _).app _,ad (aw rn QA _) _,⟨_,u++[58]++u2,rfl,QC,.inr ⟨b2.length,QA,QC,QA,?_⟩⟩⟩,?_⟩
     ·rw[show (b2.set (b1.length+2) aq.gone++[_])[b2.length]? = some _ from aX QB _ 0]
      simp[eb];omega
     ·rw[ak (k:=.i64) (n:=(1:Int)) rfl];omega
    ·have c0:decide ((0:Int)<k)=true:=QF
     have jV:=(zTn.1 cM).1;have nS:∀ (l:List aq) X,(b++l).set q X=b.set q X++l:=fun l X=>aQ jV l X
     have ME:=fun Y=>ad (aw dK (show q≠bs.length by omega) Y)
     have JJ:∀ (l:List aq) Y,(b.set q Y++l)[b.length]? = l[0]? := fun l Y=>aX QB l 0
     have hbk2:=fun Y=>ad (aw hbk (show q≠jk by rintro rfl;rw[cM]at hbk;simp at hbk) Y)
     simp only[bJ,↓Xn,↓Xo,↓Xg,↓Xd,↓Xe,↓Xf,Tryz.VΓ,Tryz.Γs,Xp,Xi,Nat.reduceAdd,Nat.reduceSub,Nat.reduceLT,Nat.reduceLeDiff,reduceIte,reduceCtorEq,Nat.reduceEqDiff,implies_true,forall_const,bI,di,beq_self_eq_true,bne_self_eq_false,Int.reduceBEq,Int.reduceBNe,Int.reduceLT,Int.reduceLE,h1,h5,mM,mg,nt,aK,r9,hu,qZ,ad dK,c0,ad cM,nS,ME,JJ,zTt,hbk2,BO];refine⟨QA,QA,QA,⟨by unfold maxLen;omega,QA⟩,QA,QC,?_⟩;refine ae (oP _ QA) ?_;rintro r b1 ⟨u,e,rfl,hu1,cV⟩;have jX:=((bm.set (j:=q) QA .gone).app _).trans cV;have MF:=cV.at (ad (aw dK (show q≠bs.length by omega) .gone) _);have hx7:b1[b.length]? = some (.cells [.int .i64 x.k,.str x.t,x.xk,x.xi] 139 true):=cV.at (aX (l1:=b.set q .gone) (n:=b.length) QB _ 0);have hr:=cV.at (aX (l1:=b.set q .gone) (n:=b.length) QB _ 2);have BL:=(zTn.1 hr).1;have uY:∀ (l:List aq) X,(b1++l).set (b.length+2) X=b1.set (b.length+2) X++l:=fun l X=>aQ BL l X
     have yl:∀ (l:List aq) Y k,(b1.set (b.length+2) Y++l)[b1.length+k]? = l[k]? := fun l Y k=>aX QB l k
     have E4:∀ (l:List aq) Y,(b1.set (b.length+2) Y++l)[b1.length]? = l[0]? := fun l Y=>aX QB l 0
     have hg3:∀ (l:List aq) Y X,(b1.set (b.length+2) Y++l).set b1.length X=b1.set (b.length+2) Y++l.set 0 X:=fun l Y X=>by
      have:=oB (b1.set (b.length+2) Y) l X
      rwa [zTt]at this
     have hx8:=fun Y=>ad (aw hx7 (show b.length+2≠b.length by omega) Y)
     have hro1:Ro b1 (b1.set (b.length+2) .gone):=(Ro.refl b1).rW hr .gone;simp only[bJ,↓Xn,↓Xo,↓Xg,↓Xd,↓Xe,↓Xf,Tryz.VΓ,Tryz.Γs,Xp,Xi,Nat.reduceAdd,Nat.reduceSub,Nat.reduceLT,Nat.reduceLeDiff,reduceIte,reduceCtorEq,Nat.reduceEqDiff,implies_true,forall_const,bI,di,beq_self_eq_true,bne_self_eq_false,Int.reduceBEq,Int.reduceBNe,Int.reduceLT,Int.reduceLE,h1,h5,mM,mg,nt,jT,qZ,hr,ad hr,uY,yl,E4,hg3,hx8,zTt];refine⟨⟨by unfold maxLen;omega,QA⟩,QA,⟨by unfold maxLen;omega,QA⟩,?_⟩;refine ae (ih (hx.ro ((bm.ro.trans ((((Ro.refl b).rW cM .gone).app _).trans cV.ro)).trans (hro1.app _)))) ?_;rintro r b2 ⟨u2,rfl,E3,bS⟩;have eA:=((jX.set (j:=b.length+2) QA .gone).app _).trans bS;have rn:=bS.at (ad (aw MF (show b.length+2≠bs.length by omega) .gone) _);have KN:=bS.at (aX (l1:=b1.set (b.length+2) .gone) (n:=b1.length) QB _ 2);have hr2l:=(zTn.1 KN).1;have Pq:=jX.1;have fI:∀ (l:List aq) X,(b2++l).set (b1.length+2) X=b2.set (b1.length+2) X++l:=fun l X=>aQ hr2l l X
     simp only[bJ,↓Xn,↓Xo,↓Xg,↓Xd,↓Xe,↓Xf,Tryz.VΓ,Tryz.Γs,Xp,Xi,Nat.reduceAdd,Nat.reduceSub,Nat.reduceLT,Nat.reduceLeDiff,reduceIte,reduceCtorEq,Nat.reduceEqDiff,implies_true,forall_const,bI,di,beq_self_eq_true,bne_self_eq_false,Int.reduceBEq,Int.reduceBNe,Int.reduceLT,Int.reduceLE,h1,h5,mM,mg,nt,jT,KN,ad KN,fI,zTt];refine⟨⟨by unfold maxLen;omega,QA⟩,QA,⟨k+1,QA,h1,mM,mg,rfl,(eA.set QA _).app _,ad (aw rn QA _) _,⟨_,W++[44]++u++[58]++u2,rfl,QC,.inr ⟨b2.length,QA,QC,QA,?_⟩⟩⟩,?_⟩
     ·rw[show (b2.set (b1.length+2) aq.gone++[_])[b2.length]? = some _ from aX QB _ 0]
      simp[eb];omega
     ·rw[ak (k:=.i64) (n:=(k:Int)+1) rfl];omega
   ·have aK:decide ((k:Int)<L.length)=false:=QG
    have hWb:=yN d;rcases hy with⟨rfl,rfl,-⟩|⟨q,kD,rfl,hq,cM⟩
    ·refine gA (zTm h1 (zTm h5 (zTm mM (zTm mg (zTm nt (zTm aK dK)))))) ?_
     exact⟨_,rfl,QC,bm⟩
    ·refine gA (zTm h1 (zTm h5 (zTm mM (zTm mg (zTm nt (zTm aK (zTm dK cM))))))) ?_
     refine⟨gw W,QC,QC,_,rfl,QC,bm⟩
   refine gA (zTm ho r7) ?_;refine ax (fun σ=>∃ k,k≤L.length∧OW bs d ⟨0,tt,xk,xi⟩ L.length k k σ) (fun σ=>L.length - fA 34 σ) ⟨0,QA,rfl,rfl,rfl,rfl,(Kp.refl bs).app _,aM _ _,⟨.ai,[],rfl,QB,.inl ⟨rfl,rfl,rfl⟩⟩⟩ ?_;rintro⟨t,b⟩ ⟨k,hk,h1,mM,mg,nt,bm,dK,y,W,h5,hW,hy⟩;simp only at h1 mM mg nt bm dK h5 hy;rw[ak nt];have tS:=Qc d QA;have hkm:(k+1) * (Wb d+130000)=k * (Wb d+130000)+(Wb d+130000):=by rw[Nat.add_mul,Nat.one_mul]
   have hkM:k * (Wb d+130000)≤16 * (Wb d+130000):=Nat.mul_le_mul_right _ QA;by_cases az:k<L.length
   ·have aK:decide ((k:Int)<L.length)=true:=QF
    rcases g4 with⟨-,rfl⟩|⟨j,rfl,hj⟩
    ·exact absurd az QB
    have r9:=bm.at hj;have hu:zTL 4 (zTP (k * 4) (L.flatMap tv))=[.int .i64 L[k].k,.str L[k].t,L[k].xk,L[k].xi]:=xl L k az;have mI:=oI L;have hx:=g10 L[k] (zTz az);generalize L[k]=x at hu hx;obtain⟨x1,x2,x3,x4⟩:=hx.oc;have qZ:(one x.xk&&one x.xi)=true:=by rw[x3,x4];rfl
    have jF:=bm.1;rcases hy with⟨rfl,rfl,rfl⟩|⟨q,kD,rfl,hq,cM⟩
    ·clear hkm hkM hW
     have c0:decide ((0:Int)<((0:Nat):Int))=false:=rfl;refine gA (zTm h1 (zTm h5 (zTm mM (zTm mg (zTm nt (zTm aK (zTm r9 (zTm hu (zTm qZ (zTm (ad dK) c0)))))))))) ?_;refine⟨QA,QA,?_⟩;refine ae (ih (hx.ro (bm.ro.app _))) ?_;rintro r b2 ⟨u2,rfl,E3,bS⟩;have eA:=(bm.app [_]).trans bS;have rn:=bS.at (ad dK _);have vf:=bS.1;simp only[zTp,zTu,zTC]at vf;refine gA (zTm h1 (zTm h5 (zTm mM (zTm mg (zTm nt @jT))))) ?_;refine⟨⟨by unfold maxLen;omega,QA⟩,QA,⟨1,QA,h1,mM,mg,rfl,eA.app _,ad rn _,⟨.o b2.length u2.length,u2,rfl,QA,.inr ⟨b2.length,QA,rfl,QA,aM _ _⟩⟩⟩,?_⟩;rw[ak (k:=.i64) (n:=(1:Int)) rfl];omega
    ·have c0:decide ((0:Int)<k)=true:=QF
     have jV:=(zTn.1 cM).1;have nS:∀ (l:List aq) X,(b++l).set q X=b.set q X++l:=fun l X=>aQ jV l X
     have ME:=fun Y=>ad (aw dK (show q≠bs.length by omega) Y)
     have JJ:∀ (l:List aq) Y,(b.set q Y++l)[b.length]? = l[0]? := fun l Y=>aX QB l 0
     simp only[bJ,↓Xn,↓Xo,↓Xg,↓Xd,↓Xe,↓Xf,Tryz.VΓ,Tryz.Γs,Xp,Xi,Nat.reduceAdd,Nat.reduceSub,Nat.reduceLT,Nat.reduceLeDiff,reduceIte,reduceCtorEq,Nat.reduceEqDiff,implies_true,forall_const,bI,di,beq_self_eq_true,bne_self_eq_false,Int.reduceBEq,Int.reduceBNe,Int.reduceLT,Int.reduceLE,h1,h5,mM,mg,nt,aK,r9,hu,qZ,ad dK,c0,ad cM,nS,ME,JJ,zTt];refine⟨QA,QA,QA,⟨by unfold maxLen;omega,QA⟩,?_⟩;refine ae (ih (hx.ro (bm.ro.trans (((Ro.refl b).rW cM .gone).app _)))) ?_;rintro r b2 ⟨u2,rfl,E3,bS⟩;have eA:=((bm.set (j:=q) QA .gone).app _).trans bS;have rn:=bS.at (ad (aw dK (show q≠bs.length by omega) .gone) _);have hr:=bS.at (aX (l1:=b.set q .gone) (n:=b.length) QB _ 2);have BL:=(zTn.1 hr).1;have fI:∀ (l:List aq) X,(b2++l).set (b.length+2) X=b2.set (b.length+2) X++l:=fun l X=>aQ BL l X
     simp only[bJ,↓Xn,↓Xo,↓Xg,↓Xd,↓Xe,↓Xf,Tryz.VΓ,Tryz.Γs,Xp,Xi,Nat.reduceAdd,Nat.reduceSub,Nat.reduceLT,Nat.reduceLeDiff,reduceIte,reduceCtorEq,Nat.reduceEqDiff,implies_true,forall_const,bI,di,beq_self_eq_true,bne_self_eq_false,Int.reduceBEq,Int.reduceBNe,Int.reduceLT,Int.reduceLE,h1,h5,mM,mg,nt,jT,hr,ad hr,fI,zTt];refine⟨⟨by unfold maxLen;omega,QA⟩,QA,⟨k+1,QA,h1,mM,mg,rfl,(eA.set QA _).app _,ad (aw rn QA _) _,⟨_,W++[44]++u2,rfl,QC,.inr ⟨b2.length,QA,QC,QA,?_⟩⟩⟩,?_⟩
     ·rw[show (b2.set (b.length+2) aq.gone++[_])[b2.length]? = some _ from aX QB _ 0]
      simp[eb];omega
     ·rw[ak (k:=.i64) (n:=(k:Int)+1) rfl];omega
   ·have aK:decide ((k:Int)<L.length)=false:=QG
    have hWb:=yN d;rcases hy with⟨rfl,rfl,-⟩|⟨q,kD,rfl,hq,cM⟩
    ·refine gA (zTm h1 (zTm h5 (zTm mM (zTm mg (zTm nt (zTm aK dK)))))) ?_
     exact⟨_,rfl,QC,bm⟩
    ·refine gA (zTm h1 (zTm h5 (zTm mM (zTm mg (zTm nt (zTm aK (zTm dK cM))))))) ?_
     refine⟨gw W,QC,QC,_,rfl,QC,bm⟩
theorem jn {d:Nat}(hd:d≤5){bs:List aq}{v:Tv}(hv:Tr bs d v):SC QH 76 [.agg (tv v)] bs (fun r b=>∃ (s:Bytes) (e:Int),r=.eh [.str s,.int .i64 e]∧s.length≤1048576∧Kp bs b):=by
 have It:=hv.oc;obtain⟨v1,v2,v3,v4⟩:=It;have ho:(one v.xk&&one v.xi)=true:=by rw[v3,v4];rfl
 refine bp 3000 func76 rfl ntmps76 results76 call76 QB (af bs.length _ (by simp[within,within.av,tv,v1,v2])) ?_;have e1:∀ X,Tr (bs++[X]) d v:=fun X=>hv.ro ((Ro.refl bs).app _)
 have s1:=fun X=>DC d (e1 X)
 unfold tv at s1 ⊢;refine gA ho ?_;refine ae (s1 _) ?_;rintro r b1 ⟨y,rfl,cV⟩;have gp:=((Kp.refl bs).app _).trans cV;have dK:=cV.at (aM bs _);cases y
 ·refine gA zTY ?_
  exact⟨_,_,rfl,QB,gp⟩
 have s2:=xw d ((e1 _).ro cV.ro);unfold tv at s2;refine gA (zTm zTV (zTm dK ho)) ?_;refine ae s2 ?_;rintro r b2 ⟨y,rfl,bS⟩;have hkb2:=gp.trans bS;have rn:=bS.at dK;cases y
 rotate_left
 ·refine dY ?_
  exact⟨_,_,rfl,QB,hkb2⟩
 have s3:=uv d ((e1 _).ro (cV.ro.trans bS.ro));unfold tv at s3;refine gA (zTm rn ho) ?_;refine ae s3 ?_;rintro r b3 ⟨v',rfl,eL,hT⟩;refine dY ?_;refine ae (ur d hd hT) ?_;rintro r b4 ⟨s,rfl,hs,mJ⟩;have hkb4:=(hkb2.trans eL).trans mJ;by_cases hl:s.length≤1048576
 ·have c0:decide (1048576<(s.length:Int))=false:=QG
  refine gA c0 ?_;exact⟨_,_,rfl,hl,hkb4⟩
 ·have c0:decide (1048576<(s.length:Int))=true:=QF
  refine gA c0 ?_;exact⟨_,_,rfl,QB,hkb4⟩
end Go.Proofs.YtnmlimehgifadaaGreatDoor
namespace Wf
open Go Go.RowKit
structure qt where
 user:Bytes
 host:Bytes
 deriving DecidableEq
def qt.none:qt:=⟨[],[]⟩
def wF:Bytes:=[33,36,38,39,40,41,42,43,44,59,61]
def qg:Bytes:=[97,99,99,116,58]
def EV (n:Bytes × Int)(h:Bytes × Int):qt × Int :=
 if n.2≠0∨n.1=[]∨n.1.head? = some 37 then(qt.none,80)
 else if h.2≠0 then(qt.none,h.2)
 else(⟨n.1,h.1⟩,0)
def vF (s:Bytes):qt × Int :=
 if (aL 64 s).2.2=false then(qt.none,6)
 else EV (bM wF (aL 64 s).1) (cp (aL 64 s).2.1)
def cw (s:Bytes):qt × Int :=
 if 4096<s.length then(qt.none,5)
 else if s.length<5∨lower (s.take 5)≠qg then(qt.none,60)
 else vF (s.drop 5)
def dZ (a:qt):Bytes:=qg++a.user++[64]++a.host
theorem Da {c:UInt8}{s:Bytes}(h:(aL c s).2.2=true):s.length=(aL c s).1.length+1+(aL c s).2.1.length:=by
 have:=congrArg List.length (uncut c s)
 rw[if_pos h]at this;simp at this;omega
theorem user_no {s:Bytes}(h:Can wF s):(64:UInt8) ∉ s:=by
 intro hc;have:=w9 h _ hc
 revert this;decide
structure Ll (a:qt):Prop where
 user:Can wF a.user
 ne:a.user≠[]
 no:a.user.head? ≠ some 37
 host:cp a.host=(a.host,0)
theorem AZ {s:Bytes}{a:qt}(h:cw s=(a,0)):Ll a∧(dZ a).length≤s.length∧s.length≤4096:=by
 unfold cw at h;split at h
 ·simp at h
 split at h
 ·simp at h
 rename_i h1 h2
 unfold vF at h;split at h
 ·simp at h
 rename_i h3
 have hlen:=Da (c:=64) (s:=s.drop 5) (by simpa using h3);rw[List.length_drop]at hlen;unfold EV at h;split at h
 ·simp at h
 rename_i h4
 simp only[not_or]at h4;split at h
 ·rename_i h5;exact absurd (Prod.mk.inj h).2 h5
 rename_i h5
 simp only[Prod.mk.injEq,and_true]at h;subst h;have e:cp (aL 64 (s.drop 5)).2.1=((cp (aL 64 (s.drop 5)).2.1).1,0):=by
  have:(cp (aL 64 (s.drop 5)).2.1).2=0:=by simpa using h5
  rw[← this]
 obtain⟨k1,k2,k3⟩:=l6 e;refine⟨⟨uR (by simpa using h4.1),h4.2.1,h4.2.2,k3⟩,?_,QA⟩;have:=gS wF (aL 64 (s.drop 5)).1
 have hl:(cp (aL 64 (s.drop 5)).2.1).1.length=(aL 64 (s.drop 5)).2.1.length:=by rw[k1,gh]
 simp only[dZ,qg,zTp,zTu,zTC];simp only[not_or]at h2;omega
theorem M7 {a:qt}(h:Ll a)(hl:(dZ a).length≤4096):cw (dZ a)=(a,0):=by
 have e1:(dZ a).take 5=qg:=rfl;have e2:(dZ a).drop 5=a.user++64::a.host:=by show a.user++[64]++a.host=_;simp
 have l5:5≤(dZ a).length:=by simp[dZ,qg]
 have lu:a.user.length≤4096:=by simp[dZ]at hl;omega
 unfold cw;rw[if_neg QA,if_neg (by rw[e1,show lower qg=qg by decide];simp;omega),e2];unfold vF;rw[je (fk (user_no h.user)),if_neg QB];simp only;rw[vB h.user QA,h.host];unfold EV;rw[if_neg (by simp[h.ne,h.no]),if_neg QB]
theorem M8 {s:Bytes}{a:qt}(h:cw s=(a,0)):cw (dZ a)=(a,0)∧(dZ a).length≤s.length:=by
 obtain⟨h1,h2,h3⟩:=AZ h;exact⟨M7 h1 QA,h2⟩
open Go Go.RowKit
structure iJ where
 method:Bytes
 id:Bytes
 deriving DecidableEq
def iJ.none:iJ:=⟨[],[]⟩
structure DidUrl where
 did:iJ
 path:Bytes
 query:Bytes
 fragment:Bytes
 aJ:Bool
 a8:Bool
 deriving DecidableEq
def DidUrl.none:DidUrl:=⟨iJ.none,[],[],[],false,false⟩
def dy (c:UInt8):Bool:=isAlpha c||isDigit c||([46,45,95]:Bytes).contains c
def kY (c:UInt8):Bool:=isDigit c||decide (97≤c.toNat∧c.toNat≤122)
def iz (s:Bytes):Bool:=!s.isEmpty&&s.all kY
def kH (c:UInt8):Bytes:=if dy c then [c] else nP c
def bf (s:Bytes):Bytes:=s.flatMap kH
def rz:PU→Bytes
 | .lit c=>[c]
 | .hex a b=>kH (unhex a b)
 | .bad=>[]
def xI:PU→Bool
 | .lit c=>dy c||c==58
 | _=>true
def eW (s:Bytes):Bytes × Int :=
 if PU.bad∈aI s then([],2) else if (aI s).all xI=false then([],1) else((aI s).flatMap rz,0)
def tN (m:Bytes)(c:Bytes × Int):iJ × Int :=
 if c.2≠0 then(iJ.none,c.2) else if c.1=[]∨c.1.getLast? = some 58 then(iJ.none,3) else(⟨m,c.1⟩,0)
def rT (s:Bytes):iJ × Int :=
 if (aL 58 s).2.2=false then(iJ.none,6)
 else if iz (aL 58 s).1=false then(iJ.none,100)
 else tN (aL 58 s).1 (eW (aL 58 s).2.1)
def rA:Bytes:=[100,105,100,58]
def bC (s:Bytes):iJ × Int :=
 if 4096<s.length then(iJ.none,5)
 else if rA.isPrefixOf s=false then(iJ.none,60)
 else rT (s.drop 4)
def ck (d:iJ):Bytes:=rA++d.method++[58]++d.id
theorem vN:∀ (l:List PU),(∀ x∈l,(∀ c,x=.lit c→c≠37)∧(∀ a b,x=.hex a b→aR a=true∧aR b=true)∧x≠.bad)→aI (l.flatMap PU.str)=l
 | [],_=>rfl
 | .lit c::r,h=>by
   have h1:=(h _ zTq).1 c rfl;rw[zTs,PU.str,List.singleton_append,eC h1,vN r (fun x hx=>h x (zTo _ hx))]
 | .hex a b::r,h=>by
   have h1:=(h _ zTq).2.1 a b rfl;rw[zTs,PU.str];simp only[zTA,zT3];rw[hZ h1.1 h1.2,vN r (fun x hx=>h x (zTo _ hx))]
 | .bad::r,h=>((h _ zTq).2.2 rfl).elim
theorem oH:∀ (f:Nat)(s:Bytes),s.length≤f→PU.bad ∉ cE f s→(cE f s).flatMap PU.str=s
 | 0,s,h,_=>by
   obtain rfl:=zTF.1 (Nat.le_zero.1 h);rfl
 | f+1,[],_,_=>rfl
 | f+1,c::r,h,hb=>by
   rw[cE]at hb ⊢;simp only[zTu]at h;split
   ·rename_i hc
    rw[if_pos hc]at hb;cases hp:ez r with
    | none=>rw[hp]at hb;simp at hb
    | some x =>
      obtain⟨a,b,r'⟩:=x;rw[hp]at hb;obtain⟨rfl,-,-⟩:=ey hp;simp only[zTG,reduceCtorEq,false_or]at hb;simp only[zTu]at h;simp only[zTs,PU.str,oH f r' QA hb];rw[hc];rfl
   ·rename_i hc
    rw[if_neg hc]at hb;simp only[zTG,reduceCtorEq,false_or]at hb;simp only[zTs,PU.str,oH f r QA hb];rfl
theorem lG {s:Bytes}(h:PU.bad ∉ aI s):(aI s).flatMap PU.str=s:=oH _ s (zTH _) h
theorem qB:∀ (f:Nat)(s:Bytes)(a b:UInt8),PU.hex a b∈cE f s→aR a=true∧aR b=true
 | 0,_,_,_,h=>by simp[cE]at h
 | _+1,[],_,_,h=>by simp[cE]at h
 | f+1,d::r,a,b,h=>by
   rw[cE]at h;split at h
   ·cases hp:ez r with
    | none=>rw[hp]at h;simp at h
    | some x =>
      obtain⟨a',b',r'⟩:=x;rw[hp]at h;obtain⟨-,h2,h3⟩:=ey hp;simp only[zTG,PU.hex.injEq]at h;rcases h with⟨rfl,rfl⟩|h
      ·exact⟨h2,h3⟩
      ·exact qB f _ a b h
   ·simp only[zTG,reduceCtorEq,false_or]at h
    exact qB f _ a b h
theorem qy {s:Bytes}{a b:UInt8}(h:PU.hex a b∈aI s):aR a=true∧aR b=true:=qB _ s a b h
theorem gq:∀ (n:Nat)(a b:Bytes),a.length≤n→PU.bad ∉ aI a→aI (a++58::b)=aI a++.lit 58::aI b
 | 0,a,b,h,_=>by
   obtain rfl:=zTF.1 (Nat.le_zero.1 h);rw[zT3,eC QD];rfl
 | n+1,[],b,_,_=>by rw[zT3,eC QD];rfl
 | n+1,c::a,b,h,hb=>by
   simp only[zTu]at h;by_cases hc:c=37
   ·subst hc
    cases hp:ez a with
    | none=>rw[vO hp]at hb;simp at hb
    | some x =>
      obtain⟨u,v,r⟩:=x;obtain⟨rfl,h1,h2⟩:=ey hp;rw[hZ h1 h2]at hb ⊢;simp only[zTu]at h;simp only[zTA];rw[hZ h1 h2,gq n r b QA (by simpa using hb)]
   ·rw[eC hc]at hb ⊢
    rw[zTA,eC hc,gq n a b QA (by simpa using hb)];rfl
def canD:PU→Prop
 | .lit c=>(dy c||c==58)=true
 | .hex a b=>dy (unhex a b)=false∧a=jH ((unhex a b).toNat / 16)∧b=jH ((unhex a b).toNat % 16)∧aR a=true∧aR b=true
 | .bad=>False
def vG (s:Bytes):Prop:=∃ l:List PU,s=l.flatMap PU.str∧∀ x∈l,canD x
theorem wi {c:UInt8}(h:(dy c||c==58)=true):c≠37∧c≠47∧c≠63∧c≠35:=by
 have:=du (p:=fun c=>!(dy c||c==58)||(c != 37&&c != 47&&c != 63&&c != 35)) (by decide +kernel) c
 rw[h]at this;simpa[and_assoc] using this
theorem Pb {c:UInt8}(h:aR c=true):c≠37∧c≠47∧c≠63∧c≠35∧c≠58:=by
 have:=du (p:=fun c=>!(aR c)||(c != 37&&c != 47&&c != 63&&c != 35&&c != 58)) (by decide +kernel) c
 rw[h]at this;simpa[and_assoc] using this
theorem J7 {l:List PU}(h:∀ x∈l,canD x):aI (l.flatMap PU.str)=l :=
 vN l fun x hx=>by
  have:=h x hx
  cases x with
  | lit c=>exact⟨fun d e=>by cases e;exact(wi this).1,QB,QB⟩
  | hex a b=>exact⟨QB,fun u v e=>by cases e;exact this.2.2.2,QB⟩
  | bad=>exact this.elim
theorem J8 {s:Bytes}(h:vG s):eW s=(s,0):=by
 obtain⟨l,rfl,hl⟩:=h;unfold eW;rw[J7 hl,if_neg (fun k=>absurd (hl _ k) (by simp[canD])),if_neg ?_]
 ·congr 1
  have:∀ m:List PU,(∀ x∈m,canD x)→m.flatMap rz=m.flatMap PU.str:=by
   intro m;induction m with
   | nil=>intro _;rfl
   | cons x m ih =>
     intro hm;rw[zTs,zTs,ih (fun y hy=>hm y (zTo _ hy))];congr 1
     have:=hm x zTq
     cases x with
     | lit c=>rfl
     | hex a b =>
       simp only[rz,kH,PU.str];rw[if_neg (by simp[this.1])];unfold nP;rw[← this.2.1,← this.2.2.1]
     | bad=>exact this.elim
  exact this l hl
 ·simp only[Bool.not_eq_false]
  refine zTD.2 fun x hx=>?_
  have:=hl x hx
  cases x with
  | lit c=>exact this
  | hex a b=>rfl
  | bad=>rfl
theorem M3 {s x:Bytes}(h:eW s=(x,0)):vG x∧x.length≤s.length∧(∀ c∈s,c≠47∧c≠63∧c≠35):=by
 unfold eW at h;split at h
 ·simp at h
 rename_i hb
 split at h
 ·simp at h
 rename_i ha
 simp only[Prod.mk.injEq,and_true]at h;subst h;have ha:(aI s).all xI=true:=by simpa using ha
 have hs:=lG hb;have hlit:∀ c,PU.lit c∈aI s→(dy c||c==58)=true:=fun c hc=>zTD.1 ha _ hc
 have hhex:=fun a b=>qy (s:=s) (a:=a) (b:=b)
 generalize aI s=l at *;subst hs;have key:∀ m:List PU,(∀ c,PU.lit c∈m→(dy c||c==58)=true)→(∀ a b,PU.hex a b∈m→aR a=true∧aR b=true)→PU.bad ∉ m →
  vG (m.flatMap rz)∧(m.flatMap rz).length≤(m.flatMap PU.str).length∧(∀ c∈m.flatMap PU.str,c≠47∧c≠63∧c≠35):=by
  intro m;induction m with
  | nil=>intro _ _ _;exact⟨⟨[],rfl,QB⟩,QB,QB⟩
  | cons x m ih =>
    intro h1 h2 h3;obtain⟨⟨l',e',k'⟩,i2,i3⟩:=ih (fun c hc=>h1 c (zTo _ hc)) (fun a b hc=>h2 a b (zTo _ hc)) (fun hc=>h3 (zTo _ hc));simp only[zTs,zTp];cases x with
    | lit c =>
      have hc:=h1 c zTq;refine⟨⟨.lit c::l',by rw[e'];rfl,fun y hy=>?_⟩,by rw[show (rz (.lit c)).length=1 from rfl,show (PU.str (.lit c)).length=1 from rfl];omega,fun d hd=>?_⟩
      ·rcases zTG.1 hy with rfl|hy
       ·exact hc
       ·exact k' y hy
      ·rcases zTx.1 hd with hd|hd
       ·obtain rfl:=zTw.1 hd;exact(wi hc).2
       ·exact i3 d hd
    | hex a b =>
      obtain⟨ha',hb'⟩:=h2 a b zTq;have wM:∀ d∈PU.str (.hex a b)++m.flatMap PU.str,d≠47∧d≠63∧d≠35:=by
       intro d hd;rcases zTx.1 hd with hd|hd
       ·simp only[PU.str,zTG,List.not_mem_nil,or_false]at hd
        rcases hd with rfl|rfl|rfl
        ·decide
        ·have:=Pb ha';exact⟨this.2.1,this.2.2.1,this.2.2.2.1⟩
        ·have:=Pb hb';exact⟨this.2.1,this.2.2.1,this.2.2.2.1⟩
       ·exact i3 d hd
      have q1:(rz (.hex a b)).length≤3:=by simp only[rz,kH];split <;> simp[nP]
      have q2:(PU.str (.hex a b)).length=3:=rfl;have q3:(if dy (unhex a b)=true then 1 else 3)=(rz (.hex a b)).length:=by simp only[rz,kH];split <;> simp[nP]
      by_cases hp:dy (unhex a b)=true
      ·refine⟨⟨.lit (unhex a b)::l',by rw[e',zTs];simp only[rz,kH,hp,PU.str,if_true],fun y hy=>?_⟩,QA,wM⟩
       rcases zTG.1 hy with rfl|hy
       ·show (dy _||_)=true;rw[hp];rfl
       ·exact k' y hy
      ·have hp:dy (unhex a b)=false:=by simpa using hp
       have hn:=(unhex a b).toNat_lt;have hv:=lq (unhex a b);refine⟨⟨.hex (jH ((unhex a b).toNat / 16)) (jH ((unhex a b).toNat % 16))::l',by rw[e',zTs];simp only[rz,kH,hp,PU.str,nP,Bool.false_eq_true,if_false],fun y hy=>?_⟩,QA,wM⟩;rcases zTG.1 hy with rfl|hy
       ·exact⟨by rw[hv];exact hp,by rw[hv],by rw[hv],iB _ QA,iB _ QA⟩
       ·exact k' y hy
    | bad=>exact(h3 zTq).elim
 exact key l hlit hhex hb
structure EZ (d:iJ):Prop where
 method:iz d.method=true
 id:vG d.id
 ne:d.id≠[]
 last:d.id.getLast? ≠ some 58
theorem CE {s:Bytes}(h:iz s=true):∀ c∈s,c≠47∧c≠63∧c≠35∧c≠58:=by
 intro c hc;unfold iz at h;simp only[zTQ]at h;have h1:=zTD.1 h.2 c hc;have:=du (p:=fun c=>!(kY c)||(c != 47&&c != 63&&c != 35&&c != 58)) (by decide +kernel) c
 rw[h1]at this;simpa[and_assoc] using this
theorem EI {s:Bytes}{d:iJ}(h:bC s=(d,0)):EZ d∧(ck d).length≤s.length∧s.length≤4096∧∀ c∈s,c≠47∧c≠63∧c≠35:=by
 unfold bC at h;split at h
 ·simp at h
 split at h
 ·simp at h
 rename_i h1 h2
 have h2:rA.isPrefixOf s=true:=by simpa using h2
 obtain⟨r,rfl⟩:=List.isPrefixOf_iff_prefix.1 h2;have e4:(rA++r).drop 4=r:=rfl;rw[e4]at h;unfold rT at h;split at h
 ·simp at h
 split at h
 ·simp at h
 rename_i h3 h4
 have h3:(aL 58 r).2.2=true:=by simpa using h3
 have h4:iz (aL 58 r).1=true:=by simpa using h4
 unfold tN at h;split at h
 ·rename_i h5;exact absurd (Prod.mk.inj h).2 h5
 split at h
 ·simp at h
 rename_i h5 h6
 simp only[not_or]at h6;simp only[Prod.mk.injEq,and_true]at h;subst h;have e:eW (aL 58 r).2.1=((eW (aL 58 r).2.1).1,0):=by
  have:(eW (aL 58 r).2.1).2=0:=by simpa using h5
  rw[← this]
 obtain⟨k1,k2,k3⟩:=M3 e;have hlen:=Da h3;refine⟨⟨h4,k1,h6.1,h6.2⟩,?_,QA,?_⟩
 ·simp only[ck,zTp,zTu,zTC];omega
 ·have hu:=uncut 58 r
  rw[if_pos h3]at hu;intro c hc;rcases zTx.1 hc with hc|hc
  ·have:∀ c∈rA,c≠47∧c≠63∧c≠35:=by decide
   exact this c hc
  ·rw[hu]at hc
   rcases zTx.1 hc with hc|hc
   ·have:=CE h4 c hc;exact⟨this.1,this.2.1,this.2.2.1⟩
   ·rcases zTx.1 hc with hc|hc
    ·obtain rfl:=zTw.1 hc;decide
    ·exact k3 c hc
theorem EJ (s:Bytes)(h:(bC s).2≠0):(bC s).1=iJ.none:=by
 unfold bC at h ⊢;split
 ·rfl
 rename_i h1
 rw[if_neg h1]at h;split
 ·rfl
 rename_i h2
 rw[if_neg h2]at h;unfold rT at h ⊢;split
 ·rfl
 rename_i h3
 rw[if_neg h3]at h;split
 ·rfl
 rename_i h4
 rw[if_neg h4]at h;unfold tN at h ⊢;split
 ·rfl
 rename_i h5
 rw[if_neg h5]at h;split
 ·rfl
 rename_i h6
 rw[if_neg h6]at h;exact absurd rfl h
theorem HP {d:iJ}(h:EZ d)(hl:(ck d).length≤4096):bC (ck d)=(d,0):=by
 unfold bC;have e1:rA.isPrefixOf (ck d)=true:=rfl;have e2:(ck d).drop 4=d.method++58::d.id:=by show d.method++[58]++d.id=_;simp
 rw[if_neg QA,if_neg (by rw[e1];simp),e2];unfold rT;rw[je (fk (fun k=>(CE h.method _ k).2.2.2 rfl)),if_neg QB,if_neg (by simp[h.method])];simp only;rw[J8 h.id];unfold tN;rw[if_neg QB,if_neg (by simp only[not_or];exact⟨h.ne,h.last⟩)]
open Go Go.RowKit
def repB (c:UInt8)(new:Bytes)(d:UInt8):Bytes:=if d=c then new else [d]
theorem lit_mem {s:Bytes}{c:UInt8}(hb:PU.bad ∉ aI s)(hc:c≠37)(hx:aR c=false):c∈s↔PU.lit c∈aI s:=by
 have hs:=lG hb;constructor
 ·intro h
  rw[← hs]at h;obtain⟨u,hu,h⟩:=zTZ.1 h;cases u with
  | lit d=>obtain rfl:=zTw.1 h;exact hu
  | hex a b =>
    have:=qy hu
    simp only[PU.str,zTG,List.not_mem_nil,or_false]at h;rcases h with rfl|rfl|rfl
    ·exact absurd rfl hc
    ·rw[this.1]at hx;cases hx
    ·rw[this.2]at hx;cases hx
  | bad=>simp[PU.str]at h
 ·intro h
  rw[← hs];exact zTZ.2 ⟨_,h,zTw.2 rfl⟩
theorem nD:∀ (n:Nat)(a b:Bytes),a.length≤n→PU.bad∈aI a→PU.bad∈aI (a++58::b)
 | _,[],b,_,h=>by simp[gE]at h
 | 0,c::a,b,h,_=>by simp at h
 | n+1,c::a,b,h,hb=>by
   simp only[zTu]at h;by_cases hc:c=37
   ·subst hc
    cases hp:ez a with
    | none =>
      have:ez (a++58::b)=none:=by
       rcases a with _|⟨u,_|⟨v,r⟩⟩
       ·cases b <;> simp[ez,show aR 58=false by decide]
       ·simp[ez,show aR 58=false by decide]
       ·unfold ez at hp ⊢
        simp only[zTA];by_cases hx:(aR u&&aR v)=true
        ·simp[hx]at hp
        ·simp[hx]
      rw[zTA,vO this];simp
    | some x =>
      obtain⟨u,v,r⟩:=x;obtain⟨rfl,h1,h2⟩:=ey hp;rw[hZ h1 h2]at hb;simp only[zTu]at h;simp only[zTA];rw[hZ h1 h2];exact zTo _ (nD n r b QA (by simpa using hb))
   ·rw[eC hc]at hb
    rw[zTA,eC hc];exact zTo _ (nD n a b QA (by simpa using hb))
theorem s9:∀ (l:List Bytes)(x:Bytes),((∃ y∈x::l,PU.bad∈aI y)↔PU.bad∈aI (x++l.flatMap (58::·))) ∧
 ((∀ y∈x::l,PU.bad ∉ aI y)→aI (x++l.flatMap (58::·))=aI x++l.flatMap (fun y=>.lit 58::aI y))
 | [],x=>QB
 | y::l,x=>by
   obtain⟨h1,h2⟩:=s9 l y;have e:x++(y::l).flatMap (58::·)=x++58::(y++l.flatMap (58::·)):=by simp
   rw[e];constructor
   ·constructor
    ·rintro⟨z,hz,hb⟩
     by_cases hx:PU.bad∈aI x
     ·exact nD _ _ _ (zTH _) hx
     ·rw[gq _ _ _ (zTH _) hx]
      rcases zTG.1 hz with rfl|hz
      ·exact absurd hb hx
      ·exact List.mem_append_right _ (zTo _ (h1.1 ⟨z,hz,hb⟩))
    ·intro hb
     by_cases hx:PU.bad∈aI x
     ·exact⟨x,zTq,hx⟩
     ·rw[gq _ _ _ (zTH _) hx]at hb
      rcases zTx.1 hb with hb|hb
      ·exact absurd hb hx
      ·simp only[zTG,reduceCtorEq,false_or]at hb
       obtain⟨z,hz,hb⟩:=h1.2 hb;exact⟨z,zTo _ hz,hb⟩
   ·intro h
    rw[gq _ _ _ (zTH _) (h x zTq),h2 (fun z hz=>h z (zTo _ hz))];simp
def fh (y:Bytes):Bool:=y.all fun c=>dy c||c==37
def ml (y:Bytes):Bytes:=(aI y).map PU.val
theorem CT {c:UInt8}(h:aR c=true):dy c=true:=by
 have:=du (p:=fun c=>!(aR c)||dy c) (by decide +kernel) c
 rw[h]at this;simpa using this
theorem lP {y:Bytes}(hb:PU.bad ∉ aI y)(hc:(58:UInt8) ∉ y):fh y=(aI y).all xI:=by
 have key:∀ l:List PU,(∀ a b,PU.hex a b∈l→aR a=true∧aR b=true)→(∀ c,PU.lit c∈l→c≠37)→(58:UInt8) ∉ l.flatMap PU.str →
  (l.flatMap PU.str).all (fun c=>dy c||c==37)=l.all xI:=by
  intro l;induction l with
  | nil=>intros;rfl
  | cons u l ih =>
    intro hh hl hc;have ih:=ih (fun a b k=>hh a b (zTo _ k)) (fun c k=>hl c (zTo _ k)) (fun k=>hc (by rw[zTs];exact List.mem_append_right _ k));rw[zTs,zT2,List.all_cons,ih];congr 1
    cases u with
    | lit c =>
      have h1:c≠37:=hl c zTq;have h2:c≠58:=by rintro rfl;exact hc (by simp[PU.str])
      have e1:(c==37)=false:=by simpa using h1
      have e2:(c==58)=false:=by simpa using h2
      simp[PU.str,xI,e1,e2]
    | hex a b =>
      obtain⟨h1,h2⟩:=hh a b zTq;simp[PU.str,xI,CT h1,CT h2]
    | bad=>rfl
 have:=key (aI y) (fun a b=>qy) (xj y) (by rw[lG hb];exact hc)
 rw[lG hb]at this;exact this
theorem B8 {l:List PU}(h:∀ c,PU.lit c∈l→dy c=true)(hb:PU.bad ∉ l):l.flatMap rz=bf (l.map PU.val):=by
 induction l with
 | nil=>rfl
 | cons u l ih =>
   have ih:=ih (fun c k=>h c (zTo _ k)) (fun k=>hb (zTo _ k));rw[zTs,ih,zTK];show _=kH u.val++bf (l.map PU.val)
   congr 1
   cases u with
   | lit c=>simp[rz,PU.val,kH,h c zTq]
   | hex a b=>rfl
   | bad=>exact absurd zTq hb
def ky (x:Bytes)(l:List Bytes):Bytes:=bf (ml x)++l.flatMap fun y=>58::bf (ml y)
theorem IV {s x:Bytes}{l:List Bytes}(e:s=x++l.flatMap (58::·))(hn:∀ y∈x::l,(58:UInt8) ∉ y) :
 eW s=if ∃ y∈x::l,PU.bad∈aI y then([],2) else if (x::l).all fh=false then([],1) else(ky x l,0):=by
 obtain⟨h1,h2⟩:=s9 l x;rw[← e]at h1 h2;unfold eW;by_cases hb:∃ y∈x::l,PU.bad∈aI y
 ·rw[if_pos hb,if_pos (h1.1 hb)]
 ·rw[if_neg hb,if_neg (fun k=>hb (h1.2 k))]
  have hb:∀ y∈x::l,PU.bad ∉ aI y:=fun y hy k=>hb ⟨y,hy,k⟩
  rw[h2 hb];have br:(aI x++l.flatMap fun y=>PU.lit 58::aI y).all xI=(x::l).all fh:=by
   rw[zT2,List.all_cons,lP (hb x zTq) (hn x zTq)];congr 1
   have:∀ m:List Bytes,(∀ y∈m,PU.bad ∉ aI y∧(58:UInt8) ∉ y)→(m.flatMap fun y=>PU.lit 58::aI y).all xI=m.all fh:=by
    intro m;induction m with
    | nil=>intro _;rfl
    | cons y m ih =>
      intro hm;rw[zTs,zT2,List.all_cons,List.all_cons,ih (fun z hz=>hm z (zTo _ hz)),lP (hm y zTq).1 (hm y zTq).2];rfl
   exact this l fun y hy=>⟨hb y (zTo _ hy),hn y (zTo _ hy)⟩
  rw[br];by_cases ha:(x::l).all fh=false
  ·rw[if_pos ha,if_pos ha]
  ·rw[if_neg ha,if_neg ha]
   have ha:(x::l).all fh=true:=by simpa using ha
   congr 1
   have hp:∀ y∈x::l,(aI y).flatMap rz=bf (ml y):=by
    intro y hy;refine B8 (fun c hc=>?_) (hb y hy);have h3:=zTD.1 ha y hy;rw[lP (hb y hy) (hn y hy)]at h3;have h4:(dy c||c==58)=true:=zTD.1 h3 _ hc;have h5:c≠58:=by
     rintro rfl;exact hn y hy ((lit_mem (hb y hy) QD QD).2 hc)
    simpa[h5] using h4
   rw[zTE,hp x zTq];unfold ky;congr 1
   have:∀ m:List Bytes,(∀ y∈m,(aI y).flatMap rz=bf (ml y))→(m.flatMap fun y=>PU.lit 58::aI y).flatMap rz=m.flatMap fun y=>58::bf (ml y):=by
    intro m;induction m with
    | nil=>intro _;rfl
    | cons y m ih =>
      intro hm;rw[zTs,zTE,zTs,zTs,ih (fun z hz=>hm z (zTo _ hz)),hm y zTq];rfl
   exact this l fun y hy=>hp y (zTo _ hy)
theorem PQ (s:Bytes):(58:UInt8) ∉ bf s:=by
 intro hc;obtain⟨d,-,hd⟩:=zTZ.1 hc;have h1:=du (p:=fun d=>(kH d).all fun c=>c != 58) (by decide +kernel) d;have:=zTD.1 h1 _ hd
 simp at this
theorem K8 {s:Bytes}:bf s=[]↔s=[]:=by
 constructor
 ·intro h
  cases s with
  | nil=>rfl
  | cons c s =>
    have:kH c++bf s=[]:=h
    have h2:kH c=[]:=(List.append_eq_nil_iff.1 this).1;unfold kH nP at h2;split at h2 <;> simp at h2
 ·rintro rfl;rfl
theorem HU {y:Bytes}(hb:PU.bad ∉ aI y):ml y=[]↔y=[]:=by
 constructor
 ·intro h
  have:aI y=[]:=List.map_eq_nil_iff.1 h
  rw[← lG hb,this];rfl
 ·rintro rfl;rfl
theorem LB {x:Bytes}{l:List Bytes}(hb:∀ y∈x::l,PU.bad ∉ aI y):(ky x l=[]∨(ky x l).getLast? = some 58)↔(x::l).getLast? = some []:=by
 have last:∀ y:Bytes,(bf y).getLast? ≠ some 58:=fun y k=>PQ y (zTO k)
 rcases List.eq_nil_or_concat l with rfl|⟨m,z,rfl⟩
 ·unfold ky
  rw[List.flatMap_nil,zTJ,K8,HU (hb x zTq)];simp[last]
 ·rw[List.concat_eq_append]at *
  have hz:=hb z QB;have e:ky x (m++[z])=ky x m++58::bf (ml z):=by simp[ky]
  rw[e,show x::(m++[z])=(x::m)++[z] by simp,zT1,zT1];simp only[List.getLast?_singleton,Option.some_or,Option.some.injEq];constructor
  ·rintro(h|h)
   ·simp at h
   ·cases hd:bf (ml z) with
    | nil=>exact(HU hz).1 (K8.1 hd)
    | cons a r =>
      rw[hd]at h;rw[List.getLast?_cons_cons,← hd]at h;cases hq:(bf (ml z)).getLast? with
      | none=>rw[List.getLast?_eq_none_iff]at hq;rw[hq]at hd;cases hd
      | some w=>rw[hq]at h;exact absurd (by rw[hq];simpa using h) (last (ml z))
  ·rintro rfl
   right
   simp[ml,gE,bf]
open Go Go.RowKit
theorem Gb {p:UInt8→Bool}:∀ {a:Bytes}(r:Bytes),(∀ c∈a,p c=false)→pre p (a++r)=a.length+pre p r
 | [],r,_=>QB
 | c::a,r,h=>by
   have h1:=h c zTq;have ih:=Gb (a:=a) r (fun d hd=>h d (zTo _ hd));rw[zTA,bY,h1,if_neg QB,ih,zTu];omega
theorem MZ {c:UInt8}{a:Bytes}(r:Bytes)(h:c ∉ a):aL c (a++r)=(a++(aL c r).1,(aL c r).2.1,(aL c r).2.2):=by
 have hp:pre (·==c) (a++r)=a.length+pre (·==c) r:=Gb r fun d hd=>by
  have:d≠c:=by rintro rfl;exact h hd
  simpa using this
 by_cases hr:pre (·==c) r<r.length
 ·rw[show aL c r=(r.take (pre (·==c) r),r.drop (pre (·==c) r+1),true) from if_pos hr]
  rw[show aL c (a++r)=((a++r).take (pre (·==c) (a++r)),(a++r).drop (pre (·==c) (a++r)+1),true) from if_pos (by rw[hp,zTp];omega)];rw[hp,List.take_length_add_append,Nat.add_assoc,List.drop_length_add_append]
 ·have hle:=cO (·==c) r
  rw[gH (s:=r) QA,gH (s:=a++r) (by rw[hp,zTp];omega)]
theorem sY (c:UInt8):∀ (n:Nat)(s:Bytes),s.length≤n→∃ x l,aD c s=x::l∧s=x++l.flatMap (c::·)∧∀ y∈x::l,c ∉ y:=by
 intro n;induction n with
 | zero =>
   intro s h;obtain rfl:=zTF.1 (Nat.le_zero.1 h);exact⟨[],[],rfl,rfl,QB⟩
 | succ n ih =>
   intro s h;have tE:c ∉ s.take (pre (·==c) s):=by
    intro hm;obtain⟨j,hj,e⟩:=List.getElem_of_mem hm;have fU:j<pre (·==c) s∧j<s.length:=by rw[List.length_take]at hj;omega
    have:=ju (p:=(·==c)) (l:=s) (k:=j) fU.1 fU.2
    rw[List.getElem_take]at e;rw[e]at this;simp at this
   by_cases hp:pre (·==c) s<s.length
   ·obtain⟨x,l,e1,e2,e3⟩:=ih (s.drop (pre (·==c) s+1)) QC
    refine⟨s.take (pre (·==c) s),x::l,by rw[dO hp,e1],?_,?_⟩
    ·have hg:=iM hp
     simp only[beq_iff_eq]at hg
     conv=>lhs;rw[← List.take_append_drop (pre (·==c) s) s,List.drop_eq_getElem_cons hp,hg,e2]
     simp
    ·intro y hy
     rcases zTG.1 hy with rfl|hy
     ·exact tE
     ·exact e3 y hy
   ·have hq:=cO (·==c) s
    rw[zTX QA]at tE;exact⟨s,[],dC hp,QB,by simpa using tE⟩
def gr:List Bytes→Bytes
 | []=>[]
 | x::l=>ky x l
theorem Bh (l:List Bytes)(y:Bytes):gr (l++[y])=gr l++(if l=[] then [] else [58])++bf (ml y):=by
 cases l with
 | nil=>simp[gr,ky]
 | cons x l=>simp[gr,ky]
theorem Bg {l:List Bytes}{k:Nat}(h:k<l.length):gr (l.take (k+1))=gr (l.take k)++(if k=0 then [] else [58])++bf (ml l[k]):=by
 rw[List.take_succ_eq_append_getElem h,Bh];congr 2
 cases k with
 | zero=>simp
 | succ k=>cases l with
   | nil=>simp at h
   | cons x l=>simp
theorem P1 (c:UInt8):(kH c).length≤3:=by unfold kH;split <;> simp[nP]
theorem iT (s:Bytes):(bf s).length≤3 * s.length:=by
 induction s with
 | nil=>simp[bf]
 | cons c s ih =>
   have:=P1 c
   show (kH c++bf s).length≤_
   rw[zTp,zTu];omega
theorem qC:∀ (f:Nat)(s:Bytes),(cE f s).length≤f
 | 0,s=>by simp[cE]
 | f+1,[]=>by simp[cE]
 | f+1,c::r=>by
   rw[cE];split
   ·split
    ·rename_i a b r' h
     have:=qC f r'
     simpa using this
    ·simp
   ·have:=qC f r
    simpa using this
theorem oz (y:Bytes):(ml y).length≤y.length:=by
 have:=qC y.length y
 simpa[ml,aI] using this
theorem Dq:∀ (l:List Bytes),(gr l).length≤3 * l.flatten.length+l.length
 | []=>by simp[gr]
 | x::l=>by
   have h1:=iT (ml x);have h2:=oz x;have h3:∀ m:List Bytes,(m.flatMap fun y=>58::bf (ml y)).length≤3 * m.flatten.length+m.length:=by
    intro m;induction m with
    | nil=>simp
    | cons y m ih =>
      have k1:=iT (ml y);have k2:=oz y;simp only[zTs,zTp,zTu,zTN]at ih ⊢;omega
   have h4:=h3 l;simp only[gr,ky,zTp,zTN,zTu];omega
theorem HR (m s:Bytes):tN m (eW s) =
 if ∃ y∈aD 58 s,PU.bad∈aI y then(iJ.none,2) else if (aD 58 s).all fh=false then(iJ.none,1)
 else if (aD 58 s).getLast? = some [] then(iJ.none,3) else(⟨m,gr (aD 58 s)⟩,0):=by
 obtain⟨x,l,e1,e2,e3⟩:=sY 58 _ s (zTH _);rw[e1,IV e2 e3];by_cases hb:∃ y∈x::l,PU.bad∈aI y
 ·rw[if_pos hb,if_pos hb];rfl
 rw[if_neg hb,if_neg hb];by_cases ha:(x::l).all fh=false
 ·rw[if_pos ha,if_pos ha];rfl
 rw[if_neg ha,if_neg ha];have hb:∀ y∈x::l,PU.bad ∉ aI y:=fun y hy k=>hb ⟨y,hy,k⟩
 have hs:=LB hb;unfold tN;rw[if_neg QB];by_cases hq:(x::l).getLast? = some []
 ·rw[if_pos hq,if_pos (hs.2 hq)]
 ·rw[if_neg hq,if_neg (fun k=>hq (hs.1 k))];rfl
theorem pC {y:Bytes}(h:y.length≤16384):aC y=if PU.bad∈aI y then([],2) else(ml y,0):=if_neg QA
open Go Go.RowKit
def hY:Bytes:=[119,101,98]
def eg:Bytes:=[47,46,119,101,108,108,45,107,110,111,119,110,47,100,105,100,46,106,115,111,110]
def iA:Bytes:=[100,105,100,46,106,115,111,110]
def bZ (d:iJ):(Bytes × Int) × Int :=
 if d.method≠hY then(([],0),100)
 else if (bC (ck d)).2≠0 then(([],0),(bC (ck d)).2)
 else aN (aC (aL 58 d.id).1).1
def mN (x:Bytes):Bool:=(aC x).2==0&&(aC x).1 != []&&(aC x).1 != [46]&&(aC x).1 != [46,46]
def sr (x:Bytes):Bytes:=47::aH [] (aC x).1
def oK (l:List Bytes):Bytes:=if l=[] then eg else l.flatMap sr++47::iA
def oa (u:bN):bN × Int:=if 4096<(bh u).length then(bN.none,5) else(u,0)
def gI (d:iJ):bN × Int :=
 if (bZ d).2≠0 then(bN.none,(bZ d).2)
 else if (aD 58 d.id).tail.all mN=false then(bN.none,110)
 else oa ⟨(bZ d).1.1,(bZ d).1.2,oK (aD 58 d.id).tail,[],[],false,false⟩
def iD (c:UInt8):Bool:=c==37||iu c
def dV (x:Bytes):Bool:=x.all iD&&(aC x).2==0&&(aC x).1 != []
def cT (x:Bytes):Bytes:=58::bf (aC x).1
def bQ (u:bN):Bytes:=u.host++(if u.port=0 then [] else [37,51,65]++cf u.port.natAbs)
def pk (d:iJ):iJ × Int:=if 4096<(ck d).length then(iJ.none,5) else(d,0)
def mh (u:bN)(l:List Bytes):iJ × Int :=
 if u.path=eg then pk ⟨hY,bQ u⟩
 else if l.all dV=false then(iJ.none,110)
 else pk ⟨hY,bQ u++l.flatMap cT⟩
def lg (u:bN):iJ × Int :=
 if bX u=false then(iJ.none,8)
 else if u.aJ=true∨u.a8=true∨(aD 47 u.path).tail.getLast? ≠ some iA then(iJ.none,6)
 else if (aD 47 u.path).tail.length=1 then(iJ.none,110)
 else mh u (aD 47 u.path).tail.dropLast
def gn (d:iJ):iJ × Int:=if (gI d).2≠0 then(iJ.none,(gI d).2) else lg (gI d).1
theorem xp (c:UInt8):∀ (l:List Bytes)(x:Bytes),c ∉ x→(∀ y∈l,c ∉ y)→aD c (x++l.flatMap (c::·))=x::l
 | [],x,hx,_=>by
   rw[List.flatMap_nil,zTJ];exact dC (by rw[fk hx];omega)
 | y::l,x,hx,hl=>by
   have hp:pre (·==c) (x++(y::l).flatMap (c::·))=x.length:=by
    rw[zTs,zTA];exact DT (fk hx) c _ QB
   rw[dO (by rw[hp];simp),hp,List.take_left,← List.drop_drop,List.drop_left,zTs,zTA,List.drop_succ_cons,List.drop_zero,
    xp c l y (hl y zTq) (fun z hz=>hl z (zTo _ hz))]
theorem xn (c:UInt8):∀ (n:Nat)(s:Bytes),s.length≤n→∃ x l,aD c s=x::l∧s=x++l.flatMap (c::·)∧c ∉ x∧∀ y∈l,c ∉ y
 | n,s,h=>by
   by_cases hp:pre (·==c) s<s.length
   ·match n,h with
    | 0,h=>omega
    | n+1,h =>
      obtain⟨x,l,e1,e2,e3,e4⟩:=xn c n (s.drop (pre (·==c) s+1)) QC;refine⟨s.take (pre (·==c) s),x::l,by rw[dO hp,e1],?_,?_,?_⟩
      ·have:=iM hp
       simp only[beq_iff_eq]at this
       conv=>lhs;rw[← List.take_append_drop (pre (·==c) s) s,List.drop_eq_getElem_cons hp,this,e2]
       simp
      ·intro hm
       have h1:=(F9 (·==c) s);obtain⟨k,hk,e⟩:=List.getElem_of_mem hm;have:=ju (p:=(·==c)) (l:=s.take (pre (·==c) s)) (k:=k) QA hk
       rw[e]at this;simp at this
      ·intro y hy
       rcases zTG.1 hy with rfl|hy
       ·exact e3
       ·exact e4 y hy
   ·refine⟨s,[],dC hp,QB,fun hm=>?_,QB⟩
    obtain⟨k,hk,e⟩:=List.getElem_of_mem hm;have:=ju (p:=(·==c)) (l:=s) (k:=k) QA hk
    rw[e]at this;simp at this
theorem can_enc (also s:Bytes):Can also (aH [] s):=by
 induction s with
 | nil=>exact ke _
 | cons c s ih =>
   show Can also (ox [] c++aH [] s)
   refine pI ?_ ih;unfold ox;cases h:iu c
   ·simp;exact can_esc also h
   ·simp;exact vA (by unfold fG;rw[h];rfl) (Fg h)
theorem PV (s:Bytes):(47:UInt8) ∉ aH [] s:=by
 intro hc;obtain⟨d,-,hd⟩:=zTZ.1 hc;have h1:=du (p:=fun d=>(ox [] d).all fun c=>c != 47) (by decide +kernel) d;have:=zTD.1 h1 _ hd
 simp at this
theorem K9 {s t:Bytes}(h:aH [] s=aH [] t):s=t:=by
 have h1:=(kR [] s).1;rw[h,(kR [] t).1]at h1;exact h1.symm
theorem pB:∀ s:Bytes,(aI (bf s)).map PU.val=s∧PU.bad ∉ aI (bf s)
 | []=>⟨rfl,by simp[bf,gE]⟩
 | c::s=>by
   obtain⟨h1,h2⟩:=pB s;have e:bf (c::s)=kH c++bf s:=rfl;rw[e];unfold kH;split
   ·rename_i hc
    have bF:c≠37:=by rintro rfl;exact absurd hc QD
    rw[List.singleton_append,eC bF];exact⟨by simp[PU.val,h1],by simpa using h2⟩
   ·rw[Ce]
    exact⟨by simp[PU.val,h1,lq],by simpa using h2⟩
theorem B9 {s:Bytes}(h:(bf s).length≤16384):aC (bf s)=(s,0):=by
 obtain⟨h1,h2⟩:=pB s;unfold aC;rw[if_neg QA,if_neg h2,h1]
theorem vv (s:Bytes):∀ c∈bf s,c≠58:=by
 intro c hc;obtain⟨d,-,hd⟩:=zTZ.1 hc;have h1:=du (p:=fun d=>(kH d).all fun c=>c != 58) (by decide +kernel) d;have:=zTD.1 h1 _ hd
 simpa using this
theorem AU:vG []:=⟨[],rfl,QB⟩
theorem my {a b:Bytes}(ha:vG a)(hb:vG b):vG (a++b):=by
 obtain⟨l,rfl,h1⟩:=ha;obtain⟨m,rfl,h2⟩:=hb;exact⟨l++m,QB,fun x hx=>by
  rcases zTx.1 hx with h|h
  ·exact h1 x h
  ·exact h2 x h⟩
theorem AT {c:UInt8}(h:(dy c||c==58)=true):vG [c]:=⟨[.lit c],rfl,fun x hx=>by
 obtain rfl:=zTw.1 hx;exact h⟩
theorem P8 {c:UInt8}(h:dy c=false):vG (nP c):=⟨[.hex (jH (c.toNat / 16)) (jH (c.toNat % 16))],rfl,fun x hx=>by
 obtain rfl:=zTw.1 hx;have hn:=c.toNat_lt;have hv:=lq c;exact⟨by rw[hv];exact h,by rw[hv],by rw[hv],iB _ QA,iB _ QA⟩⟩
theorem H5 (s:Bytes):vG (bf s):=by
 induction s with
 | nil=>exact AU
 | cons c s ih =>
   show vG (kH c++bf s)
   refine my ?_ ih;unfold kH;cases h:dy c
   ·simp;exact P8 h
   ·simp;exact AT (by rw[h];rfl)
theorem tR {s:Bytes}(h:∀ c∈s,dy c=true):vG s:=by
 induction s with
 | nil=>exact AU
 | cons c s ih=>exact my (a:=[c]) (AT (by rw[h c zTq];rfl)) (ih fun d hd=>h d (zTo _ hd))
theorem JE {x:Bytes}(h:cp x=(x,0)):∀ c∈x,dy c=true:=by
 intro c hc;have h1:=nk h c hc;have:=du (p:=fun c=>!(yG c||c==46)||dy c) (by decide +kernel) c
 have h2:(yG c||c==46)=true:=by rcases h1 with h|rfl <;> simp[*]
 rw[h2]at this;simpa using this
theorem wW (n:Nat):∀ c∈cf n,dy c=true:=by
 intro c hc;have:=xZ n c hc
 unfold dy;rw[this];simp
theorem host_ne {x:Bytes}(h:cp x=(x,0)):x≠[]:=by
 rintro rfl;revert h;decide
theorem uX {u:bN}(h:aN (bu u.host u.port)=((u.host,u.port),0)):vG (bQ u)∧(58:UInt8) ∉ bQ u∧bQ u≠[]∧(aI (bQ u)).map PU.val=bu u.host u.port∧PU.bad ∉ aI (bQ u):=by
 obtain⟨-,h1,-,-,h2,-⟩:=cS h;have hp:=JE h1;have gz:∀ s:Bytes,(∀ c∈s,dy c=true)→∀ r,aI (s++r)=s.map PU.lit++aI r:=by
  intro s;induction s with
  | nil=>intro _ r;rfl
  | cons c s ih =>
    intro hs r;have:=(wi (c:=c) (by rw[hs c zTq];rfl)).1
    rw[zTA,eC this,ih (fun d hd=>hs d (zTo _ hd))];rfl
 have vl:∀ s:Bytes,(s.map PU.lit).map PU.val=s:=by intro s;simp[Function.comp_def,PU.val]
 have n58:∀ s:Bytes,(∀ c∈s,dy c=true)→(58:UInt8) ∉ s:=fun s hs hm=>absurd (hs _ hm) QD
 have nb:∀ s:Bytes,PU.bad ∉ s.map PU.lit:=by intro s;simp
 by_cases h0:u.port=0
 ·have e:bQ u=u.host:=by unfold bQ;rw[if_pos h0,zTJ]
  have e2:bu u.host u.port=u.host:=by unfold bu;rw[if_pos h0]
  have e3:=gz u.host hp [];rw[zTJ,gE,zTJ]at e3;rw[e,e2,e3];exact⟨tR hp,n58 _ hp,host_ne h1,vl _,nb _⟩
 ·have e:bQ u=u.host++([37,51,65]++cf u.port.natAbs):=by unfold bQ;rw[if_neg h0]
  have e2:bu u.host u.port=u.host++[58]++cf u.port.natAbs:=by unfold bu;rw[if_neg h0,if_neg QA]
  have e3:=gz u.host hp ([37,51,65]++cf u.port.natAbs);have e4:=gz _ (wW u.port.natAbs) [];rw[zTJ,gE,zTJ]at e4;have e5:aI ([37,51,65]++cf u.port.natAbs)=.hex 51 65::aI (cf u.port.natAbs):=hZ QD QD _;rw[e,e2,e3,e5,e4];refine⟨my (tR hp) (my (a:=[37,51,65]) ⟨[.hex 51 65],rfl,fun x hx=>?_⟩ (tR (wW _))),?_,QB,?_,?_⟩
  ·obtain rfl:=zTw.1 hx
   refine⟨by decide,by decide,by decide,by decide,by decide⟩
  ·simp only[zTx,not_or]
   exact⟨n58 _ hp,by decide,n58 _ (wW _)⟩
  ·rw[List.map_append,zTK,vl,vl]
   simp[PU.val];decide
  ·simp
theorem CZ (c:UInt8):∀ (l:List Bytes),l≠[]→(∀ x∈l,x≠[])→(l.flatMap (c::·)).getLast? = (l.getLast?.getD []).getLast?
 | [],h,_=>absurd rfl h
 | [x],_,h=>by
   have hx:=h x zTq;cases x with
   | nil=>exact absurd rfl hx
   | cons a x=>simp
 | x::y::l,_,h=>by
   have ih:=CZ c (y::l) QB (fun z hz=>h z (zTo _ hz));rw[zTs,zT1,ih];have bF:((y::l).getLast?.getD [])≠[]:=by
    cases hl:(y::l).getLast? with
    | none=>simp at hl
    | some z=>exact h z (zTo _ (zTO hl))
   rw[List.getLast?_cons_cons];cases hz:((y::l).getLast?.getD []).getLast? with
   | none=>rw[List.getLast?_eq_none_iff]at hz;exact absurd hz bF
   | some z=>rfl
theorem Ke {u:bN}{ss:List Bytes}(hh:aN (bu u.host u.port)=((u.host,u.port),0))(hs:∀ s∈ss,s≠[]∧s≠[46]∧s≠[46,46])
 (hl:(ck ⟨hY,bQ u++ss.flatMap fun s=>58::bf s⟩).length≤4096):EZ ⟨hY,bQ u++ss.flatMap fun s=>58::bf s⟩:=by
 obtain⟨b1,b2,b3,b4,b5⟩:=uX hh;have ef:(ss.flatMap fun s=>58::bf s)=(ss.map bf).flatMap (58::·):=by rw[zTM]
 have bF:∀ s∈ss,bf s≠[]:=fun s hm e=>by
  have h1:s≠[]:=(hs s hm).1;have:=(pB s).1
  rw[e,gE]at this;exact h1 this.symm
 refine⟨show iz hY=true by decide,my b1 ?_,by simp[b3],?_⟩
 ·clear hl bF hs ef
  induction ss with
  | nil=>exact AU
  | cons s ss ih=>exact my (my (a:=[58]) (AT QD) (H5 s)) ih
 ·simp only
  cases ss with
  | nil =>
    rw[List.flatMap_nil,zTJ];intro k;exact b2 (zTO k)
  | cons s ss =>
    rw[ef,zT1,CZ 58 _ QB (by
     intro x hx;obtain⟨t,ht,rfl⟩:=zTR.1 hx;exact bF t ht)]
    obtain⟨t,ht,e⟩:∃ t∈s::ss,((s::ss).map bf).getLast?.getD []=bf t:=by
     rw[List.getLast?_map];cases hq:(s::ss).getLast? with
     | none=>simp at hq
     | some t=>exact⟨t,zTO hq,rfl⟩
    rw[e];cases hz:(bf t).getLast? with
    | none=>rw[List.getLast?_eq_none_iff]at hz;exact absurd hz (bF t ht)
    | some z =>
      intro k;obtain rfl:z=58:=by simpa using k
      exact vv t _ (zTO hz) rfl
theorem Fc {u:bN}{ss:List Bytes}(hh:aN (bu u.host u.port)=((u.host,u.port),0))(hs:∀ s∈ss,s≠[]∧s≠[46]∧s≠[46,46])
 (hl:(ck ⟨hY,bQ u++ss.flatMap fun s=>58::bf s⟩).length≤4096) :
 bZ ⟨hY,bQ u++ss.flatMap fun s=>58::bf s⟩=((u.host,u.port),0)∧(aD 58 (bQ u++ss.flatMap fun s=>58::bf s)).tail=ss.map bf∧(ss.map bf).all mN=true∧∀ s∈ss,(aC (bf s)).1=s:=by
 obtain⟨b1,b2,b3,b4,b5⟩:=uX hh;have ef:(ss.flatMap fun s=>58::bf s)=(ss.map bf).flatMap (58::·):=by rw[zTM]
 have hlen:∀ s∈ss,(bf s).length≤4096:=by
  intro s hm;have h1:(bf s).length≤(ss.flatMap fun s=>58::bf s).length:=by
   obtain⟨p,q,rfl⟩:=List.append_of_mem hm;simp;omega
  simp[ck]at hl;simp at h1
  omega
 have jF:(bQ u).length≤4096:=by simp[ck]at hl;omega
 have Ey:∀ s∈ss,aC (bf s)=(s,0):=fun s hm=>B9 (by have:=hlen s hm;omega)
 have bF:∀ s∈ss,bf s≠[]:=fun s hm e=>by
  have:=Ey s hm
  rw[e]at this;exact(hs s hm).1 (Prod.mk.inj this).1.symm
 have q8:aD 58 (bQ u++ss.flatMap fun s=>58::bf s)=bQ u::ss.map bf:=by
  rw[ef];refine xp 58 _ _ b2 fun y hy=>?_
  obtain⟨s,-,rfl⟩:=zTR.1 hy;exact fun k=>vv s _ k rfl
 have Pm:=Ke hh hs hl;have hr:=HP Pm hl;refine⟨?_,by rw[q8];rfl,zTD.2 fun x hx=>?_,fun s hm=>by rw[Ey s hm]⟩
 ·unfold bZ
  rw[if_neg QB,hr,if_neg QB];simp only;have hc:(aL 58 (bQ u++ss.flatMap fun s=>58::bf s)).1=bQ u:=by
   cases ss with
   | nil=>rw[List.flatMap_nil,zTJ,gH (fk b2)]
   | cons s ss=>rw[zTs,zTA,je (fk b2)]
  rw[hc];have hd:aC (bQ u)=(bu u.host u.port,0):=by
   unfold aC;rw[if_neg QA,if_neg b5,b4]
  rw[hd];exact hh
 ·obtain⟨s,hm,rfl⟩:=zTR.1 hx
  unfold mN;rw[Ey s hm];have:=hs s hm
  simp[this.1,this.2.1,this.2.2]
theorem Fq {d:iJ}{u:bN}(h:gI d=(u,0)):bZ d=((u.host,u.port),0)∧aN (bu u.host u.port)=((u.host,u.port),0)∧(∃ ss:List Bytes,(∀ s∈ss,s≠[]∧s≠[46]∧s≠[46,46])∧u=⟨u.host,u.port,if ss=[] then eg else ss.flatMap (fun s=>47::aH [] s)++47::iA,[],[],false,false⟩)∧(bh u).length≤4096:=by
 unfold gI at h;split at h
 ·rename_i h1;exact absurd (Prod.mk.inj h).2 h1
 rename_i h1
 split at h
 ·simp at h
 rename_i h2
 unfold oa at h;split at h
 ·simp at h
 rename_i h3
 simp only[Prod.mk.injEq,and_true]at h;subst h;have h1:(bZ d).2=0:=by simpa using h1
 have e:bZ d=(((bZ d).1.1,(bZ d).1.2),0):=by rw[← h1]
 refine⟨e,?_,⟨(aD 58 d.id).tail.map fun x=>(aC x).1,?_,?_⟩,QA⟩
 ·simp only
  unfold bZ at e h1 ⊢;split at h1
  ·simp at h1
  rename_i k1
  rw[if_neg k1]at e ⊢;split at h1
  ·rename_i k2;exact absurd h1 k2
  rename_i k2
  rw[if_neg k2]at e ⊢;exact(cS e).1
 ·intro s hs
  obtain⟨x,hx,rfl⟩:=zTR.1 hs;have h2:(aD 58 d.id).tail.all mN=true:=by simpa using h2
  have:=zTD.1 h2 x hx
  unfold mN at this;simp only[zTQ,bne_iff_ne,ne_eq]at this;exact⟨this.1.1.2,this.1.2,this.2⟩
 ·simp only[bN.mk.injEq,true_and,and_true]
  unfold oK;by_cases k:(aD 58 d.id).tail=[]
  ·rw[if_pos k,if_pos (by rw[k];rfl)]
  ·rw[if_neg k,if_neg (by rw[List.map_eq_nil_iff];exact k),zTM]
   rfl
theorem NS {s:Bytes}(h:s≠[46]∧s≠[46,46]):pg (aH [] s):=by
 refine⟨PV s,fun e=>h.1 (K9 (e.trans QD)),fun e=>h.2 (K9 (e.trans QD))⟩
theorem Ol (ss:List Bytes):ss.flatMap (fun s=>47::aH [] s)++47::iA=iq (ss.map (aH [])++[iA]):=by
 unfold iq;rw[zTE,zTM];simp
theorem Ok {ss:List Bytes}(h:∀ s∈ss,s≠[]∧s≠[46]∧s≠[46,46]):Can dP (ss.flatMap (fun s=>47::aH [] s)++47::iA)∧(∃ r,ss.flatMap (fun s=>47::aH [] s)++47::iA=47::r)∧aS (ss.flatMap (fun s=>47::aH [] s)++47::iA)=ss.flatMap (fun s=>47::aH [] s)++47::iA:=by
 refine⟨pI ?_ ?_,?_,?_⟩
 ·clear h
  induction ss with
  | nil=>exact ke _
  | cons s ss ih=>exact pI (pI (a:=[47]) (vA QD QD) (can_enc _ s)) ih
 ·refine⟨(47::iA).map PU.lit,by decide,?_⟩
  intro x hx;obtain⟨c,hc,rfl⟩:=zTR.1 hx;show fG dP c=true∧c≠37
  revert c;decide
 ·cases ss with
  | nil=>exact⟨_,rfl⟩
  | cons s ss=>exact⟨_,rfl⟩
 ·rw[Ol]
  show fR _ _ []=_
  rw[rr _ _ _ (zTH _),zT3];intro x hx;rcases zTx.1 hx with hx|hx
  ·obtain⟨s,hs,rfl⟩:=zTR.1 hx
   exact NS (h s hs).2
  ·obtain rfl:=zTw.1 hx
   refine⟨by decide,by decide,by decide⟩
theorem F2:Can dP eg∧aS eg=eg:=by
 refine⟨⟨eg.map PU.lit,by decide,?_⟩,by decide +kernel⟩;intro x hx;obtain⟨c,hc,rfl⟩:=zTR.1 hx;show fG dP c=true∧c≠37
 revert c;decide
theorem Ck {d:iJ}{u:bN}(h:gI d=(u,0)):fT u∧u.aJ=false∧u.a8=false∧bZ d=((u.host,u.port),0):=by
 obtain⟨h1,h2,⟨ss,h3,h4⟩,h5⟩:=Fq h;have hq:u.aJ=false:=by rw[h4]
 have hf:u.a8=false:=by rw[h4]
 have Nh:u.query=[]:=by rw[h4]
 have nM:u.fragment=[]:=by rw[h4]
 have hp:Can dP u.path∧(∃ r,u.path=47::r)∧aS u.path=u.path:=by
  rw[h4];simp only;split
  ·exact⟨F2.1,⟨_,rfl⟩,F2.2⟩
  ·exact Ok h3
 exact⟨⟨h2,hp.1,hp.2.1,hp.2.2,by rw[Nh];exact ke _,by rw[nM];exact ke _,fun _=>Nh,fun _=>nM,h5⟩,hq,hf,h1⟩
theorem As {d c:iJ}(h:pk d=(c,0)):c=d∧(ck d).length≤4096:=by
 unfold pk at h;split at h
 ·simp at h
 ·exact⟨(Prod.mk.inj h).1.symm,QA⟩
theorem Fp {u:bN}{ss:List Bytes}(hu:fT u)(hq:u.aJ=false)(hf:u.a8=false)(hs:∀ s∈ss,s≠[]∧s≠[46]∧s≠[46,46])(hp:u.path=if ss=[] then eg else ss.flatMap (fun s=>47::aH [] s)++47::iA)
 (hl:(ck ⟨hY,bQ u++ss.flatMap fun s=>58::bf s⟩).length≤4096):gI ⟨hY,bQ u++ss.flatMap fun s=>58::bf s⟩=(u,0):=by
 obtain⟨h1,h2,h3,h4⟩:=Fc hu.host hs hl;have e:oK (ss.map bf)=u.path:=by
  rw[hp];unfold oK;by_cases k:ss=[]
  ·rw[if_pos (by rw[k];rfl),if_pos k]
  ·rw[if_neg (by simpa using k),if_neg k,zTM]
   congr 1
   clear hp hl h1 h2 h3 k hs;induction ss with
   | nil=>rfl
   | cons s ss ih =>
     rw[zTs,zTs,ih (fun t ht=>h4 t (zTo _ ht)),sr,h4 s zTq]
 unfold gI;rw[h1,if_neg QB];simp only;rw[h2,h3,if_neg QB,e];have eu:(⟨u.host,u.port,u.path,[],[],false,false⟩:bN)=u:=by
  have q1:=hu.noq hq;have q2:=hu.nof hf;obtain⟨a,b,c,d,f,g,h⟩:=u;simp only at hq hf q1 q2;subst hq hf q1 q2;rfl
 rw[eu];unfold oa;rw[if_neg (by have:=hu.len;omega)]
theorem HH {also:Bytes}:∀ (l:List Bytes)(x:Bytes),Can also (x++l.flatMap (47::·))→Can also x∧∀ y∈l,Can also y
 | [],x,h=>⟨by simpa using h,QB⟩
 | y::l,x,h=>by
   rw[zTs,zTA]at h;obtain⟨h1,h2⟩:=h.split QD QD;obtain⟨h3,h4⟩:=HH l y (H0 QD h2).2;refine⟨h1,fun z hz=>?_⟩;rcases zTG.1 hz with rfl|hz
   ·exact h3
   ·exact h4 z hz
theorem PW {also x:Bytes}(h:Can also x)(hd:x.all iD=true):aH [] (aC x).1=x∨16384<x.length:=by
 by_cases hl:16384<x.length
 ·exact .inr hl
 left
 obtain⟨l,rfl,hk⟩:=h;have hu:=rJ also l hk;have hb:PU.bad ∉ aI (l.flatMap PU.str):=by rw[hu];exact fun k=>(hk _ k).elim
 unfold aC;rw[if_neg hl,if_neg hb,hu];clear hu hb hl;simp only;induction l with
 | nil=>rfl
 | cons y l ih =>
   rw[zTs,zT2,zTQ]at hd;have ih:=ih (fun z hz=>hk z (zTo _ hz)) hd.2;have hy:=hk y zTq;rw[zTs,zTK];show ox [] y.val++aH [] (l.map PU.val)=_
   rw[ih];congr 1
   cases y with
   | lit c =>
     have:iD c=true:=by simpa[PU.str] using hd.1
     unfold iD at this;have wR:(c==37)=false:=by simpa using hy.2
     rw[wR,Bool.false_or]at this;simp[PU.val,ox,this,PU.str]
   | hex a b =>
     simp only[PU.val,ox,hy.1,PU.str];rw[if_neg QB];unfold nP;rw[← hy.2.1,← hy.2.2.1]
   | bad=>exact hy.elim
theorem from_to {u:bN}{x:iJ}(hu:fT u)(h:lg u=(x,0)):gI x=(u,0)∧∃ ss:List Bytes,x=⟨hY,bQ u++ss.flatMap fun s=>58::bf s⟩∧(ck x).length≤4096∧∀ s∈ss,s≠[]∧s≠[46]∧s≠[46,46]:=by
 unfold lg at h;split at h
 ·simp at h
 split at h
 ·simp at h
 rename_i h1 h2
 simp only[not_or,ne_eq,Classical.not_not]at h2;obtain⟨h2,h3,h4⟩:=h2;have h2:u.aJ=false:=by simpa using h2
 have h3:u.a8=false:=by simpa using h3
 split at h
 ·simp at h
 rename_i h5
 unfold mh at h;split at h
 ·rename_i h6
  obtain⟨rfl,hl⟩:=As h;refine⟨?_,[],QB,hl,QB⟩;have:=Fp (ss:=[]) hu h2 h3 QB (by rw[if_pos rfl];exact h6) (by simpa using hl)
  simpa using this
 rename_i h6
 split at h
 ·simp at h
 rename_i h7
 have h7:(aD 47 u.path).tail.dropLast.all dV=true:=by simpa using h7
 obtain⟨x0,l0,e1,e2,e3,e4⟩:=xn 47 _ u.path (zTH _);obtain⟨r,hr⟩:=hu.Fz;have KK:x0=[]:=by
  cases x0 with
  | nil=>rfl
  | cons a x0 =>
    rw[e2]at hr;have:a=47:=by simpa using(List.cons.inj hr).1
    subst this;exact absurd zTq e3
 subst KK;rw[e1,List.tail_cons]at h h4 h5 h7;rw[zT3]at e2;obtain⟨l,rfl⟩:∃ l,l0=l++[iA]:=by
  have bF:l0≠[]:=by rintro rfl;simp at h4
  refine⟨l0.dropLast,?_⟩;have:=List.dropLast_concat_getLast bF
  rw[List.getLast?_eq_some_getLast bF]at h4;rw[← Option.some.inj h4];exact this.symm
 rw[List.dropLast_concat]at h h7;obtain⟨rfl,hl⟩:=As h;have Pm:∀ y∈l,Can dP y:=by
  have:=hu.path
  rw[e2]at this;exact fun y hy=>(HH (l++[iA]) [] (by simpa using this)).2 y (List.mem_append_left _ hy)
 have Mv:∀ y∈l,y≠[46]∧y≠[46,46]:=by
  intro y hy;have hc:=(AP r).2;have hd:=hu.dots;rw[hr]at hd;rw[hd]at hc;rw[hr]at e1;exact hc y (by rw[e1];exact zTo _ (List.mem_append_left _ hy))
 have hplen:u.path.length≤4096:=by have:=(iV u).1;have:=hu.len;omega
 have Nf:∀ y∈l,y.length≤4096:=by
  intro y hy;have:y.length≤u.path.length:=by
   rw[e2];obtain⟨p,q,rfl⟩:=List.append_of_mem hy;simp;omega
  omega
 have henc:∀ y∈l,aH [] (aC y).1=y:=by
  intro y hy;have hd:=zTD.1 h7 y hy;unfold dV at hd;simp only[zTQ]at hd;rcases PW (Pm y hy) hd.1.1 with k|k
  ·exact k
  ·have:=Nf y hy;omega
 have hss:∀ s∈l.map (fun y=>(aC y).1),s≠[]∧s≠[46]∧s≠[46,46]:=by
  intro s hs;obtain⟨y,hy,rfl⟩:=zTR.1 hs;have hd:=zTD.1 h7 y hy;unfold dV at hd;simp only[zTQ,bne_iff_ne,ne_eq]at hd;have he:=henc y hy;refine⟨hd.2,fun k=>(Mv y hy).1 ?_,fun k=>(Mv y hy).2 ?_⟩
  ·rw[← he,k];decide
  ·rw[← he,k];decide
 have hid:l.flatMap cT=(l.map (fun y=>(aC y).1)).flatMap fun s=>58::bf s:=by
  rw[zTM];rfl
 have hpath:u.path=if l.map (fun y=>(aC y).1)=[] then eg else(l.map (fun y=>(aC y).1)).flatMap (fun s=>47::aH [] s)++47::iA:=by
  rw[if_neg (by intro k;rw[List.map_eq_nil_iff]at k;subst k;simp at h5)];rw[e2,zTE,zTM];have:∀ m:List Bytes,(∀ y∈m,aH [] (aC y).1=y)→m.flatMap (fun y=>47::aH [] (aC y).1)=m.flatMap (47::·):=by
   intro m;induction m with
   | nil=>intro _;rfl
   | cons y m ih =>
     intro hm;rw[zTs,zTs,ih (fun z hz=>hm z (zTo _ hz)),hm y zTq]
  rw[this l henc];simp
 rw[hid]at hl ⊢;exact⟨Fp hu h2 h3 hss hpath hl,_,rfl,hl,hss⟩
theorem nR {d c:iJ}(h:gn d=(c,0)):∃ u,fT u∧gI c=(u,0)∧lg u=(c,0)∧gn c=(c,0)∧bZ c=((u.host,u.port),0)∧bC (ck c)=(c,0)∧(∃ r,c.id=bQ u++r)∧c.method=hY:=by
 unfold gn at h;split at h
 ·rename_i h1;exact absurd (Prod.mk.inj h).2 h1
 rename_i h1
 have e:gI d=((gI d).1,0):=by
  have:(gI d).2=0:=by simpa using h1
  rw[← this]
 obtain⟨hu,-⟩:=Ck e;obtain⟨h2,ss,h3,h4,h5⟩:=from_to hu h;have hw:=Fc hu.host h5 (by rw[← h3];exact h4);rw[← h3]at hw;have hc:EZ c:=by
  have hl:(ck ⟨hY,bQ (gI d).1++ss.flatMap fun s=>58::bf s⟩).length≤4096:=by rw[← h3];exact h4
  have:=Ke hu.host h5 hl
  rw[← h3]at this;exact this
 exact⟨_,hu,h2,h,by unfold gn;rw[h2];simp only[ne_eq,not_true,if_false];exact h,hw.1,HP hc h4,⟨ss.flatMap fun s=>58::bf s,by rw[h3]⟩,by rw[h3]⟩
open Go Go.RowKit
theorem vz (c:UInt8)(s:Bytes):∃ l,aD c s=(aL c s).1::l:=by
 by_cases hp:pre (·==c) s<s.length
 ·rw[dO hp,show aL c s=(s.take (pre (·==c) s),s.drop (pre (·==c) s+1),true) from if_pos hp]
  exact⟨_,rfl⟩
 ·rw[dC hp,show aL c s=(s,[],false) from if_neg hp]
  exact⟨_,rfl⟩
theorem HZ {s:Bytes}(h:(eW s).2=0):PU.bad ∉ aI s:=by
 intro hb;unfold eW at h;rw[if_pos hb]at h;simp at h
theorem AX {d:iJ}(hm:d.method=hY)(h:(bC (ck d)).2=0):d.id.length≤4096∧∀ y∈aD 58 d.id,PU.bad ∉ aI y∧y.length≤4096:=by
 obtain⟨m,i⟩:=d;simp only at hm;subst hm;have ht:ck ⟨hY,i⟩=rA++(hY++58::i):=by simp[ck]
 unfold bC at h;split at h
 ·simp at h
 rename_i h1
 have hp:rA.isPrefixOf (ck ⟨hY,i⟩)=true:=by rw[ht];exact List.isPrefixOf_iff_prefix.2 ⟨_,rfl⟩
 rw[if_neg (by rw[hp];simp),ht,show (rA++(hY++58::i)).drop 4=hY++58::i from rfl]at h;have hc:aL 58 (hY++58::i)=(hY,i,true):=by
  rw[MZ (c:=58) (a:=hY) (58::i) QD];rfl
 unfold rT at h;rw[hc]at h;simp only at h;rw[if_neg QB,if_neg QD]at h;have h2:(eW i).2=0:=by
  by_cases k:(eW i).2=0
  ·exact k
  ·unfold tN at h
   rw[if_pos k]at h;exact h
 have hb:=HZ h2;obtain⟨x,l,e1,e2,e3⟩:=sY 58 _ i (zTH _);have hu:=(s9 l x).1;rw[← e2]at hu;have dJ:i.length≤4096:=by
  rw[ht]at h1;simp only[zTp,zTu]at h1;omega
 refine⟨dJ,fun y hy=>⟨fun k=>hb (hu.1 ⟨y,by rw[← e1];exact hy,k⟩),?_⟩⟩;have:=iK 58 i y hy
 omega
theorem Ka {d:iJ}(hm:d.method=hY)(h:(bC (ck d)).2=0):aC (aL 58 d.id).1=(ml (aL 58 d.id).1,0):=by
 obtain⟨h1,h2⟩:=AX hm h;obtain⟨l,e⟩:=vz 58 d.id;obtain⟨h3,h4⟩:=h2 (aL 58 d.id).1 (by rw[e];exact zTq);rw[pC QA,if_neg h3]
theorem iw (s:Bytes):(aC s).1.length≤s.length:=by
 unfold aC;split
 ·simp
 ·split
  ·simp
  ·exact oz s
theorem LC (x:Bytes):(sr x).length≤3 * x.length+1:=by
 have h1:=eO [] (aC x).1;have h2:=iw x;unfold sr;simp only[zTu];omega
theorem FE (x:Bytes):(cT x).length≤3 * x.length+1:=by
 have h1:=iT (aC x).1;have h2:=iw x;unfold cT;simp only[zTu];omega
theorem K3:∀ l:List Bytes,(l.flatMap sr).length≤3 * l.flatten.length+l.length
 | []=>QB
 | x::l=>by
   have:=LC x
   have:=K3 l
   simp only[zTs,zTp,zTN,zTu];omega
theorem C0:∀ l:List Bytes,(l.flatMap cT).length≤3 * l.flatten.length+l.length
 | []=>QB
 | x::l=>by
   have:=FE x
   have:=C0 l
   simp only[zTs,zTp,zTN,zTu];omega
theorem yV (c:UInt8)(s:Bytes):(aD c s).flatten.length+(aD c s).length=s.length+1:=by
 obtain⟨x,l,e1,e2,-⟩:=sY c _ s (zTH _);rw[e1]
 conv=>rhs;rw[e2]
 have:∀ l:List Bytes,(l.flatMap (c::·)).length=l.flatten.length+l.length:=by
  intro l;induction l with
  | nil=>rfl
  | cons y l ih=>simp only[zTs,zTp,zTN,zTu,ih];omega
 simp only[zTN,zTp,zTu,this];omega
theorem AB {d:iJ}(h:(bZ d).2=0):aN (bu (bZ d).1.1 (bZ d).1.2)=(((bZ d).1.1,(bZ d).1.2),0)∧d.method=hY∧(bC (ck d)).2=0:=by
 unfold bZ at h ⊢;by_cases h1:d.method=hY
 ·rw[if_neg (by simp[h1])]at h ⊢
  by_cases h2:(bC (ck d)).2=0
  ·rw[if_neg (by simp[h2])]at h ⊢
   refine⟨?_,h1,h2⟩;generalize hX:aN (aC (aL 58 d.id).1).1=X at h ⊢;obtain⟨⟨x,p⟩,e⟩:=X;simp only at h ⊢;subst h;exact(cS hX).1
  ·rw[if_pos h2]at h
   exact absurd h h2
 ·rw[if_pos h1]at h
  simp at h
theorem Ff {u:bN}(hv:bX u=true):∃ (T:List Bytes) (z:Bytes),aD 47 u.path=(aL 47 u.path).1::T∧T.getLast? = some z∧0<T.length∧u.path.length≤4096:=by
 have hc:=rH hv;obtain⟨r,hr⟩:=hc.Fz;have hl:=(iV u).1;have hlen:=hc.len;obtain⟨T,hT⟩:=vz 47 u.path;have h0:pre (·==47) (47::r)=0:=by simp[bY]
 have e:aD 47 (47::r)=[]::aD 47 r:=by
  rw[dO (by rw[h0];simp),h0];rfl
 have hT2:=hT;rw[hr,e]at hT2;have h2:=gF 47 r;have h3:aD 47 r=T:=(List.cons.inj hT2).2;have hT0:T≠[]:=by rintro rfl;rw[h3]at h2;simp at h2
 refine⟨T,T.getLast hT0,hT,List.getLast?_eq_some_getLast hT0,List.length_pos_iff.2 hT0,QA⟩
theorem JV {u:bN}{c z:Bytes}{T:List Bytes}(hv:bX u=true)(hT:aD 47 u.path=c::T)(hz:T.getLast? = some z) :
 lg u=if u.aJ=true then(iJ.none,6) else if u.a8=true then(iJ.none,6) else if (z != iA)=true then(iJ.none,6) else if T.length=1 then(iJ.none,110) else mh u T.dropLast:=by
 unfold lg;rw[if_neg (by rw[hv];simp),hT,List.tail_cons,hz];by_cases h1:u.aJ=true
 ·rw[if_pos (.inl h1),if_pos h1]
 rw[if_neg h1];by_cases h2:u.a8=true
 ·rw[if_pos (.inr (.inl h2)),if_pos h2]
 rw[if_neg h2];by_cases h3:z=iA
 ·have hn:¬ (u.aJ=true∨u.a8=true∨some z≠some iA):=by simp[h1,h2,h3]
  have hm:¬ (z != iA)=true:=by simp[h3]
  rw[if_neg hn,if_neg hm]
 ·rw[if_pos (.inr (.inr (by simpa using h3))),if_pos (by simpa using h3)]
end Wf
