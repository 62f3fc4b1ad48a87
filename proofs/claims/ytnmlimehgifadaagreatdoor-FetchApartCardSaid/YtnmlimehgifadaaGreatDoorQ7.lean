/- Texts of this claim, laid together: MadeD, MadeE, TreeG, TreeS, TreeU, TreeQ, TreeW, TreeX, TreeY, AcctP, DidP, DidQ, DidR, WebP, WebQ. -/
import Derived.Lib.Replace
import Derived.Test.YtnmlimehgifadaaGreatDoorQ6
open And renaming intro → zSa
open List renaming getElem?_eq_some_iff → zSb, mem_cons_of_mem → zSc, length_append → zSd, mem_cons_self → zSe, flatMap_cons → zSf, length_set → zSg, length_cons → zSh, mem_singleton → zSi, mem_append → zSj, getElem_mem → zSk, cons_append → zSm, length_nil → zSn, all_eq_true → zSo, flatMap_append → zSp, length_eq_zero_iff → zSr, mem_cons → zSs, append_nil → zSw, map_cons → zSy, take → zSz, flatMap_map → zSA, flatten_cons → zSB, mem_of_getLast? → zSD, drop → zSE, mem_map → zSG, take_of_length_le → zSK, mem_flatMap → zSM, getLast?_append → zSN, all_append → zSO, nil_append → zSP
open Nat renaming le_refl → zSu, add_sub_cancel_left → zSH
open Bool renaming and_eq_true → zSF, not_true → zSI, not_false → zSL
open Int renaming toNat → zSJ
set_option linter.all false
set_option maxHeartbeats 16000000
set_option maxRecDepth 20000
namespace Go.Proofs.YtnmlimehgifadaaGreatDoor
open Go Vc Go.RowKit Wf
theorem yk {u:bM}(hu:Small u):(aX u).length≤10100:=by
 have h1:=nt u.host hu.2.1 hu.2.2
 have h2:=jN u
 have h3:=hu.1
 unfold aX
 simp only[zSd]
 split <;> simp only[zSd,zSh,zSn] <;> omega
theorem Small.Hg {h p:Bytes}(hh:h.length+p.length≤10000):Small ⟨h,0,p,[],[],false,false⟩:=⟨by simpa using hh,by simp,by simp⟩
def Out (bs:List av)(i:Nat)(x:SV)(b:List av)(A:List fK):Prop:=(x=.aj∧A=[])∨∃ q,x=.o q A.length∧bs.length<q∧q≠i∧b[q]? = some (.own (A.flatMap ac) 33 7 A.length true)
theorem Out.kp {bs:List av}{i:Nat}{x:SV}{b b':List av}{A:List fK}(h:Out bs i x b A)(k:fI i b b'):Out bs i x b' A:=by
 rcases h with h|⟨q,h1,h2,h3,h4⟩
 ·exact .inl h
 ·exact .inr ⟨q,h1,h2,h3,k.at h4 h3⟩
structure RInv (bs:List av) (i:Nat) (n k:Nat) (σ:St):Prop where
 h0:lk 0 σ.t=some (.p i 0)
 h2:lk 2 σ.t=some (.int .i64 n)
 h4:lk 4 σ.t=some (.p bs.length 0)
 h8:lk 8 σ.t=some (.int .i64 k)
 hK:fI i bs σ.b
 hy:∃ (to':bM) (x:SV) (A:List fK) (L:List Int),lk 7 σ.t=some x∧σ.b[bs.length]? = some (.cells (uc to') 35 true)∧Small to'∧aW σ.b i L∧Out bs i x σ.b A∧A.length=k∧∀ a∈A,ra a
theorem CT {bs:List av}{i:Nat}{L:List Int}(h:aW bs i L)(u:bM)(hu:Small u)(n:Nat)(hn:n≤10):SC Tryz.V 130 [.p i 0,.agg (uc u),.int .i64 n] bs (fun r b=>∃ (A:List fK) (L':List Int) (q:Nat),r=.o q A.length∧A.length=n+1∧(∀ a,A.getLast? = some a→a.raw.length≤20000)∧bs.length<q∧b[q]? = some (.own (A.flatMap ac) 33 7 A.length true)∧(∀ a∈A,ra a)∧aW b i L'∧fI i bs b):=by
 have dF:i<bs.length:=by obtain⟨x,hi,-⟩:=h;exact(zSb.1 hi).1
 refine bo 3000 Tryz.func130 rfl Tryz.ntmps130 Tryz.results130 Tryz.call130 (by simp) (ah bs.length _ (by simp[within,within.ax,uc,dF])) ?_
 unfold uc
 refine dV ?_
 refine az (fun σ=>∃ k,k≤n∧RInv bs i n k σ) (fun σ=>n - fX 8 σ) ⟨0,by omega,rfl,rfl,rfl,rfl,fI.of ((Kp.refl bs).app _),⟨u,.aj,[],_,rfl,aI _ _,hu,h.app _,.inl ⟨rfl,rfl⟩,rfl,by simp⟩⟩ ?_
 rintro⟨t,b⟩ ⟨k,hk,h0,h2,h4,h8,hK,to',x,A,L1,h7,Gc,hS,hD,hO,hA,nF⟩
 simp only at h0 h2 h4 h8 hK h7 Gc hD hO
 rw[ao h8]
 have mh:=hK.1
 unfold uc at Gc
 by_cases aA:k<n
 ·have bg:decide ((k:Int)<n)=true:=decide_eq_true (by omega)
  have s1:=iB (bs:=b) hD [([97,46,101,120,97,109,112,108,101]:List UInt8),([98,46,101,120,97,109,112,108,101]:List UInt8),([101,46,101,120,97,109,112,108,101]:List UInt8)] (n:=3) (m:=20) rfl (by omega) (by decide) rfl
  refine gA (zSa h0 (zSa h2 (zSa h4 (zSa h8 (zSa h7 bg))))) ?_
  refine⟨by omega,ae s1 ?_⟩
  rintro r b1 ⟨hs,L2,rfl,hhs,Br,cP⟩
  have hk01:=cP
  refine gA (zSa h0 (zSa h2 (zSa h4 (zSa h8 h7)))) ?_
  refine ae (eA Br 20 (by omega)) ?_
  rintro r b2 ⟨v1,L3,rfl,hv1,Lt,bJ⟩
  obtain⟨m1,rfl⟩:∃ m:Nat,v1=m:=⟨v1.toNat,by omega⟩
  have p1:=gG m1 (by omega)
  have p2:=gG k (by omega)
  have d1:=cI 9 m1 (by omega)
  have d2:=cI 9 k (by omega)
  have NS:=hk01.trans bJ
  have hto2:=NS.at Gc (by omega)
  have hO2:=hO.kp NS
  have pF:=fM to' hS.fair
  unfold cQ at pF
  refine gA (zSa h0 (zSa h2 (zSa h4 (zSa h8 h7)))) ?_
  (refine aa (p1) ?_;refine gA (zSa h0 (zSa h2 (zSa h4 (zSa h8 h7)))) ?_)
  refine⟨by omega,?_⟩
  (refine aa (p2) ?_;refine gA (zSa h0 (zSa h2 (zSa h4 (zSa h8 h7)))) ?_)
  refine⟨by omega,?_⟩
  refine gA (zSa h0 (zSa h2 (zSa h4 (zSa h8 (zSa h7 (zSa hto2 (ad hto2))))))) ?_
  (refine aa (pF) ?_;refine gA (zSa h0 (zSa h2 (zSa h4 (zSa h8 (zSa h7 (zSa hto2 (ad hto2))))))) ?_)
  have oI:=yk hS
  refine ae (eA (Lt.app [.cells [.str hs,.int .i64 0,.str (47::114::(bW m1++bW k)),.str [],.str [],.bool false,.bool false] 35 true]) 20 (by omega)) ?_
  rintro r b3 ⟨v2,L4,rfl,hv2,vY,eF⟩
  have hk03:=(NS.app _).trans eF
  have xL:=hK.trans hk03
  have xI:=eF.at (aI b2 _) (by have:=NS.1;omega)
  have xE:=hk03.at Gc (by omega)
  have hO3:=hO.kp hk03
  have pT:=qy to' hS.fair
  unfold cQ at pT
  have w1:(v2==1)=true∨(v2==1)=false:=by cases v2==1 <;> simp
  have w2:(v2==2)=true∨(v2==2)=false:=by cases v2==2 <;> simp
  have wh:(hs==to'.host)=true∨(hs==to'.host)=false:=by cases hs==to'.host <;> simp
  have htl:=jN to'
  have hS1:=hS.1
  have hb2n:i≠b2.length:=by have:=NS.1;omega
  have hw:(v2==1)=true∨((v2==1)=false∧(v2==2)=true)∨((v2==1)=false∧(v2==2)=false):=by cases v2==1 <;> cases v2==2 <;> simp
  rcases hw with w1|⟨w1,w2⟩|⟨w1,w2⟩
  rcases wh with wh|wh
  refine gA (zSa h0 (zSa h2 (zSa h4 (zSa h8 (zSa h7 (zSa w1 (zSa wh (zSa xI xE)))))))) ?_
  refine ae (eA vY 2 (by omega)) ?_
  rintro r b4 ⟨v3,L5,rfl,DJ,Cm,mf⟩
  have rM:=xL.trans mf
  have Gm:=mf.at xI (by omega)
  have Bi:=mf.at xE (by omega)
  have hO4:=hO3.kp mf
  have w3:(v3==0)=true∨(v3==0)=false:=by cases v3==0 <;> simp
  rcases w3 with w3|w3
  refine gA (zSa h0 (zSa h2 (zSa h4 (zSa h8 (zSa h7 (zSa w3 Bi)))))) ?_
  (refine aa (pT) ?_;refine gA (zSa h0 (zSa h2 (zSa h4 (zSa h8 h7)))) ?_)
  generalize hl:bT to'=loc at *
  have hlb:loc.length≤10100:=by omega
  rotate_left
  refine gA (zSa h0 (zSa h2 (zSa h4 (zSa h8 (zSa h7 w3))))) ?_
  generalize hl:([104,116,116,112,58,47,47,97,46,101,120,97,109,112,108,101,47]:Bytes)=loc
  have hlb:loc.length≤10100:=by rw[← hl];simp
  rotate_left
  refine gA (zSa h0 (zSa h2 (zSa h4 (zSa h8 (zSa h7 (zSa w1 (zSa wh (zSa xI xE)))))))) ?_
  generalize hl:([104,116,116,112,58,47,47,97,46,101,120,97,109,112,108,101,47]:Bytes)=loc
  have hlb:loc.length≤10100:=by rw[← hl];simp
  have Cm:=vY
  have rM:=xL
  have Gm:=xI
  have Bi:=xE
  have hO4:=hO3
  generalize b3=b4 at *
  generalize L4=L5 at *
  rotate_left
  rcases wh with wh|wh
  refine gA (zSa h0 (zSa h2 (zSa h4 (zSa h8 (zSa h7 (zSa w1 (zSa w2 (zSa wh (zSa xI xE))))))))) ?_
  refine ae (eA vY 2 (by omega)) ?_
  rintro r b4 ⟨v3,L5,rfl,DJ,Cm,mf⟩
  have rM:=xL.trans mf
  have Gm:=mf.at xI (by omega)
  have Bi:=mf.at xE (by omega)
  have hO4:=hO3.kp mf
  have w3:(v3==0)=true∨(v3==0)=false:=by cases v3==0 <;> simp
  rcases w3 with w3|w3
  refine gA (zSa h0 (zSa h2 (zSa h4 (zSa h8 (zSa h7 (zSa w3 Bi)))))) ?_
  (refine aa (pT) ?_;refine gA (zSa h0 (zSa h2 (zSa h4 (zSa h8 h7)))) ?_)
  generalize hl:bT to'=loc at *
  have hlb:loc.length≤10100:=by omega
  rotate_left
  refine gA (zSa h0 (zSa h2 (zSa h4 (zSa h8 (zSa h7 w3))))) ?_
  generalize hl:([63]:Bytes)=loc
  have hlb:loc.length≤10100:=by rw[← hl];simp
  rotate_left
  refine gA (zSa h0 (zSa h2 (zSa h4 (zSa h8 (zSa h7 (zSa w1 (zSa w2 (zSa wh (zSa xI xE))))))))) ?_
  generalize hl:([63]:Bytes)=loc
  have hlb:loc.length≤10100:=by rw[← hl];simp
  have Cm:=vY
  have rM:=xL
  have Gm:=xI
  have Bi:=xE
  have hO4:=hO3
  generalize b3=b4 at *
  generalize L4=L5 at *
  rotate_left
  rcases wh with wh|wh
  refine gA (zSa h0 (zSa h2 (zSa h4 (zSa h8 (zSa h7 (zSa w1 (zSa w2 (zSa wh (zSa xI xE))))))))) ?_
  refine ae (eA vY 2 (by omega)) ?_
  rintro r b4 ⟨v3,L5,rfl,DJ,Cm,mf⟩
  have rM:=xL.trans mf
  have Gm:=mf.at xI (by omega)
  have Bi:=mf.at xE (by omega)
  have hO4:=hO3.kp mf
  have w3:(v3==0)=true∨(v3==0)=false:=by cases v3==0 <;> simp
  rcases w3 with w3|w3
  refine gA (zSa h0 (zSa h2 (zSa h4 (zSa h8 (zSa h7 (zSa w3 Bi)))))) ?_
  (refine aa (pT) ?_;refine gA (zSa h0 (zSa h2 (zSa h4 (zSa h8 h7)))) ?_)
  generalize hl:bT to'=loc at *
  have hlb:loc.length≤10100:=by omega
  rotate_left
  refine gA (zSa h0 (zSa h2 (zSa h4 (zSa h8 (zSa h7 w3))))) ?_
  generalize hl:aX to'=loc at *
  have hlb:loc.length≤10100:=oI
  rotate_left
  refine gA (zSa h0 (zSa h2 (zSa h4 (zSa h8 (zSa h7 (zSa w1 (zSa w2 (zSa wh (zSa xI xE))))))))) ?_
  generalize hl:aX to'=loc at *
  have hlb:loc.length≤10100:=oI
  have Cm:=vY
  have rM:=xL
  have Gm:=xI
  have Bi:=xE
  have hO4:=hO3
  generalize b3=b4 at *
  generalize L4=L5 at *
  rotate_left
  all_goals
   obtain⟨nB,sY,oK,jI,uA⟩:=tl Cm 2 (by omega)
   have pJ:=jI.outs sY
   have hv:=qD L5 (n:=2) (by omega)
   obtain⟨m3,hm3⟩:∃ m:Nat,jv L5 2=m:=⟨(jv L5 2).toNat,by omega⟩
   rw[hm3]at uA hv
   have em:(302+5 * (m3:Int))=((302+5 * m3:Nat):Int):=by omega
   have hKn:=rM.trans jI
   have Bn:=jI.at Gm (by omega)
   have NB:=jI.at Bi (by omega)
   have hnl2:=jI.1
   have hKl:=rM.1
   have l8:=(zSb.1 Gm).1
   have hSf:Small ⟨hs,0,47::114::(bW m1++bW k),[],[],false,false⟩:=Small.Hg (by simp;omega)
   have r1:=e9 (bs:=nB++[.own [.str ([108,111,99,97,116,105,111,110]:List UInt8),.str (loc)] 100 2 1 true]) (x:=.o nB.length 1) (fs:=[(([108,111,99,97,116,105,111,110]:List UInt8),loc)]) (.inr ⟨nB.length,true,rfl,by simp,aI _ _⟩) (by simp) (by simp[cF] <;> omega) (302+5 * m3) (by omega) [] (by simp) false
   have zK:=lC (st:=302+5 * m3) (by omega) [(([108,111,99,97,116,105,111,110]:List UInt8),loc)] [] (by simp)
   simp only[cF,zSh,zSn]at zK
   have pA:=eP ⟨hs,0,47::114::(bW m1++bW k),[],[],false,false⟩ hSf.fair (eH (302+5 * m3) [(([108,111,99,97,116,105,111,110]:List UInt8),loc)] [] false)
   have hAn:=hSf.Mn (raw:=eH (302+5 * m3) [(([108,111,99,97,116,105,111,110]:List UInt8),loc)] [] false) (by omega)
   unfold uc ac dj at pA
   simp only at pA
   try refine gA (zSa h0 (zSa h2 (zSa h4 (zSa h8 (zSa h7 (zSa Gm Bi)))))) ?_
   refine bG [(i,0,0),(b4.length,0,0)] uA pJ ?_
   refine gA (zSa h0 (zSa h2 (zSa h4 (zSa h8 (zSa h7 (zSa em (zSa Bn (ad Bn)))))))) ?_
   refine⟨by omega,by omega,by omega,bG [] r1 (fun _ _ _=>rfl) ?_⟩
   refine gA (zSa h0 (zSa h2 (zSa h4 (zSa h8 (zSa h7 (zSa Bn (ad Bn))))))) ?_
   have htl2:=(zSb.1 NB).1
   have hsT:∀ (l:List av) X,(nB++l).set bs.length X=nB.set bs.length X++l:=fun l X=>aO htl2 l X
   have z1:(b2.length=i)=False:=eq_false (by omega)
   have z2:(b4.length=i)=False:=eq_false (by omega)
   have z3:(b4.length=b2.length)=False:=eq_false (by omega)
   have z4:(b4.length=nB.length+1)=False:=eq_false (by omega)
   have z5:(b4.length=nB.length+2)=False:=eq_false (by omega)
   have z6:(nB.length=i)=False:=eq_false (by omega)
   have z7:(nB.length=b2.length)=False:=eq_false (by omega)
   have z8:(nB.length=nB.length+1)=False:=eq_false (by omega)
   have z9:(nB.length=nB.length+2)=False:=eq_false (by omega)
   have y1:(nB.length+1=i)=False:=eq_false (by omega)
   have y2:(nB.length+1=b2.length)=False:=eq_false (by omega)
   have y3:(nB.length+2=i)=False:=eq_false (by omega)
   have y4:(nB.length+2=b2.length)=False:=eq_false (by omega)
   have y5:(nB.length+2=nB.length+1)=False:=eq_false (by omega)
   rcases hO4 with⟨rfl,rfl⟩|⟨q,rfl,hq,JF,hbq0⟩
   ·(refine aY (pA) ?_;refine gA (zSa h0 (zSa h2 (zSa h4 (zSa h8 (zSa h7 (zSa Bn (zSa (ad Bn) (zSa (ad NB) hsT)))))))) ?_)
    refine⟨by omega,⟨by unfold maxLen;omega,by omega⟩,?_,by omega,⟨k+1,by omega,h0,h2,h4,rfl,(hKn.gT (zSu _) _).app _,⟨⟨hs,0,47::114::(bW m1++bW k),[],[],false,false⟩,.o (nB.length+2) 1,[(dj ⟨hs,0,47::114::(bW m1++bW k),[],[],false,false⟩ (eH (302+5 * m3) [(([108,111,99,97,116,105,111,110]:List UInt8),loc)] [] false))],_,rfl,cA htl2 _ _,hSf,(oK.ox NB (by omega) _).app _,.inr ⟨nB.length+2,rfl,by omega,by omega,aQ (by simp) _ 2⟩,by simp at hA;simp[← hA],fun a ha=>by rw[zSi.1 ha];exact hAn⟩⟩,?_⟩
    ·refine bO (fun n=>if n=i then 0 else if n=b2.length then 5 else if n=nB.length+1 then 3 else if n=nB.length+2 then 4 else 2) ?_
     simp only[zSy,List.map_nil,cW,eS,z1,z2,z3,z4,z5,z6,z7,z8,z9,y1,y2,y3,y4,y5,eq_self,if_true,if_false]
     exact aq (by kernel_rfl)
    ·rw[ao (k:=.i64) (n:=(k:Int)+1) rfl];omega
   ·have cE:=jI.at hbq0 JF
    have hql0:=(zSb.1 hbq0).1
    have kf:=(zSb.1 cE).1
    have nA:∀ (l:List av) X,(nB++l).set q X=nB.set q X++l:=fun l X=>aO kf l X
    have hnq:q≠b2.length:=by rintro rfl;rw[Bn]at cE;simp at cE
    have Bl:=fun Y=>ad (aw Bn hnq Y)
    have hsT2:∀ (l:List av) Y X,(nB.set q Y++l).set bs.length X=(nB.set q Y).set bs.length X++l:=fun l Y X=>aO (by simpa using htl2) l X
    have Em:=fun Y=>ad (aw NB (show q≠bs.length by omega) Y)
    have x1:(q=i)=False:=eq_false JF
    have x2:(q=b2.length)=False:=eq_false hnq
    have x3:(q=nB.length+1)=False:=eq_false (by omega)
    have x4:(q=nB.length+2)=False:=eq_false (by omega)
    have x5:(b4.length=q)=False:=eq_false (by omega)
    have x6:(nB.length=q)=False:=eq_false (by omega)
    (refine aY (pA) ?_;simp only[cz,↓Xn,↓Xo,↓Xg,↓Xd,↓Xe,↓Xf,Tryz.VΓ,Tryz.Γs,Xp,Xi,Nat.reduceAdd,Nat.reduceSub,Nat.reduceLT,Nat.reduceLeDiff,reduceIte,reduceCtorEq,Nat.reduceEqDiff,implies_true,forall_const,cw,eb,beq_self_eq_true,bne_self_eq_false,Int.reduceBEq,Int.reduceBNe,Int.reduceLT,Int.reduceLE,h0,h2,h4,h8,h7,Bn,ad Bn,ad cE,nA,Bl,Em,hsT2,zSg])
    refine⟨by omega,⟨by unfold maxLen;omega,by omega⟩,?_,by omega,⟨k+1,by omega,h0,h2,h4,rfl,((hKn.gT (by omega) _).gT (zSu _) _).app _,⟨⟨hs,0,47::114::(bW m1++bW k),[],[],false,false⟩,.o (nB.length+2) (A.length+1),A++[(dj ⟨hs,0,47::114::(bW m1++bW k),[],[],false,false⟩ (eH (302+5 * m3) [(([108,111,99,97,116,105,111,110]:List UInt8),loc)] [] false))],_,rfl,cA (by simpa using htl2) _ _,hSf,((oK.set JF cE _).ox (aw NB (by omega) _) (by omega) _).app _,.inr ⟨nB.length+2,by simp,by omega,by omega,?_⟩,by simp[hA],fun a ha=>?_⟩⟩,?_⟩
    ·refine bO (fun n=>if n=i then 0 else if n=b2.length then 5 else if n=nB.length+1 then 3 else if n=nB.length+2 then 4 else if n=q then 6 else 2) ?_
     simp only[zSy,List.map_nil,cW,eS,z1,z2,z3,z4,z5,z6,z7,z8,z9,y1,y2,y3,y4,y5,x1,x2,x3,x4,x5,x6,eq_self,if_true,if_false]
     exact aq (by kernel_rfl)
    ·rw[show ((nB.set q av.gone).set bs.length _++[_,_,_])[nB.length+2]? = some _ from aQ (by simp) _ 2,zSp,zSd]
     rfl
    ·rcases zSj.1 ha with ha|ha
     ·exact nF a ha
     ·rw[zSi.1 ha];exact hAn
    ·rw[ao (k:=.i64) (n:=(k:Int)+1) rfl];omega
 ·have bg:decide ((k:Int)<n)=false:=decide_eq_false (by omega)
  refine gA (zSa h0 (zSa h2 (zSa h4 (zSa h8 (zSa h7 (zSa bg Gc)))))) ?_
  have oI:=yk hS
  have pF:=fM to' hS.fair
  have pA:=eP ⟨[],0,[],[],[],false,false⟩ ⟨by decide,by decide,by decide⟩ (aX to')
  have hAn:ra (dj ⟨[],0,[],[],[],false,false⟩ (aX to')):=(Small.Hg (h:=[]) (p:=[]) (by simp)).Mn (by omega)
  unfold cQ at pF
  unfold uc ac dj at pA
  simp only at pA
  have JP:∀ a∈A++[dj ⟨[],0,[],[],[],false,false⟩ (aX to')],ra a:=fun a ha=>by
   rcases zSj.1 ha with ha|ha
   ·exact nF a ha
   ·rw[zSi.1 ha];exact hAn
  have Ho:k=n:=by omega
  (refine aa (pF) ?_;refine gA (zSa h0 (zSa h2 (zSa h4 (zSa h8 h7)))) ?_)
  (refine aa (pA) ?_;refine gA (zSa h0 (zSa h2 (zSa h4 (zSa h8 h7)))) ?_)
  rcases hO with⟨rfl,rfl⟩|⟨q,rfl,hq,JF,cE⟩
  ·refine gA (zSa h0 (zSa h2 (zSa h4 (zSa h8 h7)))) ?_
   exact⟨by omega,⟨by unfold maxLen;omega,by omega⟩,[dj ⟨[],0,[],[],[],false,false⟩ (aX to')],_,_,rfl,by simp at hA;simp;omega,(fun a ha=>by simp at ha;subst ha;simp only[dj];omega),by omega,aU _ _ 1,JP,hD.app _,hK.app _⟩
  ·have kf:=(zSb.1 cE).1
   have nA:∀ (l:List av) X,(b++l).set q X=b.set q X++l:=fun l X=>aO kf l X
   simp only[cz,↓Xn,↓Xo,↓Xg,↓Xd,↓Xe,↓Xf,Tryz.VΓ,Tryz.Γs,Xp,Xi,Nat.reduceAdd,Nat.reduceSub,Nat.reduceLT,Nat.reduceLeDiff,reduceIte,reduceCtorEq,Nat.reduceEqDiff,implies_true,forall_const,cw,eb,beq_self_eq_true,bne_self_eq_false,Int.reduceBEq,Int.reduceBNe,Int.reduceLT,Int.reduceLE,h0,h2,h4,h8,h7,ad cE,nA,zSg]
   refine⟨by omega,⟨by unfold maxLen;omega,by omega⟩,A++[dj ⟨[],0,[],[],[],false,false⟩ (aX to')],_,b.length+1,by simp,by simp;omega,(fun a ha=>by simp at ha;subst ha;simp only[dj];omega),by omega,?_,JP,(hD.set JF cE _).app _,(hK.gT (by omega) _).app _⟩
   rw[aQ (by simp),zSp,zSd]
   rfl
theorem jD {bs:List av}{i:Nat}{L:List Int}(h:aW bs i L)(u:bM)(hu:Small u)(raw:Bytes)(hr:raw.length≤3000000):SC Tryz.V 72 [.p i 0,.agg (uc u),.str raw] bs (fun r b=>∃ (A:List fK) (L':List Int) (q:Nat),r=.o q A.length∧0<A.length∧A.length≤10∧bs.length≤q∧b[q]? = some (.own (A.flatMap ac) 33 7 A.length true)∧(∀ a∈A,ra a)∧aW b i L'∧fI i bs b):=by
 have dF:i<bs.length:=by obtain⟨x,hi,-⟩:=h;exact(zSb.1 hi).1
 refine bo 3000 Tryz.func72 rfl Tryz.ntmps72 Tryz.results72 Tryz.call72 (by simp) (ah bs.length _ (by simp[within,within.ax,uc,dF])) ?_
 have pA:=eP u hu.fair raw
 have hAu:=hu.Mn hr
 unfold uc ac dj at pA
 simp only at pA
 unfold uc
 refine dV ?_
 refine ae (eA (h.app _) 3 (by omega)) ?_
 rintro r b ⟨v,L1,rfl,hv,hD,hk⟩
 have hK:=(fI.of (i:=i) ((Kp.refl bs).app _)).trans hk
 have hbu:=hk.at (aI bs _) (by omega)
 have w1:(v==0)=true∨(v==0)=false:=by cases v==0 <;> simp
 rcases w1 with w1|w1
 rotate_left
 refine gA (zSa w1 hbu) ?_
 (refine aa (pA) ?_;refine dV ?_)
 refine⟨by omega,[dj u raw],_,_,rfl,by simp,by simp,by have:=hK.1;omega,aI _ _,(fun a ha=>by rw[zSi.1 ha];exact hAu),hD.app _,hK.app _⟩
 refine gA w1 ?_
 refine ae (eA hD 7 (by omega)) ?_
 rintro r b2 ⟨m,L2,rfl,hm,Lt,bJ⟩
 have hK2:=hK.trans bJ
 have hbu2:=bJ.at hbu (by omega)
 have w2:(m==0)=true∨(m==0)=false:=by cases m==0 <;> simp
 rcases w2 with w2|w2
 refine gA (zSa w2 hbu2) ?_
 (refine aa (pA) ?_;refine dV ?_)
 refine⟨by omega,[dj u raw],_,_,rfl,by simp,by simp,by have:=hK2.1;omega,aI _ _,(fun a ha=>by rw[zSi.1 ha];exact hAu),Lt.app _,hK2.app _⟩
 have Mb:m≠0:=by simpa using w2
 have s1:=iB Lt [([97,46,101,120,97,109,112,108,101]:List UInt8),([101,46,101,120,97,109,112,108,101]:List UInt8)] (n:=2) (m:=20) rfl (by omega) (by decide) rfl
 refine gA w2 ?_
 refine⟨by omega,ae s1 ?_⟩
 rintro r b3 ⟨hs,L3,rfl,hhs,vY,eF⟩
 refine dV ?_
 refine ae (eA vY 9 (by omega)) ?_
 rintro r b4 ⟨v1,L4,rfl,hv1,Cm,mf⟩
 obtain⟨m1,rfl⟩:∃ m:Nat,v1=m:=⟨v1.toNat,by omega⟩
 have p1:=gG m1 (by omega)
 have d1:=cI 9 m1 (by omega)
 have rM:=(hK2.trans eF).trans mf
 have hbu4:=(eF.trans mf).at hbu2 (by omega)
 have hSe:Small ⟨hs,0,47::101::110::100::bW m1,[],[],false,false⟩:=Small.Hg (by simp;omega)
 refine dV ?_
 (refine aa (p1) ?_;refine dV ?_)
 obtain⟨k,cP⟩:∃ k:Nat,m - 1=k:=⟨(m - 1).toNat,by omega⟩
 have s2:=CT (Cm.app [.cells [.str hs,.int .i64 0,.str (47::101::110::100::bW m1),.str [],.str [],.bool false,.bool false] 35 true]) _ hSe k (by omega)
 unfold uc at s2
 simp only at s2
 refine gA cP ?_
 refine⟨by omega,by omega,ae s2 ?_⟩
 rintro r b5 ⟨A,L5,q,rfl,hA,lI,hq,cE,nF,r8,rK⟩
 obtain⟨A0,z,rfl⟩:∃ A0 z,A=A0++[z]:=by
  rcases List.eq_nil_or_concat A with h|⟨A0,z,h⟩
  ·rw[h]at hA;simp at hA
  ·exact⟨A0,z,by rw[h,List.concat_eq_append]⟩
 have Hk:=lI z (by simp)
 have mb:A0.length=k:=by simp at hA;exact hA
 have e0:(A0++[z]).length=A0.length+1:=by simp
 rw[e0]at cE
 have e1:(((A0.length+1:Nat):Int) - 1).toNat=A0.length:=by omega
 have l8:=ep A0
 have a3:((A0++[z]).flatMap ac)[A0.length * 7+3]? = some (.str z.raw):=by
  rw[zSp,← l8,List.getElem?_append_right (by omega),zSH]
  rfl
 have a4:zSz (A0.length * 7) ((A0++[z]).flatMap ac)=A0.flatMap ac:=by
  rw[zSp,← l8,List.take_left]
 have nE:=(rM.app _).trans rK
 have hbu5:=rK.at (ad hbu4 _) (by omega)
 have hbe5:=rK.at (aI b4 _) (by have:=rM.1;omega)
 have hbl4:=rM.1
 have hbl5:=nE.1
 have kf:=(zSb.1 cE).1
 have JF:q≠i:=by simp at hq;omega
 have L8:q≠bs.length:=by simp at hq;omega
 have hqe:q≠b4.length:=by simp at hq;omega
 have nA:∀ (l:List av) X,(b5++l).set q X=b5.set q X++l:=fun l X=>aO kf l X
 have Bm:∀ (l:List av) Y k,(b5.set q Y++l)[b5.length+k]? = l[k]? := fun l Y k=>aQ (by simp) l k
 have Bl:∀ (l:List av) Y,(b5.set q Y++l)[b5.length]? = l[0]? := fun l Y=>aQ (by simp) l 0
 have Em:∀ (l:List av) Y X,(b5.set q Y++l).set b5.length X=b5.set q Y++l.set 0 X:=fun l Y X=>by
  have:=n9 (b5.set q Y) l X
  rwa [zSg]at this
 have hg3:∀ (l:List av) Y k X,(b5.set q Y++l).set (b5.length+k) X=b5.set q Y++l.set k X:=fun l Y k X=>by
  have:=Ee (b5.set q Y) l k X
  rwa [zSg]at this
 have hu1:=fun Y=>ad (aw hbu5 L8 Y)
 have zE:=fun Y=>ad (aw hbe5 hqe Y)
 have pE:=eP ⟨hs,0,47::101::110::100::bW m1,[],[],false,false⟩ hSe.fair raw
 have II:=hSe.Mn hr
 unfold uc ac dj at pE
 simp only at pE
 simp only[cz,↓Xn,↓Xo,↓Xg,↓Xd,↓Xe,↓Xf,Tryz.VΓ,Tryz.Γs,Xp,Xi,Nat.reduceAdd,Nat.reduceSub,Nat.reduceLT,Nat.reduceLeDiff,reduceIte,reduceCtorEq,Nat.reduceEqDiff,implies_true,forall_const,cw,eb,beq_self_eq_true,bne_self_eq_false,Int.reduceBEq,Int.reduceBNe,Int.reduceLT,Int.reduceLE,e0,e1,cE,a3,a4,nA,zSg,hu1,zE]
 refine⟨by omega,by omega,by rw[ep];simp;omega,by omega,by omega,?_⟩
 have r1:=fun(B:List av) (j:Nat) (hB:B[j]? = some (.own [.str ([108,111,99,97,116,105,111,110]:List UInt8),.str z.raw] 100 2 1 true))=>e9 (bs:=B) (x:=.o j 1) (fs:=[(([108,111,99,97,116,105,111,110]:List UInt8),z.raw)]) (.inr ⟨j,true,rfl,by simp,hB⟩) (by simp) (by simp[cF];omega) 301 (by omega) [] (by simp) false
 have zK:=lC (st:=301) (by omega) [(([108,111,99,97,116,105,111,110]:List UInt8),z.raw)] [] (by simp)
 simp only[cF,zSh,zSn]at zK
 have pU:=eP u hu.fair (eH 301 [(([108,111,99,97,116,105,111,110]:List UInt8),z.raw)] [] false)
 have hAf:=hu.Mn (raw:=eH 301 [(([108,111,99,97,116,105,111,110]:List UInt8),z.raw)] [] false) (by omega)
 unfold uc ac dj at pU
 simp only at pU
 have IF:b5.length≠q:=by omega
 have z1:(b5.length=q)=False:=eq_false (by omega)
 have z2:(b4.length=q)=False:=eq_false (by omega)
 have z3:∀ k,(b5.length+k=q)=False:=fun k=>eq_false (by omega)
 have hb45:b4.length<b5.length:=(zSb.1 hbe5).1
 have z4:(b5.length=b4.length)=False:=eq_false (by omega)
 have z5:∀ k,(b5.length+k=b4.length)=False:=fun k=>eq_false (by omega)
 have z6:(bs.length=q)=False:=eq_false (by omega)
 have z8:∀ k,(b5.length+k=bs.length)=False:=fun k=>eq_false (by omega)
 (refine aY (pE) ?_;simp only[cz,↓Xn,↓Xo,↓Xg,↓Xd,↓Xe,↓Xf,Tryz.VΓ,Tryz.Γs,Xp,Xi,Nat.reduceAdd,Nat.reduceSub,Nat.reduceLT,Nat.reduceLeDiff,reduceIte,reduceCtorEq,Nat.reduceEqDiff,implies_true,forall_const,cw,eb,beq_self_eq_true,bne_self_eq_false,Int.reduceBEq,Int.reduceBNe,Int.reduceLT,Int.reduceLE,nA,zSg,hu1,zE,Bm,Bl,Em,hg3])
 refine⟨by omega,⟨by unfold maxLen;omega,by omega⟩,?_,by omega,?_⟩
 ·refine bO (fun n=>if n=q then 100 else if n=b4.length then 101 else n - b5.length) ?_
  simp only[zSy,List.map_nil,cW,eS,zSH,Nat.sub_self,z1,z2,z3,z4,z5,eq_self,if_true,if_false]
  exact aq (by kernel_rfl)
 refine bG [] (r1 _ (b5.length+3) (aQ (by simp) _ 3)) (fun _ _ _=>rfl) ?_
 simp only[cz,↓Xn,↓Xo,↓Xg,↓Xd,↓Xe,↓Xf,Tryz.VΓ,Tryz.Γs,Xp,Xi,Nat.reduceAdd,Nat.reduceSub,Nat.reduceLT,Nat.reduceLeDiff,reduceIte,reduceCtorEq,Nat.reduceEqDiff,implies_true,forall_const,cw,eb,beq_self_eq_true,bne_self_eq_false,Int.reduceBEq,Int.reduceBNe,Int.reduceLT,Int.reduceLE,nA,zSg,hu1,zE,Bm,Bl,Em,hg3]
 (refine aY (pU) ?_;simp only[cz,↓Xn,↓Xo,↓Xg,↓Xd,↓Xe,↓Xf,Tryz.VΓ,Tryz.Γs,Xp,Xi,Nat.reduceAdd,Nat.reduceSub,Nat.reduceLT,Nat.reduceLeDiff,reduceIte,reduceCtorEq,Nat.reduceEqDiff,implies_true,forall_const,cw,eb,beq_self_eq_true,bne_self_eq_false,Int.reduceBEq,Int.reduceBNe,Int.reduceLT,Int.reduceLE,nA,zSg,hu1,zE,Bm,Bl,Em,hg3])
 refine⟨by omega,⟨by unfold maxLen;omega,by omega⟩,?_,A0++[dj ⟨hs,0,47::101::110::100::bW m1,[],[],false,false⟩ raw]++[dj u (eH 301 [(([108,111,99,97,116,105,111,110]:List UInt8),z.raw)] [] false)],_,b5.length+5,by simp,by simp,by simp;omega,by omega,?_,fun a ha=>?_,(r8.set JF cE _).app _,(nE.gT (by simp at hq;omega) _).app _⟩
 ·refine bO (fun n=>if n=bs.length then 100 else n - b5.length) ?_
  simp only[zSy,List.map_nil,cW,eS,zSH,Nat.sub_self,z8,eq_self,if_true,if_false]
  exact aq (by kernel_rfl)
 ·rw[aQ (by simp)]
  simp[ac,dj]
 ·rcases zSj.1 ha with ha|ha
  ·rcases zSj.1 ha with ha|ha
   ·exact nF a (by simp[ha])
   ·rw[zSi.1 ha];exact II
  ·rw[zSi.1 ha];exact hAf
theorem Rs.Bc {b:List av}{x:SV}{L:List Bytes}(h:Rs b x L)(e:TypeId):oF (.slice e) x=some (.int .i64 L.length):=by
 rcases h with⟨rfl,rfl⟩|⟨j,rfl,-⟩ <;> rfl
theorem Ri.len {b:List av}{x:SV}{L:List Tv}(h:Ri b x L)(e:TypeId):oF (.slice e) x=some (.int .i64 L.length):=by
 rcases h with⟨rfl,rfl⟩|⟨j,rfl,-⟩ <;> rfl
theorem HS {bs:List av}{d:Nat}{v:Tv}(hv:Tr bs (d+1) v)(hd:1≤d)(key:Bytes):SC Tryz.V 196 [.agg (tv v),.str key] bs (fun r b=>∃ x ok,r=.eW [.agg (tv x),.bool ok]∧Kp bs b∧Tr b d x):=by
 obtain⟨e,rfl⟩:∃ e,d=e+1:=⟨d - 1,by omega⟩
 have Hm:=hv.nK
 obtain⟨v1,v2,v3,v4⟩:=Hm
 have ho:(one v.xk&&one v.xi)=true:=by rw[v3,v4];rfl
 obtain⟨g1,g2,K,L,g3,g4,g5,g6,g7,g8,g9,g10⟩:=hv
 refine bo 3000 Tryz.func196 rfl Tryz.ntmps196 Tryz.results196 Tryz.call196 (by simp) (ah bs.length _ (by simp[within,within.ax,tv,v1,v2])) ?_
 by_cases h7:v.k=7
 ·have hb7:(v.k != 7)=false:=by rw[h7];rfl
  have rY:=g3.Bc
  have rJ:=g4.len
  have hKL:=g8 h7
  unfold tv
  refine gA (zSa ho (zSa hb7 (zSa rY rJ))) ?_
  refine az (fun σ=>∃ k:Nat,k≤K.length∧lk 1 σ.t=some (.str key)∧lk 2 σ.t=some (.p bs.length 0)∧lk 4 σ.t=some (.p (bs.length+1) 0)∧lk 13 σ.t=some (.int .i64 K.length)∧lk 14 σ.t=some (.int .i64 k)∧σ.b=bs++[.cells [.int .i64 v.k,.str v.t,v.xk,v.xi] 139 true,.cells [.int .i64 0,.str [],.aj,.aj] 139 true]) (fun σ=>K.length - fX 14 σ) ⟨0,by omega,rfl,rfl,rfl,rfl,rfl,rfl⟩ ?_
  rintro⟨t,b⟩ ⟨k,hk,h1,h2,h4,gy,kN,hb⟩
  simp only at h1 h2 h4 gy kN hb
  subst hb
  rw[ao kN]
  by_cases aA:k<K.length
  ·have bg:decide ((k:Int)<K.length)=true:=decide_eq_true (by omega)
   rcases g3 with⟨-,rfl⟩|⟨j,jl,hj⟩
   ·exact absurd aA (by simp)
   rcases g4 with⟨-,rfl⟩|⟨q,jS,hq⟩
   ·exact absurd hKL (by simp;rintro rfl;simp at aA)
   have Gi:(K.map SV.str)[k * 1]? = some (.str K[k]):=by simp[aA]
   have hltL:k<L.length:=by omega
   have hlt3:decide ((k:Int)<L.length)=true:=decide_eq_true (by omega)
   have hu:zSz 4 (zSE (k * 4) (L.flatMap tv))=[.int .i64 L[k].k,.str L[k].t,L[k].xk,L[k].xi]:=wD L k hltL
   have oI:=oo L
   have hx:=g10 L[k] (zSk hltL)
   obtain⟨x1,x2,x3,x4⟩:=hx.nK
   have qG:(one L[k].xk&&one L[k].xi)=true:=by rw[x3,x4];rfl
   refine gA (zSa h1 (zSa h2 (zSa h4 (zSa gy (zSa kN (zSa bg (zSa hlt3 (zSa jl (zSa jS (zSa (ad hj) (zSa (ad hq) (zSa Gi (zSa hu (zSa qG (zSa rJ (zSa rY (zSa Bool.and_true Bool.and_self))))))))))))))))) ?_
   refine⟨by omega,by simp;omega,fun _=>⟨by omega,by omega,L[k],true,rfl,(Kp.refl bs).app _,hx.ro ((Ro.refl bs).app _)⟩,fun _=>⟨by omega,⟨k+1,by omega,rfl⟩,?_⟩⟩
   rw[ao (k:=.i64) (n:=(k:Int)+1) rfl];omega
  ·have bg:decide ((k:Int)<K.length)=false:=decide_eq_false (by omega)
   refine gA (zSa h1 (zSa h2 (zSa h4 (zSa gy (zSa kN bg))))) ?_
   exact⟨⟨0,[],.aj,.aj⟩,false,rfl,(Kp.refl bs).app _,Tr.zero _ _⟩
 ·have hb7:(v.k != 7)=true:=bne_iff_ne.2 h7
  unfold tv
  refine gA (zSa ho hb7) ?_
  exact⟨⟨0,[],.aj,.aj⟩,false,rfl,(Kp.refl bs).app _,Tr.zero _ _⟩
theorem Tr.ex {b:List av}{d:Nat}{v:Tv}(h:Tr b d v):∃ e,d=e+1:=by
 cases d with
 | zero=>exact h.elim
 | succ e=>exact⟨e,rfl⟩
theorem tL:∀ (d:Nat){bs:List av}{v:Tv},Tr bs d v→∀ depth:Int,0≤depth→depth≤64→SC Tryz.V 192 [.agg (tv v),.int .i64 depth] bs (fun r b=>∃ n:Nat,r=.int .i64 n∧n≤20001∧Kp bs b)
 | 0,_,_,h,_,_,_=>h.elim
 | d+1,bs,v,hv,depth,hd0,r6=>by
   have ih:=fun {bs:List av} {v:Tv} (h:Tr bs d v) (depth:Int) h0 h1=>tL d h depth h0 h1
   have Hm:=hv.nK
   obtain⟨v1,v2,v3,v4⟩:=Hm
   have ho:(one v.xk&&one v.xi)=true:=by rw[v3,v4];rfl
   obtain⟨g1,g2,K,L,g3,g4,g5,g6,g7,g8,g9,g10⟩:=hv
   refine bo 3000 Tryz.func192 rfl Tryz.ntmps192 Tryz.results192 Tryz.call192 (by simp) (ah bs.length _ (by simp[within,within.ax,tv,v1,v2])) ?_
   have rJ:=g4.len
   obtain⟨c,hc⟩:∃ c:Bool,c=(v.k==6||v.k==7):=⟨_,rfl⟩
   unfold tv
   have hk67:(v.k==6)=true∨(v.k==6)=false∧(v.k==7)=true∨(v.k==6)=false∧(v.k==7)=false:=by
    cases h6:v.k==6 <;> cases h7:v.k==7 <;> simp
   rcases hk67 with h6|⟨h6,h7⟩|⟨h6,h7⟩
   all_goals
    first|refine gA (zSa ho (zSa h6 (zSa h7 rJ))) ?_|refine gA (zSa ho (zSa h6 rJ)) ?_
    first|refine⟨by omega,fun hc=>⟨0,rfl,by omega,(Kp.refl bs).app _⟩,fun hc=>?_⟩|refine⟨fun hc=>⟨0,rfl,by omega,(Kp.refl bs).app _⟩,fun hc=>?_⟩
    have hc:=of_decide_eq_false hc
    refine az (fun σ=>∃ (k n:Nat) (inner:Int),k≤L.length∧n≤20000∧0≤inner∧inner≤64∧lk 5 σ.t=some (.int .i64 inner)∧lk 6 σ.t=some (.int .i64 n)∧lk 24 σ.t=some v.xi∧lk 25 σ.t=some (.int .i64 L.length)∧lk 26 σ.t=some (.int .i64 k)∧Kp bs σ.b) (fun σ=>L.length - fX 26 σ) ⟨0,1,_,by omega,by omega,?_,?_,rfl,rfl,rfl,rfl,rfl,(Kp.refl bs).app _⟩ ?_
    ·omega
    ·omega
    rintro⟨t,b⟩ ⟨k,n,inner,hk,hn,hi0,hi1,h5,h6,sd,ya,vc,bc⟩
    simp only at h5 h6 sd ya vc bc
    rw[ao vc]
    by_cases aA:k<L.length
    ·have bg:decide ((k:Int)<L.length)=true:=decide_eq_true (by omega)
     rcases g4 with⟨-,rfl⟩|⟨q,jS,hq⟩
     ·exact absurd aA (by simp)
     have cE:=bc.at hq
     have hu:zSz 4 (zSE (k * 4) (L.flatMap tv))=[.int .i64 L[k].k,.str L[k].t,L[k].xk,L[k].xi]:=wD L k aA
     have oI:=oo L
     have hx:=g10 L[k] (zSk aA)
     obtain⟨x1,x2,x3,x4⟩:=hx.nK
     have qG:(one L[k].xk&&one L[k].xi)=true:=by rw[x3,x4];rfl
     refine gA (zSa h5 (zSa h6 (zSa sd (zSa ya (zSa vc (zSa bg (zSa jS (zSa cE (zSa hu qG))))))))) ?_
     refine⟨by omega,by omega,ae (ih (hx.ro (bc.ro.app _)) inner hi0 hi1) ?_⟩
     rintro r b1 ⟨m,rfl,hm,jK⟩
     have fg:=(bc.app [_]).trans jK
     refine gA (zSa h5 (zSa h6 (zSa sd (zSa ya vc)))) ?_
     refine⟨fun _=>⟨0,rfl,by omega,fg⟩,fun _=>⟨by omega,fun _=>⟨20001,rfl,by omega,fg⟩,fun mg=>⟨by omega,⟨k+1,n+m,inner,by omega,by have:=of_decide_eq_false mg;omega,hi0,hi1,rfl,rfl,jS,rfl,fg⟩,?_⟩⟩⟩
     rw[ao (k:=.i64) (n:=(k:Int)+1) rfl];omega
    ·have bg:decide ((k:Int)<L.length)=false:=decide_eq_false (by omega)
     refine gA (zSa h5 (zSa h6 (zSa sd (zSa ya (zSa vc bg))))) ?_
     exact⟨n,rfl,by omega,bc⟩
theorem wK:∀ (d:Nat){bs:List av}{v:Tv},Tr bs d v→SC Tryz.V 133 [.agg (tv v)] bs (fun r b=>∃ x,r=.bool x∧Kp bs b)
 | 0,_,_,h=>h.elim
 | d+1,bs,v,hv=>by
   have ih:=fun {bs:List av} {v:Tv} (h:Tr bs d v)=>wK d h
   have Hm:=hv.nK
   obtain⟨v1,v2,v3,v4⟩:=Hm
   have ho:(one v.xk&&one v.xi)=true:=by rw[v3,v4];rfl
   obtain⟨g1,g2,K,L,g3,g4,g5,g6,g7,g8,g9,g10⟩:=hv
   refine bo 3000 Tryz.func133 rfl Tryz.ntmps133 Tryz.results133 Tryz.call133 (by simp) (ah bs.length _ (by simp[within,within.ax,tv,v1,v2])) ?_
   have rJ:=g4.len
   have rY:=g3.Bc
   unfold tv
   refine gA (zSa ho (zSa rJ rY)) ?_
   refine az (fun σ=>∃ (k n:Nat),k≤K.length∧n≤20000+20000 * k∧lk 1 σ.t=some (.p bs.length 0)∧lk 3 σ.t=some (.int .i64 n)∧lk 12 σ.t=some v.xk∧lk 13 σ.t=some (.int .i64 K.length)∧lk 14 σ.t=some (.int .i64 k)∧σ.b=bs++[.cells [.int .i64 v.k,.str v.t,v.xk,v.xi] 139 true]) (fun σ=>K.length - fX 14 σ) ⟨0,v.t.length,by omega,by omega,rfl,rfl,rfl,rfl,rfl,rfl⟩ ?_
   rintro⟨t,b⟩ ⟨k,n,hk,hn,h1,h3,iN,gy,kN,hb⟩
   simp only at h1 h3 iN gy kN hb
   subst hb
   rw[ao kN]
   by_cases aA:k<K.length
   ·have bg:decide ((k:Int)<K.length)=true:=decide_eq_true (by omega)
    rcases g3 with⟨-,rfl⟩|⟨j,jl,hj⟩
    ·exact absurd aA (by simp)
    have Gi:(K.map SV.str)[k * 1]? = some (.str K[k]):=by simp[aA]
    have x9:=g7 K[k] (zSk aA)
    refine gA (zSa h1 (zSa h3 (zSa iN (zSa gy (zSa kN (zSa bg (zSa jl (zSa (ad hj) Gi)))))))) ?_
    refine⟨by omega,by simp;omega,by omega,by omega,⟨k+1,n+K[k].length,by omega,by omega,rfl,rfl⟩,?_⟩
    rw[ao (k:=.i64) (n:=(k:Int)+1) rfl];omega
   ·have bg:decide ((k:Int)<K.length)=false:=decide_eq_false (by omega)
    refine gA (zSa h1 (zSa h3 (zSa iN (zSa gy (zSa kN (zSa bg rJ)))))) ?_
    refine⟨fun _=>⟨_,rfl,(Kp.refl bs).app _⟩,fun _=>?_⟩
    refine az (fun σ=>∃ (k:Nat),k≤L.length∧lk 26 σ.t=some v.xi∧lk 27 σ.t=some (.int .i64 L.length)∧lk 28 σ.t=some (.int .i64 k)∧Kp bs σ.b) (fun σ=>L.length - fX 28 σ) ⟨0,by omega,rfl,rfl,rfl,(Kp.refl bs).app _⟩ ?_
    rintro⟨t,b⟩ ⟨k,hk,sd,ya,vc,bc⟩
    simp only at sd ya vc bc
    rw[ao vc]
    by_cases aA:k<L.length
    ·have bg:decide ((k:Int)<L.length)=true:=decide_eq_true (by omega)
     rcases g4 with⟨-,rfl⟩|⟨q,jS,hq⟩
     ·exact absurd aA (by simp)
     have cE:=bc.at hq
     have hu:zSz 4 (zSE (k * 4) (L.flatMap tv))=[.int .i64 L[k].k,.str L[k].t,L[k].xk,L[k].xi]:=wD L k aA
     have oI:=oo L
     have hx:=g10 L[k] (zSk aA)
     obtain⟨x1,x2,x3,x4⟩:=hx.nK
     have qG:(one L[k].xk&&one L[k].xi)=true:=by rw[x3,x4];rfl
     refine gA (zSa sd (zSa ya (zSa vc (zSa bg (zSa jS (zSa cE (zSa hu qG))))))) ?_
     refine⟨by omega,by omega,ae (ih (hx.ro (bc.ro.app _))) ?_⟩
     rintro r b1 ⟨m,rfl,jK⟩
     have fg:=(bc.app [_]).trans jK
     refine gA (zSa sd (zSa ya vc)) ?_
     refine⟨fun _=>⟨_,rfl,fg⟩,fun _=>⟨by omega,⟨k+1,by omega,jS,rfl,fg⟩,?_⟩⟩
     rw[ao (k:=.i64) (n:=(k:Int)+1) rfl];omega
    ·have bg:decide ((k:Int)<L.length)=false:=decide_eq_false (by omega)
     refine gA (zSa sd (zSa ya (zSa vc bg))) ?_
     exact⟨_,rfl,bc⟩
def Le (M:Nat)(L:List Bytes):Prop:=∀ s∈L,s.length≤M
def Ni (i:Nat)(σ:St):Nat:=match lk i σ.t with
 | some (.o _ n)=>n
 | _=>0
theorem Rs.Ni {b:List av}{x:SV}{L:List Bytes}(h:Rs b x L){i:Nat}{σ:St}(hx:lk i σ.t=some x):Ni i σ=L.length:=by
 unfold Go.Proofs.YtnmlimehgifadaaGreatDoor.Ni
 rw[hx]
 rcases h with⟨rfl,rfl⟩|⟨j,rfl,-⟩ <;> rfl
theorem fF {b:List av}{j:Nat}{X:av}(h:b[j]? = some X):b.set j X=b:=by
 apply List.ext_getElem?
 intro q
 rw[List.getElem?_set]
 split
 ·rename_i hq
  subst hq
  rw[if_pos (zSb.1 h).1]
  exact h.symm
 ·rfl
theorem Rs.src {b:List av}{x:SV}{L:List Bytes}(h:Rs b x L):rC b 1 x=some (L.length,L.map SV.str):=by
 rcases h with⟨rfl,rfl⟩|⟨j,rfl,h⟩
 ·rfl
 ·simp[rC,h]
theorem xO (L:List Bytes):(L.map SV.str).all Vc.one=true:=by
 induction L with
 | nil=>rfl
 | cons x r ih=>simpa[Vc.one] using ih
theorem Le.app {M:Nat}{A B:List Bytes}(h:Le M A)(k:Le M B):Le M (A++B):=fun s hs=>by
 rcases zSj.1 hs with h1|h1
 ·exact h s h1
 ·exact k s h1
def wx (bs:List av)(M n:Nat)(σ:St)(m:Nat):Prop:=∃ (x y o:SV) (A B O:List Bytes),lk 3 σ.t=some x∧lk 4 σ.t=some y∧lk 5 σ.t=some o∧Rs σ.b x A∧Rs σ.b y B∧Le M A∧Le M B∧Le M O∧A.length+B.length+O.length=n∧A.length+B.length=m∧Kp bs σ.b∧((o=.aj∧O=[])∨∃ q,o=.o q O.length∧bs.length≤q∧σ.b[q]? = some (.own (O.map SV.str) 9 1 O.length true))
theorem wx.mu {bs:List av}{M n m:Nat}{σ:St}(h:wx bs M n σ m):Ni 3 σ+Ni 4 σ=m:=by
 obtain⟨x,y,o,A,B,O,h3,h4,h5,hA,hB,-,-,-,-,hm,-⟩:=h
 rw[hA.Ni h3,hB.Ni h4,hm]
theorem wx.left {bs b:List av}{M n:Nat}{t:List (Nat × SV)}{A B O:List Bytes}(mb:0<A.length){qa qo:Nat}{y:SV}(h3:lk 3 t=some (.o qa (A.length - zSJ 1)))(h4:lk 4 t=some y)(h5:lk 5 t=some (.o qo (O.length+1)))(ha:b[qa]? = some (.own (A.tail.map SV.str) 9 1 (A.length - zSJ 1) false))(hB:Rs b y B)
 (ho:b[qo]? = some (.own (O.map SV.str++[.str (A[0]'mb)]) 9 1 (O.length+1) true)) (hq:bs.length≤qo) (lA:Le M A) (lB:Le M B) (lO:Le M O) (cF:A.length+B.length+O.length=n) (bc:Kp bs b):∃ m,m<A.length+B.length∧wx bs M n ⟨t,b⟩ m:=by
 have e1:zSJ 1=1:=rfl
 rw[e1]at h3 ha
 have et:A.tail.length=A.length - 1:=List.length_tail ..
 have eo:(O++[A[0]'mb]).length=O.length+1:=by simp
 refine⟨A.length - 1+B.length,by omega,_,y,_,A.tail,B,O++[A[0]'mb],h3,h4,h5,.inr ⟨qa,by rw[et],by rw[et];exact ha⟩,hB,fun s hs=>lA s (List.mem_of_mem_tail hs),lB,lO.app (fun s hs=>?_),by rw[et,eo];omega,by rw[et],bc,.inr ⟨qo,by rw[eo],hq,?_⟩⟩
 ·rw[zSi.1 hs]
  exact lA _ (zSk mb)
 ·rw[eo]
  simpa using ho
theorem wx.right {bs b:List av}{M n:Nat}{t:List (Nat × SV)}{A B O:List Bytes}(l9:0<B.length){qa qo:Nat}{x:SV}(h3:lk 3 t=some x)(h4:lk 4 t=some (.o qa (B.length - zSJ 1)))(h5:lk 5 t=some (.o qo (O.length+1)))(ha:b[qa]? = some (.own (B.tail.map SV.str) 9 1 (B.length - zSJ 1) false))(hA:Rs b x A)
 (ho:b[qo]? = some (.own (O.map SV.str++[.str (B[0]'l9)]) 9 1 (O.length+1) true)) (hq:bs.length≤qo) (lA:Le M A) (lB:Le M B) (lO:Le M O) (cF:A.length+B.length+O.length=n) (bc:Kp bs b):∃ m,m<A.length+B.length∧wx bs M n ⟨t,b⟩ m:=by
 have e1:zSJ 1=1:=rfl
 rw[e1]at h4 ha
 have et:B.tail.length=B.length - 1:=List.length_tail ..
 have eo:(O++[B[0]'l9]).length=O.length+1:=by simp
 refine⟨A.length+(B.length - 1),by omega,x,_,_,A,B.tail,O++[B[0]'l9],h3,h4,h5,hA,.inr ⟨qa,by rw[et],by rw[et];exact ha⟩,lA,fun s hs=>lB s (List.mem_of_mem_tail hs),lO.app (fun s hs=>?_),by rw[et,eo];omega,by rw[et],bc,.inr ⟨qo,by rw[eo],hq,?_⟩⟩
 ·rw[zSi.1 hs]
  exact lB _ (zSk l9)
 ·rw[eo]
  simpa using ho
theorem Ol (x:Nat)(hx:x≤9223372036854775807):kP .quo .i64 (x:Int) 2=((x / 2:Nat):Int):=by
 have h:kP .quo .i64 (x:Int) 2=IntKind.i64.wrap (Int.tdiv x ((2:Nat):Int)):=rfl
 have h2:Int.tdiv (x:Int) ((2:Nat):Int)=((x / 2:Nat):Int):=by
  first
  | exact(Int.ofNat_tdiv x 2).symm
  | exact Int.ofNat_tdiv x 2
  | (rw[Int.tdiv_eq_ediv_of_nonneg (by omega)];omega)
 have h3:x / 2≤x:=Nat.div_le_self x 2
 rw[h,h2]
 generalize x / 2=z at h3 ⊢
 simp[IntKind.wrap,IntKind.bits,IntKind.signed]
 omega
def ME:OT:=.cH 0 (.cH 1 (.cH 2 (.cH 3 (.cH 6 (.cH 7 (.cH 8 (.cH 9 (.alt (.one 4 (.alt (.one 5 (.one 10 (.one 11 (.one 12 (.one 13 .leaf))))) (.one 10 (.one 5 (.one 11 (.one 12 (.one 13 .leaf))))))) (.one 10 (.one 4 (.one 5 (.one 11 (.one 12 (.one 13 .leaf))))))))))))))
def vo:OT:=.cH 0 (.cH 1 (.cH 6 (.alt (.one 2 (.alt (.one 3 (.alt (.one 4 (.alt (.one 5 (.alt (.one 8 (.one 7 (.one 9 .leaf))) (.one 7 (.one 8 (.one 9 .leaf))))) (.one 7 (.one 5 (.one 8 (.one 9 .leaf)))))) (.one 7 (.one 4 (.one 5 (.one 8 (.one 9 .leaf))))))) (.one 7 (.one 3 (.one 4 (.one 5 (.one 8 (.one 9 .leaf)))))))) (.one 7 (.one 2 (.one 3 (.one 4 (.one 5 (.one 8 (.one 9 .leaf))))))))))
theorem mY (M:Nat)(hM:M≤1000000):∀ (n:Nat){bs:List av}{x:SV}{L:List Bytes},Rs bs x L→L.length≤n→n≤1000→Le M L→SC Tryz.V 195 [x] bs (fun r b=>∃ L',Rs b r L'∧L'.length=L.length∧Le M L'∧Kp bs b)
 | 0,bs,x,L,hx,hn,_,hL=>by
   refine SC.th ?_
   have zD:=hx.within
   have od:=hx.Bc
   obtain rfl:=zSr.1 (Nat.le_zero.1 hn)
   refine sC (fun _=>.ord []) 3000 Tryz.func195 rfl Tryz.ntmps195 Tryz.results195 Tryz.call195 (by simp) (ah bs.length _ (by simp[within,within.ax,zD])) ?_
   have e2:decide (((0:Nat):Int)<2)=true:=rfl
   simp only[cz,↓Xn,↓Xo,↓Xg,↓Xd,↓Xe,↓Xf,Tryz.VΓ,Tryz.Γs,Xp,Xi,Nat.reduceAdd,Nat.reduceSub,Nat.reduceLT,Nat.reduceLeDiff,reduceIte,reduceCtorEq,Nat.reduceEqDiff,implies_true,forall_const,cw,eb,beq_self_eq_true,bne_self_eq_false,Int.reduceBEq,Int.reduceBNe,Int.reduceLT,Int.reduceLE,od,zSn,e2]
   exact⟨by omega,[],hx.ro (gI (zSu _)).ro,rfl,hL,(Kp.refl bs).hZ⟩
 | n+1,bs,x,L,hx,hn,oK,hL=>by
   have ih:=fun {bs:List av} {x:SV} {L:List Bytes} (h:Rs bs x L) (hl:L.length≤n) (hm:Le M L)=>mY M hM n h hl (by omega) hm
   refine SC.th ?_
   have zD:=hx.within
   have od:=hx.Bc
   refine sC (fun n=>if n=3 then .all ME else if n=7 then .all vo else if n=8 then .all vo else .ord []) 3000 Tryz.func195 rfl Tryz.ntmps195 Tryz.results195 Tryz.call195 (by simp) (ah bs.length _ (by simp[within,within.ax,zD])) ?_
   by_cases h2:L.length<2
   ·have e2:decide ((L.length:Int)<2)=true:=decide_eq_true (by omega)
    refine gA (zSa od e2) ?_
    exact⟨by omega,L,hx.ro (gI (zSu _)).ro,rfl,hL,(Kp.refl bs).hZ⟩
   ·have e2:decide ((L.length:Int)<2)=false:=decide_eq_false (by omega)
    rcases hx with⟨rfl,rfl⟩|⟨j,rfl,hj⟩
    ·exact absurd h2 (by simp)
    have gw:=(zSb.1 hj).1
    have hq:kP .quo .i64 (L.length:Int) 2=((L.length / 2:Nat):Int):=Ol _ (by omega)
    have e3:zSz (L.length / 2 * 1) (L.map SV.str)=(L.take (L.length / 2)).map SV.str:=by rw[Nat.mul_one,List.map_take]
    have e4:zSE (L.length / 2 * 1) (zSz (L.length * 1) (L.map SV.str))=(L.drop (L.length / 2)).map SV.str:=by rw[Nat.mul_one,Nat.mul_one,zSK (by simp),List.map_drop]
    have f1:(L.take (L.length / 2)).length=L.length / 2:=by rw[List.length_take];omega
    have f2:(L.drop (L.length / 2)).length=L.length - L.length / 2:=by rw[List.length_drop]
    have r1:∀ (b:List av) (q:Nat),b[q]? = some (.own ((L.take (L.length / 2)).map SV.str) 9 1 (L.length / 2) false)→Rs b (.o q (L.length / 2)) (L.take (L.length / 2)):=fun b q h=>.inr ⟨q,by rw[f1],by rw[f1];exact h⟩
    have r2:∀ (b:List av) (q:Nat),b[q]? = some (.own ((L.drop (L.length / 2)).map SV.str) 9 1 (L.length - L.length / 2) false)→Rs b (.o q (L.length - L.length / 2)) (L.drop (L.length / 2)):=fun b q h=>.inr ⟨q,by rw[f2],by rw[f2];exact h⟩
    have l1:Le M (L.take (L.length / 2)):=fun s hs=>hL s (List.mem_of_mem_take hs)
    have l2:Le M (L.drop (L.length / 2)):=fun s hs=>hL s (List.mem_of_mem_drop hs)
    refine gA e2 ?_
    refine tS (fun σ=>∃ (x y:SV) (A B:List Bytes),lk 3 σ.t=some x∧lk 4 σ.t=some y∧Rs σ.b x A∧Rs σ.b y B∧Le M A∧Le M B∧A.length+B.length=L.length∧Kp bs σ.b) (by kernel_rfl) ?_ ?_
    ·simp only[cz,↓Xn,↓Xo,↓Xg,↓Xd,↓Xe,↓Xf,Tryz.VΓ,Tryz.Γs,Xp,Xi,Nat.reduceAdd,Nat.reduceSub,Nat.reduceLT,Nat.reduceLeDiff,reduceIte,reduceCtorEq,Nat.reduceEqDiff,implies_true,forall_const,cw,eb,beq_self_eq_true,bne_self_eq_false,Int.reduceBEq,Int.reduceBNe,Int.reduceLT,Int.reduceLE,ME,hq,hj,ad hj,fF hj,fF (ad hj _),e3,e4]
     refine⟨by omega,by omega,⟨by omega,?_,?_⟩,?_⟩
     ·refine ae (ih (r1 _ _ (aI _ _)) (by omega) l1) ?_
      rintro x1 b1 ⟨A,hA,JP,lA,cP⟩
      have hbj1:=cP.at (ad hj _)
      have jK:=((Kp.refl bs).app _).trans cP
      refine gA (zSa hq (zSa hbj1 (zSa (fF hbj1) e4))) ?_
      refine⟨by omega,ae (ih (r2 _ _ (aI _ _)) (by omega) l2) ?_⟩
      rintro y1 b2 ⟨B,hB,Lu,lB,bJ⟩
      refine dV ?_
      exact⟨x1,y1,A,B,rfl,rfl,hA.ro ((Ro.refl _).app _ |>.trans bJ.ro),hB,lA,lB,by omega,(jK.app _).trans bJ⟩
     ·refine⟨by omega,ae (ih (r1 _ _ (aI _ _)) (by omega) l1) ?_⟩
      rintro x1 b1 ⟨A,hA,JP,lA,cP⟩
      have jK:=((Kp.refl bs).app _).trans cP
      refine dV ?_
      refine ae (ih (r2 _ _ (cP.at (aU _ _ 1))) (by omega) l2) ?_
      rintro y1 b2 ⟨B,hB,Lu,lB,bJ⟩
      refine dV ?_
      exact⟨x1,y1,A,B,rfl,rfl,hA.ro bJ.ro,hB,lA,lB,by omega,jK.trans bJ⟩
     ·refine⟨by omega,by omega,ae (ih (r1 _ _ (aU _ _ 1)) (by omega) l1) ?_⟩
      rintro x1 b1 ⟨A,hA,JP,lA,cP⟩
      have jK:=((Kp.refl bs).app _).trans cP
      refine dV ?_
      refine ae (ih (r2 _ _ (cP.at (aI _ _))) (by omega) l2) ?_
      rintro y1 b2 ⟨B,hB,Lu,lB,bJ⟩
      refine dV ?_
      exact⟨x1,y1,A,B,rfl,rfl,hA.ro bJ.ro,hB,lA,lB,by omega,jK.trans bJ⟩
    ·rintro⟨t,b⟩ ⟨x,y,A,B,h3,h4,hA,hB,lA,lB,nF,bc⟩
     simp only at h3 h4 hA hB bc
     refine gA (zSa h3 h4) ?_
     refine az (fun σ=>∃ m,wx bs M L.length σ m) (fun σ=>Ni 3 σ+Ni 4 σ) ⟨_,x,y,.aj,A,B,[],h3,h4,rfl,hA,hB,lA,lB,(by intro s hs;cases hs),(by simpa using nF),rfl,bc,.inl ⟨rfl,rfl⟩⟩ ?_
     clear h3 h4 hA hB lA lB nF bc t b x y A B
     rintro⟨t,b⟩ ⟨m,x,y,o,A,B,O,h3,h4,h5,hA,hB,lA,lB,lO,cF,hm,bc,ho⟩
     simp only at h3 h4 h5 hA hB bc ho
     rw[hA.Ni h3,hB.Ni h4]
     have JP:=hA.Bc
     have Lu:=hB.Bc
     by_cases mb:0<A.length
     ·by_cases l9:0<B.length
      ·have c1:decide ((0:Int)<A.length)=true:=decide_eq_true (by omega)
       have c2:decide ((0:Int)<B.length)=true:=decide_eq_true (by omega)
       have hAA:=hA
       have hBB:=hB
       rcases hA with⟨rfl,rfl⟩|⟨ja,rfl,Mf⟩
       ·exact absurd mb (by simp)
       rcases hB with⟨rfl,rfl⟩|⟨jb,rfl,Me⟩
       ·exact absurd l9 (by simp)
       have a0:(A.map SV.str)[zSJ 0 * 1]? = some (.str (A[0]'mb)):=by simp[mb]
       have b0:(B.map SV.str)[zSJ 0 * 1]? = some (.str (B[0]'l9)):=by simp[l9]
       refine gA (zSa h3 (zSa h4 (zSa h5 (zSa JP (zSa Lu (zSa c1 (zSa c2 (zSa Mf (zSa Me (zSa a0 b0)))))))))) ?_
       have a1:zSE (zSJ 1 * 1) (zSz (A.length * 1) (A.map SV.str))=A.tail.map SV.str:=by rw[Nat.mul_one,zSK (by simp)];simp
       have b1:zSE (zSJ 1 * 1) (zSz (B.length * 1) (B.map SV.str))=B.tail.map SV.str:=by rw[Nat.mul_one,zSK (by simp)];simp
       refine⟨by omega,by simp;omega,by omega,by simp;omega,?_,fun _=>?_,fun _=>?_⟩
       ·refine bO (fun _=>0) ?_
        simp only[zSy,List.map_nil,cW,eS]
        exact aq (by kernel_rfl)
       ·refine tS (fun σ=>∃ m,m<A.length+B.length∧wx bs M L.length σ m) (by kernel_rfl) ?_ ?_
        ·have x9:=bc.1
         rcases ho with⟨rfl,rfl⟩|⟨q,rfl,hq,cE⟩
         ·simp only[cz,↓Xn,↓Xo,↓Xg,↓Xd,↓Xe,↓Xf,Tryz.VΓ,Tryz.Γs,Xp,Xi,Nat.reduceAdd,Nat.reduceSub,Nat.reduceLT,Nat.reduceLeDiff,reduceIte,reduceCtorEq,Nat.reduceEqDiff,implies_true,forall_const,cw,eb,beq_self_eq_true,bne_self_eq_false,Int.reduceBEq,Int.reduceBNe,Int.reduceLT,Int.reduceLE,vo,h3,h4,h5,Mf,ad Mf,fF Mf,fF (ad Mf _),a0,a1]
          repeat' apply zSa
          all_goals first
           | omega
           | (unfold maxLen;omega)
           | (simp;omega)
           | exact wx.left (O:=[]) mb rfl h4 rfl (by first | exact aI _ _ | exact aU _ _ 1 | exact aU _ _ 2) (hBB.ro ((Ro.refl b).app _)) (by first | exact aI _ _ | exact aU _ _ 1 | exact aU _ _ 2) (by omega) lA lB lO cF (bc.app _)
         ·have kf:=(zSb.1 cE).1
          have nA:∀ (l:List av) X,(b++l).set q X=b.set q X++l:=fun l X=>aO kf l X
          have hnq:q≠ja:=by rintro rfl;rw[cE]at Mf;simp at Mf
          have gm:=aw Mf hnq .gone
          simp only[cz,↓Xn,↓Xo,↓Xg,↓Xd,↓Xe,↓Xf,Tryz.VΓ,Tryz.Γs,Xp,Xi,Nat.reduceAdd,Nat.reduceSub,Nat.reduceLT,Nat.reduceLeDiff,reduceIte,reduceCtorEq,Nat.reduceEqDiff,implies_true,forall_const,cw,eb,beq_self_eq_true,bne_self_eq_false,Int.reduceBEq,Int.reduceBNe,Int.reduceLT,Int.reduceLE,vo,h3,h4,h5,cE,ad cE,Mf,ad Mf,fF Mf,fF (ad Mf _),ad gm,fF (ad gm _),nA,zSg,a0,a1]
          repeat' apply zSa
          all_goals first
           | omega
           | (unfold maxLen;omega)
           | (simp;omega)
           | exact wx.left mb rfl h4 rfl (by first | exact aQ (by simp) _ 0 | exact aQ (by simp) _ 1 | exact aQ (by simp) _ 2) (hBB.ro (((Ro.refl b).rD cE _).app _)) (by first | exact aQ (by simp) _ 0 | exact aQ (by simp) _ 1 | exact aQ (by simp) _ 2) (by omega) lA lB lO cF ((bc.set hq _).app _)
        ·rintro σ ⟨m,hm,hi⟩
         refine dV ?_
         exact⟨⟨m,hi⟩,by rw[hi.mu];exact hm⟩
       ·refine tS (fun σ=>∃ m,m<A.length+B.length∧wx bs M L.length σ m) (by kernel_rfl) ?_ ?_
        ·have x9:=bc.1
         rcases ho with⟨rfl,rfl⟩|⟨q,rfl,hq,cE⟩
         ·simp only[cz,↓Xn,↓Xo,↓Xg,↓Xd,↓Xe,↓Xf,Tryz.VΓ,Tryz.Γs,Xp,Xi,Nat.reduceAdd,Nat.reduceSub,Nat.reduceLT,Nat.reduceLeDiff,reduceIte,reduceCtorEq,Nat.reduceEqDiff,implies_true,forall_const,cw,eb,beq_self_eq_true,bne_self_eq_false,Int.reduceBEq,Int.reduceBNe,Int.reduceLT,Int.reduceLE,vo,h3,h4,h5,Me,ad Me,fF Me,fF (ad Me _),b0,b1]
          repeat' apply zSa
          all_goals first
           | omega
           | (unfold maxLen;omega)
           | (simp;omega)
           | exact wx.right (O:=[]) l9 h3 rfl rfl (by first | exact aI _ _ | exact aU _ _ 1 | exact aU _ _ 2) (hAA.ro ((Ro.refl b).app _)) (by first | exact aI _ _ | exact aU _ _ 1 | exact aU _ _ 2) (by omega) lA lB lO cF (bc.app _)
         ·have kf:=(zSb.1 cE).1
          have nA:∀ (l:List av) X,(b++l).set q X=b.set q X++l:=fun l X=>aO kf l X
          have hnq:q≠jb:=by rintro rfl;rw[cE]at Me;simp at Me
          have gm:=aw Me hnq .gone
          simp only[cz,↓Xn,↓Xo,↓Xg,↓Xd,↓Xe,↓Xf,Tryz.VΓ,Tryz.Γs,Xp,Xi,Nat.reduceAdd,Nat.reduceSub,Nat.reduceLT,Nat.reduceLeDiff,reduceIte,reduceCtorEq,Nat.reduceEqDiff,implies_true,forall_const,cw,eb,beq_self_eq_true,bne_self_eq_false,Int.reduceBEq,Int.reduceBNe,Int.reduceLT,Int.reduceLE,vo,h3,h4,h5,cE,ad cE,Me,ad Me,fF Me,fF (ad Me _),ad gm,fF (ad gm _),nA,zSg,b0,b1]
          repeat' apply zSa
          all_goals first
           | omega
           | (unfold maxLen;omega)
           | (simp;omega)
           | exact wx.right l9 h3 rfl rfl (by first | exact aQ (by simp) _ 0 | exact aQ (by simp) _ 1 | exact aQ (by simp) _ 2) (hAA.ro (((Ro.refl b).rD cE _).app _)) (by first | exact aQ (by simp) _ 0 | exact aQ (by simp) _ 1 | exact aQ (by simp) _ 2) (by omega) lA lB lO cF ((bc.set hq _).app _)
        ·rintro σ ⟨m,hm,hi⟩
         refine dV ?_
         exact⟨⟨m,hi⟩,by rw[hi.mu];exact hm⟩
      ·have c1:decide ((0:Int)<A.length)=true:=decide_eq_true (by omega)
       have c2:decide ((0:Int)<B.length)=false:=decide_eq_false (by omega)
       have sx:=hA.src
       have os:=xO A
       have ot:=xO B
       rcases ho with⟨rfl,rfl⟩|⟨q,rfl,hq,cE⟩
       ·have sy:=fun X=>(hB.ro ((Ro.refl b).app X)).src
        refine gA (zSa h3 (zSa h4 (zSa h5 (zSa JP (zSa Lu (zSa c1 (zSa c2 (zSa sx (zSa sy (zSa os ot)))))))))) ?_
        have x9:=bc.1
        refine⟨⟨by unfold maxLen;omega,by omega⟩,⟨by unfold maxLen;omega,by omega⟩,by omega,A++B,.inr ⟨b.length+1,by rw[zSd],?_⟩,by rw[zSd];simpa using cF,Le.app lA lB,(bc.app _).hZ⟩
        have:=iy (lo:=bs.length) (k:=b.length+1) (by omega) (r:=.own (A.map SV.str++B.map SV.str) 9 1 (A.length+B.length) true) (aU b [.gone,_] 1)
        simpa[LI] using this
       ·have kf:=(zSb.1 cE).1
        have nA:∀ (l:List av) X,(b++l).set q X=b.set q X++l:=fun l X=>aO kf l X
        have sy:=fun X=>(hB.ro (((Ro.refl b).rD cE .gone).app X)).src
        have oe:∀ (l:List av) X,(b.set q .gone++l).set b.length X=b.set q .gone++l.set 0 X:=fun l X=>by
         have:=n9 (b.set q .gone) l X
         rwa [zSg]at this
        have Bm:∀ (l:List av),(b.set q .gone++l)[b.length]? = l[0]? := fun l=>by
         have:=aI (b.set q .gone) l
         rwa [zSg]at this
        simp only[cz,↓Xn,↓Xo,↓Xg,↓Xd,↓Xe,↓Xf,Tryz.VΓ,Tryz.Γs,Xp,Xi,Nat.reduceAdd,Nat.reduceSub,Nat.reduceLT,Nat.reduceLeDiff,reduceIte,reduceCtorEq,Nat.reduceEqDiff,implies_true,forall_const,cw,eb,beq_self_eq_true,bne_self_eq_false,Int.reduceBEq,Int.reduceBNe,Int.reduceLT,Int.reduceLE,h3,h4,h5,JP,Lu,c1,c2,cE,sx,sy,os,ot,nA,oe,Bm,zSg]
        have x9:=bc.1
        refine⟨⟨by unfold maxLen;omega,by omega⟩,⟨by unfold maxLen;omega,by omega⟩,by omega,O++(A++B),.inr ⟨b.length+1,by simp only[zSd],?_⟩,by simp only[zSd];omega,Le.app lO (Le.app lA lB),((bc.set hq _).app _).hZ⟩
        have:=iy (lo:=bs.length) (k:=b.length+1) (by omega) (r:=.own (O.map SV.str++(A.map SV.str++B.map SV.str)) 9 1 (O.length+(A.length+B.length)) true) (aQ (l1:=b.set q .gone) (by simp) [.gone,_] 1)
        simpa[LI] using this
     ·have c1:decide ((0:Int)<A.length)=false:=decide_eq_false (by omega)
      have sx:=hA.src
      have os:=xO A
      have ot:=xO B
      rcases ho with⟨rfl,rfl⟩|⟨q,rfl,hq,cE⟩
      ·have sy:=fun X=>(hB.ro ((Ro.refl b).app X)).src
       refine gA (zSa h3 (zSa h4 (zSa h5 (zSa JP (zSa Lu (zSa c1 (zSa sx (zSa sy (zSa os ot))))))))) ?_
       have x9:=bc.1
       refine⟨⟨by unfold maxLen;omega,by omega⟩,⟨by unfold maxLen;omega,by omega⟩,by omega,A++B,.inr ⟨b.length+1,by rw[zSd],?_⟩,by rw[zSd];simpa using cF,Le.app lA lB,(bc.app _).hZ⟩
       have:=iy (lo:=bs.length) (k:=b.length+1) (by omega) (r:=.own (A.map SV.str++B.map SV.str) 9 1 (A.length+B.length) true) (aU b [.gone,_] 1)
       simpa[LI] using this
      ·have kf:=(zSb.1 cE).1
       have nA:∀ (l:List av) X,(b++l).set q X=b.set q X++l:=fun l X=>aO kf l X
       have sy:=fun X=>(hB.ro (((Ro.refl b).rD cE .gone).app X)).src
       have oe:∀ (l:List av) X,(b.set q .gone++l).set b.length X=b.set q .gone++l.set 0 X:=fun l X=>by
        have:=n9 (b.set q .gone) l X
        rwa [zSg]at this
       have Bm:∀ (l:List av),(b.set q .gone++l)[b.length]? = l[0]? := fun l=>by
        have:=aI (b.set q .gone) l
        rwa [zSg]at this
       simp only[cz,↓Xn,↓Xo,↓Xg,↓Xd,↓Xe,↓Xf,Tryz.VΓ,Tryz.Γs,Xp,Xi,Nat.reduceAdd,Nat.reduceSub,Nat.reduceLT,Nat.reduceLeDiff,reduceIte,reduceCtorEq,Nat.reduceEqDiff,implies_true,forall_const,cw,eb,beq_self_eq_true,bne_self_eq_false,Int.reduceBEq,Int.reduceBNe,Int.reduceLT,Int.reduceLE,h3,h4,h5,JP,Lu,c1,cE,sx,sy,os,ot,nA,oe,Bm,zSg]
       have x9:=bc.1
       refine⟨⟨by unfold maxLen;omega,by omega⟩,⟨by unfold maxLen;omega,by omega⟩,by omega,O++(A++B),.inr ⟨b.length+1,by simp only[zSd],?_⟩,by simp only[zSd];omega,Le.app lO (Le.app lA lB),((bc.set hq _).app _).hZ⟩
       have:=iy (lo:=bs.length) (k:=b.length+1) (by omega) (r:=.own (O.map SV.str++(A.map SV.str++B.map SV.str)) 9 1 (O.length+(A.length+B.length)) true) (aQ (l1:=b.set q .gone) (by simp) [.gone,_] 1)
       simpa[LI] using this
def H2 (r:Int):Bool:=decide (0≤r)&&(decide (r≤1114111)&&(decide (r<55296)||decide (57343<r)))
theorem Ia (r:Int):PC Tryz.V 296 [.int .i64 r] (.bool (H2 r)):=by
 unfold H2
 refine aZ 3000 Tryz.func296 rfl Tryz.ntmps296 Tryz.results296 Tryz.call296 (by simp) (by simp[flat,flat.ai]) (by simp[flat,flat.ai]) ?_
 cases h1:decide (0≤r)
 ·exact gA (zSa h1 Bool.false_and) True.intro
 cases h2:decide (r≤1114111)
 ·exact gA (zSa h1 (zSa h2 (zSa Bool.false_and Bool.true_and))) True.intro
 cases h3:decide (r<55296)
 ·exact gA (zSa h1 (zSa h2 (zSa h3 (zSa Bool.false_or Bool.true_and)))) True.intro
 ·exact gA (zSa h1 (zSa h2 (zSa h3 (zSa Bool.true_or Bool.true_and)))) True.intro
theorem KS (x:Int):Be (.int .u8 (IntKind.u8.wrap x))=true:=by
 have h:IntKind.u8.wrap x=x % 256:=rfl
 rw[h]
 simp only[Be,zSF,decide_eq_true_eq]
 omega
theorem CU {bs:List av}(r:Int):SC Tryz.V 294 [.int .i64 r] bs (fun x b=>∃ s e,x=.eW [.str s,.int .i64 e]∧s.length≤4∧Kp bs b):=by
 have p1:=Ia r
 refine bo 3000 Tryz.func294 rfl Tryz.ntmps294 Tryz.results294 Tryz.call294 (by simp) (ah bs.length _ (by simp[within,within.ax])) ?_
 refine dV ?_
 (refine aa (p1) ?_;refine dV ?_)
 cases hp:H2 r
 ·refine gA (zSa hp zSL) ?_
  exact⟨_,_,rfl,by simp,Kp.refl bs⟩
 ·refine gA (zSa hp (zSa zSI (zSa @KS Bool.and_self))) ?_
  exact⟨fun _=>⟨by omega,_,_,rfl,by simp,(Kp.refl bs).app _⟩,fun _=>⟨fun _=>⟨by omega,_,_,rfl,by simp,(Kp.refl bs).app _⟩,fun _=>⟨fun _=>⟨by omega,_,_,rfl,by simp,(Kp.refl bs).app _⟩,fun _=>⟨by omega,_,_,rfl,by simp,(Kp.refl bs).app _⟩⟩⟩⟩
theorem EW {bs:List av}(s:Bytes)(h0:0<s.length)(h4:s.length≤4):SC Tryz.V 293 [.str s] bs (fun x b=>∃ n,x=.int .i64 n∧Kp bs b):=by
 refine bo 3000 Tryz.func293 rfl Tryz.ntmps293 Tryz.results293 Tryz.call293 (by simp) (ah bs.length _ (by simp[within,within.ax])) ?_
 obtain⟨c,hc⟩:∃ c,s[0]? = some c:=⟨s[0],List.getElem?_eq_getElem h0⟩
 by_cases h1:s.length=1
 ·have e1:((s.length:Int)==1)=true:=by rw[h1];rfl
  refine gA (zSa e1 hc) ?_
  exact⟨by omega,_,rfl,Kp.refl bs⟩
 ·have e1:((s.length:Int)==1)=false:=by simp;omega
  refine gA (zSa e1 hc) ?_
  have hsh:MH .shl .i64 1 (7 - (s.length:Int))=32∨MH .shl .i64 1 (7 - (s.length:Int))=16∨MH .shl .i64 1 (7 - (s.length:Int))=8:=by
   have:s.length=2∨s.length=3∨s.length=4:=by omega
   rcases this with h|h|h <;> rw[h]
   ·exact .inl rfl
   ·exact .inr (.inl rfl)
   ·exact .inr (.inr rfl)
  refine⟨by omega,by omega,by omega,by omega,(aq (by kernel_rfl)),?_⟩
  refine az (fun σ=>∃ (k:Nat) (r:Int),k≤s.length∧lk 0 σ.t=some (.str s)∧lk 3 σ.t=some (.int .i64 r)∧lk 4 σ.t=some (.int .i64 k)∧σ.b=bs) (fun σ=>s.length - fX 4 σ) ⟨1,_,by omega,rfl,rfl,rfl,rfl⟩ ?_
  rintro⟨t,b⟩ ⟨k,r,hk,h0,h3,h4,hb⟩
  simp only at h0 h3 h4 hb
  subst hb
  rw[ao h4]
  by_cases aA:k<s.length
  ·have bg:decide ((k:Int)<s.length)=true:=decide_eq_true (by omega)
   refine gA (zSa h0 (zSa h3 (zSa h4 bg))) ?_
   refine⟨by omega,by omega,⟨k+1,_,by omega,rfl,rfl⟩,?_⟩
   rw[ao (k:=.i64) (n:=(k:Int)+1) rfl];omega
  ·have bg:decide ((k:Int)<s.length)=false:=decide_eq_false (by omega)
   refine gA (zSa h0 (zSa h3 (zSa h4 bg))) ?_
   exact⟨_,rfl,Kp.refl _⟩
theorem CV {bs:List av}(s:Bytes)(hs:s.length≤2000000)(at':Nat):SC Tryz.V 287 [.str s,.int .i64 at'] bs (fun x b=>∃ r q e:Int,x=.eW [.int .i64 r,.int .i64 q,.int .i64 e]∧(e=0→(at':Int)<q∧q≤s.length)∧Kp bs b):=by
 refine bo 3000 Tryz.func287 rfl Tryz.ntmps287 Tryz.results287 Tryz.call287 (by simp) (ah bs.length _ (by simp[within,within.ax])) ?_
 have e0:decide ((at':Int)<0)=false:=decide_eq_false (by omega)
 by_cases hl:at'<s.length
 ·have e1:decide ((s.length:Int)≤at')=false:=decide_eq_false (by omega)
  refine gA (zSa e0 e1) ?_
  refine az (fun σ=>∃ (n:Nat),1≤n∧n≤5∧lk 0 σ.t=some (.str s)∧lk 1 σ.t=some (.int .i64 at')∧lk 7 σ.t=some (.int .i64 n)∧Kp bs σ.b) (fun σ=>5 - fX 7 σ) ⟨1,by omega,by omega,rfl,rfl,rfl,Kp.refl bs⟩ ?_
  rintro⟨t,b⟩ ⟨n,oK,hn5,h0,h1,h7,bc⟩
  simp only at h0 h1 h7 bc
  rw[ao h7]
  by_cases hn4:n≤4
  ·have c1:decide ((n:Int)≤4)=true:=decide_eq_true (by omega)
   by_cases dB:at'+n≤s.length
   ·have c2:decide ((at':Int)+n≤s.length)=true:=decide_eq_true (by omega)
    refine gA (zSa h0 (zSa h1 (zSa h7 (zSa c1 c2)))) ?_
    have hl:(s.take ((at':Int)+n).toNat |>.drop at').length=n:=by
     rw[List.length_drop,List.length_take];omega
    refine⟨by omega,by omega,by omega,ae (EW _ (by omega) (by omega)) ?_⟩
    rintro x b1 ⟨r,rfl,cP⟩
    have jK:=bc.trans cP
    refine gA (zSa h0 (zSa h1 h7)) ?_
    refine ae (CU r) ?_
    rintro x b2 ⟨u,e,rfl,hu,bJ⟩
    have fg:=jK.trans bJ
    cases he:e==0
    ·refine gA (zSa h0 (zSa h1 (zSa h7 he))) ?_
     refine⟨by omega,⟨n+1,by omega,by omega,rfl,fg⟩,?_⟩
     rw[ao (k:=.i64) (n:=(n:Int)+1) rfl];omega
    ·refine gA (zSa h0 (zSa h1 (zSa h7 he))) ?_
     refine⟨by omega,by omega,fun _=>⟨by omega,_,_,_,rfl,fun _=>⟨by omega,by omega⟩,fg⟩,fun _=>⟨by omega,⟨n+1,by omega,by omega,rfl,fg⟩,?_⟩⟩
     rw[ao (k:=.i64) (n:=(n:Int)+1) rfl];omega
   ·have c2:decide ((at':Int)+n≤s.length)=false:=decide_eq_false (by omega)
    refine gA (zSa h0 (zSa h1 (zSa h7 (zSa c1 c2)))) ?_
    exact⟨by omega,_,_,_,rfl,fun h=>by simp at h,bc⟩
  ·have c1:decide ((n:Int)≤4)=false:=decide_eq_false (by omega)
   refine gA (zSa h0 (zSa h1 (zSa h7 c1))) ?_
   exact⟨_,_,_,rfl,fun h=>by simp at h,bc⟩
 ·have e1:decide ((s.length:Int)≤at')=true:=decide_eq_true (by omega)
  refine gA (zSa e0 e1) ?_
  exact⟨_,_,_,rfl,fun h=>by simp at h,Kp.refl _⟩
theorem EX {bs:List av}(s:Bytes)(hs:s.length≤2000000):SC Tryz.V 275 [.str s] bs (fun x b=>∃ n:Int,x=.int .i64 n∧Kp bs b):=by
 refine bo 3000 Tryz.func275 rfl Tryz.ntmps275 Tryz.results275 Tryz.call275 (by simp) (ah bs.length _ (by simp[within,within.ax])) ?_
 refine dV ?_
 refine az (fun σ=>∃ (k n:Nat),n≤k∧k≤s.length∧lk 0 σ.t=some (.str s)∧lk 3 σ.t=some (.int .i64 n)∧lk 4 σ.t=some (.int .i64 k)∧Kp bs σ.b) (fun σ=>s.length - fX 4 σ) ⟨0,0,by omega,by omega,rfl,rfl,rfl,Kp.refl bs⟩ ?_
 rintro⟨t,b⟩ ⟨k,n,hn,hk,h0,h3,h4,bc⟩
 simp only at h0 h3 h4 bc
 rw[ao h4]
 by_cases aA:k<s.length
 ·have bg:decide ((k:Int)<s.length)=true:=decide_eq_true (by omega)
  refine gA (zSa h0 (zSa h3 (zSa h4 bg))) ?_
  refine ae (CV s hs k) ?_
  rintro x b1 ⟨r,q,e,rfl,hq,cP⟩
  have jK:=bc.trans cP
  cases he:e != 0
  ·have he0:e=0:=by simpa using he
   obtain⟨q1,q2⟩:=hq he0
   obtain⟨m,rfl⟩:∃ m:Nat,q=m:=⟨q.toNat,by omega⟩
   refine gA (zSa h0 (zSa h3 (zSa h4 he))) ?_
   refine⟨by omega,⟨m,n+1,by omega,by omega,rfl,rfl,jK⟩,?_⟩
   rw[ao (k:=.i64) (n:=(m:Int)) rfl];omega
  ·refine gA (zSa h0 (zSa h3 (zSa h4 he))) ?_
   exact⟨_,rfl,jK⟩
 ·have bg:decide ((k:Int)<s.length)=false:=decide_eq_false (by omega)
  refine gA (zSa h0 (zSa h3 (zSa h4 bg))) ?_
  exact⟨_,rfl,bc⟩
theorem qj {bs:List av}(s:Bytes)(hs:s.length≤2000000):SC Tryz.V 242 [.str s] bs (fun x b=>∃ y:Bool,x=.bool y∧Kp bs b):=by
 refine bo 3000 Tryz.func242 rfl Tryz.ntmps242 Tryz.results242 Tryz.call242 (by simp) (ah bs.length _ (by simp[within,within.ax])) ?_
 refine dV ?_
 refine ae (EX s hs) ?_
 rintro x b1 ⟨n,rfl,cP⟩
 refine dV ?_
 exact⟨_,rfl,cP⟩
theorem quo16 (c:UInt8):(0≤kP .quo .u8 (c.toNat:Int) 16∧kP .quo .u8 (c.toNat:Int) 16<((16:Nat):Int))∧(0≤kP .rem .u8 (c.toNat:Int) 16∧kP .rem .u8 (c.toNat:Int) 16<((16:Nat):Int)):=by
 have:=dz (p:=fun c=>decide ((0≤kP .quo .u8 (c.toNat:Int) 16∧kP .quo .u8 (c.toNat:Int) 16<((16:Nat):Int))∧(0≤kP .rem .u8 (c.toNat:Int) 16∧kP .rem .u8 (c.toNat:Int) 16<((16:Nat):Int)))) (by decide +kernel) c
 exact of_decide_eq_true this
theorem oy {bs:List av}(s:Bytes)(hs:s.length≤1000000):SC Tryz.V 194 [.str s] bs (fun x b=>∃ (u:Bytes) (e:Int),x=.eW [.str u,.int .i64 e]∧u.length≤6 * s.length+2∧Kp bs b):=by
 refine bo 3000 Tryz.func194 rfl Tryz.ntmps194 Tryz.results194 Tryz.call194 (by simp) (ah bs.length _ (by simp[within,within.ax])) ?_
 have e0:decide (1048576<(s.length:Int))=false:=decide_eq_false (by omega)
 refine gA e0 ?_
 refine ae (qj s (by omega)) ?_
 rintro x b1 ⟨y,rfl,cP⟩
 cases y
 ·refine gA zSL ?_
  exact⟨_,_,rfl,by simp,cP⟩
 refine gA zSI ?_
 refine⟨by omega,?_⟩
 refine az (fun σ=>∃ (k q:Nat) (W:Bytes),k≤s.length∧W.length≤1+6 * k∧lk 0 σ.t=some (.str s)∧lk 4 σ.t=some (.o q W.length)∧lk 5 σ.t=some (.int .i64 k)∧Kp bs σ.b∧bs.length≤q∧σ.b[q]? = some (.own (W.map dW) 5 1 W.length true)) (fun σ=>s.length - fX 5 σ) ⟨0,b1.length,[34],by omega,by simp,rfl,rfl,rfl,cP.app _,cP.1,aI _ _⟩ ?_
 rintro⟨t,b⟩ ⟨k,q,W,hk,hW,h0,h4,h5,bc,hq,cE⟩
 simp only at h0 h4 h5 bc cE
 rw[ao h5]
 have kf:=(zSb.1 cE).1
 have nA:∀ (l:List av) X,(b++l).set q X=b.set q X++l:=fun l X=>aO kf l X
 by_cases aA:k<s.length
 ·have bg:decide ((k:Int)<s.length)=true:=decide_eq_true (by omega)
  refine gA (zSa h0 (zSa h4 (zSa h5 (zSa bg (zSa cE (zSa (ad cE) nA)))))) ?_
  refine⟨by omega,?_⟩
  generalize s.getD k 0=c
  refine⟨fun _=>⟨fun _=>?_,fun _=>⟨fun _=>?_,fun _=>⟨fun _=>?_,fun _=>⟨fun _=>?_,fun _=>⟨fun _=>?_,fun _=>⟨fun _=>?_,fun _=>⟨fun hc32=>?_,fun _=>?_⟩⟩⟩⟩⟩⟩⟩,fun _=>?_⟩
  ·exact⟨by omega,⟨by unfold maxLen;omega,by omega⟩,by omega,⟨k+1,b.length+1,W++[92,c],by omega,by simp;omega,by simp,rfl,(bc.set hq _).app _,by omega,by rw[aQ (by simp)];simp[dW]⟩,by rw[ao (k:=.i64) (n:=(k:Int)+1) rfl];omega⟩
  ·exact⟨⟨rfl,by unfold maxLen;omega,by omega⟩,by omega,⟨k+1,b.length,W++[92,98],by omega,by simp;omega,by simp,rfl,(bc.set hq _).app _,by omega,by rw[← Nat.add_zero b.length,aQ (by simp)];simp[dW]⟩,by rw[ao (k:=.i64) (n:=(k:Int)+1) rfl];omega⟩
  ·exact⟨⟨rfl,by unfold maxLen;omega,by omega⟩,by omega,⟨k+1,b.length,W++[92,102],by omega,by simp;omega,by simp,rfl,(bc.set hq _).app _,by omega,by rw[← Nat.add_zero b.length,aQ (by simp)];simp[dW]⟩,by rw[ao (k:=.i64) (n:=(k:Int)+1) rfl];omega⟩
  ·exact⟨⟨rfl,by unfold maxLen;omega,by omega⟩,by omega,⟨k+1,b.length,W++[92,110],by omega,by simp;omega,by simp,rfl,(bc.set hq _).app _,by omega,by rw[← Nat.add_zero b.length,aQ (by simp)];simp[dW]⟩,by rw[ao (k:=.i64) (n:=(k:Int)+1) rfl];omega⟩
  ·exact⟨⟨rfl,by unfold maxLen;omega,by omega⟩,by omega,⟨k+1,b.length,W++[92,114],by omega,by simp;omega,by simp,rfl,(bc.set hq _).app _,by omega,by rw[← Nat.add_zero b.length,aQ (by simp)];simp[dW]⟩,by rw[ao (k:=.i64) (n:=(k:Int)+1) rfl];omega⟩
  ·exact⟨⟨rfl,by unfold maxLen;omega,by omega⟩,by omega,⟨k+1,b.length,W++[92,116],by omega,by simp;omega,by simp,rfl,(bc.set hq _).app _,by omega,by rw[← Nat.add_zero b.length,aQ (by simp)];simp[dW]⟩,by rw[ao (k:=.i64) (n:=(k:Int)+1) rfl];omega⟩
  ·have hq16:=quo16 c
   refine⟨by omega,hq16.1,by omega,hq16.2,by omega,⟨by unfold maxLen;omega,by omega⟩,?_,by omega,⟨k+1,b.length+1,W++[92,117,48,48,_,_],by omega,by simp;omega,by simp,rfl,(bc.set hq _).app _,by omega,by rw[aQ (by simp)];simp[dW];exact⟨rfl,rfl⟩⟩,by rw[ao (k:=.i64) (n:=(k:Int)+1) rfl];omega⟩
   refine bO (fun n=>if n=q then 100 else n - b.length) ?_
   have z2:∀ m,(b.length+m=q)=False:=fun m=>eq_false (by omega)
   have z3:(b.length=q)=False:=eq_false (by omega)
   simp only[zSy,List.map_nil,cW,eS,zSH,Nat.sub_self,z2,z3,eq_self,if_true,if_false]
   exact aq (by kernel_rfl)
  ·exact⟨by omega,⟨by unfold maxLen;omega,by omega⟩,by omega,⟨k+1,b.length+1,W++[c],by omega,by simp;omega,by simp,rfl,(bc.set hq _).app _,by omega,by rw[aQ (by simp)];simp[dW]⟩,by rw[ao (k:=.i64) (n:=(k:Int)+1) rfl];omega⟩
  ·exact⟨by omega,⟨by unfold maxLen;omega,by omega⟩,by omega,⟨k+1,b.length+1,W++[92,c],by omega,by simp;omega,by simp,rfl,(bc.set hq _).app _,by omega,by rw[aQ (by simp)];simp[dW]⟩,by rw[ao (k:=.i64) (n:=(k:Int)+1) rfl];omega⟩
 ·have bg:decide ((k:Int)<s.length)=false:=decide_eq_false (by omega)
  refine gA (zSa h0 (zSa h4 (zSa h5 (zSa bg (zSa cE (zSa (ad cE) nA)))))) ?_
  have Lp:(b.set q .gone++[.own [.int .u8 34] 5 1 1 true,.own (W.map dW++[.int .u8 34]) 5 1 (W.length+1) true])[b.length+1]? = some (.own (W.map dW++[.int .u8 34]) 5 1 (W.length+1) true):=aQ (by simp) _ 1
  refine gA Lp ?_
  refine⟨by omega,⟨by unfold maxLen;omega,by omega⟩,?_,_,_,rfl,?_,(bc.set hq _).app _⟩
  ·rw[zSO,gd];rfl
  ·simp;omega
theorem vu {bs:List av}{x:SV}{L:List Bytes}(hx:Rs bs x L)(hn:L.length≤1000)(hL:Le 20000 L):SC Tryz.V 243 [x] bs (fun r b=>∃ y:Bool,r=.bool y∧Kp bs b):=by
 have zD:=hx.within
 refine bo 3000 Tryz.func243 rfl Tryz.ntmps243 Tryz.results243 Tryz.call243 (by simp) (ah bs.length _ (by simp[within,within.ax,zD])) ?_
 refine dV ?_
 refine ae (mY 20000 (by omega) _ hx (zSu _) hn hL) ?_
 rintro z b1 ⟨S,hS,hSl,lS,cP⟩
 have Hk:=hS.Bc
 refine gA Hk ?_
 refine az (fun σ=>∃ k:Nat,k≤S.length∧lk 3 σ.t=some z∧lk 8 σ.t=some z∧lk 9 σ.t=some (.int .i64 S.length)∧lk 10 σ.t=some (.int .i64 k)∧Kp bs σ.b∧Rs σ.b z S) (fun σ=>S.length - fX 10 σ) ⟨0,by omega,rfl,rfl,rfl,rfl,cP,hS⟩ ?_
 rintro⟨t,b⟩ ⟨k,hk,h3,h8,h9,de,bc,hS⟩
 simp only at h3 h8 h9 de bc hS
 rw[ao de]
 by_cases aA:k<S.length
 ·have bg:decide ((k:Int)<S.length)=true:=decide_eq_true (by omega)
  have hSS:=hS
  rcases hS with⟨rfl,rfl⟩|⟨j,rfl,hj⟩
  ·exact absurd aA (by simp)
  have Gi:(S.map SV.str)[k * 1]? = some (.str S[k]):=by simp[aA]
  refine gA (zSa h3 (zSa h8 (zSa h9 (zSa de (zSa bg (zSa hj Gi)))))) ?_
  refine⟨by omega,by simp;omega,ae (qj _ (by have:=lS S[k] (zSk aA);omega)) ?_⟩
  rintro r b2 ⟨y,rfl,bJ⟩
  have gm:=bJ.at hj
  have fg:=bc.trans bJ
  cases y
  ·refine gA (zSa h3 (zSa h8 (zSa h9 (zSa de zSL)))) ?_
   exact⟨_,rfl,fg⟩
  ·by_cases h0:0<k
   ·have c0:decide ((0:Int)<k)=true:=decide_eq_true (by omega)
    have hkt2:(S.map SV.str)[((k:Int) - 1).toNat * 1]? = some (.str (S[k - 1]'(by omega))):=by
     rw[show ((k:Int) - 1).toNat * 1=k - 1 by omega]
     simp
    refine gA (zSa h3 (zSa h8 (zSa h9 (zSa de (zSa zSI (zSa c0 (zSa gm hkt2))))))) ?_
    refine⟨by omega,by omega,by simp;omega,fun _=>⟨_,rfl,fg⟩,fun _=>⟨by omega,⟨k+1,by omega,rfl,fg,hSS.ro bJ.ro⟩,?_⟩⟩
    rw[ao (k:=.i64) (n:=(k:Int)+1) rfl];omega
   ·have c0:decide ((0:Int)<k)=false:=decide_eq_false (by omega)
    refine gA (zSa h3 (zSa h8 (zSa h9 (zSa de (zSa zSI c0))))) ?_
    refine⟨by omega,⟨k+1,by omega,rfl,fg,hSS.ro bJ.ro⟩,?_⟩
    rw[ao (k:=.i64) (n:=(k:Int)+1) rfl];omega
 ·have bg:decide ((k:Int)<S.length)=false:=decide_eq_false (by omega)
  refine gA (zSa h3 (zSa h8 (zSa h9 (zSa de bg)))) ?_
  exact⟨_,rfl,bc⟩
theorem tJ:∀ (d:Nat){bs:List av}{v:Tv},Tr bs d v→SC Tryz.V 193 [.agg (tv v)] bs (fun r b=>∃ y:Bool,r=.bool y∧Kp bs b)
 | 0,_,_,h=>h.elim
 | d+1,bs,v,hv=>by
   have ih:=fun {bs:List av} {v:Tv} (h:Tr bs d v)=>tJ d h
   have Hm:=hv.nK
   obtain⟨kk,tt,xk,xi⟩:=v
   obtain⟨v1,v2,v3,v4⟩:=Hm
   simp only at v1 v2 v3 v4
   have ho:(one xk&&one xi)=true:=by rw[v3,v4];rfl
   obtain⟨g1,g2,K,L,g3,g4,g5,g6,g7,g8,g9,g10⟩:=hv
   simp only at g1 g2 g3 g4 g8 g9
   refine bo 3000 Tryz.func193 rfl Tryz.ntmps193 Tryz.results193 Tryz.call193 (by simp) (ah bs.length _ (by simp[within,within.ax,tv,v1,v2])) ?_
   have rJ:=g4.len
   have rY:=g3.Bc
   unfold tv
   rcases g2 with rfl|rfl|rfl|rfl
   ·refine gA (zSa ho (zSa rJ rY)) ?_
    exact⟨_,rfl,(Kp.refl bs).app _⟩
   ·refine gA (zSa ho (zSa rJ rY)) ?_
    obtain rfl:=g9 (by decide)
    refine ae (qj _ (by omega)) ?_
    rintro r b2 ⟨y,rfl,bJ⟩
    have kg:=((Kp.refl bs).app _).trans bJ
    have dL:=bJ.at (aI bs _)
    cases y
    ·refine gA (zSa ho (zSa rJ (zSa rY dL))) ?_
     exact⟨_,rfl,kg⟩
    ·have c1:(((0:Nat):Int)==0)=true:=rfl
     simp only[cz,↓Xn,↓Xo,↓Xg,↓Xd,↓Xe,↓Xf,Tryz.VΓ,Tryz.Γs,Xp,Xi,Nat.reduceAdd,Nat.reduceSub,Nat.reduceLT,Nat.reduceLeDiff,reduceIte,reduceCtorEq,Nat.reduceEqDiff,implies_true,forall_const,cw,eb,beq_self_eq_true,bne_self_eq_false,Int.reduceBEq,Int.reduceBNe,Int.reduceLT,Int.reduceLE,ho,rJ,rY,dL,zSn,c1]
     exact⟨_,rfl,kg⟩
   obtain rfl:=g9 (by decide)
   have c1:(((0:Nat):Int) != 0)=false:=rfl
   cases ht:(tt != [])
   rotate_left
   refine gA (zSa ho (zSa rJ (zSa rY (zSa ht c1)))) ?_
   exact⟨_,rfl,(Kp.refl bs).app _⟩
   have c1:((K.length:Int) != L.length)=false:=by rw[g8 rfl];simp
   have s1:=fun X=>vu (g3.ro ((Ro.refl bs).app [X])) (by omega) g7
   cases ht:(tt != [])
   rotate_left
   refine gA (zSa ho (zSa rJ (zSa rY (zSa ht c1)))) ?_
   exact⟨_,rfl,(Kp.refl bs).app _⟩
   have cP:Kp bs (bs++[.cells [.int .i64 6,.str tt,xk,xi] 139 true]):=(Kp.refl bs).app _
   simp only[cz,↓Xn,↓Xo,↓Xg,↓Xd,↓Xe,↓Xf,Tryz.VΓ,Tryz.Γs,Xp,Xi,Nat.reduceAdd,Nat.reduceSub,Nat.reduceLT,Nat.reduceLeDiff,reduceIte,reduceCtorEq,Nat.reduceEqDiff,implies_true,forall_const,cw,eb,beq_self_eq_true,bne_self_eq_false,Int.reduceBEq,Int.reduceBNe,Int.reduceLT,Int.reduceLE,ho,rJ,rY,ht,zSn,c1]
   rotate_left
   refine gA (zSa ho (zSa rJ (zSa rY (zSa ht c1)))) ?_
   refine ae (s1 _) ?_
   rintro r b1 ⟨y,rfl,cP⟩
   have dL:=cP.at (aI bs _)
   replace cP:=((Kp.refl bs).app _).trans cP
   cases y
   refine gA zSL ?_
   exact⟨_,rfl,cP⟩
   refine gA (zSa zSI (zSa dL rJ)) ?_
   all_goals
    refine az (fun σ=>∃ k:Nat,k≤L.length∧lk 105 σ.t=some xi∧lk 106 σ.t=some (.int .i64 L.length)∧lk 107 σ.t=some (.int .i64 k)∧Kp bs σ.b) (fun σ=>L.length - fX 107 σ) ⟨0,by omega,rfl,rfl,rfl,cP⟩ ?_
    rintro⟨t,b⟩ ⟨k,hk,sd,ya,vc,bc⟩
    simp only at sd ya vc bc
    rw[ao vc]
    by_cases aA:k<L.length
    ·have bg:decide ((k:Int)<L.length)=true:=decide_eq_true (by omega)
     rcases g4 with⟨-,rfl⟩|⟨q,jS,hq⟩
     ·exact absurd aA (by simp)
     have cE:=bc.at hq
     have hu:zSz 4 (zSE (k * 4) (L.flatMap tv))=[.int .i64 L[k].k,.str L[k].t,L[k].xk,L[k].xi]:=wD L k aA
     have oI:=oo L
     have hx:=g10 L[k] (zSk aA)
     obtain⟨x1,x2,x3,x4⟩:=hx.nK
     have qG:(one L[k].xk&&one L[k].xi)=true:=by rw[x3,x4];rfl
     refine gA (zSa sd (zSa ya (zSa vc (zSa bg (zSa jS (zSa cE (zSa hu qG))))))) ?_
     refine⟨by omega,by omega,ae (ih (hx.ro (bc.ro.app _))) ?_⟩
     rintro r b1 ⟨m,rfl,jK⟩
     have fg:=(bc.app [_]).trans jK
     cases m
     ·refine gA (zSa sd (zSa ya (zSa vc zSL))) ?_
      exact⟨_,rfl,fg⟩
     ·refine gA (zSa sd (zSa ya (zSa vc zSI))) ?_
      refine⟨by omega,⟨k+1,by omega,jS,rfl,fg⟩,?_⟩
      rw[ao (k:=.i64) (n:=(k:Int)+1) rfl];omega
    ·have bg:decide ((k:Int)<L.length)=false:=decide_eq_false (by omega)
     refine gA (zSa sd (zSa ya (zSa vc bg))) ?_
     exact⟨_,rfl,bc⟩
theorem CY (d:Nat){bs:List av}{v:Tv}(hv:Tr bs d v):SC Tryz.V 132 [.agg (tv v)] bs (fun r b=>∃ y:Bool,r=.bool y∧Kp bs b):=by
 have Hm:=hv.nK
 obtain⟨v1,v2,v3,v4⟩:=Hm
 have ho:(one v.xk&&one v.xi)=true:=by rw[v3,v4];rfl
 refine bo 3000 Tryz.func132 rfl Tryz.ntmps132 Tryz.results132 Tryz.call132 (by simp) (ah bs.length _ (by simp[within,within.ax,tv,v1,v2])) ?_
 have e1:∀ X,Tr (bs++[X]) d v:=fun X=>hv.ro ((Ro.refl bs).app _)
 have s1:=fun X=>tL d (e1 X) 0 (by omega) (by omega)
 unfold tv at s1 ⊢
 refine gA ho ?_
 refine ae (s1 _) ?_
 rintro r b2 ⟨n,rfl,hn,bJ⟩
 have kg:=((Kp.refl bs).app _).trans bJ
 have dL:=bJ.at (aI bs _)
 by_cases h0:0<n
 ·have c0:decide ((0:Int)<n)=true:=decide_eq_true (by omega)
  by_cases h1:n≤20000
  ·have c1:decide ((n:Int)≤20000)=true:=decide_eq_true (by omega)
   have s2:=tJ d ((e1 _).ro bJ.ro)
   unfold tv at s2
   refine gA (zSa ho (zSa c0 (zSa c1 dL))) ?_
   refine ae s2 ?_
   rintro r b3 ⟨y,rfl,eF⟩
   refine dV ?_
   exact⟨_,rfl,kg.trans eF⟩
  ·have c1:decide ((n:Int)≤20000)=false:=decide_eq_false (by omega)
   refine gA (zSa ho (zSa c0 c1)) ?_
   exact⟨_,rfl,kg⟩
 ·have c0:decide ((0:Int)<n)=false:=decide_eq_false (by omega)
  refine gA (zSa ho c0) ?_
  exact⟨_,rfl,kg⟩
def Jr:OT:=(.cH 0 (.alt (.one 1 (.one 2 (.one 3 (.one 4 (.one 5 (.cH 6 (.one 7 .leaf))))))) (.one 2 (.alt (.one 1 (.one 3 (.one 4 (.one 5 (.cH 6 (.one 7 .leaf)))))) (.one 3 (.alt (.one 1 (.one 4 (.one 5 (.cH 6 (.one 7 .leaf))))) (.one 4 (.one 1 (.one 5 (.cH 6 (.one 7 .leaf)))))))))))
def FF:OT:=(.cH 0 (.cH 2 (.cH 5 (.alt (.one 1 (.alt (.one 3 (.alt (.one 4 (.alt (.one 6 (.cH 11 (.one 7 (.one 8 (.one 9 (.one 10 (.one 12 (.cH 13 (.one 14 .leaf))))))))) (.one 7 (.alt (.one 6 (.cH 11 (.one 8 (.one 9 (.one 10 (.one 12 (.cH 13 (.one 14 .leaf)))))))) (.one 8 (.alt (.one 6 (.cH 11 (.one 9 (.one 10 (.one 12 (.cH 13 (.one 14 .leaf))))))) (.one 9 (.one 6 (.cH 11 (.one 10 (.one 12 (.cH 13 (.one 14 .leaf))))))))))))) (.alt (.one 6 (.alt (.one 4 (.cH 11 (.one 7 (.one 8 (.one 9 (.one 10 (.one 12 (.cH 13 (.one 14 .leaf))))))))) (.one 7 (.one 4 (.cH 11 (.one 8 (.one 9 (.one 10 (.one 12 (.cH 13 (.one 14 .leaf))))))))))) (.one 7 (.alt (.one 4 (.alt (.one 6 (.cH 11 (.one 8 (.one 9 (.one 10 (.one 12 (.cH 13 (.one 14 .leaf)))))))) (.one 8 (.alt (.one 6 (.cH 11 (.one 9 (.one 10 (.one 12 (.cH 13 (.one 14 .leaf))))))) (.one 9 (.one 6 (.cH 11 (.one 10 (.one 12 (.cH 13 (.one 14 .leaf))))))))))) (.one 6 (.one 4 (.cH 11 (.one 8 (.one 9 (.one 10 (.one 12 (.cH 13 (.one 14 .leaf)))))))))))))) (.alt (.one 6 (.alt (.one 3 (.alt (.one 4 (.cH 11 (.one 7 (.one 8 (.one 9 (.one 10 (.one 12 (.cH 13 (.one 14 .leaf))))))))) (.one 7 (.one 4 (.cH 11 (.one 8 (.one 9 (.one 10 (.one 12 (.cH 13 (.one 14 .leaf))))))))))) (.one 7 (.one 3 (.one 4 (.cH 11 (.one 8 (.one 9 (.one 10 (.one 12 (.cH 13 (.one 14 .leaf)))))))))))) (.one 7 (.alt (.one 3 (.alt (.one 4 (.alt (.one 6 (.cH 11 (.one 8 (.one 9 (.one 10 (.one 12 (.cH 13 (.one 14 .leaf)))))))) (.one 8 (.alt (.one 6 (.cH 11 (.one 9 (.one 10 (.one 12 (.cH 13 (.one 14 .leaf))))))) (.one 9 (.one 6 (.cH 11 (.one 10 (.one 12 (.cH 13 (.one 14 .leaf))))))))))) (.one 6 (.one 4 (.cH 11 (.one 8 (.one 9 (.one 10 (.one 12 (.cH 13 (.one 14 .leaf))))))))))) (.one 6 (.one 3 (.one 4 (.cH 11 (.one 8 (.one 9 (.one 10 (.one 12 (.cH 13 (.one 14 .leaf))))))))))))))) (.alt (.one 3 (.alt (.one 1 (.alt (.one 4 (.alt (.one 6 (.cH 11 (.one 7 (.one 8 (.one 9 (.one 10 (.one 12 (.cH 13 (.one 14 .leaf))))))))) (.one 7 (.alt (.one 6 (.cH 11 (.one 8 (.one 9 (.one 10 (.one 12 (.cH 13 (.one 14 .leaf)))))))) (.one 8 (.alt (.one 6 (.cH 11 (.one 9 (.one 10 (.one 12 (.cH 13 (.one 14 .leaf))))))) (.one 9 (.one 6 (.cH 11 (.one 10 (.one 12 (.cH 13 (.one 14 .leaf))))))))))))) (.alt (.one 6 (.alt (.one 4 (.cH 11 (.one 7 (.one 8 (.one 9 (.one 10 (.one 12 (.cH 13 (.one 14 .leaf))))))))) (.one 7 (.one 4 (.cH 11 (.one 8 (.one 9 (.one 10 (.one 12 (.cH 13 (.one 14 .leaf))))))))))) (.one 7 (.alt (.one 4 (.alt (.one 6 (.cH 11 (.one 8 (.one 9 (.one 10 (.one 12 (.cH 13 (.one 14 .leaf)))))))) (.one 8 (.alt (.one 6 (.cH 11 (.one 9 (.one 10 (.one 12 (.cH 13 (.one 14 .leaf))))))) (.one 9 (.one 6 (.cH 11 (.one 10 (.one 12 (.cH 13 (.one 14 .leaf))))))))))) (.one 6 (.one 4 (.cH 11 (.one 8 (.one 9 (.one 10 (.one 12 (.cH 13 (.one 14 .leaf)))))))))))))) (.alt (.one 6 (.alt (.one 1 (.alt (.one 4 (.cH 11 (.one 7 (.one 8 (.one 9 (.one 10 (.one 12 (.cH 13 (.one 14 .leaf))))))))) (.one 7 (.one 4 (.cH 11 (.one 8 (.one 9 (.one 10 (.one 12 (.cH 13 (.one 14 .leaf))))))))))) (.one 7 (.one 1 (.one 4 (.cH 11 (.one 8 (.one 9 (.one 10 (.one 12 (.cH 13 (.one 14 .leaf)))))))))))) (.one 7 (.alt (.one 1 (.alt (.one 4 (.alt (.one 6 (.cH 11 (.one 8 (.one 9 (.one 10 (.one 12 (.cH 13 (.one 14 .leaf)))))))) (.one 8 (.alt (.one 6 (.cH 11 (.one 9 (.one 10 (.one 12 (.cH 13 (.one 14 .leaf))))))) (.one 9 (.one 6 (.cH 11 (.one 10 (.one 12 (.cH 13 (.one 14 .leaf))))))))))) (.one 6 (.one 4 (.cH 11 (.one 8 (.one 9 (.one 10 (.one 12 (.cH 13 (.one 14 .leaf))))))))))) (.one 6 (.one 1 (.one 4 (.cH 11 (.one 8 (.one 9 (.one 10 (.one 12 (.cH 13 (.one 14 .leaf))))))))))))))) (.alt (.one 6 (.alt (.one 1 (.alt (.one 3 (.alt (.one 4 (.cH 11 (.one 7 (.one 8 (.one 9 (.one 10 (.one 12 (.cH 13 (.one 14 .leaf))))))))) (.one 7 (.one 4 (.cH 11 (.one 8 (.one 9 (.one 10 (.one 12 (.cH 13 (.one 14 .leaf))))))))))) (.one 7 (.one 3 (.one 4 (.cH 11 (.one 8 (.one 9 (.one 10 (.one 12 (.cH 13 (.one 14 .leaf)))))))))))) (.alt (.one 3 (.alt (.one 1 (.alt (.one 4 (.cH 11 (.one 7 (.one 8 (.one 9 (.one 10 (.one 12 (.cH 13 (.one 14 .leaf))))))))) (.one 7 (.one 4 (.cH 11 (.one 8 (.one 9 (.one 10 (.one 12 (.cH 13 (.one 14 .leaf))))))))))) (.one 7 (.one 1 (.one 4 (.cH 11 (.one 8 (.one 9 (.one 10 (.one 12 (.cH 13 (.one 14 .leaf)))))))))))) (.one 7 (.alt (.one 1 (.one 3 (.one 4 (.cH 11 (.one 8 (.one 9 (.one 10 (.one 12 (.cH 13 (.one 14 .leaf)))))))))) (.one 3 (.one 1 (.one 4 (.cH 11 (.one 8 (.one 9 (.one 10 (.one 12 (.cH 13 (.one 14 .leaf))))))))))))))) (.one 7 (.alt (.one 1 (.alt (.one 3 (.alt (.one 4 (.alt (.one 6 (.cH 11 (.one 8 (.one 9 (.one 10 (.one 12 (.cH 13 (.one 14 .leaf)))))))) (.one 8 (.alt (.one 6 (.cH 11 (.one 9 (.one 10 (.one 12 (.cH 13 (.one 14 .leaf))))))) (.one 9 (.one 6 (.cH 11 (.one 10 (.one 12 (.cH 13 (.one 14 .leaf))))))))))) (.one 6 (.one 4 (.cH 11 (.one 8 (.one 9 (.one 10 (.one 12 (.cH 13 (.one 14 .leaf))))))))))) (.one 6 (.one 3 (.one 4 (.cH 11 (.one 8 (.one 9 (.one 10 (.one 12 (.cH 13 (.one 14 .leaf)))))))))))) (.alt (.one 3 (.alt (.one 1 (.alt (.one 4 (.alt (.one 6 (.cH 11 (.one 8 (.one 9 (.one 10 (.one 12 (.cH 13 (.one 14 .leaf)))))))) (.one 8 (.alt (.one 6 (.cH 11 (.one 9 (.one 10 (.one 12 (.cH 13 (.one 14 .leaf))))))) (.one 9 (.one 6 (.cH 11 (.one 10 (.one 12 (.cH 13 (.one 14 .leaf))))))))))) (.one 6 (.one 4 (.cH 11 (.one 8 (.one 9 (.one 10 (.one 12 (.cH 13 (.one 14 .leaf))))))))))) (.one 6 (.one 1 (.one 4 (.cH 11 (.one 8 (.one 9 (.one 10 (.one 12 (.cH 13 (.one 14 .leaf)))))))))))) (.one 6 (.alt (.one 1 (.one 3 (.one 4 (.cH 11 (.one 8 (.one 9 (.one 10 (.one 12 (.cH 13 (.one 14 .leaf)))))))))) (.one 3 (.one 1 (.one 4 (.cH 11 (.one 8 (.one 9 (.one 10 (.one 12 (.cH 13 (.one 14 .leaf)))))))))))))))))))))
structure OA (bs:List av) (d:Nat) (s:Bytes) (xi:SV) (n k m:Nat) (σ:St):Prop where
 h2:lk 2 σ.t=some (.p (bs.length+1) 0)
 h3:lk 3 σ.t=some (.p (bs.length+2) 0)
 AI:lk 19 σ.t=some xi
 Co:lk 20 σ.t=some (.int .i64 n)
 uG:lk 21 σ.t=some (.int .i64 k)
 bc:Kp bs σ.b
 eX:σ.b[bs.length+1]? = some (.cells [.int .i64 0,.str [],.aj,.aj] 139 true)
 hy:∃ (y:SV) (Is:List Tv),σ.b[bs.length+2]? = some (.cells [.int .i64 6,.str s,.aj,y] 139 true)∧Is.length=m∧(∀ x∈Is,Tr σ.b d x)∧((y=.aj∧m=0)∨∃ q,0<m∧y=.o q m∧bs.length+2<q∧σ.b[q]? = some (.own (Is.flatMap tv) 139 4 m true))
structure OB (bs:List av) (d:Nat) (v:Tv) (z:SV) (S:List Bytes) (k m:Nat) (σ:St):Prop where
 h1:lk 1 σ.t=some (.p bs.length 0)
 h2:lk 2 σ.t=some (.p (bs.length+1) 0)
 h3:lk 3 σ.t=some (.p (bs.length+2) 0)
 IK:lk 36 σ.t=some z
 la:lk 37 σ.t=some (.int .i64 S.length)
 sb:lk 38 σ.t=some (.int .i64 k)
 bc:Kp bs σ.b
 dL:σ.b[bs.length]? = some (.cells [.int .i64 v.k,.str v.t,v.xk,v.xi] 139 true)
 eX:σ.b[bs.length+1]? = some (.cells [.int .i64 0,.str [],.aj,.aj] 139 true)
 hS:Rs σ.b z S
 hy:∃ (y1 y2:SV) (Is:List Tv),σ.b[bs.length+2]? = some (.cells [.int .i64 v.k,.str v.t,y1,y2] 139 true)∧Is.length=m∧(∀ x∈Is,Tr σ.b d x)∧((y1=.aj∧y2=.aj∧m=0)∨∃ q1 q2,0<m∧y1=.o q1 m∧y2=.o q2 m∧bs.length+2<q1∧bs.length+2<q2∧σ.b[q1]? = some (.own ((S.take m).map SV.str) 9 1 m true)∧σ.b[q2]? = some (.own (Is.flatMap tv) 139 4 m true))
theorem tK:∀ (d:Nat){bs:List av}{v:Tv},Tr bs d v→SC Tryz.V 135 [.agg (tv v)] bs (fun r b=>∃ v',r=.agg (tv v')∧Kp bs b∧Tr b d v')
 | 0,_,_,h=>h.elim
 | d+1,bs,v,hv=>by
   have ih:=fun {bs:List av} {v:Tv} (h:Tr bs d v)=>tK d h
   refine SC.th ?_
   have hvv:=hv
   have Hm:=hv.nK
   obtain⟨v1,v2,v3,v4⟩:=Hm
   have ho:(one v.xk&&one v.xi)=true:=by rw[v3,v4];rfl
   obtain⟨g1,g2,K,L,g3,g4,g5,g6,g7,g8,g9,g10⟩:=hv
   refine sC (fun n=>if n=6 then .all Jr else if n=13 then .all FF else .ord []) 3000 Tryz.func135 rfl Tryz.ntmps135 Tryz.results135 Tryz.call135 (by simp) (ah bs.length _ (by simp[within,within.ax,tv,v1,v2])) ?_
   have rJ:=g4.len
   unfold tv
   by_cases h6:v.k=6
   ·have e6:(v.k==6)=true:=by rw[h6];rfl
    refine gA (zSa ho (zSa rJ e6)) ?_
    rw[h6]
    refine az (fun σ=>∃ k,k≤L.length∧OA bs d v.t v.xi L.length k k σ) (fun σ=>L.length - fX 21 σ) ⟨0,by omega,rfl,rfl,rfl,rfl,rfl,(Kp.refl bs).app _,aU _ _ 1,⟨.aj,[],aU _ _ 2,rfl,by simp,.inl ⟨rfl,rfl⟩⟩⟩ ?_
    rintro⟨t,b⟩ ⟨k,hk,h2,h3,AI,Co,uG,bc,eX,y,Is,rL,Gu,DU,hy⟩
    simp only at h2 h3 AI Co uG bc eX rL DU hy
    rw[ao uG]
    by_cases aA:k<L.length
    ·have bg:decide ((k:Int)<L.length)=true:=decide_eq_true (by omega)
     rcases g4 with⟨-,rfl⟩|⟨j,jl,hj⟩
     ·exact absurd aA (by simp)
     have pN:=bc.at hj
     rw[jl]at AI
     have hu:zSz 4 (zSE (k * 4) (L.flatMap tv))=[.int .i64 L[k].k,.str L[k].t,L[k].xk,L[k].xi]:=wD L k aA
     have oI:=oo L
     have hx:=g10 L[k] (zSk aA)
     generalize L[k]=x at hu hx
     obtain⟨x1,x2,x3,x4⟩:=hx.nK
     have qG:(one x.xk&&one x.xi)=true:=by rw[x3,x4];rfl
     refine gA (zSa h2 (zSa h3 (zSa AI (zSa Co (zSa uG (zSa bg (zSa jl (zSa pN (zSa hu qG))))))))) ?_
     refine⟨by omega,by omega,tS (fun σ=>OA bs d v.t (.o j L.length) L.length k (k+1) σ) (by kernel_rfl) ?_ ?_⟩
     ·simp only[cz,↓Xn,↓Xo,↓Xg,↓Xd,↓Xe,↓Xf,Tryz.VΓ,Tryz.Γs,Xp,Xi,Nat.reduceAdd,Nat.reduceSub,Nat.reduceLT,Nat.reduceLeDiff,reduceIte,reduceCtorEq,Nat.reduceEqDiff,implies_true,forall_const,cw,eb,beq_self_eq_true,bne_self_eq_false,Int.reduceBEq,Int.reduceBNe,Int.reduceLT,Int.reduceLE,Jr,h2,h3,AI,Co,uG,ad rL]
      refine⟨?_,?_,?_⟩
      all_goals
       refine ae (ih (hx.ro (bc.ro.app _))) ?_
       rintro r b1 ⟨v',rfl,cP,hT1⟩
       obtain⟨w1,w2,w3,w4⟩:=hT1.nK
       have hwo:(one v'.xk&&one v'.xi)=true:=by rw[w3,w4];rfl
       have kg:=((Kp.refl b).app _).trans cP
       have Oj:=kg.at eX
       have uE:=kg.at rL
       have uD:=(zSb.1 uE).1
       have mh:=kg.1
       have eg:∀ (l:List av) X,(b1++l).set (bs.length+2) X=b1.set (bs.length+2) X++l:=fun l X=>aO uD l X
       rcases hy with⟨rfl,rfl⟩|⟨q,l6,rfl,hq,cE⟩
       ·have sV:=(Ro.refl b1).cell uE (.cells [.int .i64 6,.str v.t,.aj,.o (b1.length+1) 1] 139 true)
        simp only[cz,↓Xn,↓Xo,↓Xg,↓Xd,↓Xe,↓Xf,Tryz.VΓ,Tryz.Γs,Xp,Xi,Nat.reduceAdd,Nat.reduceSub,Nat.reduceLT,Nat.reduceLeDiff,reduceIte,reduceCtorEq,Nat.reduceEqDiff,implies_true,forall_const,cw,eb,beq_self_eq_true,bne_self_eq_false,Int.reduceBEq,Int.reduceBNe,Int.reduceLT,Int.reduceLE,h2,h3,AI,Co,uG,uE,ad uE,eg,hwo,tv]
        repeat' apply zSa
        all_goals first
         | omega
         | (unfold maxLen;omega)
         | exact⟨h2,h3,AI,Co,uG,((bc.trans kg).set (by omega) _).app _,ad (aw Oj (by omega) _) _,⟨.o (b1.length+1) 1,[v'],cA uD _ _,rfl,(fun x hx=>by obtain rfl:=zSi.1 hx;exact hT1.ro (sV.app _)),.inr ⟨b1.length+1,by omega,rfl,by omega,aQ (by simp) _ 1⟩⟩⟩
       ·have iD:=kg.at cE
        have kf:=(zSb.1 iD).1
        have nA:∀ (l:List av) X,(b1++l).set q X=b1.set q X++l:=fun l X=>aO kf l X
        have zI:∀ (l:List av) Y X,(b1.set q Y++l).set (bs.length+2) X=(b1.set q Y).set (bs.length+2) X++l:=fun l Y X=>aO (by simpa using uD) l X
        have ju:=fun Y=>ad (aw uE (show q≠bs.length+2 by omega) Y)
        have sV:=((Ro.refl b1).rD iD .gone).cell (aw uE (show q≠bs.length+2 by omega) .gone) (.cells [.int .i64 6,.str v.t,.aj,.o (b1.length+1) (k+1)] 139 true)
        simp only[cz,↓Xn,↓Xo,↓Xg,↓Xd,↓Xe,↓Xf,Tryz.VΓ,Tryz.Γs,Xp,Xi,Nat.reduceAdd,Nat.reduceSub,Nat.reduceLT,Nat.reduceLeDiff,reduceIte,reduceCtorEq,Nat.reduceEqDiff,implies_true,forall_const,cw,eb,beq_self_eq_true,bne_self_eq_false,Int.reduceBEq,Int.reduceBNe,Int.reduceLT,Int.reduceLE,h2,h3,AI,Co,uG,uE,ad uE,ad iD,eg,nA,zI,ju,hwo,tv]
        repeat' apply zSa
        all_goals first
         | omega
         | (unfold maxLen;omega)
         | exact⟨h2,h3,AI,Co,uG,(((bc.trans kg).set (by omega) _).set (by omega) _).app _,ad (aw (aw Oj (by omega) _) (by omega) _) _,⟨.o (b1.length+1) (k+1),Is++[v'],cA (by simpa using uD) _ _,by simp[Gu],(fun x hx=>by
            rcases zSj.1 hx with hx|hx
            ·exact(DU x hx).ro (kg.ro.trans (sV.app _))
            ·obtain rfl:=zSi.1 hx;exact hT1.ro (sV.app _)),.inr ⟨b1.length+1,by omega,rfl,by omega,by rw[aQ (by simp),zSp];rfl⟩⟩⟩
     ·rintro⟨t,b⟩ ⟨h2,h3,AI,Co,uG,bc,eX,y,Is,rL,Gu,DU,hy⟩
      simp only at h2 h3 AI Co uG bc eX rL DU hy
      refine gA (zSa h2 (zSa h3 (zSa AI (zSa Co uG)))) ?_
      refine⟨by omega,⟨k+1,by omega,h2,h3,AI,Co,rfl,bc,eX,y,Is,rL,Gu,DU,hy⟩,?_⟩
      rw[ao (k:=.i64) (n:=(k:Int)+1) rfl];omega
    ·have bg:decide ((k:Int)<L.length)=false:=decide_eq_false (by omega)
     have sZ:=(zSb.1 eX).1
     have KU:one y=true:=by rcases hy with⟨rfl,-⟩|⟨q,-,rfl,-⟩ <;> rfl
     have qI:∀ X,(b.set (bs.length+1) X)[bs.length+1]? = some X:=fun X=>List.getElem?_set_self sZ
     refine gA (zSa h2 (zSa h3 (zSa AI (zSa Co (zSa uG (zSa bg (zSa rL (zSa eX (zSa KU qI))))))))) ?_
     have o9:=bc.set (j:=bs.length+1) (by omega) (.cells [.int .i64 6,.str v.t,.aj,y] 139 true)
     have hrr:=((Ro.refl b).cell eX (.cells [.int .i64 6,.str v.t,.aj,y] 139 true)).trans (gI (lo:=bs.length) (by simpa using o9.1)).ro
     refine⟨by simpa using o9.1,⟨6,v.t,.aj,y⟩,rfl,o9.hZ,g1,.inr (.inr (.inl rfl)),[],Is,.inl ⟨rfl,rfl⟩,?_,by simp,by omega,by simp,by simp,by simp,fun x hx=>(DU x hx).ro hrr⟩
     rcases hy with⟨rfl,h0⟩|⟨q,l6,rfl,hq,cE⟩
     ·exact .inl ⟨rfl,zSr.1 (by omega)⟩
     ·exact .inr ⟨q,by rw[Gu],by rw[iy (by omega) (aw cE (by omega) _),Gu];rfl⟩
   ·have e6:(v.k==6)=false:=beq_eq_false_iff_ne.2 h6
    refine gA (zSa ho (zSa rJ e6)) ?_
    refine ae (mY 20000 (by omega) _ (g3.ro ((Ro.refl bs).app [.cells [.int .i64 v.k,.str v.t,v.xk,v.xi] 139 true,.cells [.int .i64 0,.str [],.aj,.aj] 139 true,.cells [.int .i64 v.k,.str v.t,.aj,.aj] 139 true])) (zSu _) (by omega) g7) ?_
    rintro z b9 ⟨S,hS,hSl,lS,cP⟩
    have Hk:=hS.Bc
    refine gA Hk ?_
    refine az (fun σ=>∃ k,k≤S.length∧OB bs d v z S k k σ) (fun σ=>S.length - fX 38 σ) ⟨0,by omega,rfl,rfl,rfl,rfl,rfl,rfl,((Kp.refl bs).app _).trans cP,cP.at (aI _ _),cP.at (aU _ _ 1),hS,⟨.aj,.aj,[],cP.at (aU _ _ 2),rfl,by simp,.inl ⟨rfl,rfl,rfl⟩⟩⟩ ?_
    clear Hk hS cP
    rintro⟨t,b⟩ ⟨k,hk,h1,h2,h3,IK,la,sb,bc,dL,eX,hS,y1,y2,Is,rL,Gu,DU,hy⟩
    simp only at h1 h2 h3 IK la sb bc dL eX hS rL DU hy
    rw[ao sb]
    by_cases aA:k<S.length
    ·have bg:decide ((k:Int)<S.length)=true:=decide_eq_true (by omega)
     have hSS:=hS
     rcases hS with⟨rfl,rfl⟩|⟨j,rfl,hj⟩
     ·exact absurd aA (by simp)
     have Ld:v.k=7:=by
      rcases Decidable.em (v.k=7) with h|h
      ·exact h
      ·rw[g9 h]at hSl;rw[hSl]at aA;simp at aA
     have hL0:0<L.length:=by rw[← g8 Ld];omega
     have r6:1≤d:=by
      obtain⟨e,rfl⟩:=(g10 (L[0]'hL0) (zSk hL0)).ex
      omega
     have Gi:(S.map SV.str)[k * 1]? = some (.str S[k]):=by simp[aA]
     have hSk:=lS S[k] (zSk aA)
     have xb:(S.take (k+1)).map SV.str=(S.take k).map SV.str++[.str S[k]]:=by
      rw[List.take_succ_eq_append_getElem aA,List.map_append];rfl
     generalize S[k]=key at Gi hSk xb
     have s1:=HS (hvv.ro bc.ro) r6 key
     unfold tv at s1
     refine gA (zSa h1 (zSa h2 (zSa h3 (zSa IK (zSa la (zSa sb (zSa bg (zSa hj (zSa Gi dL))))))))) ?_
     refine⟨by omega,by simp;omega,ae s1 ?_⟩
     rintro r b1 ⟨x,ok,rfl,cP,hx⟩
     obtain⟨x1,x2,x3,x4⟩:=hx.nK
     have qG:(one x.xk&&one x.xi)=true:=by rw[x3,x4];rfl
     have jK:=bc.trans cP
     have Lq:=cP.at dL
     have Oj:=cP.at eX
     have uE:=cP.at rL
     have mh:=cP.1
     have hb2l':=(zSb.1 rL).1
     refine gA (zSa h1 (zSa h2 (zSa h3 (zSa IK (zSa la (zSa sb qG)))))) ?_
     have hSS1:=hSS.ro cP.ro
     have hIs1:=fun x hx=>(DU x hx).ro cP.ro
     generalize hT:((9,SV.bool ok)::_:List (Nat × SV))=T
     have f1:lk 1 T=some (.p bs.length 0):=by rw[← hT];exact h1
     have f2:lk 2 T=some (.p (bs.length+1) 0):=by rw[← hT];exact h2
     have f3:lk 3 T=some (.p (bs.length+2) 0):=by rw[← hT];exact h3
     have f7:lk 7 T=some (.str key):=by rw[← hT];rfl
     have f8:lk 8 T=some (.p b1.length 0):=by rw[← hT];rfl
     have f36:lk 36 T=some (.o j S.length):=by rw[← hT];exact IK
     have f37:lk 37 T=some (.int .i64 S.length):=by rw[← hT];exact la
     have f38:lk 38 T=some (.int .i64 k):=by rw[← hT];exact sb
     clear hT h1 h2 h3 IK la sb dL eX hSS DU s1 hj
     refine ly (fun σ=>OB bs d v (.o j S.length) S k (k+1) σ) (by kernel_rfl) ?_ ?_
     ·intro E' k'
      unfold FF
      rcases hy with⟨rfl,rfl,rfl⟩|⟨q1,q2,l6,rfl,rfl,jS,nC,ju,iD⟩
      ·refine gA (zSa f3 (zSa f7 (zSa f8 (ad uE)))) ?_
       repeat' apply zSa
       all_goals first
        | omega
        | (unfold maxLen;omega)
        | skip
       all_goals
        refine ae (ih (hx.ro ((Ro.refl b1).app _))) ?_
        rintro r b2 ⟨v',rfl,bJ,hT1⟩
        obtain⟨w1,w2,w3,w4⟩:=hT1.nK
        have hwo:(one v'.xk&&one v'.xi)=true:=by rw[w3,w4];rfl
        have fg:Kp bs b2:=(jK.app _).trans bJ
        have hro2:Ro b1 b2:=((Ro.refl b1).app _).trans bJ.ro
        have qO:b2[bs.length]? = _:=bJ.at (ad Lq _)
        have Bq:b2[bs.length+1]? = _:=bJ.at (ad Oj _)
        have Bp:b2[bs.length+2]? = _:=bJ.at (ad uE _)
        have hr1:=bJ.at (aQ (l1:=b1) (n:=b1.length) (by simp) _ 2)
        have qN:=bJ.1
        simp only[zSd,zSg,zSh,zSn]at qN
        have uD:bs.length+2<b2.length:=(zSb.1 Bp).1
        have eg:∀ (l:List av) X,(b2++l).set (bs.length+2) X=b2.set (bs.length+2) X++l:=fun l X=>aO uD l X
        have hset':∀ (l:List av) Y X,(b2.set (bs.length+2) Y++l).set (bs.length+2) X=b2.set (bs.length+2) X++l:=fun l Y X=>by rw[aO (by simpa using uD),List.set_set]
        have hget:∀ (l:List av) Y,(b2.set (bs.length+2) Y++l)[bs.length+2]? = some Y:=fun l Y=>cA uD Y l
        simp only[cz,↓Xn,↓Xo,↓Xg,↓Xd,↓Xe,↓Xf,Tryz.VΓ,Tryz.Γs,Xp,Xi,Nat.reduceAdd,Nat.reduceSub,Nat.reduceLT,Nat.reduceLeDiff,reduceIte,reduceCtorEq,Nat.reduceEqDiff,implies_true,forall_const,cw,eb,beq_self_eq_true,bne_self_eq_false,Int.reduceBEq,Int.reduceBNe,Int.reduceLT,Int.reduceLE,f3,f7,f8,Bp,ad Bp,eg,hset',hget,hwo,tv]
        have sV:=(Ro.refl b2).cell Bp (.cells [.int .i64 v.k,.str v.t,.o (b1.length+2) 1,.o (b2.length+1) 1] 139 true)
        repeat' apply zSa
        all_goals first
         | omega
         | (unfold maxLen;omega)
         | exact⟨f1,f2,f3,f36,f37,f38,(fg.set (by omega) _).app _,ad (aw qO (by omega) _) _,ad (aw Bq (by omega) _) _,hSS1.ro (hro2.trans (sV.app _)),⟨.o (b1.length+2) 1,.o (b2.length+1) 1,[v'],cA uD _ _,rfl,(fun x hx=>by obtain rfl:=zSi.1 hx;exact hT1.ro (sV.app _)),.inr ⟨b1.length+2,b2.length+1,by omega,rfl,rfl,by omega,by omega,ad (aw (hr1.trans (by rw[xb];rfl)) (by omega) _) _,aQ (by simp) _ 1⟩⟩⟩
      ·replace ju:=cP.at ju
       replace iD:=cP.at iD
       have hq1l:=(zSb.1 ju).1
       have hq2l:=(zSb.1 iD).1
       have hqn:q1≠q2:=by rintro rfl;rw[ju]at iD;simp at iD
       have nA:∀ (l:List av) X,(b1++l).set q1 X=b1.set q1 X++l:=fun l X=>aO hq1l l X
       have Lp:=fun Y=>ad (aw uE (show q1≠bs.length+2 by omega) Y)
       have Bm:∀ (l:List av) Y,(b1.set q1 Y++l)[b1.length]? = l[0]? := fun l Y=>aQ (by simp) l 0
       simp only[cz,↓Xn,↓Xo,↓Xg,↓Xd,↓Xe,↓Xf,Tryz.VΓ,Tryz.Γs,Xp,Xi,Nat.reduceAdd,Nat.reduceSub,Nat.reduceLT,Nat.reduceLeDiff,reduceIte,reduceCtorEq,Nat.reduceEqDiff,implies_true,forall_const,cw,eb,beq_self_eq_true,bne_self_eq_false,Int.reduceBEq,Int.reduceBNe,Int.reduceLT,Int.reduceLE,f3,f7,f8,ad uE,ad ju,nA,Lp,Bm,zSg]
       repeat' apply zSa
       all_goals first
        | omega
        | (unfold maxLen;omega)
        | skip
       all_goals
        refine ae (ih (hx.ro (((Ro.refl b1).rD ju .gone).app _))) ?_
        rintro r b2 ⟨v',rfl,bJ,hT1⟩
        obtain⟨w1,w2,w3,w4⟩:=hT1.nK
        have hwo:(one v'.xk&&one v'.xi)=true:=by rw[w3,w4];rfl
        have fg:Kp bs b2:=((jK.set (by omega) _).app _).trans bJ
        have hro2:Ro b1 b2:=(((Ro.refl b1).rD ju .gone).app _).trans bJ.ro
        have qO:b2[bs.length]? = _:=bJ.at (ad (aw Lq (by omega) _) _)
        have Bq:b2[bs.length+1]? = _:=bJ.at (ad (aw Oj (by omega) _) _)
        have Bp:b2[bs.length+2]? = _:=bJ.at (ad (aw uE (by omega) _) _)
        have hr1:=bJ.at (aQ (l1:=b1.set q1 .gone) (n:=b1.length) (by simp) _ 2)
        have qN:=bJ.1
        simp only[zSd,zSg,zSh,zSn]at qN
        have uD:bs.length+2<b2.length:=(zSb.1 Bp).1
        have Og:=bJ.at (ad (aw iD hqn .gone) _)
        have hq22l:=(zSb.1 Og).1
        have hsq2:∀ (l:List av) X,(b2++l).set q2 X=b2.set q2 X++l:=fun l X=>aO hq22l l X
        have p7:=fun Y=>ad (aw Bp (show q2≠bs.length+2 by omega) Y)
        have eg:∀ (l:List av) Z X,(b2.set q2 Z++l).set (bs.length+2) X=(b2.set q2 Z).set (bs.length+2) X++l:=fun l Z X=>aO (by simpa using uD) l X
        have hset':∀ (l:List av) Z Y X,((b2.set q2 Z).set (bs.length+2) Y++l).set (bs.length+2) X=(b2.set q2 Z).set (bs.length+2) X++l:=fun l Z Y X=>by rw[aO (by simpa using uD),List.set_set]
        have hget:∀ (l:List av) Z Y,((b2.set q2 Z).set (bs.length+2) Y++l)[bs.length+2]? = some Y:=fun l Z Y=>cA (by simpa using uD) Y l
        simp only[cz,↓Xn,↓Xo,↓Xg,↓Xd,↓Xe,↓Xf,Tryz.VΓ,Tryz.Γs,Xp,Xi,Nat.reduceAdd,Nat.reduceSub,Nat.reduceLT,Nat.reduceLeDiff,reduceIte,reduceCtorEq,Nat.reduceEqDiff,implies_true,forall_const,cw,eb,beq_self_eq_true,bne_self_eq_false,Int.reduceBEq,Int.reduceBNe,Int.reduceLT,Int.reduceLE,f3,f7,f8,Bp,ad Bp,ad Og,hsq2,p7,eg,hset',hget,hwo,tv,zSg]
        have sV:=((Ro.refl b2).rD Og .gone).cell (aw Bp (show q2≠bs.length+2 by omega) .gone) (.cells [.int .i64 v.k,.str v.t,.o (b1.length+2) (k+1),.o (b2.length+1) (k+1)] 139 true)
        repeat' apply zSa
        all_goals first
         | omega
         | (unfold maxLen;omega)
         | exact⟨f1,f2,f3,f36,f37,f38,((fg.set (by omega) _).set (by omega) _).app _,ad (aw (aw qO (by omega) _) (by omega) _) _,ad (aw (aw Bq (by omega) _) (by omega) _) _,hSS1.ro (hro2.trans (sV.app _)),⟨.o (b1.length+2) (k+1),.o (b2.length+1) (k+1),Is++[v'],cA (by simpa using uD) _ _,by simp[Gu],(fun x hx=>by
            rcases zSj.1 hx with hx|hx
            ·exact(hIs1 x hx).ro (hro2.trans (sV.app _))
            ·obtain rfl:=zSi.1 hx;exact hT1.ro (sV.app _)),.inr ⟨b1.length+2,b2.length+1,by omega,rfl,rfl,by omega,by omega,ad (aw (aw (hr1.trans (by rw[xb];try rfl)) (by omega) _) (by omega) _) _,by rw[aQ (by simp),zSp];try rfl⟩⟩⟩
     ·rintro⟨t,b⟩ ⟨h1,h2,h3,IK,la,sb,bc,dL,eX,hS,hy⟩
      simp only at h1 h2 h3 IK la sb bc dL eX hS hy
      refine gA (zSa h1 (zSa h2 (zSa h3 (zSa IK (zSa la sb))))) ?_
      refine⟨by omega,⟨k+1,by omega,h1,h2,h3,IK,la,rfl,bc,dL,eX,hS,hy⟩,?_⟩
      rw[ao (k:=.i64) (n:=(k:Int)+1) rfl];omega
    ·have bg:decide ((k:Int)<S.length)=false:=decide_eq_false (by omega)
     have sZ:=(zSb.1 eX).1
     obtain⟨hyo1,hyo2⟩:one y1=true∧one y2=true:=by rcases hy with⟨rfl,rfl,-⟩|⟨q1,q2,-,rfl,rfl,-⟩ <;> exact⟨rfl,rfl⟩
     have qI:∀ X,(b.set (bs.length+1) X)[bs.length+1]? = some X:=fun X=>List.getElem?_set_self sZ
     refine gA (zSa h1 (zSa h2 (zSa h3 (zSa IK (zSa la (zSa sb (zSa bg (zSa rL (zSa eX (zSa hyo1 (zSa hyo2 (zSa Bool.and_self qI)))))))))))) ?_
     have o9:=bc.set (j:=bs.length+1) (by omega) (.cells [.int .i64 v.k,.str v.t,y1,y2] 139 true)
     have hrr:=((Ro.refl b).cell eX (.cells [.int .i64 v.k,.str v.t,y1,y2] 139 true)).trans (gI (lo:=bs.length) (by simpa using o9.1)).ro
     have hkS:k=S.length:=by omega
     refine⟨by simpa using o9.1,⟨v.k,v.t,y1,y2⟩,rfl,o9.hZ,g1,g2,S,Is,?_,?_,by omega,by omega,lS,fun _=>by omega,fun h=>?_,fun x hx=>(DU x hx).ro hrr⟩
     ·rcases hy with⟨rfl,rfl,h0⟩|⟨q1,q2,l6,rfl,rfl,jS,nC,ju,iD⟩
      ·exact .inl ⟨rfl,zSr.1 (by omega)⟩
      ·exact .inr ⟨q1,by rw[hkS],by rw[iy (by omega) (aw ju (by omega) _),hkS,List.take_length];rfl⟩
     ·rcases hy with⟨rfl,rfl,h0⟩|⟨q1,q2,l6,rfl,rfl,jS,nC,ju,iD⟩
      ·exact .inl ⟨rfl,zSr.1 (by omega)⟩
      ·exact .inr ⟨q2,by rw[Gu],by rw[iy (by omega) (aw iD (by omega) _),Gu];rfl⟩
     ·have:=g9 h
      subst this
      exact zSr.1 hSl
def Wb:Nat→Nat
 | 0=>200000
 | d+1=>16 * (Wb d+130000)+200000
theorem Pa:∀ d,d≤5→Wb d≤1000000000000:=by decide
theorem yi (d:Nat):Wb (d+1)=16 * (Wb d+130000)+200000:=rfl
attribute [irreducible] Wb
structure OW (bs:List av) (d:Nat) (v:Tv) (n k m:Nat) (σ:St):Prop where
 h1:lk 1 σ.t=some (.p bs.length 0)
 mr:lk 32 σ.t=some v.xi
 lM:lk 33 σ.t=some (.int .i64 n)
 mQ:lk 34 σ.t=some (.int .i64 k)
 bc:Kp bs σ.b
 dL:σ.b[bs.length]? = some (.cells [.int .i64 v.k,.str v.t,v.xk,v.xi] 139 true)
 hy:∃ (y:SV) (W:Bytes),lk 5 σ.t=some y∧W.length≤m * (Wb d+130000)∧((y=.aj∧W=[]∧m=0)∨∃ q,0<m∧y=.o q W.length∧bs.length<q∧σ.b[q]? = some (.own (W.map dW) 5 1 W.length true))
theorem tI:∀ (d:Nat),d≤5→∀ {bs:List av} {v:Tv},Tr bs d v→SC Tryz.V 134 [.agg (tv v)] bs (fun r b=>∃ s:Bytes,r=.str s∧s.length≤Wb d∧Kp bs b)
 | 0,_,_,_,h=>h.elim
 | d+1,hd,bs,v,hv=>by
   have ih:=fun {bs:List av} {v:Tv} (h:Tr bs d v)=>tI d (by omega) h
   have Hm:=hv.nK
   obtain⟨kk,tt,xk,xi⟩:=v
   obtain⟨v1,v2,v3,v4⟩:=Hm
   simp only at v1 v2 v3 v4
   have ho:(one xk&&one xi)=true:=by rw[v3,v4];rfl
   obtain⟨g1,g2,K,L,g3,g4,g5,g6,g7,g8,g9,g10⟩:=hv
   simp only at g1 g2 g3 g4 g8 g9
   refine bo 3000 Tryz.func134 rfl Tryz.ntmps134 Tryz.results134 Tryz.call134 (by simp) (ah bs.length _ (by simp[within,within.ax,tv,v1,v2])) ?_
   have rJ:=g4.len
   unfold tv
   have hwb:200000≤Wb (d+1):=by rw[yi];omega
   rcases g2 with rfl|rfl|rfl|rfl
   rotate_left
   refine gA (zSa ho rJ) ?_
   refine ae (oy _ (by omega)) ?_
   rintro r b1 ⟨u,e,rfl,hu,cP⟩
   refine dV ?_
   exact⟨_,rfl,by omega,((Kp.refl bs).app _).trans cP⟩
   refine gA (zSa ho rJ) ?_
   refine az (fun σ=>∃ k,k≤L.length∧OW bs d ⟨6,tt,xk,xi⟩ L.length k k σ) (fun σ=>L.length - fX 34 σ) ⟨0,by omega,rfl,rfl,rfl,rfl,(Kp.refl bs).app _,aI _ _,⟨.aj,[],rfl,by simp,.inl ⟨rfl,rfl,rfl⟩⟩⟩ ?_
   rintro⟨t,b⟩ ⟨k,hk,h1,mr,lM,mQ,bc,dL,y,W,h5,hW,hy⟩
   simp only at h1 mr lM mQ bc dL h5 hy
   rw[ao mQ]
   have tu:=Pa d (by omega)
   have hkm:(k+1) * (Wb d+130000)=k * (Wb d+130000)+(Wb d+130000):=by rw[Nat.add_mul,Nat.one_mul]
   have hkM:k * (Wb d+130000)≤16 * (Wb d+130000):=Nat.mul_le_mul_right _ (by omega)
   by_cases aA:k<L.length
   ·have bg:decide ((k:Int)<L.length)=true:=decide_eq_true (by omega)
    rcases g4 with⟨-,rfl⟩|⟨j,rfl,hj⟩
    ·exact absurd aA (by simp)
    have pN:=bc.at hj
    have hu:zSz 4 (zSE (k * 4) (L.flatMap tv))=[.int .i64 L[k].k,.str L[k].t,L[k].xk,L[k].xi]:=wD L k aA
    have oI:=oo L
    have hx:=g10 L[k] (zSk aA)
    generalize L[k]=x at hu hx
    obtain⟨x1,x2,x3,x4⟩:=hx.nK
    have qG:(one x.xk&&one x.xi)=true:=by rw[x3,x4];rfl
    have mh:=bc.1
    rcases hy with⟨rfl,rfl,rfl⟩|⟨q,l6,rfl,hq,cE⟩
    ·clear hkm hkM hW
     have c0:decide ((0:Int)<((0:Nat):Int))=false:=rfl
     refine gA (zSa h1 (zSa h5 (zSa mr (zSa lM (zSa mQ (zSa bg (zSa pN (zSa hu (zSa qG (zSa (ad dL) c0)))))))))) ?_
     refine⟨by omega,by omega,?_⟩
     refine ae (ih (hx.ro (bc.ro.app _))) ?_
     rintro r b2 ⟨u2,rfl,zE,bJ⟩
     have fg:=(bc.app [_]).trans bJ
     have qO:=bJ.at (ad dL _)
     have qN:=bJ.1
     simp only[zSd,zSh,zSn]at qN
     refine gA (zSa h1 (zSa h5 (zSa mr (zSa lM (zSa mQ @jG))))) ?_
     refine⟨⟨by unfold maxLen;omega,by omega⟩,by omega,⟨1,by omega,h1,mr,lM,rfl,fg.app _,ad qO _,⟨.o b2.length u2.length,u2,rfl,by omega,.inr ⟨b2.length,by omega,rfl,by omega,aI _ _⟩⟩⟩,?_⟩
     rw[ao (k:=.i64) (n:=(1:Int)) rfl];omega
    ·have c0:decide ((0:Int)<k)=true:=decide_eq_true (by omega)
     have kf:=(zSb.1 cE).1
     have nA:∀ (l:List av) X,(b++l).set q X=b.set q X++l:=fun l X=>aO kf l X
     have Lp:=fun Y=>ad (aw dL (show q≠bs.length by omega) Y)
     have Bm:∀ (l:List av) Y,(b.set q Y++l)[b.length]? = l[0]? := fun l Y=>aQ (by simp) l 0
     simp only[cz,↓Xn,↓Xo,↓Xg,↓Xd,↓Xe,↓Xf,Tryz.VΓ,Tryz.Γs,Xp,Xi,Nat.reduceAdd,Nat.reduceSub,Nat.reduceLT,Nat.reduceLeDiff,reduceIte,reduceCtorEq,Nat.reduceEqDiff,implies_true,forall_const,cw,eb,beq_self_eq_true,bne_self_eq_false,Int.reduceBEq,Int.reduceBNe,Int.reduceLT,Int.reduceLE,h1,h5,mr,lM,mQ,bg,pN,hu,qG,ad dL,c0,ad cE,nA,Lp,Bm,zSg]
     refine⟨by omega,by omega,by omega,⟨by unfold maxLen;omega,by omega⟩,?_⟩
     refine ae (ih (hx.ro (bc.ro.trans (((Ro.refl b).rD cE .gone).app _)))) ?_
     rintro r b2 ⟨u2,rfl,zE,bJ⟩
     have fg:=((bc.set (j:=q) (by omega) .gone).app _).trans bJ
     have qO:=bJ.at (ad (aw dL (show q≠bs.length by omega) .gone) _)
     have hr:=bJ.at (aQ (l1:=b.set q .gone) (n:=b.length) (by simp) _ 2)
     have zK:=(zSb.1 hr).1
     have fA:∀ (l:List av) X,(b2++l).set (b.length+2) X=b2.set (b.length+2) X++l:=fun l X=>aO zK l X
     simp only[cz,↓Xn,↓Xo,↓Xg,↓Xd,↓Xe,↓Xf,Tryz.VΓ,Tryz.Γs,Xp,Xi,Nat.reduceAdd,Nat.reduceSub,Nat.reduceLT,Nat.reduceLeDiff,reduceIte,reduceCtorEq,Nat.reduceEqDiff,implies_true,forall_const,cw,eb,beq_self_eq_true,bne_self_eq_false,Int.reduceBEq,Int.reduceBNe,Int.reduceLT,Int.reduceLE,h1,h5,mr,lM,mQ,jG,hr,ad hr,fA,zSg]
     refine⟨⟨by unfold maxLen;omega,by omega⟩,by omega,⟨k+1,by omega,h1,mr,lM,rfl,(fg.set (by omega) _).app _,ad (aw qO (by omega) _) _,⟨_,W++[44]++u2,rfl,by simp;omega,.inr ⟨b2.length,by omega,by simp;omega,by omega,?_⟩⟩⟩,?_⟩
     ·rw[show (b2.set (b.length+2) av.gone++[_])[b2.length]? = some _ from aQ (by simp) _ 0]
      simp[dW]
      omega
     ·rw[ao (k:=.i64) (n:=(k:Int)+1) rfl];omega
   ·have bg:decide ((k:Int)<L.length)=false:=decide_eq_false (by omega)
    have hWb:=yi d
    rcases hy with⟨rfl,rfl,-⟩|⟨q,l6,rfl,hq,cE⟩
    ·refine gA (zSa h1 (zSa h5 (zSa mr (zSa lM (zSa mQ (zSa bg dL)))))) ?_
     exact⟨_,rfl,by simp;omega,bc⟩
    ·refine gA (zSa h1 (zSa h5 (zSa mr (zSa lM (zSa mQ (zSa bg (zSa dL cE))))))) ?_
     refine⟨gd W,by simp;omega,by simp;omega,_,rfl,by simp;omega,bc⟩
   refine gA (zSa ho rJ) ?_
   refine az (fun σ=>∃ k,k≤L.length∧OW bs d ⟨7,tt,xk,xi⟩ L.length k k σ) (fun σ=>L.length - fX 34 σ) ⟨0,by omega,rfl,rfl,rfl,rfl,(Kp.refl bs).app _,aI _ _,⟨.aj,[],rfl,by simp,.inl ⟨rfl,rfl,rfl⟩⟩⟩ ?_
   rintro⟨t,b⟩ ⟨k,hk,h1,mr,lM,mQ,bc,dL,y,W,h5,hW,hy⟩
   simp only at h1 mr lM mQ bc dL h5 hy
   rw[ao mQ]
   have tu:=Pa d (by omega)
   have hkm:(k+1) * (Wb d+130000)=k * (Wb d+130000)+(Wb d+130000):=by rw[Nat.add_mul,Nat.one_mul]
   have hkM:k * (Wb d+130000)≤16 * (Wb d+130000):=Nat.mul_le_mul_right _ (by omega)
   by_cases aA:k<L.length
   ·have bg:decide ((k:Int)<L.length)=true:=decide_eq_true (by omega)
    rcases g4 with⟨-,rfl⟩|⟨j,rfl,hj⟩
    ·exact absurd aA (by simp)
    have pN:=bc.at hj
    have hu:zSz 4 (zSE (k * 4) (L.flatMap tv))=[.int .i64 L[k].k,.str L[k].t,L[k].xk,L[k].xi]:=wD L k aA
    have oI:=oo L
    have hx:=g10 L[k] (zSk aA)
    generalize L[k]=x at hu hx
    obtain⟨x1,x2,x3,x4⟩:=hx.nK
    have qG:(one x.xk&&one x.xi)=true:=by rw[x3,x4];rfl
    have mh:=bc.1
    rcases g3 with⟨-,rfl⟩|⟨jk,rfl,hjk⟩
    ·exact absurd (g8 rfl) (by simp;omega)
    have hbk:=bc.at hjk
    have o9:=g8 rfl
    have hltK:k<K.length:=by omega
    have Gi:(K.map SV.str)[k * 1]? = some (.str K[k]):=by simp[hltK]
    have hKl:=g7 K[k] (zSk hltK)
    rcases hy with⟨rfl,rfl,rfl⟩|⟨q,l6,rfl,hq,cE⟩
    ·clear hkm hkM hW
     have c0:decide ((0:Int)<((0:Nat):Int))=false:=rfl
     refine gA (zSa h1 (zSa h5 (zSa mr (zSa lM (zSa mQ (zSa bg (zSa pN (zSa hu (zSa qG (zSa (ad dL) (zSa c0 (zSa (ad hbk) Gi)))))))))))) ?_
     refine⟨by omega,by omega,by omega,by simp;omega,?_⟩
     refine ae (oy _ (by omega)) ?_
     rintro r b1 ⟨u,e,rfl,hu1,cP⟩
     have jK:=(bc.app [_]).trans cP
     have Lq:=cP.at (ad dL _)
     have hx7:=cP.at (aI b _)
     have Oh:=cP.1
     simp only[zSd,zSh,zSn]at Oh
     refine gA (zSa h1 (zSa h5 (zSa mr (zSa lM (zSa mQ (zSa @jG (zSa qG (zSa hx7 (ad hx7))))))))) ?_
     refine⟨⟨by unfold maxLen;omega,by omega⟩,by omega,⟨by unfold maxLen;omega,by omega⟩,?_⟩
     refine ae (ih (hx.ro ((bc.ro.app _).trans (cP.ro.app _)))) ?_
     rintro r b2 ⟨u2,rfl,zE,bJ⟩
     have fg:=(jK.app _).trans bJ
     have qO:=bJ.at (ad Lq _)
     have hr:=bJ.at (aU b1 _ 2)
     have zK:=(zSb.1 hr).1
     have fA:∀ (l:List av) X,(b2++l).set (b1.length+2) X=b2.set (b1.length+2) X++l:=fun l X=>aO zK l X
     simp only[cz,↓Xn,↓Xo,↓Xg,↓Xd,↓Xe,↓Xf,Tryz.VΓ,Tryz.Γs,Xp,Xi,Nat.reduceAdd,Nat.reduceSub,Nat.reduceLT,Nat.reduceLeDiff,reduceIte,reduceCtorEq,Nat.reduceEqDiff,implies_true,forall_const,cw,eb,beq_self_eq_true,bne_self_eq_false,Int.reduceBEq,Int.reduceBNe,Int.reduceLT,Int.reduceLE,h1,h5,mr,lM,mQ,jG,hr,ad hr,fA,zSg]
     refine⟨⟨by unfold maxLen;omega,by omega⟩,by omega,⟨1,by omega,h1,mr,lM,rfl,(fg.set (by omega) _).app _,ad (aw qO (by omega) _) _,⟨_,u++[58]++u2,rfl,by simp;omega,.inr ⟨b2.length,by omega,by simp;omega,by omega,?_⟩⟩⟩,?_⟩
     ·rw[show (b2.set (b1.length+2) av.gone++[_])[b2.length]? = some _ from aQ (by simp) _ 0]
      simp[dW]
      omega
     ·rw[ao (k:=.i64) (n:=(1:Int)) rfl];omega
    ·have c0:decide ((0:Int)<k)=true:=decide_eq_true (by omega)
     have kf:=(zSb.1 cE).1
     have nA:∀ (l:List av) X,(b++l).set q X=b.set q X++l:=fun l X=>aO kf l X
     have Lp:=fun Y=>ad (aw dL (show q≠bs.length by omega) Y)
     have Bm:∀ (l:List av) Y,(b.set q Y++l)[b.length]? = l[0]? := fun l Y=>aQ (by simp) l 0
     have hbk2:=fun Y=>ad (aw hbk (show q≠jk by rintro rfl;rw[cE]at hbk;simp at hbk) Y)
     simp only[cz,↓Xn,↓Xo,↓Xg,↓Xd,↓Xe,↓Xf,Tryz.VΓ,Tryz.Γs,Xp,Xi,Nat.reduceAdd,Nat.reduceSub,Nat.reduceLT,Nat.reduceLeDiff,reduceIte,reduceCtorEq,Nat.reduceEqDiff,implies_true,forall_const,cw,eb,beq_self_eq_true,bne_self_eq_false,Int.reduceBEq,Int.reduceBNe,Int.reduceLT,Int.reduceLE,h1,h5,mr,lM,mQ,bg,pN,hu,qG,ad dL,c0,ad cE,nA,Lp,Bm,zSg,hbk2,Gi]
     refine⟨by omega,by omega,by omega,⟨by unfold maxLen;omega,by omega⟩,by omega,by simp;omega,?_⟩
     refine ae (oy _ (by omega)) ?_
     rintro r b1 ⟨u,e,rfl,hu1,cP⟩
     have jK:=((bc.set (j:=q) (by omega) .gone).app _).trans cP
     have Lq:=cP.at (ad (aw dL (show q≠bs.length by omega) .gone) _)
     have hx7:b1[b.length]? = some (.cells [.int .i64 x.k,.str x.t,x.xk,x.xi] 139 true):=cP.at (aQ (l1:=b.set q .gone) (n:=b.length) (by simp) _ 0)
     have hr:=cP.at (aQ (l1:=b.set q .gone) (n:=b.length) (by simp) _ 2)
     have zK:=(zSb.1 hr).1
     have xF:∀ (l:List av) X,(b1++l).set (b.length+2) X=b1.set (b.length+2) X++l:=fun l X=>aO zK l X
     have Bl:∀ (l:List av) Y k,(b1.set (b.length+2) Y++l)[b1.length+k]? = l[k]? := fun l Y k=>aQ (by simp) l k
     have Em:∀ (l:List av) Y,(b1.set (b.length+2) Y++l)[b1.length]? = l[0]? := fun l Y=>aQ (by simp) l 0
     have hg3:∀ (l:List av) Y X,(b1.set (b.length+2) Y++l).set b1.length X=b1.set (b.length+2) Y++l.set 0 X:=fun l Y X=>by
      have:=n9 (b1.set (b.length+2) Y) l X
      rwa [zSg]at this
     have hx8:=fun Y=>ad (aw hx7 (show b.length+2≠b.length by omega) Y)
     have hro1:Ro b1 (b1.set (b.length+2) .gone):=(Ro.refl b1).rD hr .gone
     simp only[cz,↓Xn,↓Xo,↓Xg,↓Xd,↓Xe,↓Xf,Tryz.VΓ,Tryz.Γs,Xp,Xi,Nat.reduceAdd,Nat.reduceSub,Nat.reduceLT,Nat.reduceLeDiff,reduceIte,reduceCtorEq,Nat.reduceEqDiff,implies_true,forall_const,cw,eb,beq_self_eq_true,bne_self_eq_false,Int.reduceBEq,Int.reduceBNe,Int.reduceLT,Int.reduceLE,h1,h5,mr,lM,mQ,jG,qG,hr,ad hr,xF,Bl,Em,hg3,hx8,zSg]
     refine⟨⟨by unfold maxLen;omega,by omega⟩,by omega,⟨by unfold maxLen;omega,by omega⟩,?_⟩
     refine ae (ih (hx.ro ((bc.ro.trans ((((Ro.refl b).rD cE .gone).app _).trans cP.ro)).trans (hro1.app _)))) ?_
     rintro r b2 ⟨u2,rfl,zE,bJ⟩
     have fg:=((jK.set (j:=b.length+2) (by omega) .gone).app _).trans bJ
     have qO:=bJ.at (ad (aw Lq (show b.length+2≠bs.length by omega) .gone) _)
     have JD:=bJ.at (aQ (l1:=b1.set (b.length+2) .gone) (n:=b1.length) (by simp) _ 2)
     have hr2l:=(zSb.1 JD).1
     have Oh:=jK.1
     have fA:∀ (l:List av) X,(b2++l).set (b1.length+2) X=b2.set (b1.length+2) X++l:=fun l X=>aO hr2l l X
     simp only[cz,↓Xn,↓Xo,↓Xg,↓Xd,↓Xe,↓Xf,Tryz.VΓ,Tryz.Γs,Xp,Xi,Nat.reduceAdd,Nat.reduceSub,Nat.reduceLT,Nat.reduceLeDiff,reduceIte,reduceCtorEq,Nat.reduceEqDiff,implies_true,forall_const,cw,eb,beq_self_eq_true,bne_self_eq_false,Int.reduceBEq,Int.reduceBNe,Int.reduceLT,Int.reduceLE,h1,h5,mr,lM,mQ,jG,JD,ad JD,fA,zSg]
     refine⟨⟨by unfold maxLen;omega,by omega⟩,by omega,⟨k+1,by omega,h1,mr,lM,rfl,(fg.set (by omega) _).app _,ad (aw qO (by omega) _) _,⟨_,W++[44]++u++[58]++u2,rfl,by simp;omega,.inr ⟨b2.length,by omega,by simp;omega,by omega,?_⟩⟩⟩,?_⟩
     ·rw[show (b2.set (b1.length+2) av.gone++[_])[b2.length]? = some _ from aQ (by simp) _ 0]
      simp[dW]
      omega
     ·rw[ao (k:=.i64) (n:=(k:Int)+1) rfl];omega
   ·have bg:decide ((k:Int)<L.length)=false:=decide_eq_false (by omega)
    have hWb:=yi d
    rcases hy with⟨rfl,rfl,-⟩|⟨q,l6,rfl,hq,cE⟩
    ·refine gA (zSa h1 (zSa h5 (zSa mr (zSa lM (zSa mQ (zSa bg dL)))))) ?_
     exact⟨_,rfl,by simp;omega,bc⟩
    ·refine gA (zSa h1 (zSa h5 (zSa mr (zSa lM (zSa mQ (zSa bg (zSa dL cE))))))) ?_
     refine⟨gd W,by simp;omega,by simp;omega,_,rfl,by simp;omega,bc⟩
   refine gA (zSa ho rJ) ?_
   refine az (fun σ=>∃ k,k≤L.length∧OW bs d ⟨0,tt,xk,xi⟩ L.length k k σ) (fun σ=>L.length - fX 34 σ) ⟨0,by omega,rfl,rfl,rfl,rfl,(Kp.refl bs).app _,aI _ _,⟨.aj,[],rfl,by simp,.inl ⟨rfl,rfl,rfl⟩⟩⟩ ?_
   rintro⟨t,b⟩ ⟨k,hk,h1,mr,lM,mQ,bc,dL,y,W,h5,hW,hy⟩
   simp only at h1 mr lM mQ bc dL h5 hy
   rw[ao mQ]
   have tu:=Pa d (by omega)
   have hkm:(k+1) * (Wb d+130000)=k * (Wb d+130000)+(Wb d+130000):=by rw[Nat.add_mul,Nat.one_mul]
   have hkM:k * (Wb d+130000)≤16 * (Wb d+130000):=Nat.mul_le_mul_right _ (by omega)
   by_cases aA:k<L.length
   ·have bg:decide ((k:Int)<L.length)=true:=decide_eq_true (by omega)
    rcases g4 with⟨-,rfl⟩|⟨j,rfl,hj⟩
    ·exact absurd aA (by simp)
    have pN:=bc.at hj
    have hu:zSz 4 (zSE (k * 4) (L.flatMap tv))=[.int .i64 L[k].k,.str L[k].t,L[k].xk,L[k].xi]:=wD L k aA
    have oI:=oo L
    have hx:=g10 L[k] (zSk aA)
    generalize L[k]=x at hu hx
    obtain⟨x1,x2,x3,x4⟩:=hx.nK
    have qG:(one x.xk&&one x.xi)=true:=by rw[x3,x4];rfl
    have mh:=bc.1
    rcases hy with⟨rfl,rfl,rfl⟩|⟨q,l6,rfl,hq,cE⟩
    ·clear hkm hkM hW
     have c0:decide ((0:Int)<((0:Nat):Int))=false:=rfl
     refine gA (zSa h1 (zSa h5 (zSa mr (zSa lM (zSa mQ (zSa bg (zSa pN (zSa hu (zSa qG (zSa (ad dL) c0)))))))))) ?_
     refine⟨by omega,by omega,?_⟩
     refine ae (ih (hx.ro (bc.ro.app _))) ?_
     rintro r b2 ⟨u2,rfl,zE,bJ⟩
     have fg:=(bc.app [_]).trans bJ
     have qO:=bJ.at (ad dL _)
     have qN:=bJ.1
     simp only[zSd,zSh,zSn]at qN
     refine gA (zSa h1 (zSa h5 (zSa mr (zSa lM (zSa mQ @jG))))) ?_
     refine⟨⟨by unfold maxLen;omega,by omega⟩,by omega,⟨1,by omega,h1,mr,lM,rfl,fg.app _,ad qO _,⟨.o b2.length u2.length,u2,rfl,by omega,.inr ⟨b2.length,by omega,rfl,by omega,aI _ _⟩⟩⟩,?_⟩
     rw[ao (k:=.i64) (n:=(1:Int)) rfl];omega
    ·have c0:decide ((0:Int)<k)=true:=decide_eq_true (by omega)
     have kf:=(zSb.1 cE).1
     have nA:∀ (l:List av) X,(b++l).set q X=b.set q X++l:=fun l X=>aO kf l X
     have Lp:=fun Y=>ad (aw dL (show q≠bs.length by omega) Y)
     have Bm:∀ (l:List av) Y,(b.set q Y++l)[b.length]? = l[0]? := fun l Y=>aQ (by simp) l 0
     simp only[cz,↓Xn,↓Xo,↓Xg,↓Xd,↓Xe,↓Xf,Tryz.VΓ,Tryz.Γs,Xp,Xi,Nat.reduceAdd,Nat.reduceSub,Nat.reduceLT,Nat.reduceLeDiff,reduceIte,reduceCtorEq,Nat.reduceEqDiff,implies_true,forall_const,cw,eb,beq_self_eq_true,bne_self_eq_false,Int.reduceBEq,Int.reduceBNe,Int.reduceLT,Int.reduceLE,h1,h5,mr,lM,mQ,bg,pN,hu,qG,ad dL,c0,ad cE,nA,Lp,Bm,zSg]
     refine⟨by omega,by omega,by omega,⟨by unfold maxLen;omega,by omega⟩,?_⟩
     refine ae (ih (hx.ro (bc.ro.trans (((Ro.refl b).rD cE .gone).app _)))) ?_
     rintro r b2 ⟨u2,rfl,zE,bJ⟩
     have fg:=((bc.set (j:=q) (by omega) .gone).app _).trans bJ
     have qO:=bJ.at (ad (aw dL (show q≠bs.length by omega) .gone) _)
     have hr:=bJ.at (aQ (l1:=b.set q .gone) (n:=b.length) (by simp) _ 2)
     have zK:=(zSb.1 hr).1
     have fA:∀ (l:List av) X,(b2++l).set (b.length+2) X=b2.set (b.length+2) X++l:=fun l X=>aO zK l X
     simp only[cz,↓Xn,↓Xo,↓Xg,↓Xd,↓Xe,↓Xf,Tryz.VΓ,Tryz.Γs,Xp,Xi,Nat.reduceAdd,Nat.reduceSub,Nat.reduceLT,Nat.reduceLeDiff,reduceIte,reduceCtorEq,Nat.reduceEqDiff,implies_true,forall_const,cw,eb,beq_self_eq_true,bne_self_eq_false,Int.reduceBEq,Int.reduceBNe,Int.reduceLT,Int.reduceLE,h1,h5,mr,lM,mQ,jG,hr,ad hr,fA,zSg]
     refine⟨⟨by unfold maxLen;omega,by omega⟩,by omega,⟨k+1,by omega,h1,mr,lM,rfl,(fg.set (by omega) _).app _,ad (aw qO (by omega) _) _,⟨_,W++[44]++u2,rfl,by simp;omega,.inr ⟨b2.length,by omega,by simp;omega,by omega,?_⟩⟩⟩,?_⟩
     ·rw[show (b2.set (b.length+2) av.gone++[_])[b2.length]? = some _ from aQ (by simp) _ 0]
      simp[dW]
      omega
     ·rw[ao (k:=.i64) (n:=(k:Int)+1) rfl];omega
   ·have bg:decide ((k:Int)<L.length)=false:=decide_eq_false (by omega)
    have hWb:=yi d
    rcases hy with⟨rfl,rfl,-⟩|⟨q,l6,rfl,hq,cE⟩
    ·refine gA (zSa h1 (zSa h5 (zSa mr (zSa lM (zSa mQ (zSa bg dL)))))) ?_
     exact⟨_,rfl,by simp;omega,bc⟩
    ·refine gA (zSa h1 (zSa h5 (zSa mr (zSa lM (zSa mQ (zSa bg (zSa dL cE))))))) ?_
     refine⟨gd W,by simp;omega,by simp;omega,_,rfl,by simp;omega,bc⟩
theorem iX {d:Nat}(hd:d≤5){bs:List av}{v:Tv}(hv:Tr bs d v):SC Tryz.V 76 [.agg (tv v)] bs (fun r b=>∃ (s:Bytes) (e:Int),r=.eW [.str s,.int .i64 e]∧s.length≤1048576∧Kp bs b):=by
 have Hm:=hv.nK
 obtain⟨v1,v2,v3,v4⟩:=Hm
 have ho:(one v.xk&&one v.xi)=true:=by rw[v3,v4];rfl
 refine bo 3000 Tryz.func76 rfl Tryz.ntmps76 Tryz.results76 Tryz.call76 (by simp) (ah bs.length _ (by simp[within,within.ax,tv,v1,v2])) ?_
 have e1:∀ X,Tr (bs++[X]) d v:=fun X=>hv.ro ((Ro.refl bs).app _)
 have s1:=fun X=>CY d (e1 X)
 unfold tv at s1 ⊢
 refine gA ho ?_
 refine ae (s1 _) ?_
 rintro r b1 ⟨y,rfl,cP⟩
 have kg:=((Kp.refl bs).app _).trans cP
 have dL:=cP.at (aI bs _)
 cases y
 ·refine gA zSL ?_
  exact⟨_,_,rfl,by simp,kg⟩
 have s2:=wK d ((e1 _).ro cP.ro)
 unfold tv at s2
 refine gA (zSa zSI (zSa dL ho)) ?_
 refine ae s2 ?_
 rintro r b2 ⟨y,rfl,bJ⟩
 have hkb2:=kg.trans bJ
 have qO:=bJ.at dL
 cases y
 rotate_left
 ·refine dV ?_
  exact⟨_,_,rfl,by simp,hkb2⟩
 have s3:=tK d ((e1 _).ro (cP.ro.trans bJ.ro))
 unfold tv at s3
 refine gA (zSa qO ho) ?_
 refine ae s3 ?_
 rintro r b3 ⟨v',rfl,eF,hT⟩
 refine dV ?_
 refine ae (tI d hd hT) ?_
 rintro r b4 ⟨s,rfl,hs,mf⟩
 have hkb4:=(hkb2.trans eF).trans mf
 by_cases hl:s.length≤1048576
 ·have c0:decide (1048576<(s.length:Int))=false:=decide_eq_false (by omega)
  refine gA c0 ?_
  exact⟨_,_,rfl,hl,hkb4⟩
 ·have c0:decide (1048576<(s.length:Int))=true:=decide_eq_true (by omega)
  refine gA c0 ?_
  exact⟨_,_,rfl,by simp,hkb4⟩
end Go.Proofs.YtnmlimehgifadaaGreatDoor
namespace Wf
open Go Go.RowKit
structure pZ where
 user:Bytes
 host:Bytes
 deriving DecidableEq
def pZ.none:pZ:=⟨[],[]⟩
def vN:Bytes:=[33,36,38,39,40,41,42,43,44,59,61]
def pC:Bytes:=[97,99,99,116,58]
def Ef (n:Bytes × Int)(h:Bytes × Int):pZ × Int :=
 if n.2≠0∨n.1=[]∨n.1.head? = some 37 then(pZ.none,80)
 else if h.2≠0 then(pZ.none,h.2)
 else(⟨n.1,h.1⟩,0)
def uY (s:Bytes):pZ × Int :=
 if (aN 64 s).2.2=false then(pZ.none,6)
 else Ef (bI vN (aN 64 s).1) (ck (aN 64 s).2.1)
def ct (s:Bytes):pZ × Int :=
 if 4096<s.length then(pZ.none,5)
 else if s.length<5∨lower (s.take 5)≠pC then(pZ.none,60)
 else uY (s.drop 5)
def dU (a:pZ):Bytes:=pC++a.user++[64]++a.host
theorem Cz {c:UInt8}{s:Bytes}(h:(aN c s).2.2=true):s.length=(aN c s).1.length+1+(aN c s).2.1.length:=by
 have:=congrArg List.length (uncut c s)
 rw[if_pos h]at this
 simp at this;omega
theorem user_no {s:Bytes}(h:Can vN s):(64:UInt8) ∉ s:=by
 intro hc
 have:=wo h _ hc
 revert this;decide
structure J4 (a:pZ):Prop where
 user:Can vN a.user
 ne:a.user≠[]
 no:a.user.head? ≠ some 37
 host:ck a.host=(a.host,0)
theorem AA {s:Bytes}{a:pZ}(h:ct s=(a,0)):J4 a∧(dU a).length≤s.length∧s.length≤4096:=by
 unfold ct at h
 split at h
 ·simp at h
 split at h
 ·simp at h
 rename_i h1 h2
 unfold uY at h
 split at h
 ·simp at h
 rename_i h3
 have hlen:=Cz (c:=64) (s:=s.drop 5) (by simpa using h3)
 rw[List.length_drop]at hlen
 unfold Ef at h
 split at h
 ·simp at h
 rename_i h4
 simp only[not_or]at h4
 split at h
 ·rename_i h5;exact absurd (Prod.mk.inj h).2 h5
 rename_i h5
 simp only[Prod.mk.injEq,and_true]at h
 subst h
 have e:ck (aN 64 (s.drop 5)).2.1=((ck (aN 64 (s.drop 5)).2.1).1,0):=by
  have:(ck (aN 64 (s.drop 5)).2.1).2=0:=by simpa using h5
  rw[← this]
 obtain⟨k1,k2,k3⟩:=lG e
 refine⟨⟨uv (by simpa using h4.1),h4.2.1,h4.2.2,k3⟩,?_,by omega⟩
 have:=gE vN (aN 64 (s.drop 5)).1
 have hl:(ck (aN 64 (s.drop 5)).2.1).1.length=(aN 64 (s.drop 5)).2.1.length:=by rw[k1,fR]
 simp only[dU,pC,zSd,zSh,zSn]
 simp only[not_or]at h2
 omega
theorem LU {a:pZ}(h:J4 a)(hl:(dU a).length≤4096):ct (dU a)=(a,0):=by
 have e1:(dU a).take 5=pC:=rfl
 have e2:(dU a).drop 5=a.user++64::a.host:=by show a.user++[64]++a.host=_;simp
 have l5:5≤(dU a).length:=by simp[dU,pC]
 have lu:a.user.length≤4096:=by simp[dU]at hl;omega
 unfold ct
 rw[if_neg (by omega),if_neg (by rw[e1,show lower pC=pC by decide];simp;omega),e2]
 unfold uY
 rw[iQ (fb (user_no h.user)),if_neg (by simp)]
 simp only
 rw[uQ h.user (by omega),h.host]
 unfold Ef
 rw[if_neg (by simp[h.ne,h.no]),if_neg (by simp)]
theorem LV {s:Bytes}{a:pZ}(h:ct s=(a,0)):ct (dU a)=(a,0)∧(dU a).length≤s.length:=by
 obtain⟨h1,h2,h3⟩:=AA h
 exact⟨LU h1 (by omega),h2⟩
open Go Go.RowKit
structure iz where
 method:Bytes
 id:Bytes
 deriving DecidableEq
def iz.none:iz:=⟨[],[]⟩
structure DidUrl where
 did:iz
 path:Bytes
 query:Bytes
 fragment:Bytes
 aD:Bool
 aP:Bool
 deriving DecidableEq
def DidUrl.none:DidUrl:=⟨iz.none,[],[],[],false,false⟩
def df (c:UInt8):Bool:=isAlpha c||isDigit c||([46,45,95]:Bytes).contains c
def kF (c:UInt8):Bool:=isDigit c||decide (97≤c.toNat∧c.toNat≤122)
def ij (s:Bytes):Bool:=!s.isEmpty&&s.all kF
def kn (c:UInt8):Bytes:=if df c then [c] else nw c
def aV (s:Bytes):Bytes:=s.flatMap kn
def qW:PU→Bytes
 | .lit c=>[c]
 | .hex a b=>kn (unhex a b)
 | .bad=>[]
def wX:PU→Bool
 | .lit c=>df c||c==58
 | _=>true
def eU (s:Bytes):Bytes × Int :=
 if PU.bad∈aJ s then([],2) else if (aJ s).all wX=false then([],1) else((aJ s).flatMap qW,0)
def tj (m:Bytes)(c:Bytes × Int):iz × Int :=
 if c.2≠0 then(iz.none,c.2) else if c.1=[]∨c.1.getLast? = some 58 then(iz.none,3) else(⟨m,c.1⟩,0)
def rB (s:Bytes):iz × Int :=
 if (aN 58 s).2.2=false then(iz.none,6)
 else if ij (aN 58 s).1=false then(iz.none,100)
 else tj (aN 58 s).1 (eU (aN 58 s).2.1)
def qX:Bytes:=[100,105,100,58]
def bE (s:Bytes):iz × Int :=
 if 4096<s.length then(iz.none,5)
 else if qX.isPrefixOf s=false then(iz.none,60)
 else rB (s.drop 4)
def cg (d:iz):Bytes:=qX++d.method++[58]++d.id
theorem vd:∀ (l:List PU),(∀ x∈l,(∀ c,x=.lit c→c≠37)∧(∀ a b,x=.hex a b→bm a=true∧bm b=true)∧x≠.bad)→aJ (l.flatMap PU.str)=l
 | [],_=>rfl
 | .lit c::r,h=>by
   have h1:=(h _ zSe).1 c rfl
   rw[zSf,PU.str,List.singleton_append,ey h1,vd r (fun x hx=>h x (zSc _ hx))]
 | .hex a b::r,h=>by
   have h1:=(h _ zSe).2.1 a b rfl
   rw[zSf,PU.str]
   simp only[zSm,zSP]
   rw[gO h1.1 h1.2,vd r (fun x hx=>h x (zSc _ hx))]
 | .bad::r,h=>((h _ zSe).2.2 rfl).elim
theorem om:∀ (f:Nat)(s:Bytes),s.length≤f→PU.bad ∉ cC f s→(cC f s).flatMap PU.str=s
 | 0,s,h,_=>by
   obtain rfl:=zSr.1 (Nat.le_zero.1 h)
   rfl
 | f+1,[],_,_=>rfl
 | f+1,c::r,h,hb=>by
   rw[cC]at hb ⊢
   simp only[zSh]at h
   split
   ·rename_i hc
    rw[if_pos hc]at hb
    cases hp:en r with
    | none=>rw[hp]at hb;simp at hb
    | some x =>
      obtain⟨a,b,r'⟩:=x
      rw[hp]at hb
      obtain⟨rfl,-,-⟩:=eh hp
      simp only[zSs,reduceCtorEq,false_or]at hb
      simp only[zSh]at h
      simp only[zSf,PU.str,om f r' (by omega) hb]
      rw[hc];rfl
   ·rename_i hc
    rw[if_neg hc]at hb
    simp only[zSs,reduceCtorEq,false_or]at hb
    simp only[zSf,PU.str,om f r (by omega) hb]
    rfl
theorem lj {s:Bytes}(h:PU.bad ∉ aJ s):(aJ s).flatMap PU.str=s:=om _ s (zSu _) h
theorem qd:∀ (f:Nat)(s:Bytes)(a b:UInt8),PU.hex a b∈cC f s→bm a=true∧bm b=true
 | 0,_,_,_,h=>by simp[cC]at h
 | _+1,[],_,_,h=>by simp[cC]at h
 | f+1,d::r,a,b,h=>by
   rw[cC]at h
   split at h
   ·cases hp:en r with
    | none=>rw[hp]at h;simp at h
    | some x =>
      obtain⟨a',b',r'⟩:=x
      rw[hp]at h
      obtain⟨-,h2,h3⟩:=eh hp
      simp only[zSs,PU.hex.injEq]at h
      rcases h with⟨rfl,rfl⟩|h
      ·exact⟨h2,h3⟩
      ·exact qd f _ a b h
   ·simp only[zSs,reduceCtorEq,false_or]at h
    exact qd f _ a b h
theorem p9 {s:Bytes}{a b:UInt8}(h:PU.hex a b∈aJ s):bm a=true∧bm b=true:=qd _ s a b h
theorem fY:∀ (n:Nat)(a b:Bytes),a.length≤n→PU.bad ∉ aJ a→aJ (a++58::b)=aJ a++.lit 58::aJ b
 | 0,a,b,h,_=>by
   obtain rfl:=zSr.1 (Nat.le_zero.1 h)
   rw[zSP,ey (by decide)];rfl
 | n+1,[],b,_,_=>by rw[zSP,ey (by decide)];rfl
 | n+1,c::a,b,h,hb=>by
   simp only[zSh]at h
   by_cases hc:c=37
   ·subst hc
    cases hp:en a with
    | none=>rw[ve hp]at hb;simp at hb
    | some x =>
      obtain⟨u,v,r⟩:=x
      obtain⟨rfl,h1,h2⟩:=eh hp
      rw[gO h1 h2]at hb ⊢
      simp only[zSh]at h
      simp only[zSm]
      rw[gO h1 h2,fY n r b (by omega) (by simpa using hb)]
   ·rw[ey hc]at hb ⊢
    rw[zSm,ey hc,fY n a b (by omega) (by simpa using hb)]
    rfl
def canD:PU→Prop
 | .lit c=>(df c||c==58)=true
 | .hex a b=>df (unhex a b)=false∧a=jt ((unhex a b).toNat / 16)∧b=jt ((unhex a b).toNat % 16)∧bm a=true∧bm b=true
 | .bad=>False
def uZ (s:Bytes):Prop:=∃ l:List PU,s=l.flatMap PU.str∧∀ x∈l,canD x
theorem vB {c:UInt8}(h:(df c||c==58)=true):c≠37∧c≠47∧c≠63∧c≠35:=by
 have:=dz (p:=fun c=>!(df c||c==58)||(c != 37&&c != 47&&c != 63&&c != 35)) (by decide +kernel) c
 rw[h]at this
 simpa[and_assoc] using this
theorem NY {c:UInt8}(h:bm c=true):c≠37∧c≠47∧c≠63∧c≠35∧c≠58:=by
 have:=dz (p:=fun c=>!(bm c)||(c != 37&&c != 47&&c != 63&&c != 35&&c != 58)) (by decide +kernel) c
 rw[h]at this
 simpa[and_assoc] using this
theorem I4 {l:List PU}(h:∀ x∈l,canD x):aJ (l.flatMap PU.str)=l :=
 vd l fun x hx=>by
  have:=h x hx
  cases x with
  | lit c=>exact⟨fun d e=>by cases e;exact(vB this).1,by simp,by simp⟩
  | hex a b=>exact⟨by simp,fun u v e=>by cases e;exact this.2.2.2,by simp⟩
  | bad=>exact this.elim
theorem I5 {s:Bytes}(h:uZ s):eU s=(s,0):=by
 obtain⟨l,rfl,hl⟩:=h
 unfold eU
 rw[I4 hl,if_neg (fun k=>absurd (hl _ k) (by simp[canD])),if_neg ?_]
 ·congr 1
  have:∀ m:List PU,(∀ x∈m,canD x)→m.flatMap qW=m.flatMap PU.str:=by
   intro m
   induction m with
   | nil=>intro _;rfl
   | cons x m ih =>
     intro hm
     rw[zSf,zSf,ih (fun y hy=>hm y (zSc _ hy))]
     congr 1
     have:=hm x zSe
     cases x with
     | lit c=>rfl
     | hex a b =>
       simp only[qW,kn,PU.str]
       rw[if_neg (by simp[this.1])]
       unfold nw
       rw[← this.2.1,← this.2.2.1]
     | bad=>exact this.elim
  exact this l hl
 ·simp only[Bool.not_eq_false]
  refine zSo.2 fun x hx=>?_
  have:=hl x hx
  cases x with
  | lit c=>exact this
  | hex a b=>rfl
  | bad=>rfl
theorem LN {s x:Bytes}(h:eU s=(x,0)):uZ x∧x.length≤s.length∧(∀ c∈s,c≠47∧c≠63∧c≠35):=by
 unfold eU at h
 split at h
 ·simp at h
 rename_i hb
 split at h
 ·simp at h
 rename_i ha
 simp only[Prod.mk.injEq,and_true]at h
 subst h
 have ha:(aJ s).all wX=true:=by simpa using ha
 have hs:=lj hb
 have hlit:∀ c,PU.lit c∈aJ s→(df c||c==58)=true:=fun c hc=>zSo.1 ha _ hc
 have hhex:=fun a b=>p9 (s:=s) (a:=a) (b:=b)
 generalize aJ s=l at *
 subst hs
 have key:∀ m:List PU,(∀ c,PU.lit c∈m→(df c||c==58)=true)→(∀ a b,PU.hex a b∈m→bm a=true∧bm b=true)→PU.bad ∉ m →
  uZ (m.flatMap qW)∧(m.flatMap qW).length≤(m.flatMap PU.str).length∧(∀ c∈m.flatMap PU.str,c≠47∧c≠63∧c≠35):=by
  intro m
  induction m with
  | nil=>intro _ _ _;exact⟨⟨[],rfl,by simp⟩,by simp,by simp⟩
  | cons x m ih =>
    intro h1 h2 h3
    obtain⟨⟨l',e',k'⟩,i2,i3⟩:=ih (fun c hc=>h1 c (zSc _ hc)) (fun a b hc=>h2 a b (zSc _ hc)) (fun hc=>h3 (zSc _ hc))
    simp only[zSf,zSd]
    cases x with
    | lit c =>
      have hc:=h1 c zSe
      refine⟨⟨.lit c::l',by rw[e'];rfl,fun y hy=>?_⟩,by rw[show (qW (.lit c)).length=1 from rfl,show (PU.str (.lit c)).length=1 from rfl];omega,fun d hd=>?_⟩
      ·rcases zSs.1 hy with rfl|hy
       ·exact hc
       ·exact k' y hy
      ·rcases zSj.1 hd with hd|hd
       ·obtain rfl:=zSi.1 hd;exact(vB hc).2
       ·exact i3 d hd
    | hex a b =>
      obtain⟨ha',hb'⟩:=h2 a b zSe
      have vW:∀ d∈PU.str (.hex a b)++m.flatMap PU.str,d≠47∧d≠63∧d≠35:=by
       intro d hd
       rcases zSj.1 hd with hd|hd
       ·simp only[PU.str,zSs,List.not_mem_nil,or_false]at hd
        rcases hd with rfl|rfl|rfl
        ·decide
        ·have:=NY ha';exact⟨this.2.1,this.2.2.1,this.2.2.2.1⟩
        ·have:=NY hb';exact⟨this.2.1,this.2.2.1,this.2.2.2.1⟩
       ·exact i3 d hd
      have q1:(qW (.hex a b)).length≤3:=by simp only[qW,kn];split <;> simp[nw]
      have q2:(PU.str (.hex a b)).length=3:=rfl
      have q3:(if df (unhex a b)=true then 1 else 3)=(qW (.hex a b)).length:=by simp only[qW,kn];split <;> simp[nw]
      by_cases hp:df (unhex a b)=true
      ·refine⟨⟨.lit (unhex a b)::l',by rw[e',zSf];simp only[qW,kn,hp,PU.str,if_true],fun y hy=>?_⟩,by omega,vW⟩
       rcases zSs.1 hy with rfl|hy
       ·show (df _||_)=true;rw[hp];rfl
       ·exact k' y hy
      ·have hp:df (unhex a b)=false:=by simpa using hp
       have hn:=(unhex a b).toNat_lt
       have hv:=kV (unhex a b)
       refine⟨⟨.hex (jt ((unhex a b).toNat / 16)) (jt ((unhex a b).toNat % 16))::l',by rw[e',zSf];simp only[qW,kn,hp,PU.str,nw,Bool.false_eq_true,if_false],fun y hy=>?_⟩,by omega,vW⟩
       rcases zSs.1 hy with rfl|hy
       ·exact⟨by rw[hv];exact hp,by rw[hv],by rw[hv],iq _ (by omega),iq _ (by omega)⟩
       ·exact k' y hy
    | bad=>exact(h3 zSe).elim
 exact key l hlit hhex hb
structure Ei (d:iz):Prop where
 method:ij d.method=true
 id:uZ d.id
 ne:d.id≠[]
 last:d.id.getLast? ≠ some 58
theorem B7 {s:Bytes}(h:ij s=true):∀ c∈s,c≠47∧c≠63∧c≠35∧c≠58:=by
 intro c hc
 unfold ij at h
 simp only[zSF]at h
 have h1:=zSo.1 h.2 c hc
 have:=dz (p:=fun c=>!(kF c)||(c != 47&&c != 63&&c != 35&&c != 58)) (by decide +kernel) c
 rw[h1]at this
 simpa[and_assoc] using this
theorem D6 {s:Bytes}{d:iz}(h:bE s=(d,0)):Ei d∧(cg d).length≤s.length∧s.length≤4096∧∀ c∈s,c≠47∧c≠63∧c≠35:=by
 unfold bE at h
 split at h
 ·simp at h
 split at h
 ·simp at h
 rename_i h1 h2
 have h2:qX.isPrefixOf s=true:=by simpa using h2
 obtain⟨r,rfl⟩:=List.isPrefixOf_iff_prefix.1 h2
 have e4:(qX++r).drop 4=r:=rfl
 rw[e4]at h
 unfold rB at h
 split at h
 ·simp at h
 split at h
 ·simp at h
 rename_i h3 h4
 have h3:(aN 58 r).2.2=true:=by simpa using h3
 have h4:ij (aN 58 r).1=true:=by simpa using h4
 unfold tj at h
 split at h
 ·rename_i h5;exact absurd (Prod.mk.inj h).2 h5
 split at h
 ·simp at h
 rename_i h5 h6
 simp only[not_or]at h6
 simp only[Prod.mk.injEq,and_true]at h
 subst h
 have e:eU (aN 58 r).2.1=((eU (aN 58 r).2.1).1,0):=by
  have:(eU (aN 58 r).2.1).2=0:=by simpa using h5
  rw[← this]
 obtain⟨k1,k2,k3⟩:=LN e
 have hlen:=Cz h3
 refine⟨⟨h4,k1,h6.1,h6.2⟩,?_,by omega,?_⟩
 ·simp only[cg,zSd,zSh,zSn];omega
 ·have hu:=uncut 58 r
  rw[if_pos h3]at hu
  intro c hc
  rcases zSj.1 hc with hc|hc
  ·have:∀ c∈qX,c≠47∧c≠63∧c≠35:=by decide
   exact this c hc
  ·rw[hu]at hc
   rcases zSj.1 hc with hc|hc
   ·have:=B7 h4 c hc;exact⟨this.1,this.2.1,this.2.2.1⟩
   ·rcases zSj.1 hc with hc|hc
    ·obtain rfl:=zSi.1 hc;decide
    ·exact k3 c hc
theorem D7 (s:Bytes)(h:(bE s).2≠0):(bE s).1=iz.none:=by
 unfold bE at h ⊢
 split
 ·rfl
 rename_i h1
 rw[if_neg h1]at h
 split
 ·rfl
 rename_i h2
 rw[if_neg h2]at h
 unfold rB at h ⊢
 split
 ·rfl
 rename_i h3
 rw[if_neg h3]at h
 split
 ·rfl
 rename_i h4
 rw[if_neg h4]at h
 unfold tj at h ⊢
 split
 ·rfl
 rename_i h5
 rw[if_neg h5]at h
 split
 ·rfl
 rename_i h6
 rw[if_neg h6]at h
 exact absurd rfl h
theorem GG {d:iz}(h:Ei d)(hl:(cg d).length≤4096):bE (cg d)=(d,0):=by
 unfold bE
 have e1:qX.isPrefixOf (cg d)=true:=rfl
 have e2:(cg d).drop 4=d.method++58::d.id:=by show d.method++[58]++d.id=_;simp
 rw[if_neg (by omega),if_neg (by rw[e1];simp),e2]
 unfold rB
 rw[iQ (fb (fun k=>(B7 h.method _ k).2.2.2 rfl)),if_neg (by simp),if_neg (by simp[h.method])]
 simp only
 rw[I5 h.id]
 unfold tj
 rw[if_neg (by simp),if_neg (by simp only[not_or];exact⟨h.ne,h.last⟩)]
open Go Go.RowKit
def repB (c:UInt8)(new:Bytes)(d:UInt8):Bytes:=if d=c then new else [d]
theorem lit_mem {s:Bytes}{c:UInt8}(hb:PU.bad ∉ aJ s)(hc:c≠37)(hx:bm c=false):c∈s↔PU.lit c∈aJ s:=by
 have hs:=lj hb
 constructor
 ·intro h
  rw[← hs]at h
  obtain⟨u,hu,h⟩:=zSM.1 h
  cases u with
  | lit d=>obtain rfl:=zSi.1 h;exact hu
  | hex a b =>
    have:=p9 hu
    simp only[PU.str,zSs,List.not_mem_nil,or_false]at h
    rcases h with rfl|rfl|rfl
    ·exact absurd rfl hc
    ·rw[this.1]at hx;cases hx
    ·rw[this.2]at hx;cases hx
  | bad=>simp[PU.str]at h
 ·intro h
  rw[← hs]
  exact zSM.2 ⟨_,h,zSi.2 rfl⟩
theorem mW:∀ (n:Nat)(a b:Bytes),a.length≤n→PU.bad∈aJ a→PU.bad∈aJ (a++58::b)
 | _,[],b,_,h=>by simp[gi]at h
 | 0,c::a,b,h,_=>by simp at h
 | n+1,c::a,b,h,hb=>by
   simp only[zSh]at h
   by_cases hc:c=37
   ·subst hc
    cases hp:en a with
    | none =>
      have:en (a++58::b)=none:=by
       rcases a with _|⟨u,_|⟨v,r⟩⟩
       ·cases b <;> simp[en,show bm 58=false by decide]
       ·simp[en,show bm 58=false by decide]
       ·unfold en at hp ⊢
        simp only[zSm]
        by_cases hx:(bm u&&bm v)=true
        ·simp[hx]at hp
        ·simp[hx]
      rw[zSm,ve this];simp
    | some x =>
      obtain⟨u,v,r⟩:=x
      obtain⟨rfl,h1,h2⟩:=eh hp
      rw[gO h1 h2]at hb
      simp only[zSh]at h
      simp only[zSm]
      rw[gO h1 h2]
      exact zSc _ (mW n r b (by omega) (by simpa using hb))
   ·rw[ey hc]at hb
    rw[zSm,ey hc]
    exact zSc _ (mW n a b (by omega) (by simpa using hb))
theorem su:∀ (l:List Bytes)(x:Bytes),((∃ y∈x::l,PU.bad∈aJ y)↔PU.bad∈aJ (x++l.flatMap (58::·))) ∧
 ((∀ y∈x::l,PU.bad ∉ aJ y)→aJ (x++l.flatMap (58::·))=aJ x++l.flatMap (fun y=>.lit 58::aJ y))
 | [],x=>by simp
 | y::l,x=>by
   obtain⟨h1,h2⟩:=su l y
   have e:x++(y::l).flatMap (58::·)=x++58::(y++l.flatMap (58::·)):=by simp
   rw[e]
   constructor
   ·constructor
    ·rintro⟨z,hz,hb⟩
     by_cases hx:PU.bad∈aJ x
     ·exact mW _ _ _ (zSu _) hx
     ·rw[fY _ _ _ (zSu _) hx]
      rcases zSs.1 hz with rfl|hz
      ·exact absurd hb hx
      ·exact List.mem_append_right _ (zSc _ (h1.1 ⟨z,hz,hb⟩))
    ·intro hb
     by_cases hx:PU.bad∈aJ x
     ·exact⟨x,zSe,hx⟩
     ·rw[fY _ _ _ (zSu _) hx]at hb
      rcases zSj.1 hb with hb|hb
      ·exact absurd hb hx
      ·simp only[zSs,reduceCtorEq,false_or]at hb
       obtain⟨z,hz,hb⟩:=h1.2 hb
       exact⟨z,zSc _ hz,hb⟩
   ·intro h
    rw[fY _ _ _ (zSu _) (h x zSe),h2 (fun z hz=>h z (zSc _ hz))]
    simp
def e7 (y:Bytes):Bool:=y.all fun c=>df c||c==37
def lP (y:Bytes):Bytes:=(aJ y).map PU.val
theorem Ck {c:UInt8}(h:bm c=true):df c=true:=by
 have:=dz (p:=fun c=>!(bm c)||df c) (by decide +kernel) c
 rw[h]at this
 simpa using this
theorem lr {y:Bytes}(hb:PU.bad ∉ aJ y)(hc:(58:UInt8) ∉ y):e7 y=(aJ y).all wX:=by
 have key:∀ l:List PU,(∀ a b,PU.hex a b∈l→bm a=true∧bm b=true)→(∀ c,PU.lit c∈l→c≠37)→(58:UInt8) ∉ l.flatMap PU.str →
  (l.flatMap PU.str).all (fun c=>df c||c==37)=l.all wX:=by
  intro l
  induction l with
  | nil=>intros;rfl
  | cons u l ih =>
    intro hh hl hc
    have ih:=ih (fun a b k=>hh a b (zSc _ k)) (fun c k=>hl c (zSc _ k)) (fun k=>hc (by rw[zSf];exact List.mem_append_right _ k))
    rw[zSf,zSO,List.all_cons,ih]
    congr 1
    cases u with
    | lit c =>
      have h1:c≠37:=hl c zSe
      have h2:c≠58:=by rintro rfl;exact hc (by simp[PU.str])
      have e1:(c==37)=false:=by simpa using h1
      have e2:(c==58)=false:=by simpa using h2
      simp[PU.str,wX,e1,e2]
    | hex a b =>
      obtain⟨h1,h2⟩:=hh a b zSe
      simp[PU.str,wX,Ck h1,Ck h2]
    | bad=>rfl
 have:=key (aJ y) (fun a b=>p9) (wC y) (by rw[lj hb];exact hc)
 rw[lj hb]at this
 exact this
theorem BA {l:List PU}(h:∀ c,PU.lit c∈l→df c=true)(hb:PU.bad ∉ l):l.flatMap qW=aV (l.map PU.val):=by
 induction l with
 | nil=>rfl
 | cons u l ih =>
   have ih:=ih (fun c k=>h c (zSc _ k)) (fun k=>hb (zSc _ k))
   rw[zSf,ih,zSy]
   show _=kn u.val++aV (l.map PU.val)
   congr 1
   cases u with
   | lit c=>simp[qW,PU.val,kn,h c zSe]
   | hex a b=>rfl
   | bad=>exact absurd zSe hb
def j9 (x:Bytes)(l:List Bytes):Bytes:=aV (lP x)++l.flatMap fun y=>58::aV (lP y)
theorem HR {s x:Bytes}{l:List Bytes}(e:s=x++l.flatMap (58::·))(hn:∀ y∈x::l,(58:UInt8) ∉ y) :
 eU s=if ∃ y∈x::l,PU.bad∈aJ y then([],2) else if (x::l).all e7=false then([],1) else(j9 x l,0):=by
 obtain⟨h1,h2⟩:=su l x
 rw[← e]at h1 h2
 unfold eU
 by_cases hb:∃ y∈x::l,PU.bad∈aJ y
 ·rw[if_pos hb,if_pos (h1.1 hb)]
 ·rw[if_neg hb,if_neg (fun k=>hb (h1.2 k))]
  have hb:∀ y∈x::l,PU.bad ∉ aJ y:=fun y hy k=>hb ⟨y,hy,k⟩
  rw[h2 hb]
  have bp:(aJ x++l.flatMap fun y=>PU.lit 58::aJ y).all wX=(x::l).all e7:=by
   rw[zSO,List.all_cons,lr (hb x zSe) (hn x zSe)]
   congr 1
   have:∀ m:List Bytes,(∀ y∈m,PU.bad ∉ aJ y∧(58:UInt8) ∉ y)→(m.flatMap fun y=>PU.lit 58::aJ y).all wX=m.all e7:=by
    intro m
    induction m with
    | nil=>intro _;rfl
    | cons y m ih =>
      intro hm
      rw[zSf,zSO,List.all_cons,List.all_cons,ih (fun z hz=>hm z (zSc _ hz)),lr (hm y zSe).1 (hm y zSe).2]
      rfl
   exact this l fun y hy=>⟨hb y (zSc _ hy),hn y (zSc _ hy)⟩
  rw[bp]
  by_cases ha:(x::l).all e7=false
  ·rw[if_pos ha,if_pos ha]
  ·rw[if_neg ha,if_neg ha]
   have ha:(x::l).all e7=true:=by simpa using ha
   congr 1
   have hp:∀ y∈x::l,(aJ y).flatMap qW=aV (lP y):=by
    intro y hy
    refine BA (fun c hc=>?_) (hb y hy)
    have h3:=zSo.1 ha y hy
    rw[lr (hb y hy) (hn y hy)]at h3
    have h4:(df c||c==58)=true:=zSo.1 h3 _ hc
    have h5:c≠58:=by
     rintro rfl
     exact hn y hy ((lit_mem (hb y hy) (by decide) (by decide)).2 hc)
    simpa[h5] using h4
   rw[zSp,hp x zSe]
   unfold j9
   congr 1
   have:∀ m:List Bytes,(∀ y∈m,(aJ y).flatMap qW=aV (lP y))→(m.flatMap fun y=>PU.lit 58::aJ y).flatMap qW=m.flatMap fun y=>58::aV (lP y):=by
    intro m
    induction m with
    | nil=>intro _;rfl
    | cons y m ih =>
      intro hm
      rw[zSf,zSp,zSf,zSf,ih (fun z hz=>hm z (zSc _ hz)),hm y zSe]
      rfl
   exact this l fun y hy=>hp y (zSc _ hy)
theorem OK (s:Bytes):(58:UInt8) ∉ aV s:=by
 intro hc
 obtain⟨d,-,hd⟩:=zSM.1 hc
 have h1:=dz (p:=fun d=>(kn d).all fun c=>c != 58) (by decide +kernel) d
 have:=zSo.1 h1 _ hd
 simp at this
theorem JU {s:Bytes}:aV s=[]↔s=[]:=by
 constructor
 ·intro h
  cases s with
  | nil=>rfl
  | cons c s =>
    have:kn c++aV s=[]:=h
    have h2:kn c=[]:=(List.append_eq_nil_iff.1 this).1
    unfold kn nw at h2
    split at h2 <;> simp at h2
 ·rintro rfl;rfl
theorem GL {y:Bytes}(hb:PU.bad ∉ aJ y):lP y=[]↔y=[]:=by
 constructor
 ·intro h
  have:aJ y=[]:=List.map_eq_nil_iff.1 h
  rw[← lj hb,this];rfl
 ·rintro rfl;rfl
theorem Kn {x:Bytes}{l:List Bytes}(hb:∀ y∈x::l,PU.bad ∉ aJ y):(j9 x l=[]∨(j9 x l).getLast? = some 58)↔(x::l).getLast? = some []:=by
 have last:∀ y:Bytes,(aV y).getLast? ≠ some 58:=fun y k=>OK y (zSD k)
 rcases List.eq_nil_or_concat l with rfl|⟨m,z,rfl⟩
 ·unfold j9
  rw[List.flatMap_nil,zSw,JU,GL (hb x zSe)]
  simp[last]
 ·rw[List.concat_eq_append]at *
  have hz:=hb z (by simp)
  have e:j9 x (m++[z])=j9 x m++58::aV (lP z):=by simp[j9]
  rw[e,show x::(m++[z])=(x::m)++[z] by simp,zSN,zSN]
  simp only[List.getLast?_singleton,Option.some_or,Option.some.injEq]
  constructor
  ·rintro(h|h)
   ·simp at h
   ·cases hd:aV (lP z) with
    | nil=>exact(GL hz).1 (JU.1 hd)
    | cons a r =>
      rw[hd]at h
      rw[List.getLast?_cons_cons,← hd]at h
      cases hq:(aV (lP z)).getLast? with
      | none=>rw[List.getLast?_eq_none_iff]at hq;rw[hq]at hd;cases hd
      | some w=>rw[hq]at h;exact absurd (by rw[hq];simpa using h) (last (lP z))
  ·rintro rfl
   right
   simp[lP,gi,aV]
open Go Go.RowKit
theorem Fj {p:UInt8→Bool}:∀ {a:Bytes}(r:Bytes),(∀ c∈a,p c=false)→pre p (a++r)=a.length+pre p r
 | [],r,_=>by simp
 | c::a,r,h=>by
   have h1:=h c zSe
   have ih:=Fj (a:=a) r (fun d hd=>h d (zSc _ hd))
   rw[zSm,cT,h1,if_neg (by simp),ih,zSh]
   omega
theorem LL {c:UInt8}{a:Bytes}(r:Bytes)(h:c ∉ a):aN c (a++r)=(a++(aN c r).1,(aN c r).2.1,(aN c r).2.2):=by
 have hp:pre (·==c) (a++r)=a.length+pre (·==c) r:=Fj r fun d hd=>by
  have:d≠c:=by rintro rfl;exact h hd
  simpa using this
 by_cases hr:pre (·==c) r<r.length
 ·rw[show aN c r=(r.take (pre (·==c) r),r.drop (pre (·==c) r+1),true) from if_pos hr]
  rw[show aN c (a++r)=((a++r).take (pre (·==c) (a++r)),(a++r).drop (pre (·==c) (a++r)+1),true) from if_pos (by rw[hp,zSd];omega)]
  rw[hp,List.take_length_add_append,Nat.add_assoc,List.drop_length_add_append]
 ·have hle:=cV (·==c) r
  rw[gn (s:=r) (by omega),gn (s:=a++r) (by rw[hp,zSd];omega)]
theorem so (c:UInt8):∀ (n:Nat)(s:Bytes),s.length≤n→∃ x l,aF c s=x::l∧s=x++l.flatMap (c::·)∧∀ y∈x::l,c ∉ y:=by
 intro n
 induction n with
 | zero =>
   intro s h
   obtain rfl:=zSr.1 (Nat.le_zero.1 h)
   exact⟨[],[],rfl,rfl,by simp⟩
 | succ n ih =>
   intro s h
   have sX:c ∉ s.take (pre (·==c) s):=by
    intro hm
    obtain⟨j,hj,e⟩:=List.getElem_of_mem hm
    have gm:j<pre (·==c) s∧j<s.length:=by rw[List.length_take]at hj;omega
    have:=jc (p:=(·==c)) (l:=s) (k:=j) gm.1 gm.2
    rw[List.getElem_take]at e
    rw[e]at this
    simp at this
   by_cases hp:pre (·==c) s<s.length
   ·obtain⟨x,l,e1,e2,e3⟩:=ih (s.drop (pre (·==c) s+1)) (by simp;omega)
    refine⟨s.take (pre (·==c) s),x::l,by rw[dH hp,e1],?_,?_⟩
    ·have hg:=iC hp
     simp only[beq_iff_eq]at hg
     conv=>lhs;rw[← List.take_append_drop (pre (·==c) s) s,List.drop_eq_getElem_cons hp,hg,e2]
     simp
    ·intro y hy
     rcases zSs.1 hy with rfl|hy
     ·exact sX
     ·exact e3 y hy
   ·have hq:=cV (·==c) s
    rw[zSK (by omega)]at sX
    exact⟨s,[],dm hp,by simp,by simpa using sX⟩
def fZ:List Bytes→Bytes
 | []=>[]
 | x::l=>j9 x l
theorem AN (l:List Bytes)(y:Bytes):fZ (l++[y])=fZ l++(if l=[] then [] else [58])++aV (lP y):=by
 cases l with
 | nil=>simp[fZ,j9]
 | cons x l=>simp[fZ,j9]
theorem AM {l:List Bytes}{k:Nat}(h:k<l.length):fZ (l.take (k+1))=fZ (l.take k)++(if k=0 then [] else [58])++aV (lP l[k]):=by
 rw[List.take_succ_eq_append_getElem h,AN]
 congr 2
 cases k with
 | zero=>simp
 | succ k=>cases l with
   | nil=>simp at h
   | cons x l=>simp
theorem OX (c:UInt8):(kn c).length≤3:=by unfold kn;split <;> simp[nw]
theorem iF (s:Bytes):(aV s).length≤3 * s.length:=by
 induction s with
 | nil=>simp[aV]
 | cons c s ih =>
   have:=OX c
   show (kn c++aV s).length≤_
   rw[zSd,zSh]
   omega
theorem qe:∀ (f:Nat)(s:Bytes),(cC f s).length≤f
 | 0,s=>by simp[cC]
 | f+1,[]=>by simp[cC]
 | f+1,c::r=>by
   rw[cC]
   split
   ·split
    ·rename_i a b r' h
     have:=qe f r'
     simpa using this
    ·simp
   ·have:=qe f r
    simpa using this
theorem nZ (y:Bytes):(lP y).length≤y.length:=by
 have:=qe y.length y
 simpa[lP,aJ] using this
theorem CR:∀ (l:List Bytes),(fZ l).length≤3 * l.flatten.length+l.length
 | []=>by simp[fZ]
 | x::l=>by
   have h1:=iF (lP x)
   have h2:=nZ x
   have h3:∀ m:List Bytes,(m.flatMap fun y=>58::aV (lP y)).length≤3 * m.flatten.length+m.length:=by
    intro m
    induction m with
    | nil=>simp
    | cons y m ih =>
      have k1:=iF (lP y)
      have k2:=nZ y
      simp only[zSf,zSd,zSh,zSB]at ih ⊢
      omega
   have h4:=h3 l
   simp only[fZ,j9,zSd,zSB,zSh]
   omega
theorem GI (m s:Bytes):tj m (eU s) =
 if ∃ y∈aF 58 s,PU.bad∈aJ y then(iz.none,2) else if (aF 58 s).all e7=false then(iz.none,1)
 else if (aF 58 s).getLast? = some [] then(iz.none,3) else(⟨m,fZ (aF 58 s)⟩,0):=by
 obtain⟨x,l,e1,e2,e3⟩:=so 58 _ s (zSu _)
 rw[e1,HR e2 e3]
 by_cases hb:∃ y∈x::l,PU.bad∈aJ y
 ·rw[if_pos hb,if_pos hb];rfl
 rw[if_neg hb,if_neg hb]
 by_cases ha:(x::l).all e7=false
 ·rw[if_pos ha,if_pos ha];rfl
 rw[if_neg ha,if_neg ha]
 have hb:∀ y∈x::l,PU.bad ∉ aJ y:=fun y hy k=>hb ⟨y,hy,k⟩
 have hs:=Kn hb
 unfold tj
 rw[if_neg (by simp)]
 by_cases hq:(x::l).getLast? = some []
 ·rw[if_pos hq,if_pos (hs.2 hq)]
 ·rw[if_neg hq,if_neg (fun k=>hq (hs.1 k))];rfl
theorem oU {y:Bytes}(h:y.length≤16384):aB y=if PU.bad∈aJ y then([],2) else(lP y,0):=if_neg (by omega)
open Go Go.RowKit
def gM:Bytes:=[119,101,98]
def dX:Bytes:=[47,46,119,101,108,108,45,107,110,111,119,110,47,100,105,100,46,106,115,111,110]
def ik:Bytes:=[100,105,100,46,106,115,111,110]
def bV (d:iz):(Bytes × Int) × Int :=
 if d.method≠gM then(([],0),100)
 else if (bE (cg d)).2≠0 then(([],0),(bE (cg d)).2)
 else aK (aB (aN 58 d.id).1).1
def mw (x:Bytes):Bool:=(aB x).2==0&&(aB x).1 != []&&(aB x).1 != [46]&&(aB x).1 != [46,46]
def rQ (x:Bytes):Bytes:=47::aH [] (aB x).1
def ou (l:List Bytes):Bytes:=if l=[] then dX else l.flatMap rQ++47::ik
def nJ (u:bM):bM × Int:=if 4096<(aX u).length then(bM.none,5) else(u,0)
def gq (d:iz):bM × Int :=
 if (bV d).2≠0 then(bM.none,(bV d).2)
 else if (aF 58 d.id).tail.all mw=false then(bM.none,110)
 else nJ ⟨(bV d).1.1,(bV d).1.2,ou (aF 58 d.id).tail,[],[],false,false⟩
def ir (c:UInt8):Bool:=c==37||ia c
def dR (x:Bytes):Bool:=x.all ir&&(aB x).2==0&&(aB x).1 != []
def cS (x:Bytes):Bytes:=58::aV (aB x).1
def bL (u:bM):Bytes:=u.host++(if u.port=0 then [] else [37,51,65]++bW u.port.natAbs)
def oP (d:iz):iz × Int:=if 4096<(cg d).length then(iz.none,5) else(d,0)
def lN (u:bM)(l:List Bytes):iz × Int :=
 if u.path=dX then oP ⟨gM,bL u⟩
 else if l.all dR=false then(iz.none,110)
 else oP ⟨gM,bL u++l.flatMap cS⟩
def kO (u:bM):iz × Int :=
 if bQ u=false then(iz.none,8)
 else if u.aD=true∨u.aP=true∨(aF 47 u.path).tail.getLast? ≠ some ik then(iz.none,6)
 else if (aF 47 u.path).tail.length=1 then(iz.none,110)
 else lN u (aF 47 u.path).tail.dropLast
def fW (d:iz):iz × Int:=if (gq d).2≠0 then(iz.none,(gq d).2) else kO (gq d).1
theorem wH (c:UInt8):∀ (l:List Bytes)(x:Bytes),c ∉ x→(∀ y∈l,c ∉ y)→aF c (x++l.flatMap (c::·))=x::l
 | [],x,hx,_=>by
   rw[List.flatMap_nil,zSw]
   exact dm (by rw[fb hx];omega)
 | y::l,x,hx,hl=>by
   have hp:pre (·==c) (x++(y::l).flatMap (c::·))=x.length:=by
    rw[zSf,zSm]
    exact Dk (fb hx) c _ (by simp)
   rw[dH (by rw[hp];simp),hp,List.take_left,← List.drop_drop,List.drop_left,zSf,zSm,List.drop_succ_cons,List.drop_zero,
    wH c l y (hl y zSe) (fun z hz=>hl z (zSc _ hz))]
theorem wF (c:UInt8):∀ (n:Nat)(s:Bytes),s.length≤n→∃ x l,aF c s=x::l∧s=x++l.flatMap (c::·)∧c ∉ x∧∀ y∈l,c ∉ y
 | n,s,h=>by
   by_cases hp:pre (·==c) s<s.length
   ·match n,h with
    | 0,h=>omega
    | n+1,h =>
      obtain⟨x,l,e1,e2,e3,e4⟩:=wF c n (s.drop (pre (·==c) s+1)) (by simp;omega)
      refine⟨s.take (pre (·==c) s),x::l,by rw[dH hp,e1],?_,?_,?_⟩
      ·have:=iC hp
       simp only[beq_iff_eq]at this
       conv=>lhs;rw[← List.take_append_drop (pre (·==c) s) s,List.drop_eq_getElem_cons hp,this,e2]
       simp
      ·intro hm
       have h1:=(Fi (·==c) s)
       obtain⟨k,hk,e⟩:=List.getElem_of_mem hm
       have:=jc (p:=(·==c)) (l:=s.take (pre (·==c) s)) (k:=k) (by omega) hk
       rw[e]at this
       simp at this
      ·intro y hy
       rcases zSs.1 hy with rfl|hy
       ·exact e3
       ·exact e4 y hy
   ·refine⟨s,[],dm hp,by simp,fun hm=>?_,by simp⟩
    obtain⟨k,hk,e⟩:=List.getElem_of_mem hm
    have:=jc (p:=(·==c)) (l:=s) (k:=k) (by omega) hk
    rw[e]at this
    simp at this
theorem can_enc (also s:Bytes):Can also (aH [] s):=by
 induction s with
 | nil=>exact jV _
 | cons c s ih =>
   show Can also (nX [] c++aH [] s)
   refine oX ?_ ih
   unfold nX
   cases h:ia c
   ·simp;exact can_esc also h
   ·simp;exact uP (by unfold fw;rw[h];rfl) (Ez h)
theorem OO (s:Bytes):(47:UInt8) ∉ aH [] s:=by
 intro hc
 obtain⟨d,-,hd⟩:=zSM.1 hc
 have h1:=dz (p:=fun d=>(nX [] d).all fun c=>c != 47) (by decide +kernel) d
 have:=zSo.1 h1 _ hd
 simp at this
theorem JV {s t:Bytes}(h:aH [] s=aH [] t):s=t:=by
 have h1:=(ky [] s).1
 rw[h,(ky [] t).1]at h1
 exact h1.symm
theorem oT:∀ s:Bytes,(aJ (aV s)).map PU.val=s∧PU.bad ∉ aJ (aV s)
 | []=>⟨rfl,by simp[aV,gi]⟩
 | c::s=>by
   obtain⟨h1,h2⟩:=oT s
   have e:aV (c::s)=kn c++aV s:=rfl
   rw[e]
   unfold kn
   split
   ·rename_i hc
    have bK:c≠37:=by rintro rfl;exact absurd hc (by decide)
    rw[List.singleton_append,ey bK]
    exact⟨by simp[PU.val,h1],by simpa using h2⟩
   ·rw[BG]
    exact⟨by simp[PU.val,h1,kV],by simpa using h2⟩
theorem BB {s:Bytes}(h:(aV s).length≤16384):aB (aV s)=(s,0):=by
 obtain⟨h1,h2⟩:=oT s
 unfold aB
 rw[if_neg (by omega),if_neg h2,h1]
theorem uM (s:Bytes):∀ c∈aV s,c≠58:=by
 intro c hc
 obtain⟨d,-,hd⟩:=zSM.1 hc
 have h1:=dz (p:=fun d=>(kn d).all fun c=>c != 58) (by decide +kernel) d
 have:=zSo.1 h1 _ hd
 simpa using this
theorem Av:uZ []:=⟨[],rfl,by simp⟩
theorem lT {a b:Bytes}(ha:uZ a)(hb:uZ b):uZ (a++b):=by
 obtain⟨l,rfl,h1⟩:=ha
 obtain⟨m,rfl,h2⟩:=hb
 exact⟨l++m,by simp,fun x hx=>by
  rcases zSj.1 hx with h|h
  ·exact h1 x h
  ·exact h2 x h⟩
theorem Au {c:UInt8}(h:(df c||c==58)=true):uZ [c]:=⟨[.lit c],rfl,fun x hx=>by
 obtain rfl:=zSi.1 hx;exact h⟩
theorem O6 {c:UInt8}(h:df c=false):uZ (nw c):=⟨[.hex (jt (c.toNat / 16)) (jt (c.toNat % 16))],rfl,fun x hx=>by
 obtain rfl:=zSi.1 hx
 have hn:=c.toNat_lt
 have hv:=kV c
 exact⟨by rw[hv];exact h,by rw[hv],by rw[hv],iq _ (by omega),iq _ (by omega)⟩⟩
theorem GV (s:Bytes):uZ (aV s):=by
 induction s with
 | nil=>exact Av
 | cons c s ih =>
   show uZ (kn c++aV s)
   refine lT ?_ ih
   unfold kn
   cases h:df c
   ·simp;exact O6 h
   ·simp;exact Au (by rw[h];rfl)
theorem tp {s:Bytes}(h:∀ c∈s,df c=true):uZ s:=by
 induction s with
 | nil=>exact Av
 | cons c s ih=>exact lT (a:=[c]) (Au (by rw[h c zSe];rfl)) (ih fun d hd=>h d (zSc _ hd))
theorem Iz {x:Bytes}(h:ck x=(x,0)):∀ c∈x,df c=true:=by
 intro c hc
 have h1:=mN h c hc
 have:=dz (p:=fun c=>!(xY c||c==46)||df c) (by decide +kernel) c
 have h2:(xY c||c==46)=true:=by rcases h1 with h|rfl <;> simp[*]
 rw[h2]at this
 simpa using this
theorem wj (n:Nat):∀ c∈bW n,df c=true:=by
 intro c hc
 have:=xp n c hc
 unfold df;rw[this];simp
theorem host_ne {x:Bytes}(h:ck x=(x,0)):x≠[]:=by
 rintro rfl
 revert h;decide
theorem uz {u:bM}(h:aK (bt u.host u.port)=((u.host,u.port),0)):uZ (bL u)∧(58:UInt8) ∉ bL u∧bL u≠[]∧(aJ (bL u)).map PU.val=bt u.host u.port∧PU.bad ∉ aJ (bL u):=by
 obtain⟨-,h1,-,-,h2,-⟩:=cR h
 have hp:=Iz h1
 have gU:∀ s:Bytes,(∀ c∈s,df c=true)→∀ r,aJ (s++r)=s.map PU.lit++aJ r:=by
  intro s
  induction s with
  | nil=>intro _ r;rfl
  | cons c s ih =>
    intro hs r
    have:=(vB (c:=c) (by rw[hs c zSe];rfl)).1
    rw[zSm,ey this,ih (fun d hd=>hs d (zSc _ hd))]
    rfl
 have vl:∀ s:Bytes,(s.map PU.lit).map PU.val=s:=by intro s;simp[Function.comp_def,PU.val]
 have n58:∀ s:Bytes,(∀ c∈s,df c=true)→(58:UInt8) ∉ s:=fun s hs hm=>absurd (hs _ hm) (by decide)
 have nb:∀ s:Bytes,PU.bad ∉ s.map PU.lit:=by intro s;simp
 by_cases h0:u.port=0
 ·have e:bL u=u.host:=by unfold bL;rw[if_pos h0,zSw]
  have e2:bt u.host u.port=u.host:=by unfold bt;rw[if_pos h0]
  have e3:=gU u.host hp []
  rw[zSw,gi,zSw]at e3
  rw[e,e2,e3]
  exact⟨tp hp,n58 _ hp,host_ne h1,vl _,nb _⟩
 ·have e:bL u=u.host++([37,51,65]++bW u.port.natAbs):=by unfold bL;rw[if_neg h0]
  have e2:bt u.host u.port=u.host++[58]++bW u.port.natAbs:=by unfold bt;rw[if_neg h0,if_neg (by omega)]
  have e3:=gU u.host hp ([37,51,65]++bW u.port.natAbs)
  have e4:=gU _ (wj u.port.natAbs) []
  rw[zSw,gi,zSw]at e4
  have e5:aJ ([37,51,65]++bW u.port.natAbs)=.hex 51 65::aJ (bW u.port.natAbs):=gO (by decide) (by decide) _
  rw[e,e2,e3,e5,e4]
  refine⟨lT (tp hp) (lT (a:=[37,51,65]) ⟨[.hex 51 65],rfl,fun x hx=>?_⟩ (tp (wj _))),?_,by simp,?_,?_⟩
  ·obtain rfl:=zSi.1 hx
   refine⟨by decide,by decide,by decide,by decide,by decide⟩
  ·simp only[zSj,not_or]
   exact⟨n58 _ hp,by decide,n58 _ (wj _)⟩
  ·rw[List.map_append,zSy,vl,vl]
   simp[PU.val]
   decide
  ·simp
theorem Cr (c:UInt8):∀ (l:List Bytes),l≠[]→(∀ x∈l,x≠[])→(l.flatMap (c::·)).getLast? = (l.getLast?.getD []).getLast?
 | [],h,_=>absurd rfl h
 | [x],_,h=>by
   have hx:=h x zSe
   cases x with
   | nil=>exact absurd rfl hx
   | cons a x=>simp
 | x::y::l,_,h=>by
   have ih:=Cr c (y::l) (by simp) (fun z hz=>h z (zSc _ hz))
   rw[zSf,zSN,ih]
   have bK:((y::l).getLast?.getD [])≠[]:=by
    cases hl:(y::l).getLast? with
    | none=>simp at hl
    | some z=>exact h z (zSc _ (zSD hl))
   rw[List.getLast?_cons_cons]
   cases hz:((y::l).getLast?.getD []).getLast? with
   | none=>rw[List.getLast?_eq_none_iff]at hz;exact absurd hz bK
   | some z=>rfl
theorem I9 {u:bM}{ss:List Bytes}(hh:aK (bt u.host u.port)=((u.host,u.port),0))(hs:∀ s∈ss,s≠[]∧s≠[46]∧s≠[46,46])
 (hl:(cg ⟨gM,bL u++ss.flatMap fun s=>58::aV s⟩).length≤4096):Ei ⟨gM,bL u++ss.flatMap fun s=>58::aV s⟩:=by
 obtain⟨b1,b2,b3,b4,b5⟩:=uz hh
 have ef:(ss.flatMap fun s=>58::aV s)=(ss.map aV).flatMap (58::·):=by rw[zSA]
 have bK:∀ s∈ss,aV s≠[]:=fun s hm e=>by
  have h1:s≠[]:=(hs s hm).1
  have:=(oT s).1
  rw[e,gi]at this
  exact h1 this.symm
 refine⟨show ij gM=true by decide,lT b1 ?_,by simp[b3],?_⟩
 ·clear hl bK hs ef
  induction ss with
  | nil=>exact Av
  | cons s ss ih=>exact lT (lT (a:=[58]) (Au (by decide)) (GV s)) ih
 ·simp only
  cases ss with
  | nil =>
    rw[List.flatMap_nil,zSw]
    intro k
    exact b2 (zSD k)
  | cons s ss =>
    rw[ef,zSN,Cr 58 _ (by simp) (by
     intro x hx
     obtain⟨t,ht,rfl⟩:=zSG.1 hx
     exact bK t ht)]
    obtain⟨t,ht,e⟩:∃ t∈s::ss,((s::ss).map aV).getLast?.getD []=aV t:=by
     rw[List.getLast?_map]
     cases hq:(s::ss).getLast? with
     | none=>simp at hq
     | some t=>exact⟨t,zSD hq,rfl⟩
    rw[e]
    cases hz:(aV t).getLast? with
    | none=>rw[List.getLast?_eq_none_iff]at hz;exact absurd hz (bK t ht)
    | some z =>
      intro k
      obtain rfl:z=58:=by simpa using k
      exact uM t _ (zSD hz) rfl
theorem Ew {u:bM}{ss:List Bytes}(hh:aK (bt u.host u.port)=((u.host,u.port),0))(hs:∀ s∈ss,s≠[]∧s≠[46]∧s≠[46,46])
 (hl:(cg ⟨gM,bL u++ss.flatMap fun s=>58::aV s⟩).length≤4096) :
 bV ⟨gM,bL u++ss.flatMap fun s=>58::aV s⟩=((u.host,u.port),0)∧(aF 58 (bL u++ss.flatMap fun s=>58::aV s)).tail=ss.map aV∧(ss.map aV).all mw=true∧∀ s∈ss,(aB (aV s)).1=s:=by
 obtain⟨b1,b2,b3,b4,b5⟩:=uz hh
 have ef:(ss.flatMap fun s=>58::aV s)=(ss.map aV).flatMap (58::·):=by rw[zSA]
 have hlen:∀ s∈ss,(aV s).length≤4096:=by
  intro s hm
  have h1:(aV s).length≤(ss.flatMap fun s=>58::aV s).length:=by
   obtain⟨p,q,rfl⟩:=List.append_of_mem hm
   simp;omega
  simp[cg]at hl
  simp at h1
  omega
 have mh:(bL u).length≤4096:=by simp[cg]at hl;omega
 have Lh:∀ s∈ss,aB (aV s)=(s,0):=fun s hm=>BB (by have:=hlen s hm;omega)
 have bK:∀ s∈ss,aV s≠[]:=fun s hm e=>by
  have:=Lh s hm
  rw[e]at this
  exact(hs s hm).1 (Prod.mk.inj this).1.symm
 have tw:aF 58 (bL u++ss.flatMap fun s=>58::aV s)=bL u::ss.map aV:=by
  rw[ef]
  refine wH 58 _ _ b2 fun y hy=>?_
  obtain⟨s,-,rfl⟩:=zSG.1 hy
  exact fun k=>uM s _ k rfl
 have IE:=I9 hh hs hl
 have hr:=GG IE hl
 refine⟨?_,by rw[tw];rfl,zSo.2 fun x hx=>?_,fun s hm=>by rw[Lh s hm]⟩
 ·unfold bV
  rw[if_neg (by simp),hr,if_neg (by simp)]
  simp only
  have hc:(aN 58 (bL u++ss.flatMap fun s=>58::aV s)).1=bL u:=by
   cases ss with
   | nil=>rw[List.flatMap_nil,zSw,gn (fb b2)]
   | cons s ss=>rw[zSf,zSm,iQ (fb b2)]
  rw[hc]
  have hd:aB (bL u)=(bt u.host u.port,0):=by
   unfold aB
   rw[if_neg (by omega),if_neg b5,b4]
  rw[hd]
  exact hh
 ·obtain⟨s,hm,rfl⟩:=zSG.1 hx
  unfold mw
  rw[Lh s hm]
  have:=hs s hm
  simp[this.1,this.2.1,this.2.2]
theorem EG {d:iz}{u:bM}(h:gq d=(u,0)):bV d=((u.host,u.port),0)∧aK (bt u.host u.port)=((u.host,u.port),0)∧(∃ ss:List Bytes,(∀ s∈ss,s≠[]∧s≠[46]∧s≠[46,46])∧u=⟨u.host,u.port,if ss=[] then dX else ss.flatMap (fun s=>47::aH [] s)++47::ik,[],[],false,false⟩)∧(aX u).length≤4096:=by
 unfold gq at h
 split at h
 ·rename_i h1;exact absurd (Prod.mk.inj h).2 h1
 rename_i h1
 split at h
 ·simp at h
 rename_i h2
 unfold nJ at h
 split at h
 ·simp at h
 rename_i h3
 simp only[Prod.mk.injEq,and_true]at h
 subst h
 have h1:(bV d).2=0:=by simpa using h1
 have e:bV d=(((bV d).1.1,(bV d).1.2),0):=by rw[← h1]
 refine⟨e,?_,⟨(aF 58 d.id).tail.map fun x=>(aB x).1,?_,?_⟩,by omega⟩
 ·simp only
  unfold bV at e h1 ⊢
  split at h1
  ·simp at h1
  rename_i k1
  rw[if_neg k1]at e ⊢
  split at h1
  ·rename_i k2;exact absurd h1 k2
  rename_i k2
  rw[if_neg k2]at e ⊢
  exact(cR e).1
 ·intro s hs
  obtain⟨x,hx,rfl⟩:=zSG.1 hs
  have h2:(aF 58 d.id).tail.all mw=true:=by simpa using h2
  have:=zSo.1 h2 x hx
  unfold mw at this
  simp only[zSF,bne_iff_ne,ne_eq]at this
  exact⟨this.1.1.2,this.1.2,this.2⟩
 ·simp only[bM.mk.injEq,true_and,and_true]
  unfold ou
  by_cases k:(aF 58 d.id).tail=[]
  ·rw[if_pos k,if_pos (by rw[k];rfl)]
  ·rw[if_neg k,if_neg (by rw[List.map_eq_nil_iff];exact k),zSA]
   rfl
theorem MI {s:Bytes}(h:s≠[46]∧s≠[46,46]):oO (aH [] s):=by
 refine⟨OO s,fun e=>h.1 (JV (e.trans (by decide))),fun e=>h.2 (JV (e.trans (by decide)))⟩
theorem Na (ss:List Bytes):ss.flatMap (fun s=>47::aH [] s)++47::ik=gX (ss.map (aH [])++[ik]):=by
 unfold gX
 rw[zSp,zSA]
 simp
theorem M9 {ss:List Bytes}(h:∀ s∈ss,s≠[]∧s≠[46]∧s≠[46,46]):Can dI (ss.flatMap (fun s=>47::aH [] s)++47::ik)∧(∃ r,ss.flatMap (fun s=>47::aH [] s)++47::ik=47::r)∧aM (ss.flatMap (fun s=>47::aH [] s)++47::ik)=ss.flatMap (fun s=>47::aH [] s)++47::ik:=by
 refine⟨oX ?_ ?_,?_,?_⟩
 ·clear h
  induction ss with
  | nil=>exact jV _
  | cons s ss ih=>exact oX (oX (a:=[47]) (uP (by decide) (by decide)) (can_enc _ s)) ih
 ·refine⟨(47::ik).map PU.lit,by decide,?_⟩
  intro x hx
  obtain⟨c,hc,rfl⟩:=zSG.1 hx
  show fw dI c=true∧c≠37
  revert c;decide
 ·cases ss with
  | nil=>exact⟨_,rfl⟩
  | cons s ss=>exact⟨_,rfl⟩
 ·rw[Na]
  show fH _ _ []=_
  rw[qR _ _ _ (zSu _),zSP]
  intro x hx
  rcases zSj.1 hx with hx|hx
  ·obtain⟨s,hs,rfl⟩:=zSG.1 hx
   exact MI (h s hs).2
  ·obtain rfl:=zSi.1 hx
   refine⟨by decide,by decide,by decide⟩
theorem Fa:Can dI dX∧aM dX=dX:=by
 refine⟨⟨dX.map PU.lit,by decide,?_⟩,by decide +kernel⟩
 intro x hx
 obtain⟨c,hc,rfl⟩:=zSG.1 hx
 show fw dI c=true∧c≠37
 revert c;decide
theorem BM {d:iz}{u:bM}(h:gq d=(u,0)):fJ u∧u.aD=false∧u.aP=false∧bV d=((u.host,u.port),0):=by
 obtain⟨h1,h2,⟨ss,h3,h4⟩,h5⟩:=EG h
 have hq:u.aD=false:=by rw[h4]
 have hf:u.aP=false:=by rw[h4]
 have L8:u.query=[]:=by rw[h4]
 have kK:u.fragment=[]:=by rw[h4]
 have hp:Can dI u.path∧(∃ r,u.path=47::r)∧aM u.path=u.path:=by
  rw[h4]
  simp only
  split
  ·exact⟨Fa.1,⟨_,rfl⟩,Fa.2⟩
  ·exact M9 h3
 exact⟨⟨h2,hp.1,hp.2.1,hp.2.2,by rw[L8];exact jV _,by rw[kK];exact jV _,fun _=>L8,fun _=>kK,h5⟩,hq,hf,h1⟩
theorem zY {d c:iz}(h:oP d=(c,0)):c=d∧(cg d).length≤4096:=by
 unfold oP at h
 split at h
 ·simp at h
 ·exact⟨(Prod.mk.inj h).1.symm,by omega⟩
theorem EF {u:bM}{ss:List Bytes}(hu:fJ u)(hq:u.aD=false)(hf:u.aP=false)(hs:∀ s∈ss,s≠[]∧s≠[46]∧s≠[46,46])(hp:u.path=if ss=[] then dX else ss.flatMap (fun s=>47::aH [] s)++47::ik)
 (hl:(cg ⟨gM,bL u++ss.flatMap fun s=>58::aV s⟩).length≤4096):gq ⟨gM,bL u++ss.flatMap fun s=>58::aV s⟩=(u,0):=by
 obtain⟨h1,h2,h3,h4⟩:=Ew hu.host hs hl
 have e:ou (ss.map aV)=u.path:=by
  rw[hp]
  unfold ou
  by_cases k:ss=[]
  ·rw[if_pos (by rw[k];rfl),if_pos k]
  ·rw[if_neg (by simpa using k),if_neg k,zSA]
   congr 1
   clear hp hl h1 h2 h3 k hs
   induction ss with
   | nil=>rfl
   | cons s ss ih =>
     rw[zSf,zSf,ih (fun t ht=>h4 t (zSc _ ht)),rQ,h4 s zSe]
 unfold gq
 rw[h1,if_neg (by simp)]
 simp only
 rw[h2,h3,if_neg (by simp),e]
 have eu:(⟨u.host,u.port,u.path,[],[],false,false⟩:bM)=u:=by
  have q1:=hu.noq hq
  have q2:=hu.nof hf
  obtain⟨a,b,c,d,f,g,h⟩:=u
  simp only at hq hf q1 q2
  subst hq hf q1 q2
  rfl
 rw[eu]
 unfold nJ
 rw[if_neg (by have:=hu.len;omega)]
theorem Gw {also:Bytes}:∀ (l:List Bytes)(x:Bytes),Can also (x++l.flatMap (47::·))→Can also x∧∀ y∈l,Can also y
 | [],x,h=>⟨by simpa using h,by simp⟩
 | y::l,x,h=>by
   rw[zSf,zSm]at h
   obtain⟨h1,h2⟩:=h.split (by decide) (by decide)
   obtain⟨h3,h4⟩:=Gw l y (GR (by decide) h2).2
   refine⟨h1,fun z hz=>?_⟩
   rcases zSs.1 hz with rfl|hz
   ·exact h3
   ·exact h4 z hz
theorem OP {also x:Bytes}(h:Can also x)(hd:x.all ir=true):aH [] (aB x).1=x∨16384<x.length:=by
 by_cases hl:16384<x.length
 ·exact .inr hl
 left
 obtain⟨l,rfl,hk⟩:=h
 have hu:=rf also l hk
 have hb:PU.bad ∉ aJ (l.flatMap PU.str):=by rw[hu];exact fun k=>(hk _ k).elim
 unfold aB
 rw[if_neg hl,if_neg hb,hu]
 clear hu hb hl
 simp only
 induction l with
 | nil=>rfl
 | cons y l ih =>
   rw[zSf,zSO,zSF]at hd
   have ih:=ih (fun z hz=>hk z (zSc _ hz)) hd.2
   have hy:=hk y zSe
   rw[zSf,zSy]
   show nX [] y.val++aH [] (l.map PU.val)=_
   rw[ih]
   congr 1
   cases y with
   | lit c =>
     have:ir c=true:=by simpa[PU.str] using hd.1
     unfold ir at this
     have la:(c==37)=false:=by simpa using hy.2
     rw[la,Bool.false_or]at this
     simp[PU.val,nX,this,PU.str]
   | hex a b =>
     simp only[PU.val,nX,hy.1,PU.str]
     rw[if_neg (by simp)]
     unfold nw
     rw[← hy.2.1,← hy.2.2.1]
   | bad=>exact hy.elim
theorem from_to {u:bM}{x:iz}(hu:fJ u)(h:kO u=(x,0)):gq x=(u,0)∧∃ ss:List Bytes,x=⟨gM,bL u++ss.flatMap fun s=>58::aV s⟩∧(cg x).length≤4096∧∀ s∈ss,s≠[]∧s≠[46]∧s≠[46,46]:=by
 unfold kO at h
 split at h
 ·simp at h
 split at h
 ·simp at h
 rename_i h1 h2
 simp only[not_or,ne_eq,Classical.not_not]at h2
 obtain⟨h2,h3,h4⟩:=h2
 have h2:u.aD=false:=by simpa using h2
 have h3:u.aP=false:=by simpa using h3
 split at h
 ·simp at h
 rename_i h5
 unfold lN at h
 split at h
 ·rename_i h6
  obtain⟨rfl,hl⟩:=zY h
  refine⟨?_,[],by simp,hl,by simp⟩
  have:=EF (ss:=[]) hu h2 h3 (by simp) (by rw[if_pos rfl];exact h6) (by simpa using hl)
  simpa using this
 rename_i h6
 split at h
 ·simp at h
 rename_i h7
 have h7:(aF 47 u.path).tail.dropLast.all dR=true:=by simpa using h7
 obtain⟨x0,l0,e1,e2,e3,e4⟩:=wF 47 _ u.path (zSu _)
 obtain⟨r,hr⟩:=hu.EM
 have hx0:x0=[]:=by
  cases x0 with
  | nil=>rfl
  | cons a x0 =>
    rw[e2]at hr
    have:a=47:=by simpa using(List.cons.inj hr).1
    subst this
    exact absurd zSe e3
 subst hx0
 rw[e1,List.tail_cons]at h h4 h5 h7
 rw[zSP]at e2
 obtain⟨l,rfl⟩:∃ l,l0=l++[ik]:=by
  have bK:l0≠[]:=by rintro rfl;simp at h4
  refine⟨l0.dropLast,?_⟩
  have:=List.dropLast_concat_getLast bK
  rw[List.getLast?_eq_some_getLast bK]at h4
  rw[← Option.some.inj h4];exact this.symm
 rw[List.dropLast_concat]at h h7
 obtain⟨rfl,hl⟩:=zY h
 have IE:∀ y∈l,Can dI y:=by
  have:=hu.path
  rw[e2]at this
  exact fun y hy=>(Gw (l++[ik]) [] (by simpa using this)).2 y (List.mem_append_left _ hy)
 have Lg:∀ y∈l,y≠[46]∧y≠[46,46]:=by
  intro y hy
  have hc:=(Ar r).2
  have hd:=hu.dots
  rw[hr]at hd
  rw[hd]at hc
  rw[hr]at e1
  exact hc y (by rw[e1];exact zSc _ (List.mem_append_left _ hy))
 have hplen:u.path.length≤4096:=by have:=(iI u).1;have:=hu.len;omega
 have Iu:∀ y∈l,y.length≤4096:=by
  intro y hy
  have:y.length≤u.path.length:=by
   rw[e2]
   obtain⟨p,q,rfl⟩:=List.append_of_mem hy
   simp;omega
  omega
 have henc:∀ y∈l,aH [] (aB y).1=y:=by
  intro y hy
  have hd:=zSo.1 h7 y hy
  unfold dR at hd
  simp only[zSF]at hd
  rcases OP (IE y hy) hd.1.1 with k|k
  ·exact k
  ·have:=Iu y hy;omega
 have hss:∀ s∈l.map (fun y=>(aB y).1),s≠[]∧s≠[46]∧s≠[46,46]:=by
  intro s hs
  obtain⟨y,hy,rfl⟩:=zSG.1 hs
  have hd:=zSo.1 h7 y hy
  unfold dR at hd
  simp only[zSF,bne_iff_ne,ne_eq]at hd
  have he:=henc y hy
  refine⟨hd.2,fun k=>(Lg y hy).1 ?_,fun k=>(Lg y hy).2 ?_⟩
  ·rw[← he,k];decide
  ·rw[← he,k];decide
 have hid:l.flatMap cS=(l.map (fun y=>(aB y).1)).flatMap fun s=>58::aV s:=by
  rw[zSA];rfl
 have hpath:u.path=if l.map (fun y=>(aB y).1)=[] then dX else(l.map (fun y=>(aB y).1)).flatMap (fun s=>47::aH [] s)++47::ik:=by
  rw[if_neg (by intro k;rw[List.map_eq_nil_iff]at k;subst k;simp at h5)]
  rw[e2,zSp,zSA]
  have:∀ m:List Bytes,(∀ y∈m,aH [] (aB y).1=y)→m.flatMap (fun y=>47::aH [] (aB y).1)=m.flatMap (47::·):=by
   intro m
   induction m with
   | nil=>intro _;rfl
   | cons y m ih =>
     intro hm
     rw[zSf,zSf,ih (fun z hz=>hm z (zSc _ hz)),hm y zSe]
  rw[this l henc]
  simp
 rw[hid]at hl ⊢
 exact⟨EF hu h2 h3 hss hpath hl,_,rfl,hl,hss⟩
theorem nz {d c:iz}(h:fW d=(c,0)):∃ u,fJ u∧gq c=(u,0)∧kO u=(c,0)∧fW c=(c,0)∧bV c=((u.host,u.port),0)∧bE (cg c)=(c,0)∧(∃ r,c.id=bL u++r)∧c.method=gM:=by
 unfold fW at h
 split at h
 ·rename_i h1;exact absurd (Prod.mk.inj h).2 h1
 rename_i h1
 have e:gq d=((gq d).1,0):=by
  have:(gq d).2=0:=by simpa using h1
  rw[← this]
 obtain⟨hu,-⟩:=BM e
 obtain⟨h2,ss,h3,h4,h5⟩:=from_to hu h
 have hw:=Ew hu.host h5 (by rw[← h3];exact h4)
 rw[← h3]at hw
 have hc:Ei c:=by
  have hl:(cg ⟨gM,bL (gq d).1++ss.flatMap fun s=>58::aV s⟩).length≤4096:=by rw[← h3];exact h4
  have:=I9 hu.host h5 hl
  rw[← h3]at this
  exact this
 exact⟨_,hu,h2,h,by unfold fW;rw[h2];simp only[ne_eq,not_true,if_false];exact h,hw.1,GG hc h4,⟨ss.flatMap fun s=>58::aV s,by rw[h3]⟩,by rw[h3]⟩
open Go Go.RowKit
theorem uO (c:UInt8)(s:Bytes):∃ l,aF c s=(aN c s).1::l:=by
 by_cases hp:pre (·==c) s<s.length
 ·rw[dH hp,show aN c s=(s.take (pre (·==c) s),s.drop (pre (·==c) s+1),true) from if_pos hp]
  exact⟨_,rfl⟩
 ·rw[dm hp,show aN c s=(s,[],false) from if_neg hp]
  exact⟨_,rfl⟩
theorem GQ {s:Bytes}(h:(eU s).2=0):PU.bad ∉ aJ s:=by
 intro hb
 unfold eU at h
 rw[if_pos hb]at h
 simp at h
theorem Ay {d:iz}(hm:d.method=gM)(h:(bE (cg d)).2=0):d.id.length≤4096∧∀ y∈aF 58 d.id,PU.bad ∉ aJ y∧y.length≤4096:=by
 obtain⟨m,i⟩:=d
 simp only at hm
 subst hm
 have ht:cg ⟨gM,i⟩=qX++(gM++58::i):=by simp[cg]
 unfold bE at h
 split at h
 ·simp at h
 rename_i h1
 have hp:qX.isPrefixOf (cg ⟨gM,i⟩)=true:=by rw[ht];exact List.isPrefixOf_iff_prefix.2 ⟨_,rfl⟩
 rw[if_neg (by rw[hp];simp),ht,show (qX++(gM++58::i)).drop 4=gM++58::i from rfl]at h
 have hc:aN 58 (gM++58::i)=(gM,i,true):=by
  rw[LL (c:=58) (a:=gM) (58::i) (by decide)]
  rfl
 unfold rB at h
 rw[hc]at h
 simp only at h
 rw[if_neg (by simp),if_neg (by decide)]at h
 have h2:(eU i).2=0:=by
  by_cases k:(eU i).2=0
  ·exact k
  ·unfold tj at h
   rw[if_pos k]at h
   exact h
 have hb:=GQ h2
 obtain⟨x,l,e1,e2,e3⟩:=so 58 _ i (zSu _)
 have hu:=(su l x).1
 rw[← e2]at hu
 have dF:i.length≤4096:=by
  rw[ht]at h1
  simp only[zSd,zSh]at h1
  omega
 refine⟨dF,fun y hy=>⟨fun k=>hb (hu.1 ⟨y,by rw[← e1];exact hy,k⟩),?_⟩⟩
 have:=iA 58 i y hy
 omega
theorem I6 {d:iz}(hm:d.method=gM)(h:(bE (cg d)).2=0):aB (aN 58 d.id).1=(lP (aN 58 d.id).1,0):=by
 obtain⟨h1,h2⟩:=Ay hm h
 obtain⟨l,e⟩:=uO 58 d.id
 obtain⟨h3,h4⟩:=h2 (aN 58 d.id).1 (by rw[e];exact zSe)
 rw[oU (by omega),if_neg h3]
theorem ig (s:Bytes):(aB s).1.length≤s.length:=by
 unfold aB
 split
 ·simp
 ·split
  ·simp
  ·exact nZ s
theorem Ko (x:Bytes):(rQ x).length≤3 * x.length+1:=by
 have h1:=eO [] (aB x).1
 have h2:=ig x
 unfold rQ
 simp only[zSh]
 omega
theorem ER (x:Bytes):(cS x).length≤3 * x.length+1:=by
 have h1:=iF (aB x).1
 have h2:=ig x
 unfold cS
 simp only[zSh]
 omega
theorem JS:∀ l:List Bytes,(l.flatMap rQ).length≤3 * l.flatten.length+l.length
 | []=>by simp
 | x::l=>by
   have:=Ko x
   have:=JS l
   simp only[zSf,zSd,zSB,zSh]
   omega
theorem Cs:∀ l:List Bytes,(l.flatMap cS).length≤3 * l.flatten.length+l.length
 | []=>by simp
 | x::l=>by
   have:=ER x
   have:=Cs l
   simp only[zSf,zSd,zSB,zSh]
   omega
theorem yu (c:UInt8)(s:Bytes):(aF c s).flatten.length+(aF c s).length=s.length+1:=by
 obtain⟨x,l,e1,e2,-⟩:=so c _ s (zSu _)
 rw[e1]
 conv=>rhs;rw[e2]
 have:∀ l:List Bytes,(l.flatMap (c::·)).length=l.flatten.length+l.length:=by
  intro l
  induction l with
  | nil=>rfl
  | cons y l ih=>simp only[zSf,zSd,zSB,zSh,ih];omega
 simp only[zSB,zSd,zSh,this]
 omega
theorem Ag {d:iz}(h:(bV d).2=0):aK (bt (bV d).1.1 (bV d).1.2)=(((bV d).1.1,(bV d).1.2),0)∧d.method=gM∧(bE (cg d)).2=0:=by
 unfold bV at h ⊢
 by_cases h1:d.method=gM
 ·rw[if_neg (by simp[h1])]at h ⊢
  by_cases h2:(bE (cg d)).2=0
  ·rw[if_neg (by simp[h2])]at h ⊢
   refine⟨?_,h1,h2⟩
   generalize hX:aK (aB (aN 58 d.id).1).1=X at h ⊢
   obtain⟨⟨x,p⟩,e⟩:=X
   simp only at h ⊢
   subst h
   exact(cR hX).1
  ·rw[if_pos h2]at h
   exact absurd h h2
 ·rw[if_pos h1]at h
  simp at h
theorem Ey {u:bM}(hv:bQ u=true):∃ (T:List Bytes) (z:Bytes),aF 47 u.path=(aN 47 u.path).1::T∧T.getLast? = some z∧0<T.length∧u.path.length≤4096:=by
 have hc:=nH hv
 obtain⟨r,hr⟩:=hc.EM
 have hl:=(iI u).1
 have hlen:=hc.len
 obtain⟨T,hT⟩:=uO 47 u.path
 have h0:pre (·==47) (47::r)=0:=by simp[cT]
 have e:aF 47 (47::r)=[]::aF 47 r:=by
  rw[dH (by rw[h0];simp),h0]
  rfl
 have hT2:=hT
 rw[hr,e]at hT2
 have h2:=ib 47 r
 have h3:aF 47 r=T:=(List.cons.inj hT2).2
 have hT0:T≠[]:=by rintro rfl;rw[h3]at h2;simp at h2
 refine⟨T,T.getLast hT0,hT,List.getLast?_eq_some_getLast hT0,List.length_pos_iff.2 hT0,by omega⟩
theorem IM {u:bM}{c z:Bytes}{T:List Bytes}(hv:bQ u=true)(hT:aF 47 u.path=c::T)(hz:T.getLast? = some z) :
 kO u=if u.aD=true then(iz.none,6) else if u.aP=true then(iz.none,6) else if (z != ik)=true then(iz.none,6) else if T.length=1 then(iz.none,110) else lN u T.dropLast:=by
 unfold kO
 rw[if_neg (by rw[hv];simp),hT,List.tail_cons,hz]
 by_cases h1:u.aD=true
 ·rw[if_pos (.inl h1),if_pos h1]
 rw[if_neg h1]
 by_cases h2:u.aP=true
 ·rw[if_pos (.inr (.inl h2)),if_pos h2]
 rw[if_neg h2]
 by_cases h3:z=ik
 ·have hn:¬ (u.aD=true∨u.aP=true∨some z≠some ik):=by simp[h1,h2,h3]
  have hm:¬ (z != ik)=true:=by simp[h3]
  rw[if_neg hn,if_neg hm]
 ·rw[if_pos (.inr (.inr (by simpa using h3))),if_pos (by simpa using h3)]
end Wf
