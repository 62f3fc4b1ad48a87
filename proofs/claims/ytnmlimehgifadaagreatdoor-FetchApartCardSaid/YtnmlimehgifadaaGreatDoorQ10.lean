/- Texts of this claim, laid together: SameR, Law26, Law26w, Law26t, Open, Law24, Law24w, Law24p, Law26a, Law26b. -/
import Derived.Test.YtnmlimehgifadaaGreatDoorQ9
open And renaming intro → zTM
open List renaming getElem?_eq_some_iff → zTN, nil_append → zTP, cons_append → zTQ, length_append → zTR, take → zTV, take_succ_eq_append_getElem → zTW, length_eq_zero_iff → zTX
open Int renaming toNat_natCast → zTO
open Bool renaming not_true → zTT
open Nat renaming lt_or_ge → zTY
set_option linter.all false
set_option maxHeartbeats 16000000
set_option maxRecDepth 20000
namespace Go.Proofs.YtnmlimehgifadaaGreatDoor
open Go Vc Go.RowKit Wf
theorem tH {bs:List av}{x y:SV}{L:List (Bytes × Bytes)}(hx:Sx 100 2 x bs (L.flatMap fc) L.length)(hy:Sx 100 2 y bs (L.flatMap fc) L.length)(hL:L.length≤1000000) :
 SC Tryz.V 104 [x,y] bs (fun r b=>r=.bool true∧b=bs):=by
 refine db (by simp[flat]) ?_
 rcases hx with⟨rfl,-,h0⟩|⟨i,m,rfl,zL,hi⟩
 ·rcases hy with⟨rfl,-,-⟩|⟨-,-,-,h1,-⟩
  rotate_left
  ·omega
  refine bo 3000 Tryz.func104 rfl Tryz.ntmps104 Tryz.results104 Tryz.call104 (by simp) (ah bs.length _ (by simp[within,within.ax])) ?_
  refine dV ?_
  refine az (fun σ=>lk 12 σ.t=some (.int .i64 0)∧lk 13 σ.t=some (.int .i64 0)∧σ.b=bs) (fun _=>0) ⟨rfl,rfl,rfl⟩ ?_
  rintro⟨t,b⟩ ⟨iN,gy,hb⟩
  simp only at iN gy hb
  subst hb
  refine gK (zTM iN gy) ?_
  exact Kp.refl _
 ·rcases hy with⟨-,-,h0⟩|⟨j,m',rfl,-,hj⟩
  ·omega
  have dF:i<bs.length:=(zTN.1 hi).1
  have gw:j<bs.length:=(zTN.1 hj).1
  refine bo 3000 Tryz.func104 rfl Tryz.ntmps104 Tryz.results104 Tryz.call104 (by simp) (ah bs.length _ (by simp[within,within.ax,gw,dF])) ?_
  refine mc ?_
  refine az (fun σ=>∃ q:Nat,q≤L.length∧lk 0 σ.t=some (.o i L.length)∧lk 1 σ.t=some (.o j L.length)∧lk 12 σ.t=some (.int .i64 L.length)∧lk 13 σ.t=some (.int .i64 q)∧σ.b=bs) (fun σ=>L.length - fX 13 σ) ⟨0,by omega,rfl,rfl,rfl,rfl,rfl⟩ ?_
  rintro⟨t,b⟩ ⟨q,hq,h0,h1,iN,gy,hb⟩
  simp only at h0 h1 iN gy hb
  subst hb
  rw[ao gy]
  by_cases aA:q<L.length
  ·have bg:decide ((q:Int)<L.length)=true:=decide_eq_true (by omega)
   have hu:=OG L q aA
   have oI:=D0 L
   generalize L[q]=a at hu
   rw[show fc a=[.str a.1,.str a.2] from rfl]at hu
   refine gB (zTM h0 (zTM h1 (zTM iN (zTM gy (zTM hj (zTM hi (zTM hu (zTM oI (zTM bg zTO))))))))) ?_
   refine⟨⟨by omega,by omega⟩,by omega,⟨by omega,by omega⟩,by omega,(aq (by kernel_rfl)),⟨by omega,by omega⟩,⟨q+1,by omega,rfl⟩,?_⟩
   rw[ao (k:=.i64) (n:=(q:Int)+1) rfl];omega
  ·have js:q=L.length:=by omega
   subst js
   have bg:decide ((L.length:Int)<L.length)=false:=by simp
   refine gK (zTM h0 (zTM h1 (zTM iN (zTM gy bg)))) ?_
   exact Kp.refl _
theorem vt {bs:List av}{x y:SV}{L:List (bM × Int × Int)}(hx:Sx 62 9 x bs (L.flatMap ec) L.length)(hy:Sx 62 9 y bs (L.flatMap ec) L.length)(hL:L.length≤1000000) :
 SC Tryz.V 49 [x,y] bs (fun r b=>r=.bool true∧b=bs):=by
 refine db (by simp[flat]) ?_
 rcases hx with⟨rfl,-,h0⟩|⟨i,m,rfl,zL,hi⟩
 ·rcases hy with⟨rfl,-,-⟩|⟨-,-,-,h1,-⟩
  rotate_left
  ·omega
  refine bo 3000 Tryz.func49 rfl Tryz.ntmps49 Tryz.results49 Tryz.call49 (by simp) (ah bs.length _ (by simp[within,within.ax])) ?_
  refine dV ?_
  refine az (fun σ=>lk 12 σ.t=some (.int .i64 0)∧lk 13 σ.t=some (.int .i64 0)∧σ.b=bs) (fun _=>0) ⟨rfl,rfl,rfl⟩ ?_
  rintro⟨t,b⟩ ⟨iN,gy,hb⟩
  simp only at iN gy hb
  subst hb
  refine gK (zTM iN gy) ?_
  exact Kp.refl _
 ·rcases hy with⟨-,-,h0⟩|⟨j,m',rfl,-,hj⟩
  ·omega
  have dF:i<bs.length:=(zTN.1 hi).1
  have gw:j<bs.length:=(zTN.1 hj).1
  refine bo 3000 Tryz.func49 rfl Tryz.ntmps49 Tryz.results49 Tryz.call49 (by simp) (ah bs.length _ (by simp[within,within.ax,gw,dF])) ?_
  refine mc ?_
  refine az (fun σ=>∃ q:Nat,q≤L.length∧lk 0 σ.t=some (.o i L.length)∧lk 1 σ.t=some (.o j L.length)∧lk 12 σ.t=some (.int .i64 L.length)∧lk 13 σ.t=some (.int .i64 q)∧σ.b=bs) (fun σ=>L.length - fX 13 σ) ⟨0,by omega,rfl,rfl,rfl,rfl,rfl⟩ ?_
  rintro⟨t,b⟩ ⟨q,hq,h0,h1,iN,gy,hb⟩
  simp only at h0 h1 iN gy hb
  subst hb
  rw[ao gy]
  by_cases aA:q<L.length
  ·have bg:decide ((q:Int)<L.length)=true:=decide_eq_true (by omega)
   have hu:=Cu L q aA
   have oI:=D5 L
   generalize L[q]=a at hu
   rw[show ec a=[.str a.1.host,.int .i64 a.1.port,.str a.1.path,.str a.1.query,.str a.1.fragment,.bool a.1.aD,.bool a.1.aP,.int .i64 a.2.1,.int .i64 a.2.2] from rfl]at hu
   refine gB (zTM h0 (zTM h1 (zTM iN (zTM gy (zTM hj (zTM hi (zTM hu (zTM oI (zTM bg zTO))))))))) ?_
   refine⟨⟨by omega,by omega⟩,by omega,⟨by omega,by omega⟩,by omega,(aq (by kernel_rfl)),⟨by omega,by omega⟩,⟨q+1,by omega,rfl⟩,?_⟩
   rw[ao (k:=.i64) (n:=(q:Int)+1) rfl];omega
  ·have js:q=L.length:=by omega
   subst js
   have bg:decide ((L.length:Int)<L.length)=false:=by simp
   refine gK (zTM h0 (zTM h1 (zTM iN (zTM gy bg)))) ?_
   exact Kp.refl _
theorem EZ {bs:List av}{x y:SV}{L:List (Bytes × Bytes)}(a c:Int)(hx:Sx 100 2 x bs (L.flatMap fc) L.length)(hy:Sx 100 2 y bs (L.flatMap fc) L.length)(hL:L.length≤1000000) :
 SC Tryz.V 48 [.agg [.int .i64 a,.int .i64 c,x],.agg [.int .i64 a,.int .i64 c,y]] bs (fun r b=>r=.bool true∧b=bs):=by
 refine db (by simp[flat]) ?_
 have zD:=hx.within
 have Nw:=hy.within
 refine bo 3000 Tryz.func48 rfl Tryz.ntmps48 Tryz.results48 Tryz.call48 (by simp) (ah bs.length _ (by simp[within,within.ax,zD,Nw])) ?_
 refine dV ?_
 refine ae (tH (hx.app _) (hy.app _) hL) ?_
 rintro r b ⟨rfl,rfl⟩
 refine dV ?_
 exact(Kp.refl bs).app _
theorem wJ {bs:List av}{xf yf xt yt:SV}(q:gY)(T:List (bM × Int × Int))(hx:Sx 100 2 xf bs (q.fields.flatMap fc) q.fields.length)(hy:Sx 100 2 yf bs (q.fields.flatMap fc) q.fields.length)(hf:q.fields.length≤1000000)
 (hu:Sx 62 9 xt bs (T.flatMap ec) T.length) (hv:Sx 62 9 yt bs (T.flatMap ec) T.length) (ht:T.length≤1000000) :
 SC Tryz.V 18 [.agg (dy q xf xt),.agg (dy q yf yt)] bs (fun r b=>r=.bool true∧b=bs):=by
 refine db (by simp[flat]) ?_
 have zD:=hx.within
 have Nw:=hy.within
 have huw:=hu.within
 have hvw:=hv.within
 refine bo 3000 Tryz.func18 rfl Tryz.ntmps18 Tryz.results18 Tryz.call18 (by simp) (ah bs.length _ (by simp[within,within.ax,dy,uc,zD,Nw,huw,hvw])) ?_
 unfold dy uc
 refine dV ?_
 refine ae (EZ _ _ (hx.app _) (hy.app _) hf) ?_
 rintro r b ⟨rfl,rfl⟩
 refine dV ?_
 refine ae (vt (hu.app _) (hv.app _) ht) ?_
 rintro r b ⟨rfl,rfl⟩
 refine dV ?_
 exact(Kp.refl bs).app _
theorem E5:∀ a∈lv,a.raw.length≤4000000:=by
 rw[yG]
 intro a ha
 simp only[List.mem_cons,List.not_mem_nil,or_false]at ha
 rcases ha with rfl|rfl <;> decide
theorem Jg (p:Bytes)(h:p.length≤100):Fair (sU p):=⟨by have:aE.length=9:=rfl;simp[sU];omega,by simp[sU]⟩
theorem CP {e s L:Nat}{x:SV}{b:List av}{c:List SV}{n:Nat}(h:jW e s L x b c n)(hn:0<n):∃ q,x=.o q n∧q<b.length:=by
 rcases h with⟨-,-,h⟩|⟨j,h1,-,-,h3⟩
 ·omega
 ·exact⟨j,h1,(zTN.1 h3).1⟩
theorem run_1 {bs:List av}{j:Nat}{m:Bool}(hj:bs[j]? = some (.own (lv.flatMap ac) 33 7 2 m)):SC Tryz.V 16 [.o j 2,.int .u64 0,.agg [.str [97,46,101,120,97,109,112,108,101],.int .i64 0,.str [47],.str [],.str [],.bool false,.bool false]] bs (fun r b=>Kp bs b∧∃ q,r=.eW [.agg (dy gY.none .aj (.o q 1)),.int .i64 251]):=by
 have h:=gP (L:=lv) hj (by decide) E5 0 (sU [47]) (Jg _ (by decide))
 rw[sane_1]at h
 refine SC.mono h ?_
 rintro r b ⟨hk,yt,yf,rfl,h1,h2⟩
 obtain⟨q,rfl,-⟩:=CP h1 (by decide)
 rcases h2 with⟨rfl,-⟩|⟨j,-,h,-⟩
 ·exact⟨hk,q,rfl⟩
 ·exact absurd h (by decide)
theorem run_2 {bs:List av}{j:Nat}{m:Bool}(hj:bs[j]? = some (.own (lv.flatMap ac) 33 7 2 m)):SC Tryz.V 16 [.o j 2,.int .u64 0,.agg [.str [97,46,101,120,97,109,112,108,101],.int .i64 0,.str [47,120],.str [],.str [],.bool false,.bool false]] bs (fun r b=>Kp bs b∧∃ p q,r=.eW [.agg (dy ⟨sU [47,120],1,200,[(xx,Er)],[97,98,99]⟩ (.o p 1) (.o q 1)),.int .i64 0]):=by
 have h:=gP (L:=lv) hj (by decide) E5 0 (sU [47,120]) (Jg _ (by decide))
 rw[sane_2]at h
 refine SC.mono h ?_
 rintro r b ⟨hk,yt,yf,rfl,h1,h2⟩
 obtain⟨q,rfl,-⟩:=CP h1 (by decide)
 obtain⟨p,rfl,-⟩:=CP h2 (by decide)
 exact⟨hk,p,q,rfl⟩
theorem mZ {bs:List av}:SC Tryz.V 14 [] bs (fun r b=>r=.bool true∧Kp bs b):=by
 refine bo 3000 Tryz.func14 rfl Tryz.ntmps14 Tryz.results14 Tryz.call14 (by simp) (ah bs.length _ (by simp[within,within.ax])) ?_
 have w1:=fun X Y=>e9 (bs:=bs++[X]++[.own ([(zu,[47])].flatMap fc) 100 2 1 true]) (fs:=[(zu,[47])]) (.inr ⟨_,true,rfl,by decide,aC _ _⟩) (by decide) (by decide) 302 (by omega) [] (by simp) Y
 have w2:=fun X Y Z=>e9 (bs:=bs++[X]++[Y]) (x:=.aj) (fs:=[]) (.inl ⟨rfl,rfl,rfl⟩) (by decide) (by decide) 200 (by omega) [97,98,99] (by simp) Z
 simp only[List.flatMap_cons,List.flatMap_nil,fc,zTQ,zTP,List.length_cons,List.length_nil,Nat.zero_add]at w1
 unfold zu at w1
 refine mc ?_
 refine⟨by omega,ae (w1 _ _) ?_⟩
 rintro r b ⟨rfl,rfl⟩
 refine mc ?_
 refine ae (w2 _ _ _) ?_
 rintro r b ⟨rfl,rfl⟩
 refine mc ?_
 refine⟨by omega,ae (run_1 (aC _ _)) ?_⟩
 rintro r b ⟨hk,q,rfl⟩
 have kg:=((((Kp.refl bs).app _).app _).app _).trans hk
 have h0:=hk.at (ad (ad (aC bs _) _) _)
 have hl:=hk.at (aC _ _)
 unfold dy gY.none bM.none uc
 simp only[zTQ,zTP]
 have mh:bs.length<b.length:=(zTN.1 h0).1
 have hJ:∀ A B:av,(bs++[A]++[B]).length≠bs.length:=fun A B=>by simp
 have c0:=fun X=>ad h0 [X]
 have s0:∀ X Y,((b++[X]).set bs.length Y)[bs.length]? = some Y:=fun X Y=>List.getElem?_set_self (by simp;omega)
 refine gB (zTM h0 (zTM c0 s0)) ?_
 refine ae (run_2 ((List.getElem?_set_ne (hJ _ _).symm).trans (ad hl _))) ?_
 rintro r b3 ⟨eF,p3,q3,rfl⟩
 have hkb3:=((kg.app _).set (Nat.le_refl _) _).trans eF
 have r0:=eF.at ((List.getElem?_set_ne (by omega)).trans (aC b _))
 unfold dy sU uc
 simp only[zTQ,zTP]
 have r1:=fun X=>ad r0 [X]
 have r2:=fun X=>aC b3 X
 simp only[cz,↓Xn,↓Xo,↓Xg,↓Xd,↓Xe,↓Xf,Tryz.VΓ,Tryz.Γs,Xp,Xi,Nat.reduceAdd,Nat.reduceSub,Nat.reduceLT,Nat.reduceLeDiff,reduceIte,reduceCtorEq,Nat.reduceEqDiff,implies_true,forall_const,cw,nO,beq_self_eq_true,bne_self_eq_false,Int.reduceBEq,Int.reduceBNe,Int.reduceLT,Int.reduceLE,r0,r1,r2,zTQ,zTP]
 exact⟨fun _=>⟨rfl,hkb3.app _⟩,fun h=>absurd h (by decide)⟩
theorem jW.len {e s L:Nat}{x:SV}{b:List av}{c:List SV}{n:Nat}(h:jW e s L x b c n)(E:TypeId):oF (.slice E) x=some (.int .i64 n):=by
 rcases h with⟨rfl,-,rfl⟩|⟨j,rfl,-⟩ <;> rfl
theorem IP (L:List fK)(now:Int)(u:bM){k:Nat}(hd:(af L now u k).done=true)(hn:∀ j<k,(af L now u j).done=false):k≤6∧af L now u k=af L now u 6∧(af L now u 6).trace.length=k:=by
 cases hv:bQ u with
 | false =>
   have h0:(af L now u 0).done=true:=by unfold af bF;rw[if_pos hv]
   have hk:k=0:=by
    rcases Nat.eq_zero_or_pos k with h|h
    ·exact h
    ·rw[hn 0 h]at h0;cases h0
   subst hk
   refine⟨by omega,(dJ L now u h0 6 (by omega)).symm,?_⟩
   rw[dJ L now u h0 6 (by omega)]
   unfold af bF
   rw[if_pos hv]
   rfl
 | true =>
   obtain⟨k0,h1,h2,h3,h4,h5⟩:=tc L now hv
   have hk:k=k0:=by
    rcases Nat.lt_trichotomy k k0 with h|h|h
    ·rw[h5 k h]at hd;cases hd
    ·exact h
    ·have:=hn k0 h;rw[h3.done]at this;cases this
   subst hk
   exact⟨h2,(dJ L now u hd 6 h2).symm,by rw[dJ L now u hd 6 h2];exact h4⟩
theorem Dc (L:List fK)(now:Int)(u:bM):(bN L now u).1.fields.length≤64:=by
 unfold bN
 split
 ·simp[gY.none]
 split
 ·simp[gY.none]
 split <;> exact(oM _).1
theorem Da (L:List fK)(now:Int)(u:bM):∀ n,(af L now u n).dE.fields.length≤64
 | 0=>by unfold af bF;split <;> simp[gY.none]
 | n+1=>by
   have ih:=Da L now u n
   have h:=Dc L now (af L now u n).next
   rw[af]
   unfold cL
   split
   ·exact ih
   generalize bN L now (af L now u n).next=z at h
   obtain⟨r,st,e⟩:=z
   simp only at h ⊢
   split
   ·generalize dK _ _ _ _=y
    obtain⟨v,e2⟩:=y
    simp only
    split <;> simp[gY.none]
   ·split
    ·simp[gY.none]
    ·exact h
theorem C5 (L:List Int)(n now:Int)(hL:L.length≤9223372036854775807)(hq:∀ r∈L,(Lit.int .u8 r).wf=true)(hn:0≤n∧n≤255) :
 SC Tryz.V 5 [.o 0 L.length,.int .u8 n,.int .u64 now] [.own (L.flatMap rp) 5 1 L.length false] (fun r _=>r=.bool true):=by
 have p0:=fun bs=>db (by simp[flat]) (mZ (bs:=bs))
 have hr:∀ r∈L,0≤r∧r≤255:=fun r h=>by
  have:IntKind.min .u8≤r∧r≤IntKind.max .u8:=by simpa[Lit.wf] using hq r h
  simpa[IntKind.min,IntKind.max,IntKind.signed,IntKind.bits] using this
 refine bo 3000 Tryz.func5 rfl Tryz.ntmps5 Tryz.results5 Tryz.call5 (by simp) (ah 1 _ (by simp[within,within.ax])) ?_
 refine dV ?_
 refine ae (p0 _) ?_
 rintro r b ⟨rfl,rfl⟩
 refine gA zTT ?_
 refine ae (sA rfl hr hL n hn) ?_
 rintro r b1 ⟨A,q,u,rfl,mb,Cn,jS,cE,nF,hu,cP⟩
 have vQ:∀ a∈A,a.raw.length≤4000000:=fun a ha=>by have:=(nF a ha).2.2.1;omega
 have sS:=fun X=>qn (bs:=b1++X) u hu.fair
 have sR:=fun(bs:List av) (h:bs[q]? = some (.own (A.flatMap ac) 33 7 A.length true))=>gP (bs:=bs) h (by omega) vQ now u hu.fair
 have ro:=fun k=>E9 A now (u:=u) (k:=k)
 have fd:=fun k=>IP A now u (k:=k)
 have hS0:af A now u 0=bF u:=rfl
 have JO:∀ k,af A now u (k+1)=cL A now (af A now u k):=fun _=>rfl
 have rle:=Da A now u 6
 have hY:(bF u).trace=[]∧(bF u).dE=gY.none:=by unfold bF;split <;> exact⟨rfl,rfl⟩
 generalize af A now u=T at ro fd hS0 JO sR rle
 unfold uc at sS sR ⊢
 refine dV ?_
 refine ae (sS _) ?_
 rintro r b2 ⟨bJ,ys,rfl,fD⟩
 have iD:=bJ.at (ad cE _)
 have zE:=bJ.at (aI b1 _)
 have fD:=fD.low (L':=0) (by omega)
 have vR:=fD.one
 unfold eL dy uc
 simp only[zTQ,zTP]
 refine gA vR ?_
 have qN:b1.length<b2.length:=(zTN.1 zE).1
 have hql2:q<b2.length:=(zTN.1 iD).1
 have hql1:q<b1.length:=(zTN.1 cE).1
 generalize hf:b2.length=f at qN hql2 ⊢
 refine az (fun σ=>∃ (k:Nat) (xs xt xf:SV),k≤6∧(∀ j<k,(T j).done=false)∧lk 2 σ.t=some (.int .u64 now)∧lk 7 σ.t=some (.o q A.length)∧lk 8 σ.t=some (.p b1.length 0)∧lk 9 σ.t=some (.p f 0)∧lk 10 σ.t=some (.int .i64 k) ∧
  σ.b[q]? = some (.own (A.flatMap ac) 33 7 A.length true)∧σ.b[b1.length]? = some (.cells (uc u) 35 true)∧σ.b[f]? = some (.cells (eL (T k) xs xt xf) 58 true) ∧
  jW 35 7 0 xs σ.b ((T k).seen.flatMap uc) (T k).seen.length∧jW 62 9 0 xt σ.b ((T k).trace.flatMap ec) (T k).trace.length∧jW 100 2 0 xf σ.b ((T k).dE.fields.flatMap fc) (T k).dE.fields.length)
  (fun σ=>7 - fX 10 σ) ⟨0,ys,.aj,.aj,by omega,by simp,rfl,rfl,rfl,rfl,rfl,ad iD _,ad zE _,by rw[hS0,← hf];exact aI b2 _,by rw[hS0];exact fD.app _,.inl ⟨rfl,by rw[hS0,hY.1];rfl,by rw[hS0,hY.1];rfl⟩,.inl ⟨rfl,by rw[hS0,hY.2];rfl,by rw[hS0,hY.2];rfl⟩⟩ ?_
 clear hY fD vR hf iD zE bJ
 rintro⟨t,b⟩ ⟨k,xs,xt,xf,lJ,aA,h2,h7,h8,h9,de,bq,bu,bf,xF,fA,Ch⟩
 simp only at h2 h7 h8 h9 de bq bu bf xF fA Ch
 rw[ao de]
 have l8:f<b.length:=(zTN.1 bf).1
 have vR:=xF.one
 have pJ:=fA.one
 have La:=Ch.one
 cases hd:(T k).done
 ·obtain⟨g1,g2,g3,g4,g5,g6⟩:=ro _ hd
  have st:=rU bq (by omega) vQ now (T k) (fun _=>g2) (by omega) xF.sx fA.sx Ch.sx (by omega) (by omega) (by rw[g6];simp[gY.none])
  rw[← JO]at st
  have hk20:decide ((k:Int)<20)=true:=decide_eq_true (by omega)
  unfold eL dy uc at bf st
  simp only[zTQ,zTP,hd]at bf st
  refine gA (zTM h2 (zTM h7 (zTM h8 (zTM h9 (zTM de (zTM bf (zTM hd (zTM hk20 Bool.not_false)))))))) ?_
  refine ae st ?_
  rintro r b' ⟨hk',ys,yt,yf,rfl,oK,jI,uA⟩
  have cf:=hk'.at bf
  have cq:=hk'.at bq
  have cu:=hk'.at bu
  have hfl':f<b'.length:=(zTN.1 cf).1
  have tf:∀ X,(b'.set f X)[f]? = some X:=fun X=>List.getElem?_set_self hfl'
  have i1:=oK.one
  have i2:=jI.one
  have i3:=uA.one
  have m1:=(oK.low (L':=0) (by omega)).fy cf
  have m2:=(jI.low (L':=0) (by omega)).fy cf
  have m3:=(uA.low (L':=0) (by omega)).fy cf
  unfold eL dy uc
  simp only[zTQ,zTP]
  refine gA (zTM h2 (zTM h7 (zTM h8 (zTM h9 (zTM de (zTM cf (zTM tf (zTM i1 (zTM i2 i3))))))))) ?_
  refine⟨⟨by omega,by omega⟩,⟨k+1,ys,yt,yf,by omega,fun j hj=>?_,rfl,aw cq (by omega) _,aw cu (by omega) _,rfl,m1 _,m2 _,m3 _⟩,?_⟩
  ·rcases zTY j k with h|h
   ·exact aA j h
   ·rw[show j=k by omega];exact hd
  ·rw[ao (k:=.i64) (n:=(k:Int)+1) rfl];omega
 ·obtain⟨f1,f2,f3⟩:=fd k hd aA
  rw[f2]at bf xF fA Ch hd
  unfold eL dy uc at bf
  simp only[zTQ,zTP]at bf
  unfold uc at bu
  have sR':=sR b bq
  unfold dy uc at sR'
  simp only[zTQ,zTP]at sR'
  refine gA (zTM h2 (zTM h7 (zTM h8 (zTM h9 (zTM de (zTM bf (zTM bu (zTM hd zTT)))))))) ?_
  refine ae sR' ?_
  rintro r b' ⟨hk',yt,yf,rfl,oK,jI⟩
  have cf:=hk'.at bf
  have i1:=oK.one
  have i2:=jI.one
  have e3:oF (.slice 62) yt=some (.int .i64 (T 6).trace.length):=oK.len _
  have hle:decide ((k:Int)≤6)=true:=decide_eq_true (by omega)
  have heq:(((T 6).trace.length:Int)==(k:Int))=true:=by rw[f3];simp
  refine gA (zTM h2 (zTM h7 (zTM h8 (zTM h9 (zTM de (zTM cf (zTM (ad cf) (zTM i1 (zTM i2 (zTM hd e3)))))))))) ?_
  refine ae (wJ (T 6).dE (T 6).trace (((Ch.sx).kp hk').app _) ((jI.sx).app _) (by omega) (((fA.sx).kp hk').app _) ((oK.sx).app _) (by omega)) ?_
  rintro r b9 ⟨rfl,rfl⟩
  exact gA (zTM h2 (zTM h7 (zTM h8 (zTM h9 (zTM de (zTM cf (zTM (ad cf) (zTM i1 (zTM i2 (zTM hd (zTM e3 (zTM hle heq)))))))))))) True.intro
theorem sc_RunD {bs:List av}{j:Nat}{L:List fK}{m:Bool}(hj:bs[j]? = some (.own (L.flatMap ac) 33 7 L.length m))(hL:L.length≤1000000)(hr:∀ a∈L,a.raw.length≤4000000)(now:Int)(u:bM)(hu:Fair u) :
 SC Tryz.V 16 [.o j L.length,.int .u64 now,.agg (uc u)] bs (fun r b=>Kp bs b∧∃ yt yf,r=.eW [.agg (dy (af L now u 6).dE yf yt),.int .i64 (af L now u 6).err] ∧
  ((yt=.aj∧(af L now u 6).trace=[])∨∃ q,yt=.o q (af L now u 6).trace.length∧0<(af L now u 6).trace.length∧bs.length≤q∧b[q]? = some (.own ((af L now u 6).trace.flatMap ec) 62 9 (af L now u 6).trace.length false)) ∧
  Sx 100 2 yf b ((af L now u 6).dE.fields.flatMap fc) (af L now u 6).dE.fields.length):=by
 refine SC.th ((gP hj hL hr now u hu).mono ?_)
 rintro r b ⟨hk,yt,yf,rfl,h1,h2⟩
 refine⟨hk.1,hk.hZ,yt,yf,rfl,?_,?_⟩
 ·rcases h1 with⟨rfl,-,h⟩|⟨q,rfl,h0,hq,hb⟩
  ·exact .inl ⟨rfl,zTX.1 h⟩
  ·exact .inr ⟨q,rfl,h0,hq,iy hq hb⟩
 ·rcases h2 with h|⟨q,rfl,h0,hq,hb⟩
  ·exact .inl h
  ·exact .inr ⟨q,false,rfl,h0,iy hq hb⟩
theorem Sx.one {e s:Nat}{x:SV}{b:List av}{c:List SV}{n:Nat}(h:Sx e s x b c n):Vc.one x=true:=by
 rcases h with⟨rfl,-⟩|⟨j,m,rfl,-⟩ <;> rfl
theorem OQ (E:List (bM × Int × Int))(k:Nat)(h:k<E.length):zTV 7 (List.drop (k * 9) (E.flatMap ec))=[.str E[k].1.host,.int .i64 E[k].1.port,.str E[k].1.path,.str E[k].1.query,.str E[k].1.fragment,.bool E[k].1.aD,.bool E[k].1.aP]:=by
 have:=congrArg (zTV 7) (Cu E k h)
 rw[List.take_take]at this
 exact this
theorem OR (E:List (bM × Int × Int))(k:Nat)(h:k<E.length)(i:Nat)(hi:i<9):(E.flatMap ec)[k * 9+i]? = (ec E[k])[i]? := by
 have:=congrArg (fun l=>l[i]?) (Cu E k h)
 simpa[List.getElem?_take,hi] using this
structure TrI (u:bM) (E:List (bM × Int × Int)) (R:List SV) (e:Int) (i r je k:Nat) (σ:St):Prop where
 h8:lk 8 σ.t=some (.p i 0)
 h9:lk 9 σ.t=some (.p r 0)
 de:lk 10 σ.t=some (.int .i64 e)
 la:lk 37 σ.t=some (.o je E.length)
 sb:lk 38 σ.t=some (.int .i64 E.length)
 DX:lk 39 σ.t=some (.int .i64 k)
 bj:σ.b[je]? = some (.own (E.flatMap ec) 62 9 E.length false)
 bu:σ.b[i]? = some (.cells (uc u) 35 true)
 br:σ.b[r]? = some (.cells R 51 true)
structure FEnd (u:bM) (E:List (bM × Int × Int)) (R:gY) (e:Int):Prop where
 nil:E=[]→e=8
 len:E.length≤6
 nodup:(E.map (·.1)).Nodup
 valid:∀ t∈E,bQ t.1=true
 red:∀ i (h:i+1<E.length),iv E[i].2.1=true
 head:∀ h:0<E.length,E[0].1=u.bare
 last:e=0→∀ h:0<E.length,R.url=E[E.length - 1].1∧R.status=E[E.length - 1].2.1
theorem fend (L:List fK)(now:Int)(u:bM):FEnd u (af L now u 6).trace (af L now u 6).dE (af L now u 6).err:=by
 cases hv:bQ u with
 | false =>
   have h0:af L now u 6=bF u:=dJ L now u (n:=0) (by unfold af bF;rw[if_pos hv]) 6 (by omega)
   rw[h0]
   unfold bF
   rw[if_pos hv]
   exact⟨fun _=>rfl,by simp,by simp,by simp,fun i h=>by simp at h,fun h=>by simp at h,fun _ h=>by simp at h⟩
 | true =>
   obtain⟨k,h1,h2,h3,h4,-⟩:=tc L now hv
   rw[dJ L now u h3.done 6 h2]
   have hu:=h3.urls
   generalize af L now u k=F at h3 h4 hu
   refine⟨fun h=>by have:=h3.pos;rw[h]at this;simp at this,h3.le,by rw[hu];exact h3.nodup,fun t ht=>h3.valid _ (by rw[← hu];exact List.mem_map_of_mem ht),h3.red,fun h=>?_,fun e h=>?_⟩
   ·have:=h3.head
    rw[← hu,List.head?_map,List.head?_eq_getElem?,List.getElem?_eq_getElem h]at this
    simpa using this
   ·obtain⟨t,g1,g2,g3⟩:=h3.last e
    rw[List.getLast?_eq_getElem?,List.getElem?_eq_getElem (by omega)]at g1
    rw[Option.some.inj g1]
    exact⟨g2,g3⟩
theorem url_ne {a b:bM}(h:a≠b):(a.host==b.host&&(a.port==b.port&&(a.path==b.path&&(a.query==b.query&&(a.fragment==b.fragment&&(a.aD==b.aD&&a.aP==b.aP))))))=false:=by
 rw[Bool.eq_false_iff]
 intro hh
 simp only[Bool.and_eq_true,beq_iff_eq]at hh
 obtain⟨h1,h2,h3,h4,h5,h6,h7⟩:=hh
 exact h (by cases a;cases b;simp_all)
theorem C6 (L:List Int)(n now:Int)(hL:L.length≤9223372036854775807)(hq:∀ r∈L,(Lit.int .u8 r).wf=true)(hn:0≤n∧n≤255) :
 SC Tryz.V 6 [.o 0 L.length,.int .u8 n,.int .u64 now] [.own (L.flatMap rp) 5 1 L.length false] (fun r _=>r=.bool true):=by
 have p0:=fun bs=>db (by simp[flat]) (mZ (bs:=bs))
 have hr:∀ r∈L,0≤r∧r≤255:=fun r h=>by
  have:IntKind.min .u8≤r∧r≤IntKind.max .u8:=by simpa[Lit.wf] using hq r h
  simpa[IntKind.min,IntKind.max,IntKind.signed,IntKind.bits] using this
 refine bo 3000 Tryz.func6 rfl Tryz.ntmps6 Tryz.results6 Tryz.call6 (by simp) (ah 1 _ (by simp[within,within.ax])) ?_
 refine dV ?_
 refine ae (p0 _) ?_
 rintro r b ⟨rfl,rfl⟩
 refine gA zTT ?_
 refine ae (sA rfl hr hL n hn) ?_
 rintro r b1 ⟨A,q,u,rfl,mb,Cn,jS,cE,nF,hu,cP⟩
 have vQ:∀ a∈A,a.raw.length≤4000000:=fun a ha=>by have:=(nF a ha).2.2.1;omega
 have sR:=fun X=>sc_RunD (bs:=b1++X) (ad cE X) (by omega) vQ now u hu.fair
 have fe:=fend A now u
 have pB:=KD u
 generalize af A now u 6=F at sR fe
 unfold dy uc at sR
 unfold cQ at pB
 unfold uc
 simp only[zTQ,zTP]at sR
 refine dV ?_
 refine ae (sR _) ?_
 rintro r b2 ⟨bJ,yt,yf,rfl,hyt,hyf⟩
 have zE:=bJ.at (aI b1 _)
 have ofl:=hyf.one
 rcases hyt with⟨rfl,hE⟩|⟨je,rfl,hE0,hje,hbe⟩
 ·have he8:=fe.nil hE
  exact gA (zTM ofl he8) True.intro
 have hE0f:((F.trace.length:Int)==0)=false:=beq_eq_false_iff_ne.2 (by omega)
 have vV:=D5 F.trace
 refine gA (zTM ofl hE0f) ?_
 have qN:=(zTN.1 zE).1
 have x8:=fe.len
 generalize hE:F.trace=E at *
 generalize hR:F.dE=R at *
 generalize hF:F.err=fer at *
 refine az (fun σ=>∃ k,k≤E.length∧TrI u E [.str R.url.host,.int .i64 R.url.port,.str R.url.path,.str R.url.query,.str R.url.fragment,.bool R.url.aD,.bool R.url.aP,.int .i64 R.minor,.int .i64 R.status,yf,.str R.body,.o je E.length] fer b1.length b2.length je k σ) (fun σ=>E.length - fX 39 σ) ⟨0,by omega,rfl,rfl,rfl,rfl,rfl,rfl,ad hbe _,ad zE _,aI b2 _⟩ ?_
 rintro⟨t,b⟩ ⟨k,hk,h8,h9,de,la,sb,DX,bj,bu,br⟩
 simp only at h8 h9 de la sb DX bj bu br
 rw[ao DX]
 rcases zTY k E.length with aA|qL
 ·have bg:decide ((k:Int)<E.length)=true:=decide_eq_true (by omega)
  have eK:zTV 9 (List.drop (k * 9) (E.flatMap ec))=[.str E[k].1.host,.int .i64 E[k].1.port,.str E[k].1.path,.str E[k].1.query,.str E[k].1.fragment,.bool E[k].1.aD,.bool E[k].1.aP,.int .i64 E[k].2.1,.int .i64 E[k].2.2]:=Cu E k aA
  refine gA (zTM h8 (zTM h9 (zTM de (zTM la (zTM sb (zTM DX (zTM bj (zTM (ad bj) (zTM br (zTM (ad br) (zTM bg (zTM eK (zTM vV zTO))))))))))))) ?_
  refine⟨⟨by omega,by omega⟩,by omega,⟨by omega,by omega⟩,?_⟩
  refine az (fun σ=>∃ m,m≤k∧TrI u E [.str R.url.host,.int .i64 R.url.port,.str R.url.path,.str R.url.query,.str R.url.fragment,.bool R.url.aD,.bool R.url.aP,.int .i64 R.minor,.int .i64 R.status,yf,.str R.body,.o je E.length] fer b1.length b2.length je k σ∧lk 11 σ.t=some (.int .i64 k)∧lk 12 σ.t=some (.p b.length 0)∧lk 47 σ.t=some (.o (b.length+1) k)∧lk 48 σ.t=some (.int .i64 k)∧lk 49 σ.t=some (.int .i64 m)∧σ.b[b.length]? = some (.cells (ec E[k]) 62 true)∧σ.b[b.length+1]? = some (.own (zTV (k * 9) (E.flatMap ec)) 62 9 k false)) (fun σ=>k - fX 49 σ) ⟨0,by omega,⟨h8,h9,de,la,sb,DX,ad bj _,ad bu _,ad br _⟩,rfl,rfl,rfl,rfl,rfl,aI b _,aU b _ 1⟩ ?_
  have hvk:=fe.valid E[k] (List.getElem_mem aA)
  have IE:=CA (nH hvk)
  have pV:=sH E[k].1 IE
  rw[hvk]at pV
  clear bj bu br h8 h9 de la sb DX
  rintro⟨t',b'⟩ ⟨m,hm,⟨h8,h9,de,la,sb,DX,bj,bu,br⟩,eJ,iN,r9,IJ,h49,bx,bv⟩
  simp only at h8 h9 de la sb DX bj bu br eJ iN r9 IJ h49 bx bv
  rw[ao h49]
  have od:=(zTN.1 bx).1
  unfold cQ at pV
  unfold ec uc at bx
  simp only[zTQ,zTP]at bx
  rcases zTY m k with hmk|hmk
  ·have Lb:decide ((m:Int)<k)=true:=decide_eq_true (by omega)
   have hrm:zTV 9 (List.drop (m * 9) (zTV (k * 9) (E.flatMap ec)))=[.str E[m].1.host,.int .i64 E[m].1.port,.str E[m].1.path,.str E[m].1.query,.str E[m].1.fragment,.bool E[m].1.aD,.bool E[m].1.aP,.int .i64 E[m].2.1,.int .i64 E[m].2.2]:=by
    rw[List.drop_take,List.take_take,Nat.min_eq_left (by omega)]
    exact Cu E m (by omega)
   have bK:E[k].1≠E[m].1:=fun h=>by
    have:=List.getElem_inj (i:=k) (j:=m) (h₀:=by simpa using aA) (h₁:=by simp;omega) fe.nodup
    simp only[List.getElem_map]at this
    have:=this.1 h
    omega
   have KX:=url_ne bK
   have hvl:(zTV (k * 9) (E.flatMap ec)).length=k * 9:=by rw[List.length_take,vV];omega
   refine gA (zTM h8 (zTM h9 (zTM de (zTM la (zTM sb (zTM DX (zTM eJ (zTM iN (zTM r9 (zTM IJ (zTM h49 (zTM bv (zTM (ad bx) (zTM Lb (zTM hrm (zTM hvl (zTM KX zTO))))))))))))))))) ?_
   refine⟨⟨by omega,by omega⟩,by omega,⟨by omega,by omega⟩,?_⟩
   refine⟨⟨m+1,by omega,⟨h8,h9,de,la,sb,DX,ad bj _,ad bu _,ad br _⟩,rfl,rfl,ad bv _⟩,?_⟩
   rw[ao (k:=.i64) (n:=(m:Int)+1) rfl];omega
  ·obtain rfl:m=k:=by omega
   have Lb:decide ((m:Int)<m)=false:=by simp
   rcases Nat.eq_zero_or_pos m with h0|h0
   ·have Bm:decide ((0:Int)<m)=false:=decide_eq_false (by omega)
    refine gA (zTM h8 (zTM h9 (zTM de (zTM la (zTM sb (zTM DX (zTM eJ (zTM iN (zTM r9 (zTM IJ (zTM h49 (zTM bx (zTM Lb Bm))))))))))))) ?_
    (refine aa (pV) ?_;refine gA (zTM h8 (zTM h9 (zTM de (zTM la (zTM sb (zTM DX (zTM eJ (zTM iN (zTM r9 (zTM IJ (zTM h49 (zTM bx (zTM Lb (zTM Bm zTT)))))))))))))) ?_)
    refine⟨⟨by omega,by omega⟩,⟨m+1,by omega,⟨h8,h9,de,la,sb,rfl,bj,bu,br⟩⟩,?_⟩
    rw[ao (k:=.i64) (n:=(m:Int)+1) rfl];omega
   ·have Bm:decide ((0:Int)<m)=true:=decide_eq_true (by omega)
    obtain⟨p,rfl⟩:∃ p,m=p+1:=⟨m - 1,by omega⟩
    have K4:((p+1:Nat):Int) - 1=(p:Int):=by omega
    have pI:=Nc E[p].2.1
    rw[fe.red p aA]at pI
    have hY:=OR E p (by omega) 7 (by omega)
    rw[show (ec E[p])[7]? = some (SV.int .i64 E[p].2.1) from rfl]at hY
    refine gA (zTM h8 (zTM h9 (zTM de (zTM la (zTM sb (zTM DX (zTM eJ (zTM iN (zTM r9 (zTM IJ (zTM h49 (zTM bx (zTM Lb Bm))))))))))))) ?_
    (refine aa (pV) ?_;refine gA (zTM h8 (zTM h9 (zTM de (zTM la (zTM sb (zTM DX (zTM eJ (zTM iN (zTM r9 (zTM IJ (zTM h49 (zTM bx (zTM br (zTM bj (zTM Lb (zTM Bm (zTM zTT (zTM K4 (zTM zTO (zTM hY vV)))))))))))))))))))) ?_)
    refine⟨⟨by omega,by omega⟩,⟨by omega,by omega⟩,by omega,?_⟩
    (refine aa (pI) ?_;refine gA (zTM h8 (zTM h9 (zTM de (zTM la (zTM sb (zTM DX (zTM eJ (zTM iN (zTM r9 (zTM IJ (zTM h49 (zTM bx (zTM br (zTM bj (zTM zTT (zTM K4 zTO)))))))))))))))) ?_)
    refine⟨⟨by omega,by omega⟩,⟨p+1+1,by omega,⟨h8,h9,de,la,sb,rfl,bj,bu,br⟩⟩,?_⟩
    rw[ao (k:=.i64) (n:=((p+1:Nat):Int)+1) rfl];omega
 ·obtain rfl:k=E.length:=by omega
  have bg:decide ((E.length:Int)<E.length)=false:=by simp
  have hu0:=OQ E 0 hE0
  rw[Nat.zero_mul,List.drop_zero,fe.head hE0]at hu0
  unfold uc at bu
  obtain⟨p,hp⟩:∃ p,E.length=p+1:=⟨E.length - 1,by omega⟩
  have K4:(E.length:Int) - 1=(p:Int):=by omega
  have hup:=OQ E p (by omega)
  have hY:=OR E p (by omega) 7 (by omega)
  rw[show (ec E[p])[7]? = some (SV.int .i64 E[p].2.1) from rfl]at hY
  have hla:=fun e=>fe.last e hE0
  simp only[show E.length - 1=p by omega]at hla
  cases he:(fer != 0)
  ·obtain⟨l1,l2⟩:=hla (by simpa using he)
   rw[l1,l2]at br
   simp only[cz,↓Xn,↓Xo,↓Xg,↓Xd,↓Xe,↓Xf,Tryz.VΓ,Tryz.Γs,Xp,Xi,Nat.reduceAdd,Nat.reduceSub,Nat.reduceLT,Nat.reduceLeDiff,reduceIte,reduceCtorEq,Nat.reduceEqDiff,implies_true,forall_const,cw,eb,beq_self_eq_true,bne_self_eq_false,Int.reduceBEq,Int.reduceBNe,Int.reduceLT,Int.reduceLE,h8,h9,de,la,sb,DX,bj,br,bu,bg,hu0,Int.toNat_zero,Nat.zero_mul,List.drop_zero,vV,he]
   refine⟨by omega,by omega,?_⟩
   (refine aY (pB) ?_;simp only[cz,↓Xn,↓Xo,↓Xg,↓Xd,↓Xe,↓Xf,Tryz.VΓ,Tryz.Γs,Xp,Xi,Nat.reduceAdd,Nat.reduceSub,Nat.reduceLT,Nat.reduceLeDiff,reduceIte,reduceCtorEq,Nat.reduceEqDiff,implies_true,forall_const,cw,eb,beq_self_eq_true,bne_self_eq_false,Int.reduceBEq,Int.reduceBNe,Int.reduceLT,Int.reduceLE,h8,h9,de,la,sb,DX,bj,br,bu,bg,hu0,Int.toNat_zero,Nat.zero_mul,List.drop_zero,vV,K4,zTO,hup,hY,he])
   refine⟨⟨by omega,by omega⟩,⟨by omega,by omega⟩,by omega,⟨by omega,by omega⟩,⟨by omega,by omega⟩,by omega,?_⟩
   exact(aq (by kernel_rfl))
  ·simp only[cz,↓Xn,↓Xo,↓Xg,↓Xd,↓Xe,↓Xf,Tryz.VΓ,Tryz.Γs,Xp,Xi,Nat.reduceAdd,Nat.reduceSub,Nat.reduceLT,Nat.reduceLeDiff,reduceIte,reduceCtorEq,Nat.reduceEqDiff,implies_true,forall_const,cw,eb,beq_self_eq_true,bne_self_eq_false,Int.reduceBEq,Int.reduceBNe,Int.reduceLT,Int.reduceLE,h8,h9,de,la,sb,DX,bj,br,bu,bg,hu0,Int.toNat_zero,Nat.zero_mul,List.drop_zero,vV,he]
   refine⟨by omega,by omega,?_⟩
   (refine aY (pB) ?_;simp only[cz,↓Xn,↓Xo,↓Xg,↓Xd,↓Xe,↓Xf,Tryz.VΓ,Tryz.Γs,Xp,Xi,Nat.reduceAdd,Nat.reduceSub,Nat.reduceLT,Nat.reduceLeDiff,reduceIte,reduceCtorEq,Nat.reduceEqDiff,implies_true,forall_const,cw,eb,beq_self_eq_true,bne_self_eq_false,Int.reduceBEq,Int.reduceBNe,Int.reduceLT,Int.reduceLE,h8,h9,de,la,sb,DX,bj,br,bu,bg,hu0,Int.toNat_zero,Nat.zero_mul,List.drop_zero,vV,K4,zTO,hup,hY,he])
   exact(aq (by kernel_rfl))
open Go.ChangeShapes Go.WideShapes Go.ChangeAt
open Go.WideMaps Go.WideElems
section
variable {H:Type} {enc:TypeId × Value→H} {w:World} {base:Nat} {sp:Nat→Bool} {held:Bool}
theorem trod_33 {fuel:Nat}{cs:List Value}{x:DataW H × List MemPlace}(h:DataW.trod enc Tryz.prog w base sp held fuel 33 cs=some x):∃ (a0:Bytes) (a1:Int) (a2:Bytes) (a3:Bytes) (a4:Int) (a5:Int) (a6:Int),cs=[Value.string ⟨⟨a0⟩⟩,Value.int .i64 a1,Value.string ⟨⟨a2⟩⟩,Value.string ⟨⟨a3⟩⟩,Value.int .i64 a4,Value.int .u64 a5,Value.int .u64 a6]∧x=(.agg [.lit (.string a0),.lit (.int .i64 a1),.lit (.string a2),.lit (.string a3),.lit (.int .i64 a4),.lit (.int .u64 a5),.lit (.int .u64 a6)],[])∧a0.length≤maxLen∧(Lit.int .i64 a1).wf=true∧a2.length≤maxLen∧a3.length≤maxLen∧(Lit.int .i64 a4).wf=true∧(Lit.int .u64 a5).wf=true∧(Lit.int .u64 a6).wf=true:=by
 obtain⟨xs,n,_,rfl,hl,hlen,hf⟩:=DataW.trod_struct Tryz.underlying33 h
 have hC:Tryz.prog.cellsOf 33=7:=by kernel_rfl
 rw[hC]at hl
 obtain⟨c0,c1,c2,c3,c4,c5,c6,rfl⟩:∃ c0 c1 c2 c3 c4 c5 c6,cs=[c0,c1,c2,c3,c4,c5,c6]:=by
  match cs,hl with
  | [c0,c1,c2,c3,c4,c5,c6],_=>exact⟨c0,c1,c2,c3,c4,c5,c6,rfl⟩
 obtain⟨y0,y1,y2,y3,y4,y5,y6,rfl⟩:∃ y0 y1 y2 y3 y4 y5 y6,xs=[y0,y1,y2,y3,y4,y5,y6]:=by
  match xs,hlen with
  | [y0,y1,y2,y3,y4,y5,y6],_=>exact⟨y0,y1,y2,y3,y4,y5,y6,rfl⟩
 have e0:DataW.trod enc Tryz.prog w base sp held n 9 [c0]=some y0:=hf 0 _ rfl
 obtain⟨⟨⟨a0⟩⟩,q0,rfl,w0⟩:=DataW.trod_string Tryz.underlying9 e0
 obtain rfl:=(List.cons.inj q0).1
 have e1:DataW.trod enc Tryz.prog w base sp held n 3 [c1]=some y1:=hf 1 _ rfl
 obtain⟨a1,q1,rfl,w1⟩:=DataW.trod_int Tryz.underlying3 e1
 obtain rfl:=(List.cons.inj q1).1
 have e2:DataW.trod enc Tryz.prog w base sp held n 9 [c2]=some y2:=hf 2 _ rfl
 obtain⟨⟨⟨a2⟩⟩,q2,rfl,w2⟩:=DataW.trod_string Tryz.underlying9 e2
 obtain rfl:=(List.cons.inj q2).1
 have e3:DataW.trod enc Tryz.prog w base sp held n 9 [c3]=some y3:=hf 3 _ rfl
 obtain⟨⟨⟨a3⟩⟩,q3,rfl,w3⟩:=DataW.trod_string Tryz.underlying9 e3
 obtain rfl:=(List.cons.inj q3).1
 have e4:DataW.trod enc Tryz.prog w base sp held n 3 [c4]=some y4:=hf 4 _ rfl
 obtain⟨a4,q4,rfl,w4⟩:=DataW.trod_int Tryz.underlying3 e4
 obtain rfl:=(List.cons.inj q4).1
 have e5:DataW.trod enc Tryz.prog w base sp held n 25 [c5]=some y5:=hf 5 _ rfl
 obtain⟨a5,q5,rfl,w5⟩:=DataW.trod_int Tryz.underlying25 e5
 obtain rfl:=(List.cons.inj q5).1
 have e6:DataW.trod enc Tryz.prog w base sp held n 25 [c6]=some y6:=hf 6 _ rfl
 obtain⟨a6,q6,rfl,w6⟩:=DataW.trod_int Tryz.underlying25 e6
 obtain rfl:=(List.cons.inj q6).1
 exact⟨a0,a1,a2,a3,a4,a5,a6,rfl,rfl,w0,w1,w2,w3,w4,w5,w6⟩
end
open Go Vc Go.RowKit Wf
def hc (x:Bytes × Int):List SV:=[.str x.1,.int .i64 x.2]
theorem hc_at (L:List (Bytes × Int))(k:Nat)(h:k<L.length):((L.flatMap hc).drop (k * 2)).take 2=hc L[k]:=kz hc 2 (fun _=>rfl) L k h
theorem Od (L:List (Bytes × Int)):(L.flatMap hc).length=L.length * 2:=ie hc 2 (fun _=>rfl) L
theorem Sx.oF {e s:Nat}{x:SV}{b:List av}{c:List SV}{n:Nat}(h:Sx e s x b c n)(E:TypeId):Vc.oF (.slice E) x=some (.int .i64 n):=by
 rcases h with⟨rfl,-,rfl⟩|⟨j,m,rfl,-⟩ <;> rfl
def ud (t:bM × Int × Int):Bytes × Int:=(t.1.host,t.1.port)
theorem ML {bs:List av}{y:SV}{E:List (bM × Int × Int)}(hy:Sx 62 9 y bs (E.flatMap ec) E.length)(hE:E.length≤1000) :
 SC Tryz.V 25 [y] bs (fun r b=>Kp bs b∧jW 24 2 bs.length r b ((E.map ud).flatMap hc) E.length):=by
 have Nw:=hy.within
 refine bo 3000 Tryz.func25 rfl Tryz.ntmps25 Tryz.results25 Tryz.call25 (by simp) (ah bs.length _ (by simp[within,within.ax,Nw])) ?_
 have Iu:oF (.slice 62) y=some (.int .i64 E.length):=hy.oF _
 refine gA Iu ?_
 refine az (fun σ=>∃ (k:Nat) (x:SV),k≤E.length∧lk 3 σ.t=some x∧lk 6 σ.t=some y∧lk 7 σ.t=some (.int .i64 E.length)∧lk 8 σ.t=some (.int .i64 k)∧Kp bs σ.b∧jW 24 2 bs.length x σ.b (((E.take k).map ud).flatMap hc) k) (fun σ=>E.length - fX 8 σ) ⟨0,.aj,by omega,rfl,rfl,rfl,rfl,Kp.refl bs,.inl ⟨rfl,rfl,rfl⟩⟩ ?_
 rintro⟨t,b⟩ ⟨k,x,hk,h3,h6,h7,h8,bc,fD⟩
 simp only at h3 h6 h7 h8 bc fD
 rw[ao h8]
 rcases zTY k E.length with aA|qL
 ·have bg:decide ((k:Int)<E.length)=true:=decide_eq_true (by omega)
  rcases hy with⟨-,-,h0⟩|⟨j,m,rfl,-,hj⟩
  ·omega
  have pN:=bc.at hj
  have eK:zTV 9 (List.drop (k * 9) (E.flatMap ec))=[.str E[k].1.host,.int .i64 E[k].1.port,.str E[k].1.path,.str E[k].1.query,.str E[k].1.fragment,.bool E[k].1.aD,.bool E[k].1.aP,.int .i64 E[k].2.1,.int .i64 E[k].2.2]:=Cu E k aA
  have vV:=D5 E
  have JH:((E.take (k+1)).map ud).flatMap hc=((E.take k).map ud).flatMap hc++[.str E[k].1.host,.int .i64 E[k].1.port]:=by
   rw[zTW aA,List.map_append,List.flatMap_append];rfl
  have pO:=wQ E[k].1
  unfold cQ at pO
  have kJ:=Od ((E.take k).map ud)
  rw[List.length_map,List.length_take,Nat.min_eq_left (by omega)]at kJ
  generalize E[k]=a at eK JH pO
  rcases fD with⟨rfl,jT,mO⟩|⟨i,rfl,oK,hLi,hi⟩
  ·subst mO
   refine gA (zTM h3 (zTM h6 (zTM h7 (zTM h8 (zTM bg (zTM pN (zTM eK (zTM vV zTO)))))))) ?_
   refine⟨⟨by omega,by omega⟩,by omega,?_⟩
   (refine aa (pO) ?_;refine gA (zTM h3 (zTM h6 (zTM h7 h8))) ?_)
   rw[List.take_zero,List.map_nil,List.flatMap_nil,zTP]at JH
   refine⟨by omega,⟨by unfold maxLen;omega,by omega⟩,⟨by omega,by omega⟩,⟨1,_,by omega,rfl,rfl,bc.app _,.inr ⟨b.length+2,rfl,by omega,by have:=bc.1;omega,by rw[aU,show (1:Nat)=0+1 from rfl,JH];rfl⟩⟩,?_⟩
   rw[ao (k:=.i64) (n:=((0:Nat):Int)+1) rfl];omega
  ·have dF:=(zTN.1 hi).1
   have eg:∀ (l:List av) X,(b++l).set i X=b.set i X++l:=fun l X=>aO dF l X
   refine gA (zTM h3 (zTM h6 (zTM h7 (zTM h8 (zTM bg (zTM pN (zTM eK (zTM vV zTO)))))))) ?_
   refine⟨⟨by omega,by omega⟩,by omega,?_⟩
   (refine aa (pO) ?_;refine gA (zTM h3 (zTM h6 (zTM h7 (zTM h8 (zTM (ad hi) (zTM eg kJ)))))) ?_)
   refine⟨by omega,⟨by unfold maxLen;omega,by omega⟩,⟨by omega,by omega⟩,⟨k+1,_,by omega,rfl,rfl,(bc.set hLi _).app _,.inr ⟨b.length+2,rfl,by omega,by have:=bc.1;omega,by rw[aQ (by simp),JH];rfl⟩⟩,?_⟩
   rw[ao (k:=.i64) (n:=(k:Int)+1) rfl];omega
 ·obtain rfl:k=E.length:=by omega
  have bg:decide ((E.length:Int)<E.length)=false:=by simp
  rw[List.take_length]at fD
  refine gA (zTM h3 (zTM h6 (zTM h7 (zTM h8 bg)))) ?_
  exact⟨bc,fD⟩
theorem sc_in {bs:List av}{y:SV}{H:List (Bytes × Int)}(x:Bytes × Int)(hy:Sx 24 2 y bs (H.flatMap hc) H.length)(hH:H.length≤1000) :
 SC Tryz.V 26 [.agg [.str x.1,.int .i64 x.2],y] bs (fun r b=>r=.bool (H.contains x)∧Kp bs b):=by
 have Nw:=hy.within
 refine bo 3000 Tryz.func26 rfl Tryz.ntmps26 Tryz.results26 Tryz.call26 (by simp) (ah bs.length _ (by simp[within,within.ax,Nw])) ?_
 have Iu:oF (.slice 24) y=some (.int .i64 H.length):=hy.oF _
 refine gA Iu ?_
 refine az (fun σ=>∃ (k:Nat),k≤H.length∧lk 2 σ.t=some (.p bs.length 0)∧lk 7 σ.t=some y∧lk 8 σ.t=some (.int .i64 H.length)∧lk 9 σ.t=some (.int .i64 k)∧σ.b[bs.length]? = some (.cells [.str x.1,.int .i64 x.2] 24 true)∧Kp bs σ.b∧H.contains x=(H.drop k).contains x) (fun σ=>H.length - fX 9 σ) ⟨0,by omega,rfl,rfl,rfl,rfl,aI bs _,(Kp.refl bs).app _,by simp⟩ ?_
 rintro⟨t,b⟩ ⟨k,hk,h2,h7,h8,h9,bx,bc,DR⟩
 simp only at h2 h7 h8 h9 bx bc
 rw[ao h9]
 rcases zTY k H.length with aA|qL
 ·have bg:decide ((k:Int)<H.length)=true:=decide_eq_true (by omega)
  rcases hy with⟨-,-,h0⟩|⟨j,m,rfl,-,hj⟩
  ·omega
  have pN:=bc.at hj
  have eK:zTV 2 (List.drop (k * 2) (H.flatMap hc))=[.str H[k].1,.int .i64 H[k].2]:=hc_at H k aA
  have hhl:=Od H
  rw[List.drop_eq_getElem_cons aA,List.contains_cons]at DR
  generalize H[k]=a at eK DR
  have hax:(a.1==x.1&&a.2==x.2)=(x==a):=by
   rw[Bool.eq_iff_iff]
   simp only[Bool.and_eq_true,beq_iff_eq]
   constructor
   ·rintro⟨h1,h2⟩;exact Prod.ext h1.symm h2.symm
   ·rintro rfl;exact⟨rfl,rfl⟩
  cases hq:(x==a)
  ·rw[hq,Bool.false_or]at DR
   rw[hq]at hax
   refine gA (zTM h2 (zTM h7 (zTM h8 (zTM h9 (zTM bg (zTM pN (zTM eK (zTM hhl (zTM zTO (zTM bx (zTM (ad bx) hax))))))))))) ?_
   refine⟨⟨by omega,by omega⟩,by omega,⟨by omega,by omega⟩,⟨k+1,by omega,rfl,bc.app _,DR⟩,?_⟩
   rw[ao (k:=.i64) (n:=(k:Int)+1) rfl];omega
  ·rw[hq,Bool.true_or]at DR
   rw[hq]at hax
   refine gA (zTM h2 (zTM h7 (zTM h8 (zTM h9 (zTM bg (zTM pN (zTM eK (zTM hhl (zTM zTO (zTM bx (zTM (ad bx) hax))))))))))) ?_
   exact⟨⟨by omega,by omega⟩,by omega,by rw[DR],bc.app _⟩
 ·obtain rfl:k=H.length:=by omega
  have bg:decide ((H.length:Int)<H.length)=false:=by simp
  rw[List.drop_length]at DR
  refine gA (zTM h2 (zTM h7 (zTM h8 (zTM h9 bg)))) ?_
  exact⟨by rw[DR];rfl,bc⟩
def chg (a:fK):fK:=⟨a.host,a.port,a.target,a.raw++([99,104,97,110,103,101,100]:List UInt8),a.fail,a.since,a.yo⟩
def eC (H:List (Bytes × Int))(M:List fK):List fK:=(M.filter fun a=>!H.contains (a.host,a.port)).map chg
theorem LS (H:List (Bytes × Int))(M A:List fK)(u:bM)(now:Int)(hu:(u.host,u.port)∈H):bw (eC H M++A.filter fun a=>H.contains (a.host,a.port)) u now=bw A u now:=by
 refine LQ A (eC H M) _ u now (fun a ha=>?_) (fun a ha h1 h2=>?_)
 ·obtain⟨b,hb,rfl⟩:=List.mem_map.1 ha
  have:=(List.mem_filter.1 hb).2
  rintro⟨h1,h2⟩
  simp only[chg]at h1 h2
  rw[h1,h2]at this
  simp[hu]at this
 ·simp only[h1,h2,List.contains_iff_mem]
  exact hu
theorem xm (M A:List fK)(u:bM)(now:Int):∀ n,af (eC ((af A now u 6).trace.map ud) M++A.filter fun a=>((af A now u 6).trace.map ud).contains (a.host,a.port)) now u n=af A now u n :=
 Ab fun t ht=>(LS _ M A t.1 now (List.mem_map.2 ⟨t,ht,rfl⟩)).symm
theorem FE (H:List (Bytes × Int)){B:List fK}{k:Nat}(h:k<B.length):eC H (B.take (k+1))=eC H (B.take k)++if H.contains (B[k].host,B[k].port) then [] else [chg B[k]]:=by
 unfold eC
 rw[zTW h,List.filter_append,List.map_append]
 cases hc:H.contains (B[k].host,B[k].port) <;> simp only[List.filter_cons,hc,zTT,Bool.not_false,if_true,if_false,Bool.false_eq_true,List.filter_nil,List.map_nil,List.map_cons]
theorem vG (H:List (Bytes × Int))(B:List fK):(eC H B).length≤B.length:=by
 unfold eC
 rw[List.length_map]
 exact List.length_filter_le _ _
theorem I7 (H:List (Bytes × Int)){A:List fK}{k:Nat}(h:k<A.length):(A.take (k+1)).filter (fun a=>H.contains (a.host,a.port))=(A.take k).filter (fun a=>H.contains (a.host,a.port))++if H.contains (A[k].host,A[k].port) then [A[k]] else []:=by
 rw[zTW h,List.filter_append]
 cases hc:H.contains (A[k].host,A[k].port) <;> simp only[List.filter_cons,hc,if_true,if_false,Bool.false_eq_true,List.filter_nil]
theorem CD (H:List (Bytes × Int))(M:List fK){A:List fK}(hA:0<A.length):0<(eC H (M++A)++A.filter fun a=>H.contains (a.host,a.port)).length:=by
 apply Nat.pos_of_ne_zero
 intro h
 rw[zTX,List.append_eq_nil_iff]at h
 obtain⟨h1,h2⟩:=h
 have hm:=List.getElem_mem (l:=A) hA
 unfold eC at h1
 rw[List.map_eq_nil_iff]at h1
 have h1:=List.filter_eq_nil_iff.1 h1 A[0] (List.mem_append.2 (.inr hm))
 have h2:=List.filter_eq_nil_iff.1 h2 A[0] hm
 cases hc:H.contains (A[0].host,A[0].port) <;> simp_all
theorem LR {H:List (Bytes × Int)}{M A:List fK}(hM:∀ a∈M,a.raw.length≤3000000)(hA:∀ a∈A,a.raw.length≤3000000):∀ a∈eC H (M++A)++A.filter fun a=>H.contains (a.host,a.port),a.raw.length≤4000000:=by
 intro a ha
 rcases List.mem_append.1 ha with ha|ha
 ·obtain⟨b,hb,rfl⟩:=List.mem_map.1 ha
  have hb:=(List.mem_filter.1 hb).1
  simp only[chg,zTR,List.length_cons,List.length_nil]
  rcases List.mem_append.1 hb with hb|hb
  ·have:=hM b hb;omega
  ·have:=hA b hb;omega
 ·have:=hA a (List.mem_filter.1 ha).1;omega
theorem C7 (L:List Int)(n now:Int)(M:List fK)(hL:L.length≤9223372036854775807)(hq:∀ r∈L,(Lit.int .u8 r).wf=true)(hn:0≤n∧n≤255)(hM:M.length≤9223372036854775807)(hl:∀ a∈M,J5 a) :
 SC Tryz.V 7 [.o 0 L.length,.int .u8 n,.int .u64 now,.o 1 M.length] [.own (L.flatMap rp) 5 1 L.length false,.own (M.flatMap ac) 33 7 M.length false] (fun r _=>r=.bool true):=by
 have p0:=fun bs=>db (by simp[flat]) (mZ (bs:=bs))
 have hr:∀ r∈L,0≤r∧r≤255:=fun r h=>by
  have:IntKind.min .u8≤r∧r≤IntKind.max .u8:=by simpa[Lit.wf] using hq r h
  simpa[IntKind.min,IntKind.max,IntKind.signed,IntKind.bits] using this
 refine bo 3000 Tryz.func7 rfl Tryz.ntmps7 Tryz.results7 Tryz.call7 (by simp) (ah 2 _ (by simp[within,within.ax])) ?_
 refine dV ?_
 refine ae (p0 _) ?_
 rintro r b ⟨rfl,rfl⟩
 refine gA zTT ?_
 have sK:=db rfl (AR (bs:=[.own (L.flatMap rp) 5 1 L.length false,.own (M.flatMap ac) 33 7 M.length false]) (j:=1) rfl hM hl 5)
 generalize N5:decide ((M.length:Int)≤5∧∀ a∈M,a.host.length+a.target.length+a.raw.length≤1500)=dk at sK
 refine ae sK ?_
 rintro r b ⟨rfl,rfl⟩
 cases dk
 ·exact gA Bool.not_false True.intro
 obtain⟨hM5,Mj⟩:=of_decide_eq_true N5
 refine gA zTT ?_
 refine ae (sA (bs:=[.own (L.flatMap rp) 5 1 L.length false,.own (M.flatMap ac) 33 7 M.length false]) (j:=0) rfl hr hL n hn) ?_
 rintro r b1 ⟨A,q,u,rfl,mb,Cn,jS,cE,nF,hu,cP⟩
 replace cP:Kp [.own (L.flatMap rp) 5 1 L.length false,.own (M.flatMap ac) 33 7 M.length false] b1:=cP
 have hb1M:b1[1]? = some (.own (M.flatMap ac) 33 7 M.length false):=cP.at (j:=1) rfl
 have vQ:∀ a∈A,a.raw.length≤4000000:=fun a ha=>by have:=(nF a ha).2.2.1;omega
 have sR:=fun X=>gP (bs:=b1++X) (ad cE X) (by omega) vQ now u hu.fair
 unfold uc at sR ⊢
 refine dV ?_
 refine ae (sR _) ?_
 rintro r b2 ⟨bJ,yt,yf,rfl,hyt,hyf⟩
 have zE:=bJ.at (aI b1 _)
 have nC:=bJ.at (ad cE _)
 have hM2:=bJ.at (ad hb1M _)
 have he6:=(fend A now u).len
 have rle:=Da A now u 6
 have o1:=hyt.one
 have o2:=hyf.one
 unfold dy uc
 simp only[zTQ,zTP]
 refine gA (zTM o1 o2) ?_
 refine ae (ML (hyt.sx.app _) (by omega)) ?_
 rintro r b3 ⟨eF,hsy⟩
 have hu3:=eF.at (ad zE _)
 have hq3:=eF.at (ad nC _)
 have hM3:=eF.at (ad hM2 _)
 have hr3:=eF.at (aI b2 _)
 have hxt3:=hyt.sx.kp (((Kp.refl b2).app [.cells [.str (af A now u 6).dE.url.host,.int .i64 (af A now u 6).dE.url.port,.str (af A now u 6).dE.url.path,.str (af A now u 6).dE.url.query,.str (af A now u 6).dE.url.fragment,.bool (af A now u 6).dE.url.aD,.bool (af A now u 6).dE.url.aP,.int .i64 (af A now u 6).dE.minor,.int .i64 (af A now u 6).dE.status,yf,.str (af A now u 6).dE.body,yt] 51 true]).trans eF)
 have hxf3:=hyf.sx.kp (((Kp.refl b2).app [.cells [.str (af A now u 6).dE.url.host,.int .i64 (af A now u 6).dE.url.port,.str (af A now u 6).dE.url.path,.str (af A now u 6).dE.url.query,.str (af A now u 6).dE.url.fragment,.bool (af A now u 6).dE.url.aD,.bool (af A now u 6).dE.url.aP,.int .i64 (af A now u 6).dE.minor,.int .i64 (af A now u 6).dE.status,yf,.str (af A now u 6).dE.body,yt] 51 true]).trans eF)
 have hlM:=ep M
 have hlA:=ep A
 refine gA (zTM hM3 (zTM (ad hM3) (zTM hq3 (zTM (ad hq3) (zTM hlM hlA))))) ?_
 have hbl3:=(zTN.1 hr3).1
 have hu3l:=(zTN.1 hu3).1
 have hq3l:=(zTN.1 hq3).1
 have zL:=CD ((af A now u 6).trace.map ud) M mb
 have hfa:=xm M A u now 6
 have hfb:=xm (M++A) A u now 6
 generalize hH:(af A now u 6).trace.map ud=H at *
 have hH6:H.length≤6:=by rw[← hH,List.length_map];exact he6
 have hHl:H.length=(af A now u 6).trace.length:=by rw[← hH,List.length_map]
 rw[← hHl]at hsy
 generalize hT:af A now u 6=T at *
 obtain⟨B,hB⟩:∃ B,B=M++A:=⟨_,rfl⟩
 have Lu:M.length+A.length=B.length:=by rw[hB,zTR]
 have hBc:M.flatMap ac++A.flatMap ac=B.flatMap ac:=by rw[hB,List.flatMap_append]
 have pg:∀ a∈B,a.raw.length≤3000000:=fun a ha=>by
  rw[hB]at ha
  rcases List.mem_append.1 ha with h|h
  ·have:=Mj a h;omega
  ·exact(nF a h).2.2.1
 have hBL:=ep B
 rw[Lu,hBc]
 refine⟨⟨lU M,by unfold maxLen;omega,by omega⟩,⟨lU A,by unfold maxLen;omega,by omega⟩,?_⟩
 have hsy':=hsy.sx
 generalize r=y at hsy hsy' ⊢
 refine az (fun σ=>∃ (k:Nat) (x:SV),k≤B.length∧lk 2 σ.t=some (.int .u64 now)∧lk 9 σ.t=some (.o q A.length)∧lk 10 σ.t=some (.p b1.length 0)∧lk 11 σ.t=some (.p b2.length 0)∧lk 12 σ.t=some (.int .i64 T.err)∧lk 13 σ.t=some y∧lk 14 σ.t=some x∧lk 45 σ.t=some (.o (b3.length+1) B.length)∧lk 46 σ.t=some (.int .i64 B.length)∧lk 47 σ.t=some (.int .i64 k) ∧
  Kp b3 σ.b∧σ.b[b3.length+1]? = some (.own (B.flatMap ac) 33 7 B.length true)∧jW 33 7 (b3.length+2) x σ.b ((eC H (B.take k)).flatMap ac) (eC H (B.take k)).length) (fun σ=>B.length - fX 47 σ) ⟨0,.aj,by omega,rfl,rfl,rfl,rfl,rfl,rfl,rfl,rfl,rfl,rfl,(Kp.refl b3).app _,aU b3 _ 1,.inl ⟨rfl,rfl,rfl⟩⟩ ?_
 rintro⟨t,b⟩ ⟨k,x,hk,h2,h9,de,eJ,iN,gy,kN,h45,Hu,r9,bc,bB,fD⟩
 simp only at h2 h9 de eJ iN gy kN h45 Hu r9 bc bB fD
 rw[ao r9]
 rcases zTY k B.length with aA|qL
 ·have bg:decide ((k:Int)<B.length)=true:=decide_eq_true (by omega)
  have eK:zTV 7 (List.drop (k * 7) (B.flatMap ac))=[.str B[k].host,.int .i64 B[k].port,.str B[k].target,.str B[k].raw,.int .i64 B[k].fail,.int .u64 B[k].since,.int .u64 B[k].yo]:=CF B k aA
  have xb:=FE H aA
  have hol:=vG H (B.take k)
  rw[List.length_take,Nat.min_eq_left (by omega)]at hol
  have zK:=pg B[k] (List.getElem_mem aA)
  generalize B[k]=a at eK xb zK
  have sI:=fun X=>db (by simp[flat]) (sc_in (bs:=b++X) (a.host,a.port) ((hsy'.kp bc).app X) (by omega))
  have mh:b3.length≤b.length:=bc.1
  cases rZ:H.contains (a.host,a.port)
  ·rw[rZ]at sI xb
   simp only[Bool.false_eq_true,if_false]at xb
   have hch:ac (chg a)=[.str a.host,.int .i64 a.port,.str a.target,.str (a.raw++([99,104,97,110,103,101,100]:List UInt8)),.int .i64 a.fail,.int .u64 a.since,.int .u64 a.yo]:=rfl
   have hol2:=ep (eC H (B.take k))
   rcases fD with⟨rfl,jT,mO⟩|⟨i,rfl,oK,hLi,hi⟩
   ·have oK:=zTX.1 mO
    rw[oK,zTP]at xb
    refine gA (zTM h2 (zTM h9 (zTM de (zTM eJ (zTM iN (zTM gy (zTM kN (zTM h45 (zTM Hu (zTM r9 (zTM bB (zTM bg (zTM eK (zTM hBL zTO)))))))))))))) ?_
    refine⟨⟨by omega,by omega⟩,by omega,ae (sI _) ?_⟩
    rintro r b' ⟨rfl,hb'⟩
    cases hb'.symm
    refine gA (zTM h2 (zTM h9 (zTM de (zTM eJ (zTM iN (zTM gy (zTM kN (zTM h45 (zTM Hu r9))))))))) ?_
    refine⟨by omega,by omega,⟨by unfold maxLen;omega,by omega⟩,⟨by omega,by omega⟩,⟨k+1,_,by omega,rfl,rfl,bc.app _,ad bB _,?_⟩,?_⟩
    ·rw[xb]
     exact .inr ⟨b.length+2,rfl,by simp,by omega,aU b _ 2⟩
    ·rw[ao (k:=.i64) (n:=(k:Int)+1) rfl];omega
   ·have dF:=(zTN.1 hi).1
    have eg:∀ (l:List av) X,(b++l).set i X=b.set i X++l:=fun l X=>aO dF l X
    refine gA (zTM h2 (zTM h9 (zTM de (zTM eJ (zTM iN (zTM gy (zTM kN (zTM h45 (zTM Hu (zTM r9 (zTM bB (zTM bg (zTM eK (zTM hBL zTO)))))))))))))) ?_
    refine⟨⟨by omega,by omega⟩,by omega,ae (sI _) ?_⟩
    rintro r b' ⟨rfl,hb'⟩
    cases hb'.symm
    refine gA (zTM h2 (zTM h9 (zTM de (zTM eJ (zTM iN (zTM gy (zTM kN (zTM h45 (zTM Hu (zTM r9 (zTM (ad hi) (zTM eg hol2)))))))))))) ?_
    refine⟨by omega,by omega,⟨by unfold maxLen;omega,by omega⟩,⟨by omega,by omega⟩,⟨k+1,_,by omega,rfl,rfl,(bc.set (by omega) _).app _,ad (aw bB (by omega) _) _,?_⟩,?_⟩
    ·rw[xb,zTR,J0]
     exact .inr ⟨b.length+2,rfl,by simp,by omega,by rw[aQ (by simp)];rfl⟩
    ·rw[ao (k:=.i64) (n:=(k:Int)+1) rfl];omega
  ·rw[rZ]at sI xb
   simp only[if_true,List.append_nil]at xb
   refine gA (zTM h2 (zTM h9 (zTM de (zTM eJ (zTM iN (zTM gy (zTM kN (zTM h45 (zTM Hu (zTM r9 (zTM bB (zTM bg (zTM eK (zTM hBL zTO)))))))))))))) ?_
   refine⟨⟨by omega,by omega⟩,by omega,ae (sI _) ?_⟩
   rintro r b' ⟨rfl,hb'⟩
   cases hb'.symm
   refine gA (zTM h2 (zTM h9 (zTM de (zTM eJ (zTM iN (zTM gy (zTM kN (zTM h45 (zTM Hu r9))))))))) ?_
   refine⟨⟨by omega,by omega⟩,⟨k+1,_,by omega,rfl,rfl,bc.app _,ad bB _,by rw[xb];exact fD.app _⟩,?_⟩
   rw[ao (k:=.i64) (n:=(k:Int)+1) rfl];omega
 ·obtain rfl:k=B.length:=by omega
  have bg:decide ((B.length:Int)<B.length)=false:=by simp
  have Lp:=bc
  have bA:=bc.at hq3
  have bu:=bc.at hu3
  have br:=bc.at hr3
  rw[List.take_length]at fD
  rw[hB]at fD
  refine gA (zTM h2 (zTM h9 (zTM de (zTM eJ (zTM iN (zTM gy (zTM kN (zTM h45 (zTM Hu (zTM r9 bg)))))))))) ?_
  refine az (fun σ=>∃ (k:Nat) (x:SV),k≤A.length∧lk 2 σ.t=some (.int .u64 now)∧lk 9 σ.t=some (.o q A.length)∧lk 10 σ.t=some (.p b1.length 0)∧lk 11 σ.t=some (.p b2.length 0)∧lk 12 σ.t=some (.int .i64 T.err)∧lk 13 σ.t=some y∧lk 14 σ.t=some x∧lk 67 σ.t=some (.o q A.length)∧lk 68 σ.t=some (.int .i64 A.length)∧lk 69 σ.t=some (.int .i64 k) ∧
   Kp b3 σ.b∧jW 33 7 (b3.length+2) x σ.b ((eC H (M++A)++(A.take k).filter fun a=>H.contains (a.host,a.port)).flatMap ac) (eC H (M++A)++(A.take k).filter fun a=>H.contains (a.host,a.port)).length) (fun σ=>A.length - fX 69 σ) ⟨0,x,by omega,h2,h9,de,eJ,iN,gy,kN,rfl,rfl,rfl,bc,by rw[List.take_zero,List.filter_nil,List.append_nil];exact fD⟩ ?_
  clear h2 h9 de eJ iN gy kN h45 Hu r9 bc fD bB bA bu br Lp
  clear t b x
  rintro⟨t,b⟩ ⟨k,x,hk,h2,h9,de,eJ,iN,gy,kN,h67,h68,On,bc,fD⟩
  simp only at h2 h9 de eJ iN gy kN h67 h68 On bc fD
  rw[ao On]
  have bA:=bc.at hq3
  have bu:=bc.at hu3
  have br:=bc.at hr3
  have mh:b3.length≤b.length:=bc.1
  rcases zTY k A.length with aA|qL
  ·have bg:decide ((k:Int)<A.length)=true:=decide_eq_true (by omega)
   have eK:zTV 7 (List.drop (k * 7) (A.flatMap ac))=[.str A[k].host,.int .i64 A[k].port,.str A[k].target,.str A[k].raw,.int .i64 A[k].fail,.int .u64 A[k].since,.int .u64 A[k].yo]:=CF A k aA
   have xb:=I7 H aA
   have hol:=vG H (M++A)
   rw[zTR]at hol
   have hof:=List.length_filter_le (fun a:fK=>H.contains (a.host,a.port)) (A.take k)
   rw[List.length_take,Nat.min_eq_left (by omega)]at hof
   generalize hP:(A.take k).filter (fun a=>H.contains (a.host,a.port))=P at xb fD hof
   generalize eC H (M++A)=O at *
   have zK:=(nF A[k] (List.getElem_mem aA)).2.2.1
   generalize A[k]=a at eK xb zK
   have sI:=fun X=>db (by simp[flat]) (sc_in (bs:=b++X) (a.host,a.port) ((hsy'.kp bc).app X) (by omega))
   cases rZ:H.contains (a.host,a.port)
   ·rw[rZ]at sI xb
    simp only[Bool.false_eq_true,if_false,List.append_nil]at xb
    refine gA (zTM h2 (zTM h9 (zTM de (zTM eJ (zTM iN (zTM gy (zTM kN (zTM h67 (zTM h68 (zTM On (zTM bA (zTM bg (zTM eK (zTM hlA zTO)))))))))))))) ?_
    refine⟨⟨by omega,by omega⟩,by omega,ae (sI _) ?_⟩
    rintro r b' ⟨rfl,hb'⟩
    cases hb'.symm
    refine gA (zTM h2 (zTM h9 (zTM de (zTM eJ (zTM iN (zTM gy (zTM kN (zTM h67 (zTM h68 On))))))))) ?_
    refine⟨⟨by omega,by omega⟩,⟨k+1,_,by omega,rfl,rfl,bc.app _,by rw[xb,← zTR];exact fD.app _⟩,?_⟩
    rw[ao (k:=.i64) (n:=(k:Int)+1) rfl];omega
   ·rw[rZ]at sI xb
    simp only[if_true]at xb
    have hOl:(O++P).length=O.length+P.length:=zTR
    have hol2:=ep (O++P)
    rcases fD with⟨rfl,jT,mO⟩|⟨i,rfl,oK,hLi,hi⟩
    ·have oK:=zTX.1 mO
     refine gA (zTM h2 (zTM h9 (zTM de (zTM eJ (zTM iN (zTM gy (zTM kN (zTM h67 (zTM h68 (zTM On (zTM bA (zTM bg (zTM eK (zTM hlA zTO)))))))))))))) ?_
     refine⟨⟨by omega,by omega⟩,by omega,ae (sI _) ?_⟩
     rintro r b' ⟨rfl,hb'⟩
     cases hb'.symm
     refine gA (zTM h2 (zTM h9 (zTM de (zTM eJ (zTM iN (zTM gy (zTM kN (zTM h67 (zTM h68 On))))))))) ?_
     refine⟨by omega,⟨by unfold maxLen;omega,by omega⟩,⟨by omega,by omega⟩,⟨k+1,_,by omega,rfl,rfl,bc.app _,?_⟩,?_⟩
     ·rw[xb,← zTR,← List.append_assoc,oK]
      exact .inr ⟨b.length+2,rfl,by simp,by omega,aU b _ 2⟩
     ·rw[ao (k:=.i64) (n:=(k:Int)+1) rfl];omega
    ·have dF:=(zTN.1 hi).1
     have eg:∀ (l:List av) X,(b++l).set i X=b.set i X++l:=fun l X=>aO dF l X
     refine gA (zTM h2 (zTM h9 (zTM de (zTM eJ (zTM iN (zTM gy (zTM kN (zTM h67 (zTM h68 (zTM On (zTM bA (zTM bg (zTM eK (zTM hlA zTO)))))))))))))) ?_
     refine⟨⟨by omega,by omega⟩,by omega,ae (sI _) ?_⟩
     rintro r b' ⟨rfl,hb'⟩
     cases hb'.symm
     refine gA (zTM h2 (zTM h9 (zTM de (zTM eJ (zTM iN (zTM gy (zTM kN (zTM h67 (zTM h68 (zTM On (zTM (ad hi) (zTM eg hol2)))))))))))) ?_
     refine⟨by omega,⟨by unfold maxLen;omega,by omega⟩,⟨by omega,by omega⟩,⟨k+1,_,by omega,rfl,rfl,(bc.set (by omega) _).app _,?_⟩,?_⟩
     ·rw[xb,← zTR,← List.append_assoc,zTR (bs:=[a]),J0,hOl]
      exact .inr ⟨b.length+2,rfl,by omega,by omega,by rw[aQ (by simp)];rfl⟩
     ·rw[ao (k:=.i64) (n:=(k:Int)+1) rfl];omega
  ·obtain rfl:k=A.length:=by omega
   have bg:decide ((A.length:Int)<A.length)=false:=by simp
   rw[List.take_length]at fD
   have l8:(eC H (M++A)++A.filter fun a=>H.contains (a.host,a.port)).length≤200:=by
    have h1:=vG H (M++A)
    have h2:=List.length_filter_le (fun a:fK=>H.contains (a.host,a.port)) A
    rw[zTR]at h1 ⊢
    omega
   have zL:=CD H M mb
   have hor:=LR (H:=H) (M:=M) (A:=A) (fun a ha=>by have:=Mj a ha;omega) (fun a ha=>(nF a ha).2.2.1)
   have hfc:af (eC H (M++A)++A.filter fun a=>H.contains (a.host,a.port)) now u 6=T:=hfb
   generalize eC H (M++A)++A.filter (fun a=>H.contains (a.host,a.port))=O at *
   rcases fD with⟨rfl,jT,mO⟩|⟨i,rfl,oK,hLi,hi⟩
   ·omega
   have sQ:=gP (bs:=b) hi (by omega) hor now u hu.fair
   rw[hfc]at sQ
   unfold dy uc at sQ
   simp only[zTQ,zTP]at sQ
   refine gA (zTM h2 (zTM h9 (zTM de (zTM eJ (zTM iN (zTM gy (zTM kN (zTM h67 (zTM h68 (zTM On (zTM bu bg))))))))))) ?_
   refine ae sQ ?_
   rintro r b' ⟨hk',zt,zf,rfl,hzt,hzf⟩
   have br':=hk'.at br
   have o1:=hzt.one
   have o2:=hzf.one
   refine gA (zTM h2 (zTM h9 (zTM de (zTM eJ (zTM iN (zTM gy (zTM kN (zTM h67 (zTM h68 (zTM On (zTM br' (zTM (ad br') (zTM o1 o2))))))))))))) ?_
   refine ae (wJ T.dE T.trace (((hxf3.kp bc).kp hk').app _) (hzf.sx.app _) (by omega) (((hxt3.kp bc).kp hk').app _) (hzt.sx.app _) (by omega)) ?_
   rintro r b9 ⟨rfl,rfl⟩
   exact gA (zTM h2 (zTM h9 (zTM de (zTM eJ (zTM iN (zTM gy (zTM kN (zTM h67 (zTM h68 On))))))))) True.intro
end Go.Proofs.YtnmlimehgifadaaGreatDoor
