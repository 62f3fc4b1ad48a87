/- R10 -/
import Derived.Test.YtnmlimehgifadaaGreatDoorR9
open And renaming intro→zUR
open List renaming getElem?_eq_some_iff→zUS,getElem?_set_self→zUU,cons_append→zUW,nil_append→zUX,getElem?_set_ne→zUY,length_eq_zero_iff→zU0,length_cons→zU1,drop_drop→zU2,length_nil→zU4,isPrefixOf_iff_prefix→zU5,map_cons→zU6,take_length→zU8,take_succ_eq_append_getElem→zU9,map_nil→zVa,prefix_iff_eq_take→zVb,take_of_length_le→zVe,eq_nil_or_concat→zVf,getElem?_append_right→zVh
open Int renaming toNat_natCast→zUT
open Bool renaming not_false→zUZ,not_true→zU3,and_eq_true→zVg
open Nat renaming le_refl→zU7,add_sub_cancel_left→zVd
open UInt8 renaming toNat_inj→zVi
open Go.Proofs.Tryz
set_option linter.all false
set_option maxHeartbeats 16000000
set_option maxRecDepth 20000
namespace Go.Proofs.YtnmlimehgifadaaGreatDoor
open Go Vc Go.RowKit Wf
theorem uo {bs:List aq}{x y:SV}{L:List (Bytes × Bytes)}(hx:Sx 100 2 x bs (L.flatMap fc) L.length)(hy:Sx 100 2 y bs (L.flatMap fc) L.length)(hL:L.length≤1000000) :
 SC QH 104 [x,y] bs (fun r b=>r=.bool true∧b=bs):=by
 refine cY (by simp[flat]) ?_;rcases hx with⟨rfl,-,h0⟩|⟨i,m,rfl,rb,hi⟩
 ·rcases hy with⟨rfl,-,-⟩|⟨-,-,-,h1,-⟩
  rotate_left
  ·omega
  refine bp 3000 func104 rfl ntmps104 results104 call104 QB (af bs.length _ (by simp[within,within.av])) ?_;refine dY ?_;refine ax (fun σ=>lk 12 σ.t=some (.int .i64 0)∧lk 13 σ.t=some (.int .i64 0)∧σ.b=bs) (fun _=>0) ⟨rfl,rfl,rfl⟩ ?_;rintro⟨t,b⟩ ⟨qq,gO,hb⟩;simp only at qq gO hb;subst hb;refine gK (zUR qq gO) ?_;exact Kp.refl _
 ·rcases hy with⟨-,-,h0⟩|⟨j,m',rfl,-,hj⟩
  ·omega
  have dJ:i<bs.length:=(zUS.1 hi).1;have e9:j<bs.length:=(zUS.1 hj).1;refine bp 3000 func104 rfl ntmps104 results104 call104 QB (af bs.length _ (by simp[within,within.av,e9,dJ])) ?_;refine iC ?_;refine ax (fun σ=>∃ q:Nat,q≤L.length∧lk 0 σ.t=some (.o i L.length)∧lk 1 σ.t=some (.o j L.length)∧lk 12 σ.t=some (.int .i64 L.length)∧lk 13 σ.t=some (.int .i64 q)∧σ.b=bs) (fun σ=>L.length - fA 13 σ) ⟨0,QA,rfl,rfl,rfl,rfl,rfl⟩ ?_;rintro⟨t,b⟩ ⟨q,hq,h0,h1,qq,gO,hb⟩;simp only at h0 h1 qq gO hb;subst hb;rw[ak gO];by_cases az:q<L.length
  ·have aK:decide ((q:Int)<L.length)=true:=QF
   have hu:=K6 L q az;have mI:=Aw L;generalize L[q]=a at hu;rw[show fc a=[.str a.1,.str a.2] from rfl]at hu;refine gB (zUR h0 (zUR h1 (zUR qq (zUR gO (zUR hj (zUR hi (zUR hu (zUR mI (zUR aK zUT))))))))) ?_;refine⟨⟨QA,QA⟩,QA,⟨QA,QA⟩,QA,(ao QE),⟨QA,QA⟩,⟨q+1,QA,rfl⟩,?_⟩;rw[ak (k:=.i64) (n:=(q:Int)+1) rfl];omega
  ·have hU:q=L.length:=QA
   subst hU;have aK:decide ((L.length:Int)<L.length)=false:=by simp
   refine gK (zUR h0 (zUR h1 (zUR qq (zUR gO aK)))) ?_;exact Kp.refl _
theorem vX {bs:List aq}{x y:SV}{L:List (bN × Int × Int)}(hx:Sx 62 9 x bs (L.flatMap ec) L.length)(hy:Sx 62 9 y bs (L.flatMap ec) L.length)(hL:L.length≤1000000) :
 SC QH 49 [x,y] bs (fun r b=>r=.bool true∧b=bs):=by
 refine cY (by simp[flat]) ?_;rcases hx with⟨rfl,-,h0⟩|⟨i,m,rfl,rb,hi⟩
 ·rcases hy with⟨rfl,-,-⟩|⟨-,-,-,h1,-⟩
  rotate_left
  ·omega
  refine bp 3000 func49 rfl ntmps49 results49 call49 QB (af bs.length _ (by simp[within,within.av])) ?_;refine dY ?_;refine ax (fun σ=>lk 12 σ.t=some (.int .i64 0)∧lk 13 σ.t=some (.int .i64 0)∧σ.b=bs) (fun _=>0) ⟨rfl,rfl,rfl⟩ ?_;rintro⟨t,b⟩ ⟨qq,gO,hb⟩;simp only at qq gO hb;subst hb;refine gK (zUR qq gO) ?_;exact Kp.refl _
 ·rcases hy with⟨-,-,h0⟩|⟨j,m',rfl,-,hj⟩
  ·omega
  have dJ:i<bs.length:=(zUS.1 hi).1;have e9:j<bs.length:=(zUS.1 hj).1;refine bp 3000 func49 rfl ntmps49 results49 call49 QB (af bs.length _ (by simp[within,within.av,e9,dJ])) ?_;refine iC ?_;refine ax (fun σ=>∃ q:Nat,q≤L.length∧lk 0 σ.t=some (.o i L.length)∧lk 1 σ.t=some (.o j L.length)∧lk 12 σ.t=some (.int .i64 L.length)∧lk 13 σ.t=some (.int .i64 q)∧σ.b=bs) (fun σ=>L.length - fA 13 σ) ⟨0,QA,rfl,rfl,rfl,rfl,rfl⟩ ?_;rintro⟨t,b⟩ ⟨q,hq,h0,h1,qq,gO,hb⟩;simp only at h0 h1 qq gO hb;subst hb;rw[ak gO];by_cases az:q<L.length
  ·have aK:decide ((q:Int)<L.length)=true:=QF
   have hu:=ec_at L q az;have mI:=PX L;generalize L[q]=a at hu;rw[show ec a=[.str a.1.host,.int .i64 a.1.port,.str a.1.path,.str a.1.query,.str a.1.fragment,.bool a.1.aJ,.bool a.1.a8,.int .i64 a.2.1,.int .i64 a.2.2] from rfl]at hu;refine gB (zUR h0 (zUR h1 (zUR qq (zUR gO (zUR hj (zUR hi (zUR hu (zUR mI (zUR aK zUT))))))))) ?_;refine⟨⟨QA,QA⟩,QA,⟨QA,QA⟩,QA,(ao QE),⟨QA,QA⟩,⟨q+1,QA,rfl⟩,?_⟩;rw[ak (k:=.i64) (n:=(q:Int)+1) rfl];omega
  ·have hU:q=L.length:=QA
   subst hU;have aK:decide ((L.length:Int)<L.length)=false:=by simp
   refine gK (zUR h0 (zUR h1 (zUR qq (zUR gO aK)))) ?_;exact Kp.refl _
theorem FO {bs:List aq}{x y:SV}{L:List (Bytes × Bytes)}(a c:Int)(hx:Sx 100 2 x bs (L.flatMap fc) L.length)(hy:Sx 100 2 y bs (L.flatMap fc) L.length)(hL:L.length≤1000000) :
 SC QH 48 [.agg [.int .i64 a,.int .i64 c,x],.agg [.int .i64 a,.int .i64 c,y]] bs (fun r b=>r=.bool true∧b=bs):=by
 refine cY (by simp[flat]) ?_;have Aa:=hx.within;have hyw:=hy.within;refine bp 3000 func48 rfl ntmps48 results48 call48 QB (af bs.length _ (by simp[within,within.av,Aa,hyw])) ?_;refine dY ?_;refine ae (uo (hx.app _) (hy.app _) hL) ?_;rintro r b ⟨rfl,rfl⟩;refine dY ?_;exact(Kp.refl bs).app _
theorem FM {bs:List aq}{xf yf xt yt:SV}(q:fJ)(T:List (bN × Int × Int))(hx:Sx 100 2 xf bs (q.fields.flatMap fc) q.fields.length)(hy:Sx 100 2 yf bs (q.fields.flatMap fc) q.fields.length)(hf:q.fields.length≤1000000)
 (hu:Sx 62 9 xt bs (T.flatMap ec) T.length) (hv:Sx 62 9 yt bs (T.flatMap ec) T.length) (ht:T.length≤1000000) :
 SC QH 18 [.agg (cR q xf xt),.agg (cR q yf yt)] bs (fun r b=>r=.bool true∧b=bs):=by
 refine cY (by simp[flat]) ?_;have Aa:=hx.within;have hyw:=hy.within;have huw:=hu.within;have hvw:=hv.within;refine bp 3000 func18 rfl ntmps18 results18 call18 QB (af bs.length _ (by simp[within,within.av,cR,uc,Aa,hyw,huw,hvw])) ?_;unfold cR uc;refine dY ?_;refine ae (FO _ _ (hx.app _) (hy.app _) hf) ?_;rintro r b ⟨rfl,rfl⟩;refine dY ?_;refine ae (vX (hu.app _) (hv.app _) ht) ?_;rintro r b ⟨rfl,rfl⟩;refine dY ?_;exact(Kp.refl bs).app _
theorem FV:∀ a∈lQ,a.raw.length≤4000000:=by
 rw[ze];intro a ha;simp only[List.mem_cons,List.not_mem_nil,or_false]at ha;rcases ha with rfl|rfl <;> decide
theorem Kl (p:Bytes)(h:p.length≤100):Fair (sU p):=⟨by have:aE.length=9:=rfl;simp[sU];omega,by simp[sU]⟩
theorem Dn {e s L:Nat}{x:SV}{b:List aq}{c:List SV}{n:Nat}(h:mB e s L x b c n)(hn:0<n):∃ q,x=.o q n∧q<b.length:=by
 rcases h with⟨-,-,h⟩|⟨j,h1,-,-,h3⟩
 ·omega
 ·exact⟨j,h1,(zUS.1 h3).1⟩
theorem run_1 {bs:List aq}{j:Nat}{m:Bool}(hj:bs[j]? = some (.own (lQ.flatMap ac) 33 7 2 m)):SC QH 16 [.o j 2,.int .u64 0,.agg [.str [97,46,101,120,97,109,112,108,101],.int .i64 0,.str [47],.str [],.str [],.bool false,.bool false]] bs (fun r b=>Kp bs b∧∃ q,r=.eh [.agg (cR fJ.none .ai (.o q 1)),.int .i64 251]):=by
 have h:=oS (L:=lQ) hj QD FV 0 (sU [47]) (Kl _ QD);rw[sane_1]at h;refine SC.mono h ?_;rintro r b ⟨hk,yt,yf,rfl,h1,h2⟩;obtain⟨q,rfl,-⟩:=Dn h1 QD;rcases h2 with⟨rfl,-⟩|⟨j,-,h,-⟩
 ·exact⟨hk,q,rfl⟩
 ·exact absurd h QD
theorem run_2 {bs:List aq}{j:Nat}{m:Bool}(hj:bs[j]? = some (.own (lQ.flatMap ac) 33 7 2 m)):SC QH 16 [.o j 2,.int .u64 0,.agg [.str [97,46,101,120,97,109,112,108,101],.int .i64 0,.str [47,120],.str [],.str [],.bool false,.bool false]] bs (fun r b=>Kp bs b∧∃ p q,r=.eh [.agg (cR ⟨sU [47,120],1,200,[(so,Ca)],[97,98,99]⟩ (.o p 1) (.o q 1)),.int .i64 0]):=by
 have h:=oS (L:=lQ) hj QD FV 0 (sU [47,120]) (Kl _ QD);rw[sane_2]at h;refine SC.mono h ?_;rintro r b ⟨hk,yt,yf,rfl,h1,h2⟩;obtain⟨q,rfl,-⟩:=Dn h1 QD;obtain⟨p,rfl,-⟩:=Dn h2 QD;exact⟨hk,p,q,rfl⟩
theorem Bm {bs:List aq}:SC QH 14 [] bs (fun r b=>r=.bool true∧Kp bs b):=by
 refine bp 3000 func14 rfl ntmps14 results14 call14 QB (af bs.length _ (by simp[within,within.av])) ?_;have w1:=fun X Y=>fj (bs:=bs++[X]++[.own ([(uV,[47])].flatMap fc) 100 2 1 true]) (fs:=[(uV,[47])]) (.inr ⟨_,true,rfl,by decide,aB _ _⟩) QD QD 302 QA [] QB Y
 have w2:=fun X Y Z=>fj (bs:=bs++[X]++[Y]) (x:=.ai) (fs:=[]) (.inl ⟨rfl,rfl,rfl⟩) QD QD 200 QA [97,98,99] QB Z
 simp only[List.flatMap_cons,List.flatMap_nil,fc,zUW,zUX,zU1,zU4,Nat.zero_add]at w1;unfold uV at w1;refine iC ?_;refine⟨QA,ae (w1 _ _) ?_⟩;rintro r b ⟨rfl,rfl⟩;refine iC ?_;refine ae (w2 _ _ _) ?_;rintro r b ⟨rfl,rfl⟩;refine iC ?_;refine⟨QA,ae (run_1 (aB _ _)) ?_⟩;rintro r b ⟨hk,q,rfl⟩;have gp:=((((Kp.refl bs).app _).app _).app _).trans hk;have h0:=hk.at (ad (ad (aB bs _) _) _);have hl:=hk.at (aB _ _);unfold cR fJ.none bN.none uc;simp only[zUW,zUX];have jF:bs.length<b.length:=(zUS.1 h0).1;have hJ:∀ A B:aq,(bs++[A]++[B]).length≠bs.length:=fun A B=>QB
 have c0:=fun X=>ad h0 [X]
 have s0:∀ X Y,((b++[X]).set bs.length Y)[bs.length]? = some Y:=fun X Y=>zUU QC
 refine gB (zUR h0 (zUR c0 s0)) ?_;refine ae (run_2 ((zUY (hJ _ _).symm).trans (ad hl _))) ?_;rintro r b3 ⟨eL,p3,q3,rfl⟩;have hkb3:=((gp.app _).set (zU7 _) _).trans eL;have r0:=eL.at ((zUY QA).trans (aB b _));unfold cR sU uc;simp only[zUW,zUX];have r1:=fun X=>ad r0 [X]
 have r2:=fun X=>aB b3 X
 simp only[bJ,↓Xn,↓Xo,↓Xg,↓Xd,↓Xe,↓Xf,Tryz.VΓ,Tryz.Γs,Xp,Xi,Nat.reduceAdd,Nat.reduceSub,Nat.reduceLT,Nat.reduceLeDiff,reduceIte,reduceCtorEq,Nat.reduceEqDiff,implies_true,forall_const,bI,kC,beq_self_eq_true,bne_self_eq_false,Int.reduceBEq,Int.reduceBNe,Int.reduceLT,Int.reduceLE,r0,r1,r2,zUW,zUX];exact⟨fun _=>⟨rfl,hkb3.app _⟩,fun h=>absurd h QD⟩
theorem DK (L:List jD)(now:Int)(u:bN):(bO L now u).1.fields.length≤64:=by
 unfold bO;split
 ·simp[fJ.none]
 split
 ·simp[fJ.none]
 split <;> exact(lf _).1
theorem Kn (L:List jD)(now:Int)(u:bN):∀ n,(aA L now u n).fC.fields.length≤64
 | 0=>by unfold aA bD;split <;> simp[fJ.none]
 | n+1=>by
   have ih:=Kn L now u n;have h:=DK L now (aA L now u n).next;rw[aA];unfold bP;split
   ·exact ih
   generalize bO L now (aA L now u n).next=z at h;obtain⟨r,st,e⟩:=z;simp only at h ⊢;split
   ·generalize bT _ _ _ _=y
    obtain⟨v,e2⟩:=y;simp only;split <;> simp[fJ.none]
   ·split
    ·simp[fJ.none]
    ·exact h
theorem oe (s:Bytes)(hs:s.length≤9223372036854775807):PC QH 164 [.str s] (.bool (fB s)):=by
 refine aU 3000 func164 rfl ntmps164 results164 call164 QB (by simp[flat,flat.ah]) (by simp[flat,flat.ah]) ?_;refine ly ?_;refine ax (fun σ=>∃ q:Nat,q≤s.length∧lk 0 σ.t=some (.str s)∧lk 3 σ.t=some (.int .i64 q)∧(s.take q).all e7=true) (fun σ=>s.length - fA 3 σ) ⟨0,QA,rfl,rfl,QB⟩ ?_;rintro⟨t,b⟩ ⟨q,hq,h0,h7,cn⟩;simp only at h0 h7;rw[ak h7];by_cases az:q<s.length
 ·have aK:decide ((q:Int)<s.length)=true:=QF
  have hg:=gD az;have ht:=fun h=>mz (p:=e7) az cn h
  have hn:=fun h=>cX (p:=e7) az h
  generalize s[q]=c at hg ht hn;have p1:=kA c;refine gK (zUR h0 (zUR h7 (zUR aK (zUR hg zUT)))) ?_;refine⟨⟨QA,QA⟩,?_⟩
  (refine aa (p1) ?_;refine gK (zUR h0 (zUR h7 (zUR aK hg))) ?_)
  refine⟨fun h=>?_,fun h=>⟨⟨QA,QA⟩,⟨q+1,QA,rfl,ht (by simpa using h)⟩,?_⟩⟩
  ·have hn:=hn (by simpa using h)
   (unfold fB;rw[hn])
  ·rw[ak (k:=.i64) (n:=(q:Int)+1) rfl];omega
 ·have hU:q=s.length:=QA
  subst hU;have aK:decide ((s.length:Int)<s.length)=false:=by simp
  rw[zU8]at cn;refine gN (zUR h0 (zUR h7 aK)) ?_
  (unfold fB;rw[cn])
theorem Gq (s:Bytes)(hs:s.length≤9223372036854775807):PC QH 163 [.str s] (.bool (oh s)):=by
 refine aU 3000 func163 rfl ntmps163 results163 call163 QB (by simp[flat,flat.ah]) (by simp[flat,flat.ah]) ?_;refine ly ?_;refine ax (fun σ=>∃ q:Nat,q≤s.length∧lk 0 σ.t=some (.str s)∧lk 3 σ.t=some (.int .i64 q)∧(s.take q).all rU=true) (fun σ=>s.length - fA 3 σ) ⟨0,QA,rfl,rfl,QB⟩ ?_;rintro⟨t,b⟩ ⟨q,hq,h0,h7,cn⟩;simp only at h0 h7;rw[ak h7];by_cases az:q<s.length
 ·have aK:decide ((q:Int)<s.length)=true:=QF
  have hg:=gD az;have ht:=fun h=>mz (p:=rU) az cn h
  have hn:=fun h=>cX (p:=rU) az h
  generalize s[q]=c at hg ht hn;have p1:=oY c;refine gK (zUR h0 (zUR h7 (zUR aK (zUR hg zUT)))) ?_;refine⟨⟨QA,QA⟩,?_⟩
  (refine aa (p1) ?_;refine gK (zUR h0 (zUR h7 (zUR aK hg))) ?_)
  refine⟨fun h=>?_,fun h=>⟨⟨QA,QA⟩,⟨q+1,QA,rfl,ht (by simpa using h)⟩,?_⟩⟩
  ·have hn:=hn (by simpa using h)
   (unfold oh;rw[hn,Bool.and_false])
  ·rw[ak (k:=.i64) (n:=(q:Int)+1) rfl];omega
 ·have hU:q=s.length:=QA
  subst hU;have aK:decide ((s.length:Int)<s.length)=false:=by simp
  rw[zU8]at cn;refine gN (zUR h0 (zUR h7 aK)) ?_
  (unfold oh;rw[cn,Bool.and_true];cases s <;> rfl)
theorem xD (s:Bytes)(hs:s.length≤9223372036854775807):PC QH 203 [.str s] (.bool (bj s)):=by
 refine aU 3000 func203 rfl ntmps203 results203 call203 QB (by simp[flat,flat.ah]) (by simp[flat,flat.ah]) ?_;refine ly ?_;refine ax (fun σ=>∃ q:Nat,q≤s.length∧lk 0 σ.t=some (.str s)∧lk 3 σ.t=some (.int .i64 q)∧(s.take q).all isDigit=true) (fun σ=>s.length - fA 3 σ) ⟨0,QA,rfl,rfl,QB⟩ ?_;rintro⟨t,b⟩ ⟨q,hq,h0,h7,cn⟩;simp only at h0 h7;rw[ak h7];by_cases az:q<s.length
 ·have aK:decide ((q:Int)<s.length)=true:=QF
  have hg:=gD az;have ht:=fun h=>mz (p:=isDigit) az cn h
  have hn:=fun h=>cX (p:=isDigit) az h
  generalize s[q]=c at hg ht hn;have p1:=fm c;refine gK (zUR h0 (zUR h7 (zUR aK (zUR hg zUT)))) ?_;refine⟨⟨QA,QA⟩,?_⟩
  (refine aa (p1) ?_;refine gK (zUR h0 (zUR h7 (zUR aK hg))) ?_)
  refine⟨fun h=>?_,fun h=>⟨⟨QA,QA⟩,⟨q+1,QA,rfl,ht (by simpa using h)⟩,?_⟩⟩
  ·have hn:=hn (by simpa using h)
   (unfold bj;rw[hn,Bool.and_false])
  ·rw[ak (k:=.i64) (n:=(q:Int)+1) rfl];omega
 ·have hU:q=s.length:=QA
  subst hU;have aK:decide ((s.length:Int)<s.length)=false:=by simp
  rw[zU8]at cn;refine gN (zUR h0 (zUR h7 aK)) ?_
  (unfold bj;rw[cn,Bool.and_true];cases s <;> rfl)
theorem Jv {s p:Bytes}{k:Nat}(hk:k+p.length≤s.length)(h:¬ (s.drop k).take p.length=p)(hp:0<p.length):Lib.index (s.drop k) p=if Lib.index (s.drop (k+1)) p<0 then -1 else Lib.index (s.drop (k+1)) p+1:=by
 have u9:k<s.length:=QA;rw[drop_cons s k u9,Lib.index];rw[drop_cons s k u9]at h;rw[if_neg]
 ·have:=Lib.index_ge (s.drop (k+1)) p
  by_cases h1:Lib.index (s.drop (k+1)) p<0
  ·rw[if_pos h1,if_pos (by rw[beq_iff_eq];omega)]
  ·rw[if_neg h1,if_neg (by rw[beq_iff_eq];omega)]
 ·intro hh
  rw[zU5,zVb]at hh;exact h hh.symm
theorem Jw {s p:Bytes}(h:s.take p.length=p):Lib.index s p=0:=by
 have hh:p.isPrefixOf s=true:=by
  rw[zU5,zVb];exact h.symm
 cases s with
 | nil=>rw[Lib.index,if_pos];simpa using hh
 | cons c s=>rw[Lib.index,if_pos hh]
theorem GU {s p:Bytes}(h:s.length<p.length):Lib.index s p=-1:=by
 have h1:=Lib.index_ge s p;have h2:=ie s p;by_cases h3:0≤Lib.index s p
 ·have:=h2 h3;omega
 ·omega
theorem tw (s p:Bytes)(hs:s.length≤4294967281)(hp:p.length≤1000)(hp0:0<p.length):PC QH 161 [.str s,.str p] (.int .i64 (Lib.index s p)):=by
 refine aU 3000 func161 rfl ntmps161 results161 call161 QB (by simp[flat,flat.ah]) (by simp[flat,flat.ah]) ?_;refine ly ?_;refine ax (fun σ=>∃ q:Nat,q≤s.length+1∧lk 0 σ.t=some (.str s)∧lk 1 σ.t=some (.str p)∧lk 5 σ.t=some (.int .i64 q)∧Lib.index s p=if Lib.index (s.drop q) p<0 then -1 else Lib.index (s.drop q) p+q) (fun σ=>s.length+1 - fA 5 σ) ⟨0,QA,rfl,rfl,rfl,?_⟩ ?_
 ·have:=Lib.index_ge s p
  simp only[List.drop_zero];split <;> omega
 rintro⟨t,b⟩ ⟨q,hq,h0,h1,h5,BP⟩;simp only at h0 h1 h5;rw[ak h5];by_cases az:q+p.length≤s.length
 ·have aK:decide ((q:Int)+p.length≤s.length)=true:=QF
  refine gK (zUR h0 (zUR h1 (zUR h5 aK))) ?_;refine⟨QA,QA,?_⟩;have e1:((q:Int)+p.length).toNat=q+p.length:=QA;rw[e1];have e2:List.drop q (List.take (q+p.length) s)=(s.drop q).take p.length:=by rw[List.drop_take];congr 1;omega
  rw[e2];refine⟨QA,fun h=>?_,fun h=>?_⟩
  ·have h:=beq_iff_eq.1 h
   rw[BP,Jw h];simp
  ·have h:=beq_eq_false_iff_ne.1 h
   have h3:=Jv az h hp0;refine⟨QA,⟨q+1,QA,rfl,?_⟩,?_⟩
   ·rw[BP,h3]
    have:=Lib.index_ge (s.drop (q+1)) p
    push_cast
    split <;> split <;> omega
   ·rw[ak (k:=.i64) (n:=(q:Int)+1) rfl];omega
 ·have aK:decide ((q:Int)+p.length≤s.length)=false:=QG
  refine gK (zUR h0 (zUR h1 (zUR h5 aK))) ?_;refine⟨QA,?_⟩;rw[BP,GU QC];rfl
theorem Na (n:Int)(h0:0≤n)(h1:n<18446744073709551616):IntKind.u64.wrap n=n:=by
 simp only[IntKind.wrap,IntKind.bits,IntKind.signed];simp
 omega
theorem quo_n (x y:Nat)(hx:x≤4611686018427387904):j0 .quo .u64 (x:Int) (y:Int)=((x / y:Nat):Int):=by
 show IntKind.u64.wrap ((x:Int).tdiv (y:Int))=_
 have h1:((x:Int).tdiv (y:Int))=((x / y:Nat):Int):=by simp[Int.tdiv]
 rw[h1];have:=Nat.div_le_self x y
 generalize x / y=z at this;exact Na _ QA QA
theorem KV {c:UInt8}(h:aR c=true)(h2:c.toNat≤57):IntKind.u64.wrap (IntKind.u8.wrap ((c.toNat:Int) - 48))=bo c:=by
 have:=du (p:=fun c=>!aR c||!decide (c.toNat≤57)||decide (IntKind.u64.wrap (IntKind.u8.wrap ((c.toNat:Int) - 48))=bo c)) (by decide +kernel) c
 simpa[h,h2] using this
theorem KU {c:UInt8}(h:aR c=true)(h2:¬ c.toNat≤57):IntKind.u64.wrap (IntKind.u64.wrap (IntKind.u64.wrap (sg .or .u8 (c.toNat:Int) 32) - 97)+10)=bo c:=by
 have:=du (p:=fun c=>!aR c||decide (c.toNat≤57)||decide (IntKind.u64.wrap (IntKind.u64.wrap (IntKind.u64.wrap (sg .or .u8 (c.toNat:Int) 32) - 97)+10)=bo c)) (by decide +kernel) c
 simpa[h,h2] using this
theorem Ld {c:UInt8}(h:isDigit c=true):aR c=true∧c.toNat≤57:=by
 simp[isDigit]at h;simp[aR,h]
theorem Gw {b m n d:Nat}(hb:0<b)(hd:d≤m):m<n * b+d↔(m / b<n∨m - d<n * b):=by
 constructor
 ·intro h;right;omega
 ·rintro(h|h)
  ·have h1:m<(m / b+1) * b:=by
    have:=Nat.lt_mul_div_succ m hb
    rw[Nat.mul_comm]at this;exact this
   have h2:(m / b+1) * b≤n * b:=Nat.mul_le_mul_right _ h;omega
  ·omega
theorem D3 (s:Bytes)(m:Nat)(hs:s.length≤9223372036854775807)(hm:m≤4611686018427387904)(CS:15≤m):PC QH 204 [.str s,.int .u64 10,.int .u64 m] (.eh [.int .u64 (aF isDigit 10 m s).1,.int .i64 (aF isDigit 10 m s).2]):=by
 refine aU 3000 func204 rfl ntmps204 results204 call204 QB (by simp[flat,flat.ah]) (by simp[flat,flat.ah]) ?_;by_cases kN:s=[]
 ·subst kN
  refine ly ?_;rfl
 have hb:(s==([]:Bytes))=false:=beq_eq_false_iff_ne.2 kN;have bF:s.isEmpty=false:=by cases s;exact absurd rfl kN;rfl
 refine gK hb ?_;refine ax (fun σ=>∃ q:Nat,q≤s.length∧lk 0 σ.t=some (.str s)∧lk 1 σ.t=some (.int .u64 10)∧lk 2 σ.t=some (.int .u64 m)∧lk 8 σ.t=some (.int .i64 q)∧(s.take q).all isDigit=true) (fun σ=>s.length - fA 8 σ) ⟨0,QA,rfl,rfl,rfl,rfl,QB⟩ ?_;rintro⟨t,b⟩ ⟨q,hq,h0,h1,h2,h8,cn⟩;simp only at h0 h1 h2 h8;rw[ak h8];by_cases az:q<s.length
 ·have aK:decide ((q:Int)<s.length)=true:=QF
  have hg:=gD az;have ht:=fun h=>mz (p:=isDigit) az cn h
  have hn:=fun h=>cX (p:=isDigit) az h
  generalize s[q]=c at hg ht hn;have p1:=fm c;refine gK (zUR h0 (zUR h1 (zUR h2 (zUR h8 (zUR aK (zUR hg zUT)))))) ?_;refine⟨⟨QA,QA⟩,?_⟩;cases hc:isDigit c
  ·rw[hc]at p1
   (refine aa (p1) ?_;refine gK (zUR h0 (zUR h1 (zUR h2 (zUR h8 (zUR aK hg))))) ?_)
   unfold aF;rw[bF,hn hc];rfl
  ·rw[hc]at p1
   (refine aa (p1) ?_;refine gK (zUR h0 (zUR h1 (zUR h2 (zUR h8 (zUR aK hg))))) ?_)
   refine⟨⟨QA,QA⟩,⟨q+1,QA,rfl,ht hc⟩,?_⟩;rw[ak (k:=.i64) (n:=(q:Int)+1) rfl];omega
 ·have hU:q=s.length:=QA
  subst hU;have aK:decide ((s.length:Int)<s.length)=false:=by simp
  rw[zU8]at cn;refine gN (zUR h0 (zUR h1 (zUR h2 (zUR h8 aK)))) ?_;refine ax (fun σ=>∃ q n:Nat,q≤s.length∧n≤m∧lk 0 σ.t=some (.str s)∧lk 1 σ.t=some (.int .u64 10)∧lk 2 σ.t=some (.int .u64 m)∧lk 9 σ.t=some (.int .u64 n)∧lk 10 σ.t=some (.int .i64 q)∧dw 10 m n (s.drop q)=dw 10 m 0 s) (fun σ=>s.length - fA 10 σ) ⟨0,0,QA,QA,h0,h1,h2,rfl,rfl,rfl⟩ ?_;clear h0 h1 h2 h8;clear t b;rintro⟨t,b⟩ ⟨q,n,hq,hnm,h0,h1,h2,h9,eB,iR⟩;simp only at h0 h1 h2 h9 eB;rw[ak eB];by_cases az:q<s.length
  ·have aK:decide ((q:Int)<s.length)=true:=QF
   have hg:=gD az;have fY:=pO cn az;have Ao:=fun h=>jx (cls:=isDigit) bF cn iR az h
   have Hf:=fun h=>ix iR az h
   generalize s[q]=c at hg fY Ao Hf;have hx:aR c=true:=by first|exact fY|exact(Ld fY).1
   have hv:=iY hx;have qn:j0 .quo .u64 (m:Int) 10=((m / 10:Nat):Int):=quo_n m 10 hm;have wn:IntKind.u64.wrap ((m:Int) - bo c)=(m:Int) - bo c:=Na _ QA QA;have dm:decide ((m:Int)<bo c)=false:=QG;have fits:=Gw (b:=10) (m:=m) (n:=n) (d:=bo c) QA QA;have fin:¬ m<n * 10+bo c→∃ q' n':Nat,q'≤s.length∧n'≤m∧IntKind.u64.wrap (IntKind.u64.wrap ((n:Int) * 10)+bo c)=n'∧(q:Int)+1=q'∧dw 10 m n' (s.drop q')=dw 10 m 0 s:=fun h=>⟨q+1,n * 10+bo c,QA,QA,by rw[Na ((n:Int) * 10) QA QA,Na _ QA QA];push_cast;rfl,rfl,Hf h⟩
   have hz:∀ c':UInt8,c'=c→True:=fun _ _=>trivial
   by_cases sd:c.toNat≤57
   ·have d57:decide ((57:Int)<c.toNat)=false:=QG
    have hd:=KV hx sd;refine gK (zUR h0 (zUR h1 (zUR h2 (zUR h9 (zUR eB (zUR aK (zUR hg (zUR hd (zUR d57 (zUR qn (zUR wn (zUR dm zUT)))))))))))) ?_;repeat refine⟨⟨QA,QA⟩,?_⟩
    refine⟨QA,fun k1=>?_,fun k1=>?_⟩
    ·have k1:=of_decide_eq_false k1
     have wf:IntKind.u64.wrap ((n:Int) * 10)=(n:Int) * 10:=Na _ QA QA;rw[wf];refine⟨fun k2=>?_,fun k2=>?_⟩
     ·have k2:=of_decide_eq_false k2
      obtain⟨q',n',f1,f2,f3,f4,f5⟩:=fin (by rw[fits];omega);rw[wf]at f3;refine⟨⟨QA,QA⟩,⟨q',n',f1,f2,by rw[f3],by rw[f4],f5⟩,?_⟩;rw[ak (k:=.i64) (n:=(q:Int)+1) rfl];omega
     ·have k2:=of_decide_eq_true k2
      rw[← Ao (fits.2 QA)];rfl
    ·have k1:=of_decide_eq_true k1
     rw[← Ao (fits.2 QA)];rfl
   ·have d57:decide ((57:Int)<c.toNat)=true:=QF
    have hd:=KU hx sd;refine gK (zUR h0 (zUR h1 (zUR h2 (zUR h9 (zUR eB (zUR aK (zUR hg (zUR hd (zUR d57 (zUR qn (zUR wn (zUR dm zUT)))))))))))) ?_;repeat refine⟨⟨QA,QA⟩,?_⟩
    refine⟨QA,fun k1=>?_,fun k1=>?_⟩
    ·have k1:=of_decide_eq_false k1
     have wf:IntKind.u64.wrap ((n:Int) * 10)=(n:Int) * 10:=Na _ QA QA;rw[wf];refine⟨fun k2=>?_,fun k2=>?_⟩
     ·have k2:=of_decide_eq_false k2
      obtain⟨q',n',f1,f2,f3,f4,f5⟩:=fin (by rw[fits];omega);rw[wf]at f3;refine⟨⟨QA,QA⟩,⟨q',n',f1,f2,by rw[f3],by rw[f4],f5⟩,?_⟩;rw[ak (k:=.i64) (n:=(q:Int)+1) rfl];omega
     ·have k2:=of_decide_eq_true k2
      rw[← Ao (fits.2 QA)];rfl
    ·have k1:=of_decide_eq_true k1
     rw[← Ao (fits.2 QA)];rfl
  ·have aK:decide ((q:Int)<s.length)=false:=QG
   have tG:=iy (cls:=isDigit) bF cn iR az;refine gN (zUR h0 (zUR h1 (zUR h2 (zUR h9 (zUR eB aK))))) ?_;rw[← tG]
theorem D2 (s:Bytes)(m:Nat)(hs:s.length≤9223372036854775807)(hm:m≤4611686018427387904)(CS:15≤m):PC QH 204 [.str s,.int .u64 16,.int .u64 m] (.eh [.int .u64 (aF aR 16 m s).1,.int .i64 (aF aR 16 m s).2]):=by
 refine aU 3000 func204 rfl ntmps204 results204 call204 QB (by simp[flat,flat.ah]) (by simp[flat,flat.ah]) ?_;by_cases kN:s=[]
 ·subst kN
  refine ly ?_;rfl
 have hb:(s==([]:Bytes))=false:=beq_eq_false_iff_ne.2 kN;have bF:s.isEmpty=false:=by cases s;exact absurd rfl kN;rfl
 refine gK hb ?_;refine ax (fun σ=>∃ q:Nat,q≤s.length∧lk 0 σ.t=some (.str s)∧lk 1 σ.t=some (.int .u64 16)∧lk 2 σ.t=some (.int .u64 m)∧lk 8 σ.t=some (.int .i64 q)∧(s.take q).all aR=true) (fun σ=>s.length - fA 8 σ) ⟨0,QA,rfl,rfl,rfl,rfl,QB⟩ ?_;rintro⟨t,b⟩ ⟨q,hq,h0,h1,h2,h8,cn⟩;simp only at h0 h1 h2 h8;rw[ak h8];by_cases az:q<s.length
 ·have aK:decide ((q:Int)<s.length)=true:=QF
  have hg:=gD az;have ht:=fun h=>mz (p:=aR) az cn h
  have hn:=fun h=>cX (p:=aR) az h
  generalize s[q]=c at hg ht hn;have p1:=oZ c;refine gK (zUR h0 (zUR h1 (zUR h2 (zUR h8 (zUR aK (zUR hg zUT)))))) ?_;refine⟨⟨QA,QA⟩,?_⟩;cases hc:aR c
  ·rw[hc]at p1
   (refine aa (p1) ?_;refine gK (zUR h0 (zUR h1 (zUR h2 (zUR h8 (zUR aK hg))))) ?_)
   unfold aF;rw[bF,hn hc];rfl
  ·rw[hc]at p1
   (refine aa (p1) ?_;refine gK (zUR h0 (zUR h1 (zUR h2 (zUR h8 (zUR aK hg))))) ?_)
   refine⟨⟨QA,QA⟩,⟨q+1,QA,rfl,ht hc⟩,?_⟩;rw[ak (k:=.i64) (n:=(q:Int)+1) rfl];omega
 ·have hU:q=s.length:=QA
  subst hU;have aK:decide ((s.length:Int)<s.length)=false:=by simp
  rw[zU8]at cn;refine gN (zUR h0 (zUR h1 (zUR h2 (zUR h8 aK)))) ?_;refine ax (fun σ=>∃ q n:Nat,q≤s.length∧n≤m∧lk 0 σ.t=some (.str s)∧lk 1 σ.t=some (.int .u64 16)∧lk 2 σ.t=some (.int .u64 m)∧lk 9 σ.t=some (.int .u64 n)∧lk 10 σ.t=some (.int .i64 q)∧dw 16 m n (s.drop q)=dw 16 m 0 s) (fun σ=>s.length - fA 10 σ) ⟨0,0,QA,QA,h0,h1,h2,rfl,rfl,rfl⟩ ?_;clear h0 h1 h2 h8;clear t b;rintro⟨t,b⟩ ⟨q,n,hq,hnm,h0,h1,h2,h9,eB,iR⟩;simp only at h0 h1 h2 h9 eB;rw[ak eB];by_cases az:q<s.length
  ·have aK:decide ((q:Int)<s.length)=true:=QF
   have hg:=gD az;have fY:=pO cn az;have Ao:=fun h=>jx (cls:=aR) bF cn iR az h
   have Hf:=fun h=>ix iR az h
   generalize s[q]=c at hg fY Ao Hf;have hx:aR c=true:=by first|exact fY|exact(Ld fY).1
   have hv:=iY hx;have qn:j0 .quo .u64 (m:Int) 16=((m / 16:Nat):Int):=quo_n m 16 hm;have wn:IntKind.u64.wrap ((m:Int) - bo c)=(m:Int) - bo c:=Na _ QA QA;have dm:decide ((m:Int)<bo c)=false:=QG;have fits:=Gw (b:=16) (m:=m) (n:=n) (d:=bo c) QA QA;have fin:¬ m<n * 16+bo c→∃ q' n':Nat,q'≤s.length∧n'≤m∧IntKind.u64.wrap (IntKind.u64.wrap ((n:Int) * 16)+bo c)=n'∧(q:Int)+1=q'∧dw 16 m n' (s.drop q')=dw 16 m 0 s:=fun h=>⟨q+1,n * 16+bo c,QA,QA,by rw[Na ((n:Int) * 16) QA QA,Na _ QA QA];push_cast;rfl,rfl,Hf h⟩
   have hz:∀ c':UInt8,c'=c→True:=fun _ _=>trivial
   by_cases sd:c.toNat≤57
   ·have d57:decide ((57:Int)<c.toNat)=false:=QG
    have hd:=KV hx sd;refine gK (zUR h0 (zUR h1 (zUR h2 (zUR h9 (zUR eB (zUR aK (zUR hg (zUR hd (zUR d57 (zUR qn (zUR wn (zUR dm zUT)))))))))))) ?_;repeat refine⟨⟨QA,QA⟩,?_⟩
    refine⟨QA,fun k1=>?_,fun k1=>?_⟩
    ·have k1:=of_decide_eq_false k1
     have wf:IntKind.u64.wrap ((n:Int) * 16)=(n:Int) * 16:=Na _ QA QA;rw[wf];refine⟨fun k2=>?_,fun k2=>?_⟩
     ·have k2:=of_decide_eq_false k2
      obtain⟨q',n',f1,f2,f3,f4,f5⟩:=fin (by rw[fits];omega);rw[wf]at f3;refine⟨⟨QA,QA⟩,⟨q',n',f1,f2,by rw[f3],by rw[f4],f5⟩,?_⟩;rw[ak (k:=.i64) (n:=(q:Int)+1) rfl];omega
     ·have k2:=of_decide_eq_true k2
      rw[← Ao (fits.2 QA)];rfl
    ·have k1:=of_decide_eq_true k1
     rw[← Ao (fits.2 QA)];rfl
   ·have d57:decide ((57:Int)<c.toNat)=true:=QF
    have hd:=KU hx sd;refine gK (zUR h0 (zUR h1 (zUR h2 (zUR h9 (zUR eB (zUR aK (zUR hg (zUR hd (zUR d57 (zUR qn (zUR wn (zUR dm zUT)))))))))))) ?_;repeat refine⟨⟨QA,QA⟩,?_⟩
    refine⟨QA,fun k1=>?_,fun k1=>?_⟩
    ·have k1:=of_decide_eq_false k1
     have wf:IntKind.u64.wrap ((n:Int) * 16)=(n:Int) * 16:=Na _ QA QA;rw[wf];refine⟨fun k2=>?_,fun k2=>?_⟩
     ·have k2:=of_decide_eq_false k2
      obtain⟨q',n',f1,f2,f3,f4,f5⟩:=fin (by rw[fits];omega);rw[wf]at f3;refine⟨⟨QA,QA⟩,⟨q',n',f1,f2,by rw[f3],by rw[f4],f5⟩,?_⟩;rw[ak (k:=.i64) (n:=(q:Int)+1) rfl];omega
     ·have k2:=of_decide_eq_true k2
      rw[← Ao (fits.2 QA)];rfl
    ·have k1:=of_decide_eq_true k1
     rw[← Ao (fits.2 QA)];rfl
  ·have aK:decide ((q:Int)<s.length)=false:=QG
   have tG:=iy (cls:=aR) bF cn iR az;refine gN (zUR h0 (zUR h1 (zUR h2 (zUR h9 (zUR eB aK))))) ?_;rw[← tG]
theorem zv (s:Bytes)(m:Nat)(hs:s.length≤9223372036854775807)(hm:m≤4611686018427387904)(CS:15≤m):PC QH 215 [.str s,.int .u64 m] (.eh [.int .u64 (aF isDigit 10 m s).1,.int .i64 (aF isDigit 10 m s).2]):=by
 refine aU 3000 func215 rfl ntmps215 results215 call215 QB (by simp[flat,flat.ah]) (by simp[flat,flat.ah]) ?_;refine ly ?_
 (refine aa (D3 s m hs hm CS) ?_;refine ly True.intro)
theorem On (s:Bytes)(m:Nat)(hs:s.length≤9223372036854775807)(hm:m≤4611686018427387904)(CS:15≤m):PC QH 261 [.str s,.int .u64 m] (.eh [.int .u64 (aF aR 16 m s).1,.int .i64 (aF aR 16 m s).2]):=by
 refine aU 3000 func261 rfl ntmps261 results261 call261 QB (by simp[flat,flat.ah]) (by simp[flat,flat.ah]) ?_;refine ly ?_
 (refine aa (D2 s m hs hm CS) ?_;refine ly True.intro)
theorem Ov {c:UInt8}(h:c≠13)(r:Bytes):aO (c::r)=(190,c::r):=by
 rcases eQ (c::r) with⟨t,e⟩|e|e|⟨-,-,-,e⟩
 ·exact absurd (List.cons.inj e).1 h
 ·cases e
 ·exact absurd (List.cons.inj e).1 h
 ·exact e
theorem nl_13 {c:UInt8}(h:c≠10)(r:Bytes):aO (13::c::r)=(190,13::c::r):=by
 rcases eQ (13::c::r) with⟨t,e⟩|e|e|⟨-,-,-,e⟩
 ·exact absurd (List.cons.inj (List.cons.inj e).2).1 h
 ·cases e
 ·cases e
 ·exact e
def Em (s:Bytes)(a:Nat):Bytes × Int × Int :=
 if (aO (s.drop (a+pre cZ (s.drop a)))).1=0 then((s.drop a).take (pre cZ (s.drop a)),((a+pre cZ (s.drop a)+2:Nat):Int),0) else([],0,(aO (s.drop (a+pre cZ (s.drop a)))).1)
theorem Jq {s:Bytes}{a q:Nat}(hp:pre cZ (s.drop a)=q):Em s a=if (aO (s.drop (a+q))).1=0 then((s.drop a).take q,((a+q+2:Nat):Int),0) else([],0,(aO (s.drop (a+q))).1):=by
 unfold Em;rw[hp]
theorem tu (s:Bytes)(a:Nat)(ha:a≤s.length)(hs:s.length≤4000000):PC QH 221 [.str s,.int .i64 a] (.eh [.str (Em s a).1,.int .i64 (Em s a).2.1,.int .i64 (Em s a).2.2]):=by
 refine aU 3000 func221 rfl ntmps221 results221 call221 QB (by simp[flat,flat.ah]) (by simp[flat,flat.ah]) ?_;refine ly ?_;refine ax (fun σ=>∃ q:Nat,a+q≤s.length∧q≤pre cZ (s.drop a)∧lk 0 σ.t=some (.str s)∧lk 1 σ.t=some (.int .i64 a)∧lk 7 σ.t=some (.int .i64 ((a+q:Nat):Int))) (fun σ=>s.length - fA 7 σ) ⟨0,QA,QA,rfl,rfl,rfl⟩ ?_;rintro⟨t,b⟩ ⟨q,hq,hp,h0,h1,h7⟩;simp only at h0 h1 h7;rw[ak h7];have hle:=cO cZ (s.drop a);by_cases az:a+q<s.length
 ·have aK:decide (((a+q:Nat):Int)<s.length)=true:=QF
  have hg:=gD az;have nr:q<(s.drop a).length:=by simp;omega
  have hdg:(s.drop a)[q]=s[a+q]:=List.getElem_drop ..;have Hl:=DS (p:=cZ) nr hp;have Aj:=zm (p:=cZ) nr hp;have hdc:=drop_cons s (a+q) az;rw[hdg]at Hl Aj;generalize s[a+q]=c at hg Hl Aj hdc;have i1:(((a+q:Nat):Int)+1).toNat=a+q+1:=QA;by_cases c10:c=10
  ·have d10:((c.toNat:Int)==10)=true:=by rw[c10];rfl
   have hl:=Jq (Hl (by rw[c10];rfl));rw[hdc,Ov (by rw[c10];decide),if_neg (show ¬ (190:Int)=0 by decide)]at hl;refine gK (zUR h0 (zUR h1 (zUR h7 (zUR aK (zUR hg (zUR d10 zUT)))))) ?_;exact⟨⟨QA,QA⟩,by rw[hl]⟩
  have d10:((c.toNat:Int)==10)=false:=by
   rw[beq_eq_false_iff_ne];intro h;exact c10 (zVi.1 (by exact_mod_cast h))
  by_cases c13:c=13
  ·have d13:((c.toNat:Int)==13)=true:=by rw[c13];rfl
   have hl:=Jq (Hl (by rw[c13];rfl));rw[hdc,c13]at hl;by_cases kE:a+q+1=s.length
   ·have de:(((a+q:Nat):Int)+1==s.length)=true:=by rw[beq_iff_eq];omega
    rw[List.drop_eq_nil_of_le QA]at hl;refine gK (zUR h0 (zUR h1 (zUR h7 (zUR aK (zUR hg (zUR d10 (zUR d13 (zUR de zUT)))))))) ?_;exact⟨⟨QA,QA⟩,⟨QA,QA⟩,⟨QA,QA⟩,by rw[hl];rfl⟩
   ·have de:(((a+q:Nat):Int)+1==s.length)=false:=by rw[beq_eq_false_iff_ne];omega
    have hlt1:a+q+1<s.length:=QA;have yl:=gD hlt1;rw[drop_cons s _ hlt1]at hl;generalize s[a+q+1]=c1 at yl hl;by_cases n10:c1=10
    ·have dn:((c1.toNat:Int) != 10)=false:=by rw[n10];rfl
     rw[n10]at hl;refine gK (zUR h0 (zUR h1 (zUR h7 (zUR aK (zUR hg (zUR d10 (zUR d13 (zUR de (zUR i1 (zUR yl (zUR dn zUT))))))))))) ?_;refine⟨⟨QA,QA⟩,⟨QA,QA⟩,⟨QA,QA⟩,⟨QA,QA⟩,⟨QA,QA⟩,⟨QA,QA,QA⟩,⟨QA,QA⟩,?_⟩;rw[hl,if_pos (show (aO (13::10::_)).1=0 from rfl)];simp only;rw[List.drop_take,show a+q - a=q by omega];rfl
    ·have dn:((c1.toNat:Int) != 10)=true:=by
      rw[bne_iff_ne];intro h;exact n10 (zVi.1 (by exact_mod_cast h))
     rw[nl_13 n10,if_neg (show ¬ (190:Int)=0 by decide)]at hl;refine gK (zUR h0 (zUR h1 (zUR h7 (zUR aK (zUR hg (zUR d10 (zUR d13 (zUR de (zUR i1 (zUR yl (zUR dn zUT))))))))))) ?_;exact⟨⟨QA,QA⟩,⟨QA,QA⟩,⟨QA,QA⟩,⟨QA,QA⟩,⟨QA,QA⟩,by rw[hl]⟩
  have d13:((c.toNat:Int)==13)=false:=by
   rw[beq_eq_false_iff_ne];intro h;exact c13 (zVi.1 (by exact_mod_cast h))
  have hm:=Aj (by simp[cZ,c10,c13]);refine gK (zUR h0 (zUR h1 (zUR h7 (zUR aK (zUR hg (zUR d10 (zUR d13 zUT))))))) ?_;refine⟨⟨QA,QA⟩,⟨QA,QA⟩,⟨QA,QA⟩,⟨q+1,QA,hm,QC⟩,?_⟩;rw[ak (k:=.i64) (n:=((a+q:Nat):Int)+1) rfl];omega
 ·have hU:a+q=s.length:=QA
  have aK:decide (((a+q:Nat):Int)<s.length)=false:=QG;have hl:=Jq (s:=s) (a:=a) (q:=q) (by simp at hle;omega);rw[List.drop_eq_nil_of_le QA]at hl;refine gN (zUR h0 (zUR h1 (zUR h7 aK))) ?_;rw[hl];rfl
theorem yD {r:Bytes}(h:(aO r).1=0):(aO r).2=r.drop 2∧2≤r.length:=by
 rcases eQ r with⟨t,rfl⟩|rfl|rfl|⟨_,_,_,h4⟩
 ·simp[aO]
 ·simp[aO]at h
 ·simp[aO]at h
 ·rw[h4]at h;simp at h
theorem yF {s:Bytes}{a:Nat}(h:(aO (s.drop (a+pre cZ (s.drop a)))).1≠0):Em s a=([],0,(aO (s.drop (a+pre cZ (s.drop a)))).1):=by
 unfold Em;rw[if_neg h]
theorem El {s:Bytes}{a:Nat}(h:(aO (s.drop (a+pre cZ (s.drop a)))).1=0):Em s a=((s.drop a).take (pre cZ (s.drop a)),((a+pre cZ (s.drop a)+2:Nat):Int),0)∧a+pre cZ (s.drop a)+2≤s.length∧(aO (s.drop (a+pre cZ (s.drop a)))).2=s.drop (a+pre cZ (s.drop a)+2):=by
 refine⟨by unfold Em;rw[if_pos h],?_,?_⟩
 ·have:=(yD h).2
  simp at this;omega
 ·rw[(yD h).1,zU2]
theorem ND (F:Nat)(s:Bytes)(a:Nat):eD (F+1) (s.drop a)=if (aO (s.drop (a+pre cZ (s.drop a)))).1≠0 then(aO (s.drop (a+pre cZ (s.drop a)))).1 else if (s.drop a).take (pre cZ (s.drop a))=[] then 0 else eD F (aO (s.drop (a+pre cZ (s.drop a)))).2:=by
 rw[eD,zU2]
theorem Bv (s:Bytes)(a:Nat)(ha:a≤s.length)(hs:s.length≤4000000)(T:Int)(hT:eD ((s.drop a).length+1) (s.drop a)=T):PC QH 220 [.str s,.int .i64 a] (.int .i64 T):=by
 refine aU 3000 func220 rfl ntmps220 results220 call220 QB (by simp[flat,flat.ah]) (by simp[flat,flat.ah]) ?_;refine ly ?_;refine ax (fun σ=>∃ a F:Nat,a≤s.length∧s.length - a<F∧lk 0 σ.t=some (.str s)∧lk 1 σ.t=some (.int .i64 a)∧eD F (s.drop a)=T) (fun σ=>s.length - fA 1 σ) ⟨a,_,ha,QB,rfl,rfl,hT⟩ ?_;clear hT ha;clear a;rintro⟨t,b⟩ ⟨a,F,ha,hF,h0,h1,hT⟩;simp only at h0 h1;rw[ak h1];obtain⟨F,rfl⟩:∃ f,F=f+1:=⟨F - 1,QA⟩;have p1:=tu s a ha hs;rw[ND]at hT;by_cases h:(aO (s.drop (a+pre cZ (s.drop a)))).1=0
 ·obtain⟨e1,e2,e3⟩:=El h
  rw[if_neg (by simp[h]),e3]at hT;rw[e1]at p1;have yH:a<a+pre cZ (s.drop a)+2:=QA;generalize a+pre cZ (s.drop a)+2=tq at p1 hT e2 yH;by_cases hx:(s.drop a).take (pre cZ (s.drop a))=[]
  ·rw[if_pos hx]at hT
   rw[hx]at p1;refine gK (zUR h0 h1) ?_
   (refine aa (p1) ?_;refine gK (zUR h0 h1) ?_)
   rw[← hT]
  ·rw[if_neg hx]at hT
   have hxb:((s.drop a).take (pre cZ (s.drop a))==([]:Bytes))=false:=beq_eq_false_iff_ne.2 hx;generalize (s.drop a).take (pre cZ (s.drop a))=x at p1 hxb;refine gK (zUR h0 h1) ?_
   (refine aa (p1) ?_;refine gK (zUR h0 (zUR h1 hxb)) ?_)
   refine⟨⟨tq,F,e2,QA,rfl,hT⟩,?_⟩;rw[ak (k:=.i64) (n:=(tq:Int)) rfl];omega
 ·rw[if_pos h]at hT
  rw[yF h,hT]at p1;have hTn:(T != 0)=true:=bne_iff_ne.2 (by rw[← hT];exact h);refine gK (zUR h0 h1) ?_
  (refine aa (p1) ?_;refine gK (zUR h0 (zUR h1 hTn)) True.intro)
def yu (s:Bytes)(a:Nat):Nat × Int × Int :=
 if (cH (s.drop a) 0).1=0 then((cH (s.drop a) 0).2.1,((s.length - (cH (s.drop a) 0).2.2.length:Nat):Int),0) else(0,0,(cH (s.drop a) 0).1)
theorem Ga {p:UInt8→Bool}:∀ {l:Bytes}{q:Nat},q≤pre p l→pre p l=q+pre p (l.drop q)
 | [],q,h=>by simp[pre_nil]at h;subst h;simp
 | c::l,0,_=>QB
 | c::l,q+1,h=>by
   rw[bY]at h ⊢;cases hc:p c
   ·rw[hc]at h
    simp at h
    have:=Ga h
    simp
    omega
   ·rw[hc]at h;simp at h
theorem hexNl2 (r:Bytes):bR r≤pre cZ r:=by
 unfold bR;induction r with
 | nil=>simp[pre_nil]
 | cons c r ih =>
   rw[bY,bY];cases hc:aR c
   ·simp
   ·have:cZ c=false:=by
     have:=du (p:=fun c=>!aR c||!cZ c) (by decide +kernel) c
     simpa[hc] using this
    simp[this];exact ih
theorem wB (c:UInt8)(n:Int)(d:UInt8)(h:n=d.toNat):((c.toNat:Int) != n)=!(c==d):=by
 subst h;rw[Bool.eq_iff_iff];simp only[bne_iff_ne,ne_eq,Bool.not_eq_true',beq_eq_false_iff_ne];exact not_congr ⟨fun h=>zVi.1 (by exact_mod_cast h),fun h=>by rw[h]⟩
theorem szR_end {s:Bytes}{a:Nat}(h:bR (s.drop a)=(s.drop a).length):yu s a=(0,0,191):=by
 unfold yu cH;rw[if_pos h];rfl
theorem Kg {s:Bytes}{a:Nat}(h:bR (s.drop a)≠(s.drop a).length)(h2:bR (s.drop a)=0∨ui (s.drop a)=false):yu s a=(0,0,190):=by
 unfold yu cH;rw[if_neg h,if_pos h2];rfl
theorem szR_on {s:Bytes}{a:Nat}(h:bR (s.drop a)≠(s.drop a).length)(h2:¬ (bR (s.drop a)=0∨ui (s.drop a)=false)) :
 yu s a=if (Em s (a+bR (s.drop a))).2.2=0 then(oM (s.drop a) (bR (s.drop a)),(Em s (a+bR (s.drop a))).2.1,0) else(0,0,(Em s (a+bR (s.drop a))).2.2):=by
 have hp:=Ga (hexNl2 (s.drop a));rw[zU2]at hp;have e:s.drop (a+bR (s.drop a)+pre cZ (s.drop (a+bR (s.drop a))))=(s.drop a).drop (pre cZ (s.drop a)):=by rw[zU2];congr 1;omega
 unfold yu cH;rw[if_neg h,if_neg h2];by_cases h0:(aO ((s.drop a).drop (pre cZ (s.drop a)))).1=0
 ·obtain⟨e1,e2,e3⟩:=El (s:=s) (a:=a+bR (s.drop a)) (by rw[e];exact h0)
  rw[e1,if_pos rfl,if_pos h0];have hl:=(yD h0);simp only[zU2,List.length_drop]at hl ⊢;simp only[if_true];congr 2
  rw[hl.1];simp only[List.length_drop];push_cast
  omega
 ·have e1:=yF (s:=s) (a:=a+bR (s.drop a)) (by rw[e];exact h0)
  rw[e1,if_neg h0,e];simp only;rw[if_neg h0,if_neg h0]
theorem Jh (s:Bytes)(a:Nat)(ha:a≤s.length)(hs:s.length≤4000000):PC QH 219 [.str s,.int .i64 a] (.eh [.int .u64 (yu s a).1,.int .i64 (yu s a).2.1,.int .i64 (yu s a).2.2]):=by
 refine aU 3000 func219 rfl ntmps219 results219 call219 QB (by simp[flat,flat.ah]) (by simp[flat,flat.ah]) ?_;refine ly ?_;refine ax (fun σ=>∃ q:Nat,a+q≤s.length∧q≤bR (s.drop a)∧lk 0 σ.t=some (.str s)∧lk 1 σ.t=some (.int .i64 a)∧lk 7 σ.t=some (.int .i64 ((a+q:Nat):Int))) (fun σ=>s.length - fA 7 σ) ⟨0,QA,QA,rfl,rfl,rfl⟩ ?_;rintro⟨t,b⟩ ⟨q,hq,hp,h0,h1,h7⟩;simp only at h0 h1 h7;rw[ak h7];have hle:bR (s.drop a)≤(s.drop a).length:=cO _ _;by_cases az:a+q<s.length
 ·have aK:decide (((a+q:Nat):Int)<s.length)=true:=QF
  have hg:=gD az;have nr:q<(s.drop a).length:=by simp;omega
  have hdg:(s.drop a)[q]=s[a+q]:=List.getElem_drop ..;have Hl:=DS (p:=fun c=>!aR c) nr hp;have Aj:=zm (p:=fun c=>!aR c) nr hp;have qj:=fun(h:bR (s.drop a)=q)=>Cm (r:=s.drop a) (by rw[h];exact nr)
  have qj:bR (s.drop a)=q→ui (s.drop a)=(s[a+q]==59||s[a+q]==13):=fun h=>by
   have:=qj h
   simp only[h]at this;rw[this,hdg]
  rw[hdg]at Hl Aj;generalize s[a+q]=c at hg Hl Aj qj;have p1:=oZ c;cases hc:aR c
  ·have p7:bR (s.drop a)=q:=Hl (by simp[hc])
   have bF:bR (s.drop a)≠(s.drop a).length:=QA;have qj:=qj p7;have de:(((a+q:Nat):Int)==s.length)=false:=by rw[beq_eq_false_iff_ne];omega
   have n59:=wB c 59 59 rfl;have n13:=wB c 13 13 rfl;rw[hc]at p1;by_cases hq0:q=0
   ·have dq:(((a+q:Nat):Int)==a)=true:=by rw[beq_iff_eq];omega
    have hz:=Kg bF (.inl QA);refine gK (zUR h0 (zUR h1 (zUR h7 (zUR aK (zUR hg zUT))))) ?_;refine⟨⟨QA,QA⟩,?_⟩
    (refine aa (p1) ?_;refine gK (zUR h0 (zUR h1 (zUR h7 (zUR aK (zUR hg (zUR de dq)))))) ?_)
    rw[hz];rfl
   have dq:(((a+q:Nat):Int)==a)=false:=by rw[beq_eq_false_iff_ne];omega
   have p2:=tu s (a+q) hq hs;have p3:PC QH 261 [.str ((s.drop a).take q),.int .u64 4611686018427387904] _:=On ((s.drop a).take q) 4611686018427387904 QC QA QA;have hcut:List.drop a (List.take (a+q) s)=(s.drop a).take q:=by rw[List.drop_take];congr 1;omega
   have hzb:=Kg bF;have hzo:=szR_on bF;rw[p7]at hzb hzo;unfold oM at hzo;generalize hL:Em s (a+q)=L at p2 hzo;obtain⟨x,tq,e⟩:=L;simp only at p2 hzo;generalize aF aR 16 4611686018427387904 ((s.drop a).take q)=N at p3 hzo;obtain⟨nv,ne⟩:=N;simp only at p3 hzo;have key:ui (s.drop a)=true→yu s a=if e=0 then(if ne=0 then nv else 4611686018427387904,tq,0) else(0,0,e):=fun h=>hzo (by rw[h];simp[hq0])
   have fin:∀ K:Prop,K→K:=fun _ h=>h
   cases c59:c==59 <;> cases c13:c==13
   ·rw[c59]at n59 qj
    rw[c13]at n13 qj;have hz:=hzb (.inr qj);simp only[zUZ]at n59 n13;refine gK (zUR h0 (zUR h1 (zUR h7 (zUR aK (zUR hg zUT))))) ?_;refine⟨⟨QA,QA⟩,?_⟩
    (refine aa (p1) ?_;refine gK (zUR h0 (zUR h1 (zUR h7 (zUR aK (zUR hg (zUR de (zUR dq (zUR n59 (zUR n13 zUT))))))))) ?_)
    refine⟨⟨QA,QA⟩,⟨QA,QA⟩,?_⟩;rw[hz];rfl
   all_goals
    rw[c59]at n59 qj;rw[c13]at n13 qj;have hz:=key qj;simp only[zUZ,zU3]at n59 n13;refine gK (zUR h0 (zUR h1 (zUR h7 (zUR aK (zUR hg zUT))))) ?_;refine⟨⟨QA,QA⟩,?_⟩
    (refine aa (p1) ?_;refine gK (zUR h0 (zUR h1 (zUR h7 (zUR aK (zUR hg (zUR de (zUR dq (zUR n59 (zUR n13 zUT))))))))) ?_)
    repeat refine⟨⟨QA,QA⟩,?_⟩
    (refine aa (p2) ?_;refine gK (zUR h0 (zUR h1 h7)) ?_)
    refine⟨fun h=>?_,fun h=>⟨⟨QA,QA,QA⟩,?_⟩⟩
    ·rw[hz,if_neg (by simpa using h)];rfl
    ·rw[hcut]
     have he:e=0:=by simpa using h
     (refine aa (p3) ?_;refine gK (zUR h0 (zUR h1 h7)) ?_)
     refine⟨fun h2=>?_,fun h2=>?_⟩
     ·rw[hz,if_pos he,if_neg (by simpa using h2)];try rfl
     ·rw[hz,if_pos he,if_pos (by simpa using h2)];try rfl
  ·have hm:=Aj (by simp[hc])
   rw[hc]at p1;refine gK (zUR h0 (zUR h1 (zUR h7 (zUR aK (zUR hg zUT))))) ?_;refine⟨⟨QA,QA⟩,?_⟩
   (refine aa (p1) ?_;refine gK (zUR h0 (zUR h1 (zUR h7 (zUR aK hg)))) ?_)
   refine⟨⟨QA,QA⟩,⟨q+1,QA,hm,QC⟩,?_⟩;rw[ak (k:=.i64) (n:=((a+q:Nat):Int)+1) rfl];omega
 ·have aK:decide (((a+q:Nat):Int)<s.length)=false:=QG
  have de:(((a+q:Nat):Int)==s.length)=true:=by rw[beq_iff_eq];omega
  have hz:=szR_end (s:=s) (a:=a) (by simp at hle ⊢;omega);refine gN (zUR h0 (zUR h1 (zUR h7 (zUR aK de)))) ?_;rw[hz];rfl
theorem szR_ok {s:Bytes}{a:Nat}(h:(yu s a).2.2=0):∃ n tq,yu s a=(n,((tq:Nat):Int),0)∧a<tq∧tq≤s.length∧n≤4611686018427387904∧∀ old,cH (s.drop a) old=(0,n,s.drop tq):=by
 unfold yu at h;by_cases h0:(cH (s.drop a) 0).1=0
 ·refine⟨(cH (s.drop a) 0).2.1,s.length - (cH (s.drop a) 0).2.2.length,by unfold yu;rw[if_pos h0],?_⟩
  have h1:=FA h0;unfold cH at h0 h1 ⊢;by_cases g1:bR (s.drop a)=(s.drop a).length
  ·rw[if_pos g1]at h0;simp at h0
  rw[if_neg g1]at h0 h1;by_cases g2:bR (s.drop a)=0∨ui (s.drop a)=false
  ·rw[if_pos g2]at h0;simp at h0
  rw[if_neg g2]at h0 h1;by_cases g3:(aO ((s.drop a).drop (pre cZ (s.drop a)))).1=0
  ·rw[if_pos g3]at h1
   simp only[if_neg g1,if_neg g2,if_pos g3]at h1 ⊢;have hz:=yD g3;rw[hz.1,zU2,zU2]at h1 ⊢;rw[zU2]at hz;simp only[List.length_drop]at h1 hz ⊢;refine⟨QA,QA,?_,fun _=>?_⟩
   ·unfold oM
    split
    ·exact mZ _ _ _ _
    ·omega
   ·congr 3;omega
  ·rw[if_neg g3]at h0;exact absurd h0 g3
 ·rw[if_neg h0]at h;exact absurd h h0
theorem NK {s:Bytes}{a:Nat}(h:(yu s a).2.2≠0):(∀ old,(cH (s.drop a) old).1=(yu s a).2.2)∧yu s a=(0,0,(yu s a).2.2):=by
 unfold yu at h ⊢;by_cases h0:(cH (s.drop a) 0).1=0
 ·rw[if_pos h0]at h;exact absurd rfl h
 ·rw[if_neg h0]
  refine⟨fun old=>?_,rfl⟩;unfold cH
  (repeat' split) <;> rfl
theorem M1 {most:Int}{F:Nat}{acc s:Bytes}{a old:Nat}(h:(yu s a).2.2≠0):ij most (F+1) acc (s.drop a) old=([],(yu s a).2.2):=by
 have h1:=(NK h).1 old;rw[ij,if_pos (by rw[h1];exact h),h1]
theorem P6 {most:Int}{F n tq:Nat}{acc s:Bytes}{a old:Nat}(h:∀ old,cH (s.drop a) old=(0,n,s.drop tq)):ij most (F+1) acc (s.drop a) old =
 if most<0∨most - acc.length<n then([],142) else if n=0 then(if eD ((s.drop tq).length+1) (s.drop tq)≠0 then([],eD ((s.drop tq).length+1) (s.drop tq)) else(acc,0))
 else if (s.drop tq).length<n then([],191) else if (aO (s.drop (tq+n))).1≠0 then([],(aO (s.drop (tq+n))).1) else ij most F (acc++(s.drop tq).take n) (aO (s.drop (tq+n))).2 n:=by
 rw[ij,h old,zU2];rw[if_neg QB]
theorem Mc {s:Bytes}{a:Nat}(h:Lib.hasPrefix (s.drop a) [13,10]=false):(Em s a).2.2≠0∨((Em s a).1==([]:Bytes))=false:=by
 by_cases h0:(aO (s.drop (a+pre cZ (s.drop a)))).1=0
 ·right
  obtain⟨e1,e2,-⟩:=El h0;rw[e1,beq_eq_false_iff_ne];intro h1;simp only at h1;have hp:pre cZ (s.drop a)=0:=by
   have:=congrArg List.length h1
   simp at this
   omega
  rw[hp,Nat.add_zero]at h0;rcases eQ (s.drop a) with⟨t,e⟩|e|e|⟨-,-,-,e⟩
  ·rw[e]at h;simp[Lib.hasPrefix,List.isPrefixOf]at h
  ·rw[e]at h0;simp[aO]at h0
  ·rw[e]at h0;simp[aO]at h0
  ·rw[e]at h0;simp at h0
 ·left;rw[yF h0];exact h0
theorem Bw (s:Bytes)(most:Int)(hs:s.length≤4000000)(tU:-9223372036854775808≤most)(CS:most≤9223372036854775807):PC QH 167 [.str s,.int .i64 most] (.eh [.str (chunked s most).1,.int .i64 (chunked s most).2]):=by
 generalize hC:chunked s most=C;unfold chunked at hC;refine aU 3000 func167 rfl ntmps167 results167 call167 QB (by simp[flat,flat.ah]) (by simp[flat,flat.ah]) ?_;refine ly ?_;refine ax (fun σ=>∃ (a F old:Nat) (acc:Bytes),a≤s.length∧s.length - a<F∧acc.length≤a∧(0≤most→(acc.length:Int)≤most)∧lk 0 σ.t=some (.str s)∧lk 1 σ.t=some (.int .i64 most)∧lk 6 σ.t=some (.str acc)∧lk 7 σ.t=some (.int .i64 a)∧ij most F acc (s.drop a) old=C) (fun σ=>s.length - fA 7 σ) ⟨0,s.length+1,0,[],QA,QA,QB,fun h=>by simpa using h,rfl,rfl,rfl,rfl,hC⟩ ?_;clear hC;rintro⟨t,b⟩ ⟨a,F,old,acc,ha,hF,hal,ham,h0,h1,h6,h7,hC⟩;simp only at h0 h1 h6 h7;rw[ak h7];obtain⟨F,rfl⟩:∃ f,F=f+1:=⟨F - 1,QA⟩;have p1:=Jh s a ha hs;by_cases hz:(yu s a).2.2≠0
 ·rw[M1 hz]at hC
  rw[(NK hz).2]at p1;have hb:((yu s a).2.2 != 0)=true:=bne_iff_ne.2 hz;generalize (yu s a).2.2=e at *;refine gK (zUR h0 (zUR h1 (zUR h6 h7))) ?_
  (refine aa (p1) ?_;refine gK (zUR h0 (zUR h1 (zUR h6 (zUR h7 hb)))) ?_)
  rw[← hC]
 replace hz:=Decidable.not_not.1 hz;obtain⟨n,tq,e1,ht1,ht2,hn,lZ⟩:=szR_ok hz;rw[e1]at p1;rw[P6 lZ]at hC;clear hz e1 lZ;have p2:=Bv s tq ht2 hs _ rfl;generalize eD ((s.drop tq).length+1) (s.drop tq)=T at p2 hC;by_cases JG:most<0
 ·have d0:decide (most<0)=true:=decide_eq_true JG
  rw[if_pos (.inl JG)]at hC;refine gK (zUR h0 (zUR h1 (zUR h6 h7))) ?_
  (refine aa (p1) ?_;refine gK (zUR h0 (zUR h1 (zUR h6 (zUR h7 d0)))) ?_)
  rw[← hC]
 have d0:decide (most<0)=false:=decide_eq_false JG;have ham:=ham QA;have wm:IntKind.u64.wrap (most - acc.length)=most - acc.length:=Na _ QA QA;have wn:IntKind.i64.wrap (n:Int)=n:=by simp[IntKind.wrap,IntKind.bits,IntKind.signed];omega
 by_cases JP:most - acc.length<n
 ·have d1:decide (most - (acc.length:Int)<n)=true:=decide_eq_true JP
  rw[if_pos (.inr JP)]at hC;refine gK (zUR h0 (zUR h1 (zUR h6 h7))) ?_
  (refine aa (p1) ?_;refine gK (zUR h0 (zUR h1 (zUR h6 (zUR h7 (zUR d0 (zUR wm d1)))))) ?_)
  exact⟨⟨QA,QA⟩,by rw[← hC]⟩
 have d1:decide (most - (acc.length:Int)<n)=false:=decide_eq_false JP;rw[if_neg (by rintro(h|h);exact JG h;exact JP h)]at hC;by_cases kj:n=0
 ·subst kj
  rw[if_pos rfl]at hC;refine gK (zUR h0 (zUR h1 (zUR h6 h7))) ?_;have dz:(((0:Nat):Int)==0)=true:=rfl
  (refine aa (p1) ?_;refine gK (zUR h0 (zUR h1 (zUR h6 (zUR h7 (zUR d0 (zUR wm (zUR d1 dz))))))) ?_)
  refine⟨⟨QA,QA⟩,?_⟩;by_cases hT:T=0
  ·have dT:(T != 0)=false:=by rw[hT];rfl
   rw[if_neg (by simpa using hT)]at hC
   (refine aa (p2) ?_;refine gK (zUR h0 (zUR h1 (zUR h6 (zUR h7 dT)))) ?_)
   rw[← hC]
  ·have dT:(T != 0)=true:=bne_iff_ne.2 hT
   rw[if_pos hT]at hC
   (refine aa (p2) ?_;refine gK (zUR h0 (zUR h1 (zUR h6 (zUR h7 dT)))) ?_)
   rw[← hC]
 have dn0:((n:Int)==0)=false:=by rw[beq_eq_false_iff_ne];omega
 rw[if_neg kj]at hC;rw[List.length_drop]at hC;by_cases hsh:s.length - tq<n
 ·have d2:decide ((s.length:Int) - tq<n)=true:=QF
  rw[if_pos hsh]at hC;refine gK (zUR h0 (zUR h1 (zUR h6 h7))) ?_
  (refine aa (p1) ?_;refine gK (zUR h0 (zUR h1 (zUR h6 (zUR h7 (zUR d0 (zUR wm (zUR d1 (zUR dn0 (zUR wn d2))))))))) ?_)
  refine⟨⟨QA,QA⟩,⟨QA,QA⟩,?_⟩;rw[← hC]
 have d2:decide ((s.length:Int) - tq<n)=false:=QG;rw[if_neg hsh]at hC;have p3:PC QH 221 [.str s,.int .i64 ((tq:Int)+n)] (.eh [.str (Em s (tq+n)).1,.int .i64 (Em s (tq+n)).2.1,.int .i64 (Em s (tq+n)).2.2]):=by
  have:=tu s (tq+n) QA hs
  rw[Int.natCast_add]at this;exact this
 have ec:((tq:Int)+n).toNat=tq+n:=QA;have hcut:List.drop tq (List.take (tq+n) s)=(s.drop tq).take n:=by rw[List.drop_take];congr 1;omega
 have fY:((s.drop tq).take n).length=n:=by simp;omega
 refine gK (zUR h0 (zUR h1 (zUR h6 h7))) ?_
 (refine aa (p1) ?_;refine gK (zUR h0 (zUR h1 (zUR h6 (zUR h7 (zUR d0 (zUR wm (zUR d1 (zUR dn0 (zUR wn (zUR d2 ec)))))))))) ?_)
 refine⟨⟨QA,QA⟩,⟨QA,QA⟩,⟨QA,QA⟩,⟨QA,QA,QA⟩,?_,⟨QA,QA⟩,?_⟩
 ·rw[hcut,fY];omega
 rw[hcut];have JD:=Mc (s:=s) (a:=tq+n);have hlok:=El (s:=s) (a:=tq+n);have hler:=yF (s:=s) (a:=tq+n);have dr:∀ r:Bytes,s.drop (tq+n)=r→List.drop (tq+n) s=r:=fun _ h=>h
 rcases eQ (s.drop (tq+n)) with⟨r,e⟩|e|e|⟨g1,g2,g3,e⟩
 ·have hp:pre cZ (s.drop (tq+n))=0:=by rw[e,bY];rfl
  rw[hp,Nat.add_zero]at hlok;obtain⟨l1,l2,l3⟩:=hlok (by rw[e];rfl);rw[l1]at p3;rw[if_neg (by rw[e];simp[aO]),l3]at hC
  (refine aa (p3) ?_;simp only[bJ,↓Xn,↓Xo,↓Xg,↓Xd,↓Xe,↓Xf,Tryz.VΓ,Tryz.Γs,Xp,Xi,Nat.reduceAdd,Nat.reduceSub,Nat.reduceLT,Nat.reduceLeDiff,reduceIte,reduceCtorEq,Nat.reduceEqDiff,implies_true,forall_const,bI,h0,h1,h6,h7,beq_self_eq_true,bne_self_eq_false,Int.reduceBEq,Int.reduceBNe,Int.reduceLT,Int.reduceLE,List.take_zero])
  refine⟨⟨tq+n+2,F,n,acc++(s.drop tq).take n,l2,QA,QC,fun _=>QC,rfl,rfl,hC⟩,?_⟩;rw[ak (k:=.i64) (n:=((tq+n+2:Nat):Int)) rfl];omega
 ·have hp:pre cZ (s.drop (tq+n))=0:=by rw[e];rfl
  rw[hp,Nat.add_zero]at hler;have l1:=hler (by rw[e];simp[aO]);rw[e]at l1;rw[l1]at p3;rw[if_pos (by rw[e];simp[aO]),e]at hC;have d5:(((aO ([]:Bytes)).1:Int)==0)=false:=rfl
  (refine aa (p3) ?_;refine gK (zUR h0 (zUR h1 (zUR h6 (zUR h7 (zUR d5 (zUR ec e)))))) ?_)
  exact⟨⟨QA,QA⟩,⟨QA,QA⟩,by rw[← hC];rfl⟩
 ·have hp:pre cZ (s.drop (tq+n))=0:=by rw[e];rfl
  rw[hp,Nat.add_zero]at hler;have l1:=hler (by rw[e];simp[aO]);rw[e]at l1;rw[l1]at p3;rw[if_pos (by rw[e];simp[aO]),e]at hC;have d5:(((aO ([13]:Bytes)).1:Int)==0)=false:=rfl;have d6:(([13]:Bytes)==[])=false:=rfl
  (refine aa (p3) ?_;refine gK (zUR h0 (zUR h1 (zUR h6 (zUR h7 (zUR d5 (zUR d6 (zUR ec e))))))) ?_)
  exact⟨⟨QA,QA⟩,⟨QA,QA⟩,by rw[← hC];rfl⟩
 ·have JD:=JD g1
  rw[if_pos (by rw[e];simp)]at hC;rw[e]at hC;have d6:(s.drop (tq+n)==([]:Bytes))=false:=by
   cases hd:s.drop (tq+n) with
   | nil=>rw[hd]at g2;cases g2
   | cons c r=>rfl
  generalize Em s (tq+n)=L at p3 JD;obtain⟨x,y,z⟩:=L;simp only at p3 JD;by_cases hz:z=0
  ·have dz:(z==0)=true:=beq_iff_eq.2 hz
   have dx:=JD.resolve_left (by simpa using hz)
   (refine aa (p3) ?_;refine gK (zUR h0 (zUR h1 (zUR h6 (zUR h7 (zUR dz (zUR dx (zUR d6 (zUR g3 ec)))))))) ?_)
   exact⟨⟨QA,QA⟩,⟨QA,QA⟩,by rw[← hC]⟩
  ·have dz:(z==0)=false:=beq_eq_false_iff_ne.2 hz
   (refine aa (p3) ?_;refine gK (zUR h0 (zUR h1 (zUR h6 (zUR h7 (zUR dz (zUR d6 (zUR g3 ec))))))) ?_)
   exact⟨⟨QA,QA⟩,⟨QA,QA⟩,by rw[← hC]⟩
def Lr (d:Nat)(σ:St):Nat:=match lk d σ.t with
 | some (.str r)=>r.length
 | _=>0
theorem kS {d:Nat}{σ:St}{r:Bytes}(h:lk d σ.t=some (.str r)):Lr d σ=r.length:=by unfold Lr;rw[h]
theorem CA (s:Bytes)(hs:s.length≤4000000):PC QH 165 [.str s] (.str (trimB s)):=by
 refine aU 3000 func165 rfl ntmps165 results165 call165 QB (by simp[flat,flat.ah]) (by simp[flat,flat.ah]) ?_;refine ly ?_;refine ax (fun σ=>∃ r:Bytes,r.length≤s.length∧lk 0 σ.t=some (.str r)∧r.dropWhile bA=s.dropWhile bA) (fun σ=>Lr 0 σ) ⟨s,QA,rfl,rfl⟩ ?_;rintro⟨t,b⟩ ⟨r,hr,h0,Mu⟩;simp only at h0;rw[kS h0];have fin:∀ r:Bytes,r.dropWhile bA=s.dropWhile bA→(∀ c q,r=c::q→bA c=false)→r=s.dropWhile bA:=fun r h1 h2=>by
  rw[← h1];cases r with
  | nil=>rfl
  | cons c q=>rw[List.dropWhile_cons,h2 c q rfl];rfl
 rcases r with _|⟨c,r⟩
 ·have hw:=fin [] Mu (fun c q h=>by cases h)
  have wL:decide ((0:Int)<((0:Nat):Int))=false:=rfl;refine gK (zUR h0 wL) ?_;refine ax (fun σ=>∃ r:Bytes,r.length≤s.length∧lk 0 σ.t=some (.str r)∧r.reverse.dropWhile bA=(s.dropWhile bA).reverse.dropWhile bA) (fun σ=>Lr 0 σ) ⟨_,hr,h0,by rw[hw]⟩ ?_;clear hr h0 Mu hw fin;rintro⟨t,b⟩ ⟨r,hr,h0,Mu⟩;simp only at h0;rw[kS h0];have fin:∀ r:Bytes,r.reverse.dropWhile bA=(s.dropWhile bA).reverse.dropWhile bA→(∀ c q,r=q++[c]→bA c=false)→r=trimB s:=fun r h1 h2=>by
   unfold trimB;rw[← h1];rcases zVf r with rfl|⟨q,c,rfl⟩
   ·rfl
   ·simp[h2 c q QB]
  rcases zVf r with rfl|⟨q,c,rfl⟩
  ·have hw:=fin [] Mu (fun c q h=>by simp at h)
   have wL:decide ((0:Int)<((0:Nat):Int))=false:=rfl;refine gK (zUR h0 wL) ?_;rw[← hw]
  ·rw[List.concat_eq_append]at *
   have p1:=jS c;have BN:(q++[c]).length=q.length+1:=by simp
   have wL:decide ((0:Int)<((q++[c]).length:Nat))=true:=decide_eq_true (by rw[BN];omega);have hi:(((q++[c]).length:Int) - 1).toNat=q.length:=by rw[BN];omega
   have hg:(q++[c]).getD q.length 0=c:=by simp[List.getD]
   have G4:List.take q.length (q++[c])=q:=by simp
   rw[BN]at hr ⊢;cases hc:bA c
   ·have hw:=fin (q++[c]) Mu (fun c' q' h=>by have:=(List.append_inj' h rfl).2;cases this;exact hc)
    rw[hc]at p1;refine gK (zUR h0 (zUR wL (zUR hi hg))) ?_;refine⟨⟨QA,QA⟩,⟨QA,QA⟩,?_⟩
    (refine aa (p1) ?_;refine gK (zUR h0 (zUR wL (zUR hi hg))) ?_)
    rw[← hw]
   ·rw[hc]at p1
    have Pf:q.reverse.dropWhile bA=(s.dropWhile bA).reverse.dropWhile bA:=by rw[← Mu];simp[hc]
    refine gK (zUR h0 (zUR wL (zUR hi hg))) ?_;refine⟨⟨QA,QA⟩,⟨QA,QA⟩,?_⟩
    (refine aa (p1) ?_;refine gK (zUR h0 (zUR wL (zUR hi (zUR hg G4)))) ?_)
    refine⟨⟨QA,QA⟩,⟨QA,QA⟩,⟨q,QA,rfl,Pf⟩,?_⟩;rw[kS (r:=q) rfl];omega
 ·have p1:=jS c
  have wL:decide ((0:Int)<((r.length+1:Nat):Int))=true:=QF;have i0:Int.toNat 0=0:=rfl;have i1:Int.toNat 1=1:=rfl;rw[zU1]at hr ⊢;cases hc:bA c
  ·have hw:=fin (c::r) Mu (fun c' q h=>by cases h;exact hc)
   rw[hc]at p1;refine gK (zUR h0 (zUR wL i0)) ?_;refine⟨QA,?_⟩
   (refine aa (p1) ?_;refine gK (zUR h0 wL) ?_)
   replace hr:(c::r).length≤s.length:=by simpa using hr
   refine ax (fun σ=>∃ r:Bytes,r.length≤s.length∧lk 0 σ.t=some (.str r)∧r.reverse.dropWhile bA=(s.dropWhile bA).reverse.dropWhile bA) (fun σ=>Lr 0 σ) ⟨_,hr,h0,by rw[hw]⟩ ?_;clear hr h0 Mu hw fin;rintro⟨t,b⟩ ⟨r,hr,h0,Mu⟩;simp only at h0;rw[kS h0];have fin:∀ r:Bytes,r.reverse.dropWhile bA=(s.dropWhile bA).reverse.dropWhile bA→(∀ c q,r=q++[c]→bA c=false)→r=trimB s:=fun r h1 h2=>by
    unfold trimB;rw[← h1];rcases zVf r with rfl|⟨q,c,rfl⟩
    ·rfl
    ·simp[h2 c q QB]
   rcases zVf r with rfl|⟨q,c,rfl⟩
   ·have hw:=fin [] Mu (fun c q h=>by simp at h)
    have wL:decide ((0:Int)<((0:Nat):Int))=false:=rfl;refine gK (zUR h0 wL) ?_;rw[← hw]
   ·rw[List.concat_eq_append]at *
    have p1:=jS c;have BN:(q++[c]).length=q.length+1:=by simp
    have wL:decide ((0:Int)<((q++[c]).length:Nat))=true:=decide_eq_true (by rw[BN];omega);have hi:(((q++[c]).length:Int) - 1).toNat=q.length:=by rw[BN];omega
    have hg:(q++[c]).getD q.length 0=c:=by simp[List.getD]
    have G4:List.take q.length (q++[c])=q:=by simp
    rw[BN]at hr ⊢;cases hc:bA c
    ·have hw:=fin (q++[c]) Mu (fun c' q' h=>by have:=(List.append_inj' h rfl).2;cases this;exact hc)
     rw[hc]at p1;refine gK (zUR h0 (zUR wL (zUR hi hg))) ?_;refine⟨⟨QA,QA⟩,⟨QA,QA⟩,?_⟩
     (refine aa (p1) ?_;refine gK (zUR h0 (zUR wL (zUR hi hg))) ?_)
     rw[← hw]
    ·rw[hc]at p1
     have Pf:q.reverse.dropWhile bA=(s.dropWhile bA).reverse.dropWhile bA:=by rw[← Mu];simp[hc]
     refine gK (zUR h0 (zUR wL (zUR hi hg))) ?_;refine⟨⟨QA,QA⟩,⟨QA,QA⟩,?_⟩
     (refine aa (p1) ?_;refine gK (zUR h0 (zUR wL (zUR hi (zUR hg G4)))) ?_)
     refine⟨⟨QA,QA⟩,⟨QA,QA⟩,⟨q,QA,rfl,Pf⟩,?_⟩;rw[kS (r:=q) rfl];omega
  ·rw[hc]at p1
   have Pf:r.dropWhile bA=s.dropWhile bA:=by rw[← Mu,List.dropWhile_cons,hc];rfl
   refine gK (zUR h0 (zUR wL (zUR i0 i1))) ?_;refine⟨QA,?_⟩
   (refine aa (p1) ?_;refine gK (zUR h0 (zUR wL i1)) ?_)
   refine⟨QA,⟨r,QA,rfl,Pf⟩,?_⟩;rw[kS (r:=r) rfl];omega
theorem Mg (sep:Bytes)(l:List Bytes)(x:Bytes):Lib.join (l++[x]) sep=if l.length=0 then x else(Lib.join l sep++sep)++x:=by
 cases l with
 | nil=>simp[Lib.join_one]
 | cons y r =>
   rw[zUW,Lib.join_cons,Lib.join_cons,if_neg QB];simp[Lib.joinTail]
theorem CL (sep:Bytes)(L:List Bytes)(k:Nat)(h:k<L.length):Lib.join (L.take (k+1)) sep=if k=0 then L[k] else(Lib.join (L.take k) sep++sep)++L[k]:=by
 rw[zU9 h,Mg];simp only[List.length_take];by_cases hk:k=0
 ·rw[if_pos hk,if_pos QA]
 ·rw[if_neg hk,if_neg QA]
theorem join_le (sep:Bytes)(L:List Bytes):∀ d k,L.length - k=d→(Lib.join (L.take k) sep).length≤(Lib.join L sep).length
 | 0,k,h=>by rw[zVe QA];exact zU7 _
 | d+1,k,h=>by
   have h1:=join_le sep L d (k+1) QA;rw[CL sep L k QA]at h1;by_cases hk:k=0
   ·subst hk;simp[Lib.join]
   ·rw[if_neg hk]at h1
    simp at h1;omega
theorem y8 {bs:List aq}{j:Nat}{fs:List (Bytes × Bytes)}{m:Bool}(hj:bs[j]? = some (.own (fs.flatMap fc) 100 2 fs.length m))(hn:fs.length≤1000000)(hl:∀ f∈fs,f.1.length≤9223372036854775807)(name:Bytes)(Ai:name.length≤9223372036854775807)(a c:Int)(v:Bytes)(hv:Lib.join (bn fs name) [44,32]=v)(hlen:v.length≤1000000)(ok:Bool)(cn:decide (0<((bn fs name).length:Int))=ok) :
 SC QH 143 [.agg [.int .i64 a,.int .i64 c,.o j fs.length],.str name] bs (fun r b=>r=.eh [.str v,.bool ok]∧Kp bs b):=by
 have e9:j<bs.length:=(zUS.1 hj).1;refine bp 3000 func143 rfl ntmps143 results143 call143 QB (af bs.length _ (by simp[within,within.av,e9])) ?_;refine JU ?_;have fU:=fun X=>ad hj [X]
 have w1:=fun X=>sA (bs:=bs++[X]) (fU X) hn hl name Ai a c
 refine ae (w1 _) ?_;rintro r b ⟨bm,fH⟩;have eA:=((Kp.refl bs).app [.cells [.int .i64 a,.int .i64 c,.o j fs.length] 48 true]).trans bm;have hvl:=gW fs name;rcases fH with⟨rfl,hc,kj⟩|⟨i,rfl,hLi,hi⟩
 ·have he:bn fs name=[]:=zU0.1 kj
  rw[he]at hv cn;have hv:([]:Bytes)=v:=by rw[← hv];rfl
  have cn:false=ok:=by rw[← cn];rfl
  subst hv cn;refine iC ?_;refine ax (fun σ=>lk 6 σ.t=some .ai∧lk 7 σ.t=some (.str [])∧lk 13 σ.t=some .ai∧lk 14 σ.t=some (.int .i64 0)∧lk 15 σ.t=some (.int .i64 0)∧Kp bs σ.b) (fun σ=>0) ⟨rfl,rfl,rfl,rfl,rfl,eA⟩ ?_;clear eA;rintro⟨t,b⟩ ⟨h6,h7,gO,oE,qp,hk⟩;simp only at h6 h7 gO oE qp hk;refine gB (zUR h6 (zUR h7 (zUR gO (zUR oE qp)))) ?_;exact hk
 ·generalize bn fs name=L at hv cn hi hvl
  subst hv;have e9:=join_le [44,32] L;have p9:=CL [44,32] L;refine iC ?_;refine ax (fun σ=>∃ k:Nat,k≤L.length∧lk 6 σ.t=some (.o i L.length)∧lk 7 σ.t=some (.str (Lib.join (L.take k) [44,32]))∧lk 13 σ.t=some (.o i L.length)∧lk 14 σ.t=some (.int .i64 L.length)∧lk 15 σ.t=some (.int .i64 k)∧Kp bs σ.b∧σ.b[i]? = some (.own (L.map SV.str) 9 1 L.length true)) (fun σ=>L.length - fA 15 σ) ⟨0,QA,rfl,rfl,rfl,rfl,rfl,eA,hi⟩ ?_;clear eA hi;rintro⟨t,b⟩ ⟨k,hk,h6,h7,gO,oE,qp,bm,hi⟩;simp only at h6 h7 gO oE qp bm hi;rw[ak qp];by_cases az:k<L.length
  ·have aK:decide ((k:Int)<L.length)=true:=QF
   have BO:(L.map SV.str)[k * 1]? = some (.str L[k]):=by simp[az]
   have p9:=p9 k az;have iQ:=e9 _ (k+1) rfl;have hm:∀ σ:St,lk 15 σ.t=some (.int .i64 ((k:Int)+1))→L.length - fA 15 σ<L.length - k:=fun σ h=>by rw[ak h];omega
   generalize L[k]=x at BO p9;by_cases kD:k=0
   ·have d0:decide ((0:Int)<k)=false:=QG
    rw[if_pos kD]at p9;have e0:Lib.join (L.take k) [44,32]=[]:=by rw[kD];rfl
    rw[e0]at h7;refine gB (zUR h6 (zUR h7 (zUR gO (zUR oE (zUR qp (zUR aK (zUR hi (zUR BO d0)))))))) ?_;rw[p9]at iQ;refine⟨⟨QA,QA⟩,QC,QA,⟨QA,QA⟩,⟨k+1,QA,by rw[p9],rfl,bm⟩,hm _ rfl⟩
   ·have d0:decide ((0:Int)<k)=true:=QF
    rw[if_neg kD]at p9;refine gB (zUR h6 (zUR h7 (zUR gO (zUR oE (zUR qp (zUR aK (zUR hi (zUR BO d0)))))))) ?_;rw[p9]at iQ;have hj5:(Lib.join (L.take k) [44,32]).length+2+x.length≤1000000:=by
     have:=Nat.le_trans iQ hlen
     simp only[List.length_append,zU1,zU4]at this;omega
    have JI:(Lib.join (L.take k) [44,32]++[44,32]).length=(Lib.join (L.take k) [44,32]).length+2:=by simp
    have hj4:(L.map SV.str).length=L.length:=List.length_map ..;refine⟨⟨QA,QA⟩,QA,QA,QA,⟨QA,QA⟩,⟨k+1,QA,by rw[p9],rfl,bm⟩,hm _ rfl⟩
  ·have aK:decide ((k:Int)<L.length)=false:=QG
   rw[zVe QA]at h7;refine gB (zUR h6 (zUR h7 (zUR gO (zUR oE (zUR qp (zUR aK cn)))))) ?_;exact bm
def o0 (L:List Bytes)(k:Nat):List Bytes:=(L.take k).map trimB++L.drop k
theorem zM (L:List Bytes)(k:Nat):(o0 L k).length=L.length:=by unfold o0;simp;omega
theorem Ow {L:List Bytes}{k:Nat}(h:k<L.length):(o0 L k).set k (trimB L[k])=o0 L (k+1):=by
 unfold o0;rw[List.drop_eq_getElem_cons h,List.set_append_right _ _ QC];have:k - ((L.take k).map trimB).length=0:=by simp;omega
 rw[this,List.set_cons_zero,zU9 h,List.map_append];simp[-List.map_take]
theorem uT {L:List Bytes}{k q:Nat}(hk:k≤L.length)(h:q<L.length):(o0 L k)[q]? = some (if q<k then trimB L[q] else L[q]):=by
 unfold o0;by_cases hq:q<k
 ·rw[List.getElem?_append_left QC,if_pos hq];simp[hq,h]
 ·rw[zVh QC,if_neg hq]
  have:k+(q - ((L.take k).map trimB).length)=q:=by simp;omega
  rw[List.getElem?_drop,this,List.getElem?_eq_getElem h]
theorem wY (c:UInt8):∀ s:Bytes,∃ t,aD c s=(aL c s).1::t
 | []=>⟨[],by simp[aD,aL,pre_nil]⟩
 | x::r=>by
   obtain⟨t,ih⟩:=wY c r;rw[aD];cases hx:x==c
   ·simp only[Bool.false_eq_true,if_false,ih]
    refine⟨t,?_⟩;unfold aL;rw[bY,hx];simp only[Bool.false_eq_true,if_false,zU1];by_cases h:pre (·==c) r<r.length
    ·rw[if_pos h,if_pos QA];simp
    ·rw[if_neg h,if_neg QA]
   ·refine⟨aD c r,?_⟩
    unfold aL;rw[bY,hx];simp
theorem Cl (c:UInt8):∀ (s:Bytes),∀ x∈aD c s,x.length≤s.length
 | [],x,h=>by simp[aD]at h;subst h;simp
 | a::r,x,h=>by
   have ih:=Cl c r;rw[aD]at h;split at h
   ·rcases List.mem_cons.1 h with rfl|h
    ·simp
    ·have:=ih x h;simp;omega
   ·split at h
    ·rename_i y t e
     rw[e]at ih;rcases List.mem_cons.1 h with rfl|h
     ·have:=ih y QB;simp;omega
     ·have:=ih x (by simp[h]);simp;omega
    ·simp at h;subst h;simp
theorem J9 {s:Bytes}{y:Bytes}{t:List Bytes}(h:aD 44 s=y::t):gP s=if (y::t).all (fun p=>trimB p==trimB y)&&bj (trimB y) then some (if (aF isDigit 10 4611686018427387904 (trimB y)).2=0 then(aF isDigit 10 4611686018427387904 (trimB y)).1 else 4611686018427387904) else none:=by
 obtain⟨t',e⟩:=wY 44 s;rw[h]at e;have:(aL 44 s).1=y:=(List.cons.inj e).1.symm
 unfold gP;rw[h,this]
theorem Bj {bs:List aq}(s:Bytes)(hs:s.length≤1000000):SC QH 168 [.str s] bs (fun r b=>r=xJ (gP s)∧Kp bs b):=by
 refine bp 3000 func168 rfl ntmps168 results168 call168 QB (af bs.length _ (by simp[within,within.av])) ?_;refine iC ?_;refine ae (qJ s 44 QA) ?_;rintro r b ⟨j,rfl,r9,hj,bm⟩;have hle:=Cl 44 s;obtain⟨t0,q8⟩:=wY 44 s;generalize hy:(aL 44 s).1=y at q8;have jF:=J9 q8;rw[q8]at hj hle ⊢;have hLn:(y::t0).length≤s.length+1:=by
  have h1:=gF 44 s;have h2:=List.count_le_length (a:=(44:UInt8)) (l:=s);rw[q8]at h1;omega
 generalize hL:y::t0=L at *;have h0:L[0]? = some y:=by rw[← hL];rfl
 have rb:0<L.length:=by rw[← hL];simp
 refine iC ?_;refine ax (fun σ=>∃ k:Nat,k≤L.length∧lk 4 σ.t=some (.o j L.length)∧lk 11 σ.t=some (.o j L.length)∧lk 12 σ.t=some (.int .i64 L.length)∧lk 13 σ.t=some (.int .i64 k)∧Kp bs σ.b∧σ.b[j]? = some (.own ((o0 L k).map SV.str) 9 1 L.length true)∧(∀ q (h:q<k) (h2:q<L.length),trimB L[q]=trimB y∧bj (trimB y)=true)) (fun σ=>L.length - fA 13 σ) ⟨0,QA,rfl,rfl,rfl,rfl,bm,by simpa[o0] using hj,fun q h=>QA⟩ ?_;clear hj bm;rintro⟨t,b⟩ ⟨k,hk,h4,fM,qq,gO,bm,hj,br⟩;simp only at h4 fM qq gO bm hj;rw[ak gO];have e9:j<b.length:=(zUS.1 hj).1;by_cases az:k<L.length
 ·have aK:decide ((k:Int)<L.length)=true:=QF
  have hx:=hle L[k] (List.getElem_mem az);have g1:((o0 L k).map SV.str)[k * 1]? = some (.str L[k]):=by rw[Nat.mul_one,List.getElem?_map,uT hk az,if_neg QA];rfl
  have p1:=CA L[k] QA;have hml:((o0 L k).map SV.str).length=L.length:=by rw[List.length_map,zM]
  have e1:List.take (k * 1) ((o0 L k).map SV.str)++[.str (trimB L[k])]++List.drop (k * 1+1) ((o0 L k).map SV.str)=(o0 L (k+1)).map SV.str:=by
   rw[← Ow az,List.map_set,Nat.mul_one,List.set_eq_take_append_cons_drop,if_pos (by rw[hml];exact az)];simp
  have g2:((o0 L (k+1)).map SV.str)[k * 1]? = some (.str (trimB L[k])):=by rw[Nat.mul_one,List.getElem?_map,uT QA az,if_pos QA];rfl
  have g3:((o0 L (k+1)).map SV.str)[0]? = some (.str (trimB y)):=by
   rw[List.getElem?_map,uT QA rb,if_pos QA];have:L[0]=y:=by
    have:=List.getElem?_eq_getElem rb
    rw[h0]at this;exact(Option.some.inj this).symm
   rw[this];rfl
  have hml2:((o0 L (k+1)).map SV.str).length=L.length:=by rw[List.length_map,zM]
  have p2:=xD (trimB L[k]) (by have:=vQ L[k];omega);have hnone:(trimB L[k]≠trimB y∨bj (trimB L[k])=false)→gP s=none:=fun h=>by
   rw[jF,if_neg];intro h2;simp only[zVg,List.all_eq_true]at h2;have h3:=beq_iff_eq.1 (h2.1 L[k] (List.getElem_mem az));rcases h with h|h
   ·exact h h3
   ·rw[h3,h2.2]at h;cases h
  have uY:∀ X,(b.set j X)[j]? = some X:=fun X=>zUU e9
  have eA:=fun X=>bm.set r9 X
  generalize KK:L[k]=x at *;refine gB (zUR h4 (zUR fM (zUR qq (zUR gO (zUR aK (zUR hj g1)))))) ?_;refine⟨⟨QA,QA⟩,QA,?_⟩
  (refine aa (p1) ?_;refine gB (zUR h4 (zUR fM (zUR qq (zUR gO (zUR hj (zUR e1 (zUR uY (zUR g2 g3)))))))) ?_)
  refine⟨⟨QA,QA⟩,QA,⟨QA,QA⟩,QA,?_⟩;cases hd:bj (trimB x)
  ·rw[hd]at p2
   (refine aW (p2) ?_;refine gB (zUR h4 (zUR fM (zUR qq (zUR gO (zUR hj (zUR uY (zUR g2 g3))))))) ?_)
   refine⟨(ao QE),?_,eA _⟩;rw[hnone (.inr hd)];rfl
  ·rw[hd]at p2
   by_cases xO:trimB x=trimB y
   ·have dxy:(trimB x != trimB y)=false:=by rw[xO];exact bne_self_eq_false _
    (refine aW (p2) ?_;refine gB (zUR h4 (zUR fM (zUR qq (zUR gO (zUR hj (zUR uY (zUR g2 (zUR g3 (zUR dxy (zUR Int.toNat_zero Nat.zero_mul)))))))))) ?_)
    refine⟨⟨QA,QA⟩,QA,QA,QA,(ao QE),⟨QA,QA⟩,⟨k+1,QA,rfl,eA _,?_⟩,?_⟩
    ·refine⟨rfl,fun q hq h2=>?_⟩
     by_cases hqk:q=k
     ·subst hqk
      rw[KK,xO];exact⟨rfl,by rw[← xO];exact hd⟩
     ·exact br q QA h2
    ·rw[ak (k:=.i64) (n:=(k:Int)+1) rfl];omega
   ·have dxy:(trimB x != trimB y)=true:=bne_iff_ne.2 xO
    (refine aW (p2) ?_;refine gB (zUR h4 (zUR fM (zUR qq (zUR gO (zUR hj (zUR uY (zUR g2 (zUR g3 (zUR dxy (zUR Int.toNat_zero Nat.zero_mul)))))))))) ?_)
    refine⟨⟨QA,QA⟩,QA,QA,QA,(ao QE),?_,eA _⟩;rw[hnone (.inl xO)];rfl
 ·have u9:k=L.length:=QA
  subst u9;have aK:decide ((L.length:Int)<L.length)=false:=by simp
  have hy2:L[0]=y:=by
   have:=List.getElem?_eq_getElem rb
   rw[h0]at this;exact(Option.some.inj this).symm
  have hdy:=(br 0 rb rb).2;have hsome:gP s=some (if (aF isDigit 10 4611686018427387904 (trimB y)).2=0 then(aF isDigit 10 4611686018427387904 (trimB y)).1 else 4611686018427387904):=by
   rw[jF,if_pos];rw[hdy,Bool.and_true,List.all_eq_true];intro p hp;obtain⟨q,hq,rfl⟩:=List.getElem_of_mem hp;exact beq_iff_eq.2 (br q hq hq).1
  have g3:((o0 L L.length).map SV.str)[0]? = some (.str (trimB y)):=by
   rw[List.getElem?_map,uT QA rb,if_pos QA,hy2];rfl
  have Nf:=hle y (by rw[← hy2];exact List.getElem_mem rb);have p3:=zv (trimB y) 4611686018427387904 (by have:=vQ y;omega) QA QA;rw[hsome];generalize aF isDigit 10 4611686018427387904 (trimB y)=N at p3;obtain⟨n,e⟩:=N;simp only at p3;have p3:PC QH 215 [.str (trimB y),.int .u64 4611686018427387904] _:=p3;have hml3:((o0 L L.length).map SV.str).length=L.length:=by rw[List.length_map,zM]
  refine gB (zUR h4 (zUR fM (zUR qq (zUR gO (zUR aK (zUR hj (zUR g3 (zUR Int.toNat_zero Nat.zero_mul)))))))) ?_;refine⟨QA,QA,?_⟩
  (refine aa (p3) ?_;refine gB (zUR h4 (zUR fM (zUR qq (zUR gO hj)))) ?_)
  exact⟨fun h=>⟨by rw[if_neg (by simpa using h)];rfl,bm⟩,fun h=>⟨by rw[if_pos (by simpa using h)];rfl,bm⟩⟩
theorem HW (most:Int):∀ (F:Nat)(acc r:Bytes)(old:Nat),(ij most F acc r old).2≠0→(ij most F acc r old).1=[]
 | 0,_,_,_,_=>rfl
 | F+1,acc,r,old,h=>by
   rw[ij]at h ⊢
   (repeat' split) <;> (repeat' split at h) <;> first|rfl | (exact absurd rfl h) | (simp_all;done) | (exact HW most F _ _ _ (by simp_all))
theorem xu {bs:List aq}{j:Nat}{fs:List (Bytes × Bytes)}{m:Bool}(hj:bs[j]? = some (.own (fs.flatMap fc) 100 2 fs.length m))(hn:fs.length≤1000000)(hl:∀ f∈fs,f.1.length≤9223372036854775807)(a st:Int)(rest:Bytes)(most:Int)(hr:rest.length≤4000000)(tU:-9223372036854775808≤most)(CS:most≤9223372036854775807)
 (hte:(Lib.join (bn fs so) [44,32]).length≤1000000) (fY:(Lib.join (bn fs tQ) [44,32]).length≤1000000) :
 SC QH 103 [.agg [.int .i64 a,.int .i64 st,.o j fs.length],.str rest,.int .i64 most] bs (fun r b=>r=.eh [.str (fw st fs rest most).1,.int .i64 (fw st fs rest most).2]∧Kp bs b):=by
 have e9:j<bs.length:=(zUS.1 hj).1;have fU:=fun X=>ad hj [X]
 have g1:=fun X=>cY (by simp[flat,flat.ah]) (y8 (bs:=bs++[X]) (fU X) hn hl so QD a st _ rfl hte _ rfl)
 have g2:=fun X=>cY (by simp[flat,flat.ah]) (y8 (bs:=bs++[X]) (fU X) hn hl tQ QD a st _ rfl fY _ rfl)
 have p1:=gU (Lib.join (bn fs so) [44,32]) QA;have p2:=Bw rest most hr tU CS;have Hz:(chunked rest most).2≠0→(chunked rest most).1=[]:=fun h=>HW _ _ _ _ _ h
 have p3:=fun X=>cY (GC _) (Bj (bs:=bs++[X]) (Lib.join (bn fs tQ) [44,32]) fY)
 rw[x8];generalize decide (0<((bn fs so).length:Int))=c1 at g1;generalize decide (0<((bn fs tQ).length:Int))=c2 at g2;generalize Lib.join (bn fs so) [44,32]=v1 at g1 p1;generalize Lib.join (bn fs tQ) [44,32]=v2 at g2 p3;refine bp 3000 func103 rfl ntmps103 results103 call103 QB (af bs.length _ (by simp[within,within.av,e9])) ?_;unfold so at g1;unfold tQ at g2;refine iC ?_;refine⟨fun q=>⟨?_,(Kp.refl _).app _⟩,fun q=>?_⟩
 ·unfold yc;rw[if_pos (of_decide_eq_true q)]
 have q:=of_decide_eq_false q;have hK:=(Kp.refl bs).app [.cells [.int .i64 a,.int .i64 st,.o j fs.length] 48 true];by_cases xR:(100≤st∧st≤199)∨st=204∨st=304
 ·have e:yc st c1 v1 c2 v2 rest most=([],0):=by unfold yc;rw[if_neg q,if_pos xR]
  rw[e];cases h1:decide (100≤st) <;> cases h2:decide (st≤199) <;> cases h3:(st==204) <;> cases h4:(st==304)
  all_goals first
  | (exfalso;simp only[decide_eq_false_iff_not,decide_eq_true_eq,beq_eq_false_iff_ne,beq_iff_eq,ne_eq]at h1 h2 h3 h4;omega)
  | (refine gB (zUR h1 (zUR h2 (zUR h3 h4))) ?_;exact hK)
 ·have h3:(st==204)=false:=by rw[beq_eq_false_iff_ne];omega
  have h4:(st==304)=false:=by rw[beq_eq_false_iff_ne];omega
  have er:yc st c1 v1 c2 v2 rest most=if c1=true then(if c2=true∨lower v1≠Ca then([],190) else chunked rest most)
   else if c2=true then(match gP v2 with
    | none=>([],190)
    | some n=>if most<n then([],142) else if rest.length<n then([],191) else(rest.take n,0))
   else if most<rest.length then([],142) else(rest,0):=by unfold yc;rw[if_neg q,if_neg xR];rfl
  rw[er];have w1:IntKind.u64.wrap most=most:=by simp[IntKind.wrap,IntKind.bits,IntKind.signed];omega
  have w2:IntKind.u64.wrap (rest.length:Int)=rest.length:=by simp[IntKind.wrap,IntKind.bits,IntKind.signed];omega
  cases h1:decide (100≤st) <;> cases h2:decide (st≤199)
  all_goals first
  | (exfalso;simp only[decide_eq_true_eq]at h1 h2;omega)
  | skip
  all_goals
   refine gB (zUR h1 (zUR h2 (zUR h3 h4))) ?_;refine ae (g1 _) ?_;rintro r b ⟨rfl,rfl⟩;refine iC ?_;refine ae (g2 _) ?_;rintro r b ⟨rfl,rfl⟩;cases c1 <;> cases c2
   ·rw[if_neg QD,if_neg QD]
    refine iC ?_;exact⟨fun h=>⟨by rw[if_pos (of_decide_eq_true h)],hK⟩,fun h=>⟨by rw[if_neg (of_decide_eq_false h)],hK⟩⟩
   ·rw[if_neg QD,if_pos rfl]
    cases hb:gP v2 with
    | none =>
      rw[hb]at p3;unfold xJ at p3;refine iC ?_;refine ae (p3 _) ?_;rintro r b ⟨rfl,rfl⟩;refine iC ?_;exact hK
    | some n =>
      rw[hb]at p3;unfold xJ at p3;refine iC ?_;refine ae (p3 _) ?_;rintro r b ⟨rfl,rfl⟩;refine gB (zUR w1 w2) ?_;exact⟨fun h=>⟨by rw[if_pos (of_decide_eq_true h)],hK⟩,fun h=>⟨fun k=>⟨by rw[if_neg (of_decide_eq_false h),if_pos (by have:=of_decide_eq_true k;omega)],hK⟩,fun k=>⟨⟨QA,by have:=of_decide_eq_false k;omega⟩,by rw[if_neg (of_decide_eq_false h),if_neg (by have:=of_decide_eq_false k;omega)],hK⟩⟩⟩
   ·rw[if_pos rfl]
    refine iC ?_;refine aa p1 ?_;refine iC ?_;refine⟨fun h=>⟨by rw[if_pos (Or.inr (by simpa[Ca] using h))],hK⟩,fun h=>?_⟩;rw[if_neg (by simpa[Ca] using h)];refine aa p2 ?_;refine iC ?_;exact⟨fun h=>⟨by rw[Hz (by simpa using h)],hK⟩,fun h=>⟨by have:=bne_eq_false_iff_eq.1 h;rw[this],hK⟩⟩
   ·rw[if_pos rfl,if_pos (Or.inl rfl)]
    refine iC ?_;exact hK
def Ct (l:Bytes):(Int × Int) × Bool :=
 if l.length<13∨l.take 7≠eS∨(l.getD 7 0≠48∧l.getD 7 0≠49)∨l.getD 8 0≠32∨l.getD 12 0≠32∨bj ((l.take 12).drop 9)=false∨fB (l.drop 13)=false then((0,0),false)
 else(((l.getD 7 0).toNat - 48,(aF isDigit 10 999 ((l.take 12).drop 9)).1),decide (100≤((aF isDigit 10 999 ((l.take 12).drop 9)).1:Int))&&decide (((aF isDigit 10 999 ((l.take 12).drop 9)).1:Int)≤599))
theorem wX {c:UInt8}(h:isDigit c=true):bo c≤9∧(bo c:Int)=c.toNat - 48:=by
 simp[isDigit]at h;unfold bo;rw[if_pos h.2];omega
theorem num3 {a b c:UInt8}(ha:isDigit a=true)(hb:isDigit b=true)(hc:isDigit c=true) :
 aF isDigit 10 999 [a,b,c]=((bo a * 10+bo b) * 10+bo c,0)∧aF isDigit 10 599 [a,b,c]=(if (bo a * 10+bo b) * 10+bo c≤599 then((bo a * 10+bo b) * 10+bo c,0) else(0,4)):=by
 have h1:=(wX ha).1;have h2:=(wX hb).1;have h3:=(wX hc).1;unfold aF;simp only[List.isEmpty_cons,Bool.false_eq_true,if_false,List.all_cons,ha,hb,hc,List.all_nil,Bool.and_self,if_true,dw,Nat.zero_mul,Nat.zero_add];constructor
 ·rw[if_neg QA,if_neg QA,if_neg QA]
 ·rw[if_neg QA,if_neg QA]
  split
  ·rw[if_neg QA]
  ·rw[if_pos QA]
theorem three {s:Bytes}(h:s.length=3):∃ a b c,s=[a,b,c]:=by
 match s,h with
 | [a,b,c],_=>exact⟨a,b,c,rfl⟩
theorem IN (l:Bytes):lN l=if (Ct l).2=true then some (Ct l).1 else none:=by
 have hp:Lib.hasPrefix l eS=true↔l.take 7=eS:=by
  rw[Lib.hasPrefix,zU5,zVb];exact eq_comm
 unfold lN Ct;by_cases gO:l.length<13
 ·rw[if_pos (Or.inl gO),if_pos (Or.inr QC)];rfl
 by_cases h7:l.take 7≠eS
 ·rw[if_pos (Or.inl (by rw[Bool.eq_false_iff];exact fun h=>h7 (hp.1 h))),if_pos (Or.inr (Or.inl h7))];rfl
 have h7':=Decidable.not_not.1 h7;rw[if_neg (by rw[hp.2 h7'];simp;omega)];have g:∀ k,(l.drop 7).getD k 0=l.getD (7+k) 0:=fun k=>by simp[List.getD]
 rw[g,g,g,zU2,zU2];have e3:(l.drop (7+2)).take 3=(l.take 12).drop 9:=by rw[List.drop_take]
 rw[e3];have hl3:((l.take 12).drop 9).length=3:=by simp;omega
 simp only[Nat.add_zero,Nat.reduceAdd];generalize l.getD 7 0=c7;generalize l.getD 8 0=c8;generalize l.getD 12 0=c12;generalize (l.take 12).drop 9=d at hl3;generalize fB (l.drop 13)=vb;by_cases hb:(c7≠48∧c7≠49)∨c8≠32∨c12≠32∨vb=false
 ·have hx:((c7 != 48&&c7 != 49)||c8 != 32||c12 != 32||!vb)=true:=by
   rcases hb with⟨h1,h2⟩|h1|h1|h1 <;> simp[*]
  have hy:l.length<13∨l.take 7≠eS∨(c7≠48∧c7≠49)∨c8≠32∨c12≠32∨bj d=false∨vb=false:=by
   rcases hb with h|h|h|h
   ·exact .inr (.inr (.inl h))
   ·exact .inr (.inr (.inr (.inl h)))
   ·exact .inr (.inr (.inr (.inr (.inl h))))
   ·exact .inr (.inr (.inr (.inr (.inr (.inr h)))))
  rw[if_pos hx,if_pos hy];rfl
 have hx:((c7 != 48&&c7 != 49)||c8 != 32||c12 != 32||!vb)=false:=by
  rw[Bool.eq_false_iff];intro h;apply hb
  simp only[Bool.or_eq_true,zVg,bne_iff_ne,Bool.not_eq_true']at h;rcases h with((h|h) | h) | h
  ·exact .inl h
  ·exact .inr (.inl h)
  ·exact .inr (.inr (.inl h))
  ·exact .inr (.inr (.inr h))
 rw[hx,if_neg QB];have Nj:aV 599 d=if bj d=true∧1<d.length∧d.head? = some 48 then(0,6) else aF isDigit 10 599 d:=rfl
 obtain⟨x,y,z,rfl⟩:=three hl3;by_cases hd:bj [x,y,z]=false
 ·have hy:l.length<13∨l.take 7≠eS∨(c7≠48∧c7≠49)∨c8≠32∨c12≠32∨bj [x,y,z]=false∨vb=false:=.inr (.inr (.inr (.inr (.inr (.inl hd)))))
  rw[if_pos hy];have:aF isDigit 10 599 [x,y,z]=(0,1):=by
   unfold aF;unfold bj at hd;simp only[List.isEmpty_cons,zUZ,Bool.true_and]at hd;rw[if_neg QB,hd];rfl
  have e:aV 599 [x,y,z]=(0,1):=by rw[Nj,if_neg (by rw[hd];simp),this]
  rw[e,if_pos (Or.inl QB)];rfl
 have vK:bj [x,y,z]=true:=by simpa using hd
 have h3:isDigit x=true∧isDigit y=true∧isDigit z=true:=by
  unfold bj at vK;simpa using vK
 obtain⟨n1,n2⟩:=num3 h3.1 h3.2.1 h3.2.2;have a1:=wX h3.1;have a2:=wX h3.2.1;have a3:=wX h3.2.2;have hy:¬ (l.length<13∨l.take 7≠eS∨(c7≠48∧c7≠49)∨c8≠32∨c12≠32∨bj [x,y,z]=false∨vb=false):=by
  rintro(h|h|h|h|h|h|h)
  ·exact gO h
  ·exact h7 h
  ·exact hb (.inl h)
  ·exact hb (.inr (.inl h))
  ·exact hb (.inr (.inr (.inl h)))
  ·exact hd h
  ·exact hb (.inr (.inr (.inr h)))
 rw[if_neg hy];rw[n1];rw[n2]at Nj;simp only;by_cases h0:x=48
 ·have KK:bo x=0:=by rw[h0];rfl
  have e:aV 599 [x,y,z]=(0,6):=by rw[Nj,if_pos ⟨vK,QB,by rw[h0];rfl⟩]
  rw[e,if_pos (Or.inl QB),if_neg];simp only[zVg,decide_eq_true_eq];omega
 ·have KK:1≤bo x:=by
   have:x.toNat≠48:=fun h=>h0 (zVi.1 h)
   omega
  rw[if_neg (by rintro⟨-,-,h⟩;simp at h;exact h0 h)]at Nj;by_cases h599:(bo x * 10+bo y) * 10+bo z≤599
  ·rw[if_pos h599]at Nj
   rw[Nj,if_neg QC,if_pos (by simp only[zVg,decide_eq_true_eq];omega)]
  ·rw[if_neg h599]at Nj
   rw[Nj,if_pos (Or.inl QB),if_neg (by simp only[zVg,decide_eq_true_eq];omega)]
def Km (r:(Int × Int) × Bool):SV:=.eh [.agg [.int .i64 r.1.1,.int .i64 r.1.2,.ai],.bool r.2]
theorem N7 (r:(Int × Int) × Bool):flat (Km r)=true:=by simp[Km,flat,flat.ah]
theorem D7 (l:Bytes)(hs:l.length≤4000000):PC QH 162 [.str l] (Km (Ct l)):=by
 refine aU 3000 func162 rfl ntmps162 results162 call162 QB (by simp[flat,flat.ah]) (N7 _) ?_;unfold Ct;have p1:=xD ((l.take 12).drop 9) QC;have p2:=oe (l.drop 13) QC;have p3:PC QH 215 [.str ((l.take 12).drop 9),.int .u64 999] _:=zv ((l.take 12).drop 9) 999 QC QA QA;have hnp:=mZ isDigit 10 999 ((l.take 12).drop 9);generalize aF isDigit 10 999 ((l.take 12).drop 9)=np at p3 hnp ⊢;by_cases gO:l.length<13
 ·rw[if_pos (.inl gO)]
  have d:decide ((l.length:Int)<13)=true:=QF;refine gK d ?_;rfl
 have d13:decide ((l.length:Int)<13)=false:=QG;by_cases h7:l.take 7≠eS
 ·rw[if_pos (.inr (.inl h7))]
  have d:(l.take 7 != [72,84,84,80,47,49,46])=true:=bne_iff_ne.2 h7;have i7:Int.toNat 7=7:=rfl;refine gK (zUR d13 (zUR i7 d)) ?_;exact⟨QA,rfl⟩
 have d7:(l.take 7 != [72,84,84,80,47,49,46])=false:=by
  rw[bne_eq_false_iff_eq];exact Decidable.not_not.1 h7
 have n1:=wB (l.getD 7 0) 48 48 rfl;have n2:=wB (l.getD 7 0) 49 49 rfl;have n3:=wB (l.getD 8 0) 32 32 rfl;have n4:=wB (l.getD 12 0) 32 32 rfl;have i7:Int.toNat 7=7:=rfl;have i8:Int.toNat 8=8:=rfl;have i9:Int.toNat 9=9:=rfl;have i12:Int.toNat 12=12:=rfl;have i13:Int.toNat 13=13:=rfl;generalize My:l.getD 7 0=c7 at n1 n2 ⊢;generalize Mx:l.getD 8 0=c8 at n3 ⊢;generalize HA:l.getD 12 0=c12 at n4 ⊢;have hl13:(13:Int)≤l.length:=QA;by_cases g7:c7≠48∧c7≠49
 ·rw[if_pos (.inr (.inr (.inl g7)))]
  rw[show (c7==48)=false from beq_eq_false_iff_ne.2 g7.1]at n1;rw[show (c7==49)=false from beq_eq_false_iff_ne.2 g7.2]at n2;simp only[zUZ]at n1 n2;refine gK (zUR d13 (zUR d7 (zUR i7 (zUR My (zUR n1 n2))))) ?_;repeat refine⟨QA,?_⟩
  rfl
 have g7':c7=48∨c7≠48∧c7=49:=by
  by_cases h:c7=48
  ·exact .inl h
  ·exact .inr ⟨h,Decidable.byContradiction fun h2=>g7 ⟨h,h2⟩⟩
 have w:IntKind.u8.wrap ((c7.toNat:Int) - 48)=(c7.toNat:Int) - 48:=by rcases g7' with h|⟨-,h⟩ <;> rw[h] <;> rfl
 have w2:IntKind.i64.wrap ((c7.toNat:Int) - 48)=(c7.toNat:Int) - 48:=by rcases g7' with h|⟨-,h⟩ <;> rw[h] <;> rfl
 have w3:IntKind.i64.wrap (np.1:Int)=np.1:=by simp[IntKind.wrap,IntKind.bits,IntKind.signed];omega
 obtain⟨q1,jK⟩:∃ q,(c7==48)=q:=⟨_,rfl⟩;have n2:q1=false→((c7.toNat:Int) != 49)=false:=fun h=>by
  rw[n2];rcases g7' with h2|⟨-,h2⟩
  ·rw[h2]at jK;rw[← jK]at h;cases h
  ·rw[h2];rfl
 rw[jK]at n1;clear jK;have dc:∀ (r:(Int × Int) × Bool),(c8≠32∨c12≠32∨bj ((l.take 12).drop 9)=false∨fB (l.drop 13)=false)→(if l.length<13∨l.take 7≠eS∨(c7≠48∧c7≠49)∨c8≠32∨c12≠32∨bj ((l.take 12).drop 9)=false∨fB (l.drop 13)=false then((0,0),false) else r)=((0,0),false):=fun r h=>if_pos (.inr (.inr (.inr h)))
 by_cases g8:c8≠32
 ·rw[dc _ (.inl g8)]
  rw[show (c8==32)=false from beq_eq_false_iff_ne.2 g8]at n3;simp only[zUZ]at n3;cases q1
  ·have n2:=n2 rfl
   simp only[zUZ]at n1;refine gK (zUR d13 (zUR d7 (zUR i7 (zUR i8 (zUR My (zUR Mx (zUR n1 (zUR n2 n3)))))))) ?_;repeat refine⟨QA,?_⟩
   rfl
  ·simp only[zU3]at n1
   refine gK (zUR d13 (zUR d7 (zUR i7 (zUR i8 (zUR My (zUR Mx (zUR n1 n3))))))) ?_;repeat refine⟨QA,?_⟩
   rfl
 rw[show (c8==32)=true from beq_iff_eq.2 (Decidable.not_not.1 g8)]at n3;simp only[zU3]at n3;by_cases g12:c12≠32
 ·rw[dc _ (.inr (.inl g12))]
  rw[show (c12==32)=false from beq_eq_false_iff_ne.2 g12]at n4;simp only[zUZ]at n4;cases q1
  ·have n2:=n2 rfl
   simp only[zUZ]at n1;refine gK (zUR d13 (zUR d7 (zUR i7 (zUR i8 (zUR i12 (zUR My (zUR Mx (zUR HA (zUR n1 (zUR n2 (zUR n3 n4))))))))))) ?_;repeat refine⟨QA,?_⟩
   rfl
  ·simp only[zU3]at n1
   refine gK (zUR d13 (zUR d7 (zUR i7 (zUR i8 (zUR i12 (zUR My (zUR Mx (zUR HA (zUR n1 (zUR n3 n4)))))))))) ?_;repeat refine⟨QA,?_⟩
   rfl
 rw[show (c12==32)=true from beq_iff_eq.2 (Decidable.not_not.1 g12)]at n4;simp only[zU3]at n4;generalize hdg:bj ((l.take 12).drop 9)=dg at p1 dc ⊢;generalize hvb:fB (l.drop 13)=vb at p2 dc ⊢;cases dg
 ·rw[dc _ (.inr (.inr (.inl rfl)))]
  cases q1
  ·have n2:=n2 rfl
   simp only[zUZ]at n1;refine gK (zUR d13 (zUR d7 (zUR i7 (zUR i8 (zUR i9 (zUR i12 (zUR My (zUR Mx (zUR HA (zUR n1 (zUR n2 (zUR n3 n4)))))))))))) ?_;repeat refine⟨QA,?_⟩
   (refine aa (p1) ?_;refine gK d13 ?_)
   rfl
  ·simp only[zU3]at n1
   refine gK (zUR d13 (zUR d7 (zUR i7 (zUR i8 (zUR i9 (zUR i12 (zUR My (zUR Mx (zUR HA (zUR n1 (zUR n3 n4))))))))))) ?_;repeat refine⟨QA,?_⟩
   (refine aa (p1) ?_;refine gK d13 ?_)
   rfl
 cases vb
 ·rw[dc _ (.inr (.inr (.inr rfl)))]
  cases q1
  ·have n2:=n2 rfl
   simp only[zUZ]at n1;refine gK (zUR d13 (zUR d7 (zUR i7 (zUR i8 (zUR i9 (zUR i12 (zUR My (zUR Mx (zUR HA (zUR n1 (zUR n2 (zUR n3 n4)))))))))))) ?_;repeat refine⟨QA,?_⟩
   (refine aa (p1) ?_;refine gK i13 ?_)
   refine⟨QA,?_⟩
   (refine aa (p2) ?_;refine gK d13 ?_)
   rfl
  ·simp only[zU3]at n1
   refine gK (zUR d13 (zUR d7 (zUR i7 (zUR i8 (zUR i9 (zUR i12 (zUR My (zUR Mx (zUR HA (zUR n1 (zUR n3 n4))))))))))) ?_;repeat refine⟨QA,?_⟩
   (refine aa (p1) ?_;refine gK i13 ?_)
   refine⟨QA,?_⟩
   (refine aa (p2) ?_;refine gK d13 ?_)
   rfl
 have Am:¬ (l.length<13∨l.take 7≠eS∨(c7≠48∧c7≠49)∨c8≠32∨c12≠32∨true=false∨true=false):=by
  rintro(h|h|h|h|h|h|h)
  ·exact gO h
  ·exact h7 h
  ·exact g7 h
  ·exact g8 h
  ·exact g12 h
  ·cases h
  ·cases h
 rw[if_neg Am];cases q1
 ·have n2:=n2 rfl
  simp only[zUZ]at n1;refine gK (zUR d13 (zUR d7 (zUR i7 (zUR i8 (zUR i9 (zUR i12 (zUR My (zUR Mx (zUR HA (zUR n1 (zUR n2 (zUR n3 n4)))))))))))) ?_;repeat refine⟨QA,?_⟩
  (refine aa (p1) ?_;refine gK i13 ?_)
  refine⟨QA,?_⟩
  (refine aa (p2) ?_;refine gK (zUR i9 i12) ?_)
  refine⟨QA,?_⟩
  (refine aa (p3) ?_;refine gK (zUR i7 (zUR My (zUR w (zUR w2 w3)))) ?_)
  exact⟨QA,fun h=>by rw[h];rfl,fun h=>by rw[h];rfl⟩
 ·simp only[zU3]at n1
  refine gK (zUR d13 (zUR d7 (zUR i7 (zUR i8 (zUR i9 (zUR i12 (zUR My (zUR Mx (zUR HA (zUR n1 (zUR n3 n4))))))))))) ?_;repeat refine⟨QA,?_⟩
  (refine aa (p1) ?_;refine gK i13 ?_)
  refine⟨QA,?_⟩
  (refine aa (p2) ?_;refine gK (zUR i9 i12) ?_)
  refine⟨QA,?_⟩
  (refine aa (p3) ?_;refine gK (zUR i7 (zUR My (zUR w (zUR w2 w3)))) ?_)
  exact⟨QA,fun h=>by rw[h];rfl,fun h=>by rw[h];rfl⟩
theorem GV:∀ (s p:Bytes),0≤Lib.index s p→(s.drop (Lib.index s p).toNat).take p.length=p
 | [],p,h=>by
   unfold Lib.index at h ⊢;cases p with
   | nil=>simp
   | cons c p=>simp at h
 | c::s,p,h=>by
   unfold Lib.index at h ⊢;split
   ·rename_i hp
    rw[zU5,zVb]at hp;simpa using hp.symm
   ·rename_i hp
    rw[if_neg hp]at h;split at h
    ·omega
    ·rename_i h1
     have h1':¬ Lib.index s p=-1:=by simpa using h1
     have sL:=Lib.index_ge s p;have ih:=GV s p QA;rw[if_neg (by simpa using h1)];have:(Lib.index s p+1).toNat=(Lib.index s p).toNat+1:=QA
     rw[this,List.drop_succ_cons];exact ih
theorem KI:∀ P:Bytes,Lib.index (P++[13,10]) [13,10]=if 0≤Lib.index P [13,10] then Lib.index P [13,10] else P.length
 | []=>by decide
 | c::P=>by
   have ih:=KI P;have sL:=Lib.index_ge P [13,10];have hq:[13,10].isPrefixOf (c::(P++[13,10]))=[13,10].isPrefixOf (c::P):=by
    cases P with
    | nil=>simp[List.isPrefixOf]
    | cons d P=>simp[List.isPrefixOf]
   rw[zUW,Lib.index,Lib.index,hq];by_cases hp:[13,10].isPrefixOf (c::P)=true
   ·rw[if_pos hp,if_pos hp,if_pos (Int.le_refl 0)]
   ·rw[if_neg hp,if_neg hp]
    by_cases h:0≤Lib.index P [13,10]
    ·rw[if_pos h]at ih
     have e:(if (Lib.index P [13,10]==-1)=true then -1 else Lib.index P [13,10]+1)=Lib.index P [13,10]+1:=if_neg QC;rw[ih,e,if_pos QA]
    ·rw[if_neg h]at ih
     have e:(if (Lib.index P [13,10]==-1)=true then -1 else Lib.index P [13,10]+1)=-1:=if_pos QC;rw[ih,e,if_neg QB,if_neg QA];simp
def sC (rest:Bytes)(more:Bool):Bytes:=if more=true then rest++[13,10] else []
theorem cutR (P:Bytes):Lib.index (P++[13,10]) [13,10]=((Lib.cut P [13,10]).1.length:Nat)∧(P++[13,10]).take (Lib.cut P [13,10]).1.length=(Lib.cut P [13,10]).1∧(P++[13,10]).drop ((Lib.cut P [13,10]).1.length+2)=sC (Lib.cut P [13,10]).2.1 (Lib.cut P [13,10]).2.2∧(Lib.cut P [13,10]).1.length+2≤P.length+2:=by
 have BP:=KI P;have dp:=ie P [13,10];unfold Lib.cut;by_cases h:0≤Lib.index P [13,10]
 ·have dp:=dp h
  simp only[zU1,zU4]at dp;rw[if_pos h]at BP ⊢;have hl:(P.take (Lib.index P [13,10]).toNat).length=(Lib.index P [13,10]).toNat:=by simp;omega
  simp only[hl];refine⟨by rw[BP];omega,?_,?_,QA⟩
  ·rw[List.take_append_of_le_length QA]
  ·unfold sC
   rw[if_pos rfl,List.drop_append_of_le_length QA];rfl
 ·rw[if_neg h]at BP ⊢
  simp only;refine⟨BP,QB,by unfold sC;simp,QA⟩
theorem PL {s:Bytes}{n:Int}(hn:Lib.index (s.take 16384) [13,10,13,10]=n)(h0:0≤n):(s.take 16384).take (n+2).toNat=s.take n.toNat++[13,10]:=by
 subst hn;have h1:=GV (s.take 16384) [13,10,13,10] h0;have h2:=ie (s.take 16384) [13,10,13,10] h0;generalize Lib.index (s.take 16384) [13,10,13,10]=n at *;simp only[zU1,zU4,List.length_take]at h1 h2;have e:(n+2).toNat=n.toNat+2:=QA;rw[e,List.take_add];congr 1
 ·rw[List.take_take];congr 1;omega
 ·have h3:((s.take 16384).drop n.toNat).take 2=(((s.take 16384).drop n.toNat).take 4).take 2:=by rw[List.take_take];rfl
  rw[h3,h1];rfl
theorem pre58 (s:Bytes):pre (fun c=>[58].contains c) s=pre (·==58) s:=by
 congr 1
 funext c
 rw[Bool.eq_iff_iff];simp[List.contains_cons]
theorem DB {bs:List aq}(s:Bytes)(hs:s.length≤4000000):SC QH 101 [.str s] bs (EY bs (bL s)):=by
 have ht:s.take (if (16384:Int)<(s.length:Int) then(16384:Int) else s.length).toNat=s.take 16384:=by
  split
  ·rfl
  ·rw[zVe QA,zVe QA]
 have p1:=tw (s.take 16384) [13,10,13,10] QC QD QD;have uZ:=Lib.index_ge (s.take 16384) [13,10,13,10];have jG:=ie (s.take 16384) [13,10,13,10];rw[List.length_take]at jG;generalize hT:bL s=T;unfold bL at hT;generalize hn:Lib.index (s.take 16384) [13,10,13,10]=n at p1 uZ jG hT;simp only[zU1,zU4]at jG;have e1:n<0→T=((0,0,[]),0,if 16384<s.length then 142 else 191):=fun h=>by rw[← hT,if_pos h]
 have e2:¬ n<0→T=_:=fun h=>by rw[← hT,if_neg h]
 clear hT;refine bp 3000 func101 rfl ntmps101 results101 call101 QB (af bs.length _ (by simp[within,within.av])) ?_;refine iC ?_;refine⟨by split <;> omega,?_⟩;rw[ht]
 (refine aa (p1) ?_;refine iC ?_)
 have kD:=(Kp.refl bs).app [.cells [.int .i64 0,.int .i64 0,.ai] 48 true];refine⟨fun q1=>?_,fun q1=>?_⟩
 ·have q1:=of_decide_eq_true q1
  have e1:=e1 q1;exact⟨fun q2=>EY.err (by rw[e1,if_pos (by have:=of_decide_eq_true q2;omega)]) kD,fun q2=>EY.err (by rw[e1,if_neg (by have:=of_decide_eq_false q2;omega)]) kD⟩
 have q1:=of_decide_eq_false q1;have e2:=e2 q1;clear e1;have tT:=jG QA;have hfe:=PL hn QA;have hl0:(s.take n.toNat).length≤s.length:=by simp;omega
 refine⟨⟨QA,QA⟩,⟨QA,QC⟩,?_⟩;rw[hfe];have fY:=AI (s.take n.toNat) [13,10];obtain⟨r1,r2,r3,r4⟩:=cutR (s.take n.toNat);have p2:=tw (s.take n.toNat++[13,10]) [13,10] QC QD QD;rw[r1]at p2;have E5:=fun h=>EM (r:=s.take n.toNat) (p:=[13,10]) h
 have Aq:=fun h=>EL (r:=s.take n.toNat) (p:=[13,10]) h
 have p3:=D7 (Lib.cut (s.take n.toNat) [13,10]).1 QA;have hRl:(s.take n.toNat++[13,10]).length=(s.take n.toNat).length+2:=by simp
 generalize s.take n.toNat++[13,10]=R at r2 r3 p2 hRl ⊢;generalize Lib.cut (s.take n.toNat) [13,10]=c at p2 p3 e2 fY E5 Aq r2 r3 r4 ⊢;obtain⟨line,rest,more⟩:=c;simp only[zU1,zU4]at p2 p3 e2 fY E5 Aq r2 r3 r4 ⊢;rw[IN]at e2
 (refine aa (p2) ?_;refine gB (zUR zUT r2) ?_)
 refine⟨⟨QA,QA⟩,?_⟩;generalize Ct line=st at p3 e2;obtain⟨⟨m0,k0⟩,ok⟩:=st;unfold Km at p3;simp only at p3 e2;cases ok
 ·rw[if_neg QB]at e2
  (refine aa (p3) ?_;refine iC ?_)
  exact EY.err e2 (kD.app _)
 rw[if_pos rfl]at e2;simp only at e2;have i2:((line.length:Int)+2).toNat=line.length+2:=QA
 (refine aa (p3) ?_;refine gB (zUR i2 r3) ?_)
 refine⟨⟨QA,QA⟩,⟨QA,QA⟩,?_⟩;have G6:rest.length+(if more=true then 2 else 1)≤s.length+1:=by
  cases more
  ·have:=Aq rfl
   subst this;simp
  ·have:=E5 rfl;simp;omega
 generalize hG:fQ (s.length+1) rest more []=G at e2;have dJ:(bs++[aq.cells [.int .i64 0,.int .i64 0,.ai] 48 true]).length=bs.length+1:=by simp
 have b0:(bs++[aq.cells [.int .i64 0,.int .i64 0,.ai] 48 true]++[aq.cells [.int .i64 m0,.int .i64 k0,.ai] 48 true])[bs.length]? = some (.cells [.int .i64 0,.int .i64 0,.ai] 48 true):=ad (aB _ _) _;have b1:(bs++[aq.cells [.int .i64 0,.int .i64 0,.ai] 48 true]++[aq.cells [.int .i64 m0,.int .i64 k0,.ai] 48 true])[bs.length+1]? = some (.cells [.int .i64 m0,.int .i64 k0,.ai] 48 true):=by
  rw[← dJ];exact aB _ _
 rw[dJ];have BL:rest.length≤s.length:=by
  cases more
  ·rw[Aq rfl];simp
  ·have:=E5 rfl;omega
 refine ax (fun σ=>∃ (rest:Bytes) (more:Bool) (fs:List (Bytes × Bytes)) (x:SV) (F:Nat),
  lk 2 σ.t=some (.p bs.length 0)∧lk 6 σ.t=some (.int .i64 n)∧lk 7 σ.t=some (.str (sC rest more))∧lk 9 σ.t=some (.p (bs.length+1) 0) ∧
  σ.b[bs.length]? = some (.cells [.int .i64 0,.int .i64 0,.ai] 48 true)∧σ.b[bs.length+1]? = some (.cells [.int .i64 m0,.int .i64 k0,x] 48 true) ∧
  Kp bs σ.b∧mB 100 2 bs.length x σ.b (fs.flatMap fc) fs.length∧fs.length≤64∧rest.length≤4000000∧rest.length+(if more=true then 2 else 1)≤F∧fQ F rest more fs=G) (fun σ=>Lr 7 σ)
  ⟨rest,more,[],.ai,s.length+1,rfl,rfl,rfl,rfl,b0,b1,kD.app _,.inl ⟨rfl,rfl,rfl⟩,QB,QA,G6,hG⟩ ?_
 clear b0 b1 dJ G6 hG fY E5 Aq p1 p2 p3 BL r1 r2 r3 r4 hRl hfe i2;rintro⟨t,b⟩ ⟨rest,more,fs,x,F,g2,g6,g7,g9,b0,b1,bm,fH,h64,hr4,hF,hG⟩;simp only at g2 g6 g7 g9 b0 b1 bm fH;rw[kS g7];have jF:bs.length+1<b.length:=(zUS.1 b1).1;cases more
 ·obtain⟨F,rfl⟩:∃ f,F=f+1:=⟨F - 1,by simp at hF;omega⟩
  rw[tI]at hG;rw[← hG]at e2;simp only[if_true]at e2;have s0:∀ X,(b.set bs.length X)[bs.length]? = some X:=fun X=>zUU QA
  have ho:Vc.one x=true:=by rcases fH with⟨rfl,-⟩|⟨j,rfl,-⟩ <;> rfl
  have g7:lk 7 t=some (.str []):=g7;refine gB (zUR g2 (zUR g6 (zUR g7 (zUR g9 (zUR b0 (zUR b1 s0)))))) ?_;refine⟨⟨QA,QA⟩,ho,bm.set (zU7 _) _,x,by rw[e2],?_⟩;rw[e2];rcases fH with h|⟨j,rfl,hl,mG,hj⟩
  ·exact .inl h
  ·exact .inr ⟨j,rfl,hl,mG,by rw[zUY (by rintro rfl;rw[b0]at hj;cases hj)];exact hj⟩
 ·obtain⟨F,rfl⟩:∃ f,F=f+1:=⟨F - 1,by simp at hF;omega⟩
  simp only[if_true]at hF;have BR:=fun h=>EM (r:=rest) (p:=[13,10]) h
  have Hz:=fun h=>EL (r:=rest) (p:=[13,10]) h
  have fY:=AI rest [13,10];obtain⟨r1,r2,r3,r4⟩:=cutR rest;have CR:=fun h=>rm F rest (fs:=fs) h
  have dc:=fun h=>tJ F (r:=rest) (fs:=fs) h
  have dQ:=fun h x=>rh F (r:=rest) (fs:=fs) h (x:=x)
  rw[hG]at CR dc dQ;have p2:=tw (rest++[13,10]) [13,10] QC QD QD;rw[r1]at p2;have g7:lk 7 t=some (.str (rest++[13,10])):=g7;have bF:(rest++[13,10] != ([]:Bytes))=true:=by cases rest <;> rfl
  have hRl:(sC rest true).length=rest.length+2:=by simp[sC]
  rw[hRl];have hRl:(rest++[13,10]).length=rest.length+2:=by simp
  generalize rest++[13,10]=R at g7 bF r2 r3 p2 hRl;generalize Lib.cut rest [13,10]=c at p2 r2 r3 r4 BR Hz fY dc dQ;obtain⟨line,rest',more'⟩:=c;simp only[zU1,zU4]at p2 r2 r3 r4 BR Hz fY dc dQ;have hF':rest'.length+(if more'=true then 2 else 1)≤F:=by
   cases more'
   ·rw[Hz rfl];simp;omega
   ·have:=BR rfl;simp;omega
  have hr4':rest'.length≤4000000:=by
   cases more'
   ·rw[Hz rfl];simp
   ·have:=BR rfl;omega
  have Ey:(sC rest' more').length<rest.length+2:=by
   unfold sC;cases more'
   ·simp
   ·have:=BR rfl;simp;omega
  have d1:=bG line [58] QA QB;rw[pre58]at d1;have gz:=cO (·==58) line;have vJ:lh line=if (aL 58 line).2.2&&oh (aL 58 line).1&&fB (aL 58 line).2.1 then some (lower (aL 58 line).1,trimB (aL 58 line).2.1) else none:=rfl
  unfold aL at vJ;have i2:((line.length:Int)+2).toNat=line.length+2:=QA;have s0:∀ X,(b.set bs.length X)[bs.length]? = some X:=fun X=>zUU QA
  have dJ:((line.length:Nat):Int).toNat=line.length:=QA;have zz:G=([],180)→EY bs T (.eh [.agg [.int .i64 0,.int .i64 0,.ai],.int .i64 0,.int .i64 180]) (b.set bs.length (.cells [.int .i64 0,.int .i64 0,.ai] 48 true)):=fun h=>EY.err (by rw[e2,h];rfl) (bm.set (zU7 _) _)
  by_cases hcol:pre (·==58) line<line.length
  ·rw[if_pos hcol]at vJ
   simp only[Bool.true_and]at vJ;rw[vJ]at dc dQ;have de:((pre (·==58) line:Int)==line.length)=false:=by rw[beq_eq_false_iff_ne];omega
   have d2:=Gq (line.take (pre (·==58) line)) QC;have d3:=oe (line.drop (pre (·==58) line+1)) QC;have d4:=gU (line.take (pre (·==58) line)) QC;have d5:=CA (line.drop (pre (·==58) line+1)) QC;have ip:((pre (·==58) line:Nat):Int).toNat=pre (·==58) line:=QA;have ip1:(((pre (·==58) line:Nat):Int)+1).toNat=pre (·==58) line+1:=QA;generalize nL:line.take (pre (·==58) line)=key at d2 d4 dc dQ;generalize hvv:line.drop (pre (·==58) line+1)=v at d3 d5 dc dQ;rcases fH with⟨rfl,hc,hl⟩|⟨j,rfl,hl,mG,hj⟩
   ·obtain rfl:fs=[]:=zU0.1 hl
    have dc:=dc QB;have dQ:=dQ QB;generalize hn:oh key=nb at d2 dc dQ;generalize hv:fB v=vb at d3 dc dQ;refine gB (zUR g2 (zUR g6 (zUR g7 (zUR g9 (zUR b0 (zUR b1 bF)))))) ?_
    (refine aa (p2) ?_;refine gB (zUR g2 (zUR g6 (zUR g7 (zUR g9 (zUR b0 (zUR b1 (zUR dJ r2))))))) ?_)
    refine⟨⟨QA,QA⟩,?_⟩
    (refine aa (d1) ?_;refine gB (zUR g2 (zUR g6 (zUR g7 (zUR g9 (zUR b0 (zUR b1 (zUR de (zUR s0 (zUR ip ip1))))))))) ?_)
    refine⟨⟨QA,QA⟩,?_⟩;rw[nL];cases nb
    ·(refine aa (d2) ?_;refine gB (zUR g2 (zUR g6 (zUR g7 (zUR g9 (zUR b0 (zUR b1 s0)))))) ?_)
     exact zz (dc rfl)
    ·(refine aa (d2) ?_;refine gB (zUR g2 (zUR g6 (zUR g7 (zUR g9 (zUR b0 (zUR b1 (zUR s0 ip1))))))) ?_)
     refine⟨⟨QA,QA⟩,⟨QA,QA⟩,?_⟩;rw[hvv];cases vb
     ·(refine aa (d3) ?_;refine gB (zUR g2 (zUR g6 (zUR g7 (zUR g9 (zUR b0 (zUR b1 s0)))))) ?_)
      exact zz (dc rfl)
     ·have dQ:=dQ _ rfl
      (refine aa (d3) ?_;refine gB (zUR g2 (zUR g6 (zUR g7 (zUR g9 (zUR b0 (zUR b1 (zUR s0 (zUR ip ip1)))))))) ?_)
      refine⟨⟨QA,QA⟩,?_⟩;rw[nL];have u1:=fun X=>ad b1 [X]
      have v0:∀ X Y Z,((b++[X]++[Y]).set (bs.length+1) Z)[bs.length]? = some (.cells [.int .i64 0,.int .i64 0,.ai] 48 true):=fun X Y Z=>by rw[zUY QA];exact ad (ad b0 _) _
      have v2:∀ X Y,(b++[X]++[Y])[bs.length+1]? = some (.cells [.int .i64 m0,.int .i64 k0,.ai] 48 true):=fun X Y=>ad (ad b1 _) _
      have v3:∀ X Y Z,((b++[X]++[Y]).set (bs.length+1) Z)[bs.length+1]? = some Z:=fun X Y Z=>zUU QC
      have z1:(b.length=bs.length+1)=False:=by simp;omega
      have z2:∀ X,((b++[X]).length=bs.length+1)=False:=fun X=>QC
      (refine aW (d4) ?_;refine gB (zUR g2 (zUR g6 (zUR g7 (zUR g9 (zUR b0 (zUR b1 (zUR u1 (zUR v2 ip1)))))))) ?_)
      refine⟨⟨QA,QA⟩,⟨QA,QA⟩,?_⟩;rw[hvv]
      (refine aW (d5) ?_;refine gB (zUR g2 (zUR g6 (zUR g7 (zUR g9 (zUR b0 (zUR b1 (zUR u1 (zUR v2 (zUR i2 r3))))))))) ?_)
      refine⟨QA,⟨by unfold maxLen;omega,QA⟩,(by
       refine bt (fun n=>if n=bs.length+1 then 0 else 1) ?_;simp only[zU6,zVa,cz,dW,reduceIte,z1,z2];exact ao QE),⟨QA,QA⟩,⟨QA,QA⟩,?_⟩
      refine⟨⟨rest',more',[(lower key,trimB v)],_,F,rfl,v0 _ _ _,v3 _ _ _,((bm.app _).app _).set QA _,?_,QB,hr4',hF',dQ.symm⟩,?_⟩
      ·exact .inr ⟨_,rfl,QB,QC,by rw[zUY QC,aB];rfl⟩
      ·rw[kS (r:=sC rest' more') rfl];exact Ey
   ·have hjn:j≠bs.length+1:=by rintro rfl;rw[b1]at hj;cases hj
    have hjn0:j≠bs.length:=by rintro rfl;rw[b0]at hj;cases hj
    have e9:j<b.length:=(zUS.1 hj).1;refine gB (zUR g2 (zUR g6 (zUR g7 (zUR g9 (zUR b0 (zUR b1 (zUR bF s0))))))) ?_;refine⟨fun h=>EY.err (by rw[e2,CR (by have:=of_decide_eq_true h;omega)];rfl) (bm.set (zU7 _) _),fun h=>?_⟩;have h65:¬ 64≤fs.length:=by have:=of_decide_eq_false h;omega
    have dc:=dc h65;have dQ:=dQ h65;have ld:=Av fs;generalize hn:oh key=nb at d2 dc dQ;generalize hv:fB v=vb at d3 dc dQ
    (refine aa (p2) ?_;refine gB (zUR g2 (zUR g6 (zUR g7 (zUR g9 (zUR b0 (zUR b1 (zUR dJ r2))))))) ?_)
    refine⟨⟨QA,QA⟩,?_⟩
    (refine aa (d1) ?_;refine gB (zUR g2 (zUR g6 (zUR g7 (zUR g9 (zUR b0 (zUR b1 (zUR de (zUR s0 (zUR ip ip1))))))))) ?_)
    refine⟨⟨QA,QA⟩,?_⟩;rw[nL];cases nb
    ·(refine aa (d2) ?_;refine gB (zUR g2 (zUR g6 (zUR g7 (zUR g9 (zUR b0 (zUR b1 s0)))))) ?_)
     exact zz (dc rfl)
    ·(refine aa (d2) ?_;refine gB (zUR g2 (zUR g6 (zUR g7 (zUR g9 (zUR b0 (zUR b1 (zUR s0 ip1))))))) ?_)
     refine⟨⟨QA,QA⟩,⟨QA,QA⟩,?_⟩;rw[hvv];cases vb
     ·(refine aa (d3) ?_;refine gB (zUR g2 (zUR g6 (zUR g7 (zUR g9 (zUR b0 (zUR b1 s0)))))) ?_)
      exact zz (dc rfl)
     ·have dQ:=dQ _ rfl
      (refine aa (d3) ?_;refine gB (zUR g2 (zUR g6 (zUR g7 (zUR g9 (zUR b0 (zUR b1 (zUR s0 (zUR ip ip1)))))))) ?_)
      refine⟨⟨QA,QA⟩,?_⟩;rw[nL];have u1:=fun X=>ad b1 [X]
      have uj:=fun X=>ad hj [X]
      have v0:∀ X Y Z,(((b++[X]).set j .gone++[Y]).set (bs.length+1) Z)[bs.length]? = some (.cells [.int .i64 0,.int .i64 0,.ai] 48 true):=fun X Y Z=>by
       rw[zUY QA,List.getElem?_append_left QC,zUY QA];exact ad b0 _
      have v2:∀ X Y,((b++[X]).set j .gone++[Y])[bs.length+1]? = some (.cells [.int .i64 m0,.int .i64 k0,.o j fs.length] 48 true):=fun X Y=>by
       rw[List.getElem?_append_left QC,zUY QA];exact ad b1 _
      have v3:∀ X Y Z,(((b++[X]).set j .gone++[Y]).set (bs.length+1) Z)[bs.length+1]? = some Z:=fun X Y Z=>zUU QC
      have v4:∀ X Y Z A,(((b++[X]).set j .gone++[Y]).set (bs.length+1) Z)[(b++[A]).length]? = some Y:=fun X Y Z A=>by
       rw[zUY QC,show (b++[A]).length=((b++[X]).set j .gone).length by simp];exact aB _ _
      have z1:(b.length=bs.length+1)=False:=by simp;omega
      have z2:∀ X,((b++[X]).length=bs.length+1)=False:=fun X=>QC
      have z3:(j=bs.length+1)=False:=by simp;omega
      (refine aW (d4) ?_;refine gB (zUR g2 (zUR g6 (zUR g7 (zUR g9 (zUR b0 (zUR b1 (zUR hj (zUR u1 (zUR uj (zUR v2 ip1)))))))))) ?_)
      refine⟨⟨QA,QA⟩,⟨QA,QA⟩,?_⟩;rw[hvv]
      (refine aW (d5) ?_;refine gB (zUR g2 (zUR g6 (zUR g7 (zUR g9 (zUR b0 (zUR b1 (zUR hj (zUR u1 (zUR uj (zUR v2 (zUR i2 r3))))))))))) ?_)
      refine⟨QA,⟨by unfold maxLen;omega,QA⟩,(by
       refine bt (fun n=>if n=bs.length+1 then 0 else 1) ?_;simp only[zU6,zVa,cz,dW,reduceIte,z1,z2,z3];exact ao QE),⟨QA,QA⟩,⟨QA,QA⟩,?_⟩
      refine⟨⟨rest',more',fs++[(lower key,trimB v)],_,F,rfl,v0 _ _ _,v3 _ _ _,(((bm.app _).set mG _).app _).set QA _,?_,QC,hr4',hF',dQ.symm⟩,?_⟩
      ·have u3:(fs++[(lower key,trimB v)]).length=fs.length+1:=by simp
       rw[u3];exact .inr ⟨_,rfl,QA,QC,by rw[v4,List.flatMap_append];rfl⟩
      ·rw[kS (r:=sC rest' more') rfl];exact Ey
  ·rw[if_neg hcol]at vJ
   have vJ:lh line=none:=vJ;have de:((pre (·==58) line:Int)==line.length)=true:=by rw[beq_iff_eq];omega
   rcases fH with⟨rfl,hc,hl⟩|⟨j,rfl,hl,mG,hj⟩
   ·obtain rfl:fs=[]:=zU0.1 hl
    have dc:=dc QB vJ;refine gB (zUR g2 (zUR g6 (zUR g7 (zUR g9 (zUR b0 (zUR b1 bF)))))) ?_
    (refine aa (p2) ?_;refine gB (zUR g2 (zUR g6 (zUR g7 (zUR g9 (zUR b0 (zUR b1 (zUR dJ r2))))))) ?_)
    refine⟨⟨QA,QA⟩,?_⟩
    (refine aa (d1) ?_;refine gB (zUR g2 (zUR g6 (zUR g7 (zUR g9 (zUR b0 (zUR b1 (zUR de s0))))))) ?_)
    exact zz dc
   ·refine gB (zUR g2 (zUR g6 (zUR g7 (zUR g9 (zUR b0 (zUR b1 (zUR bF s0))))))) ?_
    refine⟨fun h=>EY.err (by rw[e2,CR (by have:=of_decide_eq_true h;omega)];rfl) (bm.set (zU7 _) _),fun h=>?_⟩;have h65:¬ 64≤fs.length:=by have:=of_decide_eq_false h;omega
    have dc:=dc h65 vJ
    (refine aa (p2) ?_;refine gB (zUR g2 (zUR g6 (zUR g7 (zUR g9 (zUR b0 (zUR b1 (zUR dJ r2))))))) ?_)
    refine⟨⟨QA,QA⟩,?_⟩
    (refine aa (d1) ?_;refine gB (zUR g2 (zUR g6 (zUR g7 (zUR g9 (zUR b0 (zUR b1 (zUR de s0))))))) ?_)
    exact zz dc
theorem Jg (u:bN)(hu:Fair u)(now:Int)(a:jD):PC QH 160 [.agg (ac a),cA u,.int .u64 now] (.bool (im u.host u.port (bK u) now a)):=by
 have p1:=mT u hu;refine aU 3000 func160 rfl ntmps160 results160 call160 QB (by simp[flat,flat.ah,ac,cA]) (by simp[flat,flat.ah,ac,cA]) ?_;unfold ac;unfold cA at p1 ⊢;refine bw ?_;refine⟨fun h1=>⟨fun h2=>?_,fun h2=>⟨(ao QE),?_⟩⟩,fun h1=>⟨(ao QE),?_⟩⟩
 ·(refine aW (p1) ?_;refine ly ?_)
  refine⟨fun h3=>⟨fun h4=>⟨fun h5=>⟨(ao QE),?_⟩,fun h5=>⟨(ao QE),?_⟩⟩,fun h4=>⟨(ao QE),?_⟩⟩,fun h3=>⟨(ao QE),?_⟩⟩;all_goals unfold im
  ·rw[h1,h2,h3,h4,h5];simp
  ·rw[h1,h2,h3,h4,h5];rfl
  ·rw[h1,h2,h3,h4];rfl
  ·rw[h1,h2,h3];rfl
 all_goals unfold im
 ·rw[h1,h2];rfl
 ·rw[h1];rfl
theorem IY {bs:List aq}{j:Nat}{L:List jD}{m:Bool}(hj:bs[j]? = some (.own (L.flatMap ac) 33 7 L.length m))(hL:L.length≤1000000)(u:bN)(hu:Fair u)(now:Int) :
 SC QH 99 [.o j L.length,cA u,.int .u64 now] bs (fun r b=>r=.eh [.str (bH L u now).1,.int .i64 (bH L u now).2]∧Kp bs b):=by
 have e9:j<bs.length:=(zUS.1 hj).1;have p1:=oX u hu;have pf:=Jg u hu now;refine bp 3000 func99 rfl ntmps99 results99 call99 QB (af bs.length _ (by simp[within,within.av,e9,cA])) ?_;unfold cA at p1 pf ⊢;refine JU ?_
 (refine aa (p1) ?_;refine JU ?_)
 refine⟨fun h=>⟨?_,(Kp.refl _).app _⟩,fun h=>?_⟩
 ·have h:bX u=false:=by simpa using h
  unfold bH;rw[if_pos h]
 have h:bX u=true:=by simpa using h
 have ea:bH L u now=nz (L.find? (im u.host u.port (bK u) now)):=by unfold bH;rw[if_neg (by rw[h];simp)]
 rw[ea];have hp:=ad hj [.cells (uc u) 35 true];have hc:=aB bs (.cells (uc u) 35 true);have hkp0:=(Kp.refl bs).app [.cells (uc u) 35 true];unfold uc at hp hc hkp0;generalize bs++[.cells [.str u.host,.int .i64 u.port,.str u.path,.str u.query,.str u.fragment,.bool u.aJ,.bool u.a8] 35 true]=bs2 at hp hc hkp0;refine ax (fun σ=>∃ k:Nat,k≤L.length∧lk 2 σ.t=some (.int .u64 now)∧lk 4 σ.t=some (.p bs.length 0)∧lk 13 σ.t=some (.o j L.length)∧lk 14 σ.t=some (.int .i64 L.length)∧lk 15 σ.t=some (.int .i64 k) ∧
  Kp bs2 σ.b∧∀ a∈L.take k,im u.host u.port (bK u) now a=false) (fun σ=>L.length - fA 15 σ) ⟨0,QA,rfl,rfl,rfl,rfl,rfl,Kp.refl _,QB⟩ ?_
 rintro⟨t,b⟩ ⟨k,hk,h2,h4,gO,oE,qp,bm,cn⟩;simp only at h2 h4 gO oE qp bm;rw[ak qp];have hb:=bm.at hp;have hcb:=bm.at hc;by_cases az:k<L.length
 ·have aK:decide ((k:Int)<L.length)=true:=QF
  have E3:=Lh L k az;have mI:=fF L;have ht:=zU9 az;have hfa:=pf L[k];have hfd:im u.host u.port (bK u) now L[k]=true→L.find? (im u.host u.port (bK u) now)=some L[k]:=fun h=>K4 az cn h
  generalize L[k]=a at E3 ht hfa hfd;unfold ac at hb E3 mI hfa;have HB:=fun X=>ad hcb [X]
  refine gC (zUR h2 (zUR h4 (zUR gO (zUR oE (zUR qp (zUR hb (zUR E3 (zUR mI (zUR aK (zUR zUT (zUR hcb HB))))))))))) ?_;refine⟨⟨QA,QA⟩,QA,?_⟩
  (refine aa (hfa) ?_;refine gC (zUR h2 (zUR h4 (zUR gO (zUR oE (zUR qp (zUR hcb HB)))))) ?_)
  have hK:=hkp0.trans (bm.app [.cells [.str a.host,.int .i64 a.port,.str a.target,.str a.raw,.int .i64 a.fail,.int .u64 a.since,.int .u64 a.Lq] 33 true]);refine⟨fun q0=>⟨⟨QA,QA⟩,⟨k+1,QA,rfl,bm.app _,?_⟩,?_⟩,fun q0=>?_⟩
  ·intro s hs
   rw[ht]at hs;rcases List.mem_append.1 hs with hs|hs
   ·exact cn s hs
   ·rw[List.mem_singleton.1 hs];simpa using q0
  ·rw[ak (k:=.i64) (n:=(k:Int)+1) rfl];omega
  ·rw[hfd (by simpa using q0)]
   refine⟨fun q1=>⟨?_,hK⟩,fun q1=>⟨fun q2=>⟨?_,hK⟩,fun q2=>⟨fun q3=>⟨?_,hK⟩,fun q3=>⟨fun q4=>⟨?_,hK⟩,fun q4=>⟨?_,hK⟩⟩⟩⟩⟩;all_goals simp only[beq_iff_eq,beq_eq_false_iff_ne,ne_eq]at *
   ·simp[nz,qf,q1]
   ·simp[nz,qf,q2]
   ·simp[nz,qf,q3]
   ·simp[nz,qf,q4]
   ·simp[nz,qf,q1,q2,q3,q4]
 ·have hU:k=L.length:=QA
  subst hU;rw[zU8]at cn;have aK:decide ((L.length:Int)<L.length)=false:=by simp
  rw[wU cn];refine gN (zUR h2 (zUR h4 (zUR gO (zUR oE (zUR qp (zUR hb aK)))))) ?_;exact⟨rfl,hkp0.trans bm⟩
theorem lL {e s:Nat}{x:SV}{b:List aq}{c:List SV}{n:Nat}(h:Sx e s x b c n):Vc.one x=true:=by rcases h with⟨rfl,-⟩|⟨j,m,rfl,-⟩ <;> rfl
def dS (f:fb)(st e en:Int):fb:=⟨f.next,f.dj,if en=0 then f.done else true,if en=0 then f.err else en,fJ.none,f.trace++[(f.next,st,e)],f.seen⟩
theorem Dv {bs:List aq}(f:fb){xs xt xf:SV}(hs:Sx 35 7 xs bs (f.seen.flatMap uc) f.seen.length)(ht:Sx 62 9 xt bs (f.trace.flatMap ec) f.trace.length)(hf:Sx 100 2 xf bs (f.fC.fields.flatMap fc) f.fC.fields.length)(hl:f.trace.length≤1000)(st e en:Int) :
 SC QH 100 [.agg (cB f xs xt xf),.int .i64 st,.int .i64 e,.int .i64 en] bs (fun r b=>∃ yt,r=.agg (cB (dS f st e en) xs yt .ai)∧Kp bs b∧mB 62 9 bs.length yt b ((dS f st e en).trace.flatMap ec) (dS f st e en).trace.length):=by
 have hsw:=hs.within;have htw:=ht.within;have hfw:=hf.within;have xP:=lL hs;have yH:=lL ht;have vJ:=lL hf;refine bp 3000 func100 rfl ntmps100 results100 call100 QB (af bs.length _ (by simp[cB,cR,uc,within,within.av,hsw,htw,hfw])) ?_;unfold cB cR uc;simp only[zUW,zUX];rcases ht with⟨rfl,hc,hn⟩|⟨j,m,rfl,hn,hj⟩
 ·refine gA (zUR xP vJ) ?_
  obtain kj:f.trace=[]:=zU0.1 hn;refine⟨QA,⟨by unfold maxLen;omega,QA⟩,by(refine bt (fun n=>n - bs.length) ?_;simp only[zU6,zVa,cz,dW,zVd,Nat.sub_self,if_true];exact ao QE),fun h=>⟨.o (bs.length+3) 1,?_,(Kp.refl bs).app _,?_⟩,fun h=>⟨.o (bs.length+3) 1,?_,(Kp.refl bs).app _,?_⟩⟩
  ·simp[dS,show ¬ en=0 by simpa using h,fJ.none,bN.none]
  ·rw[show (dS f st e en).trace=[(f.next,st,e)] by simp[dS,kj]]
   exact .inr ⟨_,rfl,QB,QA,by rw[aY];rfl⟩
  ·simp[dS,show en=0 by simpa using h,fJ.none,bN.none]
  ·rw[show (dS f st e en).trace=[(f.next,st,e)] by simp[dS,kj]]
   exact .inr ⟨_,rfl,QB,QA,by rw[aY];rfl⟩
 ·refine gA (zUR xP (zUR vJ (ad hj))) ?_
  have fU:j<bs.length:=(zUS.1 hj).1;have n0:∀ q,(bs.length+q=j)=False:=fun q=>eq_false QA
  have n2:(bs.length=j)=False:=eq_false QA;have u3:(dS f st e en).trace.length=f.trace.length+1:=by simp[dS]
  rw[u3];refine⟨QA,⟨by unfold maxLen;omega,QA⟩,?_,fun h=>⟨.o (bs.length+3) (f.trace.length+1),?_,(Kp.refl bs).app _,?_⟩,fun h=>⟨.o (bs.length+3) (f.trace.length+1),?_,(Kp.refl bs).app _,?_⟩⟩
  ·refine bt (fun n=>if n=j then 20 else n - bs.length) ?_
   simp only[zU6,zVa,cz,dW,zVd,Nat.sub_self,n0,n2,eq_self,if_true,if_false];exact ao QE
  ·simp[dS,show ¬ en=0 by simpa using h,fJ.none,bN.none]
  ·exact .inr ⟨_,rfl,QA,QA,by rw[aY];simp[dS,ec,uc]⟩
  ·simp[dS,show en=0 by simpa using h,fJ.none,bN.none]
  ·exact .inr ⟨_,rfl,QA,QA,by rw[aY];simp[dS,ec,uc]⟩
theorem kL {bs b:List aq}(h:Kp bs b){e s:Nat}{x:SV}{c:List SV}{n:Nat}(hx:Sx e s x bs c n):Sx e s x b c n:=by
 rcases hx with h1|⟨j,m,h1,h0,h2⟩
 ·exact .inl h1
 ·exact .inr ⟨j,m,h1,h0,h.at h2⟩
theorem DA {bs:List aq}{x:SV}{fs:List (Bytes × Bytes)}(hx:Sx 100 2 x bs (fs.flatMap fc) fs.length)(hn:fs.length≤64)(hl:cF fs≤16384)(a st:Int)(rest:Bytes)(most:Int)(hr:rest.length≤4000000)(tU:-9223372036854775808≤most)(CS:most≤9223372036854775807) :
 SC QH 103 [.agg [.int .i64 a,.int .i64 st,x],.str rest,.int .i64 most] bs (fun r b=>r=.eh [.str (fw st fs rest most).1,.int .i64 (fw st fs rest most).2]∧Kp bs b):=by
 have h1:=rP fs so;have h2:=rP fs tQ;have h3:∀ f∈fs,f.1.length≤9223372036854775807:=fun f hf=>by have:=q7 f hf;omega
 rcases hx with⟨rfl,hc,h0⟩|⟨j,m,rfl,h0,hj⟩
 ·obtain rfl:fs=[]:=zU0.1 h0
  refine oQ (args':=[.agg [.int .i64 a,.int .i64 st,.o bs.length 0],.str rest,.int .i64 most]) (e:=100) (s:=2) (m:=false) ((xu (fs:=[]) (m:=false) (aB _ _) QB h3 a st rest most hr tU CS QA QA).mono fun r b h=>⟨h.1,Kp.rI h.2⟩) (fun β=>?_);simp[aZ,aj,qh,oV]
 ·exact xu hj QA h3 a st rest most hr tU CS QA QA
theorem Dx {bs:List aq}{x:SV}{fs:List (Bytes × Bytes)}(hx:Sx 100 2 x bs (fs.flatMap fc) fs.length)(hn:fs.length≤64)(hl:cF fs≤16384)(a c:Int)
 {sn:SV} {L:List bN} (hi:Sx 35 7 sn bs (L.flatMap uc) L.length) (hL:L.length≤1000000) (u:bN) (fu:Fair u) (dj:Int) :
 SC QH 102 [cA u,.agg [.int .i64 a,.int .i64 c,x],sn,.int .i64 dj] bs (fun r b=>r=.eh [cA (bT u fs L dj).1,.int .i64 (bT u fs L dj).2]∧Kp bs b):=by
 have h3:∀ f∈fs,f.1.length≤9223372036854775807:=fun f hf=>by have:=q7 f hf;omega
 rcases hx with⟨rfl,hc,h0⟩|⟨j,m,rfl,h0,hj⟩
 ·obtain rfl:fs=[]:=zU0.1 h0
  refine oQ (args':=[cA u,.agg [.int .i64 a,.int .i64 c,.o bs.length 0],sn,.int .i64 dj]) (e:=100) (s:=2) (m:=false) ((xr (fs:=[]) (m:=false) (aB _ _) QB h3 a c (hi.app _).sq hL u fu dj).mono fun r b h=>⟨h.1,Kp.rI h.2⟩) (fun β=>?_);rcases hi with⟨rfl,-⟩|⟨j,m,rfl,-,hj⟩
  ·simp[aZ,aj,qh,oV,cA]
  ·have:=(zUS.1 hj).1
   simp[aZ,aj,qh,oV,cA,Nat.ne_of_lt this]
 ·exact xr hj QA h3 a c hi.sq hL u fu dj
def FsX (T:fb)(r:SV)(b:List aq):Prop:=∃ ys yt yf,r=.agg (cB T ys yt yf)∧Sx 35 7 ys b (T.seen.flatMap uc) T.seen.length∧Sx 62 9 yt b (T.trace.flatMap ec) T.trace.length∧Sx 100 2 yf b (T.fC.fields.flatMap fc) T.fC.fields.length
theorem NN {L:List jD}{now:Int}{f:fb}(hd:f.done=false){q:fJ}{st e:Int}(h:bO L now f.next=(q,st,e))(he:e≠0):bP L now f=dS f st e e:=by
 unfold bP dS;rw[hd,h,if_neg QB,if_neg (by simp[he]),if_pos he,if_neg he,if_neg he]
theorem NM {L:List jD}{now:Int}{f:fb}(hd:f.done=false){q:fJ}{st:Int}(h:bO L now f.next=(q,st,0))(hs:fZ st=true)(hn:(bT f.next q.fields f.seen f.dj).2≠0):bP L now f=dS f st 0 (bT f.next q.fields f.seen f.dj).2:=by
 unfold bP dS;rw[hd,h,if_neg QB,if_pos ⟨rfl,hs⟩,if_neg hn,if_neg hn,if_neg hn]
theorem step_go {L:List jD}{now:Int}{f:fb}(hd:f.done=false){q:fJ}{st:Int}(h:bO L now f.next=(q,st,0))(hs:fZ st=true)(hn:(bT f.next q.fields f.seen f.dj).2=0):bP L now f=⟨(bT f.next q.fields f.seen f.dj).1,f.dj+1,false,f.err,fJ.none,f.trace++[(f.next,st,0)],f.seen++[(bT f.next q.fields f.seen f.dj).1]⟩:=by
 unfold bP;rw[hd,h,if_neg QB,if_pos ⟨rfl,hs⟩,if_pos hn]
theorem step_end {L:List jD}{now:Int}{f:fb}(hd:f.done=false){q:fJ}{st:Int}(h:bO L now f.next=(q,st,0))(hs:fZ st=false):bP L now f=⟨f.next,f.dj,true,f.err,q,f.trace++[(f.next,st,0)],f.seen⟩:=by
 unfold bP;rw[hd,h,if_neg QB,if_neg (by simp[hs]),if_neg QB]
theorem FL {bs:List aq}{j:Nat}{L:List jD}{m:Bool}(hj:bs[j]? = some (.own (L.flatMap ac) 33 7 L.length m))(hL:L.length≤1000000)(hr:∀ a∈L,a.raw.length≤4000000)(now:Int)(f:fb)(hu:f.done=false→Fair f.next)(hh:-9223372036854775808≤f.dj∧f.dj≤1000)
 {xs xt xf:SV} (hs:Sx 35 7 xs bs (f.seen.flatMap uc) f.seen.length) (ht:Sx 62 9 xt bs (f.trace.flatMap ec) f.trace.length) (hf:Sx 100 2 xf bs (f.fC.fields.flatMap fc) f.fC.fields.length)
 (l1:f.seen.length≤900) (l2:f.trace.length≤900) :
 SC QH 47 [.o j L.length,.int .u64 now,.agg (cB f xs xt xf)] bs (fun r b=>Kp bs b∧FsX (bP L now f) r b):=by
 have e9:j<bs.length:=(zUS.1 hj).1;have dJ:=sP (f:=f) hs.within ht.within hf.within;have xP:=lL hs;have yH:=lL ht;have vJ:=lL hf;refine bp 3000 func47 rfl ntmps47 results47 call47 QB (af bs.length _ (by simp[within,within.av,e9,dJ])) ?_;have n1:=fun(B:List aq) h1 h2 h3 st e en=>Dv (bs:=B) f (xs:=xs) (xt:=xt) (xf:=xf) h1 h2 h3 QA st e en
 unfold cB cR uc at n1 ⊢;simp only[zUW,zUX]at n1 ⊢;by_cases hd:f.done=true
 ·have hT:bP L now f=f:=by unfold bP;rw[if_pos hd]
  rw[hT];refine gA (zUR hd (zUR xP (zUR yH vJ))) ?_;have hk:=fun X=>(Kp.refl bs).app X
  exact⟨hk _,xs,xt,xf,by simp[cB,cR,uc,hd],kL (hk _) hs,kL (hk _) ht,kL (hk _) hf⟩
 replace hd:f.done=false:=by simpa using hd
 simp only[hd]at n1;have a1:=fun X Y=>cY (by simp[flat,flat.ah]) (IY (bs:=bs++[X,Y]) (ad hj _) hL f.next (hu hd) now)
 have hra:=Lg (u:=f.next) (now:=now) hr;have h1:=fun q st e h he=>NN (L:=L) (now:=now) hd (q:=q) (st:=st) (e:=e) h he
 have h2:=fun q st h hs hn=>NM (L:=L) (now:=now) hd (q:=q) (st:=st) h hs hn
 have h3:=fun q st h hs hn=>step_go (L:=L) (now:=now) hd (q:=q) (st:=st) h hs hn
 have h4:=fun q st h hs=>step_end (L:=L) (now:=now) hd (q:=q) (st:=st) h hs
 generalize bP L now f=T at h1 h2 h3 h4 ⊢;generalize hT:bO L now f.next=RP at h1 h2 h3 h4;unfold bO at hT;unfold cA at a1;generalize bH L f.next now=A at a1 hra hT;obtain⟨raw,e⟩:=A;simp only at a1 hra hT;refine gA (zUR hd (zUR xP (zUR yH vJ))) ?_;refine ae (a1 _ _) ?_;rintro r b ⟨rfl,rfl⟩;refine gA (zUR hd (zUR xP (zUR yH vJ))) ?_;refine⟨fun q=>?_,fun q=>?_⟩
 ·have q:e≠0:=by simpa using q
  rw[if_pos q]at hT;have Pv:=h1 _ _ _ hT.symm q;refine ae (n1 _ (hs.app _) (ht.app _) (hf.app _) 0 e e) ?_;rintro r b ⟨yt,rfl,hk,fH⟩;have c1:=hk.at (aY bs _ 1);have gp:=((Kp.refl bs).app _).trans hk;have yi:Vc.one yt=true:=fH.one;have hso':=xP;have jF:=(zUS.1 c1).1;have t1:∀ X,(b.set (bs.length+1) X)[bs.length+1]? = some X:=fun X=>zUU jF
  refine gA (zUR c1 (zUR t1 (zUR xP yi))) ?_;rw[Pv];refine⟨gp.set QA _,xs,yt,.ai,rfl,?_,?_,.inl ⟨rfl,rfl,rfl⟩⟩
  ·exact(kL gp hs).dv c1 _
  ·exact(fH.sx).dv c1 _
 have q:e=0:=by simpa using q
 subst q;rw[if_neg QB]at hT;have gz:=lf raw;have sh:=fun X Y=>DB (bs:=bs++[X,Y]) raw hra
 generalize bL raw=H at gz sh hT;obtain⟨⟨m0,st,fs⟩,n,e2⟩:=H;simp only at gz sh hT;refine ae (sh _ _) ?_;rintro r b ⟨hk,x,rfl,fH⟩;simp only at fH;have c0:=hk.at (aM bs _);have c1:=hk.at (aY bs _ 1);have gp:=((Kp.refl bs).app _).trans hk;have jF:=(zUS.1 c1).1;have ho:=fH.one;have t1:∀ (l:List aq) X,(b++l).set (bs.length+1) X=b.set (bs.length+1) X++l:=fun l X=>aQ jF l X
 have t10:∀ X (l:List aq),(b.set (bs.length+1) X++l)[bs.length+1]? = some X:=fun X l=>bV jF X l
 have sx1:=fun X=>(fH.sx).app X
 have sxs:=fun X=>(kL gp hs).app X
 have sxt:=fun X=>(kL gp ht).app X
 have sxf:=fun X=>(kL gp hf).app X
 refine gA (zUR c0 (zUR c1 (zUR (ad c0) (zUR (ad c1) ho)))) ?_;refine⟨fun q=>?_,fun q=>?_⟩
 ·have q:e2≠0:=by simpa using q
  rw[if_pos q]at hT;have Pv:=h1 _ _ _ hT.symm q;refine ae (n1 _ (sxs _) (sxt _) (sxf _) 0 e2 e2) ?_;rintro r b' ⟨yt,rfl,hk',hsl'⟩;have d1:=hk'.at (ad c1 _);have hkb':=(gp.app _).trans hk';have yi:=hsl'.one;have hbl':=(zUS.1 d1).1;have t2:∀ X,(b'.set (bs.length+1) X)[bs.length+1]? = some X:=fun X=>zUU hbl'
  refine gA (zUR d1 (zUR t2 (zUR xP yi))) ?_;rw[Pv];refine⟨hkb'.set QA _,xs,yt,.ai,rfl,?_,?_,.inl ⟨rfl,rfl,rfl⟩⟩
  ·exact(kL hkb' hs).dv d1 _
  ·exact(hsl'.sx).dv d1 _
 have q:e2=0:=by simpa using q
 subst q;rw[if_neg QB]at hT;have p2:=Oo st;cases Ep:fZ st
 ·rw[Ep]at p2 hT
  simp only[Bool.false_eq_true,if_false]at hT
  (refine aa (p2) ?_;refine gA (zUR c0 c1) ?_)
  have s3:=fun X=>cY (by simp[flat,flat.ah]) (DA (bs:=b++[X]) (sx1 _) gz.1 gz.2.1 m0 st (raw.drop n.toNat) 1048576 QC QA QA)
  generalize fw st fs (raw.drop n.toNat) 1048576=B at s3 hT;obtain⟨bd,e3⟩:=B;simp only at s3 hT;refine⟨⟨QA,QA⟩,?_⟩;refine bE [] (s3 _) (fun _ _ _=>rfl) ?_;refine gA (zUR (ad c0) (ad c1)) ?_;refine⟨(ao QE),?_⟩;refine ae (n1 _ (sxs _) (sxt _) (sxf _) st e3 e3) ?_;rintro r b' ⟨yt,rfl,hk',hsl'⟩;have d0:=hk'.at (ad c0 _);have d1:=hk'.at (ad c1 _);have d2:=hk'.at (aM b _);have hkb':=(gp.app _).trans hk';have yi:=hsl'.one;have hbl':=(zUS.1 d1).1;have dK:=(zUS.1 d0).1;have t2:∀ X,(b'.set bs.length X)[bs.length]? = some X:=fun X=>zUU dK
  have t3:∀ X,(b'.set bs.length X)[bs.length+1]? = _:=fun X=>aw d1 QA X
  have t4:∀ X,(b'.set bs.length X)[b.length]? = _:=fun X=>aw d2 QA X
  have t5:∀ X Y,((b'.set bs.length X).set (bs.length+1) Y)[bs.length+1]? = some Y:=fun X Y=>zUU (by simpa using hbl')
  have ss:∀ X Y,(b'.set bs.length X).set bs.length Y=b'.set bs.length Y:=fun X Y=>List.set_set ..
  by_cases h0:e3=0
  ·subst h0
   have Pv:=h4 _ _ hT.symm Ep;rw[Pv];have hnt:(dS f st 0 0).trace=f.trace++[(f.next,st,0)]:=rfl;rw[hnt]at hsl';have hsxx:=fun X=>(kL ((Kp.refl b).app X) fH.sx)
   have iO:Sx 100 2 x b' (fs.flatMap fc) fs.length:=kL hk' (hsxx _);refine gA (zUR d0 (zUR d1 (zUR d2 (zUR t2 (zUR t3 (zUR t4 (zUR t5 (zUR xP (zUR yi (zUR ho ss)))))))))) ?_;have w0:(b.length=bs.length)=False:=eq_false QA;refine⟨(by
    refine bt (fun n=>if n=bs.length then 0 else 1) ?_;simp only[zU6,zVa,cz,dW,reduceIte,w0];exact ao QE),(hkb'.set QA _).set QA _,xs,yt,x,rfl,?_,?_,?_⟩
   ·exact((kL hkb' hs).dv d0 _).dv (t3 _) _
   ·exact((hsl'.sx).dv d0 _).dv (t3 _) _
   ·exact(iO.dv d0 _).dv (t3 _) _
  ·have d3:(e3==0)=false:=beq_eq_false_iff_ne.2 h0
   have Pv:=h1 _ _ _ hT.symm h0;rw[Pv];refine gA (zUR d0 (zUR d1 (zUR d2 (zUR t2 (zUR t3 (zUR t4 (zUR t5 (zUR xP (zUR yi (zUR ho (zUR ss d3))))))))))) ?_;refine⟨(hkb'.set QA _).set QA _,xs,yt,.ai,rfl,?_,?_,.inl ⟨rfl,rfl,rfl⟩⟩
   ·exact((kL hkb' hs).dv d0 _).dv (t3 _) _
   ·exact((hsl'.sx).dv d0 _).dv (t3 _) _
 ·rw[Ep]at p2 hT
  simp only[if_true]at hT
  (refine aa (p2) ?_;refine gA (zUR (ad c0) (ad c1)) ?_)
  have s3:=fun X=>cY (by simp[cA,flat,flat.ah]) (Dx (bs:=b++[X]) (sx1 _) gz.1 gz.2.1 m0 st (sxs _) QA f.next (hu hd) f.dj)
  have h2:=h2 _ _ hT.symm Ep;have h3:=h3 _ _ hT.symm Ep;simp only at h2 h3;generalize bT f.next fs f.seen f.dj=N at s3 h2 h3;obtain⟨u2,e3⟩:=N;unfold cA at s3;simp only at s3 h2 h3;refine ae (s3 _) ?_;rintro r b2 ⟨rfl,rfl⟩;refine gA (zUR (ad c0) (ad c1)) ?_;refine ae (n1 _ (sxs _) (sxt _) (sxf _) st 0 e3) ?_;rintro r b' ⟨yt,rfl,hk',hsl'⟩;have d0:=hk'.at (ad c0 _);have d1:=hk'.at (ad c1 _);have d2:=hk'.at (aM b _);have d4:=hk'.at (aY b _ 1);have hkb':=(gp.app _).trans hk';have yi:=hsl'.one;have hbl':=(zUS.1 d1).1;have dK:=(zUS.1 d0).1;have pc:=(zUS.1 d4).1;have t2:∀ X,(b'.set bs.length X)[bs.length]? = some X:=fun X=>zUU dK
  have t3:∀ X,(b'.set bs.length X)[bs.length+1]? = _:=fun X=>aw d1 QA X
  have t4:∀ X,(b'.set bs.length X)[b.length+1]? = _:=fun X=>aw d4 QA X
  have t5:∀ X Y,((b'.set bs.length X).set (bs.length+1) Y)[bs.length+1]? = some Y:=fun X Y=>zUU (by simpa using hbl')
  have ss:∀ X Y,(b'.set bs.length X).set bs.length Y=b'.set bs.length Y:=fun X Y=>List.set_set ..
  by_cases h0:e3=0
  ·subst h0
   have Pv:=h3 rfl;rw[Pv];have hnt:(dS f st 0 0).trace=f.trace++[(f.next,st,0)]:=rfl;rw[hnt]at hsl';have hxs:=kL hkb' hs;refine gA (zUR d0 (zUR yi xP)) ?_;obtain⟨c,hc⟩:∃ c,b'.set bs.length (.cells (cB (dS f st 0 0) xs yt .ai) 58 true)=c:=⟨_,rfl⟩;have f0:c[bs.length]? = some (.cells (cB (dS f st 0 0) xs yt .ai) 58 true):=hc ▸ t2 _;have f1:=t3 (.cells (cB (dS f st 0 0) xs yt .ai) 58 true);have f2:=t4 (.cells (cB (dS f st 0 0) xs yt .ai) 58 true);have f3:Kp bs c:=hc ▸ hkb'.set (zU7 bs.length) _;have f4:Sx 35 7 xs c (f.seen.flatMap uc) f.seen.length:=hc ▸ hxs.dv d0 _;have f5:Sx 62 9 yt c ((f.trace++[(f.next,st,0)]).flatMap ec) (f.trace++[(f.next,st,0)]).length:=hc ▸ (hsl'.sx).dv d0 _;have f6:b.length+2≤c.length:=by rw[← hc,List.length_set];exact pc
   have hkb2:bs.length+2≤b.length:=jF;rw[hc]at f1 f2;unfold cB cR uc at hc f0;simp only[zUW,zUX]at hc f0;rw[hc];clear hc hk' d0 d1 d2 d4 hbl' dK pc t2 t3 t4 t5 ss hsl' hxs sx1 sxs sxt sxf n1 s3 c0 c1 hkb';have hnh:(dS f st 0 0).dj=f.dj:=rfl;have g0:∀ (l:List aq) X,(c++l).set bs.length X=c.set bs.length X++l:=fun l X=>aQ QA l X
   have ss:∀ X Y,(c.set bs.length X).set bs.length Y=c.set bs.length Y:=fun X Y=>List.set_set ..
   have g1:∀ X (l:List aq),(c.set bs.length X++l)[bs.length]? = some X:=fun X l=>bV QA X l
   have g2:∀ X (l:List aq),(c.set bs.length X++l)[bs.length+1]? = _:=fun X l=>ad (aw f1 QA X) l
   have g3:∀ X (l:List aq) Y,(c.set bs.length X++l).set (bs.length+1) Y=(c.set bs.length X).set (bs.length+1) Y++l:=fun X l Y=>aQ QC l Y
   have g4:∀ X (l:List aq) Y,((c.set bs.length X).set (bs.length+1) Y++l)[bs.length+1]? = some Y:=fun X l Y=>bV QC Y l
   have g5:∀ X (l:List aq) Y,(c.set bs.length X++l).set bs.length Y=c.set bs.length Y++l:=fun X l Y=>by rw[aQ QC,List.set_set]
   have w0:(b.length+1=bs.length)=False:=eq_false QA;have w1:∀ q,(c.length+q=bs.length)=False:=fun q=>eq_false QA
   have w2:(c.length=bs.length)=False:=eq_false QA;rcases f4 with⟨rfl,Np,hn⟩|⟨js,ms,rfl,hn,hjs⟩
   ·refine gA (zUR f0 (zUR f1 (zUR f2 (zUR (ad f0) (zUR (ad f1) (zUR (ad f2) (zUR yi (zUR g0 (zUR g1 (zUR g2 (zUR g3 (zUR g4 (zUR g5 (zUR ss hnh)))))))))))))) ?_
    have w3:∀ q,(c.length+q=b.length+1)=False:=fun q=>eq_false QA
    have w4:(c.length=b.length+1)=False:=eq_false QA;refine⟨⟨QA,QA⟩,QA,⟨by unfold maxLen;omega,QA⟩,?_,((f3.set (zU7 _) _).set QA _).app _,.o (c.length+1) 1,yt,.ai,by simp[cB,cR,uc,dS,hd],?_,?_,.inl ⟨rfl,rfl,rfl⟩⟩
    ·refine bt (fun n=>if n=bs.length then 0 else if n=b.length+1 then 1 else n - c.length+2) ?_
     simp only[zU6,zVa,cz,dW,zVd,Nat.sub_self,w0,w1,w2,w3,w4,eq_self,if_true,if_false];exact ao QE
    ·have kN:f.seen=[]:=zU0.1 hn
     rw[kN];exact .inr ⟨_,true,rfl,QB,by rw[zVh QB];simp[uc]⟩
    ·exact((f5.dv f0 _).dv (aw f1 QA _) _).app _
   ·refine gA (zUR f0 (zUR f1 (zUR f2 (zUR (ad f0) (zUR (ad f1) (zUR (ad f2) (zUR hjs (zUR (ad hjs) (zUR yi (zUR g0 (zUR g1 (zUR g2 (zUR g3 (zUR g4 (zUR g5 (zUR ss hnh)))))))))))))))) ?_
    have w3:∀ q,(c.length+q=b.length+1)=False:=fun q=>eq_false QA
    have w4:(c.length=b.length+1)=False:=eq_false QA;have hjl3:js<c.length:=(zUS.1 hjs).1;have KT:js≠bs.length:=by rintro rfl;rw[f0]at hjs;cases hjs
    have hjb2:js≠b.length+1:=by rintro rfl;rw[f2]at hjs;cases hjs
    have w5:(js=bs.length)=False:=eq_false KT;have w6:(js=b.length+1)=False:=eq_false hjb2;have w7:∀ q,(c.length+q=js)=False:=fun q=>eq_false QA
    have w8:(c.length=js)=False:=eq_false QA;have u3:(f.seen++[u2]).length=f.seen.length+1:=by simp
    refine⟨⟨QA,QA⟩,QA,⟨by unfold maxLen;omega,QA⟩,?_,((f3.set (zU7 _) _).set QA _).app _,.o (c.length+1) (f.seen.length+1),yt,.ai,by simp[cB,cR,uc,dS,hd],?_,?_,.inl ⟨rfl,rfl,rfl⟩⟩
    ·refine bt (fun n=>if n=bs.length then 0 else if n=b.length+1 then 1 else if n=js then 9 else n - c.length+2) ?_
     simp only[zU6,zVa,cz,dW,zVd,Nat.sub_self,w0,w1,w2,w3,w4,w5,w6,w7,w8,eq_self,if_true,if_false];exact ao QE
    ·simp only
     rw[u3];exact .inr ⟨_,true,rfl,QA,by rw[zVh QB];simp[uc]⟩
    ·exact((f5.dv f0 _).dv (aw f1 QA _) _).app _
  ·have d3:(e3==0)=false:=beq_eq_false_iff_ne.2 h0
   have Pv:=h2 h0;rw[Pv];refine gA (zUR d0 (zUR d1 (zUR d2 (zUR t2 (zUR t3 (zUR t4 (zUR t5 (zUR xP (zUR yi (zUR ho (zUR ss d3))))))))))) ?_;refine⟨(hkb'.set QA _).set QA _,xs,yt,.ai,rfl,?_,?_,.inl ⟨rfl,rfl,rfl⟩⟩
   ·exact((kL hkb' hs).dv d0 _).dv (t3 _) _
   ·exact((hsl'.sx).dv d0 _).dv (t3 _) _
theorem Dw {bs:List aq}(u:bN)(hu:Fair u) :
 SC QH 46 [.agg (uc u)] bs (fun r b=>Kp bs b∧∃ ys,r=.agg (cB (bD u) ys .ai .ai)∧Sx 35 7 ys b ((bD u).seen.flatMap uc) (bD u).seen.length):=by
 have p1:=oX u hu;have p2:=Cy u;refine bp 3000 func46 rfl ntmps46 results46 call46 QB (af bs.length _ (by simp[within,within.av,uc])) ?_;unfold cA at p1 p2;unfold uc;generalize hT:bD u=T;unfold bD at hT;cases hv:bX u
 ·rw[hv]at p1 hT
  simp only[if_true]at hT;refine dY ?_
  (refine aa (p1) ?_;refine gA zUZ ?_)
  subst hT;exact⟨(Kp.refl _).app _,.ai,rfl,.inl ⟨rfl,rfl,rfl⟩⟩
 ·rw[hv]at p1 hT
  simp only[Bool.true_eq_false,if_false]at hT;subst hT;generalize u.bare=v at p2;refine dY ?_
  (refine aa (p1) ?_;refine gA zU3 ?_)
  (refine aa (p2) ?_;refine dY ?_)
  refine⟨QA,(Kp.refl _).app _,.o (bs.length+2) 1,rfl,.inr ⟨_,true,rfl,QB,?_⟩⟩;rw[aY];simp[uc]
theorem IX {bs:List aq}{j:Nat}{L:List jD}{m:Bool}(hj:bs[j]? = some (.own (L.flatMap ac) 33 7 L.length m))(hL:L.length≤1000000)(hr:∀ a∈L,a.raw.length≤4000000)(now:Int)(u:bN)(hu:Fair u) :
 SC QH 17 [.o j L.length,.int .u64 now,.agg (uc u)] bs (fun r b=>Kp bs b∧∃ yt yf,r=.eh [.agg (cR (aA L now u 6).fC yf yt),.int .i64 (aA L now u 6).err]∧Sx 62 9 yt b ((aA L now u 6).trace.flatMap ec) (aA L now u 6).trace.length∧Sx 100 2 yf b ((aA L now u 6).fC.fields.flatMap fc) (aA L now u 6).fC.fields.length):=by
 have e9:j<bs.length:=(zUS.1 hj).1;have s1:=fun X Y=>Dw (bs:=bs++[X,Y]) u hu
 refine bp 3000 func17 rfl ntmps17 results17 call17 QB (af bs.length _ (by simp[within,within.av,e9,uc])) ?_;have mH:aA L now u 0=bD u:=rfl;have KZ:∀ k,aA L now u (k+1)=bP L now (aA L now u k):=fun _=>rfl
 have ro:=fun k=>F0 L now (u:=u) (k:=k)
 have rl:=fun k=>F1 L now (u:=u) (k:=k)
 generalize aA L now u=A at mH KZ ro rl ⊢;generalize hF:A 6=F;unfold uc at s1 ⊢;refine dY ?_;refine ae (s1 _ _) ?_;rintro r b ⟨hk,ys,rfl,fH⟩;have a1:=hk.at (aY bs _ 1);have kb:=((Kp.refl bs).app _).trans hk;have jF:bs.length+1<b.length:=(zUS.1 a1).1;clear hk s1;have vI:=lL fH;unfold cB cR uc;simp only[zUW,zUX];refine gA vI ?_;have jg:(bD u).trace=[]∧(bD u).fC=fJ.none:=by unfold bD;split <;> exact⟨rfl,rfl⟩
 have u1:=fun X=>ad a1 [X]
 have jV:bs.length+2≤b.length:=jF;have b8:=fun X=>aB b X
 have kbx:=fun X=>kb.app [X]
 have hsx:=fun X=>Sx.app fH [X]
 generalize hq:b.length=q at b8 jV ⊢;refine ax (fun σ=>∃ (k:Nat) (xs xt xf:SV),k≤6∧lk 0 σ.t=some (.o j L.length)∧lk 1 σ.t=some (.int .u64 now)∧lk 6 σ.t=some (.p (bs.length+1) 0)∧lk 8 σ.t=some (.p q 0) ∧
  σ.b[bs.length+1]? = some (.cells [.str [],.int .i64 0,.str [],.str [],.str [],.bool false,.bool false,.int .i64 0,.int .i64 0,.ai,.str [],.ai] 51 true) ∧
  σ.b[q]? = some (.cells (cB (A k) xs xt xf) 58 true)∧Kp bs σ.b ∧
  Sx 35 7 xs σ.b ((A k).seen.flatMap uc) (A k).seen.length∧Sx 62 9 xt σ.b ((A k).trace.flatMap ec) (A k).trace.length∧Sx 100 2 xf σ.b ((A k).fC.fields.flatMap fc) (A k).fC.fields.length)
  (fun σ=>runM q σ) ⟨0,ys,.ai,.ai,QA,rfl,rfl,rfl,rfl,u1 _,by rw[mH];exact b8 _,kbx _,by rw[mH];exact hsx _,.inl ⟨rfl,by rw[mH,jg.1];rfl,by rw[mH,jg.1];rfl⟩,.inl ⟨rfl,by rw[mH,jg.2];rfl,by rw[mH,jg.2];rfl⟩⟩ ?_
 clear jg u1 b8 kbx hsx hq kb fH a1 jF vI;clear b;rintro⟨t,b⟩ ⟨k,xs,xt,xf,lx,h0,h1,h6,h8,b1,b8,kb,uY,fI,CO⟩;simp only at h0 h1 h6 h8 b1 b8 kb uY fI CO;have hqb:q<b.length:=(zUS.1 b8).1;have vI:=lL uY;have p8:=lL fI;have KR:=lL CO;cases hd:(A k).done
 ·obtain⟨g1,g2,g3,g4,g5,g6⟩:=ro _ hd
  have st:=FL (kb.at hj) hL hr now (A k) (fun _=>g2) QA uY fI CO QA QA;rw[← KZ]at st;have hm:runM q ⟨t,b⟩=7 - k:=by
   unfold runM;simp only[b8,cB,cR,uc,zUW,zUX,List.getElem?_cons_succ,List.getElem?_cons_zero,hd,g3];simp
  rw[hm];have hmn:∀ (σ:St) (xs xt xf:SV),σ.b[q]? = some (.cells (cB (A (k+1)) xs xt xf) 58 true)→runM q σ<7 - k:=by
   rintro⟨t',b'⟩ xs xt xf h;unfold runM;simp only at h ⊢;simp only[h,cB,cR,uc,zUW,zUX,List.getElem?_cons_succ,List.getElem?_cons_zero];cases vK:(A (k+1)).done
   ·have:=(ro _ vK).2.2.1
    simp only[this];omega
   ·simp only
    omega
  unfold FsX at st;unfold cB cR uc at b8 st;simp only[zUW,zUX,hd]at b8 st;refine gA (zUR h0 (zUR h1 (zUR h6 (zUR h8 (zUR b1 (zUR b8 (zUR hd zUZ))))))) ?_;refine ae st ?_;rintro r b' ⟨hk',ys,yt,yf,rfl,uZ,jG,tT⟩;have c8:=hk'.at b8;have c1:=hk'.at b1;have hqb':q<b'.length:=(zUS.1 c8).1;have t8:∀ X,(b'.set q X)[q]? = some X:=fun X=>zUU hqb'
  have t1:=fun X=>(zUY (l:=b') (i:=q) (j:=bs.length+1) (a:=X) QA).trans c1
  have i1:=lL uZ;have i2:=lL jG;have i3:=lL tT;have m1:=fun X=>uZ.dv c8 X
  have m2:=fun X=>jG.dv c8 X
  have m3:=fun X=>tT.dv c8 X
  have kb':=(kb.trans hk');refine gA (zUR h0 (zUR h1 (zUR h6 (zUR h8 (zUR c1 (zUR c8 (zUR t8 (zUR t1 (zUR i1 (zUR i2 i3)))))))))) ?_;exact⟨⟨k+1,ys,yt,yf,QA,rfl,kb'.set QA _,m1 _,m2 _,m3 _⟩,hmn _ ys yt yf (t8 _)⟩
 ·have hfe:=rl _ lx hd
  rw[hF]at hfe;rw[hfe]at b8 fI CO;have t1:∀ X,(b.set (bs.length+1) X)[bs.length+1]? = some X:=fun X=>zUU QA
  unfold cB cR uc at b8;simp only[zUW,zUX]at b8;rw[hfe]at hd;refine gA (zUR h0 (zUR h1 (zUR h6 (zUR h8 (zUR b1 (zUR b8 (zUR hd (zUR zU3 (zUR t1 (zUR vI (zUR p8 KR))))))))))) ?_;have hql2:(q=bs.length+1)=False:=by simp;omega
  exact⟨(by
   refine bt (fun n=>if n=bs.length+1 then 0 else 1) ?_;simp only[zU6,zVa,cz,dW,reduceIte,hql2];exact ao QE),kb.set QA _,xt,xf,rfl,fI.dv b1 _,CO.dv b1 _⟩
theorem Fk (L:List jD)(now:Int)(u:bN):∀ n,(aA L now u n).trace.length≤n
 | 0=>by
   show (bD u).trace.length≤0
   unfold bD;split <;> simp
 | n+1=>by
   have ih:=Fk L now u n;show (bP L now (aA L now u n)).trace.length≤n+1
   unfold bP;repeat' split
   all_goals first|omega | (simp only[List.length_append,zU1,zU4];omega)
theorem FX (L:List Int)(n now:Int)(hL:L.length≤9223372036854775807)(hq:∀ r∈L,(Lit.int .u8 r).wf=true)(hn:0≤n∧n≤255) :
 SC QH 4 [.o 0 L.length,.int .u8 n,.int .u64 now] [.own (L.flatMap DE) 5 1 L.length false] (fun r _=>r=.bool true):=by
 have p0:=fun bs=>cY (by simp[flat]) (Bm (bs:=bs))
 have hr:∀ r∈L,0≤r∧r≤255:=fun r h=>by
  have:IntKind.min .u8≤r∧r≤IntKind.max .u8:=by simpa[Lit.wf] using hq r h
  simpa[IntKind.min,IntKind.max,IntKind.signed,IntKind.bits] using this
 refine bp 3000 func4 rfl ntmps4 results4 call4 QB (af 1 _ (by simp[within,within.av])) ?_;refine dY ?_;refine ae (p0 _) ?_;rintro r b ⟨rfl,rfl⟩;refine gA zU3 ?_;refine ae (IW rfl hr hL n hn) ?_;rintro r b1 ⟨A,q,u,rfl,mH,E7,jK,cM,rp,hu,cV⟩;have Er:∀ a∈A,a.raw.length≤4000000:=fun a ha=>by have:=(rp a ha).2.2.1;omega
 have sR:=fun(bs:List aq) (h:bs[q]? = some (.own (A.flatMap ac) 33 7 A.length true))=>oS (bs:=bs) h QA Er now u hu.fair
 have sQ:=fun(bs:List aq) (h:bs[q]? = some (.own (A.flatMap ac) 33 7 A.length true))=>IX (bs:=bs) h QA Er now u hu.fair
 have rle:=Kn A now u 6;have tle:=Fk A now u 6;generalize aA A now u 6=T at sR sQ rle tle;unfold uc at sR sQ ⊢;refine dY ?_;refine ae (sR _ (ad cM _)) ?_;rintro r b2 ⟨bS,yt,yf,rfl,ht,hf⟩;have c0:=bS.at (aM b1 _);have cq:=bS.at (ad cM _);have ot:=ht.one;have of':=hf.one;unfold cR uc;simp only[zUW,zUX];refine gA (zUR c0 (zUR ot (zUR of' (ad c0)))) ?_;refine ae (sQ _ (ad cq _)) ?_;rintro r b3 ⟨eL,zt,zf,rfl,ht3,hf3⟩;have d9:=eL.at (aM b2 _);have ot3:=lL ht3;have of3:=lL hf3;have ht2:=kL (((Kp.refl b2).app _).trans eL) ht.sx;have qk:=kL (((Kp.refl b2).app _).trans eL) hf.sx;unfold cR uc;simp only[zUW,zUX];have sE:=fun X=>FM (bs:=b3++X) T.fC T.trace (qk.app X) (hf3.app X) QA (ht2.app X) (ht3.app X) QA
 unfold cR uc at sE;simp only[zUW,zUX]at sE;refine gA (zUR d9 (zUR (ad d9) (zUR ot3 of3))) ?_;refine ae (sE _) ?_;rintro r b4 ⟨rfl,rfl⟩;refine dY True.intro
end Go.Proofs.YtnmlimehgifadaaGreatDoor
