/- Texts of this claim, laid together: RefPut, RefAdd, DiceN, Made31, SoundC, SoundR, Same31, Law31s, Law31k, Law31e, Law31o. -/
import Derived.Test.YteipdaijbncgeaaGreatDoorQ7
open List renaming getElem?_eq_some_iff → zMJ, drop_succ_cons → zMK, append_nil → zML, getElem_mem → zMM, take_of_length_le → zMN, drop_zero → zMO, drop_nil → zMP, getElem?_set_self → zMQ, length_set → zMR, getElem?_eq_getElem → zMS, length_filter_le → zMT, map_cons → zMU, map_nil → zMV, getD_eq_getElem?_getD → zMW, take_succ_eq_append_getElem → zMX
set_option linter.all false
set_option maxHeartbeats 16000000
set_option maxRecDepth 20000
namespace Go.Proofs.YteipdaijbncgeaaGreatDoor
open Go Vc Go.RowKit Wf
section
variable {b:List ay} {q:Nat} {L:List En} {m:Bool} {t:Bytes} {cp now:Int}
structure R1 (b:List ay) (cp:Int) (v:Vd) (x:SV) (b1:List ay):Prop where
 kp:Kp b b1
 c:b1[b.length]? = some (.cells [.int .i64 cp,x] 24 true)
 v:b1[b.length+1]? = some (.cells (eJ v) 41 true)
 o:b1[b.length+2]? = some (.cells [.int .i64 0,.aD] 24 true)
theorem R1.app {b b1:List ay}{cp:Int}{v:Vd}{x:SV}(h:R1 b cp v x b1)(l:List ay):R1 b cp v x (b1++l):=⟨h.kp.app _,af h.c _,af h.v _,af h.o _⟩
theorem R1.set {b b1:List ay}{cp:Int}{v:Vd}{x:SV}(h:R1 b cp v x b1){k:Nat}(hk:b.length+2<k)(X:ay):R1 b cp v x (b1.set k X):=⟨h.kp.set (by omega) _,aF h.c (by omega) _,aF h.v (by omega) _,aF h.o (by omega) _⟩
structure R2 (b:List ay) (n:Nat) (cp:Int) (v:Vd) (now:Int) (x1:SV) (KL:List En) (x2:SV) (M:List En) (b1:List ay):Prop where
 lt:b.length+2<n
 kp:Kp b b1
 vv:b1[b.length+1]? = some (.cells (eJ v) 41 true)
 o:b1[b.length+2]? = some (.cells [.int .i64 0,.aD] 24 true)
 u:b1[n]? = some (.cells [.int .i64 cp,x2] 24 true)
 e:b1[n+1]? = some (.cells (enc (lp v now)) 43 true)
 h1:gC b1 x1 KL true
 h2:gC b1 x2 M true
 q1:∀ q k,x1=.o q k→b.length+2<q∧q<n
 q2:∀ q k,x2=.o q k→n+1<q
section
variable {n:Nat} {v:Vd} {x1 x2 x3:SV} {KL M M':List En} {b1:List ay}
theorem R2.app (h:R2 b n cp v now x1 KL x2 M b1)(l:List ay):R2 b n cp v now x1 KL x2 M (b1++l):=⟨h.lt,h.kp.app _,af h.vv _,af h.o _,af h.u _,af h.e _,h.h1.kp ((Kp.refl _).app _),h.h2.kp ((Kp.refl _).app _),h.q1,h.q2⟩
theorem gC.setN {b:List ay}{x:SV}{L:List En}{m:Bool}(h:gC b x L m){k:Nat}(hk:∀ q n,x=.o q n→k≠q)(X:ay):gC (b.set k X) x L m:=by
 rcases h with h|⟨q,rfl,hq⟩
 ·exact .inl h
 ·exact .inr ⟨q,rfl,aF hq (hk q _ rfl) _⟩
theorem R2.new (h:R2 b n cp v now x1 KL .aD M b1){l:List ay}{j:Nat}(hj:j<l.length)(hl:(b1++l).length=b1.length+l.length)(hx:l[j]? = some (.own (M'.flatMap enc) 43 14 M'.length true)):R2 b n cp v now x1 KL (.o (b1.length+j) M'.length) M' (b1.set n (.cells [.int .i64 cp,.o (b1.length+j) M'.length] 24 true)++l):=by
 have aA:=h.lt
 have hn:n<b1.length:=(zMJ.1 h.u).1
 have F3:n+1<b1.length:=(zMJ.1 h.e).1
 refine⟨aA,(h.kp.set (by omega) _).app _,af (aF h.vv (by omega) _) _,af (aF h.o (by omega) _) _,af (zMQ hn) _,af (aF h.e (by omega) _) _,(h.h1.setN (fun q k e=>by have:=(h.q1 q k e).2;omega) _).kp ((Kp.refl _).app _),.inr ⟨_,rfl,?_⟩,h.q1,fun q k e=>by cases e;omega⟩
 rw[List.getElem?_append_right (by rw[zMR];omega),zMR,Nat.add_sub_cancel_left]
 exact hx
theorem R2.more {q k:Nat}(h:R2 b n cp v now x1 KL (.o q k) M b1){l:List ay}{j:Nat}(hx:l[j]? = some (.own (M'.flatMap enc) 43 14 M'.length true)):R2 b n cp v now x1 KL (.o (b1.length+j) M'.length) M' ((b1.set q .gone).set n (.cells [.int .i64 cp,.o (b1.length+j) M'.length] 24 true)++l):=by
 have aA:=h.lt
 have hn:n<b1.length:=(zMJ.1 h.u).1
 have F3:n+1<b1.length:=(zMJ.1 h.e).1
 have hq:=h.q2 q k rfl
 refine⟨aA,((h.kp.set (by omega) _).set (by omega) _).app _,af (aF (aF h.vv (by omega) _) (by omega) _) _,af (aF (aF h.o (by omega) _) (by omega) _) _,af (zMQ (by rw[zMR];exact hn)) _,af (aF (aF h.e (by omega) _) (by omega) _) _,((h.h1.setN (fun q k e=>by have:=(h.q1 q k e).2;omega) _).setN (fun q k e=>by have:=(h.q1 q k e).2;omega) _).kp ((Kp.refl _).app _),.inr ⟨_,rfl,?_⟩,h.q1,fun q k e=>by cases e;omega⟩
 rw[List.getElem?_append_right (by rw[zMR,zMR];omega),zMR,zMR,Nat.add_sub_cancel_left]
 exact hx
theorem R2.G1 {q:Nat}{x:En}(h:R2 b n cp v now x1 KL (.o q M.length) M b1){l:List ay}{j k:Nat}(hk:k=M.length+1)(hx:l[j]? = some (.own (M.flatMap enc++enc x) 43 14 k true)):R2 b n cp v now x1 KL (.o (b1.length+j) k) (M++[x]) ((b1.set q .gone).set n (.cells [.int .i64 cp,.o (b1.length+j) k] 24 true)++l):=by
 subst hk
 have e:(M++[x]).length=M.length+1:=by simp
 rw[← e]at hx ⊢
 exact h.more (by simpa using hx)
end
theorem AO {E:Type}{p:Nat→E→Bool}{L:List E}{y:E}:∀ j,y∈dg p L j→y∈L
 | 0,h=>by simp[dg]at h
 | j+1,h=>by
   rw[dg,List.mem_append]at h
   rcases h with h|h
   ·exact AO j h
   ·have:=(List.mem_filter.1 h).1
    rw[Option.mem_toList]at this
    exact List.mem_of_getElem? this
theorem Bk {E:Type}{f:E→Bool}{L:List E}{k:Nat}(hk:k<L.length)(h:f L[k]=true):(L.take (k+1)).filter f=(L.take k).filter f++[L[k]]:=by
 rw[zMX hk,List.filter_append];simp[h]
theorem Bj {E:Type}{f:E→Bool}{L:List E}{k:Nat}(hk:k<L.length)(h:f L[k]=false):(L.take (k+1)).filter f=(L.take k).filter f:=by
 rw[zMX hk,List.filter_append];simp[h]
theorem blt_gt (a t:Bytes):(!(blt a t||a==t))=blt t a:=by
 cases h:blt a t
 ·by_cases e:a=t
  ·subst e;simp[js]
  ·rcases qz e with h1|h1
   ·rw[h]at h1;cases h1
   ·simp[e,h1]
 ·simp[yT h]
def kB (L:List En)(t:Bytes):Int:=if dm En.key L t then -2 else dK (oq L) L.length
theorem B5 {x:SV}{v:Vd}{cb:Bool}(h:gC b x L m)(hl:L.length≤1000000)(v8:∀ e∈L,one e.v.tr=true)(hv1:one v.tr=true)(hvw:within b.length v.tr=true)
 (hcb:SC Tryz.V 30 [.agg (eJ v)] (b++[.cells [.int .i64 cp,x] 24 true,.cells (eJ v) 41 true,.cells [.int .i64 0,.aD] 24 true]) (fun r b2=>r=.bool cb∧b2=(b++[.cells [.int .i64 cp,x] 24 true,.cells (eJ v) 41 true,.cells [.int .i64 0,.aD] 24 true])))
 (mw:PC Tryz.V 31 [.int .u64 now,.int .u64 v.dU] (.int .u64 (jS now v.dU))) :
 SU Tryz.V 19 [.agg [.int .i64 cp,x],.agg (eJ v),.int .u64 now] b (fun r b'=>Kp b b'∧∃ x' m',r=.agg [.int .i64 cp,x']∧gC b' x' (if cb&&!(cp==0) then jn En.key (dg (fP En.key v.id.text (dm En.key L v.id.text||decide ((L.length:Int)<cp)) (dK (oq L) L.length)) L L.length) (lp v now) else L) m'∧(m'=true∨x'=x∧m'=m)):=by
 have hw:=h.within
 have ho:=h.one
 have AX:(eJ v).length=12:=rfl
 have hv1':(eJ v).all one=true:=by simp[eJ,one]at hv1 ⊢;exact hv1
 have hvt:(eJ v).take 12=eJ v:=zMN (by rw[AX];omega)
 have hvw':within.aN b.length (eJ v)=true:=by simp[eJ,within,within.aN,hvw]
 have fb:∀ e,nm (.slice e) x=some (.int .i64 L.length):=fun e=>by
  rcases h with⟨rfl,rfl⟩|⟨q,rfl,-⟩ <;> rfl
 obtain⟨LP,hLP⟩:∃ LP,LP=(if cb&&!(cp==0) then jn En.key (dg (fP En.key v.id.text (dm En.key L v.id.text||decide ((L.length:Int)<cp)) (dK (oq L) L.length)) L L.length) (lp v now) else L):=⟨_,rfl⟩
 rw[← hLP]
 refine Gn 3000 Tryz.func19 rfl Tryz.ntmps19 Tryz.results19 Tryz.call19 (by simp) (aw b.length _ (by simp[within,within.aN,hw,hvw'])) ?_
 refine aK 2900 (fun σ=>lk 2 σ.t=some (.int .u64 now)∧lk 3 σ.t=some (.p b.length 0)∧lk 4 σ.t=some (.p (b.length+1) 0)∧lk 6 σ.t=some (.p (b.length+2) 0)∧σ.b=b++[.cells [.int .i64 cp,x] 24 true,.cells (eJ v) 41 true,.cells [.int .i64 0,.aD] 24 true]) ?_ (fun k' hk'=>?_)
 rotate_left
 ·simp only[ad,↓Xn,↓Xo,↓Xg,↓Xd,↓Xe,↓Xf,Tryz.VΓ,Tryz.Γs,Xp,Xi,Nat.reduceAdd,Nat.reduceSub,Nat.reduceLT,Nat.reduceLeDiff,reduceIte,reduceCtorEq,Nat.reduceEqDiff,implies_true,forall_const,aa,ak,beq_self_eq_true,bne_self_eq_false,Int.reduceBEq,Int.reduceBNe,Int.reduceLT,Int.reduceLE,ho,hv1',AX]
  exact hk' _ _ ⟨rfl,rfl,rfl,rfl,rfl⟩
 rintro m1 ⟨t1,b1⟩ ⟨l2,l3,l4,l6,rfl⟩
 simp only at l2 l3 l4 l6
 refine aK 2800 (fun σ=>lk 2 σ.t=some (.int .u64 now)∧lk 3 σ.t=some (.p b.length 0)∧lk 4 σ.t=some (.p (b.length+1) 0)∧lk 6 σ.t=some (.p (b.length+2) 0)∧R1 b cp v x σ.b∧(cb&&!(cp==0))=true) ?_ (fun k' hk'=>?_)
 rotate_left
 ·simp only[ad,↓Xn,↓Xo,↓Xg,↓Xd,↓Xe,↓Xf,Tryz.VΓ,Tryz.Γs,Xp,Xi,Nat.reduceAdd,Nat.reduceSub,Nat.reduceLT,Nat.reduceLeDiff,reduceIte,reduceCtorEq,Nat.reduceEqDiff,implies_true,forall_const,aa,ak,beq_self_eq_true,bne_self_eq_false,Int.reduceBEq,Int.reduceBNe,Int.reduceLT,Int.reduceLE,l3,l4,AX,hvt]
  refine BG (R:=fun r b2=>r=.bool cb∧b2=_) (SU.of hcb ⟨rfl,rfl⟩) ?_
  rintro y b2 ⟨rfl,rfl⟩
  cases vz:cb
  ·simp only[ad,↓Xn,↓Xo,↓Xg,↓Xd,↓Xe,↓Xf,Tryz.VΓ,Tryz.Γs,Xp,Xi,Nat.reduceAdd,Nat.reduceSub,Nat.reduceLT,Nat.reduceLeDiff,reduceIte,reduceCtorEq,Nat.reduceEqDiff,implies_true,forall_const,aa,ak,beq_self_eq_true,bne_self_eq_false,Int.reduceBEq,Int.reduceBNe,Int.reduceLT,Int.reduceLE,l3,l4,l6,ho]
   exact⟨(Kp.refl _).app _,x,m,rfl,by rw[hLP,vz];exact h.kp ((Kp.refl _).app _),.inr ⟨rfl,rfl⟩⟩
  ·cases uO:(cp==0)
   ·simp only[ad,↓Xn,↓Xo,↓Xg,↓Xd,↓Xe,↓Xf,Tryz.VΓ,Tryz.Γs,Xp,Xi,Nat.reduceAdd,Nat.reduceSub,Nat.reduceLT,Nat.reduceLeDiff,reduceIte,reduceCtorEq,Nat.reduceEqDiff,implies_true,forall_const,aa,ak,beq_self_eq_true,bne_self_eq_false,Int.reduceBEq,Int.reduceBNe,Int.reduceLT,Int.reduceLE,l3,l4,l6,ho,uO]
    refine hk' _ _ ?_
    exact⟨l2,l3,l4,l6,⟨(Kp.refl _).app _,a6 rfl _ 0,a6 rfl _ 1,a6 rfl _ 2⟩,by rw[vz,uO];rfl⟩
   ·simp only[ad,↓Xn,↓Xo,↓Xg,↓Xd,↓Xe,↓Xf,Tryz.VΓ,Tryz.Γs,Xp,Xi,Nat.reduceAdd,Nat.reduceSub,Nat.reduceLT,Nat.reduceLeDiff,reduceIte,reduceCtorEq,Nat.reduceEqDiff,implies_true,forall_const,aa,ak,beq_self_eq_true,bne_self_eq_false,Int.reduceBEq,Int.reduceBNe,Int.reduceLT,Int.reduceLE,l3,l4,l6,ho,uO]
    exact⟨(Kp.refl _).app _,x,m,rfl,by rw[hLP,vz,uO];exact h.kp ((Kp.refl _).app _),.inr ⟨rfl,rfl⟩⟩
 rintro m2 ⟨t2,b2⟩ ⟨l2,l3,l4,l6,hR,jK⟩
 simp only at l2 l3 l4 l6 hR
 rw[if_pos jK]at hLP
 clear hcb
 refine aK 2700 (fun σ=>lk 2 σ.t=some (.int .u64 now)∧lk 3 σ.t=some (.p b.length 0)∧lk 4 σ.t=some (.p (b.length+1) 0)∧lk 6 σ.t=some (.p (b.length+2) 0)∧lk 7 σ.t=some .aD∧R1 b cp v x σ.b) ?_ (fun k' hk'=>?_)
 rotate_left
 ·simp only[ad,↓Xn,↓Xo,↓Xg,↓Xd,↓Xe,↓Xf,Tryz.VΓ,Tryz.Γs,Xp,Xi,Nat.reduceAdd,Nat.reduceSub,Nat.reduceLT,Nat.reduceLeDiff,reduceIte,reduceCtorEq,Nat.reduceEqDiff,implies_true,forall_const,aa,ak,beq_self_eq_true,bne_self_eq_false,Int.reduceBEq,Int.reduceBNe,Int.reduceLT,Int.reduceLE]
  refine hk' _ _ ?_
  exact⟨l2,l3,l4,l6,rfl,hR⟩
 rintro m3 ⟨t3,b3⟩ ⟨l2,l3,l4,l6,l7,hR⟩
 simp only at l2 l3 l4 l6 l7 hR
 refine aK 2600 (fun σ=>lk 2 σ.t=some (.int .u64 now)∧lk 3 σ.t=some (.p b.length 0)∧lk 4 σ.t=some (.p (b.length+1) 0)∧lk 6 σ.t=some (.p (b.length+2) 0)∧lk 7 σ.t=some .aD∧lk 8 σ.t=some (.int .i64 (-1))∧R1 b cp v x σ.b) ?_ (fun k' hk'=>?_)
 rotate_left
 ·simp only[ad,↓Xn,↓Xo,↓Xg,↓Xd,↓Xe,↓Xf,Tryz.VΓ,Tryz.Γs,Xp,Xi,Nat.reduceAdd,Nat.reduceSub,Nat.reduceLT,Nat.reduceLeDiff,reduceIte,reduceCtorEq,Nat.reduceEqDiff,implies_true,forall_const,aa,ak,beq_self_eq_true,bne_self_eq_false,Int.reduceBEq,Int.reduceBNe,Int.reduceLT,Int.reduceLE]
  refine hk' _ _ ?_
  exact⟨l2,l3,l4,l6,l7,rfl,hR⟩
 rintro m4 ⟨t4,b4⟩ ⟨l2,l3,l4,l6,l7,l8,hR⟩
 simp only at l2 l3 l4 l6 l7 l8 hR
 refine aK 2500 (fun σ=>lk 2 σ.t=some (.int .u64 now)∧lk 3 σ.t=some (.p b.length 0)∧lk 4 σ.t=some (.p (b.length+1) 0)∧lk 6 σ.t=some (.p (b.length+2) 0)∧lk 7 σ.t=some .aD∧lk 8 σ.t=some (.int .i64 (kB L v.id.text))∧R1 b cp v x σ.b) ?_ (fun k' hk'=>?_)
 rotate_left
 ·have pc:=hR.c
  simp only[ad,↓Xn,↓Xo,↓Xg,↓Xd,↓Xe,↓Xf,Tryz.VΓ,Tryz.Γs,Xp,Xi,Nat.reduceAdd,Nat.reduceSub,Nat.reduceLT,Nat.reduceLeDiff,reduceIte,reduceCtorEq,Nat.reduceEqDiff,implies_true,forall_const,aa,ak,beq_self_eq_true,bne_self_eq_false,Int.reduceBEq,Int.reduceBNe,Int.reduceLT,Int.reduceLE,l3,pc,fb]
  refine aJ (fun σ=>∃ (k:Nat),lk 2 σ.t=some (.int .u64 now)∧lk 3 σ.t=some (.p b.length 0)∧lk 4 σ.t=some (.p (b.length+1) 0)∧lk 6 σ.t=some (.p (b.length+2) 0)∧lk 7 σ.t=some .aD∧lk 8 σ.t=some (.int .i64 (dK (oq L) k))∧lk 29 σ.t=some x∧lk 30 σ.t=some (.int .i64 L.length)∧lk 31 σ.t=some (.int .i64 k)∧k≤L.length∧R1 b cp v x σ.b∧∀ j (hj:j<k) (mA:j<L.length),En.key L[j]≠v.id.text) (fun σ=>L.length - iH 31 σ) ⟨0,l2,l3,l4,l6,l7,l8,rfl,rfl,rfl,by omega,hR,fun j hj=>by omega⟩ ?_
  rintro⟨t5,b5⟩ ⟨k,l2,l3,l4,l6,l7,l8,l29,l30,l31,hk,hR,fA⟩
  simp only at l2 l3 l4 l6 l7 l8 l29 l30 l31 hR
  rw[ax l31]
  by_cases c:k<L.length
  ·have ci:decide ((k:Int)<(L.length:Int))=true:=by simpa using c
   obtain⟨q,rfl,hq⟩:∃ q,x=.o q L.length∧b[q]? = some (.own (L.flatMap enc) 43 14 L.length m):=by
    rcases h with⟨rfl,rfl⟩|h
    ·simp at c
    ·exact h
   have da:=hR.kp.at hq
   have pc:=hR.c
   have pv:=hR.v
   have dS:=gd L k c
   have dX:(enc L[k]).length=14:=rfl
   have fG:(enc L[k]).take 14=enc L[k]:=zMN (by rw[dX];omega)
   have hex:(enc L[k])[13]? = some (.int .u64 L[k].aP):=rfl
   have iv:(enc L[k])[2]? = some (.str (En.key L[k])):=rfl
   have oC:(eJ v)[2]? = some (.str v.id.text):=rfl
   have hY:(enc L[k]).all one=true:=by
    have:=v8 _ (zMM c)
    simp[enc,one]at this ⊢;exact this
   have jW:3≤(eJ v).length:=by rw[AX];decide
   have hnx:(En.key L[k]==v.id.text)=false→∀ j (hj:j<k+1) (mA:j<L.length),En.key L[j]≠v.id.text:=fun hf j hj mA=>by
    by_cases e:j=k
    ·subst e;simpa using hf
    ·exact fA j (by omega) mA
   have hhit:(En.key L[k]==v.id.text)=true→kB L v.id.text=-2:=fun ht=>by
    unfold kB
    rw[if_pos]
    exact fR.2 ⟨_,zMM c,by simpa using ht⟩
   by_cases k0:k=0
   ·subst k0
    have aA:decide (dK (oq L) 0<0)=true:=rfl
    cases heq:(En.key L[0]==v.id.text)
    ·simp only[ad,↓Xn,↓Xo,↓Xg,↓Xd,↓Xe,↓Xf,Tryz.VΓ,Tryz.Γs,Xp,Xi,Nat.reduceAdd,Nat.reduceSub,Nat.reduceLT,Nat.reduceLeDiff,reduceIte,reduceCtorEq,Nat.reduceEqDiff,implies_true,forall_const,aa,ak,beq_self_eq_true,bne_self_eq_false,Int.reduceBEq,Int.reduceBNe,Int.reduceLT,Int.reduceLE,l3,l4,l8,l29,l30,l31,ci,da,pc,pv,af pv,dS,dX,fG,hex,iv,oC,aA,heq,zMK,zMP,zMO,zML]
     refine⟨⟨by omega,by omega⟩,by rw[aQ];omega,hY,av (by kernel_rfl),jW,by omega,⟨1,l2,l6,l7,rfl,rfl,by omega,hR.app _,hnx heq⟩,?_⟩
     rw[ax (show lk 31 _=some (.int .i64 ((0+1:Nat):Int)) from rfl)];omega
    ·simp only[ad,↓Xn,↓Xo,↓Xg,↓Xd,↓Xe,↓Xf,Tryz.VΓ,Tryz.Γs,Xp,Xi,Nat.reduceAdd,Nat.reduceSub,Nat.reduceLT,Nat.reduceLeDiff,reduceIte,reduceCtorEq,Nat.reduceEqDiff,implies_true,forall_const,aa,ak,beq_self_eq_true,bne_self_eq_false,Int.reduceBEq,Int.reduceBNe,Int.reduceLT,Int.reduceLE,l3,l4,l8,l29,l30,l31,ci,da,pc,pv,af pv,dS,dX,fG,hex,iv,oC,aA,heq,zMK,zMP,zMO,zML]
     refine⟨⟨by omega,by omega⟩,by rw[aQ];omega,hY,av (by kernel_rfl),jW,?_⟩
     refine hk' _ _ ?_
     exact⟨l2,l3,l4,l6,l7,by rw[hhit heq];rfl,hR.app _⟩
   ·obtain⟨a,ha⟩:∃ a,a=dE (oq L) k:=⟨_,rfl⟩
    have hak:a<k:=by rw[ha];exact(gn (oq L) k (by omega)).1
    have hli:dK (oq L) k=(a:Int):=by unfold dK;rw[if_neg k0,ha]
    rw[hli]at l8
    have aA:decide ((a:Int)<0)=false:=by simp
    have g2:(L.flatMap enc)[a * 14+13]? = some (.int .u64 (L[a]'(by omega)).aP):=(iK L a (by omega) 13 (by omega)).trans rfl
    have fI:dK (oq L) (k+1)=if L[k].aP<(L[a]'(by omega)).aP then(k:Int) else(a:Int):=by
     unfold dK
     rw[if_neg (by omega),dE,if_neg k0,← ha,yW L k c,yW L a (by omega)]
     split <;> rfl
    have mh:=aQ L
    cases hd:decide (L[k].aP<(L[a]'(by omega)).aP)
    ·rw[if_neg (by simpa using hd)]at fI
     cases heq:(En.key L[k]==v.id.text)
     ·simp only[ad,↓Xn,↓Xo,↓Xg,↓Xd,↓Xe,↓Xf,Tryz.VΓ,Tryz.Γs,Xp,Xi,Nat.reduceAdd,Nat.reduceSub,Nat.reduceLT,Nat.reduceLeDiff,reduceIte,reduceCtorEq,Nat.reduceEqDiff,implies_true,forall_const,aa,ak,beq_self_eq_true,bne_self_eq_false,Int.reduceBEq,Int.reduceBNe,Int.reduceLT,Int.reduceLE,l3,l4,l8,l29,l30,l31,ci,da,af da,pc,af pc,pv,af pv,dS,dX,fG,hex,iv,oC,aA,heq,g2,hd,zMK,zMP,zMO,zML]
      refine⟨⟨by omega,by omega⟩,by rw[mh];omega,hY,⟨by omega,by omega⟩,by rw[mh];omega,av (by kernel_rfl),jW,by omega,⟨k+1,l2,l6,l7,by rw[fI],rfl,by omega,hR.app _,hnx heq⟩,?_⟩
      rw[ax (show lk 31 _=some (.int .i64 ((k+1:Nat):Int)) from rfl)];omega
     ·simp only[ad,↓Xn,↓Xo,↓Xg,↓Xd,↓Xe,↓Xf,Tryz.VΓ,Tryz.Γs,Xp,Xi,Nat.reduceAdd,Nat.reduceSub,Nat.reduceLT,Nat.reduceLeDiff,reduceIte,reduceCtorEq,Nat.reduceEqDiff,implies_true,forall_const,aa,ak,beq_self_eq_true,bne_self_eq_false,Int.reduceBEq,Int.reduceBNe,Int.reduceLT,Int.reduceLE,l3,l4,l8,l29,l30,l31,ci,da,af da,pc,af pc,pv,af pv,dS,dX,fG,hex,iv,oC,aA,heq,g2,hd,zMK,zMP,zMO,zML]
      refine⟨⟨by omega,by omega⟩,by rw[mh];omega,hY,⟨by omega,by omega⟩,by rw[mh];omega,av (by kernel_rfl),jW,?_⟩
      refine hk' _ _ ?_
      exact⟨l2,l3,l4,l6,l7,by rw[hhit heq];rfl,hR.app _⟩
    ·rw[if_pos (by simpa using hd)]at fI
     cases heq:(En.key L[k]==v.id.text)
     ·simp only[ad,↓Xn,↓Xo,↓Xg,↓Xd,↓Xe,↓Xf,Tryz.VΓ,Tryz.Γs,Xp,Xi,Nat.reduceAdd,Nat.reduceSub,Nat.reduceLT,Nat.reduceLeDiff,reduceIte,reduceCtorEq,Nat.reduceEqDiff,implies_true,forall_const,aa,ak,beq_self_eq_true,bne_self_eq_false,Int.reduceBEq,Int.reduceBNe,Int.reduceLT,Int.reduceLE,l3,l4,l8,l29,l30,l31,ci,da,af da,pc,af pc,pv,af pv,dS,dX,fG,hex,iv,oC,aA,heq,g2,hd,zMK,zMP,zMO,zML]
      refine⟨⟨by omega,by omega⟩,by rw[mh];omega,hY,⟨by omega,by omega⟩,by rw[mh];omega,av (by kernel_rfl),jW,by omega,⟨k+1,l2,l6,l7,by rw[fI],rfl,by omega,hR.app _,hnx heq⟩,?_⟩
      rw[ax (show lk 31 _=some (.int .i64 ((k+1:Nat):Int)) from rfl)];omega
     ·simp only[ad,↓Xn,↓Xo,↓Xg,↓Xd,↓Xe,↓Xf,Tryz.VΓ,Tryz.Γs,Xp,Xi,Nat.reduceAdd,Nat.reduceSub,Nat.reduceLT,Nat.reduceLeDiff,reduceIte,reduceCtorEq,Nat.reduceEqDiff,implies_true,forall_const,aa,ak,beq_self_eq_true,bne_self_eq_false,Int.reduceBEq,Int.reduceBNe,Int.reduceLT,Int.reduceLE,l3,l4,l8,l29,l30,l31,ci,da,af da,pc,af pc,pv,af pv,dS,dX,fG,hex,iv,oC,aA,heq,g2,hd,zMK,zMP,zMO,zML]
      refine⟨⟨by omega,by omega⟩,by rw[mh];omega,hY,⟨by omega,by omega⟩,by rw[mh];omega,av (by kernel_rfl),jW,?_⟩
      refine hk' _ _ ?_
      exact⟨l2,l3,l4,l6,l7,by rw[hhit heq];rfl,hR.app _⟩
  ·have ci:decide ((k:Int)<(L.length:Int))=false:=by simpa using c
   obtain rfl:k=L.length:=by omega
   have hno2:dm En.key L v.id.text=false:=by
    rw[← Bool.not_eq_true,fR]
    rintro⟨y,hy,e⟩
    obtain⟨j,hj,rfl⟩:=List.mem_iff_getElem.1 hy
    exact fA j hj hj e
   simp only[ad,↓Xn,↓Xo,↓Xg,↓Xd,↓Xe,↓Xf,Tryz.VΓ,Tryz.Γs,Xp,Xi,Nat.reduceAdd,Nat.reduceSub,Nat.reduceLT,Nat.reduceLeDiff,reduceIte,reduceCtorEq,Nat.reduceEqDiff,implies_true,forall_const,aa,ak,beq_self_eq_true,bne_self_eq_false,Int.reduceBEq,Int.reduceBNe,Int.reduceLT,Int.reduceLE,l3,l29,l30,l31,ci]
   refine hk' _ _ ?_
   exact⟨l2,l3,l4,l6,l7,by unfold kB;rw[hno2];exact l8,hR⟩
 rintro m5 ⟨t5,b5⟩ ⟨l2,l3,l4,l6,l7,l8,hR⟩
 simp only at l2 l3 l4 l6 l7 l8 hR
 obtain⟨PR,hPR⟩:∃ PR,PR=fP En.key v.id.text (dm En.key L v.id.text||decide ((L.length:Int)<cp)) (dK (oq L) L.length):=⟨_,rfl⟩
 rw[← hPR]at hLP
 refine aK 2400 (fun σ=>lk 2 σ.t=some (.int .u64 now)∧lk 3 σ.t=some (.p b.length 0)∧lk 4 σ.t=some (.p (b.length+1) 0)∧lk 6 σ.t=some (.p (b.length+2) 0)∧R1 b cp v x σ.b∧∃ x1,lk 7 σ.t=some x1∧gC σ.b x1 (dg PR L L.length) true∧∀ q n,x1=.o q n→b.length+2<q) ?_ (fun k' hk'=>?_)
 rotate_left
 ·have pc:=hR.c
  simp only[ad,↓Xn,↓Xo,↓Xg,↓Xd,↓Xe,↓Xf,Tryz.VΓ,Tryz.Γs,Xp,Xi,Nat.reduceAdd,Nat.reduceSub,Nat.reduceLT,Nat.reduceLeDiff,reduceIte,reduceCtorEq,Nat.reduceEqDiff,implies_true,forall_const,aa,ak,beq_self_eq_true,bne_self_eq_false,Int.reduceBEq,Int.reduceBNe,Int.reduceLT,Int.reduceLE,l3,pc,fb]
  refine aJ (fun σ=>∃ (k:Nat) (x1:SV),lk 2 σ.t=some (.int .u64 now)∧lk 3 σ.t=some (.p b.length 0)∧lk 4 σ.t=some (.p (b.length+1) 0)∧lk 6 σ.t=some (.p (b.length+2) 0)∧lk 7 σ.t=some x1∧lk 8 σ.t=some (.int .i64 (kB L v.id.text))∧lk 60 σ.t=some x∧lk 61 σ.t=some (.int .i64 L.length)∧lk 62 σ.t=some (.int .i64 k)∧k≤L.length∧R1 b cp v x σ.b∧gC σ.b x1 (dg PR L k) true∧∀ q n,x1=.o q n→b.length+2<q) (fun σ=>L.length - iH 62 σ) ⟨0,.aD,l2,l3,l4,l6,l7,l8,rfl,rfl,rfl,by omega,hR,.inl ⟨rfl,rfl⟩,fun q n h=>by cases h⟩ ?_
  clear l2 l3 l4 l6 l7 l8 hR
  rintro⟨t5,b5⟩ ⟨k,x1,l2,l3,l4,l6,l7,l8,l60,l61,l62,hk,hR,hE,A0⟩
  simp only at l2 l3 l4 l6 l7 l8 l60 l61 l62 hR hE
  rw[ax l62]
  by_cases c:k<L.length
  ·have ci:decide ((k:Int)<(L.length:Int))=true:=by simpa using c
   obtain⟨q,rfl,hq⟩:∃ q,x=.o q L.length∧b[q]? = some (.own (L.flatMap enc) 43 14 L.length m):=by
    rcases h with⟨rfl,rfl⟩|h
    ·simp at c
    ·exact h
   have da:=hR.kp.at hq
   have pc:=hR.c
   have pv:=hR.v
   have ho1:=hE.one
   have dS:=gd L k c
   have dX:(enc L[k]).length=14:=rfl
   have fG:(enc L[k]).take 14=enc L[k]:=zMN (by rw[dX];omega)
   have iv:(enc L[k])[2]? = some (.str (En.key L[k])):=rfl
   have oC:(eJ v)[2]? = some (.str v.id.text):=rfl
   have jW:3≤(eJ v).length:=by rw[AX];decide
   have hY:(enc L[k]).all one=true:=by
    have:=v8 _ (zMM c)
    simp[enc,one]at this ⊢;exact this
   have hpd:PR k L[k]=((En.key L[k] != v.id.text)&&((kB L v.id.text==-2)||decide ((L.length:Int)<cp)||((k:Int) != kB L v.id.text))):=by
    rw[hPR];unfold fP kB
    cases hh:dm En.key L v.id.text
    ·have bk:(dK (oq L) L.length==-2)=false:=by
      rw[beq_eq_false_iff_ne];unfold dK;split <;> omega
     simp[bk]
    ·simp
   have sV:=yA PR L k
   have hb5:b.length+2<b5.length:=(zMJ.1 hR.o).1
   cases d1:(En.key L[k] != v.id.text)
   ·have gG:PR k L[k]=false:=by rw[hpd];simp[d1]
    simp only[ad,↓Xn,↓Xo,↓Xg,↓Xd,↓Xe,↓Xf,Tryz.VΓ,Tryz.Γs,Xp,Xi,Nat.reduceAdd,Nat.reduceSub,Nat.reduceLT,Nat.reduceLeDiff,reduceIte,reduceCtorEq,Nat.reduceEqDiff,implies_true,forall_const,aa,ak,beq_self_eq_true,bne_self_eq_false,Int.reduceBEq,Int.reduceBNe,Int.reduceLT,Int.reduceLE,l3,l4,l7,l8,l60,l61,l62,ci,da,dS,dX,fG,iv,oC,zMK,zMP,zMO,zML,pc,af pc,pv,af pv,fb,d1]
    refine⟨⟨by omega,by omega⟩,by rw[aQ];omega,hY,jW,by omega,⟨k+1,_,l2,l6,rfl,rfl,by omega,hR.app _,by rw[w5 c gG];exact hE.kp ((Kp.refl _).app _),A0⟩,?_⟩
    rw[ax (show lk 62 _=some (.int .i64 ((k+1:Nat):Int)) from rfl)];omega
   ·cases d2:(kB L v.id.text==-2)
    ·cases d3:decide ((L.length:Int)<cp)
     ·cases d4:((k:Int) != kB L v.id.text)
      ·have gG:PR k L[k]=false:=by rw[hpd];simp[d1,d2,d3,d4]
       simp only[ad,↓Xn,↓Xo,↓Xg,↓Xd,↓Xe,↓Xf,Tryz.VΓ,Tryz.Γs,Xp,Xi,Nat.reduceAdd,Nat.reduceSub,Nat.reduceLT,Nat.reduceLeDiff,reduceIte,reduceCtorEq,Nat.reduceEqDiff,implies_true,forall_const,aa,ak,beq_self_eq_true,bne_self_eq_false,Int.reduceBEq,Int.reduceBNe,Int.reduceLT,Int.reduceLE,l3,l4,l7,l8,l60,l61,l62,ci,da,dS,dX,fG,iv,oC,zMK,zMP,zMO,zML,pc,af pc,pv,af pv,fb,d1,d2,d3,d4]
       refine⟨⟨by omega,by omega⟩,by rw[aQ];omega,hY,jW,by omega,⟨k+1,_,l2,l6,rfl,rfl,by omega,hR.app _,by rw[w5 c gG];exact hE.kp ((Kp.refl _).app _),A0⟩,?_⟩
       rw[ax (show lk 62 _=some (.int .i64 ((k+1:Nat):Int)) from rfl)];omega
      ·have gG:PR k L[k]=true:=by rw[hpd];simp[d1,d2,d3,d4]
       rcases hE with⟨rfl,za⟩|⟨q3,rfl,kJ⟩
       ·simp only[ad,↓Xn,↓Xo,↓Xg,↓Xd,↓Xe,↓Xf,Tryz.VΓ,Tryz.Γs,Xp,Xi,Nat.reduceAdd,Nat.reduceSub,Nat.reduceLT,Nat.reduceLeDiff,reduceIte,reduceCtorEq,Nat.reduceEqDiff,implies_true,forall_const,aa,ak,beq_self_eq_true,bne_self_eq_false,Int.reduceBEq,Int.reduceBNe,Int.reduceLT,Int.reduceLE,l3,l4,l7,l8,l60,l61,l62,ci,da,dS,dX,fG,iv,oC,zMK,zMP,zMO,zML,pc,af pc,pv,af pv,fb,d1,d2,d3,d4]
        have e1:dg PR L (k+1)=[L[k]]:=by rw[fy c gG,za];rfl
        refine⟨⟨by omega,by omega⟩,by rw[aQ];omega,hY,jW,by decide,⟨hY,by decide,by decide⟩,by omega,⟨k+1,_,l2,l6,rfl,rfl,by omega,hR.app _,.inr ⟨b5.length+2,by rw[e1];rfl,by rw[e1,show [L[k]].flatMap enc=enc L[k] by simp];exact a6 (by simp) _ 2⟩,fun q n h=>by cases h;omega⟩,?_⟩
        rw[ax (show lk 62 _=some (.int .i64 ((k+1:Nat):Int)) from rfl)];omega
       ·have o5:=(zMJ.1 kJ).1
        have CW:∀ (l:List ay) Z,(b5++l).set q3 Z=b5.set q3 Z++l:=fun l Z=>bS o5 l Z
        simp only[ad,↓Xn,↓Xo,↓Xg,↓Xd,↓Xe,↓Xf,Tryz.VΓ,Tryz.Γs,Xp,Xi,Nat.reduceAdd,Nat.reduceSub,Nat.reduceLT,Nat.reduceLeDiff,reduceIte,reduceCtorEq,Nat.reduceEqDiff,implies_true,forall_const,aa,ak,beq_self_eq_true,bne_self_eq_false,Int.reduceBEq,Int.reduceBNe,Int.reduceLT,Int.reduceLE,l3,l4,l7,l8,l60,l61,l62,ci,da,dS,dX,fG,iv,oC,zMK,zMP,zMO,zML,pc,af pc,pv,af pv,fb,d1,d2,d3,d4,af kJ,CW]
        have e1:(dg PR L (k+1)).length=(dg PR L k).length+1:=by rw[fy c gG];simp
        have e2:(dg PR L (k+1)).flatMap enc=(dg PR L k).flatMap enc++enc L[k]:=by rw[fy c gG];simp
        refine⟨⟨by omega,by omega⟩,by rw[aQ];omega,hY,jW,by decide,⟨hY,by unfold maxLen;omega,by omega⟩,by omega,⟨k+1,_,l2,l6,rfl,rfl,by omega,(hR.set (A0 _ _ rfl) _).app _,.inr ⟨b5.length+2,by rw[e1],by rw[e1,e2];exact a6 (by simp) _ 2⟩,fun q n h=>by cases h;omega⟩,?_⟩
        rw[ax (show lk 62 _=some (.int .i64 ((k+1:Nat):Int)) from rfl)];omega
     ·have gG:PR k L[k]=true:=by rw[hpd];simp[d1,d2,d3]
      rcases hE with⟨rfl,za⟩|⟨q3,rfl,kJ⟩
      ·simp only[ad,↓Xn,↓Xo,↓Xg,↓Xd,↓Xe,↓Xf,Tryz.VΓ,Tryz.Γs,Xp,Xi,Nat.reduceAdd,Nat.reduceSub,Nat.reduceLT,Nat.reduceLeDiff,reduceIte,reduceCtorEq,Nat.reduceEqDiff,implies_true,forall_const,aa,ak,beq_self_eq_true,bne_self_eq_false,Int.reduceBEq,Int.reduceBNe,Int.reduceLT,Int.reduceLE,l3,l4,l7,l8,l60,l61,l62,ci,da,dS,dX,fG,iv,oC,zMK,zMP,zMO,zML,pc,af pc,pv,af pv,fb,d1,d2,d3]
       have e1:dg PR L (k+1)=[L[k]]:=by rw[fy c gG,za];rfl
       refine⟨⟨by omega,by omega⟩,by rw[aQ];omega,hY,jW,by decide,⟨hY,by decide,by decide⟩,by omega,⟨k+1,_,l2,l6,rfl,rfl,by omega,hR.app _,.inr ⟨b5.length+2,by rw[e1];rfl,by rw[e1,show [L[k]].flatMap enc=enc L[k] by simp];exact a6 (by simp) _ 2⟩,fun q n h=>by cases h;omega⟩,?_⟩
       rw[ax (show lk 62 _=some (.int .i64 ((k+1:Nat):Int)) from rfl)];omega
      ·have o5:=(zMJ.1 kJ).1
       have CW:∀ (l:List ay) Z,(b5++l).set q3 Z=b5.set q3 Z++l:=fun l Z=>bS o5 l Z
       simp only[ad,↓Xn,↓Xo,↓Xg,↓Xd,↓Xe,↓Xf,Tryz.VΓ,Tryz.Γs,Xp,Xi,Nat.reduceAdd,Nat.reduceSub,Nat.reduceLT,Nat.reduceLeDiff,reduceIte,reduceCtorEq,Nat.reduceEqDiff,implies_true,forall_const,aa,ak,beq_self_eq_true,bne_self_eq_false,Int.reduceBEq,Int.reduceBNe,Int.reduceLT,Int.reduceLE,l3,l4,l7,l8,l60,l61,l62,ci,da,dS,dX,fG,iv,oC,zMK,zMP,zMO,zML,pc,af pc,pv,af pv,fb,d1,d2,d3,af kJ,CW]
       have e1:(dg PR L (k+1)).length=(dg PR L k).length+1:=by rw[fy c gG];simp
       have e2:(dg PR L (k+1)).flatMap enc=(dg PR L k).flatMap enc++enc L[k]:=by rw[fy c gG];simp
       refine⟨⟨by omega,by omega⟩,by rw[aQ];omega,hY,jW,by decide,⟨hY,by unfold maxLen;omega,by omega⟩,by omega,⟨k+1,_,l2,l6,rfl,rfl,by omega,(hR.set (A0 _ _ rfl) _).app _,.inr ⟨b5.length+2,by rw[e1],by rw[e1,e2];exact a6 (by simp) _ 2⟩,fun q n h=>by cases h;omega⟩,?_⟩
       rw[ax (show lk 62 _=some (.int .i64 ((k+1:Nat):Int)) from rfl)];omega
    ·have gG:PR k L[k]=true:=by rw[hpd];simp[d1,d2]
     rcases hE with⟨rfl,za⟩|⟨q3,rfl,kJ⟩
     ·simp only[ad,↓Xn,↓Xo,↓Xg,↓Xd,↓Xe,↓Xf,Tryz.VΓ,Tryz.Γs,Xp,Xi,Nat.reduceAdd,Nat.reduceSub,Nat.reduceLT,Nat.reduceLeDiff,reduceIte,reduceCtorEq,Nat.reduceEqDiff,implies_true,forall_const,aa,ak,beq_self_eq_true,bne_self_eq_false,Int.reduceBEq,Int.reduceBNe,Int.reduceLT,Int.reduceLE,l3,l4,l7,l8,l60,l61,l62,ci,da,dS,dX,fG,iv,oC,zMK,zMP,zMO,zML,pc,af pc,pv,af pv,fb,d1,d2]
      have e1:dg PR L (k+1)=[L[k]]:=by rw[fy c gG,za];rfl
      refine⟨⟨by omega,by omega⟩,by rw[aQ];omega,hY,jW,by decide,⟨hY,by decide,by decide⟩,by omega,⟨k+1,_,l2,l6,rfl,rfl,by omega,hR.app _,.inr ⟨b5.length+2,by rw[e1];rfl,by rw[e1,show [L[k]].flatMap enc=enc L[k] by simp];exact a6 (by simp) _ 2⟩,fun q n h=>by cases h;omega⟩,?_⟩
      rw[ax (show lk 62 _=some (.int .i64 ((k+1:Nat):Int)) from rfl)];omega
     ·have o5:=(zMJ.1 kJ).1
      have CW:∀ (l:List ay) Z,(b5++l).set q3 Z=b5.set q3 Z++l:=fun l Z=>bS o5 l Z
      simp only[ad,↓Xn,↓Xo,↓Xg,↓Xd,↓Xe,↓Xf,Tryz.VΓ,Tryz.Γs,Xp,Xi,Nat.reduceAdd,Nat.reduceSub,Nat.reduceLT,Nat.reduceLeDiff,reduceIte,reduceCtorEq,Nat.reduceEqDiff,implies_true,forall_const,aa,ak,beq_self_eq_true,bne_self_eq_false,Int.reduceBEq,Int.reduceBNe,Int.reduceLT,Int.reduceLE,l3,l4,l7,l8,l60,l61,l62,ci,da,dS,dX,fG,iv,oC,zMK,zMP,zMO,zML,pc,af pc,pv,af pv,fb,d1,d2,af kJ,CW]
      have e1:(dg PR L (k+1)).length=(dg PR L k).length+1:=by rw[fy c gG];simp
      have e2:(dg PR L (k+1)).flatMap enc=(dg PR L k).flatMap enc++enc L[k]:=by rw[fy c gG];simp
      refine⟨⟨by omega,by omega⟩,by rw[aQ];omega,hY,jW,by decide,⟨hY,by unfold maxLen;omega,by omega⟩,by omega,⟨k+1,_,l2,l6,rfl,rfl,by omega,(hR.set (A0 _ _ rfl) _).app _,.inr ⟨b5.length+2,by rw[e1],by rw[e1,e2];exact a6 (by simp) _ 2⟩,fun q n h=>by cases h;omega⟩,?_⟩
      rw[ax (show lk 62 _=some (.int .i64 ((k+1:Nat):Int)) from rfl)];omega
  ·have ci:decide ((k:Int)<(L.length:Int))=false:=by simpa using c
   obtain rfl:k=L.length:=by omega
   simp only[ad,↓Xn,↓Xo,↓Xg,↓Xd,↓Xe,↓Xf,Tryz.VΓ,Tryz.Γs,Xp,Xi,Nat.reduceAdd,Nat.reduceSub,Nat.reduceLT,Nat.reduceLeDiff,reduceIte,reduceCtorEq,Nat.reduceEqDiff,implies_true,forall_const,aa,ak,beq_self_eq_true,bne_self_eq_false,Int.reduceBEq,Int.reduceBNe,Int.reduceLT,Int.reduceLE,l60,l61,l62,ci]
   refine hk' _ _ ?_
   exact⟨l2,l3,l4,l6,hR,x1,l7,hE,A0⟩
 rintro m6 ⟨t6,b6⟩ ⟨l2,l3,l4,l6,hR,x1,l7,hE,A0⟩
 simp only at l2 l3 l4 l6 l7 hR hE
 have hb6:b.length+2<b6.length:=(zMJ.1 hR.o).1
 refine aK 2300 (fun σ=>lk 2 σ.t=some (.int .u64 now)∧lk 4 σ.t=some (.p (b.length+1) 0)∧lk 6 σ.t=some (.p (b.length+2) 0)∧lk 7 σ.t=some x1∧lk 13 σ.t=some (.p b6.length 0)∧σ.b=b6++[.cells [.int .i64 cp,.aD] 24 true]) ?_ (fun k' hk'=>?_)
 rotate_left
 ·have pc:=hR.c
  simp only[ad,↓Xn,↓Xo,↓Xg,↓Xd,↓Xe,↓Xf,Tryz.VΓ,Tryz.Γs,Xp,Xi,Nat.reduceAdd,Nat.reduceSub,Nat.reduceLT,Nat.reduceLeDiff,reduceIte,reduceCtorEq,Nat.reduceEqDiff,implies_true,forall_const,aa,ak,beq_self_eq_true,bne_self_eq_false,Int.reduceBEq,Int.reduceBNe,Int.reduceLT,Int.reduceLE,l3,pc]
  refine hk' _ _ ?_
  exact⟨l2,l4,l6,l7,rfl,rfl⟩
 rintro m7 ⟨t7,b7⟩ ⟨l2,l4,l6,l7,l13,rfl⟩
 simp only at l2 l4 l6 l7 l13
 refine aK 2200 (fun σ=>lk 4 σ.t=some (.p (b.length+1) 0)∧lk 6 σ.t=some (.p (b.length+2) 0)∧lk 7 σ.t=some x1∧lk 13 σ.t=some (.p b6.length 0)∧lk 14 σ.t=some (.p (b6.length+1) 0)∧σ.b=b6++[.cells [.int .i64 cp,.aD] 24 true,.cells (enc (lp v now)) 43 true]) ?_ (fun k' hk'=>?_)
 rotate_left
 ·have pv:=hR.v
  have sS:eJ v=[.int .i64 v.err,.int .i64 v.id.kind,.str v.id.text,.str v.id.host,.int .i64 v.id.port,.int .i64 v.cP.kind,.str v.cP.text,.str v.cP.host,.int .i64 v.cP.port,.bool v.store,.int .u64 v.dU,v.tr]:=rfl
  rw[sS]at pv
  have hne1:¬ b.length+1=b6.length+1:=by omega
  simp only[ad,↓Xn,↓Xo,↓Xg,↓Xd,↓Xe,↓Xf,Tryz.VΓ,Tryz.Γs,Xp,Xi,Nat.reduceAdd,Nat.reduceSub,Nat.reduceLT,Nat.reduceLeDiff,reduceIte,reduceCtorEq,Nat.reduceEqDiff,implies_true,forall_const,aa,ak,beq_self_eq_true,bne_self_eq_false,Int.reduceBEq,Int.reduceBNe,Int.reduceLT,Int.reduceLE,l2,l4,pv,af pv,hv1]
  refine aV mw ?_
  simp only[ad,↓Xn,↓Xo,↓Xg,↓Xd,↓Xe,↓Xf,Tryz.VΓ,Tryz.Γs,Xp,Xi,Nat.reduceAdd,Nat.reduceSub,Nat.reduceLT,Nat.reduceLeDiff,reduceIte,reduceCtorEq,Nat.reduceEqDiff,implies_true,forall_const,aa,ak,beq_self_eq_true,bne_self_eq_false,Int.reduceBEq,Int.reduceBNe,Int.reduceLT,Int.reduceLE,l2,l4,pv,af pv,hv1]
  refine⟨(by
   refine eT (fun n=>if n=b6.length+1 then 0 else 1) ?_
   simp only[zMU,zMV,fO,kK,reduceIte,hne1]
   exact av (by kernel_rfl)),?_⟩
  refine hk' _ _ ?_
  exact⟨l4,l6,l7,l13,rfl,rfl⟩
 rintro m8 ⟨t8,b8⟩ ⟨l4,l6,l7,l13,l14,rfl⟩
 simp only at l4 l6 l7 l13 l14
 have hE':=hE
 have hqb':=A0
 clear hE A0
 obtain⟨KL,hKL⟩:∃ KL,KL=dg PR L L.length:=⟨_,rfl⟩
 rw[← hKL]at hE' hLP
 have hKl:KL.length≤1000000:=by rw[hKL];have:=yA PR L L.length;omega
 have hK1:∀ e∈KL,one e.v.tr=true:=fun e he=>v8 e (AO _ (hKL ▸ he))
 have hR0:R2 b b6.length cp v now x1 KL .aD [] (b6++[.cells [.int .i64 cp,.aD] 24 true,.cells (enc (lp v now)) 43 true]):=⟨hb6,hR.kp.app _,af hR.v _,af hR.o _,a6 rfl _ 0,a6 rfl _ 1,hE'.kp ((Kp.refl _).app _),.inl ⟨rfl,rfl⟩,fun q k e=>⟨hqb' q k e,by subst e;rcases hE' with⟨h,-⟩|⟨q',h,hq'⟩ <;> cases h;exact(zMJ.1 hq').1⟩,fun q k e=>by cases e⟩
 have hlen1:∀ e,nm (.slice e) x1=some (.int .i64 KL.length):=fun e=>by
  rcases hE' with⟨rfl,h0⟩|⟨q,rfl,-⟩
  ·rw[h0];rfl
  ·rfl
 have ho1:=hE'.one
 generalize hn:b6.length=n at *
 generalize hB:b6++[.cells [.int .i64 cp,.aD] 24 true,.cells (enc (lp v now)) 43 true]=b8 at hR0 ⊢
 clear hB hR hE' hqb' hn hb6 hKL hPR mw ho fb hw h
 have oC:(eJ v)[2]? = some (.str v.id.text):=rfl
 have jW:3≤(eJ v).length:=by rw[AX];decide
 refine aK 2100 (fun σ=>lk 4 σ.t=some (.p (b.length+1) 0)∧lk 6 σ.t=some (.p (b.length+2) 0)∧lk 7 σ.t=some x1∧lk 13 σ.t=some (.p n 0)∧lk 14 σ.t=some (.p (n+1) 0)∧∃ x2,R2 b n cp v now x1 KL x2 (KL.filter fun y=>blt y.key v.id.text) σ.b) ?_ (fun k' hk'=>?_)
 rotate_left
 ·simp only[ad,↓Xn,↓Xo,↓Xg,↓Xd,↓Xe,↓Xf,Tryz.VΓ,Tryz.Γs,Xp,Xi,Nat.reduceAdd,Nat.reduceSub,Nat.reduceLT,Nat.reduceLeDiff,reduceIte,reduceCtorEq,Nat.reduceEqDiff,implies_true,forall_const,aa,ak,beq_self_eq_true,bne_self_eq_false,Int.reduceBEq,Int.reduceBNe,Int.reduceLT,Int.reduceLE,l7,hlen1,ho1]
  refine aJ (fun σ=>∃ (k:Nat) (x2:SV),lk 4 σ.t=some (.p (b.length+1) 0)∧lk 6 σ.t=some (.p (b.length+2) 0)∧lk 7 σ.t=some x1∧lk 13 σ.t=some (.p n 0)∧lk 14 σ.t=some (.p (n+1) 0)∧lk 108 σ.t=some x1∧lk 109 σ.t=some (.int .i64 KL.length)∧lk 110 σ.t=some (.int .i64 k)∧k≤KL.length∧R2 b n cp v now x1 KL x2 ((KL.take k).filter fun y=>blt y.key v.id.text) σ.b) (fun σ=>KL.length - iH 110 σ) ⟨0,.aD,l4,l6,l7,l13,l14,rfl,rfl,rfl,by omega,hR0⟩ ?_
  clear l4 l6 l7 l13 l14 hR0
  rintro⟨t5,b5⟩ ⟨k,x2,l4,l6,l7,l13,l14,l108,l109,l110,hk,hR⟩
  simp only at l4 l6 l7 l13 l14 l108 l109 l110 hR
  rw[ax l110]
  by_cases c:k<KL.length
  ·have ci:decide ((k:Int)<(KL.length:Int))=true:=by simpa using c
   obtain⟨q,rfl,da⟩:∃ q,x1=.o q KL.length∧b5[q]? = some (.own (KL.flatMap enc) 43 14 KL.length true):=by
    rcases hR.h1 with⟨rfl,h0⟩|h
    ·rw[h0]at c;simp at c
    ·exact h
   have pu:=hR.u
   have pv:=hR.vv
   have aA:=hR.lt
   have dS:=gd KL k c
   have dX:(enc KL[k]).length=14:=rfl
   have fG:(enc KL[k]).take 14=enc KL[k]:=zMN (by rw[dX];omega)
   have iv:(enc KL[k])[2]? = some (.str (En.key KL[k])):=rfl
   have hY:(enc KL[k]).all one=true:=by
    have:=hK1 _ (zMM c)
    simp[enc,one]at this ⊢;exact this
   have hn5:n<b5.length:=(zMJ.1 pu).1
   cases hd:Op.bytesLess (En.key KL[k]) v.id.text
   ·simp only[ad,↓Xn,↓Xo,↓Xg,↓Xd,↓Xe,↓Xf,Tryz.VΓ,Tryz.Γs,Xp,Xi,Nat.reduceAdd,Nat.reduceSub,Nat.reduceLT,Nat.reduceLeDiff,reduceIte,reduceCtorEq,Nat.reduceEqDiff,implies_true,forall_const,aa,ak,beq_self_eq_true,bne_self_eq_false,Int.reduceBEq,Int.reduceBNe,Int.reduceLT,Int.reduceLE,l4,l6,l7,l13,l14,l108,l109,l110,ci,da,dS,dX,fG,iv,oC,pv,af pv,hd,zMK,zMP,zMO,zML]
    refine⟨⟨by omega,by omega⟩,by rw[aQ];omega,hY,jW,by omega,⟨k+1,x2,rfl,by omega,by rw[Bj c hd];exact hR.app _⟩,?_⟩
    rw[ax (show lk 110 _=some (.int .i64 ((k+1:Nat):Int)) from rfl)];omega
   ·have e2:((KL.take (k+1)).filter fun y=>blt y.key v.id.text)=((KL.take k).filter fun y=>blt y.key v.id.text)++[KL[k]]:=Bk c hd
    have mg:((KL.take k).filter fun y=>blt y.key v.id.text).length≤k:=Nat.le_trans (zMT _ _) (by rw[List.length_take];omega)
    rcases hR.h2 with⟨rfl,za⟩|⟨q3,rfl,kJ⟩
    ·have eV:∀ (l:List ay) Z,(b5++l).set n Z=b5.set n Z++l:=fun l Z=>bS hn5 l Z
     simp only[ad,↓Xn,↓Xo,↓Xg,↓Xd,↓Xe,↓Xf,Tryz.VΓ,Tryz.Γs,Xp,Xi,Nat.reduceAdd,Nat.reduceSub,Nat.reduceLT,Nat.reduceLeDiff,reduceIte,reduceCtorEq,Nat.reduceEqDiff,implies_true,forall_const,aa,ak,beq_self_eq_true,bne_self_eq_false,Int.reduceBEq,Int.reduceBNe,Int.reduceLT,Int.reduceLE,l4,l6,l7,l13,l14,l108,l109,l110,ci,da,dS,dX,fG,iv,oC,pv,af pv,hd,pu,af pu,eV,zMK,zMP,zMO,zML]
     rw[za,List.nil_append]at e2
     refine⟨⟨by omega,by omega⟩,by rw[aQ];omega,hY,jW,by decide,⟨hY,by decide,by decide⟩,by omega,⟨k+1,_,rfl,by omega,by rw[e2];exact hR.new (M':=[KL[k]]) (j:=2) (by simp) (by simp) (by simp)⟩,?_⟩
     rw[ax (show lk 110 _=some (.int .i64 ((k+1:Nat):Int)) from rfl)];omega
    ·have o5:=(zMJ.1 kJ).1
     have hq3n:=hR.q2 _ _ rfl
     have CW:∀ (l:List ay) Z,(b5++l).set q3 Z=b5.set q3 Z++l:=fun l Z=>bS o5 l Z
     have fK:∀ Y (l:List ay) Z,(b5.set q3 Y++l).set n Z=(b5.set q3 Y).set n Z++l:=fun Y l Z=>bS (by rw[zMR];omega) l Z
     have hg2:∀ Y,(b5.set q3 Y)[n]? = _:=fun Y=>aF pu (by omega) Y
     simp only[ad,↓Xn,↓Xo,↓Xg,↓Xd,↓Xe,↓Xf,Tryz.VΓ,Tryz.Γs,Xp,Xi,Nat.reduceAdd,Nat.reduceSub,Nat.reduceLT,Nat.reduceLeDiff,reduceIte,reduceCtorEq,Nat.reduceEqDiff,implies_true,forall_const,aa,ak,beq_self_eq_true,bne_self_eq_false,Int.reduceBEq,Int.reduceBNe,Int.reduceLT,Int.reduceLE,l4,l6,l7,l13,l14,l108,l109,l110,ci,da,dS,dX,fG,iv,oC,pv,af pv,hd,pu,af pu,af kJ,CW,fK,af (hg2 _),zMK,zMP,zMO,zML]
     refine⟨⟨by omega,by omega⟩,by rw[aQ];omega,hY,jW,by decide,⟨hY,by unfold maxLen;omega,by omega⟩,by omega,⟨k+1,_,rfl,by omega,by rw[e2];exact hR.G1 (by simp) (by simp)⟩,?_⟩
     rw[ax (show lk 110 _=some (.int .i64 ((k+1:Nat):Int)) from rfl)];omega
  ·have ci:decide ((k:Int)<(KL.length:Int))=false:=by simpa using c
   obtain rfl:k=KL.length:=by omega
   rw[List.take_length]at hR
   simp only[ad,↓Xn,↓Xo,↓Xg,↓Xd,↓Xe,↓Xf,Tryz.VΓ,Tryz.Γs,Xp,Xi,Nat.reduceAdd,Nat.reduceSub,Nat.reduceLT,Nat.reduceLeDiff,reduceIte,reduceCtorEq,Nat.reduceEqDiff,implies_true,forall_const,aa,ak,beq_self_eq_true,bne_self_eq_false,Int.reduceBEq,Int.reduceBNe,Int.reduceLT,Int.reduceLE,l108,l109,l110,ci]
   refine hk' _ _ ?_
   exact⟨l4,l6,l7,l13,l14,x2,hR⟩
 rintro m9 ⟨t9,b9⟩ ⟨l4,l6,l7,l13,l14,x2,hR⟩
 simp only at l4 l6 l7 l13 l14 hR
 clear hR0
 obtain⟨F,hF⟩:∃ F,F=KL.filter fun y=>blt y.key v.id.text:=⟨_,rfl⟩
 have hFl:F.length≤KL.length:=by rw[hF];exact zMT _ _
 rw[← hF]at hR
 have h1m:(enc (lp v now)).all one=true:=by
  simp[enc,lp,one]at hv1 ⊢;exact hv1
 have hem:(enc (lp v now)).length=14:=rfl
 have htm:(enc (lp v now)).take 14=enc (lp v now):=zMN (by rw[hem];omega)
 refine aK 2000 (fun σ=>lk 4 σ.t=some (.p (b.length+1) 0)∧lk 6 σ.t=some (.p (b.length+2) 0)∧lk 7 σ.t=some x1∧lk 13 σ.t=some (.p n 0)∧∃ x2,R2 b n cp v now x1 KL x2 (F++[lp v now]) σ.b) ?_ (fun k' hk'=>?_)
 rotate_left
 ·have pu:=hR.u
  have pe:=hR.e
  have hn5:n<b9.length:=(zMJ.1 pu).1
  rcases hR.h2 with⟨rfl,za⟩|⟨q3,rfl,kJ⟩
  ·have eV:∀ (l:List ay) Z,(b9++l).set n Z=b9.set n Z++l:=fun l Z=>bS hn5 l Z
   simp only[ad,↓Xn,↓Xo,↓Xg,↓Xd,↓Xe,↓Xf,Tryz.VΓ,Tryz.Γs,Xp,Xi,Nat.reduceAdd,Nat.reduceSub,Nat.reduceLT,Nat.reduceLeDiff,reduceIte,reduceCtorEq,Nat.reduceEqDiff,implies_true,forall_const,aa,ak,beq_self_eq_true,bne_self_eq_false,Int.reduceBEq,Int.reduceBNe,Int.reduceLT,Int.reduceLE,l4,l6,l7,l13,l14,hem,htm,pe,af pe,pu,af pu,eV,zML]
   refine⟨by decide,⟨h1m,by decide,by decide⟩,?_⟩
   refine hk' _ _ ?_
   exact⟨l4,l6,l7,l13,_,by rw[za];exact hR.new (M':=[lp v now]) (j:=1) (by simp) (by simp) (by simp)⟩
  ·have o5:=(zMJ.1 kJ).1
   have hq3n:=hR.q2 _ _ rfl
   have CW:∀ (l:List ay) Z,(b9++l).set q3 Z=b9.set q3 Z++l:=fun l Z=>bS o5 l Z
   have fK:∀ Y (l:List ay) Z,(b9.set q3 Y++l).set n Z=(b9.set q3 Y).set n Z++l:=fun Y l Z=>bS (by rw[zMR];omega) l Z
   have hg2:∀ Y,(b9.set q3 Y)[n]? = _:=fun Y=>aF pu (by omega) Y
   simp only[ad,↓Xn,↓Xo,↓Xg,↓Xd,↓Xe,↓Xf,Tryz.VΓ,Tryz.Γs,Xp,Xi,Nat.reduceAdd,Nat.reduceSub,Nat.reduceLT,Nat.reduceLeDiff,reduceIte,reduceCtorEq,Nat.reduceEqDiff,implies_true,forall_const,aa,ak,beq_self_eq_true,bne_self_eq_false,Int.reduceBEq,Int.reduceBNe,Int.reduceLT,Int.reduceLE,l4,l6,l7,l13,l14,hem,htm,pe,af pe,pu,af pu,af kJ,CW,fK,af (hg2 _),zML]
   refine⟨by decide,⟨h1m,by unfold maxLen;omega,by omega⟩,?_⟩
   refine hk' _ _ ?_
   exact⟨l4,l6,l7,l13,_,hR.G1 (by simp) (by simp)⟩
 clear hR
 rintro m10 ⟨t10,b10⟩ ⟨l4,l6,l7,l13,x2,hR⟩
 simp only at l4 l6 l7 l13 hR
 obtain⟨G,hG⟩:∃ G,G=F++[lp v now]:=⟨_,rfl⟩
 have hGl:G.length≤KL.length+1:=by rw[hG];simp;omega
 rw[← hG]at hR
 have hLP2:LP=G++KL.filter fun y=>blt v.id.text y.key:=by rw[hLP,hG,hF];rfl
 refine aK 1900 (fun σ=>lk 6 σ.t=some (.p (b.length+2) 0)∧lk 13 σ.t=some (.p n 0)∧∃ x2,R2 b n cp v now x1 KL x2 LP σ.b) ?_ (fun k' hk'=>?_)
 rotate_left
 ·simp only[ad,↓Xn,↓Xo,↓Xg,↓Xd,↓Xe,↓Xf,Tryz.VΓ,Tryz.Γs,Xp,Xi,Nat.reduceAdd,Nat.reduceSub,Nat.reduceLT,Nat.reduceLeDiff,reduceIte,reduceCtorEq,Nat.reduceEqDiff,implies_true,forall_const,aa,ak,beq_self_eq_true,bne_self_eq_false,Int.reduceBEq,Int.reduceBNe,Int.reduceLT,Int.reduceLE,l7,hlen1,ho1]
  refine aJ (fun σ=>∃ (k:Nat) (x2:SV),lk 4 σ.t=some (.p (b.length+1) 0)∧lk 6 σ.t=some (.p (b.length+2) 0)∧lk 7 σ.t=some x1∧lk 13 σ.t=some (.p n 0)∧lk 135 σ.t=some x1∧lk 136 σ.t=some (.int .i64 KL.length)∧lk 137 σ.t=some (.int .i64 k)∧k≤KL.length∧R2 b n cp v now x1 KL x2 (G++(KL.take k).filter fun y=>blt v.id.text y.key) σ.b) (fun σ=>KL.length - iH 137 σ) ⟨0,x2,l4,l6,l7,l13,rfl,rfl,rfl,by omega,by simpa using hR⟩ ?_
  clear l4 l6 l7 l13 hR
  rintro⟨t5,b5⟩ ⟨k,x2,l4,l6,l7,l13,l135,l136,l137,hk,hR⟩
  simp only at l4 l6 l7 l13 l135 l136 l137 hR
  rw[ax l137]
  by_cases c:k<KL.length
  ·have ci:decide ((k:Int)<(KL.length:Int))=true:=by simpa using c
   obtain⟨q,rfl,da⟩:∃ q,x1=.o q KL.length∧b5[q]? = some (.own (KL.flatMap enc) 43 14 KL.length true):=by
    rcases hR.h1 with⟨rfl,h0⟩|h
    ·rw[h0]at c;simp at c
    ·exact h
   have pu:=hR.u
   have pv:=hR.vv
   have aA:=hR.lt
   have dS:=gd KL k c
   have dX:(enc KL[k]).length=14:=rfl
   have fG:(enc KL[k]).take 14=enc KL[k]:=zMN (by rw[dX];omega)
   have iv:(enc KL[k])[2]? = some (.str (En.key KL[k])):=rfl
   have hY:(enc KL[k]).all one=true:=by
    have:=hK1 _ (zMM c)
    simp[enc,one]at this ⊢;exact this
   have hn5:n<b5.length:=(zMJ.1 pu).1
   have mB:(!(Op.bytesLess (En.key KL[k]) v.id.text||En.key KL[k]==v.id.text))=blt v.id.text (En.key KL[k]):=blt_gt _ _
   cases hd:blt v.id.text (En.key KL[k]) <;> rw[hd]at mB
   ·simp only[ad,↓Xn,↓Xo,↓Xg,↓Xd,↓Xe,↓Xf,Tryz.VΓ,Tryz.Γs,Xp,Xi,Nat.reduceAdd,Nat.reduceSub,Nat.reduceLT,Nat.reduceLeDiff,reduceIte,reduceCtorEq,Nat.reduceEqDiff,implies_true,forall_const,aa,ak,beq_self_eq_true,bne_self_eq_false,Int.reduceBEq,Int.reduceBNe,Int.reduceLT,Int.reduceLE,l4,l6,l7,l13,l135,l136,l137,ci,da,dS,dX,fG,iv,oC,pv,af pv,mB,zMK,zMP,zMO,zML]
    refine⟨⟨by omega,by omega⟩,by rw[aQ];omega,hY,jW,by omega,⟨k+1,x2,rfl,by omega,by rw[Bj c hd];exact hR.app _⟩,?_⟩
    rw[ax (show lk 137 _=some (.int .i64 ((k+1:Nat):Int)) from rfl)];omega
   ·obtain⟨M0,hM0⟩:∃ M0,M0=(G++(KL.take k).filter fun y=>blt v.id.text y.key):=⟨_,rfl⟩
    have e2:(G++(KL.take (k+1)).filter fun y=>blt v.id.text y.key)=M0++[KL[k]]:=by rw[hM0,Bk c hd,List.append_assoc]
    have mg:M0.length≤k+KL.length+1:=by
     have:((KL.take k).filter fun y=>blt v.id.text y.key).length≤k:=Nat.le_trans (zMT _ _) (by rw[List.length_take];omega)
     rw[hM0,List.length_append];omega
    rw[← hM0]at hR
    clear hM0
    rcases hR.h2 with⟨rfl,za⟩|⟨q3,rfl,kJ⟩
    ·have eV:∀ (l:List ay) Z,(b5++l).set n Z=b5.set n Z++l:=fun l Z=>bS hn5 l Z
     simp only[ad,↓Xn,↓Xo,↓Xg,↓Xd,↓Xe,↓Xf,Tryz.VΓ,Tryz.Γs,Xp,Xi,Nat.reduceAdd,Nat.reduceSub,Nat.reduceLT,Nat.reduceLeDiff,reduceIte,reduceCtorEq,Nat.reduceEqDiff,implies_true,forall_const,aa,ak,beq_self_eq_true,bne_self_eq_false,Int.reduceBEq,Int.reduceBNe,Int.reduceLT,Int.reduceLE,l4,l6,l7,l13,l135,l136,l137,ci,da,dS,dX,fG,iv,oC,pv,af pv,mB,pu,af pu,eV,zMK,zMP,zMO,zML]
     rw[za,List.nil_append]at e2
     refine⟨⟨by omega,by omega⟩,by rw[aQ];omega,hY,jW,by decide,⟨hY,by decide,by decide⟩,by omega,⟨k+1,_,rfl,by omega,by rw[e2];exact hR.new (M':=[KL[k]]) (j:=2) (by simp) (by simp) (by simp)⟩,?_⟩
     rw[ax (show lk 137 _=some (.int .i64 ((k+1:Nat):Int)) from rfl)];omega
    ·have o5:=(zMJ.1 kJ).1
     have hq3n:=hR.q2 _ _ rfl
     have CW:∀ (l:List ay) Z,(b5++l).set q3 Z=b5.set q3 Z++l:=fun l Z=>bS o5 l Z
     have fK:∀ Y (l:List ay) Z,(b5.set q3 Y++l).set n Z=(b5.set q3 Y).set n Z++l:=fun Y l Z=>bS (by rw[zMR];omega) l Z
     have hg2:∀ Y,(b5.set q3 Y)[n]? = _:=fun Y=>aF pu (by omega) Y
     simp only[ad,↓Xn,↓Xo,↓Xg,↓Xd,↓Xe,↓Xf,Tryz.VΓ,Tryz.Γs,Xp,Xi,Nat.reduceAdd,Nat.reduceSub,Nat.reduceLT,Nat.reduceLeDiff,reduceIte,reduceCtorEq,Nat.reduceEqDiff,implies_true,forall_const,aa,ak,beq_self_eq_true,bne_self_eq_false,Int.reduceBEq,Int.reduceBNe,Int.reduceLT,Int.reduceLE,l4,l6,l7,l13,l135,l136,l137,ci,da,dS,dX,fG,iv,oC,pv,af pv,mB,pu,af pu,af kJ,CW,fK,af (hg2 _),zMK,zMP,zMO,zML]
     refine⟨⟨by omega,by omega⟩,by rw[aQ];omega,hY,jW,by decide,⟨hY,by unfold maxLen;omega,by omega⟩,by omega,⟨k+1,_,rfl,by omega,by rw[e2];exact hR.G1 (by simp) (by simp)⟩,?_⟩
     rw[ax (show lk 137 _=some (.int .i64 ((k+1:Nat):Int)) from rfl)];omega
  ·have ci:decide ((k:Int)<(KL.length:Int))=false:=by simpa using c
   obtain rfl:k=KL.length:=by omega
   rw[List.take_length,← hLP2]at hR
   simp only[ad,↓Xn,↓Xo,↓Xg,↓Xd,↓Xe,↓Xf,Tryz.VΓ,Tryz.Γs,Xp,Xi,Nat.reduceAdd,Nat.reduceSub,Nat.reduceLT,Nat.reduceLeDiff,reduceIte,reduceCtorEq,Nat.reduceEqDiff,implies_true,forall_const,aa,ak,beq_self_eq_true,bne_self_eq_false,Int.reduceBEq,Int.reduceBNe,Int.reduceLT,Int.reduceLE,l135,l136,l137,ci]
   refine hk' _ _ ?_
   exact⟨l6,l13,x2,hR⟩
 rintro m11 ⟨t11,b11⟩ ⟨l6,l13,x3,hR⟩
 simp only at l6 l13 hR
 have pu:=hR.u
 have po:=hR.o
 have ho3:=hR.h2.one
 have aA:=hR.lt
 have hs:∀ X,(b11.set (b.length+2) X)[b.length+2]? = some X:=fun X=>zMQ (zMJ.1 po).1
 simp only[ad,↓Xn,↓Xo,↓Xg,↓Xd,↓Xe,↓Xf,Tryz.VΓ,Tryz.Γs,Xp,Xi,Nat.reduceAdd,Nat.reduceSub,Nat.reduceLT,Nat.reduceLeDiff,reduceIte,reduceCtorEq,Nat.reduceEqDiff,implies_true,forall_const,aa,ak,beq_self_eq_true,bne_self_eq_false,Int.reduceBEq,Int.reduceBNe,Int.reduceLT,Int.reduceLE,l6,l13,pu,po,ho3,hs]
 exact⟨hR.kp.set (by omega) _,x3,true,rfl,hR.h2.setN (fun q k e=>by have:=hR.q2 q k e;omega) _,.inl rfl⟩
end
open Go Vc Go.RowKit Wf
theorem u64w {n:Int}(h0:0≤n)(h:n<18446744073709551616):IntKind.u64.wrap n=n:=by
 simp only[IntKind.wrap,IntKind.signed,IntKind.bits];simp;omega
theorem u64o {n:Int}(h0:18446744073709551616≤n)(h:n<36893488147419103232):IntKind.u64.wrap n=n - 18446744073709551616:=by
 simp only[IntKind.wrap,IntKind.signed,IntKind.bits];simp;omega
theorem E1 {a b:Int}(ha:0≤a∧a<18446744073709551616)(hb:0≤b∧b<18446744073709551616):PC Tryz.V 31 [.int .u64 a,.int .u64 b] (.int .u64 (jS a b)):=by
 have hw:=u64w (n:=18446744073709551615 - b) (by omega) (by omega)
 by_cases h:a+b<18446744073709551616
 ·have e1:=u64w (n:=a+b) (by omega) h
  have e2:jS a b=a+b:=by unfold jS;rw[e1,if_neg (by omega)]
  have hd:decide (18446744073709551615 - b<a)=false:=by simp;omega
  rw[e2]
  refine aU 3000 Tryz.func31 rfl Tryz.ntmps31 Tryz.results31 Tryz.call31 (by simp) (by simp[flat,flat.ai]) (by simp[flat,flat.ai]) ?_
  simp only[ad,↓Xn,↓Xo,↓Xg,↓Xd,↓Xe,↓Xf,Tryz.VΓ,Tryz.Γs,Xp,Xi,Nat.reduceAdd,Nat.reduceSub,Nat.reduceLT,Nat.reduceLeDiff,reduceIte,reduceCtorEq,Nat.reduceEqDiff,implies_true,forall_const,aa,beq_self_eq_true,bne_self_eq_false,Int.reduceBEq,Int.reduceBNe,Int.reduceLT,Int.reduceLE,hw,hd,e1]
 ·have e1:=u64o (n:=a+b) (by omega) (by omega)
  have e2:jS a b=18446744073709551615:=by unfold jS;rw[e1,if_pos (by omega)]
  have hd:decide (18446744073709551615 - b<a)=true:=by simp;omega
  rw[e2]
  refine aU 3000 Tryz.func31 rfl Tryz.ntmps31 Tryz.results31 Tryz.call31 (by simp) (by simp[flat,flat.ai]) (by simp[flat,flat.ai]) ?_
  simp only[ad,↓Xn,↓Xo,↓Xg,↓Xd,↓Xe,↓Xf,Tryz.VΓ,Tryz.Γs,Xp,Xi,Nat.reduceAdd,Nat.reduceSub,Nat.reduceLT,Nat.reduceLeDiff,reduceIte,reduceCtorEq,Nat.reduceEqDiff,implies_true,forall_const,aa,beq_self_eq_true,bne_self_eq_false,Int.reduceBEq,Int.reduceBNe,Int.reduceLT,Int.reduceLE,hw,hd,e1]
def kv (c:Int):List SV:=[.int .u8 c]
theorem GB (L:List Int)(k:Nat)(h:k<L.length):(L.flatMap kv)[k]? = some (.int .u8 L[k]):=by
 induction L generalizing k with
 | nil=>simp at h
 | cons a L ih =>
   rw[List.flatMap_cons]
   cases k with
   | zero=>rfl
   | succ k=>simpa[kv] using ih k (by simpa using h)
theorem GA (a:Int)(L:List Int):((a::L).flatMap kv).drop 1=L.flatMap kv:=by rw[List.flatMap_cons];rfl
def s4 (i:Nat)(bs b:List ay):Prop:=bs.length≤b.length∧∀ k,k<bs.length→k≠i→b[k]? = bs[k]?
theorem s4.refl (i:Nat)(bs:List ay):s4 i bs bs:=⟨Nat.le_refl _,fun _ _ _=>rfl⟩
theorem s4.trans {i:Nat}{a b c:List ay}(h:s4 i a b)(k:s4 i b c):s4 i a c:=⟨Nat.le_trans h.1 k.1,fun q hq hn=>(k.2 q (Nat.lt_of_lt_of_le hq h.1) hn).trans (h.2 q hq hn)⟩
theorem s4.app {i:Nat}{a b:List ay}(h:s4 i a b)(X:List ay):s4 i a (b++X):=⟨by simp;have:=h.1;omega,fun q hq hn=>by rw[List.getElem?_append_left (Nat.lt_of_lt_of_le hq h.1)];exact h.2 q hq hn⟩
theorem s4.of {i:Nat}{a b:List ay}(h:Kp a b):s4 i a b:=⟨h.1,fun q hq _=>h.2 q hq⟩
theorem s4.at {i:Nat}{a b:List ay}(h:s4 i a b){k:Nat}{r:ay}(hk:a[k]? = some r)(hn:k≠i):b[k]? = some r:=(h.2 k (zMJ.1 hk).1 hn).trans hk
def ey (b:List ay)(i:Nat)(L:List Int):Prop:=∃ x,b[i]? = some (.cells [x] 76 true)∧((x=.aD∧L=[])∨∃ j,x=.o j L.length∧j≠i∧b[j]? = some (.own (L.flatMap kv) 5 1 L.length false))∧∀ r∈L,0≤r∧r≤255
def dV (L:List Int)(n:Int):Int:=match L with
 | []=>0
 | a::_=>if n≤1 then 0 else a % n
def dL (L:List Int)(n:Int):List Int:=match L with
 | []=>[]
 | a::L=>if n≤1 then a::L else L
theorem IE (L:List Int){n:Int}(h:0<n):0≤dV L n∧dV L n<n:=by
 unfold dV
 split
 ·omega
 ·split
  ·omega
  ·exact⟨Int.emod_nonneg _ (by omega),Int.emod_lt_of_pos _ h⟩
theorem pq {bs:List ay}{i:Nat}{L:List Int}(h:ey bs i L)(n:Int)(hn:n≤1000000):∃ nB,nB.length≤bs.length+1∧ey nB i (dL L n)∧s4 i bs nB∧SC Tryz.V 26 [.p i 0,.int .i64 n] bs (fun r b=>r=.int .i64 (dV L n)∧b=nB):=by
 obtain⟨x,hi,hx,hr⟩:=h
 have dR:i<bs.length:=(zMJ.1 hi).1
 have sc:=fun nB=>cK (V:=Tryz.V) (f:=26) (bs:=bs) 3000 Tryz.func26 rfl Tryz.ntmps26 Tryz.results26 Tryz.call26 (args:=[.p i 0,.int .i64 n]) (R:=fun r b=>r=.int .i64 (dV L n)∧b=nB) (by simp) (aw bs.length _ (by simp[within,within.aN,dR]))
 rcases hx with⟨rfl,rfl⟩|⟨j,rfl,lM,hj⟩
 ·refine⟨bs,by omega,⟨.aD,hi,.inl ⟨rfl,rfl⟩,hr⟩,s4.refl _ _,sc _ ?_⟩
  simp only[ad,↓Xn,↓Xo,↓Xg,↓Xd,↓Xe,↓Xf,Tryz.VΓ,Tryz.Γs,Xp,Xi,Nat.reduceAdd,Nat.reduceSub,Nat.reduceLT,Nat.reduceLeDiff,reduceIte,reduceCtorEq,Nat.reduceEqDiff,implies_true,forall_const,aa,ui,beq_self_eq_true,bne_self_eq_false,Int.reduceBEq,Int.reduceBNe,Int.reduceLT,Int.reduceLE,hi]
  rfl
 ·cases L with
  | nil =>
    simp only[List.length_nil]at hi hj
    refine⟨bs,by omega,⟨_,hi,.inr ⟨j,rfl,lM,hj⟩,hr⟩,s4.refl _ _,sc _ ?_⟩
    have h0:(((0:Nat):Int)==0)=true:=rfl
    simp only[ad,↓Xn,↓Xo,↓Xg,↓Xd,↓Xe,↓Xf,Tryz.VΓ,Tryz.Γs,Xp,Xi,Nat.reduceAdd,Nat.reduceSub,Nat.reduceLT,Nat.reduceLeDiff,reduceIte,reduceCtorEq,Nat.reduceEqDiff,implies_true,forall_const,aa,ui,beq_self_eq_true,bne_self_eq_false,Int.reduceBEq,Int.reduceBNe,Int.reduceLT,Int.reduceLE,hi,hj,h0]
    rfl
  | cons a L =>
    have h0:((((a::L).length:Nat):Int)==0)=false:=by rw[beq_eq_false_iff_ne,List.length_cons];omega
    simp only[List.length_cons]at h0
    have ha:=hr a List.mem_cons_self
    have mA:j<bs.length:=(zMJ.1 hj).1
    by_cases h1:n≤1
    ·refine⟨bs,by omega,?_,s4.refl _ _,sc _ ?_⟩
     ·simp only[dL,if_pos h1]
      exact⟨_,hi,.inr ⟨j,rfl,lM,hj⟩,hr⟩
     ·have hd:decide (n≤1)=true:=decide_eq_true h1
      have hv:dV (a::L) n=0:=by simp only[dV,if_pos h1]
      rw[hv]
      simp only[ad,↓Xn,↓Xo,↓Xg,↓Xd,↓Xe,↓Xf,Tryz.VΓ,Tryz.Γs,Xp,Xi,Nat.reduceAdd,Nat.reduceSub,Nat.reduceLT,Nat.reduceLeDiff,reduceIte,reduceCtorEq,Nat.reduceEqDiff,implies_true,forall_const,aa,ui,beq_self_eq_true,bne_self_eq_false,Int.reduceBEq,Int.reduceBNe,Int.reduceLT,Int.reduceLE,hi,hj,hd,h0]
    ·have hd:decide (n≤1)=false:=decide_eq_false h1
     have hv:dV (a::L) n=a % n:=by simp only[dV,if_neg h1]
     have hL:dL (a::L) n=L:=by simp only[dL,if_neg h1]
     have fL:((a::L).flatMap kv)[Int.toNat 0 * 1]? = some (.int .u8 a):=rfl
     have iu:bs.set j (.own ((a::L).flatMap kv) 5 1 (L.length+1) false)=bs:=by
      apply List.ext_getElem?
      intro k
      by_cases hk:k=j
      ·subst hk;rw[zMQ mA];exact hj.symm
      ·rw[List.getElem?_set_ne (fun e=>hk e.symm)]
     have mu:∀ X,(bs++[X])[i]? = some (.cells [.o j (L.length+1)] 76 true):=fun X=>af hi [X]
     have hrem:qv .rem .i64 a n=a % n:=Int.tmod_eq_emod_of_nonneg ha.1
     have hw:IntKind.i64.wrap a=a:=by simp[IntKind.wrap,IntKind.bits,IntKind.signed];omega
     have hlen:=mP kv 1 (fun _=>rfl) (a::L)
     have fG:(((a::L).flatMap kv).take ((L.length+1) * 1)).drop (Int.toNat 1 * 1)=L.flatMap kv:=by
      rw[zMN (by rw[hlen];simp)]
      exact GA a L
     rw[hL]
     refine⟨(bs++[ay.own (L.flatMap kv) 5 1 L.length false]).set i (.cells [.o bs.length L.length] 76 true),by simp,⟨_,zMQ (by simp;omega),.inr ⟨_,rfl,by omega,by rw[List.getElem?_set_ne (by omega)];exact aX _ _⟩,fun r h=>hr r (List.mem_cons_of_mem _ h)⟩,⟨by simp,fun k hk hn=>by rw[List.getElem?_set_ne (fun e=>hn e.symm),List.getElem?_append_left hk]⟩,sc _ ?_⟩
     rw[hv]
     simp only[ad,↓Xn,↓Xo,↓Xg,↓Xd,↓Xe,↓Xf,Tryz.VΓ,Tryz.Γs,Xp,Xi,Nat.reduceAdd,Nat.reduceSub,Nat.reduceLT,Nat.reduceLeDiff,reduceIte,reduceCtorEq,Nat.reduceEqDiff,implies_true,forall_const,aa,ui,beq_self_eq_true,bne_self_eq_false,Int.reduceBEq,Int.reduceBNe,Int.reduceLT,Int.reduceLE,hi,hj,hd,h0,fL,iu,mu,hrem,hw,fG]
     exact⟨by omega,by rw[hlen];simp[Int.toNat],by omega,by omega,by simp[Int.toNat]⟩
theorem FL {bs:List ay}{i:Nat}{L:List Int}(h:ey bs i L)(n:Int)(hn:n≤1000000):∃ nB,ey nB i (dL L n)∧s4 i bs nB∧SC Tryz.V 26 [.p i 0,.int .i64 n] bs (fun r b=>r=.int .i64 (dV L n)∧b=nB):=by
 obtain⟨nB,_,h⟩:=pq h n hn
 exact⟨nB,h⟩
theorem sK {bs:List ay}{i:Nat}{L:List Int}(h:ey bs i L)(n:Int)(hn:0<n∧n≤1000000):SC Tryz.V 26 [.p i 0,.int .i64 n] bs (fun r b=>∃ v L',r=.int .i64 v∧(0≤v∧v<n)∧ey b i L'∧s4 i bs b):=by
 obtain⟨nB,h1,h2,h3⟩:=FL h n hn.2
 refine h3.mono ?_
 rintro r b ⟨rfl,rfl⟩
 exact⟨_,_,rfl,IE L hn.1,h1,h2⟩
theorem zN (L:List Int)(n:Nat):(L.flatMap kv).take (n * 1)=(L.take n).flatMap kv:=by
 induction L generalizing n with
 | nil=>simp
 | cons a L ih =>
   cases n with
   | zero=>simp
   | succ n =>
     rw[List.take_succ_cons,List.flatMap_cons,List.flatMap_cons,← ih]
     rfl
theorem sc_New {bs:List ay}{j:Nat}{L:List Int}(hj:bs[j]? = some (.own (L.flatMap kv) 5 1 L.length false))(hr:∀ r∈L,0≤r∧r≤255)(hL:L.length≤9223372036854775807):SC Tryz.V 25 [.o j L.length] bs (fun r b=>∃ k L',r=.p k 0∧bs.length≤k∧Kp bs b∧ey b k L'):=by
 have mA:=(zMJ.1 hj).1
 refine cK 3000 Tryz.func25 rfl Tryz.ntmps25 Tryz.results25 Tryz.call25 (by simp) (aw bs.length _ (by simp[within,within.aN,mA])) ?_
 simp only[ad,↓Xn,↓Xo,↓Xg,↓Xd,↓Xe,↓Xf,Tryz.VΓ,Tryz.Γs,Xp,Xi,Nat.reduceAdd,Nat.reduceSub,Nat.reduceLT,Nat.reduceLeDiff,reduceIte,reduceCtorEq,Nat.reduceEqDiff,implies_true,forall_const,aa,ak,beq_self_eq_true,bne_self_eq_false,Int.reduceBEq,Int.reduceBNe,Int.reduceLT,Int.reduceLE,hj]
 obtain⟨n,hn,sa⟩:∃ n:Nat,(if (200:Int)<L.length then 200 else(L.length:Int))=n∧n≤L.length:=by
  split
  ·exact⟨200,rfl,by omega⟩
  ·exact⟨_,rfl,Nat.le_refl _⟩
 rw[hn,Int.toNat_natCast,zN]
 refine⟨⟨by omega,by omega⟩,bs.length+1,L.take n,rfl,by omega,(Kp.refl bs).app _,.o bs.length n,yU bs _ 1,.inr ⟨bs.length,by simp[sa],by omega,?_⟩,fun r h=>hr r (List.mem_of_mem_take h)⟩
 rw[eR]
 simp[sa]
theorem ey.kp {b b1:List ay}{i:Nat}{L:List Int}(h:ey b i L)(k:Kp b b1):ey b1 i L:=by
 obtain⟨x,hi,hx,hr⟩:=h
 refine⟨x,k.at hi,?_,hr⟩
 rcases hx with h|⟨j,h1,h2,h3⟩
 ·exact .inl h
 ·exact .inr ⟨j,h1,h2,k.at h3⟩
theorem ey.tv {b:List ay}{i k:Nat}{L:List Int}{c:List SV}{T:TypeId}{m:Bool}(h:ey b i L)(hk:b[k]? = some (.cells c T m))(iV:k≠i)(X:ay):ey (b.set k X) i L:=by
 obtain⟨x,hi,hx,hr⟩:=h
 refine⟨x,aF hi iV _,?_,hr⟩
 rcases hx with h|⟨j,h1,h2,h3⟩
 ·exact .inl h
 ·exact .inr ⟨j,h1,h2,aF h3 (by rintro rfl;rw[hk]at h3;cases h3) _⟩
theorem ey.app {b:List ay}{i:Nat}{L:List Int}(h:ey b i L)(X:List ay):ey (b++X) i L:=h.kp ((Kp.refl _).app X)
theorem s4.outs {i:Nat}{bs nB:List ay}(h:s4 i bs nB)(hl:nB.length≤bs.length+1):FT [(i,0,0),(bs.length,0,0)] nB bs:=by
 refine yo (fun j hj=>?_) (fun y hy=>by simp at hy;rcases hy with rfl|rfl <;> rfl)
 have h1:j≠i:=fun e=>hj (i,0,0) (by simp) e.symm
 have h2:j≠bs.length:=fun e=>hj (bs.length,0,0) (by simp) e.symm
 by_cases aA:j<bs.length
 ·exact h.2 j aA h1
 ·rw[List.getElem?_eq_none (by omega),List.getElem?_eq_none (by omega)]
theorem s4.kp {i:Nat}{a b c:List ay}(h:s4 i b c)(k:Kp a b)(hi:a.length≤i):Kp a c:=⟨Nat.le_trans k.1 h.1,fun q hq=>(h.2 q (Nat.lt_of_lt_of_le hq k.1) (by omega)).trans (k.2 q hq)⟩
def Me (now:Int)(e:En):Prop:=∃ (n:Nat) (s t:Int),n<9∧1≤s∧s≤60∧0≤t∧t≤now∧e=lp (vV n s) t
structure Mc (cp:Int) (L:List En) (now:Int):Prop where
 hc:0≤cp∧cp≤5
 len:(L.length:Int)≤cp
 zb:kq En.key L
 me:∀ e∈L,Me now e
 hn:0≤now
theorem Me.le {now now':Int}{e:En}(h:Me now e)(k:now≤now'):Me now' e:=by
 obtain⟨n,s,t,h1,h2,h3,h4,h5,h6⟩:=h
 exact⟨n,s,t,h1,h2,h3,h4,by omega,h6⟩
theorem Me.tr {now:Int}{e:En}(h:Me now e):e.v.tr=.aD:=by
 obtain⟨n,s,t,-,-,-,-,-,rfl⟩:=h
 rfl
theorem Gg {n:Nat}{s:Int}(h1:1≤s)(h2:s≤86400):(jZ (vV n s)&&db (vV n s).id)=true:=by
 have:db (vV n s).id=true:=wv n
 rw[this]
 simp[jZ,vV,h1,h2]
theorem EV {L:List En}{x:En}{cp:Int}(h:0<cp):jn En.key (dg (fP En.key x.key (dm En.key L x.key||decide ((L.length:Int)<cp)) (dK (oq L) L.length)) L L.length) x=eX En.key En.aP cp L x:=by
 cases L with
 | nil=>simp[eX,dg,h]
 | cons a L=>exact Fe (by simp)
theorem Mc.put {cp now:Int}{L:List En}(h:Mc cp L now){n:Nat}{s:Int}(hn:n<9)(h1:1≤s)(h2:s≤60):Mc cp (if !(cp==0) then eX En.key En.aP cp L (lp (vV n s) now) else L) now:=by
 cases c:cp==0
 ·have hc:0<cp:=by have:=h.hc;simp at c;omega
  refine⟨h.hc,tH h.zb hc h.len _,zZ h.zb _ _,fun e he=>?_,h.hn⟩
  rcases tG he with rfl|he
  ·exact⟨n,s,now,hn,h1,h2,h.hn,Int.le_refl _,rfl⟩
  ·exact h.me e he
 ·exact h
theorem Mc.exp {cp now:Int}{L:List En}(h:Mc cp L now)(t:Int):Mc cp (eL L t) now :=
 ⟨h.hc,Int.le_trans (by exact_mod_cast zMT _ _) h.len,iC h.zb _,fun e he=>h.me e (List.mem_filter.1 he).1,h.hn⟩
theorem Mc.later {cp now now':Int}{L:List En}(h:Mc cp L now)(k:now≤now'):Mc cp L now' :=
 ⟨h.hc,h.len,h.zb,fun e he=>(h.me e he).le k,by have:=h.hn;omega⟩
theorem Mc.small {cp now:Int}{L:List En}(h:Mc cp L now):L.length≤5:=by have:=h.hc;have:=h.len;omega
theorem Mc.hT {cp now:Int}{L:List En}(h:Mc cp L now):∀ e∈L,e.v.tr=.aD:=fun e he=>(h.me e he).tr
theorem su_putV {b:List ay}{x:SV}{L:List En}{m:Bool}{cp now:Int}(h:gC b x L m)(hM:Mc cp L now)(CT:now≤1000000){n:Nat}{s:Int}(h1:1≤s)(h2:s≤86400) :
 SU Tryz.V 19 [.agg [.int .i64 cp,x],.agg (eJ (vV n s)),.int .u64 now] b (fun r b'=>Kp b b'∧∃ x' m',r=.agg [.int .i64 cp,x']∧gC b' x' (if !(cp==0) then eX En.key En.aP cp L (lp (vV n s) now) else L) m'∧(m'=true∨x'=x∧m'=m)):=by
 have hsm:=hM.small
 have BV:=hM.hc
 have mw:PC Tryz.V 31 [.int .u64 now,.int .u64 s] (.int .u64 (jS now s)):=E1 ⟨hM.hn,by omega⟩ ⟨by omega,by omega⟩
 refine(B5 (v:=vV n s) (cb:=true) h (by omega) (fun e he=>by rw[hM.hT e he];rfl) rfl rfl ?_ mw).mono ?_
 ·have:=qU (v:=vV n s) (b:=b++[.cells [.int .i64 cp,x] 24 true,.cells (eJ (vV n s)) 41 true,.cells [.int .i64 0,.aD] 24 true]) rfl rfl
  rw[Gg h1 h2]at this
  exact this
 ·rintro r b' ⟨k,x',m',rfl,hE,hm⟩
  refine⟨k,x',m',rfl,?_,hm⟩
  cases c:cp==0
  ·rw[c]at hE
   have:=EV (L:=L) (x:=lp (vV n s) now) (cp:=cp) (by simp at c;omega)
   simp only[Bool.not_false,Bool.and_self,if_true]at hE ⊢
   rw[← this]
   exact hE
  ·rw[c]at hE
   simpa using hE
structure Ms (bs:List ay) (dk ci:Nat) (kk now cp:Int) (x:SV) (L:List En) (m:Bool) (D:List Int) (b:List ay):Prop where
 kp:Kp bs b
 o:b[bs.length]? = some (.cells [.int .i64 0,.aD] 24 true)
 d:ey b dk D
 c:b[ci]? = some (.cells [.int .i64 cp,x] 24 true)
 e:gC b x L m
 M:Mc cp L now
 mx:m=true∨x=.aD
 ld:bs.length<dk
 lc:bs.length<ci
 ne:ci≠dk
 k0:0≤kk
 kl:now≤9 * (19 - kk)
theorem Ms.kpE {bs b b':List ay}{dk ci:Nat}{kk now cp kk' now':Int}{x:SV}{L:List En}{m:Bool}{D D':List Int}(h:Ms bs dk ci kk now cp x L m D b)(k:s4 dk b b')(hd:ey b' dk D')(h1:0≤kk')(h2:now≤now')(h3:now'≤9 * (19 - kk')):Ms bs dk ci kk' now' cp x L m D' b':=by
 have a:=h.ld
 refine⟨k.kp h.kp (by omega),k.at h.o (by omega),hd,k.at h.c h.ne,?_,h.M.later h2,h.mx,h.ld,h.lc,h.ne,h1,h3⟩
 rcases h.e with e|⟨q,rfl,hq⟩
 ·exact .inl e
 ·refine .inr ⟨q,rfl,k.at hq ?_⟩
  rintro rfl
  obtain⟨y,hi,-⟩:=h.d
  rw[hi]at hq;cases hq
theorem Ms.store {bs b b':List ay}{dk ci:Nat}{kk now cp:Int}{x x':SV}{L L':List En}{m m':Bool}{D:List Int}(h:Ms bs dk ci kk now cp x L m D b)(k:Kp b b')(e:gC b' x' L' m')(M:Mc cp L' now)(mx:m'=true∨x'=.aD):Ms bs dk ci kk now cp x' L' m' D (b'.set ci (.cells [.int .i64 cp,x'] 24 true)):=by
 have a:=h.lc
 have hc:=k.at h.c
 refine⟨(h.kp.trans k).set (by omega) _,aF (k.at h.o) (by omega) _,(h.d.kp k).tv hc h.ne _,zMQ (zMJ.1 hc).1,e.tv (by rintro q hq rfl;rw[hc]at hq;cases hq) _,M,mx,h.ld,h.lc,h.ne,h.k0,h.kl⟩
theorem Dz {bs:List ay}{j:Nat}{S:List Int}(hj:bs[j]? = some (.own (S.flatMap kv) 5 1 S.length false))(hr:∀ r∈S,0≤r∧r≤255)(hS:S.length≤9223372036854775807) :
 SC Tryz.V 12 [.o j S.length] bs (fun r b=>∃ cp x L m now,r=.eN [.agg [.int .i64 cp,x],.int .u64 now]∧Kp bs b∧gC b x L m∧Mc cp L now∧now≤180∧(m=true∨x=.aD)):=by
 have mA:=(zMJ.1 hj).1
 refine cK 3000 Tryz.func12 rfl Tryz.ntmps12 Tryz.results12 Tryz.call12 (by simp) (aw bs.length _ (by simp[within,within.aN,mA])) ?_
 refine aK 2900 (fun σ=>lk 0 σ.t=some (.o j S.length)∧lk 2 σ.t=some (.p bs.length 0)∧lk 3 σ.t=some (.int .u64 0)∧σ.b=bs++[.cells [.int .i64 0,.aD] 24 true]) ?_ (fun k' hk'=>?_)
 rotate_left
 ·simp only[ad,↓Xn,↓Xo,↓Xg,↓Xd,↓Xe,↓Xf,Tryz.VΓ,Tryz.Γs,Xp,Xi,Nat.reduceAdd,Nat.reduceSub,Nat.reduceLT,Nat.reduceLeDiff,reduceIte,reduceCtorEq,Nat.reduceEqDiff,implies_true,forall_const,aa,ak,beq_self_eq_true,bne_self_eq_false,Int.reduceBEq,Int.reduceBNe,Int.reduceLT,Int.reduceLE]
  exact hk' _ _ ⟨rfl,rfl,rfl,rfl⟩
 rintro m1 ⟨t1,b1⟩ ⟨l0,l2,l3,rfl⟩
 simp only at l0 l2 l3
 refine aK 2800 (fun σ=>lk 2 σ.t=some (.p bs.length 0)∧∃ dk D,lk 4 σ.t=some (.p dk 0)∧bs.length<dk∧Kp (bs++[.cells [.int .i64 0,.aD] 24 true]) σ.b∧ey σ.b dk D) ?_ (fun k' hk'=>?_)
 rotate_left
 ·simp only[ad,↓Xn,↓Xo,↓Xg,↓Xd,↓Xe,↓Xf,Tryz.VΓ,Tryz.Γs,Xp,Xi,Nat.reduceAdd,Nat.reduceSub,Nat.reduceLT,Nat.reduceLeDiff,reduceIte,reduceCtorEq,Nat.reduceEqDiff,implies_true,forall_const,aa,ak,beq_self_eq_true,bne_self_eq_false,Int.reduceBEq,Int.reduceBNe,Int.reduceLT,Int.reduceLE,l0]
  refine aG (sc_New (af hj _) hr hS) ?_
  rintro y b2 ⟨dk,D,rfl,D8,cg,hd⟩
  simp only[ad,↓Xn,↓Xo,↓Xg,↓Xd,↓Xe,↓Xf,Tryz.VΓ,Tryz.Γs,Xp,Xi,Nat.reduceAdd,Nat.reduceSub,Nat.reduceLT,Nat.reduceLeDiff,reduceIte,reduceCtorEq,Nat.reduceEqDiff,implies_true,forall_const,aa,ak,beq_self_eq_true,bne_self_eq_false,Int.reduceBEq,Int.reduceBNe,Int.reduceLT,Int.reduceLE,l0]
  refine hk' _ _ ?_
  exact⟨l2,dk,D,rfl,by simp at D8;omega,cg,hd⟩
 rintro m2 ⟨t2,b2⟩ ⟨l2,dk,D,l4,D8,cg,hd⟩
 simp only at l2 l4 cg hd
 have jJ:=cg.at (a6 rfl _ 0:(bs++[ay.cells [.int .i64 0,.aD] 24 true])[bs.length+0]? = _)
 refine aK 2700 (fun σ=>lk 2 σ.t=some (.p bs.length 0)∧lk 4 σ.t=some (.p dk 0)∧∃ ci cp D,lk 5 σ.t=some (.p ci 0)∧Ms bs dk ci 19 0 cp .aD [] true D σ.b) ?_ (fun k' hk'=>?_)
 rotate_left
 ·simp only[ad,↓Xn,↓Xo,↓Xg,↓Xd,↓Xe,↓Xf,Tryz.VΓ,Tryz.Γs,Xp,Xi,Nat.reduceAdd,Nat.reduceSub,Nat.reduceLT,Nat.reduceLeDiff,reduceIte,reduceCtorEq,Nat.reduceEqDiff,implies_true,forall_const,aa,ak,beq_self_eq_true,bne_self_eq_false,Int.reduceBEq,Int.reduceBNe,Int.reduceLT,Int.reduceLE,l4]
  refine aG (sK hd 6 (by omega)) ?_
  rintro y b3 ⟨v,D',rfl,hv,hd',oH⟩
  simp only[ad,↓Xn,↓Xo,↓Xg,↓Xd,↓Xe,↓Xf,Tryz.VΓ,Tryz.Γs,Xp,Xi,Nat.reduceAdd,Nat.reduceSub,Nat.reduceLT,Nat.reduceLeDiff,reduceIte,reduceCtorEq,Nat.reduceEqDiff,implies_true,forall_const,aa,ak,beq_self_eq_true,bne_self_eq_false,Int.reduceBEq,Int.reduceBNe,Int.reduceLT,Int.reduceLE,l4]
  have fI:=EZ v
  rw[if_neg (by omega)]at fI
  refine ae fI ?_
  simp only[ad,↓Xn,↓Xo,↓Xg,↓Xd,↓Xe,↓Xf,Tryz.VΓ,Tryz.Γs,Xp,Xi,Nat.reduceAdd,Nat.reduceSub,Nat.reduceLT,Nat.reduceLeDiff,reduceIte,reduceCtorEq,Nat.reduceEqDiff,implies_true,forall_const,aa,ak,beq_self_eq_true,bne_self_eq_false,Int.reduceBEq,Int.reduceBNe,Int.reduceLT,Int.reduceLE,l4]
  refine hk' _ _ ?_
  have pb:dk<b2.length:=by obtain⟨x,hi,-⟩:=hd;exact(zMJ.1 hi).1
  have sV:=oH.1
  have sC:Kp bs b3:=oH.kp (((Kp.refl bs).app _).trans cg) (by omega)
  have ho3:=oH.at jJ (by omega)
  refine⟨l2,l4,b3.length,v,D',rfl,⟨sC.app _,af ho3 _,hd'.app _,a6 rfl _ 0,.inl ⟨rfl,rfl⟩,⟨by omega,by simp;omega,List.Pairwise.nil,fun e he=>(by cases he),by omega⟩,.inr rfl,D8,by omega,by omega,by omega,by omega⟩⟩
 clear hd cg jJ D8
 rintro m3 ⟨t3,b3⟩ ⟨l2,l4,ci,cp,D,l5,hM⟩
 simp only at l2 l4 l5 hM
 refine aK 2600 (fun σ=>lk 2 σ.t=some (.p bs.length 0)∧lk 4 σ.t=some (.p dk 0)∧lk 5 σ.t=some (.p ci 0)∧lk 7 σ.t=some (.int .u64 0)∧σ.b=b3) ?_ (fun k' hk'=>?_)
 rotate_left
 ·simp only[ad,↓Xn,↓Xo,↓Xg,↓Xd,↓Xe,↓Xf,Tryz.VΓ,Tryz.Γs,Xp,Xi,Nat.reduceAdd,Nat.reduceSub,Nat.reduceLT,Nat.reduceLeDiff,reduceIte,reduceCtorEq,Nat.reduceEqDiff,implies_true,forall_const,aa,ak,beq_self_eq_true,bne_self_eq_false,Int.reduceBEq,Int.reduceBNe,Int.reduceLT,Int.reduceLE]
  exact hk' _ _ ⟨l2,l4,l5,rfl,rfl⟩
 rintro m4 ⟨t4,b4⟩ ⟨l2,l4,l5,l7,rfl⟩
 simp only at l2 l4 l5 l7
 refine aK 2500 (fun σ=>lk 2 σ.t=some (.p bs.length 0)∧lk 5 σ.t=some (.p ci 0)∧∃ kk now cp x L m D,lk 7 σ.t=some (.int .u64 now)∧Ms bs dk ci kk now cp x L m D σ.b) ?_ (fun k' hk'=>?_)
 rotate_left
 ·simp only[ad,↓Xn,↓Xo,↓Xg,↓Xd,↓Xe,↓Xf,Tryz.VΓ,Tryz.Γs,Xp,Xi,Nat.reduceAdd,Nat.reduceSub,Nat.reduceLT,Nat.reduceLeDiff,reduceIte,reduceCtorEq,Nat.reduceEqDiff,implies_true,forall_const,aa,ak,beq_self_eq_true,bne_self_eq_false,Int.reduceBEq,Int.reduceBNe,Int.reduceLT,Int.reduceLE,l4]
  refine aG (sK hM.d 20 (by omega)) ?_
  rintro y b5 ⟨v,D',rfl,hv,hd',uI⟩
  simp only[ad,↓Xn,↓Xo,↓Xg,↓Xd,↓Xe,↓Xf,Tryz.VΓ,Tryz.Γs,Xp,Xi,Nat.reduceAdd,Nat.reduceSub,Nat.reduceLT,Nat.reduceLeDiff,reduceIte,reduceCtorEq,Nat.reduceEqDiff,implies_true,forall_const,aa,ak,beq_self_eq_true,bne_self_eq_false,Int.reduceBEq,Int.reduceBNe,Int.reduceLT,Int.reduceLE]
  have Ie:Ms bs dk ci v 0 cp .aD [] true D' b5:=by
   have h1:=hM.ld
   have h2:=hM.lc
   exact⟨uI.kp hM.kp (by omega),uI.at hM.o (by omega),hd',uI.at hM.c hM.ne,.inl ⟨rfl,rfl⟩,hM.M,hM.mx,hM.ld,hM.lc,hM.ne,hv.1,by omega⟩
  refine aJ (fun σ=>∃ kk now cp x L m D,lk 2 σ.t=some (.p bs.length 0)∧lk 4 σ.t=some (.p dk 0)∧lk 5 σ.t=some (.p ci 0)∧lk 7 σ.t=some (.int .u64 now)∧lk 8 σ.t=some (.int .i64 kk)∧Ms bs dk ci kk now cp x L m D σ.b) (fun σ=>iH 8 σ) ⟨v,0,cp,.aD,[],true,D',l2,l4,l5,l7,rfl,Ie⟩ ?_
  clear hM Ie hd' uI l2 l4 l5 l7
  rintro⟨t6,b6⟩ ⟨kk,now,cp,x,L,m,D,l2,l4,l5,l7,l8,hM⟩
  simp only at l2 l4 l5 l7 l8 hM
  have hkk:=hM.k0
  have sV:=hM.kl
  obtain⟨kn,rfl⟩:∃ kn:Nat,kk=(kn:Int):=⟨kk.toNat,by omega⟩
  rw[ax l8]
  cases c:decide (0<(kn:Int))
  ·simp only[ad,↓Xn,↓Xo,↓Xg,↓Xd,↓Xe,↓Xf,Tryz.VΓ,Tryz.Γs,Xp,Xi,Nat.reduceAdd,Nat.reduceSub,Nat.reduceLT,Nat.reduceLeDiff,reduceIte,reduceCtorEq,Nat.reduceEqDiff,implies_true,forall_const,aa,ak,beq_self_eq_true,bne_self_eq_false,Int.reduceBEq,Int.reduceBNe,Int.reduceLT,Int.reduceLE,l8,c]
   refine hk' _ _ ?_
   exact⟨l2,l5,_,now,cp,x,L,m,D,l7,hM⟩
  ·have hc:0<kn:=by simpa using c
   simp only[ad,↓Xn,↓Xo,↓Xg,↓Xd,↓Xe,↓Xf,Tryz.VΓ,Tryz.Γs,Xp,Xi,Nat.reduceAdd,Nat.reduceSub,Nat.reduceLT,Nat.reduceLeDiff,reduceIte,reduceCtorEq,Nat.reduceEqDiff,implies_true,forall_const,aa,ak,beq_self_eq_true,bne_self_eq_false,Int.reduceBEq,Int.reduceBNe,Int.reduceLT,Int.reduceLE,l4,l5,l7,l8,c]
   refine aG (sK hM.d 9 (by omega)) ?_
   rintro y b7 ⟨v,D1,rfl,hv,pg,hk7⟩
   have CT:=hM.M.hn
   have hw:IntKind.u64.wrap v=v:=by simp[IntKind.wrap,IntKind.bits,IntKind.signed];omega
   have dF:IntKind.u64.wrap (now+v)=now+v:=by simp[IntKind.wrap,IntKind.bits,IntKind.signed];omega
   have hM7:Ms bs dk ci (kn - 1:Int) (now+v) cp x L m D1 b7:=hM.kpE hk7 pg (by omega) (by omega) (by omega)
   have hn7:=hM7.M.hn
   have hl7:=hM7.kl
   clear hM sV hk7 pg CT
   obtain⟨nB1,ny,nC,fH,hsc2⟩:=pq hM7.d 9 (by omega)
   have hv2:=IE D1 (n:=9) (by omega)
   generalize dV D1 9=v2 at hsc2 hv2
   generalize dL D1 9=D2 at nC
   have hM8:=hM7.kpE fH nC hM7.k0 (Int.le_refl _) hM7.kl
   obtain⟨nB2,gF,Fu,oH,hsc3⟩:=pq hM8.d 60 (by omega)
   have hv3:=IE D2 (n:=60) (by omega)
   generalize dV D2 60=v3 at hsc3 hv3
   generalize dL D2 60=D3 at Fu
   have hM9:=hM8.kpE oH Fu hM8.k0 (Int.le_refl _) hM8.kl
   have BR:IntKind.u64.wrap (1+v3)=1+v3:=by simp[IntKind.wrap,IntKind.bits,IntKind.signed];omega
   obtain⟨vn,rfl⟩:∃ vn:Nat,v2=(vn:Int):=⟨v2.toNat,by omega⟩
   have hvd:=fv vn (1+v3) (by omega)
   obtain⟨y4,nB4,⟨D7,x',m',rfl,hE4,hm4⟩,hsc4⟩:=su_putV (n:=vn) (s:=1+v3) hM9.e hM9.M (by omega) (by omega) (by omega)
   have pc7:=hM7.c
   have pc4:=D7.at hM9.c
   have ho7:=hM7.e.one
   have ho4:=hE4.one
   simp only[ad,↓Xn,↓Xo,↓Xg,↓Xd,↓Xe,↓Xf,Tryz.VΓ,Tryz.Γs,Xp,Xi,Nat.reduceAdd,Nat.reduceSub,Nat.reduceLT,Nat.reduceLeDiff,reduceIte,reduceCtorEq,Nat.reduceEqDiff,implies_true,forall_const,aa,ak,beq_self_eq_true,bne_self_eq_false,Int.reduceBEq,Int.reduceBNe,Int.reduceLT,Int.reduceLE,l4,l5,l7,l8,hw,dF,pc7,ho7]
   refine cn [(dk,0,0),(b7.length,0,0)] hsc2 (fH.outs ny) ?_
   simp only[ad,↓Xn,↓Xo,↓Xg,↓Xd,↓Xe,↓Xf,Tryz.VΓ,Tryz.Γs,Xp,Xi,Nat.reduceAdd,Nat.reduceSub,Nat.reduceLT,Nat.reduceLeDiff,reduceIte,reduceCtorEq,Nat.reduceEqDiff,implies_true,forall_const,aa,ak,beq_self_eq_true,bne_self_eq_false,Int.reduceBEq,Int.reduceBNe,Int.reduceLT,Int.reduceLE,l4,l5,l7,l8,hw,dF,pc7,ho7]
   refine cn [(dk,0,0),(nB1.length,0,0)] hsc3 (oH.outs gF) ?_
   simp only[ad,↓Xn,↓Xo,↓Xg,↓Xd,↓Xe,↓Xf,Tryz.VΓ,Tryz.Γs,Xp,Xi,Nat.reduceAdd,Nat.reduceSub,Nat.reduceLT,Nat.reduceLeDiff,reduceIte,reduceCtorEq,Nat.reduceEqDiff,implies_true,forall_const,aa,ak,beq_self_eq_true,bne_self_eq_false,Int.reduceBEq,Int.reduceBNe,Int.reduceLT,Int.reduceLE,l4,l5,l7,l8,hw,dF,BR,pc7,ho7]
   refine⟨by omega,?_⟩
   refine aV hvd ?_
   simp only[ad,↓Xn,↓Xo,↓Xg,↓Xd,↓Xe,↓Xf,Tryz.VΓ,Tryz.Γs,Xp,Xi,Nat.reduceAdd,Nat.reduceSub,Nat.reduceLT,Nat.reduceLeDiff,reduceIte,reduceCtorEq,Nat.reduceEqDiff,implies_true,forall_const,aa,ak,beq_self_eq_true,bne_self_eq_false,Int.reduceBEq,Int.reduceBNe,Int.reduceLT,Int.reduceLE,l4,l5,l7,l8,hw,dF,BR,pc7,ho7]
   refine jQ hsc4 ?_
   simp only[ad,↓Xn,↓Xo,↓Xg,↓Xd,↓Xe,↓Xf,Tryz.VΓ,Tryz.Γs,Xp,Xi,Nat.reduceAdd,Nat.reduceSub,Nat.reduceLT,Nat.reduceLeDiff,reduceIte,reduceCtorEq,Nat.reduceEqDiff,implies_true,forall_const,aa,ak,beq_self_eq_true,bne_self_eq_false,Int.reduceBEq,Int.reduceBNe,Int.reduceLT,Int.reduceLE,l4,l5,l7,l8,hw,dF,BR,pc7,ho7,pc4,ho4]
   have F3:¬ dk=ci:=Ne.symm hM9.ne
   have sU:¬ b7.length=ci:=by have:=(zMJ.1 hM7.c).1;omega
   have Fl:¬ nB1.length=ci:=by have:=(zMJ.1 hM8.c).1;omega
   refine⟨(by
    refine eT (fun n=>if n=ci then 0 else 1) ?_
    simp only[zMU,zMV,fO,kK,reduceIte,F3,sU,Fl]
    exact av (by kernel_rfl)),?_⟩
   have hMs:=hM9.store D7 hE4 (hM9.M.put (n:=vn) (s:=1+v3) (by omega) (by omega) (by omega)) (by
    rcases hm4 with h|⟨h,h2⟩
    ·exact .inl h
    ·rw[h,h2];exact hM9.mx)
   clear hM7 hM8 hM9 hsc2 hsc3 hsc4 hvd fH oH D7 nC Fu hE4 hm4 pc7 pc4 ho7 ho4 sU Fl
   generalize (if (!cp==0)=true then eX En.key En.aP cp L (lp (vV vn (1+v3)) (now+v)) else L)=L4 at hMs
   generalize nB4.set ci (.cells [.int .i64 cp,x'] 24 true)=b8 at hMs ⊢
   refine aG (sK hMs.d 6 (by omega)) ?_
   rintro y b9 ⟨v5,D5,rfl,hv5,hd5,uI⟩
   have Ie:=hMs.kpE uI hd5 hMs.k0 (Int.le_refl _) hMs.kl
   clear hMs hd5 uI
   have pc5:=Ie.c
   have ho5:=Ie.e.one
   have hsm:=Ie.M.small
   have hkr:((kn:Int) - 1)=((kn - 1:Nat):Int):=by omega
   cases c5:(v5==0)
   ·simp only[ad,↓Xn,↓Xo,↓Xg,↓Xd,↓Xe,↓Xf,Tryz.VΓ,Tryz.Γs,Xp,Xi,Nat.reduceAdd,Nat.reduceSub,Nat.reduceLT,Nat.reduceLeDiff,reduceIte,reduceCtorEq,Nat.reduceEqDiff,implies_true,forall_const,aa,ak,beq_self_eq_true,bne_self_eq_false,Int.reduceBEq,Int.reduceBNe,Int.reduceLT,Int.reduceLE,l4,l5,l7,l8,c5]
    exact⟨⟨by omega,by omega⟩,⟨_,_,cp,x',L4,m',D5,l2,rfl,rfl,Ie⟩,by rw[ax (show lk 8 _=some (.int .i64 ((kn - 1:Nat):Int)) from by rw[← hkr];rfl)];omega⟩
   ·simp only[ad,↓Xn,↓Xo,↓Xg,↓Xd,↓Xe,↓Xf,Tryz.VΓ,Tryz.Γs,Xp,Xi,Nat.reduceAdd,Nat.reduceSub,Nat.reduceLT,Nat.reduceLeDiff,reduceIte,reduceCtorEq,Nat.reduceEqDiff,implies_true,forall_const,aa,ak,beq_self_eq_true,bne_self_eq_false,Int.reduceBEq,Int.reduceBNe,Int.reduceLT,Int.reduceLE,l4,l5,l7,l8,c5,pc5,ho5]
    refine aG (vI Ie.e (by omega) (fun e he=>by rw[Ie.M.hT e he];rfl)) ?_
    rintro y b10 ⟨oG,x6,rfl,hE6,-⟩
    have pc6:=oG.at pc5
    have ho6:=hE6.one
    have hM6:=Ie.store oG hE6 (Ie.M.exp _) (.inl rfl)
    simp only[ad,↓Xn,↓Xo,↓Xg,↓Xd,↓Xe,↓Xf,Tryz.VΓ,Tryz.Γs,Xp,Xi,Nat.reduceAdd,Nat.reduceSub,Nat.reduceLT,Nat.reduceLeDiff,reduceIte,reduceCtorEq,Nat.reduceEqDiff,implies_true,forall_const,aa,ak,beq_self_eq_true,bne_self_eq_false,Int.reduceBEq,Int.reduceBNe,Int.reduceLT,Int.reduceLE,l4,l5,l7,l8,c5,pc6,ho6]
    exact⟨⟨by omega,by omega⟩,⟨_,_,cp,x6,_,true,D5,l2,rfl,rfl,hM6⟩,by rw[ax (show lk 8 _=some (.int .i64 ((kn - 1:Nat):Int)) from by rw[← hkr];rfl)];omega⟩
 clear hM l4
 rintro m6 ⟨t6,b6⟩ ⟨l2,l5,kk,now,cp,x,L,m,D,l7,hM⟩
 simp only at l2 l5 l7 hM
 have pc:=hM.c
 have po:=hM.o
 have ho:=hM.e.one
 have bk:¬ bs.length=ci:=by have:=hM.lc;omega
 have hs:∀ X,(b6.set bs.length X)[bs.length]? = some X:=fun X=>zMQ (zMJ.1 po).1
 simp only[ad,↓Xn,↓Xo,↓Xg,↓Xd,↓Xe,↓Xf,Tryz.VΓ,Tryz.Γs,Xp,Xi,Nat.reduceAdd,Nat.reduceSub,Nat.reduceLT,Nat.reduceLeDiff,reduceIte,reduceCtorEq,Nat.reduceEqDiff,implies_true,forall_const,aa,ak,beq_self_eq_true,bne_self_eq_false,Int.reduceBEq,Int.reduceBNe,Int.reduceLT,Int.reduceLE,l2,l5,l7,pc,po,ho,hs]
 have:=hM.kl
 have:=hM.k0
 exact⟨cp,x,L,m,now,rfl,hM.kp.set (Nat.le_refl _) _,hM.e.tv (by rintro q hq rfl;rw[po]at hq;cases hq) _,hM.M,by omega,hM.mx⟩
def okE (L:List En)(i:Nat):Bool:=match L[i]? with
 | none=>true
 | some e=>(match i with
   | 0=>true
   | j+1=>(match L[j]? with
     | some d=>blt d.key e.key
     | none=>true))&&(jZ e.v&&(db e.v.id&&e.aP==jS e.stored e.v.dU))
def ik (cp:Int)(L:List En):Bool:=!(decide (cp<0))&&(!decide (1024<cp)&&(!decide (cp<L.length)&&(List.range L.length).all (okE L)))
theorem tp {cp:Int}{L:List En}(h1:decide (cp<0)=false)(h2:decide (1024<cp)=false)(h3:decide (cp<L.length)=false)(h:∀ j,j<L.length→okE L j=true):ik cp L=true:=by
 unfold ik
 rw[h1,h2,h3]
 simp only[Bool.not_false,Bool.true_and,List.all_eq_true,List.mem_range]
 exact h
theorem ij {cp:Int}{L:List En}{k:Nat}(hk:k<L.length)(h:okE L k=false):ik cp L=false:=by
 unfold ik
 have:(List.range L.length).all (okE L)=false:=by
  rw[List.all_eq_false]
  exact⟨k,List.mem_range.2 hk,by rw[h];simp⟩
 rw[this];simp
section
variable {b:List ay} {v:Vd} {L:List En} {m:Bool} {cp:Int}
theorem DN (hk:0<L.length):okE L 0=(jZ L[0].v&&(db L[0].v.id&&L[0].aP==jS L[0].stored L[0].v.dU)):=by
 unfold okE;rw[zMS hk];rfl
theorem DM {j:Nat}(hk:j+1<L.length):okE L (j+1)=(blt (L[j]'(by omega)).key L[j+1].key&&(jZ L[j+1].v&&(db L[j+1].v.id&&L[j+1].aP==jS L[j+1].stored L[j+1].v.dU))):=by
 unfold okE;simp only[zMS hk,zMS (show j<L.length by omega)]
theorem tx {x:SV}(h:gC b x L m)(hl:L.length≤1000000)(v8:∀ e∈L,one e.v.tr=true∧within b.length e.v.tr=true) :
 SC Tryz.V 14 [.agg [.int .i64 cp,x]] b (fun r b'=>r=.bool (ik cp L)∧b'=b):=by
 refine fm rfl ?_
 have hw:=h.within
 have ho:=h.one
 have fb:∀ e,nm (.slice e) x=some (.int .i64 L.length):=fun e=>by
  rcases h with⟨rfl,rfl⟩|⟨q,rfl,-⟩ <;> rfl
 refine cK 3000 Tryz.func14 rfl Tryz.ntmps14 Tryz.results14 Tryz.call14 (by simp) (aw b.length _ (by simp[within,within.aN,hw])) ?_
 cases c1:decide (cp<0)
 ·cases c2:decide (1024<cp)
  ·cases c3:decide (cp<L.length)
   ·obtain⟨S,hS⟩:∃ S,S=ik cp L:=⟨_,rfl⟩
    rw[← hS]
    simp only[ad,↓Xn,↓Xo,↓Xg,↓Xd,↓Xe,↓Xf,Tryz.VΓ,Tryz.Γs,Xp,Xi,Nat.reduceAdd,Nat.reduceSub,Nat.reduceLT,Nat.reduceLeDiff,reduceIte,reduceCtorEq,Nat.reduceEqDiff,implies_true,forall_const,aa,ak,beq_self_eq_true,bne_self_eq_false,Int.reduceBEq,Int.reduceBNe,Int.reduceLT,Int.reduceLE,ho,fb,c1,c2,c3]
    refine aJ (fun σ=>∃ (k:Nat),lk 1 σ.t=some (.p b.length 0)∧lk 22 σ.t=some x∧lk 23 σ.t=some (.int .i64 L.length)∧lk 24 σ.t=some (.int .i64 k)∧k≤L.length∧Kp b σ.b∧σ.b[b.length]? = some (.cells [.int .i64 cp,x] 24 true)∧∀ j,j<k→okE L j=true) (fun σ=>L.length - iH 24 σ) ⟨0,rfl,rfl,rfl,rfl,by omega,(Kp.refl _).app _,a6 rfl _ 0,fun j hj=>by omega⟩ ?_
    rintro⟨t1,b1⟩ ⟨k,l1,l22,l23,l24,hk,cg,pc,aT⟩
    simp only at l1 l22 l23 l24 cg pc
    rw[ax l24]
    by_cases c:k<L.length
    ·have ci:decide ((k:Int)<(L.length:Int))=true:=by simpa using c
     obtain⟨q,rfl,hq⟩:∃ q,x=.o q L.length∧b[q]? = some (.own (L.flatMap enc) 43 14 L.length m):=by
      rcases h with⟨rfl,rfl⟩|h
      ·simp at c
      ·exact h
     have da:=cg.at hq
     have dS:=gd L k c
     have dX:(enc L[k]).length=14:=rfl
     have fG:(enc L[k]).take 14=enc L[k]:=zMN (by rw[dX];omega)
     have hY:(enc L[k]).all one=true:=by
      have:=(v8 _ (zMM c)).1
      simp[enc,one]at this ⊢;exact this
     have g0:(enc L[k]).take 12=eJ L[k].v:=rfl
     have g1:(enc L[k])[2]? = some (.str (En.key L[k])):=rfl
     have g12:(enc L[k])[12]? = some (.int .u64 L[k].stored):=rfl
     have g13:(enc L[k])[13]? = some (.int .u64 L[k].aP):=rfl
     have g10:(enc L[k])[10]? = some (.int .u64 L[k].v.dU):=rfl
     have gid:((enc L[k]).drop 1).take 4=[.int .i64 L[k].v.id.kind,.str L[k].v.id.text,.str L[k].v.id.host,.int .i64 L[k].v.id.port]:=rfl
     have hid:=rW L[k].v.id
     unfold iI at hid
     have mw:=pP L[k].stored L[k].v.dU
     have uN:∀ (b2:List ay),b.length≤b2.length→SC Tryz.V 27 [.agg (eJ L[k].v)] b2 (fun r b'=>r=.bool (jZ L[k].v)∧b'=b2):=fun b2 h2=>pH (v8 _ (zMM c)).1 (nS h2 _ (v8 _ (zMM c)).2)
     by_cases k0:k=0
     ·have mB:decide (0<(k:Int))=false:=by simp[k0]
      have bU:okE L k=(jZ L[k].v&&(db L[k].v.id&&L[k].aP==jS L[k].stored L[k].v.dU)):=by subst k0;exact DN c
      cases cc:jZ L[k].v
      ·rw[ij c (by rw[bU,cc];simp)]at hS
       simp only[ad,↓Xn,↓Xo,↓Xg,↓Xd,↓Xe,↓Xf,Tryz.VΓ,Tryz.Γs,Xp,Xi,Nat.reduceAdd,Nat.reduceSub,Nat.reduceLT,Nat.reduceLeDiff,reduceIte,reduceCtorEq,Nat.reduceEqDiff,implies_true,forall_const,aa,ak,beq_self_eq_true,bne_self_eq_false,Int.reduceBEq,Int.reduceBNe,Int.reduceLT,Int.reduceLE,l1,l22,l23,l24,ci,da,dS,dX,fG,g0,g1,g12,g13,g10,gid,pc,af pc,af da,mB]
       refine⟨⟨by omega,by omega⟩,by rw[aQ];omega,hY,av (by kernel_rfl),?_⟩
       refine cn [] (uN _ (by simp;have:=cg.1;omega)) (fun _ _ _=>rfl) ?_
       simp only[ad,↓Xn,↓Xo,↓Xg,↓Xd,↓Xe,↓Xf,Tryz.VΓ,Tryz.Γs,Xp,Xi,Nat.reduceAdd,Nat.reduceSub,Nat.reduceLT,Nat.reduceLeDiff,reduceIte,reduceCtorEq,Nat.reduceEqDiff,implies_true,forall_const,aa,ak,beq_self_eq_true,bne_self_eq_false,Int.reduceBEq,Int.reduceBNe,Int.reduceLT,Int.reduceLE,l1,l22,l23,l24,ci,da,dS,dX,fG,g0,g1,g12,g13,g10,gid,pc,af pc,af da,mB,cc,hS]
       exact⟨av (by kernel_rfl),cg.app _⟩
      ·cases cv:db L[k].v.id
       ·rw[ij c (by rw[bU,cv];simp)]at hS
        simp only[ad,↓Xn,↓Xo,↓Xg,↓Xd,↓Xe,↓Xf,Tryz.VΓ,Tryz.Γs,Xp,Xi,Nat.reduceAdd,Nat.reduceSub,Nat.reduceLT,Nat.reduceLeDiff,reduceIte,reduceCtorEq,Nat.reduceEqDiff,implies_true,forall_const,aa,ak,beq_self_eq_true,bne_self_eq_false,Int.reduceBEq,Int.reduceBNe,Int.reduceLT,Int.reduceLE,l1,l22,l23,l24,ci,da,dS,dX,fG,g0,g1,g12,g13,g10,gid,pc,af pc,af da,mB]
        refine⟨⟨by omega,by omega⟩,by rw[aQ];omega,hY,av (by kernel_rfl),?_⟩
        refine cn [] (uN _ (by simp;have:=cg.1;omega)) (fun _ _ _=>rfl) ?_
        simp only[ad,↓Xn,↓Xo,↓Xg,↓Xd,↓Xe,↓Xf,Tryz.VΓ,Tryz.Γs,Xp,Xi,Nat.reduceAdd,Nat.reduceSub,Nat.reduceLT,Nat.reduceLeDiff,reduceIte,reduceCtorEq,Nat.reduceEqDiff,implies_true,forall_const,aa,ak,beq_self_eq_true,bne_self_eq_false,Int.reduceBEq,Int.reduceBNe,Int.reduceLT,Int.reduceLE,l1,l22,l23,l24,ci,da,dS,dX,fG,g0,g1,g12,g13,g10,gid,pc,af pc,af da,mB,cc,hS]
        rw[cv]at hid
        refine aV hid ?_
        simp only[ad,↓Xn,↓Xo,↓Xg,↓Xd,↓Xe,↓Xf,Tryz.VΓ,Tryz.Γs,Xp,Xi,Nat.reduceAdd,Nat.reduceSub,Nat.reduceLT,Nat.reduceLeDiff,reduceIte,reduceCtorEq,Nat.reduceEqDiff,implies_true,forall_const,aa,ak,beq_self_eq_true,bne_self_eq_false,Int.reduceBEq,Int.reduceBNe,Int.reduceLT,Int.reduceLE,l1,l22,l23,l24,ci,da,dS,dX,fG,g0,g1,g12,g13,g10,gid,pc,af pc,af da,mB,cc,cv,hS]
        exact⟨av (by kernel_rfl),cg.app _⟩
       ·rw[cv]at hid
        cases ce:(L[k].aP != jS L[k].stored L[k].v.dU)
        ·simp only[ad,↓Xn,↓Xo,↓Xg,↓Xd,↓Xe,↓Xf,Tryz.VΓ,Tryz.Γs,Xp,Xi,Nat.reduceAdd,Nat.reduceSub,Nat.reduceLT,Nat.reduceLeDiff,reduceIte,reduceCtorEq,Nat.reduceEqDiff,implies_true,forall_const,aa,ak,beq_self_eq_true,bne_self_eq_false,Int.reduceBEq,Int.reduceBNe,Int.reduceLT,Int.reduceLE,l1,l22,l23,l24,ci,da,dS,dX,fG,g0,g1,g12,g13,g10,gid,pc,af pc,af da,mB]
         refine⟨⟨by omega,by omega⟩,by rw[aQ];omega,hY,av (by kernel_rfl),?_⟩
         refine cn [] (uN _ (by simp;have:=cg.1;omega)) (fun _ _ _=>rfl) ?_
         simp only[ad,↓Xn,↓Xo,↓Xg,↓Xd,↓Xe,↓Xf,Tryz.VΓ,Tryz.Γs,Xp,Xi,Nat.reduceAdd,Nat.reduceSub,Nat.reduceLT,Nat.reduceLeDiff,reduceIte,reduceCtorEq,Nat.reduceEqDiff,implies_true,forall_const,aa,ak,beq_self_eq_true,bne_self_eq_false,Int.reduceBEq,Int.reduceBNe,Int.reduceLT,Int.reduceLE,l1,l22,l23,l24,ci,da,dS,dX,fG,g0,g1,g12,g13,g10,gid,pc,af pc,af da,mB,cc]
         refine aV hid ?_
         simp only[ad,↓Xn,↓Xo,↓Xg,↓Xd,↓Xe,↓Xf,Tryz.VΓ,Tryz.Γs,Xp,Xi,Nat.reduceAdd,Nat.reduceSub,Nat.reduceLT,Nat.reduceLeDiff,reduceIte,reduceCtorEq,Nat.reduceEqDiff,implies_true,forall_const,aa,ak,beq_self_eq_true,bne_self_eq_false,Int.reduceBEq,Int.reduceBNe,Int.reduceLT,Int.reduceLE,l1,l22,l23,l24,ci,da,dS,dX,fG,g0,g1,g12,g13,g10,gid,pc,af pc,af da,mB,cc,cv]
         refine aV mw ?_
         simp only[ad,↓Xn,↓Xo,↓Xg,↓Xd,↓Xe,↓Xf,Tryz.VΓ,Tryz.Γs,Xp,Xi,Nat.reduceAdd,Nat.reduceSub,Nat.reduceLT,Nat.reduceLeDiff,reduceIte,reduceCtorEq,Nat.reduceEqDiff,implies_true,forall_const,aa,ak,beq_self_eq_true,bne_self_eq_false,Int.reduceBEq,Int.reduceBNe,Int.reduceLT,Int.reduceLE,l1,l22,l23,l24,ci,da,dS,dX,fG,g0,g1,g12,g13,g10,gid,pc,af pc,af da,mB,cc,cv,ce]
         refine⟨av (by kernel_rfl),by omega,⟨k+1,rfl,by omega,cg.app _,fun i hi=>?_⟩,?_⟩
         ·by_cases e:i=k
          ·subst e
           have ce':(L[i].aP==jS L[i].stored L[i].v.dU)=true:=by simpa using ce
           rw[bU,cc,cv,ce'];rfl
          ·exact aT i (by omega)
         ·rw[ax (show lk 24 _=some (.int .i64 ((k+1:Nat):Int)) from rfl)];omega
        ·rw[ij c (by rw[bU];simp at ce;simp[ce])]at hS
         simp only[ad,↓Xn,↓Xo,↓Xg,↓Xd,↓Xe,↓Xf,Tryz.VΓ,Tryz.Γs,Xp,Xi,Nat.reduceAdd,Nat.reduceSub,Nat.reduceLT,Nat.reduceLeDiff,reduceIte,reduceCtorEq,Nat.reduceEqDiff,implies_true,forall_const,aa,ak,beq_self_eq_true,bne_self_eq_false,Int.reduceBEq,Int.reduceBNe,Int.reduceLT,Int.reduceLE,l1,l22,l23,l24,ci,da,dS,dX,fG,g0,g1,g12,g13,g10,gid,pc,af pc,af da,mB]
         refine⟨⟨by omega,by omega⟩,by rw[aQ];omega,hY,av (by kernel_rfl),?_⟩
         refine cn [] (uN _ (by simp;have:=cg.1;omega)) (fun _ _ _=>rfl) ?_
         simp only[ad,↓Xn,↓Xo,↓Xg,↓Xd,↓Xe,↓Xf,Tryz.VΓ,Tryz.Γs,Xp,Xi,Nat.reduceAdd,Nat.reduceSub,Nat.reduceLT,Nat.reduceLeDiff,reduceIte,reduceCtorEq,Nat.reduceEqDiff,implies_true,forall_const,aa,ak,beq_self_eq_true,bne_self_eq_false,Int.reduceBEq,Int.reduceBNe,Int.reduceLT,Int.reduceLE,l1,l22,l23,l24,ci,da,dS,dX,fG,g0,g1,g12,g13,g10,gid,pc,af pc,af da,mB,cc,hS]
         refine aV hid ?_
         simp only[ad,↓Xn,↓Xo,↓Xg,↓Xd,↓Xe,↓Xf,Tryz.VΓ,Tryz.Γs,Xp,Xi,Nat.reduceAdd,Nat.reduceSub,Nat.reduceLT,Nat.reduceLeDiff,reduceIte,reduceCtorEq,Nat.reduceEqDiff,implies_true,forall_const,aa,ak,beq_self_eq_true,bne_self_eq_false,Int.reduceBEq,Int.reduceBNe,Int.reduceLT,Int.reduceLE,l1,l22,l23,l24,ci,da,dS,dX,fG,g0,g1,g12,g13,g10,gid,pc,af pc,af da,mB,cc,cv,hS]
         refine aV mw ?_
         simp only[ad,↓Xn,↓Xo,↓Xg,↓Xd,↓Xe,↓Xf,Tryz.VΓ,Tryz.Γs,Xp,Xi,Nat.reduceAdd,Nat.reduceSub,Nat.reduceLT,Nat.reduceLeDiff,reduceIte,reduceCtorEq,Nat.reduceEqDiff,implies_true,forall_const,aa,ak,beq_self_eq_true,bne_self_eq_false,Int.reduceBEq,Int.reduceBNe,Int.reduceLT,Int.reduceLE,l1,l22,l23,l24,ci,da,dS,dX,fG,g0,g1,g12,g13,g10,gid,pc,af pc,af da,mB,cc,cv,ce,hS]
         exact⟨av (by kernel_rfl),cg.app _⟩
     ·have mB:decide (0<(k:Int))=true:=by simp;omega
      obtain⟨p,rfl⟩:∃ p,k=p+1:=⟨k - 1,by omega⟩
      have bU:=DM c
      have qh:((p+1:Nat):Int) - 1=(p:Int):=by omega
      have gp:(L.flatMap enc)[p * 14+2]? = some (.str (L[p]'(by omega)).key):=(iK L p (by omega) 2 (by omega)).trans rfl
      cases hd:blt (L[p]'(by omega)).key L[p+1].key
      ·rw[ij c (by rw[bU,hd];simp)]at hS
       simp only[ad,↓Xn,↓Xo,↓Xg,↓Xd,↓Xe,↓Xf,Tryz.VΓ,Tryz.Γs,Xp,Xi,Nat.reduceAdd,Nat.reduceSub,Nat.reduceLT,Nat.reduceLeDiff,reduceIte,reduceCtorEq,Nat.reduceEqDiff,implies_true,forall_const,aa,ak,beq_self_eq_true,bne_self_eq_false,Int.reduceBEq,Int.reduceBNe,Int.reduceLT,Int.reduceLE,l1,l22,l23,l24,ci,da,dS,dX,fG,g0,g1,g12,g13,g10,gid,pc,af pc,af da,mB,qh,gp,hd,hS]
       exact⟨⟨by omega,by omega⟩,by rw[aQ];omega,hY,⟨by omega,by omega⟩,⟨by omega,by omega⟩,by rw[aQ];omega,av (by kernel_rfl),cg.app _⟩
      ·have iN:p+1=p+1:=rfl
       cases cc:jZ L[p+1].v
       ·rw[ij c (by rw[bU,cc];simp)]at hS
        simp only[ad,↓Xn,↓Xo,↓Xg,↓Xd,↓Xe,↓Xf,Tryz.VΓ,Tryz.Γs,Xp,Xi,Nat.reduceAdd,Nat.reduceSub,Nat.reduceLT,Nat.reduceLeDiff,reduceIte,reduceCtorEq,Nat.reduceEqDiff,implies_true,forall_const,aa,ak,beq_self_eq_true,bne_self_eq_false,Int.reduceBEq,Int.reduceBNe,Int.reduceLT,Int.reduceLE,l1,l22,l23,l24,ci,da,dS,dX,fG,g0,g1,g12,g13,g10,gid,pc,af pc,af da,mB,qh,gp,hd]
        refine⟨⟨by omega,by omega⟩,by rw[aQ];omega,hY,⟨by omega,by omega⟩,⟨by omega,by omega⟩,by rw[aQ];omega,av (by kernel_rfl),?_⟩
        refine cn [] (uN _ (by simp;have:=cg.1;omega)) (fun _ _ _=>rfl) ?_
        simp only[ad,↓Xn,↓Xo,↓Xg,↓Xd,↓Xe,↓Xf,Tryz.VΓ,Tryz.Γs,Xp,Xi,Nat.reduceAdd,Nat.reduceSub,Nat.reduceLT,Nat.reduceLeDiff,reduceIte,reduceCtorEq,Nat.reduceEqDiff,implies_true,forall_const,aa,ak,beq_self_eq_true,bne_self_eq_false,Int.reduceBEq,Int.reduceBNe,Int.reduceLT,Int.reduceLE,l1,l22,l23,l24,ci,da,dS,dX,fG,g0,g1,g12,g13,g10,gid,pc,af pc,af da,mB,qh,gp,hd,cc,hS]
        exact⟨av (by kernel_rfl),cg.app _⟩
       ·cases cv:db L[p+1].v.id
        ·rw[ij c (by rw[bU,cv];simp)]at hS
         simp only[ad,↓Xn,↓Xo,↓Xg,↓Xd,↓Xe,↓Xf,Tryz.VΓ,Tryz.Γs,Xp,Xi,Nat.reduceAdd,Nat.reduceSub,Nat.reduceLT,Nat.reduceLeDiff,reduceIte,reduceCtorEq,Nat.reduceEqDiff,implies_true,forall_const,aa,ak,beq_self_eq_true,bne_self_eq_false,Int.reduceBEq,Int.reduceBNe,Int.reduceLT,Int.reduceLE,l1,l22,l23,l24,ci,da,dS,dX,fG,g0,g1,g12,g13,g10,gid,pc,af pc,af da,mB,qh,gp,hd]
         refine⟨⟨by omega,by omega⟩,by rw[aQ];omega,hY,⟨by omega,by omega⟩,⟨by omega,by omega⟩,by rw[aQ];omega,av (by kernel_rfl),?_⟩
         refine cn [] (uN _ (by simp;have:=cg.1;omega)) (fun _ _ _=>rfl) ?_
         simp only[ad,↓Xn,↓Xo,↓Xg,↓Xd,↓Xe,↓Xf,Tryz.VΓ,Tryz.Γs,Xp,Xi,Nat.reduceAdd,Nat.reduceSub,Nat.reduceLT,Nat.reduceLeDiff,reduceIte,reduceCtorEq,Nat.reduceEqDiff,implies_true,forall_const,aa,ak,beq_self_eq_true,bne_self_eq_false,Int.reduceBEq,Int.reduceBNe,Int.reduceLT,Int.reduceLE,l1,l22,l23,l24,ci,da,dS,dX,fG,g0,g1,g12,g13,g10,gid,pc,af pc,af da,mB,qh,gp,hd,cc,hS]
         rw[cv]at hid
         refine aV hid ?_
         simp only[ad,↓Xn,↓Xo,↓Xg,↓Xd,↓Xe,↓Xf,Tryz.VΓ,Tryz.Γs,Xp,Xi,Nat.reduceAdd,Nat.reduceSub,Nat.reduceLT,Nat.reduceLeDiff,reduceIte,reduceCtorEq,Nat.reduceEqDiff,implies_true,forall_const,aa,ak,beq_self_eq_true,bne_self_eq_false,Int.reduceBEq,Int.reduceBNe,Int.reduceLT,Int.reduceLE,l1,l22,l23,l24,ci,da,dS,dX,fG,g0,g1,g12,g13,g10,gid,pc,af pc,af da,mB,qh,gp,hd,cc,cv,hS]
         exact⟨av (by kernel_rfl),cg.app _⟩
        ·rw[cv]at hid
         cases ce:(L[p+1].aP != jS L[p+1].stored L[p+1].v.dU)
         ·simp only[ad,↓Xn,↓Xo,↓Xg,↓Xd,↓Xe,↓Xf,Tryz.VΓ,Tryz.Γs,Xp,Xi,Nat.reduceAdd,Nat.reduceSub,Nat.reduceLT,Nat.reduceLeDiff,reduceIte,reduceCtorEq,Nat.reduceEqDiff,implies_true,forall_const,aa,ak,beq_self_eq_true,bne_self_eq_false,Int.reduceBEq,Int.reduceBNe,Int.reduceLT,Int.reduceLE,l1,l22,l23,l24,ci,da,dS,dX,fG,g0,g1,g12,g13,g10,gid,pc,af pc,af da,mB,qh,gp,hd]
          refine⟨⟨by omega,by omega⟩,by rw[aQ];omega,hY,⟨by omega,by omega⟩,⟨by omega,by omega⟩,by rw[aQ];omega,av (by kernel_rfl),?_⟩
          refine cn [] (uN _ (by simp;have:=cg.1;omega)) (fun _ _ _=>rfl) ?_
          simp only[ad,↓Xn,↓Xo,↓Xg,↓Xd,↓Xe,↓Xf,Tryz.VΓ,Tryz.Γs,Xp,Xi,Nat.reduceAdd,Nat.reduceSub,Nat.reduceLT,Nat.reduceLeDiff,reduceIte,reduceCtorEq,Nat.reduceEqDiff,implies_true,forall_const,aa,ak,beq_self_eq_true,bne_self_eq_false,Int.reduceBEq,Int.reduceBNe,Int.reduceLT,Int.reduceLE,l1,l22,l23,l24,ci,da,dS,dX,fG,g0,g1,g12,g13,g10,gid,pc,af pc,af da,mB,qh,gp,hd,cc]
          refine aV hid ?_
          simp only[ad,↓Xn,↓Xo,↓Xg,↓Xd,↓Xe,↓Xf,Tryz.VΓ,Tryz.Γs,Xp,Xi,Nat.reduceAdd,Nat.reduceSub,Nat.reduceLT,Nat.reduceLeDiff,reduceIte,reduceCtorEq,Nat.reduceEqDiff,implies_true,forall_const,aa,ak,beq_self_eq_true,bne_self_eq_false,Int.reduceBEq,Int.reduceBNe,Int.reduceLT,Int.reduceLE,l1,l22,l23,l24,ci,da,dS,dX,fG,g0,g1,g12,g13,g10,gid,pc,af pc,af da,mB,qh,gp,hd,cc,cv]
          refine aV mw ?_
          simp only[ad,↓Xn,↓Xo,↓Xg,↓Xd,↓Xe,↓Xf,Tryz.VΓ,Tryz.Γs,Xp,Xi,Nat.reduceAdd,Nat.reduceSub,Nat.reduceLT,Nat.reduceLeDiff,reduceIte,reduceCtorEq,Nat.reduceEqDiff,implies_true,forall_const,aa,ak,beq_self_eq_true,bne_self_eq_false,Int.reduceBEq,Int.reduceBNe,Int.reduceLT,Int.reduceLE,l1,l22,l23,l24,ci,da,dS,dX,fG,g0,g1,g12,g13,g10,gid,pc,af pc,af da,mB,qh,gp,hd,cc,cv,ce]
          refine⟨av (by kernel_rfl),by omega,⟨p+1+1,rfl,by omega,cg.app _,fun i hi=>?_⟩,?_⟩
          ·by_cases e:i=p+1
           ·rw[e]
            have ce':(L[p+1].aP==jS L[p+1].stored L[p+1].v.dU)=true:=by simpa using ce
            rw[bU,hd,cc,cv,ce'];rfl
           ·exact aT i (by omega)
          ·rw[ax (show lk 24 _=some (.int .i64 ((p+1+1:Nat):Int)) from rfl)];omega
         ·rw[ij c (by rw[bU];simp at ce;simp[ce])]at hS
          simp only[ad,↓Xn,↓Xo,↓Xg,↓Xd,↓Xe,↓Xf,Tryz.VΓ,Tryz.Γs,Xp,Xi,Nat.reduceAdd,Nat.reduceSub,Nat.reduceLT,Nat.reduceLeDiff,reduceIte,reduceCtorEq,Nat.reduceEqDiff,implies_true,forall_const,aa,ak,beq_self_eq_true,bne_self_eq_false,Int.reduceBEq,Int.reduceBNe,Int.reduceLT,Int.reduceLE,l1,l22,l23,l24,ci,da,dS,dX,fG,g0,g1,g12,g13,g10,gid,pc,af pc,af da,mB,qh,gp,hd]
          refine⟨⟨by omega,by omega⟩,by rw[aQ];omega,hY,⟨by omega,by omega⟩,⟨by omega,by omega⟩,by rw[aQ];omega,av (by kernel_rfl),?_⟩
          refine cn [] (uN _ (by simp;have:=cg.1;omega)) (fun _ _ _=>rfl) ?_
          simp only[ad,↓Xn,↓Xo,↓Xg,↓Xd,↓Xe,↓Xf,Tryz.VΓ,Tryz.Γs,Xp,Xi,Nat.reduceAdd,Nat.reduceSub,Nat.reduceLT,Nat.reduceLeDiff,reduceIte,reduceCtorEq,Nat.reduceEqDiff,implies_true,forall_const,aa,ak,beq_self_eq_true,bne_self_eq_false,Int.reduceBEq,Int.reduceBNe,Int.reduceLT,Int.reduceLE,l1,l22,l23,l24,ci,da,dS,dX,fG,g0,g1,g12,g13,g10,gid,pc,af pc,af da,mB,qh,gp,hd,cc,hS]
          refine aV hid ?_
          simp only[ad,↓Xn,↓Xo,↓Xg,↓Xd,↓Xe,↓Xf,Tryz.VΓ,Tryz.Γs,Xp,Xi,Nat.reduceAdd,Nat.reduceSub,Nat.reduceLT,Nat.reduceLeDiff,reduceIte,reduceCtorEq,Nat.reduceEqDiff,implies_true,forall_const,aa,ak,beq_self_eq_true,bne_self_eq_false,Int.reduceBEq,Int.reduceBNe,Int.reduceLT,Int.reduceLE,l1,l22,l23,l24,ci,da,dS,dX,fG,g0,g1,g12,g13,g10,gid,pc,af pc,af da,mB,qh,gp,hd,cc,cv,hS]
          refine aV mw ?_
          simp only[ad,↓Xn,↓Xo,↓Xg,↓Xd,↓Xe,↓Xf,Tryz.VΓ,Tryz.Γs,Xp,Xi,Nat.reduceAdd,Nat.reduceSub,Nat.reduceLT,Nat.reduceLeDiff,reduceIte,reduceCtorEq,Nat.reduceEqDiff,implies_true,forall_const,aa,ak,beq_self_eq_true,bne_self_eq_false,Int.reduceBEq,Int.reduceBNe,Int.reduceLT,Int.reduceLE,l1,l22,l23,l24,ci,da,dS,dX,fG,g0,g1,g12,g13,g10,gid,pc,af pc,af da,mB,qh,gp,hd,cc,cv,ce,hS]
          exact⟨av (by kernel_rfl),cg.app _⟩
    ·have ci:decide ((k:Int)<(L.length:Int))=false:=by simpa using c
     obtain rfl:k=L.length:=by omega
     rw[tp c1 c2 c3 aT]at hS
     simp only[ad,↓Xn,↓Xo,↓Xg,↓Xd,↓Xe,↓Xf,Tryz.VΓ,Tryz.Γs,Xp,Xi,Nat.reduceAdd,Nat.reduceSub,Nat.reduceLT,Nat.reduceLeDiff,reduceIte,reduceCtorEq,Nat.reduceEqDiff,implies_true,forall_const,aa,ak,beq_self_eq_true,bne_self_eq_false,Int.reduceBEq,Int.reduceBNe,Int.reduceLT,Int.reduceLE,l1,l22,l23,l24,ci,hS]
     exact cg
   ·have hS:ik cp L=false:=by unfold ik;rw[c1,c2,c3];rfl
    rw[hS]
    simp only[ad,↓Xn,↓Xo,↓Xg,↓Xd,↓Xe,↓Xf,Tryz.VΓ,Tryz.Γs,Xp,Xi,Nat.reduceAdd,Nat.reduceSub,Nat.reduceLT,Nat.reduceLeDiff,reduceIte,reduceCtorEq,Nat.reduceEqDiff,implies_true,forall_const,aa,ak,beq_self_eq_true,bne_self_eq_false,Int.reduceBEq,Int.reduceBNe,Int.reduceLT,Int.reduceLE,ho,fb,c1,c2,c3]
    exact(Kp.refl _).app _
  ·have hS:ik cp L=false:=by unfold ik;rw[c1,c2];rfl
   rw[hS]
   simp only[ad,↓Xn,↓Xo,↓Xg,↓Xd,↓Xe,↓Xf,Tryz.VΓ,Tryz.Γs,Xp,Xi,Nat.reduceAdd,Nat.reduceSub,Nat.reduceLT,Nat.reduceLeDiff,reduceIte,reduceCtorEq,Nat.reduceEqDiff,implies_true,forall_const,aa,ak,beq_self_eq_true,bne_self_eq_false,Int.reduceBEq,Int.reduceBNe,Int.reduceLT,Int.reduceLE,ho,fb,c1,c2]
   exact(Kp.refl _).app _
 ·have hS:ik cp L=false:=by unfold ik;rw[c1];rfl
  rw[hS]
  simp only[ad,↓Xn,↓Xo,↓Xg,↓Xd,↓Xe,↓Xf,Tryz.VΓ,Tryz.Γs,Xp,Xi,Nat.reduceAdd,Nat.reduceSub,Nat.reduceLT,Nat.reduceLeDiff,reduceIte,reduceCtorEq,Nat.reduceEqDiff,implies_true,forall_const,aa,ak,beq_self_eq_true,bne_self_eq_false,Int.reduceBEq,Int.reduceBNe,Int.reduceLT,Int.reduceLE,ho,fb,c1]
  exact(Kp.refl _).app _
end
open Go Vc Go.RowKit Wf
section
variable {b:List ay} {v:Vd} {L:List En} {m:Bool} {cp:Int}
end
open Go Vc Go.RowKit Wf
section
variable {b:List ay} {L M:List En} {m m':Bool} {cp:Int}
theorem zI {x y:SV}(h:gC b x L m)(k:gC b y M m')(hl:L.length≤1000000)(hlen:M.length=L.length)(h1:∀ e∈L,one e.v.tr=true)(k1:∀ e∈M,one e.v.tr=true)
 (hs:∀ (i:Nat) (hi:i<L.length),L[i].stored=(M[i]'(by omega)).stored∧L[i].aP=(M[i]'(by omega)).aP∧∀ b2,Kp b b2→SC Tryz.V 22 [.agg (eJ L[i].v),.agg (eJ (M[i]'(by omega)).v)] b2 (fun r b'=>r=.bool true∧b'=b2)) :
 SC Tryz.V 13 [.agg [.int .i64 cp,x],.agg [.int .i64 cp,y]] b (fun r b'=>r=.bool true∧b'=b):=by
 refine fm rfl ?_
 have hw:=h.within
 have ho:=h.one
 have kw:=k.within
 have ko:=k.one
 have fb:∀ e,nm (.slice e) x=some (.int .i64 L.length):=fun e=>by
  rcases h with⟨rfl,rfl⟩|⟨q,rfl,-⟩ <;> rfl
 have hleny:∀ e,nm (.slice e) y=some (.int .i64 L.length):=fun e=>by
  rw[← hlen]
  rcases k with⟨rfl,rfl⟩|⟨q,rfl,-⟩ <;> rfl
 refine cK 3000 Tryz.func13 rfl Tryz.ntmps13 Tryz.results13 Tryz.call13 (by simp) (aw b.length _ (by simp[within,within.aN,hw,kw])) ?_
 have e1:(cp != cp)=false:=by simp
 have e2:((L.length:Int) != (L.length:Int))=false:=by simp
 simp only[ad,↓Xn,↓Xo,↓Xg,↓Xd,↓Xe,↓Xf,Tryz.VΓ,Tryz.Γs,Xp,Xi,Nat.reduceAdd,Nat.reduceSub,Nat.reduceLT,Nat.reduceLeDiff,reduceIte,reduceCtorEq,Nat.reduceEqDiff,implies_true,forall_const,aa,ak,beq_self_eq_true,bne_self_eq_false,Int.reduceBEq,Int.reduceBNe,Int.reduceLT,Int.reduceLE,ho,ko,fb,hleny,e1,e2]
 refine aJ (fun σ=>∃ (i:Nat),lk 2 σ.t=some (.p b.length 0)∧lk 3 σ.t=some (.p (b.length+1) 0)∧lk 22 σ.t=some (.int .i64 L.length)∧lk 23 σ.t=some (.int .i64 i)∧i≤L.length∧Kp b σ.b∧σ.b[b.length]? = some (.cells [.int .i64 cp,x] 24 true)∧σ.b[b.length+1]? = some (.cells [.int .i64 cp,y] 24 true)) (fun σ=>L.length - iH 23 σ) ⟨0,rfl,rfl,rfl,rfl,by omega,(Kp.refl _).app _,a6 rfl _ 0,a6 rfl _ 1⟩ ?_
 rintro⟨t1,b1⟩ ⟨i,l2,l3,l22,l23,hi,cg,pc,pd⟩
 simp only at l2 l3 l22 l23 cg pc pd
 rw[ax l23]
 by_cases c:i<L.length
 ·have ci:decide ((i:Int)<(L.length:Int))=true:=by simpa using c
  have c2:i<M.length:=by omega
  obtain⟨q,rfl,hq⟩:∃ q,x=.o q L.length∧b[q]? = some (.own (L.flatMap enc) 43 14 L.length m):=by
   rcases h with⟨rfl,rfl⟩|h
   ·simp at c
   ·exact h
  obtain⟨q2,rfl,qi⟩:∃ q2,y=.o q2 M.length∧b[q2]? = some (.own (M.flatMap enc) 43 14 M.length m'):=by
   rcases k with⟨rfl,rfl⟩|k
   ·simp at c2
   ·exact k
  rw[hlen]at pd qi
  have da:=cg.at hq
  have kJ:=cg.at qi
  obtain⟨s1,s2,s3⟩:=hs i c
  have g1:(L.flatMap enc)[i * 14+12]? = some (.int .u64 L[i].stored):=(iK L i c 12 (by omega)).trans rfl
  have g2:(L.flatMap enc)[i * 14+13]? = some (.int .u64 L[i].aP):=(iK L i c 13 (by omega)).trans rfl
  have k1':(M.flatMap enc)[i * 14+12]? = some (.int .u64 L[i].stored):=by rw[s1];exact(iK M i c2 12 (by omega)).trans rfl
  have k2':(M.flatMap enc)[i * 14+13]? = some (.int .u64 L[i].aP):=by rw[s2];exact(iK M i c2 13 (by omega)).trans rfl
  have hv1:=s5 L i c
  have hv2:=s5 M i c2
  have n1:(L[i].stored != L[i].stored)=false:=by simp
  have n2:(L[i].aP != L[i].aP)=false:=by simp
  have mh:=aQ L
  have HX:=aQ M
  simp only[ad,↓Xn,↓Xo,↓Xg,↓Xd,↓Xe,↓Xf,Tryz.VΓ,Tryz.Γs,Xp,Xi,Nat.reduceAdd,Nat.reduceSub,Nat.reduceLT,Nat.reduceLeDiff,reduceIte,reduceCtorEq,Nat.reduceEqDiff,implies_true,forall_const,aa,ak,beq_self_eq_true,bne_self_eq_false,Int.reduceBEq,Int.reduceBNe,Int.reduceLT,Int.reduceLE,l2,l3,l22,l23,ci,da,kJ,pc,pd,g1,g2,k1',k2',hv1,hv2,n1,n2]
  refine⟨⟨by omega,by omega⟩,by rw[mh];omega,⟨by omega,by omega⟩,by rw[HX,hlen];omega,⟨by omega,by omega⟩,by rw[mh];omega,⟨by omega,by omega⟩,by rw[HX,hlen];omega,⟨by omega,by omega⟩,by rw[mh];omega,⟨by omega,by omega⟩,by rw[HX,hlen];omega,?_⟩
  refine cn [] (s3 _ cg) (fun _ _ _=>rfl) ?_
  simp only[ad,↓Xn,↓Xo,↓Xg,↓Xd,↓Xe,↓Xf,Tryz.VΓ,Tryz.Γs,Xp,Xi,Nat.reduceAdd,Nat.reduceSub,Nat.reduceLT,Nat.reduceLeDiff,reduceIte,reduceCtorEq,Nat.reduceEqDiff,implies_true,forall_const,aa,ak,beq_self_eq_true,bne_self_eq_false,Int.reduceBEq,Int.reduceBNe,Int.reduceLT,Int.reduceLE,l2,l3,l22,l23,ci,da,kJ,pc,pd,n1,n2]
  refine⟨av (by kernel_rfl),by omega,⟨i+1,rfl,by omega,cg,by simp[hlen]⟩,?_⟩
  rw[ax (show lk 23 _=some (.int .i64 ((i+1:Nat):Int)) from rfl)];omega
 ·have ci:decide ((i:Int)<(L.length:Int))=false:=by simpa using c
  simp only[ad,↓Xn,↓Xo,↓Xg,↓Xd,↓Xe,↓Xf,Tryz.VΓ,Tryz.Γs,Xp,Xi,Nat.reduceAdd,Nat.reduceSub,Nat.reduceLT,Nat.reduceLeDiff,reduceIte,reduceCtorEq,Nat.reduceEqDiff,implies_true,forall_const,aa,ak,beq_self_eq_true,bne_self_eq_false,Int.reduceBEq,Int.reduceBNe,Int.reduceLT,Int.reduceLE,l2,l3,l22,l23,ci]
  exact cg
end
open Go Vc Go.RowKit Wf
def Sd (L:List En):Prop:=∀ e∈L,∃ (n:Nat) (s t:Int),1≤s∧s≤86400∧e=lp (vV n s) t
theorem tm {cp:Int}{L:List En}(hc:0≤cp∧cp≤1024)(hl:(L.length:Int)≤cp)(ha:kq En.key L)(h:Sd L):ik cp L=true:=by
 refine tp (by simp;omega) (by simp;omega) (by simp;omega) fun j hj=>?_
 have he:(jZ L[j].v&&(db L[j].v.id&&L[j].aP==jS L[j].stored L[j].v.dU))=true:=by
  obtain⟨n,s,t,h1,h2,e⟩:=h _ (zMM hj)
  rw[e,← Bool.and_assoc]
  have:=Gg (n:=n) h1 h2
  simp only[lp,beq_self_eq_true,Bool.and_true]
  exact this
 cases j with
 | zero=>rw[DN hj,he]
 | succ j =>
   have:=(List.pairwise_iff_getElem.1 ha) j (j+1) (by omega) hj (by omega)
   rw[DM hj,he,this];rfl
theorem Sd.tr {L:List En}(h:Sd L):∀ e∈L,e.v.tr=.aD:=fun e he=>by
 obtain⟨n,s,t,-,-,rfl⟩:=h e he
 rfl
theorem Mc.sd {cp now:Int}{L:List En}(h:Mc cp L now):Sd L:=fun e he=>by
 obtain⟨n,s,t,-,h1,h2,-,-,rfl⟩:=h.me e he
 exact⟨n,s,t,h1,by omega,rfl⟩
theorem Sd.put {cp now:Int}{L:List En}(h:Sd L){n:Nat}{s:Int}(h1:1≤s)(h2:s≤86400):Sd (eX En.key En.aP cp L (lp (vV n s) now)):=fun e he=>by
 rcases tG he with rfl|he
 ·exact⟨n,s,now,h1,h2,rfl⟩
 ·exact h e he
theorem Sd.exp {L:List En}(h:Sd L)(t:Int):Sd (eL L t):=fun e he=>h e (List.mem_filter.1 he).1
theorem mX (n:Nat)(s:Int):PC Tryz.V 28 [.agg [.int .i64 (vV n s).id.kind,.str (vV n s).id.text,.str (vV n s).id.host,.int .i64 (vV n s).id.port]] (.bool true):=by
 have:=rW (FW n)
 rw[wv]at this
 exact this
theorem oS {cp now:Int}{L:List En}{n:Nat}{s:Int}(h1:1≤s)(h2:s≤86400)(hc:0<cp):oT cp L (vV n s) now true=eX En.key En.aP cp L (lp (vV n s) now):=by
 unfold oT
 rw[if_pos]
 simp[jZ,vV,h1,h2];omega
def sL1:List En:=[lp (vV 0 100) 0]
def GD:List En:=[lp (vV 1 5) 0]
theorem s1_put:oT 1 [] (vV 0 100) 0 true=sL1:=by kernel_rfl
theorem s2_put:oT 1 sL1 (vV 1 5) 0 true=GD:=by kernel_rfl
theorem s3_get:getM GD (lv 0) 0=(zeroV,false):=by kernel_rfl
theorem s4_get:getM GD (lv 1) 4=(vV 1 5,true):=by kernel_rfl
theorem xT:Sd GD:=fun e he=>by
 simp[GD]at he;subst he;exact⟨1,5,0,by omega,by omega,rfl⟩
theorem sL1_sd:Sd sL1:=fun e he=>by
 simp[sL1]at he;subst he;exact⟨0,100,0,by omega,by omega,rfl⟩
theorem sL1_asc:kq En.key sL1:=List.pairwise_singleton _ _
theorem xU:kq En.key GD:=List.pairwise_singleton _ _
theorem xM {b:List ay}:SC Tryz.V 8 [] b (fun r b'=>r=.bool true∧b'=b):=by
 refine fm rfl ?_
 refine cK 3000 Tryz.func8 rfl Tryz.ntmps8 Tryz.results8 Tryz.call8 (by simp) (fun β β' hb=>rfl) ?_
 refine aK 2900 (fun σ=>σ.b=b) ?_ (fun k' hk'=>?_)
 rotate_left
 ·simp only[ad,↓Xn,↓Xo,↓Xg,↓Xd,↓Xe,↓Xf,Tryz.VΓ,Tryz.Γs,Xp,Xi,Nat.reduceAdd,Nat.reduceSub,Nat.reduceLT,Nat.reduceLeDiff,reduceIte,reduceCtorEq,Nat.reduceEqDiff,implies_true,forall_const,aa,ak,beq_self_eq_true,bne_self_eq_false,Int.reduceBEq,Int.reduceBNe,Int.reduceLT,Int.reduceLE]
  exact hk' _ _ rfl
 rintro m1 ⟨t1,b1⟩ rfl
 refine aK 2800 (fun σ=>lk 1 σ.t=some (.p b1.length 0)∧lk 2 σ.t=some (.int .i64 0)∧σ.b=b1++[.cells [.int .i64 1,.aD] 24 true]) ?_ (fun k' hk'=>?_)
 rotate_left
 ·have fI:=p_New 1
  rw[if_neg (by omega)]at fI
  simp only[ad,↓Xn,↓Xo,↓Xg,↓Xd,↓Xe,↓Xf,Tryz.VΓ,Tryz.Γs,Xp,Xi,Nat.reduceAdd,Nat.reduceSub,Nat.reduceLT,Nat.reduceLeDiff,reduceIte,reduceCtorEq,Nat.reduceEqDiff,implies_true,forall_const,aa,ak,beq_self_eq_true,bne_self_eq_false,Int.reduceBEq,Int.reduceBNe,Int.reduceLT,Int.reduceLE]
  refine ae fI ?_
  simp only[ad,↓Xn,↓Xo,↓Xg,↓Xd,↓Xe,↓Xf,Tryz.VΓ,Tryz.Γs,Xp,Xi,Nat.reduceAdd,Nat.reduceSub,Nat.reduceLT,Nat.reduceLeDiff,reduceIte,reduceCtorEq,Nat.reduceEqDiff,implies_true,forall_const,aa,ak,beq_self_eq_true,bne_self_eq_false,Int.reduceBEq,Int.reduceBNe,Int.reduceLT,Int.reduceLE]
  exact hk' _ _ ⟨rfl,rfl,rfl⟩
 rintro m2 ⟨t2,b2⟩ ⟨l1,l2,rfl⟩
 simp only at l1 l2
 refine aK 2700 (fun σ=>lk 1 σ.t=some (.p b1.length 0)∧lk 2 σ.t=some (.int .i64 0)∧Kp b1 σ.b∧∃ x,σ.b[b1.length]? = some (.cells [.int .i64 1,x] 24 true)∧gC σ.b x sL1 true) ?_ (fun k' hk'=>?_)
 rotate_left
 ·have hv:=fv 0 100 (by omega)
  obtain⟨y,nB,⟨hk,x',rfl,hE⟩,jo⟩:=xI (v:=vV 0 100) (b:=b1++[.cells [.int .i64 1,.aD] 24 true]) (L:=[]) (m:=true) (now:=0) (cp:=1) (.inl ⟨rfl,rfl⟩) (.inl rfl) (by simp) (fun e he=>by cases he) List.Pairwise.nil rfl (by omega) (mX 0 100)
  rw[s1_put]at hE
  have pc:=hk.at ((eR b1 _).trans rfl)
  have ho:=hE.one
  have hl:=hk.1
  simp only[ad,↓Xn,↓Xo,↓Xg,↓Xd,↓Xe,↓Xf,Tryz.VΓ,Tryz.Γs,Xp,Xi,Nat.reduceAdd,Nat.reduceSub,Nat.reduceLT,Nat.reduceLeDiff,reduceIte,reduceCtorEq,Nat.reduceEqDiff,implies_true,forall_const,aa,ak,beq_self_eq_true,bne_self_eq_false,Int.reduceBEq,Int.reduceBNe,Int.reduceLT,Int.reduceLE,l1]
  refine aV hv ?_
  simp only[ad,↓Xn,↓Xo,↓Xg,↓Xd,↓Xe,↓Xf,Tryz.VΓ,Tryz.Γs,Xp,Xi,Nat.reduceAdd,Nat.reduceSub,Nat.reduceLT,Nat.reduceLeDiff,reduceIte,reduceCtorEq,Nat.reduceEqDiff,implies_true,forall_const,aa,ak,beq_self_eq_true,bne_self_eq_false,Int.reduceBEq,Int.reduceBNe,Int.reduceLT,Int.reduceLE,l1]
  refine jQ jo ?_
  simp only[ad,↓Xn,↓Xo,↓Xg,↓Xd,↓Xe,↓Xf,Tryz.VΓ,Tryz.Γs,Xp,Xi,Nat.reduceAdd,Nat.reduceSub,Nat.reduceLT,Nat.reduceLeDiff,reduceIte,reduceCtorEq,Nat.reduceEqDiff,implies_true,forall_const,aa,ak,beq_self_eq_true,bne_self_eq_false,Int.reduceBEq,Int.reduceBNe,Int.reduceLT,Int.reduceLE,l1,pc,ho]
  refine⟨(by
   refine eT (fun n=>if n=b1.length then 0 else 1) ?_
   simp only[zMU,zMV,fO,kK,reduceIte,not_false_eq_true]
   exact av (by kernel_rfl)),?_⟩
  refine hk' _ _ ?_
  exact⟨l1,l2,(((Kp.refl _).app _).trans hk).set (Nat.le_refl _) _,x',zMQ (by simp at hl;omega),hE.tv (by rintro q hq rfl;rw[pc]at hq;cases hq) _⟩
 rintro m3 ⟨t3,b3⟩ ⟨l1,l2,cg,x,pc,hE⟩
 simp only at l1 l2 cg pc hE
 have ho:=hE.one
 refine aK 2600 (fun σ=>lk 1 σ.t=some (.p b1.length 0)∧lk 2 σ.t=some (.int .i64 0)∧Kp b1 σ.b∧σ.b[b1.length]? = some (.cells [.int .i64 1,x] 24 true)∧∃ d y,lk 3 σ.t=some (.p d 0)∧σ.b[d]? = some (.cells [.int .i64 1,y] 24 true)∧gC σ.b x sL1 true∧gC σ.b y GD true) ?_ (fun k' hk'=>?_)
 rotate_left
 ·have hv:=fv 1 5 (by omega)
  obtain⟨y,nB,⟨hk,x',rfl,BW⟩,jo⟩:=xI (v:=vV 1 5) (b:=b3) (L:=sL1) (m:=true) (now:=0) (cp:=1) hE (.inl rfl) (by simp[sL1]) sL1_sd.tr sL1_asc rfl (by omega) (mX 1 5)
  rw[s2_put]at BW
  have pc2:=hk.at pc
  have jJ:=BW.one
  simp only[ad,↓Xn,↓Xo,↓Xg,↓Xd,↓Xe,↓Xf,Tryz.VΓ,Tryz.Γs,Xp,Xi,Nat.reduceAdd,Nat.reduceSub,Nat.reduceLT,Nat.reduceLeDiff,reduceIte,reduceCtorEq,Nat.reduceEqDiff,implies_true,forall_const,aa,ak,beq_self_eq_true,bne_self_eq_false,Int.reduceBEq,Int.reduceBNe,Int.reduceLT,Int.reduceLE,l1,pc,ho]
  refine aV hv ?_
  simp only[ad,↓Xn,↓Xo,↓Xg,↓Xd,↓Xe,↓Xf,Tryz.VΓ,Tryz.Γs,Xp,Xi,Nat.reduceAdd,Nat.reduceSub,Nat.reduceLT,Nat.reduceLeDiff,reduceIte,reduceCtorEq,Nat.reduceEqDiff,implies_true,forall_const,aa,ak,beq_self_eq_true,bne_self_eq_false,Int.reduceBEq,Int.reduceBNe,Int.reduceLT,Int.reduceLE,l1,pc,ho]
  refine jQ jo ?_
  simp only[ad,↓Xn,↓Xo,↓Xg,↓Xd,↓Xe,↓Xf,Tryz.VΓ,Tryz.Γs,Xp,Xi,Nat.reduceAdd,Nat.reduceSub,Nat.reduceLT,Nat.reduceLeDiff,reduceIte,reduceCtorEq,Nat.reduceEqDiff,implies_true,forall_const,aa,ak,beq_self_eq_true,bne_self_eq_false,Int.reduceBEq,Int.reduceBNe,Int.reduceLT,Int.reduceLE,l1,pc2,jJ]
  have bk:¬ b1.length=nB.length:=by have:=(zMJ.1 pc2).1;omega
  refine⟨(by
   refine eT (fun n=>if n=nB.length then 0 else 1) ?_
   simp only[zMU,zMV,fO,kK,reduceIte,bk]
   exact av (by kernel_rfl)),?_⟩
  refine hk' _ _ ?_
  exact⟨l1,l2,(cg.trans hk).app _,af pc2 _,_,x',rfl,(eR _ _).trans rfl,(hE.kp hk).kp ((Kp.refl _).app _),BW.kp ((Kp.refl _).app _)⟩
 clear hE pc cg
 rintro m4 ⟨t4,b4⟩ ⟨l1,l2,cg,pc,d,y,l3,pd,hE,BW⟩
 simp only at l1 l2 l3 cg pc pd hE BW
 have jJ:=BW.one
 have hv0:=lu zeroV rfl
 refine aK 2500 (fun σ=>lk 1 σ.t=some (.p b1.length 0)∧lk 2 σ.t=some (.int .i64 0)∧lk 3 σ.t=some (.p d 0)∧lk 5 σ.t=some (.bool false)∧Kp b4 σ.b) ?_ (fun k' hk'=>?_)
 rotate_left
 ·have hv:=fv 0 1 (by omega)
  have hg:=tf (cp:=1) (t:=lv 0) (now:=0) BW xU (by simp[GD]) xT.tr
  rw[s3_get,hv0]at hg
  have sS:eJ (vV 0 1)=[.int .i64 0,.int .i64 1,.str (lv 0),.str ([97,46,101,120,97,109,112,108,101]:List UInt8),.int .i64 0,.int .i64 0,.str [],.str [],.int .i64 0,.bool true,.int .u64 1,.aD]:=rfl
  rw[sS]at hv
  simp only[ad,↓Xn,↓Xo,↓Xg,↓Xd,↓Xe,↓Xf,Tryz.VΓ,Tryz.Γs,Xp,Xi,Nat.reduceAdd,Nat.reduceSub,Nat.reduceLT,Nat.reduceLeDiff,reduceIte,reduceCtorEq,Nat.reduceEqDiff,implies_true,forall_const,aa,ak,beq_self_eq_true,bne_self_eq_false,Int.reduceBEq,Int.reduceBNe,Int.reduceLT,Int.reduceLE,l3,pd,jJ]
  refine aV hv ?_
  simp only[ad,↓Xn,↓Xo,↓Xg,↓Xd,↓Xe,↓Xf,Tryz.VΓ,Tryz.Γs,Xp,Xi,Nat.reduceAdd,Nat.reduceSub,Nat.reduceLT,Nat.reduceLeDiff,reduceIte,reduceCtorEq,Nat.reduceEqDiff,implies_true,forall_const,aa,ak,beq_self_eq_true,bne_self_eq_false,Int.reduceBEq,Int.reduceBNe,Int.reduceLT,Int.reduceLE,l3,pd,jJ]
  refine jQ hg ?_
  simp only[ad,↓Xn,↓Xo,↓Xg,↓Xd,↓Xe,↓Xf,Tryz.VΓ,Tryz.Γs,Xp,Xi,Nat.reduceAdd,Nat.reduceSub,Nat.reduceLT,Nat.reduceLeDiff,reduceIte,reduceCtorEq,Nat.reduceEqDiff,implies_true,forall_const,aa,ak,beq_self_eq_true,bne_self_eq_false,Int.reduceBEq,Int.reduceBNe,Int.reduceLT,Int.reduceLE,l3,pd,jJ]
  have bk:¬ d=b4.length:=by have:=(zMJ.1 pd).1;omega
  refine⟨(by
   refine eT (fun n=>if n=b4.length then 0 else 1) ?_
   simp only[zMU,zMV,fO,kK,reduceIte,bk]
   exact av (by kernel_rfl)),?_⟩
  refine hk' _ _ ?_
  exact⟨l1,l2,l3,rfl,(Kp.refl _).app _⟩
 rintro m5 ⟨t5,b5⟩ ⟨l1,l2,l3,l5,uI⟩
 simp only at l1 l2 l3 l5 uI
 replace cg:=cg.trans uI
 replace pc:=uI.at pc
 replace pd:=uI.at pd
 replace hE:=hE.kp uI
 replace BW:=BW.kp uI
 clear uI
 refine aK 2400 (fun σ=>lk 1 σ.t=some (.p b1.length 0)∧lk 2 σ.t=some (.int .i64 0)∧lk 3 σ.t=some (.p d 0)∧lk 5 σ.t=some (.bool false)∧lk 7 σ.t=some (.bool true)∧Kp b5 σ.b) ?_ (fun k' hk'=>?_)
 rotate_left
 ·have hv:=fv 1 1 (by omega)
  have hg:=tf (cp:=1) (t:=lv 1) (now:=4) BW xU (by simp[GD]) xT.tr
  rw[s4_get,lu (vV 1 5) rfl]at hg
  have sS:eJ (vV 1 1)=[.int .i64 0,.int .i64 1,.str (lv 1),.str ([97,46,101,120,97,109,112,108,101]:List UInt8),.int .i64 0,.int .i64 0,.str [],.str [],.int .i64 0,.bool true,.int .u64 1,.aD]:=rfl
  rw[sS]at hv
  simp only[ad,↓Xn,↓Xo,↓Xg,↓Xd,↓Xe,↓Xf,Tryz.VΓ,Tryz.Γs,Xp,Xi,Nat.reduceAdd,Nat.reduceSub,Nat.reduceLT,Nat.reduceLeDiff,reduceIte,reduceCtorEq,Nat.reduceEqDiff,implies_true,forall_const,aa,ak,beq_self_eq_true,bne_self_eq_false,Int.reduceBEq,Int.reduceBNe,Int.reduceLT,Int.reduceLE,l3,pd,jJ]
  refine aV hv ?_
  simp only[ad,↓Xn,↓Xo,↓Xg,↓Xd,↓Xe,↓Xf,Tryz.VΓ,Tryz.Γs,Xp,Xi,Nat.reduceAdd,Nat.reduceSub,Nat.reduceLT,Nat.reduceLeDiff,reduceIte,reduceCtorEq,Nat.reduceEqDiff,implies_true,forall_const,aa,ak,beq_self_eq_true,bne_self_eq_false,Int.reduceBEq,Int.reduceBNe,Int.reduceLT,Int.reduceLE,l3,pd,jJ]
  refine jQ hg ?_
  simp only[ad,↓Xn,↓Xo,↓Xg,↓Xd,↓Xe,↓Xf,Tryz.VΓ,Tryz.Γs,Xp,Xi,Nat.reduceAdd,Nat.reduceSub,Nat.reduceLT,Nat.reduceLeDiff,reduceIte,reduceCtorEq,Nat.reduceEqDiff,implies_true,forall_const,aa,ak,beq_self_eq_true,bne_self_eq_false,Int.reduceBEq,Int.reduceBNe,Int.reduceLT,Int.reduceLE,l3,pd,jJ]
  have bk:¬ d=b5.length:=by have:=(zMJ.1 pd).1;omega
  refine⟨(by
   refine eT (fun n=>if n=b5.length then 0 else 1) ?_
   simp only[zMU,zMV,fO,kK,reduceIte,bk]
   exact av (by kernel_rfl)),?_⟩
  refine hk' _ _ ?_
  exact⟨l1,l2,l3,l5,rfl,(Kp.refl _).app _⟩
 rintro m6 ⟨t6,b6⟩ ⟨l1,l2,l3,l5,l7,oG⟩
 simp only at l1 l2 l3 l5 l7 oG
 replace cg:=cg.trans oG
 replace pc:=oG.at pc
 replace pd:=oG.at pd
 replace hE:=hE.kp oG
 replace BW:=BW.kp oG
 have hs:=tx (cp:=1) BW (by simp[GD]) (fun e he=>by rw[xT.tr e he];exact⟨rfl,rfl⟩)
 rw[tm (by omega) (by simp[GD]) xU xT]at hs
 have ny:∀ e,nm (.slice e) x=some (.int .i64 1):=fun e=>by
  rcases hE with⟨rfl,h⟩|⟨q,rfl,-⟩
  ·cases h
  ·rfl
 have gF:∀ e,nm (.slice e) y=some (.int .i64 1):=fun e=>by
  rcases BW with⟨rfl,h⟩|⟨q,rfl,-⟩
  ·cases h
  ·rfl
 simp only[ad,↓Xn,↓Xo,↓Xg,↓Xd,↓Xe,↓Xf,Tryz.VΓ,Tryz.Γs,Xp,Xi,Nat.reduceAdd,Nat.reduceSub,Nat.reduceLT,Nat.reduceLeDiff,reduceIte,reduceCtorEq,Nat.reduceEqDiff,implies_true,forall_const,aa,ak,beq_self_eq_true,bne_self_eq_false,Int.reduceBEq,Int.reduceBNe,Int.reduceLT,Int.reduceLE,l1,l2,l3,l5,l7,pc,pd,ho,jJ,ny,gF]
 refine aG hs ?_
 rintro z b7 ⟨rfl,rfl⟩
 simp only[ad,↓Xn,↓Xo,↓Xg,↓Xd,↓Xe,↓Xf,Tryz.VΓ,Tryz.Γs,Xp,Xi,Nat.reduceAdd,Nat.reduceSub,Nat.reduceLT,Nat.reduceLeDiff,reduceIte,reduceCtorEq,Nat.reduceEqDiff,implies_true,forall_const,aa,ak,beq_self_eq_true,bne_self_eq_false,Int.reduceBEq,Int.reduceBNe,Int.reduceLT,Int.reduceLE,l1,l2,l3,l5,l7,pc,pd]
 exact cg
theorem Ed {L:List En}{e:En}{now:Int}(ha:kq En.key L)(he:e∈L):getM L e.key now=if decide (e.stored≤now)&&decide (now<e.aP) then(e.v,true) else(zeroV,false):=by
 have hh:dm En.key L e.key=true:=fR.2 ⟨e,he,rfl⟩
 obtain⟨hk,iv⟩:=(qn ha).1 hh
 have:=asc_key ha (zMM hk) he iv
 unfold getM
 rw[zMS hk,this]
 simp only[hh,Bool.true_and]
 have e1:(!decide (now<e.stored))=decide (e.stored≤now):=by rw[Bool.eq_iff_iff];simp
 have e2:(!decide (e.aP≤now))=decide (now<e.aP):=by rw[Bool.eq_iff_iff];simp
 rw[e1,e2]
theorem s7 {n:Int}(h0:0≤n)(h:n<18446744073709551616):IntKind.u64.wrap n=n:=by simp[IntKind.wrap,IntKind.bits,IntKind.signed];omega
theorem Gi {a c:Int}(ha:0≤a):qv .rem .u64 a c=a % c:=Int.tmod_eq_emod_of_nonneg ha
theorem u64quo {a c:Int}(ha:0≤a):qv .quo .u64 a c=IntKind.u64.wrap (a / c):=congrArg IntKind.u64.wrap (Int.tdiv_eq_ediv_of_nonneg ha)
theorem i64k {n:Int}(h0:0≤n)(h:n<9223372036854775808):IntKind.i64.wrap n=n:=by simp[IntKind.wrap,IntKind.bits,IntKind.signed];omega
theorem addS_le {a c:Int}(ha:0≤a∧a≤1000000)(hc:0≤c∧c≤1000000):jS a c=a+c:=by
 unfold jS
 rw[s7 (by omega) (by omega),if_neg (by omega)]
structure Mb (b:List ay) (c:Nat) (cp:Int) (x:SV) (L:List En) (m:Bool) (now:Int):Prop where
 c:b[c]? = some (.cells [.int .i64 cp,x] 24 true)
 e:gC b x L m
 M:Mc cp L now
 n:now≤180
 m:m=true∨x=.aD
theorem Mb.kp {b b':List ay}{c:Nat}{cp:Int}{x:SV}{L:List En}{m:Bool}{now:Int}(h:Mb b c cp x L m now)(k:Kp b b'):Mb b' c cp x L m now:=⟨k.at h.c,h.e.kp k,h.M,h.n,h.m⟩
theorem Mb.mn {b:List ay}{c:Nat}{cp:Int}{x:SV}{L:List En}{m:Bool}{now:Int}(h:Mb b c cp x L m now):m=true∨L.length≠0∨x=.aD:=h.m.elim .inl fun e=>.inr (.inr e)
theorem gC.len {b:List ay}{x:SV}{L:List En}{m:Bool}(h:gC b x L m)(e:TypeId):nm (.slice e) x=some (.int .i64 L.length):=by
 rcases h with⟨rfl,rfl⟩|⟨q,rfl,-⟩ <;> rfl
structure Bx (b:List ay) (d:Nat) (cp:Int) (y:SV) (L:List En) (m:Bool):Prop where
 c:b[d]? = some (.cells [.int .i64 cp,y] 24 true)
 e:gC b y L m
theorem Bx.kp {b b':List ay}{d:Nat}{cp:Int}{y:SV}{L:List En}{m:Bool}(h:Bx b d cp y L m)(k:Kp b b'):Bx b' d cp y L m:=⟨k.at h.c,h.e.kp k⟩
theorem rY {v:Vd}(hv:v.tr=.aD):PC Tryz.V 22 [.agg (eJ v),.agg (eJ v)] (.bool true):=by
 have:=Cq hv hv
 rwa [show DB v v=true by simp[DB]]at this
theorem xS (S:List Int)(n sec:Int)(hn:0≤n∧n≤255)(hsec:0≤sec∧sec<18446744073709551616)(hS:S.length≤9223372036854775807)(hr:∀ r∈S,0≤r∧r≤255) :
 SC Tryz.V 7 [.o 0 S.length,.int .u8 n,.int .u64 sec] [.own (S.flatMap kv) 5 1 S.length false] (fun r _=>r=.bool true):=by
 refine cK 3000 Tryz.func7 rfl Tryz.ntmps7 Tryz.results7 Tryz.call7 (by simp) (aw 1 _ (by simp[within,within.aN])) ?_
 refine aK 2900 (fun σ=>lk 0 σ.t=some (.o 0 S.length)∧lk 1 σ.t=some (.int .u8 n)∧lk 2 σ.t=some (.int .u64 sec)∧σ.b=[.own (S.flatMap kv) 5 1 S.length false]) ?_ (fun k' hk'=>?_)
 rotate_left
 ·simp only[ad,↓Xn,↓Xo,↓Xg,↓Xd,↓Xe,↓Xf,Tryz.VΓ,Tryz.Γs,Xp,Xi,Nat.reduceAdd,Nat.reduceSub,Nat.reduceLT,Nat.reduceLeDiff,reduceIte,reduceCtorEq,Nat.reduceEqDiff,implies_true,forall_const,aa,ak,beq_self_eq_true,bne_self_eq_false,Int.reduceBEq,Int.reduceBNe,Int.reduceLT,Int.reduceLE]
  exact hk' _ _ ⟨rfl,rfl,rfl,rfl⟩
 rintro m1 ⟨t1,b1⟩ ⟨l0,l1,l2,rfl⟩
 simp only at l0 l1 l2
 refine aK 2800 (fun σ=>lk 0 σ.t=some (.o 0 S.length)∧lk 1 σ.t=some (.int .u8 n)∧lk 2 σ.t=some (.int .u64 sec)∧σ.b=[.own (S.flatMap kv) 5 1 S.length false]) ?_ (fun k' hk'=>?_)
 rotate_left
 ·simp only[ad,↓Xn,↓Xo,↓Xg,↓Xd,↓Xe,↓Xf,Tryz.VΓ,Tryz.Γs,Xp,Xi,Nat.reduceAdd,Nat.reduceSub,Nat.reduceLT,Nat.reduceLeDiff,reduceIte,reduceCtorEq,Nat.reduceEqDiff,implies_true,forall_const,aa,ak,beq_self_eq_true,bne_self_eq_false,Int.reduceBEq,Int.reduceBNe,Int.reduceLT,Int.reduceLE]
  refine aG xM ?_
  rintro y b2 ⟨rfl,rfl⟩
  simp only[ad,↓Xn,↓Xo,↓Xg,↓Xd,↓Xe,↓Xf,Tryz.VΓ,Tryz.Γs,Xp,Xi,Nat.reduceAdd,Nat.reduceSub,Nat.reduceLT,Nat.reduceLeDiff,reduceIte,reduceCtorEq,Nat.reduceEqDiff,implies_true,forall_const,aa,ak,beq_self_eq_true,bne_self_eq_false,Int.reduceBEq,Int.reduceBNe,Int.reduceLT,Int.reduceLE]
  exact hk' _ _ ⟨l0,l1,l2,rfl⟩
 clear l0 l1 l2
 rintro m2 ⟨t2,b2⟩ ⟨l0,l1,l2,rfl⟩
 simp only at l0 l1 l2
 refine aK 2700 (fun σ=>lk 1 σ.t=some (.int .u8 n)∧lk 2 σ.t=some (.int .u64 sec)∧∃ c cp x L m now,lk 7 σ.t=some (.p c 0)∧lk 8 σ.t=some (.int .u64 now)∧Mb σ.b c cp x L m now) ?_ (fun k' hk'=>?_)
 rotate_left
 ·simp only[ad,↓Xn,↓Xo,↓Xg,↓Xd,↓Xe,↓Xf,Tryz.VΓ,Tryz.Γs,Xp,Xi,Nat.reduceAdd,Nat.reduceSub,Nat.reduceLT,Nat.reduceLeDiff,reduceIte,reduceCtorEq,Nat.reduceEqDiff,implies_true,forall_const,aa,ak,beq_self_eq_true,bne_self_eq_false,Int.reduceBEq,Int.reduceBNe,Int.reduceLT,Int.reduceLE,l0]
  refine aG (Dz rfl hr hS) ?_
  rintro y b3 ⟨cp,x,L,m,now,rfl,hk,hE,hM,CT,hm⟩
  have ho:=hE.one
  simp only[ad,↓Xn,↓Xo,↓Xg,↓Xd,↓Xe,↓Xf,Tryz.VΓ,Tryz.Γs,Xp,Xi,Nat.reduceAdd,Nat.reduceSub,Nat.reduceLT,Nat.reduceLeDiff,reduceIte,reduceCtorEq,Nat.reduceEqDiff,implies_true,forall_const,aa,ak,beq_self_eq_true,bne_self_eq_false,Int.reduceBEq,Int.reduceBNe,Int.reduceLT,Int.reduceLE,l0,ho]
  refine hk' _ _ ?_
  exact⟨l1,l2,_,cp,x,L,m,now,rfl,rfl,(eR _ _).trans rfl,hE.kp ((Kp.refl _).app _),hM,CT,hm⟩
 clear l0 l1 l2
 rintro m3 ⟨t3,b3⟩ ⟨l1,l2,c,cp,x,L,m,now,l7,l8,hB⟩
 simp only at l1 l2 l7 l8 hB
 obtain⟨k,hk⟩:∃ k,k=1+sec % 86400:=⟨_,rfl⟩
 have y6:1≤k∧k≤86400:=by omega
 have CT:=hB.M.hn
 have hnow2:=hB.n
 refine aK 2600 (fun σ=>lk 1 σ.t=some (.int .u8 n)∧lk 7 σ.t=some (.p c 0)∧lk 8 σ.t=some (.int .u64 now)∧lk 9 σ.t=some (.int .u64 k)∧σ.b=b3) ?_ (fun k' hk'=>?_)
 rotate_left
 ·have h1:=Gi (c:=86400) hsec.1
  have h2:IntKind.u64.wrap (1+sec % 86400)=k:=by rw[s7 (by omega) (by omega),hk]
  simp only[ad,↓Xn,↓Xo,↓Xg,↓Xd,↓Xe,↓Xf,Tryz.VΓ,Tryz.Γs,Xp,Xi,Nat.reduceAdd,Nat.reduceSub,Nat.reduceLT,Nat.reduceLeDiff,reduceIte,reduceCtorEq,Nat.reduceEqDiff,implies_true,forall_const,aa,ak,beq_self_eq_true,bne_self_eq_false,Int.reduceBEq,Int.reduceBNe,Int.reduceLT,Int.reduceLE,l2,h1,h2]
  refine⟨by decide,hk' _ _ ⟨l1,l7,l8,rfl,rfl⟩⟩
 clear l1 l2 l7 l8 hk
 rintro m4 ⟨t4,b4⟩ ⟨l1,l7,l8,l9,rfl⟩
 simp only at l1 l7 l8 l9
 obtain⟨nn,rfl⟩:∃ nn:Nat,n=(nn:Int):=⟨n.toNat,by omega⟩
 obtain⟨v,hv⟩:∃ v,v=vV nn k:=⟨_,rfl⟩
 have hvt:v.tr=.aD:=by rw[hv];rfl
 have sS:=lu v hvt
 have AX:(eJ v).length=12:=rfl
 refine aK 2500 (fun σ=>lk 7 σ.t=some (.p c 0)∧lk 8 σ.t=some (.int .u64 now)∧lk 9 σ.t=some (.int .u64 k)∧∃ vb,lk 10 σ.t=some (.p vb 0)∧σ.b[vb]? = some (.cells (eJ v) 41 true)∧Kp b4 σ.b) ?_ (fun k' hk'=>?_)
 rotate_left
 ·have hp:=fv nn k (by omega)
  have h1:=i64k (n:=(nn:Int)) (by omega) (by omega)
  rw[← hv,sS]at hp
  simp only[ad,↓Xn,↓Xo,↓Xg,↓Xd,↓Xe,↓Xf,Tryz.VΓ,Tryz.Γs,Xp,Xi,Nat.reduceAdd,Nat.reduceSub,Nat.reduceLT,Nat.reduceLeDiff,reduceIte,reduceCtorEq,Nat.reduceEqDiff,implies_true,forall_const,aa,ak,beq_self_eq_true,bne_self_eq_false,Int.reduceBEq,Int.reduceBNe,Int.reduceLT,Int.reduceLE,l1,l9,h1]
  refine ae hp ?_
  simp only[ad,↓Xn,↓Xo,↓Xg,↓Xd,↓Xe,↓Xf,Tryz.VΓ,Tryz.Γs,Xp,Xi,Nat.reduceAdd,Nat.reduceSub,Nat.reduceLT,Nat.reduceLeDiff,reduceIte,reduceCtorEq,Nat.reduceEqDiff,implies_true,forall_const,aa,ak,beq_self_eq_true,bne_self_eq_false,Int.reduceBEq,Int.reduceBNe,Int.reduceLT,Int.reduceLE,l1,l9,h1]
  exact hk' _ _ ⟨l7,l8,l9,_,rfl,(eR _ _).trans (by rw[sS];rfl),(Kp.refl _).app _⟩
 rintro m5 ⟨t5,b5⟩ ⟨l7,l8,l9,vb,l10,pv,uI⟩
 simp only at l7 l8 l9 l10 pv uI
 replace hB:=hB.kp uI
 clear uI l1
 obtain⟨P,hP⟩:∃ P,P=oT cp L v now true:=⟨_,rfl⟩
 refine aK 2400 (fun σ=>lk 7 σ.t=some (.p c 0)∧lk 8 σ.t=some (.int .u64 now)∧lk 9 σ.t=some (.int .u64 k)∧lk 10 σ.t=some (.p vb 0)∧∃ d y,lk 11 σ.t=some (.p d 0)∧Bx σ.b d cp y P true∧Kp b5 σ.b) ?_ (fun k' hk'=>?_)
 rotate_left
 ·have pc:=hB.c
  have ho:=hB.e.one
  have hid:PC Tryz.V 28 [.agg [.int .i64 v.id.kind,.str v.id.text,.str v.id.host,.int .i64 v.id.port]] (.bool true):=by rw[hv];exact mX nn k
  have o6:=Gy (b:=b5) (now:=now) (cp:=cp) hB.e hB.mn (by have:=hB.M.small;omega) hB.M.hT hB.M.zb hvt (by have:=hB.M.hc;omega) hid
  rw[← hP]at o6
  rw[sS]at pv o6
  simp only[ad,↓Xn,↓Xo,↓Xg,↓Xd,↓Xe,↓Xf,Tryz.VΓ,Tryz.Γs,Xp,Xi,Nat.reduceAdd,Nat.reduceSub,Nat.reduceLT,Nat.reduceLeDiff,reduceIte,reduceCtorEq,Nat.reduceEqDiff,implies_true,forall_const,aa,ak,beq_self_eq_true,bne_self_eq_false,Int.reduceBEq,Int.reduceBNe,Int.reduceLT,Int.reduceLE,l7,l8,l10,pc,pv,ho]
  refine aG o6 ?_
  rintro z b6 ⟨oG,y,rfl,hE6⟩
  have ho6:=hE6.one
  simp only[ad,↓Xn,↓Xo,↓Xg,↓Xd,↓Xe,↓Xf,Tryz.VΓ,Tryz.Γs,Xp,Xi,Nat.reduceAdd,Nat.reduceSub,Nat.reduceLT,Nat.reduceLeDiff,reduceIte,reduceCtorEq,Nat.reduceEqDiff,implies_true,forall_const,aa,ak,beq_self_eq_true,bne_self_eq_false,Int.reduceBEq,Int.reduceBNe,Int.reduceLT,Int.reduceLE,l7,l8,l10,ho6]
  exact hk' _ _ ⟨l7,l8,l9,l10,_,y,rfl,⟨(eR _ _).trans rfl,hE6.kp ((Kp.refl _).app _)⟩,oG.app _⟩
 rintro m6 ⟨t6,b6⟩ ⟨l7,l8,l9,l10,d,y,l11,hD,oG⟩
 simp only at l7 l8 l9 l10 l11 hD oG
 have pv6:=oG.at pv
 have pc6:=oG.at hB.c
 have hcpb:=hB.M.hc
 have hsm:=hB.M.small
 have Ic:Sd P:=by
  rw[hP,hv]
  by_cases h0:0<cp
  ·rw[oS y6.1 y6.2 h0];exact hB.M.sd.put y6.1 y6.2
  ·unfold oT;rw[if_neg (by simp;omega)];exact hB.M.sd
 have uQ:kq En.key P:=by
  rw[hP,hv]
  by_cases h0:0<cp
  ·rw[oS y6.1 y6.2 h0];exact zZ hB.M.zb _ _
  ·unfold oT;rw[if_neg (by simp;omega)];exact hB.M.zb
 have hPlen:(P.length:Int)≤cp:=by
  rw[hP,hv]
  by_cases h0:0<cp
  ·rw[oS y6.1 y6.2 h0];exact tH hB.M.zb h0 hB.M.len _
  ·unfold oT;rw[if_neg (by simp;omega)];exact hB.M.len
 have hPs:P.length≤1000000:=by omega
 have C7:=Ic.tr
 have hPone:∀ {b0:List ay},∀ e∈P,one e.v.tr=true∧within b0.length e.v.tr=true:=fun e he=>by rw[C7 e he];exact⟨rfl,rfl⟩
 have ho:=hD.e.one
 have pd:=hD.c
 refine aK 2300 (fun σ=>lk 7 σ.t=some (.p c 0)∧lk 8 σ.t=some (.int .u64 now)∧lk 9 σ.t=some (.int .u64 k)∧lk 10 σ.t=some (.p vb 0)∧lk 11 σ.t=some (.p d 0)∧Kp b6 σ.b) ?_ (fun k' hk'=>?_)
 rotate_left
 ·have hs:=tx (cp:=cp) hD.e hPs hPone
  rw[tm (by omega) hPlen uQ Ic]at hs
  have hg:decide (cp<(P.length:Int))=false:=by simpa using hPlen
  have hle:=hD.e.len
  have hq:=u64quo (a:=k) (c:=2) (by omega)
  have gD:IntKind.u64.wrap (k / 2)=k / 2:=s7 (by omega) (by omega)
  have dF:IntKind.u64.wrap (now+k / 2)=now+k / 2:=s7 (by omega) (by omega)
  have hex:=wG (cp:=cp) (now:=now+k / 2) hD.e (.inl rfl) hPs C7
  simp only[ad,↓Xn,↓Xo,↓Xg,↓Xd,↓Xe,↓Xf,Tryz.VΓ,Tryz.Γs,Xp,Xi,Nat.reduceAdd,Nat.reduceSub,Nat.reduceLT,Nat.reduceLeDiff,reduceIte,reduceCtorEq,Nat.reduceEqDiff,implies_true,forall_const,aa,ak,beq_self_eq_true,bne_self_eq_false,Int.reduceBEq,Int.reduceBNe,Int.reduceLT,Int.reduceLE,l8,l9,l11,pd,ho]
  refine aG hs ?_
  rintro z b7 ⟨rfl,rfl⟩
  simp only[ad,↓Xn,↓Xo,↓Xg,↓Xd,↓Xe,↓Xf,Tryz.VΓ,Tryz.Γs,Xp,Xi,Nat.reduceAdd,Nat.reduceSub,Nat.reduceLT,Nat.reduceLeDiff,reduceIte,reduceCtorEq,Nat.reduceEqDiff,implies_true,forall_const,aa,ak,beq_self_eq_true,bne_self_eq_false,Int.reduceBEq,Int.reduceBNe,Int.reduceLT,Int.reduceLE,l8,l9,l11,pd,ho,hle,hg,hq,gD,dF]
  refine⟨by decide,aG hex ?_⟩
  rintro z b8 ⟨hk8,z',rfl,hE8,-⟩
  have hx2:(eL P (now+k / 2)).length≤P.length:=zMT _ _
  have fK:=tx (cp:=cp) hE8 (by omega) (fun e he=>by rw[(Ic.exp _).tr e he];exact⟨rfl,rfl⟩)
  rw[tm (cp:=cp) (L:=eL P (now+k / 2)) (by omega) (by omega) (iC uQ _) (Ic.exp _)]at fK
  have ho8:=hE8.one
  simp only[ad,↓Xn,↓Xo,↓Xg,↓Xd,↓Xe,↓Xf,Tryz.VΓ,Tryz.Γs,Xp,Xi,Nat.reduceAdd,Nat.reduceSub,Nat.reduceLT,Nat.reduceLeDiff,reduceIte,reduceCtorEq,Nat.reduceEqDiff,implies_true,forall_const,aa,ak,beq_self_eq_true,bne_self_eq_false,Int.reduceBEq,Int.reduceBNe,Int.reduceLT,Int.reduceLE,l8,l9,l11,ho8]
  refine aG fK ?_
  rintro z b9 ⟨rfl,rfl⟩
  simp only[ad,↓Xn,↓Xo,↓Xg,↓Xd,↓Xe,↓Xf,Tryz.VΓ,Tryz.Γs,Xp,Xi,Nat.reduceAdd,Nat.reduceSub,Nat.reduceLT,Nat.reduceLeDiff,reduceIte,reduceCtorEq,Nat.reduceEqDiff,implies_true,forall_const,aa,ak,beq_self_eq_true,bne_self_eq_false,Int.reduceBEq,Int.reduceBNe,Int.reduceLT,Int.reduceLE,l8,l9,l11]
  exact hk' _ _ ⟨l7,l8,l9,l10,l11,hk8⟩
 clear l7 l8 l9 l10 l11
 rintro m7 ⟨t7,b7⟩ ⟨l7,l8,l9,l10,l11,hk7⟩
 simp only at l7 l8 l9 l10 l11 hk7
 replace pv6:=hk7.at pv6
 replace pc6:=hk7.at pc6
 replace hD:=hD.kp hk7
 replace pd:=hk7.at pd
 clear hk7 oG pv
 have D4:=hB.e.one
 by_cases h0:0<cp
 rotate_left
 ·have fL:(cp==0)=true:=by simp;omega
  have hP0:P.length=0:=by omega
  have hle:=hD.e.len
  rw[hP0]at hle
  simp only[ad,↓Xn,↓Xo,↓Xg,↓Xd,↓Xe,↓Xf,Tryz.VΓ,Tryz.Γs,Xp,Xi,Nat.reduceAdd,Nat.reduceSub,Nat.reduceLT,Nat.reduceLeDiff,reduceIte,reduceCtorEq,Nat.reduceEqDiff,implies_true,forall_const,aa,ak,beq_self_eq_true,bne_self_eq_false,Int.reduceBEq,Int.reduceBNe,Int.reduceLT,Int.reduceLE,l7,l8,l9,l10,l11,pc6,pd,fL,hle,ho]
  rfl
 have fL:(cp==0)=false:=by simp;omega
 have hPput:P=eX En.key En.aP cp L (lp v now):=by rw[hP,hv,oS y6.1 y6.2 h0]
 have o7:lp v now∈P:=by rw[hPput];exact GN
 have hvs:v.dU=k:=by rw[hv];rfl
 have mw:jS now v.dU=now+k:=by rw[hvs];exact addS_le (by omega) (by omega)
 have hg:∀ t:Int,getM P v.id.text t=if decide (now≤t)&&decide (t<now+k) then(v,true) else(zeroV,false):=fun t=>by
  have:=Ed (now:=t) uQ o7
  rw[← mw]
  exact this
 have g1:getM P v.id.text now=(v,true):=by rw[hg,if_pos (by simp;omega)]
 have g2:getM P v.id.text (now+k)=(zeroV,false):=by rw[hg,if_neg (by simp)]
 have hmem2:lp v now∈eL P (now+k - 1):=by
  unfold eL
  rw[List.mem_filter]
  refine⟨o7,?_⟩
  have:(lp v now).aP=now+k:=mw
  rw[this];simp;omega
 have g3:getM (eL P (now+k - 1)) v.id.text (now+k - 1)=(v,true):=by
  have:=Ed (now:=now+k - 1) (iC uQ _) hmem2
  have e1:(lp v now).aP=now+k:=mw
  have e2:(lp v now).stored=now:=rfl
  rw[e1,e2,if_pos (by simp;omega)]at this
  exact this
 obtain⟨yq,rfl,hyq⟩:∃ q,y=.o q P.length∧b7[q]? = some (.own (P.flatMap enc) 43 14 P.length true):=by
  rcases hD.e with⟨rfl,h⟩|h
  ·rw[h]at o7;cases o7
  ·exact h
 have oC:(eJ v)[2]? = some (.str v.id.text):=rfl
 have hw:IntKind.u64.wrap (now+k)=now+k:=s7 (by omega) (by omega)
 have dF:IntKind.u64.wrap (now+k - 1)=now+k - 1:=s7 (by omega) (by omega)
 refine aK 2200 (fun σ=>lk 7 σ.t=some (.p c 0)∧lk 8 σ.t=some (.int .u64 now)∧lk 9 σ.t=some (.int .u64 k)∧lk 10 σ.t=some (.p vb 0)∧lk 11 σ.t=some (.p d 0)∧σ.b=b7) ?_ (fun k' hk'=>?_)
 rotate_left
 ·simp only[ad,↓Xn,↓Xo,↓Xg,↓Xd,↓Xe,↓Xf,Tryz.VΓ,Tryz.Γs,Xp,Xi,Nat.reduceAdd,Nat.reduceSub,Nat.reduceLT,Nat.reduceLeDiff,reduceIte,reduceCtorEq,Nat.reduceEqDiff,implies_true,forall_const,aa,ak,beq_self_eq_true,bne_self_eq_false,Int.reduceBEq,Int.reduceBNe,Int.reduceLT,Int.reduceLE,l7,pc6,fL]
  exact hk' _ _ ⟨l7,l8,l9,l10,l11,rfl⟩
 clear l7 l8 l9 l10 l11
 rintro m8 ⟨t8,b8⟩ ⟨l7,l8,l9,l10,l11,rfl⟩
 simp only at l7 l8 l9 l10 l11
 have mB:=fun t=>tf (cp:=cp) (t:=v.id.text) (now:=t) hD.e uQ hPs C7
 refine aK 2100 (fun σ=>lk 8 σ.t=some (.int .u64 now)∧lk 9 σ.t=some (.int .u64 k)∧lk 10 σ.t=some (.p vb 0)∧lk 11 σ.t=some (.p d 0)∧lk 13 σ.t=some (.bool true)∧∃ i,lk 12 σ.t=some (.p i 0)∧σ.b[i]? = some (.cells (eJ v) 41 true)∧Kp b8 σ.b) ?_ (fun k' hk'=>?_)
 rotate_left
 ·have h:=mB now
  rw[g1]at h
  rw[sS]at pv6 h oC
  simp only[ad,↓Xn,↓Xo,↓Xg,↓Xd,↓Xe,↓Xf,Tryz.VΓ,Tryz.Γs,Xp,Xi,Nat.reduceAdd,Nat.reduceSub,Nat.reduceLT,Nat.reduceLeDiff,reduceIte,reduceCtorEq,Nat.reduceEqDiff,implies_true,forall_const,aa,ak,beq_self_eq_true,bne_self_eq_false,Int.reduceBEq,Int.reduceBNe,Int.reduceLT,Int.reduceLE,l8,l9,l10,l11,pv6,pd,oC]
  refine aG h ?_
  rintro z b9 ⟨rfl,rfl⟩
  simp only[ad,↓Xn,↓Xo,↓Xg,↓Xd,↓Xe,↓Xf,Tryz.VΓ,Tryz.Γs,Xp,Xi,Nat.reduceAdd,Nat.reduceSub,Nat.reduceLT,Nat.reduceLeDiff,reduceIte,reduceCtorEq,Nat.reduceEqDiff,implies_true,forall_const,aa,ak,beq_self_eq_true,bne_self_eq_false,Int.reduceBEq,Int.reduceBNe,Int.reduceLT,Int.reduceLE,l8,l9,l10,l11]
  exact hk' _ _ ⟨l8,l9,l10,l11,rfl,_,rfl,(eR _ _).trans (by rw[sS];rfl),(Kp.refl _).app _⟩
 clear l7 l8 l9 l10 l11
 rintro m9 ⟨t9,b9⟩ ⟨l8,l9,l10,l11,l13,i12,l12,p12,Fo⟩
 simp only at l8 l9 l10 l11 l12 l13 p12 Fo
 replace pv6:=Fo.at pv6
 replace hD:=hD.kp Fo
 replace pd:=Fo.at pd
 replace hyq:=Fo.at hyq
 clear Fo mB
 have hvk2:=oC
 refine aK 2000 (fun σ=>lk 8 σ.t=some (.int .u64 now)∧lk 9 σ.t=some (.int .u64 k)∧lk 10 σ.t=some (.p vb 0)∧lk 11 σ.t=some (.p d 0)∧lk 13 σ.t=some (.bool true)∧lk 12 σ.t=some (.p i12 0)∧lk 15 σ.t=some (.bool true)∧∃ i,lk 14 σ.t=some (.p i 0)∧σ.b[i]? = some (.cells (eJ v) 41 true)∧Kp b9 σ.b) ?_ (fun k' hk'=>?_)
 rotate_left
 ·have hex:=EF (cp:=cp) (now:=now+k - 1) hyq (.inl rfl) hPs C7
  have BW:gC (b9++[.own ((eL P (now+k - 1)).flatMap enc) 43 14 (eL P (now+k - 1)).length false]) (.o b9.length (eL P (now+k - 1)).length) (eL P (now+k - 1)) false:=.inr ⟨_,rfl,(eR _ _).trans rfl⟩
  have h:=tf (cp:=cp) (t:=v.id.text) (now:=now+k - 1) BW (iC uQ _) (Nat.le_trans (zMT _ _) hPs) (Ic.exp _).tr
  rw[g3]at h
  rw[sS]at pv6 h oC
  simp only[ad,↓Xn,↓Xo,↓Xg,↓Xd,↓Xe,↓Xf,Tryz.VΓ,Tryz.Γs,Xp,Xi,Nat.reduceAdd,Nat.reduceSub,Nat.reduceLT,Nat.reduceLeDiff,reduceIte,reduceCtorEq,Nat.reduceEqDiff,implies_true,forall_const,aa,ak,beq_self_eq_true,bne_self_eq_false,Int.reduceBEq,Int.reduceBNe,Int.reduceLT,Int.reduceLE,l8,l9,l10,l11,pv6,pd,oC,hw,dF]
  refine cn [(b9.length,0,0)] hex (outs1 rfl _) ?_
  simp only[ad,↓Xn,↓Xo,↓Xg,↓Xd,↓Xe,↓Xf,Tryz.VΓ,Tryz.Γs,Xp,Xi,Nat.reduceAdd,Nat.reduceSub,Nat.reduceLT,Nat.reduceLeDiff,reduceIte,reduceCtorEq,Nat.reduceEqDiff,implies_true,forall_const,aa,ak,beq_self_eq_true,bne_self_eq_false,Int.reduceBEq,Int.reduceBNe,Int.reduceLT,Int.reduceLE,l8,l9,l10,l11,pv6,af pv6,pd,oC,hw,dF]
  refine cn [] h (fun _ _ _=>rfl) ?_
  simp only[ad,↓Xn,↓Xo,↓Xg,↓Xd,↓Xe,↓Xf,Tryz.VΓ,Tryz.Γs,Xp,Xi,Nat.reduceAdd,Nat.reduceSub,Nat.reduceLT,Nat.reduceLeDiff,reduceIte,reduceCtorEq,Nat.reduceEqDiff,implies_true,forall_const,aa,ak,beq_self_eq_true,bne_self_eq_false,Int.reduceBEq,Int.reduceBNe,Int.reduceLT,Int.reduceLE,l8,l9,l10,l11,pv6,af pv6,pd,oC,hw,dF]
  have f1:¬ d=b9.length:=by have:=(zMJ.1 pd).1;omega
  have f2:¬ d=b9.length+1:=by have:=(zMJ.1 pd).1;omega
  have f3:¬ vb=b9.length:=by have:=(zMJ.1 pv6).1;omega
  have f4:¬ vb=b9.length+1:=by have:=(zMJ.1 pv6).1;omega
  have f5:¬ b9.length+1=b9.length:=by omega
  refine⟨by
   refine eT (fun n=>if n=b9.length then 1 else if n=b9.length+1 then 2 else 0) ?_
   simp only[zMU,zMV,fO,kK,reduceIte,f1,f2,f3,f4,f5]
   exact av (by kernel_rfl),?_⟩
  exact hk' _ _ ⟨l8,l9,l10,l11,l13,l12,rfl,_,rfl,(a6 rfl _ 1).trans (by rw[sS];rfl),(Kp.refl _).app _⟩
 clear l8 l9 l10 l11 l13 l12
 rintro m10 ⟨t10,b10⟩ ⟨l8,l9,l10,l11,l13,l12,l15,i14,l14,p14,yH⟩
 simp only at l8 l9 l10 l11 l13 l12 l15 l14 p14 yH
 replace pv6:=yH.at pv6
 replace hD:=hD.kp yH
 replace pd:=yH.at pd
 replace p12:=yH.at p12
 clear yH
 refine aK 1900 (fun σ=>lk 10 σ.t=some (.p vb 0)∧lk 13 σ.t=some (.bool true)∧lk 12 σ.t=some (.p i12 0)∧lk 15 σ.t=some (.bool true)∧lk 14 σ.t=some (.p i14 0)∧lk 17 σ.t=some (.bool false)∧Kp b10 σ.b) ?_ (fun k' hk'=>?_)
 rotate_left
 ·have h:=tf (cp:=cp) (t:=v.id.text) (now:=now+k) hD.e uQ hPs C7
  rw[g2,lu zeroV rfl]at h
  rw[sS]at pv6 oC
  simp only[ad,↓Xn,↓Xo,↓Xg,↓Xd,↓Xe,↓Xf,Tryz.VΓ,Tryz.Γs,Xp,Xi,Nat.reduceAdd,Nat.reduceSub,Nat.reduceLT,Nat.reduceLeDiff,reduceIte,reduceCtorEq,Nat.reduceEqDiff,implies_true,forall_const,aa,ak,beq_self_eq_true,bne_self_eq_false,Int.reduceBEq,Int.reduceBNe,Int.reduceLT,Int.reduceLE,l8,l9,l10,l11,pv6,pd,oC,hw]
  refine aG h ?_
  rintro z b11 ⟨rfl,rfl⟩
  simp only[ad,↓Xn,↓Xo,↓Xg,↓Xd,↓Xe,↓Xf,Tryz.VΓ,Tryz.Γs,Xp,Xi,Nat.reduceAdd,Nat.reduceSub,Nat.reduceLT,Nat.reduceLeDiff,reduceIte,reduceCtorEq,Nat.reduceEqDiff,implies_true,forall_const,aa,ak,beq_self_eq_true,bne_self_eq_false,Int.reduceBEq,Int.reduceBNe,Int.reduceLT,Int.reduceLE,l8,l9,l10,l11]
  exact hk' _ _ ⟨l10,l13,l12,l15,l14,rfl,(Kp.refl _).app _⟩
 clear l10 l13 l12 l15 l14
 rintro m11 ⟨t11,b11⟩ ⟨l10,l13,l12,l15,l14,l17,CV⟩
 simp only at l10 l13 l12 l15 l14 l17 CV
 replace pv6:=CV.at pv6
 replace p12:=CV.at p12
 replace p14:=CV.at p14
 have xa:=rY hvt
 have Hu:(eJ v).take 12=eJ v:=zMN (by rw[AX];omega)
 simp only[ad,↓Xn,↓Xo,↓Xg,↓Xd,↓Xe,↓Xf,Tryz.VΓ,Tryz.Γs,Xp,Xi,Nat.reduceAdd,Nat.reduceSub,Nat.reduceLT,Nat.reduceLeDiff,reduceIte,reduceCtorEq,Nat.reduceEqDiff,implies_true,forall_const,aa,ak,beq_self_eq_true,bne_self_eq_false,Int.reduceBEq,Int.reduceBNe,Int.reduceLT,Int.reduceLE,l10,l13,l12,l15,l14,l17,pv6,p12,p14,AX,Hu]
 refine ae xa ?_
 simp only[ad,↓Xn,↓Xo,↓Xg,↓Xd,↓Xe,↓Xf,Tryz.VΓ,Tryz.Γs,Xp,Xi,Nat.reduceAdd,Nat.reduceSub,Nat.reduceLT,Nat.reduceLeDiff,reduceIte,reduceCtorEq,Nat.reduceEqDiff,implies_true,forall_const,aa,ak,beq_self_eq_true,bne_self_eq_false,Int.reduceBEq,Int.reduceBNe,Int.reduceLT,Int.reduceLE,l10,l13,l12,l15,l14,l17,pv6,p12,p14,AX,Hu]
 refine ae xa ?_
 simp only[ad,↓Xn,↓Xo,↓Xg,↓Xd,↓Xe,↓Xf,Tryz.VΓ,Tryz.Γs,Xp,Xi,Nat.reduceAdd,Nat.reduceSub,Nat.reduceLT,Nat.reduceLeDiff,reduceIte,reduceCtorEq,Nat.reduceEqDiff,implies_true,forall_const,aa,ak,beq_self_eq_true,bne_self_eq_false,Int.reduceBEq,Int.reduceBNe,Int.reduceLT,Int.reduceLE,l10,l13,l12,l15,l14,l17,pv6,p12,p14,AX,Hu]
def idq (a c:jg):Bool:=a.kind==c.kind&&(a.text==c.text&&(a.host==c.host&&a.port==c.port))
theorem Hl (a c:jg):idq a c=decide (a=c):=uy a c
def xH (e y:En):Bool:=idq y.v.id e.v.id&&(y.aP==e.aP&&y.stored==e.stored)
theorem zt (e:En):xH e e=true:=by simp[xH,idq]
theorem thE_key {e y:En}(h:xH e y=true):y.key=e.key:=by
 simp[xH,idq]at h
 exact h.1.2.1
theorem lost31 {L:List En}{cp now:Int}{n:Nat}{s:Int}(ha:kq En.key L)(BV:0≤cp)(hl:(L.length:Int)≤cp)(h1:1≤s)(h2:s≤86400)(fA:∀ j (hj:j<L.length),L[j].v.id≠(vV n s).id)(o4:Sd L) :
 ∃ q,(∀ k (hk:k<L.length),(oT cp L (vV n s) now true).any (xH L[k])=!(k==q))∧(∀ hq:q<L.length,∀ j (hj:j<L.length),decide (L[j].aP<L[q].aP)=false)∧decide (q<L.length)=(((L.length:Int)==cp)&&decide (0<cp)):=by
 by_cases h0:0<cp
 ·rw[oS h1 h2 h0]
  have hn:dm En.key L (lp (vV n s) now).key=false:=by
   rw[← Bool.not_eq_true,fR]
   rintro⟨e,he,hk⟩
   obtain⟨j,hj,rfl⟩:=List.mem_iff_getElem.1 he
   obtain⟨n',s',t',-,-,e2⟩:=o4 _ he
   refine fA j hj ?_
   rw[e2]at hk ⊢
   have:n' % 20=n % 20:=zi hk
   show FW n'=FW n
   rw[← xE n',this,xE]
  rcases evicts (ex:=En.aP) ha h0 hl hn with⟨aA,aT⟩|⟨heq,q,hq,uG,mr,hout⟩
  ·refine⟨L.length,fun k hk=>?_,fun h=>absurd h (Nat.lt_irrefl _),?_⟩
   ·have e1:(k==L.length)=false:=by rw[beq_eq_false_iff_ne];omega
    rw[e1,List.any_eq_true.2 ⟨_,aT _ (zMM hk),zt _⟩];rfl
   ·have e1:((L.length:Int)==cp)=false:=by rw[beq_eq_false_iff_ne];omega
    rw[e1];simp
  ·refine⟨q,fun k hk=>?_,fun h j hj=>?_,?_⟩
   ·by_cases e:k=q
    ·subst e
     rw[beq_self_eq_true]
     show _=false
     rw[List.any_eq_false]
     intro y hy hth
     exact hout y hy (thE_key hth)
    ·have e1:(k==q)=false:=by rw[beq_eq_false_iff_ne];exact e
     rw[e1,List.any_eq_true.2 ⟨_,mr k hk e,zt _⟩];rfl
   ·have:=uG _ (zMM hj)
    simp;omega
   ·rw[heq];simp[hq,h0]
 ·have F6:L.length=0:=by omega
  refine⟨0,fun k hk=>by omega,fun h=>by omega,?_⟩
  rw[F6]
  have:decide (0<cp)=false:=by simp;omega
  rw[this];simp
theorem IP {E:Type}{f:E→Bool}{L:List E}{k:Nat}(hk:k<L.length):(L.take (k+1)).any f=((L.take k).any f||f L[k]):=by
 rw[zMX hk,List.any_append];simp
theorem GM {L:List En}{cp now:Int}{n:Nat}{s:Int}(ha:kq En.key L)(BV:0<cp)(h1:1≤s)(h2:s≤86400){j:Nat}(hj:j<L.length)(h:L[j].v.id=(vV n s).id):(oT cp L (vV n s) now true).length=L.length:=by
 rw[oS h1 h2 BV]
 have hh:dm En.key L (lp (vV n s) now).key=true:=fR.2 ⟨_,zMM hj,congrArg jg.text h⟩
 unfold eX
 rw[if_pos (.inl hh),p9 ha,hh];rfl
theorem vJ (S:List Int)(n sec:Int)(hn:0≤n∧n≤255)(hsec:0≤sec∧sec<18446744073709551616)(hS:S.length≤9223372036854775807)(hr:∀ r∈S,0≤r∧r≤255) :
 SC Tryz.V 4 [.o 0 S.length,.int .u8 n,.int .u64 sec] [.own (S.flatMap kv) 5 1 S.length false] (fun r _=>r=.bool true):=by
 refine cK 3000 Tryz.func4 rfl Tryz.ntmps4 Tryz.results4 Tryz.call4 (by simp) (aw 1 _ (by simp[within,within.aN])) ?_
 refine aK 2900 (fun σ=>lk 0 σ.t=some (.o 0 S.length)∧lk 1 σ.t=some (.int .u8 n)∧lk 2 σ.t=some (.int .u64 sec)∧σ.b=[.own (S.flatMap kv) 5 1 S.length false]) ?_ (fun k' hk'=>?_)
 rotate_left
 ·simp only[ad,↓Xn,↓Xo,↓Xg,↓Xd,↓Xe,↓Xf,Tryz.VΓ,Tryz.Γs,Xp,Xi,Nat.reduceAdd,Nat.reduceSub,Nat.reduceLT,Nat.reduceLeDiff,reduceIte,reduceCtorEq,Nat.reduceEqDiff,implies_true,forall_const,aa,ak,beq_self_eq_true,bne_self_eq_false,Int.reduceBEq,Int.reduceBNe,Int.reduceLT,Int.reduceLE]
  exact hk' _ _ ⟨rfl,rfl,rfl,rfl⟩
 rintro m1 ⟨t1,b1⟩ ⟨l0,l1,l2,rfl⟩
 simp only at l0 l1 l2
 refine aK 2800 (fun σ=>lk 0 σ.t=some (.o 0 S.length)∧lk 1 σ.t=some (.int .u8 n)∧lk 2 σ.t=some (.int .u64 sec)∧σ.b=[.own (S.flatMap kv) 5 1 S.length false]) ?_ (fun k' hk'=>?_)
 rotate_left
 ·simp only[ad,↓Xn,↓Xo,↓Xg,↓Xd,↓Xe,↓Xf,Tryz.VΓ,Tryz.Γs,Xp,Xi,Nat.reduceAdd,Nat.reduceSub,Nat.reduceLT,Nat.reduceLeDiff,reduceIte,reduceCtorEq,Nat.reduceEqDiff,implies_true,forall_const,aa,ak,beq_self_eq_true,bne_self_eq_false,Int.reduceBEq,Int.reduceBNe,Int.reduceLT,Int.reduceLE]
  refine aG xM ?_
  rintro y b2 ⟨rfl,rfl⟩
  simp only[ad,↓Xn,↓Xo,↓Xg,↓Xd,↓Xe,↓Xf,Tryz.VΓ,Tryz.Γs,Xp,Xi,Nat.reduceAdd,Nat.reduceSub,Nat.reduceLT,Nat.reduceLeDiff,reduceIte,reduceCtorEq,Nat.reduceEqDiff,implies_true,forall_const,aa,ak,beq_self_eq_true,bne_self_eq_false,Int.reduceBEq,Int.reduceBNe,Int.reduceLT,Int.reduceLE]
  exact hk' _ _ ⟨l0,l1,l2,rfl⟩
 clear l0 l1 l2
 rintro m2 ⟨t2,b2⟩ ⟨l0,l1,l2,rfl⟩
 simp only at l0 l1 l2
 refine aK 2700 (fun σ=>lk 1 σ.t=some (.int .u8 n)∧lk 2 σ.t=some (.int .u64 sec)∧∃ c cp x L m now,lk 7 σ.t=some (.p c 0)∧lk 8 σ.t=some (.int .u64 now)∧Mb σ.b c cp x L m now) ?_ (fun k' hk'=>?_)
 rotate_left
 ·simp only[ad,↓Xn,↓Xo,↓Xg,↓Xd,↓Xe,↓Xf,Tryz.VΓ,Tryz.Γs,Xp,Xi,Nat.reduceAdd,Nat.reduceSub,Nat.reduceLT,Nat.reduceLeDiff,reduceIte,reduceCtorEq,Nat.reduceEqDiff,implies_true,forall_const,aa,ak,beq_self_eq_true,bne_self_eq_false,Int.reduceBEq,Int.reduceBNe,Int.reduceLT,Int.reduceLE,l0]
  refine aG (Dz rfl hr hS) ?_
  rintro y b3 ⟨cp,x,L,m,now,rfl,hk,hE,hM,CT,hm⟩
  have ho:=hE.one
  simp only[ad,↓Xn,↓Xo,↓Xg,↓Xd,↓Xe,↓Xf,Tryz.VΓ,Tryz.Γs,Xp,Xi,Nat.reduceAdd,Nat.reduceSub,Nat.reduceLT,Nat.reduceLeDiff,reduceIte,reduceCtorEq,Nat.reduceEqDiff,implies_true,forall_const,aa,ak,beq_self_eq_true,bne_self_eq_false,Int.reduceBEq,Int.reduceBNe,Int.reduceLT,Int.reduceLE,l0,ho]
  refine hk' _ _ ?_
  exact⟨l1,l2,_,cp,x,L,m,now,rfl,rfl,(eR _ _).trans rfl,hE.kp ((Kp.refl _).app _),hM,CT,hm⟩
 clear l0 l1 l2
 rintro m3 ⟨t3,b3⟩ ⟨l1,l2,c,cp,x,L,m,now,l7,l8,hB⟩
 simp only at l1 l2 l7 l8 hB
 obtain⟨k,hk⟩:∃ k,k=1+sec % 1000:=⟨_,rfl⟩
 have y6:1≤k∧k≤86400:=by omega
 obtain⟨nn,rfl⟩:∃ nn:Nat,n=(nn:Int):=⟨n.toNat,by omega⟩
 obtain⟨v,hv⟩:∃ v,v=vV nn k:=⟨_,rfl⟩
 have hvt:v.tr=.aD:=by rw[hv];rfl
 have sS:=lu v hvt
 have AX:(eJ v).length=12:=rfl
 refine aK 2500 (fun σ=>lk 7 σ.t=some (.p c 0)∧lk 8 σ.t=some (.int .u64 now)∧∃ vb,lk 9 σ.t=some (.p vb 0)∧σ.b[vb]? = some (.cells (eJ v) 41 true)∧Kp b3 σ.b) ?_ (fun k' hk'=>?_)
 rotate_left
 ·have hp:=fv nn k (by omega)
  have h1:=i64k (n:=(nn:Int)) (by omega) (by omega)
  have h2:=Gi (c:=1000) hsec.1
  have h3:IntKind.u64.wrap (1+sec % 1000)=k:=by rw[s7 (by omega) (by omega),hk]
  rw[← hv,sS]at hp
  simp only[ad,↓Xn,↓Xo,↓Xg,↓Xd,↓Xe,↓Xf,Tryz.VΓ,Tryz.Γs,Xp,Xi,Nat.reduceAdd,Nat.reduceSub,Nat.reduceLT,Nat.reduceLeDiff,reduceIte,reduceCtorEq,Nat.reduceEqDiff,implies_true,forall_const,aa,ak,beq_self_eq_true,bne_self_eq_false,Int.reduceBEq,Int.reduceBNe,Int.reduceLT,Int.reduceLE,l1,l2,h1,h2,h3]
  refine⟨by decide,ae hp ?_⟩
  simp only[ad,↓Xn,↓Xo,↓Xg,↓Xd,↓Xe,↓Xf,Tryz.VΓ,Tryz.Γs,Xp,Xi,Nat.reduceAdd,Nat.reduceSub,Nat.reduceLT,Nat.reduceLeDiff,reduceIte,reduceCtorEq,Nat.reduceEqDiff,implies_true,forall_const,aa,ak,beq_self_eq_true,bne_self_eq_false,Int.reduceBEq,Int.reduceBNe,Int.reduceLT,Int.reduceLE,l1,l2,h1]
  exact hk' _ _ ⟨l7,l8,_,rfl,(eR _ _).trans (by rw[sS];rfl),(Kp.refl _).app _⟩
 clear l1 l2 hk
 rintro m5 ⟨t5,b5⟩ ⟨l7',l8',vb,l9,pv,uI⟩
 simp only at l7' l8' l9 pv uI
 clear l7 l8
 replace hB:=hB.kp uI
 clear uI
 obtain⟨P,hP⟩:∃ P,P=oT cp L v now true:=⟨_,rfl⟩
 refine aK 2400 (fun σ=>lk 7 σ.t=some (.p c 0)∧lk 9 σ.t=some (.p vb 0)∧∃ d y,lk 10 σ.t=some (.p d 0)∧Bx σ.b d cp y P true∧Kp b5 σ.b) ?_ (fun k' hk'=>?_)
 rotate_left
 ·have pc:=hB.c
  have ho:=hB.e.one
  have hid:PC Tryz.V 28 [.agg [.int .i64 v.id.kind,.str v.id.text,.str v.id.host,.int .i64 v.id.port]] (.bool true):=by rw[hv];exact mX nn k
  have o6:=Gy (b:=b5) (now:=now) (cp:=cp) hB.e hB.mn (by have:=hB.M.small;omega) hB.M.hT hB.M.zb hvt (by have:=hB.M.hc;omega) hid
  rw[← hP]at o6
  rw[sS]at pv o6
  simp only[ad,↓Xn,↓Xo,↓Xg,↓Xd,↓Xe,↓Xf,Tryz.VΓ,Tryz.Γs,Xp,Xi,Nat.reduceAdd,Nat.reduceSub,Nat.reduceLT,Nat.reduceLeDiff,reduceIte,reduceCtorEq,Nat.reduceEqDiff,implies_true,forall_const,aa,ak,beq_self_eq_true,bne_self_eq_false,Int.reduceBEq,Int.reduceBNe,Int.reduceLT,Int.reduceLE,l7',l8',l9,pc,pv,ho]
  refine aG o6 ?_
  rintro z b6 ⟨oG,y,rfl,hE6⟩
  have ho6:=hE6.one
  simp only[ad,↓Xn,↓Xo,↓Xg,↓Xd,↓Xe,↓Xf,Tryz.VΓ,Tryz.Γs,Xp,Xi,Nat.reduceAdd,Nat.reduceSub,Nat.reduceLT,Nat.reduceLeDiff,reduceIte,reduceCtorEq,Nat.reduceEqDiff,implies_true,forall_const,aa,ak,beq_self_eq_true,bne_self_eq_false,Int.reduceBEq,Int.reduceBNe,Int.reduceLT,Int.reduceLE,l7',l8',l9,ho6]
  exact hk' _ _ ⟨l7',l9,_,y,rfl,⟨(eR _ _).trans rfl,hE6.kp ((Kp.refl _).app _)⟩,oG.app _⟩
 clear l7' l8' l9
 rintro m6 ⟨t6,b6⟩ ⟨l7,l9,d,y,l10,hD,oG⟩
 simp only at l7 l9 l10 hD oG
 replace pv:=oG.at pv
 replace hB:=hB.kp oG
 clear oG
 have hcpb:=hB.M.hc
 have hsm:=hB.M.small
 have C7:∀ e∈P,one e.v.tr=true:=fun e he=>by
  rw[hP]at he
  unfold oT at he
  split at he
  ·rcases tG he with rfl|he
   ·show one v.tr=true
    rw[hvt];rfl
   ·rw[hB.M.hT e he];rfl
  ·rw[hB.M.hT e he];rfl
 have hPl:P.length≤1000000:=by
  have h1:=hB.M.len
  rw[hP];unfold oT
  split
  ·rename_i hc
   have:=tH (ex:=En.aP) hB.M.zb (cap:=cp) (by simp at hc;omega) h1 (lp v now)
   omega
  ·omega
 have hoD:=hD.e.one
 have hoB:=hB.e.one
 have pc:=hB.c
 have pd:=hD.c
 have hvi:∀ i<12,(eJ v)[i]? = some ((eJ v).getD i .aD):=fun i hi=>by simp[AX,hi]
 have g1:(eJ v).drop 1=[.int .i64 v.id.kind,.str v.id.text,.str v.id.host,.int .i64 v.id.port]++(eJ v).drop 5:=rfl
 refine aK 2300 (fun σ=>lk 7 σ.t=some (.p c 0)∧lk 9 σ.t=some (.p vb 0)∧lk 10 σ.t=some (.p d 0)∧lk 11 σ.t=some (.int .i64 0)∧σ.b=b6) ?_ (fun k' hk'=>?_)
 rotate_left
 ·simp only[ad,↓Xn,↓Xo,↓Xg,↓Xd,↓Xe,↓Xf,Tryz.VΓ,Tryz.Γs,Xp,Xi,Nat.reduceAdd,Nat.reduceSub,Nat.reduceLT,Nat.reduceLeDiff,reduceIte,reduceCtorEq,Nat.reduceEqDiff,implies_true,forall_const,aa,ak,beq_self_eq_true,bne_self_eq_false,Int.reduceBEq,Int.reduceBNe,Int.reduceLT,Int.reduceLE]
  exact hk' _ _ ⟨l7,l9,l10,rfl,rfl⟩
 clear l7 l9 l10
 rintro m7 ⟨t7,b7⟩ ⟨l7,l9,l10,l11,hb7⟩
 simp only at l7 l9 l10 l11 hb7
 rw[hb7]
 clear hb7
 refine aK 2200 (fun σ=>lk 7 σ.t=some (.p c 0)∧lk 10 σ.t=some (.p d 0)∧lk 11 σ.t=some (.int .i64 0)∧Kp b6 σ.b∧∀ j (hj:j<L.length),L[j].v.id≠v.id) ?_ (fun k' hk'=>?_)
 rotate_left
 ·have hlx:=hB.e.len
  simp only[ad,↓Xn,↓Xo,↓Xg,↓Xd,↓Xe,↓Xf,Tryz.VΓ,Tryz.Γs,Xp,Xi,Nat.reduceAdd,Nat.reduceSub,Nat.reduceLT,Nat.reduceLeDiff,reduceIte,reduceCtorEq,Nat.reduceEqDiff,implies_true,forall_const,aa,ak,beq_self_eq_true,bne_self_eq_false,Int.reduceBEq,Int.reduceBNe,Int.reduceLT,Int.reduceLE,l7,l9,pc,pv,hlx,hoB]
  refine aJ (fun σ=>∃ (k:Nat),lk 7 σ.t=some (.p c 0)∧lk 9 σ.t=some (.p vb 0)∧lk 10 σ.t=some (.p d 0)∧lk 11 σ.t=some (.int .i64 0)∧lk 39 σ.t=some x∧lk 40 σ.t=some (.int .i64 L.length)∧lk 41 σ.t=some (.int .i64 k)∧k≤L.length∧Kp b6 σ.b∧∀ j (hj:j<L.length),j<k→L[j].v.id≠v.id) (fun σ=>L.length - iH 41 σ) ⟨0,l7,l9,l10,l11,rfl,rfl,rfl,by omega,Kp.refl _,fun j hj h=>by omega⟩ ?_
  clear l7 l9 l10 l11
  rintro⟨t8,b8⟩ ⟨k,l7,l9,l10,l11,l39,l40,l41,hk,cg,fA⟩
  simp only at l7 l9 l10 l11 l39 l40 l41 cg
  rw[ax l41]
  by_cases c0:k<L.length
  ·have ci:decide ((k:Int)<(L.length:Int))=true:=by simpa using c0
   obtain⟨q,rfl,hq⟩:∃ q,x=.o q L.length∧b6[q]? = some (.own (L.flatMap enc) 43 14 L.length m):=by
    rcases hB.e with⟨rfl,h⟩|h
    ·rw[h]at c0;simp at c0
    ·exact h
   have da:=cg.at hq
   have pv8:=cg.at pv
   have pc8:=cg.at pc
   have pd8:=cg.at pd
   have dS:=gd L k c0
   have dX:(enc L[k]).length=14:=rfl
   have fG:(enc L[k]).take 14=enc L[k]:=zMN (by rw[dX];omega)
   have hY:(enc L[k]).all one=true:=by
    have:=hB.M.hT _ (zMM c0)
    simp[enc,this,one]
   have gid:((enc L[k]).drop 1).take 4=[.int .i64 L[k].v.id.kind,.str L[k].v.id.text,.str L[k].v.id.host,.int .i64 L[k].v.id.port]:=rfl
   have gv:((eJ v).drop 1).take 4=[.int .i64 v.id.kind,.str v.id.text,.str v.id.host,.int .i64 v.id.port]:=rfl
   cases hid:(L[k].v.id.kind==v.id.kind&&(L[k].v.id.text==v.id.text&&(L[k].v.id.host==v.id.host&&L[k].v.id.port==v.id.port)))
   ·have bk:L[k].v.id≠v.id:=by
     have:=Hl L[k].v.id v.id
     unfold idq at this
     rw[hid]at this
     simpa using this.symm
    simp only[ad,↓Xn,↓Xo,↓Xg,↓Xd,↓Xe,↓Xf,Tryz.VΓ,Tryz.Γs,Xp,Xi,Nat.reduceAdd,Nat.reduceSub,Nat.reduceLT,Nat.reduceLeDiff,reduceIte,reduceCtorEq,Nat.reduceEqDiff,implies_true,forall_const,aa,ak,beq_self_eq_true,bne_self_eq_false,Int.reduceBEq,Int.reduceBNe,Int.reduceLT,Int.reduceLE,l7,l9,l10,l11,l39,l40,l41,ci,da,af da,pv8,af pv8,dS,dX,fG,gid,gv,hid]
    refine⟨⟨by omega,by omega⟩,by rw[aQ];omega,hY,by rw[AX];decide,by omega,⟨k+1,rfl,by omega,cg.app _,fun j hj hjk=>?_⟩,?_⟩
    ·by_cases e:j=k
     ·subst e;exact bk
     ·exact fA j hj (by omega)
    ·rw[ax (show lk 41 _=some (.int .i64 ((k+1:Nat):Int)) from rfl)];omega
   ·have heq:L[k].v.id=v.id:=by
     have:=Hl L[k].v.id v.id
     unfold idq at this
     rw[hid]at this
     simpa using this.symm
    have hps:P.length=L.length:=by
     rw[hP,hv]
     exact GM hB.M.zb (by have:=hB.M.len;omega) y6.1 y6.2 c0 (by rw[heq,hv])
    have hly:=hD.e.len
    have hlx':=hB.e.len
    rw[hps]at hly
    simp only[ad,↓Xn,↓Xo,↓Xg,↓Xd,↓Xe,↓Xf,Tryz.VΓ,Tryz.Γs,Xp,Xi,Nat.reduceAdd,Nat.reduceSub,Nat.reduceLT,Nat.reduceLeDiff,reduceIte,reduceCtorEq,Nat.reduceEqDiff,implies_true,forall_const,aa,ak,beq_self_eq_true,bne_self_eq_false,Int.reduceBEq,Int.reduceBNe,Int.reduceLT,Int.reduceLE,l7,l9,l10,l11,l39,l40,l41,ci,da,af da,pv8,af pv8,dS,dX,fG,gid,gv,hid,af pc8,af pd8,hly,hlx']
    exact⟨⟨by omega,by omega⟩,by rw[aQ];omega,hY,by rw[AX];decide⟩
  ·have ci:decide ((k:Int)<(L.length:Int))=false:=by simpa using c0
   obtain rfl:k=L.length:=by omega
   simp only[ad,↓Xn,↓Xo,↓Xg,↓Xd,↓Xe,↓Xf,Tryz.VΓ,Tryz.Γs,Xp,Xi,Nat.reduceAdd,Nat.reduceSub,Nat.reduceLT,Nat.reduceLeDiff,reduceIte,reduceCtorEq,Nat.reduceEqDiff,implies_true,forall_const,aa,ak,beq_self_eq_true,bne_self_eq_false,Int.reduceBEq,Int.reduceBNe,Int.reduceLT,Int.reduceLE,l39,l40,l41,ci]
   exact hk' _ _ ⟨l7,l10,l11,cg,fun j hj=>fA j hj hj⟩
 clear l7 l9 l10 l11
 rintro m9 ⟨t9,b9⟩ ⟨l7,l10,l11,Fo,fA⟩
 simp only at l7 l10 l11 Fo
 replace hB:=hB.kp Fo
 replace hD:=hD.kp Fo
 replace pc:=Fo.at pc
 replace pd:=Fo.at pd
 clear Fo pv
 obtain⟨q0,hth,uG,nz⟩:=lost31 (n:=nn) (s:=k) (now:=now) hB.M.zb hcpb.1 hB.M.len y6.1 y6.2 (by rw[← hv];exact fA) hB.M.sd
 rw[← hv,← hP]at hth
 have hLl:=hB.e.len
 have hPl2:=hD.e.len
 refine aK 2100 (fun σ=>lk 7 σ.t=some (.p c 0)∧lk 11 σ.t=some (.int .i64 (if q0<L.length then 1 else 0))∧Kp b9 σ.b) ?_ (fun k' hk'=>?_)
 rotate_left
 ·simp only[ad,↓Xn,↓Xo,↓Xg,↓Xd,↓Xe,↓Xf,Tryz.VΓ,Tryz.Γs,Xp,Xi,Nat.reduceAdd,Nat.reduceSub,Nat.reduceLT,Nat.reduceLeDiff,reduceIte,reduceCtorEq,Nat.reduceEqDiff,implies_true,forall_const,aa,ak,beq_self_eq_true,bne_self_eq_false,Int.reduceBEq,Int.reduceBNe,Int.reduceLT,Int.reduceLE,l7,pc,hLl,hoB]
  refine aJ (fun σ=>∃ (k:Nat),lk 7 σ.t=some (.p c 0)∧lk 10 σ.t=some (.p d 0)∧lk 11 σ.t=some (.int .i64 (if q0<k then 1 else 0))∧lk 60 σ.t=some x∧lk 61 σ.t=some (.int .i64 L.length)∧lk 62 σ.t=some (.int .i64 k)∧k≤L.length∧Kp b9 σ.b) (fun σ=>L.length - iH 62 σ) ⟨0,l7,l10,l11,rfl,rfl,rfl,by omega,Kp.refl _⟩ ?_
  clear l7 l10 l11
  rintro⟨t8,b8⟩ ⟨k,l7,l10,l11,l60,l61,l62,hk,cg⟩
  simp only at l7 l10 l11 l60 l61 l62 cg
  rw[ax l62]
  by_cases c0:k<L.length
  ·have ci:decide ((k:Int)<(L.length:Int))=true:=by simpa using c0
   obtain⟨q,rfl,hq⟩:∃ q,x=.o q L.length∧b9[q]? = some (.own (L.flatMap enc) 43 14 L.length m):=by
    rcases hB.e with⟨rfl,h⟩|h
    ·rw[h]at c0;simp at c0
    ·exact h
   have da:=cg.at hq
   have pc8:=cg.at pc
   have pd8:=cg.at pd
   have dS:=gd L k c0
   have dX:(enc L[k]).length=14:=rfl
   have fG:(enc L[k]).take 14=enc L[k]:=zMN (by rw[dX];omega)
   have hY:(enc L[k]).all one=true:=by
    have:=hB.M.hT _ (zMM c0)
    simp[enc,this,one]
   have gk:((enc L[k]).drop 1).take 4=[.int .i64 L[k].v.id.kind,.str L[k].v.id.text,.str L[k].v.id.host,.int .i64 L[k].v.id.port]:=rfl
   have gk2:(enc L[k])[12]? = some (.int .u64 L[k].stored):=rfl
   have gk3:(enc L[k])[13]? = some (.int .u64 L[k].aP):=rfl
   obtain⟨e8,he8⟩:∃ e8,e8=b8++[ay.cells (enc L[k]) 43 true]:=⟨_,rfl⟩
   have hx8:e8[b8.length]? = some (.cells (enc L[k]) 43 true):=by rw[he8];exact(eR _ _).trans rfl
   have hk8:Kp b9 e8:=by rw[he8];exact cg.app _
   simp only[ad,↓Xn,↓Xo,↓Xg,↓Xd,↓Xe,↓Xf,Tryz.VΓ,Tryz.Γs,Xp,Xi,Nat.reduceAdd,Nat.reduceSub,Nat.reduceLT,Nat.reduceLeDiff,reduceIte,reduceCtorEq,Nat.reduceEqDiff,implies_true,forall_const,aa,ak,beq_self_eq_true,bne_self_eq_false,Int.reduceBEq,Int.reduceBNe,Int.reduceLT,Int.reduceLE,l7,l10,l11,l60,l61,l62,ci,da,af da,dS,dX,fG,af pd8,hPl2,hoD]
   refine⟨⟨by omega,by omega⟩,by rw[aQ];omega,hY,?_⟩
   rw[← he8]
   refine aJ (fun σ=>∃ (j:Nat),lk 7 σ.t=some (.p c 0)∧lk 10 σ.t=some (.p d 0)∧lk 11 σ.t=some (.int .i64 (if q0<k then 1 else 0))∧lk 60 σ.t=some (.o q L.length)∧lk 61 σ.t=some (.int .i64 L.length)∧lk 62 σ.t=some (.int .i64 k)∧lk 15 σ.t=some (.p b8.length 0)∧lk 16 σ.t=some (.bool ((P.take j).any (xH L[k])))∧lk 67 σ.t=some y∧lk 68 σ.t=some (.int .i64 P.length)∧lk 69 σ.t=some (.int .i64 j)∧j≤P.length∧Kp e8 σ.b) (fun σ=>P.length - iH 69 σ) ⟨0,l7,l10,l11,l60,l61,l62,rfl,rfl,rfl,rfl,rfl,by omega,Kp.refl _⟩ ?_
   clear l7 l10 l11 l60 l61 l62
   rintro⟨t10,b10⟩ ⟨j,l7,l10,l11,l60,l61,l62,l15,l16,l67,l68,l69,hj,gG⟩
   simp only at l7 l10 l11 l60 l61 l62 l15 l16 l67 l68 l69 gG
   rw[ax l69]
   have sB:=gG.at hx8
   by_cases c1:j<P.length
   ·have cj:decide ((j:Int)<(P.length:Int))=true:=by simpa using c1
    obtain⟨q2,rfl,qi⟩:∃ q2,y=.o q2 P.length∧b9[q2]? = some (.own (P.flatMap enc) 43 14 P.length true):=by
     rcases hD.e with⟨rfl,h⟩|h
     ·rw[h]at c1;simp at c1
     ·exact h
    have kJ:=gG.at (hk8.at qi)
    have C5:=gd P j c1
    have o9:(enc P[j]).length=14:=rfl
    have CM:(enc P[j]).take 14=enc P[j]:=zMN (by rw[o9];omega)
    have C8:(enc P[j]).all one=true:=by
     have:=C7 _ (zMM c1)
     simp[enc,one]at this ⊢;exact this
    have gj:((enc P[j]).drop 1).take 4=[.int .i64 P[j].v.id.kind,.str P[j].v.id.text,.str P[j].v.id.host,.int .i64 P[j].v.id.port]:=rfl
    have gj2:(enc P[j])[12]? = some (.int .u64 P[j].stored):=rfl
    have gj3:(enc P[j])[13]? = some (.int .u64 P[j].aP):=rfl
    have Ba:∀ (B:Bool),(P.take (j+1)).any (xH L[k])=B→SV.bool B=.bool ((P.take (j+1)).any (xH L[k])):=fun B h=>by rw[h]
    have C4:=IP (f:=xH L[k]) c1
    cases ht:(P.take j).any (xH L[k])
    ·rw[ht]at l16 C4
     cases d1:(P[j].v.id.kind==L[k].v.id.kind&&(P[j].v.id.text==L[k].v.id.text&&(P[j].v.id.host==L[k].v.id.host&&P[j].v.id.port==L[k].v.id.port)))
     ·have hB2:(P.take (j+1)).any (xH L[k])=false:=by rw[C4];unfold xH idq;rw[d1];rfl
      simp only[ad,↓Xn,↓Xo,↓Xg,↓Xd,↓Xe,↓Xf,Tryz.VΓ,Tryz.Γs,Xp,Xi,Nat.reduceAdd,Nat.reduceSub,Nat.reduceLT,Nat.reduceLeDiff,reduceIte,reduceCtorEq,Nat.reduceEqDiff,implies_true,forall_const,aa,ak,beq_self_eq_true,bne_self_eq_false,Int.reduceBEq,Int.reduceBNe,Int.reduceLT,Int.reduceLE,l7,l10,l11,l60,l61,l62,l15,l16,l67,l68,l69,cj,kJ,af kJ,C5,o9,CM,gj,gj2,gj3,gk,gk2,gk3,sB,af sB,d1]
      repeat (refine⟨by first|omega | (rw[aQ];omega) | exact C8 | (rw[o9];decide) | (rw[dX];decide),?_⟩)
      refine⟨⟨j+1,Ba _ hB2,rfl,by omega,gG.app _⟩,?_⟩
      rw[ax (show lk 69 _=some (.int .i64 ((j+1:Nat):Int)) from rfl)];omega
     ·cases d2:(P[j].aP==L[k].aP)
      ·have hB2:(P.take (j+1)).any (xH L[k])=false:=by rw[C4];unfold xH idq;rw[d1,d2];rfl
       simp only[ad,↓Xn,↓Xo,↓Xg,↓Xd,↓Xe,↓Xf,Tryz.VΓ,Tryz.Γs,Xp,Xi,Nat.reduceAdd,Nat.reduceSub,Nat.reduceLT,Nat.reduceLeDiff,reduceIte,reduceCtorEq,Nat.reduceEqDiff,implies_true,forall_const,aa,ak,beq_self_eq_true,bne_self_eq_false,Int.reduceBEq,Int.reduceBNe,Int.reduceLT,Int.reduceLE,l7,l10,l11,l60,l61,l62,l15,l16,l67,l68,l69,cj,kJ,af kJ,C5,o9,CM,gj,gj2,gj3,gk,gk2,gk3,sB,af sB,d1,d2]
       repeat (refine⟨by first|omega | (rw[aQ];omega) | exact C8 | (rw[o9];decide) | (rw[dX];decide),?_⟩)
       refine⟨⟨j+1,Ba _ hB2,rfl,by omega,gG.app _⟩,?_⟩
       rw[ax (show lk 69 _=some (.int .i64 ((j+1:Nat):Int)) from rfl)];omega
      ·cases d3:(P[j].stored==L[k].stored)
       ·have hB2:(P.take (j+1)).any (xH L[k])=false:=by rw[C4];unfold xH idq;rw[d1,d2,d3];rfl
        simp only[ad,↓Xn,↓Xo,↓Xg,↓Xd,↓Xe,↓Xf,Tryz.VΓ,Tryz.Γs,Xp,Xi,Nat.reduceAdd,Nat.reduceSub,Nat.reduceLT,Nat.reduceLeDiff,reduceIte,reduceCtorEq,Nat.reduceEqDiff,implies_true,forall_const,aa,ak,beq_self_eq_true,bne_self_eq_false,Int.reduceBEq,Int.reduceBNe,Int.reduceLT,Int.reduceLE,l7,l10,l11,l60,l61,l62,l15,l16,l67,l68,l69,cj,kJ,af kJ,C5,o9,CM,gj,gj2,gj3,gk,gk2,gk3,sB,af sB,d1,d2,d3]
        repeat (refine⟨by first|omega | (rw[aQ];omega) | exact C8 | (rw[o9];decide) | (rw[dX];decide),?_⟩)
        refine⟨⟨j+1,Ba _ hB2,rfl,by omega,gG.app _⟩,?_⟩
        rw[ax (show lk 69 _=some (.int .i64 ((j+1:Nat):Int)) from rfl)];omega
       ·have hB2:(P.take (j+1)).any (xH L[k])=true:=by rw[C4];unfold xH idq;rw[d1,d2,d3];rfl
        simp only[ad,↓Xn,↓Xo,↓Xg,↓Xd,↓Xe,↓Xf,Tryz.VΓ,Tryz.Γs,Xp,Xi,Nat.reduceAdd,Nat.reduceSub,Nat.reduceLT,Nat.reduceLeDiff,reduceIte,reduceCtorEq,Nat.reduceEqDiff,implies_true,forall_const,aa,ak,beq_self_eq_true,bne_self_eq_false,Int.reduceBEq,Int.reduceBNe,Int.reduceLT,Int.reduceLE,l7,l10,l11,l60,l61,l62,l15,l16,l67,l68,l69,cj,kJ,af kJ,C5,o9,CM,gj,gj2,gj3,gk,gk2,gk3,sB,af sB,d1,d2,d3]
        repeat (refine⟨by first|omega | (rw[aQ];omega) | exact C8 | (rw[o9];decide) | (rw[dX];decide),?_⟩)
        refine⟨⟨j+1,Ba _ hB2,rfl,by omega,gG.app _⟩,?_⟩
        rw[ax (show lk 69 _=some (.int .i64 ((j+1:Nat):Int)) from rfl)];omega
    ·rw[ht]at l16 C4
     have hB2:(P.take (j+1)).any (xH L[k])=true:=C4
     simp only[ad,↓Xn,↓Xo,↓Xg,↓Xd,↓Xe,↓Xf,Tryz.VΓ,Tryz.Γs,Xp,Xi,Nat.reduceAdd,Nat.reduceSub,Nat.reduceLT,Nat.reduceLeDiff,reduceIte,reduceCtorEq,Nat.reduceEqDiff,implies_true,forall_const,aa,ak,beq_self_eq_true,bne_self_eq_false,Int.reduceBEq,Int.reduceBNe,Int.reduceLT,Int.reduceLE,l7,l10,l11,l60,l61,l62,l15,l16,l67,l68,l69,cj,kJ,af kJ,C5,o9,CM,gj,gj2,gj3,gk,gk2,gk3,sB,af sB]
     repeat (refine⟨by first|omega | (rw[aQ];omega) | exact C8 | (rw[o9];decide) | (rw[dX];decide),?_⟩)
     refine⟨⟨j+1,Ba _ hB2,rfl,by omega,gG.app _⟩,?_⟩
     rw[ax (show lk 69 _=some (.int .i64 ((j+1:Nat):Int)) from rfl)];omega
   ·have cj:decide ((j:Int)<(P.length:Int))=false:=by simpa using c1
    obtain rfl:j=P.length:=by omega
    rw[List.take_length,hth k c0]at l16
    by_cases e:k=q0
    ·subst e
     rw[beq_self_eq_true]at l16
     have aA:(if k<k then(1:Int) else 0)=0:=if_neg (Nat.lt_irrefl _)
     rw[aA]at l11
     have pc10:=gG.at (hk8.at pc)
     simp only[ad,↓Xn,↓Xo,↓Xg,↓Xd,↓Xe,↓Xf,Tryz.VΓ,Tryz.Γs,Xp,Xi,Nat.reduceAdd,Nat.reduceSub,Nat.reduceLT,Nat.reduceLeDiff,reduceIte,reduceCtorEq,Nat.reduceEqDiff,implies_true,forall_const,aa,ak,beq_self_eq_true,bne_self_eq_false,Int.reduceBEq,Int.reduceBNe,Int.reduceLT,Int.reduceLE,l7,l10,l11,l60,l61,l62,l15,l16,l67,l68,l69,cj,pc10,hLl,hoB,Bool.not_true]
     have hx11:=sB
     have yH:Kp b9 b10:=hk8.trans gG
     refine⟨⟨by omega,by omega⟩,?_⟩
     refine aJ (fun σ=>∃ (j:Nat),lk 7 σ.t=some (.p c 0)∧lk 10 σ.t=some (.p d 0)∧lk 11 σ.t=some (.int .i64 (0+1))∧lk 60 σ.t=some (.o q L.length)∧lk 61 σ.t=some (.int .i64 L.length)∧lk 62 σ.t=some (.int .i64 k)∧lk 15 σ.t=some (.p b8.length 0)∧lk 102 σ.t=some (.o q L.length)∧lk 103 σ.t=some (.int .i64 L.length)∧lk 104 σ.t=some (.int .i64 j)∧j≤L.length∧Kp b10 σ.b) (fun σ=>L.length - iH 104 σ) ⟨0,l7,l10,rfl,l60,l61,l62,l15,rfl,rfl,rfl,by omega,Kp.refl _⟩ ?_
     clear l7 l10 l11 l60 l61 l62 l15 l16
     rintro⟨t11,b11⟩ ⟨j,l7,l10,l11,l60,l61,l62,l15,l102,l103,l104,hj,HS⟩
     simp only at l7 l10 l11 l60 l61 l62 l15 l102 l103 l104 HS
     rw[ax l104]
     have hx12:=HS.at sB
     have hq11:=HS.at (yH.at hq)
     by_cases c2:j<L.length
     ·have cj2:decide ((j:Int)<(L.length:Int))=true:=by simpa using c2
      have C5:=gd L j c2
      have o9:(enc L[j]).length=14:=rfl
      have CM:(enc L[j]).take 14=enc L[j]:=zMN (by rw[o9];omega)
      have C8:(enc L[j]).all one=true:=by
       have:=hB.M.hT _ (zMM c2)
       simp[enc,this,one]
      have gj3:(enc L[j])[13]? = some (.int .u64 L[j].aP):=rfl
      have hlt2:=uG c0 j c2
      simp only[ad,↓Xn,↓Xo,↓Xg,↓Xd,↓Xe,↓Xf,Tryz.VΓ,Tryz.Γs,Xp,Xi,Nat.reduceAdd,Nat.reduceSub,Nat.reduceLT,Nat.reduceLeDiff,reduceIte,reduceCtorEq,Nat.reduceEqDiff,implies_true,forall_const,aa,ak,beq_self_eq_true,bne_self_eq_false,Int.reduceBEq,Int.reduceBNe,Int.reduceLT,Int.reduceLE,l7,l10,l11,l60,l61,l62,l15,l102,l103,l104,cj2,hq11,af hq11,C5,o9,CM,gj3,gk3,hx12,af hx12,hlt2]
      repeat (refine⟨by first|omega | (rw[aQ];omega) | exact C8 | (rw[o9];decide) | (rw[dX];decide),?_⟩)
      refine⟨⟨j+1,rfl,by omega,HS.app _⟩,?_⟩
      rw[ax (show lk 104 _=some (.int .i64 ((j+1:Nat):Int)) from rfl)];omega
     ·have cj2:decide ((j:Int)<(L.length:Int))=false:=by simpa using c2
      obtain rfl:j=L.length:=by omega
      have hlt3:(if k<k+1 then(1:Int) else 0)=0+1:=if_pos (Nat.lt_succ_self _)
      simp only[ad,↓Xn,↓Xo,↓Xg,↓Xd,↓Xe,↓Xf,Tryz.VΓ,Tryz.Γs,Xp,Xi,Nat.reduceAdd,Nat.reduceSub,Nat.reduceLT,Nat.reduceLeDiff,reduceIte,reduceCtorEq,Nat.reduceEqDiff,implies_true,forall_const,aa,ak,beq_self_eq_true,bne_self_eq_false,Int.reduceBEq,Int.reduceBNe,Int.reduceLT,Int.reduceLE,l7,l10,l11,l60,l61,l62,l15,l102,l103,l104,cj2]
      refine⟨by omega,⟨k+1,by rw[hlt3],rfl,by omega,yH.trans HS⟩,?_⟩
      rw[ax (show lk 62 _=some (.int .i64 ((k+1:Nat):Int)) from rfl)];omega
    ·have e1:(k==q0)=false:=by rw[beq_eq_false_iff_ne];exact e
     rw[e1]at l16
     have aA:(if q0<k+1 then(1:Int) else 0)=if q0<k then 1 else 0:=by
      by_cases h:q0<k
      ·rw[if_pos h,if_pos (by omega)]
      ·rw[if_neg h,if_neg (by omega)]
     simp only[ad,↓Xn,↓Xo,↓Xg,↓Xd,↓Xe,↓Xf,Tryz.VΓ,Tryz.Γs,Xp,Xi,Nat.reduceAdd,Nat.reduceSub,Nat.reduceLT,Nat.reduceLeDiff,reduceIte,reduceCtorEq,Nat.reduceEqDiff,implies_true,forall_const,aa,ak,beq_self_eq_true,bne_self_eq_false,Int.reduceBEq,Int.reduceBNe,Int.reduceLT,Int.reduceLE,l7,l10,l11,l60,l61,l62,l15,l16,l67,l68,l69,cj,Bool.not_false]
     refine⟨by omega,⟨k+1,by rw[aA],rfl,by omega,hk8.trans gG⟩,?_⟩
     rw[ax (show lk 62 _=some (.int .i64 ((k+1:Nat):Int)) from rfl)];omega
  ·have ci:decide ((k:Int)<(L.length:Int))=false:=by simpa using c0
   obtain rfl:k=L.length:=by omega
   simp only[ad,↓Xn,↓Xo,↓Xg,↓Xd,↓Xe,↓Xf,Tryz.VΓ,Tryz.Γs,Xp,Xi,Nat.reduceAdd,Nat.reduceSub,Nat.reduceLT,Nat.reduceLeDiff,reduceIte,reduceCtorEq,Nat.reduceEqDiff,implies_true,forall_const,aa,ak,beq_self_eq_true,bne_self_eq_false,Int.reduceBEq,Int.reduceBNe,Int.reduceLT,Int.reduceLE,l60,l61,l62,ci]
   exact hk' _ _ ⟨l7,l11,cg⟩
 clear l7 l10 l11
 rintro m11 ⟨t11,b11⟩ ⟨l7,l11,CV⟩
 simp only at l7 l11 CV
 replace pc:=CV.at pc
 generalize hz:(if q0<L.length then(1:Int) else 0)=z at l11
 have lL:decide (z≤1)=true:=by rw[← hz];split <;> simp
 have FZ:(z==1)=decide (q0<L.length):=by
  rw[← hz]
  by_cases h:q0<L.length
  ·rw[if_pos h,decide_eq_true h];rfl
  ·rw[if_neg h,decide_eq_false h];rfl
 rw[nz]at FZ
 cases h1:((L.length:Int)==cp)
 ·rw[h1]at FZ
  simp only[ad,↓Xn,↓Xo,↓Xg,↓Xd,↓Xe,↓Xf,Tryz.VΓ,Tryz.Γs,Xp,Xi,Nat.reduceAdd,Nat.reduceSub,Nat.reduceLT,Nat.reduceLeDiff,reduceIte,reduceCtorEq,Nat.reduceEqDiff,implies_true,forall_const,aa,ak,beq_self_eq_true,bne_self_eq_false,Int.reduceBEq,Int.reduceBNe,Int.reduceLT,Int.reduceLE,l7,l11,pc,hLl,hoB,lL,FZ,h1,Bool.false_and]
 ·rw[h1]at FZ
  cases h2:decide (0<cp)
  ·rw[h2]at FZ
   simp only[ad,↓Xn,↓Xo,↓Xg,↓Xd,↓Xe,↓Xf,Tryz.VΓ,Tryz.Γs,Xp,Xi,Nat.reduceAdd,Nat.reduceSub,Nat.reduceLT,Nat.reduceLeDiff,reduceIte,reduceCtorEq,Nat.reduceEqDiff,implies_true,forall_const,aa,ak,beq_self_eq_true,bne_self_eq_false,Int.reduceBEq,Int.reduceBNe,Int.reduceLT,Int.reduceLE,l7,l11,pc,hLl,hoB,lL,FZ,h1,h2,Bool.true_and]
  ·rw[h2]at FZ
   simp only[ad,↓Xn,↓Xo,↓Xg,↓Xd,↓Xe,↓Xf,Tryz.VΓ,Tryz.Γs,Xp,Xi,Nat.reduceAdd,Nat.reduceSub,Nat.reduceLT,Nat.reduceLeDiff,reduceIte,reduceCtorEq,Nat.reduceEqDiff,implies_true,forall_const,aa,ak,beq_self_eq_true,bne_self_eq_false,Int.reduceBEq,Int.reduceBNe,Int.reduceLT,Int.reduceLE,l7,l11,pc,hLl,hoB,lL,FZ,h1,h2,Bool.true_and]
def oE (T:List Int)(i:Nat):En:=lp (vV i (1+T.getD i 0)) 3
theorem GY {T:List Int}{i j:Nat}(hi:i<20)(hj:j<20)(h:(oE T i).key=(oE T j).key):i=j:=by
 have:=zi (n:=i) (m:=j) h
 omega
structure Od (T:List Int) (f:Nat→Nat) (i:Nat) (L:List En):Prop where
 zb:kq En.key L
 len:L.length≤i
 mem:∀ x,x∈L↔∃ j,j<i∧x=oE T (f j)
theorem Od.nil (T:List Int)(f:Nat→Nat):Od T f 0 []:=⟨List.Pairwise.nil,by simp,fun x=>by simp⟩
theorem Od.put {T:List Int}{f:Nat→Nat}{i:Nat}{L:List En}(h:Od T f i L)(hi:i<12)(hf:∀ j,f j<12):Od T f (i+1) (jn En.key L (oE T (f i))):=by
 refine⟨uu h.zb _,?_,fun x=>?_⟩
 ·rw[p9 h.zb]
  have:=h.len
  split <;> omega
 ·rw[jF]
  constructor
  ·rintro(rfl|⟨hx,-⟩)
   ·exact⟨i,by omega,rfl⟩
   ·obtain⟨j,hj,rfl⟩:=(h.mem x).1 hx
    exact⟨j,by omega,rfl⟩
  ·rintro⟨j,hj,rfl⟩
   by_cases e:f j=f i
   ·rw[e];exact .inl rfl
   ·by_cases e2:j=i
    ·exact absurd (by rw[e2]) e
    ·refine .inr ⟨(h.mem _).2 ⟨j,by omega,rfl⟩,fun hk=>e (GY (by have:=hf j;omega) (by have:=hf i;omega) hk)⟩
theorem Od.len_eq {T:List Int}{f:Nat→Nat}{i:Nat}{L:List En}(h:Od T f i L)(hi:i≤12)(hf:∀ j,f j<12)(hinj:∀ a c,a<i→c<i→f a=f c→a=c):L.length=i:=by
 have h1:((List.range i).map fun j=>oE T (f j)).Nodup:=by
  rw[List.nodup_iff_pairwise_ne,List.pairwise_map]
  refine List.Pairwise.imp_of_mem ?_ (List.nodup_iff_pairwise_ne.1 List.nodup_range)
  intro a c ha hc bk e
  exact bk (hinj a c (List.mem_range.1 ha) (List.mem_range.1 hc) (GY (by have:=hf a;omega) (by have:=hf c;omega) (by rw[e])))
 have h2:i≤L.length:=by
  have:=h1.length_le_of_subset (l₂:=L) fun x hx=>by
   obtain⟨j,hj,rfl⟩:=List.mem_map.1 hx
   exact(h.mem _).2 ⟨j,List.mem_range.1 hj,rfl⟩
  simpa using this
 have:=h.len
 omega
theorem Od.eq {T:List Int}{f g:Nat→Nat}{i:Nat}{L M:List En}(h:Od T f i L)(k:Od T g i M)(hfg:∀ x:Nat,(∃ j,j<i∧x=f j)↔∃ j,j<i∧x=g j):L=M:=by
 refine Eu h.zb k.zb fun x=>?_
 rw[h.mem,k.mem]
 constructor
 ·rintro⟨j,hj,rfl⟩
  obtain⟨j',hj',e⟩:=(hfg (f j)).1 ⟨j,hj,rfl⟩
  exact⟨j',hj',by rw[e]⟩
 ·rintro⟨j,hj,rfl⟩
  obtain⟨j',hj',e⟩:=(hfg (g j)).2 ⟨j,hj,rfl⟩
  exact⟨j',hj',by rw[e]⟩
theorem zo {n t:Nat}(x:Nat)(hn:0<n):(∃ j,j<n∧x=j)↔∃ j,j<n∧x=(j+t) % n:=by
 constructor
 ·rintro⟨j,hj,rfl⟩
  refine⟨(x+(n - t % n)) % n,Nat.mod_lt _ hn,?_⟩
  have h1:=Nat.mod_lt t hn
  rw[Nat.mod_add_mod]
  have:x+(n - t % n)+t=x+n * (1+t / n):=by
   have:=Nat.mod_add_div t n
   rw[Nat.mul_add,Nat.mul_one];omega
  rw[this,Nat.add_mul_mod_self_left,Nat.mod_eq_of_lt hj]
 ·rintro⟨j,hj,rfl⟩
  exact⟨_,Nat.mod_lt _ hn,rfl⟩
theorem Od.sd {T:List Int}{f:Nat→Nat}{i:Nat}{L:List En}(h:Od T f i L)(hT:∀ r∈T,0≤r∧r≤255):Sd L:=fun e he=>by
 obtain⟨j,hj,rfl⟩:=(h.mem e).1 he
 have hg:0≤T.getD (f j) 0∧T.getD (f j) 0≤255:=by
  rw[zMW]
  cases hx:T[f j]? with
  | none=>simp
  | some r=>exact hT r (List.mem_of_getElem? hx)
 exact⟨f j,_,3,by omega,by omega,rfl⟩
structure Oo (b:List ay) (q:Nat) (T:List Int) (c:Nat) (x:SV) (L:List En) (d:Nat) (y:SV) (M:List En):Prop where
 r:b[q]? = some (.own (T.flatMap kv) 5 1 T.length false)
 hc:b[c]? = some (.cells [.int .i64 20,x] 24 true)
 hd:b[d]? = some (.cells [.int .i64 20,y] 24 true)
 e:gC b x L true
 f:gC b y M true
 ne:c≠d
theorem Oo.putC {b b':List ay}{q:Nat}{T:List Int}{c d:Nat}{x y x':SV}{L M L':List En}(h:Oo b q T c x L d y M)(k:Kp b b')(e:gC b' x' L' true):Oo (b'.set c (.cells [.int .i64 20,x'] 24 true)) q T c x' L' d y M:=by
 have hc:=k.at h.hc
 have hr:=k.at h.r
 exact⟨aF hr (by rintro rfl;rw[hc]at hr;cases hr) _,zMQ (zMJ.1 hc).1,aF (k.at h.hd) h.ne _,e.tv (by rintro p hp rfl;rw[hc]at hp;cases hp) _,(h.f.kp k).tv (by rintro p hp rfl;rw[hc]at hp;cases hp) _,h.ne⟩
theorem Oo.putD {b b':List ay}{q:Nat}{T:List Int}{c d:Nat}{x y y':SV}{L M M':List En}(h:Oo b q T c x L d y M)(k:Kp b b')(e:gC b' y' M' true):Oo (b'.set d (.cells [.int .i64 20,y'] 24 true)) q T c x L d y' M':=by
 have hd:=k.at h.hd
 have hr:=k.at h.r
 exact⟨aF hr (by rintro rfl;rw[hd]at hr;cases hr) _,aF (k.at h.hc) (Ne.symm h.ne) _,zMQ (zMJ.1 hd).1,(h.e.kp k).tv (by rintro p hp rfl;rw[hd]at hp;cases hp) _,e.tv (by rintro p hp rfl;rw[hd]at hp;cases hp) _,h.ne⟩
theorem Dt {b:List ay}{x:SV}{L:List En}{T:List Int}{f:Nat→Nat}{i:Nat}(h:gC b x L true)(hO:Od T f i L)(hT:∀ r∈T,0≤r∧r≤255)(hi:i<12)(hf:∀ j,f j<12) :
 SU Tryz.V 17 [.agg [.int .i64 20,x],.agg (eJ (vV (f i) (1+T.getD (f i) 0))),.int .u64 3] b (fun r b'=>Kp b b'∧∃ x',r=.agg [.int .i64 20,x']∧gC b' x' (jn En.key L (oE T (f i))) true):=by
 have o4:=hO.sd hT
 have hl:=hO.len
 have hg:0≤T.getD (f i) 0∧T.getD (f i) 0≤255:=by
  rw[zMW]
  cases hx:T[f i]? with
  | none=>simp
  | some r=>exact hT r (List.mem_of_getElem? hx)
 refine(xI (v:=vV (f i) (1+T.getD (f i) 0)) (now:=3) (cp:=20) h (.inl rfl) (by omega) o4.tr hO.zb rfl (by omega) (mX _ _)).mono ?_
 rintro r b' ⟨k,x',rfl,hE⟩
 rw[oS (by omega) (by omega) (by omega)]at hE
 refine⟨k,x',rfl,?_⟩
 unfold eX at hE
 rw[if_pos (.inr (by omega))]at hE
 exact hE
theorem xR (S:List Int)(tu:Int)(hn:0≤tu∧tu≤255)(hS:S.length≤9223372036854775807)(hr:∀ r∈S,0≤r∧r≤255) :
 SC Tryz.V 5 [.o 0 S.length,.int .u8 tu] [.own (S.flatMap kv) 5 1 S.length false] (fun r _=>r=.bool true):=by
 refine cK 3000 Tryz.func5 rfl Tryz.ntmps5 Tryz.results5 Tryz.call5 (by simp) (aw 1 _ (by simp[within,within.aN])) ?_
 refine aK 2900 (fun σ=>lk 0 σ.t=some (.o 0 S.length)∧lk 1 σ.t=some (.int .u8 tu)∧σ.b=[.own (S.flatMap kv) 5 1 S.length false]) ?_ (fun k' hk'=>?_)
 rotate_left
 ·simp only[ad,↓Xn,↓Xo,↓Xg,↓Xd,↓Xe,↓Xf,Tryz.VΓ,Tryz.Γs,Xp,Xi,Nat.reduceAdd,Nat.reduceSub,Nat.reduceLT,Nat.reduceLeDiff,reduceIte,reduceCtorEq,Nat.reduceEqDiff,implies_true,forall_const,aa,ak,beq_self_eq_true,bne_self_eq_false,Int.reduceBEq,Int.reduceBNe,Int.reduceLT,Int.reduceLE]
  exact hk' _ _ ⟨rfl,rfl,rfl⟩
 rintro m1 ⟨t1,b1⟩ ⟨l0,l1,rfl⟩
 simp only at l0 l1
 refine aK 2800 (fun σ=>lk 0 σ.t=some (.o 0 S.length)∧lk 1 σ.t=some (.int .u8 tu)∧σ.b=[.own (S.flatMap kv) 5 1 S.length false]) ?_ (fun k' hk'=>?_)
 rotate_left
 ·simp only[ad,↓Xn,↓Xo,↓Xg,↓Xd,↓Xe,↓Xf,Tryz.VΓ,Tryz.Γs,Xp,Xi,Nat.reduceAdd,Nat.reduceSub,Nat.reduceLT,Nat.reduceLeDiff,reduceIte,reduceCtorEq,Nat.reduceEqDiff,implies_true,forall_const,aa,ak,beq_self_eq_true,bne_self_eq_false,Int.reduceBEq,Int.reduceBNe,Int.reduceLT,Int.reduceLE]
  refine aG xM ?_
  rintro y b2 ⟨rfl,rfl⟩
  simp only[ad,↓Xn,↓Xo,↓Xg,↓Xd,↓Xe,↓Xf,Tryz.VΓ,Tryz.Γs,Xp,Xi,Nat.reduceAdd,Nat.reduceSub,Nat.reduceLT,Nat.reduceLeDiff,reduceIte,reduceCtorEq,Nat.reduceEqDiff,implies_true,forall_const,aa,ak,beq_self_eq_true,bne_self_eq_false,Int.reduceBEq,Int.reduceBNe,Int.reduceLT,Int.reduceLE]
  exact hk' _ _ ⟨l0,l1,rfl⟩
 clear l0 l1
 rintro m2 ⟨t2,b2⟩ ⟨l0,l1,rfl⟩
 simp only at l0 l1
 refine aK 2700 (fun σ=>lk 1 σ.t=some (.int .u8 tu)∧∃ (T:List Int) (q:Nat),lk 0 σ.t=some (.o q T.length)∧σ.b[q]? = some (.own (T.flatMap kv) 5 1 T.length false)∧T.length≤12∧∀ r∈T,0≤r∧r≤255) ?_ (fun k' hk'=>?_)
 rotate_left
 ·cases c:decide (12<(S.length:Int))
  ·simp only[ad,↓Xn,↓Xo,↓Xg,↓Xd,↓Xe,↓Xf,Tryz.VΓ,Tryz.Γs,Xp,Xi,Nat.reduceAdd,Nat.reduceSub,Nat.reduceLT,Nat.reduceLeDiff,reduceIte,reduceCtorEq,Nat.reduceEqDiff,implies_true,forall_const,aa,ak,beq_self_eq_true,bne_self_eq_false,Int.reduceBEq,Int.reduceBNe,Int.reduceLT,Int.reduceLE,l0,c]
   exact hk' _ _ ⟨l1,S,0,l0,rfl,by simp at c;omega,hr⟩
  ·have hc:12<S.length:=by simp at c;omega
   simp only[ad,↓Xn,↓Xo,↓Xg,↓Xd,↓Xe,↓Xf,Tryz.VΓ,Tryz.Γs,Xp,Xi,Nat.reduceAdd,Nat.reduceSub,Nat.reduceLT,Nat.reduceLeDiff,reduceIte,reduceCtorEq,Nat.reduceEqDiff,implies_true,forall_const,aa,ak,beq_self_eq_true,bne_self_eq_false,Int.reduceBEq,Int.reduceBNe,Int.reduceLT,Int.reduceLE,l0,c]
   refine⟨by omega,hk' _ _ ⟨l1,S.take 12,1,?_,?_,by simp;omega,fun r h=>hr r (List.mem_of_mem_take h)⟩⟩
   ·rw[show (S.take 12).length=12 by rw[List.length_take];omega];rfl
   ·rw[show (S.take 12).length=12 by rw[List.length_take];omega,← zN];rfl
 clear l0 l1
 rintro m3 ⟨t3,b3⟩ ⟨l1,T,q,l0,hq,hT12,hT⟩
 simp only at l0 l1 hq
 have fI:=p_New 20
 rw[if_neg (by omega)]at fI
 refine aK 2600 (fun σ=>lk 1 σ.t=some (.int .u8 tu)∧lk 0 σ.t=some (.o q T.length)∧lk 5 σ.t=some (.p b3.length 0)∧lk 6 σ.t=some (.int .i64 0)∧σ.b=b3++[.cells [.int .i64 20,.aD] 24 true]) ?_ (fun k' hk'=>?_)
 rotate_left
 ·simp only[ad,↓Xn,↓Xo,↓Xg,↓Xd,↓Xe,↓Xf,Tryz.VΓ,Tryz.Γs,Xp,Xi,Nat.reduceAdd,Nat.reduceSub,Nat.reduceLT,Nat.reduceLeDiff,reduceIte,reduceCtorEq,Nat.reduceEqDiff,implies_true,forall_const,aa,ak,beq_self_eq_true,bne_self_eq_false,Int.reduceBEq,Int.reduceBNe,Int.reduceLT,Int.reduceLE]
  refine ae fI ?_
  simp only[ad,↓Xn,↓Xo,↓Xg,↓Xd,↓Xe,↓Xf,Tryz.VΓ,Tryz.Γs,Xp,Xi,Nat.reduceAdd,Nat.reduceSub,Nat.reduceLT,Nat.reduceLeDiff,reduceIte,reduceCtorEq,Nat.reduceEqDiff,implies_true,forall_const,aa,ak,beq_self_eq_true,bne_self_eq_false,Int.reduceBEq,Int.reduceBNe,Int.reduceLT,Int.reduceLE]
  exact hk' _ _ ⟨l1,l0,rfl,rfl,rfl⟩
 clear l0 l1
 rintro m4 ⟨t4,b4⟩ ⟨l1,l0,l5,l6,rfl⟩
 simp only at l0 l1 l5 l6
 refine aK 2500 (fun σ=>lk 1 σ.t=some (.int .u8 tu)∧lk 0 σ.t=some (.o q T.length)∧lk 5 σ.t=some (.p b3.length 0)∧lk 6 σ.t=some (.int .i64 0)∧lk 7 σ.t=some (.p (b3.length+1) 0)∧lk 8 σ.t=some (.int .i64 0)∧Oo σ.b q T b3.length .aD [] (b3.length+1) .aD []) ?_ (fun k' hk'=>?_)
 rotate_left
 ·simp only[ad,↓Xn,↓Xo,↓Xg,↓Xd,↓Xe,↓Xf,Tryz.VΓ,Tryz.Γs,Xp,Xi,Nat.reduceAdd,Nat.reduceSub,Nat.reduceLT,Nat.reduceLeDiff,reduceIte,reduceCtorEq,Nat.reduceEqDiff,implies_true,forall_const,aa,ak,beq_self_eq_true,bne_self_eq_false,Int.reduceBEq,Int.reduceBNe,Int.reduceLT,Int.reduceLE]
  refine ae fI ?_
  simp only[ad,↓Xn,↓Xo,↓Xg,↓Xd,↓Xe,↓Xf,Tryz.VΓ,Tryz.Γs,Xp,Xi,Nat.reduceAdd,Nat.reduceSub,Nat.reduceLT,Nat.reduceLeDiff,reduceIte,reduceCtorEq,Nat.reduceEqDiff,implies_true,forall_const,aa,ak,beq_self_eq_true,bne_self_eq_false,Int.reduceBEq,Int.reduceBNe,Int.reduceLT,Int.reduceLE]
  exact hk' _ _ ⟨l1,l0,l5,l6,rfl,rfl,⟨af hq _,(eR _ _).trans rfl,a6 rfl _ 1,.inl ⟨rfl,rfl⟩,.inl ⟨rfl,rfl⟩,by omega⟩⟩
 clear l0 l1 l5 l6
 rintro m5 ⟨t5,b5⟩ ⟨l1,l0,l5,l6,l7,l8,hO⟩
 simp only at l0 l1 l5 l6 l7 l8 hO
 generalize b3.length+1=d at l7 hO
 generalize b3.length=c at l5 hO
 clear hq fI
 refine aK 2400 (fun σ=>lk 1 σ.t=some (.int .u8 tu)∧lk 0 σ.t=some (.o q T.length)∧lk 5 σ.t=some (.p c 0)∧lk 6 σ.t=some (.int .i64 0)∧lk 7 σ.t=some (.p d 0)∧lk 8 σ.t=some (.int .i64 0)∧∃ x L,Oo σ.b q T c x L d .aD []∧Od T (fun j=>min j 11) T.length L) ?_ (fun k' hk'=>?_)
 rotate_left
 ·simp only[ad,↓Xn,↓Xo,↓Xg,↓Xd,↓Xe,↓Xf,Tryz.VΓ,Tryz.Γs,Xp,Xi,Nat.reduceAdd,Nat.reduceSub,Nat.reduceLT,Nat.reduceLeDiff,reduceIte,reduceCtorEq,Nat.reduceEqDiff,implies_true,forall_const,aa,ak,beq_self_eq_true,bne_self_eq_false,Int.reduceBEq,Int.reduceBNe,Int.reduceLT,Int.reduceLE,l0]
  refine aJ (fun σ=>∃ (i:Nat) (x:SV) (L:List En),lk 1 σ.t=some (.int .u8 tu)∧lk 0 σ.t=some (.o q T.length)∧lk 5 σ.t=some (.p c 0)∧lk 6 σ.t=some (.int .i64 0)∧lk 7 σ.t=some (.p d 0)∧lk 8 σ.t=some (.int .i64 0)∧lk 28 σ.t=some (.int .i64 T.length)∧lk 29 σ.t=some (.int .i64 i)∧i≤T.length∧Oo σ.b q T c x L d .aD []∧Od T (fun j=>min j 11) i L) (fun σ=>T.length - iH 29 σ) ⟨0,.aD,[],l1,l0,l5,l6,l7,l8,rfl,rfl,by omega,hO,Od.nil _ _⟩ ?_
  clear l0 l1 l5 l6 l7 l8 hO
  rintro⟨t6,b6⟩ ⟨i,x,L,l1,l0,l5,l6,l7,l8,l28,l29,hi,hO,hD⟩
  simp only at l0 l1 l5 l6 l7 l8 l28 l29 hO
  rw[ax l29]
  by_cases c0:i<T.length
  ·have ci:decide ((i:Int)<(T.length:Int))=true:=by simpa using c0
   have uG:min i 11=i:=by omega
   have hg:T.getD i 0=T[i]:=by rw[zMW,zMS c0];rfl
   have jI:=hT _ (zMM c0)
   have dS:=GB T i c0
   have hw:IntKind.u64.wrap T[i]=T[i]:=s7 (by omega) (by omega)
   have dF:IntKind.u64.wrap (1+T[i])=1+T[i]:=s7 (by omega) (by omega)
   have hv:=fv i (1+T[i]) (by omega)
   obtain⟨y,nB,⟨hk,x',rfl,hE⟩,jo⟩:=Dt (f:=fun j=>min j 11) hO.e hD hT (by omega) (fun j=>by omega)
   simp only[uG,hg]at jo
   have pc:=hO.hc
   have pc2:=hk.at pc
   have pr:=hO.r
   have ho:=hO.e.one
   have jJ:=hE.one
   simp only[ad,↓Xn,↓Xo,↓Xg,↓Xd,↓Xe,↓Xf,Tryz.VΓ,Tryz.Γs,Xp,Xi,Nat.reduceAdd,Nat.reduceSub,Nat.reduceLT,Nat.reduceLeDiff,reduceIte,reduceCtorEq,Nat.reduceEqDiff,implies_true,forall_const,aa,ak,beq_self_eq_true,bne_self_eq_false,Int.reduceBEq,Int.reduceBNe,Int.reduceLT,Int.reduceLE,l0,l1,l5,l7,l28,l29,ci,pc,pr,dS,hw,dF,ho,Nat.mul_one]
   refine⟨⟨by omega,by omega⟩,by have:=mP kv 1 (fun _=>rfl) T;omega,?_⟩
   refine aV hv ?_
   simp only[ad,↓Xn,↓Xo,↓Xg,↓Xd,↓Xe,↓Xf,Tryz.VΓ,Tryz.Γs,Xp,Xi,Nat.reduceAdd,Nat.reduceSub,Nat.reduceLT,Nat.reduceLeDiff,reduceIte,reduceCtorEq,Nat.reduceEqDiff,implies_true,forall_const,aa,ak,beq_self_eq_true,bne_self_eq_false,Int.reduceBEq,Int.reduceBNe,Int.reduceLT,Int.reduceLE,l0,l1,l5,l7,l28,l29,ci,pc,pr,dS,hw,dF,ho,Nat.mul_one]
   refine jQ jo ?_
   simp only[ad,↓Xn,↓Xo,↓Xg,↓Xd,↓Xe,↓Xf,Tryz.VΓ,Tryz.Γs,Xp,Xi,Nat.reduceAdd,Nat.reduceSub,Nat.reduceLT,Nat.reduceLeDiff,reduceIte,reduceCtorEq,Nat.reduceEqDiff,implies_true,forall_const,aa,ak,beq_self_eq_true,bne_self_eq_false,Int.reduceBEq,Int.reduceBNe,Int.reduceLT,Int.reduceLE,l0,l1,l5,l7,l28,l29,ci,pc2,jJ]
   have bk:¬ q=c:=by rintro rfl;rw[pc]at pr;cases pr
   refine⟨(by
    refine eT (fun n=>if n=c then 0 else 1) ?_
    simp only[zMU,zMV,fO,kK,reduceIte,bk]
    exact av (by kernel_rfl)),by omega,⟨i+1,x',_,l6,l8,rfl,by omega,hO.putC hk hE,by have:=hD.put (by omega) (fun j=>by omega);exact this⟩,?_⟩
   rw[ax (show lk 29 _=some (.int .i64 ((i+1:Nat):Int)) from rfl)];omega
  ·have ci:decide ((i:Int)<(T.length:Int))=false:=by simpa using c0
   obtain rfl:i=T.length:=by omega
   simp only[ad,↓Xn,↓Xo,↓Xg,↓Xd,↓Xe,↓Xf,Tryz.VΓ,Tryz.Γs,Xp,Xi,Nat.reduceAdd,Nat.reduceSub,Nat.reduceLT,Nat.reduceLeDiff,reduceIte,reduceCtorEq,Nat.reduceEqDiff,implies_true,forall_const,aa,ak,beq_self_eq_true,bne_self_eq_false,Int.reduceBEq,Int.reduceBNe,Int.reduceLT,Int.reduceLE,l28,l29,ci]
   exact hk' _ _ ⟨l1,l0,l5,l6,l7,l8,x,L,hO,hD⟩
 clear l0 l1 l5 l6 l7 l8 hO
 rintro m6 ⟨t6,b6⟩ ⟨l1,l0,l5,l6,l7,l8,x,L,hO,hD⟩
 simp only at l0 l1 l5 l6 l7 l8 hO
 obtain⟨tn,rfl⟩:∃ tn:Nat,tu=(tn:Int):=⟨tu.toNat,by omega⟩
 refine aK 2300 (fun σ=>lk 0 σ.t=some (.o q T.length)∧lk 5 σ.t=some (.p c 0)∧lk 6 σ.t=some (.int .i64 0)∧lk 7 σ.t=some (.p d 0)∧lk 8 σ.t=some (.int .i64 0)∧∃ y M,Oo σ.b q T c x L d y M∧Od T (fun j=>min ((j+tn) % T.length) 11) T.length M) ?_ (fun k' hk'=>?_)
 rotate_left
 ·simp only[ad,↓Xn,↓Xo,↓Xg,↓Xd,↓Xe,↓Xf,Tryz.VΓ,Tryz.Γs,Xp,Xi,Nat.reduceAdd,Nat.reduceSub,Nat.reduceLT,Nat.reduceLeDiff,reduceIte,reduceCtorEq,Nat.reduceEqDiff,implies_true,forall_const,aa,ak,beq_self_eq_true,bne_self_eq_false,Int.reduceBEq,Int.reduceBNe,Int.reduceLT,Int.reduceLE,l0]
  refine aJ (fun σ=>∃ (i:Nat) (y:SV) (M:List En),lk 1 σ.t=some (.int .u8 tn)∧lk 0 σ.t=some (.o q T.length)∧lk 5 σ.t=some (.p c 0)∧lk 6 σ.t=some (.int .i64 0)∧lk 7 σ.t=some (.p d 0)∧lk 8 σ.t=some (.int .i64 0)∧lk 44 σ.t=some (.int .i64 T.length)∧lk 45 σ.t=some (.int .i64 i)∧i≤T.length∧Oo σ.b q T c x L d y M∧Od T (fun j=>min ((j+tn) % T.length) 11) i M) (fun σ=>T.length - iH 45 σ) ⟨0,.aD,[],l1,l0,l5,l6,l7,l8,rfl,rfl,by omega,hO,Od.nil _ _⟩ ?_
  clear l0 l1 l5 l6 l7 l8 hO
  rintro⟨t7,b7⟩ ⟨i,y,M,l1,l0,l5,l6,l7,l8,l44,l45,hi,hO,hM⟩
  simp only at l0 l1 l5 l6 l7 l8 l44 l45 hO
  rw[ax l45]
  by_cases c0:i<T.length
  ·have ci:decide ((i:Int)<(T.length:Int))=true:=by simpa using c0
   obtain⟨k,sC⟩:∃ k,k=(i+tn) % T.length:=⟨_,rfl⟩
   have sV:k<T.length:=by rw[sC];exact Nat.mod_lt _ (by omega)
   have uG:min ((i+tn) % T.length) 11=k:=by omega
   have hrem:qv .rem .i64 ((i:Int)+(tn:Int)) (T.length:Int)=(k:Int):=by
    have:qv .rem .i64 ((i:Int)+(tn:Int)) (T.length:Int)=((i:Int)+(tn:Int)) % (T.length:Int):=Int.tmod_eq_emod_of_nonneg (a:=(i:Int)+(tn:Int)) (b:=(T.length:Int)) (by omega)
    rw[this,sC];simp
   have hw0:=i64k (n:=(tn:Int)) (by omega) (by omega)
   have hg:T.getD k 0=T[k]:=by rw[zMW,zMS sV];rfl
   have jI:=hT _ (zMM sV)
   have dS:=GB T k sV
   have hw:IntKind.u64.wrap T[k]=T[k]:=s7 (by omega) (by omega)
   have dF:IntKind.u64.wrap (1+T[k])=1+T[k]:=s7 (by omega) (by omega)
   have hv:=fv k (1+T[k]) (by omega)
   obtain⟨y0,nB,⟨hk,y',rfl,hE⟩,jo⟩:=Dt (f:=fun j=>min ((j+tn) % T.length) 11) hO.f hM hT (by omega) (fun j=>by omega)
   simp only[uG,hg]at jo
   have pd:=hO.hd
   have pd2:=hk.at pd
   have pr:=hO.r
   have ho:=hO.f.one
   have jJ:=hE.one
   simp only[ad,↓Xn,↓Xo,↓Xg,↓Xd,↓Xe,↓Xf,Tryz.VΓ,Tryz.Γs,Xp,Xi,Nat.reduceAdd,Nat.reduceSub,Nat.reduceLT,Nat.reduceLeDiff,reduceIte,reduceCtorEq,Nat.reduceEqDiff,implies_true,forall_const,aa,ak,beq_self_eq_true,bne_self_eq_false,Int.reduceBEq,Int.reduceBNe,Int.reduceLT,Int.reduceLE,l0,l1,l5,l7,l44,l45,ci,pd,pr,dS,hw0,hw,dF,ho,hrem,Nat.mul_one]
   refine⟨⟨by omega,by omega⟩,by omega,⟨by omega,by omega⟩,by have:=mP kv 1 (fun _=>rfl) T;omega,?_⟩
   refine aV hv ?_
   simp only[ad,↓Xn,↓Xo,↓Xg,↓Xd,↓Xe,↓Xf,Tryz.VΓ,Tryz.Γs,Xp,Xi,Nat.reduceAdd,Nat.reduceSub,Nat.reduceLT,Nat.reduceLeDiff,reduceIte,reduceCtorEq,Nat.reduceEqDiff,implies_true,forall_const,aa,ak,beq_self_eq_true,bne_self_eq_false,Int.reduceBEq,Int.reduceBNe,Int.reduceLT,Int.reduceLE,l0,l1,l5,l7,l44,l45,ci,pd,pr,dS,hw0,hw,dF,ho,hrem,Nat.mul_one]
   refine jQ jo ?_
   simp only[ad,↓Xn,↓Xo,↓Xg,↓Xd,↓Xe,↓Xf,Tryz.VΓ,Tryz.Γs,Xp,Xi,Nat.reduceAdd,Nat.reduceSub,Nat.reduceLT,Nat.reduceLeDiff,reduceIte,reduceCtorEq,Nat.reduceEqDiff,implies_true,forall_const,aa,ak,beq_self_eq_true,bne_self_eq_false,Int.reduceBEq,Int.reduceBNe,Int.reduceLT,Int.reduceLE,l0,l1,l5,l7,l44,l45,ci,pd2,jJ]
   have bk:¬ q=d:=by rintro rfl;rw[pd]at pr;cases pr
   refine⟨(by
    refine eT (fun n=>if n=d then 0 else 1) ?_
    simp only[zMU,zMV,fO,kK,reduceIte,bk]
    exact av (by kernel_rfl)),by omega,⟨i+1,y',_,l6,l8,rfl,by omega,hO.putD hk hE,hM.put (by omega) (fun j=>by omega)⟩,?_⟩
   rw[ax (show lk 45 _=some (.int .i64 ((i+1:Nat):Int)) from rfl)];omega
  ·have ci:decide ((i:Int)<(T.length:Int))=false:=by simpa using c0
   obtain rfl:i=T.length:=by omega
   simp only[ad,↓Xn,↓Xo,↓Xg,↓Xd,↓Xe,↓Xf,Tryz.VΓ,Tryz.Γs,Xp,Xi,Nat.reduceAdd,Nat.reduceSub,Nat.reduceLT,Nat.reduceLeDiff,reduceIte,reduceCtorEq,Nat.reduceEqDiff,implies_true,forall_const,aa,ak,beq_self_eq_true,bne_self_eq_false,Int.reduceBEq,Int.reduceBNe,Int.reduceLT,Int.reduceLE,l44,l45,ci]
   exact hk' _ _ ⟨l0,l5,l6,l7,l8,y,M,hO,hM⟩
 clear l0 l1 l5 l6 l7 l8 hO
 rintro m7 ⟨t7,b7⟩ ⟨l0,l5,l6,l7,l8,y,M,hO,hM⟩
 simp only at l0 l5 l6 l7 l8 hO
 have hLn:L.length=T.length:=hD.len_eq hT12 (fun j=>by omega) (fun a e ha he h=>by omega)
 have hLM:L=M:=hD.eq hM fun z=>by
  by_cases h0:0<T.length
  ·have h1:=zo (t:=tn) z h0
   constructor
   ·rintro⟨j,hj,rfl⟩
    obtain⟨j',hj',e⟩:=(zo (n:=T.length) (t:=tn) j h0).1 ⟨j,hj,rfl⟩
    exact⟨j',hj',by rw[← e]⟩
   ·rintro⟨j,hj,rfl⟩
    exact⟨(j+tn) % T.length,Nat.mod_lt _ h0,rfl⟩
  ·constructor <;> (rintro⟨j,hj,-⟩;omega)
 subst hLM
 have o4:=hD.sd hT
 have xa:=zI (cp:=20) hO.e hO.f (by omega) rfl (fun e he=>by rw[o4.tr e he];rfl) (fun e he=>by rw[o4.tr e he];rfl) (fun i hi=>⟨rfl,rfl,fun b2 _=>(rY (o4.tr _ (zMM hi))).scs⟩)
 have hll:=hO.e.len
 rw[hLn]at hll
 have pc:=hO.hc
 have pd:=hO.hd
 have ho:=hO.e.one
 have jJ:=hO.f.one
 simp only[ad,↓Xn,↓Xo,↓Xg,↓Xd,↓Xe,↓Xf,Tryz.VΓ,Tryz.Γs,Xp,Xi,Nat.reduceAdd,Nat.reduceSub,Nat.reduceLT,Nat.reduceLeDiff,reduceIte,reduceCtorEq,Nat.reduceEqDiff,implies_true,forall_const,aa,ak,beq_self_eq_true,bne_self_eq_false,Int.reduceBEq,Int.reduceBNe,Int.reduceLT,Int.reduceLE,l0,l5,l6,l7,l8,pc,pd,ho,jJ,hll]
 refine aG xa ?_
 rintro z b8 ⟨rfl,rfl⟩
 simp only[ad,↓Xn,↓Xo,↓Xg,↓Xd,↓Xe,↓Xf,Tryz.VΓ,Tryz.Γs,Xp,Xi,Nat.reduceAdd,Nat.reduceSub,Nat.reduceLT,Nat.reduceLeDiff,reduceIte,reduceCtorEq,Nat.reduceEqDiff,implies_true,forall_const,aa,ak,beq_self_eq_true,bne_self_eq_false,Int.reduceBEq,Int.reduceBNe,Int.reduceLT,Int.reduceLE,l0,l5,l6,l7,l8,pc,pd,ho,jJ,hll]
end Go.Proofs.YteipdaijbncgeaaGreatDoor
