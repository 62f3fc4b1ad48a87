/- Texts of this claim, laid together: RefPut, RefAdd, DiceN, Made31, SoundC, SoundR, Same31, Law31s, Law31k, Pick31, Puts31, Keep31, Law31p. -/
import Derived.Test.YteipdaijbncgeaaGreatDoorU7
open List renaming getElem?_eq_some_iff → zN7, append_nil → zN8, drop_succ_cons → zN9, getElem_mem → zOa, drop_zero → zOb, take_of_length_le → zOc, drop_nil → zOd, getElem?_set_self → zOe, length_set → zOf, getElem_append_left → zOg, getElem?_eq_none → zOh, append_assoc → zOi, map_cons → zOj, map_nil → zOk, length_filter_le → zOl, getElem?_append_left → zOm, getElem_append_right → zOn, getElem?_eq_getElem → zOo, mem_filter → zOq, mem_append → zOt
set_option linter.all false
set_option maxHeartbeats 16000000
set_option maxRecDepth 20000
namespace Go.Proofs.YteipdaijbncgeaaGreatDoor
open Go Vc Go.RowKit Wf
section
variable {b:List ax} {q:Nat} {L:List En} {m:Bool} {t:Bytes} {cp now:Int}
structure R1 (b:List ax) (cp:Int) (v:Vd) (x:SV) (b1:List ax):Prop where
 kp:Kp b b1
 c:b1[b.length]? = some (.cells [.int .i64 cp,x] 24 true)
 v:b1[b.length+1]? = some (.cells (cN v) 41 true)
 o:b1[b.length+2]? = some (.cells [.int .i64 0,.aE] 24 true)
theorem R1.app {b b1:List ax}{cp:Int}{v:Vd}{x:SV}(h:R1 b cp v x b1)(l:List ax):R1 b cp v x (b1++l):=⟨h.kp.app _,af h.c _,af h.v _,af h.o _⟩
theorem R1.set {b b1:List ax}{cp:Int}{v:Vd}{x:SV}(h:R1 b cp v x b1){k:Nat}(hk:b.length+2<k)(X:ax):R1 b cp v x (b1.set k X):=⟨h.kp.set (by omega) _,aI h.c (by omega) _,aI h.v (by omega) _,aI h.o (by omega) _⟩
structure R2 (b:List ax) (n:Nat) (cp:Int) (v:Vd) (now:Int) (x1:SV) (KL:List En) (x2:SV) (M:List En) (b1:List ax):Prop where
 lt:b.length+2<n
 kp:Kp b b1
 vv:b1[b.length+1]? = some (.cells (cN v) 41 true)
 o:b1[b.length+2]? = some (.cells [.int .i64 0,.aE] 24 true)
 u:b1[n]? = some (.cells [.int .i64 cp,x2] 24 true)
 e:b1[n+1]? = some (.cells (enc (jK v now)) 43 true)
 h1:fT b1 x1 KL true
 h2:fT b1 x2 M true
 q1:∀ q k,x1=.o q k→b.length+2<q∧q<n
 q2:∀ q k,x2=.o q k→n+1<q
section
variable {n:Nat} {v:Vd} {x1 x2 x3:SV} {KL M M':List En} {b1:List ax}
theorem R2.app (h:R2 b n cp v now x1 KL x2 M b1)(l:List ax):R2 b n cp v now x1 KL x2 M (b1++l):=⟨h.lt,h.kp.app _,af h.vv _,af h.o _,af h.u _,af h.e _,h.h1.kp ((Kp.refl _).app _),h.h2.kp ((Kp.refl _).app _),h.q1,h.q2⟩
theorem fT.setN {b:List ax}{x:SV}{L:List En}{m:Bool}(h:fT b x L m){k:Nat}(hk:∀ q n,x=.o q n→k≠q)(X:ax):fT (b.set k X) x L m:=by
 rcases h with h|⟨q,rfl,hq⟩
 ·exact .inl h
 ·exact .inr ⟨q,rfl,aI hq (hk q _ rfl) _⟩
theorem R2.new (h:R2 b n cp v now x1 KL .aE M b1){l:List ax}{j:Nat}(hj:j<l.length)(hl:(b1++l).length=b1.length+l.length)(hx:l[j]? = some (.own (M'.flatMap enc) 43 14 M'.length true)):R2 b n cp v now x1 KL (.o (b1.length+j) M'.length) M' (b1.set n (.cells [.int .i64 cp,.o (b1.length+j) M'.length] 24 true)++l):=by
 have aB:=h.lt
 have hn:n<b1.length:=(zN7.1 h.u).1
 have Hg:n+1<b1.length:=(zN7.1 h.e).1
 refine⟨aB,(h.kp.set (by omega) _).app _,af (aI h.vv (by omega) _) _,af (aI h.o (by omega) _) _,af (zOe hn) _,af (aI h.e (by omega) _) _,(h.h1.setN (fun q k e=>by have:=(h.q1 q k e).2;omega) _).kp ((Kp.refl _).app _),.inr ⟨_,rfl,?_⟩,h.q1,fun q k e=>by cases e;omega⟩
 rw[List.getElem?_append_right (by rw[zOf];omega),zOf,Nat.add_sub_cancel_left]
 exact hx
theorem R2.more {q k:Nat}(h:R2 b n cp v now x1 KL (.o q k) M b1){l:List ax}{j:Nat}(hx:l[j]? = some (.own (M'.flatMap enc) 43 14 M'.length true)):R2 b n cp v now x1 KL (.o (b1.length+j) M'.length) M' ((b1.set q .gone).set n (.cells [.int .i64 cp,.o (b1.length+j) M'.length] 24 true)++l):=by
 have aB:=h.lt
 have hn:n<b1.length:=(zN7.1 h.u).1
 have Hg:n+1<b1.length:=(zN7.1 h.e).1
 have hq:=h.q2 q k rfl
 refine⟨aB,((h.kp.set (by omega) _).set (by omega) _).app _,af (aI (aI h.vv (by omega) _) (by omega) _) _,af (aI (aI h.o (by omega) _) (by omega) _) _,af (zOe (by rw[zOf];exact hn)) _,af (aI (aI h.e (by omega) _) (by omega) _) _,((h.h1.setN (fun q k e=>by have:=(h.q1 q k e).2;omega) _).setN (fun q k e=>by have:=(h.q1 q k e).2;omega) _).kp ((Kp.refl _).app _),.inr ⟨_,rfl,?_⟩,h.q1,fun q k e=>by cases e;omega⟩
 rw[List.getElem?_append_right (by rw[zOf,zOf];omega),zOf,zOf,Nat.add_sub_cancel_left]
 exact hx
theorem R2.Ix {q:Nat}{x:En}(h:R2 b n cp v now x1 KL (.o q M.length) M b1){l:List ax}{j k:Nat}(hk:k=M.length+1)(hx:l[j]? = some (.own (M.flatMap enc++enc x) 43 14 k true)):R2 b n cp v now x1 KL (.o (b1.length+j) k) (M++[x]) ((b1.set q .gone).set n (.cells [.int .i64 cp,.o (b1.length+j) k] 24 true)++l):=by
 subst hk
 have e:(M++[x]).length=M.length+1:=by simp
 rw[← e]at hx ⊢
 exact h.more (by simpa using hx)
end
theorem BO {E:Type}{p:Nat→E→Bool}{L:List E}{y:E}:∀ j,y∈dr p L j→y∈L
 | 0,h=>by simp[dr]at h
 | j+1,h=>by
   rw[dr,zOt]at h
   rcases h with h|h
   ·exact BO j h
   ·have:=(zOq.1 h).1
    rw[Option.mem_toList]at this
    exact List.mem_of_getElem? this
theorem Cr {E:Type}{f:E→Bool}{L:List E}{k:Nat}(hk:k<L.length)(h:f L[k]=true):(L.take (k+1)).filter f=(L.take k).filter f++[L[k]]:=by
 rw[List.take_succ_eq_append_getElem hk,List.filter_append];simp[h]
theorem Cq {E:Type}{f:E→Bool}{L:List E}{k:Nat}(hk:k<L.length)(h:f L[k]=false):(L.take (k+1)).filter f=(L.take k).filter f:=by
 rw[List.take_succ_eq_append_getElem hk,List.filter_append];simp[h]
theorem blt_gt (a t:Bytes):(!(blt a t||a==t))=blt t a:=by
 cases h:blt a t
 ·by_cases e:a=t
  ·subst e;simp[kD]
  ·rcases qY e with h1|h1
   ·rw[h]at h1;cases h1
   ·simp[e,h1]
 ·simp[FI h]
def kN (L:List En)(t:Bytes):Int:=if dC En.key L t then -2 else dS (oI L) L.length
theorem tY {x:SV}{v:Vd}{cb:Bool}(h:fT b x L m)(hl:L.length≤1000000)(wW:∀ e∈L,one e.v.tr=true)(Fc:one v.tr=true)(hvw:within b.length v.tr=true)
 (Ho:SC Tryz.V 30 [.agg (cN v)] (b++[.cells [.int .i64 cp,x] 24 true,.cells (cN v) 41 true,.cells [.int .i64 0,.aE] 24 true]) (fun r b2=>r=.bool cb∧b2=(b++[.cells [.int .i64 cp,x] 24 true,.cells (cN v) 41 true,.cells [.int .i64 0,.aE] 24 true])))
 (qR:PC Tryz.V 31 [.int .u64 now,.int .u64 v.df] (.int .u64 (kf now v.df))) :
 SU Tryz.V 19 [.agg [.int .i64 cp,x],.agg (cN v),.int .u64 now] b (fun r b'=>Kp b b'∧∃ x' m',r=.agg [.int .i64 cp,x']∧fT b' x' (if cb&&!(cp==0) then jL En.key (dr (fO En.key v.id.text (dC En.key L v.id.text||decide ((L.length:Int)<cp)) (dS (oI L) L.length)) L L.length) (jK v now) else L) m'∧(m'=true∨x'=x∧m'=m)):=by
 have hw:=h.within
 have ho:=h.one
 have C4:(cN v).length=12:=rfl
 have hv1':(cN v).all one=true:=by simp[cN,one]at Fc ⊢;exact Fc
 have hvt:(cN v).take 12=cN v:=zOc (by rw[C4];omega)
 have hvw':within.ay b.length (cN v)=true:=by simp[cN,within,within.ay,hvw]
 have eO:∀ e,mc (.slice e) x=some (.int .i64 L.length):=fun e=>by
  rcases h with⟨rfl,rfl⟩|⟨q,rfl,-⟩ <;> rfl
 obtain⟨LP,hLP⟩:∃ LP,LP=(if cb&&!(cp==0) then jL En.key (dr (fO En.key v.id.text (dC En.key L v.id.text||decide ((L.length:Int)<cp)) (dS (oI L) L.length)) L L.length) (jK v now) else L):=⟨_,rfl⟩
 rw[← hLP]
 refine HM 3000 Tryz.func19 rfl Tryz.ntmps19 Tryz.results19 Tryz.call19 (by simp) (aw b.length _ (by simp[within,within.ay,hw,hvw'])) ?_
 refine bd 2900 (fun σ=>lk 2 σ.t=some (.int .u64 now)∧lk 3 σ.t=some (.p b.length 0)∧lk 4 σ.t=some (.p (b.length+1) 0)∧lk 6 σ.t=some (.p (b.length+2) 0)∧σ.b=b++[.cells [.int .i64 cp,x] 24 true,.cells (cN v) 41 true,.cells [.int .i64 0,.aE] 24 true]) ?_ (fun k' hk'=>?_)
 rotate_left
 ·simp only[ad,↓Xn,↓Xo,↓Xg,↓Xd,↓Xe,↓Xf,Tryz.VΓ,Tryz.Γs,Xp,Xi,Nat.reduceAdd,Nat.reduceSub,Nat.reduceLT,Nat.reduceLeDiff,reduceIte,reduceCtorEq,Nat.reduceEqDiff,implies_true,forall_const,aa,av,beq_self_eq_true,bne_self_eq_false,Int.reduceBEq,Int.reduceBNe,Int.reduceLT,Int.reduceLE,ho,hv1',C4]
  exact hk' _ _ ⟨rfl,rfl,rfl,rfl,rfl⟩
 rintro m1 ⟨t1,b1⟩ ⟨l2,l3,l4,l6,rfl⟩
 simp only at l2 l3 l4 l6
 refine bd 2800 (fun σ=>lk 2 σ.t=some (.int .u64 now)∧lk 3 σ.t=some (.p b.length 0)∧lk 4 σ.t=some (.p (b.length+1) 0)∧lk 6 σ.t=some (.p (b.length+2) 0)∧R1 b cp v x σ.b∧(cb&&!(cp==0))=true) ?_ (fun k' hk'=>?_)
 rotate_left
 ·simp only[ad,↓Xn,↓Xo,↓Xg,↓Xd,↓Xe,↓Xf,Tryz.VΓ,Tryz.Γs,Xp,Xi,Nat.reduceAdd,Nat.reduceSub,Nat.reduceLT,Nat.reduceLeDiff,reduceIte,reduceCtorEq,Nat.reduceEqDiff,implies_true,forall_const,aa,av,beq_self_eq_true,bne_self_eq_false,Int.reduceBEq,Int.reduceBNe,Int.reduceLT,Int.reduceLE,l3,l4,C4,hvt]
  refine CO (R:=fun r b2=>r=.bool cb∧b2=_) (SU.of Ho ⟨rfl,rfl⟩) ?_
  rintro y b2 ⟨rfl,rfl⟩
  cases rX:cb
  ·simp only[ad,↓Xn,↓Xo,↓Xg,↓Xd,↓Xe,↓Xf,Tryz.VΓ,Tryz.Γs,Xp,Xi,Nat.reduceAdd,Nat.reduceSub,Nat.reduceLT,Nat.reduceLeDiff,reduceIte,reduceCtorEq,Nat.reduceEqDiff,implies_true,forall_const,aa,av,beq_self_eq_true,bne_self_eq_false,Int.reduceBEq,Int.reduceBNe,Int.reduceLT,Int.reduceLE,l3,l4,l6,ho]
   exact⟨(Kp.refl _).app _,x,m,rfl,by rw[hLP,rX];exact h.kp ((Kp.refl _).app _),.inr ⟨rfl,rfl⟩⟩
  ·cases vw:(cp==0)
   ·simp only[ad,↓Xn,↓Xo,↓Xg,↓Xd,↓Xe,↓Xf,Tryz.VΓ,Tryz.Γs,Xp,Xi,Nat.reduceAdd,Nat.reduceSub,Nat.reduceLT,Nat.reduceLeDiff,reduceIte,reduceCtorEq,Nat.reduceEqDiff,implies_true,forall_const,aa,av,beq_self_eq_true,bne_self_eq_false,Int.reduceBEq,Int.reduceBNe,Int.reduceLT,Int.reduceLE,l3,l4,l6,ho,vw]
    refine hk' _ _ ?_
    exact⟨l2,l3,l4,l6,⟨(Kp.refl _).app _,aZ rfl _ 0,aZ rfl _ 1,aZ rfl _ 2⟩,by rw[rX,vw];rfl⟩
   ·simp only[ad,↓Xn,↓Xo,↓Xg,↓Xd,↓Xe,↓Xf,Tryz.VΓ,Tryz.Γs,Xp,Xi,Nat.reduceAdd,Nat.reduceSub,Nat.reduceLT,Nat.reduceLeDiff,reduceIte,reduceCtorEq,Nat.reduceEqDiff,implies_true,forall_const,aa,av,beq_self_eq_true,bne_self_eq_false,Int.reduceBEq,Int.reduceBNe,Int.reduceLT,Int.reduceLE,l3,l4,l6,ho,vw]
    exact⟨(Kp.refl _).app _,x,m,rfl,by rw[hLP,rX,vw];exact h.kp ((Kp.refl _).app _),.inr ⟨rfl,rfl⟩⟩
 rintro m2 ⟨t2,b2⟩ ⟨l2,l3,l4,l6,hR,lz⟩
 simp only at l2 l3 l4 l6 hR
 rw[if_pos lz]at hLP
 clear Ho
 refine bd 2700 (fun σ=>lk 2 σ.t=some (.int .u64 now)∧lk 3 σ.t=some (.p b.length 0)∧lk 4 σ.t=some (.p (b.length+1) 0)∧lk 6 σ.t=some (.p (b.length+2) 0)∧lk 7 σ.t=some .aE∧R1 b cp v x σ.b) ?_ (fun k' hk'=>?_)
 rotate_left
 ·simp only[ad,↓Xn,↓Xo,↓Xg,↓Xd,↓Xe,↓Xf,Tryz.VΓ,Tryz.Γs,Xp,Xi,Nat.reduceAdd,Nat.reduceSub,Nat.reduceLT,Nat.reduceLeDiff,reduceIte,reduceCtorEq,Nat.reduceEqDiff,implies_true,forall_const,aa,av,beq_self_eq_true,bne_self_eq_false,Int.reduceBEq,Int.reduceBNe,Int.reduceLT,Int.reduceLE]
  refine hk' _ _ ?_
  exact⟨l2,l3,l4,l6,rfl,hR⟩
 rintro m3 ⟨t3,b3⟩ ⟨l2,l3,l4,l6,l7,hR⟩
 simp only at l2 l3 l4 l6 l7 hR
 refine bd 2600 (fun σ=>lk 2 σ.t=some (.int .u64 now)∧lk 3 σ.t=some (.p b.length 0)∧lk 4 σ.t=some (.p (b.length+1) 0)∧lk 6 σ.t=some (.p (b.length+2) 0)∧lk 7 σ.t=some .aE∧lk 8 σ.t=some (.int .i64 (-1))∧R1 b cp v x σ.b) ?_ (fun k' hk'=>?_)
 rotate_left
 ·simp only[ad,↓Xn,↓Xo,↓Xg,↓Xd,↓Xe,↓Xf,Tryz.VΓ,Tryz.Γs,Xp,Xi,Nat.reduceAdd,Nat.reduceSub,Nat.reduceLT,Nat.reduceLeDiff,reduceIte,reduceCtorEq,Nat.reduceEqDiff,implies_true,forall_const,aa,av,beq_self_eq_true,bne_self_eq_false,Int.reduceBEq,Int.reduceBNe,Int.reduceLT,Int.reduceLE]
  refine hk' _ _ ?_
  exact⟨l2,l3,l4,l6,l7,rfl,hR⟩
 rintro m4 ⟨t4,b4⟩ ⟨l2,l3,l4,l6,l7,l8,hR⟩
 simp only at l2 l3 l4 l6 l7 l8 hR
 refine bd 2500 (fun σ=>lk 2 σ.t=some (.int .u64 now)∧lk 3 σ.t=some (.p b.length 0)∧lk 4 σ.t=some (.p (b.length+1) 0)∧lk 6 σ.t=some (.p (b.length+2) 0)∧lk 7 σ.t=some .aE∧lk 8 σ.t=some (.int .i64 (kN L v.id.text))∧R1 b cp v x σ.b) ?_ (fun k' hk'=>?_)
 rotate_left
 ·have pc:=hR.c
  simp only[ad,↓Xn,↓Xo,↓Xg,↓Xd,↓Xe,↓Xf,Tryz.VΓ,Tryz.Γs,Xp,Xi,Nat.reduceAdd,Nat.reduceSub,Nat.reduceLT,Nat.reduceLeDiff,reduceIte,reduceCtorEq,Nat.reduceEqDiff,implies_true,forall_const,aa,av,beq_self_eq_true,bne_self_eq_false,Int.reduceBEq,Int.reduceBNe,Int.reduceLT,Int.reduceLE,l3,pc,eO]
  refine aM (fun σ=>∃ (k:Nat),lk 2 σ.t=some (.int .u64 now)∧lk 3 σ.t=some (.p b.length 0)∧lk 4 σ.t=some (.p (b.length+1) 0)∧lk 6 σ.t=some (.p (b.length+2) 0)∧lk 7 σ.t=some .aE∧lk 8 σ.t=some (.int .i64 (dS (oI L) k))∧lk 29 σ.t=some x∧lk 30 σ.t=some (.int .i64 L.length)∧lk 31 σ.t=some (.int .i64 k)∧k≤L.length∧R1 b cp v x σ.b∧∀ j (hj:j<k) (mU:j<L.length),En.key L[j]≠v.id.text) (fun σ=>L.length - ja 31 σ) ⟨0,l2,l3,l4,l6,l7,l8,rfl,rfl,rfl,by omega,hR,fun j hj=>by omega⟩ ?_
  rintro⟨t5,b5⟩ ⟨k,l2,l3,l4,l6,l7,l8,l29,l30,l31,hk,hR,gx⟩
  simp only at l2 l3 l4 l6 l7 l8 l29 l30 l31 hR
  rw[az l31]
  by_cases c:k<L.length
  ·have ci:decide ((k:Int)<(L.length:Int))=true:=by simpa using c
   obtain⟨q,rfl,hq⟩:∃ q,x=.o q L.length∧b[q]? = some (.own (L.flatMap enc) 43 14 L.length m):=by
    rcases h with⟨rfl,rfl⟩|h
    ·simp at c
    ·exact h
   have dp:=hR.kp.at hq
   have pc:=hR.c
   have pv:=hR.v
   have dW:=jg L k c
   have fh:(enc L[k]).length=14:=rfl
   have fP:(enc L[k]).take 14=enc L[k]:=zOc (by rw[fh];omega)
   have hex:(enc L[k])[13]? = some (.int .u64 L[k].aS):=rfl
   have ia:(enc L[k])[2]? = some (.str (En.key L[k])):=rfl
   have wi:(cN v)[2]? = some (.str v.id.text):=rfl
   have ic:(enc L[k]).all one=true:=by
    have:=wW _ (zOa c)
    simp[enc,one]at this ⊢;exact this
   have jX:3≤(cN v).length:=by rw[C4];decide
   have Fi:(En.key L[k]==v.id.text)=false→∀ j (hj:j<k+1) (mU:j<L.length),En.key L[j]≠v.id.text:=fun hf j hj mU=>by
    by_cases e:j=k
    ·subst e;simpa using hf
    ·exact gx j (by omega) mU
   have hhit:(En.key L[k]==v.id.text)=true→kN L v.id.text=-2:=fun ht=>by
    unfold kN
    rw[if_pos]
    exact jP.2 ⟨_,zOa c,by simpa using ht⟩
   by_cases k0:k=0
   ·subst k0
    have aB:decide (dS (oI L) 0<0)=true:=rfl
    cases heq:(En.key L[0]==v.id.text)
    ·simp only[ad,↓Xn,↓Xo,↓Xg,↓Xd,↓Xe,↓Xf,Tryz.VΓ,Tryz.Γs,Xp,Xi,Nat.reduceAdd,Nat.reduceSub,Nat.reduceLT,Nat.reduceLeDiff,reduceIte,reduceCtorEq,Nat.reduceEqDiff,implies_true,forall_const,aa,av,beq_self_eq_true,bne_self_eq_false,Int.reduceBEq,Int.reduceBNe,Int.reduceLT,Int.reduceLE,l3,l4,l8,l29,l30,l31,ci,dp,pc,pv,af pv,dW,fh,fP,hex,ia,wi,aB,heq,zN9,zOd,zOb,zN8]
     refine⟨⟨by omega,by omega⟩,by rw[aT];omega,ic,aq (by kernel_rfl),jX,by omega,⟨1,l2,l6,l7,rfl,rfl,by omega,hR.app _,Fi heq⟩,?_⟩
     rw[az (show lk 31 _=some (.int .i64 ((0+1:Nat):Int)) from rfl)];omega
    ·simp only[ad,↓Xn,↓Xo,↓Xg,↓Xd,↓Xe,↓Xf,Tryz.VΓ,Tryz.Γs,Xp,Xi,Nat.reduceAdd,Nat.reduceSub,Nat.reduceLT,Nat.reduceLeDiff,reduceIte,reduceCtorEq,Nat.reduceEqDiff,implies_true,forall_const,aa,av,beq_self_eq_true,bne_self_eq_false,Int.reduceBEq,Int.reduceBNe,Int.reduceLT,Int.reduceLE,l3,l4,l8,l29,l30,l31,ci,dp,pc,pv,af pv,dW,fh,fP,hex,ia,wi,aB,heq,zN9,zOd,zOb,zN8]
     refine⟨⟨by omega,by omega⟩,by rw[aT];omega,ic,aq (by kernel_rfl),jX,?_⟩
     refine hk' _ _ ?_
     exact⟨l2,l3,l4,l6,l7,by rw[hhit heq];rfl,hR.app _⟩
   ·obtain⟨a,ha⟩:∃ a,a=dR (oI L) k:=⟨_,rfl⟩
    have hak:a<k:=by rw[ha];exact(iT (oI L) k (by omega)).1
    have Jf:dS (oI L) k=(a:Int):=by unfold dS;rw[if_neg k0,ha]
    rw[Jf]at l8
    have aB:decide ((a:Int)<0)=false:=by simp
    have g2:(L.flatMap enc)[a * 14+13]? = some (.int .u64 (L[a]'(by omega)).aS):=(iO L a (by omega) 13 (by omega)).trans rfl
    have hY:dS (oI L) (k+1)=if L[k].aS<(L[a]'(by omega)).aS then(k:Int) else(a:Int):=by
     unfold dS
     rw[if_neg (by omega),dR,if_neg k0,← ha,zX L k c,zX L a (by omega)]
     split <;> rfl
    have mJ:=aT L
    cases hd:decide (L[k].aS<(L[a]'(by omega)).aS)
    ·rw[if_neg (by simpa using hd)]at hY
     cases heq:(En.key L[k]==v.id.text)
     ·simp only[ad,↓Xn,↓Xo,↓Xg,↓Xd,↓Xe,↓Xf,Tryz.VΓ,Tryz.Γs,Xp,Xi,Nat.reduceAdd,Nat.reduceSub,Nat.reduceLT,Nat.reduceLeDiff,reduceIte,reduceCtorEq,Nat.reduceEqDiff,implies_true,forall_const,aa,av,beq_self_eq_true,bne_self_eq_false,Int.reduceBEq,Int.reduceBNe,Int.reduceLT,Int.reduceLE,l3,l4,l8,l29,l30,l31,ci,dp,af dp,pc,af pc,pv,af pv,dW,fh,fP,hex,ia,wi,aB,heq,g2,hd,zN9,zOd,zOb,zN8]
      refine⟨⟨by omega,by omega⟩,by rw[mJ];omega,ic,⟨by omega,by omega⟩,by rw[mJ];omega,aq (by kernel_rfl),jX,by omega,⟨k+1,l2,l6,l7,by rw[hY],rfl,by omega,hR.app _,Fi heq⟩,?_⟩
      rw[az (show lk 31 _=some (.int .i64 ((k+1:Nat):Int)) from rfl)];omega
     ·simp only[ad,↓Xn,↓Xo,↓Xg,↓Xd,↓Xe,↓Xf,Tryz.VΓ,Tryz.Γs,Xp,Xi,Nat.reduceAdd,Nat.reduceSub,Nat.reduceLT,Nat.reduceLeDiff,reduceIte,reduceCtorEq,Nat.reduceEqDiff,implies_true,forall_const,aa,av,beq_self_eq_true,bne_self_eq_false,Int.reduceBEq,Int.reduceBNe,Int.reduceLT,Int.reduceLE,l3,l4,l8,l29,l30,l31,ci,dp,af dp,pc,af pc,pv,af pv,dW,fh,fP,hex,ia,wi,aB,heq,g2,hd,zN9,zOd,zOb,zN8]
      refine⟨⟨by omega,by omega⟩,by rw[mJ];omega,ic,⟨by omega,by omega⟩,by rw[mJ];omega,aq (by kernel_rfl),jX,?_⟩
      refine hk' _ _ ?_
      exact⟨l2,l3,l4,l6,l7,by rw[hhit heq];rfl,hR.app _⟩
    ·rw[if_pos (by simpa using hd)]at hY
     cases heq:(En.key L[k]==v.id.text)
     ·simp only[ad,↓Xn,↓Xo,↓Xg,↓Xd,↓Xe,↓Xf,Tryz.VΓ,Tryz.Γs,Xp,Xi,Nat.reduceAdd,Nat.reduceSub,Nat.reduceLT,Nat.reduceLeDiff,reduceIte,reduceCtorEq,Nat.reduceEqDiff,implies_true,forall_const,aa,av,beq_self_eq_true,bne_self_eq_false,Int.reduceBEq,Int.reduceBNe,Int.reduceLT,Int.reduceLE,l3,l4,l8,l29,l30,l31,ci,dp,af dp,pc,af pc,pv,af pv,dW,fh,fP,hex,ia,wi,aB,heq,g2,hd,zN9,zOd,zOb,zN8]
      refine⟨⟨by omega,by omega⟩,by rw[mJ];omega,ic,⟨by omega,by omega⟩,by rw[mJ];omega,aq (by kernel_rfl),jX,by omega,⟨k+1,l2,l6,l7,by rw[hY],rfl,by omega,hR.app _,Fi heq⟩,?_⟩
      rw[az (show lk 31 _=some (.int .i64 ((k+1:Nat):Int)) from rfl)];omega
     ·simp only[ad,↓Xn,↓Xo,↓Xg,↓Xd,↓Xe,↓Xf,Tryz.VΓ,Tryz.Γs,Xp,Xi,Nat.reduceAdd,Nat.reduceSub,Nat.reduceLT,Nat.reduceLeDiff,reduceIte,reduceCtorEq,Nat.reduceEqDiff,implies_true,forall_const,aa,av,beq_self_eq_true,bne_self_eq_false,Int.reduceBEq,Int.reduceBNe,Int.reduceLT,Int.reduceLE,l3,l4,l8,l29,l30,l31,ci,dp,af dp,pc,af pc,pv,af pv,dW,fh,fP,hex,ia,wi,aB,heq,g2,hd,zN9,zOd,zOb,zN8]
      refine⟨⟨by omega,by omega⟩,by rw[mJ];omega,ic,⟨by omega,by omega⟩,by rw[mJ];omega,aq (by kernel_rfl),jX,?_⟩
      refine hk' _ _ ?_
      exact⟨l2,l3,l4,l6,l7,by rw[hhit heq];rfl,hR.app _⟩
  ·have ci:decide ((k:Int)<(L.length:Int))=false:=by simpa using c
   obtain rfl:k=L.length:=by omega
   have hno2:dC En.key L v.id.text=false:=by
    rw[← Bool.not_eq_true,jP]
    rintro⟨y,hy,e⟩
    obtain⟨j,hj,rfl⟩:=List.mem_iff_getElem.1 hy
    exact gx j hj hj e
   simp only[ad,↓Xn,↓Xo,↓Xg,↓Xd,↓Xe,↓Xf,Tryz.VΓ,Tryz.Γs,Xp,Xi,Nat.reduceAdd,Nat.reduceSub,Nat.reduceLT,Nat.reduceLeDiff,reduceIte,reduceCtorEq,Nat.reduceEqDiff,implies_true,forall_const,aa,av,beq_self_eq_true,bne_self_eq_false,Int.reduceBEq,Int.reduceBNe,Int.reduceLT,Int.reduceLE,l3,l29,l30,l31,ci]
   refine hk' _ _ ?_
   exact⟨l2,l3,l4,l6,l7,by unfold kN;rw[hno2];exact l8,hR⟩
 rintro m5 ⟨t5,b5⟩ ⟨l2,l3,l4,l6,l7,l8,hR⟩
 simp only at l2 l3 l4 l6 l7 l8 hR
 obtain⟨PR,hPR⟩:∃ PR,PR=fO En.key v.id.text (dC En.key L v.id.text||decide ((L.length:Int)<cp)) (dS (oI L) L.length):=⟨_,rfl⟩
 rw[← hPR]at hLP
 refine bd 2400 (fun σ=>lk 2 σ.t=some (.int .u64 now)∧lk 3 σ.t=some (.p b.length 0)∧lk 4 σ.t=some (.p (b.length+1) 0)∧lk 6 σ.t=some (.p (b.length+2) 0)∧R1 b cp v x σ.b∧∃ x1,lk 7 σ.t=some x1∧fT σ.b x1 (dr PR L L.length) true∧∀ q n,x1=.o q n→b.length+2<q) ?_ (fun k' hk'=>?_)
 rotate_left
 ·have pc:=hR.c
  simp only[ad,↓Xn,↓Xo,↓Xg,↓Xd,↓Xe,↓Xf,Tryz.VΓ,Tryz.Γs,Xp,Xi,Nat.reduceAdd,Nat.reduceSub,Nat.reduceLT,Nat.reduceLeDiff,reduceIte,reduceCtorEq,Nat.reduceEqDiff,implies_true,forall_const,aa,av,beq_self_eq_true,bne_self_eq_false,Int.reduceBEq,Int.reduceBNe,Int.reduceLT,Int.reduceLE,l3,pc,eO]
  refine aM (fun σ=>∃ (k:Nat) (x1:SV),lk 2 σ.t=some (.int .u64 now)∧lk 3 σ.t=some (.p b.length 0)∧lk 4 σ.t=some (.p (b.length+1) 0)∧lk 6 σ.t=some (.p (b.length+2) 0)∧lk 7 σ.t=some x1∧lk 8 σ.t=some (.int .i64 (kN L v.id.text))∧lk 60 σ.t=some x∧lk 61 σ.t=some (.int .i64 L.length)∧lk 62 σ.t=some (.int .i64 k)∧k≤L.length∧R1 b cp v x σ.b∧fT σ.b x1 (dr PR L k) true∧∀ q n,x1=.o q n→b.length+2<q) (fun σ=>L.length - ja 62 σ) ⟨0,.aE,l2,l3,l4,l6,l7,l8,rfl,rfl,rfl,by omega,hR,.inl ⟨rfl,rfl⟩,fun q n h=>by cases h⟩ ?_
  clear l2 l3 l4 l6 l7 l8 hR
  rintro⟨t5,b5⟩ ⟨k,x1,l2,l3,l4,l6,l7,l8,l60,l61,l62,hk,hR,hE,zE⟩
  simp only at l2 l3 l4 l6 l7 l8 l60 l61 l62 hR hE
  rw[az l62]
  by_cases c:k<L.length
  ·have ci:decide ((k:Int)<(L.length:Int))=true:=by simpa using c
   obtain⟨q,rfl,hq⟩:∃ q,x=.o q L.length∧b[q]? = some (.own (L.flatMap enc) 43 14 L.length m):=by
    rcases h with⟨rfl,rfl⟩|h
    ·simp at c
    ·exact h
   have dp:=hR.kp.at hq
   have pc:=hR.c
   have pv:=hR.v
   have ho1:=hE.one
   have dW:=jg L k c
   have fh:(enc L[k]).length=14:=rfl
   have fP:(enc L[k]).take 14=enc L[k]:=zOc (by rw[fh];omega)
   have ia:(enc L[k])[2]? = some (.str (En.key L[k])):=rfl
   have wi:(cN v)[2]? = some (.str v.id.text):=rfl
   have jX:3≤(cN v).length:=by rw[C4];decide
   have ic:(enc L[k]).all one=true:=by
    have:=wW _ (zOa c)
    simp[enc,one]at this ⊢;exact this
   have hpd:PR k L[k]=((En.key L[k] != v.id.text)&&((kN L v.id.text==-2)||decide ((L.length:Int)<cp)||((k:Int) != kN L v.id.text))):=by
    rw[hPR];unfold fO kN
    cases hh:dC En.key L v.id.text
    ·have bn:(dS (oI L) L.length==-2)=false:=by
      rw[beq_eq_false_iff_ne];unfold dS;split <;> omega
     simp[bn]
    ·simp
   have ym:=zz PR L k
   have hb5:b.length+2<b5.length:=(zN7.1 hR.o).1
   cases d1:(En.key L[k] != v.id.text)
   ·have mP:PR k L[k]=false:=by rw[hpd];simp[d1]
    simp only[ad,↓Xn,↓Xo,↓Xg,↓Xd,↓Xe,↓Xf,Tryz.VΓ,Tryz.Γs,Xp,Xi,Nat.reduceAdd,Nat.reduceSub,Nat.reduceLT,Nat.reduceLeDiff,reduceIte,reduceCtorEq,Nat.reduceEqDiff,implies_true,forall_const,aa,av,beq_self_eq_true,bne_self_eq_false,Int.reduceBEq,Int.reduceBNe,Int.reduceLT,Int.reduceLE,l3,l4,l7,l8,l60,l61,l62,ci,dp,dW,fh,fP,ia,wi,zN9,zOd,zOb,zN8,pc,af pc,pv,af pv,eO,d1]
    refine⟨⟨by omega,by omega⟩,by rw[aT];omega,ic,jX,by omega,⟨k+1,_,l2,l6,rfl,rfl,by omega,hR.app _,by rw[ya c mP];exact hE.kp ((Kp.refl _).app _),zE⟩,?_⟩
    rw[az (show lk 62 _=some (.int .i64 ((k+1:Nat):Int)) from rfl)];omega
   ·cases d2:(kN L v.id.text==-2)
    ·cases d3:decide ((L.length:Int)<cp)
     ·cases d4:((k:Int) != kN L v.id.text)
      ·have mP:PR k L[k]=false:=by rw[hpd];simp[d1,d2,d3,d4]
       simp only[ad,↓Xn,↓Xo,↓Xg,↓Xd,↓Xe,↓Xf,Tryz.VΓ,Tryz.Γs,Xp,Xi,Nat.reduceAdd,Nat.reduceSub,Nat.reduceLT,Nat.reduceLeDiff,reduceIte,reduceCtorEq,Nat.reduceEqDiff,implies_true,forall_const,aa,av,beq_self_eq_true,bne_self_eq_false,Int.reduceBEq,Int.reduceBNe,Int.reduceLT,Int.reduceLE,l3,l4,l7,l8,l60,l61,l62,ci,dp,dW,fh,fP,ia,wi,zN9,zOd,zOb,zN8,pc,af pc,pv,af pv,eO,d1,d2,d3,d4]
       refine⟨⟨by omega,by omega⟩,by rw[aT];omega,ic,jX,by omega,⟨k+1,_,l2,l6,rfl,rfl,by omega,hR.app _,by rw[ya c mP];exact hE.kp ((Kp.refl _).app _),zE⟩,?_⟩
       rw[az (show lk 62 _=some (.int .i64 ((k+1:Nat):Int)) from rfl)];omega
      ·have mP:PR k L[k]=true:=by rw[hpd];simp[d1,d2,d3,d4]
       rcases hE with⟨rfl,Ah⟩|⟨q3,rfl,pM⟩
       ·simp only[ad,↓Xn,↓Xo,↓Xg,↓Xd,↓Xe,↓Xf,Tryz.VΓ,Tryz.Γs,Xp,Xi,Nat.reduceAdd,Nat.reduceSub,Nat.reduceLT,Nat.reduceLeDiff,reduceIte,reduceCtorEq,Nat.reduceEqDiff,implies_true,forall_const,aa,av,beq_self_eq_true,bne_self_eq_false,Int.reduceBEq,Int.reduceBNe,Int.reduceLT,Int.reduceLE,l3,l4,l7,l8,l60,l61,l62,ci,dp,dW,fh,fP,ia,wi,zN9,zOd,zOb,zN8,pc,af pc,pv,af pv,eO,d1,d2,d3,d4]
        have e1:dr PR L (k+1)=[L[k]]:=by rw[fG c mP,Ah];rfl
        refine⟨⟨by omega,by omega⟩,by rw[aT];omega,ic,jX,by decide,⟨ic,by decide,by decide⟩,by omega,⟨k+1,_,l2,l6,rfl,rfl,by omega,hR.app _,.inr ⟨b5.length+2,by rw[e1];rfl,by rw[e1,show [L[k]].flatMap enc=enc L[k] by simp];exact aZ (by simp) _ 2⟩,fun q n h=>by cases h;omega⟩,?_⟩
        rw[az (show lk 62 _=some (.int .i64 ((k+1:Nat):Int)) from rfl)];omega
       ·have pL:=(zN7.1 pM).1
        have Ef:∀ (l:List ax) Z,(b5++l).set q3 Z=b5.set q3 Z++l:=fun l Z=>bS pL l Z
        simp only[ad,↓Xn,↓Xo,↓Xg,↓Xd,↓Xe,↓Xf,Tryz.VΓ,Tryz.Γs,Xp,Xi,Nat.reduceAdd,Nat.reduceSub,Nat.reduceLT,Nat.reduceLeDiff,reduceIte,reduceCtorEq,Nat.reduceEqDiff,implies_true,forall_const,aa,av,beq_self_eq_true,bne_self_eq_false,Int.reduceBEq,Int.reduceBNe,Int.reduceLT,Int.reduceLE,l3,l4,l7,l8,l60,l61,l62,ci,dp,dW,fh,fP,ia,wi,zN9,zOd,zOb,zN8,pc,af pc,pv,af pv,eO,d1,d2,d3,d4,af pM,Ef]
        have e1:(dr PR L (k+1)).length=(dr PR L k).length+1:=by rw[fG c mP];simp
        have e2:(dr PR L (k+1)).flatMap enc=(dr PR L k).flatMap enc++enc L[k]:=by rw[fG c mP];simp
        refine⟨⟨by omega,by omega⟩,by rw[aT];omega,ic,jX,by decide,⟨ic,by unfold maxLen;omega,by omega⟩,by omega,⟨k+1,_,l2,l6,rfl,rfl,by omega,(hR.set (zE _ _ rfl) _).app _,.inr ⟨b5.length+2,by rw[e1],by rw[e1,e2];exact aZ (by simp) _ 2⟩,fun q n h=>by cases h;omega⟩,?_⟩
        rw[az (show lk 62 _=some (.int .i64 ((k+1:Nat):Int)) from rfl)];omega
     ·have mP:PR k L[k]=true:=by rw[hpd];simp[d1,d2,d3]
      rcases hE with⟨rfl,Ah⟩|⟨q3,rfl,pM⟩
      ·simp only[ad,↓Xn,↓Xo,↓Xg,↓Xd,↓Xe,↓Xf,Tryz.VΓ,Tryz.Γs,Xp,Xi,Nat.reduceAdd,Nat.reduceSub,Nat.reduceLT,Nat.reduceLeDiff,reduceIte,reduceCtorEq,Nat.reduceEqDiff,implies_true,forall_const,aa,av,beq_self_eq_true,bne_self_eq_false,Int.reduceBEq,Int.reduceBNe,Int.reduceLT,Int.reduceLE,l3,l4,l7,l8,l60,l61,l62,ci,dp,dW,fh,fP,ia,wi,zN9,zOd,zOb,zN8,pc,af pc,pv,af pv,eO,d1,d2,d3]
       have e1:dr PR L (k+1)=[L[k]]:=by rw[fG c mP,Ah];rfl
       refine⟨⟨by omega,by omega⟩,by rw[aT];omega,ic,jX,by decide,⟨ic,by decide,by decide⟩,by omega,⟨k+1,_,l2,l6,rfl,rfl,by omega,hR.app _,.inr ⟨b5.length+2,by rw[e1];rfl,by rw[e1,show [L[k]].flatMap enc=enc L[k] by simp];exact aZ (by simp) _ 2⟩,fun q n h=>by cases h;omega⟩,?_⟩
       rw[az (show lk 62 _=some (.int .i64 ((k+1:Nat):Int)) from rfl)];omega
      ·have pL:=(zN7.1 pM).1
       have Ef:∀ (l:List ax) Z,(b5++l).set q3 Z=b5.set q3 Z++l:=fun l Z=>bS pL l Z
       simp only[ad,↓Xn,↓Xo,↓Xg,↓Xd,↓Xe,↓Xf,Tryz.VΓ,Tryz.Γs,Xp,Xi,Nat.reduceAdd,Nat.reduceSub,Nat.reduceLT,Nat.reduceLeDiff,reduceIte,reduceCtorEq,Nat.reduceEqDiff,implies_true,forall_const,aa,av,beq_self_eq_true,bne_self_eq_false,Int.reduceBEq,Int.reduceBNe,Int.reduceLT,Int.reduceLE,l3,l4,l7,l8,l60,l61,l62,ci,dp,dW,fh,fP,ia,wi,zN9,zOd,zOb,zN8,pc,af pc,pv,af pv,eO,d1,d2,d3,af pM,Ef]
       have e1:(dr PR L (k+1)).length=(dr PR L k).length+1:=by rw[fG c mP];simp
       have e2:(dr PR L (k+1)).flatMap enc=(dr PR L k).flatMap enc++enc L[k]:=by rw[fG c mP];simp
       refine⟨⟨by omega,by omega⟩,by rw[aT];omega,ic,jX,by decide,⟨ic,by unfold maxLen;omega,by omega⟩,by omega,⟨k+1,_,l2,l6,rfl,rfl,by omega,(hR.set (zE _ _ rfl) _).app _,.inr ⟨b5.length+2,by rw[e1],by rw[e1,e2];exact aZ (by simp) _ 2⟩,fun q n h=>by cases h;omega⟩,?_⟩
       rw[az (show lk 62 _=some (.int .i64 ((k+1:Nat):Int)) from rfl)];omega
    ·have mP:PR k L[k]=true:=by rw[hpd];simp[d1,d2]
     rcases hE with⟨rfl,Ah⟩|⟨q3,rfl,pM⟩
     ·simp only[ad,↓Xn,↓Xo,↓Xg,↓Xd,↓Xe,↓Xf,Tryz.VΓ,Tryz.Γs,Xp,Xi,Nat.reduceAdd,Nat.reduceSub,Nat.reduceLT,Nat.reduceLeDiff,reduceIte,reduceCtorEq,Nat.reduceEqDiff,implies_true,forall_const,aa,av,beq_self_eq_true,bne_self_eq_false,Int.reduceBEq,Int.reduceBNe,Int.reduceLT,Int.reduceLE,l3,l4,l7,l8,l60,l61,l62,ci,dp,dW,fh,fP,ia,wi,zN9,zOd,zOb,zN8,pc,af pc,pv,af pv,eO,d1,d2]
      have e1:dr PR L (k+1)=[L[k]]:=by rw[fG c mP,Ah];rfl
      refine⟨⟨by omega,by omega⟩,by rw[aT];omega,ic,jX,by decide,⟨ic,by decide,by decide⟩,by omega,⟨k+1,_,l2,l6,rfl,rfl,by omega,hR.app _,.inr ⟨b5.length+2,by rw[e1];rfl,by rw[e1,show [L[k]].flatMap enc=enc L[k] by simp];exact aZ (by simp) _ 2⟩,fun q n h=>by cases h;omega⟩,?_⟩
      rw[az (show lk 62 _=some (.int .i64 ((k+1:Nat):Int)) from rfl)];omega
     ·have pL:=(zN7.1 pM).1
      have Ef:∀ (l:List ax) Z,(b5++l).set q3 Z=b5.set q3 Z++l:=fun l Z=>bS pL l Z
      simp only[ad,↓Xn,↓Xo,↓Xg,↓Xd,↓Xe,↓Xf,Tryz.VΓ,Tryz.Γs,Xp,Xi,Nat.reduceAdd,Nat.reduceSub,Nat.reduceLT,Nat.reduceLeDiff,reduceIte,reduceCtorEq,Nat.reduceEqDiff,implies_true,forall_const,aa,av,beq_self_eq_true,bne_self_eq_false,Int.reduceBEq,Int.reduceBNe,Int.reduceLT,Int.reduceLE,l3,l4,l7,l8,l60,l61,l62,ci,dp,dW,fh,fP,ia,wi,zN9,zOd,zOb,zN8,pc,af pc,pv,af pv,eO,d1,d2,af pM,Ef]
      have e1:(dr PR L (k+1)).length=(dr PR L k).length+1:=by rw[fG c mP];simp
      have e2:(dr PR L (k+1)).flatMap enc=(dr PR L k).flatMap enc++enc L[k]:=by rw[fG c mP];simp
      refine⟨⟨by omega,by omega⟩,by rw[aT];omega,ic,jX,by decide,⟨ic,by unfold maxLen;omega,by omega⟩,by omega,⟨k+1,_,l2,l6,rfl,rfl,by omega,(hR.set (zE _ _ rfl) _).app _,.inr ⟨b5.length+2,by rw[e1],by rw[e1,e2];exact aZ (by simp) _ 2⟩,fun q n h=>by cases h;omega⟩,?_⟩
      rw[az (show lk 62 _=some (.int .i64 ((k+1:Nat):Int)) from rfl)];omega
  ·have ci:decide ((k:Int)<(L.length:Int))=false:=by simpa using c
   obtain rfl:k=L.length:=by omega
   simp only[ad,↓Xn,↓Xo,↓Xg,↓Xd,↓Xe,↓Xf,Tryz.VΓ,Tryz.Γs,Xp,Xi,Nat.reduceAdd,Nat.reduceSub,Nat.reduceLT,Nat.reduceLeDiff,reduceIte,reduceCtorEq,Nat.reduceEqDiff,implies_true,forall_const,aa,av,beq_self_eq_true,bne_self_eq_false,Int.reduceBEq,Int.reduceBNe,Int.reduceLT,Int.reduceLE,l60,l61,l62,ci]
   refine hk' _ _ ?_
   exact⟨l2,l3,l4,l6,hR,x1,l7,hE,zE⟩
 rintro m6 ⟨t6,b6⟩ ⟨l2,l3,l4,l6,hR,x1,l7,hE,zE⟩
 simp only at l2 l3 l4 l6 l7 hR hE
 have hb6:b.length+2<b6.length:=(zN7.1 hR.o).1
 refine bd 2300 (fun σ=>lk 2 σ.t=some (.int .u64 now)∧lk 4 σ.t=some (.p (b.length+1) 0)∧lk 6 σ.t=some (.p (b.length+2) 0)∧lk 7 σ.t=some x1∧lk 13 σ.t=some (.p b6.length 0)∧σ.b=b6++[.cells [.int .i64 cp,.aE] 24 true]) ?_ (fun k' hk'=>?_)
 rotate_left
 ·have pc:=hR.c
  simp only[ad,↓Xn,↓Xo,↓Xg,↓Xd,↓Xe,↓Xf,Tryz.VΓ,Tryz.Γs,Xp,Xi,Nat.reduceAdd,Nat.reduceSub,Nat.reduceLT,Nat.reduceLeDiff,reduceIte,reduceCtorEq,Nat.reduceEqDiff,implies_true,forall_const,aa,av,beq_self_eq_true,bne_self_eq_false,Int.reduceBEq,Int.reduceBNe,Int.reduceLT,Int.reduceLE,l3,pc]
  refine hk' _ _ ?_
  exact⟨l2,l4,l6,l7,rfl,rfl⟩
 rintro m7 ⟨t7,b7⟩ ⟨l2,l4,l6,l7,l13,rfl⟩
 simp only at l2 l4 l6 l7 l13
 refine bd 2200 (fun σ=>lk 4 σ.t=some (.p (b.length+1) 0)∧lk 6 σ.t=some (.p (b.length+2) 0)∧lk 7 σ.t=some x1∧lk 13 σ.t=some (.p b6.length 0)∧lk 14 σ.t=some (.p (b6.length+1) 0)∧σ.b=b6++[.cells [.int .i64 cp,.aE] 24 true,.cells (enc (jK v now)) 43 true]) ?_ (fun k' hk'=>?_)
 rotate_left
 ·have pv:=hR.v
  have B0:cN v=[.int .i64 v.err,.int .i64 v.id.kind,.str v.id.text,.str v.id.host,.int .i64 v.id.port,.int .i64 v.bE.kind,.str v.bE.text,.str v.bE.host,.int .i64 v.bE.port,.bool v.store,.int .u64 v.df,v.tr]:=rfl
  rw[B0]at pv
  have hne1:¬ b.length+1=b6.length+1:=by omega
  simp only[ad,↓Xn,↓Xo,↓Xg,↓Xd,↓Xe,↓Xf,Tryz.VΓ,Tryz.Γs,Xp,Xi,Nat.reduceAdd,Nat.reduceSub,Nat.reduceLT,Nat.reduceLeDiff,reduceIte,reduceCtorEq,Nat.reduceEqDiff,implies_true,forall_const,aa,av,beq_self_eq_true,bne_self_eq_false,Int.reduceBEq,Int.reduceBNe,Int.reduceLT,Int.reduceLE,l2,l4,pv,af pv,Fc]
  refine aU qR ?_
  simp only[ad,↓Xn,↓Xo,↓Xg,↓Xd,↓Xe,↓Xf,Tryz.VΓ,Tryz.Γs,Xp,Xi,Nat.reduceAdd,Nat.reduceSub,Nat.reduceLT,Nat.reduceLeDiff,reduceIte,reduceCtorEq,Nat.reduceEqDiff,implies_true,forall_const,aa,av,beq_self_eq_true,bne_self_eq_false,Int.reduceBEq,Int.reduceBNe,Int.reduceLT,Int.reduceLE,l2,l4,pv,af pv,Fc]
  refine⟨(by
   refine fg (fun n=>if n=b6.length+1 then 0 else 1) ?_
   simp only[zOj,zOk,fX,kX,reduceIte,hne1]
   exact aq (by kernel_rfl)),?_⟩
  refine hk' _ _ ?_
  exact⟨l4,l6,l7,l13,rfl,rfl⟩
 rintro m8 ⟨t8,b8⟩ ⟨l4,l6,l7,l13,l14,rfl⟩
 simp only at l4 l6 l7 l13 l14
 have hE':=hE
 have hqb':=zE
 clear hE zE
 obtain⟨KL,hKL⟩:∃ KL,KL=dr PR L L.length:=⟨_,rfl⟩
 rw[← hKL]at hE' hLP
 have hKl:KL.length≤1000000:=by rw[hKL];have:=zz PR L L.length;omega
 have hK1:∀ e∈KL,one e.v.tr=true:=fun e he=>wW e (BO _ (hKL ▸ he))
 have hR0:R2 b b6.length cp v now x1 KL .aE [] (b6++[.cells [.int .i64 cp,.aE] 24 true,.cells (enc (jK v now)) 43 true]):=⟨hb6,hR.kp.app _,af hR.v _,af hR.o _,aZ rfl _ 0,aZ rfl _ 1,hE'.kp ((Kp.refl _).app _),.inl ⟨rfl,rfl⟩,fun q k e=>⟨hqb' q k e,by subst e;rcases hE' with⟨h,-⟩|⟨q',h,hq'⟩ <;> cases h;exact(zN7.1 hq').1⟩,fun q k e=>by cases e⟩
 have hlen1:∀ e,mc (.slice e) x1=some (.int .i64 KL.length):=fun e=>by
  rcases hE' with⟨rfl,h0⟩|⟨q,rfl,-⟩
  ·rw[h0];rfl
  ·rfl
 have ho1:=hE'.one
 generalize hn:b6.length=n at *
 generalize hB:b6++[.cells [.int .i64 cp,.aE] 24 true,.cells (enc (jK v now)) 43 true]=b8 at hR0 ⊢
 clear hB hR hE' hqb' hn hb6 hKL hPR qR ho eO hw h
 have wi:(cN v)[2]? = some (.str v.id.text):=rfl
 have jX:3≤(cN v).length:=by rw[C4];decide
 refine bd 2100 (fun σ=>lk 4 σ.t=some (.p (b.length+1) 0)∧lk 6 σ.t=some (.p (b.length+2) 0)∧lk 7 σ.t=some x1∧lk 13 σ.t=some (.p n 0)∧lk 14 σ.t=some (.p (n+1) 0)∧∃ x2,R2 b n cp v now x1 KL x2 (KL.filter fun y=>blt y.key v.id.text) σ.b) ?_ (fun k' hk'=>?_)
 rotate_left
 ·simp only[ad,↓Xn,↓Xo,↓Xg,↓Xd,↓Xe,↓Xf,Tryz.VΓ,Tryz.Γs,Xp,Xi,Nat.reduceAdd,Nat.reduceSub,Nat.reduceLT,Nat.reduceLeDiff,reduceIte,reduceCtorEq,Nat.reduceEqDiff,implies_true,forall_const,aa,av,beq_self_eq_true,bne_self_eq_false,Int.reduceBEq,Int.reduceBNe,Int.reduceLT,Int.reduceLE,l7,hlen1,ho1]
  refine aM (fun σ=>∃ (k:Nat) (x2:SV),lk 4 σ.t=some (.p (b.length+1) 0)∧lk 6 σ.t=some (.p (b.length+2) 0)∧lk 7 σ.t=some x1∧lk 13 σ.t=some (.p n 0)∧lk 14 σ.t=some (.p (n+1) 0)∧lk 108 σ.t=some x1∧lk 109 σ.t=some (.int .i64 KL.length)∧lk 110 σ.t=some (.int .i64 k)∧k≤KL.length∧R2 b n cp v now x1 KL x2 ((KL.take k).filter fun y=>blt y.key v.id.text) σ.b) (fun σ=>KL.length - ja 110 σ) ⟨0,.aE,l4,l6,l7,l13,l14,rfl,rfl,rfl,by omega,hR0⟩ ?_
  clear l4 l6 l7 l13 l14 hR0
  rintro⟨t5,b5⟩ ⟨k,x2,l4,l6,l7,l13,l14,l108,l109,l110,hk,hR⟩
  simp only at l4 l6 l7 l13 l14 l108 l109 l110 hR
  rw[az l110]
  by_cases c:k<KL.length
  ·have ci:decide ((k:Int)<(KL.length:Int))=true:=by simpa using c
   obtain⟨q,rfl,dp⟩:∃ q,x1=.o q KL.length∧b5[q]? = some (.own (KL.flatMap enc) 43 14 KL.length true):=by
    rcases hR.h1 with⟨rfl,h0⟩|h
    ·rw[h0]at c;simp at c
    ·exact h
   have pu:=hR.u
   have pv:=hR.vv
   have aB:=hR.lt
   have dW:=jg KL k c
   have fh:(enc KL[k]).length=14:=rfl
   have fP:(enc KL[k]).take 14=enc KL[k]:=zOc (by rw[fh];omega)
   have ia:(enc KL[k])[2]? = some (.str (En.key KL[k])):=rfl
   have ic:(enc KL[k]).all one=true:=by
    have:=hK1 _ (zOa c)
    simp[enc,one]at this ⊢;exact this
   have hn5:n<b5.length:=(zN7.1 pu).1
   cases hd:Op.bytesLess (En.key KL[k]) v.id.text
   ·simp only[ad,↓Xn,↓Xo,↓Xg,↓Xd,↓Xe,↓Xf,Tryz.VΓ,Tryz.Γs,Xp,Xi,Nat.reduceAdd,Nat.reduceSub,Nat.reduceLT,Nat.reduceLeDiff,reduceIte,reduceCtorEq,Nat.reduceEqDiff,implies_true,forall_const,aa,av,beq_self_eq_true,bne_self_eq_false,Int.reduceBEq,Int.reduceBNe,Int.reduceLT,Int.reduceLE,l4,l6,l7,l13,l14,l108,l109,l110,ci,dp,dW,fh,fP,ia,wi,pv,af pv,hd,zN9,zOd,zOb,zN8]
    refine⟨⟨by omega,by omega⟩,by rw[aT];omega,ic,jX,by omega,⟨k+1,x2,rfl,by omega,by rw[Cq c hd];exact hR.app _⟩,?_⟩
    rw[az (show lk 110 _=some (.int .i64 ((k+1:Nat):Int)) from rfl)];omega
   ·have e2:((KL.take (k+1)).filter fun y=>blt y.key v.id.text)=((KL.take k).filter fun y=>blt y.key v.id.text)++[KL[k]]:=Cr c hd
    have mI:((KL.take k).filter fun y=>blt y.key v.id.text).length≤k:=Nat.le_trans (zOl _ _) (by rw[List.length_take];omega)
    rcases hR.h2 with⟨rfl,Ah⟩|⟨q3,rfl,pM⟩
    ·have eN:∀ (l:List ax) Z,(b5++l).set n Z=b5.set n Z++l:=fun l Z=>bS hn5 l Z
     simp only[ad,↓Xn,↓Xo,↓Xg,↓Xd,↓Xe,↓Xf,Tryz.VΓ,Tryz.Γs,Xp,Xi,Nat.reduceAdd,Nat.reduceSub,Nat.reduceLT,Nat.reduceLeDiff,reduceIte,reduceCtorEq,Nat.reduceEqDiff,implies_true,forall_const,aa,av,beq_self_eq_true,bne_self_eq_false,Int.reduceBEq,Int.reduceBNe,Int.reduceLT,Int.reduceLE,l4,l6,l7,l13,l14,l108,l109,l110,ci,dp,dW,fh,fP,ia,wi,pv,af pv,hd,pu,af pu,eN,zN9,zOd,zOb,zN8]
     rw[Ah,List.nil_append]at e2
     refine⟨⟨by omega,by omega⟩,by rw[aT];omega,ic,jX,by decide,⟨ic,by decide,by decide⟩,by omega,⟨k+1,_,rfl,by omega,by rw[e2];exact hR.new (M':=[KL[k]]) (j:=2) (by simp) (by simp) (by simp)⟩,?_⟩
     rw[az (show lk 110 _=some (.int .i64 ((k+1:Nat):Int)) from rfl)];omega
    ·have pL:=(zN7.1 pM).1
     have hq3n:=hR.q2 _ _ rfl
     have Ef:∀ (l:List ax) Z,(b5++l).set q3 Z=b5.set q3 Z++l:=fun l Z=>bS pL l Z
     have fY:∀ Y (l:List ax) Z,(b5.set q3 Y++l).set n Z=(b5.set q3 Y).set n Z++l:=fun Y l Z=>bS (by rw[zOf];omega) l Z
     have Ee:∀ Y,(b5.set q3 Y)[n]? = _:=fun Y=>aI pu (by omega) Y
     simp only[ad,↓Xn,↓Xo,↓Xg,↓Xd,↓Xe,↓Xf,Tryz.VΓ,Tryz.Γs,Xp,Xi,Nat.reduceAdd,Nat.reduceSub,Nat.reduceLT,Nat.reduceLeDiff,reduceIte,reduceCtorEq,Nat.reduceEqDiff,implies_true,forall_const,aa,av,beq_self_eq_true,bne_self_eq_false,Int.reduceBEq,Int.reduceBNe,Int.reduceLT,Int.reduceLE,l4,l6,l7,l13,l14,l108,l109,l110,ci,dp,dW,fh,fP,ia,wi,pv,af pv,hd,pu,af pu,af pM,Ef,fY,af (Ee _),zN9,zOd,zOb,zN8]
     refine⟨⟨by omega,by omega⟩,by rw[aT];omega,ic,jX,by decide,⟨ic,by unfold maxLen;omega,by omega⟩,by omega,⟨k+1,_,rfl,by omega,by rw[e2];exact hR.Ix (by simp) (by simp)⟩,?_⟩
     rw[az (show lk 110 _=some (.int .i64 ((k+1:Nat):Int)) from rfl)];omega
  ·have ci:decide ((k:Int)<(KL.length:Int))=false:=by simpa using c
   obtain rfl:k=KL.length:=by omega
   rw[List.take_length]at hR
   simp only[ad,↓Xn,↓Xo,↓Xg,↓Xd,↓Xe,↓Xf,Tryz.VΓ,Tryz.Γs,Xp,Xi,Nat.reduceAdd,Nat.reduceSub,Nat.reduceLT,Nat.reduceLeDiff,reduceIte,reduceCtorEq,Nat.reduceEqDiff,implies_true,forall_const,aa,av,beq_self_eq_true,bne_self_eq_false,Int.reduceBEq,Int.reduceBNe,Int.reduceLT,Int.reduceLE,l108,l109,l110,ci]
   refine hk' _ _ ?_
   exact⟨l4,l6,l7,l13,l14,x2,hR⟩
 rintro m9 ⟨t9,b9⟩ ⟨l4,l6,l7,l13,l14,x2,hR⟩
 simp only at l4 l6 l7 l13 l14 hR
 clear hR0
 obtain⟨F,hF⟩:∃ F,F=KL.filter fun y=>blt y.key v.id.text:=⟨_,rfl⟩
 have hFl:F.length≤KL.length:=by rw[hF];exact zOl _ _
 rw[← hF]at hR
 have h1m:(enc (jK v now)).all one=true:=by
  simp[enc,jK,one]at Fc ⊢;exact Fc
 have hem:(enc (jK v now)).length=14:=rfl
 have htm:(enc (jK v now)).take 14=enc (jK v now):=zOc (by rw[hem];omega)
 refine bd 2000 (fun σ=>lk 4 σ.t=some (.p (b.length+1) 0)∧lk 6 σ.t=some (.p (b.length+2) 0)∧lk 7 σ.t=some x1∧lk 13 σ.t=some (.p n 0)∧∃ x2,R2 b n cp v now x1 KL x2 (F++[jK v now]) σ.b) ?_ (fun k' hk'=>?_)
 rotate_left
 ·have pu:=hR.u
  have pe:=hR.e
  have hn5:n<b9.length:=(zN7.1 pu).1
  rcases hR.h2 with⟨rfl,Ah⟩|⟨q3,rfl,pM⟩
  ·have eN:∀ (l:List ax) Z,(b9++l).set n Z=b9.set n Z++l:=fun l Z=>bS hn5 l Z
   simp only[ad,↓Xn,↓Xo,↓Xg,↓Xd,↓Xe,↓Xf,Tryz.VΓ,Tryz.Γs,Xp,Xi,Nat.reduceAdd,Nat.reduceSub,Nat.reduceLT,Nat.reduceLeDiff,reduceIte,reduceCtorEq,Nat.reduceEqDiff,implies_true,forall_const,aa,av,beq_self_eq_true,bne_self_eq_false,Int.reduceBEq,Int.reduceBNe,Int.reduceLT,Int.reduceLE,l4,l6,l7,l13,l14,hem,htm,pe,af pe,pu,af pu,eN,zN8]
   refine⟨by decide,⟨h1m,by decide,by decide⟩,?_⟩
   refine hk' _ _ ?_
   exact⟨l4,l6,l7,l13,_,by rw[Ah];exact hR.new (M':=[jK v now]) (j:=1) (by simp) (by simp) (by simp)⟩
  ·have pL:=(zN7.1 pM).1
   have hq3n:=hR.q2 _ _ rfl
   have Ef:∀ (l:List ax) Z,(b9++l).set q3 Z=b9.set q3 Z++l:=fun l Z=>bS pL l Z
   have fY:∀ Y (l:List ax) Z,(b9.set q3 Y++l).set n Z=(b9.set q3 Y).set n Z++l:=fun Y l Z=>bS (by rw[zOf];omega) l Z
   have Ee:∀ Y,(b9.set q3 Y)[n]? = _:=fun Y=>aI pu (by omega) Y
   simp only[ad,↓Xn,↓Xo,↓Xg,↓Xd,↓Xe,↓Xf,Tryz.VΓ,Tryz.Γs,Xp,Xi,Nat.reduceAdd,Nat.reduceSub,Nat.reduceLT,Nat.reduceLeDiff,reduceIte,reduceCtorEq,Nat.reduceEqDiff,implies_true,forall_const,aa,av,beq_self_eq_true,bne_self_eq_false,Int.reduceBEq,Int.reduceBNe,Int.reduceLT,Int.reduceLE,l4,l6,l7,l13,l14,hem,htm,pe,af pe,pu,af pu,af pM,Ef,fY,af (Ee _),zN8]
   refine⟨by decide,⟨h1m,by unfold maxLen;omega,by omega⟩,?_⟩
   refine hk' _ _ ?_
   exact⟨l4,l6,l7,l13,_,hR.Ix (by simp) (by simp)⟩
 clear hR
 rintro m10 ⟨t10,b10⟩ ⟨l4,l6,l7,l13,x2,hR⟩
 simp only at l4 l6 l7 l13 hR
 obtain⟨G,hG⟩:∃ G,G=F++[jK v now]:=⟨_,rfl⟩
 have hGl:G.length≤KL.length+1:=by rw[hG];simp;omega
 rw[← hG]at hR
 have hLP2:LP=G++KL.filter fun y=>blt v.id.text y.key:=by rw[hLP,hG,hF];rfl
 refine bd 1900 (fun σ=>lk 6 σ.t=some (.p (b.length+2) 0)∧lk 13 σ.t=some (.p n 0)∧∃ x2,R2 b n cp v now x1 KL x2 LP σ.b) ?_ (fun k' hk'=>?_)
 rotate_left
 ·simp only[ad,↓Xn,↓Xo,↓Xg,↓Xd,↓Xe,↓Xf,Tryz.VΓ,Tryz.Γs,Xp,Xi,Nat.reduceAdd,Nat.reduceSub,Nat.reduceLT,Nat.reduceLeDiff,reduceIte,reduceCtorEq,Nat.reduceEqDiff,implies_true,forall_const,aa,av,beq_self_eq_true,bne_self_eq_false,Int.reduceBEq,Int.reduceBNe,Int.reduceLT,Int.reduceLE,l7,hlen1,ho1]
  refine aM (fun σ=>∃ (k:Nat) (x2:SV),lk 4 σ.t=some (.p (b.length+1) 0)∧lk 6 σ.t=some (.p (b.length+2) 0)∧lk 7 σ.t=some x1∧lk 13 σ.t=some (.p n 0)∧lk 135 σ.t=some x1∧lk 136 σ.t=some (.int .i64 KL.length)∧lk 137 σ.t=some (.int .i64 k)∧k≤KL.length∧R2 b n cp v now x1 KL x2 (G++(KL.take k).filter fun y=>blt v.id.text y.key) σ.b) (fun σ=>KL.length - ja 137 σ) ⟨0,x2,l4,l6,l7,l13,rfl,rfl,rfl,by omega,by simpa using hR⟩ ?_
  clear l4 l6 l7 l13 hR
  rintro⟨t5,b5⟩ ⟨k,x2,l4,l6,l7,l13,l135,l136,l137,hk,hR⟩
  simp only at l4 l6 l7 l13 l135 l136 l137 hR
  rw[az l137]
  by_cases c:k<KL.length
  ·have ci:decide ((k:Int)<(KL.length:Int))=true:=by simpa using c
   obtain⟨q,rfl,dp⟩:∃ q,x1=.o q KL.length∧b5[q]? = some (.own (KL.flatMap enc) 43 14 KL.length true):=by
    rcases hR.h1 with⟨rfl,h0⟩|h
    ·rw[h0]at c;simp at c
    ·exact h
   have pu:=hR.u
   have pv:=hR.vv
   have aB:=hR.lt
   have dW:=jg KL k c
   have fh:(enc KL[k]).length=14:=rfl
   have fP:(enc KL[k]).take 14=enc KL[k]:=zOc (by rw[fh];omega)
   have ia:(enc KL[k])[2]? = some (.str (En.key KL[k])):=rfl
   have ic:(enc KL[k]).all one=true:=by
    have:=hK1 _ (zOa c)
    simp[enc,one]at this ⊢;exact this
   have hn5:n<b5.length:=(zN7.1 pu).1
   have oM:(!(Op.bytesLess (En.key KL[k]) v.id.text||En.key KL[k]==v.id.text))=blt v.id.text (En.key KL[k]):=blt_gt _ _
   cases hd:blt v.id.text (En.key KL[k]) <;> rw[hd]at oM
   ·simp only[ad,↓Xn,↓Xo,↓Xg,↓Xd,↓Xe,↓Xf,Tryz.VΓ,Tryz.Γs,Xp,Xi,Nat.reduceAdd,Nat.reduceSub,Nat.reduceLT,Nat.reduceLeDiff,reduceIte,reduceCtorEq,Nat.reduceEqDiff,implies_true,forall_const,aa,av,beq_self_eq_true,bne_self_eq_false,Int.reduceBEq,Int.reduceBNe,Int.reduceLT,Int.reduceLE,l4,l6,l7,l13,l135,l136,l137,ci,dp,dW,fh,fP,ia,wi,pv,af pv,oM,zN9,zOd,zOb,zN8]
    refine⟨⟨by omega,by omega⟩,by rw[aT];omega,ic,jX,by omega,⟨k+1,x2,rfl,by omega,by rw[Cq c hd];exact hR.app _⟩,?_⟩
    rw[az (show lk 137 _=some (.int .i64 ((k+1:Nat):Int)) from rfl)];omega
   ·obtain⟨M0,hM0⟩:∃ M0,M0=(G++(KL.take k).filter fun y=>blt v.id.text y.key):=⟨_,rfl⟩
    have e2:(G++(KL.take (k+1)).filter fun y=>blt v.id.text y.key)=M0++[KL[k]]:=by rw[hM0,Cr c hd,zOi]
    have mI:M0.length≤k+KL.length+1:=by
     have:((KL.take k).filter fun y=>blt v.id.text y.key).length≤k:=Nat.le_trans (zOl _ _) (by rw[List.length_take];omega)
     rw[hM0,List.length_append];omega
    rw[← hM0]at hR
    clear hM0
    rcases hR.h2 with⟨rfl,Ah⟩|⟨q3,rfl,pM⟩
    ·have eN:∀ (l:List ax) Z,(b5++l).set n Z=b5.set n Z++l:=fun l Z=>bS hn5 l Z
     simp only[ad,↓Xn,↓Xo,↓Xg,↓Xd,↓Xe,↓Xf,Tryz.VΓ,Tryz.Γs,Xp,Xi,Nat.reduceAdd,Nat.reduceSub,Nat.reduceLT,Nat.reduceLeDiff,reduceIte,reduceCtorEq,Nat.reduceEqDiff,implies_true,forall_const,aa,av,beq_self_eq_true,bne_self_eq_false,Int.reduceBEq,Int.reduceBNe,Int.reduceLT,Int.reduceLE,l4,l6,l7,l13,l135,l136,l137,ci,dp,dW,fh,fP,ia,wi,pv,af pv,oM,pu,af pu,eN,zN9,zOd,zOb,zN8]
     rw[Ah,List.nil_append]at e2
     refine⟨⟨by omega,by omega⟩,by rw[aT];omega,ic,jX,by decide,⟨ic,by decide,by decide⟩,by omega,⟨k+1,_,rfl,by omega,by rw[e2];exact hR.new (M':=[KL[k]]) (j:=2) (by simp) (by simp) (by simp)⟩,?_⟩
     rw[az (show lk 137 _=some (.int .i64 ((k+1:Nat):Int)) from rfl)];omega
    ·have pL:=(zN7.1 pM).1
     have hq3n:=hR.q2 _ _ rfl
     have Ef:∀ (l:List ax) Z,(b5++l).set q3 Z=b5.set q3 Z++l:=fun l Z=>bS pL l Z
     have fY:∀ Y (l:List ax) Z,(b5.set q3 Y++l).set n Z=(b5.set q3 Y).set n Z++l:=fun Y l Z=>bS (by rw[zOf];omega) l Z
     have Ee:∀ Y,(b5.set q3 Y)[n]? = _:=fun Y=>aI pu (by omega) Y
     simp only[ad,↓Xn,↓Xo,↓Xg,↓Xd,↓Xe,↓Xf,Tryz.VΓ,Tryz.Γs,Xp,Xi,Nat.reduceAdd,Nat.reduceSub,Nat.reduceLT,Nat.reduceLeDiff,reduceIte,reduceCtorEq,Nat.reduceEqDiff,implies_true,forall_const,aa,av,beq_self_eq_true,bne_self_eq_false,Int.reduceBEq,Int.reduceBNe,Int.reduceLT,Int.reduceLE,l4,l6,l7,l13,l135,l136,l137,ci,dp,dW,fh,fP,ia,wi,pv,af pv,oM,pu,af pu,af pM,Ef,fY,af (Ee _),zN9,zOd,zOb,zN8]
     refine⟨⟨by omega,by omega⟩,by rw[aT];omega,ic,jX,by decide,⟨ic,by unfold maxLen;omega,by omega⟩,by omega,⟨k+1,_,rfl,by omega,by rw[e2];exact hR.Ix (by simp) (by simp)⟩,?_⟩
     rw[az (show lk 137 _=some (.int .i64 ((k+1:Nat):Int)) from rfl)];omega
  ·have ci:decide ((k:Int)<(KL.length:Int))=false:=by simpa using c
   obtain rfl:k=KL.length:=by omega
   rw[List.take_length,← hLP2]at hR
   simp only[ad,↓Xn,↓Xo,↓Xg,↓Xd,↓Xe,↓Xf,Tryz.VΓ,Tryz.Γs,Xp,Xi,Nat.reduceAdd,Nat.reduceSub,Nat.reduceLT,Nat.reduceLeDiff,reduceIte,reduceCtorEq,Nat.reduceEqDiff,implies_true,forall_const,aa,av,beq_self_eq_true,bne_self_eq_false,Int.reduceBEq,Int.reduceBNe,Int.reduceLT,Int.reduceLE,l135,l136,l137,ci]
   refine hk' _ _ ?_
   exact⟨l6,l13,x2,hR⟩
 rintro m11 ⟨t11,b11⟩ ⟨l6,l13,x3,hR⟩
 simp only at l6 l13 hR
 have pu:=hR.u
 have po:=hR.o
 have ho3:=hR.h2.one
 have aB:=hR.lt
 have hs:∀ X,(b11.set (b.length+2) X)[b.length+2]? = some X:=fun X=>zOe (zN7.1 po).1
 simp only[ad,↓Xn,↓Xo,↓Xg,↓Xd,↓Xe,↓Xf,Tryz.VΓ,Tryz.Γs,Xp,Xi,Nat.reduceAdd,Nat.reduceSub,Nat.reduceLT,Nat.reduceLeDiff,reduceIte,reduceCtorEq,Nat.reduceEqDiff,implies_true,forall_const,aa,av,beq_self_eq_true,bne_self_eq_false,Int.reduceBEq,Int.reduceBNe,Int.reduceLT,Int.reduceLE,l6,l13,pu,po,ho3,hs]
 exact⟨hR.kp.set (by omega) _,x3,true,rfl,hR.h2.setN (fun q k e=>by have:=hR.q2 q k e;omega) _,.inl rfl⟩
end
open Go Vc Go.RowKit Wf
theorem u64w {n:Int}(h0:0≤n)(h:n<18446744073709551616):IntKind.u64.wrap n=n:=by
 simp only[IntKind.wrap,IntKind.signed,IntKind.bits];simp;omega
theorem u64o {n:Int}(h0:18446744073709551616≤n)(h:n<36893488147419103232):IntKind.u64.wrap n=n - 18446744073709551616:=by
 simp only[IntKind.wrap,IntKind.signed,IntKind.bits];simp;omega
theorem xL {a b:Int}(ha:0≤a∧a<18446744073709551616)(hb:0≤b∧b<18446744073709551616):PC Tryz.V 31 [.int .u64 a,.int .u64 b] (.int .u64 (kf a b)):=by
 have hw:=u64w (n:=18446744073709551615 - b) (by omega) (by omega)
 by_cases h:a+b<18446744073709551616
 ·have e1:=u64w (n:=a+b) (by omega) h
  have e2:kf a b=a+b:=by unfold kf;rw[e1,if_neg (by omega)]
  have hd:decide (18446744073709551615 - b<a)=false:=by simp;omega
  rw[e2]
  refine aQ 3000 Tryz.func31 rfl Tryz.ntmps31 Tryz.results31 Tryz.call31 (by simp) (by simp[flat,flat.ai]) (by simp[flat,flat.ai]) ?_
  simp only[ad,↓Xn,↓Xo,↓Xg,↓Xd,↓Xe,↓Xf,Tryz.VΓ,Tryz.Γs,Xp,Xi,Nat.reduceAdd,Nat.reduceSub,Nat.reduceLT,Nat.reduceLeDiff,reduceIte,reduceCtorEq,Nat.reduceEqDiff,implies_true,forall_const,aa,beq_self_eq_true,bne_self_eq_false,Int.reduceBEq,Int.reduceBNe,Int.reduceLT,Int.reduceLE,hw,hd,e1]
 ·have e1:=u64o (n:=a+b) (by omega) (by omega)
  have e2:kf a b=18446744073709551615:=by unfold kf;rw[e1,if_pos (by omega)]
  have hd:decide (18446744073709551615 - b<a)=true:=by simp;omega
  rw[e2]
  refine aQ 3000 Tryz.func31 rfl Tryz.ntmps31 Tryz.results31 Tryz.call31 (by simp) (by simp[flat,flat.ai]) (by simp[flat,flat.ai]) ?_
  simp only[ad,↓Xn,↓Xo,↓Xg,↓Xd,↓Xe,↓Xf,Tryz.VΓ,Tryz.Γs,Xp,Xi,Nat.reduceAdd,Nat.reduceSub,Nat.reduceLT,Nat.reduceLeDiff,reduceIte,reduceCtorEq,Nat.reduceEqDiff,implies_true,forall_const,aa,beq_self_eq_true,bne_self_eq_false,Int.reduceBEq,Int.reduceBNe,Int.reduceLT,Int.reduceLE,hw,hd,e1]
def wb (c:Int):List SV:=[.int .u8 c]
theorem H4 (a:Int)(L:List Int):((a::L).flatMap wb).drop 1=L.flatMap wb:=by rw[List.flatMap_cons];rfl
def tR (i:Nat)(bs b:List ax):Prop:=bs.length≤b.length∧∀ k,k<bs.length→k≠i→b[k]? = bs[k]?
theorem tR.refl (i:Nat)(bs:List ax):tR i bs bs:=⟨Nat.le_refl _,fun _ _ _=>rfl⟩
theorem tR.trans {i:Nat}{a b c:List ax}(h:tR i a b)(k:tR i b c):tR i a c:=⟨Nat.le_trans h.1 k.1,fun q hq hn=>(k.2 q (Nat.lt_of_lt_of_le hq h.1) hn).trans (h.2 q hq hn)⟩
theorem tR.app {i:Nat}{a b:List ax}(h:tR i a b)(X:List ax):tR i a (b++X):=⟨by simp;have:=h.1;omega,fun q hq hn=>by rw[zOm (Nat.lt_of_lt_of_le hq h.1)];exact h.2 q hq hn⟩
theorem tR.of {i:Nat}{a b:List ax}(h:Kp a b):tR i a b:=⟨h.1,fun q hq _=>h.2 q hq⟩
theorem tR.at {i:Nat}{a b:List ax}(h:tR i a b){k:Nat}{r:ax}(hk:a[k]? = some r)(hn:k≠i):b[k]? = some r:=(h.2 k (zN7.1 hk).1 hn).trans hk
def eH (b:List ax)(i:Nat)(L:List Int):Prop:=∃ x,b[i]? = some (.cells [x] 76 true)∧((x=.aE∧L=[])∨∃ j,x=.o j L.length∧j≠i∧b[j]? = some (.own (L.flatMap wb) 5 1 L.length false))∧∀ r∈L,0≤r∧r≤255
def dV (L:List Int)(n:Int):Int:=match L with
 | []=>0
 | a::_=>if n≤1 then 0 else a % n
def dL (L:List Int)(n:Int):List Int:=match L with
 | []=>[]
 | a::L=>if n≤1 then a::L else L
theorem JX (L:List Int){n:Int}(h:0<n):0≤dV L n∧dV L n<n:=by
 unfold dV
 split
 ·omega
 ·split
  ·omega
  ·exact⟨Int.emod_nonneg _ (by omega),Int.emod_lt_of_pos _ h⟩
theorem pS {bs:List ax}{i:Nat}{L:List Int}(h:eH bs i L)(n:Int)(hn:n≤1000000):∃ nB,nB.length≤bs.length+1∧eH nB i (dL L n)∧tR i bs nB∧SC Tryz.V 26 [.p i 0,.int .i64 n] bs (fun r b=>r=.int .i64 (dV L n)∧b=nB):=by
 obtain⟨x,hi,hx,hr⟩:=h
 have eh:i<bs.length:=(zN7.1 hi).1
 have sc:=fun nB=>cz (V:=Tryz.V) (f:=26) (bs:=bs) 3000 Tryz.func26 rfl Tryz.ntmps26 Tryz.results26 Tryz.call26 (args:=[.p i 0,.int .i64 n]) (R:=fun r b=>r=.int .i64 (dV L n)∧b=nB) (by simp) (aw bs.length _ (by simp[within,within.ay,eh]))
 rcases hx with⟨rfl,rfl⟩|⟨j,rfl,mg,hj⟩
 ·refine⟨bs,by omega,⟨.aE,hi,.inl ⟨rfl,rfl⟩,hr⟩,tR.refl _ _,sc _ ?_⟩
  simp only[ad,↓Xn,↓Xo,↓Xg,↓Xd,↓Xe,↓Xf,Tryz.VΓ,Tryz.Γs,Xp,Xi,Nat.reduceAdd,Nat.reduceSub,Nat.reduceLT,Nat.reduceLeDiff,reduceIte,reduceCtorEq,Nat.reduceEqDiff,implies_true,forall_const,aa,rQ,beq_self_eq_true,bne_self_eq_false,Int.reduceBEq,Int.reduceBNe,Int.reduceLT,Int.reduceLE,hi]
  rfl
 ·cases L with
  | nil =>
    simp only[List.length_nil]at hi hj
    refine⟨bs,by omega,⟨_,hi,.inr ⟨j,rfl,mg,hj⟩,hr⟩,tR.refl _ _,sc _ ?_⟩
    have h0:(((0:Nat):Int)==0)=true:=rfl
    simp only[ad,↓Xn,↓Xo,↓Xg,↓Xd,↓Xe,↓Xf,Tryz.VΓ,Tryz.Γs,Xp,Xi,Nat.reduceAdd,Nat.reduceSub,Nat.reduceLT,Nat.reduceLeDiff,reduceIte,reduceCtorEq,Nat.reduceEqDiff,implies_true,forall_const,aa,rQ,beq_self_eq_true,bne_self_eq_false,Int.reduceBEq,Int.reduceBNe,Int.reduceLT,Int.reduceLE,hi,hj,h0]
    rfl
  | cons a L =>
    have h0:((((a::L).length:Nat):Int)==0)=false:=by rw[beq_eq_false_iff_ne,List.length_cons];omega
    simp only[List.length_cons]at h0
    have ha:=hr a List.mem_cons_self
    have mU:j<bs.length:=(zN7.1 hj).1
    by_cases h1:n≤1
    ·refine⟨bs,by omega,?_,tR.refl _ _,sc _ ?_⟩
     ·simp only[dL,if_pos h1]
      exact⟨_,hi,.inr ⟨j,rfl,mg,hj⟩,hr⟩
     ·have hd:decide (n≤1)=true:=decide_eq_true h1
      have hv:dV (a::L) n=0:=by simp only[dV,if_pos h1]
      rw[hv]
      simp only[ad,↓Xn,↓Xo,↓Xg,↓Xd,↓Xe,↓Xf,Tryz.VΓ,Tryz.Γs,Xp,Xi,Nat.reduceAdd,Nat.reduceSub,Nat.reduceLT,Nat.reduceLeDiff,reduceIte,reduceCtorEq,Nat.reduceEqDiff,implies_true,forall_const,aa,rQ,beq_self_eq_true,bne_self_eq_false,Int.reduceBEq,Int.reduceBNe,Int.reduceLT,Int.reduceLE,hi,hj,hd,h0]
    ·have hd:decide (n≤1)=false:=decide_eq_false h1
     have hv:dV (a::L) n=a % n:=by simp only[dV,if_neg h1]
     have hL:dL (a::L) n=L:=by simp only[dL,if_neg h1]
     have fR:((a::L).flatMap wb)[Int.toNat 0 * 1]? = some (.int .u8 a):=rfl
     have gE:bs.set j (.own ((a::L).flatMap wb) 5 1 (L.length+1) false)=bs:=by
      apply List.ext_getElem?
      intro k
      by_cases hk:k=j
      ·subst hk;rw[zOe mU];exact hj.symm
      ·rw[List.getElem?_set_ne (fun e=>hk e.symm)]
     have kR:∀ X,(bs++[X])[i]? = some (.cells [.o j (L.length+1)] 76 true):=fun X=>af hi [X]
     have hrem:vF .rem .i64 a n=a % n:=Int.tmod_eq_emod_of_nonneg ha.1
     have hw:IntKind.i64.wrap a=a:=by simp[IntKind.wrap,IntKind.bits,IntKind.signed];omega
     have hlen:=nt wb 1 (fun _=>rfl) (a::L)
     have fP:(((a::L).flatMap wb).take ((L.length+1) * 1)).drop (Int.toNat 1 * 1)=L.flatMap wb:=by
      rw[zOc (by rw[hlen];simp)]
      exact H4 a L
     rw[hL]
     refine⟨(bs++[ax.own (L.flatMap wb) 5 1 L.length false]).set i (.cells [.o bs.length L.length] 76 true),by simp,⟨_,zOe (by simp;omega),.inr ⟨_,rfl,by omega,by rw[List.getElem?_set_ne (by omega)];exact aW _ _⟩,fun r h=>hr r (List.mem_cons_of_mem _ h)⟩,⟨by simp,fun k hk hn=>by rw[List.getElem?_set_ne (fun e=>hn e.symm),zOm hk]⟩,sc _ ?_⟩
     rw[hv]
     simp only[ad,↓Xn,↓Xo,↓Xg,↓Xd,↓Xe,↓Xf,Tryz.VΓ,Tryz.Γs,Xp,Xi,Nat.reduceAdd,Nat.reduceSub,Nat.reduceLT,Nat.reduceLeDiff,reduceIte,reduceCtorEq,Nat.reduceEqDiff,implies_true,forall_const,aa,rQ,beq_self_eq_true,bne_self_eq_false,Int.reduceBEq,Int.reduceBNe,Int.reduceLT,Int.reduceLE,hi,hj,hd,h0,fR,gE,kR,hrem,hw,fP]
     exact⟨by omega,by rw[hlen];simp[Int.toNat],by omega,by omega,by simp[Int.toNat]⟩
theorem GZ {bs:List ax}{i:Nat}{L:List Int}(h:eH bs i L)(n:Int)(hn:n≤1000000):∃ nB,eH nB i (dL L n)∧tR i bs nB∧SC Tryz.V 26 [.p i 0,.int .i64 n] bs (fun r b=>r=.int .i64 (dV L n)∧b=nB):=by
 obtain⟨nB,_,h⟩:=pS h n hn
 exact⟨nB,h⟩
theorem tG {bs:List ax}{i:Nat}{L:List Int}(h:eH bs i L)(n:Int)(hn:0<n∧n≤1000000):SC Tryz.V 26 [.p i 0,.int .i64 n] bs (fun r b=>∃ v L',r=.int .i64 v∧(0≤v∧v<n)∧eH b i L'∧tR i bs b):=by
 obtain⟨nB,h1,h2,h3⟩:=GZ h n hn.2
 refine h3.mono ?_
 rintro r b ⟨rfl,rfl⟩
 exact⟨_,_,rfl,JX L hn.1,h1,h2⟩
theorem H3 (L:List Int)(n:Nat):(L.flatMap wb).take (n * 1)=(L.take n).flatMap wb:=by
 induction L generalizing n with
 | nil=>simp
 | cons a L ih =>
   cases n with
   | zero=>simp
   | succ n =>
     rw[List.take_succ_cons,List.flatMap_cons,List.flatMap_cons,← ih]
     rfl
theorem sc_New {bs:List ax}{j:Nat}{L:List Int}(hj:bs[j]? = some (.own (L.flatMap wb) 5 1 L.length false))(hr:∀ r∈L,0≤r∧r≤255)(hL:L.length≤9223372036854775807):SC Tryz.V 25 [.o j L.length] bs (fun r b=>∃ k L',r=.p k 0∧bs.length≤k∧Kp bs b∧eH b k L'):=by
 have mU:=(zN7.1 hj).1
 refine cz 3000 Tryz.func25 rfl Tryz.ntmps25 Tryz.results25 Tryz.call25 (by simp) (aw bs.length _ (by simp[within,within.ay,mU])) ?_
 simp only[ad,↓Xn,↓Xo,↓Xg,↓Xd,↓Xe,↓Xf,Tryz.VΓ,Tryz.Γs,Xp,Xi,Nat.reduceAdd,Nat.reduceSub,Nat.reduceLT,Nat.reduceLeDiff,reduceIte,reduceCtorEq,Nat.reduceEqDiff,implies_true,forall_const,aa,av,beq_self_eq_true,bne_self_eq_false,Int.reduceBEq,Int.reduceBNe,Int.reduceLT,Int.reduceLE,hj]
 obtain⟨n,hn,sR⟩:∃ n:Nat,(if (200:Int)<L.length then 200 else(L.length:Int))=n∧n≤L.length:=by
  split
  ·exact⟨200,rfl,by omega⟩
  ·exact⟨_,rfl,Nat.le_refl _⟩
 rw[hn,Int.toNat_natCast,H3]
 refine⟨⟨by omega,by omega⟩,bs.length+1,L.take n,rfl,by omega,(Kp.refl bs).app _,.o bs.length n,zV bs _ 1,.inr ⟨bs.length,by simp[sR],by omega,?_⟩,fun r h=>hr r (List.mem_of_mem_take h)⟩
 rw[gZ]
 simp[sR]
theorem eH.kp {b b1:List ax}{i:Nat}{L:List Int}(h:eH b i L)(k:Kp b b1):eH b1 i L:=by
 obtain⟨x,hi,hx,hr⟩:=h
 refine⟨x,k.at hi,?_,hr⟩
 rcases hx with h|⟨j,h1,h2,h3⟩
 ·exact .inl h
 ·exact .inr ⟨j,h1,h2,k.at h3⟩
theorem eH.Ds {b:List ax}{i k:Nat}{L:List Int}{c:List SV}{T:TypeId}{m:Bool}(h:eH b i L)(hk:b[k]? = some (.cells c T m))(jb:k≠i)(X:ax):eH (b.set k X) i L:=by
 obtain⟨x,hi,hx,hr⟩:=h
 refine⟨x,aI hi jb _,?_,hr⟩
 rcases hx with h|⟨j,h1,h2,h3⟩
 ·exact .inl h
 ·exact .inr ⟨j,h1,h2,aI h3 (by rintro rfl;rw[hk]at h3;cases h3) _⟩
theorem eH.app {b:List ax}{i:Nat}{L:List Int}(h:eH b i L)(X:List ax):eH (b++X) i L:=h.kp ((Kp.refl _).app X)
theorem tR.outs {i:Nat}{bs nB:List ax}(h:tR i bs nB)(hl:nB.length≤bs.length+1):CV [(i,0,0),(bs.length,0,0)] nB bs:=by
 refine qw (fun j hj=>?_) (fun y hy=>by simp at hy;rcases hy with rfl|rfl <;> rfl)
 have h1:j≠i:=fun e=>hj (i,0,0) (by simp) e.symm
 have h2:j≠bs.length:=fun e=>hj (bs.length,0,0) (by simp) e.symm
 by_cases aB:j<bs.length
 ·exact h.2 j aB h1
 ·rw[zOh (by omega),zOh (by omega)]
theorem tR.kp {i:Nat}{a b c:List ax}(h:tR i b c)(k:Kp a b)(hi:a.length≤i):Kp a c:=⟨Nat.le_trans k.1 h.1,fun q hq=>(h.2 q (Nat.lt_of_lt_of_le hq k.1) (by omega)).trans (k.2 q hq)⟩
def Me (now:Int)(e:En):Prop:=∃ (n:Nat) (s t:Int),n<9∧1≤s∧s≤60∧0≤t∧t≤now∧e=jK (vV n s) t
structure Mc (cp:Int) (L:List En) (now:Int):Prop where
 hc:0≤cp∧cp≤5
 len:(L.length:Int)≤cp
 asc:mT En.key L
 me:∀ e∈L,Me now e
 hn:0≤now
theorem Me.le {now now':Int}{e:En}(h:Me now e)(k:now≤now'):Me now' e:=by
 obtain⟨n,s,t,h1,h2,h3,h4,h5,h6⟩:=h
 exact⟨n,s,t,h1,h2,h3,h4,by omega,h6⟩
theorem Me.tr {now:Int}{e:En}(h:Me now e):e.v.tr=.aE:=by
 obtain⟨n,s,t,-,-,-,-,-,rfl⟩:=h
 rfl
theorem HD {n:Nat}{s:Int}(h1:1≤s)(h2:s≤86400):(ie (vV n s)&&cO (vV n s).id)=true:=by
 have:cO (vV n s).id=true:=xp n
 rw[this]
 simp[ie,vV,h1,h2]
theorem xF {L:List En}{x:En}{cp:Int}(h:0<cp):jL En.key (dr (fO En.key x.key (dC En.key L x.key||decide ((L.length:Int)<cp)) (dS (oI L) L.length)) L L.length) x=hU En.key En.aS cp L x:=by
 cases L with
 | nil=>simp[hU,dr,h]
 | cons a L=>exact Gt (by simp)
theorem Mc.put {cp now:Int}{L:List En}(h:Mc cp L now){n:Nat}{s:Int}(hn:n<9)(h1:1≤s)(h2:s≤60):Mc cp (if !(cp==0) then hU En.key En.aS cp L (jK (vV n s) now) else L) now:=by
 cases c:cp==0
 ·have hc:0<cp:=by have:=h.hc;simp at c;omega
  refine⟨h.hc,A4 h.asc hc h.len _,Ih h.asc _ _,fun e he=>?_,h.hn⟩
  rcases ur he with rfl|he
  ·exact⟨n,s,now,hn,h1,h2,h.hn,Int.le_refl _,rfl⟩
  ·exact h.me e he
 ·exact h
theorem Mc.exp {cp now:Int}{L:List En}(h:Mc cp L now)(t:Int):Mc cp (gl L t) now :=
 ⟨h.hc,Int.le_trans (by exact_mod_cast zOl _ _) h.len,pU h.asc _,fun e he=>h.me e (zOq.1 he).1,h.hn⟩
theorem Mc.later {cp now now':Int}{L:List En}(h:Mc cp L now)(k:now≤now'):Mc cp L now' :=
 ⟨h.hc,h.len,h.asc,fun e he=>(h.me e he).le k,by have:=h.hn;omega⟩
theorem Mc.small {cp now:Int}{L:List En}(h:Mc cp L now):L.length≤5:=by have:=h.hc;have:=h.len;omega
theorem Mc.hT {cp now:Int}{L:List En}(h:Mc cp L now):∀ e∈L,e.v.tr=.aE:=fun e he=>(h.me e he).tr
theorem su_putV {b:List ax}{x:SV}{L:List En}{m:Bool}{cp now:Int}(h:fT b x L m)(hM:Mc cp L now)(B7:now≤1000000){n:Nat}{s:Int}(h1:1≤s)(h2:s≤86400) :
 SU Tryz.V 19 [.agg [.int .i64 cp,x],.agg (cN (vV n s)),.int .u64 now] b (fun r b'=>Kp b b'∧∃ x' m',r=.agg [.int .i64 cp,x']∧fT b' x' (if !(cp==0) then hU En.key En.aS cp L (jK (vV n s) now) else L) m'∧(m'=true∨x'=x∧m'=m)):=by
 have hsm:=hM.small
 have Ch:=hM.hc
 have qR:PC Tryz.V 31 [.int .u64 now,.int .u64 s] (.int .u64 (kf now s)):=xL ⟨hM.hn,by omega⟩ ⟨by omega,by omega⟩
 refine(tY (v:=vV n s) (cb:=true) h (by omega) (fun e he=>by rw[hM.hT e he];rfl) rfl rfl ?_ qR).mono ?_
 ·have:=kW (v:=vV n s) (b:=b++[.cells [.int .i64 cp,x] 24 true,.cells (cN (vV n s)) 41 true,.cells [.int .i64 0,.aE] 24 true]) rfl rfl
  rw[HD h1 h2]at this
  exact this
 ·rintro r b' ⟨k,x',m',rfl,hE,hm⟩
  refine⟨k,x',m',rfl,?_,hm⟩
  cases c:cp==0
  ·rw[c]at hE
   have:=xF (L:=L) (x:=jK (vV n s) now) (cp:=cp) (by simp at c;omega)
   simp only[Bool.not_false,Bool.and_self,if_true]at hE ⊢
   rw[← this]
   exact hE
  ·rw[c]at hE
   simpa using hE
structure Ms (bs:List ax) (dk ci:Nat) (kk now cp:Int) (x:SV) (L:List En) (m:Bool) (D:List Int) (b:List ax):Prop where
 kp:Kp bs b
 o:b[bs.length]? = some (.cells [.int .i64 0,.aE] 24 true)
 d:eH b dk D
 c:b[ci]? = some (.cells [.int .i64 cp,x] 24 true)
 e:fT b x L m
 M:Mc cp L now
 mx:m=true∨x=.aE
 ld:bs.length<dk
 lc:bs.length<ci
 ne:ci≠dk
 k0:0≤kk
 kl:now≤9 * (19 - kk)
theorem Ms.kpE {bs b b':List ax}{dk ci:Nat}{kk now cp kk' now':Int}{x:SV}{L:List En}{m:Bool}{D D':List Int}(h:Ms bs dk ci kk now cp x L m D b)(k:tR dk b b')(hd:eH b' dk D')(h1:0≤kk')(h2:now≤now')(h3:now'≤9 * (19 - kk')):Ms bs dk ci kk' now' cp x L m D' b':=by
 have a:=h.ld
 refine⟨k.kp h.kp (by omega),k.at h.o (by omega),hd,k.at h.c h.ne,?_,h.M.later h2,h.mx,h.ld,h.lc,h.ne,h1,h3⟩
 rcases h.e with e|⟨q,rfl,hq⟩
 ·exact .inl e
 ·refine .inr ⟨q,rfl,k.at hq ?_⟩
  rintro rfl
  obtain⟨y,hi,-⟩:=h.d
  rw[hi]at hq;cases hq
theorem Ms.store {bs b b':List ax}{dk ci:Nat}{kk now cp:Int}{x x':SV}{L L':List En}{m m':Bool}{D:List Int}(h:Ms bs dk ci kk now cp x L m D b)(k:Kp b b')(e:fT b' x' L' m')(M:Mc cp L' now)(mx:m'=true∨x'=.aE):Ms bs dk ci kk now cp x' L' m' D (b'.set ci (.cells [.int .i64 cp,x'] 24 true)):=by
 have a:=h.lc
 have hc:=k.at h.c
 refine⟨(h.kp.trans k).set (by omega) _,aI (k.at h.o) (by omega) _,(h.d.kp k).Ds hc h.ne _,zOe (zN7.1 hc).1,e.Ds (by rintro q hq rfl;rw[hc]at hq;cases hq) _,M,mx,h.ld,h.lc,h.ne,h.k0,h.kl⟩
theorem sc_made {bs:List ax}{j:Nat}{S:List Int}(hj:bs[j]? = some (.own (S.flatMap wb) 5 1 S.length false))(hr:∀ r∈S,0≤r∧r≤255)(hS:S.length≤9223372036854775807) :
 SC Tryz.V 12 [.o j S.length] bs (fun r b=>∃ cp x L m now,r=.eS [.agg [.int .i64 cp,x],.int .u64 now]∧Kp bs b∧fT b x L m∧Mc cp L now∧now≤180∧(m=true∨x=.aE)):=by
 have mU:=(zN7.1 hj).1
 refine cz 3000 Tryz.func12 rfl Tryz.ntmps12 Tryz.results12 Tryz.call12 (by simp) (aw bs.length _ (by simp[within,within.ay,mU])) ?_
 refine bd 2900 (fun σ=>lk 0 σ.t=some (.o j S.length)∧lk 2 σ.t=some (.p bs.length 0)∧lk 3 σ.t=some (.int .u64 0)∧σ.b=bs++[.cells [.int .i64 0,.aE] 24 true]) ?_ (fun k' hk'=>?_)
 rotate_left
 ·simp only[ad,↓Xn,↓Xo,↓Xg,↓Xd,↓Xe,↓Xf,Tryz.VΓ,Tryz.Γs,Xp,Xi,Nat.reduceAdd,Nat.reduceSub,Nat.reduceLT,Nat.reduceLeDiff,reduceIte,reduceCtorEq,Nat.reduceEqDiff,implies_true,forall_const,aa,av,beq_self_eq_true,bne_self_eq_false,Int.reduceBEq,Int.reduceBNe,Int.reduceLT,Int.reduceLE]
  exact hk' _ _ ⟨rfl,rfl,rfl,rfl⟩
 rintro m1 ⟨t1,b1⟩ ⟨l0,l2,l3,rfl⟩
 simp only at l0 l2 l3
 refine bd 2800 (fun σ=>lk 2 σ.t=some (.p bs.length 0)∧∃ dk D,lk 4 σ.t=some (.p dk 0)∧bs.length<dk∧Kp (bs++[.cells [.int .i64 0,.aE] 24 true]) σ.b∧eH σ.b dk D) ?_ (fun k' hk'=>?_)
 rotate_left
 ·simp only[ad,↓Xn,↓Xo,↓Xg,↓Xd,↓Xe,↓Xf,Tryz.VΓ,Tryz.Γs,Xp,Xi,Nat.reduceAdd,Nat.reduceSub,Nat.reduceLT,Nat.reduceLeDiff,reduceIte,reduceCtorEq,Nat.reduceEqDiff,implies_true,forall_const,aa,av,beq_self_eq_true,bne_self_eq_false,Int.reduceBEq,Int.reduceBNe,Int.reduceLT,Int.reduceLE,l0]
  refine aJ (sc_New (af hj _) hr hS) ?_
  rintro y b2 ⟨dk,D,rfl,Fk,cw,hd⟩
  simp only[ad,↓Xn,↓Xo,↓Xg,↓Xd,↓Xe,↓Xf,Tryz.VΓ,Tryz.Γs,Xp,Xi,Nat.reduceAdd,Nat.reduceSub,Nat.reduceLT,Nat.reduceLeDiff,reduceIte,reduceCtorEq,Nat.reduceEqDiff,implies_true,forall_const,aa,av,beq_self_eq_true,bne_self_eq_false,Int.reduceBEq,Int.reduceBNe,Int.reduceLT,Int.reduceLE,l0]
  refine hk' _ _ ?_
  exact⟨l2,dk,D,rfl,by simp at Fk;omega,cw,hd⟩
 rintro m2 ⟨t2,b2⟩ ⟨l2,dk,D,l4,Fk,cw,hd⟩
 simp only at l2 l4 cw hd
 have kU:=cw.at (aZ rfl _ 0:(bs++[ax.cells [.int .i64 0,.aE] 24 true])[bs.length+0]? = _)
 refine bd 2700 (fun σ=>lk 2 σ.t=some (.p bs.length 0)∧lk 4 σ.t=some (.p dk 0)∧∃ ci cp D,lk 5 σ.t=some (.p ci 0)∧Ms bs dk ci 19 0 cp .aE [] true D σ.b) ?_ (fun k' hk'=>?_)
 rotate_left
 ·simp only[ad,↓Xn,↓Xo,↓Xg,↓Xd,↓Xe,↓Xf,Tryz.VΓ,Tryz.Γs,Xp,Xi,Nat.reduceAdd,Nat.reduceSub,Nat.reduceLT,Nat.reduceLeDiff,reduceIte,reduceCtorEq,Nat.reduceEqDiff,implies_true,forall_const,aa,av,beq_self_eq_true,bne_self_eq_false,Int.reduceBEq,Int.reduceBNe,Int.reduceLT,Int.reduceLE,l4]
  refine aJ (tG hd 6 (by omega)) ?_
  rintro y b3 ⟨v,D',rfl,hv,hd',mG⟩
  simp only[ad,↓Xn,↓Xo,↓Xg,↓Xd,↓Xe,↓Xf,Tryz.VΓ,Tryz.Γs,Xp,Xi,Nat.reduceAdd,Nat.reduceSub,Nat.reduceLT,Nat.reduceLeDiff,reduceIte,reduceCtorEq,Nat.reduceEqDiff,implies_true,forall_const,aa,av,beq_self_eq_true,bne_self_eq_false,Int.reduceBEq,Int.reduceBNe,Int.reduceLT,Int.reduceLE,l4]
  have hY:=Gf v
  rw[if_neg (by omega)]at hY
  refine ae hY ?_
  simp only[ad,↓Xn,↓Xo,↓Xg,↓Xd,↓Xe,↓Xf,Tryz.VΓ,Tryz.Γs,Xp,Xi,Nat.reduceAdd,Nat.reduceSub,Nat.reduceLT,Nat.reduceLeDiff,reduceIte,reduceCtorEq,Nat.reduceEqDiff,implies_true,forall_const,aa,av,beq_self_eq_true,bne_self_eq_false,Int.reduceBEq,Int.reduceBNe,Int.reduceLT,Int.reduceLE,l4]
  refine hk' _ _ ?_
  have pQ:dk<b2.length:=by obtain⟨x,hi,-⟩:=hd;exact(zN7.1 hi).1
  have ym:=mG.1
  have wk:Kp bs b3:=mG.kp (((Kp.refl bs).app _).trans cw) (by omega)
  have ho3:=mG.at kU (by omega)
  refine⟨l2,l4,b3.length,v,D',rfl,⟨wk.app _,af ho3 _,hd'.app _,aZ rfl _ 0,.inl ⟨rfl,rfl⟩,⟨by omega,by simp;omega,List.Pairwise.nil,fun e he=>(by cases he),by omega⟩,.inr rfl,Fk,by omega,by omega,by omega,by omega⟩⟩
 clear hd cw kU Fk
 rintro m3 ⟨t3,b3⟩ ⟨l2,l4,ci,cp,D,l5,hM⟩
 simp only at l2 l4 l5 hM
 refine bd 2600 (fun σ=>lk 2 σ.t=some (.p bs.length 0)∧lk 4 σ.t=some (.p dk 0)∧lk 5 σ.t=some (.p ci 0)∧lk 7 σ.t=some (.int .u64 0)∧σ.b=b3) ?_ (fun k' hk'=>?_)
 rotate_left
 ·simp only[ad,↓Xn,↓Xo,↓Xg,↓Xd,↓Xe,↓Xf,Tryz.VΓ,Tryz.Γs,Xp,Xi,Nat.reduceAdd,Nat.reduceSub,Nat.reduceLT,Nat.reduceLeDiff,reduceIte,reduceCtorEq,Nat.reduceEqDiff,implies_true,forall_const,aa,av,beq_self_eq_true,bne_self_eq_false,Int.reduceBEq,Int.reduceBNe,Int.reduceLT,Int.reduceLE]
  exact hk' _ _ ⟨l2,l4,l5,rfl,rfl⟩
 rintro m4 ⟨t4,b4⟩ ⟨l2,l4,l5,l7,rfl⟩
 simp only at l2 l4 l5 l7
 refine bd 2500 (fun σ=>lk 2 σ.t=some (.p bs.length 0)∧lk 5 σ.t=some (.p ci 0)∧∃ kk now cp x L m D,lk 7 σ.t=some (.int .u64 now)∧Ms bs dk ci kk now cp x L m D σ.b) ?_ (fun k' hk'=>?_)
 rotate_left
 ·simp only[ad,↓Xn,↓Xo,↓Xg,↓Xd,↓Xe,↓Xf,Tryz.VΓ,Tryz.Γs,Xp,Xi,Nat.reduceAdd,Nat.reduceSub,Nat.reduceLT,Nat.reduceLeDiff,reduceIte,reduceCtorEq,Nat.reduceEqDiff,implies_true,forall_const,aa,av,beq_self_eq_true,bne_self_eq_false,Int.reduceBEq,Int.reduceBNe,Int.reduceLT,Int.reduceLE,l4]
  refine aJ (tG hM.d 20 (by omega)) ?_
  rintro y b5 ⟨v,D',rfl,hv,hd',zI⟩
  simp only[ad,↓Xn,↓Xo,↓Xg,↓Xd,↓Xe,↓Xf,Tryz.VΓ,Tryz.Γs,Xp,Xi,Nat.reduceAdd,Nat.reduceSub,Nat.reduceLT,Nat.reduceLeDiff,reduceIte,reduceCtorEq,Nat.reduceEqDiff,implies_true,forall_const,aa,av,beq_self_eq_true,bne_self_eq_false,Int.reduceBEq,Int.reduceBNe,Int.reduceLT,Int.reduceLE]
  have Jz:Ms bs dk ci v 0 cp .aE [] true D' b5:=by
   have h1:=hM.ld
   have h2:=hM.lc
   exact⟨zI.kp hM.kp (by omega),zI.at hM.o (by omega),hd',zI.at hM.c hM.ne,.inl ⟨rfl,rfl⟩,hM.M,hM.mx,hM.ld,hM.lc,hM.ne,hv.1,by omega⟩
  refine aM (fun σ=>∃ kk now cp x L m D,lk 2 σ.t=some (.p bs.length 0)∧lk 4 σ.t=some (.p dk 0)∧lk 5 σ.t=some (.p ci 0)∧lk 7 σ.t=some (.int .u64 now)∧lk 8 σ.t=some (.int .i64 kk)∧Ms bs dk ci kk now cp x L m D σ.b) (fun σ=>ja 8 σ) ⟨v,0,cp,.aE,[],true,D',l2,l4,l5,l7,rfl,Jz⟩ ?_
  clear hM Jz hd' zI l2 l4 l5 l7
  rintro⟨t6,b6⟩ ⟨kk,now,cp,x,L,m,D,l2,l4,l5,l7,l8,hM⟩
  simp only at l2 l4 l5 l7 l8 hM
  have hkk:=hM.k0
  have ym:=hM.kl
  obtain⟨kn,rfl⟩:∃ kn:Nat,kk=(kn:Int):=⟨kk.toNat,by omega⟩
  rw[az l8]
  cases c:decide (0<(kn:Int))
  ·simp only[ad,↓Xn,↓Xo,↓Xg,↓Xd,↓Xe,↓Xf,Tryz.VΓ,Tryz.Γs,Xp,Xi,Nat.reduceAdd,Nat.reduceSub,Nat.reduceLT,Nat.reduceLeDiff,reduceIte,reduceCtorEq,Nat.reduceEqDiff,implies_true,forall_const,aa,av,beq_self_eq_true,bne_self_eq_false,Int.reduceBEq,Int.reduceBNe,Int.reduceLT,Int.reduceLE,l8,c]
   refine hk' _ _ ?_
   exact⟨l2,l5,_,now,cp,x,L,m,D,l7,hM⟩
  ·have hc:0<kn:=by simpa using c
   simp only[ad,↓Xn,↓Xo,↓Xg,↓Xd,↓Xe,↓Xf,Tryz.VΓ,Tryz.Γs,Xp,Xi,Nat.reduceAdd,Nat.reduceSub,Nat.reduceLT,Nat.reduceLeDiff,reduceIte,reduceCtorEq,Nat.reduceEqDiff,implies_true,forall_const,aa,av,beq_self_eq_true,bne_self_eq_false,Int.reduceBEq,Int.reduceBNe,Int.reduceLT,Int.reduceLE,l4,l5,l7,l8,c]
   refine aJ (tG hM.d 9 (by omega)) ?_
   rintro y b7 ⟨v,D1,rfl,hv,lM,hk7⟩
   have B7:=hM.M.hn
   have hw:IntKind.u64.wrap v=v:=by simp[IntKind.wrap,IntKind.bits,IntKind.signed];omega
   have eD:IntKind.u64.wrap (now+v)=now+v:=by simp[IntKind.wrap,IntKind.bits,IntKind.signed];omega
   have hM7:Ms bs dk ci (kn - 1:Int) (now+v) cp x L m D1 b7:=hM.kpE hk7 lM (by omega) (by omega) (by omega)
   have hn7:=hM7.M.hn
   have hl7:=hM7.kl
   clear hM ym hk7 lM B7
   obtain⟨nB1,mO,nY,eW,hsc2⟩:=pS hM7.d 9 (by omega)
   have hv2:=JX D1 (n:=9) (by omega)
   generalize dV D1 9=v2 at hsc2 hv2
   generalize dL D1 9=D2 at nY
   have hM8:=hM7.kpE eW nY hM7.k0 (Int.le_refl _) hM7.kl
   obtain⟨nB2,gF,GI,mG,hsc3⟩:=pS hM8.d 60 (by omega)
   have hv3:=JX D2 (n:=60) (by omega)
   generalize dV D2 60=v3 at hsc3 hv3
   generalize dL D2 60=D3 at GI
   have hM9:=hM8.kpE mG GI hM8.k0 (Int.le_refl _) hM8.kl
   have wV:IntKind.u64.wrap (1+v3)=1+v3:=by simp[IntKind.wrap,IntKind.bits,IntKind.signed];omega
   obtain⟨vn,rfl⟩:∃ vn:Nat,v2=(vn:Int):=⟨v2.toNat,by omega⟩
   have hvd:=iu vn (1+v3) (by omega)
   obtain⟨y4,nB4,⟨zJ,x',m',rfl,hE4,hm4⟩,hsc4⟩:=su_putV (n:=vn) (s:=1+v3) hM9.e hM9.M (by omega) (by omega) (by omega)
   have pc7:=hM7.c
   have pc4:=zJ.at hM9.c
   have ho7:=hM7.e.one
   have ho4:=hE4.one
   simp only[ad,↓Xn,↓Xo,↓Xg,↓Xd,↓Xe,↓Xf,Tryz.VΓ,Tryz.Γs,Xp,Xi,Nat.reduceAdd,Nat.reduceSub,Nat.reduceLT,Nat.reduceLeDiff,reduceIte,reduceCtorEq,Nat.reduceEqDiff,implies_true,forall_const,aa,av,beq_self_eq_true,bne_self_eq_false,Int.reduceBEq,Int.reduceBNe,Int.reduceLT,Int.reduceLE,l4,l5,l7,l8,hw,eD,pc7,ho7]
   refine bC [(dk,0,0),(b7.length,0,0)] hsc2 (eW.outs mO) ?_
   simp only[ad,↓Xn,↓Xo,↓Xg,↓Xd,↓Xe,↓Xf,Tryz.VΓ,Tryz.Γs,Xp,Xi,Nat.reduceAdd,Nat.reduceSub,Nat.reduceLT,Nat.reduceLeDiff,reduceIte,reduceCtorEq,Nat.reduceEqDiff,implies_true,forall_const,aa,av,beq_self_eq_true,bne_self_eq_false,Int.reduceBEq,Int.reduceBNe,Int.reduceLT,Int.reduceLE,l4,l5,l7,l8,hw,eD,pc7,ho7]
   refine bC [(dk,0,0),(nB1.length,0,0)] hsc3 (mG.outs gF) ?_
   simp only[ad,↓Xn,↓Xo,↓Xg,↓Xd,↓Xe,↓Xf,Tryz.VΓ,Tryz.Γs,Xp,Xi,Nat.reduceAdd,Nat.reduceSub,Nat.reduceLT,Nat.reduceLeDiff,reduceIte,reduceCtorEq,Nat.reduceEqDiff,implies_true,forall_const,aa,av,beq_self_eq_true,bne_self_eq_false,Int.reduceBEq,Int.reduceBNe,Int.reduceLT,Int.reduceLE,l4,l5,l7,l8,hw,eD,wV,pc7,ho7]
   refine⟨by omega,?_⟩
   refine aU hvd ?_
   simp only[ad,↓Xn,↓Xo,↓Xg,↓Xd,↓Xe,↓Xf,Tryz.VΓ,Tryz.Γs,Xp,Xi,Nat.reduceAdd,Nat.reduceSub,Nat.reduceLT,Nat.reduceLeDiff,reduceIte,reduceCtorEq,Nat.reduceEqDiff,implies_true,forall_const,aa,av,beq_self_eq_true,bne_self_eq_false,Int.reduceBEq,Int.reduceBNe,Int.reduceLT,Int.reduceLE,l4,l5,l7,l8,hw,eD,wV,pc7,ho7]
   refine oo hsc4 ?_
   simp only[ad,↓Xn,↓Xo,↓Xg,↓Xd,↓Xe,↓Xf,Tryz.VΓ,Tryz.Γs,Xp,Xi,Nat.reduceAdd,Nat.reduceSub,Nat.reduceLT,Nat.reduceLeDiff,reduceIte,reduceCtorEq,Nat.reduceEqDiff,implies_true,forall_const,aa,av,beq_self_eq_true,bne_self_eq_false,Int.reduceBEq,Int.reduceBNe,Int.reduceLT,Int.reduceLE,l4,l5,l7,l8,hw,eD,wV,pc7,ho7,pc4,ho4]
   have Hg:¬ dk=ci:=Ne.symm hM9.ne
   have tx:¬ b7.length=ci:=by have:=(zN7.1 hM7.c).1;omega
   have GC:¬ nB1.length=ci:=by have:=(zN7.1 hM8.c).1;omega
   refine⟨(by
    refine fg (fun n=>if n=ci then 0 else 1) ?_
    simp only[zOj,zOk,fX,kX,reduceIte,Hg,tx,GC]
    exact aq (by kernel_rfl)),?_⟩
   have hMs:=hM9.store zJ hE4 (hM9.M.put (n:=vn) (s:=1+v3) (by omega) (by omega) (by omega)) (by
    rcases hm4 with h|⟨h,h2⟩
    ·exact .inl h
    ·rw[h,h2];exact hM9.mx)
   clear hM7 hM8 hM9 hsc2 hsc3 hsc4 hvd eW mG zJ nY GI hE4 hm4 pc7 pc4 ho7 ho4 tx GC
   generalize (if (!cp==0)=true then hU En.key En.aS cp L (jK (vV vn (1+v3)) (now+v)) else L)=L4 at hMs
   generalize nB4.set ci (.cells [.int .i64 cp,x'] 24 true)=b8 at hMs ⊢
   refine aJ (tG hMs.d 6 (by omega)) ?_
   rintro y b9 ⟨v5,D5,rfl,hv5,hd5,zI⟩
   have Jz:=hMs.kpE zI hd5 hMs.k0 (Int.le_refl _) hMs.kl
   clear hMs hd5 zI
   have pc5:=Jz.c
   have ho5:=Jz.e.one
   have hsm:=Jz.M.small
   have hkr:((kn:Int) - 1)=((kn - 1:Nat):Int):=by omega
   cases c5:(v5==0)
   ·simp only[ad,↓Xn,↓Xo,↓Xg,↓Xd,↓Xe,↓Xf,Tryz.VΓ,Tryz.Γs,Xp,Xi,Nat.reduceAdd,Nat.reduceSub,Nat.reduceLT,Nat.reduceLeDiff,reduceIte,reduceCtorEq,Nat.reduceEqDiff,implies_true,forall_const,aa,av,beq_self_eq_true,bne_self_eq_false,Int.reduceBEq,Int.reduceBNe,Int.reduceLT,Int.reduceLE,l4,l5,l7,l8,c5]
    exact⟨⟨by omega,by omega⟩,⟨_,_,cp,x',L4,m',D5,l2,rfl,rfl,Jz⟩,by rw[az (show lk 8 _=some (.int .i64 ((kn - 1:Nat):Int)) from by rw[← hkr];rfl)];omega⟩
   ·simp only[ad,↓Xn,↓Xo,↓Xg,↓Xd,↓Xe,↓Xf,Tryz.VΓ,Tryz.Γs,Xp,Xi,Nat.reduceAdd,Nat.reduceSub,Nat.reduceLT,Nat.reduceLeDiff,reduceIte,reduceCtorEq,Nat.reduceEqDiff,implies_true,forall_const,aa,av,beq_self_eq_true,bne_self_eq_false,Int.reduceBEq,Int.reduceBNe,Int.reduceLT,Int.reduceLE,l4,l5,l7,l8,c5,pc5,ho5]
    refine aJ (wD Jz.e (by omega) (fun e he=>by rw[Jz.M.hT e he];rfl)) ?_
    rintro y b10 ⟨wj,x6,rfl,hE6,-⟩
    have pc6:=wj.at pc5
    have ho6:=hE6.one
    have hM6:=Jz.store wj hE6 (Jz.M.exp _) (.inl rfl)
    simp only[ad,↓Xn,↓Xo,↓Xg,↓Xd,↓Xe,↓Xf,Tryz.VΓ,Tryz.Γs,Xp,Xi,Nat.reduceAdd,Nat.reduceSub,Nat.reduceLT,Nat.reduceLeDiff,reduceIte,reduceCtorEq,Nat.reduceEqDiff,implies_true,forall_const,aa,av,beq_self_eq_true,bne_self_eq_false,Int.reduceBEq,Int.reduceBNe,Int.reduceLT,Int.reduceLE,l4,l5,l7,l8,c5,pc6,ho6]
    exact⟨⟨by omega,by omega⟩,⟨_,_,cp,x6,_,true,D5,l2,rfl,rfl,hM6⟩,by rw[az (show lk 8 _=some (.int .i64 ((kn - 1:Nat):Int)) from by rw[← hkr];rfl)];omega⟩
 clear hM l4
 rintro m6 ⟨t6,b6⟩ ⟨l2,l5,kk,now,cp,x,L,m,D,l7,hM⟩
 simp only at l2 l5 l7 hM
 have pc:=hM.c
 have po:=hM.o
 have ho:=hM.e.one
 have bn:¬ bs.length=ci:=by have:=hM.lc;omega
 have hs:∀ X,(b6.set bs.length X)[bs.length]? = some X:=fun X=>zOe (zN7.1 po).1
 simp only[ad,↓Xn,↓Xo,↓Xg,↓Xd,↓Xe,↓Xf,Tryz.VΓ,Tryz.Γs,Xp,Xi,Nat.reduceAdd,Nat.reduceSub,Nat.reduceLT,Nat.reduceLeDiff,reduceIte,reduceCtorEq,Nat.reduceEqDiff,implies_true,forall_const,aa,av,beq_self_eq_true,bne_self_eq_false,Int.reduceBEq,Int.reduceBNe,Int.reduceLT,Int.reduceLE,l2,l5,l7,pc,po,ho,hs]
 have:=hM.kl
 have:=hM.k0
 exact⟨cp,x,L,m,now,rfl,hM.kp.set (Nat.le_refl _) _,hM.e.Ds (by rintro q hq rfl;rw[po]at hq;cases hq) _,hM.M,by omega,hM.mx⟩
def okE (L:List En)(i:Nat):Bool:=match L[i]? with
 | none=>true
 | some e=>(match i with
   | 0=>true
   | j+1=>(match L[j]? with
     | some d=>blt d.key e.key
     | none=>true))&&(ie e.v&&(cO e.v.id&&e.aS==kf e.stored e.v.df))
def ir (cp:Int)(L:List En):Bool:=!(decide (cp<0))&&(!decide (1024<cp)&&(!decide (cp<L.length)&&(List.range L.length).all (okE L)))
theorem ud {cp:Int}{L:List En}(h1:decide (cp<0)=false)(h2:decide (1024<cp)=false)(h3:decide (cp<L.length)=false)(h:∀ j,j<L.length→okE L j=true):ir cp L=true:=by
 unfold ir
 rw[h1,h2,h3]
 simp only[Bool.not_false,Bool.true_and,List.all_eq_true,List.mem_range]
 exact h
theorem iq {cp:Int}{L:List En}{k:Nat}(hk:k<L.length)(h:okE L k=false):ir cp L=false:=by
 unfold ir
 have:(List.range L.length).all (okE L)=false:=by
  rw[List.all_eq_false]
  exact⟨k,List.mem_range.2 hk,by rw[h];simp⟩
 rw[this];simp
section
variable {b:List ax} {v:Vd} {L:List En} {m:Bool} {cp:Int}
theorem E1 (hk:0<L.length):okE L 0=(ie L[0].v&&(cO L[0].v.id&&L[0].aS==kf L[0].stored L[0].v.df)):=by
 unfold okE;rw[zOo hk];rfl
theorem E0 {j:Nat}(hk:j+1<L.length):okE L (j+1)=(blt (L[j]'(by omega)).key L[j+1].key&&(ie L[j+1].v&&(cO L[j+1].v.id&&L[j+1].aS==kf L[j+1].stored L[j+1].v.df))):=by
 unfold okE;simp only[zOo hk,zOo (show j<L.length by omega)]
theorem HY {x:SV}(h:fT b x L m)(hl:L.length≤1000000)(wW:∀ e∈L,one e.v.tr=true∧within b.length e.v.tr=true) :
 SC Tryz.V 14 [.agg [.int .i64 cp,x]] b (fun r b'=>r=.bool (ir cp L)∧b'=b):=by
 refine dw rfl ?_
 have hw:=h.within
 have ho:=h.one
 have eO:∀ e,mc (.slice e) x=some (.int .i64 L.length):=fun e=>by
  rcases h with⟨rfl,rfl⟩|⟨q,rfl,-⟩ <;> rfl
 refine cz 3000 Tryz.func14 rfl Tryz.ntmps14 Tryz.results14 Tryz.call14 (by simp) (aw b.length _ (by simp[within,within.ay,hw])) ?_
 cases c1:decide (cp<0)
 ·cases c2:decide (1024<cp)
  ·cases c3:decide (cp<L.length)
   ·obtain⟨S,hS⟩:∃ S,S=ir cp L:=⟨_,rfl⟩
    rw[← hS]
    simp only[ad,↓Xn,↓Xo,↓Xg,↓Xd,↓Xe,↓Xf,Tryz.VΓ,Tryz.Γs,Xp,Xi,Nat.reduceAdd,Nat.reduceSub,Nat.reduceLT,Nat.reduceLeDiff,reduceIte,reduceCtorEq,Nat.reduceEqDiff,implies_true,forall_const,aa,av,beq_self_eq_true,bne_self_eq_false,Int.reduceBEq,Int.reduceBNe,Int.reduceLT,Int.reduceLE,ho,eO,c1,c2,c3]
    refine aM (fun σ=>∃ (k:Nat),lk 1 σ.t=some (.p b.length 0)∧lk 22 σ.t=some x∧lk 23 σ.t=some (.int .i64 L.length)∧lk 24 σ.t=some (.int .i64 k)∧k≤L.length∧Kp b σ.b∧σ.b[b.length]? = some (.cells [.int .i64 cp,x] 24 true)∧∀ j,j<k→okE L j=true) (fun σ=>L.length - ja 24 σ) ⟨0,rfl,rfl,rfl,rfl,by omega,(Kp.refl _).app _,aZ rfl _ 0,fun j hj=>by omega⟩ ?_
    rintro⟨t1,b1⟩ ⟨k,l1,l22,l23,l24,hk,cw,pc,aR⟩
    simp only at l1 l22 l23 l24 cw pc
    rw[az l24]
    by_cases c:k<L.length
    ·have ci:decide ((k:Int)<(L.length:Int))=true:=by simpa using c
     obtain⟨q,rfl,hq⟩:∃ q,x=.o q L.length∧b[q]? = some (.own (L.flatMap enc) 43 14 L.length m):=by
      rcases h with⟨rfl,rfl⟩|h
      ·simp at c
      ·exact h
     have dp:=cw.at hq
     have dW:=jg L k c
     have fh:(enc L[k]).length=14:=rfl
     have fP:(enc L[k]).take 14=enc L[k]:=zOc (by rw[fh];omega)
     have ic:(enc L[k]).all one=true:=by
      have:=(wW _ (zOa c)).1
      simp[enc,one]at this ⊢;exact this
     have g0:(enc L[k]).take 12=cN L[k].v:=rfl
     have g1:(enc L[k])[2]? = some (.str (En.key L[k])):=rfl
     have g12:(enc L[k])[12]? = some (.int .u64 L[k].stored):=rfl
     have g13:(enc L[k])[13]? = some (.int .u64 L[k].aS):=rfl
     have g10:(enc L[k])[10]? = some (.int .u64 L[k].v.df):=rfl
     have gid:((enc L[k]).drop 1).take 4=[.int .i64 L[k].v.id.kind,.str L[k].v.id.text,.str L[k].v.id.host,.int .i64 L[k].v.id.port]:=rfl
     have hid:=nD L[k].v.id
     unfold ix at hid
     have qR:=qp L[k].stored L[k].v.df
     have rW:∀ (b2:List ax),b.length≤b2.length→SC Tryz.V 27 [.agg (cN L[k].v)] b2 (fun r b'=>r=.bool (ie L[k].v)∧b'=b2):=fun b2 h2=>qg (wW _ (zOa c)).1 (kV h2 _ (wW _ (zOa c)).2)
     by_cases k0:k=0
     ·have oM:decide (0<(k:Int))=false:=by simp[k0]
      have bZ:okE L k=(ie L[k].v&&(cO L[k].v.id&&L[k].aS==kf L[k].stored L[k].v.df)):=by subst k0;exact E1 c
      cases cc:ie L[k].v
      ·rw[iq c (by rw[bZ,cc];simp)]at hS
       simp only[ad,↓Xn,↓Xo,↓Xg,↓Xd,↓Xe,↓Xf,Tryz.VΓ,Tryz.Γs,Xp,Xi,Nat.reduceAdd,Nat.reduceSub,Nat.reduceLT,Nat.reduceLeDiff,reduceIte,reduceCtorEq,Nat.reduceEqDiff,implies_true,forall_const,aa,av,beq_self_eq_true,bne_self_eq_false,Int.reduceBEq,Int.reduceBNe,Int.reduceLT,Int.reduceLE,l1,l22,l23,l24,ci,dp,dW,fh,fP,g0,g1,g12,g13,g10,gid,pc,af pc,af dp,oM]
       refine⟨⟨by omega,by omega⟩,by rw[aT];omega,ic,aq (by kernel_rfl),?_⟩
       refine bC [] (rW _ (by simp;have:=cw.1;omega)) (fun _ _ _=>rfl) ?_
       simp only[ad,↓Xn,↓Xo,↓Xg,↓Xd,↓Xe,↓Xf,Tryz.VΓ,Tryz.Γs,Xp,Xi,Nat.reduceAdd,Nat.reduceSub,Nat.reduceLT,Nat.reduceLeDiff,reduceIte,reduceCtorEq,Nat.reduceEqDiff,implies_true,forall_const,aa,av,beq_self_eq_true,bne_self_eq_false,Int.reduceBEq,Int.reduceBNe,Int.reduceLT,Int.reduceLE,l1,l22,l23,l24,ci,dp,dW,fh,fP,g0,g1,g12,g13,g10,gid,pc,af pc,af dp,oM,cc,hS]
       exact⟨aq (by kernel_rfl),cw.app _⟩
      ·cases cv:cO L[k].v.id
       ·rw[iq c (by rw[bZ,cv];simp)]at hS
        simp only[ad,↓Xn,↓Xo,↓Xg,↓Xd,↓Xe,↓Xf,Tryz.VΓ,Tryz.Γs,Xp,Xi,Nat.reduceAdd,Nat.reduceSub,Nat.reduceLT,Nat.reduceLeDiff,reduceIte,reduceCtorEq,Nat.reduceEqDiff,implies_true,forall_const,aa,av,beq_self_eq_true,bne_self_eq_false,Int.reduceBEq,Int.reduceBNe,Int.reduceLT,Int.reduceLE,l1,l22,l23,l24,ci,dp,dW,fh,fP,g0,g1,g12,g13,g10,gid,pc,af pc,af dp,oM]
        refine⟨⟨by omega,by omega⟩,by rw[aT];omega,ic,aq (by kernel_rfl),?_⟩
        refine bC [] (rW _ (by simp;have:=cw.1;omega)) (fun _ _ _=>rfl) ?_
        simp only[ad,↓Xn,↓Xo,↓Xg,↓Xd,↓Xe,↓Xf,Tryz.VΓ,Tryz.Γs,Xp,Xi,Nat.reduceAdd,Nat.reduceSub,Nat.reduceLT,Nat.reduceLeDiff,reduceIte,reduceCtorEq,Nat.reduceEqDiff,implies_true,forall_const,aa,av,beq_self_eq_true,bne_self_eq_false,Int.reduceBEq,Int.reduceBNe,Int.reduceLT,Int.reduceLE,l1,l22,l23,l24,ci,dp,dW,fh,fP,g0,g1,g12,g13,g10,gid,pc,af pc,af dp,oM,cc,hS]
        rw[cv]at hid
        refine aU hid ?_
        simp only[ad,↓Xn,↓Xo,↓Xg,↓Xd,↓Xe,↓Xf,Tryz.VΓ,Tryz.Γs,Xp,Xi,Nat.reduceAdd,Nat.reduceSub,Nat.reduceLT,Nat.reduceLeDiff,reduceIte,reduceCtorEq,Nat.reduceEqDiff,implies_true,forall_const,aa,av,beq_self_eq_true,bne_self_eq_false,Int.reduceBEq,Int.reduceBNe,Int.reduceLT,Int.reduceLE,l1,l22,l23,l24,ci,dp,dW,fh,fP,g0,g1,g12,g13,g10,gid,pc,af pc,af dp,oM,cc,cv,hS]
        exact⟨aq (by kernel_rfl),cw.app _⟩
       ·rw[cv]at hid
        cases ce:(L[k].aS != kf L[k].stored L[k].v.df)
        ·simp only[ad,↓Xn,↓Xo,↓Xg,↓Xd,↓Xe,↓Xf,Tryz.VΓ,Tryz.Γs,Xp,Xi,Nat.reduceAdd,Nat.reduceSub,Nat.reduceLT,Nat.reduceLeDiff,reduceIte,reduceCtorEq,Nat.reduceEqDiff,implies_true,forall_const,aa,av,beq_self_eq_true,bne_self_eq_false,Int.reduceBEq,Int.reduceBNe,Int.reduceLT,Int.reduceLE,l1,l22,l23,l24,ci,dp,dW,fh,fP,g0,g1,g12,g13,g10,gid,pc,af pc,af dp,oM]
         refine⟨⟨by omega,by omega⟩,by rw[aT];omega,ic,aq (by kernel_rfl),?_⟩
         refine bC [] (rW _ (by simp;have:=cw.1;omega)) (fun _ _ _=>rfl) ?_
         simp only[ad,↓Xn,↓Xo,↓Xg,↓Xd,↓Xe,↓Xf,Tryz.VΓ,Tryz.Γs,Xp,Xi,Nat.reduceAdd,Nat.reduceSub,Nat.reduceLT,Nat.reduceLeDiff,reduceIte,reduceCtorEq,Nat.reduceEqDiff,implies_true,forall_const,aa,av,beq_self_eq_true,bne_self_eq_false,Int.reduceBEq,Int.reduceBNe,Int.reduceLT,Int.reduceLE,l1,l22,l23,l24,ci,dp,dW,fh,fP,g0,g1,g12,g13,g10,gid,pc,af pc,af dp,oM,cc]
         refine aU hid ?_
         simp only[ad,↓Xn,↓Xo,↓Xg,↓Xd,↓Xe,↓Xf,Tryz.VΓ,Tryz.Γs,Xp,Xi,Nat.reduceAdd,Nat.reduceSub,Nat.reduceLT,Nat.reduceLeDiff,reduceIte,reduceCtorEq,Nat.reduceEqDiff,implies_true,forall_const,aa,av,beq_self_eq_true,bne_self_eq_false,Int.reduceBEq,Int.reduceBNe,Int.reduceLT,Int.reduceLE,l1,l22,l23,l24,ci,dp,dW,fh,fP,g0,g1,g12,g13,g10,gid,pc,af pc,af dp,oM,cc,cv]
         refine aU qR ?_
         simp only[ad,↓Xn,↓Xo,↓Xg,↓Xd,↓Xe,↓Xf,Tryz.VΓ,Tryz.Γs,Xp,Xi,Nat.reduceAdd,Nat.reduceSub,Nat.reduceLT,Nat.reduceLeDiff,reduceIte,reduceCtorEq,Nat.reduceEqDiff,implies_true,forall_const,aa,av,beq_self_eq_true,bne_self_eq_false,Int.reduceBEq,Int.reduceBNe,Int.reduceLT,Int.reduceLE,l1,l22,l23,l24,ci,dp,dW,fh,fP,g0,g1,g12,g13,g10,gid,pc,af pc,af dp,oM,cc,cv,ce]
         refine⟨aq (by kernel_rfl),by omega,⟨k+1,rfl,by omega,cw.app _,fun i hi=>?_⟩,?_⟩
         ·by_cases e:i=k
          ·subst e
           have ce':(L[i].aS==kf L[i].stored L[i].v.df)=true:=by simpa using ce
           rw[bZ,cc,cv,ce'];rfl
          ·exact aR i (by omega)
         ·rw[az (show lk 24 _=some (.int .i64 ((k+1:Nat):Int)) from rfl)];omega
        ·rw[iq c (by rw[bZ];simp at ce;simp[ce])]at hS
         simp only[ad,↓Xn,↓Xo,↓Xg,↓Xd,↓Xe,↓Xf,Tryz.VΓ,Tryz.Γs,Xp,Xi,Nat.reduceAdd,Nat.reduceSub,Nat.reduceLT,Nat.reduceLeDiff,reduceIte,reduceCtorEq,Nat.reduceEqDiff,implies_true,forall_const,aa,av,beq_self_eq_true,bne_self_eq_false,Int.reduceBEq,Int.reduceBNe,Int.reduceLT,Int.reduceLE,l1,l22,l23,l24,ci,dp,dW,fh,fP,g0,g1,g12,g13,g10,gid,pc,af pc,af dp,oM]
         refine⟨⟨by omega,by omega⟩,by rw[aT];omega,ic,aq (by kernel_rfl),?_⟩
         refine bC [] (rW _ (by simp;have:=cw.1;omega)) (fun _ _ _=>rfl) ?_
         simp only[ad,↓Xn,↓Xo,↓Xg,↓Xd,↓Xe,↓Xf,Tryz.VΓ,Tryz.Γs,Xp,Xi,Nat.reduceAdd,Nat.reduceSub,Nat.reduceLT,Nat.reduceLeDiff,reduceIte,reduceCtorEq,Nat.reduceEqDiff,implies_true,forall_const,aa,av,beq_self_eq_true,bne_self_eq_false,Int.reduceBEq,Int.reduceBNe,Int.reduceLT,Int.reduceLE,l1,l22,l23,l24,ci,dp,dW,fh,fP,g0,g1,g12,g13,g10,gid,pc,af pc,af dp,oM,cc,hS]
         refine aU hid ?_
         simp only[ad,↓Xn,↓Xo,↓Xg,↓Xd,↓Xe,↓Xf,Tryz.VΓ,Tryz.Γs,Xp,Xi,Nat.reduceAdd,Nat.reduceSub,Nat.reduceLT,Nat.reduceLeDiff,reduceIte,reduceCtorEq,Nat.reduceEqDiff,implies_true,forall_const,aa,av,beq_self_eq_true,bne_self_eq_false,Int.reduceBEq,Int.reduceBNe,Int.reduceLT,Int.reduceLE,l1,l22,l23,l24,ci,dp,dW,fh,fP,g0,g1,g12,g13,g10,gid,pc,af pc,af dp,oM,cc,cv,hS]
         refine aU qR ?_
         simp only[ad,↓Xn,↓Xo,↓Xg,↓Xd,↓Xe,↓Xf,Tryz.VΓ,Tryz.Γs,Xp,Xi,Nat.reduceAdd,Nat.reduceSub,Nat.reduceLT,Nat.reduceLeDiff,reduceIte,reduceCtorEq,Nat.reduceEqDiff,implies_true,forall_const,aa,av,beq_self_eq_true,bne_self_eq_false,Int.reduceBEq,Int.reduceBNe,Int.reduceLT,Int.reduceLE,l1,l22,l23,l24,ci,dp,dW,fh,fP,g0,g1,g12,g13,g10,gid,pc,af pc,af dp,oM,cc,cv,ce,hS]
         exact⟨aq (by kernel_rfl),cw.app _⟩
     ·have oM:decide (0<(k:Int))=true:=by simp;omega
      obtain⟨p,rfl⟩:∃ p,k=p+1:=⟨k - 1,by omega⟩
      have bZ:=E0 c
      have qL:((p+1:Nat):Int) - 1=(p:Int):=by omega
      have gp:(L.flatMap enc)[p * 14+2]? = some (.str (L[p]'(by omega)).key):=(iO L p (by omega) 2 (by omega)).trans rfl
      cases hd:blt (L[p]'(by omega)).key L[p+1].key
      ·rw[iq c (by rw[bZ,hd];simp)]at hS
       simp only[ad,↓Xn,↓Xo,↓Xg,↓Xd,↓Xe,↓Xf,Tryz.VΓ,Tryz.Γs,Xp,Xi,Nat.reduceAdd,Nat.reduceSub,Nat.reduceLT,Nat.reduceLeDiff,reduceIte,reduceCtorEq,Nat.reduceEqDiff,implies_true,forall_const,aa,av,beq_self_eq_true,bne_self_eq_false,Int.reduceBEq,Int.reduceBNe,Int.reduceLT,Int.reduceLE,l1,l22,l23,l24,ci,dp,dW,fh,fP,g0,g1,g12,g13,g10,gid,pc,af pc,af dp,oM,qL,gp,hd,hS]
       exact⟨⟨by omega,by omega⟩,by rw[aT];omega,ic,⟨by omega,by omega⟩,⟨by omega,by omega⟩,by rw[aT];omega,aq (by kernel_rfl),cw.app _⟩
      ·have hO:p+1=p+1:=rfl
       cases cc:ie L[p+1].v
       ·rw[iq c (by rw[bZ,cc];simp)]at hS
        simp only[ad,↓Xn,↓Xo,↓Xg,↓Xd,↓Xe,↓Xf,Tryz.VΓ,Tryz.Γs,Xp,Xi,Nat.reduceAdd,Nat.reduceSub,Nat.reduceLT,Nat.reduceLeDiff,reduceIte,reduceCtorEq,Nat.reduceEqDiff,implies_true,forall_const,aa,av,beq_self_eq_true,bne_self_eq_false,Int.reduceBEq,Int.reduceBNe,Int.reduceLT,Int.reduceLE,l1,l22,l23,l24,ci,dp,dW,fh,fP,g0,g1,g12,g13,g10,gid,pc,af pc,af dp,oM,qL,gp,hd]
        refine⟨⟨by omega,by omega⟩,by rw[aT];omega,ic,⟨by omega,by omega⟩,⟨by omega,by omega⟩,by rw[aT];omega,aq (by kernel_rfl),?_⟩
        refine bC [] (rW _ (by simp;have:=cw.1;omega)) (fun _ _ _=>rfl) ?_
        simp only[ad,↓Xn,↓Xo,↓Xg,↓Xd,↓Xe,↓Xf,Tryz.VΓ,Tryz.Γs,Xp,Xi,Nat.reduceAdd,Nat.reduceSub,Nat.reduceLT,Nat.reduceLeDiff,reduceIte,reduceCtorEq,Nat.reduceEqDiff,implies_true,forall_const,aa,av,beq_self_eq_true,bne_self_eq_false,Int.reduceBEq,Int.reduceBNe,Int.reduceLT,Int.reduceLE,l1,l22,l23,l24,ci,dp,dW,fh,fP,g0,g1,g12,g13,g10,gid,pc,af pc,af dp,oM,qL,gp,hd,cc,hS]
        exact⟨aq (by kernel_rfl),cw.app _⟩
       ·cases cv:cO L[p+1].v.id
        ·rw[iq c (by rw[bZ,cv];simp)]at hS
         simp only[ad,↓Xn,↓Xo,↓Xg,↓Xd,↓Xe,↓Xf,Tryz.VΓ,Tryz.Γs,Xp,Xi,Nat.reduceAdd,Nat.reduceSub,Nat.reduceLT,Nat.reduceLeDiff,reduceIte,reduceCtorEq,Nat.reduceEqDiff,implies_true,forall_const,aa,av,beq_self_eq_true,bne_self_eq_false,Int.reduceBEq,Int.reduceBNe,Int.reduceLT,Int.reduceLE,l1,l22,l23,l24,ci,dp,dW,fh,fP,g0,g1,g12,g13,g10,gid,pc,af pc,af dp,oM,qL,gp,hd]
         refine⟨⟨by omega,by omega⟩,by rw[aT];omega,ic,⟨by omega,by omega⟩,⟨by omega,by omega⟩,by rw[aT];omega,aq (by kernel_rfl),?_⟩
         refine bC [] (rW _ (by simp;have:=cw.1;omega)) (fun _ _ _=>rfl) ?_
         simp only[ad,↓Xn,↓Xo,↓Xg,↓Xd,↓Xe,↓Xf,Tryz.VΓ,Tryz.Γs,Xp,Xi,Nat.reduceAdd,Nat.reduceSub,Nat.reduceLT,Nat.reduceLeDiff,reduceIte,reduceCtorEq,Nat.reduceEqDiff,implies_true,forall_const,aa,av,beq_self_eq_true,bne_self_eq_false,Int.reduceBEq,Int.reduceBNe,Int.reduceLT,Int.reduceLE,l1,l22,l23,l24,ci,dp,dW,fh,fP,g0,g1,g12,g13,g10,gid,pc,af pc,af dp,oM,qL,gp,hd,cc,hS]
         rw[cv]at hid
         refine aU hid ?_
         simp only[ad,↓Xn,↓Xo,↓Xg,↓Xd,↓Xe,↓Xf,Tryz.VΓ,Tryz.Γs,Xp,Xi,Nat.reduceAdd,Nat.reduceSub,Nat.reduceLT,Nat.reduceLeDiff,reduceIte,reduceCtorEq,Nat.reduceEqDiff,implies_true,forall_const,aa,av,beq_self_eq_true,bne_self_eq_false,Int.reduceBEq,Int.reduceBNe,Int.reduceLT,Int.reduceLE,l1,l22,l23,l24,ci,dp,dW,fh,fP,g0,g1,g12,g13,g10,gid,pc,af pc,af dp,oM,qL,gp,hd,cc,cv,hS]
         exact⟨aq (by kernel_rfl),cw.app _⟩
        ·rw[cv]at hid
         cases ce:(L[p+1].aS != kf L[p+1].stored L[p+1].v.df)
         ·simp only[ad,↓Xn,↓Xo,↓Xg,↓Xd,↓Xe,↓Xf,Tryz.VΓ,Tryz.Γs,Xp,Xi,Nat.reduceAdd,Nat.reduceSub,Nat.reduceLT,Nat.reduceLeDiff,reduceIte,reduceCtorEq,Nat.reduceEqDiff,implies_true,forall_const,aa,av,beq_self_eq_true,bne_self_eq_false,Int.reduceBEq,Int.reduceBNe,Int.reduceLT,Int.reduceLE,l1,l22,l23,l24,ci,dp,dW,fh,fP,g0,g1,g12,g13,g10,gid,pc,af pc,af dp,oM,qL,gp,hd]
          refine⟨⟨by omega,by omega⟩,by rw[aT];omega,ic,⟨by omega,by omega⟩,⟨by omega,by omega⟩,by rw[aT];omega,aq (by kernel_rfl),?_⟩
          refine bC [] (rW _ (by simp;have:=cw.1;omega)) (fun _ _ _=>rfl) ?_
          simp only[ad,↓Xn,↓Xo,↓Xg,↓Xd,↓Xe,↓Xf,Tryz.VΓ,Tryz.Γs,Xp,Xi,Nat.reduceAdd,Nat.reduceSub,Nat.reduceLT,Nat.reduceLeDiff,reduceIte,reduceCtorEq,Nat.reduceEqDiff,implies_true,forall_const,aa,av,beq_self_eq_true,bne_self_eq_false,Int.reduceBEq,Int.reduceBNe,Int.reduceLT,Int.reduceLE,l1,l22,l23,l24,ci,dp,dW,fh,fP,g0,g1,g12,g13,g10,gid,pc,af pc,af dp,oM,qL,gp,hd,cc]
          refine aU hid ?_
          simp only[ad,↓Xn,↓Xo,↓Xg,↓Xd,↓Xe,↓Xf,Tryz.VΓ,Tryz.Γs,Xp,Xi,Nat.reduceAdd,Nat.reduceSub,Nat.reduceLT,Nat.reduceLeDiff,reduceIte,reduceCtorEq,Nat.reduceEqDiff,implies_true,forall_const,aa,av,beq_self_eq_true,bne_self_eq_false,Int.reduceBEq,Int.reduceBNe,Int.reduceLT,Int.reduceLE,l1,l22,l23,l24,ci,dp,dW,fh,fP,g0,g1,g12,g13,g10,gid,pc,af pc,af dp,oM,qL,gp,hd,cc,cv]
          refine aU qR ?_
          simp only[ad,↓Xn,↓Xo,↓Xg,↓Xd,↓Xe,↓Xf,Tryz.VΓ,Tryz.Γs,Xp,Xi,Nat.reduceAdd,Nat.reduceSub,Nat.reduceLT,Nat.reduceLeDiff,reduceIte,reduceCtorEq,Nat.reduceEqDiff,implies_true,forall_const,aa,av,beq_self_eq_true,bne_self_eq_false,Int.reduceBEq,Int.reduceBNe,Int.reduceLT,Int.reduceLE,l1,l22,l23,l24,ci,dp,dW,fh,fP,g0,g1,g12,g13,g10,gid,pc,af pc,af dp,oM,qL,gp,hd,cc,cv,ce]
          refine⟨aq (by kernel_rfl),by omega,⟨p+1+1,rfl,by omega,cw.app _,fun i hi=>?_⟩,?_⟩
          ·by_cases e:i=p+1
           ·rw[e]
            have ce':(L[p+1].aS==kf L[p+1].stored L[p+1].v.df)=true:=by simpa using ce
            rw[bZ,hd,cc,cv,ce'];rfl
           ·exact aR i (by omega)
          ·rw[az (show lk 24 _=some (.int .i64 ((p+1+1:Nat):Int)) from rfl)];omega
         ·rw[iq c (by rw[bZ];simp at ce;simp[ce])]at hS
          simp only[ad,↓Xn,↓Xo,↓Xg,↓Xd,↓Xe,↓Xf,Tryz.VΓ,Tryz.Γs,Xp,Xi,Nat.reduceAdd,Nat.reduceSub,Nat.reduceLT,Nat.reduceLeDiff,reduceIte,reduceCtorEq,Nat.reduceEqDiff,implies_true,forall_const,aa,av,beq_self_eq_true,bne_self_eq_false,Int.reduceBEq,Int.reduceBNe,Int.reduceLT,Int.reduceLE,l1,l22,l23,l24,ci,dp,dW,fh,fP,g0,g1,g12,g13,g10,gid,pc,af pc,af dp,oM,qL,gp,hd]
          refine⟨⟨by omega,by omega⟩,by rw[aT];omega,ic,⟨by omega,by omega⟩,⟨by omega,by omega⟩,by rw[aT];omega,aq (by kernel_rfl),?_⟩
          refine bC [] (rW _ (by simp;have:=cw.1;omega)) (fun _ _ _=>rfl) ?_
          simp only[ad,↓Xn,↓Xo,↓Xg,↓Xd,↓Xe,↓Xf,Tryz.VΓ,Tryz.Γs,Xp,Xi,Nat.reduceAdd,Nat.reduceSub,Nat.reduceLT,Nat.reduceLeDiff,reduceIte,reduceCtorEq,Nat.reduceEqDiff,implies_true,forall_const,aa,av,beq_self_eq_true,bne_self_eq_false,Int.reduceBEq,Int.reduceBNe,Int.reduceLT,Int.reduceLE,l1,l22,l23,l24,ci,dp,dW,fh,fP,g0,g1,g12,g13,g10,gid,pc,af pc,af dp,oM,qL,gp,hd,cc,hS]
          refine aU hid ?_
          simp only[ad,↓Xn,↓Xo,↓Xg,↓Xd,↓Xe,↓Xf,Tryz.VΓ,Tryz.Γs,Xp,Xi,Nat.reduceAdd,Nat.reduceSub,Nat.reduceLT,Nat.reduceLeDiff,reduceIte,reduceCtorEq,Nat.reduceEqDiff,implies_true,forall_const,aa,av,beq_self_eq_true,bne_self_eq_false,Int.reduceBEq,Int.reduceBNe,Int.reduceLT,Int.reduceLE,l1,l22,l23,l24,ci,dp,dW,fh,fP,g0,g1,g12,g13,g10,gid,pc,af pc,af dp,oM,qL,gp,hd,cc,cv,hS]
          refine aU qR ?_
          simp only[ad,↓Xn,↓Xo,↓Xg,↓Xd,↓Xe,↓Xf,Tryz.VΓ,Tryz.Γs,Xp,Xi,Nat.reduceAdd,Nat.reduceSub,Nat.reduceLT,Nat.reduceLeDiff,reduceIte,reduceCtorEq,Nat.reduceEqDiff,implies_true,forall_const,aa,av,beq_self_eq_true,bne_self_eq_false,Int.reduceBEq,Int.reduceBNe,Int.reduceLT,Int.reduceLE,l1,l22,l23,l24,ci,dp,dW,fh,fP,g0,g1,g12,g13,g10,gid,pc,af pc,af dp,oM,qL,gp,hd,cc,cv,ce,hS]
          exact⟨aq (by kernel_rfl),cw.app _⟩
    ·have ci:decide ((k:Int)<(L.length:Int))=false:=by simpa using c
     obtain rfl:k=L.length:=by omega
     rw[ud c1 c2 c3 aR]at hS
     simp only[ad,↓Xn,↓Xo,↓Xg,↓Xd,↓Xe,↓Xf,Tryz.VΓ,Tryz.Γs,Xp,Xi,Nat.reduceAdd,Nat.reduceSub,Nat.reduceLT,Nat.reduceLeDiff,reduceIte,reduceCtorEq,Nat.reduceEqDiff,implies_true,forall_const,aa,av,beq_self_eq_true,bne_self_eq_false,Int.reduceBEq,Int.reduceBNe,Int.reduceLT,Int.reduceLE,l1,l22,l23,l24,ci,hS]
     exact cw
   ·have hS:ir cp L=false:=by unfold ir;rw[c1,c2,c3];rfl
    rw[hS]
    simp only[ad,↓Xn,↓Xo,↓Xg,↓Xd,↓Xe,↓Xf,Tryz.VΓ,Tryz.Γs,Xp,Xi,Nat.reduceAdd,Nat.reduceSub,Nat.reduceLT,Nat.reduceLeDiff,reduceIte,reduceCtorEq,Nat.reduceEqDiff,implies_true,forall_const,aa,av,beq_self_eq_true,bne_self_eq_false,Int.reduceBEq,Int.reduceBNe,Int.reduceLT,Int.reduceLE,ho,eO,c1,c2,c3]
    exact(Kp.refl _).app _
  ·have hS:ir cp L=false:=by unfold ir;rw[c1,c2];rfl
   rw[hS]
   simp only[ad,↓Xn,↓Xo,↓Xg,↓Xd,↓Xe,↓Xf,Tryz.VΓ,Tryz.Γs,Xp,Xi,Nat.reduceAdd,Nat.reduceSub,Nat.reduceLT,Nat.reduceLeDiff,reduceIte,reduceCtorEq,Nat.reduceEqDiff,implies_true,forall_const,aa,av,beq_self_eq_true,bne_self_eq_false,Int.reduceBEq,Int.reduceBNe,Int.reduceLT,Int.reduceLE,ho,eO,c1,c2]
   exact(Kp.refl _).app _
 ·have hS:ir cp L=false:=by unfold ir;rw[c1];rfl
  rw[hS]
  simp only[ad,↓Xn,↓Xo,↓Xg,↓Xd,↓Xe,↓Xf,Tryz.VΓ,Tryz.Γs,Xp,Xi,Nat.reduceAdd,Nat.reduceSub,Nat.reduceLT,Nat.reduceLeDiff,reduceIte,reduceCtorEq,Nat.reduceEqDiff,implies_true,forall_const,aa,av,beq_self_eq_true,bne_self_eq_false,Int.reduceBEq,Int.reduceBNe,Int.reduceLT,Int.reduceLE,ho,eO,c1]
  exact(Kp.refl _).app _
end
open Go Vc Go.RowKit Wf
section
variable {b:List ax} {v:Vd} {L:List En} {m:Bool} {cp:Int}
end
open Go Vc Go.RowKit Wf
section
variable {b:List ax} {L M:List En} {m m':Bool} {cp:Int}
theorem nr {x y:SV}(h:fT b x L m)(k:fT b y M m')(hl:L.length≤1000000)(hlen:M.length=L.length)(h1:∀ e∈L,one e.v.tr=true)(k1:∀ e∈M,one e.v.tr=true)
 (hs:∀ (i:Nat) (hi:i<L.length),L[i].stored=(M[i]'(by omega)).stored∧L[i].aS=(M[i]'(by omega)).aS∧∀ b2,Kp b b2→SC Tryz.V 22 [.agg (cN L[i].v),.agg (cN (M[i]'(by omega)).v)] b2 (fun r b'=>r=.bool true∧b'=b2)) :
 SC Tryz.V 13 [.agg [.int .i64 cp,x],.agg [.int .i64 cp,y]] b (fun r b'=>r=.bool true∧b'=b):=by
 refine dw rfl ?_
 have hw:=h.within
 have ho:=h.one
 have kw:=k.within
 have ko:=k.one
 have eO:∀ e,mc (.slice e) x=some (.int .i64 L.length):=fun e=>by
  rcases h with⟨rfl,rfl⟩|⟨q,rfl,-⟩ <;> rfl
 have hleny:∀ e,mc (.slice e) y=some (.int .i64 L.length):=fun e=>by
  rw[← hlen]
  rcases k with⟨rfl,rfl⟩|⟨q,rfl,-⟩ <;> rfl
 refine cz 3000 Tryz.func13 rfl Tryz.ntmps13 Tryz.results13 Tryz.call13 (by simp) (aw b.length _ (by simp[within,within.ay,hw,kw])) ?_
 have e1:(cp != cp)=false:=by simp
 have e2:((L.length:Int) != (L.length:Int))=false:=by simp
 simp only[ad,↓Xn,↓Xo,↓Xg,↓Xd,↓Xe,↓Xf,Tryz.VΓ,Tryz.Γs,Xp,Xi,Nat.reduceAdd,Nat.reduceSub,Nat.reduceLT,Nat.reduceLeDiff,reduceIte,reduceCtorEq,Nat.reduceEqDiff,implies_true,forall_const,aa,av,beq_self_eq_true,bne_self_eq_false,Int.reduceBEq,Int.reduceBNe,Int.reduceLT,Int.reduceLE,ho,ko,eO,hleny,e1,e2]
 refine aM (fun σ=>∃ (i:Nat),lk 2 σ.t=some (.p b.length 0)∧lk 3 σ.t=some (.p (b.length+1) 0)∧lk 22 σ.t=some (.int .i64 L.length)∧lk 23 σ.t=some (.int .i64 i)∧i≤L.length∧Kp b σ.b∧σ.b[b.length]? = some (.cells [.int .i64 cp,x] 24 true)∧σ.b[b.length+1]? = some (.cells [.int .i64 cp,y] 24 true)) (fun σ=>L.length - ja 23 σ) ⟨0,rfl,rfl,rfl,rfl,by omega,(Kp.refl _).app _,aZ rfl _ 0,aZ rfl _ 1⟩ ?_
 rintro⟨t1,b1⟩ ⟨i,l2,l3,l22,l23,hi,cw,pc,pd⟩
 simp only at l2 l3 l22 l23 cw pc pd
 rw[az l23]
 by_cases c:i<L.length
 ·have ci:decide ((i:Int)<(L.length:Int))=true:=by simpa using c
  have c2:i<M.length:=by omega
  obtain⟨q,rfl,hq⟩:∃ q,x=.o q L.length∧b[q]? = some (.own (L.flatMap enc) 43 14 L.length m):=by
   rcases h with⟨rfl,rfl⟩|h
   ·simp at c
   ·exact h
  obtain⟨q2,rfl,pN⟩:∃ q2,y=.o q2 M.length∧b[q2]? = some (.own (M.flatMap enc) 43 14 M.length m'):=by
   rcases k with⟨rfl,rfl⟩|k
   ·simp at c2
   ·exact k
  rw[hlen]at pd pN
  have dp:=cw.at hq
  have pM:=cw.at pN
  obtain⟨s1,s2,s3⟩:=hs i c
  have g1:(L.flatMap enc)[i * 14+12]? = some (.int .u64 L[i].stored):=(iO L i c 12 (by omega)).trans rfl
  have g2:(L.flatMap enc)[i * 14+13]? = some (.int .u64 L[i].aS):=(iO L i c 13 (by omega)).trans rfl
  have k1':(M.flatMap enc)[i * 14+12]? = some (.int .u64 L[i].stored):=by rw[s1];exact(iO M i c2 12 (by omega)).trans rfl
  have k2':(M.flatMap enc)[i * 14+13]? = some (.int .u64 L[i].aS):=by rw[s2];exact(iO M i c2 13 (by omega)).trans rfl
  have Fc:=tS L i c
  have hv2:=tS M i c2
  have n1:(L[i].stored != L[i].stored)=false:=by simp
  have n2:(L[i].aS != L[i].aS)=false:=by simp
  have mJ:=aT L
  have Jl:=aT M
  simp only[ad,↓Xn,↓Xo,↓Xg,↓Xd,↓Xe,↓Xf,Tryz.VΓ,Tryz.Γs,Xp,Xi,Nat.reduceAdd,Nat.reduceSub,Nat.reduceLT,Nat.reduceLeDiff,reduceIte,reduceCtorEq,Nat.reduceEqDiff,implies_true,forall_const,aa,av,beq_self_eq_true,bne_self_eq_false,Int.reduceBEq,Int.reduceBNe,Int.reduceLT,Int.reduceLE,l2,l3,l22,l23,ci,dp,pM,pc,pd,g1,g2,k1',k2',Fc,hv2,n1,n2]
  refine⟨⟨by omega,by omega⟩,by rw[mJ];omega,⟨by omega,by omega⟩,by rw[Jl,hlen];omega,⟨by omega,by omega⟩,by rw[mJ];omega,⟨by omega,by omega⟩,by rw[Jl,hlen];omega,⟨by omega,by omega⟩,by rw[mJ];omega,⟨by omega,by omega⟩,by rw[Jl,hlen];omega,?_⟩
  refine bC [] (s3 _ cw) (fun _ _ _=>rfl) ?_
  simp only[ad,↓Xn,↓Xo,↓Xg,↓Xd,↓Xe,↓Xf,Tryz.VΓ,Tryz.Γs,Xp,Xi,Nat.reduceAdd,Nat.reduceSub,Nat.reduceLT,Nat.reduceLeDiff,reduceIte,reduceCtorEq,Nat.reduceEqDiff,implies_true,forall_const,aa,av,beq_self_eq_true,bne_self_eq_false,Int.reduceBEq,Int.reduceBNe,Int.reduceLT,Int.reduceLE,l2,l3,l22,l23,ci,dp,pM,pc,pd,n1,n2]
  refine⟨aq (by kernel_rfl),by omega,⟨i+1,rfl,by omega,cw,by simp[hlen]⟩,?_⟩
  rw[az (show lk 23 _=some (.int .i64 ((i+1:Nat):Int)) from rfl)];omega
 ·have ci:decide ((i:Int)<(L.length:Int))=false:=by simpa using c
  simp only[ad,↓Xn,↓Xo,↓Xg,↓Xd,↓Xe,↓Xf,Tryz.VΓ,Tryz.Γs,Xp,Xi,Nat.reduceAdd,Nat.reduceSub,Nat.reduceLT,Nat.reduceLeDiff,reduceIte,reduceCtorEq,Nat.reduceEqDiff,implies_true,forall_const,aa,av,beq_self_eq_true,bne_self_eq_false,Int.reduceBEq,Int.reduceBNe,Int.reduceLT,Int.reduceLE,l2,l3,l22,l23,ci]
  exact cw
def lr (t:Bytes)(now:Int)(e:En):Bool:=e.key==t&&(decide (e.stored≤now)&&decide (now<e.aS))
def Cp (L:List En)(t:Bytes)(now:Int):Vd × Bool:=match L.find? (lr t now) with
 | some e=>(e.v,true)
 | none=>(zeroV,false)
theorem Co {t:Bytes}{now:Int}{k:Nat}(hk:k<L.length)(h:lr t now L[k]=true)(hn:∀ j (hj:j<L.length),j<k→lr t now L[j]=false):Cp L t now=(L[k].v,true):=by
 have:L.find? (lr t now)=some L[k]:=by
  rw[List.find?_eq_some_iff_getElem]
  exact⟨h,k,hk,rfl,fun j hj=>by rw[hn j (by omega) hj];rfl⟩
 unfold Cp;rw[this]
theorem se {t:Bytes}{now:Int}(hn:∀ j (hj:j<L.length),lr t now L[j]=false):Cp L t now=(zeroV,false):=by
 have:L.find? (lr t now)=none:=by
  rw[List.find?_eq_none]
  intro e he
  obtain⟨j,hj,rfl⟩:=List.mem_iff_getElem.1 he
  rw[hn j hj];simp
 unfold Cp;rw[this]
theorem getR_eq {t:Bytes}{now:Int}(ha:mT En.key L):Cp L t now=getM L t now:=by
 unfold getM
 cases hh:dC En.key L t
 ·rw[se fun j hj=>?_]
  ·split <;> simp
  ·unfold lr
   have:(L[j].key==t)=false:=by
    rw[beq_eq_false_iff_ne]
    intro e
    rw[← Bool.not_eq_true,jP]at hh
    exact hh ⟨_,zOa hj,e⟩
   rw[this];rfl
 ·obtain⟨hk,ia⟩:=(qQ ha).1 hh
  rw[zOo hk]
  have bn:∀ j (hj:j<L.length),j≠gq En.key L t→lr t now L[j]=false:=fun j hj hn=>by
   unfold lr
   have:(L[j].key==t)=false:=by
    rw[beq_eq_false_iff_ne]
    intro e
    have:=asc_key ha (zOa hj) (zOa hk) (e.trans ia.symm)
    have hnd:L.Nodup:=List.Pairwise.imp (fun {a c} h e=>by subst e;rw[kD]at h;cases h) ha
    exact hn ((List.getElem_inj hnd).1 this)
   rw[this];rfl
  have hit:lr t now L[gq En.key L t]=(!decide (now<L[gq En.key L t].stored)&&!decide (L[gq En.key L t].aS≤now)):=by
   unfold lr
   rw[ia,beq_self_eq_true,Bool.true_and,Bool.eq_iff_iff]
   simp
  simp only[Bool.true_and]
  rw[← hit]
  cases hc:lr t now L[gq En.key L t]
  ·rw[se fun j hj=>?_]
   ·simp
   ·by_cases e:j=gq En.key L t
    ·subst e;exact hc
    ·exact bn j hj e
  ·rw[Co hk hc fun j hj aB=>bn j hj (by omega)]
   simp
theorem Du {x:SV}{t:Bytes}{now:Int}(h:fT b x L m)(hl:L.length≤1000000)(hT:∀ e∈L,e.v.tr=.aE) :
 SC Tryz.V 21 [.agg [.int .i64 cp,x],.str t,.int .u64 now] b (fun r b'=>r=.eS [.agg (cN (Cp L t now).1),.bool (Cp L t now).2]∧Kp b b'):=by
 have hw:=h.within
 have ho:=h.one
 have eO:∀ e,mc (.slice e) x=some (.int .i64 L.length):=fun e=>by
  rcases h with⟨rfl,rfl⟩|⟨q,rfl,-⟩ <;> rfl
 obtain⟨G,hG⟩:∃ G,G=Cp L t now:=⟨_,rfl⟩
 rw[← hG]
 have hzv:cN zeroV=[.int .i64 0,.int .i64 0,.str [],.str [],.int .i64 0,.int .i64 0,.str [],.str [],.int .i64 0,.bool false,.int .u64 0,.aE]:=rfl
 refine cz 3000 Tryz.func21 rfl Tryz.ntmps21 Tryz.results21 Tryz.call21 (by simp) (aw b.length _ (by simp[within,within.ay,hw])) ?_
 simp only[ad,↓Xn,↓Xo,↓Xg,↓Xd,↓Xe,↓Xf,Tryz.VΓ,Tryz.Γs,Xp,Xi,Nat.reduceAdd,Nat.reduceSub,Nat.reduceLT,Nat.reduceLeDiff,reduceIte,reduceCtorEq,Nat.reduceEqDiff,implies_true,forall_const,aa,av,beq_self_eq_true,bne_self_eq_false,Int.reduceBEq,Int.reduceBNe,Int.reduceLT,Int.reduceLE,ho,eO]
 refine aM (fun σ=>∃ (k:Nat),lk 1 σ.t=some (.str t)∧lk 2 σ.t=some (.int .u64 now)∧lk 6 σ.t=some (.p (b.length+1) 0)∧lk 11 σ.t=some x∧lk 12 σ.t=some (.int .i64 L.length)∧lk 13 σ.t=some (.int .i64 k)∧k≤L.length∧Kp b σ.b∧σ.b[b.length+1]? = some (.cells (cN zeroV) 41 true)∧∀ j (hj:j<L.length),j<k→lr t now L[j]=false) (fun σ=>L.length - ja 13 σ) ⟨0,rfl,rfl,rfl,rfl,rfl,rfl,by omega,(Kp.refl _).app _,aZ rfl _ 1,fun j hj h=>by omega⟩ ?_
 rintro⟨t1,b1⟩ ⟨k,l1,l2,l6,l11,l12,l13,hk,cw,pc,gx⟩
 simp only at l1 l2 l6 l11 l12 l13 cw pc
 rw[az l13]
 have gE:∀ X,(b1.set (b.length+1) X)[b.length+1]? = some X:=fun X=>zOe (zN7.1 pc).1
 have kR:b.length+1<b1.length:=(zN7.1 pc).1
 by_cases c:k<L.length
 ·have ci:decide ((k:Int)<(L.length:Int))=true:=by simpa using c
  obtain⟨q,rfl,hq⟩:∃ q,x=.o q L.length∧b[q]? = some (.own (L.flatMap enc) 43 14 L.length m):=by
   rcases h with⟨rfl,rfl⟩|h
   ·simp at c
   ·exact h
  have dp:=cw.at hq
  have dW:=jg L k c
  have fh:(enc L[k]).length=14:=rfl
  have fP:(enc L[k]).take 14=enc L[k]:=zOc (by rw[fh];omega)
  have hvn:=hT _ (zOa c)
  have ic:(enc L[k]).all one=true:=by simp[enc,one,hvn]
  have g0:(enc L[k]).take 12=cN L[k].v:=rfl
  have g1:(enc L[k])[2]? = some (.str (En.key L[k])):=rfl
  have g12:(enc L[k])[12]? = some (.int .u64 L[k].stored):=rfl
  have g13:(enc L[k])[13]? = some (.int .u64 L[k].aS):=rfl
  have B0:=kG _ hvn
  have C4:(cN L[k].v).length=12:=rfl
  have hvt:(cN L[k].v).take 12=cN L[k].v:=zOc (by rw[C4];omega)
  have Fc:(cN L[k].v).all one=true:=by rw[B0];rfl
  have fY:∀ (l:List ax) Z,(b1++l).set (b.length+1) Z=b1.set (b.length+1) Z++l:=fun l Z=>bS kR l Z
  have Fi:lr t now L[k]=false→∀ j (hj:j<L.length),j<k+1→lr t now L[j]=false:=fun hf j hj hjk=>by
   by_cases e:j=k
   ·subst e;exact hf
   ·exact gx j hj (by omega)
  cases d1:(L[k].key==t)
  ·have hf:=Fi (by unfold lr;rw[d1];rfl)
   simp only[ad,↓Xn,↓Xo,↓Xg,↓Xd,↓Xe,↓Xf,Tryz.VΓ,Tryz.Γs,Xp,Xi,Nat.reduceAdd,Nat.reduceSub,Nat.reduceLT,Nat.reduceLeDiff,reduceIte,reduceCtorEq,Nat.reduceEqDiff,implies_true,forall_const,aa,av,beq_self_eq_true,bne_self_eq_false,Int.reduceBEq,Int.reduceBNe,Int.reduceLT,Int.reduceLE,l1,l2,l6,l11,l12,l13,ci,dp,dW,fh,fP,ic,g0,g1,g12,g13,d1]
   refine⟨⟨by omega,by omega⟩,by rw[aT];omega,by omega,⟨k+1,rfl,by omega,cw.app _,af pc _,hf⟩,?_⟩
   rw[az (show lk 13 _=some (.int .i64 ((k+1:Nat):Int)) from rfl)];omega
  ·cases d2:decide (L[k].stored≤now)
   ·have hf:=Fi (by unfold lr;rw[d1,d2];rfl)
    simp only[ad,↓Xn,↓Xo,↓Xg,↓Xd,↓Xe,↓Xf,Tryz.VΓ,Tryz.Γs,Xp,Xi,Nat.reduceAdd,Nat.reduceSub,Nat.reduceLT,Nat.reduceLeDiff,reduceIte,reduceCtorEq,Nat.reduceEqDiff,implies_true,forall_const,aa,av,beq_self_eq_true,bne_self_eq_false,Int.reduceBEq,Int.reduceBNe,Int.reduceLT,Int.reduceLE,l1,l2,l6,l11,l12,l13,ci,dp,dW,fh,fP,ic,g0,g1,g12,g13,d1,d2]
    refine⟨⟨by omega,by omega⟩,by rw[aT];omega,by omega,⟨k+1,rfl,by omega,cw.app _,af pc _,hf⟩,?_⟩
    rw[az (show lk 13 _=some (.int .i64 ((k+1:Nat):Int)) from rfl)];omega
   ·cases d3:decide (now<L[k].aS)
    ·have hf:=Fi (by unfold lr;rw[d1,d2,d3];rfl)
     simp only[ad,↓Xn,↓Xo,↓Xg,↓Xd,↓Xe,↓Xf,Tryz.VΓ,Tryz.Γs,Xp,Xi,Nat.reduceAdd,Nat.reduceSub,Nat.reduceLT,Nat.reduceLeDiff,reduceIte,reduceCtorEq,Nat.reduceEqDiff,implies_true,forall_const,aa,av,beq_self_eq_true,bne_self_eq_false,Int.reduceBEq,Int.reduceBNe,Int.reduceLT,Int.reduceLE,l1,l2,l6,l11,l12,l13,ci,dp,dW,fh,fP,ic,g0,g1,g12,g13,d1,d2,d3]
     refine⟨⟨by omega,by omega⟩,by rw[aT];omega,by omega,⟨k+1,rfl,by omega,cw.app _,af pc _,hf⟩,?_⟩
     rw[az (show lk 13 _=some (.int .i64 ((k+1:Nat):Int)) from rfl)];omega
    ·have hf:lr t now L[k]=true:=by unfold lr;rw[d1,d2,d3];rfl
     rw[Co c hf gx]at hG
     have I1:∀ Z,(b1.set (b.length+1) Z)[b.length+1]? = some Z:=gE
     rw[hzv]at pc
     rw[B0]at g0
     simp only[ad,↓Xn,↓Xo,↓Xg,↓Xd,↓Xe,↓Xf,Tryz.VΓ,Tryz.Γs,Xp,Xi,Nat.reduceAdd,Nat.reduceSub,Nat.reduceLT,Nat.reduceLeDiff,reduceIte,reduceCtorEq,Nat.reduceEqDiff,implies_true,forall_const,aa,av,beq_self_eq_true,bne_self_eq_false,Int.reduceBEq,Int.reduceBNe,Int.reduceLT,Int.reduceLE,l1,l2,l6,l11,l12,l13,ci,dp,dW,fh,fP,ic,g0,g1,g12,g13,d1,d2,d3,B0,C4,af pc,fY,af (I1 _),hG]
     refine⟨⟨by omega,by omega⟩,by rw[aT];omega,?_⟩
     exact(cw.set (by omega) _).app _
 ·have ci:decide ((k:Int)<(L.length:Int))=false:=by simpa using c
  rw[se fun j hj=>gx j hj (by omega)]at hG
  have C3:(cN zeroV).length=12:=rfl
  rw[hzv]at pc
  simp only[ad,↓Xn,↓Xo,↓Xg,↓Xd,↓Xe,↓Xf,Tryz.VΓ,Tryz.Γs,Xp,Xi,Nat.reduceAdd,Nat.reduceSub,Nat.reduceLT,Nat.reduceLeDiff,reduceIte,reduceCtorEq,Nat.reduceEqDiff,implies_true,forall_const,aa,av,beq_self_eq_true,bne_self_eq_false,Int.reduceBEq,Int.reduceBNe,Int.reduceLT,Int.reduceLE,l1,l2,l6,l11,l12,l13,ci,pc,gE,hG,hzv]
  exact cw.set (by omega) _
end
open Go Vc Go.RowKit Wf
def Sd (L:List En):Prop:=∀ e∈L,∃ (n:Nat) (s t:Int),1≤s∧s≤86400∧e=jK (vV n s) t
theorem HO {cp:Int}{L:List En}(hc:0≤cp∧cp≤1024)(hl:(L.length:Int)≤cp)(ha:mT En.key L)(h:Sd L):ir cp L=true:=by
 refine ud (by simp;omega) (by simp;omega) (by simp;omega) fun j hj=>?_
 have he:(ie L[j].v&&(cO L[j].v.id&&L[j].aS==kf L[j].stored L[j].v.df))=true:=by
  obtain⟨n,s,t,h1,h2,e⟩:=h _ (zOa hj)
  rw[e,← Bool.and_assoc]
  have:=HD (n:=n) h1 h2
  simp only[jK,beq_self_eq_true,Bool.and_true]
  exact this
 cases j with
 | zero=>rw[E1 hj,he]
 | succ j =>
   have:=(List.pairwise_iff_getElem.1 ha) j (j+1) (by omega) hj (by omega)
   rw[E0 hj,he,this];rfl
theorem Sd.tr {L:List En}(h:Sd L):∀ e∈L,e.v.tr=.aE:=fun e he=>by
 obtain⟨n,s,t,-,-,rfl⟩:=h e he
 rfl
theorem A9 (n:Nat)(s:Int):PC Tryz.V 28 [.agg [.int .i64 (vV n s).id.kind,.str (vV n s).id.text,.str (vV n s).id.host,.int .i64 (vV n s).id.port]] (.bool true):=by
 have:=nD (vId n)
 rw[xp]at this
 exact this
def sL1:List En:=[jK (vV 0 100) 0]
def H6:List En:=[jK (vV 1 5) 0]
theorem s1_put:Ig 1 [] (vV 0 100) 0 true=sL1:=by kernel_rfl
theorem s2_put:Ig 1 sL1 (vV 1 5) 0 true=H6:=by kernel_rfl
theorem s3_get:getM H6 (pw 0) 0=(zeroV,false):=by kernel_rfl
theorem s4_get:getM H6 (pw 1) 4=(vV 1 5,true):=by kernel_rfl
theorem yQ:Sd H6:=fun e he=>by
 simp[H6]at he;subst he;exact⟨1,5,0,by omega,by omega,rfl⟩
theorem sL1_sd:Sd sL1:=fun e he=>by
 simp[sL1]at he;subst he;exact⟨0,100,0,by omega,by omega,rfl⟩
theorem sL1_asc:mT En.key sL1:=List.pairwise_singleton _ _
theorem yR:mT En.key H6:=List.pairwise_singleton _ _
theorem sc_sane {b:List ax}:SC Tryz.V 8 [] b (fun r b'=>r=.bool true∧b'=b):=by
 refine dw rfl ?_
 refine cz 3000 Tryz.func8 rfl Tryz.ntmps8 Tryz.results8 Tryz.call8 (by simp) (fun β β' hb=>rfl) ?_
 refine bd 2900 (fun σ=>σ.b=b) ?_ (fun k' hk'=>?_)
 rotate_left
 ·simp only[ad,↓Xn,↓Xo,↓Xg,↓Xd,↓Xe,↓Xf,Tryz.VΓ,Tryz.Γs,Xp,Xi,Nat.reduceAdd,Nat.reduceSub,Nat.reduceLT,Nat.reduceLeDiff,reduceIte,reduceCtorEq,Nat.reduceEqDiff,implies_true,forall_const,aa,av,beq_self_eq_true,bne_self_eq_false,Int.reduceBEq,Int.reduceBNe,Int.reduceLT,Int.reduceLE]
  exact hk' _ _ rfl
 rintro m1 ⟨t1,b1⟩ rfl
 refine bd 2800 (fun σ=>lk 1 σ.t=some (.p b1.length 0)∧lk 2 σ.t=some (.int .i64 0)∧σ.b=b1++[.cells [.int .i64 1,.aE] 24 true]) ?_ (fun k' hk'=>?_)
 rotate_left
 ·have hY:=p_New 1
  rw[if_neg (by omega)]at hY
  simp only[ad,↓Xn,↓Xo,↓Xg,↓Xd,↓Xe,↓Xf,Tryz.VΓ,Tryz.Γs,Xp,Xi,Nat.reduceAdd,Nat.reduceSub,Nat.reduceLT,Nat.reduceLeDiff,reduceIte,reduceCtorEq,Nat.reduceEqDiff,implies_true,forall_const,aa,av,beq_self_eq_true,bne_self_eq_false,Int.reduceBEq,Int.reduceBNe,Int.reduceLT,Int.reduceLE]
  refine ae hY ?_
  simp only[ad,↓Xn,↓Xo,↓Xg,↓Xd,↓Xe,↓Xf,Tryz.VΓ,Tryz.Γs,Xp,Xi,Nat.reduceAdd,Nat.reduceSub,Nat.reduceLT,Nat.reduceLeDiff,reduceIte,reduceCtorEq,Nat.reduceEqDiff,implies_true,forall_const,aa,av,beq_self_eq_true,bne_self_eq_false,Int.reduceBEq,Int.reduceBNe,Int.reduceLT,Int.reduceLE]
  exact hk' _ _ ⟨rfl,rfl,rfl⟩
 rintro m2 ⟨t2,b2⟩ ⟨l1,l2,rfl⟩
 simp only at l1 l2
 refine bd 2700 (fun σ=>lk 1 σ.t=some (.p b1.length 0)∧lk 2 σ.t=some (.int .i64 0)∧Kp b1 σ.b∧∃ x,σ.b[b1.length]? = some (.cells [.int .i64 1,x] 24 true)∧fT σ.b x sL1 true) ?_ (fun k' hk'=>?_)
 rotate_left
 ·have hv:=iu 0 100 (by omega)
  obtain⟨y,nB,⟨hk,x',rfl,hE⟩,iM⟩:=Dk (v:=vV 0 100) (b:=b1++[.cells [.int .i64 1,.aE] 24 true]) (L:=[]) (m:=true) (now:=0) (cp:=1) (.inl ⟨rfl,rfl⟩) (.inl rfl) (by simp) (fun e he=>by cases he) List.Pairwise.nil rfl (by omega) (A9 0 100)
  rw[s1_put]at hE
  have pc:=hk.at ((gZ b1 _).trans rfl)
  have ho:=hE.one
  have hl:=hk.1
  simp only[ad,↓Xn,↓Xo,↓Xg,↓Xd,↓Xe,↓Xf,Tryz.VΓ,Tryz.Γs,Xp,Xi,Nat.reduceAdd,Nat.reduceSub,Nat.reduceLT,Nat.reduceLeDiff,reduceIte,reduceCtorEq,Nat.reduceEqDiff,implies_true,forall_const,aa,av,beq_self_eq_true,bne_self_eq_false,Int.reduceBEq,Int.reduceBNe,Int.reduceLT,Int.reduceLE,l1]
  refine aU hv ?_
  simp only[ad,↓Xn,↓Xo,↓Xg,↓Xd,↓Xe,↓Xf,Tryz.VΓ,Tryz.Γs,Xp,Xi,Nat.reduceAdd,Nat.reduceSub,Nat.reduceLT,Nat.reduceLeDiff,reduceIte,reduceCtorEq,Nat.reduceEqDiff,implies_true,forall_const,aa,av,beq_self_eq_true,bne_self_eq_false,Int.reduceBEq,Int.reduceBNe,Int.reduceLT,Int.reduceLE,l1]
  refine oo iM ?_
  simp only[ad,↓Xn,↓Xo,↓Xg,↓Xd,↓Xe,↓Xf,Tryz.VΓ,Tryz.Γs,Xp,Xi,Nat.reduceAdd,Nat.reduceSub,Nat.reduceLT,Nat.reduceLeDiff,reduceIte,reduceCtorEq,Nat.reduceEqDiff,implies_true,forall_const,aa,av,beq_self_eq_true,bne_self_eq_false,Int.reduceBEq,Int.reduceBNe,Int.reduceLT,Int.reduceLE,l1,pc,ho]
  refine⟨(by
   refine fg (fun n=>if n=b1.length then 0 else 1) ?_
   simp only[zOj,zOk,fX,kX,reduceIte,not_false_eq_true]
   exact aq (by kernel_rfl)),?_⟩
  refine hk' _ _ ?_
  exact⟨l1,l2,(((Kp.refl _).app _).trans hk).set (Nat.le_refl _) _,x',zOe (by simp at hl;omega),hE.Ds (by rintro q hq rfl;rw[pc]at hq;cases hq) _⟩
 rintro m3 ⟨t3,b3⟩ ⟨l1,l2,cw,x,pc,hE⟩
 simp only at l1 l2 cw pc hE
 have ho:=hE.one
 refine bd 2600 (fun σ=>lk 1 σ.t=some (.p b1.length 0)∧lk 2 σ.t=some (.int .i64 0)∧Kp b1 σ.b∧σ.b[b1.length]? = some (.cells [.int .i64 1,x] 24 true)∧∃ d y,lk 3 σ.t=some (.p d 0)∧σ.b[d]? = some (.cells [.int .i64 1,y] 24 true)∧fT σ.b x sL1 true∧fT σ.b y H6 true) ?_ (fun k' hk'=>?_)
 rotate_left
 ·have hv:=iu 1 5 (by omega)
  obtain⟨y,nB,⟨hk,x',rfl,Fq⟩,iM⟩:=Dk (v:=vV 1 5) (b:=b3) (L:=sL1) (m:=true) (now:=0) (cp:=1) hE (.inl rfl) (by simp[sL1]) sL1_sd.tr sL1_asc rfl (by omega) (A9 1 5)
  rw[s2_put]at Fq
  have pc2:=hk.at pc
  have kU:=Fq.one
  simp only[ad,↓Xn,↓Xo,↓Xg,↓Xd,↓Xe,↓Xf,Tryz.VΓ,Tryz.Γs,Xp,Xi,Nat.reduceAdd,Nat.reduceSub,Nat.reduceLT,Nat.reduceLeDiff,reduceIte,reduceCtorEq,Nat.reduceEqDiff,implies_true,forall_const,aa,av,beq_self_eq_true,bne_self_eq_false,Int.reduceBEq,Int.reduceBNe,Int.reduceLT,Int.reduceLE,l1,pc,ho]
  refine aU hv ?_
  simp only[ad,↓Xn,↓Xo,↓Xg,↓Xd,↓Xe,↓Xf,Tryz.VΓ,Tryz.Γs,Xp,Xi,Nat.reduceAdd,Nat.reduceSub,Nat.reduceLT,Nat.reduceLeDiff,reduceIte,reduceCtorEq,Nat.reduceEqDiff,implies_true,forall_const,aa,av,beq_self_eq_true,bne_self_eq_false,Int.reduceBEq,Int.reduceBNe,Int.reduceLT,Int.reduceLE,l1,pc,ho]
  refine oo iM ?_
  simp only[ad,↓Xn,↓Xo,↓Xg,↓Xd,↓Xe,↓Xf,Tryz.VΓ,Tryz.Γs,Xp,Xi,Nat.reduceAdd,Nat.reduceSub,Nat.reduceLT,Nat.reduceLeDiff,reduceIte,reduceCtorEq,Nat.reduceEqDiff,implies_true,forall_const,aa,av,beq_self_eq_true,bne_self_eq_false,Int.reduceBEq,Int.reduceBNe,Int.reduceLT,Int.reduceLE,l1,pc2,kU]
  have bn:¬ b1.length=nB.length:=by have:=(zN7.1 pc2).1;omega
  refine⟨(by
   refine fg (fun n=>if n=nB.length then 0 else 1) ?_
   simp only[zOj,zOk,fX,kX,reduceIte,bn]
   exact aq (by kernel_rfl)),?_⟩
  refine hk' _ _ ?_
  exact⟨l1,l2,(cw.trans hk).app _,af pc2 _,_,x',rfl,(gZ _ _).trans rfl,(hE.kp hk).kp ((Kp.refl _).app _),Fq.kp ((Kp.refl _).app _)⟩
 clear hE pc cw
 rintro m4 ⟨t4,b4⟩ ⟨l1,l2,cw,pc,d,y,l3,pd,hE,Fq⟩
 simp only at l1 l2 l3 cw pc pd hE Fq
 have kU:=Fq.one
 have hv0:=kG zeroV rfl
 refine bd 2500 (fun σ=>lk 1 σ.t=some (.p b1.length 0)∧lk 2 σ.t=some (.int .i64 0)∧lk 3 σ.t=some (.p d 0)∧lk 5 σ.t=some (.bool false)∧Kp b4 σ.b) ?_ (fun k' hk'=>?_)
 rotate_left
 ·have hv:=iu 0 1 (by omega)
  have hg:=yF (cp:=1) (t:=pw 0) (now:=0) Fq yR (by simp[H6]) yQ.tr
  rw[s3_get,hv0]at hg
  have B0:cN (vV 0 1)=[.int .i64 0,.int .i64 1,.str (pw 0),.str ([97,46,101,120,97,109,112,108,101]:List UInt8),.int .i64 0,.int .i64 0,.str [],.str [],.int .i64 0,.bool true,.int .u64 1,.aE]:=rfl
  rw[B0]at hv
  simp only[ad,↓Xn,↓Xo,↓Xg,↓Xd,↓Xe,↓Xf,Tryz.VΓ,Tryz.Γs,Xp,Xi,Nat.reduceAdd,Nat.reduceSub,Nat.reduceLT,Nat.reduceLeDiff,reduceIte,reduceCtorEq,Nat.reduceEqDiff,implies_true,forall_const,aa,av,beq_self_eq_true,bne_self_eq_false,Int.reduceBEq,Int.reduceBNe,Int.reduceLT,Int.reduceLE,l3,pd,kU]
  refine aU hv ?_
  simp only[ad,↓Xn,↓Xo,↓Xg,↓Xd,↓Xe,↓Xf,Tryz.VΓ,Tryz.Γs,Xp,Xi,Nat.reduceAdd,Nat.reduceSub,Nat.reduceLT,Nat.reduceLeDiff,reduceIte,reduceCtorEq,Nat.reduceEqDiff,implies_true,forall_const,aa,av,beq_self_eq_true,bne_self_eq_false,Int.reduceBEq,Int.reduceBNe,Int.reduceLT,Int.reduceLE,l3,pd,kU]
  refine oo hg ?_
  simp only[ad,↓Xn,↓Xo,↓Xg,↓Xd,↓Xe,↓Xf,Tryz.VΓ,Tryz.Γs,Xp,Xi,Nat.reduceAdd,Nat.reduceSub,Nat.reduceLT,Nat.reduceLeDiff,reduceIte,reduceCtorEq,Nat.reduceEqDiff,implies_true,forall_const,aa,av,beq_self_eq_true,bne_self_eq_false,Int.reduceBEq,Int.reduceBNe,Int.reduceLT,Int.reduceLE,l3,pd,kU]
  have bn:¬ d=b4.length:=by have:=(zN7.1 pd).1;omega
  refine⟨(by
   refine fg (fun n=>if n=b4.length then 0 else 1) ?_
   simp only[zOj,zOk,fX,kX,reduceIte,bn]
   exact aq (by kernel_rfl)),?_⟩
  refine hk' _ _ ?_
  exact⟨l1,l2,l3,rfl,(Kp.refl _).app _⟩
 rintro m5 ⟨t5,b5⟩ ⟨l1,l2,l3,l5,zI⟩
 simp only at l1 l2 l3 l5 zI
 replace cw:=cw.trans zI
 replace pc:=zI.at pc
 replace pd:=zI.at pd
 replace hE:=hE.kp zI
 replace Fq:=Fq.kp zI
 clear zI
 refine bd 2400 (fun σ=>lk 1 σ.t=some (.p b1.length 0)∧lk 2 σ.t=some (.int .i64 0)∧lk 3 σ.t=some (.p d 0)∧lk 5 σ.t=some (.bool false)∧lk 7 σ.t=some (.bool true)∧Kp b5 σ.b) ?_ (fun k' hk'=>?_)
 rotate_left
 ·have hv:=iu 1 1 (by omega)
  have hg:=yF (cp:=1) (t:=pw 1) (now:=4) Fq yR (by simp[H6]) yQ.tr
  rw[s4_get,kG (vV 1 5) rfl]at hg
  have B0:cN (vV 1 1)=[.int .i64 0,.int .i64 1,.str (pw 1),.str ([97,46,101,120,97,109,112,108,101]:List UInt8),.int .i64 0,.int .i64 0,.str [],.str [],.int .i64 0,.bool true,.int .u64 1,.aE]:=rfl
  rw[B0]at hv
  simp only[ad,↓Xn,↓Xo,↓Xg,↓Xd,↓Xe,↓Xf,Tryz.VΓ,Tryz.Γs,Xp,Xi,Nat.reduceAdd,Nat.reduceSub,Nat.reduceLT,Nat.reduceLeDiff,reduceIte,reduceCtorEq,Nat.reduceEqDiff,implies_true,forall_const,aa,av,beq_self_eq_true,bne_self_eq_false,Int.reduceBEq,Int.reduceBNe,Int.reduceLT,Int.reduceLE,l3,pd,kU]
  refine aU hv ?_
  simp only[ad,↓Xn,↓Xo,↓Xg,↓Xd,↓Xe,↓Xf,Tryz.VΓ,Tryz.Γs,Xp,Xi,Nat.reduceAdd,Nat.reduceSub,Nat.reduceLT,Nat.reduceLeDiff,reduceIte,reduceCtorEq,Nat.reduceEqDiff,implies_true,forall_const,aa,av,beq_self_eq_true,bne_self_eq_false,Int.reduceBEq,Int.reduceBNe,Int.reduceLT,Int.reduceLE,l3,pd,kU]
  refine oo hg ?_
  simp only[ad,↓Xn,↓Xo,↓Xg,↓Xd,↓Xe,↓Xf,Tryz.VΓ,Tryz.Γs,Xp,Xi,Nat.reduceAdd,Nat.reduceSub,Nat.reduceLT,Nat.reduceLeDiff,reduceIte,reduceCtorEq,Nat.reduceEqDiff,implies_true,forall_const,aa,av,beq_self_eq_true,bne_self_eq_false,Int.reduceBEq,Int.reduceBNe,Int.reduceLT,Int.reduceLE,l3,pd,kU]
  have bn:¬ d=b5.length:=by have:=(zN7.1 pd).1;omega
  refine⟨(by
   refine fg (fun n=>if n=b5.length then 0 else 1) ?_
   simp only[zOj,zOk,fX,kX,reduceIte,bn]
   exact aq (by kernel_rfl)),?_⟩
  refine hk' _ _ ?_
  exact⟨l1,l2,l3,l5,rfl,(Kp.refl _).app _⟩
 rintro m6 ⟨t6,b6⟩ ⟨l1,l2,l3,l5,l7,wj⟩
 simp only at l1 l2 l3 l5 l7 wj
 replace cw:=cw.trans wj
 replace pc:=wj.at pc
 replace pd:=wj.at pd
 replace hE:=hE.kp wj
 replace Fq:=Fq.kp wj
 have hs:=HY (cp:=1) Fq (by simp[H6]) (fun e he=>by rw[yQ.tr e he];exact⟨rfl,rfl⟩)
 rw[HO (by omega) (by simp[H6]) yR yQ]at hs
 have mO:∀ e,mc (.slice e) x=some (.int .i64 1):=fun e=>by
  rcases hE with⟨rfl,h⟩|⟨q,rfl,-⟩
  ·cases h
  ·rfl
 have gF:∀ e,mc (.slice e) y=some (.int .i64 1):=fun e=>by
  rcases Fq with⟨rfl,h⟩|⟨q,rfl,-⟩
  ·cases h
  ·rfl
 simp only[ad,↓Xn,↓Xo,↓Xg,↓Xd,↓Xe,↓Xf,Tryz.VΓ,Tryz.Γs,Xp,Xi,Nat.reduceAdd,Nat.reduceSub,Nat.reduceLT,Nat.reduceLeDiff,reduceIte,reduceCtorEq,Nat.reduceEqDiff,implies_true,forall_const,aa,av,beq_self_eq_true,bne_self_eq_false,Int.reduceBEq,Int.reduceBNe,Int.reduceLT,Int.reduceLE,l1,l2,l3,l5,l7,pc,pd,ho,kU,mO,gF]
 refine aJ hs ?_
 rintro z b7 ⟨rfl,rfl⟩
 simp only[ad,↓Xn,↓Xo,↓Xg,↓Xd,↓Xe,↓Xf,Tryz.VΓ,Tryz.Γs,Xp,Xi,Nat.reduceAdd,Nat.reduceSub,Nat.reduceLT,Nat.reduceLeDiff,reduceIte,reduceCtorEq,Nat.reduceEqDiff,implies_true,forall_const,aa,av,beq_self_eq_true,bne_self_eq_false,Int.reduceBEq,Int.reduceBNe,Int.reduceLT,Int.reduceLE,l1,l2,l3,l5,l7,pc,pd]
 exact cw
theorem u64k {n:Int}(h0:0≤n)(h:n<18446744073709551616):IntKind.u64.wrap n=n:=by simp[IntKind.wrap,IntKind.bits,IntKind.signed];omega
theorem HG {a c:Int}(ha:0≤a):vF .rem .u64 a c=a % c:=Int.tmod_eq_emod_of_nonneg ha
theorem i64k {n:Int}(h0:0≤n)(h:n<9223372036854775808):IntKind.i64.wrap n=n:=by simp[IntKind.wrap,IntKind.bits,IntKind.signed];omega
structure Mb (b:List ax) (c:Nat) (cp:Int) (x:SV) (L:List En) (m:Bool) (now:Int):Prop where
 c:b[c]? = some (.cells [.int .i64 cp,x] 24 true)
 e:fT b x L m
 M:Mc cp L now
 n:now≤180
 m:m=true∨x=.aE
theorem Mb.kp {b b':List ax}{c:Nat}{cp:Int}{x:SV}{L:List En}{m:Bool}{now:Int}(h:Mb b c cp x L m now)(k:Kp b b'):Mb b' c cp x L m now:=⟨k.at h.c,h.e.kp k,h.M,h.n,h.m⟩
theorem Mb.mn {b:List ax}{c:Nat}{cp:Int}{x:SV}{L:List En}{m:Bool}{now:Int}(h:Mb b c cp x L m now):m=true∨L.length≠0∨x=.aE:=h.m.elim .inl fun e=>.inr (.inr e)
theorem fT.len {b:List ax}{x:SV}{L:List En}{m:Bool}(h:fT b x L m)(e:TypeId):mc (.slice e) x=some (.int .i64 L.length):=by
 rcases h with⟨rfl,rfl⟩|⟨q,rfl,-⟩ <;> rfl
structure Bx (b:List ax) (d:Nat) (cp:Int) (y:SV) (L:List En) (m:Bool):Prop where
 c:b[d]? = some (.cells [.int .i64 cp,y] 24 true)
 e:fT b y L m
theorem Bx.kp {b b':List ax}{d:Nat}{cp:Int}{y:SV}{L:List En}{m:Bool}(h:Bx b d cp y L m)(k:Kp b b'):Bx b' d cp y L m:=⟨k.at h.c,h.e.kp k⟩
theorem iR {v:Vd}(hv:v.tr=.aE):PC Tryz.V 22 [.agg (cN v),.agg (cN v)] (.bool true):=by
 have:=DJ hv hv
 rwa [show EN v v=true by simp[EN]]at this
section
variable {f:FuncId} {args:List SV} {b b0:List ax} {cp:Int}
theorem pick1 {q n:Nat}{c:List SV}{T:TypeId}{s:Nat}{mm:Bool}(iM:SC Tryz.V f args b (fun r b'=>r=.agg [.int .i64 cp,.o q n]∧b'=b0))(hk:Kp b b0)(hle:b.length≤q)(hq:b0[q]? = some (.own c T s n mm))(hw:within.ay b.length c=true) :
 SC Tryz.V f args b (fun r b'=>r=.agg [.int .i64 cp,.o b.length n]∧b'=b++[.own c T s n false]):=by
 refine SC.pick (iM.mono ?_)
 rintro r b' ⟨rfl,rfl⟩
 refine⟨fun k=>if k=b.length then q else k,[.own c T s n false],.agg [.int .i64 cp,.o b.length n],hk,fun k hk=>if_neg (by omega),?_,by simp[EP,je],by simp[within,within.ay],rfl,rfl⟩
 intro p X hX
 match p,hX with
 | 0,hX =>
   simp only[List.getElem?_cons_zero,Option.some.injEq]at hX
   subst hX
   refine .inr ⟨_,_,_,_,mm,rfl,by simp;omega,?_,cg (by simp) _ hw⟩
   rw[db (m:=b.length) (fun k hk=>if_neg (by omega)) _ hw]
   simpa using hq
 | p+1,hX=>simp at hX
theorem EU {L:List En}{R:SV→List ax→Prop}(hsu:SU Tryz.V f args b R)(hR:∀ r b',R r b'→Kp b b'∧∃ x' m',r=.agg [.int .i64 cp,x']∧fT b' x' L m')(hw:within.ay b.length (L.flatMap enc)=true) :
 ∃ x2 m2 Xs,SC Tryz.V f args b (fun r b'=>r=.agg [.int .i64 cp,x2]∧b'=b++Xs)∧fT (b++Xs) x2 L m2∧(Xs=[]∨∃ A,Xs=[A]):=by
 obtain⟨r0,b0,h0,iM⟩:=hsu
 obtain⟨hk,x',m',rfl,hE⟩:=hR _ _ h0
 rcases hE with⟨rfl,rfl⟩|⟨q,rfl,hq⟩
 ·refine⟨.aE,true,[],?_,.inl ⟨rfl,rfl⟩,.inl rfl⟩
  rw[zN8]
  exact dw rfl (iM.mono fun r b' h=>⟨h.1,by rw[h.2];exact hk⟩)
 ·by_cases hle:b.length≤q
  ·exact⟨_,false,_,pick1 iM hk hle hq hw,.inr ⟨_,rfl,(gZ _ _).trans rfl⟩,.inr ⟨_,rfl⟩⟩
  ·have pN:b[q]? = some (.own (L.flatMap enc) 43 14 L.length m'):=by rw[← hk.2 q (by omega)];exact hq
   refine⟨.o q L.length,m',[],?_,?_,.inl rfl⟩
   ·rw[zN8]
    refine SC.pick (iM.mono ?_)
    rintro r b' ⟨rfl,rfl⟩
    exact⟨fun k=>k,[],.agg [.int .i64 cp,.o q L.length],hk,fun k hk=>rfl,fun p X hX=>by simp at hX,by simp[EP,je],by simp[within,within.ay];omega,rfl,by simp⟩
   ·rw[zN8];exact .inr ⟨q,rfl,pN⟩
end
theorem A3 {E:Type}{key:E→Bytes}{ex:E→Int}{cap:Int}{L:List E}(t:Bytes):∃ A B:List E,(∀ e∈A++B,e∈L)∧∀ x,key x=t→hU key ex cap L x=A++[x]++B:=by
 unfold hU jL
 by_cases h:dC key L t=true∨(L.length:Int)<cap
 ·refine⟨L.filter (fun y=>blt (key y) t),L.filter (fun y=>blt t (key y)),fun e he=>?_,fun x hx=>?_⟩
  ·rcases zOt.1 he with he|he <;> exact(zOq.1 he).1
  ·rw[hx,if_pos h]
 ·refine⟨(L.eraseIdx (dR (L.map ex) L.length)).filter (fun y=>blt (key y) t),(L.eraseIdx (dR (L.map ex) L.length)).filter (fun y=>blt t (key y)),fun e he=>?_,fun x hx=>?_⟩
  ·rcases zOt.1 he with he|he <;> exact lD (zOq.1 he).1
  ·rw[hx,if_neg h]
theorem uk {ρ:Nat→Nat}:∀ (l m:List SV),je ρ (l++m)=je ρ l++je ρ m
 | [],m=>rfl
 | x::l,m=>by simp[je,uk l m]
theorem iQ {n:Nat}:∀ (l m:List SV),within.ay n (l++m)=(within.ay n l&&within.ay n m)
 | [],m=>by simp[within.ay]
 | x::l,m=>by simp[within.ay,iQ l m,Bool.and_assoc]
theorem pick2 {f:FuncId}{args:List SV}{b b0:List ax}{cp:Int}{q n tb n2:Nat}{c1 c3 d:List SV}{T T2:TypeId}{s s2:Nat}{mm m2:Bool}(iM:SC Tryz.V f args b (fun r b'=>r=.agg [.int .i64 cp,.o q n]∧b'=b0))(hk:Kp b b0)(hle:b.length≤q)(hle2:b.length≤tb)(hq:b0[q]? = some (.own (c1++[.o tb n2]++c3) T s n mm))(ht:b0[tb]? = some (.own d T2 s2 n2 m2))(fH:within.ay b.length c1=true)(wV:within.ay b.length c3=true)(lK:within.ay b.length d=true) :
 SC Tryz.V f args b (fun r b'=>r=.agg [.int .i64 cp,.o b.length n]∧b'=b++[.own (c1++[.o (b.length+1) n2]++c3) T s n false,.own d T2 s2 n2 false]):=by
 refine SC.pick (iM.mono ?_)
 rintro r b' ⟨rfl,rfl⟩
 have hρ:∀ k,k<b.length→(if k=b.length then q else if k=b.length+1 then tb else k)=k:=fun k hk=>by rw[if_neg (by omega),if_neg (by omega)]
 refine⟨fun k=>if k=b.length then q else if k=b.length+1 then tb else k,[.own (c1++[.o (b.length+1) n2]++c3) T s n false,.own d T2 s2 n2 false],.agg [.int .i64 cp,.o b.length n],hk,hρ,?_,by simp[EP,je],by simp[within,within.ay],rfl,rfl⟩
 intro p X hX
 match p,hX with
 | 0,hX =>
   simp only[List.getElem?_cons_zero,Option.some.injEq]at hX
   subst hX
   refine .inr ⟨_,_,_,_,mm,rfl,by simp;omega,?_,?_⟩
   ·rw[uk,uk,db hρ _ fH,db hρ _ wV]
    simpa[je,EP] using hq
   ·rw[iQ,iQ,cg (by simp) _ fH,cg (by simp) _ wV]
    simp[within.ay,within]
 | 1,hX =>
   simp only[List.getElem?_cons_succ,List.getElem?_cons_zero,Option.some.injEq]at hX
   subst hX
   refine .inr ⟨_,_,_,_,m2,rfl,by simp;omega,?_,cg (by simp) _ lK⟩
   rw[db hρ _ lK]
   simpa using ht
 | p+2,hX=>simp at hX
theorem sx_Put {b:List ax}{x:SV}{L:List En}{m:Bool}{cp now:Int}{v:Vd}{R:List Xc}{vb:Bool}(h:fT b x L m)(pV:m=true∨L.length≠0∨x=.aE)(hl:L.length≤1000000)(hT:∀ e∈L,e.v.tr=.aE)(ha:mT En.key L)(hv:C8 b v.tr R)(hR:R.length≤1000000)(Ch:cp≤1024)
 (hid:PC Tryz.V 28 [.agg [.int .i64 v.id.kind,.str v.id.text,.str v.id.host,.int .i64 v.id.port]] (.bool vb)) :
 ∃ x2 t2 m2 Xs,SC Tryz.V 17 [.agg [.int .i64 cp,x],.agg (cN v),.int .u64 now] b (fun r b'=>r=.agg [.int .i64 cp,x2]∧b'=b++Xs)∧fT (b++Xs) x2 (if ie v&&vb&&!decide (cp≤0) then hU En.key En.aS cp L (jK { v with tr:=t2 } now) else L) m2∧C8 (b++Xs) t2 R∧(Xs=[]∨(∃ A,Xs=[A])∨∃ A B,Xs=[A,B]):=by
 have h0L:=iE hT
 rcases hv with⟨hv,rfl⟩|⟨q,mq,hv,hq⟩
 ·have hpt:∀ e∈Ig cp L v now vb,e.v.tr=.aE:=fun e he=>by
   unfold Ig at he
   split at he
   ·rcases ur he with rfl|he
    ·exact hv
    ·exact hT e he
   ·exact hT e he
  obtain⟨x2,m2,Xs,h1,h2,h3⟩:=EU (Dk (now:=now) h pV hl hT ha hv Ch hid) (fun r b' ⟨hk,x',e,hE⟩=>⟨hk,x',true,e,hE⟩) (cg (Nat.zero_le _) _ (iE hpt))
  refine⟨x2,v.tr,m2,Xs,h1,h2,.inl ⟨hv,rfl⟩,?_⟩
  rcases h3 with h3|h3
  ·exact .inl h3
  ·exact .inr (.inl h3)
 ·have lL:=(zN7.1 hq).1
  have tw:=EH (v:=v) (now:=now) (cp:=cp) (vb:=vb) (X:=[.own (R.flatMap xc) 93 9 R.length false]) (fun k=>.o k R.length) h pV hl hT ha (by rw[hv];rfl) (by rw[hv];simpa[within] using lL) Ch (.inr ⟨_,_,_,rfl⟩) (fun _=>rfl) (fun b2 k=>Dx hv (k.at hq) (xc_one R) (xi R) hR) hid
  obtain⟨cb,Ho⟩:∃ cb,cb=(ie v&&vb&&!decide (cp≤0)):=⟨_,rfl⟩
  rw[← Ho]at tw ⊢
  cases cb
  ·obtain⟨x2,m2,Xs,h1,h2,h3⟩:=EU (L:=L) tw (fun r b' ⟨hk,x',tb,e,hE,_,_⟩=>⟨hk,x',true,e,hE⟩) (cg (Nat.zero_le _) _ h0L)
   refine⟨x2,v.tr,m2,Xs,h1,h2,.inr ⟨q,mq,hv,af hq _⟩,?_⟩
   rcases h3 with h3|h3
   ·exact .inl h3
   ·exact .inr (.inl h3)
  ·obtain⟨r0,b0,⟨hk,x',tb,rfl,hE,hxq,hx⟩,iM⟩:=tw
   obtain⟨htb,hX⟩:=hx rfl
   have Fe:=hX 0 _ rfl
   obtain⟨A,B,hAB,hmid⟩:=A3 (key:=En.key) (ex:=En.aS) (cap:=cp) (L:=L) v.id.text
   have hP:∀ k:Nat,hU En.key En.aS cp L (jK { v with tr:=.o k R.length } now)=A++[jK { v with tr:=.o k R.length } now]++B:=fun k=>hmid _ rfl
   rw[if_pos rfl,hP]at hE
   rcases hE with⟨-,h0⟩|⟨q',rfl,hq'⟩
   ·simp at h0
   ·have hlen:∀ k,(A++[jK { v with tr:=.o k R.length } now]++B).length=A.length+1+B.length:=fun k=>by simp;omega
    have hTA:∀ e∈A,e.v.tr=.aE:=fun e he=>hT e (hAB e (List.mem_append_left _ he))
    have hTB:∀ e∈B,e.v.tr=.aE:=fun e he=>hT e (hAB e (List.mem_append_right _ he))
    have eo:∀ k:Nat,(A++[jK { v with tr:=.o k R.length } now]++B).flatMap enc=(A.flatMap enc++[.int .i64 v.err,.int .i64 v.id.kind,.str v.id.text,.str v.id.host,.int .i64 v.id.port,.int .i64 v.bE.kind,.str v.bE.text,.str v.bE.host,.int .i64 v.bE.port,.bool v.store,.int .u64 v.df])++[.o k R.length]++([.int .u64 now,.int .u64 (kf now v.df)]++B.flatMap enc):=fun k=>by
     simp[enc,jK]
    rw[eo,hlen]at hq'
    have fH:within.ay b.length (A.flatMap enc++[.int .i64 v.err,.int .i64 v.id.kind,.str v.id.text,.str v.id.host,.int .i64 v.id.port,.int .i64 v.bE.kind,.str v.bE.text,.str v.bE.host,.int .i64 v.bE.port,.bool v.store,.int .u64 v.df])=true:=by
     rw[iQ,cg (Nat.zero_le _) _ (iE hTA)];rfl
    have wV:within.ay b.length ([.int .u64 now,.int .u64 (kf now v.df)]++B.flatMap enc)=true:=by
     rw[iQ,cg (Nat.zero_le _) _ (iE hTB)];rfl
    rw[hlen]at iM hxq
    have hp:=pick2 iM hk (hxq _ _ rfl) htb hq' Fe fH wV (cg (Nat.zero_le _) _ (xi R))
    refine⟨_,.o (b.length+1) R.length,false,_,hp,?_,.inr ⟨_,false,rfl,aZ rfl _ 1⟩,.inr (.inr ⟨_,_,rfl⟩)⟩
    rw[if_pos rfl,hP]
    refine .inr ⟨b.length,by rw[hlen],?_⟩
    rw[eo,hlen]
    exact(gZ _ _).trans rfl
open Go Vc Go.RowKit Wf
theorem Cv {n:Nat}{L:List En}(hT:∀ e∈L,within n e.v.tr=true):within.ay n (L.flatMap enc)=true:=by
 induction L with
 | nil=>rfl
 | cons e L ih =>
   have h1:=hT e List.mem_cons_self
   have h2:=ih fun e he=>hT e (List.mem_cons_of_mem _ he)
   rw[List.flatMap_cons]
   unfold enc
   simp only[List.cons_append,List.nil_append,within.ay,within,Bool.true_and,h1]
   exact h2
theorem Dh {b:List ax}{x:SV}{L:List En}{m:Bool}{cp now:Int}{v:Vd}(h:fT b x L m)(hl:L.length≤1000000)(hT:∀ e∈L,e.v.tr=.aE)(Ch:0≤cp)(Fc:one v.tr=true)(hvw:within b.length v.tr=true)(B7:0≤now∧now<18446744073709551616)(hs:0≤v.df∧v.df<18446744073709551616) :
 ∃ x2 m2 Xs,SC Tryz.V 19 [.agg [.int .i64 cp,x],.agg (cN v),.int .u64 now] b (fun r b'=>r=.agg [.int .i64 cp,x2]∧b'=b++Xs)∧fT (b++Xs) x2 (if ie v&&cO v.id&&!decide (cp≤0) then hU En.key En.aS cp L (jK v now) else L) m2∧(Xs=[]∨∃ A,Xs=[A]):=by
 have rW:=kW (b:=b++[.cells [.int .i64 cp,x] 24 true,.cells (cN v) 41 true,.cells [.int .i64 0,.aE] 24 true]) Fc (kV (by simp) _ hvw)
 have tw:=tY (now:=now) h hl (fun e he=>by rw[hT e he];rfl) Fc hvw rW (xL B7 hs)
 have hd:(!(cp==0))=!decide (cp≤0):=by
  rw[Bool.eq_iff_iff];simp;omega
 have e1:(if (ie v&&cO v.id)&&!(cp==0) then jL En.key (dr (fO En.key v.id.text (dC En.key L v.id.text||decide ((L.length:Int)<cp)) (dS (oI L) L.length)) L L.length) (jK v now) else L)=if ie v&&cO v.id&&!decide (cp≤0) then hU En.key En.aS cp L (jK v now) else L:=by
  rw[hd]
  cases hc:(ie v&&cO v.id&&!decide (cp≤0))
  ·rfl
  ·rw[if_pos rfl,if_pos rfl]
   exact xF (L:=L) (x:=jK v now) (cp:=cp) (by simp at hc;omega)
 rw[e1]at tw
 refine EU tw (fun r b' ⟨hk,x',m',e,hE,_⟩=>⟨hk,x',m',e,hE⟩) (Cv fun e he=>?_)
 split at he
 ·rcases ur he with rfl|he
  ·exact hvw
  ·rw[hT e he];rfl
 ·rw[hT e he];rfl
theorem wz {b:List ax}{x:SV}{L:List En}{m:Bool}{cp now:Int}(h:fT b x L m)(hl:L.length≤1000000)(hT:∀ e∈L,e.v.tr=.aE) :
 ∃ x2 m2 Xs,SC Tryz.V 24 [.agg [.int .i64 cp,x],.int .u64 now] b (fun r b'=>r=.agg [.int .i64 cp,x2]∧b'=b++Xs)∧fT (b++Xs) x2 (gl L now) m2∧(Xs=[]∨∃ A,Xs=[A]) :=
 EU (oQ (cp:=cp) h hl fun e he=>by rw[hT e he];rfl) (fun r b' ⟨hk,x',e,hE,_⟩=>⟨hk,x',true,e,hE⟩) (cg (Nat.zero_le _) _ (iE fun e he=>hT e (zOq.1 he).1))
theorem Dj {b:List ax}{x:SV}{L:List En}{m:Bool}{cp now:Int}(h:fT b x L m)(pV:m=true∨L.length≠0∨x=.aE)(hl:L.length≤1000000)(hT:∀ e∈L,e.v.tr=.aE) :
 ∃ x2 m2 Xs,SC Tryz.V 23 [.agg [.int .i64 cp,x],.int .u64 now] b (fun r b'=>r=.agg [.int .i64 cp,x2]∧b'=b++Xs)∧fT (b++Xs) x2 (gl L now) m2∧(Xs=[]∨∃ A,Xs=[A]):=by
 rcases h with⟨rfl,rfl⟩|⟨q,rfl,hq⟩
 ·exact⟨.aE,true,[],by rw[zN8];exact Di,.inl ⟨rfl,rfl⟩,.inl rfl⟩
 ·exact⟨_,false,_,FW hq (by rcases pV with h|h|h;exact .inl h;exact .inr h;cases h) hl hT,.inr ⟨_,rfl,(gZ _ _).trans rfl⟩,.inr ⟨_,rfl⟩⟩
theorem xM (i:jE)(h:i.text.length≤140737488355328∧i.host.length≤140737488355328):PC Tryz.V 39 [.agg [.int .i64 i.kind,.str i.text,.str i.host,.int .i64 i.port]] (.bool (decide ((i.text.length:Int)+i.host.length≤1000))):=by
 refine aQ 3000 Tryz.func39 rfl Tryz.ntmps39 Tryz.results39 Tryz.call39 (by simp) (by simp[flat,flat.ai]) (by simp[flat,flat.ai]) ?_
 simp only[ad,↓Xn,↓Xo,↓Xg,↓Xd,↓Xe,↓Xf,Tryz.VΓ,Tryz.Γs,Xp,Xi,Nat.reduceAdd,Nat.reduceSub,Nat.reduceLT,Nat.reduceLeDiff,reduceIte,reduceCtorEq,Nat.reduceEqDiff,implies_true,forall_const,aa,rQ,beq_self_eq_true,bne_self_eq_false,Int.reduceBEq,Int.reduceBNe,Int.reduceLT,Int.reduceLE]
 omega
structure Kb (x:Xc):Prop where
 h:x.h.length≤140737488355328
 pa:x.pa.length≤140737488355328
 q:x.q.length≤140737488355328
 f:x.f.length≤140737488355328
theorem DK (x:Xc)(h:Kb x):PC Tryz.V 62 [.agg [.str x.h,.int .i64 x.p,.str x.pa,.str x.q,.str x.f,.bool x.hq,.bool x.hf]] (.bool (decide ((x.h.length:Int)+x.pa.length+x.q.length+x.f.length≤1000))):=by
 have h1:=h.h
 have h2:=h.pa
 have h3:=h.q
 have h4:=h.f
 refine aQ 3000 Tryz.func62 rfl Tryz.ntmps62 Tryz.results62 Tryz.call62 (by simp) (by simp[flat,flat.ai]) (by simp[flat,flat.ai]) ?_
 simp only[ad,↓Xn,↓Xo,↓Xg,↓Xd,↓Xe,↓Xf,Tryz.VΓ,Tryz.Γs,Xp,Xi,Nat.reduceAdd,Nat.reduceSub,Nat.reduceLT,Nat.reduceLeDiff,reduceIte,reduceCtorEq,Nat.reduceEqDiff,implies_true,forall_const,aa,rQ,beq_self_eq_true,bne_self_eq_false,Int.reduceBEq,Int.reduceBNe,Int.reduceLT,Int.reduceLE]
 refine⟨by omega,by omega,by omega⟩
theorem wE {b:List ax}{q:Nat}{R:List Xc}{m:Bool}(hq:b[q]? = some (.own (R.flatMap xc) 93 9 R.length m))(hl:R.length≤9223372036854775807)(hR:∀ x∈R,Kb x):SC Tryz.V 40 [.o q R.length] b (fun r b'=>∃ B:Bool,r=.bool B∧(B=true→R.length≤60)∧Kp b b'):=by
 have lL:=(zN7.1 hq).1
 refine cz 3000 Tryz.func40 rfl Tryz.ntmps40 Tryz.results40 Tryz.call40 (by simp) (aw b.length _ (by simp[within,within.ay,lL])) ?_
 cases c0:decide (60<(R.length:Int))
 ·have h60:R.length≤60:=by simp at c0;omega
  simp only[ad,↓Xn,↓Xo,↓Xg,↓Xd,↓Xe,↓Xf,Tryz.VΓ,Tryz.Γs,Xp,Xi,Nat.reduceAdd,Nat.reduceSub,Nat.reduceLT,Nat.reduceLeDiff,reduceIte,reduceCtorEq,Nat.reduceEqDiff,implies_true,forall_const,aa,av,beq_self_eq_true,bne_self_eq_false,Int.reduceBEq,Int.reduceBNe,Int.reduceLT,Int.reduceLE,c0]
  refine aM (fun σ=>∃ (i:Nat),lk 8 σ.t=some (.o q R.length)∧lk 9 σ.t=some (.int .i64 R.length)∧lk 10 σ.t=some (.int .i64 i)∧i≤R.length∧Kp b σ.b) (fun σ=>R.length - ja 10 σ) ⟨0,rfl,rfl,rfl,by omega,Kp.refl _⟩ ?_
  rintro⟨t1,b1⟩ ⟨i,l8,l9,l10,hi,hk⟩
  simp only at l8 l9 l10 hk
  rw[az l10]
  by_cases c:i<R.length
  ·have ci:decide ((i:Int)<(R.length:Int))=true:=by simpa using c
   have dp:=hk.at hq
   have dW:=xc_at R i c
   have hxe:xc R[i]=[.str R[i].h,.int .i64 R[i].p,.str R[i].pa,.str R[i].q,.str R[i].f,.bool R[i].hq,.bool R[i].hf,.int .i64 R[i].st,.int .i64 R[i].er]:=rfl
   rw[hxe]at dW
   have hu:=DK R[i] (hR _ (zOa c))
   simp only[ad,↓Xn,↓Xo,↓Xg,↓Xd,↓Xe,↓Xf,Tryz.VΓ,Tryz.Γs,Xp,Xi,Nat.reduceAdd,Nat.reduceSub,Nat.reduceLT,Nat.reduceLeDiff,reduceIte,reduceCtorEq,Nat.reduceEqDiff,implies_true,forall_const,aa,av,beq_self_eq_true,bne_self_eq_false,Int.reduceBEq,Int.reduceBNe,Int.reduceLT,Int.reduceLE,l8,l9,l10,ci,dp,dW]
   refine⟨⟨by omega,by omega⟩,by rw[C9];omega,ae hu ?_⟩
   cases hB:decide ((R[i].h.length:Int)+R[i].pa.length+R[i].q.length+R[i].f.length≤1000)
   ·simp only[ad,↓Xn,↓Xo,↓Xg,↓Xd,↓Xe,↓Xf,Tryz.VΓ,Tryz.Γs,Xp,Xi,Nat.reduceAdd,Nat.reduceSub,Nat.reduceLT,Nat.reduceLeDiff,reduceIte,reduceCtorEq,Nat.reduceEqDiff,implies_true,forall_const,aa,av,beq_self_eq_true,bne_self_eq_false,Int.reduceBEq,Int.reduceBNe,Int.reduceLT,Int.reduceLE,l8,l9,l10]
    exact⟨false,rfl,fun _=>h60,hk.app _⟩
   ·simp only[ad,↓Xn,↓Xo,↓Xg,↓Xd,↓Xe,↓Xf,Tryz.VΓ,Tryz.Γs,Xp,Xi,Nat.reduceAdd,Nat.reduceSub,Nat.reduceLT,Nat.reduceLeDiff,reduceIte,reduceCtorEq,Nat.reduceEqDiff,implies_true,forall_const,aa,av,beq_self_eq_true,bne_self_eq_false,Int.reduceBEq,Int.reduceBNe,Int.reduceLT,Int.reduceLE,l8,l9,l10]
    refine⟨by omega,⟨i+1,rfl,by omega,hk.app _⟩,?_⟩
    rw[az (show lk 10 _=some (.int .i64 ((i+1:Nat):Int)) from rfl)];omega
  ·have ci:decide ((i:Int)<(R.length:Int))=false:=by simpa using c
   simp only[ad,↓Xn,↓Xo,↓Xg,↓Xd,↓Xe,↓Xf,Tryz.VΓ,Tryz.Γs,Xp,Xi,Nat.reduceAdd,Nat.reduceSub,Nat.reduceLT,Nat.reduceLeDiff,reduceIte,reduceCtorEq,Nat.reduceEqDiff,implies_true,forall_const,aa,av,beq_self_eq_true,bne_self_eq_false,Int.reduceBEq,Int.reduceBNe,Int.reduceLT,Int.reduceLE,l8,l9,l10,ci]
   exact⟨true,rfl,fun _=>h60,hk⟩
 ·simp only[ad,↓Xn,↓Xo,↓Xg,↓Xd,↓Xe,↓Xf,Tryz.VΓ,Tryz.Γs,Xp,Xi,Nat.reduceAdd,Nat.reduceSub,Nat.reduceLT,Nat.reduceLeDiff,reduceIte,reduceCtorEq,Nat.reduceEqDiff,implies_true,forall_const,aa,av,beq_self_eq_true,bne_self_eq_false,Int.reduceBEq,Int.reduceBNe,Int.reduceLT,Int.reduceLE,c0]
  exact⟨false,rfl,fun h=>(by cases h),Kp.refl _⟩
theorem th {b:List ax}{v:Vd}{q:Nat}{R:List Xc}{m:Bool}(hv:v.tr=.o q R.length)(hq:b[q]? = some (.own (R.flatMap xc) 93 9 R.length m))(hl:R.length≤9223372036854775807)(hR:∀ x∈R,Kb x)
 (h1:v.id.text.length≤140737488355328∧v.id.host.length≤140737488355328) (h2:v.bE.text.length≤140737488355328∧v.bE.host.length≤140737488355328) :
 SC Tryz.V 18 [.agg (cN v)] b (fun r b'=>∃ B:Bool,r=.bool B∧(B=true→R.length≤60)∧Kp b b'):=by
 have lL:=(zN7.1 hq).1
 have p1:=xM v.id h1
 have p2:=xM v.bE h2
 unfold cN
 rw[hv]
 refine cz 3000 Tryz.func18 rfl Tryz.ntmps18 Tryz.results18 Tryz.call18 (by simp) (aw b.length _ (by simp[within,within.ay,lL])) ?_
 simp only[ad,↓Xn,↓Xo,↓Xg,↓Xd,↓Xe,↓Xf,Tryz.VΓ,Tryz.Γs,Xp,Xi,Nat.reduceAdd,Nat.reduceSub,Nat.reduceLT,Nat.reduceLeDiff,reduceIte,reduceCtorEq,Nat.reduceEqDiff,implies_true,forall_const,aa,av,beq_self_eq_true,bne_self_eq_false,Int.reduceBEq,Int.reduceBNe,Int.reduceLT,Int.reduceLE]
 refine ae p1 ?_
 cases decide ((v.id.text.length:Int)+v.id.host.length≤1000)
 ·simp only[ad,↓Xn,↓Xo,↓Xg,↓Xd,↓Xe,↓Xf,Tryz.VΓ,Tryz.Γs,Xp,Xi,Nat.reduceAdd,Nat.reduceSub,Nat.reduceLT,Nat.reduceLeDiff,reduceIte,reduceCtorEq,Nat.reduceEqDiff,implies_true,forall_const,aa,av,beq_self_eq_true,bne_self_eq_false,Int.reduceBEq,Int.reduceBNe,Int.reduceLT,Int.reduceLE]
  exact⟨false,rfl,fun h=>(by cases h),(Kp.refl _).app _⟩
 ·simp only[ad,↓Xn,↓Xo,↓Xg,↓Xd,↓Xe,↓Xf,Tryz.VΓ,Tryz.Γs,Xp,Xi,Nat.reduceAdd,Nat.reduceSub,Nat.reduceLT,Nat.reduceLeDiff,reduceIte,reduceCtorEq,Nat.reduceEqDiff,implies_true,forall_const,aa,av,beq_self_eq_true,bne_self_eq_false,Int.reduceBEq,Int.reduceBNe,Int.reduceLT,Int.reduceLE]
  refine ae p2 ?_
  cases decide ((v.bE.text.length:Int)+v.bE.host.length≤1000)
  ·simp only[ad,↓Xn,↓Xo,↓Xg,↓Xd,↓Xe,↓Xf,Tryz.VΓ,Tryz.Γs,Xp,Xi,Nat.reduceAdd,Nat.reduceSub,Nat.reduceLT,Nat.reduceLeDiff,reduceIte,reduceCtorEq,Nat.reduceEqDiff,implies_true,forall_const,aa,av,beq_self_eq_true,bne_self_eq_false,Int.reduceBEq,Int.reduceBNe,Int.reduceLT,Int.reduceLE]
   exact⟨false,rfl,fun h=>(by cases h),(Kp.refl _).app _⟩
  ·simp only[ad,↓Xn,↓Xo,↓Xg,↓Xd,↓Xe,↓Xf,Tryz.VΓ,Tryz.Γs,Xp,Xi,Nat.reduceAdd,Nat.reduceSub,Nat.reduceLT,Nat.reduceLeDiff,reduceIte,reduceCtorEq,Nat.reduceEqDiff,implies_true,forall_const,aa,av,beq_self_eq_true,bne_self_eq_false,Int.reduceBEq,Int.reduceBNe,Int.reduceLT,Int.reduceLE]
   refine aJ (wE (af hq _) hl hR) ?_
   rintro z b1 ⟨B,rfl,hB,hk⟩
   simp only[ad,↓Xn,↓Xo,↓Xg,↓Xd,↓Xe,↓Xf,Tryz.VΓ,Tryz.Γs,Xp,Xi,Nat.reduceAdd,Nat.reduceSub,Nat.reduceLT,Nat.reduceLeDiff,reduceIte,reduceCtorEq,Nat.reduceEqDiff,implies_true,forall_const,aa,av,beq_self_eq_true,bne_self_eq_false,Int.reduceBEq,Int.reduceBNe,Int.reduceLT,Int.reduceLE]
   exact⟨B,rfl,hB,((Kp.refl _).app _).trans hk⟩
theorem tX {b:List ax}{x:SV}{L:List En}{m:Bool}{cp now:Int}{t:Bytes}(h:fT b x L m)(ha:mT En.key L)(hl:L.length≤1000000)(hT:∀ e∈L,e.v.tr=.aE) :
 SC Tryz.V 21 [.agg [.int .i64 cp,x],.str t,.int .u64 now] b (fun r b'=>r=.eS [.agg (cN (getM L t now).1),.bool (getM L t now).2]∧b'=b):=by
 have h1:=Du (cp:=cp) (t:=t) (now:=now) h hl hT
 rw[getR_eq ha]at h1
 have hn:(getM L t now).1.tr=.aE:=by
  unfold getM
  split
  ·rename_i e he
   split
   ·exact hT e (List.mem_of_getElem? he)
   ·rfl
  ·rfl
 exact dw (by rw[kG _ hn];rfl) h1
theorem Fu {L:List En}{t:Bytes}{now:Int}(hT:∀ e∈L,e.v.tr=.aE):(getM L t now).1.tr=.aE:=by
 unfold getM
 split
 ·rename_i e he
  split
  ·exact hT e (List.mem_of_getElem? he)
  ·rfl
 ·rfl
def VdG (b:List ax)(u:Vd):Prop:=∃ R,C8 b u.tr R∧R.length≤60∧0≤u.df∧u.df<18446744073709551616
theorem VdG.kp {b b':List ax}{u:Vd}(h:VdG b u)(k:Kp b b'):VdG b' u:=by
 obtain⟨R,h1,h2⟩:=h
 exact⟨R,h1.kp k,h2⟩
theorem VdG.one {b:List ax}{u:Vd}(h:VdG b u):one u.tr=true:=by
 obtain⟨R,h1,-⟩:=h
 exact h1.one
theorem vd_at (V:List Vd)(k:Nat)(h:k<V.length):((V.flatMap cN).drop (k * 12)).take 12=cN V[k]:=tH cN 12 (fun _=>rfl) V k h
theorem vd_len (V:List Vd):(V.flatMap cN).length=V.length * 12:=nt cN 12 (fun _=>rfl) V
theorem Is {b Xs:List ax}(h:Xs=[]∨(∃ A,Xs=[A])∨∃ A B,Xs=[A,B]):CV [(b.length,0,0),(b.length+1,0,0)] (b++Xs) b:=by
 refine qw (fun j hj=>?_) (fun y hy=>by simp at hy;rcases hy with rfl|rfl <;> rfl)
 have h1:j≠b.length:=fun e=>hj (b.length,0,0) (by simp) e.symm
 have h2:j≠b.length+1:=fun e=>hj (b.length+1,0,0) (by simp) e.symm
 by_cases aB:j<b.length
 ·rw[zOm aB]
 ·rw[zOh (by rcases h with rfl|⟨A,rfl⟩|⟨A,B,rfl⟩ <;> simp <;> omega),zOh (by omega)]
theorem nG {b Xs:List ax}(h:Xs=[]∨∃ A,Xs=[A]):CV [(b.length,0,0)] (b++Xs) b:=by
 refine qw (fun j hj=>?_) (fun y hy=>by simp at hy;rcases hy with rfl;rfl)
 have h1:j≠b.length:=fun e=>hj (b.length,0,0) (by simp) e.symm
 by_cases aB:j<b.length
 ·rw[zOm aB]
 ·rw[zOh (by rcases h with rfl|⟨A,rfl⟩ <;> simp <;> omega),zOh (by omega)]
theorem J4 {b:List ax}{x:SV}{L:List En}{m:Bool}{cp now:Int}{u:Vd}(h:fT b x L m)(pV:m=true∨L.length≠0∨x=.aE)(hM:Mc cp L now)(B7:now≤1000000){now2:Int}(tx:0≤now2∧now2≤1000000)(hu:VdG b u) :
 ∃ x2 Xs x3 Ys,SC Tryz.V 17 [.agg [.int .i64 cp,x],.agg (cN u),.int .u64 now2] b (fun r b'=>r=.agg [.int .i64 cp,x2]∧b'=b++Xs)∧(Xs=[]∨(∃ A,Xs=[A])∨∃ A B,Xs=[A,B]) ∧
  SC Tryz.V 19 [.agg [.int .i64 cp,x],.agg (cN u),.int .u64 now2] (b++Xs) (fun r b'=>r=.agg [.int .i64 cp,x3]∧b'=b++Xs++Ys)∧(Ys=[]∨∃ A,Ys=[A]) ∧
  SC Tryz.V 13 [.agg [.int .i64 cp,x2],.agg [.int .i64 cp,x3]] (b++Xs++Ys) (fun r b'=>r=.bool true∧b'=b++Xs++Ys)∧one x2=true∧one x3=true:=by
 obtain⟨R,hR,hR60,eN,B3⟩:=hu
 have hsm:=hM.small
 have Ch:=hM.hc
 have hid:=nD u.id
 unfold ix at hid
 obtain⟨x2,t2,m2,Xs,h1,h2,h3,h4⟩:=sx_Put (cp:=cp) (now:=now2) h pV (by omega) hM.hT hM.asc hR (by omega) (by omega) hid
 have hO:Kp b (b++Xs):=(Kp.refl _).app _
 have hRb:=hR.kp hO
 obtain⟨x3,m3,Ys,k1,k2,k3⟩:=Dh (b:=b++Xs) (cp:=cp) (now:=now2) (v:=u) (h.kp hO) (by omega) hM.hT Ch.1 hRb.one hRb.within (by omega) ⟨eN,B3⟩
 have eW:Kp (b++Xs) (b++Xs++Ys):=(Kp.refl _).app _
 refine⟨x2,Xs,x3,Ys,h1,h4,k1,k3,?_,h2.one,k2.one⟩
 have hl:∀ (e:En) (L':List En),L'.length≤6→L'.length≤1000000:=fun _ _ h=>by omega
 obtain⟨cb,Ho⟩:∃ cb,cb=(ie u&&cO u.id&&!decide (cp≤0)):=⟨_,rfl⟩
 rw[← Ho]at h2 k2
 cases cb
 ·simp only[Bool.false_eq_true,if_false]at h2 k2
  exact nr (h2.kp eW) k2 (by omega) rfl (fun e he=>by rw[hM.hT e he];rfl) (fun e he=>by rw[hM.hT e he];rfl) fun i hi=>⟨rfl,rfl,fun b2 _=>(iR (hM.hT _ (zOa hi))).scs⟩
 ·simp only[if_true]at h2 k2
  have hcp0:0<cp:=by simp at Ho;omega
  obtain⟨A,B,hAB,hmid⟩:=A3 (key:=En.key) (ex:=En.aS) (cap:=cp) (L:=L) u.id.text
  have hTA:∀ e∈A,e.v.tr=.aE:=fun e he=>hM.hT e (hAB e (List.mem_append_left _ he))
  have hTB:∀ e∈B,e.v.tr=.aE:=fun e he=>hM.hT e (hAB e (List.mem_append_right _ he))
  have hlen:=A4 (ex:=En.aS) hM.asc hcp0 hM.len (jK u now2)
  rw[hmid _ rfl]at h2 k2 hlen
  have ht2:=h3.one
  refine nr (h2.kp eW) k2 (by simp at hlen ⊢;omega) (by simp) (fun e he=>?_) (fun e he=>?_) fun i hi=>?_
  ·simp only[zOt,List.mem_singleton]at he
   rcases he with(he|rfl) | he
   ·rw[hTA e he];rfl
   ·exact ht2
   ·rw[hTB e he];rfl
  ·simp only[zOt,List.mem_singleton]at he
   rcases he with(he|rfl) | he
   ·rw[hTA e he];rfl
   ·exact hR.one
   ·rw[hTB e he];rfl
  ·by_cases c1:i<A.length
   ·have e1:(A++[jK { u with tr:=t2 } now2]++B)[i]=A[i]:=by rw[zOg (by simp;omega),zOg c1]
    have e2:(A++[jK u now2]++B)[i]'(by simp at hi ⊢;omega)=A[i]:=by rw[zOg (by simp;omega),zOg c1]
    rw[e1,e2]
    exact⟨rfl,rfl,fun b2 _=>(iR (hTA _ (zOa c1))).scs⟩
   ·by_cases c2:i=A.length
    ·subst c2
     have e1:(A++[jK { u with tr:=t2 } now2]++B)[A.length]=jK { u with tr:=t2 } now2:=by rw[zOg (by simp),zOn (by omega)];simp
     have e2:(A++[jK u now2]++B)[A.length]'(by simp)=jK u now2:=by rw[zOg (by simp),zOn (by omega)];simp
     rw[e1,e2]
     refine⟨rfl,rfl,fun b2 hk=>?_⟩
     have:=AL (b:=b2) (v:={ u with tr:=t2 }) (x:=u.tr) ((h3.kp eW).kp hk) ((hRb.kp eW).kp hk) (by omega)
     exact this
    ·have GD:i<A.length+1+B.length:=by simp at hi;omega
     have e1:(A++[jK { u with tr:=t2 } now2]++B)[i]=B[i - (A.length+1)]'(by omega):=by rw[zOn (by simp;omega)];simp
     have e2:(A++[jK u now2]++B)[i]'(by simp at hi ⊢;omega)=B[i - (A.length+1)]'(by omega):=by rw[zOn (by simp;omega)];simp
     rw[e1,e2]
     exact⟨rfl,rfl,fun b2 _=>(iR (hTB _ (zOa _))).scs⟩
theorem CP {b:List ax}{x:SV}{L:List En}{m:Bool}{cp:Int}(h:fT b x L m)(pV:m=true∨L.length≠0∨x=.aE)(hl:L.length≤1000)(hT:∀ e∈L,e.v.tr=.aE)(t:Int) :
 ∃ x2 Xs x3 Ys,SC Tryz.V 23 [.agg [.int .i64 cp,x],.int .u64 t] b (fun r b'=>r=.agg [.int .i64 cp,x2]∧b'=b++Xs)∧(Xs=[]∨∃ A,Xs=[A]) ∧
  SC Tryz.V 24 [.agg [.int .i64 cp,x],.int .u64 t] (b++Xs) (fun r b'=>r=.agg [.int .i64 cp,x3]∧b'=b++Xs++Ys)∧(Ys=[]∨∃ A,Ys=[A]) ∧
  SC Tryz.V 13 [.agg [.int .i64 cp,x2],.agg [.int .i64 cp,x3]] (b++Xs++Ys) (fun r b'=>r=.bool true∧b'=b++Xs++Ys)∧one x2=true∧one x3=true:=by
 obtain⟨x2,m2,Xs,h1,h2,h4⟩:=Dj (cp:=cp) (now:=t) h pV (by omega) hT
 have hO:Kp b (b++Xs):=(Kp.refl _).app _
 obtain⟨x3,m3,Ys,k1,k2,k3⟩:=wz (b:=b++Xs) (cp:=cp) (now:=t) (h.kp hO) (by omega) hT
 have eW:Kp (b++Xs) (b++Xs++Ys):=(Kp.refl _).app _
 have hTe:∀ e∈gl L t,e.v.tr=.aE:=fun e he=>hT e (zOq.1 he).1
 have hle:(gl L t).length≤L.length:=zOl _ _
 exact⟨x2,Xs,x3,Ys,h1,h4,k1,k3,nr (h2.kp eW) k2 (by omega) rfl (fun e he=>by rw[hTe e he];rfl) (fun e he=>by rw[hTe e he];rfl) fun i hi=>⟨rfl,rfl,fun b2 _=>(iR (hTe _ (zOa hi))).scs⟩,h2.one,k2.one⟩
theorem AT (S:List Int)(n sec lat:Int)(v:Vd)(R:List Xc)(text:Bytes)(hn:0≤n∧n≤255)(hsec:0≤sec∧sec<18446744073709551616)(hlat:0≤lat∧lat<18446744073709551616)(hS:S.length≤9223372036854775807)(hr:∀ r∈S,0≤r∧r≤255)
 (hv:v.tr=.o 1 R.length) (hvs:0≤v.df∧v.df<18446744073709551616) (hRl:R.length≤9223372036854775807) (hR:∀ x∈R,Kb x)
 (h1:v.id.text.length≤140737488355328∧v.id.host.length≤140737488355328) (h2:v.bE.text.length≤140737488355328∧v.bE.host.length≤140737488355328) :
 SC Tryz.V 6 [.o 0 S.length,.int .u8 n,.int .u64 sec,.int .u64 lat,.agg (cN v),.str text] [.own (S.flatMap wb) 5 1 S.length false,.own (R.flatMap xc) 93 9 R.length false] (fun r _=>r=.bool true):=by
 obtain⟨bs,Jv⟩:∃ bs:List ax,bs=[.own (S.flatMap wb) 5 1 S.length false,.own (R.flatMap xc) 93 9 R.length false]:=⟨_,rfl⟩
 have eV:bs[0]? = some (.own (S.flatMap wb) 5 1 S.length false):=by rw[Jv];rfl
 have kR:bs[1]? = some (.own (R.flatMap xc) 93 9 R.length false):=by rw[Jv];rfl
 have mQ:bs.length=2:=by rw[Jv];rfl
 rw[← Jv]
 clear Jv
 have B0:cN v=[.int .i64 v.err,.int .i64 v.id.kind,.str v.id.text,.str v.id.host,.int .i64 v.id.port,.int .i64 v.bE.kind,.str v.bE.text,.str v.bE.host,.int .i64 v.bE.port,.bool v.store,.int .u64 v.df,v.tr]:=rfl
 have hvo:one v.tr=true:=by rw[hv];rfl
 have C4:(cN v).length=12:=rfl
 have hv12:(cN v).take 12=cN v:=zOc (by rw[C4];omega)
 have Fc:(cN v).all one=true:=by rw[B0];simp[one,hv]
 refine cz 3000 Tryz.func6 rfl Tryz.ntmps6 Tryz.results6 Tryz.call6 (by simp) (fun β β' hb=>aw 2 _ (by simp[within,within.ay,cN,hv]) β β' (by rw[← mQ];exact hb)) ?_
 refine bd 2900 (fun σ=>lk 0 σ.t=some (.o 0 S.length)∧lk 1 σ.t=some (.int .u8 n)∧lk 2 σ.t=some (.int .u64 sec)∧lk 3 σ.t=some (.int .u64 lat)∧lk 5 σ.t=some (.str text)∧lk 10 σ.t=some (.p bs.length 0)∧σ.b=bs++[.cells (cN v) 41 true]) ?_ (fun k' hk'=>?_)
 rotate_left
 ·simp only[ad,↓Xn,↓Xo,↓Xg,↓Xd,↓Xe,↓Xf,Tryz.VΓ,Tryz.Γs,Xp,Xi,Nat.reduceAdd,Nat.reduceSub,Nat.reduceLT,Nat.reduceLeDiff,reduceIte,reduceCtorEq,Nat.reduceEqDiff,implies_true,forall_const,aa,av,beq_self_eq_true,bne_self_eq_false,Int.reduceBEq,Int.reduceBNe,Int.reduceLT,Int.reduceLE,C4,Fc]
  exact hk' _ _ ⟨rfl,rfl,rfl,rfl,rfl,rfl,rfl⟩
 rintro m1 ⟨t1,b1⟩ ⟨l0,l1,l2,l3,l5,l10,rfl⟩
 simp only at l0 l1 l2 l3 l5 l10
 refine bd 2800 (fun σ=>lk 0 σ.t=some (.o 0 S.length)∧lk 1 σ.t=some (.int .u8 n)∧lk 2 σ.t=some (.int .u64 sec)∧lk 3 σ.t=some (.int .u64 lat)∧lk 5 σ.t=some (.str text)∧lk 10 σ.t=some (.p bs.length 0)∧σ.b=bs++[.cells (cN v) 41 true]) ?_ (fun k' hk'=>?_)
 rotate_left
 ·simp only[ad,↓Xn,↓Xo,↓Xg,↓Xd,↓Xe,↓Xf,Tryz.VΓ,Tryz.Γs,Xp,Xi,Nat.reduceAdd,Nat.reduceSub,Nat.reduceLT,Nat.reduceLeDiff,reduceIte,reduceCtorEq,Nat.reduceEqDiff,implies_true,forall_const,aa,av,beq_self_eq_true,bne_self_eq_false,Int.reduceBEq,Int.reduceBNe,Int.reduceLT,Int.reduceLE]
  refine aJ sc_sane ?_
  rintro y b2 ⟨rfl,rfl⟩
  simp only[ad,↓Xn,↓Xo,↓Xg,↓Xd,↓Xe,↓Xf,Tryz.VΓ,Tryz.Γs,Xp,Xi,Nat.reduceAdd,Nat.reduceSub,Nat.reduceLT,Nat.reduceLeDiff,reduceIte,reduceCtorEq,Nat.reduceEqDiff,implies_true,forall_const,aa,av,beq_self_eq_true,bne_self_eq_false,Int.reduceBEq,Int.reduceBNe,Int.reduceLT,Int.reduceLE]
  exact hk' _ _ ⟨l0,l1,l2,l3,l5,l10,rfl⟩
 clear l0 l1 l2 l3 l5 l10
 rintro m2 ⟨t2,b2⟩ ⟨l0,l1,l2,l3,l5,l10,rfl⟩
 simp only at l0 l1 l2 l3 l5 l10
 refine bd 2700 (fun σ=>lk 0 σ.t=some (.o 0 S.length)∧lk 1 σ.t=some (.int .u8 n)∧lk 2 σ.t=some (.int .u64 sec)∧lk 3 σ.t=some (.int .u64 lat)∧lk 5 σ.t=some (.str text)∧lk 10 σ.t=some (.p bs.length 0)∧Kp (bs++[.cells (cN v) 41 true]) σ.b∧R.length≤60) ?_ (fun k' hk'=>?_)
 rotate_left
 ·simp only[ad,↓Xn,↓Xo,↓Xg,↓Xd,↓Xe,↓Xf,Tryz.VΓ,Tryz.Γs,Xp,Xi,Nat.reduceAdd,Nat.reduceSub,Nat.reduceLT,Nat.reduceLeDiff,reduceIte,reduceCtorEq,Nat.reduceEqDiff,implies_true,forall_const,aa,av,beq_self_eq_true,bne_self_eq_false,Int.reduceBEq,Int.reduceBNe,Int.reduceLT,Int.reduceLE,l10,C4,hv12]
  refine aJ (th hv (af kR _) hRl hR h1 h2) ?_
  rintro y b3 ⟨B,rfl,hB,hk⟩
  cases B
  ·simp only[ad,↓Xn,↓Xo,↓Xg,↓Xd,↓Xe,↓Xf,Tryz.VΓ,Tryz.Γs,Xp,Xi,Nat.reduceAdd,Nat.reduceSub,Nat.reduceLT,Nat.reduceLeDiff,reduceIte,reduceCtorEq,Nat.reduceEqDiff,implies_true,forall_const,aa,av,beq_self_eq_true,bne_self_eq_false,Int.reduceBEq,Int.reduceBNe,Int.reduceLT,Int.reduceLE]
  ·simp only[ad,↓Xn,↓Xo,↓Xg,↓Xd,↓Xe,↓Xf,Tryz.VΓ,Tryz.Γs,Xp,Xi,Nat.reduceAdd,Nat.reduceSub,Nat.reduceLT,Nat.reduceLeDiff,reduceIte,reduceCtorEq,Nat.reduceEqDiff,implies_true,forall_const,aa,av,beq_self_eq_true,bne_self_eq_false,Int.reduceBEq,Int.reduceBNe,Int.reduceLT,Int.reduceLE]
   exact hk' _ _ ⟨l0,l1,l2,l3,l5,l10,hk,hB rfl⟩
 clear l0 l1 l2 l3 l5 l10
 rintro m3 ⟨t3,b3⟩ ⟨l0,l1,l2,l3,l5,l10,mG,hR60⟩
 simp only at l0 l1 l2 l3 l5 l10 mG
 have pv:=mG.at ((gZ bs _).trans rfl:(bs++[ax.cells (cN v) 41 true])[bs.length]? = some (.cells (cN v) 41 true))
 have pr:=mG.at (af kR _)
 have ps:=mG.at (af eV _)
 refine bd 2600 (fun σ=>lk 1 σ.t=some (.int .u8 n)∧lk 2 σ.t=some (.int .u64 sec)∧lk 3 σ.t=some (.int .u64 lat)∧lk 5 σ.t=some (.str text)∧lk 10 σ.t=some (.p bs.length 0)∧Kp b3 σ.b∧∃ c cp x L m now,lk 13 σ.t=some (.p c 0)∧lk 14 σ.t=some (.int .u64 now)∧Mb σ.b c cp x L m now) ?_ (fun k' hk'=>?_)
 rotate_left
 ·simp only[ad,↓Xn,↓Xo,↓Xg,↓Xd,↓Xe,↓Xf,Tryz.VΓ,Tryz.Γs,Xp,Xi,Nat.reduceAdd,Nat.reduceSub,Nat.reduceLT,Nat.reduceLeDiff,reduceIte,reduceCtorEq,Nat.reduceEqDiff,implies_true,forall_const,aa,av,beq_self_eq_true,bne_self_eq_false,Int.reduceBEq,Int.reduceBNe,Int.reduceLT,Int.reduceLE,l0]
  refine aJ (sc_made ps hr hS) ?_
  rintro y b4 ⟨cp,x,L,m,now,rfl,hk,hE,hM,B7,hm⟩
  have ho:=hE.one
  simp only[ad,↓Xn,↓Xo,↓Xg,↓Xd,↓Xe,↓Xf,Tryz.VΓ,Tryz.Γs,Xp,Xi,Nat.reduceAdd,Nat.reduceSub,Nat.reduceLT,Nat.reduceLeDiff,reduceIte,reduceCtorEq,Nat.reduceEqDiff,implies_true,forall_const,aa,av,beq_self_eq_true,bne_self_eq_false,Int.reduceBEq,Int.reduceBNe,Int.reduceLT,Int.reduceLE,l0,ho]
  exact hk' _ _ ⟨l1,l2,l3,l5,l10,hk.app _,_,cp,x,L,m,now,rfl,rfl,(gZ _ _).trans rfl,hE.kp ((Kp.refl _).app _),hM,B7,hm⟩
 clear l0 l1 l2 l3 l5 l10
 rintro m4 ⟨t4,b4⟩ ⟨l1,l2,l3,l5,l10,zJ,c,cp,x,L,m,now,l13,l14,hB⟩
 simp only at l1 l2 l3 l5 l10 l13 l14 zJ hB
 replace pv:=zJ.at pv
 replace pr:=zJ.at pr
 clear zJ mG ps eV kR
 have B7:=hB.M.hn
 have hnow2:=hB.n
 obtain⟨w,hw⟩:∃ w,w=now+lat % 100:=⟨_,rfl⟩
 have hw0:0≤w∧w≤1000:=by omega
 refine bd 2500 (fun σ=>lk 1 σ.t=some (.int .u8 n)∧lk 2 σ.t=some (.int .u64 sec)∧lk 3 σ.t=some (.int .u64 lat)∧lk 5 σ.t=some (.str text)∧lk 10 σ.t=some (.p bs.length 0)∧lk 13 σ.t=some (.p c 0)∧lk 14 σ.t=some (.int .u64 w)∧σ.b=b4) ?_ (fun k' hk'=>?_)
 rotate_left
 ·have e1:=HG (c:=100) hlat.1
  have e2:IntKind.u64.wrap (now+lat % 100)=w:=by rw[u64k (by omega) (by omega),hw]
  simp only[ad,↓Xn,↓Xo,↓Xg,↓Xd,↓Xe,↓Xf,Tryz.VΓ,Tryz.Γs,Xp,Xi,Nat.reduceAdd,Nat.reduceSub,Nat.reduceLT,Nat.reduceLeDiff,reduceIte,reduceCtorEq,Nat.reduceEqDiff,implies_true,forall_const,aa,av,beq_self_eq_true,bne_self_eq_false,Int.reduceBEq,Int.reduceBNe,Int.reduceLT,Int.reduceLE,l3,l14,e1,e2]
  refine⟨by decide,hk' _ _ ⟨l1,l2,l3,l5,l10,l13,rfl,rfl⟩⟩
 clear l1 l2 l3 l5 l10 l13 l14
 rintro m5 ⟨t5,b5⟩ ⟨l1,l2,l3,l5,l10,l13,l14,rfl⟩
 simp only at l1 l2 l3 l5 l10 l13 l14
 obtain⟨nn,rfl⟩:∃ nn:Nat,n=(nn:Int):=⟨n.toNat,by omega⟩
 refine bd 2400 (fun σ=>lk 3 σ.t=some (.int .u64 lat)∧lk 5 σ.t=some (.str text)∧lk 13 σ.t=some (.p c 0)∧lk 14 σ.t=some (.int .u64 w)∧Kp b5 σ.b) ?_ (fun k' hk'=>?_)
 rotate_left
 ·have p1:=iu nn sec (by omega)
  have p2:=iu nn (sec % 100) (by omega)
  have e1:=i64k (n:=(nn:Int)) (by omega) (by omega)
  have e2:=HG (c:=100) hsec.1
  simp only[ad,↓Xn,↓Xo,↓Xg,↓Xd,↓Xe,↓Xf,Tryz.VΓ,Tryz.Γs,Xp,Xi,Nat.reduceAdd,Nat.reduceSub,Nat.reduceLT,Nat.reduceLeDiff,reduceIte,reduceCtorEq,Nat.reduceEqDiff,implies_true,forall_const,aa,av,beq_self_eq_true,bne_self_eq_false,Int.reduceBEq,Int.reduceBNe,Int.reduceLT,Int.reduceLE,l1,l2,l10,e1,e2]
  refine aU p1 ?_
  simp only[ad,↓Xn,↓Xo,↓Xg,↓Xd,↓Xe,↓Xf,Tryz.VΓ,Tryz.Γs,Xp,Xi,Nat.reduceAdd,Nat.reduceSub,Nat.reduceLT,Nat.reduceLeDiff,reduceIte,reduceCtorEq,Nat.reduceEqDiff,implies_true,forall_const,aa,av,beq_self_eq_true,bne_self_eq_false,Int.reduceBEq,Int.reduceBNe,Int.reduceLT,Int.reduceLE,l1,l2,l10,e1,e2]
  refine⟨by decide,aU p2 ?_⟩
  have q1:(cN (vV nn sec)).length=12:=rfl
  have q2:(cN (vV nn (sec % 100))).length=12:=rfl
  simp only[ad,↓Xn,↓Xo,↓Xg,↓Xd,↓Xe,↓Xf,Tryz.VΓ,Tryz.Γs,Xp,Xi,Nat.reduceAdd,Nat.reduceSub,Nat.reduceLT,Nat.reduceLeDiff,reduceIte,reduceCtorEq,Nat.reduceEqDiff,implies_true,forall_const,aa,av,beq_self_eq_true,bne_self_eq_false,Int.reduceBEq,Int.reduceBNe,Int.reduceLT,Int.reduceLE,l1,l2,l10,e1,e2,pv,C4,hv12,q1,q2]
  have eo:cN (vV nn sec)++(cN (vV nn (sec % 100))++cN v)=[vV nn sec,vV nn (sec % 100),v].flatMap cN:=by simp
  rw[eo]
  have hVS:∀ u∈[vV nn sec,vV nn (sec % 100),v],VdG b5 u:=fun u hu=>by
   simp only[List.mem_cons,List.not_mem_nil,or_false]at hu
   rcases hu with rfl|rfl|rfl
   ·exact⟨[],.inl ⟨rfl,rfl⟩,by simp,hsec⟩
   ·exact⟨[],.inl ⟨rfl,rfl⟩,by simp,by show 0≤sec % 100;omega,by show sec % 100<18446744073709551616;omega⟩
   ·exact⟨R,.inr ⟨1,false,hv,pr⟩,hR60,hvs⟩
  have hVl:[vV nn sec,vV nn (sec % 100),v].length=3:=rfl
  have bn:¬ bs.length=b5.length:=Nat.ne_of_lt (zN7.1 pv).1
  refine⟨by decide,(by
   refine fg (fun n=>if n=b5.length then 0 else 1) ?_
   simp only[zOj,zOk,fX,kX,reduceIte,bn]
   exact aq (by kernel_rfl)),?_⟩
  generalize [vV nn sec,vV nn (sec % 100),v]=VS at hVS hVl ⊢
  clear pv pr l1 l2 l10 eo p1 p2
  refine aM (fun σ=>∃ (i:Nat),lk 3 σ.t=some (.int .u64 lat)∧lk 5 σ.t=some (.str text)∧lk 13 σ.t=some (.p c 0)∧lk 14 σ.t=some (.int .u64 w)∧lk 49 σ.t=some (.o b5.length 3)∧lk 50 σ.t=some (.int .i64 3)∧lk 51 σ.t=some (.int .i64 i)∧i≤3∧Kp (b5++[.own (VS.flatMap cN) 41 12 3 true]) σ.b) (fun σ=>3 - ja 51 σ) ⟨0,l3,l5,l13,l14,rfl,rfl,rfl,by omega,Kp.refl _⟩ ?_
  clear l3 l5 l13 l14
  rintro⟨t6,b6⟩ ⟨i,l3,l5,l13,l14,l49,l50,l51,hi,hk⟩
  simp only at l3 l5 l13 l14 l49 l50 l51 hk
  rw[az l51]
  have zI:Kp b5 b6:=((Kp.refl _).app _).trans hk
  by_cases ci0:i<3
  ·have ci:decide ((i:Int)<3)=true:=by simp;omega
   have hiV:i<VS.length:=by omega
   obtain⟨u,hu⟩:∃ u,u=VS[i]:=⟨_,rfl⟩
   have hug:VdG b6 u:=(hVS u (by rw[hu];exact zOa hiV)).kp zI
   have fI:=hk.at ((gZ b5 _).trans rfl:(b5++[ax.own (VS.flatMap cN) 41 12 3 true])[b5.length]? = some (.own (VS.flatMap cN) 41 12 3 true))
   have dW:=vd_at VS i hiV
   rw[← hu]at dW
   have hul:(cN u).length=12:=rfl
   have hu12:(cN u).take 12=cN u:=zOc (by rw[hul];omega)
   have hu1:(cN u).all one=true:=by have:=hug.one;simp[cN,one]at this ⊢;exact this
   have huk:(cN u)[2]? = some (.str u.id.text):=rfl
   have hvlen:=vd_len VS
   have hB6:=hB.kp zI
   obtain⟨c1,rX⟩:∃ c1,c1=b6++[ax.cells (cN u) 41 true]:=⟨_,rfl⟩
   have Jg:Kp b6 c1:=by rw[rX];exact(Kp.refl _).app _
   have hBc:=hB6.kp Jg
   have hxc:c1[b6.length]? = some (.cells (cN u) 41 true):=by rw[rX];exact(gZ _ _).trans rfl
   obtain⟨x2,Xs,x3,Ys,P1,P2,P3,P4,P5,P6,P7⟩:=J4 hBc.e hBc.mn hBc.M (by omega) (now2:=w) (by omega) (hug.kp Jg)
   have pc:=hBc.c
   have ho:=hBc.e.one
   have pc1:=af pc Xs
   have Fa:=af hxc Xs
   simp only[ad,↓Xn,↓Xo,↓Xg,↓Xd,↓Xe,↓Xf,Tryz.VΓ,Tryz.Γs,Xp,Xi,Nat.reduceAdd,Nat.reduceSub,Nat.reduceLT,Nat.reduceLeDiff,reduceIte,reduceCtorEq,Nat.reduceEqDiff,implies_true,forall_const,aa,av,beq_self_eq_true,bne_self_eq_false,Int.reduceBEq,Int.reduceBNe,Int.reduceLT,Int.reduceLE,l3,l5,l13,l14,l49,l50,l51,ci,fI,dW,hul,hu12]
   refine⟨⟨by omega,by omega⟩,by rw[hvlen];omega,hu1,?_⟩
   rw[← rX]
   clear rX
   have dB:c<c1.length:=(zN7.1 pc).1
   have D6:b6.length<c1.length:=(zN7.1 hxc).1
   have hcx:¬ c=b6.length:=by rintro rfl;rw[pc]at hxc;cases hxc
   simp only[ad,↓Xn,↓Xo,↓Xg,↓Xd,↓Xe,↓Xf,Tryz.VΓ,Tryz.Γs,Xp,Xi,Nat.reduceAdd,Nat.reduceSub,Nat.reduceLT,Nat.reduceLeDiff,reduceIte,reduceCtorEq,Nat.reduceEqDiff,implies_true,forall_const,aa,av,beq_self_eq_true,bne_self_eq_false,Int.reduceBEq,Int.reduceBNe,Int.reduceLT,Int.reduceLE,l13,l14,pc,hxc,hul,hu12,ho]
   refine bC [(c1.length,0,0),(c1.length+1,0,0)] P1 (Is P2) ?_
   simp only[ad,↓Xn,↓Xo,↓Xg,↓Xd,↓Xe,↓Xf,Tryz.VΓ,Tryz.Γs,Xp,Xi,Nat.reduceAdd,Nat.reduceSub,Nat.reduceLT,Nat.reduceLeDiff,reduceIte,reduceCtorEq,Nat.reduceEqDiff,implies_true,forall_const,aa,av,beq_self_eq_true,bne_self_eq_false,Int.reduceBEq,Int.reduceBNe,Int.reduceLT,Int.reduceLE,l13,l14,pc1,Fa,hul,hu12,ho]
   refine bC [((c1++Xs).length,0,0)] P3 (nG P4) ?_
   simp only[ad,↓Xn,↓Xo,↓Xg,↓Xd,↓Xe,↓Xf,Tryz.VΓ,Tryz.Γs,Xp,Xi,Nat.reduceAdd,Nat.reduceSub,Nat.reduceLT,Nat.reduceLeDiff,reduceIte,reduceCtorEq,Nat.reduceEqDiff,implies_true,forall_const,aa,av,beq_self_eq_true,bne_self_eq_false,Int.reduceBEq,Int.reduceBNe,Int.reduceLT,Int.reduceLE,l13,l14,P6,P7]
   simp only[zOi]at P5
   refine bC [] P5 (fun _ _ _=>rfl) ?_
   simp only[ad,↓Xn,↓Xo,↓Xg,↓Xd,↓Xe,↓Xf,Tryz.VΓ,Tryz.Γs,Xp,Xi,Nat.reduceAdd,Nat.reduceSub,Nat.reduceLT,Nat.reduceLeDiff,reduceIte,reduceCtorEq,Nat.reduceEqDiff,implies_true,forall_const,aa,av,beq_self_eq_true,bne_self_eq_false,Int.reduceBEq,Int.reduceBNe,Int.reduceLT,Int.reduceLE,l13,l14]
   have f1:¬ b6.length=c:=Ne.symm hcx
   have f2:¬ c1.length=c:=by omega
   have f3:¬ c1.length+1=c:=by omega
   have f4:¬ c1.length+Xs.length=c:=by omega
   have f5:¬ c1.length=b6.length:=by omega
   have f6:¬ c1.length+1=b6.length:=by omega
   have f7:¬ c1.length+Xs.length=b6.length:=by omega
   refine⟨by
    refine fg (fun k=>if k=c then 0 else if k=b6.length then 1 else 2) ?_
    simp only[zOj,zOk,fX,kX,reduceIte,f1,f2,f3,f4,f5,f6,f7]
    exact aq (by kernel_rfl),?_⟩
   obtain⟨d1,lM⟩:∃ d1,d1=c1++(Xs++Ys):=⟨_,rfl⟩
   have hkd:Kp c1 d1:=by rw[lM];exact(Kp.refl _).app _
   rw[← lM]
   clear lM P1 P2 P3 P4 P5 pc1 Fa f1 f2 f3 f4 f5 f6 f7
   have hBd:=hBc.kp hkd
   have pcd:=hBd.c
   have hxd:=hkd.at hxc
   have hsm:=hBd.M.small
   have Fe:=Fu (t:=u.id.text) (now:=w) hBd.M.hT
   have hg:=yF (cp:=cp) (t:=u.id.text) (now:=w) hBd.e hBd.M.asc (by omega) hBd.M.hT
   obtain⟨g,hgg⟩:∃ g,g=getM L u.id.text w:=⟨_,rfl⟩
   rw[← hgg]at Fe hg
   obtain⟨gv,gb⟩:=g
   simp only at Fe hg
   have hgv:=kG gv Fe
   rw[hgv]at hg
   simp only[ad,↓Xn,↓Xo,↓Xg,↓Xd,↓Xe,↓Xf,Tryz.VΓ,Tryz.Γs,Xp,Xi,Nat.reduceAdd,Nat.reduceSub,Nat.reduceLT,Nat.reduceLeDiff,reduceIte,reduceCtorEq,Nat.reduceEqDiff,implies_true,forall_const,aa,av,beq_self_eq_true,bne_self_eq_false,Int.reduceBEq,Int.reduceBNe,Int.reduceLT,Int.reduceLE,l13,l14,pcd,hxd,hul,huk,ho]
   refine aJ hg ?_
   rintro z d2 ⟨rfl,rfl⟩
   simp only[ad,↓Xn,↓Xo,↓Xg,↓Xd,↓Xe,↓Xf,Tryz.VΓ,Tryz.Γs,Xp,Xi,Nat.reduceAdd,Nat.reduceSub,Nat.reduceLT,Nat.reduceLeDiff,reduceIte,reduceCtorEq,Nat.reduceEqDiff,implies_true,forall_const,aa,av,beq_self_eq_true,bne_self_eq_false,Int.reduceBEq,Int.reduceBNe,Int.reduceLT,Int.reduceLE,l13,l14,pcd,hxd,hul,huk,ho,af pcd,af hxd]
   have Ee:=tX (cp:=cp) (t:=u.id.text) (now:=w) (hBd.kp ((Kp.refl d2).app [.cells (cN gv) 41 true])).e hBd.M.asc (by omega) hBd.M.hT
   rw[← hgg]at Ee
   simp only at Ee
   rw[hgv]at Ee
   refine aJ Ee ?_
   rintro z d3 ⟨rfl,rfl⟩
   have Fg:=iR Fe
   rw[hgv]at Fg
   have hbb:(gb != gb)=false:=by simp
   simp only[ad,↓Xn,↓Xo,↓Xg,↓Xd,↓Xe,↓Xf,Tryz.VΓ,Tryz.Γs,Xp,Xi,Nat.reduceAdd,Nat.reduceSub,Nat.reduceLT,Nat.reduceLeDiff,reduceIte,reduceCtorEq,Nat.reduceEqDiff,implies_true,forall_const,aa,av,beq_self_eq_true,bne_self_eq_false,Int.reduceBEq,Int.reduceBNe,Int.reduceLT,Int.reduceLE,l13,l14,hbb]
   refine ae Fg ?_
   simp only[ad,↓Xn,↓Xo,↓Xg,↓Xd,↓Xe,↓Xf,Tryz.VΓ,Tryz.Γs,Xp,Xi,Nat.reduceAdd,Nat.reduceSub,Nat.reduceLT,Nat.reduceLeDiff,reduceIte,reduceCtorEq,Nat.reduceEqDiff,implies_true,forall_const,aa,av,beq_self_eq_true,bne_self_eq_false,Int.reduceBEq,Int.reduceBNe,Int.reduceLT,Int.reduceLE,l51]
   refine⟨by omega,⟨i+1,l3,l5,l13,l14,l49,l50,rfl,by omega,(((hk.trans Jg).trans hkd).app _)⟩,?_⟩
   rw[az (show lk 51 _=some (.int .i64 ((i+1:Nat):Int)) from rfl)];omega
  ·have ci:decide ((i:Int)<3)=false:=by simp;omega
   simp only[ad,↓Xn,↓Xo,↓Xg,↓Xd,↓Xe,↓Xf,Tryz.VΓ,Tryz.Γs,Xp,Xi,Nat.reduceAdd,Nat.reduceSub,Nat.reduceLT,Nat.reduceLeDiff,reduceIte,reduceCtorEq,Nat.reduceEqDiff,implies_true,forall_const,aa,av,beq_self_eq_true,bne_self_eq_false,Int.reduceBEq,Int.reduceBNe,Int.reduceLT,Int.reduceLE,l49,l50,l51,ci]
   exact hk' _ _ ⟨l3,l5,l13,l14,zI⟩
 clear l1 l2 l3 l5 l10 l13 l14
 rintro m6 ⟨t6,b6⟩ ⟨l3,l5,l13,l14,wj⟩
 simp only at l3 l5 l13 l14 wj
 replace hB:=hB.kp wj
 clear wj pv pr
 have hsm:=hB.M.small
 have pc:=hB.c
 have ho:=hB.e.one
 have Fe:=Fu (t:=text) (now:=lat) hB.M.hT
 have hg:=yF (cp:=cp) (t:=text) (now:=lat) hB.e hB.M.asc (by omega) hB.M.hT
 obtain⟨g,hgg⟩:∃ g,g=getM L text lat:=⟨_,rfl⟩
 rw[← hgg]at Fe hg
 obtain⟨gv,gb⟩:=g
 simp only at Fe hg
 have hgv:=kG gv Fe
 rw[hgv]at hg
 refine bd 2300 (fun σ=>lk 3 σ.t=some (.int .u64 lat)∧lk 5 σ.t=some (.str text)∧lk 13 σ.t=some (.p c 0)∧lk 14 σ.t=some (.int .u64 w)∧lk 22 σ.t=some (.bool gb)∧Kp b6 σ.b) ?_ (fun k' hk'=>?_)
 rotate_left
 ·simp only[ad,↓Xn,↓Xo,↓Xg,↓Xd,↓Xe,↓Xf,Tryz.VΓ,Tryz.Γs,Xp,Xi,Nat.reduceAdd,Nat.reduceSub,Nat.reduceLT,Nat.reduceLeDiff,reduceIte,reduceCtorEq,Nat.reduceEqDiff,implies_true,forall_const,aa,av,beq_self_eq_true,bne_self_eq_false,Int.reduceBEq,Int.reduceBNe,Int.reduceLT,Int.reduceLE,l3,l5,l13,pc,ho]
  refine aJ hg ?_
  rintro z b7 ⟨rfl,rfl⟩
  simp only[ad,↓Xn,↓Xo,↓Xg,↓Xd,↓Xe,↓Xf,Tryz.VΓ,Tryz.Γs,Xp,Xi,Nat.reduceAdd,Nat.reduceSub,Nat.reduceLT,Nat.reduceLeDiff,reduceIte,reduceCtorEq,Nat.reduceEqDiff,implies_true,forall_const,aa,av,beq_self_eq_true,bne_self_eq_false,Int.reduceBEq,Int.reduceBNe,Int.reduceLT,Int.reduceLE,l3,l5,l13,pc,ho]
  exact hk' _ _ ⟨l3,l5,l13,l14,rfl,(Kp.refl _).app _⟩
 clear l3 l5 l13 l14 hg
 rintro m7 ⟨t7,b7⟩ ⟨l3,l5,l13,l14,l22,hk7⟩
 simp only at l3 l5 l13 l14 l22 hk7
 replace hB:=hB.kp hk7
 replace pc:=hk7.at pc
 clear hk7
 have hg:=tX (cp:=cp) (t:=text) (now:=lat) hB.e hB.M.asc (by omega) hB.M.hT
 rw[← hgg]at hg
 simp only at hg
 rw[hgv]at hg
 refine bd 2200 (fun σ=>lk 3 σ.t=some (.int .u64 lat)∧lk 13 σ.t=some (.p c 0)∧lk 14 σ.t=some (.int .u64 w)∧lk 22 σ.t=some (.bool gb)∧lk 24 σ.t=some (.bool gb)∧Kp b7 σ.b) ?_ (fun k' hk'=>?_)
 rotate_left
 ·simp only[ad,↓Xn,↓Xo,↓Xg,↓Xd,↓Xe,↓Xf,Tryz.VΓ,Tryz.Γs,Xp,Xi,Nat.reduceAdd,Nat.reduceSub,Nat.reduceLT,Nat.reduceLeDiff,reduceIte,reduceCtorEq,Nat.reduceEqDiff,implies_true,forall_const,aa,av,beq_self_eq_true,bne_self_eq_false,Int.reduceBEq,Int.reduceBNe,Int.reduceLT,Int.reduceLE,l3,l5,l13,pc,ho]
  refine aJ hg ?_
  rintro z b8 ⟨rfl,rfl⟩
  simp only[ad,↓Xn,↓Xo,↓Xg,↓Xd,↓Xe,↓Xf,Tryz.VΓ,Tryz.Γs,Xp,Xi,Nat.reduceAdd,Nat.reduceSub,Nat.reduceLT,Nat.reduceLeDiff,reduceIte,reduceCtorEq,Nat.reduceEqDiff,implies_true,forall_const,aa,av,beq_self_eq_true,bne_self_eq_false,Int.reduceBEq,Int.reduceBNe,Int.reduceLT,Int.reduceLE,l3,l5,l13,pc,ho]
  exact hk' _ _ ⟨l3,l13,l14,l22,rfl,(Kp.refl _).app _⟩
 clear l3 l5 l13 l14 l22 hg
 rintro m8 ⟨t8,b8⟩ ⟨l3,l13,l14,l22,l24,hk8⟩
 simp only at l3 l13 l14 l22 l24 hk8
 replace hB:=hB.kp hk8
 replace pc:=hk8.at pc
 clear hk8
 have hgb:(gb==gb)=true:=by simp
 obtain⟨x2,Xs,x3,Ys,P1,P2,P3,P4,P5,P6,P7⟩:=CP (cp:=cp) hB.e hB.mn (by omega) hB.M.hT w
 simp only[zOi]at P3 P5
 have hkb:Kp b8 (b8++(Xs++Ys)):=(Kp.refl _).app _
 have hB2:=hB.kp hkb
 obtain⟨y2,Us,y3,Vs,Q1,Q2,Q3,Q4,Q5,Q6,Q7⟩:=CP (cp:=cp) hB2.e hB2.mn (by omega) hB2.M.hT lat
 simp only[zOi]at Q1 Q3 Q5
 have dB:c<b8.length:=(zN7.1 pc).1
 simp only[ad,↓Xn,↓Xo,↓Xg,↓Xd,↓Xe,↓Xf,Tryz.VΓ,Tryz.Γs,Xp,Xi,Nat.reduceAdd,Nat.reduceSub,Nat.reduceLT,Nat.reduceLeDiff,reduceIte,reduceCtorEq,Nat.reduceEqDiff,implies_true,forall_const,aa,av,beq_self_eq_true,bne_self_eq_false,Int.reduceBEq,Int.reduceBNe,Int.reduceLT,Int.reduceLE,l3,l13,l14,l22,l24,hgb,pc,ho]
 refine bC [(b8.length,0,0)] P1 (nG P2) ?_
 simp only[ad,↓Xn,↓Xo,↓Xg,↓Xd,↓Xe,↓Xf,Tryz.VΓ,Tryz.Γs,Xp,Xi,Nat.reduceAdd,Nat.reduceSub,Nat.reduceLT,Nat.reduceLeDiff,reduceIte,reduceCtorEq,Nat.reduceEqDiff,implies_true,forall_const,aa,av,beq_self_eq_true,bne_self_eq_false,Int.reduceBEq,Int.reduceBNe,Int.reduceLT,Int.reduceLE,l3,l13,l14,af pc,ho]
 refine bC [((b8++Xs).length,0,0)] P3 (by have:=nG (b:=b8++Xs) P4;simpa only[zOi] using this) ?_
 simp only[ad,↓Xn,↓Xo,↓Xg,↓Xd,↓Xe,↓Xf,Tryz.VΓ,Tryz.Γs,Xp,Xi,Nat.reduceAdd,Nat.reduceSub,Nat.reduceLT,Nat.reduceLeDiff,reduceIte,reduceCtorEq,Nat.reduceEqDiff,implies_true,forall_const,aa,av,beq_self_eq_true,bne_self_eq_false,Int.reduceBEq,Int.reduceBNe,Int.reduceLT,Int.reduceLE,l3,l13,l14,P6,P7]
 refine bC [] P5 (fun _ _ _=>rfl) ?_
 simp only[ad,↓Xn,↓Xo,↓Xg,↓Xd,↓Xe,↓Xf,Tryz.VΓ,Tryz.Γs,Xp,Xi,Nat.reduceAdd,Nat.reduceSub,Nat.reduceLT,Nat.reduceLeDiff,reduceIte,reduceCtorEq,Nat.reduceEqDiff,implies_true,forall_const,aa,av,beq_self_eq_true,bne_self_eq_false,Int.reduceBEq,Int.reduceBNe,Int.reduceLT,Int.reduceLE,l3,l13,l14,af pc,ho]
 refine bC [((b8++(Xs++Ys)).length,0,0)] Q1 (by have:=nG (b:=b8++(Xs++Ys)) Q2;simpa only[zOi] using this) ?_
 simp only[ad,↓Xn,↓Xo,↓Xg,↓Xd,↓Xe,↓Xf,Tryz.VΓ,Tryz.Γs,Xp,Xi,Nat.reduceAdd,Nat.reduceSub,Nat.reduceLT,Nat.reduceLeDiff,reduceIte,reduceCtorEq,Nat.reduceEqDiff,implies_true,forall_const,aa,av,beq_self_eq_true,bne_self_eq_false,Int.reduceBEq,Int.reduceBNe,Int.reduceLT,Int.reduceLE,l3,l13,l14,af pc,ho]
 refine bC [((b8++(Xs++(Ys++Us))).length,0,0)] Q3 (by have:=nG (b:=b8++(Xs++(Ys++Us))) Q4;simpa only[zOi] using this) ?_
 simp only[ad,↓Xn,↓Xo,↓Xg,↓Xd,↓Xe,↓Xf,Tryz.VΓ,Tryz.Γs,Xp,Xi,Nat.reduceAdd,Nat.reduceSub,Nat.reduceLT,Nat.reduceLeDiff,reduceIte,reduceCtorEq,Nat.reduceEqDiff,implies_true,forall_const,aa,av,beq_self_eq_true,bne_self_eq_false,Int.reduceBEq,Int.reduceBNe,Int.reduceLT,Int.reduceLE,l3,l13,l14,Q6,Q7]
 refine bC [] Q5 (fun _ _ _=>rfl) ?_
 simp only[ad,↓Xn,↓Xo,↓Xg,↓Xd,↓Xe,↓Xf,Tryz.VΓ,Tryz.Γs,Xp,Xi,Nat.reduceAdd,Nat.reduceSub,Nat.reduceLT,Nat.reduceLeDiff,reduceIte,reduceCtorEq,Nat.reduceEqDiff,implies_true,forall_const,aa,av,beq_self_eq_true,bne_self_eq_false,Int.reduceBEq,Int.reduceBNe,Int.reduceLT,Int.reduceLE,l3,l13,l14]
 have f1:¬ b8.length=c:=by omega
 have f2:¬ b8.length+Xs.length=c:=by omega
 have f3:¬ b8.length+(Xs.length+Ys.length)=c:=by omega
 have f4:¬ b8.length+(Xs.length+(Ys.length+Us.length))=c:=by omega
 exact(by
  refine fg (fun n=>if n=c then 0 else 1) ?_
  simp only[zOj,zOk,fX,kX,reduceIte,f1,f2,f3,f4]
  exact aq (by kernel_rfl))
theorem yP (S:List Int)(n sec lat er k1:Int)(t1 h1:Bytes)(p1 k2:Int)(t2 h2:Bytes)(p2:Int)(st:Bool)(ss:Int)(R:List Xc)(text:Bytes)(hn:0≤n∧n≤255)(hsec:0≤sec∧sec<18446744073709551616)(hlat:0≤lat∧lat<18446744073709551616)(hS:S.length≤9223372036854775807)(hr:∀ r∈S,0≤r∧r≤255)
 (hvs:0≤ss∧ss<18446744073709551616) (hRl:R.length≤9223372036854775807) (hR:∀ x∈R,Kb x) (a1:t1.length≤140737488355328) (a2:h1.length≤140737488355328) (a3:t2.length≤140737488355328) (a4:h2.length≤140737488355328) :
 SC Tryz.V 6 [.o 0 S.length,.int .u8 n,.int .u64 sec,.int .u64 lat,.agg [.int .i64 er,.int .i64 k1,.str t1,.str h1,.int .i64 p1,.int .i64 k2,.str t2,.str h2,.int .i64 p2,.bool st,.int .u64 ss,.o 1 R.length],.str text] [.own (S.flatMap wb) 5 1 S.length false,.own (R.flatMap xc) 93 9 R.length false] (fun r _=>r=.bool true) :=
 AT S n sec lat ⟨er,⟨k1,t1,h1,p1⟩,⟨k2,t2,h2,p2⟩,st,ss,.o 1 R.length⟩ R text hn hsec hlat hS hr rfl hvs hRl hR ⟨a1,a2⟩ ⟨a3,a4⟩
end Go.Proofs.YteipdaijbncgeaaGreatDoor
