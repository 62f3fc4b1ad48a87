/- Texts of this claim, laid together: Made31, SoundC, SoundR, Same31, Law31s, Law31k, Pick31, Puts31, Keep31, Law31p, Law31c, OpenE. -/
import Derived.Test.YteipdaijbncgeaaGreatDoorI7
open List renaming getElem?_eq_some_iff → zMX, getElem_mem → zMY, map_cons → zMZ, map_nil → zM1, getElem?_set_self → zM3
set_option linter.all false
set_option maxHeartbeats 16000000
set_option maxRecDepth 20000
namespace Go.Proofs.YteipdaijbncgeaaGreatDoor
open Go Vc Go.RowKit Wf
def Me (now:Int)(e:En):Prop:=∃ (n:Nat) (s t:Int),n<9∧1≤s∧s≤60∧0≤t∧t≤now∧e=pZ (vV n s) t
structure Mc (cp:Int) (L:List En) (now:Int):Prop where
 hc:0≤cp∧cp≤5
 len:(L.length:Int)≤cp
 asc:om En.key L
 me:∀ e∈L,Me now e
 hn:0≤now
theorem Me.le {now now':Int}{e:En}(h:Me now e)(k:now≤now'):Me now' e:=by
 obtain⟨n,s,t,h1,h2,h3,h4,h5,h6⟩:=h
 exact⟨n,s,t,h1,h2,h3,h4,by omega,h6⟩
theorem Me.tr {now:Int}{e:En}(h:Me now e):e.v.tr=.aI:=by
 obtain⟨n,s,t,-,-,-,-,-,rfl⟩:=h
 rfl
theorem Gx {n:Nat}{s:Int}(h1:1≤s)(h2:s≤86400):(iJ (vV n s)&&cR (vV n s).id)=true:=by
 have:cR (vV n s).id=true:=wN n
 rw[this]
 simp[iJ,vV,h1,h2]
theorem Fj {L:List En}{x:En}{cp:Int}(h:0<cp):kA En.key (du (fP En.key x.key (dQ En.key L x.key||decide ((L.length:Int)<cp)) (dX (oh L) L.length)) L L.length) x=jz En.key En.aU cp L x:=by
 cases L with
 | nil=>simp[jz,du,h]
 | cons a L=>exact FE (by simp)
theorem Mc.put {cp now:Int}{L:List En}(h:Mc cp L now){n:Nat}{s:Int}(hn:n<9)(h1:1≤s)(h2:s≤60):Mc cp (if !(cp==0) then jz En.key En.aU cp L (pZ (vV n s) now) else L) now:=by
 cases c:cp==0
 ·have hc:0<cp:=by have:=h.hc;simp at c;omega
  refine⟨h.hc,G1 h.asc hc h.len _,G2 h.asc _ _,fun e he=>?_,h.hn⟩
  rcases Ay he with rfl|he
  ·exact⟨n,s,now,hn,h1,h2,h.hn,Int.le_refl _,rfl⟩
  ·exact h.me e he
 ·exact h
theorem Mc.exp {cp now:Int}{L:List En}(h:Mc cp L now)(t:Int):Mc cp (og L t) now :=
 ⟨h.hc,Int.le_trans (by exact_mod_cast List.length_filter_le _ _) h.len,oY h.asc _,fun e he=>h.me e (List.mem_filter.1 he).1,h.hn⟩
theorem Mc.later {cp now now':Int}{L:List En}(h:Mc cp L now)(k:now≤now'):Mc cp L now' :=
 ⟨h.hc,h.len,h.asc,fun e he=>(h.me e he).le k,by have:=h.hn;omega⟩
theorem Mc.small {cp now:Int}{L:List En}(h:Mc cp L now):L.length≤5:=by have:=h.hc;have:=h.len;omega
theorem Mc.hT {cp now:Int}{L:List En}(h:Mc cp L now):∀ e∈L,e.v.tr=.aI:=fun e he=>(h.me e he).tr
theorem su_putV {b:List aw}{x:SV}{L:List En}{m:Bool}{cp now:Int}(h:hU b x L m)(hM:Mc cp L now)(Ia:now≤1000000){n:Nat}{s:Int}(h1:1≤s)(h2:s≤86400) :
 SU Tryz.V 19 [.agg [.int .i64 cp,x],.agg (gi (vV n s)),.int .u64 now] b (fun r b'=>Kp b b'∧∃ x' m',r=.agg [.int .i64 cp,x']∧hU b' x' (if !(cp==0) then jz En.key En.aU cp L (pZ (vV n s) now) else L) m'∧(m'=true∨x'=x∧m'=m)):=by
 have hsm:=hM.small
 have Im:=hM.hc
 have lS:PC Tryz.V 31 [.int .u64 now,.int .u64 s] (.int .u64 (iV now s)):=xj ⟨hM.hn,by omega⟩ ⟨by omega,by omega⟩
 refine(CC (v:=vV n s) (cb:=true) h (by omega) (fun e he=>by rw[hM.hT e he];rfl) rfl rfl ?_ lS).mono ?_
 ·have:=kJ (v:=vV n s) (b:=b++[.cells [.int .i64 cp,x] 24 true,.cells (gi (vV n s)) 41 true,.cells [.int .i64 0,.aI] 24 true]) rfl rfl
  rw[Gx h1 h2]at this
  exact this
 ·rintro r b' ⟨k,x',m',rfl,hE,hm⟩
  refine⟨k,x',m',rfl,?_,hm⟩
  cases c:cp==0
  ·rw[c]at hE
   have:=Fj (L:=L) (x:=pZ (vV n s) now) (cp:=cp) (by simp at c;omega)
   simp only[Bool.not_false,Bool.and_self,if_true]at hE ⊢
   rw[← this]
   exact hE
  ·rw[c]at hE
   simpa using hE
structure Ms (bs:List aw) (dk ci:Nat) (kk now cp:Int) (x:SV) (L:List En) (m:Bool) (D:List Int) (b:List aw):Prop where
 kp:Kp bs b
 o:b[bs.length]? = some (.cells [.int .i64 0,.aI] 24 true)
 d:eI b dk D
 c:b[ci]? = some (.cells [.int .i64 cp,x] 24 true)
 e:hU b x L m
 M:Mc cp L now
 mx:m=true∨x=.aI
 ld:bs.length<dk
 lc:bs.length<ci
 ne:ci≠dk
 k0:0≤kk
 kl:now≤9 * (19 - kk)
theorem Ms.kpE {bs b b':List aw}{dk ci:Nat}{kk now cp kk' now':Int}{x:SV}{L:List En}{m:Bool}{D D':List Int}(h:Ms bs dk ci kk now cp x L m D b)(k:tD dk b b')(hd:eI b' dk D')(h1:0≤kk')(h2:now≤now')(h3:now'≤9 * (19 - kk')):Ms bs dk ci kk' now' cp x L m D' b':=by
 have a:=h.ld
 refine⟨k.kp h.kp (by omega),k.at h.o (by omega),hd,k.at h.c h.ne,?_,h.M.later h2,h.mx,h.ld,h.lc,h.ne,h1,h3⟩
 rcases h.e with e|⟨q,rfl,hq⟩
 ·exact .inl e
 ·refine .inr ⟨q,rfl,k.at hq ?_⟩
  rintro rfl
  obtain⟨y,hi,-⟩:=h.d
  rw[hi]at hq;cases hq
theorem Ms.store {bs b b':List aw}{dk ci:Nat}{kk now cp:Int}{x x':SV}{L L':List En}{m m':Bool}{D:List Int}(h:Ms bs dk ci kk now cp x L m D b)(k:Kp b b')(e:hU b' x' L' m')(M:Mc cp L' now)(mx:m'=true∨x'=.aI):Ms bs dk ci kk now cp x' L' m' D (b'.set ci (.cells [.int .i64 cp,x'] 24 true)):=by
 have a:=h.lc
 have hc:=k.at h.c
 refine⟨(h.kp.trans k).set (by omega) _,aH (k.at h.o) (by omega) _,(h.d.kp k).CJ hc h.ne _,zM3 (zMX.1 hc).1,e.CJ (by rintro q hq rfl;rw[hc]at hq;cases hq) _,M,mx,h.ld,h.lc,h.ne,h.k0,h.kl⟩
theorem sc_made {bs:List aw}{j:Nat}{S:List Int}(hj:bs[j]? = some (.own (S.flatMap vT) 5 1 S.length false))(hr:∀ r∈S,0≤r∧r≤255)(hS:S.length≤9223372036854775807) :
 SC Tryz.V 12 [.o j S.length] bs (fun r b=>∃ cp x L m now,r=.eR [.agg [.int .i64 cp,x],.int .u64 now]∧Kp bs b∧hU b x L m∧Mc cp L now∧now≤180∧(m=true∨x=.aI)):=by
 have mG:=(zMX.1 hj).1
 refine cV 3000 Tryz.func12 rfl Tryz.ntmps12 Tryz.results12 Tryz.call12 (by simp) (ax bs.length _ (by simp[within,within.aS,mG])) ?_
 refine bc 2900 (fun σ=>lk 0 σ.t=some (.o j S.length)∧lk 2 σ.t=some (.p bs.length 0)∧lk 3 σ.t=some (.int .u64 0)∧σ.b=bs++[.cells [.int .i64 0,.aI] 24 true]) ?_ (fun k' hk'=>?_)
 rotate_left
 ·simp only[ae,↓Xn,↓Xo,↓Xg,↓Xd,↓Xe,↓Xf,Tryz.VΓ,Tryz.Γs,Xp,Xi,Nat.reduceAdd,Nat.reduceSub,Nat.reduceLT,Nat.reduceLeDiff,reduceIte,reduceCtorEq,Nat.reduceEqDiff,implies_true,forall_const,ad,av,beq_self_eq_true,bne_self_eq_false,Int.reduceBEq,Int.reduceBNe,Int.reduceLT,Int.reduceLE]
  exact hk' _ _ ⟨rfl,rfl,rfl,rfl⟩
 rintro m1 ⟨t1,b1⟩ ⟨l0,l2,l3,rfl⟩
 simp only at l0 l2 l3
 refine bc 2800 (fun σ=>lk 2 σ.t=some (.p bs.length 0)∧∃ dk D,lk 4 σ.t=some (.p dk 0)∧bs.length<dk∧Kp (bs++[.cells [.int .i64 0,.aI] 24 true]) σ.b∧eI σ.b dk D) ?_ (fun k' hk'=>?_)
 rotate_left
 ·simp only[ae,↓Xn,↓Xo,↓Xg,↓Xd,↓Xe,↓Xf,Tryz.VΓ,Tryz.Γs,Xp,Xi,Nat.reduceAdd,Nat.reduceSub,Nat.reduceLT,Nat.reduceLeDiff,reduceIte,reduceCtorEq,Nat.reduceEqDiff,implies_true,forall_const,ad,av,beq_self_eq_true,bne_self_eq_false,Int.reduceBEq,Int.reduceBNe,Int.reduceLT,Int.reduceLE,l0]
  refine aT (sc_New (af hj _) hr hS) ?_
  rintro y b2 ⟨dk,D,rfl,Ey,cL,hd⟩
  simp only[ae,↓Xn,↓Xo,↓Xg,↓Xd,↓Xe,↓Xf,Tryz.VΓ,Tryz.Γs,Xp,Xi,Nat.reduceAdd,Nat.reduceSub,Nat.reduceLT,Nat.reduceLeDiff,reduceIte,reduceCtorEq,Nat.reduceEqDiff,implies_true,forall_const,ad,av,beq_self_eq_true,bne_self_eq_false,Int.reduceBEq,Int.reduceBNe,Int.reduceLT,Int.reduceLE,l0]
  refine hk' _ _ ?_
  exact⟨l2,dk,D,rfl,by simp at Ey;omega,cL,hd⟩
 rintro m2 ⟨t2,b2⟩ ⟨l2,dk,D,l4,Ey,cL,hd⟩
 simp only at l2 l4 cL hd
 have lz:=cL.at (bm rfl _ 0:(bs++[aw.cells [.int .i64 0,.aI] 24 true])[bs.length+0]? = _)
 refine bc 2700 (fun σ=>lk 2 σ.t=some (.p bs.length 0)∧lk 4 σ.t=some (.p dk 0)∧∃ ci cp D,lk 5 σ.t=some (.p ci 0)∧Ms bs dk ci 19 0 cp .aI [] true D σ.b) ?_ (fun k' hk'=>?_)
 rotate_left
 ·simp only[ae,↓Xn,↓Xo,↓Xg,↓Xd,↓Xe,↓Xf,Tryz.VΓ,Tryz.Γs,Xp,Xi,Nat.reduceAdd,Nat.reduceSub,Nat.reduceLT,Nat.reduceLeDiff,reduceIte,reduceCtorEq,Nat.reduceEqDiff,implies_true,forall_const,ad,av,beq_self_eq_true,bne_self_eq_false,Int.reduceBEq,Int.reduceBNe,Int.reduceLT,Int.reduceLE,l4]
  refine aT (tj hd 6 (by omega)) ?_
  rintro y b3 ⟨v,D',rfl,hv,hd',kF⟩
  simp only[ae,↓Xn,↓Xo,↓Xg,↓Xd,↓Xe,↓Xf,Tryz.VΓ,Tryz.Γs,Xp,Xi,Nat.reduceAdd,Nat.reduceSub,Nat.reduceLT,Nat.reduceLeDiff,reduceIte,reduceCtorEq,Nat.reduceEqDiff,implies_true,forall_const,ad,av,beq_self_eq_true,bne_self_eq_false,Int.reduceBEq,Int.reduceBNe,Int.reduceLT,Int.reduceLE,l4]
  have gX:=xi v
  rw[if_neg (by omega)]at gX
  refine aa gX ?_
  simp only[ae,↓Xn,↓Xo,↓Xg,↓Xd,↓Xe,↓Xf,Tryz.VΓ,Tryz.Γs,Xp,Xi,Nat.reduceAdd,Nat.reduceSub,Nat.reduceLT,Nat.reduceLeDiff,reduceIte,reduceCtorEq,Nat.reduceEqDiff,implies_true,forall_const,ad,av,beq_self_eq_true,bne_self_eq_false,Int.reduceBEq,Int.reduceBNe,Int.reduceLT,Int.reduceLE,l4]
  refine hk' _ _ ?_
  have oT:dk<b2.length:=by obtain⟨x,hi,-⟩:=hd;exact(zMX.1 hi).1
  have Dx:=kF.1
  have sW:Kp bs b3:=kF.kp (((Kp.refl bs).app _).trans cL) (by omega)
  have ho3:=kF.at lz (by omega)
  refine⟨l2,l4,b3.length,v,D',rfl,⟨sW.app _,af ho3 _,hd'.app _,bm rfl _ 0,.inl ⟨rfl,rfl⟩,⟨by omega,by simp;omega,List.Pairwise.nil,fun e he=>(by cases he),by omega⟩,.inr rfl,Ey,by omega,by omega,by omega,by omega⟩⟩
 clear hd cL lz Ey
 rintro m3 ⟨t3,b3⟩ ⟨l2,l4,ci,cp,D,l5,hM⟩
 simp only at l2 l4 l5 hM
 refine bc 2600 (fun σ=>lk 2 σ.t=some (.p bs.length 0)∧lk 4 σ.t=some (.p dk 0)∧lk 5 σ.t=some (.p ci 0)∧lk 7 σ.t=some (.int .u64 0)∧σ.b=b3) ?_ (fun k' hk'=>?_)
 rotate_left
 ·simp only[ae,↓Xn,↓Xo,↓Xg,↓Xd,↓Xe,↓Xf,Tryz.VΓ,Tryz.Γs,Xp,Xi,Nat.reduceAdd,Nat.reduceSub,Nat.reduceLT,Nat.reduceLeDiff,reduceIte,reduceCtorEq,Nat.reduceEqDiff,implies_true,forall_const,ad,av,beq_self_eq_true,bne_self_eq_false,Int.reduceBEq,Int.reduceBNe,Int.reduceLT,Int.reduceLE]
  exact hk' _ _ ⟨l2,l4,l5,rfl,rfl⟩
 rintro m4 ⟨t4,b4⟩ ⟨l2,l4,l5,l7,rfl⟩
 simp only at l2 l4 l5 l7
 refine bc 2500 (fun σ=>lk 2 σ.t=some (.p bs.length 0)∧lk 5 σ.t=some (.p ci 0)∧∃ kk now cp x L m D,lk 7 σ.t=some (.int .u64 now)∧Ms bs dk ci kk now cp x L m D σ.b) ?_ (fun k' hk'=>?_)
 rotate_left
 ·simp only[ae,↓Xn,↓Xo,↓Xg,↓Xd,↓Xe,↓Xf,Tryz.VΓ,Tryz.Γs,Xp,Xi,Nat.reduceAdd,Nat.reduceSub,Nat.reduceLT,Nat.reduceLeDiff,reduceIte,reduceCtorEq,Nat.reduceEqDiff,implies_true,forall_const,ad,av,beq_self_eq_true,bne_self_eq_false,Int.reduceBEq,Int.reduceBNe,Int.reduceLT,Int.reduceLE,l4]
  refine aT (tj hM.d 20 (by omega)) ?_
  rintro y b5 ⟨v,D',rfl,hv,hd',wC⟩
  simp only[ae,↓Xn,↓Xo,↓Xg,↓Xd,↓Xe,↓Xf,Tryz.VΓ,Tryz.Γs,Xp,Xi,Nat.reduceAdd,Nat.reduceSub,Nat.reduceLT,Nat.reduceLeDiff,reduceIte,reduceCtorEq,Nat.reduceEqDiff,implies_true,forall_const,ad,av,beq_self_eq_true,bne_self_eq_false,Int.reduceBEq,Int.reduceBNe,Int.reduceLT,Int.reduceLE]
  have Iz:Ms bs dk ci v 0 cp .aI [] true D' b5:=by
   have h1:=hM.ld
   have h2:=hM.lc
   exact⟨wC.kp hM.kp (by omega),wC.at hM.o (by omega),hd',wC.at hM.c hM.ne,.inl ⟨rfl,rfl⟩,hM.M,hM.mx,hM.ld,hM.lc,hM.ne,hv.1,by omega⟩
  refine aL (fun σ=>∃ kk now cp x L m D,lk 2 σ.t=some (.p bs.length 0)∧lk 4 σ.t=some (.p dk 0)∧lk 5 σ.t=some (.p ci 0)∧lk 7 σ.t=some (.int .u64 now)∧lk 8 σ.t=some (.int .i64 kk)∧Ms bs dk ci kk now cp x L m D σ.b) (fun σ=>ji 8 σ) ⟨v,0,cp,.aI,[],true,D',l2,l4,l5,l7,rfl,Iz⟩ ?_
  clear hM Iz hd' wC l2 l4 l5 l7
  rintro⟨t6,b6⟩ ⟨kk,now,cp,x,L,m,D,l2,l4,l5,l7,l8,hM⟩
  simp only at l2 l4 l5 l7 l8 hM
  have hkk:=hM.k0
  have Dx:=hM.kl
  obtain⟨kn,rfl⟩:∃ kn:Nat,kk=(kn:Int):=⟨kk.toNat,by omega⟩
  rw[az l8]
  cases c:decide (0<(kn:Int))
  ·simp only[ae,↓Xn,↓Xo,↓Xg,↓Xd,↓Xe,↓Xf,Tryz.VΓ,Tryz.Γs,Xp,Xi,Nat.reduceAdd,Nat.reduceSub,Nat.reduceLT,Nat.reduceLeDiff,reduceIte,reduceCtorEq,Nat.reduceEqDiff,implies_true,forall_const,ad,av,beq_self_eq_true,bne_self_eq_false,Int.reduceBEq,Int.reduceBNe,Int.reduceLT,Int.reduceLE,l8,c]
   refine hk' _ _ ?_
   exact⟨l2,l5,_,now,cp,x,L,m,D,l7,hM⟩
  ·have hc:0<kn:=by simpa using c
   simp only[ae,↓Xn,↓Xo,↓Xg,↓Xd,↓Xe,↓Xf,Tryz.VΓ,Tryz.Γs,Xp,Xi,Nat.reduceAdd,Nat.reduceSub,Nat.reduceLT,Nat.reduceLeDiff,reduceIte,reduceCtorEq,Nat.reduceEqDiff,implies_true,forall_const,ad,av,beq_self_eq_true,bne_self_eq_false,Int.reduceBEq,Int.reduceBNe,Int.reduceLT,Int.reduceLE,l4,l5,l7,l8,c]
   refine aT (tj hM.d 9 (by omega)) ?_
   rintro y b7 ⟨v,D1,rfl,hv,qv,hk7⟩
   have Ia:=hM.M.hn
   have hw:IntKind.u64.wrap v=v:=by simp[IntKind.wrap,IntKind.bits,IntKind.signed];omega
   have eU:IntKind.u64.wrap (now+v)=now+v:=by simp[IntKind.wrap,IntKind.bits,IntKind.signed];omega
   have hM7:Ms bs dk ci (kn - 1:Int) (now+v) cp x L m D1 b7:=hM.kpE hk7 qv (by omega) (by omega) (by omega)
   have hn7:=hM7.M.hn
   have hl7:=hM7.kl
   clear hM Dx hk7 qv Ia
   obtain⟨nB1,ny,oe,fQ,hsc2⟩:=oW hM7.d 9 (by omega)
   have hv2:=IZ D1 (n:=9) (by omega)
   generalize dV D1 9=v2 at hsc2 hv2
   generalize dL D1 9=D2 at oe
   have hM8:=hM7.kpE fQ oe hM7.k0 (Int.le_refl _) hM7.kl
   obtain⟨nB2,gW,Il,kF,hsc3⟩:=oW hM8.d 60 (by omega)
   have hv3:=IZ D2 (n:=60) (by omega)
   generalize dV D2 60=v3 at hsc3 hv3
   generalize dL D2 60=D3 at Il
   have hM9:=hM8.kpE kF Il hM8.k0 (Int.le_refl _) hM8.kl
   have Cp:IntKind.u64.wrap (1+v3)=1+v3:=by simp[IntKind.wrap,IntKind.bits,IntKind.signed];omega
   obtain⟨vn,rfl⟩:∃ vn:Nat,v2=(vn:Int):=⟨v2.toNat,by omega⟩
   have hvd:=kK vn (1+v3) (by omega)
   obtain⟨y4,nB4,⟨Ex,x',m',rfl,hE4,hm4⟩,hsc4⟩:=su_putV (n:=vn) (s:=1+v3) hM9.e hM9.M (by omega) (by omega) (by omega)
   have pc7:=hM7.c
   have pc4:=Ex.at hM9.c
   have ho7:=hM7.e.one
   have ho4:=hE4.one
   simp only[ae,↓Xn,↓Xo,↓Xg,↓Xd,↓Xe,↓Xf,Tryz.VΓ,Tryz.Γs,Xp,Xi,Nat.reduceAdd,Nat.reduceSub,Nat.reduceLT,Nat.reduceLeDiff,reduceIte,reduceCtorEq,Nat.reduceEqDiff,implies_true,forall_const,ad,av,beq_self_eq_true,bne_self_eq_false,Int.reduceBEq,Int.reduceBNe,Int.reduceLT,Int.reduceLE,l4,l5,l7,l8,hw,eU,pc7,ho7]
   refine bn [(dk,0,0),(b7.length,0,0)] hsc2 (fQ.outs ny) ?_
   simp only[ae,↓Xn,↓Xo,↓Xg,↓Xd,↓Xe,↓Xf,Tryz.VΓ,Tryz.Γs,Xp,Xi,Nat.reduceAdd,Nat.reduceSub,Nat.reduceLT,Nat.reduceLeDiff,reduceIte,reduceCtorEq,Nat.reduceEqDiff,implies_true,forall_const,ad,av,beq_self_eq_true,bne_self_eq_false,Int.reduceBEq,Int.reduceBNe,Int.reduceLT,Int.reduceLE,l4,l5,l7,l8,hw,eU,pc7,ho7]
   refine bn [(dk,0,0),(nB1.length,0,0)] hsc3 (kF.outs gW) ?_
   simp only[ae,↓Xn,↓Xo,↓Xg,↓Xd,↓Xe,↓Xf,Tryz.VΓ,Tryz.Γs,Xp,Xi,Nat.reduceAdd,Nat.reduceSub,Nat.reduceLT,Nat.reduceLeDiff,reduceIte,reduceCtorEq,Nat.reduceEqDiff,implies_true,forall_const,ad,av,beq_self_eq_true,bne_self_eq_false,Int.reduceBEq,Int.reduceBNe,Int.reduceLT,Int.reduceLE,l4,l5,l7,l8,hw,eU,Cp,pc7,ho7]
   refine⟨by omega,?_⟩
   refine aR hvd ?_
   simp only[ae,↓Xn,↓Xo,↓Xg,↓Xd,↓Xe,↓Xf,Tryz.VΓ,Tryz.Γs,Xp,Xi,Nat.reduceAdd,Nat.reduceSub,Nat.reduceLT,Nat.reduceLeDiff,reduceIte,reduceCtorEq,Nat.reduceEqDiff,implies_true,forall_const,ad,av,beq_self_eq_true,bne_self_eq_false,Int.reduceBEq,Int.reduceBNe,Int.reduceLT,Int.reduceLE,l4,l5,l7,l8,hw,eU,Cp,pc7,ho7]
   refine nK hsc4 ?_
   simp only[ae,↓Xn,↓Xo,↓Xg,↓Xd,↓Xe,↓Xf,Tryz.VΓ,Tryz.Γs,Xp,Xi,Nat.reduceAdd,Nat.reduceSub,Nat.reduceLT,Nat.reduceLeDiff,reduceIte,reduceCtorEq,Nat.reduceEqDiff,implies_true,forall_const,ad,av,beq_self_eq_true,bne_self_eq_false,Int.reduceBEq,Int.reduceBNe,Int.reduceLT,Int.reduceLE,l4,l5,l7,l8,hw,eU,Cp,pc7,ho7,pc4,ho4]
   have Gl:¬ dk=ci:=Ne.symm hM9.ne
   have tw:¬ b7.length=ci:=by have:=(zMX.1 hM7.c).1;omega
   have FL:¬ nB1.length=ci:=by have:=(zMX.1 hM8.c).1;omega
   refine⟨(by
    refine dm (fun n=>if n=ci then 0 else 1) ?_
    simp only[zMZ,zM1,dW,iE,reduceIte,Gl,tw,FL]
    exact aj (by kernel_rfl)),?_⟩
   have hMs:=hM9.store Ex hE4 (hM9.M.put (n:=vn) (s:=1+v3) (by omega) (by omega) (by omega)) (by
    rcases hm4 with h|⟨h,h2⟩
    ·exact .inl h
    ·rw[h,h2];exact hM9.mx)
   clear hM7 hM8 hM9 hsc2 hsc3 hsc4 hvd fQ kF Ex oe Il hE4 hm4 pc7 pc4 ho7 ho4 tw FL
   generalize (if (!cp==0)=true then jz En.key En.aU cp L (pZ (vV vn (1+v3)) (now+v)) else L)=L4 at hMs
   generalize nB4.set ci (.cells [.int .i64 cp,x'] 24 true)=b8 at hMs ⊢
   refine aT (tj hMs.d 6 (by omega)) ?_
   rintro y b9 ⟨v5,D5,rfl,hv5,hd5,wC⟩
   have Iz:=hMs.kpE wC hd5 hMs.k0 (Int.le_refl _) hMs.kl
   clear hMs hd5 wC
   have pc5:=Iz.c
   have ho5:=Iz.e.one
   have hsm:=Iz.M.small
   have hkr:((kn:Int) - 1)=((kn - 1:Nat):Int):=by omega
   cases c5:(v5==0)
   ·simp only[ae,↓Xn,↓Xo,↓Xg,↓Xd,↓Xe,↓Xf,Tryz.VΓ,Tryz.Γs,Xp,Xi,Nat.reduceAdd,Nat.reduceSub,Nat.reduceLT,Nat.reduceLeDiff,reduceIte,reduceCtorEq,Nat.reduceEqDiff,implies_true,forall_const,ad,av,beq_self_eq_true,bne_self_eq_false,Int.reduceBEq,Int.reduceBNe,Int.reduceLT,Int.reduceLE,l4,l5,l7,l8,c5]
    exact⟨⟨by omega,by omega⟩,⟨_,_,cp,x',L4,m',D5,l2,rfl,rfl,Iz⟩,by rw[az (show lk 8 _=some (.int .i64 ((kn - 1:Nat):Int)) from by rw[← hkr];rfl)];omega⟩
   ·simp only[ae,↓Xn,↓Xo,↓Xg,↓Xd,↓Xe,↓Xf,Tryz.VΓ,Tryz.Γs,Xp,Xi,Nat.reduceAdd,Nat.reduceSub,Nat.reduceLT,Nat.reduceLeDiff,reduceIte,reduceCtorEq,Nat.reduceEqDiff,implies_true,forall_const,ad,av,beq_self_eq_true,bne_self_eq_false,Int.reduceBEq,Int.reduceBNe,Int.reduceLT,Int.reduceLE,l4,l5,l7,l8,c5,pc5,ho5]
    refine aT (vR Iz.e (by omega) (fun e he=>by rw[Iz.M.hT e he];rfl)) ?_
    rintro y b10 ⟨sB,x6,rfl,hE6,-⟩
    have pc6:=sB.at pc5
    have ho6:=hE6.one
    have hM6:=Iz.store sB hE6 (Iz.M.exp _) (.inl rfl)
    simp only[ae,↓Xn,↓Xo,↓Xg,↓Xd,↓Xe,↓Xf,Tryz.VΓ,Tryz.Γs,Xp,Xi,Nat.reduceAdd,Nat.reduceSub,Nat.reduceLT,Nat.reduceLeDiff,reduceIte,reduceCtorEq,Nat.reduceEqDiff,implies_true,forall_const,ad,av,beq_self_eq_true,bne_self_eq_false,Int.reduceBEq,Int.reduceBNe,Int.reduceLT,Int.reduceLE,l4,l5,l7,l8,c5,pc6,ho6]
    exact⟨⟨by omega,by omega⟩,⟨_,_,cp,x6,_,true,D5,l2,rfl,rfl,hM6⟩,by rw[az (show lk 8 _=some (.int .i64 ((kn - 1:Nat):Int)) from by rw[← hkr];rfl)];omega⟩
 clear hM l4
 rintro m6 ⟨t6,b6⟩ ⟨l2,l5,kk,now,cp,x,L,m,D,l7,hM⟩
 simp only at l2 l5 l7 hM
 have pc:=hM.c
 have po:=hM.o
 have ho:=hM.e.one
 have bp:¬ bs.length=ci:=by have:=hM.lc;omega
 have hs:∀ X,(b6.set bs.length X)[bs.length]? = some X:=fun X=>zM3 (zMX.1 po).1
 simp only[ae,↓Xn,↓Xo,↓Xg,↓Xd,↓Xe,↓Xf,Tryz.VΓ,Tryz.Γs,Xp,Xi,Nat.reduceAdd,Nat.reduceSub,Nat.reduceLT,Nat.reduceLeDiff,reduceIte,reduceCtorEq,Nat.reduceEqDiff,implies_true,forall_const,ad,av,beq_self_eq_true,bne_self_eq_false,Int.reduceBEq,Int.reduceBNe,Int.reduceLT,Int.reduceLE,l2,l5,l7,pc,po,ho,hs]
 have:=hM.kl
 have:=hM.k0
 exact⟨cp,x,L,m,now,rfl,hM.kp.set (Nat.le_refl _) _,hM.e.CJ (by rintro q hq rfl;rw[po]at hq;cases hq) _,hM.M,by omega,hM.mx⟩
def Gh (L:List En)(i:Nat):Bool:=match L[i]? with
 | none=>true
 | some e=>(match i with
   | 0=>true
   | j+1=>(match L[j]? with
     | some d=>blt d.key e.key
     | none=>true))&&(iJ e.v&&(cR e.v.id&&e.aU==iV e.stored e.v.de))
def dv (cp:Int)(L:List En):Bool:=!(decide (cp<0))&&(!decide (1024<cp)&&(!decide (cp<L.length)&&(List.range L.length).all (Gh L)))
theorem oH {cp:Int}{L:List En}(h1:decide (cp<0)=false)(h2:decide (1024<cp)=false)(h3:decide (cp<L.length)=false)(h:∀ j,j<L.length→Gh L j=true):dv cp L=true:=by
 unfold dv
 rw[h1,h2,h3]
 simp only[Bool.not_false,Bool.true_and,List.all_eq_true,List.mem_range]
 exact h
theorem dA {cp:Int}{L:List En}{k:Nat}(hk:k<L.length)(h:Gh L k=false):dv cp L=false:=by
 unfold dv
 have:(List.range L.length).all (Gh L)=false:=by
  rw[List.all_eq_false]
  exact⟨k,List.mem_range.2 hk,by rw[h];simp⟩
 rw[this];simp
section
variable {b:List aw} {v:Vd} {L:List En} {m:Bool} {cp:Int}
theorem yP (hk:0<L.length):Gh L 0=(iJ L[0].v&&(cR L[0].v.id&&L[0].aU==iV L[0].stored L[0].v.de)):=by
 unfold Gh;rw[List.getElem?_eq_getElem hk];rfl
theorem yO {j:Nat}(hk:j+1<L.length):Gh L (j+1)=(blt (L[j]'(by omega)).key L[j+1].key&&(iJ L[j+1].v&&(cR L[j+1].v.id&&L[j+1].aU==iV L[j+1].stored L[j+1].v.de))):=by
 unfold Gh;simp only[List.getElem?_eq_getElem hk,List.getElem?_eq_getElem (show j<L.length by omega)]
theorem pI {x:SV}(h:hU b x L m)(hl:L.length≤1000000)(uK:∀ e∈L,one e.v.tr=true∧within b.length e.v.tr=true) :
 SC Tryz.V 14 [.agg [.int .i64 cp,x]] b (fun r b'=>r=.bool (dv cp L)∧b'=b):=by
 refine fD rfl ?_
 have hw:=h.within
 have ho:=h.one
 have dw:∀ e,lO (.slice e) x=some (.int .i64 L.length):=fun e=>by
  rcases h with⟨rfl,rfl⟩|⟨q,rfl,-⟩ <;> rfl
 refine cV 3000 Tryz.func14 rfl Tryz.ntmps14 Tryz.results14 Tryz.call14 (by simp) (ax b.length _ (by simp[within,within.aS,hw])) ?_
 cases c1:decide (cp<0)
 ·cases c2:decide (1024<cp)
  ·cases c3:decide (cp<L.length)
   ·obtain⟨S,hS⟩:∃ S,S=dv cp L:=⟨_,rfl⟩
    rw[← hS]
    simp only[ae,↓Xn,↓Xo,↓Xg,↓Xd,↓Xe,↓Xf,Tryz.VΓ,Tryz.Γs,Xp,Xi,Nat.reduceAdd,Nat.reduceSub,Nat.reduceLT,Nat.reduceLeDiff,reduceIte,reduceCtorEq,Nat.reduceEqDiff,implies_true,forall_const,ad,av,beq_self_eq_true,bne_self_eq_false,Int.reduceBEq,Int.reduceBNe,Int.reduceLT,Int.reduceLE,ho,dw,c1,c2,c3]
    refine aL (fun σ=>∃ (k:Nat),lk 1 σ.t=some (.p b.length 0)∧lk 22 σ.t=some x∧lk 23 σ.t=some (.int .i64 L.length)∧lk 24 σ.t=some (.int .i64 k)∧k≤L.length∧Kp b σ.b∧σ.b[b.length]? = some (.cells [.int .i64 cp,x] 24 true)∧∀ j,j<k→Gh L j=true) (fun σ=>L.length - ji 24 σ) ⟨0,rfl,rfl,rfl,rfl,by omega,(Kp.refl _).app _,bm rfl _ 0,fun j hj=>by omega⟩ ?_
    rintro⟨t1,b1⟩ ⟨k,l1,l22,l23,l24,hk,cL,pc,aP⟩
    simp only at l1 l22 l23 l24 cL pc
    rw[az l24]
    by_cases c:k<L.length
    ·have ci:decide ((k:Int)<(L.length:Int))=true:=by simpa using c
     obtain⟨q,rfl,hq⟩:∃ q,x=.o q L.length∧b[q]? = some (.own (L.flatMap enc) 43 14 L.length m):=by
      rcases h with⟨rfl,rfl⟩|h
      ·simp at c
      ·exact h
     have ct:=cL.at hq
     have dD:=ir L k c
     have dP:(enc L[k]).length=14:=rfl
     have eo:(enc L[k]).take 14=enc L[k]:=List.take_of_length_le (by rw[dP];omega)
     have gP:(enc L[k]).all one=true:=by
      have:=(uK _ (zMY c)).1
      simp[enc,one]at this ⊢;exact this
     have g0:(enc L[k]).take 12=gi L[k].v:=rfl
     have g1:(enc L[k])[2]? = some (.str (En.key L[k])):=rfl
     have g12:(enc L[k])[12]? = some (.int .u64 L[k].stored):=rfl
     have g13:(enc L[k])[13]? = some (.int .u64 L[k].aU):=rfl
     have g10:(enc L[k])[10]? = some (.int .u64 L[k].v.de):=rfl
     have gid:((enc L[k]).drop 1).take 4=[.int .i64 L[k].v.id.kind,.str L[k].v.id.text,.str L[k].v.id.host,.int .i64 L[k].v.id.port]:=rfl
     have hid:=sn L[k].v.id
     unfold iA at hid
     have lS:=pP L[k].stored L[k].v.de
     have jP:∀ (b2:List aw),b.length≤b2.length→SC Tryz.V 27 [.agg (gi L[k].v)] b2 (fun r b'=>r=.bool (iJ L[k].v)∧b'=b2):=fun b2 h2=>pG (uK _ (zMY c)).1 (kI h2 _ (uK _ (zMY c)).2)
     by_cases k0:k=0
     ·have iP:decide (0<(k:Int))=false:=by simp[k0]
      have bN:Gh L k=(iJ L[k].v&&(cR L[k].v.id&&L[k].aU==iV L[k].stored L[k].v.de)):=by subst k0;exact yP c
      cases cc:iJ L[k].v
      ·rw[dA c (by rw[bN,cc];simp)]at hS
       simp only[ae,↓Xn,↓Xo,↓Xg,↓Xd,↓Xe,↓Xf,Tryz.VΓ,Tryz.Γs,Xp,Xi,Nat.reduceAdd,Nat.reduceSub,Nat.reduceLT,Nat.reduceLeDiff,reduceIte,reduceCtorEq,Nat.reduceEqDiff,implies_true,forall_const,ad,av,beq_self_eq_true,bne_self_eq_false,Int.reduceBEq,Int.reduceBNe,Int.reduceLT,Int.reduceLE,l1,l22,l23,l24,ci,ct,dD,dP,eo,g0,g1,g12,g13,g10,gid,pc,af pc,af ct,iP]
       refine⟨⟨by omega,by omega⟩,by rw[aM];omega,gP,aj (by kernel_rfl),?_⟩
       refine bn [] (jP _ (by simp;have:=cL.1;omega)) (fun _ _ _=>rfl) ?_
       simp only[ae,↓Xn,↓Xo,↓Xg,↓Xd,↓Xe,↓Xf,Tryz.VΓ,Tryz.Γs,Xp,Xi,Nat.reduceAdd,Nat.reduceSub,Nat.reduceLT,Nat.reduceLeDiff,reduceIte,reduceCtorEq,Nat.reduceEqDiff,implies_true,forall_const,ad,av,beq_self_eq_true,bne_self_eq_false,Int.reduceBEq,Int.reduceBNe,Int.reduceLT,Int.reduceLE,l1,l22,l23,l24,ci,ct,dD,dP,eo,g0,g1,g12,g13,g10,gid,pc,af pc,af ct,iP,cc,hS]
       exact⟨aj (by kernel_rfl),cL.app _⟩
      ·cases cv:cR L[k].v.id
       ·rw[dA c (by rw[bN,cv];simp)]at hS
        simp only[ae,↓Xn,↓Xo,↓Xg,↓Xd,↓Xe,↓Xf,Tryz.VΓ,Tryz.Γs,Xp,Xi,Nat.reduceAdd,Nat.reduceSub,Nat.reduceLT,Nat.reduceLeDiff,reduceIte,reduceCtorEq,Nat.reduceEqDiff,implies_true,forall_const,ad,av,beq_self_eq_true,bne_self_eq_false,Int.reduceBEq,Int.reduceBNe,Int.reduceLT,Int.reduceLE,l1,l22,l23,l24,ci,ct,dD,dP,eo,g0,g1,g12,g13,g10,gid,pc,af pc,af ct,iP]
        refine⟨⟨by omega,by omega⟩,by rw[aM];omega,gP,aj (by kernel_rfl),?_⟩
        refine bn [] (jP _ (by simp;have:=cL.1;omega)) (fun _ _ _=>rfl) ?_
        simp only[ae,↓Xn,↓Xo,↓Xg,↓Xd,↓Xe,↓Xf,Tryz.VΓ,Tryz.Γs,Xp,Xi,Nat.reduceAdd,Nat.reduceSub,Nat.reduceLT,Nat.reduceLeDiff,reduceIte,reduceCtorEq,Nat.reduceEqDiff,implies_true,forall_const,ad,av,beq_self_eq_true,bne_self_eq_false,Int.reduceBEq,Int.reduceBNe,Int.reduceLT,Int.reduceLE,l1,l22,l23,l24,ci,ct,dD,dP,eo,g0,g1,g12,g13,g10,gid,pc,af pc,af ct,iP,cc,hS]
        rw[cv]at hid
        refine aR hid ?_
        simp only[ae,↓Xn,↓Xo,↓Xg,↓Xd,↓Xe,↓Xf,Tryz.VΓ,Tryz.Γs,Xp,Xi,Nat.reduceAdd,Nat.reduceSub,Nat.reduceLT,Nat.reduceLeDiff,reduceIte,reduceCtorEq,Nat.reduceEqDiff,implies_true,forall_const,ad,av,beq_self_eq_true,bne_self_eq_false,Int.reduceBEq,Int.reduceBNe,Int.reduceLT,Int.reduceLE,l1,l22,l23,l24,ci,ct,dD,dP,eo,g0,g1,g12,g13,g10,gid,pc,af pc,af ct,iP,cc,cv,hS]
        exact⟨aj (by kernel_rfl),cL.app _⟩
       ·rw[cv]at hid
        cases ce:(L[k].aU != iV L[k].stored L[k].v.de)
        ·simp only[ae,↓Xn,↓Xo,↓Xg,↓Xd,↓Xe,↓Xf,Tryz.VΓ,Tryz.Γs,Xp,Xi,Nat.reduceAdd,Nat.reduceSub,Nat.reduceLT,Nat.reduceLeDiff,reduceIte,reduceCtorEq,Nat.reduceEqDiff,implies_true,forall_const,ad,av,beq_self_eq_true,bne_self_eq_false,Int.reduceBEq,Int.reduceBNe,Int.reduceLT,Int.reduceLE,l1,l22,l23,l24,ci,ct,dD,dP,eo,g0,g1,g12,g13,g10,gid,pc,af pc,af ct,iP]
         refine⟨⟨by omega,by omega⟩,by rw[aM];omega,gP,aj (by kernel_rfl),?_⟩
         refine bn [] (jP _ (by simp;have:=cL.1;omega)) (fun _ _ _=>rfl) ?_
         simp only[ae,↓Xn,↓Xo,↓Xg,↓Xd,↓Xe,↓Xf,Tryz.VΓ,Tryz.Γs,Xp,Xi,Nat.reduceAdd,Nat.reduceSub,Nat.reduceLT,Nat.reduceLeDiff,reduceIte,reduceCtorEq,Nat.reduceEqDiff,implies_true,forall_const,ad,av,beq_self_eq_true,bne_self_eq_false,Int.reduceBEq,Int.reduceBNe,Int.reduceLT,Int.reduceLE,l1,l22,l23,l24,ci,ct,dD,dP,eo,g0,g1,g12,g13,g10,gid,pc,af pc,af ct,iP,cc]
         refine aR hid ?_
         simp only[ae,↓Xn,↓Xo,↓Xg,↓Xd,↓Xe,↓Xf,Tryz.VΓ,Tryz.Γs,Xp,Xi,Nat.reduceAdd,Nat.reduceSub,Nat.reduceLT,Nat.reduceLeDiff,reduceIte,reduceCtorEq,Nat.reduceEqDiff,implies_true,forall_const,ad,av,beq_self_eq_true,bne_self_eq_false,Int.reduceBEq,Int.reduceBNe,Int.reduceLT,Int.reduceLE,l1,l22,l23,l24,ci,ct,dD,dP,eo,g0,g1,g12,g13,g10,gid,pc,af pc,af ct,iP,cc,cv]
         refine aR lS ?_
         simp only[ae,↓Xn,↓Xo,↓Xg,↓Xd,↓Xe,↓Xf,Tryz.VΓ,Tryz.Γs,Xp,Xi,Nat.reduceAdd,Nat.reduceSub,Nat.reduceLT,Nat.reduceLeDiff,reduceIte,reduceCtorEq,Nat.reduceEqDiff,implies_true,forall_const,ad,av,beq_self_eq_true,bne_self_eq_false,Int.reduceBEq,Int.reduceBNe,Int.reduceLT,Int.reduceLE,l1,l22,l23,l24,ci,ct,dD,dP,eo,g0,g1,g12,g13,g10,gid,pc,af pc,af ct,iP,cc,cv,ce]
         refine⟨aj (by kernel_rfl),by omega,⟨k+1,rfl,by omega,cL.app _,fun i hi=>?_⟩,?_⟩
         ·by_cases e:i=k
          ·subst e
           have ce':(L[i].aU==iV L[i].stored L[i].v.de)=true:=by simpa using ce
           rw[bN,cc,cv,ce'];rfl
          ·exact aP i (by omega)
         ·rw[az (show lk 24 _=some (.int .i64 ((k+1:Nat):Int)) from rfl)];omega
        ·rw[dA c (by rw[bN];simp at ce;simp[ce])]at hS
         simp only[ae,↓Xn,↓Xo,↓Xg,↓Xd,↓Xe,↓Xf,Tryz.VΓ,Tryz.Γs,Xp,Xi,Nat.reduceAdd,Nat.reduceSub,Nat.reduceLT,Nat.reduceLeDiff,reduceIte,reduceCtorEq,Nat.reduceEqDiff,implies_true,forall_const,ad,av,beq_self_eq_true,bne_self_eq_false,Int.reduceBEq,Int.reduceBNe,Int.reduceLT,Int.reduceLE,l1,l22,l23,l24,ci,ct,dD,dP,eo,g0,g1,g12,g13,g10,gid,pc,af pc,af ct,iP]
         refine⟨⟨by omega,by omega⟩,by rw[aM];omega,gP,aj (by kernel_rfl),?_⟩
         refine bn [] (jP _ (by simp;have:=cL.1;omega)) (fun _ _ _=>rfl) ?_
         simp only[ae,↓Xn,↓Xo,↓Xg,↓Xd,↓Xe,↓Xf,Tryz.VΓ,Tryz.Γs,Xp,Xi,Nat.reduceAdd,Nat.reduceSub,Nat.reduceLT,Nat.reduceLeDiff,reduceIte,reduceCtorEq,Nat.reduceEqDiff,implies_true,forall_const,ad,av,beq_self_eq_true,bne_self_eq_false,Int.reduceBEq,Int.reduceBNe,Int.reduceLT,Int.reduceLE,l1,l22,l23,l24,ci,ct,dD,dP,eo,g0,g1,g12,g13,g10,gid,pc,af pc,af ct,iP,cc,hS]
         refine aR hid ?_
         simp only[ae,↓Xn,↓Xo,↓Xg,↓Xd,↓Xe,↓Xf,Tryz.VΓ,Tryz.Γs,Xp,Xi,Nat.reduceAdd,Nat.reduceSub,Nat.reduceLT,Nat.reduceLeDiff,reduceIte,reduceCtorEq,Nat.reduceEqDiff,implies_true,forall_const,ad,av,beq_self_eq_true,bne_self_eq_false,Int.reduceBEq,Int.reduceBNe,Int.reduceLT,Int.reduceLE,l1,l22,l23,l24,ci,ct,dD,dP,eo,g0,g1,g12,g13,g10,gid,pc,af pc,af ct,iP,cc,cv,hS]
         refine aR lS ?_
         simp only[ae,↓Xn,↓Xo,↓Xg,↓Xd,↓Xe,↓Xf,Tryz.VΓ,Tryz.Γs,Xp,Xi,Nat.reduceAdd,Nat.reduceSub,Nat.reduceLT,Nat.reduceLeDiff,reduceIte,reduceCtorEq,Nat.reduceEqDiff,implies_true,forall_const,ad,av,beq_self_eq_true,bne_self_eq_false,Int.reduceBEq,Int.reduceBNe,Int.reduceLT,Int.reduceLE,l1,l22,l23,l24,ci,ct,dD,dP,eo,g0,g1,g12,g13,g10,gid,pc,af pc,af ct,iP,cc,cv,ce,hS]
         exact⟨aj (by kernel_rfl),cL.app _⟩
     ·have iP:decide (0<(k:Int))=true:=by simp;omega
      obtain⟨p,rfl⟩:∃ p,k=p+1:=⟨k - 1,by omega⟩
      have bN:=yO c
      have jj:((p+1:Nat):Int) - 1=(p:Int):=by omega
      have gp:(L.flatMap enc)[p * 14+2]? = some (.str (L[p]'(by omega)).key):=(fX L p (by omega) 2 (by omega)).trans rfl
      cases hd:blt (L[p]'(by omega)).key L[p+1].key
      ·rw[dA c (by rw[bN,hd];simp)]at hS
       simp only[ae,↓Xn,↓Xo,↓Xg,↓Xd,↓Xe,↓Xf,Tryz.VΓ,Tryz.Γs,Xp,Xi,Nat.reduceAdd,Nat.reduceSub,Nat.reduceLT,Nat.reduceLeDiff,reduceIte,reduceCtorEq,Nat.reduceEqDiff,implies_true,forall_const,ad,av,beq_self_eq_true,bne_self_eq_false,Int.reduceBEq,Int.reduceBNe,Int.reduceLT,Int.reduceLE,l1,l22,l23,l24,ci,ct,dD,dP,eo,g0,g1,g12,g13,g10,gid,pc,af pc,af ct,iP,jj,gp,hd,hS]
       exact⟨⟨by omega,by omega⟩,by rw[aM];omega,gP,⟨by omega,by omega⟩,⟨by omega,by omega⟩,by rw[aM];omega,aj (by kernel_rfl),cL.app _⟩
      ·have iB:p+1=p+1:=rfl
       cases cc:iJ L[p+1].v
       ·rw[dA c (by rw[bN,cc];simp)]at hS
        simp only[ae,↓Xn,↓Xo,↓Xg,↓Xd,↓Xe,↓Xf,Tryz.VΓ,Tryz.Γs,Xp,Xi,Nat.reduceAdd,Nat.reduceSub,Nat.reduceLT,Nat.reduceLeDiff,reduceIte,reduceCtorEq,Nat.reduceEqDiff,implies_true,forall_const,ad,av,beq_self_eq_true,bne_self_eq_false,Int.reduceBEq,Int.reduceBNe,Int.reduceLT,Int.reduceLE,l1,l22,l23,l24,ci,ct,dD,dP,eo,g0,g1,g12,g13,g10,gid,pc,af pc,af ct,iP,jj,gp,hd]
        refine⟨⟨by omega,by omega⟩,by rw[aM];omega,gP,⟨by omega,by omega⟩,⟨by omega,by omega⟩,by rw[aM];omega,aj (by kernel_rfl),?_⟩
        refine bn [] (jP _ (by simp;have:=cL.1;omega)) (fun _ _ _=>rfl) ?_
        simp only[ae,↓Xn,↓Xo,↓Xg,↓Xd,↓Xe,↓Xf,Tryz.VΓ,Tryz.Γs,Xp,Xi,Nat.reduceAdd,Nat.reduceSub,Nat.reduceLT,Nat.reduceLeDiff,reduceIte,reduceCtorEq,Nat.reduceEqDiff,implies_true,forall_const,ad,av,beq_self_eq_true,bne_self_eq_false,Int.reduceBEq,Int.reduceBNe,Int.reduceLT,Int.reduceLE,l1,l22,l23,l24,ci,ct,dD,dP,eo,g0,g1,g12,g13,g10,gid,pc,af pc,af ct,iP,jj,gp,hd,cc,hS]
        exact⟨aj (by kernel_rfl),cL.app _⟩
       ·cases cv:cR L[p+1].v.id
        ·rw[dA c (by rw[bN,cv];simp)]at hS
         simp only[ae,↓Xn,↓Xo,↓Xg,↓Xd,↓Xe,↓Xf,Tryz.VΓ,Tryz.Γs,Xp,Xi,Nat.reduceAdd,Nat.reduceSub,Nat.reduceLT,Nat.reduceLeDiff,reduceIte,reduceCtorEq,Nat.reduceEqDiff,implies_true,forall_const,ad,av,beq_self_eq_true,bne_self_eq_false,Int.reduceBEq,Int.reduceBNe,Int.reduceLT,Int.reduceLE,l1,l22,l23,l24,ci,ct,dD,dP,eo,g0,g1,g12,g13,g10,gid,pc,af pc,af ct,iP,jj,gp,hd]
         refine⟨⟨by omega,by omega⟩,by rw[aM];omega,gP,⟨by omega,by omega⟩,⟨by omega,by omega⟩,by rw[aM];omega,aj (by kernel_rfl),?_⟩
         refine bn [] (jP _ (by simp;have:=cL.1;omega)) (fun _ _ _=>rfl) ?_
         simp only[ae,↓Xn,↓Xo,↓Xg,↓Xd,↓Xe,↓Xf,Tryz.VΓ,Tryz.Γs,Xp,Xi,Nat.reduceAdd,Nat.reduceSub,Nat.reduceLT,Nat.reduceLeDiff,reduceIte,reduceCtorEq,Nat.reduceEqDiff,implies_true,forall_const,ad,av,beq_self_eq_true,bne_self_eq_false,Int.reduceBEq,Int.reduceBNe,Int.reduceLT,Int.reduceLE,l1,l22,l23,l24,ci,ct,dD,dP,eo,g0,g1,g12,g13,g10,gid,pc,af pc,af ct,iP,jj,gp,hd,cc,hS]
         rw[cv]at hid
         refine aR hid ?_
         simp only[ae,↓Xn,↓Xo,↓Xg,↓Xd,↓Xe,↓Xf,Tryz.VΓ,Tryz.Γs,Xp,Xi,Nat.reduceAdd,Nat.reduceSub,Nat.reduceLT,Nat.reduceLeDiff,reduceIte,reduceCtorEq,Nat.reduceEqDiff,implies_true,forall_const,ad,av,beq_self_eq_true,bne_self_eq_false,Int.reduceBEq,Int.reduceBNe,Int.reduceLT,Int.reduceLE,l1,l22,l23,l24,ci,ct,dD,dP,eo,g0,g1,g12,g13,g10,gid,pc,af pc,af ct,iP,jj,gp,hd,cc,cv,hS]
         exact⟨aj (by kernel_rfl),cL.app _⟩
        ·rw[cv]at hid
         cases ce:(L[p+1].aU != iV L[p+1].stored L[p+1].v.de)
         ·simp only[ae,↓Xn,↓Xo,↓Xg,↓Xd,↓Xe,↓Xf,Tryz.VΓ,Tryz.Γs,Xp,Xi,Nat.reduceAdd,Nat.reduceSub,Nat.reduceLT,Nat.reduceLeDiff,reduceIte,reduceCtorEq,Nat.reduceEqDiff,implies_true,forall_const,ad,av,beq_self_eq_true,bne_self_eq_false,Int.reduceBEq,Int.reduceBNe,Int.reduceLT,Int.reduceLE,l1,l22,l23,l24,ci,ct,dD,dP,eo,g0,g1,g12,g13,g10,gid,pc,af pc,af ct,iP,jj,gp,hd]
          refine⟨⟨by omega,by omega⟩,by rw[aM];omega,gP,⟨by omega,by omega⟩,⟨by omega,by omega⟩,by rw[aM];omega,aj (by kernel_rfl),?_⟩
          refine bn [] (jP _ (by simp;have:=cL.1;omega)) (fun _ _ _=>rfl) ?_
          simp only[ae,↓Xn,↓Xo,↓Xg,↓Xd,↓Xe,↓Xf,Tryz.VΓ,Tryz.Γs,Xp,Xi,Nat.reduceAdd,Nat.reduceSub,Nat.reduceLT,Nat.reduceLeDiff,reduceIte,reduceCtorEq,Nat.reduceEqDiff,implies_true,forall_const,ad,av,beq_self_eq_true,bne_self_eq_false,Int.reduceBEq,Int.reduceBNe,Int.reduceLT,Int.reduceLE,l1,l22,l23,l24,ci,ct,dD,dP,eo,g0,g1,g12,g13,g10,gid,pc,af pc,af ct,iP,jj,gp,hd,cc]
          refine aR hid ?_
          simp only[ae,↓Xn,↓Xo,↓Xg,↓Xd,↓Xe,↓Xf,Tryz.VΓ,Tryz.Γs,Xp,Xi,Nat.reduceAdd,Nat.reduceSub,Nat.reduceLT,Nat.reduceLeDiff,reduceIte,reduceCtorEq,Nat.reduceEqDiff,implies_true,forall_const,ad,av,beq_self_eq_true,bne_self_eq_false,Int.reduceBEq,Int.reduceBNe,Int.reduceLT,Int.reduceLE,l1,l22,l23,l24,ci,ct,dD,dP,eo,g0,g1,g12,g13,g10,gid,pc,af pc,af ct,iP,jj,gp,hd,cc,cv]
          refine aR lS ?_
          simp only[ae,↓Xn,↓Xo,↓Xg,↓Xd,↓Xe,↓Xf,Tryz.VΓ,Tryz.Γs,Xp,Xi,Nat.reduceAdd,Nat.reduceSub,Nat.reduceLT,Nat.reduceLeDiff,reduceIte,reduceCtorEq,Nat.reduceEqDiff,implies_true,forall_const,ad,av,beq_self_eq_true,bne_self_eq_false,Int.reduceBEq,Int.reduceBNe,Int.reduceLT,Int.reduceLE,l1,l22,l23,l24,ci,ct,dD,dP,eo,g0,g1,g12,g13,g10,gid,pc,af pc,af ct,iP,jj,gp,hd,cc,cv,ce]
          refine⟨aj (by kernel_rfl),by omega,⟨p+1+1,rfl,by omega,cL.app _,fun i hi=>?_⟩,?_⟩
          ·by_cases e:i=p+1
           ·rw[e]
            have ce':(L[p+1].aU==iV L[p+1].stored L[p+1].v.de)=true:=by simpa using ce
            rw[bN,hd,cc,cv,ce'];rfl
           ·exact aP i (by omega)
          ·rw[az (show lk 24 _=some (.int .i64 ((p+1+1:Nat):Int)) from rfl)];omega
         ·rw[dA c (by rw[bN];simp at ce;simp[ce])]at hS
          simp only[ae,↓Xn,↓Xo,↓Xg,↓Xd,↓Xe,↓Xf,Tryz.VΓ,Tryz.Γs,Xp,Xi,Nat.reduceAdd,Nat.reduceSub,Nat.reduceLT,Nat.reduceLeDiff,reduceIte,reduceCtorEq,Nat.reduceEqDiff,implies_true,forall_const,ad,av,beq_self_eq_true,bne_self_eq_false,Int.reduceBEq,Int.reduceBNe,Int.reduceLT,Int.reduceLE,l1,l22,l23,l24,ci,ct,dD,dP,eo,g0,g1,g12,g13,g10,gid,pc,af pc,af ct,iP,jj,gp,hd]
          refine⟨⟨by omega,by omega⟩,by rw[aM];omega,gP,⟨by omega,by omega⟩,⟨by omega,by omega⟩,by rw[aM];omega,aj (by kernel_rfl),?_⟩
          refine bn [] (jP _ (by simp;have:=cL.1;omega)) (fun _ _ _=>rfl) ?_
          simp only[ae,↓Xn,↓Xo,↓Xg,↓Xd,↓Xe,↓Xf,Tryz.VΓ,Tryz.Γs,Xp,Xi,Nat.reduceAdd,Nat.reduceSub,Nat.reduceLT,Nat.reduceLeDiff,reduceIte,reduceCtorEq,Nat.reduceEqDiff,implies_true,forall_const,ad,av,beq_self_eq_true,bne_self_eq_false,Int.reduceBEq,Int.reduceBNe,Int.reduceLT,Int.reduceLE,l1,l22,l23,l24,ci,ct,dD,dP,eo,g0,g1,g12,g13,g10,gid,pc,af pc,af ct,iP,jj,gp,hd,cc,hS]
          refine aR hid ?_
          simp only[ae,↓Xn,↓Xo,↓Xg,↓Xd,↓Xe,↓Xf,Tryz.VΓ,Tryz.Γs,Xp,Xi,Nat.reduceAdd,Nat.reduceSub,Nat.reduceLT,Nat.reduceLeDiff,reduceIte,reduceCtorEq,Nat.reduceEqDiff,implies_true,forall_const,ad,av,beq_self_eq_true,bne_self_eq_false,Int.reduceBEq,Int.reduceBNe,Int.reduceLT,Int.reduceLE,l1,l22,l23,l24,ci,ct,dD,dP,eo,g0,g1,g12,g13,g10,gid,pc,af pc,af ct,iP,jj,gp,hd,cc,cv,hS]
          refine aR lS ?_
          simp only[ae,↓Xn,↓Xo,↓Xg,↓Xd,↓Xe,↓Xf,Tryz.VΓ,Tryz.Γs,Xp,Xi,Nat.reduceAdd,Nat.reduceSub,Nat.reduceLT,Nat.reduceLeDiff,reduceIte,reduceCtorEq,Nat.reduceEqDiff,implies_true,forall_const,ad,av,beq_self_eq_true,bne_self_eq_false,Int.reduceBEq,Int.reduceBNe,Int.reduceLT,Int.reduceLE,l1,l22,l23,l24,ci,ct,dD,dP,eo,g0,g1,g12,g13,g10,gid,pc,af pc,af ct,iP,jj,gp,hd,cc,cv,ce,hS]
          exact⟨aj (by kernel_rfl),cL.app _⟩
    ·have ci:decide ((k:Int)<(L.length:Int))=false:=by simpa using c
     obtain rfl:k=L.length:=by omega
     rw[oH c1 c2 c3 aP]at hS
     simp only[ae,↓Xn,↓Xo,↓Xg,↓Xd,↓Xe,↓Xf,Tryz.VΓ,Tryz.Γs,Xp,Xi,Nat.reduceAdd,Nat.reduceSub,Nat.reduceLT,Nat.reduceLeDiff,reduceIte,reduceCtorEq,Nat.reduceEqDiff,implies_true,forall_const,ad,av,beq_self_eq_true,bne_self_eq_false,Int.reduceBEq,Int.reduceBNe,Int.reduceLT,Int.reduceLE,l1,l22,l23,l24,ci,hS]
     exact cL
   ·have hS:dv cp L=false:=by unfold dv;rw[c1,c2,c3];rfl
    rw[hS]
    simp only[ae,↓Xn,↓Xo,↓Xg,↓Xd,↓Xe,↓Xf,Tryz.VΓ,Tryz.Γs,Xp,Xi,Nat.reduceAdd,Nat.reduceSub,Nat.reduceLT,Nat.reduceLeDiff,reduceIte,reduceCtorEq,Nat.reduceEqDiff,implies_true,forall_const,ad,av,beq_self_eq_true,bne_self_eq_false,Int.reduceBEq,Int.reduceBNe,Int.reduceLT,Int.reduceLE,ho,dw,c1,c2,c3]
    exact(Kp.refl _).app _
  ·have hS:dv cp L=false:=by unfold dv;rw[c1,c2];rfl
   rw[hS]
   simp only[ae,↓Xn,↓Xo,↓Xg,↓Xd,↓Xe,↓Xf,Tryz.VΓ,Tryz.Γs,Xp,Xi,Nat.reduceAdd,Nat.reduceSub,Nat.reduceLT,Nat.reduceLeDiff,reduceIte,reduceCtorEq,Nat.reduceEqDiff,implies_true,forall_const,ad,av,beq_self_eq_true,bne_self_eq_false,Int.reduceBEq,Int.reduceBNe,Int.reduceLT,Int.reduceLE,ho,dw,c1,c2]
   exact(Kp.refl _).app _
 ·have hS:dv cp L=false:=by unfold dv;rw[c1];rfl
  rw[hS]
  simp only[ae,↓Xn,↓Xo,↓Xg,↓Xd,↓Xe,↓Xf,Tryz.VΓ,Tryz.Γs,Xp,Xi,Nat.reduceAdd,Nat.reduceSub,Nat.reduceLT,Nat.reduceLeDiff,reduceIte,reduceCtorEq,Nat.reduceEqDiff,implies_true,forall_const,ad,av,beq_self_eq_true,bne_self_eq_false,Int.reduceBEq,Int.reduceBNe,Int.reduceLT,Int.reduceLE,ho,dw,c1]
  exact(Kp.refl _).app _
end
open Go Vc Go.RowKit Wf
section
variable {b:List aw} {v:Vd} {L:List En} {m:Bool} {cp:Int}
theorem pE {x:SV}(h:hU b x L m)(hl:L.length≤1000000)(uK:∀ e∈L,one e.v.tr=true∧within b.length e.v.tr=true)(hu:∀ e∈L,(0≤e.stored∧e.stored<18446744073709551616)∧(0≤e.v.de∧e.v.de<18446744073709551616)) :
 SC Tryz.V 15 [.agg [.int .i64 cp,x]] b (fun r b'=>r=.bool (dv cp L)∧b'=b):=by
 refine fD rfl ?_
 have hw:=h.within
 have ho:=h.one
 have dw:∀ e,lO (.slice e) x=some (.int .i64 L.length):=fun e=>by
  rcases h with⟨rfl,rfl⟩|⟨q,rfl,-⟩ <;> rfl
 refine cV 3000 Tryz.func15 rfl Tryz.ntmps15 Tryz.results15 Tryz.call15 (by simp) (ax b.length _ (by simp[within,within.aS,hw])) ?_
 cases c1:decide (cp<0)
 ·cases c2:decide (1024<cp)
  ·cases c3:decide (cp<L.length)
   ·obtain⟨S,hS⟩:∃ S,S=dv cp L:=⟨_,rfl⟩
    rw[← hS]
    simp only[ae,↓Xn,↓Xo,↓Xg,↓Xd,↓Xe,↓Xf,Tryz.VΓ,Tryz.Γs,Xp,Xi,Nat.reduceAdd,Nat.reduceSub,Nat.reduceLT,Nat.reduceLeDiff,reduceIte,reduceCtorEq,Nat.reduceEqDiff,implies_true,forall_const,ad,av,beq_self_eq_true,bne_self_eq_false,Int.reduceBEq,Int.reduceBNe,Int.reduceLT,Int.reduceLE,ho,dw,c1,c2,c3]
    refine aL (fun σ=>∃ (k:Nat),lk 1 σ.t=some (.p b.length 0)∧lk 22 σ.t=some x∧lk 23 σ.t=some (.int .i64 L.length)∧lk 24 σ.t=some (.int .i64 k)∧k≤L.length∧Kp b σ.b∧σ.b[b.length]? = some (.cells [.int .i64 cp,x] 24 true)∧∀ j,j<k→Gh L j=true) (fun σ=>L.length - ji 24 σ) ⟨0,rfl,rfl,rfl,rfl,by omega,(Kp.refl _).app _,bm rfl _ 0,fun j hj=>by omega⟩ ?_
    rintro⟨t1,b1⟩ ⟨k,l1,l22,l23,l24,hk,cL,pc,aP⟩
    simp only at l1 l22 l23 l24 cL pc
    rw[az l24]
    by_cases c:k<L.length
    ·have ci:decide ((k:Int)<(L.length:Int))=true:=by simpa using c
     obtain⟨q,rfl,hq⟩:∃ q,x=.o q L.length∧b[q]? = some (.own (L.flatMap enc) 43 14 L.length m):=by
      rcases h with⟨rfl,rfl⟩|h
      ·simp at c
      ·exact h
     have ct:=cL.at hq
     have dD:=ir L k c
     have dP:(enc L[k]).length=14:=rfl
     have eo:(enc L[k]).take 14=enc L[k]:=List.take_of_length_le (by rw[dP];omega)
     have gP:(enc L[k]).all one=true:=by
      have:=(uK _ (zMY c)).1
      simp[enc,one]at this ⊢;exact this
     have g0:(enc L[k]).take 12=gi L[k].v:=rfl
     have g1:(enc L[k])[2]? = some (.str (En.key L[k])):=rfl
     have g12:(enc L[k])[12]? = some (.int .u64 L[k].stored):=rfl
     have g13:(enc L[k])[13]? = some (.int .u64 L[k].aU):=rfl
     have g10:(enc L[k])[10]? = some (.int .u64 L[k].v.de):=rfl
     have gid:((enc L[k]).drop 1).take 4=[.int .i64 L[k].v.id.kind,.str L[k].v.id.text,.str L[k].v.id.host,.int .i64 L[k].v.id.port]:=rfl
     have lS:=xj (hu _ (zMY c)).1 (hu _ (zMY c)).2
     have jP:∀ (b2:List aw),b.length≤b2.length→SC Tryz.V 30 [.agg (gi L[k].v)] b2 (fun r b'=>r=.bool (iJ L[k].v&&cR L[k].v.id)∧b'=b2):=fun b2 h2=>kJ (uK _ (zMY c)).1 (kI h2 _ (uK _ (zMY c)).2)
     by_cases k0:k=0
     ·have iP:decide (0<(k:Int))=false:=by simp[k0]
      have bN:Gh L k=((iJ L[k].v&&cR L[k].v.id)&&L[k].aU==iV L[k].stored L[k].v.de):=by subst k0;rw[yP c,Bool.and_assoc]
      cases cc:(iJ L[k].v&&cR L[k].v.id)
      ·rw[dA c (by rw[bN,cc];simp)]at hS
       rw[cc]at jP
       simp only[ae,↓Xn,↓Xo,↓Xg,↓Xd,↓Xe,↓Xf,Tryz.VΓ,Tryz.Γs,Xp,Xi,Nat.reduceAdd,Nat.reduceSub,Nat.reduceLT,Nat.reduceLeDiff,reduceIte,reduceCtorEq,Nat.reduceEqDiff,implies_true,forall_const,ad,av,beq_self_eq_true,bne_self_eq_false,Int.reduceBEq,Int.reduceBNe,Int.reduceLT,Int.reduceLE,l1,l22,l23,l24,ci,ct,dD,dP,eo,g0,g1,g12,g13,g10,pc,af pc,af ct,iP]
       refine⟨⟨by omega,by omega⟩,by rw[aM];omega,gP,?_⟩
       refine bn [] (jP _ (by simp;have:=cL.1;omega)) (fun _ _ _=>rfl) ?_
       simp only[ae,↓Xn,↓Xo,↓Xg,↓Xd,↓Xe,↓Xf,Tryz.VΓ,Tryz.Γs,Xp,Xi,Nat.reduceAdd,Nat.reduceSub,Nat.reduceLT,Nat.reduceLeDiff,reduceIte,reduceCtorEq,Nat.reduceEqDiff,implies_true,forall_const,ad,av,beq_self_eq_true,bne_self_eq_false,Int.reduceBEq,Int.reduceBNe,Int.reduceLT,Int.reduceLE,l1,l22,l23,l24,ci,ct,dD,dP,eo,g0,g1,g12,g13,g10,pc,af pc,af ct,iP,hS]
       exact⟨aj (by kernel_rfl),cL.app _⟩
      ·rw[cc]at jP
       cases ce:(L[k].aU != iV L[k].stored L[k].v.de)
       ·simp only[ae,↓Xn,↓Xo,↓Xg,↓Xd,↓Xe,↓Xf,Tryz.VΓ,Tryz.Γs,Xp,Xi,Nat.reduceAdd,Nat.reduceSub,Nat.reduceLT,Nat.reduceLeDiff,reduceIte,reduceCtorEq,Nat.reduceEqDiff,implies_true,forall_const,ad,av,beq_self_eq_true,bne_self_eq_false,Int.reduceBEq,Int.reduceBNe,Int.reduceLT,Int.reduceLE,l1,l22,l23,l24,ci,ct,dD,dP,eo,g0,g1,g12,g13,g10,pc,af pc,af ct,iP]
        refine⟨⟨by omega,by omega⟩,by rw[aM];omega,gP,?_⟩
        refine bn [] (jP _ (by simp;have:=cL.1;omega)) (fun _ _ _=>rfl) ?_
        simp only[ae,↓Xn,↓Xo,↓Xg,↓Xd,↓Xe,↓Xf,Tryz.VΓ,Tryz.Γs,Xp,Xi,Nat.reduceAdd,Nat.reduceSub,Nat.reduceLT,Nat.reduceLeDiff,reduceIte,reduceCtorEq,Nat.reduceEqDiff,implies_true,forall_const,ad,av,beq_self_eq_true,bne_self_eq_false,Int.reduceBEq,Int.reduceBNe,Int.reduceLT,Int.reduceLE,l1,l22,l23,l24,ci,ct,dD,dP,eo,g0,g1,g12,g13,g10,pc,af pc,af ct,iP]
        refine aR lS ?_
        simp only[ae,↓Xn,↓Xo,↓Xg,↓Xd,↓Xe,↓Xf,Tryz.VΓ,Tryz.Γs,Xp,Xi,Nat.reduceAdd,Nat.reduceSub,Nat.reduceLT,Nat.reduceLeDiff,reduceIte,reduceCtorEq,Nat.reduceEqDiff,implies_true,forall_const,ad,av,beq_self_eq_true,bne_self_eq_false,Int.reduceBEq,Int.reduceBNe,Int.reduceLT,Int.reduceLE,l1,l22,l23,l24,ci,ct,dD,dP,eo,g0,g1,g12,g13,g10,pc,af pc,af ct,iP,ce]
        refine⟨aj (by kernel_rfl),by omega,⟨k+1,rfl,by omega,cL.app _,fun i hi=>?_⟩,?_⟩
        ·by_cases e:i=k
         ·subst e
          have ce':(L[i].aU==iV L[i].stored L[i].v.de)=true:=by simpa using ce
          rw[bN,cc,ce'];rfl
         ·exact aP i (by omega)
        ·rw[az (show lk 24 _=some (.int .i64 ((k+1:Nat):Int)) from rfl)];omega
       ·rw[dA c (by rw[bN];simp at ce;simp[ce])]at hS
        simp only[ae,↓Xn,↓Xo,↓Xg,↓Xd,↓Xe,↓Xf,Tryz.VΓ,Tryz.Γs,Xp,Xi,Nat.reduceAdd,Nat.reduceSub,Nat.reduceLT,Nat.reduceLeDiff,reduceIte,reduceCtorEq,Nat.reduceEqDiff,implies_true,forall_const,ad,av,beq_self_eq_true,bne_self_eq_false,Int.reduceBEq,Int.reduceBNe,Int.reduceLT,Int.reduceLE,l1,l22,l23,l24,ci,ct,dD,dP,eo,g0,g1,g12,g13,g10,pc,af pc,af ct,iP]
        refine⟨⟨by omega,by omega⟩,by rw[aM];omega,gP,?_⟩
        refine bn [] (jP _ (by simp;have:=cL.1;omega)) (fun _ _ _=>rfl) ?_
        simp only[ae,↓Xn,↓Xo,↓Xg,↓Xd,↓Xe,↓Xf,Tryz.VΓ,Tryz.Γs,Xp,Xi,Nat.reduceAdd,Nat.reduceSub,Nat.reduceLT,Nat.reduceLeDiff,reduceIte,reduceCtorEq,Nat.reduceEqDiff,implies_true,forall_const,ad,av,beq_self_eq_true,bne_self_eq_false,Int.reduceBEq,Int.reduceBNe,Int.reduceLT,Int.reduceLE,l1,l22,l23,l24,ci,ct,dD,dP,eo,g0,g1,g12,g13,g10,pc,af pc,af ct,iP,hS]
        refine aR lS ?_
        simp only[ae,↓Xn,↓Xo,↓Xg,↓Xd,↓Xe,↓Xf,Tryz.VΓ,Tryz.Γs,Xp,Xi,Nat.reduceAdd,Nat.reduceSub,Nat.reduceLT,Nat.reduceLeDiff,reduceIte,reduceCtorEq,Nat.reduceEqDiff,implies_true,forall_const,ad,av,beq_self_eq_true,bne_self_eq_false,Int.reduceBEq,Int.reduceBNe,Int.reduceLT,Int.reduceLE,l1,l22,l23,l24,ci,ct,dD,dP,eo,g0,g1,g12,g13,g10,pc,af pc,af ct,iP,ce,hS]
        exact⟨aj (by kernel_rfl),cL.app _⟩
     ·have iP:decide (0<(k:Int))=true:=by simp;omega
      obtain⟨p,rfl⟩:∃ p,k=p+1:=⟨k - 1,by omega⟩
      have bN:=yO c
      rw[← Bool.and_assoc (iJ _)]at bN
      have jj:((p+1:Nat):Int) - 1=(p:Int):=by omega
      have gp:(L.flatMap enc)[p * 14+2]? = some (.str (L[p]'(by omega)).key):=(fX L p (by omega) 2 (by omega)).trans rfl
      cases hd:blt (L[p]'(by omega)).key L[p+1].key
      ·rw[dA c (by rw[bN,hd];simp)]at hS
       simp only[ae,↓Xn,↓Xo,↓Xg,↓Xd,↓Xe,↓Xf,Tryz.VΓ,Tryz.Γs,Xp,Xi,Nat.reduceAdd,Nat.reduceSub,Nat.reduceLT,Nat.reduceLeDiff,reduceIte,reduceCtorEq,Nat.reduceEqDiff,implies_true,forall_const,ad,av,beq_self_eq_true,bne_self_eq_false,Int.reduceBEq,Int.reduceBNe,Int.reduceLT,Int.reduceLE,l1,l22,l23,l24,ci,ct,dD,dP,eo,g0,g1,g12,g13,g10,pc,af pc,af ct,iP,jj,gp,hd,hS]
       exact⟨⟨by omega,by omega⟩,by rw[aM];omega,gP,⟨by omega,by omega⟩,⟨by omega,by omega⟩,by rw[aM];omega,aj (by kernel_rfl),cL.app _⟩
      ·have iB:p+1=p+1:=rfl
       cases cc:(iJ L[p+1].v&&cR L[p+1].v.id)
       ·rw[dA c (by rw[bN,cc];simp)]at hS
        rw[cc]at jP
        simp only[ae,↓Xn,↓Xo,↓Xg,↓Xd,↓Xe,↓Xf,Tryz.VΓ,Tryz.Γs,Xp,Xi,Nat.reduceAdd,Nat.reduceSub,Nat.reduceLT,Nat.reduceLeDiff,reduceIte,reduceCtorEq,Nat.reduceEqDiff,implies_true,forall_const,ad,av,beq_self_eq_true,bne_self_eq_false,Int.reduceBEq,Int.reduceBNe,Int.reduceLT,Int.reduceLE,l1,l22,l23,l24,ci,ct,dD,dP,eo,g0,g1,g12,g13,g10,pc,af pc,af ct,iP,jj,gp,hd]
        refine⟨⟨by omega,by omega⟩,by rw[aM];omega,gP,⟨by omega,by omega⟩,⟨by omega,by omega⟩,by rw[aM];omega,?_⟩
        refine bn [] (jP _ (by simp;have:=cL.1;omega)) (fun _ _ _=>rfl) ?_
        simp only[ae,↓Xn,↓Xo,↓Xg,↓Xd,↓Xe,↓Xf,Tryz.VΓ,Tryz.Γs,Xp,Xi,Nat.reduceAdd,Nat.reduceSub,Nat.reduceLT,Nat.reduceLeDiff,reduceIte,reduceCtorEq,Nat.reduceEqDiff,implies_true,forall_const,ad,av,beq_self_eq_true,bne_self_eq_false,Int.reduceBEq,Int.reduceBNe,Int.reduceLT,Int.reduceLE,l1,l22,l23,l24,ci,ct,dD,dP,eo,g0,g1,g12,g13,g10,pc,af pc,af ct,iP,jj,gp,hd,hS]
        exact⟨aj (by kernel_rfl),cL.app _⟩
       ·rw[cc]at jP
        cases ce:(L[p+1].aU != iV L[p+1].stored L[p+1].v.de)
        ·simp only[ae,↓Xn,↓Xo,↓Xg,↓Xd,↓Xe,↓Xf,Tryz.VΓ,Tryz.Γs,Xp,Xi,Nat.reduceAdd,Nat.reduceSub,Nat.reduceLT,Nat.reduceLeDiff,reduceIte,reduceCtorEq,Nat.reduceEqDiff,implies_true,forall_const,ad,av,beq_self_eq_true,bne_self_eq_false,Int.reduceBEq,Int.reduceBNe,Int.reduceLT,Int.reduceLE,l1,l22,l23,l24,ci,ct,dD,dP,eo,g0,g1,g12,g13,g10,pc,af pc,af ct,iP,jj,gp,hd]
         refine⟨⟨by omega,by omega⟩,by rw[aM];omega,gP,⟨by omega,by omega⟩,⟨by omega,by omega⟩,by rw[aM];omega,?_⟩
         refine bn [] (jP _ (by simp;have:=cL.1;omega)) (fun _ _ _=>rfl) ?_
         simp only[ae,↓Xn,↓Xo,↓Xg,↓Xd,↓Xe,↓Xf,Tryz.VΓ,Tryz.Γs,Xp,Xi,Nat.reduceAdd,Nat.reduceSub,Nat.reduceLT,Nat.reduceLeDiff,reduceIte,reduceCtorEq,Nat.reduceEqDiff,implies_true,forall_const,ad,av,beq_self_eq_true,bne_self_eq_false,Int.reduceBEq,Int.reduceBNe,Int.reduceLT,Int.reduceLE,l1,l22,l23,l24,ci,ct,dD,dP,eo,g0,g1,g12,g13,g10,pc,af pc,af ct,iP,jj,gp,hd]
         refine aR lS ?_
         simp only[ae,↓Xn,↓Xo,↓Xg,↓Xd,↓Xe,↓Xf,Tryz.VΓ,Tryz.Γs,Xp,Xi,Nat.reduceAdd,Nat.reduceSub,Nat.reduceLT,Nat.reduceLeDiff,reduceIte,reduceCtorEq,Nat.reduceEqDiff,implies_true,forall_const,ad,av,beq_self_eq_true,bne_self_eq_false,Int.reduceBEq,Int.reduceBNe,Int.reduceLT,Int.reduceLE,l1,l22,l23,l24,ci,ct,dD,dP,eo,g0,g1,g12,g13,g10,pc,af pc,af ct,iP,jj,gp,hd,ce]
         refine⟨aj (by kernel_rfl),by omega,⟨p+1+1,rfl,by omega,cL.app _,fun i hi=>?_⟩,?_⟩
         ·by_cases e:i=p+1
          ·rw[e]
           have ce':(L[p+1].aU==iV L[p+1].stored L[p+1].v.de)=true:=by simpa using ce
           rw[bN,hd,cc,ce'];rfl
          ·exact aP i (by omega)
         ·rw[az (show lk 24 _=some (.int .i64 ((p+1+1:Nat):Int)) from rfl)];omega
        ·rw[dA c (by rw[bN];simp at ce;simp[ce])]at hS
         simp only[ae,↓Xn,↓Xo,↓Xg,↓Xd,↓Xe,↓Xf,Tryz.VΓ,Tryz.Γs,Xp,Xi,Nat.reduceAdd,Nat.reduceSub,Nat.reduceLT,Nat.reduceLeDiff,reduceIte,reduceCtorEq,Nat.reduceEqDiff,implies_true,forall_const,ad,av,beq_self_eq_true,bne_self_eq_false,Int.reduceBEq,Int.reduceBNe,Int.reduceLT,Int.reduceLE,l1,l22,l23,l24,ci,ct,dD,dP,eo,g0,g1,g12,g13,g10,pc,af pc,af ct,iP,jj,gp,hd]
         refine⟨⟨by omega,by omega⟩,by rw[aM];omega,gP,⟨by omega,by omega⟩,⟨by omega,by omega⟩,by rw[aM];omega,?_⟩
         refine bn [] (jP _ (by simp;have:=cL.1;omega)) (fun _ _ _=>rfl) ?_
         simp only[ae,↓Xn,↓Xo,↓Xg,↓Xd,↓Xe,↓Xf,Tryz.VΓ,Tryz.Γs,Xp,Xi,Nat.reduceAdd,Nat.reduceSub,Nat.reduceLT,Nat.reduceLeDiff,reduceIte,reduceCtorEq,Nat.reduceEqDiff,implies_true,forall_const,ad,av,beq_self_eq_true,bne_self_eq_false,Int.reduceBEq,Int.reduceBNe,Int.reduceLT,Int.reduceLE,l1,l22,l23,l24,ci,ct,dD,dP,eo,g0,g1,g12,g13,g10,pc,af pc,af ct,iP,jj,gp,hd,hS]
         refine aR lS ?_
         simp only[ae,↓Xn,↓Xo,↓Xg,↓Xd,↓Xe,↓Xf,Tryz.VΓ,Tryz.Γs,Xp,Xi,Nat.reduceAdd,Nat.reduceSub,Nat.reduceLT,Nat.reduceLeDiff,reduceIte,reduceCtorEq,Nat.reduceEqDiff,implies_true,forall_const,ad,av,beq_self_eq_true,bne_self_eq_false,Int.reduceBEq,Int.reduceBNe,Int.reduceLT,Int.reduceLE,l1,l22,l23,l24,ci,ct,dD,dP,eo,g0,g1,g12,g13,g10,pc,af pc,af ct,iP,jj,gp,hd,ce,hS]
         exact⟨aj (by kernel_rfl),cL.app _⟩
    ·have ci:decide ((k:Int)<(L.length:Int))=false:=by simpa using c
     obtain rfl:k=L.length:=by omega
     rw[oH c1 c2 c3 aP]at hS
     simp only[ae,↓Xn,↓Xo,↓Xg,↓Xd,↓Xe,↓Xf,Tryz.VΓ,Tryz.Γs,Xp,Xi,Nat.reduceAdd,Nat.reduceSub,Nat.reduceLT,Nat.reduceLeDiff,reduceIte,reduceCtorEq,Nat.reduceEqDiff,implies_true,forall_const,ad,av,beq_self_eq_true,bne_self_eq_false,Int.reduceBEq,Int.reduceBNe,Int.reduceLT,Int.reduceLE,l1,l22,l23,l24,ci,hS]
     exact cL
   ·have hS:dv cp L=false:=by unfold dv;rw[c1,c2,c3];rfl
    rw[hS]
    simp only[ae,↓Xn,↓Xo,↓Xg,↓Xd,↓Xe,↓Xf,Tryz.VΓ,Tryz.Γs,Xp,Xi,Nat.reduceAdd,Nat.reduceSub,Nat.reduceLT,Nat.reduceLeDiff,reduceIte,reduceCtorEq,Nat.reduceEqDiff,implies_true,forall_const,ad,av,beq_self_eq_true,bne_self_eq_false,Int.reduceBEq,Int.reduceBNe,Int.reduceLT,Int.reduceLE,ho,dw,c1,c2,c3]
    exact(Kp.refl _).app _
  ·have hS:dv cp L=false:=by unfold dv;rw[c1,c2];rfl
   rw[hS]
   simp only[ae,↓Xn,↓Xo,↓Xg,↓Xd,↓Xe,↓Xf,Tryz.VΓ,Tryz.Γs,Xp,Xi,Nat.reduceAdd,Nat.reduceSub,Nat.reduceLT,Nat.reduceLeDiff,reduceIte,reduceCtorEq,Nat.reduceEqDiff,implies_true,forall_const,ad,av,beq_self_eq_true,bne_self_eq_false,Int.reduceBEq,Int.reduceBNe,Int.reduceLT,Int.reduceLE,ho,dw,c1,c2]
   exact(Kp.refl _).app _
 ·have hS:dv cp L=false:=by unfold dv;rw[c1];rfl
  rw[hS]
  simp only[ae,↓Xn,↓Xo,↓Xg,↓Xd,↓Xe,↓Xf,Tryz.VΓ,Tryz.Γs,Xp,Xi,Nat.reduceAdd,Nat.reduceSub,Nat.reduceLT,Nat.reduceLeDiff,reduceIte,reduceCtorEq,Nat.reduceEqDiff,implies_true,forall_const,ad,av,beq_self_eq_true,bne_self_eq_false,Int.reduceBEq,Int.reduceBNe,Int.reduceLT,Int.reduceLE,ho,dw,c1]
  exact(Kp.refl _).app _
end
open Go Vc Go.RowKit Wf
section
variable {b:List aw} {L M:List En} {m m':Bool} {cp:Int}
theorem Ah {x y:SV}(h:hU b x L m)(k:hU b y M m')(hl:L.length≤1000000)(hlen:M.length=L.length)(h1:∀ e∈L,one e.v.tr=true)(k1:∀ e∈M,one e.v.tr=true)
 (hs:∀ (i:Nat) (hi:i<L.length),L[i].stored=(M[i]'(by omega)).stored∧L[i].aU=(M[i]'(by omega)).aU∧∀ b2,Kp b b2→SC Tryz.V 22 [.agg (gi L[i].v),.agg (gi (M[i]'(by omega)).v)] b2 (fun r b'=>r=.bool true∧b'=b2)) :
 SC Tryz.V 13 [.agg [.int .i64 cp,x],.agg [.int .i64 cp,y]] b (fun r b'=>r=.bool true∧b'=b):=by
 refine fD rfl ?_
 have hw:=h.within
 have ho:=h.one
 have kw:=k.within
 have ko:=k.one
 have dw:∀ e,lO (.slice e) x=some (.int .i64 L.length):=fun e=>by
  rcases h with⟨rfl,rfl⟩|⟨q,rfl,-⟩ <;> rfl
 have hleny:∀ e,lO (.slice e) y=some (.int .i64 L.length):=fun e=>by
  rw[← hlen]
  rcases k with⟨rfl,rfl⟩|⟨q,rfl,-⟩ <;> rfl
 refine cV 3000 Tryz.func13 rfl Tryz.ntmps13 Tryz.results13 Tryz.call13 (by simp) (ax b.length _ (by simp[within,within.aS,hw,kw])) ?_
 have e1:(cp != cp)=false:=by simp
 have e2:((L.length:Int) != (L.length:Int))=false:=by simp
 simp only[ae,↓Xn,↓Xo,↓Xg,↓Xd,↓Xe,↓Xf,Tryz.VΓ,Tryz.Γs,Xp,Xi,Nat.reduceAdd,Nat.reduceSub,Nat.reduceLT,Nat.reduceLeDiff,reduceIte,reduceCtorEq,Nat.reduceEqDiff,implies_true,forall_const,ad,av,beq_self_eq_true,bne_self_eq_false,Int.reduceBEq,Int.reduceBNe,Int.reduceLT,Int.reduceLE,ho,ko,dw,hleny,e1,e2]
 refine aL (fun σ=>∃ (i:Nat),lk 2 σ.t=some (.p b.length 0)∧lk 3 σ.t=some (.p (b.length+1) 0)∧lk 22 σ.t=some (.int .i64 L.length)∧lk 23 σ.t=some (.int .i64 i)∧i≤L.length∧Kp b σ.b∧σ.b[b.length]? = some (.cells [.int .i64 cp,x] 24 true)∧σ.b[b.length+1]? = some (.cells [.int .i64 cp,y] 24 true)) (fun σ=>L.length - ji 23 σ) ⟨0,rfl,rfl,rfl,rfl,by omega,(Kp.refl _).app _,bm rfl _ 0,bm rfl _ 1⟩ ?_
 rintro⟨t1,b1⟩ ⟨i,l2,l3,l22,l23,hi,cL,pc,pd⟩
 simp only at l2 l3 l22 l23 cL pc pd
 rw[az l23]
 by_cases c:i<L.length
 ·have ci:decide ((i:Int)<(L.length:Int))=true:=by simpa using c
  have c2:i<M.length:=by omega
  obtain⟨q,rfl,hq⟩:∃ q,x=.o q L.length∧b[q]? = some (.own (L.flatMap enc) 43 14 L.length m):=by
   rcases h with⟨rfl,rfl⟩|h
   ·simp at c
   ·exact h
  obtain⟨q2,rfl,rA⟩:∃ q2,y=.o q2 M.length∧b[q2]? = some (.own (M.flatMap enc) 43 14 M.length m'):=by
   rcases k with⟨rfl,rfl⟩|k
   ·simp at c2
   ·exact k
  rw[hlen]at pd rA
  have ct:=cL.at hq
  have lQ:=cL.at rA
  obtain⟨s1,s2,s3⟩:=hs i c
  have g1:(L.flatMap enc)[i * 14+12]? = some (.int .u64 L[i].stored):=(fX L i c 12 (by omega)).trans rfl
  have g2:(L.flatMap enc)[i * 14+13]? = some (.int .u64 L[i].aU):=(fX L i c 13 (by omega)).trans rfl
  have k1':(M.flatMap enc)[i * 14+12]? = some (.int .u64 L[i].stored):=by rw[s1];exact(fX M i c2 12 (by omega)).trans rfl
  have k2':(M.flatMap enc)[i * 14+13]? = some (.int .u64 L[i].aU):=by rw[s2];exact(fX M i c2 13 (by omega)).trans rfl
  have hv1:=tE L i c
  have hv2:=tE M i c2
  have n1:(L[i].stored != L[i].stored)=false:=by simp
  have n2:(L[i].aU != L[i].aU)=false:=by simp
  have jN:=aM L
  have Ij:=aM M
  simp only[ae,↓Xn,↓Xo,↓Xg,↓Xd,↓Xe,↓Xf,Tryz.VΓ,Tryz.Γs,Xp,Xi,Nat.reduceAdd,Nat.reduceSub,Nat.reduceLT,Nat.reduceLeDiff,reduceIte,reduceCtorEq,Nat.reduceEqDiff,implies_true,forall_const,ad,av,beq_self_eq_true,bne_self_eq_false,Int.reduceBEq,Int.reduceBNe,Int.reduceLT,Int.reduceLE,l2,l3,l22,l23,ci,ct,lQ,pc,pd,g1,g2,k1',k2',hv1,hv2,n1,n2]
  refine⟨⟨by omega,by omega⟩,by rw[jN];omega,⟨by omega,by omega⟩,by rw[Ij,hlen];omega,⟨by omega,by omega⟩,by rw[jN];omega,⟨by omega,by omega⟩,by rw[Ij,hlen];omega,⟨by omega,by omega⟩,by rw[jN];omega,⟨by omega,by omega⟩,by rw[Ij,hlen];omega,?_⟩
  refine bn [] (s3 _ cL) (fun _ _ _=>rfl) ?_
  simp only[ae,↓Xn,↓Xo,↓Xg,↓Xd,↓Xe,↓Xf,Tryz.VΓ,Tryz.Γs,Xp,Xi,Nat.reduceAdd,Nat.reduceSub,Nat.reduceLT,Nat.reduceLeDiff,reduceIte,reduceCtorEq,Nat.reduceEqDiff,implies_true,forall_const,ad,av,beq_self_eq_true,bne_self_eq_false,Int.reduceBEq,Int.reduceBNe,Int.reduceLT,Int.reduceLE,l2,l3,l22,l23,ci,ct,lQ,pc,pd,n1,n2]
  refine⟨aj (by kernel_rfl),by omega,⟨i+1,rfl,by omega,cL,by simp[hlen]⟩,?_⟩
  rw[az (show lk 23 _=some (.int .i64 ((i+1:Nat):Int)) from rfl)];omega
 ·have ci:decide ((i:Int)<(L.length:Int))=false:=by simpa using c
  simp only[ae,↓Xn,↓Xo,↓Xg,↓Xd,↓Xe,↓Xf,Tryz.VΓ,Tryz.Γs,Xp,Xi,Nat.reduceAdd,Nat.reduceSub,Nat.reduceLT,Nat.reduceLeDiff,reduceIte,reduceCtorEq,Nat.reduceEqDiff,implies_true,forall_const,ad,av,beq_self_eq_true,bne_self_eq_false,Int.reduceBEq,Int.reduceBNe,Int.reduceLT,Int.reduceLE,l2,l3,l22,l23,ci]
  exact cL
end
open Go Vc Go.RowKit Wf
def Sd (L:List En):Prop:=∀ e∈L,∃ (n:Nat) (s t:Int),1≤s∧s≤86400∧e=pZ (vV n s) t
theorem Aa {cp:Int}{L:List En}(hc:0≤cp∧cp≤1024)(hl:(L.length:Int)≤cp)(ha:om En.key L)(h:Sd L):dv cp L=true:=by
 refine oH (by simp;omega) (by simp;omega) (by simp;omega) fun j hj=>?_
 have he:(iJ L[j].v&&(cR L[j].v.id&&L[j].aU==iV L[j].stored L[j].v.de))=true:=by
  obtain⟨n,s,t,h1,h2,e⟩:=h _ (zMY hj)
  rw[e,← Bool.and_assoc]
  have:=Gx (n:=n) h1 h2
  simp only[pZ,beq_self_eq_true,Bool.and_true]
  exact this
 cases j with
 | zero=>rw[yP hj,he]
 | succ j =>
   have:=(List.pairwise_iff_getElem.1 ha) j (j+1) (by omega) hj (by omega)
   rw[yO hj,he,this];rfl
theorem Sd.tr {L:List En}(h:Sd L):∀ e∈L,e.v.tr=.aI:=fun e he=>by
 obtain⟨n,s,t,-,-,rfl⟩:=h e he
 rfl
theorem Mc.sd {cp now:Int}{L:List En}(h:Mc cp L now):Sd L:=fun e he=>by
 obtain⟨n,s,t,-,h1,h2,-,-,rfl⟩:=h.me e he
 exact⟨n,s,t,h1,by omega,rfl⟩
theorem Sd.put {cp now:Int}{L:List En}(h:Sd L){n:Nat}{s:Int}(h1:1≤s)(h2:s≤86400):Sd (jz En.key En.aU cp L (pZ (vV n s) now)):=fun e he=>by
 rcases Ay he with rfl|he
 ·exact⟨n,s,now,h1,h2,rfl⟩
 ·exact h e he
theorem AE (n:Nat)(s:Int):PC Tryz.V 28 [.agg [.int .i64 (vV n s).id.kind,.str (vV n s).id.text,.str (vV n s).id.host,.int .i64 (vV n s).id.port]] (.bool true):=by
 have:=sn (vId n)
 rw[wN]at this
 exact this
def sL1:List En:=[pZ (vV 0 100) 0]
def GU:List En:=[pZ (vV 1 5) 0]
theorem s1_put:putV 1 [] (vV 0 100) 0 true=sL1:=by kernel_rfl
theorem s2_put:putV 1 sL1 (vV 1 5) 0 true=GU:=by kernel_rfl
theorem s3_get:getM GU (oF 0) 0=(zeroV,false):=by kernel_rfl
theorem s4_get:getM GU (oF 1) 4=(vV 1 5,true):=by kernel_rfl
theorem ym:Sd GU:=fun e he=>by
 simp[GU]at he;subst he;exact⟨1,5,0,by omega,by omega,rfl⟩
theorem sL1_sd:Sd sL1:=fun e he=>by
 simp[sL1]at he;subst he;exact⟨0,100,0,by omega,by omega,rfl⟩
theorem sL1_asc:om En.key sL1:=List.pairwise_singleton _ _
theorem yn:om En.key GU:=List.pairwise_singleton _ _
theorem sc_sane {b:List aw}:SC Tryz.V 8 [] b (fun r b'=>r=.bool true∧b'=b):=by
 refine fD rfl ?_
 refine cV 3000 Tryz.func8 rfl Tryz.ntmps8 Tryz.results8 Tryz.call8 (by simp) (fun β β' hb=>rfl) ?_
 refine bc 2900 (fun σ=>σ.b=b) ?_ (fun k' hk'=>?_)
 rotate_left
 ·simp only[ae,↓Xn,↓Xo,↓Xg,↓Xd,↓Xe,↓Xf,Tryz.VΓ,Tryz.Γs,Xp,Xi,Nat.reduceAdd,Nat.reduceSub,Nat.reduceLT,Nat.reduceLeDiff,reduceIte,reduceCtorEq,Nat.reduceEqDiff,implies_true,forall_const,ad,av,beq_self_eq_true,bne_self_eq_false,Int.reduceBEq,Int.reduceBNe,Int.reduceLT,Int.reduceLE]
  exact hk' _ _ rfl
 rintro m1 ⟨t1,b1⟩ rfl
 refine bc 2800 (fun σ=>lk 1 σ.t=some (.p b1.length 0)∧lk 2 σ.t=some (.int .i64 0)∧σ.b=b1++[.cells [.int .i64 1,.aI] 24 true]) ?_ (fun k' hk'=>?_)
 rotate_left
 ·have gX:=p_New 1
  rw[if_neg (by omega)]at gX
  simp only[ae,↓Xn,↓Xo,↓Xg,↓Xd,↓Xe,↓Xf,Tryz.VΓ,Tryz.Γs,Xp,Xi,Nat.reduceAdd,Nat.reduceSub,Nat.reduceLT,Nat.reduceLeDiff,reduceIte,reduceCtorEq,Nat.reduceEqDiff,implies_true,forall_const,ad,av,beq_self_eq_true,bne_self_eq_false,Int.reduceBEq,Int.reduceBNe,Int.reduceLT,Int.reduceLE]
  refine aa gX ?_
  simp only[ae,↓Xn,↓Xo,↓Xg,↓Xd,↓Xe,↓Xf,Tryz.VΓ,Tryz.Γs,Xp,Xi,Nat.reduceAdd,Nat.reduceSub,Nat.reduceLT,Nat.reduceLeDiff,reduceIte,reduceCtorEq,Nat.reduceEqDiff,implies_true,forall_const,ad,av,beq_self_eq_true,bne_self_eq_false,Int.reduceBEq,Int.reduceBNe,Int.reduceLT,Int.reduceLE]
  exact hk' _ _ ⟨rfl,rfl,rfl⟩
 rintro m2 ⟨t2,b2⟩ ⟨l1,l2,rfl⟩
 simp only at l1 l2
 refine bc 2700 (fun σ=>lk 1 σ.t=some (.p b1.length 0)∧lk 2 σ.t=some (.int .i64 0)∧Kp b1 σ.b∧∃ x,σ.b[b1.length]? = some (.cells [.int .i64 1,x] 24 true)∧hU σ.b x sL1 true) ?_ (fun k' hk'=>?_)
 rotate_left
 ·have hv:=kK 0 100 (by omega)
  obtain⟨y,nB,⟨hk,x',rfl,hE⟩,kU⟩:=GG (v:=vV 0 100) (b:=b1++[.cells [.int .i64 1,.aI] 24 true]) (L:=[]) (m:=true) (now:=0) (cp:=1) (.inl ⟨rfl,rfl⟩) (.inl rfl) (by simp) (fun e he=>by cases he) List.Pairwise.nil rfl (by omega) (AE 0 100)
  rw[s1_put]at hE
  have pc:=hk.at ((jn b1 _).trans rfl)
  have ho:=hE.one
  have hl:=hk.1
  simp only[ae,↓Xn,↓Xo,↓Xg,↓Xd,↓Xe,↓Xf,Tryz.VΓ,Tryz.Γs,Xp,Xi,Nat.reduceAdd,Nat.reduceSub,Nat.reduceLT,Nat.reduceLeDiff,reduceIte,reduceCtorEq,Nat.reduceEqDiff,implies_true,forall_const,ad,av,beq_self_eq_true,bne_self_eq_false,Int.reduceBEq,Int.reduceBNe,Int.reduceLT,Int.reduceLE,l1]
  refine aR hv ?_
  simp only[ae,↓Xn,↓Xo,↓Xg,↓Xd,↓Xe,↓Xf,Tryz.VΓ,Tryz.Γs,Xp,Xi,Nat.reduceAdd,Nat.reduceSub,Nat.reduceLT,Nat.reduceLeDiff,reduceIte,reduceCtorEq,Nat.reduceEqDiff,implies_true,forall_const,ad,av,beq_self_eq_true,bne_self_eq_false,Int.reduceBEq,Int.reduceBNe,Int.reduceLT,Int.reduceLE,l1]
  refine nK kU ?_
  simp only[ae,↓Xn,↓Xo,↓Xg,↓Xd,↓Xe,↓Xf,Tryz.VΓ,Tryz.Γs,Xp,Xi,Nat.reduceAdd,Nat.reduceSub,Nat.reduceLT,Nat.reduceLeDiff,reduceIte,reduceCtorEq,Nat.reduceEqDiff,implies_true,forall_const,ad,av,beq_self_eq_true,bne_self_eq_false,Int.reduceBEq,Int.reduceBNe,Int.reduceLT,Int.reduceLE,l1,pc,ho]
  refine⟨(by
   refine dm (fun n=>if n=b1.length then 0 else 1) ?_
   simp only[zMZ,zM1,dW,iE,reduceIte,not_false_eq_true]
   exact aj (by kernel_rfl)),?_⟩
  refine hk' _ _ ?_
  exact⟨l1,l2,(((Kp.refl _).app _).trans hk).set (Nat.le_refl _) _,x',zM3 (by simp at hl;omega),hE.CJ (by rintro q hq rfl;rw[pc]at hq;cases hq) _⟩
 rintro m3 ⟨t3,b3⟩ ⟨l1,l2,cL,x,pc,hE⟩
 simp only at l1 l2 cL pc hE
 have ho:=hE.one
 refine bc 2600 (fun σ=>lk 1 σ.t=some (.p b1.length 0)∧lk 2 σ.t=some (.int .i64 0)∧Kp b1 σ.b∧σ.b[b1.length]? = some (.cells [.int .i64 1,x] 24 true)∧∃ d y,lk 3 σ.t=some (.p d 0)∧σ.b[d]? = some (.cells [.int .i64 1,y] 24 true)∧hU σ.b x sL1 true∧hU σ.b y GU true) ?_ (fun k' hk'=>?_)
 rotate_left
 ·have hv:=kK 1 5 (by omega)
  obtain⟨y,nB,⟨hk,x',rfl,EC⟩,kU⟩:=GG (v:=vV 1 5) (b:=b3) (L:=sL1) (m:=true) (now:=0) (cp:=1) hE (.inl rfl) (by simp[sL1]) sL1_sd.tr sL1_asc rfl (by omega) (AE 1 5)
  rw[s2_put]at EC
  have pc2:=hk.at pc
  have lz:=EC.one
  simp only[ae,↓Xn,↓Xo,↓Xg,↓Xd,↓Xe,↓Xf,Tryz.VΓ,Tryz.Γs,Xp,Xi,Nat.reduceAdd,Nat.reduceSub,Nat.reduceLT,Nat.reduceLeDiff,reduceIte,reduceCtorEq,Nat.reduceEqDiff,implies_true,forall_const,ad,av,beq_self_eq_true,bne_self_eq_false,Int.reduceBEq,Int.reduceBNe,Int.reduceLT,Int.reduceLE,l1,pc,ho]
  refine aR hv ?_
  simp only[ae,↓Xn,↓Xo,↓Xg,↓Xd,↓Xe,↓Xf,Tryz.VΓ,Tryz.Γs,Xp,Xi,Nat.reduceAdd,Nat.reduceSub,Nat.reduceLT,Nat.reduceLeDiff,reduceIte,reduceCtorEq,Nat.reduceEqDiff,implies_true,forall_const,ad,av,beq_self_eq_true,bne_self_eq_false,Int.reduceBEq,Int.reduceBNe,Int.reduceLT,Int.reduceLE,l1,pc,ho]
  refine nK kU ?_
  simp only[ae,↓Xn,↓Xo,↓Xg,↓Xd,↓Xe,↓Xf,Tryz.VΓ,Tryz.Γs,Xp,Xi,Nat.reduceAdd,Nat.reduceSub,Nat.reduceLT,Nat.reduceLeDiff,reduceIte,reduceCtorEq,Nat.reduceEqDiff,implies_true,forall_const,ad,av,beq_self_eq_true,bne_self_eq_false,Int.reduceBEq,Int.reduceBNe,Int.reduceLT,Int.reduceLE,l1,pc2,lz]
  have bp:¬ b1.length=nB.length:=by have:=(zMX.1 pc2).1;omega
  refine⟨(by
   refine dm (fun n=>if n=nB.length then 0 else 1) ?_
   simp only[zMZ,zM1,dW,iE,reduceIte,bp]
   exact aj (by kernel_rfl)),?_⟩
  refine hk' _ _ ?_
  exact⟨l1,l2,(cL.trans hk).app _,af pc2 _,_,x',rfl,(jn _ _).trans rfl,(hE.kp hk).kp ((Kp.refl _).app _),EC.kp ((Kp.refl _).app _)⟩
 clear hE pc cL
 rintro m4 ⟨t4,b4⟩ ⟨l1,l2,cL,pc,d,y,l3,pd,hE,EC⟩
 simp only at l1 l2 l3 cL pc pd hE EC
 have lz:=EC.one
 have hv0:=xZ zeroV rfl
 refine bc 2500 (fun σ=>lk 1 σ.t=some (.p b1.length 0)∧lk 2 σ.t=some (.int .i64 0)∧lk 3 σ.t=some (.p d 0)∧lk 5 σ.t=some (.bool false)∧Kp b4 σ.b) ?_ (fun k' hk'=>?_)
 rotate_left
 ·have hv:=kK 0 1 (by omega)
  have hg:=GD (cp:=1) (t:=oF 0) (now:=0) EC yn (by simp[GU]) ym.tr
  rw[s3_get,hv0]at hg
  have HS:gi (vV 0 1)=[.int .i64 0,.int .i64 1,.str (oF 0),.str ([97,46,101,120,97,109,112,108,101]:List UInt8),.int .i64 0,.int .i64 0,.str [],.str [],.int .i64 0,.bool true,.int .u64 1,.aI]:=rfl
  rw[HS]at hv
  simp only[ae,↓Xn,↓Xo,↓Xg,↓Xd,↓Xe,↓Xf,Tryz.VΓ,Tryz.Γs,Xp,Xi,Nat.reduceAdd,Nat.reduceSub,Nat.reduceLT,Nat.reduceLeDiff,reduceIte,reduceCtorEq,Nat.reduceEqDiff,implies_true,forall_const,ad,av,beq_self_eq_true,bne_self_eq_false,Int.reduceBEq,Int.reduceBNe,Int.reduceLT,Int.reduceLE,l3,pd,lz]
  refine aR hv ?_
  simp only[ae,↓Xn,↓Xo,↓Xg,↓Xd,↓Xe,↓Xf,Tryz.VΓ,Tryz.Γs,Xp,Xi,Nat.reduceAdd,Nat.reduceSub,Nat.reduceLT,Nat.reduceLeDiff,reduceIte,reduceCtorEq,Nat.reduceEqDiff,implies_true,forall_const,ad,av,beq_self_eq_true,bne_self_eq_false,Int.reduceBEq,Int.reduceBNe,Int.reduceLT,Int.reduceLE,l3,pd,lz]
  refine nK hg ?_
  simp only[ae,↓Xn,↓Xo,↓Xg,↓Xd,↓Xe,↓Xf,Tryz.VΓ,Tryz.Γs,Xp,Xi,Nat.reduceAdd,Nat.reduceSub,Nat.reduceLT,Nat.reduceLeDiff,reduceIte,reduceCtorEq,Nat.reduceEqDiff,implies_true,forall_const,ad,av,beq_self_eq_true,bne_self_eq_false,Int.reduceBEq,Int.reduceBNe,Int.reduceLT,Int.reduceLE,l3,pd,lz]
  have bp:¬ d=b4.length:=by have:=(zMX.1 pd).1;omega
  refine⟨(by
   refine dm (fun n=>if n=b4.length then 0 else 1) ?_
   simp only[zMZ,zM1,dW,iE,reduceIte,bp]
   exact aj (by kernel_rfl)),?_⟩
  refine hk' _ _ ?_
  exact⟨l1,l2,l3,rfl,(Kp.refl _).app _⟩
 rintro m5 ⟨t5,b5⟩ ⟨l1,l2,l3,l5,wC⟩
 simp only at l1 l2 l3 l5 wC
 replace cL:=cL.trans wC
 replace pc:=wC.at pc
 replace pd:=wC.at pd
 replace hE:=hE.kp wC
 replace EC:=EC.kp wC
 clear wC
 refine bc 2400 (fun σ=>lk 1 σ.t=some (.p b1.length 0)∧lk 2 σ.t=some (.int .i64 0)∧lk 3 σ.t=some (.p d 0)∧lk 5 σ.t=some (.bool false)∧lk 7 σ.t=some (.bool true)∧Kp b5 σ.b) ?_ (fun k' hk'=>?_)
 rotate_left
 ·have hv:=kK 1 1 (by omega)
  have hg:=GD (cp:=1) (t:=oF 1) (now:=4) EC yn (by simp[GU]) ym.tr
  rw[s4_get,xZ (vV 1 5) rfl]at hg
  have HS:gi (vV 1 1)=[.int .i64 0,.int .i64 1,.str (oF 1),.str ([97,46,101,120,97,109,112,108,101]:List UInt8),.int .i64 0,.int .i64 0,.str [],.str [],.int .i64 0,.bool true,.int .u64 1,.aI]:=rfl
  rw[HS]at hv
  simp only[ae,↓Xn,↓Xo,↓Xg,↓Xd,↓Xe,↓Xf,Tryz.VΓ,Tryz.Γs,Xp,Xi,Nat.reduceAdd,Nat.reduceSub,Nat.reduceLT,Nat.reduceLeDiff,reduceIte,reduceCtorEq,Nat.reduceEqDiff,implies_true,forall_const,ad,av,beq_self_eq_true,bne_self_eq_false,Int.reduceBEq,Int.reduceBNe,Int.reduceLT,Int.reduceLE,l3,pd,lz]
  refine aR hv ?_
  simp only[ae,↓Xn,↓Xo,↓Xg,↓Xd,↓Xe,↓Xf,Tryz.VΓ,Tryz.Γs,Xp,Xi,Nat.reduceAdd,Nat.reduceSub,Nat.reduceLT,Nat.reduceLeDiff,reduceIte,reduceCtorEq,Nat.reduceEqDiff,implies_true,forall_const,ad,av,beq_self_eq_true,bne_self_eq_false,Int.reduceBEq,Int.reduceBNe,Int.reduceLT,Int.reduceLE,l3,pd,lz]
  refine nK hg ?_
  simp only[ae,↓Xn,↓Xo,↓Xg,↓Xd,↓Xe,↓Xf,Tryz.VΓ,Tryz.Γs,Xp,Xi,Nat.reduceAdd,Nat.reduceSub,Nat.reduceLT,Nat.reduceLeDiff,reduceIte,reduceCtorEq,Nat.reduceEqDiff,implies_true,forall_const,ad,av,beq_self_eq_true,bne_self_eq_false,Int.reduceBEq,Int.reduceBNe,Int.reduceLT,Int.reduceLE,l3,pd,lz]
  have bp:¬ d=b5.length:=by have:=(zMX.1 pd).1;omega
  refine⟨(by
   refine dm (fun n=>if n=b5.length then 0 else 1) ?_
   simp only[zMZ,zM1,dW,iE,reduceIte,bp]
   exact aj (by kernel_rfl)),?_⟩
  refine hk' _ _ ?_
  exact⟨l1,l2,l3,l5,rfl,(Kp.refl _).app _⟩
 rintro m6 ⟨t6,b6⟩ ⟨l1,l2,l3,l5,l7,sB⟩
 simp only at l1 l2 l3 l5 l7 sB
 replace cL:=cL.trans sB
 replace pc:=sB.at pc
 replace pd:=sB.at pd
 replace hE:=hE.kp sB
 replace EC:=EC.kp sB
 have hs:=pI (cp:=1) EC (by simp[GU]) (fun e he=>by rw[ym.tr e he];exact⟨rfl,rfl⟩)
 rw[Aa (by omega) (by simp[GU]) yn ym]at hs
 have ny:∀ e,lO (.slice e) x=some (.int .i64 1):=fun e=>by
  rcases hE with⟨rfl,h⟩|⟨q,rfl,-⟩
  ·cases h
  ·rfl
 have gW:∀ e,lO (.slice e) y=some (.int .i64 1):=fun e=>by
  rcases EC with⟨rfl,h⟩|⟨q,rfl,-⟩
  ·cases h
  ·rfl
 simp only[ae,↓Xn,↓Xo,↓Xg,↓Xd,↓Xe,↓Xf,Tryz.VΓ,Tryz.Γs,Xp,Xi,Nat.reduceAdd,Nat.reduceSub,Nat.reduceLT,Nat.reduceLeDiff,reduceIte,reduceCtorEq,Nat.reduceEqDiff,implies_true,forall_const,ad,av,beq_self_eq_true,bne_self_eq_false,Int.reduceBEq,Int.reduceBNe,Int.reduceLT,Int.reduceLE,l1,l2,l3,l5,l7,pc,pd,ho,lz,ny,gW]
 refine aT hs ?_
 rintro z b7 ⟨rfl,rfl⟩
 simp only[ae,↓Xn,↓Xo,↓Xg,↓Xd,↓Xe,↓Xf,Tryz.VΓ,Tryz.Γs,Xp,Xi,Nat.reduceAdd,Nat.reduceSub,Nat.reduceLT,Nat.reduceLeDiff,reduceIte,reduceCtorEq,Nat.reduceEqDiff,implies_true,forall_const,ad,av,beq_self_eq_true,bne_self_eq_false,Int.reduceBEq,Int.reduceBNe,Int.reduceLT,Int.reduceLE,l1,l2,l3,l5,l7,pc,pd]
 exact cL
theorem i64k {n:Int}(h0:0≤n)(h:n<9223372036854775808):IntKind.i64.wrap n=n:=by simp[IntKind.wrap,IntKind.bits,IntKind.signed];omega
structure Mb (b:List aw) (c:Nat) (cp:Int) (x:SV) (L:List En) (m:Bool) (now:Int):Prop where
 c:b[c]? = some (.cells [.int .i64 cp,x] 24 true)
 e:hU b x L m
 M:Mc cp L now
 n:now≤180
 m:m=true∨x=.aI
theorem Mb.kp {b b':List aw}{c:Nat}{cp:Int}{x:SV}{L:List En}{m:Bool}{now:Int}(h:Mb b c cp x L m now)(k:Kp b b'):Mb b' c cp x L m now:=⟨k.at h.c,h.e.kp k,h.M,h.n,h.m⟩
theorem hU.len {b:List aw}{x:SV}{L:List En}{m:Bool}(h:hU b x L m)(e:TypeId):lO (.slice e) x=some (.int .i64 L.length):=by
 rcases h with⟨rfl,rfl⟩|⟨q,rfl,-⟩ <;> rfl
structure Bx (b:List aw) (d:Nat) (cp:Int) (y:SV) (L:List En) (m:Bool):Prop where
 c:b[d]? = some (.cells [.int .i64 cp,y] 24 true)
 e:hU b y L m
theorem Bx.kp {b b':List aw}{d:Nat}{cp:Int}{y:SV}{L:List En}{m:Bool}(h:Bx b d cp y L m)(k:Kp b b'):Bx b' d cp y L m:=⟨k.at h.c,h.e.kp k⟩
section
variable {f:FuncId} {args:List SV} {b b0:List aw} {cp:Int}
end
open Go Vc Go.RowKit Wf
theorem nQ (i:jt)(h:i.text.length≤140737488355328∧i.host.length≤140737488355328):PC Tryz.V 39 [.agg [.int .i64 i.kind,.str i.text,.str i.host,.int .i64 i.port]] (.bool (decide ((i.text.length:Int)+i.host.length≤1000))):=by
 refine aQ 3000 Tryz.func39 rfl Tryz.ntmps39 Tryz.results39 Tryz.call39 (by simp) (by simp[flat,flat.ai]) (by simp[flat,flat.ai]) ?_
 simp only[ae,↓Xn,↓Xo,↓Xg,↓Xd,↓Xe,↓Xf,Tryz.VΓ,Tryz.Γs,Xp,Xi,Nat.reduceAdd,Nat.reduceSub,Nat.reduceLT,Nat.reduceLeDiff,reduceIte,reduceCtorEq,Nat.reduceEqDiff,implies_true,forall_const,ad,Dj,beq_self_eq_true,bne_self_eq_false,Int.reduceBEq,Int.reduceBNe,Int.reduceLT,Int.reduceLE]
 omega
structure DR (x:Xc):Prop where
 h:x.h.length≤140737488355328
 pa:x.pa.length≤140737488355328
 q:x.q.length≤140737488355328
 f:x.f.length≤140737488355328
theorem C3 (x:Xc)(h:DR x):PC Tryz.V 62 [.agg [.str x.h,.int .i64 x.p,.str x.pa,.str x.q,.str x.f,.bool x.hq,.bool x.hf]] (.bool (decide ((x.h.length:Int)+x.pa.length+x.q.length+x.f.length≤1000))):=by
 have h1:=h.h
 have h2:=h.pa
 have h3:=h.q
 have h4:=h.f
 refine aQ 3000 Tryz.func62 rfl Tryz.ntmps62 Tryz.results62 Tryz.call62 (by simp) (by simp[flat,flat.ai]) (by simp[flat,flat.ai]) ?_
 simp only[ae,↓Xn,↓Xo,↓Xg,↓Xd,↓Xe,↓Xf,Tryz.VΓ,Tryz.Γs,Xp,Xi,Nat.reduceAdd,Nat.reduceSub,Nat.reduceLT,Nat.reduceLeDiff,reduceIte,reduceCtorEq,Nat.reduceEqDiff,implies_true,forall_const,ad,Dj,beq_self_eq_true,bne_self_eq_false,Int.reduceBEq,Int.reduceBNe,Int.reduceLT,Int.reduceLE]
 refine⟨by omega,by omega,by omega⟩
theorem vS {b:List aw}{q:Nat}{R:List Xc}{m:Bool}(hq:b[q]? = some (.own (R.flatMap xc) 93 9 R.length m))(hl:R.length≤9223372036854775807)(hR:∀ x∈R,DR x):SC Tryz.V 40 [.o q R.length] b (fun r b'=>∃ B:Bool,r=.bool B∧(B=true→R.length≤60)∧Kp b b'):=by
 have pb:=(zMX.1 hq).1
 refine cV 3000 Tryz.func40 rfl Tryz.ntmps40 Tryz.results40 Tryz.call40 (by simp) (ax b.length _ (by simp[within,within.aS,pb])) ?_
 cases c0:decide (60<(R.length:Int))
 ·have h60:R.length≤60:=by simp at c0;omega
  simp only[ae,↓Xn,↓Xo,↓Xg,↓Xd,↓Xe,↓Xf,Tryz.VΓ,Tryz.Γs,Xp,Xi,Nat.reduceAdd,Nat.reduceSub,Nat.reduceLT,Nat.reduceLeDiff,reduceIte,reduceCtorEq,Nat.reduceEqDiff,implies_true,forall_const,ad,av,beq_self_eq_true,bne_self_eq_false,Int.reduceBEq,Int.reduceBNe,Int.reduceLT,Int.reduceLE,c0]
  refine aL (fun σ=>∃ (i:Nat),lk 8 σ.t=some (.o q R.length)∧lk 9 σ.t=some (.int .i64 R.length)∧lk 10 σ.t=some (.int .i64 i)∧i≤R.length∧Kp b σ.b) (fun σ=>R.length - ji 10 σ) ⟨0,rfl,rfl,rfl,by omega,Kp.refl _⟩ ?_
  rintro⟨t1,b1⟩ ⟨i,l8,l9,l10,hi,hk⟩
  simp only at l8 l9 l10 hk
  rw[az l10]
  by_cases c:i<R.length
  ·have ci:decide ((i:Int)<(R.length:Int))=true:=by simpa using c
   have ct:=hk.at hq
   have dD:=xc_at R i c
   have hxe:xc R[i]=[.str R[i].h,.int .i64 R[i].p,.str R[i].pa,.str R[i].q,.str R[i].f,.bool R[i].hq,.bool R[i].hf,.int .i64 R[i].st,.int .i64 R[i].er]:=rfl
   rw[hxe]at dD
   have hu:=C3 R[i] (hR _ (zMY c))
   simp only[ae,↓Xn,↓Xo,↓Xg,↓Xd,↓Xe,↓Xf,Tryz.VΓ,Tryz.Γs,Xp,Xi,Nat.reduceAdd,Nat.reduceSub,Nat.reduceLT,Nat.reduceLeDiff,reduceIte,reduceCtorEq,Nat.reduceEqDiff,implies_true,forall_const,ad,av,beq_self_eq_true,bne_self_eq_false,Int.reduceBEq,Int.reduceBNe,Int.reduceLT,Int.reduceLE,l8,l9,l10,ci,ct,dD]
   refine⟨⟨by omega,by omega⟩,by rw[xc_len];omega,aa hu ?_⟩
   cases hB:decide ((R[i].h.length:Int)+R[i].pa.length+R[i].q.length+R[i].f.length≤1000)
   ·simp only[ae,↓Xn,↓Xo,↓Xg,↓Xd,↓Xe,↓Xf,Tryz.VΓ,Tryz.Γs,Xp,Xi,Nat.reduceAdd,Nat.reduceSub,Nat.reduceLT,Nat.reduceLeDiff,reduceIte,reduceCtorEq,Nat.reduceEqDiff,implies_true,forall_const,ad,av,beq_self_eq_true,bne_self_eq_false,Int.reduceBEq,Int.reduceBNe,Int.reduceLT,Int.reduceLE,l8,l9,l10]
    exact⟨false,rfl,fun _=>h60,hk.app _⟩
   ·simp only[ae,↓Xn,↓Xo,↓Xg,↓Xd,↓Xe,↓Xf,Tryz.VΓ,Tryz.Γs,Xp,Xi,Nat.reduceAdd,Nat.reduceSub,Nat.reduceLT,Nat.reduceLeDiff,reduceIte,reduceCtorEq,Nat.reduceEqDiff,implies_true,forall_const,ad,av,beq_self_eq_true,bne_self_eq_false,Int.reduceBEq,Int.reduceBNe,Int.reduceLT,Int.reduceLE,l8,l9,l10]
    refine⟨by omega,⟨i+1,rfl,by omega,hk.app _⟩,?_⟩
    rw[az (show lk 10 _=some (.int .i64 ((i+1:Nat):Int)) from rfl)];omega
  ·have ci:decide ((i:Int)<(R.length:Int))=false:=by simpa using c
   simp only[ae,↓Xn,↓Xo,↓Xg,↓Xd,↓Xe,↓Xf,Tryz.VΓ,Tryz.Γs,Xp,Xi,Nat.reduceAdd,Nat.reduceSub,Nat.reduceLT,Nat.reduceLeDiff,reduceIte,reduceCtorEq,Nat.reduceEqDiff,implies_true,forall_const,ad,av,beq_self_eq_true,bne_self_eq_false,Int.reduceBEq,Int.reduceBNe,Int.reduceLT,Int.reduceLE,l8,l9,l10,ci]
   exact⟨true,rfl,fun _=>h60,hk⟩
 ·simp only[ae,↓Xn,↓Xo,↓Xg,↓Xd,↓Xe,↓Xf,Tryz.VΓ,Tryz.Γs,Xp,Xi,Nat.reduceAdd,Nat.reduceSub,Nat.reduceLT,Nat.reduceLeDiff,reduceIte,reduceCtorEq,Nat.reduceEqDiff,implies_true,forall_const,ad,av,beq_self_eq_true,bne_self_eq_false,Int.reduceBEq,Int.reduceBNe,Int.reduceLT,Int.reduceLE,c0]
  exact⟨false,rfl,fun h=>(by cases h),Kp.refl _⟩
theorem sK {b:List aw}{v:Vd}{q:Nat}{R:List Xc}{m:Bool}(hv:v.tr=.o q R.length)(hq:b[q]? = some (.own (R.flatMap xc) 93 9 R.length m))(hl:R.length≤9223372036854775807)(hR:∀ x∈R,DR x)
 (h1:v.id.text.length≤140737488355328∧v.id.host.length≤140737488355328) (h2:v.cW.text.length≤140737488355328∧v.cW.host.length≤140737488355328) :
 SC Tryz.V 18 [.agg (gi v)] b (fun r b'=>∃ B:Bool,r=.bool B∧(B=true→R.length≤60)∧Kp b b'):=by
 have pb:=(zMX.1 hq).1
 have p1:=nQ v.id h1
 have p2:=nQ v.cW h2
 unfold gi
 rw[hv]
 refine cV 3000 Tryz.func18 rfl Tryz.ntmps18 Tryz.results18 Tryz.call18 (by simp) (ax b.length _ (by simp[within,within.aS,pb])) ?_
 simp only[ae,↓Xn,↓Xo,↓Xg,↓Xd,↓Xe,↓Xf,Tryz.VΓ,Tryz.Γs,Xp,Xi,Nat.reduceAdd,Nat.reduceSub,Nat.reduceLT,Nat.reduceLeDiff,reduceIte,reduceCtorEq,Nat.reduceEqDiff,implies_true,forall_const,ad,av,beq_self_eq_true,bne_self_eq_false,Int.reduceBEq,Int.reduceBNe,Int.reduceLT,Int.reduceLE]
 refine aa p1 ?_
 cases decide ((v.id.text.length:Int)+v.id.host.length≤1000)
 ·simp only[ae,↓Xn,↓Xo,↓Xg,↓Xd,↓Xe,↓Xf,Tryz.VΓ,Tryz.Γs,Xp,Xi,Nat.reduceAdd,Nat.reduceSub,Nat.reduceLT,Nat.reduceLeDiff,reduceIte,reduceCtorEq,Nat.reduceEqDiff,implies_true,forall_const,ad,av,beq_self_eq_true,bne_self_eq_false,Int.reduceBEq,Int.reduceBNe,Int.reduceLT,Int.reduceLE]
  exact⟨false,rfl,fun h=>(by cases h),(Kp.refl _).app _⟩
 ·simp only[ae,↓Xn,↓Xo,↓Xg,↓Xd,↓Xe,↓Xf,Tryz.VΓ,Tryz.Γs,Xp,Xi,Nat.reduceAdd,Nat.reduceSub,Nat.reduceLT,Nat.reduceLeDiff,reduceIte,reduceCtorEq,Nat.reduceEqDiff,implies_true,forall_const,ad,av,beq_self_eq_true,bne_self_eq_false,Int.reduceBEq,Int.reduceBNe,Int.reduceLT,Int.reduceLE]
  refine aa p2 ?_
  cases decide ((v.cW.text.length:Int)+v.cW.host.length≤1000)
  ·simp only[ae,↓Xn,↓Xo,↓Xg,↓Xd,↓Xe,↓Xf,Tryz.VΓ,Tryz.Γs,Xp,Xi,Nat.reduceAdd,Nat.reduceSub,Nat.reduceLT,Nat.reduceLeDiff,reduceIte,reduceCtorEq,Nat.reduceEqDiff,implies_true,forall_const,ad,av,beq_self_eq_true,bne_self_eq_false,Int.reduceBEq,Int.reduceBNe,Int.reduceLT,Int.reduceLE]
   exact⟨false,rfl,fun h=>(by cases h),(Kp.refl _).app _⟩
  ·simp only[ae,↓Xn,↓Xo,↓Xg,↓Xd,↓Xe,↓Xf,Tryz.VΓ,Tryz.Γs,Xp,Xi,Nat.reduceAdd,Nat.reduceSub,Nat.reduceLT,Nat.reduceLeDiff,reduceIte,reduceCtorEq,Nat.reduceEqDiff,implies_true,forall_const,ad,av,beq_self_eq_true,bne_self_eq_false,Int.reduceBEq,Int.reduceBNe,Int.reduceLT,Int.reduceLE]
   refine aT (vS (af hq _) hl hR) ?_
   rintro z b1 ⟨B,rfl,hB,hk⟩
   simp only[ae,↓Xn,↓Xo,↓Xg,↓Xd,↓Xe,↓Xf,Tryz.VΓ,Tryz.Γs,Xp,Xi,Nat.reduceAdd,Nat.reduceSub,Nat.reduceLT,Nat.reduceLeDiff,reduceIte,reduceCtorEq,Nat.reduceEqDiff,implies_true,forall_const,ad,av,beq_self_eq_true,bne_self_eq_false,Int.reduceBEq,Int.reduceBNe,Int.reduceLT,Int.reduceLE]
   exact⟨B,rfl,hB,((Kp.refl _).app _).trans hk⟩
def VdG (b:List aw)(u:Vd):Prop:=∃ R,Gc b u.tr R∧R.length≤60∧0≤u.de∧u.de<18446744073709551616
theorem VdG.one {b:List aw}{u:Vd}(h:VdG b u):one u.tr=true:=by
 obtain⟨R,h1,-⟩:=h
 exact h1.one
theorem wg:PC Tryz.V 40 [.aI] (.bool true):=by
 refine aQ 3000 Tryz.func40 rfl Tryz.ntmps40 Tryz.results40 Tryz.call40 (by simp) (by simp[flat,flat.ai]) (by simp[flat,flat.ai]) ?_
 simp only[ae,↓Xn,↓Xo,↓Xg,↓Xd,↓Xe,↓Xf,Tryz.VΓ,Tryz.Γs,Xp,Xi,Nat.reduceAdd,Nat.reduceSub,Nat.reduceLT,Nat.reduceLeDiff,reduceIte,reduceCtorEq,Nat.reduceEqDiff,implies_true,forall_const,ad,beq_self_eq_true,bne_self_eq_false,Int.reduceBEq,Int.reduceBNe,Int.reduceLT,Int.reduceLE]
 refine aL (fun σ=>lk 9 σ.t=some (.int .i64 0)∧lk 10 σ.t=some (.int .i64 0)) (fun σ=>0) ⟨rfl,rfl⟩ ?_
 rintro⟨t,b⟩ ⟨l9,l10⟩
 simp only at l9 l10
 simp only[ae,↓Xn,↓Xo,↓Xg,↓Xd,↓Xe,↓Xf,Tryz.VΓ,Tryz.Γs,Xp,Xi,Nat.reduceAdd,Nat.reduceSub,Nat.reduceLT,Nat.reduceLeDiff,reduceIte,reduceCtorEq,Nat.reduceEqDiff,implies_true,forall_const,ad,beq_self_eq_true,bne_self_eq_false,Int.reduceBEq,Int.reduceBNe,Int.reduceLT,Int.reduceLE,l9,l10]
theorem ra {b:List aw}{v:Vd}{R:List Xc}(h:Gc b v.tr R)(hl:R.length≤9223372036854775807)(hR:∀ x∈R,DR x)
 (h1:v.id.text.length≤140737488355328∧v.id.host.length≤140737488355328) (h2:v.cW.text.length≤140737488355328∧v.cW.host.length≤140737488355328) :
 SC Tryz.V 18 [.agg (gi v)] b (fun r b'=>∃ B:Bool,r=.bool B∧Kp b b'):=by
 rcases h with⟨hv,rfl⟩|⟨q,m,hv,hq⟩
 ·have p1:=nQ v.id h1
  have p2:=nQ v.cW h2
  unfold gi
  rw[hv]
  refine cV 3000 Tryz.func18 rfl Tryz.ntmps18 Tryz.results18 Tryz.call18 (by simp) (ax b.length _ (by simp[within,within.aS])) ?_
  simp only[ae,↓Xn,↓Xo,↓Xg,↓Xd,↓Xe,↓Xf,Tryz.VΓ,Tryz.Γs,Xp,Xi,Nat.reduceAdd,Nat.reduceSub,Nat.reduceLT,Nat.reduceLeDiff,reduceIte,reduceCtorEq,Nat.reduceEqDiff,implies_true,forall_const,ad,av,beq_self_eq_true,bne_self_eq_false,Int.reduceBEq,Int.reduceBNe,Int.reduceLT,Int.reduceLE]
  refine aa p1 ?_
  cases decide ((v.id.text.length:Int)+v.id.host.length≤1000)
  ·simp only[ae,↓Xn,↓Xo,↓Xg,↓Xd,↓Xe,↓Xf,Tryz.VΓ,Tryz.Γs,Xp,Xi,Nat.reduceAdd,Nat.reduceSub,Nat.reduceLT,Nat.reduceLeDiff,reduceIte,reduceCtorEq,Nat.reduceEqDiff,implies_true,forall_const,ad,av,beq_self_eq_true,bne_self_eq_false,Int.reduceBEq,Int.reduceBNe,Int.reduceLT,Int.reduceLE]
   exact⟨false,rfl,(Kp.refl _).app _⟩
  ·simp only[ae,↓Xn,↓Xo,↓Xg,↓Xd,↓Xe,↓Xf,Tryz.VΓ,Tryz.Γs,Xp,Xi,Nat.reduceAdd,Nat.reduceSub,Nat.reduceLT,Nat.reduceLeDiff,reduceIte,reduceCtorEq,Nat.reduceEqDiff,implies_true,forall_const,ad,av,beq_self_eq_true,bne_self_eq_false,Int.reduceBEq,Int.reduceBNe,Int.reduceLT,Int.reduceLE]
   refine aa p2 ?_
   cases decide ((v.cW.text.length:Int)+v.cW.host.length≤1000)
   ·simp only[ae,↓Xn,↓Xo,↓Xg,↓Xd,↓Xe,↓Xf,Tryz.VΓ,Tryz.Γs,Xp,Xi,Nat.reduceAdd,Nat.reduceSub,Nat.reduceLT,Nat.reduceLeDiff,reduceIte,reduceCtorEq,Nat.reduceEqDiff,implies_true,forall_const,ad,av,beq_self_eq_true,bne_self_eq_false,Int.reduceBEq,Int.reduceBNe,Int.reduceLT,Int.reduceLE]
    exact⟨false,rfl,(Kp.refl _).app _⟩
   ·simp only[ae,↓Xn,↓Xo,↓Xg,↓Xd,↓Xe,↓Xf,Tryz.VΓ,Tryz.Γs,Xp,Xi,Nat.reduceAdd,Nat.reduceSub,Nat.reduceLT,Nat.reduceLeDiff,reduceIte,reduceCtorEq,Nat.reduceEqDiff,implies_true,forall_const,ad,av,beq_self_eq_true,bne_self_eq_false,Int.reduceBEq,Int.reduceBNe,Int.reduceLT,Int.reduceLE]
    refine aa wg ?_
    simp only[ae,↓Xn,↓Xo,↓Xg,↓Xd,↓Xe,↓Xf,Tryz.VΓ,Tryz.Γs,Xp,Xi,Nat.reduceAdd,Nat.reduceSub,Nat.reduceLT,Nat.reduceLeDiff,reduceIte,reduceCtorEq,Nat.reduceEqDiff,implies_true,forall_const,ad,av,beq_self_eq_true,bne_self_eq_false,Int.reduceBEq,Int.reduceBNe,Int.reduceLT,Int.reduceLE]
    exact⟨true,rfl,(Kp.refl _).app _⟩
 ·exact(sK hv hq hl hR h1 h2).mono fun r b' ⟨B,e,_,k⟩=>⟨B,e,k⟩
structure oj (bs:List aw) (e:En):Prop where
 tr:∃ R:List Xc,Gc bs e.v.tr R∧R.length≤9223372036854775807∧∀ x∈R,DR x
 t1:e.v.id.text.length≤140737488355328∧e.v.id.host.length≤140737488355328
 t2:e.v.cW.text.length≤140737488355328∧e.v.cW.host.length≤140737488355328
 st:0≤e.stored∧e.stored<18446744073709551616
 se:0≤e.v.de∧e.v.de<18446744073709551616
theorem oj.one {bs:List aw}{e:En}(h:oj bs e):one e.v.tr=true:=by
 obtain⟨R,h1,-⟩:=h.tr
 exact h1.one
theorem oj.within {bs:List aw}{e:En}(h:oj bs e):within bs.length e.v.tr=true:=by
 obtain⟨R,h1,-⟩:=h.tr
 exact h1.within
theorem oj.kp {b b':List aw}{e:En}(h:oj b e)(k:Kp b b'):oj b' e:=by
 obtain⟨R,h1,h2⟩:=h.tr
 exact⟨⟨R,h1.kp k,h2⟩,h.t1,h.t2,h.st,h.se⟩
theorem sc_kept {b:List aw}{x:SV}{L:List En}{m:Bool}{cp:Int}(h:hU b x L m)(bN:∀ e∈L,oj b e):SC Tryz.V 9 [.agg [.int .i64 cp,x]] b (fun r b'=>∃ B:Bool,r=.bool B∧(B=true→L.length≤20)∧Kp b b'):=by
 have hw:=h.within
 have ho:=h.one
 have dw:=h.len
 refine cV 3000 Tryz.func9 rfl Tryz.ntmps9 Tryz.results9 Tryz.call9 (by simp) (ax b.length _ (by simp[within,within.aS,hw])) ?_
 cases c0:decide (20<(L.length:Int))
 ·have h20:L.length≤20:=by simp at c0;omega
  simp only[ae,↓Xn,↓Xo,↓Xg,↓Xd,↓Xe,↓Xf,Tryz.VΓ,Tryz.Γs,Xp,Xi,Nat.reduceAdd,Nat.reduceSub,Nat.reduceLT,Nat.reduceLeDiff,reduceIte,reduceCtorEq,Nat.reduceEqDiff,implies_true,forall_const,ad,av,beq_self_eq_true,bne_self_eq_false,Int.reduceBEq,Int.reduceBNe,Int.reduceLT,Int.reduceLE,c0,ho,dw]
  refine aL (fun σ=>∃ (i:Nat),lk 10 σ.t=some x∧lk 11 σ.t=some (.int .i64 L.length)∧lk 12 σ.t=some (.int .i64 i)∧i≤L.length∧Kp b σ.b) (fun σ=>L.length - ji 12 σ) ⟨0,rfl,rfl,rfl,by omega,(Kp.refl _).app _⟩ ?_
  rintro⟨t1,b1⟩ ⟨i,l10,l11,l12,hi,hk⟩
  simp only at l10 l11 l12 hk
  rw[az l12]
  by_cases c:i<L.length
  ·have ci:decide ((i:Int)<(L.length:Int))=true:=by simpa using c
   obtain⟨q,rfl,hq⟩:∃ q,x=.o q L.length∧b[q]? = some (.own (L.flatMap enc) 43 14 L.length m):=by
    rcases h with⟨rfl,h0⟩|h
    ·rw[h0]at c;simp at c
    ·exact h
   have ct:=hk.at hq
   have dD:=ir L i c
   have dP:(enc L[i]).length=14:=rfl
   have eo:(enc L[i]).take 14=enc L[i]:=List.take_of_length_le (by rw[dP];omega)
   have he:=bN _ (zMY c)
   have gP:(enc L[i]).all one=true:=by
    have:=he.one
    simp[enc,one]at this ⊢;exact this
   have g0:(enc L[i]).take 12=gi L[i].v:=rfl
   obtain⟨R,e2,e3,e4⟩:=he.tr
   simp only[ae,↓Xn,↓Xo,↓Xg,↓Xd,↓Xe,↓Xf,Tryz.VΓ,Tryz.Γs,Xp,Xi,Nat.reduceAdd,Nat.reduceSub,Nat.reduceLT,Nat.reduceLeDiff,reduceIte,reduceCtorEq,Nat.reduceEqDiff,implies_true,forall_const,ad,av,beq_self_eq_true,bne_self_eq_false,Int.reduceBEq,Int.reduceBNe,Int.reduceLT,Int.reduceLE,l10,l11,l12,ci,ct,dD,dP,eo,g0]
   refine⟨⟨by omega,by omega⟩,by rw[aM];omega,gP,aT (ra ((e2.kp hk).kp ((Kp.refl _).app _)) e3 e4 he.t1 he.t2) ?_⟩
   rintro z b2 ⟨B,rfl,fQ⟩
   have kF:Kp b b2:=(hk.app _).trans fQ
   cases B
   ·simp only[ae,↓Xn,↓Xo,↓Xg,↓Xd,↓Xe,↓Xf,Tryz.VΓ,Tryz.Γs,Xp,Xi,Nat.reduceAdd,Nat.reduceSub,Nat.reduceLT,Nat.reduceLeDiff,reduceIte,reduceCtorEq,Nat.reduceEqDiff,implies_true,forall_const,ad,av,beq_self_eq_true,bne_self_eq_false,Int.reduceBEq,Int.reduceBNe,Int.reduceLT,Int.reduceLE,l10,l11,l12]
    exact⟨false,rfl,fun _=>h20,kF⟩
   ·simp only[ae,↓Xn,↓Xo,↓Xg,↓Xd,↓Xe,↓Xf,Tryz.VΓ,Tryz.Γs,Xp,Xi,Nat.reduceAdd,Nat.reduceSub,Nat.reduceLT,Nat.reduceLeDiff,reduceIte,reduceCtorEq,Nat.reduceEqDiff,implies_true,forall_const,ad,av,beq_self_eq_true,bne_self_eq_false,Int.reduceBEq,Int.reduceBNe,Int.reduceLT,Int.reduceLE,l10,l11,l12]
    refine⟨by omega,⟨i+1,rfl,by omega,kF⟩,?_⟩
    rw[az (show lk 12 _=some (.int .i64 ((i+1:Nat):Int)) from rfl)];omega
  ·have ci:decide ((i:Int)<(L.length:Int))=false:=by simpa using c
   simp only[ae,↓Xn,↓Xo,↓Xg,↓Xd,↓Xe,↓Xf,Tryz.VΓ,Tryz.Γs,Xp,Xi,Nat.reduceAdd,Nat.reduceSub,Nat.reduceLT,Nat.reduceLeDiff,reduceIte,reduceCtorEq,Nat.reduceEqDiff,implies_true,forall_const,ad,av,beq_self_eq_true,bne_self_eq_false,Int.reduceBEq,Int.reduceBNe,Int.reduceLT,Int.reduceLE,l10,l11,l12,ci]
   exact⟨true,rfl,fun _=>h20,hk⟩
 ·simp only[ae,↓Xn,↓Xo,↓Xg,↓Xd,↓Xe,↓Xf,Tryz.VΓ,Tryz.Γs,Xp,Xi,Nat.reduceAdd,Nat.reduceSub,Nat.reduceLT,Nat.reduceLeDiff,reduceIte,reduceCtorEq,Nat.reduceEqDiff,implies_true,forall_const,ad,av,beq_self_eq_true,bne_self_eq_false,Int.reduceBEq,Int.reduceBNe,Int.reduceLT,Int.reduceLE,c0,ho,dw]
  exact⟨false,rfl,fun h=>(by cases h),(Kp.refl _).app _⟩
theorem tk {L:List En}{i j:Nat}(hi:i<L.length)(hj:j<14){X:SV}{e':En}(h:enc e'=(enc L[i]).set j X):(L.flatMap enc).take (i * 14+j)++X::(L.flatMap enc).drop (i * 14+j+1)=(L.set i e').flatMap enc:=by
 have hl:=aM L
 have h1:(L.flatMap enc).set (i * 14+j) X=(L.flatMap enc).take (i * 14+j)++X::(L.flatMap enc).drop (i * 14+j+1):=by
  rw[List.set_eq_take_append_cons_drop,if_pos (by omega)]
 rw[← h1,← EI L i e' hi]
 have h2:L.flatMap enc=(L.flatMap enc).take (i * 14)++(enc L[i]++(L.flatMap enc).drop (i * 14+14)):=by
  rw[← ir L i hi,← List.drop_drop,List.take_append_drop,List.take_append_drop]
 have hA:((L.flatMap enc).take (i * 14)).length=i * 14:=by rw[List.length_take];omega
 have hE:(enc L[i]).length=14:=rfl
 generalize (L.flatMap enc).drop (i * 14+14)=C at h2 ⊢
 generalize (L.flatMap enc).take (i * 14)=A at h2 hA ⊢
 rw[h2,List.set_append,if_neg (by omega),hA,Nat.add_sub_cancel_left,List.set_append,if_pos (by omega),h]
structure Yb (b0:List aw) (yb:Nat) (b:List aw) (cp:Int) (y:SV) (L:List En):Prop where
 kp:Kp b0 b
 c:b[yb]? = some (.cells [.int .i64 cp,y] 24 true)
 e:hU b y L true
 len:L.length≤5
 tr:∀ e∈L,e.v.tr=.aI∧(0≤e.stored∧e.stored<18446744073709551616)∧(0≤e.v.de∧e.v.de<18446744073709551616)
theorem yl (bs:List aw)(xe:SV)(j:Nat)(cap cp:Int)(L:List En)(S:List Int)(what n:Int)(m:Bool)(hq:hU bs xe L m)(bN:∀ e∈L,oj bs e)
 (hj:bs[j]? = some (.own (S.flatMap vT) 5 1 S.length false)) (hS:S.length≤9223372036854775807) (hr:∀ r∈S,0≤r∧r≤255) (hw:0≤what∧what≤255) (hn:0≤n∧n≤255) :
 SC Tryz.V 3 [.int .i64 cap,.agg [.int .i64 cp,xe],.o j S.length,.int .u8 what,.int .u8 n] bs (fun r _=>r=.bool true):=by
 have hqw:=hq.within
 have hqo:=hq.one
 have mG:=(zMX.1 hj).1
 refine cV 3000 Tryz.func3 rfl Tryz.ntmps3 Tryz.results3 Tryz.call3 (by simp) (ax bs.length _ (by simp[within,within.aS,hqw,mG])) ?_
 refine bc 2900 (fun σ=>lk 0 σ.t=some (.int .i64 cap)∧lk 2 σ.t=some (.o j S.length)∧lk 3 σ.t=some (.int .u8 what)∧lk 4 σ.t=some (.int .u8 n)∧lk 6 σ.t=some (.p bs.length 0)∧σ.b=bs++[.cells [.int .i64 cp,xe] 24 true]) ?_ (fun k' hk'=>?_)
 rotate_left
 ·simp only[ae,↓Xn,↓Xo,↓Xg,↓Xd,↓Xe,↓Xf,Tryz.VΓ,Tryz.Γs,Xp,Xi,Nat.reduceAdd,Nat.reduceSub,Nat.reduceLT,Nat.reduceLeDiff,reduceIte,reduceCtorEq,Nat.reduceEqDiff,implies_true,forall_const,ad,av,beq_self_eq_true,bne_self_eq_false,Int.reduceBEq,Int.reduceBNe,Int.reduceLT,Int.reduceLE,hqo]
  exact hk' _ _ ⟨rfl,rfl,rfl,rfl,rfl,rfl⟩
 rintro m1 ⟨t1,b1⟩ ⟨l0,l2,l3,l4,l6,rfl⟩
 simp only at l0 l2 l3 l4 l6
 refine bc 2800 (fun σ=>lk 0 σ.t=some (.int .i64 cap)∧lk 2 σ.t=some (.o j S.length)∧lk 3 σ.t=some (.int .u8 what)∧lk 4 σ.t=some (.int .u8 n)∧lk 6 σ.t=some (.p bs.length 0)∧σ.b=bs++[.cells [.int .i64 cp,xe] 24 true]) ?_ (fun k' hk'=>?_)
 rotate_left
 ·simp only[ae,↓Xn,↓Xo,↓Xg,↓Xd,↓Xe,↓Xf,Tryz.VΓ,Tryz.Γs,Xp,Xi,Nat.reduceAdd,Nat.reduceSub,Nat.reduceLT,Nat.reduceLeDiff,reduceIte,reduceCtorEq,Nat.reduceEqDiff,implies_true,forall_const,ad,av,beq_self_eq_true,bne_self_eq_false,Int.reduceBEq,Int.reduceBNe,Int.reduceLT,Int.reduceLE]
  refine aT sc_sane ?_
  rintro y b2 ⟨rfl,rfl⟩
  simp only[ae,↓Xn,↓Xo,↓Xg,↓Xd,↓Xe,↓Xf,Tryz.VΓ,Tryz.Γs,Xp,Xi,Nat.reduceAdd,Nat.reduceSub,Nat.reduceLT,Nat.reduceLeDiff,reduceIte,reduceCtorEq,Nat.reduceEqDiff,implies_true,forall_const,ad,av,beq_self_eq_true,bne_self_eq_false,Int.reduceBEq,Int.reduceBNe,Int.reduceLT,Int.reduceLE]
  exact hk' _ _ ⟨l0,l2,l3,l4,l6,rfl⟩
 clear l0 l2 l3 l4 l6
 rintro m2 ⟨t2,b2⟩ ⟨l0,l2,l3,l4,l6,rfl⟩
 simp only at l0 l2 l3 l4 l6
 have sW:Kp bs (bs++[.cells [.int .i64 cp,xe] 24 true]):=(Kp.refl _).app _
 refine bc 2700 (fun σ=>lk 0 σ.t=some (.int .i64 cap)∧lk 2 σ.t=some (.o j S.length)∧lk 3 σ.t=some (.int .u8 what)∧lk 4 σ.t=some (.int .u8 n)∧lk 6 σ.t=some (.p bs.length 0)∧Kp (bs++[.cells [.int .i64 cp,xe] 24 true]) σ.b∧L.length≤20) ?_ (fun k' hk'=>?_)
 rotate_left
 ·simp only[ae,↓Xn,↓Xo,↓Xg,↓Xd,↓Xe,↓Xf,Tryz.VΓ,Tryz.Γs,Xp,Xi,Nat.reduceAdd,Nat.reduceSub,Nat.reduceLT,Nat.reduceLeDiff,reduceIte,reduceCtorEq,Nat.reduceEqDiff,implies_true,forall_const,ad,av,beq_self_eq_true,bne_self_eq_false,Int.reduceBEq,Int.reduceBNe,Int.reduceLT,Int.reduceLE,l6,hqo]
  refine aT (sc_kept (hq.kp sW) (fun e he=>(bN e he).kp sW)) ?_
  rintro y b3 ⟨B,rfl,hB,hk⟩
  cases B
  ·simp only[ae,↓Xn,↓Xo,↓Xg,↓Xd,↓Xe,↓Xf,Tryz.VΓ,Tryz.Γs,Xp,Xi,Nat.reduceAdd,Nat.reduceSub,Nat.reduceLT,Nat.reduceLeDiff,reduceIte,reduceCtorEq,Nat.reduceEqDiff,implies_true,forall_const,ad,av,beq_self_eq_true,bne_self_eq_false,Int.reduceBEq,Int.reduceBNe,Int.reduceLT,Int.reduceLE]
  ·simp only[ae,↓Xn,↓Xo,↓Xg,↓Xd,↓Xe,↓Xf,Tryz.VΓ,Tryz.Γs,Xp,Xi,Nat.reduceAdd,Nat.reduceSub,Nat.reduceLT,Nat.reduceLeDiff,reduceIte,reduceCtorEq,Nat.reduceEqDiff,implies_true,forall_const,ad,av,beq_self_eq_true,bne_self_eq_false,Int.reduceBEq,Int.reduceBNe,Int.reduceLT,Int.reduceLE]
   exact hk' _ _ ⟨l0,l2,l3,l4,l6,hk,hB rfl⟩
 clear l0 l2 l3 l4 l6
 rintro m3 ⟨t3,b3⟩ ⟨l0,l2,l3,l4,l6,kF,hL20⟩
 simp only at l0 l2 l3 l4 l6 kF
 have p6:=kF.at ((jn bs _).trans rfl:(bs++[aw.cells [.int .i64 cp,xe] 24 true])[bs.length]? = some (.cells [.int .i64 cp,xe] 24 true))
 have lQ:=(hq.kp sW).kp kF
 have BC:=kF.at (af hj _)
 have sV:∀ e∈L,oj b3 e:=fun e he=>((bN e he).kp sW).kp kF
 clear kF sW hq hj bN
 obtain⟨a,e0,hnew1,hnew2⟩:∃ (a e0:Int),PC Tryz.V 10 [.int .i64 cap] (.eR [.agg [.int .i64 a,.aI],.int .i64 e0])∧PC Tryz.V 11 [.int .i64 cap] (.eR [.agg [.int .i64 a,.aI],.int .i64 e0]):=by
  have h1:=p_New cap
  have h2:=xi cap
  split at h1
  ·rename_i h;rw[if_pos h]at h2;exact⟨0,4,h1,h2⟩
  ·rename_i h;rw[if_neg h]at h2;exact⟨cap,0,h1,h2⟩
 refine bc 2600 (fun σ=>lk 0 σ.t=some (.int .i64 cap)∧lk 2 σ.t=some (.o j S.length)∧lk 3 σ.t=some (.int .u8 what)∧lk 4 σ.t=some (.int .u8 n)∧lk 6 σ.t=some (.p bs.length 0)∧lk 11 σ.t=some (.p b3.length 0)∧lk 12 σ.t=some (.int .i64 e0)∧σ.b=b3++[.cells [.int .i64 a,.aI] 24 true]) ?_ (fun k' hk'=>?_)
 rotate_left
 ·simp only[ae,↓Xn,↓Xo,↓Xg,↓Xd,↓Xe,↓Xf,Tryz.VΓ,Tryz.Γs,Xp,Xi,Nat.reduceAdd,Nat.reduceSub,Nat.reduceLT,Nat.reduceLeDiff,reduceIte,reduceCtorEq,Nat.reduceEqDiff,implies_true,forall_const,ad,av,beq_self_eq_true,bne_self_eq_false,Int.reduceBEq,Int.reduceBNe,Int.reduceLT,Int.reduceLE,l0]
  refine aa hnew1 ?_
  simp only[ae,↓Xn,↓Xo,↓Xg,↓Xd,↓Xe,↓Xf,Tryz.VΓ,Tryz.Γs,Xp,Xi,Nat.reduceAdd,Nat.reduceSub,Nat.reduceLT,Nat.reduceLeDiff,reduceIte,reduceCtorEq,Nat.reduceEqDiff,implies_true,forall_const,ad,av,beq_self_eq_true,bne_self_eq_false,Int.reduceBEq,Int.reduceBNe,Int.reduceLT,Int.reduceLE,l0]
  exact hk' _ _ ⟨l0,l2,l3,l4,l6,rfl,rfl,rfl⟩
 clear l0 l2 l3 l4 l6
 rintro m4 ⟨t4,b4⟩ ⟨l0,l2,l3,l4,l6,l11,l12,rfl⟩
 simp only at l0 l2 l3 l4 l6 l11 l12
 refine bc 2500 (fun σ=>lk 2 σ.t=some (.o j S.length)∧lk 3 σ.t=some (.int .u8 what)∧lk 4 σ.t=some (.int .u8 n)∧lk 6 σ.t=some (.p bs.length 0)∧lk 11 σ.t=some (.p b3.length 0)∧lk 12 σ.t=some (.int .i64 e0)∧lk 13 σ.t=some (.p (b3.length+1) 0)∧lk 14 σ.t=some (.int .i64 e0)∧σ.b=b3++[.cells [.int .i64 a,.aI] 24 true,.cells [.int .i64 a,.aI] 24 true]) ?_ (fun k' hk'=>?_)
 rotate_left
 ·simp only[ae,↓Xn,↓Xo,↓Xg,↓Xd,↓Xe,↓Xf,Tryz.VΓ,Tryz.Γs,Xp,Xi,Nat.reduceAdd,Nat.reduceSub,Nat.reduceLT,Nat.reduceLeDiff,reduceIte,reduceCtorEq,Nat.reduceEqDiff,implies_true,forall_const,ad,av,beq_self_eq_true,bne_self_eq_false,Int.reduceBEq,Int.reduceBNe,Int.reduceLT,Int.reduceLE,l0]
  refine aa hnew2 ?_
  simp only[ae,↓Xn,↓Xo,↓Xg,↓Xd,↓Xe,↓Xf,Tryz.VΓ,Tryz.Γs,Xp,Xi,Nat.reduceAdd,Nat.reduceSub,Nat.reduceLT,Nat.reduceLeDiff,reduceIte,reduceCtorEq,Nat.reduceEqDiff,implies_true,forall_const,ad,av,beq_self_eq_true,bne_self_eq_false,Int.reduceBEq,Int.reduceBNe,Int.reduceLT,Int.reduceLE,l0]
  exact hk' _ _ ⟨l2,l3,l4,l6,l11,l12,rfl,rfl,rfl⟩
 clear l0 l2 l3 l4 l6 l11 l12 hnew1 hnew2
 rintro m5 ⟨t5,b5⟩ ⟨l2,l3,l4,l6,l11,l12,l13,l14,hb5⟩
 simp only at l2 l3 l4 l6 l11 l12 l13 l14 hb5
 have wC:Kp b3 b5:=by rw[hb5];exact(Kp.refl _).app _
 have p11:b5[b3.length]? = some (.cells [.int .i64 a,.aI] 24 true):=by rw[hb5];exact(jn _ _).trans rfl
 have p13:b5[b3.length+1]? = some (.cells [.int .i64 a,.aI] 24 true):=by rw[hb5];exact bm rfl _ 1
 clear hb5
 replace p6:=wC.at p6
 replace lQ:=lQ.kp wC
 replace BC:=wC.at BC
 replace sV:∀ e∈L,oj b5 e:=fun e he=>(sV e he).kp wC
 clear wC
 generalize b3.length+1=i13 at l13 p13
 generalize b3.length=i11 at l11 p11
 generalize bs.length=i6 at l6 p6
 refine bc 2400 (fun σ=>lk 3 σ.t=some (.int .u8 what)∧lk 4 σ.t=some (.int .u8 n)∧lk 6 σ.t=some (.p i6 0)∧lk 11 σ.t=some (.p i11 0)∧lk 12 σ.t=some (.int .i64 e0)∧lk 13 σ.t=some (.p i13 0)∧lk 14 σ.t=some (.int .i64 e0)∧Kp b5 σ.b∧∃ c cx x M mx now,lk 15 σ.t=some (.p c 0)∧Mb σ.b c cx x M mx now) ?_ (fun k' hk'=>?_)
 rotate_left
 ·simp only[ae,↓Xn,↓Xo,↓Xg,↓Xd,↓Xe,↓Xf,Tryz.VΓ,Tryz.Γs,Xp,Xi,Nat.reduceAdd,Nat.reduceSub,Nat.reduceLT,Nat.reduceLeDiff,reduceIte,reduceCtorEq,Nat.reduceEqDiff,implies_true,forall_const,ad,av,beq_self_eq_true,bne_self_eq_false,Int.reduceBEq,Int.reduceBNe,Int.reduceLT,Int.reduceLE,l2]
  refine aT (sc_made BC hr hS) ?_
  rintro y b6 ⟨cx,x,M,mx,now,rfl,hk,hE,hM,Ia,hm⟩
  have ho:=hE.one
  simp only[ae,↓Xn,↓Xo,↓Xg,↓Xd,↓Xe,↓Xf,Tryz.VΓ,Tryz.Γs,Xp,Xi,Nat.reduceAdd,Nat.reduceSub,Nat.reduceLT,Nat.reduceLeDiff,reduceIte,reduceCtorEq,Nat.reduceEqDiff,implies_true,forall_const,ad,av,beq_self_eq_true,bne_self_eq_false,Int.reduceBEq,Int.reduceBNe,Int.reduceLT,Int.reduceLE,l2,ho]
  exact hk' _ _ ⟨l3,l4,l6,l11,l12,l13,l14,hk.app _,_,cx,x,M,mx,now,rfl,(jn _ _).trans rfl,hE.kp ((Kp.refl _).app _),hM,Ia,hm⟩
 clear l2 l3 l4 l6 l11 l12 l13 l14
 rintro m6 ⟨t6,b6⟩ ⟨l3,l4,l6,l11,l12,l13,l14,sB,c,cx,x,M,mx,now,l15,hB⟩
 simp only at l3 l4 l6 l11 l12 l13 l14 l15 sB hB
 replace p6:=sB.at p6
 replace p11:=sB.at p11
 replace p13:=sB.at p13
 replace lQ:=lQ.kp sB
 replace sV:∀ e∈L,oj b6 e:=fun e he=>(sV e he).kp sB
 clear sB BC
 have Ia:=hB.M.hn
 have hnow2:=hB.n
 have hMtr:∀ e∈M,e.v.tr=.aI∧(0≤e.stored∧e.stored<18446744073709551616)∧(0≤e.v.de∧e.v.de<18446744073709551616):=fun e he=>by
  obtain⟨nn,s,t,-,h1,h2,h3,h4,rfl⟩:=hB.M.me e he
  exact⟨rfl,⟨h3,by show t<18446744073709551616;omega⟩,by show 0≤s;omega,by show s<18446744073709551616;omega⟩
 refine bc 2300 (fun σ=>lk 3 σ.t=some (.int .u8 what)∧lk 4 σ.t=some (.int .u8 n)∧lk 6 σ.t=some (.p i6 0)∧lk 11 σ.t=some (.p i11 0)∧lk 12 σ.t=some (.int .i64 e0)∧lk 13 σ.t=some (.p i13 0)∧lk 14 σ.t=some (.int .i64 e0)∧lk 15 σ.t=some (.p c 0)∧∃ yb y,lk 17 σ.t=some (.p yb 0)∧b6.length≤yb∧Yb b6 yb σ.b cx y M∧∀ q n,y=.o q n→b6.length≤q) ?_ (fun k' hk'=>?_)
 rotate_left
 ·have pc:=hB.c
  have ho:=hB.e.one
  have hsm:=hB.M.small
  have h1M:=zh hB.M.hT
  by_cases h0:M.length=0
  ·have hM0:M=[]:=List.length_eq_zero_iff.1 h0
   subst hM0
   have e1:x=.aI∨∃ qx,x=.o qx 0∧b6[qx]? = some (.own [] 43 14 0 mx):=by
    rcases hB.e with⟨h,-⟩|⟨qx,h1,h2⟩
    ·exact .inl h
    ·exact .inr ⟨qx,h1,h2⟩
   have eg:c<b6.length:=(zMX.1 pc).1
   have f1:¬ b6.length=c:=by omega
   have f2:¬ b6.length+1=c:=by omega
   have kW:b6.length≤b6.length+1∧Yb b6 (b6.length+1) (b6++[.own [] 43 14 0 true,.cells [.int .i64 cx,.o b6.length 0] 24 true]) cx (.o b6.length 0) []∧∀ q n,SV.o b6.length 0=.o q n→b6.length≤q :=
    ⟨by omega,⟨(Kp.refl _).app _,bm rfl _ 1,.inr ⟨_,rfl,(jn _ _).trans rfl⟩,by simp,fun e he=>(by cases he)⟩,fun q n h=>by cases h;omega⟩
   rcases e1 with rfl|⟨qx,rfl,hqx⟩
   ·simp only[ae,↓Xn,↓Xo,↓Xg,↓Xd,↓Xe,↓Xf,Tryz.VΓ,Tryz.Γs,Xp,Xi,Nat.reduceAdd,Nat.reduceSub,Nat.reduceLT,Nat.reduceLeDiff,reduceIte,reduceCtorEq,Nat.reduceEqDiff,implies_true,forall_const,ad,av,beq_self_eq_true,bne_self_eq_false,Int.reduceBEq,Int.reduceBNe,Int.reduceLT,Int.reduceLE,l15,pc]
    refine⟨⟨by decide,by decide⟩,(by
     refine dm (fun n=>if n=c then 0 else 1) ?_
     simp only[zMZ,zM1,dW,iE,reduceIte,f1,f2]
     exact aj (by kernel_rfl)),?_⟩
    exact hk' _ _ ⟨l3,l4,l6,l11,l12,l13,l14,l15,_,_,rfl,kW.1,kW.2⟩
   ·have f3:¬ qx=c:=by rintro rfl;rw[pc]at hqx;cases hqx
    simp only[ae,↓Xn,↓Xo,↓Xg,↓Xd,↓Xe,↓Xf,Tryz.VΓ,Tryz.Γs,Xp,Xi,Nat.reduceAdd,Nat.reduceSub,Nat.reduceLT,Nat.reduceLeDiff,reduceIte,reduceCtorEq,Nat.reduceEqDiff,implies_true,forall_const,ad,av,beq_self_eq_true,bne_self_eq_false,Int.reduceBEq,Int.reduceBNe,Int.reduceLT,Int.reduceLE,l15,pc,hqx]
    refine⟨⟨by decide,by decide⟩,(by
     refine dm (fun n=>if n=c then 0 else 1) ?_
     simp only[zMZ,zM1,dW,iE,reduceIte,f1,f2,f3]
     exact aj (by kernel_rfl)),?_⟩
    exact hk' _ _ ⟨l3,l4,l6,l11,l12,l13,l14,l15,_,_,rfl,kW.1,kW.2⟩
  ·obtain⟨qx,rfl,hqx⟩:∃ qx,x=.o qx M.length∧b6[qx]? = some (.own (M.flatMap enc) 43 14 M.length mx):=by
    rcases hB.e with⟨-,h⟩|h
    ·rw[h]at h0;simp at h0
    ·exact h
   have eg:c<b6.length:=(zMX.1 pc).1
   have f1:¬ b6.length=c:=by omega
   have f2:¬ b6.length+1=c:=by omega
   have f3:¬ qx=c:=by rintro rfl;rw[pc]at hqx;cases hqx
   simp only[ae,↓Xn,↓Xo,↓Xg,↓Xd,↓Xe,↓Xf,Tryz.VΓ,Tryz.Γs,Xp,Xi,Nat.reduceAdd,Nat.reduceSub,Nat.reduceLT,Nat.reduceLeDiff,reduceIte,reduceCtorEq,Nat.reduceEqDiff,implies_true,forall_const,ad,av,beq_self_eq_true,bne_self_eq_false,Int.reduceBEq,Int.reduceBNe,Int.reduceLT,Int.reduceLE,l15,pc,hqx]
   refine⟨⟨h1M,by unfold maxLen;omega,by omega⟩,(by
    refine dm (fun n=>if n=c then 0 else 1) ?_
    simp only[zMZ,zM1,dW,iE,reduceIte,f1,f2,f3]
    exact aj (by kernel_rfl)),?_⟩
   exact hk' _ _ ⟨l3,l4,l6,l11,l12,l13,l14,l15,_,_,rfl,by omega,⟨(Kp.refl _).app _,bm rfl _ 1,.inr ⟨_,rfl,(jn _ _).trans rfl⟩,hsm,hMtr⟩,fun q n h=>by cases h;omega⟩
 clear l3 l4 l6 l11 l12 l13 l14 l15
 rintro m7 ⟨t7,b7⟩ ⟨l3,l4,l6,l11,l12,l13,l14,l15,yb,y,l17,hyb,hY,hyq⟩
 simp only at l3 l4 l6 l11 l12 l13 l14 l15 l17 hY
 have hoy:=hY.e.one
 have hly:=hY.e.len
 have py:=hY.c
 refine bc 2100 (fun σ=>lk 6 σ.t=some (.p i6 0)∧lk 11 σ.t=some (.p i11 0)∧lk 12 σ.t=some (.int .i64 e0)∧lk 13 σ.t=some (.p i13 0)∧lk 14 σ.t=some (.int .i64 e0)∧lk 15 σ.t=some (.p c 0)∧lk 17 σ.t=some (.p yb 0)∧∃ cx' M',Yb b6 yb σ.b cx' y M') ?_ (fun k' hk'=>?_)
 rotate_left
 ·by_cases h0:0<M.length
  ·have fG:decide (0<(M.length:Int))=true:=by simpa using h0
   obtain⟨nn,rfl⟩:∃ nn:Nat,n=(nn:Int):=⟨n.toNat,by omega⟩
   obtain⟨i,hi⟩:∃ i,i=nn % M.length:=⟨_,rfl⟩
   have eF:i<M.length:=by rw[hi];exact Nat.mod_lt _ h0
   have Bs:rN .rem .i64 (nn:Int) (M.length:Int)=(i:Int):=by
    have:rN .rem .i64 (nn:Int) (M.length:Int)=(nn:Int) % (M.length:Int):=Int.tmod_eq_emod_of_nonneg (a:=(nn:Int)) (b:=(M.length:Int)) (by omega)
    rw[this,hi];simp
   have hw0:=i64k (n:=(nn:Int)) (by omega) (by omega)
   have Ep:rN .rem .u8 what 6=what % 6:=Int.tmod_eq_emod_of_nonneg (a:=what) (b:=6) hw.1
   obtain⟨r,hrr⟩:∃ r,r=what % 6:=⟨_,rfl⟩
   have hr6:r=0∨r=1∨r=2∨r=3∨r=4∨r=5:=by omega
   rw[← hrr]at Ep
   obtain⟨qy,rfl,hqy⟩:∃ qy,y=.o qy M.length∧b7[qy]? = some (.own (M.flatMap enc) 43 14 M.length true):=by
    rcases hY.e with⟨-,h⟩|h
    ·rw[h]at h0;simp at h0
    ·exact h
   have jN:=aM M
   have wy:=hyq _ _ rfl
   have hyne:¬ qy=yb:=by rintro rfl;rw[py]at hqy;cases hqy
   have f1:¬ qy=yb:=hyne
   have hMs:=hY.len
   have eV:∀ (e':En),e'.v.tr=.aI→(0≤e'.stored∧e'.stored<18446744073709551616)→(0≤e'.v.de∧e'.v.de<18446744073709551616)→Yb b6 yb (b7.set qy (.own ((M.set i e').flatMap enc) 43 14 M.length true)) cx (.o qy M.length) (M.set i e'):=fun e' h1 h2 h3=>by
    refine⟨hY.kp.set wy _,aH py hyne _,.inr ⟨qy,by rw[List.length_set],by rw[List.length_set];exact zM3 (zMX.1 hqy).1⟩,by rw[List.length_set];exact hMs,fun e he=>?_⟩
    rcases List.mem_or_eq_of_mem_set he with he|rfl
    ·exact hY.tr e he
    ·exact⟨h1,h2,h3⟩
   have iS:=hY.tr _ (zMY eF)
   rcases hr6 with rfl|rfl|rfl|rfl|rfl|rfl
   ·have g1:(M.flatMap enc)[i * 14+13]? = some (.int .u64 M[i].aU):=(fX M i eF 13 (by omega)).trans rfl
    obtain⟨e',he'⟩:∃ e':En,e'={ M[i] with aU:=IntKind.u64.wrap (M[i].aU+1) }:=⟨_,rfl⟩
    have hs:=tk eF (j:=13) (by omega) (X:=.int .u64 (IntKind.u64.wrap (M[i].aU+1))) (e':=e') (by rw[he'];rfl)
    simp only[ae,↓Xn,↓Xo,↓Xg,↓Xd,↓Xe,↓Xf,Tryz.VΓ,Tryz.Γs,Xp,Xi,Nat.reduceAdd,Nat.reduceSub,Nat.reduceLT,Nat.reduceLeDiff,reduceIte,reduceCtorEq,Nat.reduceEqDiff,implies_true,forall_const,ad,av,beq_self_eq_true,bne_self_eq_false,Int.reduceBEq,Int.reduceBNe,Int.reduceLT,Int.reduceLE,l3,l4,l17,py,hly,hoy,fG,hw0,Ep,Bs,hqy,g1]
    refine⟨by omega,⟨by omega,by omega⟩,(by
     refine dm (fun n=>if n=yb then 0 else 1) ?_
     simp only[zMZ,zM1,dW,iE,reduceIte,f1]
     exact aj (by kernel_rfl)),by decide,by rw[jN];omega,by rw[jN];omega,?_⟩
    exact hk' _ _ ⟨l6,l11,l12,l13,l14,l15,l17,cx,_,by have:=eV e' (by rw[he'];exact iS.1) (by rw[he'];exact iS.2.1) (by rw[he'];exact iS.2.2);rw[← hs]at this;exact this⟩
   ·obtain⟨e',he'⟩:∃ e':En,e'={ M[i] with v:={ M[i].v with err:=301 } }:=⟨_,rfl⟩
    have hs:=tk eF (j:=0) (by omega) (X:=.int .i64 301) (e':=e') (by rw[he'];rfl)
    simp only[ae,↓Xn,↓Xo,↓Xg,↓Xd,↓Xe,↓Xf,Tryz.VΓ,Tryz.Γs,Xp,Xi,Nat.reduceAdd,Nat.reduceSub,Nat.reduceLT,Nat.reduceLeDiff,reduceIte,reduceCtorEq,Nat.reduceEqDiff,implies_true,forall_const,ad,av,beq_self_eq_true,bne_self_eq_false,Int.reduceBEq,Int.reduceBNe,Int.reduceLT,Int.reduceLE,l3,l4,l17,py,hly,hoy,fG,hw0,Ep,Bs,hqy]
    refine⟨by omega,⟨by omega,by omega⟩,(by
     refine dm (fun n=>if n=yb then 0 else 1) ?_
     simp only[zMZ,zM1,dW,iE,reduceIte,f1]
     exact aj (by kernel_rfl)),by decide,by rw[jN];omega,?_⟩
    exact hk' _ _ ⟨l6,l11,l12,l13,l14,l15,l17,cx,_,by have:=eV e' (by rw[he'];exact iS.1) (by rw[he'];exact iS.2.1) (by rw[he'];exact iS.2.2);rw[← hs]at this;exact this⟩
   ·obtain⟨e',he'⟩:∃ e':En,e'={ M[i] with v:={ M[i].v with id:={ M[i].v.id with text:=([97,99,99,116,58,122,122,64,97,46,101,120,97,109,112,108,101]:List UInt8) } } }:=⟨_,rfl⟩
    have hs:=tk eF (j:=2) (by omega) (X:=.str ([97,99,99,116,58,122,122,64,97,46,101,120,97,109,112,108,101]:List UInt8)) (e':=e') (by rw[he'];rfl)
    simp only[ae,↓Xn,↓Xo,↓Xg,↓Xd,↓Xe,↓Xf,Tryz.VΓ,Tryz.Γs,Xp,Xi,Nat.reduceAdd,Nat.reduceSub,Nat.reduceLT,Nat.reduceLeDiff,reduceIte,reduceCtorEq,Nat.reduceEqDiff,implies_true,forall_const,ad,av,beq_self_eq_true,bne_self_eq_false,Int.reduceBEq,Int.reduceBNe,Int.reduceLT,Int.reduceLE,l3,l4,l17,py,hly,hoy,fG,hw0,Ep,Bs,hqy]
    refine⟨by omega,⟨by omega,by omega⟩,(by
     refine dm (fun n=>if n=yb then 0 else 1) ?_
     simp only[zMZ,zM1,dW,iE,reduceIte,f1]
     exact aj (by kernel_rfl)),by decide,by rw[jN];omega,?_⟩
    exact hk' _ _ ⟨l6,l11,l12,l13,l14,l15,l17,cx,_,by have:=eV e' (by rw[he'];exact iS.1) (by rw[he'];exact iS.2.1) (by rw[he'];exact iS.2.2);rw[← hs]at this;exact this⟩
   ·obtain⟨e',he'⟩:∃ e':En,e'={ M[i] with v:={ M[i].v with de:=0 } }:=⟨_,rfl⟩
    have hs:=tk eF (j:=10) (by omega) (X:=.int .u64 0) (e':=e') (by rw[he'];rfl)
    simp only[ae,↓Xn,↓Xo,↓Xg,↓Xd,↓Xe,↓Xf,Tryz.VΓ,Tryz.Γs,Xp,Xi,Nat.reduceAdd,Nat.reduceSub,Nat.reduceLT,Nat.reduceLeDiff,reduceIte,reduceCtorEq,Nat.reduceEqDiff,implies_true,forall_const,ad,av,beq_self_eq_true,bne_self_eq_false,Int.reduceBEq,Int.reduceBNe,Int.reduceLT,Int.reduceLE,l3,l4,l17,py,hly,hoy,fG,hw0,Ep,Bs,hqy]
    refine⟨by omega,⟨by omega,by omega⟩,(by
     refine dm (fun n=>if n=yb then 0 else 1) ?_
     simp only[zMZ,zM1,dW,iE,reduceIte,f1]
     exact aj (by kernel_rfl)),by decide,by rw[jN];omega,?_⟩
    exact hk' _ _ ⟨l6,l11,l12,l13,l14,l15,l17,cx,_,by have:=eV e' (by rw[he'];exact iS.1) (by rw[he'];exact iS.2.1) (by rw[he'];exact⟨Int.le_refl 0,by show (0:Int)<18446744073709551616;decide⟩);rw[← hs]at this;exact this⟩
   ·simp only[ae,↓Xn,↓Xo,↓Xg,↓Xd,↓Xe,↓Xf,Tryz.VΓ,Tryz.Γs,Xp,Xi,Nat.reduceAdd,Nat.reduceSub,Nat.reduceLT,Nat.reduceLeDiff,reduceIte,reduceCtorEq,Nat.reduceEqDiff,implies_true,forall_const,ad,av,beq_self_eq_true,bne_self_eq_false,Int.reduceBEq,Int.reduceBNe,Int.reduceLT,Int.reduceLE,l3,l4,l17,py,hly,hoy,fG,hw0,Ep,Bs,hqy]
    refine⟨by omega,⟨by omega,by omega⟩,(by
     refine dm (fun n=>if n=yb then 0 else 1) ?_
     simp only[zMZ,zM1,dW,iE,reduceIte,f1]
     exact aj (by kernel_rfl)),by decide,⟨by omega,by omega⟩,?_⟩
    exact hk' _ _ ⟨l6,l11,l12,l13,l14,l15,l17,(M.length:Int) - 1,M,⟨hY.kp.set hyb _,zM3 (zMX.1 py).1,.inr ⟨qy,rfl,aH hqy (Ne.symm hyne) _⟩,hMs,hY.tr⟩⟩
   ·simp only[ae,↓Xn,↓Xo,↓Xg,↓Xd,↓Xe,↓Xf,Tryz.VΓ,Tryz.Γs,Xp,Xi,Nat.reduceAdd,Nat.reduceSub,Nat.reduceLT,Nat.reduceLeDiff,reduceIte,reduceCtorEq,Nat.reduceEqDiff,implies_true,forall_const,ad,av,beq_self_eq_true,bne_self_eq_false,Int.reduceBEq,Int.reduceBNe,Int.reduceLT,Int.reduceLE,l3,l4,l17,py,hly,hoy,fG,hw0,Ep,Bs,hqy]
    refine⟨by omega,⟨by omega,by omega⟩,(by
     refine dm (fun n=>if n=yb then 0 else 1) ?_
     simp only[zMZ,zM1,dW,iE,reduceIte,f1]
     exact aj (by kernel_rfl)),by decide,?_⟩
    exact hk' _ _ ⟨l6,l11,l12,l13,l14,l15,l17,cx,M,hY⟩
  ·have fG:decide (0<(M.length:Int))=false:=decide_eq_false (by omega)
   simp only[ae,↓Xn,↓Xo,↓Xg,↓Xd,↓Xe,↓Xf,Tryz.VΓ,Tryz.Γs,Xp,Xi,Nat.reduceAdd,Nat.reduceSub,Nat.reduceLT,Nat.reduceLeDiff,reduceIte,reduceCtorEq,Nat.reduceEqDiff,implies_true,forall_const,ad,av,beq_self_eq_true,bne_self_eq_false,Int.reduceBEq,Int.reduceBNe,Int.reduceLT,Int.reduceLE,l17,py,hly,hoy,fG]
   exact hk' _ _ ⟨l6,l11,l12,l13,l14,l15,l17,cx,M,hY⟩
 clear l3 l4 l6 l11 l12 l13 l14 l15 l17
 rintro m9 ⟨t9,b9⟩ ⟨l6,l11,l12,l13,l14,l15,l17,cy,N,hZ⟩
 simp only at l6 l11 l12 l13 l14 l15 l17 hZ
 have hk9:=hZ.kp
 replace p6:=hk9.at p6
 replace p11:=hk9.at p11
 replace p13:=hk9.at p13
 replace lQ:=lQ.kp hk9
 replace sV:∀ e∈L,oj b9 e:=fun e he=>(sV e he).kp hk9
 replace hB:=hB.kp hk9
 have pz:=hZ.c
 have pc:=hB.c
 have hoz:=hZ.e.one
 have wA:=hB.e.one
 have hee:(e0==e0)=true:=by simp
 have hsm:=hB.M.small
 have Co:=hZ.len
 have hE3:=lQ
 have HX:=Ah (b:=b9) (cp:=a) (L:=[]) (M:=[]) (m:=true) (m':=true) (.inl ⟨rfl,rfl⟩) (.inl ⟨rfl,rfl⟩) (by simp) rfl (fun e he=>by cases he) (fun e he=>by cases he) (fun i hi=>absurd hi (by simp))
 have Cr:=pI (cp:=cp) hE3 (by omega) (fun e he=>⟨(sV e he).one,(sV e he).within⟩)
 have fT:=pE (cp:=cp) hE3 (by omega) (fun e he=>⟨(sV e he).one,(sV e he).within⟩) (fun e he=>⟨(sV e he).st,(sV e he).se⟩)
 have hs3:=pI (cp:=cx) hB.e (by omega) (fun e he=>by rw[hB.M.hT e he];exact⟨rfl,rfl⟩)
 rw[Aa (by have:=hB.M.hc;omega) hB.M.len hB.M.asc hB.M.sd]at hs3
 have hs4:=pI (cp:=cy) hZ.e (by omega) (fun e he=>by rw[(hZ.tr e he).1];exact⟨rfl,rfl⟩)
 have hs5:=pE (cp:=cy) hZ.e (by omega) (fun e he=>by rw[(hZ.tr e he).1];exact⟨rfl,rfl⟩) (fun e he=>(hZ.tr e he).2)
 generalize dv cp L=B1 at Cr fT
 generalize dv cy N=B2 at hs4 hs5
 have kG:(B1==B1)=true:=by simp
 have oA:(B2==B2)=true:=by simp
 simp only[ae,↓Xn,↓Xo,↓Xg,↓Xd,↓Xe,↓Xf,Tryz.VΓ,Tryz.Γs,Xp,Xi,Nat.reduceAdd,Nat.reduceSub,Nat.reduceLT,Nat.reduceLeDiff,reduceIte,reduceCtorEq,Nat.reduceEqDiff,implies_true,forall_const,ad,av,beq_self_eq_true,bne_self_eq_false,Int.reduceBEq,Int.reduceBNe,Int.reduceLT,Int.reduceLE,l6,l11,l12,l13,l14,l15,l17,p6,p11,p13,pc,pz,hoz,wA,hqo,hee]
 refine bn [] HX (fun _ _ _=>rfl) ?_
 simp only[ae,↓Xn,↓Xo,↓Xg,↓Xd,↓Xe,↓Xf,Tryz.VΓ,Tryz.Γs,Xp,Xi,Nat.reduceAdd,Nat.reduceSub,Nat.reduceLT,Nat.reduceLeDiff,reduceIte,reduceCtorEq,Nat.reduceEqDiff,implies_true,forall_const,ad,av,beq_self_eq_true,bne_self_eq_false,Int.reduceBEq,Int.reduceBNe,Int.reduceLT,Int.reduceLE,l6,l11,l12,l13,l14,l15,l17,p6,p11,p13,pc,pz,hoz,wA,hqo,hee]
 refine bn [] Cr (fun _ _ _=>rfl) ?_
 simp only[ae,↓Xn,↓Xo,↓Xg,↓Xd,↓Xe,↓Xf,Tryz.VΓ,Tryz.Γs,Xp,Xi,Nat.reduceAdd,Nat.reduceSub,Nat.reduceLT,Nat.reduceLeDiff,reduceIte,reduceCtorEq,Nat.reduceEqDiff,implies_true,forall_const,ad,av,beq_self_eq_true,bne_self_eq_false,Int.reduceBEq,Int.reduceBNe,Int.reduceLT,Int.reduceLE,l6,l11,l12,l13,l14,l15,l17,p6,p11,p13,pc,pz,hoz,wA,hqo,hee]
 refine bn [] fT (fun _ _ _=>rfl) ?_
 simp only[ae,↓Xn,↓Xo,↓Xg,↓Xd,↓Xe,↓Xf,Tryz.VΓ,Tryz.Γs,Xp,Xi,Nat.reduceAdd,Nat.reduceSub,Nat.reduceLT,Nat.reduceLeDiff,reduceIte,reduceCtorEq,Nat.reduceEqDiff,implies_true,forall_const,ad,av,beq_self_eq_true,bne_self_eq_false,Int.reduceBEq,Int.reduceBNe,Int.reduceLT,Int.reduceLE,l6,l11,l12,l13,l14,l15,l17,p6,p11,p13,pc,pz,hoz,wA,hqo,hee,kG]
 refine bn [] hs3 (fun _ _ _=>rfl) ?_
 simp only[ae,↓Xn,↓Xo,↓Xg,↓Xd,↓Xe,↓Xf,Tryz.VΓ,Tryz.Γs,Xp,Xi,Nat.reduceAdd,Nat.reduceSub,Nat.reduceLT,Nat.reduceLeDiff,reduceIte,reduceCtorEq,Nat.reduceEqDiff,implies_true,forall_const,ad,av,beq_self_eq_true,bne_self_eq_false,Int.reduceBEq,Int.reduceBNe,Int.reduceLT,Int.reduceLE,l6,l11,l12,l13,l14,l15,l17,p6,p11,p13,pc,pz,hoz,wA,hqo,hee,kG]
 refine bn [] hs4 (fun _ _ _=>rfl) ?_
 simp only[ae,↓Xn,↓Xo,↓Xg,↓Xd,↓Xe,↓Xf,Tryz.VΓ,Tryz.Γs,Xp,Xi,Nat.reduceAdd,Nat.reduceSub,Nat.reduceLT,Nat.reduceLeDiff,reduceIte,reduceCtorEq,Nat.reduceEqDiff,implies_true,forall_const,ad,av,beq_self_eq_true,bne_self_eq_false,Int.reduceBEq,Int.reduceBNe,Int.reduceLT,Int.reduceLE,l6,l11,l12,l13,l14,l15,l17,p6,p11,p13,pc,pz,hoz,wA,hqo,hee,kG]
 refine bn [] hs5 (fun _ _ _=>rfl) ?_
 simp only[ae,↓Xn,↓Xo,↓Xg,↓Xd,↓Xe,↓Xf,Tryz.VΓ,Tryz.Γs,Xp,Xi,Nat.reduceAdd,Nat.reduceSub,Nat.reduceLT,Nat.reduceLeDiff,reduceIte,reduceCtorEq,Nat.reduceEqDiff,implies_true,forall_const,ad,av,beq_self_eq_true,bne_self_eq_false,Int.reduceBEq,Int.reduceBNe,Int.reduceLT,Int.reduceLE,l6,l11,l12,l13,l14,l15,l17,p6,p11,p13,pc,pz,hoz,wA,hqo,hee,kG,oA]
 exact aj (by kernel_rfl)
open Go.ChangeShapes Go.WideShapes Go.ChangeAt
open Go.WideMaps Go.WideElems
section
variable {H:Type} {enc':TypeId × Value→H} {w:World} {held:Bool}
abbrev bsL (l:List (Bt × aw)):List aw:=l.map (·.2)
def wL (t:TypeId)(d:DataW H):Prop:=∀ k∈d.weights Tryz.prog t,k≤reachBytes
theorem wL.elem {t e:TypeId}(ht:Tryz.prog.underlying t=some (.slice e)){L sp:List (DataW H)}(h:wL t (.slice L sp)):∀ d∈L,wL e d:=fun d hd k hk=>h k (by
 simp only[DataW.weights,ht,List.mem_cons,List.mem_append]
 right;left
 clear h
 induction L with
 | nil=>cases hd
 | cons q L ih =>
   simp only[DataW.weightsAll,List.mem_append]
   rcases List.mem_cons.1 hd with rfl|hd
   ·exact .inl hk
   ·exact .inr (ih hd))
theorem wL.len {t e:TypeId}(ht:Tryz.prog.underlying t=some (.slice e))(he:0<Tryz.prog.bytesOf e){ρ:Type}{L:List ρ}{d:DataW H}(h:wL t d)(hL:L=[]∨∃ Le sp,d=.slice Le sp∧Le.length=L.length):L.length≤140737488355328:=by
 rcases hL with rfl|⟨Le,sp,rfl,hl⟩
 ·simp
 ·have h1:=h ((Le.length+sp.length) * Tryz.prog.bytesOf e) (by simp[DataW.weights,ht])
  have h2:(Le.length+sp.length) * 1≤(Le.length+sp.length) * Tryz.prog.bytesOf e:=Nat.mul_le_mul_left _ he
  have h3:reachBytes≤140737488355328:=by decide
  omega
theorem wL.field {t u:TypeId}{fs:Array Field}(ht:Tryz.prog.underlying t=some (.struct fs)){parts:List (DataW H)}(h:wL t (.agg parts)){j:Nat}{d:DataW H}(hj:(fs.toList.map (·.type))[j]? = some u)(hd:parts[j]? = some d):wL u d:=fun k hk=>h k (vK ht hj hd hk)
theorem wL.str {s:List UInt8}{t:TypeId}(h:wL (H:=H) t (.lit (.string s))):s.length≤140737488355328:=Nat.le_trans (h _ (by simp[DataW.weights])) (by decide)
theorem bsL_kp (l m:List (Bt × aw)):Kp (bsL l) (bsL (l++m)):=by
 unfold bsL;rw[List.map_append];exact(Kp.refl _).app _
theorem Da {l:List (Bt × aw)}(hl:gz w l){c:Value}{x:DataW H × List MemPlace}{M:Nat}(h:DataW.trod enc' Tryz.prog w 0 (fun _=>true) held M 39 [c]=some x)(hW:wL 39 x.1) :
 ∃ ls y R,gz w (l++ls)∧(∀ β,Ext β (l++ls)→c=ah β y)∧Gc (bsL (l++ls)) y R∧R.length≤9223372036854775807∧∀ x∈R,DR x:=by
 obtain⟨ls,y,R,g1,g2,g3,g4,g5,-⟩:=uj (ρ:=Xc) xc (fun _ r=>DR r) (fun _ _ _ h=>h) (s:=9) (m:=M) (by omega) Tryz.underlying39 (by kernel_rfl) (wL 93) (fun l hl cs x hx hw=>by
  obtain⟨a0,a1,a2,a3,a4,a5,a6,a7,a8,rfl,rfl,-⟩:=trod_93 hx
  have f:=hw.field Tryz.underlying93 (j:=0) rfl rfl
  exact⟨[],⟨a0,a1,a2,a3,a4,a5,a6,a7,a8⟩,by rw[List.append_nil];exact hl,fun β _=>by simp[ah,xc],⟨(f.field Tryz.underlying91 (j:=0) rfl rfl).str,(f.field Tryz.underlying91 (j:=2) rfl rfl).str,(f.field Tryz.underlying91 (j:=3) rfl rfl).str,(f.field Tryz.underlying91 (j:=4) rfl rfl).str⟩⟩) hl (Nat.le_succ M) h (fun L sp e=>by rw[e]at hW;exact hW.elem Tryz.underlying39)
 refine⟨ls,y,R,g1,g3,?_,g2,g5⟩
 rcases g4 with g4|⟨i,h1,h2⟩
 ·exact .inl g4
 ·exact .inr ⟨i,false,h1,h2⟩
theorem u64wf {a:Int}(h:(Lit.int .u64 a).wf=true):0≤a∧a<18446744073709551616:=by
 have:IntKind.min .u64≤a∧a≤IntKind.max .u64:=by simpa[Lit.wf] using h
 simp[IntKind.min,IntKind.max,IntKind.signed,IntKind.bits]at this
 omega
theorem Db {M:Nat}{l:List (Bt × aw)}(hl:gz w l)(cs:List Value)(x:DataW H × List MemPlace)(h:DataW.trod enc' Tryz.prog w 0 (fun _=>true) held M 43 cs=some x)(hW:wL 43 x.1) :
 ∃ (ls:List (Bt × aw)) (e:En),gz w (l++ls)∧(∀ β,Ext β (l++ls)→cs=(enc e).map (ah β))∧oj (bsL (l++ls)) e:=by
 obtain⟨xs,n,rfl,rfl,hlen,zz,hf⟩:=DataW.trod_struct Tryz.underlying43 h
 have hC:Tryz.prog.cellsOf 43=14:=by kernel_rfl
 rw[hC]at hlen
 obtain⟨c0,c1,c2,c3,c4,c5,c6,c7,c8,c9,c10,c11,c12,c13,rfl⟩:∃ c0 c1 c2 c3 c4 c5 c6 c7 c8 c9 c10 c11 c12 c13,cs=[c0,c1,c2,c3,c4,c5,c6,c7,c8,c9,c10,c11,c12,c13]:=by
  match cs,hlen with
  | [c0,c1,c2,c3,c4,c5,c6,c7,c8,c9,c10,c11,c12,c13],_=>exact⟨c0,c1,c2,c3,c4,c5,c6,c7,c8,c9,c10,c11,c12,c13,rfl⟩
 obtain⟨y0,y1,y2,rfl⟩:∃ y0 y1 y2,xs=[y0,y1,y2]:=by
  match xs,zz with
  | [y0,y1,y2],_=>exact⟨y0,y1,y2,rfl⟩
 have e0:DataW.trod enc' Tryz.prog w 0 (fun _=>true) held n 41 [c0,c1,c2,c3,c4,c5,c6,c7,c8,c9,c10,c11]=some y0:=hf 0 _ rfl
 have e1:DataW.trod enc' Tryz.prog w 0 (fun _=>true) held n 31 [c12]=some y1:=hf 1 _ rfl
 have e2:DataW.trod enc' Tryz.prog w 0 (fun _=>true) held n 31 [c13]=some y2:=hf 2 _ rfl
 have w0:wL 41 y0.1:=hW.field Tryz.underlying43 (j:=0) rfl rfl
 obtain⟨s1,q1,rfl,v1⟩:=DataW.trod_int Tryz.underlying31 e1
 obtain rfl:=(List.cons.inj q1).1
 obtain⟨s2,q2,rfl,v2⟩:=DataW.trod_int Tryz.underlying31 e2
 obtain rfl:=(List.cons.inj q2).1
 obtain⟨zs,n2,rfl,rfl,-,Co,hg⟩:=DataW.trod_struct Tryz.underlying41 e0
 obtain⟨z0,z1,z2,z3,z4,rfl⟩:∃ z0 z1 z2 z3 z4,zs=[z0,z1,z2,z3,z4]:=by
  match zs,Co with
  | [z0,z1,z2,z3,z4],_=>exact⟨z0,z1,z2,z3,z4,rfl⟩
 have d0:DataW.trod enc' Tryz.prog w 0 (fun _=>true) held n2 28 [c0]=some z0:=hg 0 _ rfl
 have d1:DataW.trod enc' Tryz.prog w 0 (fun _=>true) held n2 36 [c1,c2,c3,c4]=some z1:=hg 1 _ rfl
 have d2:DataW.trod enc' Tryz.prog w 0 (fun _=>true) held n2 36 [c5,c6,c7,c8]=some z2:=hg 2 _ rfl
 have d3:DataW.trod enc' Tryz.prog w 0 (fun _=>true) held n2 38 [c9,c10]=some z3:=hg 3 _ rfl
 have d4:DataW.trod enc' Tryz.prog w 0 (fun _=>true) held n2 39 [c11]=some z4:=hg 4 _ rfl
 have w1:wL 36 z1.1:=w0.field Tryz.underlying41 (j:=1) rfl rfl
 have w2:wL 36 z2.1:=w0.field Tryz.underlying41 (j:=2) rfl rfl
 have w4:wL 39 z4.1:=w0.field Tryz.underlying41 (j:=4) rfl rfl
 obtain⟨er,p0,rfl,-⟩:=DataW.trod_int Tryz.underlying28 d0
 obtain rfl:=(List.cons.inj p0).1
 obtain⟨i0,i1,i2,i3,p1,rfl,-⟩:=DV d1
 obtain⟨j0,j1,j2,j3,p2,rfl,-⟩:=DV d2
 obtain⟨f0,f1,p3,rfl,v3⟩:=trod_38 d3
 simp only[List.cons.injEq,and_true]at p1 p2 p3
 obtain⟨rfl,rfl,rfl,rfl⟩:=p1
 obtain⟨rfl,rfl,rfl,rfl⟩:=p2
 obtain⟨rfl,rfl⟩:=p3
 obtain⟨ls,tr,R,g1,g2,g3,g4,g5⟩:=Da hl d4 w4
 refine⟨ls,⟨⟨er,⟨i0,i1,i2,i3⟩,⟨j0,j1,j2,j3⟩,f0,f1,tr⟩,s1,s2⟩,g1,fun β hβ=>?_,⟨⟨R,g3,g4,g5⟩,⟨(w1.field Tryz.underlying36 (j:=1) rfl rfl).str,(w1.field Tryz.underlying36 (j:=2) rfl rfl).str⟩,⟨(w2.field Tryz.underlying36 (j:=1) rfl rfl).str,(w2.field Tryz.underlying36 (j:=2) rfl rfl).str⟩,u64wf v1,u64wf v3⟩⟩
 rw[g2 β hβ]
 simp[enc,ah]
theorem Dc (M:Nat){l:List (Bt × aw)}(hl:gz w l)(cs:List Value)(x:DataW H × List MemPlace)(h:DataW.trod enc' Tryz.prog w 0 (fun _=>true) held M 24 cs=some x)(hW:wL 24 x.1) :
 ∃ (ls:List (Bt × aw)) (cp:Int) (xe:SV) (L:List En),gz w (l++ls)∧(∀ β,Ext β (l++ls)→cs=([.int .i64 cp,xe]:List SV).map (ah β))∧hU (bsL (l++ls)) xe L false∧∀ e∈L,oj (bsL (l++ls)) e:=by
 obtain⟨xs,n,rfl,rfl,hlen,zz,hf⟩:=DataW.trod_struct Tryz.underlying24 h
 have hC:Tryz.prog.cellsOf 24=2:=by kernel_rfl
 rw[hC]at hlen
 obtain⟨c0,c1,rfl⟩:∃ c0 c1,cs=[c0,c1]:=by
  match cs,hlen with
  | [c0,c1],_=>exact⟨c0,c1,rfl⟩
 obtain⟨y0,y1,rfl⟩:∃ y0 y1,xs=[y0,y1]:=by
  match xs,zz with
  | [y0,y1],_=>exact⟨y0,y1,rfl⟩
 have e0:DataW.trod enc' Tryz.prog w 0 (fun _=>true) held n 3 [c0]=some y0:=hf 0 _ rfl
 have e1:DataW.trod enc' Tryz.prog w 0 (fun _=>true) held n 22 [c1]=some y1:=hf 1 _ rfl
 have w1:wL 22 y1.1:=hW.field Tryz.underlying24 (j:=1) rfl rfl
 obtain⟨cp,q0,rfl,-⟩:=DataW.trod_int Tryz.underlying3 e0
 obtain rfl:=(List.cons.inj q0).1
 have hE:Tryz.prog.cellsOf 43=14:=by kernel_rfl
 obtain⟨ls,xe,L,s1,s2,s3,s4,s5,-⟩:=uj (ρ:=En) enc (fun l r=>oj (bsL l) r) (fun _ _ _ h=>h.kp (bsL_kp _ _)) (s:=14) (m:=n) (by omega) Tryz.underlying22 hE (wL 43) (fun l hl cs x hx hw=>Db hl cs x hx hw) hl (Nat.le_succ n) e1 (fun L sp e=>by rw[e]at w1;exact w1.elem Tryz.underlying22)
 refine⟨ls,cp,xe,L,s1,fun β hβ=>?_,?_,s5⟩
 ·rw[s3 β hβ];simp[ah]
 ·rcases s4 with s4|⟨i,h1,h2⟩
  ·exact .inl s4
  ·exact .inr ⟨i,h1,h2⟩
end
end Go.Proofs.YteipdaijbncgeaaGreatDoor
