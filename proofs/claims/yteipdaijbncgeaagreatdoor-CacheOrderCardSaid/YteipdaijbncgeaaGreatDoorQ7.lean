/- Texts of this claim, laid together: RowCall, EntrC, DelE, Mid, DelF, CacheW, HeapUp, HeapF, InsE, InsV, One, PutW, Verd, Ref31, SameC, PutP. -/
import Derived.Shelf.SlicesE.Clone
import Derived.Shelf.RegionOpenPlain
import Derived.WalkKit
import Derived.Deep.RegionLaw
import Derived.Lib.Walk
import Derived.Sort.WalkB12
import Derived.Shelf.Spec.SlicesInsert
import Derived.Lib.AppendZerosOnto
import Derived.Laws.NewBlocks
import Derived.Lib.Overlaps
import Derived.Test.YteipdaijbncgeaaGreatDoorQ6
open List renaming getElem?_eq_some_iff → zL2, length_append → zL3, getElem?_set_self → zL5, length_take → zL6, length_set → zL7, getElem?_append_left → zL8, take_succ_eq_append_getElem → zMa, drop_of_length_le → zMd, length_drop → zMf, getElem?_toArray → zMg, mem_cons_of_mem → zMh, take_of_length_le → zMi, append_nil → zMj, take_append_of_le_length → zMk, getElem_mem → zMl, nil_append → zMm, getElem?_eq_getElem → zMn, toList_toArray → zMo, flatMap_append → zMp, mem_cons → zMq, all_eq_true → zMr, filter_append → zMv, append_assoc → zMw, flatMap_cons → zMx, take_append_drop → zMy, drop_drop → zMz, drop_append → zME, take_length → zMF, map_cons → zMH, drop_succ_cons → zMI
open Nat renaming le_refl → zL9, add_sub_cancel_left → zMu, add_zero → zMA, zero_add → zMB, le_trans → zMC, mul_le_mul_right → zMD
open Array renaming length_toList → zMt, getElem?_eq_some_iff → zMG
set_option linter.all false
set_option maxHeartbeats 16000000
set_option maxRecDepth 20000
namespace Vc
open Go Go.RowKit Wf
section
variable {V:Cx} {f:FuncId} {args:List SV} {bs:List ay}
theorem zg {β:Nat→Bt}{fp:Nat→Nat→Prop}{w:World}(fU:∀ β',bp bs.length β β'→vt β' fp w bs)(hG:∀ i r,bs[i]? = some r→r.cf=true→∀ k,fp i k→V.G≤k)(hE:V.E w) :
 Wd (V:=V) ⟨0,w,fun k=>∃ i r,bs[i]? = some r∧r.cf=true∧fp i k,hE,fun k ⟨i,r,hi,hm,hk⟩=>hG i r hi hm k hk,β,bs,fun k=>∃ i r,bs[i]? = some r∧fp i k⟩ β fp bs w :=
 ⟨mD.refl _ _,fU,fun i r hi hm k hk=>.inr ⟨i,r,hi,hm,hk⟩,⟨bp.refl _ _,zL9 _⟩,fun i r hi k hk=>.inr ⟨i,r,hi,hk⟩⟩
theorem Dy {q:Nat}{c:List SV}{e s n:Nat}(iZ:Enters V f)(hq:bs[q]? = some (.own c e s n true)){c2:List SV}{n2:Nat}
 (h:∀ β fp w,(∀ β',bp bs.length β β'→vt β' fp w bs)→V.E w→Calls V.P f (aI β args).toArray w fun ex w'=>∃ (b2:Bt) (f2:Nat→Prop),ex=.returned (oV b2 n2)∧mD (fp q) w w' ∧
   (∀ β',bp (bs.length+1) (nT β bs.length b2) β'→Holds β' b2 f2 w' (.own c2 e s n2 true))∧∀ k,f2 k→(fp q k∨w.heap.size≤k)∧k<w'.heap.size) :
 SC V f args bs (fun r b=>r=.o bs.length n2∧b=bs.set q .gone++[.own c2 e s n2 true]):=by
 refine⟨iZ,fun β fp w fU hG hE=>?_⟩
 refine(h β fp w fU hE).mono ?_
 rintro ex w' ⟨b2,f2,rfl,jx,hh,Fp⟩
 have mq:=(zg fU hG hE).swap hq rfl jx (.own c2 e s n2 true) b2 f2 hh Fp
 refine⟨.o bs.length n2,_,_,_,⟨rfl,rfl⟩,dZ _ _ _,by simp,fun β' hβ=>⟨?_,mq.bx β' hβ⟩,mq.fr,mq.cf,mq.lO⟩
 have:=hβ bs.length (by simp)
 rw[fY]at this
 simp[ah,← this]
theorem Dx {e s:Nat}(iZ:Enters V f){c2:List SV}{n2:Nat}
 (h:∀ β fp w,(∀ β',bp bs.length β β'→vt β' fp w bs)→V.E w→Calls V.P f (aI β args).toArray w fun ex w'=>∃ (b2:Bt) (f2:Nat→Prop),ex=.returned (oV b2 n2)∧Below w.heap.size w w' ∧
   (∀ β',bp (bs.length+1) (nT β bs.length b2) β'→Holds β' b2 f2 w' (.own c2 e s n2 true))∧∀ k,f2 k→w.heap.size≤k∧k<w'.heap.size) :
 SC V f args bs (fun r b=>r=.o bs.length n2∧b=bs++[.own c2 e s n2 true]):=by
 refine⟨iZ,fun β fp w fU hG hE=>?_⟩
 refine(h β fp w fU hE).mono ?_
 rintro ex w' ⟨b2,f2,rfl,hb,hh,Fp⟩
 have mq:=(zg fU hG hE).more hb (.own c2 e s n2 true) b2 f2 hh Fp
 refine⟨.o bs.length n2,_,_,_,⟨rfl,rfl⟩,dZ _ _ _,by simp,fun β' hβ=>⟨?_,mq.bx β' hβ⟩,mq.fr,mq.cf,mq.lO⟩
 have:=hβ bs.length (by simp)
 rw[fY]at this
 simp[ah,← this]
theorem pK {β β':Nat→Bt}{fp:Nat→Nat→Prop}{w:World}(fU:∀ β',bp bs.length β β'→vt β' fp w bs)(hβ:bp bs.length β β'){q:Nat}{c:List SV}{e s n:Nat}{m:Bool}(hq:bs[q]? = some (.own c e s n m)):c.map (ah β)=c.map (ah β'):=by
 have h1:=(fU β (bp.refl _ _)).holds q _ hq
 have h2:=(fU β' hβ).holds q _ hq
 have oD:=(zL2.1 hq).1
 rw[← hβ q oD]at h2
 rcases h1 with⟨-,-,rfl,-⟩|⟨-,-,-,-,l1,-⟩
 ·rfl
 ·rcases h2 with⟨-,-,rfl,-⟩|⟨-,-,-,-,l2,-⟩
  ·rfl
  ·exact p6 (by simp) l1 l2
end
end Vc
namespace Go.Proofs.YteipdaijbncgeaaGreatDoor
open Go Vc Go.RowKit Wf
theorem E2:PC Tryz.V 55 [.aD] .aD:=by
 refine aU 3000 Tryz.func55 rfl Tryz.ntmps55 Tryz.results55 Tryz.call55 (by simp) (by simp[flat,flat.ai]) (by simp[flat,flat.ai]) ?_
 simp only[ad,↓Xn,↓Xo,↓Xg,↓Xd,↓Xe,↓Xf,Tryz.VΓ,Tryz.Γs,Xp,Xi,Nat.reduceAdd,Nat.reduceSub,Nat.reduceLT,Nat.reduceLeDiff,reduceIte,reduceCtorEq,Nat.reduceEqDiff,implies_true,forall_const,aa]
theorem tP {v:Vd}(hv:v.tr=.aD):PC Tryz.V 34 [.agg (eJ v)] (.agg (eJ v)):=by
 have he:eJ v=[.int .i64 v.err,.int .i64 v.id.kind,.str v.id.text,.str v.id.host,.int .i64 v.id.port,.int .i64 v.cP.kind,.str v.cP.text,.str v.cP.host,.int .i64 v.cP.port,.bool v.store,.int .u64 v.dU,.aD]:=by unfold eJ;rw[hv]
 rw[he]
 refine aU 3000 Tryz.func34 rfl Tryz.ntmps34 Tryz.results34 Tryz.call34 (by simp) (by simp[flat,flat.ai]) (by simp[flat,flat.ai]) ?_
 simp only[ad,↓Xn,↓Xo,↓Xg,↓Xd,↓Xe,↓Xf,Tryz.VΓ,Tryz.Γs,Xp,Xi,Nat.reduceAdd,Nat.reduceSub,Nat.reduceLT,Nat.reduceLeDiff,reduceIte,reduceCtorEq,Nat.reduceEqDiff,implies_true,forall_const,aa]
 refine ae E2 ?_
 simp only[ad,↓Xn,↓Xo,↓Xg,↓Xd,↓Xe,↓Xf,Tryz.VΓ,Tryz.Γs,Xp,Xi,Nat.reduceAdd,Nat.reduceSub,Nat.reduceLT,Nat.reduceLeDiff,reduceIte,reduceCtorEq,Nat.reduceEqDiff,implies_true,forall_const,aa]
def renCE:Go.Shelf.Ren:=⟨fun|41=>54|n=>n,fun|4=>4|22=>22|23=>43|n=>n,fun n=>n⟩
theorem G5:SlLaysE0.n41 Tryz.prog renCE:={
 mixed:=by kernel_rfl
 f41 := ⟨Tryz.f54.name, by kernel_rfl, Tryz.func54.trans (congrArg some (by kernel_rfl))⟩
 t4:=Tryz.underlying4
 a4:=Tryz.isAgg4
 z4:=Tryz.sizeOf4
 v4:=Tryz.zeroValue4
 t22:=Tryz.underlying22
 a22:=Tryz.isAgg22
 z22:=Tryz.sizeOf22
 v22:=Tryz.zeroValue22 }
theorem zM {b:List ay}:SC Tryz.V 54 [.aD] b (fun r b'=>r=.aD∧b'=b) :=
 Gt (V:=Tryz.V) (f:=54) Tryz.call54 rfl (fun β fp w hb=>(AnyE.slices_Clone_nil G5 0 0 w).mono fun e w' h=>⟨by rw[h.1];simp[ah],cO h.2.symm⟩)
theorem zL {b:List ay}{q n:Nat}{c:List SV}{m:Bool}(hq:b[q]? = some (.own c 43 14 n m))(uF:m=true∨n≠0)(h1:c.all one=true)(hl:n≤1000000):SC Tryz.V 54 [.o q n] b (fun r b'=>r=.o b.length n∧b'=b++[.own c 43 14 n true]):=by
 refine Dx (V:=Tryz.V) (f:=54) Tryz.call54 fun β fp w fU hE=>?_
 have hh:=(fU β (bp.refl _ _)).holds q _ hq
 have gE:=fun β' hβ=>pK (β':=β') fU hβ hq
 clear fU hE
 have co:∀ v∈c.map (ah β),v.oneCell'=true:=fun v hv=>by
  obtain⟨y,hy,rfl⟩:=List.mem_map.1 hv
  exact gm (zMr.1 h1 y hy) β
 rcases hh with⟨fL,rfl,rfl,hnf,hbk⟩|⟨fL,hnc,vy,dO,hli,hm,qH⟩
 ·have hm:m=true:=uF.resolve_right (by simp)
  have eU:=hbk hm
  have e0:(aI β [.o q 0]).toArray=#[.slice none 0 0]:=by simp[aI,ah,oV,fL,oY,eU]
  rw[e0]
  refine(AnyE.slices_Clone_nil G5 0 0 w).mono ?_
  rintro e w' ⟨rfl,rfl⟩
  exact⟨⟨0,0,0⟩,fun _=>False,by simp[oV,oY],Below.refl _ _,fun β' hβ=>holds_nil,fun k hk=>hk.elim⟩
 ·obtain⟨i0,z,sW,AV,eV,uA,lL,qk⟩:∃ (i:TypeInfo) (z:Value),Tryz.prog.info? 43=some i∧i.zero=some z∧i.size=14∧z.cells.size=14∧True∧i.bytes=160:=by
   obtain⟨i0,z,hi,hz,his,qk,CK⟩:=Tryz.ty43.info
   exact⟨i0,z,hi,hz,his,by rw[CK];rfl,trivial,qk⟩
  have e0:(aI β [.o q n]).toArray=#[.slice (some ⟨(β q).cB,(β q).off,none⟩) n ((β q).cap - 1)]:=by simp[aI,ah,oV,fL]
  rw[e0]
  have hcc:=AnyE.slices_Clone G5 i0 z 14 160 sW AV eV qk uA (by omega) Tryz.sizeOf43 (β q).cB (β q).off n ((β q).cap - 1) (c.map (ah β)) w (by simpa using dO) (by unfold maxLen;omega) (by omega) hli co
  refine hcc.mono ?_
  rintro e w' ⟨v',rfl,⟨hln,oo⟩,hnn,uP⟩
  rcases oo with⟨rfl,-⟩|⟨g,cap,cur,rfl,hg,hheap,hnc2,hcm2,hcs,htake⟩
  ·exact absurd rfl hnn
  have hgl:g<w'.heap.size:=(zMG.1 hheap).1
  refine⟨⟨g,0,cap+1⟩,(·=g),by simp[oV],uP,fun β' hβ=>?_,?_⟩
  ·refine dM (rest:=cur.toList.drop (n * 14)) (fz:=(0,0)) ?_ (.inr (.inl (zL9 _))) dO hnc2 hcm2 ?_
   ·rw[← gE β' hβ.dp,← htake,zMy,Array.toArray_toList];exact hheap
   ·rw[dO,zMf,zMt,hcs]
    have:n * 14≤cap * 14:=zMD _ hnc2
    omega
  ·rintro k rfl
   exact⟨hg,hgl⟩
theorem s5 (L:List En)(k:Nat)(h:k<L.length):((L.flatMap enc).drop (k * 14)).take 12=eJ L[k].v:=by
 have h1:=gd L k h
 have h2:(((L.flatMap enc).drop (k * 14)).take 14).take 12=eJ L[k].v:=by rw[h1];rfl
 rw[List.take_take]at h2
 exact h2
theorem vdc_put (L:List En)(k:Nat)(h:k<L.length):(L.flatMap enc).take (k * 14)++(eJ L[k].v++(L.flatMap enc).drop (k * 14+12))=L.flatMap enc:=by
 rw[← s5 L k h,← zMz,zMy,zMy]
theorem rN {b:List ay}:SC Tryz.V 33 [.aD] b (fun r b'=>r=.aD∧b'=b):=by
 refine cK 3000 Tryz.func33 rfl Tryz.ntmps33 Tryz.results33 Tryz.call33 (by simp) (aw b.length _ (by simp[within,within.aN])) ?_
 simp only[ad,↓Xn,↓Xo,↓Xg,↓Xd,↓Xe,↓Xf,Tryz.VΓ,Tryz.Γs,Xp,Xi,Nat.reduceAdd,Nat.reduceSub,Nat.reduceLT,Nat.reduceLeDiff,reduceIte,reduceCtorEq,Nat.reduceEqDiff,implies_true,forall_const,aa,ak,beq_self_eq_true,bne_self_eq_false,Int.reduceBEq,Int.reduceBNe,Int.reduceLT,Int.reduceLE]
 refine aG zM ?_
 rintro y b1 ⟨rfl,rfl⟩
 simp only[ad,↓Xn,↓Xo,↓Xg,↓Xd,↓Xe,↓Xf,Tryz.VΓ,Tryz.Γs,Xp,Xi,Nat.reduceAdd,Nat.reduceSub,Nat.reduceLT,Nat.reduceLeDiff,reduceIte,reduceCtorEq,Nat.reduceEqDiff,implies_true,forall_const,aa,ak,beq_self_eq_true,bne_self_eq_false,Int.reduceBEq,Int.reduceBNe,Int.reduceLT,Int.reduceLE]
 refine aJ (fun σ=>lk 3 σ.t=some .aD∧lk 8 σ.t=some (.int .i64 0)∧lk 9 σ.t=some (.int .i64 0)∧σ.b=b1) (fun σ=>0) ⟨rfl,rfl,rfl,rfl⟩ ?_
 rintro⟨t',b2⟩ ⟨l3,l8,l9,rfl⟩
 simp only at l3 l8 l9
 simp only[ad,↓Xn,↓Xo,↓Xg,↓Xd,↓Xe,↓Xf,Tryz.VΓ,Tryz.Γs,Xp,Xi,Nat.reduceAdd,Nat.reduceSub,Nat.reduceLT,Nat.reduceLeDiff,reduceIte,reduceCtorEq,Nat.reduceEqDiff,implies_true,forall_const,aa,ak,beq_self_eq_true,bne_self_eq_false,Int.reduceBEq,Int.reduceBNe,Int.reduceLT,Int.reduceLE,l3,l8,l9]
theorem tw {b:List ay}{q:Nat}{L:List En}{m:Bool}(hq:b[q]? = some (.own (L.flatMap enc) 43 14 L.length m))(uF:m=true∨L.length≠0)(hT:∀ e∈L,e.v.tr=.aD)(hl:L.length≤1000000) :
 SC Tryz.V 33 [.o q L.length] b (fun r b'=>r=.o b.length L.length∧b'=b++[.own (L.flatMap enc) 43 14 L.length true]):=by
 have oD:=(zL2.1 hq).1
 have h1:(L.flatMap enc).all one=true:=by
  rw[zMr]
  intro x hx
  obtain⟨e,he,hx⟩:=List.mem_flatMap.1 hx
  have:=hT e he
  simp only[enc,this]at hx
  simp at hx
  rcases hx with rfl|rfl|rfl|rfl|rfl|rfl|rfl|rfl|rfl|rfl|rfl|rfl|rfl|rfl <;> rfl
 refine cK 3000 Tryz.func33 rfl Tryz.ntmps33 Tryz.results33 Tryz.call33 (by simp) (aw b.length _ (by simp[within,within.aN,oD])) ?_
 simp only[ad,↓Xn,↓Xo,↓Xg,↓Xd,↓Xe,↓Xf,Tryz.VΓ,Tryz.Γs,Xp,Xi,Nat.reduceAdd,Nat.reduceSub,Nat.reduceLT,Nat.reduceLeDiff,reduceIte,reduceCtorEq,Nat.reduceEqDiff,implies_true,forall_const,aa,ak,beq_self_eq_true,bne_self_eq_false,Int.reduceBEq,Int.reduceBNe,Int.reduceLT,Int.reduceLE]
 refine aG (zL hq uF h1 hl) ?_
 rintro y b1 ⟨rfl,rfl⟩
 simp only[ad,↓Xn,↓Xo,↓Xg,↓Xd,↓Xe,↓Xf,Tryz.VΓ,Tryz.Γs,Xp,Xi,Nat.reduceAdd,Nat.reduceSub,Nat.reduceLT,Nat.reduceLeDiff,reduceIte,reduceCtorEq,Nat.reduceEqDiff,implies_true,forall_const,aa,ak,beq_self_eq_true,bne_self_eq_false,Int.reduceBEq,Int.reduceBNe,Int.reduceLT,Int.reduceLE]
 refine aJ (fun σ=>∃ (i:Nat),lk 3 σ.t=some (.o b.length L.length)∧lk 8 σ.t=some (.int .i64 L.length)∧lk 9 σ.t=some (.int .i64 i)∧i≤L.length∧σ.b=b++[.own (L.flatMap enc) 43 14 L.length true]) (fun σ=>L.length - iH 9 σ) ⟨0,rfl,rfl,rfl,by omega,rfl⟩ ?_
 rintro⟨t',b2⟩ ⟨i,l3,l8,l9,hi,rfl⟩
 simp only at l3 l8 l9
 rw[ax l9]
 by_cases c:i<L.length
 ·have ci:decide ((i:Int)<(L.length:Int))=true:=by simpa using c
  have dS:=s5 L i c
  have hpt:=vdc_put L i c
  have AX:(eJ L[i].v).length=12:=rfl
  simp only[ad,↓Xn,↓Xo,↓Xg,↓Xd,↓Xe,↓Xf,Tryz.VΓ,Tryz.Γs,Xp,Xi,Nat.reduceAdd,Nat.reduceSub,Nat.reduceLT,Nat.reduceLeDiff,reduceIte,reduceCtorEq,Nat.reduceEqDiff,implies_true,forall_const,aa,ak,beq_self_eq_true,bne_self_eq_false,Int.reduceBEq,Int.reduceBNe,Int.reduceLT,Int.reduceLE,l3,l8,l9,ci,dS]
  refine⟨⟨by omega,by omega⟩,by rw[aQ];omega,ae (tP (hT _ (zMl c))) ?_⟩
  simp only[ad,↓Xn,↓Xo,↓Xg,↓Xd,↓Xe,↓Xf,Tryz.VΓ,Tryz.Γs,Xp,Xi,Nat.reduceAdd,Nat.reduceSub,Nat.reduceLT,Nat.reduceLeDiff,reduceIte,reduceCtorEq,Nat.reduceEqDiff,implies_true,forall_const,aa,ak,beq_self_eq_true,bne_self_eq_false,Int.reduceBEq,Int.reduceBNe,Int.reduceLT,Int.reduceLE,l3,l8,l9,hpt,AX]
  have h1v:(eJ L[i].v).all one=true:=by
   have:=hT _ (zMl c)
   simp[eJ,one,this]
  refine⟨⟨by omega,by omega⟩,⟨h1v,by rw[aQ];omega⟩,by omega,⟨i+1,rfl,by omega⟩,?_⟩
  rw[ax (show lk 9 _=some (.int .i64 ((i+1:Nat):Int)) from rfl)];omega
 ·have ci:decide ((i:Int)<(L.length:Int))=false:=by simpa using c
  simp only[ad,↓Xn,↓Xo,↓Xg,↓Xd,↓Xe,↓Xf,Tryz.VΓ,Tryz.Γs,Xp,Xi,Nat.reduceAdd,Nat.reduceSub,Nat.reduceLT,Nat.reduceLeDiff,reduceIte,reduceCtorEq,Nat.reduceEqDiff,implies_true,forall_const,aa,ak,beq_self_eq_true,bne_self_eq_false,Int.reduceBEq,Int.reduceBNe,Int.reduceLT,Int.reduceLE,l3,l8,l9,ci]
open Go Vc Go.RowKit Go.Lib Wf
theorem qQ {P:Program}{ops:Array Oper}{o:Oper}{a:Act}{w:World}{K:Act→World→Prop}{Q:Exit→Act→World→Prop}{E:Prop}
 (hg:o.guard=none) {v':Value} {w':World} (hr:(execOp a.eval o).run P w=.ok (.value v') w') (hK:K (a.put o.dst v') w') :
 if Region.wanted o (yielded ops a.tmps)=true then Oper.wp P o a w K Q else E:=by
 have hw:Region.wanted o (yielded ops a.tmps)=true:=by simp[Region.wanted,hg]
 rw[if_pos hw]
 unfold Oper.wp
 simp[hr,Result.andThen]
 exact hK
theorem de {P:Program}{w:World}{ops:Array Oper}{rest:List Oper}{o:Oper}{a:Act}{Q:Exit→Act→World→Prop}(hgd:o.guard=none){v':Value}{w':World}
 (hr:(execOp a.eval o).run P w=.ok (.value v') w') (h:wpList P ops Q rest (a.put o.dst v') w'):wpList P ops Q (o::rest) a w :=
 wpList_plain hgd fun _ hK=>by
  unfold Oper.wp
  simp[hr,Result.andThen]
  exact hK _ _ h
theorem iP {P:Program}{o:Oper}{a:Act}{w w':World}{s x:Operand}{t t':TypeId}(ho:o.op=.call { callee:=.builtin .append,args:=#[s,x],argTypes:=#[t,t'] }){v:Value}(hr:(Builtin.append_ #[t,t'] o.type #[a.eval s,a.eval x]).run P w=.ok v w') :
 (execOp a.eval o).run P w=.ok (.value v) w':=by
 unfold execOp
 simp only[ho,resolve,invoke,builtin,Sem.run_bind,Sem.run_pure,Result.andThen_ok,List.map_toArray,zMH,List.map_nil,hr]
theorem cell_of {w:World}{g:Nat}{arr:Array Value}{T:TypeId}{fz:Nat × Nat}(hg:w.heap[g]? = some (.cells arr T fz))(j:Nat):w.cell? ⟨g,j,none⟩=arr[j]? := by
 simp[World.cell?,hg]
theorem tz {P:Program}(w:World)(t e ty:TypeId)(z:Value)(ht:P.underlying t=some (.slice e))(hv:∀ w,(zeroValue e).run P w=.ok z w)(b o n c:Nat)(hn:0<n){w':World}(om:(storeCells ⟨b,o,none⟩ (Builtin.zeroCells z.cells n).toList).run P w=.ok () w') :
 (Builtin.clear_ #[t] ty #[.slice (some ⟨b,o,none⟩) n c]).run P w=.ok (.tuple #[]) w':=by
 cases n with
 | zero=>omega
 | succ m=>simp[Builtin.clear_,run_underlying ht,hv,om]
theorem vB {z:Array Value}(h:∀ v∈z,v.oneCell'=true)(n:Nat):∀ v∈(Builtin.zeroCells z n).toList,v.oneCell'=true:=by
 intro v hv
 simp only[Builtin.zeroCells,Array.toList_map,List.mem_map]at hv
 obtain⟨i,hi,rfl⟩:=hv
 have h0:z.size≠0:=by
  intro h0;rw[h0]at hi;simp at hi
 rw[getElem!_pos z (i % z.size) (Nat.mod_lt _ (by omega))]
 exact h _ (Array.getElem_mem _)
theorem iz:∃ (i:TypeInfo) (z:Value),Tryz.prog.info? 43=some i∧i.zero=some z∧i.size=14∧z.cells.size=14∧(∀ v∈z.cells,v.oneCell'=true)∧i.bytes≤500:=by
 have h:((Tryz.prog.info? 43).map fun i=>(i.size,i.zero.map fun z=>(z.cells.size,z.cells.all fun v=>v.oneCell'),decide (i.bytes≤500)))=some (14,some (14,true),true):=by kernel_rfl
 cases hi:Tryz.prog.info? 43 with
 | none=>rw[hi]at h;cases h
 | some i =>
   rw[hi]at h
   cases hz:i.zero with
   | none=>simp[hz]at h
   | some z =>
     simp[hz]at h
     refine⟨i,z,rfl,hz,h.1,h.2.1.1,?_,h.2.2⟩
     intro v hv
     obtain⟨k,hk,rfl⟩:=Array.mem_iff_getElem.1 hv
     exact h.2.1.2 k hk
theorem Df {z:Value}{i:TypeInfo}(hi:Tryz.prog.info? 43=some i)(hz:i.zero=some z)(w:World):(zeroValue 43).run Tryz.prog w=.ok z w:=by
 simp[zeroValue,typeInfo,hi,hz]
set_option maxRecDepth 1000000 in
theorem Ge {g n cap k:Nat}{c rest:List Value}{fz:Nat × Nat}{w:World}(hg:w.heap[g]? = some (.cells (c++rest).toArray 43 fz))(sX:c.length+rest.length≤fz.1∨fz.2≤fz.1)(hc:c.length=n * 14)(kF:c.length+rest.length=cap * 14)(hk:k<n){j:Nat}(hj:j=k+1)(h1:∀ v∈c,v.oneCell'=true)(vy:cap≤maxLen) :
 Calls Tryz.prog 37 #[.slice (some ⟨g,0,none⟩) n cap,.int .i64 k,.int .i64 j] w fun e w'=>e=.returned (.slice (some ⟨g,0,none⟩) (n - 1) cap)∧∃ q z,z.length=14∧(∀ v∈z,v.oneCell'=true)∧w'=(Sort.ahead w q).setRow g ((c.take (k * 14)++c.drop (j * 14))++(z++rest)).toArray:=by
 have mixed:=Tryz.V.mixed
 have hncap:n≤cap:=by omega
 obtain⟨i0,z,sW,AV,eV,uA,lL,-⟩:=iz
 have hzv:=Df sW AV
 have hu:Tryz.prog.underlying 22=some (.slice 43):=by kernel_rfl
 obtain⟨Z,hZ⟩:∃ Z,Z=(Builtin.zeroCells z.cells 1).toList:=⟨_,rfl⟩
 have hZl:Z.length=14:=by rw[hZ,zMt,size_zeroCells,uA]
 have hZ1:∀ v∈Z,v.oneCell'=true:=by rw[hZ];exact vB lL 1
 obtain⟨news,A4⟩:∃ news,news=c.drop (j * 14):=⟨_,rfl⟩
 have sa:news.length=(n - (j)) * 14:=by rw[A4,zMf,hc,Nat.sub_mul]
 obtain⟨W1,qJ⟩:∃ W1,W1=w.drew.setRow g (c.take (k * 14)++news++(c.drop ((n - 1) * 14)++rest)).toArray:=⟨_,rfl⟩
 have AZ:(storeCells ⟨g,k * 14,none⟩ news).run Tryz.prog w.drew=.ok () W1:=by
  have:=bK (P:=Tryz.prog) g (k * 14) _ fz news 0 _ w.drew hg (by simp;omega) (by omega) (fun v hv=>h1 v (by rw[A4]at hv;exact List.mem_of_mem_drop hv))
  rw[this,qJ]
  congr 2
  simp only[zMo,zMA]
  rw[zMk (by omega),List.drop_append_of_le_length (by omega)]
  rw[show k * 14+news.length=(n - 1) * 14 by omega]
 have hgW:W1.heap[g]? = some (.cells (c.take (k * 14)++news++(c.drop ((n - 1) * 14)++rest)).toArray 43 fz):=by
  rw[qJ];exact setRow_heap _ _ _ _ _ _ hg
 obtain⟨W2,Bg⟩:∃ W2,W2=(Sort.ahead w 1).setRow g ((c.take (k * 14)++news)++(Z++rest)).toArray:=⟨_,rfl⟩
 have HB:(c.take (k * 14)++news).length=(n - 1) * 14:=by rw[zL3,zL6,sa,hc];omega
 have AY:(storeCells ⟨g,(n - 1) * 14,none⟩ Z).run Tryz.prog W1=.ok () W2:=by
  have:=bK (P:=Tryz.prog) g ((n - 1) * 14) _ fz Z 0 _ W1 hgW (by simp;omega) (by omega) hZ1
  rw[this,Bg,qJ,setRow_setRow]
  show Result.ok () (World.setRow _ _ _)=Result.ok () (World.setRow _ _ _)
  congr 2
  simp only[zMo,zMA]
  rw[show (n - 1) * 14=(c.take (k * 14)++news).length from HB.symm,List.take_left,zME,zMd (by omega),zMm,zMu,List.drop_append_of_le_length (by rw[zMf];omega),zMz,zMd (by omega),zMm,zMw]
 have dO:∀ ty c',(Builtin.clear_ #[22] ty #[.slice (some ⟨g,(n - 1) * 14,none⟩) 1 c']).run Tryz.prog W1=.ok (.tuple #[]) W2:=fun ty c'=>tz W1 _ _ ty z hu hzv g ((n - 1) * 14) 1 c' (by decide) (by rw[← hZ];exact AY)
 obtain⟨A,hA,Fg⟩:∃ A:Addr,(if cap=j then some (⟨g,0,none⟩:Addr) else some ⟨g,(j) * 14,none⟩)=some A∧∀ j v,news[j]? = some v→w.drew.cell? (A.add j)=some v:=by
  by_cases h:cap=j
  ·refine⟨⟨g,0,none⟩,by simp[h],fun t u hu=>?_⟩
   have h0:news.length=0:=by rw[sa];omega
   rw[List.length_eq_zero_iff.1 h0]at hu
   simp at hu
  ·refine⟨⟨g,(j) * 14,none⟩,by simp[h],fun t u hu=>?_⟩
   rw[Addr.add_lit,cell_of (w:=w.drew) (show w.drew.heap[g]? = _ from hg)]
   rw[A4,List.getElem?_drop]at hu
   rw[zMg,zL8 (zL2.1 hu).1]
   exact hu
 have bG:∀ ty,(Builtin.append_ #[22,22] ty #[.slice (some ⟨g,0,none⟩) k cap,.slice (some A) (n - (j)) (cap - (j))]).run Tryz.prog w.drew=.ok (.slice (some ⟨g,0,none⟩) (k+(n - (j))) cap) W1:=fun ty =>
  lE w.drew _ _ ty _ i0 hu hu (.inr ⟨_,rfl⟩) sW g k cap (n - (j)) _ news (by simp[Builtin.lenOf]) (run_firstCells_some w.drew _ _ A _ _ news (by rw[eV];exact sa) Fg) (by omega) (by rw[eV];exact AZ)
 have sb:j≤n:=by omega
 have hkj:k≤j:=by omega
 have bk:¬ (k:Int)=(j:Int):=by omega
 have hX:Aside (W2=(Sort.ahead w 1).setRow g ((c.take (k * 14)++news)++(Z++rest)).toArray∧Z.length=14∧(∀ v∈Z,v.oneCell'=true)∧news=c.drop ((j) * 14)):=⟨Bg,hZl,hZ1,A4⟩
 have iN:j≤cap:=by omega
 have iw:Hid (j=k+1):=hj
 have hcl2:∀ ty,(Builtin.clear_ #[22] ty #[.slice (some ⟨g,(k+(n - j)) * 14,none⟩) (n - (k+(n - j))) (cap - (k+(n - j)))]).run Tryz.prog W1=.ok (.tuple #[]) W2:=fun ty=>by
  rw[show k+(n - j)=n - 1 by omega,show n - (n - 1)=1 by omega];exact dO _ _
 clear dO
 have fH:k≤cap:=by omega
 have hH:Hid (∀ ty,(Builtin.append_ #[22,22] ty #[.slice (some ⟨g,0,none⟩) k cap,.slice (some A) (n - (j)) (cap - (j))]).run Tryz.prog w.drew=.ok (.slice (some ⟨g,0,none⟩) (k+(n - (j))) cap) W1):=bG
 clear hj qJ Bg hgW AZ AY Fg hZ hZl hZ1 sa A4 hzv lL uA eV AV sW HB bG hg hc kF h1 sX
 go_enter Tryz.func37,Tryz.ntmps37
 go_wp2_with fail
 go_region_law_o (refine qQ rfl (iP rfl (by simp[Act.eval,Act.put];exact hH.out _)) ?_)
 go_wp2
 go_ret
 obtain⟨e2,e3,e4,e5⟩:=hX.out
 have F8:=iw.out
 exact⟨by rw[show k+(n - j)=n - 1 by omega];rfl,1,Z,e3,e4,by rw[e2,e5]⟩
theorem sc_DelN {bs:List ay}{q n k:Nat}{c:List SV}(hq:bs[q]? = some (.own c 43 14 n true))(hk:k<n)(h1:c.all one=true) :
 SC Tryz.V 37 [.o q n,.int .i64 k,.int .i64 (k+1:Nat)] bs (fun r b=>r=.o bs.length (n - 1)∧b=bs.set q .gone++[.own (c.take (k * 14)++c.drop ((k+1) * 14)) 43 14 (n - 1) true]):=by
 refine Dy (V:=Tryz.V) (f:=37) Tryz.call37 hq fun β fp w fU hE=>?_
 have hh:=(fU β (bp.refl _ _)).holds q _ hq
 have gE:=fun β' hβ=>pK (β':=β') fU hβ hq
 have aA:∀ k,fp q k→k<w.heap.size:=(fU β (bp.refl _ _)).lt q _ hq
 clear fU hE
 rcases hh with⟨-,h0,-⟩|⟨fL,hnc,vy,dO,hli,hm,qH⟩
 ·exact absurd h0 (by omega)
 obtain⟨uE,rest,fz,⟨hg,hfz0⟩,sX,kF⟩:=hm rfl
 have hlen:(c.map (ah β)).length=n * 14:=by simpa using dO
 have hx:=Ge (n:=n) (cap:=(β q).cap - 1) (k:=k) hg (by simp;simp at sX;omega) hlen (by rw[hlen,← dO];exact kF) hk rfl (fun v hv=>by
  obtain⟨x,hx,rfl⟩:=List.mem_map.1 hv
  exact gm (zMr.1 h1 x hx) β) vy
 have gx:(aI β [.o q n,.int .i64 k,.int .i64 (k+1:Nat)]).toArray=#[.slice (some ⟨(β q).cB,0,none⟩) n ((β q).cap - 1),.int .i64 k,.int .i64 (k+1:Nat)]:=by
  simp[aI,ah,oV,fL,uE]
 rw[gx]
 refine hx.mono ?_
 rintro ex w' ⟨rfl,qq,z,hz,lL,rfl⟩
 have hcut:((c.map (ah β)).take (k * 14)++(c.map (ah β)).drop ((k+1) * 14))=(c.take (k * 14)++c.drop ((k+1) * 14)).map (ah β):=by simp
 have hcl2:(c.take (k * 14)++c.drop ((k+1) * 14)).length=(n - 1) * 14:=by
  rw[zL3,zL6,zMf,dO];omega
 refine⟨⟨(β q).cB,0,(β q).cap - 1+1⟩,(·=(β q).cB),by simp[oV],?_,?_,?_⟩
 ·refine⟨rfl,rfl,rfl,by simp,fun k hk fA=>?_⟩
  rw[setRow_other _ _ _ _ (fun e=>fA ((qH k).2 e))];rfl
 ·intro β' hβ
  have hrw:=gE β' hβ.dp
  refine dM (rest:=z++rest) (fz:=fz) ?_ ?_ hcl2 (by omega) vy ?_
  ·rw[setRow_heap _ _ _ _ _ _ (show (Sort.ahead w qq).heap[(β q).cB]? = _ from hg),hcut]
   congr 3
   simp only[List.map_append,List.map_take,List.map_drop,hrw]
  ·rw[hcl2,zL3,hz];rw[dO]at sX;omega
  ·rw[hcl2,zL3,hz];rw[dO]at kF;omega
 ·rintro k rfl
  have:=aA _ ((qH _).2 rfl)
  exact⟨.inl ((qH _).2 rfl),by simpa using this⟩
end Go.Proofs.YteipdaijbncgeaaGreatDoor
namespace Vc
open Go Go.RowKit Wf
section
variable {V:Cx}
def seqL:List Code→Code→Code
 | [],tl=>tl
 | x::l,tl=>.seq x (seqL l tl)
theorem EA {F:Fx V}{Qf:Exit→Act→World→Prop}{J:St→Prop}{e:Exit}(he:e≠.normal){a:Act}{w:World}:∀ {l:List Code},ot F Qf (l.map Item.code++[.cut J]) e a w→Qf e a w
 | [],h=>by cases e <;> first | exact absurd rfl he | exact h
 | x::l,h=>by
   refine EA (F:=F) (J:=J) he (l:=l) ?_
   cases e <;> first|exact absurd rfl he|exact h
theorem Dw {F:Fx V}{Qf:Exit→Act→World→Prop}{J:St→Prop}{tl:Code}(ht:∀ σ a w,J σ→Rel F σ a w→tl.wp V.P Qf a w):∀ {l:List Code}{a:Act}{w:World},ot F Qf (l.map Item.code++[.cut J]) .normal a w→(seqL l tl).wp V.P Qf a w
 | [],a,w,h=>by
   obtain⟨σ,h1,h2⟩:=h
   exact ht σ a w h1 h2
 | x::l,a,w,h=>by
   refine wp_seq (wp_mono (show x.wp V.P (ot F Qf (l.map Item.code++[.cut J])) a w from h) fun e a w he=>?_)
   by_cases hn:e=.normal
   ·subst hn;exact Dw ht he
   ·have:=EA hn he
    cases e <;> first|exact absurd rfl hn|exact this
theorem sc_mid (y5:Nat→How){f:FuncId}{fn:Func}(L:List Code)(r rest:Code){args:List SV}{bs:List ay}{R:SV→List ay→Prop}{n:Nat}{rs:Array ResultVar}(fuel fuel2:Nat)(hf:V.P.funcs[f]? = some fn)(hb:fn.body=some (seqL L (.seq r rest)))(hn:fn.ntmps=n)(hr:fn.results=rs)(iZ:Enters V f)
 (hlen:args.length≤n) (jo:∀ β β',bp bs.length β β'→aI β args=aI β' args) (J J2:St→Prop) (h1:bo V n ⟨rs.toList,R,y5,false⟩ fuel (L.map Item.code++[.cut J]) ⟨Yj 0 args,bs⟩)
 (hm:∀ F:Fx V,F.n=n→∀ a w σ,J σ→Rel F σ a w→r.wp V.P (fun e a w=>e=.normal∧∃ σ',J2 σ'∧Rel F σ' a w) a w)
 (h2:∀ σ',J2 σ'→bo V n ⟨rs.toList,R,y5,false⟩ fuel2 [.code rest] σ'):SC V f args bs R:=by
 refine DA hf hb hn hr iZ hlen jo (fun F hF a w hrel=>?_)
 subst hF
 have key:=fun(fuel:Nat) (items:List Item) (σ:St) (h:bo V F.n ⟨rs.toList,R,y5,false⟩ fuel items σ) (a:Act) (w:World) (hrel:Rel F σ a w)=>wo (Qf:=Qof F (CE V rs.toList R)) (fun σ a w h hr=>⟨σ,(by
  simp only at h
  cases hl:XT V σ rs.toList with
  | none=>rw[hl]at h;simp[rA]at h
  | some l=>rw[hl]at h;simp only[CE,hl];exact h),hr⟩) (fun σ a w h hr=>⟨σ,(by
  simp only at h
  cases hl:XT V σ rs.toList with
  | none=>rw[hl]at h;simp[rA]at h
  | some l=>rw[hl]at h;simp only[CE,hl];exact h),hr⟩) (fun c a w ⟨_,h,_⟩=>h) fuel items σ h a w hrel
 refine Dw (J:=J) (fun σ a w hJ hr=>?_) (key fuel _ _ h1 a w hrel)
 refine wp_seq (wp_mono (hm F rfl a w σ hJ hr) ?_)
 rintro e a w ⟨rfl,σ',hJ2,HI⟩
 exact key fuel2 [.code rest] σ' (h2 σ' hJ2) a w HI
end
end Vc
namespace Go.Proofs.YteipdaijbncgeaaGreatDoor
open Go Vc Go.RowKit Go.Lib Wf
section
variable {V:Cx}
theorem Db {P:Program}{o:Oper}{a:Act}{w w':World}{s:Operand}{t:TypeId}(ho:o.op=.call { callee:=.builtin .clear,args:=#[s],argTypes:=#[t] }){v:Value}(hr:(Builtin.clear_ #[t] o.type #[a.eval s]).run P w=.ok v w') :
 (execOp a.eval o).run P w=.ok (.value v) w':=by
 unfold execOp
 simp only[ho,resolve,invoke,builtin,Sem.run_bind,Sem.run_pure,Result.andThen_ok,List.map_toArray,zMH,List.map_nil,hr]
theorem E9 {F:Fx V}{id:Nat}{T e ty1 ty2 ty3 ty4:TypeId}{d1 d2 d3:Tmp}{x y:Operand}{p1 p2 p3 p4:String}{e1 e2 e3 e4:Array Edge}{σ:St}{q n k s:Nat}{c:List SV}
 (hx:ev σ.t x=some (.o q n)) (hy:∀ v,ev (put (some d1) v σ.t) y=some (.int .i64 k)) (hq:σ.b[q]? = some (.own c e s n true)) (hk:k<n) (pg:d1<F.n) (nC:d2<F.n) (Fu:d3<F.n) (h12:d1≠d2)
 (ht:V.P.underlying T=some (.slice e)) {ti:TI} (jI:V.Γ e=some ti) (hs:ti.size=s) (eV:0<s) (lL:ti.zero.all one=true) {a:Act} {w:World} (hr:Rel F σ a w) :
 (Code.region id #[⟨some d1,.move x,ty1,p1,e1,none⟩,⟨some d2,.move y,ty2,p2,e2,none⟩,⟨some d3,.slice T (.tmp d1) (some (.tmp d2)) none none,ty3,p3,e3,none⟩,⟨none,.call ⟨.builtin .clear,#[.tmp d3],#[T]⟩,ty4,p4,e4,none⟩] false).wp V.P
  (fun ex a w=>ex=.normal∧∃ σ',(∃ v2 v3 v4 zs,zs.length=(n - k) * s∧σ'=⟨put (some d3) v4 (put (some d2) v3 (put (some d1) v2 σ.t)),σ.b.set q (.own (c.take (k * s)++zs) e s n true)⟩)∧Rel F σ' a w) a w:=by
 obtain⟨β,fp,hf,hw⟩:=hr
 have oD:=(zL2.1 hq).1
 have dO:=yn hw hq
 refine wp_region_list ?_
 refine de rfl (v':=ah β (.o q n)) (w':=w) (by rw[← hf.ev hx (bp.refl _ β)];rfl) ?_
 have y7:=hf.put (dst:=some d1) (x:=.o q n) (by simpa[fits] using pg) (v:=ah β (.o q n)) (fun β' hβ=>by simp only[ah];rw[hβ q oD])
 refine de rfl (v':=.int .i64 k) (w':=w) (by
  have:=y7.ev (hy _) (bp.refl _ β)
  simp only[ah]at this
  rw[← this];rfl) ?_
 have Fp:=y7.put (dst:=some d2) (x:=.int .i64 k) (by simpa[fits] using nC) (v:=.int .i64 k) (fun β' hβ=>rfl)
 have q1:Vc.ev (put (some d2) (.int .i64 k) (put (some d1) (.o q n) σ.t)) (.tmp d1)=some (.o q n):=by simp[Vc.ev,put,lk,h12,Ne.symm h12]
 have q2:Vc.ev (put (some d2) (.int .i64 k) (put (some d1) (.o q n) σ.t)) (.tmp d2)=some (.int .i64 k):=by simp[Vc.ev,put,lk]
 have v1:=Fp.ev q1 (bp.refl _ β)
 have v2:=Fp.ev q2 (bp.refl _ β)
 rcases hw.own hq (bp.refl _ β) with⟨-,h0,-⟩|⟨fL,hnc,vy,-,hli,hm,qH⟩
 ·omega
 obtain⟨uE,rest,fz,⟨hg,-⟩,sX,kF⟩:=hm rfl
 have e0:ah β (.o q n)=.slice (some ⟨(β q).cB,0,none⟩) n ((β q).cap - 1):=by simp[ah,oV,fL,uE]
 rw[e0]at v1 v2 ⊢
 change _=Value.int .i64 k at v2
 obtain⟨i,z,hi,hz,o8,-,CK⟩:=(V.gI e ti jI).info
 have CJ:=(V.gI e ti jI).len
 have mg:=(V.gI e ti jI).flat
 have uA:z.cells.size=s:=by rw[CK];simp[CJ,hs]
 have hzv:∀ w,(zeroValue e).run V.P w=.ok z w:=fun w=>by simp[zeroValue,typeInfo,hi,hz]
 have kC:(Go.sizeOf e).run V.P w=.ok s w:=by simp[Go.sizeOf,typeInfo,hi,o8,hs]
 have hZ:∀ β',(oQ ti.zero (n - k)).map (ah β')=(Builtin.zeroCells z.cells (n - k)).toList:=fun β'=>by
  rw[pL,mg β']
  have h2:=Au z.cells (n - k) (by omega)
  have h3:z.cells.toList=ti.zero.map (ah jR):=by rw[CK]
  rw[← h3,← h2]
  rfl
 have hZl:(oQ ti.zero (n - k)).length=(n - k) * s:=by
  have:=congrArg List.length (hZ β)
  simpa[size_zeroCells,uA] using this
 have h1:(oQ ti.zero (n - k)).all one=true:=by
  generalize n - k=j
  induction j with
  | zero=>rfl
  | succ j ih=>simp[oQ,lL,ih]
 obtain⟨w',om,hw'⟩:=hw.store (P:=V.P) (i:=q) (c:=c) (T:=e) (by simp[iy,hq]) (off:=k * s) (ys:=oQ ti.zero (n - k)) (fun β' _=>by rw[hZ,hZ]) h1 (by rw[hZl,dO,← Nat.add_mul];exact zMD _ (by omega))
 rw[hZ,uE,zMB]at om
 have iu:sn σ.b q (Xs c (k * s) (oQ ti.zero (n - k)))=σ.b.set q (.own (c.take (k * s)++oQ ti.zero (n - k)) e s n true):=by
  rw[sJ hq]
  simp only[sm,Xs]
  rw[hZl,zMd (by rw[dO,← Nat.add_mul];exact zMD _ (by omega)),zMj]
 rw[iu]at hw'
 have w9:(Instr.sliceAt T (.slice (some ⟨(β q).cB,0,none⟩) n ((β q).cap - 1)) (some (.int .i64 k)) none none).run V.P w=.ok (.slice (some ⟨(β q).cB,k * s,none⟩) (n - k) ((β q).cap - 1 - k)) w:=by
  have hb:(Instr.sliceBounds true n ((β q).cap - 1) (some (.int .i64 k)) none none).run V.P w=Result.ok (k,n,(β q).cap - 1) w:=by
   have:=(vj (β:=β) hnc (lo:=some (.int .i64 k)) (hi:=none) (c:=_) (f:=_) (u:=_) rfl (by constructor <;> omega) V.P w).1
   simpa[ah] using this
  have Fw:¬ ((β q).cap - 1=k):=by omega
  simp only[Instr.sliceAt,Instr.slice,run_underlying ht,hb,kC,Sem.run_bind,Result.andThen_ok,Sem.run_pure,Option.map_some,dh]
  simp[Fw]
 refine de rfl (v':=.slice (some ⟨(β q).cB,k * s,none⟩) (n - k) ((β q).cap - 1 - k)) (w':=w) (by
  refine bE ?_
  simp only[Option.map_some,Option.map_none]
  refine Eq.trans (congrArg (fun s=>Sem.run V.P s w) (by rw[v1,v2])) w9) ?_
 have hf3:=Fp.put (dst:=some d3) (x:=.v (.slice (some ⟨(β q).cB,k * s,none⟩) (n - k) ((β q).cap - 1 - k))) (by simpa[fits] using Fu) (v:=.slice (some ⟨(β q).cB,k * s,none⟩) (n - k) ((β q).cap - 1 - k)) (fun β' hβ=>rfl)
 have q3:Vc.ev (put (some d3) (.v (.slice (some ⟨(β q).cB,k * s,none⟩) (n - k) ((β q).cap - 1 - k))) (put (some d2) (.int .i64 k) (put (some d1) (.o q n) σ.t))) (.tmp d3)=some (.v (.slice (some ⟨(β q).cB,k * s,none⟩) (n - k) ((β q).cap - 1 - k))):=by simp[Vc.ev,put,lk]
 have v3:=hf3.ev q3 (bp.refl _ β)
 rw[e0]at v3
 refine de rfl (v':=.tuple #[]) (w':=w') (Db rfl (Eq.trans (congrArg (fun s=>Sem.run V.P s w) (by rw[v3];rfl)) (tz w T e ty4 z ht hzv (β q).cB (k * s) (n - k) ((β q).cap - 1 - k) (by omega) om))) ?_
 show Exit.normal=Exit.normal∧_
 refine⟨rfl,⟨put (some d3) (.v (.slice (some ⟨(β q).cB,k * s,none⟩) (n - k) ((β q).cap - 1 - k))) (put (some d2) (.int .i64 k) (put (some d1) (.o q n) σ.t)),σ.b.set q (.own (c.take (k * s)++oQ ti.zero (n - k)) e s n true)⟩,⟨_,_,_,_,hZl,rfl⟩,β,fp,?_,hw'⟩
 rw[zL7]
 rw[e0]at hf3
 exact hf3
end
open Go Vc Go.RowKit Wf
def Hk (p:En→Bool)(L:List En):Int:=match L.findIdx? p with
 | some k=>k
 | none=>-1
theorem w7 {p:En→Bool}{L:List En}(h:∀ j (hj:j<L.length),p L[j]=false):Hk p L=-1:=by
 unfold Hk
 rw[List.findIdx?_eq_none_iff.2 (fun x hx=>by
  obtain⟨j,hj,rfl⟩:=List.mem_iff_getElem.1 hx
  rw[h j hj])]
theorem w6 {p:En→Bool}{L:List En}{k:Nat}(hk:k<L.length)(hp:p L[k]=true)(h:∀ j (hj:j<k),p (L[j]'(by omega))=false):Hk p L=k:=by
 unfold Hk
 rw[List.findIdx?_eq_some_iff_getElem.2 ⟨hk,hp,fun j hj=>by rw[h j hj];simp⟩]
section
variable {b:List ay} {q i g:Nat} {L:List En} {m:Bool} {X:ay} {p:En→Bool}
theorem sc_IdxF (hq:b[q]? = some (.own (L.flatMap enc) 43 14 L.length m))(hi:b[i]? = some X)(hp:∀ e∈L,SC Tryz.V g [.agg (enc e),.p i 0] b (fun r b'=>r=.bool (p e)∧b'=b))(hl:L.length≤1000000) :
 SC Tryz.V 63 [.o q L.length,.fn (.func g) [.p i 0]] b (fun r b'=>r=.int .i64 (Hk p L)∧b'=b):=by
 have oD:=(zL2.1 hq).1
 have dR:=(zL2.1 hi).1
 refine cK 3000 Tryz.func63 rfl Tryz.ntmps63 Tryz.results63 Tryz.call63 (by simp) (aw b.length _ (by simp[within,within.aN,oD,dR])) ?_
 simp only[ad,↓Xn,↓Xo,↓Xg,↓Xd,↓Xe,↓Xf,Tryz.VΓ,Tryz.Γs,Xp,Xi,Nat.reduceAdd,Nat.reduceSub,Nat.reduceLT,Nat.reduceLeDiff,reduceIte,reduceCtorEq,Nat.reduceEqDiff,implies_true,forall_const,aa,ak,beq_self_eq_true,bne_self_eq_false,Int.reduceBEq,Int.reduceBNe,Int.reduceLT,Int.reduceLE]
 refine aJ (fun σ=>∃ (k:Nat),lk 0 σ.t=some (.o q L.length)∧lk 1 σ.t=some (.fn (.func g) [.p i 0])∧lk 7 σ.t=some (.int .i64 L.length)∧lk 8 σ.t=some (.int .i64 k)∧k≤L.length∧σ.b=b∧∀ j (hj:j<k) (hl:j<L.length),p L[j]=false) (fun σ=>L.length - iH 8 σ) ⟨0,rfl,rfl,rfl,rfl,by omega,rfl,fun j hj=>by omega⟩ ?_
 rintro⟨t,b1⟩ ⟨k,l0,l1,l7,l8,hk,rfl,fA⟩
 simp only at l0 l1 l7 l8
 rw[ax l8]
 by_cases c:k<L.length
 ·have ci:decide ((k:Int)<(L.length:Int))=true:=by simpa using c
  have dS:=gd L k c
  simp only[ad,↓Xn,↓Xo,↓Xg,↓Xd,↓Xe,↓Xf,Tryz.VΓ,Tryz.Γs,Xp,Xi,Nat.reduceAdd,Nat.reduceSub,Nat.reduceLT,Nat.reduceLeDiff,reduceIte,reduceCtorEq,Nat.reduceEqDiff,implies_true,forall_const,aa,ak,beq_self_eq_true,bne_self_eq_false,Int.reduceBEq,Int.reduceBNe,Int.reduceLT,Int.reduceLE,l0,l1,l7,l8,ci,hq,dS]
  refine⟨⟨by omega,by omega⟩,by rw[aQ];omega,aG (hp _ (zMl c)) ?_⟩
  rintro x b2 ⟨rfl,rfl⟩
  cases hpk:p L[k]
  ·simp only[ad,↓Xn,↓Xo,↓Xg,↓Xd,↓Xe,↓Xf,Tryz.VΓ,Tryz.Γs,Xp,Xi,Nat.reduceAdd,Nat.reduceSub,Nat.reduceLT,Nat.reduceLeDiff,reduceIte,reduceCtorEq,Nat.reduceEqDiff,implies_true,forall_const,aa,ak,beq_self_eq_true,bne_self_eq_false,Int.reduceBEq,Int.reduceBNe,Int.reduceLT,Int.reduceLE,l0,l1,l7,l8]
   refine⟨by omega,⟨k+1,rfl,by omega,fun j hj mA=>?_⟩,?_⟩
   ·by_cases e:j=k
    ·subst e;exact hpk
    ·exact fA j (by omega) mA
   ·rw[ax (show lk 8 _=some (.int .i64 ((k+1:Nat):Int)) from rfl)];omega
  ·simp only[ad,↓Xn,↓Xo,↓Xg,↓Xd,↓Xe,↓Xf,Tryz.VΓ,Tryz.Γs,Xp,Xi,Nat.reduceAdd,Nat.reduceSub,Nat.reduceLT,Nat.reduceLeDiff,reduceIte,reduceCtorEq,Nat.reduceEqDiff,implies_true,forall_const,aa,ak,beq_self_eq_true,bne_self_eq_false,Int.reduceBEq,Int.reduceBNe,Int.reduceLT,Int.reduceLE,l0,l1,l7,l8]
   rw[w6 c hpk (fun j hj=>fA j hj _)]
 ·have ci:decide ((k:Int)<(L.length:Int))=false:=by simpa using c
  simp only[ad,↓Xn,↓Xo,↓Xg,↓Xd,↓Xe,↓Xf,Tryz.VΓ,Tryz.Γs,Xp,Xi,Nat.reduceAdd,Nat.reduceSub,Nat.reduceLT,Nat.reduceLeDiff,reduceIte,reduceCtorEq,Nat.reduceEqDiff,implies_true,forall_const,aa,ak,beq_self_eq_true,bne_self_eq_false,Int.reduceBEq,Int.reduceBNe,Int.reduceLT,Int.reduceLE,l0,l1,l7,l8,ci]
  rw[w7 (fun j hj=>fA j (by omega) hj)]
theorem sc_IdxN (hi:b[i]? = some X):SC Tryz.V 63 [.aD,.fn (.func g) [.p i 0]] b (fun r b'=>r=.int .i64 (-1)∧b'=b):=by
 have dR:=(zL2.1 hi).1
 refine cK 3000 Tryz.func63 rfl Tryz.ntmps63 Tryz.results63 Tryz.call63 (by simp) (aw b.length _ (by simp[within,within.aN,dR])) ?_
 simp only[ad,↓Xn,↓Xo,↓Xg,↓Xd,↓Xe,↓Xf,Tryz.VΓ,Tryz.Γs,Xp,Xi,Nat.reduceAdd,Nat.reduceSub,Nat.reduceLT,Nat.reduceLeDiff,reduceIte,reduceCtorEq,Nat.reduceEqDiff,implies_true,forall_const,aa,ak,beq_self_eq_true,bne_self_eq_false,Int.reduceBEq,Int.reduceBNe,Int.reduceLT,Int.reduceLE]
 refine aJ (fun σ=>lk 7 σ.t=some (.int .i64 0)∧lk 8 σ.t=some (.int .i64 0)∧σ.b=b) (fun σ=>0) ⟨rfl,rfl,rfl⟩ ?_
 rintro⟨t,b1⟩ ⟨l7,l8,rfl⟩
 simp only at l7 l8
 simp only[ad,↓Xn,↓Xo,↓Xg,↓Xd,↓Xe,↓Xf,Tryz.VΓ,Tryz.Γs,Xp,Xi,Nat.reduceAdd,Nat.reduceSub,Nat.reduceLT,Nat.reduceLeDiff,reduceIte,reduceCtorEq,Nat.reduceEqDiff,implies_true,forall_const,aa,ak,beq_self_eq_true,bne_self_eq_false,Int.reduceBEq,Int.reduceBNe,Int.reduceLT,Int.reduceLE,l7,l8]
def EB (q:Nat)(b b':List ay):Prop:=b.length≤b'.length∧∀ k s,b[k]? = some s→k≠q→b'[k]? = some s
theorem EB.refl (q:Nat)(b:List ay):EB q b b:=⟨zL9 _,fun _ _ h _=>h⟩
theorem EB.app {q:Nat}{b b':List ay}(h:EB q b b')(l:List ay):EB q b (b'++l):=⟨by simp;have:=h.1;omega,fun k s hk hn=>af (h.2 k s hk hn) _⟩
theorem EB.set {q:Nat}{b b':List ay}(h:EB q b b')(Y:ay):EB q b (b'.set q Y):=⟨by simpa using h.1,fun k s hk hn=>aF (h.2 k s hk hn) (Ne.symm hn) _⟩
theorem FG (p:En→Bool)(L:List En):(∀ j (hj:j<L.length),p L[j]=false)∨∃ (k:Nat) (hk:k<L.length),p L[k]=true∧∀ j (hj:j<k),p (L[j]'(by omega))=false:=by
 cases h:L.findIdx? p with
 | none =>
   rw[List.findIdx?_eq_none_iff]at h
   exact .inl fun j hj=>h _ (zMl hj)
 | some k =>
   rw[List.findIdx?_eq_some_iff_getElem]at h
   obtain⟨hk,h1,h2⟩:=h
   exact .inr ⟨k,hk,h1,fun j hj=>by simpa using h2 j hj⟩
def jV (p:En→Bool)(L:List En)(j:Nat):List En:=(L.take j).filter fun e=>!p e
theorem nZ {p:En→Bool}{L:List En}{j:Nat}(hj:j<L.length)(h:p L[j]=true):jV p L (j+1)=jV p L j:=by
 unfold jV;rw[zMa hj,zMv];simp[h]
theorem n8 {p:En→Bool}{L:List En}{j:Nat}(hj:j<L.length)(h:p L[j]=false):jV p L (j+1)=jV p L j++[L[j]]:=by
 unfold jV;rw[zMa hj,zMv];simp[h]
theorem AQ {p:En→Bool}{L:List En}:jV p L L.length=L.filter fun e=>!p e:=by unfold jV;rw[zMF]
theorem AP {p:En→Bool}{L:List En}:∀ {j:Nat},j≤L.length→(∀ k (hk:k<L.length),k<j→p L[k]=false)→jV p L j=L.take j
 | 0,_,_=>by simp[jV]
 | j+1,hj,h=>by rw[n8 (by omega) (h j (by omega) (by omega)),AP (by omega) (fun k hk hkj=>h k hk (by omega)),zMa (by omega)]
structure yZ (p:En→Bool) (L:List En) (j:Nat) (c:List SV):Prop where
 len:c.length=L.length * 14
 pre:c.take ((jV p L j).length * 14)=(jV p L j).flatMap enc
 suf:c.drop (j * 14)=(L.drop j).flatMap enc
theorem yZ.cell {p:En→Bool}{L:List En}{j:Nat}{c:List SV}(h:yZ p L j c)(hj:j<L.length):(c.drop (j * 14)).take 14=enc L[j]:=by
 rw[h.suf,List.drop_eq_getElem_cons hj,zMx]
 exact List.take_left' rfl
theorem yZ.skip {p:En→Bool}{L:List En}{j:Nat}{c:List SV}(h:yZ p L j c)(hj:j<L.length)(hp:p L[j]=true):yZ p L (j+1) c :=
 ⟨h.len,by rw[nZ hj hp];exact h.pre,by
  rw[show (j+1) * 14=j * 14+14 by omega,← zMz,h.suf,List.drop_eq_getElem_cons hj,zMx]
  exact List.drop_left' rfl⟩
theorem yZ.bQ {p:En→Bool}{L:List En}{j:Nat}{c:List SV}(h:yZ p L j c)(hj:j<L.length)(hp:p L[j]=false)(aA:(jV p L j).length<j):yZ p L (j+1) (c.take ((jV p L j).length * 14)++enc L[j]++c.drop ((jV p L j).length * 14+14)):=by
 have e14:(enc L[j]).length=14:=rfl
 have hl:=h.len
 refine⟨?_,?_,?_⟩
 ·rw[zL3,zL3,zL6,zMf,e14];omega
 ·rw[n8 hj hp,zMp,zL3,List.length_singleton,← h.pre]
  rw[zMk (by rw[zL3,zL6,e14];omega),zMi (by rw[zL3,zL6,e14];omega)]
  simp
 ·rw[zME,zMd (by rw[zL3,zL6,e14];omega),zMm,zMz,zL3,zL6,e14]
  rw[show (jV p L j).length * 14+14+((j+1) * 14 - (min ((jV p L j).length * 14) c.length+14))=j * 14+14 by omega,← zMz,h.suf,List.drop_eq_getElem_cons hj,zMx]
  exact List.drop_left' rfl
theorem iQ (L:List En)(k:Nat):(L.flatMap enc).take (k * 14)=(L.take k).flatMap enc∧(L.flatMap enc).drop (k * 14)=(L.drop k).flatMap enc:=by
 have h:(L.flatMap enc)=(L.take k).flatMap enc++(L.drop k).flatMap enc:=by rw[← zMp,zMy]
 by_cases hk:k≤L.length
 ·have hl:((L.take k).flatMap enc).length=k * 14:=by rw[aQ,zL6];omega
  rw[h]
  exact⟨List.take_left' hl,List.drop_left' hl⟩
 ·rw[zMi (by rw[aQ];omega),zMi (by omega),zMd (by rw[aQ];omega),zMd (by omega)]
  exact⟨rfl,rfl⟩
theorem sc_DelF (hq:b[q]? = some (.own (L.flatMap enc) 43 14 L.length true))(hi:b[i]? = some X)(hiq:i≠q)(hp:∀ b':List ay,b'[i]? = some X→∀ e∈L,SC Tryz.V g [.agg (enc e),.p i 0] b' (fun r b2=>r=.bool (p e)∧b2=b'))(v8:∀ e∈L,one e.v.tr=true)(hl:L.length≤1000000) :
 SC Tryz.V 42 [.o q L.length,.fn (.func g) [.p i 0]] b (fun r b'=>EB q b b'∧∃ q',r=.o q' (L.filter fun e=>!p e).length∧b'[q']? = some (.own ((L.filter fun e=>!p e).flatMap enc) 43 14 (L.filter fun e=>!p e).length true)∧(q'=q∨b.length≤q')):=by
 have oD:=(zL2.1 hq).1
 have dR:=(zL2.1 hi).1
 refine sc_mid (fun _=>.ord []) [_,_,_,_] _ _ 3000 3000 Tryz.func42 rfl Tryz.ntmps42 Tryz.results42 Tryz.call42 (by simp) (aw b.length _ (by simp[within,within.aN,oD,dR]))
  (fun σ=>∃ c',lk 0 σ.t=some (.o q L.length)∧lk 5 σ.t=some (.int .i64 (L.filter fun e=>!p e).length)∧σ.b[q]? = some (.own c' 43 14 L.length true)∧(L.filter fun e=>!p e).length<L.length∧c'.take ((L.filter fun e=>!p e).length * 14)=(L.filter fun e=>!p e).flatMap enc∧EB q b σ.b)
  (fun σ=>∃ c',lk 0 σ.t=some (.o q L.length)∧lk 5 σ.t=some (.int .i64 (L.filter fun e=>!p e).length)∧σ.b[q]? = some (.own c' 43 14 L.length true)∧(L.filter fun e=>!p e).length<L.length∧c'.take ((L.filter fun e=>!p e).length * 14)=(L.filter fun e=>!p e).flatMap enc∧EB q b σ.b) ?_ ?_ ?_
 ·simp only[ad,↓Xn,↓Xo,↓Xg,↓Xd,↓Xe,↓Xf,Tryz.VΓ,Tryz.Γs,Xp,Xi,Nat.reduceAdd,Nat.reduceSub,Nat.reduceLT,Nat.reduceLeDiff,reduceIte,reduceCtorEq,Nat.reduceEqDiff,implies_true,forall_const,aa,ak,beq_self_eq_true,bne_self_eq_false,Int.reduceBEq,Int.reduceBNe,Int.reduceLT,Int.reduceLE,zMH,List.map_nil,List.cons_append,zMm]
  refine aG (sc_IdxF hq hi (hp b hi) hl) ?_
  rintro x b1 ⟨rfl,rfl⟩
  rcases FG p L with fA|⟨k0,sC,hpk,hbe⟩
  ·rw[w7 fA]
   have hM:(L.filter fun e=>!p e)=L:=List.filter_eq_self.2 fun x hx=>by
    obtain⟨j,hj,rfl⟩:=List.mem_iff_getElem.1 hx
    rw[fA j hj];rfl
   rw[hM]
   simp only[ad,↓Xn,↓Xo,↓Xg,↓Xd,↓Xe,↓Xf,Tryz.VΓ,Tryz.Γs,Xp,Xi,Nat.reduceAdd,Nat.reduceSub,Nat.reduceLT,Nat.reduceLeDiff,reduceIte,reduceCtorEq,Nat.reduceEqDiff,implies_true,forall_const,aa,ak,beq_self_eq_true,bne_self_eq_false,Int.reduceBEq,Int.reduceBNe,Int.reduceLT,Int.reduceLE]
   exact⟨EB.refl _ _,_,rfl,hq,.inl rfl⟩
  ·rw[w6 sC hpk hbe]
   have bk:((k0:Int)==-1)=false:=by rw[beq_eq_false_iff_ne];omega
   simp only[ad,↓Xn,↓Xo,↓Xg,↓Xd,↓Xe,↓Xf,Tryz.VΓ,Tryz.Γs,Xp,Xi,Nat.reduceAdd,Nat.reduceSub,Nat.reduceLT,Nat.reduceLeDiff,reduceIte,reduceCtorEq,Nat.reduceEqDiff,implies_true,forall_const,aa,ak,beq_self_eq_true,bne_self_eq_false,Int.reduceBEq,Int.reduceBNe,Int.reduceLT,Int.reduceLE,bk]
   have dz:jV p L (k0+1)=L.take k0:=by rw[nZ sC hpk,AP (by omega) (fun k hk hkk=>hbe k hkk)]
   have sV:(L.take k0).length=k0:=by rw[zL6];omega
   refine⟨by omega,?_⟩
   refine aJ (fun σ=>∃ (j:Nat) (c':List SV),lk 0 σ.t=some (.o q L.length)∧lk 1 σ.t=some (.fn (.func g) [.p i 0])∧lk 5 σ.t=some (.int .i64 (jV p L j).length)∧lk 6 σ.t=some (.int .i64 j)∧σ.b[q]? = some (.own c' 43 14 L.length true)∧yZ p L j c'∧(jV p L j).length<j∧j≤L.length∧EB q b1 σ.b) (fun σ=>L.length - iH 6 σ) ⟨k0+1,L.flatMap enc,rfl,rfl,by rw[dz,sV];rfl,rfl,hq,⟨aQ L,by rw[dz,sV];exact(iQ L k0).1,(iQ L _).2⟩,by rw[dz,sV];omega,by omega,EB.refl _ _⟩ ?_
   rintro⟨t,b2⟩ ⟨j,c',l0,l1,l5,l6,lq,hD,aA,hj,cg⟩
   simp only at l0 l1 l5 l6 lq cg
   rw[ax l6]
   have hql2:=(zL2.1 lq).1
   have F9:=cg.2 i _ hi hiq
   by_cases c:j<L.length
   ·have ci:decide ((j:Int)<(L.length:Int))=true:=by simpa using c
    have dS:=hD.cell c
    have dX:(enc L[j]).length=14:=rfl
    have fG:(enc L[j]).take 14=enc L[j]:=zMi (by rw[dX];omega)
    have hY:(enc L[j]).all one=true:=by
     have:=v8 _ (zMl c)
     simp[enc,Vc.one]at this ⊢;exact this
    simp only[ad,↓Xn,↓Xo,↓Xg,↓Xd,↓Xe,↓Xf,Tryz.VΓ,Tryz.Γs,Xp,Xi,Nat.reduceAdd,Nat.reduceSub,Nat.reduceLT,Nat.reduceLeDiff,reduceIte,reduceCtorEq,Nat.reduceEqDiff,implies_true,forall_const,aa,ak,beq_self_eq_true,bne_self_eq_false,Int.reduceBEq,Int.reduceBNe,Int.reduceLT,Int.reduceLE,l0,l1,l5,l6,ci,lq,dS,dX,fG,zMI,List.drop_nil,List.drop_zero,zMj]
    refine⟨⟨by omega,by omega⟩,by rw[hD.len];omega,hY,aG (hp _ (af F9 _) _ (zMl c)) ?_⟩
    rintro x b3 ⟨rfl,rfl⟩
    have iu:∀ (l:List ay) Y,(b2++l).set q Y=b2.set q Y++l:=fun l Y=>bS hql2 l Y
    cases hpj:p L[j]
    ·simp only[ad,↓Xn,↓Xo,↓Xg,↓Xd,↓Xe,↓Xf,Tryz.VΓ,Tryz.Γs,Xp,Xi,Nat.reduceAdd,Nat.reduceSub,Nat.reduceLT,Nat.reduceLeDiff,reduceIte,reduceCtorEq,Nat.reduceEqDiff,implies_true,forall_const,aa,ak,beq_self_eq_true,bne_self_eq_false,Int.reduceBEq,Int.reduceBNe,Int.reduceLT,Int.reduceLE,l0,l1,l5,l6,lq,af lq,dX,fG,iu]
     have sV:=hD.len
     refine⟨⟨by omega,by omega⟩,⟨hY,by omega⟩,by omega,by omega,⟨j+1,c'.take ((jV p L j).length * 14)++enc L[j]++c'.drop ((jV p L j).length * 14+14),by rw[n8 c hpj];simp,rfl,?_,hD.bQ c hpj aA,by rw[n8 c hpj,zL3,List.length_singleton];omega,by omega,(cg.set _).app _⟩,?_⟩
     ·rw[zMw];exact af (zL5 hql2) _
     ·rw[ax (show lk 6 _=some (.int .i64 ((j+1:Nat):Int)) from rfl)];omega
    ·simp only[ad,↓Xn,↓Xo,↓Xg,↓Xd,↓Xe,↓Xf,Tryz.VΓ,Tryz.Γs,Xp,Xi,Nat.reduceAdd,Nat.reduceSub,Nat.reduceLT,Nat.reduceLeDiff,reduceIte,reduceCtorEq,Nat.reduceEqDiff,implies_true,forall_const,aa,ak,beq_self_eq_true,bne_self_eq_false,Int.reduceBEq,Int.reduceBNe,Int.reduceLT,Int.reduceLE,l0,l1,l5,l6,lq]
     refine⟨by omega,⟨j+1,c',by rw[nZ c hpj],rfl,af lq _,hD.skip c hpj,by rw[nZ c hpj];omega,by omega,cg.app _⟩,?_⟩
     rw[ax (show lk 6 _=some (.int .i64 ((j+1:Nat):Int)) from rfl)];omega
   ·have ci:decide ((j:Int)<(L.length:Int))=false:=by simpa using c
    obtain rfl:j=L.length:=by omega
    rw[AQ]at aA l5
    have F2:=hD.pre
    rw[AQ]at F2
    simp only[ad,↓Xn,↓Xo,↓Xg,↓Xd,↓Xe,↓Xf,Tryz.VΓ,Tryz.Γs,Xp,Xi,Nat.reduceAdd,Nat.reduceSub,Nat.reduceLT,Nat.reduceLeDiff,reduceIte,reduceCtorEq,Nat.reduceEqDiff,implies_true,forall_const,aa,ak,beq_self_eq_true,bne_self_eq_false,Int.reduceBEq,Int.reduceBNe,Int.reduceLT,Int.reduceLE,l0,l1,l5,l6,ci,lq]
    exact⟨_,rfl,aA,F2,cg⟩
 ·rintro F hF a w σ ⟨c',l0,l5,lq,aA,hc,cg⟩ hr
  have hF42:F.n=42:=hF
  obtain⟨ti,jI,hts,htz⟩:∃ ti,Tryz.V.Γ 43=some ti∧ti.size=14∧ti.zero.all one=true:=⟨_,rfl,rfl,rfl⟩
  refine wp_mono (E9 (V:=Tryz.V) (x:=.tmp 0) (y:=.tmp 5) (d1:=36) (d2:=37) (d3:=38) (T:=22) (e:=43) (σ:=σ) (q:=q) (n:=L.length) (k:=(L.filter fun e=>!p e).length) (s:=14) (c:=c') l0 (fun v=>by simpa[Vc.ev,put,lk] using l5) lq aA (by rw[hF42];decide) (by rw[hF42];decide) (by rw[hF42];decide) (by decide) (by kernel_rfl) jI hts (by decide) htz hr) ?_
  rintro ex a w ⟨rfl,σ',⟨v2,v3,v4,zs,uA,rfl⟩,HI⟩
  refine⟨rfl,_,⟨c'.take ((L.filter fun e=>!p e).length * 14)++zs,?_,?_,?_,aA,?_,cg.set _⟩,HI⟩
  ·simpa[lk,put] using l0
  ·simpa[lk,put] using l5
  ·exact zL5 (zL2.1 lq).1
  ·have hl':=yn (V:=Tryz.V) (F:=F) (c:=c') hr.choose_spec.choose_spec.2 lq
   rw[zMk (by rw[zL6,hl'];omega),List.take_take,Nat.min_self]
   exact hc
 ·rintro⟨t,b1⟩ ⟨c',l0,l5,lq,aA,hc,cg⟩
  simp only at l0 l5 lq cg
  simp only[ad,↓Xn,↓Xo,↓Xg,↓Xd,↓Xe,↓Xf,Tryz.VΓ,Tryz.Γs,Xp,Xi,Nat.reduceAdd,Nat.reduceSub,Nat.reduceLT,Nat.reduceLeDiff,reduceIte,reduceCtorEq,Nat.reduceEqDiff,implies_true,forall_const,aa,ak,beq_self_eq_true,bne_self_eq_false,Int.reduceBEq,Int.reduceBNe,Int.reduceLT,Int.reduceLE,l0,l5,lq]
  exact⟨⟨by omega,by omega⟩,(cg.set _).app _,_,rfl,by rw[← hc];exact a6 (by simp) _ 0,.inr (by have:=cg.1;simp;omega)⟩
theorem Gz (hi:b[i]? = some X):SC Tryz.V 42 [.aD,.fn (.func g) [.p i 0]] b (fun r b'=>r=.aD∧b'=b):=by
 have dR:=(zL2.1 hi).1
 refine cK 3000 Tryz.func42 rfl Tryz.ntmps42 Tryz.results42 Tryz.call42 (by simp) (aw b.length _ (by simp[within,within.aN,dR])) ?_
 simp only[ad,↓Xn,↓Xo,↓Xg,↓Xd,↓Xe,↓Xf,Tryz.VΓ,Tryz.Γs,Xp,Xi,Nat.reduceAdd,Nat.reduceSub,Nat.reduceLT,Nat.reduceLeDiff,reduceIte,reduceCtorEq,Nat.reduceEqDiff,implies_true,forall_const,aa,ak,beq_self_eq_true,bne_self_eq_false,Int.reduceBEq,Int.reduceBNe,Int.reduceLT,Int.reduceLE]
 refine aG (sc_IdxN hi) ?_
 rintro x b1 ⟨rfl,rfl⟩
 simp only[ad,↓Xn,↓Xo,↓Xg,↓Xd,↓Xe,↓Xf,Tryz.VΓ,Tryz.Γs,Xp,Xi,Nat.reduceAdd,Nat.reduceSub,Nat.reduceLT,Nat.reduceLeDiff,reduceIte,reduceCtorEq,Nat.reduceEqDiff,implies_true,forall_const,aa,ak,beq_self_eq_true,bne_self_eq_false,Int.reduceBEq,Int.reduceBNe,Int.reduceLT,Int.reduceLE]
end
end Go.Proofs.YteipdaijbncgeaaGreatDoor
namespace Vc
open Go Go.RowKit Wf
theorem PC.scs {V:Cx}{f:FuncId}{args:List SV}{bs:List ay}{x:SV}(h:PC V f args x):SC V f args bs (fun r b=>r=x∧b=bs):=by
 refine⟨h.enters,fun β fp w fU hG hE=>?_⟩
 rw[di args h.fa β jR]
 refine(h.calls w hE).mono ?_
 rintro e w' ⟨he,hb⟩
 have eU:=fU β (bp.refl _ _)
 refine⟨x,bs,β,fp,⟨rfl,rfl⟩,bp.refl _ _,zL9 _,fun β' hβ=>⟨by rw[he,fD x h.fr jR β'],⟨fun i r hi=>((fU β' hβ).holds i r hi).stays (fun k hk=>hb.block k (eU.lt i r hi k hk)),fun i r hi k hk=>Nat.lt_of_lt_of_le (eU.lt i r hi k hk) hb.size,eU.sep⟩⟩,mD.jE hb,fun i r hi hm k hk=>.inr ⟨i,r,hi,hm,hk⟩,fun i r hi k hk=>.inr ⟨i,r,hi,hk⟩⟩
mutual
theorem nS {m n:Nat}(uF:m≤n)(x:SV)(h:within m x=true):within n x=true:=by
 cases x <;> simp only[within,decide_eq_true_eq]at h ⊢
 ·omega
 ·omega
 ·omega
 ·exact ic uF _ h
 ·exact ic uF _ h
 ·exact ic uF _ h
 ·exact ic uF _ h
 ·exact nS uF _ h
theorem ic {m n:Nat}(uF:m≤n)(l:List SV)(h:within.aN m l=true):within.aN n l=true:=by
 cases l with
 | nil=>rfl
 | cons x r =>
   simp only[within.aN,Bool.and_eq_true]at h ⊢
   exact⟨nS uF x h.1,ic uF r h.2⟩
end
end Vc
namespace Go.Proofs.YteipdaijbncgeaaGreatDoor
open Go Vc Go.RowKit Wf
def jS (a b:Int):Int:=if IntKind.u64.wrap (a+b)<a then 18446744073709551615 else IntKind.u64.wrap (a+b)
theorem pP (a b:Int):PC Tryz.V 29 [.int .u64 a,.int .u64 b] (.int .u64 (jS a b)):=by
 unfold jS
 refine aU 3000 Tryz.func29 rfl Tryz.ntmps29 Tryz.results29 Tryz.call29 (by simp) (by simp[flat,flat.ai]) (by simp[flat,flat.ai]) ?_
 by_cases h:IntKind.u64.wrap (a+b)<a
 ·have hd:decide (IntKind.u64.wrap (a+b)<a)=true:=by simpa using h
  rw[if_pos h]
  simp only[ad,↓Xn,↓Xo,↓Xg,↓Xd,↓Xe,↓Xf,Tryz.VΓ,Tryz.Γs,Xp,Xi,Nat.reduceAdd,Nat.reduceSub,Nat.reduceLT,Nat.reduceLeDiff,reduceIte,reduceCtorEq,Nat.reduceEqDiff,implies_true,forall_const,aa,beq_self_eq_true,bne_self_eq_false,Int.reduceBEq,Int.reduceBNe,Int.reduceLT,Int.reduceLE]
  intro h2;rw[hd]at h2;cases h2
 ·have hd:decide (IntKind.u64.wrap (a+b)<a)=false:=by simpa using h
  rw[if_neg h]
  simp only[ad,↓Xn,↓Xo,↓Xg,↓Xd,↓Xe,↓Xf,Tryz.VΓ,Tryz.Γs,Xp,Xi,Nat.reduceAdd,Nat.reduceSub,Nat.reduceLT,Nat.reduceLeDiff,reduceIte,reduceCtorEq,Nat.reduceEqDiff,implies_true,forall_const,aa,beq_self_eq_true,bne_self_eq_false,Int.reduceBEq,Int.reduceBNe,Int.reduceLT,Int.reduceLE]
  intro h2;rw[hd]at h2;cases h2
def jZ (v:Vd):Bool:=v.err==0&&v.store&&decide (1≤v.dU)&&decide (v.dU≤86400)
def zeroV:Vd:=⟨0,⟨0,[],[],0⟩,⟨0,[],[],0⟩,false,0,.aD⟩
theorem lu (v:Vd)(hv:v.tr=.aD):eJ v=[.int .i64 v.err,.int .i64 v.id.kind,.str v.id.text,.str v.id.host,.int .i64 v.id.port,.int .i64 v.cP.kind,.str v.cP.text,.str v.cP.host,.int .i64 v.cP.port,.bool v.store,.int .u64 v.dU,.aD]:=by unfold eJ;rw[hv]
theorem p_New (n:Int):PC Tryz.V 10 [.int .i64 n] (if n<0∨1024<n then .eN [.agg [.int .i64 0,.aD],.int .i64 4] else .eN [.agg [.int .i64 n,.aD],.int .i64 0]):=by
 split
 ·rename_i h
  refine aU 3000 Tryz.func10 rfl Tryz.ntmps10 Tryz.results10 Tryz.call10 (by simp) (by simp[flat,flat.ai]) (by simp[flat,flat.ai]) ?_
  by_cases h1:n<0
  ·have hd:decide (n<0)=true:=by simpa using h1
   simp only[ad,↓Xn,↓Xo,↓Xg,↓Xd,↓Xe,↓Xf,Tryz.VΓ,Tryz.Γs,Xp,Xi,Nat.reduceAdd,Nat.reduceSub,Nat.reduceLT,Nat.reduceLeDiff,reduceIte,reduceCtorEq,Nat.reduceEqDiff,implies_true,forall_const,aa,beq_self_eq_true,bne_self_eq_false,Int.reduceBEq,Int.reduceBNe,Int.reduceLT,Int.reduceLE,hd]
  ·have hd:decide (n<0)=false:=by simpa using h1
   have nC:decide (1024<n)=true:=by simp;omega
   simp only[ad,↓Xn,↓Xo,↓Xg,↓Xd,↓Xe,↓Xf,Tryz.VΓ,Tryz.Γs,Xp,Xi,Nat.reduceAdd,Nat.reduceSub,Nat.reduceLT,Nat.reduceLeDiff,reduceIte,reduceCtorEq,Nat.reduceEqDiff,implies_true,forall_const,aa,beq_self_eq_true,bne_self_eq_false,Int.reduceBEq,Int.reduceBNe,Int.reduceLT,Int.reduceLE,hd,nC]
 ·rename_i h
  refine aU 3000 Tryz.func10 rfl Tryz.ntmps10 Tryz.results10 Tryz.call10 (by simp) (by simp[flat,flat.ai]) (by simp[flat,flat.ai]) ?_
  have hd:decide (n<0)=false:=by simp;omega
  have nC:decide (1024<n)=false:=by simp;omega
  simp only[ad,↓Xn,↓Xo,↓Xg,↓Xd,↓Xe,↓Xf,Tryz.VΓ,Tryz.Γs,Xp,Xi,Nat.reduceAdd,Nat.reduceSub,Nat.reduceLT,Nat.reduceLeDiff,reduceIte,reduceCtorEq,Nat.reduceEqDiff,implies_true,forall_const,aa,beq_self_eq_true,bne_self_eq_false,Int.reduceBEq,Int.reduceBNe,Int.reduceLT,Int.reduceLE,hd,nC]
section
variable {b:List ay} {q:Nat} {L:List En} {m:Bool} {t:Bytes} {cp now:Int}
def getM (L:List En)(t:Bytes)(now:Int):Vd × Bool:=match L[ia En.key L t]? with
 | some e=>if dm En.key L t&&!decide (now<e.stored)&&!decide (e.aP≤now) then(e.v,true) else(zeroV,false)
 | none=>(zeroV,false)
theorem sc_Get {x:SV}(h:gC b x L m)(ha:kq En.key L)(hl:L.length≤1000000)(hT:∀ e∈L,e.v.tr=.aD) :
 SC Tryz.V 20 [.agg [.int .i64 cp,x],.str t,.int .u64 now] b (fun r b'=>r=.eN [.agg (eJ (getM L t now).1),.bool (getM L t now).2]∧Kp b b'):=by
 have hw:=h.within
 have ho:=h.one
 refine cK 3000 Tryz.func20 rfl Tryz.ntmps20 Tryz.results20 Tryz.call20 (by simp) (aw b.length _ (by simp[within,within.aN,hw])) ?_
 simp only[ad,↓Xn,↓Xo,↓Xg,↓Xd,↓Xe,↓Xf,Tryz.VΓ,Tryz.Γs,Xp,Xi,Nat.reduceAdd,Nat.reduceSub,Nat.reduceLT,Nat.reduceLeDiff,reduceIte,reduceCtorEq,Nat.reduceEqDiff,implies_true,forall_const,aa,ak,beq_self_eq_true,bne_self_eq_false,Int.reduceBEq,Int.reduceBNe,Int.reduceLT,Int.reduceLE,ho]
 refine aG (xO (h.kp ((Kp.refl _).app _)) ha hl (fun e he=>by rw[hT e he];exact⟨rfl,rfl⟩)) ?_
 rintro y b1 ⟨rfl,rfl⟩
 cases hh:dm En.key L t
 ·have hg:getM L t now=(zeroV,false):=by
   unfold getM;rw[hh];split <;> simp
  rw[hg]
  simp only[ad,↓Xn,↓Xo,↓Xg,↓Xd,↓Xe,↓Xf,Tryz.VΓ,Tryz.Γs,Xp,Xi,Nat.reduceAdd,Nat.reduceSub,Nat.reduceLT,Nat.reduceLeDiff,reduceIte,reduceCtorEq,Nat.reduceEqDiff,implies_true,forall_const,aa,ak,beq_self_eq_true,bne_self_eq_false,Int.reduceBEq,Int.reduceBNe,Int.reduceLT,Int.reduceLE,hh]
  exact⟨rfl,(Kp.refl _).app _⟩
 ·obtain⟨hk,iv⟩:=(qn ha).1 hh
  obtain⟨q,rfl,hq⟩:∃ q,x=.o q L.length∧b[q]? = some (.own (L.flatMap enc) 43 14 L.length m):=by
   rcases h with⟨rfl,rfl⟩|h
   ·simp at hk
   ·exact h
  have g1:(L.flatMap enc)[ia En.key L t * 14+12]? = some (.int .u64 L[ia En.key L t].stored):=(iK L _ hk 12 (by omega)).trans rfl
  have g2:(L.flatMap enc)[ia En.key L t * 14+13]? = some (.int .u64 L[ia En.key L t].aP):=(iK L _ hk 13 (by omega)).trans rfl
  have dS:=s5 L _ hk
  have hvn:=hT _ (zMl hk)
  have hg:getM L t now=if !decide (now<L[ia En.key L t].stored)&&!decide (L[ia En.key L t].aP≤now) then(L[ia En.key L t].v,true) else(zeroV,false):=by
   unfold getM;rw[hh,zMn hk];simp
  rw[hg]
  have mh:=aQ L
  have sS:=lu _ hvn
  cases c1:decide (now<L[ia En.key L t].stored)
  ·cases c2:decide (L[ia En.key L t].aP≤now)
   ·simp only[ad,↓Xn,↓Xo,↓Xg,↓Xd,↓Xe,↓Xf,Tryz.VΓ,Tryz.Γs,Xp,Xi,Nat.reduceAdd,Nat.reduceSub,Nat.reduceLT,Nat.reduceLeDiff,reduceIte,reduceCtorEq,Nat.reduceEqDiff,implies_true,forall_const,aa,ak,beq_self_eq_true,bne_self_eq_false,Int.reduceBEq,Int.reduceBNe,Int.reduceLT,Int.reduceLE,hh,hq,af hq,g1,g2,c1,c2]
    refine⟨⟨by omega,by omega⟩,by rw[mh];omega,⟨by omega,by omega⟩,by rw[mh];omega,⟨by omega,by omega⟩,by rw[mh];omega,?_⟩
    rw[dS]
    refine ae (tP hvn) ?_
    simp only[ad,↓Xn,↓Xo,↓Xg,↓Xd,↓Xe,↓Xf,Tryz.VΓ,Tryz.Γs,Xp,Xi,Nat.reduceAdd,Nat.reduceSub,Nat.reduceLT,Nat.reduceLeDiff,reduceIte,reduceCtorEq,Nat.reduceEqDiff,implies_true,forall_const,aa,ak,beq_self_eq_true,bne_self_eq_false,Int.reduceBEq,Int.reduceBNe,Int.reduceLT,Int.reduceLE,sS]
    exact(Kp.refl _).app _
   ·simp only[ad,↓Xn,↓Xo,↓Xg,↓Xd,↓Xe,↓Xf,Tryz.VΓ,Tryz.Γs,Xp,Xi,Nat.reduceAdd,Nat.reduceSub,Nat.reduceLT,Nat.reduceLeDiff,reduceIte,reduceCtorEq,Nat.reduceEqDiff,implies_true,forall_const,aa,ak,beq_self_eq_true,bne_self_eq_false,Int.reduceBEq,Int.reduceBNe,Int.reduceLT,Int.reduceLE,hh,hq,af hq,g1,g2,c1,c2]
    exact⟨⟨by omega,by omega⟩,by rw[mh];omega,⟨by omega,by omega⟩,by rw[mh];omega,rfl,(Kp.refl _).app _⟩
  ·simp only[ad,↓Xn,↓Xo,↓Xg,↓Xd,↓Xe,↓Xf,Tryz.VΓ,Tryz.Γs,Xp,Xi,Nat.reduceAdd,Nat.reduceSub,Nat.reduceLT,Nat.reduceLeDiff,reduceIte,reduceCtorEq,Nat.reduceEqDiff,implies_true,forall_const,aa,ak,beq_self_eq_true,bne_self_eq_false,Int.reduceBEq,Int.reduceBNe,Int.reduceLT,Int.reduceLE,hh,hq,af hq,g1,g2,c1]
   exact⟨⟨by omega,by omega⟩,by rw[mh];omega,rfl,(Kp.refl _).app _⟩
theorem sc_exp1 {i:Nat}{T:TypeId}{mm:Bool}(hi:b[i]? = some (.cells [.int .u64 now] T mm)){e:En}(hv:e.v.tr=.aD):SC Tryz.V 43 [.agg (enc e),.p i 0] b (fun r b'=>r=.bool (decide (e.aP≤now))∧b'=b):=by
 have dR:=(zL2.1 hi).1
 refine fm rfl ?_
 have he:enc e=[.int .i64 e.v.err,.int .i64 e.v.id.kind,.str e.v.id.text,.str e.v.id.host,.int .i64 e.v.id.port,.int .i64 e.v.cP.kind,.str e.v.cP.text,.str e.v.cP.host,.int .i64 e.v.cP.port,.bool e.v.store,.int .u64 e.v.dU,.aD,.int .u64 e.stored,.int .u64 e.aP]:=by unfold enc;rw[hv]
 rw[he]
 refine cK 3000 Tryz.func43 rfl Tryz.ntmps43 Tryz.results43 Tryz.call43 (by simp) (aw b.length _ (by simp[within,within.aN,dR])) ?_
 simp only[ad,↓Xn,↓Xo,↓Xg,↓Xd,↓Xe,↓Xf,Tryz.VΓ,Tryz.Γs,Xp,Xi,Nat.reduceAdd,Nat.reduceSub,Nat.reduceLT,Nat.reduceLeDiff,reduceIte,reduceCtorEq,Nat.reduceEqDiff,implies_true,forall_const,aa,ak,beq_self_eq_true,bne_self_eq_false,Int.reduceBEq,Int.reduceBNe,Int.reduceLT,Int.reduceLE,hi,af hi]
 exact(Kp.refl _).app _
def eL (L:List En)(now:Int):List En:=L.filter fun e=>!decide (e.aP≤now)
theorem wG {x:SV}(h:gC b x L m)(uF:m=true∨L.length≠0∨x=.aD)(hl:L.length≤1000000)(hT:∀ e∈L,e.v.tr=.aD) :
 SC Tryz.V 23 [.agg [.int .i64 cp,x],.int .u64 now] b (fun r b'=>Kp b b'∧∃ x',r=.agg [.int .i64 cp,x']∧gC b' x' (eL L now) true∧((x=.aD∧x'=.aD)∨x≠.aD∧∃ q',x'=.o q' (eL L now).length∧b.length≤q'∧b'[q']? = some (.own ((eL L now).flatMap enc) 43 14 (eL L now).length true))):=by
 have hw:=h.within
 have ho:=h.one
 refine cK 3000 Tryz.func23 rfl Tryz.ntmps23 Tryz.results23 Tryz.call23 (by simp) (aw b.length _ (by simp[within,within.aN,hw])) ?_
 rcases h with⟨rfl,rfl⟩|⟨q,rfl,hq⟩
 ·simp only[ad,↓Xn,↓Xo,↓Xg,↓Xd,↓Xe,↓Xf,Tryz.VΓ,Tryz.Γs,Xp,Xi,Nat.reduceAdd,Nat.reduceSub,Nat.reduceLT,Nat.reduceLeDiff,reduceIte,reduceCtorEq,Nat.reduceEqDiff,implies_true,forall_const,aa,ak,beq_self_eq_true,bne_self_eq_false,Int.reduceBEq,Int.reduceBNe,Int.reduceLT,Int.reduceLE,ho]
  refine aG rN ?_
  rintro y b1 ⟨rfl,rfl⟩
  simp only[ad,↓Xn,↓Xo,↓Xg,↓Xd,↓Xe,↓Xf,Tryz.VΓ,Tryz.Γs,Xp,Xi,Nat.reduceAdd,Nat.reduceSub,Nat.reduceLT,Nat.reduceLeDiff,reduceIte,reduceCtorEq,Nat.reduceEqDiff,implies_true,forall_const,aa,ak,beq_self_eq_true,bne_self_eq_false,Int.reduceBEq,Int.reduceBNe,Int.reduceLT,Int.reduceLE]
  refine aG (Gz (a6 rfl _ 1)) ?_
  rintro y b1 ⟨rfl,rfl⟩
  simp only[ad,↓Xn,↓Xo,↓Xg,↓Xd,↓Xe,↓Xf,Tryz.VΓ,Tryz.Γs,Xp,Xi,Nat.reduceAdd,Nat.reduceSub,Nat.reduceLT,Nat.reduceLeDiff,reduceIte,reduceCtorEq,Nat.reduceEqDiff,implies_true,forall_const,aa,ak,beq_self_eq_true,bne_self_eq_false,Int.reduceBEq,Int.reduceBNe,Int.reduceLT,Int.reduceLE]
  exact⟨(Kp.refl _).app _,_,rfl,.inl ⟨rfl,rfl⟩,by simp⟩
 ·simp only[ad,↓Xn,↓Xo,↓Xg,↓Xd,↓Xe,↓Xf,Tryz.VΓ,Tryz.Γs,Xp,Xi,Nat.reduceAdd,Nat.reduceSub,Nat.reduceLT,Nat.reduceLeDiff,reduceIte,reduceCtorEq,Nat.reduceEqDiff,implies_true,forall_const,aa,ak,beq_self_eq_true,bne_self_eq_false,Int.reduceBEq,Int.reduceBNe,Int.reduceLT,Int.reduceLE,ho]
  refine aG (tw (af hq _) (by rcases uF with h|h|h;exact .inl h;exact .inr h;cases h) hT hl) ?_
  rintro y b1 ⟨rfl,rfl⟩
  simp only[ad,↓Xn,↓Xo,↓Xg,↓Xd,↓Xe,↓Xf,Tryz.VΓ,Tryz.Γs,Xp,Xi,Nat.reduceAdd,Nat.reduceSub,Nat.reduceLT,Nat.reduceLeDiff,reduceIte,reduceCtorEq,Nat.reduceEqDiff,implies_true,forall_const,aa,ak,beq_self_eq_true,bne_self_eq_false,Int.reduceBEq,Int.reduceBNe,Int.reduceLT,Int.reduceLE]
  refine aG (sc_DelF (q:=b.length+3) (i:=b.length+1) (p:=fun e=>decide (e.aP≤now)) (a6 rfl _ 3) (a6 rfl _ 1) (by omega) (fun b' hb' e he=>sc_exp1 hb' (hT e he)) (fun e he=>by rw[hT e he];rfl) hl) ?_
  rintro y b2 ⟨cg,q',rfl,hq',F1⟩
  have eU:=cg.2 b.length _ (a6 rfl _ 0) (by omega)
  have kY:=cg.2 (b.length+2) _ (a6 rfl _ 2) (by omega)
  have gF:=cg.1
  rw[zL3]at gF
  simp only[List.length_cons,List.length_nil]at gF
  have n0:q'≠b.length:=by rintro rfl;rw[eU]at hq';cases hq'
  have n2:q'≠b.length+2:=by rintro rfl;rw[kY]at hq';cases hq'
  have CO:∀ X,(b2.set b.length X)[b.length]? = some X:=fun X=>zL5 (by omega)
  have fK:∀ X,(b2.set b.length X)[b.length+2]? = _:=fun X=>aF kY (by omega) X
  have hs3:∀ X Y,((b2.set b.length X).set (b.length+2) Y)[b.length+2]? = some Y:=fun X Y=>zL5 (by rw[zL7];omega)
  simp only[ad,↓Xn,↓Xo,↓Xg,↓Xd,↓Xe,↓Xf,Tryz.VΓ,Tryz.Γs,Xp,Xi,Nat.reduceAdd,Nat.reduceSub,Nat.reduceLT,Nat.reduceLeDiff,reduceIte,reduceCtorEq,Nat.reduceEqDiff,implies_true,forall_const,aa,ak,beq_self_eq_true,bne_self_eq_false,Int.reduceBEq,Int.reduceBNe,Int.reduceLT,Int.reduceLE,eU,kY,CO,fK,hs3]
  have hk:Kp b b2:=⟨by omega,fun k hk=>by
   rw[cg.2 k _ (af (zMn hk) _) (by omega),zMn hk]⟩
  exact⟨(hk.set (zL9 _) _).set (by omega) _,_,rfl,.inr ⟨q',rfl,aF (aF hq' (Ne.symm n0) _) (Ne.symm n2) _⟩,.inr ⟨by simp,q',rfl,by simp at F1;omega,aF (aF hq' (Ne.symm n0) _) (Ne.symm n2) _⟩⟩
theorem Dg {L:List En}(hT:∀ e∈L,e.v.tr=.aD):within.aN 0 (L.flatMap enc)=true:=by
 induction L with
 | nil=>rfl
 | cons e L ih =>
   have h1:=hT e List.mem_cons_self
   have h2:=ih fun e he=>hT e (zMh _ he)
   rw[zMx]
   unfold enc
   rw[h1]
   simp only[List.cons_append,zMm,within.aN,within,Bool.true_and]
   exact h2
theorem EF (hq:b[q]? = some (.own (L.flatMap enc) 43 14 L.length m))(uF:m=true∨L.length≠0)(hl:L.length≤1000000)(hT:∀ e∈L,e.v.tr=.aD) :
 SC Tryz.V 23 [.agg [.int .i64 cp,.o q L.length],.int .u64 now] b (fun r b'=>r=.agg [.int .i64 cp,.o b.length (eL L now).length]∧b'=b++[.own ((eL L now).flatMap enc) 43 14 (eL L now).length false]):=by
 have hTe:∀ e∈eL L now,e.v.tr=.aD:=fun e he=>hT e (List.mem_filter.1 he).1
 have hw:=Dg hTe
 refine SC.pick ((wG (.inr ⟨q,rfl,hq⟩) (by rcases uF with h|h;exact .inl h;exact .inr (.inl h)) hl hT).mono ?_)
 rintro r b' ⟨cg,x',rfl,-,h⟩
 rcases h with⟨h,-⟩|⟨-,q',rfl,hle,hq'⟩
 ·cases h
 ·refine⟨fun k=>if k=b.length then q' else k,[.own ((eL L now).flatMap enc) 43 14 (eL L now).length false],.agg [.int .i64 cp,.o b.length (eL L now).length],cg,fun k hk=>if_neg (by omega),?_,by simp[ren,oh],by simp[within,within.aN],rfl,rfl⟩
  intro p X hX
  match p,hX with
  | 0,hX =>
    simp only[List.getElem?_cons_zero,Option.some.injEq]at hX
    subst hX
    refine .inr ⟨_,_,_,_,true,rfl,by simp;omega,?_,ic (Nat.zero_le _) _ hw⟩
    rw[gi (m:=0) (fun k hk=>by omega) _ hw]
    simpa using hq'
  | p+1,hX=>simp at hX
theorem tf {x:SV}(h:gC b x L m)(ha:kq En.key L)(hl:L.length≤1000000)(hT:∀ e∈L,e.v.tr=.aD) :
 SC Tryz.V 20 [.agg [.int .i64 cp,x],.str t,.int .u64 now] b (fun r b'=>r=.eN [.agg (eJ (getM L t now).1),.bool (getM L t now).2]∧b'=b):=by
 have hn:(getM L t now).1.tr=.aD:=by
  unfold getM
  split
  ·rename_i e he
   split
   ·exact hT e (List.mem_of_getElem? he)
   ·rfl
  ·rfl
 exact fm (by rw[lu _ hn];rfl) (sc_Get h ha hl hT)
end
open Go Vc Go.RowKit Wf
theorem quo2 {k:Nat}(hk:k≤1000000):qv .quo .i64 ((k:Int) - 1) 2=(((k - 1) / 2:Nat):Int):=by
 have e:Int.tdiv ((k:Int) - 1) 2=(((k - 1) / 2:Nat):Int):=by
  cases k with
  | zero=>rfl
  | succ k =>
    have e:((k+1:Nat):Int) - 1=(k:Int):=by omega
    rw[e]
    simp only[Nat.add_sub_cancel]
    exact(Int.ofNat_tdiv k 2).symm
 show IntKind.wrap .i64 (Int.tdiv ((k:Int) - 1) 2)=_
 rw[e]
 simp only[IntKind.wrap,IntKind.signed,IntKind.bits]
 simp
 omega
section
variable {b:List ay} {q j r:Nat} {m:Bool} {L:List En} {P:List Nat}
theorem zu {P:List Nat}{i k n:Nat}(hi:i<P.length)(hk:k<P.length)(hP:∀ c,c<P.length→P.getD c 0<n):∀ c,c<(mL P i k).length→(mL P i k).getD c 0<n:=fun c hc=>by
 rw[eH]at hc
 rw[gK hi hk]
 split
 ·exact hP i hi
 ·split
  ·exact hP k hk
  ·exact hP c hc
theorem Cd (h:QS b q j r m L P)(hP:∀ c,c<P.length→P.getD c 0<L.length){k:Nat}(hk:k<P.length)(hl:P.length≤1000000) :
 SC Tryz.V 83 [.DT 96 (.p q 0),.int .i64 k] b (fun x b'=>x=.eN []∧QS b' q j r m L (BQ (oq L) (k+1) P k)∧IZ q r b b'):=by
 have oD:=(zL2.1 h.bq).1
 refine cK 3000 Tryz.func83 rfl Tryz.ntmps83 Tryz.results83 Tryz.call83 (by simp) (aw b.length _ (by simp[within,within.aN,oD])) ?_
 simp only[ad,↓Xn,↓Xo,↓Xg,↓Xd,↓Xe,↓Xf,Tryz.VΓ,Tryz.Γs,Xp,Xi,Nat.reduceAdd,Nat.reduceSub,Nat.reduceLT,Nat.reduceLeDiff,reduceIte,reduceCtorEq,Nat.reduceEqDiff,implies_true,forall_const,aa,ak,beq_self_eq_true,bne_self_eq_false,Int.reduceBEq,Int.reduceBNe,Int.reduceLT,Int.reduceLE]
 refine aJ (fun σ=>∃ (fu:Nat) (P':List Nat) (k':Nat),lk 0 σ.t=some (.DT 96 (.p q 0))∧lk 1 σ.t=some (.int .i64 k')∧QS σ.b q j r m L P'∧IZ q r b σ.b∧k'<P'.length∧k'<fu∧P'.length=P.length∧(∀ c,c<P'.length→P'.getD c 0<L.length)∧BQ (oq L) fu P' k'=BQ (oq L) (k+1) P k) (fun σ=>iH 1 σ) ⟨k+1,P,k,rfl,rfl,h,IZ.refl _ _ _,hk,by omega,rfl,hP,rfl⟩ ?_
 rintro⟨t,b1⟩ ⟨fu,P',k',l0,l1,hq,cg,hk',hfu,hPl,hP',hup⟩
 simp only at l0 l1 hq cg
 rw[ax l1]
 obtain⟨f,rfl⟩:∃ f,fu=f+1:=⟨fu - 1,by omega⟩
 rw[BQ]at hup
 have qi:=quo2 (k:=k') (by omega)
 have hi:(k' - 1) / 2<P'.length:=by omega
 have h0:P'.length≠0:=by omega
 by_cases vx:(k' - 1) / 2=k'
 ·have e0:k'=0:=by omega
  subst e0
  have hc:((((0 - 1) / 2:Nat):Int)==((0:Nat):Int))=true:=rfl
  rw[if_pos (.inl vx)]at hup
  rw[← hup]
  simp only[ad,↓Xn,↓Xo,↓Xg,↓Xd,↓Xe,↓Xf,Tryz.VΓ,Tryz.Γs,Xp,Xi,Nat.reduceAdd,Nat.reduceSub,Nat.reduceLT,Nat.reduceLeDiff,reduceIte,reduceCtorEq,Nat.reduceEqDiff,implies_true,forall_const,aa,ak,beq_self_eq_true,bne_self_eq_false,Int.reduceBEq,Int.reduceBNe,Int.reduceLT,Int.reduceLE,l0,l1,qi,hc]
  exact⟨⟨by omega,by omega⟩,by decide,hq,cg⟩
 ·have hc:((((k' - 1) / 2:Nat):Int)==(k':Int))=false:=by rw[beq_eq_false_iff_ne];omega
  simp only[ad,↓Xn,↓Xo,↓Xg,↓Xd,↓Xe,↓Xf,Tryz.VΓ,Tryz.Γs,Xp,Xi,Nat.reduceAdd,Nat.reduceSub,Nat.reduceLT,Nat.reduceLeDiff,reduceIte,reduceCtorEq,Nat.reduceEqDiff,implies_true,forall_const,aa,ak,beq_self_eq_true,bne_self_eq_false,Int.reduceBEq,Int.reduceBNe,Int.reduceLT,Int.reduceLE,l0,l1,qi,hc,VM_Less,Ey]
  refine⟨⟨by omega,by omega⟩,by decide,aG (ES hq hk' hi hP') ?_⟩
  rintro x b2 ⟨rfl,rfl⟩
  cases D6:kP (oq L) (P'.getD k' 0) (P'.getD ((k' - 1) / 2) 0)
  ·rw[if_pos (.inr D6)]at hup
   rw[← hup]
   simp only[ad,↓Xn,↓Xo,↓Xg,↓Xd,↓Xe,↓Xf,Tryz.VΓ,Tryz.Γs,Xp,Xi,Nat.reduceAdd,Nat.reduceSub,Nat.reduceLT,Nat.reduceLeDiff,reduceIte,reduceCtorEq,Nat.reduceEqDiff,implies_true,forall_const,aa,ak,beq_self_eq_true,bne_self_eq_false,Int.reduceBEq,Int.reduceBNe,Int.reduceLT,Int.reduceLE,Bool.not_false]
   exact⟨hq,cg⟩
  ·rw[if_neg (by rw[D6];simp[vx])]at hup
   simp only[ad,↓Xn,↓Xo,↓Xg,↓Xd,↓Xe,↓Xf,Tryz.VΓ,Tryz.Γs,Xp,Xi,Nat.reduceAdd,Nat.reduceSub,Nat.reduceLT,Nat.reduceLeDiff,reduceIte,reduceCtorEq,Nat.reduceEqDiff,implies_true,forall_const,aa,ak,beq_self_eq_true,bne_self_eq_false,Int.reduceBEq,Int.reduceBNe,Int.reduceLT,Int.reduceLE,l0,l1,Bool.not_true,Ey]
   refine aG (EP hq hi hk') ?_
   rintro x b3 ⟨rfl,rfl⟩
   simp only[ad,↓Xn,↓Xo,↓Xg,↓Xd,↓Xe,↓Xf,Tryz.VΓ,Tryz.Γs,Xp,Xi,Nat.reduceAdd,Nat.reduceSub,Nat.reduceLT,Nat.reduceLeDiff,reduceIte,reduceCtorEq,Nat.reduceEqDiff,implies_true,forall_const,aa,ak,beq_self_eq_true,bne_self_eq_false,Int.reduceBEq,Int.reduceBNe,Int.reduceLT,Int.reduceLE,l0,l1]
   refine⟨⟨f,mL P' ((k' - 1) / 2) k',(k' - 1) / 2,rfl,hq.swap h0 _ (eH _ _ _),⟨by simpa using cg.1,fun i s hs h1 h2=>aF (cg.2 i s hs h1 h2) (Ne.symm h2) _⟩,by rw[eH];exact hi,by omega,by rw[eH];exact hPl,zu hi hk' hP',hup⟩,?_⟩
   rw[ax (show lk 1 _=some (.int .i64 (((k' - 1) / 2:Nat):Int)) from rfl)];omega
end
open Go Vc Go.RowKit Wf
section
variable {b:List ay} {q j r:Nat} {m:Bool} {L:List En} {P:List Nat}
theorem IZ.trans {q r r':Nat}{b b1 b2:List ay}(h1:IZ q r b b1)(hr:b.length≤r')(h2:IZ q r' b1 b2):IZ q r b b2 :=
 ⟨zMC h1.1 h2.1,fun i s hi hq hr'=>h2.2 i s (h1.2 i s hi hq hr') hq (by have:=(zL2.1 hi).1;omega)⟩
theorem z6 {P:List Nat}{n N:Nat}(hP:∀ c,c<P.length→P.getD c 0<N)(hn:n<N):∀ c,c<(P++[n]).length→(P++[n]).getD c 0<N:=fun c hc=>by
 rw[zL3]at hc
 simp only[List.length_singleton]at hc
 rw[List.getD_eq_getElem?_getD]
 by_cases h:c<P.length
 ·rw[zL8 h,← List.getD_eq_getElem?_getD];exact hP c h
 ·obtain rfl:c=P.length:=by omega
  simpa using hn
theorem xN (h:QS b q j r m L P)(hP:∀ c,c<P.length→P.getD c 0<L.length){n:Nat}(hn:n<L.length)(hl:P.length<1000000) :
 SC Tryz.V 59 [.DT 96 (.p q 0),.DT 3 (.int .i64 n)] b (fun x b'=>x=.eN []∧∃ r',b.length≤r'∧QS b' q j r' m L (BQ (oq L) (P.length+1) (P++[n]) P.length)∧IZ q r b b'):=by
 have oD:=(zL2.1 h.bq).1
 refine cK 3000 Tryz.func59 rfl Tryz.ntmps59 Tryz.results59 Tryz.call59 (by simp) (aw b.length _ (by simp[within,within.aN,oD])) ?_
 simp only[ad,↓Xn,↓Xo,↓Xg,↓Xd,↓Xe,↓Xf,Tryz.VΓ,Tryz.Γs,Xp,Xi,Nat.reduceAdd,Nat.reduceSub,Nat.reduceLT,Nat.reduceLeDiff,reduceIte,reduceCtorEq,Nat.reduceEqDiff,implies_true,forall_const,aa,ak,beq_self_eq_true,bne_self_eq_false,Int.reduceBEq,Int.reduceBNe,Int.reduceLT,Int.reduceLE,VM_Push]
 refine aG (ER h (by omega) n) ?_
 rintro x b1 ⟨rfl,r1,hr1,h1,k1⟩
 simp only[ad,↓Xn,↓Xo,↓Xg,↓Xd,↓Xe,↓Xf,Tryz.VΓ,Tryz.Γs,Xp,Xi,Nat.reduceAdd,Nat.reduceSub,Nat.reduceLT,Nat.reduceLeDiff,reduceIte,reduceCtorEq,Nat.reduceEqDiff,implies_true,forall_const,aa,ak,beq_self_eq_true,bne_self_eq_false,Int.reduceBEq,Int.reduceBNe,Int.reduceLT,Int.reduceLE,VM_Len]
 refine aG (Gu h1) ?_
 rintro x b2 ⟨rfl,rfl⟩
 have hlen:(P++[n]).length=P.length+1:=by simp
 have e1:((P.length+1:Nat):Int) - 1=((P.length:Nat):Int):=by omega
 simp only[ad,↓Xn,↓Xo,↓Xg,↓Xd,↓Xe,↓Xf,Tryz.VΓ,Tryz.Γs,Xp,Xi,Nat.reduceAdd,Nat.reduceSub,Nat.reduceLT,Nat.reduceLeDiff,reduceIte,reduceCtorEq,Nat.reduceEqDiff,implies_true,forall_const,aa,ak,beq_self_eq_true,bne_self_eq_false,Int.reduceBEq,Int.reduceBNe,Int.reduceLT,Int.reduceLE,hlen]
 refine⟨by omega,?_⟩
 rw[e1]
 refine aG (Cd h1 (z6 hP hn) (k:=P.length) (by omega) (by omega)) ?_
 rintro x b3 ⟨rfl,h3,k3⟩
 simp only[ad,↓Xn,↓Xo,↓Xg,↓Xd,↓Xe,↓Xf,Tryz.VΓ,Tryz.Γs,Xp,Xi,Nat.reduceAdd,Nat.reduceSub,Nat.reduceLT,Nat.reduceLeDiff,reduceIte,reduceCtorEq,Nat.reduceEqDiff,implies_true,forall_const,aa,ak,beq_self_eq_true,bne_self_eq_false,Int.reduceBEq,Int.reduceBNe,Int.reduceLT,Int.reduceLE]
 exact⟨r1,hr1,h3,k1.trans hr1 k3⟩
theorem Gw (hj:b[j]? = some (.own (L.flatMap enc) 43 14 L.length m))(h0:0<L.length)(hl:L.length≤1000000) :
 SC Tryz.V 36 [.o j L.length] b (fun x b'=>x=.int .i64 (dE (oq L) L.length)∧Kp b b'):=by
 have mA:=(zL2.1 hj).1
 refine cK 3000 Tryz.func36 rfl Tryz.ntmps36 Tryz.results36 Tryz.call36 (by simp) (aw b.length _ (by simp[within,within.aN,mA])) ?_
 simp only[ad,↓Xn,↓Xo,↓Xg,↓Xd,↓Xe,↓Xf,Tryz.VΓ,Tryz.Γs,Xp,Xi,Nat.reduceAdd,Nat.reduceSub,Nat.reduceLT,Nat.reduceLeDiff,reduceIte,reduceCtorEq,Nat.reduceEqDiff,implies_true,forall_const,aa,ak,beq_self_eq_true,bne_self_eq_false,Int.reduceBEq,Int.reduceBNe,Int.reduceLT,Int.reduceLE]
 refine aJ (fun σ=>∃ (i:Nat) (r:Nat),lk 3 σ.t=some (.p b.length 0)∧lk 9 σ.t=some (.int .i64 L.length)∧lk 10 σ.t=some (.int .i64 i)∧i≤L.length∧QS σ.b b.length j r m L (gu (oq L) i)∧Kp b σ.b∧b.length≤r) (fun σ=>L.length - iH 10 σ) ⟨0,b.length+1,rfl,rfl,rfl,by omega,⟨a6 rfl _ 0,fun h=>absurd rfl h,af hj _,fun h=>absurd rfl h⟩,(Kp.refl _).app _,by omega⟩ ?_
 rintro⟨t,b1⟩ ⟨i,r,l3,l9,l10,hi,hq,cg,hr⟩
 simp only at l3 l9 l10 hq cg
 rw[ax l10]
 have hlen:=kW (oq L) i
 by_cases c:i<L.length
 ·have ci:decide ((i:Int)<(L.length:Int))=true:=by simpa using c
  simp only[ad,↓Xn,↓Xo,↓Xg,↓Xd,↓Xe,↓Xf,Tryz.VΓ,Tryz.Γs,Xp,Xi,Nat.reduceAdd,Nat.reduceSub,Nat.reduceLT,Nat.reduceLeDiff,reduceIte,reduceCtorEq,Nat.reduceEqDiff,implies_true,forall_const,aa,ak,beq_self_eq_true,bne_self_eq_false,Int.reduceBEq,Int.reduceBNe,Int.reduceLT,Int.reduceLE,l3,l9,l10,ci]
  refine aG (xN hq (fun c hc=>(kV (oq L) i _).1 ⟨c,by omega,rfl⟩ |> fun h=>by omega) c (by omega)) ?_
  rintro x b2 ⟨rfl,r',hr',qi,gG⟩
  rw[hlen]at qi
  simp only[ad,↓Xn,↓Xo,↓Xg,↓Xd,↓Xe,↓Xf,Tryz.VΓ,Tryz.Γs,Xp,Xi,Nat.reduceAdd,Nat.reduceSub,Nat.reduceLT,Nat.reduceLeDiff,reduceIte,reduceCtorEq,Nat.reduceEqDiff,implies_true,forall_const,aa,ak,beq_self_eq_true,bne_self_eq_false,Int.reduceBEq,Int.reduceBNe,Int.reduceLT,Int.reduceLE,l3,l9,l10]
  refine⟨by omega,⟨i+1,r',rfl,by omega,qi,⟨zMC cg.1 gG.1,fun k hk=>by rw[gG.2 k _ (zMn (by have:=cg.1;omega)) (by omega) (by omega)];rw[← zMn (by have:=cg.1;omega)];exact cg.2 k hk⟩,by have:=cg.1;omega⟩,?_⟩
  rw[ax (show lk 10 _=some (.int .i64 ((i+1:Nat):Int)) from rfl)];omega
 ·have ci:decide ((i:Int)<(L.length:Int))=false:=by simpa using c
  obtain rfl:i=L.length:=by omega
  have h0':(gu (oq L) L.length).length≠0:=by omega
  have hqq:=hq.bq
  rw[if_neg h0',hlen]at hqq
  have hrr:=hq.br h0'
  rw[hlen]at hrr
  have a0:(vw (gu (oq L) L.length))[Int.toNat 0 * 1]? = some (.int .i64 (dE (oq L) L.length:Nat)):=by
   have a0:=ur (gu (oq L) L.length) 0 (by omega)
   rw[CZ _ h0]at a0
   exact a0
  have a1:(vw (gu (oq L) L.length)).length=L.length:=by simp[vw,hlen]
  simp only[ad,↓Xn,↓Xo,↓Xg,↓Xd,↓Xe,↓Xf,Tryz.VΓ,Tryz.Γs,Xp,Xi,Nat.reduceAdd,Nat.reduceSub,Nat.reduceLT,Nat.reduceLeDiff,reduceIte,reduceCtorEq,Nat.reduceEqDiff,implies_true,forall_const,aa,ak,beq_self_eq_true,bne_self_eq_false,Int.reduceBEq,Int.reduceBNe,Int.reduceLT,Int.reduceLE,l3,l9,l10,ci,hqq,hrr,a0,a1]
  exact⟨by omega,by simp;omega,cg⟩
end
open Go Vc Go.RowKit Go.Lib Wf
theorem nV {P:Program}(w:World)(dT sT ty e:TypeId)(i:TypeInfo)(hu:P.underlying dT=some (.slice e))(hi:P.info? e=some i)(b o dLen dCap:Nat)(a:Addr)(iX sCap:Nat)(cs:List Value)(hn:cs.length=Nat.min iX dLen * i.size)
 (Fg:∀ j v,cs[j]? = some v→w.cell? (a.add j)=some v) {w':World} (om:(storeCells ⟨b,o,none⟩ cs).run P w=.ok () w') :
 (Builtin.copy_ #[dT,sT] ty #[.slice (some ⟨b,o,none⟩) dLen dCap,.slice (some a) iX sCap]).run P w=.ok (goInt (Nat.min iX dLen)) w':=by
 have hl:=run_loadCells_list (P:=P) w a cs Fg
 simp[Builtin.copy_,run_underlying hu,Builtin.lenOf,Builtin.firstCells,Go.sizeOf,typeInfo,hi,← hn,hl,om]
theorem oc {P:Program}{o:Oper}{a:Act}{w w':World}{s x:Operand}{t t':TypeId}(ho:o.op=.call { callee:=.builtin .copy,args:=#[s,x],argTypes:=#[t,t'] }){v:Value}(hr:(Builtin.copy_ #[t,t'] o.type #[a.eval s,a.eval x]).run P w=.ok v w') :
 (execOp a.eval o).run P w=.ok (.value v) w':=by
 unfold execOp
 simp only[ho,resolve,invoke,builtin,Sem.run_bind,Sem.run_pure,Result.andThen_ok,List.map_toArray,zMH,List.map_nil,hr]
theorem gz {w:World}{g:Nat}{arr:Array Value}{T:TypeId}{fz:Nat × Nat}(hg:w.heap[g]? = some (.cells arr T fz)){o:Nat}{cs:List Value}(h:∀ j v,cs[j]? = some v→arr[o+j]? = some v):∀ j v,cs[j]? = some v→w.cell? ((⟨g,o,none⟩:Addr).add j)=some v:=fun j v hj=>by
 rw[Addr.add_lit,cell_of hg];exact h j v hj
theorem zD {w:World}{g:Nat}{arr:Array Value}{T:TypeId}{fz:Nat × Nat}(hg:w.heap[g]? = some (.cells arr T fz)):w.shape? g=some (T,arr.size):=by
 simp[World.shape?,hg]
theorem xp {w:World}{g:Nat}{arr:Array Value}{T:TypeId}{fz:Nat × Nat}(hg:w.heap[g]? = some (.cells arr T fz))(sX:arr.size<fz.1∨fz.2≤fz.1){j:Nat}(hj:j≤arr.size):w.frozen? ⟨g,j,none⟩=false:=by
 simp[World.frozen?,hg];omega
theorem Hg {α:Type}{A B:List α}{q:Nat}(hA:A.length=q){p:Nat}(hp:p≤q):(A++B).take p=A.take p∧(A++B).drop q=B:=by
 subst hA
 exact⟨zMk hp,by simp⟩
theorem wC {α:Type}{A B x:List α}{p q:Nat}(hA:A.length=p)(hx:x.length=q):(A++B).take p++x++(A++B).drop (p+x.length)=A++x++B.drop q:=by
 subst hA hx
 rw[List.take_left,zME,zMd (by omega),zMm,zMu]
theorem GF {w:World}{g vb:Nat}{arr brr:Array Value}{fz fx:Nat × Nat}(hg:w.heap[g]? = some (.cells arr 43 fz))(hv:w.heap[vb]? = some (.cells brr 43 fx))(bk:vb≠g)(h0:arr.size≠0)(hfx:brr.size<fx.1∨fx.2≤fx.1)(m vc o lb cb:Nat) :
 (callFunc 60 #[.slice (some ⟨vb,0,none⟩) m vc,.slice (some ⟨g,o,none⟩) lb cb]).run Tryz.prog w=.ok (.value (.bool false)) w:=by
 obtain⟨i0,z,sW,AV,eV,-⟩:=iz
 rw[run_callFunc_extern Tryz.func60 (by kernel_rfl) (by kernel_rfl) (by kernel_rfl) (e:=Extern.SlicesOverlaps.overlaps #[22,22] #[4]) (by kernel_rfl),
  Lib.run_overlaps_apart w 22 4 43 (by kernel_rfl) 14 (fun w=>by simp[Go.sizeOf,typeInfo,sW,eV]) ⟨vb,0,none⟩ ⟨g,o,none⟩ m vc lb cb bk _ _ _ _ (zD hv) (zD hg) h0 (xp hv hfx (Nat.zero_le _)) (xp hv hfx (zL9 _))]
 rfl
set_option maxRecDepth 1000000 in
theorem zd {g n cap k m vb vc:Nat}{c rest x restx:List Value}{fz fx:Nat × Nat}{w:World}(hg:w.heap[g]? = some (.cells (c++rest).toArray 43 fz))(sX:c.length+rest.length<fz.1∨fz.2≤fz.1)(hc:c.length=n * 14)(kF:c.length+rest.length=cap * 14)(hk:k<n)(h1:∀ v∈c,v.oneCell'=true)(vy:cap≤maxLen)
 (hm:0<m) (gq:n+m≤cap) (hv:w.heap[vb]? = some (.cells (x++restx).toArray 43 fx)) (hfx:x.length+restx.length<fx.1∨fx.2≤fx.1) (hx:x.length=m * 14) (bk:vb≠g) (Ht:∀ v∈x,v.oneCell'=true) :
 Calls Tryz.prog 38 #[.slice (some ⟨g,0,none⟩) n cap,.int .i64 k,.slice (some ⟨vb,0,none⟩) m vc] w fun e w'=>e=.returned (.slice (some ⟨g,0,none⟩) (n+m) cap)∧∃ q,w'=(Sort.ahead w q).setRow g ((c.take (k * 14)++x++c.drop (k * 14))++rest.drop (m * 14)).toArray:=by
 have mixed:=Tryz.V.mixed
 obtain⟨i0,z,sW,AV,eV,uA,lL,-⟩:=iz
 have hu:Tryz.prog.underlying 22=some (.slice 43):=by kernel_rfl
 have hrl:m * 14≤rest.length:=by omega
 have qI:(c.drop (k * 14)).length=(n - k) * 14:=by rw[zMf,hc,Nat.sub_mul]
 -- the first copy
 obtain⟨R1,hR1⟩:∃ R1:List Value,R1=(c++rest).take ((k+m) * 14)++c.drop (k * 14)++rest.drop (m * 14):=⟨_,rfl⟩
 obtain⟨W1,qJ⟩:∃ W1,W1=w.drew.setRow g R1.toArray:=⟨_,rfl⟩
 have AZ:(storeCells ⟨g,(k+m) * 14,none⟩ (c.drop (k * 14))).run Tryz.prog w.drew=.ok () W1:=by
  have:=bK (P:=Tryz.prog) g ((k+m) * 14) _ fz (c.drop (k * 14)) 0 _ w.drew hg (by simp;omega) (by rw[qI];omega) (fun v hv=>h1 v (List.mem_of_mem_drop hv))
  rw[this,qJ,hR1]
  congr 3
  simp only[zMA]
  congr 1
  rw[qI,show (k+m) * 14+(n - k) * 14=c.length+m * 14 by rw[hc];omega,zME,zMd (by omega),zMm,zMu]
 have hgW:W1.heap[g]? = some (.cells R1.toArray 43 fz):=by
  rw[qJ];exact setRow_heap _ _ _ _ _ _ hg
 have hvW:W1.heap[vb]? = some (.cells (x++restx).toArray 43 fx):=by
  rw[qJ,setRow_other _ _ _ _ bk];exact hv
 have HB:(c.take (k * 14)).length=k * 14:=by rw[zL6,hc];omega
 have hR1l:R1.length=cap * 14:=by
  rw[hR1,zL3,zL3,qI,zL6,zL3,zMf];omega
 obtain⟨W2,Bg⟩:∃ W2,W2=(Sort.ahead w 1).setRow g ((c.take (k * 14)++x++c.drop (k * 14))++rest.drop (m * 14)).toArray:=⟨_,rfl⟩
 have AY:(storeCells ⟨g,k * 14,none⟩ x).run Tryz.prog W1=.ok () W2:=by
  have:=bK (P:=Tryz.prog) g (k * 14) _ fz x 0 _ W1 hgW (by simp[hR1l,hx];omega) (by rw[hx];omega) Ht
  rw[this,Bg,qJ,setRow_setRow]
  show Result.ok () (World.setRow _ _ _)=Result.ok () (World.setRow _ _ _)
  congr 2
  simp only[zMo,zMA]
  have hA:((c++rest).take ((k+m) * 14)).length=(k+m) * 14:=by rw[zL6,zL3];omega
  obtain⟨e1,e2⟩:=Hg (B:=c.drop (k * 14)++rest.drop (m * 14)) hA (p:=k * 14) (by omega)
  rw[hR1,hx,show k * 14+m * 14=(k+m) * 14 by omega,zMw ((c++rest).take _),e1,e2,List.take_take,Nat.min_eq_left (by omega),zMk (by omega)]
  simp only[zMw]
 have hcp1:∀ ty dc sc,(Builtin.copy_ #[22,22] ty #[.slice (some ⟨g,(k+m) * 14,none⟩) (n+m - (k+m)) dc,.slice (some ⟨g,k * 14,none⟩) (n+m - k) sc]).run Tryz.prog w.drew=.ok (goInt ((n - k:Nat):Int)) W1:=fun ty dc sc=>by
  have e:Nat.min (n+m - k) (n+m - (k+m))=n - k:=by simp only[Nat.min_def];split <;> omega
  have:=nV (P:=Tryz.prog) w.drew 22 22 ty _ i0 hu sW g ((k+m) * 14) (n+m - (k+m)) dc ⟨g,k * 14,none⟩ (n+m - k) sc (c.drop (k * 14)) (by rw[e,eV,qI]) (gz (w:=w.drew) (show w.drew.heap[g]? = _ from hg) (fun j v hj=>by
   rw[List.getElem?_drop]at hj
   rw[zMg,zL8 (zL2.1 hj).1];exact hj)) AZ
  rw[this,e]
 have hcp2:∀ ty dc,(Builtin.copy_ #[22,22] ty #[.slice (some ⟨g,k * 14,none⟩) (n+m - k) dc,.slice (some ⟨vb,0,none⟩) m vc]).run Tryz.prog W1=.ok (goInt m) W2:=fun ty dc=>by
  have e:Nat.min m (n+m - k)=m:=by simp only[Nat.min_def];split <;> omega
  have:=nV (P:=Tryz.prog) W1 22 22 ty _ i0 hu sW g (k * 14) (n+m - k) dc ⟨vb,0,none⟩ m vc x (by rw[e,eV,hx]) (gz hvW (fun j v hj=>by
   rw[zMB,zMg,zL8 (zL2.1 hj).1];exact hj)) AY
  rw[this,e]
 have hov:∀ lb cb,(callFunc 60 #[.slice (some ⟨vb,0,none⟩) m vc,.slice (some ⟨g,(k+m) * 14,none⟩) lb cb]).run Tryz.prog w=.ok (.value (.bool false)) w:=fun lb cb =>
  GF hg hv bk (by rw[List.size_toArray,zL3];omega) (by simpa using hfx) m vc _ lb cb
 have hX:Aside (W2=(Sort.ahead w 1).setRow g ((c.take (k * 14)++x++c.drop (k * 14))++rest.drop (m * 14)).toArray):=Bg
 have gD:IntKind.i64.wrap ((k:Int)+(m:Int))=(k:Int)+(m:Int):=by rw[IntKind.wrap_i64];unfold maxLen at vy;omega
 have mu:(0:Int)≤(k:Int)+(m:Int):=by omega
 have mr:k≤n:=by omega
 have htn:((k:Int)+(m:Int)).toNat=k+m:=by omega
 have kY:¬ (cap=k+m):=by omega
 have hb3:(k:Int)≤(n:Int)+(m:Int):=by omega
 have hb4:¬ (cap=k):=by omega
 have hz1':¬ ((m:Int)=0):=by omega
 have FZ:¬ ((k:Int)=(n:Int)):=by omega
 have hc63:cap≤9223372036854775807:=by unfold maxLen at vy;exact vy
 clear vy qJ Bg hgW hvW AZ AY hR1 hR1l lL uA eV AV sW HB qI hrl hg hv hc kF h1 Ht sX hfx hx
 go_enter Tryz.func38,Tryz.ntmps38
 go_wp2_with (simp only[hov])
 go_region_law_o (refine qQ rfl (oc rfl (by simp[Act.eval,Act.put];exact hcp1 _ _ _)) ?_)
 go_wp2_with (at_builtin;refine de rfl (oc rfl (by simp[Act.eval,Act.put];exact hcp2 _ _)) ?_)
 go_ret
 exact⟨rfl,1,hX.out⟩
set_option maxRecDepth 1000000 in
theorem EC {g n cap m vb vc:Nat}{c rest x restx:List Value}{fz fx:Nat × Nat}{w:World}(hg:w.heap[g]? = some (.cells (c++rest).toArray 43 fz))(sX:c.length+rest.length<fz.1∨fz.2≤fz.1)(hc:c.length=n * 14)(kF:c.length+rest.length=cap * 14)(vy:cap≤maxLen)
 (hm:0<m) (gq:n+m≤cap) (hv:w.heap[vb]? = some (.cells (x++restx).toArray 43 fx)) (hx:x.length=m * 14) (Ht:∀ v∈x,v.oneCell'=true) :
 Calls Tryz.prog 38 #[.slice (some ⟨g,0,none⟩) n cap,.int .i64 n,.slice (some ⟨vb,0,none⟩) m vc] w fun e w'=>e=.returned (.slice (some ⟨g,0,none⟩) (n+m) cap)∧∃ q,w'=(Sort.ahead w q).setRow g ((c++x)++rest.drop (m * 14)).toArray:=by
 have mixed:=Tryz.V.mixed
 obtain⟨i0,z,sW,AV,eV,uA,lL,-⟩:=iz
 have hu:Tryz.prog.underlying 22=some (.slice 43):=by kernel_rfl
 obtain⟨W1,qJ⟩:∃ W1,W1=(Sort.ahead w 0).setRow g ((c++x)++rest.drop (m * 14)).toArray:=⟨_,rfl⟩
 have AZ:(storeCells ⟨g,n * 14,none⟩ x).run Tryz.prog w=.ok () W1:=by
  have:=bK (P:=Tryz.prog) g (n * 14) _ fz x 0 _ w hg (by simp;omega) (by omega) Ht
  rw[this,qJ]
  show Result.ok () (World.setRow _ _ _)=Result.ok () (World.setRow _ _ _)
  congr 2
  simp only[zMo,zMA]
  rw[← hc,List.take_left,zME,zMd (by omega),zMm,zMu,hx]
 have bG:∀ ty,(Builtin.append_ #[22,22] ty #[.slice (some ⟨g,0,none⟩) n cap,.slice (some ⟨vb,0,none⟩) m vc]).run Tryz.prog w=.ok (.slice (some ⟨g,0,none⟩) (n+m) cap) W1:=fun ty =>
  lE w _ _ ty _ i0 hu hu (.inr ⟨_,rfl⟩) sW g n cap m _ x (by simp[Builtin.lenOf]) (run_firstCells_some w _ _ ⟨vb,0,none⟩ _ _ x (by rw[eV];exact hx) (gz hv (fun j v hj=>by
   rw[zMB,zMg,zL8 (zL2.1 hj).1];exact hj))) gq (by rw[eV];exact AZ)
 have hX:Aside (W1=(Sort.ahead w 0).setRow g ((c++x)++rest.drop (m * 14)).toArray):=qJ
 have hz1':¬ ((m:Int)=0):=by omega
 have hc63:cap≤9223372036854775807:=by unfold maxLen at vy;exact vy
 clear vy qJ AZ lL uA eV AV sW hg hv hc kF Ht sX hx
 go_enter Tryz.func38,Tryz.ntmps38
 go_wp2_with (at_builtin;refine de rfl (iP rfl (by simp[Act.eval,Act.put];exact bG _)) ?_)
 go_ret
 exact⟨rfl,0,hX.out⟩
set_option maxRecDepth 1000000 in
theorem oK {base:Option Addr}{n cap m vb vc:Nat}{c x restx:List Value}{fx:Nat × Nat}{w:World}(hg:∀ a,base=some a→∀ j v,c[j]? = some v→w.cell? (a.add j)=some v)(hnil:base=none→n=0)(hc:c.length=n * 14)
 (hm:0<m) (hncap:n≤cap) (gq:cap<n+m) (hbig:(n+m) * 500≤140737488355328) (hv:w.heap[vb]? = some (.cells (x++restx).toArray 43 fx)) (hx:x.length=m * 14) :
 Calls Tryz.prog 38 #[.slice base n cap,.int .i64 n,.slice (some ⟨vb,0,none⟩) m vc] w fun e w'=>∃ cap' sp,e=.returned (.slice (some ⟨w.heap.size,0,none⟩) (n+m) cap')∧n+m≤cap'∧cap'≤maxLen∧(n+m) * 14+sp.length=cap' * 14∧w'=w.drew.alloc (.cells ((c++x)++sp).toArray 43):=by
 have mixed:=Tryz.V.mixed
 obtain⟨i0,z,sW,AV,eV,uA,lL,qk⟩:=iz
 have hu:Tryz.prog.underlying 22=some (.slice 43):=by kernel_rfl
 have H7:(n+m) * i0.bytes≤140737488355328:=zMC (Nat.mul_le_mul_left _ qk) hbig
 have hold:(Builtin.firstCells i0.size n (.slice base n cap)).run Tryz.prog w.drew=.ok c.toArray w.drew:=by
  rw[eV]
  cases base with
  | none =>
    have h0:=hnil rfl
    subst h0
    rw[List.length_eq_zero_iff.1 (by omega:c.length=0)]
    exact run_firstCells_none w.drew 14 0 0 cap
  | some a=>exact run_firstCells_some w.drew 14 n a n cap c (by omega) (fun j v hj=>hg a rfl j v hj)
 have bG:∀ ty,(Builtin.append_ #[22,22] ty #[.slice base n cap,.slice (some ⟨vb,0,none⟩) m vc]).run Tryz.prog w=_:=fun ty =>
  pJ w _ _ ty _ i0 z hu hu (.inr ⟨_,rfl⟩) sW AV base n cap m _ c x (by simp[Builtin.lenOf]) (run_firstCells_some w.drew _ _ ⟨vb,0,none⟩ _ _ x (by rw[eV];exact hx) (gz (w:=w.drew) (show w.drew.heap[vb]? = _ from hv) (fun j v hj=>by
   rw[zMB,zMg,zL8 (zL2.1 hj).1];exact hj))) hold gq (by unfold maxLen;omega) H7
 have rm:=grownCap_ge w (n+m) cap 43
 have hle:=grownCap_le_maxLen w (n+m) cap 43 (by unfold maxLen;omega)
 generalize grownCap w (n+m) cap 43=G at bG rm hle
 obtain⟨W1,qJ⟩:∃ W1,W1=w.drew.alloc (.cells ((c++x).toArray++Builtin.zeroCells z.cells (G - (n+m))) 43):=⟨_,rfl⟩
 rw[← qJ]at bG
 have hX:Aside (W1=w.drew.alloc (.cells ((c++x).toArray++Builtin.zeroCells z.cells (G - (n+m))) 43)∧n+m≤G∧G≤maxLen∧z.cells.size=14):=⟨qJ,rm,hle,uA⟩
 obtain⟨S,hS⟩:∃ S,S=w.heap.size:=⟨_,rfl⟩
 rw[← hS]at bG ⊢
 have hz1':¬ ((m:Int)=0):=by omega
 have key:Calls Tryz.prog 38 #[.slice base n cap,.int .i64 n,.slice (some ⟨vb,0,none⟩) m vc] w fun e w'=>e=.returned (.slice (some ⟨S,0,none⟩) (n+m) G)∧w'=W1:=by
  clear qJ rm hle hold hS lL uA eV AV sW qk hg hv hc hx H7 hX
  go_enter Tryz.func38,Tryz.ntmps38
  cases base with
  | none =>
    obtain rfl:=hnil rfl
    go_wp2_with (at_builtin;refine de rfl (iP rfl (by simp[Act.eval,Act.put];exact bG _)) ?_)
    go_ret
    exact⟨rfl,rfl⟩
  | some a =>
    obtain⟨ab,ao,asp⟩:=a
    go_wp2_with (at_builtin;refine de rfl (iP rfl (by simp[Act.eval,Act.put];exact bG _)) ?_)
    all_goals go_ret
    all_goals exact⟨rfl,rfl⟩
 refine key.mono ?_
 rintro e w' ⟨rfl,rfl⟩
 obtain⟨e1,e2,e3,e4⟩:=hX.out
 exact⟨G,(Builtin.zeroCells z.cells (G - (n+m))).toList,rfl,e2,e3,by rw[zMt,size_zeroCells,e4];omega,by rw[e1];congr 2;simp⟩
set_option maxRecDepth 1000000 in
theorem BY {g n cap k m vb vc:Nat}{c rest x restx:List Value}{fz fx:Nat × Nat}{w:World}(hg:w.heap[g]? = some (.cells (c++rest).toArray 43 fz))(hc:c.length=n * 14)(hk:k<n)(h1:∀ v∈c,v.oneCell'=true)
 (hm:0<m) (hncap:n≤cap) (gq:cap<n+m) (hbig:(n+m) * 500≤140737488355328) (hv:w.heap[vb]? = some (.cells (x++restx).toArray 43 fx)) (hx:x.length=m * 14) (Ht:∀ v∈x,v.oneCell'=true) :
 Calls Tryz.prog 38 #[.slice (some ⟨g,0,none⟩) n cap,.int .i64 k,.slice (some ⟨vb,0,none⟩) m vc] w fun e w'=>∃ cap' sp,e=.returned (.slice (some ⟨w.heap.size,0,none⟩) (n+m) cap')∧n+m≤cap'∧cap'≤maxLen∧(n+m) * 14+sp.length=cap' * 14∧Below w.heap.size w w'∧w'.heap.size=w.heap.size+1∧w'.heap[w.heap.size]? = some (.cells ((c.take (k * 14)++x++c.drop (k * 14))++sp).toArray 43 (0,0)):=by
 have mixed:=Tryz.V.mixed
 obtain⟨i0,z,sW,AV,eV,uA,lL,qk⟩:=iz
 have hu:Tryz.prog.underlying 22=some (.slice 43):=by kernel_rfl
 have hui:Tryz.prog.underlying 3=some (.int .i64):=by kernel_rfl
 have H7:(n+m) * i0.bytes≤140737488355328:=zMC (Nat.mul_le_mul_left _ qk) hbig
 have hgS:g<w.heap.size:=(zMG.1 hg).1
 have hvS:vb<w.heap.size:=(zMG.1 hv).1
 have HB:(c.take (k * 14)).length=k * 14:=by rw[zL6,hc];omega
 have qI:(c.drop (k * 14)).length=(n - k) * 14:=by rw[zMf,hc,Nat.sub_mul]
 have hkk:(n:Int)+(m:Int) - (k:Int)=((n+m - k:Nat):Int):=by omega
 have hik:k+(n+m - k)=n+m:=by omega
 have hold:(Builtin.firstCells i0.size k (.slice (some ⟨g,0,none⟩) k cap)).run Tryz.prog w.drew=.ok (c.take (k * 14)).toArray w.drew:=by
  rw[eV]
  exact run_firstCells_some w.drew 14 k ⟨g,0,none⟩ k cap (c.take (k * 14)) HB (gz (w:=w.drew) (show w.drew.heap[g]? = _ from hg) (fun j v hj=>by
   rw[List.getElem?_take]at hj
   split at hj
   ·rw[zMB,zMg,zL8 (zL2.1 hj).1];exact hj
   ·cases hj))
 have hrz:∀ ty,(Builtin.append_ #[22,3] ty #[.slice (some ⟨g,0,none⟩) k cap,.int .i64 ((n:Int)+(m:Int) - (k:Int))]).run Tryz.prog w=.ok (.slice (some ⟨w.heap.size,0,none⟩) (n+m) (grownCap w (n+m) cap 43)) (w.drew.alloc (.cells ((c.take (k * 14)).toArray++Builtin.zeroCells z.cells (n+m - k)++Builtin.zeroCells z.cells (grownCap w (n+m) cap 43 - (n+m))) 43)):=fun ty=>by
  have h:=Lib.run_append_grow_zeros w 22 3 ty 43 i0 _ .i64 .i64 hu hui sW AV (some ⟨g,0,none⟩) k cap (c.take (k * 14)) hold (n+m - k) (by omega) (by omega) (by omega) (by omega) (by have:(n+m - k) * i0.bytes≤(n+m) * i0.bytes:=zMD _ (by omega);omega) (by rw[hik];exact zMC (growslice_fits gq H7) (by omega))
  rw[hik]at h
  rw[hkk]
  exact h
 have rm:=grownCap_ge w (n+m) cap 43
 have hle:=grownCap_le_maxLen w (n+m) cap 43 (by unfold maxLen;omega)
 generalize grownCap w (n+m) cap 43=G at hrz rm hle
 obtain⟨Z,hZ⟩:∃ Z,Z=(Builtin.zeroCells z.cells (n+m - k)).toList++(Builtin.zeroCells z.cells (G - (n+m))).toList:=⟨_,rfl⟩
 have hZl:Z.length=(G - k) * 14:=by rw[hZ,zL3,zMt,zMt,size_zeroCells,size_zeroCells,uA];omega
 obtain⟨S,hS⟩:∃ S,S=w.heap.size:=⟨_,rfl⟩
 obtain⟨W1,qJ⟩:∃ W1,W1=w.drew.alloc (.cells (c.take (k * 14)++Z).toArray 43):=⟨_,rfl⟩
 have hrz1:∀ ty,(Builtin.append_ #[22,3] ty #[.slice (some ⟨g,0,none⟩) k cap,.int .i64 ((n:Int)+(m:Int) - (k:Int))]).run Tryz.prog w=.ok (.slice (some ⟨S,0,none⟩) (n+m) G) W1:=fun ty=>by
  rw[hrz,qJ,hZ,hS]
  congr 4
  apply Array.ext'
  simp
 have n1:W1.heap[S]? = some (.cells (c.take (k * 14)++Z).toArray 43 (0,0)):=by
  rw[qJ,hS];exact cw w.drew _
 have o1:∀ j,j<S→W1.heap[j]? = w.heap[j]? := fun j hj=>by
  rw[qJ];exact HY w.drew _ (by show j<w.heap.size;omega)
 obtain⟨W2,Bg⟩:∃ W2,W2=W1.setRow S (c.take (k * 14)++x++Z.drop (m * 14)).toArray:=⟨_,rfl⟩
 obtain⟨W3,hW3⟩:∃ W3,W3=W2.drew.setRow S ((c.take (k * 14)++x++c.drop (k * 14))++Z.drop ((n+m - k) * 14)).toArray:=⟨_,rfl⟩
 have AY:(storeCells ⟨S,k * 14,none⟩ x).run Tryz.prog W1=.ok () W2:=by
  have:=bK (P:=Tryz.prog) S (k * 14) _ (0,0) x 0 _ W1 n1 (by simp;omega) (.inr (zL9 _)) Ht
  rw[this,Bg]
  congr 2
  simp only[zMo,zMA]
  rw[wC HB hx]
 have n2:W2.heap[S]? = some (.cells (c.take (k * 14)++x++Z.drop (m * 14)).toArray 43 (0,0)):=by
  rw[Bg];exact setRow_heap _ _ _ _ _ _ n1
 have o2:∀ j,j<S→W2.heap[j]? = w.heap[j]? := fun j hj=>by
  rw[Bg,setRow_other _ _ _ _ (by omega)];exact o1 j hj
 have htx:(c.take (k * 14)++x).length=(k+m) * 14:=by rw[zL3,HB,hx];omega
 have hst3:(storeCells ⟨S,(k+m) * 14,none⟩ (c.drop (k * 14))).run Tryz.prog W2.drew=.ok () W3:=by
  have:=bK (P:=Tryz.prog) S ((k+m) * 14) _ (0,0) (c.drop (k * 14)) 0 _ W2.drew n2 (by simp;omega) (.inr (zL9 _)) (fun v hv=>h1 v (List.mem_of_mem_drop hv))
  rw[this,hW3]
  congr 2
  simp only[zMo,zMA]
  rw[wC htx qI,zMz,show m * 14+(n - k) * 14=(n+m - k) * 14 by omega]
 have n3:W3.heap[S]? = some (.cells ((c.take (k * 14)++x++c.drop (k * 14))++Z.drop ((n+m - k) * 14)).toArray 43 (0,0)):=by
  rw[hW3];exact setRow_heap _ _ _ _ _ _ n2
 have uP:Below w.heap.size w W3:=by
  have sz:W3.heap.size=S+1:=by
   rw[hW3,setRow_size];show W2.heap.size=_
   rw[Bg,setRow_size,qJ,size_alloc];show w.heap.size+1=_
   omega
  refine⟨?_,?_,?_,by omega,fun j hj=>?_⟩
  ·rw[hW3,setRow_os];show W2.os=_;rw[Bg,setRow_os,qJ];rfl
  ·rw[hW3,setRow_tape];show W2.tape=_;rw[Bg,setRow_tape,qJ];rfl
  ·rw[hW3,setRow_output];show W2.output=_;rw[Bg,setRow_output,qJ];rfl
  ·rw[hW3,setRow_other _ _ _ _ (by omega)];exact o2 j (by omega)
 have sz3:W3.heap.size=S+1:=by
  rw[hW3,setRow_size];show W2.heap.size=_
  rw[Bg,setRow_size,qJ,size_alloc];show w.heap.size+1=_
  omega
 have hcpA:∀ ty dc,(Builtin.copy_ #[22,22] ty #[.slice (some ⟨S,k * 14,none⟩) (n+m - k) dc,.slice (some ⟨vb,0,none⟩) m vc]).run Tryz.prog W1=.ok (goInt m) W2:=fun ty dc=>by
  have e:Nat.min m (n+m - k)=m:=by simp only[Nat.min_def];split <;> omega
  have:=nV (P:=Tryz.prog) W1 22 22 ty _ i0 hu sW S (k * 14) (n+m - k) dc ⟨vb,0,none⟩ m vc x (by rw[e,eV,hx]) (gz (w:=W1) ((o1 vb (by omega)).trans hv) (fun j v hj=>by
   rw[zMB,zMg,zL8 (zL2.1 hj).1];exact hj)) AY
  rw[this,e]
 have hcpB:∀ ty dc sc,(Builtin.copy_ #[22,22] ty #[.slice (some ⟨S,(k+m) * 14,none⟩) (n+m - (k+m)) dc,.slice (some ⟨g,k * 14,none⟩) (n - k) sc]).run Tryz.prog W2.drew=.ok (goInt ((n - k:Nat):Int)) W3:=fun ty dc sc=>by
  have e:Nat.min (n - k) (n+m - (k+m))=n - k:=by simp only[Nat.min_def];split <;> omega
  have:=nV (P:=Tryz.prog) W2.drew 22 22 ty _ i0 hu sW S ((k+m) * 14) (n+m - (k+m)) dc ⟨g,k * 14,none⟩ (n - k) sc (c.drop (k * 14)) (by rw[e,eV,qI]) (gz (w:=W2.drew) ((o2 g (by omega)).trans hg) (fun j v hj=>by
   rw[List.getElem?_drop]at hj
   rw[zMg,zL8 (zL2.1 hj).1];exact hj)) hst3
  rw[this,e]
 have gD:IntKind.i64.wrap ((k:Int)+(m:Int))=(k:Int)+(m:Int):=by rw[IntKind.wrap_i64];omega
 have mu:(0:Int)≤(k:Int)+(m:Int):=by omega
 have mr:k≤n:=by omega
 have htn:((k:Int)+(m:Int)).toNat=k+m:=by omega
 have hz1':¬ ((m:Int)=0):=by omega
 have FZ:¬ ((k:Int)=(n:Int)):=by omega
 have hz3:(cap:Int)<(n:Int)+(m:Int):=by omega
 have hG63:G≤9223372036854775807:=by unfold maxLen at hle;exact hle
 have hGi:¬ (G=k):=by omega
 have hGim:¬ (G=k+m):=by omega
 have hci:¬ (cap=k):=by omega
 have hX:Aside (n+m≤G∧G≤maxLen∧Z.length=(G - k) * 14∧Below w.heap.size w W3∧W3.heap.size=S+1∧W3.heap[S]? = some (.cells ((c.take (k * 14)++x++c.drop (k * 14))++Z.drop ((n+m - k) * 14)).toArray 43 (0,0))∧S=w.heap.size):=⟨rm,hle,hZl,uP,sz3,n3,hS⟩
 rw[← hS]
 have key:Calls Tryz.prog 38 #[.slice (some ⟨g,0,none⟩) n cap,.int .i64 k,.slice (some ⟨vb,0,none⟩) m vc] w fun e w'=>e=.returned (.slice (some ⟨S,0,none⟩) (n+m) G)∧w'=W3:=by
  clear hX uP sz3 n3 n2 n1 o1 o2 AY hst3 qJ Bg hW3 hrz hS hZ hZl uA eV AV sW qk lL hold H7 hkk hik HB qI htx hgS hvS hg hv hc h1 hx Ht hle
  go_enter Tryz.func38,Tryz.ntmps38
  go_wp2_with (first
   | (at_builtin;refine de rfl (iP rfl (by simp[Act.eval,Act.put];exact hrz1 _)) ?_)
   | (at_builtin;refine de rfl (oc rfl (by simp[Act.eval,Act.put];exact hcpA _ _)) ?_))
  go_region_law_o (refine qQ rfl (oc rfl (by simp[Act.eval,Act.put];exact hcpB _ _ _)) ?_)
  go_wp2
  go_ret
  exact⟨rfl,rfl⟩
 refine key.mono ?_
 rintro e w' ⟨rfl,rfl⟩
 obtain⟨e1,e2,e3,e4,e5,e6,e7⟩:=hX.out
 exact⟨G,Z.drop ((n+m - k) * 14),rfl,e1,e2,by rw[zMf,e3];omega,by rw[e7];exact e4,e5,e6⟩
open Go Vc Go.RowKit Go.Lib Wf
theorem sc_InsN {bs:List ay}{q p n k:Nat}{c x:List SV}(hq:bs[q]? = some (.own c 43 14 n true))(hp:bs[p]? = some (.own x 43 14 1 true))(hqp:q≠p)(hk:k≤n)(hn:n≤1000000)(h1:c.all one=true)(Ht:x.all one=true) :
 SC Tryz.V 38 [.o q n,.int .i64 k,.o p 1] bs (fun r b=>r=.o bs.length (n+1)∧b=bs.set q .gone++[.own (c.take (k * 14)++x++c.drop (k * 14)) 43 14 (n+1) true]):=by
 refine Dy (V:=Tryz.V) (f:=38) Tryz.call38 hq fun β fp w fU hE=>?_
 have hh:=(fU β (bp.refl _ _)).holds q _ hq
 have hhp:=(fU β (bp.refl _ _)).holds p _ hp
 have hsep:=(fU β (bp.refl _ _)).sep q p _ _ hq hp hqp (.inl rfl)
 have gE:=fun β' hβ=>pK (β':=β') fU hβ hq
 have HF:=fun β' hβ=>pK (β':=β') fU hβ hp
 have aA:∀ k,fp q k→k<w.heap.size:=(fU β (bp.refl _ _)).lt q _ hq
 clear fU hE
 rcases hhp with⟨-,h0,-⟩|⟨xc0,xnc,xcm,xcl,-,xm,xfp⟩
 ·exact absurd h0 (by omega)
 obtain⟨xoff,xrest,xfz,⟨xg,-⟩,xfz1,xcap⟩:=xm rfl
 have xl:(x.map (ah β)).length=1 * 14:=by simpa using xcl
 have xo:∀ v∈x.map (ah β),v.oneCell'=true:=fun v hv=>by
  obtain⟨y,hy,rfl⟩:=List.mem_map.1 hv
  exact gm (zMr.1 Ht y hy) β
 have co:∀ v∈c.map (ah β),v.oneCell'=true:=fun v hv=>by
  obtain⟨y,hy,rfl⟩:=List.mem_map.1 hv
  exact gm (zMr.1 h1 y hy) β
 have xfz2:(x.map (ah β)).length+xrest.length<xfz.1∨xfz.2≤xfz.1:=by simp;simp at xfz1;omega
 have xarg:ah β (.o p 1)=.slice (some ⟨(β p).cB,0,none⟩) 1 ((β p).cap - 1):=by simp[ah,oV,xc0,xoff]
 -- the new row's cells, wherever things lie
 have uO:∀ (b:Bt) (β':Nat→Bt),bp (bs.length+1) (nT β bs.length b) β'→(c.take (k * 14)++x++c.drop (k * 14)).map (ah β')=(c.map (ah β)).take (k * 14)++x.map (ah β)++(c.map (ah β)).drop (k * 14):=fun b β' hβ=>by
  rw[gE β' hβ.dp,HF β' hβ.dp];simp
 -- a new row
 have fI:c.length=n * 14→∀ (cap':Nat) (sp:List Value) (w':World),n+1≤cap'→cap'≤maxLen→(n+1) * 14+sp.length=cap' * 14→Below w.heap.size w w'→w'.heap.size=w.heap.size+1→w'.heap[w.heap.size]? = some (.cells (((c.map (ah β)).take (k * 14)++x.map (ah β)++(c.map (ah β)).drop (k * 14))++sp).toArray 43 (0,0)) →
  ∃ (b2:Bt) (f2:Nat→Prop),(Value.slice (some ⟨w.heap.size,0,none⟩) (n+1) cap')=oV b2 (n+1)∧mD (fp q) w w' ∧
  (∀ β',bp (bs.length+1) (nT β bs.length b2) β'→Vc.Holds β' b2 f2 w' (.own (c.take (k * 14)++x++c.drop (k * 14)) 43 14 (n+1) true))∧∀ k,f2 k→(fp q k∨w.heap.size≤k)∧k<w'.heap.size:=fun dO cap' sp w' h1 h2 h3 h4 h5 h6=>by
  have gF:(c.take (k * 14)++x++c.drop (k * 14)).length=(n+1) * 14:=by
   rw[zL3,zL3,zL6,zMf,dO,xcl];omega
  refine⟨⟨w.heap.size,0,cap'+1⟩,(·=w.heap.size),by simp[oV],mD.jE h4,fun β' hβ=>?_,?_⟩
  ·exact dM (rest:=sp) (fz:=(0,0)) (by rw[h6,uO _ β' hβ]) (.inr (.inl (zL9 _))) gF h1 h2 (by rw[gF];exact h3)
  ·rintro k rfl
   exact⟨.inr (zL9 _),by omega⟩
 have gx:(aI β [.o q n,.int .i64 k,.o p 1]).toArray=#[ah β (.o q n),.int .i64 k,.slice (some ⟨(β p).cB,0,none⟩) 1 ((β p).cap - 1)]:=by
  simp only[aI,xarg];simp[ah]
 rw[gx]
 rcases hh with⟨fL,rfl,rfl,hnf,hbk⟩|⟨fL,hnc,vy,dO,hli,hm,qH⟩
 ·
  obtain rfl:k=0:=by omega
  have eU:=hbk rfl
  have e0:ah β (.o q 0)=.slice none 0 0:=by simp[ah,oV,fL,oY,eU]
  rw[e0]
  have hx:=oK (base:=none) (n:=0) (cap:=0) (m:=1) (vb:=(β p).cB) (vc:=(β p).cap - 1) (c:=[]) (x:=x.map (ah β)) (by simp) (fun _=>rfl) rfl (by omega) (by omega) (by omega) (by omega) xg xl
  refine hx.mono ?_
  rintro ex w' ⟨cap',sp,rfl,g1,g2,g3,rfl⟩
  obtain⟨b2,f2,r1,r2,r3,r4⟩:=fI rfl cap' sp (w.drew.alloc (.cells (([]++x.map (ah β))++sp).toArray 43)) g1 g2 g3 (((Below.refl _ _).drew).alloc (zL9 _) _) (by rw[size_alloc];rfl) (by
   have:=cw w.drew (.cells (([]++x.map (ah β))++sp).toArray 43)
   simpa using this)
  exact⟨b2,f2,by rw[← r1],r2,r3,r4⟩
 obtain⟨uE,rest,fz,⟨hg,-⟩,sX,kF⟩:=hm rfl
 have e0:ah β (.o q n)=.slice (some ⟨(β q).cB,0,none⟩) n ((β q).cap - 1):=by simp[ah,oV,fL,uE]
 rw[e0]
 have hlen:(c.map (ah β)).length=n * 14:=by simpa using dO
 have D9:(c.map (ah β)).length+rest.length=((β q).cap - 1) * 14:=by rw[hlen,← dO];exact kF
 have hfz2:(c.map (ah β)).length+rest.length<fz.1∨fz.2≤fz.1:=by simp;simp at sX;omega
 have bk:(β p).cB≠(β q).cB:=fun e=>hsep (β q).cB ((qH _).2 rfl) ((xfp _).2 e.symm)
 have gF:(c.take (k * 14)++x++c.drop (k * 14)).length=(n+1) * 14:=by
  rw[zL3,zL3,zL6,zMf,dO,xcl];omega
 -- in place
 have mr:n+1≤(β q).cap - 1→∀ (qq:Nat),∃ (b2:Bt) (f2:Nat→Prop),(Value.slice (some ⟨(β q).cB,0,none⟩) (n+1) ((β q).cap - 1))=oV b2 (n+1)∧mD (fp q) w ((Sort.ahead w qq).setRow (β q).cB (((c.map (ah β)).take (k * 14)++x.map (ah β)++(c.map (ah β)).drop (k * 14))++rest.drop (1 * 14)).toArray) ∧
  (∀ β',bp (bs.length+1) (nT β bs.length b2) β'→Vc.Holds β' b2 f2 ((Sort.ahead w qq).setRow (β q).cB (((c.map (ah β)).take (k * 14)++x.map (ah β)++(c.map (ah β)).drop (k * 14))++rest.drop (1 * 14)).toArray) (.own (c.take (k * 14)++x++c.drop (k * 14)) 43 14 (n+1) true))∧∀ k',f2 k'→(fp q k'∨w.heap.size≤k')∧k'<((Sort.ahead w qq).setRow (β q).cB (((c.map (ah β)).take (k * 14)++x.map (ah β)++(c.map (ah β)).drop (k * 14))++rest.drop (1 * 14)).toArray).heap.size:=fun gq qq=>by
  refine⟨⟨(β q).cB,0,(β q).cap - 1+1⟩,(·=(β q).cB),by simp[oV],⟨rfl,rfl,rfl,by simp,fun k hk fA=>?_⟩,fun β' hβ=>?_,?_⟩
  ·rw[setRow_other _ _ _ _ (fun e=>fA ((qH k).2 e))];rfl
  ·refine dM (rest:=rest.drop (1 * 14)) (fz:=fz) ?_ ?_ gF gq vy ?_
   ·rw[setRow_heap _ _ _ _ _ _ (show (Sort.ahead w qq).heap[(β q).cB]? = _ from hg),uO _ β' hβ]
   ·rw[gF,zMf];rw[hlen]at D9 hfz2;omega
   ·rw[gF,zMf];rw[hlen]at D9;omega
  ·rintro k rfl
   have:=aA _ ((qH _).2 rfl)
   exact⟨.inl ((qH _).2 rfl),by simpa using this⟩
 by_cases F7:k=n
 ·subst F7
  have et:(c.map (ah β)).take (k * 14)=c.map (ah β):=zMi (by omega)
  have ed:(c.map (ah β)).drop (k * 14)=[]:=zMd (by omega)
  by_cases gq:k+1≤(β q).cap - 1
  ·have hx:=EC (m:=1) (vc:=(β p).cap - 1) hg hfz2 hlen D9 vy (by omega) gq xg xl xo
   refine hx.mono ?_
   rintro ex w' ⟨rfl,qq,rfl⟩
   obtain⟨b2,f2,r1,r2,r3,r4⟩:=mr gq qq
   rw[et,ed,zMj]at r2 r3 r4
   exact⟨b2,f2,by rw[← r1],r2,r3,r4⟩
  ·have hx:=oK (base:=some ⟨(β q).cB,0,none⟩) (n:=k) (cap:=(β q).cap - 1) (m:=1) (vc:=(β p).cap - 1) (c:=c.map (ah β)) (x:=x.map (ah β)) (fun a ha=>by
    cases ha
    exact gz hg (fun j v hj=>by
     rw[zMB,zMg,zL8 (zL2.1 hj).1];exact hj)) (by simp) hlen (by omega) hnc (by omega) (by omega) xg xl
   refine hx.mono ?_
   rintro ex w' ⟨cap',sp,rfl,g1,g2,g3,rfl⟩
   obtain⟨b2,f2,r1,r2,r3,r4⟩:=fI dO cap' sp (w.drew.alloc (.cells ((c.map (ah β)++x.map (ah β))++sp).toArray 43)) g1 g2 g3 (((Below.refl _ _).drew).alloc (zL9 _) _) (by rw[size_alloc];rfl) (by
    rw[et,ed,zMj]
    exact cw w.drew _)
   exact⟨b2,f2,by rw[← r1],r2,r3,r4⟩
 ·have sV:k<n:=by omega
  by_cases gq:n+1≤(β q).cap - 1
  ·have hx:=zd (m:=1) (vc:=(β p).cap - 1) hg hfz2 hlen D9 sV co vy (by omega) gq xg xfz2 xl bk xo
   refine hx.mono ?_
   rintro ex w' ⟨rfl,qq,rfl⟩
   obtain⟨b2,f2,r1,r2,r3,r4⟩:=mr gq qq
   exact⟨b2,f2,by rw[← r1],r2,r3,r4⟩
  ·have hx:=BY (m:=1) (vc:=(β p).cap - 1) hg hlen sV co (by omega) hnc (by omega) (by omega) xg xl xo
   refine hx.mono ?_
   rintro ex w' ⟨cap',sp,rfl,g1,g2,g3,g4,g5,g6⟩
   obtain⟨b2,f2,r1,r2,r3,r4⟩:=fI dO cap' sp w' g1 g2 g3 g4 g5 g6
   exact⟨b2,f2,by rw[← r1],r2,r3,r4⟩
theorem ET {bs:List ay}{p:Nat}{x:List SV}(hp:bs[p]? = some (.own x 43 14 1 true))(Ht:x.all one=true) :
 SC Tryz.V 38 [.aD,.int .i64 0,.o p 1] bs (fun r b=>r=.o bs.length 1∧b=bs++[.own x 43 14 1 true]):=by
 refine Dx (V:=Tryz.V) (f:=38) Tryz.call38 fun β fp w fU hE=>?_
 have hhp:=(fU β (bp.refl _ _)).holds p _ hp
 have HF:=fun β' hβ=>pK (β':=β') fU hβ hp
 clear fU hE
 rcases hhp with⟨-,h0,-⟩|⟨xc0,xnc,xcm,xcl,-,xm,xfp⟩
 ·exact absurd h0 (by omega)
 obtain⟨xoff,xrest,xfz,⟨xg,-⟩,xfz1,xcap⟩:=xm rfl
 have xl:(x.map (ah β)).length=1 * 14:=by simpa using xcl
 have xarg:ah β (.o p 1)=.slice (some ⟨(β p).cB,0,none⟩) 1 ((β p).cap - 1):=by simp[ah,oV,xc0,xoff]
 have gx:(aI β [.aD,.int .i64 0,.o p 1]).toArray=#[.slice none 0 0,.int .i64 (0:Nat),.slice (some ⟨(β p).cB,0,none⟩) 1 ((β p).cap - 1)]:=by
  simp only[aI,xarg];simp[ah]
 rw[gx]
 have hx:=oK (base:=none) (n:=0) (cap:=0) (m:=1) (vb:=(β p).cB) (vc:=(β p).cap - 1) (c:=[]) (x:=x.map (ah β)) (by simp) (fun _=>rfl) rfl (by omega) (by omega) (by omega) (by omega) xg xl
 refine hx.mono ?_
 rintro ex w' ⟨cap',sp,rfl,g1,g2,g3,rfl⟩
 refine⟨⟨w.heap.size,0,cap'+1⟩,(·=w.heap.size),by simp[oV],((Below.refl _ _).drew).alloc (zL9 _) _,fun β' hβ=>?_,?_⟩
 ·refine dM (rest:=sp) (fz:=(0,0)) ?_ (.inr (.inl (zL9 _))) xcl g1 g2 (by rw[xcl];exact g3)
  rw[← HF β' hβ.dp]
  exact cw w.drew _
 ·rintro k rfl
  exact⟨zL9 _,by rw[size_alloc];exact Nat.lt_succ_self _⟩
end Go.Proofs.YteipdaijbncgeaaGreatDoor
namespace Vc
open Go Go.RowKit Wf
def SU (V:Cx)(f:FuncId)(args:List SV)(bs:List ay)(R:SV→List ay→Prop):Prop:=∃ x b,R x b∧SC V f args bs (fun r b'=>r=x∧b'=b)
section
variable {V:Cx} {f:FuncId} {args:List SV} {bs:List ay} {R R':SV→List ay→Prop}
theorem SU.sc (h:SU V f args bs R):SC V f args bs R:=by
 obtain⟨x,b,hR,h⟩:=h
 exact h.mono (by rintro _ _ ⟨rfl,rfl⟩;exact hR)
theorem SU.mono (h:SU V f args bs R)(k:∀ x b,R x b→R' x b):SU V f args bs R':=by
 obtain⟨x,b,hR,h⟩:=h
 exact⟨x,b,k x b hR,h⟩
theorem SU.of {x:SV}{b:List ay}(h:SC V f args bs (fun r b'=>r=x∧b'=b))(k:R x b):SU V f args bs R:=⟨x,b,k,h⟩
end
inductive kj where
 | eE (ops:Array Oper) (l:List Oper) (rs:List Rk)
 | code (c:Code)
 | ops (ops:Array Oper) (l:List Oper)
 | lf (id:Nat)
 | dl (I:St→Prop) (μ:St→Nat) (m:Nat) (P:SV × List ay→St→Prop)
def base:List kj→List Item
 | []=>[]
 | .eE ops l rs::k=>.eE ops l rs::base k
 | .code c::k=>.code c::base k
 | .ops ops l::k=>.ops ops l::base k
 | .lf id::k=>.lf id::base k
 | .dl I μ m _::k=>.kG I μ m::base k
def inst (o:SV × List ay):List kj→List Item
 | []=>[]
 | .eE ops l rs::k=>.eE ops l rs::inst o k
 | .code c::k=>.code c::inst o k
 | .ops ops l::k=>.ops ops l::inst o k
 | .lf id::k=>.lf id::inst o k
 | .dl _ μ m P::k=>.kG (P o) μ m::inst o k
def okI (E:Fin)(D:List kj):Prop:=∀ I μ m P,kj.dl I μ m P∈D→∀ σ,I σ→μ σ<m→∃ o:SV × List ay,E.K o.1 o.2∧P o σ
def Eo (E:Fin)(o:SV × List ay):Fin:=⟨E.rs,fun r b=>r=o.1∧b=o.2,E.y5,E.uni⟩
inductive BN:List Item→List Item→Prop where
 | nil:BN [] []
 | same (i:Item) {k k':List Item} (h:BN k k'):BN (i::k) (i::k')
 | kG {I I':St→Prop} (μ:St→Nat) (m:Nat) {k k':List Item} (hI:∀ σ,I σ→I' σ) (h:BN k k'):BN (.kG I μ m::k) (.kG I' μ m::k')
theorem BN.refl:∀ k,BN k k
 | []=>.nil
 | i::k=>.same i (BN.refl k)
theorem BN.exit {id:Nat}:∀ {k k' q:List Item},BN k k'→XE id k=some q→∃ q',XE id k'=some q'∧BN q q'
 | _,_,q,.nil,h=>by simp[XE]at h
 | _,_,q,.same i h,e=>by
   cases i
   case lf id' =>
    simp only[XE]at e ⊢
    split at e
    ·cases e
     rename_i hh
     rw[if_pos hh]
     exact⟨_,rfl,h⟩
    ·rename_i hh
     rw[if_neg hh]
     exact BN.exit h e
   all_goals
    simp only[XE]at e ⊢
    exact BN.exit h e
 | _,_,q,.kG μ m hI h,e=>by
   simp only[XE]at e ⊢
   exact BN.exit h e
section
variable {V:Cx} {n:Nat}
theorem xB {E:Fin}{f:Nat}{ops:Array Oper}{r:List Oper}{k k':List Item}(H:∀ σ,bo V n E f (.ops ops r::k) σ→bo V n E f (.ops ops r::k') σ){s:fj}(h:Yc V n E f ops r k s):Yc V n E f ops r k' s:=by
 cases s <;> simp only[Yc]at h ⊢
 ·exact⟨h.1,H _ h.2⟩
 ·unfold lj at h ⊢
  rcases h with⟨x,h1,h2⟩|⟨R,h1,h3,h2⟩
  ·exact .inl ⟨x,h1,H _ h2⟩
  ·exact .inr ⟨R,h1,h3,fun x b hR=>H _ (h2 x b hR)⟩
theorem xD {E:Fin}{f:Nat}{ops:Array Oper}{r:List Oper}{rs:List Rk}{k k':List Item}(H:∀ rs σ,bo V n E f (.eE ops r rs::k) σ→bo V n E f (.eE ops r rs::k') σ){dst:Option Tmp}{σ:St}{s:iT}(h:Yg V n E f ops r rs k dst σ s):Yg V n E f ops r rs k' dst σ s:=by
 cases s with
 | bad=>simp only[Yg]at h
 | val c r =>
   obtain⟨x,nb,all,rd,wr⟩:=r
   cases nb <;> simp only[Yg]at h ⊢ <;> exact⟨h.1,H _ _ h.2⟩
 | call g args =>
   simp only[Yg]at h ⊢
   unfold ll at h ⊢
   rcases h with⟨x,h1,h2⟩|⟨x,b,h1,h2⟩|⟨x,b,W,h1,h2,h3⟩
   ·exact .inl ⟨x,h1,H _ _ h2⟩
   ·exact .inr (.inl ⟨x,b,h1,H _ _ h2⟩)
   ·exact .inr (.inr ⟨x,b,W,h1,h2,H _ _ h3⟩)
theorem qK {E:Fin}:∀ (f:Nat){k k':List Item}{σ:St},E.uni=true→BN k k'→(∀ i∈k,(∃ J,i=.cut J)∨(∃ a b c,i=.fJ a b c)→False)→bo V n E f k σ→bo V n E f k' σ
 | 0,k,k',σ,_,_,_,h=>by cases k <;> simp[bo]at h
 | f+1,_,_,σ,_,.nil,_,h=>h
 | f+1,_,_,σ,_,.kG μ m hI hk,_,h=>by
   simp only[bo]at h ⊢
   exact⟨hI _ h.1,h.2⟩
 | f+1,_,_,σ,hu,.same (k:=k) (k':=k') i hk,fA,h=>by
   have hno':∀ i∈k,(∃ J,i=.cut J)∨(∃ a b c,i=.fJ a b c)→False:=fun i hi=>fA i (zMh _ hi)
   have H0:∀ σ,bo V n E f k σ→bo V n E f k' σ:=fun σ h=>qK f hu hk hno' h
   have H1:∀ i σ,((∃ J,i=.cut J)∨(∃ a b c,i=.fJ a b c)→False)→bo V n E f (i::k) σ→bo V n E f (i::k') σ:=fun i σ hi h=>qK f hu (.same i hk) (by
    intro j hj
    rcases zMq.1 hj with rfl|hj
    ·exact hi
    ·exact hno' j hj) h
   have H2:∀ i j σ,((∃ J,i=.cut J)∨(∃ a b c,i=.fJ a b c)→False)→((∃ J,j=.cut J)∨(∃ a b c,j=.fJ a b c)→False)→bo V n E f (i::j::k) σ→bo V n E f (i::j::k') σ:=fun i j σ hi hj h=>qK f hu (.same i (.same j hk)) (by
    intro q hq
    rcases zMq.1 hq with rfl|hq
    ·exact hi
    ·rcases zMq.1 hq with rfl|hq
     ·exact hj
     ·exact hno' q hq) h
   cases i with
   | fJ a b c=>exact(fA _ List.mem_cons_self (.inr ⟨a,b,c,rfl⟩)).elim
   | cut J=>exact(fA _ List.mem_cons_self (.inl ⟨J,rfl⟩)).elim
   | lf id=>simp only[bo]at h ⊢;exact H0 _ h
   | kG I μ m=>simp only[bo]at h ⊢;exact h
   | ops ops l =>
     match l with
     | []=>simp only[bo]at h ⊢;exact H0 _ h
     | ⟨dst,op,ty,pos,after,none⟩::r =>
       simp only[bo]at h ⊢
       exact⟨h.1,xB (fun σ h=>H1 _ _ (by rintro(⟨_,h⟩|⟨_,_,_,h⟩) <;> cases h) h) h.2⟩
     | ⟨dst,op,ty,pos,after,some (j,want)⟩::r =>
       simp only[bo]at h ⊢
       refine⟨h.1,?_⟩
       have h:=h.2
       have HC:∀ σ,bo V n E f (.ops ops r::k) σ→bo V n E f (.ops ops r::k') σ:=fun σ h=>H1 _ _ (by rintro(⟨_,h⟩|⟨_,_,_,h⟩) <;> cases h) h
       cases hg:Yk σ.t (eK ops.toList j) with
       | some p =>
         obtain⟨d,b⟩:=p
         rw[hg]at h
         simp only[XA,XG]at h ⊢
         exact⟨h.1,fun e=>xB HC (h.2.1 e),fun e=>HC _ (h.2.2 e)⟩
       | none =>
         rw[hg]at h
         cases HV:Ec σ.t (eK ops.toList j) with
         | true=>rw[HV]at h;simp only[XA]at h ⊢;exact HC _ h
         | false=>rw[HV]at h;simp[XA]at h
   | eE ops l rs =>
     match l with
     | []=>simp only[bo]at h ⊢;exact⟨h.1,H0 _ h.2⟩
     | ⟨dst,op,ty,pos,after,none⟩::r =>
       simp only[bo]at h ⊢
       exact⟨h.1,xD (fun rs σ h=>H1 _ _ (by rintro(⟨_,h⟩|⟨_,_,_,h⟩) <;> cases h) h) h.2⟩
     | ⟨dst,op,ty,pos,after,some (j,want)⟩::r =>
       simp only[bo]at h ⊢
       refine⟨h.1,?_⟩
       have h:=h.2
       have HC:∀ rs σ,bo V n E f (.eE ops r rs::k) σ→bo V n E f (.eE ops r rs::k') σ:=fun rs σ h=>H1 _ _ (by rintro(⟨_,h⟩|⟨_,_,_,h⟩) <;> cases h) h
       cases hg:Yk σ.t (eK ops.toList j) with
       | some p =>
         obtain⟨d,b⟩:=p
         rw[hg]at h
         simp only[Xy,XG]at h ⊢
         exact⟨h.1,fun e=>xD HC (h.2.1 e),fun e=>HC _ _ (h.2.2 e)⟩
       | none =>
         rw[hg]at h
         cases HV:Ec σ.t (eK ops.toList j) with
         | true=>rw[HV]at h;simp only[Xy]at h ⊢;exact HC _ _ h
         | false=>rw[HV]at h;simp[Xy]at h
   | code c =>
     have nc:∀ c:Code,((∃ J,Item.code c=.cut J)∨(∃ a b d,Item.code c=.fJ a b d)→False):=by
      rintro c (⟨_,h⟩|⟨_,_,_,h⟩) <;> cases h
     cases c with
     | skip=>simp only[bo]at h ⊢;exact H0 _ h
     | region id ops draw =>
       cases draw
       ·simp only[bo]at h ⊢
        exact H1 _ _ (by rintro(⟨_,h⟩|⟨_,_,_,h⟩) <;> cases h) h
       ·simp only[bo]at h ⊢
        cases hw:E.y5 id with
        | all t=>rw[hw]at h;simp only[xY,hu]at h;exact absurd h.1 (by simp)
        | ord p =>
          rw[hw]at h
          simp only[xY]at h ⊢
          exact⟨h.1,H1 _ _ (by rintro(⟨_,h⟩|⟨_,_,_,h⟩) <;> cases h) h.2⟩
     | seq x y=>simp only[bo]at h ⊢;exact H2 _ _ _ (nc _) (nc _) h
     | cond c x y =>
       simp only[bo]at h ⊢
       cases hb:ev σ.t c with
       | none=>rw[hb]at h;simp[XN]at h
       | some v =>
         rw[hb]at h
         cases v <;> simp only[XN,XQ]at h ⊢
         exact⟨fun e=>H1 _ _ (nc _) (h.1 e),fun e=>H1 _ _ (nc _) (h.2 e)⟩
     | block id x=>simp only[bo]at h ⊢;exact H2 _ _ _ (nc _) (by rintro(⟨_,h⟩ | ⟨_,_,_,h⟩) <;> cases h) h
     | loop x =>
       simp only[bo,uf]at h ⊢
       obtain⟨I,μ,h0,h1⟩:=h
       exact⟨I,μ,h0,fun σ' hi=>H2 _ _ _ (nc _) (by rintro(⟨_,h⟩|⟨_,_,_,h⟩) <;> cases h) (h1 σ' hi)⟩
     | exit id =>
       simp only[bo]at h ⊢
       cases hx:XE id k with
       | none=>rw[hx]at h;simp[XO]at h
       | some q =>
         obtain⟨q',hq,hle⟩:=hk.exit hx
         rw[hx]at h
         rw[hq]
         simp only[XO]at h ⊢
         refine qK f hu hle (fun i hi=>hno' i ?_) h
         exact uW hx i hi
     | ret=>simp only[bo]at h ⊢;exact h
     | _=>simp[bo]at h
where uW {id:Nat}:∀ {k q:List Item},XE id k=some q→∀ i∈q,i∈k
 | [],_,h=>by simp[XE]at h
 | i::k,q,h=>by
   cases i
   case lf id' =>
    simp only[XE]at h
    split at h
    ·cases h;exact fun i hi=>zMh _ hi
    ·exact fun i hi=>zMh _ (uW h i hi)
   all_goals
    simp only[XE]at h
    exact fun i hi=>zMh _ (uW h i hi)
theorem okI.cons {E:Fin}{D:List kj}(h:okI E D)(i:kj)(hi:∀ I μ m P,i≠.dl I μ m P):okI E (i::D):=fun I μ m P hm=>by
 rcases zMq.1 hm with e|hm
 ·exact absurd e.symm (hi _ _ _ _)
 ·exact h I μ m P hm
theorem okI.tail {E:Fin}{D:List kj}{i:kj}(h:okI E (i::D)):okI E D:=fun I μ m P hm=>h I μ m P (zMh _ hm)
theorem DR (o:SV × List ay):∀ (D:List kj),∀ i∈inst o D,(∃ J,i=Item.cut J)∨(∃ a b c,i=.fJ a b c)→False
 | [],i,h=>by simp[inst]at h
 | d::D,i,h=>by
   cases d <;> simp only[inst]at h <;> (
    rcases zMq.1 h with e0|h0
    ·subst e0
     rintro(⟨_,e⟩|⟨_,_,_,e⟩) <;> cases e
    ·exact DR o D i h0)
theorem rz {id:Nat}:∀ {D:List kj}{q:List Item},XE id (base D)=some q→∃ D',q=base D'∧(∀ o,XE id (inst o D)=some (inst o D'))∧∀ i∈D',i∈D
 | [],_,h=>by simp[base,XE]at h
 | d::D,q,h=>by
   cases d
   case lf id' =>
    simp only[base,XE]at h
    split at h
    ·rename_i hh
     cases h
     exact⟨D,rfl,fun o=>by simp[inst,XE,hh],fun i hi=>zMh _ hi⟩
    ·rename_i hh
     obtain⟨D',h1,h2,h3⟩:=rz h
     exact⟨D',h1,fun o=>by simp only[inst,XE,if_neg hh];exact h2 o,fun i hi=>zMh _ (h3 i hi)⟩
   all_goals
    simp only[base,XE]at h
    obtain⟨D',h1,h2,h3⟩:=rz h
    exact⟨D',h1,fun o=>by simp only[inst,XE];exact h2 o,fun i hi=>zMh _ (h3 i hi)⟩
def FU (V:Cx)(n:Nat)(E:Fin)(f:Nat)(D:List kj)(σ:St):Prop:=∃ o:SV × List ay,E.K o.1 o.2∧bo V n (Eo E o) f (inst o D) σ
theorem xA {E:Fin}(hu:E.uni=true){f:Nat}{ops:Array Oper}{r:List Oper}{D:List kj}(H:∀ σ,bo V n E f (.ops ops r::base D) σ→FU V n E f (.ops ops r::D) σ){s:fj}(h:Yc V n E f ops r (base D) s) :
 ∃ o:SV × List ay,E.K o.1 o.2∧Yc V n (Eo E o) f ops r (inst o D) s:=by
 cases s <;> simp only[Yc]at h ⊢
 ·obtain⟨o,h1,h2⟩:=H _ h.2
  exact⟨o,h1,h.1,h2⟩
 ·unfold lj at h
  rcases h with⟨x,h1,h2⟩|⟨R,h1,h3,h2⟩
  ·obtain⟨o,k1,k2⟩:=H _ h2
   exact⟨o,k1,by unfold lj;exact .inl ⟨x,h1,k2⟩⟩
  ·obtain⟨x,b,hR,h4⟩:=h3 hu
   obtain⟨o,k1,k2⟩:=H _ (h2 x b hR)
   exact⟨o,k1,by unfold lj;exact .inr ⟨_,h4,fun _=>⟨x,b,⟨rfl,rfl⟩,h4⟩,by rintro _ _ ⟨rfl,rfl⟩;exact k2⟩⟩
theorem xC {E:Fin}{f:Nat}{ops:Array Oper}{r:List Oper}{rs:List Rk}{D:List kj}(H:∀ rs σ,bo V n E f (.eE ops r rs::base D) σ→FU V n E f (.eE ops r rs::D) σ){dst:Option Tmp}{σ:St}{s:iT}(h:Yg V n E f ops r rs (base D) dst σ s) :
 ∃ o:SV × List ay,E.K o.1 o.2∧Yg V n (Eo E o) f ops r rs (inst o D) dst σ s:=by
 cases s with
 | bad=>simp only[Yg]at h
 | val c r =>
   obtain⟨x,nb,all,rd,wr⟩:=r
   cases nb <;> simp only[Yg]at h ⊢ <;> obtain⟨o,k1,k2⟩:=H _ _ h.2 <;> exact⟨o,k1,h.1,k2⟩
 | call g args =>
   simp only[Yg]at h ⊢
   unfold ll at h
   rcases h with⟨x,h1,h2⟩|⟨x,b,h1,h2⟩|⟨x,b,W,h1,h2,h3⟩
   ·obtain⟨o,k1,k2⟩:=H _ _ h2
    exact⟨o,k1,by unfold ll;exact .inl ⟨x,h1,k2⟩⟩
   ·obtain⟨o,k1,k2⟩:=H _ _ h2
    exact⟨o,k1,by unfold ll;exact .inr (.inl ⟨x,b,h1,k2⟩)⟩
   ·obtain⟨o,k1,k2⟩:=H _ _ h3
    exact⟨o,k1,by unfold ll;exact .inr (.inr ⟨x,b,W,h1,h2,k2⟩)⟩
theorem Gf {E:Fin}(hu:E.uni=true):∀ (f:Nat)(D:List kj)(σ:St),okI E D→bo V n E f (base D) σ→FU V n E f D σ
 | 0,D,σ,_,h=>by cases hD:base D <;> rw[hD]at h <;> simp[bo]at h
 | f+1,D,σ,bU,h=>by
   have ih:=Gf hu f
   match D,bU,h with
   | [],bU,h =>
     simp only[base,bo]at h
     cases hl:XT V σ E.rs with
     | none=>rw[hl]at h;simp[rA]at h
     | some l =>
       rw[hl]at h
       refine⟨(qP l,σ.b),h,?_⟩
       simp only[inst,bo,Eo,hl,rA]
       first|exact⟨rfl,rfl⟩|exact⟨trivial,trivial⟩
   | .lf id::D,bU,h =>
     simp only[base,bo]at h
     obtain⟨o,k1,k2⟩:=ih D σ bU.tail h
     exact⟨o,k1,by simp only[inst,bo];exact k2⟩
   | .dl I μ m P::D,bU,h =>
     simp only[base,bo]at h
     obtain⟨o,k1,k2⟩:=bU I μ m P List.mem_cons_self σ h.1 h.2
     exact⟨o,k1,by simp only[inst,bo];exact⟨k2,h.2⟩⟩
   | .ops ops l::D,bU,h =>
     have qj:=bU.tail
     have HC:∀ r σ,bo V n E f (.ops ops r::base D) σ→FU V n E f (.ops ops r::D) σ:=fun r σ h=>ih (.ops ops r::D) σ (qj.cons _ (by intros;intro e;cases e)) h
     match l with
     | [] =>
       simp only[base,bo]at h
       obtain⟨o,k1,k2⟩:=ih D σ qj h
       exact⟨o,k1,by simp only[inst,bo];exact k2⟩
     | ⟨dst,op,ty,pos,after,none⟩::r =>
       simp only[base,bo]at h
       obtain⟨o,k1,k2⟩:=xA hu (HC r) h.2
       exact⟨o,k1,by simp only[inst,bo];exact⟨h.1,k2⟩⟩
     | ⟨dst,op,ty,pos,after,some (j,want)⟩::r =>
       simp only[base,bo]at h
       have bR:=h.1
       have h:=h.2
       suffices hs:∃ o:SV × List ay,E.K o.1 o.2∧XA V n (Eo E o) f ops dst op want r (inst o D) σ (Yk σ.t (eK ops.toList j)) (Ec σ.t (eK ops.toList j)) by
        obtain⟨o,k1,k2⟩:=hs
        exact⟨o,k1,by simp only[inst,bo];exact⟨bR,k2⟩⟩
       cases hg:Yk σ.t (eK ops.toList j) with
       | some p =>
         obtain⟨d,b⟩:=p
         rw[hg]at h
         simp only[XA,XG]at h ⊢
         by_cases hb:b=want
         ·obtain⟨o,k1,k2⟩:=xA hu (HC r) (h.2.1 hb)
          exact⟨o,k1,h.1,fun _=>k2,fun e=>by rw[hb]at e;cases want <;> cases e⟩
         ·have hb':b=!want:=by cases b <;> cases want <;> simp at hb ⊢
          obtain⟨o,k1,k2⟩:=HC r _ (h.2.2 hb')
          exact⟨o,k1,h.1,fun e=>absurd e hb,fun _=>k2⟩
       | none =>
         rw[hg]at h
         cases HV:Ec σ.t (eK ops.toList j) with
         | true=>rw[HV]at h;simp only[XA]at h ⊢;exact HC r _ h
         | false=>rw[HV]at h;simp[XA]at h
   | .eE ops l rs::D,bU,h =>
     have qj:=bU.tail
     have HC:∀ r rs σ,bo V n E f (.eE ops r rs::base D) σ→FU V n E f (.eE ops r rs::D) σ:=fun r rs σ h=>ih (.eE ops r rs::D) σ (qj.cons _ (by intros;intro e;cases e)) h
     match l with
     | [] =>
       simp only[base,bo]at h
       obtain⟨o,k1,k2⟩:=ih D σ qj h.2
       exact⟨o,k1,by simp only[inst,bo];exact⟨h.1,k2⟩⟩
     | ⟨dst,op,ty,pos,after,none⟩::r =>
       simp only[base,bo]at h
       obtain⟨o,k1,k2⟩:=xC (HC r) h.2
       exact⟨o,k1,by simp only[inst,bo];exact⟨h.1,k2⟩⟩
     | ⟨dst,op,ty,pos,after,some (j,want)⟩::r =>
       simp only[base,bo]at h
       have bR:=h.1
       have h:=h.2
       suffices hs:∃ o:SV × List ay,E.K o.1 o.2∧Xy V n (Eo E o) f ops dst op want r rs (inst o D) σ (Yk σ.t (eK ops.toList j)) (Ec σ.t (eK ops.toList j)) by
        obtain⟨o,k1,k2⟩:=hs
        exact⟨o,k1,by simp only[inst,bo];exact⟨bR,k2⟩⟩
       cases hg:Yk σ.t (eK ops.toList j) with
       | some p =>
         obtain⟨d,b⟩:=p
         rw[hg]at h
         simp only[Xy,XG]at h ⊢
         by_cases hb:b=want
         ·obtain⟨o,k1,k2⟩:=xC (HC r) (h.2.1 hb)
          exact⟨o,k1,h.1,fun _=>k2,fun e=>by rw[hb]at e;cases want <;> cases e⟩
         ·have hb':b=!want:=by cases b <;> cases want <;> simp at hb ⊢
          obtain⟨o,k1,k2⟩:=HC r _ _ (h.2.2 hb')
          exact⟨o,k1,h.1,fun e=>absurd e hb,fun _=>k2⟩
       | none =>
         rw[hg]at h
         cases HV:Ec σ.t (eK ops.toList j) with
         | true=>rw[HV]at h;simp only[Xy]at h ⊢;exact HC r _ _ h
         | false=>rw[HV]at h;simp[Xy]at h
   | .code c::D,bU,h =>
     have qj:=bU.tail
     have HC:∀ c σ,bo V n E f (.code c::base D) σ→FU V n E f (.code c::D) σ:=fun c σ h=>ih (.code c::D) σ (qj.cons _ (by intros;intro e;cases e)) h
     cases c with
     | skip =>
       simp only[base,bo]at h
       obtain⟨o,k1,k2⟩:=ih D σ qj h
       exact⟨o,k1,by simp only[inst,bo];exact k2⟩
     | region id ops draw =>
       cases draw
       ·simp only[base,bo]at h
        obtain⟨o,k1,k2⟩:=ih (.ops ops ops.toList::D) σ (qj.cons _ (by intros;intro e;cases e)) h
        exact⟨o,k1,by simp only[inst,bo];exact k2⟩
       ·simp only[base,bo]at h
        cases hw:E.y5 id with
        | all t=>rw[hw]at h;simp only[xY,hu]at h;exact absurd h.1 (by simp)
        | ord p =>
          rw[hw]at h
          simp only[xY]at h
          obtain⟨o,k1,k2⟩:=ih (.eE (mW ops p) (mW ops p).toList []::D) σ (qj.cons _ (by intros;intro e;cases e)) h.2
          refine⟨o,k1,?_⟩
          simp only[inst,bo,Eo,hw,xY]
          exact⟨h.1,k2⟩
     | seq x y =>
       simp only[base,bo]at h
       obtain⟨o,k1,k2⟩:=ih (.code x::.code y::D) σ ((qj.cons _ (by intros;intro e;cases e)).cons _ (by intros;intro e;cases e)) h
       exact⟨o,k1,by simp only[inst,bo];exact k2⟩
     | cond c x y =>
       simp only[base,bo]at h
       suffices hs:∃ o:SV × List ay,E.K o.1 o.2∧XN V n (Eo E o) f x y (inst o D) σ (ev σ.t c) by
        obtain⟨o,k1,k2⟩:=hs
        exact⟨o,k1,by simp only[inst,bo];exact k2⟩
       cases hb:ev σ.t c with
       | none=>rw[hb]at h;simp[XN]at h
       | some v =>
         rw[hb]at h
         cases v <;> simp only[XN,XQ]at h ⊢
         rename_i b
         cases b
         ·obtain⟨o,k1,k2⟩:=HC y σ (h.2 rfl)
          exact⟨o,k1,fun e=>(by cases e),fun _=>k2⟩
         ·obtain⟨o,k1,k2⟩:=HC x σ (h.1 rfl)
          exact⟨o,k1,fun _=>k2,fun e=>(by cases e)⟩
     | block id x =>
       simp only[base,bo]at h
       obtain⟨o,k1,k2⟩:=ih (.code x::.lf id::D) σ ((qj.cons _ (by intros;intro e;cases e)).cons _ (by intros;intro e;cases e)) h
       exact⟨o,k1,by simp only[inst,bo];exact k2⟩
     | loop x =>
       simp only[base,bo,uf]at h
       obtain⟨I,μ,h0,h1⟩:=h
       let H:SV × List ay→St→Prop:=fun o σ=>∃ S:St→Prop,S σ∧∀ σ',S σ'→bo V n (Eo E o) f (.code x::.kG S μ (μ σ')::inst o D) σ'
       have key:∀ m σ,μ σ=m→I σ→∃ o:SV × List ay,E.K o.1 o.2∧H o σ:=by
        intro m
        induction m using Nat.strongRecOn with
        | _ m ihm =>
        intro σ hm hi
        obtain⟨o,k1,k2⟩:=ih (.code x::.dl I μ (μ σ) (fun o σ2=>I σ2∧H o σ2)::D) σ (by
         refine okI.cons (fun I' μ' m' P o7=>?_) _ (by intros;intro e;cases e)
         rcases zMq.1 o7 with e|o7
         ·cases e
          intro σ2 F9 aA
          obtain⟨o,k1,k2⟩:=ihm (μ σ2) (by omega) σ2 rfl F9
          exact⟨o,k1,F9,k2⟩
         ·exact qj I' μ' m' P o7) (h1 σ hi)
        have fA:∀ (S:St→Prop) m,∀ i∈(.code x::.kG S μ m::inst o D:List Item),(∃ J,i=Item.cut J)∨(∃ a b c,i=.fJ a b c)→False:=fun S m i hi=>by
         rcases zMq.1 hi with rfl|hi
         ·rintro(⟨_,e⟩|⟨_,_,_,e⟩) <;> cases e
         ·rcases zMq.1 hi with rfl|hi
          ·rintro(⟨_,e⟩|⟨_,_,_,e⟩) <;> cases e
          ·exact DR o D i hi
        refine⟨o,k1,fun σ'=>σ'=σ∨H o σ',.inl rfl,?_⟩
        rintro σ' (rfl|⟨S,hS,aT⟩)
        ·exact qK f (E:=Eo E o) hu (.same _ (.kG μ _ (fun σ2 h2=>.inr h2.2) (BN.refl _))) (fA _ _) k2
        ·exact qK f (E:=Eo E o) hu (.same _ (.kG μ _ (fun σ2 h2=>.inr ⟨S,h2,aT⟩) (BN.refl _))) (fA _ _) (aT σ' hS)
       obtain⟨o,k1,S,k2,k3⟩:=key _ σ rfl h0
       exact⟨o,k1,by simp only[inst,bo,uf];exact⟨S,μ,k2,k3⟩⟩
     | exit id =>
       simp only[base,bo]at h
       cases hx:XE id (base D) with
       | none=>rw[hx]at h;simp[XO]at h
       | some q =>
         obtain⟨D',rfl,h2,h3⟩:=rz hx
         rw[hx]at h
         simp only[XO]at h
         obtain⟨o,k1,k2⟩:=ih D' σ (fun I μ m P hm=>qj I μ m P (h3 _ hm)) h
         exact⟨o,k1,by simp only[inst,bo,h2 o,XO];exact k2⟩
     | ret =>
       simp only[base,bo]at h
       cases hl:XT V σ E.rs with
       | none=>rw[hl]at h;simp[rA]at h
       | some l =>
         rw[hl]at h
         refine⟨(qP l,σ.b),h,?_⟩
         simp only[inst,bo,Eo,hl,rA]
         first|exact⟨rfl,rfl⟩|exact⟨trivial,trivial⟩
     | _=>simp[base,bo]at h
theorem su_ofP (y5:Nat→How){f:FuncId}{fn:Func}{c:Code}{args:List SV}{bs:List ay}{R:SV→List ay→Prop}{n:Nat}{rs:Array ResultVar}(fuel:Nat)(hf:V.P.funcs[f]? = some fn)(hb:fn.body=some c)(hn:fn.ntmps=n)(hr:fn.results=rs)(iZ:Enters V f)
 (hlen:args.length≤n) (jo:∀ β β',bp bs.length β β'→aI β args=aI β' args) (h:bo V n ⟨rs.toList,R,y5,true⟩ fuel [.code c] ⟨Yj 0 args,bs⟩):SU V f args bs R:=by
 obtain⟨o,k1,k2⟩:=Gf (E:=⟨rs.toList,R,y5,true⟩) rfl fuel [.code c] ⟨Yj 0 args,bs⟩ (fun I μ m P hm=>by simp at hm) h
 exact⟨o.1,o.2,k1,Gv true y5 fuel hf hb hn hr iZ hlen jo k2⟩
theorem Gn {f:FuncId}{fn:Func}{c:Code}{args:List SV}{bs:List ay}{R:SV→List ay→Prop}{n:Nat}{rs:Array ResultVar}(fuel:Nat)(hf:V.P.funcs[f]? = some fn)(hb:fn.body=some c)(hn:fn.ntmps=n)(hr:fn.results=rs)(iZ:Enters V f)
 (hlen:args.length≤n) (jo:∀ β β',bp bs.length β β'→aI β args=aI β' args) (h:bo V n ⟨rs.toList,R,fun _=>.ord [],true⟩ fuel [.code c] ⟨Yj 0 args,bs⟩):SU V f args bs R :=
 su_ofP (fun _=>.ord []) fuel hf hb hn hr iZ hlen jo h
theorem aK {E:Fin}{f:Nat}{A B:Code}{k:List Item}{σ0:St}(g:Nat)(J:St→Prop)(h1:∀ m σ,J σ→bo V n E (m+g) (.code B::k) σ)(h2:∀ k',(∀ m σ,J σ→bo V n E (m+g) k' σ)→bo V n E f (.code A::k') σ0):bo V n E (f+1) (.code (.seq A B)::k) σ0:=by
 simp only[bo]
 exact h2 _ h1
theorem BG {E:Fin}{n f:Nat}{ops:Array Oper}{r:List Oper}{k:List Item}{g:FuncId}{args:List SV}{dst:Option Tmp}{σ:St}{R:SV→List ay→Prop}(h:SU V g args σ.b R)(h2:∀ x bs,R x bs→bo V n E f (.ops ops r::k) ⟨put dst x σ.t,bs⟩):lj V n E f ops r k g args dst σ:=by
 unfold lj;exact .inr ⟨R,h.sc,fun _=>h,h2⟩
theorem gY {E:Fin}{n f:Nat}{ops:Array Oper}{r:List Oper}{k:List Item}{g:FuncId}{args:List SV}{dst:Option Tmp}{σ:St}{x:SV}{b:List ay}(h:SC V g args σ.b (fun r b'=>r=x∧b'=b))(h2:∀ y bs,y=x∧bs=b→bo V n E f (.ops ops r::k) ⟨put dst y σ.t,bs⟩):lj V n E f ops r k g args dst σ :=
 BG ⟨x,b,⟨rfl,rfl⟩,h⟩ h2
end
end Vc
namespace Go.Proofs.YteipdaijbncgeaaGreatDoor
open Go Vc Go.RowKit Wf
def lp (v:Vd)(now:Int):En:=⟨v,now,jS now v.dU⟩
section
variable {b:List ay} {q:Nat} {L:List En} {m:Bool} {t:Bytes} {cp now:Int}
theorem FK (L:List En)(k:Nat)(h:k<L.length):(L.flatMap enc).take (k * 14)++(L.flatMap enc).drop ((k+1) * 14)=(L.eraseIdx k).flatMap enc:=by
 rw[(iQ L k).1,(iQ L (k+1)).2,← zMp,List.eraseIdx_eq_take_drop_succ]
theorem enc_ins (L:List En)(k:Nat)(x:En):(L.flatMap enc).take (k * 14)++enc x++(L.flatMap enc).drop (k * 14)=(L.take k++[x]++L.drop k).flatMap enc:=by
 rw[(iQ L k).1,(iQ L k).2,zMp,zMp];simp
theorem enc_set (L:List En)(k:Nat)(x:En)(h:k<L.length):(L.flatMap enc).take (k * 14)++(enc x++(L.flatMap enc).drop (k * 14+14))=(L.set k x).flatMap enc:=by
 rw[(iQ L k).1,show k * 14+14=(k+1) * 14 by omega,(iQ L (k+1)).2,List.set_eq_take_append_cons_drop,if_pos h,zMp,zMx]
def oT (cp:Int)(L:List En)(v:Vd)(now:Int)(vb:Bool):List En:=if jZ v&&vb&&!decide (cp≤0) then eX En.key En.aP cp L (lp v now) else L
theorem Ei {L:List En}(hT:∀ e∈L,e.v.tr=.aD):(L.flatMap enc).all one=true:=by
 rw[zMr]
 intro x hx
 obtain⟨e,he,hx⟩:=List.mem_flatMap.1 hx
 have:=hT e he
 simp only[enc,this]at hx
 simp at hx
 rcases hx with rfl|rfl|rfl|rfl|rfl|rfl|rfl|rfl|rfl|rfl|rfl|rfl|rfl|rfl <;> rfl
structure P1 (b:List ay) (cp:Int) (v:Vd) (x1:SV) (b1:List ay):Prop where
 kp:Kp b b1
 c:b1[b.length]? = some (.cells [.int .i64 cp,x1] 24 true)
 v:b1[b.length+1]? = some (.cells [.int .i64 v.err,.int .i64 v.id.kind,.str v.id.text,.str v.id.host,.int .i64 v.id.port,.int .i64 v.cP.kind,.str v.cP.text,.str v.cP.host,.int .i64 v.cP.port,.bool v.store,.int .u64 v.dU,v.tr] 41 true)
 o:b1[b.length+2]? = some (.cells [.int .i64 0,.aD] 24 true)
theorem gC.tv {b:List ay}{x:SV}{L:List En}{m:Bool}(h:gC b x L m){k:Nat}(hk:∀ q,b[q]? = some (.own (L.flatMap enc) 43 14 L.length m)→k≠q)(X:ay):gC (b.set k X) x L m:=by
 rcases h with h|⟨q,rfl,hq⟩
 ·exact .inl h
 ·exact .inr ⟨q,rfl,aF hq (hk q hq) _⟩
theorem pH {v:Vd}(h1:one v.tr=true)(hw:within b.length v.tr=true):SC Tryz.V 27 [.agg (eJ v)] b (fun r b'=>r=.bool (jZ v)∧b'=b):=by
 refine fm rfl ?_
 unfold eJ jZ
 refine cK 3000 Tryz.func27 rfl Tryz.ntmps27 Tryz.results27 Tryz.call27 (by simp) (aw b.length _ (by simp[within,within.aN,hw])) ?_
 generalize v.store=s
 cases c1:v.err==0
 ·simp only[ad,↓Xn,↓Xo,↓Xg,↓Xd,↓Xe,↓Xf,Tryz.VΓ,Tryz.Γs,Xp,Xi,Nat.reduceAdd,Nat.reduceSub,Nat.reduceLT,Nat.reduceLeDiff,reduceIte,reduceCtorEq,Nat.reduceEqDiff,implies_true,forall_const,aa,ak,beq_self_eq_true,bne_self_eq_false,Int.reduceBEq,Int.reduceBNe,Int.reduceLT,Int.reduceLE,h1,c1]
  exact(Kp.refl _).app _
 ·cases s
  ·simp only[ad,↓Xn,↓Xo,↓Xg,↓Xd,↓Xe,↓Xf,Tryz.VΓ,Tryz.Γs,Xp,Xi,Nat.reduceAdd,Nat.reduceSub,Nat.reduceLT,Nat.reduceLeDiff,reduceIte,reduceCtorEq,Nat.reduceEqDiff,implies_true,forall_const,aa,ak,beq_self_eq_true,bne_self_eq_false,Int.reduceBEq,Int.reduceBNe,Int.reduceLT,Int.reduceLE,h1,c1]
   exact(Kp.refl _).app _
  ·cases c2:decide (1≤v.dU)
   ·simp only[ad,↓Xn,↓Xo,↓Xg,↓Xd,↓Xe,↓Xf,Tryz.VΓ,Tryz.Γs,Xp,Xi,Nat.reduceAdd,Nat.reduceSub,Nat.reduceLT,Nat.reduceLeDiff,reduceIte,reduceCtorEq,Nat.reduceEqDiff,implies_true,forall_const,aa,ak,beq_self_eq_true,bne_self_eq_false,Int.reduceBEq,Int.reduceBNe,Int.reduceLT,Int.reduceLE,h1,c1,c2]
    exact(Kp.refl _).app _
   ·cases c3:decide (v.dU≤86400)
    ·simp only[ad,↓Xn,↓Xo,↓Xg,↓Xd,↓Xe,↓Xf,Tryz.VΓ,Tryz.Γs,Xp,Xi,Nat.reduceAdd,Nat.reduceSub,Nat.reduceLT,Nat.reduceLeDiff,reduceIte,reduceCtorEq,Nat.reduceEqDiff,implies_true,forall_const,aa,ak,beq_self_eq_true,bne_self_eq_false,Int.reduceBEq,Int.reduceBNe,Int.reduceLT,Int.reduceLE,h1,c1,c2,c3]
     exact(Kp.refl _).app _
    ·simp only[ad,↓Xn,↓Xo,↓Xg,↓Xd,↓Xe,↓Xf,Tryz.VΓ,Tryz.Γs,Xp,Xi,Nat.reduceAdd,Nat.reduceSub,Nat.reduceLT,Nat.reduceLeDiff,reduceIte,reduceCtorEq,Nat.reduceEqDiff,implies_true,forall_const,aa,ak,beq_self_eq_true,bne_self_eq_false,Int.reduceBEq,Int.reduceBNe,Int.reduceLT,Int.reduceLE,h1,c1,c2,c3]
     exact(Kp.refl _).app _
def BX (b:List ay)(tb:Nat)(X:List ay):Prop:=∀ i Y,X[i]? = some Y→b[tb+i]? = some Y
theorem BX.app {b:List ay}{tb:Nat}{X:List ay}(h:BX b tb X)(l:List ay):BX (b++l) tb X:=fun i Y hi=>af (h i Y hi) _
theorem BX.kp {b b':List ay}{tb:Nat}{X:List ay}(h:BX b tb X)(k:Kp b b'):BX b' tb X:=fun i Y hi=>k.at (h i Y hi)
theorem BX.set {b:List ay}{tb k:Nat}{X:List ay}(h:BX b tb X)(hk:k<tb)(Y:ay):BX (b.set k Y) tb X:=fun i Y hi=>aF (h i Y hi) (by omega) _
def XOk (X:List ay):Prop:=X=[]∨∃ c n mm,X=[.own c 93 9 n mm]
theorem BX.setE {b:List ay}{tb q:Nat}{X:List ay}(h:BX b tb X)(hX:XOk X){c:List SV}{n:Nat}{m:Bool}(hq:b[q]? = some (.own c 43 14 n m))(Y:ay):BX (b.set q Y) tb X:=fun i Z hi=>by
 refine aF (h i Z hi) ?_ _
 rintro rfl
 have h2:=h i Z hi
 rw[hq]at h2
 rcases hX with rfl|⟨c',n',mm,rfl⟩
 ·simp at hi
 ·match i,hi with
  | 0,hi =>
    simp only[List.getElem?_cons_zero,Option.some.injEq]at hi
    subst hi
    cases h2
  | i+1,hi=>simp at hi
theorem su_PutG {x:SV}{v:Vd}{vb:Bool}{X:List ay}(tr':Nat→SV)(h:gC b x L m)(uF:m=true∨L.length≠0∨x=.aD)(hl:L.length≤1000000)(hT:∀ e∈L,e.v.tr=.aD)(ha:kq En.key L)(hv:one v.tr=true)(hvw:within b.length v.tr=true)(BV:cp≤1024)
 (hX:XOk X) (htr:∀ k,one (tr' k)=true) (hcop:∀ b2,Kp b b2→SC Tryz.V 34 [.agg (eJ v)] b2 (fun r b'=>r=.agg (eJ { v with tr:=tr' b2.length })∧b'=b2++X))
 (hid:PC Tryz.V 28 [.agg [.int .i64 v.id.kind,.str v.id.text,.str v.id.host,.int .i64 v.id.port]] (.bool vb)) :
 SU Tryz.V 17 [.agg [.int .i64 cp,x],.agg (eJ v),.int .u64 now] b (fun r b'=>Kp b b'∧∃ x' tb,r=.agg [.int .i64 cp,x']∧gC b' x' (if jZ v&&vb&&!decide (cp≤0) then eX En.key En.aP cp L (lp { v with tr:=tr' tb } now) else L) true∧((jZ v&&vb&&!decide (cp≤0))=true→BX b' tb X)):=by
 have hw:=h.within
 have ho:=h.one
 have sS:eJ v=[.int .i64 v.err,.int .i64 v.id.kind,.str v.id.text,.str v.id.host,.int .i64 v.id.port,.int .i64 v.cP.kind,.str v.cP.text,.str v.cP.host,.int .i64 v.cP.port,.bool v.store,.int .u64 v.dU,v.tr]:=rfl
 rw[sS]
 obtain⟨cb,hcb⟩:∃ cb,cb=(jZ v&&vb&&!decide (cp≤0)):=⟨_,rfl⟩
 rw[← hcb]
 refine Gn 3000 Tryz.func17 rfl Tryz.ntmps17 Tryz.results17 Tryz.call17 (by simp) (aw b.length _ (by simp[within,within.aN,hw,hvw])) ?_
 refine aK 2900 (fun σ=>lk 2 σ.t=some (.int .u64 now)∧lk 3 σ.t=some (.p b.length 0)∧lk 4 σ.t=some (.p (b.length+1) 0)∧lk 6 σ.t=some (.p (b.length+2) 0)∧σ.b=b++[.cells [.int .i64 cp,x] 24 true,.cells [.int .i64 v.err,.int .i64 v.id.kind,.str v.id.text,.str v.id.host,.int .i64 v.id.port,.int .i64 v.cP.kind,.str v.cP.text,.str v.cP.host,.int .i64 v.cP.port,.bool v.store,.int .u64 v.dU,v.tr] 41 true,.cells [.int .i64 0,.aD] 24 true]) ?_ (fun k' hk'=>?_)
 rotate_left
 ·simp only[ad,↓Xn,↓Xo,↓Xg,↓Xd,↓Xe,↓Xf,Tryz.VΓ,Tryz.Γs,Xp,Xi,Nat.reduceAdd,Nat.reduceSub,Nat.reduceLT,Nat.reduceLeDiff,reduceIte,reduceCtorEq,Nat.reduceEqDiff,implies_true,forall_const,aa,ak,beq_self_eq_true,bne_self_eq_false,Int.reduceBEq,Int.reduceBNe,Int.reduceLT,Int.reduceLE,ho,hv]
  exact hk' _ _ ⟨rfl,rfl,rfl,rfl,rfl⟩
 rintro m1 ⟨t1,b1⟩ ⟨l2,l3,l4,l6,rfl⟩
 simp only at l2 l3 l4 l6
 refine aK 2800 (fun σ=>lk 2 σ.t=some (.int .u64 now)∧lk 3 σ.t=some (.p b.length 0)∧lk 4 σ.t=some (.p (b.length+1) 0)∧lk 6 σ.t=some (.p (b.length+2) 0)∧∃ x1,P1 b cp v x1 σ.b∧gC σ.b x1 L true∧∀ q n,x1=.o q n→b.length≤q) ?_ (fun k' hk'=>?_)
 rotate_left
 ·rcases h with⟨rfl,rfl⟩|⟨q,rfl,hq⟩
  ·simp only[ad,↓Xn,↓Xo,↓Xg,↓Xd,↓Xe,↓Xf,Tryz.VΓ,Tryz.Γs,Xp,Xi,Nat.reduceAdd,Nat.reduceSub,Nat.reduceLT,Nat.reduceLeDiff,reduceIte,reduceCtorEq,Nat.reduceEqDiff,implies_true,forall_const,aa,ak,beq_self_eq_true,bne_self_eq_false,Int.reduceBEq,Int.reduceBNe,Int.reduceLT,Int.reduceLE,l3]
   refine gY rN ?_
   rintro y b2 ⟨rfl,rfl⟩
   simp only[ad,↓Xn,↓Xo,↓Xg,↓Xd,↓Xe,↓Xf,Tryz.VΓ,Tryz.Γs,Xp,Xi,Nat.reduceAdd,Nat.reduceSub,Nat.reduceLT,Nat.reduceLeDiff,reduceIte,reduceCtorEq,Nat.reduceEqDiff,implies_true,forall_const,aa,ak,beq_self_eq_true,bne_self_eq_false,Int.reduceBEq,Int.reduceBNe,Int.reduceLT,Int.reduceLE,l3]
   refine hk' _ _ ?_
   exact⟨l2,l3,l4,l6,_,⟨(Kp.refl _).app _,a6 rfl _ 0,a6 rfl _ 1,a6 rfl _ 2⟩,.inl ⟨rfl,rfl⟩,fun q n h=>by cases h⟩
  ·simp only[ad,↓Xn,↓Xo,↓Xg,↓Xd,↓Xe,↓Xf,Tryz.VΓ,Tryz.Γs,Xp,Xi,Nat.reduceAdd,Nat.reduceSub,Nat.reduceLT,Nat.reduceLeDiff,reduceIte,reduceCtorEq,Nat.reduceEqDiff,implies_true,forall_const,aa,ak,beq_self_eq_true,bne_self_eq_false,Int.reduceBEq,Int.reduceBNe,Int.reduceLT,Int.reduceLE,l3]
   refine gY (tw (af hq _) (by rcases uF with h|h|h;exact .inl h;exact .inr h;cases h) hT hl) ?_
   rintro y b2 ⟨rfl,rfl⟩
   simp only[ad,↓Xn,↓Xo,↓Xg,↓Xd,↓Xe,↓Xf,Tryz.VΓ,Tryz.Γs,Xp,Xi,Nat.reduceAdd,Nat.reduceSub,Nat.reduceLT,Nat.reduceLeDiff,reduceIte,reduceCtorEq,Nat.reduceEqDiff,implies_true,forall_const,aa,ak,beq_self_eq_true,bne_self_eq_false,Int.reduceBEq,Int.reduceBNe,Int.reduceLT,Int.reduceLE,l3]
   refine hk' _ _ ?_
   exact⟨l2,l3,l4,l6,_,⟨(Kp.refl _).app _,a6 rfl _ 0,a6 rfl _ 1,a6 rfl _ 2⟩,.inr ⟨b.length+3,rfl,a6 rfl _ 3⟩,fun q n h=>by cases h;omega⟩
 clear h hw ho uF
 rintro m2 ⟨t2,b2⟩ ⟨l2,l3,l4,l6,x1,hP,hE,A0⟩
 simp only at l2 l3 l4 l6 hP hE
 have ho:=hE.one
 have pc:=hP.c
 have pv:=hP.v
 have po:=hP.o
 have hwn:∀ b2,Kp b b2→within b2.length v.tr=true:=fun b2 k=>nS k.1 _ hvw
 have uN:=pH (b:=b2) hv (hwn _ hP.kp)
 rw[sS]at uN
 refine aK 2700 (fun σ=>lk 2 σ.t=some (.int .u64 now)∧lk 3 σ.t=some (.p b.length 0)∧lk 4 σ.t=some (.p (b.length+1) 0)∧lk 6 σ.t=some (.p (b.length+2) 0)∧σ.b=b2∧(jZ v&&vb&&!decide (cp≤0))=true) ?_ (fun k' hk'=>?_)
 rotate_left
 ·have hs:∀ X,(b2.set (b.length+2) X)[b.length+2]? = some X:=fun X=>zL5 (zL2.1 po).1
  have nz:(jZ v&&vb&&!decide (cp≤0))=false→Kp b (b2.set (b.length+2) (.cells [.int .i64 cp,x1] 24 true))∧∃ x' tb,SV.agg [.int .i64 cp,x1]=.agg [.int .i64 cp,x']∧gC (b2.set (b.length+2) (.cells [.int .i64 cp,x1] 24 true)) x' (if cb then eX En.key En.aP cp L (lp { v with tr:=tr' tb } now) else L) true∧(cb=true→BX (b2.set (b.length+2) (.cells [.int .i64 cp,x1] 24 true)) tb X):=fun h2=>by
   rw[hcb,h2]
   exact⟨hP.kp.set (by omega) _,x1,0,rfl,by simpa using hE.tv (by intro q hq e;subst e;rw[po]at hq;cases hq) _,fun e=>by cases e⟩
  simp only[ad,↓Xn,↓Xo,↓Xg,↓Xd,↓Xe,↓Xf,Tryz.VΓ,Tryz.Γs,Xp,Xi,Nat.reduceAdd,Nat.reduceSub,Nat.reduceLT,Nat.reduceLeDiff,reduceIte,reduceCtorEq,Nat.reduceEqDiff,implies_true,forall_const,aa,ak,beq_self_eq_true,bne_self_eq_false,Int.reduceBEq,Int.reduceBNe,Int.reduceLT,Int.reduceLE,l3,l4,pv,hv]
  refine gY uN ?_
  rintro y b3 ⟨rfl,rfl⟩
  cases vz:jZ v
  ·simp only[ad,↓Xn,↓Xo,↓Xg,↓Xd,↓Xe,↓Xf,Tryz.VΓ,Tryz.Γs,Xp,Xi,Nat.reduceAdd,Nat.reduceSub,Nat.reduceLT,Nat.reduceLeDiff,reduceIte,reduceCtorEq,Nat.reduceEqDiff,implies_true,forall_const,aa,ak,beq_self_eq_true,bne_self_eq_false,Int.reduceBEq,Int.reduceBNe,Int.reduceLT,Int.reduceLE,l3,l4,l6,pv,pc,po,hs,ho,hv]
   exact nz (by rw[vz];rfl)
  ·simp only[ad,↓Xn,↓Xo,↓Xg,↓Xd,↓Xe,↓Xf,Tryz.VΓ,Tryz.Γs,Xp,Xi,Nat.reduceAdd,Nat.reduceSub,Nat.reduceLT,Nat.reduceLeDiff,reduceIte,reduceCtorEq,Nat.reduceEqDiff,implies_true,forall_const,aa,ak,beq_self_eq_true,bne_self_eq_false,Int.reduceBEq,Int.reduceBNe,Int.reduceLT,Int.reduceLE,l3,l4,l6,pv,pc,po,hs,ho,hv]
   refine ae hid ?_
   cases uO:vb
   ·simp only[ad,↓Xn,↓Xo,↓Xg,↓Xd,↓Xe,↓Xf,Tryz.VΓ,Tryz.Γs,Xp,Xi,Nat.reduceAdd,Nat.reduceSub,Nat.reduceLT,Nat.reduceLeDiff,reduceIte,reduceCtorEq,Nat.reduceEqDiff,implies_true,forall_const,aa,ak,beq_self_eq_true,bne_self_eq_false,Int.reduceBEq,Int.reduceBNe,Int.reduceLT,Int.reduceLE,l3,l4,l6,pv,pc,po,hs,ho,hv]
    exact nz (by rw[vz,uO];rfl)
   ·cases hc3:decide (cp≤0)
    ·simp only[ad,↓Xn,↓Xo,↓Xg,↓Xd,↓Xe,↓Xf,Tryz.VΓ,Tryz.Γs,Xp,Xi,Nat.reduceAdd,Nat.reduceSub,Nat.reduceLT,Nat.reduceLeDiff,reduceIte,reduceCtorEq,Nat.reduceEqDiff,implies_true,forall_const,aa,ak,beq_self_eq_true,bne_self_eq_false,Int.reduceBEq,Int.reduceBNe,Int.reduceLT,Int.reduceLE,l3,l4,l6,pv,pc,po,hs,ho,hv,hc3]
     refine hk' _ _ ?_
     exact⟨l2,l3,l4,l6,rfl,by rw[vz,uO,hc3];rfl⟩
    ·simp only[ad,↓Xn,↓Xo,↓Xg,↓Xd,↓Xe,↓Xf,Tryz.VΓ,Tryz.Γs,Xp,Xi,Nat.reduceAdd,Nat.reduceSub,Nat.reduceLT,Nat.reduceLeDiff,reduceIte,reduceCtorEq,Nat.reduceEqDiff,implies_true,forall_const,aa,ak,beq_self_eq_true,bne_self_eq_false,Int.reduceBEq,Int.reduceBNe,Int.reduceLT,Int.reduceLE,l3,l4,l6,pv,pc,po,hs,ho,hv,hc3]
     exact nz (by rw[vz,uO,hc3];rfl)
 rintro m3 ⟨t3,b3⟩ ⟨l2,l3,l4,l6,rfl,jK⟩
 simp only at l2 l3 l4 l6
 have hcp0:0<cp:=by
  have:=jK
  simp at this
  omega
 have hcb1:cb=true:=by rw[hcb];exact jK
 simp only[hcb1,eq_self,if_true,true_implies]
 obtain⟨tb,htb⟩:∃ tb,tb=b3.length:=⟨_,rfl⟩
 obtain⟨e0,he0⟩:∃ e0,e0=lp { v with tr:=tr' tb } now:=⟨_,rfl⟩
 obtain⟨LP,Fi⟩:∃ LP,LP=eX En.key En.aP cp L e0:=⟨_,rfl⟩
 have hpm0:eX En.key En.aP cp L (lp { v with tr:=tr' tb } now)=LP:=by rw[Fi,he0]
 have nD:b.length+2<b3.length:=(zL2.1 po).1
 have hne1:¬ b.length+1=b3.length:=by omega
 refine aK 2600 (fun σ=>lk 3 σ.t=some (.p b.length 0)∧lk 4 σ.t=some (.p (b.length+1) 0)∧lk 6 σ.t=some (.p (b.length+2) 0)∧∃ n7,lk 7 σ.t=some (.p n7 0)∧Kp b3 σ.b∧σ.b[n7]? = some (.cells (enc e0) 43 true)∧b3.length≤n7∧BX σ.b tb X) ?_ (fun k' hk'=>?_)
 rotate_left
 ·have BV:=hcop b3 hP.kp
  rw[sS]at BV
  have mw:=pP now v.dU
  have hve2:eJ { v with tr:=tr' b3.length }=[.int .i64 v.err,.int .i64 v.id.kind,.str v.id.text,.str v.id.host,.int .i64 v.id.port,.int .i64 v.cP.kind,.str v.cP.text,.str v.cP.host,.int .i64 v.cP.port,.bool v.store,.int .u64 v.dU,tr' b3.length]:=rfl
  rw[hve2]at BV
  have v8:=htr b3.length
  have hme:enc e0=[.int .i64 v.err,.int .i64 v.id.kind,.str v.id.text,.str v.id.host,.int .i64 v.id.port,.int .i64 v.cP.kind,.str v.cP.text,.str v.cP.host,.int .i64 v.cP.port,.bool v.store,.int .u64 v.dU,tr' b3.length,.int .u64 now,.int .u64 (jS now v.dU)]:=by
   rw[he0,htb];rfl
  simp only[ad,↓Xn,↓Xo,↓Xg,↓Xd,↓Xe,↓Xf,Tryz.VΓ,Tryz.Γs,Xp,Xi,Nat.reduceAdd,Nat.reduceSub,Nat.reduceLT,Nat.reduceLeDiff,reduceIte,reduceCtorEq,Nat.reduceEqDiff,implies_true,forall_const,aa,ak,beq_self_eq_true,bne_self_eq_false,Int.reduceBEq,Int.reduceBNe,Int.reduceLT,Int.reduceLE,l2,l3,l4,pv,hv]
  rcases hX with rfl|⟨xc,xn,xm,rfl⟩
  ·refine cn [] BV (fun j q h=>by rw[zMj]) ?_
   rw[zMj]
   simp only[ad,↓Xn,↓Xo,↓Xg,↓Xd,↓Xe,↓Xf,Tryz.VΓ,Tryz.Γs,Xp,Xi,Nat.reduceAdd,Nat.reduceSub,Nat.reduceLT,Nat.reduceLeDiff,reduceIte,reduceCtorEq,Nat.reduceEqDiff,implies_true,forall_const,aa,ak,beq_self_eq_true,bne_self_eq_false,Int.reduceBEq,Int.reduceBNe,Int.reduceLT,Int.reduceLE,l2,l3,l4,pv,hv]
   refine aV mw ?_
   simp only[ad,↓Xn,↓Xo,↓Xg,↓Xd,↓Xe,↓Xf,Tryz.VΓ,Tryz.Γs,Xp,Xi,Nat.reduceAdd,Nat.reduceSub,Nat.reduceLT,Nat.reduceLeDiff,reduceIte,reduceCtorEq,Nat.reduceEqDiff,implies_true,forall_const,aa,ak,beq_self_eq_true,bne_self_eq_false,Int.reduceBEq,Int.reduceBNe,Int.reduceLT,Int.reduceLE,l2,l3,l4,pv,hv,v8]
   refine⟨(by
    refine eT (fun n=>if n=b3.length then 0 else 1) ?_
    simp only[zMH,List.map_nil,fO,kK,reduceIte,hne1]
    exact av (by kernel_rfl)),?_⟩
   refine hk' _ _ ?_
   rw[hme]
   exact⟨l3,l4,l6,_,rfl,(Kp.refl _).app _,a6 rfl _ 0,by omega,fun i Y hi=>by simp at hi⟩
  ·refine cn [(b3.length,0,0)] BV (outs1 rfl _) ?_
   simp only[ad,↓Xn,↓Xo,↓Xg,↓Xd,↓Xe,↓Xf,Tryz.VΓ,Tryz.Γs,Xp,Xi,Nat.reduceAdd,Nat.reduceSub,Nat.reduceLT,Nat.reduceLeDiff,reduceIte,reduceCtorEq,Nat.reduceEqDiff,implies_true,forall_const,aa,ak,beq_self_eq_true,bne_self_eq_false,Int.reduceBEq,Int.reduceBNe,Int.reduceLT,Int.reduceLE,l2,l3,l4,pv,af pv,hv]
   refine aV mw ?_
   simp only[ad,↓Xn,↓Xo,↓Xg,↓Xd,↓Xe,↓Xf,Tryz.VΓ,Tryz.Γs,Xp,Xi,Nat.reduceAdd,Nat.reduceSub,Nat.reduceLT,Nat.reduceLeDiff,reduceIte,reduceCtorEq,Nat.reduceEqDiff,implies_true,forall_const,aa,ak,beq_self_eq_true,bne_self_eq_false,Int.reduceBEq,Int.reduceBNe,Int.reduceLT,Int.reduceLE,l2,l3,l4,pv,af pv,hv,v8]
   have hne2:¬ b3.length=b.length+1:=by omega
   have hne3:¬ b3.length+1=b.length+1:=by omega
   have hne4:¬ b3.length+1=b3.length:=by omega
   have hne5:¬ b3.length=b.length:=by omega
   refine⟨by
    refine eT (fun n=>if n=b.length+1 then 0 else if n=b3.length then 1 else 2) ?_
    simp only[zMH,List.map_nil,fO,kK,reduceIte,hne1,hne2,hne3,hne4,hne5,Nat.add_right_cancel_iff]
    exact av (by kernel_rfl),?_⟩
   refine hk' _ _ ?_
   rw[hme]
   refine⟨l3,l4,l6,_,rfl,(Kp.refl _).app _,a6 rfl _ 1,by omega,fun i Y hi=>?_⟩
   match i,hi with
   | 0,hi =>
     simp only[List.getElem?_cons_zero,Option.some.injEq]at hi
     subst hi
     rw[htb]
     exact a6 rfl _ 0
   | i+1,hi=>simp at hi
 rintro m4 ⟨t4,b4⟩ ⟨l3,l4,l6,n7,l7,D7,pe4,hn7,hx4⟩
 simp only at l3 l4 l6 l7 D7 pe4 hx4
 have pc4:=D7.at pc
 have pv4:=D7.at pv
 have po4:=D7.at po
 have hkp4:=hP.kp.trans D7
 have sC:e0.key=v.id.text:=by rw[he0];rfl
 have h1e0:one e0.v.tr=true:=by rw[he0];exact htr _
 clear hcop htr
 have hEn:∀ e∈L,one e.v.tr=true:=fun e he=>by rw[hT e he];rfl
 have hE4:gC b4 x1 L true:=hE.kp D7
 refine aK 2500 (fun σ=>lk 3 σ.t=some (.p b.length 0)∧lk 4 σ.t=some (.p (b.length+1) 0)∧lk 6 σ.t=some (.p (b.length+2) 0)∧lk 7 σ.t=some (.p n7 0)∧lk 8 σ.t=some (.int .i64 (ia En.key L v.id.text))∧lk 9 σ.t=some (.bool (dm En.key L v.id.text))∧σ.b=b4) ?_ (fun k' hk'=>?_)
 rotate_left
 ·simp only[ad,↓Xn,↓Xo,↓Xg,↓Xd,↓Xe,↓Xf,Tryz.VΓ,Tryz.Γs,Xp,Xi,Nat.reduceAdd,Nat.reduceSub,Nat.reduceLT,Nat.reduceLeDiff,reduceIte,reduceCtorEq,Nat.reduceEqDiff,implies_true,forall_const,aa,ak,beq_self_eq_true,bne_self_eq_false,Int.reduceBEq,Int.reduceBNe,Int.reduceLT,Int.reduceLE,l3,l4,l7,pc4,pv4,ho]
  refine gY (xO hE4 ha hl (fun e he=>by rw[hT e he];exact⟨rfl,rfl⟩)) ?_
  rintro y b5 ⟨rfl,rfl⟩
  simp only[ad,↓Xn,↓Xo,↓Xg,↓Xd,↓Xe,↓Xf,Tryz.VΓ,Tryz.Γs,Xp,Xi,Nat.reduceAdd,Nat.reduceSub,Nat.reduceLT,Nat.reduceLeDiff,reduceIte,reduceCtorEq,Nat.reduceEqDiff,implies_true,forall_const,aa,ak,beq_self_eq_true,bne_self_eq_false,Int.reduceBEq,Int.reduceBNe,Int.reduceLT,Int.reduceLE,l3,l4,l7]
  refine hk' _ _ ?_
  exact⟨l3,l4,l6,l7,rfl,rfl,rfl⟩
 rintro m5 ⟨t5,b5⟩ ⟨l3,l4,l6,l7,l8,l9,hb5⟩
 simp only at l3 l4 l6 l7 l8 l9 hb5
 rw[hb5]
 clear hb5
 have hkx:En.key e0=v.id.text:=sC
 have mh:(enc e0).length=14:=rfl
 have hen1:(enc e0).all one=true:=by
  simp[enc,one]at h1e0 ⊢;exact h1e0
 have fG:(enc e0).take 14=enc e0:=zMi (by rw[mh];omega)
 refine aK 2400 (fun σ=>lk 3 σ.t=some (.p b.length 0)∧lk 4 σ.t=some (.p (b.length+1) 0)∧lk 6 σ.t=some (.p (b.length+2) 0)∧lk 7 σ.t=some (.p n7 0)∧lk 8 σ.t=some (.int .i64 (ia En.key L v.id.text))∧dm En.key L v.id.text=false∧σ.b=b4) ?_ (fun k' hk'=>?_)
 rotate_left
 ·cases hh:dm En.key L v.id.text
  ·rw[hh]at l9
   simp only[ad,↓Xn,↓Xo,↓Xg,↓Xd,↓Xe,↓Xf,Tryz.VΓ,Tryz.Γs,Xp,Xi,Nat.reduceAdd,Nat.reduceSub,Nat.reduceLT,Nat.reduceLeDiff,reduceIte,reduceCtorEq,Nat.reduceEqDiff,implies_true,forall_const,aa,ak,beq_self_eq_true,bne_self_eq_false,Int.reduceBEq,Int.reduceBNe,Int.reduceLT,Int.reduceLE,l9]
   refine hk' _ _ ?_
   exact⟨l3,l4,l6,l7,l8,hh,rfl⟩
  ·rw[hh]at l9
   obtain⟨hk,iv⟩:=(qn ha).1 hh
   obtain⟨q,rfl,hq⟩:∃ q,x1=.o q L.length∧b3[q]? = some (.own (L.flatMap enc) 43 14 L.length true):=by
    rcases hE with⟨rfl,rfl⟩|h
    ·simp at hk
    ·exact h
   have HX:=aQ L
   have iu:=enc_set L _ e0 hk
   have hq4:=D7.at hq
   have o5:=(zL2.1 hq).1
   have hql2:=(zL2.1 hq4).1
   have n0:q≠b.length:=by rintro rfl;rw[pc]at hq;cases hq
   have n2:q≠b.length+2:=by rintro rfl;rw[po]at hq;cases hq
   have eV:∀ Y,(b4.set q Y)[b.length]? = _:=fun Y=>aF pc4 n0 Y
   have fK:∀ Y,(b4.set q Y)[b.length+2]? = _:=fun Y=>aF po4 n2 Y
   have hs3:∀ Y Z,((b4.set q Y).set (b.length+2) Z)[b.length+2]? = some Z:=fun Y Z=>zL5 (by rw[zL7];have:=D7.1;omega)
   have e1:eX En.key En.aP cp L e0=L.set (ia En.key L v.id.text) e0:=by
    unfold eX;rw[if_pos (.inl (by rw[hkx];exact hh)),← put_set ha (by rw[hkx];exact hh),hkx]
   simp only[ad,↓Xn,↓Xo,↓Xg,↓Xd,↓Xe,↓Xf,Tryz.VΓ,Tryz.Γs,Xp,Xi,Nat.reduceAdd,Nat.reduceSub,Nat.reduceLT,Nat.reduceLeDiff,reduceIte,reduceCtorEq,Nat.reduceEqDiff,implies_true,forall_const,aa,ak,beq_self_eq_true,bne_self_eq_false,Int.reduceBEq,Int.reduceBNe,Int.reduceLT,Int.reduceLE,l3,l6,l7,l8,l9,pc4,hq4,eV,fK,hs3,iu,fG,mh,pe4]
   refine⟨⟨by omega,by omega⟩,⟨hen1,by rw[HX];omega⟩,(hkp4.set (A0 q _ rfl) _).set (by omega) _,_,tb,rfl,?_,((hx4.set (by omega) _).set (by omega) _)⟩
   rw[hpm0,Fi,e1]
   refine .inr ⟨q,by rw[zL7],aF ?_ (Ne.symm n2) _⟩
   rw[zL7]
   exact zL5 hql2
 rintro m6 ⟨t6,b6⟩ ⟨l3,l4,l6,l7,l8,hh,hb6⟩
 simp only at l3 l4 l6 l7 l8 hb6
 rw[hb6]
 clear hb6
 have hp1:eX En.key En.aP cp L e0=if (L.length:Int)<cp then jn En.key L e0 else jn En.key (L.eraseIdx (dE (oq L) L.length)) e0:=by
  unfold eX oq
  by_cases c:(L.length:Int)<cp
  ·rw[if_pos (.inr c),if_pos c]
  ·rw[if_neg (by rw[hkx,hh];simp[c]),if_neg c]
 rw[hp1]at Fi
 clear hp1
 have HB:b.length+2<tb:=by omega
 refine aK 2300 (fun σ=>lk 3 σ.t=some (.p b.length 0)∧lk 6 σ.t=some (.p (b.length+2) 0)∧lk 7 σ.t=some (.p n7 0)∧∃ L' x2,lk 8 σ.t=some (.int .i64 (ia En.key L' v.id.text))∧dm En.key L' v.id.text=false∧kq En.key L'∧L'.length≤1000000∧LP=jn En.key L' e0∧(∀ e∈L',e.v.tr=.aD)∧Kp b σ.b∧σ.b[b.length]? = some (.cells [.int .i64 cp,x2] 24 true)∧σ.b[b.length+2]? = some (.cells [.int .i64 0,.aD] 24 true)∧σ.b[n7]? = some (.cells (enc e0) 43 true)∧BX σ.b tb X∧gC σ.b x2 L' true∧∀ q n,x2=.o q n→b.length≤q) ?_ (fun k' hk'=>?_)
 rotate_left
 ·have fb:∀ e,nm (.slice e) x1=some (.int .i64 L.length):=fun e=>by
   rcases hE with⟨rfl,rfl⟩|⟨q,rfl,-⟩ <;> rfl
  cases hc:decide (cp≤(L.length:Int))
  ·simp only[ad,↓Xn,↓Xo,↓Xg,↓Xd,↓Xe,↓Xf,Tryz.VΓ,Tryz.Γs,Xp,Xi,Nat.reduceAdd,Nat.reduceSub,Nat.reduceLT,Nat.reduceLeDiff,reduceIte,reduceCtorEq,Nat.reduceEqDiff,implies_true,forall_const,aa,ak,beq_self_eq_true,bne_self_eq_false,Int.reduceBEq,Int.reduceBNe,Int.reduceLT,Int.reduceLE,l3,l4,l6,l7,l8,pc4,fb,hc,ho]
   refine hk' _ _ ?_
   have hc':(L.length:Int)<cp:=by simp at hc;omega
   rw[if_pos hc']at Fi
   exact⟨l3,l6,l7,L,x1,l8,hh,ha,hl,Fi,hT,hkp4,pc4,po4,pe4,hx4,hE4,A0⟩
  ·simp only[ad,↓Xn,↓Xo,↓Xg,↓Xd,↓Xe,↓Xf,Tryz.VΓ,Tryz.Γs,Xp,Xi,Nat.reduceAdd,Nat.reduceSub,Nat.reduceLT,Nat.reduceLeDiff,reduceIte,reduceCtorEq,Nat.reduceEqDiff,implies_true,forall_const,aa,ak,beq_self_eq_true,bne_self_eq_false,Int.reduceBEq,Int.reduceBNe,Int.reduceLT,Int.reduceLE,l3,l4,l6,l7,l8,pc4,fb,hc,ho]
   have hc':¬ (L.length:Int)<cp:=by simp at hc;omega
   rw[if_neg hc']at Fi
   have hL0:0<L.length:=by omega
   obtain⟨q,rfl,hq⟩:∃ q,x1=.o q L.length∧b3[q]? = some (.own (L.flatMap enc) 43 14 L.length true):=by
    rcases hE with⟨rfl,rfl⟩|h
    ·simp at hL0
    ·exact h
   refine gY (fm rfl (Gw (D7.at hq) hL0 hl)) ?_
   rintro y b6 ⟨rfl,hb6⟩
   have oG:Kp b4 b6:=by rw[hb6];exact Kp.refl _
   clear hb6
   have hk:=(gn (oq L) L.length hL0).1
   generalize dE (oq L) L.length=k at hk Fi ⊢
   have hq6:=oG.at (D7.at hq)
   have pc6:=oG.at pc4
   have po6:=oG.at po4
   have pe6:=oG.at pe4
   have hx6:=hx4.kp oG
   have pv6:=oG.at pv4
   have hkp6:Kp b b6:=hkp4.trans oG
   clear oG
   have hql6:=(zL2.1 hq6).1
   have n0:q≠b.length:=by rintro rfl;rw[pc]at hq;cases hq
   have n1:q≠b.length+1:=by rintro rfl;rw[pv]at hq;cases hq
   have n2:q≠b.length+2:=by rintro rfl;rw[po]at hq;cases hq
   have n3:q≠n7:=by have:=(zL2.1 hq).1;omega
   have hqb1:=A0 q _ rfl
   have o5:=(zL2.1 hq).1
   have h1L:(L.flatMap enc).all one=true:=Ei hT
   simp only[ad,↓Xn,↓Xo,↓Xg,↓Xd,↓Xe,↓Xf,Tryz.VΓ,Tryz.Γs,Xp,Xi,Nat.reduceAdd,Nat.reduceSub,Nat.reduceLT,Nat.reduceLeDiff,reduceIte,reduceCtorEq,Nat.reduceEqDiff,implies_true,forall_const,aa,ak,beq_self_eq_true,bne_self_eq_false,Int.reduceBEq,Int.reduceBNe,Int.reduceLT,Int.reduceLE,l3,l4,l6,l7,l8,pc6]
   refine⟨by omega,gY (sc_DelN hq6 hk h1L) ?_⟩
   rintro y b7 ⟨rfl,rfl⟩
   have hel':(L.eraseIdx k).length=L.length - 1:=List.length_eraseIdx_of_lt hk
   rw[FK L k hk]
   have eV:∀ Y,(b6.set q Y)[b.length]? = _:=fun Y=>aF pc6 n0 Y
   have hb60:b.length<b6.length:=(zL2.1 pc6).1
   have hs0l:∀ Y (l:List ay) Z,(b6.set q Y++l).set b.length Z=(b6.set q Y).set b.length Z++l:=fun Y l Z=>bS (by rw[zL7];omega) l Z
   have hs00:∀ Y Z,((b6.set q Y).set b.length Z)[b.length]? = some Z:=fun Y Z=>zL5 (by rw[zL7];omega)
   have CO:∀ Y Z,((b6.set q Y).set b.length Z)[b.length+1]? = _:=fun Y Z=>aF (aF pv6 n1 Y) (by omega) Z
   simp only[ad,↓Xn,↓Xo,↓Xg,↓Xd,↓Xe,↓Xf,Tryz.VΓ,Tryz.Γs,Xp,Xi,Nat.reduceAdd,Nat.reduceSub,Nat.reduceLT,Nat.reduceLeDiff,reduceIte,reduceCtorEq,Nat.reduceEqDiff,implies_true,forall_const,aa,ak,beq_self_eq_true,bne_self_eq_false,Int.reduceBEq,Int.reduceBNe,Int.reduceLT,Int.reduceLE,l3,l4,l6,l7,l8,af (eV _),hs0l,af (hs00 _ _),af (CO _ _)]
   have hE8:gC ((b6.set q .gone).set b.length (.cells [.int .i64 cp,.o b6.length (L.length - 1)] 24 true)++[.own ((L.eraseIdx k).flatMap enc) 43 14 (L.length - 1) true]) (.o b6.length (L.length - 1)) (L.eraseIdx k) true:=.inr ⟨b6.length,by rw[hel'],by rw[hel'];exact a6 (by simp) _ 0⟩
   refine gY (xO hE8 (oe ha k) (by omega) (fun e he=>by rw[hT e (od he)];exact⟨rfl,rfl⟩)) ?_
   rintro y b8 ⟨rfl,rfl⟩
   simp only[ad,↓Xn,↓Xo,↓Xg,↓Xd,↓Xe,↓Xf,Tryz.VΓ,Tryz.Γs,Xp,Xi,Nat.reduceAdd,Nat.reduceSub,Nat.reduceLT,Nat.reduceLeDiff,reduceIte,reduceCtorEq,Nat.reduceEqDiff,implies_true,forall_const,aa,ak,beq_self_eq_true,bne_self_eq_false,Int.reduceBEq,Int.reduceBNe,Int.reduceLT,Int.reduceLE,l3,l4,l6,l7,l8]
   refine hk' _ _ ?_
   exact⟨l3,l6,l7,L.eraseIdx k,.o b6.length (L.length - 1),rfl,C6 hh,oe ha k,by omega,Fi,fun e he=>hT e (od he),((hkp6.set hqb1 _).set (zL9 _) _).app _,af (hs00 _ _) _,af (aF (aF po6 n2 _) (by omega) _) _,af (aF (aF pe6 n3 _) (by omega) _) _,((hx6.set (by omega) _).set (by omega) _).app _,hE8,fun q' n h=>by cases h;omega⟩
 rintro m7 ⟨t7,b7⟩ ⟨l3,l6,l7,L',x2,l8,hh',ha',hl',hLP,hT',cg,qc,qo,qe,hx7,hE7,hqb7⟩
 simp only at l3 l6 l7 l8 cg qc qo qe hx7 hE7
 have ho7:=hE7.one
 simp only[ad,↓Xn,↓Xo,↓Xg,↓Xd,↓Xe,↓Xf,Tryz.VΓ,Tryz.Γs,Xp,Xi,Nat.reduceAdd,Nat.reduceSub,Nat.reduceLT,Nat.reduceLeDiff,reduceIte,reduceCtorEq,Nat.reduceEqDiff,implies_true,forall_const,aa,ak,beq_self_eq_true,bne_self_eq_false,Int.reduceBEq,Int.reduceBNe,Int.reduceLT,Int.reduceLE,l3,l6,l7,l8,qc,qe,ho7,mh,fG,hen1]
 refine⟨by decide,?_⟩
 rcases hE7 with⟨rfl,rfl⟩|⟨q,rfl,hq⟩
 ·have fL:ia En.key [] v.id.text=0:=rfl
  rw[fL]
  refine gY (ET (a6 rfl _ 0) hen1) ?_
  rintro y b8 ⟨rfl,rfl⟩
  have hb7:b.length+2<b7.length:=(zL2.1 qo).1
  have eV:∀ (l:List ay) Z,(b7++l).set b.length Z=b7.set b.length Z++l:=fun l Z=>bS (by omega) l Z
  have CO:∀ Z,(b7.set b.length Z)[b.length]? = some Z:=fun Z=>zL5 (by omega)
  have fK:∀ Z,(b7.set b.length Z)[b.length+2]? = _:=fun Z=>aF qo (by omega) Z
  have hs3:∀ Y (l:List ay) Z,(b7.set b.length Y++l).set (b.length+2) Z=(b7.set b.length Y).set (b.length+2) Z++l:=fun Y l Z=>bS (by rw[zL7];omega) l Z
  have hs4:∀ Y Z,((b7.set b.length Y).set (b.length+2) Z)[b.length+2]? = some Z:=fun Y Z=>zL5 (by rw[zL7];omega)
  simp only[ad,↓Xn,↓Xo,↓Xg,↓Xd,↓Xe,↓Xf,Tryz.VΓ,Tryz.Γs,Xp,Xi,Nat.reduceAdd,Nat.reduceSub,Nat.reduceLT,Nat.reduceLeDiff,reduceIte,reduceCtorEq,Nat.reduceEqDiff,implies_true,forall_const,aa,ak,beq_self_eq_true,bne_self_eq_false,Int.reduceBEq,Int.reduceBNe,Int.reduceLT,Int.reduceLE,l3,l6,l7,l8,af qc,eV,af (CO _),af (fK _),hs3,af (hs4 _ _)]
  have e1:LP=[e0]:=hLP
  refine⟨((cg.set (zL9 _) _).set (by omega) _).app _,_,tb,rfl,?_,((hx7.set (by omega) _).set (by omega) _).app _⟩
  rw[hpm0,e1]
  refine .inr ⟨b7.length+1,rfl,?_⟩
  have e2:[e0].flatMap enc=enc e0:=by simp
  rw[e2]
  exact a6 (by simp) _ 1
 ·have hqb1:=hqb7 q _ rfl
  have oD:=(zL2.1 hq).1
  refine gY (sc_InsN (af hq _) (a6 rfl _ 0) (by omega) (yR _ _) hl' (Ei hT') hen1) ?_
  rintro y b8 ⟨rfl,rfl⟩
  have hb7:b.length+2<b7.length:=(zL2.1 qo).1
  have n0:q≠b.length:=by rintro rfl;rw[qc]at hq;cases hq
  have n2:q≠b.length+2:=by rintro rfl;rw[qo]at hq;cases hq
  have CW:∀ (l:List ay) Z,(b7++l).set q Z=b7.set q Z++l:=fun l Z=>bS oD l Z
  have F1:∀ Y,(b7.set q Y)[b.length]? = _:=fun Y=>aF qc n0 Y
  have eV:∀ Y (l:List ay) Z,(b7.set q Y++l).set b.length Z=(b7.set q Y).set b.length Z++l:=fun Y l Z=>bS (by rw[zL7];omega) l Z
  have CO:∀ Y Z,((b7.set q Y).set b.length Z)[b.length]? = some Z:=fun Y Z=>zL5 (by rw[zL7];omega)
  have fK:∀ Y Z,((b7.set q Y).set b.length Z)[b.length+2]? = _:=fun Y Z=>aF (aF qo n2 Y) (by omega) Z
  have hs3:∀ X Y (l:List ay) Z,((b7.set q X).set b.length Y++l).set (b.length+2) Z=((b7.set q X).set b.length Y).set (b.length+2) Z++l:=fun X Y l Z=>bS (by rw[zL7,zL7];omega) l Z
  have hs4:∀ X Y Z,(((b7.set q X).set b.length Y).set (b.length+2) Z)[b.length+2]? = some Z:=fun X Y Z=>zL5 (by rw[zL7,zL7];omega)
  have hins:=enc_ins L' (ia En.key L' v.id.text) e0
  simp only[ad,↓Xn,↓Xo,↓Xg,↓Xd,↓Xe,↓Xf,Tryz.VΓ,Tryz.Γs,Xp,Xi,Nat.reduceAdd,Nat.reduceSub,Nat.reduceLT,Nat.reduceLeDiff,reduceIte,reduceCtorEq,Nat.reduceEqDiff,implies_true,forall_const,aa,ak,beq_self_eq_true,bne_self_eq_false,Int.reduceBEq,Int.reduceBNe,Int.reduceLT,Int.reduceLE,l3,l6,l7,l8,CW,af (F1 _),eV,af (CO _ _),af (fK _ _),hs3,af (hs4 _ _ _)]
  have e1:LP=L'.take (ia En.key L' v.id.text)++[e0]++L'.drop (ia En.key L' v.id.text):=by
   rw[hLP,← put_ins ha' (by rw[hkx];exact hh'),hkx]
  have e2:LP.length=L'.length+1:=by
   have:=yR (key:=En.key) L' v.id.text
   rw[e1];simp;omega
  refine⟨(((cg.set hqb1 _).set (zL9 _) _).set (by omega) _).app _,_,tb,rfl,?_,(((hx7.setE hX hq _).set (by omega) _).set (by omega) _).app _⟩
  rw[hpm0]
  refine .inr ⟨b7.length+1,by rw[e2],?_⟩
  rw[e2,e1,← hins,zMw]
  exact a6 (by simp) _ 1
theorem xI {x:SV}{v:Vd}{vb:Bool}(h:gC b x L m)(uF:m=true∨L.length≠0∨x=.aD)(hl:L.length≤1000000)(hT:∀ e∈L,e.v.tr=.aD)(ha:kq En.key L)(hv:v.tr=.aD)(BV:cp≤1024)
 (hid:PC Tryz.V 28 [.agg [.int .i64 v.id.kind,.str v.id.text,.str v.id.host,.int .i64 v.id.port]] (.bool vb)) :
 SU Tryz.V 17 [.agg [.int .i64 cp,x],.agg (eJ v),.int .u64 now] b (fun r b'=>Kp b b'∧∃ x',r=.agg [.int .i64 cp,x']∧gC b' x' (oT cp L v now vb) true):=by
 have e:{ v with tr:=SV.aD }=v:=by cases v;simp at hv;simp[hv]
 refine(su_PutG (X:=[]) (fun _=>.aD) h uF hl hT ha (by rw[hv];rfl) (by rw[hv];rfl) BV (.inl rfl) (fun _=>rfl) (fun b2 _=>?_) hid).mono ?_
 ·rw[e,zMj]
  exact(tP hv).scs
 ·rintro r b' ⟨hk,x',tb,rfl,hE,-⟩
  rw[e]at hE
  exact⟨hk,x',rfl,hE⟩
theorem Gy {x:SV}{v:Vd}{vb:Bool}(h:gC b x L m)(uF:m=true∨L.length≠0∨x=.aD)(hl:L.length≤1000000)(hT:∀ e∈L,e.v.tr=.aD)(ha:kq En.key L)(hv:v.tr=.aD)(BV:cp≤1024)
 (hid:PC Tryz.V 28 [.agg [.int .i64 v.id.kind,.str v.id.text,.str v.id.host,.int .i64 v.id.port]] (.bool vb)) :
 SC Tryz.V 17 [.agg [.int .i64 cp,x],.agg (eJ v),.int .u64 now] b (fun r b'=>Kp b b'∧∃ x',r=.agg [.int .i64 cp,x']∧gC b' x' (oT cp L v now vb) true):=(xI h uF hl hT ha hv BV hid).sc
end
open Go Vc Go.RowKit Wf
def lv (n:Nat):Bytes:=([97,99,99,116,58,117]:List UInt8)++([UInt8.ofNat (97+n % 20)]++([64,97,46,101,120,97,109,112,108,101]:List UInt8))
def FW (n:Nat):jg:=⟨1,lv n,([97,46,101,120,97,109,112,108,101]:List UInt8),0⟩
def vV (n:Nat)(s:Int):Vd:=⟨0,FW n,jg.none,true,s,.aD⟩
theorem pB (n:Nat):lv (n % 20)=lv n:=by simp[lv]
theorem xE (n:Nat):FW (n % 20)=FW n:=by simp[FW,pB]
theorem wx (n:Nat):bF (lv n)=(FW n,0):=by
 have h:∀ m<20,bF (lv m)=(FW m,0):=by decide +kernel
 have:=h (n % 20) (Nat.mod_lt _ (by decide))
 rwa [pB,xE]at this
theorem wv (n:Nat):db (FW n)=true:=by
 unfold db
 rw[decide_eq_true_eq]
 exact wx n
theorem zi {n m:Nat}(h:lv n=lv m):n % 20=m % 20:=by
 have h2:∀ a<20,∀ c<20,lv a=lv c→a=c:=by decide +kernel
 exact h2 _ (Nat.mod_lt _ (by decide)) _ (Nat.mod_lt _ (by decide)) (by rw[pB,pB];exact h)
theorem fv (n:Nat)(s:Int)(hn:n<1000):PC Tryz.V 16 [.int .i64 n,.int .u64 s] (.agg (eJ (vV n s))):=by
 have hp:=rU (lv n)
 rw[wx n]at hp
 unfold iI FW lv at hp
 unfold eJ vV FW lv jg.none
 have hr:qv .rem .i64 (n:Int) 20=((n % 20:Nat):Int):=by
  have:qv .rem .i64 (n:Int) 20=(n:Int) % 20:=Int.tmod_eq_emod_of_nonneg (a:=(n:Int)) (b:=20) (by omega)
  rw[this];omega
 have aA:n % 20<20:=Nat.mod_lt _ (by decide)
 have hw:IntKind.u8.wrap (97+((n % 20:Nat):Int))=((97+n % 20:Nat):Int):=by
  simp[IntKind.wrap,IntKind.bits,IntKind.signed];omega
 have hu:vD (.int .u8 ((97+n % 20:Nat):Int))=UInt8.ofNat (97+n % 20):=by
  show UInt8.ofNat (((97+n % 20:Nat):Int)).toNat=_
  rw[Int.toNat_natCast]
 refine aU 3000 Tryz.func16 rfl Tryz.ntmps16 Tryz.results16 Tryz.call16 (by simp) (by simp[flat,flat.ai]) (by simp[flat,flat.ai]) ?_
 simp only[ad,↓Xn,↓Xo,↓Xg,↓Xd,↓Xe,↓Xf,Tryz.VΓ,Tryz.Γs,Xp,Xi,Nat.reduceAdd,Nat.reduceSub,Nat.reduceLT,Nat.reduceLeDiff,reduceIte,reduceCtorEq,Nat.reduceEqDiff,implies_true,forall_const,aa,ui,beq_self_eq_true,bne_self_eq_false,Int.reduceBEq,Int.reduceBNe,Int.reduceLT,Int.reduceLE,hr,hw,hu]
 refine⟨by decide,⟨by omega,by omega⟩,by decide,by simp[CF];omega,?_⟩
 (refine ae (hp) ?_;simp only[ad,↓Xn,↓Xo,↓Xg,↓Xd,↓Xe,↓Xf,Tryz.VΓ,Tryz.Γs,Xp,Xi,Nat.reduceAdd,Nat.reduceSub,Nat.reduceLT,Nat.reduceLeDiff,reduceIte,reduceCtorEq,Nat.reduceEqDiff,implies_true,forall_const,aa,beq_self_eq_true,bne_self_eq_false,Int.reduceBEq,Int.reduceBNe,Int.reduceLT,Int.reduceLE])
theorem EZ (n:Int):PC Tryz.V 11 [.int .i64 n] (if n<0∨1024<n then .eN [.agg [.int .i64 0,.aD],.int .i64 4] else .eN [.agg [.int .i64 n,.aD],.int .i64 0]):=by
 split
 ·rename_i h
  refine aU 3000 Tryz.func11 rfl Tryz.ntmps11 Tryz.results11 Tryz.call11 (by simp) (by simp[flat,flat.ai]) (by simp[flat,flat.ai]) ?_
  by_cases h1:n<0
  ·have hd:decide (n<0)=true:=by simpa using h1
   simp only[ad,↓Xn,↓Xo,↓Xg,↓Xd,↓Xe,↓Xf,Tryz.VΓ,Tryz.Γs,Xp,Xi,Nat.reduceAdd,Nat.reduceSub,Nat.reduceLT,Nat.reduceLeDiff,reduceIte,reduceCtorEq,Nat.reduceEqDiff,implies_true,forall_const,aa,beq_self_eq_true,bne_self_eq_false,Int.reduceBEq,Int.reduceBNe,Int.reduceLT,Int.reduceLE,hd]
  ·have hd:decide (n<0)=false:=by simpa using h1
   have nC:decide (1024<n)=true:=by simp;omega
   simp only[ad,↓Xn,↓Xo,↓Xg,↓Xd,↓Xe,↓Xf,Tryz.VΓ,Tryz.Γs,Xp,Xi,Nat.reduceAdd,Nat.reduceSub,Nat.reduceLT,Nat.reduceLeDiff,reduceIte,reduceCtorEq,Nat.reduceEqDiff,implies_true,forall_const,aa,beq_self_eq_true,bne_self_eq_false,Int.reduceBEq,Int.reduceBNe,Int.reduceLT,Int.reduceLE,hd,nC]
 ·rename_i h
  refine aU 3000 Tryz.func11 rfl Tryz.ntmps11 Tryz.results11 Tryz.call11 (by simp) (by simp[flat,flat.ai]) (by simp[flat,flat.ai]) ?_
  have hd:decide (n<0)=false:=by simp;omega
  have nC:decide (1024<n)=false:=by simp;omega
  simp only[ad,↓Xn,↓Xo,↓Xg,↓Xd,↓Xe,↓Xf,Tryz.VΓ,Tryz.Γs,Xp,Xi,Nat.reduceAdd,Nat.reduceSub,Nat.reduceLT,Nat.reduceLeDiff,reduceIte,reduceCtorEq,Nat.reduceEqDiff,implies_true,forall_const,aa,beq_self_eq_true,bne_self_eq_false,Int.reduceBEq,Int.reduceBNe,Int.reduceLT,Int.reduceLE,hd,nC]
section
variable {b:List ay} {q:Nat} {L:List En} {m:Bool} {t:Bytes} {cp now:Int}
theorem ry {L:List En}{k:Nat}(hk:k<L.length)(h:decide (now<L[k].aP)=true):eL (L.take (k+1)) now=eL (L.take k) now++[L[k]]:=by
 unfold eL;rw[zMa hk,zMv]
 have:decide (L[k].aP≤now)=false:=by simp at h ⊢;omega
 simp[this]
theorem FI {L:List En}{k:Nat}(hk:k<L.length)(h:decide (now<L[k].aP)=false):eL (L.take (k+1)) now=eL (L.take k) now:=by
 unfold eL;rw[zMa hk,zMv]
 have:decide (L[k].aP≤now)=true:=by simp at h ⊢;omega
 simp[this]
theorem vE {x:SV}(h:gC b x L m)(hl:L.length≤1000000)(v8:∀ e∈L,one e.v.tr=true) :
 SU Tryz.V 24 [.agg [.int .i64 cp,x],.int .u64 now] b (fun r b'=>Kp b b'∧∃ x',r=.agg [.int .i64 cp,x']∧gC b' x' (eL L now) true∧∀ q n,x'=.o q n→b.length≤q):=by
 have hw:=h.within
 have ho:=h.one
 have fb:∀ e,nm (.slice e) x=some (.int .i64 L.length):=fun e=>by
  rcases h with⟨rfl,rfl⟩|⟨q,rfl,-⟩ <;> rfl
 refine Gn 3000 Tryz.func24 rfl Tryz.ntmps24 Tryz.results24 Tryz.call24 (by simp) (aw b.length _ (by simp[within,within.aN,hw])) ?_
 simp only[ad,↓Xn,↓Xo,↓Xg,↓Xd,↓Xe,↓Xf,Tryz.VΓ,Tryz.Γs,Xp,Xi,Nat.reduceAdd,Nat.reduceSub,Nat.reduceLT,Nat.reduceLeDiff,reduceIte,reduceCtorEq,Nat.reduceEqDiff,implies_true,forall_const,aa,ak,beq_self_eq_true,bne_self_eq_false,Int.reduceBEq,Int.reduceBNe,Int.reduceLT,Int.reduceLE,ho,fb]
 refine aJ (fun σ=>∃ (k:Nat) (x1:SV),lk 1 σ.t=some (.int .u64 now)∧lk 4 σ.t=some (.p (b.length+1) 0)∧lk 5 σ.t=some (.p (b.length+2) 0)∧lk 12 σ.t=some x∧lk 13 σ.t=some (.int .i64 L.length)∧lk 14 σ.t=some (.int .i64 k)∧k≤L.length∧Kp b σ.b∧σ.b[b.length+1]? = some (.cells [.int .i64 0,.aD] 24 true)∧σ.b[b.length+2]? = some (.cells [.int .i64 cp,x1] 24 true)∧gC σ.b x1 (eL (L.take k) now) true∧∀ q n,x1=.o q n→b.length≤q) (fun σ=>L.length - iH 14 σ) ?_ ?_
 ·exact⟨0,.aD,rfl,rfl,rfl,rfl,rfl,rfl,by omega,(Kp.refl _).app _,a6 rfl _ 1,a6 rfl _ 2,.inl ⟨rfl,rfl⟩,fun q n h=>by cases h⟩
 ·rintro⟨t',b1⟩ ⟨k,x1,l1,l4,l5,l12,l13,l14,hk,cg,q1,q2,hE,A0⟩
  simp only at l1 l4 l5 l12 l13 l14 cg q1 q2 hE
  rw[ax l14]
  have ho1:=hE.one
  by_cases c:k<L.length
  ·have ci:decide ((k:Int)<(L.length:Int))=true:=by simpa using c
   obtain⟨q,rfl,hq⟩:∃ q,x=.o q L.length∧b[q]? = some (.own (L.flatMap enc) 43 14 L.length m):=by
    rcases h with⟨rfl,rfl⟩|h
    ·simp at c
    ·exact h
   have da:=cg.at hq
   have dS:=gd L k c
   have dX:(enc L[k]).length=14:=rfl
   have fG:(enc L[k]).take 14=enc L[k]:=zMi (by rw[dX];omega)
   have hex:(enc L[k])[13]? = some (.int .u64 L[k].aP):=rfl
   have hY:(enc L[k]).all one=true:=by
    have:=v8 _ (zMl c)
    simp[enc,one]at this ⊢;exact this
   cases hd:decide (now<L[k].aP)
   ·simp only[ad,↓Xn,↓Xo,↓Xg,↓Xd,↓Xe,↓Xf,Tryz.VΓ,Tryz.Γs,Xp,Xi,Nat.reduceAdd,Nat.reduceSub,Nat.reduceLT,Nat.reduceLeDiff,reduceIte,reduceCtorEq,Nat.reduceEqDiff,implies_true,forall_const,aa,ak,beq_self_eq_true,bne_self_eq_false,Int.reduceBEq,Int.reduceBNe,Int.reduceLT,Int.reduceLE,l1,l4,l5,l12,l13,l14,ci,da,dS,dX,fG,hex,hd,zMI,List.drop_nil,List.drop_zero,zMj]
    refine⟨⟨by omega,by omega⟩,by rw[aQ];omega,hY,by omega,⟨k+1,x1,rfl,by omega,cg.app _,af q1 _,af q2 _,by rw[FI c hd];exact hE.kp ((Kp.refl _).app _),A0⟩,?_⟩
    rw[ax (show lk 14 _=some (.int .i64 ((k+1:Nat):Int)) from rfl)];omega
   ·have mu:b.length+2<b1.length:=(zL2.1 q2).1
    have eV:∀ (l:List ay) Z,(b1++l).set (b.length+2) Z=b1.set (b.length+2) Z++l:=fun l Z=>bS mu l Z
    have mh:(eL (L.take k) now).length≤k:=by
     refine zMC (List.length_filter_le _ _) ?_
     rw[zL6];omega
    rcases hE with⟨rfl,za⟩|⟨q3,rfl,kJ⟩
    ·simp only[ad,↓Xn,↓Xo,↓Xg,↓Xd,↓Xe,↓Xf,Tryz.VΓ,Tryz.Γs,Xp,Xi,Nat.reduceAdd,Nat.reduceSub,Nat.reduceLT,Nat.reduceLeDiff,reduceIte,reduceCtorEq,Nat.reduceEqDiff,implies_true,forall_const,aa,ak,beq_self_eq_true,bne_self_eq_false,Int.reduceBEq,Int.reduceBNe,Int.reduceLT,Int.reduceLE,l1,l4,l5,l12,l13,l14,ci,da,dS,dX,fG,hex,hd,af q2,eV,zMI,List.drop_nil,List.drop_zero,zMj]
     have e1:eL (L.take (k+1)) now=[L[k]]:=by rw[ry c hd,za];rfl
     refine⟨⟨by omega,by omega⟩,by rw[aQ];omega,hY,by decide,⟨hY,by decide,by decide⟩,by omega,⟨k+1,_,rfl,by omega,(cg.set (by omega) _).app _,af (aF q1 (by omega) _) _,af (zL5 mu) _,.inr ⟨b1.length+2,by rw[e1];rfl,by rw[e1,show [L[k]].flatMap enc=enc L[k] by simp];exact a6 (by simp) _ 2⟩,fun q n h=>by cases h;omega⟩,?_⟩
     rw[ax (show lk 14 _=some (.int .i64 ((k+1:Nat):Int)) from rfl)];omega
    ·have o5:=(zL2.1 kJ).1
     have n2:q3≠b.length+2:=by rintro rfl;rw[q2]at kJ;cases kJ
     have n1:q3≠b.length+1:=by rintro rfl;rw[q1]at kJ;cases kJ
     have CW:∀ (l:List ay) Z,(b1++l).set q3 Z=b1.set q3 Z++l:=fun l Z=>bS o5 l Z
     have fK:∀ Y (l:List ay) Z,(b1.set q3 Y++l).set (b.length+2) Z=(b1.set q3 Y).set (b.length+2) Z++l:=fun Y l Z=>bS (by rw[zL7];omega) l Z
     have hg2:∀ Y,(b1.set q3 Y)[b.length+2]? = _:=fun Y=>aF q2 n2 Y
     simp only[ad,↓Xn,↓Xo,↓Xg,↓Xd,↓Xe,↓Xf,Tryz.VΓ,Tryz.Γs,Xp,Xi,Nat.reduceAdd,Nat.reduceSub,Nat.reduceLT,Nat.reduceLeDiff,reduceIte,reduceCtorEq,Nat.reduceEqDiff,implies_true,forall_const,aa,ak,beq_self_eq_true,bne_self_eq_false,Int.reduceBEq,Int.reduceBNe,Int.reduceLT,Int.reduceLE,l1,l4,l5,l12,l13,l14,ci,da,dS,dX,fG,hex,hd,af q2,af kJ,eV,CW,fK,af (hg2 _),zMI,List.drop_nil,List.drop_zero,zMj]
     have e1:(eL (L.take (k+1)) now).length=(eL (L.take k) now).length+1:=by rw[ry c hd];simp
     have e2:(eL (L.take (k+1)) now).flatMap enc=(eL (L.take k) now).flatMap enc++enc L[k]:=by rw[ry c hd];simp
     refine⟨⟨by omega,by omega⟩,by rw[aQ];omega,hY,by decide,⟨hY,by unfold maxLen;omega,by omega⟩,by omega,⟨k+1,_,rfl,by omega,((cg.set (A0 _ _ rfl) _).set (by omega) _).app _,af (aF (aF q1 n1 _) (by omega) _) _,af (zL5 (by rw[zL7];omega)) _,.inr ⟨b1.length+2,by rw[e1],by rw[e1,e2];exact a6 (by simp) _ 2⟩,fun q n h=>by cases h;omega⟩,?_⟩
     rw[ax (show lk 14 _=some (.int .i64 ((k+1:Nat):Int)) from rfl)];omega
  ·have ci:decide ((k:Int)<(L.length:Int))=false:=by simpa using c
   obtain rfl:k=L.length:=by omega
   rw[zMF]at hE
   have hs:∀ X,(b1.set (b.length+1) X)[b.length+1]? = some X:=fun X=>zL5 (zL2.1 q1).1
   simp only[ad,↓Xn,↓Xo,↓Xg,↓Xd,↓Xe,↓Xf,Tryz.VΓ,Tryz.Γs,Xp,Xi,Nat.reduceAdd,Nat.reduceSub,Nat.reduceLT,Nat.reduceLeDiff,reduceIte,reduceCtorEq,Nat.reduceEqDiff,implies_true,forall_const,aa,ak,beq_self_eq_true,bne_self_eq_false,Int.reduceBEq,Int.reduceBNe,Int.reduceLT,Int.reduceLE,l1,l4,l5,l12,l13,l14,ci,q1,q2,hs,ho1]
   exact⟨cg.set (by omega) _,_,rfl,hE.tv (by rintro q hq rfl;rw[q1]at hq;cases hq) _,A0⟩
theorem vI {x:SV}(h:gC b x L m)(hl:L.length≤1000000)(v8:∀ e∈L,one e.v.tr=true) :
 SC Tryz.V 24 [.agg [.int .i64 cp,x],.int .u64 now] b (fun r b'=>Kp b b'∧∃ x',r=.agg [.int .i64 cp,x']∧gC b' x' (eL L now) true∧∀ q n,x'=.o q n→b.length≤q):=(vE h hl v8).sc
end
open Go Vc Go.RowKit Wf
section
variable {b:List ay} {v u:Vd}
theorem qU (h1:one v.tr=true)(hw:within b.length v.tr=true):SC Tryz.V 30 [.agg (eJ v)] b (fun r b'=>r=.bool (jZ v&&db v.id)∧b'=b):=by
 refine fm rfl ?_
 have hid:=ye v.id
 unfold iI at hid
 obtain⟨vb,hvb⟩:∃ vb,vb=db v.id:=⟨_,rfl⟩
 rw[← hvb]at hid ⊢
 unfold eJ jZ
 refine cK 3000 Tryz.func30 rfl Tryz.ntmps30 Tryz.results30 Tryz.call30 (by simp) (aw b.length _ (by simp[within,within.aN,hw])) ?_
 generalize v.store=s
 cases c1:v.err==0
 ·simp only[ad,↓Xn,↓Xo,↓Xg,↓Xd,↓Xe,↓Xf,Tryz.VΓ,Tryz.Γs,Xp,Xi,Nat.reduceAdd,Nat.reduceSub,Nat.reduceLT,Nat.reduceLeDiff,reduceIte,reduceCtorEq,Nat.reduceEqDiff,implies_true,forall_const,aa,ak,beq_self_eq_true,bne_self_eq_false,Int.reduceBEq,Int.reduceBNe,Int.reduceLT,Int.reduceLE,h1,c1]
  exact(Kp.refl _).app _
 ·cases s
  ·simp only[ad,↓Xn,↓Xo,↓Xg,↓Xd,↓Xe,↓Xf,Tryz.VΓ,Tryz.Γs,Xp,Xi,Nat.reduceAdd,Nat.reduceSub,Nat.reduceLT,Nat.reduceLeDiff,reduceIte,reduceCtorEq,Nat.reduceEqDiff,implies_true,forall_const,aa,ak,beq_self_eq_true,bne_self_eq_false,Int.reduceBEq,Int.reduceBNe,Int.reduceLT,Int.reduceLE,h1,c1]
   exact(Kp.refl _).app _
  ·cases c2:decide (1≤v.dU)
   ·simp only[ad,↓Xn,↓Xo,↓Xg,↓Xd,↓Xe,↓Xf,Tryz.VΓ,Tryz.Γs,Xp,Xi,Nat.reduceAdd,Nat.reduceSub,Nat.reduceLT,Nat.reduceLeDiff,reduceIte,reduceCtorEq,Nat.reduceEqDiff,implies_true,forall_const,aa,ak,beq_self_eq_true,bne_self_eq_false,Int.reduceBEq,Int.reduceBNe,Int.reduceLT,Int.reduceLE,h1,c1,c2]
    exact(Kp.refl _).app _
   ·cases c3:decide (v.dU≤86400)
    ·simp only[ad,↓Xn,↓Xo,↓Xg,↓Xd,↓Xe,↓Xf,Tryz.VΓ,Tryz.Γs,Xp,Xi,Nat.reduceAdd,Nat.reduceSub,Nat.reduceLT,Nat.reduceLeDiff,reduceIte,reduceCtorEq,Nat.reduceEqDiff,implies_true,forall_const,aa,ak,beq_self_eq_true,bne_self_eq_false,Int.reduceBEq,Int.reduceBNe,Int.reduceLT,Int.reduceLE,h1,c1,c2,c3]
     exact(Kp.refl _).app _
    ·simp only[ad,↓Xn,↓Xo,↓Xg,↓Xd,↓Xe,↓Xf,Tryz.VΓ,Tryz.Γs,Xp,Xi,Nat.reduceAdd,Nat.reduceSub,Nat.reduceLT,Nat.reduceLeDiff,reduceIte,reduceCtorEq,Nat.reduceEqDiff,implies_true,forall_const,aa,ak,beq_self_eq_true,bne_self_eq_false,Int.reduceBEq,Int.reduceBNe,Int.reduceLT,Int.reduceLE,h1,c1,c2,c3]
     refine ae hid ?_
     simp only[ad,↓Xn,↓Xo,↓Xg,↓Xd,↓Xe,↓Xf,Tryz.VΓ,Tryz.Γs,Xp,Xi,Nat.reduceAdd,Nat.reduceSub,Nat.reduceLT,Nat.reduceLeDiff,reduceIte,reduceCtorEq,Nat.reduceEqDiff,implies_true,forall_const,aa,ak,beq_self_eq_true,bne_self_eq_false,Int.reduceBEq,Int.reduceBNe,Int.reduceLT,Int.reduceLE,h1,c1,c2,c3]
     exact(Kp.refl _).app _
theorem yk:PC Tryz.V 41 [.aD,.aD] (.bool true):=by
 refine aU 3000 Tryz.func41 rfl Tryz.ntmps41 Tryz.results41 Tryz.call41 (by simp) (by simp[flat,flat.ai]) (by simp[flat,flat.ai]) ?_
 simp only[ad,↓Xn,↓Xo,↓Xg,↓Xd,↓Xe,↓Xf,Tryz.VΓ,Tryz.Γs,Xp,Xi,Nat.reduceAdd,Nat.reduceSub,Nat.reduceLT,Nat.reduceLeDiff,reduceIte,reduceCtorEq,Nat.reduceEqDiff,implies_true,forall_const,aa,beq_self_eq_true,bne_self_eq_false,Int.reduceBEq,Int.reduceBNe,Int.reduceLT,Int.reduceLE]
 refine aJ (fun σ=>lk 12 σ.t=some (.int .i64 0)∧lk 13 σ.t=some (.int .i64 0)) (fun σ=>0) ⟨rfl,rfl⟩ ?_
 rintro⟨t,b⟩ ⟨l12,l13⟩
 simp only at l12 l13
 simp only[ad,↓Xn,↓Xo,↓Xg,↓Xd,↓Xe,↓Xf,Tryz.VΓ,Tryz.Γs,Xp,Xi,Nat.reduceAdd,Nat.reduceSub,Nat.reduceLT,Nat.reduceLeDiff,reduceIte,reduceCtorEq,Nat.reduceEqDiff,implies_true,forall_const,aa,beq_self_eq_true,bne_self_eq_false,Int.reduceBEq,Int.reduceBNe,Int.reduceLT,Int.reduceLE,l12,l13]
def DB (v u:Vd):Bool:=v.err==u.err&&(decide (v.id=u.id)&&(decide (v.cP=u.cP)&&(v.store==u.store&&v.dU==u.dU)))
theorem Cq (hv:v.tr=.aD)(hu:u.tr=.aD):PC Tryz.V 22 [.agg (eJ v),.agg (eJ u)] (.bool (DB v u)):=by
 rw[lu v hv,lu u hu]
 unfold DB
 rw[← uy,← uy]
 refine aU 3000 Tryz.func22 rfl Tryz.ntmps22 Tryz.results22 Tryz.call22 (by simp) (by simp[flat,flat.ai]) (by simp[flat,flat.ai]) ?_
 cases c1:v.err==u.err
 ·simp only[ad,↓Xn,↓Xo,↓Xg,↓Xd,↓Xe,↓Xf,Tryz.VΓ,Tryz.Γs,Xp,Xi,Nat.reduceAdd,Nat.reduceSub,Nat.reduceLT,Nat.reduceLeDiff,reduceIte,reduceCtorEq,Nat.reduceEqDiff,implies_true,forall_const,aa,ui,beq_self_eq_true,bne_self_eq_false,Int.reduceBEq,Int.reduceBNe,Int.reduceLT,Int.reduceLE,c1]
 ·cases c2:(v.id.kind==u.id.kind&&(v.id.text==u.id.text&&(v.id.host==u.id.host&&v.id.port==u.id.port)))
  ·simp only[ad,↓Xn,↓Xo,↓Xg,↓Xd,↓Xe,↓Xf,Tryz.VΓ,Tryz.Γs,Xp,Xi,Nat.reduceAdd,Nat.reduceSub,Nat.reduceLT,Nat.reduceLeDiff,reduceIte,reduceCtorEq,Nat.reduceEqDiff,implies_true,forall_const,aa,ui,beq_self_eq_true,bne_self_eq_false,Int.reduceBEq,Int.reduceBNe,Int.reduceLT,Int.reduceLE,c1,c2]
  ·cases c3:(v.cP.kind==u.cP.kind&&(v.cP.text==u.cP.text&&(v.cP.host==u.cP.host&&v.cP.port==u.cP.port)))
   ·simp only[ad,↓Xn,↓Xo,↓Xg,↓Xd,↓Xe,↓Xf,Tryz.VΓ,Tryz.Γs,Xp,Xi,Nat.reduceAdd,Nat.reduceSub,Nat.reduceLT,Nat.reduceLeDiff,reduceIte,reduceCtorEq,Nat.reduceEqDiff,implies_true,forall_const,aa,ui,beq_self_eq_true,bne_self_eq_false,Int.reduceBEq,Int.reduceBNe,Int.reduceLT,Int.reduceLE,c1,c2,c3]
   ·cases c4:(v.store==u.store&&v.dU==u.dU)
    ·simp only[ad,↓Xn,↓Xo,↓Xg,↓Xd,↓Xe,↓Xf,Tryz.VΓ,Tryz.Γs,Xp,Xi,Nat.reduceAdd,Nat.reduceSub,Nat.reduceLT,Nat.reduceLeDiff,reduceIte,reduceCtorEq,Nat.reduceEqDiff,implies_true,forall_const,aa,ui,beq_self_eq_true,bne_self_eq_false,Int.reduceBEq,Int.reduceBNe,Int.reduceLT,Int.reduceLE,c1,c2,c3,c4]
    ·simp only[ad,↓Xn,↓Xo,↓Xg,↓Xd,↓Xe,↓Xf,Tryz.VΓ,Tryz.Γs,Xp,Xi,Nat.reduceAdd,Nat.reduceSub,Nat.reduceLT,Nat.reduceLeDiff,reduceIte,reduceCtorEq,Nat.reduceEqDiff,implies_true,forall_const,aa,ui,beq_self_eq_true,bne_self_eq_false,Int.reduceBEq,Int.reduceBNe,Int.reduceLT,Int.reduceLE,c1,c2,c3,c4]
     refine ae yk ?_
     simp only[ad,↓Xn,↓Xo,↓Xg,↓Xd,↓Xe,↓Xf,Tryz.VΓ,Tryz.Γs,Xp,Xi,Nat.reduceAdd,Nat.reduceSub,Nat.reduceLT,Nat.reduceLeDiff,reduceIte,reduceCtorEq,Nat.reduceEqDiff,implies_true,forall_const,aa,ui,beq_self_eq_true,bne_self_eq_false,Int.reduceBEq,Int.reduceBNe,Int.reduceLT,Int.reduceLE,c1,c2,c3,c4]
end
open Go Vc Go.RowKit Wf
section
variable {E:Type} {key:E→Bytes} {ex:E→Int}
def dg (p:Nat→E→Bool)(L:List E):Nat→List E
 | 0=>[]
 | j+1=>dg p L j++((L[j]?).toList.filter (p j))
theorem fy {p:Nat→E→Bool}{L:List E}{j:Nat}(hj:j<L.length)(h:p j L[j]=true):dg p L (j+1)=dg p L j++[L[j]]:=by
 simp[dg,hj,h]
theorem w5 {p:Nat→E→Bool}{L:List E}{j:Nat}(hj:j<L.length)(h:p j L[j]=false):dg p L (j+1)=dg p L j:=by
 simp[dg,hj,h]
theorem yA (p:Nat→E→Bool)(L:List E):∀ j,(dg p L j).length≤j
 | 0=>by simp[dg]
 | j+1=>by
   have:=yA p L j
   simp only[dg,zL3]
   have h2:((L[j]?).toList.filter (p j)).length≤1:=zMC (List.length_filter_le _ _) (by cases L[j]? <;> simp)
   omega
theorem ns (f:E→Bool)(L:List E):∀ j,j≤L.length→dg (fun _=>f) L j=(L.take j).filter f
 | 0,_=>by simp[dg]
 | j+1,h=>by
   have hj:j<L.length:=by omega
   rw[dg,ns f L j (by omega),zMa hj,zMv]
   simp[hj]
theorem um (L:List E)(q:Nat):∀ j,j≤L.length→dg (fun i _=>i != q) L j=(L.take j).eraseIdx q
 | 0,_=>by simp[dg]
 | j+1,h=>by
   have hj:j<L.length:=by omega
   have hl:(L.take j).length=j:=by rw[zL6];omega
   rw[dg,um L q j (by omega),zMa hj]
   by_cases c:j=q
   ·subst c
    rw[List.eraseIdx_append_of_length_le (by omega),hl]
    simp[hj,List.eraseIdx_of_length_le (by omega:(L.take j).length≤j)]
   ·by_cases c2:q<j
    ·rw[List.eraseIdx_append_of_lt_length (by omega)]
     simp[hj,c]
    ·rw[List.eraseIdx_append_of_length_le (by omega),hl,List.eraseIdx_of_length_le (by omega:(L.take j).length≤q)]
     obtain⟨d,hd⟩:∃ d,q - j=d+1:=⟨q - j - 1,by omega⟩
     rw[hd]
     simp[hj,c]
theorem uo {p p':Nat→E→Bool}{L:List E}(h:∀ i (hi:i<L.length),p i L[i]=p' i L[i]):∀ j,j≤L.length→dg p L j=dg p' L j
 | 0,_=>rfl
 | j+1,hj=>by
   have hl:j<L.length:=by omega
   rw[dg,dg,uo h j (by omega)]
   have e:(L[j]?).toList=[L[j]]:=by simp[hl]
   rw[e,List.filter_cons,List.filter_cons,h j hl]
   rfl
def dK (X:List Int)(k:Nat):Int:=if k=0 then -1 else dE X k
theorem r7 {L:List E}{x:E}:jn key (L.filter fun y=>key y != key x) x=jn key L x:=by
 unfold jn
 rw[List.filter_filter,List.filter_filter]
 congr 2
 ·congr 2
  funext y
  cases h:blt (key y) (key x)
  ·simp
  ·simp[kI h]
 ·funext y
  cases h:blt (key x) (key y)
  ·simp
  ·simp[Ne.symm (kI h)]
def fP (key:E→Bytes)(t:Bytes)(a:Bool)(q:Int)(i:Nat)(y:E):Bool:=key y != t&&(a||(i:Int) != q)
theorem Fe {L:List E}{x:E}{cap:Int}(hL:0<L.length):jn key (dg (fP key (key x) (dm key L (key x)||decide ((L.length:Int)<cap)) (dK (L.map ex) L.length)) L L.length) x=eX key ex cap L x:=by
 unfold eX
 cases hh:dm key L (key x)
 ·have fA:∀ y∈L,(key y != key x)=true:=fun y hy=>by
   rw[bne_iff_ne];intro e
   rw[← Bool.not_eq_true,fR]at hh
   exact hh ⟨y,hy,e⟩
  by_cases hc:(L.length:Int)<cap
  ·rw[if_pos (.inr hc)]
   have:dg (fP key (key x) (false||decide ((L.length:Int)<cap)) (dK (L.map ex) L.length)) L L.length=L.filter fun y=>key y != key x:=by
    have h2:fP key (key x) (false||decide ((L.length:Int)<cap)) (dK (L.map ex) L.length)=fun _ y=>key y != key x:=by
     funext i y;simp[fP,hc]
    rw[h2,ns _ L _ (zL9 _),zMF]
   rw[this,r7]
  ·rw[if_neg (by simp[hc])]
   congr 1
   have hq:dK (L.map ex) L.length=((dE (L.map ex) L.length:Nat):Int):=by unfold dK;rw[if_neg (by omega)]
   rw[uo (p':=fun i _=>i != dE (L.map ex) L.length) (fun i hi=>?_) _ (zL9 _),um _ _ _ (zL9 _),zMF]
   unfold fP
   rw[fA _ (zMl hi),hq]
   have hc':decide ((L.length:Int)<cap)=false:=by simpa using hc
   rw[hc',Bool.eq_iff_iff]
   simp only[Bool.or_self,Bool.false_or,Bool.true_and,bne_iff_ne]
   omega
 ·rw[if_pos (.inl rfl)]
  have:dg (fP key (key x) (true||decide ((L.length:Int)<cap)) (dK (L.map ex) L.length)) L L.length=L.filter fun y=>key y != key x:=by
   have h2:fP key (key x) (true||decide ((L.length:Int)<cap)) (dK (L.map ex) L.length)=fun _ y=>key y != key x:=by
    funext i y;simp[fP]
   rw[h2,ns _ L _ (zL9 _),zMF]
  rw[this,r7]
end
end Go.Proofs.YteipdaijbncgeaaGreatDoor
