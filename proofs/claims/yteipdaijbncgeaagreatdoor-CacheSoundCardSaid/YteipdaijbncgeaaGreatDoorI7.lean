/- Texts of this claim, laid together: EntrC, DelE, Mid, DelF, CacheW, HeapUp, HeapF, InsE, InsV, One, PutW, Ref31, SameC, Tr31, Verd, PutP, RefPut, RefAdd, DiceN. -/
import Derived.Shelf.SlicesE.Clone
import Derived.Shelf.RegionOpenPlain
import Derived.WalkKit
import Derived.Deep.RegionLaw
import Derived.Lib.Walk
import Derived.Sort.WalkB12
import Derived.Shelf.Spec.SlicesInsert
import Derived.Lib.AppendZerosOnto
import Derived.Laws.NewBlocks
import Derived.Lib.Overlaps
import Derived.Test.YteipdaijbncgeaaGreatDoorI6
open List renaming getElem?_eq_some_iff → zMo, append_nil → zMp, drop_succ_cons → zMq, length_set → zMr, getElem?_set_self → zMt, length_append → zMu, drop_zero → zMv, getElem?_append_left → zMw, drop_nil → zMx, take_of_length_le → zMy, length_take → zMA, length_drop → zMB, take_succ_eq_append_getElem → zMC, getElem?_toArray → zMD, mem_cons_of_mem → zME, drop_of_length_le → zMF, getElem_mem → zMG, toList_toArray → zMJ, nil_append → zMK, length_filter_le → zML, mem_cons → zMM, all_eq_true → zMN, take_length → zMO, flatMap_append → zMQ, filter_append → zMR, take_append_of_le_length → zMS, append_assoc → zMT, take_append_drop → zMU
open Nat renaming le_refl → zMz, add_sub_cancel_left → zMH, le_trans → zMI, add_zero → zMV
open Array renaming length_toList → zMP, getElem?_eq_some_iff → zMW
set_option linter.all false
set_option maxHeartbeats 16000000
set_option maxRecDepth 20000
namespace Go.Proofs.YteipdaijbncgeaaGreatDoor
open Go Vc Go.RowKit Wf
theorem Fq:PC Tryz.V 55 [.aI] .aI:=by
 refine aQ 3000 Tryz.func55 rfl Tryz.ntmps55 Tryz.results55 Tryz.call55 (by simp) (by simp[flat,flat.ai]) (by simp[flat,flat.ai]) ?_
 simp only[ae,↓Xn,↓Xo,↓Xg,↓Xd,↓Xe,↓Xf,Tryz.VΓ,Tryz.Γs,Xp,Xi,Nat.reduceAdd,Nat.reduceSub,Nat.reduceLT,Nat.reduceLeDiff,reduceIte,reduceCtorEq,Nat.reduceEqDiff,implies_true,forall_const,ad]
theorem uc {v:Vd}(hv:v.tr=.aI):PC Tryz.V 34 [.agg (gi v)] (.agg (gi v)):=by
 have he:gi v=[.int .i64 v.err,.int .i64 v.id.kind,.str v.id.text,.str v.id.host,.int .i64 v.id.port,.int .i64 v.cW.kind,.str v.cW.text,.str v.cW.host,.int .i64 v.cW.port,.bool v.store,.int .u64 v.de,.aI]:=by unfold gi;rw[hv]
 rw[he]
 refine aQ 3000 Tryz.func34 rfl Tryz.ntmps34 Tryz.results34 Tryz.call34 (by simp) (by simp[flat,flat.ai]) (by simp[flat,flat.ai]) ?_
 simp only[ae,↓Xn,↓Xo,↓Xg,↓Xd,↓Xe,↓Xf,Tryz.VΓ,Tryz.Γs,Xp,Xi,Nat.reduceAdd,Nat.reduceSub,Nat.reduceLT,Nat.reduceLeDiff,reduceIte,reduceCtorEq,Nat.reduceEqDiff,implies_true,forall_const,ad]
 refine aa Fq ?_
 simp only[ae,↓Xn,↓Xo,↓Xg,↓Xd,↓Xe,↓Xf,Tryz.VΓ,Tryz.Γs,Xp,Xi,Nat.reduceAdd,Nat.reduceSub,Nat.reduceLT,Nat.reduceLeDiff,reduceIte,reduceCtorEq,Nat.reduceEqDiff,implies_true,forall_const,ad]
def renCE:Go.Shelf.Ren:=⟨fun|41=>54|n=>n,fun|4=>4|22=>22|23=>43|n=>n,fun n=>n⟩
theorem Ht:SlLaysE0.n41 Tryz.prog renCE:={
 mixed:=by kernel_rfl
 f41 := ⟨Tryz.f54.name, by kernel_rfl, Tryz.func54.trans (congrArg some (by kernel_rfl))⟩
 t4:=Tryz.underlying4
 a4:=Tryz.isAgg4
 z4:=Tryz.sizeOf4
 v4:=Tryz.zeroValue4
 t22:=Tryz.underlying22
 a22:=Tryz.isAgg22
 z22:=Tryz.sizeOf22
 v22:=Tryz.zeroValue22 }
theorem Am {b:List aw}:SC Tryz.V 54 [.aI] b (fun r b'=>r=.aI∧b'=b) :=
 GL (V:=Tryz.V) (f:=54) Tryz.call54 rfl (fun β fp w hb=>(AnyE.slices_Clone_nil Ht 0 0 w).mono fun e w' h=>⟨by rw[h.1];simp[ah],cT h.2.symm⟩)
theorem Al {b:List aw}{q n:Nat}{c:List SV}{m:Bool}(hq:b[q]? = some (.own c 43 14 n m))(BA:m=true∨n≠0)(h1:c.all one=true)(hl:n≤1000000):SC Tryz.V 54 [.o q n] b (fun r b'=>r=.o b.length n∧b'=b++[.own c 43 14 n true]):=by
 refine DZ (V:=Tryz.V) (f:=54) Tryz.call54 fun β fp w gC hE=>?_
 have hh:=(gC β (bC.refl _ _)).holds q _ hq
 have eV:=fun β' hβ=>pL (β':=β') gC hβ hq
 clear gC hE
 have co:∀ v∈c.map (ah β),v.oneCell'=true:=fun v hv=>by
  obtain⟨y,hy,rfl⟩:=List.mem_map.1 hv
  exact gm (zMN.1 h1 y hy) β
 rcases hh with⟨fG,rfl,rfl,hnf,hbk⟩|⟨fG,hnc,sY,eg,hli,hm,rD⟩
 ·have hm:m=true:=BA.resolve_right (by simp)
  have fB:=hbk hm
  have e0:(aJ β [.o q 0]).toArray=#[.slice none 0 0]:=by simp[aJ,ah,oV,fG,mA,fB]
  rw[e0]
  refine(AnyE.slices_Clone_nil Ht 0 0 w).mono ?_
  rintro e w' ⟨rfl,rfl⟩
  exact⟨⟨0,0,0⟩,fun _=>False,by simp[oV,mA],Below.refl _ _,fun β' hβ=>holds_nil,fun k hk=>hk.elim⟩
 ·obtain⟨i0,z,tx,Bo,fe,xD,oc,qn⟩:∃ (i:TypeInfo) (z:Value),Tryz.prog.info? 43=some i∧i.zero=some z∧i.size=14∧z.cells.size=14∧True∧i.bytes=160:=by
   obtain⟨i0,z,hi,hz,his,qn,Gj⟩:=Tryz.ty43.info
   exact⟨i0,z,hi,hz,his,by rw[Gj];rfl,trivial,qn⟩
  have e0:(aJ β [.o q n]).toArray=#[.slice (some ⟨(β q).cK,(β q).off,none⟩) n ((β q).cap - 1)]:=by simp[aJ,ah,oV,fG]
  rw[e0]
  have hcc:=AnyE.slices_Clone Ht i0 z 14 160 tx Bo fe qn xD (by omega) Tryz.sizeOf43 (β q).cK (β q).off n ((β q).cap - 1) (c.map (ah β)) w (by simpa using eg) (by unfold maxLen;omega) (by omega) hli co
  refine hcc.mono ?_
  rintro e w' ⟨v',rfl,⟨hln,od⟩,hnn,uV⟩
  rcases od with⟨rfl,-⟩|⟨g,cap,cur,rfl,hg,hheap,hnc2,hcm2,hcs,htake⟩
  ·exact absurd rfl hnn
  have hgl:g<w'.heap.size:=(zMW.1 hheap).1
  refine⟨⟨g,0,cap+1⟩,(·=g),by simp[oV],uV,fun β' hβ=>?_,?_⟩
  ·refine dY (rest:=cur.toList.drop (n * 14)) (fz:=(0,0)) ?_ (.inr (.inl (zMz _))) eg hnc2 hcm2 ?_
   ·rw[← eV β' hβ.dz,← htake,zMU,Array.toArray_toList];exact hheap
   ·rw[eg,zMB,zMP,hcs]
    have:n * 14≤cap * 14:=Nat.mul_le_mul_right _ hnc2
    omega
  ·rintro k rfl
   exact⟨hg,hgl⟩
theorem tE (L:List En)(k:Nat)(h:k<L.length):((L.flatMap enc).drop (k * 14)).take 12=gi L[k].v:=by
 have h1:=ir L k h
 have h2:(((L.flatMap enc).drop (k * 14)).take 14).take 12=gi L[k].v:=by rw[h1];rfl
 rw[List.take_take]at h2
 exact h2
theorem vdc_put (L:List En)(k:Nat)(h:k<L.length):(L.flatMap enc).take (k * 14)++(gi L[k].v++(L.flatMap enc).drop (k * 14+12))=L.flatMap enc:=by
 rw[← tE L k h,← List.drop_drop,zMU,zMU]
theorem Ak {b:List aw}:SC Tryz.V 33 [.aI] b (fun r b'=>r=.aI∧b'=b):=by
 refine cV 3000 Tryz.func33 rfl Tryz.ntmps33 Tryz.results33 Tryz.call33 (by simp) (ax b.length _ (by simp[within,within.aS])) ?_
 simp only[ae,↓Xn,↓Xo,↓Xg,↓Xd,↓Xe,↓Xf,Tryz.VΓ,Tryz.Γs,Xp,Xi,Nat.reduceAdd,Nat.reduceSub,Nat.reduceLT,Nat.reduceLeDiff,reduceIte,reduceCtorEq,Nat.reduceEqDiff,implies_true,forall_const,ad,av,beq_self_eq_true,bne_self_eq_false,Int.reduceBEq,Int.reduceBNe,Int.reduceLT,Int.reduceLE]
 refine aT Am ?_
 rintro y b1 ⟨rfl,rfl⟩
 simp only[ae,↓Xn,↓Xo,↓Xg,↓Xd,↓Xe,↓Xf,Tryz.VΓ,Tryz.Γs,Xp,Xi,Nat.reduceAdd,Nat.reduceSub,Nat.reduceLT,Nat.reduceLeDiff,reduceIte,reduceCtorEq,Nat.reduceEqDiff,implies_true,forall_const,ad,av,beq_self_eq_true,bne_self_eq_false,Int.reduceBEq,Int.reduceBNe,Int.reduceLT,Int.reduceLE]
 refine aL (fun σ=>lk 3 σ.t=some .aI∧lk 8 σ.t=some (.int .i64 0)∧lk 9 σ.t=some (.int .i64 0)∧σ.b=b1) (fun σ=>0) ⟨rfl,rfl,rfl,rfl⟩ ?_
 rintro⟨t',b2⟩ ⟨l3,l8,l9,rfl⟩
 simp only at l3 l8 l9
 simp only[ae,↓Xn,↓Xo,↓Xg,↓Xd,↓Xe,↓Xf,Tryz.VΓ,Tryz.Γs,Xp,Xi,Nat.reduceAdd,Nat.reduceSub,Nat.reduceLT,Nat.reduceLeDiff,reduceIte,reduceCtorEq,Nat.reduceEqDiff,implies_true,forall_const,ad,av,beq_self_eq_true,bne_self_eq_false,Int.reduceBEq,Int.reduceBNe,Int.reduceLT,Int.reduceLE,l3,l8,l9]
theorem CM {b:List aw}{q:Nat}{L:List En}{m:Bool}(hq:b[q]? = some (.own (L.flatMap enc) 43 14 L.length m))(BA:m=true∨L.length≠0)(hT:∀ e∈L,e.v.tr=.aI)(hl:L.length≤1000000) :
 SC Tryz.V 33 [.o q L.length] b (fun r b'=>r=.o b.length L.length∧b'=b++[.own (L.flatMap enc) 43 14 L.length true]):=by
 have pb:=(zMo.1 hq).1
 have h1:(L.flatMap enc).all one=true:=by
  rw[zMN]
  intro x hx
  obtain⟨e,he,hx⟩:=List.mem_flatMap.1 hx
  have:=hT e he
  simp only[enc,this]at hx
  simp at hx
  rcases hx with rfl|rfl|rfl|rfl|rfl|rfl|rfl|rfl|rfl|rfl|rfl|rfl|rfl|rfl <;> rfl
 refine cV 3000 Tryz.func33 rfl Tryz.ntmps33 Tryz.results33 Tryz.call33 (by simp) (ax b.length _ (by simp[within,within.aS,pb])) ?_
 simp only[ae,↓Xn,↓Xo,↓Xg,↓Xd,↓Xe,↓Xf,Tryz.VΓ,Tryz.Γs,Xp,Xi,Nat.reduceAdd,Nat.reduceSub,Nat.reduceLT,Nat.reduceLeDiff,reduceIte,reduceCtorEq,Nat.reduceEqDiff,implies_true,forall_const,ad,av,beq_self_eq_true,bne_self_eq_false,Int.reduceBEq,Int.reduceBNe,Int.reduceLT,Int.reduceLE]
 refine aT (Al hq BA h1 hl) ?_
 rintro y b1 ⟨rfl,rfl⟩
 simp only[ae,↓Xn,↓Xo,↓Xg,↓Xd,↓Xe,↓Xf,Tryz.VΓ,Tryz.Γs,Xp,Xi,Nat.reduceAdd,Nat.reduceSub,Nat.reduceLT,Nat.reduceLeDiff,reduceIte,reduceCtorEq,Nat.reduceEqDiff,implies_true,forall_const,ad,av,beq_self_eq_true,bne_self_eq_false,Int.reduceBEq,Int.reduceBNe,Int.reduceLT,Int.reduceLE]
 refine aL (fun σ=>∃ (i:Nat),lk 3 σ.t=some (.o b.length L.length)∧lk 8 σ.t=some (.int .i64 L.length)∧lk 9 σ.t=some (.int .i64 i)∧i≤L.length∧σ.b=b++[.own (L.flatMap enc) 43 14 L.length true]) (fun σ=>L.length - ji 9 σ) ⟨0,rfl,rfl,rfl,by omega,rfl⟩ ?_
 rintro⟨t',b2⟩ ⟨i,l3,l8,l9,hi,rfl⟩
 simp only at l3 l8 l9
 rw[az l9]
 by_cases c:i<L.length
 ·have ci:decide ((i:Int)<(L.length:Int))=true:=by simpa using c
  have dD:=tE L i c
  have hpt:=vdc_put L i c
  have hvl:(gi L[i].v).length=12:=rfl
  simp only[ae,↓Xn,↓Xo,↓Xg,↓Xd,↓Xe,↓Xf,Tryz.VΓ,Tryz.Γs,Xp,Xi,Nat.reduceAdd,Nat.reduceSub,Nat.reduceLT,Nat.reduceLeDiff,reduceIte,reduceCtorEq,Nat.reduceEqDiff,implies_true,forall_const,ad,av,beq_self_eq_true,bne_self_eq_false,Int.reduceBEq,Int.reduceBNe,Int.reduceLT,Int.reduceLE,l3,l8,l9,ci,dD]
  refine⟨⟨by omega,by omega⟩,by rw[aM];omega,aa (uc (hT _ (zMG c))) ?_⟩
  simp only[ae,↓Xn,↓Xo,↓Xg,↓Xd,↓Xe,↓Xf,Tryz.VΓ,Tryz.Γs,Xp,Xi,Nat.reduceAdd,Nat.reduceSub,Nat.reduceLT,Nat.reduceLeDiff,reduceIte,reduceCtorEq,Nat.reduceEqDiff,implies_true,forall_const,ad,av,beq_self_eq_true,bne_self_eq_false,Int.reduceBEq,Int.reduceBNe,Int.reduceLT,Int.reduceLE,l3,l8,l9,hpt,hvl]
  have h1v:(gi L[i].v).all one=true:=by
   have:=hT _ (zMG c)
   simp[gi,one,this]
  refine⟨⟨by omega,by omega⟩,⟨h1v,by rw[aM];omega⟩,by omega,⟨i+1,rfl,by omega⟩,?_⟩
  rw[az (show lk 9 _=some (.int .i64 ((i+1:Nat):Int)) from rfl)];omega
 ·have ci:decide ((i:Int)<(L.length:Int))=false:=by simpa using c
  simp only[ae,↓Xn,↓Xo,↓Xg,↓Xd,↓Xe,↓Xf,Tryz.VΓ,Tryz.Γs,Xp,Xi,Nat.reduceAdd,Nat.reduceSub,Nat.reduceLT,Nat.reduceLeDiff,reduceIte,reduceCtorEq,Nat.reduceEqDiff,implies_true,forall_const,ad,av,beq_self_eq_true,bne_self_eq_false,Int.reduceBEq,Int.reduceBNe,Int.reduceLT,Int.reduceLE,l3,l8,l9,ci]
open Go Vc Go.RowKit Go.Lib Wf
theorem qW {P:Program}{ops:Array Oper}{o:Oper}{a:Act}{w:World}{K:Act→World→Prop}{Q:Exit→Act→World→Prop}{E:Prop}
 (hg:o.guard=none) {v':Value} {w':World} (hr:(execOp a.eval o).run P w=.ok (.value v') w') (hK:K (a.put o.dst v') w') :
 if Region.wanted o (yielded ops a.tmps)=true then Oper.wp P o a w K Q else E:=by
 have hw:Region.wanted o (yielded ops a.tmps)=true:=by simp[Region.wanted,hg]
 rw[if_pos hw]
 unfold Oper.wp
 simp[hr,Result.andThen]
 exact hK
theorem gh {P:Program}{w:World}{ops:Array Oper}{rest:List Oper}{o:Oper}{a:Act}{Q:Exit→Act→World→Prop}(hgd:o.guard=none){v':Value}{w':World}
 (hr:(execOp a.eval o).run P w=.ok (.value v') w') (h:wpList P ops Q rest (a.put o.dst v') w'):wpList P ops Q (o::rest) a w :=
 wpList_plain hgd fun _ hK=>by
  unfold Oper.wp
  simp[hr,Result.andThen]
  exact hK _ _ h
theorem iI {P:Program}{o:Oper}{a:Act}{w w':World}{s x:Operand}{t t':TypeId}(ho:o.op=.call { callee:=.builtin .append,args:=#[s,x],argTypes:=#[t,t'] }){v:Value}(hr:(Builtin.append_ #[t,t'] o.type #[a.eval s,a.eval x]).run P w=.ok v w') :
 (execOp a.eval o).run P w=.ok (.value v) w':=by
 unfold execOp
 simp only[ho,resolve,invoke,builtin,Sem.run_bind,Sem.run_pure,Result.andThen_ok,List.map_toArray,List.map_cons,List.map_nil,hr]
theorem cell_of {w:World}{g:Nat}{arr:Array Value}{T:TypeId}{fz:Nat × Nat}(hg:w.heap[g]? = some (.cells arr T fz))(j:Nat):w.cell? ⟨g,j,none⟩=arr[j]? := by
 simp[World.cell?,hg]
theorem CP {P:Program}(w:World)(t e ty:TypeId)(z:Value)(ht:P.underlying t=some (.slice e))(hv:∀ w,(zeroValue e).run P w=.ok z w)(b o n c:Nat)(hn:0<n){w':World}(oZ:(storeCells ⟨b,o,none⟩ (Builtin.zeroCells z.cells n).toList).run P w=.ok () w') :
 (Builtin.clear_ #[t] ty #[.slice (some ⟨b,o,none⟩) n c]).run P w=.ok (.tuple #[]) w':=by
 cases n with
 | zero=>omega
 | succ m=>simp[Builtin.clear_,run_underlying ht,hv,oZ]
theorem vJ {z:Array Value}(h:∀ v∈z,v.oneCell'=true)(n:Nat):∀ v∈(Builtin.zeroCells z n).toList,v.oneCell'=true:=by
 intro v hv
 simp only[Builtin.zeroCells,Array.toList_map,List.mem_map]at hv
 obtain⟨i,hi,rfl⟩:=hv
 have h0:z.size≠0:=by
  intro h0;rw[h0]at hi;simp at hi
 rw[getElem!_pos z (i % z.size) (Nat.mod_lt _ (by omega))]
 exact h _ (Array.getElem_mem _)
theorem iq:∃ (i:TypeInfo) (z:Value),Tryz.prog.info? 43=some i∧i.zero=some z∧i.size=14∧z.cells.size=14∧(∀ v∈z.cells,v.oneCell'=true)∧i.bytes≤500:=by
 have h:((Tryz.prog.info? 43).map fun i=>(i.size,i.zero.map fun z=>(z.cells.size,z.cells.all fun v=>v.oneCell'),decide (i.bytes≤500)))=some (14,some (14,true),true):=by kernel_rfl
 cases hi:Tryz.prog.info? 43 with
 | none=>rw[hi]at h;cases h
 | some i =>
   rw[hi]at h
   cases hz:i.zero with
   | none=>simp[hz]at h
   | some z =>
     simp[hz]at h
     refine⟨i,z,rfl,hz,h.1,h.2.1.1,?_,h.2.2⟩
     intro v hv
     obtain⟨k,hk,rfl⟩:=Array.mem_iff_getElem.1 hv
     exact h.2.1.2 k hk
theorem DJ {z:Value}{i:TypeInfo}(hi:Tryz.prog.info? 43=some i)(hz:i.zero=some z)(w:World):(zeroValue 43).run Tryz.prog w=.ok z w:=by
 simp[zeroValue,typeInfo,hi,hz]
set_option maxRecDepth 1000000 in
theorem Gv {g n cap k:Nat}{c rest:List Value}{fz:Nat × Nat}{w:World}(hg:w.heap[g]? = some (.cells (c++rest).toArray 43 fz))(wD:c.length+rest.length≤fz.1∨fz.2≤fz.1)(hc:c.length=n * 14)(lg:c.length+rest.length=cap * 14)(hk:k<n){j:Nat}(hj:j=k+1)(h1:∀ v∈c,v.oneCell'=true)(sY:cap≤maxLen) :
 Calls Tryz.prog 37 #[.slice (some ⟨g,0,none⟩) n cap,.int .i64 k,.int .i64 j] w fun e w'=>e=.returned (.slice (some ⟨g,0,none⟩) (n - 1) cap)∧∃ q z,z.length=14∧(∀ v∈z,v.oneCell'=true)∧w'=(Sort.ahead w q).setRow g ((c.take (k * 14)++c.drop (j * 14))++(z++rest)).toArray:=by
 have mixed:=Tryz.V.mixed
 have hncap:n≤cap:=by omega
 obtain⟨i0,z,tx,Bo,fe,xD,oc,-⟩:=iq
 have hzv:=DJ tx Bo
 have hu:Tryz.prog.underlying 22=some (.slice 43):=by kernel_rfl
 obtain⟨Z,hZ⟩:∃ Z,Z=(Builtin.zeroCells z.cells 1).toList:=⟨_,rfl⟩
 have hZl:Z.length=14:=by rw[hZ,zMP,size_zeroCells,xD]
 have hZ1:∀ v∈Z,v.oneCell'=true:=by rw[hZ];exact vJ oc 1
 obtain⟨news,Bz⟩:∃ news,news=c.drop (j * 14):=⟨_,rfl⟩
 have sA:news.length=(n - (j)) * 14:=by rw[Bz,zMB,hc,Nat.sub_mul]
 obtain⟨W1,qP⟩:∃ W1,W1=w.drew.setRow g (c.take (k * 14)++news++(c.drop ((n - 1) * 14)++rest)).toArray:=⟨_,rfl⟩
 have Br:(storeCells ⟨g,k * 14,none⟩ news).run Tryz.prog w.drew=.ok () W1:=by
  have:=bP (P:=Tryz.prog) g (k * 14) _ fz news 0 _ w.drew hg (by simp;omega) (by omega) (fun v hv=>h1 v (by rw[Bz]at hv;exact List.mem_of_mem_drop hv))
  rw[this,qP]
  congr 2
  simp only[zMJ,zMV]
  rw[zMS (by omega),List.drop_append_of_le_length (by omega)]
  rw[show k * 14+news.length=(n - 1) * 14 by omega]
 have hgW:W1.heap[g]? = some (.cells (c.take (k * 14)++news++(c.drop ((n - 1) * 14)++rest)).toArray 43 fz):=by
  rw[qP];exact setRow_heap _ _ _ _ _ _ hg
 obtain⟨W2,BL⟩:∃ W2,W2=(Sort.ahead w 1).setRow g ((c.take (k * 14)++news)++(Z++rest)).toArray:=⟨_,rfl⟩
 have HV:(c.take (k * 14)++news).length=(n - 1) * 14:=by rw[zMu,zMA,sA,hc];omega
 have Bq:(storeCells ⟨g,(n - 1) * 14,none⟩ Z).run Tryz.prog W1=.ok () W2:=by
  have:=bP (P:=Tryz.prog) g ((n - 1) * 14) _ fz Z 0 _ W1 hgW (by simp;omega) (by omega) hZ1
  rw[this,BL,qP,setRow_setRow]
  show Result.ok () (World.setRow _ _ _)=Result.ok () (World.setRow _ _ _)
  congr 2
  simp only[zMJ,zMV]
  rw[show (n - 1) * 14=(c.take (k * 14)++news).length from HV.symm,List.take_left,List.drop_append,zMF (by omega),zMK,zMH,List.drop_append_of_le_length (by rw[zMB];omega),List.drop_drop,zMF (by omega),zMK,zMT]
 have eg:∀ ty c',(Builtin.clear_ #[22] ty #[.slice (some ⟨g,(n - 1) * 14,none⟩) 1 c']).run Tryz.prog W1=.ok (.tuple #[]) W2:=fun ty c'=>CP W1 _ _ ty z hu hzv g ((n - 1) * 14) 1 c' (by decide) (by rw[← hZ];exact Bq)
 obtain⟨A,hA,FG⟩:∃ A:Addr,(if cap=j then some (⟨g,0,none⟩:Addr) else some ⟨g,(j) * 14,none⟩)=some A∧∀ j v,news[j]? = some v→w.drew.cell? (A.add j)=some v:=by
  by_cases h:cap=j
  ·refine⟨⟨g,0,none⟩,by simp[h],fun t u hu=>?_⟩
   have h0:news.length=0:=by rw[sA];omega
   rw[List.length_eq_zero_iff.1 h0]at hu
   simp at hu
  ·refine⟨⟨g,(j) * 14,none⟩,by simp[h],fun t u hu=>?_⟩
   rw[Addr.add_lit,cell_of (w:=w.drew) (show w.drew.heap[g]? = _ from hg)]
   rw[Bz,List.getElem?_drop]at hu
   rw[zMD,zMw (zMo.1 hu).1]
   exact hu
 have bJ:∀ ty,(Builtin.append_ #[22,22] ty #[.slice (some ⟨g,0,none⟩) k cap,.slice (some A) (n - (j)) (cap - (j))]).run Tryz.prog w.drew=.ok (.slice (some ⟨g,0,none⟩) (k+(n - (j))) cap) W1:=fun ty =>
  lI w.drew _ _ ty _ i0 hu hu (.inr ⟨_,rfl⟩) tx g k cap (n - (j)) _ news (by simp[Builtin.lenOf]) (run_firstCells_some w.drew _ _ A _ _ news (by rw[fe];exact sA) FG) (by omega) (by rw[fe];exact Br)
 have qN:j≤n:=by omega
 have hkj:k≤j:=by omega
 have bp:¬ (k:Int)=(j:Int):=by omega
 have hX:Aside (W2=(Sort.ahead w 1).setRow g ((c.take (k * 14)++news)++(Z++rest)).toArray∧Z.length=14∧(∀ v∈Z,v.oneCell'=true)∧news=c.drop ((j) * 14)):=⟨BL,hZl,hZ1,Bz⟩
 have iB:j≤cap:=by omega
 have ij:Hid (j=k+1):=hj
 have hcl2:∀ ty,(Builtin.clear_ #[22] ty #[.slice (some ⟨g,(k+(n - j)) * 14,none⟩) (n - (k+(n - j))) (cap - (k+(n - j)))]).run Tryz.prog W1=.ok (.tuple #[]) W2:=fun ty=>by
  rw[show k+(n - j)=n - 1 by omega,show n - (n - 1)=1 by omega];exact eg _ _
 clear eg
 have fQ:k≤cap:=by omega
 have hH:Hid (∀ ty,(Builtin.append_ #[22,22] ty #[.slice (some ⟨g,0,none⟩) k cap,.slice (some A) (n - (j)) (cap - (j))]).run Tryz.prog w.drew=.ok (.slice (some ⟨g,0,none⟩) (k+(n - (j))) cap) W1):=bJ
 clear hj qP BL hgW Br Bq FG hZ hZl hZ1 sA Bz hzv oc xD fe Bo tx HV bJ hg hc lg h1 wD
 go_enter Tryz.func37,Tryz.ntmps37
 go_wp2_with fail
 go_region_law_o (refine qW rfl (iI rfl (by simp[Act.eval,Act.put];exact hH.out _)) ?_)
 go_wp2
 go_ret
 obtain⟨e2,e3,e4,e5⟩:=hX.out
 have BC:=ij.out
 exact⟨by rw[show k+(n - j)=n - 1 by omega];rfl,1,Z,e3,e4,by rw[e2,e5]⟩
theorem sc_DelN {bs:List aw}{q n k:Nat}{c:List SV}(hq:bs[q]? = some (.own c 43 14 n true))(hk:k<n)(h1:c.all one=true) :
 SC Tryz.V 37 [.o q n,.int .i64 k,.int .i64 (k+1:Nat)] bs (fun r b=>r=.o bs.length (n - 1)∧b=bs.set q .gone++[.own (c.take (k * 14)++c.drop ((k+1) * 14)) 43 14 (n - 1) true]):=by
 refine D0 (V:=Tryz.V) (f:=37) Tryz.call37 hq fun β fp w gC hE=>?_
 have hh:=(gC β (bC.refl _ _)).holds q _ hq
 have eV:=fun β' hβ=>pL (β':=β') gC hβ hq
 have aC:∀ k,fp q k→k<w.heap.size:=(gC β (bC.refl _ _)).lt q _ hq
 clear gC hE
 rcases hh with⟨-,h0,-⟩|⟨fG,hnc,sY,eg,hli,hm,rD⟩
 ·exact absurd h0 (by omega)
 obtain⟨By,rest,fz,⟨hg,hfz0⟩,wD,lg⟩:=hm rfl
 have hlen:(c.map (ah β)).length=n * 14:=by simpa using eg
 have hx:=Gv (n:=n) (cap:=(β q).cap - 1) (k:=k) hg (by simp;simp at wD;omega) hlen (by rw[hlen,← eg];exact lg) hk rfl (fun v hv=>by
  obtain⟨x,hx,rfl⟩:=List.mem_map.1 hv
  exact gm (zMN.1 h1 x hx) β) sY
 have hN:(aJ β [.o q n,.int .i64 k,.int .i64 (k+1:Nat)]).toArray=#[.slice (some ⟨(β q).cK,0,none⟩) n ((β q).cap - 1),.int .i64 k,.int .i64 (k+1:Nat)]:=by
  simp[aJ,ah,oV,fG,By]
 rw[hN]
 refine hx.mono ?_
 rintro ex w' ⟨rfl,qq,z,hz,oc,rfl⟩
 have hcut:((c.map (ah β)).take (k * 14)++(c.map (ah β)).drop ((k+1) * 14))=(c.take (k * 14)++c.drop ((k+1) * 14)).map (ah β):=by simp
 have hcl2:(c.take (k * 14)++c.drop ((k+1) * 14)).length=(n - 1) * 14:=by
  rw[zMu,zMA,zMB,eg];omega
 refine⟨⟨(β q).cK,0,(β q).cap - 1+1⟩,(·=(β q).cK),by simp[oV],?_,?_,?_⟩
 ·refine⟨rfl,rfl,rfl,by simp,fun k hk iT=>?_⟩
  rw[setRow_other _ _ _ _ (fun e=>iT ((rD k).2 e))];rfl
 ·intro β' hβ
  have hrw:=eV β' hβ.dz
  refine dY (rest:=z++rest) (fz:=fz) ?_ ?_ hcl2 (by omega) sY ?_
  ·rw[setRow_heap _ _ _ _ _ _ (show (Sort.ahead w qq).heap[(β q).cK]? = _ from hg),hcut]
   congr 3
   simp only[List.map_append,List.map_take,List.map_drop,hrw]
  ·rw[hcl2,zMu,hz];rw[eg]at wD;omega
  ·rw[hcl2,zMu,hz];rw[eg]at lg;omega
 ·rintro k rfl
  have:=aC _ ((rD _).2 rfl)
  exact⟨.inl ((rD _).2 rfl),by simpa using this⟩
end Go.Proofs.YteipdaijbncgeaaGreatDoor
namespace Vc
open Go Go.RowKit Wf
section
variable {V:Cx}
end
end Vc
namespace Go.Proofs.YteipdaijbncgeaaGreatDoor
open Go Vc Go.RowKit Go.Lib Wf
section
variable {V:Cx}
end
open Go Vc Go.RowKit Wf
section
variable {b:List aw} {q i g:Nat} {L:List En} {m:Bool} {X:aw} {p:En→Bool}
def KpO (q:Nat)(b b':List aw):Prop:=b.length≤b'.length∧∀ k s,b[k]? = some s→k≠q→b'[k]? = some s
theorem KpO.set {q:Nat}{b b':List aw}(h:KpO q b b')(Y:aw):KpO q b (b'.set q Y):=⟨by simpa using h.1,fun k s hk hn=>aH (h.2 k s hk hn) (Ne.symm hn) _⟩
theorem ln (L:List En)(k:Nat):(L.flatMap enc).take (k * 14)=(L.take k).flatMap enc∧(L.flatMap enc).drop (k * 14)=(L.drop k).flatMap enc:=by
 have h:(L.flatMap enc)=(L.take k).flatMap enc++(L.drop k).flatMap enc:=by rw[← zMQ,zMU]
 by_cases hk:k≤L.length
 ·have hl:((L.take k).flatMap enc).length=k * 14:=by rw[aM,zMA];omega
  rw[h]
  exact⟨List.take_left' hl,List.drop_left' hl⟩
 ·rw[zMy (by rw[aM];omega),zMy (by omega),zMF (by rw[aM];omega),zMF (by omega)]
  exact⟨rfl,rfl⟩
end
end Go.Proofs.YteipdaijbncgeaaGreatDoor
namespace Vc
open Go Go.RowKit Wf
theorem PC.scs {V:Cx}{f:FuncId}{args:List SV}{bs:List aw}{x:SV}(h:PC V f args x):SC V f args bs (fun r b=>r=x∧b=bs):=by
 refine⟨h.enters,fun β fp w gC hG hE=>?_⟩
 rw[dx args h.fa β kH]
 refine(h.calls w hE).mono ?_
 rintro e w' ⟨he,hb⟩
 have fB:=gC β (bC.refl _ _)
 refine⟨x,bs,β,fp,⟨rfl,rfl⟩,bC.refl _ _,zMz _,fun β' hβ=>⟨by rw[he,fJ x h.fr kH β'],⟨fun i r hi=>((gC β' hβ).holds i r hi).stays (fun k hk=>hb.block k (fB.lt i r hi k hk)),fun i r hi k hk=>Nat.lt_of_lt_of_le (fB.lt i r hi k hk) hb.size,fB.sep⟩⟩,mJ.jA hb,fun i r hi hm k hk=>.inr ⟨i,r,hi,hm,hk⟩,fun i r hi k hk=>.inr ⟨i,r,hi,hk⟩⟩
mutual
theorem kI {m n:Nat}(BA:m≤n)(x:SV)(h:within m x=true):within n x=true:=by
 cases x <;> simp only[within,decide_eq_true_eq]at h ⊢
 ·omega
 ·omega
 ·omega
 ·exact ju BA _ h
 ·exact ju BA _ h
 ·exact ju BA _ h
 ·exact ju BA _ h
 ·exact kI BA _ h
theorem ju {m n:Nat}(BA:m≤n)(l:List SV)(h:within.aS m l=true):within.aS n l=true:=by
 cases l with
 | nil=>rfl
 | cons x r =>
   simp only[within.aS,Bool.and_eq_true]at h ⊢
   exact⟨kI BA x h.1,ju BA r h.2⟩
end
end Vc
namespace Go.Proofs.YteipdaijbncgeaaGreatDoor
open Go Vc Go.RowKit Wf
def iV (a b:Int):Int:=if IntKind.u64.wrap (a+b)<a then 18446744073709551615 else IntKind.u64.wrap (a+b)
theorem pP (a b:Int):PC Tryz.V 29 [.int .u64 a,.int .u64 b] (.int .u64 (iV a b)):=by
 unfold iV
 refine aQ 3000 Tryz.func29 rfl Tryz.ntmps29 Tryz.results29 Tryz.call29 (by simp) (by simp[flat,flat.ai]) (by simp[flat,flat.ai]) ?_
 by_cases h:IntKind.u64.wrap (a+b)<a
 ·have hd:decide (IntKind.u64.wrap (a+b)<a)=true:=by simpa using h
  rw[if_pos h]
  simp only[ae,↓Xn,↓Xo,↓Xg,↓Xd,↓Xe,↓Xf,Tryz.VΓ,Tryz.Γs,Xp,Xi,Nat.reduceAdd,Nat.reduceSub,Nat.reduceLT,Nat.reduceLeDiff,reduceIte,reduceCtorEq,Nat.reduceEqDiff,implies_true,forall_const,ad,beq_self_eq_true,bne_self_eq_false,Int.reduceBEq,Int.reduceBNe,Int.reduceLT,Int.reduceLE]
  intro h2;rw[hd]at h2;cases h2
 ·have hd:decide (IntKind.u64.wrap (a+b)<a)=false:=by simpa using h
  rw[if_neg h]
  simp only[ae,↓Xn,↓Xo,↓Xg,↓Xd,↓Xe,↓Xf,Tryz.VΓ,Tryz.Γs,Xp,Xi,Nat.reduceAdd,Nat.reduceSub,Nat.reduceLT,Nat.reduceLeDiff,reduceIte,reduceCtorEq,Nat.reduceEqDiff,implies_true,forall_const,ad,beq_self_eq_true,bne_self_eq_false,Int.reduceBEq,Int.reduceBNe,Int.reduceLT,Int.reduceLE]
  intro h2;rw[hd]at h2;cases h2
def iJ (v:Vd):Bool:=v.err==0&&v.store&&decide (1≤v.de)&&decide (v.de≤86400)
def zeroV:Vd:=⟨0,⟨0,[],[],0⟩,⟨0,[],[],0⟩,false,0,.aI⟩
theorem xZ (v:Vd)(hv:v.tr=.aI):gi v=[.int .i64 v.err,.int .i64 v.id.kind,.str v.id.text,.str v.id.host,.int .i64 v.id.port,.int .i64 v.cW.kind,.str v.cW.text,.str v.cW.host,.int .i64 v.cW.port,.bool v.store,.int .u64 v.de,.aI]:=by unfold gi;rw[hv]
theorem p_New (n:Int):PC Tryz.V 10 [.int .i64 n] (if n<0∨1024<n then .eR [.agg [.int .i64 0,.aI],.int .i64 4] else .eR [.agg [.int .i64 n,.aI],.int .i64 0]):=by
 split
 ·rename_i h
  refine aQ 3000 Tryz.func10 rfl Tryz.ntmps10 Tryz.results10 Tryz.call10 (by simp) (by simp[flat,flat.ai]) (by simp[flat,flat.ai]) ?_
  by_cases h1:n<0
  ·have hd:decide (n<0)=true:=by simpa using h1
   simp only[ae,↓Xn,↓Xo,↓Xg,↓Xd,↓Xe,↓Xf,Tryz.VΓ,Tryz.Γs,Xp,Xi,Nat.reduceAdd,Nat.reduceSub,Nat.reduceLT,Nat.reduceLeDiff,reduceIte,reduceCtorEq,Nat.reduceEqDiff,implies_true,forall_const,ad,beq_self_eq_true,bne_self_eq_false,Int.reduceBEq,Int.reduceBNe,Int.reduceLT,Int.reduceLE,hd]
  ·have hd:decide (n<0)=false:=by simpa using h1
   have oe:decide (1024<n)=true:=by simp;omega
   simp only[ae,↓Xn,↓Xo,↓Xg,↓Xd,↓Xe,↓Xf,Tryz.VΓ,Tryz.Γs,Xp,Xi,Nat.reduceAdd,Nat.reduceSub,Nat.reduceLT,Nat.reduceLeDiff,reduceIte,reduceCtorEq,Nat.reduceEqDiff,implies_true,forall_const,ad,beq_self_eq_true,bne_self_eq_false,Int.reduceBEq,Int.reduceBNe,Int.reduceLT,Int.reduceLE,hd,oe]
 ·rename_i h
  refine aQ 3000 Tryz.func10 rfl Tryz.ntmps10 Tryz.results10 Tryz.call10 (by simp) (by simp[flat,flat.ai]) (by simp[flat,flat.ai]) ?_
  have hd:decide (n<0)=false:=by simp;omega
  have oe:decide (1024<n)=false:=by simp;omega
  simp only[ae,↓Xn,↓Xo,↓Xg,↓Xd,↓Xe,↓Xf,Tryz.VΓ,Tryz.Γs,Xp,Xi,Nat.reduceAdd,Nat.reduceSub,Nat.reduceLT,Nat.reduceLeDiff,reduceIte,reduceCtorEq,Nat.reduceEqDiff,implies_true,forall_const,ad,beq_self_eq_true,bne_self_eq_false,Int.reduceBEq,Int.reduceBNe,Int.reduceLT,Int.reduceLE,hd,oe]
section
variable {b:List aw} {q:Nat} {L:List En} {m:Bool} {t:Bytes} {cp now:Int}
def getM (L:List En)(t:Bytes)(now:Int):Vd × Bool:=match L[hJ En.key L t]? with
 | some e=>if dQ En.key L t&&!decide (now<e.stored)&&!decide (e.aU≤now) then(e.v,true) else(zeroV,false)
 | none=>(zeroV,false)
theorem sc_Get {x:SV}(h:hU b x L m)(ha:om En.key L)(hl:L.length≤1000000)(hT:∀ e∈L,e.v.tr=.aI) :
 SC Tryz.V 20 [.agg [.int .i64 cp,x],.str t,.int .u64 now] b (fun r b'=>r=.eR [.agg (gi (getM L t now).1),.bool (getM L t now).2]∧Kp b b'):=by
 have hw:=h.within
 have ho:=h.one
 refine cV 3000 Tryz.func20 rfl Tryz.ntmps20 Tryz.results20 Tryz.call20 (by simp) (ax b.length _ (by simp[within,within.aS,hw])) ?_
 simp only[ae,↓Xn,↓Xo,↓Xg,↓Xd,↓Xe,↓Xf,Tryz.VΓ,Tryz.Γs,Xp,Xi,Nat.reduceAdd,Nat.reduceSub,Nat.reduceLT,Nat.reduceLeDiff,reduceIte,reduceCtorEq,Nat.reduceEqDiff,implies_true,forall_const,ad,av,beq_self_eq_true,bne_self_eq_false,Int.reduceBEq,Int.reduceBNe,Int.reduceLT,Int.reduceLE,ho]
 refine aT (yi (h.kp ((Kp.refl _).app _)) ha hl (fun e he=>by rw[hT e he];exact⟨rfl,rfl⟩)) ?_
 rintro y b1 ⟨rfl,rfl⟩
 cases hh:dQ En.key L t
 ·have hg:getM L t now=(zeroV,false):=by
   unfold getM;rw[hh];split <;> simp
  rw[hg]
  simp only[ae,↓Xn,↓Xo,↓Xg,↓Xd,↓Xe,↓Xf,Tryz.VΓ,Tryz.Γs,Xp,Xi,Nat.reduceAdd,Nat.reduceSub,Nat.reduceLT,Nat.reduceLeDiff,reduceIte,reduceCtorEq,Nat.reduceEqDiff,implies_true,forall_const,ad,av,beq_self_eq_true,bne_self_eq_false,Int.reduceBEq,Int.reduceBNe,Int.reduceLT,Int.reduceLE,hh]
  exact⟨rfl,(Kp.refl _).app _⟩
 ·obtain⟨hk,iU⟩:=(tA ha).1 hh
  obtain⟨q,rfl,hq⟩:∃ q,x=.o q L.length∧b[q]? = some (.own (L.flatMap enc) 43 14 L.length m):=by
   rcases h with⟨rfl,rfl⟩|h
   ·simp at hk
   ·exact h
  have g1:(L.flatMap enc)[hJ En.key L t * 14+12]? = some (.int .u64 L[hJ En.key L t].stored):=(fX L _ hk 12 (by omega)).trans rfl
  have g2:(L.flatMap enc)[hJ En.key L t * 14+13]? = some (.int .u64 L[hJ En.key L t].aU):=(fX L _ hk 13 (by omega)).trans rfl
  have dD:=tE L _ hk
  have hvn:=hT _ (zMG hk)
  have hg:getM L t now=if !decide (now<L[hJ En.key L t].stored)&&!decide (L[hJ En.key L t].aU≤now) then(L[hJ En.key L t].v,true) else(zeroV,false):=by
   unfold getM;rw[hh,List.getElem?_eq_getElem hk];simp
  rw[hg]
  have jN:=aM L
  have HS:=xZ _ hvn
  cases c1:decide (now<L[hJ En.key L t].stored)
  ·cases c2:decide (L[hJ En.key L t].aU≤now)
   ·simp only[ae,↓Xn,↓Xo,↓Xg,↓Xd,↓Xe,↓Xf,Tryz.VΓ,Tryz.Γs,Xp,Xi,Nat.reduceAdd,Nat.reduceSub,Nat.reduceLT,Nat.reduceLeDiff,reduceIte,reduceCtorEq,Nat.reduceEqDiff,implies_true,forall_const,ad,av,beq_self_eq_true,bne_self_eq_false,Int.reduceBEq,Int.reduceBNe,Int.reduceLT,Int.reduceLE,hh,hq,af hq,g1,g2,c1,c2]
    refine⟨⟨by omega,by omega⟩,by rw[jN];omega,⟨by omega,by omega⟩,by rw[jN];omega,⟨by omega,by omega⟩,by rw[jN];omega,?_⟩
    rw[dD]
    refine aa (uc hvn) ?_
    simp only[ae,↓Xn,↓Xo,↓Xg,↓Xd,↓Xe,↓Xf,Tryz.VΓ,Tryz.Γs,Xp,Xi,Nat.reduceAdd,Nat.reduceSub,Nat.reduceLT,Nat.reduceLeDiff,reduceIte,reduceCtorEq,Nat.reduceEqDiff,implies_true,forall_const,ad,av,beq_self_eq_true,bne_self_eq_false,Int.reduceBEq,Int.reduceBNe,Int.reduceLT,Int.reduceLE,HS]
    exact(Kp.refl _).app _
   ·simp only[ae,↓Xn,↓Xo,↓Xg,↓Xd,↓Xe,↓Xf,Tryz.VΓ,Tryz.Γs,Xp,Xi,Nat.reduceAdd,Nat.reduceSub,Nat.reduceLT,Nat.reduceLeDiff,reduceIte,reduceCtorEq,Nat.reduceEqDiff,implies_true,forall_const,ad,av,beq_self_eq_true,bne_self_eq_false,Int.reduceBEq,Int.reduceBNe,Int.reduceLT,Int.reduceLE,hh,hq,af hq,g1,g2,c1,c2]
    exact⟨⟨by omega,by omega⟩,by rw[jN];omega,⟨by omega,by omega⟩,by rw[jN];omega,rfl,(Kp.refl _).app _⟩
  ·simp only[ae,↓Xn,↓Xo,↓Xg,↓Xd,↓Xe,↓Xf,Tryz.VΓ,Tryz.Γs,Xp,Xi,Nat.reduceAdd,Nat.reduceSub,Nat.reduceLT,Nat.reduceLeDiff,reduceIte,reduceCtorEq,Nat.reduceEqDiff,implies_true,forall_const,ad,av,beq_self_eq_true,bne_self_eq_false,Int.reduceBEq,Int.reduceBNe,Int.reduceLT,Int.reduceLE,hh,hq,af hq,g1,g2,c1]
   exact⟨⟨by omega,by omega⟩,by rw[jN];omega,rfl,(Kp.refl _).app _⟩
def og (L:List En)(now:Int):List En:=L.filter fun e=>!decide (e.aU≤now)
theorem GD {x:SV}(h:hU b x L m)(ha:om En.key L)(hl:L.length≤1000000)(hT:∀ e∈L,e.v.tr=.aI) :
 SC Tryz.V 20 [.agg [.int .i64 cp,x],.str t,.int .u64 now] b (fun r b'=>r=.eR [.agg (gi (getM L t now).1),.bool (getM L t now).2]∧b'=b):=by
 have hn:(getM L t now).1.tr=.aI:=by
  unfold getM
  split
  ·rename_i e he
   split
   ·exact hT e (List.mem_of_getElem? he)
   ·rfl
  ·rfl
 exact fD (by rw[xZ _ hn];rfl) (sc_Get h ha hl hT)
end
open Go Vc Go.RowKit Wf
theorem quo2 {k:Nat}(hk:k≤1000000):rN .quo .i64 ((k:Int) - 1) 2=(((k - 1) / 2:Nat):Int):=by
 have e:Int.tdiv ((k:Int) - 1) 2=(((k - 1) / 2:Nat):Int):=by
  cases k with
  | zero=>rfl
  | succ k =>
    have e:((k+1:Nat):Int) - 1=(k:Int):=by omega
    rw[e]
    simp only[Nat.add_sub_cancel]
    exact(Int.ofNat_tdiv k 2).symm
 show IntKind.wrap .i64 (Int.tdiv ((k:Int) - 1) 2)=_
 rw[e]
 simp only[IntKind.wrap,IntKind.signed,IntKind.bits]
 simp
 omega
section
variable {b:List aw} {q j r:Nat} {m:Bool} {L:List En} {P:List Nat}
theorem zS {P:List Nat}{i k n:Nat}(hi:i<P.length)(hk:k<P.length)(hP:∀ c,c<P.length→P.getD c 0<n):∀ c,c<(mR P i k).length→(mR P i k).getD c 0<n:=fun c hc=>by
 rw[eS]at hc
 rw[gE hi hk]
 split
 ·exact hP i hi
 ·split
  ·exact hP k hk
  ·exact hP c hc
theorem CL (h:QS b q j r m L P)(hP:∀ c,c<P.length→P.getD c 0<L.length){k:Nat}(hk:k<P.length)(hl:P.length≤1000000) :
 SC Tryz.V 83 [.Ek 96 (.p q 0),.int .i64 k] b (fun x b'=>x=.eR []∧QS b' q j r m L (Cn (oh L) (k+1) P k)∧Jg q r b b'):=by
 have pb:=(zMo.1 h.bq).1
 refine cV 3000 Tryz.func83 rfl Tryz.ntmps83 Tryz.results83 Tryz.call83 (by simp) (ax b.length _ (by simp[within,within.aS,pb])) ?_
 simp only[ae,↓Xn,↓Xo,↓Xg,↓Xd,↓Xe,↓Xf,Tryz.VΓ,Tryz.Γs,Xp,Xi,Nat.reduceAdd,Nat.reduceSub,Nat.reduceLT,Nat.reduceLeDiff,reduceIte,reduceCtorEq,Nat.reduceEqDiff,implies_true,forall_const,ad,av,beq_self_eq_true,bne_self_eq_false,Int.reduceBEq,Int.reduceBNe,Int.reduceLT,Int.reduceLE]
 refine aL (fun σ=>∃ (fu:Nat) (P':List Nat) (k':Nat),lk 0 σ.t=some (.Ek 96 (.p q 0))∧lk 1 σ.t=some (.int .i64 k')∧QS σ.b q j r m L P'∧Jg q r b σ.b∧k'<P'.length∧k'<fu∧P'.length=P.length∧(∀ c,c<P'.length→P'.getD c 0<L.length)∧Cn (oh L) fu P' k'=Cn (oh L) (k+1) P k) (fun σ=>ji 1 σ) ⟨k+1,P,k,rfl,rfl,h,Jg.refl _ _ _,hk,by omega,rfl,hP,rfl⟩ ?_
 rintro⟨t,b1⟩ ⟨fu,P',k',l0,l1,hq,cL,hk',hfu,hPl,hP',hup⟩
 simp only at l0 l1 hq cL
 rw[az l1]
 obtain⟨f,rfl⟩:∃ f,fu=f+1:=⟨fu - 1,by omega⟩
 rw[Cn]at hup
 have rA:=quo2 (k:=k') (by omega)
 have hi:(k' - 1) / 2<P'.length:=by omega
 have h0:P'.length≠0:=by omega
 by_cases xL:(k' - 1) / 2=k'
 ·have e0:k'=0:=by omega
  subst e0
  have hc:((((0 - 1) / 2:Nat):Int)==((0:Nat):Int))=true:=rfl
  rw[if_pos (.inl xL)]at hup
  rw[← hup]
  simp only[ae,↓Xn,↓Xo,↓Xg,↓Xd,↓Xe,↓Xf,Tryz.VΓ,Tryz.Γs,Xp,Xi,Nat.reduceAdd,Nat.reduceSub,Nat.reduceLT,Nat.reduceLeDiff,reduceIte,reduceCtorEq,Nat.reduceEqDiff,implies_true,forall_const,ad,av,beq_self_eq_true,bne_self_eq_false,Int.reduceBEq,Int.reduceBNe,Int.reduceLT,Int.reduceLE,l0,l1,rA,hc]
  exact⟨⟨by omega,by omega⟩,by decide,hq,cL⟩
 ·have hc:((((k' - 1) / 2:Nat):Int)==(k':Int))=false:=by rw[beq_eq_false_iff_ne];omega
  simp only[ae,↓Xn,↓Xo,↓Xg,↓Xd,↓Xe,↓Xf,Tryz.VΓ,Tryz.Γs,Xp,Xi,Nat.reduceAdd,Nat.reduceSub,Nat.reduceLT,Nat.reduceLeDiff,reduceIte,reduceCtorEq,Nat.reduceEqDiff,implies_true,forall_const,ad,av,beq_self_eq_true,bne_self_eq_false,Int.reduceBEq,Int.reduceBNe,Int.reduceLT,Int.reduceLE,l0,l1,rA,hc,VM_Less,EY]
  refine⟨⟨by omega,by omega⟩,by decide,aT (Fg hq hk' hi hP') ?_⟩
  rintro x b2 ⟨rfl,rfl⟩
  cases Ew:kP (oh L) (P'.getD k' 0) (P'.getD ((k' - 1) / 2) 0)
  ·rw[if_pos (.inr Ew)]at hup
   rw[← hup]
   simp only[ae,↓Xn,↓Xo,↓Xg,↓Xd,↓Xe,↓Xf,Tryz.VΓ,Tryz.Γs,Xp,Xi,Nat.reduceAdd,Nat.reduceSub,Nat.reduceLT,Nat.reduceLeDiff,reduceIte,reduceCtorEq,Nat.reduceEqDiff,implies_true,forall_const,ad,av,beq_self_eq_true,bne_self_eq_false,Int.reduceBEq,Int.reduceBNe,Int.reduceLT,Int.reduceLE,Bool.not_false]
   exact⟨hq,cL⟩
  ·rw[if_neg (by rw[Ew];simp[xL])]at hup
   simp only[ae,↓Xn,↓Xo,↓Xg,↓Xd,↓Xe,↓Xf,Tryz.VΓ,Tryz.Γs,Xp,Xi,Nat.reduceAdd,Nat.reduceSub,Nat.reduceLT,Nat.reduceLeDiff,reduceIte,reduceCtorEq,Nat.reduceEqDiff,implies_true,forall_const,ad,av,beq_self_eq_true,bne_self_eq_false,Int.reduceBEq,Int.reduceBNe,Int.reduceLT,Int.reduceLE,l0,l1,Bool.not_true,EY]
   refine aT (Fe hq hi hk') ?_
   rintro x b3 ⟨rfl,rfl⟩
   simp only[ae,↓Xn,↓Xo,↓Xg,↓Xd,↓Xe,↓Xf,Tryz.VΓ,Tryz.Γs,Xp,Xi,Nat.reduceAdd,Nat.reduceSub,Nat.reduceLT,Nat.reduceLeDiff,reduceIte,reduceCtorEq,Nat.reduceEqDiff,implies_true,forall_const,ad,av,beq_self_eq_true,bne_self_eq_false,Int.reduceBEq,Int.reduceBNe,Int.reduceLT,Int.reduceLE,l0,l1]
   refine⟨⟨f,mR P' ((k' - 1) / 2) k',(k' - 1) / 2,rfl,hq.swap h0 _ (eS _ _ _),⟨by simpa using cL.1,fun i s hs h1 h2=>aH (cL.2 i s hs h1 h2) (Ne.symm h2) _⟩,by rw[eS];exact hi,by omega,by rw[eS];exact hPl,zS hi hk' hP',hup⟩,?_⟩
   rw[az (show lk 1 _=some (.int .i64 (((k' - 1) / 2:Nat):Int)) from rfl)];omega
end
open Go Vc Go.RowKit Wf
section
variable {b:List aw} {q j r:Nat} {m:Bool} {L:List En} {P:List Nat}
theorem Jg.trans {q r r':Nat}{b b1 b2:List aw}(h1:Jg q r b b1)(hr:b.length≤r')(h2:Jg q r' b1 b2):Jg q r b b2 :=
 ⟨zMI h1.1 h2.1,fun i s hi hq hr'=>h2.2 i s (h1.2 i s hi hq hr') hq (by have:=(zMo.1 hi).1;omega)⟩
theorem Az {P:List Nat}{n N:Nat}(hP:∀ c,c<P.length→P.getD c 0<N)(hn:n<N):∀ c,c<(P++[n]).length→(P++[n]).getD c 0<N:=fun c hc=>by
 rw[zMu]at hc
 simp only[List.length_singleton]at hc
 rw[List.getD_eq_getElem?_getD]
 by_cases h:c<P.length
 ·rw[zMw h,← List.getD_eq_getElem?_getD];exact hP c h
 ·obtain rfl:c=P.length:=by omega
  simpa using hn
theorem yh (h:QS b q j r m L P)(hP:∀ c,c<P.length→P.getD c 0<L.length){n:Nat}(hn:n<L.length)(hl:P.length<1000000) :
 SC Tryz.V 59 [.Ek 96 (.p q 0),.Ek 3 (.int .i64 n)] b (fun x b'=>x=.eR []∧∃ r',b.length≤r'∧QS b' q j r' m L (Cn (oh L) (P.length+1) (P++[n]) P.length)∧Jg q r b b'):=by
 have pb:=(zMo.1 h.bq).1
 refine cV 3000 Tryz.func59 rfl Tryz.ntmps59 Tryz.results59 Tryz.call59 (by simp) (ax b.length _ (by simp[within,within.aS,pb])) ?_
 simp only[ae,↓Xn,↓Xo,↓Xg,↓Xd,↓Xe,↓Xf,Tryz.VΓ,Tryz.Γs,Xp,Xi,Nat.reduceAdd,Nat.reduceSub,Nat.reduceLT,Nat.reduceLeDiff,reduceIte,reduceCtorEq,Nat.reduceEqDiff,implies_true,forall_const,ad,av,beq_self_eq_true,bne_self_eq_false,Int.reduceBEq,Int.reduceBNe,Int.reduceLT,Int.reduceLE,VM_Push]
 refine aT (Ff h (by omega) n) ?_
 rintro x b1 ⟨rfl,r1,hr1,h1,k1⟩
 simp only[ae,↓Xn,↓Xo,↓Xg,↓Xd,↓Xe,↓Xf,Tryz.VΓ,Tryz.Γs,Xp,Xi,Nat.reduceAdd,Nat.reduceSub,Nat.reduceLT,Nat.reduceLeDiff,reduceIte,reduceCtorEq,Nat.reduceEqDiff,implies_true,forall_const,ad,av,beq_self_eq_true,bne_self_eq_false,Int.reduceBEq,Int.reduceBNe,Int.reduceLT,Int.reduceLE,VM_Len]
 refine aT (GM h1) ?_
 rintro x b2 ⟨rfl,rfl⟩
 have hlen:(P++[n]).length=P.length+1:=by simp
 have e1:((P.length+1:Nat):Int) - 1=((P.length:Nat):Int):=by omega
 simp only[ae,↓Xn,↓Xo,↓Xg,↓Xd,↓Xe,↓Xf,Tryz.VΓ,Tryz.Γs,Xp,Xi,Nat.reduceAdd,Nat.reduceSub,Nat.reduceLT,Nat.reduceLeDiff,reduceIte,reduceCtorEq,Nat.reduceEqDiff,implies_true,forall_const,ad,av,beq_self_eq_true,bne_self_eq_false,Int.reduceBEq,Int.reduceBNe,Int.reduceLT,Int.reduceLE,hlen]
 refine⟨by omega,?_⟩
 rw[e1]
 refine aT (CL h1 (Az hP hn) (k:=P.length) (by omega) (by omega)) ?_
 rintro x b3 ⟨rfl,h3,k3⟩
 simp only[ae,↓Xn,↓Xo,↓Xg,↓Xd,↓Xe,↓Xf,Tryz.VΓ,Tryz.Γs,Xp,Xi,Nat.reduceAdd,Nat.reduceSub,Nat.reduceLT,Nat.reduceLeDiff,reduceIte,reduceCtorEq,Nat.reduceEqDiff,implies_true,forall_const,ad,av,beq_self_eq_true,bne_self_eq_false,Int.reduceBEq,Int.reduceBNe,Int.reduceLT,Int.reduceLE]
 exact⟨r1,hr1,h3,k1.trans hr1 k3⟩
theorem GO (hj:b[j]? = some (.own (L.flatMap enc) 43 14 L.length m))(h0:0<L.length)(hl:L.length≤1000000) :
 SC Tryz.V 36 [.o j L.length] b (fun x b'=>x=.int .i64 (eC (oh L) L.length)∧Kp b b'):=by
 have mG:=(zMo.1 hj).1
 refine cV 3000 Tryz.func36 rfl Tryz.ntmps36 Tryz.results36 Tryz.call36 (by simp) (ax b.length _ (by simp[within,within.aS,mG])) ?_
 simp only[ae,↓Xn,↓Xo,↓Xg,↓Xd,↓Xe,↓Xf,Tryz.VΓ,Tryz.Γs,Xp,Xi,Nat.reduceAdd,Nat.reduceSub,Nat.reduceLT,Nat.reduceLeDiff,reduceIte,reduceCtorEq,Nat.reduceEqDiff,implies_true,forall_const,ad,av,beq_self_eq_true,bne_self_eq_false,Int.reduceBEq,Int.reduceBNe,Int.reduceLT,Int.reduceLE]
 refine aL (fun σ=>∃ (i:Nat) (r:Nat),lk 3 σ.t=some (.p b.length 0)∧lk 9 σ.t=some (.int .i64 L.length)∧lk 10 σ.t=some (.int .i64 i)∧i≤L.length∧QS σ.b b.length j r m L (gr (oh L) i)∧Kp b σ.b∧b.length≤r) (fun σ=>L.length - ji 10 σ) ⟨0,b.length+1,rfl,rfl,rfl,by omega,⟨bm rfl _ 0,fun h=>absurd rfl h,af hj _,fun h=>absurd rfl h⟩,(Kp.refl _).app _,by omega⟩ ?_
 rintro⟨t,b1⟩ ⟨i,r,l3,l9,l10,hi,hq,cL,hr⟩
 simp only at l3 l9 l10 hq cL
 rw[az l10]
 have hlen:=kZ (oh L) i
 by_cases c:i<L.length
 ·have ci:decide ((i:Int)<(L.length:Int))=true:=by simpa using c
  simp only[ae,↓Xn,↓Xo,↓Xg,↓Xd,↓Xe,↓Xf,Tryz.VΓ,Tryz.Γs,Xp,Xi,Nat.reduceAdd,Nat.reduceSub,Nat.reduceLT,Nat.reduceLeDiff,reduceIte,reduceCtorEq,Nat.reduceEqDiff,implies_true,forall_const,ad,av,beq_self_eq_true,bne_self_eq_false,Int.reduceBEq,Int.reduceBNe,Int.reduceLT,Int.reduceLE,l3,l9,l10,ci]
  refine aT (yh hq (fun c hc=>(kY (oh L) i _).1 ⟨c,by omega,rfl⟩ |> fun h=>by omega) c (by omega)) ?_
  rintro x b2 ⟨rfl,r',hr',rA,mC⟩
  rw[hlen]at rA
  simp only[ae,↓Xn,↓Xo,↓Xg,↓Xd,↓Xe,↓Xf,Tryz.VΓ,Tryz.Γs,Xp,Xi,Nat.reduceAdd,Nat.reduceSub,Nat.reduceLT,Nat.reduceLeDiff,reduceIte,reduceCtorEq,Nat.reduceEqDiff,implies_true,forall_const,ad,av,beq_self_eq_true,bne_self_eq_false,Int.reduceBEq,Int.reduceBNe,Int.reduceLT,Int.reduceLE,l3,l9,l10]
  refine⟨by omega,⟨i+1,r',rfl,by omega,rA,⟨zMI cL.1 mC.1,fun k hk=>by rw[mC.2 k _ (List.getElem?_eq_getElem (by have:=cL.1;omega)) (by omega) (by omega)];rw[← List.getElem?_eq_getElem (by have:=cL.1;omega)];exact cL.2 k hk⟩,by have:=cL.1;omega⟩,?_⟩
  rw[az (show lk 10 _=some (.int .i64 ((i+1:Nat):Int)) from rfl)];omega
 ·have ci:decide ((i:Int)<(L.length:Int))=false:=by simpa using c
  obtain rfl:i=L.length:=by omega
  have h0':(gr (oh L) L.length).length≠0:=by omega
  have hqq:=hq.bq
  rw[if_neg h0',hlen]at hqq
  have hrr:=hq.br h0'
  rw[hlen]at hrr
  have a0:(vG (gr (oh L) L.length))[Int.toNat 0 * 1]? = some (.int .i64 (eC (oh L) L.length:Nat)):=by
   have a0:=uE (gr (oh L) L.length) 0 (by omega)
   rw[DB _ h0]at a0
   exact a0
  have a1:(vG (gr (oh L) L.length)).length=L.length:=by simp[vG,hlen]
  simp only[ae,↓Xn,↓Xo,↓Xg,↓Xd,↓Xe,↓Xf,Tryz.VΓ,Tryz.Γs,Xp,Xi,Nat.reduceAdd,Nat.reduceSub,Nat.reduceLT,Nat.reduceLeDiff,reduceIte,reduceCtorEq,Nat.reduceEqDiff,implies_true,forall_const,ad,av,beq_self_eq_true,bne_self_eq_false,Int.reduceBEq,Int.reduceBNe,Int.reduceLT,Int.reduceLE,l3,l9,l10,ci,hqq,hrr,a0,a1]
  exact⟨by omega,by simp;omega,cL⟩
end
open Go Vc Go.RowKit Go.Lib Wf
theorem nP {P:Program}(w:World)(dT sT ty e:TypeId)(i:TypeInfo)(hu:P.underlying dT=some (.slice e))(hi:P.info? e=some i)(b o dLen dCap:Nat)(a:Addr)(iR sCap:Nat)(cs:List Value)(hn:cs.length=Nat.min iR dLen * i.size)
 (FG:∀ j v,cs[j]? = some v→w.cell? (a.add j)=some v) {w':World} (oZ:(storeCells ⟨b,o,none⟩ cs).run P w=.ok () w') :
 (Builtin.copy_ #[dT,sT] ty #[.slice (some ⟨b,o,none⟩) dLen dCap,.slice (some a) iR sCap]).run P w=.ok (goInt (Nat.min iR dLen)) w':=by
 have hl:=run_loadCells_list (P:=P) w a cs FG
 simp[Builtin.copy_,run_underlying hu,Builtin.lenOf,Builtin.firstCells,Go.sizeOf,typeInfo,hi,← hn,hl,oZ]
theorem nW {P:Program}{o:Oper}{a:Act}{w w':World}{s x:Operand}{t t':TypeId}(ho:o.op=.call { callee:=.builtin .copy,args:=#[s,x],argTypes:=#[t,t'] }){v:Value}(hr:(Builtin.copy_ #[t,t'] o.type #[a.eval s,a.eval x]).run P w=.ok v w') :
 (execOp a.eval o).run P w=.ok (.value v) w':=by
 unfold execOp
 simp only[ho,resolve,invoke,builtin,Sem.run_bind,Sem.run_pure,Result.andThen_ok,List.map_toArray,List.map_cons,List.map_nil,hr]
theorem gw {w:World}{g:Nat}{arr:Array Value}{T:TypeId}{fz:Nat × Nat}(hg:w.heap[g]? = some (.cells arr T fz)){o:Nat}{cs:List Value}(h:∀ j v,cs[j]? = some v→arr[o+j]? = some v):∀ j v,cs[j]? = some v→w.cell? ((⟨g,o,none⟩:Addr).add j)=some v:=fun j v hj=>by
 rw[Addr.add_lit,cell_of hg];exact h j v hj
theorem Ac {w:World}{g:Nat}{arr:Array Value}{T:TypeId}{fz:Nat × Nat}(hg:w.heap[g]? = some (.cells arr T fz)):w.shape? g=some (T,arr.size):=by
 simp[World.shape?,hg]
theorem xN {w:World}{g:Nat}{arr:Array Value}{T:TypeId}{fz:Nat × Nat}(hg:w.heap[g]? = some (.cells arr T fz))(wD:arr.size<fz.1∨fz.2≤fz.1){j:Nat}(hj:j≤arr.size):w.frozen? ⟨g,j,none⟩=false:=by
 simp[World.frozen?,hg];omega
theorem HJ {α:Type}{A B:List α}{q:Nat}(hA:A.length=q){p:Nat}(hp:p≤q):(A++B).take p=A.take p∧(A++B).drop q=B:=by
 subst hA
 exact⟨zMS hp,by simp⟩
theorem wT {α:Type}{A B x:List α}{p q:Nat}(hA:A.length=p)(hx:x.length=q):(A++B).take p++x++(A++B).drop (p+x.length)=A++x++B.drop q:=by
 subst hA hx
 rw[List.take_left,List.drop_append,zMF (by omega),zMK,zMH]
theorem GV {w:World}{g vb:Nat}{arr brr:Array Value}{fz fx:Nat × Nat}(hg:w.heap[g]? = some (.cells arr 43 fz))(hv:w.heap[vb]? = some (.cells brr 43 fx))(bp:vb≠g)(h0:arr.size≠0)(hfx:brr.size<fx.1∨fx.2≤fx.1)(m vc o lb cb:Nat) :
 (callFunc 60 #[.slice (some ⟨vb,0,none⟩) m vc,.slice (some ⟨g,o,none⟩) lb cb]).run Tryz.prog w=.ok (.value (.bool false)) w:=by
 obtain⟨i0,z,tx,Bo,fe,-⟩:=iq
 rw[run_callFunc_extern Tryz.func60 (by kernel_rfl) (by kernel_rfl) (by kernel_rfl) (e:=Extern.SlicesOverlaps.overlaps #[22,22] #[4]) (by kernel_rfl),
  Lib.run_overlaps_apart w 22 4 43 (by kernel_rfl) 14 (fun w=>by simp[Go.sizeOf,typeInfo,tx,fe]) ⟨vb,0,none⟩ ⟨g,o,none⟩ m vc lb cb bp _ _ _ _ (Ac hv) (Ac hg) h0 (xN hv hfx (Nat.zero_le _)) (xN hv hfx (zMz _))]
 rfl
set_option maxRecDepth 1000000 in
theorem zF {g n cap k m vb vc:Nat}{c rest x restx:List Value}{fz fx:Nat × Nat}{w:World}(hg:w.heap[g]? = some (.cells (c++rest).toArray 43 fz))(wD:c.length+rest.length<fz.1∨fz.2≤fz.1)(hc:c.length=n * 14)(lg:c.length+rest.length=cap * 14)(hk:k<n)(h1:∀ v∈c,v.oneCell'=true)(sY:cap≤maxLen)
 (hm:0<m) (gn:n+m≤cap) (hv:w.heap[vb]? = some (.cells (x++restx).toArray 43 fx)) (hfx:x.length+restx.length<fx.1∨fx.2≤fx.1) (hx:x.length=m * 14) (bp:vb≠g) (HR:∀ v∈x,v.oneCell'=true) :
 Calls Tryz.prog 38 #[.slice (some ⟨g,0,none⟩) n cap,.int .i64 k,.slice (some ⟨vb,0,none⟩) m vc] w fun e w'=>e=.returned (.slice (some ⟨g,0,none⟩) (n+m) cap)∧∃ q,w'=(Sort.ahead w q).setRow g ((c.take (k * 14)++x++c.drop (k * 14))++rest.drop (m * 14)).toArray:=by
 have mixed:=Tryz.V.mixed
 obtain⟨i0,z,tx,Bo,fe,xD,oc,-⟩:=iq
 have hu:Tryz.prog.underlying 22=some (.slice 43):=by kernel_rfl
 have hrl:m * 14≤rest.length:=by omega
 have qO:(c.drop (k * 14)).length=(n - k) * 14:=by rw[zMB,hc,Nat.sub_mul]
 -- the first copy
 obtain⟨R1,hR1⟩:∃ R1:List Value,R1=(c++rest).take ((k+m) * 14)++c.drop (k * 14)++rest.drop (m * 14):=⟨_,rfl⟩
 obtain⟨W1,qP⟩:∃ W1,W1=w.drew.setRow g R1.toArray:=⟨_,rfl⟩
 have Br:(storeCells ⟨g,(k+m) * 14,none⟩ (c.drop (k * 14))).run Tryz.prog w.drew=.ok () W1:=by
  have:=bP (P:=Tryz.prog) g ((k+m) * 14) _ fz (c.drop (k * 14)) 0 _ w.drew hg (by simp;omega) (by rw[qO];omega) (fun v hv=>h1 v (List.mem_of_mem_drop hv))
  rw[this,qP,hR1]
  congr 3
  simp only[zMV]
  congr 1
  rw[qO,show (k+m) * 14+(n - k) * 14=c.length+m * 14 by rw[hc];omega,List.drop_append,zMF (by omega),zMK,zMH]
 have hgW:W1.heap[g]? = some (.cells R1.toArray 43 fz):=by
  rw[qP];exact setRow_heap _ _ _ _ _ _ hg
 have hvW:W1.heap[vb]? = some (.cells (x++restx).toArray 43 fx):=by
  rw[qP,setRow_other _ _ _ _ bp];exact hv
 have HV:(c.take (k * 14)).length=k * 14:=by rw[zMA,hc];omega
 have hR1l:R1.length=cap * 14:=by
  rw[hR1,zMu,zMu,qO,zMA,zMu,zMB];omega
 obtain⟨W2,BL⟩:∃ W2,W2=(Sort.ahead w 1).setRow g ((c.take (k * 14)++x++c.drop (k * 14))++rest.drop (m * 14)).toArray:=⟨_,rfl⟩
 have Bq:(storeCells ⟨g,k * 14,none⟩ x).run Tryz.prog W1=.ok () W2:=by
  have:=bP (P:=Tryz.prog) g (k * 14) _ fz x 0 _ W1 hgW (by simp[hR1l,hx];omega) (by rw[hx];omega) HR
  rw[this,BL,qP,setRow_setRow]
  show Result.ok () (World.setRow _ _ _)=Result.ok () (World.setRow _ _ _)
  congr 2
  simp only[zMJ,zMV]
  have hA:((c++rest).take ((k+m) * 14)).length=(k+m) * 14:=by rw[zMA,zMu];omega
  obtain⟨e1,e2⟩:=HJ (B:=c.drop (k * 14)++rest.drop (m * 14)) hA (p:=k * 14) (by omega)
  rw[hR1,hx,show k * 14+m * 14=(k+m) * 14 by omega,zMT ((c++rest).take _),e1,e2,List.take_take,Nat.min_eq_left (by omega),zMS (by omega)]
  simp only[zMT]
 have hcp1:∀ ty dc sc,(Builtin.copy_ #[22,22] ty #[.slice (some ⟨g,(k+m) * 14,none⟩) (n+m - (k+m)) dc,.slice (some ⟨g,k * 14,none⟩) (n+m - k) sc]).run Tryz.prog w.drew=.ok (goInt ((n - k:Nat):Int)) W1:=fun ty dc sc=>by
  have e:Nat.min (n+m - k) (n+m - (k+m))=n - k:=by simp only[Nat.min_def];split <;> omega
  have:=nP (P:=Tryz.prog) w.drew 22 22 ty _ i0 hu tx g ((k+m) * 14) (n+m - (k+m)) dc ⟨g,k * 14,none⟩ (n+m - k) sc (c.drop (k * 14)) (by rw[e,fe,qO]) (gw (w:=w.drew) (show w.drew.heap[g]? = _ from hg) (fun j v hj=>by
   rw[List.getElem?_drop]at hj
   rw[zMD,zMw (zMo.1 hj).1];exact hj)) Br
  rw[this,e]
 have hcp2:∀ ty dc,(Builtin.copy_ #[22,22] ty #[.slice (some ⟨g,k * 14,none⟩) (n+m - k) dc,.slice (some ⟨vb,0,none⟩) m vc]).run Tryz.prog W1=.ok (goInt m) W2:=fun ty dc=>by
  have e:Nat.min m (n+m - k)=m:=by simp only[Nat.min_def];split <;> omega
  have:=nP (P:=Tryz.prog) W1 22 22 ty _ i0 hu tx g (k * 14) (n+m - k) dc ⟨vb,0,none⟩ m vc x (by rw[e,fe,hx]) (gw hvW (fun j v hj=>by
   rw[Nat.zero_add,zMD,zMw (zMo.1 hj).1];exact hj)) Bq
  rw[this,e]
 have hov:∀ lb cb,(callFunc 60 #[.slice (some ⟨vb,0,none⟩) m vc,.slice (some ⟨g,(k+m) * 14,none⟩) lb cb]).run Tryz.prog w=.ok (.value (.bool false)) w:=fun lb cb =>
  GV hg hv bp (by rw[List.size_toArray,zMu];omega) (by simpa using hfx) m vc _ lb cb
 have hX:Aside (W2=(Sort.ahead w 1).setRow g ((c.take (k * 14)++x++c.drop (k * 14))++rest.drop (m * 14)).toArray):=BL
 have gA:IntKind.i64.wrap ((k:Int)+(m:Int))=(k:Int)+(m:Int):=by rw[IntKind.wrap_i64];unfold maxLen at sY;omega
 have kG:(0:Int)≤(k:Int)+(m:Int):=by omega
 have nz:k≤n:=by omega
 have htn:((k:Int)+(m:Int)).toNat=k+m:=by omega
 have oA:¬ (cap=k+m):=by omega
 have hb3:(k:Int)≤(n:Int)+(m:Int):=by omega
 have hb4:¬ (cap=k):=by omega
 have hz1':¬ ((m:Int)=0):=by omega
 have hz2:¬ ((k:Int)=(n:Int)):=by omega
 have hc63:cap≤9223372036854775807:=by unfold maxLen at sY;exact sY
 clear sY qP BL hgW hvW Br Bq hR1 hR1l oc xD fe Bo tx HV qO hrl hg hv hc lg h1 HR wD hfx hx
 go_enter Tryz.func38,Tryz.ntmps38
 go_wp2_with (simp only[hov])
 go_region_law_o (refine qW rfl (nW rfl (by simp[Act.eval,Act.put];exact hcp1 _ _ _)) ?_)
 go_wp2_with (at_builtin;refine gh rfl (nW rfl (by simp[Act.eval,Act.put];exact hcp2 _ _)) ?_)
 go_ret
 exact⟨rfl,1,hX.out⟩
set_option maxRecDepth 1000000 in
theorem E0 {g n cap m vb vc:Nat}{c rest x restx:List Value}{fz fx:Nat × Nat}{w:World}(hg:w.heap[g]? = some (.cells (c++rest).toArray 43 fz))(wD:c.length+rest.length<fz.1∨fz.2≤fz.1)(hc:c.length=n * 14)(lg:c.length+rest.length=cap * 14)(sY:cap≤maxLen)
 (hm:0<m) (gn:n+m≤cap) (hv:w.heap[vb]? = some (.cells (x++restx).toArray 43 fx)) (hx:x.length=m * 14) (HR:∀ v∈x,v.oneCell'=true) :
 Calls Tryz.prog 38 #[.slice (some ⟨g,0,none⟩) n cap,.int .i64 n,.slice (some ⟨vb,0,none⟩) m vc] w fun e w'=>e=.returned (.slice (some ⟨g,0,none⟩) (n+m) cap)∧∃ q,w'=(Sort.ahead w q).setRow g ((c++x)++rest.drop (m * 14)).toArray:=by
 have mixed:=Tryz.V.mixed
 obtain⟨i0,z,tx,Bo,fe,xD,oc,-⟩:=iq
 have hu:Tryz.prog.underlying 22=some (.slice 43):=by kernel_rfl
 obtain⟨W1,qP⟩:∃ W1,W1=(Sort.ahead w 0).setRow g ((c++x)++rest.drop (m * 14)).toArray:=⟨_,rfl⟩
 have Br:(storeCells ⟨g,n * 14,none⟩ x).run Tryz.prog w=.ok () W1:=by
  have:=bP (P:=Tryz.prog) g (n * 14) _ fz x 0 _ w hg (by simp;omega) (by omega) HR
  rw[this,qP]
  show Result.ok () (World.setRow _ _ _)=Result.ok () (World.setRow _ _ _)
  congr 2
  simp only[zMJ,zMV]
  rw[← hc,List.take_left,List.drop_append,zMF (by omega),zMK,zMH,hx]
 have bJ:∀ ty,(Builtin.append_ #[22,22] ty #[.slice (some ⟨g,0,none⟩) n cap,.slice (some ⟨vb,0,none⟩) m vc]).run Tryz.prog w=.ok (.slice (some ⟨g,0,none⟩) (n+m) cap) W1:=fun ty =>
  lI w _ _ ty _ i0 hu hu (.inr ⟨_,rfl⟩) tx g n cap m _ x (by simp[Builtin.lenOf]) (run_firstCells_some w _ _ ⟨vb,0,none⟩ _ _ x (by rw[fe];exact hx) (gw hv (fun j v hj=>by
   rw[Nat.zero_add,zMD,zMw (zMo.1 hj).1];exact hj))) gn (by rw[fe];exact Br)
 have hX:Aside (W1=(Sort.ahead w 0).setRow g ((c++x)++rest.drop (m * 14)).toArray):=qP
 have hz1':¬ ((m:Int)=0):=by omega
 have hc63:cap≤9223372036854775807:=by unfold maxLen at sY;exact sY
 clear sY qP Br oc xD fe Bo tx hg hv hc lg HR wD hx
 go_enter Tryz.func38,Tryz.ntmps38
 go_wp2_with (at_builtin;refine gh rfl (iI rfl (by simp[Act.eval,Act.put];exact bJ _)) ?_)
 go_ret
 exact⟨rfl,0,hX.out⟩
set_option maxRecDepth 1000000 in
theorem oD {base:Option Addr}{n cap m vb vc:Nat}{c x restx:List Value}{fx:Nat × Nat}{w:World}(hg:∀ a,base=some a→∀ j v,c[j]? = some v→w.cell? (a.add j)=some v)(hnil:base=none→n=0)(hc:c.length=n * 14)
 (hm:0<m) (hncap:n≤cap) (gn:cap<n+m) (hbig:(n+m) * 500≤140737488355328) (hv:w.heap[vb]? = some (.cells (x++restx).toArray 43 fx)) (hx:x.length=m * 14) :
 Calls Tryz.prog 38 #[.slice base n cap,.int .i64 n,.slice (some ⟨vb,0,none⟩) m vc] w fun e w'=>∃ cap' sp,e=.returned (.slice (some ⟨w.heap.size,0,none⟩) (n+m) cap')∧n+m≤cap'∧cap'≤maxLen∧(n+m) * 14+sp.length=cap' * 14∧w'=w.drew.alloc (.cells ((c++x)++sp).toArray 43):=by
 have mixed:=Tryz.V.mixed
 obtain⟨i0,z,tx,Bo,fe,xD,oc,qn⟩:=iq
 have hu:Tryz.prog.underlying 22=some (.slice 43):=by kernel_rfl
 have Iu:(n+m) * i0.bytes≤140737488355328:=zMI (Nat.mul_le_mul_left _ qn) hbig
 have hold:(Builtin.firstCells i0.size n (.slice base n cap)).run Tryz.prog w.drew=.ok c.toArray w.drew:=by
  rw[fe]
  cases base with
  | none =>
    have h0:=hnil rfl
    subst h0
    rw[List.length_eq_zero_iff.1 (by omega:c.length=0)]
    exact run_firstCells_none w.drew 14 0 0 cap
  | some a=>exact run_firstCells_some w.drew 14 n a n cap c (by omega) (fun j v hj=>hg a rfl j v hj)
 have bJ:∀ ty,(Builtin.append_ #[22,22] ty #[.slice base n cap,.slice (some ⟨vb,0,none⟩) m vc]).run Tryz.prog w=_:=fun ty =>
  pJ w _ _ ty _ i0 z hu hu (.inr ⟨_,rfl⟩) tx Bo base n cap m _ c x (by simp[Builtin.lenOf]) (run_firstCells_some w.drew _ _ ⟨vb,0,none⟩ _ _ x (by rw[fe];exact hx) (gw (w:=w.drew) (show w.drew.heap[vb]? = _ from hv) (fun j v hj=>by
   rw[Nat.zero_add,zMD,zMw (zMo.1 hj).1];exact hj))) hold gn (by unfold maxLen;omega) Iu
 have rC:=grownCap_ge w (n+m) cap 43
 have hle:=grownCap_le_maxLen w (n+m) cap 43 (by unfold maxLen;omega)
 generalize grownCap w (n+m) cap 43=G at bJ rC hle
 obtain⟨W1,qP⟩:∃ W1,W1=w.drew.alloc (.cells ((c++x).toArray++Builtin.zeroCells z.cells (G - (n+m))) 43):=⟨_,rfl⟩
 rw[← qP]at bJ
 have hX:Aside (W1=w.drew.alloc (.cells ((c++x).toArray++Builtin.zeroCells z.cells (G - (n+m))) 43)∧n+m≤G∧G≤maxLen∧z.cells.size=14):=⟨qP,rC,hle,xD⟩
 obtain⟨S,hS⟩:∃ S,S=w.heap.size:=⟨_,rfl⟩
 rw[← hS]at bJ ⊢
 have hz1':¬ ((m:Int)=0):=by omega
 have key:Calls Tryz.prog 38 #[.slice base n cap,.int .i64 n,.slice (some ⟨vb,0,none⟩) m vc] w fun e w'=>e=.returned (.slice (some ⟨S,0,none⟩) (n+m) G)∧w'=W1:=by
  clear qP rC hle hold hS oc xD fe Bo tx qn hg hv hc hx Iu hX
  go_enter Tryz.func38,Tryz.ntmps38
  cases base with
  | none =>
    obtain rfl:=hnil rfl
    go_wp2_with (at_builtin;refine gh rfl (iI rfl (by simp[Act.eval,Act.put];exact bJ _)) ?_)
    go_ret
    exact⟨rfl,rfl⟩
  | some a =>
    obtain⟨ab,ao,asp⟩:=a
    go_wp2_with (at_builtin;refine gh rfl (iI rfl (by simp[Act.eval,Act.put];exact bJ _)) ?_)
    all_goals go_ret
    all_goals exact⟨rfl,rfl⟩
 refine key.mono ?_
 rintro e w' ⟨rfl,rfl⟩
 obtain⟨e1,e2,e3,e4⟩:=hX.out
 exact⟨G,(Builtin.zeroCells z.cells (G - (n+m))).toList,rfl,e2,e3,by rw[zMP,size_zeroCells,e4];omega,by rw[e1];congr 2;simp⟩
set_option maxRecDepth 1000000 in
theorem Cu {g n cap k m vb vc:Nat}{c rest x restx:List Value}{fz fx:Nat × Nat}{w:World}(hg:w.heap[g]? = some (.cells (c++rest).toArray 43 fz))(hc:c.length=n * 14)(hk:k<n)(h1:∀ v∈c,v.oneCell'=true)
 (hm:0<m) (hncap:n≤cap) (gn:cap<n+m) (hbig:(n+m) * 500≤140737488355328) (hv:w.heap[vb]? = some (.cells (x++restx).toArray 43 fx)) (hx:x.length=m * 14) (HR:∀ v∈x,v.oneCell'=true) :
 Calls Tryz.prog 38 #[.slice (some ⟨g,0,none⟩) n cap,.int .i64 k,.slice (some ⟨vb,0,none⟩) m vc] w fun e w'=>∃ cap' sp,e=.returned (.slice (some ⟨w.heap.size,0,none⟩) (n+m) cap')∧n+m≤cap'∧cap'≤maxLen∧(n+m) * 14+sp.length=cap' * 14∧Below w.heap.size w w'∧w'.heap.size=w.heap.size+1∧w'.heap[w.heap.size]? = some (.cells ((c.take (k * 14)++x++c.drop (k * 14))++sp).toArray 43 (0,0)):=by
 have mixed:=Tryz.V.mixed
 obtain⟨i0,z,tx,Bo,fe,xD,oc,qn⟩:=iq
 have hu:Tryz.prog.underlying 22=some (.slice 43):=by kernel_rfl
 have hui:Tryz.prog.underlying 3=some (.int .i64):=by kernel_rfl
 have Iu:(n+m) * i0.bytes≤140737488355328:=zMI (Nat.mul_le_mul_left _ qn) hbig
 have hgS:g<w.heap.size:=(zMW.1 hg).1
 have hvS:vb<w.heap.size:=(zMW.1 hv).1
 have HV:(c.take (k * 14)).length=k * 14:=by rw[zMA,hc];omega
 have qO:(c.drop (k * 14)).length=(n - k) * 14:=by rw[zMB,hc,Nat.sub_mul]
 have hkk:(n:Int)+(m:Int) - (k:Int)=((n+m - k:Nat):Int):=by omega
 have hik:k+(n+m - k)=n+m:=by omega
 have hold:(Builtin.firstCells i0.size k (.slice (some ⟨g,0,none⟩) k cap)).run Tryz.prog w.drew=.ok (c.take (k * 14)).toArray w.drew:=by
  rw[fe]
  exact run_firstCells_some w.drew 14 k ⟨g,0,none⟩ k cap (c.take (k * 14)) HV (gw (w:=w.drew) (show w.drew.heap[g]? = _ from hg) (fun j v hj=>by
   rw[List.getElem?_take]at hj
   split at hj
   ·rw[Nat.zero_add,zMD,zMw (zMo.1 hj).1];exact hj
   ·cases hj))
 have hrz:∀ ty,(Builtin.append_ #[22,3] ty #[.slice (some ⟨g,0,none⟩) k cap,.int .i64 ((n:Int)+(m:Int) - (k:Int))]).run Tryz.prog w=.ok (.slice (some ⟨w.heap.size,0,none⟩) (n+m) (grownCap w (n+m) cap 43)) (w.drew.alloc (.cells ((c.take (k * 14)).toArray++Builtin.zeroCells z.cells (n+m - k)++Builtin.zeroCells z.cells (grownCap w (n+m) cap 43 - (n+m))) 43)):=fun ty=>by
  have h:=Lib.run_append_grow_zeros w 22 3 ty 43 i0 _ .i64 .i64 hu hui tx Bo (some ⟨g,0,none⟩) k cap (c.take (k * 14)) hold (n+m - k) (by omega) (by omega) (by omega) (by omega) (by have:(n+m - k) * i0.bytes≤(n+m) * i0.bytes:=Nat.mul_le_mul_right _ (by omega);omega) (by rw[hik];exact zMI (growslice_fits gn Iu) (by omega))
  rw[hik]at h
  rw[hkk]
  exact h
 have rC:=grownCap_ge w (n+m) cap 43
 have hle:=grownCap_le_maxLen w (n+m) cap 43 (by unfold maxLen;omega)
 generalize grownCap w (n+m) cap 43=G at hrz rC hle
 obtain⟨Z,hZ⟩:∃ Z,Z=(Builtin.zeroCells z.cells (n+m - k)).toList++(Builtin.zeroCells z.cells (G - (n+m))).toList:=⟨_,rfl⟩
 have hZl:Z.length=(G - k) * 14:=by rw[hZ,zMu,zMP,zMP,size_zeroCells,size_zeroCells,xD];omega
 obtain⟨S,hS⟩:∃ S,S=w.heap.size:=⟨_,rfl⟩
 obtain⟨W1,qP⟩:∃ W1,W1=w.drew.alloc (.cells (c.take (k * 14)++Z).toArray 43):=⟨_,rfl⟩
 have hrz1:∀ ty,(Builtin.append_ #[22,3] ty #[.slice (some ⟨g,0,none⟩) k cap,.int .i64 ((n:Int)+(m:Int) - (k:Int))]).run Tryz.prog w=.ok (.slice (some ⟨S,0,none⟩) (n+m) G) W1:=fun ty=>by
  rw[hrz,qP,hZ,hS]
  congr 4
  apply Array.ext'
  simp
 have n1:W1.heap[S]? = some (.cells (c.take (k * 14)++Z).toArray 43 (0,0)):=by
  rw[qP,hS];exact cz w.drew _
 have o1:∀ j,j<S→W1.heap[j]? = w.heap[j]? := fun j hj=>by
  rw[qP];exact Ik w.drew _ (by show j<w.heap.size;omega)
 obtain⟨W2,BL⟩:∃ W2,W2=W1.setRow S (c.take (k * 14)++x++Z.drop (m * 14)).toArray:=⟨_,rfl⟩
 obtain⟨W3,hW3⟩:∃ W3,W3=W2.drew.setRow S ((c.take (k * 14)++x++c.drop (k * 14))++Z.drop ((n+m - k) * 14)).toArray:=⟨_,rfl⟩
 have Bq:(storeCells ⟨S,k * 14,none⟩ x).run Tryz.prog W1=.ok () W2:=by
  have:=bP (P:=Tryz.prog) S (k * 14) _ (0,0) x 0 _ W1 n1 (by simp;omega) (.inr (zMz _)) HR
  rw[this,BL]
  congr 2
  simp only[zMJ,zMV]
  rw[wT HV hx]
 have n2:W2.heap[S]? = some (.cells (c.take (k * 14)++x++Z.drop (m * 14)).toArray 43 (0,0)):=by
  rw[BL];exact setRow_heap _ _ _ _ _ _ n1
 have o2:∀ j,j<S→W2.heap[j]? = w.heap[j]? := fun j hj=>by
  rw[BL,setRow_other _ _ _ _ (by omega)];exact o1 j hj
 have htx:(c.take (k * 14)++x).length=(k+m) * 14:=by rw[zMu,HV,hx];omega
 have hst3:(storeCells ⟨S,(k+m) * 14,none⟩ (c.drop (k * 14))).run Tryz.prog W2.drew=.ok () W3:=by
  have:=bP (P:=Tryz.prog) S ((k+m) * 14) _ (0,0) (c.drop (k * 14)) 0 _ W2.drew n2 (by simp;omega) (.inr (zMz _)) (fun v hv=>h1 v (List.mem_of_mem_drop hv))
  rw[this,hW3]
  congr 2
  simp only[zMJ,zMV]
  rw[wT htx qO,List.drop_drop,show m * 14+(n - k) * 14=(n+m - k) * 14 by omega]
 have n3:W3.heap[S]? = some (.cells ((c.take (k * 14)++x++c.drop (k * 14))++Z.drop ((n+m - k) * 14)).toArray 43 (0,0)):=by
  rw[hW3];exact setRow_heap _ _ _ _ _ _ n2
 have uV:Below w.heap.size w W3:=by
  have sz:W3.heap.size=S+1:=by
   rw[hW3,setRow_size];show W2.heap.size=_
   rw[BL,setRow_size,qP,size_alloc];show w.heap.size+1=_
   omega
  refine⟨?_,?_,?_,by omega,fun j hj=>?_⟩
  ·rw[hW3,setRow_os];show W2.os=_;rw[BL,setRow_os,qP];rfl
  ·rw[hW3,setRow_tape];show W2.tape=_;rw[BL,setRow_tape,qP];rfl
  ·rw[hW3,setRow_output];show W2.output=_;rw[BL,setRow_output,qP];rfl
  ·rw[hW3,setRow_other _ _ _ _ (by omega)];exact o2 j (by omega)
 have sz3:W3.heap.size=S+1:=by
  rw[hW3,setRow_size];show W2.heap.size=_
  rw[BL,setRow_size,qP,size_alloc];show w.heap.size+1=_
  omega
 have hcpA:∀ ty dc,(Builtin.copy_ #[22,22] ty #[.slice (some ⟨S,k * 14,none⟩) (n+m - k) dc,.slice (some ⟨vb,0,none⟩) m vc]).run Tryz.prog W1=.ok (goInt m) W2:=fun ty dc=>by
  have e:Nat.min m (n+m - k)=m:=by simp only[Nat.min_def];split <;> omega
  have:=nP (P:=Tryz.prog) W1 22 22 ty _ i0 hu tx S (k * 14) (n+m - k) dc ⟨vb,0,none⟩ m vc x (by rw[e,fe,hx]) (gw (w:=W1) ((o1 vb (by omega)).trans hv) (fun j v hj=>by
   rw[Nat.zero_add,zMD,zMw (zMo.1 hj).1];exact hj)) Bq
  rw[this,e]
 have hcpB:∀ ty dc sc,(Builtin.copy_ #[22,22] ty #[.slice (some ⟨S,(k+m) * 14,none⟩) (n+m - (k+m)) dc,.slice (some ⟨g,k * 14,none⟩) (n - k) sc]).run Tryz.prog W2.drew=.ok (goInt ((n - k:Nat):Int)) W3:=fun ty dc sc=>by
  have e:Nat.min (n - k) (n+m - (k+m))=n - k:=by simp only[Nat.min_def];split <;> omega
  have:=nP (P:=Tryz.prog) W2.drew 22 22 ty _ i0 hu tx S ((k+m) * 14) (n+m - (k+m)) dc ⟨g,k * 14,none⟩ (n - k) sc (c.drop (k * 14)) (by rw[e,fe,qO]) (gw (w:=W2.drew) ((o2 g (by omega)).trans hg) (fun j v hj=>by
   rw[List.getElem?_drop]at hj
   rw[zMD,zMw (zMo.1 hj).1];exact hj)) hst3
  rw[this,e]
 have gA:IntKind.i64.wrap ((k:Int)+(m:Int))=(k:Int)+(m:Int):=by rw[IntKind.wrap_i64];omega
 have kG:(0:Int)≤(k:Int)+(m:Int):=by omega
 have nz:k≤n:=by omega
 have htn:((k:Int)+(m:Int)).toNat=k+m:=by omega
 have hz1':¬ ((m:Int)=0):=by omega
 have hz2:¬ ((k:Int)=(n:Int)):=by omega
 have hz3:(cap:Int)<(n:Int)+(m:Int):=by omega
 have hG63:G≤9223372036854775807:=by unfold maxLen at hle;exact hle
 have hGi:¬ (G=k):=by omega
 have hGim:¬ (G=k+m):=by omega
 have hci:¬ (cap=k):=by omega
 have hX:Aside (n+m≤G∧G≤maxLen∧Z.length=(G - k) * 14∧Below w.heap.size w W3∧W3.heap.size=S+1∧W3.heap[S]? = some (.cells ((c.take (k * 14)++x++c.drop (k * 14))++Z.drop ((n+m - k) * 14)).toArray 43 (0,0))∧S=w.heap.size):=⟨rC,hle,hZl,uV,sz3,n3,hS⟩
 rw[← hS]
 have key:Calls Tryz.prog 38 #[.slice (some ⟨g,0,none⟩) n cap,.int .i64 k,.slice (some ⟨vb,0,none⟩) m vc] w fun e w'=>e=.returned (.slice (some ⟨S,0,none⟩) (n+m) G)∧w'=W3:=by
  clear hX uV sz3 n3 n2 n1 o1 o2 Bq hst3 qP BL hW3 hrz hS hZ hZl xD fe Bo tx qn oc hold Iu hkk hik HV qO htx hgS hvS hg hv hc h1 hx HR hle
  go_enter Tryz.func38,Tryz.ntmps38
  go_wp2_with (first
   | (at_builtin;refine gh rfl (iI rfl (by simp[Act.eval,Act.put];exact hrz1 _)) ?_)
   | (at_builtin;refine gh rfl (nW rfl (by simp[Act.eval,Act.put];exact hcpA _ _)) ?_))
  go_region_law_o (refine qW rfl (nW rfl (by simp[Act.eval,Act.put];exact hcpB _ _ _)) ?_)
  go_wp2
  go_ret
  exact⟨rfl,rfl⟩
 refine key.mono ?_
 rintro e w' ⟨rfl,rfl⟩
 obtain⟨e1,e2,e3,e4,e5,e6,e7⟩:=hX.out
 exact⟨G,Z.drop ((n+m - k) * 14),rfl,e1,e2,by rw[zMB,e3];omega,by rw[e7];exact e4,e5,e6⟩
open Go Vc Go.RowKit Go.Lib Wf
theorem sc_InsN {bs:List aw}{q p n k:Nat}{c x:List SV}(hq:bs[q]? = some (.own c 43 14 n true))(hp:bs[p]? = some (.own x 43 14 1 true))(hqp:q≠p)(hk:k≤n)(hn:n≤1000000)(h1:c.all one=true)(HR:x.all one=true) :
 SC Tryz.V 38 [.o q n,.int .i64 k,.o p 1] bs (fun r b=>r=.o bs.length (n+1)∧b=bs.set q .gone++[.own (c.take (k * 14)++x++c.drop (k * 14)) 43 14 (n+1) true]):=by
 refine D0 (V:=Tryz.V) (f:=38) Tryz.call38 hq fun β fp w gC hE=>?_
 have hh:=(gC β (bC.refl _ _)).holds q _ hq
 have hhp:=(gC β (bC.refl _ _)).holds p _ hp
 have hsep:=(gC β (bC.refl _ _)).sep q p _ _ hq hp hqp (.inl rfl)
 have eV:=fun β' hβ=>pL (β':=β') gC hβ hq
 have HY:=fun β' hβ=>pL (β':=β') gC hβ hp
 have aC:∀ k,fp q k→k<w.heap.size:=(gC β (bC.refl _ _)).lt q _ hq
 clear gC hE
 rcases hhp with⟨-,h0,-⟩|⟨xc0,xnc,xcm,xcl,-,xm,xfp⟩
 ·exact absurd h0 (by omega)
 obtain⟨xoff,xrest,xfz,⟨xg,-⟩,xfz1,xcap⟩:=xm rfl
 have xl:(x.map (ah β)).length=1 * 14:=by simpa using xcl
 have xo:∀ v∈x.map (ah β),v.oneCell'=true:=fun v hv=>by
  obtain⟨y,hy,rfl⟩:=List.mem_map.1 hv
  exact gm (zMN.1 HR y hy) β
 have co:∀ v∈c.map (ah β),v.oneCell'=true:=fun v hv=>by
  obtain⟨y,hy,rfl⟩:=List.mem_map.1 hv
  exact gm (zMN.1 h1 y hy) β
 have xfz2:(x.map (ah β)).length+xrest.length<xfz.1∨xfz.2≤xfz.1:=by simp;simp at xfz1;omega
 have xarg:ah β (.o p 1)=.slice (some ⟨(β p).cK,0,none⟩) 1 ((β p).cap - 1):=by simp[ah,oV,xc0,xoff]
 -- the new row's cells, wherever things lie
 have uU:∀ (b:Bt) (β':Nat→Bt),bC (bs.length+1) (nO β bs.length b) β'→(c.take (k * 14)++x++c.drop (k * 14)).map (ah β')=(c.map (ah β)).take (k * 14)++x.map (ah β)++(c.map (ah β)).drop (k * 14):=fun b β' hβ=>by
  rw[eV β' hβ.dz,HY β' hβ.dz];simp
 -- a new row
 have gX:c.length=n * 14→∀ (cap':Nat) (sp:List Value) (w':World),n+1≤cap'→cap'≤maxLen→(n+1) * 14+sp.length=cap' * 14→Below w.heap.size w w'→w'.heap.size=w.heap.size+1→w'.heap[w.heap.size]? = some (.cells (((c.map (ah β)).take (k * 14)++x.map (ah β)++(c.map (ah β)).drop (k * 14))++sp).toArray 43 (0,0)) →
  ∃ (b2:Bt) (f2:Nat→Prop),(Value.slice (some ⟨w.heap.size,0,none⟩) (n+1) cap')=oV b2 (n+1)∧mJ (fp q) w w' ∧
  (∀ β',bC (bs.length+1) (nO β bs.length b2) β'→Vc.Holds β' b2 f2 w' (.own (c.take (k * 14)++x++c.drop (k * 14)) 43 14 (n+1) true))∧∀ k,f2 k→(fp q k∨w.heap.size≤k)∧k<w'.heap.size:=fun eg cap' sp w' h1 h2 h3 h4 h5 h6=>by
  have gW:(c.take (k * 14)++x++c.drop (k * 14)).length=(n+1) * 14:=by
   rw[zMu,zMu,zMA,zMB,eg,xcl];omega
  refine⟨⟨w.heap.size,0,cap'+1⟩,(·=w.heap.size),by simp[oV],mJ.jA h4,fun β' hβ=>?_,?_⟩
  ·exact dY (rest:=sp) (fz:=(0,0)) (by rw[h6,uU _ β' hβ]) (.inr (.inl (zMz _))) gW h1 h2 (by rw[gW];exact h3)
  ·rintro k rfl
   exact⟨.inr (zMz _),by omega⟩
 have hN:(aJ β [.o q n,.int .i64 k,.o p 1]).toArray=#[ah β (.o q n),.int .i64 k,.slice (some ⟨(β p).cK,0,none⟩) 1 ((β p).cap - 1)]:=by
  simp only[aJ,xarg];simp[ah]
 rw[hN]
 rcases hh with⟨fG,rfl,rfl,hnf,hbk⟩|⟨fG,hnc,sY,eg,hli,hm,rD⟩
 ·
  obtain rfl:k=0:=by omega
  have fB:=hbk rfl
  have e0:ah β (.o q 0)=.slice none 0 0:=by simp[ah,oV,fG,mA,fB]
  rw[e0]
  have hx:=oD (base:=none) (n:=0) (cap:=0) (m:=1) (vb:=(β p).cK) (vc:=(β p).cap - 1) (c:=[]) (x:=x.map (ah β)) (by simp) (fun _=>rfl) rfl (by omega) (by omega) (by omega) (by omega) xg xl
  refine hx.mono ?_
  rintro ex w' ⟨cap',sp,rfl,g1,g2,g3,rfl⟩
  obtain⟨b2,f2,r1,r2,r3,r4⟩:=gX rfl cap' sp (w.drew.alloc (.cells (([]++x.map (ah β))++sp).toArray 43)) g1 g2 g3 (((Below.refl _ _).drew).alloc (zMz _) _) (by rw[size_alloc];rfl) (by
   have:=cz w.drew (.cells (([]++x.map (ah β))++sp).toArray 43)
   simpa using this)
  exact⟨b2,f2,by rw[← r1],r2,r3,r4⟩
 obtain⟨By,rest,fz,⟨hg,-⟩,wD,lg⟩:=hm rfl
 have e0:ah β (.o q n)=.slice (some ⟨(β q).cK,0,none⟩) n ((β q).cap - 1):=by simp[ah,oV,fG,By]
 rw[e0]
 have hlen:(c.map (ah β)).length=n * 14:=by simpa using eg
 have Ez:(c.map (ah β)).length+rest.length=((β q).cap - 1) * 14:=by rw[hlen,← eg];exact lg
 have hfz2:(c.map (ah β)).length+rest.length<fz.1∨fz.2≤fz.1:=by simp;simp at wD;omega
 have bp:(β p).cK≠(β q).cK:=fun e=>hsep (β q).cK ((rD _).2 rfl) ((xfp _).2 e.symm)
 have gW:(c.take (k * 14)++x++c.drop (k * 14)).length=(n+1) * 14:=by
  rw[zMu,zMu,zMA,zMB,eg,xcl];omega
 -- in place
 have nz:n+1≤(β q).cap - 1→∀ (qq:Nat),∃ (b2:Bt) (f2:Nat→Prop),(Value.slice (some ⟨(β q).cK,0,none⟩) (n+1) ((β q).cap - 1))=oV b2 (n+1)∧mJ (fp q) w ((Sort.ahead w qq).setRow (β q).cK (((c.map (ah β)).take (k * 14)++x.map (ah β)++(c.map (ah β)).drop (k * 14))++rest.drop (1 * 14)).toArray) ∧
  (∀ β',bC (bs.length+1) (nO β bs.length b2) β'→Vc.Holds β' b2 f2 ((Sort.ahead w qq).setRow (β q).cK (((c.map (ah β)).take (k * 14)++x.map (ah β)++(c.map (ah β)).drop (k * 14))++rest.drop (1 * 14)).toArray) (.own (c.take (k * 14)++x++c.drop (k * 14)) 43 14 (n+1) true))∧∀ k',f2 k'→(fp q k'∨w.heap.size≤k')∧k'<((Sort.ahead w qq).setRow (β q).cK (((c.map (ah β)).take (k * 14)++x.map (ah β)++(c.map (ah β)).drop (k * 14))++rest.drop (1 * 14)).toArray).heap.size:=fun gn qq=>by
  refine⟨⟨(β q).cK,0,(β q).cap - 1+1⟩,(·=(β q).cK),by simp[oV],⟨rfl,rfl,rfl,by simp,fun k hk iT=>?_⟩,fun β' hβ=>?_,?_⟩
  ·rw[setRow_other _ _ _ _ (fun e=>iT ((rD k).2 e))];rfl
  ·refine dY (rest:=rest.drop (1 * 14)) (fz:=fz) ?_ ?_ gW gn sY ?_
   ·rw[setRow_heap _ _ _ _ _ _ (show (Sort.ahead w qq).heap[(β q).cK]? = _ from hg),uU _ β' hβ]
   ·rw[gW,zMB];rw[hlen]at Ez hfz2;omega
   ·rw[gW,zMB];rw[hlen]at Ez;omega
  ·rintro k rfl
   have:=aC _ ((rD _).2 rfl)
   exact⟨.inl ((rD _).2 rfl),by simpa using this⟩
 by_cases Gp:k=n
 ·subst Gp
  have et:(c.map (ah β)).take (k * 14)=c.map (ah β):=zMy (by omega)
  have ed:(c.map (ah β)).drop (k * 14)=[]:=zMF (by omega)
  by_cases gn:k+1≤(β q).cap - 1
  ·have hx:=E0 (m:=1) (vc:=(β p).cap - 1) hg hfz2 hlen Ez sY (by omega) gn xg xl xo
   refine hx.mono ?_
   rintro ex w' ⟨rfl,qq,rfl⟩
   obtain⟨b2,f2,r1,r2,r3,r4⟩:=nz gn qq
   rw[et,ed,zMp]at r2 r3 r4
   exact⟨b2,f2,by rw[← r1],r2,r3,r4⟩
  ·have hx:=oD (base:=some ⟨(β q).cK,0,none⟩) (n:=k) (cap:=(β q).cap - 1) (m:=1) (vc:=(β p).cap - 1) (c:=c.map (ah β)) (x:=x.map (ah β)) (fun a ha=>by
    cases ha
    exact gw hg (fun j v hj=>by
     rw[Nat.zero_add,zMD,zMw (zMo.1 hj).1];exact hj)) (by simp) hlen (by omega) hnc (by omega) (by omega) xg xl
   refine hx.mono ?_
   rintro ex w' ⟨cap',sp,rfl,g1,g2,g3,rfl⟩
   obtain⟨b2,f2,r1,r2,r3,r4⟩:=gX eg cap' sp (w.drew.alloc (.cells ((c.map (ah β)++x.map (ah β))++sp).toArray 43)) g1 g2 g3 (((Below.refl _ _).drew).alloc (zMz _) _) (by rw[size_alloc];rfl) (by
    rw[et,ed,zMp]
    exact cz w.drew _)
   exact⟨b2,f2,by rw[← r1],r2,r3,r4⟩
 ·have Dx:k<n:=by omega
  by_cases gn:n+1≤(β q).cap - 1
  ·have hx:=zF (m:=1) (vc:=(β p).cap - 1) hg hfz2 hlen Ez Dx co sY (by omega) gn xg xfz2 xl bp xo
   refine hx.mono ?_
   rintro ex w' ⟨rfl,qq,rfl⟩
   obtain⟨b2,f2,r1,r2,r3,r4⟩:=nz gn qq
   exact⟨b2,f2,by rw[← r1],r2,r3,r4⟩
  ·have hx:=Cu (m:=1) (vc:=(β p).cap - 1) hg hlen Dx co (by omega) hnc (by omega) (by omega) xg xl xo
   refine hx.mono ?_
   rintro ex w' ⟨cap',sp,rfl,g1,g2,g3,g4,g5,g6⟩
   obtain⟨b2,f2,r1,r2,r3,r4⟩:=gX eg cap' sp w' g1 g2 g3 g4 g5 g6
   exact⟨b2,f2,by rw[← r1],r2,r3,r4⟩
theorem Fh {bs:List aw}{p:Nat}{x:List SV}(hp:bs[p]? = some (.own x 43 14 1 true))(HR:x.all one=true) :
 SC Tryz.V 38 [.aI,.int .i64 0,.o p 1] bs (fun r b=>r=.o bs.length 1∧b=bs++[.own x 43 14 1 true]):=by
 refine DZ (V:=Tryz.V) (f:=38) Tryz.call38 fun β fp w gC hE=>?_
 have hhp:=(gC β (bC.refl _ _)).holds p _ hp
 have HY:=fun β' hβ=>pL (β':=β') gC hβ hp
 clear gC hE
 rcases hhp with⟨-,h0,-⟩|⟨xc0,xnc,xcm,xcl,-,xm,xfp⟩
 ·exact absurd h0 (by omega)
 obtain⟨xoff,xrest,xfz,⟨xg,-⟩,xfz1,xcap⟩:=xm rfl
 have xl:(x.map (ah β)).length=1 * 14:=by simpa using xcl
 have xarg:ah β (.o p 1)=.slice (some ⟨(β p).cK,0,none⟩) 1 ((β p).cap - 1):=by simp[ah,oV,xc0,xoff]
 have hN:(aJ β [.aI,.int .i64 0,.o p 1]).toArray=#[.slice none 0 0,.int .i64 (0:Nat),.slice (some ⟨(β p).cK,0,none⟩) 1 ((β p).cap - 1)]:=by
  simp only[aJ,xarg];simp[ah]
 rw[hN]
 have hx:=oD (base:=none) (n:=0) (cap:=0) (m:=1) (vb:=(β p).cK) (vc:=(β p).cap - 1) (c:=[]) (x:=x.map (ah β)) (by simp) (fun _=>rfl) rfl (by omega) (by omega) (by omega) (by omega) xg xl
 refine hx.mono ?_
 rintro ex w' ⟨cap',sp,rfl,g1,g2,g3,rfl⟩
 refine⟨⟨w.heap.size,0,cap'+1⟩,(·=w.heap.size),by simp[oV],((Below.refl _ _).drew).alloc (zMz _) _,fun β' hβ=>?_,?_⟩
 ·refine dY (rest:=sp) (fz:=(0,0)) ?_ (.inr (.inl (zMz _))) xcl g1 g2 (by rw[xcl];exact g3)
  rw[← HY β' hβ.dz]
  exact cz w.drew _
 ·rintro k rfl
  exact⟨zMz _,by rw[size_alloc];exact Nat.lt_succ_self _⟩
end Go.Proofs.YteipdaijbncgeaaGreatDoor
namespace Vc
open Go Go.RowKit Wf
def SU (V:Cx)(f:FuncId)(args:List SV)(bs:List aw)(R:SV→List aw→Prop):Prop:=∃ x b,R x b∧SC V f args bs (fun r b'=>r=x∧b'=b)
section
variable {V:Cx} {f:FuncId} {args:List SV} {bs:List aw} {R R':SV→List aw→Prop}
theorem SU.sc (h:SU V f args bs R):SC V f args bs R:=by
 obtain⟨x,b,hR,h⟩:=h
 exact h.mono (by rintro _ _ ⟨rfl,rfl⟩;exact hR)
theorem SU.mono (h:SU V f args bs R)(k:∀ x b,R x b→R' x b):SU V f args bs R':=by
 obtain⟨x,b,hR,h⟩:=h
 exact⟨x,b,k x b hR,h⟩
theorem SU.of {x:SV}{b:List aw}(h:SC V f args bs (fun r b'=>r=x∧b'=b))(k:R x b):SU V f args bs R:=⟨x,b,k,h⟩
end
inductive kj where
 | eO (ops:Array Oper) (l:List Oper) (rs:List Rk)
 | code (c:Code)
 | ops (ops:Array Oper) (l:List Oper)
 | lp (id:Nat)
 | dl (I:St→Prop) (μ:St→Nat) (m:Nat) (P:SV × List aw→St→Prop)
def base:List kj→List Item
 | []=>[]
 | .eO ops l rs::k=>.eO ops l rs::base k
 | .code c::k=>.code c::base k
 | .ops ops l::k=>.ops ops l::base k
 | .lp id::k=>.lp id::base k
 | .dl I μ m _::k=>.kD I μ m::base k
def inst (o:SV × List aw):List kj→List Item
 | []=>[]
 | .eO ops l rs::k=>.eO ops l rs::inst o k
 | .code c::k=>.code c::inst o k
 | .ops ops l::k=>.ops ops l::inst o k
 | .lp id::k=>.lp id::inst o k
 | .dl _ μ m P::k=>.kD (P o) μ m::inst o k
def okI (E:Fin)(D:List kj):Prop:=∀ I μ m P,kj.dl I μ m P∈D→∀ σ,I σ→μ σ<m→∃ o:SV × List aw,E.K o.1 o.2∧P o σ
def Eo (E:Fin)(o:SV × List aw):Fin:=⟨E.rs,fun r b=>r=o.1∧b=o.2,E.Ev,E.uni⟩
inductive Ck:List Item→List Item→Prop where
 | nil:Ck [] []
 | same (i:Item) {k k':List Item} (h:Ck k k'):Ck (i::k) (i::k')
 | kD {I I':St→Prop} (μ:St→Nat) (m:Nat) {k k':List Item} (hI:∀ σ,I σ→I' σ) (h:Ck k k'):Ck (.kD I μ m::k) (.kD I' μ m::k')
theorem Ck.refl:∀ k,Ck k k
 | []=>.nil
 | i::k=>.same i (Ck.refl k)
theorem Ck.exit {id:Nat}:∀ {k k' q:List Item},Ck k k'→XE id k=some q→∃ q',XE id k'=some q'∧Ck q q'
 | _,_,q,.nil,h=>by simp[XE]at h
 | _,_,q,.same i h,e=>by
   cases i
   case lp id' =>
    simp only[XE]at e ⊢
    split at e
    ·cases e
     rename_i hh
     rw[if_pos hh]
     exact⟨_,rfl,h⟩
    ·rename_i hh
     rw[if_neg hh]
     exact Ck.exit h e
   all_goals
    simp only[XE]at e ⊢
    exact Ck.exit h e
 | _,_,q,.kD μ m hI h,e=>by
   simp only[XE]at e ⊢
   exact Ck.exit h e
section
variable {V:Cx} {n:Nat}
theorem xW {E:Fin}{f:Nat}{ops:Array Oper}{r:List Oper}{k k':List Item}(H:∀ σ,bw V n E f (.ops ops r::k) σ→bw V n E f (.ops ops r::k') σ){s:fA}(h:Yc V n E f ops r k s):Yc V n E f ops r k' s:=by
 cases s <;> simp only[Yc]at h ⊢
 ·exact⟨h.1,H _ h.2⟩
 ·unfold lu at h ⊢
  rcases h with⟨x,h1,h2⟩|⟨R,h1,h3,h2⟩
  ·exact .inl ⟨x,h1,H _ h2⟩
  ·exact .inr ⟨R,h1,h3,fun x b hR=>H _ (h2 x b hR)⟩
theorem xY {E:Fin}{f:Nat}{ops:Array Oper}{r:List Oper}{rs:List Rk}{k k':List Item}(H:∀ rs σ,bw V n E f (.eO ops r rs::k) σ→bw V n E f (.eO ops r rs::k') σ){dst:Option Tmp}{σ:St}{s:iM}(h:Yg V n E f ops r rs k dst σ s):Yg V n E f ops r rs k' dst σ s:=by
 cases s with
 | bad=>simp only[Yg]at h
 | val c r =>
   obtain⟨x,nb,all,rd,wr⟩:=r
   cases nb <;> simp only[Yg]at h ⊢ <;> exact⟨h.1,H _ _ h.2⟩
 | call g args =>
   simp only[Yg]at h ⊢
   unfold lv at h ⊢
   rcases h with⟨x,h1,h2⟩|⟨x,b,h1,h2⟩|⟨x,b,W,h1,h2,h3⟩
   ·exact .inl ⟨x,h1,H _ _ h2⟩
   ·exact .inr (.inl ⟨x,b,h1,H _ _ h2⟩)
   ·exact .inr (.inr ⟨x,b,W,h1,h2,H _ _ h3⟩)
theorem qQ {E:Fin}:∀ (f:Nat){k k':List Item}{σ:St},E.uni=true→Ck k k'→(∀ i∈k,(∃ J,i=.cut J)∨(∃ a b c,i=.fM a b c)→False)→bw V n E f k σ→bw V n E f k' σ
 | 0,k,k',σ,_,_,_,h=>by cases k <;> simp[bw]at h
 | f+1,_,_,σ,_,.nil,_,h=>h
 | f+1,_,_,σ,_,.kD μ m hI hk,_,h=>by
   simp only[bw]at h ⊢
   exact⟨hI _ h.1,h.2⟩
 | f+1,_,_,σ,hu,.same (k:=k) (k':=k') i hk,iT,h=>by
   have hno':∀ i∈k,(∃ J,i=.cut J)∨(∃ a b c,i=.fM a b c)→False:=fun i hi=>iT i (zME _ hi)
   have H0:∀ σ,bw V n E f k σ→bw V n E f k' σ:=fun σ h=>qQ f hu hk hno' h
   have H1:∀ i σ,((∃ J,i=.cut J)∨(∃ a b c,i=.fM a b c)→False)→bw V n E f (i::k) σ→bw V n E f (i::k') σ:=fun i σ hi h=>qQ f hu (.same i hk) (by
    intro j hj
    rcases zMM.1 hj with rfl|hj
    ·exact hi
    ·exact hno' j hj) h
   have H2:∀ i j σ,((∃ J,i=.cut J)∨(∃ a b c,i=.fM a b c)→False)→((∃ J,j=.cut J)∨(∃ a b c,j=.fM a b c)→False)→bw V n E f (i::j::k) σ→bw V n E f (i::j::k') σ:=fun i j σ hi hj h=>qQ f hu (.same i (.same j hk)) (by
    intro q hq
    rcases zMM.1 hq with rfl|hq
    ·exact hi
    ·rcases zMM.1 hq with rfl|hq
     ·exact hj
     ·exact hno' q hq) h
   cases i with
   | fM a b c=>exact(iT _ List.mem_cons_self (.inr ⟨a,b,c,rfl⟩)).elim
   | cut J=>exact(iT _ List.mem_cons_self (.inl ⟨J,rfl⟩)).elim
   | lp id=>simp only[bw]at h ⊢;exact H0 _ h
   | kD I μ m=>simp only[bw]at h ⊢;exact h
   | ops ops l =>
     match l with
     | []=>simp only[bw]at h ⊢;exact H0 _ h
     | ⟨dst,op,ty,pos,after,none⟩::r =>
       simp only[bw]at h ⊢
       exact⟨h.1,xW (fun σ h=>H1 _ _ (by rintro(⟨_,h⟩|⟨_,_,_,h⟩) <;> cases h) h) h.2⟩
     | ⟨dst,op,ty,pos,after,some (j,want)⟩::r =>
       simp only[bw]at h ⊢
       refine⟨h.1,?_⟩
       have h:=h.2
       have HC:∀ σ,bw V n E f (.ops ops r::k) σ→bw V n E f (.ops ops r::k') σ:=fun σ h=>H1 _ _ (by rintro(⟨_,h⟩|⟨_,_,_,h⟩) <;> cases h) h
       cases hg:Yk σ.t (eW ops.toList j) with
       | some p =>
         obtain⟨d,b⟩:=p
         rw[hg]at h
         simp only[XA,XG]at h ⊢
         exact⟨h.1,fun e=>xW HC (h.2.1 e),fun e=>HC _ (h.2.2 e)⟩
       | none =>
         rw[hg]at h
         cases Ih:ED σ.t (eW ops.toList j) with
         | true=>rw[Ih]at h;simp only[XA]at h ⊢;exact HC _ h
         | false=>rw[Ih]at h;simp[XA]at h
   | eO ops l rs =>
     match l with
     | []=>simp only[bw]at h ⊢;exact⟨h.1,H0 _ h.2⟩
     | ⟨dst,op,ty,pos,after,none⟩::r =>
       simp only[bw]at h ⊢
       exact⟨h.1,xY (fun rs σ h=>H1 _ _ (by rintro(⟨_,h⟩|⟨_,_,_,h⟩) <;> cases h) h) h.2⟩
     | ⟨dst,op,ty,pos,after,some (j,want)⟩::r =>
       simp only[bw]at h ⊢
       refine⟨h.1,?_⟩
       have h:=h.2
       have HC:∀ rs σ,bw V n E f (.eO ops r rs::k) σ→bw V n E f (.eO ops r rs::k') σ:=fun rs σ h=>H1 _ _ (by rintro(⟨_,h⟩|⟨_,_,_,h⟩) <;> cases h) h
       cases hg:Yk σ.t (eW ops.toList j) with
       | some p =>
         obtain⟨d,b⟩:=p
         rw[hg]at h
         simp only[Xy,XG]at h ⊢
         exact⟨h.1,fun e=>xY HC (h.2.1 e),fun e=>HC _ _ (h.2.2 e)⟩
       | none =>
         rw[hg]at h
         cases Ih:ED σ.t (eW ops.toList j) with
         | true=>rw[Ih]at h;simp only[Xy]at h ⊢;exact HC _ _ h
         | false=>rw[Ih]at h;simp[Xy]at h
   | code c =>
     have nc:∀ c:Code,((∃ J,Item.code c=.cut J)∨(∃ a b d,Item.code c=.fM a b d)→False):=by
      rintro c (⟨_,h⟩|⟨_,_,_,h⟩) <;> cases h
     cases c with
     | skip=>simp only[bw]at h ⊢;exact H0 _ h
     | region id ops draw =>
       cases draw
       ·simp only[bw]at h ⊢
        exact H1 _ _ (by rintro(⟨_,h⟩|⟨_,_,_,h⟩) <;> cases h) h
       ·simp only[bw]at h ⊢
        cases hw:E.Ev id with
        | all t=>rw[hw]at h;simp only[yr,hu]at h;exact absurd h.1 (by simp)
        | ord p =>
          rw[hw]at h
          simp only[yr]at h ⊢
          exact⟨h.1,H1 _ _ (by rintro(⟨_,h⟩|⟨_,_,_,h⟩) <;> cases h) h.2⟩
     | seq x y=>simp only[bw]at h ⊢;exact H2 _ _ _ (nc _) (nc _) h
     | cond c x y =>
       simp only[bw]at h ⊢
       cases hb:ev σ.t c with
       | none=>rw[hb]at h;simp[XN]at h
       | some v =>
         rw[hb]at h
         cases v <;> simp only[XN,XQ]at h ⊢
         exact⟨fun e=>H1 _ _ (nc _) (h.1 e),fun e=>H1 _ _ (nc _) (h.2 e)⟩
     | block id x=>simp only[bw]at h ⊢;exact H2 _ _ _ (nc _) (by rintro(⟨_,h⟩ | ⟨_,_,_,h⟩) <;> cases h) h
     | loop x =>
       simp only[bw,uy]at h ⊢
       obtain⟨I,μ,h0,h1⟩:=h
       exact⟨I,μ,h0,fun σ' hi=>H2 _ _ _ (nc _) (by rintro(⟨_,h⟩|⟨_,_,_,h⟩) <;> cases h) (h1 σ' hi)⟩
     | exit id =>
       simp only[bw]at h ⊢
       cases hx:XE id k with
       | none=>rw[hx]at h;simp[XO]at h
       | some q =>
         obtain⟨q',hq,hle⟩:=hk.exit hx
         rw[hx]at h
         rw[hq]
         simp only[XO]at h ⊢
         refine qQ f hu hle (fun i hi=>hno' i ?_) h
         exact vd hx i hi
     | ret=>simp only[bw]at h ⊢;exact h
     | _=>simp[bw]at h
where vd {id:Nat}:∀ {k q:List Item},XE id k=some q→∀ i∈q,i∈k
 | [],_,h=>by simp[XE]at h
 | i::k,q,h=>by
   cases i
   case lp id' =>
    simp only[XE]at h
    split at h
    ·cases h;exact fun i hi=>zME _ hi
    ·exact fun i hi=>zME _ (vd h i hi)
   all_goals
    simp only[XE]at h
    exact fun i hi=>zME _ (vd h i hi)
theorem okI.cons {E:Fin}{D:List kj}(h:okI E D)(i:kj)(hi:∀ I μ m P,i≠.dl I μ m P):okI E (i::D):=fun I μ m P hm=>by
 rcases zMM.1 hm with e|hm
 ·exact absurd e.symm (hi _ _ _ _)
 ·exact h I μ m P hm
theorem okI.tail {E:Fin}{D:List kj}{i:kj}(h:okI E (i::D)):okI E D:=fun I μ m P hm=>h I μ m P (zME _ hm)
theorem Ei (o:SV × List aw):∀ (D:List kj),∀ i∈inst o D,(∃ J,i=Item.cut J)∨(∃ a b c,i=.fM a b c)→False
 | [],i,h=>by simp[inst]at h
 | d::D,i,h=>by
   cases d <;> simp only[inst]at h <;> (
    rcases zMM.1 h with e0|h0
    ·subst e0
     rintro(⟨_,e⟩|⟨_,_,_,e⟩) <;> cases e
    ·exact Ei o D i h0)
theorem rM {id:Nat}:∀ {D:List kj}{q:List Item},XE id (base D)=some q→∃ D',q=base D'∧(∀ o,XE id (inst o D)=some (inst o D'))∧∀ i∈D',i∈D
 | [],_,h=>by simp[base,XE]at h
 | d::D,q,h=>by
   cases d
   case lp id' =>
    simp only[base,XE]at h
    split at h
    ·rename_i hh
     cases h
     exact⟨D,rfl,fun o=>by simp[inst,XE,hh],fun i hi=>zME _ hi⟩
    ·rename_i hh
     obtain⟨D',h1,h2,h3⟩:=rM h
     exact⟨D',h1,fun o=>by simp only[inst,XE,if_neg hh];exact h2 o,fun i hi=>zME _ (h3 i hi)⟩
   all_goals
    simp only[base,XE]at h
    obtain⟨D',h1,h2,h3⟩:=rM h
    exact⟨D',h1,fun o=>by simp only[inst,XE];exact h2 o,fun i hi=>zME _ (h3 i hi)⟩
def Ge (V:Cx)(n:Nat)(E:Fin)(f:Nat)(D:List kj)(σ:St):Prop:=∃ o:SV × List aw,E.K o.1 o.2∧bw V n (Eo E o) f (inst o D) σ
theorem xV {E:Fin}(hu:E.uni=true){f:Nat}{ops:Array Oper}{r:List Oper}{D:List kj}(H:∀ σ,bw V n E f (.ops ops r::base D) σ→Ge V n E f (.ops ops r::D) σ){s:fA}(h:Yc V n E f ops r (base D) s) :
 ∃ o:SV × List aw,E.K o.1 o.2∧Yc V n (Eo E o) f ops r (inst o D) s:=by
 cases s <;> simp only[Yc]at h ⊢
 ·obtain⟨o,h1,h2⟩:=H _ h.2
  exact⟨o,h1,h.1,h2⟩
 ·unfold lu at h
  rcases h with⟨x,h1,h2⟩|⟨R,h1,h3,h2⟩
  ·obtain⟨o,k1,k2⟩:=H _ h2
   exact⟨o,k1,by unfold lu;exact .inl ⟨x,h1,k2⟩⟩
  ·obtain⟨x,b,hR,h4⟩:=h3 hu
   obtain⟨o,k1,k2⟩:=H _ (h2 x b hR)
   exact⟨o,k1,by unfold lu;exact .inr ⟨_,h4,fun _=>⟨x,b,⟨rfl,rfl⟩,h4⟩,by rintro _ _ ⟨rfl,rfl⟩;exact k2⟩⟩
theorem xX {E:Fin}{f:Nat}{ops:Array Oper}{r:List Oper}{rs:List Rk}{D:List kj}(H:∀ rs σ,bw V n E f (.eO ops r rs::base D) σ→Ge V n E f (.eO ops r rs::D) σ){dst:Option Tmp}{σ:St}{s:iM}(h:Yg V n E f ops r rs (base D) dst σ s) :
 ∃ o:SV × List aw,E.K o.1 o.2∧Yg V n (Eo E o) f ops r rs (inst o D) dst σ s:=by
 cases s with
 | bad=>simp only[Yg]at h
 | val c r =>
   obtain⟨x,nb,all,rd,wr⟩:=r
   cases nb <;> simp only[Yg]at h ⊢ <;> obtain⟨o,k1,k2⟩:=H _ _ h.2 <;> exact⟨o,k1,h.1,k2⟩
 | call g args =>
   simp only[Yg]at h ⊢
   unfold lv at h
   rcases h with⟨x,h1,h2⟩|⟨x,b,h1,h2⟩|⟨x,b,W,h1,h2,h3⟩
   ·obtain⟨o,k1,k2⟩:=H _ _ h2
    exact⟨o,k1,by unfold lv;exact .inl ⟨x,h1,k2⟩⟩
   ·obtain⟨o,k1,k2⟩:=H _ _ h2
    exact⟨o,k1,by unfold lv;exact .inr (.inl ⟨x,b,h1,k2⟩)⟩
   ·obtain⟨o,k1,k2⟩:=H _ _ h3
    exact⟨o,k1,by unfold lv;exact .inr (.inr ⟨x,b,W,h1,h2,k2⟩)⟩
theorem Gw {E:Fin}(hu:E.uni=true):∀ (f:Nat)(D:List kj)(σ:St),okI E D→bw V n E f (base D) σ→Ge V n E f D σ
 | 0,D,σ,_,h=>by cases hD:base D <;> rw[hD]at h <;> simp[bw]at h
 | f+1,D,σ,bN,h=>by
   have ih:=Gw hu f
   match D,bN,h with
   | [],bN,h =>
     simp only[base,bw]at h
     cases hl:XT V σ E.rs with
     | none=>rw[hl]at h;simp[vf]at h
     | some l =>
       rw[hl]at h
       refine⟨(qV l,σ.b),h,?_⟩
       simp only[inst,bw,Eo,hl,vf]
       first|exact⟨rfl,rfl⟩|exact⟨trivial,trivial⟩
   | .lp id::D,bN,h =>
     simp only[base,bw]at h
     obtain⟨o,k1,k2⟩:=ih D σ bN.tail h
     exact⟨o,k1,by simp only[inst,bw];exact k2⟩
   | .dl I μ m P::D,bN,h =>
     simp only[base,bw]at h
     obtain⟨o,k1,k2⟩:=bN I μ m P List.mem_cons_self σ h.1 h.2
     exact⟨o,k1,by simp only[inst,bw];exact⟨k2,h.2⟩⟩
   | .ops ops l::D,bN,h =>
     have ql:=bN.tail
     have HC:∀ r σ,bw V n E f (.ops ops r::base D) σ→Ge V n E f (.ops ops r::D) σ:=fun r σ h=>ih (.ops ops r::D) σ (ql.cons _ (by intros;intro e;cases e)) h
     match l with
     | [] =>
       simp only[base,bw]at h
       obtain⟨o,k1,k2⟩:=ih D σ ql h
       exact⟨o,k1,by simp only[inst,bw];exact k2⟩
     | ⟨dst,op,ty,pos,after,none⟩::r =>
       simp only[base,bw]at h
       obtain⟨o,k1,k2⟩:=xV hu (HC r) h.2
       exact⟨o,k1,by simp only[inst,bw];exact⟨h.1,k2⟩⟩
     | ⟨dst,op,ty,pos,after,some (j,want)⟩::r =>
       simp only[base,bw]at h
       have bU:=h.1
       have h:=h.2
       suffices hs:∃ o:SV × List aw,E.K o.1 o.2∧XA V n (Eo E o) f ops dst op want r (inst o D) σ (Yk σ.t (eW ops.toList j)) (ED σ.t (eW ops.toList j)) by
        obtain⟨o,k1,k2⟩:=hs
        exact⟨o,k1,by simp only[inst,bw];exact⟨bU,k2⟩⟩
       cases hg:Yk σ.t (eW ops.toList j) with
       | some p =>
         obtain⟨d,b⟩:=p
         rw[hg]at h
         simp only[XA,XG]at h ⊢
         by_cases hb:b=want
         ·obtain⟨o,k1,k2⟩:=xV hu (HC r) (h.2.1 hb)
          exact⟨o,k1,h.1,fun _=>k2,fun e=>by rw[hb]at e;cases want <;> cases e⟩
         ·have hb':b=!want:=by cases b <;> cases want <;> simp at hb ⊢
          obtain⟨o,k1,k2⟩:=HC r _ (h.2.2 hb')
          exact⟨o,k1,h.1,fun e=>absurd e hb,fun _=>k2⟩
       | none =>
         rw[hg]at h
         cases Ih:ED σ.t (eW ops.toList j) with
         | true=>rw[Ih]at h;simp only[XA]at h ⊢;exact HC r _ h
         | false=>rw[Ih]at h;simp[XA]at h
   | .eO ops l rs::D,bN,h =>
     have ql:=bN.tail
     have HC:∀ r rs σ,bw V n E f (.eO ops r rs::base D) σ→Ge V n E f (.eO ops r rs::D) σ:=fun r rs σ h=>ih (.eO ops r rs::D) σ (ql.cons _ (by intros;intro e;cases e)) h
     match l with
     | [] =>
       simp only[base,bw]at h
       obtain⟨o,k1,k2⟩:=ih D σ ql h.2
       exact⟨o,k1,by simp only[inst,bw];exact⟨h.1,k2⟩⟩
     | ⟨dst,op,ty,pos,after,none⟩::r =>
       simp only[base,bw]at h
       obtain⟨o,k1,k2⟩:=xX (HC r) h.2
       exact⟨o,k1,by simp only[inst,bw];exact⟨h.1,k2⟩⟩
     | ⟨dst,op,ty,pos,after,some (j,want)⟩::r =>
       simp only[base,bw]at h
       have bU:=h.1
       have h:=h.2
       suffices hs:∃ o:SV × List aw,E.K o.1 o.2∧Xy V n (Eo E o) f ops dst op want r rs (inst o D) σ (Yk σ.t (eW ops.toList j)) (ED σ.t (eW ops.toList j)) by
        obtain⟨o,k1,k2⟩:=hs
        exact⟨o,k1,by simp only[inst,bw];exact⟨bU,k2⟩⟩
       cases hg:Yk σ.t (eW ops.toList j) with
       | some p =>
         obtain⟨d,b⟩:=p
         rw[hg]at h
         simp only[Xy,XG]at h ⊢
         by_cases hb:b=want
         ·obtain⟨o,k1,k2⟩:=xX (HC r) (h.2.1 hb)
          exact⟨o,k1,h.1,fun _=>k2,fun e=>by rw[hb]at e;cases want <;> cases e⟩
         ·have hb':b=!want:=by cases b <;> cases want <;> simp at hb ⊢
          obtain⟨o,k1,k2⟩:=HC r _ _ (h.2.2 hb')
          exact⟨o,k1,h.1,fun e=>absurd e hb,fun _=>k2⟩
       | none =>
         rw[hg]at h
         cases Ih:ED σ.t (eW ops.toList j) with
         | true=>rw[Ih]at h;simp only[Xy]at h ⊢;exact HC r _ _ h
         | false=>rw[Ih]at h;simp[Xy]at h
   | .code c::D,bN,h =>
     have ql:=bN.tail
     have HC:∀ c σ,bw V n E f (.code c::base D) σ→Ge V n E f (.code c::D) σ:=fun c σ h=>ih (.code c::D) σ (ql.cons _ (by intros;intro e;cases e)) h
     cases c with
     | skip =>
       simp only[base,bw]at h
       obtain⟨o,k1,k2⟩:=ih D σ ql h
       exact⟨o,k1,by simp only[inst,bw];exact k2⟩
     | region id ops draw =>
       cases draw
       ·simp only[base,bw]at h
        obtain⟨o,k1,k2⟩:=ih (.ops ops ops.toList::D) σ (ql.cons _ (by intros;intro e;cases e)) h
        exact⟨o,k1,by simp only[inst,bw];exact k2⟩
       ·simp only[base,bw]at h
        cases hw:E.Ev id with
        | all t=>rw[hw]at h;simp only[yr,hu]at h;exact absurd h.1 (by simp)
        | ord p =>
          rw[hw]at h
          simp only[yr]at h
          obtain⟨o,k1,k2⟩:=ih (.eO (nd ops p) (nd ops p).toList []::D) σ (ql.cons _ (by intros;intro e;cases e)) h.2
          refine⟨o,k1,?_⟩
          simp only[inst,bw,Eo,hw,yr]
          exact⟨h.1,k2⟩
     | seq x y =>
       simp only[base,bw]at h
       obtain⟨o,k1,k2⟩:=ih (.code x::.code y::D) σ ((ql.cons _ (by intros;intro e;cases e)).cons _ (by intros;intro e;cases e)) h
       exact⟨o,k1,by simp only[inst,bw];exact k2⟩
     | cond c x y =>
       simp only[base,bw]at h
       suffices hs:∃ o:SV × List aw,E.K o.1 o.2∧XN V n (Eo E o) f x y (inst o D) σ (ev σ.t c) by
        obtain⟨o,k1,k2⟩:=hs
        exact⟨o,k1,by simp only[inst,bw];exact k2⟩
       cases hb:ev σ.t c with
       | none=>rw[hb]at h;simp[XN]at h
       | some v =>
         rw[hb]at h
         cases v <;> simp only[XN,XQ]at h ⊢
         rename_i b
         cases b
         ·obtain⟨o,k1,k2⟩:=HC y σ (h.2 rfl)
          exact⟨o,k1,fun e=>(by cases e),fun _=>k2⟩
         ·obtain⟨o,k1,k2⟩:=HC x σ (h.1 rfl)
          exact⟨o,k1,fun _=>k2,fun e=>(by cases e)⟩
     | block id x =>
       simp only[base,bw]at h
       obtain⟨o,k1,k2⟩:=ih (.code x::.lp id::D) σ ((ql.cons _ (by intros;intro e;cases e)).cons _ (by intros;intro e;cases e)) h
       exact⟨o,k1,by simp only[inst,bw];exact k2⟩
     | loop x =>
       simp only[base,bw,uy]at h
       obtain⟨I,μ,h0,h1⟩:=h
       let H:SV × List aw→St→Prop:=fun o σ=>∃ S:St→Prop,S σ∧∀ σ',S σ'→bw V n (Eo E o) f (.code x::.kD S μ (μ σ')::inst o D) σ'
       have key:∀ m σ,μ σ=m→I σ→∃ o:SV × List aw,E.K o.1 o.2∧H o σ:=by
        intro m
        induction m using Nat.strongRecOn with
        | _ m ihm =>
        intro σ hm hi
        obtain⟨o,k1,k2⟩:=ih (.code x::.dl I μ (μ σ) (fun o σ2=>I σ2∧H o σ2)::D) σ (by
         refine okI.cons (fun I' μ' m' P wB=>?_) _ (by intros;intro e;cases e)
         rcases zMM.1 wB with e|wB
         ·cases e
          intro σ2 hi2 aC
          obtain⟨o,k1,k2⟩:=ihm (μ σ2) (by omega) σ2 rfl hi2
          exact⟨o,k1,hi2,k2⟩
         ·exact ql I' μ' m' P wB) (h1 σ hi)
        have iT:∀ (S:St→Prop) m,∀ i∈(.code x::.kD S μ m::inst o D:List Item),(∃ J,i=Item.cut J)∨(∃ a b c,i=.fM a b c)→False:=fun S m i hi=>by
         rcases zMM.1 hi with rfl|hi
         ·rintro(⟨_,e⟩|⟨_,_,_,e⟩) <;> cases e
         ·rcases zMM.1 hi with rfl|hi
          ·rintro(⟨_,e⟩|⟨_,_,_,e⟩) <;> cases e
          ·exact Ei o D i hi
        refine⟨o,k1,fun σ'=>σ'=σ∨H o σ',.inl rfl,?_⟩
        rintro σ' (rfl|⟨S,hS,aP⟩)
        ·exact qQ f (E:=Eo E o) hu (.same _ (.kD μ _ (fun σ2 h2=>.inr h2.2) (Ck.refl _))) (iT _ _) k2
        ·exact qQ f (E:=Eo E o) hu (.same _ (.kD μ _ (fun σ2 h2=>.inr ⟨S,h2,aP⟩) (Ck.refl _))) (iT _ _) (aP σ' hS)
       obtain⟨o,k1,S,k2,k3⟩:=key _ σ rfl h0
       exact⟨o,k1,by simp only[inst,bw,uy];exact⟨S,μ,k2,k3⟩⟩
     | exit id =>
       simp only[base,bw]at h
       cases hx:XE id (base D) with
       | none=>rw[hx]at h;simp[XO]at h
       | some q =>
         obtain⟨D',rfl,h2,h3⟩:=rM hx
         rw[hx]at h
         simp only[XO]at h
         obtain⟨o,k1,k2⟩:=ih D' σ (fun I μ m P hm=>ql I μ m P (h3 _ hm)) h
         exact⟨o,k1,by simp only[inst,bw,h2 o,XO];exact k2⟩
     | ret =>
       simp only[base,bw]at h
       cases hl:XT V σ E.rs with
       | none=>rw[hl]at h;simp[vf]at h
       | some l =>
         rw[hl]at h
         refine⟨(qV l,σ.b),h,?_⟩
         simp only[inst,bw,Eo,hl,vf]
         first|exact⟨rfl,rfl⟩|exact⟨trivial,trivial⟩
     | _=>simp[base,bw]at h
theorem su_ofP (Ev:Nat→How){f:FuncId}{fn:Func}{c:Code}{args:List SV}{bs:List aw}{R:SV→List aw→Prop}{n:Nat}{rs:Array ResultVar}(fuel:Nat)(hf:V.P.funcs[f]? = some fn)(hb:fn.body=some c)(hn:fn.ntmps=n)(hr:fn.results=rs)(jE:Enters V f)
 (hlen:args.length≤n) (kU:∀ β β',bC bs.length β β'→aJ β args=aJ β' args) (h:bw V n ⟨rs.toList,R,Ev,true⟩ fuel [.code c] ⟨Yj 0 args,bs⟩):SU V f args bs R:=by
 obtain⟨o,k1,k2⟩:=Gw (E:=⟨rs.toList,R,Ev,true⟩) rfl fuel [.code c] ⟨Yj 0 args,bs⟩ (fun I μ m P hm=>by simp at hm) h
 exact⟨o.1,o.2,k1,GN true Ev fuel hf hb hn hr jE hlen kU k2⟩
theorem GF {f:FuncId}{fn:Func}{c:Code}{args:List SV}{bs:List aw}{R:SV→List aw→Prop}{n:Nat}{rs:Array ResultVar}(fuel:Nat)(hf:V.P.funcs[f]? = some fn)(hb:fn.body=some c)(hn:fn.ntmps=n)(hr:fn.results=rs)(jE:Enters V f)
 (hlen:args.length≤n) (kU:∀ β β',bC bs.length β β'→aJ β args=aJ β' args) (h:bw V n ⟨rs.toList,R,fun _=>.ord [],true⟩ fuel [.code c] ⟨Yj 0 args,bs⟩):SU V f args bs R :=
 su_ofP (fun _=>.ord []) fuel hf hb hn hr jE hlen kU h
theorem bc {E:Fin}{f:Nat}{A B:Code}{k:List Item}{σ0:St}(g:Nat)(J:St→Prop)(h1:∀ m σ,J σ→bw V n E (m+g) (.code B::k) σ)(h2:∀ k',(∀ m σ,J σ→bw V n E (m+g) k' σ)→bw V n E f (.code A::k') σ0):bw V n E (f+1) (.code (.seq A B)::k) σ0:=by
 simp only[bw]
 exact h2 _ h1
theorem Cc {E:Fin}{n f:Nat}{ops:Array Oper}{r:List Oper}{k:List Item}{g:FuncId}{args:List SV}{dst:Option Tmp}{σ:St}{R:SV→List aw→Prop}(h:SU V g args σ.b R)(h2:∀ x bs,R x bs→bw V n E f (.ops ops r::k) ⟨put dst x σ.t,bs⟩):lu V n E f ops r k g args dst σ:=by
 unfold lu;exact .inr ⟨R,h.sc,fun _=>h,h2⟩
theorem gT {E:Fin}{n f:Nat}{ops:Array Oper}{r:List Oper}{k:List Item}{g:FuncId}{args:List SV}{dst:Option Tmp}{σ:St}{x:SV}{b:List aw}(h:SC V g args σ.b (fun r b'=>r=x∧b'=b))(h2:∀ y bs,y=x∧bs=b→bw V n E f (.ops ops r::k) ⟨put dst y σ.t,bs⟩):lu V n E f ops r k g args dst σ :=
 Cc ⟨x,b,⟨rfl,rfl⟩,h⟩ h2
end
end Vc
namespace Go.Proofs.YteipdaijbncgeaaGreatDoor
open Go Vc Go.RowKit Wf
def pZ (v:Vd)(now:Int):En:=⟨v,now,iV now v.de⟩
section
variable {b:List aw} {q:Nat} {L:List En} {m:Bool} {t:Bytes} {cp now:Int}
theorem F2 (L:List En)(k:Nat)(h:k<L.length):(L.flatMap enc).take (k * 14)++(L.flatMap enc).drop ((k+1) * 14)=(L.eraseIdx k).flatMap enc:=by
 rw[(ln L k).1,(ln L (k+1)).2,← zMQ,List.eraseIdx_eq_take_drop_succ]
theorem enc_ins (L:List En)(k:Nat)(x:En):(L.flatMap enc).take (k * 14)++enc x++(L.flatMap enc).drop (k * 14)=(L.take k++[x]++L.drop k).flatMap enc:=by
 rw[(ln L k).1,(ln L k).2,zMQ,zMQ];simp
theorem EI (L:List En)(k:Nat)(x:En)(h:k<L.length):(L.flatMap enc).take (k * 14)++(enc x++(L.flatMap enc).drop (k * 14+14))=(L.set k x).flatMap enc:=by
 rw[(ln L k).1,show k * 14+14=(k+1) * 14 by omega,(ln L (k+1)).2,List.set_eq_take_append_cons_drop,if_pos h,zMQ,List.flatMap_cons]
def putV (cp:Int)(L:List En)(v:Vd)(now:Int)(vb:Bool):List En:=if iJ v&&vb&&!decide (cp≤0) then jz En.key En.aU cp L (pZ v now) else L
theorem zh {L:List En}(hT:∀ e∈L,e.v.tr=.aI):(L.flatMap enc).all one=true:=by
 rw[zMN]
 intro x hx
 obtain⟨e,he,hx⟩:=List.mem_flatMap.1 hx
 have:=hT e he
 simp only[enc,this]at hx
 simp at hx
 rcases hx with rfl|rfl|rfl|rfl|rfl|rfl|rfl|rfl|rfl|rfl|rfl|rfl|rfl|rfl <;> rfl
structure P1 (b:List aw) (cp:Int) (v:Vd) (x1:SV) (b1:List aw):Prop where
 kp:Kp b b1
 c:b1[b.length]? = some (.cells [.int .i64 cp,x1] 24 true)
 v:b1[b.length+1]? = some (.cells [.int .i64 v.err,.int .i64 v.id.kind,.str v.id.text,.str v.id.host,.int .i64 v.id.port,.int .i64 v.cW.kind,.str v.cW.text,.str v.cW.host,.int .i64 v.cW.port,.bool v.store,.int .u64 v.de,v.tr] 41 true)
 o:b1[b.length+2]? = some (.cells [.int .i64 0,.aI] 24 true)
theorem hU.CJ {b:List aw}{x:SV}{L:List En}{m:Bool}(h:hU b x L m){k:Nat}(hk:∀ q,b[q]? = some (.own (L.flatMap enc) 43 14 L.length m)→k≠q)(X:aw):hU (b.set k X) x L m:=by
 rcases h with h|⟨q,rfl,hq⟩
 ·exact .inl h
 ·exact .inr ⟨q,rfl,aH hq (hk q hq) _⟩
theorem pG {v:Vd}(h1:one v.tr=true)(hw:within b.length v.tr=true):SC Tryz.V 27 [.agg (gi v)] b (fun r b'=>r=.bool (iJ v)∧b'=b):=by
 refine fD rfl ?_
 unfold gi iJ
 refine cV 3000 Tryz.func27 rfl Tryz.ntmps27 Tryz.results27 Tryz.call27 (by simp) (ax b.length _ (by simp[within,within.aS,hw])) ?_
 generalize v.store=s
 cases c1:v.err==0
 ·simp only[ae,↓Xn,↓Xo,↓Xg,↓Xd,↓Xe,↓Xf,Tryz.VΓ,Tryz.Γs,Xp,Xi,Nat.reduceAdd,Nat.reduceSub,Nat.reduceLT,Nat.reduceLeDiff,reduceIte,reduceCtorEq,Nat.reduceEqDiff,implies_true,forall_const,ad,av,beq_self_eq_true,bne_self_eq_false,Int.reduceBEq,Int.reduceBNe,Int.reduceLT,Int.reduceLE,h1,c1]
  exact(Kp.refl _).app _
 ·cases s
  ·simp only[ae,↓Xn,↓Xo,↓Xg,↓Xd,↓Xe,↓Xf,Tryz.VΓ,Tryz.Γs,Xp,Xi,Nat.reduceAdd,Nat.reduceSub,Nat.reduceLT,Nat.reduceLeDiff,reduceIte,reduceCtorEq,Nat.reduceEqDiff,implies_true,forall_const,ad,av,beq_self_eq_true,bne_self_eq_false,Int.reduceBEq,Int.reduceBNe,Int.reduceLT,Int.reduceLE,h1,c1]
   exact(Kp.refl _).app _
  ·cases c2:decide (1≤v.de)
   ·simp only[ae,↓Xn,↓Xo,↓Xg,↓Xd,↓Xe,↓Xf,Tryz.VΓ,Tryz.Γs,Xp,Xi,Nat.reduceAdd,Nat.reduceSub,Nat.reduceLT,Nat.reduceLeDiff,reduceIte,reduceCtorEq,Nat.reduceEqDiff,implies_true,forall_const,ad,av,beq_self_eq_true,bne_self_eq_false,Int.reduceBEq,Int.reduceBNe,Int.reduceLT,Int.reduceLE,h1,c1,c2]
    exact(Kp.refl _).app _
   ·cases c3:decide (v.de≤86400)
    ·simp only[ae,↓Xn,↓Xo,↓Xg,↓Xd,↓Xe,↓Xf,Tryz.VΓ,Tryz.Γs,Xp,Xi,Nat.reduceAdd,Nat.reduceSub,Nat.reduceLT,Nat.reduceLeDiff,reduceIte,reduceCtorEq,Nat.reduceEqDiff,implies_true,forall_const,ad,av,beq_self_eq_true,bne_self_eq_false,Int.reduceBEq,Int.reduceBNe,Int.reduceLT,Int.reduceLE,h1,c1,c2,c3]
     exact(Kp.refl _).app _
    ·simp only[ae,↓Xn,↓Xo,↓Xg,↓Xd,↓Xe,↓Xf,Tryz.VΓ,Tryz.Γs,Xp,Xi,Nat.reduceAdd,Nat.reduceSub,Nat.reduceLT,Nat.reduceLeDiff,reduceIte,reduceCtorEq,Nat.reduceEqDiff,implies_true,forall_const,ad,av,beq_self_eq_true,bne_self_eq_false,Int.reduceBEq,Int.reduceBNe,Int.reduceLT,Int.reduceLE,h1,c1,c2,c3]
     exact(Kp.refl _).app _
def Ct (b:List aw)(tb:Nat)(X:List aw):Prop:=∀ i Y,X[i]? = some Y→b[tb+i]? = some Y
theorem Ct.app {b:List aw}{tb:Nat}{X:List aw}(h:Ct b tb X)(l:List aw):Ct (b++l) tb X:=fun i Y hi=>af (h i Y hi) _
theorem Ct.kp {b b':List aw}{tb:Nat}{X:List aw}(h:Ct b tb X)(k:Kp b b'):Ct b' tb X:=fun i Y hi=>k.at (h i Y hi)
theorem Ct.set {b:List aw}{tb k:Nat}{X:List aw}(h:Ct b tb X)(hk:k<tb)(Y:aw):Ct (b.set k Y) tb X:=fun i Y hi=>aH (h i Y hi) (by omega) _
def XOk (X:List aw):Prop:=X=[]∨∃ c n mm,X=[.own c 93 9 n mm]
theorem Ct.setE {b:List aw}{tb q:Nat}{X:List aw}(h:Ct b tb X)(hX:XOk X){c:List SV}{n:Nat}{m:Bool}(hq:b[q]? = some (.own c 43 14 n m))(Y:aw):Ct (b.set q Y) tb X:=fun i Z hi=>by
 refine aH (h i Z hi) ?_ _
 rintro rfl
 have h2:=h i Z hi
 rw[hq]at h2
 rcases hX with rfl|⟨c',n',mm,rfl⟩
 ·simp at hi
 ·match i,hi with
  | 0,hi =>
    simp only[List.getElem?_cons_zero,Option.some.injEq]at hi
    subst hi
    cases h2
  | i+1,hi=>simp at hi
theorem su_PutG {x:SV}{v:Vd}{vb:Bool}{X:List aw}(tr':Nat→SV)(h:hU b x L m)(BA:m=true∨L.length≠0∨x=.aI)(hl:L.length≤1000000)(hT:∀ e∈L,e.v.tr=.aI)(ha:om En.key L)(hv:one v.tr=true)(hvw:within b.length v.tr=true)(Im:cp≤1024)
 (hX:XOk X) (htr:∀ k,one (tr' k)=true) (hcop:∀ b2,Kp b b2→SC Tryz.V 34 [.agg (gi v)] b2 (fun r b'=>r=.agg (gi { v with tr:=tr' b2.length })∧b'=b2++X))
 (hid:PC Tryz.V 28 [.agg [.int .i64 v.id.kind,.str v.id.text,.str v.id.host,.int .i64 v.id.port]] (.bool vb)) :
 SU Tryz.V 17 [.agg [.int .i64 cp,x],.agg (gi v),.int .u64 now] b (fun r b'=>Kp b b'∧∃ x' tb,r=.agg [.int .i64 cp,x']∧hU b' x' (if iJ v&&vb&&!decide (cp≤0) then jz En.key En.aU cp L (pZ { v with tr:=tr' tb } now) else L) true∧(∀ q n,x'=.o q n→b.length≤q)∧((iJ v&&vb&&!decide (cp≤0))=true→b.length≤tb∧Ct b' tb X)):=by
 have hw:=h.within
 have ho:=h.one
 have HS:gi v=[.int .i64 v.err,.int .i64 v.id.kind,.str v.id.text,.str v.id.host,.int .i64 v.id.port,.int .i64 v.cW.kind,.str v.cW.text,.str v.cW.host,.int .i64 v.cW.port,.bool v.store,.int .u64 v.de,v.tr]:=rfl
 rw[HS]
 obtain⟨cb,hcb⟩:∃ cb,cb=(iJ v&&vb&&!decide (cp≤0)):=⟨_,rfl⟩
 rw[← hcb]
 refine GF 3000 Tryz.func17 rfl Tryz.ntmps17 Tryz.results17 Tryz.call17 (by simp) (ax b.length _ (by simp[within,within.aS,hw,hvw])) ?_
 refine bc 2900 (fun σ=>lk 2 σ.t=some (.int .u64 now)∧lk 3 σ.t=some (.p b.length 0)∧lk 4 σ.t=some (.p (b.length+1) 0)∧lk 6 σ.t=some (.p (b.length+2) 0)∧σ.b=b++[.cells [.int .i64 cp,x] 24 true,.cells [.int .i64 v.err,.int .i64 v.id.kind,.str v.id.text,.str v.id.host,.int .i64 v.id.port,.int .i64 v.cW.kind,.str v.cW.text,.str v.cW.host,.int .i64 v.cW.port,.bool v.store,.int .u64 v.de,v.tr] 41 true,.cells [.int .i64 0,.aI] 24 true]) ?_ (fun k' hk'=>?_)
 rotate_left
 ·simp only[ae,↓Xn,↓Xo,↓Xg,↓Xd,↓Xe,↓Xf,Tryz.VΓ,Tryz.Γs,Xp,Xi,Nat.reduceAdd,Nat.reduceSub,Nat.reduceLT,Nat.reduceLeDiff,reduceIte,reduceCtorEq,Nat.reduceEqDiff,implies_true,forall_const,ad,av,beq_self_eq_true,bne_self_eq_false,Int.reduceBEq,Int.reduceBNe,Int.reduceLT,Int.reduceLE,ho,hv]
  exact hk' _ _ ⟨rfl,rfl,rfl,rfl,rfl⟩
 rintro m1 ⟨t1,b1⟩ ⟨l2,l3,l4,l6,rfl⟩
 simp only at l2 l3 l4 l6
 refine bc 2800 (fun σ=>lk 2 σ.t=some (.int .u64 now)∧lk 3 σ.t=some (.p b.length 0)∧lk 4 σ.t=some (.p (b.length+1) 0)∧lk 6 σ.t=some (.p (b.length+2) 0)∧∃ x1,P1 b cp v x1 σ.b∧hU σ.b x1 L true∧∀ q n,x1=.o q n→b.length≤q) ?_ (fun k' hk'=>?_)
 rotate_left
 ·rcases h with⟨rfl,rfl⟩|⟨q,rfl,hq⟩
  ·simp only[ae,↓Xn,↓Xo,↓Xg,↓Xd,↓Xe,↓Xf,Tryz.VΓ,Tryz.Γs,Xp,Xi,Nat.reduceAdd,Nat.reduceSub,Nat.reduceLT,Nat.reduceLeDiff,reduceIte,reduceCtorEq,Nat.reduceEqDiff,implies_true,forall_const,ad,av,beq_self_eq_true,bne_self_eq_false,Int.reduceBEq,Int.reduceBNe,Int.reduceLT,Int.reduceLE,l3]
   refine gT Ak ?_
   rintro y b2 ⟨rfl,rfl⟩
   simp only[ae,↓Xn,↓Xo,↓Xg,↓Xd,↓Xe,↓Xf,Tryz.VΓ,Tryz.Γs,Xp,Xi,Nat.reduceAdd,Nat.reduceSub,Nat.reduceLT,Nat.reduceLeDiff,reduceIte,reduceCtorEq,Nat.reduceEqDiff,implies_true,forall_const,ad,av,beq_self_eq_true,bne_self_eq_false,Int.reduceBEq,Int.reduceBNe,Int.reduceLT,Int.reduceLE,l3]
   refine hk' _ _ ?_
   exact⟨l2,l3,l4,l6,_,⟨(Kp.refl _).app _,bm rfl _ 0,bm rfl _ 1,bm rfl _ 2⟩,.inl ⟨rfl,rfl⟩,fun q n h=>by cases h⟩
  ·simp only[ae,↓Xn,↓Xo,↓Xg,↓Xd,↓Xe,↓Xf,Tryz.VΓ,Tryz.Γs,Xp,Xi,Nat.reduceAdd,Nat.reduceSub,Nat.reduceLT,Nat.reduceLeDiff,reduceIte,reduceCtorEq,Nat.reduceEqDiff,implies_true,forall_const,ad,av,beq_self_eq_true,bne_self_eq_false,Int.reduceBEq,Int.reduceBNe,Int.reduceLT,Int.reduceLE,l3]
   refine gT (CM (af hq _) (by rcases BA with h|h|h;exact .inl h;exact .inr h;cases h) hT hl) ?_
   rintro y b2 ⟨rfl,rfl⟩
   simp only[ae,↓Xn,↓Xo,↓Xg,↓Xd,↓Xe,↓Xf,Tryz.VΓ,Tryz.Γs,Xp,Xi,Nat.reduceAdd,Nat.reduceSub,Nat.reduceLT,Nat.reduceLeDiff,reduceIte,reduceCtorEq,Nat.reduceEqDiff,implies_true,forall_const,ad,av,beq_self_eq_true,bne_self_eq_false,Int.reduceBEq,Int.reduceBNe,Int.reduceLT,Int.reduceLE,l3]
   refine hk' _ _ ?_
   exact⟨l2,l3,l4,l6,_,⟨(Kp.refl _).app _,bm rfl _ 0,bm rfl _ 1,bm rfl _ 2⟩,.inr ⟨b.length+3,rfl,bm rfl _ 3⟩,fun q n h=>by cases h;omega⟩
 clear h hw ho BA
 rintro m2 ⟨t2,b2⟩ ⟨l2,l3,l4,l6,x1,hP,hE,wy⟩
 simp only at l2 l3 l4 l6 hP hE
 have ho:=hE.one
 have pc:=hP.c
 have pv:=hP.v
 have po:=hP.o
 have hwn:∀ b2,Kp b b2→within b2.length v.tr=true:=fun b2 k=>kI k.1 _ hvw
 have jP:=pG (b:=b2) hv (hwn _ hP.kp)
 rw[HS]at jP
 refine bc 2700 (fun σ=>lk 2 σ.t=some (.int .u64 now)∧lk 3 σ.t=some (.p b.length 0)∧lk 4 σ.t=some (.p (b.length+1) 0)∧lk 6 σ.t=some (.p (b.length+2) 0)∧σ.b=b2∧(iJ v&&vb&&!decide (cp≤0))=true) ?_ (fun k' hk'=>?_)
 rotate_left
 ·have hs:∀ X,(b2.set (b.length+2) X)[b.length+2]? = some X:=fun X=>zMt (zMo.1 po).1
  have kW:(iJ v&&vb&&!decide (cp≤0))=false→Kp b (b2.set (b.length+2) (.cells [.int .i64 cp,x1] 24 true))∧∃ x' tb,SV.agg [.int .i64 cp,x1]=.agg [.int .i64 cp,x']∧hU (b2.set (b.length+2) (.cells [.int .i64 cp,x1] 24 true)) x' (if cb then jz En.key En.aU cp L (pZ { v with tr:=tr' tb } now) else L) true∧(∀ q n,x'=.o q n→b.length≤q)∧(cb=true→b.length≤tb∧Ct (b2.set (b.length+2) (.cells [.int .i64 cp,x1] 24 true)) tb X):=fun h2=>by
   rw[hcb,h2]
   exact⟨hP.kp.set (by omega) _,x1,0,rfl,by simpa using hE.CJ (by intro q hq e;subst e;rw[po]at hq;cases hq) _,wy,fun e=>by cases e⟩
  simp only[ae,↓Xn,↓Xo,↓Xg,↓Xd,↓Xe,↓Xf,Tryz.VΓ,Tryz.Γs,Xp,Xi,Nat.reduceAdd,Nat.reduceSub,Nat.reduceLT,Nat.reduceLeDiff,reduceIte,reduceCtorEq,Nat.reduceEqDiff,implies_true,forall_const,ad,av,beq_self_eq_true,bne_self_eq_false,Int.reduceBEq,Int.reduceBNe,Int.reduceLT,Int.reduceLE,l3,l4,pv,hv]
  refine gT jP ?_
  rintro y b3 ⟨rfl,rfl⟩
  cases tz:iJ v
  ·simp only[ae,↓Xn,↓Xo,↓Xg,↓Xd,↓Xe,↓Xf,Tryz.VΓ,Tryz.Γs,Xp,Xi,Nat.reduceAdd,Nat.reduceSub,Nat.reduceLT,Nat.reduceLeDiff,reduceIte,reduceCtorEq,Nat.reduceEqDiff,implies_true,forall_const,ad,av,beq_self_eq_true,bne_self_eq_false,Int.reduceBEq,Int.reduceBNe,Int.reduceLT,Int.reduceLE,l3,l4,l6,pv,pc,po,hs,ho,hv]
   exact kW (by rw[tz];rfl)
  ·simp only[ae,↓Xn,↓Xo,↓Xg,↓Xd,↓Xe,↓Xf,Tryz.VΓ,Tryz.Γs,Xp,Xi,Nat.reduceAdd,Nat.reduceSub,Nat.reduceLT,Nat.reduceLeDiff,reduceIte,reduceCtorEq,Nat.reduceEqDiff,implies_true,forall_const,ad,av,beq_self_eq_true,bne_self_eq_false,Int.reduceBEq,Int.reduceBNe,Int.reduceLT,Int.reduceLE,l3,l4,l6,pv,pc,po,hs,ho,hv]
   refine aa hid ?_
   cases uU:vb
   ·simp only[ae,↓Xn,↓Xo,↓Xg,↓Xd,↓Xe,↓Xf,Tryz.VΓ,Tryz.Γs,Xp,Xi,Nat.reduceAdd,Nat.reduceSub,Nat.reduceLT,Nat.reduceLeDiff,reduceIte,reduceCtorEq,Nat.reduceEqDiff,implies_true,forall_const,ad,av,beq_self_eq_true,bne_self_eq_false,Int.reduceBEq,Int.reduceBNe,Int.reduceLT,Int.reduceLE,l3,l4,l6,pv,pc,po,hs,ho,hv]
    exact kW (by rw[tz,uU];rfl)
   ·cases hc3:decide (cp≤0)
    ·simp only[ae,↓Xn,↓Xo,↓Xg,↓Xd,↓Xe,↓Xf,Tryz.VΓ,Tryz.Γs,Xp,Xi,Nat.reduceAdd,Nat.reduceSub,Nat.reduceLT,Nat.reduceLeDiff,reduceIte,reduceCtorEq,Nat.reduceEqDiff,implies_true,forall_const,ad,av,beq_self_eq_true,bne_self_eq_false,Int.reduceBEq,Int.reduceBNe,Int.reduceLT,Int.reduceLE,l3,l4,l6,pv,pc,po,hs,ho,hv,hc3]
     refine hk' _ _ ?_
     exact⟨l2,l3,l4,l6,rfl,by rw[tz,uU,hc3];rfl⟩
    ·simp only[ae,↓Xn,↓Xo,↓Xg,↓Xd,↓Xe,↓Xf,Tryz.VΓ,Tryz.Γs,Xp,Xi,Nat.reduceAdd,Nat.reduceSub,Nat.reduceLT,Nat.reduceLeDiff,reduceIte,reduceCtorEq,Nat.reduceEqDiff,implies_true,forall_const,ad,av,beq_self_eq_true,bne_self_eq_false,Int.reduceBEq,Int.reduceBNe,Int.reduceLT,Int.reduceLE,l3,l4,l6,pv,pc,po,hs,ho,hv,hc3]
     exact kW (by rw[tz,uU,hc3];rfl)
 rintro m3 ⟨t3,b3⟩ ⟨l2,l3,l4,l6,rfl,lf⟩
 simp only at l2 l3 l4 l6
 have hcp0:0<cp:=by
  have:=lf
  simp at this
  omega
 have hcb1:cb=true:=by rw[hcb];exact lf
 simp only[hcb1,eq_self,if_true,true_implies]
 obtain⟨tb,htb⟩:∃ tb,tb=b3.length:=⟨_,rfl⟩
 obtain⟨e0,he0⟩:∃ e0,e0=pZ { v with tr:=tr' tb } now:=⟨_,rfl⟩
 obtain⟨LP,FI⟩:∃ LP,LP=jz En.key En.aU cp L e0:=⟨_,rfl⟩
 have hpm0:jz En.key En.aU cp L (pZ { v with tr:=tr' tb } now)=LP:=by rw[FI,he0]
 have mu:b.length+2<b3.length:=(zMo.1 po).1
 have hne1:¬ b.length+1=b3.length:=by omega
 refine bc 2600 (fun σ=>lk 3 σ.t=some (.p b.length 0)∧lk 4 σ.t=some (.p (b.length+1) 0)∧lk 6 σ.t=some (.p (b.length+2) 0)∧∃ n7,lk 7 σ.t=some (.p n7 0)∧Kp b3 σ.b∧σ.b[n7]? = some (.cells (enc e0) 43 true)∧b3.length≤n7∧Ct σ.b tb X) ?_ (fun k' hk'=>?_)
 rotate_left
 ·have Im:=hcop b3 hP.kp
  rw[HS]at Im
  have lS:=pP now v.de
  have hve2:gi { v with tr:=tr' b3.length }=[.int .i64 v.err,.int .i64 v.id.kind,.str v.id.text,.str v.id.host,.int .i64 v.id.port,.int .i64 v.cW.kind,.str v.cW.text,.str v.cW.host,.int .i64 v.cW.port,.bool v.store,.int .u64 v.de,tr' b3.length]:=rfl
  rw[hve2]at Im
  have uK:=htr b3.length
  have hme:enc e0=[.int .i64 v.err,.int .i64 v.id.kind,.str v.id.text,.str v.id.host,.int .i64 v.id.port,.int .i64 v.cW.kind,.str v.cW.text,.str v.cW.host,.int .i64 v.cW.port,.bool v.store,.int .u64 v.de,tr' b3.length,.int .u64 now,.int .u64 (iV now v.de)]:=by
   rw[he0,htb];rfl
  simp only[ae,↓Xn,↓Xo,↓Xg,↓Xd,↓Xe,↓Xf,Tryz.VΓ,Tryz.Γs,Xp,Xi,Nat.reduceAdd,Nat.reduceSub,Nat.reduceLT,Nat.reduceLeDiff,reduceIte,reduceCtorEq,Nat.reduceEqDiff,implies_true,forall_const,ad,av,beq_self_eq_true,bne_self_eq_false,Int.reduceBEq,Int.reduceBNe,Int.reduceLT,Int.reduceLE,l2,l3,l4,pv,hv]
  rcases hX with rfl|⟨xc,xn,xm,rfl⟩
  ·refine bn [] Im (fun j q h=>by rw[zMp]) ?_
   rw[zMp]
   simp only[ae,↓Xn,↓Xo,↓Xg,↓Xd,↓Xe,↓Xf,Tryz.VΓ,Tryz.Γs,Xp,Xi,Nat.reduceAdd,Nat.reduceSub,Nat.reduceLT,Nat.reduceLeDiff,reduceIte,reduceCtorEq,Nat.reduceEqDiff,implies_true,forall_const,ad,av,beq_self_eq_true,bne_self_eq_false,Int.reduceBEq,Int.reduceBNe,Int.reduceLT,Int.reduceLE,l2,l3,l4,pv,hv]
   refine aR lS ?_
   simp only[ae,↓Xn,↓Xo,↓Xg,↓Xd,↓Xe,↓Xf,Tryz.VΓ,Tryz.Γs,Xp,Xi,Nat.reduceAdd,Nat.reduceSub,Nat.reduceLT,Nat.reduceLeDiff,reduceIte,reduceCtorEq,Nat.reduceEqDiff,implies_true,forall_const,ad,av,beq_self_eq_true,bne_self_eq_false,Int.reduceBEq,Int.reduceBNe,Int.reduceLT,Int.reduceLE,l2,l3,l4,pv,hv,uK]
   refine⟨(by
    refine dm (fun n=>if n=b3.length then 0 else 1) ?_
    simp only[List.map_cons,List.map_nil,dW,iE,reduceIte,hne1]
    exact aj (by kernel_rfl)),?_⟩
   refine hk' _ _ ?_
   rw[hme]
   exact⟨l3,l4,l6,_,rfl,(Kp.refl _).app _,bm rfl _ 0,by omega,fun i Y hi=>by simp at hi⟩
  ·refine bn [(b3.length,0,0)] Im (outs1 rfl _) ?_
   simp only[ae,↓Xn,↓Xo,↓Xg,↓Xd,↓Xe,↓Xf,Tryz.VΓ,Tryz.Γs,Xp,Xi,Nat.reduceAdd,Nat.reduceSub,Nat.reduceLT,Nat.reduceLeDiff,reduceIte,reduceCtorEq,Nat.reduceEqDiff,implies_true,forall_const,ad,av,beq_self_eq_true,bne_self_eq_false,Int.reduceBEq,Int.reduceBNe,Int.reduceLT,Int.reduceLE,l2,l3,l4,pv,af pv,hv]
   refine aR lS ?_
   simp only[ae,↓Xn,↓Xo,↓Xg,↓Xd,↓Xe,↓Xf,Tryz.VΓ,Tryz.Γs,Xp,Xi,Nat.reduceAdd,Nat.reduceSub,Nat.reduceLT,Nat.reduceLeDiff,reduceIte,reduceCtorEq,Nat.reduceEqDiff,implies_true,forall_const,ad,av,beq_self_eq_true,bne_self_eq_false,Int.reduceBEq,Int.reduceBNe,Int.reduceLT,Int.reduceLE,l2,l3,l4,pv,af pv,hv,uK]
   have hne2:¬ b3.length=b.length+1:=by omega
   have hne3:¬ b3.length+1=b.length+1:=by omega
   have hne4:¬ b3.length+1=b3.length:=by omega
   have hne5:¬ b3.length=b.length:=by omega
   refine⟨by
    refine dm (fun n=>if n=b.length+1 then 0 else if n=b3.length then 1 else 2) ?_
    simp only[List.map_cons,List.map_nil,dW,iE,reduceIte,hne1,hne2,hne3,hne4,hne5,Nat.add_right_cancel_iff]
    exact aj (by kernel_rfl),?_⟩
   refine hk' _ _ ?_
   rw[hme]
   refine⟨l3,l4,l6,_,rfl,(Kp.refl _).app _,bm rfl _ 1,by omega,fun i Y hi=>?_⟩
   match i,hi with
   | 0,hi =>
     simp only[List.getElem?_cons_zero,Option.some.injEq]at hi
     subst hi
     rw[htb]
     exact bm rfl _ 0
   | i+1,hi=>simp at hi
 rintro m4 ⟨t4,b4⟩ ⟨l3,l4,l6,n7,l7,Ex,pe4,hn7,hx4⟩
 simp only at l3 l4 l6 l7 Ex pe4 hx4
 have pc4:=Ex.at pc
 have pv4:=Ex.at pv
 have po4:=Ex.at po
 have hkp4:=hP.kp.trans Ex
 have sW:e0.key=v.id.text:=by rw[he0];rfl
 have h1e0:one e0.v.tr=true:=by rw[he0];exact htr _
 clear hcop htr
 have hEn:∀ e∈L,one e.v.tr=true:=fun e he=>by rw[hT e he];rfl
 have hE4:hU b4 x1 L true:=hE.kp Ex
 refine bc 2500 (fun σ=>lk 3 σ.t=some (.p b.length 0)∧lk 4 σ.t=some (.p (b.length+1) 0)∧lk 6 σ.t=some (.p (b.length+2) 0)∧lk 7 σ.t=some (.p n7 0)∧lk 8 σ.t=some (.int .i64 (hJ En.key L v.id.text))∧lk 9 σ.t=some (.bool (dQ En.key L v.id.text))∧σ.b=b4) ?_ (fun k' hk'=>?_)
 rotate_left
 ·simp only[ae,↓Xn,↓Xo,↓Xg,↓Xd,↓Xe,↓Xf,Tryz.VΓ,Tryz.Γs,Xp,Xi,Nat.reduceAdd,Nat.reduceSub,Nat.reduceLT,Nat.reduceLeDiff,reduceIte,reduceCtorEq,Nat.reduceEqDiff,implies_true,forall_const,ad,av,beq_self_eq_true,bne_self_eq_false,Int.reduceBEq,Int.reduceBNe,Int.reduceLT,Int.reduceLE,l3,l4,l7,pc4,pv4,ho]
  refine gT (yi hE4 ha hl (fun e he=>by rw[hT e he];exact⟨rfl,rfl⟩)) ?_
  rintro y b5 ⟨rfl,rfl⟩
  simp only[ae,↓Xn,↓Xo,↓Xg,↓Xd,↓Xe,↓Xf,Tryz.VΓ,Tryz.Γs,Xp,Xi,Nat.reduceAdd,Nat.reduceSub,Nat.reduceLT,Nat.reduceLeDiff,reduceIte,reduceCtorEq,Nat.reduceEqDiff,implies_true,forall_const,ad,av,beq_self_eq_true,bne_self_eq_false,Int.reduceBEq,Int.reduceBNe,Int.reduceLT,Int.reduceLE,l3,l4,l7]
  refine hk' _ _ ?_
  exact⟨l3,l4,l6,l7,rfl,rfl,rfl⟩
 rintro m5 ⟨t5,b5⟩ ⟨l3,l4,l6,l7,l8,l9,hb5⟩
 simp only at l3 l4 l6 l7 l8 l9 hb5
 rw[hb5]
 clear hb5
 have hkx:En.key e0=v.id.text:=sW
 have jN:(enc e0).length=14:=rfl
 have hen1:(enc e0).all one=true:=by
  simp[enc,one]at h1e0 ⊢;exact h1e0
 have eo:(enc e0).take 14=enc e0:=zMy (by rw[jN];omega)
 refine bc 2400 (fun σ=>lk 3 σ.t=some (.p b.length 0)∧lk 4 σ.t=some (.p (b.length+1) 0)∧lk 6 σ.t=some (.p (b.length+2) 0)∧lk 7 σ.t=some (.p n7 0)∧lk 8 σ.t=some (.int .i64 (hJ En.key L v.id.text))∧dQ En.key L v.id.text=false∧σ.b=b4) ?_ (fun k' hk'=>?_)
 rotate_left
 ·cases hh:dQ En.key L v.id.text
  ·rw[hh]at l9
   simp only[ae,↓Xn,↓Xo,↓Xg,↓Xd,↓Xe,↓Xf,Tryz.VΓ,Tryz.Γs,Xp,Xi,Nat.reduceAdd,Nat.reduceSub,Nat.reduceLT,Nat.reduceLeDiff,reduceIte,reduceCtorEq,Nat.reduceEqDiff,implies_true,forall_const,ad,av,beq_self_eq_true,bne_self_eq_false,Int.reduceBEq,Int.reduceBNe,Int.reduceLT,Int.reduceLE,l9]
   refine hk' _ _ ?_
   exact⟨l3,l4,l6,l7,l8,hh,rfl⟩
  ·rw[hh]at l9
   obtain⟨hk,iU⟩:=(tA ha).1 hh
   obtain⟨q,rfl,hq⟩:∃ q,x1=.o q L.length∧b3[q]? = some (.own (L.flatMap enc) 43 14 L.length true):=by
    rcases hE with⟨rfl,rfl⟩|h
    ·simp at hk
    ·exact h
   have Ij:=aM L
   have jD:=EI L _ e0 hk
   have hq4:=Ex.at hq
   have oS:=(zMo.1 hq).1
   have hql2:=(zMo.1 hq4).1
   have n0:q≠b.length:=by rintro rfl;rw[pc]at hq;cases hq
   have n2:q≠b.length+2:=by rintro rfl;rw[po]at hq;cases hq
   have fe:∀ Y,(b4.set q Y)[b.length]? = _:=fun Y=>aH pc4 n0 Y
   have fT:∀ Y,(b4.set q Y)[b.length+2]? = _:=fun Y=>aH po4 n2 Y
   have hs3:∀ Y Z,((b4.set q Y).set (b.length+2) Z)[b.length+2]? = some Z:=fun Y Z=>zMt (by rw[zMr];have:=Ex.1;omega)
   have e1:jz En.key En.aU cp L e0=L.set (hJ En.key L v.id.text) e0:=by
    unfold jz;rw[if_pos (.inl (by rw[hkx];exact hh)),← put_set ha (by rw[hkx];exact hh),hkx]
   simp only[ae,↓Xn,↓Xo,↓Xg,↓Xd,↓Xe,↓Xf,Tryz.VΓ,Tryz.Γs,Xp,Xi,Nat.reduceAdd,Nat.reduceSub,Nat.reduceLT,Nat.reduceLeDiff,reduceIte,reduceCtorEq,Nat.reduceEqDiff,implies_true,forall_const,ad,av,beq_self_eq_true,bne_self_eq_false,Int.reduceBEq,Int.reduceBNe,Int.reduceLT,Int.reduceLE,l3,l6,l7,l8,l9,pc4,hq4,fe,fT,hs3,jD,eo,jN,pe4]
   refine⟨⟨by omega,by omega⟩,⟨hen1,by rw[Ij];omega⟩,(hkp4.set (wy q _ rfl) _).set (by omega) _,_,tb,rfl,?_,wy,by omega,((hx4.set (by omega) _).set (by omega) _)⟩
   rw[hpm0,FI,e1]
   refine .inr ⟨q,by rw[zMr],aH ?_ (Ne.symm n2) _⟩
   rw[zMr]
   exact zMt hql2
 rintro m6 ⟨t6,b6⟩ ⟨l3,l4,l6,l7,l8,hh,hb6⟩
 simp only at l3 l4 l6 l7 l8 hb6
 rw[hb6]
 clear hb6
 have hp1:jz En.key En.aU cp L e0=if (L.length:Int)<cp then kA En.key L e0 else kA En.key (L.eraseIdx (eC (oh L) L.length)) e0:=by
  unfold jz oh
  by_cases c:(L.length:Int)<cp
  ·rw[if_pos (.inr c),if_pos c]
  ·rw[if_neg (by rw[hkx,hh];simp[c]),if_neg c]
 rw[hp1]at FI
 clear hp1
 have HV:b.length+2<tb:=by omega
 refine bc 2300 (fun σ=>lk 3 σ.t=some (.p b.length 0)∧lk 6 σ.t=some (.p (b.length+2) 0)∧lk 7 σ.t=some (.p n7 0)∧∃ L' x2,lk 8 σ.t=some (.int .i64 (hJ En.key L' v.id.text))∧dQ En.key L' v.id.text=false∧om En.key L'∧L'.length≤1000000∧LP=kA En.key L' e0∧(∀ e∈L',e.v.tr=.aI)∧Kp b σ.b∧σ.b[b.length]? = some (.cells [.int .i64 cp,x2] 24 true)∧σ.b[b.length+2]? = some (.cells [.int .i64 0,.aI] 24 true)∧σ.b[n7]? = some (.cells (enc e0) 43 true)∧Ct σ.b tb X∧hU σ.b x2 L' true∧∀ q n,x2=.o q n→b.length≤q) ?_ (fun k' hk'=>?_)
 rotate_left
 ·have dw:∀ e,lO (.slice e) x1=some (.int .i64 L.length):=fun e=>by
   rcases hE with⟨rfl,rfl⟩|⟨q,rfl,-⟩ <;> rfl
  cases hc:decide (cp≤(L.length:Int))
  ·simp only[ae,↓Xn,↓Xo,↓Xg,↓Xd,↓Xe,↓Xf,Tryz.VΓ,Tryz.Γs,Xp,Xi,Nat.reduceAdd,Nat.reduceSub,Nat.reduceLT,Nat.reduceLeDiff,reduceIte,reduceCtorEq,Nat.reduceEqDiff,implies_true,forall_const,ad,av,beq_self_eq_true,bne_self_eq_false,Int.reduceBEq,Int.reduceBNe,Int.reduceLT,Int.reduceLE,l3,l4,l6,l7,l8,pc4,dw,hc,ho]
   refine hk' _ _ ?_
   have hc':(L.length:Int)<cp:=by simp at hc;omega
   rw[if_pos hc']at FI
   exact⟨l3,l6,l7,L,x1,l8,hh,ha,hl,FI,hT,hkp4,pc4,po4,pe4,hx4,hE4,wy⟩
  ·simp only[ae,↓Xn,↓Xo,↓Xg,↓Xd,↓Xe,↓Xf,Tryz.VΓ,Tryz.Γs,Xp,Xi,Nat.reduceAdd,Nat.reduceSub,Nat.reduceLT,Nat.reduceLeDiff,reduceIte,reduceCtorEq,Nat.reduceEqDiff,implies_true,forall_const,ad,av,beq_self_eq_true,bne_self_eq_false,Int.reduceBEq,Int.reduceBNe,Int.reduceLT,Int.reduceLE,l3,l4,l6,l7,l8,pc4,dw,hc,ho]
   have hc':¬ (L.length:Int)<cp:=by simp at hc;omega
   rw[if_neg hc']at FI
   have hL0:0<L.length:=by omega
   obtain⟨q,rfl,hq⟩:∃ q,x1=.o q L.length∧b3[q]? = some (.own (L.flatMap enc) 43 14 L.length true):=by
    rcases hE with⟨rfl,rfl⟩|h
    ·simp at hL0
    ·exact h
   refine gT (fD rfl (GO (Ex.at hq) hL0 hl)) ?_
   rintro y b6 ⟨rfl,hb6⟩
   have sB:Kp b4 b6:=by rw[hb6];exact Kp.refl _
   clear hb6
   have hk:=(iG (oh L) L.length hL0).1
   generalize eC (oh L) L.length=k at hk FI ⊢
   have hq6:=sB.at (Ex.at hq)
   have pc6:=sB.at pc4
   have po6:=sB.at po4
   have pe6:=sB.at pe4
   have hx6:=hx4.kp sB
   have pv6:=sB.at pv4
   have hkp6:Kp b b6:=hkp4.trans sB
   clear sB
   have hql6:=(zMo.1 hq6).1
   have n0:q≠b.length:=by rintro rfl;rw[pc]at hq;cases hq
   have n1:q≠b.length+1:=by rintro rfl;rw[pv]at hq;cases hq
   have n2:q≠b.length+2:=by rintro rfl;rw[po]at hq;cases hq
   have n3:q≠n7:=by have:=(zMo.1 hq).1;omega
   have hqb1:=wy q _ rfl
   have oS:=(zMo.1 hq).1
   have h1L:(L.flatMap enc).all one=true:=zh hT
   simp only[ae,↓Xn,↓Xo,↓Xg,↓Xd,↓Xe,↓Xf,Tryz.VΓ,Tryz.Γs,Xp,Xi,Nat.reduceAdd,Nat.reduceSub,Nat.reduceLT,Nat.reduceLeDiff,reduceIte,reduceCtorEq,Nat.reduceEqDiff,implies_true,forall_const,ad,av,beq_self_eq_true,bne_self_eq_false,Int.reduceBEq,Int.reduceBNe,Int.reduceLT,Int.reduceLE,l3,l4,l6,l7,l8,pc6]
   refine⟨by omega,gT (sc_DelN hq6 hk h1L) ?_⟩
   rintro y b7 ⟨rfl,rfl⟩
   have hel':(L.eraseIdx k).length=L.length - 1:=List.length_eraseIdx_of_lt hk
   rw[F2 L k hk]
   have fe:∀ Y,(b6.set q Y)[b.length]? = _:=fun Y=>aH pc6 n0 Y
   have hb60:b.length<b6.length:=(zMo.1 pc6).1
   have hs0l:∀ Y (l:List aw) Z,(b6.set q Y++l).set b.length Z=(b6.set q Y).set b.length Z++l:=fun Y l Z=>bX (by rw[zMr];omega) l Z
   have hs00:∀ Y Z,((b6.set q Y).set b.length Z)[b.length]? = some Z:=fun Y Z=>zMt (by rw[zMr];omega)
   have Cr:∀ Y Z,((b6.set q Y).set b.length Z)[b.length+1]? = _:=fun Y Z=>aH (aH pv6 n1 Y) (by omega) Z
   simp only[ae,↓Xn,↓Xo,↓Xg,↓Xd,↓Xe,↓Xf,Tryz.VΓ,Tryz.Γs,Xp,Xi,Nat.reduceAdd,Nat.reduceSub,Nat.reduceLT,Nat.reduceLeDiff,reduceIte,reduceCtorEq,Nat.reduceEqDiff,implies_true,forall_const,ad,av,beq_self_eq_true,bne_self_eq_false,Int.reduceBEq,Int.reduceBNe,Int.reduceLT,Int.reduceLE,l3,l4,l6,l7,l8,af (fe _),hs0l,af (hs00 _ _),af (Cr _ _)]
   have hE8:hU ((b6.set q .gone).set b.length (.cells [.int .i64 cp,.o b6.length (L.length - 1)] 24 true)++[.own ((L.eraseIdx k).flatMap enc) 43 14 (L.length - 1) true]) (.o b6.length (L.length - 1)) (L.eraseIdx k) true:=.inr ⟨b6.length,by rw[hel'],by rw[hel'];exact bm (by simp) _ 0⟩
   refine gT (yi hE8 (nY ha k) (by omega) (fun e he=>by rw[hT e (nX he)];exact⟨rfl,rfl⟩)) ?_
   rintro y b8 ⟨rfl,rfl⟩
   simp only[ae,↓Xn,↓Xo,↓Xg,↓Xd,↓Xe,↓Xf,Tryz.VΓ,Tryz.Γs,Xp,Xi,Nat.reduceAdd,Nat.reduceSub,Nat.reduceLT,Nat.reduceLeDiff,reduceIte,reduceCtorEq,Nat.reduceEqDiff,implies_true,forall_const,ad,av,beq_self_eq_true,bne_self_eq_false,Int.reduceBEq,Int.reduceBNe,Int.reduceLT,Int.reduceLE,l3,l4,l6,l7,l8]
   refine hk' _ _ ?_
   exact⟨l3,l6,l7,L.eraseIdx k,.o b6.length (L.length - 1),rfl,DE hh,nY ha k,by omega,FI,fun e he=>hT e (nX he),((hkp6.set hqb1 _).set (zMz _) _).app _,af (hs00 _ _) _,af (aH (aH po6 n2 _) (by omega) _) _,af (aH (aH pe6 n3 _) (by omega) _) _,((hx6.set (by omega) _).set (by omega) _).app _,hE8,fun q' n h=>by cases h;omega⟩
 rintro m7 ⟨t7,b7⟩ ⟨l3,l6,l7,L',x2,l8,hh',ha',hl',hLP,hT',cL,qc,qo,qe,hx7,hE7,hqb7⟩
 simp only at l3 l6 l7 l8 cL qc qo qe hx7 hE7
 have ho7:=hE7.one
 simp only[ae,↓Xn,↓Xo,↓Xg,↓Xd,↓Xe,↓Xf,Tryz.VΓ,Tryz.Γs,Xp,Xi,Nat.reduceAdd,Nat.reduceSub,Nat.reduceLT,Nat.reduceLeDiff,reduceIte,reduceCtorEq,Nat.reduceEqDiff,implies_true,forall_const,ad,av,beq_self_eq_true,bne_self_eq_false,Int.reduceBEq,Int.reduceBNe,Int.reduceLT,Int.reduceLE,l3,l6,l7,l8,qc,qe,ho7,jN,eo,hen1]
 refine⟨by decide,?_⟩
 rcases hE7 with⟨rfl,rfl⟩|⟨q,rfl,hq⟩
 ·have fG:hJ En.key [] v.id.text=0:=rfl
  rw[fG]
  refine gT (Fh (bm rfl _ 0) hen1) ?_
  rintro y b8 ⟨rfl,rfl⟩
  have hb7:b.length+2<b7.length:=(zMo.1 qo).1
  have fe:∀ (l:List aw) Z,(b7++l).set b.length Z=b7.set b.length Z++l:=fun l Z=>bX (by omega) l Z
  have Cr:∀ Z,(b7.set b.length Z)[b.length]? = some Z:=fun Z=>zMt (by omega)
  have fT:∀ Z,(b7.set b.length Z)[b.length+2]? = _:=fun Z=>aH qo (by omega) Z
  have hs3:∀ Y (l:List aw) Z,(b7.set b.length Y++l).set (b.length+2) Z=(b7.set b.length Y).set (b.length+2) Z++l:=fun Y l Z=>bX (by rw[zMr];omega) l Z
  have hs4:∀ Y Z,((b7.set b.length Y).set (b.length+2) Z)[b.length+2]? = some Z:=fun Y Z=>zMt (by rw[zMr];omega)
  simp only[ae,↓Xn,↓Xo,↓Xg,↓Xd,↓Xe,↓Xf,Tryz.VΓ,Tryz.Γs,Xp,Xi,Nat.reduceAdd,Nat.reduceSub,Nat.reduceLT,Nat.reduceLeDiff,reduceIte,reduceCtorEq,Nat.reduceEqDiff,implies_true,forall_const,ad,av,beq_self_eq_true,bne_self_eq_false,Int.reduceBEq,Int.reduceBNe,Int.reduceLT,Int.reduceLE,l3,l6,l7,l8,af qc,fe,af (Cr _),af (fT _),hs3,af (hs4 _ _)]
  have e1:LP=[e0]:=hLP
  refine⟨((cL.set (zMz _) _).set (by omega) _).app _,_,tb,rfl,?_,(fun q n h=>by cases h;omega),by omega,((hx7.set (by omega) _).set (by omega) _).app _⟩
  rw[hpm0,e1]
  refine .inr ⟨b7.length+1,rfl,?_⟩
  have e2:[e0].flatMap enc=enc e0:=by simp
  rw[e2]
  exact bm (by simp) _ 1
 ·have hqb1:=hqb7 q _ rfl
  have pb:=(zMo.1 hq).1
  refine gT (sc_InsN (af hq _) (bm rfl _ 0) (by omega) (zn _ _) hl' (zh hT') hen1) ?_
  rintro y b8 ⟨rfl,rfl⟩
  have hb7:b.length+2<b7.length:=(zMo.1 qo).1
  have n0:q≠b.length:=by rintro rfl;rw[qc]at hq;cases hq
  have n2:q≠b.length+2:=by rintro rfl;rw[qo]at hq;cases hq
  have Dy:∀ (l:List aw) Z,(b7++l).set q Z=b7.set q Z++l:=fun l Z=>bX pb l Z
  have hq0:∀ Y,(b7.set q Y)[b.length]? = _:=fun Y=>aH qc n0 Y
  have fe:∀ Y (l:List aw) Z,(b7.set q Y++l).set b.length Z=(b7.set q Y).set b.length Z++l:=fun Y l Z=>bX (by rw[zMr];omega) l Z
  have Cr:∀ Y Z,((b7.set q Y).set b.length Z)[b.length]? = some Z:=fun Y Z=>zMt (by rw[zMr];omega)
  have fT:∀ Y Z,((b7.set q Y).set b.length Z)[b.length+2]? = _:=fun Y Z=>aH (aH qo n2 Y) (by omega) Z
  have hs3:∀ X Y (l:List aw) Z,((b7.set q X).set b.length Y++l).set (b.length+2) Z=((b7.set q X).set b.length Y).set (b.length+2) Z++l:=fun X Y l Z=>bX (by rw[zMr,zMr];omega) l Z
  have hs4:∀ X Y Z,(((b7.set q X).set b.length Y).set (b.length+2) Z)[b.length+2]? = some Z:=fun X Y Z=>zMt (by rw[zMr,zMr];omega)
  have hins:=enc_ins L' (hJ En.key L' v.id.text) e0
  simp only[ae,↓Xn,↓Xo,↓Xg,↓Xd,↓Xe,↓Xf,Tryz.VΓ,Tryz.Γs,Xp,Xi,Nat.reduceAdd,Nat.reduceSub,Nat.reduceLT,Nat.reduceLeDiff,reduceIte,reduceCtorEq,Nat.reduceEqDiff,implies_true,forall_const,ad,av,beq_self_eq_true,bne_self_eq_false,Int.reduceBEq,Int.reduceBNe,Int.reduceLT,Int.reduceLE,l3,l6,l7,l8,Dy,af (hq0 _),fe,af (Cr _ _),af (fT _ _),hs3,af (hs4 _ _ _)]
  have e1:LP=L'.take (hJ En.key L' v.id.text)++[e0]++L'.drop (hJ En.key L' v.id.text):=by
   rw[hLP,← put_ins ha' (by rw[hkx];exact hh'),hkx]
  have e2:LP.length=L'.length+1:=by
   have:=zn (key:=En.key) L' v.id.text
   rw[e1];simp;omega
  refine⟨(((cL.set hqb1 _).set (zMz _) _).set (by omega) _).app _,_,tb,rfl,?_,(fun q n h=>by cases h;omega),by omega,(((hx7.setE hX hq _).set (by omega) _).set (by omega) _).app _⟩
  rw[hpm0]
  refine .inr ⟨b7.length+1,by rw[e2],?_⟩
  rw[e2,e1,← hins,zMT]
  exact bm (by simp) _ 1
theorem GG {x:SV}{v:Vd}{vb:Bool}(h:hU b x L m)(BA:m=true∨L.length≠0∨x=.aI)(hl:L.length≤1000000)(hT:∀ e∈L,e.v.tr=.aI)(ha:om En.key L)(hv:v.tr=.aI)(Im:cp≤1024)
 (hid:PC Tryz.V 28 [.agg [.int .i64 v.id.kind,.str v.id.text,.str v.id.host,.int .i64 v.id.port]] (.bool vb)) :
 SU Tryz.V 17 [.agg [.int .i64 cp,x],.agg (gi v),.int .u64 now] b (fun r b'=>Kp b b'∧∃ x',r=.agg [.int .i64 cp,x']∧hU b' x' (putV cp L v now vb) true):=by
 have e:{ v with tr:=SV.aI }=v:=by cases v;simp at hv;simp[hv]
 refine(su_PutG (X:=[]) (fun _=>.aI) h BA hl hT ha (by rw[hv];rfl) (by rw[hv];rfl) Im (.inl rfl) (fun _=>rfl) (fun b2 _=>?_) hid).mono ?_
 ·rw[e,zMp]
  exact(uc hv).scs
 ·rintro r b' ⟨hk,x',tb,rfl,hE,-,-⟩
  rw[e]at hE
  exact⟨hk,x',rfl,hE⟩
end
open Go Vc Go.RowKit Wf
theorem xi (n:Int):PC Tryz.V 11 [.int .i64 n] (if n<0∨1024<n then .eR [.agg [.int .i64 0,.aI],.int .i64 4] else .eR [.agg [.int .i64 n,.aI],.int .i64 0]):=by
 split
 ·rename_i h
  refine aQ 3000 Tryz.func11 rfl Tryz.ntmps11 Tryz.results11 Tryz.call11 (by simp) (by simp[flat,flat.ai]) (by simp[flat,flat.ai]) ?_
  by_cases h1:n<0
  ·have hd:decide (n<0)=true:=by simpa using h1
   simp only[ae,↓Xn,↓Xo,↓Xg,↓Xd,↓Xe,↓Xf,Tryz.VΓ,Tryz.Γs,Xp,Xi,Nat.reduceAdd,Nat.reduceSub,Nat.reduceLT,Nat.reduceLeDiff,reduceIte,reduceCtorEq,Nat.reduceEqDiff,implies_true,forall_const,ad,beq_self_eq_true,bne_self_eq_false,Int.reduceBEq,Int.reduceBNe,Int.reduceLT,Int.reduceLE,hd]
  ·have hd:decide (n<0)=false:=by simpa using h1
   have oe:decide (1024<n)=true:=by simp;omega
   simp only[ae,↓Xn,↓Xo,↓Xg,↓Xd,↓Xe,↓Xf,Tryz.VΓ,Tryz.Γs,Xp,Xi,Nat.reduceAdd,Nat.reduceSub,Nat.reduceLT,Nat.reduceLeDiff,reduceIte,reduceCtorEq,Nat.reduceEqDiff,implies_true,forall_const,ad,beq_self_eq_true,bne_self_eq_false,Int.reduceBEq,Int.reduceBNe,Int.reduceLT,Int.reduceLE,hd,oe]
 ·rename_i h
  refine aQ 3000 Tryz.func11 rfl Tryz.ntmps11 Tryz.results11 Tryz.call11 (by simp) (by simp[flat,flat.ai]) (by simp[flat,flat.ai]) ?_
  have hd:decide (n<0)=false:=by simp;omega
  have oe:decide (1024<n)=false:=by simp;omega
  simp only[ae,↓Xn,↓Xo,↓Xg,↓Xd,↓Xe,↓Xf,Tryz.VΓ,Tryz.Γs,Xp,Xi,Nat.reduceAdd,Nat.reduceSub,Nat.reduceLT,Nat.reduceLeDiff,reduceIte,reduceCtorEq,Nat.reduceEqDiff,implies_true,forall_const,ad,beq_self_eq_true,bne_self_eq_false,Int.reduceBEq,Int.reduceBNe,Int.reduceLT,Int.reduceLE,hd,oe]
section
variable {b:List aw} {q:Nat} {L:List En} {m:Bool} {t:Bytes} {cp now:Int}
theorem rL {L:List En}{k:Nat}(hk:k<L.length)(h:decide (now<L[k].aU)=true):og (L.take (k+1)) now=og (L.take k) now++[L[k]]:=by
 unfold og;rw[zMC hk,zMR]
 have:decide (L[k].aU≤now)=false:=by simp at h ⊢;omega
 simp[this]
theorem F0 {L:List En}{k:Nat}(hk:k<L.length)(h:decide (now<L[k].aU)=false):og (L.take (k+1)) now=og (L.take k) now:=by
 unfold og;rw[zMC hk,zMR]
 have:decide (L[k].aU≤now)=true:=by simp at h ⊢;omega
 simp[this]
theorem vN {x:SV}(h:hU b x L m)(hl:L.length≤1000000)(uK:∀ e∈L,one e.v.tr=true) :
 SU Tryz.V 24 [.agg [.int .i64 cp,x],.int .u64 now] b (fun r b'=>Kp b b'∧∃ x',r=.agg [.int .i64 cp,x']∧hU b' x' (og L now) true∧∀ q n,x'=.o q n→b.length≤q):=by
 have hw:=h.within
 have ho:=h.one
 have dw:∀ e,lO (.slice e) x=some (.int .i64 L.length):=fun e=>by
  rcases h with⟨rfl,rfl⟩|⟨q,rfl,-⟩ <;> rfl
 refine GF 3000 Tryz.func24 rfl Tryz.ntmps24 Tryz.results24 Tryz.call24 (by simp) (ax b.length _ (by simp[within,within.aS,hw])) ?_
 simp only[ae,↓Xn,↓Xo,↓Xg,↓Xd,↓Xe,↓Xf,Tryz.VΓ,Tryz.Γs,Xp,Xi,Nat.reduceAdd,Nat.reduceSub,Nat.reduceLT,Nat.reduceLeDiff,reduceIte,reduceCtorEq,Nat.reduceEqDiff,implies_true,forall_const,ad,av,beq_self_eq_true,bne_self_eq_false,Int.reduceBEq,Int.reduceBNe,Int.reduceLT,Int.reduceLE,ho,dw]
 refine aL (fun σ=>∃ (k:Nat) (x1:SV),lk 1 σ.t=some (.int .u64 now)∧lk 4 σ.t=some (.p (b.length+1) 0)∧lk 5 σ.t=some (.p (b.length+2) 0)∧lk 12 σ.t=some x∧lk 13 σ.t=some (.int .i64 L.length)∧lk 14 σ.t=some (.int .i64 k)∧k≤L.length∧Kp b σ.b∧σ.b[b.length+1]? = some (.cells [.int .i64 0,.aI] 24 true)∧σ.b[b.length+2]? = some (.cells [.int .i64 cp,x1] 24 true)∧hU σ.b x1 (og (L.take k) now) true∧∀ q n,x1=.o q n→b.length≤q) (fun σ=>L.length - ji 14 σ) ?_ ?_
 ·exact⟨0,.aI,rfl,rfl,rfl,rfl,rfl,rfl,by omega,(Kp.refl _).app _,bm rfl _ 1,bm rfl _ 2,.inl ⟨rfl,rfl⟩,fun q n h=>by cases h⟩
 ·rintro⟨t',b1⟩ ⟨k,x1,l1,l4,l5,l12,l13,l14,hk,cL,q1,q2,hE,wy⟩
  simp only at l1 l4 l5 l12 l13 l14 cL q1 q2 hE
  rw[az l14]
  have ho1:=hE.one
  by_cases c:k<L.length
  ·have ci:decide ((k:Int)<(L.length:Int))=true:=by simpa using c
   obtain⟨q,rfl,hq⟩:∃ q,x=.o q L.length∧b[q]? = some (.own (L.flatMap enc) 43 14 L.length m):=by
    rcases h with⟨rfl,rfl⟩|h
    ·simp at c
    ·exact h
   have ct:=cL.at hq
   have dD:=ir L k c
   have dP:(enc L[k]).length=14:=rfl
   have eo:(enc L[k]).take 14=enc L[k]:=zMy (by rw[dP];omega)
   have hex:(enc L[k])[13]? = some (.int .u64 L[k].aU):=rfl
   have gP:(enc L[k]).all one=true:=by
    have:=uK _ (zMG c)
    simp[enc,one]at this ⊢;exact this
   cases hd:decide (now<L[k].aU)
   ·simp only[ae,↓Xn,↓Xo,↓Xg,↓Xd,↓Xe,↓Xf,Tryz.VΓ,Tryz.Γs,Xp,Xi,Nat.reduceAdd,Nat.reduceSub,Nat.reduceLT,Nat.reduceLeDiff,reduceIte,reduceCtorEq,Nat.reduceEqDiff,implies_true,forall_const,ad,av,beq_self_eq_true,bne_self_eq_false,Int.reduceBEq,Int.reduceBNe,Int.reduceLT,Int.reduceLE,l1,l4,l5,l12,l13,l14,ci,ct,dD,dP,eo,hex,hd,zMq,zMx,zMv,zMp]
    refine⟨⟨by omega,by omega⟩,by rw[aM];omega,gP,by omega,⟨k+1,x1,rfl,by omega,cL.app _,af q1 _,af q2 _,by rw[F0 c hd];exact hE.kp ((Kp.refl _).app _),wy⟩,?_⟩
    rw[az (show lk 14 _=some (.int .i64 ((k+1:Nat):Int)) from rfl)];omega
   ·have kG:b.length+2<b1.length:=(zMo.1 q2).1
    have fe:∀ (l:List aw) Z,(b1++l).set (b.length+2) Z=b1.set (b.length+2) Z++l:=fun l Z=>bX kG l Z
    have jN:(og (L.take k) now).length≤k:=by
     refine zMI (zML _ _) ?_
     rw[zMA];omega
    rcases hE with⟨rfl,zD⟩|⟨q3,rfl,lQ⟩
    ·simp only[ae,↓Xn,↓Xo,↓Xg,↓Xd,↓Xe,↓Xf,Tryz.VΓ,Tryz.Γs,Xp,Xi,Nat.reduceAdd,Nat.reduceSub,Nat.reduceLT,Nat.reduceLeDiff,reduceIte,reduceCtorEq,Nat.reduceEqDiff,implies_true,forall_const,ad,av,beq_self_eq_true,bne_self_eq_false,Int.reduceBEq,Int.reduceBNe,Int.reduceLT,Int.reduceLE,l1,l4,l5,l12,l13,l14,ci,ct,dD,dP,eo,hex,hd,af q2,fe,zMq,zMx,zMv,zMp]
     have e1:og (L.take (k+1)) now=[L[k]]:=by rw[rL c hd,zD];rfl
     refine⟨⟨by omega,by omega⟩,by rw[aM];omega,gP,by decide,⟨gP,by decide,by decide⟩,by omega,⟨k+1,_,rfl,by omega,(cL.set (by omega) _).app _,af (aH q1 (by omega) _) _,af (zMt kG) _,.inr ⟨b1.length+2,by rw[e1];rfl,by rw[e1,show [L[k]].flatMap enc=enc L[k] by simp];exact bm (by simp) _ 2⟩,fun q n h=>by cases h;omega⟩,?_⟩
     rw[az (show lk 14 _=some (.int .i64 ((k+1:Nat):Int)) from rfl)];omega
    ·have oS:=(zMo.1 lQ).1
     have n2:q3≠b.length+2:=by rintro rfl;rw[q2]at lQ;cases lQ
     have n1:q3≠b.length+1:=by rintro rfl;rw[q1]at lQ;cases lQ
     have Dy:∀ (l:List aw) Z,(b1++l).set q3 Z=b1.set q3 Z++l:=fun l Z=>bX oS l Z
     have fT:∀ Y (l:List aw) Z,(b1.set q3 Y++l).set (b.length+2) Z=(b1.set q3 Y).set (b.length+2) Z++l:=fun Y l Z=>bX (by rw[zMr];omega) l Z
     have hg2:∀ Y,(b1.set q3 Y)[b.length+2]? = _:=fun Y=>aH q2 n2 Y
     simp only[ae,↓Xn,↓Xo,↓Xg,↓Xd,↓Xe,↓Xf,Tryz.VΓ,Tryz.Γs,Xp,Xi,Nat.reduceAdd,Nat.reduceSub,Nat.reduceLT,Nat.reduceLeDiff,reduceIte,reduceCtorEq,Nat.reduceEqDiff,implies_true,forall_const,ad,av,beq_self_eq_true,bne_self_eq_false,Int.reduceBEq,Int.reduceBNe,Int.reduceLT,Int.reduceLE,l1,l4,l5,l12,l13,l14,ci,ct,dD,dP,eo,hex,hd,af q2,af lQ,fe,Dy,fT,af (hg2 _),zMq,zMx,zMv,zMp]
     have e1:(og (L.take (k+1)) now).length=(og (L.take k) now).length+1:=by rw[rL c hd];simp
     have e2:(og (L.take (k+1)) now).flatMap enc=(og (L.take k) now).flatMap enc++enc L[k]:=by rw[rL c hd];simp
     refine⟨⟨by omega,by omega⟩,by rw[aM];omega,gP,by decide,⟨gP,by unfold maxLen;omega,by omega⟩,by omega,⟨k+1,_,rfl,by omega,((cL.set (wy _ _ rfl) _).set (by omega) _).app _,af (aH (aH q1 n1 _) (by omega) _) _,af (zMt (by rw[zMr];omega)) _,.inr ⟨b1.length+2,by rw[e1],by rw[e1,e2];exact bm (by simp) _ 2⟩,fun q n h=>by cases h;omega⟩,?_⟩
     rw[az (show lk 14 _=some (.int .i64 ((k+1:Nat):Int)) from rfl)];omega
  ·have ci:decide ((k:Int)<(L.length:Int))=false:=by simpa using c
   obtain rfl:k=L.length:=by omega
   rw[zMO]at hE
   have hs:∀ X,(b1.set (b.length+1) X)[b.length+1]? = some X:=fun X=>zMt (zMo.1 q1).1
   simp only[ae,↓Xn,↓Xo,↓Xg,↓Xd,↓Xe,↓Xf,Tryz.VΓ,Tryz.Γs,Xp,Xi,Nat.reduceAdd,Nat.reduceSub,Nat.reduceLT,Nat.reduceLeDiff,reduceIte,reduceCtorEq,Nat.reduceEqDiff,implies_true,forall_const,ad,av,beq_self_eq_true,bne_self_eq_false,Int.reduceBEq,Int.reduceBNe,Int.reduceLT,Int.reduceLE,l1,l4,l5,l12,l13,l14,ci,q1,q2,hs,ho1]
   exact⟨cL.set (by omega) _,_,rfl,hE.CJ (by rintro q hq rfl;rw[q1]at hq;cases hq) _,wy⟩
theorem vR {x:SV}(h:hU b x L m)(hl:L.length≤1000000)(uK:∀ e∈L,one e.v.tr=true) :
 SC Tryz.V 24 [.agg [.int .i64 cp,x],.int .u64 now] b (fun r b'=>Kp b b'∧∃ x',r=.agg [.int .i64 cp,x']∧hU b' x' (og L now) true∧∀ q n,x'=.o q n→b.length≤q):=(vN h hl uK).sc
end
open Go Vc Go.RowKit Wf
section
variable {b:List aw} {v u:Vd}
theorem kJ (h1:one v.tr=true)(hw:within b.length v.tr=true):SC Tryz.V 30 [.agg (gi v)] b (fun r b'=>r=.bool (iJ v&&cR v.id)∧b'=b):=by
 refine fD rfl ?_
 have hid:=yE v.id
 unfold iA at hid
 obtain⟨vb,hvb⟩:∃ vb,vb=cR v.id:=⟨_,rfl⟩
 rw[← hvb]at hid ⊢
 unfold gi iJ
 refine cV 3000 Tryz.func30 rfl Tryz.ntmps30 Tryz.results30 Tryz.call30 (by simp) (ax b.length _ (by simp[within,within.aS,hw])) ?_
 generalize v.store=s
 cases c1:v.err==0
 ·simp only[ae,↓Xn,↓Xo,↓Xg,↓Xd,↓Xe,↓Xf,Tryz.VΓ,Tryz.Γs,Xp,Xi,Nat.reduceAdd,Nat.reduceSub,Nat.reduceLT,Nat.reduceLeDiff,reduceIte,reduceCtorEq,Nat.reduceEqDiff,implies_true,forall_const,ad,av,beq_self_eq_true,bne_self_eq_false,Int.reduceBEq,Int.reduceBNe,Int.reduceLT,Int.reduceLE,h1,c1]
  exact(Kp.refl _).app _
 ·cases s
  ·simp only[ae,↓Xn,↓Xo,↓Xg,↓Xd,↓Xe,↓Xf,Tryz.VΓ,Tryz.Γs,Xp,Xi,Nat.reduceAdd,Nat.reduceSub,Nat.reduceLT,Nat.reduceLeDiff,reduceIte,reduceCtorEq,Nat.reduceEqDiff,implies_true,forall_const,ad,av,beq_self_eq_true,bne_self_eq_false,Int.reduceBEq,Int.reduceBNe,Int.reduceLT,Int.reduceLE,h1,c1]
   exact(Kp.refl _).app _
  ·cases c2:decide (1≤v.de)
   ·simp only[ae,↓Xn,↓Xo,↓Xg,↓Xd,↓Xe,↓Xf,Tryz.VΓ,Tryz.Γs,Xp,Xi,Nat.reduceAdd,Nat.reduceSub,Nat.reduceLT,Nat.reduceLeDiff,reduceIte,reduceCtorEq,Nat.reduceEqDiff,implies_true,forall_const,ad,av,beq_self_eq_true,bne_self_eq_false,Int.reduceBEq,Int.reduceBNe,Int.reduceLT,Int.reduceLE,h1,c1,c2]
    exact(Kp.refl _).app _
   ·cases c3:decide (v.de≤86400)
    ·simp only[ae,↓Xn,↓Xo,↓Xg,↓Xd,↓Xe,↓Xf,Tryz.VΓ,Tryz.Γs,Xp,Xi,Nat.reduceAdd,Nat.reduceSub,Nat.reduceLT,Nat.reduceLeDiff,reduceIte,reduceCtorEq,Nat.reduceEqDiff,implies_true,forall_const,ad,av,beq_self_eq_true,bne_self_eq_false,Int.reduceBEq,Int.reduceBNe,Int.reduceLT,Int.reduceLE,h1,c1,c2,c3]
     exact(Kp.refl _).app _
    ·simp only[ae,↓Xn,↓Xo,↓Xg,↓Xd,↓Xe,↓Xf,Tryz.VΓ,Tryz.Γs,Xp,Xi,Nat.reduceAdd,Nat.reduceSub,Nat.reduceLT,Nat.reduceLeDiff,reduceIte,reduceCtorEq,Nat.reduceEqDiff,implies_true,forall_const,ad,av,beq_self_eq_true,bne_self_eq_false,Int.reduceBEq,Int.reduceBNe,Int.reduceLT,Int.reduceLE,h1,c1,c2,c3]
     refine aa hid ?_
     simp only[ae,↓Xn,↓Xo,↓Xg,↓Xd,↓Xe,↓Xf,Tryz.VΓ,Tryz.Γs,Xp,Xi,Nat.reduceAdd,Nat.reduceSub,Nat.reduceLT,Nat.reduceLeDiff,reduceIte,reduceCtorEq,Nat.reduceEqDiff,implies_true,forall_const,ad,av,beq_self_eq_true,bne_self_eq_false,Int.reduceBEq,Int.reduceBNe,Int.reduceLT,Int.reduceLE,h1,c1,c2,c3]
     exact(Kp.refl _).app _
end
open Go Vc Go.RowKit Wf Go.Shelf Go.Lib
structure Xc where
 h:Bytes
 p:Int
 pa:Bytes
 q:Bytes
 f:Bytes
 hq:Bool
 hf:Bool
 st:Int
 er:Int
def xc (x:Xc):List SV:=[.str x.h,.int .i64 x.p,.str x.pa,.str x.q,.str x.f,.bool x.hq,.bool x.hf,.int .i64 x.st,.int .i64 x.er]
theorem xc_at (R:List Xc)(k:Nat)(h:k<R.length):((R.flatMap xc).drop (k * 9)).take 9=xc R[k]:=yp xc 9 (fun _=>rfl) R k h
theorem xc_len (R:List Xc):(R.flatMap xc).length=R.length * 9:=pK xc 9 (fun _=>rfl) R
def Gc (b:List aw)(x:SV)(R:List Xc):Prop:=(x=.aI∧R=[])∨∃ q m,x=.o q R.length∧b[q]? = some (.own (R.flatMap xc) 93 9 R.length m)
theorem Gc.kp {b b':List aw}{x:SV}{R:List Xc}(h:Gc b x R)(k:Kp b b'):Gc b' x R:=by
 rcases h with h|⟨q,m,rfl,hq⟩
 ·exact .inl h
 ·exact .inr ⟨q,m,rfl,k.at hq⟩
theorem Gc.one {b:List aw}{x:SV}{R:List Xc}(h:Gc b x R):Vc.one x=true:=by
 rcases h with⟨rfl,-⟩|⟨q,m,rfl,-⟩ <;> rfl
theorem Gc.within {b:List aw}{x:SV}{R:List Xc}(h:Gc b x R):within b.length x=true:=by
 rcases h with⟨rfl,-⟩|⟨q,m,rfl,hq⟩
 ·rfl
 ·simpa[Vc.within] using(zMo.1 hq).1
theorem Gc.len {b:List aw}{x:SV}{R:List Xc}(h:Gc b x R)(e:TypeId):lO (.slice e) x=some (.int .i64 R.length):=by
 rcases h with⟨rfl,rfl⟩|⟨q,m,rfl,-⟩ <;> rfl
open Go Vc Go.RowKit Wf
def oF (n:Nat):Bytes:=([97,99,99,116,58,117]:List UInt8)++([UInt8.ofNat (97+n % 20)]++([64,97,46,101,120,97,109,112,108,101]:List UInt8))
def vId (n:Nat):jt:=⟨1,oF n,([97,46,101,120,97,109,112,108,101]:List UInt8),0⟩
def vV (n:Nat)(s:Int):Vd:=⟨0,vId n,jt.none,true,s,.aI⟩
theorem zK (n:Nat):oF (n % 20)=oF n:=by simp[oF]
theorem vId_mod (n:Nat):vId (n % 20)=vId n:=by simp[vId,zK]
theorem wO (n:Nat):bI (oF n)=(vId n,0):=by
 have h:∀ m<20,bI (oF m)=(vId m,0):=by decide +kernel
 have:=h (n % 20) (Nat.mod_lt _ (by decide))
 rwa [zK,vId_mod]at this
theorem wN (n:Nat):cR (vId n)=true:=by
 unfold cR
 rw[decide_eq_true_eq]
 exact wO n
theorem kK (n:Nat)(s:Int)(hn:n<1000):PC Tryz.V 16 [.int .i64 n,.int .u64 s] (.agg (gi (vV n s))):=by
 have hp:=sk (oF n)
 rw[wO n]at hp
 unfold iA vId oF at hp
 unfold gi vV vId oF jt.none
 have hr:rN .rem .i64 (n:Int) 20=((n % 20:Nat):Int):=by
  have:rN .rem .i64 (n:Int) 20=(n:Int) % 20:=Int.tmod_eq_emod_of_nonneg (a:=(n:Int)) (b:=20) (by omega)
  rw[this];omega
 have aC:n % 20<20:=Nat.mod_lt _ (by decide)
 have hw:IntKind.u8.wrap (97+((n % 20:Nat):Int))=((97+n % 20:Nat):Int):=by
  simp[IntKind.wrap,IntKind.bits,IntKind.signed];omega
 have hu:vM (.int .u8 ((97+n % 20:Nat):Int))=UInt8.ofNat (97+n % 20):=by
  show UInt8.ofNat (((97+n % 20:Nat):Int)).toNat=_
  rw[Int.toNat_natCast]
 refine aQ 3000 Tryz.func16 rfl Tryz.ntmps16 Tryz.results16 Tryz.call16 (by simp) (by simp[flat,flat.ai]) (by simp[flat,flat.ai]) ?_
 simp only[ae,↓Xn,↓Xo,↓Xg,↓Xd,↓Xe,↓Xf,Tryz.VΓ,Tryz.Γs,Xp,Xi,Nat.reduceAdd,Nat.reduceSub,Nat.reduceLT,Nat.reduceLeDiff,reduceIte,reduceCtorEq,Nat.reduceEqDiff,implies_true,forall_const,ad,Dj,beq_self_eq_true,bne_self_eq_false,Int.reduceBEq,Int.reduceBNe,Int.reduceLT,Int.reduceLE,hr,hw,hu]
 refine⟨by decide,⟨by omega,by omega⟩,by decide,by simp[Dk];omega,?_⟩
 (refine aa (hp) ?_;simp only[ae,↓Xn,↓Xo,↓Xg,↓Xd,↓Xe,↓Xf,Tryz.VΓ,Tryz.Γs,Xp,Xi,Nat.reduceAdd,Nat.reduceSub,Nat.reduceLT,Nat.reduceLeDiff,reduceIte,reduceCtorEq,Nat.reduceEqDiff,implies_true,forall_const,ad,beq_self_eq_true,bne_self_eq_false,Int.reduceBEq,Int.reduceBNe,Int.reduceLT,Int.reduceLE])
section
variable {E:Type} {key:E→Bytes} {ex:E→Int}
def du (p:Nat→E→Bool)(L:List E):Nat→List E
 | 0=>[]
 | j+1=>du p L j++((L[j]?).toList.filter (p j))
theorem fF {p:Nat→E→Bool}{L:List E}{j:Nat}(hj:j<L.length)(h:p j L[j]=true):du p L (j+1)=du p L j++[L[j]]:=by
 simp[du,hj,h]
theorem xB {p:Nat→E→Bool}{L:List E}{j:Nat}(hj:j<L.length)(h:p j L[j]=false):du p L (j+1)=du p L j:=by
 simp[du,hj,h]
theorem yW (p:Nat→E→Bool)(L:List E):∀ j,(du p L j).length≤j
 | 0=>by simp[du]
 | j+1=>by
   have:=yW p L j
   simp only[du,zMu]
   have h2:((L[j]?).toList.filter (p j)).length≤1:=zMI (zML _ _) (by cases L[j]? <;> simp)
   omega
theorem nu (f:E→Bool)(L:List E):∀ j,j≤L.length→du (fun _=>f) L j=(L.take j).filter f
 | 0,_=>by simp[du]
 | j+1,h=>by
   have hj:j<L.length:=by omega
   rw[du,nu f L j (by omega),zMC hj,zMR]
   simp[hj]
theorem uB (L:List E)(q:Nat):∀ j,j≤L.length→du (fun i _=>i != q) L j=(L.take j).eraseIdx q
 | 0,_=>by simp[du]
 | j+1,h=>by
   have hj:j<L.length:=by omega
   have hl:(L.take j).length=j:=by rw[zMA];omega
   rw[du,uB L q j (by omega),zMC hj]
   by_cases c:j=q
   ·subst c
    rw[List.eraseIdx_append_of_length_le (by omega),hl]
    simp[hj,List.eraseIdx_of_length_le (by omega:(L.take j).length≤j)]
   ·by_cases c2:q<j
    ·rw[List.eraseIdx_append_of_lt_length (by omega)]
     simp[hj,c]
    ·rw[List.eraseIdx_append_of_length_le (by omega),hl,List.eraseIdx_of_length_le (by omega:(L.take j).length≤q)]
     obtain⟨d,hd⟩:∃ d,q - j=d+1:=⟨q - j - 1,by omega⟩
     rw[hd]
     simp[hj,c]
theorem uC {p p':Nat→E→Bool}{L:List E}(h:∀ i (hi:i<L.length),p i L[i]=p' i L[i]):∀ j,j≤L.length→du p L j=du p' L j
 | 0,_=>rfl
 | j+1,hj=>by
   have hl:j<L.length:=by omega
   rw[du,du,uC h j (by omega)]
   have e:(L[j]?).toList=[L[j]]:=by simp[hl]
   rw[e,List.filter_cons,List.filter_cons,h j hl]
   rfl
def dX (X:List Int)(k:Nat):Int:=if k=0 then -1 else eC X k
theorem sw {L:List E}{x:E}:kA key (L.filter fun y=>key y != key x) x=kA key L x:=by
 unfold kA
 rw[List.filter_filter,List.filter_filter]
 congr 2
 ·congr 2
  funext y
  cases h:blt (key y) (key x)
  ·simp
  ·simp[rQ h]
 ·funext y
  cases h:blt (key x) (key y)
  ·simp
  ·simp[Ne.symm (rQ h)]
def fP (key:E→Bytes)(t:Bytes)(a:Bool)(q:Int)(i:Nat)(y:E):Bool:=key y != t&&(a||(i:Int) != q)
theorem FE {L:List E}{x:E}{cap:Int}(hL:0<L.length):kA key (du (fP key (key x) (dQ key L (key x)||decide ((L.length:Int)<cap)) (dX (L.map ex) L.length)) L L.length) x=jz key ex cap L x:=by
 unfold jz
 cases hh:dQ key L (key x)
 ·have iT:∀ y∈L,(key y != key x)=true:=fun y hy=>by
   rw[bne_iff_ne];intro e
   rw[← Bool.not_eq_true,lh]at hh
   exact hh ⟨y,hy,e⟩
  by_cases hc:(L.length:Int)<cap
  ·rw[if_pos (.inr hc)]
   have:du (fP key (key x) (false||decide ((L.length:Int)<cap)) (dX (L.map ex) L.length)) L L.length=L.filter fun y=>key y != key x:=by
    have h2:fP key (key x) (false||decide ((L.length:Int)<cap)) (dX (L.map ex) L.length)=fun _ y=>key y != key x:=by
     funext i y;simp[fP,hc]
    rw[h2,nu _ L _ (zMz _),zMO]
   rw[this,sw]
  ·rw[if_neg (by simp[hc])]
   congr 1
   have hq:dX (L.map ex) L.length=((eC (L.map ex) L.length:Nat):Int):=by unfold dX;rw[if_neg (by omega)]
   rw[uC (p':=fun i _=>i != eC (L.map ex) L.length) (fun i hi=>?_) _ (zMz _),uB _ _ _ (zMz _),zMO]
   unfold fP
   rw[iT _ (zMG hi),hq]
   have hc':decide ((L.length:Int)<cap)=false:=by simpa using hc
   rw[hc',Bool.eq_iff_iff]
   simp only[Bool.or_self,Bool.false_or,Bool.true_and,bne_iff_ne]
   omega
 ·rw[if_pos (.inl rfl)]
  have:du (fP key (key x) (true||decide ((L.length:Int)<cap)) (dX (L.map ex) L.length)) L L.length=L.filter fun y=>key y != key x:=by
   have h2:fP key (key x) (true||decide ((L.length:Int)<cap)) (dX (L.map ex) L.length)=fun _ y=>key y != key x:=by
    funext i y;simp[fP]
   rw[h2,nu _ L _ (zMz _),zMO]
  rw[this,sw]
end
open Go Vc Go.RowKit Wf
section
variable {b:List aw} {q:Nat} {L:List En} {m:Bool} {t:Bytes} {cp now:Int}
structure R1 (b:List aw) (cp:Int) (v:Vd) (x:SV) (b1:List aw):Prop where
 kp:Kp b b1
 c:b1[b.length]? = some (.cells [.int .i64 cp,x] 24 true)
 v:b1[b.length+1]? = some (.cells (gi v) 41 true)
 o:b1[b.length+2]? = some (.cells [.int .i64 0,.aI] 24 true)
theorem R1.app {b b1:List aw}{cp:Int}{v:Vd}{x:SV}(h:R1 b cp v x b1)(l:List aw):R1 b cp v x (b1++l):=⟨h.kp.app _,af h.c _,af h.v _,af h.o _⟩
theorem R1.set {b b1:List aw}{cp:Int}{v:Vd}{x:SV}(h:R1 b cp v x b1){k:Nat}(hk:b.length+2<k)(X:aw):R1 b cp v x (b1.set k X):=⟨h.kp.set (by omega) _,aH h.c (by omega) _,aH h.v (by omega) _,aH h.o (by omega) _⟩
structure R2 (b:List aw) (n:Nat) (cp:Int) (v:Vd) (now:Int) (x1:SV) (KL:List En) (x2:SV) (M:List En) (b1:List aw):Prop where
 lt:b.length+2<n
 kp:Kp b b1
 vv:b1[b.length+1]? = some (.cells (gi v) 41 true)
 o:b1[b.length+2]? = some (.cells [.int .i64 0,.aI] 24 true)
 u:b1[n]? = some (.cells [.int .i64 cp,x2] 24 true)
 e:b1[n+1]? = some (.cells (enc (pZ v now)) 43 true)
 h1:hU b1 x1 KL true
 h2:hU b1 x2 M true
 q1:∀ q k,x1=.o q k→b.length+2<q∧q<n
 q2:∀ q k,x2=.o q k→n+1<q
section
variable {n:Nat} {v:Vd} {x1 x2 x3:SV} {KL M M':List En} {b1:List aw}
theorem R2.app (h:R2 b n cp v now x1 KL x2 M b1)(l:List aw):R2 b n cp v now x1 KL x2 M (b1++l):=⟨h.lt,h.kp.app _,af h.vv _,af h.o _,af h.u _,af h.e _,h.h1.kp ((Kp.refl _).app _),h.h2.kp ((Kp.refl _).app _),h.q1,h.q2⟩
theorem hU.setN {b:List aw}{x:SV}{L:List En}{m:Bool}(h:hU b x L m){k:Nat}(hk:∀ q n,x=.o q n→k≠q)(X:aw):hU (b.set k X) x L m:=by
 rcases h with h|⟨q,rfl,hq⟩
 ·exact .inl h
 ·exact .inr ⟨q,rfl,aH hq (hk q _ rfl) _⟩
theorem R2.new (h:R2 b n cp v now x1 KL .aI M b1){l:List aw}{j:Nat}(hj:j<l.length)(hl:(b1++l).length=b1.length+l.length)(hx:l[j]? = some (.own (M'.flatMap enc) 43 14 M'.length true)):R2 b n cp v now x1 KL (.o (b1.length+j) M'.length) M' (b1.set n (.cells [.int .i64 cp,.o (b1.length+j) M'.length] 24 true)++l):=by
 have aC:=h.lt
 have hn:n<b1.length:=(zMo.1 h.u).1
 have Gl:n+1<b1.length:=(zMo.1 h.e).1
 refine⟨aC,(h.kp.set (by omega) _).app _,af (aH h.vv (by omega) _) _,af (aH h.o (by omega) _) _,af (zMt hn) _,af (aH h.e (by omega) _) _,(h.h1.setN (fun q k e=>by have:=(h.q1 q k e).2;omega) _).kp ((Kp.refl _).app _),.inr ⟨_,rfl,?_⟩,h.q1,fun q k e=>by cases e;omega⟩
 rw[List.getElem?_append_right (by rw[zMr];omega),zMr,zMH]
 exact hx
theorem R2.more {q k:Nat}(h:R2 b n cp v now x1 KL (.o q k) M b1){l:List aw}{j:Nat}(hx:l[j]? = some (.own (M'.flatMap enc) 43 14 M'.length true)):R2 b n cp v now x1 KL (.o (b1.length+j) M'.length) M' ((b1.set q .gone).set n (.cells [.int .i64 cp,.o (b1.length+j) M'.length] 24 true)++l):=by
 have aC:=h.lt
 have hn:n<b1.length:=(zMo.1 h.u).1
 have Gl:n+1<b1.length:=(zMo.1 h.e).1
 have hq:=h.q2 q k rfl
 refine⟨aC,((h.kp.set (by omega) _).set (by omega) _).app _,af (aH (aH h.vv (by omega) _) (by omega) _) _,af (aH (aH h.o (by omega) _) (by omega) _) _,af (zMt (by rw[zMr];exact hn)) _,af (aH (aH h.e (by omega) _) (by omega) _) _,((h.h1.setN (fun q k e=>by have:=(h.q1 q k e).2;omega) _).setN (fun q k e=>by have:=(h.q1 q k e).2;omega) _).kp ((Kp.refl _).app _),.inr ⟨_,rfl,?_⟩,h.q1,fun q k e=>by cases e;omega⟩
 rw[List.getElem?_append_right (by rw[zMr,zMr];omega),zMr,zMr,zMH]
 exact hx
theorem R2.Hk {q:Nat}{x:En}(h:R2 b n cp v now x1 KL (.o q M.length) M b1){l:List aw}{j k:Nat}(hk:k=M.length+1)(hx:l[j]? = some (.own (M.flatMap enc++enc x) 43 14 k true)):R2 b n cp v now x1 KL (.o (b1.length+j) k) (M++[x]) ((b1.set q .gone).set n (.cells [.int .i64 cp,.o (b1.length+j) k] 24 true)++l):=by
 subst hk
 have e:(M++[x]).length=M.length+1:=by simp
 rw[← e]at hx ⊢
 exact h.more (by simpa using hx)
end
theorem Bh {E:Type}{p:Nat→E→Bool}{L:List E}{y:E}:∀ j,y∈du p L j→y∈L
 | 0,h=>by simp[du]at h
 | j+1,h=>by
   rw[du,List.mem_append]at h
   rcases h with h|h
   ·exact Bh j h
   ·have:=(List.mem_filter.1 h).1
    rw[Option.mem_toList]at this
    exact List.mem_of_getElem? this
theorem BP {E:Type}{f:E→Bool}{L:List E}{k:Nat}(hk:k<L.length)(h:f L[k]=true):(L.take (k+1)).filter f=(L.take k).filter f++[L[k]]:=by
 rw[zMC hk,zMR];simp[h]
theorem BO {E:Type}{f:E→Bool}{L:List E}{k:Nat}(hk:k<L.length)(h:f L[k]=false):(L.take (k+1)).filter f=(L.take k).filter f:=by
 rw[zMC hk,zMR];simp[h]
theorem blt_gt (a t:Bytes):(!(blt a t||a==t))=blt t a:=by
 cases h:blt a t
 ·by_cases e:a=t
  ·subst e;simp[mf]
  ·rcases qE e with h1|h1
   ·rw[h]at h1;cases h1
   ·simp[e,h1]
 ·simp[ES h]
def kz (L:List En)(t:Bytes):Int:=if dQ En.key L t then -2 else dX (oh L) L.length
theorem CC {x:SV}{v:Vd}{cb:Bool}(h:hU b x L m)(hl:L.length≤1000000)(uK:∀ e∈L,Vc.one e.v.tr=true)(hv1:Vc.one v.tr=true)(hvw:within b.length v.tr=true)
 (hcb:SC Tryz.V 30 [.agg (gi v)] (b++[.cells [.int .i64 cp,x] 24 true,.cells (gi v) 41 true,.cells [.int .i64 0,.aI] 24 true]) (fun r b2=>r=.bool cb∧b2=(b++[.cells [.int .i64 cp,x] 24 true,.cells (gi v) 41 true,.cells [.int .i64 0,.aI] 24 true])))
 (lS:PC Tryz.V 31 [.int .u64 now,.int .u64 v.de] (.int .u64 (iV now v.de))) :
 SU Tryz.V 19 [.agg [.int .i64 cp,x],.agg (gi v),.int .u64 now] b (fun r b'=>Kp b b'∧∃ x' m',r=.agg [.int .i64 cp,x']∧hU b' x' (if cb&&!(cp==0) then kA En.key (du (fP En.key v.id.text (dQ En.key L v.id.text||decide ((L.length:Int)<cp)) (dX (oh L) L.length)) L L.length) (pZ v now) else L) m'∧(m'=true∨x'=x∧m'=m)):=by
 have hw:=h.within
 have ho:=h.one
 have hvl:(gi v).length=12:=rfl
 have hv1':(gi v).all Vc.one=true:=by simp[gi,Vc.one]at hv1 ⊢;exact hv1
 have hvt:(gi v).take 12=gi v:=zMy (by rw[hvl];omega)
 have hvw':within.aS b.length (gi v)=true:=by simp[gi,within,within.aS,hvw]
 have dw:∀ e,lO (.slice e) x=some (.int .i64 L.length):=fun e=>by
  rcases h with⟨rfl,rfl⟩|⟨q,rfl,-⟩ <;> rfl
 obtain⟨LP,hLP⟩:∃ LP,LP=(if cb&&!(cp==0) then kA En.key (du (fP En.key v.id.text (dQ En.key L v.id.text||decide ((L.length:Int)<cp)) (dX (oh L) L.length)) L L.length) (pZ v now) else L):=⟨_,rfl⟩
 rw[← hLP]
 refine GF 3000 Tryz.func19 rfl Tryz.ntmps19 Tryz.results19 Tryz.call19 (by simp) (ax b.length _ (by simp[within,within.aS,hw,hvw'])) ?_
 refine bc 2900 (fun σ=>lk 2 σ.t=some (.int .u64 now)∧lk 3 σ.t=some (.p b.length 0)∧lk 4 σ.t=some (.p (b.length+1) 0)∧lk 6 σ.t=some (.p (b.length+2) 0)∧σ.b=b++[.cells [.int .i64 cp,x] 24 true,.cells (gi v) 41 true,.cells [.int .i64 0,.aI] 24 true]) ?_ (fun k' hk'=>?_)
 rotate_left
 ·simp only[ae,↓Xn,↓Xo,↓Xg,↓Xd,↓Xe,↓Xf,Tryz.VΓ,Tryz.Γs,Xp,Xi,Nat.reduceAdd,Nat.reduceSub,Nat.reduceLT,Nat.reduceLeDiff,reduceIte,reduceCtorEq,Nat.reduceEqDiff,implies_true,forall_const,ad,av,beq_self_eq_true,bne_self_eq_false,Int.reduceBEq,Int.reduceBNe,Int.reduceLT,Int.reduceLE,ho,hv1',hvl]
  exact hk' _ _ ⟨rfl,rfl,rfl,rfl,rfl⟩
 rintro m1 ⟨t1,b1⟩ ⟨l2,l3,l4,l6,rfl⟩
 simp only at l2 l3 l4 l6
 refine bc 2800 (fun σ=>lk 2 σ.t=some (.int .u64 now)∧lk 3 σ.t=some (.p b.length 0)∧lk 4 σ.t=some (.p (b.length+1) 0)∧lk 6 σ.t=some (.p (b.length+2) 0)∧R1 b cp v x σ.b∧(cb&&!(cp==0))=true) ?_ (fun k' hk'=>?_)
 rotate_left
 ·simp only[ae,↓Xn,↓Xo,↓Xg,↓Xd,↓Xe,↓Xf,Tryz.VΓ,Tryz.Γs,Xp,Xi,Nat.reduceAdd,Nat.reduceSub,Nat.reduceLT,Nat.reduceLeDiff,reduceIte,reduceCtorEq,Nat.reduceEqDiff,implies_true,forall_const,ad,av,beq_self_eq_true,bne_self_eq_false,Int.reduceBEq,Int.reduceBNe,Int.reduceLT,Int.reduceLE,l3,l4,hvl,hvt]
  refine Cc (R:=fun r b2=>r=.bool cb∧b2=_) (SU.of hcb ⟨rfl,rfl⟩) ?_
  rintro y b2 ⟨rfl,rfl⟩
  cases tz:cb
  ·simp only[ae,↓Xn,↓Xo,↓Xg,↓Xd,↓Xe,↓Xf,Tryz.VΓ,Tryz.Γs,Xp,Xi,Nat.reduceAdd,Nat.reduceSub,Nat.reduceLT,Nat.reduceLeDiff,reduceIte,reduceCtorEq,Nat.reduceEqDiff,implies_true,forall_const,ad,av,beq_self_eq_true,bne_self_eq_false,Int.reduceBEq,Int.reduceBNe,Int.reduceLT,Int.reduceLE,l3,l4,l6,ho]
   exact⟨(Kp.refl _).app _,x,m,rfl,by rw[hLP,tz];exact h.kp ((Kp.refl _).app _),.inr ⟨rfl,rfl⟩⟩
  ·cases uU:(cp==0)
   ·simp only[ae,↓Xn,↓Xo,↓Xg,↓Xd,↓Xe,↓Xf,Tryz.VΓ,Tryz.Γs,Xp,Xi,Nat.reduceAdd,Nat.reduceSub,Nat.reduceLT,Nat.reduceLeDiff,reduceIte,reduceCtorEq,Nat.reduceEqDiff,implies_true,forall_const,ad,av,beq_self_eq_true,bne_self_eq_false,Int.reduceBEq,Int.reduceBNe,Int.reduceLT,Int.reduceLE,l3,l4,l6,ho,uU]
    refine hk' _ _ ?_
    exact⟨l2,l3,l4,l6,⟨(Kp.refl _).app _,bm rfl _ 0,bm rfl _ 1,bm rfl _ 2⟩,by rw[tz,uU];rfl⟩
   ·simp only[ae,↓Xn,↓Xo,↓Xg,↓Xd,↓Xe,↓Xf,Tryz.VΓ,Tryz.Γs,Xp,Xi,Nat.reduceAdd,Nat.reduceSub,Nat.reduceLT,Nat.reduceLeDiff,reduceIte,reduceCtorEq,Nat.reduceEqDiff,implies_true,forall_const,ad,av,beq_self_eq_true,bne_self_eq_false,Int.reduceBEq,Int.reduceBNe,Int.reduceLT,Int.reduceLE,l3,l4,l6,ho,uU]
    exact⟨(Kp.refl _).app _,x,m,rfl,by rw[hLP,tz,uU];exact h.kp ((Kp.refl _).app _),.inr ⟨rfl,rfl⟩⟩
 rintro m2 ⟨t2,b2⟩ ⟨l2,l3,l4,l6,hR,lf⟩
 simp only at l2 l3 l4 l6 hR
 rw[if_pos lf]at hLP
 clear hcb
 refine bc 2700 (fun σ=>lk 2 σ.t=some (.int .u64 now)∧lk 3 σ.t=some (.p b.length 0)∧lk 4 σ.t=some (.p (b.length+1) 0)∧lk 6 σ.t=some (.p (b.length+2) 0)∧lk 7 σ.t=some .aI∧R1 b cp v x σ.b) ?_ (fun k' hk'=>?_)
 rotate_left
 ·simp only[ae,↓Xn,↓Xo,↓Xg,↓Xd,↓Xe,↓Xf,Tryz.VΓ,Tryz.Γs,Xp,Xi,Nat.reduceAdd,Nat.reduceSub,Nat.reduceLT,Nat.reduceLeDiff,reduceIte,reduceCtorEq,Nat.reduceEqDiff,implies_true,forall_const,ad,av,beq_self_eq_true,bne_self_eq_false,Int.reduceBEq,Int.reduceBNe,Int.reduceLT,Int.reduceLE]
  refine hk' _ _ ?_
  exact⟨l2,l3,l4,l6,rfl,hR⟩
 rintro m3 ⟨t3,b3⟩ ⟨l2,l3,l4,l6,l7,hR⟩
 simp only at l2 l3 l4 l6 l7 hR
 refine bc 2600 (fun σ=>lk 2 σ.t=some (.int .u64 now)∧lk 3 σ.t=some (.p b.length 0)∧lk 4 σ.t=some (.p (b.length+1) 0)∧lk 6 σ.t=some (.p (b.length+2) 0)∧lk 7 σ.t=some .aI∧lk 8 σ.t=some (.int .i64 (-1))∧R1 b cp v x σ.b) ?_ (fun k' hk'=>?_)
 rotate_left
 ·simp only[ae,↓Xn,↓Xo,↓Xg,↓Xd,↓Xe,↓Xf,Tryz.VΓ,Tryz.Γs,Xp,Xi,Nat.reduceAdd,Nat.reduceSub,Nat.reduceLT,Nat.reduceLeDiff,reduceIte,reduceCtorEq,Nat.reduceEqDiff,implies_true,forall_const,ad,av,beq_self_eq_true,bne_self_eq_false,Int.reduceBEq,Int.reduceBNe,Int.reduceLT,Int.reduceLE]
  refine hk' _ _ ?_
  exact⟨l2,l3,l4,l6,l7,rfl,hR⟩
 rintro m4 ⟨t4,b4⟩ ⟨l2,l3,l4,l6,l7,l8,hR⟩
 simp only at l2 l3 l4 l6 l7 l8 hR
 refine bc 2500 (fun σ=>lk 2 σ.t=some (.int .u64 now)∧lk 3 σ.t=some (.p b.length 0)∧lk 4 σ.t=some (.p (b.length+1) 0)∧lk 6 σ.t=some (.p (b.length+2) 0)∧lk 7 σ.t=some .aI∧lk 8 σ.t=some (.int .i64 (kz L v.id.text))∧R1 b cp v x σ.b) ?_ (fun k' hk'=>?_)
 rotate_left
 ·have pc:=hR.c
  simp only[ae,↓Xn,↓Xo,↓Xg,↓Xd,↓Xe,↓Xf,Tryz.VΓ,Tryz.Γs,Xp,Xi,Nat.reduceAdd,Nat.reduceSub,Nat.reduceLT,Nat.reduceLeDiff,reduceIte,reduceCtorEq,Nat.reduceEqDiff,implies_true,forall_const,ad,av,beq_self_eq_true,bne_self_eq_false,Int.reduceBEq,Int.reduceBNe,Int.reduceLT,Int.reduceLE,l3,pc,dw]
  refine aL (fun σ=>∃ (k:Nat),lk 2 σ.t=some (.int .u64 now)∧lk 3 σ.t=some (.p b.length 0)∧lk 4 σ.t=some (.p (b.length+1) 0)∧lk 6 σ.t=some (.p (b.length+2) 0)∧lk 7 σ.t=some .aI∧lk 8 σ.t=some (.int .i64 (dX (oh L) k))∧lk 29 σ.t=some x∧lk 30 σ.t=some (.int .i64 L.length)∧lk 31 σ.t=some (.int .i64 k)∧k≤L.length∧R1 b cp v x σ.b∧∀ j (hj:j<k) (mG:j<L.length),En.key L[j]≠v.id.text) (fun σ=>L.length - ji 31 σ) ⟨0,l2,l3,l4,l6,l7,l8,rfl,rfl,rfl,by omega,hR,fun j hj=>by omega⟩ ?_
  rintro⟨t5,b5⟩ ⟨k,l2,l3,l4,l6,l7,l8,l29,l30,l31,hk,hR,iT⟩
  simp only at l2 l3 l4 l6 l7 l8 l29 l30 l31 hR
  rw[az l31]
  by_cases c:k<L.length
  ·have ci:decide ((k:Int)<(L.length:Int))=true:=by simpa using c
   obtain⟨q,rfl,hq⟩:∃ q,x=.o q L.length∧b[q]? = some (.own (L.flatMap enc) 43 14 L.length m):=by
    rcases h with⟨rfl,rfl⟩|h
    ·simp at c
    ·exact h
   have ct:=hR.kp.at hq
   have pc:=hR.c
   have pv:=hR.v
   have dD:=ir L k c
   have dP:(enc L[k]).length=14:=rfl
   have eo:(enc L[k]).take 14=enc L[k]:=zMy (by rw[dP];omega)
   have hex:(enc L[k])[13]? = some (.int .u64 L[k].aU):=rfl
   have iU:(enc L[k])[2]? = some (.str (En.key L[k])):=rfl
   have vH:(gi v)[2]? = some (.str v.id.text):=rfl
   have gP:(enc L[k]).all Vc.one=true:=by
    have:=uK _ (zMG c)
    simp[enc,Vc.one]at this ⊢;exact this
   have jO:3≤(gi v).length:=by rw[hvl];decide
   have hnx:(En.key L[k]==v.id.text)=false→∀ j (hj:j<k+1) (mG:j<L.length),En.key L[j]≠v.id.text:=fun hf j hj mG=>by
    by_cases e:j=k
    ·subst e;simpa using hf
    ·exact iT j (by omega) mG
   have hhit:(En.key L[k]==v.id.text)=true→kz L v.id.text=-2:=fun ht=>by
    unfold kz
    rw[if_pos]
    exact lh.2 ⟨_,zMG c,by simpa using ht⟩
   by_cases k0:k=0
   ·subst k0
    have aC:decide (dX (oh L) 0<0)=true:=rfl
    cases heq:(En.key L[0]==v.id.text)
    ·simp only[ae,↓Xn,↓Xo,↓Xg,↓Xd,↓Xe,↓Xf,Tryz.VΓ,Tryz.Γs,Xp,Xi,Nat.reduceAdd,Nat.reduceSub,Nat.reduceLT,Nat.reduceLeDiff,reduceIte,reduceCtorEq,Nat.reduceEqDiff,implies_true,forall_const,ad,av,beq_self_eq_true,bne_self_eq_false,Int.reduceBEq,Int.reduceBNe,Int.reduceLT,Int.reduceLE,l3,l4,l8,l29,l30,l31,ci,ct,pc,pv,af pv,dD,dP,eo,hex,iU,vH,aC,heq,zMq,zMx,zMv,zMp]
     refine⟨⟨by omega,by omega⟩,by rw[aM];omega,gP,aj (by kernel_rfl),jO,by omega,⟨1,l2,l6,l7,rfl,rfl,by omega,hR.app _,hnx heq⟩,?_⟩
     rw[az (show lk 31 _=some (.int .i64 ((0+1:Nat):Int)) from rfl)];omega
    ·simp only[ae,↓Xn,↓Xo,↓Xg,↓Xd,↓Xe,↓Xf,Tryz.VΓ,Tryz.Γs,Xp,Xi,Nat.reduceAdd,Nat.reduceSub,Nat.reduceLT,Nat.reduceLeDiff,reduceIte,reduceCtorEq,Nat.reduceEqDiff,implies_true,forall_const,ad,av,beq_self_eq_true,bne_self_eq_false,Int.reduceBEq,Int.reduceBNe,Int.reduceLT,Int.reduceLE,l3,l4,l8,l29,l30,l31,ci,ct,pc,pv,af pv,dD,dP,eo,hex,iU,vH,aC,heq,zMq,zMx,zMv,zMp]
     refine⟨⟨by omega,by omega⟩,by rw[aM];omega,gP,aj (by kernel_rfl),jO,?_⟩
     refine hk' _ _ ?_
     exact⟨l2,l3,l4,l6,l7,by rw[hhit heq];rfl,hR.app _⟩
   ·obtain⟨a,ha⟩:∃ a,a=eC (oh L) k:=⟨_,rfl⟩
    have hak:a<k:=by rw[ha];exact(iG (oh L) k (by omega)).1
    have hli:dX (oh L) k=(a:Int):=by unfold dX;rw[if_neg k0,ha]
    rw[hli]at l8
    have aC:decide ((a:Int)<0)=false:=by simp
    have g2:(L.flatMap enc)[a * 14+13]? = some (.int .u64 (L[a]'(by omega)).aU):=(fX L a (by omega) 13 (by omega)).trans rfl
    have gX:dX (oh L) (k+1)=if L[k].aU<(L[a]'(by omega)).aU then(k:Int) else(a:Int):=by
     unfold dX
     rw[if_neg (by omega),eC,if_neg k0,← ha,zt L k c,zt L a (by omega)]
     split <;> rfl
    have jN:=aM L
    cases hd:decide (L[k].aU<(L[a]'(by omega)).aU)
    ·rw[if_neg (by simpa using hd)]at gX
     cases heq:(En.key L[k]==v.id.text)
     ·simp only[ae,↓Xn,↓Xo,↓Xg,↓Xd,↓Xe,↓Xf,Tryz.VΓ,Tryz.Γs,Xp,Xi,Nat.reduceAdd,Nat.reduceSub,Nat.reduceLT,Nat.reduceLeDiff,reduceIte,reduceCtorEq,Nat.reduceEqDiff,implies_true,forall_const,ad,av,beq_self_eq_true,bne_self_eq_false,Int.reduceBEq,Int.reduceBNe,Int.reduceLT,Int.reduceLE,l3,l4,l8,l29,l30,l31,ci,ct,af ct,pc,af pc,pv,af pv,dD,dP,eo,hex,iU,vH,aC,heq,g2,hd,zMq,zMx,zMv,zMp]
      refine⟨⟨by omega,by omega⟩,by rw[jN];omega,gP,⟨by omega,by omega⟩,by rw[jN];omega,aj (by kernel_rfl),jO,by omega,⟨k+1,l2,l6,l7,by rw[gX],rfl,by omega,hR.app _,hnx heq⟩,?_⟩
      rw[az (show lk 31 _=some (.int .i64 ((k+1:Nat):Int)) from rfl)];omega
     ·simp only[ae,↓Xn,↓Xo,↓Xg,↓Xd,↓Xe,↓Xf,Tryz.VΓ,Tryz.Γs,Xp,Xi,Nat.reduceAdd,Nat.reduceSub,Nat.reduceLT,Nat.reduceLeDiff,reduceIte,reduceCtorEq,Nat.reduceEqDiff,implies_true,forall_const,ad,av,beq_self_eq_true,bne_self_eq_false,Int.reduceBEq,Int.reduceBNe,Int.reduceLT,Int.reduceLE,l3,l4,l8,l29,l30,l31,ci,ct,af ct,pc,af pc,pv,af pv,dD,dP,eo,hex,iU,vH,aC,heq,g2,hd,zMq,zMx,zMv,zMp]
      refine⟨⟨by omega,by omega⟩,by rw[jN];omega,gP,⟨by omega,by omega⟩,by rw[jN];omega,aj (by kernel_rfl),jO,?_⟩
      refine hk' _ _ ?_
      exact⟨l2,l3,l4,l6,l7,by rw[hhit heq];rfl,hR.app _⟩
    ·rw[if_pos (by simpa using hd)]at gX
     cases heq:(En.key L[k]==v.id.text)
     ·simp only[ae,↓Xn,↓Xo,↓Xg,↓Xd,↓Xe,↓Xf,Tryz.VΓ,Tryz.Γs,Xp,Xi,Nat.reduceAdd,Nat.reduceSub,Nat.reduceLT,Nat.reduceLeDiff,reduceIte,reduceCtorEq,Nat.reduceEqDiff,implies_true,forall_const,ad,av,beq_self_eq_true,bne_self_eq_false,Int.reduceBEq,Int.reduceBNe,Int.reduceLT,Int.reduceLE,l3,l4,l8,l29,l30,l31,ci,ct,af ct,pc,af pc,pv,af pv,dD,dP,eo,hex,iU,vH,aC,heq,g2,hd,zMq,zMx,zMv,zMp]
      refine⟨⟨by omega,by omega⟩,by rw[jN];omega,gP,⟨by omega,by omega⟩,by rw[jN];omega,aj (by kernel_rfl),jO,by omega,⟨k+1,l2,l6,l7,by rw[gX],rfl,by omega,hR.app _,hnx heq⟩,?_⟩
      rw[az (show lk 31 _=some (.int .i64 ((k+1:Nat):Int)) from rfl)];omega
     ·simp only[ae,↓Xn,↓Xo,↓Xg,↓Xd,↓Xe,↓Xf,Tryz.VΓ,Tryz.Γs,Xp,Xi,Nat.reduceAdd,Nat.reduceSub,Nat.reduceLT,Nat.reduceLeDiff,reduceIte,reduceCtorEq,Nat.reduceEqDiff,implies_true,forall_const,ad,av,beq_self_eq_true,bne_self_eq_false,Int.reduceBEq,Int.reduceBNe,Int.reduceLT,Int.reduceLE,l3,l4,l8,l29,l30,l31,ci,ct,af ct,pc,af pc,pv,af pv,dD,dP,eo,hex,iU,vH,aC,heq,g2,hd,zMq,zMx,zMv,zMp]
      refine⟨⟨by omega,by omega⟩,by rw[jN];omega,gP,⟨by omega,by omega⟩,by rw[jN];omega,aj (by kernel_rfl),jO,?_⟩
      refine hk' _ _ ?_
      exact⟨l2,l3,l4,l6,l7,by rw[hhit heq];rfl,hR.app _⟩
  ·have ci:decide ((k:Int)<(L.length:Int))=false:=by simpa using c
   obtain rfl:k=L.length:=by omega
   have hno2:dQ En.key L v.id.text=false:=by
    rw[← Bool.not_eq_true,lh]
    rintro⟨y,hy,e⟩
    obtain⟨j,hj,rfl⟩:=List.mem_iff_getElem.1 hy
    exact iT j hj hj e
   simp only[ae,↓Xn,↓Xo,↓Xg,↓Xd,↓Xe,↓Xf,Tryz.VΓ,Tryz.Γs,Xp,Xi,Nat.reduceAdd,Nat.reduceSub,Nat.reduceLT,Nat.reduceLeDiff,reduceIte,reduceCtorEq,Nat.reduceEqDiff,implies_true,forall_const,ad,av,beq_self_eq_true,bne_self_eq_false,Int.reduceBEq,Int.reduceBNe,Int.reduceLT,Int.reduceLE,l3,l29,l30,l31,ci]
   refine hk' _ _ ?_
   exact⟨l2,l3,l4,l6,l7,by unfold kz;rw[hno2];exact l8,hR⟩
 rintro m5 ⟨t5,b5⟩ ⟨l2,l3,l4,l6,l7,l8,hR⟩
 simp only at l2 l3 l4 l6 l7 l8 hR
 obtain⟨PR,hPR⟩:∃ PR,PR=fP En.key v.id.text (dQ En.key L v.id.text||decide ((L.length:Int)<cp)) (dX (oh L) L.length):=⟨_,rfl⟩
 rw[← hPR]at hLP
 refine bc 2400 (fun σ=>lk 2 σ.t=some (.int .u64 now)∧lk 3 σ.t=some (.p b.length 0)∧lk 4 σ.t=some (.p (b.length+1) 0)∧lk 6 σ.t=some (.p (b.length+2) 0)∧R1 b cp v x σ.b∧∃ x1,lk 7 σ.t=some x1∧hU σ.b x1 (du PR L L.length) true∧∀ q n,x1=.o q n→b.length+2<q) ?_ (fun k' hk'=>?_)
 rotate_left
 ·have pc:=hR.c
  simp only[ae,↓Xn,↓Xo,↓Xg,↓Xd,↓Xe,↓Xf,Tryz.VΓ,Tryz.Γs,Xp,Xi,Nat.reduceAdd,Nat.reduceSub,Nat.reduceLT,Nat.reduceLeDiff,reduceIte,reduceCtorEq,Nat.reduceEqDiff,implies_true,forall_const,ad,av,beq_self_eq_true,bne_self_eq_false,Int.reduceBEq,Int.reduceBNe,Int.reduceLT,Int.reduceLE,l3,pc,dw]
  refine aL (fun σ=>∃ (k:Nat) (x1:SV),lk 2 σ.t=some (.int .u64 now)∧lk 3 σ.t=some (.p b.length 0)∧lk 4 σ.t=some (.p (b.length+1) 0)∧lk 6 σ.t=some (.p (b.length+2) 0)∧lk 7 σ.t=some x1∧lk 8 σ.t=some (.int .i64 (kz L v.id.text))∧lk 60 σ.t=some x∧lk 61 σ.t=some (.int .i64 L.length)∧lk 62 σ.t=some (.int .i64 k)∧k≤L.length∧R1 b cp v x σ.b∧hU σ.b x1 (du PR L k) true∧∀ q n,x1=.o q n→b.length+2<q) (fun σ=>L.length - ji 62 σ) ⟨0,.aI,l2,l3,l4,l6,l7,l8,rfl,rfl,rfl,by omega,hR,.inl ⟨rfl,rfl⟩,fun q n h=>by cases h⟩ ?_
  clear l2 l3 l4 l6 l7 l8 hR
  rintro⟨t5,b5⟩ ⟨k,x1,l2,l3,l4,l6,l7,l8,l60,l61,l62,hk,hR,hE,wy⟩
  simp only at l2 l3 l4 l6 l7 l8 l60 l61 l62 hR hE
  rw[az l62]
  by_cases c:k<L.length
  ·have ci:decide ((k:Int)<(L.length:Int))=true:=by simpa using c
   obtain⟨q,rfl,hq⟩:∃ q,x=.o q L.length∧b[q]? = some (.own (L.flatMap enc) 43 14 L.length m):=by
    rcases h with⟨rfl,rfl⟩|h
    ·simp at c
    ·exact h
   have ct:=hR.kp.at hq
   have pc:=hR.c
   have pv:=hR.v
   have ho1:=hE.one
   have dD:=ir L k c
   have dP:(enc L[k]).length=14:=rfl
   have eo:(enc L[k]).take 14=enc L[k]:=zMy (by rw[dP];omega)
   have iU:(enc L[k])[2]? = some (.str (En.key L[k])):=rfl
   have vH:(gi v)[2]? = some (.str v.id.text):=rfl
   have jO:3≤(gi v).length:=by rw[hvl];decide
   have gP:(enc L[k]).all Vc.one=true:=by
    have:=uK _ (zMG c)
    simp[enc,Vc.one]at this ⊢;exact this
   have hpd:PR k L[k]=((En.key L[k] != v.id.text)&&((kz L v.id.text==-2)||decide ((L.length:Int)<cp)||((k:Int) != kz L v.id.text))):=by
    rw[hPR];unfold fP kz
    cases hh:dQ En.key L v.id.text
    ·have bp:(dX (oh L) L.length==-2)=false:=by
      rw[beq_eq_false_iff_ne];unfold dX;split <;> omega
     simp[bp]
    ·simp
   have Dx:=yW PR L k
   have hb5:b.length+2<b5.length:=(zMo.1 hR.o).1
   cases d1:(En.key L[k] != v.id.text)
   ·have mC:PR k L[k]=false:=by rw[hpd];simp[d1]
    simp only[ae,↓Xn,↓Xo,↓Xg,↓Xd,↓Xe,↓Xf,Tryz.VΓ,Tryz.Γs,Xp,Xi,Nat.reduceAdd,Nat.reduceSub,Nat.reduceLT,Nat.reduceLeDiff,reduceIte,reduceCtorEq,Nat.reduceEqDiff,implies_true,forall_const,ad,av,beq_self_eq_true,bne_self_eq_false,Int.reduceBEq,Int.reduceBNe,Int.reduceLT,Int.reduceLE,l3,l4,l7,l8,l60,l61,l62,ci,ct,dD,dP,eo,iU,vH,zMq,zMx,zMv,zMp,pc,af pc,pv,af pv,dw,d1]
    refine⟨⟨by omega,by omega⟩,by rw[aM];omega,gP,jO,by omega,⟨k+1,_,l2,l6,rfl,rfl,by omega,hR.app _,by rw[xB c mC];exact hE.kp ((Kp.refl _).app _),wy⟩,?_⟩
    rw[az (show lk 62 _=some (.int .i64 ((k+1:Nat):Int)) from rfl)];omega
   ·cases d2:(kz L v.id.text==-2)
    ·cases d3:decide ((L.length:Int)<cp)
     ·cases d4:((k:Int) != kz L v.id.text)
      ·have mC:PR k L[k]=false:=by rw[hpd];simp[d1,d2,d3,d4]
       simp only[ae,↓Xn,↓Xo,↓Xg,↓Xd,↓Xe,↓Xf,Tryz.VΓ,Tryz.Γs,Xp,Xi,Nat.reduceAdd,Nat.reduceSub,Nat.reduceLT,Nat.reduceLeDiff,reduceIte,reduceCtorEq,Nat.reduceEqDiff,implies_true,forall_const,ad,av,beq_self_eq_true,bne_self_eq_false,Int.reduceBEq,Int.reduceBNe,Int.reduceLT,Int.reduceLE,l3,l4,l7,l8,l60,l61,l62,ci,ct,dD,dP,eo,iU,vH,zMq,zMx,zMv,zMp,pc,af pc,pv,af pv,dw,d1,d2,d3,d4]
       refine⟨⟨by omega,by omega⟩,by rw[aM];omega,gP,jO,by omega,⟨k+1,_,l2,l6,rfl,rfl,by omega,hR.app _,by rw[xB c mC];exact hE.kp ((Kp.refl _).app _),wy⟩,?_⟩
       rw[az (show lk 62 _=some (.int .i64 ((k+1:Nat):Int)) from rfl)];omega
      ·have mC:PR k L[k]=true:=by rw[hpd];simp[d1,d2,d3,d4]
       rcases hE with⟨rfl,zD⟩|⟨q3,rfl,lQ⟩
       ·simp only[ae,↓Xn,↓Xo,↓Xg,↓Xd,↓Xe,↓Xf,Tryz.VΓ,Tryz.Γs,Xp,Xi,Nat.reduceAdd,Nat.reduceSub,Nat.reduceLT,Nat.reduceLeDiff,reduceIte,reduceCtorEq,Nat.reduceEqDiff,implies_true,forall_const,ad,av,beq_self_eq_true,bne_self_eq_false,Int.reduceBEq,Int.reduceBNe,Int.reduceLT,Int.reduceLE,l3,l4,l7,l8,l60,l61,l62,ci,ct,dD,dP,eo,iU,vH,zMq,zMx,zMv,zMp,pc,af pc,pv,af pv,dw,d1,d2,d3,d4]
        have e1:du PR L (k+1)=[L[k]]:=by rw[fF c mC,zD];rfl
        refine⟨⟨by omega,by omega⟩,by rw[aM];omega,gP,jO,by decide,⟨gP,by decide,by decide⟩,by omega,⟨k+1,_,l2,l6,rfl,rfl,by omega,hR.app _,.inr ⟨b5.length+2,by rw[e1];rfl,by rw[e1,show [L[k]].flatMap enc=enc L[k] by simp];exact bm (by simp) _ 2⟩,fun q n h=>by cases h;omega⟩,?_⟩
        rw[az (show lk 62 _=some (.int .i64 ((k+1:Nat):Int)) from rfl)];omega
       ·have oS:=(zMo.1 lQ).1
        have Dy:∀ (l:List aw) Z,(b5++l).set q3 Z=b5.set q3 Z++l:=fun l Z=>bX oS l Z
        simp only[ae,↓Xn,↓Xo,↓Xg,↓Xd,↓Xe,↓Xf,Tryz.VΓ,Tryz.Γs,Xp,Xi,Nat.reduceAdd,Nat.reduceSub,Nat.reduceLT,Nat.reduceLeDiff,reduceIte,reduceCtorEq,Nat.reduceEqDiff,implies_true,forall_const,ad,av,beq_self_eq_true,bne_self_eq_false,Int.reduceBEq,Int.reduceBNe,Int.reduceLT,Int.reduceLE,l3,l4,l7,l8,l60,l61,l62,ci,ct,dD,dP,eo,iU,vH,zMq,zMx,zMv,zMp,pc,af pc,pv,af pv,dw,d1,d2,d3,d4,af lQ,Dy]
        have e1:(du PR L (k+1)).length=(du PR L k).length+1:=by rw[fF c mC];simp
        have e2:(du PR L (k+1)).flatMap enc=(du PR L k).flatMap enc++enc L[k]:=by rw[fF c mC];simp
        refine⟨⟨by omega,by omega⟩,by rw[aM];omega,gP,jO,by decide,⟨gP,by unfold maxLen;omega,by omega⟩,by omega,⟨k+1,_,l2,l6,rfl,rfl,by omega,(hR.set (wy _ _ rfl) _).app _,.inr ⟨b5.length+2,by rw[e1],by rw[e1,e2];exact bm (by simp) _ 2⟩,fun q n h=>by cases h;omega⟩,?_⟩
        rw[az (show lk 62 _=some (.int .i64 ((k+1:Nat):Int)) from rfl)];omega
     ·have mC:PR k L[k]=true:=by rw[hpd];simp[d1,d2,d3]
      rcases hE with⟨rfl,zD⟩|⟨q3,rfl,lQ⟩
      ·simp only[ae,↓Xn,↓Xo,↓Xg,↓Xd,↓Xe,↓Xf,Tryz.VΓ,Tryz.Γs,Xp,Xi,Nat.reduceAdd,Nat.reduceSub,Nat.reduceLT,Nat.reduceLeDiff,reduceIte,reduceCtorEq,Nat.reduceEqDiff,implies_true,forall_const,ad,av,beq_self_eq_true,bne_self_eq_false,Int.reduceBEq,Int.reduceBNe,Int.reduceLT,Int.reduceLE,l3,l4,l7,l8,l60,l61,l62,ci,ct,dD,dP,eo,iU,vH,zMq,zMx,zMv,zMp,pc,af pc,pv,af pv,dw,d1,d2,d3]
       have e1:du PR L (k+1)=[L[k]]:=by rw[fF c mC,zD];rfl
       refine⟨⟨by omega,by omega⟩,by rw[aM];omega,gP,jO,by decide,⟨gP,by decide,by decide⟩,by omega,⟨k+1,_,l2,l6,rfl,rfl,by omega,hR.app _,.inr ⟨b5.length+2,by rw[e1];rfl,by rw[e1,show [L[k]].flatMap enc=enc L[k] by simp];exact bm (by simp) _ 2⟩,fun q n h=>by cases h;omega⟩,?_⟩
       rw[az (show lk 62 _=some (.int .i64 ((k+1:Nat):Int)) from rfl)];omega
      ·have oS:=(zMo.1 lQ).1
       have Dy:∀ (l:List aw) Z,(b5++l).set q3 Z=b5.set q3 Z++l:=fun l Z=>bX oS l Z
       simp only[ae,↓Xn,↓Xo,↓Xg,↓Xd,↓Xe,↓Xf,Tryz.VΓ,Tryz.Γs,Xp,Xi,Nat.reduceAdd,Nat.reduceSub,Nat.reduceLT,Nat.reduceLeDiff,reduceIte,reduceCtorEq,Nat.reduceEqDiff,implies_true,forall_const,ad,av,beq_self_eq_true,bne_self_eq_false,Int.reduceBEq,Int.reduceBNe,Int.reduceLT,Int.reduceLE,l3,l4,l7,l8,l60,l61,l62,ci,ct,dD,dP,eo,iU,vH,zMq,zMx,zMv,zMp,pc,af pc,pv,af pv,dw,d1,d2,d3,af lQ,Dy]
       have e1:(du PR L (k+1)).length=(du PR L k).length+1:=by rw[fF c mC];simp
       have e2:(du PR L (k+1)).flatMap enc=(du PR L k).flatMap enc++enc L[k]:=by rw[fF c mC];simp
       refine⟨⟨by omega,by omega⟩,by rw[aM];omega,gP,jO,by decide,⟨gP,by unfold maxLen;omega,by omega⟩,by omega,⟨k+1,_,l2,l6,rfl,rfl,by omega,(hR.set (wy _ _ rfl) _).app _,.inr ⟨b5.length+2,by rw[e1],by rw[e1,e2];exact bm (by simp) _ 2⟩,fun q n h=>by cases h;omega⟩,?_⟩
       rw[az (show lk 62 _=some (.int .i64 ((k+1:Nat):Int)) from rfl)];omega
    ·have mC:PR k L[k]=true:=by rw[hpd];simp[d1,d2]
     rcases hE with⟨rfl,zD⟩|⟨q3,rfl,lQ⟩
     ·simp only[ae,↓Xn,↓Xo,↓Xg,↓Xd,↓Xe,↓Xf,Tryz.VΓ,Tryz.Γs,Xp,Xi,Nat.reduceAdd,Nat.reduceSub,Nat.reduceLT,Nat.reduceLeDiff,reduceIte,reduceCtorEq,Nat.reduceEqDiff,implies_true,forall_const,ad,av,beq_self_eq_true,bne_self_eq_false,Int.reduceBEq,Int.reduceBNe,Int.reduceLT,Int.reduceLE,l3,l4,l7,l8,l60,l61,l62,ci,ct,dD,dP,eo,iU,vH,zMq,zMx,zMv,zMp,pc,af pc,pv,af pv,dw,d1,d2]
      have e1:du PR L (k+1)=[L[k]]:=by rw[fF c mC,zD];rfl
      refine⟨⟨by omega,by omega⟩,by rw[aM];omega,gP,jO,by decide,⟨gP,by decide,by decide⟩,by omega,⟨k+1,_,l2,l6,rfl,rfl,by omega,hR.app _,.inr ⟨b5.length+2,by rw[e1];rfl,by rw[e1,show [L[k]].flatMap enc=enc L[k] by simp];exact bm (by simp) _ 2⟩,fun q n h=>by cases h;omega⟩,?_⟩
      rw[az (show lk 62 _=some (.int .i64 ((k+1:Nat):Int)) from rfl)];omega
     ·have oS:=(zMo.1 lQ).1
      have Dy:∀ (l:List aw) Z,(b5++l).set q3 Z=b5.set q3 Z++l:=fun l Z=>bX oS l Z
      simp only[ae,↓Xn,↓Xo,↓Xg,↓Xd,↓Xe,↓Xf,Tryz.VΓ,Tryz.Γs,Xp,Xi,Nat.reduceAdd,Nat.reduceSub,Nat.reduceLT,Nat.reduceLeDiff,reduceIte,reduceCtorEq,Nat.reduceEqDiff,implies_true,forall_const,ad,av,beq_self_eq_true,bne_self_eq_false,Int.reduceBEq,Int.reduceBNe,Int.reduceLT,Int.reduceLE,l3,l4,l7,l8,l60,l61,l62,ci,ct,dD,dP,eo,iU,vH,zMq,zMx,zMv,zMp,pc,af pc,pv,af pv,dw,d1,d2,af lQ,Dy]
      have e1:(du PR L (k+1)).length=(du PR L k).length+1:=by rw[fF c mC];simp
      have e2:(du PR L (k+1)).flatMap enc=(du PR L k).flatMap enc++enc L[k]:=by rw[fF c mC];simp
      refine⟨⟨by omega,by omega⟩,by rw[aM];omega,gP,jO,by decide,⟨gP,by unfold maxLen;omega,by omega⟩,by omega,⟨k+1,_,l2,l6,rfl,rfl,by omega,(hR.set (wy _ _ rfl) _).app _,.inr ⟨b5.length+2,by rw[e1],by rw[e1,e2];exact bm (by simp) _ 2⟩,fun q n h=>by cases h;omega⟩,?_⟩
      rw[az (show lk 62 _=some (.int .i64 ((k+1:Nat):Int)) from rfl)];omega
  ·have ci:decide ((k:Int)<(L.length:Int))=false:=by simpa using c
   obtain rfl:k=L.length:=by omega
   simp only[ae,↓Xn,↓Xo,↓Xg,↓Xd,↓Xe,↓Xf,Tryz.VΓ,Tryz.Γs,Xp,Xi,Nat.reduceAdd,Nat.reduceSub,Nat.reduceLT,Nat.reduceLeDiff,reduceIte,reduceCtorEq,Nat.reduceEqDiff,implies_true,forall_const,ad,av,beq_self_eq_true,bne_self_eq_false,Int.reduceBEq,Int.reduceBNe,Int.reduceLT,Int.reduceLE,l60,l61,l62,ci]
   refine hk' _ _ ?_
   exact⟨l2,l3,l4,l6,hR,x1,l7,hE,wy⟩
 rintro m6 ⟨t6,b6⟩ ⟨l2,l3,l4,l6,hR,x1,l7,hE,wy⟩
 simp only at l2 l3 l4 l6 l7 hR hE
 have hb6:b.length+2<b6.length:=(zMo.1 hR.o).1
 refine bc 2300 (fun σ=>lk 2 σ.t=some (.int .u64 now)∧lk 4 σ.t=some (.p (b.length+1) 0)∧lk 6 σ.t=some (.p (b.length+2) 0)∧lk 7 σ.t=some x1∧lk 13 σ.t=some (.p b6.length 0)∧σ.b=b6++[.cells [.int .i64 cp,.aI] 24 true]) ?_ (fun k' hk'=>?_)
 rotate_left
 ·have pc:=hR.c
  simp only[ae,↓Xn,↓Xo,↓Xg,↓Xd,↓Xe,↓Xf,Tryz.VΓ,Tryz.Γs,Xp,Xi,Nat.reduceAdd,Nat.reduceSub,Nat.reduceLT,Nat.reduceLeDiff,reduceIte,reduceCtorEq,Nat.reduceEqDiff,implies_true,forall_const,ad,av,beq_self_eq_true,bne_self_eq_false,Int.reduceBEq,Int.reduceBNe,Int.reduceLT,Int.reduceLE,l3,pc]
  refine hk' _ _ ?_
  exact⟨l2,l4,l6,l7,rfl,rfl⟩
 rintro m7 ⟨t7,b7⟩ ⟨l2,l4,l6,l7,l13,rfl⟩
 simp only at l2 l4 l6 l7 l13
 refine bc 2200 (fun σ=>lk 4 σ.t=some (.p (b.length+1) 0)∧lk 6 σ.t=some (.p (b.length+2) 0)∧lk 7 σ.t=some x1∧lk 13 σ.t=some (.p b6.length 0)∧lk 14 σ.t=some (.p (b6.length+1) 0)∧σ.b=b6++[.cells [.int .i64 cp,.aI] 24 true,.cells (enc (pZ v now)) 43 true]) ?_ (fun k' hk'=>?_)
 rotate_left
 ·have pv:=hR.v
  have HS:gi v=[.int .i64 v.err,.int .i64 v.id.kind,.str v.id.text,.str v.id.host,.int .i64 v.id.port,.int .i64 v.cW.kind,.str v.cW.text,.str v.cW.host,.int .i64 v.cW.port,.bool v.store,.int .u64 v.de,v.tr]:=rfl
  rw[HS]at pv
  have hne1:¬ b.length+1=b6.length+1:=by omega
  simp only[ae,↓Xn,↓Xo,↓Xg,↓Xd,↓Xe,↓Xf,Tryz.VΓ,Tryz.Γs,Xp,Xi,Nat.reduceAdd,Nat.reduceSub,Nat.reduceLT,Nat.reduceLeDiff,reduceIte,reduceCtorEq,Nat.reduceEqDiff,implies_true,forall_const,ad,av,beq_self_eq_true,bne_self_eq_false,Int.reduceBEq,Int.reduceBNe,Int.reduceLT,Int.reduceLE,l2,l4,pv,af pv,hv1]
  refine aR lS ?_
  simp only[ae,↓Xn,↓Xo,↓Xg,↓Xd,↓Xe,↓Xf,Tryz.VΓ,Tryz.Γs,Xp,Xi,Nat.reduceAdd,Nat.reduceSub,Nat.reduceLT,Nat.reduceLeDiff,reduceIte,reduceCtorEq,Nat.reduceEqDiff,implies_true,forall_const,ad,av,beq_self_eq_true,bne_self_eq_false,Int.reduceBEq,Int.reduceBNe,Int.reduceLT,Int.reduceLE,l2,l4,pv,af pv,hv1]
  refine⟨(by
   refine dm (fun n=>if n=b6.length+1 then 0 else 1) ?_
   simp only[List.map_cons,List.map_nil,dW,iE,reduceIte,hne1]
   exact aj (by kernel_rfl)),?_⟩
  refine hk' _ _ ?_
  exact⟨l4,l6,l7,l13,rfl,rfl⟩
 rintro m8 ⟨t8,b8⟩ ⟨l4,l6,l7,l13,l14,rfl⟩
 simp only at l4 l6 l7 l13 l14
 have hE':=hE
 have hqb':=wy
 clear hE wy
 obtain⟨KL,hKL⟩:∃ KL,KL=du PR L L.length:=⟨_,rfl⟩
 rw[← hKL]at hE' hLP
 have hKl:KL.length≤1000000:=by rw[hKL];have:=yW PR L L.length;omega
 have hK1:∀ e∈KL,Vc.one e.v.tr=true:=fun e he=>uK e (Bh _ (hKL ▸ he))
 have hR0:R2 b b6.length cp v now x1 KL .aI [] (b6++[.cells [.int .i64 cp,.aI] 24 true,.cells (enc (pZ v now)) 43 true]):=⟨hb6,hR.kp.app _,af hR.v _,af hR.o _,bm rfl _ 0,bm rfl _ 1,hE'.kp ((Kp.refl _).app _),.inl ⟨rfl,rfl⟩,fun q k e=>⟨hqb' q k e,by subst e;rcases hE' with⟨h,-⟩|⟨q',h,hq'⟩ <;> cases h;exact(zMo.1 hq').1⟩,fun q k e=>by cases e⟩
 have hlen1:∀ e,lO (.slice e) x1=some (.int .i64 KL.length):=fun e=>by
  rcases hE' with⟨rfl,h0⟩|⟨q,rfl,-⟩
  ·rw[h0];rfl
  ·rfl
 have ho1:=hE'.one
 generalize hn:b6.length=n at *
 generalize hB:b6++[.cells [.int .i64 cp,.aI] 24 true,.cells (enc (pZ v now)) 43 true]=b8 at hR0 ⊢
 clear hB hR hE' hqb' hn hb6 hKL hPR lS ho dw hw h
 have vH:(gi v)[2]? = some (.str v.id.text):=rfl
 have jO:3≤(gi v).length:=by rw[hvl];decide
 refine bc 2100 (fun σ=>lk 4 σ.t=some (.p (b.length+1) 0)∧lk 6 σ.t=some (.p (b.length+2) 0)∧lk 7 σ.t=some x1∧lk 13 σ.t=some (.p n 0)∧lk 14 σ.t=some (.p (n+1) 0)∧∃ x2,R2 b n cp v now x1 KL x2 (KL.filter fun y=>blt y.key v.id.text) σ.b) ?_ (fun k' hk'=>?_)
 rotate_left
 ·simp only[ae,↓Xn,↓Xo,↓Xg,↓Xd,↓Xe,↓Xf,Tryz.VΓ,Tryz.Γs,Xp,Xi,Nat.reduceAdd,Nat.reduceSub,Nat.reduceLT,Nat.reduceLeDiff,reduceIte,reduceCtorEq,Nat.reduceEqDiff,implies_true,forall_const,ad,av,beq_self_eq_true,bne_self_eq_false,Int.reduceBEq,Int.reduceBNe,Int.reduceLT,Int.reduceLE,l7,hlen1,ho1]
  refine aL (fun σ=>∃ (k:Nat) (x2:SV),lk 4 σ.t=some (.p (b.length+1) 0)∧lk 6 σ.t=some (.p (b.length+2) 0)∧lk 7 σ.t=some x1∧lk 13 σ.t=some (.p n 0)∧lk 14 σ.t=some (.p (n+1) 0)∧lk 108 σ.t=some x1∧lk 109 σ.t=some (.int .i64 KL.length)∧lk 110 σ.t=some (.int .i64 k)∧k≤KL.length∧R2 b n cp v now x1 KL x2 ((KL.take k).filter fun y=>blt y.key v.id.text) σ.b) (fun σ=>KL.length - ji 110 σ) ⟨0,.aI,l4,l6,l7,l13,l14,rfl,rfl,rfl,by omega,hR0⟩ ?_
  clear l4 l6 l7 l13 l14 hR0
  rintro⟨t5,b5⟩ ⟨k,x2,l4,l6,l7,l13,l14,l108,l109,l110,hk,hR⟩
  simp only at l4 l6 l7 l13 l14 l108 l109 l110 hR
  rw[az l110]
  by_cases c:k<KL.length
  ·have ci:decide ((k:Int)<(KL.length:Int))=true:=by simpa using c
   obtain⟨q,rfl,ct⟩:∃ q,x1=.o q KL.length∧b5[q]? = some (.own (KL.flatMap enc) 43 14 KL.length true):=by
    rcases hR.h1 with⟨rfl,h0⟩|h
    ·rw[h0]at c;simp at c
    ·exact h
   have pu:=hR.u
   have pv:=hR.vv
   have aC:=hR.lt
   have dD:=ir KL k c
   have dP:(enc KL[k]).length=14:=rfl
   have eo:(enc KL[k]).take 14=enc KL[k]:=zMy (by rw[dP];omega)
   have iU:(enc KL[k])[2]? = some (.str (En.key KL[k])):=rfl
   have gP:(enc KL[k]).all Vc.one=true:=by
    have:=hK1 _ (zMG c)
    simp[enc,Vc.one]at this ⊢;exact this
   have hn5:n<b5.length:=(zMo.1 pu).1
   cases hd:Op.bytesLess (En.key KL[k]) v.id.text
   ·simp only[ae,↓Xn,↓Xo,↓Xg,↓Xd,↓Xe,↓Xf,Tryz.VΓ,Tryz.Γs,Xp,Xi,Nat.reduceAdd,Nat.reduceSub,Nat.reduceLT,Nat.reduceLeDiff,reduceIte,reduceCtorEq,Nat.reduceEqDiff,implies_true,forall_const,ad,av,beq_self_eq_true,bne_self_eq_false,Int.reduceBEq,Int.reduceBNe,Int.reduceLT,Int.reduceLE,l4,l6,l7,l13,l14,l108,l109,l110,ci,ct,dD,dP,eo,iU,vH,pv,af pv,hd,zMq,zMx,zMv,zMp]
    refine⟨⟨by omega,by omega⟩,by rw[aM];omega,gP,jO,by omega,⟨k+1,x2,rfl,by omega,by rw[BO c hd];exact hR.app _⟩,?_⟩
    rw[az (show lk 110 _=some (.int .i64 ((k+1:Nat):Int)) from rfl)];omega
   ·have e2:((KL.take (k+1)).filter fun y=>blt y.key v.id.text)=((KL.take k).filter fun y=>blt y.key v.id.text)++[KL[k]]:=BP c hd
    have mH:((KL.take k).filter fun y=>blt y.key v.id.text).length≤k:=zMI (zML _ _) (by rw[zMA];omega)
    rcases hR.h2 with⟨rfl,zD⟩|⟨q3,rfl,lQ⟩
    ·have fe:∀ (l:List aw) Z,(b5++l).set n Z=b5.set n Z++l:=fun l Z=>bX hn5 l Z
     simp only[ae,↓Xn,↓Xo,↓Xg,↓Xd,↓Xe,↓Xf,Tryz.VΓ,Tryz.Γs,Xp,Xi,Nat.reduceAdd,Nat.reduceSub,Nat.reduceLT,Nat.reduceLeDiff,reduceIte,reduceCtorEq,Nat.reduceEqDiff,implies_true,forall_const,ad,av,beq_self_eq_true,bne_self_eq_false,Int.reduceBEq,Int.reduceBNe,Int.reduceLT,Int.reduceLE,l4,l6,l7,l13,l14,l108,l109,l110,ci,ct,dD,dP,eo,iU,vH,pv,af pv,hd,pu,af pu,fe,zMq,zMx,zMv,zMp]
     rw[zD,zMK]at e2
     refine⟨⟨by omega,by omega⟩,by rw[aM];omega,gP,jO,by decide,⟨gP,by decide,by decide⟩,by omega,⟨k+1,_,rfl,by omega,by rw[e2];exact hR.new (M':=[KL[k]]) (j:=2) (by simp) (by simp) (by simp)⟩,?_⟩
     rw[az (show lk 110 _=some (.int .i64 ((k+1:Nat):Int)) from rfl)];omega
    ·have oS:=(zMo.1 lQ).1
     have hq3n:=hR.q2 _ _ rfl
     have Dy:∀ (l:List aw) Z,(b5++l).set q3 Z=b5.set q3 Z++l:=fun l Z=>bX oS l Z
     have fT:∀ Y (l:List aw) Z,(b5.set q3 Y++l).set n Z=(b5.set q3 Y).set n Z++l:=fun Y l Z=>bX (by rw[zMr];omega) l Z
     have hg2:∀ Y,(b5.set q3 Y)[n]? = _:=fun Y=>aH pu (by omega) Y
     simp only[ae,↓Xn,↓Xo,↓Xg,↓Xd,↓Xe,↓Xf,Tryz.VΓ,Tryz.Γs,Xp,Xi,Nat.reduceAdd,Nat.reduceSub,Nat.reduceLT,Nat.reduceLeDiff,reduceIte,reduceCtorEq,Nat.reduceEqDiff,implies_true,forall_const,ad,av,beq_self_eq_true,bne_self_eq_false,Int.reduceBEq,Int.reduceBNe,Int.reduceLT,Int.reduceLE,l4,l6,l7,l13,l14,l108,l109,l110,ci,ct,dD,dP,eo,iU,vH,pv,af pv,hd,pu,af pu,af lQ,Dy,fT,af (hg2 _),zMq,zMx,zMv,zMp]
     refine⟨⟨by omega,by omega⟩,by rw[aM];omega,gP,jO,by decide,⟨gP,by unfold maxLen;omega,by omega⟩,by omega,⟨k+1,_,rfl,by omega,by rw[e2];exact hR.Hk (by simp) (by simp)⟩,?_⟩
     rw[az (show lk 110 _=some (.int .i64 ((k+1:Nat):Int)) from rfl)];omega
  ·have ci:decide ((k:Int)<(KL.length:Int))=false:=by simpa using c
   obtain rfl:k=KL.length:=by omega
   rw[zMO]at hR
   simp only[ae,↓Xn,↓Xo,↓Xg,↓Xd,↓Xe,↓Xf,Tryz.VΓ,Tryz.Γs,Xp,Xi,Nat.reduceAdd,Nat.reduceSub,Nat.reduceLT,Nat.reduceLeDiff,reduceIte,reduceCtorEq,Nat.reduceEqDiff,implies_true,forall_const,ad,av,beq_self_eq_true,bne_self_eq_false,Int.reduceBEq,Int.reduceBNe,Int.reduceLT,Int.reduceLE,l108,l109,l110,ci]
   refine hk' _ _ ?_
   exact⟨l4,l6,l7,l13,l14,x2,hR⟩
 rintro m9 ⟨t9,b9⟩ ⟨l4,l6,l7,l13,l14,x2,hR⟩
 simp only at l4 l6 l7 l13 l14 hR
 clear hR0
 obtain⟨F,hF⟩:∃ F,F=KL.filter fun y=>blt y.key v.id.text:=⟨_,rfl⟩
 have hFl:F.length≤KL.length:=by rw[hF];exact zML _ _
 rw[← hF]at hR
 have h1m:(enc (pZ v now)).all Vc.one=true:=by
  simp[enc,pZ,Vc.one]at hv1 ⊢;exact hv1
 have hem:(enc (pZ v now)).length=14:=rfl
 have htm:(enc (pZ v now)).take 14=enc (pZ v now):=zMy (by rw[hem];omega)
 refine bc 2000 (fun σ=>lk 4 σ.t=some (.p (b.length+1) 0)∧lk 6 σ.t=some (.p (b.length+2) 0)∧lk 7 σ.t=some x1∧lk 13 σ.t=some (.p n 0)∧∃ x2,R2 b n cp v now x1 KL x2 (F++[pZ v now]) σ.b) ?_ (fun k' hk'=>?_)
 rotate_left
 ·have pu:=hR.u
  have pe:=hR.e
  have hn5:n<b9.length:=(zMo.1 pu).1
  rcases hR.h2 with⟨rfl,zD⟩|⟨q3,rfl,lQ⟩
  ·have fe:∀ (l:List aw) Z,(b9++l).set n Z=b9.set n Z++l:=fun l Z=>bX hn5 l Z
   simp only[ae,↓Xn,↓Xo,↓Xg,↓Xd,↓Xe,↓Xf,Tryz.VΓ,Tryz.Γs,Xp,Xi,Nat.reduceAdd,Nat.reduceSub,Nat.reduceLT,Nat.reduceLeDiff,reduceIte,reduceCtorEq,Nat.reduceEqDiff,implies_true,forall_const,ad,av,beq_self_eq_true,bne_self_eq_false,Int.reduceBEq,Int.reduceBNe,Int.reduceLT,Int.reduceLE,l4,l6,l7,l13,l14,hem,htm,pe,af pe,pu,af pu,fe,zMp]
   refine⟨by decide,⟨h1m,by decide,by decide⟩,?_⟩
   refine hk' _ _ ?_
   exact⟨l4,l6,l7,l13,_,by rw[zD];exact hR.new (M':=[pZ v now]) (j:=1) (by simp) (by simp) (by simp)⟩
  ·have oS:=(zMo.1 lQ).1
   have hq3n:=hR.q2 _ _ rfl
   have Dy:∀ (l:List aw) Z,(b9++l).set q3 Z=b9.set q3 Z++l:=fun l Z=>bX oS l Z
   have fT:∀ Y (l:List aw) Z,(b9.set q3 Y++l).set n Z=(b9.set q3 Y).set n Z++l:=fun Y l Z=>bX (by rw[zMr];omega) l Z
   have hg2:∀ Y,(b9.set q3 Y)[n]? = _:=fun Y=>aH pu (by omega) Y
   simp only[ae,↓Xn,↓Xo,↓Xg,↓Xd,↓Xe,↓Xf,Tryz.VΓ,Tryz.Γs,Xp,Xi,Nat.reduceAdd,Nat.reduceSub,Nat.reduceLT,Nat.reduceLeDiff,reduceIte,reduceCtorEq,Nat.reduceEqDiff,implies_true,forall_const,ad,av,beq_self_eq_true,bne_self_eq_false,Int.reduceBEq,Int.reduceBNe,Int.reduceLT,Int.reduceLE,l4,l6,l7,l13,l14,hem,htm,pe,af pe,pu,af pu,af lQ,Dy,fT,af (hg2 _),zMp]
   refine⟨by decide,⟨h1m,by unfold maxLen;omega,by omega⟩,?_⟩
   refine hk' _ _ ?_
   exact⟨l4,l6,l7,l13,_,hR.Hk (by simp) (by simp)⟩
 clear hR
 rintro m10 ⟨t10,b10⟩ ⟨l4,l6,l7,l13,x2,hR⟩
 simp only at l4 l6 l7 l13 hR
 obtain⟨G,hG⟩:∃ G,G=F++[pZ v now]:=⟨_,rfl⟩
 have hGl:G.length≤KL.length+1:=by rw[hG];simp;omega
 rw[← hG]at hR
 have hLP2:LP=G++KL.filter fun y=>blt v.id.text y.key:=by rw[hLP,hG,hF];rfl
 refine bc 1900 (fun σ=>lk 6 σ.t=some (.p (b.length+2) 0)∧lk 13 σ.t=some (.p n 0)∧∃ x2,R2 b n cp v now x1 KL x2 LP σ.b) ?_ (fun k' hk'=>?_)
 rotate_left
 ·simp only[ae,↓Xn,↓Xo,↓Xg,↓Xd,↓Xe,↓Xf,Tryz.VΓ,Tryz.Γs,Xp,Xi,Nat.reduceAdd,Nat.reduceSub,Nat.reduceLT,Nat.reduceLeDiff,reduceIte,reduceCtorEq,Nat.reduceEqDiff,implies_true,forall_const,ad,av,beq_self_eq_true,bne_self_eq_false,Int.reduceBEq,Int.reduceBNe,Int.reduceLT,Int.reduceLE,l7,hlen1,ho1]
  refine aL (fun σ=>∃ (k:Nat) (x2:SV),lk 4 σ.t=some (.p (b.length+1) 0)∧lk 6 σ.t=some (.p (b.length+2) 0)∧lk 7 σ.t=some x1∧lk 13 σ.t=some (.p n 0)∧lk 135 σ.t=some x1∧lk 136 σ.t=some (.int .i64 KL.length)∧lk 137 σ.t=some (.int .i64 k)∧k≤KL.length∧R2 b n cp v now x1 KL x2 (G++(KL.take k).filter fun y=>blt v.id.text y.key) σ.b) (fun σ=>KL.length - ji 137 σ) ⟨0,x2,l4,l6,l7,l13,rfl,rfl,rfl,by omega,by simpa using hR⟩ ?_
  clear l4 l6 l7 l13 hR
  rintro⟨t5,b5⟩ ⟨k,x2,l4,l6,l7,l13,l135,l136,l137,hk,hR⟩
  simp only at l4 l6 l7 l13 l135 l136 l137 hR
  rw[az l137]
  by_cases c:k<KL.length
  ·have ci:decide ((k:Int)<(KL.length:Int))=true:=by simpa using c
   obtain⟨q,rfl,ct⟩:∃ q,x1=.o q KL.length∧b5[q]? = some (.own (KL.flatMap enc) 43 14 KL.length true):=by
    rcases hR.h1 with⟨rfl,h0⟩|h
    ·rw[h0]at c;simp at c
    ·exact h
   have pu:=hR.u
   have pv:=hR.vv
   have aC:=hR.lt
   have dD:=ir KL k c
   have dP:(enc KL[k]).length=14:=rfl
   have eo:(enc KL[k]).take 14=enc KL[k]:=zMy (by rw[dP];omega)
   have iU:(enc KL[k])[2]? = some (.str (En.key KL[k])):=rfl
   have gP:(enc KL[k]).all Vc.one=true:=by
    have:=hK1 _ (zMG c)
    simp[enc,Vc.one]at this ⊢;exact this
   have hn5:n<b5.length:=(zMo.1 pu).1
   have iP:(!(Op.bytesLess (En.key KL[k]) v.id.text||En.key KL[k]==v.id.text))=blt v.id.text (En.key KL[k]):=blt_gt _ _
   cases hd:blt v.id.text (En.key KL[k]) <;> rw[hd]at iP
   ·simp only[ae,↓Xn,↓Xo,↓Xg,↓Xd,↓Xe,↓Xf,Tryz.VΓ,Tryz.Γs,Xp,Xi,Nat.reduceAdd,Nat.reduceSub,Nat.reduceLT,Nat.reduceLeDiff,reduceIte,reduceCtorEq,Nat.reduceEqDiff,implies_true,forall_const,ad,av,beq_self_eq_true,bne_self_eq_false,Int.reduceBEq,Int.reduceBNe,Int.reduceLT,Int.reduceLE,l4,l6,l7,l13,l135,l136,l137,ci,ct,dD,dP,eo,iU,vH,pv,af pv,iP,zMq,zMx,zMv,zMp]
    refine⟨⟨by omega,by omega⟩,by rw[aM];omega,gP,jO,by omega,⟨k+1,x2,rfl,by omega,by rw[BO c hd];exact hR.app _⟩,?_⟩
    rw[az (show lk 137 _=some (.int .i64 ((k+1:Nat):Int)) from rfl)];omega
   ·obtain⟨M0,hM0⟩:∃ M0,M0=(G++(KL.take k).filter fun y=>blt v.id.text y.key):=⟨_,rfl⟩
    have e2:(G++(KL.take (k+1)).filter fun y=>blt v.id.text y.key)=M0++[KL[k]]:=by rw[hM0,BP c hd,zMT]
    have mH:M0.length≤k+KL.length+1:=by
     have:((KL.take k).filter fun y=>blt v.id.text y.key).length≤k:=zMI (zML _ _) (by rw[zMA];omega)
     rw[hM0,zMu];omega
    rw[← hM0]at hR
    clear hM0
    rcases hR.h2 with⟨rfl,zD⟩|⟨q3,rfl,lQ⟩
    ·have fe:∀ (l:List aw) Z,(b5++l).set n Z=b5.set n Z++l:=fun l Z=>bX hn5 l Z
     simp only[ae,↓Xn,↓Xo,↓Xg,↓Xd,↓Xe,↓Xf,Tryz.VΓ,Tryz.Γs,Xp,Xi,Nat.reduceAdd,Nat.reduceSub,Nat.reduceLT,Nat.reduceLeDiff,reduceIte,reduceCtorEq,Nat.reduceEqDiff,implies_true,forall_const,ad,av,beq_self_eq_true,bne_self_eq_false,Int.reduceBEq,Int.reduceBNe,Int.reduceLT,Int.reduceLE,l4,l6,l7,l13,l135,l136,l137,ci,ct,dD,dP,eo,iU,vH,pv,af pv,iP,pu,af pu,fe,zMq,zMx,zMv,zMp]
     rw[zD,zMK]at e2
     refine⟨⟨by omega,by omega⟩,by rw[aM];omega,gP,jO,by decide,⟨gP,by decide,by decide⟩,by omega,⟨k+1,_,rfl,by omega,by rw[e2];exact hR.new (M':=[KL[k]]) (j:=2) (by simp) (by simp) (by simp)⟩,?_⟩
     rw[az (show lk 137 _=some (.int .i64 ((k+1:Nat):Int)) from rfl)];omega
    ·have oS:=(zMo.1 lQ).1
     have hq3n:=hR.q2 _ _ rfl
     have Dy:∀ (l:List aw) Z,(b5++l).set q3 Z=b5.set q3 Z++l:=fun l Z=>bX oS l Z
     have fT:∀ Y (l:List aw) Z,(b5.set q3 Y++l).set n Z=(b5.set q3 Y).set n Z++l:=fun Y l Z=>bX (by rw[zMr];omega) l Z
     have hg2:∀ Y,(b5.set q3 Y)[n]? = _:=fun Y=>aH pu (by omega) Y
     simp only[ae,↓Xn,↓Xo,↓Xg,↓Xd,↓Xe,↓Xf,Tryz.VΓ,Tryz.Γs,Xp,Xi,Nat.reduceAdd,Nat.reduceSub,Nat.reduceLT,Nat.reduceLeDiff,reduceIte,reduceCtorEq,Nat.reduceEqDiff,implies_true,forall_const,ad,av,beq_self_eq_true,bne_self_eq_false,Int.reduceBEq,Int.reduceBNe,Int.reduceLT,Int.reduceLE,l4,l6,l7,l13,l135,l136,l137,ci,ct,dD,dP,eo,iU,vH,pv,af pv,iP,pu,af pu,af lQ,Dy,fT,af (hg2 _),zMq,zMx,zMv,zMp]
     refine⟨⟨by omega,by omega⟩,by rw[aM];omega,gP,jO,by decide,⟨gP,by unfold maxLen;omega,by omega⟩,by omega,⟨k+1,_,rfl,by omega,by rw[e2];exact hR.Hk (by simp) (by simp)⟩,?_⟩
     rw[az (show lk 137 _=some (.int .i64 ((k+1:Nat):Int)) from rfl)];omega
  ·have ci:decide ((k:Int)<(KL.length:Int))=false:=by simpa using c
   obtain rfl:k=KL.length:=by omega
   rw[zMO,← hLP2]at hR
   simp only[ae,↓Xn,↓Xo,↓Xg,↓Xd,↓Xe,↓Xf,Tryz.VΓ,Tryz.Γs,Xp,Xi,Nat.reduceAdd,Nat.reduceSub,Nat.reduceLT,Nat.reduceLeDiff,reduceIte,reduceCtorEq,Nat.reduceEqDiff,implies_true,forall_const,ad,av,beq_self_eq_true,bne_self_eq_false,Int.reduceBEq,Int.reduceBNe,Int.reduceLT,Int.reduceLE,l135,l136,l137,ci]
   refine hk' _ _ ?_
   exact⟨l6,l13,x2,hR⟩
 rintro m11 ⟨t11,b11⟩ ⟨l6,l13,x3,hR⟩
 simp only at l6 l13 hR
 have pu:=hR.u
 have po:=hR.o
 have ho3:=hR.h2.one
 have aC:=hR.lt
 have hs:∀ X,(b11.set (b.length+2) X)[b.length+2]? = some X:=fun X=>zMt (zMo.1 po).1
 simp only[ae,↓Xn,↓Xo,↓Xg,↓Xd,↓Xe,↓Xf,Tryz.VΓ,Tryz.Γs,Xp,Xi,Nat.reduceAdd,Nat.reduceSub,Nat.reduceLT,Nat.reduceLeDiff,reduceIte,reduceCtorEq,Nat.reduceEqDiff,implies_true,forall_const,ad,av,beq_self_eq_true,bne_self_eq_false,Int.reduceBEq,Int.reduceBNe,Int.reduceLT,Int.reduceLE,l6,l13,pu,po,ho3,hs]
 exact⟨hR.kp.set (by omega) _,x3,true,rfl,hR.h2.setN (fun q k e=>by have:=hR.q2 q k e;omega) _,.inl rfl⟩
end
open Go Vc Go.RowKit Wf
theorem u64w {n:Int}(h0:0≤n)(h:n<18446744073709551616):IntKind.u64.wrap n=n:=by
 simp only[IntKind.wrap,IntKind.signed,IntKind.bits];simp;omega
theorem u64o {n:Int}(h0:18446744073709551616≤n)(h:n<36893488147419103232):IntKind.u64.wrap n=n - 18446744073709551616:=by
 simp only[IntKind.wrap,IntKind.signed,IntKind.bits];simp;omega
theorem xj {a b:Int}(ha:0≤a∧a<18446744073709551616)(hb:0≤b∧b<18446744073709551616):PC Tryz.V 31 [.int .u64 a,.int .u64 b] (.int .u64 (iV a b)):=by
 have hw:=u64w (n:=18446744073709551615 - b) (by omega) (by omega)
 by_cases h:a+b<18446744073709551616
 ·have e1:=u64w (n:=a+b) (by omega) h
  have e2:iV a b=a+b:=by unfold iV;rw[e1,if_neg (by omega)]
  have hd:decide (18446744073709551615 - b<a)=false:=by simp;omega
  rw[e2]
  refine aQ 3000 Tryz.func31 rfl Tryz.ntmps31 Tryz.results31 Tryz.call31 (by simp) (by simp[flat,flat.ai]) (by simp[flat,flat.ai]) ?_
  simp only[ae,↓Xn,↓Xo,↓Xg,↓Xd,↓Xe,↓Xf,Tryz.VΓ,Tryz.Γs,Xp,Xi,Nat.reduceAdd,Nat.reduceSub,Nat.reduceLT,Nat.reduceLeDiff,reduceIte,reduceCtorEq,Nat.reduceEqDiff,implies_true,forall_const,ad,beq_self_eq_true,bne_self_eq_false,Int.reduceBEq,Int.reduceBNe,Int.reduceLT,Int.reduceLE,hw,hd,e1]
 ·have e1:=u64o (n:=a+b) (by omega) (by omega)
  have e2:iV a b=18446744073709551615:=by unfold iV;rw[e1,if_pos (by omega)]
  have hd:decide (18446744073709551615 - b<a)=true:=by simp;omega
  rw[e2]
  refine aQ 3000 Tryz.func31 rfl Tryz.ntmps31 Tryz.results31 Tryz.call31 (by simp) (by simp[flat,flat.ai]) (by simp[flat,flat.ai]) ?_
  simp only[ae,↓Xn,↓Xo,↓Xg,↓Xd,↓Xe,↓Xf,Tryz.VΓ,Tryz.Γs,Xp,Xi,Nat.reduceAdd,Nat.reduceSub,Nat.reduceLT,Nat.reduceLeDiff,reduceIte,reduceCtorEq,Nat.reduceEqDiff,implies_true,forall_const,ad,beq_self_eq_true,bne_self_eq_false,Int.reduceBEq,Int.reduceBNe,Int.reduceLT,Int.reduceLE,hw,hd,e1]
def vT (c:Int):List SV:=[.int .u8 c]
theorem GR (a:Int)(L:List Int):((a::L).flatMap vT).drop 1=L.flatMap vT:=by rw[List.flatMap_cons];rfl
def tD (i:Nat)(bs b:List aw):Prop:=bs.length≤b.length∧∀ k,k<bs.length→k≠i→b[k]? = bs[k]?
theorem tD.refl (i:Nat)(bs:List aw):tD i bs bs:=⟨zMz _,fun _ _ _=>rfl⟩
theorem tD.trans {i:Nat}{a b c:List aw}(h:tD i a b)(k:tD i b c):tD i a c:=⟨zMI h.1 k.1,fun q hq hn=>(k.2 q (Nat.lt_of_lt_of_le hq h.1) hn).trans (h.2 q hq hn)⟩
theorem tD.app {i:Nat}{a b:List aw}(h:tD i a b)(X:List aw):tD i a (b++X):=⟨by simp;have:=h.1;omega,fun q hq hn=>by rw[zMw (Nat.lt_of_lt_of_le hq h.1)];exact h.2 q hq hn⟩
theorem tD.of {i:Nat}{a b:List aw}(h:Kp a b):tD i a b:=⟨h.1,fun q hq _=>h.2 q hq⟩
theorem tD.at {i:Nat}{a b:List aw}(h:tD i a b){k:Nat}{r:aw}(hk:a[k]? = some r)(hn:k≠i):b[k]? = some r:=(h.2 k (zMo.1 hk).1 hn).trans hk
def eI (b:List aw)(i:Nat)(L:List Int):Prop:=∃ x,b[i]? = some (.cells [x] 76 true)∧((x=.aI∧L=[])∨∃ j,x=.o j L.length∧j≠i∧b[j]? = some (.own (L.flatMap vT) 5 1 L.length false))∧∀ r∈L,0≤r∧r≤255
def dV (L:List Int)(n:Int):Int:=match L with
 | []=>0
 | a::_=>if n≤1 then 0 else a % n
def dL (L:List Int)(n:Int):List Int:=match L with
 | []=>[]
 | a::L=>if n≤1 then a::L else L
theorem IZ (L:List Int){n:Int}(h:0<n):0≤dV L n∧dV L n<n:=by
 unfold dV
 split
 ·omega
 ·split
  ·omega
  ·exact⟨Int.emod_nonneg _ (by omega),Int.emod_lt_of_pos _ h⟩
theorem oW {bs:List aw}{i:Nat}{L:List Int}(h:eI bs i L)(n:Int)(hn:n≤1000000):∃ nB,nB.length≤bs.length+1∧eI nB i (dL L n)∧tD i bs nB∧SC Tryz.V 26 [.p i 0,.int .i64 n] bs (fun r b=>r=.int .i64 (dV L n)∧b=nB):=by
 obtain⟨x,hi,hx,hr⟩:=h
 have eF:i<bs.length:=(zMo.1 hi).1
 have sc:=fun nB=>cV (V:=Tryz.V) (f:=26) (bs:=bs) 3000 Tryz.func26 rfl Tryz.ntmps26 Tryz.results26 Tryz.call26 (args:=[.p i 0,.int .i64 n]) (R:=fun r b=>r=.int .i64 (dV L n)∧b=nB) (by simp) (ax bs.length _ (by simp[within,within.aS,eF]))
 rcases hx with⟨rfl,rfl⟩|⟨j,rfl,lR,hj⟩
 ·refine⟨bs,by omega,⟨.aI,hi,.inl ⟨rfl,rfl⟩,hr⟩,tD.refl _ _,sc _ ?_⟩
  simp only[ae,↓Xn,↓Xo,↓Xg,↓Xd,↓Xe,↓Xf,Tryz.VΓ,Tryz.Γs,Xp,Xi,Nat.reduceAdd,Nat.reduceSub,Nat.reduceLT,Nat.reduceLeDiff,reduceIte,reduceCtorEq,Nat.reduceEqDiff,implies_true,forall_const,ad,Dj,beq_self_eq_true,bne_self_eq_false,Int.reduceBEq,Int.reduceBNe,Int.reduceLT,Int.reduceLE,hi]
  rfl
 ·cases L with
  | nil =>
    simp only[List.length_nil]at hi hj
    refine⟨bs,by omega,⟨_,hi,.inr ⟨j,rfl,lR,hj⟩,hr⟩,tD.refl _ _,sc _ ?_⟩
    have h0:(((0:Nat):Int)==0)=true:=rfl
    simp only[ae,↓Xn,↓Xo,↓Xg,↓Xd,↓Xe,↓Xf,Tryz.VΓ,Tryz.Γs,Xp,Xi,Nat.reduceAdd,Nat.reduceSub,Nat.reduceLT,Nat.reduceLeDiff,reduceIte,reduceCtorEq,Nat.reduceEqDiff,implies_true,forall_const,ad,Dj,beq_self_eq_true,bne_self_eq_false,Int.reduceBEq,Int.reduceBNe,Int.reduceLT,Int.reduceLE,hi,hj,h0]
    rfl
  | cons a L =>
    have h0:((((a::L).length:Nat):Int)==0)=false:=by rw[beq_eq_false_iff_ne,List.length_cons];omega
    simp only[List.length_cons]at h0
    have ha:=hr a List.mem_cons_self
    have mG:j<bs.length:=(zMo.1 hj).1
    by_cases h1:n≤1
    ·refine⟨bs,by omega,?_,tD.refl _ _,sc _ ?_⟩
     ·simp only[dL,if_pos h1]
      exact⟨_,hi,.inr ⟨j,rfl,lR,hj⟩,hr⟩
     ·have hd:decide (n≤1)=true:=decide_eq_true h1
      have hv:dV (a::L) n=0:=by simp only[dV,if_pos h1]
      rw[hv]
      simp only[ae,↓Xn,↓Xo,↓Xg,↓Xd,↓Xe,↓Xf,Tryz.VΓ,Tryz.Γs,Xp,Xi,Nat.reduceAdd,Nat.reduceSub,Nat.reduceLT,Nat.reduceLeDiff,reduceIte,reduceCtorEq,Nat.reduceEqDiff,implies_true,forall_const,ad,Dj,beq_self_eq_true,bne_self_eq_false,Int.reduceBEq,Int.reduceBNe,Int.reduceLT,Int.reduceLE,hi,hj,hd,h0]
    ·have hd:decide (n≤1)=false:=decide_eq_false h1
     have hv:dV (a::L) n=a % n:=by simp only[dV,if_neg h1]
     have hL:dL (a::L) n=L:=by simp only[dL,if_neg h1]
     have fG:((a::L).flatMap vT)[Int.toNat 0 * 1]? = some (.int .u8 a):=rfl
     have jD:bs.set j (.own ((a::L).flatMap vT) 5 1 (L.length+1) false)=bs:=by
      apply List.ext_getElem?
      intro k
      by_cases hk:k=j
      ·subst hk;rw[zMt mG];exact hj.symm
      ·rw[List.getElem?_set_ne (fun e=>hk e.symm)]
     have kG:∀ X,(bs++[X])[i]? = some (.cells [.o j (L.length+1)] 76 true):=fun X=>af hi [X]
     have Bs:rN .rem .i64 a n=a % n:=Int.tmod_eq_emod_of_nonneg ha.1
     have hw:IntKind.i64.wrap a=a:=by simp[IntKind.wrap,IntKind.bits,IntKind.signed];omega
     have hlen:=pK vT 1 (fun _=>rfl) (a::L)
     have eo:(((a::L).flatMap vT).take ((L.length+1) * 1)).drop (Int.toNat 1 * 1)=L.flatMap vT:=by
      rw[zMy (by rw[hlen];simp)]
      exact GR a L
     rw[hL]
     refine⟨(bs++[aw.own (L.flatMap vT) 5 1 L.length false]).set i (.cells [.o bs.length L.length] 76 true),by simp,⟨_,zMt (by simp;omega),.inr ⟨_,rfl,by omega,by rw[List.getElem?_set_ne (by omega)];exact aW _ _⟩,fun r h=>hr r (zME _ h)⟩,⟨by simp,fun k hk hn=>by rw[List.getElem?_set_ne (fun e=>hn e.symm),zMw hk]⟩,sc _ ?_⟩
     rw[hv]
     simp only[ae,↓Xn,↓Xo,↓Xg,↓Xd,↓Xe,↓Xf,Tryz.VΓ,Tryz.Γs,Xp,Xi,Nat.reduceAdd,Nat.reduceSub,Nat.reduceLT,Nat.reduceLeDiff,reduceIte,reduceCtorEq,Nat.reduceEqDiff,implies_true,forall_const,ad,Dj,beq_self_eq_true,bne_self_eq_false,Int.reduceBEq,Int.reduceBNe,Int.reduceLT,Int.reduceLE,hi,hj,hd,h0,fG,jD,kG,Bs,hw,eo]
     exact⟨by omega,by rw[hlen];simp[Int.toNat],by omega,by omega,by simp[Int.toNat]⟩
theorem F3 {bs:List aw}{i:Nat}{L:List Int}(h:eI bs i L)(n:Int)(hn:n≤1000000):∃ nB,eI nB i (dL L n)∧tD i bs nB∧SC Tryz.V 26 [.p i 0,.int .i64 n] bs (fun r b=>r=.int .i64 (dV L n)∧b=nB):=by
 obtain⟨nB,_,h⟩:=oW h n hn
 exact⟨nB,h⟩
theorem tj {bs:List aw}{i:Nat}{L:List Int}(h:eI bs i L)(n:Int)(hn:0<n∧n≤1000000):SC Tryz.V 26 [.p i 0,.int .i64 n] bs (fun r b=>∃ v L',r=.int .i64 v∧(0≤v∧v<n)∧eI b i L'∧tD i bs b):=by
 obtain⟨nB,h1,h2,h3⟩:=F3 h n hn.2
 refine h3.mono ?_
 rintro r b ⟨rfl,rfl⟩
 exact⟨_,_,rfl,IZ L hn.1,h1,h2⟩
theorem GQ (L:List Int)(n:Nat):(L.flatMap vT).take (n * 1)=(L.take n).flatMap vT:=by
 induction L generalizing n with
 | nil=>simp
 | cons a L ih =>
   cases n with
   | zero=>simp
   | succ n =>
     rw[List.take_succ_cons,List.flatMap_cons,List.flatMap_cons,← ih]
     rfl
theorem sc_New {bs:List aw}{j:Nat}{L:List Int}(hj:bs[j]? = some (.own (L.flatMap vT) 5 1 L.length false))(hr:∀ r∈L,0≤r∧r≤255)(hL:L.length≤9223372036854775807):SC Tryz.V 25 [.o j L.length] bs (fun r b=>∃ k L',r=.p k 0∧bs.length≤k∧Kp bs b∧eI b k L'):=by
 have mG:=(zMo.1 hj).1
 refine cV 3000 Tryz.func25 rfl Tryz.ntmps25 Tryz.results25 Tryz.call25 (by simp) (ax bs.length _ (by simp[within,within.aS,mG])) ?_
 simp only[ae,↓Xn,↓Xo,↓Xg,↓Xd,↓Xe,↓Xf,Tryz.VΓ,Tryz.Γs,Xp,Xi,Nat.reduceAdd,Nat.reduceSub,Nat.reduceLT,Nat.reduceLeDiff,reduceIte,reduceCtorEq,Nat.reduceEqDiff,implies_true,forall_const,ad,av,beq_self_eq_true,bne_self_eq_false,Int.reduceBEq,Int.reduceBNe,Int.reduceLT,Int.reduceLE,hj]
 obtain⟨n,hn,sA⟩:∃ n:Nat,(if (200:Int)<L.length then 200 else(L.length:Int))=n∧n≤L.length:=by
  split
  ·exact⟨200,rfl,by omega⟩
  ·exact⟨_,rfl,zMz _⟩
 rw[hn,Int.toNat_natCast,GQ]
 refine⟨⟨by omega,by omega⟩,bs.length+1,L.take n,rfl,by omega,(Kp.refl bs).app _,.o bs.length n,zp bs _ 1,.inr ⟨bs.length,by simp[sA],by omega,?_⟩,fun r h=>hr r (List.mem_of_mem_take h)⟩
 rw[jn]
 simp[sA]
theorem eI.kp {b b1:List aw}{i:Nat}{L:List Int}(h:eI b i L)(k:Kp b b1):eI b1 i L:=by
 obtain⟨x,hi,hx,hr⟩:=h
 refine⟨x,k.at hi,?_,hr⟩
 rcases hx with h|⟨j,h1,h2,h3⟩
 ·exact .inl h
 ·exact .inr ⟨j,h1,h2,k.at h3⟩
theorem eI.CJ {b:List aw}{i k:Nat}{L:List Int}{c:List SV}{T:TypeId}{m:Bool}(h:eI b i L)(hk:b[k]? = some (.cells c T m))(iO:k≠i)(X:aw):eI (b.set k X) i L:=by
 obtain⟨x,hi,hx,hr⟩:=h
 refine⟨x,aH hi iO _,?_,hr⟩
 rcases hx with h|⟨j,h1,h2,h3⟩
 ·exact .inl h
 ·exact .inr ⟨j,h1,h2,aH h3 (by rintro rfl;rw[hk]at h3;cases h3) _⟩
theorem eI.app {b:List aw}{i:Nat}{L:List Int}(h:eI b i L)(X:List aw):eI (b++X) i L:=h.kp ((Kp.refl _).app X)
theorem tD.outs {i:Nat}{bs nB:List aw}(h:tD i bs nB)(hl:nB.length≤bs.length+1):Gd [(i,0,0),(bs.length,0,0)] nB bs:=by
 refine yM (fun j hj=>?_) (fun y hy=>by simp at hy;rcases hy with rfl|rfl <;> rfl)
 have h1:j≠i:=fun e=>hj (i,0,0) (by simp) e.symm
 have h2:j≠bs.length:=fun e=>hj (bs.length,0,0) (by simp) e.symm
 by_cases aC:j<bs.length
 ·exact h.2 j aC h1
 ·rw[List.getElem?_eq_none (by omega),List.getElem?_eq_none (by omega)]
theorem tD.kp {i:Nat}{a b c:List aw}(h:tD i b c)(k:Kp a b)(hi:a.length≤i):Kp a c:=⟨zMI k.1 h.1,fun q hq=>(h.2 q (Nat.lt_of_lt_of_le hq k.1) (by omega)).trans (k.2 q hq)⟩
end Go.Proofs.YteipdaijbncgeaaGreatDoor
