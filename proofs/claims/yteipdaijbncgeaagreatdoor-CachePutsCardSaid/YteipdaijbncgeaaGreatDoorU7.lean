/- Texts of this claim, laid together: EntrC, DelE, Mid, DelF, CacheW, HeapUp, HeapF, InsE, InsV, One, PutW, Ref31, SameC, Tr31, Verd, PutP. -/
import Derived.Shelf.SlicesE.Clone
import Derived.Shelf.RegionOpenPlain
import Derived.WalkKit
import Derived.Deep.RegionLaw
import Derived.Lib.Walk
import Derived.Sort.WalkB12
import Derived.Shelf.Spec.SlicesInsert
import Derived.Lib.AppendZerosOnto
import Derived.Laws.NewBlocks
import Derived.Lib.Overlaps
import Derived.Test.YteipdaijbncgeaaGreatDoorU6
open List renaming getElem?_eq_some_iff → zNt, length_append → zNu, getElem?_set_self → zNv, length_take → zNw, length_set → zNy, getElem?_append_left → zNz, length_drop → zNA, take_succ_eq_append_getElem → zNB, drop_of_length_le → zNC, getElem?_toArray → zND, mem_cons_of_mem → zNF, take_of_length_le → zNG, append_nil → zNH, take_append_of_le_length → zNI, getElem_mem → zNJ, all_eq_true → zNK, nil_append → zNL, getElem?_eq_getElem → zNM, toList_toArray → zNO, flatMap_append → zNP, take_append_drop → zNQ, mem_cons → zNS, flatMap_cons → zNT, getElem?_cons_zero → zNW, filter_append → zNX, append_assoc → zNY, drop_drop → zNZ, drop_append → zN3, take_length → zN4, map_cons → zN5, drop_succ_cons → zN6
open Nat renaming le_refl → zNx, mul_le_mul_right → zNU, add_sub_cancel_left → zNV, add_zero → zN0, zero_add → zN1, le_trans → zN2
open Array renaming length_toList → zNN, getElem?_eq_some_iff → zNR
set_option linter.all false
set_option maxHeartbeats 16000000
set_option maxRecDepth 20000
namespace Go.Proofs.YteipdaijbncgeaaGreatDoor
open Go Vc Go.RowKit Wf
theorem Gh:PC Tryz.V 55 [.aE] .aE:=by
 refine aQ 3000 Tryz.func55 rfl Tryz.ntmps55 Tryz.results55 Tryz.call55 (by simp) (by simp[flat,flat.ai]) (by simp[flat,flat.ai]) ?_
 simp only[ad,↓Xn,↓Xo,↓Xg,↓Xd,↓Xe,↓Xf,Tryz.VΓ,Tryz.Γs,Xp,Xi,Nat.reduceAdd,Nat.reduceSub,Nat.reduceLT,Nat.reduceLeDiff,reduceIte,reduceCtorEq,Nat.reduceEqDiff,implies_true,forall_const,aa]
theorem uA {v:Vd}(hv:v.tr=.aE):PC Tryz.V 34 [.agg (cN v)] (.agg (cN v)):=by
 have he:cN v=[.int .i64 v.err,.int .i64 v.id.kind,.str v.id.text,.str v.id.host,.int .i64 v.id.port,.int .i64 v.bE.kind,.str v.bE.text,.str v.bE.host,.int .i64 v.bE.port,.bool v.store,.int .u64 v.df,.aE]:=by unfold cN;rw[hv]
 rw[he]
 refine aQ 3000 Tryz.func34 rfl Tryz.ntmps34 Tryz.results34 Tryz.call34 (by simp) (by simp[flat,flat.ai]) (by simp[flat,flat.ai]) ?_
 simp only[ad,↓Xn,↓Xo,↓Xg,↓Xd,↓Xe,↓Xf,Tryz.VΓ,Tryz.Γs,Xp,Xi,Nat.reduceAdd,Nat.reduceSub,Nat.reduceLT,Nat.reduceLeDiff,reduceIte,reduceCtorEq,Nat.reduceEqDiff,implies_true,forall_const,aa]
 refine ae Gh ?_
 simp only[ad,↓Xn,↓Xo,↓Xg,↓Xd,↓Xe,↓Xf,Tryz.VΓ,Tryz.Γs,Xp,Xi,Nat.reduceAdd,Nat.reduceSub,Nat.reduceLT,Nat.reduceLeDiff,reduceIte,reduceCtorEq,Nat.reduceEqDiff,implies_true,forall_const,aa]
def renCE:Go.Shelf.Ren:=⟨fun|41=>54|n=>n,fun|4=>4|22=>22|23=>43|n=>n,fun n=>n⟩
theorem IC:SlLaysE0.n41 Tryz.prog renCE:={
 mixed:=by kernel_rfl
 f41 := ⟨Tryz.f54.name, by kernel_rfl, Tryz.func54.trans (congrArg some (by kernel_rfl))⟩
 t4:=Tryz.underlying4
 a4:=Tryz.isAgg4
 z4:=Tryz.sizeOf4
 v4:=Tryz.zeroValue4
 t22:=Tryz.underlying22
 a22:=Tryz.isAgg22
 z22:=Tryz.sizeOf22
 v22:=Tryz.zeroValue22 }
theorem AP {b:List ax}:SC Tryz.V 54 [.aE] b (fun r b'=>r=.aE∧b'=b) :=
 HT (V:=Tryz.V) (f:=54) Tryz.call54 rfl (fun β fp w hb=>(AnyE.slices_Clone_nil IC 0 0 w).mono fun e w' h=>⟨by rw[h.1];simp[ah],cV h.2.symm⟩)
theorem AO {b:List ax}{q n:Nat}{c:List SV}{m:Bool}(hq:b[q]? = some (.own c 43 14 n m))(pV:m=true∨n≠0)(h1:c.all one=true)(hl:n≤1000000):SC Tryz.V 54 [.o q n] b (fun r b'=>r=.o b.length n∧b'=b++[.own c 43 14 n true]):=by
 refine yJ (V:=Tryz.V) (f:=54) Tryz.call54 fun β fp w fQ hE=>?_
 have hh:=(fQ β (bw.refl _ _)).holds q _ hq
 have fI:=fun β' hβ=>oy (β':=β') fQ hβ hq
 clear fQ hE
 have co:∀ v∈c.map (ah β),v.oneCell'=true:=fun v hv=>by
  obtain⟨y,hy,rfl⟩:=List.mem_map.1 hv
  exact fv (zNK.1 h1 y hy) β
 rcases hh with⟨fR,rfl,rfl,hnf,hbk⟩|⟨fR,Jc,vu,dB,Jf,hm,qN⟩
 ·have hm:m=true:=pV.resolve_right (by simp)
  have eV:=hbk hm
  have e0:(aG β [.o q 0]).toArray=#[.slice none 0 0]:=by simp[aG,ah,oV,fR,nJ,eV]
  rw[e0]
  refine(AnyE.slices_Clone_nil IC 0 0 w).mono ?_
  rintro e w' ⟨rfl,rfl⟩
  exact⟨⟨0,0,0⟩,fun _=>False,by simp[oV,nJ],Below.refl _ _,fun β' hβ=>holds_nil,fun k hk=>hk.elim⟩
 ·obtain⟨i0,z,rT,wh,eN,rm,mN,oE⟩:∃ (i:TypeInfo) (z:Value),Tryz.prog.info? 43=some i∧i.zero=some z∧i.size=14∧z.cells.size=14∧True∧i.bytes=160:=by
   obtain⟨i0,z,hi,hz,his,oE,BY⟩:=Tryz.ty43.info
   exact⟨i0,z,hi,hz,his,by rw[BY];rfl,trivial,oE⟩
  have e0:(aG β [.o q n]).toArray=#[.slice (some ⟨(β q).cE,(β q).off,none⟩) n ((β q).cap - 1)]:=by simp[aG,ah,oV,fR]
  rw[e0]
  have hcc:=AnyE.slices_Clone IC i0 z 14 160 rT wh eN oE rm (by omega) Tryz.sizeOf43 (β q).cE (β q).off n ((β q).cap - 1) (c.map (ah β)) w (by simpa using dB) (by unfold maxLen;omega) (by omega) Jf co
  refine hcc.mono ?_
  rintro e w' ⟨v',rfl,⟨hln,ln⟩,hnn,rZ⟩
  rcases ln with⟨rfl,-⟩|⟨g,cap,cur,rfl,hg,Ca,Jb,hcm2,Jn,IZ⟩
  ·exact absurd rfl hnn
  have hgl:g<w'.heap.size:=(zNR.1 Ca).1
  refine⟨⟨g,0,cap+1⟩,(·=g),by simp[oV],rZ,fun β' hβ=>?_,?_⟩
  ·refine dF (rest:=cur.toList.drop (n * 14)) (fz:=(0,0)) ?_ (.inr (.inl (zNx _))) dB Jb hcm2 ?_
   ·rw[← fI β' hβ.dy,← IZ,zNQ,Array.toArray_toList];exact Ca
   ·rw[dB,zNA,zNN,Jn]
    have:n * 14≤cap * 14:=zNU _ Jb
    omega
  ·rintro k rfl
   exact⟨hg,hgl⟩
theorem tS (L:List En)(k:Nat)(h:k<L.length):((L.flatMap enc).drop (k * 14)).take 12=cN L[k].v:=by
 have h1:=jg L k h
 have h2:(((L.flatMap enc).drop (k * 14)).take 14).take 12=cN L[k].v:=by rw[h1];rfl
 rw[List.take_take]at h2
 exact h2
theorem vdc_put (L:List En)(k:Nat)(h:k<L.length):(L.flatMap enc).take (k * 14)++(cN L[k].v++(L.flatMap enc).drop (k * 14+12))=L.flatMap enc:=by
 rw[← tS L k h,← zNZ,zNQ,zNQ]
theorem sB {b:List ax}:SC Tryz.V 33 [.aE] b (fun r b'=>r=.aE∧b'=b):=by
 refine cz 3000 Tryz.func33 rfl Tryz.ntmps33 Tryz.results33 Tryz.call33 (by simp) (aw b.length _ (by simp[within,within.ay])) ?_
 simp only[ad,↓Xn,↓Xo,↓Xg,↓Xd,↓Xe,↓Xf,Tryz.VΓ,Tryz.Γs,Xp,Xi,Nat.reduceAdd,Nat.reduceSub,Nat.reduceLT,Nat.reduceLeDiff,reduceIte,reduceCtorEq,Nat.reduceEqDiff,implies_true,forall_const,aa,av,beq_self_eq_true,bne_self_eq_false,Int.reduceBEq,Int.reduceBNe,Int.reduceLT,Int.reduceLE]
 refine aJ AP ?_
 rintro y b1 ⟨rfl,rfl⟩
 simp only[ad,↓Xn,↓Xo,↓Xg,↓Xd,↓Xe,↓Xf,Tryz.VΓ,Tryz.Γs,Xp,Xi,Nat.reduceAdd,Nat.reduceSub,Nat.reduceLT,Nat.reduceLeDiff,reduceIte,reduceCtorEq,Nat.reduceEqDiff,implies_true,forall_const,aa,av,beq_self_eq_true,bne_self_eq_false,Int.reduceBEq,Int.reduceBNe,Int.reduceLT,Int.reduceLE]
 refine aM (fun σ=>lk 3 σ.t=some .aE∧lk 8 σ.t=some (.int .i64 0)∧lk 9 σ.t=some (.int .i64 0)∧σ.b=b1) (fun σ=>0) ⟨rfl,rfl,rfl,rfl⟩ ?_
 rintro⟨t',b2⟩ ⟨l3,l8,l9,rfl⟩
 simp only at l3 l8 l9
 simp only[ad,↓Xn,↓Xo,↓Xg,↓Xd,↓Xe,↓Xf,Tryz.VΓ,Tryz.Γs,Xp,Xi,Nat.reduceAdd,Nat.reduceSub,Nat.reduceLT,Nat.reduceLeDiff,reduceIte,reduceCtorEq,Nat.reduceEqDiff,implies_true,forall_const,aa,av,beq_self_eq_true,bne_self_eq_false,Int.reduceBEq,Int.reduceBNe,Int.reduceLT,Int.reduceLE,l3,l8,l9]
theorem uf {b:List ax}{q:Nat}{L:List En}{m:Bool}(hq:b[q]? = some (.own (L.flatMap enc) 43 14 L.length m))(pV:m=true∨L.length≠0)(hT:∀ e∈L,e.v.tr=.aE)(hl:L.length≤1000000) :
 SC Tryz.V 33 [.o q L.length] b (fun r b'=>r=.o b.length L.length∧b'=b++[.own (L.flatMap enc) 43 14 L.length true]):=by
 have lL:=(zNt.1 hq).1
 have h1:(L.flatMap enc).all one=true:=by
  rw[zNK]
  intro x hx
  obtain⟨e,he,hx⟩:=List.mem_flatMap.1 hx
  have:=hT e he
  simp only[enc,this]at hx
  simp at hx
  rcases hx with rfl|rfl|rfl|rfl|rfl|rfl|rfl|rfl|rfl|rfl|rfl|rfl|rfl|rfl <;> rfl
 refine cz 3000 Tryz.func33 rfl Tryz.ntmps33 Tryz.results33 Tryz.call33 (by simp) (aw b.length _ (by simp[within,within.ay,lL])) ?_
 simp only[ad,↓Xn,↓Xo,↓Xg,↓Xd,↓Xe,↓Xf,Tryz.VΓ,Tryz.Γs,Xp,Xi,Nat.reduceAdd,Nat.reduceSub,Nat.reduceLT,Nat.reduceLeDiff,reduceIte,reduceCtorEq,Nat.reduceEqDiff,implies_true,forall_const,aa,av,beq_self_eq_true,bne_self_eq_false,Int.reduceBEq,Int.reduceBNe,Int.reduceLT,Int.reduceLE]
 refine aJ (AO hq pV h1 hl) ?_
 rintro y b1 ⟨rfl,rfl⟩
 simp only[ad,↓Xn,↓Xo,↓Xg,↓Xd,↓Xe,↓Xf,Tryz.VΓ,Tryz.Γs,Xp,Xi,Nat.reduceAdd,Nat.reduceSub,Nat.reduceLT,Nat.reduceLeDiff,reduceIte,reduceCtorEq,Nat.reduceEqDiff,implies_true,forall_const,aa,av,beq_self_eq_true,bne_self_eq_false,Int.reduceBEq,Int.reduceBNe,Int.reduceLT,Int.reduceLE]
 refine aM (fun σ=>∃ (i:Nat),lk 3 σ.t=some (.o b.length L.length)∧lk 8 σ.t=some (.int .i64 L.length)∧lk 9 σ.t=some (.int .i64 i)∧i≤L.length∧σ.b=b++[.own (L.flatMap enc) 43 14 L.length true]) (fun σ=>L.length - ja 9 σ) ⟨0,rfl,rfl,rfl,by omega,rfl⟩ ?_
 rintro⟨t',b2⟩ ⟨i,l3,l8,l9,hi,rfl⟩
 simp only at l3 l8 l9
 rw[az l9]
 by_cases c:i<L.length
 ·have ci:decide ((i:Int)<(L.length:Int))=true:=by simpa using c
  have dW:=tS L i c
  have hpt:=vdc_put L i c
  have C4:(cN L[i].v).length=12:=rfl
  simp only[ad,↓Xn,↓Xo,↓Xg,↓Xd,↓Xe,↓Xf,Tryz.VΓ,Tryz.Γs,Xp,Xi,Nat.reduceAdd,Nat.reduceSub,Nat.reduceLT,Nat.reduceLeDiff,reduceIte,reduceCtorEq,Nat.reduceEqDiff,implies_true,forall_const,aa,av,beq_self_eq_true,bne_self_eq_false,Int.reduceBEq,Int.reduceBNe,Int.reduceLT,Int.reduceLE,l3,l8,l9,ci,dW]
  refine⟨⟨by omega,by omega⟩,by rw[aT];omega,ae (uA (hT _ (zNJ c))) ?_⟩
  simp only[ad,↓Xn,↓Xo,↓Xg,↓Xd,↓Xe,↓Xf,Tryz.VΓ,Tryz.Γs,Xp,Xi,Nat.reduceAdd,Nat.reduceSub,Nat.reduceLT,Nat.reduceLeDiff,reduceIte,reduceCtorEq,Nat.reduceEqDiff,implies_true,forall_const,aa,av,beq_self_eq_true,bne_self_eq_false,Int.reduceBEq,Int.reduceBNe,Int.reduceLT,Int.reduceLE,l3,l8,l9,hpt,C4]
  have h1v:(cN L[i].v).all one=true:=by
   have:=hT _ (zNJ c)
   simp[cN,one,this]
  refine⟨⟨by omega,by omega⟩,⟨h1v,by rw[aT];omega⟩,by omega,⟨i+1,rfl,by omega⟩,?_⟩
  rw[az (show lk 9 _=some (.int .i64 ((i+1:Nat):Int)) from rfl)];omega
 ·have ci:decide ((i:Int)<(L.length:Int))=false:=by simpa using c
  simp only[ad,↓Xn,↓Xo,↓Xg,↓Xd,↓Xe,↓Xf,Tryz.VΓ,Tryz.Γs,Xp,Xi,Nat.reduceAdd,Nat.reduceSub,Nat.reduceLT,Nat.reduceLeDiff,reduceIte,reduceCtorEq,Nat.reduceEqDiff,implies_true,forall_const,aa,av,beq_self_eq_true,bne_self_eq_false,Int.reduceBEq,Int.reduceBNe,Int.reduceLT,Int.reduceLE,l3,l8,l9,ci]
open Go Vc Go.RowKit Go.Lib Wf
theorem rA {P:Program}{ops:Array Oper}{o:Oper}{a:Act}{w:World}{K:Act→World→Prop}{Q:Exit→Act→World→Prop}{E:Prop}
 (hg:o.guard=none) {v':Value} {w':World} (hr:(execOp a.eval o).run P w=.ok (.value v') w') (hK:K (a.put o.dst v') w') :
 if Region.wanted o (yielded ops a.tmps)=true then Oper.wp P o a w K Q else E:=by
 have hw:Region.wanted o (yielded ops a.tmps)=true:=by simp[Region.wanted,hg]
 rw[if_pos hw]
 unfold Oper.wp
 simp[hr,Result.andThen]
 exact hK
theorem du {P:Program}{w:World}{ops:Array Oper}{rest:List Oper}{o:Oper}{a:Act}{Q:Exit→Act→World→Prop}(hgd:o.guard=none){v':Value}{w':World}
 (hr:(execOp a.eval o).run P w=.ok (.value v') w') (h:wpList P ops Q rest (a.put o.dst v') w'):wpList P ops Q (o::rest) a w :=
 wpList_plain hgd fun _ hK=>by
  unfold Oper.wp
  simp[hr,Result.andThen]
  exact hK _ _ h
theorem iU {P:Program}{o:Oper}{a:Act}{w w':World}{s x:Operand}{t t':TypeId}(ho:o.op=.call { callee:=.builtin .append,args:=#[s,x],argTypes:=#[t,t'] }){v:Value}(hr:(Builtin.append_ #[t,t'] o.type #[a.eval s,a.eval x]).run P w=.ok v w') :
 (execOp a.eval o).run P w=.ok (.value v) w':=by
 unfold execOp
 simp only[ho,resolve,invoke,builtin,Sem.run_bind,Sem.run_pure,Result.andThen_ok,List.map_toArray,zN5,List.map_nil,hr]
theorem cell_of {w:World}{g:Nat}{arr:Array Value}{T:TypeId}{fz:Nat × Nat}(hg:w.heap[g]? = some (.cells arr T fz))(j:Nat):w.cell? ⟨g,j,none⟩=arr[j]? := by
 simp[World.cell?,hg]
theorem ug {P:Program}(w:World)(t e ty:TypeId)(z:Value)(ht:P.underlying t=some (.slice e))(hv:∀ w,(zeroValue e).run P w=.ok z w)(b o n c:Nat)(hn:0<n){w':World}(oL:(storeCells ⟨b,o,none⟩ (Builtin.zeroCells z.cells n).toList).run P w=.ok () w') :
 (Builtin.clear_ #[t] ty #[.slice (some ⟨b,o,none⟩) n c]).run P w=.ok (.tuple #[]) w':=by
 cases n with
 | zero=>omega
 | succ m=>simp[Builtin.clear_,run_underlying ht,hv,oL]
theorem wv {z:Array Value}(h:∀ v∈z,v.oneCell'=true)(n:Nat):∀ v∈(Builtin.zeroCells z n).toList,v.oneCell'=true:=by
 intro v hv
 simp only[Builtin.zeroCells,Array.toList_map,List.mem_map]at hv
 obtain⟨i,hi,rfl⟩:=hv
 have h0:z.size≠0:=by
  intro h0;rw[h0]at hi;simp at hi
 rw[getElem!_pos z (i % z.size) (Nat.mod_lt _ (by omega))]
 exact h _ (Array.getElem_mem _)
theorem iD:∃ (i:TypeInfo) (z:Value),Tryz.prog.info? 43=some i∧i.zero=some z∧i.size=14∧z.cells.size=14∧(∀ v∈z.cells,v.oneCell'=true)∧i.bytes≤500:=by
 have h:((Tryz.prog.info? 43).map fun i=>(i.size,i.zero.map fun z=>(z.cells.size,z.cells.all fun v=>v.oneCell'),decide (i.bytes≤500)))=some (14,some (14,true),true):=by kernel_rfl
 cases hi:Tryz.prog.info? 43 with
 | none=>rw[hi]at h;cases h
 | some i =>
   rw[hi]at h
   cases hz:i.zero with
   | none=>simp[hz]at h
   | some z =>
     simp[hz]at h
     refine⟨i,z,rfl,hz,h.1,h.2.1.1,?_,h.2.2⟩
     intro v hv
     obtain⟨k,hk,rfl⟩:=Array.mem_iff_getElem.1 hv
     exact h.2.1.2 k hk
theorem Eu {z:Value}{i:TypeInfo}(hi:Tryz.prog.info? 43=some i)(hz:i.zero=some z)(w:World):(zeroValue 43).run Tryz.prog w=.ok z w:=by
 simp[zeroValue,typeInfo,hi,hz]
set_option maxRecDepth 1000000 in
theorem HA {g n cap k:Nat}{c rest:List Value}{fz:Nat × Nat}{w:World}(hg:w.heap[g]? = some (.cells (c++rest).toArray 43 fz))(wo:c.length+rest.length≤fz.1∨fz.2≤fz.1)(hc:c.length=n * 14)(kQ:c.length+rest.length=cap * 14)(hk:k<n){j:Nat}(hj:j=k+1)(h1:∀ v∈c,v.oneCell'=true)(vu:cap≤maxLen) :
 Calls Tryz.prog 37 #[.slice (some ⟨g,0,none⟩) n cap,.int .i64 k,.int .i64 j] w fun e w'=>e=.returned (.slice (some ⟨g,0,none⟩) (n - 1) cap)∧∃ q z,z.length=14∧(∀ v∈z,v.oneCell'=true)∧w'=(Sort.ahead w q).setRow g ((c.take (k * 14)++c.drop (j * 14))++(z++rest)).toArray:=by
 have mixed:=Tryz.V.mixed
 have hncap:n≤cap:=by omega
 obtain⟨i0,z,rT,wh,eN,rm,mN,-⟩:=iD
 have hzv:=Eu rT wh
 have hu:Tryz.prog.underlying 22=some (.slice 43):=by kernel_rfl
 obtain⟨Z,hZ⟩:∃ Z,Z=(Builtin.zeroCells z.cells 1).toList:=⟨_,rfl⟩
 have hZl:Z.length=14:=by rw[hZ,zNN,size_zeroCells,rm]
 have hZ1:∀ v∈Z,v.oneCell'=true:=by rw[hZ];exact wv mN 1
 obtain⟨news,B8⟩:∃ news,news=c.drop (j * 14):=⟨_,rfl⟩
 have sR:news.length=(n - (j)) * 14:=by rw[B8,zNA,hc,Nat.sub_mul]
 obtain⟨W1,rp⟩:∃ W1,W1=w.drew.setRow g (c.take (k * 14)++news++(c.drop ((n - 1) * 14)++rest)).toArray:=⟨_,rfl⟩
 have B2:(storeCells ⟨g,k * 14,none⟩ news).run Tryz.prog w.drew=.ok () W1:=by
  have:=bP (P:=Tryz.prog) g (k * 14) _ fz news 0 _ w.drew hg (by simp;omega) (by omega) (fun v hv=>h1 v (by rw[B8]at hv;exact List.mem_of_mem_drop hv))
  rw[this,rp]
  congr 2
  simp only[zNO,zN0]
  rw[zNI (by omega),List.drop_append_of_le_length (by omega)]
  rw[show k * 14+news.length=(n - 1) * 14 by omega]
 have hgW:W1.heap[g]? = some (.cells (c.take (k * 14)++news++(c.drop ((n - 1) * 14)++rest)).toArray 43 fz):=by
  rw[rp];exact setRow_heap _ _ _ _ _ _ hg
 obtain⟨W2,Cl⟩:∃ W2,W2=(Sort.ahead w 1).setRow g ((c.take (k * 14)++news)++(Z++rest)).toArray:=⟨_,rfl⟩
 have IY:(c.take (k * 14)++news).length=(n - 1) * 14:=by rw[zNu,zNw,sR,hc];omega
 have B1:(storeCells ⟨g,(n - 1) * 14,none⟩ Z).run Tryz.prog W1=.ok () W2:=by
  have:=bP (P:=Tryz.prog) g ((n - 1) * 14) _ fz Z 0 _ W1 hgW (by simp;omega) (by omega) hZ1
  rw[this,Cl,rp,setRow_setRow]
  show Result.ok () (World.setRow _ _ _)=Result.ok () (World.setRow _ _ _)
  congr 2
  simp only[zNO,zN0]
  rw[show (n - 1) * 14=(c.take (k * 14)++news).length from IY.symm,List.take_left,zN3,zNC (by omega),zNL,zNV,List.drop_append_of_le_length (by rw[zNA];omega),zNZ,zNC (by omega),zNL,zNY]
 have dB:∀ ty c',(Builtin.clear_ #[22] ty #[.slice (some ⟨g,(n - 1) * 14,none⟩) 1 c']).run Tryz.prog W1=.ok (.tuple #[]) W2:=fun ty c'=>ug W1 _ _ ty z hu hzv g ((n - 1) * 14) 1 c' (by decide) (by rw[← hZ];exact B1)
 obtain⟨A,hA,Gw⟩:∃ A:Addr,(if cap=j then some (⟨g,0,none⟩:Addr) else some ⟨g,(j) * 14,none⟩)=some A∧∀ j v,news[j]? = some v→w.drew.cell? (A.add j)=some v:=by
  by_cases h:cap=j
  ·refine⟨⟨g,0,none⟩,by simp[h],fun t u hu=>?_⟩
   have h0:news.length=0:=by rw[sR];omega
   rw[List.length_eq_zero_iff.1 h0]at hu
   simp at hu
  ·refine⟨⟨g,(j) * 14,none⟩,by simp[h],fun t u hu=>?_⟩
   rw[Addr.add_lit,cell_of (w:=w.drew) (show w.drew.heap[g]? = _ from hg)]
   rw[B8,List.getElem?_drop]at hu
   rw[zND,zNz (zNt.1 hu).1]
   exact hu
 have bL:∀ ty,(Builtin.append_ #[22,22] ty #[.slice (some ⟨g,0,none⟩) k cap,.slice (some A) (n - (j)) (cap - (j))]).run Tryz.prog w.drew=.ok (.slice (some ⟨g,0,none⟩) (k+(n - (j))) cap) W1:=fun ty =>
  lV w.drew _ _ ty _ i0 hu hu (.inr ⟨_,rfl⟩) rT g k cap (n - (j)) _ news (by simp[Builtin.lenOf]) (run_firstCells_some w.drew _ _ A _ _ news (by rw[eN];exact sR) Gw) (by omega) (by rw[eN];exact B2)
 have sS:j≤n:=by omega
 have hkj:k≤j:=by omega
 have bn:¬ (k:Int)=(j:Int):=by omega
 have hX:Aside (W2=(Sort.ahead w 1).setRow g ((c.take (k * 14)++news)++(Z++rest)).toArray∧Z.length=14∧(∀ v∈Z,v.oneCell'=true)∧news=c.drop ((j) * 14)):=⟨Cl,hZl,hZ1,B8⟩
 have hO:j≤cap:=by omega
 have iz:Hid (j=k+1):=hj
 have hcl2:∀ ty,(Builtin.clear_ #[22] ty #[.slice (some ⟨g,(k+(n - j)) * 14,none⟩) (n - (k+(n - j))) (cap - (k+(n - j)))]).run Tryz.prog W1=.ok (.tuple #[]) W2:=fun ty=>by
  rw[show k+(n - j)=n - 1 by omega,show n - (n - 1)=1 by omega];exact dB _ _
 clear dB
 have eW:k≤cap:=by omega
 have hH:Hid (∀ ty,(Builtin.append_ #[22,22] ty #[.slice (some ⟨g,0,none⟩) k cap,.slice (some A) (n - (j)) (cap - (j))]).run Tryz.prog w.drew=.ok (.slice (some ⟨g,0,none⟩) (k+(n - (j))) cap) W1):=bL
 clear hj rp Cl hgW B2 B1 Gw hZ hZl hZ1 sR B8 hzv mN rm eN wh rT IY bL hg hc kQ h1 wo
 go_enter Tryz.func37,Tryz.ntmps37
 go_wp2_with fail
 go_region_law_o (refine rA rfl (iU rfl (by simp[Act.eval,Act.put];exact hH.out _)) ?_)
 go_wp2
 go_ret
 obtain⟨e2,e3,e4,e5⟩:=hX.out
 have Hl:=iz.out
 exact⟨by rw[show k+(n - j)=n - 1 by omega];rfl,1,Z,e3,e4,by rw[e2,e5]⟩
theorem sc_DelN {bs:List ax}{q n k:Nat}{c:List SV}(hq:bs[q]? = some (.own c 43 14 n true))(hk:k<n)(h1:c.all one=true) :
 SC Tryz.V 37 [.o q n,.int .i64 k,.int .i64 (k+1:Nat)] bs (fun r b=>r=.o bs.length (n - 1)∧b=bs.set q .gone++[.own (c.take (k * 14)++c.drop ((k+1) * 14)) 43 14 (n - 1) true]):=by
 refine EL (V:=Tryz.V) (f:=37) Tryz.call37 hq fun β fp w fQ hE=>?_
 have hh:=(fQ β (bw.refl _ _)).holds q _ hq
 have fI:=fun β' hβ=>oy (β':=β') fQ hβ hq
 have aB:∀ k,fp q k→k<w.heap.size:=(fQ β (bw.refl _ _)).lt q _ hq
 clear fQ hE
 rcases hh with⟨-,h0,-⟩|⟨fR,Jc,vu,dB,Jf,hm,qN⟩
 ·exact absurd h0 (by omega)
 obtain⟨vk,rest,fz,⟨hg,hfz0⟩,wo,kQ⟩:=hm rfl
 have hlen:(c.map (ah β)).length=n * 14:=by simpa using dB
 have hx:=HA (n:=n) (cap:=(β q).cap - 1) (k:=k) hg (by simp;simp at wo;omega) hlen (by rw[hlen,← dB];exact kQ) hk rfl (fun v hv=>by
  obtain⟨x,hx,rfl⟩:=List.mem_map.1 hv
  exact fv (zNK.1 h1 x hx) β) vu
 have ig:(aG β [.o q n,.int .i64 k,.int .i64 (k+1:Nat)]).toArray=#[.slice (some ⟨(β q).cE,0,none⟩) n ((β q).cap - 1),.int .i64 k,.int .i64 (k+1:Nat)]:=by
  simp[aG,ah,oV,fR,vk]
 rw[ig]
 refine hx.mono ?_
 rintro ex w' ⟨rfl,qq,z,hz,mN,rfl⟩
 have hcut:((c.map (ah β)).take (k * 14)++(c.map (ah β)).drop ((k+1) * 14))=(c.take (k * 14)++c.drop ((k+1) * 14)).map (ah β):=by simp
 have hcl2:(c.take (k * 14)++c.drop ((k+1) * 14)).length=(n - 1) * 14:=by
  rw[zNu,zNw,zNA,dB];omega
 refine⟨⟨(β q).cE,0,(β q).cap - 1+1⟩,(·=(β q).cE),by simp[oV],?_,?_,?_⟩
 ·refine⟨rfl,rfl,rfl,by simp,fun k hk gx=>?_⟩
  rw[setRow_other _ _ _ _ (fun e=>gx ((qN k).2 e))];rfl
 ·intro β' hβ
  have hrw:=fI β' hβ.dy
  refine dF (rest:=z++rest) (fz:=fz) ?_ ?_ hcl2 (by omega) vu ?_
  ·rw[setRow_heap _ _ _ _ _ _ (show (Sort.ahead w qq).heap[(β q).cE]? = _ from hg),hcut]
   congr 3
   simp only[List.map_append,List.map_take,List.map_drop,hrw]
  ·rw[hcl2,zNu,hz];rw[dB]at wo;omega
  ·rw[hcl2,zNu,hz];rw[dB]at kQ;omega
 ·rintro k rfl
  have:=aB _ ((qN _).2 rfl)
  exact⟨.inl ((qN _).2 rfl),by simpa using this⟩
end Go.Proofs.YteipdaijbncgeaaGreatDoor
namespace Vc
open Go Go.RowKit Wf
section
variable {V:Cx}
def seqL:List Code→Code→Code
 | [],tl=>tl
 | x::l,tl=>.seq x (seqL l tl)
theorem FQ {F:Fx V}{Qf:Exit→Act→World→Prop}{J:St→Prop}{e:Exit}(he:e≠.normal){a:Act}{w:World}:∀ {l:List Code},oN F Qf (l.map Item.code++[.cut J]) e a w→Qf e a w
 | [],h=>by cases e <;> first | exact absurd rfl he | exact h
 | x::l,h=>by
   refine FQ (F:=F) (J:=J) he (l:=l) ?_
   cases e <;> first|exact absurd rfl he|exact h
theorem EK {F:Fx V}{Qf:Exit→Act→World→Prop}{J:St→Prop}{tl:Code}(ht:∀ σ a w,J σ→Rel F σ a w→tl.wp V.P Qf a w):∀ {l:List Code}{a:Act}{w:World},oN F Qf (l.map Item.code++[.cut J]) .normal a w→(seqL l tl).wp V.P Qf a w
 | [],a,w,h=>by
   obtain⟨σ,h1,h2⟩:=h
   exact ht σ a w h1 h2
 | x::l,a,w,h=>by
   refine wp_seq (wp_mono (show x.wp V.P (oN F Qf (l.map Item.code++[.cut J])) a w from h) fun e a w he=>?_)
   by_cases hn:e=.normal
   ·subst hn;exact EK ht he
   ·have:=FQ hn he
    cases e <;> first|exact absurd rfl hn|exact this
theorem sc_mid (Ae:Nat→How){f:FuncId}{fn:Func}(L:List Code)(r rest:Code){args:List SV}{bs:List ax}{R:SV→List ax→Prop}{n:Nat}{rs:Array ResultVar}(fuel fuel2:Nat)(hf:V.P.funcs[f]? = some fn)(hb:fn.body=some (seqL L (.seq r rest)))(hn:fn.ntmps=n)(hr:fn.results=rs)(jf:Enters V f)
 (hlen:args.length≤n) (iM:∀ β β',bw bs.length β β'→aG β args=aG β' args) (J J2:St→Prop) (h1:bu V n ⟨rs.toList,R,Ae,false⟩ fuel (L.map Item.code++[.cut J]) ⟨Yj 0 args,bs⟩)
 (hm:∀ F:Fx V,F.n=n→∀ a w σ,J σ→Rel F σ a w→r.wp V.P (fun e a w=>e=.normal∧∃ σ',J2 σ'∧Rel F σ' a w) a w)
 (h2:∀ σ',J2 σ'→bu V n ⟨rs.toList,R,Ae,false⟩ fuel2 [.code rest] σ'):SC V f args bs R:=by
 refine EM hf hb hn hr jf hlen iM (fun F hF a w hrel=>?_)
 subst hF
 have key:=fun(fuel:Nat) (items:List Item) (σ:St) (h:bu V F.n ⟨rs.toList,R,Ae,false⟩ fuel items σ) (a:Act) (w:World) (hrel:Rel F σ a w)=>xj (Qf:=Qof F (DX V rs.toList R)) (fun σ a w h hr=>⟨σ,(by
  simp only at h
  cases hl:XT V σ rs.toList with
  | none=>rw[hl]at h;simp[si]at h
  | some l=>rw[hl]at h;simp only[DX,hl];exact h),hr⟩) (fun σ a w h hr=>⟨σ,(by
  simp only at h
  cases hl:XT V σ rs.toList with
  | none=>rw[hl]at h;simp[si]at h
  | some l=>rw[hl]at h;simp only[DX,hl];exact h),hr⟩) (fun c a w ⟨_,h,_⟩=>h) fuel items σ h a w hrel
 refine EK (J:=J) (fun σ a w hJ hr=>?_) (key fuel _ _ h1 a w hrel)
 refine wp_seq (wp_mono (hm F rfl a w σ hJ hr) ?_)
 rintro e a w ⟨rfl,σ',hJ2,I5⟩
 exact key fuel2 [.code rest] σ' (h2 σ' hJ2) a w I5
end
end Vc
namespace Go.Proofs.YteipdaijbncgeaaGreatDoor
open Go Vc Go.RowKit Go.Lib Wf
section
variable {V:Cx}
theorem Er {P:Program}{o:Oper}{a:Act}{w w':World}{s:Operand}{t:TypeId}(ho:o.op=.call { callee:=.builtin .clear,args:=#[s],argTypes:=#[t] }){v:Value}(hr:(Builtin.clear_ #[t] o.type #[a.eval s]).run P w=.ok v w') :
 (execOp a.eval o).run P w=.ok (.value v) w':=by
 unfold execOp
 simp only[ho,resolve,invoke,builtin,Sem.run_bind,Sem.run_pure,Result.andThen_ok,List.map_toArray,zN5,List.map_nil,hr]
theorem Gp {F:Fx V}{id:Nat}{T e ty1 ty2 ty3 ty4:TypeId}{d1 d2 d3:Tmp}{x y:Operand}{p1 p2 p3 p4:String}{e1 e2 e3 e4:Array Edge}{σ:St}{q n k s:Nat}{c:List SV}
 (hx:ev σ.t x=some (.o q n)) (hy:∀ v,ev (put (some d1) v σ.t) y=some (.int .i64 k)) (hq:σ.b[q]? = some (.own c e s n true)) (hk:k<n) (lM:d1<F.n) (nY:d2<F.n) (GI:d3<F.n) (h12:d1≠d2)
 (ht:V.P.underlying T=some (.slice e)) {ti:TI} (jY:V.Γ e=some ti) (hs:ti.size=s) (eN:0<s) (mN:ti.zero.all one=true) {a:Act} {w:World} (hr:Rel F σ a w) :
 (Code.region id #[⟨some d1,.move x,ty1,p1,e1,none⟩,⟨some d2,.move y,ty2,p2,e2,none⟩,⟨some d3,.slice T (.tmp d1) (some (.tmp d2)) none none,ty3,p3,e3,none⟩,⟨none,.call ⟨.builtin .clear,#[.tmp d3],#[T]⟩,ty4,p4,e4,none⟩] false).wp V.P
  (fun ex a w=>ex=.normal∧∃ σ',(∃ v2 v3 v4 zs,zs.length=(n - k) * s∧σ'=⟨put (some d3) v4 (put (some d2) v3 (put (some d1) v2 σ.t)),σ.b.set q (.own (c.take (k * s)++zs) e s n true)⟩)∧Rel F σ' a w) a w:=by
 obtain⟨β,fp,hf,hw⟩:=hr
 have lL:=(zNt.1 hq).1
 have dB:=zp hw hq
 refine wp_region_list ?_
 refine du rfl (v':=ah β (.o q n)) (w':=w) (by rw[← hf.ev hx (bw.refl _ β)];rfl) ?_
 have Af:=hf.put (dst:=some d1) (x:=.o q n) (by simpa[fits] using lM) (v:=ah β (.o q n)) (fun β' hβ=>by simp only[ah];rw[hβ q lL])
 refine du rfl (v':=.int .i64 k) (w':=w) (by
  have:=Af.ev (hy _) (bw.refl _ β)
  simp only[ah]at this
  rw[← this];rfl) ?_
 have GF:=Af.put (dst:=some d2) (x:=.int .i64 k) (by simpa[fits] using nY) (v:=.int .i64 k) (fun β' hβ=>rfl)
 have q1:Vc.ev (put (some d2) (.int .i64 k) (put (some d1) (.o q n) σ.t)) (.tmp d1)=some (.o q n):=by simp[Vc.ev,put,lk,h12,Ne.symm h12]
 have q2:Vc.ev (put (some d2) (.int .i64 k) (put (some d1) (.o q n) σ.t)) (.tmp d2)=some (.int .i64 k):=by simp[Vc.ev,put,lk]
 have v1:=GF.ev q1 (bw.refl _ β)
 have v2:=GF.ev q2 (bw.refl _ β)
 rcases hw.own hq (bw.refl _ β) with⟨-,h0,-⟩|⟨fR,Jc,vu,-,Jf,hm,qN⟩
 ·omega
 obtain⟨vk,rest,fz,⟨hg,-⟩,wo,kQ⟩:=hm rfl
 have e0:ah β (.o q n)=.slice (some ⟨(β q).cE,0,none⟩) n ((β q).cap - 1):=by simp[ah,oV,fR,vk]
 rw[e0]at v1 v2 ⊢
 change _=Value.int .i64 k at v2
 obtain⟨i,z,hi,hz,pO,-,BY⟩:=(V.gH e ti jY).info
 have C3:=(V.gH e ti jY).len
 have mI:=(V.gH e ti jY).flat
 have rm:z.cells.size=s:=by rw[BY];simp[C3,hs]
 have hzv:∀ w,(zeroValue e).run V.P w=.ok z w:=fun w=>by simp[zeroValue,typeInfo,hi,hz]
 have jZ:(Go.sizeOf e).run V.P w=.ok s w:=by simp[Go.sizeOf,typeInfo,hi,pO,hs]
 have hZ:∀ β',(pD ti.zero (n - k)).map (ah β')=(Builtin.zeroCells z.cells (n - k)).toList:=fun β'=>by
  rw[qj,mI β']
  have h2:=Bu z.cells (n - k) (by omega)
  have h3:z.cells.toList=ti.zero.map (ah ke):=by rw[BY]
  rw[← h3,← h2]
  rfl
 have hZl:(pD ti.zero (n - k)).length=(n - k) * s:=by
  have:=congrArg List.length (hZ β)
  simpa[size_zeroCells,rm] using this
 have h1:(pD ti.zero (n - k)).all one=true:=by
  generalize n - k=j
  induction j with
  | zero=>rfl
  | succ j ih=>simp[pD,mN,ih]
 obtain⟨w',oL,hw'⟩:=hw.store (P:=V.P) (i:=q) (c:=c) (T:=e) (by simp[iC,hq]) (off:=k * s) (ys:=pD ti.zero (n - k)) (fun β' _=>by rw[hZ,hZ]) h1 (by rw[hZl,dB,← Nat.add_mul];exact zNU _ (by omega))
 rw[hZ,vk,zN1]at oL
 have gE:tg σ.b q (Xs c (k * s) (pD ti.zero (n - k)))=σ.b.set q (.own (c.take (k * s)++pD ti.zero (n - k)) e s n true):=by
  rw[tF hq]
  simp only[tf,Xs]
  rw[hZl,zNC (by rw[dB,← Nat.add_mul];exact zNU _ (by omega)),zNH]
 rw[gE]at hw'
 have ye:(Instr.sliceAt T (.slice (some ⟨(β q).cE,0,none⟩) n ((β q).cap - 1)) (some (.int .i64 k)) none none).run V.P w=.ok (.slice (some ⟨(β q).cE,k * s,none⟩) (n - k) ((β q).cap - 1 - k)) w:=by
  have hb:(Instr.sliceBounds true n ((β q).cap - 1) (some (.int .i64 k)) none none).run V.P w=Result.ok (k,n,(β q).cap - 1) w:=by
   have:=(vS (β:=β) Jc (lo:=some (.int .i64 k)) (hi:=none) (c:=_) (f:=_) (u:=_) rfl (by constructor <;> omega) V.P w).1
   simpa[ah] using this
  have GK:¬ ((β q).cap - 1=k):=by omega
  simp only[Instr.sliceAt,Instr.slice,run_underlying ht,hb,jZ,Sem.run_bind,Result.andThen_ok,Sem.run_pure,Option.map_some,dx]
  simp[GK]
 refine du rfl (v':=.slice (some ⟨(β q).cE,k * s,none⟩) (n - k) ((β q).cap - 1 - k)) (w':=w) (by
  refine bJ ?_
  simp only[Option.map_some,Option.map_none]
  refine Eq.trans (congrArg (fun s=>Sem.run V.P s w) (by rw[v1,v2])) ye) ?_
 have hf3:=GF.put (dst:=some d3) (x:=.v (.slice (some ⟨(β q).cE,k * s,none⟩) (n - k) ((β q).cap - 1 - k))) (by simpa[fits] using GI) (v:=.slice (some ⟨(β q).cE,k * s,none⟩) (n - k) ((β q).cap - 1 - k)) (fun β' hβ=>rfl)
 have q3:Vc.ev (put (some d3) (.v (.slice (some ⟨(β q).cE,k * s,none⟩) (n - k) ((β q).cap - 1 - k))) (put (some d2) (.int .i64 k) (put (some d1) (.o q n) σ.t))) (.tmp d3)=some (.v (.slice (some ⟨(β q).cE,k * s,none⟩) (n - k) ((β q).cap - 1 - k))):=by simp[Vc.ev,put,lk]
 have v3:=hf3.ev q3 (bw.refl _ β)
 rw[e0]at v3
 refine du rfl (v':=.tuple #[]) (w':=w') (Er rfl (Eq.trans (congrArg (fun s=>Sem.run V.P s w) (by rw[v3];rfl)) (ug w T e ty4 z ht hzv (β q).cE (k * s) (n - k) ((β q).cap - 1 - k) (by omega) oL))) ?_
 show Exit.normal=Exit.normal∧_
 refine⟨rfl,⟨put (some d3) (.v (.slice (some ⟨(β q).cE,k * s,none⟩) (n - k) ((β q).cap - 1 - k))) (put (some d2) (.int .i64 k) (put (some d1) (.o q n) σ.t)),σ.b.set q (.own (c.take (k * s)++pD ti.zero (n - k)) e s n true)⟩,⟨_,_,_,_,hZl,rfl⟩,β,fp,?_,hw'⟩
 rw[zNy]
 rw[e0]at hf3
 exact hf3
end
open Go Vc Go.RowKit Wf
def IQ (p:En→Bool)(L:List En):Int:=match L.findIdx? p with
 | some k=>k
 | none=>-1
theorem yc {p:En→Bool}{L:List En}(h:∀ j (hj:j<L.length),p L[j]=false):IQ p L=-1:=by
 unfold IQ
 rw[List.findIdx?_eq_none_iff.2 (fun x hx=>by
  obtain⟨j,hj,rfl⟩:=List.mem_iff_getElem.1 hx
  rw[h j hj])]
theorem yb {p:En→Bool}{L:List En}{k:Nat}(hk:k<L.length)(hp:p L[k]=true)(h:∀ j (hj:j<k),p (L[j]'(by omega))=false):IQ p L=k:=by
 unfold IQ
 rw[List.findIdx?_eq_some_iff_getElem.2 ⟨hk,hp,fun j hj=>by rw[h j hj];simp⟩]
section
variable {b:List ax} {q i g:Nat} {L:List En} {m:Bool} {X:ax} {p:En→Bool}
theorem sc_IdxF (hq:b[q]? = some (.own (L.flatMap enc) 43 14 L.length m))(hi:b[i]? = some X)(hp:∀ e∈L,SC Tryz.V g [.agg (enc e),.p i 0] b (fun r b'=>r=.bool (p e)∧b'=b))(hl:L.length≤1000000) :
 SC Tryz.V 63 [.o q L.length,.fn (.func g) [.p i 0]] b (fun r b'=>r=.int .i64 (IQ p L)∧b'=b):=by
 have lL:=(zNt.1 hq).1
 have eh:=(zNt.1 hi).1
 refine cz 3000 Tryz.func63 rfl Tryz.ntmps63 Tryz.results63 Tryz.call63 (by simp) (aw b.length _ (by simp[within,within.ay,lL,eh])) ?_
 simp only[ad,↓Xn,↓Xo,↓Xg,↓Xd,↓Xe,↓Xf,Tryz.VΓ,Tryz.Γs,Xp,Xi,Nat.reduceAdd,Nat.reduceSub,Nat.reduceLT,Nat.reduceLeDiff,reduceIte,reduceCtorEq,Nat.reduceEqDiff,implies_true,forall_const,aa,av,beq_self_eq_true,bne_self_eq_false,Int.reduceBEq,Int.reduceBNe,Int.reduceLT,Int.reduceLE]
 refine aM (fun σ=>∃ (k:Nat),lk 0 σ.t=some (.o q L.length)∧lk 1 σ.t=some (.fn (.func g) [.p i 0])∧lk 7 σ.t=some (.int .i64 L.length)∧lk 8 σ.t=some (.int .i64 k)∧k≤L.length∧σ.b=b∧∀ j (hj:j<k) (hl:j<L.length),p L[j]=false) (fun σ=>L.length - ja 8 σ) ⟨0,rfl,rfl,rfl,rfl,by omega,rfl,fun j hj=>by omega⟩ ?_
 rintro⟨t,b1⟩ ⟨k,l0,l1,l7,l8,hk,rfl,gx⟩
 simp only at l0 l1 l7 l8
 rw[az l8]
 by_cases c:k<L.length
 ·have ci:decide ((k:Int)<(L.length:Int))=true:=by simpa using c
  have dW:=jg L k c
  simp only[ad,↓Xn,↓Xo,↓Xg,↓Xd,↓Xe,↓Xf,Tryz.VΓ,Tryz.Γs,Xp,Xi,Nat.reduceAdd,Nat.reduceSub,Nat.reduceLT,Nat.reduceLeDiff,reduceIte,reduceCtorEq,Nat.reduceEqDiff,implies_true,forall_const,aa,av,beq_self_eq_true,bne_self_eq_false,Int.reduceBEq,Int.reduceBNe,Int.reduceLT,Int.reduceLE,l0,l1,l7,l8,ci,hq,dW]
  refine⟨⟨by omega,by omega⟩,by rw[aT];omega,aJ (hp _ (zNJ c)) ?_⟩
  rintro x b2 ⟨rfl,rfl⟩
  cases hpk:p L[k]
  ·simp only[ad,↓Xn,↓Xo,↓Xg,↓Xd,↓Xe,↓Xf,Tryz.VΓ,Tryz.Γs,Xp,Xi,Nat.reduceAdd,Nat.reduceSub,Nat.reduceLT,Nat.reduceLeDiff,reduceIte,reduceCtorEq,Nat.reduceEqDiff,implies_true,forall_const,aa,av,beq_self_eq_true,bne_self_eq_false,Int.reduceBEq,Int.reduceBNe,Int.reduceLT,Int.reduceLE,l0,l1,l7,l8]
   refine⟨by omega,⟨k+1,rfl,by omega,fun j hj mU=>?_⟩,?_⟩
   ·by_cases e:j=k
    ·subst e;exact hpk
    ·exact gx j (by omega) mU
   ·rw[az (show lk 8 _=some (.int .i64 ((k+1:Nat):Int)) from rfl)];omega
  ·simp only[ad,↓Xn,↓Xo,↓Xg,↓Xd,↓Xe,↓Xf,Tryz.VΓ,Tryz.Γs,Xp,Xi,Nat.reduceAdd,Nat.reduceSub,Nat.reduceLT,Nat.reduceLeDiff,reduceIte,reduceCtorEq,Nat.reduceEqDiff,implies_true,forall_const,aa,av,beq_self_eq_true,bne_self_eq_false,Int.reduceBEq,Int.reduceBNe,Int.reduceLT,Int.reduceLE,l0,l1,l7,l8]
   rw[yb c hpk (fun j hj=>gx j hj _)]
 ·have ci:decide ((k:Int)<(L.length:Int))=false:=by simpa using c
  simp only[ad,↓Xn,↓Xo,↓Xg,↓Xd,↓Xe,↓Xf,Tryz.VΓ,Tryz.Γs,Xp,Xi,Nat.reduceAdd,Nat.reduceSub,Nat.reduceLT,Nat.reduceLeDiff,reduceIte,reduceCtorEq,Nat.reduceEqDiff,implies_true,forall_const,aa,av,beq_self_eq_true,bne_self_eq_false,Int.reduceBEq,Int.reduceBNe,Int.reduceLT,Int.reduceLE,l0,l1,l7,l8,ci]
  rw[yc (fun j hj=>gx j (by omega) hj)]
theorem sc_IdxN (hi:b[i]? = some X):SC Tryz.V 63 [.aE,.fn (.func g) [.p i 0]] b (fun r b'=>r=.int .i64 (-1)∧b'=b):=by
 have eh:=(zNt.1 hi).1
 refine cz 3000 Tryz.func63 rfl Tryz.ntmps63 Tryz.results63 Tryz.call63 (by simp) (aw b.length _ (by simp[within,within.ay,eh])) ?_
 simp only[ad,↓Xn,↓Xo,↓Xg,↓Xd,↓Xe,↓Xf,Tryz.VΓ,Tryz.Γs,Xp,Xi,Nat.reduceAdd,Nat.reduceSub,Nat.reduceLT,Nat.reduceLeDiff,reduceIte,reduceCtorEq,Nat.reduceEqDiff,implies_true,forall_const,aa,av,beq_self_eq_true,bne_self_eq_false,Int.reduceBEq,Int.reduceBNe,Int.reduceLT,Int.reduceLE]
 refine aM (fun σ=>lk 7 σ.t=some (.int .i64 0)∧lk 8 σ.t=some (.int .i64 0)∧σ.b=b) (fun σ=>0) ⟨rfl,rfl,rfl⟩ ?_
 rintro⟨t,b1⟩ ⟨l7,l8,rfl⟩
 simp only at l7 l8
 simp only[ad,↓Xn,↓Xo,↓Xg,↓Xd,↓Xe,↓Xf,Tryz.VΓ,Tryz.Γs,Xp,Xi,Nat.reduceAdd,Nat.reduceSub,Nat.reduceLT,Nat.reduceLeDiff,reduceIte,reduceCtorEq,Nat.reduceEqDiff,implies_true,forall_const,aa,av,beq_self_eq_true,bne_self_eq_false,Int.reduceBEq,Int.reduceBNe,Int.reduceLT,Int.reduceLE,l7,l8]
def FR (q:Nat)(b b':List ax):Prop:=b.length≤b'.length∧∀ k s,b[k]? = some s→k≠q→b'[k]? = some s
theorem FR.refl (q:Nat)(b:List ax):FR q b b:=⟨zNx _,fun _ _ h _=>h⟩
theorem FR.app {q:Nat}{b b':List ax}(h:FR q b b')(l:List ax):FR q b (b'++l):=⟨by simp;have:=h.1;omega,fun k s hk hn=>af (h.2 k s hk hn) _⟩
theorem FR.set {q:Nat}{b b':List ax}(h:FR q b b')(Y:ax):FR q b (b'.set q Y):=⟨by simpa using h.1,fun k s hk hn=>aI (h.2 k s hk hn) (Ne.symm hn) _⟩
theorem GU (p:En→Bool)(L:List En):(∀ j (hj:j<L.length),p L[j]=false)∨∃ (k:Nat) (hk:k<L.length),p L[k]=true∧∀ j (hj:j<k),p (L[j]'(by omega))=false:=by
 cases h:L.findIdx? p with
 | none =>
   rw[List.findIdx?_eq_none_iff]at h
   exact .inl fun j hj=>h _ (zNJ hj)
 | some k =>
   rw[List.findIdx?_eq_some_iff_getElem]at h
   obtain⟨hk,h1,h2⟩:=h
   exact .inr ⟨k,hk,h1,fun j hj=>by simpa using h2 j hj⟩
def jW (p:En→Bool)(L:List En)(j:Nat):List En:=(L.take j).filter fun e=>!p e
theorem oB {p:En→Bool}{L:List En}{j:Nat}(hj:j<L.length)(h:p L[j]=true):jW p L (j+1)=jW p L j:=by
 unfold jW;rw[zNB hj,zNX];simp[h]
theorem oC {p:En→Bool}{L:List En}{j:Nat}(hj:j<L.length)(h:p L[j]=false):jW p L (j+1)=jW p L j++[L[j]]:=by
 unfold jW;rw[zNB hj,zNX];simp[h]
theorem BQ {p:En→Bool}{L:List En}:jW p L L.length=L.filter fun e=>!p e:=by unfold jW;rw[zN4]
theorem BP {p:En→Bool}{L:List En}:∀ {j:Nat},j≤L.length→(∀ k (hk:k<L.length),k<j→p L[k]=false)→jW p L j=L.take j
 | 0,_,_=>by simp[jW]
 | j+1,hj,h=>by rw[oC (by omega) (h j (by omega) (by omega)),BP (by omega) (fun k hk hkj=>h k hk (by omega)),zNB (by omega)]
structure Aa (p:En→Bool) (L:List En) (j:Nat) (c:List SV):Prop where
 len:c.length=L.length * 14
 pre:c.take ((jW p L j).length * 14)=(jW p L j).flatMap enc
 suf:c.drop (j * 14)=(L.drop j).flatMap enc
theorem Aa.cell {p:En→Bool}{L:List En}{j:Nat}{c:List SV}(h:Aa p L j c)(hj:j<L.length):(c.drop (j * 14)).take 14=enc L[j]:=by
 rw[h.suf,List.drop_eq_getElem_cons hj,zNT]
 exact List.take_left' rfl
theorem Aa.skip {p:En→Bool}{L:List En}{j:Nat}{c:List SV}(h:Aa p L j c)(hj:j<L.length)(hp:p L[j]=true):Aa p L (j+1) c :=
 ⟨h.len,by rw[oB hj hp];exact h.pre,by
  rw[show (j+1) * 14=j * 14+14 by omega,← zNZ,h.suf,List.drop_eq_getElem_cons hj,zNT]
  exact List.drop_left' rfl⟩
theorem Aa.bW {p:En→Bool}{L:List En}{j:Nat}{c:List SV}(h:Aa p L j c)(hj:j<L.length)(hp:p L[j]=false)(aB:(jW p L j).length<j):Aa p L (j+1) (c.take ((jW p L j).length * 14)++enc L[j]++c.drop ((jW p L j).length * 14+14)):=by
 have e14:(enc L[j]).length=14:=rfl
 have hl:=h.len
 refine⟨?_,?_,?_⟩
 ·rw[zNu,zNu,zNw,zNA,e14];omega
 ·rw[oC hj hp,zNP,zNu,List.length_singleton,← h.pre]
  rw[zNI (by rw[zNu,zNw,e14];omega),zNG (by rw[zNu,zNw,e14];omega)]
  simp
 ·rw[zN3,zNC (by rw[zNu,zNw,e14];omega),zNL,zNZ,zNu,zNw,e14]
  rw[show (jW p L j).length * 14+14+((j+1) * 14 - (min ((jW p L j).length * 14) c.length+14))=j * 14+14 by omega,← zNZ,h.suf,List.drop_eq_getElem_cons hj,zNT]
  exact List.drop_left' rfl
theorem iV (L:List En)(k:Nat):(L.flatMap enc).take (k * 14)=(L.take k).flatMap enc∧(L.flatMap enc).drop (k * 14)=(L.drop k).flatMap enc:=by
 have h:(L.flatMap enc)=(L.take k).flatMap enc++(L.drop k).flatMap enc:=by rw[← zNP,zNQ]
 by_cases hk:k≤L.length
 ·have hl:((L.take k).flatMap enc).length=k * 14:=by rw[aT,zNw];omega
  rw[h]
  exact⟨List.take_left' hl,List.drop_left' hl⟩
 ·rw[zNG (by rw[aT];omega),zNG (by omega),zNC (by rw[aT];omega),zNC (by omega)]
  exact⟨rfl,rfl⟩
theorem sc_DelF (hq:b[q]? = some (.own (L.flatMap enc) 43 14 L.length true))(hi:b[i]? = some X)(hiq:i≠q)(hp:∀ b':List ax,b'[i]? = some X→∀ e∈L,SC Tryz.V g [.agg (enc e),.p i 0] b' (fun r b2=>r=.bool (p e)∧b2=b'))(wW:∀ e∈L,one e.v.tr=true)(hl:L.length≤1000000) :
 SC Tryz.V 42 [.o q L.length,.fn (.func g) [.p i 0]] b (fun r b'=>FR q b b'∧∃ q',r=.o q' (L.filter fun e=>!p e).length∧b'[q']? = some (.own ((L.filter fun e=>!p e).flatMap enc) 43 14 (L.filter fun e=>!p e).length true)∧(q'=q∨b.length≤q')):=by
 have lL:=(zNt.1 hq).1
 have eh:=(zNt.1 hi).1
 refine sc_mid (fun _=>.ord []) [_,_,_,_] _ _ 3000 3000 Tryz.func42 rfl Tryz.ntmps42 Tryz.results42 Tryz.call42 (by simp) (aw b.length _ (by simp[within,within.ay,lL,eh]))
  (fun σ=>∃ c',lk 0 σ.t=some (.o q L.length)∧lk 5 σ.t=some (.int .i64 (L.filter fun e=>!p e).length)∧σ.b[q]? = some (.own c' 43 14 L.length true)∧(L.filter fun e=>!p e).length<L.length∧c'.take ((L.filter fun e=>!p e).length * 14)=(L.filter fun e=>!p e).flatMap enc∧FR q b σ.b)
  (fun σ=>∃ c',lk 0 σ.t=some (.o q L.length)∧lk 5 σ.t=some (.int .i64 (L.filter fun e=>!p e).length)∧σ.b[q]? = some (.own c' 43 14 L.length true)∧(L.filter fun e=>!p e).length<L.length∧c'.take ((L.filter fun e=>!p e).length * 14)=(L.filter fun e=>!p e).flatMap enc∧FR q b σ.b) ?_ ?_ ?_
 ·simp only[ad,↓Xn,↓Xo,↓Xg,↓Xd,↓Xe,↓Xf,Tryz.VΓ,Tryz.Γs,Xp,Xi,Nat.reduceAdd,Nat.reduceSub,Nat.reduceLT,Nat.reduceLeDiff,reduceIte,reduceCtorEq,Nat.reduceEqDiff,implies_true,forall_const,aa,av,beq_self_eq_true,bne_self_eq_false,Int.reduceBEq,Int.reduceBNe,Int.reduceLT,Int.reduceLE,zN5,List.map_nil,List.cons_append,zNL]
  refine aJ (sc_IdxF hq hi (hp b hi) hl) ?_
  rintro x b1 ⟨rfl,rfl⟩
  rcases GU p L with gx|⟨k0,wk,hpk,hbe⟩
  ·rw[yc gx]
   have hM:(L.filter fun e=>!p e)=L:=List.filter_eq_self.2 fun x hx=>by
    obtain⟨j,hj,rfl⟩:=List.mem_iff_getElem.1 hx
    rw[gx j hj];rfl
   rw[hM]
   simp only[ad,↓Xn,↓Xo,↓Xg,↓Xd,↓Xe,↓Xf,Tryz.VΓ,Tryz.Γs,Xp,Xi,Nat.reduceAdd,Nat.reduceSub,Nat.reduceLT,Nat.reduceLeDiff,reduceIte,reduceCtorEq,Nat.reduceEqDiff,implies_true,forall_const,aa,av,beq_self_eq_true,bne_self_eq_false,Int.reduceBEq,Int.reduceBNe,Int.reduceLT,Int.reduceLE]
   exact⟨FR.refl _ _,_,rfl,hq,.inl rfl⟩
  ·rw[yb wk hpk hbe]
   have bn:((k0:Int)==-1)=false:=by rw[beq_eq_false_iff_ne];omega
   simp only[ad,↓Xn,↓Xo,↓Xg,↓Xd,↓Xe,↓Xf,Tryz.VΓ,Tryz.Γs,Xp,Xi,Nat.reduceAdd,Nat.reduceSub,Nat.reduceLT,Nat.reduceLeDiff,reduceIte,reduceCtorEq,Nat.reduceEqDiff,implies_true,forall_const,aa,av,beq_self_eq_true,bne_self_eq_false,Int.reduceBEq,Int.reduceBNe,Int.reduceLT,Int.reduceLE,bn]
   have dK:jW p L (k0+1)=L.take k0:=by rw[oB wk hpk,BP (by omega) (fun k hk hkk=>hbe k hkk)]
   have ym:(L.take k0).length=k0:=by rw[zNw];omega
   refine⟨by omega,?_⟩
   refine aM (fun σ=>∃ (j:Nat) (c':List SV),lk 0 σ.t=some (.o q L.length)∧lk 1 σ.t=some (.fn (.func g) [.p i 0])∧lk 5 σ.t=some (.int .i64 (jW p L j).length)∧lk 6 σ.t=some (.int .i64 j)∧σ.b[q]? = some (.own c' 43 14 L.length true)∧Aa p L j c'∧(jW p L j).length<j∧j≤L.length∧FR q b1 σ.b) (fun σ=>L.length - ja 6 σ) ⟨k0+1,L.flatMap enc,rfl,rfl,by rw[dK,ym];rfl,rfl,hq,⟨aT L,by rw[dK,ym];exact(iV L k0).1,(iV L _).2⟩,by rw[dK,ym];omega,by omega,FR.refl _ _⟩ ?_
   rintro⟨t,b2⟩ ⟨j,c',l0,l1,l5,l6,lq,hD,aB,hj,cw⟩
   simp only at l0 l1 l5 l6 lq cw
   rw[az l6]
   have hql2:=(zNt.1 lq).1
   have GD:=cw.2 i _ hi hiq
   by_cases c:j<L.length
   ·have ci:decide ((j:Int)<(L.length:Int))=true:=by simpa using c
    have dW:=hD.cell c
    have fh:(enc L[j]).length=14:=rfl
    have fP:(enc L[j]).take 14=enc L[j]:=zNG (by rw[fh];omega)
    have ic:(enc L[j]).all one=true:=by
     have:=wW _ (zNJ c)
     simp[enc,Vc.one]at this ⊢;exact this
    simp only[ad,↓Xn,↓Xo,↓Xg,↓Xd,↓Xe,↓Xf,Tryz.VΓ,Tryz.Γs,Xp,Xi,Nat.reduceAdd,Nat.reduceSub,Nat.reduceLT,Nat.reduceLeDiff,reduceIte,reduceCtorEq,Nat.reduceEqDiff,implies_true,forall_const,aa,av,beq_self_eq_true,bne_self_eq_false,Int.reduceBEq,Int.reduceBNe,Int.reduceLT,Int.reduceLE,l0,l1,l5,l6,ci,lq,dW,fh,fP,zN6,List.drop_nil,List.drop_zero,zNH]
    refine⟨⟨by omega,by omega⟩,by rw[hD.len];omega,ic,aJ (hp _ (af GD _) _ (zNJ c)) ?_⟩
    rintro x b3 ⟨rfl,rfl⟩
    have gE:∀ (l:List ax) Y,(b2++l).set q Y=b2.set q Y++l:=fun l Y=>bS hql2 l Y
    cases hpj:p L[j]
    ·simp only[ad,↓Xn,↓Xo,↓Xg,↓Xd,↓Xe,↓Xf,Tryz.VΓ,Tryz.Γs,Xp,Xi,Nat.reduceAdd,Nat.reduceSub,Nat.reduceLT,Nat.reduceLeDiff,reduceIte,reduceCtorEq,Nat.reduceEqDiff,implies_true,forall_const,aa,av,beq_self_eq_true,bne_self_eq_false,Int.reduceBEq,Int.reduceBNe,Int.reduceLT,Int.reduceLE,l0,l1,l5,l6,lq,af lq,fh,fP,gE]
     have ym:=hD.len
     refine⟨⟨by omega,by omega⟩,⟨ic,by omega⟩,by omega,by omega,⟨j+1,c'.take ((jW p L j).length * 14)++enc L[j]++c'.drop ((jW p L j).length * 14+14),by rw[oC c hpj];simp,rfl,?_,hD.bW c hpj aB,by rw[oC c hpj,zNu,List.length_singleton];omega,by omega,(cw.set _).app _⟩,?_⟩
     ·rw[zNY];exact af (zNv hql2) _
     ·rw[az (show lk 6 _=some (.int .i64 ((j+1:Nat):Int)) from rfl)];omega
    ·simp only[ad,↓Xn,↓Xo,↓Xg,↓Xd,↓Xe,↓Xf,Tryz.VΓ,Tryz.Γs,Xp,Xi,Nat.reduceAdd,Nat.reduceSub,Nat.reduceLT,Nat.reduceLeDiff,reduceIte,reduceCtorEq,Nat.reduceEqDiff,implies_true,forall_const,aa,av,beq_self_eq_true,bne_self_eq_false,Int.reduceBEq,Int.reduceBNe,Int.reduceLT,Int.reduceLE,l0,l1,l5,l6,lq]
     refine⟨by omega,⟨j+1,c',by rw[oB c hpj],rfl,af lq _,hD.skip c hpj,by rw[oB c hpj];omega,by omega,cw.app _⟩,?_⟩
     rw[az (show lk 6 _=some (.int .i64 ((j+1:Nat):Int)) from rfl)];omega
   ·have ci:decide ((j:Int)<(L.length:Int))=false:=by simpa using c
    obtain rfl:j=L.length:=by omega
    rw[BQ]at aB l5
    have Hf:=hD.pre
    rw[BQ]at Hf
    simp only[ad,↓Xn,↓Xo,↓Xg,↓Xd,↓Xe,↓Xf,Tryz.VΓ,Tryz.Γs,Xp,Xi,Nat.reduceAdd,Nat.reduceSub,Nat.reduceLT,Nat.reduceLeDiff,reduceIte,reduceCtorEq,Nat.reduceEqDiff,implies_true,forall_const,aa,av,beq_self_eq_true,bne_self_eq_false,Int.reduceBEq,Int.reduceBNe,Int.reduceLT,Int.reduceLE,l0,l1,l5,l6,ci,lq]
    exact⟨_,rfl,aB,Hf,cw⟩
 ·rintro F hF a w σ ⟨c',l0,l5,lq,aB,hc,cw⟩ hr
  have hF42:F.n=42:=hF
  obtain⟨ti,jY,IX,htz⟩:∃ ti,Tryz.V.Γ 43=some ti∧ti.size=14∧ti.zero.all one=true:=⟨_,rfl,rfl,rfl⟩
  refine wp_mono (Gp (V:=Tryz.V) (x:=.tmp 0) (y:=.tmp 5) (d1:=36) (d2:=37) (d3:=38) (T:=22) (e:=43) (σ:=σ) (q:=q) (n:=L.length) (k:=(L.filter fun e=>!p e).length) (s:=14) (c:=c') l0 (fun v=>by simpa[Vc.ev,put,lk] using l5) lq aB (by rw[hF42];decide) (by rw[hF42];decide) (by rw[hF42];decide) (by decide) (by kernel_rfl) jY IX (by decide) htz hr) ?_
  rintro ex a w ⟨rfl,σ',⟨v2,v3,v4,zs,rm,rfl⟩,I5⟩
  refine⟨rfl,_,⟨c'.take ((L.filter fun e=>!p e).length * 14)++zs,?_,?_,?_,aB,?_,cw.set _⟩,I5⟩
  ·simpa[lk,put] using l0
  ·simpa[lk,put] using l5
  ·exact zNv (zNt.1 lq).1
  ·have hl':=zp (V:=Tryz.V) (F:=F) (c:=c') hr.choose_spec.choose_spec.2 lq
   rw[zNI (by rw[zNw,hl'];omega),List.take_take,Nat.min_self]
   exact hc
 ·rintro⟨t,b1⟩ ⟨c',l0,l5,lq,aB,hc,cw⟩
  simp only at l0 l5 lq cw
  simp only[ad,↓Xn,↓Xo,↓Xg,↓Xd,↓Xe,↓Xf,Tryz.VΓ,Tryz.Γs,Xp,Xi,Nat.reduceAdd,Nat.reduceSub,Nat.reduceLT,Nat.reduceLeDiff,reduceIte,reduceCtorEq,Nat.reduceEqDiff,implies_true,forall_const,aa,av,beq_self_eq_true,bne_self_eq_false,Int.reduceBEq,Int.reduceBNe,Int.reduceLT,Int.reduceLE,l0,l5,lq]
  exact⟨⟨by omega,by omega⟩,(cw.set _).app _,_,rfl,by rw[← hc];exact aZ (by simp) _ 0,.inr (by have:=cw.1;simp;omega)⟩
theorem HZ (hi:b[i]? = some X):SC Tryz.V 42 [.aE,.fn (.func g) [.p i 0]] b (fun r b'=>r=.aE∧b'=b):=by
 have eh:=(zNt.1 hi).1
 refine cz 3000 Tryz.func42 rfl Tryz.ntmps42 Tryz.results42 Tryz.call42 (by simp) (aw b.length _ (by simp[within,within.ay,eh])) ?_
 simp only[ad,↓Xn,↓Xo,↓Xg,↓Xd,↓Xe,↓Xf,Tryz.VΓ,Tryz.Γs,Xp,Xi,Nat.reduceAdd,Nat.reduceSub,Nat.reduceLT,Nat.reduceLeDiff,reduceIte,reduceCtorEq,Nat.reduceEqDiff,implies_true,forall_const,aa,av,beq_self_eq_true,bne_self_eq_false,Int.reduceBEq,Int.reduceBNe,Int.reduceLT,Int.reduceLE]
 refine aJ (sc_IdxN hi) ?_
 rintro x b1 ⟨rfl,rfl⟩
 simp only[ad,↓Xn,↓Xo,↓Xg,↓Xd,↓Xe,↓Xf,Tryz.VΓ,Tryz.Γs,Xp,Xi,Nat.reduceAdd,Nat.reduceSub,Nat.reduceLT,Nat.reduceLeDiff,reduceIte,reduceCtorEq,Nat.reduceEqDiff,implies_true,forall_const,aa,av,beq_self_eq_true,bne_self_eq_false,Int.reduceBEq,Int.reduceBNe,Int.reduceLT,Int.reduceLE]
end
end Go.Proofs.YteipdaijbncgeaaGreatDoor
namespace Vc
open Go Go.RowKit Wf
theorem PC.scs {V:Cx}{f:FuncId}{args:List SV}{bs:List ax}{x:SV}(h:PC V f args x):SC V f args bs (fun r b=>r=x∧b=bs):=by
 refine⟨h.enters,fun β fp w fQ hG hE=>?_⟩
 rw[dz args h.fa β ke]
 refine(h.calls w hE).mono ?_
 rintro e w' ⟨he,hb⟩
 have eV:=fQ β (bw.refl _ _)
 refine⟨x,bs,β,fp,⟨rfl,rfl⟩,bw.refl _ _,zNx _,fun β' hβ=>⟨by rw[he,fL x h.fr ke β'],⟨fun i r hi=>((fQ β' hβ).holds i r hi).stays (fun k hk=>hb.block k (eV.lt i r hi k hk)),fun i r hi k hk=>Nat.lt_of_lt_of_le (eV.lt i r hi k hk) hb.size,eV.sep⟩⟩,mW.jJ hb,fun i r hi hm k hk=>.inr ⟨i,r,hi,hm,hk⟩,fun i r hi k hk=>.inr ⟨i,r,hi,hk⟩⟩
mutual
theorem kV {m n:Nat}(pV:m≤n)(x:SV)(h:within m x=true):within n x=true:=by
 cases x <;> simp only[within,decide_eq_true_eq]at h ⊢
 ·omega
 ·omega
 ·omega
 ·exact cg pV _ h
 ·exact cg pV _ h
 ·exact cg pV _ h
 ·exact cg pV _ h
 ·exact kV pV _ h
theorem cg {m n:Nat}(pV:m≤n)(l:List SV)(h:within.ay m l=true):within.ay n l=true:=by
 cases l with
 | nil=>rfl
 | cons x r =>
   simp only[within.ay,Bool.and_eq_true]at h ⊢
   exact⟨kV pV x h.1,cg pV r h.2⟩
end
end Vc
namespace Go.Proofs.YteipdaijbncgeaaGreatDoor
open Go Vc Go.RowKit Wf
def kf (a b:Int):Int:=if IntKind.u64.wrap (a+b)<a then 18446744073709551615 else IntKind.u64.wrap (a+b)
theorem qp (a b:Int):PC Tryz.V 29 [.int .u64 a,.int .u64 b] (.int .u64 (kf a b)):=by
 unfold kf
 refine aQ 3000 Tryz.func29 rfl Tryz.ntmps29 Tryz.results29 Tryz.call29 (by simp) (by simp[flat,flat.ai]) (by simp[flat,flat.ai]) ?_
 by_cases h:IntKind.u64.wrap (a+b)<a
 ·have hd:decide (IntKind.u64.wrap (a+b)<a)=true:=by simpa using h
  rw[if_pos h]
  simp only[ad,↓Xn,↓Xo,↓Xg,↓Xd,↓Xe,↓Xf,Tryz.VΓ,Tryz.Γs,Xp,Xi,Nat.reduceAdd,Nat.reduceSub,Nat.reduceLT,Nat.reduceLeDiff,reduceIte,reduceCtorEq,Nat.reduceEqDiff,implies_true,forall_const,aa,beq_self_eq_true,bne_self_eq_false,Int.reduceBEq,Int.reduceBNe,Int.reduceLT,Int.reduceLE]
  intro h2;rw[hd]at h2;cases h2
 ·have hd:decide (IntKind.u64.wrap (a+b)<a)=false:=by simpa using h
  rw[if_neg h]
  simp only[ad,↓Xn,↓Xo,↓Xg,↓Xd,↓Xe,↓Xf,Tryz.VΓ,Tryz.Γs,Xp,Xi,Nat.reduceAdd,Nat.reduceSub,Nat.reduceLT,Nat.reduceLeDiff,reduceIte,reduceCtorEq,Nat.reduceEqDiff,implies_true,forall_const,aa,beq_self_eq_true,bne_self_eq_false,Int.reduceBEq,Int.reduceBNe,Int.reduceLT,Int.reduceLE]
  intro h2;rw[hd]at h2;cases h2
def ie (v:Vd):Bool:=v.err==0&&v.store&&decide (1≤v.df)&&decide (v.df≤86400)
def zeroV:Vd:=⟨0,⟨0,[],[],0⟩,⟨0,[],[],0⟩,false,0,.aE⟩
theorem kG (v:Vd)(hv:v.tr=.aE):cN v=[.int .i64 v.err,.int .i64 v.id.kind,.str v.id.text,.str v.id.host,.int .i64 v.id.port,.int .i64 v.bE.kind,.str v.bE.text,.str v.bE.host,.int .i64 v.bE.port,.bool v.store,.int .u64 v.df,.aE]:=by unfold cN;rw[hv]
theorem p_New (n:Int):PC Tryz.V 10 [.int .i64 n] (if n<0∨1024<n then .eS [.agg [.int .i64 0,.aE],.int .i64 4] else .eS [.agg [.int .i64 n,.aE],.int .i64 0]):=by
 split
 ·rename_i h
  refine aQ 3000 Tryz.func10 rfl Tryz.ntmps10 Tryz.results10 Tryz.call10 (by simp) (by simp[flat,flat.ai]) (by simp[flat,flat.ai]) ?_
  by_cases h1:n<0
  ·have hd:decide (n<0)=true:=by simpa using h1
   simp only[ad,↓Xn,↓Xo,↓Xg,↓Xd,↓Xe,↓Xf,Tryz.VΓ,Tryz.Γs,Xp,Xi,Nat.reduceAdd,Nat.reduceSub,Nat.reduceLT,Nat.reduceLeDiff,reduceIte,reduceCtorEq,Nat.reduceEqDiff,implies_true,forall_const,aa,beq_self_eq_true,bne_self_eq_false,Int.reduceBEq,Int.reduceBNe,Int.reduceLT,Int.reduceLE,hd]
  ·have hd:decide (n<0)=false:=by simpa using h1
   have nY:decide (1024<n)=true:=by simp;omega
   simp only[ad,↓Xn,↓Xo,↓Xg,↓Xd,↓Xe,↓Xf,Tryz.VΓ,Tryz.Γs,Xp,Xi,Nat.reduceAdd,Nat.reduceSub,Nat.reduceLT,Nat.reduceLeDiff,reduceIte,reduceCtorEq,Nat.reduceEqDiff,implies_true,forall_const,aa,beq_self_eq_true,bne_self_eq_false,Int.reduceBEq,Int.reduceBNe,Int.reduceLT,Int.reduceLE,hd,nY]
 ·rename_i h
  refine aQ 3000 Tryz.func10 rfl Tryz.ntmps10 Tryz.results10 Tryz.call10 (by simp) (by simp[flat,flat.ai]) (by simp[flat,flat.ai]) ?_
  have hd:decide (n<0)=false:=by simp;omega
  have nY:decide (1024<n)=false:=by simp;omega
  simp only[ad,↓Xn,↓Xo,↓Xg,↓Xd,↓Xe,↓Xf,Tryz.VΓ,Tryz.Γs,Xp,Xi,Nat.reduceAdd,Nat.reduceSub,Nat.reduceLT,Nat.reduceLeDiff,reduceIte,reduceCtorEq,Nat.reduceEqDiff,implies_true,forall_const,aa,beq_self_eq_true,bne_self_eq_false,Int.reduceBEq,Int.reduceBNe,Int.reduceLT,Int.reduceLE,hd,nY]
section
variable {b:List ax} {q:Nat} {L:List En} {m:Bool} {t:Bytes} {cp now:Int}
def getM (L:List En)(t:Bytes)(now:Int):Vd × Bool:=match L[gq En.key L t]? with
 | some e=>if dC En.key L t&&!decide (now<e.stored)&&!decide (e.aS≤now) then(e.v,true) else(zeroV,false)
 | none=>(zeroV,false)
theorem sc_Get {x:SV}(h:fT b x L m)(ha:mT En.key L)(hl:L.length≤1000000)(hT:∀ e∈L,e.v.tr=.aE) :
 SC Tryz.V 20 [.agg [.int .i64 cp,x],.str t,.int .u64 now] b (fun r b'=>r=.eS [.agg (cN (getM L t now).1),.bool (getM L t now).2]∧Kp b b'):=by
 have hw:=h.within
 have ho:=h.one
 refine cz 3000 Tryz.func20 rfl Tryz.ntmps20 Tryz.results20 Tryz.call20 (by simp) (aw b.length _ (by simp[within,within.ay,hw])) ?_
 simp only[ad,↓Xn,↓Xo,↓Xg,↓Xd,↓Xe,↓Xf,Tryz.VΓ,Tryz.Γs,Xp,Xi,Nat.reduceAdd,Nat.reduceSub,Nat.reduceLT,Nat.reduceLeDiff,reduceIte,reduceCtorEq,Nat.reduceEqDiff,implies_true,forall_const,aa,av,beq_self_eq_true,bne_self_eq_false,Int.reduceBEq,Int.reduceBNe,Int.reduceLT,Int.reduceLE,ho]
 refine aJ (yL (h.kp ((Kp.refl _).app _)) ha hl (fun e he=>by rw[hT e he];exact⟨rfl,rfl⟩)) ?_
 rintro y b1 ⟨rfl,rfl⟩
 cases hh:dC En.key L t
 ·have hg:getM L t now=(zeroV,false):=by
   unfold getM;rw[hh];split <;> simp
  rw[hg]
  simp only[ad,↓Xn,↓Xo,↓Xg,↓Xd,↓Xe,↓Xf,Tryz.VΓ,Tryz.Γs,Xp,Xi,Nat.reduceAdd,Nat.reduceSub,Nat.reduceLT,Nat.reduceLeDiff,reduceIte,reduceCtorEq,Nat.reduceEqDiff,implies_true,forall_const,aa,av,beq_self_eq_true,bne_self_eq_false,Int.reduceBEq,Int.reduceBNe,Int.reduceLT,Int.reduceLE,hh]
  exact⟨rfl,(Kp.refl _).app _⟩
 ·obtain⟨hk,ia⟩:=(qQ ha).1 hh
  obtain⟨q,rfl,hq⟩:∃ q,x=.o q L.length∧b[q]? = some (.own (L.flatMap enc) 43 14 L.length m):=by
   rcases h with⟨rfl,rfl⟩|h
   ·simp at hk
   ·exact h
  have g1:(L.flatMap enc)[gq En.key L t * 14+12]? = some (.int .u64 L[gq En.key L t].stored):=(iO L _ hk 12 (by omega)).trans rfl
  have g2:(L.flatMap enc)[gq En.key L t * 14+13]? = some (.int .u64 L[gq En.key L t].aS):=(iO L _ hk 13 (by omega)).trans rfl
  have dW:=tS L _ hk
  have hvn:=hT _ (zNJ hk)
  have hg:getM L t now=if !decide (now<L[gq En.key L t].stored)&&!decide (L[gq En.key L t].aS≤now) then(L[gq En.key L t].v,true) else(zeroV,false):=by
   unfold getM;rw[hh,zNM hk];simp
  rw[hg]
  have mJ:=aT L
  have B0:=kG _ hvn
  cases c1:decide (now<L[gq En.key L t].stored)
  ·cases c2:decide (L[gq En.key L t].aS≤now)
   ·simp only[ad,↓Xn,↓Xo,↓Xg,↓Xd,↓Xe,↓Xf,Tryz.VΓ,Tryz.Γs,Xp,Xi,Nat.reduceAdd,Nat.reduceSub,Nat.reduceLT,Nat.reduceLeDiff,reduceIte,reduceCtorEq,Nat.reduceEqDiff,implies_true,forall_const,aa,av,beq_self_eq_true,bne_self_eq_false,Int.reduceBEq,Int.reduceBNe,Int.reduceLT,Int.reduceLE,hh,hq,af hq,g1,g2,c1,c2]
    refine⟨⟨by omega,by omega⟩,by rw[mJ];omega,⟨by omega,by omega⟩,by rw[mJ];omega,⟨by omega,by omega⟩,by rw[mJ];omega,?_⟩
    rw[dW]
    refine ae (uA hvn) ?_
    simp only[ad,↓Xn,↓Xo,↓Xg,↓Xd,↓Xe,↓Xf,Tryz.VΓ,Tryz.Γs,Xp,Xi,Nat.reduceAdd,Nat.reduceSub,Nat.reduceLT,Nat.reduceLeDiff,reduceIte,reduceCtorEq,Nat.reduceEqDiff,implies_true,forall_const,aa,av,beq_self_eq_true,bne_self_eq_false,Int.reduceBEq,Int.reduceBNe,Int.reduceLT,Int.reduceLE,B0]
    exact(Kp.refl _).app _
   ·simp only[ad,↓Xn,↓Xo,↓Xg,↓Xd,↓Xe,↓Xf,Tryz.VΓ,Tryz.Γs,Xp,Xi,Nat.reduceAdd,Nat.reduceSub,Nat.reduceLT,Nat.reduceLeDiff,reduceIte,reduceCtorEq,Nat.reduceEqDiff,implies_true,forall_const,aa,av,beq_self_eq_true,bne_self_eq_false,Int.reduceBEq,Int.reduceBNe,Int.reduceLT,Int.reduceLE,hh,hq,af hq,g1,g2,c1,c2]
    exact⟨⟨by omega,by omega⟩,by rw[mJ];omega,⟨by omega,by omega⟩,by rw[mJ];omega,rfl,(Kp.refl _).app _⟩
  ·simp only[ad,↓Xn,↓Xo,↓Xg,↓Xd,↓Xe,↓Xf,Tryz.VΓ,Tryz.Γs,Xp,Xi,Nat.reduceAdd,Nat.reduceSub,Nat.reduceLT,Nat.reduceLeDiff,reduceIte,reduceCtorEq,Nat.reduceEqDiff,implies_true,forall_const,aa,av,beq_self_eq_true,bne_self_eq_false,Int.reduceBEq,Int.reduceBNe,Int.reduceLT,Int.reduceLE,hh,hq,af hq,g1,g2,c1]
   exact⟨⟨by omega,by omega⟩,by rw[mJ];omega,rfl,(Kp.refl _).app _⟩
theorem sc_exp1 {i:Nat}{T:TypeId}{mm:Bool}(hi:b[i]? = some (.cells [.int .u64 now] T mm)){e:En}(hv:e.v.tr=.aE):SC Tryz.V 43 [.agg (enc e),.p i 0] b (fun r b'=>r=.bool (decide (e.aS≤now))∧b'=b):=by
 have eh:=(zNt.1 hi).1
 refine dw rfl ?_
 have he:enc e=[.int .i64 e.v.err,.int .i64 e.v.id.kind,.str e.v.id.text,.str e.v.id.host,.int .i64 e.v.id.port,.int .i64 e.v.bE.kind,.str e.v.bE.text,.str e.v.bE.host,.int .i64 e.v.bE.port,.bool e.v.store,.int .u64 e.v.df,.aE,.int .u64 e.stored,.int .u64 e.aS]:=by unfold enc;rw[hv]
 rw[he]
 refine cz 3000 Tryz.func43 rfl Tryz.ntmps43 Tryz.results43 Tryz.call43 (by simp) (aw b.length _ (by simp[within,within.ay,eh])) ?_
 simp only[ad,↓Xn,↓Xo,↓Xg,↓Xd,↓Xe,↓Xf,Tryz.VΓ,Tryz.Γs,Xp,Xi,Nat.reduceAdd,Nat.reduceSub,Nat.reduceLT,Nat.reduceLeDiff,reduceIte,reduceCtorEq,Nat.reduceEqDiff,implies_true,forall_const,aa,av,beq_self_eq_true,bne_self_eq_false,Int.reduceBEq,Int.reduceBNe,Int.reduceLT,Int.reduceLE,hi,af hi]
 exact(Kp.refl _).app _
def gl (L:List En)(now:Int):List En:=L.filter fun e=>!decide (e.aS≤now)
theorem xB {x:SV}(h:fT b x L m)(pV:m=true∨L.length≠0∨x=.aE)(hl:L.length≤1000000)(hT:∀ e∈L,e.v.tr=.aE) :
 SC Tryz.V 23 [.agg [.int .i64 cp,x],.int .u64 now] b (fun r b'=>Kp b b'∧∃ x',r=.agg [.int .i64 cp,x']∧fT b' x' (gl L now) true∧((x=.aE∧x'=.aE)∨x≠.aE∧∃ q',x'=.o q' (gl L now).length∧b.length≤q'∧b'[q']? = some (.own ((gl L now).flatMap enc) 43 14 (gl L now).length true))):=by
 have hw:=h.within
 have ho:=h.one
 refine cz 3000 Tryz.func23 rfl Tryz.ntmps23 Tryz.results23 Tryz.call23 (by simp) (aw b.length _ (by simp[within,within.ay,hw])) ?_
 rcases h with⟨rfl,rfl⟩|⟨q,rfl,hq⟩
 ·simp only[ad,↓Xn,↓Xo,↓Xg,↓Xd,↓Xe,↓Xf,Tryz.VΓ,Tryz.Γs,Xp,Xi,Nat.reduceAdd,Nat.reduceSub,Nat.reduceLT,Nat.reduceLeDiff,reduceIte,reduceCtorEq,Nat.reduceEqDiff,implies_true,forall_const,aa,av,beq_self_eq_true,bne_self_eq_false,Int.reduceBEq,Int.reduceBNe,Int.reduceLT,Int.reduceLE,ho]
  refine aJ sB ?_
  rintro y b1 ⟨rfl,rfl⟩
  simp only[ad,↓Xn,↓Xo,↓Xg,↓Xd,↓Xe,↓Xf,Tryz.VΓ,Tryz.Γs,Xp,Xi,Nat.reduceAdd,Nat.reduceSub,Nat.reduceLT,Nat.reduceLeDiff,reduceIte,reduceCtorEq,Nat.reduceEqDiff,implies_true,forall_const,aa,av,beq_self_eq_true,bne_self_eq_false,Int.reduceBEq,Int.reduceBNe,Int.reduceLT,Int.reduceLE]
  refine aJ (HZ (aZ rfl _ 1)) ?_
  rintro y b1 ⟨rfl,rfl⟩
  simp only[ad,↓Xn,↓Xo,↓Xg,↓Xd,↓Xe,↓Xf,Tryz.VΓ,Tryz.Γs,Xp,Xi,Nat.reduceAdd,Nat.reduceSub,Nat.reduceLT,Nat.reduceLeDiff,reduceIte,reduceCtorEq,Nat.reduceEqDiff,implies_true,forall_const,aa,av,beq_self_eq_true,bne_self_eq_false,Int.reduceBEq,Int.reduceBNe,Int.reduceLT,Int.reduceLE]
  exact⟨(Kp.refl _).app _,_,rfl,.inl ⟨rfl,rfl⟩,by simp⟩
 ·simp only[ad,↓Xn,↓Xo,↓Xg,↓Xd,↓Xe,↓Xf,Tryz.VΓ,Tryz.Γs,Xp,Xi,Nat.reduceAdd,Nat.reduceSub,Nat.reduceLT,Nat.reduceLeDiff,reduceIte,reduceCtorEq,Nat.reduceEqDiff,implies_true,forall_const,aa,av,beq_self_eq_true,bne_self_eq_false,Int.reduceBEq,Int.reduceBNe,Int.reduceLT,Int.reduceLE,ho]
  refine aJ (uf (af hq _) (by rcases pV with h|h|h;exact .inl h;exact .inr h;cases h) hT hl) ?_
  rintro y b1 ⟨rfl,rfl⟩
  simp only[ad,↓Xn,↓Xo,↓Xg,↓Xd,↓Xe,↓Xf,Tryz.VΓ,Tryz.Γs,Xp,Xi,Nat.reduceAdd,Nat.reduceSub,Nat.reduceLT,Nat.reduceLeDiff,reduceIte,reduceCtorEq,Nat.reduceEqDiff,implies_true,forall_const,aa,av,beq_self_eq_true,bne_self_eq_false,Int.reduceBEq,Int.reduceBNe,Int.reduceLT,Int.reduceLE]
  refine aJ (sc_DelF (q:=b.length+3) (i:=b.length+1) (p:=fun e=>decide (e.aS≤now)) (aZ rfl _ 3) (aZ rfl _ 1) (by omega) (fun b' hb' e he=>sc_exp1 hb' (hT e he)) (fun e he=>by rw[hT e he];rfl) hl) ?_
  rintro y b2 ⟨cw,q',rfl,hq',hq0⟩
  have eV:=cw.2 b.length _ (aZ rfl _ 0) (by omega)
  have lA:=cw.2 (b.length+2) _ (aZ rfl _ 2) (by omega)
  have gF:=cw.1
  rw[zNu]at gF
  simp only[List.length_cons,List.length_nil]at gF
  have n0:q'≠b.length:=by rintro rfl;rw[eV]at hq';cases hq'
  have n2:q'≠b.length+2:=by rintro rfl;rw[lA]at hq';cases hq'
  have B3:∀ X,(b2.set b.length X)[b.length]? = some X:=fun X=>zNv (by omega)
  have fY:∀ X,(b2.set b.length X)[b.length+2]? = _:=fun X=>aI lA (by omega) X
  have I1:∀ X Y,((b2.set b.length X).set (b.length+2) Y)[b.length+2]? = some Y:=fun X Y=>zNv (by rw[zNy];omega)
  simp only[ad,↓Xn,↓Xo,↓Xg,↓Xd,↓Xe,↓Xf,Tryz.VΓ,Tryz.Γs,Xp,Xi,Nat.reduceAdd,Nat.reduceSub,Nat.reduceLT,Nat.reduceLeDiff,reduceIte,reduceCtorEq,Nat.reduceEqDiff,implies_true,forall_const,aa,av,beq_self_eq_true,bne_self_eq_false,Int.reduceBEq,Int.reduceBNe,Int.reduceLT,Int.reduceLE,eV,lA,B3,fY,I1]
  have hk:Kp b b2:=⟨by omega,fun k hk=>by
   rw[cw.2 k _ (af (zNM hk) _) (by omega),zNM hk]⟩
  exact⟨(hk.set (zNx _) _).set (by omega) _,_,rfl,.inr ⟨q',rfl,aI (aI hq' (Ne.symm n0) _) (Ne.symm n2) _⟩,.inr ⟨by simp,q',rfl,by simp at hq0;omega,aI (aI hq' (Ne.symm n0) _) (Ne.symm n2) _⟩⟩
theorem iE {L:List En}(hT:∀ e∈L,e.v.tr=.aE):within.ay 0 (L.flatMap enc)=true:=by
 induction L with
 | nil=>rfl
 | cons e L ih =>
   have h1:=hT e List.mem_cons_self
   have h2:=ih fun e he=>hT e (zNF _ he)
   rw[zNT]
   unfold enc
   rw[h1]
   simp only[List.cons_append,zNL,within.ay,within,Bool.true_and]
   exact h2
theorem FW (hq:b[q]? = some (.own (L.flatMap enc) 43 14 L.length m))(pV:m=true∨L.length≠0)(hl:L.length≤1000000)(hT:∀ e∈L,e.v.tr=.aE) :
 SC Tryz.V 23 [.agg [.int .i64 cp,.o q L.length],.int .u64 now] b (fun r b'=>r=.agg [.int .i64 cp,.o b.length (gl L now).length]∧b'=b++[.own ((gl L now).flatMap enc) 43 14 (gl L now).length false]):=by
 have hTe:∀ e∈gl L now,e.v.tr=.aE:=fun e he=>hT e (List.mem_filter.1 he).1
 have hw:=iE hTe
 refine SC.pick ((xB (.inr ⟨q,rfl,hq⟩) (by rcases pV with h|h;exact .inl h;exact .inr (.inl h)) hl hT).mono ?_)
 rintro r b' ⟨cw,x',rfl,-,h⟩
 rcases h with⟨h,-⟩|⟨-,q',rfl,hle,hq'⟩
 ·cases h
 ·refine⟨fun k=>if k=b.length then q' else k,[.own ((gl L now).flatMap enc) 43 14 (gl L now).length false],.agg [.int .i64 cp,.o b.length (gl L now).length],cw,fun k hk=>if_neg (by omega),?_,by simp[EP,je],by simp[within,within.ay],rfl,rfl⟩
  intro p X hX
  match p,hX with
  | 0,hX =>
    simp only[zNW,Option.some.injEq]at hX
    subst hX
    refine .inr ⟨_,_,_,_,true,rfl,by simp;omega,?_,cg (Nat.zero_le _) _ hw⟩
    rw[db (m:=0) (fun k hk=>by omega) _ hw]
    simpa using hq'
  | p+1,hX=>simp at hX
theorem Di:SC Tryz.V 23 [.agg [.int .i64 cp,.aE],.int .u64 now] b (fun r b'=>r=.agg [.int .i64 cp,.aE]∧b'=b):=by
 refine dw rfl ((xB (L:=[]) (m:=true) (.inl ⟨rfl,rfl⟩) (.inl rfl) (by simp) (fun e he=>by cases he)).mono ?_)
 rintro r b' ⟨cw,x',rfl,-,h⟩
 rcases h with⟨-,rfl⟩|⟨h,-⟩
 ·exact⟨rfl,cw⟩
 ·exact absurd rfl h
theorem yF {x:SV}(h:fT b x L m)(ha:mT En.key L)(hl:L.length≤1000000)(hT:∀ e∈L,e.v.tr=.aE) :
 SC Tryz.V 20 [.agg [.int .i64 cp,x],.str t,.int .u64 now] b (fun r b'=>r=.eS [.agg (cN (getM L t now).1),.bool (getM L t now).2]∧b'=b):=by
 have hn:(getM L t now).1.tr=.aE:=by
  unfold getM
  split
  ·rename_i e he
   split
   ·exact hT e (List.mem_of_getElem? he)
   ·rfl
  ·rfl
 exact dw (by rw[kG _ hn];rfl) (sc_Get h ha hl hT)
end
open Go Vc Go.RowKit Wf
theorem quo2 {k:Nat}(hk:k≤1000000):vF .quo .i64 ((k:Int) - 1) 2=(((k - 1) / 2:Nat):Int):=by
 have e:Int.tdiv ((k:Int) - 1) 2=(((k - 1) / 2:Nat):Int):=by
  cases k with
  | zero=>rfl
  | succ k =>
    have e:((k+1:Nat):Int) - 1=(k:Int):=by omega
    rw[e]
    simp only[Nat.add_sub_cancel]
    exact(Int.ofNat_tdiv k 2).symm
 show IntKind.wrap .i64 (Int.tdiv ((k:Int) - 1) 2)=_
 rw[e]
 simp only[IntKind.wrap,IntKind.signed,IntKind.bits]
 simp
 omega
section
variable {b:List ax} {q j r:Nat} {m:Bool} {L:List En} {P:List Nat}
theorem Aw {P:List Nat}{i k n:Nat}(hi:i<P.length)(hk:k<P.length)(hP:∀ c,c<P.length→P.getD c 0<n):∀ c,c<(nj P i k).length→(nj P i k).getD c 0<n:=fun c hc=>by
 rw[eT]at hc
 rw[gJ hi hk]
 split
 ·exact hP i hi
 ·split
  ·exact hP k hk
  ·exact hP c hc
theorem Dv (h:QS b q j r m L P)(hP:∀ c,c<P.length→P.getD c 0<L.length){k:Nat}(hk:k<P.length)(hl:P.length≤1000000) :
 SC Tryz.V 83 [.E7 96 (.p q 0),.int .i64 k] b (fun x b'=>x=.eS []∧QS b' q j r m L (C0 (oI L) (k+1) P k)∧Ki q r b b'):=by
 have lL:=(zNt.1 h.bq).1
 refine cz 3000 Tryz.func83 rfl Tryz.ntmps83 Tryz.results83 Tryz.call83 (by simp) (aw b.length _ (by simp[within,within.ay,lL])) ?_
 simp only[ad,↓Xn,↓Xo,↓Xg,↓Xd,↓Xe,↓Xf,Tryz.VΓ,Tryz.Γs,Xp,Xi,Nat.reduceAdd,Nat.reduceSub,Nat.reduceLT,Nat.reduceLeDiff,reduceIte,reduceCtorEq,Nat.reduceEqDiff,implies_true,forall_const,aa,av,beq_self_eq_true,bne_self_eq_false,Int.reduceBEq,Int.reduceBNe,Int.reduceLT,Int.reduceLE]
 refine aM (fun σ=>∃ (fu:Nat) (P':List Nat) (k':Nat),lk 0 σ.t=some (.E7 96 (.p q 0))∧lk 1 σ.t=some (.int .i64 k')∧QS σ.b q j r m L P'∧Ki q r b σ.b∧k'<P'.length∧k'<fu∧P'.length=P.length∧(∀ c,c<P'.length→P'.getD c 0<L.length)∧C0 (oI L) fu P' k'=C0 (oI L) (k+1) P k) (fun σ=>ja 1 σ) ⟨k+1,P,k,rfl,rfl,h,Ki.refl _ _ _,hk,by omega,rfl,hP,rfl⟩ ?_
 rintro⟨t,b1⟩ ⟨fu,P',k',l0,l1,hq,cw,hk',hfu,hPl,hP',hup⟩
 simp only at l0 l1 hq cw
 rw[az l1]
 obtain⟨f,rfl⟩:∃ f,fu=f+1:=⟨fu - 1,by omega⟩
 rw[C0]at hup
 have pN:=quo2 (k:=k') (by omega)
 have hi:(k' - 1) / 2<P'.length:=by omega
 have h0:P'.length≠0:=by omega
 by_cases wm:(k' - 1) / 2=k'
 ·have e0:k'=0:=by omega
  subst e0
  have hc:((((0 - 1) / 2:Nat):Int)==((0:Nat):Int))=true:=rfl
  rw[if_pos (.inl wm)]at hup
  rw[← hup]
  simp only[ad,↓Xn,↓Xo,↓Xg,↓Xd,↓Xe,↓Xf,Tryz.VΓ,Tryz.Γs,Xp,Xi,Nat.reduceAdd,Nat.reduceSub,Nat.reduceLT,Nat.reduceLeDiff,reduceIte,reduceCtorEq,Nat.reduceEqDiff,implies_true,forall_const,aa,av,beq_self_eq_true,bne_self_eq_false,Int.reduceBEq,Int.reduceBNe,Int.reduceLT,Int.reduceLE,l0,l1,pN,hc]
  exact⟨⟨by omega,by omega⟩,by decide,hq,cw⟩
 ·have hc:((((k' - 1) / 2:Nat):Int)==(k':Int))=false:=by rw[beq_eq_false_iff_ne];omega
  simp only[ad,↓Xn,↓Xo,↓Xg,↓Xd,↓Xe,↓Xf,Tryz.VΓ,Tryz.Γs,Xp,Xi,Nat.reduceAdd,Nat.reduceSub,Nat.reduceLT,Nat.reduceLeDiff,reduceIte,reduceCtorEq,Nat.reduceEqDiff,implies_true,forall_const,aa,av,beq_self_eq_true,bne_self_eq_false,Int.reduceBEq,Int.reduceBNe,Int.reduceLT,Int.reduceLE,l0,l1,pN,hc,VM_Less,FO]
  refine⟨⟨by omega,by omega⟩,by decide,aJ (F8 hq hk' hi hP') ?_⟩
  rintro x b2 ⟨rfl,rfl⟩
  cases Fj:lg (oI L) (P'.getD k' 0) (P'.getD ((k' - 1) / 2) 0)
  ·rw[if_pos (.inr Fj)]at hup
   rw[← hup]
   simp only[ad,↓Xn,↓Xo,↓Xg,↓Xd,↓Xe,↓Xf,Tryz.VΓ,Tryz.Γs,Xp,Xi,Nat.reduceAdd,Nat.reduceSub,Nat.reduceLT,Nat.reduceLeDiff,reduceIte,reduceCtorEq,Nat.reduceEqDiff,implies_true,forall_const,aa,av,beq_self_eq_true,bne_self_eq_false,Int.reduceBEq,Int.reduceBNe,Int.reduceLT,Int.reduceLE,Bool.not_false]
   exact⟨hq,cw⟩
  ·rw[if_neg (by rw[Fj];simp[wm])]at hup
   simp only[ad,↓Xn,↓Xo,↓Xg,↓Xd,↓Xe,↓Xf,Tryz.VΓ,Tryz.Γs,Xp,Xi,Nat.reduceAdd,Nat.reduceSub,Nat.reduceLT,Nat.reduceLeDiff,reduceIte,reduceCtorEq,Nat.reduceEqDiff,implies_true,forall_const,aa,av,beq_self_eq_true,bne_self_eq_false,Int.reduceBEq,Int.reduceBNe,Int.reduceLT,Int.reduceLE,l0,l1,Bool.not_true,FO]
   refine aJ (F6 hq hi hk') ?_
   rintro x b3 ⟨rfl,rfl⟩
   simp only[ad,↓Xn,↓Xo,↓Xg,↓Xd,↓Xe,↓Xf,Tryz.VΓ,Tryz.Γs,Xp,Xi,Nat.reduceAdd,Nat.reduceSub,Nat.reduceLT,Nat.reduceLeDiff,reduceIte,reduceCtorEq,Nat.reduceEqDiff,implies_true,forall_const,aa,av,beq_self_eq_true,bne_self_eq_false,Int.reduceBEq,Int.reduceBNe,Int.reduceLT,Int.reduceLE,l0,l1]
   refine⟨⟨f,nj P' ((k' - 1) / 2) k',(k' - 1) / 2,rfl,hq.swap h0 _ (eT _ _ _),⟨by simpa using cw.1,fun i s hs h1 h2=>aI (cw.2 i s hs h1 h2) (Ne.symm h2) _⟩,by rw[eT];exact hi,by omega,by rw[eT];exact hPl,Aw hi hk' hP',hup⟩,?_⟩
   rw[az (show lk 1 _=some (.int .i64 (((k' - 1) / 2:Nat):Int)) from rfl)];omega
end
open Go Vc Go.RowKit Wf
section
variable {b:List ax} {q j r:Nat} {m:Bool} {L:List En} {P:List Nat}
theorem Ki.trans {q r r':Nat}{b b1 b2:List ax}(h1:Ki q r b b1)(hr:b.length≤r')(h2:Ki q r' b1 b2):Ki q r b b2 :=
 ⟨zN2 h1.1 h2.1,fun i s hi hq hr'=>h2.2 i s (h1.2 i s hi hq hr') hq (by have:=(zNt.1 hi).1;omega)⟩
theorem A5 {P:List Nat}{n N:Nat}(hP:∀ c,c<P.length→P.getD c 0<N)(hn:n<N):∀ c,c<(P++[n]).length→(P++[n]).getD c 0<N:=fun c hc=>by
 rw[zNu]at hc
 simp only[List.length_singleton]at hc
 rw[List.getD_eq_getElem?_getD]
 by_cases h:c<P.length
 ·rw[zNz h,← List.getD_eq_getElem?_getD];exact hP c h
 ·obtain rfl:c=P.length:=by omega
  simpa using hn
theorem yK (h:QS b q j r m L P)(hP:∀ c,c<P.length→P.getD c 0<L.length){n:Nat}(hn:n<L.length)(hl:P.length<1000000) :
 SC Tryz.V 59 [.E7 96 (.p q 0),.E7 3 (.int .i64 n)] b (fun x b'=>x=.eS []∧∃ r',b.length≤r'∧QS b' q j r' m L (C0 (oI L) (P.length+1) (P++[n]) P.length)∧Ki q r b b'):=by
 have lL:=(zNt.1 h.bq).1
 refine cz 3000 Tryz.func59 rfl Tryz.ntmps59 Tryz.results59 Tryz.call59 (by simp) (aw b.length _ (by simp[within,within.ay,lL])) ?_
 simp only[ad,↓Xn,↓Xo,↓Xg,↓Xd,↓Xe,↓Xf,Tryz.VΓ,Tryz.Γs,Xp,Xi,Nat.reduceAdd,Nat.reduceSub,Nat.reduceLT,Nat.reduceLeDiff,reduceIte,reduceCtorEq,Nat.reduceEqDiff,implies_true,forall_const,aa,av,beq_self_eq_true,bne_self_eq_false,Int.reduceBEq,Int.reduceBNe,Int.reduceLT,Int.reduceLE,VM_Push]
 refine aJ (F7 h (by omega) n) ?_
 rintro x b1 ⟨rfl,r1,hr1,h1,k1⟩
 simp only[ad,↓Xn,↓Xo,↓Xg,↓Xd,↓Xe,↓Xf,Tryz.VΓ,Tryz.Γs,Xp,Xi,Nat.reduceAdd,Nat.reduceSub,Nat.reduceLT,Nat.reduceLeDiff,reduceIte,reduceCtorEq,Nat.reduceEqDiff,implies_true,forall_const,aa,av,beq_self_eq_true,bne_self_eq_false,Int.reduceBEq,Int.reduceBNe,Int.reduceLT,Int.reduceLE,VM_Len]
 refine aJ (HU h1) ?_
 rintro x b2 ⟨rfl,rfl⟩
 have hlen:(P++[n]).length=P.length+1:=by simp
 have e1:((P.length+1:Nat):Int) - 1=((P.length:Nat):Int):=by omega
 simp only[ad,↓Xn,↓Xo,↓Xg,↓Xd,↓Xe,↓Xf,Tryz.VΓ,Tryz.Γs,Xp,Xi,Nat.reduceAdd,Nat.reduceSub,Nat.reduceLT,Nat.reduceLeDiff,reduceIte,reduceCtorEq,Nat.reduceEqDiff,implies_true,forall_const,aa,av,beq_self_eq_true,bne_self_eq_false,Int.reduceBEq,Int.reduceBNe,Int.reduceLT,Int.reduceLE,hlen]
 refine⟨by omega,?_⟩
 rw[e1]
 refine aJ (Dv h1 (A5 hP hn) (k:=P.length) (by omega) (by omega)) ?_
 rintro x b3 ⟨rfl,h3,k3⟩
 simp only[ad,↓Xn,↓Xo,↓Xg,↓Xd,↓Xe,↓Xf,Tryz.VΓ,Tryz.Γs,Xp,Xi,Nat.reduceAdd,Nat.reduceSub,Nat.reduceLT,Nat.reduceLeDiff,reduceIte,reduceCtorEq,Nat.reduceEqDiff,implies_true,forall_const,aa,av,beq_self_eq_true,bne_self_eq_false,Int.reduceBEq,Int.reduceBNe,Int.reduceLT,Int.reduceLE]
 exact⟨r1,hr1,h3,k1.trans hr1 k3⟩
theorem HW (hj:b[j]? = some (.own (L.flatMap enc) 43 14 L.length m))(h0:0<L.length)(hl:L.length≤1000000) :
 SC Tryz.V 36 [.o j L.length] b (fun x b'=>x=.int .i64 (dR (oI L) L.length)∧Kp b b'):=by
 have mU:=(zNt.1 hj).1
 refine cz 3000 Tryz.func36 rfl Tryz.ntmps36 Tryz.results36 Tryz.call36 (by simp) (aw b.length _ (by simp[within,within.ay,mU])) ?_
 simp only[ad,↓Xn,↓Xo,↓Xg,↓Xd,↓Xe,↓Xf,Tryz.VΓ,Tryz.Γs,Xp,Xi,Nat.reduceAdd,Nat.reduceSub,Nat.reduceLT,Nat.reduceLeDiff,reduceIte,reduceCtorEq,Nat.reduceEqDiff,implies_true,forall_const,aa,av,beq_self_eq_true,bne_self_eq_false,Int.reduceBEq,Int.reduceBNe,Int.reduceLT,Int.reduceLE]
 refine aM (fun σ=>∃ (i:Nat) (r:Nat),lk 3 σ.t=some (.p b.length 0)∧lk 9 σ.t=some (.int .i64 L.length)∧lk 10 σ.t=some (.int .i64 i)∧i≤L.length∧QS σ.b b.length j r m L (gz (oI L) i)∧Kp b σ.b∧b.length≤r) (fun σ=>L.length - ja 10 σ) ⟨0,b.length+1,rfl,rfl,rfl,by omega,⟨aZ rfl _ 0,fun h=>absurd rfl h,af hj _,fun h=>absurd rfl h⟩,(Kp.refl _).app _,by omega⟩ ?_
 rintro⟨t,b1⟩ ⟨i,r,l3,l9,l10,hi,hq,cw,hr⟩
 simp only at l3 l9 l10 hq cw
 rw[az l10]
 have hlen:=lx (oI L) i
 by_cases c:i<L.length
 ·have ci:decide ((i:Int)<(L.length:Int))=true:=by simpa using c
  simp only[ad,↓Xn,↓Xo,↓Xg,↓Xd,↓Xe,↓Xf,Tryz.VΓ,Tryz.Γs,Xp,Xi,Nat.reduceAdd,Nat.reduceSub,Nat.reduceLT,Nat.reduceLeDiff,reduceIte,reduceCtorEq,Nat.reduceEqDiff,implies_true,forall_const,aa,av,beq_self_eq_true,bne_self_eq_false,Int.reduceBEq,Int.reduceBNe,Int.reduceLT,Int.reduceLE,l3,l9,l10,ci]
  refine aJ (yK hq (fun c hc=>(lv (oI L) i _).1 ⟨c,by omega,rfl⟩ |> fun h=>by omega) c (by omega)) ?_
  rintro x b2 ⟨rfl,r',hr',pN,mP⟩
  rw[hlen]at pN
  simp only[ad,↓Xn,↓Xo,↓Xg,↓Xd,↓Xe,↓Xf,Tryz.VΓ,Tryz.Γs,Xp,Xi,Nat.reduceAdd,Nat.reduceSub,Nat.reduceLT,Nat.reduceLeDiff,reduceIte,reduceCtorEq,Nat.reduceEqDiff,implies_true,forall_const,aa,av,beq_self_eq_true,bne_self_eq_false,Int.reduceBEq,Int.reduceBNe,Int.reduceLT,Int.reduceLE,l3,l9,l10]
  refine⟨by omega,⟨i+1,r',rfl,by omega,pN,⟨zN2 cw.1 mP.1,fun k hk=>by rw[mP.2 k _ (zNM (by have:=cw.1;omega)) (by omega) (by omega)];rw[← zNM (by have:=cw.1;omega)];exact cw.2 k hk⟩,by have:=cw.1;omega⟩,?_⟩
  rw[az (show lk 10 _=some (.int .i64 ((i+1:Nat):Int)) from rfl)];omega
 ·have ci:decide ((i:Int)<(L.length:Int))=false:=by simpa using c
  obtain rfl:i=L.length:=by omega
  have h0':(gz (oI L) L.length).length≠0:=by omega
  have hqq:=hq.bq
  rw[if_neg h0',hlen]at hqq
  have hrr:=hq.br h0'
  rw[hlen]at hrr
  have a0:(wg (gz (oI L) L.length))[Int.toNat 0 * 1]? = some (.int .i64 (dR (oI L) L.length:Nat)):=by
   have a0:=uX (gz (oI L) L.length) 0 (by omega)
   rw[Ei _ h0]at a0
   exact a0
  have a1:(wg (gz (oI L) L.length)).length=L.length:=by simp[wg,hlen]
  simp only[ad,↓Xn,↓Xo,↓Xg,↓Xd,↓Xe,↓Xf,Tryz.VΓ,Tryz.Γs,Xp,Xi,Nat.reduceAdd,Nat.reduceSub,Nat.reduceLT,Nat.reduceLeDiff,reduceIte,reduceCtorEq,Nat.reduceEqDiff,implies_true,forall_const,aa,av,beq_self_eq_true,bne_self_eq_false,Int.reduceBEq,Int.reduceBNe,Int.reduceLT,Int.reduceLE,l3,l9,l10,ci,hqq,hrr,a0,a1]
  exact⟨by omega,by simp;omega,cw⟩
end
open Go Vc Go.RowKit Go.Lib Wf
theorem ox {P:Program}(w:World)(dT sT ty e:TypeId)(i:TypeInfo)(hu:P.underlying dT=some (.slice e))(hi:P.info? e=some i)(b o dLen dCap:Nat)(a:Addr)(jd sCap:Nat)(cs:List Value)(hn:cs.length=Nat.min jd dLen * i.size)
 (Gw:∀ j v,cs[j]? = some v→w.cell? (a.add j)=some v) {w':World} (oL:(storeCells ⟨b,o,none⟩ cs).run P w=.ok () w') :
 (Builtin.copy_ #[dT,sT] ty #[.slice (some ⟨b,o,none⟩) dLen dCap,.slice (some a) jd sCap]).run P w=.ok (goInt (Nat.min jd dLen)) w':=by
 have hl:=run_loadCells_list (P:=P) w a cs Gw
 simp[Builtin.copy_,run_underlying hu,Builtin.lenOf,Builtin.firstCells,Go.sizeOf,typeInfo,hi,← hn,hl,oL]
theorem oG {P:Program}{o:Oper}{a:Act}{w w':World}{s x:Operand}{t t':TypeId}(ho:o.op=.call { callee:=.builtin .copy,args:=#[s,x],argTypes:=#[t,t'] }){v:Value}(hr:(Builtin.copy_ #[t,t'] o.type #[a.eval s,a.eval x]).run P w=.ok v w') :
 (execOp a.eval o).run P w=.ok (.value v) w':=by
 unfold execOp
 simp only[ho,resolve,invoke,builtin,Sem.run_bind,Sem.run_pure,Result.andThen_ok,List.map_toArray,zN5,List.map_nil,hr]
theorem gB {w:World}{g:Nat}{arr:Array Value}{T:TypeId}{fz:Nat × Nat}(hg:w.heap[g]? = some (.cells arr T fz)){o:Nat}{cs:List Value}(h:∀ j v,cs[j]? = some v→arr[o+j]? = some v):∀ j v,cs[j]? = some v→w.cell? ((⟨g,o,none⟩:Addr).add j)=some v:=fun j v hj=>by
 rw[Addr.add_lit,cell_of hg];exact h j v hj
theorem AG {w:World}{g:Nat}{arr:Array Value}{T:TypeId}{fz:Nat × Nat}(hg:w.heap[g]? = some (.cells arr T fz)):w.shape? g=some (T,arr.size):=by
 simp[World.shape?,hg]
theorem yo {w:World}{g:Nat}{arr:Array Value}{T:TypeId}{fz:Nat × Nat}(hg:w.heap[g]? = some (.cells arr T fz))(wo:arr.size<fz.1∨fz.2≤fz.1){j:Nat}(hj:j≤arr.size):w.frozen? ⟨g,j,none⟩=false:=by
 simp[World.frozen?,hg];omega
theorem IM {α:Type}{A B:List α}{q:Nat}(hA:A.length=q){p:Nat}(hp:p≤q):(A++B).take p=A.take p∧(A++B).drop q=B:=by
 subst hA
 exact⟨zNI hp,by simp⟩
theorem xx {α:Type}{A B x:List α}{p q:Nat}(hA:A.length=p)(hx:x.length=q):(A++B).take p++x++(A++B).drop (p+x.length)=A++x++B.drop q:=by
 subst hA hx
 rw[List.take_left,zN3,zNC (by omega),zNL,zNV]
theorem H7 {w:World}{g vb:Nat}{arr brr:Array Value}{fz fx:Nat × Nat}(hg:w.heap[g]? = some (.cells arr 43 fz))(hv:w.heap[vb]? = some (.cells brr 43 fx))(bn:vb≠g)(h0:arr.size≠0)(hfx:brr.size<fx.1∨fx.2≤fx.1)(m vc o lb cb:Nat) :
 (callFunc 60 #[.slice (some ⟨vb,0,none⟩) m vc,.slice (some ⟨g,o,none⟩) lb cb]).run Tryz.prog w=.ok (.value (.bool false)) w:=by
 obtain⟨i0,z,rT,wh,eN,-⟩:=iD
 rw[run_callFunc_extern Tryz.func60 (by kernel_rfl) (by kernel_rfl) (by kernel_rfl) (e:=Extern.SlicesOverlaps.overlaps #[22,22] #[4]) (by kernel_rfl),
  Lib.run_overlaps_apart w 22 4 43 (by kernel_rfl) 14 (fun w=>by simp[Go.sizeOf,typeInfo,rT,eN]) ⟨vb,0,none⟩ ⟨g,o,none⟩ m vc lb cb bn _ _ _ _ (AG hv) (AG hg) h0 (yo hv hfx (Nat.zero_le _)) (yo hv hfx (zNx _))]
 rfl
set_option maxRecDepth 1000000 in
theorem Aj {g n cap k m vb vc:Nat}{c rest x restx:List Value}{fz fx:Nat × Nat}{w:World}(hg:w.heap[g]? = some (.cells (c++rest).toArray 43 fz))(wo:c.length+rest.length<fz.1∨fz.2≤fz.1)(hc:c.length=n * 14)(kQ:c.length+rest.length=cap * 14)(hk:k<n)(h1:∀ v∈c,v.oneCell'=true)(vu:cap≤maxLen)
 (hm:0<m) (gw:n+m≤cap) (hv:w.heap[vb]? = some (.cells (x++restx).toArray 43 fx)) (hfx:x.length+restx.length<fx.1∨fx.2≤fx.1) (hx:x.length=m * 14) (bn:vb≠g) (Fa:∀ v∈x,v.oneCell'=true) :
 Calls Tryz.prog 38 #[.slice (some ⟨g,0,none⟩) n cap,.int .i64 k,.slice (some ⟨vb,0,none⟩) m vc] w fun e w'=>e=.returned (.slice (some ⟨g,0,none⟩) (n+m) cap)∧∃ q,w'=(Sort.ahead w q).setRow g ((c.take (k * 14)++x++c.drop (k * 14))++rest.drop (m * 14)).toArray:=by
 have mixed:=Tryz.V.mixed
 obtain⟨i0,z,rT,wh,eN,rm,mN,-⟩:=iD
 have hu:Tryz.prog.underlying 22=some (.slice 43):=by kernel_rfl
 have hrl:m * 14≤rest.length:=by omega
 have rn:(c.drop (k * 14)).length=(n - k) * 14:=by rw[zNA,hc,Nat.sub_mul]
 -- the first copy
 obtain⟨R1,hR1⟩:∃ R1:List Value,R1=(c++rest).take ((k+m) * 14)++c.drop (k * 14)++rest.drop (m * 14):=⟨_,rfl⟩
 obtain⟨W1,rp⟩:∃ W1,W1=w.drew.setRow g R1.toArray:=⟨_,rfl⟩
 have B2:(storeCells ⟨g,(k+m) * 14,none⟩ (c.drop (k * 14))).run Tryz.prog w.drew=.ok () W1:=by
  have:=bP (P:=Tryz.prog) g ((k+m) * 14) _ fz (c.drop (k * 14)) 0 _ w.drew hg (by simp;omega) (by rw[rn];omega) (fun v hv=>h1 v (List.mem_of_mem_drop hv))
  rw[this,rp,hR1]
  congr 3
  simp only[zN0]
  congr 1
  rw[rn,show (k+m) * 14+(n - k) * 14=c.length+m * 14 by rw[hc];omega,zN3,zNC (by omega),zNL,zNV]
 have hgW:W1.heap[g]? = some (.cells R1.toArray 43 fz):=by
  rw[rp];exact setRow_heap _ _ _ _ _ _ hg
 have hvW:W1.heap[vb]? = some (.cells (x++restx).toArray 43 fx):=by
  rw[rp,setRow_other _ _ _ _ bn];exact hv
 have IY:(c.take (k * 14)).length=k * 14:=by rw[zNw,hc];omega
 have hR1l:R1.length=cap * 14:=by
  rw[hR1,zNu,zNu,rn,zNw,zNu,zNA];omega
 obtain⟨W2,Cl⟩:∃ W2,W2=(Sort.ahead w 1).setRow g ((c.take (k * 14)++x++c.drop (k * 14))++rest.drop (m * 14)).toArray:=⟨_,rfl⟩
 have B1:(storeCells ⟨g,k * 14,none⟩ x).run Tryz.prog W1=.ok () W2:=by
  have:=bP (P:=Tryz.prog) g (k * 14) _ fz x 0 _ W1 hgW (by simp[hR1l,hx];omega) (by rw[hx];omega) Fa
  rw[this,Cl,rp,setRow_setRow]
  show Result.ok () (World.setRow _ _ _)=Result.ok () (World.setRow _ _ _)
  congr 2
  simp only[zNO,zN0]
  have hA:((c++rest).take ((k+m) * 14)).length=(k+m) * 14:=by rw[zNw,zNu];omega
  obtain⟨e1,e2⟩:=IM (B:=c.drop (k * 14)++rest.drop (m * 14)) hA (p:=k * 14) (by omega)
  rw[hR1,hx,show k * 14+m * 14=(k+m) * 14 by omega,zNY ((c++rest).take _),e1,e2,List.take_take,Nat.min_eq_left (by omega),zNI (by omega)]
  simp only[zNY]
 have hcp1:∀ ty dc sc,(Builtin.copy_ #[22,22] ty #[.slice (some ⟨g,(k+m) * 14,none⟩) (n+m - (k+m)) dc,.slice (some ⟨g,k * 14,none⟩) (n+m - k) sc]).run Tryz.prog w.drew=.ok (goInt ((n - k:Nat):Int)) W1:=fun ty dc sc=>by
  have e:Nat.min (n+m - k) (n+m - (k+m))=n - k:=by simp only[Nat.min_def];split <;> omega
  have:=ox (P:=Tryz.prog) w.drew 22 22 ty _ i0 hu rT g ((k+m) * 14) (n+m - (k+m)) dc ⟨g,k * 14,none⟩ (n+m - k) sc (c.drop (k * 14)) (by rw[e,eN,rn]) (gB (w:=w.drew) (show w.drew.heap[g]? = _ from hg) (fun j v hj=>by
   rw[List.getElem?_drop]at hj
   rw[zND,zNz (zNt.1 hj).1];exact hj)) B2
  rw[this,e]
 have hcp2:∀ ty dc,(Builtin.copy_ #[22,22] ty #[.slice (some ⟨g,k * 14,none⟩) (n+m - k) dc,.slice (some ⟨vb,0,none⟩) m vc]).run Tryz.prog W1=.ok (goInt m) W2:=fun ty dc=>by
  have e:Nat.min m (n+m - k)=m:=by simp only[Nat.min_def];split <;> omega
  have:=ox (P:=Tryz.prog) W1 22 22 ty _ i0 hu rT g (k * 14) (n+m - k) dc ⟨vb,0,none⟩ m vc x (by rw[e,eN,hx]) (gB hvW (fun j v hj=>by
   rw[zN1,zND,zNz (zNt.1 hj).1];exact hj)) B1
  rw[this,e]
 have hov:∀ lb cb,(callFunc 60 #[.slice (some ⟨vb,0,none⟩) m vc,.slice (some ⟨g,(k+m) * 14,none⟩) lb cb]).run Tryz.prog w=.ok (.value (.bool false)) w:=fun lb cb =>
  H7 hg hv bn (by rw[List.size_toArray,zNu];omega) (by simpa using hfx) m vc _ lb cb
 have hX:Aside (W2=(Sort.ahead w 1).setRow g ((c.take (k * 14)++x++c.drop (k * 14))++rest.drop (m * 14)).toArray):=Cl
 have fH:IntKind.i64.wrap ((k:Int)+(m:Int))=(k:Int)+(m:Int):=by rw[IntKind.wrap_i64];unfold maxLen at vu;omega
 have kR:(0:Int)≤(k:Int)+(m:Int):=by omega
 have nW:k≤n:=by omega
 have htn:((k:Int)+(m:Int)).toNat=k+m:=by omega
 have lA:¬ (cap=k+m):=by omega
 have hb3:(k:Int)≤(n:Int)+(m:Int):=by omega
 have hb4:¬ (cap=k):=by omega
 have hz1':¬ ((m:Int)=0):=by omega
 have hz2:¬ ((k:Int)=(n:Int)):=by omega
 have hc63:cap≤9223372036854775807:=by unfold maxLen at vu;exact vu
 clear vu rp Cl hgW hvW B2 B1 hR1 hR1l mN rm eN wh rT IY rn hrl hg hv hc kQ h1 Fa wo hfx hx
 go_enter Tryz.func38,Tryz.ntmps38
 go_wp2_with (simp only[hov])
 go_region_law_o (refine rA rfl (oG rfl (by simp[Act.eval,Act.put];exact hcp1 _ _ _)) ?_)
 go_wp2_with (at_builtin;refine du rfl (oG rfl (by simp[Act.eval,Act.put];exact hcp2 _ _)) ?_)
 go_ret
 exact⟨rfl,1,hX.out⟩
set_option maxRecDepth 1000000 in
theorem FT {g n cap m vb vc:Nat}{c rest x restx:List Value}{fz fx:Nat × Nat}{w:World}(hg:w.heap[g]? = some (.cells (c++rest).toArray 43 fz))(wo:c.length+rest.length<fz.1∨fz.2≤fz.1)(hc:c.length=n * 14)(kQ:c.length+rest.length=cap * 14)(vu:cap≤maxLen)
 (hm:0<m) (gw:n+m≤cap) (hv:w.heap[vb]? = some (.cells (x++restx).toArray 43 fx)) (hx:x.length=m * 14) (Fa:∀ v∈x,v.oneCell'=true) :
 Calls Tryz.prog 38 #[.slice (some ⟨g,0,none⟩) n cap,.int .i64 n,.slice (some ⟨vb,0,none⟩) m vc] w fun e w'=>e=.returned (.slice (some ⟨g,0,none⟩) (n+m) cap)∧∃ q,w'=(Sort.ahead w q).setRow g ((c++x)++rest.drop (m * 14)).toArray:=by
 have mixed:=Tryz.V.mixed
 obtain⟨i0,z,rT,wh,eN,rm,mN,-⟩:=iD
 have hu:Tryz.prog.underlying 22=some (.slice 43):=by kernel_rfl
 obtain⟨W1,rp⟩:∃ W1,W1=(Sort.ahead w 0).setRow g ((c++x)++rest.drop (m * 14)).toArray:=⟨_,rfl⟩
 have B2:(storeCells ⟨g,n * 14,none⟩ x).run Tryz.prog w=.ok () W1:=by
  have:=bP (P:=Tryz.prog) g (n * 14) _ fz x 0 _ w hg (by simp;omega) (by omega) Fa
  rw[this,rp]
  show Result.ok () (World.setRow _ _ _)=Result.ok () (World.setRow _ _ _)
  congr 2
  simp only[zNO,zN0]
  rw[← hc,List.take_left,zN3,zNC (by omega),zNL,zNV,hx]
 have bL:∀ ty,(Builtin.append_ #[22,22] ty #[.slice (some ⟨g,0,none⟩) n cap,.slice (some ⟨vb,0,none⟩) m vc]).run Tryz.prog w=.ok (.slice (some ⟨g,0,none⟩) (n+m) cap) W1:=fun ty =>
  lV w _ _ ty _ i0 hu hu (.inr ⟨_,rfl⟩) rT g n cap m _ x (by simp[Builtin.lenOf]) (run_firstCells_some w _ _ ⟨vb,0,none⟩ _ _ x (by rw[eN];exact hx) (gB hv (fun j v hj=>by
   rw[zN1,zND,zNz (zNt.1 hj).1];exact hj))) gw (by rw[eN];exact B2)
 have hX:Aside (W1=(Sort.ahead w 0).setRow g ((c++x)++rest.drop (m * 14)).toArray):=rp
 have hz1':¬ ((m:Int)=0):=by omega
 have hc63:cap≤9223372036854775807:=by unfold maxLen at vu;exact vu
 clear vu rp B2 mN rm eN wh rT hg hv hc kQ Fa wo hx
 go_enter Tryz.func38,Tryz.ntmps38
 go_wp2_with (at_builtin;refine du rfl (iU rfl (by simp[Act.eval,Act.put];exact bL _)) ?_)
 go_ret
 exact⟨rfl,0,hX.out⟩
set_option maxRecDepth 1000000 in
theorem pg {base:Option Addr}{n cap m vb vc:Nat}{c x restx:List Value}{fx:Nat × Nat}{w:World}(hg:∀ a,base=some a→∀ j v,c[j]? = some v→w.cell? (a.add j)=some v)(hnil:base=none→n=0)(hc:c.length=n * 14)
 (hm:0<m) (hncap:n≤cap) (gw:cap<n+m) (hbig:(n+m) * 500≤140737488355328) (hv:w.heap[vb]? = some (.cells (x++restx).toArray 43 fx)) (hx:x.length=m * 14) :
 Calls Tryz.prog 38 #[.slice base n cap,.int .i64 n,.slice (some ⟨vb,0,none⟩) m vc] w fun e w'=>∃ cap' sp,e=.returned (.slice (some ⟨w.heap.size,0,none⟩) (n+m) cap')∧n+m≤cap'∧cap'≤maxLen∧(n+m) * 14+sp.length=cap' * 14∧w'=w.drew.alloc (.cells ((c++x)++sp).toArray 43):=by
 have mixed:=Tryz.V.mixed
 obtain⟨i0,z,rT,wh,eN,rm,mN,oE⟩:=iD
 have hu:Tryz.prog.underlying 22=some (.slice 43):=by kernel_rfl
 have Jt:(n+m) * i0.bytes≤140737488355328:=zN2 (Nat.mul_le_mul_left _ oE) hbig
 have hold:(Builtin.firstCells i0.size n (.slice base n cap)).run Tryz.prog w.drew=.ok c.toArray w.drew:=by
  rw[eN]
  cases base with
  | none =>
    have h0:=hnil rfl
    subst h0
    rw[List.length_eq_zero_iff.1 (by omega:c.length=0)]
    exact run_firstCells_none w.drew 14 0 0 cap
  | some a=>exact run_firstCells_some w.drew 14 n a n cap c (by omega) (fun j v hj=>hg a rfl j v hj)
 have bL:∀ ty,(Builtin.append_ #[22,22] ty #[.slice base n cap,.slice (some ⟨vb,0,none⟩) m vc]).run Tryz.prog w=_:=fun ty =>
  qi w _ _ ty _ i0 z hu hu (.inr ⟨_,rfl⟩) rT wh base n cap m _ c x (by simp[Builtin.lenOf]) (run_firstCells_some w.drew _ _ ⟨vb,0,none⟩ _ _ x (by rw[eN];exact hx) (gB (w:=w.drew) (show w.drew.heap[vb]? = _ from hv) (fun j v hj=>by
   rw[zN1,zND,zNz (zNt.1 hj).1];exact hj))) hold gw (by unfold maxLen;omega) Jt
 have rU:=grownCap_ge w (n+m) cap 43
 have hle:=grownCap_le_maxLen w (n+m) cap 43 (by unfold maxLen;omega)
 generalize grownCap w (n+m) cap 43=G at bL rU hle
 obtain⟨W1,rp⟩:∃ W1,W1=w.drew.alloc (.cells ((c++x).toArray++Builtin.zeroCells z.cells (G - (n+m))) 43):=⟨_,rfl⟩
 rw[← rp]at bL
 have hX:Aside (W1=w.drew.alloc (.cells ((c++x).toArray++Builtin.zeroCells z.cells (G - (n+m))) 43)∧n+m≤G∧G≤maxLen∧z.cells.size=14):=⟨rp,rU,hle,rm⟩
 obtain⟨S,hS⟩:∃ S,S=w.heap.size:=⟨_,rfl⟩
 rw[← hS]at bL ⊢
 have hz1':¬ ((m:Int)=0):=by omega
 have key:Calls Tryz.prog 38 #[.slice base n cap,.int .i64 n,.slice (some ⟨vb,0,none⟩) m vc] w fun e w'=>e=.returned (.slice (some ⟨S,0,none⟩) (n+m) G)∧w'=W1:=by
  clear rp rU hle hold hS mN rm eN wh rT oE hg hv hc hx Jt hX
  go_enter Tryz.func38,Tryz.ntmps38
  cases base with
  | none =>
    obtain rfl:=hnil rfl
    go_wp2_with (at_builtin;refine du rfl (iU rfl (by simp[Act.eval,Act.put];exact bL _)) ?_)
    go_ret
    exact⟨rfl,rfl⟩
  | some a =>
    obtain⟨ab,ao,asp⟩:=a
    go_wp2_with (at_builtin;refine du rfl (iU rfl (by simp[Act.eval,Act.put];exact bL _)) ?_)
    all_goals go_ret
    all_goals exact⟨rfl,rfl⟩
 refine key.mono ?_
 rintro e w' ⟨rfl,rfl⟩
 obtain⟨e1,e2,e3,e4⟩:=hX.out
 exact⟨G,(Builtin.zeroCells z.cells (G - (n+m))).toList,rfl,e2,e3,by rw[zNN,size_zeroCells,e4];omega,by rw[e1];congr 2;simp⟩
set_option maxRecDepth 1000000 in
theorem Da {g n cap k m vb vc:Nat}{c rest x restx:List Value}{fz fx:Nat × Nat}{w:World}(hg:w.heap[g]? = some (.cells (c++rest).toArray 43 fz))(hc:c.length=n * 14)(hk:k<n)(h1:∀ v∈c,v.oneCell'=true)
 (hm:0<m) (hncap:n≤cap) (gw:cap<n+m) (hbig:(n+m) * 500≤140737488355328) (hv:w.heap[vb]? = some (.cells (x++restx).toArray 43 fx)) (hx:x.length=m * 14) (Fa:∀ v∈x,v.oneCell'=true) :
 Calls Tryz.prog 38 #[.slice (some ⟨g,0,none⟩) n cap,.int .i64 k,.slice (some ⟨vb,0,none⟩) m vc] w fun e w'=>∃ cap' sp,e=.returned (.slice (some ⟨w.heap.size,0,none⟩) (n+m) cap')∧n+m≤cap'∧cap'≤maxLen∧(n+m) * 14+sp.length=cap' * 14∧Below w.heap.size w w'∧w'.heap.size=w.heap.size+1∧w'.heap[w.heap.size]? = some (.cells ((c.take (k * 14)++x++c.drop (k * 14))++sp).toArray 43 (0,0)):=by
 have mixed:=Tryz.V.mixed
 obtain⟨i0,z,rT,wh,eN,rm,mN,oE⟩:=iD
 have hu:Tryz.prog.underlying 22=some (.slice 43):=by kernel_rfl
 have hui:Tryz.prog.underlying 3=some (.int .i64):=by kernel_rfl
 have Jt:(n+m) * i0.bytes≤140737488355328:=zN2 (Nat.mul_le_mul_left _ oE) hbig
 have hgS:g<w.heap.size:=(zNR.1 hg).1
 have hvS:vb<w.heap.size:=(zNR.1 hv).1
 have IY:(c.take (k * 14)).length=k * 14:=by rw[zNw,hc];omega
 have rn:(c.drop (k * 14)).length=(n - k) * 14:=by rw[zNA,hc,Nat.sub_mul]
 have hkk:(n:Int)+(m:Int) - (k:Int)=((n+m - k:Nat):Int):=by omega
 have hik:k+(n+m - k)=n+m:=by omega
 have hold:(Builtin.firstCells i0.size k (.slice (some ⟨g,0,none⟩) k cap)).run Tryz.prog w.drew=.ok (c.take (k * 14)).toArray w.drew:=by
  rw[eN]
  exact run_firstCells_some w.drew 14 k ⟨g,0,none⟩ k cap (c.take (k * 14)) IY (gB (w:=w.drew) (show w.drew.heap[g]? = _ from hg) (fun j v hj=>by
   rw[List.getElem?_take]at hj
   split at hj
   ·rw[zN1,zND,zNz (zNt.1 hj).1];exact hj
   ·cases hj))
 have hrz:∀ ty,(Builtin.append_ #[22,3] ty #[.slice (some ⟨g,0,none⟩) k cap,.int .i64 ((n:Int)+(m:Int) - (k:Int))]).run Tryz.prog w=.ok (.slice (some ⟨w.heap.size,0,none⟩) (n+m) (grownCap w (n+m) cap 43)) (w.drew.alloc (.cells ((c.take (k * 14)).toArray++Builtin.zeroCells z.cells (n+m - k)++Builtin.zeroCells z.cells (grownCap w (n+m) cap 43 - (n+m))) 43)):=fun ty=>by
  have h:=Lib.run_append_grow_zeros w 22 3 ty 43 i0 _ .i64 .i64 hu hui rT wh (some ⟨g,0,none⟩) k cap (c.take (k * 14)) hold (n+m - k) (by omega) (by omega) (by omega) (by omega) (by have:(n+m - k) * i0.bytes≤(n+m) * i0.bytes:=zNU _ (by omega);omega) (by rw[hik];exact zN2 (growslice_fits gw Jt) (by omega))
  rw[hik]at h
  rw[hkk]
  exact h
 have rU:=grownCap_ge w (n+m) cap 43
 have hle:=grownCap_le_maxLen w (n+m) cap 43 (by unfold maxLen;omega)
 generalize grownCap w (n+m) cap 43=G at hrz rU hle
 obtain⟨Z,hZ⟩:∃ Z,Z=(Builtin.zeroCells z.cells (n+m - k)).toList++(Builtin.zeroCells z.cells (G - (n+m))).toList:=⟨_,rfl⟩
 have hZl:Z.length=(G - k) * 14:=by rw[hZ,zNu,zNN,zNN,size_zeroCells,size_zeroCells,rm];omega
 obtain⟨S,hS⟩:∃ S,S=w.heap.size:=⟨_,rfl⟩
 obtain⟨W1,rp⟩:∃ W1,W1=w.drew.alloc (.cells (c.take (k * 14)++Z).toArray 43):=⟨_,rfl⟩
 have hrz1:∀ ty,(Builtin.append_ #[22,3] ty #[.slice (some ⟨g,0,none⟩) k cap,.int .i64 ((n:Int)+(m:Int) - (k:Int))]).run Tryz.prog w=.ok (.slice (some ⟨S,0,none⟩) (n+m) G) W1:=fun ty=>by
  rw[hrz,rp,hZ,hS]
  congr 4
  apply Array.ext'
  simp
 have n1:W1.heap[S]? = some (.cells (c.take (k * 14)++Z).toArray 43 (0,0)):=by
  rw[rp,hS];exact cC w.drew _
 have o1:∀ j,j<S→W1.heap[j]? = w.heap[j]? := fun j hj=>by
  rw[rp];exact Jm w.drew _ (by show j<w.heap.size;omega)
 obtain⟨W2,Cl⟩:∃ W2,W2=W1.setRow S (c.take (k * 14)++x++Z.drop (m * 14)).toArray:=⟨_,rfl⟩
 obtain⟨W3,hW3⟩:∃ W3,W3=W2.drew.setRow S ((c.take (k * 14)++x++c.drop (k * 14))++Z.drop ((n+m - k) * 14)).toArray:=⟨_,rfl⟩
 have B1:(storeCells ⟨S,k * 14,none⟩ x).run Tryz.prog W1=.ok () W2:=by
  have:=bP (P:=Tryz.prog) S (k * 14) _ (0,0) x 0 _ W1 n1 (by simp;omega) (.inr (zNx _)) Fa
  rw[this,Cl]
  congr 2
  simp only[zNO,zN0]
  rw[xx IY hx]
 have n2:W2.heap[S]? = some (.cells (c.take (k * 14)++x++Z.drop (m * 14)).toArray 43 (0,0)):=by
  rw[Cl];exact setRow_heap _ _ _ _ _ _ n1
 have o2:∀ j,j<S→W2.heap[j]? = w.heap[j]? := fun j hj=>by
  rw[Cl,setRow_other _ _ _ _ (by omega)];exact o1 j hj
 have htx:(c.take (k * 14)++x).length=(k+m) * 14:=by rw[zNu,IY,hx];omega
 have hst3:(storeCells ⟨S,(k+m) * 14,none⟩ (c.drop (k * 14))).run Tryz.prog W2.drew=.ok () W3:=by
  have:=bP (P:=Tryz.prog) S ((k+m) * 14) _ (0,0) (c.drop (k * 14)) 0 _ W2.drew n2 (by simp;omega) (.inr (zNx _)) (fun v hv=>h1 v (List.mem_of_mem_drop hv))
  rw[this,hW3]
  congr 2
  simp only[zNO,zN0]
  rw[xx htx rn,zNZ,show m * 14+(n - k) * 14=(n+m - k) * 14 by omega]
 have n3:W3.heap[S]? = some (.cells ((c.take (k * 14)++x++c.drop (k * 14))++Z.drop ((n+m - k) * 14)).toArray 43 (0,0)):=by
  rw[hW3];exact setRow_heap _ _ _ _ _ _ n2
 have rZ:Below w.heap.size w W3:=by
  have sz:W3.heap.size=S+1:=by
   rw[hW3,setRow_size];show W2.heap.size=_
   rw[Cl,setRow_size,rp,size_alloc];show w.heap.size+1=_
   omega
  refine⟨?_,?_,?_,by omega,fun j hj=>?_⟩
  ·rw[hW3,setRow_os];show W2.os=_;rw[Cl,setRow_os,rp];rfl
  ·rw[hW3,setRow_tape];show W2.tape=_;rw[Cl,setRow_tape,rp];rfl
  ·rw[hW3,setRow_output];show W2.output=_;rw[Cl,setRow_output,rp];rfl
  ·rw[hW3,setRow_other _ _ _ _ (by omega)];exact o2 j (by omega)
 have sz3:W3.heap.size=S+1:=by
  rw[hW3,setRow_size];show W2.heap.size=_
  rw[Cl,setRow_size,rp,size_alloc];show w.heap.size+1=_
  omega
 have hcpA:∀ ty dc,(Builtin.copy_ #[22,22] ty #[.slice (some ⟨S,k * 14,none⟩) (n+m - k) dc,.slice (some ⟨vb,0,none⟩) m vc]).run Tryz.prog W1=.ok (goInt m) W2:=fun ty dc=>by
  have e:Nat.min m (n+m - k)=m:=by simp only[Nat.min_def];split <;> omega
  have:=ox (P:=Tryz.prog) W1 22 22 ty _ i0 hu rT S (k * 14) (n+m - k) dc ⟨vb,0,none⟩ m vc x (by rw[e,eN,hx]) (gB (w:=W1) ((o1 vb (by omega)).trans hv) (fun j v hj=>by
   rw[zN1,zND,zNz (zNt.1 hj).1];exact hj)) B1
  rw[this,e]
 have hcpB:∀ ty dc sc,(Builtin.copy_ #[22,22] ty #[.slice (some ⟨S,(k+m) * 14,none⟩) (n+m - (k+m)) dc,.slice (some ⟨g,k * 14,none⟩) (n - k) sc]).run Tryz.prog W2.drew=.ok (goInt ((n - k:Nat):Int)) W3:=fun ty dc sc=>by
  have e:Nat.min (n - k) (n+m - (k+m))=n - k:=by simp only[Nat.min_def];split <;> omega
  have:=ox (P:=Tryz.prog) W2.drew 22 22 ty _ i0 hu rT S ((k+m) * 14) (n+m - (k+m)) dc ⟨g,k * 14,none⟩ (n - k) sc (c.drop (k * 14)) (by rw[e,eN,rn]) (gB (w:=W2.drew) ((o2 g (by omega)).trans hg) (fun j v hj=>by
   rw[List.getElem?_drop]at hj
   rw[zND,zNz (zNt.1 hj).1];exact hj)) hst3
  rw[this,e]
 have fH:IntKind.i64.wrap ((k:Int)+(m:Int))=(k:Int)+(m:Int):=by rw[IntKind.wrap_i64];omega
 have kR:(0:Int)≤(k:Int)+(m:Int):=by omega
 have nW:k≤n:=by omega
 have htn:((k:Int)+(m:Int)).toNat=k+m:=by omega
 have hz1':¬ ((m:Int)=0):=by omega
 have hz2:¬ ((k:Int)=(n:Int)):=by omega
 have hz3:(cap:Int)<(n:Int)+(m:Int):=by omega
 have hG63:G≤9223372036854775807:=by unfold maxLen at hle;exact hle
 have hGi:¬ (G=k):=by omega
 have hGim:¬ (G=k+m):=by omega
 have hci:¬ (cap=k):=by omega
 have hX:Aside (n+m≤G∧G≤maxLen∧Z.length=(G - k) * 14∧Below w.heap.size w W3∧W3.heap.size=S+1∧W3.heap[S]? = some (.cells ((c.take (k * 14)++x++c.drop (k * 14))++Z.drop ((n+m - k) * 14)).toArray 43 (0,0))∧S=w.heap.size):=⟨rU,hle,hZl,rZ,sz3,n3,hS⟩
 rw[← hS]
 have key:Calls Tryz.prog 38 #[.slice (some ⟨g,0,none⟩) n cap,.int .i64 k,.slice (some ⟨vb,0,none⟩) m vc] w fun e w'=>e=.returned (.slice (some ⟨S,0,none⟩) (n+m) G)∧w'=W3:=by
  clear hX rZ sz3 n3 n2 n1 o1 o2 B1 hst3 rp Cl hW3 hrz hS hZ hZl rm eN wh rT oE mN hold Jt hkk hik IY rn htx hgS hvS hg hv hc h1 hx Fa hle
  go_enter Tryz.func38,Tryz.ntmps38
  go_wp2_with (first
   | (at_builtin;refine du rfl (iU rfl (by simp[Act.eval,Act.put];exact hrz1 _)) ?_)
   | (at_builtin;refine du rfl (oG rfl (by simp[Act.eval,Act.put];exact hcpA _ _)) ?_))
  go_region_law_o (refine rA rfl (oG rfl (by simp[Act.eval,Act.put];exact hcpB _ _ _)) ?_)
  go_wp2
  go_ret
  exact⟨rfl,rfl⟩
 refine key.mono ?_
 rintro e w' ⟨rfl,rfl⟩
 obtain⟨e1,e2,e3,e4,e5,e6,e7⟩:=hX.out
 exact⟨G,Z.drop ((n+m - k) * 14),rfl,e1,e2,by rw[zNA,e3];omega,by rw[e7];exact e4,e5,e6⟩
open Go Vc Go.RowKit Go.Lib Wf
theorem sc_InsN {bs:List ax}{q p n k:Nat}{c x:List SV}(hq:bs[q]? = some (.own c 43 14 n true))(hp:bs[p]? = some (.own x 43 14 1 true))(hqp:q≠p)(hk:k≤n)(hn:n≤1000000)(h1:c.all one=true)(Fa:x.all one=true) :
 SC Tryz.V 38 [.o q n,.int .i64 k,.o p 1] bs (fun r b=>r=.o bs.length (n+1)∧b=bs.set q .gone++[.own (c.take (k * 14)++x++c.drop (k * 14)) 43 14 (n+1) true]):=by
 refine EL (V:=Tryz.V) (f:=38) Tryz.call38 hq fun β fp w fQ hE=>?_
 have hh:=(fQ β (bw.refl _ _)).holds q _ hq
 have hhp:=(fQ β (bw.refl _ _)).holds p _ hp
 have hsep:=(fQ β (bw.refl _ _)).sep q p _ _ hq hp hqp (.inl rfl)
 have fI:=fun β' hβ=>oy (β':=β') fQ hβ hq
 have I2:=fun β' hβ=>oy (β':=β') fQ hβ hp
 have aB:∀ k,fp q k→k<w.heap.size:=(fQ β (bw.refl _ _)).lt q _ hq
 clear fQ hE
 rcases hhp with⟨-,h0,-⟩|⟨xc0,xnc,xcm,xcl,-,xm,xfp⟩
 ·exact absurd h0 (by omega)
 obtain⟨xoff,xrest,xfz,⟨xg,-⟩,xfz1,xcap⟩:=xm rfl
 have xl:(x.map (ah β)).length=1 * 14:=by simpa using xcl
 have xo:∀ v∈x.map (ah β),v.oneCell'=true:=fun v hv=>by
  obtain⟨y,hy,rfl⟩:=List.mem_map.1 hv
  exact fv (zNK.1 Fa y hy) β
 have co:∀ v∈c.map (ah β),v.oneCell'=true:=fun v hv=>by
  obtain⟨y,hy,rfl⟩:=List.mem_map.1 hv
  exact fv (zNK.1 h1 y hy) β
 have xfz2:(x.map (ah β)).length+xrest.length<xfz.1∨xfz.2≤xfz.1:=by simp;simp at xfz1;omega
 have xarg:ah β (.o p 1)=.slice (some ⟨(β p).cE,0,none⟩) 1 ((β p).cap - 1):=by simp[ah,oV,xc0,xoff]
 -- the new row's cells, wherever things lie
 have vw:∀ (b:Bt) (β':Nat→Bt),bw (bs.length+1) (mY β bs.length b) β'→(c.take (k * 14)++x++c.drop (k * 14)).map (ah β')=(c.map (ah β)).take (k * 14)++x.map (ah β)++(c.map (ah β)).drop (k * 14):=fun b β' hβ=>by
  rw[fI β' hβ.dy,I2 β' hβ.dy];simp
 -- a new row
 have hY:c.length=n * 14→∀ (cap':Nat) (sp:List Value) (w':World),n+1≤cap'→cap'≤maxLen→(n+1) * 14+sp.length=cap' * 14→Below w.heap.size w w'→w'.heap.size=w.heap.size+1→w'.heap[w.heap.size]? = some (.cells (((c.map (ah β)).take (k * 14)++x.map (ah β)++(c.map (ah β)).drop (k * 14))++sp).toArray 43 (0,0)) →
  ∃ (b2:Bt) (f2:Nat→Prop),(Value.slice (some ⟨w.heap.size,0,none⟩) (n+1) cap')=oV b2 (n+1)∧mW (fp q) w w' ∧
  (∀ β',bw (bs.length+1) (mY β bs.length b2) β'→Vc.Holds β' b2 f2 w' (.own (c.take (k * 14)++x++c.drop (k * 14)) 43 14 (n+1) true))∧∀ k,f2 k→(fp q k∨w.heap.size≤k)∧k<w'.heap.size:=fun dB cap' sp w' h1 h2 h3 h4 h5 h6=>by
  have gF:(c.take (k * 14)++x++c.drop (k * 14)).length=(n+1) * 14:=by
   rw[zNu,zNu,zNw,zNA,dB,xcl];omega
  refine⟨⟨w.heap.size,0,cap'+1⟩,(·=w.heap.size),by simp[oV],mW.jJ h4,fun β' hβ=>?_,?_⟩
  ·exact dF (rest:=sp) (fz:=(0,0)) (by rw[h6,vw _ β' hβ]) (.inr (.inl (zNx _))) gF h1 h2 (by rw[gF];exact h3)
  ·rintro k rfl
   exact⟨.inr (zNx _),by omega⟩
 have ig:(aG β [.o q n,.int .i64 k,.o p 1]).toArray=#[ah β (.o q n),.int .i64 k,.slice (some ⟨(β p).cE,0,none⟩) 1 ((β p).cap - 1)]:=by
  simp only[aG,xarg];simp[ah]
 rw[ig]
 rcases hh with⟨fR,rfl,rfl,hnf,hbk⟩|⟨fR,Jc,vu,dB,Jf,hm,qN⟩
 ·
  obtain rfl:k=0:=by omega
  have eV:=hbk rfl
  have e0:ah β (.o q 0)=.slice none 0 0:=by simp[ah,oV,fR,nJ,eV]
  rw[e0]
  have hx:=pg (base:=none) (n:=0) (cap:=0) (m:=1) (vb:=(β p).cE) (vc:=(β p).cap - 1) (c:=[]) (x:=x.map (ah β)) (by simp) (fun _=>rfl) rfl (by omega) (by omega) (by omega) (by omega) xg xl
  refine hx.mono ?_
  rintro ex w' ⟨cap',sp,rfl,g1,g2,g3,rfl⟩
  obtain⟨b2,f2,r1,r2,r3,r4⟩:=hY rfl cap' sp (w.drew.alloc (.cells (([]++x.map (ah β))++sp).toArray 43)) g1 g2 g3 (((Below.refl _ _).drew).alloc (zNx _) _) (by rw[size_alloc];rfl) (by
   have:=cC w.drew (.cells (([]++x.map (ah β))++sp).toArray 43)
   simpa using this)
  exact⟨b2,f2,by rw[← r1],r2,r3,r4⟩
 obtain⟨vk,rest,fz,⟨hg,-⟩,wo,kQ⟩:=hm rfl
 have e0:ah β (.o q n)=.slice (some ⟨(β q).cE,0,none⟩) n ((β q).cap - 1):=by simp[ah,oV,fR,vk]
 rw[e0]
 have hlen:(c.map (ah β)).length=n * 14:=by simpa using dB
 have Fl:(c.map (ah β)).length+rest.length=((β q).cap - 1) * 14:=by rw[hlen,← dB];exact kQ
 have hfz2:(c.map (ah β)).length+rest.length<fz.1∨fz.2≤fz.1:=by simp;simp at wo;omega
 have bn:(β p).cE≠(β q).cE:=fun e=>hsep (β q).cE ((qN _).2 rfl) ((xfp _).2 e.symm)
 have gF:(c.take (k * 14)++x++c.drop (k * 14)).length=(n+1) * 14:=by
  rw[zNu,zNu,zNw,zNA,dB,xcl];omega
 -- in place
 have nW:n+1≤(β q).cap - 1→∀ (qq:Nat),∃ (b2:Bt) (f2:Nat→Prop),(Value.slice (some ⟨(β q).cE,0,none⟩) (n+1) ((β q).cap - 1))=oV b2 (n+1)∧mW (fp q) w ((Sort.ahead w qq).setRow (β q).cE (((c.map (ah β)).take (k * 14)++x.map (ah β)++(c.map (ah β)).drop (k * 14))++rest.drop (1 * 14)).toArray) ∧
  (∀ β',bw (bs.length+1) (mY β bs.length b2) β'→Vc.Holds β' b2 f2 ((Sort.ahead w qq).setRow (β q).cE (((c.map (ah β)).take (k * 14)++x.map (ah β)++(c.map (ah β)).drop (k * 14))++rest.drop (1 * 14)).toArray) (.own (c.take (k * 14)++x++c.drop (k * 14)) 43 14 (n+1) true))∧∀ k',f2 k'→(fp q k'∨w.heap.size≤k')∧k'<((Sort.ahead w qq).setRow (β q).cE (((c.map (ah β)).take (k * 14)++x.map (ah β)++(c.map (ah β)).drop (k * 14))++rest.drop (1 * 14)).toArray).heap.size:=fun gw qq=>by
  refine⟨⟨(β q).cE,0,(β q).cap - 1+1⟩,(·=(β q).cE),by simp[oV],⟨rfl,rfl,rfl,by simp,fun k hk gx=>?_⟩,fun β' hβ=>?_,?_⟩
  ·rw[setRow_other _ _ _ _ (fun e=>gx ((qN k).2 e))];rfl
  ·refine dF (rest:=rest.drop (1 * 14)) (fz:=fz) ?_ ?_ gF gw vu ?_
   ·rw[setRow_heap _ _ _ _ _ _ (show (Sort.ahead w qq).heap[(β q).cE]? = _ from hg),vw _ β' hβ]
   ·rw[gF,zNA];rw[hlen]at Fl hfz2;omega
   ·rw[gF,zNA];rw[hlen]at Fl;omega
  ·rintro k rfl
   have:=aB _ ((qN _).2 rfl)
   exact⟨.inl ((qN _).2 rfl),by simpa using this⟩
 by_cases Hk:k=n
 ·subst Hk
  have et:(c.map (ah β)).take (k * 14)=c.map (ah β):=zNG (by omega)
  have ed:(c.map (ah β)).drop (k * 14)=[]:=zNC (by omega)
  by_cases gw:k+1≤(β q).cap - 1
  ·have hx:=FT (m:=1) (vc:=(β p).cap - 1) hg hfz2 hlen Fl vu (by omega) gw xg xl xo
   refine hx.mono ?_
   rintro ex w' ⟨rfl,qq,rfl⟩
   obtain⟨b2,f2,r1,r2,r3,r4⟩:=nW gw qq
   rw[et,ed,zNH]at r2 r3 r4
   exact⟨b2,f2,by rw[← r1],r2,r3,r4⟩
  ·have hx:=pg (base:=some ⟨(β q).cE,0,none⟩) (n:=k) (cap:=(β q).cap - 1) (m:=1) (vc:=(β p).cap - 1) (c:=c.map (ah β)) (x:=x.map (ah β)) (fun a ha=>by
    cases ha
    exact gB hg (fun j v hj=>by
     rw[zN1,zND,zNz (zNt.1 hj).1];exact hj)) (by simp) hlen (by omega) Jc (by omega) (by omega) xg xl
   refine hx.mono ?_
   rintro ex w' ⟨cap',sp,rfl,g1,g2,g3,rfl⟩
   obtain⟨b2,f2,r1,r2,r3,r4⟩:=hY dB cap' sp (w.drew.alloc (.cells ((c.map (ah β)++x.map (ah β))++sp).toArray 43)) g1 g2 g3 (((Below.refl _ _).drew).alloc (zNx _) _) (by rw[size_alloc];rfl) (by
    rw[et,ed,zNH]
    exact cC w.drew _)
   exact⟨b2,f2,by rw[← r1],r2,r3,r4⟩
 ·have ym:k<n:=by omega
  by_cases gw:n+1≤(β q).cap - 1
  ·have hx:=Aj (m:=1) (vc:=(β p).cap - 1) hg hfz2 hlen Fl ym co vu (by omega) gw xg xfz2 xl bn xo
   refine hx.mono ?_
   rintro ex w' ⟨rfl,qq,rfl⟩
   obtain⟨b2,f2,r1,r2,r3,r4⟩:=nW gw qq
   exact⟨b2,f2,by rw[← r1],r2,r3,r4⟩
  ·have hx:=Da (m:=1) (vc:=(β p).cap - 1) hg hlen ym co (by omega) Jc (by omega) (by omega) xg xl xo
   refine hx.mono ?_
   rintro ex w' ⟨cap',sp,rfl,g1,g2,g3,g4,g5,g6⟩
   obtain⟨b2,f2,r1,r2,r3,r4⟩:=hY dB cap' sp w' g1 g2 g3 g4 g5 g6
   exact⟨b2,f2,by rw[← r1],r2,r3,r4⟩
theorem Ga {bs:List ax}{p:Nat}{x:List SV}(hp:bs[p]? = some (.own x 43 14 1 true))(Fa:x.all one=true) :
 SC Tryz.V 38 [.aE,.int .i64 0,.o p 1] bs (fun r b=>r=.o bs.length 1∧b=bs++[.own x 43 14 1 true]):=by
 refine yJ (V:=Tryz.V) (f:=38) Tryz.call38 fun β fp w fQ hE=>?_
 have hhp:=(fQ β (bw.refl _ _)).holds p _ hp
 have I2:=fun β' hβ=>oy (β':=β') fQ hβ hp
 clear fQ hE
 rcases hhp with⟨-,h0,-⟩|⟨xc0,xnc,xcm,xcl,-,xm,xfp⟩
 ·exact absurd h0 (by omega)
 obtain⟨xoff,xrest,xfz,⟨xg,-⟩,xfz1,xcap⟩:=xm rfl
 have xl:(x.map (ah β)).length=1 * 14:=by simpa using xcl
 have xarg:ah β (.o p 1)=.slice (some ⟨(β p).cE,0,none⟩) 1 ((β p).cap - 1):=by simp[ah,oV,xc0,xoff]
 have ig:(aG β [.aE,.int .i64 0,.o p 1]).toArray=#[.slice none 0 0,.int .i64 (0:Nat),.slice (some ⟨(β p).cE,0,none⟩) 1 ((β p).cap - 1)]:=by
  simp only[aG,xarg];simp[ah]
 rw[ig]
 have hx:=pg (base:=none) (n:=0) (cap:=0) (m:=1) (vb:=(β p).cE) (vc:=(β p).cap - 1) (c:=[]) (x:=x.map (ah β)) (by simp) (fun _=>rfl) rfl (by omega) (by omega) (by omega) (by omega) xg xl
 refine hx.mono ?_
 rintro ex w' ⟨cap',sp,rfl,g1,g2,g3,rfl⟩
 refine⟨⟨w.heap.size,0,cap'+1⟩,(·=w.heap.size),by simp[oV],((Below.refl _ _).drew).alloc (zNx _) _,fun β' hβ=>?_,?_⟩
 ·refine dF (rest:=sp) (fz:=(0,0)) ?_ (.inr (.inl (zNx _))) xcl g1 g2 (by rw[xcl];exact g3)
  rw[← I2 β' hβ.dy]
  exact cC w.drew _
 ·rintro k rfl
  exact⟨zNx _,by rw[size_alloc];exact Nat.lt_succ_self _⟩
end Go.Proofs.YteipdaijbncgeaaGreatDoor
namespace Vc
open Go Go.RowKit Wf
def SU (V:Cx)(f:FuncId)(args:List SV)(bs:List ax)(R:SV→List ax→Prop):Prop:=∃ x b,R x b∧SC V f args bs (fun r b'=>r=x∧b'=b)
section
variable {V:Cx} {f:FuncId} {args:List SV} {bs:List ax} {R R':SV→List ax→Prop}
theorem SU.sc (h:SU V f args bs R):SC V f args bs R:=by
 obtain⟨x,b,hR,h⟩:=h
 exact h.mono (by rintro _ _ ⟨rfl,rfl⟩;exact hR)
theorem SU.mono (h:SU V f args bs R)(k:∀ x b,R x b→R' x b):SU V f args bs R':=by
 obtain⟨x,b,hR,h⟩:=h
 exact⟨x,b,k x b hR,h⟩
theorem SU.of {x:SV}{b:List ax}(h:SC V f args bs (fun r b'=>r=x∧b'=b))(k:R x b):SU V f args bs R:=⟨x,b,k,h⟩
end
inductive kF where
 | eP (ops:Array Oper) (l:List Oper) (rs:List Rk)
 | code (c:Code)
 | ops (ops:Array Oper) (l:List Oper)
 | lE (id:Nat)
 | dl (I:St→Prop) (μ:St→Nat) (m:Nat) (P:SV × List ax→St→Prop)
def base:List kF→List Item
 | []=>[]
 | .eP ops l rs::k=>.eP ops l rs::base k
 | .code c::k=>.code c::base k
 | .ops ops l::k=>.ops ops l::base k
 | .lE id::k=>.lE id::base k
 | .dl I μ m _::k=>.kS I μ m::base k
def inst (o:SV × List ax):List kF→List Item
 | []=>[]
 | .eP ops l rs::k=>.eP ops l rs::inst o k
 | .code c::k=>.code c::inst o k
 | .ops ops l::k=>.ops ops l::inst o k
 | .lE id::k=>.lE id::inst o k
 | .dl _ μ m P::k=>.kS (P o) μ m::inst o k
def okI (E:Fin)(D:List kF):Prop:=∀ I μ m P,kF.dl I μ m P∈D→∀ σ,I σ→μ σ<m→∃ o:SV × List ax,E.K o.1 o.2∧P o σ
def Eo (E:Fin)(o:SV × List ax):Fin:=⟨E.rs,fun r b=>r=o.1∧b=o.2,E.Ae,E.uni⟩
inductive CX:List Item→List Item→Prop where
 | nil:CX [] []
 | same (i:Item) {k k':List Item} (h:CX k k'):CX (i::k) (i::k')
 | kS {I I':St→Prop} (μ:St→Nat) (m:Nat) {k k':List Item} (hI:∀ σ,I σ→I' σ) (h:CX k k'):CX (.kS I μ m::k) (.kS I' μ m::k')
theorem CX.refl:∀ k,CX k k
 | []=>.nil
 | i::k=>.same i (CX.refl k)
theorem CX.exit {id:Nat}:∀ {k k' q:List Item},CX k k'→XE id k=some q→∃ q',XE id k'=some q'∧CX q q'
 | _,_,q,.nil,h=>by simp[XE]at h
 | _,_,q,.same i h,e=>by
   cases i
   case lE id' =>
    simp only[XE]at e ⊢
    split at e
    ·cases e
     rename_i hh
     rw[if_pos hh]
     exact⟨_,rfl,h⟩
    ·rename_i hh
     rw[if_neg hh]
     exact CX.exit h e
   all_goals
    simp only[XE]at e ⊢
    exact CX.exit h e
 | _,_,q,.kS μ m hI h,e=>by
   simp only[XE]at e ⊢
   exact CX.exit h e
section
variable {V:Cx} {n:Nat}
theorem yA {E:Fin}{f:Nat}{ops:Array Oper}{r:List Oper}{k k':List Item}(H:∀ σ,bu V n E f (.ops ops r::k) σ→bu V n E f (.ops ops r::k') σ){s:fD}(h:Yc V n E f ops r k s):Yc V n E f ops r k' s:=by
 cases s <;> simp only[Yc]at h ⊢
 ·exact⟨h.1,H _ h.2⟩
 ·unfold lH at h ⊢
  rcases h with⟨x,h1,h2⟩|⟨R,h1,h3,h2⟩
  ·exact .inl ⟨x,h1,H _ h2⟩
  ·exact .inr ⟨R,h1,h3,fun x b hR=>H _ (h2 x b hR)⟩
theorem yC {E:Fin}{f:Nat}{ops:Array Oper}{r:List Oper}{rs:List Rk}{k k':List Item}(H:∀ rs σ,bu V n E f (.eP ops r rs::k) σ→bu V n E f (.eP ops r rs::k') σ){dst:Option Tmp}{σ:St}{s:iY}(h:Yg V n E f ops r rs k dst σ s):Yg V n E f ops r rs k' dst σ s:=by
 cases s with
 | bad=>simp only[Yg]at h
 | val c r =>
   obtain⟨x,nb,all,rd,wr⟩:=r
   cases nb <;> simp only[Yg]at h ⊢ <;> exact⟨h.1,H _ _ h.2⟩
 | call g args =>
   simp only[Yg]at h ⊢
   unfold lI at h ⊢
   rcases h with⟨x,h1,h2⟩|⟨x,b,h1,h2⟩|⟨x,b,W,h1,h2,h3⟩
   ·exact .inl ⟨x,h1,H _ _ h2⟩
   ·exact .inr (.inl ⟨x,b,h1,H _ _ h2⟩)
   ·exact .inr (.inr ⟨x,b,W,h1,h2,H _ _ h3⟩)
theorem rq {E:Fin}:∀ (f:Nat){k k':List Item}{σ:St},E.uni=true→CX k k'→(∀ i∈k,(∃ J,i=.cut J)∨(∃ a b c,i=.fS a b c)→False)→bu V n E f k σ→bu V n E f k' σ
 | 0,k,k',σ,_,_,_,h=>by cases k <;> simp[bu]at h
 | f+1,_,_,σ,_,.nil,_,h=>h
 | f+1,_,_,σ,_,.kS μ m hI hk,_,h=>by
   simp only[bu]at h ⊢
   exact⟨hI _ h.1,h.2⟩
 | f+1,_,_,σ,hu,.same (k:=k) (k':=k') i hk,gx,h=>by
   have hno':∀ i∈k,(∃ J,i=.cut J)∨(∃ a b c,i=.fS a b c)→False:=fun i hi=>gx i (zNF _ hi)
   have H0:∀ σ,bu V n E f k σ→bu V n E f k' σ:=fun σ h=>rq f hu hk hno' h
   have H1:∀ i σ,((∃ J,i=.cut J)∨(∃ a b c,i=.fS a b c)→False)→bu V n E f (i::k) σ→bu V n E f (i::k') σ:=fun i σ hi h=>rq f hu (.same i hk) (by
    intro j hj
    rcases zNS.1 hj with rfl|hj
    ·exact hi
    ·exact hno' j hj) h
   have H2:∀ i j σ,((∃ J,i=.cut J)∨(∃ a b c,i=.fS a b c)→False)→((∃ J,j=.cut J)∨(∃ a b c,j=.fS a b c)→False)→bu V n E f (i::j::k) σ→bu V n E f (i::j::k') σ:=fun i j σ hi hj h=>rq f hu (.same i (.same j hk)) (by
    intro q hq
    rcases zNS.1 hq with rfl|hq
    ·exact hi
    ·rcases zNS.1 hq with rfl|hq
     ·exact hj
     ·exact hno' q hq) h
   cases i with
   | fS a b c=>exact(gx _ List.mem_cons_self (.inr ⟨a,b,c,rfl⟩)).elim
   | cut J=>exact(gx _ List.mem_cons_self (.inl ⟨J,rfl⟩)).elim
   | lE id=>simp only[bu]at h ⊢;exact H0 _ h
   | kS I μ m=>simp only[bu]at h ⊢;exact h
   | ops ops l =>
     match l with
     | []=>simp only[bu]at h ⊢;exact H0 _ h
     | ⟨dst,op,ty,pos,after,none⟩::r =>
       simp only[bu]at h ⊢
       exact⟨h.1,yA (fun σ h=>H1 _ _ (by rintro(⟨_,h⟩|⟨_,_,_,h⟩) <;> cases h) h) h.2⟩
     | ⟨dst,op,ty,pos,after,some (j,want)⟩::r =>
       simp only[bu]at h ⊢
       refine⟨h.1,?_⟩
       have h:=h.2
       have HC:∀ σ,bu V n E f (.ops ops r::k) σ→bu V n E f (.ops ops r::k') σ:=fun σ h=>H1 _ _ (by rintro(⟨_,h⟩|⟨_,_,_,h⟩) <;> cases h) h
       cases hg:Yk σ.t (eX ops.toList j) with
       | some p =>
         obtain⟨d,b⟩:=p
         rw[hg]at h
         simp only[XA,XG]at h ⊢
         exact⟨h.1,fun e=>yA HC (h.2.1 e),fun e=>HC _ (h.2.2 e)⟩
       | none =>
         rw[hg]at h
         cases Jj:Ft σ.t (eX ops.toList j) with
         | true=>rw[Jj]at h;simp only[XA]at h ⊢;exact HC _ h
         | false=>rw[Jj]at h;simp[XA]at h
   | eP ops l rs =>
     match l with
     | []=>simp only[bu]at h ⊢;exact⟨h.1,H0 _ h.2⟩
     | ⟨dst,op,ty,pos,after,none⟩::r =>
       simp only[bu]at h ⊢
       exact⟨h.1,yC (fun rs σ h=>H1 _ _ (by rintro(⟨_,h⟩|⟨_,_,_,h⟩) <;> cases h) h) h.2⟩
     | ⟨dst,op,ty,pos,after,some (j,want)⟩::r =>
       simp only[bu]at h ⊢
       refine⟨h.1,?_⟩
       have h:=h.2
       have HC:∀ rs σ,bu V n E f (.eP ops r rs::k) σ→bu V n E f (.eP ops r rs::k') σ:=fun rs σ h=>H1 _ _ (by rintro(⟨_,h⟩|⟨_,_,_,h⟩) <;> cases h) h
       cases hg:Yk σ.t (eX ops.toList j) with
       | some p =>
         obtain⟨d,b⟩:=p
         rw[hg]at h
         simp only[Xy,XG]at h ⊢
         exact⟨h.1,fun e=>yC HC (h.2.1 e),fun e=>HC _ _ (h.2.2 e)⟩
       | none =>
         rw[hg]at h
         cases Jj:Ft σ.t (eX ops.toList j) with
         | true=>rw[Jj]at h;simp only[Xy]at h ⊢;exact HC _ _ h
         | false=>rw[Jj]at h;simp[Xy]at h
   | code c =>
     have nc:∀ c:Code,((∃ J,Item.code c=.cut J)∨(∃ a b d,Item.code c=.fS a b d)→False):=by
      rintro c (⟨_,h⟩|⟨_,_,_,h⟩) <;> cases h
     cases c with
     | skip=>simp only[bu]at h ⊢;exact H0 _ h
     | region id ops draw =>
       cases draw
       ·simp only[bu]at h ⊢
        exact H1 _ _ (by rintro(⟨_,h⟩|⟨_,_,_,h⟩) <;> cases h) h
       ·simp only[bu]at h ⊢
        cases hw:E.Ae id with
        | all t=>rw[hw]at h;simp only[yV,hu]at h;exact absurd h.1 (by simp)
        | ord p =>
          rw[hw]at h
          simp only[yV]at h ⊢
          exact⟨h.1,H1 _ _ (by rintro(⟨_,h⟩|⟨_,_,_,h⟩) <;> cases h) h.2⟩
     | seq x y=>simp only[bu]at h ⊢;exact H2 _ _ _ (nc _) (nc _) h
     | cond c x y =>
       simp only[bu]at h ⊢
       cases hb:ev σ.t c with
       | none=>rw[hb]at h;simp[XN]at h
       | some v =>
         rw[hb]at h
         cases v <;> simp only[XN,XQ]at h ⊢
         exact⟨fun e=>H1 _ _ (nc _) (h.1 e),fun e=>H1 _ _ (nc _) (h.2 e)⟩
     | block id x=>simp only[bu]at h ⊢;exact H2 _ _ _ (nc _) (by rintro(⟨_,h⟩ | ⟨_,_,_,h⟩) <;> cases h) h
     | loop x =>
       simp only[bu,uQ]at h ⊢
       obtain⟨I,μ,h0,h1⟩:=h
       exact⟨I,μ,h0,fun σ' hi=>H2 _ _ _ (nc _) (by rintro(⟨_,h⟩|⟨_,_,_,h⟩) <;> cases h) (h1 σ' hi)⟩
     | exit id =>
       simp only[bu]at h ⊢
       cases hx:XE id k with
       | none=>rw[hx]at h;simp[XO]at h
       | some q =>
         obtain⟨q',hq,hle⟩:=hk.exit hx
         rw[hx]at h
         rw[hq]
         simp only[XO]at h ⊢
         refine rq f hu hle (fun i hi=>hno' i ?_) h
         exact vB hx i hi
     | ret=>simp only[bu]at h ⊢;exact h
     | _=>simp[bu]at h
where vB {id:Nat}:∀ {k q:List Item},XE id k=some q→∀ i∈q,i∈k
 | [],_,h=>by simp[XE]at h
 | i::k,q,h=>by
   cases i
   case lE id' =>
    simp only[XE]at h
    split at h
    ·cases h;exact fun i hi=>zNF _ hi
    ·exact fun i hi=>zNF _ (vB h i hi)
   all_goals
    simp only[XE]at h
    exact fun i hi=>zNF _ (vB h i hi)
theorem okI.cons {E:Fin}{D:List kF}(h:okI E D)(i:kF)(hi:∀ I μ m P,i≠.dl I μ m P):okI E (i::D):=fun I μ m P hm=>by
 rcases zNS.1 hm with e|hm
 ·exact absurd e.symm (hi _ _ _ _)
 ·exact h I μ m P hm
theorem okI.tail {E:Fin}{D:List kF}{i:kF}(h:okI E (i::D)):okI E D:=fun I μ m P hm=>h I μ m P (zNF _ hm)
theorem E5 (o:SV × List ax):∀ (D:List kF),∀ i∈inst o D,(∃ J,i=Item.cut J)∨(∃ a b c,i=.fS a b c)→False
 | [],i,h=>by simp[inst]at h
 | d::D,i,h=>by
   cases d <;> simp only[inst]at h <;> (
    rcases zNS.1 h with e0|h0
    ·subst e0
     rintro(⟨_,e⟩|⟨_,_,_,e⟩) <;> cases e
    ·exact E5 o D i h0)
theorem sh {id:Nat}:∀ {D:List kF}{q:List Item},XE id (base D)=some q→∃ D',q=base D'∧(∀ o,XE id (inst o D)=some (inst o D'))∧∀ i∈D',i∈D
 | [],_,h=>by simp[base,XE]at h
 | d::D,q,h=>by
   cases d
   case lE id' =>
    simp only[base,XE]at h
    split at h
    ·rename_i hh
     cases h
     exact⟨D,rfl,fun o=>by simp[inst,XE,hh],fun i hi=>zNF _ hi⟩
    ·rename_i hh
     obtain⟨D',h1,h2,h3⟩:=sh h
     exact⟨D',h1,fun o=>by simp only[inst,XE,if_neg hh];exact h2 o,fun i hi=>zNF _ (h3 i hi)⟩
   all_goals
    simp only[base,XE]at h
    obtain⟨D',h1,h2,h3⟩:=sh h
    exact⟨D',h1,fun o=>by simp only[inst,XE];exact h2 o,fun i hi=>zNF _ (h3 i hi)⟩
def G7 (V:Cx)(n:Nat)(E:Fin)(f:Nat)(D:List kF)(σ:St):Prop:=∃ o:SV × List ax,E.K o.1 o.2∧bu V n (Eo E o) f (inst o D) σ
theorem yz {E:Fin}(hu:E.uni=true){f:Nat}{ops:Array Oper}{r:List Oper}{D:List kF}(H:∀ σ,bu V n E f (.ops ops r::base D) σ→G7 V n E f (.ops ops r::D) σ){s:fD}(h:Yc V n E f ops r (base D) s) :
 ∃ o:SV × List ax,E.K o.1 o.2∧Yc V n (Eo E o) f ops r (inst o D) s:=by
 cases s <;> simp only[Yc]at h ⊢
 ·obtain⟨o,h1,h2⟩:=H _ h.2
  exact⟨o,h1,h.1,h2⟩
 ·unfold lH at h
  rcases h with⟨x,h1,h2⟩|⟨R,h1,h3,h2⟩
  ·obtain⟨o,k1,k2⟩:=H _ h2
   exact⟨o,k1,by unfold lH;exact .inl ⟨x,h1,k2⟩⟩
  ·obtain⟨x,b,hR,h4⟩:=h3 hu
   obtain⟨o,k1,k2⟩:=H _ (h2 x b hR)
   exact⟨o,k1,by unfold lH;exact .inr ⟨_,h4,fun _=>⟨x,b,⟨rfl,rfl⟩,h4⟩,by rintro _ _ ⟨rfl,rfl⟩;exact k2⟩⟩
theorem yB {E:Fin}{f:Nat}{ops:Array Oper}{r:List Oper}{rs:List Rk}{D:List kF}(H:∀ rs σ,bu V n E f (.eP ops r rs::base D) σ→G7 V n E f (.eP ops r rs::D) σ){dst:Option Tmp}{σ:St}{s:iY}(h:Yg V n E f ops r rs (base D) dst σ s) :
 ∃ o:SV × List ax,E.K o.1 o.2∧Yg V n (Eo E o) f ops r rs (inst o D) dst σ s:=by
 cases s with
 | bad=>simp only[Yg]at h
 | val c r =>
   obtain⟨x,nb,all,rd,wr⟩:=r
   cases nb <;> simp only[Yg]at h ⊢ <;> obtain⟨o,k1,k2⟩:=H _ _ h.2 <;> exact⟨o,k1,h.1,k2⟩
 | call g args =>
   simp only[Yg]at h ⊢
   unfold lI at h
   rcases h with⟨x,h1,h2⟩|⟨x,b,h1,h2⟩|⟨x,b,W,h1,h2,h3⟩
   ·obtain⟨o,k1,k2⟩:=H _ _ h2
    exact⟨o,k1,by unfold lI;exact .inl ⟨x,h1,k2⟩⟩
   ·obtain⟨o,k1,k2⟩:=H _ _ h2
    exact⟨o,k1,by unfold lI;exact .inr (.inl ⟨x,b,h1,k2⟩)⟩
   ·obtain⟨o,k1,k2⟩:=H _ _ h3
    exact⟨o,k1,by unfold lI;exact .inr (.inr ⟨x,b,W,h1,h2,k2⟩)⟩
theorem HB {E:Fin}(hu:E.uni=true):∀ (f:Nat)(D:List kF)(σ:St),okI E D→bu V n E f (base D) σ→G7 V n E f D σ
 | 0,D,σ,_,h=>by cases hD:base D <;> rw[hD]at h <;> simp[bu]at h
 | f+1,D,σ,bZ,h=>by
   have ih:=HB hu f
   match D,bZ,h with
   | [],bZ,h =>
     simp only[base,bu]at h
     cases hl:XT V σ E.rs with
     | none=>rw[hl]at h;simp[si]at h
     | some l =>
       rw[hl]at h
       refine⟨(rz l,σ.b),h,?_⟩
       simp only[inst,bu,Eo,hl,si]
       first|exact⟨rfl,rfl⟩|exact⟨trivial,trivial⟩
   | .lE id::D,bZ,h =>
     simp only[base,bu]at h
     obtain⟨o,k1,k2⟩:=ih D σ bZ.tail h
     exact⟨o,k1,by simp only[inst,bu];exact k2⟩
   | .dl I μ m P::D,bZ,h =>
     simp only[base,bu]at h
     obtain⟨o,k1,k2⟩:=bZ I μ m P List.mem_cons_self σ h.1 h.2
     exact⟨o,k1,by simp only[inst,bu];exact⟨k2,h.2⟩⟩
   | .ops ops l::D,bZ,h =>
     have qM:=bZ.tail
     have HC:∀ r σ,bu V n E f (.ops ops r::base D) σ→G7 V n E f (.ops ops r::D) σ:=fun r σ h=>ih (.ops ops r::D) σ (qM.cons _ (by intros;intro e;cases e)) h
     match l with
     | [] =>
       simp only[base,bu]at h
       obtain⟨o,k1,k2⟩:=ih D σ qM h
       exact⟨o,k1,by simp only[inst,bu];exact k2⟩
     | ⟨dst,op,ty,pos,after,none⟩::r =>
       simp only[base,bu]at h
       obtain⟨o,k1,k2⟩:=yz hu (HC r) h.2
       exact⟨o,k1,by simp only[inst,bu];exact⟨h.1,k2⟩⟩
     | ⟨dst,op,ty,pos,after,some (j,want)⟩::r =>
       simp only[base,bu]at h
       have bX:=h.1
       have h:=h.2
       suffices hs:∃ o:SV × List ax,E.K o.1 o.2∧XA V n (Eo E o) f ops dst op want r (inst o D) σ (Yk σ.t (eX ops.toList j)) (Ft σ.t (eX ops.toList j)) by
        obtain⟨o,k1,k2⟩:=hs
        exact⟨o,k1,by simp only[inst,bu];exact⟨bX,k2⟩⟩
       cases hg:Yk σ.t (eX ops.toList j) with
       | some p =>
         obtain⟨d,b⟩:=p
         rw[hg]at h
         simp only[XA,XG]at h ⊢
         by_cases hb:b=want
         ·obtain⟨o,k1,k2⟩:=yz hu (HC r) (h.2.1 hb)
          exact⟨o,k1,h.1,fun _=>k2,fun e=>by rw[hb]at e;cases want <;> cases e⟩
         ·have hb':b=!want:=by cases b <;> cases want <;> simp at hb ⊢
          obtain⟨o,k1,k2⟩:=HC r _ (h.2.2 hb')
          exact⟨o,k1,h.1,fun e=>absurd e hb,fun _=>k2⟩
       | none =>
         rw[hg]at h
         cases Jj:Ft σ.t (eX ops.toList j) with
         | true=>rw[Jj]at h;simp only[XA]at h ⊢;exact HC r _ h
         | false=>rw[Jj]at h;simp[XA]at h
   | .eP ops l rs::D,bZ,h =>
     have qM:=bZ.tail
     have HC:∀ r rs σ,bu V n E f (.eP ops r rs::base D) σ→G7 V n E f (.eP ops r rs::D) σ:=fun r rs σ h=>ih (.eP ops r rs::D) σ (qM.cons _ (by intros;intro e;cases e)) h
     match l with
     | [] =>
       simp only[base,bu]at h
       obtain⟨o,k1,k2⟩:=ih D σ qM h.2
       exact⟨o,k1,by simp only[inst,bu];exact⟨h.1,k2⟩⟩
     | ⟨dst,op,ty,pos,after,none⟩::r =>
       simp only[base,bu]at h
       obtain⟨o,k1,k2⟩:=yB (HC r) h.2
       exact⟨o,k1,by simp only[inst,bu];exact⟨h.1,k2⟩⟩
     | ⟨dst,op,ty,pos,after,some (j,want)⟩::r =>
       simp only[base,bu]at h
       have bX:=h.1
       have h:=h.2
       suffices hs:∃ o:SV × List ax,E.K o.1 o.2∧Xy V n (Eo E o) f ops dst op want r rs (inst o D) σ (Yk σ.t (eX ops.toList j)) (Ft σ.t (eX ops.toList j)) by
        obtain⟨o,k1,k2⟩:=hs
        exact⟨o,k1,by simp only[inst,bu];exact⟨bX,k2⟩⟩
       cases hg:Yk σ.t (eX ops.toList j) with
       | some p =>
         obtain⟨d,b⟩:=p
         rw[hg]at h
         simp only[Xy,XG]at h ⊢
         by_cases hb:b=want
         ·obtain⟨o,k1,k2⟩:=yB (HC r) (h.2.1 hb)
          exact⟨o,k1,h.1,fun _=>k2,fun e=>by rw[hb]at e;cases want <;> cases e⟩
         ·have hb':b=!want:=by cases b <;> cases want <;> simp at hb ⊢
          obtain⟨o,k1,k2⟩:=HC r _ _ (h.2.2 hb')
          exact⟨o,k1,h.1,fun e=>absurd e hb,fun _=>k2⟩
       | none =>
         rw[hg]at h
         cases Jj:Ft σ.t (eX ops.toList j) with
         | true=>rw[Jj]at h;simp only[Xy]at h ⊢;exact HC r _ _ h
         | false=>rw[Jj]at h;simp[Xy]at h
   | .code c::D,bZ,h =>
     have qM:=bZ.tail
     have HC:∀ c σ,bu V n E f (.code c::base D) σ→G7 V n E f (.code c::D) σ:=fun c σ h=>ih (.code c::D) σ (qM.cons _ (by intros;intro e;cases e)) h
     cases c with
     | skip =>
       simp only[base,bu]at h
       obtain⟨o,k1,k2⟩:=ih D σ qM h
       exact⟨o,k1,by simp only[inst,bu];exact k2⟩
     | region id ops draw =>
       cases draw
       ·simp only[base,bu]at h
        obtain⟨o,k1,k2⟩:=ih (.ops ops ops.toList::D) σ (qM.cons _ (by intros;intro e;cases e)) h
        exact⟨o,k1,by simp only[inst,bu];exact k2⟩
       ·simp only[base,bu]at h
        cases hw:E.Ae id with
        | all t=>rw[hw]at h;simp only[yV,hu]at h;exact absurd h.1 (by simp)
        | ord p =>
          rw[hw]at h
          simp only[yV]at h
          obtain⟨o,k1,k2⟩:=ih (.eP (nA ops p) (nA ops p).toList []::D) σ (qM.cons _ (by intros;intro e;cases e)) h.2
          refine⟨o,k1,?_⟩
          simp only[inst,bu,Eo,hw,yV]
          exact⟨h.1,k2⟩
     | seq x y =>
       simp only[base,bu]at h
       obtain⟨o,k1,k2⟩:=ih (.code x::.code y::D) σ ((qM.cons _ (by intros;intro e;cases e)).cons _ (by intros;intro e;cases e)) h
       exact⟨o,k1,by simp only[inst,bu];exact k2⟩
     | cond c x y =>
       simp only[base,bu]at h
       suffices hs:∃ o:SV × List ax,E.K o.1 o.2∧XN V n (Eo E o) f x y (inst o D) σ (ev σ.t c) by
        obtain⟨o,k1,k2⟩:=hs
        exact⟨o,k1,by simp only[inst,bu];exact k2⟩
       cases hb:ev σ.t c with
       | none=>rw[hb]at h;simp[XN]at h
       | some v =>
         rw[hb]at h
         cases v <;> simp only[XN,XQ]at h ⊢
         rename_i b
         cases b
         ·obtain⟨o,k1,k2⟩:=HC y σ (h.2 rfl)
          exact⟨o,k1,fun e=>(by cases e),fun _=>k2⟩
         ·obtain⟨o,k1,k2⟩:=HC x σ (h.1 rfl)
          exact⟨o,k1,fun _=>k2,fun e=>(by cases e)⟩
     | block id x =>
       simp only[base,bu]at h
       obtain⟨o,k1,k2⟩:=ih (.code x::.lE id::D) σ ((qM.cons _ (by intros;intro e;cases e)).cons _ (by intros;intro e;cases e)) h
       exact⟨o,k1,by simp only[inst,bu];exact k2⟩
     | loop x =>
       simp only[base,bu,uQ]at h
       obtain⟨I,μ,h0,h1⟩:=h
       let H:SV × List ax→St→Prop:=fun o σ=>∃ S:St→Prop,S σ∧∀ σ',S σ'→bu V n (Eo E o) f (.code x::.kS S μ (μ σ')::inst o D) σ'
       have key:∀ m σ,μ σ=m→I σ→∃ o:SV × List ax,E.K o.1 o.2∧H o σ:=by
        intro m
        induction m using Nat.strongRecOn with
        | _ m ihm =>
        intro σ hm hi
        obtain⟨o,k1,k2⟩:=ih (.code x::.dl I μ (μ σ) (fun o σ2=>I σ2∧H o σ2)::D) σ (by
         refine okI.cons (fun I' μ' m' P wY=>?_) _ (by intros;intro e;cases e)
         rcases zNS.1 wY with e|wY
         ·cases e
          intro σ2 GD aB
          obtain⟨o,k1,k2⟩:=ihm (μ σ2) (by omega) σ2 rfl GD
          exact⟨o,k1,GD,k2⟩
         ·exact qM I' μ' m' P wY) (h1 σ hi)
        have gx:∀ (S:St→Prop) m,∀ i∈(.code x::.kS S μ m::inst o D:List Item),(∃ J,i=Item.cut J)∨(∃ a b c,i=.fS a b c)→False:=fun S m i hi=>by
         rcases zNS.1 hi with rfl|hi
         ·rintro(⟨_,e⟩|⟨_,_,_,e⟩) <;> cases e
         ·rcases zNS.1 hi with rfl|hi
          ·rintro(⟨_,e⟩|⟨_,_,_,e⟩) <;> cases e
          ·exact E5 o D i hi
        refine⟨o,k1,fun σ'=>σ'=σ∨H o σ',.inl rfl,?_⟩
        rintro σ' (rfl|⟨S,hS,aR⟩)
        ·exact rq f (E:=Eo E o) hu (.same _ (.kS μ _ (fun σ2 h2=>.inr h2.2) (CX.refl _))) (gx _ _) k2
        ·exact rq f (E:=Eo E o) hu (.same _ (.kS μ _ (fun σ2 h2=>.inr ⟨S,h2,aR⟩) (CX.refl _))) (gx _ _) (aR σ' hS)
       obtain⟨o,k1,S,k2,k3⟩:=key _ σ rfl h0
       exact⟨o,k1,by simp only[inst,bu,uQ];exact⟨S,μ,k2,k3⟩⟩
     | exit id =>
       simp only[base,bu]at h
       cases hx:XE id (base D) with
       | none=>rw[hx]at h;simp[XO]at h
       | some q =>
         obtain⟨D',rfl,h2,h3⟩:=sh hx
         rw[hx]at h
         simp only[XO]at h
         obtain⟨o,k1,k2⟩:=ih D' σ (fun I μ m P hm=>qM I μ m P (h3 _ hm)) h
         exact⟨o,k1,by simp only[inst,bu,h2 o,XO];exact k2⟩
     | ret =>
       simp only[base,bu]at h
       cases hl:XT V σ E.rs with
       | none=>rw[hl]at h;simp[si]at h
       | some l =>
         rw[hl]at h
         refine⟨(rz l,σ.b),h,?_⟩
         simp only[inst,bu,Eo,hl,si]
         first|exact⟨rfl,rfl⟩|exact⟨trivial,trivial⟩
     | _=>simp[base,bu]at h
theorem su_ofP (Ae:Nat→How){f:FuncId}{fn:Func}{c:Code}{args:List SV}{bs:List ax}{R:SV→List ax→Prop}{n:Nat}{rs:Array ResultVar}(fuel:Nat)(hf:V.P.funcs[f]? = some fn)(hb:fn.body=some c)(hn:fn.ntmps=n)(hr:fn.results=rs)(jf:Enters V f)
 (hlen:args.length≤n) (iM:∀ β β',bw bs.length β β'→aG β args=aG β' args) (h:bu V n ⟨rs.toList,R,Ae,true⟩ fuel [.code c] ⟨Yj 0 args,bs⟩):SU V f args bs R:=by
 obtain⟨o,k1,k2⟩:=HB (E:=⟨rs.toList,R,Ae,true⟩) rfl fuel [.code c] ⟨Yj 0 args,bs⟩ (fun I μ m P hm=>by simp at hm) h
 exact⟨o.1,o.2,k1,HV true Ae fuel hf hb hn hr jf hlen iM k2⟩
theorem HM {f:FuncId}{fn:Func}{c:Code}{args:List SV}{bs:List ax}{R:SV→List ax→Prop}{n:Nat}{rs:Array ResultVar}(fuel:Nat)(hf:V.P.funcs[f]? = some fn)(hb:fn.body=some c)(hn:fn.ntmps=n)(hr:fn.results=rs)(jf:Enters V f)
 (hlen:args.length≤n) (iM:∀ β β',bw bs.length β β'→aG β args=aG β' args) (h:bu V n ⟨rs.toList,R,fun _=>.ord [],true⟩ fuel [.code c] ⟨Yj 0 args,bs⟩):SU V f args bs R :=
 su_ofP (fun _=>.ord []) fuel hf hb hn hr jf hlen iM h
theorem bd {E:Fin}{f:Nat}{A B:Code}{k:List Item}{σ0:St}(g:Nat)(J:St→Prop)(h1:∀ m σ,J σ→bu V n E (m+g) (.code B::k) σ)(h2:∀ k',(∀ m σ,J σ→bu V n E (m+g) k' σ)→bu V n E f (.code A::k') σ0):bu V n E (f+1) (.code (.seq A B)::k) σ0:=by
 simp only[bu]
 exact h2 _ h1
theorem CO {E:Fin}{n f:Nat}{ops:Array Oper}{r:List Oper}{k:List Item}{g:FuncId}{args:List SV}{dst:Option Tmp}{σ:St}{R:SV→List ax→Prop}(h:SU V g args σ.b R)(h2:∀ x bs,R x bs→bu V n E f (.ops ops r::k) ⟨put dst x σ.t,bs⟩):lH V n E f ops r k g args dst σ:=by
 unfold lH;exact .inr ⟨R,h.sc,fun _=>h,h2⟩
theorem gX {E:Fin}{n f:Nat}{ops:Array Oper}{r:List Oper}{k:List Item}{g:FuncId}{args:List SV}{dst:Option Tmp}{σ:St}{x:SV}{b:List ax}(h:SC V g args σ.b (fun r b'=>r=x∧b'=b))(h2:∀ y bs,y=x∧bs=b→bu V n E f (.ops ops r::k) ⟨put dst y σ.t,bs⟩):lH V n E f ops r k g args dst σ :=
 CO ⟨x,b,⟨rfl,rfl⟩,h⟩ h2
end
end Vc
namespace Go.Proofs.YteipdaijbncgeaaGreatDoor
open Go Vc Go.RowKit Wf
def jK (v:Vd)(now:Int):En:=⟨v,now,kf now v.df⟩
section
variable {b:List ax} {q:Nat} {L:List En} {m:Bool} {t:Bytes} {cp now:Int}
theorem GY (L:List En)(k:Nat)(h:k<L.length):(L.flatMap enc).take (k * 14)++(L.flatMap enc).drop ((k+1) * 14)=(L.eraseIdx k).flatMap enc:=by
 rw[(iV L k).1,(iV L (k+1)).2,← zNP,List.eraseIdx_eq_take_drop_succ]
theorem enc_ins (L:List En)(k:Nat)(x:En):(L.flatMap enc).take (k * 14)++enc x++(L.flatMap enc).drop (k * 14)=(L.take k++[x]++L.drop k).flatMap enc:=by
 rw[(iV L k).1,(iV L k).2,zNP,zNP];simp
theorem enc_set (L:List En)(k:Nat)(x:En)(h:k<L.length):(L.flatMap enc).take (k * 14)++(enc x++(L.flatMap enc).drop (k * 14+14))=(L.set k x).flatMap enc:=by
 rw[(iV L k).1,show k * 14+14=(k+1) * 14 by omega,(iV L (k+1)).2,List.set_eq_take_append_cons_drop,if_pos h,zNP,zNT]
def Ig (cp:Int)(L:List En)(v:Vd)(now:Int)(vb:Bool):List En:=if ie v&&vb&&!decide (cp≤0) then hU En.key En.aS cp L (jK v now) else L
theorem FA {L:List En}(hT:∀ e∈L,e.v.tr=.aE):(L.flatMap enc).all one=true:=by
 rw[zNK]
 intro x hx
 obtain⟨e,he,hx⟩:=List.mem_flatMap.1 hx
 have:=hT e he
 simp only[enc,this]at hx
 simp at hx
 rcases hx with rfl|rfl|rfl|rfl|rfl|rfl|rfl|rfl|rfl|rfl|rfl|rfl|rfl|rfl <;> rfl
structure P1 (b:List ax) (cp:Int) (v:Vd) (x1:SV) (b1:List ax):Prop where
 kp:Kp b b1
 c:b1[b.length]? = some (.cells [.int .i64 cp,x1] 24 true)
 v:b1[b.length+1]? = some (.cells [.int .i64 v.err,.int .i64 v.id.kind,.str v.id.text,.str v.id.host,.int .i64 v.id.port,.int .i64 v.bE.kind,.str v.bE.text,.str v.bE.host,.int .i64 v.bE.port,.bool v.store,.int .u64 v.df,v.tr] 41 true)
 o:b1[b.length+2]? = some (.cells [.int .i64 0,.aE] 24 true)
theorem fT.Ds {b:List ax}{x:SV}{L:List En}{m:Bool}(h:fT b x L m){k:Nat}(hk:∀ q,b[q]? = some (.own (L.flatMap enc) 43 14 L.length m)→k≠q)(X:ax):fT (b.set k X) x L m:=by
 rcases h with h|⟨q,rfl,hq⟩
 ·exact .inl h
 ·exact .inr ⟨q,rfl,aI hq (hk q hq) _⟩
theorem qg {v:Vd}(h1:one v.tr=true)(hw:within b.length v.tr=true):SC Tryz.V 27 [.agg (cN v)] b (fun r b'=>r=.bool (ie v)∧b'=b):=by
 refine dw rfl ?_
 unfold cN ie
 refine cz 3000 Tryz.func27 rfl Tryz.ntmps27 Tryz.results27 Tryz.call27 (by simp) (aw b.length _ (by simp[within,within.ay,hw])) ?_
 generalize v.store=s
 cases c1:v.err==0
 ·simp only[ad,↓Xn,↓Xo,↓Xg,↓Xd,↓Xe,↓Xf,Tryz.VΓ,Tryz.Γs,Xp,Xi,Nat.reduceAdd,Nat.reduceSub,Nat.reduceLT,Nat.reduceLeDiff,reduceIte,reduceCtorEq,Nat.reduceEqDiff,implies_true,forall_const,aa,av,beq_self_eq_true,bne_self_eq_false,Int.reduceBEq,Int.reduceBNe,Int.reduceLT,Int.reduceLE,h1,c1]
  exact(Kp.refl _).app _
 ·cases s
  ·simp only[ad,↓Xn,↓Xo,↓Xg,↓Xd,↓Xe,↓Xf,Tryz.VΓ,Tryz.Γs,Xp,Xi,Nat.reduceAdd,Nat.reduceSub,Nat.reduceLT,Nat.reduceLeDiff,reduceIte,reduceCtorEq,Nat.reduceEqDiff,implies_true,forall_const,aa,av,beq_self_eq_true,bne_self_eq_false,Int.reduceBEq,Int.reduceBNe,Int.reduceLT,Int.reduceLE,h1,c1]
   exact(Kp.refl _).app _
  ·cases c2:decide (1≤v.df)
   ·simp only[ad,↓Xn,↓Xo,↓Xg,↓Xd,↓Xe,↓Xf,Tryz.VΓ,Tryz.Γs,Xp,Xi,Nat.reduceAdd,Nat.reduceSub,Nat.reduceLT,Nat.reduceLeDiff,reduceIte,reduceCtorEq,Nat.reduceEqDiff,implies_true,forall_const,aa,av,beq_self_eq_true,bne_self_eq_false,Int.reduceBEq,Int.reduceBNe,Int.reduceLT,Int.reduceLE,h1,c1,c2]
    exact(Kp.refl _).app _
   ·cases c3:decide (v.df≤86400)
    ·simp only[ad,↓Xn,↓Xo,↓Xg,↓Xd,↓Xe,↓Xf,Tryz.VΓ,Tryz.Γs,Xp,Xi,Nat.reduceAdd,Nat.reduceSub,Nat.reduceLT,Nat.reduceLeDiff,reduceIte,reduceCtorEq,Nat.reduceEqDiff,implies_true,forall_const,aa,av,beq_self_eq_true,bne_self_eq_false,Int.reduceBEq,Int.reduceBNe,Int.reduceLT,Int.reduceLE,h1,c1,c2,c3]
     exact(Kp.refl _).app _
    ·simp only[ad,↓Xn,↓Xo,↓Xg,↓Xd,↓Xe,↓Xf,Tryz.VΓ,Tryz.Γs,Xp,Xi,Nat.reduceAdd,Nat.reduceSub,Nat.reduceLT,Nat.reduceLeDiff,reduceIte,reduceCtorEq,Nat.reduceEqDiff,implies_true,forall_const,aa,av,beq_self_eq_true,bne_self_eq_false,Int.reduceBEq,Int.reduceBNe,Int.reduceLT,Int.reduceLE,h1,c1,c2,c3]
     exact(Kp.refl _).app _
def C7 (b:List ax)(tb:Nat)(X:List ax):Prop:=∀ i Y,X[i]? = some Y→b[tb+i]? = some Y
theorem C7.app {b:List ax}{tb:Nat}{X:List ax}(h:C7 b tb X)(l:List ax):C7 (b++l) tb X:=fun i Y hi=>af (h i Y hi) _
theorem C7.kp {b b':List ax}{tb:Nat}{X:List ax}(h:C7 b tb X)(k:Kp b b'):C7 b' tb X:=fun i Y hi=>k.at (h i Y hi)
theorem C7.set {b:List ax}{tb k:Nat}{X:List ax}(h:C7 b tb X)(hk:k<tb)(Y:ax):C7 (b.set k Y) tb X:=fun i Y hi=>aI (h i Y hi) (by omega) _
def XOk (X:List ax):Prop:=X=[]∨∃ c n mm,X=[.own c 93 9 n mm]
theorem C7.setE {b:List ax}{tb q:Nat}{X:List ax}(h:C7 b tb X)(hX:XOk X){c:List SV}{n:Nat}{m:Bool}(hq:b[q]? = some (.own c 43 14 n m))(Y:ax):C7 (b.set q Y) tb X:=fun i Z hi=>by
 refine aI (h i Z hi) ?_ _
 rintro rfl
 have h2:=h i Z hi
 rw[hq]at h2
 rcases hX with rfl|⟨c',n',mm,rfl⟩
 ·simp at hi
 ·match i,hi with
  | 0,hi =>
    simp only[zNW,Option.some.injEq]at hi
    subst hi
    cases h2
  | i+1,hi=>simp at hi
theorem EH {x:SV}{v:Vd}{vb:Bool}{X:List ax}(tr':Nat→SV)(h:fT b x L m)(pV:m=true∨L.length≠0∨x=.aE)(hl:L.length≤1000000)(hT:∀ e∈L,e.v.tr=.aE)(ha:mT En.key L)(hv:one v.tr=true)(hvw:within b.length v.tr=true)(Ch:cp≤1024)
 (hX:XOk X) (Fe:∀ k,one (tr' k)=true) (hcop:∀ b2,Kp b b2→SC Tryz.V 34 [.agg (cN v)] b2 (fun r b'=>r=.agg (cN { v with tr:=tr' b2.length })∧b'=b2++X))
 (hid:PC Tryz.V 28 [.agg [.int .i64 v.id.kind,.str v.id.text,.str v.id.host,.int .i64 v.id.port]] (.bool vb)) :
 SU Tryz.V 17 [.agg [.int .i64 cp,x],.agg (cN v),.int .u64 now] b (fun r b'=>Kp b b'∧∃ x' tb,r=.agg [.int .i64 cp,x']∧fT b' x' (if ie v&&vb&&!decide (cp≤0) then hU En.key En.aS cp L (jK { v with tr:=tr' tb } now) else L) true∧(∀ q n,x'=.o q n→b.length≤q)∧((ie v&&vb&&!decide (cp≤0))=true→b.length≤tb∧C7 b' tb X)):=by
 have hw:=h.within
 have ho:=h.one
 have B0:cN v=[.int .i64 v.err,.int .i64 v.id.kind,.str v.id.text,.str v.id.host,.int .i64 v.id.port,.int .i64 v.bE.kind,.str v.bE.text,.str v.bE.host,.int .i64 v.bE.port,.bool v.store,.int .u64 v.df,v.tr]:=rfl
 rw[B0]
 obtain⟨cb,Ho⟩:∃ cb,cb=(ie v&&vb&&!decide (cp≤0)):=⟨_,rfl⟩
 rw[← Ho]
 refine HM 3000 Tryz.func17 rfl Tryz.ntmps17 Tryz.results17 Tryz.call17 (by simp) (aw b.length _ (by simp[within,within.ay,hw,hvw])) ?_
 refine bd 2900 (fun σ=>lk 2 σ.t=some (.int .u64 now)∧lk 3 σ.t=some (.p b.length 0)∧lk 4 σ.t=some (.p (b.length+1) 0)∧lk 6 σ.t=some (.p (b.length+2) 0)∧σ.b=b++[.cells [.int .i64 cp,x] 24 true,.cells [.int .i64 v.err,.int .i64 v.id.kind,.str v.id.text,.str v.id.host,.int .i64 v.id.port,.int .i64 v.bE.kind,.str v.bE.text,.str v.bE.host,.int .i64 v.bE.port,.bool v.store,.int .u64 v.df,v.tr] 41 true,.cells [.int .i64 0,.aE] 24 true]) ?_ (fun k' hk'=>?_)
 rotate_left
 ·simp only[ad,↓Xn,↓Xo,↓Xg,↓Xd,↓Xe,↓Xf,Tryz.VΓ,Tryz.Γs,Xp,Xi,Nat.reduceAdd,Nat.reduceSub,Nat.reduceLT,Nat.reduceLeDiff,reduceIte,reduceCtorEq,Nat.reduceEqDiff,implies_true,forall_const,aa,av,beq_self_eq_true,bne_self_eq_false,Int.reduceBEq,Int.reduceBNe,Int.reduceLT,Int.reduceLE,ho,hv]
  exact hk' _ _ ⟨rfl,rfl,rfl,rfl,rfl⟩
 rintro m1 ⟨t1,b1⟩ ⟨l2,l3,l4,l6,rfl⟩
 simp only at l2 l3 l4 l6
 refine bd 2800 (fun σ=>lk 2 σ.t=some (.int .u64 now)∧lk 3 σ.t=some (.p b.length 0)∧lk 4 σ.t=some (.p (b.length+1) 0)∧lk 6 σ.t=some (.p (b.length+2) 0)∧∃ x1,P1 b cp v x1 σ.b∧fT σ.b x1 L true∧∀ q n,x1=.o q n→b.length≤q) ?_ (fun k' hk'=>?_)
 rotate_left
 ·rcases h with⟨rfl,rfl⟩|⟨q,rfl,hq⟩
  ·simp only[ad,↓Xn,↓Xo,↓Xg,↓Xd,↓Xe,↓Xf,Tryz.VΓ,Tryz.Γs,Xp,Xi,Nat.reduceAdd,Nat.reduceSub,Nat.reduceLT,Nat.reduceLeDiff,reduceIte,reduceCtorEq,Nat.reduceEqDiff,implies_true,forall_const,aa,av,beq_self_eq_true,bne_self_eq_false,Int.reduceBEq,Int.reduceBNe,Int.reduceLT,Int.reduceLE,l3]
   refine gX sB ?_
   rintro y b2 ⟨rfl,rfl⟩
   simp only[ad,↓Xn,↓Xo,↓Xg,↓Xd,↓Xe,↓Xf,Tryz.VΓ,Tryz.Γs,Xp,Xi,Nat.reduceAdd,Nat.reduceSub,Nat.reduceLT,Nat.reduceLeDiff,reduceIte,reduceCtorEq,Nat.reduceEqDiff,implies_true,forall_const,aa,av,beq_self_eq_true,bne_self_eq_false,Int.reduceBEq,Int.reduceBNe,Int.reduceLT,Int.reduceLE,l3]
   refine hk' _ _ ?_
   exact⟨l2,l3,l4,l6,_,⟨(Kp.refl _).app _,aZ rfl _ 0,aZ rfl _ 1,aZ rfl _ 2⟩,.inl ⟨rfl,rfl⟩,fun q n h=>by cases h⟩
  ·simp only[ad,↓Xn,↓Xo,↓Xg,↓Xd,↓Xe,↓Xf,Tryz.VΓ,Tryz.Γs,Xp,Xi,Nat.reduceAdd,Nat.reduceSub,Nat.reduceLT,Nat.reduceLeDiff,reduceIte,reduceCtorEq,Nat.reduceEqDiff,implies_true,forall_const,aa,av,beq_self_eq_true,bne_self_eq_false,Int.reduceBEq,Int.reduceBNe,Int.reduceLT,Int.reduceLE,l3]
   refine gX (uf (af hq _) (by rcases pV with h|h|h;exact .inl h;exact .inr h;cases h) hT hl) ?_
   rintro y b2 ⟨rfl,rfl⟩
   simp only[ad,↓Xn,↓Xo,↓Xg,↓Xd,↓Xe,↓Xf,Tryz.VΓ,Tryz.Γs,Xp,Xi,Nat.reduceAdd,Nat.reduceSub,Nat.reduceLT,Nat.reduceLeDiff,reduceIte,reduceCtorEq,Nat.reduceEqDiff,implies_true,forall_const,aa,av,beq_self_eq_true,bne_self_eq_false,Int.reduceBEq,Int.reduceBNe,Int.reduceLT,Int.reduceLE,l3]
   refine hk' _ _ ?_
   exact⟨l2,l3,l4,l6,_,⟨(Kp.refl _).app _,aZ rfl _ 0,aZ rfl _ 1,aZ rfl _ 2⟩,.inr ⟨b.length+3,rfl,aZ rfl _ 3⟩,fun q n h=>by cases h;omega⟩
 clear h hw ho pV
 rintro m2 ⟨t2,b2⟩ ⟨l2,l3,l4,l6,x1,hP,hE,zE⟩
 simp only at l2 l3 l4 l6 hP hE
 have ho:=hE.one
 have pc:=hP.c
 have pv:=hP.v
 have po:=hP.o
 have hwn:∀ b2,Kp b b2→within b2.length v.tr=true:=fun b2 k=>kV k.1 _ hvw
 have rW:=qg (b:=b2) hv (hwn _ hP.kp)
 rw[B0]at rW
 refine bd 2700 (fun σ=>lk 2 σ.t=some (.int .u64 now)∧lk 3 σ.t=some (.p b.length 0)∧lk 4 σ.t=some (.p (b.length+1) 0)∧lk 6 σ.t=some (.p (b.length+2) 0)∧σ.b=b2∧(ie v&&vb&&!decide (cp≤0))=true) ?_ (fun k' hk'=>?_)
 rotate_left
 ·have hs:∀ X,(b2.set (b.length+2) X)[b.length+2]? = some X:=fun X=>zNv (zNt.1 po).1
  have pP:(ie v&&vb&&!decide (cp≤0))=false→Kp b (b2.set (b.length+2) (.cells [.int .i64 cp,x1] 24 true))∧∃ x' tb,SV.agg [.int .i64 cp,x1]=.agg [.int .i64 cp,x']∧fT (b2.set (b.length+2) (.cells [.int .i64 cp,x1] 24 true)) x' (if cb then hU En.key En.aS cp L (jK { v with tr:=tr' tb } now) else L) true∧(∀ q n,x'=.o q n→b.length≤q)∧(cb=true→b.length≤tb∧C7 (b2.set (b.length+2) (.cells [.int .i64 cp,x1] 24 true)) tb X):=fun h2=>by
   rw[Ho,h2]
   exact⟨hP.kp.set (by omega) _,x1,0,rfl,by simpa using hE.Ds (by intro q hq e;subst e;rw[po]at hq;cases hq) _,zE,fun e=>by cases e⟩
  simp only[ad,↓Xn,↓Xo,↓Xg,↓Xd,↓Xe,↓Xf,Tryz.VΓ,Tryz.Γs,Xp,Xi,Nat.reduceAdd,Nat.reduceSub,Nat.reduceLT,Nat.reduceLeDiff,reduceIte,reduceCtorEq,Nat.reduceEqDiff,implies_true,forall_const,aa,av,beq_self_eq_true,bne_self_eq_false,Int.reduceBEq,Int.reduceBNe,Int.reduceLT,Int.reduceLE,l3,l4,pv,hv]
  refine gX rW ?_
  rintro y b3 ⟨rfl,rfl⟩
  cases rX:ie v
  ·simp only[ad,↓Xn,↓Xo,↓Xg,↓Xd,↓Xe,↓Xf,Tryz.VΓ,Tryz.Γs,Xp,Xi,Nat.reduceAdd,Nat.reduceSub,Nat.reduceLT,Nat.reduceLeDiff,reduceIte,reduceCtorEq,Nat.reduceEqDiff,implies_true,forall_const,aa,av,beq_self_eq_true,bne_self_eq_false,Int.reduceBEq,Int.reduceBNe,Int.reduceLT,Int.reduceLE,l3,l4,l6,pv,pc,po,hs,ho,hv]
   exact pP (by rw[rX];rfl)
  ·simp only[ad,↓Xn,↓Xo,↓Xg,↓Xd,↓Xe,↓Xf,Tryz.VΓ,Tryz.Γs,Xp,Xi,Nat.reduceAdd,Nat.reduceSub,Nat.reduceLT,Nat.reduceLeDiff,reduceIte,reduceCtorEq,Nat.reduceEqDiff,implies_true,forall_const,aa,av,beq_self_eq_true,bne_self_eq_false,Int.reduceBEq,Int.reduceBNe,Int.reduceLT,Int.reduceLE,l3,l4,l6,pv,pc,po,hs,ho,hv]
   refine ae hid ?_
   cases vw:vb
   ·simp only[ad,↓Xn,↓Xo,↓Xg,↓Xd,↓Xe,↓Xf,Tryz.VΓ,Tryz.Γs,Xp,Xi,Nat.reduceAdd,Nat.reduceSub,Nat.reduceLT,Nat.reduceLeDiff,reduceIte,reduceCtorEq,Nat.reduceEqDiff,implies_true,forall_const,aa,av,beq_self_eq_true,bne_self_eq_false,Int.reduceBEq,Int.reduceBNe,Int.reduceLT,Int.reduceLE,l3,l4,l6,pv,pc,po,hs,ho,hv]
    exact pP (by rw[rX,vw];rfl)
   ·cases hc3:decide (cp≤0)
    ·simp only[ad,↓Xn,↓Xo,↓Xg,↓Xd,↓Xe,↓Xf,Tryz.VΓ,Tryz.Γs,Xp,Xi,Nat.reduceAdd,Nat.reduceSub,Nat.reduceLT,Nat.reduceLeDiff,reduceIte,reduceCtorEq,Nat.reduceEqDiff,implies_true,forall_const,aa,av,beq_self_eq_true,bne_self_eq_false,Int.reduceBEq,Int.reduceBNe,Int.reduceLT,Int.reduceLE,l3,l4,l6,pv,pc,po,hs,ho,hv,hc3]
     refine hk' _ _ ?_
     exact⟨l2,l3,l4,l6,rfl,by rw[rX,vw,hc3];rfl⟩
    ·simp only[ad,↓Xn,↓Xo,↓Xg,↓Xd,↓Xe,↓Xf,Tryz.VΓ,Tryz.Γs,Xp,Xi,Nat.reduceAdd,Nat.reduceSub,Nat.reduceLT,Nat.reduceLeDiff,reduceIte,reduceCtorEq,Nat.reduceEqDiff,implies_true,forall_const,aa,av,beq_self_eq_true,bne_self_eq_false,Int.reduceBEq,Int.reduceBNe,Int.reduceLT,Int.reduceLE,l3,l4,l6,pv,pc,po,hs,ho,hv,hc3]
     exact pP (by rw[rX,vw,hc3];rfl)
 rintro m3 ⟨t3,b3⟩ ⟨l2,l3,l4,l6,rfl,lz⟩
 simp only at l2 l3 l4 l6
 have hcp0:0<cp:=by
  have:=lz
  simp at this
  omega
 have hcb1:cb=true:=by rw[Ho];exact lz
 simp only[hcb1,eq_self,if_true,true_implies]
 obtain⟨tb,htb⟩:∃ tb,tb=b3.length:=⟨_,rfl⟩
 obtain⟨e0,he0⟩:∃ e0,e0=jK { v with tr:=tr' tb } now:=⟨_,rfl⟩
 obtain⟨LP,Gy⟩:∃ LP,LP=hU En.key En.aS cp L e0:=⟨_,rfl⟩
 have hpm0:hU En.key En.aS cp L (jK { v with tr:=tr' tb } now)=LP:=by rw[Gy,he0]
 have mQ:b.length+2<b3.length:=(zNt.1 po).1
 have hne1:¬ b.length+1=b3.length:=by omega
 refine bd 2600 (fun σ=>lk 3 σ.t=some (.p b.length 0)∧lk 4 σ.t=some (.p (b.length+1) 0)∧lk 6 σ.t=some (.p (b.length+2) 0)∧∃ n7,lk 7 σ.t=some (.p n7 0)∧Kp b3 σ.b∧σ.b[n7]? = some (.cells (enc e0) 43 true)∧b3.length≤n7∧C7 σ.b tb X) ?_ (fun k' hk'=>?_)
 rotate_left
 ·have Ch:=hcop b3 hP.kp
  rw[B0]at Ch
  have qR:=qp now v.df
  have hve2:cN { v with tr:=tr' b3.length }=[.int .i64 v.err,.int .i64 v.id.kind,.str v.id.text,.str v.id.host,.int .i64 v.id.port,.int .i64 v.bE.kind,.str v.bE.text,.str v.bE.host,.int .i64 v.bE.port,.bool v.store,.int .u64 v.df,tr' b3.length]:=rfl
  rw[hve2]at Ch
  have wW:=Fe b3.length
  have hme:enc e0=[.int .i64 v.err,.int .i64 v.id.kind,.str v.id.text,.str v.id.host,.int .i64 v.id.port,.int .i64 v.bE.kind,.str v.bE.text,.str v.bE.host,.int .i64 v.bE.port,.bool v.store,.int .u64 v.df,tr' b3.length,.int .u64 now,.int .u64 (kf now v.df)]:=by
   rw[he0,htb];rfl
  simp only[ad,↓Xn,↓Xo,↓Xg,↓Xd,↓Xe,↓Xf,Tryz.VΓ,Tryz.Γs,Xp,Xi,Nat.reduceAdd,Nat.reduceSub,Nat.reduceLT,Nat.reduceLeDiff,reduceIte,reduceCtorEq,Nat.reduceEqDiff,implies_true,forall_const,aa,av,beq_self_eq_true,bne_self_eq_false,Int.reduceBEq,Int.reduceBNe,Int.reduceLT,Int.reduceLE,l2,l3,l4,pv,hv]
  rcases hX with rfl|⟨xc,xn,xm,rfl⟩
  ·refine bC [] Ch (fun j q h=>by rw[zNH]) ?_
   rw[zNH]
   simp only[ad,↓Xn,↓Xo,↓Xg,↓Xd,↓Xe,↓Xf,Tryz.VΓ,Tryz.Γs,Xp,Xi,Nat.reduceAdd,Nat.reduceSub,Nat.reduceLT,Nat.reduceLeDiff,reduceIte,reduceCtorEq,Nat.reduceEqDiff,implies_true,forall_const,aa,av,beq_self_eq_true,bne_self_eq_false,Int.reduceBEq,Int.reduceBNe,Int.reduceLT,Int.reduceLE,l2,l3,l4,pv,hv]
   refine aU qR ?_
   simp only[ad,↓Xn,↓Xo,↓Xg,↓Xd,↓Xe,↓Xf,Tryz.VΓ,Tryz.Γs,Xp,Xi,Nat.reduceAdd,Nat.reduceSub,Nat.reduceLT,Nat.reduceLeDiff,reduceIte,reduceCtorEq,Nat.reduceEqDiff,implies_true,forall_const,aa,av,beq_self_eq_true,bne_self_eq_false,Int.reduceBEq,Int.reduceBNe,Int.reduceLT,Int.reduceLE,l2,l3,l4,pv,hv,wW]
   refine⟨(by
    refine fg (fun n=>if n=b3.length then 0 else 1) ?_
    simp only[zN5,List.map_nil,fX,kX,reduceIte,hne1]
    exact aq (by kernel_rfl)),?_⟩
   refine hk' _ _ ?_
   rw[hme]
   exact⟨l3,l4,l6,_,rfl,(Kp.refl _).app _,aZ rfl _ 0,by omega,fun i Y hi=>by simp at hi⟩
  ·refine bC [(b3.length,0,0)] Ch (outs1 rfl _) ?_
   simp only[ad,↓Xn,↓Xo,↓Xg,↓Xd,↓Xe,↓Xf,Tryz.VΓ,Tryz.Γs,Xp,Xi,Nat.reduceAdd,Nat.reduceSub,Nat.reduceLT,Nat.reduceLeDiff,reduceIte,reduceCtorEq,Nat.reduceEqDiff,implies_true,forall_const,aa,av,beq_self_eq_true,bne_self_eq_false,Int.reduceBEq,Int.reduceBNe,Int.reduceLT,Int.reduceLE,l2,l3,l4,pv,af pv,hv]
   refine aU qR ?_
   simp only[ad,↓Xn,↓Xo,↓Xg,↓Xd,↓Xe,↓Xf,Tryz.VΓ,Tryz.Γs,Xp,Xi,Nat.reduceAdd,Nat.reduceSub,Nat.reduceLT,Nat.reduceLeDiff,reduceIte,reduceCtorEq,Nat.reduceEqDiff,implies_true,forall_const,aa,av,beq_self_eq_true,bne_self_eq_false,Int.reduceBEq,Int.reduceBNe,Int.reduceLT,Int.reduceLE,l2,l3,l4,pv,af pv,hv,wW]
   have hne2:¬ b3.length=b.length+1:=by omega
   have hne3:¬ b3.length+1=b.length+1:=by omega
   have hne4:¬ b3.length+1=b3.length:=by omega
   have hne5:¬ b3.length=b.length:=by omega
   refine⟨by
    refine fg (fun n=>if n=b.length+1 then 0 else if n=b3.length then 1 else 2) ?_
    simp only[zN5,List.map_nil,fX,kX,reduceIte,hne1,hne2,hne3,hne4,hne5,Nat.add_right_cancel_iff]
    exact aq (by kernel_rfl),?_⟩
   refine hk' _ _ ?_
   rw[hme]
   refine⟨l3,l4,l6,_,rfl,(Kp.refl _).app _,aZ rfl _ 1,by omega,fun i Y hi=>?_⟩
   match i,hi with
   | 0,hi =>
     simp only[zNW,Option.some.injEq]at hi
     subst hi
     rw[htb]
     exact aZ rfl _ 0
   | i+1,hi=>simp at hi
 rintro m4 ⟨t4,b4⟩ ⟨l3,l4,l6,n7,l7,zJ,pe4,hn7,hx4⟩
 simp only at l3 l4 l6 l7 zJ pe4 hx4
 have pc4:=zJ.at pc
 have pv4:=zJ.at pv
 have po4:=zJ.at po
 have hkp4:=hP.kp.trans zJ
 have wk:e0.key=v.id.text:=by rw[he0];rfl
 have h1e0:one e0.v.tr=true:=by rw[he0];exact Fe _
 clear hcop Fe
 have hEn:∀ e∈L,one e.v.tr=true:=fun e he=>by rw[hT e he];rfl
 have hE4:fT b4 x1 L true:=hE.kp zJ
 refine bd 2500 (fun σ=>lk 3 σ.t=some (.p b.length 0)∧lk 4 σ.t=some (.p (b.length+1) 0)∧lk 6 σ.t=some (.p (b.length+2) 0)∧lk 7 σ.t=some (.p n7 0)∧lk 8 σ.t=some (.int .i64 (gq En.key L v.id.text))∧lk 9 σ.t=some (.bool (dC En.key L v.id.text))∧σ.b=b4) ?_ (fun k' hk'=>?_)
 rotate_left
 ·simp only[ad,↓Xn,↓Xo,↓Xg,↓Xd,↓Xe,↓Xf,Tryz.VΓ,Tryz.Γs,Xp,Xi,Nat.reduceAdd,Nat.reduceSub,Nat.reduceLT,Nat.reduceLeDiff,reduceIte,reduceCtorEq,Nat.reduceEqDiff,implies_true,forall_const,aa,av,beq_self_eq_true,bne_self_eq_false,Int.reduceBEq,Int.reduceBNe,Int.reduceLT,Int.reduceLE,l3,l4,l7,pc4,pv4,ho]
  refine gX (yL hE4 ha hl (fun e he=>by rw[hT e he];exact⟨rfl,rfl⟩)) ?_
  rintro y b5 ⟨rfl,rfl⟩
  simp only[ad,↓Xn,↓Xo,↓Xg,↓Xd,↓Xe,↓Xf,Tryz.VΓ,Tryz.Γs,Xp,Xi,Nat.reduceAdd,Nat.reduceSub,Nat.reduceLT,Nat.reduceLeDiff,reduceIte,reduceCtorEq,Nat.reduceEqDiff,implies_true,forall_const,aa,av,beq_self_eq_true,bne_self_eq_false,Int.reduceBEq,Int.reduceBNe,Int.reduceLT,Int.reduceLE,l3,l4,l7]
  refine hk' _ _ ?_
  exact⟨l3,l4,l6,l7,rfl,rfl,rfl⟩
 rintro m5 ⟨t5,b5⟩ ⟨l3,l4,l6,l7,l8,l9,hb5⟩
 simp only at l3 l4 l6 l7 l8 l9 hb5
 rw[hb5]
 clear hb5
 have hkx:En.key e0=v.id.text:=wk
 have mJ:(enc e0).length=14:=rfl
 have hen1:(enc e0).all one=true:=by
  simp[enc,one]at h1e0 ⊢;exact h1e0
 have fP:(enc e0).take 14=enc e0:=zNG (by rw[mJ];omega)
 refine bd 2400 (fun σ=>lk 3 σ.t=some (.p b.length 0)∧lk 4 σ.t=some (.p (b.length+1) 0)∧lk 6 σ.t=some (.p (b.length+2) 0)∧lk 7 σ.t=some (.p n7 0)∧lk 8 σ.t=some (.int .i64 (gq En.key L v.id.text))∧dC En.key L v.id.text=false∧σ.b=b4) ?_ (fun k' hk'=>?_)
 rotate_left
 ·cases hh:dC En.key L v.id.text
  ·rw[hh]at l9
   simp only[ad,↓Xn,↓Xo,↓Xg,↓Xd,↓Xe,↓Xf,Tryz.VΓ,Tryz.Γs,Xp,Xi,Nat.reduceAdd,Nat.reduceSub,Nat.reduceLT,Nat.reduceLeDiff,reduceIte,reduceCtorEq,Nat.reduceEqDiff,implies_true,forall_const,aa,av,beq_self_eq_true,bne_self_eq_false,Int.reduceBEq,Int.reduceBNe,Int.reduceLT,Int.reduceLE,l9]
   refine hk' _ _ ?_
   exact⟨l3,l4,l6,l7,l8,hh,rfl⟩
  ·rw[hh]at l9
   obtain⟨hk,ia⟩:=(qQ ha).1 hh
   obtain⟨q,rfl,hq⟩:∃ q,x1=.o q L.length∧b3[q]? = some (.own (L.flatMap enc) 43 14 L.length true):=by
    rcases hE with⟨rfl,rfl⟩|h
    ·simp at hk
    ·exact h
   have Jl:=aT L
   have gE:=enc_set L _ e0 hk
   have hq4:=zJ.at hq
   have pL:=(zNt.1 hq).1
   have hql2:=(zNt.1 hq4).1
   have n0:q≠b.length:=by rintro rfl;rw[pc]at hq;cases hq
   have n2:q≠b.length+2:=by rintro rfl;rw[po]at hq;cases hq
   have eN:∀ Y,(b4.set q Y)[b.length]? = _:=fun Y=>aI pc4 n0 Y
   have fY:∀ Y,(b4.set q Y)[b.length+2]? = _:=fun Y=>aI po4 n2 Y
   have I1:∀ Y Z,((b4.set q Y).set (b.length+2) Z)[b.length+2]? = some Z:=fun Y Z=>zNv (by rw[zNy];have:=zJ.1;omega)
   have e1:hU En.key En.aS cp L e0=L.set (gq En.key L v.id.text) e0:=by
    unfold hU;rw[if_pos (.inl (by rw[hkx];exact hh)),← put_set ha (by rw[hkx];exact hh),hkx]
   simp only[ad,↓Xn,↓Xo,↓Xg,↓Xd,↓Xe,↓Xf,Tryz.VΓ,Tryz.Γs,Xp,Xi,Nat.reduceAdd,Nat.reduceSub,Nat.reduceLT,Nat.reduceLeDiff,reduceIte,reduceCtorEq,Nat.reduceEqDiff,implies_true,forall_const,aa,av,beq_self_eq_true,bne_self_eq_false,Int.reduceBEq,Int.reduceBNe,Int.reduceLT,Int.reduceLE,l3,l6,l7,l8,l9,pc4,hq4,eN,fY,I1,gE,fP,mJ,pe4]
   refine⟨⟨by omega,by omega⟩,⟨hen1,by rw[Jl];omega⟩,(hkp4.set (zE q _ rfl) _).set (by omega) _,_,tb,rfl,?_,zE,by omega,((hx4.set (by omega) _).set (by omega) _)⟩
   rw[hpm0,Gy,e1]
   refine .inr ⟨q,by rw[zNy],aI ?_ (Ne.symm n2) _⟩
   rw[zNy]
   exact zNv hql2
 rintro m6 ⟨t6,b6⟩ ⟨l3,l4,l6,l7,l8,hh,hb6⟩
 simp only at l3 l4 l6 l7 l8 hb6
 rw[hb6]
 clear hb6
 have hp1:hU En.key En.aS cp L e0=if (L.length:Int)<cp then jL En.key L e0 else jL En.key (L.eraseIdx (dR (oI L) L.length)) e0:=by
  unfold hU oI
  by_cases c:(L.length:Int)<cp
  ·rw[if_pos (.inr c),if_pos c]
  ·rw[if_neg (by rw[hkx,hh];simp[c]),if_neg c]
 rw[hp1]at Gy
 clear hp1
 have IY:b.length+2<tb:=by omega
 refine bd 2300 (fun σ=>lk 3 σ.t=some (.p b.length 0)∧lk 6 σ.t=some (.p (b.length+2) 0)∧lk 7 σ.t=some (.p n7 0)∧∃ L' x2,lk 8 σ.t=some (.int .i64 (gq En.key L' v.id.text))∧dC En.key L' v.id.text=false∧mT En.key L'∧L'.length≤1000000∧LP=jL En.key L' e0∧(∀ e∈L',e.v.tr=.aE)∧Kp b σ.b∧σ.b[b.length]? = some (.cells [.int .i64 cp,x2] 24 true)∧σ.b[b.length+2]? = some (.cells [.int .i64 0,.aE] 24 true)∧σ.b[n7]? = some (.cells (enc e0) 43 true)∧C7 σ.b tb X∧fT σ.b x2 L' true∧∀ q n,x2=.o q n→b.length≤q) ?_ (fun k' hk'=>?_)
 rotate_left
 ·have eO:∀ e,mc (.slice e) x1=some (.int .i64 L.length):=fun e=>by
   rcases hE with⟨rfl,rfl⟩|⟨q,rfl,-⟩ <;> rfl
  cases hc:decide (cp≤(L.length:Int))
  ·simp only[ad,↓Xn,↓Xo,↓Xg,↓Xd,↓Xe,↓Xf,Tryz.VΓ,Tryz.Γs,Xp,Xi,Nat.reduceAdd,Nat.reduceSub,Nat.reduceLT,Nat.reduceLeDiff,reduceIte,reduceCtorEq,Nat.reduceEqDiff,implies_true,forall_const,aa,av,beq_self_eq_true,bne_self_eq_false,Int.reduceBEq,Int.reduceBNe,Int.reduceLT,Int.reduceLE,l3,l4,l6,l7,l8,pc4,eO,hc,ho]
   refine hk' _ _ ?_
   have hc':(L.length:Int)<cp:=by simp at hc;omega
   rw[if_pos hc']at Gy
   exact⟨l3,l6,l7,L,x1,l8,hh,ha,hl,Gy,hT,hkp4,pc4,po4,pe4,hx4,hE4,zE⟩
  ·simp only[ad,↓Xn,↓Xo,↓Xg,↓Xd,↓Xe,↓Xf,Tryz.VΓ,Tryz.Γs,Xp,Xi,Nat.reduceAdd,Nat.reduceSub,Nat.reduceLT,Nat.reduceLeDiff,reduceIte,reduceCtorEq,Nat.reduceEqDiff,implies_true,forall_const,aa,av,beq_self_eq_true,bne_self_eq_false,Int.reduceBEq,Int.reduceBNe,Int.reduceLT,Int.reduceLE,l3,l4,l6,l7,l8,pc4,eO,hc,ho]
   have hc':¬ (L.length:Int)<cp:=by simp at hc;omega
   rw[if_neg hc']at Gy
   have hL0:0<L.length:=by omega
   obtain⟨q,rfl,hq⟩:∃ q,x1=.o q L.length∧b3[q]? = some (.own (L.flatMap enc) 43 14 L.length true):=by
    rcases hE with⟨rfl,rfl⟩|h
    ·simp at hL0
    ·exact h
   refine gX (dw rfl (HW (zJ.at hq) hL0 hl)) ?_
   rintro y b6 ⟨rfl,hb6⟩
   have wj:Kp b4 b6:=by rw[hb6];exact Kp.refl _
   clear hb6
   have hk:=(iT (oI L) L.length hL0).1
   generalize dR (oI L) L.length=k at hk Gy ⊢
   have hq6:=wj.at (zJ.at hq)
   have pc6:=wj.at pc4
   have po6:=wj.at po4
   have pe6:=wj.at pe4
   have hx6:=hx4.kp wj
   have pv6:=wj.at pv4
   have hkp6:Kp b b6:=hkp4.trans wj
   clear wj
   have hql6:=(zNt.1 hq6).1
   have n0:q≠b.length:=by rintro rfl;rw[pc]at hq;cases hq
   have n1:q≠b.length+1:=by rintro rfl;rw[pv]at hq;cases hq
   have n2:q≠b.length+2:=by rintro rfl;rw[po]at hq;cases hq
   have n3:q≠n7:=by have:=(zNt.1 hq).1;omega
   have hqb1:=zE q _ rfl
   have pL:=(zNt.1 hq).1
   have h1L:(L.flatMap enc).all one=true:=FA hT
   simp only[ad,↓Xn,↓Xo,↓Xg,↓Xd,↓Xe,↓Xf,Tryz.VΓ,Tryz.Γs,Xp,Xi,Nat.reduceAdd,Nat.reduceSub,Nat.reduceLT,Nat.reduceLeDiff,reduceIte,reduceCtorEq,Nat.reduceEqDiff,implies_true,forall_const,aa,av,beq_self_eq_true,bne_self_eq_false,Int.reduceBEq,Int.reduceBNe,Int.reduceLT,Int.reduceLE,l3,l4,l6,l7,l8,pc6]
   refine⟨by omega,gX (sc_DelN hq6 hk h1L) ?_⟩
   rintro y b7 ⟨rfl,rfl⟩
   have hel':(L.eraseIdx k).length=L.length - 1:=List.length_eraseIdx_of_lt hk
   rw[GY L k hk]
   have eN:∀ Y,(b6.set q Y)[b.length]? = _:=fun Y=>aI pc6 n0 Y
   have hb60:b.length<b6.length:=(zNt.1 pc6).1
   have hs0l:∀ Y (l:List ax) Z,(b6.set q Y++l).set b.length Z=(b6.set q Y).set b.length Z++l:=fun Y l Z=>bS (by rw[zNy];omega) l Z
   have hs00:∀ Y Z,((b6.set q Y).set b.length Z)[b.length]? = some Z:=fun Y Z=>zNv (by rw[zNy];omega)
   have B3:∀ Y Z,((b6.set q Y).set b.length Z)[b.length+1]? = _:=fun Y Z=>aI (aI pv6 n1 Y) (by omega) Z
   simp only[ad,↓Xn,↓Xo,↓Xg,↓Xd,↓Xe,↓Xf,Tryz.VΓ,Tryz.Γs,Xp,Xi,Nat.reduceAdd,Nat.reduceSub,Nat.reduceLT,Nat.reduceLeDiff,reduceIte,reduceCtorEq,Nat.reduceEqDiff,implies_true,forall_const,aa,av,beq_self_eq_true,bne_self_eq_false,Int.reduceBEq,Int.reduceBNe,Int.reduceLT,Int.reduceLE,l3,l4,l6,l7,l8,af (eN _),hs0l,af (hs00 _ _),af (B3 _ _)]
   have hE8:fT ((b6.set q .gone).set b.length (.cells [.int .i64 cp,.o b6.length (L.length - 1)] 24 true)++[.own ((L.eraseIdx k).flatMap enc) 43 14 (L.length - 1) true]) (.o b6.length (L.length - 1)) (L.eraseIdx k) true:=.inr ⟨b6.length,by rw[hel'],by rw[hel'];exact aZ (by simp) _ 0⟩
   refine gX (yL hE8 (oH ha k) (by omega) (fun e he=>by rw[hT e (lD he)];exact⟨rfl,rfl⟩)) ?_
   rintro y b8 ⟨rfl,rfl⟩
   simp only[ad,↓Xn,↓Xo,↓Xg,↓Xd,↓Xe,↓Xf,Tryz.VΓ,Tryz.Γs,Xp,Xi,Nat.reduceAdd,Nat.reduceSub,Nat.reduceLT,Nat.reduceLeDiff,reduceIte,reduceCtorEq,Nat.reduceEqDiff,implies_true,forall_const,aa,av,beq_self_eq_true,bne_self_eq_false,Int.reduceBEq,Int.reduceBNe,Int.reduceLT,Int.reduceLE,l3,l4,l6,l7,l8]
   refine hk' _ _ ?_
   exact⟨l3,l6,l7,L.eraseIdx k,.o b6.length (L.length - 1),rfl,El hh,oH ha k,by omega,Gy,fun e he=>hT e (lD he),((hkp6.set hqb1 _).set (zNx _) _).app _,af (hs00 _ _) _,af (aI (aI po6 n2 _) (by omega) _) _,af (aI (aI pe6 n3 _) (by omega) _) _,((hx6.set (by omega) _).set (by omega) _).app _,hE8,fun q' n h=>by cases h;omega⟩
 rintro m7 ⟨t7,b7⟩ ⟨l3,l6,l7,L',x2,l8,hh',ha',hl',hLP,hT',cw,qc,qo,qe,hx7,hE7,hqb7⟩
 simp only at l3 l6 l7 l8 cw qc qo qe hx7 hE7
 have ho7:=hE7.one
 simp only[ad,↓Xn,↓Xo,↓Xg,↓Xd,↓Xe,↓Xf,Tryz.VΓ,Tryz.Γs,Xp,Xi,Nat.reduceAdd,Nat.reduceSub,Nat.reduceLT,Nat.reduceLeDiff,reduceIte,reduceCtorEq,Nat.reduceEqDiff,implies_true,forall_const,aa,av,beq_self_eq_true,bne_self_eq_false,Int.reduceBEq,Int.reduceBNe,Int.reduceLT,Int.reduceLE,l3,l6,l7,l8,qc,qe,ho7,mJ,fP,hen1]
 refine⟨by decide,?_⟩
 rcases hE7 with⟨rfl,rfl⟩|⟨q,rfl,hq⟩
 ·have fR:gq En.key [] v.id.text=0:=rfl
  rw[fR]
  refine gX (Ga (aZ rfl _ 0) hen1) ?_
  rintro y b8 ⟨rfl,rfl⟩
  have hb7:b.length+2<b7.length:=(zNt.1 qo).1
  have eN:∀ (l:List ax) Z,(b7++l).set b.length Z=b7.set b.length Z++l:=fun l Z=>bS (by omega) l Z
  have B3:∀ Z,(b7.set b.length Z)[b.length]? = some Z:=fun Z=>zNv (by omega)
  have fY:∀ Z,(b7.set b.length Z)[b.length+2]? = _:=fun Z=>aI qo (by omega) Z
  have I1:∀ Y (l:List ax) Z,(b7.set b.length Y++l).set (b.length+2) Z=(b7.set b.length Y).set (b.length+2) Z++l:=fun Y l Z=>bS (by rw[zNy];omega) l Z
  have hs4:∀ Y Z,((b7.set b.length Y).set (b.length+2) Z)[b.length+2]? = some Z:=fun Y Z=>zNv (by rw[zNy];omega)
  simp only[ad,↓Xn,↓Xo,↓Xg,↓Xd,↓Xe,↓Xf,Tryz.VΓ,Tryz.Γs,Xp,Xi,Nat.reduceAdd,Nat.reduceSub,Nat.reduceLT,Nat.reduceLeDiff,reduceIte,reduceCtorEq,Nat.reduceEqDiff,implies_true,forall_const,aa,av,beq_self_eq_true,bne_self_eq_false,Int.reduceBEq,Int.reduceBNe,Int.reduceLT,Int.reduceLE,l3,l6,l7,l8,af qc,eN,af (B3 _),af (fY _),I1,af (hs4 _ _)]
  have e1:LP=[e0]:=hLP
  refine⟨((cw.set (zNx _) _).set (by omega) _).app _,_,tb,rfl,?_,(fun q n h=>by cases h;omega),by omega,((hx7.set (by omega) _).set (by omega) _).app _⟩
  rw[hpm0,e1]
  refine .inr ⟨b7.length+1,rfl,?_⟩
  have e2:[e0].flatMap enc=enc e0:=by simp
  rw[e2]
  exact aZ (by simp) _ 1
 ·have hqb1:=hqb7 q _ rfl
  have lL:=(zNt.1 hq).1
  refine gX (sc_InsN (af hq _) (aZ rfl _ 0) (by omega) (zT _ _) hl' (FA hT') hen1) ?_
  rintro y b8 ⟨rfl,rfl⟩
  have hb7:b.length+2<b7.length:=(zNt.1 qo).1
  have n0:q≠b.length:=by rintro rfl;rw[qc]at hq;cases hq
  have n2:q≠b.length+2:=by rintro rfl;rw[qo]at hq;cases hq
  have Ef:∀ (l:List ax) Z,(b7++l).set q Z=b7.set q Z++l:=fun l Z=>bS lL l Z
  have hq0:∀ Y,(b7.set q Y)[b.length]? = _:=fun Y=>aI qc n0 Y
  have eN:∀ Y (l:List ax) Z,(b7.set q Y++l).set b.length Z=(b7.set q Y).set b.length Z++l:=fun Y l Z=>bS (by rw[zNy];omega) l Z
  have B3:∀ Y Z,((b7.set q Y).set b.length Z)[b.length]? = some Z:=fun Y Z=>zNv (by rw[zNy];omega)
  have fY:∀ Y Z,((b7.set q Y).set b.length Z)[b.length+2]? = _:=fun Y Z=>aI (aI qo n2 Y) (by omega) Z
  have I1:∀ X Y (l:List ax) Z,((b7.set q X).set b.length Y++l).set (b.length+2) Z=((b7.set q X).set b.length Y).set (b.length+2) Z++l:=fun X Y l Z=>bS (by rw[zNy,zNy];omega) l Z
  have hs4:∀ X Y Z,(((b7.set q X).set b.length Y).set (b.length+2) Z)[b.length+2]? = some Z:=fun X Y Z=>zNv (by rw[zNy,zNy];omega)
  have hins:=enc_ins L' (gq En.key L' v.id.text) e0
  simp only[ad,↓Xn,↓Xo,↓Xg,↓Xd,↓Xe,↓Xf,Tryz.VΓ,Tryz.Γs,Xp,Xi,Nat.reduceAdd,Nat.reduceSub,Nat.reduceLT,Nat.reduceLeDiff,reduceIte,reduceCtorEq,Nat.reduceEqDiff,implies_true,forall_const,aa,av,beq_self_eq_true,bne_self_eq_false,Int.reduceBEq,Int.reduceBNe,Int.reduceLT,Int.reduceLE,l3,l6,l7,l8,Ef,af (hq0 _),eN,af (B3 _ _),af (fY _ _),I1,af (hs4 _ _ _)]
  have e1:LP=L'.take (gq En.key L' v.id.text)++[e0]++L'.drop (gq En.key L' v.id.text):=by
   rw[hLP,← put_ins ha' (by rw[hkx];exact hh'),hkx]
  have e2:LP.length=L'.length+1:=by
   have:=zT (key:=En.key) L' v.id.text
   rw[e1];simp;omega
  refine⟨(((cw.set hqb1 _).set (zNx _) _).set (by omega) _).app _,_,tb,rfl,?_,(fun q n h=>by cases h;omega),by omega,(((hx7.setE hX hq _).set (by omega) _).set (by omega) _).app _⟩
  rw[hpm0]
  refine .inr ⟨b7.length+1,by rw[e2],?_⟩
  rw[e2,e1,← hins,zNY]
  exact aZ (by simp) _ 1
theorem Dk {x:SV}{v:Vd}{vb:Bool}(h:fT b x L m)(pV:m=true∨L.length≠0∨x=.aE)(hl:L.length≤1000000)(hT:∀ e∈L,e.v.tr=.aE)(ha:mT En.key L)(hv:v.tr=.aE)(Ch:cp≤1024)
 (hid:PC Tryz.V 28 [.agg [.int .i64 v.id.kind,.str v.id.text,.str v.id.host,.int .i64 v.id.port]] (.bool vb)) :
 SU Tryz.V 17 [.agg [.int .i64 cp,x],.agg (cN v),.int .u64 now] b (fun r b'=>Kp b b'∧∃ x',r=.agg [.int .i64 cp,x']∧fT b' x' (Ig cp L v now vb) true):=by
 have e:{ v with tr:=SV.aE }=v:=by cases v;simp at hv;simp[hv]
 refine(EH (X:=[]) (fun _=>.aE) h pV hl hT ha (by rw[hv];rfl) (by rw[hv];rfl) Ch (.inl rfl) (fun _=>rfl) (fun b2 _=>?_) hid).mono ?_
 ·rw[e,zNH]
  exact(uA hv).scs
 ·rintro r b' ⟨hk,x',tb,rfl,hE,-,-⟩
  rw[e]at hE
  exact⟨hk,x',rfl,hE⟩
end
open Go Vc Go.RowKit Wf
theorem Gf (n:Int):PC Tryz.V 11 [.int .i64 n] (if n<0∨1024<n then .eS [.agg [.int .i64 0,.aE],.int .i64 4] else .eS [.agg [.int .i64 n,.aE],.int .i64 0]):=by
 split
 ·rename_i h
  refine aQ 3000 Tryz.func11 rfl Tryz.ntmps11 Tryz.results11 Tryz.call11 (by simp) (by simp[flat,flat.ai]) (by simp[flat,flat.ai]) ?_
  by_cases h1:n<0
  ·have hd:decide (n<0)=true:=by simpa using h1
   simp only[ad,↓Xn,↓Xo,↓Xg,↓Xd,↓Xe,↓Xf,Tryz.VΓ,Tryz.Γs,Xp,Xi,Nat.reduceAdd,Nat.reduceSub,Nat.reduceLT,Nat.reduceLeDiff,reduceIte,reduceCtorEq,Nat.reduceEqDiff,implies_true,forall_const,aa,beq_self_eq_true,bne_self_eq_false,Int.reduceBEq,Int.reduceBNe,Int.reduceLT,Int.reduceLE,hd]
  ·have hd:decide (n<0)=false:=by simpa using h1
   have nY:decide (1024<n)=true:=by simp;omega
   simp only[ad,↓Xn,↓Xo,↓Xg,↓Xd,↓Xe,↓Xf,Tryz.VΓ,Tryz.Γs,Xp,Xi,Nat.reduceAdd,Nat.reduceSub,Nat.reduceLT,Nat.reduceLeDiff,reduceIte,reduceCtorEq,Nat.reduceEqDiff,implies_true,forall_const,aa,beq_self_eq_true,bne_self_eq_false,Int.reduceBEq,Int.reduceBNe,Int.reduceLT,Int.reduceLE,hd,nY]
 ·rename_i h
  refine aQ 3000 Tryz.func11 rfl Tryz.ntmps11 Tryz.results11 Tryz.call11 (by simp) (by simp[flat,flat.ai]) (by simp[flat,flat.ai]) ?_
  have hd:decide (n<0)=false:=by simp;omega
  have nY:decide (1024<n)=false:=by simp;omega
  simp only[ad,↓Xn,↓Xo,↓Xg,↓Xd,↓Xe,↓Xf,Tryz.VΓ,Tryz.Γs,Xp,Xi,Nat.reduceAdd,Nat.reduceSub,Nat.reduceLT,Nat.reduceLeDiff,reduceIte,reduceCtorEq,Nat.reduceEqDiff,implies_true,forall_const,aa,beq_self_eq_true,bne_self_eq_false,Int.reduceBEq,Int.reduceBNe,Int.reduceLT,Int.reduceLE,hd,nY]
section
variable {b:List ax} {q:Nat} {L:List En} {m:Bool} {t:Bytes} {cp now:Int}
theorem sg {L:List En}{k:Nat}(hk:k<L.length)(h:decide (now<L[k].aS)=true):gl (L.take (k+1)) now=gl (L.take k) now++[L[k]]:=by
 unfold gl;rw[zNB hk,zNX]
 have:decide (L[k].aS≤now)=false:=by simp at h ⊢;omega
 simp[this]
theorem GW {L:List En}{k:Nat}(hk:k<L.length)(h:decide (now<L[k].aS)=false):gl (L.take (k+1)) now=gl (L.take k) now:=by
 unfold gl;rw[zNB hk,zNX]
 have:decide (L[k].aS≤now)=true:=by simp at h ⊢;omega
 simp[this]
theorem oQ {x:SV}(h:fT b x L m)(hl:L.length≤1000000)(wW:∀ e∈L,one e.v.tr=true) :
 SU Tryz.V 24 [.agg [.int .i64 cp,x],.int .u64 now] b (fun r b'=>Kp b b'∧∃ x',r=.agg [.int .i64 cp,x']∧fT b' x' (gl L now) true∧∀ q n,x'=.o q n→b.length≤q):=by
 have hw:=h.within
 have ho:=h.one
 have eO:∀ e,mc (.slice e) x=some (.int .i64 L.length):=fun e=>by
  rcases h with⟨rfl,rfl⟩|⟨q,rfl,-⟩ <;> rfl
 refine HM 3000 Tryz.func24 rfl Tryz.ntmps24 Tryz.results24 Tryz.call24 (by simp) (aw b.length _ (by simp[within,within.ay,hw])) ?_
 simp only[ad,↓Xn,↓Xo,↓Xg,↓Xd,↓Xe,↓Xf,Tryz.VΓ,Tryz.Γs,Xp,Xi,Nat.reduceAdd,Nat.reduceSub,Nat.reduceLT,Nat.reduceLeDiff,reduceIte,reduceCtorEq,Nat.reduceEqDiff,implies_true,forall_const,aa,av,beq_self_eq_true,bne_self_eq_false,Int.reduceBEq,Int.reduceBNe,Int.reduceLT,Int.reduceLE,ho,eO]
 refine aM (fun σ=>∃ (k:Nat) (x1:SV),lk 1 σ.t=some (.int .u64 now)∧lk 4 σ.t=some (.p (b.length+1) 0)∧lk 5 σ.t=some (.p (b.length+2) 0)∧lk 12 σ.t=some x∧lk 13 σ.t=some (.int .i64 L.length)∧lk 14 σ.t=some (.int .i64 k)∧k≤L.length∧Kp b σ.b∧σ.b[b.length+1]? = some (.cells [.int .i64 0,.aE] 24 true)∧σ.b[b.length+2]? = some (.cells [.int .i64 cp,x1] 24 true)∧fT σ.b x1 (gl (L.take k) now) true∧∀ q n,x1=.o q n→b.length≤q) (fun σ=>L.length - ja 14 σ) ?_ ?_
 ·exact⟨0,.aE,rfl,rfl,rfl,rfl,rfl,rfl,by omega,(Kp.refl _).app _,aZ rfl _ 1,aZ rfl _ 2,.inl ⟨rfl,rfl⟩,fun q n h=>by cases h⟩
 ·rintro⟨t',b1⟩ ⟨k,x1,l1,l4,l5,l12,l13,l14,hk,cw,q1,q2,hE,zE⟩
  simp only at l1 l4 l5 l12 l13 l14 cw q1 q2 hE
  rw[az l14]
  have ho1:=hE.one
  by_cases c:k<L.length
  ·have ci:decide ((k:Int)<(L.length:Int))=true:=by simpa using c
   obtain⟨q,rfl,hq⟩:∃ q,x=.o q L.length∧b[q]? = some (.own (L.flatMap enc) 43 14 L.length m):=by
    rcases h with⟨rfl,rfl⟩|h
    ·simp at c
    ·exact h
   have dp:=cw.at hq
   have dW:=jg L k c
   have fh:(enc L[k]).length=14:=rfl
   have fP:(enc L[k]).take 14=enc L[k]:=zNG (by rw[fh];omega)
   have hex:(enc L[k])[13]? = some (.int .u64 L[k].aS):=rfl
   have ic:(enc L[k]).all one=true:=by
    have:=wW _ (zNJ c)
    simp[enc,one]at this ⊢;exact this
   cases hd:decide (now<L[k].aS)
   ·simp only[ad,↓Xn,↓Xo,↓Xg,↓Xd,↓Xe,↓Xf,Tryz.VΓ,Tryz.Γs,Xp,Xi,Nat.reduceAdd,Nat.reduceSub,Nat.reduceLT,Nat.reduceLeDiff,reduceIte,reduceCtorEq,Nat.reduceEqDiff,implies_true,forall_const,aa,av,beq_self_eq_true,bne_self_eq_false,Int.reduceBEq,Int.reduceBNe,Int.reduceLT,Int.reduceLE,l1,l4,l5,l12,l13,l14,ci,dp,dW,fh,fP,hex,hd,zN6,List.drop_nil,List.drop_zero,zNH]
    refine⟨⟨by omega,by omega⟩,by rw[aT];omega,ic,by omega,⟨k+1,x1,rfl,by omega,cw.app _,af q1 _,af q2 _,by rw[GW c hd];exact hE.kp ((Kp.refl _).app _),zE⟩,?_⟩
    rw[az (show lk 14 _=some (.int .i64 ((k+1:Nat):Int)) from rfl)];omega
   ·have kR:b.length+2<b1.length:=(zNt.1 q2).1
    have eN:∀ (l:List ax) Z,(b1++l).set (b.length+2) Z=b1.set (b.length+2) Z++l:=fun l Z=>bS kR l Z
    have mJ:(gl (L.take k) now).length≤k:=by
     refine zN2 (List.length_filter_le _ _) ?_
     rw[zNw];omega
    rcases hE with⟨rfl,Ah⟩|⟨q3,rfl,pM⟩
    ·simp only[ad,↓Xn,↓Xo,↓Xg,↓Xd,↓Xe,↓Xf,Tryz.VΓ,Tryz.Γs,Xp,Xi,Nat.reduceAdd,Nat.reduceSub,Nat.reduceLT,Nat.reduceLeDiff,reduceIte,reduceCtorEq,Nat.reduceEqDiff,implies_true,forall_const,aa,av,beq_self_eq_true,bne_self_eq_false,Int.reduceBEq,Int.reduceBNe,Int.reduceLT,Int.reduceLE,l1,l4,l5,l12,l13,l14,ci,dp,dW,fh,fP,hex,hd,af q2,eN,zN6,List.drop_nil,List.drop_zero,zNH]
     have e1:gl (L.take (k+1)) now=[L[k]]:=by rw[sg c hd,Ah];rfl
     refine⟨⟨by omega,by omega⟩,by rw[aT];omega,ic,by decide,⟨ic,by decide,by decide⟩,by omega,⟨k+1,_,rfl,by omega,(cw.set (by omega) _).app _,af (aI q1 (by omega) _) _,af (zNv kR) _,.inr ⟨b1.length+2,by rw[e1];rfl,by rw[e1,show [L[k]].flatMap enc=enc L[k] by simp];exact aZ (by simp) _ 2⟩,fun q n h=>by cases h;omega⟩,?_⟩
     rw[az (show lk 14 _=some (.int .i64 ((k+1:Nat):Int)) from rfl)];omega
    ·have pL:=(zNt.1 pM).1
     have n2:q3≠b.length+2:=by rintro rfl;rw[q2]at pM;cases pM
     have n1:q3≠b.length+1:=by rintro rfl;rw[q1]at pM;cases pM
     have Ef:∀ (l:List ax) Z,(b1++l).set q3 Z=b1.set q3 Z++l:=fun l Z=>bS pL l Z
     have fY:∀ Y (l:List ax) Z,(b1.set q3 Y++l).set (b.length+2) Z=(b1.set q3 Y).set (b.length+2) Z++l:=fun Y l Z=>bS (by rw[zNy];omega) l Z
     have Ee:∀ Y,(b1.set q3 Y)[b.length+2]? = _:=fun Y=>aI q2 n2 Y
     simp only[ad,↓Xn,↓Xo,↓Xg,↓Xd,↓Xe,↓Xf,Tryz.VΓ,Tryz.Γs,Xp,Xi,Nat.reduceAdd,Nat.reduceSub,Nat.reduceLT,Nat.reduceLeDiff,reduceIte,reduceCtorEq,Nat.reduceEqDiff,implies_true,forall_const,aa,av,beq_self_eq_true,bne_self_eq_false,Int.reduceBEq,Int.reduceBNe,Int.reduceLT,Int.reduceLE,l1,l4,l5,l12,l13,l14,ci,dp,dW,fh,fP,hex,hd,af q2,af pM,eN,Ef,fY,af (Ee _),zN6,List.drop_nil,List.drop_zero,zNH]
     have e1:(gl (L.take (k+1)) now).length=(gl (L.take k) now).length+1:=by rw[sg c hd];simp
     have e2:(gl (L.take (k+1)) now).flatMap enc=(gl (L.take k) now).flatMap enc++enc L[k]:=by rw[sg c hd];simp
     refine⟨⟨by omega,by omega⟩,by rw[aT];omega,ic,by decide,⟨ic,by unfold maxLen;omega,by omega⟩,by omega,⟨k+1,_,rfl,by omega,((cw.set (zE _ _ rfl) _).set (by omega) _).app _,af (aI (aI q1 n1 _) (by omega) _) _,af (zNv (by rw[zNy];omega)) _,.inr ⟨b1.length+2,by rw[e1],by rw[e1,e2];exact aZ (by simp) _ 2⟩,fun q n h=>by cases h;omega⟩,?_⟩
     rw[az (show lk 14 _=some (.int .i64 ((k+1:Nat):Int)) from rfl)];omega
  ·have ci:decide ((k:Int)<(L.length:Int))=false:=by simpa using c
   obtain rfl:k=L.length:=by omega
   rw[zN4]at hE
   have hs:∀ X,(b1.set (b.length+1) X)[b.length+1]? = some X:=fun X=>zNv (zNt.1 q1).1
   simp only[ad,↓Xn,↓Xo,↓Xg,↓Xd,↓Xe,↓Xf,Tryz.VΓ,Tryz.Γs,Xp,Xi,Nat.reduceAdd,Nat.reduceSub,Nat.reduceLT,Nat.reduceLeDiff,reduceIte,reduceCtorEq,Nat.reduceEqDiff,implies_true,forall_const,aa,av,beq_self_eq_true,bne_self_eq_false,Int.reduceBEq,Int.reduceBNe,Int.reduceLT,Int.reduceLE,l1,l4,l5,l12,l13,l14,ci,q1,q2,hs,ho1]
   exact⟨cw.set (by omega) _,_,rfl,hE.Ds (by rintro q hq rfl;rw[q1]at hq;cases hq) _,zE⟩
theorem wD {x:SV}(h:fT b x L m)(hl:L.length≤1000000)(wW:∀ e∈L,one e.v.tr=true) :
 SC Tryz.V 24 [.agg [.int .i64 cp,x],.int .u64 now] b (fun r b'=>Kp b b'∧∃ x',r=.agg [.int .i64 cp,x']∧fT b' x' (gl L now) true∧∀ q n,x'=.o q n→b.length≤q):=(oQ h hl wW).sc
end
open Go Vc Go.RowKit Wf
section
variable {b:List ax} {v u:Vd}
theorem kW (h1:one v.tr=true)(hw:within b.length v.tr=true):SC Tryz.V 30 [.agg (cN v)] b (fun r b'=>r=.bool (ie v&&cO v.id)∧b'=b):=by
 refine dw rfl ?_
 have hid:=zg v.id
 unfold ix at hid
 obtain⟨vb,hvb⟩:∃ vb,vb=cO v.id:=⟨_,rfl⟩
 rw[← hvb]at hid ⊢
 unfold cN ie
 refine cz 3000 Tryz.func30 rfl Tryz.ntmps30 Tryz.results30 Tryz.call30 (by simp) (aw b.length _ (by simp[within,within.ay,hw])) ?_
 generalize v.store=s
 cases c1:v.err==0
 ·simp only[ad,↓Xn,↓Xo,↓Xg,↓Xd,↓Xe,↓Xf,Tryz.VΓ,Tryz.Γs,Xp,Xi,Nat.reduceAdd,Nat.reduceSub,Nat.reduceLT,Nat.reduceLeDiff,reduceIte,reduceCtorEq,Nat.reduceEqDiff,implies_true,forall_const,aa,av,beq_self_eq_true,bne_self_eq_false,Int.reduceBEq,Int.reduceBNe,Int.reduceLT,Int.reduceLE,h1,c1]
  exact(Kp.refl _).app _
 ·cases s
  ·simp only[ad,↓Xn,↓Xo,↓Xg,↓Xd,↓Xe,↓Xf,Tryz.VΓ,Tryz.Γs,Xp,Xi,Nat.reduceAdd,Nat.reduceSub,Nat.reduceLT,Nat.reduceLeDiff,reduceIte,reduceCtorEq,Nat.reduceEqDiff,implies_true,forall_const,aa,av,beq_self_eq_true,bne_self_eq_false,Int.reduceBEq,Int.reduceBNe,Int.reduceLT,Int.reduceLE,h1,c1]
   exact(Kp.refl _).app _
  ·cases c2:decide (1≤v.df)
   ·simp only[ad,↓Xn,↓Xo,↓Xg,↓Xd,↓Xe,↓Xf,Tryz.VΓ,Tryz.Γs,Xp,Xi,Nat.reduceAdd,Nat.reduceSub,Nat.reduceLT,Nat.reduceLeDiff,reduceIte,reduceCtorEq,Nat.reduceEqDiff,implies_true,forall_const,aa,av,beq_self_eq_true,bne_self_eq_false,Int.reduceBEq,Int.reduceBNe,Int.reduceLT,Int.reduceLE,h1,c1,c2]
    exact(Kp.refl _).app _
   ·cases c3:decide (v.df≤86400)
    ·simp only[ad,↓Xn,↓Xo,↓Xg,↓Xd,↓Xe,↓Xf,Tryz.VΓ,Tryz.Γs,Xp,Xi,Nat.reduceAdd,Nat.reduceSub,Nat.reduceLT,Nat.reduceLeDiff,reduceIte,reduceCtorEq,Nat.reduceEqDiff,implies_true,forall_const,aa,av,beq_self_eq_true,bne_self_eq_false,Int.reduceBEq,Int.reduceBNe,Int.reduceLT,Int.reduceLE,h1,c1,c2,c3]
     exact(Kp.refl _).app _
    ·simp only[ad,↓Xn,↓Xo,↓Xg,↓Xd,↓Xe,↓Xf,Tryz.VΓ,Tryz.Γs,Xp,Xi,Nat.reduceAdd,Nat.reduceSub,Nat.reduceLT,Nat.reduceLeDiff,reduceIte,reduceCtorEq,Nat.reduceEqDiff,implies_true,forall_const,aa,av,beq_self_eq_true,bne_self_eq_false,Int.reduceBEq,Int.reduceBNe,Int.reduceLT,Int.reduceLE,h1,c1,c2,c3]
     refine ae hid ?_
     simp only[ad,↓Xn,↓Xo,↓Xg,↓Xd,↓Xe,↓Xf,Tryz.VΓ,Tryz.Γs,Xp,Xi,Nat.reduceAdd,Nat.reduceSub,Nat.reduceLT,Nat.reduceLeDiff,reduceIte,reduceCtorEq,Nat.reduceEqDiff,implies_true,forall_const,aa,av,beq_self_eq_true,bne_self_eq_false,Int.reduceBEq,Int.reduceBNe,Int.reduceLT,Int.reduceLE,h1,c1,c2,c3]
     exact(Kp.refl _).app _
theorem zm:PC Tryz.V 41 [.aE,.aE] (.bool true):=by
 refine aQ 3000 Tryz.func41 rfl Tryz.ntmps41 Tryz.results41 Tryz.call41 (by simp) (by simp[flat,flat.ai]) (by simp[flat,flat.ai]) ?_
 simp only[ad,↓Xn,↓Xo,↓Xg,↓Xd,↓Xe,↓Xf,Tryz.VΓ,Tryz.Γs,Xp,Xi,Nat.reduceAdd,Nat.reduceSub,Nat.reduceLT,Nat.reduceLeDiff,reduceIte,reduceCtorEq,Nat.reduceEqDiff,implies_true,forall_const,aa,beq_self_eq_true,bne_self_eq_false,Int.reduceBEq,Int.reduceBNe,Int.reduceLT,Int.reduceLE]
 refine aM (fun σ=>lk 12 σ.t=some (.int .i64 0)∧lk 13 σ.t=some (.int .i64 0)) (fun σ=>0) ⟨rfl,rfl⟩ ?_
 rintro⟨t,b⟩ ⟨l12,l13⟩
 simp only at l12 l13
 simp only[ad,↓Xn,↓Xo,↓Xg,↓Xd,↓Xe,↓Xf,Tryz.VΓ,Tryz.Γs,Xp,Xi,Nat.reduceAdd,Nat.reduceSub,Nat.reduceLT,Nat.reduceLeDiff,reduceIte,reduceCtorEq,Nat.reduceEqDiff,implies_true,forall_const,aa,beq_self_eq_true,bne_self_eq_false,Int.reduceBEq,Int.reduceBNe,Int.reduceLT,Int.reduceLE,l12,l13]
def EN (v u:Vd):Bool:=v.err==u.err&&(decide (v.id=u.id)&&(decide (v.bE=u.bE)&&(v.store==u.store&&v.df==u.df)))
theorem DJ (hv:v.tr=.aE)(hu:u.tr=.aE):PC Tryz.V 22 [.agg (cN v),.agg (cN u)] (.bool (EN v u)):=by
 rw[kG v hv,kG u hu]
 unfold EN
 rw[← zC,← zC]
 refine aQ 3000 Tryz.func22 rfl Tryz.ntmps22 Tryz.results22 Tryz.call22 (by simp) (by simp[flat,flat.ai]) (by simp[flat,flat.ai]) ?_
 cases c1:v.err==u.err
 ·simp only[ad,↓Xn,↓Xo,↓Xg,↓Xd,↓Xe,↓Xf,Tryz.VΓ,Tryz.Γs,Xp,Xi,Nat.reduceAdd,Nat.reduceSub,Nat.reduceLT,Nat.reduceLeDiff,reduceIte,reduceCtorEq,Nat.reduceEqDiff,implies_true,forall_const,aa,rQ,beq_self_eq_true,bne_self_eq_false,Int.reduceBEq,Int.reduceBNe,Int.reduceLT,Int.reduceLE,c1]
 ·cases c2:(v.id.kind==u.id.kind&&(v.id.text==u.id.text&&(v.id.host==u.id.host&&v.id.port==u.id.port)))
  ·simp only[ad,↓Xn,↓Xo,↓Xg,↓Xd,↓Xe,↓Xf,Tryz.VΓ,Tryz.Γs,Xp,Xi,Nat.reduceAdd,Nat.reduceSub,Nat.reduceLT,Nat.reduceLeDiff,reduceIte,reduceCtorEq,Nat.reduceEqDiff,implies_true,forall_const,aa,rQ,beq_self_eq_true,bne_self_eq_false,Int.reduceBEq,Int.reduceBNe,Int.reduceLT,Int.reduceLE,c1,c2]
  ·cases c3:(v.bE.kind==u.bE.kind&&(v.bE.text==u.bE.text&&(v.bE.host==u.bE.host&&v.bE.port==u.bE.port)))
   ·simp only[ad,↓Xn,↓Xo,↓Xg,↓Xd,↓Xe,↓Xf,Tryz.VΓ,Tryz.Γs,Xp,Xi,Nat.reduceAdd,Nat.reduceSub,Nat.reduceLT,Nat.reduceLeDiff,reduceIte,reduceCtorEq,Nat.reduceEqDiff,implies_true,forall_const,aa,rQ,beq_self_eq_true,bne_self_eq_false,Int.reduceBEq,Int.reduceBNe,Int.reduceLT,Int.reduceLE,c1,c2,c3]
   ·cases c4:(v.store==u.store&&v.df==u.df)
    ·simp only[ad,↓Xn,↓Xo,↓Xg,↓Xd,↓Xe,↓Xf,Tryz.VΓ,Tryz.Γs,Xp,Xi,Nat.reduceAdd,Nat.reduceSub,Nat.reduceLT,Nat.reduceLeDiff,reduceIte,reduceCtorEq,Nat.reduceEqDiff,implies_true,forall_const,aa,rQ,beq_self_eq_true,bne_self_eq_false,Int.reduceBEq,Int.reduceBNe,Int.reduceLT,Int.reduceLE,c1,c2,c3,c4]
    ·simp only[ad,↓Xn,↓Xo,↓Xg,↓Xd,↓Xe,↓Xf,Tryz.VΓ,Tryz.Γs,Xp,Xi,Nat.reduceAdd,Nat.reduceSub,Nat.reduceLT,Nat.reduceLeDiff,reduceIte,reduceCtorEq,Nat.reduceEqDiff,implies_true,forall_const,aa,rQ,beq_self_eq_true,bne_self_eq_false,Int.reduceBEq,Int.reduceBNe,Int.reduceLT,Int.reduceLE,c1,c2,c3,c4]
     refine ae zm ?_
     simp only[ad,↓Xn,↓Xo,↓Xg,↓Xd,↓Xe,↓Xf,Tryz.VΓ,Tryz.Γs,Xp,Xi,Nat.reduceAdd,Nat.reduceSub,Nat.reduceLT,Nat.reduceLeDiff,reduceIte,reduceCtorEq,Nat.reduceEqDiff,implies_true,forall_const,aa,rQ,beq_self_eq_true,bne_self_eq_false,Int.reduceBEq,Int.reduceBNe,Int.reduceLT,Int.reduceLE,c1,c2,c3,c4]
end
open Go Vc Go.RowKit Wf Go.Shelf Go.Lib
def ql:Go.Shelf.Ren:=⟨fun|41=>55|n=>n,fun|4=>4|22=>39|23=>93|n=>n,fun n=>n⟩
theorem IB:SlLaysE0.n41 Tryz.prog ql:={
 mixed:=by kernel_rfl
 f41 := ⟨Tryz.f55.name, by kernel_rfl, Tryz.func55.trans (congrArg some (by kernel_rfl))⟩
 t4:=Tryz.underlying4
 a4:=Tryz.isAgg4
 z4:=Tryz.sizeOf4
 v4:=Tryz.zeroValue4
 t22:=Tryz.underlying39
 a22:=Tryz.isAgg39
 z22:=Tryz.sizeOf39
 v22:=Tryz.zeroValue39 }
set_option maxRecDepth 100000 in
theorem CI (i0:TypeInfo)(z:Value)(size bytes:Nat)(hi:Tryz.prog.info? 93=some i0)(wh:i0.zero=some z)(mN:i0.size=size)(hz2:i0.bytes=bytes)(rm:z.cells.size=size)(jZ:0<size)
 (z23:∀ w,(Go.sizeOf 93).run Tryz.prog w=.ok size w) (a:Addr) (c:Nat) (w:World) :
 Calls Tryz.prog 55 #[.slice (some a) 0 c] w fun e w'=>∃ v',e=.returned v'∧w'.ownsRow w.heap.size 93 size v' 0 []∧v'≠.slice none 0 0∧Below w.heap.size w w':=by
 have L:=IB
 have mixed:=L.mixed;have t4:=L.t4;have a4:=L.a4;have z4:=L.z4;have v4:=L.v4;have t22:=L.t22;have a22:=L.a22;have z22:=L.z22;have v22:=L.v22
 have q22:∀ (w:World) (a:Option Addr) (n c n' c':Nat),(binOp .eql (ql.t 22) (.slice a n c) (.slice none n' c')).run Tryz.prog w=.ok (.bool a.isNone) w:=fun w a n c n' c'=>Lib.run_eql_slice_nil w _ _ a n c n' c' L.t22
 have u22:∀ w,Sem.run Tryz.prog (underlying (ql.t 22)) w=.ok (TypeDesc.slice (ql.t 23)) w:=run_underlying t22
 have z23':∀ w,(Go.sizeOf (ql.t 23)).run Tryz.prog w=.ok size w:=z23
 obtain⟨_,_,FG⟩:=L.f41
 show Calls Tryz.prog (ql.f 41) #[.slice (some a) 0 c] w _
 go_enter FG,SlBodyN.n41_ntmps ql
 go_wp2_with (at_builtin;refine wpList_append_own _ rfl _ _ (ql.t 22) rfl w.heap.size (ql.t 23) i0 z size bytes t22 hi wh mN hz2 rm jZ _ _ _ rfl (World.ownsRow_made w #[] 0 (zNx _) (Nat.zero_le _) (by simp)) a 0 c [] rfl ?qc1 ?qc2 ?qc3 ?qc4 ?qc5 ?qc6 ?_)
 case qc1=>simp
 case qc2 =>
  intro j u hj
  simp at hj
 case qc3=>simp
 case qc4=>simp
 case qc5=>simp
 case qc6=>simp
 intro v' w1 ln hgrow hnil
 go_wp2
 go_ret
 refine⟨v',rfl,ln,?_,?_⟩
 ·exact hnil
 ·exact((Below.refl _ w).alloc (zNx _) _).grown hgrow (by simp) (by intro k hk;simp[Value.ownBlock]at hk;omega)
theorem F9 {b:List ax}{q n:Nat}{c:List SV}{m:Bool}(hq:b[q]? = some (.own c 93 9 n m))(h1:c.all one=true)(hl:n≤1000000):SC Tryz.V 55 [.o q n] b (fun r b'=>r=.o b.length n∧b'=b++[.own c 93 9 n true]):=by
 refine yJ (V:=Tryz.V) (f:=55) Tryz.call55 fun β fp w fQ hE=>?_
 have hh:=(fQ β (bw.refl _ _)).holds q _ hq
 have fI:=fun β' hβ=>oy (β':=β') fQ hβ hq
 clear fQ hE
 have co:∀ v∈c.map (ah β),v.oneCell'=true:=fun v hv=>by
  obtain⟨y,hy,rfl⟩:=List.mem_map.1 hv
  exact fv (zNK.1 h1 y hy) β
 obtain⟨i0,z,rT,wh,eN,rm,oE⟩:∃ (i:TypeInfo) (z:Value),Tryz.prog.info? 93=some i∧i.zero=some z∧i.size=9∧z.cells.size=9∧i.bytes=96:=by
  obtain⟨i0,z,hi,hz,his,oE,BY⟩:=Tryz.ty93.info
  exact⟨i0,z,hi,hz,his,by rw[BY];rfl,oE⟩
 have fin:∀ (v':Value) (w':World),w'.ownsRow w.heap.size 93 9 v' n (c.map (ah β))→v'≠.slice none 0 0→Below w.heap.size w w'→c.length=n * 9→∃ b2 f2,v'=oV b2 n∧Below w.heap.size w w'∧(∀ (β':Nat→Bt),bw (b.length+1) (mY β b.length b2) β'→Holds β' b2 f2 w' (.own c 93 9 n true))∧∀ (k:Nat),f2 k→w.heap.size≤k∧k<w'.heap.size:=by
  rintro v' w' ⟨hln,ln⟩ hnn rZ dB
  rcases ln with⟨rfl,-⟩|⟨g,cap,cur,rfl,hg,Ca,Jb,hcm2,Jn,IZ⟩
  ·exact absurd rfl hnn
  have hgl:g<w'.heap.size:=(zNR.1 Ca).1
  refine⟨⟨g,0,cap+1⟩,(·=g),by simp[oV],rZ,fun β' hβ=>?_,?_⟩
  ·refine dF (rest:=cur.toList.drop (n * 9)) (fz:=(0,0)) ?_ (.inr (.inl (zNx _))) dB Jb hcm2 ?_
   ·rw[← fI β' hβ.dy,← IZ,zNQ,Array.toArray_toList];exact Ca
   ·rw[dB,zNA,zNN,Jn]
    have:n * 9≤cap * 9:=zNU _ Jb
    omega
  ·rintro k rfl
   exact⟨hg,hgl⟩
 rcases hh with⟨fR,rfl,rfl,hnf,hbk⟩|⟨fR,Jc,vu,dB,Jf,hm,qN⟩
 ·cases hn:nJ (β q) with
  | none =>
    have e0:(aG β [.o q 0]).toArray=#[.slice none 0 0]:=by simp[aG,ah,oV,fR,hn]
    rw[e0]
    refine(AnyE.slices_Clone_nil IB 0 0 w).mono ?_
    rintro e w' ⟨rfl,rfl⟩
    exact⟨⟨0,0,0⟩,fun _=>False,by simp[oV,nJ],Below.refl _ _,fun β' hβ=>holds_nil,fun k hk=>hk.elim⟩
  | some a =>
    have e0:(aG β [.o q 0]).toArray=#[.slice (some a) 0 0]:=by simp[aG,ah,oV,fR,hn]
    rw[e0]
    exact(CI i0 z 9 96 rT wh eN oE rm (by omega) Tryz.sizeOf93 a 0 w).mono fun e w' ⟨v',e1,h1,h2,h3⟩=>by
     obtain⟨b2,f2,e2,h⟩:=fin v' w' h1 h2 h3 rfl
     exact⟨b2,f2,by rw[e1,e2],h⟩
 ·have e0:(aG β [.o q n]).toArray=#[.slice (some ⟨(β q).cE,(β q).off,none⟩) n ((β q).cap - 1)]:=by simp[aG,ah,oV,fR]
  rw[e0]
  exact(AnyE.slices_Clone IB i0 z 9 96 rT wh eN oE rm (by omega) Tryz.sizeOf93 (β q).cE (β q).off n ((β q).cap - 1) (c.map (ah β)) w (by simpa using dB) (by unfold maxLen;omega) (by omega) Jf co).mono fun e w' ⟨v',e1,h1,h2,h3⟩=>by
   obtain⟨b2,f2,e2,h⟩:=fin v' w' h1 h2 h3 dB
   exact⟨b2,f2,by rw[e1,e2],h⟩
theorem Dx {b:List ax}{v:Vd}{q n:Nat}{c:List SV}{m:Bool}(hv:v.tr=.o q n)(hq:b[q]? = some (.own c 93 9 n m))(h1:c.all one=true)(hw:within.ay 0 c=true)(hl:n≤1000000) :
 SC Tryz.V 34 [.agg (cN v)] b (fun r b'=>r=.agg (cN { v with tr:=.o b.length n })∧b'=b++[.own c 93 9 n false]):=by
 have lL:=(zNt.1 hq).1
 have he:cN v=[.int .i64 v.err,.int .i64 v.id.kind,.str v.id.text,.str v.id.host,.int .i64 v.id.port,.int .i64 v.bE.kind,.str v.bE.text,.str v.bE.host,.int .i64 v.bE.port,.bool v.store,.int .u64 v.df,.o q n]:=by unfold cN;rw[hv]
 have hs:SC Tryz.V 34 [.agg (cN v)] b (fun r b'=>∃ q',r=.agg (cN { v with tr:=.o q' n })∧Kp b b'∧b.length≤q'∧b'[q']? = some (.own c 93 9 n true)):=by
  rw[he]
  unfold cN
  refine cz 3000 Tryz.func34 rfl Tryz.ntmps34 Tryz.results34 Tryz.call34 (by simp) (aw b.length _ (by simp[within,within.ay,lL])) ?_
  simp only[ad,↓Xn,↓Xo,↓Xg,↓Xd,↓Xe,↓Xf,Tryz.VΓ,Tryz.Γs,Xp,Xi,Nat.reduceAdd,Nat.reduceSub,Nat.reduceLT,Nat.reduceLeDiff,reduceIte,reduceCtorEq,Nat.reduceEqDiff,implies_true,forall_const,aa,av,beq_self_eq_true,bne_self_eq_false,Int.reduceBEq,Int.reduceBNe,Int.reduceLT,Int.reduceLE,hq]
  refine aJ (F9 (af hq _) h1 hl) ?_
  rintro y b1 ⟨rfl,rfl⟩
  simp only[ad,↓Xn,↓Xo,↓Xg,↓Xd,↓Xe,↓Xf,Tryz.VΓ,Tryz.Γs,Xp,Xi,Nat.reduceAdd,Nat.reduceSub,Nat.reduceLT,Nat.reduceLeDiff,reduceIte,reduceCtorEq,Nat.reduceEqDiff,implies_true,forall_const,aa,av,beq_self_eq_true,bne_self_eq_false,Int.reduceBEq,Int.reduceBNe,Int.reduceLT,Int.reduceLE,hq]
  exact⟨b.length+2,rfl,(Kp.refl _).app _,by omega,aZ rfl _ 2⟩
 refine SC.pick (hs.mono ?_)
 rintro r b' ⟨q',rfl,cw,hle,hq'⟩
 refine⟨fun k=>if k=b.length then q' else k,[.own c 93 9 n false],.agg (cN { v with tr:=.o b.length n }),cw,fun k hk=>if_neg (by omega),?_,by simp[EP,je,cN],by simp[within,within.ay,cN],rfl,rfl⟩
 intro p X hX
 match p,hX with
 | 0,hX =>
   simp only[zNW,Option.some.injEq]at hX
   subst hX
   refine .inr ⟨_,_,_,_,true,rfl,by simp;omega,?_,cg (Nat.zero_le _) _ hw⟩
   rw[db (m:=0) (fun k hk=>by omega) _ hw]
   simpa using hq'
 | p+1,hX=>simp at hX
structure Xc where
 h:Bytes
 p:Int
 pa:Bytes
 q:Bytes
 f:Bytes
 hq:Bool
 hf:Bool
 st:Int
 er:Int
def xc (x:Xc):List SV:=[.str x.h,.int .i64 x.p,.str x.pa,.str x.q,.str x.f,.bool x.hq,.bool x.hf,.int .i64 x.st,.int .i64 x.er]
theorem xc_at (R:List Xc)(k:Nat)(h:k<R.length):((R.flatMap xc).drop (k * 9)).take 9=xc R[k]:=tH xc 9 (fun _=>rfl) R k h
theorem C9 (R:List Xc):(R.flatMap xc).length=R.length * 9:=nt xc 9 (fun _=>rfl) R
theorem xc_one (R:List Xc):(R.flatMap xc).all one=true:=by
 rw[zNK]
 intro x hx
 obtain⟨e,-,hx⟩:=List.mem_flatMap.1 hx
 simp[xc]at hx
 rcases hx with rfl|rfl|rfl|rfl|rfl|rfl|rfl|rfl|rfl <;> rfl
theorem xi (R:List Xc):within.ay 0 (R.flatMap xc)=true:=by
 induction R with
 | nil=>rfl
 | cons e R ih=>rw[zNT];simpa[xc,within.ay,within] using ih
def C8 (b:List ax)(x:SV)(R:List Xc):Prop:=(x=.aE∧R=[])∨∃ q m,x=.o q R.length∧b[q]? = some (.own (R.flatMap xc) 93 9 R.length m)
theorem C8.kp {b b':List ax}{x:SV}{R:List Xc}(h:C8 b x R)(k:Kp b b'):C8 b' x R:=by
 rcases h with h|⟨q,m,rfl,hq⟩
 ·exact .inl h
 ·exact .inr ⟨q,m,rfl,k.at hq⟩
theorem C8.one {b:List ax}{x:SV}{R:List Xc}(h:C8 b x R):one x=true:=by
 rcases h with⟨rfl,-⟩|⟨q,m,rfl,-⟩ <;> rfl
theorem C8.within {b:List ax}{x:SV}{R:List Xc}(h:C8 b x R):within b.length x=true:=by
 rcases h with⟨rfl,-⟩|⟨q,m,rfl,hq⟩
 ·rfl
 ·simpa[Vc.within] using(zNt.1 hq).1
theorem C8.len {b:List ax}{x:SV}{R:List Xc}(h:C8 b x R)(e:TypeId):mc (.slice e) x=some (.int .i64 R.length):=by
 rcases h with⟨rfl,rfl⟩|⟨q,m,rfl,-⟩ <;> rfl
theorem yN {b:List ax}{x y:SV}{R:List Xc}(hx:C8 b x R)(hy:C8 b y R)(hl:R.length≤1000000):SC Tryz.V 41 [x,y] b (fun r b'=>r=.bool true∧b'=b):=by
 have hw:=hx.within
 have eD:=hy.within
 have hlx:=hx.len
 have hly:=hy.len
 have e2:((R.length:Int) != (R.length:Int))=false:=by simp
 refine cz 3000 Tryz.func41 rfl Tryz.ntmps41 Tryz.results41 Tryz.call41 (by simp) (aw b.length _ (by simp[Vc.within,within.ay,hw,eD])) ?_
 simp only[ad,↓Xn,↓Xo,↓Xg,↓Xd,↓Xe,↓Xf,Tryz.VΓ,Tryz.Γs,Xp,Xi,Nat.reduceAdd,Nat.reduceSub,Nat.reduceLT,Nat.reduceLeDiff,reduceIte,reduceCtorEq,Nat.reduceEqDiff,implies_true,forall_const,aa,av,beq_self_eq_true,bne_self_eq_false,Int.reduceBEq,Int.reduceBNe,Int.reduceLT,Int.reduceLE,hlx,hly,e2]
 refine aM (fun σ=>∃ (i:Nat),lk 0 σ.t=some x∧lk 1 σ.t=some y∧lk 12 σ.t=some (.int .i64 R.length)∧lk 13 σ.t=some (.int .i64 i)∧i≤R.length∧σ.b=b) (fun σ=>R.length - ja 13 σ) ⟨0,rfl,rfl,rfl,rfl,by omega,rfl⟩ ?_
 rintro⟨t1,b1⟩ ⟨i,l0,l1,l12,l13,hi,rfl⟩
 simp only at l0 l1 l12 l13
 rw[az l13]
 by_cases c:i<R.length
 ·have ci:decide ((i:Int)<(R.length:Int))=true:=by simpa using c
  obtain⟨q,m,rfl,hq⟩:∃ q m,x=.o q R.length∧b1[q]? = some (.own (R.flatMap xc) 93 9 R.length m):=by
   rcases hx with⟨rfl,rfl⟩|h
   ·simp at c
   ·exact h
  obtain⟨q2,m2,rfl,pN⟩:∃ q m,y=.o q R.length∧b1[q]? = some (.own (R.flatMap xc) 93 9 R.length m):=by
   rcases hy with⟨rfl,rfl⟩|h
   ·simp at c
   ·exact h
  have dW:=xc_at R i c
  have hxe:xc R[i]=[.str R[i].h,.int .i64 R[i].p,.str R[i].pa,.str R[i].q,.str R[i].f,.bool R[i].hq,.bool R[i].hf,.int .i64 R[i].st,.int .i64 R[i].er]:=rfl
  rw[hxe]at dW
  simp only[ad,↓Xn,↓Xo,↓Xg,↓Xd,↓Xe,↓Xf,Tryz.VΓ,Tryz.Γs,Xp,Xi,Nat.reduceAdd,Nat.reduceSub,Nat.reduceLT,Nat.reduceLeDiff,reduceIte,reduceCtorEq,Nat.reduceEqDiff,implies_true,forall_const,aa,av,beq_self_eq_true,bne_self_eq_false,Int.reduceBEq,Int.reduceBNe,Int.reduceLT,Int.reduceLE,l0,l1,l12,l13,ci,hq,pN,dW]
  refine⟨⟨by omega,by omega⟩,by rw[C9];omega,⟨by omega,by omega⟩,by rw[C9];omega,aq (by kernel_rfl),by omega,⟨i+1,rfl,by omega⟩,?_⟩
  rw[az (show lk 13 _=some (.int .i64 ((i+1:Nat):Int)) from rfl)];omega
 ·have ci:decide ((i:Int)<(R.length:Int))=false:=by simpa using c
  simp only[ad,↓Xn,↓Xo,↓Xg,↓Xd,↓Xe,↓Xf,Tryz.VΓ,Tryz.Γs,Xp,Xi,Nat.reduceAdd,Nat.reduceSub,Nat.reduceLT,Nat.reduceLeDiff,reduceIte,reduceCtorEq,Nat.reduceEqDiff,implies_true,forall_const,aa,av,beq_self_eq_true,bne_self_eq_false,Int.reduceBEq,Int.reduceBNe,Int.reduceLT,Int.reduceLE,l0,l1,l12,l13,ci]
theorem AL {b:List ax}{v:Vd}{x:SV}{R:List Xc}(hx:C8 b v.tr R)(hy:C8 b x R)(hl:R.length≤1000000):SC Tryz.V 22 [.agg (cN v),.agg (cN { v with tr:=x })] b (fun r b'=>r=.bool true∧b'=b):=by
 refine dw rfl ?_
 have hw:=hx.within
 have eD:=hy.within
 have ho:=hx.one
 have kU:=hy.one
 unfold cN
 refine cz 3000 Tryz.func22 rfl Tryz.ntmps22 Tryz.results22 Tryz.call22 (by simp) (aw b.length _ (by simp[Vc.within,within.ay,hw,eD])) ?_
 have c1:(v.err==v.err)=true:=by simp
 have c2:(v.id.kind==v.id.kind&&(v.id.text==v.id.text&&(v.id.host==v.id.host&&v.id.port==v.id.port)))=true:=by simp
 have c3:(v.bE.kind==v.bE.kind&&(v.bE.text==v.bE.text&&(v.bE.host==v.bE.host&&v.bE.port==v.bE.port)))=true:=by simp
 have c4:(v.store==v.store&&v.df==v.df)=true:=by simp
 simp only[ad,↓Xn,↓Xo,↓Xg,↓Xd,↓Xe,↓Xf,Tryz.VΓ,Tryz.Γs,Xp,Xi,Nat.reduceAdd,Nat.reduceSub,Nat.reduceLT,Nat.reduceLeDiff,reduceIte,reduceCtorEq,Nat.reduceEqDiff,implies_true,forall_const,aa,av,beq_self_eq_true,bne_self_eq_false,Int.reduceBEq,Int.reduceBNe,Int.reduceLT,Int.reduceLE,ho,kU,c1,c2,c3,c4]
 refine aJ (yN (hx.kp ((Kp.refl _).app _)) (hy.kp ((Kp.refl _).app _)) hl) ?_
 rintro z b1 ⟨rfl,rfl⟩
 simp only[ad,↓Xn,↓Xo,↓Xg,↓Xd,↓Xe,↓Xf,Tryz.VΓ,Tryz.Γs,Xp,Xi,Nat.reduceAdd,Nat.reduceSub,Nat.reduceLT,Nat.reduceLeDiff,reduceIte,reduceCtorEq,Nat.reduceEqDiff,implies_true,forall_const,aa,av,beq_self_eq_true,bne_self_eq_false,Int.reduceBEq,Int.reduceBNe,Int.reduceLT,Int.reduceLE,c1,c2,c3,c4]
 exact(Kp.refl _).app _
open Go Vc Go.RowKit Wf
def pw (n:Nat):Bytes:=([97,99,99,116,58,117]:List UInt8)++([UInt8.ofNat (97+n % 20)]++([64,97,46,101,120,97,109,112,108,101]:List UInt8))
def vId (n:Nat):jE:=⟨1,pw n,([97,46,101,120,97,109,112,108,101]:List UInt8),0⟩
def vV (n:Nat)(s:Int):Vd:=⟨0,vId n,jE.none,true,s,.aE⟩
theorem Ao (n:Nat):pw (n % 20)=pw n:=by simp[pw]
theorem vId_mod (n:Nat):vId (n % 20)=vId n:=by simp[vId,Ao]
theorem xq (n:Nat):bK (pw n)=(vId n,0):=by
 have h:∀ m<20,bK (pw m)=(vId m,0):=by decide +kernel
 have:=h (n % 20) (Nat.mod_lt _ (by decide))
 rwa [Ao,vId_mod]at this
theorem xp (n:Nat):cO (vId n)=true:=by
 unfold cO
 rw[decide_eq_true_eq]
 exact xq n
theorem iu (n:Nat)(s:Int)(hn:n<1000):PC Tryz.V 16 [.int .i64 n,.int .u64 s] (.agg (cN (vV n s))):=by
 have hp:=sI (pw n)
 rw[xq n]at hp
 unfold ix vId pw at hp
 unfold cN vV vId pw jE.none
 have hr:vF .rem .i64 (n:Int) 20=((n % 20:Nat):Int):=by
  have:vF .rem .i64 (n:Int) 20=(n:Int) % 20:=Int.tmod_eq_emod_of_nonneg (a:=(n:Int)) (b:=20) (by omega)
  rw[this];omega
 have aB:n % 20<20:=Nat.mod_lt _ (by decide)
 have hw:IntKind.u8.wrap (97+((n % 20:Nat):Int))=((97+n % 20:Nat):Int):=by
  simp[IntKind.wrap,IntKind.bits,IntKind.signed];omega
 have hu:wy (.int .u8 ((97+n % 20:Nat):Int))=UInt8.ofNat (97+n % 20):=by
  show UInt8.ofNat (((97+n % 20:Nat):Int)).toNat=_
  rw[Int.toNat_natCast]
 refine aQ 3000 Tryz.func16 rfl Tryz.ntmps16 Tryz.results16 Tryz.call16 (by simp) (by simp[flat,flat.ai]) (by simp[flat,flat.ai]) ?_
 simp only[ad,↓Xn,↓Xo,↓Xg,↓Xd,↓Xe,↓Xf,Tryz.VΓ,Tryz.Γs,Xp,Xi,Nat.reduceAdd,Nat.reduceSub,Nat.reduceLT,Nat.reduceLeDiff,reduceIte,reduceCtorEq,Nat.reduceEqDiff,implies_true,forall_const,aa,rQ,beq_self_eq_true,bne_self_eq_false,Int.reduceBEq,Int.reduceBNe,Int.reduceLT,Int.reduceLE,hr,hw,hu]
 refine⟨by decide,⟨by omega,by omega⟩,by decide,by simp[DY];omega,?_⟩
 (refine ae (hp) ?_;simp only[ad,↓Xn,↓Xo,↓Xg,↓Xd,↓Xe,↓Xf,Tryz.VΓ,Tryz.Γs,Xp,Xi,Nat.reduceAdd,Nat.reduceSub,Nat.reduceLT,Nat.reduceLeDiff,reduceIte,reduceCtorEq,Nat.reduceEqDiff,implies_true,forall_const,aa,beq_self_eq_true,bne_self_eq_false,Int.reduceBEq,Int.reduceBNe,Int.reduceLT,Int.reduceLE])
section
variable {E:Type} {key:E→Bytes} {ex:E→Int}
def dr (p:Nat→E→Bool)(L:List E):Nat→List E
 | 0=>[]
 | j+1=>dr p L j++((L[j]?).toList.filter (p j))
theorem fG {p:Nat→E→Bool}{L:List E}{j:Nat}(hj:j<L.length)(h:p j L[j]=true):dr p L (j+1)=dr p L j++[L[j]]:=by
 simp[dr,hj,h]
theorem ya {p:Nat→E→Bool}{L:List E}{j:Nat}(hj:j<L.length)(h:p j L[j]=false):dr p L (j+1)=dr p L j:=by
 simp[dr,hj,h]
theorem zz (p:Nat→E→Bool)(L:List E):∀ j,(dr p L j).length≤j
 | 0=>by simp[dr]
 | j+1=>by
   have:=zz p L j
   simp only[dr,zNu]
   have h2:((L[j]?).toList.filter (p j)).length≤1:=zN2 (List.length_filter_le _ _) (by cases L[j]? <;> simp)
   omega
theorem nP (f:E→Bool)(L:List E):∀ j,j≤L.length→dr (fun _=>f) L j=(L.take j).filter f
 | 0,_=>by simp[dr]
 | j+1,h=>by
   have hj:j<L.length:=by omega
   rw[dr,nP f L j (by omega),zNB hj,zNX]
   simp[hj]
theorem uU (L:List E)(q:Nat):∀ j,j≤L.length→dr (fun i _=>i != q) L j=(L.take j).eraseIdx q
 | 0,_=>by simp[dr]
 | j+1,h=>by
   have hj:j<L.length:=by omega
   have hl:(L.take j).length=j:=by rw[zNw];omega
   rw[dr,uU L q j (by omega),zNB hj]
   by_cases c:j=q
   ·subst c
    rw[List.eraseIdx_append_of_length_le (by omega),hl]
    simp[hj,List.eraseIdx_of_length_le (by omega:(L.take j).length≤j)]
   ·by_cases c2:q<j
    ·rw[List.eraseIdx_append_of_lt_length (by omega)]
     simp[hj,c]
    ·rw[List.eraseIdx_append_of_length_le (by omega),hl,List.eraseIdx_of_length_le (by omega:(L.take j).length≤q)]
     obtain⟨d,hd⟩:∃ d,q - j=d+1:=⟨q - j - 1,by omega⟩
     rw[hd]
     simp[hj,c]
theorem uV {p p':Nat→E→Bool}{L:List E}(h:∀ i (hi:i<L.length),p i L[i]=p' i L[i]):∀ j,j≤L.length→dr p L j=dr p' L j
 | 0,_=>rfl
 | j+1,hj=>by
   have hl:j<L.length:=by omega
   rw[dr,dr,uV h j (by omega)]
   have e:(L[j]?).toList=[L[j]]:=by simp[hl]
   rw[e,List.filter_cons,List.filter_cons,h j hl]
   rfl
def dS (X:List Int)(k:Nat):Int:=if k=0 then -1 else dR X k
theorem sO {L:List E}{x:E}:jL key (L.filter fun y=>key y != key x) x=jL key L x:=by
 unfold jL
 rw[List.filter_filter,List.filter_filter]
 congr 2
 ·congr 2
  funext y
  cases h:blt (key y) (key x)
  ·simp
  ·simp[oq h]
 ·funext y
  cases h:blt (key x) (key y)
  ·simp
  ·simp[Ne.symm (oq h)]
def fO (key:E→Bytes)(t:Bytes)(a:Bool)(q:Int)(i:Nat)(y:E):Bool:=key y != t&&(a||(i:Int) != q)
theorem Gt {L:List E}{x:E}{cap:Int}(hL:0<L.length):jL key (dr (fO key (key x) (dC key L (key x)||decide ((L.length:Int)<cap)) (dS (L.map ex) L.length)) L L.length) x=hU key ex cap L x:=by
 unfold hU
 cases hh:dC key L (key x)
 ·have gx:∀ y∈L,(key y != key x)=true:=fun y hy=>by
   rw[bne_iff_ne];intro e
   rw[← Bool.not_eq_true,jP]at hh
   exact hh ⟨y,hy,e⟩
  by_cases hc:(L.length:Int)<cap
  ·rw[if_pos (.inr hc)]
   have:dr (fO key (key x) (false||decide ((L.length:Int)<cap)) (dS (L.map ex) L.length)) L L.length=L.filter fun y=>key y != key x:=by
    have h2:fO key (key x) (false||decide ((L.length:Int)<cap)) (dS (L.map ex) L.length)=fun _ y=>key y != key x:=by
     funext i y;simp[fO,hc]
    rw[h2,nP _ L _ (zNx _),zN4]
   rw[this,sO]
  ·rw[if_neg (by simp[hc])]
   congr 1
   have hq:dS (L.map ex) L.length=((dR (L.map ex) L.length:Nat):Int):=by unfold dS;rw[if_neg (by omega)]
   rw[uV (p':=fun i _=>i != dR (L.map ex) L.length) (fun i hi=>?_) _ (zNx _),uU _ _ _ (zNx _),zN4]
   unfold fO
   rw[gx _ (zNJ hi),hq]
   have hc':decide ((L.length:Int)<cap)=false:=by simpa using hc
   rw[hc',Bool.eq_iff_iff]
   simp only[Bool.or_self,Bool.false_or,Bool.true_and,bne_iff_ne]
   omega
 ·rw[if_pos (.inl rfl)]
  have:dr (fO key (key x) (true||decide ((L.length:Int)<cap)) (dS (L.map ex) L.length)) L L.length=L.filter fun y=>key y != key x:=by
   have h2:fO key (key x) (true||decide ((L.length:Int)<cap)) (dS (L.map ex) L.length)=fun _ y=>key y != key x:=by
    funext i y;simp[fO]
   rw[h2,nP _ L _ (zNx _),zN4]
  rw[this,sO]
end
end Go.Proofs.YteipdaijbncgeaaGreatDoor
