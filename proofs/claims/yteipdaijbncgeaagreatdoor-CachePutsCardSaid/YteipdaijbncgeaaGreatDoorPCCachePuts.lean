/- For every input: CachePuts returns true. No conditions. -/
import Derived.Test.YteipdaijbncgeaaGreatDoorU8
set_option linter.all false
namespace Go.Proofs.YteipdaijbncgeaaGreatDoor.cachePuts
open Go Vc Go.RowKit Wf
open Go.ChangeShapes Go.WideShapes Go.ChangeAt
open Go.WideMaps Go.WideElems
open Go.ChangeMaps (setBlock shut_map_nil open_string shut_string keptBut_setBlock frozen?_setBlock heap_setBlock_same)
set_option maxRecDepth 100000 in
theorem contract (H:Type)(enc:TypeId × Value→H)(W:World)(base:Nat)(args:Array Value)(ds gs:List (DataW H))(before:List MemPlace)
 (rS:∀ (j:Nat) t v,Tryz.f6.params[j]? = some t→args[j]? = some v→Value.okWide Tryz.prog W .any base t v)
 (hW:DataW.Whole enc Tryz.prog Tryz.f6.params.toList Rows.cachePutsSpec.vars false W args.toList ds gs before) (Gv:(DataW.weightsEach Tryz.prog (Tryz.f6.params.toList++(OpenSpec.ofChange Rows.cachePutsSpec).bare.plain.varTypes Tryz.prog) (ds++gs)).all (·≤reachBytes)=true) (hS:W.ShapedOpen Tryz.prog) :
 Calls Tryz.prog 6 args W fun e W'=>∃ v,e=.returned v∧Rows.cachePutsSpec.post enc Tryz.prog Tryz.f6 false true false false W args v W':=by
 have hW':=hW
 obtain⟨p,q,hA0,hV,rfl,wo,hnd⟩:=hW
 have hA:DataW.TrodAll enc Tryz.prog W 0 (fun _=>true) true Tryz.f6.params.toList args.toList ds p:=hA0
 rw[Tryz.params6]at hA rS Gv
 obtain⟨v0,vs0,d0,ds0,p0,q0,ig,rfl,rfl,h0,r0⟩:=trodAll_cons hA
 obtain⟨v1,vs1,d1,ds1,p1,q1,rfl,rfl,rfl,h1,r1⟩:=trodAll_cons r0
 obtain⟨v2,vs2,d2,ds2,p2,q2,rfl,rfl,rfl,h2,r2⟩:=trodAll_cons r1
 obtain⟨v3,vs3,d3,ds3,p3,q3,rfl,rfl,rfl,h3,r3⟩:=trodAll_cons r2
 obtain⟨v4,vs4,d4,ds4,p4,q4,rfl,rfl,rfl,h4,r4⟩:=trodAll_cons r3
 obtain⟨v5,vs5,d5,ds5,p5,q5,rfl,rfl,rfl,h5,r5⟩:=trodAll_cons r4
 obtain⟨rfl,rfl,rfl⟩:=trodAll_nil r5
 obtain rfl:args=#[v0,v1,v2,v3,v4,v5]:=by cases args;simp_all
 obtain⟨rfl,rfl⟩:=trodVars_none hV
 obtain⟨sa0,sl0,sc0,rfl⟩:=okWide_slice Tryz.underlying25 (rS 0 25 v0 rfl rfl)
 obtain⟨fu0,Hm⟩:=h0
 simp only[Value.cells]at Hm
 obtain⟨tb0,L0,e0,hl0,hd0,hH0,pR,hq0⟩:=xP (ρ:=Int) 0 wb (fun r:Int=>.lit (.int .u8 r)) (fun r:Int=>(Lit.int .u8 r).wf=true) (fun r=>by simp[flat,flat.ai,wb]) Tryz.underlying25 (s:=1) (by kernel_rfl) (fun _ _ _ hx=>by obtain⟨a,rfl,rfl,hw⟩:=DataW.trod_int Tryz.underlying5 hx;exact⟨a,by simp[aG,ah,wb],rfl,hw⟩) (ok_cell Tryz.underlying25 (rS 0 25 _ rfl rfl)) Hm
 have ee0:Value.slice sa0 sl0 sc0=oV tb0 L0.length:=e0
 obtain⟨a1,rfl,rfl,rfl,w1⟩:=open_int Tryz.underlying5 (rS 1 5 v1 rfl rfl) h1
 have b1:IntKind.min .u8≤a1∧a1≤IntKind.max .u8:=by simpa[Lit.wf] using w1
 simp only[IntKind.min,IntKind.max,IntKind.signed,IntKind.bits]at b1
 obtain⟨a2,rfl,rfl,rfl,w2⟩:=open_int Tryz.underlying31 (rS 2 31 v2 rfl rfl) h2
 have b2:IntKind.min .u64≤a2∧a2≤IntKind.max .u64:=by simpa[Lit.wf] using w2
 simp only[IntKind.min,IntKind.max,IntKind.signed,IntKind.bits]at b2
 obtain⟨a3,rfl,rfl,rfl,w3⟩:=open_int Tryz.underlying31 (rS 3 31 v3 rfl rfl) h3
 have b3:IntKind.min .u64≤a3∧a3≤IntKind.max .u64:=by simpa[Lit.wf] using w3
 simp only[IntKind.min,IntKind.max,IntKind.signed,IntKind.bits]at b3
 have ok4:=rS 4 41 v4 rfl rfl
 obtain⟨cs4,rfl,-⟩:=okWide_struct Tryz.underlying41 ok4
 obtain⟨fu4,hf4⟩:=h4
 obtain⟨cs4⟩:=cs4
 simp only[Value.cells]at hf4
 obtain⟨x4_0,x4_1,x4_2,x4_3,x4_4,x4_5,x4_6,x4_7,x4_8,x4_9,x4_10,x4_11,n4_11,y4_11,qc4,hx4,wb4_0,wb4_1,wb4_2,wb4_3,wb4_4,wb4_5,wb4_6,wb4_7,wb4_8,wb4_10,t4_11⟩:=HI hf4
 obtain rfl:=qc4
 obtain rfl:d4=_:=hx4
 have nb4_0:IntKind.min .i64≤x4_0∧x4_0≤IntKind.max .i64:=by simpa[Lit.wf] using wb4_0
 simp only[IntKind.min,IntKind.max,IntKind.signed,IntKind.bits]at nb4_0
 have nb4_1:IntKind.min .i64≤x4_1∧x4_1≤IntKind.max .i64:=by simpa[Lit.wf] using wb4_1
 simp only[IntKind.min,IntKind.max,IntKind.signed,IntKind.bits]at nb4_1
 have nb4_4:IntKind.min .i64≤x4_4∧x4_4≤IntKind.max .i64:=by simpa[Lit.wf] using wb4_4
 simp only[IntKind.min,IntKind.max,IntKind.signed,IntKind.bits]at nb4_4
 have nb4_5:IntKind.min .i64≤x4_5∧x4_5≤IntKind.max .i64:=by simpa[Lit.wf] using wb4_5
 simp only[IntKind.min,IntKind.max,IntKind.signed,IntKind.bits]at nb4_5
 have nb4_8:IntKind.min .i64≤x4_8∧x4_8≤IntKind.max .i64:=by simpa[Lit.wf] using wb4_8
 simp only[IntKind.min,IntKind.max,IntKind.signed,IntKind.bits]at nb4_8
 have nb4_10:IntKind.min .u64≤x4_10∧x4_10≤IntKind.max .u64:=by simpa[Lit.wf] using wb4_10
 simp only[IntKind.min,IntKind.max,IntKind.signed,IntKind.bits]at nb4_10
 obtain⟨tb1,L1,e1,mO,lM,hH1,iB,dp⟩:=xP (ρ:=Xc) (⟨[],0,[],[],[],false,false,0,0⟩:Xc) xc (fun r:Xc=>.agg [.agg [.lit (.string r.h),.lit (.int .i64 r.p),.lit (.string r.pa),.lit (.string r.q),.lit (.string r.f),.lit (.bool r.hq),.lit (.bool r.hf)],.lit (.int .i64 r.st),.lit (.int .i64 r.er)]) (fun r:Xc=>r.h.length≤maxLen∧(Lit.int .i64 r.p).wf=true∧r.pa.length≤maxLen∧r.q.length≤maxLen∧r.f.length≤maxLen∧(Lit.int .i64 r.st).wf=true∧(Lit.int .i64 r.er).wf=true) (fun r=>by simp[flat,flat.ai,xc]) Tryz.underlying39 (s:=9) (by kernel_rfl) (fun _ _ _ hx=>by obtain⟨a0,a1,a2,a3,a4,a5,a6,a7,a8,rfl,rfl,hw⟩:=trod_93 hx;exact⟨⟨a0,a1,a2,a3,a4,a5,a6,a7,a8⟩,by simp[aG,ah,xc],rfl,hw⟩) (It Tryz.underlying41 (ts:=(Tryz.prog.cellTypes Tryz.prog.depth 41).getD []) (by kernel_rfl) ok4 11 39 _ rfl (by kernel_rfl)) t4_11
 subst e1
 obtain⟨s5,rfl,rfl,rfl,w5⟩:=open_string Tryz.underlying9 (rS 5 9 v5 rfl rfl) h5
 obtain⟨⟨l5⟩⟩:=s5
 simp only[List.append_nil]at Gv
 have bx4_2:x4_2.length≤140737488355328:=Nat.le_trans (of_decide_eq_true (List.all_eq_true.1 Gv _ (DataW.weights_mem_each (j:=4) (t:=41) rfl rfl _ (by simp[DataW.weights,DataW.weightsEach,Tryz.underlying28,Tryz.underlying31,Tryz.underlying36,Tryz.underlying38,Tryz.underlying39,Tryz.underlying3,Tryz.underlying41,Tryz.underlying4,Tryz.underlying9])))) (by decide)
 have bx4_3:x4_3.length≤140737488355328:=Nat.le_trans (of_decide_eq_true (List.all_eq_true.1 Gv _ (DataW.weights_mem_each (j:=4) (t:=41) rfl rfl _ (by simp[DataW.weights,DataW.weightsEach,Tryz.underlying28,Tryz.underlying31,Tryz.underlying36,Tryz.underlying38,Tryz.underlying39,Tryz.underlying3,Tryz.underlying41,Tryz.underlying4,Tryz.underlying9])))) (by decide)
 have bx4_6:x4_6.length≤140737488355328:=Nat.le_trans (of_decide_eq_true (List.all_eq_true.1 Gv _ (DataW.weights_mem_each (j:=4) (t:=41) rfl rfl _ (by simp[DataW.weights,DataW.weightsEach,Tryz.underlying28,Tryz.underlying31,Tryz.underlying36,Tryz.underlying38,Tryz.underlying39,Tryz.underlying3,Tryz.underlying41,Tryz.underlying4,Tryz.underlying9])))) (by decide)
 have bx4_7:x4_7.length≤140737488355328:=Nat.le_trans (of_decide_eq_true (List.all_eq_true.1 Gv _ (DataW.weights_mem_each (j:=4) (t:=41) rfl rfl _ (by simp[DataW.weights,DataW.weightsEach,Tryz.underlying28,Tryz.underlying31,Tryz.underlying36,Tryz.underlying38,Tryz.underlying39,Tryz.underlying3,Tryz.underlying41,Tryz.underlying4,Tryz.underlying9])))) (by decide)
 have bl5:l5.length≤140737488355328:=Nat.le_trans (of_decide_eq_true (List.all_eq_true.1 Gv _ (DataW.weights_mem_each (j:=5) (t:=9) rfl rfl _ (by simp[DataW.weights,DataW.weightsEach,Tryz.underlying9])))) (by decide)
 have fH:∀ r∈L1,r.h.length≤140737488355328∧r.pa.length≤140737488355328∧r.q.length≤140737488355328∧r.f.length≤140737488355328:=fun r hr=>⟨Nat.le_trans (of_decide_eq_true (List.all_eq_true.1 Gv _ (DataW.weights_mem_each (j:=4) (t:=41) rfl rfl _ (iH Tryz.underlying41 (j:=4) rfl rfl (jn Tryz.underlying39 lM hr (by simp[DataW.weights,DataW.weightsEach,Tryz.underlying28,Tryz.underlying3,Tryz.underlying4,Tryz.underlying91,Tryz.underlying93,Tryz.underlying9])))))) (by decide),Nat.le_trans (of_decide_eq_true (List.all_eq_true.1 Gv _ (DataW.weights_mem_each (j:=4) (t:=41) rfl rfl _ (iH Tryz.underlying41 (j:=4) rfl rfl (jn Tryz.underlying39 lM hr (by simp[DataW.weights,DataW.weightsEach,Tryz.underlying28,Tryz.underlying3,Tryz.underlying4,Tryz.underlying91,Tryz.underlying93,Tryz.underlying9])))))) (by decide),Nat.le_trans (of_decide_eq_true (List.all_eq_true.1 Gv _ (DataW.weights_mem_each (j:=4) (t:=41) rfl rfl _ (iH Tryz.underlying41 (j:=4) rfl rfl (jn Tryz.underlying39 lM hr (by simp[DataW.weights,DataW.weightsEach,Tryz.underlying28,Tryz.underlying3,Tryz.underlying4,Tryz.underlying91,Tryz.underlying93,Tryz.underlying9])))))) (by decide),Nat.le_trans (of_decide_eq_true (List.all_eq_true.1 Gv _ (DataW.weights_mem_each (j:=4) (t:=41) rfl rfl _ (iH Tryz.underlying41 (j:=4) rfl rfl (jn Tryz.underlying39 lM hr (by simp[DataW.weights,DataW.weightsEach,Tryz.underlying28,Tryz.underlying3,Tryz.underlying4,Tryz.underlying91,Tryz.underlying93,Tryz.underlying9])))))) (by decide)⟩
 have hlaw:=SC.law (l:=([(tb0,.own (L0.flatMap wb) 5 1 L0.length false),(tb1,.own (L1.flatMap xc) 93 9 L1.length false)]:List (Bt × ax))) (yP L0 a1 a2 a3 x4_0 x4_1 x4_2 x4_3 x4_4 x4_5 x4_6 x4_7 x4_8 x4_9 x4_10 L1 l5 (by simpa using b1) (by have:=b2;simp at this;omega) (by have:=b3;simp at this;omega) hl0 (fun r hr=>by have:=hq0 r hr;simpa[Lit.wf,IntKind.min,IntKind.max,IntKind.signed,IntKind.bits] using this) (by have:=nb4_10;simp at this;omega) mO (fun r hr=>⟨(fH r hr).1,(fH r hr).2.1,(fH r hr).2.2.1,(fH r hr).2.2.2⟩) bx4_2 bx4_3 bx4_6 bx4_7) (env_of hS) (by
  intro x hx
  simp only[List.mem_cons,List.not_mem_nil,or_false]at hx
  rcases hx with rfl|rfl
  ·exact⟨rfl,hH0,pR⟩
  ·exact⟨rfl,hH1,iB⟩
  )
 have hc:(#[.slice sa0 sl0 sc0,.int .u8 a1,.int .u64 a2,.int .u64 a3,.agg #[.int .i64 x4_0,.int .i64 x4_1,.string ⟨⟨x4_2⟩⟩,.string ⟨⟨x4_3⟩⟩,.int .i64 x4_4,.int .i64 x4_5,.string ⟨⟨x4_6⟩⟩,.string ⟨⟨x4_7⟩⟩,.int .i64 x4_8,.bool x4_9,.int .u64 x4_10,oV tb1 L1.length],.string ⟨⟨l5⟩⟩]:Array Value)=(aG (fun i=>((([(tb0,.own (L0.flatMap wb) 5 1 L0.length false),(tb1,.own (L1.flatMap xc) 93 9 L1.length false)]:List (Bt × ax))[i]?).map (·.1)).getD (ke 0)) [.o 0 L0.length,.int .u8 a1,.int .u64 a2,.int .u64 a3,.agg [.int .i64 x4_0,.int .i64 x4_1,.str x4_2,.str x4_3,.int .i64 x4_4,.int .i64 x4_5,.str x4_6,.str x4_7,.int .i64 x4_8,.bool x4_9,.int .u64 x4_10,.o 1 L1.length],.str l5]).toArray:=by simp[aG,ah,ee0]
 rw[hc]
 refine hlaw.mono fun e W' ⟨he,bel⟩=>?_
 subst he
 rw[← hc]
 exact⟨_,rfl,IE laidOut (by kernel_rfl) rfl rfl Tryz.underlying4 rfl rfl rfl rfl hW' bel⟩
noncomputable def world (os:Os):World:=xZ os
theorem reads (os:Os){H:Type}(enc:TypeId × Value→H):∃ places,DataW.whole enc Tryz.prog ((world os).forCall (fun _ _=>0) ⟨#[],(#[.slice none 0 0,.int .u8 0,.int .u64 0,.int .u64 0,.agg #[.int .i64 0,.int .i64 0,.string ⟨#[]⟩,.string ⟨#[]⟩,.int .i64 0,.int .i64 0,.string ⟨#[]⟩,.string ⟨#[]⟩,.int .i64 0,.bool false,.int .u64 0,.slice none 0 0],.string ⟨#[]⟩]:Array Value),[]⟩).memory Tryz.f6.params.toList Rows.cachePutsSpec.vars false (#[.slice none 0 0,.int .u8 0,.int .u64 0,.int .u64 0,.agg #[.int .i64 0,.int .i64 0,.string ⟨#[]⟩,.string ⟨#[]⟩,.int .i64 0,.int .i64 0,.string ⟨#[]⟩,.string ⟨#[]⟩,.int .i64 0,.bool false,.int .u64 0,.slice none 0 0],.string ⟨#[]⟩]:Array Value).toList 8=some ([.nil,.lit (.int .u8 0),.lit (.int .u64 0),.lit (.int .u64 0),.agg [.lit (.int .i64 0),.agg [.lit (.int .i64 0),.lit (.string []),.lit (.string []),.lit (.int .i64 0)],.agg [.lit (.int .i64 0),.lit (.string []),.lit (.string []),.lit (.int .i64 0)],.agg [.lit (.bool false),.lit (.int .u64 0)],.nil],.lit (.string [])],[],places) :=
 ⟨[],by kernel_rfl⟩
set_option maxRecDepth 100000 in
theorem lifted (os:Os)(started:os.Started)(H:Type)(enc:TypeId × Value→H)(F:Stop.Interp) :
 ReturnsInHanded {} Tryz.checked os 6 .any ((OpenSpec.ofChange Rows.cachePutsSpec).preRow enc Tryz.prog Tryz.f6 Rows.cachePutsRow.domain false Rows.cachePutsRow.laid) (((OpenSpec.ofChange Rows.cachePutsSpec).at F).post enc Tryz.prog Tryz.f6 false true false false):=by
 obtain⟨places,hx⟩:=reads os enc
 refine returnsInHanded_of_row (C:=Tryz.checked) (s:=OpenSpec.ofChange Rows.cachePutsSpec) own started (by kernel_rfl) Tryz.func6
  (witness_row_at (enc:=enc) (C:=Tryz.checked) false (world os) (#[.slice none 0 0,.int .u8 0,.int .u64 0,.int .u64 0,.agg #[.int .i64 0,.int .i64 0,.string ⟨#[]⟩,.string ⟨#[]⟩,.int .i64 0,.int .i64 0,.string ⟨#[]⟩,.string ⟨#[]⟩,.int .i64 0,.bool false,.int .u64 0,.slice none 0 0],.string ⟨#[]⟩]:Array Value) rfl (by kernel_rfl) (by kernel_rfl) (by kernel_rfl)
    (OpenSpec.preRow_of_cond 8 hx (by kernel_rfl) (fun k hk=>by cases hk) (by kernel_rfl) (IH os _))) ?_
 intro W base args ds gs before rS hW _ lz Gv _ hS _
 exact contract H enc W base args ds gs before rS hW Gv hS
set_option maxRecDepth 100000 in
theorem facts:((Rows.cachePutsRow.inPlace==Tryz.pinned.checked.prog.inPlace 6)&&(Rows.cachePutsRow.unfollowed==Tryz.pinned.checked.prog.unfollowed 6)&&(Rows.cachePutsRow.recurses==Tryz.pinned.checked.prog.recurses 6)&&(Rows.cachePutsRow.named==Tryz.pinned.checked.prog.varsNamed 6))=true:=by kernel_rfl
set_option maxRecDepth 100000 in
set_option maxHeartbeats 20000000 in
theorem joined:joinedFacts Tryz.pinned.checked.prog 6 Tryz.f6 (OpenSpec.ofChange Rows.cachePutsSpec).bare Rows.cachePutsRow=true:=by
 unfold joinedFacts
 simp only[Bool.and_eq_true]
 repeat' apply And.intro
 ·as_aux_lemma=>kernel_rfl
 ·exact laidOut
 ·exact pf_maps
 ·as_aux_lemma=>kernel_rfl
 ·as_aux_lemma=>kernel_rfl
 ·as_aux_lemma=>kernel_rfl
 ·exact pf_stops
 ·as_aux_lemma=>kernel_rfl
 ·exact pf_knobs
 ·exact(and4 facts).1.1
 ·exact(and4 facts).1.2
 ·exact(and4 facts).2.1
 ·exact(and4 facts).2.2
 ·as_aux_lemma=>kernel_rfl
 ·as_aux_lemma=>kernel_rfl
 ·as_aux_lemma=>kernel_rfl
 ·as_aux_lemma=>kernel_rfl
 ·as_aux_lemma=>kernel_rfl
 ·as_aux_lemma=>kernel_rfl
 ·as_aux_lemma=>kernel_rfl
 ·as_aux_lemma=>kernel_rfl
 ·as_aux_lemma=>kernel_rfl
 ·exact pf_keys
 ·as_aux_lemma=>kernel_rfl
 ·exact pf_heard
 ·exact pf_may
 ·exact pf_lifts
 ·exact pf_make
 ·as_aux_lemma=>kernel_rfl
 ·as_aux_lemma=>kernel_rfl
 ·as_aux_lemma=>kernel_rfl
 ·as_aux_lemma=>kernel_rfl
theorem wrapper:Func.isWrapper Tryz.pinned.checked.prog Tryz.f6 (Rows.cachePutsRow).wrapper (Rows.cachePutsRow).mainSum:=by
 unfold Func.isWrapper;first | (rw[if_pos (by decide +kernel)];kernel_rfl) | (rw[if_neg (by decide +kernel)];exact⟨rfl,rfl⟩)
theorem said:Rows.CachePutsSaid :=
 OpenClaim.holds_of_cond 6 Tryz.f6 rfl rfl rfl rfl rfl rfl rfl ⟨rfl,rfl,rfl,rfl,rfl⟩ rfl rfl rfl rfl rfl (by as_aux_lemma=>kernel_rfl) Tryz.func6 joined
  (of_decide_eq_true (by as_aux_lemma=>kernel_rfl)) wrapper
  (fun os started H enc _ F=>by rw[OpenClaim.pre_eq_preRow];exact lifted os started H enc F)
theorem plain (f : FuncId) (fn : Func) (hf : Tryz.pinned.checked.prog.funcNamed "webfinger/webfingerlaw31.CachePuts" = some f) (hfn : Tryz.pinned.checked.prog.funcs[f]? = some fn) :
 true=Tryz.pinned.checked.prog.looks []∧∀ (j:Nat) t,fn.params[j]? = some t→Tryz.pinned.checked.prog.wantsStandIn t=false:=by
 obtain rfl : f = 6 := Option.some.inj ((show Tryz.prog.funcNamed "webfinger/webfingerlaw31.CachePuts" = some 6 by kernel_rfl).symm.trans hf) |>.symm
 obtain rfl:fn=Tryz.f6:=(Option.some.inj (Tryz.func6.symm.trans hfn)).symm
 refine⟨Il,fun j t ht=>?_⟩
 rw[Tryz.params6]at ht
 have hm:=Array.mem_of_getElem? ht
 have hw:∀ t∈([25,5,31,31,41,9]:List TypeId),Tryz.prog.wantsStandIn t=false:=by
  intro t ht
  simp only[List.mem_cons,List.not_mem_nil,or_false]at ht
  rcases ht with rfl|rfl|rfl|rfl|rfl|rfl
  ·kernel_rfl
  ·kernel_rfl
  ·kernel_rfl
  ·kernel_rfl
  ·kernel_rfl
  ·kernel_rfl
 exact hw t (by simpa using hm)
theorem proved:Rows.CachePutsCardSaid :=
 Claim7.holds_tied_plain_at .later [] _ _ _ _ said (fun _ h=>by cases h) (by as_aux_lemma=>kernel_rfl) (fun _ h=>by cases h) cachePuts_row_tie rfl ⟨rfl,rfl⟩ (by as_aux_lemma=>kernel_rfl) rfl plain (by as_aux_lemma=>kernel_rfl)
#print axioms proved
end Go.Proofs.YteipdaijbncgeaaGreatDoor.cachePuts
