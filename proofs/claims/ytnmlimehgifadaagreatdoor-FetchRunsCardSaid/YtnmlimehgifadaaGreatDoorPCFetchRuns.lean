/- For every input: FetchRuns returns true. No conditions. -/
import Derived.Test.YtnmlimehgifadaaGreatDoorR10
open Go.Proofs.Tryz
set_option linter.all false
namespace Go.Proofs.YtnmlimehgifadaaGreatDoor.fetchRuns
open Go Vc Go.RowKit Wf
open Go.ChangeShapes Go.WideShapes Go.ChangeAt
open Go.WideMaps Go.WideElems
open Go.ChangeMaps (setBlock shut_map_nil open_string shut_string keptBut_setBlock frozen?_setBlock heap_setBlock_same)
set_option maxRecDepth 100000 in
theorem contract (H:Type)(enc:TypeId × Value→H)(W:World)(base:Nat)(args:Array Value)(ds gs:List (DataW H))(before:List MemPlace)
 (BI:∀ (j:Nat) t v,Tryz.f4.params[j]? = some t→args[j]? = some v→Value.okWide Tryz.prog W .any base t v)
 (hW:DataW.Whole enc Tryz.prog Tryz.f4.params.toList Rows.fetchRunsSpec.vars false W args.toList ds gs before) (hwt:(DataW.weightsEach Tryz.prog (Tryz.f4.params.toList++(OpenSpec.ofChange Rows.fetchRunsSpec).bare.plain.varTypes Tryz.prog) (ds++gs)).all (·≤reachBytes)=true) (hS:W.ShapedOpen Tryz.prog) :
 Calls Tryz.prog 4 args W fun e W'=>∃ v,e=.returned v∧Rows.fetchRunsSpec.post enc Tryz.prog Tryz.f4 false true false false W args v W':=by
 have hW':=hW;obtain⟨p,q,mH,hV,rfl,hfz,hnd⟩:=hW;have hA:DataW.TrodAll enc Tryz.prog W 0 (fun _=>true) true Tryz.f4.params.toList args.toList ds p:=mH;rw[Tryz.params4]at hA BI hwt;obtain⟨v0,vs0,d0,ds0,p0,q0,qb,rfl,rfl,h0,r0⟩:=trodAll_cons hA;obtain⟨v1,vs1,d1,ds1,p1,q1,rfl,rfl,rfl,h1,r1⟩:=trodAll_cons r0;obtain⟨v2,vs2,d2,ds2,p2,q2,rfl,rfl,rfl,h2,r2⟩:=trodAll_cons r1;obtain⟨rfl,rfl,rfl⟩:=trodAll_nil r2;obtain rfl:args=#[v0,v1,v2]:=by cases args;simp_all
 obtain⟨rfl,rfl⟩:=trodVars_none hV;obtain⟨sa0,sl0,sc0,rfl⟩:=okWide_slice underlying22 (BI 0 22 v0 rfl rfl);obtain⟨fu0,JL⟩:=h0;simp only[Value.cells]at JL;obtain⟨tb0,L0,e0,hl0,wL,hH0,nW,hq0⟩:=LY (ρ:=Int) 0 DE (fun r:Int=>.lit (.int .u8 r)) (fun r:Int=>(Lit.int .u8 r).wf=true) (fun r=>by simp[flat,flat.ah,DE]) underlying22 (s:=1) QE (fun _ _ _ hx=>by obtain⟨a,rfl,rfl,hw⟩:=DataW.trod_int underlying5 hx;exact⟨a,by simp[aZ,aj,DE],rfl,hw⟩) (ok_cell underlying22 (BI 0 22 _ rfl rfl)) JL;have ee0:Value.slice sa0 sl0 sc0=oV tb0 L0.length:=e0;obtain⟨a1,rfl,rfl,rfl,w1⟩:=open_int underlying5 (BI 1 5 v1 rfl rfl) h1;have b1:IntKind.min .u8≤a1∧a1≤IntKind.max .u8:=by simpa[Lit.wf] using w1
 simp only[IntKind.min,IntKind.max,IntKind.signed,IntKind.bits]at b1;obtain⟨a2,rfl,rfl,rfl,w2⟩:=open_int underlying25 (BI 2 25 v2 rfl rfl) h2;have b2:IntKind.min .u64≤a2∧a2≤IntKind.max .u64:=by simpa[Lit.wf] using w2
 simp only[IntKind.min,IntKind.max,IntKind.signed,IntKind.bits]at b2;simp only[List.append_nil]at hwt;have hlaw:=SC.law (l:=([(tb0,.own (L0.flatMap DE) 5 1 L0.length false)]:List (Bt × aq))) (FX L0 a1 a2 hl0 hq0 (by simpa using b1)) (env_of hS) (by
  intro x hx;simp only[List.mem_cons,List.not_mem_nil,or_false]at hx;rcases hx with rfl
  ·exact⟨rfl,hH0,nW⟩
  )
 have hc:(#[.slice sa0 sl0 sc0,.int .u8 a1,.int .u64 a2]:Array Value)=(aZ (fun i=>((([(tb0,.own (L0.flatMap DE) 5 1 L0.length false)]:List (Bt × aq))[i]?).map (·.1)).getD (nX 0)) [.o 0 L0.length,.int .u8 a1,.int .u64 a2]).toArray:=by simp[aZ,aj,ee0]
 rw[hc];refine hlaw.mono fun e W' ⟨he,bel⟩=>?_
 subst he;rw[← hc];exact⟨_,rfl,OD laidOut QE rfl rfl underlying4 rfl rfl rfl rfl hW' bel⟩
noncomputable def world (os:Os):World:=CK os
theorem reads (os:Os){H:Type}(enc:TypeId × Value→H):∃ places,DataW.whole enc Tryz.prog ((world os).forCall (fun _ _=>0) ⟨#[],(#[.slice none 0 0,.int .u8 0,.int .u64 0]:Array Value),[]⟩).memory Tryz.f4.params.toList Rows.fetchRunsSpec.vars false (#[.slice none 0 0,.int .u8 0,.int .u64 0]:Array Value).toList 8=some ([.nil,.lit (.int .u8 0),.lit (.int .u64 0)],[],places) :=
 ⟨[],QE⟩
set_option maxRecDepth 100000 in
theorem lifted (os:Os)(started:os.Started)(H:Type)(enc:TypeId × Value→H)(F:Stop.Interp) :
 ReturnsInHanded {} Tryz.checked os 4 .any ((OpenSpec.ofChange Rows.fetchRunsSpec).preRow enc Tryz.prog Tryz.f4 Rows.fetchRunsRow.domain false Rows.fetchRunsRow.laid) (((OpenSpec.ofChange Rows.fetchRunsSpec).at F).post enc Tryz.prog Tryz.f4 false true false false):=by
 obtain⟨places,hx⟩:=reads os enc;refine returnsInHanded_of_row (C:=Tryz.checked) (s:=OpenSpec.ofChange Rows.fetchRunsSpec) own started QE func4
  (witness_row_at (enc:=enc) (C:=Tryz.checked) false (world os) (#[.slice none 0 0,.int .u8 0,.int .u64 0]:Array Value) rfl QE QE QE
    (OpenSpec.preRow_of_cond 8 hx QE (fun k hk=>by cases hk) QE (OG os _))) ?_
 intro W base args ds gs before BI hW _ xU hwt _ hS _;exact contract H enc W base args ds gs before BI hW hwt hS
set_option maxRecDepth 100000 in
theorem facts:((Rows.fetchRunsRow.inPlace==Tryz.pinned.checked.prog.inPlace 4)&&(Rows.fetchRunsRow.unfollowed==Tryz.pinned.checked.prog.unfollowed 4)&&(Rows.fetchRunsRow.recurses==Tryz.pinned.checked.prog.recurses 4)&&(Rows.fetchRunsRow.named==Tryz.pinned.checked.prog.varsNamed 4))=true:=by kernel_rfl
set_option maxRecDepth 100000 in
set_option maxHeartbeats 20000000 in
theorem joined:joinedFacts Tryz.pinned.checked.prog 4 Tryz.f4 (OpenSpec.ofChange Rows.fetchRunsSpec).bare Rows.fetchRunsRow=true:=by
 unfold joinedFacts;simp only[Bool.and_eq_true];repeat' apply And.intro
 ·as_aux_lemma=>kernel_rfl
 ·exact laidOut
 ·exact pf_maps
 ·as_aux_lemma=>kernel_rfl
 ·as_aux_lemma=>kernel_rfl
 ·as_aux_lemma=>kernel_rfl
 ·exact pf_stops
 ·as_aux_lemma=>kernel_rfl
 ·exact pf_knobs
 ·exact(and4 facts).1.1
 ·exact(and4 facts).1.2
 ·exact(and4 facts).2.1
 ·exact(and4 facts).2.2
 ·as_aux_lemma=>kernel_rfl
 ·as_aux_lemma=>kernel_rfl
 ·as_aux_lemma=>kernel_rfl
 ·as_aux_lemma=>kernel_rfl
 ·as_aux_lemma=>kernel_rfl
 ·as_aux_lemma=>kernel_rfl
 ·as_aux_lemma=>kernel_rfl
 ·as_aux_lemma=>kernel_rfl
 ·as_aux_lemma=>kernel_rfl
 ·exact pf_keys
 ·as_aux_lemma=>kernel_rfl
 ·exact pf_heard
 ·exact pf_may
 ·exact pf_lifts
 ·exact pf_make
 ·as_aux_lemma=>kernel_rfl
 ·as_aux_lemma=>kernel_rfl
 ·as_aux_lemma=>kernel_rfl
 ·as_aux_lemma=>kernel_rfl
theorem wrapper:Func.isWrapper Tryz.pinned.checked.prog Tryz.f4 (Rows.fetchRunsRow).wrapper (Rows.fetchRunsRow).mainSum:=by
 unfold Func.isWrapper;first | (rw[if_pos (by decide +kernel)];kernel_rfl) | (rw[if_neg (by decide +kernel)];exact⟨rfl,rfl⟩)
theorem said:Rows.FetchRunsSaid :=
 OpenClaim.holds_of_cond 4 Tryz.f4 rfl rfl rfl rfl rfl rfl rfl ⟨rfl,rfl,rfl,rfl,rfl⟩ rfl rfl rfl rfl rfl (by as_aux_lemma=>kernel_rfl) func4 joined
  (of_decide_eq_true (by as_aux_lemma=>kernel_rfl)) wrapper
  (fun os started H enc _ F=>by rw[OpenClaim.pre_eq_preRow];exact lifted os started H enc F)
theorem plain (f : FuncId) (fn : Func) (hf : Tryz.pinned.checked.prog.funcNamed "webfinger/webfingerlaw26.FetchRuns" = some f) (hfn : Tryz.pinned.checked.prog.funcs[f]? = some fn) :
 false=Tryz.pinned.checked.prog.looks []∧∀ (j:Nat) t,fn.params[j]? = some t→Tryz.pinned.checked.prog.wantsStandIn t=false:=by
 obtain rfl : f = 4 := Option.some.inj ((show Tryz.prog.funcNamed "webfinger/webfingerlaw26.FetchRuns" = some 4 by kernel_rfl).symm.trans hf) |>.symm
 obtain rfl:fn=Tryz.f4:=(Option.some.inj (func4.symm.trans hfn)).symm;refine⟨Oh,fun j t ht=>?_⟩;rw[Tryz.params4]at ht;have hm:=Array.mem_of_getElem? ht;have hw:∀ t∈([22,5,25]:List TypeId),Tryz.prog.wantsStandIn t=false:=by
  intro t ht;simp only[List.mem_cons,List.not_mem_nil,or_false]at ht;rcases ht with rfl|rfl|rfl
  ·kernel_rfl
  ·kernel_rfl
  ·kernel_rfl
 exact hw t (by simpa using hm)
theorem proved:Rows.FetchRunsCardSaid :=
 Claim7.holds_tied_plain_at .later [] _ _ _ _ said (fun _ h=>by cases h) (by as_aux_lemma=>kernel_rfl) (fun _ h=>by cases h) fetchRuns_row_tie rfl ⟨rfl,rfl⟩ (by as_aux_lemma=>kernel_rfl) rfl plain (by as_aux_lemma=>kernel_rfl)
#print axioms proved
end Go.Proofs.YtnmlimehgifadaaGreatDoor.fetchRuns
