/- For every input: FetchApart returns true. No conditions. -/
import Derived.Test.YtnmlimehgifadaaGreatDoorQ10
set_option linter.all false
namespace Go.Proofs.YtnmlimehgifadaaGreatDoor.fetchApart
open Go Vc Go.RowKit Wf
open Go.ChangeShapes Go.WideShapes Go.ChangeAt
open Go.WideMaps Go.WideElems
open Go.ChangeMaps (setBlock shut_map_nil open_string shut_string keptBut_setBlock frozen?_setBlock heap_setBlock_same)
set_option maxRecDepth 100000 in
theorem contract (H:Type)(enc:TypeId × Value→H)(W:World)(base:Nat)(args:Array Value)(ds gs:List (DataW H))(before:List MemPlace)
 (jr:∀ (j:Nat) t v,Tryz.f7.params[j]? = some t→args[j]? = some v→Value.okWide Tryz.prog W .any base t v)
 (hW:DataW.Whole enc Tryz.prog Tryz.f7.params.toList Rows.fetchApartSpec.vars false W args.toList ds gs before) (Ga:(DataW.weightsEach Tryz.prog (Tryz.f7.params.toList++(OpenSpec.ofChange Rows.fetchApartSpec).bare.plain.varTypes Tryz.prog) (ds++gs)).all (·≤reachBytes)=true) (hS:W.ShapedOpen Tryz.prog) :
 Calls Tryz.prog 7 args W fun e W'=>∃ v,e=.returned v∧Rows.fetchApartSpec.post enc Tryz.prog Tryz.f7 false true false false W args v W':=by
 have hW':=hW
 obtain⟨p,q,mb,hV,rfl,NU,hnd⟩:=hW
 have hA:DataW.TrodAll enc Tryz.prog W 0 (fun _=>true) true Tryz.f7.params.toList args.toList ds p:=mb
 rw[Tryz.params7]at hA jr Ga
 obtain⟨v0,vs0,d0,ds0,p0,q0,pc,rfl,rfl,h0,r0⟩:=trodAll_cons hA
 obtain⟨v1,vs1,d1,ds1,p1,q1,rfl,rfl,rfl,h1,r1⟩:=trodAll_cons r0
 obtain⟨v2,vs2,d2,ds2,p2,q2,rfl,rfl,rfl,h2,r2⟩:=trodAll_cons r1
 obtain⟨v3,vs3,d3,ds3,p3,q3,rfl,rfl,rfl,h3,r3⟩:=trodAll_cons r2
 obtain⟨rfl,rfl,rfl⟩:=trodAll_nil r3
 obtain rfl:args=#[v0,v1,v2,v3]:=by cases args;simp_all
 obtain⟨rfl,rfl⟩:=trodVars_none hV
 obtain⟨sa0,sl0,sc0,rfl⟩:=okWide_slice Tryz.underlying22 (jr 0 22 v0 rfl rfl)
 obtain⟨fu0,Bo⟩:=h0
 simp only[Value.cells]at Bo
 obtain⟨tb0,L0,e0,NQ,hd0,hH0,l9,hq0⟩:=rq (ρ:=Int) 0 rp (fun r:Int=>.lit (.int .u8 r)) (fun r:Int=>(Lit.int .u8 r).wf=true) (fun r=>by simp[flat,flat.ai,rp]) Tryz.underlying22 (s:=1) (by kernel_rfl) (fun _ _ _ hx=>by obtain⟨a,rfl,rfl,hw⟩:=DataW.trod_int Tryz.underlying5 hx;exact⟨a,by simp[a8,ak,rp],rfl,hw⟩) (xT Tryz.underlying22 (jr 0 22 _ rfl rfl)) Bo
 have ee0:Value.slice sa0 sl0 sc0=oV tb0 L0.length:=e0
 obtain⟨a1,rfl,rfl,rfl,w1⟩:=open_int Tryz.underlying5 (jr 1 5 v1 rfl rfl) h1
 have b1:IntKind.min .u8≤a1∧a1≤IntKind.max .u8:=by simpa[Lit.wf] using w1
 simp only[IntKind.min,IntKind.max,IntKind.signed,IntKind.bits]at b1
 obtain⟨a2,rfl,rfl,rfl,w2⟩:=open_int Tryz.underlying25 (jr 2 25 v2 rfl rfl) h2
 have b2:IntKind.min .u64≤a2∧a2≤IntKind.max .u64:=by simpa[Lit.wf] using w2
 simp only[IntKind.min,IntKind.max,IntKind.signed,IntKind.bits]at b2
 obtain⟨sa3,sl3,sc3,rfl⟩:=okWide_slice Tryz.underlying27 (jr 3 27 v3 rfl rfl)
 obtain⟨fu3,hf3⟩:=h3
 simp only[Value.cells]at hf3
 obtain⟨tb1,L1,e1,xG,r6,hH1,kM,jS⟩:=rq (ρ:=fK) fK.none ac (fun r:fK=>.agg [.lit (.string r.host),.lit (.int .i64 r.port),.lit (.string r.target),.lit (.string r.raw),.lit (.int .i64 r.fail),.lit (.int .u64 r.since),.lit (.int .u64 r.yo)]) (fun r:fK=>r.host.length≤maxLen∧(Lit.int .i64 r.port).wf=true∧r.target.length≤maxLen∧r.raw.length≤maxLen∧(Lit.int .i64 r.fail).wf=true∧(Lit.int .u64 r.since).wf=true∧(Lit.int .u64 r.yo).wf=true) (fun r=>by simp[flat,flat.ai,ac]) Tryz.underlying27 (s:=7) (by kernel_rfl) (fun _ _ _ hx=>by obtain⟨a0,a1,a2,a3,a4,a5,a6,rfl,rfl,hw⟩:=trod_33 hx;exact⟨⟨a0,a1,a2,a3,a4,a5,a6⟩,by simp[a8,ak,ac],rfl,hw⟩) (xT Tryz.underlying27 (jr 3 27 _ rfl rfl)) hf3
 have ee1:Value.slice sa3 sl3 sc3=oV tb1 L1.length:=e1
 simp only[List.append_nil]at Ga
 have iT:∀ r∈L1,r.host.length≤140737488355328∧r.target.length≤140737488355328∧r.raw.length≤140737488355328:=fun r hr=>⟨Nat.le_trans (of_decide_eq_true (List.all_eq_true.1 Ga _ (DataW.weights_mem_each (j:=3) (t:=27) rfl rfl _ (og Tryz.underlying27 r6 hr (by simp[DataW.weights,DataW.weightsEach,Tryz.underlying25,Tryz.underlying33,Tryz.underlying3,Tryz.underlying9]))))) (by decide),Nat.le_trans (of_decide_eq_true (List.all_eq_true.1 Ga _ (DataW.weights_mem_each (j:=3) (t:=27) rfl rfl _ (og Tryz.underlying27 r6 hr (by simp[DataW.weights,DataW.weightsEach,Tryz.underlying25,Tryz.underlying33,Tryz.underlying3,Tryz.underlying9]))))) (by decide),Nat.le_trans (of_decide_eq_true (List.all_eq_true.1 Ga _ (DataW.weights_mem_each (j:=3) (t:=27) rfl rfl _ (og Tryz.underlying27 r6 hr (by simp[DataW.weights,DataW.weightsEach,Tryz.underlying25,Tryz.underlying33,Tryz.underlying3,Tryz.underlying9]))))) (by decide)⟩
 have NP:=SC.law (l:=([(tb0,.own (L0.flatMap rp) 5 1 L0.length false),(tb1,.own (L1.flatMap ac) 33 7 L1.length false)]:List (Bt × av))) (C7 L0 a1 a2 L1 NQ hq0 (by simpa using b1) xG iT) (IV hS) (by
  intro x hx
  simp only[List.mem_cons,List.not_mem_nil,or_false]at hx
  rcases hx with rfl|rfl
  ·exact⟨rfl,hH0,l9⟩
  ·exact⟨rfl,hH1,kM⟩
  )
 have hc:(#[.slice sa0 sl0 sc0,.int .u8 a1,.int .u64 a2,.slice sa3 sl3 sc3]:Array Value)=(a8 (fun i=>((([(tb0,.own (L0.flatMap rp) 5 1 L0.length false),(tb1,.own (L1.flatMap ac) 33 7 L1.length false)]:List (Bt × av))[i]?).map (·.1)).getD (me 0)) [.o 0 L0.length,.int .u8 a1,.int .u64 a2,.o 1 L1.length]).toArray:=by simp[a8,ak,ee0,ee1]
 rw[hc]
 refine NP.mono fun e W' ⟨he,bel⟩=>?_
 subst he
 rw[← hc]
 exact⟨_,rfl,zw laidOut (by kernel_rfl) rfl rfl Tryz.underlying4 rfl rfl rfl rfl hW' bel⟩
noncomputable def world (os:Os):World:=rv os
theorem reads (os:Os){H:Type}(enc:TypeId × Value→H):∃ places,DataW.whole enc Tryz.prog ((world os).forCall (fun _ _=>0) ⟨#[],(#[.slice none 0 0,.int .u8 0,.int .u64 0,.slice none 0 0]:Array Value),[]⟩).memory Tryz.f7.params.toList Rows.fetchApartSpec.vars false (#[.slice none 0 0,.int .u8 0,.int .u64 0,.slice none 0 0]:Array Value).toList 8=some ([.nil,.lit (.int .u8 0),.lit (.int .u64 0),.nil],[],places) :=
 ⟨[],by kernel_rfl⟩
set_option maxRecDepth 100000 in
theorem lifted (os:Os)(started:os.Started)(H:Type)(enc:TypeId × Value→H)(F:Stop.Interp) :
 ReturnsInHanded {} Tryz.checked os 7 .any ((OpenSpec.ofChange Rows.fetchApartSpec).preRow enc Tryz.prog Tryz.f7 Rows.fetchApartRow.domain false Rows.fetchApartRow.laid) (((OpenSpec.ofChange Rows.fetchApartSpec).at F).post enc Tryz.prog Tryz.f7 false true false false):=by
 obtain⟨places,hx⟩:=reads os enc
 refine returnsInHanded_of_row (C:=Tryz.checked) (s:=OpenSpec.ofChange Rows.fetchApartSpec) own started (by kernel_rfl) Tryz.func7
  (witness_row_at (enc:=enc) (C:=Tryz.checked) false (world os) (#[.slice none 0 0,.int .u8 0,.int .u64 0,.slice none 0 0]:Array Value) rfl (by kernel_rfl) (by kernel_rfl) (by kernel_rfl)
    (OpenSpec.preRow_of_cond 8 hx (by kernel_rfl) (fun k hk=>by cases hk) (by kernel_rfl) (zx os _))) ?_
 intro W base args ds gs before jr hW _ r7 Ga _ hS _
 exact contract H enc W base args ds gs before jr hW Ga hS
set_option maxRecDepth 100000 in
theorem facts:((Rows.fetchApartRow.inPlace==Tryz.pinned.checked.prog.inPlace 7)&&(Rows.fetchApartRow.unfollowed==Tryz.pinned.checked.prog.unfollowed 7)&&(Rows.fetchApartRow.recurses==Tryz.pinned.checked.prog.recurses 7)&&(Rows.fetchApartRow.named==Tryz.pinned.checked.prog.varsNamed 7))=true:=by kernel_rfl
set_option maxRecDepth 100000 in
set_option maxHeartbeats 20000000 in
theorem joined:joinedFacts Tryz.pinned.checked.prog 7 Tryz.f7 (OpenSpec.ofChange Rows.fetchApartSpec).bare Rows.fetchApartRow=true:=by
 unfold joinedFacts
 simp only[Bool.and_eq_true]
 repeat' apply And.intro
 ·as_aux_lemma=>kernel_rfl
 ·exact laidOut
 ·exact pf_maps
 ·as_aux_lemma=>kernel_rfl
 ·as_aux_lemma=>kernel_rfl
 ·as_aux_lemma=>kernel_rfl
 ·exact pf_stops
 ·as_aux_lemma=>kernel_rfl
 ·exact pf_knobs
 ·exact(and4 facts).1.1
 ·exact(and4 facts).1.2
 ·exact(and4 facts).2.1
 ·exact(and4 facts).2.2
 ·as_aux_lemma=>kernel_rfl
 ·as_aux_lemma=>kernel_rfl
 ·as_aux_lemma=>kernel_rfl
 ·as_aux_lemma=>kernel_rfl
 ·as_aux_lemma=>kernel_rfl
 ·as_aux_lemma=>kernel_rfl
 ·as_aux_lemma=>kernel_rfl
 ·as_aux_lemma=>kernel_rfl
 ·as_aux_lemma=>kernel_rfl
 ·exact pf_keys
 ·as_aux_lemma=>kernel_rfl
 ·exact pf_heard
 ·exact pf_may
 ·exact pf_lifts
 ·exact pf_make
 ·as_aux_lemma=>kernel_rfl
 ·as_aux_lemma=>kernel_rfl
 ·as_aux_lemma=>kernel_rfl
 ·as_aux_lemma=>kernel_rfl
theorem wrapper:Func.isWrapper Tryz.pinned.checked.prog Tryz.f7 (Rows.fetchApartRow).wrapper (Rows.fetchApartRow).mainSum:=by
 unfold Func.isWrapper;first | (rw[if_pos (by decide +kernel)];kernel_rfl) | (rw[if_neg (by decide +kernel)];exact⟨rfl,rfl⟩)
theorem said:Rows.FetchApartSaid :=
 OpenClaim.holds_of_cond 7 Tryz.f7 rfl rfl rfl rfl rfl rfl rfl ⟨rfl,rfl,rfl,rfl,rfl⟩ rfl rfl rfl rfl rfl (by as_aux_lemma=>kernel_rfl) Tryz.func7 joined
  (of_decide_eq_true (by as_aux_lemma=>kernel_rfl)) wrapper
  (fun os started H enc _ F=>by rw[OpenClaim.pre_eq_preRow];exact lifted os started H enc F)
theorem plain (f : FuncId) (fn : Func) (hf : Tryz.pinned.checked.prog.funcNamed "webfinger/webfingerlaw26.FetchApart" = some f) (hfn : Tryz.pinned.checked.prog.funcs[f]? = some fn) :
 false=Tryz.pinned.checked.prog.looks []∧∀ (j:Nat) t,fn.params[j]? = some t→Tryz.pinned.checked.prog.wantsStandIn t=false:=by
 obtain rfl : f = 7 := Option.some.inj ((show Tryz.prog.funcNamed "webfinger/webfingerlaw26.FetchApart" = some 7 by kernel_rfl).symm.trans hf) |>.symm
 obtain rfl:fn=Tryz.f7:=(Option.some.inj (Tryz.func7.symm.trans hfn)).symm
 refine⟨yO,fun j t ht=>?_⟩
 rw[Tryz.params7]at ht
 have hm:=Array.mem_of_getElem? ht
 have hw:∀ t∈([22,5,25,27]:List TypeId),Tryz.prog.wantsStandIn t=false:=by
  intro t ht
  simp only[List.mem_cons,List.not_mem_nil,or_false]at ht
  rcases ht with rfl|rfl|rfl|rfl
  ·kernel_rfl
  ·kernel_rfl
  ·kernel_rfl
  ·kernel_rfl
 exact hw t (by simpa using hm)
theorem proved:Rows.FetchApartCardSaid :=
 Claim7.holds_tied_plain_at .later [] _ _ _ _ said (fun _ h=>by cases h) (by as_aux_lemma=>kernel_rfl) (fun _ h=>by cases h) fetchApart_row_tie rfl ⟨rfl,rfl⟩ (by as_aux_lemma=>kernel_rfl) rfl plain (by as_aux_lemma=>kernel_rfl)
#print axioms proved
end Go.Proofs.YtnmlimehgifadaaGreatDoor.fetchApart
