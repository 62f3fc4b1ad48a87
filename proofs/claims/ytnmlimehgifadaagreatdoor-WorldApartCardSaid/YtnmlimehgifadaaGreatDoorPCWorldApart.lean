/- For every input: WorldApart returns true. No conditions. -/
import Derived.Test.YtnmlimehgifadaaGreatDoorW8
set_option linter.all false
namespace Go.Proofs.YtnmlimehgifadaaGreatDoor.worldApart
open Go Vc Go.RowKit Wf
open Go.ChangeShapes Go.WideShapes Go.ChangeAt
open Go.WideMaps Go.WideElems
open Go.ChangeMaps (setBlock shut_map_nil open_string shut_string keptBut_setBlock frozen?_setBlock heap_setBlock_same)
set_option maxRecDepth 100000 in
theorem contract (H:Type)(enc:TypeId × Value→H)(W:World)(base:Nat)(args:Array Value)(ds gs:List (DataW H))(before:List MemPlace)
 (vF:∀ (j:Nat) t v,Tryz.f3.params[j]? = some t→args[j]? = some v→Value.okWide Tryz.prog W .any base t v)
 (hW:DataW.Whole enc Tryz.prog Tryz.f3.params.toList Rows.worldApartSpec.vars false W args.toList ds gs before) (hwt:(DataW.weightsEach Tryz.prog (Tryz.f3.params.toList++(OpenSpec.ofChange Rows.worldApartSpec).bare.plain.varTypes Tryz.prog) (ds++gs)).all (·≤reachBytes)=true) (hS:W.ShapedOpen Tryz.prog) :
 Calls Tryz.prog 3 args W fun e W'=>∃ v,e=.returned v∧Rows.worldApartSpec.post enc Tryz.prog Tryz.f3 false true false false W args v W':=by
 have hW':=hW
 obtain⟨p,q,rp,hV,rfl,hfz,hnd⟩:=hW
 have hA:DataW.TrodAll enc Tryz.prog W 0 (fun _=>true) true Tryz.f3.params.toList args.toList ds p:=rp
 rw[Tryz.params3]at hA vF hwt
 obtain⟨v0,vs0,d0,ds0,p0,q0,tp,rfl,rfl,h0,r0⟩:=trodAll_cons hA
 obtain⟨v1,vs1,d1,ds1,p1,q1,rfl,rfl,rfl,h1,r1⟩:=trodAll_cons r0
 obtain⟨v2,vs2,d2,ds2,p2,q2,rfl,rfl,rfl,h2,r2⟩:=trodAll_cons r1
 obtain⟨v3,vs3,d3,ds3,p3,q3,rfl,rfl,rfl,h3,r3⟩:=trodAll_cons r2
 obtain⟨rfl,rfl,rfl⟩:=trodAll_nil r3
 obtain rfl:args=#[v0,v1,v2,v3]:=by cases args;simp_all
 obtain⟨rfl,rfl⟩:=trodVars_none hV
 obtain⟨sa0,sl0,sc0,rfl⟩:=okWide_slice Tryz.underlying22 (vF 0 22 v0 rfl rfl)
 obtain⟨fu0,Eb⟩:=h0
 simp only[Value.cells]at Eb
 obtain⟨tb0,L0,e0,hl0,hd0,hH0,kW,hq0⟩:=FP (ρ:=Int) 0 Af (fun r:Int=>.lit (.int .u8 r)) (fun r:Int=>(Lit.int .u8 r).wf=true) (fun r=>by simp[flat,flat.af,Af]) Tryz.underlying22 (s:=1) (by kernel_rfl) (fun _ _ _ hx=>by obtain⟨a,rfl,rfl,hw⟩:=DataW.trod_int Tryz.underlying5 hx;exact⟨a,by simp[bG,ai,Af],rfl,hw⟩) (ok_cell Tryz.underlying22 (vF 0 22 _ rfl rfl)) Eb
 have ee0:Value.slice sa0 sl0 sc0=oV tb0 L0.length:=e0
 obtain⟨x1_0,x1_1,rfl,rfl,rfl,z1⟩:=open_24 (vF 1 24 v1 rfl rfl) h1
 obtain⟨a2,rfl,rfl,rfl,w2⟩:=open_int Tryz.underlying25 (vF 2 25 v2 rfl rfl) h2
 have b2:IntKind.min .u64≤a2∧a2≤IntKind.max .u64:=by simpa[Lit.wf] using w2
 simp only[IntKind.min,IntKind.max,IntKind.signed,IntKind.bits]at b2
 obtain⟨a3,rfl,rfl,rfl,w3⟩:=open_int Tryz.underlying5 (vF 3 5 v3 rfl rfl) h3
 have b3:IntKind.min .u8≤a3∧a3≤IntKind.max .u8:=by simpa[Lit.wf] using w3
 simp only[IntKind.min,IntKind.max,IntKind.signed,IntKind.bits]at b3
 simp only[List.append_nil]at hwt
 have bx1_0:x1_0.length≤140737488355328:=Nat.le_trans (of_decide_eq_true (List.all_eq_true.1 hwt _ (DataW.weights_mem_each (j:=1) (t:=24) rfl rfl _ (by simp[DataW.weights,DataW.weightsEach,Tryz.underlying24,Tryz.underlying3,Tryz.underlying9])))) (by decide)
 have hlaw:=SC.law (l:=([(tb0,.own (L0.flatMap Af) 5 1 L0.length false)]:List (Bt × aw))) (yR L0 ⟨x1_0,x1_1⟩ a2 a3 hl0 hq0 (by simpa using b3)) (env_of hS) (by
  intro x hx
  simp only[List.mem_cons,List.not_mem_nil,or_false]at hx
  rcases hx with rfl
  ·exact⟨rfl,hH0,kW⟩
  )
 have hc:(#[.slice sa0 sl0 sc0,.agg #[.string ⟨⟨x1_0⟩⟩,.int .i64 x1_1],.int .u64 a2,.int .u8 a3]:Array Value)=(bG (fun i=>((([(tb0,.own (L0.flatMap Af) 5 1 L0.length false)]:List (Bt × aw))[i]?).map (·.1)).getD (pS 0)) [.o 0 L0.length,.agg [.str x1_0,.int .i64 x1_1],.int .u64 a2,.int .u8 a3]).toArray:=by simp[bG,ai,ee0]
 rw[hc]
 refine hlaw.mono fun e W' ⟨he,bel⟩=>?_
 subst he
 rw[← hc]
 exact⟨_,rfl,H5 laidOut (by kernel_rfl) rfl rfl Tryz.underlying4 rfl rfl rfl rfl hW' bel⟩
noncomputable def world (os:Os):World:=ya os
theorem reads (os:Os){H:Type}(enc:TypeId × Value→H):∃ places,DataW.whole enc Tryz.prog ((world os).forCall (fun _ _=>0) ⟨#[],(#[.slice none 0 0,.agg #[.string ⟨#[]⟩,.int .i64 0],.int .u64 0,.int .u8 0]:Array Value),[]⟩).memory Tryz.f3.params.toList Rows.worldApartSpec.vars false (#[.slice none 0 0,.agg #[.string ⟨#[]⟩,.int .i64 0],.int .u64 0,.int .u8 0]:Array Value).toList 8=some ([.nil,.agg [.lit (.string []),.lit (.int .i64 0)],.lit (.int .u64 0),.lit (.int .u8 0)],[],places) :=
 ⟨[],by kernel_rfl⟩
set_option maxRecDepth 100000 in
theorem lifted (os:Os)(started:os.Started)(H:Type)(enc:TypeId × Value→H)(F:Stop.Interp) :
 ReturnsInHanded {} Tryz.checked os 3 .any ((OpenSpec.ofChange Rows.worldApartSpec).preRow enc Tryz.prog Tryz.f3 Rows.worldApartRow.domain false Rows.worldApartRow.laid) (((OpenSpec.ofChange Rows.worldApartSpec).at F).post enc Tryz.prog Tryz.f3 false true false false):=by
 obtain⟨places,hx⟩:=reads os enc
 refine returnsInHanded_of_row (C:=Tryz.checked) (s:=OpenSpec.ofChange Rows.worldApartSpec) own started (by kernel_rfl) Tryz.func3
  (witness_row_at (enc:=enc) (C:=Tryz.checked) false (world os) (#[.slice none 0 0,.agg #[.string ⟨#[]⟩,.int .i64 0],.int .u64 0,.int .u8 0]:Array Value) rfl (by kernel_rfl) (by kernel_rfl) (by kernel_rfl)
    (OpenSpec.preRow_of_cond 8 hx (by kernel_rfl) (fun k hk=>by cases hk) (by kernel_rfl) (H8 os _))) ?_
 intro W base args ds gs before vF hW _ tl hwt _ hS _
 exact contract H enc W base args ds gs before vF hW hwt hS
set_option maxRecDepth 100000 in
theorem facts:((Rows.worldApartRow.inPlace==Tryz.pinned.checked.prog.inPlace 3)&&(Rows.worldApartRow.unfollowed==Tryz.pinned.checked.prog.unfollowed 3)&&(Rows.worldApartRow.recurses==Tryz.pinned.checked.prog.recurses 3)&&(Rows.worldApartRow.named==Tryz.pinned.checked.prog.varsNamed 3))=true:=by kernel_rfl
set_option maxRecDepth 100000 in
set_option maxHeartbeats 20000000 in
theorem joined:joinedFacts Tryz.pinned.checked.prog 3 Tryz.f3 (OpenSpec.ofChange Rows.worldApartSpec).bare Rows.worldApartRow=true:=by
 unfold joinedFacts
 simp only[Bool.and_eq_true]
 repeat' apply And.intro
 ·as_aux_lemma=>kernel_rfl
 ·exact laidOut
 ·exact pf_maps
 ·as_aux_lemma=>kernel_rfl
 ·as_aux_lemma=>kernel_rfl
 ·as_aux_lemma=>kernel_rfl
 ·exact pf_stops
 ·as_aux_lemma=>kernel_rfl
 ·exact pf_knobs
 ·exact(and4 facts).1.1
 ·exact(and4 facts).1.2
 ·exact(and4 facts).2.1
 ·exact(and4 facts).2.2
 ·as_aux_lemma=>kernel_rfl
 ·as_aux_lemma=>kernel_rfl
 ·as_aux_lemma=>kernel_rfl
 ·as_aux_lemma=>kernel_rfl
 ·as_aux_lemma=>kernel_rfl
 ·as_aux_lemma=>kernel_rfl
 ·as_aux_lemma=>kernel_rfl
 ·as_aux_lemma=>kernel_rfl
 ·as_aux_lemma=>kernel_rfl
 ·exact pf_keys
 ·as_aux_lemma=>kernel_rfl
 ·exact pf_heard
 ·exact pf_may
 ·exact pf_lifts
 ·exact pf_make
 ·as_aux_lemma=>kernel_rfl
 ·as_aux_lemma=>kernel_rfl
 ·as_aux_lemma=>kernel_rfl
 ·as_aux_lemma=>kernel_rfl
theorem wrapper:Func.isWrapper Tryz.pinned.checked.prog Tryz.f3 (Rows.worldApartRow).wrapper (Rows.worldApartRow).mainSum:=by
 unfold Func.isWrapper;first | (rw[if_pos (by decide +kernel)];kernel_rfl) | (rw[if_neg (by decide +kernel)];exact⟨rfl,rfl⟩)
theorem said:Rows.WorldApartSaid :=
 OpenClaim.holds_of_cond 3 Tryz.f3 rfl rfl rfl rfl rfl rfl rfl ⟨rfl,rfl,rfl,rfl,rfl⟩ rfl rfl rfl rfl rfl (by as_aux_lemma=>kernel_rfl) Tryz.func3 joined
  (of_decide_eq_true (by as_aux_lemma=>kernel_rfl)) wrapper
  (fun os started H enc _ F=>by rw[OpenClaim.pre_eq_preRow];exact lifted os started H enc F)
theorem plain (f : FuncId) (fn : Func) (hf : Tryz.pinned.checked.prog.funcNamed "webfinger/webfingerlaw24.WorldApart" = some f) (hfn : Tryz.pinned.checked.prog.funcs[f]? = some fn) :
 false=Tryz.pinned.checked.prog.looks []∧∀ (j:Nat) t,fn.params[j]? = some t→Tryz.pinned.checked.prog.wantsStandIn t=false:=by
 obtain rfl : f = 3 := Option.some.inj ((show Tryz.prog.funcNamed "webfinger/webfingerlaw24.WorldApart" = some 3 by kernel_rfl).symm.trans hf) |>.symm
 obtain rfl:fn=Tryz.f3:=(Option.some.inj (Tryz.func3.symm.trans hfn)).symm
 refine⟨HS,fun j t ht=>?_⟩
 rw[Tryz.params3]at ht
 have hm:=Array.mem_of_getElem? ht
 have hw:∀ t∈([22,24,25,5]:List TypeId),Tryz.prog.wantsStandIn t=false:=by
  intro t ht
  simp only[List.mem_cons,List.not_mem_nil,or_false]at ht
  rcases ht with rfl|rfl|rfl|rfl
  ·kernel_rfl
  ·kernel_rfl
  ·kernel_rfl
  ·kernel_rfl
 exact hw t (by simpa using hm)
theorem proved:Rows.WorldApartCardSaid :=
 Claim7.holds_tied_plain_at .later [] _ _ _ _ said (fun _ h=>by cases h) (by as_aux_lemma=>kernel_rfl) (fun _ h=>by cases h) worldApart_row_tie rfl ⟨rfl,rfl⟩ (by as_aux_lemma=>kernel_rfl) rfl plain (by as_aux_lemma=>kernel_rfl)
#print axioms proved
end Go.Proofs.YtnmlimehgifadaaGreatDoor.worldApart
