/- For every input: CacheOrder returns true. No conditions. -/
import Derived.Test.YteipdaijbncgeaaGreatDoorQ8
set_option linter.all false
namespace Go.Proofs.YteipdaijbncgeaaGreatDoor.cacheOrder
open Go Vc Go.RowKit Wf
open Go.ChangeShapes Go.WideShapes Go.ChangeAt
open Go.WideMaps Go.WideElems
open Go.ChangeMaps (setBlock shut_map_nil open_string shut_string keptBut_setBlock frozen?_setBlock heap_setBlock_same)
set_option maxRecDepth 100000 in
theorem contract (H:Type)(enc:TypeId × Value→H)(W:World)(base:Nat)(args:Array Value)(ds gs:List (DataW H))(before:List MemPlace)
 (iY:∀ (j:Nat) t v,Tryz.f5.params[j]? = some t→args[j]? = some v→Value.okWide Tryz.prog W .any base t v)
 (hW:DataW.Whole enc Tryz.prog Tryz.f5.params.toList Rows.cacheOrderSpec.vars false W args.toList ds gs before) (DX:(DataW.weightsEach Tryz.prog (Tryz.f5.params.toList++(OpenSpec.ofChange Rows.cacheOrderSpec).bare.plain.varTypes Tryz.prog) (ds++gs)).all (·≤reachBytes)=true) (hS:W.ShapedOpen Tryz.prog) :
 Calls Tryz.prog 5 args W fun e W'=>∃ v,e=.returned v∧Rows.cacheOrderSpec.post enc Tryz.prog Tryz.f5 false true false false W args v W':=by
 have hW':=hW
 obtain⟨p,q,hA0,hV,rfl,sX,hnd⟩:=hW
 have hA:DataW.TrodAll enc Tryz.prog W 0 (fun _=>true) true Tryz.f5.params.toList args.toList ds p:=hA0
 rw[Tryz.params5]at hA iY DX
 obtain⟨v0,vs0,d0,ds0,p0,q0,gx,rfl,rfl,h0,r0⟩:=trodAll_cons hA
 obtain⟨v1,vs1,d1,ds1,p1,q1,rfl,rfl,rfl,h1,r1⟩:=trodAll_cons r0
 obtain⟨rfl,rfl,rfl⟩:=trodAll_nil r1
 obtain rfl:args=#[v0,v1]:=by cases args;simp_all
 obtain⟨rfl,rfl⟩:=trodVars_none hV
 obtain⟨sa0,sl0,sc0,rfl⟩:=okWide_slice Tryz.underlying25 (iY 0 25 v0 rfl rfl)
 obtain⟨fu0,y8⟩:=h0
 simp only[Value.cells]at y8
 obtain⟨tb0,L0,e0,F6,hd0,hH0,nE,F1⟩:=rb (ρ:=Int) 0 kv (fun r:Int=>.lit (.int .u8 r)) (fun r:Int=>(Lit.int .u8 r).wf=true) (fun r=>by simp[flat,flat.ai,kv]) Tryz.underlying25 (s:=1) (by kernel_rfl) (fun _ _ _ hx=>by obtain⟨a,rfl,rfl,hw⟩:=DataW.trod_int Tryz.underlying5 hx;exact⟨a,by simp[aI,ah,kv],rfl,hw⟩) (yp Tryz.underlying25 (iY 0 25 _ rfl rfl)) y8
 have ee0:Value.slice sa0 sl0 sc0=oV tb0 L0.length:=e0
 obtain⟨a1,rfl,rfl,rfl,w1⟩:=open_int Tryz.underlying5 (iY 1 5 v1 rfl rfl) h1
 have b1:IntKind.min .u8≤a1∧a1≤IntKind.max .u8:=by simpa[Lit.wf] using w1
 simp only[IntKind.min,IntKind.max,IntKind.signed,IntKind.bits]at b1
 simp only[List.append_nil]at DX
 have HR:=SC.law (l:=([(tb0,.own (L0.flatMap kv) 5 1 L0.length false)]:List (Bt × ay))) (xR L0 a1 (by simpa using b1) F6 (fun r hr=>by have:=F1 r hr;simpa[Lit.wf,IntKind.min,IntKind.max,IntKind.signed,IntKind.bits] using this)) (De hS) (by
  intro x hx
  simp only[List.mem_cons,List.not_mem_nil,or_false]at hx
  rcases hx with rfl
  ·exact⟨rfl,hH0,nE⟩
  )
 have hc:(#[.slice sa0 sl0 sc0,.int .u8 a1]:Array Value)=(aI (fun i=>((([(tb0,.own (L0.flatMap kv) 5 1 L0.length false)]:List (Bt × ay))[i]?).map (·.1)).getD (jR 0)) [.o 0 L0.length,.int .u8 a1]).toArray:=by simp[aI,ah,ee0]
 rw[hc]
 refine HR.mono fun e W' ⟨he,bel⟩=>?_
 subst he
 rw[← hc]
 exact⟨_,rfl,uh laidOut (by kernel_rfl) rfl rfl Tryz.underlying4 rfl rfl rfl rfl hW' bel⟩
noncomputable def world (os:Os):World:=nY os
theorem reads (os:Os){H:Type}(enc:TypeId × Value→H):∃ places,DataW.whole enc Tryz.prog ((world os).forCall (fun _ _=>0) ⟨#[],(#[.slice none 0 0,.int .u8 0]:Array Value),[]⟩).memory Tryz.f5.params.toList Rows.cacheOrderSpec.vars false (#[.slice none 0 0,.int .u8 0]:Array Value).toList 8=some ([.nil,.lit (.int .u8 0)],[],places) :=
 ⟨[],by kernel_rfl⟩
set_option maxRecDepth 100000 in
theorem lifted (os:Os)(started:os.Started)(H:Type)(enc:TypeId × Value→H)(F:Stop.Interp) :
 ReturnsInHanded {} Tryz.checked os 5 .any ((OpenSpec.ofChange Rows.cacheOrderSpec).preRow enc Tryz.prog Tryz.f5 Rows.cacheOrderRow.domain false Rows.cacheOrderRow.laid) (((OpenSpec.ofChange Rows.cacheOrderSpec).at F).post enc Tryz.prog Tryz.f5 false true false false):=by
 obtain⟨places,hx⟩:=reads os enc
 refine returnsInHanded_of_row (C:=Tryz.checked) (s:=OpenSpec.ofChange Rows.cacheOrderSpec) own started (by kernel_rfl) Tryz.func5
  (witness_row_at (enc:=enc) (C:=Tryz.checked) false (world os) (#[.slice none 0 0,.int .u8 0]:Array Value) rfl (by kernel_rfl) (by kernel_rfl) (by kernel_rfl)
    (OpenSpec.preRow_of_cond 8 hx (by kernel_rfl) (fun k hk=>by cases hk) (by kernel_rfl) (uj os _))) ?_
 intro W base args ds gs before iY hW _ jK DX _ hS _
 exact contract H enc W base args ds gs before iY hW DX hS
set_option maxRecDepth 100000 in
theorem facts:((Rows.cacheOrderRow.inPlace==Tryz.pinned.checked.prog.inPlace 5)&&(Rows.cacheOrderRow.unfollowed==Tryz.pinned.checked.prog.unfollowed 5)&&(Rows.cacheOrderRow.recurses==Tryz.pinned.checked.prog.recurses 5)&&(Rows.cacheOrderRow.named==Tryz.pinned.checked.prog.varsNamed 5))=true:=by kernel_rfl
set_option maxRecDepth 100000 in
set_option maxHeartbeats 20000000 in
theorem joined:joinedFacts Tryz.pinned.checked.prog 5 Tryz.f5 (OpenSpec.ofChange Rows.cacheOrderSpec).bare Rows.cacheOrderRow=true:=by
 unfold joinedFacts
 simp only[Bool.and_eq_true]
 repeat' apply And.intro
 ·as_aux_lemma=>kernel_rfl
 ·exact laidOut
 ·exact pf_maps
 ·as_aux_lemma=>kernel_rfl
 ·as_aux_lemma=>kernel_rfl
 ·as_aux_lemma=>kernel_rfl
 ·exact pf_stops
 ·as_aux_lemma=>kernel_rfl
 ·exact pf_knobs
 ·exact(and4 facts).1.1
 ·exact(and4 facts).1.2
 ·exact(and4 facts).2.1
 ·exact(and4 facts).2.2
 ·as_aux_lemma=>kernel_rfl
 ·as_aux_lemma=>kernel_rfl
 ·as_aux_lemma=>kernel_rfl
 ·as_aux_lemma=>kernel_rfl
 ·as_aux_lemma=>kernel_rfl
 ·as_aux_lemma=>kernel_rfl
 ·as_aux_lemma=>kernel_rfl
 ·as_aux_lemma=>kernel_rfl
 ·as_aux_lemma=>kernel_rfl
 ·exact pf_keys
 ·as_aux_lemma=>kernel_rfl
 ·exact pf_heard
 ·exact pf_may
 ·exact pf_lifts
 ·exact pf_make
 ·as_aux_lemma=>kernel_rfl
 ·as_aux_lemma=>kernel_rfl
 ·as_aux_lemma=>kernel_rfl
 ·as_aux_lemma=>kernel_rfl
theorem wrapper:Func.isWrapper Tryz.pinned.checked.prog Tryz.f5 (Rows.cacheOrderRow).wrapper (Rows.cacheOrderRow).mainSum:=by
 unfold Func.isWrapper;first | (rw[if_pos (by decide +kernel)];kernel_rfl) | (rw[if_neg (by decide +kernel)];exact⟨rfl,rfl⟩)
theorem said:Rows.CacheOrderSaid :=
 OpenClaim.holds_of_cond 5 Tryz.f5 rfl rfl rfl rfl rfl rfl rfl ⟨rfl,rfl,rfl,rfl,rfl⟩ rfl rfl rfl rfl rfl (by as_aux_lemma=>kernel_rfl) Tryz.func5 joined
  (of_decide_eq_true (by as_aux_lemma=>kernel_rfl)) wrapper
  (fun os started H enc _ F=>by rw[OpenClaim.pre_eq_preRow];exact lifted os started H enc F)
theorem plain (f : FuncId) (fn : Func) (hf : Tryz.pinned.checked.prog.funcNamed "webfinger/webfingerlaw31.CacheOrder" = some f) (hfn : Tryz.pinned.checked.prog.funcs[f]? = some fn) :
 true=Tryz.pinned.checked.prog.looks []∧∀ (j:Nat) t,fn.params[j]? = some t→Tryz.pinned.checked.prog.wantsStandIn t=false:=by
 obtain rfl : f = 5 := Option.some.inj ((show Tryz.prog.funcNamed "webfinger/webfingerlaw31.CacheOrder" = some 5 by kernel_rfl).symm.trans hf) |>.symm
 obtain rfl:fn=Tryz.f5:=(Option.some.inj (Tryz.func5.symm.trans hfn)).symm
 refine⟨tJ,fun j t ht=>?_⟩
 rw[Tryz.params5]at ht
 have hm:=Array.mem_of_getElem? ht
 have hw:∀ t∈([25,5]:List TypeId),Tryz.prog.wantsStandIn t=false:=by
  intro t ht
  simp only[List.mem_cons,List.not_mem_nil,or_false]at ht
  rcases ht with rfl|rfl
  ·kernel_rfl
  ·kernel_rfl
 exact hw t (by simpa using hm)
theorem proved:Rows.CacheOrderCardSaid :=
 Claim7.holds_tied_plain_at .later [] _ _ _ _ said (fun _ h=>by cases h) (by as_aux_lemma=>kernel_rfl) (fun _ h=>by cases h) cacheOrder_row_tie rfl ⟨rfl,rfl⟩ (by as_aux_lemma=>kernel_rfl) rfl plain (by as_aux_lemma=>kernel_rfl)
#print axioms proved
end Go.Proofs.YteipdaijbncgeaaGreatDoor.cacheOrder
