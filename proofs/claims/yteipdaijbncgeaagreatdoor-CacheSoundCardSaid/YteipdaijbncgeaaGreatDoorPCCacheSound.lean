/- For every input: CacheSound returns true. No conditions. -/
import Derived.Test.YteipdaijbncgeaaGreatDoorI8
set_option linter.all false
namespace Go.Proofs.YteipdaijbncgeaaGreatDoor.cacheSound
open Go Vc Go.RowKit Wf
open Go.ChangeShapes Go.WideShapes Go.ChangeAt
open Go.WideMaps Go.WideElems
open Go.ChangeMaps (setBlock shut_map_nil open_string shut_string keptBut_setBlock frozen?_setBlock heap_setBlock_same)
set_option maxRecDepth 100000 in
theorem contract (H:Type)(enc:TypeId × Value→H)(W:World)(base:Nat)(args:Array Value)(ds gs:List (DataW H))(before:List MemPlace)
 (sU:∀ (j:Nat) t v,Tryz.f3.params[j]? = some t→args[j]? = some v→Value.okWide Tryz.prog W .any base t v)
 (hW:DataW.Whole enc Tryz.prog Tryz.f3.params.toList Rows.cacheSoundSpec.vars false W args.toList ds gs before) (hwt:(DataW.weightsEach Tryz.prog (Tryz.f3.params.toList++(OpenSpec.ofChange Rows.cacheSoundSpec).bare.plain.varTypes Tryz.prog) (ds++gs)).all (·≤reachBytes)=true) (hS:W.ShapedOpen Tryz.prog) :
 Calls Tryz.prog 3 args W fun e W'=>∃ v,e=.returned v∧Rows.cacheSoundSpec.post enc Tryz.prog Tryz.f3 false true false false W args v W':=by
 have hW':=hW
 obtain⟨p,q,hA0,hV,rfl,wD,hnd⟩:=hW
 have hA:DataW.TrodAll enc Tryz.prog W 0 (fun _=>true) true Tryz.f3.params.toList args.toList ds p:=hA0
 rw[Tryz.params3]at hA sU hwt
 obtain⟨v0,vs0,d0,ds0,p0,q0,hN,rfl,rfl,h0,r0⟩:=trodAll_cons hA
 obtain⟨v1,vs1,d1,ds1,p1,q1,rfl,rfl,rfl,h1,r1⟩:=trodAll_cons r0
 obtain⟨v2,vs2,d2,ds2,p2,q2,rfl,rfl,rfl,h2,r2⟩:=trodAll_cons r1
 obtain⟨v3,vs3,d3,ds3,p3,q3,rfl,rfl,rfl,h3,r3⟩:=trodAll_cons r2
 obtain⟨v4,vs4,d4,ds4,p4,q4,rfl,rfl,rfl,h4,r4⟩:=trodAll_cons r3
 obtain⟨rfl,rfl,rfl⟩:=trodAll_nil r4
 obtain rfl:args=#[v0,v1,v2,v3,v4]:=by cases args;simp_all
 obtain⟨rfl,rfl⟩:=trodVars_none hV
 obtain⟨a0,rfl,rfl,rfl,w0⟩:=open_int Tryz.underlying3 (sU 0 3 v0 rfl rfl) h0
 have b0:IntKind.min .i64≤a0∧a0≤IntKind.max .i64:=by simpa[Lit.wf] using w0
 simp only[IntKind.min,IntKind.max,IntKind.signed,IntKind.bits]at b0
 have ok1:=sU 1 24 v1 rfl rfl
 obtain⟨cs1,rfl,-⟩:=okWide_struct Tryz.underlying24 ok1
 obtain⟨fu1,zB⟩:=h1
 obtain⟨cs1⟩:=cs1
 simp only[Value.cells]at zB
 have gA:wL 24 d1:=fun k hk=>of_decide_eq_true (List.all_eq_true.1 hwt _ (DataW.weights_mem_each (j:=1) (t:=24) rfl rfl _ (by simpa using hk)))
 obtain⟨sa2,sl2,sc2,rfl⟩:=okWide_slice Tryz.underlying25 (sU 2 25 v2 rfl rfl)
 obtain⟨fu2,Gq⟩:=h2
 simp only[Value.cells]at Gq
 obtain⟨tb0,L0,e0,hl0,hd0,hH0,oU,hq0⟩:=Fv (ρ:=Int) 0 vT (fun r:Int=>.lit (.int .u8 r)) (fun r:Int=>(Lit.int .u8 r).wf=true) (fun r=>by simp[flat,flat.ai,vT]) Tryz.underlying25 (s:=1) (by kernel_rfl) (fun _ _ _ hx=>by obtain⟨a,rfl,rfl,hw⟩:=DataW.trod_int Tryz.underlying5 hx;exact⟨a,by simp[aJ,ah,vT],rfl,hw⟩) (ok_cell Tryz.underlying25 (sU 2 25 _ rfl rfl)) Gq
 have ee0:Value.slice sa2 sl2 sc2=oV tb0 L0.length:=e0
 obtain⟨a3,rfl,rfl,rfl,w3⟩:=open_int Tryz.underlying5 (sU 3 5 v3 rfl rfl) h3
 have b3:IntKind.min .u8≤a3∧a3≤IntKind.max .u8:=by simpa[Lit.wf] using w3
 simp only[IntKind.min,IntKind.max,IntKind.signed,IntKind.bits]at b3
 obtain⟨a4,rfl,rfl,rfl,w4⟩:=open_int Tryz.underlying5 (sU 4 5 v4 rfl rfl) h4
 have b4:IntKind.min .u8≤a4∧a4≤IntKind.max .u8:=by simpa[Lit.wf] using w4
 simp only[IntKind.min,IntKind.max,IntKind.signed,IntKind.bits]at b4
 have hL0:gz W ([(tb0,.own (L0.flatMap vT) 5 1 L0.length false)]:List (Bt × aw)):=gz.snoc (l:=[]) (gz.nil W) rfl (fun β _=>hH0 β) oU
 obtain⟨ls1,cp1,xe1,L1,hO1,tz,qN,im⟩:=Dc fu1 hL0 cs1 _ zB gA
 simp only[List.append_nil]at hwt
 have hlaw:=SC.lawN (l:=([(tb0,.own (L0.flatMap vT) 5 1 L0.length false)]++ls1)) (yl _ _ 0 a0 cp1 L1 L0 a3 a4 false qN im rfl hl0 (fun r hr=>by have:=hq0 r hr;simpa[Lit.wf,IntKind.min,IntKind.max,IntKind.signed,IntKind.bits] using this) (by simpa using b3) (by simpa using b4)) (env_of hS) hO1
 have hc:(#[.int .i64 a0,.agg ⟨cs1⟩,.slice sa2 sl2 sc2,.int .u8 a3,.int .u8 a4]:Array Value)=(aJ (qG ([(tb0,.own (L0.flatMap vT) 5 1 L0.length false)]++ls1)) [.int .i64 a0,.agg ([.int .i64 cp1,xe1]),.o 0 L0.length,.int .u8 a3,.int .u8 a4]).toArray:=by rw[tz (qG ([(tb0,.own (L0.flatMap vT) 5 1 L0.length false)]++ls1)) (lx _)];simp[aJ,ah,bV,qG,ee0]
 rw[hc]
 refine hlaw.mono fun e W' ⟨he,bel⟩=>?_
 subst he
 rw[← hc]
 exact⟨_,rfl,Hz laidOut (by kernel_rfl) rfl rfl Tryz.underlying4 rfl rfl rfl rfl hW' bel⟩
noncomputable def world (os:Os):World:=xA os
theorem reads (os:Os){H:Type}(enc:TypeId × Value→H):∃ places,DataW.whole enc Tryz.prog ((world os).forCall (fun _ _=>0) ⟨#[],(#[.int .i64 0,.agg #[.int .i64 0,.slice none 0 0],.slice none 0 0,.int .u8 0,.int .u8 0]:Array Value),[]⟩).memory Tryz.f3.params.toList Rows.cacheSoundSpec.vars false (#[.int .i64 0,.agg #[.int .i64 0,.slice none 0 0],.slice none 0 0,.int .u8 0,.int .u8 0]:Array Value).toList 8=some ([.lit (.int .i64 0),.agg [.lit (.int .i64 0),.nil],.nil,.lit (.int .u8 0),.lit (.int .u8 0)],[],places) :=
 ⟨[],by kernel_rfl⟩
set_option maxRecDepth 100000 in
theorem lifted (os:Os)(started:os.Started)(H:Type)(enc:TypeId × Value→H)(F:Stop.Interp) :
 ReturnsInHanded {} Tryz.checked os 3 .any ((OpenSpec.ofChange Rows.cacheSoundSpec).preRow enc Tryz.prog Tryz.f3 Rows.cacheSoundRow.domain false Rows.cacheSoundRow.laid) (((OpenSpec.ofChange Rows.cacheSoundSpec).at F).post enc Tryz.prog Tryz.f3 false true false false):=by
 obtain⟨places,hx⟩:=reads os enc
 refine returnsInHanded_of_row (C:=Tryz.checked) (s:=OpenSpec.ofChange Rows.cacheSoundSpec) own started (by kernel_rfl) Tryz.func3
  (witness_row_at (enc:=enc) (C:=Tryz.checked) false (world os) (#[.int .i64 0,.agg #[.int .i64 0,.slice none 0 0],.slice none 0 0,.int .u8 0,.int .u8 0]:Array Value) rfl (by kernel_rfl) (by kernel_rfl) (by kernel_rfl)
    (OpenSpec.preRow_of_cond 8 hx (by kernel_rfl) (fun k hk=>by cases hk) (by kernel_rfl) (HD os _))) ?_
 intro W base args ds gs before sU hW _ lf hwt _ hS _
 exact contract H enc W base args ds gs before sU hW hwt hS
set_option maxRecDepth 100000 in
theorem facts:((Rows.cacheSoundRow.inPlace==Tryz.pinned.checked.prog.inPlace 3)&&(Rows.cacheSoundRow.unfollowed==Tryz.pinned.checked.prog.unfollowed 3)&&(Rows.cacheSoundRow.recurses==Tryz.pinned.checked.prog.recurses 3)&&(Rows.cacheSoundRow.named==Tryz.pinned.checked.prog.varsNamed 3))=true:=by kernel_rfl
set_option maxRecDepth 100000 in
set_option maxHeartbeats 20000000 in
theorem joined:joinedFacts Tryz.pinned.checked.prog 3 Tryz.f3 (OpenSpec.ofChange Rows.cacheSoundSpec).bare Rows.cacheSoundRow=true:=by
 unfold joinedFacts
 simp only[Bool.and_eq_true]
 repeat' apply And.intro
 ·as_aux_lemma=>kernel_rfl
 ·exact laidOut
 ·exact pf_maps
 ·as_aux_lemma=>kernel_rfl
 ·as_aux_lemma=>kernel_rfl
 ·as_aux_lemma=>kernel_rfl
 ·exact pf_stops
 ·as_aux_lemma=>kernel_rfl
 ·exact pf_knobs
 ·exact(and4 facts).1.1
 ·exact(and4 facts).1.2
 ·exact(and4 facts).2.1
 ·exact(and4 facts).2.2
 ·as_aux_lemma=>kernel_rfl
 ·as_aux_lemma=>kernel_rfl
 ·as_aux_lemma=>kernel_rfl
 ·as_aux_lemma=>kernel_rfl
 ·as_aux_lemma=>kernel_rfl
 ·as_aux_lemma=>kernel_rfl
 ·as_aux_lemma=>kernel_rfl
 ·as_aux_lemma=>kernel_rfl
 ·as_aux_lemma=>kernel_rfl
 ·exact pf_keys
 ·as_aux_lemma=>kernel_rfl
 ·exact pf_heard
 ·exact pf_may
 ·exact pf_lifts
 ·exact pf_make
 ·as_aux_lemma=>kernel_rfl
 ·as_aux_lemma=>kernel_rfl
 ·as_aux_lemma=>kernel_rfl
 ·as_aux_lemma=>kernel_rfl
theorem wrapper:Func.isWrapper Tryz.pinned.checked.prog Tryz.f3 (Rows.cacheSoundRow).wrapper (Rows.cacheSoundRow).mainSum:=by
 unfold Func.isWrapper;first | (rw[if_pos (by decide +kernel)];kernel_rfl) | (rw[if_neg (by decide +kernel)];exact⟨rfl,rfl⟩)
theorem said:Rows.CacheSoundSaid :=
 OpenClaim.holds_of_cond 3 Tryz.f3 rfl rfl rfl rfl rfl rfl rfl ⟨rfl,rfl,rfl,rfl,rfl⟩ rfl rfl rfl rfl rfl (by as_aux_lemma=>kernel_rfl) Tryz.func3 joined
  (of_decide_eq_true (by as_aux_lemma=>kernel_rfl)) wrapper
  (fun os started H enc _ F=>by rw[OpenClaim.pre_eq_preRow];exact lifted os started H enc F)
theorem plain (f : FuncId) (fn : Func) (hf : Tryz.pinned.checked.prog.funcNamed "webfinger/webfingerlaw31.CacheSound" = some f) (hfn : Tryz.pinned.checked.prog.funcs[f]? = some fn) :
 true=Tryz.pinned.checked.prog.looks []∧∀ (j:Nat) t,fn.params[j]? = some t→Tryz.pinned.checked.prog.wantsStandIn t=false:=by
 obtain rfl : f = 3 := Option.some.inj ((show Tryz.prog.funcNamed "webfinger/webfingerlaw31.CacheSound" = some 3 by kernel_rfl).symm.trans hf) |>.symm
 obtain rfl:fn=Tryz.f3:=(Option.some.inj (Tryz.func3.symm.trans hfn)).symm
 refine⟨G6,fun j t ht=>?_⟩
 rw[Tryz.params3]at ht
 have hm:=Array.mem_of_getElem? ht
 have hw:∀ t∈([3,24,25,5,5]:List TypeId),Tryz.prog.wantsStandIn t=false:=by
  intro t ht
  simp only[List.mem_cons,List.not_mem_nil,or_false]at ht
  rcases ht with rfl|rfl|rfl|rfl|rfl
  ·kernel_rfl
  ·kernel_rfl
  ·kernel_rfl
  ·kernel_rfl
  ·kernel_rfl
 exact hw t (by simpa using hm)
theorem proved:Rows.CacheSoundCardSaid :=
 Claim7.holds_tied_plain_at .later [] _ _ _ _ said (fun _ h=>by cases h) (by as_aux_lemma=>kernel_rfl) (fun _ h=>by cases h) cacheSound_row_tie rfl ⟨rfl,rfl⟩ (by as_aux_lemma=>kernel_rfl) rfl plain (by as_aux_lemma=>kernel_rfl)
#print axioms proved
end Go.Proofs.YteipdaijbncgeaaGreatDoor.cacheSound
