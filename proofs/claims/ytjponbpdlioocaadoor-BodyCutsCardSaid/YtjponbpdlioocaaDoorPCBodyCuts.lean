/- For every input: BodyCuts returns true. No conditions. -/
import Derived.Test.YtjponbpdlioocaaDoorV3
set_option linter.all false
namespace Go.Proofs.YtjponbpdlioocaaDoor.bodyCuts
open Go Vc Go.RowKit Wf
open Go.ChangeShapes Go.WideShapes Go.ChangeAt
open Go.WideMaps Go.WideElems
open Go.ChangeMaps (setBlock shut_map_nil open_string shut_string keptBut_setBlock frozen?_setBlock heap_setBlock_same)
set_option maxRecDepth 100000 in
theorem contract (H : Type) (enc : TypeId × Value → H) (W : World) (base : Nat) (args : Array Value) (ds gs : List (DataW H)) (before : List MemPlace)
    (hval : ∀ (j : Nat) t v, Tryd.f3.params[j]? = some t → args[j]? = some v → Value.okWide Tryd.prog W .any base t v)
    (hW : DataW.Whole enc Tryd.prog Tryd.f3.params.toList Rows.bodyCutsSpec.vars false W args.toList ds gs before) (hS : W.ShapedOpen Tryd.prog) :
    Calls Tryd.prog 3 args W fun e W' => ∃ v, e = .returned v ∧ Rows.bodyCutsSpec.post enc Tryd.prog Tryd.f3 false true false false W args v W' := by
  have hW' := hW
  obtain ⟨p, q, hA0, hV, rfl, hfz, hnd⟩ := hW
  have hA : DataW.TrodAll enc Tryd.prog W 0 (fun _ => true) true Tryd.f3.params.toList args.toList ds p := hA0
  rw [Tryd.params3] at hA hval
  obtain ⟨v0, vs0, d0, ds0, p0, q0, hargs, rfl, rfl, h0, r0⟩ := trodAll_cons hA
  obtain ⟨v1, vs1, d1, ds1, p1, q1, rfl, rfl, rfl, h1, r1⟩ := trodAll_cons r0
  obtain ⟨v2, vs2, d2, ds2, p2, q2, rfl, rfl, rfl, h2, r2⟩ := trodAll_cons r1
  obtain ⟨rfl, rfl, rfl⟩ := trodAll_nil r2
  obtain rfl : args = #[v0, v1, v2] := by cases args; simp_all
  obtain ⟨rfl, rfl⟩ := trodVars_none hV
  obtain ⟨s0, rfl, rfl, rfl, w0⟩ := open_string Tryd.underlying9 (hval 0 9 v0 rfl rfl) h0
  obtain ⟨⟨l0⟩⟩ := s0
  obtain ⟨a1, rfl, rfl, rfl, w1⟩ := open_int Tryd.underlying5 (hval 1 5 v1 rfl rfl) h1
  have b1 : IntKind.min .u8 ≤ a1 ∧ a1 ≤ IntKind.max .u8 := by simpa [Lit.wf] using w1
  simp only [IntKind.min, IntKind.max, IntKind.signed, IntKind.bits] at b1
  obtain ⟨a2, rfl, rfl, rfl, w2⟩ := open_int Tryd.underlying5 (hval 2 5 v2 rfl rfl) h2
  have b2 : IntKind.min .u8 ≤ a2 ∧ a2 ≤ IntKind.max .u8 := by simpa [Lit.wf] using w2
  simp only [IntKind.min, IntKind.max, IntKind.signed, IntKind.bits] at b2
  have hc : (#[.string ⟨⟨l0⟩⟩, .int .u8 a1, .int .u8 a2] : Array Value) = (concL bt0 [.str l0, .int .u8 a1, .int .u8 a2]).toArray := by simp [concL, conc]
  rw [hc]
  refine ((s_BodyCuts l0 a1 a2 (by simp at b1; omega) (by simp at b2; omega)).calls W (env_of hS)).mono fun e W' ⟨he, bel⟩ => ?_
  subst he
  rw [← hc]
  exact ⟨_, rfl, law_post laidOut (by kernel_rfl) rfl rfl Tryd.underlying4 rfl rfl rfl rfl hW' bel⟩
noncomputable def world (os : Os) : World := laidWorld os
theorem reads (os : Os) {H : Type} (enc : TypeId × Value → H) : ∃ places, DataW.whole enc Tryd.prog ((world os).forCall (fun _ _ => 0) ⟨#[], (#[.string ⟨#[]⟩, .int .u8 0, .int .u8 0] : Array Value), []⟩).memory Tryd.f3.params.toList Rows.bodyCutsSpec.vars false (#[.string ⟨#[]⟩, .int .u8 0, .int .u8 0] : Array Value).toList 8 = some ([.lit (.string []), .lit (.int .u8 0), .lit (.int .u8 0)], [], places) :=
  ⟨[], by kernel_rfl⟩
set_option maxRecDepth 100000 in
theorem lifted (os : Os) (started : os.Started) (H : Type) (enc : TypeId × Value → H) (F : Stop.Interp) :
    ReturnsInHanded {} Tryd.checked os 3 .any ((OpenSpec.ofChange Rows.bodyCutsSpec).preRow enc Tryd.prog Tryd.f3 Rows.bodyCutsRow.domain false Rows.bodyCutsRow.laid) (((OpenSpec.ofChange Rows.bodyCutsSpec).at F).post enc Tryd.prog Tryd.f3 false true false false) := by
  obtain ⟨places, hx⟩ := reads os enc
  refine returnsInHanded_of_row (C := Tryd.checked) (s := OpenSpec.ofChange Rows.bodyCutsSpec) own started (by kernel_rfl) Tryd.func3
    (witness_row_at (enc := enc) (C := Tryd.checked) false (world os) (#[.string ⟨#[]⟩, .int .u8 0, .int .u8 0] : Array Value) rfl (by kernel_rfl) (by kernel_rfl) (by kernel_rfl)
      (OpenSpec.preRow_of_cond 8 hx (by kernel_rfl) (fun k hk => by cases hk) (by kernel_rfl) (laid_met os _))) ?_
  intro W base args ds gs before hval hW _ hcond _ _ hS _
  exact contract H enc W base args ds gs before hval hW hS
set_option maxRecDepth 100000 in
theorem facts : ((Rows.bodyCutsRow.inPlace == Tryd.pinned.checked.prog.inPlace 3) && (Rows.bodyCutsRow.unfollowed == Tryd.pinned.checked.prog.unfollowed 3) && (Rows.bodyCutsRow.recurses == Tryd.pinned.checked.prog.recurses 3) && (Rows.bodyCutsRow.named == Tryd.pinned.checked.prog.varsNamed 3)) = true := by kernel_rfl
set_option maxRecDepth 100000 in
set_option maxHeartbeats 20000000 in
theorem joined : joinedFacts Tryd.pinned.checked.prog 3 Tryd.f3 (OpenSpec.ofChange Rows.bodyCutsSpec).bare Rows.bodyCutsRow = true := by
  unfold joinedFacts
  simp only [Bool.and_eq_true]
  repeat' apply And.intro
  · as_aux_lemma => kernel_rfl
  · exact laidOut
  · exact pf_maps
  · as_aux_lemma => kernel_rfl
  · as_aux_lemma => kernel_rfl
  · as_aux_lemma => kernel_rfl
  · exact pf_stops
  · as_aux_lemma => kernel_rfl
  · exact pf_knobs
  · exact (and4 facts).1.1
  · exact (and4 facts).1.2
  · exact (and4 facts).2.1
  · exact (and4 facts).2.2
  · as_aux_lemma => kernel_rfl
  · as_aux_lemma => kernel_rfl
  · as_aux_lemma => kernel_rfl
  · as_aux_lemma => kernel_rfl
  · as_aux_lemma => kernel_rfl
  · as_aux_lemma => kernel_rfl
  · as_aux_lemma => kernel_rfl
  · as_aux_lemma => kernel_rfl
  · as_aux_lemma => kernel_rfl
  · exact pf_keys
  · as_aux_lemma => kernel_rfl
  · exact pf_heard
  · exact pf_may
  · exact pf_lifts
  · exact pf_make
  · as_aux_lemma => kernel_rfl
  · as_aux_lemma => kernel_rfl
  · as_aux_lemma => kernel_rfl
  · as_aux_lemma => kernel_rfl
theorem wrapper : Func.isWrapper Tryd.pinned.checked.prog Tryd.f3 (Rows.bodyCutsRow).wrapper (Rows.bodyCutsRow).mainSum := by
  unfold Func.isWrapper; first | (rw [if_pos (by decide +kernel)]; kernel_rfl) | (rw [if_neg (by decide +kernel)]; exact ⟨rfl, rfl⟩)
theorem said : Rows.BodyCutsSaid :=
  OpenClaim.holds_of_cond 3 Tryd.f3 rfl rfl rfl rfl rfl rfl rfl ⟨rfl, rfl, rfl, rfl, rfl⟩ rfl rfl rfl rfl rfl (by as_aux_lemma => kernel_rfl) Tryd.func3 joined
    (of_decide_eq_true (by as_aux_lemma => kernel_rfl)) wrapper
    (fun os started H enc _ F => by rw [OpenClaim.pre_eq_preRow]; exact lifted os started H enc F)
theorem plain (f : FuncId) (fn : Func) (hf : Tryd.pinned.checked.prog.funcNamed "webfinger/webfingerlaw19.BodyCuts" = some f) (hfn : Tryd.pinned.checked.prog.funcs[f]? = some fn) :
    false = Tryd.pinned.checked.prog.looks [] ∧ ∀ (j : Nat) t, fn.params[j]? = some t → Tryd.pinned.checked.prog.wantsStandIn t = false := by
  obtain rfl : f = 3 := Option.some.inj ((show Tryd.prog.funcNamed "webfinger/webfingerlaw19.BodyCuts" = some 3 by kernel_rfl).symm.trans hf) |>.symm
  obtain rfl : fn = Tryd.f3 := (Option.some.inj (Tryd.func3.symm.trans hfn)).symm
  refine ⟨pf_looks, fun j t ht => ?_⟩
  rw [Tryd.params3] at ht
  have hm := Array.mem_of_getElem? ht
  have hw : ∀ t ∈ ([9, 5, 5] : List TypeId), Tryd.prog.wantsStandIn t = false := by
    intro t ht
    simp only [List.mem_cons, List.not_mem_nil, or_false] at ht
    rcases ht with rfl | rfl | rfl
    · kernel_rfl
    · kernel_rfl
    · kernel_rfl
  exact hw t (by simpa using hm)
theorem proved : Rows.BodyCutsCardSaid :=
  Claim7.holds_tied_plain_at .later [] _ _ _ _ said (fun _ h => by cases h) (by as_aux_lemma => kernel_rfl) (fun _ h => by cases h) bodyCuts_row_tie rfl ⟨rfl, rfl⟩ (by as_aux_lemma => kernel_rfl) rfl plain (by as_aux_lemma => kernel_rfl)
#print axioms proved
end Go.Proofs.YtjponbpdlioocaaDoor.bodyCuts
