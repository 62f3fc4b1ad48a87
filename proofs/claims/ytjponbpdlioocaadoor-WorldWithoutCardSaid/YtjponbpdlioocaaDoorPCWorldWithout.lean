/- For every input: WorldWithout returns true. No conditions. -/
import Derived.Test.YtjponbpdlioocaaDoorU3
set_option linter.all false
namespace Go.Proofs.YtjponbpdlioocaaDoor.worldWithout
open Go Vc Go.RowKit Wf
open Go.ChangeShapes Go.WideShapes Go.ChangeAt
open Go.WideMaps Go.WideElems
open Go.ChangeMaps (setBlock shut_map_nil open_string shut_string keptBut_setBlock frozen?_setBlock heap_setBlock_same)
set_option maxRecDepth 100000 in
theorem contract (H : Type) (enc : TypeId × Value → H) (W : World) (base : Nat) (args : Array Value) (ds gs : List (DataW H)) (before : List MemPlace)
    (hval : ∀ (j : Nat) t v, Tryd.f5.params[j]? = some t → args[j]? = some v → Value.okWide Tryd.prog W .any base t v)
    (hW : DataW.Whole enc Tryd.prog Tryd.f5.params.toList Rows.worldWithoutSpec.vars false W args.toList ds gs before) (hwt : (DataW.weightsEach Tryd.prog (Tryd.f5.params.toList ++ (OpenSpec.ofChange Rows.worldWithoutSpec).bare.plain.varTypes Tryd.prog) (ds ++ gs)).all (· ≤ reachBytes) = true) (hS : W.ShapedOpen Tryd.prog) :
    Calls Tryd.prog 5 args W fun e W' => ∃ v, e = .returned v ∧ Rows.worldWithoutSpec.post enc Tryd.prog Tryd.f5 false true false false W args v W' := by
  have hW' := hW
  obtain ⟨p, q, hA0, hV, rfl, hfz, hnd⟩ := hW
  have hA : DataW.TrodAll enc Tryd.prog W 0 (fun _ => true) true Tryd.f5.params.toList args.toList ds p := hA0
  rw [Tryd.params5] at hA hval hwt
  obtain ⟨v0, vs0, d0, ds0, p0, q0, hargs, rfl, rfl, h0, r0⟩ := trodAll_cons hA
  obtain ⟨v1, vs1, d1, ds1, p1, q1, rfl, rfl, rfl, h1, r1⟩ := trodAll_cons r0
  obtain ⟨rfl, rfl, rfl⟩ := trodAll_nil r1
  obtain rfl : args = #[v0, v1] := by cases args; simp_all
  obtain ⟨rfl, rfl⟩ := trodVars_none hV
  obtain ⟨sa0, sl0, sc0, rfl⟩ := okWide_slice Tryd.underlying39 (hval 0 39 v0 rfl rfl)
  obtain ⟨fu0, hf0⟩ := h0
  simp only [Value.cells] at hf0
  obtain ⟨tb0, L0, e0, hl0, hd0, hH0, hB0, hq0⟩ := open_rows (ρ := Ans) Ans.none ac (fun r : Ans => .agg [.lit (.string r.host), .lit (.int .i64 r.port), .lit (.string r.target), .lit (.string r.raw), .lit (.int .i64 r.fail), .lit (.int .u64 r.since), .lit (.int .u64 r.till)]) (fun r : Ans => r.host.length ≤ maxLen ∧ (Lit.int .i64 r.port).wf = true ∧ r.target.length ≤ maxLen ∧ r.raw.length ≤ maxLen ∧ (Lit.int .i64 r.fail).wf = true ∧ (Lit.int .u64 r.since).wf = true ∧ (Lit.int .u64 r.till).wf = true) (fun r => by simp [flat, flat.flatL, ac]) Tryd.underlying39 (s := 7) (by kernel_rfl) (fun _ _ _ hx => by obtain ⟨a0, a1, a2, a3, a4, a5, a6, rfl, rfl, hw⟩ := trod_38 hx; exact ⟨⟨a0, a1, a2, a3, a4, a5, a6⟩, by simp [concL, conc, ac], rfl, hw⟩) (ok_cell Tryd.underlying39 (hval 0 39 _ rfl rfl)) hf0
  have ee0 : Value.slice sa0 sl0 sc0 = oV tb0 L0.length := e0
  obtain ⟨x1_0, x1_1, rfl, rfl, rfl, z1⟩ := open_43 (hval 1 43 v1 rfl rfl) h1
  simp only [List.append_nil] at hwt
  have bx1_0 : x1_0.length ≤ 140737488355328 := Nat.le_trans (of_decide_eq_true (List.all_eq_true.1 hwt _ (DataW.weights_mem_each (j := 1) (t := 43) rfl rfl _ (by simp [DataW.weights, DataW.weightsEach, Tryd.underlying3, Tryd.underlying43, Tryd.underlying9])))) (by decide)
  have hw0 : ∀ r ∈ L0, r.host.length ≤ 140737488355328 ∧ r.target.length ≤ 140737488355328 ∧ r.raw.length ≤ 140737488355328 := fun r hr => ⟨Nat.le_trans (of_decide_eq_true (List.all_eq_true.1 hwt _ (DataW.weights_mem_each (j := 0) (t := 39) rfl rfl _ (weights_rows Tryd.underlying39 hd0 hr (by simp [DataW.weights, DataW.weightsEach, Tryd.underlying34, Tryd.underlying38, Tryd.underlying3, Tryd.underlying9]))))) (by decide), Nat.le_trans (of_decide_eq_true (List.all_eq_true.1 hwt _ (DataW.weights_mem_each (j := 0) (t := 39) rfl rfl _ (weights_rows Tryd.underlying39 hd0 hr (by simp [DataW.weights, DataW.weightsEach, Tryd.underlying34, Tryd.underlying38, Tryd.underlying3, Tryd.underlying9]))))) (by decide), Nat.le_trans (of_decide_eq_true (List.all_eq_true.1 hwt _ (DataW.weights_mem_each (j := 0) (t := 39) rfl rfl _ (weights_rows Tryd.underlying39 hd0 hr (by simp [DataW.weights, DataW.weightsEach, Tryd.underlying34, Tryd.underlying38, Tryd.underlying3, Tryd.underlying9]))))) (by decide)⟩
  have hlaw := SC.law (l := ([(tb0, .own (L0.flatMap ac) 38 7 L0.length false)] : List (Bt × Res))) (s_WorldWithout L0 ⟨x1_0, x1_1⟩ hl0 hw0) (env_of hS) (by
    intro x hx
    simp only [List.mem_cons, List.not_mem_nil, or_false] at hx
    rcases hx with rfl
    · exact ⟨rfl, hH0, hB0⟩
    )
  have hc : (#[.slice sa0 sl0 sc0, .agg #[.string ⟨⟨x1_0⟩⟩, .int .i64 x1_1]] : Array Value) = (concL (fun i => ((([(tb0, .own (L0.flatMap ac) 38 7 L0.length false)] : List (Bt × Res))[i]?).map (·.1)).getD (bt0 0)) [.o 0 L0.length, .agg [.str x1_0, .int .i64 x1_1]]).toArray := by simp [concL, conc, ee0]
  rw [hc]
  refine hlaw.mono fun e W' ⟨he, bel⟩ => ?_
  subst he
  rw [← hc]
  exact ⟨_, rfl, law_post laidOut (by kernel_rfl) rfl rfl Tryd.underlying4 rfl rfl rfl rfl hW' bel⟩
noncomputable def world (os : Os) : World := laidWorld os
theorem reads (os : Os) {H : Type} (enc : TypeId × Value → H) : ∃ places, DataW.whole enc Tryd.prog ((world os).forCall (fun _ _ => 0) ⟨#[], (#[.slice none 0 0, .agg #[.string ⟨#[]⟩, .int .i64 0]] : Array Value), []⟩).memory Tryd.f5.params.toList Rows.worldWithoutSpec.vars false (#[.slice none 0 0, .agg #[.string ⟨#[]⟩, .int .i64 0]] : Array Value).toList 8 = some ([.nil, .agg [.lit (.string []), .lit (.int .i64 0)]], [], places) :=
  ⟨[], by kernel_rfl⟩
set_option maxRecDepth 100000 in
theorem lifted (os : Os) (started : os.Started) (H : Type) (enc : TypeId × Value → H) (F : Stop.Interp) :
    ReturnsInHanded {} Tryd.checked os 5 .any ((OpenSpec.ofChange Rows.worldWithoutSpec).preRow enc Tryd.prog Tryd.f5 Rows.worldWithoutRow.domain false Rows.worldWithoutRow.laid) (((OpenSpec.ofChange Rows.worldWithoutSpec).at F).post enc Tryd.prog Tryd.f5 false true false false) := by
  obtain ⟨places, hx⟩ := reads os enc
  refine returnsInHanded_of_row (C := Tryd.checked) (s := OpenSpec.ofChange Rows.worldWithoutSpec) own started (by kernel_rfl) Tryd.func5
    (witness_row_at (enc := enc) (C := Tryd.checked) false (world os) (#[.slice none 0 0, .agg #[.string ⟨#[]⟩, .int .i64 0]] : Array Value) rfl (by kernel_rfl) (by kernel_rfl) (by kernel_rfl)
      (OpenSpec.preRow_of_cond 8 hx (by kernel_rfl) (fun k hk => by cases hk) (by kernel_rfl) (laid_met os _))) ?_
  intro W base args ds gs before hval hW _ hcond hwt _ hS _
  exact contract H enc W base args ds gs before hval hW hwt hS
set_option maxRecDepth 100000 in
theorem facts : ((Rows.worldWithoutRow.inPlace == Tryd.pinned.checked.prog.inPlace 5) && (Rows.worldWithoutRow.unfollowed == Tryd.pinned.checked.prog.unfollowed 5) && (Rows.worldWithoutRow.recurses == Tryd.pinned.checked.prog.recurses 5) && (Rows.worldWithoutRow.named == Tryd.pinned.checked.prog.varsNamed 5)) = true := by kernel_rfl
set_option maxRecDepth 100000 in
set_option maxHeartbeats 20000000 in
theorem joined : joinedFacts Tryd.pinned.checked.prog 5 Tryd.f5 (OpenSpec.ofChange Rows.worldWithoutSpec).bare Rows.worldWithoutRow = true := by
  unfold joinedFacts
  simp only [Bool.and_eq_true]
  repeat' apply And.intro
  · as_aux_lemma => kernel_rfl
  · exact laidOut
  · exact pf_maps
  · as_aux_lemma => kernel_rfl
  · as_aux_lemma => kernel_rfl
  · as_aux_lemma => kernel_rfl
  · exact pf_stops
  · as_aux_lemma => kernel_rfl
  · exact pf_knobs
  · exact (and4 facts).1.1
  · exact (and4 facts).1.2
  · exact (and4 facts).2.1
  · exact (and4 facts).2.2
  · as_aux_lemma => kernel_rfl
  · as_aux_lemma => kernel_rfl
  · as_aux_lemma => kernel_rfl
  · as_aux_lemma => kernel_rfl
  · as_aux_lemma => kernel_rfl
  · as_aux_lemma => kernel_rfl
  · as_aux_lemma => kernel_rfl
  · as_aux_lemma => kernel_rfl
  · as_aux_lemma => kernel_rfl
  · exact pf_keys
  · as_aux_lemma => kernel_rfl
  · exact pf_heard
  · exact pf_may
  · exact pf_lifts
  · exact pf_make
  · as_aux_lemma => kernel_rfl
  · as_aux_lemma => kernel_rfl
  · as_aux_lemma => kernel_rfl
  · as_aux_lemma => kernel_rfl
theorem wrapper : Func.isWrapper Tryd.pinned.checked.prog Tryd.f5 (Rows.worldWithoutRow).wrapper (Rows.worldWithoutRow).mainSum := by
  unfold Func.isWrapper; first | (rw [if_pos (by decide +kernel)]; kernel_rfl) | (rw [if_neg (by decide +kernel)]; exact ⟨rfl, rfl⟩)
theorem said : Rows.WorldWithoutSaid :=
  OpenClaim.holds_of_cond 5 Tryd.f5 rfl rfl rfl rfl rfl rfl rfl ⟨rfl, rfl, rfl, rfl, rfl⟩ rfl rfl rfl rfl rfl (by as_aux_lemma => kernel_rfl) Tryd.func5 joined
    (of_decide_eq_true (by as_aux_lemma => kernel_rfl)) wrapper
    (fun os started H enc _ F => by rw [OpenClaim.pre_eq_preRow]; exact lifted os started H enc F)
theorem plain (f : FuncId) (fn : Func) (hf : Tryd.pinned.checked.prog.funcNamed "webfinger/webfingerlaw24.WorldWithout" = some f) (hfn : Tryd.pinned.checked.prog.funcs[f]? = some fn) :
    false = Tryd.pinned.checked.prog.looks [] ∧ ∀ (j : Nat) t, fn.params[j]? = some t → Tryd.pinned.checked.prog.wantsStandIn t = false := by
  obtain rfl : f = 5 := Option.some.inj ((show Tryd.prog.funcNamed "webfinger/webfingerlaw24.WorldWithout" = some 5 by kernel_rfl).symm.trans hf) |>.symm
  obtain rfl : fn = Tryd.f5 := (Option.some.inj (Tryd.func5.symm.trans hfn)).symm
  refine ⟨pf_looks, fun j t ht => ?_⟩
  rw [Tryd.params5] at ht
  have hm := Array.mem_of_getElem? ht
  have hw : ∀ t ∈ ([39, 43] : List TypeId), Tryd.prog.wantsStandIn t = false := by
    intro t ht
    simp only [List.mem_cons, List.not_mem_nil, or_false] at ht
    rcases ht with rfl | rfl
    · kernel_rfl
    · kernel_rfl
  exact hw t (by simpa using hm)
theorem proved : Rows.WorldWithoutCardSaid :=
  Claim7.holds_tied_plain_at .later [] _ _ _ _ said (fun _ h => by cases h) (by as_aux_lemma => kernel_rfl) (fun _ h => by cases h) worldWithout_row_tie rfl ⟨rfl, rfl⟩ (by as_aux_lemma => kernel_rfl) rfl plain (by as_aux_lemma => kernel_rfl)
#print axioms proved
end Go.Proofs.YtjponbpdlioocaaDoor.worldWithout
