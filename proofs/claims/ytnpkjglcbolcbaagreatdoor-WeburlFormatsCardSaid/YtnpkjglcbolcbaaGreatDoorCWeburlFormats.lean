/- For every input: WeburlFormats returns true. No conditions. -/
import Derived.Test.YtnpkjglcbolcbaaGreatDoorLaid
import Derived.Test.YtnpkjglcbolcbaaGreatDoorProgF
import Derived.Test.YtnpkjglcbolcbaaGreatDoorOpen
import Derived.Test.YtnpkjglcbolcbaaGreatDoorLaw07
set_option linter.all false
namespace Go.Proofs.YtnpkjglcbolcbaaGreatDoor.weburlFormats
open Go Vc Go.RowKit Wf
open Go.ChangeShapes Go.WideShapes Go.ChangeAt
open Go.WideMaps Go.WideElems
open Go.ChangeMaps (setBlock shut_map_nil open_string shut_string keptBut_setBlock frozen?_setBlock heap_setBlock_same)
set_option maxRecDepth 100000 in
theorem contract (H : Type) (enc : TypeId × Value → H) (W : World) (base : Nat) (args : Array Value) (ds gs : List (DataW H)) (before : List MemPlace)
    (hval : ∀ (j : Nat) t v, Tryz.f4.params[j]? = some t → args[j]? = some v → Value.okWide Tryz.prog W .any base t v)
    (hW : DataW.Whole enc Tryz.prog Tryz.f4.params.toList Rows.weburlFormatsSpec.vars false W args.toList ds gs before) (hwt : (DataW.weightsEach Tryz.prog (Tryz.f4.params.toList ++ (OpenSpec.ofChange Rows.weburlFormatsSpec).bare.plain.varTypes Tryz.prog) (ds ++ gs)).all (· ≤ reachBytes) = true) (hS : W.ShapedOpen Tryz.prog) :
    Calls Tryz.prog 4 args W fun e W' => ∃ v, e = .returned v ∧ Rows.weburlFormatsSpec.post enc Tryz.prog Tryz.f4 false true false false W args v W' := by
  have hW' := hW
  obtain ⟨p, q, hA0, hV, rfl, hfz, hnd⟩ := hW
  have hA : DataW.TrodAll enc Tryz.prog W 0 (fun _ => true) true Tryz.f4.params.toList args.toList ds p := hA0
  rw [Tryz.params4] at hA hval hwt
  obtain ⟨v0, vs0, d0, ds0, p0, q0, hargs, rfl, rfl, h0, r0⟩ := trodAll_cons hA
  obtain ⟨rfl, rfl, rfl⟩ := trodAll_nil r0
  obtain rfl : args = #[v0] := by cases args; simp_all
  obtain ⟨rfl, rfl⟩ := trodVars_none hV
  obtain ⟨x0_0, x0_1, x0_2, x0_3, x0_4, x0_5, x0_6, rfl, rfl, rfl, z0⟩ := open_24 (hval 0 24 v0 rfl rfl) h0
  simp only [List.append_nil] at hwt
  have bx0_0 : x0_0.length ≤ 140737488355328 := Nat.le_trans (of_decide_eq_true (List.all_eq_true.1 hwt _ (DataW.weights_mem_each (j := 0) (t := 24) rfl rfl _ (by simp [DataW.weights, DataW.weightsEach, Tryz.underlying24, Tryz.underlying3, Tryz.underlying4, Tryz.underlying9])))) (by decide)
  have bx0_2 : x0_2.length ≤ 140737488355328 := Nat.le_trans (of_decide_eq_true (List.all_eq_true.1 hwt _ (DataW.weights_mem_each (j := 0) (t := 24) rfl rfl _ (by simp [DataW.weights, DataW.weightsEach, Tryz.underlying24, Tryz.underlying3, Tryz.underlying4, Tryz.underlying9])))) (by decide)
  have bx0_3 : x0_3.length ≤ 140737488355328 := Nat.le_trans (of_decide_eq_true (List.all_eq_true.1 hwt _ (DataW.weights_mem_each (j := 0) (t := 24) rfl rfl _ (by simp [DataW.weights, DataW.weightsEach, Tryz.underlying24, Tryz.underlying3, Tryz.underlying4, Tryz.underlying9])))) (by decide)
  have bx0_4 : x0_4.length ≤ 140737488355328 := Nat.le_trans (of_decide_eq_true (List.all_eq_true.1 hwt _ (DataW.weights_mem_each (j := 0) (t := 24) rfl rfl _ (by simp [DataW.weights, DataW.weightsEach, Tryz.underlying24, Tryz.underlying3, Tryz.underlying4, Tryz.underlying9])))) (by decide)
  have hc : (#[.agg #[.string ⟨⟨x0_0⟩⟩, .int .i64 x0_1, .string ⟨⟨x0_2⟩⟩, .string ⟨⟨x0_3⟩⟩, .string ⟨⟨x0_4⟩⟩, .bool x0_5, .bool x0_6]] : Array Value) = (concL bt0 [.agg [.str x0_0, .int .i64 x0_1, .str x0_2, .str x0_3, .str x0_4, .bool x0_5, .bool x0_6]]).toArray := by simp [concL, conc]
  rw [hc]
  refine ((p_law07_WeburlFormats ⟨x0_0, x0_1, x0_2, x0_3, x0_4, x0_5, x0_6⟩ (by have hp : -9223372036854775808 ≤ x0_1 ∧ x0_1 ≤ 9223372036854775807 := (by simpa [Lit.wf, IntKind.min, IntKind.max, IntKind.signed, IntKind.bits] using z0.2.1); exact ⟨bx0_0, bx0_2, bx0_3, bx0_4, hp.1, hp.2⟩)).calls W (env_of hS)).mono fun e W' ⟨he, bel⟩ => ?_
  subst he
  rw [← hc]
  exact ⟨_, rfl, law_post laidOut (by kernel_rfl) rfl rfl Tryz.underlying4 rfl rfl rfl rfl hW' bel⟩
noncomputable def world (os : Os) : World := laidWorld os
theorem reads (os : Os) {H : Type} (enc : TypeId × Value → H) : ∃ places, DataW.whole enc Tryz.prog ((world os).forCall (fun _ _ => 0) ⟨#[], (#[.agg #[.string ⟨#[]⟩, .int .i64 0, .string ⟨#[]⟩, .string ⟨#[]⟩, .string ⟨#[]⟩, .bool false, .bool false]] : Array Value), []⟩).memory Tryz.f4.params.toList Rows.weburlFormatsSpec.vars false (#[.agg #[.string ⟨#[]⟩, .int .i64 0, .string ⟨#[]⟩, .string ⟨#[]⟩, .string ⟨#[]⟩, .bool false, .bool false]] : Array Value).toList 8 = some ([.agg [.lit (.string []), .lit (.int .i64 0), .lit (.string []), .lit (.string []), .lit (.string []), .lit (.bool false), .lit (.bool false)]], [], places) :=
  ⟨[], by kernel_rfl⟩
set_option maxRecDepth 100000 in
theorem lifted (os : Os) (started : os.Started) (H : Type) (enc : TypeId × Value → H) (F : Stop.Interp) :
    ReturnsInHanded {} Tryz.checked os 4 .any ((OpenSpec.ofChange Rows.weburlFormatsSpec).preRow enc Tryz.prog Tryz.f4 Rows.weburlFormatsRow.domain false Rows.weburlFormatsRow.laid) (((OpenSpec.ofChange Rows.weburlFormatsSpec).at F).post enc Tryz.prog Tryz.f4 false true false false) := by
  obtain ⟨places, hx⟩ := reads os enc
  refine returnsInHanded_of_row (C := Tryz.checked) (s := OpenSpec.ofChange Rows.weburlFormatsSpec) own started (by kernel_rfl) Tryz.func4
    (witness_row_at (enc := enc) (C := Tryz.checked) false (world os) (#[.agg #[.string ⟨#[]⟩, .int .i64 0, .string ⟨#[]⟩, .string ⟨#[]⟩, .string ⟨#[]⟩, .bool false, .bool false]] : Array Value) rfl (by kernel_rfl) (by kernel_rfl) (by kernel_rfl)
      (OpenSpec.preRow_of_cond 8 hx (by kernel_rfl) (fun k hk => by cases hk) (by kernel_rfl) (laid_met os _))) ?_
  intro W base args ds gs before hval hW _ hcond hwt _ hS _
  exact contract H enc W base args ds gs before hval hW hwt hS
set_option maxRecDepth 100000 in
theorem facts : ((Rows.weburlFormatsRow.inPlace == Tryz.pinned.checked.prog.inPlace 4) && (Rows.weburlFormatsRow.unfollowed == Tryz.pinned.checked.prog.unfollowed 4) && (Rows.weburlFormatsRow.recurses == Tryz.pinned.checked.prog.recurses 4) && (Rows.weburlFormatsRow.named == Tryz.pinned.checked.prog.varsNamed 4)) = true := by kernel_rfl
set_option maxRecDepth 100000 in
set_option maxHeartbeats 20000000 in
theorem joined : joinedFacts Tryz.pinned.checked.prog 4 Tryz.f4 (OpenSpec.ofChange Rows.weburlFormatsSpec).bare Rows.weburlFormatsRow = true := by
  unfold joinedFacts
  simp only [Bool.and_eq_true]
  repeat' apply And.intro
  · as_aux_lemma => kernel_rfl
  · exact laidOut
  · exact pf_maps
  · as_aux_lemma => kernel_rfl
  · as_aux_lemma => kernel_rfl
  · as_aux_lemma => kernel_rfl
  · exact pf_stops
  · as_aux_lemma => kernel_rfl
  · exact pf_knobs
  · exact (and4 facts).1.1
  · exact (and4 facts).1.2
  · exact (and4 facts).2.1
  · exact (and4 facts).2.2
  · as_aux_lemma => kernel_rfl
  · as_aux_lemma => kernel_rfl
  · as_aux_lemma => kernel_rfl
  · as_aux_lemma => kernel_rfl
  · as_aux_lemma => kernel_rfl
  · as_aux_lemma => kernel_rfl
  · as_aux_lemma => kernel_rfl
  · as_aux_lemma => kernel_rfl
  · as_aux_lemma => kernel_rfl
  · exact pf_keys
  · as_aux_lemma => kernel_rfl
  · exact pf_heard
  · exact pf_may
  · exact pf_lifts
  · exact pf_make
  · as_aux_lemma => kernel_rfl
  · as_aux_lemma => kernel_rfl
  · as_aux_lemma => kernel_rfl
  · as_aux_lemma => kernel_rfl
theorem wrapper : Func.isWrapper Tryz.pinned.checked.prog Tryz.f4 (Rows.weburlFormatsRow).wrapper (Rows.weburlFormatsRow).mainSum := by
  unfold Func.isWrapper; first | (rw [if_pos (by decide +kernel)]; kernel_rfl) | (rw [if_neg (by decide +kernel)]; exact ⟨rfl, rfl⟩)
theorem said : Rows.WeburlFormatsSaid :=
  OpenClaim.holds_of_cond 4 Tryz.f4 rfl rfl rfl rfl rfl rfl rfl ⟨rfl, rfl, rfl, rfl, rfl⟩ rfl rfl rfl rfl rfl (by as_aux_lemma => kernel_rfl) Tryz.func4 joined
    (of_decide_eq_true (by as_aux_lemma => kernel_rfl)) wrapper
    (fun os started H enc _ F => by rw [OpenClaim.pre_eq_preRow]; exact lifted os started H enc F)
theorem plain (f : FuncId) (fn : Func) (hf : Tryz.pinned.checked.prog.funcNamed "webfinger/webfingerlaw07.WeburlFormats" = some f) (hfn : Tryz.pinned.checked.prog.funcs[f]? = some fn) :
    false = Tryz.pinned.checked.prog.looks [] ∧ ∀ (j : Nat) t, fn.params[j]? = some t → Tryz.pinned.checked.prog.wantsStandIn t = false := by
  obtain rfl : f = 4 := Option.some.inj ((show Tryz.prog.funcNamed "webfinger/webfingerlaw07.WeburlFormats" = some 4 by kernel_rfl).symm.trans hf) |>.symm
  obtain rfl : fn = Tryz.f4 := (Option.some.inj (Tryz.func4.symm.trans hfn)).symm
  refine ⟨pf_looks, fun j t ht => ?_⟩
  rw [Tryz.params4] at ht
  have hm := Array.mem_of_getElem? ht
  have hw : ∀ t ∈ ([24] : List TypeId), Tryz.prog.wantsStandIn t = false := by
    intro t ht
    simp only [List.mem_cons, List.not_mem_nil, or_false] at ht
    rcases ht with rfl
    · kernel_rfl
  exact hw t (by simpa using hm)
theorem proved : Rows.WeburlFormatsCardSaid :=
  Claim7.holds_tied_plain_at .later [] _ _ _ _ said (fun _ h => by cases h) (by as_aux_lemma => kernel_rfl) (fun _ h => by cases h) weburlFormats_row_tie rfl ⟨rfl, rfl⟩ (by as_aux_lemma => kernel_rfl) rfl plain (by as_aux_lemma => kernel_rfl)
#print axioms proved
end Go.Proofs.YtnpkjglcbolcbaaGreatDoor.weburlFormats
