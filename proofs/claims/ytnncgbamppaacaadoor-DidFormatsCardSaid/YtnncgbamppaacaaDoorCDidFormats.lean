/- For every input: DidFormats returns true. No conditions. -/
import Derived.Test.YtnncgbamppaacaaDoorLaid
import Derived.Test.YtnncgbamppaacaaDoorProgF
import Derived.Test.YtnncgbamppaacaaDoorOpen
import Derived.Test.YtnncgbamppaacaaDoorLaw10
set_option linter.all false
namespace Go.Proofs.YtnncgbamppaacaaDoor.didFormats
open Go Vc Go.RowKit Wf
open Go.ChangeShapes Go.WideShapes Go.ChangeAt
open Go.WideMaps Go.WideElems
open Go.ChangeMaps (setBlock shut_map_nil open_string shut_string keptBut_setBlock frozen?_setBlock heap_setBlock_same)
set_option maxRecDepth 100000 in
theorem contract (H : Type) (enc : TypeId × Value → H) (W : World) (base : Nat) (args : Array Value) (ds gs : List (DataW H)) (before : List MemPlace)
    (hval : ∀ (j : Nat) t v, Tryd.f4.params[j]? = some t → args[j]? = some v → Value.okWide Tryd.prog W .any base t v)
    (hW : DataW.Whole enc Tryd.prog Tryd.f4.params.toList Rows.didFormatsSpec.vars false W args.toList ds gs before) (hwt : (DataW.weightsEach Tryd.prog (Tryd.f4.params.toList ++ (OpenSpec.ofChange Rows.didFormatsSpec).bare.plain.varTypes Tryd.prog) (ds ++ gs)).all (· ≤ reachBytes) = true) (hS : W.ShapedOpen Tryd.prog) :
    Calls Tryd.prog 4 args W fun e W' => ∃ v, e = .returned v ∧ Rows.didFormatsSpec.post enc Tryd.prog Tryd.f4 false true false false W args v W' := by
  have hW' := hW
  obtain ⟨p, q, hA0, hV, rfl, hfz, hnd⟩ := hW
  have hA : DataW.TrodAll enc Tryd.prog W 0 (fun _ => true) true Tryd.f4.params.toList args.toList ds p := hA0
  rw [Tryd.params4] at hA hval hwt
  obtain ⟨v0, vs0, d0, ds0, p0, q0, hargs, rfl, rfl, h0, r0⟩ := trodAll_cons hA
  obtain ⟨rfl, rfl, rfl⟩ := trodAll_nil r0
  obtain rfl : args = #[v0] := by cases args; simp_all
  obtain ⟨rfl, rfl⟩ := trodVars_none hV
  obtain ⟨x0_0, x0_1, x0_2, x0_3, x0_4, x0_5, x0_6, rfl, rfl, rfl, z0⟩ := open_29 (hval 0 29 v0 rfl rfl) h0
  simp only [List.append_nil] at hwt
  have bx0_0 : x0_0.length ≤ 140737488355328 := Nat.le_trans (of_decide_eq_true (List.all_eq_true.1 hwt _ (DataW.weights_mem_each (j := 0) (t := 29) rfl rfl _ (by simp [DataW.weights, DataW.weightsEach, Tryd.underlying24, Tryd.underlying29, Tryd.underlying4, Tryd.underlying9])))) (by decide)
  have bx0_1 : x0_1.length ≤ 140737488355328 := Nat.le_trans (of_decide_eq_true (List.all_eq_true.1 hwt _ (DataW.weights_mem_each (j := 0) (t := 29) rfl rfl _ (by simp [DataW.weights, DataW.weightsEach, Tryd.underlying24, Tryd.underlying29, Tryd.underlying4, Tryd.underlying9])))) (by decide)
  have bx0_2 : x0_2.length ≤ 140737488355328 := Nat.le_trans (of_decide_eq_true (List.all_eq_true.1 hwt _ (DataW.weights_mem_each (j := 0) (t := 29) rfl rfl _ (by simp [DataW.weights, DataW.weightsEach, Tryd.underlying24, Tryd.underlying29, Tryd.underlying4, Tryd.underlying9])))) (by decide)
  have bx0_3 : x0_3.length ≤ 140737488355328 := Nat.le_trans (of_decide_eq_true (List.all_eq_true.1 hwt _ (DataW.weights_mem_each (j := 0) (t := 29) rfl rfl _ (by simp [DataW.weights, DataW.weightsEach, Tryd.underlying24, Tryd.underlying29, Tryd.underlying4, Tryd.underlying9])))) (by decide)
  have bx0_4 : x0_4.length ≤ 140737488355328 := Nat.le_trans (of_decide_eq_true (List.all_eq_true.1 hwt _ (DataW.weights_mem_each (j := 0) (t := 29) rfl rfl _ (by simp [DataW.weights, DataW.weightsEach, Tryd.underlying24, Tryd.underlying29, Tryd.underlying4, Tryd.underlying9])))) (by decide)
  have hc : (#[.agg #[.string ⟨⟨x0_0⟩⟩, .string ⟨⟨x0_1⟩⟩, .string ⟨⟨x0_2⟩⟩, .string ⟨⟨x0_3⟩⟩, .string ⟨⟨x0_4⟩⟩, .bool x0_5, .bool x0_6]] : Array Value) = (concL bt0 [.agg [.str x0_0, .str x0_1, .str x0_2, .str x0_3, .str x0_4, .bool x0_5, .bool x0_6]]).toArray := by simp [concL, conc]
  rw [hc]
  refine ((p_law10_DidFormats ⟨⟨x0_0, x0_1⟩, x0_2, x0_3, x0_4, x0_5, x0_6⟩ ⟨⟨bx0_0, bx0_1⟩, bx0_2, bx0_3, bx0_4⟩).calls W (env_of hS)).mono fun e W' ⟨he, bel⟩ => ?_
  subst he
  rw [← hc]
  exact ⟨_, rfl, law_post laidOut (by kernel_rfl) rfl rfl Tryd.underlying4 rfl rfl rfl rfl hW' bel⟩
noncomputable def world (os : Os) : World := laidWorld os
theorem reads (os : Os) {H : Type} (enc : TypeId × Value → H) : ∃ places, DataW.whole enc Tryd.prog ((world os).forCall (fun _ _ => 0) ⟨#[], (#[.agg #[.string ⟨#[]⟩, .string ⟨#[]⟩, .string ⟨#[]⟩, .string ⟨#[]⟩, .string ⟨#[]⟩, .bool false, .bool false]] : Array Value), []⟩).memory Tryd.f4.params.toList Rows.didFormatsSpec.vars false (#[.agg #[.string ⟨#[]⟩, .string ⟨#[]⟩, .string ⟨#[]⟩, .string ⟨#[]⟩, .string ⟨#[]⟩, .bool false, .bool false]] : Array Value).toList 8 = some ([.agg [.agg [.lit (.string []), .lit (.string [])], .lit (.string []), .lit (.string []), .lit (.string []), .lit (.bool false), .lit (.bool false)]], [], places) :=
  ⟨[], by kernel_rfl⟩
set_option maxRecDepth 100000 in
theorem lifted (os : Os) (started : os.Started) (H : Type) (enc : TypeId × Value → H) (F : Stop.Interp) :
    ReturnsInHanded {} Tryd.checked os 4 .any ((OpenSpec.ofChange Rows.didFormatsSpec).preRow enc Tryd.prog Tryd.f4 Rows.didFormatsRow.domain false Rows.didFormatsRow.laid) (((OpenSpec.ofChange Rows.didFormatsSpec).at F).post enc Tryd.prog Tryd.f4 false true false false) := by
  obtain ⟨places, hx⟩ := reads os enc
  refine returnsInHanded_of_row (C := Tryd.checked) (s := OpenSpec.ofChange Rows.didFormatsSpec) own started (by kernel_rfl) Tryd.func4
    (witness_row_at (enc := enc) (C := Tryd.checked) false (world os) (#[.agg #[.string ⟨#[]⟩, .string ⟨#[]⟩, .string ⟨#[]⟩, .string ⟨#[]⟩, .string ⟨#[]⟩, .bool false, .bool false]] : Array Value) rfl (by kernel_rfl) (by kernel_rfl) (by kernel_rfl)
      (OpenSpec.preRow_of_cond 8 hx (by kernel_rfl) (fun k hk => by cases hk) (by kernel_rfl) (laid_met os _))) ?_
  intro W base args ds gs before hval hW _ hcond hwt _ hS _
  exact contract H enc W base args ds gs before hval hW hwt hS
set_option maxRecDepth 100000 in
theorem facts : ((Rows.didFormatsRow.inPlace == Tryd.pinned.checked.prog.inPlace 4) && (Rows.didFormatsRow.unfollowed == Tryd.pinned.checked.prog.unfollowed 4) && (Rows.didFormatsRow.recurses == Tryd.pinned.checked.prog.recurses 4) && (Rows.didFormatsRow.named == Tryd.pinned.checked.prog.varsNamed 4)) = true := by kernel_rfl
set_option maxRecDepth 100000 in
set_option maxHeartbeats 20000000 in
theorem joined : joinedFacts Tryd.pinned.checked.prog 4 Tryd.f4 (OpenSpec.ofChange Rows.didFormatsSpec).bare Rows.didFormatsRow = true := by
  unfold joinedFacts
  simp only [Bool.and_eq_true]
  repeat' apply And.intro
  · as_aux_lemma => kernel_rfl
  · exact laidOut
  · exact pf_maps
  · as_aux_lemma => kernel_rfl
  · as_aux_lemma => kernel_rfl
  · as_aux_lemma => kernel_rfl
  · exact pf_stops
  · as_aux_lemma => kernel_rfl
  · exact pf_knobs
  · exact (and4 facts).1.1
  · exact (and4 facts).1.2
  · exact (and4 facts).2.1
  · exact (and4 facts).2.2
  · as_aux_lemma => kernel_rfl
  · as_aux_lemma => kernel_rfl
  · as_aux_lemma => kernel_rfl
  · as_aux_lemma => kernel_rfl
  · as_aux_lemma => kernel_rfl
  · as_aux_lemma => kernel_rfl
  · as_aux_lemma => kernel_rfl
  · as_aux_lemma => kernel_rfl
  · as_aux_lemma => kernel_rfl
  · exact pf_keys
  · as_aux_lemma => kernel_rfl
  · exact pf_heard
  · exact pf_may
  · exact pf_lifts
  · exact pf_make
  · as_aux_lemma => kernel_rfl
  · as_aux_lemma => kernel_rfl
  · as_aux_lemma => kernel_rfl
  · as_aux_lemma => kernel_rfl
theorem wrapper : Func.isWrapper Tryd.pinned.checked.prog Tryd.f4 (Rows.didFormatsRow).wrapper (Rows.didFormatsRow).mainSum := by
  unfold Func.isWrapper; first | (rw [if_pos (by decide +kernel)]; kernel_rfl) | (rw [if_neg (by decide +kernel)]; exact ⟨rfl, rfl⟩)
theorem said : Rows.DidFormatsSaid :=
  OpenClaim.holds_of_cond 4 Tryd.f4 rfl rfl rfl rfl rfl rfl rfl ⟨rfl, rfl, rfl, rfl, rfl⟩ rfl rfl rfl rfl rfl (by as_aux_lemma => kernel_rfl) Tryd.func4 joined
    (of_decide_eq_true (by as_aux_lemma => kernel_rfl)) wrapper
    (fun os started H enc _ F => by rw [OpenClaim.pre_eq_preRow]; exact lifted os started H enc F)
theorem plain (f : FuncId) (fn : Func) (hf : Tryd.pinned.checked.prog.funcNamed "webfinger/webfingerlaw10.DidFormats" = some f) (hfn : Tryd.pinned.checked.prog.funcs[f]? = some fn) :
    false = Tryd.pinned.checked.prog.looks [] ∧ ∀ (j : Nat) t, fn.params[j]? = some t → Tryd.pinned.checked.prog.wantsStandIn t = false := by
  obtain rfl : f = 4 := Option.some.inj ((show Tryd.prog.funcNamed "webfinger/webfingerlaw10.DidFormats" = some 4 by kernel_rfl).symm.trans hf) |>.symm
  obtain rfl : fn = Tryd.f4 := (Option.some.inj (Tryd.func4.symm.trans hfn)).symm
  refine ⟨pf_looks, fun j t ht => ?_⟩
  rw [Tryd.params4] at ht
  have hm := Array.mem_of_getElem? ht
  have hw : ∀ t ∈ ([29] : List TypeId), Tryd.prog.wantsStandIn t = false := by
    intro t ht
    simp only [List.mem_cons, List.not_mem_nil, or_false] at ht
    rcases ht with rfl
    · kernel_rfl
  exact hw t (by simpa using hm)
theorem proved : Rows.DidFormatsCardSaid :=
  Claim7.holds_tied_plain_at .later [] _ _ _ _ said (fun _ h => by cases h) (by as_aux_lemma => kernel_rfl) (fun _ h => by cases h) didFormats_row_tie rfl ⟨rfl, rfl⟩ (by as_aux_lemma => kernel_rfl) rfl plain (by as_aux_lemma => kernel_rfl)
#print axioms proved
end Go.Proofs.YtnncgbamppaacaaDoor.didFormats
