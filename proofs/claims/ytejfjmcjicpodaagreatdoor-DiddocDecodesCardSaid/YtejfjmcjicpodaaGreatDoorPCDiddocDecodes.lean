/- For every input: DiddocDecodes returns true. No conditions. -/
import Derived.Test.YtejfjmcjicpodaaGreatDoorD7
set_option linter.all false
namespace Go.Proofs.YtejfjmcjicpodaaGreatDoor.diddocDecodes
open Go Vc Go.RowKit Wf
open Go.ChangeShapes Go.WideShapes Go.ChangeAt
open Go.WideMaps Go.WideElems
open Go.ChangeMaps (setBlock shut_map_nil open_string shut_string keptBut_setBlock frozen?_setBlock heap_setBlock_same)
set_option maxRecDepth 100000 in
theorem contract (H : Type) (enc : TypeId × Value → H) (W : World) (base : Nat) (args : Array Value) (ds gs : List (DataW H)) (before : List MemPlace)
    (hval : ∀ (j : Nat) t v, Tryz.f3.params[j]? = some t → args[j]? = some v → Value.okWide Tryz.prog W .any base t v)
    (hW : DataW.Whole enc Tryz.prog Tryz.f3.params.toList Rows.diddocDecodesSpec.vars false W args.toList ds gs before) (hwt : (DataW.weightsEach Tryz.prog (Tryz.f3.params.toList ++ (OpenSpec.ofChange Rows.diddocDecodesSpec).bare.plain.varTypes Tryz.prog) (ds ++ gs)).all (· ≤ reachBytes) = true) (hS : W.ShapedOpen Tryz.prog) :
    Calls Tryz.prog 3 args W fun e W' => ∃ v, e = .returned v ∧ Rows.diddocDecodesSpec.post enc Tryz.prog Tryz.f3 false true false false W args v W' := by
  have hW' := hW
  obtain ⟨p, q, hA0, hV, rfl, hfz, hnd⟩ := hW
  have hA : DataW.TrodAll enc Tryz.prog W 0 (fun _ => true) true Tryz.f3.params.toList args.toList ds p := hA0
  rw [Tryz.params3] at hA hval hwt
  obtain ⟨v0, vs0, d0, ds0, p0, q0, hargs, rfl, rfl, h0, r0⟩ := trodAll_cons hA
  obtain ⟨v1, vs1, d1, ds1, p1, q1, rfl, rfl, rfl, h1, r1⟩ := trodAll_cons r0
  obtain ⟨rfl, rfl, rfl⟩ := trodAll_nil r1
  obtain rfl : args = #[v0, v1] := by cases args; simp_all
  obtain ⟨rfl, rfl⟩ := trodVars_none hV
  have ok0 := hval 0 25 v0 rfl rfl
  obtain ⟨cs0, rfl, -⟩ := okWide_struct Tryz.underlying25 ok0
  obtain ⟨fu0, hf0⟩ := h0
  obtain ⟨cs0⟩ := cs0
  simp only [Value.cells] at hf0
  have hw0 : WOk 25 d0 := fun k hk => of_decide_eq_true (List.all_eq_true.1 hwt _ (DataW.weights_mem_each (j := 0) (t := 25) rfl rfl _ (by simpa using hk)))
  obtain ⟨ls0, jr0, hO0, hc0, hj0, hB0⟩ := open_value fu0 (OpenL.nil W) cs0 _ hf0 hw0
  rw [List.nil_append] at hO0 hc0 hj0
  obtain ⟨s1, rfl, rfl, rfl, w1⟩ := open_string Tryz.underlying9 (hval 1 9 v1 rfl rfl) h1
  obtain ⟨⟨l1⟩⟩ := s1
  simp only [List.append_nil] at hwt
  have bl1 : l1.length ≤ 140737488355328 := Nat.le_trans (of_decide_eq_true (List.all_eq_true.1 hwt _ (DataW.weights_mem_each (j := 1) (t := 9) rfl rfl _ (by simp [DataW.weights, DataW.weightsEach, Tryz.underlying9])))) (by decide)
  have hlaw := SC.lawN (l := ls0) (sc_law17_DiddocDecodes hj0 hB0 l1) (env_of hS) hO0
  have hc : (#[.agg ⟨cs0⟩, .string ⟨⟨l1⟩⟩] : Array Value) = (concL (betaL ls0) [.agg (tv jr0.2), .str l1]).toArray := by rw [hc0 (betaL ls0) (betaL_ext ls0)]; simp [concL, conc, concL_map]
  rw [hc]
  refine hlaw.mono fun e W' ⟨he, bel⟩ => ?_
  subst he
  rw [← hc]
  exact ⟨_, rfl, law_post laidOut (by kernel_rfl) rfl rfl Tryz.underlying4 rfl rfl rfl rfl hW' bel⟩
noncomputable def world (os : Os) : World := laidWorld os
theorem reads (os : Os) {H : Type} (enc : TypeId × Value → H) : ∃ places, DataW.whole enc Tryz.prog ((world os).forCall (fun _ _ => 0) ⟨#[], (#[.agg #[.int .i64 0, .string ⟨#[]⟩, .slice none 0 0, .slice none 0 0], .string ⟨#[]⟩] : Array Value), []⟩).memory Tryz.f3.params.toList Rows.diddocDecodesSpec.vars false (#[.agg #[.int .i64 0, .string ⟨#[]⟩, .slice none 0 0, .slice none 0 0], .string ⟨#[]⟩] : Array Value).toList 8 = some ([.agg [.lit (.int .i64 0), .lit (.string []), .nil, .nil], .lit (.string [])], [], places) :=
  ⟨[], by kernel_rfl⟩
set_option maxRecDepth 100000 in
theorem lifted (os : Os) (started : os.Started) (H : Type) (enc : TypeId × Value → H) (F : Stop.Interp) :
    ReturnsInHanded {} Tryz.checked os 3 .any ((OpenSpec.ofChange Rows.diddocDecodesSpec).preRow enc Tryz.prog Tryz.f3 Rows.diddocDecodesRow.domain false Rows.diddocDecodesRow.laid) (((OpenSpec.ofChange Rows.diddocDecodesSpec).at F).post enc Tryz.prog Tryz.f3 false true false false) := by
  obtain ⟨places, hx⟩ := reads os enc
  refine returnsInHanded_of_row (C := Tryz.checked) (s := OpenSpec.ofChange Rows.diddocDecodesSpec) own started (by kernel_rfl) Tryz.func3
    (witness_row_at (enc := enc) (C := Tryz.checked) false (world os) (#[.agg #[.int .i64 0, .string ⟨#[]⟩, .slice none 0 0, .slice none 0 0], .string ⟨#[]⟩] : Array Value) rfl (by kernel_rfl) (by kernel_rfl) (by kernel_rfl)
      (OpenSpec.preRow_of_cond 8 hx (by kernel_rfl) (fun k hk => by cases hk) (by kernel_rfl) (laid_met os _))) ?_
  intro W base args ds gs before hval hW _ hcond hwt _ hS _
  exact contract H enc W base args ds gs before hval hW hwt hS
set_option maxRecDepth 100000 in
theorem facts : ((Rows.diddocDecodesRow.inPlace == Tryz.pinned.checked.prog.inPlace 3) && (Rows.diddocDecodesRow.unfollowed == Tryz.pinned.checked.prog.unfollowed 3) && (Rows.diddocDecodesRow.recurses == Tryz.pinned.checked.prog.recurses 3) && (Rows.diddocDecodesRow.named == Tryz.pinned.checked.prog.varsNamed 3)) = true := by kernel_rfl
set_option maxRecDepth 100000 in
set_option maxHeartbeats 20000000 in
theorem joined : joinedFacts Tryz.pinned.checked.prog 3 Tryz.f3 (OpenSpec.ofChange Rows.diddocDecodesSpec).bare Rows.diddocDecodesRow = true := by
  unfold joinedFacts
  simp only [Bool.and_eq_true]
  repeat' apply And.intro
  · as_aux_lemma => kernel_rfl
  · exact laidOut
  · exact pf_maps
  · as_aux_lemma => kernel_rfl
  · as_aux_lemma => kernel_rfl
  · as_aux_lemma => kernel_rfl
  · exact pf_stops
  · as_aux_lemma => kernel_rfl
  · exact pf_knobs
  · exact (and4 facts).1.1
  · exact (and4 facts).1.2
  · exact (and4 facts).2.1
  · exact (and4 facts).2.2
  · as_aux_lemma => kernel_rfl
  · as_aux_lemma => kernel_rfl
  · as_aux_lemma => kernel_rfl
  · as_aux_lemma => kernel_rfl
  · as_aux_lemma => kernel_rfl
  · as_aux_lemma => kernel_rfl
  · as_aux_lemma => kernel_rfl
  · as_aux_lemma => kernel_rfl
  · as_aux_lemma => kernel_rfl
  · exact pf_keys
  · as_aux_lemma => kernel_rfl
  · exact pf_heard
  · exact pf_may
  · exact pf_lifts
  · exact pf_make
  · as_aux_lemma => kernel_rfl
  · as_aux_lemma => kernel_rfl
  · as_aux_lemma => kernel_rfl
  · as_aux_lemma => kernel_rfl
theorem wrapper : Func.isWrapper Tryz.pinned.checked.prog Tryz.f3 (Rows.diddocDecodesRow).wrapper (Rows.diddocDecodesRow).mainSum := by
  unfold Func.isWrapper; first | (rw [if_pos (by decide +kernel)]; kernel_rfl) | (rw [if_neg (by decide +kernel)]; exact ⟨rfl, rfl⟩)
theorem said : Rows.DiddocDecodesSaid :=
  OpenClaim.holds_of_cond 3 Tryz.f3 rfl rfl rfl rfl rfl rfl rfl ⟨rfl, rfl, rfl, rfl, rfl⟩ rfl rfl rfl rfl rfl (by as_aux_lemma => kernel_rfl) Tryz.func3 joined
    (of_decide_eq_true (by as_aux_lemma => kernel_rfl)) wrapper
    (fun os started H enc _ F => by rw [OpenClaim.pre_eq_preRow]; exact lifted os started H enc F)
theorem plain (f : FuncId) (fn : Func) (hf : Tryz.pinned.checked.prog.funcNamed "webfinger/webfingerlaw17.DiddocDecodes" = some f) (hfn : Tryz.pinned.checked.prog.funcs[f]? = some fn) :
    false = Tryz.pinned.checked.prog.looks [] ∧ ∀ (j : Nat) t, fn.params[j]? = some t → Tryz.pinned.checked.prog.wantsStandIn t = false := by
  obtain rfl : f = 3 := Option.some.inj ((show Tryz.prog.funcNamed "webfinger/webfingerlaw17.DiddocDecodes" = some 3 by kernel_rfl).symm.trans hf) |>.symm
  obtain rfl : fn = Tryz.f3 := (Option.some.inj (Tryz.func3.symm.trans hfn)).symm
  refine ⟨pf_looks, fun j t ht => ?_⟩
  rw [Tryz.params3] at ht
  have hm := Array.mem_of_getElem? ht
  have hw : ∀ t ∈ ([25, 9] : List TypeId), Tryz.prog.wantsStandIn t = false := by
    intro t ht
    simp only [List.mem_cons, List.not_mem_nil, or_false] at ht
    rcases ht with rfl | rfl
    · kernel_rfl
    · kernel_rfl
  exact hw t (by simpa using hm)
theorem proved : Rows.DiddocDecodesCardSaid :=
  Claim7.holds_tied_plain_at .later [] _ _ _ _ said (fun _ h => by cases h) (by as_aux_lemma => kernel_rfl) (fun _ h => by cases h) diddocDecodes_row_tie rfl ⟨rfl, rfl⟩ (by as_aux_lemma => kernel_rfl) rfl plain (by as_aux_lemma => kernel_rfl)
#print axioms proved
end Go.Proofs.YtejfjmcjicpodaaGreatDoor.diddocDecodes
