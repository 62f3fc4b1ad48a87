/- For every input: RedirectNext returns true. No conditions. -/
import Derived.Test.YtcndmooeglfilaaGreatDoorR5
set_option linter.all false
namespace Go.Proofs.YtcndmooeglfilaaGreatDoor.redirectNext
open Go Vc Go.RowKit Wf
open Go.ChangeShapes Go.WideShapes Go.ChangeAt
open Go.WideMaps Go.WideElems
open Go.ChangeMaps (setBlock shut_map_nil open_string shut_string keptBut_setBlock frozen?_setBlock heap_setBlock_same)
set_option maxRecDepth 100000 in
theorem contract (H : Type) (enc : TypeId × Value → H) (W : World) (base : Nat) (args : Array Value) (ds gs : List (DataW H)) (before : List MemPlace)
    (hval : ∀ (j : Nat) t v, Tryz.f4.params[j]? = some t → args[j]? = some v → Value.okWide Tryz.prog W .any base t v)
    (hW : DataW.Whole enc Tryz.prog Tryz.f4.params.toList Rows.redirectNextSpec.vars false W args.toList ds gs before) (hwt : (DataW.weightsEach Tryz.prog (Tryz.f4.params.toList ++ (OpenSpec.ofChange Rows.redirectNextSpec).bare.plain.varTypes Tryz.prog) (ds ++ gs)).all (· ≤ reachBytes) = true) (hS : W.ShapedOpen Tryz.prog) :
    Calls Tryz.prog 4 args W fun e W' => ∃ v, e = .returned v ∧ Rows.redirectNextSpec.post enc Tryz.prog Tryz.f4 false true false false W args v W' := by
  have hW' := hW
  obtain ⟨p, q, hA0, hV, rfl, hfz, hnd⟩ := hW
  have hA : DataW.TrodAll enc Tryz.prog W 0 (fun _ => true) true Tryz.f4.params.toList args.toList ds p := hA0
  rw [Tryz.params4] at hA hval hwt
  obtain ⟨v0, vs0, d0, ds0, p0, q0, hargs, rfl, rfl, h0, r0⟩ := trodAll_cons hA
  obtain ⟨v1, vs1, d1, ds1, p1, q1, rfl, rfl, rfl, h1, r1⟩ := trodAll_cons r0
  obtain ⟨v2, vs2, d2, ds2, p2, q2, rfl, rfl, rfl, h2, r2⟩ := trodAll_cons r1
  obtain ⟨v3, vs3, d3, ds3, p3, q3, rfl, rfl, rfl, h3, r3⟩ := trodAll_cons r2
  obtain ⟨v4, vs4, d4, ds4, p4, q4, rfl, rfl, rfl, h4, r4⟩ := trodAll_cons r3
  obtain ⟨rfl, rfl, rfl⟩ := trodAll_nil r4
  obtain rfl : args = #[v0, v1, v2, v3, v4] := by cases args; simp_all
  obtain ⟨rfl, rfl⟩ := trodVars_none hV
  obtain ⟨x0_0, x0_1, x0_2, x0_3, x0_4, x0_5, x0_6, rfl, rfl, rfl, z0⟩ := open_29 (hval 0 29 v0 rfl rfl) h0
  have ok1 := hval 1 40 v1 rfl rfl
  obtain ⟨cs1, rfl, -⟩ := okWide_struct Tryz.underlying40 ok1
  obtain ⟨fu1, hf1⟩ := h1
  obtain ⟨cs1⟩ := cs1
  simp only [Value.cells] at hf1
  obtain ⟨x1_0, x1_1, x1_2, n1_2, y1_2, qc1, hx1, wb1_0, wb1_1, t1_2⟩ := trodS_40 hf1
  obtain rfl := qc1
  obtain rfl : d1 = _ := hx1
  have nb1_0 : IntKind.min .i64 ≤ x1_0 ∧ x1_0 ≤ IntKind.max .i64 := by simpa [Lit.wf] using wb1_0
  simp only [IntKind.min, IntKind.max, IntKind.signed, IntKind.bits] at nb1_0
  have nb1_1 : IntKind.min .i64 ≤ x1_1 ∧ x1_1 ≤ IntKind.max .i64 := by simpa [Lit.wf] using wb1_1
  simp only [IntKind.min, IntKind.max, IntKind.signed, IntKind.bits] at nb1_1
  obtain ⟨tb0, L0, e0, hl0, hd0, hH0, hB0⟩ := open_rows (ρ := (Bytes × Bytes)) ([], []) fc (fun r : (Bytes × Bytes) => .agg [.lit (.string r.1), .lit (.string r.2)]) (fun r => by simp [flat, flat.flatL, fc]) Tryz.underlying38 (s := 2) (by kernel_rfl) (fun _ _ _ hx => by obtain ⟨a0, a1, rfl, rfl, -⟩ := trod_86 hx; exact ⟨(a0, a1), by simp [concL, conc, fc], rfl⟩) (ok_field Tryz.underlying40 (ts := (Tryz.prog.cellTypes Tryz.prog.depth 40).getD []) (by kernel_rfl) ok1 2 38 _ rfl (by kernel_rfl)) t1_2
  subst e0
  obtain ⟨sa2, sl2, sc2, rfl⟩ := okWide_slice Tryz.underlying41 (hval 2 41 v2 rfl rfl)
  obtain ⟨fu2, hf2⟩ := h2
  simp only [Value.cells] at hf2
  obtain ⟨tb1, L1, e1, hl1, hd1, hH1, hB1⟩ := open_rows (ρ := Url) Url.none uc (fun r : Url => .agg [.lit (.string r.host), .lit (.int .i64 r.port), .lit (.string r.path), .lit (.string r.query), .lit (.string r.fragment), .lit (.bool r.hasQuery), .lit (.bool r.hasFrag)]) (fun r => by simp [flat, flat.flatL, uc]) Tryz.underlying41 (s := 7) (by kernel_rfl) (fun _ _ _ hx => by obtain ⟨a0, a1, a2, a3, a4, a5, a6, rfl, rfl, -⟩ := trod_29 hx; exact ⟨⟨a0, a1, a2, a3, a4, a5, a6⟩, by simp [concL, conc, uc], rfl⟩) (ok_cell Tryz.underlying41 (hval 2 41 _ rfl rfl)) hf2
  have ee1 : Value.slice sa2 sl2 sc2 = oV tb1 L1.length := e1
  obtain ⟨a3, rfl, rfl, rfl, w3⟩ := open_int Tryz.underlying3 (hval 3 3 v3 rfl rfl) h3
  have b3 : IntKind.min .i64 ≤ a3 ∧ a3 ≤ IntKind.max .i64 := by simpa [Lit.wf] using w3
  simp only [IntKind.min, IntKind.max, IntKind.signed, IntKind.bits] at b3
  obtain ⟨a4, rfl, rfl, rfl, w4⟩ := open_int Tryz.underlying3 (hval 4 3 v4 rfl rfl) h4
  have b4 : IntKind.min .i64 ≤ a4 ∧ a4 ≤ IntKind.max .i64 := by simpa [Lit.wf] using w4
  simp only [IntKind.min, IntKind.max, IntKind.signed, IntKind.bits] at b4
  simp only [List.append_nil] at hwt
  have bx0_0 : x0_0.length ≤ 140737488355328 := Nat.le_trans (of_decide_eq_true (List.all_eq_true.1 hwt _ (DataW.weights_mem_each (j := 0) (t := 29) rfl rfl _ (by simp [DataW.weights, DataW.weightsEach, Tryz.underlying29, Tryz.underlying3, Tryz.underlying4, Tryz.underlying9])))) (by decide)
  have bx0_2 : x0_2.length ≤ 140737488355328 := Nat.le_trans (of_decide_eq_true (List.all_eq_true.1 hwt _ (DataW.weights_mem_each (j := 0) (t := 29) rfl rfl _ (by simp [DataW.weights, DataW.weightsEach, Tryz.underlying29, Tryz.underlying3, Tryz.underlying4, Tryz.underlying9])))) (by decide)
  have bx0_3 : x0_3.length ≤ 140737488355328 := Nat.le_trans (of_decide_eq_true (List.all_eq_true.1 hwt _ (DataW.weights_mem_each (j := 0) (t := 29) rfl rfl _ (by simp [DataW.weights, DataW.weightsEach, Tryz.underlying29, Tryz.underlying3, Tryz.underlying4, Tryz.underlying9])))) (by decide)
  have bx0_4 : x0_4.length ≤ 140737488355328 := Nat.le_trans (of_decide_eq_true (List.all_eq_true.1 hwt _ (DataW.weights_mem_each (j := 0) (t := 29) rfl rfl _ (by simp [DataW.weights, DataW.weightsEach, Tryz.underlying29, Tryz.underlying3, Tryz.underlying4, Tryz.underlying9])))) (by decide)
  have hw0 : ∀ r ∈ L0, r.1.length ≤ 140737488355328 ∧ r.2.length ≤ 140737488355328 := fun r hr => ⟨Nat.le_trans (of_decide_eq_true (List.all_eq_true.1 hwt _ (DataW.weights_mem_each (j := 1) (t := 40) rfl rfl _ (weights_field Tryz.underlying40 (j := 2) rfl rfl (weights_rows Tryz.underlying38 hd0 hr (by simp [DataW.weights, DataW.weightsEach, Tryz.underlying86, Tryz.underlying9])))))) (by decide), Nat.le_trans (of_decide_eq_true (List.all_eq_true.1 hwt _ (DataW.weights_mem_each (j := 1) (t := 40) rfl rfl _ (weights_field Tryz.underlying40 (j := 2) rfl rfl (weights_rows Tryz.underlying38 hd0 hr (by simp [DataW.weights, DataW.weightsEach, Tryz.underlying86, Tryz.underlying9])))))) (by decide)⟩
  have hw1 : ∀ r ∈ L1, r.host.length ≤ 140737488355328 ∧ r.path.length ≤ 140737488355328 ∧ r.query.length ≤ 140737488355328 ∧ r.fragment.length ≤ 140737488355328 := fun r hr => ⟨Nat.le_trans (of_decide_eq_true (List.all_eq_true.1 hwt _ (DataW.weights_mem_each (j := 2) (t := 41) rfl rfl _ (weights_rows Tryz.underlying41 hd1 hr (by simp [DataW.weights, DataW.weightsEach, Tryz.underlying29, Tryz.underlying3, Tryz.underlying4, Tryz.underlying9]))))) (by decide), Nat.le_trans (of_decide_eq_true (List.all_eq_true.1 hwt _ (DataW.weights_mem_each (j := 2) (t := 41) rfl rfl _ (weights_rows Tryz.underlying41 hd1 hr (by simp [DataW.weights, DataW.weightsEach, Tryz.underlying29, Tryz.underlying3, Tryz.underlying4, Tryz.underlying9]))))) (by decide), Nat.le_trans (of_decide_eq_true (List.all_eq_true.1 hwt _ (DataW.weights_mem_each (j := 2) (t := 41) rfl rfl _ (weights_rows Tryz.underlying41 hd1 hr (by simp [DataW.weights, DataW.weightsEach, Tryz.underlying29, Tryz.underlying3, Tryz.underlying4, Tryz.underlying9]))))) (by decide), Nat.le_trans (of_decide_eq_true (List.all_eq_true.1 hwt _ (DataW.weights_mem_each (j := 2) (t := 41) rfl rfl _ (weights_rows Tryz.underlying41 hd1 hr (by simp [DataW.weights, DataW.weightsEach, Tryz.underlying29, Tryz.underlying3, Tryz.underlying4, Tryz.underlying9]))))) (by decide)⟩
  have hlaw := SC.law (l := ([(tb0, .own (L0.flatMap fc) 86 2 L0.length false), (tb1, .own (L1.flatMap uc) 29 7 L1.length false)] : List (Bt × Res))) (s_RedirectNext ⟨x0_0, x0_1, x0_2, x0_3, x0_4, x0_5, x0_6⟩ x1_0 x1_1 L0 L1 a3 a4 ⟨bx0_0, bx0_2, bx0_3, bx0_4⟩ (by simpa [Lit.wf, IntKind.min, IntKind.max, IntKind.signed, IntKind.bits] using z0.2.1) hw0 hl1 hw1) (env_of hS) (by
    intro x hx
    simp only [List.mem_cons, List.not_mem_nil, or_false] at hx
    rcases hx with rfl | rfl
    · exact ⟨rfl, hH0, hB0⟩
    · exact ⟨rfl, hH1, hB1⟩
    )
  have hc : (#[.agg #[.string ⟨⟨x0_0⟩⟩, .int .i64 x0_1, .string ⟨⟨x0_2⟩⟩, .string ⟨⟨x0_3⟩⟩, .string ⟨⟨x0_4⟩⟩, .bool x0_5, .bool x0_6], .agg #[.int .i64 x1_0, .int .i64 x1_1, oV tb0 L0.length], .slice sa2 sl2 sc2, .int .i64 a3, .int .i64 a4] : Array Value) = (concL (fun i => ((([(tb0, .own (L0.flatMap fc) 86 2 L0.length false), (tb1, .own (L1.flatMap uc) 29 7 L1.length false)] : List (Bt × Res))[i]?).map (·.1)).getD (bt0 0)) [.agg [.str x0_0, .int .i64 x0_1, .str x0_2, .str x0_3, .str x0_4, .bool x0_5, .bool x0_6], .agg [.int .i64 x1_0, .int .i64 x1_1, .o 0 L0.length], .o 1 L1.length, .int .i64 a3, .int .i64 a4]).toArray := by simp [concL, conc, ee1]
  rw [hc]
  refine hlaw.mono fun e W' ⟨he, bel⟩ => ?_
  subst he
  rw [← hc]
  exact ⟨_, rfl, law_post laidOut (by kernel_rfl) rfl rfl Tryz.underlying4 rfl rfl rfl rfl hW' bel⟩
noncomputable def world (os : Os) : World := laidWorld os
theorem reads (os : Os) {H : Type} (enc : TypeId × Value → H) : ∃ places, DataW.whole enc Tryz.prog ((world os).forCall (fun _ _ => 0) ⟨#[], (#[.agg #[.string ⟨#[]⟩, .int .i64 0, .string ⟨#[]⟩, .string ⟨#[]⟩, .string ⟨#[]⟩, .bool false, .bool false], .agg #[.int .i64 0, .int .i64 0, .slice none 0 0], .slice none 0 0, .int .i64 0, .int .i64 0] : Array Value), []⟩).memory Tryz.f4.params.toList Rows.redirectNextSpec.vars false (#[.agg #[.string ⟨#[]⟩, .int .i64 0, .string ⟨#[]⟩, .string ⟨#[]⟩, .string ⟨#[]⟩, .bool false, .bool false], .agg #[.int .i64 0, .int .i64 0, .slice none 0 0], .slice none 0 0, .int .i64 0, .int .i64 0] : Array Value).toList 8 = some ([.agg [.lit (.string []), .lit (.int .i64 0), .lit (.string []), .lit (.string []), .lit (.string []), .lit (.bool false), .lit (.bool false)], .agg [.lit (.int .i64 0), .lit (.int .i64 0), .nil], .nil, .lit (.int .i64 0), .lit (.int .i64 0)], [], places) :=
  ⟨[], by kernel_rfl⟩
set_option maxRecDepth 100000 in
theorem lifted (os : Os) (started : os.Started) (H : Type) (enc : TypeId × Value → H) (F : Stop.Interp) :
    ReturnsInHanded {} Tryz.checked os 4 .any ((OpenSpec.ofChange Rows.redirectNextSpec).preRow enc Tryz.prog Tryz.f4 Rows.redirectNextRow.domain false Rows.redirectNextRow.laid) (((OpenSpec.ofChange Rows.redirectNextSpec).at F).post enc Tryz.prog Tryz.f4 false true false false) := by
  obtain ⟨places, hx⟩ := reads os enc
  refine returnsInHanded_of_row (C := Tryz.checked) (s := OpenSpec.ofChange Rows.redirectNextSpec) own started (by kernel_rfl) Tryz.func4
    (witness_row_at (enc := enc) (C := Tryz.checked) false (world os) (#[.agg #[.string ⟨#[]⟩, .int .i64 0, .string ⟨#[]⟩, .string ⟨#[]⟩, .string ⟨#[]⟩, .bool false, .bool false], .agg #[.int .i64 0, .int .i64 0, .slice none 0 0], .slice none 0 0, .int .i64 0, .int .i64 0] : Array Value) rfl (by kernel_rfl) (by kernel_rfl) (by kernel_rfl)
      (OpenSpec.preRow_of_cond 8 hx (by kernel_rfl) (fun k hk => by cases hk) (by kernel_rfl) (laid_met os _))) ?_
  intro W base args ds gs before hval hW _ hcond hwt _ hS _
  exact contract H enc W base args ds gs before hval hW hwt hS
set_option maxRecDepth 100000 in
theorem facts : ((Rows.redirectNextRow.inPlace == Tryz.pinned.checked.prog.inPlace 4) && (Rows.redirectNextRow.unfollowed == Tryz.pinned.checked.prog.unfollowed 4) && (Rows.redirectNextRow.recurses == Tryz.pinned.checked.prog.recurses 4) && (Rows.redirectNextRow.named == Tryz.pinned.checked.prog.varsNamed 4)) = true := by kernel_rfl
set_option maxRecDepth 100000 in
set_option maxHeartbeats 20000000 in
theorem joined : joinedFacts Tryz.pinned.checked.prog 4 Tryz.f4 (OpenSpec.ofChange Rows.redirectNextSpec).bare Rows.redirectNextRow = true := by
  unfold joinedFacts
  simp only [Bool.and_eq_true]
  repeat' apply And.intro
  · as_aux_lemma => kernel_rfl
  · exact laidOut
  · exact pf_maps
  · as_aux_lemma => kernel_rfl
  · as_aux_lemma => kernel_rfl
  · as_aux_lemma => kernel_rfl
  · exact pf_stops
  · as_aux_lemma => kernel_rfl
  · exact pf_knobs
  · exact (and4 facts).1.1
  · exact (and4 facts).1.2
  · exact (and4 facts).2.1
  · exact (and4 facts).2.2
  · as_aux_lemma => kernel_rfl
  · as_aux_lemma => kernel_rfl
  · as_aux_lemma => kernel_rfl
  · as_aux_lemma => kernel_rfl
  · as_aux_lemma => kernel_rfl
  · as_aux_lemma => kernel_rfl
  · as_aux_lemma => kernel_rfl
  · as_aux_lemma => kernel_rfl
  · as_aux_lemma => kernel_rfl
  · exact pf_keys
  · as_aux_lemma => kernel_rfl
  · exact pf_heard
  · exact pf_may
  · exact pf_lifts
  · exact pf_make
  · as_aux_lemma => kernel_rfl
  · as_aux_lemma => kernel_rfl
  · as_aux_lemma => kernel_rfl
  · as_aux_lemma => kernel_rfl
theorem wrapper : Func.isWrapper Tryz.pinned.checked.prog Tryz.f4 (Rows.redirectNextRow).wrapper (Rows.redirectNextRow).mainSum := by
  unfold Func.isWrapper; first | (rw [if_pos (by decide +kernel)]; kernel_rfl) | (rw [if_neg (by decide +kernel)]; exact ⟨rfl, rfl⟩)
theorem said : Rows.RedirectNextSaid :=
  OpenClaim.holds_of_cond 4 Tryz.f4 rfl rfl rfl rfl rfl rfl rfl ⟨rfl, rfl, rfl, rfl, rfl⟩ rfl rfl rfl rfl rfl (by as_aux_lemma => kernel_rfl) Tryz.func4 joined
    (of_decide_eq_true (by as_aux_lemma => kernel_rfl)) wrapper
    (fun os started H enc _ F => by rw [OpenClaim.pre_eq_preRow]; exact lifted os started H enc F)
theorem plain (f : FuncId) (fn : Func) (hf : Tryz.pinned.checked.prog.funcNamed "webfinger/webfingerlaw25.RedirectNext" = some f) (hfn : Tryz.pinned.checked.prog.funcs[f]? = some fn) :
    false = Tryz.pinned.checked.prog.looks [] ∧ ∀ (j : Nat) t, fn.params[j]? = some t → Tryz.pinned.checked.prog.wantsStandIn t = false := by
  obtain rfl : f = 4 := Option.some.inj ((show Tryz.prog.funcNamed "webfinger/webfingerlaw25.RedirectNext" = some 4 by kernel_rfl).symm.trans hf) |>.symm
  obtain rfl : fn = Tryz.f4 := (Option.some.inj (Tryz.func4.symm.trans hfn)).symm
  refine ⟨pf_looks, fun j t ht => ?_⟩
  rw [Tryz.params4] at ht
  have hm := Array.mem_of_getElem? ht
  have hw : ∀ t ∈ ([29, 40, 41, 3, 3] : List TypeId), Tryz.prog.wantsStandIn t = false := by
    intro t ht
    simp only [List.mem_cons, List.not_mem_nil, or_false] at ht
    rcases ht with rfl | rfl | rfl | rfl | rfl
    · kernel_rfl
    · kernel_rfl
    · kernel_rfl
    · kernel_rfl
    · kernel_rfl
  exact hw t (by simpa using hm)
theorem proved : Rows.RedirectNextCardSaid :=
  Claim7.holds_tied_plain_at .later [] _ _ _ _ said (fun _ h => by cases h) (by as_aux_lemma => kernel_rfl) (fun _ h => by cases h) redirectNext_row_tie rfl ⟨rfl, rfl⟩ (by as_aux_lemma => kernel_rfl) rfl plain (by as_aux_lemma => kernel_rfl)
#print axioms proved
end Go.Proofs.YtcndmooeglfilaaGreatDoor.redirectNext
