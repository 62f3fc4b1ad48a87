/- For every input: RedirectSafe returns true. No conditions. -/
import Derived.Test.YtcndmooeglfilaaGreatDoorR5
set_option linter.all false
namespace Go.Proofs.YtcndmooeglfilaaGreatDoor.redirectSafe
open Go Vc Go.RowKit Wf
open Go.ChangeShapes Go.WideShapes Go.ChangeAt
open Go.WideMaps Go.WideElems
open Go.ChangeMaps (setBlock shut_map_nil open_string shut_string keptBut_setBlock frozen?_setBlock heap_setBlock_same)
set_option maxRecDepth 100000 in
theorem contract (H : Type) (enc : TypeId × Value → H) (W : World) (base : Nat) (args : Array Value) (ds gs : List (DataW H)) (before : List MemPlace)
    (hval : ∀ (j : Nat) t v, Tryz.f6.params[j]? = some t → args[j]? = some v → Value.okWide Tryz.prog W .any base t v)
    (hW : DataW.Whole enc Tryz.prog Tryz.f6.params.toList Rows.redirectSafeSpec.vars false W args.toList ds gs before) (hwt : (DataW.weightsEach Tryz.prog (Tryz.f6.params.toList ++ (OpenSpec.ofChange Rows.redirectSafeSpec).bare.plain.varTypes Tryz.prog) (ds ++ gs)).all (· ≤ reachBytes) = true) (hS : W.ShapedOpen Tryz.prog) :
    Calls Tryz.prog 6 args W fun e W' => ∃ v, e = .returned v ∧ Rows.redirectSafeSpec.post enc Tryz.prog Tryz.f6 false true false false W args v W' := by
  have hW' := hW
  obtain ⟨p, q, hA0, hV, rfl, hfz, hnd⟩ := hW
  have hA : DataW.TrodAll enc Tryz.prog W 0 (fun _ => true) true Tryz.f6.params.toList args.toList ds p := hA0
  rw [Tryz.params6] at hA hval hwt
  obtain ⟨v0, vs0, d0, ds0, p0, q0, hargs, rfl, rfl, h0, r0⟩ := trodAll_cons hA
  obtain ⟨v1, vs1, d1, ds1, p1, q1, rfl, rfl, rfl, h1, r1⟩ := trodAll_cons r0
  obtain ⟨v2, vs2, d2, ds2, p2, q2, rfl, rfl, rfl, h2, r2⟩ := trodAll_cons r1
  obtain ⟨v3, vs3, d3, ds3, p3, q3, rfl, rfl, rfl, h3, r3⟩ := trodAll_cons r2
  obtain ⟨rfl, rfl, rfl⟩ := trodAll_nil r3
  obtain rfl : args = #[v0, v1, v2, v3] := by cases args; simp_all
  obtain ⟨rfl, rfl⟩ := trodVars_none hV
  obtain ⟨s0, rfl, rfl, rfl, w0⟩ := open_string Tryz.underlying9 (hval 0 9 v0 rfl rfl) h0
  obtain ⟨⟨l0⟩⟩ := s0
  obtain ⟨s1, rfl, rfl, rfl, w1⟩ := open_string Tryz.underlying9 (hval 1 9 v1 rfl rfl) h1
  obtain ⟨⟨l1⟩⟩ := s1
  obtain ⟨sa2, sl2, sc2, rfl⟩ := okWide_slice Tryz.underlying51 (hval 2 51 v2 rfl rfl)
  obtain ⟨fu2, hf2⟩ := h2
  simp only [Value.cells] at hf2
  obtain ⟨tb0, L0, e0, hl0, hd0, hH0, hB0⟩ := open_rows (ρ := Bytes) [] sc1 (fun r : Bytes => .lit (.string r)) (fun r => by simp [flat, flat.flatL, sc1]) Tryz.underlying51 (s := 1) (by kernel_rfl) (fun _ _ _ hx => by obtain ⟨⟨⟨a⟩⟩, rfl, rfl, -⟩ := DataW.trod_string Tryz.underlying9 hx; exact ⟨a, by simp [concL, conc, sc1], rfl⟩) (ok_cell Tryz.underlying51 (hval 2 51 _ rfl rfl)) hf2
  have ee0 : Value.slice sa2 sl2 sc2 = oV tb0 L0.length := e0
  obtain ⟨a3, rfl, rfl, rfl, w3⟩ := open_int Tryz.underlying3 (hval 3 3 v3 rfl rfl) h3
  have b3 : IntKind.min .i64 ≤ a3 ∧ a3 ≤ IntKind.max .i64 := by simpa [Lit.wf] using w3
  simp only [IntKind.min, IntKind.max, IntKind.signed, IntKind.bits] at b3
  simp only [List.append_nil] at hwt
  have bl0 : l0.length ≤ 140737488355328 := Nat.le_trans (of_decide_eq_true (List.all_eq_true.1 hwt _ (DataW.weights_mem_each (j := 0) (t := 9) rfl rfl _ (by simp [DataW.weights, DataW.weightsEach, Tryz.underlying9])))) (by decide)
  have bl1 : l1.length ≤ 140737488355328 := Nat.le_trans (of_decide_eq_true (List.all_eq_true.1 hwt _ (DataW.weights_mem_each (j := 1) (t := 9) rfl rfl _ (by simp [DataW.weights, DataW.weightsEach, Tryz.underlying9])))) (by decide)
  have hw0 : ∀ r ∈ L0, r.length ≤ 140737488355328 := fun r hr => Nat.le_trans (of_decide_eq_true (List.all_eq_true.1 hwt _ (DataW.weights_mem_each (j := 2) (t := 51) rfl rfl _ (weights_rows Tryz.underlying51 hd0 hr (by simp [DataW.weights, DataW.weightsEach, Tryz.underlying9]))))) (by decide)
  have hlaw := SC.law (l := ([(tb0, .own (L0.flatMap sc1) 9 1 L0.length false)] : List (Bt × Res))) (s_RedirectSafe l0 l1 L0 a3 hl0) (env_of hS) (by
    intro x hx
    simp only [List.mem_cons, List.not_mem_nil, or_false] at hx
    rcases hx with rfl
    · exact ⟨rfl, hH0, hB0⟩
    )
  have hc : (#[.string ⟨⟨l0⟩⟩, .string ⟨⟨l1⟩⟩, .slice sa2 sl2 sc2, .int .i64 a3] : Array Value) = (concL (fun i => ((([(tb0, .own (L0.flatMap sc1) 9 1 L0.length false)] : List (Bt × Res))[i]?).map (·.1)).getD (bt0 0)) [.str l0, .str l1, .o 0 L0.length, .int .i64 a3]).toArray := by simp [concL, conc, ee0]
  rw [hc]
  refine hlaw.mono fun e W' ⟨he, bel⟩ => ?_
  subst he
  rw [← hc]
  exact ⟨_, rfl, law_post laidOut (by kernel_rfl) rfl rfl Tryz.underlying4 rfl rfl rfl rfl hW' bel⟩
noncomputable def world (os : Os) : World := laidWorld os
theorem reads (os : Os) {H : Type} (enc : TypeId × Value → H) : ∃ places, DataW.whole enc Tryz.prog ((world os).forCall (fun _ _ => 0) ⟨#[], (#[.string ⟨#[]⟩, .string ⟨#[]⟩, .slice none 0 0, .int .i64 0] : Array Value), []⟩).memory Tryz.f6.params.toList Rows.redirectSafeSpec.vars false (#[.string ⟨#[]⟩, .string ⟨#[]⟩, .slice none 0 0, .int .i64 0] : Array Value).toList 8 = some ([.lit (.string []), .lit (.string []), .nil, .lit (.int .i64 0)], [], places) :=
  ⟨[], by kernel_rfl⟩
set_option maxRecDepth 100000 in
theorem lifted (os : Os) (started : os.Started) (H : Type) (enc : TypeId × Value → H) (F : Stop.Interp) :
    ReturnsInHanded {} Tryz.checked os 6 .any ((OpenSpec.ofChange Rows.redirectSafeSpec).preRow enc Tryz.prog Tryz.f6 Rows.redirectSafeRow.domain false Rows.redirectSafeRow.laid) (((OpenSpec.ofChange Rows.redirectSafeSpec).at F).post enc Tryz.prog Tryz.f6 false true false false) := by
  obtain ⟨places, hx⟩ := reads os enc
  refine returnsInHanded_of_row (C := Tryz.checked) (s := OpenSpec.ofChange Rows.redirectSafeSpec) own started (by kernel_rfl) Tryz.func6
    (witness_row_at (enc := enc) (C := Tryz.checked) false (world os) (#[.string ⟨#[]⟩, .string ⟨#[]⟩, .slice none 0 0, .int .i64 0] : Array Value) rfl (by kernel_rfl) (by kernel_rfl) (by kernel_rfl)
      (OpenSpec.preRow_of_cond 8 hx (by kernel_rfl) (fun k hk => by cases hk) (by kernel_rfl) (laid_met os _))) ?_
  intro W base args ds gs before hval hW _ hcond hwt _ hS _
  exact contract H enc W base args ds gs before hval hW hwt hS
set_option maxRecDepth 100000 in
theorem facts : ((Rows.redirectSafeRow.inPlace == Tryz.pinned.checked.prog.inPlace 6) && (Rows.redirectSafeRow.unfollowed == Tryz.pinned.checked.prog.unfollowed 6) && (Rows.redirectSafeRow.recurses == Tryz.pinned.checked.prog.recurses 6) && (Rows.redirectSafeRow.named == Tryz.pinned.checked.prog.varsNamed 6)) = true := by kernel_rfl
set_option maxRecDepth 100000 in
set_option maxHeartbeats 20000000 in
theorem joined : joinedFacts Tryz.pinned.checked.prog 6 Tryz.f6 (OpenSpec.ofChange Rows.redirectSafeSpec).bare Rows.redirectSafeRow = true := by
  unfold joinedFacts
  simp only [Bool.and_eq_true]
  repeat' apply And.intro
  · as_aux_lemma => kernel_rfl
  · exact laidOut
  · exact pf_maps
  · as_aux_lemma => kernel_rfl
  · as_aux_lemma => kernel_rfl
  · as_aux_lemma => kernel_rfl
  · exact pf_stops
  · as_aux_lemma => kernel_rfl
  · exact pf_knobs
  · exact (and4 facts).1.1
  · exact (and4 facts).1.2
  · exact (and4 facts).2.1
  · exact (and4 facts).2.2
  · as_aux_lemma => kernel_rfl
  · as_aux_lemma => kernel_rfl
  · as_aux_lemma => kernel_rfl
  · as_aux_lemma => kernel_rfl
  · as_aux_lemma => kernel_rfl
  · as_aux_lemma => kernel_rfl
  · as_aux_lemma => kernel_rfl
  · as_aux_lemma => kernel_rfl
  · as_aux_lemma => kernel_rfl
  · exact pf_keys
  · as_aux_lemma => kernel_rfl
  · exact pf_heard
  · exact pf_may
  · exact pf_lifts
  · exact pf_make
  · as_aux_lemma => kernel_rfl
  · as_aux_lemma => kernel_rfl
  · as_aux_lemma => kernel_rfl
  · as_aux_lemma => kernel_rfl
theorem wrapper : Func.isWrapper Tryz.pinned.checked.prog Tryz.f6 (Rows.redirectSafeRow).wrapper (Rows.redirectSafeRow).mainSum := by
  unfold Func.isWrapper; first | (rw [if_pos (by decide +kernel)]; kernel_rfl) | (rw [if_neg (by decide +kernel)]; exact ⟨rfl, rfl⟩)
theorem said : Rows.RedirectSafeSaid :=
  OpenClaim.holds_of_cond 6 Tryz.f6 rfl rfl rfl rfl rfl rfl rfl ⟨rfl, rfl, rfl, rfl, rfl⟩ rfl rfl rfl rfl rfl (by as_aux_lemma => kernel_rfl) Tryz.func6 joined
    (of_decide_eq_true (by as_aux_lemma => kernel_rfl)) wrapper
    (fun os started H enc _ F => by rw [OpenClaim.pre_eq_preRow]; exact lifted os started H enc F)
theorem plain (f : FuncId) (fn : Func) (hf : Tryz.pinned.checked.prog.funcNamed "webfinger/webfingerlaw25.RedirectSafe" = some f) (hfn : Tryz.pinned.checked.prog.funcs[f]? = some fn) :
    false = Tryz.pinned.checked.prog.looks [] ∧ ∀ (j : Nat) t, fn.params[j]? = some t → Tryz.pinned.checked.prog.wantsStandIn t = false := by
  obtain rfl : f = 6 := Option.some.inj ((show Tryz.prog.funcNamed "webfinger/webfingerlaw25.RedirectSafe" = some 6 by kernel_rfl).symm.trans hf) |>.symm
  obtain rfl : fn = Tryz.f6 := (Option.some.inj (Tryz.func6.symm.trans hfn)).symm
  refine ⟨pf_looks, fun j t ht => ?_⟩
  rw [Tryz.params6] at ht
  have hm := Array.mem_of_getElem? ht
  have hw : ∀ t ∈ ([9, 9, 51, 3] : List TypeId), Tryz.prog.wantsStandIn t = false := by
    intro t ht
    simp only [List.mem_cons, List.not_mem_nil, or_false] at ht
    rcases ht with rfl | rfl | rfl | rfl
    · kernel_rfl
    · kernel_rfl
    · kernel_rfl
    · kernel_rfl
  exact hw t (by simpa using hm)
theorem proved : Rows.RedirectSafeCardSaid :=
  Claim7.holds_tied_plain_at .later [] _ _ _ _ said (fun _ h => by cases h) (by as_aux_lemma => kernel_rfl) (fun _ h => by cases h) redirectSafe_row_tie rfl ⟨rfl, rfl⟩ (by as_aux_lemma => kernel_rfl) rfl plain (by as_aux_lemma => kernel_rfl)
#print axioms proved
end Go.Proofs.YtcndmooeglfilaaGreatDoor.redirectSafe
