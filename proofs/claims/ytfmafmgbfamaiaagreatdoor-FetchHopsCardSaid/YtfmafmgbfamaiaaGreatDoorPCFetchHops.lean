/- For every input: FetchHops returns true. No conditions. -/
import Derived.Test.YtfmafmgbfamaiaaGreatDoorM6
set_option linter.all false
namespace Go.Proofs.YtfmafmgbfamaiaaGreatDoor.fetchHops
open Go Vc Go.RowKit Wf
open Go.ChangeShapes Go.WideShapes Go.ChangeAt
open Go.WideMaps Go.WideElems
open Go.ChangeMaps (setBlock shut_map_nil open_string shut_string keptBut_setBlock frozen?_setBlock heap_setBlock_same)
set_option maxRecDepth 100000 in
theorem contract (H : Type) (enc : TypeId × Value → H) (W : World) (base : Nat) (args : Array Value) (ds gs : List (DataW H)) (before : List MemPlace)
    (hval : ∀ (j : Nat) t v, Tryz.f3.params[j]? = some t → args[j]? = some v → Value.okWide Tryz.prog W .any base t v)
    (hW : DataW.Whole enc Tryz.prog Tryz.f3.params.toList Rows.fetchHopsSpec.vars false W args.toList ds gs before) (hwt : (DataW.weightsEach Tryz.prog (Tryz.f3.params.toList ++ (OpenSpec.ofChange Rows.fetchHopsSpec).bare.plain.varTypes Tryz.prog) (ds ++ gs)).all (· ≤ reachBytes) = true) (hS : W.ShapedOpen Tryz.prog) :
    Calls Tryz.prog 3 args W fun e W' => ∃ v, e = .returned v ∧ Rows.fetchHopsSpec.post enc Tryz.prog Tryz.f3 false true false false W args v W' := by
  have hW' := hW
  obtain ⟨p, q, hA0, hV, rfl, hfz, hnd⟩ := hW
  have hA : DataW.TrodAll enc Tryz.prog W 0 (fun _ => true) true Tryz.f3.params.toList args.toList ds p := hA0
  rw [Tryz.params3] at hA hval hwt
  obtain ⟨v0, vs0, d0, ds0, p0, q0, hargs, rfl, rfl, h0, r0⟩ := trodAll_cons hA
  obtain ⟨v1, vs1, d1, ds1, p1, q1, rfl, rfl, rfl, h1, r1⟩ := trodAll_cons r0
  obtain ⟨v2, vs2, d2, ds2, p2, q2, rfl, rfl, rfl, h2, r2⟩ := trodAll_cons r1
  obtain ⟨rfl, rfl, rfl⟩ := trodAll_nil r2
  obtain rfl : args = #[v0, v1, v2] := by cases args; simp_all
  obtain ⟨rfl, rfl⟩ := trodVars_none hV
  obtain ⟨a0, rfl, rfl, rfl, w0⟩ := open_int Tryz.underlying5 (hval 0 5 v0 rfl rfl) h0
  have b0 : IntKind.min .u8 ≤ a0 ∧ a0 ≤ IntKind.max .u8 := by simpa [Lit.wf] using w0
  simp only [IntKind.min, IntKind.max, IntKind.signed, IntKind.bits] at b0
  obtain ⟨sa1, sl1, sc1, rfl⟩ := okWide_slice Tryz.underlying22 (hval 1 22 v1 rfl rfl)
  obtain ⟨fu1, hf1⟩ := h1
  simp only [Value.cells] at hf1
  obtain ⟨tb0, L0, e0, hl0, hd0, hH0, hB0, hq0⟩ := open_rows (ρ := Int) 0 sc8 (fun r : Int => .lit (.int .u8 r)) (fun r : Int => (Lit.int .u8 r).wf = true) (fun r => by simp [flat, flat.flatL, sc8]) Tryz.underlying22 (s := 1) (by kernel_rfl) (fun _ _ _ hx => by obtain ⟨a, rfl, rfl, hw⟩ := DataW.trod_int Tryz.underlying5 hx; exact ⟨a, by simp [concL, conc, sc8], rfl, hw⟩) (ok_cell Tryz.underlying22 (hval 1 22 _ rfl rfl)) hf1
  have ee0 : Value.slice sa1 sl1 sc1 = oV tb0 L0.length := e0
  obtain ⟨a2, rfl, rfl, rfl, w2⟩ := open_int Tryz.underlying5 (hval 2 5 v2 rfl rfl) h2
  have b2 : IntKind.min .u8 ≤ a2 ∧ a2 ≤ IntKind.max .u8 := by simpa [Lit.wf] using w2
  simp only [IntKind.min, IntKind.max, IntKind.signed, IntKind.bits] at b2
  simp only [List.append_nil] at hwt
  have hlaw := SC.law (l := ([(tb0, .own (L0.flatMap sc8) 5 1 L0.length false)] : List (Bt × Res))) (s_FetchHops a0 L0 a2 (by simpa using b0) (by simpa using b2) hl0 hq0) (env_of hS) (by
    intro x hx
    simp only [List.mem_cons, List.not_mem_nil, or_false] at hx
    rcases hx with rfl
    · exact ⟨rfl, hH0, hB0⟩
    )
  have hc : (#[.int .u8 a0, .slice sa1 sl1 sc1, .int .u8 a2] : Array Value) = (concL (fun i => ((([(tb0, .own (L0.flatMap sc8) 5 1 L0.length false)] : List (Bt × Res))[i]?).map (·.1)).getD (bt0 0)) [.int .u8 a0, .o 0 L0.length, .int .u8 a2]).toArray := by simp [concL, conc, ee0]
  rw [hc]
  refine hlaw.mono fun e W' ⟨he, bel⟩ => ?_
  subst he
  rw [← hc]
  exact ⟨_, rfl, law_post laidOut (by kernel_rfl) rfl rfl Tryz.underlying4 rfl rfl rfl rfl hW' bel⟩
noncomputable def world (os : Os) : World := laidWorld os
theorem reads (os : Os) {H : Type} (enc : TypeId × Value → H) : ∃ places, DataW.whole enc Tryz.prog ((world os).forCall (fun _ _ => 0) ⟨#[], (#[.int .u8 0, .slice none 0 0, .int .u8 0] : Array Value), []⟩).memory Tryz.f3.params.toList Rows.fetchHopsSpec.vars false (#[.int .u8 0, .slice none 0 0, .int .u8 0] : Array Value).toList 8 = some ([.lit (.int .u8 0), .nil, .lit (.int .u8 0)], [], places) :=
  ⟨[], by kernel_rfl⟩
set_option maxRecDepth 100000 in
theorem lifted (os : Os) (started : os.Started) (H : Type) (enc : TypeId × Value → H) (F : Stop.Interp) :
    ReturnsInHanded {} Tryz.checked os 3 .any ((OpenSpec.ofChange Rows.fetchHopsSpec).preRow enc Tryz.prog Tryz.f3 Rows.fetchHopsRow.domain false Rows.fetchHopsRow.laid) (((OpenSpec.ofChange Rows.fetchHopsSpec).at F).post enc Tryz.prog Tryz.f3 false true false false) := by
  obtain ⟨places, hx⟩ := reads os enc
  refine returnsInHanded_of_row (C := Tryz.checked) (s := OpenSpec.ofChange Rows.fetchHopsSpec) own started (by kernel_rfl) Tryz.func3
    (witness_row_at (enc := enc) (C := Tryz.checked) false (world os) (#[.int .u8 0, .slice none 0 0, .int .u8 0] : Array Value) rfl (by kernel_rfl) (by kernel_rfl) (by kernel_rfl)
      (OpenSpec.preRow_of_cond 8 hx (by kernel_rfl) (fun k hk => by cases hk) (by kernel_rfl) (laid_met os _))) ?_
  intro W base args ds gs before hval hW _ hcond hwt _ hS _
  exact contract H enc W base args ds gs before hval hW hwt hS
set_option maxRecDepth 100000 in
theorem facts : ((Rows.fetchHopsRow.inPlace == Tryz.pinned.checked.prog.inPlace 3) && (Rows.fetchHopsRow.unfollowed == Tryz.pinned.checked.prog.unfollowed 3) && (Rows.fetchHopsRow.recurses == Tryz.pinned.checked.prog.recurses 3) && (Rows.fetchHopsRow.named == Tryz.pinned.checked.prog.varsNamed 3)) = true := by kernel_rfl
set_option maxRecDepth 100000 in
set_option maxHeartbeats 20000000 in
theorem joined : joinedFacts Tryz.pinned.checked.prog 3 Tryz.f3 (OpenSpec.ofChange Rows.fetchHopsSpec).bare Rows.fetchHopsRow = true := by
  unfold joinedFacts
  simp only [Bool.and_eq_true]
  repeat' apply And.intro
  · as_aux_lemma => kernel_rfl
  · exact laidOut
  · exact pf_maps
  · as_aux_lemma => kernel_rfl
  · as_aux_lemma => kernel_rfl
  · as_aux_lemma => kernel_rfl
  · exact pf_stops
  · as_aux_lemma => kernel_rfl
  · exact pf_knobs
  · exact (and4 facts).1.1
  · exact (and4 facts).1.2
  · exact (and4 facts).2.1
  · exact (and4 facts).2.2
  · as_aux_lemma => kernel_rfl
  · as_aux_lemma => kernel_rfl
  · as_aux_lemma => kernel_rfl
  · as_aux_lemma => kernel_rfl
  · as_aux_lemma => kernel_rfl
  · as_aux_lemma => kernel_rfl
  · as_aux_lemma => kernel_rfl
  · as_aux_lemma => kernel_rfl
  · as_aux_lemma => kernel_rfl
  · exact pf_keys
  · as_aux_lemma => kernel_rfl
  · exact pf_heard
  · exact pf_may
  · exact pf_lifts
  · exact pf_make
  · as_aux_lemma => kernel_rfl
  · as_aux_lemma => kernel_rfl
  · as_aux_lemma => kernel_rfl
  · as_aux_lemma => kernel_rfl
theorem wrapper : Func.isWrapper Tryz.pinned.checked.prog Tryz.f3 (Rows.fetchHopsRow).wrapper (Rows.fetchHopsRow).mainSum := by
  unfold Func.isWrapper; first | (rw [if_pos (by decide +kernel)]; kernel_rfl) | (rw [if_neg (by decide +kernel)]; exact ⟨rfl, rfl⟩)
theorem said : Rows.FetchHopsSaid :=
  OpenClaim.holds_of_cond 3 Tryz.f3 rfl rfl rfl rfl rfl rfl rfl ⟨rfl, rfl, rfl, rfl, rfl⟩ rfl rfl rfl rfl rfl (by as_aux_lemma => kernel_rfl) Tryz.func3 joined
    (of_decide_eq_true (by as_aux_lemma => kernel_rfl)) wrapper
    (fun os started H enc _ F => by rw [OpenClaim.pre_eq_preRow]; exact lifted os started H enc F)
theorem plain (f : FuncId) (fn : Func) (hf : Tryz.pinned.checked.prog.funcNamed "webfinger/webfingerlaw26.FetchHops" = some f) (hfn : Tryz.pinned.checked.prog.funcs[f]? = some fn) :
    false = Tryz.pinned.checked.prog.looks [] ∧ ∀ (j : Nat) t, fn.params[j]? = some t → Tryz.pinned.checked.prog.wantsStandIn t = false := by
  obtain rfl : f = 3 := Option.some.inj ((show Tryz.prog.funcNamed "webfinger/webfingerlaw26.FetchHops" = some 3 by kernel_rfl).symm.trans hf) |>.symm
  obtain rfl : fn = Tryz.f3 := (Option.some.inj (Tryz.func3.symm.trans hfn)).symm
  refine ⟨pf_looks, fun j t ht => ?_⟩
  rw [Tryz.params3] at ht
  have hm := Array.mem_of_getElem? ht
  have hw : ∀ t ∈ ([5, 22, 5] : List TypeId), Tryz.prog.wantsStandIn t = false := by
    intro t ht
    simp only [List.mem_cons, List.not_mem_nil, or_false] at ht
    rcases ht with rfl | rfl | rfl
    · kernel_rfl
    · kernel_rfl
    · kernel_rfl
  exact hw t (by simpa using hm)
theorem proved : Rows.FetchHopsCardSaid :=
  Claim7.holds_tied_plain_at .later [] _ _ _ _ said (fun _ h => by cases h) (by as_aux_lemma => kernel_rfl) (fun _ h => by cases h) fetchHops_row_tie rfl ⟨rfl, rfl⟩ (by as_aux_lemma => kernel_rfl) rfl plain (by as_aux_lemma => kernel_rfl)
#print axioms proved
end Go.Proofs.YtfmafmgbfamaiaaGreatDoor.fetchHops
