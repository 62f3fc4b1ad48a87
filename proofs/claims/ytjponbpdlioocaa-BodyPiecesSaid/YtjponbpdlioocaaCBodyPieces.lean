/- For every input: BodyPieces returns true. No conditions. -/
import Derived.Test.YtjponbpdlioocaaFrame
import Derived.Test.YtjponbpdlioocaaProgF
import Derived.Test.YtjponbpdlioocaaSlRows
import Derived.Test.YtjponbpdlioocaaLaw19p
set_option linter.all false
namespace Go.Proofs.Ytjponbpdlioocaa.bodyPieces
open Go Vc Go.RowKit Wf
open Go.ChangeShapes Go.WideShapes Go.ChangeAt
open Go.WideMaps Go.WideElems
open Go.ChangeMaps (setBlock shut_map_nil open_string shut_string keptBut_setBlock frozen?_setBlock heap_setBlock_same)
set_option maxRecDepth 100000 in
theorem contract (H : Type) (enc : TypeId × Value → H) (W : World) (base : Nat) (args : Array Value) (ds gs : List (DataW H)) (before : List MemPlace)
    (hval : ∀ (j : Nat) t v, Try.f3.params[j]? = some t → args[j]? = some v → Value.okWide Try.prog W .any base t v)
    (hW : DataW.Whole enc Try.prog Try.f3.params.toList Rows.bodyPiecesSpec.vars false W args.toList ds gs before) (hwt : (DataW.weightsEach Try.prog (Try.f3.params.toList ++ (OpenSpec.ofChange Rows.bodyPiecesSpec).bare.plain.varTypes Try.prog) (ds ++ gs)).all (· ≤ reachBytes) = true) (hS : W.ShapedOpen Try.prog) :
    Calls Try.prog 3 args W fun e W' => ∃ v, e = .returned v ∧ Rows.bodyPiecesSpec.post enc Try.prog Try.f3 false true false false W args v W' := by
  have hW' := hW
  obtain ⟨p, q, hA0, hV, rfl, hfz, hnd⟩ := hW
  have hA : DataW.TrodAll enc Try.prog W 0 (fun _ => true) true Try.f3.params.toList args.toList ds p := hA0
  rw [Try.params3] at hA hval hwt
  obtain ⟨v0, vs0, d0, ds0, p0, q0, hargs, rfl, rfl, h0, r0⟩ := trodAll_cons hA
  obtain ⟨v1, vs1, d1, ds1, p1, q1, rfl, rfl, rfl, h1, r1⟩ := trodAll_cons r0
  obtain ⟨v2, vs2, d2, ds2, p2, q2, rfl, rfl, rfl, h2, r2⟩ := trodAll_cons r1
  obtain ⟨rfl, rfl, rfl⟩ := trodAll_nil r2
  obtain rfl : args = #[v0, v1, v2] := by cases args; simp_all
  obtain ⟨rfl, rfl⟩ := trodVars_none hV
  obtain ⟨sa0, sl0, sc0, rfl⟩ := okWide_slice Try.underlying22 (hval 0 22 v0 rfl rfl)
  obtain ⟨fu0, hf0⟩ := h0
  simp only [Value.cells] at hf0
  obtain ⟨tb0, L0, e0, hl0, hd0, hH0, hB0⟩ := open_rows (ρ := Bytes) [] sc1 (fun r : Bytes => .lit (.string r)) (fun r => by simp [flat, flat.flatL, sc1]) Try.underlying22 (s := 1) (by kernel_rfl) (fun _ _ _ hx => by obtain ⟨⟨⟨a⟩⟩, rfl, rfl, -⟩ := DataW.trod_string Try.underlying9 hx; exact ⟨a, by simp [concL, conc, sc1], rfl⟩) (ok_cell Try.underlying22 (hval 0 22 _ rfl rfl)) hf0
  have ee0 : Value.slice sa0 sl0 sc0 = oV tb0 L0.length := e0
  obtain ⟨a1, rfl, rfl, rfl⟩ := open_bool Try.underlying4 (hval 1 4 v1 rfl rfl) h1
  obtain ⟨a2, rfl, rfl, rfl⟩ := open_bool Try.underlying4 (hval 2 4 v2 rfl rfl) h2
  simp only [List.append_nil] at hwt
  have hw0 : ∀ r ∈ L0, r.length ≤ 140737488355328 := fun r hr => Nat.le_trans (of_decide_eq_true (List.all_eq_true.1 hwt _ (DataW.weights_mem_each (j := 0) (t := 22) rfl rfl _ (weights_rows Try.underlying22 hd0 hr (by simp [DataW.weights, DataW.weightsEach, Try.underlying9]))))) (by decide)
  have hlaw := SC.law (l := ([(tb0, .own (L0.flatMap sc1) 9 1 L0.length false)] : List (Bt × Res))) (s_BodyPieces L0 a1 a2 hl0) (env_of hS) (by
    intro x hx
    simp only [List.mem_cons, List.not_mem_nil, or_false] at hx
    rcases hx with rfl
    · exact ⟨rfl, hH0, hB0⟩
    )
  have hc : (#[.slice sa0 sl0 sc0, .bool a1, .bool a2] : Array Value) = (concL (fun i => ((([(tb0, .own (L0.flatMap sc1) 9 1 L0.length false)] : List (Bt × Res))[i]?).map (·.1)).getD (bt0 0)) [.o 0 L0.length, .bool a1, .bool a2]).toArray := by simp [concL, conc, ee0]
  rw [hc]
  refine hlaw.mono fun e W' ⟨he, bel⟩ => ?_
  subst he
  rw [← hc]
  exact ⟨_, rfl, law_post laidOut (by kernel_rfl) rfl rfl Try.underlying4 rfl rfl rfl rfl hW' bel⟩
noncomputable def world (os : Os) : World := World.holding Try.prog os ⟨#[], #[], []⟩
theorem reads (os : Os) {H : Type} (enc : TypeId × Value → H) : ∃ places, DataW.whole enc Try.prog ((world os).forCall (fun _ _ => 0) ⟨#[], (#[.slice none 0 0, .bool false, .bool false] : Array Value), []⟩).memory Try.f3.params.toList Rows.bodyPiecesSpec.vars false (#[.slice none 0 0, .bool false, .bool false] : Array Value).toList 8 = some ([.nil, .lit (.bool false), .lit (.bool false)], [], places) :=
  ⟨[], by kernel_rfl⟩
set_option maxRecDepth 100000 in
theorem lifted (os : Os) (started : os.Started) (H : Type) (enc : TypeId × Value → H) (F : Stop.Interp) :
    ReturnsInHanded {} Try.checked os 3 .any ((OpenSpec.ofChange Rows.bodyPiecesSpec).preRow enc Try.prog Try.f3 Rows.bodyPiecesRow.domain false Rows.bodyPiecesRow.laid) (((OpenSpec.ofChange Rows.bodyPiecesSpec).at F).post enc Try.prog Try.f3 false true false false) := by
  obtain ⟨places, hx⟩ := reads os enc
  refine returnsInHanded_of_row (C := Try.checked) (s := OpenSpec.ofChange Rows.bodyPiecesSpec) own started (by kernel_rfl) Try.func3
    (witness_row_at (enc := enc) (C := Try.checked) false (world os) (#[.slice none 0 0, .bool false, .bool false] : Array Value) rfl (by kernel_rfl) (by kernel_rfl) (by kernel_rfl)
      (OpenSpec.preRow_of_cond 8 hx (by kernel_rfl) (fun k hk => by cases hk) (by kernel_rfl) (laid_none _ _))) ?_
  intro W base args ds gs before hval hW _ hcond hwt _ hS _
  exact contract H enc W base args ds gs before hval hW hwt hS
set_option maxRecDepth 100000 in
theorem facts : ((Rows.bodyPiecesRow.inPlace == Try.pinned.checked.prog.inPlace 3) && (Rows.bodyPiecesRow.unfollowed == Try.pinned.checked.prog.unfollowed 3) && (Rows.bodyPiecesRow.recurses == Try.pinned.checked.prog.recurses 3) && (Rows.bodyPiecesRow.named == Try.pinned.checked.prog.varsNamed 3)) = true := by kernel_rfl
set_option maxRecDepth 100000 in
set_option maxHeartbeats 20000000 in
theorem joined : joinedFacts Try.pinned.checked.prog 3 Try.f3 (OpenSpec.ofChange Rows.bodyPiecesSpec).bare Rows.bodyPiecesRow = true := by
  unfold joinedFacts
  simp only [Bool.and_eq_true]
  repeat' apply And.intro
  · as_aux_lemma => kernel_rfl
  · exact laidOut
  · exact pf_maps
  · as_aux_lemma => kernel_rfl
  · as_aux_lemma => kernel_rfl
  · as_aux_lemma => kernel_rfl
  · exact pf_stops
  · as_aux_lemma => kernel_rfl
  · exact pf_knobs
  · exact (and4 facts).1.1
  · exact (and4 facts).1.2
  · exact (and4 facts).2.1
  · exact (and4 facts).2.2
  · as_aux_lemma => kernel_rfl
  · as_aux_lemma => kernel_rfl
  · as_aux_lemma => kernel_rfl
  · as_aux_lemma => kernel_rfl
  · as_aux_lemma => kernel_rfl
  · as_aux_lemma => kernel_rfl
  · as_aux_lemma => kernel_rfl
  · as_aux_lemma => kernel_rfl
  · as_aux_lemma => kernel_rfl
  · exact pf_keys
  · as_aux_lemma => kernel_rfl
  · exact pf_heard
  · exact pf_may
  · exact pf_lifts
  · exact pf_make
  · as_aux_lemma => kernel_rfl
  · as_aux_lemma => kernel_rfl
  · as_aux_lemma => kernel_rfl
  · as_aux_lemma => kernel_rfl
theorem wrapper : Func.isWrapper Try.pinned.checked.prog Try.f3 (Rows.bodyPiecesRow).wrapper (Rows.bodyPiecesRow).mainSum := by
  unfold Func.isWrapper; first | (rw [if_pos (by decide +kernel)]; kernel_rfl) | (rw [if_neg (by decide +kernel)]; exact ⟨rfl, rfl⟩)
theorem proved : Rows.BodyPiecesSaid :=
  OpenClaim.holds_of_cond 3 Try.f3 rfl rfl rfl rfl rfl rfl rfl ⟨rfl, rfl, rfl, rfl, rfl⟩ rfl rfl rfl rfl rfl (by as_aux_lemma => kernel_rfl) Try.func3 joined
    (of_decide_eq_true (by as_aux_lemma => kernel_rfl)) wrapper
    (fun os started H enc _ F => by rw [OpenClaim.pre_eq_preRow]; exact lifted os started H enc F)
#print axioms proved
end Go.Proofs.Ytjponbpdlioocaa.bodyPieces
