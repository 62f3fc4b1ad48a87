/- For every input: UriExamples returns true. No conditions. -/
import Derived.Test.YtkebjbphjnpjeaaFrame
import Derived.Test.YtkebjbphjnpjeaaLaw06e
set_option linter.all false
namespace Go.Proofs.Ytkebjbphjnpjeaa.uriExamples
open Go Vc Go.RowKit Wf
open Go.ChangeShapes Go.WideShapes Go.ChangeAt
open Go.WideMaps Go.WideElems
open Go.ChangeMaps (setBlock shut_map_nil open_string shut_string keptBut_setBlock frozen?_setBlock heap_setBlock_same)
theorem contract (H : Type) (enc : TypeId × Value → H) (W : World) (base : Nat) (args : Array Value) (ds gs : List (DataW H)) (before : List MemPlace)
    (hval : ∀ (j : Nat) t v, Try.f10.params[j]? = some t → args[j]? = some v → Value.okWide Try.prog W .any base t v)
    (hW : DataW.Whole enc Try.prog Try.f10.params.toList Rows.uriExamplesSpec.vars false W args.toList ds gs before) (hS : W.ShapedOpen Try.prog) :
    Calls Try.prog 10 args W fun e W' => ∃ v, e = .returned v ∧ Rows.uriExamplesSpec.post enc Try.prog Try.f10 false true false false W args v W' := by
  have hW' := hW
  obtain ⟨p, q, hA0, hV, rfl, hfz, hnd⟩ := hW
  have hA : DataW.TrodAll enc Try.prog W 0 (fun _ => true) true Try.f10.params.toList args.toList ds p := hA0
  rw [Try.params10] at hA hval
  obtain ⟨hargs, rfl, rfl⟩ := trodAll_nil hA
  obtain rfl : args = #[] := by cases args; simp_all
  obtain ⟨rfl, rfl⟩ := trodVars_none hV
  have hc : (#[] : Array Value) = (concL bt0 []).toArray := by simp [concL, conc]
  rw [hc]
  refine ((p_law06_UriExamples).calls W (env_of hS)).mono fun e W' ⟨he, bel⟩ => ?_
  subst he
  rw [← hc]
  exact ⟨_, rfl, law_post laidOut (by kernel_rfl) rfl rfl Try.underlying4 rfl rfl rfl rfl hW' bel⟩
noncomputable def world (os : Os) : World := World.holding Try.prog os ⟨#[], #[], []⟩
theorem reads (os : Os) {H : Type} (enc : TypeId × Value → H) : ∃ places, DataW.whole enc Try.prog ((world os).forCall (fun _ _ => 0) ⟨#[], (#[] : Array Value), []⟩).memory Try.f10.params.toList Rows.uriExamplesSpec.vars false (#[] : Array Value).toList 8 = some ([], [], places) :=
  ⟨[], by kernel_rfl⟩
set_option maxRecDepth 100000 in
theorem lifted (os : Os) (started : os.Started) (H : Type) (enc : TypeId × Value → H) (F : Stop.Interp) :
    ReturnsInHanded {} Try.checked os 10 .any ((OpenSpec.ofChange Rows.uriExamplesSpec).preRow enc Try.prog Try.f10 Rows.uriExamplesRow.domain false Rows.uriExamplesRow.laid) (((OpenSpec.ofChange Rows.uriExamplesSpec).at F).post enc Try.prog Try.f10 false true false false) := by
  obtain ⟨places, hx⟩ := reads os enc
  refine returnsInHanded_of_row (C := Try.checked) (s := OpenSpec.ofChange Rows.uriExamplesSpec) own started (by kernel_rfl) Try.func10
    (witness_row_at (enc := enc) (C := Try.checked) false (world os) (#[] : Array Value) rfl (by kernel_rfl) (by kernel_rfl) (by kernel_rfl)
      (OpenSpec.preRow_of_cond 8 hx (by kernel_rfl) (fun k hk => by cases hk) (by kernel_rfl) (laid_none _ _))) ?_
  intro W base args ds gs before hval hW _ hcond _ _ hS _
  exact contract H enc W base args ds gs before hval hW hS
theorem proved : Rows.UriExamplesSaid :=
  OpenClaim.holds_of_cond 10 Try.f10 rfl rfl rfl rfl rfl rfl rfl ⟨rfl, rfl, rfl, rfl, rfl⟩ rfl rfl rfl rfl rfl (by kernel_rfl) Try.func10 (by kernel_rfl)
    (of_decide_eq_true (by kernel_rfl)) (by unfold Func.isWrapper; first | (rw [if_pos (by decide +kernel)]; kernel_rfl) | (rw [if_neg (by decide +kernel)]; exact ⟨rfl, rfl⟩))
    (fun os started H enc _ F => by rw [OpenClaim.pre_eq_preRow]; exact lifted os started H enc F)
#print axioms proved
end Go.Proofs.Ytkebjbphjnpjeaa.uriExamples
