/- A calculus of conditions: the reckoned conditions are sound. -/
import Derived.Test.YtkebjbphjnpjeaaVc11
set_option linter.all false
namespace Vc
open Go Go.RowKit Wf
section
variable {V : Cx} {F : Fx V}
/-- What is asked behind a list of items. -/
def Qit (F : Fx V) (Qf : Exit → Act → World → Prop) : List Item → Exit → Act → World → Prop
  | [] => Qf
  | .code c :: k => Exit.then (c.wp V.P (Qit F Qf k)) (Qit F Qf k)
  | .ops ops l :: k => Exit.then (wpList V.P ops (Qit F Qf k) l) (Qit F Qf k)
  | .dops _ _ _ :: k => Exit.then (fun _ _ => True) (Qit F Qf k)
  | .endb id :: k => Exit.inBlock id (Qit F Qf k)
  | .endl I μ m :: k => Exit.then (fun a w => ∃ σ, I σ ∧ μ σ < m ∧ Rel F σ a w) (Qit F Qf k)
theorem Qit_exit {Qf : Exit → Act → World → Prop} {id : Nat} {a : Act} {w : World} : ∀ {k k' : List Item}, exitIt id k = some k' → Qit F Qf k' .normal a w → Qit F Qf k (.exit id) a w
  | [], k', h, _ => by simp [exitIt] at h
  | .code c :: k, k', h, hq => by simp only [exitIt] at h; exact Qit_exit (k := k) h hq
  | .ops ops l :: k, k', h, hq => by simp only [exitIt] at h; exact Qit_exit (k := k) h hq
  | .endl _ _ _ :: k, k', h, hq => by simp only [exitIt] at h; exact Qit_exit (k := k) h hq
  | .dops _ _ _ :: k, k', h, hq => by simp only [exitIt] at h; exact Qit_exit (k := k) h hq
  | .endb id' :: k, k', h, hq => by
    simp only [exitIt] at h
    show Exit.inBlock id' (Qit F Qf k) (.exit id) a w
    split at h
    · rename_i e
      cases h
      simp only [Exit.inBlock, if_pos e.symm]
      exact hq
    · rename_i e
      simp only [Exit.inBlock, if_neg (fun q => e (Eq.symm q))]
      exact Qit_exit (k := k) h hq
theorem Qit_ret {Qf : Exit → Act → World → Prop} {a : Act} {w : World} (hq : Qf .ret a w) : ∀ (k : List Item), Qit F Qf k .ret a w
  | [] => hq
  | .code c :: k => Qit_ret hq k
  | .ops ops l :: k => Qit_ret hq k
  | .endl _ _ _ :: k => Qit_ret hq k
  | .dops _ _ _ :: k => Qit_ret hq k
  | .endb id' :: k => Qit_ret hq k
theorem holds_of_cont {E : Fin} {n f : Nat} {ops : Array Oper} {r : List Oper} {k : List Item} {s : StepR} (h : contV V n E f ops r k s) : HoldsR V (fun σ => vcS V n E f (.ops ops r :: k) σ) s := by
  cases s <;> simp only [contV] at h
  · exact h
  · unfold callV at h; exact h
theorem vcS_sound {E : Fin} {Qf : Exit → Act → World → Prop} (hn : ∀ σ a w, endV V E σ (ressS V σ E.rs) → Rel F σ a w → Qf .normal a w) (hret : ∀ σ a w, endV V E σ (ressS V σ E.rs) → Rel F σ a w → Qf .ret a w) :
    ∀ (f : Nat) (items : List Item) (σ : St), vcS V F.n E f items σ → ∀ a w, Rel F σ a w → Qit F Qf items .normal a w := by
  intro f
  induction f using Nat.strongRecOn with
  | _ f0 ihs =>
  cases f0 with
  | zero => intro items σ h; cases items <;> simp [vcS] at h
  | succ f =>
    have ih : ∀ (items : List Item) (σ : St), vcS V F.n E f items σ → ∀ a w, Rel F σ a w → Qit F Qf items .normal a w := ihs f (Nat.lt_succ_self _)
    have step : ∀ (ops : Array Oper) (o : Oper) (r : List Oper) (k : List Item) (σ : St) (a : Act) (w : World), fits F.n o.dst = true → contV V F.n E f ops r k (stepO V o.dst o.op σ) → Rel F σ a w →
        o.wp V.P a w (wpList V.P ops (Qit F Qf k) r) (Qit F Qf k) := fun ops o r k σ a w hfit h hr => by
      refine Oper.wp_mono (fun a w ⟨σ', h1, h2⟩ => ?_) (stepO_sound (F := F) hfit (holds_of_cont h) hr o.type o.pos o.after o.guard _)
      exact ih (.ops ops r :: k) σ' h1 a w h2
    intro items σ h a w hr
    match items with
    | [] => simp only [vcS] at h; exact hn σ a w h hr
    | .endb id :: k => simp only [vcS] at h; exact ih k σ h a w hr
    | .endl I μ m :: k => simp only [vcS] at h; exact ⟨σ, h.1, h.2, hr⟩
    | .dops ops l rs :: k => exact trivial
    | .ops ops [] :: k => simp only [vcS] at h; exact ih k σ h a w hr
    | .ops ops (⟨dst, op, ty, pos, after, none⟩ :: r) :: k =>
      simp only [vcS] at h
      show wpList V.P ops (Qit F Qf k) (⟨dst, op, ty, pos, after, none⟩ :: r) a w
      unfold wpList
      rw [if_pos (by simp [Region.wanted])]
      exact .inl (step ops ⟨dst, op, ty, pos, after, none⟩ r k σ a w h.1 h.2 hr)
    | .ops ops (⟨dst, op, ty, pos, after, some (j, want)⟩ :: r) :: k =>
      simp only [vcS] at h
      obtain ⟨hfit, h⟩ := h
      show wpList V.P ops (Qit F Qf k) (⟨dst, op, ty, pos, after, some (j, want)⟩ :: r) a w
      cases hg : gvalD σ.t (gdst ops.toList j) with
      | none =>
        cases hu : gvU σ.t (gdst ops.toList j) with
        | false => rw [hg, hu] at h; simp [guardV] at h
        | true =>
          rw [hg, hu] at h
          simp only [guardV] at h
          obtain ⟨d, x, hgd, hlk, hno⟩ := gvU_at hu
          obtain ⟨β, fp, hf, hw⟩ := hr
          have hy := gvU_ok (hf.ok β (Agr.refl _ _)) hgd hlk hno
          unfold wpList
          rw [if_neg (by simp [Region.wanted, hy])]
          exact ih (.ops ops r :: k) _ h _ w ⟨β, fp, hf.put hfit (fun _ _ => rfl), hw⟩
      | some p =>
        obtain ⟨d, b⟩ := p
        rw [hg] at h
        simp only [guardV] at h
        obtain ⟨hd, h1, h2⟩ := h
        obtain ⟨β, fp, hf, hw⟩ := hr
        obtain ⟨hy, hv⟩ := gvalD_ok (hf.ok β (Agr.refl _ _)) hg
        unfold wpList
        by_cases hb : b = want
        · subst hb
          rw [if_pos (by simp [Region.wanted, hy])]
          exact .inl (step ops ⟨dst, op, ty, pos, after, some (j, b)⟩ r k _ a w hfit (h1 rfl) ⟨β, fp, hf.relit (fun _ _ => hv), hw⟩)
        · have hb' : b = !want := by cases b <;> cases want <;> simp at hb ⊢
          rw [if_neg (by simp [Region.wanted, hy, hb])]
          exact ih (.ops ops r :: k) _ (h2 hb') _ w ⟨β, fp, (hf.relit (x := .bool (!want)) (fun _ _ => by rw [← hb']; exact hv)).put hfit (fun _ _ => rfl), hw⟩
    | .code c :: k =>
      show c.wp V.P (Qit F Qf k) a w
      cases c with
      | skip => simp only [vcS] at h; exact wp_skip (ih k σ h a w hr)
      | region id ops draw =>
        cases draw
        · simp only [vcS] at h
          exact wp_region_list (ih (.ops ops ops.toList :: k) σ h a w hr)
        · simp only [vcS] at h
          obtain ⟨β, fp, hf, hw⟩ := hr
          cases f with
          | zero => simp [vcS] at h
          | succ f1 =>
          have hlex : Lex F β fp ops σ.b.length a σ.b [] (fun _ => σ.t) σ := ⟨fun i hi => by
            have : i = 0 := by simpa using hi
            subst this; exact hf, fun i hi => by simp at hi, fun i j off ys hs => by simp [rec0] at hs, rfl, rfl, rfl, BxAgr.of_wd hw⟩
          obtain ⟨f', recs, T, σ', hlt, hlen, hl, hok, hv⟩ := lex_run (f1 + 1) ops.toList [] [] (fun _ => σ.t) σ (by simp) rfl hlex h
          refine draw_ok (recs := recs) (m := σ.b.length) T rfl (fun i hi => hl.fm i (by omega)) (fun i hi => hl.op i (by omega)) hl.st hlen hok hw (fun a' w' hfm hwd => ?_)
          rw [← hlen] at hfm hwd
          rw [hl.t] at hfm
          rw [hl.b] at hwd
          exact ihs f' (by omega) k σ' hv a' w' ⟨β, fp, by rw [hl.len]; exact hfm, hwd⟩
      | seq x y => simp only [vcS] at h; exact wp_seq (ih (.code x :: .code y :: k) σ h a w hr)
      | cond c x y =>
        simp only [vcS] at h
        cases hb : ev σ.t c with
        | none => rw [hb] at h; simp [condV] at h
        | some v =>
          rw [hb] at h
          cases v <;> simp only [condV] at h
          rename_i b
          obtain ⟨β, fp, hf, hw⟩ := hr
          exact wp_cond_split (t := b) ((hf.ev hb (Agr.refl _ β)).trans rfl) (fun e => ih (.code x :: k) σ (h.1 e) a w ⟨β, fp, hf, hw⟩) (fun e => ih (.code y :: k) σ (h.2 e) a w ⟨β, fp, hf, hw⟩)
      | block id x => simp only [vcS] at h; exact wp_block (ih (.code x :: .endb id :: k) σ h a w hr)
      | exit id =>
        simp only [vcS] at h
        cases hx : exitIt id k with
        | none => rw [hx] at h; simp [exitV] at h
        | some k' =>
          rw [hx] at h
          simp only [exitV] at h
          exact wp_exit (Qit_exit hx (ih k' σ h a w hr))
      | ret => simp only [vcS] at h; exact wp_ret (Qit_ret (hret σ a w h hr) k)
      | loop x =>
        simp only [vcS, loopV] at h
        obtain ⟨I, μ, h0, hround⟩ := h
        classical
        let S : Act → World → Nat → Prop := fun a w n => ∃ σ, μ σ = n ∧ I σ ∧ Rel F σ a w
        let m : Act → World → Nat := fun a w => if h : ∃ n, S a w n then Classical.choose (least h) else 0
        refine wp_loop (fun a w => ∃ n, S a w n) m ⟨μ σ, σ, rfl, h0, hr⟩ (fun a w hI => ?_)
        have hm : m a w = Classical.choose (least hI) := dif_pos hI
        obtain ⟨σ', hμ, hI', hr'⟩ := (Classical.choose_spec (least hI)).1
        refine wp_mono (ih (.code x :: .endl I μ (μ σ') :: k) σ' (hround σ' hI') a w hr') ?_
        intro e a2 w2 h2
        cases e with
        | normal =>
          obtain ⟨σ2, h3, h4, hr2⟩ := h2
          have hS : ∃ n, S a2 w2 n := ⟨μ σ2, σ2, rfl, h3, hr2⟩
          refine ⟨hS, ?_⟩
          have hm2 : m a2 w2 = Classical.choose (least hS) := dif_pos hS
          have := (Classical.choose_spec (least hS)).2 _ ⟨σ2, rfl, h3, hr2⟩
          rw [hm, hm2]
          omega
        | _ => exact h2
      | _ => simp [vcS] at h
/-- From the conditions of the body to the call. -/
theorem sc_of {f : FuncId} {fn : Func} {c : Code} {args : List SV} {bs : List Res} {R : SV → List Res → Prop} {n : Nat} {rs : Array ResultVar} (fuel : Nat) (hf : V.P.funcs[f]? = some fn) (hb : fn.body = some c) (hn : fn.ntmps = n) (hr : fn.results = rs) (hent : Enters V f)
    (hlen : args.length ≤ n) (hsc : ∀ β β', Agr bs.length β β' → concL β args = concL β' args) (h : vcS V n ⟨rs.toList, R⟩ fuel [.code c] ⟨initT 0 args, bs⟩) : SC V f args bs R := by
  refine sc_core hf hb hn hr hent hlen hsc (fun F hF a w hrel => ?_)
  subst hF
  refine vcS_sound (Qf := Qof F (kret V rs.toList R)) (fun σ a w h hr => ⟨σ, ?_, hr⟩) (fun σ a w h hr => ⟨σ, ?_, hr⟩) fuel [.code c] ⟨initT 0 args, bs⟩ h a w hrel
  all_goals
    simp only at h
    cases hl : ressS V σ rs.toList with
    | none => rw [hl] at h; simp [endV] at h
    | some l => rw [hl] at h; simp only [kret, hl]; exact h
theorem pc_of {f : FuncId} {fn : Func} {c : Code} {args : List SV} {r : SV} {n : Nat} {rs : Array ResultVar} (fuel : Nat) (hf : V.P.funcs[f]? = some fn) (hb : fn.body = some c) (hn : fn.ntmps = n) (hr : fn.results = rs) (hent : Enters V f)
    (hlen : args.length ≤ n) (fa : flat.flatL args = true) (fr : flat r = true) (h : vcS V n ⟨rs.toList, fun r' _ => r' = r⟩ fuel [.code c] ⟨initT 0 args, []⟩) : PC V f args r :=
  pc_of_sc fa fr (sc_of fuel hf hb hn hr hent hlen (fun β β' _ => concL_flat args fa β β') h)
theorem callV_pc {E : Fin} {n f : Nat} {ops : Array Oper} {r : List Oper} {k : List Item} {g : FuncId} {args : List SV} {dst : Option Tmp} {σ : St} {x : SV} (h : PC V g args x) (h2 : vcS V n E f (.ops ops r :: k) ⟨put dst x σ.t, σ.b⟩) : callV V n E f ops r k g args dst σ := by
  unfold callV; exact .inl ⟨x, h, h2⟩
theorem callV_sc {E : Fin} {n f : Nat} {ops : Array Oper} {r : List Oper} {k : List Item} {g : FuncId} {args : List SV} {dst : Option Tmp} {σ : St} {R : SV → List Res → Prop} (h : SC V g args σ.b R) (h2 : ∀ x bs, R x bs → vcS V n E f (.ops ops r :: k) ⟨put dst x σ.t, bs⟩) : callV V n E f ops r k g args dst σ := by
  unfold callV; exact .inr ⟨R, h, h2⟩
theorem callD_pc {E : Fin} {n f : Nat} {ops : Array Oper} {r : List Oper} {rs : List (Option (Bool × Nat × Nat × Nat))} {k : List Item} {g : FuncId} {args : List SV} {dst : Option Tmp} {σ : St} {x : SV} (h : PC V g args x) (h2 : vcS V n E f (.dops ops r (rs ++ [none]) :: k) ⟨put dst x σ.t, σ.b⟩) : callD V n E f ops r rs k dst σ g args := by
  unfold callD; exact ⟨x, h, h2⟩
theorem loopV_mk {E : Fin} {n f : Nat} {x : Code} {k : List Item} {σ : St} (I : St → Prop) (μ : St → Nat) (h0 : I σ) (h : ∀ σ', I σ' → vcS V n E f (.code x :: .endl I μ (μ σ') :: k) σ') : loopV V n E f x k σ := by
  unfold loopV; exact ⟨I, μ, h0, h⟩
end
end Vc
