/- A calculus of conditions: regions, code, calls. -/
import Derived.Test.YtkebjbphjnpjeaaVc3
set_option linter.all false
namespace Vc
open Go Go.RowKit Wf
theorem least {p : Nat → Prop} (h : ∃ n, p n) : ∃ n, p n ∧ ∀ k, p k → n ≤ k := by
  obtain ⟨n, hn⟩ := h
  induction n using Nat.strongRecOn with
  | _ n ih =>
    by_cases h : ∃ k, k < n ∧ p k
    · obtain ⟨k, hk, hp⟩ := h
      exact ih k hk hp
    · exact ⟨n, hn, fun k hk => Nat.le_of_not_lt fun hlt => h ⟨k, hlt, hk⟩⟩
section
variable {V : Cx} {F : Fx V}
theorem gval_ok {ops : Array Oper} {σt : List (Nat × SV)} {β : Nat → Bt} {a : Act} (hf : FrOK β F.n σt a) {j d : Nat} {b : Bool} (h : gval (ops.toList.map (·.dst)) σt j = some (d, b)) :
    yielded ops a.tmps j = some b ∧ a.tmps.getD d undef = .bool b := by
  unfold gval at h
  split at h
  · rename_i d' hd
    split at h
    · rename_i b' hb
      cases h
      have hg := hf.get _ _ hb
      simp only [conc] at hg
      refine ⟨?_, hg⟩
      have hd' : (ops[j]?).bind (·.dst) = some d := by
        simp only [List.getElem?_map, Option.map_eq_some_iff] at hd
        obtain ⟨o, ho, hod⟩ := hd
        rw [show ops[j]? = some o by simpa using ho]
        simpa using hod
      have hlt : d < a.tmps.size := by
        rcases Nat.lt_or_ge d a.tmps.size with h' | h'
        · exact h'
        · simp [h'] at hg; cases hg
      unfold yielded
      rw [hd']
      simp [hlt] at hg ⊢
      rw [hg]
    · cases h
  · cases h
theorem Fm.relit {β : Nat → Bt} {m : Nat} {t : List (Nat × SV)} {a : Act} (h : Fm F β m t a) {d : Nat} {x : SV} (hx : ∀ β', Agr m β β' → a.tmps.getD d undef = conc β' x) : Fm F β m ((d, x) :: t) a :=
  ⟨fun β' hβ => ⟨(h.ok β' hβ).size, (h.ok β' hβ).defers, fun e y hy => by
    simp only [lk] at hy
    split at hy
    · rename_i he; subst he; cases hy; exact hx β' hβ
    · exact (h.ok β' hβ).get e y hy⟩⟩
theorem vcL_sound {ops : Array Oper} {Q : Exit → Act → World → Prop} : ∀ (l : List Oper) (σ : St) (K : St → Prop), vcL V F.n (ops.toList.map (·.dst)) l σ K → ∀ a w, Rel F σ a w → (∀ σ a w, K σ → Rel F σ a w → Q .normal a w) → wpList V.P ops Q l a w
  | [], σ, K, h, a, w, hr, hK => hK σ a w h hr
  | ⟨dst, op, ty, pos, after, none⟩ :: r, σ, K, h, a, w, hr, hK => by
    simp only [vcL] at h
    unfold wpList
    rw [if_pos (by simp [Region.wanted])]
    left
    exact Oper.wp_mono (fun a w ⟨σ', h1, h2⟩ => vcL_sound r σ' K h1 a w h2 hK) (vcO_sound h hr ⟨dst, op, ty, pos, after, none⟩ rfl rfl Q)
  | ⟨dst, op, ty, pos, after, some (j, want)⟩ :: r, σ, K, h, a, w, hr, hK => by
    simp only [vcL] at h
    split at h
    · rename_i d b hg
      obtain ⟨hd, hdst, h1, h2⟩ := h
      obtain ⟨β, fp, hf, hw⟩ := hr
      obtain ⟨hy, hv⟩ := gval_ok (hf.ok β (Agr.refl _ _)) hg
      unfold wpList
      by_cases hb : b = want
      · subst hb
        rw [if_pos (by simp [Region.wanted, hy])]
        left
        exact Oper.wp_mono (fun a w ⟨σ', h1, h2⟩ => vcL_sound r σ' K h1 a w h2 hK) (vcO_sound (h1 rfl) ⟨β, fp, hf.relit (fun _ _ => hv), hw⟩ ⟨dst, op, ty, pos, after, some (j, b)⟩ rfl rfl Q)
      · have hb' : b = !want := by cases b <;> cases want <;> simp at hb ⊢
        rw [if_neg (by simp [Region.wanted, hy, hb])]
        exact vcL_sound r _ K (h2 hb') _ w ⟨β, fp, (hf.relit (x := .bool (!want)) (fun _ _ => by rw [← hb']; exact hv)).put hdst (fun _ _ => rfl), hw⟩ hK
    · cases h
theorem vc_sound : ∀ (c : Code) (σ : St) (K : Exit → St → Prop), vcC V F.n c σ K → ∀ a w, Rel F σ a w → c.wp V.P (Qof F K) a w := by
  intro c
  induction c with
  | skip => intro σ K h a w hr; exact wp_skip ⟨σ, h, hr⟩
  | region id ops draw =>
    intro σ K h a w hr
    simp only [vcC] at h
    obtain ⟨hd, h⟩ := h
    subst hd
    exact wp_region_list (vcL_sound ops.toList σ (K .normal) h a w hr (fun σ a w h hr => ⟨σ, h, hr⟩))
  | seq x y ihx ihy =>
    intro σ K h a w hr
    refine wp_seq (wp_mono (ihx σ _ h a w hr) ?_)
    rintro e a w ⟨σ', h', hr'⟩
    cases e with
    | normal => exact ihy σ' K h' a w hr'
    | _ => exact ⟨σ', h', hr'⟩
  | cond c x y ihx ihy =>
    intro σ K h a w hr
    simp only [vcC] at h
    split at h
    · rename_i b hb
      obtain ⟨β, fp, hf, hw⟩ := hr
      refine wp_cond_split (t := b) ((hf.ev hb (Agr.refl _ β)).trans rfl) (fun e => ihx σ K (h.1 e) a w ⟨β, fp, hf, hw⟩) (fun e => ihy σ K (h.2 e) a w ⟨β, fp, hf, hw⟩)
    · cases h
  | block id x ih =>
    intro σ K h a w hr
    refine wp_block (wp_mono (ih σ _ h a w hr) ?_)
    rintro e a w ⟨σ', h', hr'⟩
    cases e with
    | exit id' =>
      simp only [Exit.inBlock] at h' ⊢
      split
      · rename_i he; rw [if_pos he] at h'; exact ⟨σ', h', hr'⟩
      · rename_i he; rw [if_neg he] at h'; exact ⟨σ', h', hr'⟩
    | _ => exact ⟨σ', h', hr'⟩
  | loop x ih =>
    intro σ K h a w hr
    obtain ⟨I, μ, h0, hround⟩ := h
    classical
    let S : Act → World → Nat → Prop := fun a w n => ∃ σ, μ σ = n ∧ I σ ∧ Rel F σ a w
    let m : Act → World → Nat := fun a w => if h : ∃ n, S a w n then Classical.choose (least h) else 0
    refine wp_loop (fun a w => ∃ n, S a w n) m ⟨μ σ, σ, rfl, h0, hr⟩ (fun a w hI => ?_)
    have hm : m a w = Classical.choose (least hI) := dif_pos hI
    obtain ⟨σ', hμ, hI', hr'⟩ := (Classical.choose_spec (least hI)).1
    refine wp_mono (ih σ' _ (hround σ' hI') a w hr') ?_
    rintro e a2 w2 ⟨σ2, h2, hr2⟩
    cases e with
    | normal =>
      obtain ⟨h3, h4⟩ := h2
      have hS : ∃ n, S a2 w2 n := ⟨μ σ2, σ2, rfl, h3, hr2⟩
      refine ⟨hS, ?_⟩
      have hm2 : m a2 w2 = Classical.choose (least hS) := dif_pos hS
      have := (Classical.choose_spec (least hS)).2 _ ⟨σ2, rfl, h3, hr2⟩
      rw [hm, hm2]
      omega
    | _ => exact ⟨σ2, h2, hr2⟩
  | exit id => intro σ K h a w hr; exact wp_exit ⟨σ, h, hr⟩
  | ret => intro σ K h a w hr; exact wp_ret ⟨σ, h, hr⟩
  | _ => intro σ K h a w hr; exact absurd h (by simp [vcC])
/-- The results of a function. -/
def resS (V : Cx) (σ : St) : ResultVar → Option SV
  | .tmp t => lk t σ.t
  | .cell p T => match lk p σ.t with
    | some (.p i off) => match getB σ.b i with
      | some (c, _, _) => match V.Γ T with
        | some ti => if off + ti.size ≤ c.length then partS ti.agg off ti.size c else none
        | none => none
      | none => none
    | _ => none
def ressS (V : Cx) (σ : St) : List ResultVar → Option (List SV)
  | [] => some []
  | r :: rs => match resS V σ r with
    | some x => match ressS V σ rs with
      | some l => some (x :: l)
      | none => none
    | none => none
def tupS : List SV → SV
  | [x] => x
  | l => .tup l
/-- What is asked where the function ends. -/
def kret (V : Cx) (rs : List ResultVar) (K : SV → List Res → Prop) : Exit → St → Prop
  | .ret, σ => match ressS V σ rs with
    | some l => K (tupS l) σ.b
    | none => False
  | .normal, σ => match ressS V σ rs with
    | some l => K (tupS l) σ.b
    | none => False
  | _, _ => False
def resRun (tmps : Array Value) : ResultVar → Sem Value
  | .tmp t => pure (tmps.getD t undef)
  | .cell p t => do loadVar t (← asAddr (tmps.getD p undef))
theorem resS_ok {σ : St} {r : ResultVar} {x : SV} (h : resS V σ r = some x) {β : Nat → Bt} {fp : Nat → Nat → Prop} {a : Act} {w : World} (hf : Fm F β σ.b.length σ.t a) (hw : Wd F β fp σ.b w) {β' : Nat → Bt} (hβ : Agr σ.b.length β β') :
    Sem.run V.P (resRun a.tmps r) w = Result.ok (conc β' x) w := by
  cases r with
  | tmp t => simp only [resS] at h; simp only [resRun]; rw [(hf.ok β' hβ).get t x h]; rfl
  | cell p T =>
    simp only [resS] at h
    split at h
    · rename_i i off hp
      split at h
      · rename_i c T' m hg
        split at h
        · rename_i ti hT
          split at h
          · rename_i hl
            have := run_load (V := V) T ti hT h hl (hw.lies hg hβ)
            simp only [resRun]
            rw [(hf.ok β' hβ).get p _ hp]
            simpa [conc, asAddr, Instr.loadAt, Instr.sureAddr] using this
          · cases h
        · cases h
      · cases h
    · cases h
theorem ressS_ok {σ : St} {β : Nat → Bt} {fp : Nat → Nat → Prop} {a : Act} {w : World} (hf : Fm F β σ.b.length σ.t a) (hw : Wd F β fp σ.b w) {β' : Nat → Bt} (hβ : Agr σ.b.length β β') :
    ∀ (rs : List ResultVar) (l : List SV), ressS V σ rs = some l → (rs.mapM (resRun a.tmps)).run V.P w = Result.ok (concL β' l) w
  | [], l, h => by simp [ressS] at h; subst h; simp [concL]
  | r :: rs, l, h => by
    simp only [ressS] at h
    split at h
    · rename_i x hx
      split at h
      · rename_i l' hl
        cases h
        rw [List.mapM_cons, Sem.run_bind, resS_ok hx hf hw hβ, Result.andThen_ok, Sem.run_bind, ressS_ok hf hw hβ rs l' hl]
        rfl
      · cases h
    · cases h
theorem results_ok {fn : Func} {σ : St} {β : Nat → Bt} {fp : Nat → Nat → Prop} {a : Act} {w : World} (hf : Fm F β σ.b.length σ.t a) (hw : Wd F β fp σ.b w) {β' : Nat → Bt} (hβ : Agr σ.b.length β β') {l : List SV} (h : ressS V σ fn.results.toList = some l) :
    (results fn a.tmps).run V.P w = Result.ok (conc β' (tupS l)) w := by
  have := ressS_ok hf hw hβ fn.results.toList l h
  show Sem.run V.P (do
    let vs ← fn.results.mapM (resRun a.tmps)
    pure (if h : vs.size = 1 then vs[0] else .tuple vs)) w = _
  rw [Sem.run_bind, Array.mapM_eq_mapM_toList, Sem.run_map, this]
  simp only [Result.andThen_ok, Sem.run_pure]
  congr 1
  match l with
  | [] => simp [concL, tupS, conc]
  | [x] => simp [concL, tupS]
  | x :: y :: r => simp [concL, tupS, conc]
/-- The frame at the start. -/
def initT : Nat → List SV → List (Nat × SV)
  | _, [] => []
  | i, x :: r => (i, x) :: initT (i + 1) r
theorem initT_ok (β : Nat → Bt) : ∀ (as : List SV) (i d : Nat) (x : SV), lk d (initT i as) = some x → i ≤ d ∧ (concL β as)[d - i]? = some (conc β x)
  | [], i, d, x, h => by simp [initT, lk] at h
  | y :: r, i, d, x, h => by
    simp only [initT, lk] at h
    split at h
    · rename_i e; subst e; cases h; simp [concL]
    · have := initT_ok β r (i + 1) d x h
      refine ⟨by omega, ?_⟩
      rw [show d - i = (d - (i + 1)) + 1 by omega]
      simpa [concL] using this.2
theorem concL_length (β : Nat → Bt) (l : List SV) : (concL β l).length = l.length := by rw [concL_map]; simp
/-- Values whose places are among the first m. -/
def within (m : Nat) : SV → Bool
  | .p i _ => decide (i < m)
  | .o i _ => decide (i < m)
  | .agg l => withinL l
  | .tup l => withinL l
  | .fn _ l => withinL l
  | _ => true
where withinL : List SV → Bool
  | [] => true
  | x :: r => within m x && withinL r
mutual
theorem conc_within (m : Nat) (x : SV) (h : within m x = true) (β β' : Nat → Bt) (hb : Agr m β β') : conc β x = conc β' x := by
  cases x <;> simp only [within, decide_eq_true_eq] at h <;> simp only [conc]
  · rw [hb _ h]
  · rw [hb _ h]
  · rw [concL_within m _ h β β' hb]
  · rw [concL_within m _ h β β' hb]
  · rw [concL_within m _ h β β' hb]
theorem concL_within (m : Nat) (l : List SV) (h : within.withinL m l = true) (β β' : Nat → Bt) (hb : Agr m β β') : concL β l = concL β' l := by
  cases l with
  | nil => rfl
  | cons x r =>
    simp only [within.withinL, Bool.and_eq_true] at h
    simp only [concL]
    rw [conc_within m x h.1 β β' hb, concL_within m r h.2 β β' hb]
end
/-- From the conditions of the body to the call. -/
theorem sc_core {V : Cx} {f : FuncId} {fn : Func} {c : Code} {args : List SV} {bs : List Res} {R : SV → List Res → Prop} {n : Nat} {rs : Array ResultVar} (hf : V.P.funcs[f]? = some fn) (hb : fn.body = some c) (hn : fn.ntmps = n) (hr : fn.results = rs) (hent : Enters V f)
    (hlen : args.length ≤ n) (hsc : ∀ β β', Agr bs.length β β' → concL β args = concL β' args) (h : ∀ F : Fx V, F.n = n → ∀ a w, Rel F ⟨initT 0 args, bs⟩ a w → c.wp V.P (Qof F (kret V rs.toList R)) a w) : SC V f args bs R := by
  subst hn hr
  refine ⟨hent, fun β fp w hbx hG hE => ?_⟩
  let F : Fx V := ⟨fn.ntmps, w, fun k => ∃ i r, bs[i]? = some r ∧ r.mine = true ∧ fp i k, hE, fun k ⟨i, r, hi, hm, hk⟩ => hG i r hi hm k hk, β, bs⟩
  refine calls_of_wp hf hb ?_
  have hrel : Rel F ⟨initT 0 args, bs⟩ { tmps := (concL β args).toArray ++ Array.replicate (fn.ntmps - (concL β args).toArray.size) undef, defers := [] } w := by
    refine ⟨β, fp, ⟨fun β' hβ => ⟨by simp [concL_length, F]; omega, rfl, fun d x hd => ?_⟩⟩, ⟨FrW.refl _ _, hbx, fun i r hi hm k hk => .inr ⟨i, r, hi, hm, hk⟩, ⟨Agr.refl _ _, Nat.le_refl _⟩⟩⟩
    have h1 := (initT_ok β' args 0 d x hd).2
    rw [Nat.sub_zero] at h1
    rw [hsc β β' hβ]
    have hlt : d < (concL β' args).length := (List.getElem?_eq_some_iff.1 h1).1
    have h2 : ((concL β' args).toArray ++ Array.replicate (fn.ntmps - (concL β' args).toArray.size) undef)[d]? = some (conc β' x) := by
      rw [Array.getElem?_append_left (by simpa using hlt)]
      simpa using h1
    rw [Array.getD_eq_getD_getElem?, h2]
    rfl
  refine wp_mono (h F rfl _ w hrel) ?_
  rintro e a w' ⟨σ, hk, β₂, fp₂, hfm, hwd⟩
  have key : ∀ l, ressS V σ fn.results.toList = some l → R (tupS l) σ.b → a.defers = [] ∧ ∃ v, (results fn a.tmps).run V.P w' = Result.ok v w' ∧ (∃ r bs' β₂ fp₂, R r bs' ∧ Agr bs.length β β₂ ∧ bs.length ≤ bs'.length ∧ (∀ β', Agr bs'.length β₂ β' → Ending.returned v = .returned (conc β' r) ∧ BxOK β' fp₂ w' bs') ∧
      FrW (fun k => ∃ i r, bs[i]? = some r ∧ r.mine = true ∧ fp i k) w w' ∧
      (∀ i r', bs'[i]? = some r' → r'.mine = true → ∀ k, fp₂ i k → w.heap.size ≤ k ∨ ∃ j r, bs[j]? = some r ∧ r.mine = true ∧ fp j k)) := by
    intro l hl hR
    refine ⟨(hfm.ok β₂ (Agr.refl _ _)).defers, _, results_ok hfm hwd (Agr.refl _ β₂) hl, tupS l, σ.b, β₂, fp₂, hR, hwd.ini.agr, hwd.ini.len, fun β' hβ => ⟨?_, hwd.bx β' hβ⟩, hwd.fr, hwd.mine⟩
    have h1 := results_ok hfm hwd (Agr.refl _ β₂) hl
    rw [results_ok hfm hwd hβ hl] at h1
    injection h1 with h1
    rw [h1]
  cases e <;> simp only [kret] at hk
  case normal =>
    split at hk
    · rename_i l hl; exact key l hl hk
    · cases hk
  case ret =>
    split at hk
    · rename_i l hl; exact key l hl hk
    · cases hk
theorem pc_of_sc {V : Cx} {f : FuncId} {args : List SV} {r : SV} (fa : flat.flatL args = true) (fr : flat r = true) (h : SC V f args [] fun r' _ => r' = r) : PC V f args r := by
  refine ⟨h.1, fa, fr, fun w hE => ?_⟩
  refine (h.2 bt0 (fun _ _ => False) w (fun β' _ => ⟨by simp, by simp, by simp⟩) (by simp) hE).mono ?_
  rintro e w' ⟨r', bs', β₂, fp₂, rfl, -, -, hall, hfr, -⟩
  refine ⟨?_, ?_⟩
  · rw [(hall β₂ (Agr.refl _ _)).1, conc_flat r' fr β₂ bt0]
  · exact ⟨hfr.os, hfr.tape, hfr.output, hfr.size, fun k hk => hfr.block k hk (by simp)⟩
end
end Vc
