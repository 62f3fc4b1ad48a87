/- A calculus of conditions: the run in the order of the text. -/
import Derived.Test.YtkebjbphjnpjeaaVc9
set_option linter.all false
namespace Vc
open Go Go.RowKit Wf
section
variable {V : Cx} {F : Fx V} {β : Nat → Bt} {fp : Nat → Nat → Prop}
def BxAgr (m : Nat) (β : Nat → Bt) (bs : List Res) : Prop := ∀ j c T mn, getB bs j = some (c, T, mn) → ∀ β', Agr m β β' → c.map (conc β) = c.map (conc β')
theorem BxAgr.of_wd {bs : List Res} {w : World} (h : Wd F β fp bs w) : BxAgr bs.length β bs := fun _ _ _ _ hg _ hβ =>
  h.agr hg hβ
theorem stepD_agr {m : Nat} {t : List (Nat × SV)} {bs : List Res} {a : Act} {op : Op} {c : Prop} {r : Rec} (hs : stepD V op ⟨t, bs⟩ = .val c r) (hc : c) (hf : Fm F β m t a) (hb : BxAgr m β bs) :
    (∀ β', Agr m β β' → conc β r.x = conc β' r.x) ∧ (∀ j off ys, r.st = some (j, off, ys) → r.fp = some (true, j, off, ys.length) ∧ ∀ β', Agr m β β' → ys.map (conc β) = ys.map (conc β')) := by
  have w : World := default
  unfold stepD at hs
  cases hp : pv V.Γ t op with
  | some q =>
    obtain ⟨c', x⟩ := q
    rw [hp] at hs
    simp only [goD, valD, StepD.val.injEq] at hs
    obtain ⟨rfl, rfl⟩ := hs
    refine ⟨fun β' hβ => ?_, fun j off ys h => by cases h⟩
    have h1 := pv_ok V.gok (o := ⟨none, op, 0, "", #[], none⟩) (hf.ok β (Agr.refl _ _)) hp hc w
    have h2 := pv_ok V.gok (o := ⟨none, op, 0, "", #[], none⟩) (hf.ok β' hβ) hp hc w
    rw [h1] at h2
    injection h2 with h2
    injection h2
  | none =>
    rw [hp] at hs
    clear hp
    simp only [goD] at hs
    cases op <;> simp only [stepDM, reduceCtorEq] at hs
    case load T x =>
      unfold dLoad at hs
      split at hs
      · rename_i i off hx
        split at hs
        · rename_i cc T' mn hg
          split at hs
          · rename_i ti hT
            split at hs
            · rename_i y hy
              simp only [StepD.val.injEq] at hs
              obtain ⟨rfl, rfl⟩ := hs
              refine ⟨fun β' hβ => ?_, fun j off ys h => by cases h⟩
              have h1 := hb i cc T' mn hg β' hβ
              unfold partS at hy
              split at hy
              · cases hy
                simp only [conc, concL_map]
                rw [List.map_take, List.map_drop, List.map_take, List.map_drop, h1]
              · have h2 := congrArg (fun l => l[off]?) h1
                simp only [List.getElem?_map, hy, Option.map_some, Option.some.injEq] at h2
                exact h2
            · cases hs
          · cases hs
        · cases hs
      · cases hs
    case store T x y =>
      unfold dStore at hs
      split at hs
      · rename_i i off hx
        split at hs
        · rename_i y' hy
          split at hs
          · rename_i cc T' mn hg
            split at hs
            · rename_i s hsz
              simp only [StepD.val.injEq] at hs
              obtain ⟨rfl, rfl⟩ := hs
              refine ⟨fun _ _ => rfl, fun j off' ys h => ?_⟩
              simp only [Option.some.injEq, Prod.mk.injEq] at h
              obtain ⟨rfl, rfl, rfl⟩ := h
              refine ⟨by rw [hc.2.2.1], fun β' hβ => ?_⟩
              have h1 := hf.ev hy (Agr.refl _ β)
              rw [hf.ev hy hβ] at h1
              have h2 := congrArg Value.cells h1
              rw [conc_cells' β' y' (isV_of_one hc.2.1), conc_cells' β y' (isV_of_one hc.2.1)] at h2
              simpa using h2.symm
            · cases hs
          · cases hs
        · cases hs
      · cases hs
    case build T ps =>
      unfold dBuild at hs
      split at hs
      · rename_i ti hT
        split at hs
        · rename_i fs hk
          split at hs
          · rename_i l hl
            split at hs
            · rename_i cc hcc
              simp only [valD, StepD.val.injEq] at hs
              obtain ⟨rfl, rfl⟩ := hs
              refine ⟨fun β' hβ => ?_, fun j off ys h => by cases h⟩
              have h1 := run_build (w := w) hf hT hk hl hcc (Agr.refl _ β) none 0 "" #[] none
              have h2 := run_build (w := w) hf hT hk hl hcc hβ none 0 "" #[] none
              rw [h1] at h2
              injection h2 with h2
              injection h2
            · cases hs
          · cases hs
        · cases hs
      · cases hs
    case nilCheck x =>
      unfold dNil at hs
      split at hs
      · rename_i i off hx
        simp only [valD, StepD.val.injEq] at hs
        obtain ⟨rfl, rfl⟩ := hs
        exact ⟨fun β' hβ => by rw [← hf.ev hx (Agr.refl _ β), ← hf.ev hx hβ], fun j off ys h => by cases h⟩
      · rename_i f l hx
        simp only [valD, StepD.val.injEq] at hs
        obtain ⟨rfl, rfl⟩ := hs
        exact ⟨fun β' hβ => by rw [← hf.ev hx (Agr.refl _ β), ← hf.ev hx hβ], fun j off ys h => by cases h⟩
      · cases hs
    case call cl =>
      obtain ⟨callee, args, ts⟩ := cl
      cases callee <;> simp only [reduceCtorEq] at hs
      unfold dCall at hs
      (repeat' split at hs) <;> cases hs
theorem BxAgr.st {m : Nat} {bs : List Res} (h : BxAgr m β bs) {s : Option (Nat × Nat × List SV)} (hs : ∀ j off ys, s = some (j, off, ys) → ∀ β', Agr m β β' → ys.map (conc β) = ys.map (conc β')) : BxAgr m β (stB bs s) := by
  cases s with
  | none => exact h
  | some q =>
    obtain ⟨i, off, ys⟩ := q
    intro j c T mn hg β' hβ
    simp only [stB] at hg
    cases hgi : getB bs i with
    | none => rw [hgi] at hg; exact h j c T mn hg β' hβ
    | some q =>
      obtain ⟨c0, T0, m0⟩ := q
      rw [hgi] at hg
      have hi : i < bs.length := getB_lt hgi
      obtain ⟨r, hr, hcr, hall⟩ := getB_shape hgi
      simp only at hg
      rw [setB_at hr] at hg
      have hy := hs i off ys rfl β' hβ
      by_cases hij : i = j
      · subst hij
        have hcells : cellsR (setR (setL c0 off ys) r) = setL c0 off ys := by
          obtain ⟨r0, hr0, -, hc0⟩ := getB_some hgi
          rw [hr] at hr0
          cases hr0
          rcases hc0 with rfl | ⟨s, n, rfl⟩ <;> rfl
        have hg2 := hall (setL c0 off ys) (setR (setL c0 off ys) r) (shape_setR _ _) hcells _ (List.getElem?_set_self hi)
        rw [hg2] at hg
        cases hg
        have h0 := h i c0 _ _ hgi β' hβ
        apply List.ext_getElem?
        intro p
        simp only [List.getElem?_map, setL, List.getElem?_mapIdx, Option.map_map]
        have h1 := congrArg (fun l => l[p]?) h0
        simp only [List.getElem?_map] at h1
        cases hcp : c0[p]? with
        | none => rfl
        | some v =>
          rw [hcp] at h1
          simp only [Option.map_some, Option.some.injEq, Function.comp] at h1 ⊢
          split
          · rename_i hp
            have h2 := congrArg (fun l => l[p - off]?) hy
            have hlt : p - off < ys.length := by omega
            simp only [List.getElem?_map, List.getElem?_eq_getElem hlt, Option.map_some, Option.some.injEq] at h2
            rw [List.getD_eq_getElem?_getD, List.getElem?_eq_getElem hlt]
            exact h2
          · exact h1
      · have : getB bs j = some (c, T, mn) := by
          unfold getB at hg ⊢
          rwa [List.getElem?_set_ne hij] at hg
        exact h j c T mn this β' hβ
theorem fold_u {S : Type} (u u' : Nat → S → S) (D : Nat → Bool) : ∀ (n : Nat) (s : S), (∀ k, k < n → u k = u' k) → foldD u D n s = foldD u' D n s
  | 0, _, _ => rfl
  | n + 1, s, h => by simp only [foldD]; rw [h n (by omega), fold_u u u' D n s (fun k hk => h k (by omega))]
theorem getD_snoc {recs : List Rec} (r : Rec) {k : Nat} (h : k < recs.length) : (recs ++ [r]).getD k rec0 = recs.getD k rec0 := by
  simp [List.getD_eq_getElem?_getD, List.getElem?_append_left h]
/-- The run so far. -/
structure Lex (F : Fx V) (β : Nat → Bt) (fp : Nat → Nat → Prop) (ops : Array Oper) (m : Nat) (a0 : Act) (b0 : List Res) (recs : List Rec) (T : Nat → List (Nat × SV)) (σ : St) : Prop where
  fm : ∀ i, i ≤ recs.length → Fm F β m (T i) (foldD (uT β ops recs) (preD i) i a0)
  op : ∀ i, i < recs.length → OpOK F β fp ops m i (T i) (foldD (uB recs) (preD i) i b0) (recs.getD i rec0)
  st : ∀ i j off ys, (recs.getD i rec0).st = some (j, off, ys) → (recs.getD i rec0).fp = some (true, j, off, ys.length)
  t : T recs.length = σ.t
  b : foldD (uB recs) (preD recs.length) recs.length b0 = σ.b
  len : σ.b.length = m
  agr : BxAgr m β σ.b
theorem Lex.step {ops : Array Oper} {m : Nat} {a0 : Act} {b0 : List Res} {recs : List Rec} {T : Nat → List (Nat × SV)} {σ : St} (h : Lex F β fp ops m a0 b0 recs T σ) {o : Oper} (ho : ops[recs.length]? = some o) (r : Rec) (tt : List (Nat × SV))
    (hfit : fits F.n o.dst = true) (htt : Fm F β m tt (foldD (uT β ops recs) (preD recs.length) recs.length a0)) (hop : OpOK F β fp ops m recs.length σ.t σ.b r)
    (hx : ∀ β', Agr m β β' → conc β r.x = conc β' r.x) (hst : ∀ j off ys, r.st = some (j, off, ys) → r.fp = some (true, j, off, ys.length) ∧ ∀ β', Agr m β β' → ys.map (conc β) = ys.map (conc β')) :
    Lex F β fp ops m a0 b0 (recs ++ [r]) (fun i => if i = recs.length + 1 then Vc.put o.dst r.x tt else T i) ⟨Vc.put o.dst r.x tt, stB σ.b r.st⟩ := by
  have hlast : (recs ++ [r]).getD recs.length rec0 = r := by simp [List.getD_eq_getElem?_getD]
  have hT : ∀ i, i ≤ recs.length → foldD (uT β ops (recs ++ [r])) (preD i) i a0 = foldD (uT β ops recs) (preD i) i a0 := fun i hi => fold_u _ _ _ i a0 (fun k hk => by
    funext a; unfold uT; rw [getD_snoc r (by omega)])
  have hB : ∀ i, i ≤ recs.length → foldD (uB (recs ++ [r])) (preD i) i b0 = foldD (uB recs) (preD i) i b0 := fun i hi => fold_u _ _ _ i b0 (fun k hk => by
    funext a; unfold uB; rw [getD_snoc r (by omega)])
  refine ⟨fun i hi => ?_, fun i hi => ?_, fun i j off ys hs => ?_, ?_, ?_, ?_, ?_⟩
  · rw [List.length_append, List.length_singleton] at hi
    by_cases he : i = recs.length + 1
    · subst he
      simp only [if_true]
      rw [fold_pre_succ, hT _ (Nat.le_refl _)]
      have : uT β ops (recs ++ [r]) recs.length (foldD (uT β ops recs) (preD recs.length) recs.length a0) = (foldD (uT β ops recs) (preD recs.length) recs.length a0).put o.dst (conc β r.x) := by
        unfold uT; rw [hlast, ho]; rfl
      rw [this]
      exact htt.put hfit hx
    · simp only [if_neg he]
      rw [hT i (by omega)]
      exact h.fm i (by omega)
  · rw [List.length_append, List.length_singleton] at hi
    simp only [if_neg (show i ≠ recs.length + 1 by omega)]
    by_cases he : i = recs.length
    · subst he
      rw [hlast, hB _ (Nat.le_refl _), h.t, h.b]
      exact hop
    · rw [getD_snoc r (by omega), hB i (by omega)]
      exact h.op i (by omega)
  · by_cases he : i = recs.length
    · subst he
      rw [hlast] at hs ⊢
      exact (hst j off ys hs).1
    · by_cases hlt : i < recs.length
      · rw [getD_snoc r hlt] at hs ⊢
        exact h.st i j off ys hs
      · have : (recs ++ [r]).getD i rec0 = rec0 := by
          rw [List.getD_eq_getElem?_getD, List.getElem?_eq_none (by simp; omega)]; rfl
        rw [this] at hs
        cases hs
  · rw [List.length_append, List.length_singleton]
    simp
  · rw [List.length_append, List.length_singleton, fold_pre_succ, hB _ (Nat.le_refl _), h.b]
    unfold uB
    rw [hlast]
  · simp only [stB_length]; exact h.len
  · exact h.agr.st (fun j off ys hs => (hst j off ys hs).2)
/-- A frame that is fitting looks the same where the guard is known. -/
theorem looks_ev {ops : Array Oper} {o : Oper} {t t' : List (Nat × SV)} (h : ∀ d ∈ o.looksAt ops, lk d t' = lk d t) : ∀ x ∈ o.op.operands, ev t' x = ev t x := fun x hx => by
  cases x with
  | tmp d =>
    simp only [ev]
    refine h d ?_
    unfold Oper.looksAt
    simp only [List.mem_append, List.mem_filterMap]
    exact .inl ⟨.tmp d, Array.mem_toList_iff.2 hx, rfl⟩
  | const _ => rfl
  | global _ => rfl
  | func _ => rfl
end
end Vc
