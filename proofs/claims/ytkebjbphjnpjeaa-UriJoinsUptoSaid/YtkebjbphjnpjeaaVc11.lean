/- A calculus of conditions: a region that draws its order, walked in the order of the text. -/
import Derived.Test.YtkebjbphjnpjeaaVc10
set_option linter.all false
namespace Vc
open Go Go.RowKit Wf
section
variable {V : Cx} {F : Fx V} {β : Nat → Bt} {fp : Nat → Nat → Prop}
theorem gdst_ok : ∀ (l : List Oper) (j : Nat), gdst l j = (l[j]?).bind (·.dst)
  | [], j => by simp [gdst]
  | o :: r, 0 => by simp [gdst]
  | o :: r, j + 1 => by simp [gdst, gdst_ok r j]
theorem gvalD_ok {ops : Array Oper} {σt : List (Nat × SV)} {β : Nat → Bt} {a : Act} (hf : FrOK β F.n σt a) {j d : Nat} {b : Bool} (h : gvalD σt (gdst ops.toList j) = some (d, b)) :
    yielded ops a.tmps j = some b ∧ a.tmps.getD d undef = .bool b := by
  refine gval_ok hf ?_
  unfold gvalD at h
  split at h
  · rename_i d' hd
    rw [gdst_ok] at hd
    unfold gval
    rw [List.getElem?_map]
    cases ho : ops.toList[j]? with
    | none => rw [ho] at hd; simp at hd
    | some o =>
      rw [ho] at hd
      simp at hd
      simp only [Option.map_some, hd]
      exact h
  · cases h
theorem gvU_at {ops : List Oper} {t : List (Nat × SV)} {j : Nat} (h : gvU t (gdst ops j) = true) : ∃ d x, gdst ops j = some d ∧ lk d t = some (.v x) ∧ nob x = true := by
  unfold gvU at h
  split at h
  · rename_i d hd
    split at h
    · rename_i x hx
      exact ⟨d, x, hd, hx, h⟩
    · cases h
  · cases h
theorem gvU_ok {ops : Array Oper} {σt : List (Nat × SV)} {β : Nat → Bt} {a : Act} (hf : FrOK β F.n σt a) {j d : Nat} {x : Value} (hd : gdst ops.toList j = some d) (hx : lk d σt = some (.v x)) (hn : nob x = true) : yielded ops a.tmps j = none := by
  have hg := hf.get _ _ hx
  simp only [conc] at hg
  rw [gdst_ok] at hd
  have hd' : (ops[j]?).bind (·.dst) = some d := by simpa using hd
  unfold yielded
  rw [hd']
  simp only [Option.bind_some]
  cases ht : a.tmps[d]? with
  | none => rfl
  | some y =>
    have : y = x := by rw [← hg]; simp [Array.getD_eq_getD_getElem?, ht]
    subst this
    cases y <;> simp [nob] at hn ⊢
theorem gval_same {ops : List Oper} {t t' : List (Nat × SV)} {j d : Nat} {b : Bool} (h : gvalD t (gdst ops j) = some (d, b)) (hl : lk d t' = lk d t) : gvalD t' (gdst ops j) = some (d, b) := by
  unfold gvalD at h ⊢
  split at h
  · rename_i d' hd
    split at h
    · rename_i b' hb
      cases h
      rw [hl, hb]
    · cases h
  · cases h
theorem gval_lk {ops : List Oper} {t : List (Nat × SV)} {j d : Nat} {b : Bool} (h : gvalD t (gdst ops j) = some (d, b)) : lk d t = some (.bool b) ∧ gdst ops j = some d := by
  unfold gvalD at h
  split at h
  · rename_i d' hd
    split at h
    · rename_i b' hb
      cases h
      exact ⟨hb, hd⟩
    · cases h
  · cases h
theorem guard_looks {ops : Array Oper} {o : Oper} {j d : Nat} {want : Bool} (hg : o.guard = some (j, want)) (hd : gdst ops.toList j = some d) : d ∈ o.looksAt ops := by
  unfold Oper.looksAt
  rw [hg]
  simp only [List.mem_append]
  right
  rw [gdst_ok] at hd
  have : (ops[j]?).bind (·.dst) = some d := by simpa using hd
  rw [this]
  simp
theorem lk_relit {t : List (Nat × SV)} {d : Nat} {b : Bool} (h : lk d t = some (.bool b)) : ∀ e, lk e ((d, .bool b) :: t) = lk e t := fun e => by
  simp only [lk]
  split
  · rename_i he; subst he; exact h.symm
  · rfl
theorem opOK_val {ops : Array Oper} {m i : Nat} {t tt : List (Nat × SV)} {b : List Res} {o : Oper} {c : Prop} {r : Rec} (ho : ops[i]? = some o) (hs : stepD V o.op ⟨tt, b⟩ = .val c r) (hc : c) (htt : ∀ e, lk e tt = lk e t)
    (hw : ∀ (ta : List (Nat × SV)) (a : Act), Fm F β m ta a → (∀ d ∈ o.looksAt ops, lk d ta = lk d t) → Region.wanted o (yielded ops a.tmps) = true) : OpOK F β fp ops m i t b r := by
  intro Q K a w bs ta o' ho' hm hf hl hwd hseen hK
  rw [ho] at ho'
  cases ho'
  unfold wpOp
  rw [ho]
  simp only
  rw [if_pos (hw ta a hf hl)]
  left
  obtain ⟨c', hs', hc'⟩ := stepD_congr (b' := bs) (looks_ev (ops := ops) (t := tt) (fun d hd => (hl d hd).trans (htt d).symm)) hs hc hseen
  exact stepD_ok hs' hc' hm hf hwd hK
theorem opOK_call {ops : Array Oper} {m i : Nat} {t tt : List (Nat × SV)} {b : List Res} {o : Oper} {g : FuncId} {args : List SV} {x : SV} (ho : ops[i]? = some o) (hs : stepD V o.op ⟨tt, b⟩ = .call g args) (hpc : PC V g args x) (htt : ∀ e, lk e tt = lk e t)
    (hw : ∀ (ta : List (Nat × SV)) (a : Act), Fm F β m ta a → (∀ d ∈ o.looksAt ops, lk d ta = lk d t) → Region.wanted o (yielded ops a.tmps) = true) : OpOK F β fp ops m i t b ⟨x, none, none⟩ := by
  intro Q K a w bs ta o' ho' hm hf hl hwd hseen hK
  rw [ho] at ho'
  cases ho'
  unfold wpOp
  rw [ho]
  simp only
  rw [if_pos (hw ta a hf hl)]
  left
  exact stepD_call_ok (stepD_call_congr (b' := bs) (looks_ev (ops := ops) (t := tt) (fun d hd => (hl d hd).trans (htt d).symm)) hs) hpc hm hf hwd hK
theorem opOK_skip {ops : Array Oper} {m i : Nat} {t : List (Nat × SV)} {b : List Res} {o : Oper} (ho : ops[i]? = some o)
    (hw : ∀ (ta : List (Nat × SV)) (a : Act), Fm F β m ta a → (∀ d ∈ o.looksAt ops, lk d ta = lk d t) → Region.wanted o (yielded ops a.tmps) = false) : OpOK F β fp ops m i t b ⟨.v undef, none, none⟩ := by
  intro Q K a w bs ta o' ho' hm hf hl hwd hseen hK
  rw [ho] at ho'
  cases ho'
  unfold wpOp
  rw [ho]
  simp only
  rw [if_neg (by rw [hw ta a hf hl]; simp)]
  exact hK w hwd
theorem wanted_none {ops : Array Oper} {o : Oper} (h : o.guard = none) (a : Act) : Region.wanted o (yielded ops a.tmps) = true := by simp [Region.wanted, h]
theorem lex_run {ops : Array Oper} {m : Nat} {a0 : Act} {b0 : List Res} {E : Fin} {k : List Item} : ∀ (f : Nat) (l pre : List Oper) (recs : List Rec) (T : Nat → List (Nat × SV)) (σ : St), ops.toList = pre ++ l → recs.length = pre.length →
    Lex F β fp ops m a0 b0 recs T σ → vcS V F.n E f (.dops ops l (recs.map (·.fp)) :: k) σ →
    ∃ f' recs' T' σ', f' < f ∧ recs'.length = ops.size ∧ Lex F β fp ops m a0 b0 recs' T' σ' ∧ OkD ops (recs'.map (·.fp)) ∧ vcS V F.n E f' k σ' := by
  intro f
  induction f with
  | zero => intro l pre recs T σ _ _ _ h; cases l <;> simp [vcS] at h
  | succ f ih =>
    intro l pre recs T σ hops hlen hlex h
    match l with
    | [] =>
      simp only [vcS] at h
      refine ⟨f, recs, T, σ, Nat.lt_succ_self _, ?_, hlex, h.1, h.2⟩
      have := congrArg List.length hops
      simp at this
      omega
    | o :: r =>
      have ho : ops[recs.length]? = some o := by
        have : ops.toList[recs.length]? = some o := by rw [hops, hlen]; simp
        simpa using this
      have next : ∀ (rc : Rec) (tt : List (Nat × SV)), fits F.n o.dst = true → Fm F β m tt (foldD (uT β ops recs) (preD recs.length) recs.length a0) → OpOK F β fp ops m recs.length σ.t σ.b rc →
          (∀ β', Agr m β β' → conc β rc.x = conc β' rc.x) → (∀ j off ys, rc.st = some (j, off, ys) → rc.fp = some (true, j, off, ys.length) ∧ ∀ β', Agr m β β' → ys.map (conc β) = ys.map (conc β')) →
          vcS V F.n E f (.dops ops r (recs.map (·.fp) ++ [rc.fp]) :: k) ⟨Vc.put o.dst rc.x tt, stB σ.b rc.st⟩ →
          ∃ f' recs' T' σ', f' < f + 1 ∧ recs'.length = ops.size ∧ Lex F β fp ops m a0 b0 recs' T' σ' ∧ OkD ops (recs'.map (·.fp)) ∧ vcS V F.n E f' k σ' := fun rc tt hfit htt hop hx hst hv => by
        obtain ⟨f', recs', T', σ', h1, h2, h3, h4, h5⟩ := ih r (pre ++ [o]) (recs ++ [rc]) _ _ (by rw [hops]; simp) (by simp [hlen]) (hlex.step ho rc tt hfit htt hop hx hst) (by simpa using hv)
        exact ⟨f', recs', T', σ', by omega, h2, h3, h4, h5⟩
      have hfm := hlex.fm recs.length (Nat.le_refl _)
      rw [hlex.t] at hfm
      obtain ⟨dst, op, ty, pos, after, guard⟩ := o
      -- one operation, wanted
      have go : ∀ (tt : List (Nat × SV)), (∀ e, lk e tt = lk e σ.t) → (∀ (ta : List (Nat × SV)) (a : Act), Fm F β m ta a → (∀ d ∈ (⟨dst, op, ty, pos, after, guard⟩ : Oper).looksAt ops, lk d ta = lk d σ.t) → Region.wanted ⟨dst, op, ty, pos, after, guard⟩ (yielded ops a.tmps) = true) →
          fits F.n dst = true → contD V F.n E f ops r (recs.map (·.fp)) k dst ⟨tt, σ.b⟩ (stepD V op ⟨tt, σ.b⟩) →
          ∃ f' recs' T' σ', f' < f + 1 ∧ recs'.length = ops.size ∧ Lex F β fp ops m a0 b0 recs' T' σ' ∧ OkD ops (recs'.map (·.fp)) ∧ vcS V F.n E f' k σ' := fun tt htt hwant hfit hcd => by
        have hfmtt : Fm F β m tt (foldD (uT β ops recs) (preD recs.length) recs.length a0) := ⟨fun β' hβ => ⟨(hfm.ok β' hβ).size, (hfm.ok β' hβ).defers, fun d x hd => (hfm.ok β' hβ).get d x (by rw [← htt]; exact hd)⟩⟩
        cases hsd : stepD V op ⟨tt, σ.b⟩ with
        | val c rc =>
          rw [hsd] at hcd
          obtain ⟨x, st, fpp⟩ := rc
          simp only [contD] at hcd
          have hagr := stepD_agr hsd hcd.1 hfmtt hlex.agr
          exact next ⟨x, st, fpp⟩ tt hfit hfmtt (opOK_val ho hsd hcd.1 htt hwant) hagr.1 hagr.2 hcd.2
        | call g args =>
          rw [hsd] at hcd
          simp only [contD, callD] at hcd
          obtain ⟨x, hpc, hv⟩ := hcd
          exact next ⟨x, none, none⟩ tt hfit hfmtt (opOK_call ho hsd hpc htt hwant) (fun β' _ => conc_flat x hpc.fr β β') (fun j off ys h => by cases h) hv
        | bad => rw [hsd] at hcd; simp [contD] at hcd
      cases guard with
      | none =>
        simp only [vcS] at h
        exact go σ.t (fun _ => rfl) (fun ta a _ _ => wanted_none rfl a) h.1 h.2
      | some q =>
        obtain ⟨j, want⟩ := q
        simp only [vcS] at h
        obtain ⟨hfit, h⟩ := h
        cases hg : gvalD σ.t (gdst ops.toList j) with
        | none =>
          cases hu : gvU σ.t (gdst ops.toList j) with
          | false => rw [hg, hu] at h; simp [guardD] at h
          | true =>
            rw [hg, hu] at h
            simp only [guardD] at h
            obtain ⟨d, x, hgd, hlk, hno⟩ := gvU_at hu
            refine next ⟨.v undef, none, none⟩ σ.t hfit hfm (opOK_skip ho (fun ta a hf hl => by
              have hy := gvU_ok (hf.ok β (Agr.refl _ _)) hgd (by rw [hl d (guard_looks rfl hgd)]; exact hlk) hno
              simp [Region.wanted, hy])) (fun _ _ => rfl) (fun j off ys h => by cases h) h
        | some q =>
          obtain ⟨d, b⟩ := q
          rw [hg] at h
          simp only [guardD] at h
          obtain ⟨hd, h1, h2⟩ := h
          obtain ⟨hlk, hgd⟩ := gval_lk hg
          have hyield : ∀ (ta : List (Nat × SV)) (a : Act), Fm F β m ta a → (∀ e ∈ (⟨dst, op, ty, pos, after, some (j, want)⟩ : Oper).looksAt ops, lk e ta = lk e σ.t) → yielded ops a.tmps j = some b := fun ta a hf hl =>
            (gvalD_ok (hf.ok β (Agr.refl _ _)) (gval_same hg (hl d (guard_looks rfl hgd)))).1
          by_cases hb : b = want
          · subst hb
            exact go ((d, .bool b) :: σ.t) (lk_relit hlk) (fun ta a hf hl => by simp [Region.wanted, hyield ta a hf hl]) hfit (h1 rfl)
          · have hb' : b = !want := by cases b <;> cases want <;> simp at hb ⊢
            have hv := h2 hb'
            rw [← hb'] at hv
            refine next ⟨.v undef, none, none⟩ ((d, .bool b) :: σ.t) hfit ⟨fun β' hβ => ⟨(hfm.ok β' hβ).size, (hfm.ok β' hβ).defers, fun e x he => (hfm.ok β' hβ).get e x (by rw [← lk_relit hlk]; exact he)⟩⟩ (opOK_skip ho (fun ta a hf hl => by simp [Region.wanted, hyield ta a hf hl, hb])) (fun _ _ => rfl) (fun j off ys h => by cases h) hv
end
end Vc
