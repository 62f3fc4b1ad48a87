/- A calculus of conditions: regions that draw their order. -/
import Derived.Test.YtkebjbphjnpjeaaVc5
import Derived.Still
set_option linter.all false
namespace Vc
open Go Go.RowKit Wf
/-! Updates in some order -/
def foldD {S : Type} (u : Nat → S → S) (D : Nat → Bool) : Nat → S → S
  | 0, s => s
  | n + 1, s => if D n then u n (foldD u D n s) else foldD u D n s
theorem fold_obs {S X : Type} (u : Nat → S → S) (obs : S → X) (hu : ∀ k s s', obs s = obs s' → obs (u k s) = obs (u k s')) (D D' : Nat → Bool) : ∀ (n : Nat) (s : S),
    (∀ k, k < n → D k = D' k ∨ ∀ s, obs (u k s) = obs s) → obs (foldD u D n s) = obs (foldD u D' n s)
  | 0, _, _ => rfl
  | n + 1, s, h => by
    have ih := fold_obs u obs hu D D' n s (fun k hk => h k (by omega))
    simp only [foldD]
    rcases h n (by omega) with e | e
    · rw [e]
      split
      · exact hu _ _ _ ih
      · exact ih
    · split <;> split <;> simp only [e, ih]
theorem fold_congr {S : Type} (u : Nat → S → S) (D D' : Nat → Bool) : ∀ (n : Nat) (s : S), (∀ k, k < n → D k = D' k) → foldD u D n s = foldD u D' n s
  | 0, _, _ => rfl
  | n + 1, s, h => by simp only [foldD]; rw [h n (by omega), fold_congr u D D' n s (fun k hk => h k (by omega))]
/-- Those ahead. -/
def preD (i : Nat) : Nat → Bool := fun k => decide (k < i)
def insD (D : Nat → Bool) (i : Nat) : Nat → Bool := fun k => D k || decide (k = i)
theorem fold_pre {S : Type} (u : Nat → S → S) : ∀ (n i : Nat) (s : S), i ≤ n → foldD u (preD i) n s = foldD u (preD i) i s := by
  intro n
  induction n with
  | zero => intro i s h; have : i = 0 := by omega
            subst this; rfl
  | succ n ih =>
    intro i s h
    by_cases e : i = n + 1
    · subst e; rfl
    · simp only [foldD]
      rw [if_neg (by simp [preD]; omega)]
      exact ih i s (by omega)
theorem fold_all {S : Type} (u : Nat → S → S) (D : Nat → Bool) : ∀ (n : Nat) (s : S), (∀ k, k < n → D k = true) → foldD u D n s = foldD u (preD n) n s := by
  intro n s h
  exact fold_congr u D (preD n) n s (fun k hk => by rw [h k hk]; simp [preD, hk])
theorem fold_pre_succ {S : Type} (u : Nat → S → S) (i : Nat) (s : S) : foldD u (preD (i + 1)) (i + 1) s = u i (foldD u (preD i) i s) := by
  simp only [foldD]
  rw [if_pos (by simp [preD])]
  congr 1
  exact fold_congr u _ _ i s (fun k hk => by simp [preD]; omega)
/-- What op i looks at, out of D. -/
theorem fold_see {S X : Type} (u : Nat → S → S) (obs : S → X) (hu : ∀ k s s', obs s = obs s' → obs (u k s) = obs (u k s')) (D : Nat → Bool) (n i : Nat) (s : S) (hi : i ≤ n)
    (h : ∀ k, k < n → (∃ s, obs (u k s) ≠ obs s) → D k = decide (k < i)) : obs (foldD u D n s) = obs (foldD u (preD i) i s) := by
  rw [← fold_pre u n i s hi]
  refine fold_obs u obs hu D (preD i) n s (fun k hk => ?_)
  by_cases e : ∃ s, obs (u k s) ≠ obs s
  · exact .inl (h k hk e)
  · exact .inr (fun s => Classical.byContradiction fun hne => e ⟨s, hne⟩)
/-- Op i behind D. -/
theorem fold_ins {S X : Type} (u : Nat → S → S) (obs : S → X) (hu : ∀ k s s', obs s = obs s' → obs (u k s) = obs (u k s')) (D : Nat → Bool) (n i : Nat) (s : S) (hi : i < n) (hD : D i = false)
    (h : (∃ s, obs (u i s) ≠ obs s) → ∀ k, k < n → (∃ s, obs (u k s) ≠ obs s) → D k = true → k < i)
    : obs (foldD u (insD D i) n s) = obs (u i (foldD u D n s)) := by
  by_cases e : ∃ s, obs (u i s) ≠ obs s
  · -- nothing behind i shows
    have h1 : obs (foldD u (insD D i) n s) = obs (foldD u (fun k => insD D i k && decide (k ≤ i)) n s) :=
      fold_obs u obs hu _ _ n s (fun k hk => by
        by_cases ek : ∃ s, obs (u k s) ≠ obs s
        · left
          by_cases hki : k ≤ i
          · simp [hki]
          · have : D k = false := by
              cases hdk : D k
              · rfl
              · have := h e k hk ek hdk; omega
            simp [insD, this]; omega
        · exact .inr (fun s => Classical.byContradiction fun hne => ek ⟨s, hne⟩))
    have h2 : ∀ m, i < m → foldD u (fun k => insD D i k && decide (k ≤ i)) m s = u i (foldD u D i s) := by
      intro m
      induction m with
      | zero => intro hm; omega
      | succ m ih =>
        intro hm
        simp only [foldD]
        by_cases hmi : m = i
        · subst hmi
          rw [if_pos (by simp [insD])]
          congr 1
          exact fold_congr u _ _ m s (fun k hk => by simp [insD, show k ≠ m by omega, show k ≤ m by omega])
        · rw [if_neg (by simp; omega)]
          exact ih (by omega)
    rw [h1, h2 n hi]
    refine hu _ _ _ ?_
    have h3 : obs (foldD u D n s) = obs (foldD u (fun k => D k && decide (k < i)) n s) :=
      fold_obs u obs hu _ _ n s (fun k hk => by
        by_cases ek : ∃ s, obs (u k s) ≠ obs s
        · left
          cases hdk : D k
          · simp
          · have := h e k hk ek hdk; simp [this]
        · exact .inr (fun s => Classical.byContradiction fun hne => ek ⟨s, hne⟩))
    have h4 : ∀ m, i ≤ m → foldD u (fun k => D k && decide (k < i)) m s = foldD u D i s := by
      intro m
      induction m with
      | zero => intro hm; have : i = 0 := by omega
                subst this; rfl
      | succ m ih =>
        intro hm
        by_cases hmi : i = m + 1
        · subst hmi
          exact fold_congr u _ _ (m + 1) s (fun k hk => by simp; omega)
        · simp only [foldD]
          rw [if_neg (by simp; omega)]
          exact ih (by omega)
    rw [h3, h4 n (by omega)]
  · have e' : ∀ s, obs (u i s) = obs s := fun s => Classical.byContradiction fun hne => e ⟨s, hne⟩
    rw [e']
    refine fold_obs u obs hu _ _ n s (fun k hk => ?_)
    by_cases hki : k = i
    · subst hki; exact .inr e'
    · left; simp [insD, hki]
/-! Any order -/
theorem wpAny_inv {P : Program} {ops : Array Oper} {Q : Exit → Act → World → Prop} {md : Region.Mode} (Inv : (Nat → Bool) → Act → World → Prop)
    (hstep : ∀ (listed : Array Bool) a w i, listed.size = ops.size → Inv (fun k => listed.getD k false) a w → i ∈ Region.ready md ops listed → wpOp P ops Q i (fun a' w' => Inv (insD (fun k => listed.getD k false) i) a' w') a w)
    (hend : ∀ (listed : Array Bool) a w, listed.size = ops.size → Inv (fun k => listed.getD k false) a w → Region.ready md ops listed = [] → Q .normal a w) :
    ∀ (fuel : Nat) (listed : Array Bool) a w, listed.size = ops.size → (listed.toList.filter (fun b => !b)).length ≤ fuel → Inv (fun k => listed.getD k false) a w → wpAny P md ops Q fuel listed a w := by
  have key : ∀ (listed : Array Bool) (i : Nat), i ∈ Region.ready md ops listed → i < listed.size ∧ listed.getD i false = false := by
    intro listed i hi
    have := (mem_ready.1 hi).1
    have hlt : i < listed.size := by
      rcases Nat.lt_or_ge i listed.size with h | h
      · exact h
      · simp [h] at this
    exact ⟨hlt, by simp [hlt] at this ⊢; exact this⟩
  intro fuel
  induction fuel with
  | zero =>
    intro listed a w hs hc hI
    have hr : Region.ready md ops listed = [] := by
      rcases h : Region.ready md ops listed with _ | ⟨i, r⟩
      · rfl
      · have hi : i ∈ Region.ready md ops listed := by rw [h]; simp
        obtain ⟨hlt, hf⟩ := key listed i hi
        have : false ∈ listed.toList.filter (fun b => !b) := by
          simp only [List.mem_filter]
          refine ⟨?_, rfl⟩
          have : listed[i] = false := by simpa [hlt] using hf
          rw [← this]
          exact Array.mem_toList_iff.2 (Array.getElem_mem hlt)
        have := List.length_pos_of_mem this
        omega
    exact ⟨hr, hend listed a w hs hI hr⟩
  | succ fuel ih =>
    intro listed a w hs hc hI
    refine ⟨fun hr => hend listed a w hs hI hr, fun i hi => ?_⟩
    obtain ⟨hlt, hf⟩ := key listed i hi
    refine wpOp_mono (fun a' w' hI' => ih (listed.setIfInBounds i true) a' w' (by simp [hs]) ?_ ?_) (hstep listed a w i hs hI hi)
    · have hl : listed[i] = false := by simpa [hlt] using hf
      have e : listed.toList = listed.toList.take i ++ false :: listed.toList.drop (i + 1) := by
        have h1 := (List.take_append_drop i listed.toList).symm
        rw [List.drop_eq_getElem_cons (by simpa using hlt)] at h1
        simpa [hl] using h1
      have hlen : (listed.toList.take i).length = i := by simp; omega
      have e2 : (listed.setIfInBounds i true).toList = listed.toList.take i ++ true :: listed.toList.drop (i + 1) := by
        rw [Array.toList_setIfInBounds]
        conv => lhs; rw [e]
        rw [List.set_append_right _ _ (by omega)]
        simp [hlen]
      rw [e2]
      rw [e] at hc
      simp at hc ⊢
      omega
    · have e : (fun k => (listed.setIfInBounds i true).getD k false) = insD (fun k => listed.getD k false) i := by
        funext k
        by_cases h : k = i
        · subst h; simp [insD, hlt]
        · simp only [insD]
          rw [Array.getD_eq_getD_getElem?, Array.getElem?_setIfInBounds_ne (fun q => h q.symm), ← Array.getD_eq_getD_getElem?]
          simp [h]
      rw [e]
      exact hI'
end Vc
