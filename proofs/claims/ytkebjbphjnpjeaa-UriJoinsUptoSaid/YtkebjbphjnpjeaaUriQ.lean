/- Plain laws on URIs. -/
import Derived.Test.YtkebjbphjnpjeaaUriP
set_option linter.all false
namespace Wf
open Go Go.RowKit
theorem uncut (c : UInt8) (s : Bytes) : s = (cutC c s).1 ++ (if (cutC c s).2.2 then [c] ++ (cutC c s).2.1 else []) := by
  unfold cutC
  split
  · rename_i h
    have h2 := pre_at (p := (· == c)) h
    simp only [if_true]
    have : s.drop (pre (· == c) s) = c :: s.drop (pre (· == c) s + 1) := by
      rw [List.drop_eq_getElem_cons h]
      simp only [beq_iff_eq] at h2
      rw [h2]
    rw [List.singleton_append, ← this, List.take_append_drop]
  · simp
theorem uncut_no (c : UInt8) (s : Bytes) (h : (cutC c s).2.2 = false) : (cutC c s).2.1 = [] := by
  unfold cutC at h ⊢
  split
  · rename_i h2; rw [if_pos h2] at h; simp at h
  · rfl
theorem unauth (s : Bytes) : s = (if (authPath s).2.1 then [47, 47] ++ (authPath s).1 else []) ++ (authPath s).2.2 := by
  unfold authPath
  split
  · simp
  · simp
theorem splitRest_back (s fr qu : Bytes) (hf hq : Bool) (h : (splitRest s fr qu hf hq).2 = 0) :
    uriJoin (splitRest s fr qu hf hq).1 = s ++ (if hq then [63] ++ qu else []) ++ (if hf then [35] ++ fr else []) := by
  unfold splitRest at h ⊢
  by_cases h1 : (s.drop (pre colonSlash s)).head? = some 58
  · rw [if_pos h1] at h ⊢
    by_cases h2 : schemeOk (s.take (pre colonSlash s))
    · rw [if_pos h2] at h ⊢
      have e : s.take (pre colonSlash s) ++ 58 :: s.drop (pre colonSlash s + 1) = s := by
        have : s.drop (pre colonSlash s) = 58 :: s.drop (pre colonSlash s + 1) := by
          cases hd : s.drop (pre colonSlash s) with
          | nil => rw [hd] at h1; simp at h1
          | cons x r =>
            rw [hd] at h1
            simp only [List.head?_cons, Option.some.injEq] at h1
            subst h1
            rw [← List.drop_drop, hd]; rfl
        rw [← this, List.take_append_drop]
      have ha := unauth (s.drop (pre colonSlash s + 1))
      simp only [uriJoin, if_true]
      conv => rhs; rw [← e, ha]
      simp
    · rw [if_neg h2] at h; simp at h
  · rw [if_neg h1] at h ⊢
    have ha := unauth s
    simp only [uriJoin, Bool.false_eq_true, if_false, List.nil_append]
    conv => rhs; rw [ha]
theorem m_back (s : Bytes) (h : (uriSplit s).2 = 0) : uriJoin (uriSplit s).1 = s := by
  unfold uriSplit at h ⊢
  by_cases hl : 16384 < s.length
  · rw [if_pos hl] at h; simp at h
  · rw [if_neg hl] at h ⊢
    rw [splitRest_back _ _ _ _ _ h]
    have h1 := uncut 35 s
    have h2 := uncut 63 (cutC 35 s).1
    conv => rhs; rw [h1, h2]
theorem m_err (s : Bytes) (h : (uriSplit s).2 ≠ 0) : (uriSplit s).1 = Uri.none := by
  unfold uriSplit at h ⊢
  by_cases hl : 16384 < s.length
  · rw [if_pos hl]
  · rw [if_neg hl] at h ⊢
    unfold splitRest at h ⊢
    by_cases h1 : (((cutC 63 (cutC 35 s).1).1).drop (pre colonSlash (cutC 63 (cutC 35 s).1).1)).head? = some 58
    · rw [if_pos h1] at h ⊢
      by_cases h2 : schemeOk ((cutC 63 (cutC 35 s).1).1.take (pre colonSlash (cutC 63 (cutC 35 s).1).1))
      · rw [if_pos h2] at h; simp at h
      · rw [if_neg h2]
    · rw [if_neg h1] at h; simp at h
theorem m_empty (b : Uri) : uriResolve b Uri.none = { b with fragment := [], hasFrag := false } := rfl
theorem m_scheme (b u : Uri) (h : u.hasScheme = true) : uriResolve b u = uriResolve Uri.none u := by
  unfold uriResolve; rw [if_pos h, if_pos h]
/-! paths that begin with a slash -/
def absP (l : List Bytes) : Bytes := l.flatMap (47 :: ·)
def goodSeg (s : Bytes) : Prop := (47 : UInt8) ∉ s ∧ s ≠ [46] ∧ s ≠ [46, 46]
theorem absP_cons (x : Bytes) (l : List Bytes) : absP (x :: l) = 47 :: (x ++ absP l) := rfl
theorem absP_app (l : List Bytes) (x : Bytes) : absP (l ++ [x]) = absP l ++ 47 :: x := by
  unfold absP; simp
theorem absP_head (l : List Bytes) : absP l = [] ∨ ∃ r, absP l = 47 :: r := by
  cases l with
  | nil => exact .inl rfl
  | cons x l => exact .inr ⟨_, rfl⟩
theorem pre_noslash {x : Bytes} (h : (47 : UInt8) ∉ x) (l : List Bytes) : pre (· == 47) (x ++ absP l) = x.length := by
  induction x with
  | nil =>
    rcases absP_head l with e | ⟨r, e⟩
    · simp [e, pre_nil]
    · simp [e, pre_cons]
  | cons c x ih =>
    simp only [List.mem_cons, not_or] at h
    rw [List.cons_append, pre_cons, if_neg (by simp; exact fun e => h.1 e.symm), ih h.2]
    rfl
theorem shorten_abs (l : List Bytes) (x : Bytes) (h : (47 : UInt8) ∉ x) : shorten (absP (l ++ [x])) = absP l := by
  rw [absP_app]
  unfold shorten
  rw [List.reverse_append, List.reverse_cons, List.append_assoc]
  have : (x.reverse ++ ([47] ++ (absP l).reverse)).dropWhile (· != 47) = [47] ++ (absP l).reverse := by
    rw [List.dropWhile_append_of_pos]
    · simp
    · intro c hc
      simp only [List.mem_reverse] at hc
      simp
      rintro rfl
      exact h hc
  rw [this]
  simp
theorem shorten_nil : shorten [] = [] := rfl
/-- What the removal of dots gives from a path that begins with a slash. -/
theorem dotsGo_abs : ∀ (f : Nat) (p : Bytes) (l : List Bytes), p.length ≤ f → (p = [] ∨ ∃ r, p = 47 :: r) → (p = [] → l ≠ []) → (∀ x ∈ l, goodSeg x) → ∃ l', dotsGo f p (absP l) = absP l' ∧ l' ≠ [] ∧ ∀ x ∈ l', goodSeg x := by
  intro f
  induction f with
  | zero =>
    intro p l hp _ hn hg
    have : p = [] := List.length_eq_zero_iff.1 (by omega)
    exact ⟨l, rfl, hn this, hg⟩
  | succ f ih =>
    intro p l hp hs hn hg
    rw [dotsGo]
    rcases hs with rfl | ⟨r, rfl⟩
    · exact ⟨l, by rw [if_pos rfl], hn rfl, hg⟩
    · rw [if_neg (by simp)]
      have hsh : ∃ l2, shorten (absP l) = absP l2 ∧ ∀ x ∈ l2, goodSeg x := by
        rcases List.eq_nil_or_concat l with rfl | ⟨l2, x, rfl⟩
        · exact ⟨[], rfl, by simp⟩
        · refine ⟨l2, ?_, fun y hy => hg y (by simp [hy])⟩
          have := hg x (by simp)
          simpa using shorten_abs l2 x this.1
      obtain ⟨l2, hl2, hg2⟩ := hsh
      unfold dotStep
      rw [if_neg (by simp [List.isPrefixOf]), if_neg (by simp [List.isPrefixOf])]
      by_cases c1 : [47, 46, 47].isPrefixOf (47 :: r)
      · rw [if_pos c1]
        obtain ⟨q, hq⟩ := List.isPrefixOf_iff_prefix.1 c1
        simp only [List.cons_append, List.nil_append, List.cons.injEq, true_and] at hq
        subst hq
        exact ih _ l (by simp at hp ⊢; omega) (.inr ⟨q, rfl⟩) (by simp) hg
      rw [if_neg c1]
      by_cases c2 : (47 :: r) = [47, 46]
      · rw [if_pos c2]
        rw [c2] at hp
        exact ih _ l (by simp at hp ⊢; omega) (.inr ⟨[], rfl⟩) (by simp) hg
      rw [if_neg c2]
      by_cases c3 : [47, 46, 46, 47].isPrefixOf (47 :: r)
      · rw [if_pos c3]
        obtain ⟨q, hq⟩ := List.isPrefixOf_iff_prefix.1 c3
        simp only [List.cons_append, List.nil_append, List.cons.injEq, true_and] at hq
        subst hq
        simp only [hl2]
        exact ih _ l2 (by simp at hp ⊢; omega) (.inr ⟨q, rfl⟩) (by simp) hg2
      rw [if_neg c3]
      by_cases c4 : (47 :: r) = [47, 46, 46]
      · rw [if_pos c4]
        rw [c4] at hp
        simp only [hl2]
        exact ih _ l2 (by simp at hp ⊢; omega) (.inr ⟨[], rfl⟩) (by simp) hg2
      rw [if_neg c4, if_neg (by simp)]
      simp only [List.drop_succ_cons, List.drop_zero]
      have hseg : goodSeg (r.take (pre (· == 47) r)) := by
        refine ⟨fun hm => ?_, fun e => ?_, fun e => ?_⟩
        · obtain ⟨k, hk, hk2⟩ := List.getElem_of_mem hm
          rw [List.length_take] at hk
          have := pre_get (p := (· == 47)) (l := r) (k := k) (by omega) (by omega)
          rw [List.getElem_take] at hk2
          simp [hk2] at this
        · have hp1 := congrArg List.length e
          simp only [List.length_take, List.length_cons, List.length_nil] at hp1
          have hr := List.take_append_drop (pre (· == 47) r) r
          rw [e] at hr
          cases hd : r.drop (pre (· == 47) r) with
          | nil => rw [hd] at hr; exact c2 (by rw [← hr]; rfl)
          | cons y t =>
            have hlt : pre (· == 47) r < r.length := by
              apply Nat.lt_of_not_le; intro h; rw [List.drop_of_length_le h] at hd; cases hd
            have := pre_at (p := (· == 47)) hlt
            rw [List.drop_eq_getElem_cons hlt] at hd
            simp only [List.cons.injEq] at hd
            rw [hd.1] at this
            simp only [beq_iff_eq] at this
            subst this
            rw [List.drop_eq_getElem_cons hlt, hd.1] at hr
            exact c1 (by rw [← hr]; simp [List.isPrefixOf])
        · have hp1 := congrArg List.length e
          simp only [List.length_take, List.length_cons, List.length_nil] at hp1
          have hr := List.take_append_drop (pre (· == 47) r) r
          rw [e] at hr
          cases hd : r.drop (pre (· == 47) r) with
          | nil => rw [hd] at hr; exact c4 (by rw [← hr]; rfl)
          | cons y t =>
            have hlt : pre (· == 47) r < r.length := by
              apply Nat.lt_of_not_le; intro h; rw [List.drop_of_length_le h] at hd; cases hd
            have := pre_at (p := (· == 47)) hlt
            rw [List.drop_eq_getElem_cons hlt] at hd
            simp only [List.cons.injEq] at hd
            rw [hd.1] at this
            simp only [beq_iff_eq] at this
            subst this
            rw [List.drop_eq_getElem_cons hlt, hd.1] at hr
            exact c3 (by rw [← hr]; simp [List.isPrefixOf])
      have e1 : (47 :: r).drop (1 + pre (· == 47) r) = r.drop (pre (· == 47) r) := by rw [Nat.add_comm]; rfl
      have e2 : (47 :: r).take (1 + pre (· == 47) r) = 47 :: r.take (pre (· == 47) r) := by rw [Nat.add_comm]; rfl
      rw [e1, e2, ← absP_app]
      refine ih _ _ (by simp at hp ⊢; omega) ?_ (by simp) (fun x hx => ?_)
      · by_cases hlt : pre (· == 47) r < r.length
        · right
          have := pre_at (p := (· == 47)) hlt
          simp only [beq_iff_eq] at this
          exact ⟨_, by rw [List.drop_eq_getElem_cons hlt, this]⟩
        · left
          exact List.drop_of_length_le (by omega)
      · simp only [List.mem_append, List.mem_singleton] at hx
        rcases hx with hx | rfl
        · exact hg x hx
        · exact hseg
theorem removeDots_abs (r : Bytes) : ∃ l, removeDots (47 :: r) = absP l ∧ l ≠ [] ∧ ∀ x ∈ l, goodSeg x :=
  dotsGo_abs _ _ [] (Nat.le_refl _) (.inr ⟨r, rfl⟩) (by simp) (by simp)
theorem dotsGo_same : ∀ (l : List Bytes) (f : Nat) (out : Bytes), (absP l).length ≤ f → (∀ x ∈ l, goodSeg x) → dotsGo f (absP l) out = out ++ absP l
  | [], f, out, _, _ => by cases f <;> simp [absP, dotsGo]
  | x :: l, f, out, hf, hg => by
    rw [absP_cons] at hf ⊢
    obtain ⟨f, rfl⟩ : ∃ k, f = k + 1 := ⟨f - 1, by simp at hf; omega⟩
    rw [dotsGo, if_neg (by simp)]
    obtain ⟨h1, h2, h3⟩ := hg x (by simp)
    have hpre := pre_noslash h1 l
    have seg : ∀ (y : Bytes), (47 : UInt8) ∉ y → y ≠ x → ¬ (47 :: (y ++ [47])).isPrefixOf (47 :: (x ++ absP l)) = true := fun y hy hne hp => by
      obtain ⟨q, hq⟩ := List.isPrefixOf_iff_prefix.1 hp
      simp only [List.cons_append, List.append_assoc, List.cons.injEq, true_and] at hq
      have hpy := pre_noslash hy [q]
      have e : y ++ absP [q] = x ++ absP l := by rw [← hq]; simp [absP]
      rw [e, hpre] at hpy
      have := List.append_inj_left e hpy.symm
      exact hne this
    have seg2 : ∀ (y : Bytes), (47 : UInt8) ∉ y → y ≠ x → (47 :: (x ++ absP l)) ≠ 47 :: y := fun y hy hne he => by
      simp only [List.cons.injEq, true_and] at he
      have hpy : pre (· == 47) y = y.length := by simpa [absP] using pre_noslash hy []
      rw [← he, hpre, List.length_append] at hpy
      have h0 : absP l = [] := List.length_eq_zero_iff.1 (by omega)
      rw [h0, List.append_nil] at he
      exact hne he.symm
    have hd : dotStep (47 :: (x ++ absP l)) out = (absP l, out ++ 47 :: x) := by
      unfold dotStep
      rw [if_neg (by simp [List.isPrefixOf]), if_neg (by simp [List.isPrefixOf]), if_neg (show ¬ ([47, 46, 47] : Bytes).isPrefixOf _ = true from seg [46] (by decide) (fun e => h2 e.symm)), if_neg (seg2 [46] (by decide) (fun e => h2 e.symm)), if_neg (show ¬ ([47, 46, 46, 47] : Bytes).isPrefixOf _ = true from seg [46, 46] (by decide) (fun e => h3 e.symm)), if_neg (seg2 [46, 46] (by decide) (fun e => h3 e.symm)), if_neg (by simp)]
      simp only [List.drop_succ_cons, List.drop_zero, hpre]
      rw [Nat.add_comm]
      simp
    rw [hd]
    rw [dotsGo_same l f _ (by simp at hf; omega) (fun y hy => hg y (by simp [hy]))]
    simp
theorem removeDots_clean (r : Bytes) : removeDots (removeDots (47 :: r)) = removeDots (47 :: r) := by
  obtain ⟨l, h1, h2, h3⟩ := removeDots_abs r
  rw [h1]
  unfold removeDots
  rw [dotsGo_same l _ _ (Nat.le_refl _) h3]
  rfl
theorem splitC_abs : ∀ (l : List Bytes), l ≠ [] → (∀ x ∈ l, (47 : UInt8) ∉ x) → splitC 47 (absP l) = [] :: l
  | [], h, _ => absurd rfl h
  | x :: l, _, hg => by
    rw [absP_cons]
    have hx := hg x (by simp)
    rw [splitC, if_pos (by simp)]
    congr 1
    have hpre := pre_noslash hx l
    cases l with
    | nil =>
      simp only [absP, List.flatMap_nil, List.append_nil] at hpre ⊢
      rw [splitC_miss (by omega)]
    | cons y l =>
      rw [splitC_hit (by rw [hpre]; simp [absP_cons]), hpre]
      have ih := splitC_abs (y :: l) (by simp) (fun z hz => hg z (by simp [hz]))
      rw [absP_cons, splitC, if_pos (by simp)] at ih
      simp only [List.cons.injEq, true_and] at ih
      rw [absP_cons]
      simp [ih]
theorem clean_segs (r : Bytes) : (∃ q, removeDots (47 :: r) = 47 :: q) ∧ ∀ x ∈ splitC 47 (removeDots (47 :: r)), x ≠ [46] ∧ x ≠ [46, 46] := by
  obtain ⟨l, h1, h2, h3⟩ := removeDots_abs r
  rw [h1]
  constructor
  · cases l with
    | nil => exact absurd rfl h2
    | cons x l => exact ⟨_, rfl⟩
  · rw [splitC_abs l h2 (fun x hx => (h3 x hx).1)]
    intro x hx
    simp only [List.mem_cons] at hx
    rcases hx with rfl | hx
    · simp
    · exact (h3 x hx).2
end Wf
