/- Plain: the parts of a DID URL, cut from the other end; and the segments of an ID. -/
import Derived.Test.YtnncgbamppaacaaDoorDidQ
set_option linter.all false
namespace Wf
open Go Go.RowKit
theorem pre_past {p : UInt8 → Bool} : ∀ {a : Bytes} (r : Bytes), (∀ c ∈ a, p c = false) → pre p (a ++ r) = a.length + pre p r
  | [], r, _ => by simp
  | c :: a, r, h => by
    have h1 := h c List.mem_cons_self
    have ih := pre_past (a := a) r (fun d hd => h d (List.mem_cons_of_mem _ hd))
    rw [List.cons_append, pre_cons, h1, if_neg (by simp), ih, List.length_cons]
    omega
theorem cutC_past {c : UInt8} {a : Bytes} (r : Bytes) (h : c ∉ a) : cutC c (a ++ r) = (a ++ (cutC c r).1, (cutC c r).2.1, (cutC c r).2.2) := by
  have hp : pre (· == c) (a ++ r) = a.length + pre (· == c) r := pre_past r fun d hd => by
    have : d ≠ c := by rintro rfl; exact h hd
    simpa using this
  by_cases hr : pre (· == c) r < r.length
  · rw [show cutC c r = (r.take (pre (· == c) r), r.drop (pre (· == c) r + 1), true) from if_pos hr]
    rw [show cutC c (a ++ r) = ((a ++ r).take (pre (· == c) (a ++ r)), (a ++ r).drop (pre (· == c) (a ++ r) + 1), true) from if_pos (by rw [hp, List.length_append]; omega)]
    rw [hp, List.take_length_add_append, Nat.add_assoc, List.drop_length_add_append]
  · have hle := pre_le (· == c) r
    rw [cutC_none (s := r) (by omega), cutC_none (s := a ++ r) (by rw [hp, List.length_append]; omega)]
/-- What stands ahead of path, query and fragment. -/
def didHead (s : Bytes) : Nat := pre ([47, 63, 35].contains ·) s
theorem didUrlOf_ref (s : Bytes) : didUrlOf (cutC 63 (cutC 35 s).1).1 (cutC 63 (cutC 35 s).1).2.1 (cutC 35 s).2.1 (cutC 63 (cutC 35 s).1).2.2 (cutC 35 s).2.2 =
    didUrlEnd (didParse (s.take (didHead s))) (pctNorm inPath (cutC 63 (cutC 35 (s.drop (didHead s))).1).1) (pctNorm inQuery (cutC 63 (cutC 35 (s.drop (didHead s))).1).2.1) (pctNorm inQuery (cutC 35 (s.drop (didHead s))).2.1)
      (cutC 63 (cutC 35 (s.drop (didHead s))).1).2.2 (cutC 35 (s.drop (didHead s))).2.2 := by
  have hk := pre_le ([47, 63, 35].contains ·) s
  have hall : ∀ c ∈ s.take (didHead s), [47, 63, 35].contains c = false := by
    intro c hc
    obtain ⟨j, hj, rfl⟩ := List.getElem_of_mem hc
    have hj2 : j < didHead s ∧ j < s.length := by rw [List.length_take] at hj; omega
    rw [List.getElem_take]
    exact pre_get (p := ([47, 63, 35].contains ·)) (k := j) hj2.1 hj2.2
  have hst : s.drop (didHead s) = [] ∨ ∃ c r, s.drop (didHead s) = c :: r ∧ [47, 63, 35].contains c = true := by
    rcases Nat.lt_or_ge (didHead s) s.length with h | h
    · exact .inr ⟨_, _, List.drop_eq_getElem_cons h, pre_at (p := ([47, 63, 35].contains ·)) h⟩
    · exact .inl (List.drop_eq_nil_of_le h)
  have e : s = s.take (didHead s) ++ s.drop (didHead s) := (List.take_append_drop _ _).symm
  generalize s.take (didHead s) = a at *
  generalize s.drop (didHead s) = r at *
  clear hk
  subst e
  have n1 : (35 : UInt8) ∉ a := fun h => by have := hall _ h; revert this; decide
  have n2 : (63 : UInt8) ∉ a := fun h => by have := hall _ h; revert this; decide
  have n3 : ∀ c ∈ a, (c == 47) = false := fun c h => by
    have h1 := hall c h
    have : c ≠ 47 := by rintro rfl; revert h1; decide
    simpa using this
  rw [cutC_past r n1]
  simp only
  rw [cutC_past _ n2]
  simp only
  unfold didUrlOf
  have hr2 : (cutC 63 (cutC 35 r).1).1 = [] ∨ ∃ q, (cutC 63 (cutC 35 r).1).1 = 47 :: q := by
    rcases hst with rfl | ⟨c, q, rfl, hc⟩
    · exact .inl rfl
    · have hc : c = 47 ∨ c = 63 ∨ c = 35 := by simpa using hc
      rcases hc with rfl | rfl | rfl
      · right
        have h1 : cutC 35 (47 :: q) = (47 :: (cutC 35 q).1, (cutC 35 q).2.1, (cutC 35 q).2.2) := cutC_past (a := [47]) q (by decide)
        rw [h1]
        simp only
        have h2 : cutC 63 (47 :: (cutC 35 q).1) = (47 :: (cutC 63 (cutC 35 q).1).1, (cutC 63 (cutC 35 q).1).2.1, (cutC 63 (cutC 35 q).1).2.2) := cutC_past (a := [47]) _ (by decide)
        rw [h2]
        exact ⟨_, rfl⟩
      · left
        have h1 : cutC 35 (63 :: q) = (63 :: (cutC 35 q).1, (cutC 35 q).2.1, (cutC 35 q).2.2) := cutC_past (a := [63]) q (by decide)
        rw [h1]
        rfl
      · left; rfl
  generalize (cutC 63 (cutC 35 r).1).1 = r2 at hr2 ⊢
  have hp : pre (· == 47) (a ++ r2) = a.length := by
    rw [pre_past r2 n3]
    rcases hr2 with rfl | ⟨q, rfl⟩
    · rfl
    · rfl
  rw [hp, List.take_left, List.drop_left]
/-! The segments of an ID, as the reference takes them. -/
theorem split_segs (c : UInt8) : ∀ (n : Nat) (s : Bytes), s.length ≤ n → ∃ x l, splitC c s = x :: l ∧ s = x ++ l.flatMap (c :: ·) ∧ ∀ y ∈ x :: l, c ∉ y := by
  intro n
  induction n with
  | zero =>
    intro s h
    obtain rfl := List.length_eq_zero_iff.1 (Nat.le_zero.1 h)
    exact ⟨[], [], rfl, rfl, by simp⟩
  | succ n ih =>
    intro s h
    have hno : c ∉ s.take (pre (· == c) s) := by
      intro hm
      obtain ⟨j, hj, e⟩ := List.getElem_of_mem hm
      have hj2 : j < pre (· == c) s ∧ j < s.length := by rw [List.length_take] at hj; omega
      have := pre_get (p := (· == c)) (l := s) (k := j) hj2.1 hj2.2
      rw [List.getElem_take] at e
      rw [e] at this
      simp at this
    by_cases hp : pre (· == c) s < s.length
    · obtain ⟨x, l, e1, e2, e3⟩ := ih (s.drop (pre (· == c) s + 1)) (by simp; omega)
      refine ⟨s.take (pre (· == c) s), x :: l, by rw [splitC_hit hp, e1], ?_, ?_⟩
      · have hg := pre_at hp
        simp only [beq_iff_eq] at hg
        conv => lhs; rw [← List.take_append_drop (pre (· == c) s) s, List.drop_eq_getElem_cons hp, hg, e2]
        simp
      · intro y hy
        rcases List.mem_cons.1 hy with rfl | hy
        · exact hno
        · exact e3 y hy
    · have hq := pre_le (· == c) s
      rw [List.take_of_length_le (by omega)] at hno
      exact ⟨s, [], splitC_miss hp, by simp, by simpa using hno⟩
def segsJoin : List Bytes → Bytes
  | [] => []
  | x :: l => segsId x l
theorem segsJoin_snoc (l : List Bytes) (y : Bytes) : segsJoin (l ++ [y]) = segsJoin l ++ (if l = [] then [] else [58]) ++ didEsc (decV y) := by
  cases l with
  | nil => simp [segsJoin, segsId]
  | cons x l => simp [segsJoin, segsId]
theorem segsJoin_take {l : List Bytes} {k : Nat} (h : k < l.length) : segsJoin (l.take (k + 1)) = segsJoin (l.take k) ++ (if k = 0 then [] else [58]) ++ didEsc (decV l[k]) := by
  rw [List.take_succ_eq_append_getElem h, segsJoin_snoc]
  congr 2
  cases k with
  | zero => simp
  | succ k => cases l with
    | nil => simp at h
    | cons x l => simp
theorem didB_len (c : UInt8) : (didB c).length ≤ 3 := by unfold didB; split <;> simp [esc]
theorem didEsc_len (s : Bytes) : (didEsc s).length ≤ 3 * s.length := by
  induction s with
  | nil => simp [didEsc]
  | cons c s ih =>
    have := didB_len c
    show (didB c ++ didEsc s).length ≤ _
    rw [List.length_append, List.length_cons]
    omega
theorem unitsGo_cnt : ∀ (f : Nat) (s : Bytes), (unitsGo f s).length ≤ f
  | 0, s => by simp [unitsGo]
  | f + 1, [] => by simp [unitsGo]
  | f + 1, c :: r => by
    rw [unitsGo]
    split
    · split
      · rename_i a b r' h
        have := unitsGo_cnt f r'
        simpa using this
      · simp
    · have := unitsGo_cnt f r
      simpa using this
theorem decV_len (y : Bytes) : (decV y).length ≤ y.length := by
  have := unitsGo_cnt y.length y
  simpa [decV, units] using this
theorem segsJoin_len : ∀ (l : List Bytes), (segsJoin l).length ≤ 3 * l.flatten.length + l.length
  | [] => by simp [segsJoin]
  | x :: l => by
    have h1 := didEsc_len (decV x)
    have h2 := decV_len x
    have h3 : ∀ m : List Bytes, (m.flatMap fun y => 58 :: didEsc (decV y)).length ≤ 3 * m.flatten.length + m.length := by
      intro m
      induction m with
      | nil => simp
      | cons y m ih =>
        have k1 := didEsc_len (decV y)
        have k2 := decV_len y
        simp only [List.flatMap_cons, List.length_append, List.length_cons, List.flatten_cons] at ih ⊢
        omega
    have h4 := h3 l
    simp only [segsJoin, segsId, List.length_append, List.flatten_cons, List.length_cons]
    omega
theorem didEnd_segs (m s : Bytes) : didEnd m (didCanon s) =
    if ∃ y ∈ splitC 58 s, PU.bad ∈ units y then (Did.none, 2) else if (splitC 58 s).all segPlain = false then (Did.none, 1)
    else if (splitC 58 s).getLast? = some [] then (Did.none, 3) else (⟨m, segsJoin (splitC 58 s)⟩, 0) := by
  obtain ⟨x, l, e1, e2, e3⟩ := split_segs 58 _ s (Nat.le_refl _)
  rw [e1, segs_canon e2 e3]
  by_cases hb : ∃ y ∈ x :: l, PU.bad ∈ units y
  · rw [if_pos hb, if_pos hb]; rfl
  rw [if_neg hb, if_neg hb]
  by_cases ha : (x :: l).all segPlain = false
  · rw [if_pos ha, if_pos ha]; rfl
  rw [if_neg ha, if_neg ha]
  have hb : ∀ y ∈ x :: l, PU.bad ∉ units y := fun y hy k => hb ⟨y, hy, k⟩
  have hs := segs_last hb
  unfold didEnd
  rw [if_neg (by simp)]
  by_cases hq : (x :: l).getLast? = some []
  · rw [if_pos hq, if_pos (hs.2 hq)]
  · rw [if_neg hq, if_neg (fun k => hq (hs.1 k))]; rfl
theorem decode_seg {y : Bytes} (h : y.length ≤ 16384) : pctDecode y = if PU.bad ∈ units y then ([], 2) else (decV y, 0) := if_neg (by omega)
end Wf
