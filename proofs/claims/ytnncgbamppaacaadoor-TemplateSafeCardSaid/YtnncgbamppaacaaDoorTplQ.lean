/- Plain laws on templates: what the loops of the program and of the reference keep. -/
import Derived.Test.YtnncgbamppaacaaDoorTplP
set_option linter.all false
namespace Wf
open Go Go.RowKit
/-- The pieces around the places, whatever else stands in them. -/
def tplAll (t : Bytes) : List Bytes := Lib.splitK uriP 0 (Lib.count t uriP) t
theorem tplAll_end {t : Bytes} (h : Lib.index t uriP = -1) : tplAll t = [t] := by
  unfold tplAll
  rw [Lib.count_miss h]; rfl
theorem tplAll_step {t : Bytes} {k : Nat} (h : Lib.index t uriP = k) : tplAll t = t.take k :: tplAll (t.drop (k + 5)) := by
  have hc := Lib.count_hit (s := t) (sub := uriP) (i := k) (by decide) h
  rw [show uriP.length = 5 from rfl] at hc
  unfold tplAll
  rw [hc, Nat.add_comm 1, Lib.splitK, if_neg (by rw [h]; simp <;> omega), h]
  simp [uriP]
theorem tplAll_ne (t : Bytes) : tplAll t ≠ [] := by
  by_cases h : Lib.index t uriP = -1
  · rw [tplAll_end h]; simp
  · have := Lib.index_ge t uriP
    rw [tplAll_step (k := (Lib.index t uriP).toNat) (by omega)]; simp
theorem tpl_all (t : Bytes) : tpl t = if (tplAll t).any (·.any brace) then none else some (tplAll t) := tpl_split _ t rfl
theorem tplAll_two (t : Bytes) : (∃ x y l, tplAll t = x :: y :: l) ↔ 0 ≤ Lib.index t uriP := by
  have hge := Lib.index_ge t uriP
  by_cases h : Lib.index t uriP = -1
  · rw [tplAll_end h, h]
    simp
  · have e := tplAll_step (t := t) (k := (Lib.index t uriP).toNat) (by omega)
    refine ⟨fun _ => by omega, fun _ => ?_⟩
    rw [e]
    cases hq : tplAll (t.drop ((Lib.index t uriP).toNat + 5)) with
    | nil => exact absurd hq (tplAll_ne _)
    | cons y l => exact ⟨_, y, l, rfl⟩
theorem tplValid_all (t : Bytes) : tplValid t = (decide (0 ≤ Lib.index t uriP) && !(tplAll t).any (·.any brace)) := by
  have h2 := tplAll_two t
  unfold tplValid
  rw [tpl_all]
  cases hb : (tplAll t).any (·.any brace)
  · rw [if_neg (by simp)]
    simp only [Bool.not_false, Bool.and_true]
    by_cases hi : 0 ≤ Lib.index t uriP
    · obtain ⟨x, y, l, e⟩ := h2.2 hi
      rw [e, decide_eq_true hi]
    · rw [decide_eq_false hi]
      match hq : tplAll t with
      | [] => rfl
      | [_] => rfl
      | x :: y :: l => exact absurd (h2.1 ⟨x, y, l, hq⟩) hi
  · rw [if_pos rfl]; simp
theorem tpl_some {t : Bytes} (h : tplValid t = true) : tpl t = some (tplAll t) := by
  rw [tplValid_all] at h
  simp only [Bool.and_eq_true, Bool.not_eq_true'] at h
  rw [tpl_all, h.2, if_neg (by simp)]
theorem tplJoin_cons (e x : Bytes) {l : List Bytes} (h : l ≠ []) : tplJoin e (x :: l) = x ++ e ++ tplJoin e l := by
  cases l with
  | nil => exact absurd rfl h
  | cons y r => simp [tplJoin]
theorem tplJoin_snoc (e x : Bytes) (l : List Bytes) : tplJoin e (l ++ [x]) = tplJoin e l ++ (if l = [] then [] else e) ++ x := by
  cases l with
  | nil => simp [tplJoin]
  | cons y r => simp [tplJoin]
theorem tplJoin_take {e : Bytes} {l : List Bytes} {k : Nat} (h : k < l.length) : tplJoin e (l.take (k + 1)) = tplJoin e (l.take k) ++ (if k = 0 then [] else e) ++ l[k] := by
  rw [List.take_succ_eq_append_getElem h, tplJoin_snoc]
  congr 2
  cases k with
  | zero => simp
  | succ k => cases l with
    | nil => simp at h
    | cons x l => simp
/-- What is joined first is shorter. -/
theorem tplJoin_pre (e : Bytes) (l : List Bytes) (k : Nat) (h : k < l.length) (h0 : k ≠ 0) : (tplJoin e (l.take k)).length + e.length + l[k].length ≤ (tplJoin e l).length := by
  have h1 : ∀ m : List Bytes, m ≠ [] → ∀ r : List Bytes, tplJoin e (m ++ r) = tplJoin e m ++ r.flatMap (e ++ ·) := by
    intro m hm r
    cases m with
    | nil => exact absurd rfl hm
    | cons x m => simp [tplJoin]
  have e2 : l = l.take k ++ l[k] :: l.drop (k + 1) := by
    rw [← List.drop_eq_getElem_cons h, List.take_append_drop]
  conv => rhs; rw [e2]
  rw [h1 _ (fun hq => (List.take_eq_nil_iff.1 hq).elim h0 (fun hq => (by rw [hq] at h; simp at h)))]
  simp only [List.length_append, List.flatMap_cons]
  omega
theorem tplAll_len (t : Bytes) : ∀ x ∈ tplAll t, x.length ≤ t.length := by
  have : ∀ (n : Nat) (t : Bytes), t.length ≤ n → ∀ x ∈ tplAll t, x.length ≤ t.length := by
    intro n
    induction n with
    | zero =>
      intro t h x hx
      by_cases hi : Lib.index t uriP = -1
      · rw [tplAll_end hi] at hx; rw [List.mem_singleton.1 hx]; omega
      · have hg := Lib.index_ge t uriP
        have := Lib.index_room t uriP (by omega)
        rw [show uriP.length = 5 from rfl] at this
        omega
    | succ n ih =>
      intro t h x hx
      by_cases hi : Lib.index t uriP = -1
      · rw [tplAll_end hi] at hx; rw [List.mem_singleton.1 hx]; omega
      · have hg := Lib.index_ge t uriP
        have hr := Lib.index_room t uriP (by omega)
        rw [show uriP.length = 5 from rfl] at hr
        rw [tplAll_step (k := (Lib.index t uriP).toNat) (by omega)] at hx
        rcases List.mem_cons.1 hx with rfl | hx
        · simp; omega
        · have := ih _ (by simp; omega) x hx
          simp at this; omega
  exact this _ t (Nat.le_refl _)
theorem tplAll_cnt (t : Bytes) : (tplAll t).length ≤ t.length + 1 := by
  have : ∀ (n : Nat) (t : Bytes), t.length ≤ n → (tplAll t).length ≤ t.length + 1 := by
    intro n
    induction n with
    | zero =>
      intro t h
      by_cases hi : Lib.index t uriP = -1
      · rw [tplAll_end hi]; simp
      · have hg := Lib.index_ge t uriP
        have := Lib.index_room t uriP (by omega)
        rw [show uriP.length = 5 from rfl] at this
        omega
    | succ n ih =>
      intro t h
      by_cases hi : Lib.index t uriP = -1
      · rw [tplAll_end hi]; simp
      · have hg := Lib.index_ge t uriP
        have hr := Lib.index_room t uriP (by omega)
        rw [show uriP.length = 5 from rfl] at hr
        rw [tplAll_step (k := (Lib.index t uriP).toNat) (by omega)]
        have := ih (t.drop ((Lib.index t uriP).toNat + 5)) (by simp; omega)
        simp at this ⊢; omega
  exact this _ t (Nat.le_refl _)
theorem brace_two (s : Bytes) : decide ((123 : UInt8) ∈ s ∨ (125 : UInt8) ∈ s) = s.any brace := by
  rw [Bool.eq_iff_iff]
  simp only [decide_eq_true_eq, List.any_eq_true, brace, Bool.or_eq_true, beq_iff_eq]
  constructor
  · rintro (h | h)
    · exact ⟨_, h, .inl rfl⟩
    · exact ⟨_, h, .inr rfl⟩
  · rintro ⟨x, h, rfl | rfl⟩
    · exact .inl h
    · exact .inr h
/-! The reference's parts. -/
theorem tplGo_pre {cur r : Bytes} (h : Lib.hasPrefix r uriP = true) : tplGo 0 cur r = (tpl (r.drop 5)).map (cur :: ·) := by
  obtain ⟨q, rfl⟩ := List.isPrefixOf_iff_prefix.1 h
  rw [tplGo_hit]; rfl
theorem tplGo_no {cur : Bytes} {c : UInt8} {r : Bytes} (h : Lib.hasPrefix (c :: r) uriP = false) : tplGo 0 cur (c :: r) = if brace c then none else tplGo 0 (cur ++ [c]) r := by
  rw [tplGo, if_neg (by unfold Lib.hasPrefix at h; simp [h])]
end Wf
