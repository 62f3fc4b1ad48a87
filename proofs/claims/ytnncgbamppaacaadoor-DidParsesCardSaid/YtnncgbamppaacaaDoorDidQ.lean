/- Plain laws on DIDs: what the program and the reference compute for an identifier. -/
import Derived.Test.YtnncgbamppaacaaDoorDidP
import Derived.Lib.Replace
set_option linter.all false
namespace Wf
open Go Go.RowKit
def repB (c : UInt8) (new : Bytes) (d : UInt8) : Bytes := if d = c then new else [d]
theorem rep_none {c : UInt8} {new s : Bytes} (h : c ∉ s) : s.flatMap (repB c new) = s := by
  induction s with
  | nil => rfl
  | cons d s ih =>
    simp only [List.mem_cons, not_or] at h
    rw [List.flatMap_cons, ih h.2]
    unfold repB
    rw [if_neg (fun e => h.1 e.symm)]; rfl
theorem replaceK_one (c : UInt8) (new : Bytes) : ∀ (k : Nat) (s : Bytes), s.count c = k → Lib.replaceK [c] new k s = s.flatMap (repB c new) := by
  intro k
  induction k with
  | zero =>
    intro s h
    rw [rep_none (fun hm => by have := List.count_pos_iff.2 hm; omega)]; rfl
  | succ k ih =>
    intro s h
    by_cases hp : pre (· == c) s < s.length
    · have hk : Lib.index s [c] = (pre (· == c) s : Nat) := by rw [index_one, indexByte_pre, if_pos hp]
      rw [Lib.replaceK_hit [c] new k s _ hk]
      rw [count_pre hp] at h
      have e : s = s.take (pre (· == c) s) ++ c :: s.drop (pre (· == c) s + 1) := by
        have := pre_at hp
        simp only [beq_iff_eq] at this
        conv => lhs; rw [← List.take_append_drop (pre (· == c) s) s, List.drop_eq_getElem_cons hp, this]
      have hn : c ∉ s.take (pre (· == c) s) := by
        intro hm
        have h1 := pre_take (· == c) s
        obtain ⟨j, hj, e⟩ := List.getElem_of_mem hm
        have := pre_get (p := (· == c)) (l := s.take (pre (· == c) s)) (k := j) (by omega) hj
        rw [e] at this
        simp at this
      rw [show [c].length = 1 from rfl, ih _ (by omega)]
      conv => rhs; rw [e, List.flatMap_append, List.flatMap_cons, rep_none hn]
      simp [repB]
    · rw [count_zero hp] at h; omega
theorem replaceAll_one (c : UInt8) (new s : Bytes) (hne : ([c] == new) = false) : Lib.replaceAll s [c] new = s.flatMap (repB c new) := by
  unfold Lib.replaceAll Lib.replace Lib.replaceNum
  rw [hne, if_neg (by simp), if_pos (.inl (by omega)), Lib.count_one, replaceK_one c new _ s rfl]
/-! The program's way. -/
def nU : PU → Bytes
  | .lit c => [c]
  | .hex a b => normB (unhex a b)
  | .bad => []
def litKeep (also : Bytes) : PU → Bool
  | .lit c => keepB also c
  | _ => true
theorem normU_nobad (also : Bytes) : ∀ l : List PU, PU.bad ∉ l → normU also l = if l.all (litKeep also) then (l.flatMap nU, 0) else ([], 1)
  | [], _ => rfl
  | .bad :: r, h => by simp at h
  | .lit c :: r, h => by
    rw [normU, normU_nobad also r (by simpa using h), List.all_cons]
    cases hk : keepB also c
    · simp [litKeep, hk]
    · cases hr : r.all (litKeep also) <;> simp [litKeep, hk, comb, nU]
  | .hex a b :: r, h => by
    rw [normU, normU_nobad also r (by simpa using h), List.all_cons]
    cases hr : r.all (litKeep also) <;> simp [litKeep, comb, nU]
def progCanon (s : Bytes) : Bytes × Int :=
  if (pctDecode s).2 ≠ 0 then ([], (pctDecode s).2)
  else ((pctNorm [58] s).1.flatMap (repB 126 [37, 55, 69]), if (pctNorm [58] s).2 = 0 ∧ (126 : UInt8) ∈ s then 1 else (pctNorm [58] s).2)
theorem rep_norm (v : UInt8) : (normB v).flatMap (repB 126 [37, 55, 69]) = didB v := by
  have := all256 (p := fun v => (normB v).flatMap (repB 126 [37, 55, 69]) == didB v) (by decide +kernel) v
  simpa using this
theorem lit_mem {s : Bytes} {c : UInt8} (hb : PU.bad ∉ units s) (hc : c ≠ 37) (hx : isHex c = false) : c ∈ s ↔ PU.lit c ∈ units s := by
  have hs := units_back hb
  constructor
  · intro h
    rw [← hs] at h
    obtain ⟨u, hu, h⟩ := List.mem_flatMap.1 h
    cases u with
    | lit d => obtain rfl := List.mem_singleton.1 h; exact hu
    | hex a b =>
      have := units_hexes hu
      simp only [PU.str, List.mem_cons, List.not_mem_nil, or_false] at h
      rcases h with rfl | rfl | rfl
      · exact absurd rfl hc
      · rw [this.1] at hx; cases hx
      · rw [this.2] at hx; cases hx
    | bad => simp [PU.str] at h
  · intro h
    rw [← hs]
    exact List.mem_flatMap.2 ⟨_, h, List.mem_singleton.2 rfl⟩
theorem progCanon_eq (s : Bytes) (hl : s.length ≤ 16384) : (progCanon s).2 = (didCanon s).2 ∧ ((didCanon s).2 = 0 → (progCanon s).1 = (didCanon s).1) := by
  have d1 : pctDecode s = if PU.bad ∈ units s then ([], 2) else ((units s).map PU.val, 0) := if_neg (by omega)
  have d2 : pctNorm [58] s = normU [58] (units s) := by unfold pctNorm; first | rfl | exact if_neg (by omega)
  unfold progCanon didCanon
  rw [d1, d2]
  clear d1 d2
  by_cases hb : PU.bad ∈ units s
  · rw [if_pos hb, if_pos hb]; simp
  · rw [if_neg hb, if_neg hb, normU_nobad [58] _ hb]
    simp only [ne_eq, not_true, if_false]
    have key : ∀ c : UInt8, (plainD c || c == 58) = (keepB [58] c && c != 126) := fun c => by
      have := all256 (p := fun c => (plainD c || c == 58) == (keepB [58] c && c != 126)) (by decide +kernel) c
      simpa using this
    have h126 := lit_mem (s := s) (c := 126) hb (by decide) (by decide)
    generalize units s = l at *
    by_cases ha : l.all (litKeep [58]) = true
    · rw [if_pos ha]
      by_cases hm : PU.lit 126 ∈ l
      · have hno : l.all litOk = false := by
          rw [← Bool.not_eq_true]
          intro h
          have := List.all_eq_true.1 h _ hm
          revert this; decide
        rw [if_pos hno, if_pos ⟨rfl, h126.2 hm⟩]
        exact ⟨rfl, fun h => by simp at h⟩
      · have hyes : ¬ l.all litOk = false := by
          rw [Bool.not_eq_false]
          refine List.all_eq_true.2 fun u hu => ?_
          have := List.all_eq_true.1 ha u hu
          cases u with
          | lit c =>
            show (plainD c || c == 58) = true
            rw [key]
            have h1 : keepB [58] c = true := this
            rw [h1, Bool.true_and, bne_iff_ne]
            rintro rfl; exact hm hu
          | hex a b => rfl
          | bad => rfl
        rw [if_neg hyes, if_neg (fun k => hm (h126.1 k.2))]
        refine ⟨rfl, fun _ => ?_⟩
        show (l.flatMap nU).flatMap (repB 126 [37, 55, 69]) = l.flatMap didU
        clear hyes h126 ha
        induction l with
        | nil => rfl
        | cons u l ih =>
          rw [List.flatMap_cons, List.flatMap_append, List.flatMap_cons, ih (fun k => hb (List.mem_cons_of_mem _ k)) (fun k => hm (List.mem_cons_of_mem _ k)) rfl]
          congr 1
          cases u with
          | lit c =>
            have : c ≠ 126 := by rintro rfl; exact hm List.mem_cons_self
            show ([c] : Bytes).flatMap (repB 126 [37, 55, 69]) = [c]
            simp [repB, this]
          | hex a b => exact rep_norm _
          | bad => rfl
    · rw [if_neg ha]
      have hno : l.all litOk = false := by
        rw [← Bool.not_eq_true]
        intro h
        refine ha (List.all_eq_true.2 fun u hu => ?_)
        have := List.all_eq_true.1 h u hu
        cases u with
        | lit c =>
          have h1 : (plainD c || c == 58) = true := this
          rw [key, Bool.and_eq_true] at h1
          exact h1.1
        | hex a b => rfl
        | bad => rfl
      rw [if_pos hno, if_neg (by simp)]
      exact ⟨rfl, fun h => by simp at h⟩
/-! The reference's way: segment by segment. -/
theorem units_app_bad : ∀ (n : Nat) (a b : Bytes), a.length ≤ n → PU.bad ∈ units a → PU.bad ∈ units (a ++ 58 :: b)
  | _, [], b, _, h => by simp [units_nil] at h
  | 0, c :: a, b, h, _ => by simp at h
  | n + 1, c :: a, b, h, hb => by
    simp only [List.length_cons] at h
    by_cases hc : c = 37
    · subst hc
      cases hp : hexPair a with
      | none =>
        have : hexPair (a ++ 58 :: b) = none := by
          rcases a with _ | ⟨u, _ | ⟨v, r⟩⟩
          · cases b <;> simp [hexPair, show isHex 58 = false by decide]
          · simp [hexPair, show isHex 58 = false by decide]
          · unfold hexPair at hp ⊢
            simp only [List.cons_append]
            by_cases hx : (isHex u && isHex v) = true
            · simp [hx] at hp
            · simp [hx]
        rw [List.cons_append, units_bad this]; simp
      | some x =>
        obtain ⟨u, v, r⟩ := x
        obtain ⟨rfl, h1, h2⟩ := hexPair_some hp
        rw [units_hex h1 h2] at hb
        simp only [List.length_cons] at h
        simp only [List.cons_append]
        rw [units_hex h1 h2]
        exact List.mem_cons_of_mem _ (units_app_bad n r b (by omega) (by simpa using hb))
    · rw [units_lit hc] at hb
      rw [List.cons_append, units_lit hc]
      exact List.mem_cons_of_mem _ (units_app_bad n a b (by omega) (by simpa using hb))
/-- Are all segments free of malformed escapes, and what do they make? -/
theorem segs_units : ∀ (l : List Bytes) (x : Bytes), ((∃ y ∈ x :: l, PU.bad ∈ units y) ↔ PU.bad ∈ units (x ++ l.flatMap (58 :: ·))) ∧
    ((∀ y ∈ x :: l, PU.bad ∉ units y) → units (x ++ l.flatMap (58 :: ·)) = units x ++ l.flatMap (fun y => .lit 58 :: units y))
  | [], x => by simp
  | y :: l, x => by
    obtain ⟨h1, h2⟩ := segs_units l y
    have e : x ++ (y :: l).flatMap (58 :: ·) = x ++ 58 :: (y ++ l.flatMap (58 :: ·)) := by simp
    rw [e]
    constructor
    · constructor
      · rintro ⟨z, hz, hb⟩
        by_cases hx : PU.bad ∈ units x
        · exact units_app_bad _ _ _ (Nat.le_refl _) hx
        · rw [units_app_colon _ _ _ (Nat.le_refl _) hx]
          rcases List.mem_cons.1 hz with rfl | hz
          · exact absurd hb hx
          · exact List.mem_append_right _ (List.mem_cons_of_mem _ (h1.1 ⟨z, hz, hb⟩))
      · intro hb
        by_cases hx : PU.bad ∈ units x
        · exact ⟨x, List.mem_cons_self, hx⟩
        · rw [units_app_colon _ _ _ (Nat.le_refl _) hx] at hb
          rcases List.mem_append.1 hb with hb | hb
          · exact absurd hb hx
          · simp only [List.mem_cons, reduceCtorEq, false_or] at hb
            obtain ⟨z, hz, hb⟩ := h1.2 hb
            exact ⟨z, List.mem_cons_of_mem _ hz, hb⟩
    · intro h
      rw [units_app_colon _ _ _ (Nat.le_refl _) (h x List.mem_cons_self), h2 (fun z hz => h z (List.mem_cons_of_mem _ hz))]
      simp
def segPlain (y : Bytes) : Bool := y.all fun c => plainD c || c == 37
def decV (y : Bytes) : Bytes := (units y).map PU.val
theorem hex_plain {c : UInt8} (h : isHex c = true) : plainD c = true := by
  have := all256 (p := fun c => !(isHex c) || plainD c) (by decide +kernel) c
  rw [h] at this
  simpa using this
theorem segPlain_units {y : Bytes} (hb : PU.bad ∉ units y) (hc : (58 : UInt8) ∉ y) : segPlain y = (units y).all litOk := by
  have key : ∀ l : List PU, (∀ a b, PU.hex a b ∈ l → isHex a = true ∧ isHex b = true) → (∀ c, PU.lit c ∈ l → c ≠ 37) → (58 : UInt8) ∉ l.flatMap PU.str →
      (l.flatMap PU.str).all (fun c => plainD c || c == 37) = l.all litOk := by
    intro l
    induction l with
    | nil => intros; rfl
    | cons u l ih =>
      intro hh hl hc
      have ih := ih (fun a b k => hh a b (List.mem_cons_of_mem _ k)) (fun c k => hl c (List.mem_cons_of_mem _ k)) (fun k => hc (by rw [List.flatMap_cons]; exact List.mem_append_right _ k))
      rw [List.flatMap_cons, List.all_append, List.all_cons, ih]
      congr 1
      cases u with
      | lit c =>
        have h1 : c ≠ 37 := hl c List.mem_cons_self
        have h2 : c ≠ 58 := by rintro rfl; exact hc (by simp [PU.str])
        have e1 : (c == 37) = false := by simpa using h1
        have e2 : (c == 58) = false := by simpa using h2
        simp [PU.str, litOk, e1, e2]
      | hex a b =>
        obtain ⟨h1, h2⟩ := hh a b List.mem_cons_self
        simp [PU.str, litOk, hex_plain h1, hex_plain h2]
      | bad => rfl
  have := key (units y) (fun a b => units_hexes) (units_litne y) (by rw [units_back hb]; exact hc)
  rw [units_back hb] at this
  exact this
theorem didEsc_units2 {l : List PU} (h : ∀ c, PU.lit c ∈ l → plainD c = true) (hb : PU.bad ∉ l) : l.flatMap didU = didEsc (l.map PU.val) := by
  induction l with
  | nil => rfl
  | cons u l ih =>
    have ih := ih (fun c k => h c (List.mem_cons_of_mem _ k)) (fun k => hb (List.mem_cons_of_mem _ k))
    rw [List.flatMap_cons, ih, List.map_cons]
    show _ = didB u.val ++ didEsc (l.map PU.val)
    congr 1
    cases u with
    | lit c => simp [didU, PU.val, didB, h c List.mem_cons_self]
    | hex a b => rfl
    | bad => exact absurd List.mem_cons_self hb
/-- What the segments make. -/
def segsId (x : Bytes) (l : List Bytes) : Bytes := didEsc (decV x) ++ l.flatMap fun y => 58 :: didEsc (decV y)
theorem segs_canon {s x : Bytes} {l : List Bytes} (e : s = x ++ l.flatMap (58 :: ·)) (hn : ∀ y ∈ x :: l, (58 : UInt8) ∉ y) :
    didCanon s = if ∃ y ∈ x :: l, PU.bad ∈ units y then ([], 2) else if (x :: l).all segPlain = false then ([], 1) else (segsId x l, 0) := by
  obtain ⟨h1, h2⟩ := segs_units l x
  rw [← e] at h1 h2
  unfold didCanon
  by_cases hb : ∃ y ∈ x :: l, PU.bad ∈ units y
  · rw [if_pos hb, if_pos (h1.1 hb)]
  · rw [if_neg hb, if_neg (fun k => hb (h1.2 k))]
    have hb : ∀ y ∈ x :: l, PU.bad ∉ units y := fun y hy k => hb ⟨y, hy, k⟩
    rw [h2 hb]
    have hall : (units x ++ l.flatMap fun y => PU.lit 58 :: units y).all litOk = (x :: l).all segPlain := by
      rw [List.all_append, List.all_cons, segPlain_units (hb x List.mem_cons_self) (hn x List.mem_cons_self)]
      congr 1
      have : ∀ m : List Bytes, (∀ y ∈ m, PU.bad ∉ units y ∧ (58 : UInt8) ∉ y) → (m.flatMap fun y => PU.lit 58 :: units y).all litOk = m.all segPlain := by
        intro m
        induction m with
        | nil => intro _; rfl
        | cons y m ih =>
          intro hm
          rw [List.flatMap_cons, List.all_append, List.all_cons, List.all_cons, ih (fun z hz => hm z (List.mem_cons_of_mem _ hz)), segPlain_units (hm y List.mem_cons_self).1 (hm y List.mem_cons_self).2]
          rfl
      exact this l fun y hy => ⟨hb y (List.mem_cons_of_mem _ hy), hn y (List.mem_cons_of_mem _ hy)⟩
    rw [hall]
    by_cases ha : (x :: l).all segPlain = false
    · rw [if_pos ha, if_pos ha]
    · rw [if_neg ha, if_neg ha]
      have ha : (x :: l).all segPlain = true := by simpa using ha
      congr 1
      have hp : ∀ y ∈ x :: l, (units y).flatMap didU = didEsc (decV y) := by
        intro y hy
        refine didEsc_units2 (fun c hc => ?_) (hb y hy)
        have h3 := List.all_eq_true.1 ha y hy
        rw [segPlain_units (hb y hy) (hn y hy)] at h3
        have h4 : (plainD c || c == 58) = true := List.all_eq_true.1 h3 _ hc
        have h5 : c ≠ 58 := by
          rintro rfl
          exact hn y hy ((lit_mem (hb y hy) (by decide) (by decide)).2 hc)
        simpa [h5] using h4
      rw [List.flatMap_append, hp x List.mem_cons_self]
      unfold segsId
      congr 1
      have : ∀ m : List Bytes, (∀ y ∈ m, (units y).flatMap didU = didEsc (decV y)) → (m.flatMap fun y => PU.lit 58 :: units y).flatMap didU = m.flatMap fun y => 58 :: didEsc (decV y) := by
        intro m
        induction m with
        | nil => intro _; rfl
        | cons y m ih =>
          intro hm
          rw [List.flatMap_cons, List.flatMap_append, List.flatMap_cons, List.flatMap_cons, ih (fun z hz => hm z (List.mem_cons_of_mem _ hz)), hm y List.mem_cons_self]
          rfl
      exact this l fun y hy => hp y (List.mem_cons_of_mem _ hy)
theorem esc_no58 (s : Bytes) : (58 : UInt8) ∉ didEsc s := by
  intro hc
  obtain ⟨d, -, hd⟩ := List.mem_flatMap.1 hc
  have h1 := all256 (p := fun d => (didB d).all fun c => c != 58) (by decide +kernel) d
  have := List.all_eq_true.1 h1 _ hd
  simp at this
theorem esc_nil {s : Bytes} : didEsc s = [] ↔ s = [] := by
  constructor
  · intro h
    cases s with
    | nil => rfl
    | cons c s =>
      have : didB c ++ didEsc s = [] := h
      have h2 : didB c = [] := (List.append_eq_nil_iff.1 this).1
      unfold didB esc at h2
      split at h2 <;> simp at h2
  · rintro rfl; rfl
theorem decV_nil {y : Bytes} (hb : PU.bad ∉ units y) : decV y = [] ↔ y = [] := by
  constructor
  · intro h
    have : units y = [] := List.map_eq_nil_iff.1 h
    rw [← units_back hb, this]; rfl
  · rintro rfl; rfl
/-- The last segment is empty. -/
theorem segs_last {x : Bytes} {l : List Bytes} (hb : ∀ y ∈ x :: l, PU.bad ∉ units y) : (segsId x l = [] ∨ (segsId x l).getLast? = some 58) ↔ (x :: l).getLast? = some [] := by
  have last : ∀ y : Bytes, (didEsc y).getLast? ≠ some 58 := fun y k => esc_no58 y (List.mem_of_getLast? k)
  rcases List.eq_nil_or_concat l with rfl | ⟨m, z, rfl⟩
  · unfold segsId
    rw [List.flatMap_nil, List.append_nil, esc_nil, decV_nil (hb x List.mem_cons_self)]
    simp [last]
  · rw [List.concat_eq_append] at *
    have hz := hb z (by simp)
    have e : segsId x (m ++ [z]) = segsId x m ++ 58 :: didEsc (decV z) := by simp [segsId]
    rw [e, show x :: (m ++ [z]) = (x :: m) ++ [z] by simp, List.getLast?_append, List.getLast?_append]
    simp only [List.getLast?_singleton, Option.some_or, Option.some.injEq]
    constructor
    · rintro (h | h)
      · simp at h
      · cases hd : didEsc (decV z) with
        | nil => exact (decV_nil hz).1 (esc_nil.1 hd)
        | cons a r =>
          rw [hd] at h
          rw [List.getLast?_cons_cons, ← hd] at h
          cases hq : (didEsc (decV z)).getLast? with
          | none => rw [List.getLast?_eq_none_iff] at hq; rw [hq] at hd; cases hd
          | some w => rw [hq] at h; exact absurd (by rw [hq]; simpa using h) (last (decV z))
    · rintro rfl
      right
      simp [decV, units_nil, didEsc]
end Wf
