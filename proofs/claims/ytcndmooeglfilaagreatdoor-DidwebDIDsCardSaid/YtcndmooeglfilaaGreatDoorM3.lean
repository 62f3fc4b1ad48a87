/- Texts of this claim, laid together: PlainQ, AcctP, DidP, DidQ, DidR, WebP, WebQ, VcB, Row, IdxAny, Ascii, Bytes, Ascii2, Lib, Bld, Bld2, Pct, Uri. -/
import Derived.Lib.Replace
import Derived.Lib.OthersKept
import Derived.Deep.QuietTactic
import Derived.BigQuiet
import Derived.Test.YtcndmooeglfilaaGreatDoorProg
import Derived.Lib.ConvBytes
import Derived.Laws.IdiomStrings
import Derived.Test.YtcndmooeglfilaaGreatDoorM2
/- Plain laws: hosts, URIs, canonical strings, URLs. -/
set_option linter.all false
namespace Wf
open Go Go.RowKit
theorem lowerC_all (c : UInt8) : lowerC (lowerC c) = lowerC c ∧ ldh (lowerC c) = ldh c ∧ isDigit (lowerC c) = isDigit c ∧ (lowerC c == 45) = (c == 45) ∧ (lowerC c == 46) = (c == 46) ∧ (lowerC c == 58) = (c == 58) ∧ (isDigit c = true → lowerC c = c) := by
  have h := all256 (p := fun c => decide (lowerC (lowerC c) = lowerC c ∧ ldh (lowerC c) = ldh c ∧ isDigit (lowerC c) = isDigit c ∧ (lowerC c == 45) = (c == 45) ∧ (lowerC c == 46) = (c == 46) ∧ (lowerC c == 58) = (c == 58) ∧ (isDigit c = true → lowerC c = c))) (by decide +kernel) c
  exact of_decide_eq_true h
theorem lower_lower (s : Bytes) : lower (lower s) = lower s := by
  unfold lower; rw [List.map_map]; apply List.map_congr_left; intro c _; exact (lowerC_all c).1
theorem lower_length (s : Bytes) : (lower s).length = s.length := by unfold lower; simp
theorem lower_isEmpty (s : Bytes) : (lower s).isEmpty = s.isEmpty := by unfold lower; cases s <;> rfl
theorem lower_all {p : UInt8 → Bool} (hp : ∀ c, p (lowerC c) = p c) (s : Bytes) : (lower s).all p = s.all p := by
  unfold lower; rw [List.all_map]; congr 1; funext c; exact hp c
theorem lower_digits {s : Bytes} (h : s.all isDigit = true) : lower s = s := by
  unfold lower
  rw [List.all_eq_true] at h
  conv => rhs; rw [← List.map_id s]
  apply List.map_congr_left; intro c hc; exact (lowerC_all c).2.2.2.2.2.2 (h c hc)
theorem labelOk_lower (s : Bytes) : labelOk (lower s) = labelOk s := by
  unfold labelOk
  rw [lower_isEmpty, lower_length, lower_all (fun c => (lowerC_all c).2.1)]
  have h1 : ((lower s).head? == some 45) = (s.head? == some 45) := by
    unfold lower; rw [List.head?_map]; cases s.head? with
    | none => rfl
    | some c => simpa using (lowerC_all c).2.2.2.1
  have h2 : ((lower s).getLast? == some 45) = (s.getLast? == some 45) := by
    unfold lower; rw [List.getLast?_map]; cases s.getLast? with
    | none => rfl
    | some c => simpa using (lowerC_all c).2.2.2.1
  rw [h1, h2]
theorem digitsOk_lower (s : Bytes) : digitsOk (lower s) = digitsOk s := by
  unfold digitsOk; rw [lower_isEmpty, lower_all (fun c => (lowerC_all c).2.2.1)]
theorem splitC_lower (s : Bytes) : splitC 46 (lower s) = (splitC 46 s).map lower := by
  induction s with
  | nil => rfl
  | cons x r ih =>
    have hx := (lowerC_all x).2.2.2.2.1
    rw [show lower (x :: r) = lowerC x :: lower r from rfl, splitC, splitC, hx, ih]
    cases x == 46
    · simp only [Bool.false_eq_true, if_false]
      cases splitC 46 r <;> rfl
    · rfl
theorem numStrict_lower (m : Nat) (s : Bytes) : numStrict m (lower s) = numStrict m s := by
  cases h : s.all isDigit
  · have hd : digitsOk s = false := by unfold digitsOk; simp [h]
    have hl : (lower s).all isDigit = false := by rw [lower_all (fun c => (lowerC_all c).2.2.1), h]
    unfold numStrict numParse
    rw [digitsOk_lower, hd, hl, h, lower_isEmpty]
    simp
  · rw [lower_digits h]
theorem octetOk_lower (s : Bytes) : octetOk (lower s) = octetOk s := by unfold octetOk; rw [numStrict_lower]
theorem ipv4_lower (s : Bytes) : ipv4 (lower s) = ipv4 s := by
  unfold ipv4
  rw [splitC_lower, List.length_map, List.all_map]
  congr 2; funext x; exact octetOk_lower x
theorem nameL_lower (l : List Bytes) : nameL (l.map lower) = nameL l := by
  induction l with
  | nil => rfl
  | cons x r ih =>
    cases r with
    | nil => simp only [List.map, nameL, labelOk_lower, digitsOk_lower]
    | cons y r => simp only [List.map_cons, nameL, labelOk_lower] at ih ⊢; rw [ih]
theorem nameOk_lower (s : Bytes) : nameOk (lower s) = nameOk s := by unfold nameOk; rw [splitC_lower, nameL_lower]
theorem hostM_ok {s x : Bytes} (h : hostM s = (x, 0)) : x = lower s ∧ x.length ≤ 253 ∧ hostM x = (x, 0) := by
  unfold hostM at h
  cases h1 : s.isEmpty
  · rw [h1] at h
    by_cases h2 : 253 < s.length
    · simp [h2] at h
    · cases h3 : (!ipv4 s && !nameOk s)
      · simp [h2, h3] at h
        subst h
        refine ⟨rfl, by rw [lower_length]; omega, ?_⟩
        unfold hostM
        rw [lower_isEmpty, lower_length, ipv4_lower, nameOk_lower, h1, h3, lower_lower]
        simp [h2]
      · simp [h2, h3] at h
  · rw [h1] at h; simp at h
theorem pre_lower (s : Bytes) : pre (· == 58) (lower s) = pre (· == 58) s := by
  induction s with
  | nil => rfl
  | cons x r ih =>
    rw [show lower (x :: r) = lowerC x :: lower r from rfl, pre_cons, pre_cons, ih, (lowerC_all x).2.2.2.2.2.1]
theorem pre_take (p : UInt8 → Bool) (s : Bytes) : pre p (s.take (pre p s)) = (s.take (pre p s)).length := by
  induction s with
  | nil => rfl
  | cons x r ih =>
    rw [pre_cons]
    cases hx : p x
    · simp [pre_cons, hx]
      have := ih; simp at this; omega
    · rfl
theorem cutC_fst (c : UInt8) (s : Bytes) : pre (· == c) (cutC c s).1 = (cutC c s).1.length := by
  unfold cutC
  by_cases h : pre (· == c) s < s.length
  · rw [if_pos h]; exact pre_take _ s
  · rw [if_neg h]; have := pre_le (· == c) s; show pre (· == c) s = s.length; omega
theorem cutC_none {c : UInt8} {s : Bytes} (h : pre (· == c) s = s.length) : cutC c s = (s, [], false) := by
  unfold cutC; rw [if_neg (by omega)]
theorem pre_app {p : UInt8 → Bool} {x : Bytes} (h : pre p x = x.length) (c : UInt8) (r : Bytes) (hc : p c = true) : pre p (x ++ c :: r) = x.length := by
  induction x with
  | nil => simp [pre_cons, hc]
  | cons y x ih =>
    rw [pre_cons] at h
    cases hy : p y
    · rw [hy] at h; simp at h
      simp [pre_cons, hy, ih h]
    · rw [hy] at h; simp at h
theorem cutC_some {c : UInt8} {x : Bytes} (h : pre (· == c) x = x.length) (r : Bytes) : cutC c (x ++ c :: r) = (x, r, true) := by
  unfold cutC
  rw [pre_app h c r (by simp), if_pos (by simp)]
  simp
theorem hexVal_dig {n : Nat} (h : n < 10) : hexVal (dig n) = n ∧ isDigit (dig n) = true ∧ (dig n = 48 → n = 0) := by
  have h := (by decide +kernel : ∀ n, n < 10 → hexVal (dig n) = n ∧ isDigit (dig n) = true ∧ (dig n = 48 → n = 0)) n h
  exact h
theorem numGo_app {b m : Nat} (r : Bytes) : ∀ (l : Bytes) {a v : Nat}, numGo b m a l = (v, 0) → numGo b m a (l ++ r) = numGo b m v r := by
  intro l
  induction l with
  | nil => intro a v h; simp [numGo] at h; rw [h]; rfl
  | cons c l ih =>
    intro a v h
    rw [numGo] at h
    rw [List.cons_append, numGo]
    by_cases hm : m < a * b + hexVal c
    · rw [if_pos hm] at h; simp at h
    · rw [if_neg hm] at h
      rw [if_neg hm]
      exact ih h
theorem decS_back (m : Nat) : ∀ (k n : Nat), n ≤ k → n ≤ m → numGo 10 m 0 (decS n) = (n, 0) ∧ (decS n).all isDigit = true ∧ (0 < n → (decS n).head? ≠ some 48) := by
  intro k
  induction k with
  | zero =>
    intro n h _
    obtain rfl : n = 0 := by omega
    rw [decS_small (by omega)]
    exact ⟨by simp [numGo, dig, hexVal], by decide, fun h => by omega⟩
  | succ k ih =>
    intro n h hm
    by_cases hn : n < 10
    · rw [decS_small hn]
      obtain ⟨h1, h2, h3⟩ := hexVal_dig hn
      refine ⟨?_, by simp [h2], ?_⟩
      · rw [numGo, h1, if_neg (by omega), numGo]; simp
      · intro h0 he; simp at he; exact absurd (h3 he) (by omega)
    · rw [decS_big hn]
      obtain ⟨h1, h2, h3⟩ := ih (n / 10) (by omega) (by omega)
      obtain ⟨g1, g2, g3⟩ := hexVal_dig (show n % 10 < 10 by omega)
      refine ⟨?_, by rw [List.all_append, h2]; simp [g2], ?_⟩
      · rw [numGo_app _ _ h1, numGo, g1, if_neg (by omega), numGo]
        congr 1; omega
      · intro _
        have := decS_pos (n / 10)
        rw [List.head?_append]
        have h3 := h3 (by omega)
        cases hd : (decS (n / 10)).head? with
        | none => rw [List.head?_eq_none_iff] at hd; rw [hd] at this; simp at this
        | some c => rw [hd] at h3; simpa using h3
theorem portM_dec {n : Nat} (h0 : 0 < n) (h : n ≤ 65535) : portM (decS n) = ((n : Int), 0) := by
  obtain ⟨h1, h2, h3⟩ := decS_back 65535 n n (by omega) h
  have hp := decS_pos n
  have hne : (decS n).isEmpty = false := by cases hd : decS n <;> simp [hd] at hp ⊢
  have hs : numStrict 65535 (decS n) = (n, 0) := by
    unfold numStrict numParse
    rw [if_neg (fun hh => h3 h0 hh.2.2), hne, h2, h1]
    rfl
  unfold portM
  rw [hs]
  have : ¬ n = 0 := by omega
  simp [this]
theorem portM_ok {s : Bytes} {p : Int} (h : portM s = (p, 0)) : 0 < p ∧ p ≤ 65535 := by
  have hle := numStrict_le 65535 s
  unfold portM at h
  split at h
  · simp at h
  · rename_i hc
    simp at h
    subst h
    omega
theorem hostPort_back {s x : Bytes} {p : Int} (h : hostPort s = ((x, p), 0)) : hostPort (hostText x p) = ((x, p), 0) ∧ hostM x = (x, 0) ∧ p ≠ 443 ∧ x.length ≤ 253 ∧ 0 ≤ p ∧ p ≤ 65535 := by
  have hf := cutC_fst 58 s
  unfold hostPort at h
  generalize cutC 58 s = C at hf h
  obtain ⟨first, rest, colon⟩ := C
  simp only at hf h
  generalize hH : hostM first = H at h
  obtain ⟨y, e⟩ := H
  by_cases he : e = 0
  · subst he
    obtain ⟨hy, hlen, hback⟩ := hostM_ok hH
    have hpy : pre (· == 58) y = y.length := by rw [hy, pre_lower, lower_length]; exact hf
    have plain : hostPort (hostText y 0) = ((y, 0), 0) := by
      unfold hostText hostPort
      rw [if_pos rfl, cutC_none hpy, hback]; rfl
    cases colon
    · unfold hostPortOf at h
      simp at h
      obtain ⟨rfl, rfl⟩ := h
      exact ⟨plain, hback, by omega, hlen, by omega, by omega⟩
    · generalize hP : portM rest = P at h
      obtain ⟨q, f⟩ := P
      unfold hostPortOf at h
      by_cases hf0 : f = 0
      · subst hf0
        simp at h
        obtain ⟨rfl, h⟩ := h
        obtain ⟨q0, q1⟩ := portM_ok hP
        by_cases h443 : q = 443
        · rw [if_pos h443] at h
          subst h
          exact ⟨plain, hback, by omega, hlen, by omega, by omega⟩
        · rw [if_neg h443] at h
          subst h
          refine ⟨?_, hback, h443, hlen, by omega, q1⟩
          obtain ⟨n, rfl⟩ : ∃ n : Nat, q = n := ⟨q.toNat, by omega⟩
          unfold hostText hostPort
          rw [if_neg (by omega), if_neg (by omega)]
          have e : y ++ [58] ++ decS (n : Int).natAbs = y ++ 58 :: decS n := by simp
          rw [e, cutC_some hpy]
          simp only [hback, portM_dec (show 0 < n by omega) (show n ≤ 65535 by omega)]
          unfold hostPortOf
          simp [h443]
      · simp [hf0] at h
  · unfold hostPortOf at h
    simp [he] at h
def lab (n : Nat) : Bytes := List.replicate n 97
def labs (n : Nat) : Nat → Bytes
  | 0 => lab n
  | k + 1 => labs n k ++ [46] ++ lab n
end Wf
namespace Wf
open Go Go.RowKit
theorem uncut (c : UInt8) (s : Bytes) : s = (cutC c s).1 ++ (if (cutC c s).2.2 then [c] ++ (cutC c s).2.1 else []) := by
  unfold cutC
  split
  · rename_i h
    have h2 := pre_at (p := (· == c)) h
    simp only [if_true]
    have : s.drop (pre (· == c) s) = c :: s.drop (pre (· == c) s + 1) := by
      rw [List.drop_eq_getElem_cons h]
      simp only [beq_iff_eq] at h2
      rw [h2]
    rw [List.singleton_append, ← this, List.take_append_drop]
  · simp
theorem uncut_no (c : UInt8) (s : Bytes) (h : (cutC c s).2.2 = false) : (cutC c s).2.1 = [] := by
  unfold cutC at h ⊢
  split
  · rename_i h2; rw [if_pos h2] at h; simp at h
  · rfl
/-! paths that begin with a slash -/
def absP (l : List Bytes) : Bytes := l.flatMap (47 :: ·)
def goodSeg (s : Bytes) : Prop := (47 : UInt8) ∉ s ∧ s ≠ [46] ∧ s ≠ [46, 46]
theorem absP_cons (x : Bytes) (l : List Bytes) : absP (x :: l) = 47 :: (x ++ absP l) := rfl
theorem absP_app (l : List Bytes) (x : Bytes) : absP (l ++ [x]) = absP l ++ 47 :: x := by
  unfold absP; simp
theorem absP_head (l : List Bytes) : absP l = [] ∨ ∃ r, absP l = 47 :: r := by
  cases l with
  | nil => exact .inl rfl
  | cons x l => exact .inr ⟨_, rfl⟩
theorem pre_noslash {x : Bytes} (h : (47 : UInt8) ∉ x) (l : List Bytes) : pre (· == 47) (x ++ absP l) = x.length := by
  induction x with
  | nil =>
    rcases absP_head l with e | ⟨r, e⟩
    · simp [e, pre_nil]
    · simp [e, pre_cons]
  | cons c x ih =>
    simp only [List.mem_cons, not_or] at h
    rw [List.cons_append, pre_cons, if_neg (by simp; exact fun e => h.1 e.symm), ih h.2]
    rfl
theorem shorten_abs (l : List Bytes) (x : Bytes) (h : (47 : UInt8) ∉ x) : shorten (absP (l ++ [x])) = absP l := by
  rw [absP_app]
  unfold shorten
  rw [List.reverse_append, List.reverse_cons, List.append_assoc]
  have : (x.reverse ++ ([47] ++ (absP l).reverse)).dropWhile (· != 47) = [47] ++ (absP l).reverse := by
    rw [List.dropWhile_append_of_pos]
    · simp
    · intro c hc
      simp only [List.mem_reverse] at hc
      simp
      rintro rfl
      exact h hc
  rw [this]
  simp
theorem dotsGo_abs : ∀ (f : Nat) (p : Bytes) (l : List Bytes), p.length ≤ f → (p = [] ∨ ∃ r, p = 47 :: r) → (p = [] → l ≠ []) → (∀ x ∈ l, goodSeg x) → ∃ l', dotsGo f p (absP l) = absP l' ∧ l' ≠ [] ∧ ∀ x ∈ l', goodSeg x := by
  intro f
  induction f with
  | zero =>
    intro p l hp _ hn hg
    have : p = [] := List.length_eq_zero_iff.1 (by omega)
    exact ⟨l, rfl, hn this, hg⟩
  | succ f ih =>
    intro p l hp hs hn hg
    rw [dotsGo]
    rcases hs with rfl | ⟨r, rfl⟩
    · exact ⟨l, by rw [if_pos rfl], hn rfl, hg⟩
    · rw [if_neg (by simp)]
      have hsh : ∃ l2, shorten (absP l) = absP l2 ∧ ∀ x ∈ l2, goodSeg x := by
        rcases List.eq_nil_or_concat l with rfl | ⟨l2, x, rfl⟩
        · exact ⟨[], rfl, by simp⟩
        · refine ⟨l2, ?_, fun y hy => hg y (by simp [hy])⟩
          have := hg x (by simp)
          simpa using shorten_abs l2 x this.1
      obtain ⟨l2, hl2, hg2⟩ := hsh
      unfold dotStep
      rw [if_neg (by simp [List.isPrefixOf]), if_neg (by simp [List.isPrefixOf])]
      by_cases c1 : [47, 46, 47].isPrefixOf (47 :: r)
      · rw [if_pos c1]
        obtain ⟨q, hq⟩ := List.isPrefixOf_iff_prefix.1 c1
        simp only [List.cons_append, List.nil_append, List.cons.injEq, true_and] at hq
        subst hq
        exact ih _ l (by simp at hp ⊢; omega) (.inr ⟨q, rfl⟩) (by simp) hg
      rw [if_neg c1]
      by_cases c2 : (47 :: r) = [47, 46]
      · rw [if_pos c2]
        rw [c2] at hp
        exact ih _ l (by simp at hp ⊢; omega) (.inr ⟨[], rfl⟩) (by simp) hg
      rw [if_neg c2]
      by_cases c3 : [47, 46, 46, 47].isPrefixOf (47 :: r)
      · rw [if_pos c3]
        obtain ⟨q, hq⟩ := List.isPrefixOf_iff_prefix.1 c3
        simp only [List.cons_append, List.nil_append, List.cons.injEq, true_and] at hq
        subst hq
        simp only [hl2]
        exact ih _ l2 (by simp at hp ⊢; omega) (.inr ⟨q, rfl⟩) (by simp) hg2
      rw [if_neg c3]
      by_cases c4 : (47 :: r) = [47, 46, 46]
      · rw [if_pos c4]
        rw [c4] at hp
        simp only [hl2]
        exact ih _ l2 (by simp at hp ⊢; omega) (.inr ⟨[], rfl⟩) (by simp) hg2
      rw [if_neg c4, if_neg (by simp)]
      simp only [List.drop_succ_cons, List.drop_zero]
      have hseg : goodSeg (r.take (pre (· == 47) r)) := by
        refine ⟨fun hm => ?_, fun e => ?_, fun e => ?_⟩
        · obtain ⟨k, hk, hk2⟩ := List.getElem_of_mem hm
          rw [List.length_take] at hk
          have := pre_get (p := (· == 47)) (l := r) (k := k) (by omega) (by omega)
          rw [List.getElem_take] at hk2
          simp [hk2] at this
        · have hp1 := congrArg List.length e
          simp only [List.length_take, List.length_cons, List.length_nil] at hp1
          have hr := List.take_append_drop (pre (· == 47) r) r
          rw [e] at hr
          cases hd : r.drop (pre (· == 47) r) with
          | nil => rw [hd] at hr; exact c2 (by rw [← hr]; rfl)
          | cons y t =>
            have hlt : pre (· == 47) r < r.length := by
              apply Nat.lt_of_not_le; intro h; rw [List.drop_of_length_le h] at hd; cases hd
            have := pre_at (p := (· == 47)) hlt
            rw [List.drop_eq_getElem_cons hlt] at hd
            simp only [List.cons.injEq] at hd
            rw [hd.1] at this
            simp only [beq_iff_eq] at this
            subst this
            rw [List.drop_eq_getElem_cons hlt, hd.1] at hr
            exact c1 (by rw [← hr]; simp [List.isPrefixOf])
        · have hp1 := congrArg List.length e
          simp only [List.length_take, List.length_cons, List.length_nil] at hp1
          have hr := List.take_append_drop (pre (· == 47) r) r
          rw [e] at hr
          cases hd : r.drop (pre (· == 47) r) with
          | nil => rw [hd] at hr; exact c4 (by rw [← hr]; rfl)
          | cons y t =>
            have hlt : pre (· == 47) r < r.length := by
              apply Nat.lt_of_not_le; intro h; rw [List.drop_of_length_le h] at hd; cases hd
            have := pre_at (p := (· == 47)) hlt
            rw [List.drop_eq_getElem_cons hlt] at hd
            simp only [List.cons.injEq] at hd
            rw [hd.1] at this
            simp only [beq_iff_eq] at this
            subst this
            rw [List.drop_eq_getElem_cons hlt, hd.1] at hr
            exact c3 (by rw [← hr]; simp [List.isPrefixOf])
      have e1 : (47 :: r).drop (1 + pre (· == 47) r) = r.drop (pre (· == 47) r) := by rw [Nat.add_comm]; rfl
      have e2 : (47 :: r).take (1 + pre (· == 47) r) = 47 :: r.take (pre (· == 47) r) := by rw [Nat.add_comm]; rfl
      rw [e1, e2, ← absP_app]
      refine ih _ _ (by simp at hp ⊢; omega) ?_ (by simp) (fun x hx => ?_)
      · by_cases hlt : pre (· == 47) r < r.length
        · right
          have := pre_at (p := (· == 47)) hlt
          simp only [beq_iff_eq] at this
          exact ⟨_, by rw [List.drop_eq_getElem_cons hlt, this]⟩
        · left
          exact List.drop_of_length_le (by omega)
      · simp only [List.mem_append, List.mem_singleton] at hx
        rcases hx with hx | rfl
        · exact hg x hx
        · exact hseg
theorem removeDots_abs (r : Bytes) : ∃ l, removeDots (47 :: r) = absP l ∧ l ≠ [] ∧ ∀ x ∈ l, goodSeg x :=
  dotsGo_abs _ _ [] (Nat.le_refl _) (.inr ⟨r, rfl⟩) (by simp) (by simp)
theorem dotsGo_same : ∀ (l : List Bytes) (f : Nat) (out : Bytes), (absP l).length ≤ f → (∀ x ∈ l, goodSeg x) → dotsGo f (absP l) out = out ++ absP l
  | [], f, out, _, _ => by cases f <;> simp [absP, dotsGo]
  | x :: l, f, out, hf, hg => by
    rw [absP_cons] at hf ⊢
    obtain ⟨f, rfl⟩ : ∃ k, f = k + 1 := ⟨f - 1, by simp at hf; omega⟩
    rw [dotsGo, if_neg (by simp)]
    obtain ⟨h1, h2, h3⟩ := hg x (by simp)
    have hpre := pre_noslash h1 l
    have seg : ∀ (y : Bytes), (47 : UInt8) ∉ y → y ≠ x → ¬ (47 :: (y ++ [47])).isPrefixOf (47 :: (x ++ absP l)) = true := fun y hy hne hp => by
      obtain ⟨q, hq⟩ := List.isPrefixOf_iff_prefix.1 hp
      simp only [List.cons_append, List.append_assoc, List.cons.injEq, true_and] at hq
      have hpy := pre_noslash hy [q]
      have e : y ++ absP [q] = x ++ absP l := by rw [← hq]; simp [absP]
      rw [e, hpre] at hpy
      have := List.append_inj_left e hpy.symm
      exact hne this
    have seg2 : ∀ (y : Bytes), (47 : UInt8) ∉ y → y ≠ x → (47 :: (x ++ absP l)) ≠ 47 :: y := fun y hy hne he => by
      simp only [List.cons.injEq, true_and] at he
      have hpy : pre (· == 47) y = y.length := by simpa [absP] using pre_noslash hy []
      rw [← he, hpre, List.length_append] at hpy
      have h0 : absP l = [] := List.length_eq_zero_iff.1 (by omega)
      rw [h0, List.append_nil] at he
      exact hne he.symm
    have hd : dotStep (47 :: (x ++ absP l)) out = (absP l, out ++ 47 :: x) := by
      unfold dotStep
      rw [if_neg (by simp [List.isPrefixOf]), if_neg (by simp [List.isPrefixOf]), if_neg (show ¬ ([47, 46, 47] : Bytes).isPrefixOf _ = true from seg [46] (by decide) (fun e => h2 e.symm)), if_neg (seg2 [46] (by decide) (fun e => h2 e.symm)), if_neg (show ¬ ([47, 46, 46, 47] : Bytes).isPrefixOf _ = true from seg [46, 46] (by decide) (fun e => h3 e.symm)), if_neg (seg2 [46, 46] (by decide) (fun e => h3 e.symm)), if_neg (by simp)]
      simp only [List.drop_succ_cons, List.drop_zero, hpre]
      rw [Nat.add_comm]
      simp
    rw [hd]
    rw [dotsGo_same l f _ (by simp at hf; omega) (fun y hy => hg y (by simp [hy]))]
    simp
theorem removeDots_clean (r : Bytes) : removeDots (removeDots (47 :: r)) = removeDots (47 :: r) := by
  obtain ⟨l, h1, h2, h3⟩ := removeDots_abs r
  rw [h1]
  unfold removeDots
  rw [dotsGo_same l _ _ (Nat.le_refl _) h3]
  rfl
theorem splitC_abs : ∀ (l : List Bytes), l ≠ [] → (∀ x ∈ l, (47 : UInt8) ∉ x) → splitC 47 (absP l) = [] :: l
  | [], h, _ => absurd rfl h
  | x :: l, _, hg => by
    rw [absP_cons]
    have hx := hg x (by simp)
    rw [splitC, if_pos (by simp)]
    congr 1
    have hpre := pre_noslash hx l
    cases l with
    | nil =>
      simp only [absP, List.flatMap_nil, List.append_nil] at hpre ⊢
      rw [splitC_miss (by omega)]
    | cons y l =>
      rw [splitC_hit (by rw [hpre]; simp [absP_cons]), hpre]
      have ih := splitC_abs (y :: l) (by simp) (fun z hz => hg z (by simp [hz]))
      rw [absP_cons, splitC, if_pos (by simp)] at ih
      simp only [List.cons.injEq, true_and] at ih
      rw [absP_cons]
      simp [ih]
theorem clean_segs (r : Bytes) : (∃ q, removeDots (47 :: r) = 47 :: q) ∧ ∀ x ∈ splitC 47 (removeDots (47 :: r)), x ≠ [46] ∧ x ≠ [46, 46] := by
  obtain ⟨l, h1, h2, h3⟩ := removeDots_abs r
  rw [h1]
  constructor
  · cases l with
    | nil => exact absurd rfl h2
    | cons x l => exact ⟨_, rfl⟩
  · rw [splitC_abs l h2 (fun x hx => (h3 x hx).1)]
    intro x hx
    simp only [List.mem_cons] at hx
    rcases hx with rfl | hx
    · simp
    · exact (h3 x hx).2
end Wf
namespace Wf
open Go Go.RowKit
def Can (also s : Bytes) : Prop := ∃ l : List PU, s = l.flatMap PU.str ∧ ∀ x ∈ l, canU also x
theorem can_nil (also : Bytes) : Can also [] := ⟨[], rfl, by simp⟩
theorem can_app {also a b : Bytes} (ha : Can also a) (hb : Can also b) : Can also (a ++ b) := by
  obtain ⟨l, rfl, h1⟩ := ha
  obtain ⟨m, rfl, h2⟩ := hb
  exact ⟨l ++ m, by simp, fun x hx => by
    rcases List.mem_append.1 hx with h | h
    · exact h1 x h
    · exact h2 x h⟩
theorem can_one {also : Bytes} {c : UInt8} (h : keepB also c = true) (hc : c ≠ 37) : Can also [c] := ⟨[.lit c], rfl, fun x hx => by
  obtain rfl := List.mem_singleton.1 hx; exact ⟨h, hc⟩⟩
theorem can_esc (also : Bytes) {c : UInt8} (h : unres c = false) : Can also (esc c) := ⟨[.hex (hexU (c.toNat / 16)) (hexU (c.toNat % 16))], rfl, fun x hx => by
  obtain rfl := List.mem_singleton.1 hx
  have hn := c.toNat_lt
  have hv := unhex_esc c
  exact ⟨by rw [hv]; exact h, by rw [hv], by rw [hv], hexU_hex _ (by omega), hexU_hex _ (by omega)⟩⟩
theorem can_tail {also : Bytes} {c : UInt8} {r : Bytes} (hc : c ≠ 37) (h : Can also (c :: r)) : keepB also c = true ∧ Can also r := by
  obtain ⟨l, e, h1⟩ := h
  cases l with
  | nil => simp at e
  | cons x l =>
    have hx := h1 x List.mem_cons_self
    rw [List.flatMap_cons] at e
    cases x with
    | lit d =>
      simp only [PU.str, List.singleton_append, List.cons.injEq] at e
      obtain ⟨rfl, rfl⟩ := e
      exact ⟨hx.1, l, rfl, fun y hy => h1 y (List.mem_cons_of_mem _ hy)⟩
    | hex a b =>
      simp only [PU.str, List.cons_append, List.nil_append, List.cons.injEq] at e
      exact absurd e.1 hc
    | bad => exact hx.elim
theorem can_split {also : Bytes} {c : UInt8} (hc : c ≠ 37) (hx : isHex c = false) : ∀ (l : List PU) (a b : Bytes), (∀ x ∈ l, canU also x) → a ++ c :: b = l.flatMap PU.str → Can also a ∧ Can also (c :: b)
  | [], a, b, _, e => by simp at e
  | .lit d :: l, [], b, h, e => ⟨can_nil _, _, e, h⟩
  | .lit d :: l, y :: a, b, h, e => by
    rw [List.flatMap_cons] at e
    simp only [PU.str, List.singleton_append, List.cons_append, List.cons.injEq] at e
    obtain ⟨rfl, e⟩ := e
    obtain ⟨h1, h2⟩ := can_split hc hx l a b (fun y hy => h y (List.mem_cons_of_mem _ hy)) e
    have hy := h _ List.mem_cons_self
    exact ⟨can_app (a := [y]) (can_one hy.1 hy.2) h1, h2⟩
  | .hex u v :: l, [], b, h, e => by
    rw [List.flatMap_cons] at e
    simp only [PU.str, List.nil_append, List.cons_append, List.cons.injEq] at e
    exact absurd e.1 hc
  | .hex u v :: l, [x], b, h, e => by
    rw [List.flatMap_cons] at e
    simp only [PU.str, List.nil_append, List.cons_append, List.cons.injEq] at e
    have := (h _ List.mem_cons_self).2.2.2.1
    rw [← e.2.1, hx] at this; cases this
  | .hex u v :: l, [x, y], b, h, e => by
    rw [List.flatMap_cons] at e
    simp only [PU.str, List.nil_append, List.cons_append, List.cons.injEq] at e
    have := (h _ List.mem_cons_self).2.2.2.2
    rw [← e.2.2.1, hx] at this; cases this
  | .hex u v :: l, x :: y :: z :: a, b, h, e => by
    rw [List.flatMap_cons] at e
    simp only [PU.str, List.nil_append, List.cons_append, List.cons.injEq] at e
    obtain ⟨rfl, rfl, rfl, e⟩ := e
    obtain ⟨h1, h2⟩ := can_split hc hx l a b (fun y hy => h y (List.mem_cons_of_mem _ hy)) e
    refine ⟨can_app (a := [37, y, z]) ⟨[.hex y z], rfl, fun x hx => ?_⟩ h1, h2⟩
    obtain rfl := List.mem_singleton.1 hx
    exact h _ List.mem_cons_self
  | .bad :: l, a, b, h, e => (h _ List.mem_cons_self).elim
theorem Can.split {also a b : Bytes} {c : UInt8} (hc : c ≠ 37) (hx : isHex c = false) (h : Can also (a ++ c :: b)) : Can also a ∧ Can also (c :: b) := by
  obtain ⟨l, e, h1⟩ := h
  exact can_split hc hx l a b h1 e
theorem can_bytes {also s : Bytes} (h : Can also s) : ∀ c ∈ s, keepB also c = true ∨ c = 37 ∨ isHex c = true := by
  obtain ⟨l, rfl, h1⟩ := h
  intro c hc
  obtain ⟨x, hx, hcx⟩ := List.mem_flatMap.1 hc
  have hk := h1 x hx
  cases x with
  | lit d =>
    obtain rfl := List.mem_singleton.1 hcx
    exact .inl hk.1
  | hex a b =>
    simp only [PU.str, List.mem_cons, List.not_mem_nil, or_false] at hcx
    rcases hcx with rfl | rfl | rfl
    · exact .inr (.inl rfl)
    · exact .inr (.inr hk.2.2.2.1)
    · exact .inr (.inr hk.2.2.2.2)
  | bad => exact hk.elim
theorem can_norm {also s : Bytes} (h : Can also s) (hl : s.length ≤ 16384) : pctNorm also s = (s, 0) := by
  obtain ⟨l, rfl, h1⟩ := h
  unfold pctNorm
  rw [if_neg (by omega), units_can also l h1, normU_can also l h1]
theorem norm_can {also s : Bytes} (h : (pctNorm also s).2 = 0) : Can also (pctNorm also s).1 := by
  unfold pctNorm at h ⊢
  split at h
  · simp at h
  · rename_i hs
    rw [if_neg hs]
    obtain ⟨l', e, h1, -, -⟩ := normU_parts also (units s) (units_litne s) h
    exact ⟨l', e, h1⟩
theorem can_cut {also s : Bytes} (n : Nat) (hd : s.drop n = [] ∨ ∃ r, s.drop n = 47 :: r) (h : Can also s) : Can also (s.take n) ∧ Can also (s.drop n) := by
  rcases hd with hd | ⟨r, hd⟩
  · rw [hd]
    have e : s.take n = s := List.take_of_length_le (by simpa using hd)
    rw [e]; exact ⟨h, can_nil _⟩
  · rw [hd]
    have e : s = s.take n ++ 47 :: r := by rw [← hd, List.take_append_drop]
    rw [e] at h
    exact h.split (by decide) (by decide)
theorem drop_pre (s : Bytes) : s.drop (pre (· == 47) s) = [] ∨ ∃ r, s.drop (pre (· == 47) s) = 47 :: r := by
  by_cases h : pre (· == 47) s < s.length
  · right
    have := pre_at h
    simp only [beq_iff_eq] at this
    exact ⟨s.drop (pre (· == 47) s + 1), by rw [List.drop_eq_getElem_cons h, this]⟩
  · left; simp; omega
theorem shorten_split (s : Bytes) : shorten s = [] ∨ ∃ r, s = shorten s ++ 47 :: r := by
  unfold shorten
  have key : ∀ t : Bytes, t.dropWhile (· != 47) = [] ∨ ∃ a b, t = a ++ 47 :: b ∧ t.dropWhile (· != 47) = 47 :: b := by
    intro t
    induction t with
    | nil => left; rfl
    | cons x t ih =>
      by_cases hx : x = 47
      · subst hx
        right; exact ⟨[], t, rfl, by simp⟩
      · rw [List.dropWhile_cons_of_pos (by simp [hx])]
        rcases ih with ih | ⟨a, b, h1, h2⟩
        · left; exact ih
        · right; exact ⟨x :: a, b, by rw [h1]; rfl, h2⟩
  rcases key s.reverse with h | ⟨a, b, h1, h2⟩
  · left; rw [h]; rfl
  · right
    rw [h2]
    refine ⟨a.reverse, ?_⟩
    have := congrArg List.reverse h1
    rw [List.reverse_reverse] at this
    rw [this]; simp
theorem can_shorten {also s : Bytes} (h : Can also s) : Can also (shorten s) := by
  rcases shorten_split s with e | ⟨r, e⟩
  · rw [e]; exact can_nil _
  · rw [e] at h; exact (h.split (by decide) (by decide)).1
theorem can_dotStep {also p o : Bytes} (h47 : keepB also 47 = true) (hp : Can also p) (ho : Can also o) : Can also (dotStep p o).1 ∧ Can also (dotStep p o).2 := by
  have c47 : Can also [47] := can_one h47 (by decide)
  have drop1 : ∀ {c : UInt8} {r : Bytes}, c ≠ 37 → Can also (c :: r) → Can also r := fun hc h => (can_tail hc h).2
  unfold dotStep
  split
  · rename_i h
    obtain ⟨r, rfl⟩ := List.isPrefixOf_iff_prefix.1 h
    exact ⟨drop1 (by decide) (drop1 (by decide) (drop1 (by decide) hp)), ho⟩
  split
  · rename_i h
    obtain ⟨r, rfl⟩ := List.isPrefixOf_iff_prefix.1 h
    exact ⟨drop1 (by decide) (drop1 (by decide) hp), ho⟩
  split
  · rename_i h
    obtain ⟨r, rfl⟩ := List.isPrefixOf_iff_prefix.1 h
    exact ⟨drop1 (by decide) (drop1 (by decide) hp), ho⟩
  split
  · exact ⟨c47, ho⟩
  split
  · rename_i h
    obtain ⟨r, rfl⟩ := List.isPrefixOf_iff_prefix.1 h
    exact ⟨drop1 (by decide) (drop1 (by decide) (drop1 (by decide) hp)), can_shorten ho⟩
  split
  · exact ⟨c47, can_shorten ho⟩
  split
  · exact ⟨can_nil _, ho⟩
  · have hd : p.drop (1 + pre (· == 47) (p.drop 1)) = [] ∨ ∃ r, p.drop (1 + pre (· == 47) (p.drop 1)) = 47 :: r := by
      rw [← List.drop_drop]; exact drop_pre _
    obtain ⟨h1, h2⟩ := can_cut _ hd hp
    exact ⟨h2, can_app ho h1⟩
theorem can_dotsGo {also : Bytes} (h47 : keepB also 47 = true) : ∀ (f : Nat) (p o : Bytes), Can also p → Can also o → Can also (dotsGo f p o)
  | 0, _, _, _, ho => ho
  | f + 1, p, o, hp, ho => by
    rw [dotsGo]
    split
    · exact ho
    · obtain ⟨h1, h2⟩ := can_dotStep h47 hp ho
      exact can_dotsGo h47 f _ _ h1 h2
theorem can_removeDots {also p : Bytes} (h47 : keepB also 47 = true) (hp : Can also p) : Can also (removeDots p) := can_dotsGo h47 _ _ _ hp (can_nil _)
/-! hosts -/
theorem mem_splitC (d : UInt8) : ∀ (n : Nat) (s : Bytes), s.length ≤ n → ∀ c ∈ s, c = d ∨ ∃ x ∈ splitC d s, c ∈ x
  | 0, s, h, c, hc => by
    obtain rfl := List.length_eq_zero_iff.1 (Nat.le_zero.1 h)
    simp at hc
  | n + 1, s, h, c, hc => by
    by_cases hp : pre (· == d) s < s.length
    · rw [splitC_hit hp]
      have e : s = s.take (pre (· == d) s) ++ d :: s.drop (pre (· == d) s + 1) := by
        have := pre_at hp
        simp only [beq_iff_eq] at this
        conv => lhs; rw [← List.take_append_drop (pre (· == d) s) s, List.drop_eq_getElem_cons hp, this]
      rw [e] at hc
      rcases List.mem_append.1 hc with h1 | h1
      · exact .inr ⟨_, List.mem_cons_self, h1⟩
      · rcases List.mem_cons.1 h1 with h2 | h2
        · exact .inl h2
        · rcases mem_splitC d n _ (by simp; omega) c h2 with h3 | ⟨x, h3, h4⟩
          · exact .inl h3
          · exact .inr ⟨x, List.mem_cons_of_mem _ h3, h4⟩
    · rw [splitC_miss hp]
      exact .inr ⟨s, List.mem_singleton.2 rfl, hc⟩
theorem octet_digits {s : Bytes} (h : octetOk s = true) : s.all isDigit = true := by
  unfold octetOk numStrict at h
  split at h
  · simp at h
  · have := (numParse_err_dig 255 s).1 (.inl (by simpa using h))
    unfold digitsOk at this
    simp only [Bool.and_eq_true] at this
    exact this.2
theorem nameL_mem : ∀ (l : List Bytes), nameL l = true → ∀ x ∈ l, labelOk x = true
  | [], _, x, h => by simp at h
  | [y], h, x, hx => by
    simp only [nameL, Bool.and_eq_true] at h
    obtain rfl := List.mem_singleton.1 hx
    exact h.1
  | y :: z :: r, h, x, hx => by
    simp only [nameL, Bool.and_eq_true] at h
    rcases List.mem_cons.1 hx with rfl | hx
    · exact h.1
    · exact nameL_mem (z :: r) h.2 x hx
theorem hostM_bytes {s x : Bytes} (h : hostM s = (x, 0)) : ∀ c ∈ x, ldh c = true ∨ c = 46 := by
  have hx := (hostM_ok h).2.2
  clear h
  unfold hostM at hx
  split at hx
  · simp at hx
  split at hx
  · simp at hx
  split at hx
  · simp at hx
  · rename_i h3
    intro c hc
    rcases mem_splitC 46 _ x (Nat.le_refl _) c hc with h4 | ⟨y, h4, h5⟩
    · exact .inr h4
    · left
      cases hi : ipv4 x
      · have hn : nameOk x = true := by simpa [hi] using h3
        have := nameL_mem _ hn y h4
        unfold labelOk at this
        simp only [Bool.and_eq_true] at this
        exact List.all_eq_true.1 this.2 c h5
      · unfold ipv4 at hi
        simp only [Bool.and_eq_true] at hi
        have := octet_digits (List.all_eq_true.1 hi.2 y h4)
        have := List.all_eq_true.1 this c h5
        unfold ldh; rw [this]; simp
theorem decS_digits (n : Nat) : ∀ c ∈ decS n, isDigit c = true := fun c hc => List.all_eq_true.1 ((decS_back n n n (Nat.le_refl _) (Nat.le_refl _)).2.1) c hc
theorem hostPort_bytes {s x : Bytes} {p : Int} (h : hostPort s = ((x, p), 0)) : ∀ c ∈ hostText x p, ldh c = true ∨ c = 46 ∨ c = 58 := by
  obtain ⟨-, h1, -, -, h2, -⟩ := hostPort_back h
  have hb := hostM_bytes h1
  unfold hostText
  split
  · intro c hc; exact (hb c hc).imp id .inl
  split
  · omega
  · intro c hc
    rcases List.mem_append.1 hc with hc | hc
    · rcases List.mem_append.1 hc with hc | hc
      · exact (hb c hc).imp id .inl
      · exact .inr (.inr (List.mem_singleton.1 hc))
    · left; unfold ldh; rw [decS_digits _ c hc]; simp
theorem pre_none {c : UInt8} {l : Bytes} (h : c ∉ l) : pre (· == c) l = l.length := by
  induction l with
  | nil => rfl
  | cons x l ih =>
    simp only [List.mem_cons, not_or] at h
    rw [pre_cons, if_neg (by simpa using fun e => h.1 e.symm), ih h.2]; rfl
end Wf
namespace Wf
open Go Go.RowKit
theorem split_join (u : Uri) (h1 : u.scheme = https) (h2 : u.hasScheme = true) (h3 : u.hasAuthority = true) (ha : ∀ c ∈ u.authority, c ≠ 47 ∧ c ≠ 63 ∧ c ≠ 35) (hp : ∃ r, u.path = 47 :: r) (hpb : ∀ c ∈ u.path, c ≠ 63 ∧ c ≠ 35) (hq : (35 : UInt8) ∉ u.query) (hq0 : u.hasQuery = false → u.query = []) (hf0 : u.hasFrag = false → u.fragment = []) (hl : (uriJoin u).length ≤ 16384) :
    uriSplit (uriJoin u) = (u, 0) := by
  obtain ⟨sc, au, pa, qu, fr, b1, b2, b3, b4⟩ := u
  simp only at h1 h2 h3 ha hp hpb hq hq0 hf0
  subst h1 h2 h3
  have c1 : cutC 35 (uriJoin ⟨https, au, pa, qu, fr, true, true, b3, b4⟩) = (https ++ [58] ++ ([47, 47] ++ au) ++ pa ++ (if b3 then [63] ++ qu else []), fr, b4) := by
    have hn : (35 : UInt8) ∉ https ++ [58] ++ ([47, 47] ++ au) ++ pa ++ (if b3 then [63] ++ qu else []) := by
      simp only [List.mem_append, not_or]
      refine ⟨⟨⟨⟨by decide, by decide⟩, by decide, fun h => (ha _ h).2.2 rfl⟩, fun h => (hpb _ h).2 rfl⟩, ?_⟩
      split
      · simp only [List.mem_append, not_or]; exact ⟨by decide, hq⟩
      · simp
    cases b4
    · have : uriJoin ⟨https, au, pa, qu, fr, true, true, b3, false⟩ = https ++ [58] ++ ([47, 47] ++ au) ++ pa ++ (if b3 then [63] ++ qu else []) := by simp [uriJoin]
      rw [this, cutC_none (pre_none hn), hf0 rfl]
    · have : uriJoin ⟨https, au, pa, qu, fr, true, true, b3, true⟩ = (https ++ [58] ++ ([47, 47] ++ au) ++ pa ++ (if b3 then [63] ++ qu else [])) ++ 35 :: fr := by simp [uriJoin]
      rw [this, cutC_some (pre_none hn)]
  have c2 : cutC 63 (https ++ [58] ++ ([47, 47] ++ au) ++ pa ++ (if b3 then [63] ++ qu else [])) = (https ++ [58] ++ ([47, 47] ++ au) ++ pa, qu, b3) := by
    have hn : (63 : UInt8) ∉ https ++ [58] ++ ([47, 47] ++ au) ++ pa := by
      simp only [List.mem_append, not_or]
      exact ⟨⟨⟨by decide, by decide⟩, by decide, fun h => (ha _ h).2.1 rfl⟩, fun h => (hpb _ h).1 rfl⟩
    cases b3
    · rw [if_neg (by simp), List.append_nil, cutC_none (pre_none hn), hq0 rfl]
    · rw [if_pos rfl, List.singleton_append, cutC_some (pre_none hn)]
  unfold uriSplit
  rw [if_neg (by omega), c1]
  simp only
  rw [c2]
  simp only
  obtain ⟨r, rfl⟩ := hp
  have e : https ++ [58] ++ ([47, 47] ++ au) ++ 47 :: r = 104 :: 116 :: 116 :: 112 :: 115 :: 58 :: 47 :: 47 :: (au ++ 47 :: r) := by simp [https]
  have p5 : pre colonSlash (104 :: 116 :: 116 :: 112 :: 115 :: 58 :: 47 :: 47 :: (au ++ 47 :: r)) = 5 := by
    simp only [pre_cons]
    rw [if_neg (by decide), if_neg (by decide), if_neg (by decide), if_neg (by decide), if_neg (by decide), if_pos (by decide)]
  have pa : pre (· == 47) (au ++ 47 :: r) = au.length := pre_app (pre_none (fun h => (ha _ h).1 rfl)) 47 r (by decide)
  rw [e]
  unfold splitRest
  rw [p5]
  simp only [List.drop_succ_cons, List.drop_zero, List.take_succ_cons, List.take_zero, List.head?_cons, if_true, authPath, pa, List.take_left, List.drop_left]
  rw [if_pos (by decide)]
  rfl
def urlUri (u : Url) : Uri := ⟨https, hostText u.host u.port, u.path, u.query, u.fragment, true, true, u.hasQuery, u.hasFrag⟩
theorem urlText_join (u : Url) : urlText u = uriJoin (urlUri u) := by
  unfold urlText uriJoin urlUri urlTarget
  cases u.hasQuery <;> simp [https]
structure CanUrl (u : Url) : Prop where
  host : hostPort (hostText u.host u.port) = ((u.host, u.port), 0)
  path : Can inPath u.path
  slash : ∃ r, u.path = 47 :: r
  dots : removeDots u.path = u.path
  query : Can inQuery u.query
  frag : Can inQuery u.fragment
  noq : u.hasQuery = false → u.query = []
  nof : u.hasFrag = false → u.fragment = []
  len : (urlText u).length ≤ 4096
theorem host_no {x : Bytes} {p : Int} (h : hostPort (hostText x p) = ((x, p), 0)) : ∀ c ∈ hostText x p, c ≠ 47 ∧ c ≠ 63 ∧ c ≠ 35 ∧ c ≠ 64 := by
  intro c hc
  have h1 := hostPort_bytes h c hc
  have := all256 (p := fun c => !(ldh c || c == 46 || c == 58) || (c != 47 && c != 63 && c != 35 && c != 64)) (by decide +kernel) c
  have h2 : (ldh c || c == 46 || c == 58) = true := by rcases h1 with h | rfl | rfl <;> simp [*]
  rw [h2] at this
  simpa [and_assoc] using this
theorem path_no {s : Bytes} (h : Can inPath s) : ∀ c ∈ s, c ≠ 63 ∧ c ≠ 35 := by
  intro c hc
  have h1 := can_bytes h c hc
  have := all256 (p := fun c => !(keepB inPath c || c == 37 || isHex c) || (c != 63 && c != 35)) (by decide +kernel) c
  have h2 : (keepB inPath c || c == 37 || isHex c) = true := by rcases h1 with h | rfl | h <;> simp [*]
  rw [h2] at this
  simpa using this
theorem query_no {s : Bytes} (h : Can inQuery s) : (35 : UInt8) ∉ s := by
  intro hc
  have := can_bytes h _ hc
  revert this; decide
theorem CanUrl.split {u : Url} (h : CanUrl u) : uriSplit (urlText u) = (urlUri u, 0) := by
  rw [urlText_join]
  refine split_join (urlUri u) rfl rfl rfl (fun c hc => ?_) h.slash (path_no h.path) (query_no h.query) h.noq h.nof (by rw [← urlText_join]; have := h.len; omega)
  have := host_no h.host c hc
  exact ⟨this.1, this.2.1, this.2.2.1⟩
theorem urlText_len (u : Url) : u.path.length ≤ (urlText u).length ∧ (u.hasQuery = true → u.query.length ≤ (urlText u).length) ∧ (u.hasFrag = true → u.fragment.length ≤ (urlText u).length) := by
  unfold urlText urlTarget
  refine ⟨?_, fun h => ?_, fun h => ?_⟩
  · split <;> split <;> (simp; omega)
  · rw [if_pos h]; split <;> (simp; omega)
  · rw [if_pos h]; split <;> (simp; omega)
theorem CanUrl.parse {u : Url} (h : CanUrl u) : urlParse (urlText u) = (u, 0) := by
  obtain ⟨l1, l2, l3⟩ := urlText_len u
  have hl := h.len
  have n1 := can_norm h.path (by omega)
  have n2 : pctNorm inQuery u.query = (u.query, 0) := by
    cases hq : u.hasQuery
    · rw [h.noq hq]; rfl
    · exact can_norm h.query (by have := l2 hq; omega)
  have n3 : pctNorm inQuery u.fragment = (u.fragment, 0) := by
    cases hq : u.hasFrag
    · rw [h.nof hq]; rfl
    · exact can_norm h.frag (by have := l3 hq; omega)
  unfold urlParse
  rw [if_neg (by omega), h.split]
  simp only [ne_eq, not_true, if_false]
  unfold urlOf urlUri
  simp only
  rw [if_neg (by simp [show lower https = https by decide]), if_neg (by simp), if_neg (fun k => (host_no h.host _ k).2.2.2 rfl)]
  unfold urlParts
  simp only
  rw [h.host, n1, n2, n3]
  simp only [ne_eq, not_true, if_false]
  unfold urlEnd
  simp only
  obtain ⟨r, hr⟩ := h.slash
  have e : (if removeDots u.path = [] then [47] else removeDots u.path) = u.path := by
    rw [h.dots, hr, if_neg (by simp)]
  rw [e, if_neg (by show ¬ 4096 < (urlText u).length; omega)]
theorem urlEnd_err (h : Bytes × Int) (p q f : Bytes) (hq hf : Bool) (k : (urlEnd h p q f hq hf).2 ≠ 0) : (urlEnd h p q f hq hf).1 = Url.none := by
  unfold urlEnd at k ⊢
  generalize (if removeDots p = [] then [47] else removeDots p) = d at k ⊢
  split
  · rfl
  · rename_i h10
    rw [if_neg h10] at k
    exact absurd rfl k
theorem urlEnd_ok {h : Bytes × Int} {p q f : Bytes} {hq hf : Bool} {u : Url} (k : urlEnd h p q f hq hf = (u, 0)) : u = ⟨h.1, h.2, if removeDots p = [] then [47] else removeDots p, q, f, hq, hf⟩ ∧ (urlText u).length ≤ 4096 := by
  unfold urlEnd at k
  generalize (if removeDots p = [] then [47] else removeDots p) = d at k ⊢
  split at k
  · simp at k
  · obtain rfl := (Prod.mk.inj k).1
    exact ⟨rfl, by omega⟩
theorem urlParse_err (s : Bytes) (h : (urlParse s).2 ≠ 0) : (urlParse s).1 = Url.none := by
  unfold urlParse at h ⊢
  split
  · rfl
  rename_i h1
  rw [if_neg h1] at h
  split
  · rfl
  rename_i h2
  rw [if_neg h2] at h
  unfold urlOf at h ⊢
  split
  · rfl
  rename_i h3
  rw [if_neg h3] at h
  split
  · rfl
  rename_i h4
  rw [if_neg h4] at h
  split
  · rfl
  rename_i h5
  rw [if_neg h5] at h
  unfold urlParts at h ⊢
  split
  · rfl
  rename_i h6
  rw [if_neg h6] at h
  split
  · rfl
  rename_i h7
  rw [if_neg h7] at h
  split
  · rfl
  rename_i h8
  rw [if_neg h8] at h
  split
  · rfl
  rename_i h9
  rw [if_neg h9] at h
  exact urlEnd_err _ _ _ _ _ _ h
theorem removeDots_one : removeDots [47] = [47] := by decide
theorem split_noq (s : Bytes) (h : (uriSplit s).2 = 0) : ((uriSplit s).1.hasQuery = false → (uriSplit s).1.query = []) ∧ ((uriSplit s).1.hasFrag = false → (uriSplit s).1.fragment = []) ∧ ((uriSplit s).1.hasAuthority = true → (uriSplit s).1.path = [] ∨ ∃ r, (uriSplit s).1.path = 47 :: r) := by
  unfold uriSplit at h ⊢
  split
  · rename_i h1; rw [if_pos h1] at h; simp at h
  rename_i h1
  rw [if_neg h1] at h
  have q1 := uncut_no 63 (cutC 35 s).1
  have q2 := uncut_no 35 s
  have ha : ∀ t : Bytes, (authPath t).2.1 = true → (authPath t).2.2 = [] ∨ ∃ r, (authPath t).2.2 = 47 :: r := by
    intro t
    unfold authPath
    split
    · intro _; exact drop_pre _
    · intro h; simp at h
  unfold splitRest at h ⊢
  split
  · rename_i h2
    rw [if_pos h2] at h
    split
    · exact ⟨q1, q2, ha _⟩
    · rename_i h3; rw [if_neg h3] at h; simp at h
  · exact ⟨q1, q2, ha _⟩
theorem can_of_parse {s : Bytes} {u : Url} (h : urlParse s = (u, 0)) : CanUrl u := by
  unfold urlParse at h
  split at h
  · simp at h
  split at h
  · rename_i h1 h2; exact absurd (Prod.mk.inj h).2 h2
  rename_i h1 h2
  have h2 : (uriSplit s).2 = 0 := by simpa using h2
  obtain ⟨q1, q2, q3⟩ := split_noq s h2
  generalize (uriSplit s).1 = r at h q1 q2 q3
  unfold urlOf at h
  split at h
  · simp at h
  split at h
  · simp at h
  split at h
  · simp at h
  rename_i h3 h4 h5
  have hau := q3 (by simpa using h4)
  unfold urlParts at h
  split at h
  · rename_i h6; exact absurd (Prod.mk.inj h).2 h6
  split at h
  · rename_i h6; exact absurd (Prod.mk.inj h).2 h6
  split at h
  · rename_i h6; exact absurd (Prod.mk.inj h).2 h6
  split at h
  · rename_i h6; exact absurd (Prod.mk.inj h).2 h6
  rename_i e1 e2 e3 e4
  obtain ⟨h, hlen⟩ := urlEnd_ok h
  have hp := norm_can (also := inPath) (s := r.path) (by simpa using e2)
  have hq := norm_can (also := inQuery) (s := r.query) (by simpa using e3)
  have hf := norm_can (also := inQuery) (s := r.fragment) (by simpa using e4)
  have hd : removeDots (pctNorm inPath r.path).1 = [] ∨ ∃ q, removeDots (pctNorm inPath r.path).1 = 47 :: q ∧ removeDots (47 :: q) = 47 :: q := by
    have hh : (pctNorm inPath r.path).1 = [] ∨ ∃ q, (pctNorm inPath r.path).1 = 47 :: q := by
      rcases hau with h | ⟨q, h⟩
      · left; rw [h]; rfl
      · right
        have e2' : (pctNorm inPath r.path).2 = 0 := by simpa using e2
        rw [h] at e2' ⊢
        unfold pctNorm at e2' ⊢
        split
        · rename_i hx; rw [if_pos hx] at e2'; simp at e2'
        rename_i hx
        rw [if_neg hx, units_lit (by decide), normU, if_pos (by decide)] at e2'
        rw [units_lit (by decide), normU, if_pos (by decide)]
        unfold comb at e2' ⊢
        split
        · exact ⟨_, rfl⟩
        · rename_i hy; rw [if_neg hy] at e2'; exact absurd e2' hy
    rcases hh with h | ⟨q, h⟩
    · left; rw [h]; rfl
    · right
      rw [h]
      obtain ⟨⟨q', hq'⟩, -⟩ := clean_segs q
      exact ⟨q', hq', by have := removeDots_clean q; rw [hq'] at this; exact this⟩
  have hhp : hostPort r.authority = (((hostPort r.authority).1.1, (hostPort r.authority).1.2), 0) := by
    have : (hostPort r.authority).2 = 0 := by simpa using e1
    rw [← this]
  subst h
  refine ⟨(hostPort_back hhp).1, ?_, ?_, ?_, hq, hf, fun k => by simp only at k ⊢; rw [q1 k]; rfl, fun k => by simp only at k ⊢; rw [q2 k]; rfl, by omega⟩
  · simp only
    rcases hd with hd | ⟨q, hd, -⟩
    · rw [if_pos hd]; exact can_one (by decide) (by decide)
    · rw [if_neg (by rw [hd]; simp)]; exact can_removeDots (by decide) hp
  · simp only
    rcases hd with hd | ⟨q, hd, -⟩
    · rw [if_pos hd]; exact ⟨_, rfl⟩
    · rw [if_neg (by rw [hd]; simp)]; exact ⟨_, hd⟩
  · simp only
    rcases hd with hd | ⟨q, hd, hd2⟩
    · rw [if_pos hd]; exact removeDots_one
    · rw [if_neg (by rw [hd]; simp), hd]; exact hd2
def Url.bare (u : Url) : Url := { u with fragment := [], hasFrag := false }
theorem CanUrl.bare {u : Url} (h : CanUrl u) : CanUrl u.bare :=
  ⟨h.host, h.path, h.slash, h.dots, h.query, can_nil _, h.noq, fun _ => rfl, by
    have := h.len
    unfold urlText at this ⊢
    unfold Url.bare urlTarget at *
    simp at this ⊢
    omega⟩
theorem CanUrl.valid {u : Url} (h : CanUrl u) : urlValid u = true := by unfold urlValid; rw [h.parse]; simp
theorem valid_can {u : Url} (h : urlValid u = true) : CanUrl u := can_of_parse (of_decide_eq_true h)
end Wf
/- Plain functions and laws of package acct. -/
set_option linter.all false
namespace Wf
open Go Go.RowKit
structure Acct where
  user : Bytes
  host : Bytes
  deriving DecidableEq
def Acct.none : Acct := ⟨[], []⟩
def inUser : Bytes := [33, 36, 38, 39, 40, 41, 42, 43, 44, 59, 61]
def acctS : Bytes := [97, 99, 99, 116, 58]
def acctOf (n : Bytes × Int) (h : Bytes × Int) : Acct × Int :=
  if n.2 ≠ 0 ∨ n.1 = [] ∨ n.1.head? = some 37 then (Acct.none, 80)
  else if h.2 ≠ 0 then (Acct.none, h.2)
  else (⟨n.1, h.1⟩, 0)
def acctRest (s : Bytes) : Acct × Int :=
  if (cutC 64 s).2.2 = false then (Acct.none, 6)
  else acctOf (pctNorm inUser (cutC 64 s).1) (hostM (cutC 64 s).2.1)
def acctParse (s : Bytes) : Acct × Int :=
  if 4096 < s.length then (Acct.none, 5)
  else if s.length < 5 ∨ lower (s.take 5) ≠ acctS then (Acct.none, 60)
  else acctRest (s.drop 5)
def acctText (a : Acct) : Bytes := acctS ++ a.user ++ [64] ++ a.host
theorem cut_parts {c : UInt8} {s : Bytes} (h : (cutC c s).2.2 = true) : s.length = (cutC c s).1.length + 1 + (cutC c s).2.1.length := by
  have := congrArg List.length (uncut c s)
  rw [if_pos h] at this
  simp at this; omega
structure CanAcct (a : Acct) : Prop where
  user : Can inUser a.user
  ne : a.user ≠ []
  no : a.user.head? ≠ some 37
  host : hostM a.host = (a.host, 0)
end Wf
/- Plain functions and laws of package did. -/
set_option linter.all false
namespace Wf
open Go Go.RowKit
structure Did where
  method : Bytes
  id : Bytes
  deriving DecidableEq
def Did.none : Did := ⟨[], []⟩
structure DidUrl where
  did : Did
  path : Bytes
  query : Bytes
  fragment : Bytes
  hasQuery : Bool
  hasFrag : Bool
  deriving DecidableEq
def DidUrl.none : DidUrl := ⟨Did.none, [], [], [], false, false⟩
def plainD (c : UInt8) : Bool := isAlpha c || isDigit c || ([46, 45, 95] : Bytes).contains c
def methodC (c : UInt8) : Bool := isDigit c || decide (97 ≤ c.toNat ∧ c.toNat ≤ 122)
def methodOk (s : Bytes) : Bool := !s.isEmpty && s.all methodC
def didB (c : UInt8) : Bytes := if plainD c then [c] else esc c
def didEsc (s : Bytes) : Bytes := s.flatMap didB
def didU : PU → Bytes
  | .lit c => [c]
  | .hex a b => didB (unhex a b)
  | .bad => []
def litOk : PU → Bool
  | .lit c => plainD c || c == 58
  | _ => true
def didCanon (s : Bytes) : Bytes × Int :=
  if PU.bad ∈ units s then ([], 2) else if (units s).all litOk = false then ([], 1) else ((units s).flatMap didU, 0)
def didEnd (m : Bytes) (c : Bytes × Int) : Did × Int :=
  if c.2 ≠ 0 then (Did.none, c.2) else if c.1 = [] ∨ c.1.getLast? = some 58 then (Did.none, 3) else (⟨m, c.1⟩, 0)
def didRest (s : Bytes) : Did × Int :=
  if (cutC 58 s).2.2 = false then (Did.none, 6)
  else if methodOk (cutC 58 s).1 = false then (Did.none, 100)
  else didEnd (cutC 58 s).1 (didCanon (cutC 58 s).2.1)
def didS : Bytes := [100, 105, 100, 58]
def didParse (s : Bytes) : Did × Int :=
  if 4096 < s.length then (Did.none, 5)
  else if didS.isPrefixOf s = false then (Did.none, 60)
  else didRest (s.drop 4)
def didText (d : Did) : Bytes := didS ++ d.method ++ [58] ++ d.id
def didUrlText (u : DidUrl) : Bytes := didText u.did ++ u.path ++ (if u.hasQuery then [63] ++ u.query else []) ++ (if u.hasFrag then [35] ++ u.fragment else [])
def didUrlEnd (d : Did × Int) (p q f : Bytes × Int) (hq hf : Bool) : DidUrl × Int :=
  if d.2 ≠ 0 then (DidUrl.none, d.2)
  else if p.2 ≠ 0 then (DidUrl.none, p.2)
  else if q.2 ≠ 0 then (DidUrl.none, q.2)
  else if f.2 ≠ 0 then (DidUrl.none, f.2)
  else (⟨d.1, p.1, q.1, f.1, hq, hf⟩, 0)
def didUrlOf (s q f : Bytes) (hq hf : Bool) : DidUrl × Int :=
  didUrlEnd (didParse (s.take (pre (· == 47) s))) (pctNorm inPath (s.drop (pre (· == 47) s))) (pctNorm inQuery q) (pctNorm inQuery f) hq hf
def didUrl (s : Bytes) : DidUrl × Int :=
  if 4096 < s.length then (DidUrl.none, 5)
  else didUrlOf (cutC 63 (cutC 35 s).1).1 (cutC 63 (cutC 35 s).1).2.1 (cutC 35 s).2.1 (cutC 63 (cutC 35 s).1).2.2 (cutC 35 s).2.2
def didResolve (d : Did) (r : Bytes) : DidUrl × Int :=
  if didS.isPrefixOf r = true then didUrl r
  else if r = [] ∨ r.head? = some 47 ∨ r.head? = some 63 ∨ r.head? = some 35 then didUrl (didText d ++ r)
  else (DidUrl.none, 6)
/-! units -/
theorem units_str : ∀ (l : List PU), (∀ x ∈ l, (∀ c, x = .lit c → c ≠ 37) ∧ (∀ a b, x = .hex a b → isHex a = true ∧ isHex b = true) ∧ x ≠ .bad) → units (l.flatMap PU.str) = l
  | [], _ => rfl
  | .lit c :: r, h => by
    have h1 := (h _ List.mem_cons_self).1 c rfl
    rw [List.flatMap_cons, PU.str, List.singleton_append, units_lit h1, units_str r (fun x hx => h x (List.mem_cons_of_mem _ hx))]
  | .hex a b :: r, h => by
    have h1 := (h _ List.mem_cons_self).2.1 a b rfl
    rw [List.flatMap_cons, PU.str]
    simp only [List.cons_append, List.nil_append]
    rw [units_hex h1.1 h1.2, units_str r (fun x hx => h x (List.mem_cons_of_mem _ hx))]
  | .bad :: r, h => ((h _ List.mem_cons_self).2.2 rfl).elim
theorem unitsGo_back : ∀ (f : Nat) (s : Bytes), s.length ≤ f → PU.bad ∉ unitsGo f s → (unitsGo f s).flatMap PU.str = s
  | 0, s, h, _ => by
    obtain rfl := List.length_eq_zero_iff.1 (Nat.le_zero.1 h)
    rfl
  | f + 1, [], _, _ => rfl
  | f + 1, c :: r, h, hb => by
    rw [unitsGo] at hb ⊢
    simp only [List.length_cons] at h
    split
    · rename_i hc
      rw [if_pos hc] at hb
      cases hp : hexPair r with
      | none => rw [hp] at hb; simp at hb
      | some x =>
        obtain ⟨a, b, r'⟩ := x
        rw [hp] at hb
        obtain ⟨rfl, -, -⟩ := hexPair_some hp
        simp only [List.mem_cons, reduceCtorEq, false_or] at hb
        simp only [List.length_cons] at h
        simp only [List.flatMap_cons, PU.str, unitsGo_back f r' (by omega) hb]
        rw [hc]; rfl
    · rename_i hc
      rw [if_neg hc] at hb
      simp only [List.mem_cons, reduceCtorEq, false_or] at hb
      simp only [List.flatMap_cons, PU.str, unitsGo_back f r (by omega) hb]
      rfl
theorem units_back {s : Bytes} (h : PU.bad ∉ units s) : (units s).flatMap PU.str = s := unitsGo_back _ s (Nat.le_refl _) h
theorem unitsGo_hex : ∀ (f : Nat) (s : Bytes) (a b : UInt8), PU.hex a b ∈ unitsGo f s → isHex a = true ∧ isHex b = true
  | 0, _, _, _, h => by simp [unitsGo] at h
  | _ + 1, [], _, _, h => by simp [unitsGo] at h
  | f + 1, d :: r, a, b, h => by
    rw [unitsGo] at h
    split at h
    · cases hp : hexPair r with
      | none => rw [hp] at h; simp at h
      | some x =>
        obtain ⟨a', b', r'⟩ := x
        rw [hp] at h
        obtain ⟨-, h2, h3⟩ := hexPair_some hp
        simp only [List.mem_cons, PU.hex.injEq] at h
        rcases h with ⟨rfl, rfl⟩ | h
        · exact ⟨h2, h3⟩
        · exact unitsGo_hex f _ a b h
    · simp only [List.mem_cons, reduceCtorEq, false_or] at h
      exact unitsGo_hex f _ a b h
theorem units_hexes {s : Bytes} {a b : UInt8} (h : PU.hex a b ∈ units s) : isHex a = true ∧ isHex b = true := unitsGo_hex _ s a b h
theorem units_app_colon : ∀ (n : Nat) (a b : Bytes), a.length ≤ n → PU.bad ∉ units a → units (a ++ 58 :: b) = units a ++ .lit 58 :: units b
  | 0, a, b, h, _ => by
    obtain rfl := List.length_eq_zero_iff.1 (Nat.le_zero.1 h)
    rw [List.nil_append, units_lit (by decide)]; rfl
  | n + 1, [], b, _, _ => by rw [List.nil_append, units_lit (by decide)]; rfl
  | n + 1, c :: a, b, h, hb => by
    simp only [List.length_cons] at h
    by_cases hc : c = 37
    · subst hc
      cases hp : hexPair a with
      | none => rw [units_bad hp] at hb; simp at hb
      | some x =>
        obtain ⟨u, v, r⟩ := x
        obtain ⟨rfl, h1, h2⟩ := hexPair_some hp
        rw [units_hex h1 h2] at hb ⊢
        simp only [List.length_cons] at h
        simp only [List.cons_append]
        rw [units_hex h1 h2, units_app_colon n r b (by omega) (by simpa using hb)]
    · rw [units_lit hc] at hb ⊢
      rw [List.cons_append, units_lit hc, units_app_colon n a b (by omega) (by simpa using hb)]
      rfl
/-! canonical identifiers -/
def canD : PU → Prop
  | .lit c => (plainD c || c == 58) = true
  | .hex a b => plainD (unhex a b) = false ∧ a = hexU ((unhex a b).toNat / 16) ∧ b = hexU ((unhex a b).toNat % 16) ∧ isHex a = true ∧ isHex b = true
  | .bad => False
def CanI (s : Bytes) : Prop := ∃ l : List PU, s = l.flatMap PU.str ∧ ∀ x ∈ l, canD x
theorem plainD_no {c : UInt8} (h : (plainD c || c == 58) = true) : c ≠ 37 ∧ c ≠ 47 ∧ c ≠ 63 ∧ c ≠ 35 := by
  have := all256 (p := fun c => !(plainD c || c == 58) || (c != 37 && c != 47 && c != 63 && c != 35)) (by decide +kernel) c
  rw [h] at this
  simpa [and_assoc] using this
theorem hex_no {c : UInt8} (h : isHex c = true) : c ≠ 37 ∧ c ≠ 47 ∧ c ≠ 63 ∧ c ≠ 35 ∧ c ≠ 58 := by
  have := all256 (p := fun c => !(isHex c) || (c != 37 && c != 47 && c != 63 && c != 35 && c != 58)) (by decide +kernel) c
  rw [h] at this
  simpa [and_assoc] using this
theorem canI_units {l : List PU} (h : ∀ x ∈ l, canD x) : units (l.flatMap PU.str) = l :=
  units_str l fun x hx => by
    have := h x hx
    cases x with
    | lit c => exact ⟨fun d e => by cases e; exact (plainD_no this).1, by simp, by simp⟩
    | hex a b => exact ⟨by simp, fun u v e => by cases e; exact this.2.2.2, by simp⟩
    | bad => exact this.elim
theorem canI_canon {s : Bytes} (h : CanI s) : didCanon s = (s, 0) := by
  obtain ⟨l, rfl, hl⟩ := h
  unfold didCanon
  rw [canI_units hl, if_neg (fun k => absurd (hl _ k) (by simp [canD])), if_neg ?_]
  · congr 1
    have : ∀ m : List PU, (∀ x ∈ m, canD x) → m.flatMap didU = m.flatMap PU.str := by
      intro m
      induction m with
      | nil => intro _; rfl
      | cons x m ih =>
        intro hm
        rw [List.flatMap_cons, List.flatMap_cons, ih (fun y hy => hm y (List.mem_cons_of_mem _ hy))]
        congr 1
        have := hm x List.mem_cons_self
        cases x with
        | lit c => rfl
        | hex a b =>
          simp only [didU, didB, PU.str]
          rw [if_neg (by simp [this.1])]
          unfold esc
          rw [← this.2.1, ← this.2.2.1]
        | bad => exact this.elim
    exact this l hl
  · simp only [Bool.not_eq_false]
    refine List.all_eq_true.2 fun x hx => ?_
    have := hl x hx
    cases x with
    | lit c => exact this
    | hex a b => rfl
    | bad => rfl
theorem canon_can {s x : Bytes} (h : didCanon s = (x, 0)) : CanI x ∧ x.length ≤ s.length ∧ (∀ c ∈ s, c ≠ 47 ∧ c ≠ 63 ∧ c ≠ 35) := by
  unfold didCanon at h
  split at h
  · simp at h
  rename_i hb
  split at h
  · simp at h
  rename_i ha
  simp only [Prod.mk.injEq, and_true] at h
  subst h
  have ha : (units s).all litOk = true := by simpa using ha
  have hs := units_back hb
  have hlit : ∀ c, PU.lit c ∈ units s → (plainD c || c == 58) = true := fun c hc => List.all_eq_true.1 ha _ hc
  have hhex := fun a b => units_hexes (s := s) (a := a) (b := b)
  generalize units s = l at *
  subst hs
  have key : ∀ m : List PU, (∀ c, PU.lit c ∈ m → (plainD c || c == 58) = true) → (∀ a b, PU.hex a b ∈ m → isHex a = true ∧ isHex b = true) → PU.bad ∉ m →
      CanI (m.flatMap didU) ∧ (m.flatMap didU).length ≤ (m.flatMap PU.str).length ∧ (∀ c ∈ m.flatMap PU.str, c ≠ 47 ∧ c ≠ 63 ∧ c ≠ 35) := by
    intro m
    induction m with
    | nil => intro _ _ _; exact ⟨⟨[], rfl, by simp⟩, by simp, by simp⟩
    | cons x m ih =>
      intro h1 h2 h3
      obtain ⟨⟨l', e', k'⟩, i2, i3⟩ := ih (fun c hc => h1 c (List.mem_cons_of_mem _ hc)) (fun a b hc => h2 a b (List.mem_cons_of_mem _ hc)) (fun hc => h3 (List.mem_cons_of_mem _ hc))
      simp only [List.flatMap_cons, List.length_append]
      cases x with
      | lit c =>
        have hc := h1 c List.mem_cons_self
        refine ⟨⟨.lit c :: l', by rw [e']; rfl, fun y hy => ?_⟩, by rw [show (didU (.lit c)).length = 1 from rfl, show (PU.str (.lit c)).length = 1 from rfl]; omega, fun d hd => ?_⟩
        · rcases List.mem_cons.1 hy with rfl | hy
          · exact hc
          · exact k' y hy
        · rcases List.mem_append.1 hd with hd | hd
          · obtain rfl := List.mem_singleton.1 hd; exact (plainD_no hc).2
          · exact i3 d hd
      | hex a b =>
        obtain ⟨ha', hb'⟩ := h2 a b List.mem_cons_self
        have hbytes : ∀ d ∈ PU.str (.hex a b) ++ m.flatMap PU.str, d ≠ 47 ∧ d ≠ 63 ∧ d ≠ 35 := by
          intro d hd
          rcases List.mem_append.1 hd with hd | hd
          · simp only [PU.str, List.mem_cons, List.not_mem_nil, or_false] at hd
            rcases hd with rfl | rfl | rfl
            · decide
            · have := hex_no ha'; exact ⟨this.2.1, this.2.2.1, this.2.2.2.1⟩
            · have := hex_no hb'; exact ⟨this.2.1, this.2.2.1, this.2.2.2.1⟩
          · exact i3 d hd
        have q1 : (didU (.hex a b)).length ≤ 3 := by simp only [didU, didB]; split <;> simp [esc]
        have q2 : (PU.str (.hex a b)).length = 3 := rfl
        have q3 : (if plainD (unhex a b) = true then 1 else 3) = (didU (.hex a b)).length := by simp only [didU, didB]; split <;> simp [esc]
        by_cases hp : plainD (unhex a b) = true
        · refine ⟨⟨.lit (unhex a b) :: l', by rw [e', List.flatMap_cons]; simp only [didU, didB, hp, PU.str, if_true], fun y hy => ?_⟩, by omega, hbytes⟩
          rcases List.mem_cons.1 hy with rfl | hy
          · show (plainD _ || _) = true; rw [hp]; rfl
          · exact k' y hy
        · have hp : plainD (unhex a b) = false := by simpa using hp
          have hn := (unhex a b).toNat_lt
          have hv := unhex_esc (unhex a b)
          refine ⟨⟨.hex (hexU ((unhex a b).toNat / 16)) (hexU ((unhex a b).toNat % 16)) :: l', by rw [e', List.flatMap_cons]; simp only [didU, didB, hp, PU.str, esc, Bool.false_eq_true, if_false], fun y hy => ?_⟩, by omega, hbytes⟩
          rcases List.mem_cons.1 hy with rfl | hy
          · exact ⟨by rw [hv]; exact hp, by rw [hv], by rw [hv], hexU_hex _ (by omega), hexU_hex _ (by omega)⟩
          · exact k' y hy
      | bad => exact (h3 List.mem_cons_self).elim
  exact key l hlit hhex hb
structure CanDid (d : Did) : Prop where
  method : methodOk d.method = true
  id : CanI d.id
  ne : d.id ≠ []
  last : d.id.getLast? ≠ some 58
theorem method_no {s : Bytes} (h : methodOk s = true) : ∀ c ∈ s, c ≠ 47 ∧ c ≠ 63 ∧ c ≠ 35 ∧ c ≠ 58 := by
  intro c hc
  unfold methodOk at h
  simp only [Bool.and_eq_true] at h
  have h1 := List.all_eq_true.1 h.2 c hc
  have := all256 (p := fun c => !(methodC c) || (c != 47 && c != 63 && c != 35 && c != 58)) (by decide +kernel) c
  rw [h1] at this
  simpa [and_assoc] using this
theorem did_can {s : Bytes} {d : Did} (h : didParse s = (d, 0)) : CanDid d ∧ (didText d).length ≤ s.length ∧ s.length ≤ 4096 ∧ ∀ c ∈ s, c ≠ 47 ∧ c ≠ 63 ∧ c ≠ 35 := by
  unfold didParse at h
  split at h
  · simp at h
  split at h
  · simp at h
  rename_i h1 h2
  have h2 : didS.isPrefixOf s = true := by simpa using h2
  obtain ⟨r, rfl⟩ := List.isPrefixOf_iff_prefix.1 h2
  have e4 : (didS ++ r).drop 4 = r := rfl
  rw [e4] at h
  unfold didRest at h
  split at h
  · simp at h
  split at h
  · simp at h
  rename_i h3 h4
  have h3 : (cutC 58 r).2.2 = true := by simpa using h3
  have h4 : methodOk (cutC 58 r).1 = true := by simpa using h4
  unfold didEnd at h
  split at h
  · rename_i h5; exact absurd (Prod.mk.inj h).2 h5
  split at h
  · simp at h
  rename_i h5 h6
  simp only [not_or] at h6
  simp only [Prod.mk.injEq, and_true] at h
  subst h
  have e : didCanon (cutC 58 r).2.1 = ((didCanon (cutC 58 r).2.1).1, 0) := by
    have : (didCanon (cutC 58 r).2.1).2 = 0 := by simpa using h5
    rw [← this]
  obtain ⟨k1, k2, k3⟩ := canon_can e
  have hlen := cut_parts h3
  refine ⟨⟨h4, k1, h6.1, h6.2⟩, ?_, by omega, ?_⟩
  · simp only [didText, List.length_append, List.length_cons, List.length_nil]; omega
  · have hu := uncut 58 r
    rw [if_pos h3] at hu
    intro c hc
    rcases List.mem_append.1 hc with hc | hc
    · have : ∀ c ∈ didS, c ≠ 47 ∧ c ≠ 63 ∧ c ≠ 35 := by decide
      exact this c hc
    · rw [hu] at hc
      rcases List.mem_append.1 hc with hc | hc
      · have := method_no h4 c hc; exact ⟨this.1, this.2.1, this.2.2.1⟩
      · rcases List.mem_append.1 hc with hc | hc
        · obtain rfl := List.mem_singleton.1 hc; decide
        · exact k3 c hc
theorem didParse_err (s : Bytes) (h : (didParse s).2 ≠ 0) : (didParse s).1 = Did.none := by
  unfold didParse at h ⊢
  split
  · rfl
  rename_i h1
  rw [if_neg h1] at h
  split
  · rfl
  rename_i h2
  rw [if_neg h2] at h
  unfold didRest at h ⊢
  split
  · rfl
  rename_i h3
  rw [if_neg h3] at h
  split
  · rfl
  rename_i h4
  rw [if_neg h4] at h
  unfold didEnd at h ⊢
  split
  · rfl
  rename_i h5
  rw [if_neg h5] at h
  split
  · rfl
  rename_i h6
  rw [if_neg h6] at h
  exact absurd rfl h
theorem did_read {d : Did} (h : CanDid d) (hl : (didText d).length ≤ 4096) : didParse (didText d) = (d, 0) := by
  unfold didParse
  have e1 : didS.isPrefixOf (didText d) = true := rfl
  have e2 : (didText d).drop 4 = d.method ++ 58 :: d.id := by show d.method ++ [58] ++ d.id = _; simp
  rw [if_neg (by omega), if_neg (by rw [e1]; simp), e2]
  unfold didRest
  rw [cutC_some (pre_none (fun k => (method_no h.method _ k).2.2.2 rfl)), if_neg (by simp), if_neg (by simp [h.method])]
  simp only
  rw [canI_canon h.id]
  unfold didEnd
  rw [if_neg (by simp), if_neg (by simp only [not_or]; exact ⟨h.ne, h.last⟩)]
structure CanDidUrl (u : DidUrl) : Prop where
  did : CanDid u.did
  path : Can inPath u.path
  slash : u.path = [] ∨ ∃ r, u.path = 47 :: r
  query : Can inQuery u.query
  frag : Can inQuery u.fragment
  noq : u.hasQuery = false → u.query = []
  nof : u.hasFrag = false → u.fragment = []
end Wf
/- Plain laws on DIDs: what the program and the reference compute for an identifier. -/
set_option linter.all false
namespace Wf
open Go Go.RowKit
def repB (c : UInt8) (new : Bytes) (d : UInt8) : Bytes := if d = c then new else [d]
theorem rep_none {c : UInt8} {new s : Bytes} (h : c ∉ s) : s.flatMap (repB c new) = s := by
  induction s with
  | nil => rfl
  | cons d s ih =>
    simp only [List.mem_cons, not_or] at h
    rw [List.flatMap_cons, ih h.2]
    unfold repB
    rw [if_neg (fun e => h.1 e.symm)]; rfl
theorem replaceK_one (c : UInt8) (new : Bytes) : ∀ (k : Nat) (s : Bytes), s.count c = k → Lib.replaceK [c] new k s = s.flatMap (repB c new) := by
  intro k
  induction k with
  | zero =>
    intro s h
    rw [rep_none (fun hm => by have := List.count_pos_iff.2 hm; omega)]; rfl
  | succ k ih =>
    intro s h
    by_cases hp : pre (· == c) s < s.length
    · have hk : Lib.index s [c] = (pre (· == c) s : Nat) := by rw [index_one, indexByte_pre, if_pos hp]
      rw [Lib.replaceK_hit [c] new k s _ hk]
      rw [count_pre hp] at h
      have e : s = s.take (pre (· == c) s) ++ c :: s.drop (pre (· == c) s + 1) := by
        have := pre_at hp
        simp only [beq_iff_eq] at this
        conv => lhs; rw [← List.take_append_drop (pre (· == c) s) s, List.drop_eq_getElem_cons hp, this]
      have hn : c ∉ s.take (pre (· == c) s) := by
        intro hm
        have h1 := pre_take (· == c) s
        obtain ⟨j, hj, e⟩ := List.getElem_of_mem hm
        have := pre_get (p := (· == c)) (l := s.take (pre (· == c) s)) (k := j) (by omega) hj
        rw [e] at this
        simp at this
      rw [show [c].length = 1 from rfl, ih _ (by omega)]
      conv => rhs; rw [e, List.flatMap_append, List.flatMap_cons, rep_none hn]
      simp [repB]
    · rw [count_zero hp] at h; omega
theorem replaceAll_one (c : UInt8) (new s : Bytes) (hne : ([c] == new) = false) : Lib.replaceAll s [c] new = s.flatMap (repB c new) := by
  unfold Lib.replaceAll Lib.replace Lib.replaceNum
  rw [hne, if_neg (by simp), if_pos (.inl (by omega)), Lib.count_one, replaceK_one c new _ s rfl]
/-! The program's way. -/
def nU : PU → Bytes
  | .lit c => [c]
  | .hex a b => normB (unhex a b)
  | .bad => []
def litKeep (also : Bytes) : PU → Bool
  | .lit c => keepB also c
  | _ => true
theorem normU_nobad (also : Bytes) : ∀ l : List PU, PU.bad ∉ l → normU also l = if l.all (litKeep also) then (l.flatMap nU, 0) else ([], 1)
  | [], _ => rfl
  | .bad :: r, h => by simp at h
  | .lit c :: r, h => by
    rw [normU, normU_nobad also r (by simpa using h), List.all_cons]
    cases hk : keepB also c
    · simp [litKeep, hk]
    · cases hr : r.all (litKeep also) <;> simp [litKeep, hk, comb, nU]
  | .hex a b :: r, h => by
    rw [normU, normU_nobad also r (by simpa using h), List.all_cons]
    cases hr : r.all (litKeep also) <;> simp [litKeep, comb, nU]
def progCanon (s : Bytes) : Bytes × Int :=
  if (pctDecode s).2 ≠ 0 then ([], (pctDecode s).2)
  else ((pctNorm [58] s).1.flatMap (repB 126 [37, 55, 69]), if (pctNorm [58] s).2 = 0 ∧ (126 : UInt8) ∈ s then 1 else (pctNorm [58] s).2)
theorem rep_norm (v : UInt8) : (normB v).flatMap (repB 126 [37, 55, 69]) = didB v := by
  have := all256 (p := fun v => (normB v).flatMap (repB 126 [37, 55, 69]) == didB v) (by decide +kernel) v
  simpa using this
theorem lit_mem {s : Bytes} {c : UInt8} (hb : PU.bad ∉ units s) (hc : c ≠ 37) (hx : isHex c = false) : c ∈ s ↔ PU.lit c ∈ units s := by
  have hs := units_back hb
  constructor
  · intro h
    rw [← hs] at h
    obtain ⟨u, hu, h⟩ := List.mem_flatMap.1 h
    cases u with
    | lit d => obtain rfl := List.mem_singleton.1 h; exact hu
    | hex a b =>
      have := units_hexes hu
      simp only [PU.str, List.mem_cons, List.not_mem_nil, or_false] at h
      rcases h with rfl | rfl | rfl
      · exact absurd rfl hc
      · rw [this.1] at hx; cases hx
      · rw [this.2] at hx; cases hx
    | bad => simp [PU.str] at h
  · intro h
    rw [← hs]
    exact List.mem_flatMap.2 ⟨_, h, List.mem_singleton.2 rfl⟩
theorem progCanon_eq (s : Bytes) (hl : s.length ≤ 16384) : (progCanon s).2 = (didCanon s).2 ∧ ((didCanon s).2 = 0 → (progCanon s).1 = (didCanon s).1) := by
  have d1 : pctDecode s = if PU.bad ∈ units s then ([], 2) else ((units s).map PU.val, 0) := if_neg (by omega)
  have d2 : pctNorm [58] s = normU [58] (units s) := by unfold pctNorm; first | rfl | exact if_neg (by omega)
  unfold progCanon didCanon
  rw [d1, d2]
  clear d1 d2
  by_cases hb : PU.bad ∈ units s
  · rw [if_pos hb, if_pos hb]; simp
  · rw [if_neg hb, if_neg hb, normU_nobad [58] _ hb]
    simp only [ne_eq, not_true, if_false]
    have key : ∀ c : UInt8, (plainD c || c == 58) = (keepB [58] c && c != 126) := fun c => by
      have := all256 (p := fun c => (plainD c || c == 58) == (keepB [58] c && c != 126)) (by decide +kernel) c
      simpa using this
    have h126 := lit_mem (s := s) (c := 126) hb (by decide) (by decide)
    generalize units s = l at *
    by_cases ha : l.all (litKeep [58]) = true
    · rw [if_pos ha]
      by_cases hm : PU.lit 126 ∈ l
      · have hno : l.all litOk = false := by
          rw [← Bool.not_eq_true]
          intro h
          have := List.all_eq_true.1 h _ hm
          revert this; decide
        rw [if_pos hno, if_pos ⟨rfl, h126.2 hm⟩]
        exact ⟨rfl, fun h => by simp at h⟩
      · have hyes : ¬ l.all litOk = false := by
          rw [Bool.not_eq_false]
          refine List.all_eq_true.2 fun u hu => ?_
          have := List.all_eq_true.1 ha u hu
          cases u with
          | lit c =>
            show (plainD c || c == 58) = true
            rw [key]
            have h1 : keepB [58] c = true := this
            rw [h1, Bool.true_and, bne_iff_ne]
            rintro rfl; exact hm hu
          | hex a b => rfl
          | bad => rfl
        rw [if_neg hyes, if_neg (fun k => hm (h126.1 k.2))]
        refine ⟨rfl, fun _ => ?_⟩
        show (l.flatMap nU).flatMap (repB 126 [37, 55, 69]) = l.flatMap didU
        clear hyes h126 ha
        induction l with
        | nil => rfl
        | cons u l ih =>
          rw [List.flatMap_cons, List.flatMap_append, List.flatMap_cons, ih (fun k => hb (List.mem_cons_of_mem _ k)) (fun k => hm (List.mem_cons_of_mem _ k)) rfl]
          congr 1
          cases u with
          | lit c =>
            have : c ≠ 126 := by rintro rfl; exact hm List.mem_cons_self
            show ([c] : Bytes).flatMap (repB 126 [37, 55, 69]) = [c]
            simp [repB, this]
          | hex a b => exact rep_norm _
          | bad => rfl
    · rw [if_neg ha]
      have hno : l.all litOk = false := by
        rw [← Bool.not_eq_true]
        intro h
        refine ha (List.all_eq_true.2 fun u hu => ?_)
        have := List.all_eq_true.1 h u hu
        cases u with
        | lit c =>
          have h1 : (plainD c || c == 58) = true := this
          rw [key, Bool.and_eq_true] at h1
          exact h1.1
        | hex a b => rfl
        | bad => rfl
      rw [if_pos hno, if_neg (by simp)]
      exact ⟨rfl, fun h => by simp at h⟩
/-! The reference's way: segment by segment. -/
theorem units_app_bad : ∀ (n : Nat) (a b : Bytes), a.length ≤ n → PU.bad ∈ units a → PU.bad ∈ units (a ++ 58 :: b)
  | _, [], b, _, h => by simp [units_nil] at h
  | 0, c :: a, b, h, _ => by simp at h
  | n + 1, c :: a, b, h, hb => by
    simp only [List.length_cons] at h
    by_cases hc : c = 37
    · subst hc
      cases hp : hexPair a with
      | none =>
        have : hexPair (a ++ 58 :: b) = none := by
          rcases a with _ | ⟨u, _ | ⟨v, r⟩⟩
          · cases b <;> simp [hexPair, show isHex 58 = false by decide]
          · simp [hexPair, show isHex 58 = false by decide]
          · unfold hexPair at hp ⊢
            simp only [List.cons_append]
            by_cases hx : (isHex u && isHex v) = true
            · simp [hx] at hp
            · simp [hx]
        rw [List.cons_append, units_bad this]; simp
      | some x =>
        obtain ⟨u, v, r⟩ := x
        obtain ⟨rfl, h1, h2⟩ := hexPair_some hp
        rw [units_hex h1 h2] at hb
        simp only [List.length_cons] at h
        simp only [List.cons_append]
        rw [units_hex h1 h2]
        exact List.mem_cons_of_mem _ (units_app_bad n r b (by omega) (by simpa using hb))
    · rw [units_lit hc] at hb
      rw [List.cons_append, units_lit hc]
      exact List.mem_cons_of_mem _ (units_app_bad n a b (by omega) (by simpa using hb))
theorem segs_units : ∀ (l : List Bytes) (x : Bytes), ((∃ y ∈ x :: l, PU.bad ∈ units y) ↔ PU.bad ∈ units (x ++ l.flatMap (58 :: ·))) ∧
    ((∀ y ∈ x :: l, PU.bad ∉ units y) → units (x ++ l.flatMap (58 :: ·)) = units x ++ l.flatMap (fun y => .lit 58 :: units y))
  | [], x => by simp
  | y :: l, x => by
    obtain ⟨h1, h2⟩ := segs_units l y
    have e : x ++ (y :: l).flatMap (58 :: ·) = x ++ 58 :: (y ++ l.flatMap (58 :: ·)) := by simp
    rw [e]
    constructor
    · constructor
      · rintro ⟨z, hz, hb⟩
        by_cases hx : PU.bad ∈ units x
        · exact units_app_bad _ _ _ (Nat.le_refl _) hx
        · rw [units_app_colon _ _ _ (Nat.le_refl _) hx]
          rcases List.mem_cons.1 hz with rfl | hz
          · exact absurd hb hx
          · exact List.mem_append_right _ (List.mem_cons_of_mem _ (h1.1 ⟨z, hz, hb⟩))
      · intro hb
        by_cases hx : PU.bad ∈ units x
        · exact ⟨x, List.mem_cons_self, hx⟩
        · rw [units_app_colon _ _ _ (Nat.le_refl _) hx] at hb
          rcases List.mem_append.1 hb with hb | hb
          · exact absurd hb hx
          · simp only [List.mem_cons, reduceCtorEq, false_or] at hb
            obtain ⟨z, hz, hb⟩ := h1.2 hb
            exact ⟨z, List.mem_cons_of_mem _ hz, hb⟩
    · intro h
      rw [units_app_colon _ _ _ (Nat.le_refl _) (h x List.mem_cons_self), h2 (fun z hz => h z (List.mem_cons_of_mem _ hz))]
      simp
def segPlain (y : Bytes) : Bool := y.all fun c => plainD c || c == 37
def decV (y : Bytes) : Bytes := (units y).map PU.val
theorem hex_plain {c : UInt8} (h : isHex c = true) : plainD c = true := by
  have := all256 (p := fun c => !(isHex c) || plainD c) (by decide +kernel) c
  rw [h] at this
  simpa using this
theorem segPlain_units {y : Bytes} (hb : PU.bad ∉ units y) (hc : (58 : UInt8) ∉ y) : segPlain y = (units y).all litOk := by
  have key : ∀ l : List PU, (∀ a b, PU.hex a b ∈ l → isHex a = true ∧ isHex b = true) → (∀ c, PU.lit c ∈ l → c ≠ 37) → (58 : UInt8) ∉ l.flatMap PU.str →
      (l.flatMap PU.str).all (fun c => plainD c || c == 37) = l.all litOk := by
    intro l
    induction l with
    | nil => intros; rfl
    | cons u l ih =>
      intro hh hl hc
      have ih := ih (fun a b k => hh a b (List.mem_cons_of_mem _ k)) (fun c k => hl c (List.mem_cons_of_mem _ k)) (fun k => hc (by rw [List.flatMap_cons]; exact List.mem_append_right _ k))
      rw [List.flatMap_cons, List.all_append, List.all_cons, ih]
      congr 1
      cases u with
      | lit c =>
        have h1 : c ≠ 37 := hl c List.mem_cons_self
        have h2 : c ≠ 58 := by rintro rfl; exact hc (by simp [PU.str])
        have e1 : (c == 37) = false := by simpa using h1
        have e2 : (c == 58) = false := by simpa using h2
        simp [PU.str, litOk, e1, e2]
      | hex a b =>
        obtain ⟨h1, h2⟩ := hh a b List.mem_cons_self
        simp [PU.str, litOk, hex_plain h1, hex_plain h2]
      | bad => rfl
  have := key (units y) (fun a b => units_hexes) (units_litne y) (by rw [units_back hb]; exact hc)
  rw [units_back hb] at this
  exact this
theorem didEsc_units2 {l : List PU} (h : ∀ c, PU.lit c ∈ l → plainD c = true) (hb : PU.bad ∉ l) : l.flatMap didU = didEsc (l.map PU.val) := by
  induction l with
  | nil => rfl
  | cons u l ih =>
    have ih := ih (fun c k => h c (List.mem_cons_of_mem _ k)) (fun k => hb (List.mem_cons_of_mem _ k))
    rw [List.flatMap_cons, ih, List.map_cons]
    show _ = didB u.val ++ didEsc (l.map PU.val)
    congr 1
    cases u with
    | lit c => simp [didU, PU.val, didB, h c List.mem_cons_self]
    | hex a b => rfl
    | bad => exact absurd List.mem_cons_self hb
def segsId (x : Bytes) (l : List Bytes) : Bytes := didEsc (decV x) ++ l.flatMap fun y => 58 :: didEsc (decV y)
theorem segs_canon {s x : Bytes} {l : List Bytes} (e : s = x ++ l.flatMap (58 :: ·)) (hn : ∀ y ∈ x :: l, (58 : UInt8) ∉ y) :
    didCanon s = if ∃ y ∈ x :: l, PU.bad ∈ units y then ([], 2) else if (x :: l).all segPlain = false then ([], 1) else (segsId x l, 0) := by
  obtain ⟨h1, h2⟩ := segs_units l x
  rw [← e] at h1 h2
  unfold didCanon
  by_cases hb : ∃ y ∈ x :: l, PU.bad ∈ units y
  · rw [if_pos hb, if_pos (h1.1 hb)]
  · rw [if_neg hb, if_neg (fun k => hb (h1.2 k))]
    have hb : ∀ y ∈ x :: l, PU.bad ∉ units y := fun y hy k => hb ⟨y, hy, k⟩
    rw [h2 hb]
    have hall : (units x ++ l.flatMap fun y => PU.lit 58 :: units y).all litOk = (x :: l).all segPlain := by
      rw [List.all_append, List.all_cons, segPlain_units (hb x List.mem_cons_self) (hn x List.mem_cons_self)]
      congr 1
      have : ∀ m : List Bytes, (∀ y ∈ m, PU.bad ∉ units y ∧ (58 : UInt8) ∉ y) → (m.flatMap fun y => PU.lit 58 :: units y).all litOk = m.all segPlain := by
        intro m
        induction m with
        | nil => intro _; rfl
        | cons y m ih =>
          intro hm
          rw [List.flatMap_cons, List.all_append, List.all_cons, List.all_cons, ih (fun z hz => hm z (List.mem_cons_of_mem _ hz)), segPlain_units (hm y List.mem_cons_self).1 (hm y List.mem_cons_self).2]
          rfl
      exact this l fun y hy => ⟨hb y (List.mem_cons_of_mem _ hy), hn y (List.mem_cons_of_mem _ hy)⟩
    rw [hall]
    by_cases ha : (x :: l).all segPlain = false
    · rw [if_pos ha, if_pos ha]
    · rw [if_neg ha, if_neg ha]
      have ha : (x :: l).all segPlain = true := by simpa using ha
      congr 1
      have hp : ∀ y ∈ x :: l, (units y).flatMap didU = didEsc (decV y) := by
        intro y hy
        refine didEsc_units2 (fun c hc => ?_) (hb y hy)
        have h3 := List.all_eq_true.1 ha y hy
        rw [segPlain_units (hb y hy) (hn y hy)] at h3
        have h4 : (plainD c || c == 58) = true := List.all_eq_true.1 h3 _ hc
        have h5 : c ≠ 58 := by
          rintro rfl
          exact hn y hy ((lit_mem (hb y hy) (by decide) (by decide)).2 hc)
        simpa [h5] using h4
      rw [List.flatMap_append, hp x List.mem_cons_self]
      unfold segsId
      congr 1
      have : ∀ m : List Bytes, (∀ y ∈ m, (units y).flatMap didU = didEsc (decV y)) → (m.flatMap fun y => PU.lit 58 :: units y).flatMap didU = m.flatMap fun y => 58 :: didEsc (decV y) := by
        intro m
        induction m with
        | nil => intro _; rfl
        | cons y m ih =>
          intro hm
          rw [List.flatMap_cons, List.flatMap_append, List.flatMap_cons, List.flatMap_cons, ih (fun z hz => hm z (List.mem_cons_of_mem _ hz)), hm y List.mem_cons_self]
          rfl
      exact this l fun y hy => hp y (List.mem_cons_of_mem _ hy)
theorem esc_no58 (s : Bytes) : (58 : UInt8) ∉ didEsc s := by
  intro hc
  obtain ⟨d, -, hd⟩ := List.mem_flatMap.1 hc
  have h1 := all256 (p := fun d => (didB d).all fun c => c != 58) (by decide +kernel) d
  have := List.all_eq_true.1 h1 _ hd
  simp at this
theorem esc_nil {s : Bytes} : didEsc s = [] ↔ s = [] := by
  constructor
  · intro h
    cases s with
    | nil => rfl
    | cons c s =>
      have : didB c ++ didEsc s = [] := h
      have h2 : didB c = [] := (List.append_eq_nil_iff.1 this).1
      unfold didB esc at h2
      split at h2 <;> simp at h2
  · rintro rfl; rfl
theorem decV_nil {y : Bytes} (hb : PU.bad ∉ units y) : decV y = [] ↔ y = [] := by
  constructor
  · intro h
    have : units y = [] := List.map_eq_nil_iff.1 h
    rw [← units_back hb, this]; rfl
  · rintro rfl; rfl
theorem segs_last {x : Bytes} {l : List Bytes} (hb : ∀ y ∈ x :: l, PU.bad ∉ units y) : (segsId x l = [] ∨ (segsId x l).getLast? = some 58) ↔ (x :: l).getLast? = some [] := by
  have last : ∀ y : Bytes, (didEsc y).getLast? ≠ some 58 := fun y k => esc_no58 y (List.mem_of_getLast? k)
  rcases List.eq_nil_or_concat l with rfl | ⟨m, z, rfl⟩
  · unfold segsId
    rw [List.flatMap_nil, List.append_nil, esc_nil, decV_nil (hb x List.mem_cons_self)]
    simp [last]
  · rw [List.concat_eq_append] at *
    have hz := hb z (by simp)
    have e : segsId x (m ++ [z]) = segsId x m ++ 58 :: didEsc (decV z) := by simp [segsId]
    rw [e, show x :: (m ++ [z]) = (x :: m) ++ [z] by simp, List.getLast?_append, List.getLast?_append]
    simp only [List.getLast?_singleton, Option.some_or, Option.some.injEq]
    constructor
    · rintro (h | h)
      · simp at h
      · cases hd : didEsc (decV z) with
        | nil => exact (decV_nil hz).1 (esc_nil.1 hd)
        | cons a r =>
          rw [hd] at h
          rw [List.getLast?_cons_cons, ← hd] at h
          cases hq : (didEsc (decV z)).getLast? with
          | none => rw [List.getLast?_eq_none_iff] at hq; rw [hq] at hd; cases hd
          | some w => rw [hq] at h; exact absurd (by rw [hq]; simpa using h) (last (decV z))
    · rintro rfl
      right
      simp [decV, units_nil, didEsc]
end Wf
/- Plain: the parts of a DID URL, cut from the other end; and the segments of an ID. -/
set_option linter.all false
namespace Wf
open Go Go.RowKit
theorem pre_past {p : UInt8 → Bool} : ∀ {a : Bytes} (r : Bytes), (∀ c ∈ a, p c = false) → pre p (a ++ r) = a.length + pre p r
  | [], r, _ => by simp
  | c :: a, r, h => by
    have h1 := h c List.mem_cons_self
    have ih := pre_past (a := a) r (fun d hd => h d (List.mem_cons_of_mem _ hd))
    rw [List.cons_append, pre_cons, h1, if_neg (by simp), ih, List.length_cons]
    omega
theorem cutC_past {c : UInt8} {a : Bytes} (r : Bytes) (h : c ∉ a) : cutC c (a ++ r) = (a ++ (cutC c r).1, (cutC c r).2.1, (cutC c r).2.2) := by
  have hp : pre (· == c) (a ++ r) = a.length + pre (· == c) r := pre_past r fun d hd => by
    have : d ≠ c := by rintro rfl; exact h hd
    simpa using this
  by_cases hr : pre (· == c) r < r.length
  · rw [show cutC c r = (r.take (pre (· == c) r), r.drop (pre (· == c) r + 1), true) from if_pos hr]
    rw [show cutC c (a ++ r) = ((a ++ r).take (pre (· == c) (a ++ r)), (a ++ r).drop (pre (· == c) (a ++ r) + 1), true) from if_pos (by rw [hp, List.length_append]; omega)]
    rw [hp, List.take_length_add_append, Nat.add_assoc, List.drop_length_add_append]
  · have hle := pre_le (· == c) r
    rw [cutC_none (s := r) (by omega), cutC_none (s := a ++ r) (by rw [hp, List.length_append]; omega)]
def didHead (s : Bytes) : Nat := pre ([47, 63, 35].contains ·) s
/-! The segments of an ID, as the reference takes them. -/
theorem split_segs (c : UInt8) : ∀ (n : Nat) (s : Bytes), s.length ≤ n → ∃ x l, splitC c s = x :: l ∧ s = x ++ l.flatMap (c :: ·) ∧ ∀ y ∈ x :: l, c ∉ y := by
  intro n
  induction n with
  | zero =>
    intro s h
    obtain rfl := List.length_eq_zero_iff.1 (Nat.le_zero.1 h)
    exact ⟨[], [], rfl, rfl, by simp⟩
  | succ n ih =>
    intro s h
    have hno : c ∉ s.take (pre (· == c) s) := by
      intro hm
      obtain ⟨j, hj, e⟩ := List.getElem_of_mem hm
      have hj2 : j < pre (· == c) s ∧ j < s.length := by rw [List.length_take] at hj; omega
      have := pre_get (p := (· == c)) (l := s) (k := j) hj2.1 hj2.2
      rw [List.getElem_take] at e
      rw [e] at this
      simp at this
    by_cases hp : pre (· == c) s < s.length
    · obtain ⟨x, l, e1, e2, e3⟩ := ih (s.drop (pre (· == c) s + 1)) (by simp; omega)
      refine ⟨s.take (pre (· == c) s), x :: l, by rw [splitC_hit hp, e1], ?_, ?_⟩
      · have hg := pre_at hp
        simp only [beq_iff_eq] at hg
        conv => lhs; rw [← List.take_append_drop (pre (· == c) s) s, List.drop_eq_getElem_cons hp, hg, e2]
        simp
      · intro y hy
        rcases List.mem_cons.1 hy with rfl | hy
        · exact hno
        · exact e3 y hy
    · have hq := pre_le (· == c) s
      rw [List.take_of_length_le (by omega)] at hno
      exact ⟨s, [], splitC_miss hp, by simp, by simpa using hno⟩
def segsJoin : List Bytes → Bytes
  | [] => []
  | x :: l => segsId x l
theorem segsJoin_snoc (l : List Bytes) (y : Bytes) : segsJoin (l ++ [y]) = segsJoin l ++ (if l = [] then [] else [58]) ++ didEsc (decV y) := by
  cases l with
  | nil => simp [segsJoin, segsId]
  | cons x l => simp [segsJoin, segsId]
theorem segsJoin_take {l : List Bytes} {k : Nat} (h : k < l.length) : segsJoin (l.take (k + 1)) = segsJoin (l.take k) ++ (if k = 0 then [] else [58]) ++ didEsc (decV l[k]) := by
  rw [List.take_succ_eq_append_getElem h, segsJoin_snoc]
  congr 2
  cases k with
  | zero => simp
  | succ k => cases l with
    | nil => simp at h
    | cons x l => simp
theorem didB_len (c : UInt8) : (didB c).length ≤ 3 := by unfold didB; split <;> simp [esc]
theorem didEsc_len (s : Bytes) : (didEsc s).length ≤ 3 * s.length := by
  induction s with
  | nil => simp [didEsc]
  | cons c s ih =>
    have := didB_len c
    show (didB c ++ didEsc s).length ≤ _
    rw [List.length_append, List.length_cons]
    omega
theorem unitsGo_cnt : ∀ (f : Nat) (s : Bytes), (unitsGo f s).length ≤ f
  | 0, s => by simp [unitsGo]
  | f + 1, [] => by simp [unitsGo]
  | f + 1, c :: r => by
    rw [unitsGo]
    split
    · split
      · rename_i a b r' h
        have := unitsGo_cnt f r'
        simpa using this
      · simp
    · have := unitsGo_cnt f r
      simpa using this
theorem decV_len (y : Bytes) : (decV y).length ≤ y.length := by
  have := unitsGo_cnt y.length y
  simpa [decV, units] using this
theorem segsJoin_len : ∀ (l : List Bytes), (segsJoin l).length ≤ 3 * l.flatten.length + l.length
  | [] => by simp [segsJoin]
  | x :: l => by
    have h1 := didEsc_len (decV x)
    have h2 := decV_len x
    have h3 : ∀ m : List Bytes, (m.flatMap fun y => 58 :: didEsc (decV y)).length ≤ 3 * m.flatten.length + m.length := by
      intro m
      induction m with
      | nil => simp
      | cons y m ih =>
        have k1 := didEsc_len (decV y)
        have k2 := decV_len y
        simp only [List.flatMap_cons, List.length_append, List.length_cons, List.flatten_cons] at ih ⊢
        omega
    have h4 := h3 l
    simp only [segsJoin, segsId, List.length_append, List.flatten_cons, List.length_cons]
    omega
theorem didEnd_segs (m s : Bytes) : didEnd m (didCanon s) =
    if ∃ y ∈ splitC 58 s, PU.bad ∈ units y then (Did.none, 2) else if (splitC 58 s).all segPlain = false then (Did.none, 1)
    else if (splitC 58 s).getLast? = some [] then (Did.none, 3) else (⟨m, segsJoin (splitC 58 s)⟩, 0) := by
  obtain ⟨x, l, e1, e2, e3⟩ := split_segs 58 _ s (Nat.le_refl _)
  rw [e1, segs_canon e2 e3]
  by_cases hb : ∃ y ∈ x :: l, PU.bad ∈ units y
  · rw [if_pos hb, if_pos hb]; rfl
  rw [if_neg hb, if_neg hb]
  by_cases ha : (x :: l).all segPlain = false
  · rw [if_pos ha, if_pos ha]; rfl
  rw [if_neg ha, if_neg ha]
  have hb : ∀ y ∈ x :: l, PU.bad ∉ units y := fun y hy k => hb ⟨y, hy, k⟩
  have hs := segs_last hb
  unfold didEnd
  rw [if_neg (by simp)]
  by_cases hq : (x :: l).getLast? = some []
  · rw [if_pos hq, if_pos (hs.2 hq)]
  · rw [if_neg hq, if_neg (fun k => hq (hs.1 k))]; rfl
theorem decode_seg {y : Bytes} (h : y.length ≤ 16384) : pctDecode y = if PU.bad ∈ units y then ([], 2) else (decV y, 0) := if_neg (by omega)
end Wf
/- Plain functions and laws of package didweb. -/
set_option linter.all false
namespace Wf
open Go Go.RowKit
def webS : Bytes := [119, 101, 98]
def rootS : Bytes := [47, 46, 119, 101, 108, 108, 45, 107, 110, 111, 119, 110, 47, 100, 105, 100, 46, 106, 115, 111, 110]
def lastS : Bytes := [100, 105, 100, 46, 106, 115, 111, 110]
def didAuth (d : Did) : (Bytes × Int) × Int :=
  if d.method ≠ webS then (([], 0), 100)
  else if (didParse (didText d)).2 ≠ 0 then (([], 0), (didParse (didText d)).2)
  else hostPort (pctDecode (cutC 58 d.id).1).1
def segOk (x : Bytes) : Bool := (pctDecode x).2 == 0 && (pctDecode x).1 != [] && (pctDecode x).1 != [46] && (pctDecode x).1 != [46, 46]
def segUp (x : Bytes) : Bytes := 47 :: pctEncode [] (pctDecode x).1
def toPath (l : List Bytes) : Bytes := if l = [] then rootS else l.flatMap segUp ++ 47 :: lastS
def toUrlEnd (u : Url) : Url × Int := if 4096 < (urlText u).length then (Url.none, 5) else (u, 0)
def toUrl (d : Did) : Url × Int :=
  if (didAuth d).2 ≠ 0 then (Url.none, (didAuth d).2)
  else if (splitC 58 d.id).tail.all segOk = false then (Url.none, 110)
  else toUrlEnd ⟨(didAuth d).1.1, (didAuth d).1.2, toPath (splitC 58 d.id).tail, [], [], false, false⟩
def downC (c : UInt8) : Bool := c == 37 || unres c
def downOk (x : Bytes) : Bool := x.all downC && (pctDecode x).2 == 0 && (pctDecode x).1 != []
def segDown (x : Bytes) : Bytes := 58 :: didEsc (pctDecode x).1
def idBase (u : Url) : Bytes := u.host ++ (if u.port = 0 then [] else [37, 51, 65] ++ decS u.port.natAbs)
def fromEnd (d : Did) : Did × Int := if 4096 < (didText d).length then (Did.none, 5) else (d, 0)
def fromSegs (u : Url) (l : List Bytes) : Did × Int :=
  if u.path = rootS then fromEnd ⟨webS, idBase u⟩
  else if l.all downOk = false then (Did.none, 110)
  else fromEnd ⟨webS, idBase u ++ l.flatMap segDown⟩
def fromUrl (u : Url) : Did × Int :=
  if urlValid u = false then (Did.none, 8)
  else if u.hasQuery = true ∨ u.hasFrag = true ∨ (splitC 47 u.path).tail.getLast? ≠ some lastS then (Did.none, 6)
  else if (splitC 47 u.path).tail.length = 1 then (Did.none, 110)
  else fromSegs u (splitC 47 u.path).tail.dropLast
def didCano (d : Did) : Did × Int := if (toUrl d).2 ≠ 0 then (Did.none, (toUrl d).2) else fromUrl (toUrl d).1
/-! splitting and joining -/
theorem splitC_join (c : UInt8) : ∀ (l : List Bytes) (x : Bytes), c ∉ x → (∀ y ∈ l, c ∉ y) → splitC c (x ++ l.flatMap (c :: ·)) = x :: l
  | [], x, hx, _ => by
    rw [List.flatMap_nil, List.append_nil]
    exact splitC_miss (by rw [pre_none hx]; omega)
  | y :: l, x, hx, hl => by
    have hp : pre (· == c) (x ++ (y :: l).flatMap (c :: ·)) = x.length := by
      rw [List.flatMap_cons, List.cons_append]
      exact pre_app (pre_none hx) c _ (by simp)
    rw [splitC_hit (by rw [hp]; simp), hp, List.take_left, ← List.drop_drop, List.drop_left, List.flatMap_cons, List.cons_append, List.drop_succ_cons, List.drop_zero,
      splitC_join c l y (hl y List.mem_cons_self) (fun z hz => hl z (List.mem_cons_of_mem _ hz))]
theorem split_parts (c : UInt8) : ∀ (n : Nat) (s : Bytes), s.length ≤ n → ∃ x l, splitC c s = x :: l ∧ s = x ++ l.flatMap (c :: ·) ∧ c ∉ x ∧ ∀ y ∈ l, c ∉ y
  | n, s, h => by
    by_cases hp : pre (· == c) s < s.length
    · match n, h with
      | 0, h => omega
      | n + 1, h =>
        obtain ⟨x, l, e1, e2, e3, e4⟩ := split_parts c n (s.drop (pre (· == c) s + 1)) (by simp; omega)
        refine ⟨s.take (pre (· == c) s), x :: l, by rw [splitC_hit hp, e1], ?_, ?_, ?_⟩
        · have := pre_at hp
          simp only [beq_iff_eq] at this
          conv => lhs; rw [← List.take_append_drop (pre (· == c) s) s, List.drop_eq_getElem_cons hp, this, e2]
          simp
        · intro hm
          have h1 := (pre_take (· == c) s)
          obtain ⟨k, hk, e⟩ := List.getElem_of_mem hm
          have := pre_get (p := (· == c)) (l := s.take (pre (· == c) s)) (k := k) (by omega) hk
          rw [e] at this
          simp at this
        · intro y hy
          rcases List.mem_cons.1 hy with rfl | hy
          · exact e3
          · exact e4 y hy
    · refine ⟨s, [], splitC_miss hp, by simp, fun hm => ?_, by simp⟩
      obtain ⟨k, hk, e⟩ := List.getElem_of_mem hm
      have := pre_get (p := (· == c)) (l := s) (k := k) (by omega) hk
      rw [e] at this
      simp at this
/-! encodings -/
theorem can_enc (also s : Bytes) : Can also (pctEncode [] s) := by
  induction s with
  | nil => exact can_nil _
  | cons c s ih =>
    show Can also (encB [] c ++ pctEncode [] s)
    refine can_app ?_ ih
    unfold encB
    cases h : unres c
    · simp; exact can_esc also h
    · simp; exact can_one (by unfold keepB; rw [h]; rfl) (unres_ne h)
theorem enc_no47 (s : Bytes) : (47 : UInt8) ∉ pctEncode [] s := by
  intro hc
  obtain ⟨d, -, hd⟩ := List.mem_flatMap.1 hc
  have h1 := all256 (p := fun d => (encB [] d).all fun c => c != 47) (by decide +kernel) d
  have := List.all_eq_true.1 h1 _ hd
  simp at this
theorem enc_inj {s t : Bytes} (h : pctEncode [] s = pctEncode [] t) : s = t := by
  have h1 := (units_encode [] s).1
  rw [h, (units_encode [] t).1] at h1
  exact h1.symm
theorem didEsc_units : ∀ s : Bytes, (units (didEsc s)).map PU.val = s ∧ PU.bad ∉ units (didEsc s)
  | [] => ⟨rfl, by simp [didEsc, units_nil]⟩
  | c :: s => by
    obtain ⟨h1, h2⟩ := didEsc_units s
    have e : didEsc (c :: s) = didB c ++ didEsc s := rfl
    rw [e]
    unfold didB
    split
    · rename_i hc
      have hne : c ≠ 37 := by rintro rfl; exact absurd hc (by decide)
      rw [List.singleton_append, units_lit hne]
      exact ⟨by simp [PU.val, h1], by simpa using h2⟩
    · rw [units_esc]
      exact ⟨by simp [PU.val, h1, unhex_esc], by simpa using h2⟩
theorem decode_didEsc {s : Bytes} (h : (didEsc s).length ≤ 16384) : pctDecode (didEsc s) = (s, 0) := by
  obtain ⟨h1, h2⟩ := didEsc_units s
  unfold pctDecode
  rw [if_neg (by omega), if_neg h2, h1]
theorem didEsc_bytes (s : Bytes) : ∀ c ∈ didEsc s, c ≠ 58 := by
  intro c hc
  obtain ⟨d, -, hd⟩ := List.mem_flatMap.1 hc
  have h1 := all256 (p := fun d => (didB d).all fun c => c != 58) (by decide +kernel) d
  have := List.all_eq_true.1 h1 _ hd
  simpa using this
theorem canI_nil : CanI [] := ⟨[], rfl, by simp⟩
theorem canI_app {a b : Bytes} (ha : CanI a) (hb : CanI b) : CanI (a ++ b) := by
  obtain ⟨l, rfl, h1⟩ := ha
  obtain ⟨m, rfl, h2⟩ := hb
  exact ⟨l ++ m, by simp, fun x hx => by
    rcases List.mem_append.1 hx with h | h
    · exact h1 x h
    · exact h2 x h⟩
theorem canI_one {c : UInt8} (h : (plainD c || c == 58) = true) : CanI [c] := ⟨[.lit c], rfl, fun x hx => by
  obtain rfl := List.mem_singleton.1 hx; exact h⟩
theorem canI_esc {c : UInt8} (h : plainD c = false) : CanI (esc c) := ⟨[.hex (hexU (c.toNat / 16)) (hexU (c.toNat % 16))], rfl, fun x hx => by
  obtain rfl := List.mem_singleton.1 hx
  have hn := c.toNat_lt
  have hv := unhex_esc c
  exact ⟨by rw [hv]; exact h, by rw [hv], by rw [hv], hexU_hex _ (by omega), hexU_hex _ (by omega)⟩⟩
theorem canI_didEsc (s : Bytes) : CanI (didEsc s) := by
  induction s with
  | nil => exact canI_nil
  | cons c s ih =>
    show CanI (didB c ++ didEsc s)
    refine canI_app ?_ ih
    unfold didB
    cases h : plainD c
    · simp; exact canI_esc h
    · simp; exact canI_one (by rw [h]; rfl)
theorem canI_plain {s : Bytes} (h : ∀ c ∈ s, plainD c = true) : CanI s := by
  induction s with
  | nil => exact canI_nil
  | cons c s ih => exact canI_app (a := [c]) (canI_one (by rw [h c List.mem_cons_self]; rfl)) (ih fun d hd => h d (List.mem_cons_of_mem _ hd))
theorem host_plain {x : Bytes} (h : hostM x = (x, 0)) : ∀ c ∈ x, plainD c = true := by
  intro c hc
  have h1 := hostM_bytes h c hc
  have := all256 (p := fun c => !(ldh c || c == 46) || plainD c) (by decide +kernel) c
  have h2 : (ldh c || c == 46) = true := by rcases h1 with h | rfl <;> simp [*]
  rw [h2] at this
  simpa using this
theorem dig_plain (n : Nat) : ∀ c ∈ decS n, plainD c = true := by
  intro c hc
  have := decS_digits n c hc
  unfold plainD; rw [this]; simp
theorem host_ne {x : Bytes} (h : hostM x = (x, 0)) : x ≠ [] := by
  rintro rfl
  revert h; decide
structure HostOk (u : Url) : Prop where
  host : hostPort (hostText u.host u.port) = ((u.host, u.port), 0)
theorem idBase_facts {u : Url} (h : hostPort (hostText u.host u.port) = ((u.host, u.port), 0)) : CanI (idBase u) ∧ (58 : UInt8) ∉ idBase u ∧ idBase u ≠ [] ∧ (units (idBase u)).map PU.val = hostText u.host u.port ∧ PU.bad ∉ units (idBase u) := by
  obtain ⟨-, h1, -, -, h2, -⟩ := hostPort_back h
  have hp := host_plain h1
  have hpl : ∀ s : Bytes, (∀ c ∈ s, plainD c = true) → ∀ r, units (s ++ r) = s.map PU.lit ++ units r := by
    intro s
    induction s with
    | nil => intro _ r; rfl
    | cons c s ih =>
      intro hs r
      have := (plainD_no (c := c) (by rw [hs c List.mem_cons_self]; rfl)).1
      rw [List.cons_append, units_lit this, ih (fun d hd => hs d (List.mem_cons_of_mem _ hd))]
      rfl
  have vl : ∀ s : Bytes, (s.map PU.lit).map PU.val = s := by intro s; simp [Function.comp_def, PU.val]
  have n58 : ∀ s : Bytes, (∀ c ∈ s, plainD c = true) → (58 : UInt8) ∉ s := fun s hs hm => absurd (hs _ hm) (by decide)
  have nb : ∀ s : Bytes, PU.bad ∉ s.map PU.lit := by intro s; simp
  by_cases h0 : u.port = 0
  · have e : idBase u = u.host := by unfold idBase; rw [if_pos h0, List.append_nil]
    have e2 : hostText u.host u.port = u.host := by unfold hostText; rw [if_pos h0]
    have e3 := hpl u.host hp []
    rw [List.append_nil, units_nil, List.append_nil] at e3
    rw [e, e2, e3]
    exact ⟨canI_plain hp, n58 _ hp, host_ne h1, vl _, nb _⟩
  · have e : idBase u = u.host ++ ([37, 51, 65] ++ decS u.port.natAbs) := by unfold idBase; rw [if_neg h0]
    have e2 : hostText u.host u.port = u.host ++ [58] ++ decS u.port.natAbs := by unfold hostText; rw [if_neg h0, if_neg (by omega)]
    have e3 := hpl u.host hp ([37, 51, 65] ++ decS u.port.natAbs)
    have e4 := hpl _ (dig_plain u.port.natAbs) []
    rw [List.append_nil, units_nil, List.append_nil] at e4
    have e5 : units ([37, 51, 65] ++ decS u.port.natAbs) = .hex 51 65 :: units (decS u.port.natAbs) := units_hex (by decide) (by decide) _
    rw [e, e2, e3, e5, e4]
    refine ⟨canI_app (canI_plain hp) (canI_app (a := [37, 51, 65]) ⟨[.hex 51 65], rfl, fun x hx => ?_⟩ (canI_plain (dig_plain _))), ?_, by simp, ?_, ?_⟩
    · obtain rfl := List.mem_singleton.1 hx
      refine ⟨by decide, by decide, by decide, by decide, by decide⟩
    · simp only [List.mem_append, not_or]
      exact ⟨n58 _ hp, by decide, n58 _ (dig_plain _)⟩
    · rw [List.map_append, List.map_cons, vl, vl]
      simp [PU.val]
      decide
    · simp
theorem flat_last (c : UInt8) : ∀ (l : List Bytes), l ≠ [] → (∀ x ∈ l, x ≠ []) → (l.flatMap (c :: ·)).getLast? = (l.getLast?.getD []).getLast?
  | [], h, _ => absurd rfl h
  | [x], _, h => by
    have hx := h x List.mem_cons_self
    cases x with
    | nil => exact absurd rfl hx
    | cons a x => simp
  | x :: y :: l, _, h => by
    have ih := flat_last c (y :: l) (by simp) (fun z hz => h z (List.mem_cons_of_mem _ hz))
    rw [List.flatMap_cons, List.getLast?_append, ih]
    have hne : ((y :: l).getLast?.getD []) ≠ [] := by
      cases hl : (y :: l).getLast? with
      | none => simp at hl
      | some z => exact h z (List.mem_cons_of_mem _ (List.mem_of_getLast? hl))
    rw [List.getLast?_cons_cons]
    cases hz : ((y :: l).getLast?.getD []).getLast? with
    | none => rw [List.getLast?_eq_none_iff] at hz; exact absurd hz hne
    | some z => rfl
theorem web_can {u : Url} {ss : List Bytes} (hh : hostPort (hostText u.host u.port) = ((u.host, u.port), 0)) (hs : ∀ s ∈ ss, s ≠ [] ∧ s ≠ [46] ∧ s ≠ [46, 46])
    (hl : (didText ⟨webS, idBase u ++ ss.flatMap fun s => 58 :: didEsc s⟩).length ≤ 4096) : CanDid ⟨webS, idBase u ++ ss.flatMap fun s => 58 :: didEsc s⟩ := by
  obtain ⟨b1, b2, b3, b4, b5⟩ := idBase_facts hh
  have ef : (ss.flatMap fun s => 58 :: didEsc s) = (ss.map didEsc).flatMap (58 :: ·) := by rw [List.flatMap_map]
  have hne : ∀ s ∈ ss, didEsc s ≠ [] := fun s hm e => by
    have h1 : s ≠ [] := (hs s hm).1
    have := (didEsc_units s).1
    rw [e, units_nil] at this
    exact h1 this.symm
  refine ⟨show methodOk webS = true by decide, canI_app b1 ?_, by simp [b3], ?_⟩
  · clear hl hne hs ef
    induction ss with
    | nil => exact canI_nil
    | cons s ss ih => exact canI_app (canI_app (a := [58]) (canI_one (by decide)) (canI_didEsc s)) ih
  · simp only
    cases ss with
    | nil =>
      rw [List.flatMap_nil, List.append_nil]
      intro k
      exact b2 (List.mem_of_getLast? k)
    | cons s ss =>
      rw [ef, List.getLast?_append, flat_last 58 _ (by simp) (by
        intro x hx
        obtain ⟨t, ht, rfl⟩ := List.mem_map.1 hx
        exact hne t ht)]
      obtain ⟨t, ht, e⟩ : ∃ t ∈ s :: ss, ((s :: ss).map didEsc).getLast?.getD [] = didEsc t := by
        rw [List.getLast?_map]
        cases hq : (s :: ss).getLast? with
        | none => simp at hq
        | some t => exact ⟨t, List.mem_of_getLast? hq, rfl⟩
      rw [e]
      cases hz : (didEsc t).getLast? with
      | none => rw [List.getLast?_eq_none_iff] at hz; exact absurd hz (hne t ht)
      | some z =>
        intro k
        obtain rfl : z = 58 := by simpa using k
        exact didEsc_bytes t _ (List.mem_of_getLast? hz) rfl
theorem web_back {u : Url} {ss : List Bytes} (hh : hostPort (hostText u.host u.port) = ((u.host, u.port), 0)) (hs : ∀ s ∈ ss, s ≠ [] ∧ s ≠ [46] ∧ s ≠ [46, 46])
    (hl : (didText ⟨webS, idBase u ++ ss.flatMap fun s => 58 :: didEsc s⟩).length ≤ 4096) :
    didAuth ⟨webS, idBase u ++ ss.flatMap fun s => 58 :: didEsc s⟩ = ((u.host, u.port), 0) ∧ (splitC 58 (idBase u ++ ss.flatMap fun s => 58 :: didEsc s)).tail = ss.map didEsc ∧ (ss.map didEsc).all segOk = true ∧ ∀ s ∈ ss, (pctDecode (didEsc s)).1 = s := by
  obtain ⟨b1, b2, b3, b4, b5⟩ := idBase_facts hh
  have ef : (ss.flatMap fun s => 58 :: didEsc s) = (ss.map didEsc).flatMap (58 :: ·) := by rw [List.flatMap_map]
  have hlen : ∀ s ∈ ss, (didEsc s).length ≤ 4096 := by
    intro s hm
    have h1 : (didEsc s).length ≤ (ss.flatMap fun s => 58 :: didEsc s).length := by
      obtain ⟨p, q, rfl⟩ := List.append_of_mem hm
      simp; omega
    simp [didText] at hl
    simp at h1
    omega
  have hbl : (idBase u).length ≤ 4096 := by simp [didText] at hl; omega
  have hdec : ∀ s ∈ ss, pctDecode (didEsc s) = (s, 0) := fun s hm => decode_didEsc (by have := hlen s hm; omega)
  have hne : ∀ s ∈ ss, didEsc s ≠ [] := fun s hm e => by
    have := hdec s hm
    rw [e] at this
    exact (hs s hm).1 (Prod.mk.inj this).1.symm
  have hsp : splitC 58 (idBase u ++ ss.flatMap fun s => 58 :: didEsc s) = idBase u :: ss.map didEsc := by
    rw [ef]
    refine splitC_join 58 _ _ b2 fun y hy => ?_
    obtain ⟨s, -, rfl⟩ := List.mem_map.1 hy
    exact fun k => didEsc_bytes s _ k rfl
  have hcan := web_can hh hs hl
  have hr := did_read hcan hl
  refine ⟨?_, by rw [hsp]; rfl, List.all_eq_true.2 fun x hx => ?_, fun s hm => by rw [hdec s hm]⟩
  · unfold didAuth
    rw [if_neg (by simp), hr, if_neg (by simp)]
    simp only
    have hc : (cutC 58 (idBase u ++ ss.flatMap fun s => 58 :: didEsc s)).1 = idBase u := by
      cases ss with
      | nil => rw [List.flatMap_nil, List.append_nil, cutC_none (pre_none b2)]
      | cons s ss => rw [List.flatMap_cons, List.cons_append, cutC_some (pre_none b2)]
    rw [hc]
    have hd : pctDecode (idBase u) = (hostText u.host u.port, 0) := by
      unfold pctDecode
      rw [if_neg (by omega), if_neg b5, b4]
    rw [hd]
    exact hh
  · obtain ⟨s, hm, rfl⟩ := List.mem_map.1 hx
    unfold segOk
    rw [hdec s hm]
    have := hs s hm
    simp [this.1, this.2.1, this.2.2]
theorem toUrl_facts {d : Did} {u : Url} (h : toUrl d = (u, 0)) : didAuth d = ((u.host, u.port), 0) ∧ hostPort (hostText u.host u.port) = ((u.host, u.port), 0) ∧ (∃ ss : List Bytes, (∀ s ∈ ss, s ≠ [] ∧ s ≠ [46] ∧ s ≠ [46, 46]) ∧ u = ⟨u.host, u.port, if ss = [] then rootS else ss.flatMap (fun s => 47 :: pctEncode [] s) ++ 47 :: lastS, [], [], false, false⟩) ∧ (urlText u).length ≤ 4096 := by
  unfold toUrl at h
  split at h
  · rename_i h1; exact absurd (Prod.mk.inj h).2 h1
  rename_i h1
  split at h
  · simp at h
  rename_i h2
  unfold toUrlEnd at h
  split at h
  · simp at h
  rename_i h3
  simp only [Prod.mk.injEq, and_true] at h
  subst h
  have h1 : (didAuth d).2 = 0 := by simpa using h1
  have e : didAuth d = (((didAuth d).1.1, (didAuth d).1.2), 0) := by rw [← h1]
  refine ⟨e, ?_, ⟨(splitC 58 d.id).tail.map fun x => (pctDecode x).1, ?_, ?_⟩, by omega⟩
  · simp only
    unfold didAuth at e h1 ⊢
    split at h1
    · simp at h1
    rename_i k1
    rw [if_neg k1] at e ⊢
    split at h1
    · rename_i k2; exact absurd h1 k2
    rename_i k2
    rw [if_neg k2] at e ⊢
    exact (hostPort_back e).1
  · intro s hs
    obtain ⟨x, hx, rfl⟩ := List.mem_map.1 hs
    have h2 : (splitC 58 d.id).tail.all segOk = true := by simpa using h2
    have := List.all_eq_true.1 h2 x hx
    unfold segOk at this
    simp only [Bool.and_eq_true, bne_iff_ne, ne_eq] at this
    exact ⟨this.1.1.2, this.1.2, this.2⟩
  · simp only [Url.mk.injEq, true_and, and_true]
    unfold toPath
    by_cases k : (splitC 58 d.id).tail = []
    · rw [if_pos k, if_pos (by rw [k]; rfl)]
    · rw [if_neg k, if_neg (by rw [List.map_eq_nil_iff]; exact k), List.flatMap_map]
      rfl
theorem seg_good {s : Bytes} (h : s ≠ [46] ∧ s ≠ [46, 46]) : goodSeg (pctEncode [] s) := by
  refine ⟨enc_no47 s, fun e => h.1 (enc_inj (e.trans (by decide))), fun e => h.2 (enc_inj (e.trans (by decide)))⟩
theorem path_abs (ss : List Bytes) : ss.flatMap (fun s => 47 :: pctEncode [] s) ++ 47 :: lastS = absP (ss.map (pctEncode []) ++ [lastS]) := by
  unfold absP
  rw [List.flatMap_append, List.flatMap_map]
  simp
theorem path_can {ss : List Bytes} (h : ∀ s ∈ ss, s ≠ [] ∧ s ≠ [46] ∧ s ≠ [46, 46]) : Can inPath (ss.flatMap (fun s => 47 :: pctEncode [] s) ++ 47 :: lastS) ∧ (∃ r, ss.flatMap (fun s => 47 :: pctEncode [] s) ++ 47 :: lastS = 47 :: r) ∧ removeDots (ss.flatMap (fun s => 47 :: pctEncode [] s) ++ 47 :: lastS) = ss.flatMap (fun s => 47 :: pctEncode [] s) ++ 47 :: lastS := by
  refine ⟨can_app ?_ ?_, ?_, ?_⟩
  · clear h
    induction ss with
    | nil => exact can_nil _
    | cons s ss ih => exact can_app (can_app (a := [47]) (can_one (by decide) (by decide)) (can_enc _ s)) ih
  · refine ⟨(47 :: lastS).map PU.lit, by decide, ?_⟩
    intro x hx
    obtain ⟨c, hc, rfl⟩ := List.mem_map.1 hx
    show keepB inPath c = true ∧ c ≠ 37
    revert c; decide
  · cases ss with
    | nil => exact ⟨_, rfl⟩
    | cons s ss => exact ⟨_, rfl⟩
  · rw [path_abs]
    show dotsGo _ _ [] = _
    rw [dotsGo_same _ _ _ (Nat.le_refl _), List.nil_append]
    intro x hx
    rcases List.mem_append.1 hx with hx | hx
    · obtain ⟨s, hs, rfl⟩ := List.mem_map.1 hx
      exact seg_good (h s hs).2
    · obtain rfl := List.mem_singleton.1 hx
      refine ⟨by decide, by decide, by decide⟩
theorem root_can : Can inPath rootS ∧ removeDots rootS = rootS := by
  refine ⟨⟨rootS.map PU.lit, by decide, ?_⟩, by decide +kernel⟩
  intro x hx
  obtain ⟨c, hc, rfl⟩ := List.mem_map.1 hx
  show keepB inPath c = true ∧ c ≠ 37
  revert c; decide
theorem toUrl_can {d : Did} {u : Url} (h : toUrl d = (u, 0)) : CanUrl u ∧ u.hasQuery = false ∧ u.hasFrag = false ∧ didAuth d = ((u.host, u.port), 0) := by
  obtain ⟨h1, h2, ⟨ss, h3, h4⟩, h5⟩ := toUrl_facts h
  have hq : u.hasQuery = false := by rw [h4]
  have hf : u.hasFrag = false := by rw [h4]
  have hqu : u.query = [] := by rw [h4]
  have hfr : u.fragment = [] := by rw [h4]
  have hp : Can inPath u.path ∧ (∃ r, u.path = 47 :: r) ∧ removeDots u.path = u.path := by
    rw [h4]
    simp only
    split
    · exact ⟨root_can.1, ⟨_, rfl⟩, root_can.2⟩
    · exact path_can h3
  exact ⟨⟨h2, hp.1, hp.2.1, hp.2.2, by rw [hqu]; exact can_nil _, by rw [hfr]; exact can_nil _, fun _ => hqu, fun _ => hfr, h5⟩, hq, hf, h1⟩
theorem toUrl_err (d : Did) (h : (toUrl d).2 ≠ 0) : (toUrl d).1 = Url.none := by
  unfold toUrl at h ⊢
  split
  · rfl
  rename_i h1
  rw [if_neg h1] at h
  split
  · rfl
  rename_i h2
  rw [if_neg h2] at h
  unfold toUrlEnd at h ⊢
  split
  · rfl
  rename_i h3
  rw [if_neg h3] at h
  exact absurd rfl h
theorem fromEnd_err (d : Did) (h : (fromEnd d).2 ≠ 0) : (fromEnd d).1 = Did.none := by
  unfold fromEnd at h ⊢
  split
  · rfl
  rename_i h3
  rw [if_neg h3] at h
  exact absurd rfl h
theorem fromUrl_err (u : Url) (h : (fromUrl u).2 ≠ 0) : (fromUrl u).1 = Did.none := by
  unfold fromUrl at h ⊢
  split
  · rfl
  rename_i h1
  rw [if_neg h1] at h
  split
  · rfl
  rename_i h2
  rw [if_neg h2] at h
  split
  · rfl
  rename_i h3
  rw [if_neg h3] at h
  unfold fromSegs at h ⊢
  split
  · rename_i h4
    rw [if_pos h4] at h
    exact fromEnd_err _ h
  rename_i h4
  rw [if_neg h4] at h
  split
  · rfl
  rename_i h5
  rw [if_neg h5] at h
  exact fromEnd_err _ h
theorem fromEnd_ok {d c : Did} (h : fromEnd d = (c, 0)) : c = d ∧ (didText d).length ≤ 4096 := by
  unfold fromEnd at h
  split at h
  · simp at h
  · exact ⟨(Prod.mk.inj h).1.symm, by omega⟩
theorem toUrl_of {u : Url} {ss : List Bytes} (hu : CanUrl u) (hq : u.hasQuery = false) (hf : u.hasFrag = false) (hs : ∀ s ∈ ss, s ≠ [] ∧ s ≠ [46] ∧ s ≠ [46, 46]) (hp : u.path = if ss = [] then rootS else ss.flatMap (fun s => 47 :: pctEncode [] s) ++ 47 :: lastS)
    (hl : (didText ⟨webS, idBase u ++ ss.flatMap fun s => 58 :: didEsc s⟩).length ≤ 4096) : toUrl ⟨webS, idBase u ++ ss.flatMap fun s => 58 :: didEsc s⟩ = (u, 0) := by
  obtain ⟨h1, h2, h3, h4⟩ := web_back hu.host hs hl
  have e : toPath (ss.map didEsc) = u.path := by
    rw [hp]
    unfold toPath
    by_cases k : ss = []
    · rw [if_pos (by rw [k]; rfl), if_pos k]
    · rw [if_neg (by simpa using k), if_neg k, List.flatMap_map]
      congr 1
      clear hp hl h1 h2 h3 k hs
      induction ss with
      | nil => rfl
      | cons s ss ih =>
        rw [List.flatMap_cons, List.flatMap_cons, ih (fun t ht => h4 t (List.mem_cons_of_mem _ ht)), segUp, h4 s List.mem_cons_self]
  unfold toUrl
  rw [h1, if_neg (by simp)]
  simp only
  rw [h2, h3, if_neg (by simp), e]
  have eu : (⟨u.host, u.port, u.path, [], [], false, false⟩ : Url) = u := by
    have q1 := hu.noq hq
    have q2 := hu.nof hf
    obtain ⟨a, b, c, d, f, g, h⟩ := u
    simp only at hq hf q1 q2
    subst hq hf q1 q2
    rfl
  rw [eu]
  unfold toUrlEnd
  rw [if_neg (by have := hu.len; omega)]
theorem flat_can {also : Bytes} : ∀ (l : List Bytes) (x : Bytes), Can also (x ++ l.flatMap (47 :: ·)) → Can also x ∧ ∀ y ∈ l, Can also y
  | [], x, h => ⟨by simpa using h, by simp⟩
  | y :: l, x, h => by
    rw [List.flatMap_cons, List.cons_append] at h
    obtain ⟨h1, h2⟩ := h.split (by decide) (by decide)
    obtain ⟨h3, h4⟩ := flat_can l y (can_tail (by decide) h2).2
    refine ⟨h1, fun z hz => ?_⟩
    rcases List.mem_cons.1 hz with rfl | hz
    · exact h3
    · exact h4 z hz
theorem enc_back {also x : Bytes} (h : Can also x) (hd : x.all downC = true) : pctEncode [] (pctDecode x).1 = x ∨ 16384 < x.length := by
  by_cases hl : 16384 < x.length
  · exact .inr hl
  left
  obtain ⟨l, rfl, hk⟩ := h
  have hu := units_can also l hk
  have hb : PU.bad ∉ units (l.flatMap PU.str) := by rw [hu]; exact fun k => (hk _ k).elim
  unfold pctDecode
  rw [if_neg hl, if_neg hb, hu]
  clear hu hb hl
  simp only
  induction l with
  | nil => rfl
  | cons y l ih =>
    rw [List.flatMap_cons, List.all_append, Bool.and_eq_true] at hd
    have ih := ih (fun z hz => hk z (List.mem_cons_of_mem _ hz)) hd.2
    have hy := hk y List.mem_cons_self
    rw [List.flatMap_cons, List.map_cons]
    show encB [] y.val ++ pctEncode [] (l.map PU.val) = _
    rw [ih]
    congr 1
    cases y with
    | lit c =>
      have : downC c = true := by simpa [PU.str] using hd.1
      unfold downC at this
      have h37 : (c == 37) = false := by simpa using hy.2
      rw [h37, Bool.false_or] at this
      simp [PU.val, encB, this, PU.str]
    | hex a b =>
      simp only [PU.val, encB, hy.1, PU.str]
      rw [if_neg (by simp)]
      unfold esc
      rw [← hy.2.1, ← hy.2.2.1]
    | bad => exact hy.elim
theorem from_to {u : Url} {x : Did} (hu : CanUrl u) (h : fromUrl u = (x, 0)) : toUrl x = (u, 0) ∧ ∃ ss : List Bytes, x = ⟨webS, idBase u ++ ss.flatMap fun s => 58 :: didEsc s⟩ ∧ (didText x).length ≤ 4096 ∧ ∀ s ∈ ss, s ≠ [] ∧ s ≠ [46] ∧ s ≠ [46, 46] := by
  unfold fromUrl at h
  split at h
  · simp at h
  split at h
  · simp at h
  rename_i h1 h2
  simp only [not_or, ne_eq, Classical.not_not] at h2
  obtain ⟨h2, h3, h4⟩ := h2
  have h2 : u.hasQuery = false := by simpa using h2
  have h3 : u.hasFrag = false := by simpa using h3
  split at h
  · simp at h
  rename_i h5
  unfold fromSegs at h
  split at h
  · rename_i h6
    obtain ⟨rfl, hl⟩ := fromEnd_ok h
    refine ⟨?_, [], by simp, hl, by simp⟩
    have := toUrl_of (ss := []) hu h2 h3 (by simp) (by rw [if_pos rfl]; exact h6) (by simpa using hl)
    simpa using this
  rename_i h6
  split at h
  · simp at h
  rename_i h7
  have h7 : (splitC 47 u.path).tail.dropLast.all downOk = true := by simpa using h7
  obtain ⟨x0, l0, e1, e2, e3, e4⟩ := split_parts 47 _ u.path (Nat.le_refl _)
  obtain ⟨r, hr⟩ := hu.slash
  have hx0 : x0 = [] := by
    cases x0 with
    | nil => rfl
    | cons a x0 =>
      rw [e2] at hr
      have : a = 47 := by simpa using (List.cons.inj hr).1
      subst this
      exact absurd List.mem_cons_self e3
  subst hx0
  rw [e1, List.tail_cons] at h h4 h5 h7
  rw [List.nil_append] at e2
  obtain ⟨l, rfl⟩ : ∃ l, l0 = l ++ [lastS] := by
    have hne : l0 ≠ [] := by rintro rfl; simp at h4
    refine ⟨l0.dropLast, ?_⟩
    have := List.dropLast_concat_getLast hne
    rw [List.getLast?_eq_some_getLast hne] at h4
    rw [← Option.some.inj h4]; exact this.symm
  rw [List.dropLast_concat] at h h7
  obtain ⟨rfl, hl⟩ := fromEnd_ok h
  have hcan : ∀ y ∈ l, Can inPath y := by
    have := hu.path
    rw [e2] at this
    exact fun y hy => (flat_can (l ++ [lastS]) [] (by simpa using this)).2 y (List.mem_append_left _ hy)
  have hdot : ∀ y ∈ l, y ≠ [46] ∧ y ≠ [46, 46] := by
    intro y hy
    have hc := (clean_segs r).2
    have hd := hu.dots
    rw [hr] at hd
    rw [hd] at hc
    rw [hr] at e1
    exact hc y (by rw [e1]; exact List.mem_cons_of_mem _ (List.mem_append_left _ hy))
  have hplen : u.path.length ≤ 4096 := by have := (urlText_len u).1; have := hu.len; omega
  have hyl : ∀ y ∈ l, y.length ≤ 4096 := by
    intro y hy
    have : y.length ≤ u.path.length := by
      rw [e2]
      obtain ⟨p, q, rfl⟩ := List.append_of_mem hy
      simp; omega
    omega
  have henc : ∀ y ∈ l, pctEncode [] (pctDecode y).1 = y := by
    intro y hy
    have hd := List.all_eq_true.1 h7 y hy
    unfold downOk at hd
    simp only [Bool.and_eq_true] at hd
    rcases enc_back (hcan y hy) hd.1.1 with k | k
    · exact k
    · have := hyl y hy; omega
  have hss : ∀ s ∈ l.map (fun y => (pctDecode y).1), s ≠ [] ∧ s ≠ [46] ∧ s ≠ [46, 46] := by
    intro s hs
    obtain ⟨y, hy, rfl⟩ := List.mem_map.1 hs
    have hd := List.all_eq_true.1 h7 y hy
    unfold downOk at hd
    simp only [Bool.and_eq_true, bne_iff_ne, ne_eq] at hd
    have he := henc y hy
    refine ⟨hd.2, fun k => (hdot y hy).1 ?_, fun k => (hdot y hy).2 ?_⟩
    · rw [← he, k]; decide
    · rw [← he, k]; decide
  have hid : l.flatMap segDown = (l.map (fun y => (pctDecode y).1)).flatMap fun s => 58 :: didEsc s := by
    rw [List.flatMap_map]; rfl
  have hpath : u.path = if l.map (fun y => (pctDecode y).1) = [] then rootS else (l.map (fun y => (pctDecode y).1)).flatMap (fun s => 47 :: pctEncode [] s) ++ 47 :: lastS := by
    rw [if_neg (by intro k; rw [List.map_eq_nil_iff] at k; subst k; simp at h5)]
    rw [e2, List.flatMap_append, List.flatMap_map]
    have : ∀ m : List Bytes, (∀ y ∈ m, pctEncode [] (pctDecode y).1 = y) → m.flatMap (fun y => 47 :: pctEncode [] (pctDecode y).1) = m.flatMap (47 :: ·) := by
      intro m
      induction m with
      | nil => intro _; rfl
      | cons y m ih =>
        intro hm
        rw [List.flatMap_cons, List.flatMap_cons, ih (fun z hz => hm z (List.mem_cons_of_mem _ hz)), hm y List.mem_cons_self]
    rw [this l henc]
    simp
  rw [hid] at hl ⊢
  exact ⟨toUrl_of hu h2 h3 hss hpath hl, _, rfl, hl, hss⟩
theorem canon_inverse {d c : Did} (h : didCano d = (c, 0)) : ∃ u, CanUrl u ∧ toUrl c = (u, 0) ∧ fromUrl u = (c, 0) ∧ didCano c = (c, 0) ∧ didAuth c = ((u.host, u.port), 0) ∧ didParse (didText c) = (c, 0) ∧ (∃ r, c.id = idBase u ++ r) ∧ c.method = webS := by
  unfold didCano at h
  split at h
  · rename_i h1; exact absurd (Prod.mk.inj h).2 h1
  rename_i h1
  have e : toUrl d = ((toUrl d).1, 0) := by
    have : (toUrl d).2 = 0 := by simpa using h1
    rw [← this]
  obtain ⟨hu, -⟩ := toUrl_can e
  obtain ⟨h2, ss, h3, h4, h5⟩ := from_to hu h
  have hw := web_back hu.host h5 (by rw [← h3]; exact h4)
  rw [← h3] at hw
  have hc : CanDid c := by
    have hl : (didText ⟨webS, idBase (toUrl d).1 ++ ss.flatMap fun s => 58 :: didEsc s⟩).length ≤ 4096 := by rw [← h3]; exact h4
    have := web_can hu.host h5 hl
    rw [← h3] at this
    exact this
  exact ⟨_, hu, h2, h, by unfold didCano; rw [h2]; simp only [ne_eq, not_true, if_false]; exact h, hw.1, did_read hc h4, ⟨ss.flatMap fun s => 58 :: didEsc s, by rw [h3]⟩, by rw [h3]⟩
end Wf
/- Plain: what the walks of didweb need. -/
set_option linter.all false
namespace Wf
open Go Go.RowKit
theorem cut_head (c : UInt8) (s : Bytes) : ∃ l, splitC c s = (cutC c s).1 :: l := by
  by_cases hp : pre (· == c) s < s.length
  · rw [splitC_hit hp, show cutC c s = (s.take (pre (· == c) s), s.drop (pre (· == c) s + 1), true) from if_pos hp]
    exact ⟨_, rfl⟩
  · rw [splitC_miss hp, show cutC c s = (s, [], false) from if_neg hp]
    exact ⟨_, rfl⟩
theorem canon_nobad {s : Bytes} (h : (didCanon s).2 = 0) : PU.bad ∉ units s := by
  intro hb
  unfold didCanon at h
  rw [if_pos hb] at h
  simp at h
theorem auth_dec {d : Did} (hm : d.method = webS) (h : (didParse (didText d)).2 = 0) : d.id.length ≤ 4096 ∧ ∀ y ∈ splitC 58 d.id, PU.bad ∉ units y ∧ y.length ≤ 4096 := by
  obtain ⟨m, i⟩ := d
  simp only at hm
  subst hm
  have ht : didText ⟨webS, i⟩ = didS ++ (webS ++ 58 :: i) := by simp [didText]
  unfold didParse at h
  split at h
  · simp at h
  rename_i h1
  have hp : didS.isPrefixOf (didText ⟨webS, i⟩) = true := by rw [ht]; exact List.isPrefixOf_iff_prefix.2 ⟨_, rfl⟩
  rw [if_neg (by rw [hp]; simp), ht, show (didS ++ (webS ++ 58 :: i)).drop 4 = webS ++ 58 :: i from rfl] at h
  have hc : cutC 58 (webS ++ 58 :: i) = (webS, i, true) := by
    rw [cutC_past (c := 58) (a := webS) (58 :: i) (by decide)]
    rfl
  unfold didRest at h
  rw [hc] at h
  simp only at h
  rw [if_neg (by simp), if_neg (by decide)] at h
  have h2 : (didCanon i).2 = 0 := by
    by_cases k : (didCanon i).2 = 0
    · exact k
    · unfold didEnd at h
      rw [if_pos k] at h
      exact h
  have hb := canon_nobad h2
  obtain ⟨x, l, e1, e2, e3⟩ := split_segs 58 _ i (Nat.le_refl _)
  have hu := (segs_units l x).1
  rw [← e2] at hu
  have hil : i.length ≤ 4096 := by
    rw [ht] at h1
    simp only [List.length_append, List.length_cons] at h1
    omega
  refine ⟨hil, fun y hy => ⟨fun k => hb (hu.1 ⟨y, by rw [← e1]; exact hy, k⟩), ?_⟩⟩
  have := splitC_len 58 i y hy
  omega
theorem auth_first {d : Did} (hm : d.method = webS) (h : (didParse (didText d)).2 = 0) : pctDecode (cutC 58 d.id).1 = (decV (cutC 58 d.id).1, 0) := by
  obtain ⟨h1, h2⟩ := auth_dec hm h
  obtain ⟨l, e⟩ := cut_head 58 d.id
  obtain ⟨h3, h4⟩ := h2 (cutC 58 d.id).1 (by rw [e]; exact List.mem_cons_self)
  rw [decode_seg (by omega), if_neg h3]
theorem pctDecode_len (s : Bytes) : (pctDecode s).1.length ≤ s.length := by
  unfold pctDecode
  split
  · simp
  · split
    · simp
    · exact decV_len s
theorem segUp_len (x : Bytes) : (segUp x).length ≤ 3 * x.length + 1 := by
  have h1 := pctEncode_len [] (pctDecode x).1
  have h2 := pctDecode_len x
  unfold segUp
  simp only [List.length_cons]
  omega
theorem segDown_len (x : Bytes) : (segDown x).length ≤ 3 * x.length + 1 := by
  have h1 := didEsc_len (pctDecode x).1
  have h2 := pctDecode_len x
  unfold segDown
  simp only [List.length_cons]
  omega
theorem flat_up : ∀ l : List Bytes, (l.flatMap segUp).length ≤ 3 * l.flatten.length + l.length
  | [] => by simp
  | x :: l => by
    have := segUp_len x
    have := flat_up l
    simp only [List.flatMap_cons, List.length_append, List.flatten_cons, List.length_cons]
    omega
theorem flat_down : ∀ l : List Bytes, (l.flatMap segDown).length ≤ 3 * l.flatten.length + l.length
  | [] => by simp
  | x :: l => by
    have := segDown_len x
    have := flat_down l
    simp only [List.flatMap_cons, List.length_append, List.flatten_cons, List.length_cons]
    omega
theorem split_flat (c : UInt8) (s : Bytes) : (splitC c s).flatten.length + (splitC c s).length = s.length + 1 := by
  obtain ⟨x, l, e1, e2, -⟩ := split_segs c _ s (Nat.le_refl _)
  rw [e1]
  conv => rhs; rw [e2]
  have : ∀ l : List Bytes, (l.flatMap (c :: ·)).length = l.flatten.length + l.length := by
    intro l
    induction l with
    | nil => rfl
    | cons y l ih => simp only [List.flatMap_cons, List.length_append, List.flatten_cons, List.length_cons, ih]; omega
  simp only [List.flatten_cons, List.length_append, List.length_cons, this]
  omega
theorem escDown (s : Bytes) : (pctEncode [] s).flatMap (repB 126 [37, 55, 69]) = didEsc s := by
  induction s with
  | nil => rfl
  | cons c s ih =>
    show (encB [] c ++ pctEncode [] s).flatMap _ = didB c ++ didEsc s
    rw [List.flatMap_append, ih]
    congr 1
    have := all256 (p := fun c => (encB [] c).flatMap (repB 126 [37, 55, 69]) == didB c) (by decide +kernel) c
    simpa using this
theorem split_all (c : UInt8) (s : Bytes) : Lib.splitK [c] 0 (Lib.count s [c]) s = splitC c s := splitK_one c _ s (Lib.count_one c s).symm
theorem didAuth_ok {d : Did} (h : (didAuth d).2 = 0) : hostPort (hostText (didAuth d).1.1 (didAuth d).1.2) = (((didAuth d).1.1, (didAuth d).1.2), 0) ∧ d.method = webS ∧ (didParse (didText d)).2 = 0 := by
  unfold didAuth at h ⊢
  by_cases h1 : d.method = webS
  · rw [if_neg (by simp [h1])] at h ⊢
    by_cases h2 : (didParse (didText d)).2 = 0
    · rw [if_neg (by simp [h2])] at h ⊢
      refine ⟨?_, h1, h2⟩
      generalize hX : hostPort (pctDecode (cutC 58 d.id).1).1 = X at h ⊢
      obtain ⟨⟨x, p⟩, e⟩ := X
      simp only at h ⊢
      subst h
      exact (hostPort_back hX).1
    · rw [if_pos h2] at h
      exact absurd h h2
  · rw [if_pos h1] at h
    simp at h
theorem valid_split {u : Url} (hv : urlValid u = true) : ∃ (T : List Bytes) (z : Bytes), splitC 47 u.path = (cutC 47 u.path).1 :: T ∧ T.getLast? = some z ∧ 0 < T.length ∧ u.path.length ≤ 4096 := by
  have hc := valid_can hv
  obtain ⟨r, hr⟩ := hc.slash
  have hl := (urlText_len u).1
  have hlen := hc.len
  obtain ⟨T, hT⟩ := cut_head 47 u.path
  have h0 : pre (· == 47) (47 :: r) = 0 := by simp [pre_cons]
  have e : splitC 47 (47 :: r) = [] :: splitC 47 r := by
    rw [splitC_hit (by rw [h0]; simp), h0]
    rfl
  have hT2 := hT
  rw [hr, e] at hT2
  have h2 := splitC_length 47 r
  have h3 : splitC 47 r = T := (List.cons.inj hT2).2
  have hT0 : T ≠ [] := by rintro rfl; rw [h3] at h2; simp at h2
  refine ⟨T, T.getLast hT0, hT, List.getLast?_eq_some_getLast hT0, List.length_pos_iff.2 hT0, by omega⟩
theorem fromUrl_at {u : Url} {c z : Bytes} {T : List Bytes} (hv : urlValid u = true) (hT : splitC 47 u.path = c :: T) (hz : T.getLast? = some z) :
    fromUrl u = if u.hasQuery = true then (Did.none, 6) else if u.hasFrag = true then (Did.none, 6) else if (z != lastS) = true then (Did.none, 6) else if T.length = 1 then (Did.none, 110) else fromSegs u T.dropLast := by
  unfold fromUrl
  rw [if_neg (by rw [hv]; simp), hT, List.tail_cons, hz]
  by_cases h1 : u.hasQuery = true
  · rw [if_pos (.inl h1), if_pos h1]
  rw [if_neg h1]
  by_cases h2 : u.hasFrag = true
  · rw [if_pos (.inr (.inl h2)), if_pos h2]
  rw [if_neg h2]
  by_cases h3 : z = lastS
  · have hn : ¬ (u.hasQuery = true ∨ u.hasFrag = true ∨ some z ≠ some lastS) := by simp [h1, h2, h3]
    have hm : ¬ (z != lastS) = true := by simp [h3]
    rw [if_neg hn, if_neg hm]
  · rw [if_pos (.inr (.inr (by simpa using h3))), if_pos (by simpa using h3)]
end Wf
/- A calculus of conditions: a strings.Builder is one thing of the state. -/
set_option linter.all false
namespace Vc
open Go Go.RowKit Wf
theorem FrW.mono {own own' : Nat → Prop} {w w' : World} (h : FrW own w w') (k : ∀ b, own b → own' b) : FrW own' w w' :=
  ⟨h.os, h.tape, h.output, h.size, fun b hb hn => h.block b hb (fun e => hn (k b e))⟩
def BldR (TB TU : TypeId) (l : List UInt8) : Rsc where
  holds t fp w := t.off = 0 ∧ ∃ (p : Value) (t2 : Bt) (f2 : Nat → Prop), (p = .pointer none ∨ p = .pointer (some ⟨t.blk, 0, none⟩)) ∧
    (∃ fz, Head w t.blk TB [p, oV t2 l.length] [] fz) ∧ Holds bt0 t2 f2 w (.own (l.map u8S) TU 1 l.length true) ∧ ¬ f2 t.blk ∧ ∀ k, fp k ↔ k = t.blk ∨ f2 k
  stays b fp w w' := by
    rintro ⟨h0, p, t2, f2, hp, ⟨fz, h1, h2⟩, h3, h4, h5⟩ hk
    exact ⟨h0, p, t2, f2, hp, ⟨fz, (hk _ ((h5 _).2 (.inl rfl))).trans h1, h2⟩, h3.stays (fun k hf => hk k ((h5 k).2 (.inr hf))), h4, h5⟩
theorem u8_conc (l : List UInt8) (β β' : Nat → Bt) : (l.map u8S).map (conc β) = (l.map u8S).map (conc β') := by
  simp [u8S, conc]
theorem holds_u8 {β β' : Nat → Bt} {t : Bt} {f : Nat → Prop} {w : World} {l : List UInt8} {TU : TypeId} {n : Nat} {m : Bool} (h : Holds β t f w (.own (l.map u8S) TU 1 n m)) : Holds β' t f w (.own (l.map u8S) TU 1 n m) := by
  simp only [Holds] at h ⊢
  rw [u8_conc l β' β]
  exact h
theorem res_agr {b1 b2 : Nat → Bt} {t t' : Bt} {fq fq' : Nat → Prop} {w w' : World} {r : Res} (h1 : Holds b1 t fq w r) (h2 : Holds b2 t fq w r) (h : Holds b1 t' fq' w' r) : Holds b2 t' fq' w' r := by
  cases r with
  | cells c T m =>
    obtain ⟨-, ⟨r1, f1, d1, rfl⟩, -⟩ := h1
    obtain ⟨-, ⟨r2, f2, d2, rfl⟩, -⟩ := h2
    have e := lies_agr (by simp) d1.lies d2.lies
    simp only [Holds] at h ⊢
    rw [← e]; exact h
  | own c e s n m =>
    rcases h1 with ⟨-, -, rfl, -⟩ | ⟨-, -, -, -, l1, -⟩
    · simpa [Holds] using h
    · rcases h2 with ⟨-, -, rfl, -⟩ | ⟨-, -, -, -, l2, -⟩
      · simpa [Holds] using h
      · have e := lies_agr (by simp) l1 l2
        simp only [Holds] at h ⊢
        rw [← e]; exact h
  | ext R => exact h
  | gone => exact h
variable {V : Cx} {f : FuncId} {args : List SV} {bs : List Res} {R : SV → List Res → Prop}
theorem sc_view {i : Nat} {r0 r1 : Res} (hi : bs[i]? = some r0) (hm : r1.mine = r0.mine) (hv : ∀ (β : Nat → Bt) (fp : Nat → Nat → Prop) (w : World), Holds β (β i) (fp i) w r0 → Holds β (β i) (fp i) w r1) (h : SC V f args (bs.set i r1) R) : SC V f args bs R := by
  refine ⟨h.1, fun β fp w hbx hG hE => ?_⟩
  have hil : i < bs.length := (List.getElem?_eq_some_iff.1 hi).1
  have old : ∀ {j r'}, (bs.set i r1)[j]? = some r' → ∃ r, bs[j]? = some r ∧ r.mine = r'.mine ∧ (j ≠ i ∧ r' = r ∨ j = i ∧ r' = r1) := fun {j r'} hj => by
    by_cases hji : j = i
    · subst hji
      rw [List.getElem?_set_self hil] at hj
      obtain rfl := Option.some.inj hj
      exact ⟨r0, hi, hm.symm, .inr ⟨rfl, rfl⟩⟩
    · rw [List.getElem?_set_ne (fun e => hji e.symm)] at hj
      exact ⟨r', hj, rfl, .inl ⟨hji, rfl⟩⟩
  refine (h.2 β fp w (fun β' hβ => ?_) (fun j r hj hjm k hk => ?_) hE).mono ?_
  · rw [List.length_set] at hβ
    have hb := hbx β' hβ
    refine ⟨fun j r' hj => ?_, fun j r' hj k hk => ?_, fun j l a b hj hl hne hmm => ?_⟩
    · obtain ⟨r, hr, -, ⟨-, rfl⟩ | ⟨rfl, rfl⟩⟩ := old hj
      · exact hb.holds j _ hr
      · exact hv β' fp w (hb.holds _ _ hi)
    · obtain ⟨r, hr, -⟩ := old hj
      exact hb.lt j r hr k hk
    · obtain ⟨r, hr, e, -⟩ := old hj
      obtain ⟨r', hr', e', -⟩ := old hl
      exact hb.sep j l r r' hr hr' hne (by rw [e, e']; exact hmm)
  · obtain ⟨r, hr, e, -⟩ := old hj
    exact hG j r hr (e.trans hjm) k hk
  · rintro e w' ⟨r, bs', β₂, fp₂, hR, hag, hlen, hall, hfr, hmine⟩
    rw [List.length_set] at hag hlen
    refine ⟨r, bs', β₂, fp₂, hR, hag, hlen, hall, hfr.mono ?_, fun j r' hj hjm k hk => ?_⟩
    · rintro k ⟨j, r', hj, hjm, hk⟩
      obtain ⟨r, hr, e, -⟩ := old hj
      exact ⟨j, r, hr, e.trans hjm, hk⟩
    · rcases hmine j r' hj hjm k hk with h1 | ⟨j2, r2, hj2, hm2, hk2⟩
      · exact .inl h1
      · obtain ⟨r, hr, e, -⟩ := old hj2
        exact .inr ⟨j2, r, hr, e.trans hm2, hk2⟩
theorem sc_fresh {i TB TU : Nat} (hi : bs[i]? = some (.cells [.v (.pointer none), .nils] TB true)) (h : SC V f args (bs.set i (.ext (BldR TB TU []))) R) : SC V f args bs R := by
  refine sc_view (r1 := .ext (BldR TB TU [])) hi rfl (fun β fp w hh => ?_) h
  obtain ⟨h0, ⟨rest, fz, hd, rfl⟩, h3⟩ := hh
  refine ⟨h0, Value.pointer none, ⟨0, 0, 0⟩, fun _ => False, .inl rfl, ⟨fz, ?_⟩, holds_nil, not_false, fun k => (h3 k).trans ⟨.inl, fun h => h.elim id False.elim⟩⟩
  simpa [conc, oV] using hd
theorem sc_open {i TB TU : Nat} {l : List UInt8} (hi : bs[i]? = some (.ext (BldR TB TU l))) {R' : SV → List Res → Prop}
    (h : ∀ x, (x = .v (.pointer none) ∨ x = .p i 0) → SC V f args (bs.set i (.cells [x, .o bs.length l.length] TB true) ++ [.own (l.map u8S) TU 1 l.length true]) R')
    (hR : ∀ r bs', R' r bs' → ∃ x j l', flat r = true ∧ (x = .v (.pointer none) ∨ x = .p i 0) ∧ R r (bs.set i (.ext (BldR TB TU l'))) ∧ bs'[i]? = some (.cells [x, .o j l'.length] TB true) ∧ bs'[j]? = some (.own (l'.map u8S) TU 1 l'.length true) ∧
      bs.length ≤ j ∧ ∀ k, k < bs.length → k ≠ i → bs'[k]? = bs[k]?)
    (hargs : within.withinL bs.length args = true) : SC V f args bs R := by
  have hil : i < bs.length := (List.getElem?_eq_some_iff.1 hi).1
  refine ⟨(h _ (.inl rfl)).1, fun β fp w hbx hG hE => ?_⟩
  have hb0 := hbx β (Agr.refl _ _)
  obtain ⟨h0, p, t2, f2, hp, ⟨fz, hd⟩, hrow, hnb, hfp⟩ := hb0.holds i _ hi
  obtain ⟨x, hx, hxc⟩ : ∃ x : SV, (x = .v (.pointer none) ∨ x = .p i 0) ∧ ∀ β', Agr bs.length β β' → conc β' x = p := by
    rcases hp with rfl | rfl
    · exact ⟨_, .inl rfl, fun _ _ => rfl⟩
    · exact ⟨_, .inr rfl, fun β' hβ => by simp only [conc]; rw [← hβ i hil, h0]⟩
  let β₁ := upd β bs.length t2
  let fp₁ : Nat → Nat → Prop := fun j k => if j = i then k = (β i).blk else if j = bs.length then f2 k else fp j k
  have agr1 : ∀ {β'}, Agr (bs.length + 1) β₁ β' → Agr bs.length β β' := fun {β'} hβ j hj => by
    rw [← hβ j (by omega)]; simp only [β₁, upd]; rw [if_neg (by omega)]
  have at1 : ∀ {β'}, Agr (bs.length + 1) β₁ β' → β' bs.length = t2 := fun {β'} hβ => by
    rw [← hβ bs.length (by omega)]; simp [β₁, upd]
  have old : ∀ {j r'}, (bs.set i (.cells [x, .o bs.length l.length] TB true) ++ [.own (l.map u8S) TU 1 l.length true])[j]? = some r' →
      (j = i ∧ r' = .cells [x, .o bs.length l.length] TB true) ∨ (j = bs.length ∧ r' = .own (l.map u8S) TU 1 l.length true) ∨ (j < bs.length ∧ j ≠ i ∧ bs[j]? = some r') := fun {j r'} hj => by
    have hjl : j < bs.length + 1 := by
      have := (List.getElem?_eq_some_iff.1 hj).1
      simpa using this
    by_cases hjm : j = bs.length
    · subst hjm
      rw [List.getElem?_append_right (by simp)] at hj
      simp at hj
      exact .inr (.inl ⟨rfl, hj.symm⟩)
    · rw [List.getElem?_append_left (by simp; omega)] at hj
      by_cases hji : j = i
      · subst hji
        rw [List.getElem?_set_self hil] at hj
        exact .inl ⟨rfl, (Option.some.inj hj).symm⟩
      · rw [List.getElem?_set_ne (fun e => hji e.symm)] at hj
        exact .inr (.inr ⟨by omega, hji, hj⟩)
  have in1 : ∀ {j r'}, (bs.set i (.cells [x, .o bs.length l.length] TB true) ++ [.own (l.map u8S) TU 1 l.length true])[j]? = some r' → r'.mine = true → ∀ k, fp₁ j k → ∃ j2 r2, bs[j2]? = some r2 ∧ r2.mine = true ∧ fp j2 k := fun {j r'} hj hm k hk => by
    rcases old hj with ⟨rfl, rfl⟩ | ⟨rfl, rfl⟩ | ⟨hj1, hj2, hj3⟩
    · refine ⟨j, _, hi, rfl, (hfp k).2 (.inl ?_)⟩
      simpa [fp₁] using hk
    · refine ⟨i, _, hi, rfl, (hfp k).2 (.inr ?_)⟩
      simpa [fp₁, Nat.ne_of_gt hil] using hk
    · exact ⟨j, r', hj3, hm, by simpa [fp₁, hj2, Nat.ne_of_lt hj1] using hk⟩
  have ea : concL β args = concL β₁ args := concL_within bs.length args hargs β β₁ (fun j hj => by simp only [β₁, upd]; rw [if_neg (by omega)])
  rw [ea]
  refine ((h x hx).2 β₁ fp₁ w (fun β' hβ => ?_) (fun j r hj hm k hk => ?_) hE).mono ?_
  · have hβq : Agr (bs.length + 1) β₁ β' := by simpa using hβ
    clear hβ
    have hb := hbx β' (agr1 hβq)
    have hbi : β' i = β i := (agr1 hβq i hil).symm
    refine ⟨fun j r' hj => ?_, fun j r' hj k hk => ?_, fun j q a b hj hq hne hmm k hk hk2 => ?_⟩
    · rcases old hj with ⟨rfl, rfl⟩ | ⟨rfl, rfl⟩ | ⟨hj1, hj2, hj3⟩
      · refine ⟨by rw [hbi]; exact h0, ⟨[], fz, ?_, rfl⟩, fun k => by simp [fp₁, hbi]⟩
        rw [hbi]
        simpa [hxc β' (agr1 hβq), conc, at1 hβq] using hd
      · rw [at1 hβq]
        have e : fp₁ bs.length = f2 := by funext k; simp [fp₁, Nat.ne_of_gt hil]
        rw [e]
        exact holds_u8 hrow
      · have e : fp₁ j = fp j := by funext k; simp [fp₁, hj2, Nat.ne_of_lt hj1]
        rw [e]
        exact hb.holds j _ hj3
    · rcases old hj with ⟨rfl, rfl⟩ | ⟨rfl, rfl⟩ | ⟨hj1, hj2, hj3⟩
      · exact hb.lt j _ hi k ((hfp k).2 (.inl (by simpa [fp₁] using hk)))
      · exact hb.lt i _ hi k ((hfp k).2 (.inr (by simpa [fp₁, Nat.ne_of_gt hil] using hk)))
      · exact hb.lt j _ hj3 k (by simpa [fp₁, hj2, Nat.ne_of_lt hj1] using hk)
    · rcases old hj with ⟨rfl, rfl⟩ | ⟨rfl, rfl⟩ | ⟨hj1, hj2, hj3⟩ <;> rcases old hq with ⟨rfl, rfl⟩ | ⟨rfl, rfl⟩ | ⟨hq1, hq2, hq3⟩
      · exact hne rfl
      · have e1 : k = (β j).blk := by simpa [fp₁] using hk
        have e2 : f2 k := by simpa [fp₁, Nat.ne_of_gt hil] using hk2
        exact hnb (e1 ▸ e2)
      · have e1 : k = (β j).blk := by simpa [fp₁] using hk
        have e2 : fp q k := by simpa [fp₁, hq2, Nat.ne_of_lt hq1] using hk2
        exact hb.sep j q _ _ hi hq3 hne (.inl rfl) k ((hfp k).2 (.inl e1)) e2
      · have e2 : k = (β q).blk := by simpa [fp₁] using hk2
        have e1 : f2 k := by simpa [fp₁, Nat.ne_of_gt hil] using hk
        exact hnb (e2 ▸ e1)
      · exact hne rfl
      · have e1 : f2 k := by simpa [fp₁, Nat.ne_of_gt hil] using hk
        have e2 : fp q k := by simpa [fp₁, hq2, Nat.ne_of_lt hq1] using hk2
        exact hb.sep i q _ _ hi hq3 (fun e => hq2 e.symm) (.inl rfl) k ((hfp k).2 (.inr e1)) e2
      · have e1 : k = (β q).blk := by simpa [fp₁] using hk2
        have e2 : fp j k := by simpa [fp₁, hj2, Nat.ne_of_lt hj1] using hk
        exact hb.sep q j _ _ hi hj3 (fun e => hne e.symm) (.inl rfl) k ((hfp k).2 (.inl e1)) e2
      · have e1 : f2 k := by simpa [fp₁, Nat.ne_of_gt hil] using hk2
        have e2 : fp j k := by simpa [fp₁, hj2, Nat.ne_of_lt hj1] using hk
        exact hb.sep i j _ _ hi hj3 (fun e => hj2 e.symm) (.inl rfl) k ((hfp k).2 (.inr e1)) e2
      · exact hb.sep j q _ _ hj3 hq3 hne hmm k (by simpa [fp₁, hj2, Nat.ne_of_lt hj1] using hk) (by simpa [fp₁, hq2, Nat.ne_of_lt hq1] using hk2)
  · obtain ⟨j2, r2, h1, h2, h3⟩ := in1 hj hm k hk
    exact hG j2 r2 h1 h2 k h3
  · rintro e w' ⟨r, bs', β₂, fp₂, hR', hag, hlen, hall, hfr, hmine⟩
    have hag : Agr (bs.length + 1) β₁ β₂ := by simpa using hag
    have hlen : bs.length + 1 ≤ bs'.length := by simpa using hlen
    obtain ⟨x', j, l', hfl, hx', hRr, hbi, hbj, hjm, hoth⟩ := hR r bs' hR'
    have hjl : j < bs'.length := (List.getElem?_eq_some_iff.1 hbj).1
    have hag2 : Agr bs.length β β₂ := agr1 hag
    let fp₃ : Nat → Nat → Prop := fun q k => if q = i then fp₂ i k ∨ fp₂ j k else fp₂ q k
    have lift : ∀ {β'}, Agr bs.length β₂ β' → ∃ β'', Agr bs'.length β₂ β'' ∧ Agr bs.length β'' β' := fun {β'} hβ =>
      ⟨β₂, Agr.refl _ _, hβ⟩
    have old2 : ∀ {q r'}, (bs.set i (.ext (BldR TB TU l')))[q]? = some r' → (q = i ∧ r' = .ext (BldR TB TU l')) ∨ (q < bs.length ∧ q ≠ i ∧ bs[q]? = some r' ∧ bs'[q]? = some r') := fun {q r'} hq => by
      by_cases hqi : q = i
      · subst hqi
        rw [List.getElem?_set_self hil] at hq
        exact .inl ⟨rfl, (Option.some.inj hq).symm⟩
      · rw [List.getElem?_set_ne (fun e => hqi e.symm)] at hq
        have hql : q < bs.length := (List.getElem?_eq_some_iff.1 hq).1
        exact .inr ⟨hql, hqi, hq, (hoth q hql hqi).trans hq⟩
    refine ⟨r, bs.set i (.ext (BldR TB TU l')), β₂, fp₃, hRr, hag2, by simp, fun β' hβ => ?_, hfr.mono ?_, fun q r' hq hqm k hk => ?_⟩
    · rw [List.length_set] at hβ
      -- the things of the caller are read at any β' that agrees on them
      let β'' : Nat → Bt := fun q => if q < bs.length then β' q else β₂ q
      have hβ2 : Agr bs'.length β₂ β'' := fun q hq => by
        show _ = if _ then _ else _
        split
        · rename_i hlt; exact hβ q hlt
        · rfl
      obtain ⟨he, hb⟩ := hall β'' hβ2
      refine ⟨by rw [he, conc_flat r hfl β'' β'], ?_⟩
      have hbi' : β'' i = β₂ i := (hβ2 i (by omega)).symm
      have hbi2 : β' i = β₂ i := (hβ i hil).symm
      refine ⟨fun q r' hq => ?_, fun q r' hq k hk => ?_, fun q s a b hq hs hne hmm k hk hk2 => ?_⟩
      · rcases old2 hq with ⟨rfl, rfl⟩ | ⟨h1, h2, h3, h4⟩
        · obtain ⟨k0, ⟨rest, fz', hd', rfl⟩, k3⟩ := hb.holds _ _ hbi
          have hrow' := hb.holds _ _ hbj
          refine ⟨by rw [hbi2, ← hbi']; exact k0, conc β'' x', β'' j, fp₂ j, ?_, ⟨fz', ?_⟩, holds_u8 hrow', ?_, fun k => ?_⟩
          · rcases hx' with rfl | rfl
            · exact .inl rfl
            · right
              simp only [conc]
              rw [k0, hbi', hbi2]
          · rw [hbi2, ← hbi']
            simpa [conc] using hd'
          · intro hc
            have : fp₂ q (β'' q).blk := (k3 _).2 rfl
            rw [hbi2, ← hbi'] at hc
            exact hb.sep q j _ _ hbi hbj (by omega) (.inl rfl) _ this hc
          · show (if _ then _ else _) ↔ _
            rw [if_pos rfl, k3 k, hbi', hbi2]
        · have e : fp₃ q = fp₂ q := by funext k; show (if _ then _ else _) = _; rw [if_neg h2]
          rw [e]
          have e2 : β' q = β'' q := by show _ = if _ then _ else _; rw [if_pos h1]
          have := hb.holds _ _ h4
          rw [e2]
          -- what it holds of cells looks at β'' alone through the things of the caller
          have hA : Agr bs.length β β' := fun q hq => (hag2 q hq).trans (hβ q hq)
          have hA2 : Agr bs.length β β'' := fun q hq => (hag2 q hq).trans (hβ2 q (by omega))
          have u1 := (hbx β'' hA2).holds q _ h3
          have u2 := (hbx β' hA).holds q _ h3
          rw [e2] at u2
          exact res_agr u1 u2 this
      · rcases old2 hq with ⟨rfl, rfl⟩ | ⟨h1, h2, h3, h4⟩
        · have hk : fp₂ q k ∨ fp₂ j k := by simpa [fp₃] using hk
          rcases hk with hk | hk
          · exact hb.lt _ _ hbi k hk
          · exact hb.lt _ _ hbj k hk
        · exact hb.lt _ _ h4 k (by simpa [fp₃, h2] using hk)
      · rcases old2 hq with ⟨rfl, rfl⟩ | ⟨h1, h2, h3, h4⟩ <;> rcases old2 hs with ⟨rfl, rfl⟩ | ⟨g1, g2, g3, g4⟩
        · exact hne rfl
        · have hk2 : fp₂ s k := by simpa [fp₃, g2] using hk2
          have hk : fp₂ q k ∨ fp₂ j k := by simpa [fp₃] using hk
          rcases hk with hk | hk
          · exact hb.sep _ _ _ _ hbi g4 hne (.inl rfl) k hk hk2
          · exact hb.sep _ _ _ _ hbj g4 (by omega) (.inl rfl) k hk hk2
        · have hk : fp₂ q k := by simpa [fp₃, h2] using hk
          have hk2 : fp₂ s k ∨ fp₂ j k := by simpa [fp₃] using hk2
          rcases hk2 with hk2 | hk2
          · exact hb.sep _ _ _ _ hbi h4 (fun e => hne e.symm) (.inl rfl) k hk2 hk
          · exact hb.sep _ _ _ _ hbj h4 (by omega) (.inl rfl) k hk2 hk
        · exact hb.sep _ _ _ _ h4 g4 hne hmm k (by simpa [fp₃, h2] using hk) (by simpa [fp₃, g2] using hk2)
    · rintro k ⟨j1, r1, hj1, hm1, hk1⟩
      exact in1 hj1 hm1 k hk1
    · rcases old2 hq with ⟨rfl, rfl⟩ | ⟨h1, h2, h3, h4⟩
      · have hk : fp₂ q k ∨ fp₂ j k := by simpa [fp₃] using hk
        rcases hk with hk | hk
        · rcases hmine _ _ hbi rfl k hk with h1 | ⟨j1, r1, hj1, hm1, hk1⟩
          · exact .inl h1
          · exact .inr (in1 hj1 hm1 k hk1)
        · rcases hmine _ _ hbj rfl k hk with h1 | ⟨j1, r1, hj1, hm1, hk1⟩
          · exact .inl h1
          · exact .inr (in1 hj1 hm1 k hk1)
      · rcases hmine _ _ h4 hqm k (by simpa [fp₃, h2] using hk) with h1 | ⟨j1, r1, hj1, hm1, hk1⟩
        · exact .inl h1
        · exact .inr (in1 hj1 hm1 k hk1)
theorem sc_direct {i : Nat} {r0 r1 : Res} {r : SV} (hi : bs[i]? = some r0) (hm : r0.mine = true) (hent : Enters V f) (hr : flat r = true)
    (h : ∀ (β : Nat → Bt) (fp : Nat → Nat → Prop) (w : World), V.E w → (∀ β', Agr bs.length β β' → Holds β' (β' i) (fp i) w r0) → Calls V.P f (concL β args).toArray w fun e w' => e = .returned (conc bt0 r) ∧ FrW (fp i) w w' ∧ ∃ f1 : Nat → Prop, (∀ k, f1 k → fp i k) ∧ ∀ β', Agr bs.length β β' → Holds β' (β' i) f1 w' r1) :
    SC V f args bs (fun r' bs' => r' = r ∧ bs' = bs.set i r1) := by
  have hil : i < bs.length := (List.getElem?_eq_some_iff.1 hi).1
  refine ⟨hent, fun β fp w hbx hG hE => ?_⟩
  refine (h β fp w hE (fun β' hβ => (hbx β' hβ).holds i _ hi)).mono ?_
  rintro e w' ⟨rfl, hfr, f1, hf1, hh⟩
  have old : ∀ {j r'}, (bs.set i r1)[j]? = some r' → (j = i ∧ r' = r1) ∨ (j ≠ i ∧ bs[j]? = some r') := fun {j r'} hj => by
    by_cases hji : j = i
    · subst hji
      rw [List.getElem?_set_self hil] at hj
      exact .inl ⟨rfl, (Option.some.inj hj).symm⟩
    · rw [List.getElem?_set_ne (fun e => hji e.symm)] at hj
      exact .inr ⟨hji, hj⟩
  let fp₂ : Nat → Nat → Prop := fun j k => if j = i then f1 k else fp j k
  refine ⟨r, bs.set i r1, β, fp₂, ⟨rfl, rfl⟩, Agr.refl _ _, by simp, fun β' hβ => ⟨by rw [conc_flat r hr bt0 β'], ?_⟩, hfr.mono (fun k hk => ⟨i, _, hi, hm, hk⟩), fun j r' hj hjm k hk => ?_⟩
  · rw [List.length_set] at hβ
    have hb := hbx β' hβ
    refine ⟨fun j r' hj => ?_, fun j r' hj k hk => ?_, fun j l a b hj hl hne hmm k hk hk2 => ?_⟩
    · rcases old hj with ⟨rfl, rfl⟩ | ⟨h1, h2⟩
      · have e : fp₂ j = f1 := by funext k; simp [fp₂]
        rw [e]; exact hh β' hβ
      · have e : fp₂ j = fp j := by funext k; simp [fp₂, h1]
        rw [e]
        exact (hb.holds j _ h2).stays (fun k hk => hfr.block k (hb.lt j _ h2 k hk) (fun hki => hb.sep i j _ _ hi h2 (fun e => h1 e.symm) (.inl hm) k hki hk))
    · rcases old hj with ⟨rfl, rfl⟩ | ⟨h1, h2⟩
      · exact Nat.lt_of_lt_of_le (hb.lt _ _ hi k (hf1 k (by simpa [fp₂] using hk))) hfr.size
      · exact Nat.lt_of_lt_of_le (hb.lt j _ h2 k (by simpa [fp₂, h1] using hk)) hfr.size
    · rcases old hj with ⟨rfl, rfl⟩ | ⟨h1, h2⟩ <;> rcases old hl with ⟨rfl, rfl⟩ | ⟨g1, g2⟩
      · exact hne rfl
      · exact hb.sep _ _ _ _ hi g2 hne (.inl hm) k (hf1 k (by simpa [fp₂] using hk)) (by simpa [fp₂, g1] using hk2)
      · exact hb.sep _ _ _ _ hi h2 (fun e => hne e.symm) (.inl hm) k (hf1 k (by simpa [fp₂] using hk2)) (by simpa [fp₂, h1] using hk)
      · exact hb.sep _ _ _ _ h2 g2 hne hmm k (by simpa [fp₂, h1] using hk) (by simpa [fp₂, g1] using hk2)
  · rcases old hj with ⟨rfl, rfl⟩ | ⟨h1, h2⟩
    · exact .inr ⟨_, _, hi, hm, hf1 k (by simpa [fp₂] using hk)⟩
    · exact .inr ⟨j, r', h2, hjm, by simpa [fp₂, h1] using hk⟩
theorem SC.mono {R R' : SV → List Res → Prop} (h : SC V f args bs R) (k : ∀ r bs', R r bs' → R' r bs') : SC V f args bs R' := by
  refine ⟨h.1, fun β fp w hbx hG hE => (h.2 β fp w hbx hG hE).mono ?_⟩
  rintro e w' ⟨r, bs', β₂, fp₂, hR, h2⟩
  exact ⟨r, bs', β₂, fp₂, k _ _ hR, h2⟩
/-! slices that grow -/
theorem at_new (b : List Res) (X : Res) : (b ++ [X])[b.length]? = some X := by simp
theorem at_old {b : List Res} {j : Nat} {r : Res} (h : b[j]? = some r) (X : List Res) : (b ++ X)[j]? = some r := by
  rw [List.getElem?_append_left ((List.getElem?_eq_some_iff.1 h).1)]; exact h
def Sl (e s L : Nat) (x : SV) (b : List Res) (c : List SV) (n : Nat) : Prop := (x = .nils ∧ c = [] ∧ n = 0) ∨ ∃ j, x = .o j n ∧ L ≤ j ∧ b[j]? = some (.own c e s n true)
def Kp (bs b : List Res) : Prop := bs.length ≤ b.length ∧ ∀ k, k < bs.length → b[k]? = bs[k]?
theorem Kp.refl (bs : List Res) : Kp bs bs := ⟨Nat.le_refl _, fun _ _ => rfl⟩
theorem Kp.trans {a b c : List Res} (h : Kp a b) (k : Kp b c) : Kp a c := ⟨Nat.le_trans h.1 k.1, fun i hi => (k.2 i (Nat.lt_of_lt_of_le hi h.1)).trans (h.2 i hi)⟩
theorem Kp.app {bs b : List Res} (h : Kp bs b) (X : List Res) : Kp bs (b ++ X) := ⟨by rw [List.length_append]; have := h.1; omega, fun k hk => by rw [List.getElem?_append_left (by have := h.1; omega)]; exact h.2 k hk⟩
theorem Kp.set {bs b : List Res} (h : Kp bs b) {j : Nat} (hj : bs.length ≤ j) (X : Res) : Kp bs (b.set j X) := ⟨by rw [List.length_set]; exact h.1, fun k hk => by rw [List.getElem?_set_ne (by omega)]; exact h.2 k hk⟩
theorem Kp.at {bs b : List Res} (h : Kp bs b) {j : Nat} {r : Res} (hj : bs[j]? = some r) : b[j]? = some r := (h.2 j ((List.getElem?_eq_some_iff.1 hj).1)).trans hj
theorem Sl.app {e s L : Nat} {x : SV} {b : List Res} {c : List SV} {n : Nat} (h : Sl e s L x b c n) (X : List Res) : Sl e s L x (b ++ X) c n := by
  rcases h with h | ⟨j, h1, h2, h3⟩
  · exact .inl h
  · exact .inr ⟨j, h1, h2, at_old h3 X⟩
theorem set_new {α : Type} (b : List α) (X Y : α) : (b ++ [X]).set b.length Y = b ++ [Y] := by simp
theorem set_prev {α : Type} (b : List α) (X Y Z : α) : (b ++ [X] ++ [Y]).set b.length Z = b ++ [Z] ++ [Y] := by simp
theorem set_prev2 {α : Type} (b : List α) (X Y Z W : α) : (b ++ [X] ++ [Y] ++ [W]).set b.length Z = b ++ [Z] ++ [Y] ++ [W] := by simp
theorem at_prev {α : Type} (b : List α) (X Y : α) : (b ++ [X] ++ [Y])[b.length]? = some X := by simp
theorem at_prev2 {α : Type} (b : List α) (X Y Z : α) : (b ++ [X] ++ [Y] ++ [Z])[b.length]? = some X := by simp
theorem at_prev3 {α : Type} (b : List α) (X Y Z W : α) : (b ++ [X] ++ [Y] ++ [Z] ++ [W])[b.length]? = some X := by simp
theorem at_prev4 {α : Type} (b : List α) (X Y Z W U : α) : (b ++ [X] ++ [Y] ++ [Z] ++ [W] ++ [U])[b.length]? = some X := by simp
def lawB := And.intro (And.intro (@at_new) (And.intro (@at_prev) (@at_prev2))) (And.intro (And.intro (@at_prev3) (@at_prev4)) (And.intro (@set_new) (And.intro (@set_prev) (@set_prev2))))
end Vc
/- A library call that makes a row, as a contract of the calculus. -/
set_option linter.all false
namespace Go.Proofs.YtcndmooeglfilaaGreatDoor
open Go Vc Go.RowKit
theorem heap_new0 (w : World) (o : Obj) : (w.alloc o).heap[w.heap.size]? = some o := by
  show (w.heap.push o)[w.heap.size]? = some o
  simp
theorem heap_size0 (w : World) (o : Obj) : (w.alloc o).heap.size = w.heap.size + 1 := by
  show (w.heap.push o).size = _
  simp
theorem sc_row {V : Cx} {f : FuncId} {args : List SV} {bs : List Res} {c : List SV} {T : TypeId} (hent : Vc.Enters V f) (hfa : flat.flatL args = true) (hfc : flat.flatL c = true) (hn : c.length ≤ maxLen)
    (h : ∀ w, V.E w → Calls V.P f (concL bt0 args).toArray w fun e w' => e = .returned (.slice (some ⟨w.heap.size, 0, none⟩) c.length c.length) ∧ w' = w.alloc (.cells (concL bt0 c).toArray T)) :
    SC V f args bs (fun r b => r = .o bs.length c.length ∧ b = bs ++ [.own c T 1 c.length true]) := by
  refine ⟨hent, fun β fp w hbx hG hE => ?_⟩
  rw [concL_flat args hfa β bt0]
  refine (h w hE).mono ?_
  rintro e w' ⟨rfl, rfl⟩
  have hb : Below w.heap.size w (w.alloc (.cells (concL bt0 c).toArray T)) := Below.alloc (Below.refl _ _) (Nat.le_refl _) _
  refine ⟨.o bs.length c.length, bs ++ [.own c T 1 c.length true], fun i => if i < bs.length then β i else ⟨w.heap.size, 0, c.length + 1⟩,
    fun i k => if i < bs.length then fp i k else (i = bs.length ∧ k = w.heap.size), ⟨rfl, rfl⟩, fun i hi => by simp [hi], by simp, fun β' hβ => ?_, FrW.of_below hb, ?_⟩
  · have hAgr : Agr bs.length β β' := fun i hi => by
      have := hβ i (by rw [List.length_append]; omega)
      simpa [hi] using this
    have hn1 : β' bs.length = ⟨w.heap.size, 0, c.length + 1⟩ := by
      have := hβ bs.length (by simp)
      simpa using this.symm
    have hbw := hbx β' hAgr
    refine ⟨?_, ?_, ?_, ?_⟩
    · simp [conc, hn1, oV]
    · intro i r hi
      rcases Nat.lt_or_ge i bs.length with hlt | hge
      · rw [List.getElem?_append_left hlt] at hi
        have := (hbw.holds i r hi).stays (w' := w.alloc (.cells (concL bt0 c).toArray T)) (fun k hk => hb.block k (hbw.lt i r hi k hk))
        simpa [hlt] using this
      · rw [List.getElem?_append_right hge] at hi
        obtain rfl : i = bs.length := by
          rcases Nat.eq_or_lt_of_le hge with e | e
          · exact e.symm
          · rw [List.getElem?_eq_none (by simp; omega)] at hi; cases hi
        simp only [Nat.sub_self, List.getElem?_cons_zero, Option.some.injEq] at hi
        subst hi
        right
        have hc : (concL bt0 c) = c.map (conc β') := by rw [← concL_map, concL_flat c hfc bt0 β']
        have hhd : Head (w.alloc (.cells (concL bt0 c).toArray T)) w.heap.size T (c.map (conc β')) [] (0, 0) := ⟨by rw [List.append_nil, ← hc]; exact heap_new0 _ _, .inr (Nat.le_refl _)⟩
        rw [hn1]
        exact ⟨by simp, by simp, by simpa using hn, by simp, hhd.lies, fun _ => ⟨rfl, [], (0, 0), hhd, .inr (Nat.le_refl _), by simp⟩, fun k => by simp⟩
    · intro i r hi k hk
      rcases Nat.lt_or_ge i bs.length with hlt | hge
      · rw [List.getElem?_append_left hlt] at hi
        simp only [hlt, if_true] at hk
        exact Nat.lt_of_lt_of_le (hbw.lt i r hi k hk) hb.size
      · simp only [show ¬ i < bs.length by omega, if_false] at hk
        rw [hk.2, heap_size0]
        omega
    · intro i j r r' hi hj hij hm k hk hk'
      rcases Nat.lt_or_ge i bs.length with hlt | hge
      · rw [List.getElem?_append_left hlt] at hi
        simp only [hlt, if_true] at hk
        rcases Nat.lt_or_ge j bs.length with hjt | hjg
        · rw [List.getElem?_append_left hjt] at hj
          simp only [hjt, if_true] at hk'
          exact hbw.sep i j r r' hi hj hij hm k hk hk'
        · simp only [show ¬ j < bs.length by omega, if_false] at hk'
          have := hbw.lt i r hi k hk
          omega
      · simp only [show ¬ i < bs.length by omega, if_false] at hk
        rcases Nat.lt_or_ge j bs.length with hjt | hjg
        · rw [List.getElem?_append_left hjt] at hj
          simp only [hjt, if_true] at hk'
          have := hbw.lt j r' hj k hk'
          omega
        · simp only [show ¬ j < bs.length by omega, if_false] at hk'
          omega
  · intro i r' hi hm k hk
    rcases Nat.lt_or_ge i bs.length with hlt | hge
    · rw [List.getElem?_append_left hlt] at hi
      simp only [hlt, if_true] at hk
      exact .inr ⟨i, r', hi, hm, hk⟩
    · simp only [show ¬ i < bs.length by omega, if_false] at hk
      exact .inl (by omega)
end Go.Proofs.YtcndmooeglfilaaGreatDoor
/- strings.IndexRune at a rune that is no ASCII, in an ASCII string; strings.IndexAny at an ASCII set. -/
set_option linter.all false
namespace Go.Proofs.YtcndmooeglfilaaGreatDoor
open Go.RowKit Wf
attribute [local go_sem] ex_list app_list get_list

theorem encode_high (r : Int) (h1 : 128 ≤ r) (h4 : Lib.validRune r = true) : ∃ el : Bytes, Utf8.encode r = ⟨List.toArray el⟩ ∧ 2 ≤ el.length ∧ el.length ≤ 4 ∧ ∀ h : el.length - 1 < el.length, 128 ≤ el[el.length - 1].toNat := by
  have hv : Utf8.valid r = true := by
    unfold Lib.validRune at h4
    have := of_decide_eq_true h4
    unfold Utf8.valid
    simp
    omega
  obtain ⟨n, rfl⟩ := Int.eq_ofNat_of_zero_le (show 0 ≤ r by omega)
  have hn : 128 ≤ n := by omega
  have key : ∀ m : Nat, 128 ≤ (UInt8.ofNat (0x80 + m % 64)).toNat := by
    intro m
    rw [UInt8.toNat_ofNat']
    omega
  unfold Utf8.encode
  rw [if_pos hv]
  simp only [Int.toNat_natCast]
  rw [if_neg (show ¬ n < 128 by omega)]
  split
  · exact ⟨_, rfl, by simp, by simp, fun _ => key _⟩
  · split
    · exact ⟨_, rfl, by simp, by simp, fun _ => key _⟩
    · exact ⟨_, rfl, by simp, by simp, fun _ => key _⟩

theorem indexByte_no (l : Bytes) (c : UInt8) (h : ∀ b ∈ l, b ≠ c) : Lib.indexByte l c = -1 := by
  induction l with
  | nil => rfl
  | cons b l ih =>
    have h1 := h b (by simp)
    have h2 := ih fun x hx => h x (by simp [hx])
    simp [Lib.indexByte, h1, h2]

set_option maxRecDepth 100000 in
set_option maxHeartbeats 400000 in
theorem indexRune_err (l : Bytes) (w : World) (ha : ∀ i (h : i < l.length), l[i].toNat < 128) (hl : l.length ≤ 1000000) :
    Calls Tryz.prog 181 #[(Value.string ⟨List.toArray (l)⟩), .int .i32 65533] w fun e w' => e = .returned (.int .i64 (-1)) ∧ Below w.heap.size w w' := by
  go_enter Tryz.func181, Tryz.ntmps181
  have Ha := hid ha
  clear ha
  go_wp2_with fail
  go_loopw [] (fun wr => ∃ i : Nat, i ≤ l.length ∧ wr = w.iter ⟨List.toArray l⟩ i) (fun wr => l.length - wr.iterPos w.heap.size)
  case atStart => exact ⟨0, by omega, rfl⟩
  case round =>
    obtain ⟨i, hi, rfl⟩ := hrel
    by_cases hlt : i < l.length
    · have hnx := fun ty => run_next_ascii (P := Tryz.prog) w ⟨List.toArray l⟩ i ty hlt (Ha.out i hlt)
      have hb := Ha.out i hlt
      have hx : ((l[i].toNat : Int) == 65533) = false := beq_eq_false_iff_ne.2 (by omega)
      simp only [get_list] at hnx
      go_wp2_with fail
      go_roundw
      case rel => exact ⟨i + 1, by omega, rfl⟩
      case measure => simp; omega
    · have hnx := run_next_end (P := Tryz.prog) w ⟨List.toArray l⟩ i
      have hsz : l.length ≤ i := by omega
      go_wp2_with fail
      go_ret
      exact ⟨rfl, (Below.refl _ _).alloc (Nat.le_refl _) _⟩
set_option maxRecDepth 100000 in
set_option maxHeartbeats 400000 in
theorem indexRune_bad (l : Bytes) (r : Int) (w : World) (h1 : 128 ≤ r) (h2 : r ≤ 2147483647) (h3 : (r == 65533) = false) (h4 : Lib.validRune r = false) :
    Calls Tryz.prog 181 #[(Value.string ⟨List.toArray (l)⟩), .int .i32 r] w fun e w' => e = .returned (.int .i64 (-1)) ∧ Below w.heap.size w w' := by
  have h5 := hid h4
  go_enter Tryz.func181, Tryz.ntmps181
  go_wp2_with (go_at_call 201; refine (Tryz.utf8_ValidRune _ _).mono ?_; rintro e w' ⟨rfl, rfl⟩)
  go_ret
  exact ⟨rfl, Below.refl _ _⟩
set_option maxRecDepth 100000 in
set_option maxHeartbeats 400000 in
theorem indexRune_high (l : Bytes) (r : Int) (w : World) (ha : ∀ i (h : i < l.length), l[i].toNat < 128) (hl : l.length ≤ 1000000) (h1 : 128 ≤ r) (h2 : r ≤ 2147483647) (h3 : (r == 65533) = false) (h4 : Lib.validRune r = true) :
    Calls Tryz.prog 181 #[(Value.string ⟨List.toArray (l)⟩), .int .i32 r] w fun e w' => e = .returned (.int .i64 (-1)) ∧ Below w.heap.size w w' := by
  have Ha := hid ha
  clear ha
  go_enter Tryz.func181, Tryz.ntmps181
  go_wp2_with (go_at_call 201; refine (Tryz.utf8_ValidRune _ _).mono ?_; rintro e w' ⟨rfl, rfl⟩)
  go_step3
  go_wp2_with fail
  obtain ⟨el, hel, he1, he2, he3⟩ := encode_high r h1 h4
  have He3 := hid he3
  clear he3
  rw [hel]
  have hx : wrap64 ((ByteArray.size ⟨List.toArray el⟩ : Int) - 1) = ((el.length - 1 : Nat) : Int) := by
    have : ByteArray.size ⟨List.toArray el⟩ = el.length := rfl
    rw [this, IntWalk.wrap64_in _ ⟨by omega, by omega⟩]
    omega
  rw [hx]
  clear hel hx h1 h2 h3 h4
  refine wp_loop_once ?_
  by_cases hlt : el.length - 1 < l.length
  · have hle : el.length - 1 < el.length := by omega
    have hbt := Ha.out _ hlt
    have hc := He3.out (by omega)
    have hne : ((l[el.length - 1].toNat : Int) != (el[el.length - 1].toNat : Int)) = true := by rw [bne_iff_ne]; omega
    have hno := indexByte_no (l.drop (el.length - 1 + 1)) el[el.length - 1] (fun b hb hx => by
      obtain ⟨j, hj, rfl⟩ := List.mem_iff_getElem.1 hb
      rw [List.getElem_drop] at hx
      have h1 := Ha.out (el.length - 1 + 1 + j) (by simp at hj; omega)
      rw [hx] at h1
      omega)
    have Hno := hid hno
    clear hno
    go_wp2_with fail
    go_step3
    go_wp2_with fail
    go_quiet (fail)
    go_wp2_with fail
    have hb : Below w'.heap.size w' (w'.drewN nq) := below_drewN (Below.refl _ _) _
    generalize w'.drewN nq = w2 at hb ⊢
    have hs1 : IntKind.i64.wrap (((el.length - 1 : Nat) : Int) + 1) = ((el.length - 1 : Nat) : Int) + 1 := IntWalk.i64_in _ (by omega)
    have hs2 : (0 : Int) ≤ ((el.length - 1 : Nat) : Int) + 1 := by omega
    have hs3 : (((el.length - 1 : Nat) : Int) + 1).toNat = el.length - 1 + 1 := by omega
    have hs4 : ((el.length - 1 : Nat) : Int) + 1 ≤ (l.length : Int) := by omega
    go_quiet ((go_at_call 141; refine Calls.quiet_of_same (Tryz.strings_IndexByte _ _ _)))
    clear hs1 hs2 hs3 hs4
    rw [show ((el[el.length - 1].toNat : Int)).toNat.toUInt8 = el[el.length - 1] from by simp, Hno.out]
    go_wp2_with fail
    rw [Exit.noGoto_ret]
    go_wp2_with fail
    rw [Exit.noGoto_ret]
    go_ret
    exact ⟨rfl, below_drewN hb _⟩
  · go_wp2_with fail
    rw [Exit.noGoto_ret]
    go_ret
    exact ⟨rfl, Below.refl _ _⟩
theorem noAny_high (s : ByteArray) (set : Bytes) (i k : Nat) (hn : Lib.NoAny s.data.toList set i) (hset : ∀ j (h : j < set.length), set[j].toNat < 128) (hh : ∀ j, i ≤ j → j < i + k → ∀ h : j < s.size, 128 ≤ s[j].toNat) : Lib.NoAny s.data.toList set (i + k) := by
  intro j b hj hb
  by_cases hji : j < i
  · exact hn j b hji hb
  · obtain ⟨hjs, rfl⟩ := List.getElem?_eq_some_iff.1 hb
    have hs : j < s.size := by rw [Lib.size_eq]; exact hjs
    have h1 : 128 ≤ (s.data.toList[j]).toNat := hh j (by omega) hj hs
    rw [Bool.eq_false_iff]
    intro hc
    have hmem := List.contains_iff_mem.1 hc
    obtain ⟨q, hq, he⟩ := List.mem_iff_getElem.1 hmem
    have h2 := hset q hq
    rw [he] at h2
    omega
theorem get_bang (s : ByteArray) (j : Nat) (h : j < s.size) : (s.get! j).toNat = s[j].toNat := by
  have := get_at s j h
  rw [Nat.add_zero] at this
  rw [this]
theorem cont_high (s : ByteArray) (j : Nat) (h : (decide (j < s.size) && (s.get! j).toNat / 64 == 2) = true) : j < s.size ∧ ∀ h : j < s.size, 128 ≤ s[j].toNat := by
  simp only [Bool.and_eq_true, decide_eq_true_eq, beq_iff_eq] at h
  refine ⟨h.1, fun hj => ?_⟩
  have := h.2
  rw [get_bang s j hj] at this
  omega
def Span (s : ByteArray) (i : Nat) (p : Nat × Nat) : Prop := i + p.2 ≤ s.size ∧ ∀ j, i ≤ j → j < i + p.2 → ∀ h : j < s.size, 128 ≤ s[j].toNat
theorem decode_span (s : ByteArray) (i : Nat) (h : i < s.size) (hx : 128 ≤ s[i].toNat) : Span s i (Utf8.decode s i) := by
  have one : ∀ e, Span s i (e, 1) := fun e => ⟨by dsimp only; omega, fun j h1 h2 h3 => by
    dsimp only at h2
    obtain rfl : j = i := by omega
    exact hx⟩
  unfold Utf8.decode
  dsimp only
  split
  · exact one _
  split
  · rename_i hc
    simp only [Bool.and_eq_true] at hc
    have c1 := cont_high s (i + 1) (by simpa using hc.2)
    split
    · refine ⟨by dsimp only; omega, fun j h1 h2 h3 => ?_⟩
      dsimp only at h2
      rcases Nat.lt_or_ge j (i + 1) with h' | h'
      · exact (one 0).2 j h1 h' h3
      · obtain rfl : j = i + 1 := by omega
        exact c1.2 h3
    · exact one _
  · split
    · rename_i hc
      simp only [Bool.and_eq_true] at hc
      have c1 := cont_high s (i + 1) (by simpa using hc.1.2)
      have c2 := cont_high s (i + 2) (by simpa using hc.2)
      split
      · refine ⟨by dsimp only; omega, fun j h1 h2 h3 => ?_⟩
        dsimp only at h2
        rcases Nat.lt_or_ge j (i + 1) with h' | h'
        · exact (one 0).2 j h1 h' h3
        · rcases Nat.lt_or_ge j (i + 2) with h'' | h''
          · obtain rfl : j = i + 1 := by omega
            exact c1.2 h3
          · obtain rfl : j = i + 2 := by omega
            exact c2.2 h3
      · exact one _
    · split
      · rename_i hc
        simp only [Bool.and_eq_true] at hc
        have c1 := cont_high s (i + 1) (by simpa using hc.1.1.2)
        have c2 := cont_high s (i + 2) (by simpa using hc.1.2)
        have c3 := cont_high s (i + 3) (by simpa using hc.2)
        split
        · refine ⟨by dsimp only; omega, fun j h1 h2 h3 => ?_⟩
          dsimp only at h2
          rcases Nat.lt_or_ge j (i + 1) with h' | h'
          · exact (one 0).2 j h1 h' h3
          · rcases Nat.lt_or_ge j (i + 2) with h'' | h''
            · obtain rfl : j = i + 1 := by omega
              exact c1.2 h3
            · rcases Nat.lt_or_ge j (i + 3) with h4 | h4
              · obtain rfl : j = i + 2 := by omega
                exact c2.2 h3
              · obtain rfl : j = i + 3 := by omega
                exact c3.2 h3
        · exact one _
      · exact one _
theorem indexRune_any (l : Bytes) (r : Int) (w : World) (ha : ∀ i (h : i < l.length), l[i].toNat < 128) (hl : l.length ≤ 1000000) (h1 : 128 ≤ r) (h2 : r ≤ 2147483647) :
    Calls Tryz.prog 181 #[(Value.string ⟨List.toArray (l)⟩), .int .i32 r] w fun e w' => e = .returned (.int .i64 (-1)) ∧ Below w.heap.size w w' := by
  by_cases h3 : r = 65533
  · subst h3
    exact indexRune_err l w ha hl
  · cases h4 : Lib.validRune r
    · exact indexRune_bad l r w h1 h2 (beq_eq_false_iff_ne.2 h3) h4
    · exact indexRune_high l r w ha hl h1 h2 (beq_eq_false_iff_ne.2 h3) h4

theorem iterPos_at {w : World} {k : Nat} {s : ByteArray} {p : Nat} (h : w.heap[k]? = some (.stringIter s p)) : w.iterPos k = p := by unfold World.iterPos; rw [h]

set_option maxRecDepth 100000 in
set_option maxHeartbeats 400000 in
theorem indexAny_short (s l : Bytes) (w : World) (ha : ∀ i (h : i < l.length), l[i].toNat < 128) (hl : l.length ≤ 1000000) (h2 : 2 ≤ l.length) (h8 : s.length ≤ 8) :
    Calls Tryz.prog 154 #[(Value.string ⟨List.toArray (s)⟩), (Value.string ⟨List.toArray (l)⟩)] w fun e w' => e = .returned (.int .i64 (Lib.indexAny s l)) ∧ Below w.heap.size w w' := by
  have Ha := hid ha
  clear ha
  have hemp : l.isEmpty = false := by cases l <;> simp at h2 ⊢
  have hn1 : ((l.length : Int) == 1) = false := beq_eq_false_iff_ne.2 (by omega)
  have h8z : decide ((8 : Int) < (s.length : Int)) = false := decide_eq_false (by omega)
  go_enter Tryz.func154, Tryz.ntmps154
  go_wp2_with (go_at_call 182; refine (Tryz.strings_shouldUseASCIISet _ _).mono ?_; rintro e w' ⟨rfl, hw⟩; rw [hw, h8z])
  go_loopw [] (fun wr => ∃ i : Nat, i ≤ s.length ∧ wr.heap[w.heap.size]? = some (.stringIter ⟨List.toArray s⟩ i) ∧ Below w.heap.size w wr ∧ Lib.NoAny s l i) (fun wr => s.length - wr.iterPos w.heap.size)
  case atStart => exact ⟨0, by omega, World.iter_heap _ _ _, (Below.refl _ _).alloc (Nat.le_refl _) _, Lib.NoAny.zero _ _⟩
  case round =>
    obtain ⟨i, hi, hit, hbl, hno⟩ := hrel
    have Hit := hid hit
    have Hbl := hid hbl
    have Hno := hid hno
    clear hit hbl hno
    have hpos : wr.iterPos w.heap.size = i := by unfold World.iterPos; rw [Hit.out]
    have Hpos := hid hpos
    clear hpos
    have hlt0 : w.heap.size < wr.heap.size := (Array.getElem?_eq_some_iff.1 Hit.out).1
    by_cases hlt : i < s.length
    · by_cases hx : s[i].toNat < 128
      · have hnx := fun ty => Lib.run_next_ascii_at (P := Tryz.prog) wr w.heap.size ⟨List.toArray s⟩ i ty Hit.out hlt hx
        simp only [get_list] at hnx
        have hcon := Lib.contains_iff_indexByte l s[i]
        have hback : ((s[i].toNat : Int)).toNat.toUInt8 = s[i] := by simp
        cases hin : l.contains s[i]
        · rw [hin] at hcon
          have hneg : ¬ ((0 : Int) ≤ Lib.indexByte l s[i]) := of_decide_eq_false hcon.symm
          clear hcon
          go_wp2_with (go_at_call 181; refine (Tryz.strings_IndexRune_ascii _ _ _ (by omega) (by omega)).mono ?_; rintro e w' ⟨rfl, hw⟩; rw [hw, hback])
          have hk := Lib.iterAt_heap wr w.heap.size ⟨List.toArray s⟩ i (i + 1) Hit.out
          have hxl : (⟨List.toArray s⟩ : ByteArray).data.toList[i]? = some s[i] := List.getElem?_eq_getElem hlt
          refine ⟨⟨i + 1, by omega, hk, Lib.below_iterAt Hbl.out (Nat.le_refl _) _ _, Hno.out.succ hxl hin⟩, ?_⟩
          rw [iterPos_at hk, Hpos.out]; omega
        · rw [hin] at hcon
          have hge : ((0 : Int) ≤ Lib.indexByte l s[i]) := of_decide_eq_true hcon.symm
          clear hcon
          go_wp2_with (go_at_call 181; refine (Tryz.strings_IndexRune_ascii _ _ _ (by omega) (by omega)).mono ?_; rintro e w' ⟨rfl, hw⟩; rw [hw, hback])
          have hxl : s[i]? = some s[i] := List.getElem?_eq_getElem hlt
          go_ret
          exact ⟨ret_int (by rw [Lib.indexAny_hit Hno.out hxl hin]), Lib.below_iterAt Hbl.out (Nat.le_refl _) _ _⟩
      · have hnx := fun ty => Lib.run_next_any_at (P := Tryz.prog) wr w.heap.size ⟨List.toArray s⟩ i ty Hit.out hlt
        have hd := decode_high ⟨List.toArray s⟩ i hlt (by simp only [get_list]; omega)
        have hd2 := decode_le ⟨List.toArray s⟩ i
        go_wp2_with (go_at_call 181; refine (indexRune_any l _ _ Ha.out hl (by omega) (by omega)).mono ?_; rintro e w' ⟨rfl, hw⟩)
        have hsp := decode_span ⟨List.toArray s⟩ i hlt (by simp only [get_list]; omega)
        have hk := Lib.iterAt_heap wr w.heap.size ⟨List.toArray s⟩ i (i + (Utf8.decode ⟨List.toArray s⟩ i).2) Hit.out
        have hk2 := (hw.block w.heap.size (by rw [Lib.iterAt_size]; exact hlt0)).trans hk
        have hle : i + (Utf8.decode ⟨List.toArray s⟩ i).2 ≤ s.length := hsp.1
        refine ⟨⟨_, hle, hk2, (Lib.below_iterAt Hbl.out (Nat.le_refl _) _ _).trans (hw.mono (by rw [Lib.iterAt_size]; omega)), noAny_high ⟨List.toArray s⟩ l i _ Hno.out Ha.out hsp.2⟩, ?_⟩
        rw [iterPos_at hk2, Hpos.out]; omega
    · have hnx := fun ty => Lib.run_next_end_at (P := Tryz.prog) wr w.heap.size ⟨List.toArray s⟩ i ty Hit.out hlt
      go_wp2_with fail
      go_ret
      exact ⟨ret_int (by rw [Lib.indexAny_none (by rw [show s.length = i by omega]; exact Hno.out)]), Hbl.out⟩

theorem strings_IndexAny (s l : Bytes) (w : World) (ha : ∀ i (h : i < l.length), l[i].toNat < 128) (hl : l.length ≤ 1000000) (h2 : 2 ≤ l.length) (hs : s.length < 4294967281) :
    Calls Tryz.prog 154 #[(Value.string ⟨List.toArray (s)⟩), (Value.string ⟨List.toArray (l)⟩)] w fun e w' => e = .returned (.int .i64 (Lib.indexAny s l)) ∧ Below w.heap.size w w' := by
  rcases Nat.lt_or_ge 8 s.length with h8 | h8
  · refine (Tryz.strings_IndexAny_long (fun _ => by kernel_rfl) ⟨List.toArray s⟩ ⟨List.toArray l⟩ w h2 h8 hs (show l.length < 4294967281 by omega) (fun j b hb => ?_)).mono ?_
    · obtain ⟨hj, rfl⟩ := List.getElem?_eq_some_iff.1 hb
      exact ha j hj
    · rintro e w' ⟨rfl, rfl⟩
      exact ⟨rfl, ((Below.refl _ _).alloc (Nat.le_refl _) _).alloc (by simp) _⟩
  · exact indexAny_short s l w ha hl h2 h8
end Go.Proofs.YtcndmooeglfilaaGreatDoor
/- The walks of package ascii. -/
set_option linter.all false
namespace Go.Proofs.YtcndmooeglfilaaGreatDoor
open Go.RowKit Wf
attribute [local go_sem] ex_list app_list get_list
set_option maxHeartbeats 400000 in
theorem ascii_IsDigit (c : UInt8) (w : World) : Calls Tryz.prog 144 #[.int .u8 c.toNat] w fun e w' => e = .returned (.bool (isDigit c)) ∧ w = w' := by
  go_enter Tryz.func144, Tryz.ntmps144
  go_wp2
  all_goals
    go_ret
    refine ⟨ret_bool ?_, rfl⟩
    have hb := or32 c
    have hc := c.toNat_lt
    rw [Bool.eq_iff_iff]
    simp [isDigit]
    try omega
set_option maxHeartbeats 400000 in
theorem ascii_IsAlpha (c : UInt8) (w : World) : Calls Tryz.prog 185 #[.int .u8 c.toNat] w fun e w' => e = .returned (.bool (isAlpha c)) ∧ w = w' := by
  go_enter Tryz.func185, Tryz.ntmps185
  go_wp2
  all_goals
    go_ret
    refine ⟨ret_bool ?_, rfl⟩
    have hb := or32 c
    have hc := c.toNat_lt
    rw [Bool.eq_iff_iff]
    simp [isAlpha]
    try omega
set_option maxHeartbeats 400000 in
theorem ascii_IsHex (c : UInt8) (w : World) : Calls Tryz.prog 149 #[.int .u8 c.toNat] w fun e w' => e = .returned (.bool (isHex c)) ∧ w = w' := by
  go_enter Tryz.func149, Tryz.ntmps149
  go_wp2
  all_goals
    go_ret
    refine ⟨ret_bool ?_, rfl⟩
    have hb := or32 c
    have hc := c.toNat_lt
    rw [Bool.eq_iff_iff]
    simp [isHex]
    try omega
set_option maxHeartbeats 400000 in
theorem ref01_IsDigit (c : UInt8) (w : World) : Calls Tryz.prog 96 #[.int .u8 c.toNat] w fun e w' => e = .returned (.bool (isDigit c)) ∧ w = w' := by
  go_enter Tryz.func96, Tryz.ntmps96
  go_wp2
  all_goals
    go_ret
    refine ⟨ret_bool ?_, rfl⟩
    have hb := or32 c
    have hc := c.toNat_lt
    rw [Bool.eq_iff_iff]
    simp [isDigit]
    try omega
set_option maxHeartbeats 400000 in
theorem ref01_IsAlpha (c : UInt8) (w : World) : Calls Tryz.prog 98 #[.int .u8 c.toNat] w fun e w' => e = .returned (.bool (isAlpha c)) ∧ w = w' := by
  go_enter Tryz.func98, Tryz.ntmps98
  go_wp2
  all_goals
    go_ret
    refine ⟨ret_bool ?_, rfl⟩
    have hb := or32 c
    have hc := c.toNat_lt
    rw [Bool.eq_iff_iff]
    simp [isAlpha]
    try omega
set_option maxHeartbeats 400000 in
theorem ref01_IsHex (c : UInt8) (w : World) : Calls Tryz.prog 135 #[.int .u8 c.toNat] w fun e w' => e = .returned (.bool (isHex c)) ∧ w = w' := by
  go_enter Tryz.func135, Tryz.ntmps135
  go_wp2
  all_goals
    go_ret
    refine ⟨ret_bool ?_, rfl⟩
    have hb := or32 c
    have hc := c.toNat_lt
    rw [Bool.eq_iff_iff]
    simp [isHex]
    try omega
end Go.Proofs.YtcndmooeglfilaaGreatDoor
/- Rows of bytes of the call's own: what a conversion lays, reads and stores; a string made of them. -/
set_option linter.all false
namespace Go.Proofs.YtcndmooeglfilaaGreatDoor
open Go.RowKit Wf
def u8V (b : UInt8) : Value := .int .u8 b.toNat
def RowU8 (w : World) (b : Nat) (l : Bytes) : Prop := ∃ (rest : List Value) (T : TypeId) (fz : Nat × Nat), w.heap[b]? = some (.cells (l.map u8V ++ rest).toArray T fz) ∧ (l.length ≤ fz.1 ∨ fz.2 ≤ fz.1)
theorem RowU8.cell {w : World} {b : Nat} {l : Bytes} (h : RowU8 w b l) {k : Nat} (hk : k < l.length) : w.cell? ⟨b, k, none⟩ = some (.int .u8 l[k].toNat) := by
  obtain ⟨rest, T, fz, hb, _⟩ := h
  rw [Lib.cell_of_heap hb k]
  simp [List.getElem?_append_left, hk, u8V]
theorem RowU8.frozen {w : World} {b : Nat} {l : Bytes} (h : RowU8 w b l) {k : Nat} (hk : k < l.length) : w.frozen? ⟨b, k, none⟩ = false := by
  obtain ⟨rest, T, fz, hb, hf⟩ := h
  simp only [World.frozen?, hb]
  simp
  omega
theorem RowU8.set {w : World} {b : Nat} {l : Bytes} (h : RowU8 w b l) {k : Nat} (hk : k < l.length) (x : UInt8) : RowU8 (w.setCell ⟨b, k, none⟩ (.int .u8 x.toNat)) b (l.set k x) := by
  obtain ⟨rest, T, fz, hb, hf⟩ := h
  refine ⟨rest, T, fz, ?_, by simpa using hf⟩
  rw [heap_set hb]
  congr 2
  simp [List.set_append_left, hk, List.map_set, u8V]
theorem RowU8.lt {w : World} {b : Nat} {l : Bytes} (h : RowU8 w b l) : b < w.heap.size := by
  obtain ⟨rest, T, fz, hb, _⟩ := h
  exact heap_lt hb
theorem RowU8.back {w : World} {b : Nat} {l : Bytes} (h : RowU8 w b l) (cap : Nat) :
    (convert 118 9 (.slice (some ⟨b, 0, none⟩) l.length cap)).run Tryz.prog w = .ok (Value.string ⟨List.toArray (l)⟩) w := by
  refine run_convert_bytes_back w _ _ 5 ⟨b, 0, none⟩ cap l Tryz.underlying118 Tryz.underlying5 Tryz.underlying9 (fun j hj => ?_)
  have : (⟨b, 0, none⟩ : Addr).add j = ⟨b, j, none⟩ := by
    unfold Addr.add
    split
    · subst j; rfl
    · simp
  rw [this]
  exact h.cell hj
theorem addr_add (b o j : Nat) : (⟨b, o, none⟩ : Addr).add j = ⟨b, o + j, none⟩ := by
  unfold Addr.add
  split
  · subst j; rfl
  · rfl
theorem RowU8.backAt {w : World} {b a : Nat} {y l : Bytes} (h : RowU8 w b (y ++ l)) (hy : y.length = a) (cap : Nat) :
    (convert 118 9 (.slice (some ⟨b, a, none⟩) l.length cap)).run Tryz.prog w = .ok (Value.string ⟨List.toArray (l)⟩) w := by
  refine run_convert_bytes_back w _ _ 5 ⟨b, a, none⟩ cap l Tryz.underlying118 Tryz.underlying5 Tryz.underlying9 (fun j hj => ?_)
  rw [addr_add]
  subst hy
  have h1 := h.cell (k := y.length + j) (by simp; omega)
  have h2 : (y ++ l)[y.length + j]'(by simp; omega) = l[j] := by rw [List.getElem_append_right (Nat.le_add_right _ _)]; simp
  rw [h2] at h1
  exact h1
theorem conv_bytes (w : World) (s : Bytes) : ∃ (w1 : World) (cap : Nat), (convert 9 118 (Value.string ⟨List.toArray (s)⟩)).run Tryz.prog w = .ok (.slice (some ⟨w.heap.size, 0, none⟩) s.length cap) w1 ∧ RowU8 w1 w.heap.size s ∧ Below w.heap.size w w1 := by
  refine ⟨_, _, Lib.run_convert_string_bytes w _ _ 5 ⟨List.toArray s⟩ Tryz.underlying9 Tryz.underlying118 Tryz.underlying5, ?_, ?_⟩
  · refine ⟨(Array.replicate (grownCap w s.length 0 5 - s.length) (Value.int .u8 0)).toList, 5, ((Lib.bytesCells w 5 ⟨List.toArray s⟩).size, (Lib.bytesCells w 5 ⟨List.toArray s⟩).size + 1), ?_, ?_⟩
    · rw [Lib.bytesWorld_at_new]
      congr 2
      apply Array.ext'
      simp [Lib.bytesCells]
      rfl
    · left
      simp [Lib.bytesCells]
  · exact ⟨by simp [Lib.bytesWorld, World.freeze]; rfl, rfl, rfl, by rw [Lib.bytesWorld_size]; omega, fun k hk => Lib.bytesWorld_at_old _ _ _ k hk⟩
end Go.Proofs.YtcndmooeglfilaaGreatDoor
/- The walks of package ascii: strings. -/
set_option linter.all false
namespace Go.Proofs.YtcndmooeglfilaaGreatDoor
open Go.RowKit Wf
attribute [local go_sem] ex_list app_list get_list

set_option maxHeartbeats 400000 in
theorem ascii_Lower (s : Bytes) (w : World) (hs : s.length ≤ 9223372036854775807) :
    Calls Tryz.prog 85 #[(Value.string ⟨List.toArray (s)⟩)] w fun e w' => e = .returned (Value.string ⟨List.toArray (lower s)⟩) ∧ Below w.heap.size w w' := by
  obtain ⟨w1, cap, hconv, hrow, hw1⟩ := conv_bytes w s
  have Hrow := hid hrow
  have Hw1 := hid hw1
  clear hrow hw1
  go_enter Tryz.func85, Tryz.ntmps85
  go_wp2_with fail
  go_loopw [10] (fun i wr => ∃ k : Nat, k ≤ s.length ∧ i = .int .i64 k ∧ RowU8 wr w.heap.size (lowTo k s) ∧ Below w.heap.size w wr) (fun i _ => s.length - (intOf i).toNat)
  case atStart => exact ⟨0, by omega, rfl, by rw [lowTo_zero]; exact Hrow.out, Hw1.out⟩
  case round =>
    obtain ⟨k, hk, rfl, hrow, hw⟩ := hrel
    have Hrow := hid hrow
    have Hw := hid hw
    clear hconv hrow hw
    by_cases hlt : k < s.length
    · have hll := lowTo_length k s
      have hcell := Hrow.out.cell (k := k) (by omega)
      have hfz := Hrow.out.frozen (k := k) (by omega)
      rw [lowTo_get hlt] at hcell
      clear hll
      by_cases hcap : 65 ≤ s[k].toNat ∧ s[k].toNat ≤ 90
      · obtain ⟨hc1, hc2⟩ := hcap
        have hst := Hrow.out.set (k := k) (by rw [lowTo_length]; exact hlt) (lowerC s[k])
        rw [lowTo_set hlt, lowerC_cap hc1 hc2] at hst
        have Hst := hid hst
        clear hst
        go_wp2_with fail
        go_roundw
        case rel => exact ⟨k + 1, by omega, by go_num, Hst.out, Hw.out.setCell (p := ⟨w.heap.size, k, none⟩) (Nat.le_refl _) _⟩
        case measure => simp [intOf]; omega
      · have Hn := hid (lowTo_next hlt (lowerC_no hcap))
        have hor : s[k].toNat < 65 ∨ 90 < s[k].toNat := by omega
        rcases hor with h | h
        all_goals
          go_wp2_with fail
          go_roundw
          case rel => exact ⟨k + 1, by omega, by go_num, Hn.out ▸ Hrow.out, Hw.out⟩
          case measure => simp [intOf]; omega
    · have hl : k = s.length := by omega
      have hrow2 := Hrow.out
      rw [hl, lowTo_all] at hrow2
      have hback := hrow2.back cap
      rw [show (lower s).length = s.length by simp [lower]] at hback
      clear hl hrow2
      go_wp2_with fail
      go_ret
      exact ⟨rfl, Hw.out⟩
set_option maxHeartbeats 400000 in
theorem ref01_Lower (s : Bytes) (w : World) (hs : s.length ≤ 9223372036854775807) :
    Calls Tryz.prog 86 #[(Value.string ⟨List.toArray (s)⟩)] w fun e w' => e = .returned (Value.string ⟨List.toArray (lower s)⟩) ∧ Below w.heap.size w w' := by
  obtain ⟨w1, cap, hconv, hrow, hw1⟩ := conv_bytes w s
  have Hrow := hid hrow
  have Hw1 := hid hw1
  clear hrow hw1
  go_enter Tryz.func86, Tryz.ntmps86
  go_wp2_with fail
  go_loopw [9] (fun i wr => ∃ k : Nat, k ≤ s.length ∧ i = .int .i64 k ∧ RowU8 wr w.heap.size (lowTo k s) ∧ Below w.heap.size w wr) (fun i _ => s.length - (intOf i).toNat)
  case atStart => exact ⟨0, by omega, rfl, by rw [lowTo_zero]; exact Hrow.out, Hw1.out⟩
  case round =>
    obtain ⟨k, hk, rfl, hrow, hw⟩ := hrel
    have Hrow := hid hrow
    have Hw := hid hw
    clear hconv hrow hw
    by_cases hlt : k < s.length
    · have hll := lowTo_length k s
      have hcell := Hrow.out.cell (k := k) (by omega)
      have hfz := Hrow.out.frozen (k := k) (by omega)
      rw [lowTo_get hlt] at hcell
      clear hll
      by_cases hcap : 65 ≤ s[k].toNat ∧ s[k].toNat ≤ 90
      · obtain ⟨hc1, hc2⟩ := hcap
        have hst := Hrow.out.set (k := k) (by rw [lowTo_length]; exact hlt) (lowerC s[k])
        rw [lowTo_set hlt, lowerC_cap hc1 hc2] at hst
        have Hst := hid hst
        clear hst
        go_wp2_with fail
        go_roundw
        case rel => exact ⟨k + 1, by omega, by go_num, Hst.out, Hw.out.setCell (p := ⟨w.heap.size, k, none⟩) (Nat.le_refl _) _⟩
        case measure => simp [intOf]; omega
      · have Hn := hid (lowTo_next hlt (lowerC_no hcap))
        have hor : s[k].toNat < 65 ∨ 90 < s[k].toNat := by omega
        rcases hor with h | h
        all_goals
          go_wp2_with fail
          go_roundw
          case rel => exact ⟨k + 1, by omega, by go_num, Hn.out ▸ Hrow.out, Hw.out⟩
          case measure => simp [intOf]; omega
    · have hl : k = s.length := by omega
      have hrow2 := Hrow.out
      rw [hl, lowTo_all] at hrow2
      have hback := hrow2.back cap
      rw [show (lower s).length = s.length by simp [lower]] at hback
      clear hl hrow2
      go_wp2_with fail
      go_ret
      exact ⟨rfl, Hw.out⟩

set_option maxHeartbeats 400000 in
theorem ascii_every (s : Bytes) (w : World) (hs : s.length ≤ 9223372036854775807) :
    Calls Tryz.prog 199 #[(Value.string ⟨List.toArray (s)⟩), .func (.func 144) #[] #[]] w fun e w' => e = .returned (.bool (s.all isDigit)) ∧ w = w' := by
  go_enter Tryz.func199, Tryz.ntmps199
  go_wp2_with fail
  go_loop [8] (fun i => ∃ k : Nat, k ≤ s.length ∧ i = .int .i64 k ∧ (s.take k).all isDigit = true) (fun i => s.length - (intOf i).toNat)
  case atStart => exact ⟨0, by omega, rfl, rfl⟩
  case round =>
    obtain ⟨k, hk, rfl, hall⟩ := hrel
    have Hall := hid hall
    clear hall
    by_cases hlt : k < s.length
    · cases hc : isDigit s[k]
      · have Ha := hid (all_not hlt hc)
        go_wp2_with (go_at_call 144; refine (ascii_IsDigit _ _).mono ?_; rintro e w' ⟨rfl, rfl⟩)
        go_ret
        exact ⟨ret_bool Ha.out.symm, rfl⟩
      · go_wp2_with (go_at_call 144; refine (ascii_IsDigit _ _).mono ?_; rintro e w' ⟨rfl, rfl⟩)
        go_round
        case rel => exact ⟨k + 1, by omega, by go_num, all_take_snoc hlt Hall.out hc⟩
        case measure => simp [intOf]; omega
    · have hall := Hall.out
      rw [List.take_of_length_le (by omega)] at hall
      have Ha := hid hall
      clear hall Hall
      go_wp2_with fail
      go_ret
      exact ⟨ret_bool Ha.out.symm, rfl⟩
set_option maxHeartbeats 400000 in
theorem ascii_Digits (s : Bytes) (w : World) (hs : s.length ≤ 9223372036854775807) :
    Calls Tryz.prog 179 #[(Value.string ⟨List.toArray (s)⟩)] w fun e w' => e = .returned (.bool (digitsOk s)) ∧ w = w' := by
  cases hn : s.isEmpty
  all_goals
    have Hd := hid (show digitsOk s = (!s.isEmpty && s.all isDigit) from rfl)
    rw [hn] at Hd
    go_enter Tryz.func179, Tryz.ntmps179
    go_wp2_with (go_at_call 199; refine (ascii_every _ _ hs).mono ?_; rintro e w' ⟨rfl, rfl⟩)
    go_ret
    exact ⟨ret_bool (by rw [Hd.out]; simp), rfl⟩
set_option maxHeartbeats 400000 in
theorem ref01_Digits (s : Bytes) (w : World) (hs : s.length ≤ 9223372036854775807) :
    Calls Tryz.prog 190 #[(Value.string ⟨List.toArray (s)⟩)] w fun e w' => e = .returned (.bool (digitsOk s)) ∧ w = w' := by
  go_enter Tryz.func190, Tryz.ntmps190
  go_wp2_with fail
  go_loop [3] (fun i => ∃ k : Nat, k ≤ s.length ∧ i = .int .i64 k ∧ (s.take k).all isDigit = true) (fun i => s.length - (intOf i).toNat)
  case atStart => exact ⟨0, by omega, rfl, rfl⟩
  case round =>
    obtain ⟨k, hk, rfl, hall⟩ := hrel
    have Hall := hid hall
    clear hall
    by_cases hlt : k < s.length
    · cases hc : isDigit s[k]
      · have Ha := hid (all_not hlt hc)
        go_wp2_with (go_at_call 96; refine (ref01_IsDigit _ _).mono ?_; rintro e w' ⟨rfl, rfl⟩)
        go_ret
        exact ⟨ret_bool (by unfold digitsOk; rw [Ha.out]; simp), rfl⟩
      · go_wp2_with (go_at_call 96; refine (ref01_IsDigit _ _).mono ?_; rintro e w' ⟨rfl, rfl⟩)
        go_round
        case rel => exact ⟨k + 1, by omega, by go_num, all_take_snoc hlt Hall.out hc⟩
        case measure => simp [intOf]; omega
    · have hall := Hall.out
      rw [List.take_of_length_le (by omega)] at hall
      have Ha := hid hall
      clear hall Hall
      go_wp2_with fail
      go_ret
      exact ⟨ret_bool (by unfold digitsOk; rw [Ha.out]; simp), rfl⟩
set_option maxHeartbeats 400000 in
theorem ref01_In (c : UInt8) (s : Bytes) (w : World) (hs : s.length ≤ 9223372036854775807) :
    Calls Tryz.prog 95 #[.int .u8 c.toNat, (Value.string ⟨List.toArray (s)⟩)] w fun e w' => e = .returned (.bool (has s c)) ∧ w = w' := by
  go_enter Tryz.func95, Tryz.ntmps95
  go_wp2_with fail
  go_loop [5] (fun i => ∃ k : Nat, k ≤ s.length ∧ i = .int .i64 k ∧ has (s.take k) c = false) (fun i => s.length - (intOf i).toNat)
  case atStart => exact ⟨0, by omega, rfl, rfl⟩
  case round =>
    obtain ⟨k, hk, rfl, hall⟩ := hrel
    have Hall := hid hall
    clear hall
    by_cases hlt : k < s.length
    · by_cases hc : s[k] = c
      · have hx : ((s[k].toNat : Int) == (c.toNat : Int)) = true := by simp [hc]
        have Ha := hid (show has s c = true by unfold has; rw [List.contains_iff_mem]; exact hc ▸ List.getElem_mem hlt)
        go_wp2_with fail
        go_ret
        exact ⟨ret_bool Ha.out.symm, rfl⟩
      · have hx : ((s[k].toNat : Int) == (c.toNat : Int)) = false := by
          rw [beq_eq_false_iff_ne]
          intro h
          exact hc (UInt8.toNat_inj.1 (by omega))
        go_wp2_with fail
        go_round
        case rel => exact ⟨k + 1, by omega, by go_num, by
          have := Hall.out
          unfold has at this ⊢
          rw [List.take_succ_eq_append_getElem hlt, List.contains_eq_any_beq, List.any_append, ← List.contains_eq_any_beq, this]
          simp
          exact fun h => hc h.symm⟩
        case measure => simp [intOf]; omega
    · have hall := Hall.out
      rw [List.take_of_length_le (by omega)] at hall
      have Ha := hid hall
      clear hall Hall
      go_wp2_with fail
      go_ret
      exact ⟨ret_bool Ha.out.symm, rfl⟩
set_option maxHeartbeats 400000 in
theorem ref01_Index (s t : Bytes) (w : World) (hs : s.length ≤ 9223372036854775807) (ht : t.length ≤ 9223372036854775807) :
    Calls Tryz.prog 50 #[(Value.string ⟨List.toArray (s)⟩), (Value.string ⟨List.toArray (t)⟩)] w fun e w' => e = .returned (.int .i64 (pre (has t ·) s)) ∧ w = w' := by
  have hle := pre_le (has t ·) s
  go_enter Tryz.func50, Tryz.ntmps50
  go_wp2_with fail
  go_loop [5] (fun i => ∃ k : Nat, k ≤ pre (has t ·) s ∧ i = .int .i64 k) (fun i => s.length - (intOf i).toNat)
  case atStart => exact ⟨0, by omega, rfl⟩
  case round =>
    obtain ⟨k, hk, rfl⟩ := hrel
    by_cases hlt : k < pre (has t ·) s
    · have hc := pre_get hlt (by omega)
      go_wp2_with (go_at_call 95; refine (ref01_In _ _ _ ht).mono ?_; rintro e w' ⟨rfl, rfl⟩)
      go_round
      case rel => exact ⟨k + 1, by omega, by go_num⟩
      case measure => simp [intOf]; omega
    · obtain rfl : k = pre (has t ·) s := by omega
      clear hk hlt
      by_cases hend : pre (has t ·) s < s.length
      · have hc := pre_at hend
        go_wp2_with (go_at_call 95; refine (ref01_In _ _ _ ht).mono ?_; rintro e w' ⟨rfl, rfl⟩)
        go_ret
        exact ⟨rfl, rfl⟩
      · have he := hid (show pre (has t ·) s = s.length by omega)
        go_wp2_with fail
        go_ret
        exact ⟨ret_int (by rw [he.out]), rfl⟩
end Go.Proofs.YtcndmooeglfilaaGreatDoor
/- The library's contracts on strings, for the calculus of conditions. -/
set_option linter.all false
namespace Go.Proofs.YtcndmooeglfilaaGreatDoor
open Go Vc Go.RowKit Wf
theorem below_draws {w w' : World} (h : ∃ n, w' = w.drewN n) : Below w.heap.size w w' := by
  obtain ⟨n, rfl⟩ := h
  exact below_drewN (Below.refl _ _) _
theorem below_same {w w' : World} (h : w = w') : Below w.heap.size w w' := by subst h; exact Below.refl _ _
theorem p_IndexByte (l : Bytes) (c : UInt8) : PC Tryz.V 141 [.str l, .int .u8 c.toNat] (.int .i64 (Lib.indexByte l c)) :=
  ⟨Tryz.call141, by simp [flat, flat.flatL], by simp [flat, flat.flatL], fun w hE => (s_IndexByte l c w).mono fun _ _ ⟨h, k⟩ => ⟨h, below_same k⟩⟩
theorem p_HasPrefix (l p : Bytes) : PC Tryz.V 186 [.str l, .str p] (.bool (Lib.hasPrefix l p)) :=
  ⟨Tryz.call186, by simp [flat, flat.flatL], by simp [flat, flat.flatL], fun w hE => (s_HasPrefix l p w).mono fun _ _ ⟨h, k⟩ => ⟨h, below_same k⟩⟩
theorem p_CutPrefix (l p : Bytes) : PC Tryz.V 107 [.str l, .str p] (.tup [.str (Lib.trimPrefix l p), .bool (Lib.hasPrefix l p)]) :=
  ⟨Tryz.call107, by simp [flat, flat.flatL], by simp [flat, flat.flatL], fun w hE => (s_CutPrefix l p w).mono fun _ _ ⟨h, k⟩ => ⟨h, below_same k⟩⟩
theorem p_TrimPrefix (l p : Bytes) : PC Tryz.V 187 [.str l, .str p] (.str (Lib.trimPrefix l p)) :=
  ⟨Tryz.call187, by simp [flat, flat.flatL], by simp [flat, flat.flatL], fun w hE => (s_TrimPrefix l p w).mono fun _ _ ⟨h, k⟩ => ⟨h, below_same k⟩⟩
theorem p_Cut (l : Bytes) (c : UInt8) (hl : l.length < 4294967281) : PC Tryz.V 62 [.str l, .str [c]] (.tup [.str (cutC c l).1, .str (cutC c l).2.1, .bool (cutC c l).2.2]) :=
  ⟨Tryz.call62, by simp [flat, flat.flatL], by simp [flat, flat.flatL], fun w hE => (s_Cut l c w hE hl).mono fun _ _ ⟨h, k⟩ => ⟨h, below_draws k⟩⟩
theorem p_IndexAny (s l : Bytes) (ha : ∀ i (h : i < l.length), l[i].toNat < 128) (hl : l.length ≤ 1000000) (h2 : 2 ≤ l.length) (hs : s.length < 4294967281) :
    PC Tryz.V 154 [.str s, .str l] (.int .i64 (Lib.indexAny s l)) :=
  ⟨Tryz.call154, by simp [flat, flat.flatL], by simp [flat, flat.flatL], fun w hE => strings_IndexAny s l w ha hl h2 hs⟩
def lastB (s : Bytes) (c : UInt8) : Int := Lib.lastIndexByte ⟨List.toArray s⟩ c.toNat
theorem lastB_eq (s : Bytes) (c : UInt8) : lastB s c = ((s.reverse.dropWhile (· != c)).length : Int) - 1 := by
  have h : ∀ k, k ≤ s.length → Lib.lastIdx ⟨List.toArray s⟩ c.toNat k = (((s.take k).reverse.dropWhile (· != c)).length : Int) - 1 := by
    intro k
    induction k with
    | zero => intro _; simp [Lib.lastIdx]
    | succ k ih =>
      intro hk
      have hk' : k < s.length := by omega
      have e : (⟨List.toArray s⟩ : ByteArray).data[k]! = s[k] := by simp [hk']
      rw [List.take_succ_eq_append_getElem hk', List.reverse_append, List.reverse_singleton, List.singleton_append, Lib.lastIdx, e]
      by_cases hc : s[k] = c
      · rw [if_pos (by rw [hc]), List.dropWhile_cons_of_neg (by simp [hc])]
        simp
        omega
      · rw [if_neg (fun h => hc (UInt8.toNat_inj.1 (by exact_mod_cast h))), List.dropWhile_cons_of_pos (by simp [hc]), ih (by omega)]
  have := h s.length (Nat.le_refl _)
  rw [List.take_length] at this
  exact this
theorem p_LastIndexByte (s : Bytes) (c : UInt8) (hs : s.length < 4611686018427387904) : PC Tryz.V 188 [.str s, .int .u8 c.toNat] (.int .i64 (lastB s c)) :=
  ⟨Tryz.call188, by simp [flat, flat.flatL], by simp [flat, flat.flatL], fun w hE => (Tryz.strings_LastIndexByte ⟨List.toArray s⟩ c.toNat hs w).mono fun _ _ ⟨h, k⟩ => ⟨h, below_same k.symm⟩⟩
theorem hp_no {p q : Bytes} (h : Lib.hasPrefix p q = false) : ¬ (q.isPrefixOf p = true) := by unfold Lib.hasPrefix at h; simp [h]
theorem hp_len {p q : Bytes} (h : Lib.hasPrefix p q = true) : q.length ≤ p.length := (List.isPrefixOf_iff_prefix.1 h).length_le
theorem trim_len (s p : Bytes) : (Lib.trimPrefix s p).length ≤ s.length := by
  unfold Lib.trimPrefix; split <;> simp
theorem byte_is {s : Bytes} {k : Nat} (hk : k < s.length) (c : UInt8) {n : Int} (hn : n = c.toNat) : (((s.getD k 0).toNat : Int) == n) = (s[k] == c) := by
  subst hn
  rw [show s.getD k 0 = s[k] by simp [List.getD, hk], Bool.eq_iff_iff]
  simp only [beq_iff_eq]
  exact ⟨fun h => UInt8.toNat_inj.1 (by exact_mod_cast h), fun h => by rw [h]⟩
theorem one_u8 (l : Bytes) : (l.map u8S).all Vc.one = true := by simp [u8S, Vc.one]
end Go.Proofs.YtcndmooeglfilaaGreatDoor
/- Builders: the contracts on their methods. -/
set_option linter.all false
set_option maxRecDepth 20000
namespace Go.Proofs.YtcndmooeglfilaaGreatDoor
open Go Vc Go.RowKit Wf
set_option linter.unusedSimpArgs false
theorem sc_copyCheck {bs : List Res} {i : Nat} {x y : SV} (hi : bs[i]? = some (.cells [x, y] 125 true)) (hx : x = .v (.pointer none) ∨ x = .p i 0) :
    SC Tryz.V 140 [.p i 0] bs (fun r bs' => r = .tup [] ∧ bs' = bs.set i (.cells [.p i 0, y] 125 true)) := by
  have hil : i < bs.length := (List.getElem?_eq_some_iff.1 hi).1
  refine sc_direct hi rfl Tryz.call140 rfl (fun β fp w hE hh => ?_)
  obtain ⟨h0, ⟨rest, fz, hd, rfl⟩, h3⟩ := hh β (Agr.refl _ _)
  have ea : (concL β [.p i 0]).toArray = #[.pointer (some ⟨(β i).blk, 0, none⟩)] := by simp [concL, conc, h0]
  rw [ea]
  have hc0 : w.cell? ⟨(β i).blk, 0, none⟩ = some (conc β x) := hd.lies 0 _ (by simp)
  rcases hx with rfl | rfl
  · have hsz := hd.1
    have hfz := hd.2
    refine (Any.Builder_copyCheck_fresh { Tryz.lay166 with } Tryz.extra166.toX72 (β i).blk w hc0 ?_ ?_).mono ?_
    · simp [World.shape?, hsz]
      rfl
    · simp [World.frozen?, hsz]
      simp at hfz
      omega
    · rintro e w' ⟨rfl, rfl⟩
      refine ⟨rfl, ?_, fp i, fun k hk => hk, fun β' hβ => ?_⟩
      · exact ⟨rfl, rfl, rfl, by simp [World.setCell], fun k _ hn => Below.heap_setCell _ _ _ _ (fun e => hn ((h3 k).2 e))⟩
      · have hb := hβ i hil
        obtain ⟨k0, ⟨rest, fz', hd', rfl⟩, k3⟩ := hh β' hβ
        refine ⟨k0, ⟨[], fz', ⟨?_, by simpa using hd'.2⟩, rfl⟩, k3⟩
        rw [hb, heap_set hd'.1]
        simp [conc, k0]
  · refine (Any.Builder_copyCheck_used { Tryz.lay166 with } Tryz.extra166.toX72 (β i).blk w ?_).mono ?_
    · rw [hc0]; simp [conc, h0]
    · rintro e w' ⟨rfl, rfl⟩
      exact ⟨rfl, FrW.refl _ _, fp i, fun k hk => hk, hh⟩
theorem w_WriteString {bs : List Res} {i j : Nat} {x : SV} {l s : Bytes} (hi : bs[i]? = some (.cells [x, .o j l.length] 125 true)) (hx : x = .v (.pointer none) ∨ x = .p i 0) (hj : bs[j]? = some (.own (l.map u8S) 5 1 l.length true)) (hij : i ≠ j) (hlen : l.length + s.length ≤ 140737488355328) :
    SC Tryz.V 101 [.p i 0, .str s] bs (fun r bs' => r = .tup [.int .i64 s.length, .v .nilIface] ∧ bs'[i]? = some (.cells [.p i 0, .o bs.length (l ++ s).length] 125 true) ∧ bs'[bs.length]? = some (.own ((l ++ s).map u8S) 5 1 (l ++ s).length true) ∧ ∀ k, k < bs.length → k ≠ i → k ≠ j → bs'[k]? = bs[k]?) := by
  have hil : i < bs.length := (List.getElem?_eq_some_iff.1 hi).1
  refine sc_of 3000 Tryz.func101 rfl Tryz.ntmps101 Tryz.results101 Tryz.call101 (by simp) (fun β β' hb => concL_within bs.length _ (by simp [within, within.withinL, hil]) β β' hb) ?_
  simp only [vcS, ↓Xn, ↓Xo, ↓Xg, ↓Xd, ↓Xe, ↓Xf, XQ, XG, gvU, setR, orN, Yl, Xm, Yn, Yi, Xa, Ym, Xc, Xc.sizeIs, reS, Xj, Yb, mmS, Xq, dstS, srcS, XP, XN, XO, Yc, XA, Yg, Xy, XE, endV, gdst, Yk, XR, Yd, goR, XC, sBox, XU, XH, Xr, sNil, XL, Xt, XV, Xv, goD, valD, XI, XF, XB, dNil, XK, XD, dBox, dN, Xz, opL, idxs, pv, XX, Ya, XJ, Xb, Xu, oBin, oUn, Ye, XW, Xw, Xx, Xh, Xk, XY, XS, oLen, lenS, Yh, ev, lk, Vc.put, fits, kd, sz, Tryz.VΓ, Tryz.Γs, bin, binI, binS, ifK, ar, eqB, eqS, eqK, eqK.eqF, negB, bnds, optE, XM, Vc.cells, isV, Vc.one, Xs, getB, setB, XZ, Xp, Xi, Yf, Xl, XT, resS, tupS, ofV, Yj, Nat.reduceAdd, Nat.reduceSub, Nat.reduceLT, Nat.reduceLeDiff, reduceIte, reduceCtorEq, Nat.reduceEqDiff, implies_true, forall_const, lawV]
  refine callV_sc (sc_copyCheck hi hx) ?_
  rintro r bs1 ⟨rfl, rfl⟩
  have h1 : (bs.set i (.cells [.p i 0, .o j l.length] 125 true))[i]? = some (.cells [.p i 0, .o j l.length] 125 true) := List.getElem?_set_self hil
  have h2 : (bs.set i (.cells [.p i 0, .o j l.length] 125 true))[j]? = some (.own (l.map u8S) 5 1 l.length true) := by rw [List.getElem?_set_ne hij]; exact hj
  have h3 : ∀ k, k ≠ i → (bs.set i (.cells [.p i 0, .o j l.length] 125 true))[k]? = bs[k]? := fun k hk => List.getElem?_set_ne (fun e => hk e.symm)
  have h4 : (bs.set i (.cells [.p i 0, .o j l.length] 125 true)).length = bs.length := List.length_set ..
  generalize bs.set i (.cells [.p i 0, .o j l.length] 125 true) = bs1 at h1 h2 h3 h4 ⊢
  have h5 : ∀ X, (bs1.set j .gone ++ [X])[i]? = some (.cells [.p i 0, .o j l.length] 125 true) := fun X => by
    rw [List.getElem?_append_left (by simp; omega), List.getElem?_set_ne (fun e => hij e.symm)]; exact h1
  simp only [vcS, ↓Xn, ↓Xo, ↓Xg, ↓Xd, ↓Xe, ↓Xf, XQ, XG, gvU, setR, orN, Yl, Xm, Yn, Yi, Xa, Ym, Xc, Xc.sizeIs, reS, Xj, Yb, mmS, Xq, dstS, srcS, XP, XN, XO, Yc, XA, Yg, Xy, XE, endV, gdst, Yk, XR, Yd, goR, XC, sBox, XU, XH, Xr, sNil, XL, Xt, XV, Xv, goD, valD, XI, XF, XB, dNil, XK, XD, dBox, dN, Xz, opL, idxs, pv, XX, Ya, XJ, Xb, Xu, oBin, oUn, Ye, XW, Xw, Xx, Xh, Xk, XY, XS, oLen, lenS, Yh, ev, lk, Vc.put, fits, kd, sz, Tryz.VΓ, Tryz.Γs, bin, binI, binS, ifK, ar, eqB, eqS, eqK, eqK.eqF, negB, bnds, optE, XM, Vc.cells, isV, Vc.one, Xs, getB, setB, XZ, Xp, Xi, Yf, Xl, XT, resS, tupS, ofV, Yj, Nat.reduceAdd, Nat.reduceSub, Nat.reduceLT, Nat.reduceLeDiff, reduceIte, reduceCtorEq, Nat.reduceEqDiff, implies_true, forall_const, lawV, h1, h2, h5]
  refine ⟨⟨one_u8 _, by unfold maxLen; omega, by omega⟩, ?_, ?_, fun k hk hki hkj => ?_⟩
  · rw [List.getElem?_set_self (by simp; omega), h4, List.length_append]
  · rw [List.getElem?_set_ne (by omega), List.getElem?_append_right (by simp; omega)]
    simp [h4]
  · rw [List.getElem?_set_ne (fun e => hki e.symm), List.getElem?_append_left (by simp; omega), List.getElem?_set_ne (fun e => hkj e.symm), h3 k hki]
theorem sc_WriteString {bs : List Res} {i : Nat} {l s : Bytes} (hi : bs[i]? = some (.ext (BldR 125 5 l))) (hlen : l.length + s.length ≤ 140737488355328) :
    SC Tryz.V 101 [.p i 0, .str s] bs (fun r bs' => r = .tup [.int .i64 s.length, .v .nilIface] ∧ bs' = bs.set i (.ext (BldR 125 5 (l ++ s)))) := by
  have hil : i < bs.length := (List.getElem?_eq_some_iff.1 hi).1
  refine sc_open (R' := fun r bs' => r = .tup [.int .i64 s.length, .v .nilIface] ∧ bs'[i]? = some (.cells [.p i 0, .o (bs.length + 1) (l ++ s).length] 125 true) ∧ bs'[bs.length + 1]? = some (.own ((l ++ s).map u8S) 5 1 (l ++ s).length true) ∧ ∀ k, k < bs.length → k ≠ i → bs'[k]? = bs[k]?) hi (fun x hx => (w_WriteString (j := bs.length) (l := l) (s := s) ?_ hx ?_ (by omega) hlen).mono ?_) ?_ (by simp [within, within.withinL, hil])
  · rw [List.getElem?_append_left (by simpa using hil), List.getElem?_set_self hil]
  · rw [List.getElem?_append_right (by simp)]; simp
  · rintro r bs' ⟨rfl, h1, h2, h3⟩
    simp only [List.length_append, List.length_set, List.length_cons, List.length_nil] at h1 h2 h3
    refine ⟨rfl, by simpa using h1, by simpa using h2, fun k hk hki => ?_⟩
    rw [h3 k (by omega) hki (by omega), List.getElem?_append_left (by simpa using hk), List.getElem?_set_ne (fun e => hki e.symm)]
  · rintro r bs' ⟨rfl, h1, h2, h3⟩
    exact ⟨.p i 0, bs.length + 1, l ++ s, rfl, .inr rfl, ⟨rfl, rfl⟩, h1, h2, by omega, h3⟩
set_option maxHeartbeats 4000000 in
set_option maxRecDepth 100000 in
theorem x_String {b : Nat} {p : Value} {t2 : Bt} {f2 : Nat → Prop} {l : Bytes} {w : World} {fz : Nat × Nat} (hd : Head w b 125 [p, oV t2 l.length] [] fz) (hr : Holds bt0 t2 f2 w (.own (l.map u8S) 5 1 l.length true)) :
    Calls Tryz.prog 102 #[.pointer (some ⟨b, 0, none⟩)] w fun e w' => e = .returned (Value.string ⟨List.toArray (l)⟩) ∧ FrW f2 w w' := by
  have mixed : Tryz.prog.follows .mixedOrders = true := by kernel_rfl
  have hb : w.heap[b]? = some (.cells #[p, oV t2 l.length] 125 fz) := by simpa using hd.1
  have hdr : FrW f2 w w.drew := ⟨rfl, rfl, rfl, Nat.le_refl _, fun _ _ _ => rfl⟩
  have hUN : ∀ (W : World) (q : Option Addr), (Builtin.unsafeString_ #[144, 3] 9 #[.pointer q, .int .i64 0]).run Tryz.prog W = .ok (.string .empty) W := fun W q => Lib.run_unsafeString_none W _ _ _ q
  have hcell : ∀ (W : World), W.heap[b]? = w.heap[b]? → W.cell? ⟨b, 1, none⟩ = some (oV t2 l.length) := fun W hW => by
    rw [Lib.cell_of_heap (hW.trans hb)]; rfl
  rcases hr with ⟨h1, h2, h3, h4⟩ | ⟨h1, h2, h3, h4, h5, h6, h7⟩
  · have hl : l = [] := by simpa using h3
    subst hl
    have hv : oV t2 ([] : Bytes).length = .slice none 0 0 := by simp [oV, h1]
    rw [hv] at hb hcell
    have c1 : w.drew.cell? ⟨b, 1, none⟩ = some (.slice none 0 0) := hcell _ rfl
    have hSD : (Builtin.unsafeSliceData_ #[118] 144 #[.slice none 0 0]).run Tryz.prog w.drew = .ok (.pointer none) w.drew := rfl
    go_enter Tryz.func102, Tryz.ntmps102
    go_wp2
    go_region_o
    all_goals (go_wp2; go_ret; exact ⟨rfl, hdr⟩)
  · obtain ⟨h8, rest, fr, h9, h10, h11⟩ := h6 rfl
    obtain ⟨blk, off, cap⟩ := t2
    simp only at h1 h2 h3 h8 h9 h11 h7
    subst h8
    obtain ⟨cap, rfl⟩ : ∃ c, cap = c + 1 := ⟨cap - 1, by omega⟩
    have hv : oV ⟨blk, 0, cap + 1⟩ l.length = .slice (some ⟨blk, 0, none⟩) l.length cap := by simp [oV]
    rw [hv] at hb hcell
    have hg : w.heap[blk]? = some (.cells ((l.map u8S).map (conc bt0) ++ rest).toArray 5 fr) := h9.1
    have hsz : ((l.map u8S).map (conc bt0) ++ rest).toArray.size = cap := by
      simp at h11 ⊢; omega
    by_cases hl : l = []
    · subst hl
      simp only [List.map_nil, List.nil_append, List.length_nil] at hb hcell hg hsz
      have c1 : w.drew.cell? ⟨b, 1, none⟩ = some (.slice (some ⟨blk, 0, none⟩) 0 cap) := hcell _ rfl
      by_cases hc : cap = 0
      · subst hc
        have hbl : b < w.heap.size := (Array.getElem?_eq_some_iff.1 hb).1
        have hSD : (Builtin.unsafeSliceData_ #[118] 144 #[.slice (some ⟨blk, 0, none⟩) 0 0]).run Tryz.prog w.drew = .ok (.pointer (some ⟨w.drew.heap.size, 0, none⟩)) (w.drew.alloc (.view ⟨blk, 0, none⟩ 5)) :=
          Lib.run_unsafeSliceData_zero w.drew _ _ 5 Tryz.underlying144 ⟨blk, 0, none⟩ 0 (5, rest.toArray.size) (by have hg' : w.drew.heap[blk]? = _ := hg; simp [World.shape?, hg'])
        have c2 : (w.drew.alloc (.view ⟨blk, 0, none⟩ 5)).cell? ⟨b, 1, none⟩ = some (.slice (some ⟨blk, 0, none⟩) 0 0) := hcell _ (Lib.alloc_old w.drew _ b hbl)
        have c3 : (w.alloc (.view ⟨blk, 0, none⟩ 5)).drew.cell? ⟨b, 1, none⟩ = some (.slice (some ⟨blk, 0, none⟩) 0 0) := c2
        have c0 : w.cell? ⟨b, 1, none⟩ = some (.slice (some ⟨blk, 0, none⟩) 0 0) := c1
        have hfin : FrW f2 w (w.drew.alloc (.view ⟨blk, 0, none⟩ 5)) := ⟨rfl, rfl, rfl, by simp, fun k hk _ => Lib.alloc_old w.drew _ k hk⟩
        go_enter Tryz.func102, Tryz.ntmps102
        go_wp2
        go_region_o
        all_goals (go_wp2; go_ret; exact ⟨rfl, hfin⟩)
      · have hSD : (Builtin.unsafeSliceData_ #[118] 144 #[.slice (some ⟨blk, 0, none⟩) 0 cap]).run Tryz.prog w.drew = .ok (.pointer (some ⟨blk, 0, none⟩)) w.drew :=
          Lib.run_unsafeSliceData_row _ _ _ _ _ _ hc
        clear hc
        go_enter Tryz.func102, Tryz.ntmps102
        go_wp2
        go_region_o
        all_goals (go_wp2; go_ret; exact ⟨rfl, hdr⟩)
    · have hl0 : l.length ≠ 0 := by simpa using hl
      have c1 : w.drew.cell? ⟨b, 1, none⟩ = some (.slice (some ⟨blk, 0, none⟩) l.length cap) := hcell _ rfl
      have hSD : (Builtin.unsafeSliceData_ #[118] 144 #[.slice (some ⟨blk, 0, none⟩) l.length cap]).run Tryz.prog w.drew = .ok (.pointer (some ⟨blk, 0, none⟩)) w.drew :=
        Lib.run_unsafeSliceData_row _ _ _ _ _ _ (by omega)
      have hUS : (Builtin.unsafeString_ #[144, 3] 9 #[.pointer (some ⟨blk, 0, none⟩), .int .i64 l.length]).run Tryz.prog w.drew = .ok (Value.string ⟨List.toArray (l)⟩) (w.drew.freeze ⟨blk, 0, none⟩ l.length) := by
        refine Lib.run_unsafeString_row w.drew 144 3 9 5 Tryz.underlying144 Tryz.extra166.cellsByte blk cap (by have hg' : w.drew.heap[blk]? = _ := hg; simp only [World.shape?, hg']; simp only [hsz]) l hl (by omega) (by unfold maxLen at h3; omega) ?_
        intro j x hx
        have := h5 j (conc bt0 (u8S x)) (by simp [hx])
        rw [addr_plus]
        simpa [u8S, conc] using this
      have hfin : FrW f2 w (w.drew.freeze ⟨blk, 0, none⟩ l.length) := by
        unfold World.freeze
        split
        · exact hdr
        · refine ⟨rfl, rfl, rfl, by simp, fun k hk hn => ?_⟩
          have hne : k ≠ blk := fun e => hn ((h7 k).2 e)
          simp only [Array.getElem?_modify]
          rw [if_neg (fun e => hne e.symm)]
          rfl
      go_enter Tryz.func102, Tryz.ntmps102
      go_wp2
      go_region_o
      all_goals (go_wp2; go_ret; exact ⟨rfl, hfin⟩)
theorem sc_String {bs : List Res} {i : Nat} {l : Bytes} (hi : bs[i]? = some (.ext (BldR 125 5 l))) :
    SC Tryz.V 102 [.p i 0] bs (fun r bs' => r = .str l ∧ bs' = bs.set i .gone) := by
  refine sc_direct hi rfl Tryz.call102 rfl (fun β fp w hE hh => ?_)
  obtain ⟨h0, p, t2, f2, hp, ⟨fz, hd⟩, h3, h4, h5⟩ := hh β (Agr.refl _ _)
  have ea : (concL β [.p i 0]).toArray = #[.pointer (some ⟨(β i).blk, 0, none⟩)] := by simp [concL, conc, h0]
  rw [ea]
  refine (x_String hd h3).mono ?_
  rintro e w' ⟨rfl, hf⟩
  exact ⟨rfl, hf.mono (fun k hk => (h5 k).2 (.inr hk)), fun _ => False, fun _ h => h.elim, fun _ _ _ h => h⟩
end Go.Proofs.YtcndmooeglfilaaGreatDoor
/- Builders with a text, perhaps not yet written to; strings.Split. -/
set_option linter.all false
set_option maxRecDepth 20000
namespace Go.Proofs.YtcndmooeglfilaaGreatDoor
open Go Vc Go.RowKit Wf
set_option linter.unusedSimpArgs false
theorem flat_strs : ∀ L : List Bytes, flat.flatL (L.map SV.str) = true
  | [] => by simp [flat.flatL]
  | x :: L => by simp [flat.flatL, flat, flat_strs L]
theorem sc_strSplit {bs : List Res} (s sep : Bytes) (L : List Bytes) (hL : Lib.splitK sep 0 (Lib.count s sep) s = L) (hs : s.length ≤ 1100000) (hp : 1 ≤ sep.length) :
    SC Tryz.V 56 [.str s, .str sep] bs (fun r b => r = .o bs.length L.length ∧ b = bs ++ [.own (L.map SV.str) 9 1 L.length true]) := by
  have hd := Lib.splitB_data ⟨List.toArray sep⟩ 0 (Lib.countB ⟨List.toArray s⟩ ⟨List.toArray sep⟩) ⟨List.toArray s⟩
  have hlen := Lib.splitB_all ⟨List.toArray sep⟩ hp 0 _ ⟨List.toArray s⟩ rfl
  have hle := Lib.countB_le ⟨List.toArray sep⟩ hp s.length ⟨List.toArray s⟩ (Nat.le_refl _)
  have hz : (⟨List.toArray s⟩ : ByteArray).size = s.length := rfl
  have hcl : Lib.countB ⟨List.toArray s⟩ ⟨List.toArray sep⟩ + 1 = L.length := by
    rw [← hlen, ← hL]
    have := congrArg List.length hd
    rw [List.length_map] at this
    exact this
  have e : (Lib.splitB ⟨List.toArray sep⟩ 0 (Lib.countB ⟨List.toArray s⟩ ⟨List.toArray sep⟩) ⟨List.toArray s⟩).map Value.string = L.map strV := by
    rw [← hL]
    refine Eq.trans ?_ (congrArg (List.map strV) hd)
    rw [List.map_map]
    exact List.map_congr_left fun x _ => rfl
  refine (sc_row (V := Tryz.V) (c := L.map SV.str) (T := 9) Tryz.call56 (by simp [flat, flat.flatL]) ?_ ?_ fun w ⟨m, hm⟩ => ?_).mono ?_
  · exact flat_strs L
  · unfold maxLen; rw [List.length_map]; omega
  · refine (Tryz.strings_Split ⟨List.toArray s⟩ ⟨List.toArray sep⟩ m w (show s.length < 4294967281 by omega) hm hp).mono fun _ _ ⟨h, k⟩ => ⟨?_, ?_⟩
    · rw [h, hcl, List.length_map]
    · rw [k, e]
      congr 2
      rw [concL_map, List.map_map]
      exact congrArg List.toArray (List.map_congr_left fun x _ => rfl)
  · rintro r b ⟨h1, h2⟩
    rw [List.length_map] at h1 h2
    exact ⟨h1, h2⟩
def BAt (i : Nat) (l : Bytes) (b : List Res) : Prop := b[i]? = some (.ext (BldR 125 5 l)) ∨ (l = [] ∧ b[i]? = some (.cells [.v (.pointer none), .nils] 125 true))
theorem BAt.lt {i : Nat} {l : Bytes} {b : List Res} (h : BAt i l b) : i < b.length := by
  rcases h with h | ⟨-, h⟩ <;> exact (List.getElem?_eq_some_iff.1 h).1
theorem BAt.set {i : Nat} {l m : Bytes} {b : List Res} (h : BAt i l b) : BAt i m (b.set i (.ext (BldR 125 5 m))) := .inl (List.getElem?_set_self h.lt)
theorem set_same {α : Type} {b : List α} {i : Nat} {x : α} (h : b[i]? = some x) : b.set i x = b := by
  apply List.ext_getElem?
  intro k
  by_cases hk : k = i
  · subst hk; rw [List.getElem?_set_self (List.getElem?_eq_some_iff.1 h).1, h]
  · rw [List.getElem?_set_ne (fun e => hk e.symm)]
theorem sc_WS {bs : List Res} {i : Nat} {l s : Bytes} (h : BAt i l bs) (hlen : l.length + s.length ≤ 140737488355328) :
    SC Tryz.V 101 [.p i 0, .str s] bs (fun r bs' => r = .tup [.int .i64 s.length, .v .nilIface] ∧ bs' = bs.set i (.ext (BldR 125 5 (l ++ s)))) := by
  rcases h with h | ⟨rfl, h⟩
  · exact sc_WriteString h hlen
  · refine sc_fresh h ((sc_WriteString (l := []) (List.getElem?_set_self (List.getElem?_eq_some_iff.1 h).1) hlen).mono ?_)
    rintro r b ⟨h1, h2⟩
    exact ⟨h1, by rw [h2, List.set_set]⟩
theorem sc_Str {bs : List Res} {i : Nat} {l : Bytes} (h : BAt i l bs) :
    SC Tryz.V 102 [.p i 0] bs (fun r bs' => r = .str l ∧ bs' = bs.set i .gone) := by
  rcases h with h | ⟨rfl, h⟩
  · exact sc_String h
  · refine sc_fresh h ((sc_String (l := []) (List.getElem?_set_self (List.getElem?_eq_some_iff.1 h).1)).mono ?_)
    rintro r b ⟨h1, h2⟩
    exact ⟨h1, by rw [h2, List.set_set]⟩
end Go.Proofs.YtcndmooeglfilaaGreatDoor
/- The walks of package percent, and of the classes of bytes that it uses. -/
set_option linter.all false
set_option maxRecDepth 20000
namespace Go.Proofs.YtcndmooeglfilaaGreatDoor
open Go Vc Go.RowKit Wf
theorem p_IsAlpha (c : UInt8) : PC Tryz.V 185 [.int .u8 c.toNat] (.bool (isAlpha c)) :=
  ⟨Tryz.call185, by simp [flat, flat.flatL], by simp [flat, flat.flatL], fun w _ => (ascii_IsAlpha c w).mono fun _ _ ⟨h, k⟩ => ⟨h, below_same k⟩⟩
theorem p_IsDigit (c : UInt8) : PC Tryz.V 144 [.int .u8 c.toNat] (.bool (isDigit c)) :=
  ⟨Tryz.call144, by simp [flat, flat.flatL], by simp [flat, flat.flatL], fun w _ => (ascii_IsDigit c w).mono fun _ _ ⟨h, k⟩ => ⟨h, below_same k⟩⟩
theorem p_IsHex (c : UInt8) : PC Tryz.V 149 [.int .u8 c.toNat] (.bool (isHex c)) :=
  ⟨Tryz.call149, by simp [flat, flat.flatL], by simp [flat, flat.flatL], fun w _ => (ascii_IsHex c w).mono fun _ _ ⟨h, k⟩ => ⟨h, below_same k⟩⟩
theorem idx_geq (set : Bytes) (c : UInt8) : decide (0 ≤ Lib.indexByte set c) = set.contains c := by
  rw [indexByte_pre]
  by_cases h : pre (· == c) set < set.length
  · rw [if_pos h]
    have := pre_at (p := (· == c)) h
    simp only [beq_iff_eq] at this
    simp only [Int.natCast_nonneg, decide_true]
    symm
    rw [List.contains_iff_mem, ← this]
    exact List.getElem_mem h
  · rw [if_neg h]
    simp only [show ¬ (0 : Int) ≤ -1 by omega, decide_false]
    symm
    rw [← Bool.not_eq_true, List.contains_iff_mem]
    intro hm
    obtain ⟨k, hk, rfl⟩ := List.getElem_of_mem hm
    have h2 := pre_le (· == set[k]) set
    have := pre_get (p := (· == set[k])) (l := set) (k := k) (by omega) hk
    simp at this
theorem p_among (c : UInt8) (set : Bytes) : PC Tryz.V 162 [.int .u8 c.toNat, .str set] (.bool (set.contains c)) := by
  refine pc_of 3000 Tryz.func162 rfl Tryz.ntmps162 Tryz.results162 Tryz.call162 (by simp) (by simp [flat, flat.flatL]) (by simp [flat, flat.flatL]) ?_
  simp only [vcS, ↓Xn, ↓Xo, ↓Xg, ↓Xd, ↓Xe, ↓Xf, XQ, XG, gvU, setR, orN, Yl, Xm, Yn, Yi, Xa, Ym, Xc, Xc.sizeIs, reS, Xj, Yb, mmS, Xq, dstS, srcS, XP, XN, XO, Yc, XA, Yg, Xy, XE, endV, gdst, Yk, XR, Yd, goR, XC, sBox, XU, XH, Xr, sNil, XL, Xt, XV, Xv, goD, valD, XI, XF, XB, dNil, XK, XD, dBox, dN, Xz, opL, idxs, pv, XX, Ya, XJ, Xb, Xu, oBin, oUn, Ye, XW, Xw, Xx, Xh, Xk, XY, XS, oLen, lenS, Yh, ev, lk, Vc.put, fits, kd, sz, Tryz.VΓ, Tryz.Γs, bin, binI, binS, ifK, ar, eqB, eqS, eqK, eqK.eqF, negB, bnds, optE, XM, Vc.cells, isV, Vc.one, Xs, getB, setB, XZ, Xp, Xi, Yf, Xl, XT, resS, tupS, ofV, Yj, Nat.reduceAdd, Nat.reduceSub, Nat.reduceLT, Nat.reduceLeDiff, reduceIte, reduceCtorEq, Nat.reduceEqDiff, implies_true, forall_const, lawV]
  (refine callV_pc (p_IndexByte set c) ?_; simp only [vcS, ↓Xn, ↓Xo, ↓Xg, ↓Xd, ↓Xe, ↓Xf, XQ, XG, gvU, setR, orN, Yl, Xm, Yn, Yi, Xa, Ym, Xc, Xc.sizeIs, reS, Xj, Yb, mmS, Xq, dstS, srcS, XP, XN, XO, Yc, XA, Yg, Xy, XE, endV, gdst, Yk, XR, Yd, goR, XC, sBox, XU, XH, Xr, sNil, XL, Xt, XV, Xv, goD, valD, XI, XF, XB, dNil, XK, XD, dBox, dN, Xz, opL, idxs, pv, XX, Ya, XJ, Xb, Xu, oBin, oUn, Ye, XW, Xw, Xx, Xh, Xk, XY, XS, oLen, lenS, Yh, ev, lk, Vc.put, fits, kd, sz, Tryz.VΓ, Tryz.Γs, bin, binI, binS, ifK, ar, eqB, eqS, eqK, eqK.eqF, negB, bnds, optE, XM, Vc.cells, isV, Vc.one, Xs, getB, setB, XZ, Xp, Xi, Yf, Xl, XT, resS, tupS, ofV, Yj, Nat.reduceAdd, Nat.reduceSub, Nat.reduceLT, Nat.reduceLeDiff, reduceIte, reduceCtorEq, Nat.reduceEqDiff, implies_true, forall_const, lawV])
  rw [idx_geq]
theorem p_alnum (c : UInt8) : PC Tryz.V 161 [.int .u8 c.toNat] (.bool (isAlpha c || isDigit c)) := by
  refine pc_of 3000 Tryz.func161 rfl Tryz.ntmps161 Tryz.results161 Tryz.call161 (by simp) (by simp [flat, flat.flatL]) (by simp [flat, flat.flatL]) ?_
  simp only [vcS, ↓Xn, ↓Xo, ↓Xg, ↓Xd, ↓Xe, ↓Xf, XQ, XG, gvU, setR, orN, Yl, Xm, Yn, Yi, Xa, Ym, Xc, Xc.sizeIs, reS, Xj, Yb, mmS, Xq, dstS, srcS, XP, XN, XO, Yc, XA, Yg, Xy, XE, endV, gdst, Yk, XR, Yd, goR, XC, sBox, XU, XH, Xr, sNil, XL, Xt, XV, Xv, goD, valD, XI, XF, XB, dNil, XK, XD, dBox, dN, Xz, opL, idxs, pv, XX, Ya, XJ, Xb, Xu, oBin, oUn, Ye, XW, Xw, Xx, Xh, Xk, XY, XS, oLen, lenS, Yh, ev, lk, Vc.put, fits, kd, sz, Tryz.VΓ, Tryz.Γs, bin, binI, binS, ifK, ar, eqB, eqS, eqK, eqK.eqF, negB, bnds, optE, XM, Vc.cells, isV, Vc.one, Xs, getB, setB, XZ, Xp, Xi, Yf, Xl, XT, resS, tupS, ofV, Yj, Nat.reduceAdd, Nat.reduceSub, Nat.reduceLT, Nat.reduceLeDiff, reduceIte, reduceCtorEq, Nat.reduceEqDiff, implies_true, forall_const, lawV]
  (refine callV_pc (p_IsAlpha c) ?_; simp only [vcS, ↓Xn, ↓Xo, ↓Xg, ↓Xd, ↓Xe, ↓Xf, XQ, XG, gvU, setR, orN, Yl, Xm, Yn, Yi, Xa, Ym, Xc, Xc.sizeIs, reS, Xj, Yb, mmS, Xq, dstS, srcS, XP, XN, XO, Yc, XA, Yg, Xy, XE, endV, gdst, Yk, XR, Yd, goR, XC, sBox, XU, XH, Xr, sNil, XL, Xt, XV, Xv, goD, valD, XI, XF, XB, dNil, XK, XD, dBox, dN, Xz, opL, idxs, pv, XX, Ya, XJ, Xb, Xu, oBin, oUn, Ye, XW, Xw, Xx, Xh, Xk, XY, XS, oLen, lenS, Yh, ev, lk, Vc.put, fits, kd, sz, Tryz.VΓ, Tryz.Γs, bin, binI, binS, ifK, ar, eqB, eqS, eqK, eqK.eqF, negB, bnds, optE, XM, Vc.cells, isV, Vc.one, Xs, getB, setB, XZ, Xp, Xi, Yf, Xl, XT, resS, tupS, ofV, Yj, Nat.reduceAdd, Nat.reduceSub, Nat.reduceLT, Nat.reduceLeDiff, reduceIte, reduceCtorEq, Nat.reduceEqDiff, implies_true, forall_const, lawV])
  refine ⟨fun h => ?_, fun h => by rw [h]; rfl⟩
  (refine callV_pc (p_IsDigit c) ?_; simp only [vcS, ↓Xn, ↓Xo, ↓Xg, ↓Xd, ↓Xe, ↓Xf, XQ, XG, gvU, setR, orN, Yl, Xm, Yn, Yi, Xa, Ym, Xc, Xc.sizeIs, reS, Xj, Yb, mmS, Xq, dstS, srcS, XP, XN, XO, Yc, XA, Yg, Xy, XE, endV, gdst, Yk, XR, Yd, goR, XC, sBox, XU, XH, Xr, sNil, XL, Xt, XV, Xv, goD, valD, XI, XF, XB, dNil, XK, XD, dBox, dN, Xz, opL, idxs, pv, XX, Ya, XJ, Xb, Xu, oBin, oUn, Ye, XW, Xw, Xx, Xh, Xk, XY, XS, oLen, lenS, Yh, ev, lk, Vc.put, fits, kd, sz, Tryz.VΓ, Tryz.Γs, bin, binI, binS, ifK, ar, eqB, eqS, eqK, eqK.eqF, negB, bnds, optE, XM, Vc.cells, isV, Vc.one, Xs, getB, setB, XZ, Xp, Xi, Yf, Xl, XT, resS, tupS, ofV, Yj, Nat.reduceAdd, Nat.reduceSub, Nat.reduceLT, Nat.reduceLeDiff, reduceIte, reduceCtorEq, Nat.reduceEqDiff, implies_true, forall_const, lawV])
  rw [h]; rfl
theorem p_IsUnreserved (c : UInt8) : PC Tryz.V 126 [.int .u8 c.toNat] (.bool (unres c)) := by
  refine pc_of 3000 Tryz.func126 rfl Tryz.ntmps126 Tryz.results126 Tryz.call126 (by simp) (by simp [flat, flat.flatL]) (by simp [flat, flat.flatL]) ?_
  simp only [vcS, ↓Xn, ↓Xo, ↓Xg, ↓Xd, ↓Xe, ↓Xf, XQ, XG, gvU, setR, orN, Yl, Xm, Yn, Yi, Xa, Ym, Xc, Xc.sizeIs, reS, Xj, Yb, mmS, Xq, dstS, srcS, XP, XN, XO, Yc, XA, Yg, Xy, XE, endV, gdst, Yk, XR, Yd, goR, XC, sBox, XU, XH, Xr, sNil, XL, Xt, XV, Xv, goD, valD, XI, XF, XB, dNil, XK, XD, dBox, dN, Xz, opL, idxs, pv, XX, Ya, XJ, Xb, Xu, oBin, oUn, Ye, XW, Xw, Xx, Xh, Xk, XY, XS, oLen, lenS, Yh, ev, lk, Vc.put, fits, kd, sz, Tryz.VΓ, Tryz.Γs, bin, binI, binS, ifK, ar, eqB, eqS, eqK, eqK.eqF, negB, bnds, optE, XM, Vc.cells, isV, Vc.one, Xs, getB, setB, XZ, Xp, Xi, Yf, Xl, XT, resS, tupS, ofV, Yj, Nat.reduceAdd, Nat.reduceSub, Nat.reduceLT, Nat.reduceLeDiff, reduceIte, reduceCtorEq, Nat.reduceEqDiff, implies_true, forall_const, lawV]
  (refine callV_pc (p_alnum c) ?_; simp only [vcS, ↓Xn, ↓Xo, ↓Xg, ↓Xd, ↓Xe, ↓Xf, XQ, XG, gvU, setR, orN, Yl, Xm, Yn, Yi, Xa, Ym, Xc, Xc.sizeIs, reS, Xj, Yb, mmS, Xq, dstS, srcS, XP, XN, XO, Yc, XA, Yg, Xy, XE, endV, gdst, Yk, XR, Yd, goR, XC, sBox, XU, XH, Xr, sNil, XL, Xt, XV, Xv, goD, valD, XI, XF, XB, dNil, XK, XD, dBox, dN, Xz, opL, idxs, pv, XX, Ya, XJ, Xb, Xu, oBin, oUn, Ye, XW, Xw, Xx, Xh, Xk, XY, XS, oLen, lenS, Yh, ev, lk, Vc.put, fits, kd, sz, Tryz.VΓ, Tryz.Γs, bin, binI, binS, ifK, ar, eqB, eqS, eqK, eqK.eqF, negB, bnds, optE, XM, Vc.cells, isV, Vc.one, Xs, getB, setB, XZ, Xp, Xi, Yf, Xl, XT, resS, tupS, ofV, Yj, Nat.reduceAdd, Nat.reduceSub, Nat.reduceLT, Nat.reduceLeDiff, reduceIte, reduceCtorEq, Nat.reduceEqDiff, implies_true, forall_const, lawV])
  refine ⟨fun h => ?_, fun h => by unfold unres; rw [h]; rfl⟩
  (refine callV_pc (p_among c [45, 46, 95, 126]) ?_; simp only [vcS, ↓Xn, ↓Xo, ↓Xg, ↓Xd, ↓Xe, ↓Xf, XQ, XG, gvU, setR, orN, Yl, Xm, Yn, Yi, Xa, Ym, Xc, Xc.sizeIs, reS, Xj, Yb, mmS, Xq, dstS, srcS, XP, XN, XO, Yc, XA, Yg, Xy, XE, endV, gdst, Yk, XR, Yd, goR, XC, sBox, XU, XH, Xr, sNil, XL, Xt, XV, Xv, goD, valD, XI, XF, XB, dNil, XK, XD, dBox, dN, Xz, opL, idxs, pv, XX, Ya, XJ, Xb, Xu, oBin, oUn, Ye, XW, Xw, Xx, Xh, Xk, XY, XS, oLen, lenS, Yh, ev, lk, Vc.put, fits, kd, sz, Tryz.VΓ, Tryz.Γs, bin, binI, binS, ifK, ar, eqB, eqS, eqK, eqK.eqF, negB, bnds, optE, XM, Vc.cells, isV, Vc.one, Xs, getB, setB, XZ, Xp, Xi, Yf, Xl, XT, resS, tupS, ofV, Yj, Nat.reduceAdd, Nat.reduceSub, Nat.reduceLT, Nat.reduceLeDiff, reduceIte, reduceCtorEq, Nat.reduceEqDiff, implies_true, forall_const, lawV])
  unfold unres; rw [h]; rfl
theorem dig_low (c : UInt8) (h : isDigit c = true) : IntKind.u8.wrap ((c.toNat : Int) - 48) = hexVal c := by
  have := all256 (p := fun c => !isDigit c || decide (IntKind.u8.wrap ((c.toNat : Int) - 48) = hexVal c)) (by decide +kernel) c
  simpa [h] using this
theorem dig_high (c : UInt8) (h : isHex c = true) (h2 : isDigit c = false) : IntKind.u8.wrap (IntKind.u8.wrap (bitI .or .u8 (c.toNat : Int) 32 - 97) + 10) = hexVal c := by
  have := all256 (p := fun c => !isHex c || isDigit c || decide (IntKind.u8.wrap (IntKind.u8.wrap (bitI .or .u8 (c.toNat : Int) 32 - 97) + 10) = hexVal c)) (by decide +kernel) c
  simpa [h, h2] using this
theorem p_digit (c : UInt8) (hc : isHex c = true) : PC Tryz.V 150 [.int .u8 c.toNat] (.int .u8 (hexVal c)) := by
  refine pc_of 3000 Tryz.func150 rfl Tryz.ntmps150 Tryz.results150 Tryz.call150 (by simp) (by simp [flat, flat.flatL]) (by simp [flat, flat.flatL]) ?_
  simp only [vcS, ↓Xn, ↓Xo, ↓Xg, ↓Xd, ↓Xe, ↓Xf, XQ, XG, gvU, setR, orN, Yl, Xm, Yn, Yi, Xa, Ym, Xc, Xc.sizeIs, reS, Xj, Yb, mmS, Xq, dstS, srcS, XP, XN, XO, Yc, XA, Yg, Xy, XE, endV, gdst, Yk, XR, Yd, goR, XC, sBox, XU, XH, Xr, sNil, XL, Xt, XV, Xv, goD, valD, XI, XF, XB, dNil, XK, XD, dBox, dN, Xz, opL, idxs, pv, XX, Ya, XJ, Xb, Xu, oBin, oUn, Ye, XW, Xw, Xx, Xh, Xk, XY, XS, oLen, lenS, Yh, ev, lk, Vc.put, fits, kd, sz, Tryz.VΓ, Tryz.Γs, bin, binI, binS, ifK, ar, eqB, eqS, eqK, eqK.eqF, negB, bnds, optE, XM, Vc.cells, isV, Vc.one, Xs, getB, setB, XZ, Xp, Xi, Yf, Xl, XT, resS, tupS, ofV, Yj, Nat.reduceAdd, Nat.reduceSub, Nat.reduceLT, Nat.reduceLeDiff, reduceIte, reduceCtorEq, Nat.reduceEqDiff, implies_true, forall_const, lawV]
  (refine callV_pc (p_IsDigit c) ?_; simp only [vcS, ↓Xn, ↓Xo, ↓Xg, ↓Xd, ↓Xe, ↓Xf, XQ, XG, gvU, setR, orN, Yl, Xm, Yn, Yi, Xa, Ym, Xc, Xc.sizeIs, reS, Xj, Yb, mmS, Xq, dstS, srcS, XP, XN, XO, Yc, XA, Yg, Xy, XE, endV, gdst, Yk, XR, Yd, goR, XC, sBox, XU, XH, Xr, sNil, XL, Xt, XV, Xv, goD, valD, XI, XF, XB, dNil, XK, XD, dBox, dN, Xz, opL, idxs, pv, XX, Ya, XJ, Xb, Xu, oBin, oUn, Ye, XW, Xw, Xx, Xh, Xk, XY, XS, oLen, lenS, Yh, ev, lk, Vc.put, fits, kd, sz, Tryz.VΓ, Tryz.Γs, bin, binI, binS, ifK, ar, eqB, eqS, eqK, eqK.eqF, negB, bnds, optE, XM, Vc.cells, isV, Vc.one, Xs, getB, setB, XZ, Xp, Xi, Yf, Xl, XT, resS, tupS, ofV, Yj, Nat.reduceAdd, Nat.reduceSub, Nat.reduceLT, Nat.reduceLeDiff, reduceIte, reduceCtorEq, Nat.reduceEqDiff, implies_true, forall_const, lawV])
  refine ⟨fun h => ?_, fun h => ?_⟩
  · rw [dig_low c h]
  · rw [dig_high c hc h]
theorem unhex_bits (a b : UInt8) (ha : isHex a = true) (hb : isHex b = true) : bitI .or .u8 (shI .shl .u8 (hexVal a) 4) (hexVal b) = ((unhex a b).toNat : Int) := by
  have h1 := hexVal_le ha
  have h2 := hexVal_le hb
  have : ∀ x, x < 16 → ∀ y, y < 16 → bitI .or .u8 (shI .shl .u8 (x : Nat) 4) (y : Nat) = (((x * 16 + y).toUInt8).toNat : Int) := by decide +kernel
  exact this _ (by omega) _ (by omega)
def escAt (s : Bytes) (i : Nat) : Option UInt8 := (hexPair (s.drop (i + 1))).map fun x => unhex x.1 x.2.1
theorem hexPair_drop (s : Bytes) (i : Nat) : hexPair (s.drop (i + 1)) = if i + 2 < s.length then (if isHex (s.getD (i + 1) 0) && isHex (s.getD (i + 2) 0) then some (s.getD (i + 1) 0, s.getD (i + 2) 0, s.drop (i + 3)) else none) else none := by
  by_cases h : i + 2 < s.length
  · rw [if_pos h, List.drop_eq_getElem_cons (by omega : i + 1 < s.length), List.drop_eq_getElem_cons (by omega : i + 1 + 1 < s.length)]
    simp only [hexPair, List.getD_eq_getElem?_getD]
    simp [show i + 1 < s.length by omega, h]
  · rw [if_neg h]
    have hl : (s.drop (i + 1)).length ≤ 1 := by simp; omega
    match hm : s.drop (i + 1), hl with
    | [], _ => rfl
    | [_], _ => rfl
set_option maxHeartbeats 1000000 in
set_option maxRecDepth 20000 in
theorem p_escaped (s : Bytes) (i : Nat) (hi : i < s.length) (hs : s.length ≤ 9223372036854775807) : PC Tryz.V 112 [.str s, .int .i64 i] (.tup [.int .u8 (((escAt s i).getD 0).toNat : Int), .bool (escAt s i).isSome]) := by
  refine pc_of 3000 Tryz.func112 rfl Tryz.ntmps112 Tryz.results112 Tryz.call112 (by simp) (by simp [flat, flat.flatL]) (by simp [flat, flat.flatL]) ?_
  simp only [vcS, ↓Xn, ↓Xo, ↓Xg, ↓Xd, ↓Xe, ↓Xf, XQ, XG, gvU, setR, orN, Yl, Xm, Yn, Yi, Xa, Ym, Xc, Xc.sizeIs, reS, Xj, Yb, mmS, Xq, dstS, srcS, XP, XN, XO, Yc, XA, Yg, Xy, XE, endV, gdst, Yk, XR, Yd, goR, XC, sBox, XU, XH, Xr, sNil, XL, Xt, XV, Xv, goD, valD, XI, XF, XB, dNil, XK, XD, dBox, dN, Xz, opL, idxs, pv, XX, Ya, XJ, Xb, Xu, oBin, oUn, Ye, XW, Xw, Xx, Xh, Xk, XY, XS, oLen, lenS, Yh, ev, lk, Vc.put, fits, kd, sz, Tryz.VΓ, Tryz.Γs, bin, binI, binS, ifK, ar, eqB, eqS, eqK, eqK.eqF, negB, bnds, optE, XM, Vc.cells, isV, Vc.one, Xs, getB, setB, XZ, Xp, Xi, Yf, Xl, XT, resS, tupS, ofV, Yj, Nat.reduceAdd, Nat.reduceSub, Nat.reduceLT, Nat.reduceLeDiff, reduceIte, reduceCtorEq, Nat.reduceEqDiff, implies_true, forall_const, lawV]
  unfold escAt
  rw [hexPair_drop]
  refine ⟨⟨by omega, by omega⟩, fun hl => ?_, fun hl => ?_⟩
  · have hl : i + 2 < s.length := (by simp at hl; omega)
    rw [if_pos hl]
    refine ⟨⟨by omega, by omega⟩, ⟨by omega, by omega⟩, ?_⟩
    (refine callV_pc (p_IsHex _) ?_; simp only [vcS, ↓Xn, ↓Xo, ↓Xg, ↓Xd, ↓Xe, ↓Xf, XQ, XG, gvU, setR, orN, Yl, Xm, Yn, Yi, Xa, Ym, Xc, Xc.sizeIs, reS, Xj, Yb, mmS, Xq, dstS, srcS, XP, XN, XO, Yc, XA, Yg, Xy, XE, endV, gdst, Yk, XR, Yd, goR, XC, sBox, XU, XH, Xr, sNil, XL, Xt, XV, Xv, goD, valD, XI, XF, XB, dNil, XK, XD, dBox, dN, Xz, opL, idxs, pv, XX, Ya, XJ, Xb, Xu, oBin, oUn, Ye, XW, Xw, Xx, Xh, Xk, XY, XS, oLen, lenS, Yh, ev, lk, Vc.put, fits, kd, sz, Tryz.VΓ, Tryz.Γs, bin, binI, binS, ifK, ar, eqB, eqS, eqK, eqK.eqF, negB, bnds, optE, XM, Vc.cells, isV, Vc.one, Xs, getB, setB, XZ, Xp, Xi, Yf, Xl, XT, resS, tupS, ofV, Yj, Nat.reduceAdd, Nat.reduceSub, Nat.reduceLT, Nat.reduceLeDiff, reduceIte, reduceCtorEq, Nat.reduceEqDiff, implies_true, forall_const, lawV])
    refine ⟨fun ha => ⟨⟨by omega, by omega⟩, ⟨by omega, by omega⟩, ?_⟩, fun ha => ?_⟩
    · have ha : isHex (s.getD (i + 1) 0) = true := by simpa using ha
      (refine callV_pc (p_IsHex _) ?_; simp only [vcS, ↓Xn, ↓Xo, ↓Xg, ↓Xd, ↓Xe, ↓Xf, XQ, XG, gvU, setR, orN, Yl, Xm, Yn, Yi, Xa, Ym, Xc, Xc.sizeIs, reS, Xj, Yb, mmS, Xq, dstS, srcS, XP, XN, XO, Yc, XA, Yg, Xy, XE, endV, gdst, Yk, XR, Yd, goR, XC, sBox, XU, XH, Xr, sNil, XL, Xt, XV, Xv, goD, valD, XI, XF, XB, dNil, XK, XD, dBox, dN, Xz, opL, idxs, pv, XX, Ya, XJ, Xb, Xu, oBin, oUn, Ye, XW, Xw, Xx, Xh, Xk, XY, XS, oLen, lenS, Yh, ev, lk, Vc.put, fits, kd, sz, Tryz.VΓ, Tryz.Γs, bin, binI, binS, ifK, ar, eqB, eqS, eqK, eqK.eqF, negB, bnds, optE, XM, Vc.cells, isV, Vc.one, Xs, getB, setB, XZ, Xp, Xi, Yf, Xl, XT, resS, tupS, ofV, Yj, Nat.reduceAdd, Nat.reduceSub, Nat.reduceLT, Nat.reduceLeDiff, reduceIte, reduceCtorEq, Nat.reduceEqDiff, implies_true, forall_const, lawV])
      refine ⟨fun hb => ?_, fun hb => ⟨⟨by omega, by omega⟩, ⟨by omega, by omega⟩, ?_⟩⟩
      · have hb : isHex (s.getD (i + 2) 0) = false := by simpa using hb
        rw [ha, hb]; rfl
      · have hb : isHex (s.getD (i + 2) 0) = true := by simpa using hb
        (refine callD_pc (p_digit _ ha) ?_; simp only [vcS, ↓Xn, ↓Xo, ↓Xg, ↓Xd, ↓Xe, ↓Xf, XQ, XG, gvU, setR, orN, Yl, Xm, Yn, Yi, Xa, Ym, Xc, Xc.sizeIs, reS, Xj, Yb, mmS, Xq, dstS, srcS, XP, XN, XO, Yc, XA, Yg, Xy, XE, endV, gdst, Yk, XR, Yd, goR, XC, sBox, XU, XH, Xr, sNil, XL, Xt, XV, Xv, goD, valD, XI, XF, XB, dNil, XK, XD, dBox, dN, Xz, opL, idxs, pv, XX, Ya, XJ, Xb, Xu, oBin, oUn, Ye, XW, Xw, Xx, Xh, Xk, XY, XS, oLen, lenS, Yh, ev, lk, Vc.put, fits, kd, sz, Tryz.VΓ, Tryz.Γs, bin, binI, binS, ifK, ar, eqB, eqS, eqK, eqK.eqF, negB, bnds, optE, XM, Vc.cells, isV, Vc.one, Xs, getB, setB, XZ, Xp, Xi, Yf, Xl, XT, resS, tupS, ofV, Yj, Nat.reduceAdd, Nat.reduceSub, Nat.reduceLT, Nat.reduceLeDiff, reduceIte, reduceCtorEq, Nat.reduceEqDiff, implies_true, forall_const, lawV])
        refine ⟨by omega, ⟨by omega, by omega⟩, ⟨by omega, by omega⟩, ?_⟩
        (refine callD_pc (p_digit _ hb) ?_; simp only [vcS, ↓Xn, ↓Xo, ↓Xg, ↓Xd, ↓Xe, ↓Xf, XQ, XG, gvU, setR, orN, Yl, Xm, Yn, Yi, Xa, Ym, Xc, Xc.sizeIs, reS, Xj, Yb, mmS, Xq, dstS, srcS, XP, XN, XO, Yc, XA, Yg, Xy, XE, endV, gdst, Yk, XR, Yd, goR, XC, sBox, XU, XH, Xr, sNil, XL, Xt, XV, Xv, goD, valD, XI, XF, XB, dNil, XK, XD, dBox, dN, Xz, opL, idxs, pv, XX, Ya, XJ, Xb, Xu, oBin, oUn, Ye, XW, Xw, Xx, Xh, Xk, XY, XS, oLen, lenS, Yh, ev, lk, Vc.put, fits, kd, sz, Tryz.VΓ, Tryz.Γs, bin, binI, binS, ifK, ar, eqB, eqS, eqK, eqK.eqF, negB, bnds, optE, XM, Vc.cells, isV, Vc.one, Xs, getB, setB, XZ, Xp, Xi, Yf, Xl, XT, resS, tupS, ofV, Yj, Nat.reduceAdd, Nat.reduceSub, Nat.reduceLT, Nat.reduceLeDiff, reduceIte, reduceCtorEq, Nat.reduceEqDiff, implies_true, forall_const, lawV])
        refine ⟨(OkD_fast (by kernel_rfl)), ?_⟩
        rw [unhex_bits _ _ ha hb, ha, hb]; rfl
    · have ha : isHex (s.getD (i + 1) 0) = false := by simpa using ha
      rw [ha]; rfl
  · have hl : ¬ i + 2 < s.length := (by simp at hl; omega)
    rw [if_neg hl]; rfl
theorem shr4 (c : UInt8) : shI .shr .u8 (c.toNat : Int) 4 = ((c.toNat / 16 : Nat) : Int) := by
  have := all256 (p := fun c => decide (shI .shr .u8 (c.toNat : Int) 4 = ((c.toNat / 16 : Nat) : Int))) (by decide +kernel) c
  simpa using this
theorem and15 (c : UInt8) : bitI .and .u8 (c.toNat : Int) 15 = ((c.toNat % 16 : Nat) : Int) := by
  have := all256 (p := fun c => decide (bitI .and .u8 (c.toNat : Int) 15 = ((c.toNat % 16 : Nat) : Int))) (by decide +kernel) c
  simpa using this
theorem digs_at : ∀ n, n < 16 → ([48, 49, 50, 51, 52, 53, 54, 55, 56, 57, 65, 66, 67, 68, 69, 70] : Bytes).getD n 0 = hexU n := by decide
theorem esc_cells (c : UInt8) : (esc c).map u8S = [.int .u8 37, .int .u8 ((hexU (c.toNat / 16)).toNat : Int), .int .u8 ((hexU (c.toNat % 16)).toNat : Int)] := rfl
structure TxAt (bs : List Res) (i L : Nat) (x : SV) (l : Bytes) : Prop where
  box : bs[i]? = some (.cells [x] 134 true)
  sl : Sl 5 1 L x bs (l.map u8S) l.length
  lt : i < L
theorem TxAt.ne {bs : List Res} {i L j n : Nat} {l : Bytes} (h : TxAt bs i L (.o j n) l) : i ≠ j := by
  rcases h.sl with ⟨h1, -⟩ | ⟨j', h1, h2, -⟩
  · cases h1
  · cases h1; have := h.lt; omega
set_option maxRecDepth 20000 in
set_option maxHeartbeats 1000000 in
theorem sc_escape {bs : List Res} {i L : Nat} {x : SV} {l : Bytes} (h : TxAt bs i L x l) (hL : L ≤ bs.length) (hl : l.length ≤ 1000000) (c : UInt8) :
    SC Tryz.V 142 [.p i 0, .int .u8 c.toNat] bs (fun r b => r = .tup [] ∧ ∃ x', TxAt b i L x' (l ++ esc c) ∧ bs.length ≤ b.length ∧ ∀ k, k < L → k ≠ i → b[k]? = bs[k]?) := by
  have hil : i < bs.length := (List.getElem?_eq_some_iff.1 h.box).1
  have hc := c.toNat_lt
  have d1 := digs_at (c.toNat / 16) (by omega)
  have d2 := digs_at (c.toNat % 16) (by omega)
  have s1 := shr4 c
  have s2 := and15 c
  have hbox := h.box
  have ec := esc_cells c
  refine sc_of 3000 Tryz.func142 rfl Tryz.ntmps142 Tryz.results142 Tryz.call142 (by simp) (fun β β' hb => concL_within bs.length _ (by simp [within, within.withinL, hil]) β β' hb) ?_
  rcases h.sl with ⟨rfl, hc0, hn0⟩ | ⟨j, rfl, hLj, hj⟩
  · obtain rfl : l = [] := by simpa using hc0
    have ho : ∀ X, (bs ++ [X])[i]? = some (.cells [.nils] 134 true) := fun X => at_old hbox [X]
    have ho2 : ∀ X Y, (bs ++ [X] ++ [Y])[i]? = some (.cells [.nils] 134 true) := fun X Y => at_old (ho X) [Y]
    simp only [vcS, ↓Xn, ↓Xo, ↓Xg, ↓Xd, ↓Xe, ↓Xf, XQ, XG, gvU, setR, orN, Yl, Xm, Yn, Yi, Xa, Ym, Xc, Xc.sizeIs, reS, Xj, Yb, mmS, Xq, dstS, srcS, XP, XN, XO, Yc, XA, Yg, Xy, XE, endV, gdst, Yk, XR, Yd, goR, XC, sBox, XU, XH, Xr, sNil, XL, Xt, XV, Xv, goD, valD, XI, XF, XB, dNil, XK, XD, dBox, dN, Xz, opL, idxs, pv, XX, Ya, XJ, Xb, Xu, oBin, oUn, Ye, XW, Xw, Xx, Xh, Xk, XY, XS, oLen, lenS, Yh, ev, lk, Vc.put, fits, kd, sz, Tryz.VΓ, Tryz.Γs, bin, binI, binS, ifK, ar, eqB, eqS, eqK, eqK.eqF, negB, bnds, optE, XM, Vc.cells, isV, Vc.one, Xs, getB, setB, XZ, Xp, Xi, Yf, Xl, XT, resS, tupS, ofV, Yj, Nat.reduceAdd, Nat.reduceSub, Nat.reduceLT, Nat.reduceLeDiff, reduceIte, reduceCtorEq, Nat.reduceEqDiff, implies_true, forall_const, lawV, hbox, s1, s2, Int.toNat_natCast, d1, d2, at_new, ho, ho2]
    rw [← ec]
    have n1 : ¬ bs.length = i := by omega
    have n2 : ∀ X, ¬ (bs ++ [X]).length = i := fun X => by simp; omega
    refine ⟨by omega, ⟨by omega, by omega⟩, ⟨by omega, by omega⟩, by omega, ⟨by unfold maxLen; omega, by omega⟩, ?_, _, ⟨List.getElem?_set_self (by simp; omega), .inr ⟨_, rfl, by simp; omega, ?_⟩, h.lt⟩, by simp, fun k hk hki => ?_⟩
    · exact (by
      refine OkD_ren (fun n => if n = i then 0 else 1) ?_
      simp only [List.map_cons, List.map_nil, renRk, renT, reduceIte, n1, n2]
      exact OkD_fast (by kernel_rfl))
    · rw [List.getElem?_set_ne (fun e => n2 _ e.symm), at_new]; rfl
    · rw [List.getElem?_set_ne (fun e => hki e.symm), List.getElem?_append_left (by simp; omega), List.getElem?_append_left (by omega)]
  · have hij := h.ne
    have hjl : j < bs.length := (List.getElem?_eq_some_iff.1 hj).1
    have ho : ∀ X, (bs ++ [X])[j]? = some (.own (l.map u8S) 5 1 l.length true) := fun X => at_old hj [X]
    have ho2 : ∀ X Y, ((bs ++ [X]).set j .gone ++ [Y])[i]? = some (.cells [.o j l.length] 134 true) := fun X Y => by
      rw [List.getElem?_append_left (by simp; omega), List.getElem?_set_ne hij.symm]; exact at_old hbox [X]
    simp only [vcS, ↓Xn, ↓Xo, ↓Xg, ↓Xd, ↓Xe, ↓Xf, XQ, XG, gvU, setR, orN, Yl, Xm, Yn, Yi, Xa, Ym, Xc, Xc.sizeIs, reS, Xj, Yb, mmS, Xq, dstS, srcS, XP, XN, XO, Yc, XA, Yg, Xy, XE, endV, gdst, Yk, XR, Yd, goR, XC, sBox, XU, XH, Xr, sNil, XL, Xt, XV, Xv, goD, valD, XI, XF, XB, dNil, XK, XD, dBox, dN, Xz, opL, idxs, pv, XX, Ya, XJ, Xb, Xu, oBin, oUn, Ye, XW, Xw, Xx, Xh, Xk, XY, XS, oLen, lenS, Yh, ev, lk, Vc.put, fits, kd, sz, Tryz.VΓ, Tryz.Γs, bin, binI, binS, ifK, ar, eqB, eqS, eqK, eqK.eqF, negB, bnds, optE, XM, Vc.cells, isV, Vc.one, Xs, getB, setB, XZ, Xp, Xi, Yf, Xl, XT, resS, tupS, ofV, Yj, Nat.reduceAdd, Nat.reduceSub, Nat.reduceLT, Nat.reduceLeDiff, reduceIte, reduceCtorEq, Nat.reduceEqDiff, implies_true, forall_const, lawV, hbox, s1, s2, Int.toNat_natCast, d1, d2, at_new, ho, ho2]
    rw [← ec, ← List.map_append]
    have n1 : ¬ bs.length = i := by omega
    have n2 : ∀ X, ¬ (bs ++ [X]).length = i := fun X => by simp; omega
    have n3 : ¬ j = i := fun e => hij e.symm
    refine ⟨by omega, ⟨by omega, by omega⟩, ⟨by omega, by omega⟩, by omega, ⟨by unfold maxLen; omega, by omega⟩, ?_, _, ⟨List.getElem?_set_self (by simp; omega), .inr ⟨(bs ++ [Res.own ((esc c).map u8S) 5 1 3 true]).length, by simp [esc], by simp; omega, ?_⟩, h.lt⟩, by simp; omega, fun k hk hki => ?_⟩
    · exact (by
      refine OkD_ren (fun n => if n = i then 0 else 1) ?_
      simp only [List.map_cons, List.map_nil, renRk, renT, reduceIte, n1, n2, n3]
      exact OkD_fast (by kernel_rfl))
    · rw [List.getElem?_set_ne (fun e => n2 _ e.symm), List.getElem?_append_right (by simp)]; simp [esc]
    · rw [List.getElem?_set_ne (fun e => hki e.symm), List.getElem?_append_left (by simp; omega), List.getElem?_set_ne (by omega), List.getElem?_append_left (by omega)]
theorem TxAt.app {bs : List Res} {i L : Nat} {x : SV} {l : Bytes} (h : TxAt bs i L x l) (X : List Res) : TxAt (bs ++ X) i L x l := ⟨at_old h.box X, h.sl.app X, h.lt⟩
theorem txt_one {bs : List Res} {i L : Nat} {x : SV} {l : Bytes} (h : TxAt bs i L x l) (hL : L ≤ bs.length) (c : UInt8) (hx : x = .nils) : TxAt ((bs ++ [Res.own [u8S c] 5 1 1 true] ++ [Res.own [u8S c] 5 1 1 true]).set i (Res.cells [.o (bs ++ [Res.own [u8S c] 5 1 1 true]).length 1] 134 true)) i L (.o (bs ++ [Res.own [u8S c] 5 1 1 true]).length 1) (l ++ [c]) := by
  have hil : i < bs.length := (List.getElem?_eq_some_iff.1 h.box).1
  have hl : l = [] := by
    rcases h.sl with ⟨-, h1, -⟩ | ⟨j, h1, -, -⟩
    · simpa using h1
    · rw [hx] at h1; cases h1
  subst hl
  have n2 : ∀ X, ¬ (bs ++ [X]).length = i := fun X => by simp; omega
  refine ⟨List.getElem?_set_self (by simp; omega), .inr ⟨_, rfl, by simp; omega, ?_⟩, h.lt⟩
  rw [List.getElem?_set_ne (fun e => n2 _ e.symm), at_new]
  rfl
theorem txt_more {bs : List Res} {i L j : Nat} {l : Bytes} (h : TxAt bs i L (.o j l.length) l) (hL : L ≤ bs.length) (c : UInt8) (hLj : L ≤ j) : TxAt (((bs ++ [Res.own [u8S c] 5 1 1 true]).set j .gone ++ [Res.own (l.map u8S ++ [u8S c]) 5 1 (l.length + 1) true]).set i (Res.cells [.o (bs ++ [Res.own [u8S c] 5 1 1 true]).length (l.length + 1)] 134 true)) i L (.o (bs ++ [Res.own [u8S c] 5 1 1 true]).length (l.length + 1)) (l ++ [c]) := by
  have hil : i < bs.length := (List.getElem?_eq_some_iff.1 h.box).1
  refine ⟨List.getElem?_set_self (by simp; omega), .inr ⟨(bs ++ [Res.own [u8S c] 5 1 1 true]).length, by simp, by simp; omega, ?_⟩, h.lt⟩
  rw [List.getElem?_set_ne (by simp; omega), List.getElem?_append_right (by simp)]
  simp
def NoI (also s : Bytes) (σ : St) : Prop := ∃ (i : Nat) (x : SV) (d : Bytes), lk 0 σ.t = some (.str s) ∧ lk 1 σ.t = some (.str also) ∧ lk 6 σ.t = some (.p 0 0) ∧ lk 7 σ.t = some (.int .i64 i) ∧ i ≤ s.length ∧ d.length ≤ 3 * i ∧ 1 ≤ σ.b.length ∧ TxAt σ.b 0 1 x d ∧ comb d (normU also (units (s.drop i))) = normU also (units s)
def NoM (s : Bytes) (σ : St) : Nat := match lk 7 σ.t with
  | some (.int _ k) => s.length - k.toNat
  | _ => 0
theorem NoM_eq {s : Bytes} {σ : St} {k : Nat} (h : lk 7 σ.t = some (.int .i64 k)) : NoM s σ = s.length - k := by simp [NoM, h]
theorem no_mk {also s : Bytes} {t : List (Nat × SV)} {b : List Res} {i i' : Nat} {x : SV} {d : Bytes} (h0 : lk 0 t = some (.str s)) (h1 : lk 1 t = some (.str also)) (h6 : lk 6 t = some (.p 0 0)) (h7 : lk 7 t = some (.int .i64 i')) (h : i' ≤ s.length ∧ d.length ≤ 3 * i') (hb : 1 ≤ b.length) (ht : TxAt b 0 1 x d)
    (hn : comb d (normU also (units (s.drop i'))) = normU also (units s)) (hlt : i < i') : NoI also s ⟨t, b⟩ ∧ NoM s ⟨t, b⟩ < s.length - i :=
  ⟨⟨i', x, d, h0, h1, h6, h7, h.1, h.2, hb, ht, hn⟩, by rw [NoM_eq h7]; omega⟩
theorem units_step {s : Bytes} {i : Nat} (hi : i < s.length) : units (s.drop i) = if s[i] = 37 then (match escAt s i with
    | some _ => (match hexPair (s.drop (i + 1)) with
      | some (a, b, _) => .hex a b :: units (s.drop (i + 3))
      | none => [.bad])
    | none => [.bad]) else .lit s[i] :: units (s.drop (i + 1)) := by
  rw [List.drop_eq_getElem_cons hi]
  by_cases h : s[i] = 37
  · rw [if_pos h, h]
    unfold escAt
    cases hp : hexPair (s.drop (i + 1)) with
    | none => simp only [Option.map_none]; exact units_bad hp
    | some x =>
      obtain ⟨a, b, r⟩ := x
      obtain ⟨h1, h2, h3⟩ := hexPair_some hp
      simp only [Option.map_some]
      rw [h1, units_hex h2 h3]
      congr 2
      have := congrArg (List.drop 2) h1
      rw [List.drop_drop] at this
      exact this.symm
  · rw [if_neg h, units_lit h]
set_option maxRecDepth 20000 in
set_option maxHeartbeats 4000000 in
theorem p_Normalize (s also : Bytes) (ha : also.length ≤ 1000) : PC Tryz.V 145 [.str s, .str also] (.tup [.str (pctNorm also s).1, .int .i64 (pctNorm also s).2]) := by
  refine pc_of 3000 Tryz.func145 rfl Tryz.ntmps145 Tryz.results145 Tryz.call145 (by simp) (by simp [flat, flat.flatL]) (by simp [flat, flat.flatL]) ?_
  simp only [vcS, ↓Xn, ↓Xo, ↓Xg, ↓Xd, ↓Xe, ↓Xf, XQ, XG, gvU, setR, orN, Yl, Xm, Yn, Yi, Xa, Ym, Xc, Xc.sizeIs, reS, Xj, Yb, mmS, Xq, dstS, srcS, XP, XN, XO, Yc, XA, Yg, Xy, XE, endV, gdst, Yk, XR, Yd, goR, XC, sBox, XU, XH, Xr, sNil, XL, Xt, XV, Xv, goD, valD, XI, XF, XB, dNil, XK, XD, dBox, dN, Xz, opL, idxs, pv, XX, Ya, XJ, Xb, Xu, oBin, oUn, Ye, XW, Xw, Xx, Xh, Xk, XY, XS, oLen, lenS, Yh, ev, lk, Vc.put, fits, kd, sz, Tryz.VΓ, Tryz.Γs, bin, binI, binS, ifK, ar, eqB, eqS, eqK, eqK.eqF, negB, bnds, optE, XM, Vc.cells, isV, Vc.one, Xs, getB, setB, XZ, Xp, Xi, Yf, Xl, XT, resS, tupS, ofV, Yj, Nat.reduceAdd, Nat.reduceSub, Nat.reduceLT, Nat.reduceLeDiff, reduceIte, reduceCtorEq, Nat.reduceEqDiff, implies_true, forall_const, lawV]
  unfold pctNorm
  refine ⟨fun hl => ?_, fun hl => ?_⟩
  · have hl : 16384 < s.length := (by simp at hl; omega)
    rw [if_pos hl]
  have hl : s.length ≤ 16384 := (by simp at hl; omega)
  rw [if_neg (by omega)]
  refine loopV_mk (NoI also s) (NoM s) ⟨0, .nils, [], rfl, rfl, rfl, rfl, by omega, by simp, by simp, ⟨rfl, .inl ⟨rfl, rfl, rfl⟩, by omega⟩, comb_nil _ (normU_err also _)⟩ ?_
  rintro ⟨t, b⟩ ⟨i, x, d, h0, h1, h6, h7, hi, hd, hbl, ht, hn⟩
  simp only at h0 h1 h6 h7 hbl ht
  rw [NoM_eq h7]
  have hbox := ht.box
  by_cases hlt : i < s.length
  · have hu := units_step hlt
    have hg : s.getD i 0 = s[i] := by simp [List.getD, hlt]
    simp only [vcS, ↓Xn, ↓Xo, ↓Xg, ↓Xd, ↓Xe, ↓Xf, XQ, XG, gvU, setR, orN, Yl, Xm, Yn, Yi, Xa, Ym, Xc, Xc.sizeIs, reS, Xj, Yb, mmS, Xq, dstS, srcS, XP, XN, XO, Yc, XA, Yg, Xy, XE, endV, gdst, Yk, XR, Yd, goR, XC, sBox, XU, XH, Xr, sNil, XL, Xt, XV, Xv, goD, valD, XI, XF, XB, dNil, XK, XD, dBox, dN, Xz, opL, idxs, pv, XX, Ya, XJ, Xb, Xu, oBin, oUn, Ye, XW, Xw, Xx, Xh, Xk, XY, XS, oLen, lenS, Yh, ev, lk, Vc.put, fits, kd, sz, Tryz.VΓ, Tryz.Γs, bin, binI, binS, ifK, ar, eqB, eqS, eqK, eqK.eqF, negB, bnds, optE, XM, Vc.cells, isV, Vc.one, Xs, getB, setB, XZ, Xp, Xi, Yf, Xl, XT, resS, tupS, ofV, Yj, Nat.reduceAdd, Nat.reduceSub, Nat.reduceLT, Nat.reduceLeDiff, reduceIte, reduceCtorEq, Nat.reduceEqDiff, implies_true, forall_const, lawV, h0, h1, h6, h7]
    refine ⟨fun _ => ⟨⟨by omega, by omega⟩, fun hc => ?_, fun hc => ?_⟩, fun h => absurd h (by simp; omega)⟩
    · rw [byte_is (n := 37) hlt 37 rfl] at hc
      rw [if_pos (by simpa using hc)] at hu
      have pe := p_escaped s i hlt (by omega)
      cases he : escAt s i with
      | none =>
        rw [he] at pe hu
        simp only at hu
        rw [hu] at hn
        have hres : normU also (units s) = ([], 2) := by rw [← hn]; rfl
        rw [hres]
        (refine callV_pc pe ?_; simp only [vcS, ↓Xn, ↓Xo, ↓Xg, ↓Xd, ↓Xe, ↓Xf, XQ, XG, gvU, setR, orN, Yl, Xm, Yn, Yi, Xa, Ym, Xc, Xc.sizeIs, reS, Xj, Yb, mmS, Xq, dstS, srcS, XP, XN, XO, Yc, XA, Yg, Xy, XE, endV, gdst, Yk, XR, Yd, goR, XC, sBox, XU, XH, Xr, sNil, XL, Xt, XV, Xv, goD, valD, XI, XF, XB, dNil, XK, XD, dBox, dN, Xz, opL, idxs, pv, XX, Ya, XJ, Xb, Xu, oBin, oUn, Ye, XW, Xw, Xx, Xh, Xk, XY, XS, oLen, lenS, Yh, ev, lk, Vc.put, fits, kd, sz, Tryz.VΓ, Tryz.Γs, bin, binI, binS, ifK, ar, eqB, eqS, eqK, eqK.eqF, negB, bnds, optE, XM, Vc.cells, isV, Vc.one, Xs, getB, setB, XZ, Xp, Xi, Yf, Xl, XT, resS, tupS, ofV, Yj, Nat.reduceAdd, Nat.reduceSub, Nat.reduceLT, Nat.reduceLeDiff, reduceIte, reduceCtorEq, Nat.reduceEqDiff, implies_true, forall_const, lawV, h0, h1, h6, h7, Option.isSome_none])
      | some v =>
        rw [he] at pe hu
        have hx := he
        unfold escAt at hx
        obtain ⟨⟨a, bb, r⟩, hp, hv⟩ := Option.map_eq_some_iff.1 hx
        simp only at hv
        rw [hp] at hu
        simp only at hu
        have hi3 : i + 3 ≤ s.length := by
          obtain ⟨h1, -, -⟩ := hexPair_some hp
          have := congrArg List.length h1
          simp at this
          omega
        have hn2 : comb (d ++ normB v) (normU also (units (s.drop (i + 2 + 1)))) = normU also (units s) := by
          rw [← hn, hu, normU, comb_comb, hv]
        simp only [Option.getD_some, Option.isSome_some] at pe
        (refine callV_pc pe ?_; simp only [vcS, ↓Xn, ↓Xo, ↓Xg, ↓Xd, ↓Xe, ↓Xf, XQ, XG, gvU, setR, orN, Yl, Xm, Yn, Yi, Xa, Ym, Xc, Xc.sizeIs, reS, Xj, Yb, mmS, Xq, dstS, srcS, XP, XN, XO, Yc, XA, Yg, Xy, XE, endV, gdst, Yk, XR, Yd, goR, XC, sBox, XU, XH, Xr, sNil, XL, Xt, XV, Xv, goD, valD, XI, XF, XB, dNil, XK, XD, dBox, dN, Xz, opL, idxs, pv, XX, Ya, XJ, Xb, Xu, oBin, oUn, Ye, XW, Xw, Xx, Xh, Xk, XY, XS, oLen, lenS, Yh, ev, lk, Vc.put, fits, kd, sz, Tryz.VΓ, Tryz.Γs, bin, binI, binS, ifK, ar, eqB, eqS, eqK, eqK.eqF, negB, bnds, optE, XM, Vc.cells, isV, Vc.one, Xs, getB, setB, XZ, Xp, Xi, Yf, Xl, XT, resS, tupS, ofV, Yj, Nat.reduceAdd, Nat.reduceSub, Nat.reduceLT, Nat.reduceLeDiff, reduceIte, reduceCtorEq, Nat.reduceEqDiff, implies_true, forall_const, lawV, h0, h1, h6, h7])
        refine ⟨⟨by omega, by omega⟩, ?_⟩
        (refine callV_pc (p_IsUnreserved v) ?_; simp only [vcS, ↓Xn, ↓Xo, ↓Xg, ↓Xd, ↓Xe, ↓Xf, XQ, XG, gvU, setR, orN, Yl, Xm, Yn, Yi, Xa, Ym, Xc, Xc.sizeIs, reS, Xj, Yb, mmS, Xq, dstS, srcS, XP, XN, XO, Yc, XA, Yg, Xy, XE, endV, gdst, Yk, XR, Yd, goR, XC, sBox, XU, XH, Xr, sNil, XL, Xt, XV, Xv, goD, valD, XI, XF, XB, dNil, XK, XD, dBox, dN, Xz, opL, idxs, pv, XX, Ya, XJ, Xb, Xu, oBin, oUn, Ye, XW, Xw, Xx, Xh, Xk, XY, XS, oLen, lenS, Yh, ev, lk, Vc.put, fits, kd, sz, Tryz.VΓ, Tryz.Γs, bin, binI, binS, ifK, ar, eqB, eqS, eqK, eqK.eqF, negB, bnds, optE, XM, Vc.cells, isV, Vc.one, Xs, getB, setB, XZ, Xp, Xi, Yf, Xl, XT, resS, tupS, ofV, Yj, Nat.reduceAdd, Nat.reduceSub, Nat.reduceLT, Nat.reduceLeDiff, reduceIte, reduceCtorEq, Nat.reduceEqDiff, implies_true, forall_const, lawV, h0, h1, h6, h7])
        refine ⟨fun hq => ?_, fun hq => ?_⟩
        · have hn3 : comb (d ++ [v]) (normU also (units (s.drop (i + 2 + 1)))) = normU also (units s) := by
            rw [← hn2]; unfold normB; rw [if_pos hq]
          (rcases ht.sl with ⟨rfl, hc0, hn0⟩ | ⟨j, rfl, hLj, hj⟩
           · have ho : ∀ X, (b ++ [X])[0]? = some (.cells [.nils] 134 true) := fun X => at_old hbox [X]
             have ho2 : ∀ X Y, (b ++ [X] ++ [Y])[0]? = some (.cells [.nils] 134 true) := fun X Y => at_old (ho X) [Y]
             simp only [vcS, ↓Xn, ↓Xo, ↓Xg, ↓Xd, ↓Xe, ↓Xf, XQ, XG, gvU, setR, orN, Yl, Xm, Yn, Yi, Xa, Ym, Xc, Xc.sizeIs, reS, Xj, Yb, mmS, Xq, dstS, srcS, XP, XN, XO, Yc, XA, Yg, Xy, XE, endV, gdst, Yk, XR, Yd, goR, XC, sBox, XU, XH, Xr, sNil, XL, Xt, XV, Xv, goD, valD, XI, XF, XB, dNil, XK, XD, dBox, dN, Xz, opL, idxs, pv, XX, Ya, XJ, Xb, Xu, oBin, oUn, Ye, XW, Xw, Xx, Xh, Xk, XY, XS, oLen, lenS, Yh, ev, lk, Vc.put, fits, kd, sz, Tryz.VΓ, Tryz.Γs, bin, binI, binS, ifK, ar, eqB, eqS, eqK, eqK.eqF, negB, bnds, optE, XM, Vc.cells, isV, Vc.one, Xs, getB, setB, XZ, Xp, Xi, Yf, Xl, XT, resS, tupS, ofV, Yj, Nat.reduceAdd, Nat.reduceSub, Nat.reduceLT, Nat.reduceLeDiff, reduceIte, reduceCtorEq, Nat.reduceEqDiff, implies_true, forall_const, lawV, h0, h1, h6, h7, hbox, at_new, ho, ho2]
             refine ⟨by omega, ⟨by unfold maxLen; omega, by omega⟩, ⟨by omega, by omega⟩, no_mk (i' := i + 2 + 1) (x := .o (b ++ [Res.own [u8S (v)] 5 1 1 true]).length 1) (d := d ++ [v]) h0 h1 h6 (by simp only [lk, reduceIte, Option.some.injEq, SV.int.injEq, true_and]; omega) ⟨by omega, by simp; omega⟩ (by simp) (txt_one ht hbl (v) rfl) (hn3) (by omega)⟩
           · have hlj : d.length = d.length := rfl
             have ho : ∀ X, (b ++ [X])[j]? = some (.own (d.map u8S) 5 1 d.length true) := fun X => at_old hj [X]
             have ho2 : ∀ X Y, ((b ++ [X]).set j .gone ++ [Y])[0]? = some (.cells [.o j d.length] 134 true) := fun X Y => by
               rw [List.getElem?_append_left (by simp), List.getElem?_set_ne (by omega)]; exact at_old hbox [X]
             simp only [vcS, ↓Xn, ↓Xo, ↓Xg, ↓Xd, ↓Xe, ↓Xf, XQ, XG, gvU, setR, orN, Yl, Xm, Yn, Yi, Xa, Ym, Xc, Xc.sizeIs, reS, Xj, Yb, mmS, Xq, dstS, srcS, XP, XN, XO, Yc, XA, Yg, Xy, XE, endV, gdst, Yk, XR, Yd, goR, XC, sBox, XU, XH, Xr, sNil, XL, Xt, XV, Xv, goD, valD, XI, XF, XB, dNil, XK, XD, dBox, dN, Xz, opL, idxs, pv, XX, Ya, XJ, Xb, Xu, oBin, oUn, Ye, XW, Xw, Xx, Xh, Xk, XY, XS, oLen, lenS, Yh, ev, lk, Vc.put, fits, kd, sz, Tryz.VΓ, Tryz.Γs, bin, binI, binS, ifK, ar, eqB, eqS, eqK, eqK.eqF, negB, bnds, optE, XM, Vc.cells, isV, Vc.one, Xs, getB, setB, XZ, Xp, Xi, Yf, Xl, XT, resS, tupS, ofV, Yj, Nat.reduceAdd, Nat.reduceSub, Nat.reduceLT, Nat.reduceLeDiff, reduceIte, reduceCtorEq, Nat.reduceEqDiff, implies_true, forall_const, lawV, h0, h1, h6, h7, hbox, at_new, ho, ho2]
             refine ⟨by omega, ⟨by unfold maxLen; omega, by omega⟩, ⟨by omega, by omega⟩, no_mk (i' := i + 2 + 1) (x := .o (b ++ [Res.own [u8S (v)] 5 1 1 true]).length (d.length + 1)) (d := d ++ [v]) h0 h1 h6 (by simp only [lk, reduceIte, Option.some.injEq, SV.int.injEq, true_and]; omega) ⟨by omega, by simp; omega⟩ (by simp) (txt_more ht hbl (v) hLj) (hn3) (by omega)⟩)
        · have hn3 : comb (d ++ esc v) (normU also (units (s.drop (i + 2 + 1)))) = normU also (units s) := by
            rw [← hn2]; unfold normB; rw [if_neg (by simp [hq])]
          refine callV_sc (sc_escape ht hbl (by omega) v) ?_
          rintro r b' ⟨rfl, x', ht', hbl', -⟩
          simp only [vcS, ↓Xn, ↓Xo, ↓Xg, ↓Xd, ↓Xe, ↓Xf, XQ, XG, gvU, setR, orN, Yl, Xm, Yn, Yi, Xa, Ym, Xc, Xc.sizeIs, reS, Xj, Yb, mmS, Xq, dstS, srcS, XP, XN, XO, Yc, XA, Yg, Xy, XE, endV, gdst, Yk, XR, Yd, goR, XC, sBox, XU, XH, Xr, sNil, XL, Xt, XV, Xv, goD, valD, XI, XF, XB, dNil, XK, XD, dBox, dN, Xz, opL, idxs, pv, XX, Ya, XJ, Xb, Xu, oBin, oUn, Ye, XW, Xw, Xx, Xh, Xk, XY, XS, oLen, lenS, Yh, ev, lk, Vc.put, fits, kd, sz, Tryz.VΓ, Tryz.Γs, bin, binI, binS, ifK, ar, eqB, eqS, eqK, eqK.eqF, negB, bnds, optE, XM, Vc.cells, isV, Vc.one, Xs, getB, setB, XZ, Xp, Xi, Yf, Xl, XT, resS, tupS, ofV, Yj, Nat.reduceAdd, Nat.reduceSub, Nat.reduceLT, Nat.reduceLeDiff, reduceIte, reduceCtorEq, Nat.reduceEqDiff, implies_true, forall_const, lawV, h0, h1, h6, h7]
          exact ⟨⟨by omega, by omega⟩, no_mk (i' := i + 2 + 1) (d := d ++ esc v) h0 h1 h6 (by simp only [lk, reduceIte, Option.some.injEq, SV.int.injEq, true_and]; omega) ⟨by omega, by simp [esc]; omega⟩ (by omega) ht' hn3 (by omega)⟩
    · rw [byte_is (n := 37) hlt 37 rfl] at hc
      rw [if_neg (by simpa using hc)] at hu
      rw [hu, normU] at hn
      rw [hg]
      have hn2 : keepB also s[i] = true → comb (d ++ [s[i]]) (normU also (units (s.drop (i + 1)))) = normU also (units s) := fun hk => by
        rw [← hn, if_pos hk, comb_comb]
      (refine callV_pc (p_IsUnreserved s[i]) ?_; simp only [vcS, ↓Xn, ↓Xo, ↓Xg, ↓Xd, ↓Xe, ↓Xf, XQ, XG, gvU, setR, orN, Yl, Xm, Yn, Yi, Xa, Ym, Xc, Xc.sizeIs, reS, Xj, Yb, mmS, Xq, dstS, srcS, XP, XN, XO, Yc, XA, Yg, Xy, XE, endV, gdst, Yk, XR, Yd, goR, XC, sBox, XU, XH, Xr, sNil, XL, Xt, XV, Xv, goD, valD, XI, XF, XB, dNil, XK, XD, dBox, dN, Xz, opL, idxs, pv, XX, Ya, XJ, Xb, Xu, oBin, oUn, Ye, XW, Xw, Xx, Xh, Xk, XY, XS, oLen, lenS, Yh, ev, lk, Vc.put, fits, kd, sz, Tryz.VΓ, Tryz.Γs, bin, binI, binS, ifK, ar, eqB, eqS, eqK, eqK.eqF, negB, bnds, optE, XM, Vc.cells, isV, Vc.one, Xs, getB, setB, XZ, Xp, Xi, Yf, Xl, XT, resS, tupS, ofV, Yj, Nat.reduceAdd, Nat.reduceSub, Nat.reduceLT, Nat.reduceLeDiff, reduceIte, reduceCtorEq, Nat.reduceEqDiff, implies_true, forall_const, lawV, h0, h1, h6, h7, hg])
      refine ⟨fun hq => ?_, fun hq => ?_⟩
      · (refine callV_pc (p_IndexByte also s[i]) ?_; simp only [vcS, ↓Xn, ↓Xo, ↓Xg, ↓Xd, ↓Xe, ↓Xf, XQ, XG, gvU, setR, orN, Yl, Xm, Yn, Yi, Xa, Ym, Xc, Xc.sizeIs, reS, Xj, Yb, mmS, Xq, dstS, srcS, XP, XN, XO, Yc, XA, Yg, Xy, XE, endV, gdst, Yk, XR, Yd, goR, XC, sBox, XU, XH, Xr, sNil, XL, Xt, XV, Xv, goD, valD, XI, XF, XB, dNil, XK, XD, dBox, dN, Xz, opL, idxs, pv, XX, Ya, XJ, Xb, Xu, oBin, oUn, Ye, XW, Xw, Xx, Xh, Xk, XY, XS, oLen, lenS, Yh, ev, lk, Vc.put, fits, kd, sz, Tryz.VΓ, Tryz.Γs, bin, binI, binS, ifK, ar, eqB, eqS, eqK, eqK.eqF, negB, bnds, optE, XM, Vc.cells, isV, Vc.one, Xs, getB, setB, XZ, Xp, Xi, Yf, Xl, XT, resS, tupS, ofV, Yj, Nat.reduceAdd, Nat.reduceSub, Nat.reduceLT, Nat.reduceLeDiff, reduceIte, reduceCtorEq, Nat.reduceEqDiff, implies_true, forall_const, lawV, h0, h1, h6, h7, hg])
        rw [idx_geq]
        refine ⟨fun hq2 => ?_, fun hq2 => ?_⟩
        · have hk : keepB also s[i] = true := by unfold keepB; rw [hq2]; simp
          (rcases ht.sl with ⟨rfl, hc0, hn0⟩ | ⟨j, rfl, hLj, hj⟩
           · have ho : ∀ X, (b ++ [X])[0]? = some (.cells [.nils] 134 true) := fun X => at_old hbox [X]
             have ho2 : ∀ X Y, (b ++ [X] ++ [Y])[0]? = some (.cells [.nils] 134 true) := fun X Y => at_old (ho X) [Y]
             simp only [vcS, ↓Xn, ↓Xo, ↓Xg, ↓Xd, ↓Xe, ↓Xf, XQ, XG, gvU, setR, orN, Yl, Xm, Yn, Yi, Xa, Ym, Xc, Xc.sizeIs, reS, Xj, Yb, mmS, Xq, dstS, srcS, XP, XN, XO, Yc, XA, Yg, Xy, XE, endV, gdst, Yk, XR, Yd, goR, XC, sBox, XU, XH, Xr, sNil, XL, Xt, XV, Xv, goD, valD, XI, XF, XB, dNil, XK, XD, dBox, dN, Xz, opL, idxs, pv, XX, Ya, XJ, Xb, Xu, oBin, oUn, Ye, XW, Xw, Xx, Xh, Xk, XY, XS, oLen, lenS, Yh, ev, lk, Vc.put, fits, kd, sz, Tryz.VΓ, Tryz.Γs, bin, binI, binS, ifK, ar, eqB, eqS, eqK, eqK.eqF, negB, bnds, optE, XM, Vc.cells, isV, Vc.one, Xs, getB, setB, XZ, Xp, Xi, Yf, Xl, XT, resS, tupS, ofV, Yj, Nat.reduceAdd, Nat.reduceSub, Nat.reduceLT, Nat.reduceLeDiff, reduceIte, reduceCtorEq, Nat.reduceEqDiff, implies_true, forall_const, lawV, h0, h1, h6, h7, hbox, at_new, ho, ho2]
             refine ⟨by omega, ⟨by unfold maxLen; omega, by omega⟩, ⟨by omega, by omega⟩, no_mk (i' := i + 1) (x := .o (b ++ [Res.own [u8S (s[i])] 5 1 1 true]).length 1) (d := d ++ [s[i]]) h0 h1 h6 (by simp only [lk, reduceIte, Option.some.injEq, SV.int.injEq, true_and]; omega) ⟨by omega, by simp; omega⟩ (by simp) (txt_one ht hbl (s[i]) rfl) (hn2 hk) (by omega)⟩
           · have hlj : d.length = d.length := rfl
             have ho : ∀ X, (b ++ [X])[j]? = some (.own (d.map u8S) 5 1 d.length true) := fun X => at_old hj [X]
             have ho2 : ∀ X Y, ((b ++ [X]).set j .gone ++ [Y])[0]? = some (.cells [.o j d.length] 134 true) := fun X Y => by
               rw [List.getElem?_append_left (by simp), List.getElem?_set_ne (by omega)]; exact at_old hbox [X]
             simp only [vcS, ↓Xn, ↓Xo, ↓Xg, ↓Xd, ↓Xe, ↓Xf, XQ, XG, gvU, setR, orN, Yl, Xm, Yn, Yi, Xa, Ym, Xc, Xc.sizeIs, reS, Xj, Yb, mmS, Xq, dstS, srcS, XP, XN, XO, Yc, XA, Yg, Xy, XE, endV, gdst, Yk, XR, Yd, goR, XC, sBox, XU, XH, Xr, sNil, XL, Xt, XV, Xv, goD, valD, XI, XF, XB, dNil, XK, XD, dBox, dN, Xz, opL, idxs, pv, XX, Ya, XJ, Xb, Xu, oBin, oUn, Ye, XW, Xw, Xx, Xh, Xk, XY, XS, oLen, lenS, Yh, ev, lk, Vc.put, fits, kd, sz, Tryz.VΓ, Tryz.Γs, bin, binI, binS, ifK, ar, eqB, eqS, eqK, eqK.eqF, negB, bnds, optE, XM, Vc.cells, isV, Vc.one, Xs, getB, setB, XZ, Xp, Xi, Yf, Xl, XT, resS, tupS, ofV, Yj, Nat.reduceAdd, Nat.reduceSub, Nat.reduceLT, Nat.reduceLeDiff, reduceIte, reduceCtorEq, Nat.reduceEqDiff, implies_true, forall_const, lawV, h0, h1, h6, h7, hbox, at_new, ho, ho2]
             refine ⟨by omega, ⟨by unfold maxLen; omega, by omega⟩, ⟨by omega, by omega⟩, no_mk (i' := i + 1) (x := .o (b ++ [Res.own [u8S (s[i])] 5 1 1 true]).length (d.length + 1)) (d := d ++ [s[i]]) h0 h1 h6 (by simp only [lk, reduceIte, Option.some.injEq, SV.int.injEq, true_and]; omega) ⟨by omega, by simp; omega⟩ (by simp) (txt_more ht hbl (s[i]) hLj) (hn2 hk) (by omega)⟩)
        · have hk : ¬ keepB also s[i] = true := by unfold keepB; rw [hq, hq2]; simp
          rw [if_neg hk] at hn
          have hres : normU also (units s) = ([], 1) := by rw [← hn]; rfl
          rw [hres]
      · have hk : keepB also s[i] = true := by unfold keepB; rw [hq]; simp
        (rcases ht.sl with ⟨rfl, hc0, hn0⟩ | ⟨j, rfl, hLj, hj⟩
         · have ho : ∀ X, (b ++ [X])[0]? = some (.cells [.nils] 134 true) := fun X => at_old hbox [X]
           have ho2 : ∀ X Y, (b ++ [X] ++ [Y])[0]? = some (.cells [.nils] 134 true) := fun X Y => at_old (ho X) [Y]
           simp only [vcS, ↓Xn, ↓Xo, ↓Xg, ↓Xd, ↓Xe, ↓Xf, XQ, XG, gvU, setR, orN, Yl, Xm, Yn, Yi, Xa, Ym, Xc, Xc.sizeIs, reS, Xj, Yb, mmS, Xq, dstS, srcS, XP, XN, XO, Yc, XA, Yg, Xy, XE, endV, gdst, Yk, XR, Yd, goR, XC, sBox, XU, XH, Xr, sNil, XL, Xt, XV, Xv, goD, valD, XI, XF, XB, dNil, XK, XD, dBox, dN, Xz, opL, idxs, pv, XX, Ya, XJ, Xb, Xu, oBin, oUn, Ye, XW, Xw, Xx, Xh, Xk, XY, XS, oLen, lenS, Yh, ev, lk, Vc.put, fits, kd, sz, Tryz.VΓ, Tryz.Γs, bin, binI, binS, ifK, ar, eqB, eqS, eqK, eqK.eqF, negB, bnds, optE, XM, Vc.cells, isV, Vc.one, Xs, getB, setB, XZ, Xp, Xi, Yf, Xl, XT, resS, tupS, ofV, Yj, Nat.reduceAdd, Nat.reduceSub, Nat.reduceLT, Nat.reduceLeDiff, reduceIte, reduceCtorEq, Nat.reduceEqDiff, implies_true, forall_const, lawV, h0, h1, h6, h7, hbox, at_new, ho, ho2]
           refine ⟨by omega, ⟨by unfold maxLen; omega, by omega⟩, ⟨by omega, by omega⟩, no_mk (i' := i + 1) (x := .o (b ++ [Res.own [u8S (s[i])] 5 1 1 true]).length 1) (d := d ++ [s[i]]) h0 h1 h6 (by simp only [lk, reduceIte, Option.some.injEq, SV.int.injEq, true_and]; omega) ⟨by omega, by simp; omega⟩ (by simp) (txt_one ht hbl (s[i]) rfl) (hn2 hk) (by omega)⟩
         · have hlj : d.length = d.length := rfl
           have ho : ∀ X, (b ++ [X])[j]? = some (.own (d.map u8S) 5 1 d.length true) := fun X => at_old hj [X]
           have ho2 : ∀ X Y, ((b ++ [X]).set j .gone ++ [Y])[0]? = some (.cells [.o j d.length] 134 true) := fun X Y => by
             rw [List.getElem?_append_left (by simp), List.getElem?_set_ne (by omega)]; exact at_old hbox [X]
           simp only [vcS, ↓Xn, ↓Xo, ↓Xg, ↓Xd, ↓Xe, ↓Xf, XQ, XG, gvU, setR, orN, Yl, Xm, Yn, Yi, Xa, Ym, Xc, Xc.sizeIs, reS, Xj, Yb, mmS, Xq, dstS, srcS, XP, XN, XO, Yc, XA, Yg, Xy, XE, endV, gdst, Yk, XR, Yd, goR, XC, sBox, XU, XH, Xr, sNil, XL, Xt, XV, Xv, goD, valD, XI, XF, XB, dNil, XK, XD, dBox, dN, Xz, opL, idxs, pv, XX, Ya, XJ, Xb, Xu, oBin, oUn, Ye, XW, Xw, Xx, Xh, Xk, XY, XS, oLen, lenS, Yh, ev, lk, Vc.put, fits, kd, sz, Tryz.VΓ, Tryz.Γs, bin, binI, binS, ifK, ar, eqB, eqS, eqK, eqK.eqF, negB, bnds, optE, XM, Vc.cells, isV, Vc.one, Xs, getB, setB, XZ, Xp, Xi, Yf, Xl, XT, resS, tupS, ofV, Yj, Nat.reduceAdd, Nat.reduceSub, Nat.reduceLT, Nat.reduceLeDiff, reduceIte, reduceCtorEq, Nat.reduceEqDiff, implies_true, forall_const, lawV, h0, h1, h6, h7, hbox, at_new, ho, ho2]
           refine ⟨by omega, ⟨by unfold maxLen; omega, by omega⟩, ⟨by omega, by omega⟩, no_mk (i' := i + 1) (x := .o (b ++ [Res.own [u8S (s[i])] 5 1 1 true]).length (d.length + 1)) (d := d ++ [s[i]]) h0 h1 h6 (by simp only [lk, reduceIte, Option.some.injEq, SV.int.injEq, true_and]; omega) ⟨by omega, by simp; omega⟩ (by simp) (txt_more ht hbl (s[i]) hLj) (hn2 hk) (by omega)⟩)
  · have hie : i = s.length := by omega
    subst hie
    rw [List.drop_length, units_nil] at hn
    have hres : normU also (units s) = (d, 0) := by rw [← hn]; simp [normU, comb]
    rw [hres]
    rcases ht.sl with ⟨rfl, hc0, hn0⟩ | ⟨j, rfl, hLj, hj⟩
    · obtain rfl : d = [] := by simpa using hc0
      simp only [vcS, ↓Xn, ↓Xo, ↓Xg, ↓Xd, ↓Xe, ↓Xf, XQ, XG, gvU, setR, orN, Yl, Xm, Yn, Yi, Xa, Ym, Xc, Xc.sizeIs, reS, Xj, Yb, mmS, Xq, dstS, srcS, XP, XN, XO, Yc, XA, Yg, Xy, XE, endV, gdst, Yk, XR, Yd, goR, XC, sBox, XU, XH, Xr, sNil, XL, Xt, XV, Xv, goD, valD, XI, XF, XB, dNil, XK, XD, dBox, dN, Xz, opL, idxs, pv, XX, Ya, XJ, Xb, Xu, oBin, oUn, Ye, XW, Xw, Xx, Xh, Xk, XY, XS, oLen, lenS, Yh, ev, lk, Vc.put, fits, kd, sz, Tryz.VΓ, Tryz.Γs, bin, binI, binS, ifK, ar, eqB, eqS, eqK, eqK.eqF, negB, bnds, optE, XM, Vc.cells, isV, Vc.one, Xs, getB, setB, XZ, Xp, Xi, Yf, Xl, XT, resS, tupS, ofV, Yj, Nat.reduceAdd, Nat.reduceSub, Nat.reduceLT, Nat.reduceLeDiff, reduceIte, reduceCtorEq, Nat.reduceEqDiff, implies_true, forall_const, lawV, h0, h1, h6, h7, hbox]
      exact fun h => (by simp at h)
    · simp only [vcS, ↓Xn, ↓Xo, ↓Xg, ↓Xd, ↓Xe, ↓Xf, XQ, XG, gvU, setR, orN, Yl, Xm, Yn, Yi, Xa, Ym, Xc, Xc.sizeIs, reS, Xj, Yb, mmS, Xq, dstS, srcS, XP, XN, XO, Yc, XA, Yg, Xy, XE, endV, gdst, Yk, XR, Yd, goR, XC, sBox, XU, XH, Xr, sNil, XL, Xt, XV, Xv, goD, valD, XI, XF, XB, dNil, XK, XD, dBox, dN, Xz, opL, idxs, pv, XX, Ya, XJ, Xb, Xu, oBin, oUn, Ye, XW, Xw, Xx, Xh, Xk, XY, XS, oLen, lenS, Yh, ev, lk, Vc.put, fits, kd, sz, Tryz.VΓ, Tryz.Γs, bin, binI, binS, ifK, ar, eqB, eqS, eqK, eqK.eqF, negB, bnds, optE, XM, Vc.cells, isV, Vc.one, Xs, getB, setB, XZ, Xp, Xi, Yf, Xl, XT, resS, tupS, ofV, Yj, Nat.reduceAdd, Nat.reduceSub, Nat.reduceLT, Nat.reduceLeDiff, reduceIte, reduceCtorEq, Nat.reduceEqDiff, implies_true, forall_const, lawV, h0, h1, h6, h7, hbox, hj]
      refine ⟨fun h => absurd h (by simp), fun _ => ⟨isU8_map d, ?_⟩⟩
      rw [unU8_map]
end Go.Proofs.YtcndmooeglfilaaGreatDoor
/- The walks of package uri: schemes. -/
set_option linter.all false
namespace Go.Proofs.YtcndmooeglfilaaGreatDoor
open Go.RowKit Wf
attribute [local go_sem] ex_list app_list get_list
theorem scheme_one {s : Bytes} (h : 0 < s.length) (ha : isAlpha s[0] = true) : schemeOk (s.take 1) = true := by
  cases s with
  | nil => simp at h
  | cons c r => simp at ha; simp [schemeOk, ha]
theorem scheme_one_no {s : Bytes} (h : 0 < s.length) (ha : isAlpha s[0] = false) : schemeOk s = false := by
  cases s with
  | nil => simp at h
  | cons c r => simp at ha; simp [schemeOk, ha]
theorem scheme_snoc {s : Bytes} {k : Nat} (h0 : 0 < k) (h : k < s.length) (ht : schemeOk (s.take k) = true) (hc : schemeC s[k] = true) : schemeOk (s.take (k + 1)) = true := by
  cases s with
  | nil => simp at h
  | cons c r =>
    obtain ⟨j, rfl⟩ : ∃ j, k = j + 1 := ⟨k - 1, by omega⟩
    rw [List.take_succ_cons] at ht ⊢
    unfold schemeOk at ht ⊢
    simp only [Bool.and_eq_true] at ht ⊢
    exact ⟨ht.1, all_take_snoc (by simpa using h) ht.2 (by simpa using hc)⟩
theorem scheme_no {s : Bytes} {k : Nat} (h0 : 0 < k) (h : k < s.length) (hc : schemeC s[k] = false) : schemeOk s = false := by
  cases s with
  | nil => simp at h
  | cons c r =>
    obtain ⟨j, rfl⟩ : ∃ j, k = j + 1 := ⟨k - 1, by omega⟩
    have := all_not (p := schemeC) (s := r) (k := j) (by simpa using h) (by simpa using hc)
    show (isAlpha c && r.all schemeC) = false
    rw [this]; simp
theorem plus_idx (c : UInt8) : ([43, 45, 46].contains c = true → 0 ≤ Lib.indexByte [43, 45, 46] c) ∧ ([43, 45, 46].contains c = false → Lib.indexByte [43, 45, 46] c = -1) := by
  have h := all256 (p := fun c => decide (([43, 45, 46].contains c = true → 0 ≤ Lib.indexByte [43, 45, 46] c) ∧ ([43, 45, 46].contains c = false → Lib.indexByte [43, 45, 46] c = -1))) (by decide +kernel) c
  exact of_decide_eq_true h
set_option maxHeartbeats 1000000 in
theorem uri_scheme (s : Bytes) (w : World) (hs : s.length ≤ 9223372036854775807) :
    Calls Tryz.prog 155 #[(Value.string ⟨List.toArray (s)⟩)] w fun e w' => e = .returned (.bool (schemeOk s)) ∧ w = w' := by
  go_enter Tryz.func155, Tryz.ntmps155
  go_wp2_with fail
  go_loop [6] (fun i => ∃ k : Nat, k ≤ s.length ∧ i = .int .i64 k ∧ (k = 0 ∨ schemeOk (s.take k) = true)) (fun i => s.length - (intOf i).toNat)
  case atStart => exact ⟨0, by omega, rfl, .inl rfl⟩
  case round =>
    obtain ⟨k, hk, rfl, hr⟩ := hrel
    have Hr := hid hr
    clear hr
    by_cases hlt : k < s.length
    · cases ha : isAlpha s[k]
      · by_cases h0 : k = 0
        · subst h0
          have Hq := hid (scheme_one_no hlt ha)
          go_wp2_with (first
            | (go_at_call 185; refine (ascii_IsAlpha _ _).mono ?_; rintro e w' ⟨rfl, rfl⟩)
            | (go_at_call 144; refine (ascii_IsDigit _ _).mono ?_; rintro e w' ⟨rfl, rfl⟩)
            | (go_at_call 141; refine (s_IndexByte [43, 45, 46] _ _).mono ?_; rintro e w' ⟨rfl, rfl⟩))
          go_ret
          exact ⟨ret_bool Hq.out.symm, rfl⟩
        · have hk0 : ((k : Int) == 0) = false := by simp [h0]
          have Hr2 := hid (Hr.out.resolve_left h0)
          obtain ⟨p1, p2⟩ := plus_idx s[k]
          cases hd : isDigit s[k]
          · cases hp : [43, 45, 46].contains s[k]
            · have p3 := p2 hp
              have Hq := hid (scheme_no (by omega) hlt (by unfold schemeC; rw [ha, hd, hp]; rfl))
              clear p1 p2 hp
              go_wp2_with (first
                | (go_at_call 185; refine (ascii_IsAlpha _ _).mono ?_; rintro e w' ⟨rfl, rfl⟩)
                | (go_at_call 144; refine (ascii_IsDigit _ _).mono ?_; rintro e w' ⟨rfl, rfl⟩)
                | (go_at_call 141; refine (s_IndexByte [43, 45, 46] _ _).mono ?_; rintro e w' ⟨rfl, rfl⟩))
              go_ret
              exact ⟨ret_bool Hq.out.symm, rfl⟩
            · have p3 := p1 hp
              have Hn := hid (scheme_snoc (by omega) hlt Hr2.out (by unfold schemeC; rw [hp]; simp))
              clear p1 p2 hp
              go_wp2_with (first
                | (go_at_call 185; refine (ascii_IsAlpha _ _).mono ?_; rintro e w' ⟨rfl, rfl⟩)
                | (go_at_call 144; refine (ascii_IsDigit _ _).mono ?_; rintro e w' ⟨rfl, rfl⟩)
                | (go_at_call 141; refine (s_IndexByte [43, 45, 46] _ _).mono ?_; rintro e w' ⟨rfl, rfl⟩))
              go_round
              case rel => exact ⟨k + 1, by omega, by go_num, .inr Hn.out⟩
              case measure => simp [intOf]; omega
          · have Hn := hid (scheme_snoc (by omega) hlt Hr2.out (by unfold schemeC; rw [hd]; simp))
            clear p1 p2
            go_wp2_with (first
              | (go_at_call 185; refine (ascii_IsAlpha _ _).mono ?_; rintro e w' ⟨rfl, rfl⟩)
              | (go_at_call 144; refine (ascii_IsDigit _ _).mono ?_; rintro e w' ⟨rfl, rfl⟩)
              | (go_at_call 141; refine (s_IndexByte [43, 45, 46] _ _).mono ?_; rintro e w' ⟨rfl, rfl⟩))
            go_round
            case rel => exact ⟨k + 1, by omega, by go_num, .inr Hn.out⟩
            case measure => simp [intOf]; omega
      · have Hn : Hid (schemeOk (s.take (k + 1)) = true) := hid (by
          rcases Hr.out with rfl | hr
          · exact scheme_one hlt ha
          · by_cases h0 : k = 0
            · subst h0; exact scheme_one hlt ha
            · exact scheme_snoc (by omega) hlt hr (by unfold schemeC; rw [ha]; rfl))
        go_wp2_with (first
          | (go_at_call 185; refine (ascii_IsAlpha _ _).mono ?_; rintro e w' ⟨rfl, rfl⟩)
          | (go_at_call 144; refine (ascii_IsDigit _ _).mono ?_; rintro e w' ⟨rfl, rfl⟩)
          | (go_at_call 141; refine (s_IndexByte [43, 45, 46] _ _).mono ?_; rintro e w' ⟨rfl, rfl⟩))
        go_round
        case rel => exact ⟨k + 1, by omega, by go_num, .inr Hn.out⟩
        case measure => simp [intOf]; omega
    · cases hem : s.isEmpty
      · have Hq : Hid (schemeOk s = true) := hid (by
          rcases Hr.out with rfl | hr
          · cases s <;> simp at hem hlt
          · rw [List.take_of_length_le (by omega)] at hr; exact hr)
        go_wp2_with fail
        go_ret
        exact ⟨ret_bool Hq.out.symm, rfl⟩
      · have Hq : Hid (schemeOk s = false) := hid (by cases s <;> simp at hem <;> rfl)
        go_wp2_with fail
        go_ret
        exact ⟨ret_bool Hq.out.symm, rfl⟩
end Go.Proofs.YtcndmooeglfilaaGreatDoor
