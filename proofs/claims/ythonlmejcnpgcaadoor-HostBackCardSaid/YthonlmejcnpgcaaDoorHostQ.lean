/- Plain laws of package host: what is read back, and how long labels may be. -/
import Derived.Test.YthonlmejcnpgcaaDoorHostP
namespace Wf
open Go Go.RowKit
theorem lowerC_all (c : UInt8) : lowerC (lowerC c) = lowerC c ∧ ldh (lowerC c) = ldh c ∧ isDigit (lowerC c) = isDigit c ∧ (lowerC c == 45) = (c == 45) ∧ (lowerC c == 46) = (c == 46) ∧ (lowerC c == 58) = (c == 58) ∧ (isDigit c = true → lowerC c = c) := by
  have h := all256 (p := fun c => decide (lowerC (lowerC c) = lowerC c ∧ ldh (lowerC c) = ldh c ∧ isDigit (lowerC c) = isDigit c ∧ (lowerC c == 45) = (c == 45) ∧ (lowerC c == 46) = (c == 46) ∧ (lowerC c == 58) = (c == 58) ∧ (isDigit c = true → lowerC c = c))) (by decide +kernel) c
  exact of_decide_eq_true h
theorem lower_lower (s : Bytes) : lower (lower s) = lower s := by
  unfold lower; rw [List.map_map]; apply List.map_congr_left; intro c _; exact (lowerC_all c).1
theorem lower_length (s : Bytes) : (lower s).length = s.length := by unfold lower; simp
theorem lower_isEmpty (s : Bytes) : (lower s).isEmpty = s.isEmpty := by unfold lower; cases s <;> rfl
theorem lower_all {p : UInt8 → Bool} (hp : ∀ c, p (lowerC c) = p c) (s : Bytes) : (lower s).all p = s.all p := by
  unfold lower; rw [List.all_map]; congr 1; funext c; exact hp c
theorem lower_digits {s : Bytes} (h : s.all isDigit = true) : lower s = s := by
  unfold lower
  rw [List.all_eq_true] at h
  conv => rhs; rw [← List.map_id s]
  apply List.map_congr_left; intro c hc; exact (lowerC_all c).2.2.2.2.2.2 (h c hc)
theorem labelOk_lower (s : Bytes) : labelOk (lower s) = labelOk s := by
  unfold labelOk
  rw [lower_isEmpty, lower_length, lower_all (fun c => (lowerC_all c).2.1)]
  have h1 : ((lower s).head? == some 45) = (s.head? == some 45) := by
    unfold lower; rw [List.head?_map]; cases s.head? with
    | none => rfl
    | some c => simpa using (lowerC_all c).2.2.2.1
  have h2 : ((lower s).getLast? == some 45) = (s.getLast? == some 45) := by
    unfold lower; rw [List.getLast?_map]; cases s.getLast? with
    | none => rfl
    | some c => simpa using (lowerC_all c).2.2.2.1
  rw [h1, h2]
theorem digitsOk_lower (s : Bytes) : digitsOk (lower s) = digitsOk s := by
  unfold digitsOk; rw [lower_isEmpty, lower_all (fun c => (lowerC_all c).2.2.1)]
theorem splitC_lower (s : Bytes) : splitC 46 (lower s) = (splitC 46 s).map lower := by
  induction s with
  | nil => rfl
  | cons x r ih =>
    have hx := (lowerC_all x).2.2.2.2.1
    rw [show lower (x :: r) = lowerC x :: lower r from rfl, splitC, splitC, hx, ih]
    cases x == 46
    · simp only [Bool.false_eq_true, if_false]
      cases splitC 46 r <;> rfl
    · rfl
theorem numStrict_lower (m : Nat) (s : Bytes) : numStrict m (lower s) = numStrict m s := by
  cases h : s.all isDigit
  · have hd : digitsOk s = false := by unfold digitsOk; simp [h]
    have hl : (lower s).all isDigit = false := by rw [lower_all (fun c => (lowerC_all c).2.2.1), h]
    unfold numStrict numParse
    rw [digitsOk_lower, hd, hl, h, lower_isEmpty]
    simp
  · rw [lower_digits h]
theorem octetOk_lower (s : Bytes) : octetOk (lower s) = octetOk s := by unfold octetOk; rw [numStrict_lower]
theorem ipv4_lower (s : Bytes) : ipv4 (lower s) = ipv4 s := by
  unfold ipv4
  rw [splitC_lower, List.length_map, List.all_map]
  congr 2; funext x; exact octetOk_lower x
theorem nameL_lower (l : List Bytes) : nameL (l.map lower) = nameL l := by
  induction l with
  | nil => rfl
  | cons x r ih =>
    cases r with
    | nil => simp only [List.map, nameL, labelOk_lower, digitsOk_lower]
    | cons y r => simp only [List.map_cons, nameL, labelOk_lower] at ih ⊢; rw [ih]
theorem nameOk_lower (s : Bytes) : nameOk (lower s) = nameOk s := by unfold nameOk; rw [splitC_lower, nameL_lower]
theorem hostM_ok {s x : Bytes} (h : hostM s = (x, 0)) : x = lower s ∧ x.length ≤ 253 ∧ hostM x = (x, 0) := by
  unfold hostM at h
  cases h1 : s.isEmpty
  · rw [h1] at h
    by_cases h2 : 253 < s.length
    · simp [h2] at h
    · cases h3 : (!ipv4 s && !nameOk s)
      · simp [h2, h3] at h
        subst h
        refine ⟨rfl, by rw [lower_length]; omega, ?_⟩
        unfold hostM
        rw [lower_isEmpty, lower_length, ipv4_lower, nameOk_lower, h1, h3, lower_lower]
        simp [h2]
      · simp [h2, h3] at h
  · rw [h1] at h; simp at h
theorem pre_lower (s : Bytes) : pre (· == 58) (lower s) = pre (· == 58) s := by
  induction s with
  | nil => rfl
  | cons x r ih =>
    rw [show lower (x :: r) = lowerC x :: lower r from rfl, pre_cons, pre_cons, ih, (lowerC_all x).2.2.2.2.2.1]
theorem pre_take (p : UInt8 → Bool) (s : Bytes) : pre p (s.take (pre p s)) = (s.take (pre p s)).length := by
  induction s with
  | nil => rfl
  | cons x r ih =>
    rw [pre_cons]
    cases hx : p x
    · simp [pre_cons, hx]
      have := ih; simp at this; omega
    · rfl
theorem cutC_fst (c : UInt8) (s : Bytes) : pre (· == c) (cutC c s).1 = (cutC c s).1.length := by
  unfold cutC
  by_cases h : pre (· == c) s < s.length
  · rw [if_pos h]; exact pre_take _ s
  · rw [if_neg h]; have := pre_le (· == c) s; show pre (· == c) s = s.length; omega
theorem cutC_none {c : UInt8} {s : Bytes} (h : pre (· == c) s = s.length) : cutC c s = (s, [], false) := by
  unfold cutC; rw [if_neg (by omega)]
theorem pre_app {p : UInt8 → Bool} {x : Bytes} (h : pre p x = x.length) (c : UInt8) (r : Bytes) (hc : p c = true) : pre p (x ++ c :: r) = x.length := by
  induction x with
  | nil => simp [pre_cons, hc]
  | cons y x ih =>
    rw [pre_cons] at h
    cases hy : p y
    · rw [hy] at h; simp at h
      simp [pre_cons, hy, ih h]
    · rw [hy] at h; simp at h
theorem cutC_some {c : UInt8} {x : Bytes} (h : pre (· == c) x = x.length) (r : Bytes) : cutC c (x ++ c :: r) = (x, r, true) := by
  unfold cutC
  rw [pre_app h c r (by simp), if_pos (by simp)]
  simp
theorem hexVal_dig {n : Nat} (h : n < 10) : hexVal (dig n) = n ∧ isDigit (dig n) = true ∧ (dig n = 48 → n = 0) := by
  have h := (by decide +kernel : ∀ n, n < 10 → hexVal (dig n) = n ∧ isDigit (dig n) = true ∧ (dig n = 48 → n = 0)) n h
  exact h
theorem numGo_app {b m : Nat} (r : Bytes) : ∀ (l : Bytes) {a v : Nat}, numGo b m a l = (v, 0) → numGo b m a (l ++ r) = numGo b m v r := by
  intro l
  induction l with
  | nil => intro a v h; simp [numGo] at h; rw [h]; rfl
  | cons c l ih =>
    intro a v h
    rw [numGo] at h
    rw [List.cons_append, numGo]
    by_cases hm : m < a * b + hexVal c
    · rw [if_pos hm] at h; simp at h
    · rw [if_neg hm] at h
      rw [if_neg hm]
      exact ih h
theorem decS_back (m : Nat) : ∀ (k n : Nat), n ≤ k → n ≤ m → numGo 10 m 0 (decS n) = (n, 0) ∧ (decS n).all isDigit = true ∧ (0 < n → (decS n).head? ≠ some 48) := by
  intro k
  induction k with
  | zero =>
    intro n h _
    obtain rfl : n = 0 := by omega
    rw [decS_small (by omega)]
    exact ⟨by simp [numGo, dig, hexVal], by decide, fun h => by omega⟩
  | succ k ih =>
    intro n h hm
    by_cases hn : n < 10
    · rw [decS_small hn]
      obtain ⟨h1, h2, h3⟩ := hexVal_dig hn
      refine ⟨?_, by simp [h2], ?_⟩
      · rw [numGo, h1, if_neg (by omega), numGo]; simp
      · intro h0 he; simp at he; exact absurd (h3 he) (by omega)
    · rw [decS_big hn]
      obtain ⟨h1, h2, h3⟩ := ih (n / 10) (by omega) (by omega)
      obtain ⟨g1, g2, g3⟩ := hexVal_dig (show n % 10 < 10 by omega)
      refine ⟨?_, by rw [List.all_append, h2]; simp [g2], ?_⟩
      · rw [numGo_app _ _ h1, numGo, g1, if_neg (by omega), numGo]
        congr 1; omega
      · intro _
        have := decS_pos (n / 10)
        rw [List.head?_append]
        have h3 := h3 (by omega)
        cases hd : (decS (n / 10)).head? with
        | none => rw [List.head?_eq_none_iff] at hd; rw [hd] at this; simp at this
        | some c => rw [hd] at h3; simpa using h3
theorem portM_dec {n : Nat} (h0 : 0 < n) (h : n ≤ 65535) : portM (decS n) = ((n : Int), 0) := by
  obtain ⟨h1, h2, h3⟩ := decS_back 65535 n n (by omega) h
  have hp := decS_pos n
  have hne : (decS n).isEmpty = false := by cases hd : decS n <;> simp [hd] at hp ⊢
  have hs : numStrict 65535 (decS n) = (n, 0) := by
    unfold numStrict numParse
    rw [if_neg (fun hh => h3 h0 hh.2.2), hne, h2, h1]
    rfl
  unfold portM
  rw [hs]
  have : ¬ n = 0 := by omega
  simp [this]
theorem portM_ok {s : Bytes} {p : Int} (h : portM s = (p, 0)) : 0 < p ∧ p ≤ 65535 := by
  have hle := numStrict_le 65535 s
  unfold portM at h
  split at h
  · simp at h
  · rename_i hc
    simp at h
    subst h
    omega
/-- What a host with a port is, reads back to itself. -/
theorem hostPort_back {s x : Bytes} {p : Int} (h : hostPort s = ((x, p), 0)) : hostPort (hostText x p) = ((x, p), 0) ∧ hostM x = (x, 0) ∧ p ≠ 443 ∧ x.length ≤ 253 ∧ 0 ≤ p ∧ p ≤ 65535 := by
  have hf := cutC_fst 58 s
  unfold hostPort at h
  generalize cutC 58 s = C at hf h
  obtain ⟨first, rest, colon⟩ := C
  simp only at hf h
  generalize hH : hostM first = H at h
  obtain ⟨y, e⟩ := H
  by_cases he : e = 0
  · subst he
    obtain ⟨hy, hlen, hback⟩ := hostM_ok hH
    have hpy : pre (· == 58) y = y.length := by rw [hy, pre_lower, lower_length]; exact hf
    have plain : hostPort (hostText y 0) = ((y, 0), 0) := by
      unfold hostText hostPort
      rw [if_pos rfl, cutC_none hpy, hback]; rfl
    cases colon
    · unfold hostPortOf at h
      simp at h
      obtain ⟨rfl, rfl⟩ := h
      exact ⟨plain, hback, by omega, hlen, by omega, by omega⟩
    · generalize hP : portM rest = P at h
      obtain ⟨q, f⟩ := P
      unfold hostPortOf at h
      by_cases hf0 : f = 0
      · subst hf0
        simp at h
        obtain ⟨rfl, h⟩ := h
        obtain ⟨q0, q1⟩ := portM_ok hP
        by_cases h443 : q = 443
        · rw [if_pos h443] at h
          subst h
          exact ⟨plain, hback, by omega, hlen, by omega, by omega⟩
        · rw [if_neg h443] at h
          subst h
          refine ⟨?_, hback, h443, hlen, by omega, q1⟩
          obtain ⟨n, rfl⟩ : ∃ n : Nat, q = n := ⟨q.toNat, by omega⟩
          unfold hostText hostPort
          rw [if_neg (by omega), if_neg (by omega)]
          have e : y ++ [58] ++ decS (n : Int).natAbs = y ++ 58 :: decS n := by simp
          rw [e, cutC_some hpy]
          simp only [hback, portM_dec (show 0 < n by omega) (show n ≤ 65535 by omega)]
          unfold hostPortOf
          simp [h443]
      · simp [hf0] at h
  · unfold hostPortOf at h
    simp [he] at h
theorem hostPort_err {s x : Bytes} {p e : Int} (h : hostPort s = ((x, p), e)) (he : e ≠ 0) : x = [] ∧ p = 0 := by
  unfold hostPort hostPortOf at h
  split at h
  · simp at h; exact ⟨h.1.1, h.1.2.symm⟩
  · split at h
    · split at h
      · simp at h; exact ⟨h.1.1, h.1.2.symm⟩
      · simp at h; exact absurd h.2.symm he
    · simp at h; exact absurd h.2.symm he
/-- Labels of one letter. -/
def lab (n : Nat) : Bytes := List.replicate n 97
def labs (n : Nat) : Nat → Bytes
  | 0 => lab n
  | k + 1 => labs n k ++ [46] ++ lab n
theorem labs_front (n : Nat) : ∀ k, labs n (k + 1) = lab n ++ 46 :: labs n k := by
  intro k
  induction k with
  | zero => simp [labs]
  | succ k ih =>
    show labs n (k + 1) ++ [46] ++ lab n = lab n ++ 46 :: (labs n k ++ [46] ++ lab n)
    rw [ih]; simp
theorem labs_length (n : Nat) : ∀ k, (labs n k).length = n * (k + 1) + k := by
  intro k
  induction k with
  | zero => simp [labs, lab]
  | succ k ih => rw [labs]; simp [ih, lab]; rw [Nat.mul_add n (k+1) 1]; omega
theorem pre_lab (n : Nat) : pre (· == 46) (lab n) = (lab n).length := by
  unfold lab
  induction n with
  | zero => rfl
  | succ n ih => rw [List.replicate_succ, pre_cons]; simpa using ih
theorem splitC_labs (n : Nat) : ∀ k, splitC 46 (labs n k) = List.replicate (k + 1) (lab n) := by
  intro k
  induction k with
  | zero => exact splitC_miss (by rw [show labs n 0 = lab n from rfl, pre_lab]; omega)
  | succ k ih =>
    rw [labs_front]
    have hp : pre (· == 46) (lab n ++ 46 :: labs n k) = (lab n).length := pre_app (pre_lab n) 46 _ (by decide)
    rw [splitC_hit (by rw [hp]; simp), hp]
    simp [ih, List.replicate_succ]
theorem nameL_rep (x : Bytes) : ∀ k, nameL (List.replicate (k + 1) x) = (labelOk x && !digitsOk x) := by
  intro k
  induction k with
  | zero => rfl
  | succ k ih =>
    rw [List.replicate_succ, List.replicate_succ, nameL, ← List.replicate_succ, ih]
    cases labelOk x <;> simp
theorem lab_facts : ∀ n, n < 71 → 0 < n → octetOk (lab n) = false ∧ labelOk (lab n) = decide (n ≤ 63) ∧ digitsOk (lab n) = false ∧ lower (lab n) = lab n := by decide +kernel
theorem lower_app (a b : Bytes) : lower (a ++ b) = lower a ++ lower b := by unfold lower; simp
theorem lower_labs {n : Nat} (h : lower (lab n) = lab n) : ∀ k, lower (labs n k) = labs n k := by
  intro k
  induction k with
  | zero => exact h
  | succ k ih => rw [labs, lower_app, lower_app, ih, h]; rfl
theorem hostM_labs {n : Nat} (h0 : 0 < n) (h1 : n < 71) (k : Nat) : hostM (labs n k) = if 253 < (labs n k).length then ([], 5) else if 63 < n then ([], 50) else (labs n k, 0) := by
  obtain ⟨f1, f2, f3, f4⟩ := lab_facts n h1 h0
  have hne : (labs n k).isEmpty = false := by
    have hll := labs_length n k
    have hlp : 0 < n * (k + 1) := Nat.mul_pos h0 (Nat.succ_pos k)
    cases hl : labs n k with
    | nil => rw [hl] at hll; simp at hll; omega
    | cons a b => rfl
  have h4 : ipv4 (labs n k) = false := by
    unfold ipv4
    rw [splitC_labs, List.replicate_succ]
    simp [f1]
  have hn : nameOk (labs n k) = decide (n ≤ 63) := by
    unfold nameOk
    rw [splitC_labs, nameL_rep, f2, f3]; simp
  unfold hostM
  rw [hne, h4, hn, lower_labs f4]
  by_cases h : 63 < n
  · have : ¬ n ≤ 63 := by omega
    simp [h, this]
  · have : n ≤ 63 := by omega
    simp [h, this]
end Wf
