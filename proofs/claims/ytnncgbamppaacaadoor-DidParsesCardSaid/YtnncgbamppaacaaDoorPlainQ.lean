/- Plain laws: hosts, URIs, canonical strings, URLs. -/
import Derived.Test.YtnncgbamppaacaaDoorPlain
set_option linter.all false
namespace Wf
open Go Go.RowKit
theorem lowerC_all (c : UInt8) : lowerC (lowerC c) = lowerC c ∧ ldh (lowerC c) = ldh c ∧ isDigit (lowerC c) = isDigit c ∧ (lowerC c == 45) = (c == 45) ∧ (lowerC c == 46) = (c == 46) ∧ (lowerC c == 58) = (c == 58) ∧ (isDigit c = true → lowerC c = c) := by
  have h := all256 (p := fun c => decide (lowerC (lowerC c) = lowerC c ∧ ldh (lowerC c) = ldh c ∧ isDigit (lowerC c) = isDigit c ∧ (lowerC c == 45) = (c == 45) ∧ (lowerC c == 46) = (c == 46) ∧ (lowerC c == 58) = (c == 58) ∧ (isDigit c = true → lowerC c = c))) (by decide +kernel) c
  exact of_decide_eq_true h
theorem lower_lower (s : Bytes) : lower (lower s) = lower s := by
  unfold lower; rw [List.map_map]; apply List.map_congr_left; intro c _; exact (lowerC_all c).1
theorem lower_length (s : Bytes) : (lower s).length = s.length := by unfold lower; simp
theorem lower_isEmpty (s : Bytes) : (lower s).isEmpty = s.isEmpty := by unfold lower; cases s <;> rfl
theorem lower_all {p : UInt8 → Bool} (hp : ∀ c, p (lowerC c) = p c) (s : Bytes) : (lower s).all p = s.all p := by
  unfold lower; rw [List.all_map]; congr 1; funext c; exact hp c
theorem lower_digits {s : Bytes} (h : s.all isDigit = true) : lower s = s := by
  unfold lower
  rw [List.all_eq_true] at h
  conv => rhs; rw [← List.map_id s]
  apply List.map_congr_left; intro c hc; exact (lowerC_all c).2.2.2.2.2.2 (h c hc)
theorem labelOk_lower (s : Bytes) : labelOk (lower s) = labelOk s := by
  unfold labelOk
  rw [lower_isEmpty, lower_length, lower_all (fun c => (lowerC_all c).2.1)]
  have h1 : ((lower s).head? == some 45) = (s.head? == some 45) := by
    unfold lower; rw [List.head?_map]; cases s.head? with
    | none => rfl
    | some c => simpa using (lowerC_all c).2.2.2.1
  have h2 : ((lower s).getLast? == some 45) = (s.getLast? == some 45) := by
    unfold lower; rw [List.getLast?_map]; cases s.getLast? with
    | none => rfl
    | some c => simpa using (lowerC_all c).2.2.2.1
  rw [h1, h2]
theorem digitsOk_lower (s : Bytes) : digitsOk (lower s) = digitsOk s := by
  unfold digitsOk; rw [lower_isEmpty, lower_all (fun c => (lowerC_all c).2.2.1)]
theorem splitC_lower (s : Bytes) : splitC 46 (lower s) = (splitC 46 s).map lower := by
  induction s with
  | nil => rfl
  | cons x r ih =>
    have hx := (lowerC_all x).2.2.2.2.1
    rw [show lower (x :: r) = lowerC x :: lower r from rfl, splitC, splitC, hx, ih]
    cases x == 46
    · simp only [Bool.false_eq_true, if_false]
      cases splitC 46 r <;> rfl
    · rfl
theorem numStrict_lower (m : Nat) (s : Bytes) : numStrict m (lower s) = numStrict m s := by
  cases h : s.all isDigit
  · have hd : digitsOk s = false := by unfold digitsOk; simp [h]
    have hl : (lower s).all isDigit = false := by rw [lower_all (fun c => (lowerC_all c).2.2.1), h]
    unfold numStrict numParse
    rw [digitsOk_lower, hd, hl, h, lower_isEmpty]
    simp
  · rw [lower_digits h]
theorem octetOk_lower (s : Bytes) : octetOk (lower s) = octetOk s := by unfold octetOk; rw [numStrict_lower]
theorem ipv4_lower (s : Bytes) : ipv4 (lower s) = ipv4 s := by
  unfold ipv4
  rw [splitC_lower, List.length_map, List.all_map]
  congr 2; funext x; exact octetOk_lower x
theorem nameL_lower (l : List Bytes) : nameL (l.map lower) = nameL l := by
  induction l with
  | nil => rfl
  | cons x r ih =>
    cases r with
    | nil => simp only [List.map, nameL, labelOk_lower, digitsOk_lower]
    | cons y r => simp only [List.map_cons, nameL, labelOk_lower] at ih ⊢; rw [ih]
theorem nameOk_lower (s : Bytes) : nameOk (lower s) = nameOk s := by unfold nameOk; rw [splitC_lower, nameL_lower]
theorem hostM_ok {s x : Bytes} (h : hostM s = (x, 0)) : x = lower s ∧ x.length ≤ 253 ∧ hostM x = (x, 0) := by
  unfold hostM at h
  cases h1 : s.isEmpty
  · rw [h1] at h
    by_cases h2 : 253 < s.length
    · simp [h2] at h
    · cases h3 : (!ipv4 s && !nameOk s)
      · simp [h2, h3] at h
        subst h
        refine ⟨rfl, by rw [lower_length]; omega, ?_⟩
        unfold hostM
        rw [lower_isEmpty, lower_length, ipv4_lower, nameOk_lower, h1, h3, lower_lower]
        simp [h2]
      · simp [h2, h3] at h
  · rw [h1] at h; simp at h
theorem pre_lower (s : Bytes) : pre (· == 58) (lower s) = pre (· == 58) s := by
  induction s with
  | nil => rfl
  | cons x r ih =>
    rw [show lower (x :: r) = lowerC x :: lower r from rfl, pre_cons, pre_cons, ih, (lowerC_all x).2.2.2.2.2.1]
theorem pre_take (p : UInt8 → Bool) (s : Bytes) : pre p (s.take (pre p s)) = (s.take (pre p s)).length := by
  induction s with
  | nil => rfl
  | cons x r ih =>
    rw [pre_cons]
    cases hx : p x
    · simp [pre_cons, hx]
      have := ih; simp at this; omega
    · rfl
theorem cutC_fst (c : UInt8) (s : Bytes) : pre (· == c) (cutC c s).1 = (cutC c s).1.length := by
  unfold cutC
  by_cases h : pre (· == c) s < s.length
  · rw [if_pos h]; exact pre_take _ s
  · rw [if_neg h]; have := pre_le (· == c) s; show pre (· == c) s = s.length; omega
theorem cutC_none {c : UInt8} {s : Bytes} (h : pre (· == c) s = s.length) : cutC c s = (s, [], false) := by
  unfold cutC; rw [if_neg (by omega)]
theorem pre_app {p : UInt8 → Bool} {x : Bytes} (h : pre p x = x.length) (c : UInt8) (r : Bytes) (hc : p c = true) : pre p (x ++ c :: r) = x.length := by
  induction x with
  | nil => simp [pre_cons, hc]
  | cons y x ih =>
    rw [pre_cons] at h
    cases hy : p y
    · rw [hy] at h; simp at h
      simp [pre_cons, hy, ih h]
    · rw [hy] at h; simp at h
theorem cutC_some {c : UInt8} {x : Bytes} (h : pre (· == c) x = x.length) (r : Bytes) : cutC c (x ++ c :: r) = (x, r, true) := by
  unfold cutC
  rw [pre_app h c r (by simp), if_pos (by simp)]
  simp
theorem hexVal_dig {n : Nat} (h : n < 10) : hexVal (dig n) = n ∧ isDigit (dig n) = true ∧ (dig n = 48 → n = 0) := by
  have h := (by decide +kernel : ∀ n, n < 10 → hexVal (dig n) = n ∧ isDigit (dig n) = true ∧ (dig n = 48 → n = 0)) n h
  exact h
theorem numGo_app {b m : Nat} (r : Bytes) : ∀ (l : Bytes) {a v : Nat}, numGo b m a l = (v, 0) → numGo b m a (l ++ r) = numGo b m v r := by
  intro l
  induction l with
  | nil => intro a v h; simp [numGo] at h; rw [h]; rfl
  | cons c l ih =>
    intro a v h
    rw [numGo] at h
    rw [List.cons_append, numGo]
    by_cases hm : m < a * b + hexVal c
    · rw [if_pos hm] at h; simp at h
    · rw [if_neg hm] at h
      rw [if_neg hm]
      exact ih h
theorem decS_back (m : Nat) : ∀ (k n : Nat), n ≤ k → n ≤ m → numGo 10 m 0 (decS n) = (n, 0) ∧ (decS n).all isDigit = true ∧ (0 < n → (decS n).head? ≠ some 48) := by
  intro k
  induction k with
  | zero =>
    intro n h _
    obtain rfl : n = 0 := by omega
    rw [decS_small (by omega)]
    exact ⟨by simp [numGo, dig, hexVal], by decide, fun h => by omega⟩
  | succ k ih =>
    intro n h hm
    by_cases hn : n < 10
    · rw [decS_small hn]
      obtain ⟨h1, h2, h3⟩ := hexVal_dig hn
      refine ⟨?_, by simp [h2], ?_⟩
      · rw [numGo, h1, if_neg (by omega), numGo]; simp
      · intro h0 he; simp at he; exact absurd (h3 he) (by omega)
    · rw [decS_big hn]
      obtain ⟨h1, h2, h3⟩ := ih (n / 10) (by omega) (by omega)
      obtain ⟨g1, g2, g3⟩ := hexVal_dig (show n % 10 < 10 by omega)
      refine ⟨?_, by rw [List.all_append, h2]; simp [g2], ?_⟩
      · rw [numGo_app _ _ h1, numGo, g1, if_neg (by omega), numGo]
        congr 1; omega
      · intro _
        have := decS_pos (n / 10)
        rw [List.head?_append]
        have h3 := h3 (by omega)
        cases hd : (decS (n / 10)).head? with
        | none => rw [List.head?_eq_none_iff] at hd; rw [hd] at this; simp at this
        | some c => rw [hd] at h3; simpa using h3
theorem portM_dec {n : Nat} (h0 : 0 < n) (h : n ≤ 65535) : portM (decS n) = ((n : Int), 0) := by
  obtain ⟨h1, h2, h3⟩ := decS_back 65535 n n (by omega) h
  have hp := decS_pos n
  have hne : (decS n).isEmpty = false := by cases hd : decS n <;> simp [hd] at hp ⊢
  have hs : numStrict 65535 (decS n) = (n, 0) := by
    unfold numStrict numParse
    rw [if_neg (fun hh => h3 h0 hh.2.2), hne, h2, h1]
    rfl
  unfold portM
  rw [hs]
  have : ¬ n = 0 := by omega
  simp [this]
theorem portM_ok {s : Bytes} {p : Int} (h : portM s = (p, 0)) : 0 < p ∧ p ≤ 65535 := by
  have hle := numStrict_le 65535 s
  unfold portM at h
  split at h
  · simp at h
  · rename_i hc
    simp at h
    subst h
    omega
/-- What a host with a port is, reads back to itself. -/
theorem hostPort_back {s x : Bytes} {p : Int} (h : hostPort s = ((x, p), 0)) : hostPort (hostText x p) = ((x, p), 0) ∧ hostM x = (x, 0) ∧ p ≠ 443 ∧ x.length ≤ 253 ∧ 0 ≤ p ∧ p ≤ 65535 := by
  have hf := cutC_fst 58 s
  unfold hostPort at h
  generalize cutC 58 s = C at hf h
  obtain ⟨first, rest, colon⟩ := C
  simp only at hf h
  generalize hH : hostM first = H at h
  obtain ⟨y, e⟩ := H
  by_cases he : e = 0
  · subst he
    obtain ⟨hy, hlen, hback⟩ := hostM_ok hH
    have hpy : pre (· == 58) y = y.length := by rw [hy, pre_lower, lower_length]; exact hf
    have plain : hostPort (hostText y 0) = ((y, 0), 0) := by
      unfold hostText hostPort
      rw [if_pos rfl, cutC_none hpy, hback]; rfl
    cases colon
    · unfold hostPortOf at h
      simp at h
      obtain ⟨rfl, rfl⟩ := h
      exact ⟨plain, hback, by omega, hlen, by omega, by omega⟩
    · generalize hP : portM rest = P at h
      obtain ⟨q, f⟩ := P
      unfold hostPortOf at h
      by_cases hf0 : f = 0
      · subst hf0
        simp at h
        obtain ⟨rfl, h⟩ := h
        obtain ⟨q0, q1⟩ := portM_ok hP
        by_cases h443 : q = 443
        · rw [if_pos h443] at h
          subst h
          exact ⟨plain, hback, by omega, hlen, by omega, by omega⟩
        · rw [if_neg h443] at h
          subst h
          refine ⟨?_, hback, h443, hlen, by omega, q1⟩
          obtain ⟨n, rfl⟩ : ∃ n : Nat, q = n := ⟨q.toNat, by omega⟩
          unfold hostText hostPort
          rw [if_neg (by omega), if_neg (by omega)]
          have e : y ++ [58] ++ decS (n : Int).natAbs = y ++ 58 :: decS n := by simp
          rw [e, cutC_some hpy]
          simp only [hback, portM_dec (show 0 < n by omega) (show n ≤ 65535 by omega)]
          unfold hostPortOf
          simp [h443]
      · simp [hf0] at h
  · unfold hostPortOf at h
    simp [he] at h
theorem hostPort_err {s x : Bytes} {p e : Int} (h : hostPort s = ((x, p), e)) (he : e ≠ 0) : x = [] ∧ p = 0 := by
  unfold hostPort hostPortOf at h
  split at h
  · simp at h; exact ⟨h.1.1, h.1.2.symm⟩
  · split at h
    · split at h
      · simp at h; exact ⟨h.1.1, h.1.2.symm⟩
      · simp at h; exact absurd h.2.symm he
    · simp at h; exact absurd h.2.symm he
/-- Labels of one letter. -/
def lab (n : Nat) : Bytes := List.replicate n 97
def labs (n : Nat) : Nat → Bytes
  | 0 => lab n
  | k + 1 => labs n k ++ [46] ++ lab n
theorem labs_front (n : Nat) : ∀ k, labs n (k + 1) = lab n ++ 46 :: labs n k := by
  intro k
  induction k with
  | zero => simp [labs]
  | succ k ih =>
    show labs n (k + 1) ++ [46] ++ lab n = lab n ++ 46 :: (labs n k ++ [46] ++ lab n)
    rw [ih]; simp
theorem labs_length (n : Nat) : ∀ k, (labs n k).length = n * (k + 1) + k := by
  intro k
  induction k with
  | zero => simp [labs, lab]
  | succ k ih => rw [labs]; simp [ih, lab]; rw [Nat.mul_add n (k+1) 1]; omega
theorem pre_lab (n : Nat) : pre (· == 46) (lab n) = (lab n).length := by
  unfold lab
  induction n with
  | zero => rfl
  | succ n ih => rw [List.replicate_succ, pre_cons]; simpa using ih
theorem splitC_labs (n : Nat) : ∀ k, splitC 46 (labs n k) = List.replicate (k + 1) (lab n) := by
  intro k
  induction k with
  | zero => exact splitC_miss (by rw [show labs n 0 = lab n from rfl, pre_lab]; omega)
  | succ k ih =>
    rw [labs_front]
    have hp : pre (· == 46) (lab n ++ 46 :: labs n k) = (lab n).length := pre_app (pre_lab n) 46 _ (by decide)
    rw [splitC_hit (by rw [hp]; simp), hp]
    simp [ih, List.replicate_succ]
theorem nameL_rep (x : Bytes) : ∀ k, nameL (List.replicate (k + 1) x) = (labelOk x && !digitsOk x) := by
  intro k
  induction k with
  | zero => rfl
  | succ k ih =>
    rw [List.replicate_succ, List.replicate_succ, nameL, ← List.replicate_succ, ih]
    cases labelOk x <;> simp
theorem lab_facts : ∀ n, n < 71 → 0 < n → octetOk (lab n) = false ∧ labelOk (lab n) = decide (n ≤ 63) ∧ digitsOk (lab n) = false ∧ lower (lab n) = lab n := by decide +kernel
theorem lower_app (a b : Bytes) : lower (a ++ b) = lower a ++ lower b := by unfold lower; simp
theorem lower_labs {n : Nat} (h : lower (lab n) = lab n) : ∀ k, lower (labs n k) = labs n k := by
  intro k
  induction k with
  | zero => exact h
  | succ k ih => rw [labs, lower_app, lower_app, ih, h]; rfl
theorem hostM_labs {n : Nat} (h0 : 0 < n) (h1 : n < 71) (k : Nat) : hostM (labs n k) = if 253 < (labs n k).length then ([], 5) else if 63 < n then ([], 50) else (labs n k, 0) := by
  obtain ⟨f1, f2, f3, f4⟩ := lab_facts n h1 h0
  have hne : (labs n k).isEmpty = false := by
    have hll := labs_length n k
    have hlp : 0 < n * (k + 1) := Nat.mul_pos h0 (Nat.succ_pos k)
    cases hl : labs n k with
    | nil => rw [hl] at hll; simp at hll; omega
    | cons a b => rfl
  have h4 : ipv4 (labs n k) = false := by
    unfold ipv4
    rw [splitC_labs, List.replicate_succ]
    simp [f1]
  have hn : nameOk (labs n k) = decide (n ≤ 63) := by
    unfold nameOk
    rw [splitC_labs, nameL_rep, f2, f3]; simp
  unfold hostM
  rw [hne, h4, hn, lower_labs f4]
  by_cases h : 63 < n
  · have : ¬ n ≤ 63 := by omega
    simp [h, this]
  · have : n ≤ 63 := by omega
    simp [h, this]
end Wf
namespace Wf
open Go Go.RowKit
theorem uncut (c : UInt8) (s : Bytes) : s = (cutC c s).1 ++ (if (cutC c s).2.2 then [c] ++ (cutC c s).2.1 else []) := by
  unfold cutC
  split
  · rename_i h
    have h2 := pre_at (p := (· == c)) h
    simp only [if_true]
    have : s.drop (pre (· == c) s) = c :: s.drop (pre (· == c) s + 1) := by
      rw [List.drop_eq_getElem_cons h]
      simp only [beq_iff_eq] at h2
      rw [h2]
    rw [List.singleton_append, ← this, List.take_append_drop]
  · simp
theorem uncut_no (c : UInt8) (s : Bytes) (h : (cutC c s).2.2 = false) : (cutC c s).2.1 = [] := by
  unfold cutC at h ⊢
  split
  · rename_i h2; rw [if_pos h2] at h; simp at h
  · rfl
theorem unauth (s : Bytes) : s = (if (authPath s).2.1 then [47, 47] ++ (authPath s).1 else []) ++ (authPath s).2.2 := by
  unfold authPath
  split
  · simp
  · simp
theorem splitRest_back (s fr qu : Bytes) (hf hq : Bool) (h : (splitRest s fr qu hf hq).2 = 0) :
    uriJoin (splitRest s fr qu hf hq).1 = s ++ (if hq then [63] ++ qu else []) ++ (if hf then [35] ++ fr else []) := by
  unfold splitRest at h ⊢
  by_cases h1 : (s.drop (pre colonSlash s)).head? = some 58
  · rw [if_pos h1] at h ⊢
    by_cases h2 : schemeOk (s.take (pre colonSlash s))
    · rw [if_pos h2] at h ⊢
      have e : s.take (pre colonSlash s) ++ 58 :: s.drop (pre colonSlash s + 1) = s := by
        have : s.drop (pre colonSlash s) = 58 :: s.drop (pre colonSlash s + 1) := by
          cases hd : s.drop (pre colonSlash s) with
          | nil => rw [hd] at h1; simp at h1
          | cons x r =>
            rw [hd] at h1
            simp only [List.head?_cons, Option.some.injEq] at h1
            subst h1
            rw [← List.drop_drop, hd]; rfl
        rw [← this, List.take_append_drop]
      have ha := unauth (s.drop (pre colonSlash s + 1))
      simp only [uriJoin, if_true]
      conv => rhs; rw [← e, ha]
      simp
    · rw [if_neg h2] at h; simp at h
  · rw [if_neg h1] at h ⊢
    have ha := unauth s
    simp only [uriJoin, Bool.false_eq_true, if_false, List.nil_append]
    conv => rhs; rw [ha]
theorem m_back (s : Bytes) (h : (uriSplit s).2 = 0) : uriJoin (uriSplit s).1 = s := by
  unfold uriSplit at h ⊢
  by_cases hl : 16384 < s.length
  · rw [if_pos hl] at h; simp at h
  · rw [if_neg hl] at h ⊢
    rw [splitRest_back _ _ _ _ _ h]
    have h1 := uncut 35 s
    have h2 := uncut 63 (cutC 35 s).1
    conv => rhs; rw [h1, h2]
theorem m_err (s : Bytes) (h : (uriSplit s).2 ≠ 0) : (uriSplit s).1 = Uri.none := by
  unfold uriSplit at h ⊢
  by_cases hl : 16384 < s.length
  · rw [if_pos hl]
  · rw [if_neg hl] at h ⊢
    unfold splitRest at h ⊢
    by_cases h1 : (((cutC 63 (cutC 35 s).1).1).drop (pre colonSlash (cutC 63 (cutC 35 s).1).1)).head? = some 58
    · rw [if_pos h1] at h ⊢
      by_cases h2 : schemeOk ((cutC 63 (cutC 35 s).1).1.take (pre colonSlash (cutC 63 (cutC 35 s).1).1))
      · rw [if_pos h2] at h; simp at h
      · rw [if_neg h2]
    · rw [if_neg h1] at h; simp at h
theorem m_empty (b : Uri) : uriResolve b Uri.none = { b with fragment := [], hasFrag := false } := rfl
theorem m_scheme (b u : Uri) (h : u.hasScheme = true) : uriResolve b u = uriResolve Uri.none u := by
  unfold uriResolve; rw [if_pos h, if_pos h]
/-! paths that begin with a slash -/
def absP (l : List Bytes) : Bytes := l.flatMap (47 :: ·)
def goodSeg (s : Bytes) : Prop := (47 : UInt8) ∉ s ∧ s ≠ [46] ∧ s ≠ [46, 46]
theorem absP_cons (x : Bytes) (l : List Bytes) : absP (x :: l) = 47 :: (x ++ absP l) := rfl
theorem absP_app (l : List Bytes) (x : Bytes) : absP (l ++ [x]) = absP l ++ 47 :: x := by
  unfold absP; simp
theorem absP_head (l : List Bytes) : absP l = [] ∨ ∃ r, absP l = 47 :: r := by
  cases l with
  | nil => exact .inl rfl
  | cons x l => exact .inr ⟨_, rfl⟩
theorem pre_noslash {x : Bytes} (h : (47 : UInt8) ∉ x) (l : List Bytes) : pre (· == 47) (x ++ absP l) = x.length := by
  induction x with
  | nil =>
    rcases absP_head l with e | ⟨r, e⟩
    · simp [e, pre_nil]
    · simp [e, pre_cons]
  | cons c x ih =>
    simp only [List.mem_cons, not_or] at h
    rw [List.cons_append, pre_cons, if_neg (by simp; exact fun e => h.1 e.symm), ih h.2]
    rfl
theorem shorten_abs (l : List Bytes) (x : Bytes) (h : (47 : UInt8) ∉ x) : shorten (absP (l ++ [x])) = absP l := by
  rw [absP_app]
  unfold shorten
  rw [List.reverse_append, List.reverse_cons, List.append_assoc]
  have : (x.reverse ++ ([47] ++ (absP l).reverse)).dropWhile (· != 47) = [47] ++ (absP l).reverse := by
    rw [List.dropWhile_append_of_pos]
    · simp
    · intro c hc
      simp only [List.mem_reverse] at hc
      simp
      rintro rfl
      exact h hc
  rw [this]
  simp
theorem shorten_nil : shorten [] = [] := rfl
/-- What the removal of dots gives from a path that begins with a slash. -/
theorem dotsGo_abs : ∀ (f : Nat) (p : Bytes) (l : List Bytes), p.length ≤ f → (p = [] ∨ ∃ r, p = 47 :: r) → (p = [] → l ≠ []) → (∀ x ∈ l, goodSeg x) → ∃ l', dotsGo f p (absP l) = absP l' ∧ l' ≠ [] ∧ ∀ x ∈ l', goodSeg x := by
  intro f
  induction f with
  | zero =>
    intro p l hp _ hn hg
    have : p = [] := List.length_eq_zero_iff.1 (by omega)
    exact ⟨l, rfl, hn this, hg⟩
  | succ f ih =>
    intro p l hp hs hn hg
    rw [dotsGo]
    rcases hs with rfl | ⟨r, rfl⟩
    · exact ⟨l, by rw [if_pos rfl], hn rfl, hg⟩
    · rw [if_neg (by simp)]
      have hsh : ∃ l2, shorten (absP l) = absP l2 ∧ ∀ x ∈ l2, goodSeg x := by
        rcases List.eq_nil_or_concat l with rfl | ⟨l2, x, rfl⟩
        · exact ⟨[], rfl, by simp⟩
        · refine ⟨l2, ?_, fun y hy => hg y (by simp [hy])⟩
          have := hg x (by simp)
          simpa using shorten_abs l2 x this.1
      obtain ⟨l2, hl2, hg2⟩ := hsh
      unfold dotStep
      rw [if_neg (by simp [List.isPrefixOf]), if_neg (by simp [List.isPrefixOf])]
      by_cases c1 : [47, 46, 47].isPrefixOf (47 :: r)
      · rw [if_pos c1]
        obtain ⟨q, hq⟩ := List.isPrefixOf_iff_prefix.1 c1
        simp only [List.cons_append, List.nil_append, List.cons.injEq, true_and] at hq
        subst hq
        exact ih _ l (by simp at hp ⊢; omega) (.inr ⟨q, rfl⟩) (by simp) hg
      rw [if_neg c1]
      by_cases c2 : (47 :: r) = [47, 46]
      · rw [if_pos c2]
        rw [c2] at hp
        exact ih _ l (by simp at hp ⊢; omega) (.inr ⟨[], rfl⟩) (by simp) hg
      rw [if_neg c2]
      by_cases c3 : [47, 46, 46, 47].isPrefixOf (47 :: r)
      · rw [if_pos c3]
        obtain ⟨q, hq⟩ := List.isPrefixOf_iff_prefix.1 c3
        simp only [List.cons_append, List.nil_append, List.cons.injEq, true_and] at hq
        subst hq
        simp only [hl2]
        exact ih _ l2 (by simp at hp ⊢; omega) (.inr ⟨q, rfl⟩) (by simp) hg2
      rw [if_neg c3]
      by_cases c4 : (47 :: r) = [47, 46, 46]
      · rw [if_pos c4]
        rw [c4] at hp
        simp only [hl2]
        exact ih _ l2 (by simp at hp ⊢; omega) (.inr ⟨[], rfl⟩) (by simp) hg2
      rw [if_neg c4, if_neg (by simp)]
      simp only [List.drop_succ_cons, List.drop_zero]
      have hseg : goodSeg (r.take (pre (· == 47) r)) := by
        refine ⟨fun hm => ?_, fun e => ?_, fun e => ?_⟩
        · obtain ⟨k, hk, hk2⟩ := List.getElem_of_mem hm
          rw [List.length_take] at hk
          have := pre_get (p := (· == 47)) (l := r) (k := k) (by omega) (by omega)
          rw [List.getElem_take] at hk2
          simp [hk2] at this
        · have hp1 := congrArg List.length e
          simp only [List.length_take, List.length_cons, List.length_nil] at hp1
          have hr := List.take_append_drop (pre (· == 47) r) r
          rw [e] at hr
          cases hd : r.drop (pre (· == 47) r) with
          | nil => rw [hd] at hr; exact c2 (by rw [← hr]; rfl)
          | cons y t =>
            have hlt : pre (· == 47) r < r.length := by
              apply Nat.lt_of_not_le; intro h; rw [List.drop_of_length_le h] at hd; cases hd
            have := pre_at (p := (· == 47)) hlt
            rw [List.drop_eq_getElem_cons hlt] at hd
            simp only [List.cons.injEq] at hd
            rw [hd.1] at this
            simp only [beq_iff_eq] at this
            subst this
            rw [List.drop_eq_getElem_cons hlt, hd.1] at hr
            exact c1 (by rw [← hr]; simp [List.isPrefixOf])
        · have hp1 := congrArg List.length e
          simp only [List.length_take, List.length_cons, List.length_nil] at hp1
          have hr := List.take_append_drop (pre (· == 47) r) r
          rw [e] at hr
          cases hd : r.drop (pre (· == 47) r) with
          | nil => rw [hd] at hr; exact c4 (by rw [← hr]; rfl)
          | cons y t =>
            have hlt : pre (· == 47) r < r.length := by
              apply Nat.lt_of_not_le; intro h; rw [List.drop_of_length_le h] at hd; cases hd
            have := pre_at (p := (· == 47)) hlt
            rw [List.drop_eq_getElem_cons hlt] at hd
            simp only [List.cons.injEq] at hd
            rw [hd.1] at this
            simp only [beq_iff_eq] at this
            subst this
            rw [List.drop_eq_getElem_cons hlt, hd.1] at hr
            exact c3 (by rw [← hr]; simp [List.isPrefixOf])
      have e1 : (47 :: r).drop (1 + pre (· == 47) r) = r.drop (pre (· == 47) r) := by rw [Nat.add_comm]; rfl
      have e2 : (47 :: r).take (1 + pre (· == 47) r) = 47 :: r.take (pre (· == 47) r) := by rw [Nat.add_comm]; rfl
      rw [e1, e2, ← absP_app]
      refine ih _ _ (by simp at hp ⊢; omega) ?_ (by simp) (fun x hx => ?_)
      · by_cases hlt : pre (· == 47) r < r.length
        · right
          have := pre_at (p := (· == 47)) hlt
          simp only [beq_iff_eq] at this
          exact ⟨_, by rw [List.drop_eq_getElem_cons hlt, this]⟩
        · left
          exact List.drop_of_length_le (by omega)
      · simp only [List.mem_append, List.mem_singleton] at hx
        rcases hx with hx | rfl
        · exact hg x hx
        · exact hseg
theorem removeDots_abs (r : Bytes) : ∃ l, removeDots (47 :: r) = absP l ∧ l ≠ [] ∧ ∀ x ∈ l, goodSeg x :=
  dotsGo_abs _ _ [] (Nat.le_refl _) (.inr ⟨r, rfl⟩) (by simp) (by simp)
theorem dotsGo_same : ∀ (l : List Bytes) (f : Nat) (out : Bytes), (absP l).length ≤ f → (∀ x ∈ l, goodSeg x) → dotsGo f (absP l) out = out ++ absP l
  | [], f, out, _, _ => by cases f <;> simp [absP, dotsGo]
  | x :: l, f, out, hf, hg => by
    rw [absP_cons] at hf ⊢
    obtain ⟨f, rfl⟩ : ∃ k, f = k + 1 := ⟨f - 1, by simp at hf; omega⟩
    rw [dotsGo, if_neg (by simp)]
    obtain ⟨h1, h2, h3⟩ := hg x (by simp)
    have hpre := pre_noslash h1 l
    have seg : ∀ (y : Bytes), (47 : UInt8) ∉ y → y ≠ x → ¬ (47 :: (y ++ [47])).isPrefixOf (47 :: (x ++ absP l)) = true := fun y hy hne hp => by
      obtain ⟨q, hq⟩ := List.isPrefixOf_iff_prefix.1 hp
      simp only [List.cons_append, List.append_assoc, List.cons.injEq, true_and] at hq
      have hpy := pre_noslash hy [q]
      have e : y ++ absP [q] = x ++ absP l := by rw [← hq]; simp [absP]
      rw [e, hpre] at hpy
      have := List.append_inj_left e hpy.symm
      exact hne this
    have seg2 : ∀ (y : Bytes), (47 : UInt8) ∉ y → y ≠ x → (47 :: (x ++ absP l)) ≠ 47 :: y := fun y hy hne he => by
      simp only [List.cons.injEq, true_and] at he
      have hpy : pre (· == 47) y = y.length := by simpa [absP] using pre_noslash hy []
      rw [← he, hpre, List.length_append] at hpy
      have h0 : absP l = [] := List.length_eq_zero_iff.1 (by omega)
      rw [h0, List.append_nil] at he
      exact hne he.symm
    have hd : dotStep (47 :: (x ++ absP l)) out = (absP l, out ++ 47 :: x) := by
      unfold dotStep
      rw [if_neg (by simp [List.isPrefixOf]), if_neg (by simp [List.isPrefixOf]), if_neg (show ¬ ([47, 46, 47] : Bytes).isPrefixOf _ = true from seg [46] (by decide) (fun e => h2 e.symm)), if_neg (seg2 [46] (by decide) (fun e => h2 e.symm)), if_neg (show ¬ ([47, 46, 46, 47] : Bytes).isPrefixOf _ = true from seg [46, 46] (by decide) (fun e => h3 e.symm)), if_neg (seg2 [46, 46] (by decide) (fun e => h3 e.symm)), if_neg (by simp)]
      simp only [List.drop_succ_cons, List.drop_zero, hpre]
      rw [Nat.add_comm]
      simp
    rw [hd]
    rw [dotsGo_same l f _ (by simp at hf; omega) (fun y hy => hg y (by simp [hy]))]
    simp
theorem removeDots_clean (r : Bytes) : removeDots (removeDots (47 :: r)) = removeDots (47 :: r) := by
  obtain ⟨l, h1, h2, h3⟩ := removeDots_abs r
  rw [h1]
  unfold removeDots
  rw [dotsGo_same l _ _ (Nat.le_refl _) h3]
  rfl
theorem splitC_abs : ∀ (l : List Bytes), l ≠ [] → (∀ x ∈ l, (47 : UInt8) ∉ x) → splitC 47 (absP l) = [] :: l
  | [], h, _ => absurd rfl h
  | x :: l, _, hg => by
    rw [absP_cons]
    have hx := hg x (by simp)
    rw [splitC, if_pos (by simp)]
    congr 1
    have hpre := pre_noslash hx l
    cases l with
    | nil =>
      simp only [absP, List.flatMap_nil, List.append_nil] at hpre ⊢
      rw [splitC_miss (by omega)]
    | cons y l =>
      rw [splitC_hit (by rw [hpre]; simp [absP_cons]), hpre]
      have ih := splitC_abs (y :: l) (by simp) (fun z hz => hg z (by simp [hz]))
      rw [absP_cons, splitC, if_pos (by simp)] at ih
      simp only [List.cons.injEq, true_and] at ih
      rw [absP_cons]
      simp [ih]
theorem clean_segs (r : Bytes) : (∃ q, removeDots (47 :: r) = 47 :: q) ∧ ∀ x ∈ splitC 47 (removeDots (47 :: r)), x ≠ [46] ∧ x ≠ [46, 46] := by
  obtain ⟨l, h1, h2, h3⟩ := removeDots_abs r
  rw [h1]
  constructor
  · cases l with
    | nil => exact absurd rfl h2
    | cons x l => exact ⟨_, rfl⟩
  · rw [splitC_abs l h2 (fun x hx => (h3 x hx).1)]
    intro x hx
    simp only [List.mem_cons] at hx
    rcases hx with rfl | hx
    · simp
    · exact (h3 x hx).2
end Wf
namespace Wf
open Go Go.RowKit
/-- Made of canonical parts. -/
def Can (also s : Bytes) : Prop := ∃ l : List PU, s = l.flatMap PU.str ∧ ∀ x ∈ l, canU also x
theorem can_nil (also : Bytes) : Can also [] := ⟨[], rfl, by simp⟩
theorem can_app {also a b : Bytes} (ha : Can also a) (hb : Can also b) : Can also (a ++ b) := by
  obtain ⟨l, rfl, h1⟩ := ha
  obtain ⟨m, rfl, h2⟩ := hb
  exact ⟨l ++ m, by simp, fun x hx => by
    rcases List.mem_append.1 hx with h | h
    · exact h1 x h
    · exact h2 x h⟩
theorem can_one {also : Bytes} {c : UInt8} (h : keepB also c = true) (hc : c ≠ 37) : Can also [c] := ⟨[.lit c], rfl, fun x hx => by
  obtain rfl := List.mem_singleton.1 hx; exact ⟨h, hc⟩⟩
theorem can_esc (also : Bytes) {c : UInt8} (h : unres c = false) : Can also (esc c) := ⟨[.hex (hexU (c.toNat / 16)) (hexU (c.toNat % 16))], rfl, fun x hx => by
  obtain rfl := List.mem_singleton.1 hx
  have hn := c.toNat_lt
  have hv := unhex_esc c
  exact ⟨by rw [hv]; exact h, by rw [hv], by rw [hv], hexU_hex _ (by omega), hexU_hex _ (by omega)⟩⟩
theorem can_tail {also : Bytes} {c : UInt8} {r : Bytes} (hc : c ≠ 37) (h : Can also (c :: r)) : keepB also c = true ∧ Can also r := by
  obtain ⟨l, e, h1⟩ := h
  cases l with
  | nil => simp at e
  | cons x l =>
    have hx := h1 x List.mem_cons_self
    rw [List.flatMap_cons] at e
    cases x with
    | lit d =>
      simp only [PU.str, List.singleton_append, List.cons.injEq] at e
      obtain ⟨rfl, rfl⟩ := e
      exact ⟨hx.1, l, rfl, fun y hy => h1 y (List.mem_cons_of_mem _ hy)⟩
    | hex a b =>
      simp only [PU.str, List.cons_append, List.nil_append, List.cons.injEq] at e
      exact absurd e.1 hc
    | bad => exact hx.elim
theorem can_split {also : Bytes} {c : UInt8} (hc : c ≠ 37) (hx : isHex c = false) : ∀ (l : List PU) (a b : Bytes), (∀ x ∈ l, canU also x) → a ++ c :: b = l.flatMap PU.str → Can also a ∧ Can also (c :: b)
  | [], a, b, _, e => by simp at e
  | .lit d :: l, [], b, h, e => ⟨can_nil _, _, e, h⟩
  | .lit d :: l, y :: a, b, h, e => by
    rw [List.flatMap_cons] at e
    simp only [PU.str, List.singleton_append, List.cons_append, List.cons.injEq] at e
    obtain ⟨rfl, e⟩ := e
    obtain ⟨h1, h2⟩ := can_split hc hx l a b (fun y hy => h y (List.mem_cons_of_mem _ hy)) e
    have hy := h _ List.mem_cons_self
    exact ⟨can_app (a := [y]) (can_one hy.1 hy.2) h1, h2⟩
  | .hex u v :: l, [], b, h, e => by
    rw [List.flatMap_cons] at e
    simp only [PU.str, List.nil_append, List.cons_append, List.cons.injEq] at e
    exact absurd e.1 hc
  | .hex u v :: l, [x], b, h, e => by
    rw [List.flatMap_cons] at e
    simp only [PU.str, List.nil_append, List.cons_append, List.cons.injEq] at e
    have := (h _ List.mem_cons_self).2.2.2.1
    rw [← e.2.1, hx] at this; cases this
  | .hex u v :: l, [x, y], b, h, e => by
    rw [List.flatMap_cons] at e
    simp only [PU.str, List.nil_append, List.cons_append, List.cons.injEq] at e
    have := (h _ List.mem_cons_self).2.2.2.2
    rw [← e.2.2.1, hx] at this; cases this
  | .hex u v :: l, x :: y :: z :: a, b, h, e => by
    rw [List.flatMap_cons] at e
    simp only [PU.str, List.nil_append, List.cons_append, List.cons.injEq] at e
    obtain ⟨rfl, rfl, rfl, e⟩ := e
    obtain ⟨h1, h2⟩ := can_split hc hx l a b (fun y hy => h y (List.mem_cons_of_mem _ hy)) e
    refine ⟨can_app (a := [37, y, z]) ⟨[.hex y z], rfl, fun x hx => ?_⟩ h1, h2⟩
    obtain rfl := List.mem_singleton.1 hx
    exact h _ List.mem_cons_self
  | .bad :: l, a, b, h, e => (h _ List.mem_cons_self).elim
theorem Can.split {also a b : Bytes} {c : UInt8} (hc : c ≠ 37) (hx : isHex c = false) (h : Can also (a ++ c :: b)) : Can also a ∧ Can also (c :: b) := by
  obtain ⟨l, e, h1⟩ := h
  exact can_split hc hx l a b h1 e
theorem can_bytes {also s : Bytes} (h : Can also s) : ∀ c ∈ s, keepB also c = true ∨ c = 37 ∨ isHex c = true := by
  obtain ⟨l, rfl, h1⟩ := h
  intro c hc
  obtain ⟨x, hx, hcx⟩ := List.mem_flatMap.1 hc
  have hk := h1 x hx
  cases x with
  | lit d =>
    obtain rfl := List.mem_singleton.1 hcx
    exact .inl hk.1
  | hex a b =>
    simp only [PU.str, List.mem_cons, List.not_mem_nil, or_false] at hcx
    rcases hcx with rfl | rfl | rfl
    · exact .inr (.inl rfl)
    · exact .inr (.inr hk.2.2.2.1)
    · exact .inr (.inr hk.2.2.2.2)
  | bad => exact hk.elim
theorem can_norm {also s : Bytes} (h : Can also s) (hl : s.length ≤ 16384) : pctNorm also s = (s, 0) := by
  obtain ⟨l, rfl, h1⟩ := h
  unfold pctNorm
  rw [if_neg (by omega), units_can also l h1, normU_can also l h1]
theorem norm_can {also s : Bytes} (h : (pctNorm also s).2 = 0) : Can also (pctNorm also s).1 := by
  unfold pctNorm at h ⊢
  split at h
  · simp at h
  · rename_i hs
    rw [if_neg hs]
    obtain ⟨l', e, h1, -, -⟩ := normU_parts also (units s) (units_litne s) h
    exact ⟨l', e, h1⟩
/-- Cut before a slash or at the end. -/
theorem can_cut {also s : Bytes} (n : Nat) (hd : s.drop n = [] ∨ ∃ r, s.drop n = 47 :: r) (h : Can also s) : Can also (s.take n) ∧ Can also (s.drop n) := by
  rcases hd with hd | ⟨r, hd⟩
  · rw [hd]
    have e : s.take n = s := List.take_of_length_le (by simpa using hd)
    rw [e]; exact ⟨h, can_nil _⟩
  · rw [hd]
    have e : s = s.take n ++ 47 :: r := by rw [← hd, List.take_append_drop]
    rw [e] at h
    exact h.split (by decide) (by decide)
theorem drop_pre (s : Bytes) : s.drop (pre (· == 47) s) = [] ∨ ∃ r, s.drop (pre (· == 47) s) = 47 :: r := by
  by_cases h : pre (· == 47) s < s.length
  · right
    have := pre_at h
    simp only [beq_iff_eq] at this
    exact ⟨s.drop (pre (· == 47) s + 1), by rw [List.drop_eq_getElem_cons h, this]⟩
  · left; simp; omega
theorem shorten_split (s : Bytes) : shorten s = [] ∨ ∃ r, s = shorten s ++ 47 :: r := by
  unfold shorten
  have key : ∀ t : Bytes, t.dropWhile (· != 47) = [] ∨ ∃ a b, t = a ++ 47 :: b ∧ t.dropWhile (· != 47) = 47 :: b := by
    intro t
    induction t with
    | nil => left; rfl
    | cons x t ih =>
      by_cases hx : x = 47
      · subst hx
        right; exact ⟨[], t, rfl, by simp⟩
      · rw [List.dropWhile_cons_of_pos (by simp [hx])]
        rcases ih with ih | ⟨a, b, h1, h2⟩
        · left; exact ih
        · right; exact ⟨x :: a, b, by rw [h1]; rfl, h2⟩
  rcases key s.reverse with h | ⟨a, b, h1, h2⟩
  · left; rw [h]; rfl
  · right
    rw [h2]
    refine ⟨a.reverse, ?_⟩
    have := congrArg List.reverse h1
    rw [List.reverse_reverse] at this
    rw [this]; simp
theorem can_shorten {also s : Bytes} (h : Can also s) : Can also (shorten s) := by
  rcases shorten_split s with e | ⟨r, e⟩
  · rw [e]; exact can_nil _
  · rw [e] at h; exact (h.split (by decide) (by decide)).1
theorem can_dotStep {also p o : Bytes} (h47 : keepB also 47 = true) (hp : Can also p) (ho : Can also o) : Can also (dotStep p o).1 ∧ Can also (dotStep p o).2 := by
  have c47 : Can also [47] := can_one h47 (by decide)
  have drop1 : ∀ {c : UInt8} {r : Bytes}, c ≠ 37 → Can also (c :: r) → Can also r := fun hc h => (can_tail hc h).2
  unfold dotStep
  split
  · rename_i h
    obtain ⟨r, rfl⟩ := List.isPrefixOf_iff_prefix.1 h
    exact ⟨drop1 (by decide) (drop1 (by decide) (drop1 (by decide) hp)), ho⟩
  split
  · rename_i h
    obtain ⟨r, rfl⟩ := List.isPrefixOf_iff_prefix.1 h
    exact ⟨drop1 (by decide) (drop1 (by decide) hp), ho⟩
  split
  · rename_i h
    obtain ⟨r, rfl⟩ := List.isPrefixOf_iff_prefix.1 h
    exact ⟨drop1 (by decide) (drop1 (by decide) hp), ho⟩
  split
  · exact ⟨c47, ho⟩
  split
  · rename_i h
    obtain ⟨r, rfl⟩ := List.isPrefixOf_iff_prefix.1 h
    exact ⟨drop1 (by decide) (drop1 (by decide) (drop1 (by decide) hp)), can_shorten ho⟩
  split
  · exact ⟨c47, can_shorten ho⟩
  split
  · exact ⟨can_nil _, ho⟩
  · have hd : p.drop (1 + pre (· == 47) (p.drop 1)) = [] ∨ ∃ r, p.drop (1 + pre (· == 47) (p.drop 1)) = 47 :: r := by
      rw [← List.drop_drop]; exact drop_pre _
    obtain ⟨h1, h2⟩ := can_cut _ hd hp
    exact ⟨h2, can_app ho h1⟩
theorem can_dotsGo {also : Bytes} (h47 : keepB also 47 = true) : ∀ (f : Nat) (p o : Bytes), Can also p → Can also o → Can also (dotsGo f p o)
  | 0, _, _, _, ho => ho
  | f + 1, p, o, hp, ho => by
    rw [dotsGo]
    split
    · exact ho
    · obtain ⟨h1, h2⟩ := can_dotStep h47 hp ho
      exact can_dotsGo h47 f _ _ h1 h2
theorem can_removeDots {also p : Bytes} (h47 : keepB also 47 = true) (hp : Can also p) : Can also (removeDots p) := can_dotsGo h47 _ _ _ hp (can_nil _)
/-! hosts -/
theorem mem_splitC (d : UInt8) : ∀ (n : Nat) (s : Bytes), s.length ≤ n → ∀ c ∈ s, c = d ∨ ∃ x ∈ splitC d s, c ∈ x
  | 0, s, h, c, hc => by
    obtain rfl := List.length_eq_zero_iff.1 (Nat.le_zero.1 h)
    simp at hc
  | n + 1, s, h, c, hc => by
    by_cases hp : pre (· == d) s < s.length
    · rw [splitC_hit hp]
      have e : s = s.take (pre (· == d) s) ++ d :: s.drop (pre (· == d) s + 1) := by
        have := pre_at hp
        simp only [beq_iff_eq] at this
        conv => lhs; rw [← List.take_append_drop (pre (· == d) s) s, List.drop_eq_getElem_cons hp, this]
      rw [e] at hc
      rcases List.mem_append.1 hc with h1 | h1
      · exact .inr ⟨_, List.mem_cons_self, h1⟩
      · rcases List.mem_cons.1 h1 with h2 | h2
        · exact .inl h2
        · rcases mem_splitC d n _ (by simp; omega) c h2 with h3 | ⟨x, h3, h4⟩
          · exact .inl h3
          · exact .inr ⟨x, List.mem_cons_of_mem _ h3, h4⟩
    · rw [splitC_miss hp]
      exact .inr ⟨s, List.mem_singleton.2 rfl, hc⟩
theorem octet_digits {s : Bytes} (h : octetOk s = true) : s.all isDigit = true := by
  unfold octetOk numStrict at h
  split at h
  · simp at h
  · have := (numParse_err_dig 255 s).1 (.inl (by simpa using h))
    unfold digitsOk at this
    simp only [Bool.and_eq_true] at this
    exact this.2
theorem nameL_mem : ∀ (l : List Bytes), nameL l = true → ∀ x ∈ l, labelOk x = true
  | [], _, x, h => by simp at h
  | [y], h, x, hx => by
    simp only [nameL, Bool.and_eq_true] at h
    obtain rfl := List.mem_singleton.1 hx
    exact h.1
  | y :: z :: r, h, x, hx => by
    simp only [nameL, Bool.and_eq_true] at h
    rcases List.mem_cons.1 hx with rfl | hx
    · exact h.1
    · exact nameL_mem (z :: r) h.2 x hx
theorem hostM_bytes {s x : Bytes} (h : hostM s = (x, 0)) : ∀ c ∈ x, ldh c = true ∨ c = 46 := by
  have hx := (hostM_ok h).2.2
  clear h
  unfold hostM at hx
  split at hx
  · simp at hx
  split at hx
  · simp at hx
  split at hx
  · simp at hx
  · rename_i h3
    intro c hc
    rcases mem_splitC 46 _ x (Nat.le_refl _) c hc with h4 | ⟨y, h4, h5⟩
    · exact .inr h4
    · left
      cases hi : ipv4 x
      · have hn : nameOk x = true := by simpa [hi] using h3
        have := nameL_mem _ hn y h4
        unfold labelOk at this
        simp only [Bool.and_eq_true] at this
        exact List.all_eq_true.1 this.2 c h5
      · unfold ipv4 at hi
        simp only [Bool.and_eq_true] at hi
        have := octet_digits (List.all_eq_true.1 hi.2 y h4)
        have := List.all_eq_true.1 this c h5
        unfold ldh; rw [this]; simp
theorem decS_digits (n : Nat) : ∀ c ∈ decS n, isDigit c = true := fun c hc => List.all_eq_true.1 ((decS_back n n n (Nat.le_refl _) (Nat.le_refl _)).2.1) c hc
theorem hostPort_bytes {s x : Bytes} {p : Int} (h : hostPort s = ((x, p), 0)) : ∀ c ∈ hostText x p, ldh c = true ∨ c = 46 ∨ c = 58 := by
  obtain ⟨-, h1, -, -, h2, -⟩ := hostPort_back h
  have hb := hostM_bytes h1
  unfold hostText
  split
  · intro c hc; exact (hb c hc).imp id .inl
  split
  · omega
  · intro c hc
    rcases List.mem_append.1 hc with hc | hc
    · rcases List.mem_append.1 hc with hc | hc
      · exact (hb c hc).imp id .inl
      · exact .inr (.inr (List.mem_singleton.1 hc))
    · left; unfold ldh; rw [decS_digits _ c hc]; simp
theorem pre_none {c : UInt8} {l : Bytes} (h : c ∉ l) : pre (· == c) l = l.length := by
  induction l with
  | nil => rfl
  | cons x l ih =>
    simp only [List.mem_cons, not_or] at h
    rw [pre_cons, if_neg (by simpa using fun e => h.1 e.symm), ih h.2]; rfl
theorem path_no' {s : Bytes} (h : Can [33, 36, 38, 39, 40, 41, 42, 43, 44, 59, 61, 58, 64, 47] s) : ∀ c ∈ s, c ≠ 63 ∧ c ≠ 35 := by
  intro c hc
  have h1 := can_bytes h c hc
  have := all256 (p := fun c => !(keepB [33, 36, 38, 39, 40, 41, 42, 43, 44, 59, 61, 58, 64, 47] c || c == 37 || isHex c) || (c != 63 && c != 35)) (by decide +kernel) c
  have h2 : (keepB [33, 36, 38, 39, 40, 41, 42, 43, 44, 59, 61, 58, 64, 47] c || c == 37 || isHex c) = true := by rcases h1 with h | rfl | h <;> simp [*]
  rw [h2] at this
  simpa using this
theorem query_no' {s : Bytes} (h : Can [33, 36, 38, 39, 40, 41, 42, 43, 44, 59, 61, 58, 64, 47, 63] s) : (35 : UInt8) ∉ s := by
  intro hc
  have := can_bytes h _ hc
  revert this; decide
end Wf
namespace Wf
open Go Go.RowKit
/-- The parts of a reference are read back. -/
theorem split_join (u : Uri) (h1 : u.scheme = https) (h2 : u.hasScheme = true) (h3 : u.hasAuthority = true) (ha : ∀ c ∈ u.authority, c ≠ 47 ∧ c ≠ 63 ∧ c ≠ 35) (hp : ∃ r, u.path = 47 :: r) (hpb : ∀ c ∈ u.path, c ≠ 63 ∧ c ≠ 35) (hq : (35 : UInt8) ∉ u.query) (hq0 : u.hasQuery = false → u.query = []) (hf0 : u.hasFrag = false → u.fragment = []) (hl : (uriJoin u).length ≤ 16384) :
    uriSplit (uriJoin u) = (u, 0) := by
  obtain ⟨sc, au, pa, qu, fr, b1, b2, b3, b4⟩ := u
  simp only at h1 h2 h3 ha hp hpb hq hq0 hf0
  subst h1 h2 h3
  have c1 : cutC 35 (uriJoin ⟨https, au, pa, qu, fr, true, true, b3, b4⟩) = (https ++ [58] ++ ([47, 47] ++ au) ++ pa ++ (if b3 then [63] ++ qu else []), fr, b4) := by
    have hn : (35 : UInt8) ∉ https ++ [58] ++ ([47, 47] ++ au) ++ pa ++ (if b3 then [63] ++ qu else []) := by
      simp only [List.mem_append, not_or]
      refine ⟨⟨⟨⟨by decide, by decide⟩, by decide, fun h => (ha _ h).2.2 rfl⟩, fun h => (hpb _ h).2 rfl⟩, ?_⟩
      split
      · simp only [List.mem_append, not_or]; exact ⟨by decide, hq⟩
      · simp
    cases b4
    · have : uriJoin ⟨https, au, pa, qu, fr, true, true, b3, false⟩ = https ++ [58] ++ ([47, 47] ++ au) ++ pa ++ (if b3 then [63] ++ qu else []) := by simp [uriJoin]
      rw [this, cutC_none (pre_none hn), hf0 rfl]
    · have : uriJoin ⟨https, au, pa, qu, fr, true, true, b3, true⟩ = (https ++ [58] ++ ([47, 47] ++ au) ++ pa ++ (if b3 then [63] ++ qu else [])) ++ 35 :: fr := by simp [uriJoin]
      rw [this, cutC_some (pre_none hn)]
  have c2 : cutC 63 (https ++ [58] ++ ([47, 47] ++ au) ++ pa ++ (if b3 then [63] ++ qu else [])) = (https ++ [58] ++ ([47, 47] ++ au) ++ pa, qu, b3) := by
    have hn : (63 : UInt8) ∉ https ++ [58] ++ ([47, 47] ++ au) ++ pa := by
      simp only [List.mem_append, not_or]
      exact ⟨⟨⟨by decide, by decide⟩, by decide, fun h => (ha _ h).2.1 rfl⟩, fun h => (hpb _ h).1 rfl⟩
    cases b3
    · rw [if_neg (by simp), List.append_nil, cutC_none (pre_none hn), hq0 rfl]
    · rw [if_pos rfl, List.singleton_append, cutC_some (pre_none hn)]
  unfold uriSplit
  rw [if_neg (by omega), c1]
  simp only
  rw [c2]
  simp only
  obtain ⟨r, rfl⟩ := hp
  have e : https ++ [58] ++ ([47, 47] ++ au) ++ 47 :: r = 104 :: 116 :: 116 :: 112 :: 115 :: 58 :: 47 :: 47 :: (au ++ 47 :: r) := by simp [https]
  have p5 : pre colonSlash (104 :: 116 :: 116 :: 112 :: 115 :: 58 :: 47 :: 47 :: (au ++ 47 :: r)) = 5 := by
    simp only [pre_cons]
    rw [if_neg (by decide), if_neg (by decide), if_neg (by decide), if_neg (by decide), if_neg (by decide), if_pos (by decide)]
  have pa : pre (· == 47) (au ++ 47 :: r) = au.length := pre_app (pre_none (fun h => (ha _ h).1 rfl)) 47 r (by decide)
  rw [e]
  unfold splitRest
  rw [p5]
  simp only [List.drop_succ_cons, List.drop_zero, List.take_succ_cons, List.take_zero, List.head?_cons, if_true, authPath, pa, List.take_left, List.drop_left]
  rw [if_pos (by decide)]
  rfl
def urlUri (u : Url) : Uri := ⟨https, hostText u.host u.port, u.path, u.query, u.fragment, true, true, u.hasQuery, u.hasFrag⟩
theorem urlText_join (u : Url) : urlText u = uriJoin (urlUri u) := by
  unfold urlText uriJoin urlUri urlTarget
  cases u.hasQuery <;> simp [https]
structure CanUrl (u : Url) : Prop where
  host : hostPort (hostText u.host u.port) = ((u.host, u.port), 0)
  path : Can inPath u.path
  slash : ∃ r, u.path = 47 :: r
  dots : removeDots u.path = u.path
  query : Can inQuery u.query
  frag : Can inQuery u.fragment
  noq : u.hasQuery = false → u.query = []
  nof : u.hasFrag = false → u.fragment = []
  len : (urlText u).length ≤ 4096
theorem host_no {x : Bytes} {p : Int} (h : hostPort (hostText x p) = ((x, p), 0)) : ∀ c ∈ hostText x p, c ≠ 47 ∧ c ≠ 63 ∧ c ≠ 35 ∧ c ≠ 64 := by
  intro c hc
  have h1 := hostPort_bytes h c hc
  have := all256 (p := fun c => !(ldh c || c == 46 || c == 58) || (c != 47 && c != 63 && c != 35 && c != 64)) (by decide +kernel) c
  have h2 : (ldh c || c == 46 || c == 58) = true := by rcases h1 with h | rfl | rfl <;> simp [*]
  rw [h2] at this
  simpa [and_assoc] using this
theorem path_no {s : Bytes} (h : Can inPath s) : ∀ c ∈ s, c ≠ 63 ∧ c ≠ 35 := by
  intro c hc
  have h1 := can_bytes h c hc
  have := all256 (p := fun c => !(keepB inPath c || c == 37 || isHex c) || (c != 63 && c != 35)) (by decide +kernel) c
  have h2 : (keepB inPath c || c == 37 || isHex c) = true := by rcases h1 with h | rfl | h <;> simp [*]
  rw [h2] at this
  simpa using this
theorem query_no {s : Bytes} (h : Can inQuery s) : (35 : UInt8) ∉ s := by
  intro hc
  have := can_bytes h _ hc
  revert this; decide
theorem CanUrl.split {u : Url} (h : CanUrl u) : uriSplit (urlText u) = (urlUri u, 0) := by
  rw [urlText_join]
  refine split_join (urlUri u) rfl rfl rfl (fun c hc => ?_) h.slash (path_no h.path) (query_no h.query) h.noq h.nof (by rw [← urlText_join]; have := h.len; omega)
  have := host_no h.host c hc
  exact ⟨this.1, this.2.1, this.2.2.1⟩
theorem hostText_le {x : Bytes} {p : Int} : x.length ≤ (hostText x p).length := by
  unfold hostText; split
  · exact Nat.le_refl _
  split <;> simp
theorem urlText_len (u : Url) : u.path.length ≤ (urlText u).length ∧ (u.hasQuery = true → u.query.length ≤ (urlText u).length) ∧ (u.hasFrag = true → u.fragment.length ≤ (urlText u).length) := by
  unfold urlText urlTarget
  refine ⟨?_, fun h => ?_, fun h => ?_⟩
  · split <;> split <;> (simp; omega)
  · rw [if_pos h]; split <;> (simp; omega)
  · rw [if_pos h]; split <;> (simp; omega)
theorem CanUrl.parse {u : Url} (h : CanUrl u) : urlParse (urlText u) = (u, 0) := by
  obtain ⟨l1, l2, l3⟩ := urlText_len u
  have hl := h.len
  have n1 := can_norm h.path (by omega)
  have n2 : pctNorm inQuery u.query = (u.query, 0) := by
    cases hq : u.hasQuery
    · rw [h.noq hq]; rfl
    · exact can_norm h.query (by have := l2 hq; omega)
  have n3 : pctNorm inQuery u.fragment = (u.fragment, 0) := by
    cases hq : u.hasFrag
    · rw [h.nof hq]; rfl
    · exact can_norm h.frag (by have := l3 hq; omega)
  unfold urlParse
  rw [if_neg (by omega), h.split]
  simp only [ne_eq, not_true, if_false]
  unfold urlOf urlUri
  simp only
  rw [if_neg (by simp [show lower https = https by decide]), if_neg (by simp), if_neg (fun k => (host_no h.host _ k).2.2.2 rfl)]
  unfold urlParts
  simp only
  rw [h.host, n1, n2, n3]
  simp only [ne_eq, not_true, if_false]
  unfold urlEnd
  simp only
  obtain ⟨r, hr⟩ := h.slash
  have e : (if removeDots u.path = [] then [47] else removeDots u.path) = u.path := by
    rw [h.dots, hr, if_neg (by simp)]
  rw [e, if_neg (by show ¬ 4096 < (urlText u).length; omega)]
theorem urlEnd_err (h : Bytes × Int) (p q f : Bytes) (hq hf : Bool) (k : (urlEnd h p q f hq hf).2 ≠ 0) : (urlEnd h p q f hq hf).1 = Url.none := by
  unfold urlEnd at k ⊢
  generalize (if removeDots p = [] then [47] else removeDots p) = d at k ⊢
  split
  · rfl
  · rename_i h10
    rw [if_neg h10] at k
    exact absurd rfl k
theorem urlEnd_ok {h : Bytes × Int} {p q f : Bytes} {hq hf : Bool} {u : Url} (k : urlEnd h p q f hq hf = (u, 0)) : u = ⟨h.1, h.2, if removeDots p = [] then [47] else removeDots p, q, f, hq, hf⟩ ∧ (urlText u).length ≤ 4096 := by
  unfold urlEnd at k
  generalize (if removeDots p = [] then [47] else removeDots p) = d at k ⊢
  split at k
  · simp at k
  · obtain rfl := (Prod.mk.inj k).1
    exact ⟨rfl, by omega⟩
theorem urlParse_err (s : Bytes) (h : (urlParse s).2 ≠ 0) : (urlParse s).1 = Url.none := by
  unfold urlParse at h ⊢
  split
  · rfl
  rename_i h1
  rw [if_neg h1] at h
  split
  · rfl
  rename_i h2
  rw [if_neg h2] at h
  unfold urlOf at h ⊢
  split
  · rfl
  rename_i h3
  rw [if_neg h3] at h
  split
  · rfl
  rename_i h4
  rw [if_neg h4] at h
  split
  · rfl
  rename_i h5
  rw [if_neg h5] at h
  unfold urlParts at h ⊢
  split
  · rfl
  rename_i h6
  rw [if_neg h6] at h
  split
  · rfl
  rename_i h7
  rw [if_neg h7] at h
  split
  · rfl
  rename_i h8
  rw [if_neg h8] at h
  split
  · rfl
  rename_i h9
  rw [if_neg h9] at h
  exact urlEnd_err _ _ _ _ _ _ h
theorem removeDots_one : removeDots [47] = [47] := by decide
theorem split_noq (s : Bytes) (h : (uriSplit s).2 = 0) : ((uriSplit s).1.hasQuery = false → (uriSplit s).1.query = []) ∧ ((uriSplit s).1.hasFrag = false → (uriSplit s).1.fragment = []) ∧ ((uriSplit s).1.hasAuthority = true → (uriSplit s).1.path = [] ∨ ∃ r, (uriSplit s).1.path = 47 :: r) := by
  unfold uriSplit at h ⊢
  split
  · rename_i h1; rw [if_pos h1] at h; simp at h
  rename_i h1
  rw [if_neg h1] at h
  have q1 := uncut_no 63 (cutC 35 s).1
  have q2 := uncut_no 35 s
  have ha : ∀ t : Bytes, (authPath t).2.1 = true → (authPath t).2.2 = [] ∨ ∃ r, (authPath t).2.2 = 47 :: r := by
    intro t
    unfold authPath
    split
    · intro _; exact drop_pre _
    · intro h; simp at h
  unfold splitRest at h ⊢
  split
  · rename_i h2
    rw [if_pos h2] at h
    split
    · exact ⟨q1, q2, ha _⟩
    · rename_i h3; rw [if_neg h3] at h; simp at h
  · exact ⟨q1, q2, ha _⟩
theorem can_of_parse {s : Bytes} {u : Url} (h : urlParse s = (u, 0)) : CanUrl u := by
  unfold urlParse at h
  split at h
  · simp at h
  split at h
  · rename_i h1 h2; exact absurd (Prod.mk.inj h).2 h2
  rename_i h1 h2
  have h2 : (uriSplit s).2 = 0 := by simpa using h2
  obtain ⟨q1, q2, q3⟩ := split_noq s h2
  generalize (uriSplit s).1 = r at h q1 q2 q3
  unfold urlOf at h
  split at h
  · simp at h
  split at h
  · simp at h
  split at h
  · simp at h
  rename_i h3 h4 h5
  have hau := q3 (by simpa using h4)
  unfold urlParts at h
  split at h
  · rename_i h6; exact absurd (Prod.mk.inj h).2 h6
  split at h
  · rename_i h6; exact absurd (Prod.mk.inj h).2 h6
  split at h
  · rename_i h6; exact absurd (Prod.mk.inj h).2 h6
  split at h
  · rename_i h6; exact absurd (Prod.mk.inj h).2 h6
  rename_i e1 e2 e3 e4
  obtain ⟨h, hlen⟩ := urlEnd_ok h
  have hp := norm_can (also := inPath) (s := r.path) (by simpa using e2)
  have hq := norm_can (also := inQuery) (s := r.query) (by simpa using e3)
  have hf := norm_can (also := inQuery) (s := r.fragment) (by simpa using e4)
  have hd : removeDots (pctNorm inPath r.path).1 = [] ∨ ∃ q, removeDots (pctNorm inPath r.path).1 = 47 :: q ∧ removeDots (47 :: q) = 47 :: q := by
    have hh : (pctNorm inPath r.path).1 = [] ∨ ∃ q, (pctNorm inPath r.path).1 = 47 :: q := by
      rcases hau with h | ⟨q, h⟩
      · left; rw [h]; rfl
      · right
        have e2' : (pctNorm inPath r.path).2 = 0 := by simpa using e2
        rw [h] at e2' ⊢
        unfold pctNorm at e2' ⊢
        split
        · rename_i hx; rw [if_pos hx] at e2'; simp at e2'
        rename_i hx
        rw [if_neg hx, units_lit (by decide), normU, if_pos (by decide)] at e2'
        rw [units_lit (by decide), normU, if_pos (by decide)]
        unfold comb at e2' ⊢
        split
        · exact ⟨_, rfl⟩
        · rename_i hy; rw [if_neg hy] at e2'; exact absurd e2' hy
    rcases hh with h | ⟨q, h⟩
    · left; rw [h]; rfl
    · right
      rw [h]
      obtain ⟨⟨q', hq'⟩, -⟩ := clean_segs q
      exact ⟨q', hq', by have := removeDots_clean q; rw [hq'] at this; exact this⟩
  have hhp : hostPort r.authority = (((hostPort r.authority).1.1, (hostPort r.authority).1.2), 0) := by
    have : (hostPort r.authority).2 = 0 := by simpa using e1
    rw [← this]
  subst h
  refine ⟨(hostPort_back hhp).1, ?_, ?_, ?_, hq, hf, fun k => by simp only at k ⊢; rw [q1 k]; rfl, fun k => by simp only at k ⊢; rw [q2 k]; rfl, by omega⟩
  · simp only
    rcases hd with hd | ⟨q, hd, -⟩
    · rw [if_pos hd]; exact can_one (by decide) (by decide)
    · rw [if_neg (by rw [hd]; simp)]; exact can_removeDots (by decide) hp
  · simp only
    rcases hd with hd | ⟨q, hd, -⟩
    · rw [if_pos hd]; exact ⟨_, rfl⟩
    · rw [if_neg (by rw [hd]; simp)]; exact ⟨_, hd⟩
  · simp only
    rcases hd with hd | ⟨q, hd, hd2⟩
    · rw [if_pos hd]; exact removeDots_one
    · rw [if_neg (by rw [hd]; simp), hd]; exact hd2
def Url.bare (u : Url) : Url := { u with fragment := [], hasFrag := false }
theorem CanUrl.bare {u : Url} (h : CanUrl u) : CanUrl u.bare :=
  ⟨h.host, h.path, h.slash, h.dots, h.query, can_nil _, h.noq, fun _ => rfl, by
    have := h.len
    unfold urlText at this ⊢
    unfold Url.bare urlTarget at *
    simp at this ⊢
    omega⟩
theorem CanUrl.valid {u : Url} (h : CanUrl u) : urlValid u = true := by unfold urlValid; rw [h.parse]; simp
theorem valid_can {u : Url} (h : urlValid u = true) : CanUrl u := can_of_parse (of_decide_eq_true h)
theorem rel_self {b u : Url} (hb : urlValid b = true) (h : CanUrl u) : urlRelative b (urlText u) = (u, 0) := by
  have e : ∀ x, uriResolve x (urlUri u) = urlUri u := by
    intro x
    unfold uriResolve
    rw [if_pos (show (urlUri u).hasScheme = true from rfl)]
    show ({ urlUri u with path := removeDots u.path } : Uri) = _
    rw [h.dots]; rfl
  unfold urlRelative
  rw [hb, h.split]
  simp only [ne_eq, not_true, if_false, Bool.true_eq_false, e]
  rw [if_neg (by show ¬ lower https ≠ https; simp [show lower https = https by decide]), ← urlText_join, h.parse]
theorem rel_empty {b : Url} (h : CanUrl b) : urlRelative b [] = (b.bare, 0) := by
  have e : uriResolve (urlUri b) Uri.none = urlUri b.bare := rfl
  have hs : uriSplit [] = (Uri.none, 0) := rfl
  unfold urlRelative
  rw [if_neg (by rw [h.valid]; simp), if_neg (by rw [hs]; simp), h.split, hs]
  show (if lower (uriResolve (urlUri b) Uri.none).scheme ≠ https then (Url.none, 253) else urlParse (uriJoin (uriResolve (urlUri b) Uri.none))) = _
  rw [e, if_neg (by show ¬ lower https ≠ https; simp [show lower https = https by decide]), ← urlText_join, h.bare.parse]
end Wf
