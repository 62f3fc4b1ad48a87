/- Texts of this claim, laid together: PlainQ, WorldP, IdxAny, Ascii, Bytes, Ascii2, Lib, Number, Host, Host2, Own, RefHost, RefHost2, HostPC, Pct, UrlW, Uri, UriW, Bld, UriW3, UriN, UriW2, UrlW2, RefUri, RefUri2. -/
import Derived.Lib.OthersKept
import Derived.Deep.QuietTactic
import Derived.BigQuiet
import Derived.Test.YtjponbpdlioocaaGreatDoorProg
import Derived.Lib.ConvBytes
import Derived.Laws.IdiomStrings
import Derived.Lib.QuietBelow
import Derived.Lib.FrozenHead
import Derived.Test.YtjponbpdlioocaaGreatDoorM2
/- Plain laws: hosts, URIs, canonical strings, URLs. -/
set_option linter.all false
namespace Wf
open Go Go.RowKit
theorem lowerC_all (c : UInt8) : lowerC (lowerC c) = lowerC c ∧ ldh (lowerC c) = ldh c ∧ isDigit (lowerC c) = isDigit c ∧ (lowerC c == 45) = (c == 45) ∧ (lowerC c == 46) = (c == 46) ∧ (lowerC c == 58) = (c == 58) ∧ (isDigit c = true → lowerC c = c) := by
  have h := all256 (p := fun c => decide (lowerC (lowerC c) = lowerC c ∧ ldh (lowerC c) = ldh c ∧ isDigit (lowerC c) = isDigit c ∧ (lowerC c == 45) = (c == 45) ∧ (lowerC c == 46) = (c == 46) ∧ (lowerC c == 58) = (c == 58) ∧ (isDigit c = true → lowerC c = c))) (by decide +kernel) c
  exact of_decide_eq_true h
theorem lower_lower (s : Bytes) : lower (lower s) = lower s := by
  unfold lower; rw [List.map_map]; apply List.map_congr_left; intro c _; exact (lowerC_all c).1
theorem lower_length (s : Bytes) : (lower s).length = s.length := by unfold lower; simp
theorem lower_isEmpty (s : Bytes) : (lower s).isEmpty = s.isEmpty := by unfold lower; cases s <;> rfl
theorem lower_all {p : UInt8 → Bool} (hp : ∀ c, p (lowerC c) = p c) (s : Bytes) : (lower s).all p = s.all p := by
  unfold lower; rw [List.all_map]; congr 1; funext c; exact hp c
theorem lower_digits {s : Bytes} (h : s.all isDigit = true) : lower s = s := by
  unfold lower
  rw [List.all_eq_true] at h
  conv => rhs; rw [← List.map_id s]
  apply List.map_congr_left; intro c hc; exact (lowerC_all c).2.2.2.2.2.2 (h c hc)
theorem labelOk_lower (s : Bytes) : labelOk (lower s) = labelOk s := by
  unfold labelOk
  rw [lower_isEmpty, lower_length, lower_all (fun c => (lowerC_all c).2.1)]
  have h1 : ((lower s).head? == some 45) = (s.head? == some 45) := by
    unfold lower; rw [List.head?_map]; cases s.head? with
    | none => rfl
    | some c => simpa using (lowerC_all c).2.2.2.1
  have h2 : ((lower s).getLast? == some 45) = (s.getLast? == some 45) := by
    unfold lower; rw [List.getLast?_map]; cases s.getLast? with
    | none => rfl
    | some c => simpa using (lowerC_all c).2.2.2.1
  rw [h1, h2]
theorem digitsOk_lower (s : Bytes) : digitsOk (lower s) = digitsOk s := by
  unfold digitsOk; rw [lower_isEmpty, lower_all (fun c => (lowerC_all c).2.2.1)]
theorem splitC_lower (s : Bytes) : splitC 46 (lower s) = (splitC 46 s).map lower := by
  induction s with
  | nil => rfl
  | cons x r ih =>
    have hx := (lowerC_all x).2.2.2.2.1
    rw [show lower (x :: r) = lowerC x :: lower r from rfl, splitC, splitC, hx, ih]
    cases x == 46
    · simp only [Bool.false_eq_true, if_false]
      cases splitC 46 r <;> rfl
    · rfl
theorem numStrict_lower (m : Nat) (s : Bytes) : numStrict m (lower s) = numStrict m s := by
  cases h : s.all isDigit
  · have hd : digitsOk s = false := by unfold digitsOk; simp [h]
    have hl : (lower s).all isDigit = false := by rw [lower_all (fun c => (lowerC_all c).2.2.1), h]
    unfold numStrict numParse
    rw [digitsOk_lower, hd, hl, h, lower_isEmpty]
    simp
  · rw [lower_digits h]
theorem octetOk_lower (s : Bytes) : octetOk (lower s) = octetOk s := by unfold octetOk; rw [numStrict_lower]
theorem ipv4_lower (s : Bytes) : ipv4 (lower s) = ipv4 s := by
  unfold ipv4
  rw [splitC_lower, List.length_map, List.all_map]
  congr 2; funext x; exact octetOk_lower x
theorem nameL_lower (l : List Bytes) : nameL (l.map lower) = nameL l := by
  induction l with
  | nil => rfl
  | cons x r ih =>
    cases r with
    | nil => simp only [List.map, nameL, labelOk_lower, digitsOk_lower]
    | cons y r => simp only [List.map_cons, nameL, labelOk_lower] at ih ⊢; rw [ih]
theorem nameOk_lower (s : Bytes) : nameOk (lower s) = nameOk s := by unfold nameOk; rw [splitC_lower, nameL_lower]
theorem hostM_ok {s x : Bytes} (h : hostM s = (x, 0)) : x = lower s ∧ x.length ≤ 253 ∧ hostM x = (x, 0) := by
  unfold hostM at h
  cases h1 : s.isEmpty
  · rw [h1] at h
    by_cases h2 : 253 < s.length
    · simp [h2] at h
    · cases h3 : (!ipv4 s && !nameOk s)
      · simp [h2, h3] at h
        subst h
        refine ⟨rfl, by rw [lower_length]; omega, ?_⟩
        unfold hostM
        rw [lower_isEmpty, lower_length, ipv4_lower, nameOk_lower, h1, h3, lower_lower]
        simp [h2]
      · simp [h2, h3] at h
  · rw [h1] at h; simp at h
theorem pre_lower (s : Bytes) : pre (· == 58) (lower s) = pre (· == 58) s := by
  induction s with
  | nil => rfl
  | cons x r ih =>
    rw [show lower (x :: r) = lowerC x :: lower r from rfl, pre_cons, pre_cons, ih, (lowerC_all x).2.2.2.2.2.1]
theorem pre_take (p : UInt8 → Bool) (s : Bytes) : pre p (s.take (pre p s)) = (s.take (pre p s)).length := by
  induction s with
  | nil => rfl
  | cons x r ih =>
    rw [pre_cons]
    cases hx : p x
    · simp [pre_cons, hx]
      have := ih; simp at this; omega
    · rfl
theorem cutC_fst (c : UInt8) (s : Bytes) : pre (· == c) (cutC c s).1 = (cutC c s).1.length := by
  unfold cutC
  by_cases h : pre (· == c) s < s.length
  · rw [if_pos h]; exact pre_take _ s
  · rw [if_neg h]; have := pre_le (· == c) s; show pre (· == c) s = s.length; omega
theorem cutC_none {c : UInt8} {s : Bytes} (h : pre (· == c) s = s.length) : cutC c s = (s, [], false) := by
  unfold cutC; rw [if_neg (by omega)]
theorem pre_app {p : UInt8 → Bool} {x : Bytes} (h : pre p x = x.length) (c : UInt8) (r : Bytes) (hc : p c = true) : pre p (x ++ c :: r) = x.length := by
  induction x with
  | nil => simp [pre_cons, hc]
  | cons y x ih =>
    rw [pre_cons] at h
    cases hy : p y
    · rw [hy] at h; simp at h
      simp [pre_cons, hy, ih h]
    · rw [hy] at h; simp at h
theorem cutC_some {c : UInt8} {x : Bytes} (h : pre (· == c) x = x.length) (r : Bytes) : cutC c (x ++ c :: r) = (x, r, true) := by
  unfold cutC
  rw [pre_app h c r (by simp), if_pos (by simp)]
  simp
theorem hexVal_dig {n : Nat} (h : n < 10) : hexVal (dig n) = n ∧ isDigit (dig n) = true ∧ (dig n = 48 → n = 0) := by
  have h := (by decide +kernel : ∀ n, n < 10 → hexVal (dig n) = n ∧ isDigit (dig n) = true ∧ (dig n = 48 → n = 0)) n h
  exact h
theorem numGo_app {b m : Nat} (r : Bytes) : ∀ (l : Bytes) {a v : Nat}, numGo b m a l = (v, 0) → numGo b m a (l ++ r) = numGo b m v r := by
  intro l
  induction l with
  | nil => intro a v h; simp [numGo] at h; rw [h]; rfl
  | cons c l ih =>
    intro a v h
    rw [numGo] at h
    rw [List.cons_append, numGo]
    by_cases hm : m < a * b + hexVal c
    · rw [if_pos hm] at h; simp at h
    · rw [if_neg hm] at h
      rw [if_neg hm]
      exact ih h
theorem decS_back (m : Nat) : ∀ (k n : Nat), n ≤ k → n ≤ m → numGo 10 m 0 (decS n) = (n, 0) ∧ (decS n).all isDigit = true ∧ (0 < n → (decS n).head? ≠ some 48) := by
  intro k
  induction k with
  | zero =>
    intro n h _
    obtain rfl : n = 0 := by omega
    rw [decS_small (by omega)]
    exact ⟨by simp [numGo, dig, hexVal], by decide, fun h => by omega⟩
  | succ k ih =>
    intro n h hm
    by_cases hn : n < 10
    · rw [decS_small hn]
      obtain ⟨h1, h2, h3⟩ := hexVal_dig hn
      refine ⟨?_, by simp [h2], ?_⟩
      · rw [numGo, h1, if_neg (by omega), numGo]; simp
      · intro h0 he; simp at he; exact absurd (h3 he) (by omega)
    · rw [decS_big hn]
      obtain ⟨h1, h2, h3⟩ := ih (n / 10) (by omega) (by omega)
      obtain ⟨g1, g2, g3⟩ := hexVal_dig (show n % 10 < 10 by omega)
      refine ⟨?_, by rw [List.all_append, h2]; simp [g2], ?_⟩
      · rw [numGo_app _ _ h1, numGo, g1, if_neg (by omega), numGo]
        congr 1; omega
      · intro _
        have := decS_pos (n / 10)
        rw [List.head?_append]
        have h3 := h3 (by omega)
        cases hd : (decS (n / 10)).head? with
        | none => rw [List.head?_eq_none_iff] at hd; rw [hd] at this; simp at this
        | some c => rw [hd] at h3; simpa using h3
theorem portM_dec {n : Nat} (h0 : 0 < n) (h : n ≤ 65535) : portM (decS n) = ((n : Int), 0) := by
  obtain ⟨h1, h2, h3⟩ := decS_back 65535 n n (by omega) h
  have hp := decS_pos n
  have hne : (decS n).isEmpty = false := by cases hd : decS n <;> simp [hd] at hp ⊢
  have hs : numStrict 65535 (decS n) = (n, 0) := by
    unfold numStrict numParse
    rw [if_neg (fun hh => h3 h0 hh.2.2), hne, h2, h1]
    rfl
  unfold portM
  rw [hs]
  have : ¬ n = 0 := by omega
  simp [this]
theorem portM_ok {s : Bytes} {p : Int} (h : portM s = (p, 0)) : 0 < p ∧ p ≤ 65535 := by
  have hle := numStrict_le 65535 s
  unfold portM at h
  split at h
  · simp at h
  · rename_i hc
    simp at h
    subst h
    omega
theorem hostPort_back {s x : Bytes} {p : Int} (h : hostPort s = ((x, p), 0)) : hostPort (hostText x p) = ((x, p), 0) ∧ hostM x = (x, 0) ∧ p ≠ 443 ∧ x.length ≤ 253 ∧ 0 ≤ p ∧ p ≤ 65535 := by
  have hf := cutC_fst 58 s
  unfold hostPort at h
  generalize cutC 58 s = C at hf h
  obtain ⟨first, rest, colon⟩ := C
  simp only at hf h
  generalize hH : hostM first = H at h
  obtain ⟨y, e⟩ := H
  by_cases he : e = 0
  · subst he
    obtain ⟨hy, hlen, hback⟩ := hostM_ok hH
    have hpy : pre (· == 58) y = y.length := by rw [hy, pre_lower, lower_length]; exact hf
    have plain : hostPort (hostText y 0) = ((y, 0), 0) := by
      unfold hostText hostPort
      rw [if_pos rfl, cutC_none hpy, hback]; rfl
    cases colon
    · unfold hostPortOf at h
      simp at h
      obtain ⟨rfl, rfl⟩ := h
      exact ⟨plain, hback, by omega, hlen, by omega, by omega⟩
    · generalize hP : portM rest = P at h
      obtain ⟨q, f⟩ := P
      unfold hostPortOf at h
      by_cases hf0 : f = 0
      · subst hf0
        simp at h
        obtain ⟨rfl, h⟩ := h
        obtain ⟨q0, q1⟩ := portM_ok hP
        by_cases h443 : q = 443
        · rw [if_pos h443] at h
          subst h
          exact ⟨plain, hback, by omega, hlen, by omega, by omega⟩
        · rw [if_neg h443] at h
          subst h
          refine ⟨?_, hback, h443, hlen, by omega, q1⟩
          obtain ⟨n, rfl⟩ : ∃ n : Nat, q = n := ⟨q.toNat, by omega⟩
          unfold hostText hostPort
          rw [if_neg (by omega), if_neg (by omega)]
          have e : y ++ [58] ++ decS (n : Int).natAbs = y ++ 58 :: decS n := by simp
          rw [e, cutC_some hpy]
          simp only [hback, portM_dec (show 0 < n by omega) (show n ≤ 65535 by omega)]
          unfold hostPortOf
          simp [h443]
      · simp [hf0] at h
  · unfold hostPortOf at h
    simp [he] at h
def lab (n : Nat) : Bytes := List.replicate n 97
def labs (n : Nat) : Nat → Bytes
  | 0 => lab n
  | k + 1 => labs n k ++ [46] ++ lab n
end Wf
namespace Wf
open Go Go.RowKit
/-! paths that begin with a slash -/
def absP (l : List Bytes) : Bytes := l.flatMap (47 :: ·)
def goodSeg (s : Bytes) : Prop := (47 : UInt8) ∉ s ∧ s ≠ [46] ∧ s ≠ [46, 46]
end Wf
namespace Wf
open Go Go.RowKit
def Can (also s : Bytes) : Prop := ∃ l : List PU, s = l.flatMap PU.str ∧ ∀ x ∈ l, canU also x
theorem can_nil (also : Bytes) : Can also [] := ⟨[], rfl, by simp⟩
theorem can_app {also a b : Bytes} (ha : Can also a) (hb : Can also b) : Can also (a ++ b) := by
  obtain ⟨l, rfl, h1⟩ := ha
  obtain ⟨m, rfl, h2⟩ := hb
  exact ⟨l ++ m, by simp, fun x hx => by
    rcases List.mem_append.1 hx with h | h
    · exact h1 x h
    · exact h2 x h⟩
theorem can_one {also : Bytes} {c : UInt8} (h : keepB also c = true) (hc : c ≠ 37) : Can also [c] := ⟨[.lit c], rfl, fun x hx => by
  obtain rfl := List.mem_singleton.1 hx; exact ⟨h, hc⟩⟩
theorem can_split {also : Bytes} {c : UInt8} (hc : c ≠ 37) (hx : isHex c = false) : ∀ (l : List PU) (a b : Bytes), (∀ x ∈ l, canU also x) → a ++ c :: b = l.flatMap PU.str → Can also a ∧ Can also (c :: b)
  | [], a, b, _, e => by simp at e
  | .lit d :: l, [], b, h, e => ⟨can_nil _, _, e, h⟩
  | .lit d :: l, y :: a, b, h, e => by
    rw [List.flatMap_cons] at e
    simp only [PU.str, List.singleton_append, List.cons_append, List.cons.injEq] at e
    obtain ⟨rfl, e⟩ := e
    obtain ⟨h1, h2⟩ := can_split hc hx l a b (fun y hy => h y (List.mem_cons_of_mem _ hy)) e
    have hy := h _ List.mem_cons_self
    exact ⟨can_app (a := [y]) (can_one hy.1 hy.2) h1, h2⟩
  | .hex u v :: l, [], b, h, e => by
    rw [List.flatMap_cons] at e
    simp only [PU.str, List.nil_append, List.cons_append, List.cons.injEq] at e
    exact absurd e.1 hc
  | .hex u v :: l, [x], b, h, e => by
    rw [List.flatMap_cons] at e
    simp only [PU.str, List.nil_append, List.cons_append, List.cons.injEq] at e
    have := (h _ List.mem_cons_self).2.2.2.1
    rw [← e.2.1, hx] at this; cases this
  | .hex u v :: l, [x, y], b, h, e => by
    rw [List.flatMap_cons] at e
    simp only [PU.str, List.nil_append, List.cons_append, List.cons.injEq] at e
    have := (h _ List.mem_cons_self).2.2.2.2
    rw [← e.2.2.1, hx] at this; cases this
  | .hex u v :: l, x :: y :: z :: a, b, h, e => by
    rw [List.flatMap_cons] at e
    simp only [PU.str, List.nil_append, List.cons_append, List.cons.injEq] at e
    obtain ⟨rfl, rfl, rfl, e⟩ := e
    obtain ⟨h1, h2⟩ := can_split hc hx l a b (fun y hy => h y (List.mem_cons_of_mem _ hy)) e
    refine ⟨can_app (a := [37, y, z]) ⟨[.hex y z], rfl, fun x hx => ?_⟩ h1, h2⟩
    obtain rfl := List.mem_singleton.1 hx
    exact h _ List.mem_cons_self
  | .bad :: l, a, b, h, e => (h _ List.mem_cons_self).elim
theorem Can.split {also a b : Bytes} {c : UInt8} (hc : c ≠ 37) (hx : isHex c = false) (h : Can also (a ++ c :: b)) : Can also a ∧ Can also (c :: b) := by
  obtain ⟨l, e, h1⟩ := h
  exact can_split hc hx l a b h1 e
theorem can_bytes {also s : Bytes} (h : Can also s) : ∀ c ∈ s, keepB also c = true ∨ c = 37 ∨ isHex c = true := by
  obtain ⟨l, rfl, h1⟩ := h
  intro c hc
  obtain ⟨x, hx, hcx⟩ := List.mem_flatMap.1 hc
  have hk := h1 x hx
  cases x with
  | lit d =>
    obtain rfl := List.mem_singleton.1 hcx
    exact .inl hk.1
  | hex a b =>
    simp only [PU.str, List.mem_cons, List.not_mem_nil, or_false] at hcx
    rcases hcx with rfl | rfl | rfl
    · exact .inr (.inl rfl)
    · exact .inr (.inr hk.2.2.2.1)
    · exact .inr (.inr hk.2.2.2.2)
  | bad => exact hk.elim
theorem can_norm {also s : Bytes} (h : Can also s) (hl : s.length ≤ 16384) : pctNorm also s = (s, 0) := by
  obtain ⟨l, rfl, h1⟩ := h
  unfold pctNorm
  rw [if_neg (by omega), units_can also l h1, normU_can also l h1]
/-! hosts -/
theorem mem_splitC (d : UInt8) : ∀ (n : Nat) (s : Bytes), s.length ≤ n → ∀ c ∈ s, c = d ∨ ∃ x ∈ splitC d s, c ∈ x
  | 0, s, h, c, hc => by
    obtain rfl := List.length_eq_zero_iff.1 (Nat.le_zero.1 h)
    simp at hc
  | n + 1, s, h, c, hc => by
    by_cases hp : pre (· == d) s < s.length
    · rw [splitC_hit hp]
      have e : s = s.take (pre (· == d) s) ++ d :: s.drop (pre (· == d) s + 1) := by
        have := pre_at hp
        simp only [beq_iff_eq] at this
        conv => lhs; rw [← List.take_append_drop (pre (· == d) s) s, List.drop_eq_getElem_cons hp, this]
      rw [e] at hc
      rcases List.mem_append.1 hc with h1 | h1
      · exact .inr ⟨_, List.mem_cons_self, h1⟩
      · rcases List.mem_cons.1 h1 with h2 | h2
        · exact .inl h2
        · rcases mem_splitC d n _ (by simp; omega) c h2 with h3 | ⟨x, h3, h4⟩
          · exact .inl h3
          · exact .inr ⟨x, List.mem_cons_of_mem _ h3, h4⟩
    · rw [splitC_miss hp]
      exact .inr ⟨s, List.mem_singleton.2 rfl, hc⟩
theorem octet_digits {s : Bytes} (h : octetOk s = true) : s.all isDigit = true := by
  unfold octetOk numStrict at h
  split at h
  · simp at h
  · have := (numParse_err_dig 255 s).1 (.inl (by simpa using h))
    unfold digitsOk at this
    simp only [Bool.and_eq_true] at this
    exact this.2
theorem nameL_mem : ∀ (l : List Bytes), nameL l = true → ∀ x ∈ l, labelOk x = true
  | [], _, x, h => by simp at h
  | [y], h, x, hx => by
    simp only [nameL, Bool.and_eq_true] at h
    obtain rfl := List.mem_singleton.1 hx
    exact h.1
  | y :: z :: r, h, x, hx => by
    simp only [nameL, Bool.and_eq_true] at h
    rcases List.mem_cons.1 hx with rfl | hx
    · exact h.1
    · exact nameL_mem (z :: r) h.2 x hx
theorem hostM_bytes {s x : Bytes} (h : hostM s = (x, 0)) : ∀ c ∈ x, ldh c = true ∨ c = 46 := by
  have hx := (hostM_ok h).2.2
  clear h
  unfold hostM at hx
  split at hx
  · simp at hx
  split at hx
  · simp at hx
  split at hx
  · simp at hx
  · rename_i h3
    intro c hc
    rcases mem_splitC 46 _ x (Nat.le_refl _) c hc with h4 | ⟨y, h4, h5⟩
    · exact .inr h4
    · left
      cases hi : ipv4 x
      · have hn : nameOk x = true := by simpa [hi] using h3
        have := nameL_mem _ hn y h4
        unfold labelOk at this
        simp only [Bool.and_eq_true] at this
        exact List.all_eq_true.1 this.2 c h5
      · unfold ipv4 at hi
        simp only [Bool.and_eq_true] at hi
        have := octet_digits (List.all_eq_true.1 hi.2 y h4)
        have := List.all_eq_true.1 this c h5
        unfold ldh; rw [this]; simp
theorem decS_digits (n : Nat) : ∀ c ∈ decS n, isDigit c = true := fun c hc => List.all_eq_true.1 ((decS_back n n n (Nat.le_refl _) (Nat.le_refl _)).2.1) c hc
theorem hostPort_bytes {s x : Bytes} {p : Int} (h : hostPort s = ((x, p), 0)) : ∀ c ∈ hostText x p, ldh c = true ∨ c = 46 ∨ c = 58 := by
  obtain ⟨-, h1, -, -, h2, -⟩ := hostPort_back h
  have hb := hostM_bytes h1
  unfold hostText
  split
  · intro c hc; exact (hb c hc).imp id .inl
  split
  · omega
  · intro c hc
    rcases List.mem_append.1 hc with hc | hc
    · rcases List.mem_append.1 hc with hc | hc
      · exact (hb c hc).imp id .inl
      · exact .inr (.inr (List.mem_singleton.1 hc))
    · left; unfold ldh; rw [decS_digits _ c hc]; simp
theorem pre_none {c : UInt8} {l : Bytes} (h : c ∉ l) : pre (· == c) l = l.length := by
  induction l with
  | nil => rfl
  | cons x l ih =>
    simp only [List.mem_cons, not_or] at h
    rw [pre_cons, if_neg (by simpa using fun e => h.1 e.symm), ih h.2]; rfl
end Wf
namespace Wf
open Go Go.RowKit
theorem split_join (u : Uri) (h1 : u.scheme = https) (h2 : u.hasScheme = true) (h3 : u.hasAuthority = true) (ha : ∀ c ∈ u.authority, c ≠ 47 ∧ c ≠ 63 ∧ c ≠ 35) (hp : ∃ r, u.path = 47 :: r) (hpb : ∀ c ∈ u.path, c ≠ 63 ∧ c ≠ 35) (hq : (35 : UInt8) ∉ u.query) (hq0 : u.hasQuery = false → u.query = []) (hf0 : u.hasFrag = false → u.fragment = []) (hl : (uriJoin u).length ≤ 16384) :
    uriSplit (uriJoin u) = (u, 0) := by
  obtain ⟨sc, au, pa, qu, fr, b1, b2, b3, b4⟩ := u
  simp only at h1 h2 h3 ha hp hpb hq hq0 hf0
  subst h1 h2 h3
  have c1 : cutC 35 (uriJoin ⟨https, au, pa, qu, fr, true, true, b3, b4⟩) = (https ++ [58] ++ ([47, 47] ++ au) ++ pa ++ (if b3 then [63] ++ qu else []), fr, b4) := by
    have hn : (35 : UInt8) ∉ https ++ [58] ++ ([47, 47] ++ au) ++ pa ++ (if b3 then [63] ++ qu else []) := by
      simp only [List.mem_append, not_or]
      refine ⟨⟨⟨⟨by decide, by decide⟩, by decide, fun h => (ha _ h).2.2 rfl⟩, fun h => (hpb _ h).2 rfl⟩, ?_⟩
      split
      · simp only [List.mem_append, not_or]; exact ⟨by decide, hq⟩
      · simp
    cases b4
    · have : uriJoin ⟨https, au, pa, qu, fr, true, true, b3, false⟩ = https ++ [58] ++ ([47, 47] ++ au) ++ pa ++ (if b3 then [63] ++ qu else []) := by simp [uriJoin]
      rw [this, cutC_none (pre_none hn), hf0 rfl]
    · have : uriJoin ⟨https, au, pa, qu, fr, true, true, b3, true⟩ = (https ++ [58] ++ ([47, 47] ++ au) ++ pa ++ (if b3 then [63] ++ qu else [])) ++ 35 :: fr := by simp [uriJoin]
      rw [this, cutC_some (pre_none hn)]
  have c2 : cutC 63 (https ++ [58] ++ ([47, 47] ++ au) ++ pa ++ (if b3 then [63] ++ qu else [])) = (https ++ [58] ++ ([47, 47] ++ au) ++ pa, qu, b3) := by
    have hn : (63 : UInt8) ∉ https ++ [58] ++ ([47, 47] ++ au) ++ pa := by
      simp only [List.mem_append, not_or]
      exact ⟨⟨⟨by decide, by decide⟩, by decide, fun h => (ha _ h).2.1 rfl⟩, fun h => (hpb _ h).1 rfl⟩
    cases b3
    · rw [if_neg (by simp), List.append_nil, cutC_none (pre_none hn), hq0 rfl]
    · rw [if_pos rfl, List.singleton_append, cutC_some (pre_none hn)]
  unfold uriSplit
  rw [if_neg (by omega), c1]
  simp only
  rw [c2]
  simp only
  obtain ⟨r, rfl⟩ := hp
  have e : https ++ [58] ++ ([47, 47] ++ au) ++ 47 :: r = 104 :: 116 :: 116 :: 112 :: 115 :: 58 :: 47 :: 47 :: (au ++ 47 :: r) := by simp [https]
  have p5 : pre colonSlash (104 :: 116 :: 116 :: 112 :: 115 :: 58 :: 47 :: 47 :: (au ++ 47 :: r)) = 5 := by
    simp only [pre_cons]
    rw [if_neg (by decide), if_neg (by decide), if_neg (by decide), if_neg (by decide), if_neg (by decide), if_pos (by decide)]
  have pa : pre (· == 47) (au ++ 47 :: r) = au.length := pre_app (pre_none (fun h => (ha _ h).1 rfl)) 47 r (by decide)
  rw [e]
  unfold splitRest
  rw [p5]
  simp only [List.drop_succ_cons, List.drop_zero, List.take_succ_cons, List.take_zero, List.head?_cons, if_true, authPath, pa, List.take_left, List.drop_left]
  rw [if_pos (by decide)]
  rfl
def urlUri (u : Url) : Uri := ⟨https, hostText u.host u.port, u.path, u.query, u.fragment, true, true, u.hasQuery, u.hasFrag⟩
theorem urlText_join (u : Url) : urlText u = uriJoin (urlUri u) := by
  unfold urlText uriJoin urlUri urlTarget
  cases u.hasQuery <;> simp [https]
structure CanUrl (u : Url) : Prop where
  host : hostPort (hostText u.host u.port) = ((u.host, u.port), 0)
  path : Can inPath u.path
  slash : ∃ r, u.path = 47 :: r
  dots : removeDots u.path = u.path
  query : Can inQuery u.query
  frag : Can inQuery u.fragment
  noq : u.hasQuery = false → u.query = []
  nof : u.hasFrag = false → u.fragment = []
  len : (urlText u).length ≤ 4096
theorem host_no {x : Bytes} {p : Int} (h : hostPort (hostText x p) = ((x, p), 0)) : ∀ c ∈ hostText x p, c ≠ 47 ∧ c ≠ 63 ∧ c ≠ 35 ∧ c ≠ 64 := by
  intro c hc
  have h1 := hostPort_bytes h c hc
  have := all256 (p := fun c => !(ldh c || c == 46 || c == 58) || (c != 47 && c != 63 && c != 35 && c != 64)) (by decide +kernel) c
  have h2 : (ldh c || c == 46 || c == 58) = true := by rcases h1 with h | rfl | rfl <;> simp [*]
  rw [h2] at this
  simpa [and_assoc] using this
theorem path_no {s : Bytes} (h : Can inPath s) : ∀ c ∈ s, c ≠ 63 ∧ c ≠ 35 := by
  intro c hc
  have h1 := can_bytes h c hc
  have := all256 (p := fun c => !(keepB inPath c || c == 37 || isHex c) || (c != 63 && c != 35)) (by decide +kernel) c
  have h2 : (keepB inPath c || c == 37 || isHex c) = true := by rcases h1 with h | rfl | h <;> simp [*]
  rw [h2] at this
  simpa using this
theorem query_no {s : Bytes} (h : Can inQuery s) : (35 : UInt8) ∉ s := by
  intro hc
  have := can_bytes h _ hc
  revert this; decide
theorem CanUrl.split {u : Url} (h : CanUrl u) : uriSplit (urlText u) = (urlUri u, 0) := by
  rw [urlText_join]
  refine split_join (urlUri u) rfl rfl rfl (fun c hc => ?_) h.slash (path_no h.path) (query_no h.query) h.noq h.nof (by rw [← urlText_join]; have := h.len; omega)
  have := host_no h.host c hc
  exact ⟨this.1, this.2.1, this.2.2.1⟩
theorem urlText_len (u : Url) : u.path.length ≤ (urlText u).length ∧ (u.hasQuery = true → u.query.length ≤ (urlText u).length) ∧ (u.hasFrag = true → u.fragment.length ≤ (urlText u).length) := by
  unfold urlText urlTarget
  refine ⟨?_, fun h => ?_, fun h => ?_⟩
  · split <;> split <;> (simp; omega)
  · rw [if_pos h]; split <;> (simp; omega)
  · rw [if_pos h]; split <;> (simp; omega)
theorem CanUrl.parse {u : Url} (h : CanUrl u) : urlParse (urlText u) = (u, 0) := by
  obtain ⟨l1, l2, l3⟩ := urlText_len u
  have hl := h.len
  have n1 := can_norm h.path (by omega)
  have n2 : pctNorm inQuery u.query = (u.query, 0) := by
    cases hq : u.hasQuery
    · rw [h.noq hq]; rfl
    · exact can_norm h.query (by have := l2 hq; omega)
  have n3 : pctNorm inQuery u.fragment = (u.fragment, 0) := by
    cases hq : u.hasFrag
    · rw [h.nof hq]; rfl
    · exact can_norm h.frag (by have := l3 hq; omega)
  unfold urlParse
  rw [if_neg (by omega), h.split]
  simp only [ne_eq, not_true, if_false]
  unfold urlOf urlUri
  simp only
  rw [if_neg (by simp [show lower https = https by decide]), if_neg (by simp), if_neg (fun k => (host_no h.host _ k).2.2.2 rfl)]
  unfold urlParts
  simp only
  rw [h.host, n1, n2, n3]
  simp only [ne_eq, not_true, if_false]
  unfold urlEnd
  simp only
  obtain ⟨r, hr⟩ := h.slash
  have e : (if removeDots u.path = [] then [47] else removeDots u.path) = u.path := by
    rw [h.dots, hr, if_neg (by simp)]
  rw [e, if_neg (by show ¬ 4096 < (urlText u).length; omega)]
def Url.bare (u : Url) : Url := { u with fragment := [], hasFrag := false }
theorem CanUrl.bare {u : Url} (h : CanUrl u) : CanUrl u.bare :=
  ⟨h.host, h.path, h.slash, h.dots, h.query, can_nil _, h.noq, fun _ => rfl, by
    have := h.len
    unfold urlText at this ⊢
    unfold Url.bare urlTarget at *
    simp at this ⊢
    omega⟩
theorem CanUrl.valid {u : Url} (h : CanUrl u) : urlValid u = true := by unfold urlValid; rw [h.parse]; simp
end Wf
/- Plain functions and laws of package world. -/
set_option linter.all false
namespace Wf
open Go Go.RowKit
structure Ans where
  host : Bytes
  port : Int
  target : Bytes
  raw : Bytes
  fail : Int
  since : Int
  till : Int
  deriving DecidableEq
def Ans.none : Ans := ⟨[], 0, [], [], 0, 0, 0⟩
def ansFits (h : Bytes) (p : Int) (t : Bytes) (now : Int) (a : Ans) : Bool :=
  (a.host == h && a.port == p) && a.target == t && decide (a.since ≤ now) && (a.till == 0 || decide (now < a.till))
def ansOf (a : Ans) : Bytes × Int :=
  if a.fail = 1 then ([], 240) else if a.fail = 2 then ([], 241) else if a.fail = 3 then ([], 242) else if a.fail = 4 then ([], 243) else (a.raw, 0)
def askOf : Option Ans → Bytes × Int
  | Option.none => ([], 241)
  | Option.some a => ansOf a
def worldAsk (L : List Ans) (u : Url) (now : Int) : Bytes × Int :=
  if urlValid u = false then ([], 8) else askOf (L.find? (ansFits u.host u.port (urlTarget u) now))
def ansValid (a : Ans) : Bool :=
  decide ((hostPort (hostText a.host a.port)).2 = 0) && decide ((hostPort (hostText a.host a.port)).1 = (a.host, a.port)) && Lib.hasPrefix a.target [47] && decide (0 ≤ a.fail) && decide (a.fail ≤ 4)
def worldValid (L : List Ans) : Bool := decide (L.length ≤ 256) && L.all ansValid
def worldWithout (L : List Ans) (h : Bytes) (p : Int) : List Ans := L.filter fun a => !(a.host == h && a.port == p)
theorem find_none {α : Type} {p : α → Bool} {L : List α} (h : ∀ a ∈ L, p a = false) : L.find? p = none := by
  rw [List.find?_eq_none]
  intro a ha
  rw [h a ha]; simp
theorem find_at {α : Type} {p : α → Bool} {L : List α} {k : Nat} (hk : k < L.length) (h : ∀ a ∈ L.take k, p a = false) (hp : p L[k] = true) : L.find? p = some L[k] := by
  have e : L = L.take k ++ L[k] :: L.drop (k + 1) := by
    rw [← List.drop_eq_getElem_cons hk, List.take_append_drop]
  generalize L[k] = x at e hp
  rw [e, List.find?_append, find_none h]
  simp [List.find?_cons, hp]
def idxI {α : Type} (p : α → Bool) (L : List α) : Int := if L.any p then (L.findIdx p : Int) else -1
theorem idxI_none {α : Type} {p : α → Bool} {L : List α} (h : ∀ a ∈ L, p a = false) : idxI p L = -1 := by
  unfold idxI
  rw [if_neg]
  intro q
  obtain ⟨a, ha, hp⟩ := List.any_eq_true.1 q
  rw [h a ha] at hp
  cases hp
theorem idxI_at {α : Type} {p : α → Bool} {L : List α} {k : Nat} (hk : k < L.length) (h : ∀ a ∈ L.take k, p a = false) (hp : p L[k] = true) : idxI p L = k := by
  unfold idxI
  rw [if_pos (List.any_eq_true.2 ⟨_, List.getElem_mem hk, hp⟩)]
  congr 1
  refine (List.findIdx_eq hk).2 ⟨hp, fun j hj => ?_⟩
  have := h L[j] (by rw [List.mem_take_iff_getElem]; exact ⟨j, by omega, rfl⟩)
  exact this
theorem idxI_cases {α : Type} (p : α → Bool) (L : List α) : (idxI p L = -1 ∧ L.any p = false ∧ L.find? p = none) ∨ ∃ (k : Nat) (h : k < L.length), idxI p L = k ∧ L.any p = true ∧ L.find? p = some L[k] := by
  by_cases h : L.any p = true
  · right
    obtain ⟨a, ha, hpa⟩ := List.any_eq_true.1 h
    have hk : L.findIdx p < L.length := List.findIdx_lt_length_of_exists ⟨a, ha, hpa⟩
    refine ⟨L.findIdx p, hk, by unfold idxI; rw [if_pos h], h, ?_⟩
    refine find_at hk (fun b hb => ?_) (List.findIdx_getElem (w := hk))
    obtain ⟨j, hj, rfl⟩ := List.mem_take_iff_getElem.1 hb
    exact by simpa using List.not_of_lt_findIdx (p := p) (xs := L) (i := j) (by omega)
  · left
    have h := Bool.not_eq_true _ ▸ h
    have h2 : ∀ a ∈ L, p a = false := by simpa using h
    exact ⟨idxI_none h2, h, find_none h2⟩
end Wf
/- strings.IndexRune at a rune that is no ASCII, in an ASCII string; strings.IndexAny at an ASCII set. -/
set_option linter.all false
namespace Go.Proofs.YtjponbpdlioocaaGreatDoor
open Go.RowKit Wf
attribute [local go_sem] ex_list app_list get_list

theorem encode_high (r : Int) (h1 : 128 ≤ r) (h4 : Lib.validRune r = true) : ∃ el : Bytes, Utf8.encode r = ⟨List.toArray el⟩ ∧ 2 ≤ el.length ∧ el.length ≤ 4 ∧ ∀ h : el.length - 1 < el.length, 128 ≤ el[el.length - 1].toNat := by
  have hv : Utf8.valid r = true := by
    unfold Lib.validRune at h4
    have := of_decide_eq_true h4
    unfold Utf8.valid
    simp
    omega
  obtain ⟨n, rfl⟩ := Int.eq_ofNat_of_zero_le (show 0 ≤ r by omega)
  have hn : 128 ≤ n := by omega
  have key : ∀ m : Nat, 128 ≤ (UInt8.ofNat (0x80 + m % 64)).toNat := by
    intro m
    rw [UInt8.toNat_ofNat']
    omega
  unfold Utf8.encode
  rw [if_pos hv]
  simp only [Int.toNat_natCast]
  rw [if_neg (show ¬ n < 128 by omega)]
  split
  · exact ⟨_, rfl, by simp, by simp, fun _ => key _⟩
  · split
    · exact ⟨_, rfl, by simp, by simp, fun _ => key _⟩
    · exact ⟨_, rfl, by simp, by simp, fun _ => key _⟩

theorem indexByte_no (l : Bytes) (c : UInt8) (h : ∀ b ∈ l, b ≠ c) : Lib.indexByte l c = -1 := by
  induction l with
  | nil => rfl
  | cons b l ih =>
    have h1 := h b (by simp)
    have h2 := ih fun x hx => h x (by simp [hx])
    simp [Lib.indexByte, h1, h2]

set_option maxRecDepth 100000 in
set_option maxHeartbeats 400000 in
theorem indexRune_err (l : Bytes) (w : World) (ha : ∀ i (h : i < l.length), l[i].toNat < 128) (hl : l.length ≤ 1000000) :
    Calls Tryz.prog 92 #[(Value.string ⟨List.toArray (l)⟩), .int .i32 65533] w fun e w' => e = .returned (.int .i64 (-1)) ∧ Below w.heap.size w w' := by
  go_enter Tryz.func92, Tryz.ntmps92
  have Ha := hid ha
  clear ha
  go_wp2_with fail
  go_loopw [] (fun wr => ∃ i : Nat, i ≤ l.length ∧ wr = w.iter ⟨List.toArray l⟩ i) (fun wr => l.length - wr.iterPos w.heap.size)
  case atStart => exact ⟨0, by omega, rfl⟩
  case round =>
    obtain ⟨i, hi, rfl⟩ := hrel
    by_cases hlt : i < l.length
    · have hnx := fun ty => run_next_ascii (P := Tryz.prog) w ⟨List.toArray l⟩ i ty hlt (Ha.out i hlt)
      have hb := Ha.out i hlt
      have hx : ((l[i].toNat : Int) == 65533) = false := beq_eq_false_iff_ne.2 (by omega)
      simp only [get_list] at hnx
      go_wp2_with fail
      go_roundw
      case rel => exact ⟨i + 1, by omega, rfl⟩
      case measure => simp; omega
    · have hnx := run_next_end (P := Tryz.prog) w ⟨List.toArray l⟩ i
      have hsz : l.length ≤ i := by omega
      go_wp2_with fail
      go_ret
      exact ⟨rfl, (Below.refl _ _).alloc (Nat.le_refl _) _⟩
set_option maxRecDepth 100000 in
set_option maxHeartbeats 400000 in
theorem indexRune_bad (l : Bytes) (r : Int) (w : World) (h1 : 128 ≤ r) (h2 : r ≤ 2147483647) (h3 : (r == 65533) = false) (h4 : Lib.validRune r = false) :
    Calls Tryz.prog 92 #[(Value.string ⟨List.toArray (l)⟩), .int .i32 r] w fun e w' => e = .returned (.int .i64 (-1)) ∧ Below w.heap.size w w' := by
  have h5 := hid h4
  go_enter Tryz.func92, Tryz.ntmps92
  go_wp2_with (go_at_call 115; refine (Tryz.utf8_ValidRune _ _).mono ?_; rintro e w' ⟨rfl, rfl⟩)
  go_ret
  exact ⟨rfl, Below.refl _ _⟩
set_option maxRecDepth 100000 in
set_option maxHeartbeats 400000 in
theorem indexRune_high (l : Bytes) (r : Int) (w : World) (ha : ∀ i (h : i < l.length), l[i].toNat < 128) (hl : l.length ≤ 1000000) (h1 : 128 ≤ r) (h2 : r ≤ 2147483647) (h3 : (r == 65533) = false) (h4 : Lib.validRune r = true) :
    Calls Tryz.prog 92 #[(Value.string ⟨List.toArray (l)⟩), .int .i32 r] w fun e w' => e = .returned (.int .i64 (-1)) ∧ Below w.heap.size w w' := by
  have Ha := hid ha
  clear ha
  go_enter Tryz.func92, Tryz.ntmps92
  go_wp2_with (go_at_call 115; refine (Tryz.utf8_ValidRune _ _).mono ?_; rintro e w' ⟨rfl, rfl⟩)
  go_step3
  go_wp2_with fail
  obtain ⟨el, hel, he1, he2, he3⟩ := encode_high r h1 h4
  have He3 := hid he3
  clear he3
  rw [hel]
  have hx : wrap64 ((ByteArray.size ⟨List.toArray el⟩ : Int) - 1) = ((el.length - 1 : Nat) : Int) := by
    have : ByteArray.size ⟨List.toArray el⟩ = el.length := rfl
    rw [this, IntWalk.wrap64_in _ ⟨by omega, by omega⟩]
    omega
  rw [hx]
  clear hel hx h1 h2 h3 h4
  refine wp_loop_once ?_
  by_cases hlt : el.length - 1 < l.length
  · have hle : el.length - 1 < el.length := by omega
    have hbt := Ha.out _ hlt
    have hc := He3.out (by omega)
    have hne : ((l[el.length - 1].toNat : Int) != (el[el.length - 1].toNat : Int)) = true := by rw [bne_iff_ne]; omega
    have hno := indexByte_no (l.drop (el.length - 1 + 1)) el[el.length - 1] (fun b hb hx => by
      obtain ⟨j, hj, rfl⟩ := List.mem_iff_getElem.1 hb
      rw [List.getElem_drop] at hx
      have h1 := Ha.out (el.length - 1 + 1 + j) (by simp at hj; omega)
      rw [hx] at h1
      omega)
    have Hno := hid hno
    clear hno
    go_wp2_with fail
    go_step3
    go_wp2_with fail
    go_quiet (fail)
    go_wp2_with fail
    have hb : Below w'.heap.size w' (w'.drewN nq) := below_drewN (Below.refl _ _) _
    generalize w'.drewN nq = w2 at hb ⊢
    have hs1 : IntKind.i64.wrap (((el.length - 1 : Nat) : Int) + 1) = ((el.length - 1 : Nat) : Int) + 1 := IntWalk.i64_in _ (by omega)
    have hs2 : (0 : Int) ≤ ((el.length - 1 : Nat) : Int) + 1 := by omega
    have hs3 : (((el.length - 1 : Nat) : Int) + 1).toNat = el.length - 1 + 1 := by omega
    have hs4 : ((el.length - 1 : Nat) : Int) + 1 ≤ (l.length : Int) := by omega
    go_quiet ((go_at_call 69; refine Calls.quiet_of_same (Tryz.strings_IndexByte _ _ _)))
    clear hs1 hs2 hs3 hs4
    rw [show ((el[el.length - 1].toNat : Int)).toNat.toUInt8 = el[el.length - 1] from by simp, Hno.out]
    go_wp2_with fail
    rw [Exit.noGoto_ret]
    go_wp2_with fail
    rw [Exit.noGoto_ret]
    go_ret
    exact ⟨rfl, below_drewN hb _⟩
  · go_wp2_with fail
    rw [Exit.noGoto_ret]
    go_ret
    exact ⟨rfl, Below.refl _ _⟩
theorem noAny_high (s : ByteArray) (set : Bytes) (i k : Nat) (hn : Lib.NoAny s.data.toList set i) (hset : ∀ j (h : j < set.length), set[j].toNat < 128) (hh : ∀ j, i ≤ j → j < i + k → ∀ h : j < s.size, 128 ≤ s[j].toNat) : Lib.NoAny s.data.toList set (i + k) := by
  intro j b hj hb
  by_cases hji : j < i
  · exact hn j b hji hb
  · obtain ⟨hjs, rfl⟩ := List.getElem?_eq_some_iff.1 hb
    have hs : j < s.size := by rw [Lib.size_eq]; exact hjs
    have h1 : 128 ≤ (s.data.toList[j]).toNat := hh j (by omega) hj hs
    rw [Bool.eq_false_iff]
    intro hc
    have hmem := List.contains_iff_mem.1 hc
    obtain ⟨q, hq, he⟩ := List.mem_iff_getElem.1 hmem
    have h2 := hset q hq
    rw [he] at h2
    omega
theorem get_bang (s : ByteArray) (j : Nat) (h : j < s.size) : (s.get! j).toNat = s[j].toNat := by
  have := get_at s j h
  rw [Nat.add_zero] at this
  rw [this]
theorem cont_high (s : ByteArray) (j : Nat) (h : (decide (j < s.size) && (s.get! j).toNat / 64 == 2) = true) : j < s.size ∧ ∀ h : j < s.size, 128 ≤ s[j].toNat := by
  simp only [Bool.and_eq_true, decide_eq_true_eq, beq_iff_eq] at h
  refine ⟨h.1, fun hj => ?_⟩
  have := h.2
  rw [get_bang s j hj] at this
  omega
def Span (s : ByteArray) (i : Nat) (p : Nat × Nat) : Prop := i + p.2 ≤ s.size ∧ ∀ j, i ≤ j → j < i + p.2 → ∀ h : j < s.size, 128 ≤ s[j].toNat
theorem decode_span (s : ByteArray) (i : Nat) (h : i < s.size) (hx : 128 ≤ s[i].toNat) : Span s i (Utf8.decode s i) := by
  have one : ∀ e, Span s i (e, 1) := fun e => ⟨by dsimp only; omega, fun j h1 h2 h3 => by
    dsimp only at h2
    obtain rfl : j = i := by omega
    exact hx⟩
  unfold Utf8.decode
  dsimp only
  split
  · exact one _
  split
  · rename_i hc
    simp only [Bool.and_eq_true] at hc
    have c1 := cont_high s (i + 1) (by simpa using hc.2)
    split
    · refine ⟨by dsimp only; omega, fun j h1 h2 h3 => ?_⟩
      dsimp only at h2
      rcases Nat.lt_or_ge j (i + 1) with h' | h'
      · exact (one 0).2 j h1 h' h3
      · obtain rfl : j = i + 1 := by omega
        exact c1.2 h3
    · exact one _
  · split
    · rename_i hc
      simp only [Bool.and_eq_true] at hc
      have c1 := cont_high s (i + 1) (by simpa using hc.1.2)
      have c2 := cont_high s (i + 2) (by simpa using hc.2)
      split
      · refine ⟨by dsimp only; omega, fun j h1 h2 h3 => ?_⟩
        dsimp only at h2
        rcases Nat.lt_or_ge j (i + 1) with h' | h'
        · exact (one 0).2 j h1 h' h3
        · rcases Nat.lt_or_ge j (i + 2) with h'' | h''
          · obtain rfl : j = i + 1 := by omega
            exact c1.2 h3
          · obtain rfl : j = i + 2 := by omega
            exact c2.2 h3
      · exact one _
    · split
      · rename_i hc
        simp only [Bool.and_eq_true] at hc
        have c1 := cont_high s (i + 1) (by simpa using hc.1.1.2)
        have c2 := cont_high s (i + 2) (by simpa using hc.1.2)
        have c3 := cont_high s (i + 3) (by simpa using hc.2)
        split
        · refine ⟨by dsimp only; omega, fun j h1 h2 h3 => ?_⟩
          dsimp only at h2
          rcases Nat.lt_or_ge j (i + 1) with h' | h'
          · exact (one 0).2 j h1 h' h3
          · rcases Nat.lt_or_ge j (i + 2) with h'' | h''
            · obtain rfl : j = i + 1 := by omega
              exact c1.2 h3
            · rcases Nat.lt_or_ge j (i + 3) with h4 | h4
              · obtain rfl : j = i + 2 := by omega
                exact c2.2 h3
              · obtain rfl : j = i + 3 := by omega
                exact c3.2 h3
        · exact one _
      · exact one _
theorem indexRune_any (l : Bytes) (r : Int) (w : World) (ha : ∀ i (h : i < l.length), l[i].toNat < 128) (hl : l.length ≤ 1000000) (h1 : 128 ≤ r) (h2 : r ≤ 2147483647) :
    Calls Tryz.prog 92 #[(Value.string ⟨List.toArray (l)⟩), .int .i32 r] w fun e w' => e = .returned (.int .i64 (-1)) ∧ Below w.heap.size w w' := by
  by_cases h3 : r = 65533
  · subst h3
    exact indexRune_err l w ha hl
  · cases h4 : Lib.validRune r
    · exact indexRune_bad l r w h1 h2 (beq_eq_false_iff_ne.2 h3) h4
    · exact indexRune_high l r w ha hl h1 h2 (beq_eq_false_iff_ne.2 h3) h4

theorem iterPos_at {w : World} {k : Nat} {s : ByteArray} {p : Nat} (h : w.heap[k]? = some (.stringIter s p)) : w.iterPos k = p := by unfold World.iterPos; rw [h]

set_option maxRecDepth 100000 in
set_option maxHeartbeats 400000 in
theorem indexAny_short (s l : Bytes) (w : World) (ha : ∀ i (h : i < l.length), l[i].toNat < 128) (hl : l.length ≤ 1000000) (h2 : 2 ≤ l.length) (h8 : s.length ≤ 8) :
    Calls Tryz.prog 66 #[(Value.string ⟨List.toArray (s)⟩), (Value.string ⟨List.toArray (l)⟩)] w fun e w' => e = .returned (.int .i64 (Lib.indexAny s l)) ∧ Below w.heap.size w w' := by
  have Ha := hid ha
  clear ha
  have hemp : l.isEmpty = false := by cases l <;> simp at h2 ⊢
  have hn1 : ((l.length : Int) == 1) = false := beq_eq_false_iff_ne.2 (by omega)
  have h8z : decide ((8 : Int) < (s.length : Int)) = false := decide_eq_false (by omega)
  go_enter Tryz.func66, Tryz.ntmps66
  go_wp2_with (go_at_call 93; refine (Tryz.strings_shouldUseASCIISet _ _).mono ?_; rintro e w' ⟨rfl, hw⟩; rw [hw, h8z])
  go_loopw [] (fun wr => ∃ i : Nat, i ≤ s.length ∧ wr.heap[w.heap.size]? = some (.stringIter ⟨List.toArray s⟩ i) ∧ Below w.heap.size w wr ∧ Lib.NoAny s l i) (fun wr => s.length - wr.iterPos w.heap.size)
  case atStart => exact ⟨0, by omega, World.iter_heap _ _ _, (Below.refl _ _).alloc (Nat.le_refl _) _, Lib.NoAny.zero _ _⟩
  case round =>
    obtain ⟨i, hi, hit, hbl, hno⟩ := hrel
    have Hit := hid hit
    have Hbl := hid hbl
    have Hno := hid hno
    clear hit hbl hno
    have hpos : wr.iterPos w.heap.size = i := by unfold World.iterPos; rw [Hit.out]
    have Hpos := hid hpos
    clear hpos
    have hlt0 : w.heap.size < wr.heap.size := (Array.getElem?_eq_some_iff.1 Hit.out).1
    by_cases hlt : i < s.length
    · by_cases hx : s[i].toNat < 128
      · have hnx := fun ty => Lib.run_next_ascii_at (P := Tryz.prog) wr w.heap.size ⟨List.toArray s⟩ i ty Hit.out hlt hx
        simp only [get_list] at hnx
        have hcon := Lib.contains_iff_indexByte l s[i]
        have hback : ((s[i].toNat : Int)).toNat.toUInt8 = s[i] := by simp
        cases hin : l.contains s[i]
        · rw [hin] at hcon
          have hneg : ¬ ((0 : Int) ≤ Lib.indexByte l s[i]) := of_decide_eq_false hcon.symm
          clear hcon
          go_wp2_with (go_at_call 92; refine (Tryz.strings_IndexRune_ascii _ _ _ (by omega) (by omega)).mono ?_; rintro e w' ⟨rfl, hw⟩; rw [hw, hback])
          have hk := Lib.iterAt_heap wr w.heap.size ⟨List.toArray s⟩ i (i + 1) Hit.out
          have hxl : (⟨List.toArray s⟩ : ByteArray).data.toList[i]? = some s[i] := List.getElem?_eq_getElem hlt
          refine ⟨⟨i + 1, by omega, hk, Lib.below_iterAt Hbl.out (Nat.le_refl _) _ _, Hno.out.succ hxl hin⟩, ?_⟩
          rw [iterPos_at hk, Hpos.out]; omega
        · rw [hin] at hcon
          have hge : ((0 : Int) ≤ Lib.indexByte l s[i]) := of_decide_eq_true hcon.symm
          clear hcon
          go_wp2_with (go_at_call 92; refine (Tryz.strings_IndexRune_ascii _ _ _ (by omega) (by omega)).mono ?_; rintro e w' ⟨rfl, hw⟩; rw [hw, hback])
          have hxl : s[i]? = some s[i] := List.getElem?_eq_getElem hlt
          go_ret
          exact ⟨ret_int (by rw [Lib.indexAny_hit Hno.out hxl hin]), Lib.below_iterAt Hbl.out (Nat.le_refl _) _ _⟩
      · have hnx := fun ty => Lib.run_next_any_at (P := Tryz.prog) wr w.heap.size ⟨List.toArray s⟩ i ty Hit.out hlt
        have hd := decode_high ⟨List.toArray s⟩ i hlt (by simp only [get_list]; omega)
        have hd2 := decode_le ⟨List.toArray s⟩ i
        go_wp2_with (go_at_call 92; refine (indexRune_any l _ _ Ha.out hl (by omega) (by omega)).mono ?_; rintro e w' ⟨rfl, hw⟩)
        have hsp := decode_span ⟨List.toArray s⟩ i hlt (by simp only [get_list]; omega)
        have hk := Lib.iterAt_heap wr w.heap.size ⟨List.toArray s⟩ i (i + (Utf8.decode ⟨List.toArray s⟩ i).2) Hit.out
        have hk2 := (hw.block w.heap.size (by rw [Lib.iterAt_size]; exact hlt0)).trans hk
        have hle : i + (Utf8.decode ⟨List.toArray s⟩ i).2 ≤ s.length := hsp.1
        refine ⟨⟨_, hle, hk2, (Lib.below_iterAt Hbl.out (Nat.le_refl _) _ _).trans (hw.mono (by rw [Lib.iterAt_size]; omega)), noAny_high ⟨List.toArray s⟩ l i _ Hno.out Ha.out hsp.2⟩, ?_⟩
        rw [iterPos_at hk2, Hpos.out]; omega
    · have hnx := fun ty => Lib.run_next_end_at (P := Tryz.prog) wr w.heap.size ⟨List.toArray s⟩ i ty Hit.out hlt
      go_wp2_with fail
      go_ret
      exact ⟨ret_int (by rw [Lib.indexAny_none (by rw [show s.length = i by omega]; exact Hno.out)]), Hbl.out⟩

theorem strings_IndexAny (s l : Bytes) (w : World) (ha : ∀ i (h : i < l.length), l[i].toNat < 128) (hl : l.length ≤ 1000000) (h2 : 2 ≤ l.length) (hs : s.length < 4294967281) :
    Calls Tryz.prog 66 #[(Value.string ⟨List.toArray (s)⟩), (Value.string ⟨List.toArray (l)⟩)] w fun e w' => e = .returned (.int .i64 (Lib.indexAny s l)) ∧ Below w.heap.size w w' := by
  rcases Nat.lt_or_ge 8 s.length with h8 | h8
  · refine (Tryz.strings_IndexAny_long (fun _ => by kernel_rfl) ⟨List.toArray s⟩ ⟨List.toArray l⟩ w h2 h8 hs (show l.length < 4294967281 by omega) (fun j b hb => ?_)).mono ?_
    · obtain ⟨hj, rfl⟩ := List.getElem?_eq_some_iff.1 hb
      exact ha j hj
    · rintro e w' ⟨rfl, rfl⟩
      exact ⟨rfl, ((Below.refl _ _).alloc (Nat.le_refl _) _).alloc (by simp) _⟩
  · exact indexAny_short s l w ha hl h2 h8
end Go.Proofs.YtjponbpdlioocaaGreatDoor
/- The walks of package ascii. -/
set_option linter.all false
namespace Go.Proofs.YtjponbpdlioocaaGreatDoor
open Go.RowKit Wf
attribute [local go_sem] ex_list app_list get_list
set_option maxHeartbeats 400000 in
theorem ascii_IsDigit (c : UInt8) (w : World) : Calls Tryz.prog 97 #[.int .u8 c.toNat] w fun e w' => e = .returned (.bool (isDigit c)) ∧ w = w' := by
  go_enter Tryz.func97, Tryz.ntmps97
  go_wp2
  all_goals
    go_ret
    refine ⟨ret_bool ?_, rfl⟩
    have hb := or32 c
    have hc := c.toNat_lt
    rw [Bool.eq_iff_iff]
    simp [isDigit]
    try omega
set_option maxHeartbeats 400000 in
theorem ascii_IsAlpha (c : UInt8) (w : World) : Calls Tryz.prog 96 #[.int .u8 c.toNat] w fun e w' => e = .returned (.bool (isAlpha c)) ∧ w = w' := by
  go_enter Tryz.func96, Tryz.ntmps96
  go_wp2
  all_goals
    go_ret
    refine ⟨ret_bool ?_, rfl⟩
    have hb := or32 c
    have hc := c.toNat_lt
    rw [Bool.eq_iff_iff]
    simp [isAlpha]
    try omega
set_option maxHeartbeats 400000 in
theorem ascii_IsHex (c : UInt8) (w : World) : Calls Tryz.prog 101 #[.int .u8 c.toNat] w fun e w' => e = .returned (.bool (isHex c)) ∧ w = w' := by
  go_enter Tryz.func101, Tryz.ntmps101
  go_wp2
  all_goals
    go_ret
    refine ⟨ret_bool ?_, rfl⟩
    have hb := or32 c
    have hc := c.toNat_lt
    rw [Bool.eq_iff_iff]
    simp [isHex]
    try omega
set_option maxHeartbeats 400000 in
theorem ref01_IsDigit (c : UInt8) (w : World) : Calls Tryz.prog 108 #[.int .u8 c.toNat] w fun e w' => e = .returned (.bool (isDigit c)) ∧ w = w' := by
  go_enter Tryz.func108, Tryz.ntmps108
  go_wp2
  all_goals
    go_ret
    refine ⟨ret_bool ?_, rfl⟩
    have hb := or32 c
    have hc := c.toNat_lt
    rw [Bool.eq_iff_iff]
    simp [isDigit]
    try omega
set_option maxHeartbeats 400000 in
theorem ref01_IsAlpha (c : UInt8) (w : World) : Calls Tryz.prog 107 #[.int .u8 c.toNat] w fun e w' => e = .returned (.bool (isAlpha c)) ∧ w = w' := by
  go_enter Tryz.func107, Tryz.ntmps107
  go_wp2
  all_goals
    go_ret
    refine ⟨ret_bool ?_, rfl⟩
    have hb := or32 c
    have hc := c.toNat_lt
    rw [Bool.eq_iff_iff]
    simp [isAlpha]
    try omega
set_option maxHeartbeats 400000 in
theorem ref01_IsHex (c : UInt8) (w : World) : Calls Tryz.prog 109 #[.int .u8 c.toNat] w fun e w' => e = .returned (.bool (isHex c)) ∧ w = w' := by
  go_enter Tryz.func109, Tryz.ntmps109
  go_wp2
  all_goals
    go_ret
    refine ⟨ret_bool ?_, rfl⟩
    have hb := or32 c
    have hc := c.toNat_lt
    rw [Bool.eq_iff_iff]
    simp [isHex]
    try omega
end Go.Proofs.YtjponbpdlioocaaGreatDoor
/- Rows of bytes of the call's own: what a conversion lays, reads and stores; a string made of them. -/
set_option linter.all false
namespace Go.Proofs.YtjponbpdlioocaaGreatDoor
open Go.RowKit Wf
def u8V (b : UInt8) : Value := .int .u8 b.toNat
def RowU8 (w : World) (b : Nat) (l : Bytes) : Prop := ∃ (rest : List Value) (T : TypeId) (fz : Nat × Nat), w.heap[b]? = some (.cells (l.map u8V ++ rest).toArray T fz) ∧ (l.length ≤ fz.1 ∨ fz.2 ≤ fz.1)
theorem RowU8.cell {w : World} {b : Nat} {l : Bytes} (h : RowU8 w b l) {k : Nat} (hk : k < l.length) : w.cell? ⟨b, k, none⟩ = some (.int .u8 l[k].toNat) := by
  obtain ⟨rest, T, fz, hb, _⟩ := h
  rw [Lib.cell_of_heap hb k]
  simp [List.getElem?_append_left, hk, u8V]
theorem RowU8.frozen {w : World} {b : Nat} {l : Bytes} (h : RowU8 w b l) {k : Nat} (hk : k < l.length) : w.frozen? ⟨b, k, none⟩ = false := by
  obtain ⟨rest, T, fz, hb, hf⟩ := h
  simp only [World.frozen?, hb]
  simp
  omega
theorem RowU8.set {w : World} {b : Nat} {l : Bytes} (h : RowU8 w b l) {k : Nat} (hk : k < l.length) (x : UInt8) : RowU8 (w.setCell ⟨b, k, none⟩ (.int .u8 x.toNat)) b (l.set k x) := by
  obtain ⟨rest, T, fz, hb, hf⟩ := h
  refine ⟨rest, T, fz, ?_, by simpa using hf⟩
  rw [heap_set hb]
  congr 2
  simp [List.set_append_left, hk, List.map_set, u8V]
theorem RowU8.lt {w : World} {b : Nat} {l : Bytes} (h : RowU8 w b l) : b < w.heap.size := by
  obtain ⟨rest, T, fz, hb, _⟩ := h
  exact heap_lt hb
theorem RowU8.back {w : World} {b : Nat} {l : Bytes} (h : RowU8 w b l) (cap : Nat) :
    (convert 63 9 (.slice (some ⟨b, 0, none⟩) l.length cap)).run Tryz.prog w = .ok (Value.string ⟨List.toArray (l)⟩) w := by
  refine run_convert_bytes_back w _ _ 5 ⟨b, 0, none⟩ cap l Tryz.underlying63 Tryz.underlying5 Tryz.underlying9 (fun j hj => ?_)
  have : (⟨b, 0, none⟩ : Addr).add j = ⟨b, j, none⟩ := by
    unfold Addr.add
    split
    · subst j; rfl
    · simp
  rw [this]
  exact h.cell hj
theorem addr_add (b o j : Nat) : (⟨b, o, none⟩ : Addr).add j = ⟨b, o + j, none⟩ := by
  unfold Addr.add
  split
  · subst j; rfl
  · rfl
theorem RowU8.backAt {w : World} {b a : Nat} {y l : Bytes} (h : RowU8 w b (y ++ l)) (hy : y.length = a) (cap : Nat) :
    (convert 63 9 (.slice (some ⟨b, a, none⟩) l.length cap)).run Tryz.prog w = .ok (Value.string ⟨List.toArray (l)⟩) w := by
  refine run_convert_bytes_back w _ _ 5 ⟨b, a, none⟩ cap l Tryz.underlying63 Tryz.underlying5 Tryz.underlying9 (fun j hj => ?_)
  rw [addr_add]
  subst hy
  have h1 := h.cell (k := y.length + j) (by simp; omega)
  have h2 : (y ++ l)[y.length + j]'(by simp; omega) = l[j] := by rw [List.getElem_append_right (Nat.le_add_right _ _)]; simp
  rw [h2] at h1
  exact h1
theorem conv_bytes (w : World) (s : Bytes) : ∃ (w1 : World) (cap : Nat), (convert 9 63 (Value.string ⟨List.toArray (s)⟩)).run Tryz.prog w = .ok (.slice (some ⟨w.heap.size, 0, none⟩) s.length cap) w1 ∧ RowU8 w1 w.heap.size s ∧ Below w.heap.size w w1 := by
  refine ⟨_, _, Lib.run_convert_string_bytes w _ _ 5 ⟨List.toArray s⟩ Tryz.underlying9 Tryz.underlying63 Tryz.underlying5, ?_, ?_⟩
  · refine ⟨(Array.replicate (grownCap w s.length 0 5 - s.length) (Value.int .u8 0)).toList, 5, ((Lib.bytesCells w 5 ⟨List.toArray s⟩).size, (Lib.bytesCells w 5 ⟨List.toArray s⟩).size + 1), ?_, ?_⟩
    · rw [Lib.bytesWorld_at_new]
      congr 2
      apply Array.ext'
      simp [Lib.bytesCells]
      rfl
    · left
      simp [Lib.bytesCells]
  · exact ⟨by simp [Lib.bytesWorld, World.freeze]; rfl, rfl, rfl, by rw [Lib.bytesWorld_size]; omega, fun k hk => Lib.bytesWorld_at_old _ _ _ k hk⟩
end Go.Proofs.YtjponbpdlioocaaGreatDoor
/- The walks of package ascii: strings. -/
set_option linter.all false
namespace Go.Proofs.YtjponbpdlioocaaGreatDoor
open Go.RowKit Wf
attribute [local go_sem] ex_list app_list get_list

set_option maxHeartbeats 400000 in
theorem ascii_Lower (s : Bytes) (w : World) (hs : s.length ≤ 9223372036854775807) :
    Calls Tryz.prog 70 #[(Value.string ⟨List.toArray (s)⟩)] w fun e w' => e = .returned (Value.string ⟨List.toArray (lower s)⟩) ∧ Below w.heap.size w w' := by
  obtain ⟨w1, cap, hconv, hrow, hw1⟩ := conv_bytes w s
  have Hrow := hid hrow
  have Hw1 := hid hw1
  clear hrow hw1
  go_enter Tryz.func70, Tryz.ntmps70
  go_wp2_with fail
  go_loopw [10] (fun i wr => ∃ k : Nat, k ≤ s.length ∧ i = .int .i64 k ∧ RowU8 wr w.heap.size (lowTo k s) ∧ Below w.heap.size w wr) (fun i _ => s.length - (intOf i).toNat)
  case atStart => exact ⟨0, by omega, rfl, by rw [lowTo_zero]; exact Hrow.out, Hw1.out⟩
  case round =>
    obtain ⟨k, hk, rfl, hrow, hw⟩ := hrel
    have Hrow := hid hrow
    have Hw := hid hw
    clear hconv hrow hw
    by_cases hlt : k < s.length
    · have hll := lowTo_length k s
      have hcell := Hrow.out.cell (k := k) (by omega)
      have hfz := Hrow.out.frozen (k := k) (by omega)
      rw [lowTo_get hlt] at hcell
      clear hll
      by_cases hcap : 65 ≤ s[k].toNat ∧ s[k].toNat ≤ 90
      · obtain ⟨hc1, hc2⟩ := hcap
        have hst := Hrow.out.set (k := k) (by rw [lowTo_length]; exact hlt) (lowerC s[k])
        rw [lowTo_set hlt, lowerC_cap hc1 hc2] at hst
        have Hst := hid hst
        clear hst
        go_wp2_with fail
        go_roundw
        case rel => exact ⟨k + 1, by omega, by go_num, Hst.out, Hw.out.setCell (p := ⟨w.heap.size, k, none⟩) (Nat.le_refl _) _⟩
        case measure => simp [intOf]; omega
      · have Hn := hid (lowTo_next hlt (lowerC_no hcap))
        have hor : s[k].toNat < 65 ∨ 90 < s[k].toNat := by omega
        rcases hor with h | h
        all_goals
          go_wp2_with fail
          go_roundw
          case rel => exact ⟨k + 1, by omega, by go_num, Hn.out ▸ Hrow.out, Hw.out⟩
          case measure => simp [intOf]; omega
    · have hl : k = s.length := by omega
      have hrow2 := Hrow.out
      rw [hl, lowTo_all] at hrow2
      have hback := hrow2.back cap
      rw [show (lower s).length = s.length by simp [lower]] at hback
      clear hl hrow2
      go_wp2_with fail
      go_ret
      exact ⟨rfl, Hw.out⟩
set_option maxHeartbeats 400000 in
theorem ref01_Lower (s : Bytes) (w : World) (hs : s.length ≤ 9223372036854775807) :
    Calls Tryz.prog 61 #[(Value.string ⟨List.toArray (s)⟩)] w fun e w' => e = .returned (Value.string ⟨List.toArray (lower s)⟩) ∧ Below w.heap.size w w' := by
  obtain ⟨w1, cap, hconv, hrow, hw1⟩ := conv_bytes w s
  have Hrow := hid hrow
  have Hw1 := hid hw1
  clear hrow hw1
  go_enter Tryz.func61, Tryz.ntmps61
  go_wp2_with fail
  go_loopw [9] (fun i wr => ∃ k : Nat, k ≤ s.length ∧ i = .int .i64 k ∧ RowU8 wr w.heap.size (lowTo k s) ∧ Below w.heap.size w wr) (fun i _ => s.length - (intOf i).toNat)
  case atStart => exact ⟨0, by omega, rfl, by rw [lowTo_zero]; exact Hrow.out, Hw1.out⟩
  case round =>
    obtain ⟨k, hk, rfl, hrow, hw⟩ := hrel
    have Hrow := hid hrow
    have Hw := hid hw
    clear hconv hrow hw
    by_cases hlt : k < s.length
    · have hll := lowTo_length k s
      have hcell := Hrow.out.cell (k := k) (by omega)
      have hfz := Hrow.out.frozen (k := k) (by omega)
      rw [lowTo_get hlt] at hcell
      clear hll
      by_cases hcap : 65 ≤ s[k].toNat ∧ s[k].toNat ≤ 90
      · obtain ⟨hc1, hc2⟩ := hcap
        have hst := Hrow.out.set (k := k) (by rw [lowTo_length]; exact hlt) (lowerC s[k])
        rw [lowTo_set hlt, lowerC_cap hc1 hc2] at hst
        have Hst := hid hst
        clear hst
        go_wp2_with fail
        go_roundw
        case rel => exact ⟨k + 1, by omega, by go_num, Hst.out, Hw.out.setCell (p := ⟨w.heap.size, k, none⟩) (Nat.le_refl _) _⟩
        case measure => simp [intOf]; omega
      · have Hn := hid (lowTo_next hlt (lowerC_no hcap))
        have hor : s[k].toNat < 65 ∨ 90 < s[k].toNat := by omega
        rcases hor with h | h
        all_goals
          go_wp2_with fail
          go_roundw
          case rel => exact ⟨k + 1, by omega, by go_num, Hn.out ▸ Hrow.out, Hw.out⟩
          case measure => simp [intOf]; omega
    · have hl : k = s.length := by omega
      have hrow2 := Hrow.out
      rw [hl, lowTo_all] at hrow2
      have hback := hrow2.back cap
      rw [show (lower s).length = s.length by simp [lower]] at hback
      clear hl hrow2
      go_wp2_with fail
      go_ret
      exact ⟨rfl, Hw.out⟩

set_option maxHeartbeats 400000 in
theorem ascii_every (s : Bytes) (w : World) (hs : s.length ≤ 9223372036854775807) :
    Calls Tryz.prog 121 #[(Value.string ⟨List.toArray (s)⟩), .func (.func 97) #[] #[]] w fun e w' => e = .returned (.bool (s.all isDigit)) ∧ w = w' := by
  go_enter Tryz.func121, Tryz.ntmps121
  go_wp2_with fail
  go_loop [8] (fun i => ∃ k : Nat, k ≤ s.length ∧ i = .int .i64 k ∧ (s.take k).all isDigit = true) (fun i => s.length - (intOf i).toNat)
  case atStart => exact ⟨0, by omega, rfl, rfl⟩
  case round =>
    obtain ⟨k, hk, rfl, hall⟩ := hrel
    have Hall := hid hall
    clear hall
    by_cases hlt : k < s.length
    · cases hc : isDigit s[k]
      · have Ha := hid (all_not hlt hc)
        go_wp2_with (go_at_call 97; refine (ascii_IsDigit _ _).mono ?_; rintro e w' ⟨rfl, rfl⟩)
        go_ret
        exact ⟨ret_bool Ha.out.symm, rfl⟩
      · go_wp2_with (go_at_call 97; refine (ascii_IsDigit _ _).mono ?_; rintro e w' ⟨rfl, rfl⟩)
        go_round
        case rel => exact ⟨k + 1, by omega, by go_num, all_take_snoc hlt Hall.out hc⟩
        case measure => simp [intOf]; omega
    · have hall := Hall.out
      rw [List.take_of_length_le (by omega)] at hall
      have Ha := hid hall
      clear hall Hall
      go_wp2_with fail
      go_ret
      exact ⟨ret_bool Ha.out.symm, rfl⟩
set_option maxHeartbeats 400000 in
theorem ascii_Digits (s : Bytes) (w : World) (hs : s.length ≤ 9223372036854775807) :
    Calls Tryz.prog 113 #[(Value.string ⟨List.toArray (s)⟩)] w fun e w' => e = .returned (.bool (digitsOk s)) ∧ w = w' := by
  cases hn : s.isEmpty
  all_goals
    have Hd := hid (show digitsOk s = (!s.isEmpty && s.all isDigit) from rfl)
    rw [hn] at Hd
    go_enter Tryz.func113, Tryz.ntmps113
    go_wp2_with (go_at_call 121; refine (ascii_every _ _ hs).mono ?_; rintro e w' ⟨rfl, rfl⟩)
    go_ret
    exact ⟨ret_bool (by rw [Hd.out]; simp), rfl⟩
set_option maxHeartbeats 400000 in
theorem ref01_Digits (s : Bytes) (w : World) (hs : s.length ≤ 9223372036854775807) :
    Calls Tryz.prog 88 #[(Value.string ⟨List.toArray (s)⟩)] w fun e w' => e = .returned (.bool (digitsOk s)) ∧ w = w' := by
  go_enter Tryz.func88, Tryz.ntmps88
  go_wp2_with fail
  go_loop [3] (fun i => ∃ k : Nat, k ≤ s.length ∧ i = .int .i64 k ∧ (s.take k).all isDigit = true) (fun i => s.length - (intOf i).toNat)
  case atStart => exact ⟨0, by omega, rfl, rfl⟩
  case round =>
    obtain ⟨k, hk, rfl, hall⟩ := hrel
    have Hall := hid hall
    clear hall
    by_cases hlt : k < s.length
    · cases hc : isDigit s[k]
      · have Ha := hid (all_not hlt hc)
        go_wp2_with (go_at_call 108; refine (ref01_IsDigit _ _).mono ?_; rintro e w' ⟨rfl, rfl⟩)
        go_ret
        exact ⟨ret_bool (by unfold digitsOk; rw [Ha.out]; simp), rfl⟩
      · go_wp2_with (go_at_call 108; refine (ref01_IsDigit _ _).mono ?_; rintro e w' ⟨rfl, rfl⟩)
        go_round
        case rel => exact ⟨k + 1, by omega, by go_num, all_take_snoc hlt Hall.out hc⟩
        case measure => simp [intOf]; omega
    · have hall := Hall.out
      rw [List.take_of_length_le (by omega)] at hall
      have Ha := hid hall
      clear hall Hall
      go_wp2_with fail
      go_ret
      exact ⟨ret_bool (by unfold digitsOk; rw [Ha.out]; simp), rfl⟩
set_option maxHeartbeats 400000 in
theorem ref01_In (c : UInt8) (s : Bytes) (w : World) (hs : s.length ≤ 9223372036854775807) :
    Calls Tryz.prog 58 #[.int .u8 c.toNat, (Value.string ⟨List.toArray (s)⟩)] w fun e w' => e = .returned (.bool (has s c)) ∧ w = w' := by
  go_enter Tryz.func58, Tryz.ntmps58
  go_wp2_with fail
  go_loop [5] (fun i => ∃ k : Nat, k ≤ s.length ∧ i = .int .i64 k ∧ has (s.take k) c = false) (fun i => s.length - (intOf i).toNat)
  case atStart => exact ⟨0, by omega, rfl, rfl⟩
  case round =>
    obtain ⟨k, hk, rfl, hall⟩ := hrel
    have Hall := hid hall
    clear hall
    by_cases hlt : k < s.length
    · by_cases hc : s[k] = c
      · have hx : ((s[k].toNat : Int) == (c.toNat : Int)) = true := by simp [hc]
        have Ha := hid (show has s c = true by unfold has; rw [List.contains_iff_mem]; exact hc ▸ List.getElem_mem hlt)
        go_wp2_with fail
        go_ret
        exact ⟨ret_bool Ha.out.symm, rfl⟩
      · have hx : ((s[k].toNat : Int) == (c.toNat : Int)) = false := by
          rw [beq_eq_false_iff_ne]
          intro h
          exact hc (UInt8.toNat_inj.1 (by omega))
        go_wp2_with fail
        go_round
        case rel => exact ⟨k + 1, by omega, by go_num, by
          have := Hall.out
          unfold has at this ⊢
          rw [List.take_succ_eq_append_getElem hlt, List.contains_eq_any_beq, List.any_append, ← List.contains_eq_any_beq, this]
          simp
          exact fun h => hc h.symm⟩
        case measure => simp [intOf]; omega
    · have hall := Hall.out
      rw [List.take_of_length_le (by omega)] at hall
      have Ha := hid hall
      clear hall Hall
      go_wp2_with fail
      go_ret
      exact ⟨ret_bool Ha.out.symm, rfl⟩
set_option maxHeartbeats 400000 in
theorem ref01_Index (s t : Bytes) (w : World) (hs : s.length ≤ 9223372036854775807) (ht : t.length ≤ 9223372036854775807) :
    Calls Tryz.prog 37 #[(Value.string ⟨List.toArray (s)⟩), (Value.string ⟨List.toArray (t)⟩)] w fun e w' => e = .returned (.int .i64 (pre (has t ·) s)) ∧ w = w' := by
  have hle := pre_le (has t ·) s
  go_enter Tryz.func37, Tryz.ntmps37
  go_wp2_with fail
  go_loop [5] (fun i => ∃ k : Nat, k ≤ pre (has t ·) s ∧ i = .int .i64 k) (fun i => s.length - (intOf i).toNat)
  case atStart => exact ⟨0, by omega, rfl⟩
  case round =>
    obtain ⟨k, hk, rfl⟩ := hrel
    by_cases hlt : k < pre (has t ·) s
    · have hc := pre_get hlt (by omega)
      go_wp2_with (go_at_call 58; refine (ref01_In _ _ _ ht).mono ?_; rintro e w' ⟨rfl, rfl⟩)
      go_round
      case rel => exact ⟨k + 1, by omega, by go_num⟩
      case measure => simp [intOf]; omega
    · obtain rfl : k = pre (has t ·) s := by omega
      clear hk hlt
      by_cases hend : pre (has t ·) s < s.length
      · have hc := pre_at hend
        go_wp2_with (go_at_call 58; refine (ref01_In _ _ _ ht).mono ?_; rintro e w' ⟨rfl, rfl⟩)
        go_ret
        exact ⟨rfl, rfl⟩
      · have he := hid (show pre (has t ·) s = s.length by omega)
        go_wp2_with fail
        go_ret
        exact ⟨ret_int (by rw [he.out]), rfl⟩
end Go.Proofs.YtjponbpdlioocaaGreatDoor
/- The library's contracts on strings, for the calculus of conditions. -/
set_option linter.all false
namespace Go.Proofs.YtjponbpdlioocaaGreatDoor
open Go Vc Go.RowKit Wf
theorem below_draws {w w' : World} (h : ∃ n, w' = w.drewN n) : Below w.heap.size w w' := by
  obtain ⟨n, rfl⟩ := h
  exact below_drewN (Below.refl _ _) _
theorem below_same {w w' : World} (h : w = w') : Below w.heap.size w w' := by subst h; exact Below.refl _ _
theorem p_IndexByte (l : Bytes) (c : UInt8) : PC Tryz.V 69 [.str l, .int .u8 c.toNat] (.int .i64 (Lib.indexByte l c)) :=
  ⟨Tryz.call69, by simp [flat, flat.flatL], by simp [flat, flat.flatL], fun w hE => (s_IndexByte l c w).mono fun _ _ ⟨h, k⟩ => ⟨h, below_same k⟩⟩
theorem p_HasPrefix (l p : Bytes) : PC Tryz.V 36 [.str l, .str p] (.bool (Lib.hasPrefix l p)) :=
  ⟨Tryz.call36, by simp [flat, flat.flatL], by simp [flat, flat.flatL], fun w hE => (s_HasPrefix l p w).mono fun _ _ ⟨h, k⟩ => ⟨h, below_same k⟩⟩
theorem p_CutPrefix (l p : Bytes) : PC Tryz.V 68 [.str l, .str p] (.tup [.str (Lib.trimPrefix l p), .bool (Lib.hasPrefix l p)]) :=
  ⟨Tryz.call68, by simp [flat, flat.flatL], by simp [flat, flat.flatL], fun w hE => (s_CutPrefix l p w).mono fun _ _ ⟨h, k⟩ => ⟨h, below_same k⟩⟩
theorem p_TrimPrefix (l p : Bytes) : PC Tryz.V 75 [.str l, .str p] (.str (Lib.trimPrefix l p)) :=
  ⟨Tryz.call75, by simp [flat, flat.flatL], by simp [flat, flat.flatL], fun w hE => (s_TrimPrefix l p w).mono fun _ _ ⟨h, k⟩ => ⟨h, below_same k⟩⟩
theorem p_Cut (l : Bytes) (c : UInt8) (hl : l.length < 4294967281) : PC Tryz.V 54 [.str l, .str [c]] (.tup [.str (cutC c l).1, .str (cutC c l).2.1, .bool (cutC c l).2.2]) :=
  ⟨Tryz.call54, by simp [flat, flat.flatL], by simp [flat, flat.flatL], fun w hE => (s_Cut l c w hE hl).mono fun _ _ ⟨h, k⟩ => ⟨h, below_draws k⟩⟩
theorem p_IndexAny (s l : Bytes) (ha : ∀ i (h : i < l.length), l[i].toNat < 128) (hl : l.length ≤ 1000000) (h2 : 2 ≤ l.length) (hs : s.length < 4294967281) :
    PC Tryz.V 66 [.str s, .str l] (.int .i64 (Lib.indexAny s l)) :=
  ⟨Tryz.call66, by simp [flat, flat.flatL], by simp [flat, flat.flatL], fun w hE => strings_IndexAny s l w ha hl h2 hs⟩
def lastB (s : Bytes) (c : UInt8) : Int := Lib.lastIndexByte ⟨List.toArray s⟩ c.toNat
theorem lastB_eq (s : Bytes) (c : UInt8) : lastB s c = ((s.reverse.dropWhile (· != c)).length : Int) - 1 := by
  have h : ∀ k, k ≤ s.length → Lib.lastIdx ⟨List.toArray s⟩ c.toNat k = (((s.take k).reverse.dropWhile (· != c)).length : Int) - 1 := by
    intro k
    induction k with
    | zero => intro _; simp [Lib.lastIdx]
    | succ k ih =>
      intro hk
      have hk' : k < s.length := by omega
      have e : (⟨List.toArray s⟩ : ByteArray).data[k]! = s[k] := by simp [hk']
      rw [List.take_succ_eq_append_getElem hk', List.reverse_append, List.reverse_singleton, List.singleton_append, Lib.lastIdx, e]
      by_cases hc : s[k] = c
      · rw [if_pos (by rw [hc]), List.dropWhile_cons_of_neg (by simp [hc])]
        simp
        omega
      · rw [if_neg (fun h => hc (UInt8.toNat_inj.1 (by exact_mod_cast h))), List.dropWhile_cons_of_pos (by simp [hc]), ih (by omega)]
  have := h s.length (Nat.le_refl _)
  rw [List.take_length] at this
  exact this
theorem p_LastIndexByte (s : Bytes) (c : UInt8) (hs : s.length < 4611686018427387904) : PC Tryz.V 76 [.str s, .int .u8 c.toNat] (.int .i64 (lastB s c)) :=
  ⟨Tryz.call76, by simp [flat, flat.flatL], by simp [flat, flat.flatL], fun w hE => (Tryz.strings_LastIndexByte ⟨List.toArray s⟩ c.toNat hs w).mono fun _ _ ⟨h, k⟩ => ⟨h, below_same k.symm⟩⟩
theorem hp_no {p q : Bytes} (h : Lib.hasPrefix p q = false) : ¬ (q.isPrefixOf p = true) := by unfold Lib.hasPrefix at h; simp [h]
theorem hp_len {p q : Bytes} (h : Lib.hasPrefix p q = true) : q.length ≤ p.length := (List.isPrefixOf_iff_prefix.1 h).length_le
theorem trim_len (s p : Bytes) : (Lib.trimPrefix s p).length ≤ s.length := by
  unfold Lib.trimPrefix; split <;> simp
theorem byte_is {s : Bytes} {k : Nat} (hk : k < s.length) (c : UInt8) {n : Int} (hn : n = c.toNat) : (((s.getD k 0).toNat : Int) == n) = (s[k] == c) := by
  subst hn
  rw [show s.getD k 0 = s[k] by simp [List.getD, hk], Bool.eq_iff_iff]
  simp only [beq_iff_eq]
  exact ⟨fun h => UInt8.toNat_inj.1 (by exact_mod_cast h), fun h => by rw [h]⟩
theorem one_u8 (l : Bytes) : (l.map u8S).all Vc.one = true := by simp [u8S, Vc.one]
end Go.Proofs.YtjponbpdlioocaaGreatDoor
/- The walks of package number. -/
set_option linter.all false
namespace Go.Proofs.YtjponbpdlioocaaGreatDoor
open Go.RowKit Wf
attribute [local go_sem] ex_list app_list get_list

set_option maxHeartbeats 400000 in
theorem number_value (c : UInt8) (w : World) (h : isHex c = true) : Calls Tryz.prog 126 #[.int .u8 c.toNat] w fun e w' => e = .returned (.int .u64 (hexVal c)) ∧ w = w' := by
  cases hd : isDigit c
  all_goals
    go_enter Tryz.func126, Tryz.ntmps126
    go_wp2_with (go_at_call 97; refine (ascii_IsDigit _ _).mono ?_; rintro e w' ⟨rfl, rfl⟩)
    go_ret
    refine ⟨ret_int ?_, rfl⟩
    have hb := or32 c
    simp [isHex, isDigit] at h hd
    unfold hexVal
    split <;> (try split) <;> omega

set_option maxHeartbeats 1000000 in
theorem number_parse10 (s : Bytes) (m : Nat) (w : World) (hs : s.length ≤ 9223372036854775807) (hm : m ≤ 4611686018427387904) :
    Calls Tryz.prog 122 #[(Value.string ⟨List.toArray (s)⟩), .int .u64 10, .int .u64 m, .func (.func 97) #[] #[]] w fun e w' => e = .returned (.tuple #[.int .u64 (numParse isDigit 10 m s).1, .int .i64 (numParse isDigit 10 m s).2]) ∧ w = w' := by
  cases hne : s.isEmpty
  · go_enter Tryz.func122, Tryz.ntmps122
    go_wp2_with fail
    go_loop [18] (fun i => ∃ k : Nat, k ≤ s.length ∧ i = .int .i64 k ∧ (s.take k).all isDigit = true) (fun i => s.length - (intOf i).toNat)
    case atStart => exact ⟨0, by omega, rfl, rfl⟩
    case round =>
      obtain ⟨k, hk, rfl, hall⟩ := hrel
      have Hall := hid hall
      clear hall
      by_cases hlt : k < s.length
      · cases hc : isDigit s[k]
        · go_wp2_with (go_at_call 97; refine (ascii_IsDigit _ _).mono ?_; rintro e w' ⟨rfl, rfl⟩)
          go_ret2
          exact ⟨ret_ni (by simp [numParse, hne, all_not hlt hc]), rfl⟩
        · go_wp2_with (go_at_call 97; refine (ascii_IsDigit _ _).mono ?_; rintro e w' ⟨rfl, rfl⟩)
          go_round
          case rel => exact ⟨k + 1, by omega, by go_num, all_take_snoc hlt Hall.out hc⟩
          case measure => simp [intOf]; omega
      · have hall : s.all isDigit = true := by have := Hall.out; rwa [List.take_of_length_le (by omega)] at this
        clear Hall
        have Hall := hid hall
        clear hall
        go_wp2_with fail
        go_loop [11, 30] (fun n i => ∃ k a : Nat, k ≤ s.length ∧ i = .int .i64 k ∧ a ≤ m ∧ n = .int .u64 a ∧ numGo 10 m a (s.drop k) = numGo 10 m 0 s) (fun _ i => s.length - (intOf i).toNat)
        case atStart => exact ⟨0, 0, by omega, rfl, by omega, rfl, rfl⟩
        case round =>
          obtain ⟨j, a, hj, rfl, ha, rfl, heq⟩ := hrel
          have Heq := hid heq
          clear heq
          by_cases hjt : j < s.length
          · have hv := hexVal_le (show isHex s[j] = true by have := all_get Hall.out hjt; first | exact this | (simp [isDigit, isHex] at this ⊢; omega))
            go_wp2_with (go_at_call 126; refine (number_value _ _ (by have := all_get Hall.out hjt; first | exact this | (simp [isDigit, isHex] at this ⊢; omega))).mono ?_; rintro e w' ⟨rfl, rfl⟩)
            all_goals first
              | (go_ret2; exact ⟨ret_ni (numParse_err hne Hall.out Heq.out hjt (by omega)), rfl⟩)
              | (go_round
                 case rel => exact ⟨j + 1, a * 10 + hexVal s[j], by omega, by go_num, by omega, by go_num, numParse_next Heq.out hjt (by omega)⟩
                 case measure => simp [intOf]; omega)
          · go_wp2_with fail
            go_ret2
            exact ⟨ret_ni (numParse_done hne Hall.out Heq.out hjt), rfl⟩
  · go_enter Tryz.func122, Tryz.ntmps122
    go_wp2_with fail
    go_ret2
    exact ⟨ret_ni (by simp [numParse, hne]), rfl⟩
set_option maxHeartbeats 400000 in
theorem number_Parse (s : Bytes) (m : Nat) (w : World) (hs : s.length ≤ 9223372036854775807) (hm : m ≤ 4611686018427387904) :
    Calls Tryz.prog 114 #[(Value.string ⟨List.toArray (s)⟩), .int .u64 m] w fun e w' => e = .returned (.tuple #[.int .u64 (numParse isDigit 10 m s).1, .int .i64 (numParse isDigit 10 m s).2]) ∧ w = w' := by
  go_enter Tryz.func114, Tryz.ntmps114
  go_wp2_with (go_at_call 122; refine (number_parse10 _ _ _ hs hm).mono ?_; rintro e w' ⟨rfl, rfl⟩)
  go_ret2
  exact ⟨rfl, rfl⟩
set_option maxHeartbeats 400000 in
theorem number_Strict (s : Bytes) (m : Nat) (w : World) (hs : s.length ≤ 9223372036854775807) (hm : m ≤ 4611686018427387904) :
    Calls Tryz.prog 85 #[(Value.string ⟨List.toArray (s)⟩), .int .u64 m] w fun e w' => e = .returned (.tuple #[.int .u64 (numStrict m s).1, .int .i64 (numStrict m s).2]) ∧ w = w' := by
  by_cases hd : digitsOk s = true
  · by_cases h1 : 1 < s.length
    · by_cases h0 : s[0] = 48
      · have Hq := hid (show numStrict m s = (0, 6) from if_pos ⟨hd, h1, by rw [head_get (by omega), h0]⟩)
        have hx : ((s[0].toNat : Int) == 48) = true := by simp [h0]
        clear h0
        go_enter Tryz.func85, Tryz.ntmps85
        go_wp2_with (go_at_call 113; refine (ascii_Digits _ _ hs).mono ?_; rintro e w' ⟨rfl, rfl⟩)
        go_ret2
        rw [Hq.out]
        exact ⟨rfl, rfl⟩
      · have Hq := hid (show numStrict m s = numParse isDigit 10 m s from if_neg (by rintro ⟨_, _, h⟩; rw [head_get (by omega)] at h; exact h0 (by simpa using h)))
        have hx : ((s[0].toNat : Int) == 48) = false := u8_ne h0
        clear h0
        go_enter Tryz.func85, Tryz.ntmps85
        go_wp2_with (first
          | (go_at_call 113; refine (ascii_Digits _ _ hs).mono ?_; rintro e w' ⟨rfl, rfl⟩)
          | (go_at_call 114; refine (number_Parse _ _ _ hs hm).mono ?_; rintro e w' ⟨rfl, rfl⟩))
        go_ret2
        rw [Hq.out]
        exact ⟨rfl, rfl⟩
    · have Hq := hid (show numStrict m s = numParse isDigit 10 m s from if_neg (by rintro ⟨_, h, _⟩; exact h1 h))
      go_enter Tryz.func85, Tryz.ntmps85
      go_wp2_with (first
        | (go_at_call 113; refine (ascii_Digits _ _ hs).mono ?_; rintro e w' ⟨rfl, rfl⟩)
        | (go_at_call 114; refine (number_Parse _ _ _ hs hm).mono ?_; rintro e w' ⟨rfl, rfl⟩))
      go_ret2
      rw [Hq.out]
      exact ⟨rfl, rfl⟩
  · have Hq := hid (show numStrict m s = numParse isDigit 10 m s from if_neg (by rintro ⟨h, _, _⟩; exact hd h))
    have hd2 : digitsOk s = false := by simpa using hd
    clear hd
    go_enter Tryz.func85, Tryz.ntmps85
    go_wp2_with (first
      | (go_at_call 113; refine (ascii_Digits _ _ hs).mono ?_; rintro e w' ⟨rfl, rfl⟩)
      | (go_at_call 114; refine (number_Parse _ _ _ hs hm).mono ?_; rintro e w' ⟨rfl, rfl⟩))
    go_ret2
    rw [Hq.out]
    exact ⟨rfl, rfl⟩
set_option maxHeartbeats 1000000 in
theorem ref04_parse10 (s : Bytes) (m : Nat) (w : World) (hs : s.length ≤ 9223372036854775807) (hm : m ≤ 4611686018427387904) :
    Calls Tryz.prog 89 #[(Value.string ⟨List.toArray (s)⟩), .int .u64 10, .int .u64 m] w fun e w' => e = .returned (.tuple #[.int .u64 (numParse isDigit 10 m s).1, .int .i64 (numParse isDigit 10 m s).2]) ∧ w = w' := by
  cases hne : s.isEmpty
  · go_enter Tryz.func89, Tryz.ntmps89
    go_wp2_with fail
    go_loop [8] (fun i => ∃ k : Nat, k ≤ s.length ∧ i = .int .i64 k ∧ (s.take k).all isDigit = true) (fun i => s.length - (intOf i).toNat)
    case atStart => exact ⟨0, by omega, rfl, rfl⟩
    case round =>
      obtain ⟨k, hk, rfl, hall⟩ := hrel
      have Hall := hid hall
      clear hall
      by_cases hlt : k < s.length
      · cases hc : isDigit s[k]
        · have Ha := hid (all_not hlt hc)
          go_wp2_with (go_at_call 108; refine (ref01_IsDigit _ _).mono ?_; rintro e w' ⟨rfl, rfl⟩)
          go_ret2
          exact ⟨ret_ni (by simp [numParse, hne, Ha.out]), rfl⟩
        · go_wp2_with (go_at_call 108; refine (ref01_IsDigit _ _).mono ?_; rintro e w' ⟨rfl, rfl⟩)
          go_round
          case rel => exact ⟨k + 1, by omega, by go_num, all_take_snoc hlt Hall.out hc⟩
          case measure => simp [intOf]; omega
      · have hall : s.all isDigit = true := by have := Hall.out; rwa [List.take_of_length_le (by omega)] at this
        clear Hall
        have Hall := hid hall
        clear hall
        go_wp2_with fail
        go_loop [9, 10] (fun n i => ∃ k a : Nat, k ≤ s.length ∧ i = .int .i64 k ∧ a ≤ m ∧ n = .int .u64 a ∧ numGo 10 m a (s.drop k) = numGo 10 m 0 s) (fun _ i => s.length - (intOf i).toNat)
        case atStart => exact ⟨0, 0, by omega, rfl, by omega, rfl, rfl⟩
        case round =>
          obtain ⟨j, a, hj, rfl, ha, rfl, heq⟩ := hrel
          have Heq := hid heq
          clear heq
          by_cases hjt : j < s.length
          · have hdg := all_get Hall.out hjt
            simp [isDigit] at hdg
            obtain ⟨hd1, hd2⟩ := hdg
            have Hv := hid (show (hexVal s[j] : Int) = s[j].toNat - 48 by unfold hexVal; rw [if_pos hd2]; omega)
            go_wp2_with fail
            all_goals
              have hu := u64_wrap ((m : Int) - (s[j].toNat - 48)) (by omega) (by omega)
              have hv := Hv.out
              first
              | (go_ret2; exact ⟨ret_ni (numParse_err hne Hall.out Heq.out hjt (by omega)), rfl⟩)
              | (go_round
                 case rel => exact ⟨j + 1, a * 10 + hexVal s[j], by omega, by go_num, by omega, congrArg (Value.int .u64) (by omega), numParse_next Heq.out hjt (by omega)⟩
                 case measure => simp [intOf]; omega)
          · go_wp2_with fail
            go_ret2
            exact ⟨ret_ni (numParse_done hne Hall.out Heq.out hjt), rfl⟩
  · go_enter Tryz.func89, Tryz.ntmps89
    go_wp2_with fail
    go_ret2
    exact ⟨ret_ni (by simp [numParse, hne]), rfl⟩
set_option maxHeartbeats 400000 in
theorem ref04_Strict (s : Bytes) (m : Nat) (w : World) (hs : s.length ≤ 9223372036854775807) (hm : m ≤ 4611686018427387904) :
    Calls Tryz.prog 62 #[(Value.string ⟨List.toArray (s)⟩), .int .u64 m] w fun e w' => e = .returned (.tuple #[.int .u64 (numStrict m s).1, .int .i64 (numStrict m s).2]) ∧ w = w' := by
  have hq : numStrict m s = if digitsOk s = true ∧ 1 < s.length ∧ s.head? = some 48 then (0, 6) else numParse isDigit 10 m s := rfl
  have he := numParse_err_dig m s
  have hc := ref04_parse10 s m w hs hm
  generalize numParse isDigit 10 m s = np at hq he hc
  obtain ⟨n, e⟩ := np
  simp only at hq he hc
  have Hc := hid hc
  clear hc
  by_cases hd : digitsOk s = true
  · rw [hd] at he
    simp only [iff_true] at he
    have hg : (e == 0 || e == 4) = true := by simp; omega
    by_cases h1 : 1 < s.length
    · by_cases h0 : s[0] = 48
      · rw [if_pos ⟨hd, h1, by rw [head_get (by omega), h0]⟩] at hq
        have Hq := hid hq
        have hx : ((s[0].toNat : Int) == 48) = true := by simp [h0]
        clear h0 hq
        rcases he with rfl | rfl
        all_goals
          go_enter Tryz.func62, Tryz.ntmps62
          go_wp2_with fail
          refine Hc.out.mono ?_
          rintro e w' ⟨rfl, rfl⟩
          go_wp2_with fail
          go_ret2
          rw [Hq.out]
          exact ⟨rfl, rfl⟩
      · rw [if_neg (by rintro ⟨_, _, h⟩; rw [head_get (by omega)] at h; exact h0 (by simpa using h))] at hq
        have Hq := hid hq
        have hx : ((s[0].toNat : Int) == 48) = false := u8_ne h0
        clear h0 hq
        rcases he with rfl | rfl
        all_goals
          go_enter Tryz.func62, Tryz.ntmps62
          go_wp2_with fail
          refine Hc.out.mono ?_
          rintro e w' ⟨rfl, rfl⟩
          go_wp2_with fail
          go_ret2
          rw [Hq.out]
          exact ⟨rfl, rfl⟩
    · rw [if_neg (by rintro ⟨_, h, _⟩; exact h1 h)] at hq
      have Hq := hid hq
      clear hq
      rcases he with rfl | rfl
      all_goals
        go_enter Tryz.func62, Tryz.ntmps62
        go_wp2_with fail
        refine Hc.out.mono ?_
        rintro e w' ⟨rfl, rfl⟩
        go_wp2_with fail
        go_ret2
        rw [Hq.out]
        exact ⟨rfl, rfl⟩
  · rw [if_neg (by rintro ⟨h, _, _⟩; exact hd h)] at hq
    have hd2 : digitsOk s = false := by simpa using hd
    rw [hd2] at he
    have h1 : (e == 0) = false := by simp; intro h; simp [h] at he
    have h2 : (e == 4) = false := by simp; intro h; simp [h] at he
    have Hq := hid hq
    clear hd he hq
    go_enter Tryz.func62, Tryz.ntmps62
    go_wp2_with fail
    refine Hc.out.mono ?_
    rintro e w' ⟨rfl, rfl⟩
    go_wp2_with fail
    go_ret2
    rw [Hq.out]
    exact ⟨rfl, rfl⟩
end Go.Proofs.YtjponbpdlioocaaGreatDoor
/- The walks of package host. -/
set_option linter.all false
namespace Go.Proofs.YtjponbpdlioocaaGreatDoor
open Go.RowKit Wf
attribute [local go_sem] ex_list app_list get_list

theorem labelOk_eq (s : Bytes) (h1 : s.isEmpty = false) (h2 : s.length ≤ 63) (h3 : ¬ s[0]? = some 45) (h4 : ¬ s[s.length - 1]? = some 45) : labelOk s = s.all ldh := by
  unfold labelOk
  rw [List.getLast?_eq_getElem?, List.head?_eq_getElem?]
  simp [h1, h2, h3, h4]

set_option maxHeartbeats 1000000 in
theorem host_label (s : Bytes) (w : World) (hs : s.length ≤ 9223372036854775807) :
    Calls Tryz.prog 112 #[(Value.string ⟨List.toArray (s)⟩)] w fun e w' => e = .returned (.bool (labelOk s)) ∧ w = w' := by
  cases h1 : s.isEmpty
  · by_cases h2 : 63 < s.length
    · have Hq := hid (show labelOk s = false by unfold labelOk; simp; omega)
      go_enter Tryz.func112, Tryz.ntmps112
      go_wp2_with fail
      go_ret
      exact ⟨ret_bool Hq.out.symm, rfl⟩
    · have hl : 0 < s.length := by cases s <;> simp at h1 ⊢
      by_cases h3 : s[0] = 45
      · have Hq := hid (show labelOk s = false by unfold labelOk; rw [head_get hl, h3]; simp)
        have hx : ((s[0].toNat : Int) == 45) = true := by simp [h3]
        clear h3
        go_enter Tryz.func112, Tryz.ntmps112
        go_wp2_with fail
        go_ret
        exact ⟨ret_bool Hq.out.symm, rfl⟩
      · have hx : ((s[0].toNat : Int) == 45) = false := u8_ne h3
        by_cases h4 : s[s.length - 1] = 45
        · have Hq := hid (show labelOk s = false by
            unfold labelOk
            rw [List.getLast?_eq_getElem?, List.getElem?_eq_getElem (by omega), h4]; simp)
          have hy : ((s[s.length - 1].toNat : Int) == 45) = true := by simp [h4]
          clear h4 h3
          go_enter Tryz.func112, Tryz.ntmps112
          go_wp2_with fail
          go_ret
          exact ⟨ret_bool Hq.out.symm, rfl⟩
        · have hy : ((s[s.length - 1].toNat : Int) == 45) = false := u8_ne h4
          have Hq := hid (labelOk_eq s h1 (by omega) (by rw [List.getElem?_eq_getElem hl]; simpa using h3) (by rw [List.getElem?_eq_getElem (by omega)]; simpa using h4))
          have hdec : decide (63 < (s.length : Int)) = false := decide_eq_false (by omega)
          clear h3 h4
          go_enter Tryz.func112, Tryz.ntmps112
          go_wp2_with fail
          go_loop [26] (fun i => ∃ k : Nat, k ≤ s.length ∧ i = .int .i64 k ∧ (s.take k).all ldh = true) (fun i => s.length - (intOf i).toNat)
          case atStart => exact ⟨0, by omega, rfl, rfl⟩
          case round => (
            obtain ⟨k, hk, rfl, hall⟩ := hrel
            have Hall := hid hall
            clear hall
            by_cases hlt : k < s.length
            · cases hc : ldh s[k]
              · have Ha := hid (all_not hlt hc)
                have hc' := hc
                unfold ldh at hc'
                simp only [Bool.or_eq_false_iff] at hc'
                obtain ⟨⟨c1, c2⟩, c3⟩ := hc'
                have c4 : ((s[k].toNat : Int) != 45) = true := by
                  have : s[k] ≠ 45 := by simpa using c3
                  rw [bne_iff_ne]
                  intro h
                  exact this (UInt8.toNat_inj.1 (by simp; omega))
                clear c3 hc
                go_wp2_with (first
                  | (go_at_call 96; refine (ascii_IsAlpha _ _).mono ?_; rintro e w' ⟨rfl, rfl⟩)
                  | (go_at_call 97; refine (ascii_IsDigit _ _).mono ?_; rintro e w' ⟨rfl, rfl⟩))
                go_ret
                exact ⟨ret_bool (by rw [Hq.out, Ha.out]), rfl⟩
              · have Hc := hid (all_take_snoc hlt Hall.out hc)
                unfold ldh at hc
                simp only [Bool.or_eq_true, beq_iff_eq] at hc
                rcases hc with (hc | hc) | hc
                · go_wp2_with (first
                  | (go_at_call 96; refine (ascii_IsAlpha _ _).mono ?_; rintro e w' ⟨rfl, rfl⟩)
                  | (go_at_call 97; refine (ascii_IsDigit _ _).mono ?_; rintro e w' ⟨rfl, rfl⟩))
                  go_round
                  case rel => exact ⟨k + 1, by omega, by go_num, Hc.out⟩
                  case measure => simp [intOf]; omega
                · cases hca : isAlpha s[k]
                  all_goals
                    go_wp2_with (first
                      | (go_at_call 96; refine (ascii_IsAlpha _ _).mono ?_; rintro e w' ⟨rfl, rfl⟩)
                      | (go_at_call 97; refine (ascii_IsDigit _ _).mono ?_; rintro e w' ⟨rfl, rfl⟩))
                    go_round
                    case rel => exact ⟨k + 1, by omega, by go_num, Hc.out⟩
                    case measure => simp [intOf]; omega
                · have c4 : ((s[k].toNat : Int) != 45) = false := by simp [hc]
                  clear hc
                  cases hca : isAlpha s[k] <;> cases hcd : isDigit s[k]
                  all_goals
                    go_wp2_with (first
                      | (go_at_call 96; refine (ascii_IsAlpha _ _).mono ?_; rintro e w' ⟨rfl, rfl⟩)
                      | (go_at_call 97; refine (ascii_IsDigit _ _).mono ?_; rintro e w' ⟨rfl, rfl⟩))
                    go_round
                    case rel => exact ⟨k + 1, by omega, by go_num, Hc.out⟩
                    case measure => simp [intOf]; omega
            · have hall := Hall.out
              rw [List.take_of_length_le (by omega)] at hall
              have Ha := hid hall
              clear hall Hall
              go_wp2_with fail
              go_ret
              exact ⟨ret_bool (by rw [Hq.out, Ha.out]), rfl⟩)
  · have Hq := hid (show labelOk s = false by unfold labelOk; simp [h1])
    go_enter Tryz.func112, Tryz.ntmps112
    go_wp2_with fail
    go_ret
    exact ⟨ret_bool Hq.out.symm, rfl⟩
set_option maxHeartbeats 1000000 in
theorem host_name (s : Bytes) (w : World) (hE : Env w) (hs : s.length < 4294967281) :
    Calls Tryz.prog 84 #[(Value.string ⟨List.toArray (s)⟩)] w fun e w' => e = .returned (.bool (nameOk s)) ∧ Below w.heap.size w w' := by
  go_enter Tryz.func84, Tryz.ntmps84
  go_wp2_with fail
  go_loopw [0] (fun v wr => ∃ r : Bytes, v = (Value.string ⟨List.toArray (r)⟩) ∧ r.length ≤ s.length ∧ Below w.heap.size w wr ∧ nameOk r = nameOk s) (fun v _ => sLen v)
  case atStart => exact ⟨s, rfl, by omega, Below.refl _ _, rfl⟩
  case round =>
    obtain ⟨r, rfl, hr, hw, heq⟩ := hrel
    have Hw := hid hw
    have HE := hid (hE.below hw)
    have Heq := hid heq
    clear hw heq
    by_cases hp : pre (· == 46) r < r.length
    · have hcut := hid (show cutC 46 r = (r.take (pre (· == 46) r), r.drop (pre (· == 46) r + 1), true) from if_pos hp)
      have hnl : nameOk r = (labelOk (r.take (pre (· == 46) r)) && nameOk (r.drop (pre (· == 46) r + 1))) := by
        unfold nameOk
        rw [splitC_hit hp]
        have := splitC_ne 46 (r.drop (pre (· == 46) r + 1))
        cases hsp : splitC 46 (r.drop (pre (· == 46) r + 1)) with
        | nil => exact absurd hsp this
        | cons y l => rfl
      cases hl : labelOk (r.take (pre (· == 46) r))
      all_goals
        rw [hl] at hnl
        have Hnl := hid (hnl.symm.trans Heq.out)
        clear hnl
        go_wp2_with fail
        refine (s_Cut r 46 wr HE.out (by omega)).mono ?_
        rintro e w2 ⟨rfl, n, hw2⟩
        rw [hcut.out]
        have Hw2 : Hid (Below w.heap.size w w2) := hid (by rw [hw2]; exact below_drewN Hw.out _)
        clear hw2
        go_wp2_with (go_at_call 112; refine (host_label _ _ (by simp; omega)).mono ?_; rintro e w' ⟨rfl, rfl⟩)
      · go_ret
        exact ⟨ret_bool Hnl.out, Hw2.out⟩
      · go_roundw
        case rel => exact ⟨_, rfl, by simp; omega, Hw2.out, Hnl.out⟩
        case measure => simp [sLen_mk]; omega
    · have hcut := hid (show cutC 46 r = (r, [], false) from if_neg hp)
      have hnl : nameOk r = (labelOk r && !digitsOk r) := by unfold nameOk; rw [splitC_miss hp]; rfl
      have Hnl := hid (hnl.symm.trans Heq.out)
      clear hnl
      cases hl : labelOk r
      all_goals
        rw [hl] at Hnl
        go_wp2_with fail
        refine (s_Cut r 46 wr HE.out (by omega)).mono ?_
        rintro e w2 ⟨rfl, n, hw2⟩
        rw [hcut.out]
        have Hw2 : Hid (Below w.heap.size w w2) := hid (by rw [hw2]; exact below_drewN Hw.out _)
        clear hw2
        go_wp2_with (first
          | (go_at_call 112; refine (host_label _ _ (by omega)).mono ?_; rintro e w' ⟨rfl, rfl⟩)
          | (go_at_call 113; refine (ascii_Digits _ _ (by omega)).mono ?_; rintro e w' ⟨rfl, rfl⟩))
        go_ret
        exact ⟨ret_bool (by have := Hnl.out; simpa using this), Hw2.out⟩
set_option maxHeartbeats 1000000 in
theorem host_IsIPv4 (s : Bytes) (w : World) (hE : Env w) (hs : s.length < 4294967281) :
    Calls Tryz.prog 83 #[(Value.string ⟨List.toArray (s)⟩)] w fun e w' => e = .returned (.bool (ipv4 s)) ∧ Below w.heap.size w w' := by
  have hq : ipv4 s = ((splitC 46 s).length == 4 && (splitC 46 s).all octetOk) := rfl
  have hsp := s_Split s 46 w hE hs
  have hlen : ∀ x ∈ splitC 46 s, x.length ≤ s.length := splitC_len 46 s
  generalize splitC 46 s = parts at hq hsp hlen
  have Hq := hid hq
  have Hsp := hid hsp
  have Hlen := hid hlen
  clear hq hsp hlen
  by_cases h4 : parts.length = 4
  · have hx : ((parts.length : Int) != 4) = false := by simp [h4]
    go_enter Tryz.func83, Tryz.ntmps83
    go_wp2_with fail
    refine Hsp.out.mono ?_
    rintro e w1 ⟨rfl, hw1⟩
    have Hrow : Hid (RowStr w1 w.heap.size parts) := hid (by rw [hw1]; have := RowStr.alloc w parts [] 9; simpa using this)
    have Hw1 : Hid (Below w.heap.size w w1) := hid (by rw [hw1]; exact (Below.refl _ _).alloc (Nat.le_refl _) _)
    clear hw1
    go_wp2_with fail
    go_loop [15] (fun i => ∃ k : Nat, k ≤ 4 ∧ i = .int .i64 k ∧ (parts.take k).all octetOk = true) (fun i => 4 - (intOf i).toNat)
    case atStart => exact ⟨0, by omega, rfl, rfl⟩
    case round =>
      obtain ⟨k, hk, rfl, hall⟩ := hrel
      have Hall := hid hall
      clear hall
      by_cases hlt : k < 4
      · have hkl : k < parts.length := by omega
        have hcell := Hrow.out k hkl
        have hln := Hlen.out parts[k] (List.getElem_mem hkl)
        have hoc : octetOk parts[k] = ((numStrict 255 parts[k]).2 == 0) := rfl
        cases hc : octetOk parts[k]
        · have Ha := hid (all_not hkl hc)
          have hn : ((numStrict 255 parts[k]).2 != 0) = true := by rw [hc] at hoc; simp only [bne]; rw [← hoc]; rfl
          clear hoc
          go_wp2_with (go_at_call 85; refine (number_Strict _ 255 _ (by omega) (by omega)).mono ?_; rintro e w' ⟨rfl, rfl⟩)
          go_ret
          exact ⟨ret_bool (by rw [Hq.out, Ha.out]; simp), Hw1.out⟩
        · have Hn := hid (all_take_snoc hkl Hall.out hc)
          have hn : ((numStrict 255 parts[k]).2 != 0) = false := by rw [hc] at hoc; simp only [bne]; rw [← hoc]; rfl
          clear hoc
          go_wp2_with (go_at_call 85; refine (number_Strict _ 255 _ (by omega) (by omega)).mono ?_; rintro e w' ⟨rfl, rfl⟩)
          go_round
          case rel => exact ⟨k + 1, by omega, by go_num, Hn.out⟩
          case measure => simp [intOf]; omega
      · have hall := Hall.out
        rw [List.take_of_length_le (by omega)] at hall
        have Ha := hid hall
        clear hall Hall
        go_wp2_with fail
        go_ret
        exact ⟨ret_bool (by rw [Hq.out, Ha.out, h4]; rfl), Hw1.out⟩
  · have hx : ((parts.length : Int) != 4) = true := by simp; omega
    go_enter Tryz.func83, Tryz.ntmps83
    go_wp2_with fail
    refine Hsp.out.mono ?_
    rintro e w1 ⟨rfl, hw1⟩
    have Hw1 : Hid (Below w.heap.size w w1) := hid (by rw [hw1]; exact (Below.refl _ _).alloc (Nat.le_refl _) _)
    clear hw1
    go_wp2_with fail
    go_ret
    exact ⟨ret_bool (by rw [Hq.out]; simp [h4]), Hw1.out⟩
set_option maxHeartbeats 1000000 in
theorem host_Host (s : Bytes) (w : World) (hE : Env w) (hs : s.length < 4294967281) :
    Calls Tryz.prog 55 #[(Value.string ⟨List.toArray (s)⟩)] w fun e w' => e = .returned (.tuple #[(Value.string ⟨List.toArray ((hostM s).1)⟩), .int .i64 (hostM s).2]) ∧ Below w.heap.size w w' := by
  cases h1 : s.isEmpty
  · by_cases h2 : 253 < s.length
    · have Hq := hid (show hostM s = ([], 5) by unfold hostM; simp [h1, h2])
      go_enter Tryz.func55, Tryz.ntmps55
      go_wp2_with fail
      go_ret2
      rw [Hq.out]
      exact ⟨rfl, Below.refl _ _⟩
    · cases h3 : ipv4 s
      · cases h4 : nameOk s
        · have Hq := hid (show hostM s = ([], 50) by unfold hostM; simp [h1, h2, h3, h4])
          go_enter Tryz.func55, Tryz.ntmps55
          go_wp2_with (first
            | (go_at_call 83; refine (host_IsIPv4 _ _ hE hs).mono ?_; rintro e w1 ⟨rfl, hw1⟩)
            | (go_at_call 84; refine (host_name _ _ (hE.below ‹_›) hs).mono ?_; rintro e w2 ⟨rfl, hw2⟩))
          go_ret2
          rw [Hq.out]
          exact ⟨rfl, below_all ‹_› ‹_›⟩
        · have Hq := hid (show hostM s = (lower s, 0) by unfold hostM; simp [h1, h2, h3, h4])
          go_enter Tryz.func55, Tryz.ntmps55
          go_wp2_with (first
            | (go_at_call 83; refine (host_IsIPv4 _ _ hE hs).mono ?_; rintro e w1 ⟨rfl, hw1⟩)
            | (go_at_call 84; refine (host_name _ _ (hE.below hw1) hs).mono ?_; rintro e w2 ⟨rfl, hw2⟩)
            | (go_at_call 70; refine (ascii_Lower _ _ (by omega)).mono ?_; rintro e w3 ⟨rfl, hw3⟩))
          go_ret2
          rw [Hq.out]
          exact ⟨rfl, below_all (below_all hw1 hw2) hw3⟩
      · have Hq := hid (show hostM s = (lower s, 0) by unfold hostM; simp [h1, h2, h3])
        go_enter Tryz.func55, Tryz.ntmps55
        go_wp2_with (first
          | (go_at_call 83; refine (host_IsIPv4 _ _ hE hs).mono ?_; rintro e w1 ⟨rfl, hw1⟩)
          | (go_at_call 70; refine (ascii_Lower _ _ (by omega)).mono ?_; rintro e w3 ⟨rfl, hw3⟩))
        go_ret2
        rw [Hq.out]
        exact ⟨rfl, below_all hw1 hw3⟩
  · have Hq := hid (show hostM s = ([], 3) by unfold hostM; simp [h1])
    go_enter Tryz.func55, Tryz.ntmps55
    go_wp2_with fail
    go_ret2
    rw [Hq.out]
    exact ⟨rfl, Below.refl _ _⟩
end Go.Proofs.YtjponbpdlioocaaGreatDoor
/- The walks of package host: ports, hosts with ports, texts. -/
set_option linter.all false
namespace Go.Proofs.YtjponbpdlioocaaGreatDoor
open Go.RowKit Go.Sort Wf
attribute [local go_sem] ex_list app_list get_list

set_option maxHeartbeats 400000 in
theorem host_Port (s : Bytes) (w : World) (hs : s.length ≤ 9223372036854775807) :
    Calls Tryz.prog 56 #[(Value.string ⟨List.toArray (s)⟩)] w fun e w' => e = .returned (.tuple #[.int .i64 (portM s).1, .int .i64 (portM s).2]) ∧ w = w' := by
  have hle := numStrict_le 65535 s
  have hq : portM s = if (numStrict 65535 s).2 ≠ 0 ∨ (numStrict 65535 s).1 = 0 then (0, 51) else (((numStrict 65535 s).1 : Int), 0) := rfl
  have hc := number_Strict s 65535 w (by omega) (by omega)
  generalize numStrict 65535 s = np at hle hq hc
  obtain ⟨n, e⟩ := np
  simp only at hle hq hc
  have Hc := hid hc
  clear hc
  by_cases he : e = 0
  · subst he
    by_cases hn : n = 0
    · rw [if_pos (Or.inr hn)] at hq
      have Hq := hid hq
      have hx : ((n : Int) == 0) = true := by simp [hn]
      clear hq hn
      go_enter Tryz.func56, Tryz.ntmps56
      go_wp2_with fail
      refine Hc.out.mono ?_
      rintro e w' ⟨rfl, rfl⟩
      go_wp2_with fail
      go_ret2
      rw [Hq.out]
      exact ⟨rfl, rfl⟩
    · rw [if_neg (by simp [hn])] at hq
      have Hq := hid hq
      have hx : ((n : Int) == 0) = false := by simp [hn]
      clear hq hn
      go_enter Tryz.func56, Tryz.ntmps56
      go_wp2_with fail
      refine Hc.out.mono ?_
      rintro e w' ⟨rfl, rfl⟩
      go_wp2_with fail
      go_ret2
      rw [Hq.out]
      exact ⟨rfl, rfl⟩
  · rw [if_pos (Or.inl he)] at hq
    have Hq := hid hq
    have hx : (e != 0) = true := by simp [he]
    clear hq
    go_enter Tryz.func56, Tryz.ntmps56
    go_wp2_with fail
    refine Hc.out.mono ?_
    rintro e w' ⟨rfl, rfl⟩
    go_wp2_with fail
    go_ret2
    rw [Hq.out]
    exact ⟨rfl, rfl⟩
set_option maxHeartbeats 1000000 in
theorem host_Parse (s : Bytes) (w : World) (hE : Env w) (hs : s.length < 4294967281) :
    Calls Tryz.prog 35 #[(Value.string ⟨List.toArray (s)⟩)] w fun e w' => e = .returned (.tuple #[.agg #[(Value.string ⟨List.toArray ((hostPort s).1.1)⟩), .int .i64 (hostPort s).1.2], .int .i64 (hostPort s).2]) ∧ Below w.heap.size w w' := by
  have hcl := cutC_len 58 s
  have hct := fun w hE => s_Cut s 58 w hE hs
  have hq : hostPort s = hostPortOf (hostM (cutC 58 s).1) (cutC 58 s).2.2 (portM (cutC 58 s).2.1) := rfl
  generalize cutC 58 s = C at hcl hct hq
  obtain ⟨first, rest, colon⟩ := C
  simp only at hcl hct hq
  have hh := fun w hE => host_Host first w hE (by omega)
  have hp := fun w => host_Port rest w (by omega)
  generalize hostM first = H at hq hh
  generalize portM rest = P at hq hp
  obtain ⟨h, e⟩ := H
  obtain ⟨p, f⟩ := P
  simp only at hh hp
  have Hct := hid hct
  have Hh := hid hh
  have Hp := hid hp
  clear hct hh hp hcl
  have ha := heap_new w (.cells #[(Value.string ⟨List.toArray ([])⟩), .int .i64 0] 38)
  have hba : Below w.heap.size w (w.alloc (.cells #[(Value.string ⟨List.toArray ([])⟩), .int .i64 0] 38)) := (Below.refl _ _).alloc (Nat.le_refl _) _
  generalize hwa : w.alloc (.cells #[(Value.string ⟨List.toArray ([])⟩), .int .i64 0] 38) = wa at ha hba
  have Ha := hid ha
  have Hba := hid hba
  have Hwa := hid hwa
  clear ha hba hwa
  by_cases he : e = 0
  · subst he
    cases colon
    · have Hq := hid (show hostPort s = ((h, 0), 0) from hq)
      clear hq
      go_enter Tryz.func35, Tryz.ntmps35
      go_wp2_with fail
      rw [Hwa.out]
      refine (Hct.out _ (hE.below Hba.out)).mono ?_
      rintro e w1 ⟨rfl, n, hw1⟩
      have Hw1 : Hid (Below w.heap.size w w1) := hid (by rw [hw1]; exact below_drewN Hba.out _)
      have Ha1 : Hid (w1.heap[w.heap.size]? = some (.cells #[(Value.string ⟨List.toArray ([])⟩), .int .i64 0] 38 (0, 0))) := hid (by rw [hw1]; exact Ha.out)
      clear hw1
      go_wp2_with fail
      refine (Hh.out _ (hE.below Hw1.out)).mono ?_
      rintro e w2 ⟨rfl, hw2⟩
      have Ha2 := hid ((hw2.block _ (heap_lt Ha1.out)).trans Ha1.out)
      have Hw2 := hid (below_all Hw1.out hw2)
      clear hw2
      have hlt := heap_lt Ha2.out
      have c0 := Lib.cell_of_heap Ha2.out 0
      have c1 := Lib.cell_of_heap Ha2.out 1
      have z0 := Lib.frozen_of_heap Ha2.out 0
      have z1 := Lib.frozen_of_heap Ha2.out 1
      go_wp2_with fail
      refine bodyPost_ret (v := .tuple #[.agg #[(Value.string ⟨List.toArray (h)⟩), .int .i64 0], .int .i64 0]) (by simp [results, Tryz.results35, go_sem, c0, c1, hlt]) rfl ⟨?_, ?_⟩
      · rw [Hq.out]
      · repeat (first | exact Hw2.out | (refine Below.setCell (p := ⟨_, _, none⟩) ?_ (by simp <;> omega) _) | (refine Below.alloc ?_ (by simp <;> omega) _) | refine Below.drew ?_)
    · by_cases hf : f = 0
      · subst hf
        by_cases h443 : p = 443
        · have Hq := hid (show hostPort s = ((h, 0), 0) by rw [hq]; unfold hostPortOf; simp [h443])
          have hx : (p == 443) = true := by simp [h443]
          clear hq h443
          go_enter Tryz.func35, Tryz.ntmps35
          go_wp2_with fail
          rw [Hwa.out]
          refine (Hct.out _ (hE.below Hba.out)).mono ?_
          rintro e w1 ⟨rfl, n, hw1⟩
          have Hw1 : Hid (Below w.heap.size w w1) := hid (by rw [hw1]; exact below_drewN Hba.out _)
          have Ha1 : Hid (w1.heap[w.heap.size]? = some (.cells #[(Value.string ⟨List.toArray ([])⟩), .int .i64 0] 38 (0, 0))) := hid (by rw [hw1]; exact Ha.out)
          clear hw1
          go_wp2_with fail
          refine (Hh.out _ (hE.below Hw1.out)).mono ?_
          rintro e w2 ⟨rfl, hw2⟩
          have Ha2 := hid ((hw2.block _ (heap_lt Ha1.out)).trans Ha1.out)
          have Hw2 := hid (below_all Hw1.out hw2)
          clear hw2
          have hlt := heap_lt Ha2.out
          have c0 := Lib.cell_of_heap Ha2.out 0
          have c1 := Lib.cell_of_heap Ha2.out 1
          have z0 := Lib.frozen_of_heap Ha2.out 0
          have z1 := Lib.frozen_of_heap Ha2.out 1
          go_wp2_with (go_at_call 56; refine (Hp.out _).mono ?_; rintro e w3 ⟨rfl, rfl⟩)
          refine bodyPost_ret (v := .tuple #[.agg #[(Value.string ⟨List.toArray (h)⟩), .int .i64 0], .int .i64 0]) (by simp [results, Tryz.results35, go_sem, c0, c1, hlt]) rfl ⟨?_, ?_⟩
          · rw [Hq.out]
          · repeat (first | exact Hw2.out | (refine Below.setCell (p := ⟨_, _, none⟩) ?_ (by simp <;> omega) _) | (refine Below.alloc ?_ (by simp <;> omega) _) | refine Below.drew ?_)
        · have Hq := hid (show hostPort s = ((h, p), 0) by rw [hq]; unfold hostPortOf; simp [h443])
          have hx : (p == 443) = false := by simp [h443]
          clear hq h443
          go_enter Tryz.func35, Tryz.ntmps35
          go_wp2_with fail
          rw [Hwa.out]
          refine (Hct.out _ (hE.below Hba.out)).mono ?_
          rintro e w1 ⟨rfl, n, hw1⟩
          have Hw1 : Hid (Below w.heap.size w w1) := hid (by rw [hw1]; exact below_drewN Hba.out _)
          have Ha1 : Hid (w1.heap[w.heap.size]? = some (.cells #[(Value.string ⟨List.toArray ([])⟩), .int .i64 0] 38 (0, 0))) := hid (by rw [hw1]; exact Ha.out)
          clear hw1
          go_wp2_with fail
          refine (Hh.out _ (hE.below Hw1.out)).mono ?_
          rintro e w2 ⟨rfl, hw2⟩
          have Ha2 := hid ((hw2.block _ (heap_lt Ha1.out)).trans Ha1.out)
          have Hw2 := hid (below_all Hw1.out hw2)
          clear hw2
          have hlt := heap_lt Ha2.out
          have c0 := Lib.cell_of_heap Ha2.out 0
          have c1 := Lib.cell_of_heap Ha2.out 1
          have z0 := Lib.frozen_of_heap Ha2.out 0
          have z1 := Lib.frozen_of_heap Ha2.out 1
          go_wp2_with (go_at_call 56; refine (Hp.out _).mono ?_; rintro e w3 ⟨rfl, rfl⟩)
          refine bodyPost_ret (v := .tuple #[.agg #[(Value.string ⟨List.toArray (h)⟩), .int .i64 p], .int .i64 0]) (by simp [results, Tryz.results35, go_sem, c0, c1, hlt]) rfl ⟨?_, ?_⟩
          · rw [Hq.out]
          · repeat (first | exact Hw2.out | (refine Below.setCell (p := ⟨_, _, none⟩) ?_ (by simp <;> omega) _) | (refine Below.alloc ?_ (by simp <;> omega) _) | refine Below.drew ?_)
      · have Hq := hid (show hostPort s = (([], 0), f) by rw [hq]; unfold hostPortOf; simp [hf])
        have hx : (f != 0) = true := by simp [hf]
        clear hq hf
        go_enter Tryz.func35, Tryz.ntmps35
        go_wp2_with fail
        rw [Hwa.out]
        refine (Hct.out _ (hE.below Hba.out)).mono ?_
        rintro e w1 ⟨rfl, n, hw1⟩
        have Hw1 : Hid (Below w.heap.size w w1) := hid (by rw [hw1]; exact below_drewN Hba.out _)
        have Ha1 : Hid (w1.heap[w.heap.size]? = some (.cells #[(Value.string ⟨List.toArray ([])⟩), .int .i64 0] 38 (0, 0))) := hid (by rw [hw1]; exact Ha.out)
        clear hw1
        go_wp2_with fail
        refine (Hh.out _ (hE.below Hw1.out)).mono ?_
        rintro e w2 ⟨rfl, hw2⟩
        have Ha2 := hid ((hw2.block _ (heap_lt Ha1.out)).trans Ha1.out)
        have Hw2 := hid (below_all Hw1.out hw2)
        clear hw2
        have hlt := heap_lt Ha2.out
        have c0 := Lib.cell_of_heap Ha2.out 0
        have c1 := Lib.cell_of_heap Ha2.out 1
        have z0 := Lib.frozen_of_heap Ha2.out 0
        have z1 := Lib.frozen_of_heap Ha2.out 1
        go_wp2_with (go_at_call 56; refine (Hp.out _).mono ?_; rintro e w3 ⟨rfl, rfl⟩)
        refine bodyPost_ret (v := .tuple #[.agg #[(Value.string ⟨List.toArray ([])⟩), .int .i64 0], .int .i64 f]) (by simp [results, Tryz.results35, go_sem, c0, c1, hlt]) rfl ⟨?_, ?_⟩
        · rw [Hq.out]
        · repeat (first | exact Hw2.out | (refine Below.setCell (p := ⟨_, _, none⟩) ?_ (by simp <;> omega) _) | (refine Below.alloc ?_ (by simp <;> omega) _) | refine Below.drew ?_)
  · have hx : (e != 0) = true := by simp [he]
    have Hq := hid (show hostPort s = (([], 0), e) by rw [hq]; unfold hostPortOf; rw [if_pos he])
    clear hq he
    go_enter Tryz.func35, Tryz.ntmps35
    go_wp2_with fail
    rw [Hwa.out]
    refine (Hct.out _ (hE.below Hba.out)).mono ?_
    rintro e w1 ⟨rfl, n, hw1⟩
    have Hw1 : Hid (Below w.heap.size w w1) := hid (by rw [hw1]; exact below_drewN Hba.out _)
    have Ha1 : Hid (w1.heap[w.heap.size]? = some (.cells #[(Value.string ⟨List.toArray ([])⟩), .int .i64 0] 38 (0, 0))) := hid (by rw [hw1]; exact Ha.out)
    clear hw1
    go_wp2_with fail
    refine (Hh.out _ (hE.below Hw1.out)).mono ?_
    rintro e w2 ⟨rfl, hw2⟩
    have Ha2 := hid ((hw2.block _ (heap_lt Ha1.out)).trans Ha1.out)
    have Hw2 := hid (below_all Hw1.out hw2)
    clear hw2
    have hlt := heap_lt Ha2.out
    have c0 := Lib.cell_of_heap Ha2.out 0
    have c1 := Lib.cell_of_heap Ha2.out 1
    have z0 := Lib.frozen_of_heap Ha2.out 0
    have z1 := Lib.frozen_of_heap Ha2.out 1
    go_wp2_with fail
    refine bodyPost_ret (v := .tuple #[.agg #[(Value.string ⟨List.toArray ([])⟩), .int .i64 0], .int .i64 e]) (by simp [results, Tryz.results35, go_sem, c0, c1]) rfl ⟨?_, ?_⟩
    · rw [Hq.out]
    · repeat (first | exact Hw2.out | (refine Below.setCell (p := ⟨_, _, none⟩) ?_ (by simp <;> omega) _) | (refine Below.alloc ?_ (by simp <;> omega) _) | refine Below.drew ?_)
theorem slice_buf (B a : Nat) (ha : a ≤ 19) (W : World) : (Instr.sliceAt 84 (.pointer (some ⟨B, 0, none⟩)) (some (.int .i64 a)) none none).run Tryz.prog W = .ok (.slice (some ⟨B, a, none⟩) (20 - a) (20 - a)) W := by
  have h20 : Tryz.prog.arrayLen 84 = 20 := by kernel_rfl
  have he : Tryz.prog.elem 84 = 5 := by kernel_rfl
  have hu : Tryz.prog.underlying 84 = some (.array (Tryz.prog.arrayLen 84) (Tryz.prog.elem 84)) := by kernel_rfl
  rw [run_sliceAt_array_l W _ ⟨B, 0, none⟩ hu .i64 a (by omega) (by rw [h20]; omega), he, h20, Tryz.sizeOf5]
  have : ¬ (20 = a) := by omega
  simp [Result.andThen, slicedAt, addr_add, this]
set_option maxHeartbeats 400000 in
theorem number_Format (n : Nat) (w : World) (hn : n ≤ 18446744073709551615) :
    Calls Tryz.prog 41 #[.int .u64 n] w fun e w' => e = .returned (Value.string ⟨List.toArray (decS n)⟩) ∧ Below w.heap.size w w' := by
  have hlen : (decS n).length ≤ 20 := decS_length 19 n (by omega)
  go_enter Tryz.func41, Tryz.ntmps41
  go_wp2_with fail
  go_loopw [0, 4] (fun v i wr => ∃ (k a : Nat) (x ds : Bytes), v = .int .u64 k ∧ i = .int .i64 a ∧ k ≤ 18446744073709551615 ∧ a ≤ 19 ∧ RowU8 wr w.heap.size (x ++ ds) ∧ x.length = a + 1 ∧ ds.length = 19 - a ∧ decS k ++ ds = decS n ∧ (decS k).length ≤ a + 1 ∧ Below w.heap.size w wr) (fun v _ _ => (intOf v).toNat)
  case atStart =>
    refine ⟨n, 19, List.replicate 20 0, [], rfl, rfl, hn, by omega, ?_, by simp, rfl, by simp, hlen, (Below.refl _ _).alloc (Nat.le_refl _) _⟩
    exact ⟨[], _, (0, 0), heap_new _ _, Or.inr (by simp)⟩
  case round =>
    obtain ⟨k, a, x, ds, rfl, rfl, hk, ha, hrow, hx, hds, heq, hl, hw⟩ := hrel
    obtain ⟨y, z, rfl, hy⟩ := snoc_of hx
    have e : y ++ [z] ++ ds = y ++ z :: ds := by simp
    rw [e] at hrow
    obtain ⟨cv, hcell⟩ : ∃ q : Int, wr.cell? ⟨w.heap.size, a, none⟩ = some (.int .u8 q) := ⟨_, hrow.cell (k := a) (by simp; omega)⟩
    have hfz := hrow.frozen (k := a) (by simp; omega)
    have Hrow := hid hrow
    have Heq := hid heq
    have Hw := hid hw
    have Hy := hid hy
    have Hds := hid hds
    clear hrow heq hw hy hds hx e
    by_cases h10 : k < 10
    · have hst := Hrow.out.set (k := a) (by have := Hy.out; simp; omega) (dig k)
      have hset : (y ++ z :: ds).set a (dig k) = y ++ (dig k) :: ds := by rw [← Hy.out]; exact set_mid y z _ ds
      rw [hset, digit_toNat h10] at hst
      have hback := fun cap => hst.backAt Hy.out cap
      have hdl : ((dig k) :: ds).length = 20 - a := by have := Hds.out; simp; omega
      rw [hdl] at hback
      have Hds2 := hid (show decS n = (dig k) :: ds by rw [← Heq.out, decS_small h10]; rfl)
      have hsl := slice_buf w.heap.size a ha
      clear hst hset hdl
      go_wp2_with fail
      go_ret
      exact ⟨ret_str Hds2.out.symm, Hw.out.setCell (p := ⟨w.heap.size, a, none⟩) (Nat.le_refl _) _⟩
    · have hst := Hrow.out.set (k := a) (by have := Hy.out; simp; omega) (dig (k % 10))
      have hset : (y ++ z :: ds).set a (dig (k % 10)) = y ++ (dig (k % 10)) :: ds := by rw [← Hy.out]; exact set_mid y z _ ds
      rw [hset, digit_toNat (show k % 10 < 10 by omega)] at hst
      have Hst := hid hst
      have Heq2 := hid (show decS (k / 10) ++ (dig (k % 10)) :: ds = decS n by rw [← Heq.out, decS_big h10]; simp)
      have hl2 := decS_big_length h10
      have hp2 := decS_pos (k / 10)
      have Hl2 := hid hl2
      clear hst hset hl2
      go_wp2_with fail
      have h1 := Hl2.out
      refine ⟨⟨k / 10, a - 1, y, _, congrArg (Value.int .u64) (by omega), congrArg (Value.int .i64) (by omega), by omega, by omega, Hst.out, by have := Hy.out; omega, by have := Hds.out; simp; omega, Heq2.out, by omega, Hw.out.setCell (p := ⟨w.heap.size, a, none⟩) (Nat.le_refl _) _⟩, ?_⟩
      simp [intOf]; omega
theorem neg_u64 (p : Int) (h : p < 0) (h1 : -9223372036854775808 ≤ p) : IntKind.u64.wrap (-(IntKind.u64.wrap p)) = (p.natAbs : Int) := by
  simp only [IntKind.wrap, IntKind.signed, IntKind.bits]
  simp
  omega
set_option maxHeartbeats 400000 in
theorem host_Format (h : Bytes) (p : Int) (w : World) (hh : h.length ≤ 4611686018427387904) (h1 : -9223372036854775808 ≤ p) (h2 : p ≤ 9223372036854775807) :
    Calls Tryz.prog 26 #[.agg #[(Value.string ⟨List.toArray (h)⟩), .int .i64 p]] w fun e w' => e = .returned (Value.string ⟨List.toArray (hostText h p)⟩) ∧ Below w.heap.size w w' := by
  have ha := heap_new w (.cells #[(Value.string ⟨List.toArray (h)⟩), .int .i64 p] 38)
  have hba : Below w.heap.size w (w.alloc (.cells #[(Value.string ⟨List.toArray (h)⟩), .int .i64 p] 38)) := (Below.refl _ _).alloc (Nat.le_refl _) _
  generalize hwa : w.alloc (.cells #[(Value.string ⟨List.toArray (h)⟩), .int .i64 p] 38) = wa at ha hba
  have hlt := heap_lt ha
  have c0 : wa.cell? ⟨w.heap.size, 0, none⟩ = some (Value.string ⟨List.toArray (h)⟩) := Lib.cell_of_heap ha 0
  have c1 : wa.cell? ⟨w.heap.size, 1, none⟩ = some (.int .i64 p) := Lib.cell_of_heap ha 1
  have Hba := hid hba
  have Hwa := hid hwa
  clear ha hba hwa
  by_cases h0 : p = 0
  · subst h0
    have Hq := hid (show hostText h 0 = h from if_pos rfl)
    go_enter Tryz.func26, Tryz.ntmps26
    go_wp2_with fail
    rw [Hwa.out]
    go_wp2_with fail
    go_ret
    exact ⟨ret_str Hq.out.symm, Hba.out⟩
  · have hx : (p == 0) = false := by simp [h0]
    by_cases hneg : p < 0
    · have Hq := hid (show hostText h p = h ++ [58, 45] ++ decS p.natAbs by unfold hostText; rw [if_neg h0, if_pos hneg])
      clear h0
      go_enter Tryz.func26, Tryz.ntmps26
      go_wp2_with fail
      rw [Hwa.out]
      go_wp2_with fail
      have hd := decS_length 19 p.natAbs (by omega)
      have hu := neg_u64 p hneg h1
      have n1 : ¬ 9223372036854775807 < h.length + 2 := by omega
      have n2 : ¬ 9223372036854775807 < h.length + 2 + (decS p.natAbs).length := by omega
      have hpn : p.natAbs ≤ 18446744073709551615 := by omega
      have k0 := cell_regrown c0
      have k1 := cell_regrown c1
      clear c0 c1 hx
      refine wp_region_quiet_below (by kernel_rfl) (by kernel_rfl) ?_
      repeat (quiet_step ((go_at_call 41; exact Calls.regrown_of (number_Format _ _ hpn))))
      refine wpQuiet_nil ?_
      intro _ hw'
      obtain ⟨⟨dq, osq⟩, hw''⟩ := hw'
      subst hw''
      have hbq := below_regrown wa dq osq
      generalize grow (redrawn wa dq) osq = wq at hbq ⊢
      clear hu n1 n2 k0 k1
      go_wp2_with fail
      go_ret
      exact ⟨ret_str (by rw [Hq.out]; simp), below_all Hba.out hbq⟩
    · have Hq := hid (show hostText h p = h ++ [58] ++ decS p.natAbs by unfold hostText; rw [if_neg h0, if_neg hneg])
      clear h0
      go_enter Tryz.func26, Tryz.ntmps26
      go_wp2_with fail
      rw [Hwa.out]
      go_wp2_with fail
      have hd := decS_length 19 p.natAbs (by omega)
      have hu : IntKind.u64.wrap p = (p.natAbs : Int) := (u64_in (show 0 ≤ p by omega) h2).trans (by omega)
      have n1 : ¬ 9223372036854775807 < h.length + 1 := by omega
      have n2 : ¬ 9223372036854775807 < h.length + 1 + (decS p.natAbs).length := by omega
      have hpn : p.natAbs ≤ 18446744073709551615 := by omega
      have k0 := cell_regrown c0
      have k1 := cell_regrown c1
      clear c0 c1 hx
      refine wp_region_quiet_below (by kernel_rfl) (by kernel_rfl) ?_
      repeat (quiet_step ((go_at_call 41; exact Calls.regrown_of (number_Format _ _ hpn))))
      refine wpQuiet_nil ?_
      intro _ hw'
      obtain ⟨⟨dq, osq⟩, hw''⟩ := hw'
      subst hw''
      have hbq := below_regrown wa dq osq
      generalize grow (redrawn wa dq) osq = wq at hbq ⊢
      clear hu n1 n2 k0 k1
      go_wp2_with fail
      go_ret
      exact ⟨ret_str (by rw [Hq.out]; simp), below_all Hba.out hbq⟩
end Go.Proofs.YtjponbpdlioocaaGreatDoor
/- Slices of the call's own: one element appended. -/
set_option linter.all false
namespace Wf
open Go Go.RowKit
theorem owns_lt {w : World} {base : Nat} {e : TypeId} {size : Nat} {v : Value} {n : Nat} {xs : List Value} (h : w.ownsRow base e size v n xs) : ∀ k, v.ownBlock = some k → base ≤ k ∧ k < w.heap.size :=
  (World.ownsRowF_of h).lt
theorem wp_append_one {P : Program} {ops : Array Oper} {rest : List Oper} {o : Oper} {a : Act} {Q : Exit → Act → World → Prop} {w0 : World} (hgd : o.guard = none) (s x : Operand) (t : TypeId)
    (ho : o.op = .call { callee := .builtin .append, args := #[s, x], argTypes := #[t, t] }) (e : TypeId) (z : Value) (bytes : Nat) (ht : P.underlying t = some (.slice e))
    (hinfo : (P.info? e).map (fun i => (i.zero, i.size, i.bytes)) = some (some z, 1, bytes)) (hzs : z.cells.size = 1)
    (B : Nat) (v : Value) (n : Nat) (xs : List Value) (hs : a.eval s = v) (hown : w0.ownsRow B e 1 v n xs) (u : Value) (T : TypeId)
    (hx : a.eval x = .slice (some ⟨w0.heap.size, 0, none⟩) 1 1) (h1 : u.oneCell' = true) (h63 : n + 1 ≤ maxLen) (hbytes : (n + 1) * bytes ≤ 140737488355328) (hB : B ≤ w0.heap.size)
    (h : ∀ v' w', w'.ownsRow B e 1 v' (n + 1) (xs ++ [u]) → Below B w0 w' → wpList P ops Q rest (a.put o.dst v') w') : wpList P ops Q (o :: rest) a (w0.alloc (.cells #[u] T)) := by
  obtain ⟨i, hi, hz0, hz1, hz2⟩ := info_parts hinfo
  refine wpList_append_own _ hgd s x t ho B e i z 1 bytes ht hi hz0 hz1 hz2 hzs (by decide) v n xs hs (hown.alloc _) ⟨w0.heap.size, 0, none⟩ 1 1 [u] hx rfl ?_ ?_ h63 hbytes (by simp; omega) ?_
  · intro j y hy
    rcases j with _ | j
    · simp at hy; subst hy
      exact Go.Lib.cell_of_heap (heap_new _ _) 0
    · simp at hy
  · intro y hy; simp at hy; subst hy; exact h1
  · intro v' w' h2 h3 _
    exact h v' w' h2 (((Below.refl B w0).alloc hB _).grown h3 (by simp; omega) (fun k hk => (owns_lt hown k hk).1))
theorem owns_cases {w : World} {B : Nat} {e : TypeId} {v : Value} {n : Nat} {xs : List Value} (h : w.ownsRow B e 1 v n xs) (hn : 0 < n) :
    ∃ g cap, v = .slice (some ⟨g, 0, none⟩) n cap ∧ B ≤ g ∧ g < w.heap.size ∧ n ≤ cap ∧ cap ≤ maxLen ∧ xs.length = n ∧ ∀ j, j < n → w.cell? ⟨g, j, none⟩ = xs[j]? := by
  obtain ⟨h1, h2⟩ := h
  rcases h2 with ⟨_, h0⟩ | ⟨g, cap, cur, rfl, hg, hh, hc, hm, hsz, ht⟩
  · omega
  · refine ⟨g, cap, rfl, hg, (Array.getElem?_eq_some_iff.1 hh).1, hc, hm, by simpa using h1, fun j hj => ?_⟩
    have := World.ownsRow.cellAt (w := w) (base := B) (e := e) (size := 1) (g := g) (n := n) (cap := cap) (xs := xs) ⟨h1, .inr ⟨g, cap, cur, rfl, hg, hh, hc, hm, hsz, ht⟩⟩ j (by omega)
    exact this
theorem u8_ne' {a b : UInt8} (h : a ≠ b) : ((a.toNat : Int) != (b.toNat : Int)) = true := by
  rw [bne_iff_ne]; intro e; exact h (UInt8.toNat_inj.1 (by omega))
end Wf
/- The walks of the reference of package host. -/
set_option linter.all false
namespace Go.Proofs.YtjponbpdlioocaaGreatDoor
open Go.RowKit Go.Sort Wf
attribute [local go_sem] ex_list app_list get_list

def RetStrs (w : World) (l : List Bytes) (e : Ending) (w' : World) : Prop := ∃ v, e = .returned v ∧ w'.ownsRow w.heap.size 9 1 v l.length (l.map strV) ∧ Below w.heap.size w w'

theorem Tryz.infoStr : (Tryz.prog.info? 9).map (fun i => (i.zero, i.size, i.bytes)) = some (some (Value.string ⟨List.toArray ([])⟩), 1, 16) := by kernel_rfl
set_option maxHeartbeats 1000000 in
theorem ref01_Split (s : Bytes) (c : UInt8) (w : World) (hs : s.length ≤ 1000000000) :
    Calls Tryz.prog 86 #[(Value.string ⟨List.toArray (s)⟩), .int .u8 c.toNat] w (RetStrs w (splitC c s)) := by
  go_enter Tryz.func86, Tryz.ntmps86
  go_wp2_with fail
  go_loopw [5, 6, 7] (fun v f i wr => ∃ (L : List Bytes) (a k : Nat), f = .int .i64 a ∧ i = .int .i64 k ∧ a ≤ k ∧ k ≤ s.length ∧ k - a ≤ pre (· == c) (s.drop a) ∧ wr.ownsRow w.heap.size 9 1 v L.length (L.map strV) ∧ L.length ≤ a ∧ L ++ splitC c (s.drop a) = splitC c s ∧ Below w.heap.size w wr) (fun _ _ i _ => s.length - (intOf i).toNat)
  case atStart => exact ⟨[], 0, 0, rfl, rfl, by omega, by omega, by omega, World.ownsRow_nil _ _ _ _, by simp, rfl, Below.refl _ _⟩
  case round =>
    obtain ⟨L, a, k, rfl, rfl, hak, hks, hpre, hown, hLa, heq, hw⟩ := hrel
    have Hown := hid hown
    have Heq := hid heq
    have Hw := hid hw
    have Hpre := hid hpre
    clear hown heq hw hpre
    by_cases hlt : k < s.length
    · have hdl : (s.drop a).length = s.length - a := by simp
      by_cases hc : s[k] = c
      · have hx := u8_eq hc
        have hp : pre (· == c) (s.drop a) = k - a := by
          have h1 := Hpre.out
          rcases Nat.lt_or_ge (k - a) (pre (· == c) (s.drop a)) with h | h
          · have := pre_get h (by omega)
            rw [List.getElem_drop] at this
            simp only [show a + (k - a) = k by omega] at this
            rw [hc] at this
            simp at this
          · omega
        have hh : splitC c (s.drop a) = (s.drop a).take (k - a) :: splitC c (s.drop (k + 1)) := by
          have := splitC_hit (c := c) (s := s.drop a) (by omega)
          rw [hp, List.drop_drop, show a + (k - a + 1) = k + 1 by omega] at this
          exact this
        have hsl : List.drop a (List.take k s) = (s.drop a).take (k - a) := by rw [List.drop_take]
        have Hn : Hid ((L ++ [List.drop a (List.take k s)]) ++ splitC c (s.drop (k + 1)) = splitC c s) := hid (by rw [← Heq.out, hh, hsl]; simp)
        clear hc hp hh hsl hdl
        have hwl := hid (Hw.out.size)
        go_wp2_with (at_builtin; refine wp_append_one rfl _ _ 51 rfl 9 (Value.string ⟨List.toArray ([])⟩) 16 Tryz.underlying51 Tryz.infoStr rfl w.heap.size _ L.length (L.map strV) rfl Hown.out (strV (List.drop a (List.take k s))) _ rfl rfl (by unfold maxLen; omega) (by omega) hwl.out ?_; intro v' w' hown' hb')
        go_roundw
        case rel => exact ⟨L ++ [List.drop a (List.take k s)], k + 1, k + 1, by go_num, by go_num, by omega, by omega, by omega, by simpa using hown', by simp; omega, Hn.out, Hw.out.trans hb'⟩
        case measure => simp [intOf]; omega
      · have hx := u8_ne hc
        have Hp : Hid (k + 1 - a ≤ pre (· == c) (s.drop a)) := hid (by
          have h1 := Hpre.out
          rcases Nat.lt_or_ge (k - a) (pre (· == c) (s.drop a)) with h | h
          · omega
          · have hq : pre (· == c) (s.drop a) = k - a := by omega
            have := pre_at (p := (· == c)) (l := s.drop a) (by omega)
            simp only [hq, List.getElem_drop, show a + (k - a) = k by omega] at this
            exact absurd (by simpa using this) hc)
        clear hc hdl
        go_wp2_with fail
        go_roundw
        case rel => exact ⟨L, a, k + 1, rfl, by go_num, by omega, by omega, Hp.out, Hown.out, by omega, Heq.out, Hw.out⟩
        case measure => simp [intOf]; omega
    · have hm := splitC_miss (c := c) (s := s.drop a) (by have := Hpre.out; simp; omega)
      have Hn : Hid (L ++ [s.drop a] = splitC c s) := hid (by rw [← Heq.out, hm])
      clear hm
      have hwl := hid (Hw.out.size)
      go_wp2_with (at_builtin; refine wp_append_one rfl _ _ 51 rfl 9 (Value.string ⟨List.toArray ([])⟩) 16 Tryz.underlying51 Tryz.infoStr rfl w.heap.size _ L.length (L.map strV) rfl Hown.out (strV (s.drop a)) _ rfl rfl (by unfold maxLen; omega) (by omega) hwl.out ?_; intro v' w' hown' hb')
      go_ret
      exact ⟨v', rfl, by rw [← Hn.out]; simpa using hown', Hw.out.trans hb'⟩
set_option maxHeartbeats 1000000 in
theorem ref05_label (s : Bytes) (w : World) (hs : s.length ≤ 9223372036854775807) :
    Calls Tryz.prog 87 #[(Value.string ⟨List.toArray (s)⟩)] w fun e w' => e = .returned (.bool (labelOk s)) ∧ w = w' := by
  go_enter Tryz.func87, Tryz.ntmps87
  go_wp2_with fail
  go_loop [3] (fun i => ∃ k : Nat, k ≤ s.length ∧ i = .int .i64 k ∧ (s.take k).all ldh = true) (fun i => s.length - (intOf i).toNat)
  case atStart => exact ⟨0, by omega, rfl, rfl⟩
  case round =>
    obtain ⟨k, hk, rfl, hall⟩ := hrel
    have Hall := hid hall
    clear hall
    by_cases hlt : k < s.length
    · cases hc : ldh s[k]
      · have Ha := hid (show labelOk s = false by unfold labelOk; rw [all_not hlt hc]; simp)
        have hc' := hc
        unfold ldh at hc'
        simp only [Bool.or_eq_false_iff] at hc'
        obtain ⟨⟨c1, c2⟩, c3⟩ := hc'
        have c4 : ((s[k].toNat : Int) != 45) = true := by
          have : s[k] ≠ 45 := by simpa using c3
          rw [bne_iff_ne]
          intro h
          exact this (UInt8.toNat_inj.1 (by simp; omega))
        clear c3 hc
        go_wp2_with (first
          | (go_at_call 107; refine (ref01_IsAlpha _ _).mono ?_; rintro e w' ⟨rfl, rfl⟩)
          | (go_at_call 108; refine (ref01_IsDigit _ _).mono ?_; rintro e w' ⟨rfl, rfl⟩))
        go_ret
        exact ⟨ret_bool Ha.out.symm, rfl⟩
      · have Hc := hid (all_take_snoc hlt Hall.out hc)
        unfold ldh at hc
        simp only [Bool.or_eq_true, beq_iff_eq] at hc
        rcases hc with (hc | hc) | hc
        · go_wp2_with (first
          | (go_at_call 107; refine (ref01_IsAlpha _ _).mono ?_; rintro e w' ⟨rfl, rfl⟩)
          | (go_at_call 108; refine (ref01_IsDigit _ _).mono ?_; rintro e w' ⟨rfl, rfl⟩))
          go_round
          case rel => exact ⟨k + 1, by omega, by go_num, Hc.out⟩
          case measure => simp [intOf]; omega
        · cases hca : isAlpha s[k]
          all_goals
            go_wp2_with (first
              | (go_at_call 107; refine (ref01_IsAlpha _ _).mono ?_; rintro e w' ⟨rfl, rfl⟩)
              | (go_at_call 108; refine (ref01_IsDigit _ _).mono ?_; rintro e w' ⟨rfl, rfl⟩))
            go_round
            case rel => exact ⟨k + 1, by omega, by go_num, Hc.out⟩
            case measure => simp [intOf]; omega
        · have c4 : ((s[k].toNat : Int) != 45) = false := by simp [hc]
          clear hc
          cases hca : isAlpha s[k] <;> cases hcd : isDigit s[k]
          all_goals
            go_wp2_with (first
              | (go_at_call 107; refine (ref01_IsAlpha _ _).mono ?_; rintro e w' ⟨rfl, rfl⟩)
              | (go_at_call 108; refine (ref01_IsDigit _ _).mono ?_; rintro e w' ⟨rfl, rfl⟩))
            go_round
            case rel => exact ⟨k + 1, by omega, by go_num, Hc.out⟩
            case measure => simp [intOf]; omega
    · have hall := Hall.out
      rw [List.take_of_length_le (by omega)] at hall
      have Ha := hid hall
      clear hall Hall
      cases h1 : s.isEmpty
      · by_cases h2 : 63 < s.length
        · have Hq := hid (show labelOk s = false by unfold labelOk; simp; omega)
          go_wp2_with fail
          go_ret
          exact ⟨ret_bool Hq.out.symm, rfl⟩
        · have hl : 0 < s.length := by cases s <;> simp at h1 ⊢
          have h2' : s.length ≤ 63 := by omega
          by_cases h3 : s[0] = 45
          · have Hq := hid (show labelOk s = false by unfold labelOk; rw [head_get hl, h3]; simp)
            have hx : ((s[0].toNat : Int) != 45) = false := by simp [h3]
            clear h3
            go_wp2_with fail
            go_ret
            exact ⟨ret_bool Hq.out.symm, rfl⟩
          · have hx : ((s[0].toNat : Int) != 45) = true := u8_ne' h3
            by_cases h4 : s[s.length - 1] = 45
            · have Hq := hid (show labelOk s = false by
                unfold labelOk
                rw [List.getLast?_eq_getElem?, List.getElem?_eq_getElem (by omega), h4]; simp)
              have hy : ((s[s.length - 1].toNat : Int) != 45) = false := by simp [h4]
              clear h4 h3
              go_wp2_with fail
              go_ret
              exact ⟨ret_bool Hq.out.symm, rfl⟩
            · have hy : ((s[s.length - 1].toNat : Int) != 45) = true := u8_ne' h4
              have Hq := hid ((labelOk_eq s h1 (by omega) (by rw [List.getElem?_eq_getElem hl]; simpa using h3) (by rw [List.getElem?_eq_getElem (by omega)]; simpa using h4)).trans Ha.out)
              clear h3 h4
              go_wp2_with fail
              go_ret
              exact ⟨ret_bool Hq.out.symm, rfl⟩
      · have Hq := hid (show labelOk s = false by unfold labelOk; simp [h1])
        go_wp2_with fail
        go_ret
        exact ⟨ret_bool Hq.out.symm, rfl⟩
set_option maxHeartbeats 1000000 in
theorem ref05_IsIPv4 (s : Bytes) (w : World) (hs : s.length ≤ 1000000000) :
    Calls Tryz.prog 59 #[(Value.string ⟨List.toArray (s)⟩)] w fun e w' => e = .returned (.bool (ipv4 s)) ∧ Below w.heap.size w w' := by
  have hq : ipv4 s = ((splitC 46 s).length == 4 && (splitC 46 s).all octetOk) := rfl
  have hsp := ref01_Split s 46 w hs
  have hlen : ∀ x ∈ splitC 46 s, x.length ≤ s.length := splitC_len 46 s
  have hne := splitC_ne 46 s
  generalize splitC 46 s = parts at hq hsp hlen hne
  have hpos := List.length_pos_iff.2 hne
  have Hq := hid hq
  have Hsp := hid hsp
  have Hlen := hid hlen
  clear hq hsp hlen hne
  go_enter Tryz.func59, Tryz.ntmps59
  go_wp2_with fail
  refine Hsp.out.mono ?_
  rintro e w1 ⟨v, rfl, hown, hw1⟩
  obtain ⟨g, cap, rfl, hg, hgl, hcap, hcm, _, hcells⟩ := owns_cases hown hpos
  have Hw1 := hid hw1
  have Hcells := hid hcells
  unfold maxLen at hcm
  clear hw1 hcells hown
  go_wp2_with fail
  go_loop [12] (fun i => ∃ k : Nat, k ≤ parts.length ∧ i = .int .i64 k ∧ (parts.take k).all octetOk = true) (fun i => parts.length - (intOf i).toNat)
  case atStart => exact ⟨0, by omega, rfl, rfl⟩
  case round =>
    obtain ⟨k, hk, rfl, hall⟩ := hrel
    have Hall := hid hall
    clear hall
    by_cases hlt : k < parts.length
    · have hcell : w1.cell? ⟨g, k, none⟩ = some (Value.string ⟨List.toArray (parts[k])⟩) := by
        rw [Hcells.out k hlt]
        simp [hlt, strV]
      have hln := Hlen.out parts[k] (List.getElem_mem hlt)
      have hoc : octetOk parts[k] = ((numStrict 255 parts[k]).2 == 0) := rfl
      cases hc : octetOk parts[k]
      · have Ha := hid (all_not hlt hc)
        have hn : ((numStrict 255 parts[k]).2 != 0) = true := by rw [hc] at hoc; simp only [bne]; rw [← hoc]; rfl
        clear hoc
        go_wp2_with (go_at_call 62; refine (ref04_Strict _ 255 _ (by omega) (by omega)).mono ?_; rintro e w' ⟨rfl, rfl⟩)
        go_ret
        exact ⟨ret_bool (by rw [Hq.out, Ha.out]; simp), Hw1.out⟩
      · have Hn := hid (all_take_snoc hlt Hall.out hc)
        have hn : ((numStrict 255 parts[k]).2 != 0) = false := by rw [hc] at hoc; simp only [bne]; rw [← hoc]; rfl
        clear hoc
        go_wp2_with (go_at_call 62; refine (ref04_Strict _ 255 _ (by omega) (by omega)).mono ?_; rintro e w' ⟨rfl, rfl⟩)
        go_round
        case rel => exact ⟨k + 1, by omega, by go_num, Hn.out⟩
        case measure => simp [intOf]; omega
    · have hall := Hall.out
      rw [List.take_of_length_le (by omega)] at hall
      have Ha := hid hall
      clear hall Hall
      go_wp2_with fail
      go_ret
      exact ⟨ret_bool (by rw [Hq.out, Ha.out, Bool.and_true, Bool.eq_iff_iff]; simp; omega), Hw1.out⟩
theorem nameL_all (l : List Bytes) (h : l ≠ []) : nameL l = (l.all labelOk && !digitsOk (l.getLast h)) := by
  induction l with
  | nil => exact absurd rfl h
  | cons x l ih =>
    cases l with
    | nil => simp [nameL]
    | cons y r =>
      rw [nameL, ih (by simp)]
      simp [Bool.and_assoc]
set_option maxHeartbeats 1000000 in
theorem ref05_name (s : Bytes) (w : World) (hs : s.length ≤ 1000000000) :
    Calls Tryz.prog 60 #[(Value.string ⟨List.toArray (s)⟩)] w fun e w' => e = .returned (.bool (nameOk s)) ∧ Below w.heap.size w w' := by
  have hne := splitC_ne 46 s
  have hsp := ref01_Split s 46 w hs
  have hlen : ∀ x ∈ splitC 46 s, x.length ≤ s.length := splitC_len 46 s
  obtain ⟨parts, hparts⟩ : ∃ parts, splitC 46 s = parts := ⟨_, rfl⟩
  rw [hparts] at hsp hlen hne
  have hpos := List.length_pos_iff.2 hne
  have hq : nameOk s = (parts.all labelOk && !digitsOk (parts[parts.length - 1]'(by omega))) := by
    unfold nameOk
    rw [hparts, nameL_all _ hne, List.getLast_eq_getElem]
  clear hparts
  have Hq := hid hq
  have Hsp := hid hsp
  have Hlen := hid hlen
  clear hq hsp hlen
  go_enter Tryz.func60, Tryz.ntmps60
  go_wp2_with fail
  refine Hsp.out.mono ?_
  rintro e w1 ⟨v, rfl, hown, hw1⟩
  obtain ⟨g, cap, rfl, hg, hgl, hcap, hcm, _, hcells⟩ := owns_cases hown hpos
  have Hw1 := hid hw1
  have Hcells := hid hcells
  unfold maxLen at hcm
  clear hw1 hcells hown
  go_wp2_with fail
  go_loop [10] (fun i => ∃ k : Nat, k ≤ parts.length ∧ i = .int .i64 k ∧ (parts.take k).all labelOk = true) (fun i => parts.length - (intOf i).toNat)
  case atStart => exact ⟨0, by omega, rfl, rfl⟩
  case round =>
    obtain ⟨k, hk, rfl, hall⟩ := hrel
    have Hall := hid hall
    clear hall
    by_cases hlt : k < parts.length
    · have hcell : w1.cell? ⟨g, k, none⟩ = some (Value.string ⟨List.toArray (parts[k])⟩) := by
        rw [Hcells.out k hlt]
        simp [hlt, strV]
      have hln := Hlen.out parts[k] (List.getElem_mem hlt)
      cases hc : labelOk parts[k]
      · have Ha := hid (all_not hlt hc)
        go_wp2_with (go_at_call 87; refine (ref05_label _ _ (by omega)).mono ?_; rintro e w' ⟨rfl, rfl⟩)
        go_ret
        exact ⟨ret_bool (by rw [Hq.out, Ha.out]; simp), Hw1.out⟩
      · have Hn := hid (all_take_snoc hlt Hall.out hc)
        go_wp2_with (go_at_call 87; refine (ref05_label _ _ (by omega)).mono ?_; rintro e w' ⟨rfl, rfl⟩)
        go_round
        case rel => exact ⟨k + 1, by omega, by go_num, Hn.out⟩
        case measure => simp [intOf]; omega
    · have hall := Hall.out
      rw [List.take_of_length_le (by omega)] at hall
      have Ha := hid hall
      clear hall Hall
      have hcell : w1.cell? ⟨g, parts.length - 1, none⟩ = some (Value.string ⟨List.toArray (parts[parts.length - 1]'(by omega))⟩) := by
        rw [Hcells.out (parts.length - 1) (by omega)]
        rw [List.getElem?_map, List.getElem?_eq_getElem (by omega)]
        rfl
      have hln := Hlen.out (parts[parts.length - 1]'(by omega)) (List.getElem_mem _)
      have hl1 : parts.length - 1 < parts.length := by omega
      go_wp2_with (go_at_call 88; refine (ref01_Digits _ _ (by omega)).mono ?_; rintro e w' ⟨rfl, rfl⟩)
      go_ret
      exact ⟨ret_bool (by rw [Hq.out, Ha.out, Bool.true_and]), Hw1.out⟩
end Go.Proofs.YtjponbpdlioocaaGreatDoor
/- The walks of the reference of package host: hosts, ports, texts. -/
set_option linter.all false
namespace Go.Proofs.YtjponbpdlioocaaGreatDoor
open Go.RowKit Go.Sort Wf
attribute [local go_sem] ex_list app_list get_list

set_option maxHeartbeats 1000000 in
theorem ref05_Host (s : Bytes) (w : World) (hs : s.length ≤ 1000000000) :
    Calls Tryz.prog 38 #[(Value.string ⟨List.toArray (s)⟩)] w fun e w' => e = .returned (.tuple #[(Value.string ⟨List.toArray ((hostM s).1)⟩), .int .i64 (hostM s).2]) ∧ Below w.heap.size w w' := by
  cases h1 : s.isEmpty
  · by_cases h2 : 253 < s.length
    · have Hq := hid (show hostM s = ([], 5) by unfold hostM; simp [h1, h2])
      go_enter Tryz.func38, Tryz.ntmps38
      go_wp2_with fail
      go_ret2
      rw [Hq.out]
      exact ⟨rfl, Below.refl _ _⟩
    · cases h3 : ipv4 s
      · cases h4 : nameOk s
        · have Hq := hid (show hostM s = ([], 50) by unfold hostM; simp [h1, h2, h3, h4])
          go_enter Tryz.func38, Tryz.ntmps38
          go_wp2_with (first
            | (go_at_call 59; refine (ref05_IsIPv4 _ _ hs).mono ?_; rintro e w1 ⟨rfl, hw1⟩)
            | (go_at_call 60; refine (ref05_name _ _ hs).mono ?_; rintro e w2 ⟨rfl, hw2⟩))
          go_ret2
          rw [Hq.out]
          exact ⟨rfl, below_all ‹_› ‹_›⟩
        · have Hq := hid (show hostM s = (lower s, 0) by unfold hostM; simp [h1, h2, h3, h4])
          go_enter Tryz.func38, Tryz.ntmps38
          go_wp2_with (first
            | (go_at_call 59; refine (ref05_IsIPv4 _ _ hs).mono ?_; rintro e w1 ⟨rfl, hw1⟩)
            | (go_at_call 60; refine (ref05_name _ _ hs).mono ?_; rintro e w2 ⟨rfl, hw2⟩)
            | (go_at_call 61; refine (ref01_Lower _ _ (by omega)).mono ?_; rintro e w3 ⟨rfl, hw3⟩))
          go_ret2
          rw [Hq.out]
          exact ⟨rfl, below_all (below_all hw1 hw2) hw3⟩
      · have Hq := hid (show hostM s = (lower s, 0) by unfold hostM; simp [h1, h2, h3])
        go_enter Tryz.func38, Tryz.ntmps38
        go_wp2_with (first
          | (go_at_call 59; refine (ref05_IsIPv4 _ _ hs).mono ?_; rintro e w1 ⟨rfl, hw1⟩)
          | (go_at_call 61; refine (ref01_Lower _ _ (by omega)).mono ?_; rintro e w3 ⟨rfl, hw3⟩))
        go_ret2
        rw [Hq.out]
        exact ⟨rfl, below_all hw1 hw3⟩
  · have Hq := hid (show hostM s = ([], 3) by unfold hostM; simp [h1])
    go_enter Tryz.func38, Tryz.ntmps38
    go_wp2_with fail
    go_ret2
    rw [Hq.out]
    exact ⟨rfl, Below.refl _ _⟩
set_option maxHeartbeats 400000 in
theorem ref05_Port (s : Bytes) (w : World) (hs : s.length ≤ 9223372036854775807) :
    Calls Tryz.prog 39 #[(Value.string ⟨List.toArray (s)⟩)] w fun e w' => e = .returned (.tuple #[.int .i64 (portM s).1, .int .i64 (portM s).2]) ∧ w = w' := by
  have hle := numStrict_le 65535 s
  have hq : portM s = if (numStrict 65535 s).2 ≠ 0 ∨ (numStrict 65535 s).1 = 0 then (0, 51) else (((numStrict 65535 s).1 : Int), 0) := rfl
  have hc := ref04_Strict s 65535 w (by omega) (by omega)
  generalize numStrict 65535 s = np at hle hq hc
  obtain ⟨n, e⟩ := np
  simp only at hle hq hc
  have Hc := hid hc
  clear hc
  by_cases he : e = 0
  · subst he
    by_cases hn : n = 0
    · rw [if_pos (Or.inr hn)] at hq
      have Hq := hid hq
      have hx : ((n : Int) == 0) = true := by simp [hn]
      clear hq hn
      go_enter Tryz.func39, Tryz.ntmps39
      go_wp2_with fail
      refine Hc.out.mono ?_
      rintro e w' ⟨rfl, rfl⟩
      go_wp2_with fail
      go_ret2
      rw [Hq.out]
      exact ⟨rfl, rfl⟩
    · rw [if_neg (by simp [hn])] at hq
      have Hq := hid hq
      have hx : ((n : Int) == 0) = false := by simp [hn]
      clear hq hn
      go_enter Tryz.func39, Tryz.ntmps39
      go_wp2_with fail
      refine Hc.out.mono ?_
      rintro e w' ⟨rfl, rfl⟩
      go_wp2_with fail
      go_ret2
      rw [Hq.out]
      exact ⟨rfl, rfl⟩
  · rw [if_pos (Or.inl he)] at hq
    have Hq := hid hq
    have hx : (e != 0) = true := by simp [he]
    clear hq
    go_enter Tryz.func39, Tryz.ntmps39
    go_wp2_with fail
    refine Hc.out.mono ?_
    rintro e w' ⟨rfl, rfl⟩
    go_wp2_with fail
    go_ret2
    rw [Hq.out]
    exact ⟨rfl, rfl⟩
set_option maxHeartbeats 1000000 in
theorem ref05_Parse (s : Bytes) (w : World) (hs : s.length ≤ 1000000000) :
    Calls Tryz.prog 23 #[(Value.string ⟨List.toArray (s)⟩)] w fun e w' => e = .returned (.tuple #[.agg #[(Value.string ⟨List.toArray ((hostPort s).1.1)⟩), .int .i64 (hostPort s).1.2], .int .i64 (hostPort s).2]) ∧ Below w.heap.size w w' := by
  have hpre : pre (has [58] ·) s = pre (· == 58) s := by congr 1; funext c; simp [has]; exact (Bool.beq_eq_decide_eq _ _).symm
  have hle := pre_le (· == 58) s
  have hq : hostPort s = hostPortOf (hostM (cutC 58 s).1) (cutC 58 s).2.2 (portM (cutC 58 s).2.1) := rfl
  have ha := heap_new w (.cells #[(Value.string ⟨List.toArray ([])⟩), .int .i64 0] 38)
  have hba : Below w.heap.size w (w.alloc (.cells #[(Value.string ⟨List.toArray ([])⟩), .int .i64 0] 38)) := (Below.refl _ _).alloc (Nat.le_refl _) _
  generalize hwa : w.alloc (.cells #[(Value.string ⟨List.toArray ([])⟩), .int .i64 0] 38) = wa at ha hba
  have Ha := hid ha
  have Hba := hid hba
  have Hwa := hid hwa
  have Hpre := hid hpre
  clear ha hba hwa hpre
  by_cases hp : pre (· == 58) s < s.length
  · have hc : cutC 58 s = (s.take (pre (· == 58) s), s.drop (pre (· == 58) s + 1), true) := if_pos hp
    rw [hc] at hq
    simp only at hq
    have hh := fun w => ref05_Host (s.take (pre (· == 58) s)) w (by simp; omega)
    have hpp := fun w => ref05_Port (s.drop (pre (· == 58) s + 1)) w (by simp; omega)
    have hl1 : (s.take (pre (· == 58) s)).length ≤ s.length := by rw [List.length_take]; omega
    generalize hostM (s.take (pre (· == 58) s)) = H at hq hh
    generalize portM (s.drop (pre (· == 58) s + 1)) = P at hq hpp
    obtain ⟨h, e⟩ := H
    obtain ⟨p, f⟩ := P
    simp only at hh hpp
    have Hh := hid hh
    have Hp := hid hpp
    have hkne : ((pre (· == 58) s : Int) == (s.length : Int)) = false := beq_eq_false_iff_ne.2 (by omega)
    clear hh hpp hc
    generalize pre (· == 58) s = k at Hh Hp hkne hp hle Hpre hl1
    by_cases he : e = 0
    · subst he
      by_cases hf : f = 0
      · subst hf
        by_cases h443 : p = 443
        · have Hq := hid (show hostPort s = ((h, 0), 0) by rw [hq]; unfold hostPortOf; simp [h443])
          have hx : (p == 443) = true := by simp [h443]
          clear hq h443
          go_enter Tryz.func23, Tryz.ntmps23
          go_wp2_with fail
          rw [Hwa.out]
          go_wp2_with fail
          refine (ref01_Index s [58] _ (by omega) (by decide)).mono ?_
          rintro e w1 ⟨rfl, rfl⟩
          rw [Hpre.out]
          go_wp2_with fail
          refine (Hh.out _).mono ?_
          rintro e w2 ⟨rfl, hw2⟩
          have Ha2 := hid ((hw2.block _ (heap_lt Ha.out)).trans Ha.out)
          have Hw2 := hid (below_all Hba.out hw2)
          clear hw2
          have hlt := heap_lt Ha2.out
          have c0 := Lib.cell_of_heap Ha2.out 0
          have c1 := Lib.cell_of_heap Ha2.out 1
          have z0 := Lib.frozen_of_heap Ha2.out 0
          have z1 := Lib.frozen_of_heap Ha2.out 1
          go_wp2_with fail
          go_wp2_with (go_at_call 39; refine (Hp.out _).mono ?_; rintro e w3 ⟨rfl, rfl⟩)
          refine bodyPost_ret (v := .tuple #[.agg #[(Value.string ⟨List.toArray (h)⟩), .int .i64 0], .int .i64 0]) (by simp [results, Tryz.results23, go_sem, c0, c1]) rfl ⟨?_, ?_⟩
          · rw [Hq.out]
          · repeat (first | exact Hw2.out | (refine Below.setCell (p := ⟨_, _, none⟩) ?_ (by simp <;> omega) _) | (refine Below.alloc ?_ (by simp <;> omega) _) | refine Below.drew ?_)
        · have Hq := hid (show hostPort s = ((h, p), 0) by rw [hq]; unfold hostPortOf; simp [h443])
          have hx : (p == 443) = false := by simp [h443]
          clear hq h443
          go_enter Tryz.func23, Tryz.ntmps23
          go_wp2_with fail
          rw [Hwa.out]
          go_wp2_with fail
          refine (ref01_Index s [58] _ (by omega) (by decide)).mono ?_
          rintro e w1 ⟨rfl, rfl⟩
          rw [Hpre.out]
          go_wp2_with fail
          refine (Hh.out _).mono ?_
          rintro e w2 ⟨rfl, hw2⟩
          have Ha2 := hid ((hw2.block _ (heap_lt Ha.out)).trans Ha.out)
          have Hw2 := hid (below_all Hba.out hw2)
          clear hw2
          have hlt := heap_lt Ha2.out
          have c0 := Lib.cell_of_heap Ha2.out 0
          have c1 := Lib.cell_of_heap Ha2.out 1
          have z0 := Lib.frozen_of_heap Ha2.out 0
          have z1 := Lib.frozen_of_heap Ha2.out 1
          go_wp2_with fail
          go_wp2_with (go_at_call 39; refine (Hp.out _).mono ?_; rintro e w3 ⟨rfl, rfl⟩)
          refine bodyPost_ret (v := .tuple #[.agg #[(Value.string ⟨List.toArray (h)⟩), .int .i64 p], .int .i64 0]) (by simp [results, Tryz.results23, go_sem, c0, c1]) rfl ⟨?_, ?_⟩
          · rw [Hq.out]
          · repeat (first | exact Hw2.out | (refine Below.setCell (p := ⟨_, _, none⟩) ?_ (by simp <;> omega) _) | (refine Below.alloc ?_ (by simp <;> omega) _) | refine Below.drew ?_)
      · have Hq := hid (show hostPort s = (([], 0), f) by rw [hq]; unfold hostPortOf; simp [hf])
        have hx : (f != 0) = true := by simp [hf]
        clear hq hf
        go_enter Tryz.func23, Tryz.ntmps23
        go_wp2_with fail
        rw [Hwa.out]
        go_wp2_with fail
        refine (ref01_Index s [58] _ (by omega) (by decide)).mono ?_
        rintro e w1 ⟨rfl, rfl⟩
        rw [Hpre.out]
        go_wp2_with fail
        refine (Hh.out _).mono ?_
        rintro e w2 ⟨rfl, hw2⟩
        have Ha2 := hid ((hw2.block _ (heap_lt Ha.out)).trans Ha.out)
        have Hw2 := hid (below_all Hba.out hw2)
        clear hw2
        have hlt := heap_lt Ha2.out
        have c0 := Lib.cell_of_heap Ha2.out 0
        have c1 := Lib.cell_of_heap Ha2.out 1
        have z0 := Lib.frozen_of_heap Ha2.out 0
        have z1 := Lib.frozen_of_heap Ha2.out 1
        go_wp2_with fail
        go_wp2_with (go_at_call 39; refine (Hp.out _).mono ?_; rintro e w3 ⟨rfl, rfl⟩)
        refine bodyPost_ret (v := .tuple #[.agg #[(Value.string ⟨List.toArray ([])⟩), .int .i64 0], .int .i64 f]) (by simp [results, Tryz.results23, go_sem, c0, c1]) rfl ⟨?_, ?_⟩
        · rw [Hq.out]
        · repeat (first | exact Hw2.out | (refine Below.setCell (p := ⟨_, _, none⟩) ?_ (by simp <;> omega) _) | (refine Below.alloc ?_ (by simp <;> omega) _) | refine Below.drew ?_)
    · have hx : (e != 0) = true := by simp [he]
      have Hq := hid (show hostPort s = (([], 0), e) by rw [hq]; unfold hostPortOf; rw [if_pos he])
      clear hq he
      go_enter Tryz.func23, Tryz.ntmps23
      go_wp2_with fail
      rw [Hwa.out]
      go_wp2_with fail
      refine (ref01_Index s [58] _ (by omega) (by decide)).mono ?_
      rintro e w1 ⟨rfl, rfl⟩
      rw [Hpre.out]
      go_wp2_with fail
      refine (Hh.out _).mono ?_
      rintro e w2 ⟨rfl, hw2⟩
      have Ha2 := hid ((hw2.block _ (heap_lt Ha.out)).trans Ha.out)
      have Hw2 := hid (below_all Hba.out hw2)
      clear hw2
      have hlt := heap_lt Ha2.out
      have c0 := Lib.cell_of_heap Ha2.out 0
      have c1 := Lib.cell_of_heap Ha2.out 1
      have z0 := Lib.frozen_of_heap Ha2.out 0
      have z1 := Lib.frozen_of_heap Ha2.out 1
      go_wp2_with fail
      refine bodyPost_ret (v := .tuple #[.agg #[(Value.string ⟨List.toArray ([])⟩), .int .i64 0], .int .i64 e]) (by simp [results, Tryz.results23, go_sem, c0, c1]) rfl ⟨?_, ?_⟩
      · rw [Hq.out]
      · repeat (first | exact Hw2.out | (refine Below.setCell (p := ⟨_, _, none⟩) ?_ (by simp <;> omega) _) | (refine Below.alloc ?_ (by simp <;> omega) _) | refine Below.drew ?_)
  · have hc : cutC 58 s = (s, [], false) := if_neg hp
    have hk : pre (· == 58) s = s.length := by omega
    rw [hc] at hq
    simp only at hq
    have hh := fun w => ref05_Host s w hs
    generalize hostM s = H at hq hh
    obtain ⟨h, e⟩ := H
    simp only at hh
    have Hh := hid hh
    have Hpre := hid (Hpre.out.trans hk)
    clear hh hk hc
    by_cases he : e = 0
    · subst he
      have Hq := hid (show hostPort s = ((h, 0), 0) from hq)
      clear hq
      go_enter Tryz.func23, Tryz.ntmps23
      go_wp2_with fail
      rw [Hwa.out]
      go_wp2_with fail
      refine (ref01_Index s [58] _ (by omega) (by decide)).mono ?_
      rintro e w1 ⟨rfl, rfl⟩
      rw [Hpre.out]
      go_wp2_with fail
      refine (Hh.out _).mono ?_
      rintro e w2 ⟨rfl, hw2⟩
      have Ha2 := hid ((hw2.block _ (heap_lt Ha.out)).trans Ha.out)
      have Hw2 := hid (below_all Hba.out hw2)
      clear hw2
      have hlt := heap_lt Ha2.out
      have c0 := Lib.cell_of_heap Ha2.out 0
      have c1 := Lib.cell_of_heap Ha2.out 1
      have z0 := Lib.frozen_of_heap Ha2.out 0
      have z1 := Lib.frozen_of_heap Ha2.out 1
      go_wp2_with fail
      refine bodyPost_ret (v := .tuple #[.agg #[(Value.string ⟨List.toArray (h)⟩), .int .i64 0], .int .i64 0]) (by simp [results, Tryz.results23, go_sem, c0, c1]) rfl ⟨?_, ?_⟩
      · rw [Hq.out]
      · repeat (first | exact Hw2.out | (refine Below.setCell (p := ⟨_, _, none⟩) ?_ (by simp <;> omega) _) | (refine Below.alloc ?_ (by simp <;> omega) _) | refine Below.drew ?_)
    · have hx : (e != 0) = true := by simp [he]
      have Hq := hid (show hostPort s = (([], 0), e) by rw [hq]; unfold hostPortOf; rw [if_pos he])
      clear hq he
      go_enter Tryz.func23, Tryz.ntmps23
      go_wp2_with fail
      rw [Hwa.out]
      go_wp2_with fail
      refine (ref01_Index s [58] _ (by omega) (by decide)).mono ?_
      rintro e w1 ⟨rfl, rfl⟩
      rw [Hpre.out]
      go_wp2_with fail
      refine (Hh.out _).mono ?_
      rintro e w2 ⟨rfl, hw2⟩
      have Ha2 := hid ((hw2.block _ (heap_lt Ha.out)).trans Ha.out)
      have Hw2 := hid (below_all Hba.out hw2)
      clear hw2
      have hlt := heap_lt Ha2.out
      have c0 := Lib.cell_of_heap Ha2.out 0
      have c1 := Lib.cell_of_heap Ha2.out 1
      have z0 := Lib.frozen_of_heap Ha2.out 0
      have z1 := Lib.frozen_of_heap Ha2.out 1
      go_wp2_with fail
      refine bodyPost_ret (v := .tuple #[.agg #[(Value.string ⟨List.toArray ([])⟩), .int .i64 0], .int .i64 e]) (by simp [results, Tryz.results23, go_sem, c0, c1]) rfl ⟨?_, ?_⟩
      · rw [Hq.out]
      · repeat (first | exact Hw2.out | (refine Below.setCell (p := ⟨_, _, none⟩) ?_ (by simp <;> omega) _) | (refine Below.alloc ?_ (by simp <;> omega) _) | refine Below.drew ?_)
set_option maxHeartbeats 400000 in
theorem ref04_Format (n : Nat) (w : World) (hn : n ≤ 18446744073709551615) :
    Calls Tryz.prog 63 #[.int .u64 n] w fun e w' => e = .returned (Value.string ⟨List.toArray (decS n)⟩) ∧ Below w.heap.size w w' := by
  have hlen : (decS n).length ≤ 20 := decS_length 19 n (by omega)
  go_enter Tryz.func63, Tryz.ntmps63
  go_wp2_with fail
  go_loopw [0, 3] (fun v o wr => ∃ (k : Nat) (ds : Bytes), v = .int .u64 k ∧ o = (Value.string ⟨List.toArray (ds)⟩) ∧ k ≤ 18446744073709551615 ∧ (decS k).length + ds.length ≤ 20 ∧ decS k ++ ds = decS n ∧ Below w.heap.size w wr) (fun v _ _ => (intOf v).toNat)
  case atStart => exact ⟨n, [], rfl, rfl, hn, by simpa using hlen, by simp, Below.refl _ _⟩
  case round =>
    obtain ⟨k, ds, rfl, rfl, hk, hl, heq, hw⟩ := hrel
    have hrow : ∀ T, RowU8 (wr.alloc (.cells #[.int .u8 (48 + (k : Int) % 10)] T)) wr.heap.size [dig (k % 10)] := fun T =>
      ⟨[], T, (0, 0), by rw [heap_new]; simp only [List.map_cons, List.map_nil, List.append_nil, u8V, digit_toNat (show k % 10 < 10 by omega)]; rfl, Or.inr (by simp)⟩
    have hback := fun T => (hrow T).back 1
    simp only [List.length_cons, List.length_nil, Nat.zero_add] at hback
    have Heq := hid heq
    have Hw := hid hw
    clear heq hw hrow
    by_cases h10 : k < 10
    · have hz : ((k : Int) / 10 == 0) = true := by simp; omega
      have hm : k % 10 = k := by omega
      have Hn := hid (show decS n = dig (k % 10) :: ds by rw [← Heq.out, decS_small h10, hm]; rfl)
      have hll : ds.length ≤ 20 := by omega
      clear hm
      go_wp2_with fail
      go_ret
      refine ⟨ret_str (by rw [Hn.out]), ?_⟩
      exact Hw.out.alloc Hw.out.size _
    · have hz : ((k : Int) / 10 == 0) = false := by simp; omega
      have Hn := hid (show decS (k / 10) ++ dig (k % 10) :: ds = decS n by rw [← Heq.out, decS_big h10]; simp)
      have hl2 := decS_big_length h10
      have Hl2 := hid hl2
      have hll : ds.length ≤ 20 := by omega
      clear hl2
      go_wp2_with fail
      have h1 := Hl2.out
      refine ⟨⟨k / 10, dig (k % 10) :: ds, congrArg (Value.int .u64) (by omega), rfl, by omega, by simp; omega, Hn.out, Hw.out.alloc Hw.out.size _⟩, ?_⟩
      simp [intOf]; omega
set_option maxHeartbeats 400000 in
theorem ref05_Decimal (p : Int) (w : World) (h1 : -9223372036854775808 ≤ p) (h2 : p ≤ 9223372036854775807) :
    Calls Tryz.prog 40 #[.int .i64 p] w fun e w' => e = .returned (Value.string ⟨List.toArray ((if p < 0 then [45] else []) ++ decS p.natAbs)⟩) ∧ Below w.heap.size w w' := by
  have hd := decS_length 19 p.natAbs (by omega)
  by_cases hneg : p < 0
  · rw [if_pos hneg]
    have hp : -(p + 1) + 1 = (p.natAbs : Int) := by omega
    have hnn : p.natAbs ≤ 18446744073709551615 := by omega
    go_enter Tryz.func40, Tryz.ntmps40
    go_wp2_with fail
    clear hp
    go_wp2_with (go_at_call 63; refine (ref04_Format _ _ hnn).mono ?_; rintro e w1 ⟨rfl, hw1⟩)
    go_ret
    exact ⟨rfl, hw1⟩
  · rw [if_neg hneg]
    obtain ⟨n, rfl⟩ := Int.eq_ofNat_of_zero_le (show 0 ≤ p by omega)
    go_enter Tryz.func40, Tryz.ntmps40
    go_wp2_with (go_at_call 63; refine (ref04_Format _ _ (by omega)).mono ?_; rintro e w1 ⟨rfl, hw1⟩)
    go_ret
    exact ⟨rfl, hw1⟩
set_option maxHeartbeats 400000 in
theorem ref05_Format (h : Bytes) (p : Int) (w : World) (hh : h.length ≤ 4611686018427387904) (h1 : -9223372036854775808 ≤ p) (h2 : p ≤ 9223372036854775807) :
    Calls Tryz.prog 24 #[.agg #[(Value.string ⟨List.toArray (h)⟩), .int .i64 p]] w fun e w' => e = .returned (Value.string ⟨List.toArray (hostText h p)⟩) ∧ Below w.heap.size w w' := by
  have ha := heap_new w (.cells #[(Value.string ⟨List.toArray (h)⟩), .int .i64 p] 38)
  have hba : Below w.heap.size w (w.alloc (.cells #[(Value.string ⟨List.toArray (h)⟩), .int .i64 p] 38)) := (Below.refl _ _).alloc (Nat.le_refl _) _
  generalize hwa : w.alloc (.cells #[(Value.string ⟨List.toArray (h)⟩), .int .i64 p] 38) = wa at ha hba
  have hlt := heap_lt ha
  have c0 : wa.cell? ⟨w.heap.size, 0, none⟩ = some (Value.string ⟨List.toArray (h)⟩) := Lib.cell_of_heap ha 0
  have c1 : wa.cell? ⟨w.heap.size, 1, none⟩ = some (.int .i64 p) := Lib.cell_of_heap ha 1
  have Hba := hid hba
  have Hwa := hid hwa
  clear ha hba hwa
  by_cases h0 : p = 0
  · subst h0
    have Hq := hid (show hostText h 0 = h from if_pos rfl)
    go_enter Tryz.func24, Tryz.ntmps24
    go_wp2_with fail
    rw [Hwa.out]
    go_wp2_with fail
    go_ret
    exact ⟨ret_str Hq.out.symm, Hba.out⟩
  · have hx : (p == 0) = false := by simp [h0]
    have hq : hostText h p = h ++ 58 :: ((if p < 0 then [45] else []) ++ decS p.natAbs) := by
      unfold hostText
      rw [if_neg h0]
      split <;> simp
    have hd := decS_length 19 p.natAbs (by omega)
    have hdl : ((if p < 0 then [45] else []) ++ decS p.natAbs).length ≤ 21 := by split <;> simp <;> omega
    have hdc := fun w => ref05_Decimal p w h1 h2
    generalize (if p < 0 then [45] else []) ++ decS p.natAbs = ds at hq hdl hdc
    have Hq := hid hq
    have Hdc := hid hdc
    clear h0 hq hdc hd
    go_enter Tryz.func24, Tryz.ntmps24
    go_wp2_with fail
    rw [Hwa.out]
    go_wp2_with fail
    have n1 : ¬ 9223372036854775807 < h.length + 1 := by omega
    have n2 : ¬ 9223372036854775807 < h.length + 1 + ds.length := by omega
    have k0 := cell_regrown c0
    have k1 := cell_regrown c1
    clear c0 c1 hx
    refine wp_region_quiet_below (by kernel_rfl) (by kernel_rfl) ?_
    repeat (quiet_step ((go_at_call 40; exact Calls.regrown_of (Hdc.out _))))
    refine wpQuiet_nil ?_
    intro _ hw'
    obtain ⟨⟨dq, osq⟩, hw''⟩ := hw'
    subst hw''
    have hbq := below_regrown wa dq osq
    generalize grow (redrawn wa dq) osq = wq at hbq ⊢
    clear n1 n2 k0 k1
    go_wp2_with fail
    go_ret
    exact ⟨ret_str Hq.out.symm, below_all Hba.out hbq⟩
end Go.Proofs.YtjponbpdlioocaaGreatDoor
/- The contracts of package host and its reference, for the calculus of conditions. -/
set_option linter.all false
set_option maxRecDepth 20000
namespace Go.Proofs.YtjponbpdlioocaaGreatDoor
open Go Vc Go.RowKit Wf
theorem p_host_Parse (s : Bytes) (hs : s.length < 4294967281) : PC Tryz.V 35 [.str s] (.tup [.agg [.str (hostPort s).1.1, .int .i64 (hostPort s).1.2], .int .i64 (hostPort s).2]) :=
  ⟨Tryz.call35, by simp [flat, flat.flatL], by simp [flat, flat.flatL], fun w hE => (host_Parse s w hE hs).mono fun _ _ ⟨h, k⟩ => ⟨h, k⟩⟩
theorem p_host_Format (h : Bytes) (p : Int) (hh : h.length ≤ 4611686018427387904) (h1 : -9223372036854775808 ≤ p) (h2 : p ≤ 9223372036854775807) : PC Tryz.V 26 [.agg [.str h, .int .i64 p]] (.str (hostText h p)) :=
  ⟨Tryz.call26, by simp [flat, flat.flatL], by simp [flat, flat.flatL], fun w hE => (host_Format h p w hh h1 h2).mono fun _ _ ⟨h, k⟩ => ⟨h, k⟩⟩
theorem p_r5_Parse (s : Bytes) (hs : s.length ≤ 1000000000) : PC Tryz.V 23 [.str s] (.tup [.agg [.str (hostPort s).1.1, .int .i64 (hostPort s).1.2], .int .i64 (hostPort s).2]) :=
  ⟨Tryz.call23, by simp [flat, flat.flatL], by simp [flat, flat.flatL], fun w hE => (ref05_Parse s w hs).mono fun _ _ ⟨h, k⟩ => ⟨h, k⟩⟩
theorem p_r5_Format (h : Bytes) (p : Int) (hh : h.length ≤ 4611686018427387904) (h1 : -9223372036854775808 ≤ p) (h2 : p ≤ 9223372036854775807) : PC Tryz.V 24 [.agg [.str h, .int .i64 p]] (.str (hostText h p)) :=
  ⟨Tryz.call24, by simp [flat, flat.flatL], by simp [flat, flat.flatL], fun w hE => (ref05_Format h p w hh h1 h2).mono fun _ _ ⟨h, k⟩ => ⟨h, k⟩⟩
theorem p_Lower (s : Bytes) (hs : s.length ≤ 9223372036854775807) : PC Tryz.V 70 [.str s] (.str (lower s)) :=
  ⟨Tryz.call70, by simp [flat, flat.flatL], by simp [flat, flat.flatL], fun w hE => (ascii_Lower s w hs).mono fun _ _ ⟨h, k⟩ => ⟨h, k⟩⟩
theorem p_r1_Lower (s : Bytes) (hs : s.length ≤ 9223372036854775807) : PC Tryz.V 61 [.str s] (.str (lower s)) :=
  ⟨Tryz.call61, by simp [flat, flat.flatL], by simp [flat, flat.flatL], fun w hE => (ref01_Lower s w hs).mono fun _ _ ⟨h, k⟩ => ⟨h, k⟩⟩
theorem p_Equal (s t : Bytes) (hs : s.length ≤ 9223372036854775807) (ht : t.length ≤ 9223372036854775807) : PC Tryz.V 46 [.str s, .str t] (.bool (lower s == lower t)) := by
  refine pc_of 3000 Tryz.func46 rfl Tryz.ntmps46 Tryz.results46 Tryz.call46 (by simp) (by simp [flat, flat.flatL]) (by simp [flat, flat.flatL]) ?_
  simp only [lawG, ↓Xn, ↓Xo, ↓Xg, ↓Xd, ↓Xe, ↓Xf, Tryz.VΓ, Tryz.Γs, Xp, Xi, Nat.reduceAdd, Nat.reduceSub, Nat.reduceLT, Nat.reduceLeDiff, reduceIte, reduceCtorEq, Nat.reduceEqDiff, implies_true, forall_const, lawV]
  (refine callV_pc (p_Lower s hs) ?_; simp only [lawG, ↓Xn, ↓Xo, ↓Xg, ↓Xd, ↓Xe, ↓Xf, Tryz.VΓ, Tryz.Γs, Xp, Xi, Nat.reduceAdd, Nat.reduceSub, Nat.reduceLT, Nat.reduceLeDiff, reduceIte, reduceCtorEq, Nat.reduceEqDiff, implies_true, forall_const, lawV])
  (refine callV_pc (p_Lower t ht) ?_; simp only [lawG, ↓Xn, ↓Xo, ↓Xg, ↓Xd, ↓Xe, ↓Xf, Tryz.VΓ, Tryz.Γs, Xp, Xi, Nat.reduceAdd, Nat.reduceSub, Nat.reduceLT, Nat.reduceLeDiff, reduceIte, reduceCtorEq, Nat.reduceEqDiff, implies_true, forall_const, lawV])
theorem p_r1_Equal (s t : Bytes) (hs : s.length ≤ 9223372036854775807) (ht : t.length ≤ 9223372036854775807) : PC Tryz.V 51 [.str s, .str t] (.bool (lower s == lower t)) := by
  refine pc_of 3000 Tryz.func51 rfl Tryz.ntmps51 Tryz.results51 Tryz.call51 (by simp) (by simp [flat, flat.flatL]) (by simp [flat, flat.flatL]) ?_
  simp only [lawG, ↓Xn, ↓Xo, ↓Xg, ↓Xd, ↓Xe, ↓Xf, Tryz.VΓ, Tryz.Γs, Xp, Xi, Nat.reduceAdd, Nat.reduceSub, Nat.reduceLT, Nat.reduceLeDiff, reduceIte, reduceCtorEq, Nat.reduceEqDiff, implies_true, forall_const, lawV]
  (refine callV_pc (p_r1_Lower s hs) ?_; simp only [lawG, ↓Xn, ↓Xo, ↓Xg, ↓Xd, ↓Xe, ↓Xf, Tryz.VΓ, Tryz.Γs, Xp, Xi, Nat.reduceAdd, Nat.reduceSub, Nat.reduceLT, Nat.reduceLeDiff, reduceIte, reduceCtorEq, Nat.reduceEqDiff, implies_true, forall_const, lawV])
  (refine callV_pc (p_r1_Lower t ht) ?_; simp only [lawG, ↓Xn, ↓Xo, ↓Xg, ↓Xd, ↓Xe, ↓Xf, Tryz.VΓ, Tryz.Γs, Xp, Xi, Nat.reduceAdd, Nat.reduceSub, Nat.reduceLT, Nat.reduceLeDiff, reduceIte, reduceCtorEq, Nat.reduceEqDiff, implies_true, forall_const, lawV])
end Go.Proofs.YtjponbpdlioocaaGreatDoor
/- The walks of package percent, and of the classes of bytes that it uses. -/
set_option linter.all false
set_option maxRecDepth 20000
namespace Go.Proofs.YtjponbpdlioocaaGreatDoor
open Go Vc Go.RowKit Wf
theorem p_IsAlpha (c : UInt8) : PC Tryz.V 96 [.int .u8 c.toNat] (.bool (isAlpha c)) :=
  ⟨Tryz.call96, by simp [flat, flat.flatL], by simp [flat, flat.flatL], fun w _ => (ascii_IsAlpha c w).mono fun _ _ ⟨h, k⟩ => ⟨h, below_same k⟩⟩
theorem p_IsDigit (c : UInt8) : PC Tryz.V 97 [.int .u8 c.toNat] (.bool (isDigit c)) :=
  ⟨Tryz.call97, by simp [flat, flat.flatL], by simp [flat, flat.flatL], fun w _ => (ascii_IsDigit c w).mono fun _ _ ⟨h, k⟩ => ⟨h, below_same k⟩⟩
theorem p_IsHex (c : UInt8) : PC Tryz.V 101 [.int .u8 c.toNat] (.bool (isHex c)) :=
  ⟨Tryz.call101, by simp [flat, flat.flatL], by simp [flat, flat.flatL], fun w _ => (ascii_IsHex c w).mono fun _ _ ⟨h, k⟩ => ⟨h, below_same k⟩⟩
theorem idx_geq (set : Bytes) (c : UInt8) : decide (0 ≤ Lib.indexByte set c) = set.contains c := by
  rw [indexByte_pre]
  by_cases h : pre (· == c) set < set.length
  · rw [if_pos h]
    have := pre_at (p := (· == c)) h
    simp only [beq_iff_eq] at this
    simp only [Int.natCast_nonneg, decide_true]
    symm
    rw [List.contains_iff_mem, ← this]
    exact List.getElem_mem h
  · rw [if_neg h]
    simp only [show ¬ (0 : Int) ≤ -1 by omega, decide_false]
    symm
    rw [← Bool.not_eq_true, List.contains_iff_mem]
    intro hm
    obtain ⟨k, hk, rfl⟩ := List.getElem_of_mem hm
    have h2 := pre_le (· == set[k]) set
    have := pre_get (p := (· == set[k])) (l := set) (k := k) (by omega) hk
    simp at this
theorem p_among (c : UInt8) (set : Bytes) : PC Tryz.V 104 [.int .u8 c.toNat, .str set] (.bool (set.contains c)) := by
  refine pc_of 3000 Tryz.func104 rfl Tryz.ntmps104 Tryz.results104 Tryz.call104 (by simp) (by simp [flat, flat.flatL]) (by simp [flat, flat.flatL]) ?_
  simp only [lawG, ↓Xn, ↓Xo, ↓Xg, ↓Xd, ↓Xe, ↓Xf, Tryz.VΓ, Tryz.Γs, Xp, Xi, Nat.reduceAdd, Nat.reduceSub, Nat.reduceLT, Nat.reduceLeDiff, reduceIte, reduceCtorEq, Nat.reduceEqDiff, implies_true, forall_const, lawV]
  (refine callV_pc (p_IndexByte set c) ?_; simp only [lawG, ↓Xn, ↓Xo, ↓Xg, ↓Xd, ↓Xe, ↓Xf, Tryz.VΓ, Tryz.Γs, Xp, Xi, Nat.reduceAdd, Nat.reduceSub, Nat.reduceLT, Nat.reduceLeDiff, reduceIte, reduceCtorEq, Nat.reduceEqDiff, implies_true, forall_const, lawV])
  rw [idx_geq]
theorem p_alnum (c : UInt8) : PC Tryz.V 103 [.int .u8 c.toNat] (.bool (isAlpha c || isDigit c)) := by
  refine pc_of 3000 Tryz.func103 rfl Tryz.ntmps103 Tryz.results103 Tryz.call103 (by simp) (by simp [flat, flat.flatL]) (by simp [flat, flat.flatL]) ?_
  simp only [lawG, ↓Xn, ↓Xo, ↓Xg, ↓Xd, ↓Xe, ↓Xf, Tryz.VΓ, Tryz.Γs, Xp, Xi, Nat.reduceAdd, Nat.reduceSub, Nat.reduceLT, Nat.reduceLeDiff, reduceIte, reduceCtorEq, Nat.reduceEqDiff, implies_true, forall_const, lawV]
  (refine callV_pc (p_IsAlpha c) ?_; simp only [lawG, ↓Xn, ↓Xo, ↓Xg, ↓Xd, ↓Xe, ↓Xf, Tryz.VΓ, Tryz.Γs, Xp, Xi, Nat.reduceAdd, Nat.reduceSub, Nat.reduceLT, Nat.reduceLeDiff, reduceIte, reduceCtorEq, Nat.reduceEqDiff, implies_true, forall_const, lawV])
  refine ⟨fun h => ?_, fun h => by rw [h]; rfl⟩
  (refine callV_pc (p_IsDigit c) ?_; simp only [lawG, ↓Xn, ↓Xo, ↓Xg, ↓Xd, ↓Xe, ↓Xf, Tryz.VΓ, Tryz.Γs, Xp, Xi, Nat.reduceAdd, Nat.reduceSub, Nat.reduceLT, Nat.reduceLeDiff, reduceIte, reduceCtorEq, Nat.reduceEqDiff, implies_true, forall_const, lawV])
  rw [h]; rfl
theorem p_IsUnreserved (c : UInt8) : PC Tryz.V 73 [.int .u8 c.toNat] (.bool (unres c)) := by
  refine pc_of 3000 Tryz.func73 rfl Tryz.ntmps73 Tryz.results73 Tryz.call73 (by simp) (by simp [flat, flat.flatL]) (by simp [flat, flat.flatL]) ?_
  simp only [lawG, ↓Xn, ↓Xo, ↓Xg, ↓Xd, ↓Xe, ↓Xf, Tryz.VΓ, Tryz.Γs, Xp, Xi, Nat.reduceAdd, Nat.reduceSub, Nat.reduceLT, Nat.reduceLeDiff, reduceIte, reduceCtorEq, Nat.reduceEqDiff, implies_true, forall_const, lawV]
  (refine callV_pc (p_alnum c) ?_; simp only [lawG, ↓Xn, ↓Xo, ↓Xg, ↓Xd, ↓Xe, ↓Xf, Tryz.VΓ, Tryz.Γs, Xp, Xi, Nat.reduceAdd, Nat.reduceSub, Nat.reduceLT, Nat.reduceLeDiff, reduceIte, reduceCtorEq, Nat.reduceEqDiff, implies_true, forall_const, lawV])
  refine ⟨fun h => ?_, fun h => by unfold unres; rw [h]; rfl⟩
  (refine callV_pc (p_among c [45, 46, 95, 126]) ?_; simp only [lawG, ↓Xn, ↓Xo, ↓Xg, ↓Xd, ↓Xe, ↓Xf, Tryz.VΓ, Tryz.Γs, Xp, Xi, Nat.reduceAdd, Nat.reduceSub, Nat.reduceLT, Nat.reduceLeDiff, reduceIte, reduceCtorEq, Nat.reduceEqDiff, implies_true, forall_const, lawV])
  unfold unres; rw [h]; rfl
theorem dig_low (c : UInt8) (h : isDigit c = true) : IntKind.u8.wrap ((c.toNat : Int) - 48) = hexVal c := by
  have := all256 (p := fun c => !isDigit c || decide (IntKind.u8.wrap ((c.toNat : Int) - 48) = hexVal c)) (by decide +kernel) c
  simpa [h] using this
theorem dig_high (c : UInt8) (h : isHex c = true) (h2 : isDigit c = false) : IntKind.u8.wrap (IntKind.u8.wrap (bitI .or .u8 (c.toNat : Int) 32 - 97) + 10) = hexVal c := by
  have := all256 (p := fun c => !isHex c || isDigit c || decide (IntKind.u8.wrap (IntKind.u8.wrap (bitI .or .u8 (c.toNat : Int) 32 - 97) + 10) = hexVal c)) (by decide +kernel) c
  simpa [h, h2] using this
theorem p_digit (c : UInt8) (hc : isHex c = true) : PC Tryz.V 102 [.int .u8 c.toNat] (.int .u8 (hexVal c)) := by
  refine pc_of 3000 Tryz.func102 rfl Tryz.ntmps102 Tryz.results102 Tryz.call102 (by simp) (by simp [flat, flat.flatL]) (by simp [flat, flat.flatL]) ?_
  simp only [lawG, ↓Xn, ↓Xo, ↓Xg, ↓Xd, ↓Xe, ↓Xf, Tryz.VΓ, Tryz.Γs, Xp, Xi, Nat.reduceAdd, Nat.reduceSub, Nat.reduceLT, Nat.reduceLeDiff, reduceIte, reduceCtorEq, Nat.reduceEqDiff, implies_true, forall_const, lawV]
  (refine callV_pc (p_IsDigit c) ?_; simp only [lawG, ↓Xn, ↓Xo, ↓Xg, ↓Xd, ↓Xe, ↓Xf, Tryz.VΓ, Tryz.Γs, Xp, Xi, Nat.reduceAdd, Nat.reduceSub, Nat.reduceLT, Nat.reduceLeDiff, reduceIte, reduceCtorEq, Nat.reduceEqDiff, implies_true, forall_const, lawV])
  refine ⟨fun h => ?_, fun h => ?_⟩
  · rw [dig_low c h]
  · rw [dig_high c hc h]
theorem unhex_bits (a b : UInt8) (ha : isHex a = true) (hb : isHex b = true) : bitI .or .u8 (shI .shl .u8 (hexVal a) 4) (hexVal b) = ((unhex a b).toNat : Int) := by
  have h1 := hexVal_le ha
  have h2 := hexVal_le hb
  have : ∀ x, x < 16 → ∀ y, y < 16 → bitI .or .u8 (shI .shl .u8 (x : Nat) 4) (y : Nat) = (((x * 16 + y).toUInt8).toNat : Int) := by decide +kernel
  exact this _ (by omega) _ (by omega)
def escAt (s : Bytes) (i : Nat) : Option UInt8 := (hexPair (s.drop (i + 1))).map fun x => unhex x.1 x.2.1
theorem hexPair_drop (s : Bytes) (i : Nat) : hexPair (s.drop (i + 1)) = if i + 2 < s.length then (if isHex (s.getD (i + 1) 0) && isHex (s.getD (i + 2) 0) then some (s.getD (i + 1) 0, s.getD (i + 2) 0, s.drop (i + 3)) else none) else none := by
  by_cases h : i + 2 < s.length
  · rw [if_pos h, List.drop_eq_getElem_cons (by omega : i + 1 < s.length), List.drop_eq_getElem_cons (by omega : i + 1 + 1 < s.length)]
    simp only [hexPair, List.getD_eq_getElem?_getD]
    simp [show i + 1 < s.length by omega, h]
  · rw [if_neg h]
    have hl : (s.drop (i + 1)).length ≤ 1 := by simp; omega
    match hm : s.drop (i + 1), hl with
    | [], _ => rfl
    | [_], _ => rfl
set_option maxHeartbeats 1000000 in
set_option maxRecDepth 20000 in
theorem p_escaped (s : Bytes) (i : Nat) (hi : i < s.length) (hs : s.length ≤ 9223372036854775807) : PC Tryz.V 72 [.str s, .int .i64 i] (.tup [.int .u8 (((escAt s i).getD 0).toNat : Int), .bool (escAt s i).isSome]) := by
  refine pc_of 3000 Tryz.func72 rfl Tryz.ntmps72 Tryz.results72 Tryz.call72 (by simp) (by simp [flat, flat.flatL]) (by simp [flat, flat.flatL]) ?_
  simp only [lawG, ↓Xn, ↓Xo, ↓Xg, ↓Xd, ↓Xe, ↓Xf, Tryz.VΓ, Tryz.Γs, Xp, Xi, Nat.reduceAdd, Nat.reduceSub, Nat.reduceLT, Nat.reduceLeDiff, reduceIte, reduceCtorEq, Nat.reduceEqDiff, implies_true, forall_const, lawV]
  unfold escAt
  rw [hexPair_drop]
  refine ⟨⟨by omega, by omega⟩, fun hl => ?_, fun hl => ?_⟩
  · have hl : i + 2 < s.length := (by simp at hl; omega)
    rw [if_pos hl]
    refine ⟨⟨by omega, by omega⟩, ⟨by omega, by omega⟩, ?_⟩
    (refine callV_pc (p_IsHex _) ?_; simp only [lawG, ↓Xn, ↓Xo, ↓Xg, ↓Xd, ↓Xe, ↓Xf, Tryz.VΓ, Tryz.Γs, Xp, Xi, Nat.reduceAdd, Nat.reduceSub, Nat.reduceLT, Nat.reduceLeDiff, reduceIte, reduceCtorEq, Nat.reduceEqDiff, implies_true, forall_const, lawV])
    refine ⟨fun ha => ⟨⟨by omega, by omega⟩, ⟨by omega, by omega⟩, ?_⟩, fun ha => ?_⟩
    · have ha : isHex (s.getD (i + 1) 0) = true := by simpa using ha
      (refine callV_pc (p_IsHex _) ?_; simp only [lawG, ↓Xn, ↓Xo, ↓Xg, ↓Xd, ↓Xe, ↓Xf, Tryz.VΓ, Tryz.Γs, Xp, Xi, Nat.reduceAdd, Nat.reduceSub, Nat.reduceLT, Nat.reduceLeDiff, reduceIte, reduceCtorEq, Nat.reduceEqDiff, implies_true, forall_const, lawV])
      refine ⟨fun hb => ?_, fun hb => ⟨⟨by omega, by omega⟩, ⟨by omega, by omega⟩, ?_⟩⟩
      · have hb : isHex (s.getD (i + 2) 0) = false := by simpa using hb
        rw [ha, hb]; rfl
      · have hb : isHex (s.getD (i + 2) 0) = true := by simpa using hb
        (refine callD_pc (p_digit _ ha) ?_; simp only [lawG, ↓Xn, ↓Xo, ↓Xg, ↓Xd, ↓Xe, ↓Xf, Tryz.VΓ, Tryz.Γs, Xp, Xi, Nat.reduceAdd, Nat.reduceSub, Nat.reduceLT, Nat.reduceLeDiff, reduceIte, reduceCtorEq, Nat.reduceEqDiff, implies_true, forall_const, lawV])
        refine ⟨by omega, ⟨by omega, by omega⟩, ⟨by omega, by omega⟩, ?_⟩
        (refine callD_pc (p_digit _ hb) ?_; simp only [lawG, ↓Xn, ↓Xo, ↓Xg, ↓Xd, ↓Xe, ↓Xf, Tryz.VΓ, Tryz.Γs, Xp, Xi, Nat.reduceAdd, Nat.reduceSub, Nat.reduceLT, Nat.reduceLeDiff, reduceIte, reduceCtorEq, Nat.reduceEqDiff, implies_true, forall_const, lawV])
        refine ⟨(OkD_fast (by kernel_rfl)), ?_⟩
        rw [unhex_bits _ _ ha hb, ha, hb]; rfl
    · have ha : isHex (s.getD (i + 1) 0) = false := by simpa using ha
      rw [ha]; rfl
  · have hl : ¬ i + 2 < s.length := (by simp at hl; omega)
    rw [if_neg hl]; rfl
theorem shr4 (c : UInt8) : shI .shr .u8 (c.toNat : Int) 4 = ((c.toNat / 16 : Nat) : Int) := by
  have := all256 (p := fun c => decide (shI .shr .u8 (c.toNat : Int) 4 = ((c.toNat / 16 : Nat) : Int))) (by decide +kernel) c
  simpa using this
theorem and15 (c : UInt8) : bitI .and .u8 (c.toNat : Int) 15 = ((c.toNat % 16 : Nat) : Int) := by
  have := all256 (p := fun c => decide (bitI .and .u8 (c.toNat : Int) 15 = ((c.toNat % 16 : Nat) : Int))) (by decide +kernel) c
  simpa using this
theorem digs_at : ∀ n, n < 16 → ([48, 49, 50, 51, 52, 53, 54, 55, 56, 57, 65, 66, 67, 68, 69, 70] : Bytes).getD n 0 = hexU n := by decide
theorem esc_cells (c : UInt8) : (esc c).map u8S = [.int .u8 37, .int .u8 ((hexU (c.toNat / 16)).toNat : Int), .int .u8 ((hexU (c.toNat % 16)).toNat : Int)] := rfl
structure TxAt (bs : List Res) (i L : Nat) (x : SV) (l : Bytes) : Prop where
  box : bs[i]? = some (.cells [x] 89 true)
  sl : Sl 5 1 L x bs (l.map u8S) l.length
  lt : i < L
theorem TxAt.ne {bs : List Res} {i L j n : Nat} {l : Bytes} (h : TxAt bs i L (.o j n) l) : i ≠ j := by
  rcases h.sl with ⟨h1, -⟩ | ⟨j', h1, h2, -⟩
  · cases h1
  · cases h1; have := h.lt; omega
set_option maxRecDepth 20000 in
set_option maxHeartbeats 1000000 in
theorem sc_escape {bs : List Res} {i L : Nat} {x : SV} {l : Bytes} (h : TxAt bs i L x l) (hL : L ≤ bs.length) (hl : l.length ≤ 1000000) (c : UInt8) :
    SC Tryz.V 74 [.p i 0, .int .u8 c.toNat] bs (fun r b => r = .tup [] ∧ ∃ x', TxAt b i L x' (l ++ esc c) ∧ bs.length ≤ b.length ∧ ∀ k, k < L → k ≠ i → b[k]? = bs[k]?) := by
  have hil : i < bs.length := (List.getElem?_eq_some_iff.1 h.box).1
  have hc := c.toNat_lt
  have d1 := digs_at (c.toNat / 16) (by omega)
  have d2 := digs_at (c.toNat % 16) (by omega)
  have s1 := shr4 c
  have s2 := and15 c
  have hbox := h.box
  have ec := esc_cells c
  refine sc_of 3000 Tryz.func74 rfl Tryz.ntmps74 Tryz.results74 Tryz.call74 (by simp) (fun β β' hb => concL_within bs.length _ (by simp [within, within.withinL, hil]) β β' hb) ?_
  rcases h.sl with ⟨rfl, hc0, hn0⟩ | ⟨j, rfl, hLj, hj⟩
  · obtain rfl : l = [] := by simpa using hc0
    have ho : ∀ X, (bs ++ [X])[i]? = some (.cells [.nils] 89 true) := fun X => at_old hbox [X]
    have ho2 : ∀ X Y, (bs ++ [X] ++ [Y])[i]? = some (.cells [.nils] 89 true) := fun X Y => at_old (ho X) [Y]
    simp only [lawG, ↓Xn, ↓Xo, ↓Xg, ↓Xd, ↓Xe, ↓Xf, Tryz.VΓ, Tryz.Γs, Xp, Xi, Nat.reduceAdd, Nat.reduceSub, Nat.reduceLT, Nat.reduceLeDiff, reduceIte, reduceCtorEq, Nat.reduceEqDiff, implies_true, forall_const, lawV, hbox, s1, s2, Int.toNat_natCast, d1, d2, at_new, ho, ho2]
    rw [← ec]
    have n1 : ¬ bs.length = i := by omega
    have n2 : ∀ X, ¬ (bs ++ [X]).length = i := fun X => by simp; omega
    refine ⟨by omega, ⟨by omega, by omega⟩, ⟨by omega, by omega⟩, by omega, ⟨by unfold maxLen; omega, by omega⟩, ?_, _, ⟨List.getElem?_set_self (by simp; omega), .inr ⟨_, rfl, by simp; omega, ?_⟩, h.lt⟩, by simp, fun k hk hki => ?_⟩
    · exact (by
      refine OkD_ren (fun n => if n = i then 0 else 1) ?_
      simp only [List.map_cons, List.map_nil, renRk, renT, reduceIte, n1, n2]
      exact OkD_fast (by kernel_rfl))
    · rw [List.getElem?_set_ne (fun e => n2 _ e.symm), at_new]; rfl
    · rw [List.getElem?_set_ne (fun e => hki e.symm), List.getElem?_append_left (by simp; omega), List.getElem?_append_left (by omega)]
  · have hij := h.ne
    have hjl : j < bs.length := (List.getElem?_eq_some_iff.1 hj).1
    have ho : ∀ X, (bs ++ [X])[j]? = some (.own (l.map u8S) 5 1 l.length true) := fun X => at_old hj [X]
    have ho2 : ∀ X Y, ((bs ++ [X]).set j .gone ++ [Y])[i]? = some (.cells [.o j l.length] 89 true) := fun X Y => by
      rw [List.getElem?_append_left (by simp; omega), List.getElem?_set_ne hij.symm]; exact at_old hbox [X]
    simp only [lawG, ↓Xn, ↓Xo, ↓Xg, ↓Xd, ↓Xe, ↓Xf, Tryz.VΓ, Tryz.Γs, Xp, Xi, Nat.reduceAdd, Nat.reduceSub, Nat.reduceLT, Nat.reduceLeDiff, reduceIte, reduceCtorEq, Nat.reduceEqDiff, implies_true, forall_const, lawV, hbox, s1, s2, Int.toNat_natCast, d1, d2, at_new, ho, ho2]
    rw [← ec, ← List.map_append]
    have n1 : ¬ bs.length = i := by omega
    have n2 : ∀ X, ¬ (bs ++ [X]).length = i := fun X => by simp; omega
    have n3 : ¬ j = i := fun e => hij e.symm
    refine ⟨by omega, ⟨by omega, by omega⟩, ⟨by omega, by omega⟩, by omega, ⟨by unfold maxLen; omega, by omega⟩, ?_, _, ⟨List.getElem?_set_self (by simp; omega), .inr ⟨(bs ++ [Res.own ((esc c).map u8S) 5 1 3 true]).length, by simp [esc], by simp; omega, ?_⟩, h.lt⟩, by simp; omega, fun k hk hki => ?_⟩
    · exact (by
      refine OkD_ren (fun n => if n = i then 0 else 1) ?_
      simp only [List.map_cons, List.map_nil, renRk, renT, reduceIte, n1, n2, n3]
      exact OkD_fast (by kernel_rfl))
    · rw [List.getElem?_set_ne (fun e => n2 _ e.symm), List.getElem?_append_right (by simp)]; simp [esc]
    · rw [List.getElem?_set_ne (fun e => hki e.symm), List.getElem?_append_left (by simp; omega), List.getElem?_set_ne (by omega), List.getElem?_append_left (by omega)]
theorem TxAt.app {bs : List Res} {i L : Nat} {x : SV} {l : Bytes} (h : TxAt bs i L x l) (X : List Res) : TxAt (bs ++ X) i L x l := ⟨at_old h.box X, h.sl.app X, h.lt⟩
theorem txt_one {bs : List Res} {i L : Nat} {x : SV} {l : Bytes} (h : TxAt bs i L x l) (hL : L ≤ bs.length) (c : UInt8) (hx : x = .nils) : TxAt ((bs ++ [Res.own [u8S c] 5 1 1 true] ++ [Res.own [u8S c] 5 1 1 true]).set i (Res.cells [.o (bs ++ [Res.own [u8S c] 5 1 1 true]).length 1] 89 true)) i L (.o (bs ++ [Res.own [u8S c] 5 1 1 true]).length 1) (l ++ [c]) := by
  have hil : i < bs.length := (List.getElem?_eq_some_iff.1 h.box).1
  have hl : l = [] := by
    rcases h.sl with ⟨-, h1, -⟩ | ⟨j, h1, -, -⟩
    · simpa using h1
    · rw [hx] at h1; cases h1
  subst hl
  have n2 : ∀ X, ¬ (bs ++ [X]).length = i := fun X => by simp; omega
  refine ⟨List.getElem?_set_self (by simp; omega), .inr ⟨_, rfl, by simp; omega, ?_⟩, h.lt⟩
  rw [List.getElem?_set_ne (fun e => n2 _ e.symm), at_new]
  rfl
theorem txt_more {bs : List Res} {i L j : Nat} {l : Bytes} (h : TxAt bs i L (.o j l.length) l) (hL : L ≤ bs.length) (c : UInt8) (hLj : L ≤ j) : TxAt (((bs ++ [Res.own [u8S c] 5 1 1 true]).set j .gone ++ [Res.own (l.map u8S ++ [u8S c]) 5 1 (l.length + 1) true]).set i (Res.cells [.o (bs ++ [Res.own [u8S c] 5 1 1 true]).length (l.length + 1)] 89 true)) i L (.o (bs ++ [Res.own [u8S c] 5 1 1 true]).length (l.length + 1)) (l ++ [c]) := by
  have hil : i < bs.length := (List.getElem?_eq_some_iff.1 h.box).1
  refine ⟨List.getElem?_set_self (by simp; omega), .inr ⟨(bs ++ [Res.own [u8S c] 5 1 1 true]).length, by simp, by simp; omega, ?_⟩, h.lt⟩
  rw [List.getElem?_set_ne (by simp; omega), List.getElem?_append_right (by simp)]
  simp
def NoI (also s : Bytes) (σ : St) : Prop := ∃ (i : Nat) (x : SV) (d : Bytes), lk 0 σ.t = some (.str s) ∧ lk 1 σ.t = some (.str also) ∧ lk 6 σ.t = some (.p 0 0) ∧ lk 7 σ.t = some (.int .i64 i) ∧ i ≤ s.length ∧ d.length ≤ 3 * i ∧ 1 ≤ σ.b.length ∧ TxAt σ.b 0 1 x d ∧ comb d (normU also (units (s.drop i))) = normU also (units s)
def NoM (s : Bytes) (σ : St) : Nat := match lk 7 σ.t with
  | some (.int _ k) => s.length - k.toNat
  | _ => 0
theorem NoM_eq {s : Bytes} {σ : St} {k : Nat} (h : lk 7 σ.t = some (.int .i64 k)) : NoM s σ = s.length - k := by simp [NoM, h]
theorem no_mk {also s : Bytes} {t : List (Nat × SV)} {b : List Res} {i i' : Nat} {x : SV} {d : Bytes} (h0 : lk 0 t = some (.str s)) (h1 : lk 1 t = some (.str also)) (h6 : lk 6 t = some (.p 0 0)) (h7 : lk 7 t = some (.int .i64 i')) (h : i' ≤ s.length ∧ d.length ≤ 3 * i') (hb : 1 ≤ b.length) (ht : TxAt b 0 1 x d)
    (hn : comb d (normU also (units (s.drop i'))) = normU also (units s)) (hlt : i < i') : NoI also s ⟨t, b⟩ ∧ NoM s ⟨t, b⟩ < s.length - i :=
  ⟨⟨i', x, d, h0, h1, h6, h7, h.1, h.2, hb, ht, hn⟩, by rw [NoM_eq h7]; omega⟩
theorem units_step {s : Bytes} {i : Nat} (hi : i < s.length) : units (s.drop i) = if s[i] = 37 then (match escAt s i with
    | some _ => (match hexPair (s.drop (i + 1)) with
      | some (a, b, _) => .hex a b :: units (s.drop (i + 3))
      | none => [.bad])
    | none => [.bad]) else .lit s[i] :: units (s.drop (i + 1)) := by
  rw [List.drop_eq_getElem_cons hi]
  by_cases h : s[i] = 37
  · rw [if_pos h, h]
    unfold escAt
    cases hp : hexPair (s.drop (i + 1)) with
    | none => simp only [Option.map_none]; exact units_bad hp
    | some x =>
      obtain ⟨a, b, r⟩ := x
      obtain ⟨h1, h2, h3⟩ := hexPair_some hp
      simp only [Option.map_some]
      rw [h1, units_hex h2 h3]
      congr 2
      have := congrArg (List.drop 2) h1
      rw [List.drop_drop] at this
      exact this.symm
  · rw [if_neg h, units_lit h]
set_option maxRecDepth 20000 in
set_option maxHeartbeats 4000000 in
theorem p_Normalize (s also : Bytes) (ha : also.length ≤ 1000) : PC Tryz.V 48 [.str s, .str also] (.tup [.str (pctNorm also s).1, .int .i64 (pctNorm also s).2]) := by
  refine pc_of 3000 Tryz.func48 rfl Tryz.ntmps48 Tryz.results48 Tryz.call48 (by simp) (by simp [flat, flat.flatL]) (by simp [flat, flat.flatL]) ?_
  simp only [lawG, ↓Xn, ↓Xo, ↓Xg, ↓Xd, ↓Xe, ↓Xf, Tryz.VΓ, Tryz.Γs, Xp, Xi, Nat.reduceAdd, Nat.reduceSub, Nat.reduceLT, Nat.reduceLeDiff, reduceIte, reduceCtorEq, Nat.reduceEqDiff, implies_true, forall_const, lawV]
  unfold pctNorm
  refine ⟨fun hl => ?_, fun hl => ?_⟩
  · have hl : 16384 < s.length := (by simp at hl; omega)
    rw [if_pos hl]
  have hl : s.length ≤ 16384 := (by simp at hl; omega)
  rw [if_neg (by omega)]
  refine loopV_mk (NoI also s) (NoM s) ⟨0, .nils, [], rfl, rfl, rfl, rfl, by omega, by simp, by simp, ⟨rfl, .inl ⟨rfl, rfl, rfl⟩, by omega⟩, comb_nil _ (normU_err also _)⟩ ?_
  rintro ⟨t, b⟩ ⟨i, x, d, h0, h1, h6, h7, hi, hd, hbl, ht, hn⟩
  simp only at h0 h1 h6 h7 hbl ht
  rw [NoM_eq h7]
  have hbox := ht.box
  by_cases hlt : i < s.length
  · have hu := units_step hlt
    have hg : s.getD i 0 = s[i] := by simp [List.getD, hlt]
    simp only [lawG, ↓Xn, ↓Xo, ↓Xg, ↓Xd, ↓Xe, ↓Xf, Tryz.VΓ, Tryz.Γs, Xp, Xi, Nat.reduceAdd, Nat.reduceSub, Nat.reduceLT, Nat.reduceLeDiff, reduceIte, reduceCtorEq, Nat.reduceEqDiff, implies_true, forall_const, lawV, h0, h1, h6, h7]
    refine ⟨fun _ => ⟨⟨by omega, by omega⟩, fun hc => ?_, fun hc => ?_⟩, fun h => absurd h (by simp; omega)⟩
    · rw [byte_is (n := 37) hlt 37 rfl] at hc
      rw [if_pos (by simpa using hc)] at hu
      have pe := p_escaped s i hlt (by omega)
      cases he : escAt s i with
      | none =>
        rw [he] at pe hu
        simp only at hu
        rw [hu] at hn
        have hres : normU also (units s) = ([], 2) := by rw [← hn]; rfl
        rw [hres]
        (refine callV_pc pe ?_; simp only [lawG, ↓Xn, ↓Xo, ↓Xg, ↓Xd, ↓Xe, ↓Xf, Tryz.VΓ, Tryz.Γs, Xp, Xi, Nat.reduceAdd, Nat.reduceSub, Nat.reduceLT, Nat.reduceLeDiff, reduceIte, reduceCtorEq, Nat.reduceEqDiff, implies_true, forall_const, lawV, h0, h1, h6, h7, Option.isSome_none])
      | some v =>
        rw [he] at pe hu
        have hx := he
        unfold escAt at hx
        obtain ⟨⟨a, bb, r⟩, hp, hv⟩ := Option.map_eq_some_iff.1 hx
        simp only at hv
        rw [hp] at hu
        simp only at hu
        have hi3 : i + 3 ≤ s.length := by
          obtain ⟨h1, -, -⟩ := hexPair_some hp
          have := congrArg List.length h1
          simp at this
          omega
        have hn2 : comb (d ++ normB v) (normU also (units (s.drop (i + 2 + 1)))) = normU also (units s) := by
          rw [← hn, hu, normU, comb_comb, hv]
        simp only [Option.getD_some, Option.isSome_some] at pe
        (refine callV_pc pe ?_; simp only [lawG, ↓Xn, ↓Xo, ↓Xg, ↓Xd, ↓Xe, ↓Xf, Tryz.VΓ, Tryz.Γs, Xp, Xi, Nat.reduceAdd, Nat.reduceSub, Nat.reduceLT, Nat.reduceLeDiff, reduceIte, reduceCtorEq, Nat.reduceEqDiff, implies_true, forall_const, lawV, h0, h1, h6, h7])
        refine ⟨⟨by omega, by omega⟩, ?_⟩
        (refine callV_pc (p_IsUnreserved v) ?_; simp only [lawG, ↓Xn, ↓Xo, ↓Xg, ↓Xd, ↓Xe, ↓Xf, Tryz.VΓ, Tryz.Γs, Xp, Xi, Nat.reduceAdd, Nat.reduceSub, Nat.reduceLT, Nat.reduceLeDiff, reduceIte, reduceCtorEq, Nat.reduceEqDiff, implies_true, forall_const, lawV, h0, h1, h6, h7])
        refine ⟨fun hq => ?_, fun hq => ?_⟩
        · have hn3 : comb (d ++ [v]) (normU also (units (s.drop (i + 2 + 1)))) = normU also (units s) := by
            rw [← hn2]; unfold normB; rw [if_pos hq]
          (rcases ht.sl with ⟨rfl, hc0, hn0⟩ | ⟨j, rfl, hLj, hj⟩
           · have ho : ∀ X, (b ++ [X])[0]? = some (.cells [.nils] 89 true) := fun X => at_old hbox [X]
             have ho2 : ∀ X Y, (b ++ [X] ++ [Y])[0]? = some (.cells [.nils] 89 true) := fun X Y => at_old (ho X) [Y]
             simp only [lawG, ↓Xn, ↓Xo, ↓Xg, ↓Xd, ↓Xe, ↓Xf, Tryz.VΓ, Tryz.Γs, Xp, Xi, Nat.reduceAdd, Nat.reduceSub, Nat.reduceLT, Nat.reduceLeDiff, reduceIte, reduceCtorEq, Nat.reduceEqDiff, implies_true, forall_const, lawV, h0, h1, h6, h7, hbox, at_new, ho, ho2]
             refine ⟨by omega, ⟨by unfold maxLen; omega, by omega⟩, ⟨by omega, by omega⟩, no_mk (i' := i + 2 + 1) (x := .o (b ++ [Res.own [u8S (v)] 5 1 1 true]).length 1) (d := d ++ [v]) h0 h1 h6 (by simp only [lk, reduceIte, Option.some.injEq, SV.int.injEq, true_and]; omega) ⟨by omega, by simp; omega⟩ (by simp) (txt_one ht hbl (v) rfl) (hn3) (by omega)⟩
           · have hlj : d.length = d.length := rfl
             have ho : ∀ X, (b ++ [X])[j]? = some (.own (d.map u8S) 5 1 d.length true) := fun X => at_old hj [X]
             have ho2 : ∀ X Y, ((b ++ [X]).set j .gone ++ [Y])[0]? = some (.cells [.o j d.length] 89 true) := fun X Y => by
               rw [List.getElem?_append_left (by simp), List.getElem?_set_ne (by omega)]; exact at_old hbox [X]
             simp only [lawG, ↓Xn, ↓Xo, ↓Xg, ↓Xd, ↓Xe, ↓Xf, Tryz.VΓ, Tryz.Γs, Xp, Xi, Nat.reduceAdd, Nat.reduceSub, Nat.reduceLT, Nat.reduceLeDiff, reduceIte, reduceCtorEq, Nat.reduceEqDiff, implies_true, forall_const, lawV, h0, h1, h6, h7, hbox, at_new, ho, ho2]
             refine ⟨by omega, ⟨by unfold maxLen; omega, by omega⟩, ⟨by omega, by omega⟩, no_mk (i' := i + 2 + 1) (x := .o (b ++ [Res.own [u8S (v)] 5 1 1 true]).length (d.length + 1)) (d := d ++ [v]) h0 h1 h6 (by simp only [lk, reduceIte, Option.some.injEq, SV.int.injEq, true_and]; omega) ⟨by omega, by simp; omega⟩ (by simp) (txt_more ht hbl (v) hLj) (hn3) (by omega)⟩)
        · have hn3 : comb (d ++ esc v) (normU also (units (s.drop (i + 2 + 1)))) = normU also (units s) := by
            rw [← hn2]; unfold normB; rw [if_neg (by simp [hq])]
          refine callV_sc (sc_escape ht hbl (by omega) v) ?_
          rintro r b' ⟨rfl, x', ht', hbl', -⟩
          simp only [lawG, ↓Xn, ↓Xo, ↓Xg, ↓Xd, ↓Xe, ↓Xf, Tryz.VΓ, Tryz.Γs, Xp, Xi, Nat.reduceAdd, Nat.reduceSub, Nat.reduceLT, Nat.reduceLeDiff, reduceIte, reduceCtorEq, Nat.reduceEqDiff, implies_true, forall_const, lawV, h0, h1, h6, h7]
          exact ⟨⟨by omega, by omega⟩, no_mk (i' := i + 2 + 1) (d := d ++ esc v) h0 h1 h6 (by simp only [lk, reduceIte, Option.some.injEq, SV.int.injEq, true_and]; omega) ⟨by omega, by simp [esc]; omega⟩ (by omega) ht' hn3 (by omega)⟩
    · rw [byte_is (n := 37) hlt 37 rfl] at hc
      rw [if_neg (by simpa using hc)] at hu
      rw [hu, normU] at hn
      rw [hg]
      have hn2 : keepB also s[i] = true → comb (d ++ [s[i]]) (normU also (units (s.drop (i + 1)))) = normU also (units s) := fun hk => by
        rw [← hn, if_pos hk, comb_comb]
      (refine callV_pc (p_IsUnreserved s[i]) ?_; simp only [lawG, ↓Xn, ↓Xo, ↓Xg, ↓Xd, ↓Xe, ↓Xf, Tryz.VΓ, Tryz.Γs, Xp, Xi, Nat.reduceAdd, Nat.reduceSub, Nat.reduceLT, Nat.reduceLeDiff, reduceIte, reduceCtorEq, Nat.reduceEqDiff, implies_true, forall_const, lawV, h0, h1, h6, h7, hg])
      refine ⟨fun hq => ?_, fun hq => ?_⟩
      · (refine callV_pc (p_IndexByte also s[i]) ?_; simp only [lawG, ↓Xn, ↓Xo, ↓Xg, ↓Xd, ↓Xe, ↓Xf, Tryz.VΓ, Tryz.Γs, Xp, Xi, Nat.reduceAdd, Nat.reduceSub, Nat.reduceLT, Nat.reduceLeDiff, reduceIte, reduceCtorEq, Nat.reduceEqDiff, implies_true, forall_const, lawV, h0, h1, h6, h7, hg])
        rw [idx_geq]
        refine ⟨fun hq2 => ?_, fun hq2 => ?_⟩
        · have hk : keepB also s[i] = true := by unfold keepB; rw [hq2]; simp
          (rcases ht.sl with ⟨rfl, hc0, hn0⟩ | ⟨j, rfl, hLj, hj⟩
           · have ho : ∀ X, (b ++ [X])[0]? = some (.cells [.nils] 89 true) := fun X => at_old hbox [X]
             have ho2 : ∀ X Y, (b ++ [X] ++ [Y])[0]? = some (.cells [.nils] 89 true) := fun X Y => at_old (ho X) [Y]
             simp only [lawG, ↓Xn, ↓Xo, ↓Xg, ↓Xd, ↓Xe, ↓Xf, Tryz.VΓ, Tryz.Γs, Xp, Xi, Nat.reduceAdd, Nat.reduceSub, Nat.reduceLT, Nat.reduceLeDiff, reduceIte, reduceCtorEq, Nat.reduceEqDiff, implies_true, forall_const, lawV, h0, h1, h6, h7, hbox, at_new, ho, ho2]
             refine ⟨by omega, ⟨by unfold maxLen; omega, by omega⟩, ⟨by omega, by omega⟩, no_mk (i' := i + 1) (x := .o (b ++ [Res.own [u8S (s[i])] 5 1 1 true]).length 1) (d := d ++ [s[i]]) h0 h1 h6 (by simp only [lk, reduceIte, Option.some.injEq, SV.int.injEq, true_and]; omega) ⟨by omega, by simp; omega⟩ (by simp) (txt_one ht hbl (s[i]) rfl) (hn2 hk) (by omega)⟩
           · have hlj : d.length = d.length := rfl
             have ho : ∀ X, (b ++ [X])[j]? = some (.own (d.map u8S) 5 1 d.length true) := fun X => at_old hj [X]
             have ho2 : ∀ X Y, ((b ++ [X]).set j .gone ++ [Y])[0]? = some (.cells [.o j d.length] 89 true) := fun X Y => by
               rw [List.getElem?_append_left (by simp), List.getElem?_set_ne (by omega)]; exact at_old hbox [X]
             simp only [lawG, ↓Xn, ↓Xo, ↓Xg, ↓Xd, ↓Xe, ↓Xf, Tryz.VΓ, Tryz.Γs, Xp, Xi, Nat.reduceAdd, Nat.reduceSub, Nat.reduceLT, Nat.reduceLeDiff, reduceIte, reduceCtorEq, Nat.reduceEqDiff, implies_true, forall_const, lawV, h0, h1, h6, h7, hbox, at_new, ho, ho2]
             refine ⟨by omega, ⟨by unfold maxLen; omega, by omega⟩, ⟨by omega, by omega⟩, no_mk (i' := i + 1) (x := .o (b ++ [Res.own [u8S (s[i])] 5 1 1 true]).length (d.length + 1)) (d := d ++ [s[i]]) h0 h1 h6 (by simp only [lk, reduceIte, Option.some.injEq, SV.int.injEq, true_and]; omega) ⟨by omega, by simp; omega⟩ (by simp) (txt_more ht hbl (s[i]) hLj) (hn2 hk) (by omega)⟩)
        · have hk : ¬ keepB also s[i] = true := by unfold keepB; rw [hq, hq2]; simp
          rw [if_neg hk] at hn
          have hres : normU also (units s) = ([], 1) := by rw [← hn]; rfl
          rw [hres]
      · have hk : keepB also s[i] = true := by unfold keepB; rw [hq]; simp
        (rcases ht.sl with ⟨rfl, hc0, hn0⟩ | ⟨j, rfl, hLj, hj⟩
         · have ho : ∀ X, (b ++ [X])[0]? = some (.cells [.nils] 89 true) := fun X => at_old hbox [X]
           have ho2 : ∀ X Y, (b ++ [X] ++ [Y])[0]? = some (.cells [.nils] 89 true) := fun X Y => at_old (ho X) [Y]
           simp only [lawG, ↓Xn, ↓Xo, ↓Xg, ↓Xd, ↓Xe, ↓Xf, Tryz.VΓ, Tryz.Γs, Xp, Xi, Nat.reduceAdd, Nat.reduceSub, Nat.reduceLT, Nat.reduceLeDiff, reduceIte, reduceCtorEq, Nat.reduceEqDiff, implies_true, forall_const, lawV, h0, h1, h6, h7, hbox, at_new, ho, ho2]
           refine ⟨by omega, ⟨by unfold maxLen; omega, by omega⟩, ⟨by omega, by omega⟩, no_mk (i' := i + 1) (x := .o (b ++ [Res.own [u8S (s[i])] 5 1 1 true]).length 1) (d := d ++ [s[i]]) h0 h1 h6 (by simp only [lk, reduceIte, Option.some.injEq, SV.int.injEq, true_and]; omega) ⟨by omega, by simp; omega⟩ (by simp) (txt_one ht hbl (s[i]) rfl) (hn2 hk) (by omega)⟩
         · have hlj : d.length = d.length := rfl
           have ho : ∀ X, (b ++ [X])[j]? = some (.own (d.map u8S) 5 1 d.length true) := fun X => at_old hj [X]
           have ho2 : ∀ X Y, ((b ++ [X]).set j .gone ++ [Y])[0]? = some (.cells [.o j d.length] 89 true) := fun X Y => by
             rw [List.getElem?_append_left (by simp), List.getElem?_set_ne (by omega)]; exact at_old hbox [X]
           simp only [lawG, ↓Xn, ↓Xo, ↓Xg, ↓Xd, ↓Xe, ↓Xf, Tryz.VΓ, Tryz.Γs, Xp, Xi, Nat.reduceAdd, Nat.reduceSub, Nat.reduceLT, Nat.reduceLeDiff, reduceIte, reduceCtorEq, Nat.reduceEqDiff, implies_true, forall_const, lawV, h0, h1, h6, h7, hbox, at_new, ho, ho2]
           refine ⟨by omega, ⟨by unfold maxLen; omega, by omega⟩, ⟨by omega, by omega⟩, no_mk (i' := i + 1) (x := .o (b ++ [Res.own [u8S (s[i])] 5 1 1 true]).length (d.length + 1)) (d := d ++ [s[i]]) h0 h1 h6 (by simp only [lk, reduceIte, Option.some.injEq, SV.int.injEq, true_and]; omega) ⟨by omega, by simp; omega⟩ (by simp) (txt_more ht hbl (s[i]) hLj) (hn2 hk) (by omega)⟩)
  · have hie : i = s.length := by omega
    subst hie
    rw [List.drop_length, units_nil] at hn
    have hres : normU also (units s) = (d, 0) := by rw [← hn]; simp [normU, comb]
    rw [hres]
    rcases ht.sl with ⟨rfl, hc0, hn0⟩ | ⟨j, rfl, hLj, hj⟩
    · obtain rfl : d = [] := by simpa using hc0
      simp only [lawG, ↓Xn, ↓Xo, ↓Xg, ↓Xd, ↓Xe, ↓Xf, Tryz.VΓ, Tryz.Γs, Xp, Xi, Nat.reduceAdd, Nat.reduceSub, Nat.reduceLT, Nat.reduceLeDiff, reduceIte, reduceCtorEq, Nat.reduceEqDiff, implies_true, forall_const, lawV, h0, h1, h6, h7, hbox]
      exact fun h => (by simp at h)
    · simp only [lawG, ↓Xn, ↓Xo, ↓Xg, ↓Xd, ↓Xe, ↓Xf, Tryz.VΓ, Tryz.Γs, Xp, Xi, Nat.reduceAdd, Nat.reduceSub, Nat.reduceLT, Nat.reduceLeDiff, reduceIte, reduceCtorEq, Nat.reduceEqDiff, implies_true, forall_const, lawV, h0, h1, h6, h7, hbox, hj]
      refine ⟨fun h => absurd h (by simp), fun _ => ⟨isU8_map d, ?_⟩⟩
      rw [unU8_map]
end Go.Proofs.YtjponbpdlioocaaGreatDoor
/- The walks of package weburl and its reference: Target, Origin, Format. -/
set_option linter.all false
set_option maxRecDepth 20000
namespace Go.Proofs.YtjponbpdlioocaaGreatDoor
open Go Vc Go.RowKit Wf
set_option linter.unusedSimpArgs false
def wsv (u : Url) : SV := .agg [.str u.host, .int .i64 u.port, .str u.path, .str u.query, .str u.fragment, .bool u.hasQuery, .bool u.hasFrag]
def Fair (u : Url) : Prop := u.host.length + u.path.length + u.query.length + u.fragment.length ≤ 1000000 ∧ -9223372036854775808 ≤ u.port ∧ u.port ≤ 9223372036854775807
theorem hostText_len2 (x : Bytes) {p : Int} (h0 : -9223372036854775808 ≤ p) (h1 : p ≤ 9223372036854775807) : (hostText x p).length ≤ x.length + 22 := by
  have := decS_length 19 p.natAbs (by omega)
  unfold hostText
  split
  · omega
  · split <;> simp <;> omega
theorem urlTarget_len (u : Url) : (urlTarget u).length ≤ u.path.length + u.query.length + 1 := by
  unfold urlTarget
  split
  · simp; omega
  · omega
theorem p_url_Target (u : Url) (hk : Fair u) : PC Tryz.V 15 [wsv u] (.str (urlTarget u)) := by
  obtain ⟨hk, -⟩ := hk
  (refine pc_of 3000 Tryz.func15 rfl Tryz.ntmps15 Tryz.results15 Tryz.call15 (by simp) (by simp [flat, flat.flatL, wsv]) (by simp [flat, flat.flatL, wsv]) ?_
   unfold wsv
   simp only [lawG, ↓Xn, ↓Xo, ↓Xg, ↓Xd, ↓Xe, ↓Xf, Tryz.VΓ, Tryz.Γs, Xp, Xi, Nat.reduceAdd, Nat.reduceSub, Nat.reduceLT, Nat.reduceLeDiff, reduceIte, reduceCtorEq, Nat.reduceEqDiff, implies_true, forall_const, lawV])
  unfold urlTarget
  refine ⟨fun h => ?_, fun h => ?_⟩
  · simp [h]
    refine ⟨by omega, by omega⟩
  · simp [h]
theorem p_url_Origin (u : Url) : PC Tryz.V 14 [wsv u] (.agg [.str u.host, .int .i64 u.port]) := by
  (refine pc_of 3000 Tryz.func14 rfl Tryz.ntmps14 Tryz.results14 Tryz.call14 (by simp) (by simp [flat, flat.flatL, wsv]) (by simp [flat, flat.flatL, wsv]) ?_
   unfold wsv
   simp only [lawG, ↓Xn, ↓Xo, ↓Xg, ↓Xd, ↓Xe, ↓Xf, Tryz.VΓ, Tryz.Γs, Xp, Xi, Nat.reduceAdd, Nat.reduceSub, Nat.reduceLT, Nat.reduceLeDiff, reduceIte, reduceCtorEq, Nat.reduceEqDiff, implies_true, forall_const, lawV])
theorem p_url_Format (u : Url) (hk : Fair u) : PC Tryz.V 31 [wsv u] (.str (urlText u)) := by
  have hl := hk.1
  have hx := hostText_len2 u.host hk.2.1 hk.2.2
  have ht := urlTarget_len u
  have pt := p_url_Target u hk
  have po := p_url_Origin u
  have pf := p_host_Format u.host u.port (by omega) hk.2.1 hk.2.2
  (refine pc_of 3000 Tryz.func31 rfl Tryz.ntmps31 Tryz.results31 Tryz.call31 (by simp) (by simp [flat, flat.flatL, wsv]) (by simp [flat, flat.flatL, wsv]) ?_
   unfold wsv
   simp only [lawG, ↓Xn, ↓Xo, ↓Xg, ↓Xd, ↓Xe, ↓Xf, Tryz.VΓ, Tryz.Γs, Xp, Xi, Nat.reduceAdd, Nat.reduceSub, Nat.reduceLT, Nat.reduceLeDiff, reduceIte, reduceCtorEq, Nat.reduceEqDiff, implies_true, forall_const, lawV])
  unfold wsv at pt po
  (refine callD_pc (po) ?_; simp only [lawG, ↓Xn, ↓Xo, ↓Xg, ↓Xd, ↓Xe, ↓Xf, Tryz.VΓ, Tryz.Γs, Xp, Xi, Nat.reduceAdd, Nat.reduceSub, Nat.reduceLT, Nat.reduceLeDiff, reduceIte, reduceCtorEq, Nat.reduceEqDiff, implies_true, forall_const, lawV])
  (refine callD_pc (pf) ?_; simp only [lawG, ↓Xn, ↓Xo, ↓Xg, ↓Xd, ↓Xe, ↓Xf, Tryz.VΓ, Tryz.Γs, Xp, Xi, Nat.reduceAdd, Nat.reduceSub, Nat.reduceLT, Nat.reduceLeDiff, reduceIte, reduceCtorEq, Nat.reduceEqDiff, implies_true, forall_const, lawV])
  refine ⟨by omega, ?_⟩
  (refine callD_pc (pt) ?_; simp only [lawG, ↓Xn, ↓Xo, ↓Xg, ↓Xd, ↓Xe, ↓Xf, Tryz.VΓ, Tryz.Γs, Xp, Xi, Nat.reduceAdd, Nat.reduceSub, Nat.reduceLT, Nat.reduceLeDiff, reduceIte, reduceCtorEq, Nat.reduceEqDiff, implies_true, forall_const, lawV])
  unfold urlText
  refine ⟨by omega, (OkD_fast (by kernel_rfl)), fun h => ⟨by omega, by simp only [List.length_append]; omega, ?_⟩, fun h => ?_⟩
  · rw [if_pos h]; simp
  · rw [if_neg (by simp [h])]; simp
theorem p_r7_Target (u : Url) (hk : Fair u) : PC Tryz.V 28 [wsv u] (.str (urlTarget u)) := by
  obtain ⟨hk, -⟩ := hk
  (refine pc_of 3000 Tryz.func28 rfl Tryz.ntmps28 Tryz.results28 Tryz.call28 (by simp) (by simp [flat, flat.flatL, wsv]) (by simp [flat, flat.flatL, wsv]) ?_
   unfold wsv
   simp only [lawG, ↓Xn, ↓Xo, ↓Xg, ↓Xd, ↓Xe, ↓Xf, Tryz.VΓ, Tryz.Γs, Xp, Xi, Nat.reduceAdd, Nat.reduceSub, Nat.reduceLT, Nat.reduceLeDiff, reduceIte, reduceCtorEq, Nat.reduceEqDiff, implies_true, forall_const, lawV])
  unfold urlTarget
  refine ⟨fun h => ?_, fun h => ?_⟩
  · simp [h]
    refine ⟨by omega, by omega⟩
  · simp [h]
theorem p_r7_Origin (u : Url) : PC Tryz.V 29 [wsv u] (.agg [.str u.host, .int .i64 u.port]) := by
  (refine pc_of 3000 Tryz.func29 rfl Tryz.ntmps29 Tryz.results29 Tryz.call29 (by simp) (by simp [flat, flat.flatL, wsv]) (by simp [flat, flat.flatL, wsv]) ?_
   unfold wsv
   simp only [lawG, ↓Xn, ↓Xo, ↓Xg, ↓Xd, ↓Xe, ↓Xf, Tryz.VΓ, Tryz.Γs, Xp, Xi, Nat.reduceAdd, Nat.reduceSub, Nat.reduceLT, Nat.reduceLeDiff, reduceIte, reduceCtorEq, Nat.reduceEqDiff, implies_true, forall_const, lawV])
theorem p_r7_Format (u : Url) (hk : Fair u) : PC Tryz.V 34 [wsv u] (.str (urlText u)) := by
  have hl := hk.1
  have hx := hostText_len2 u.host hk.2.1 hk.2.2
  have ht := urlTarget_len u
  have pt := p_r7_Target u hk
  have po := p_r7_Origin u
  have pf := p_r5_Format u.host u.port (by omega) hk.2.1 hk.2.2
  (refine pc_of 3000 Tryz.func34 rfl Tryz.ntmps34 Tryz.results34 Tryz.call34 (by simp) (by simp [flat, flat.flatL, wsv]) (by simp [flat, flat.flatL, wsv]) ?_
   unfold wsv
   simp only [lawG, ↓Xn, ↓Xo, ↓Xg, ↓Xd, ↓Xe, ↓Xf, Tryz.VΓ, Tryz.Γs, Xp, Xi, Nat.reduceAdd, Nat.reduceSub, Nat.reduceLT, Nat.reduceLeDiff, reduceIte, reduceCtorEq, Nat.reduceEqDiff, implies_true, forall_const, lawV])
  unfold wsv at pt po
  (refine callD_pc (po) ?_; simp only [lawG, ↓Xn, ↓Xo, ↓Xg, ↓Xd, ↓Xe, ↓Xf, Tryz.VΓ, Tryz.Γs, Xp, Xi, Nat.reduceAdd, Nat.reduceSub, Nat.reduceLT, Nat.reduceLeDiff, reduceIte, reduceCtorEq, Nat.reduceEqDiff, implies_true, forall_const, lawV])
  (refine callD_pc (pf) ?_; simp only [lawG, ↓Xn, ↓Xo, ↓Xg, ↓Xd, ↓Xe, ↓Xf, Tryz.VΓ, Tryz.Γs, Xp, Xi, Nat.reduceAdd, Nat.reduceSub, Nat.reduceLT, Nat.reduceLeDiff, reduceIte, reduceCtorEq, Nat.reduceEqDiff, implies_true, forall_const, lawV])
  refine ⟨by omega, ?_⟩
  (refine callD_pc (pt) ?_; simp only [lawG, ↓Xn, ↓Xo, ↓Xg, ↓Xd, ↓Xe, ↓Xf, Tryz.VΓ, Tryz.Γs, Xp, Xi, Nat.reduceAdd, Nat.reduceSub, Nat.reduceLT, Nat.reduceLeDiff, reduceIte, reduceCtorEq, Nat.reduceEqDiff, implies_true, forall_const, lawV])
  unfold urlText
  refine ⟨by omega, (OkD_fast (by kernel_rfl)), fun h => ⟨by omega, by simp only [List.length_append]; omega, ?_⟩, fun h => ?_⟩
  · rw [if_pos h]; simp
  · rw [if_neg (by simp [h])]; simp
theorem pre_mem (l : Bytes) (c : UInt8) : pre (· == c) l < l.length ↔ c ∈ l := by
  induction l with
  | nil => simp [pre]
  | cons x l ih =>
    rw [pre_cons]
    by_cases h : x = c
    · simp [h]
    · rw [if_neg (by simpa using h)]
      simp only [List.length_cons, Nat.add_lt_add_iff_right, ih, List.mem_cons]
      exact ⟨.inr, fun k => k.resolve_left fun e => h e.symm⟩
theorem contains_one (l : Bytes) (c : UInt8) : decide (0 ≤ Lib.indexByte l c) = decide (c ∈ l) := by
  rw [indexByte_pre]
  by_cases h : c ∈ l
  · rw [if_pos ((pre_mem l c).2 h)]; simp [h]
  · rw [if_neg (fun k => h ((pre_mem l c).1 k))]; simp [h]
theorem p_Contains (l : Bytes) (c : UInt8) : PC Tryz.V 47 [.str l, .str [c]] (.bool (decide (c ∈ l))) :=
  ⟨Tryz.call47, by simp [flat, flat.flatL], by simp [flat, flat.flatL], fun w hE => (Tryz.strings_Contains_one ⟨List.toArray l⟩ c w).mono fun _ _ ⟨h, k⟩ => ⟨by
    rw [h]
    have e : decide (0 ≤ Lib.indexByte l c) = decide (c ∈ l) := contains_one l c
    rw [← e]; rfl, below_same k.symm⟩⟩
end Go.Proofs.YtjponbpdlioocaaGreatDoor
/- The walks of package uri: schemes. -/
set_option linter.all false
namespace Go.Proofs.YtjponbpdlioocaaGreatDoor
open Go.RowKit Wf
attribute [local go_sem] ex_list app_list get_list
theorem scheme_one {s : Bytes} (h : 0 < s.length) (ha : isAlpha s[0] = true) : schemeOk (s.take 1) = true := by
  cases s with
  | nil => simp at h
  | cons c r => simp at ha; simp [schemeOk, ha]
theorem scheme_one_no {s : Bytes} (h : 0 < s.length) (ha : isAlpha s[0] = false) : schemeOk s = false := by
  cases s with
  | nil => simp at h
  | cons c r => simp at ha; simp [schemeOk, ha]
theorem scheme_snoc {s : Bytes} {k : Nat} (h0 : 0 < k) (h : k < s.length) (ht : schemeOk (s.take k) = true) (hc : schemeC s[k] = true) : schemeOk (s.take (k + 1)) = true := by
  cases s with
  | nil => simp at h
  | cons c r =>
    obtain ⟨j, rfl⟩ : ∃ j, k = j + 1 := ⟨k - 1, by omega⟩
    rw [List.take_succ_cons] at ht ⊢
    unfold schemeOk at ht ⊢
    simp only [Bool.and_eq_true] at ht ⊢
    exact ⟨ht.1, all_take_snoc (by simpa using h) ht.2 (by simpa using hc)⟩
theorem scheme_no {s : Bytes} {k : Nat} (h0 : 0 < k) (h : k < s.length) (hc : schemeC s[k] = false) : schemeOk s = false := by
  cases s with
  | nil => simp at h
  | cons c r =>
    obtain ⟨j, rfl⟩ : ∃ j, k = j + 1 := ⟨k - 1, by omega⟩
    have := all_not (p := schemeC) (s := r) (k := j) (by simpa using h) (by simpa using hc)
    show (isAlpha c && r.all schemeC) = false
    rw [this]; simp
theorem plus_idx (c : UInt8) : ([43, 45, 46].contains c = true → 0 ≤ Lib.indexByte [43, 45, 46] c) ∧ ([43, 45, 46].contains c = false → Lib.indexByte [43, 45, 46] c = -1) := by
  have h := all256 (p := fun c => decide (([43, 45, 46].contains c = true → 0 ≤ Lib.indexByte [43, 45, 46] c) ∧ ([43, 45, 46].contains c = false → Lib.indexByte [43, 45, 46] c = -1))) (by decide +kernel) c
  exact of_decide_eq_true h
set_option maxHeartbeats 1000000 in
theorem uri_scheme (s : Bytes) (w : World) (hs : s.length ≤ 9223372036854775807) :
    Calls Tryz.prog 67 #[(Value.string ⟨List.toArray (s)⟩)] w fun e w' => e = .returned (.bool (schemeOk s)) ∧ w = w' := by
  go_enter Tryz.func67, Tryz.ntmps67
  go_wp2_with fail
  go_loop [6] (fun i => ∃ k : Nat, k ≤ s.length ∧ i = .int .i64 k ∧ (k = 0 ∨ schemeOk (s.take k) = true)) (fun i => s.length - (intOf i).toNat)
  case atStart => exact ⟨0, by omega, rfl, .inl rfl⟩
  case round =>
    obtain ⟨k, hk, rfl, hr⟩ := hrel
    have Hr := hid hr
    clear hr
    by_cases hlt : k < s.length
    · cases ha : isAlpha s[k]
      · by_cases h0 : k = 0
        · subst h0
          have Hq := hid (scheme_one_no hlt ha)
          go_wp2_with (first
            | (go_at_call 96; refine (ascii_IsAlpha _ _).mono ?_; rintro e w' ⟨rfl, rfl⟩)
            | (go_at_call 97; refine (ascii_IsDigit _ _).mono ?_; rintro e w' ⟨rfl, rfl⟩)
            | (go_at_call 69; refine (s_IndexByte [43, 45, 46] _ _).mono ?_; rintro e w' ⟨rfl, rfl⟩))
          go_ret
          exact ⟨ret_bool Hq.out.symm, rfl⟩
        · have hk0 : ((k : Int) == 0) = false := by simp [h0]
          have Hr2 := hid (Hr.out.resolve_left h0)
          obtain ⟨p1, p2⟩ := plus_idx s[k]
          cases hd : isDigit s[k]
          · cases hp : [43, 45, 46].contains s[k]
            · have p3 := p2 hp
              have Hq := hid (scheme_no (by omega) hlt (by unfold schemeC; rw [ha, hd, hp]; rfl))
              clear p1 p2 hp
              go_wp2_with (first
                | (go_at_call 96; refine (ascii_IsAlpha _ _).mono ?_; rintro e w' ⟨rfl, rfl⟩)
                | (go_at_call 97; refine (ascii_IsDigit _ _).mono ?_; rintro e w' ⟨rfl, rfl⟩)
                | (go_at_call 69; refine (s_IndexByte [43, 45, 46] _ _).mono ?_; rintro e w' ⟨rfl, rfl⟩))
              go_ret
              exact ⟨ret_bool Hq.out.symm, rfl⟩
            · have p3 := p1 hp
              have Hn := hid (scheme_snoc (by omega) hlt Hr2.out (by unfold schemeC; rw [hp]; simp))
              clear p1 p2 hp
              go_wp2_with (first
                | (go_at_call 96; refine (ascii_IsAlpha _ _).mono ?_; rintro e w' ⟨rfl, rfl⟩)
                | (go_at_call 97; refine (ascii_IsDigit _ _).mono ?_; rintro e w' ⟨rfl, rfl⟩)
                | (go_at_call 69; refine (s_IndexByte [43, 45, 46] _ _).mono ?_; rintro e w' ⟨rfl, rfl⟩))
              go_round
              case rel => exact ⟨k + 1, by omega, by go_num, .inr Hn.out⟩
              case measure => simp [intOf]; omega
          · have Hn := hid (scheme_snoc (by omega) hlt Hr2.out (by unfold schemeC; rw [hd]; simp))
            clear p1 p2
            go_wp2_with (first
              | (go_at_call 96; refine (ascii_IsAlpha _ _).mono ?_; rintro e w' ⟨rfl, rfl⟩)
              | (go_at_call 97; refine (ascii_IsDigit _ _).mono ?_; rintro e w' ⟨rfl, rfl⟩)
              | (go_at_call 69; refine (s_IndexByte [43, 45, 46] _ _).mono ?_; rintro e w' ⟨rfl, rfl⟩))
            go_round
            case rel => exact ⟨k + 1, by omega, by go_num, .inr Hn.out⟩
            case measure => simp [intOf]; omega
      · have Hn : Hid (schemeOk (s.take (k + 1)) = true) := hid (by
          rcases Hr.out with rfl | hr
          · exact scheme_one hlt ha
          · by_cases h0 : k = 0
            · subst h0; exact scheme_one hlt ha
            · exact scheme_snoc (by omega) hlt hr (by unfold schemeC; rw [ha]; rfl))
        go_wp2_with (first
          | (go_at_call 96; refine (ascii_IsAlpha _ _).mono ?_; rintro e w' ⟨rfl, rfl⟩)
          | (go_at_call 97; refine (ascii_IsDigit _ _).mono ?_; rintro e w' ⟨rfl, rfl⟩)
          | (go_at_call 69; refine (s_IndexByte [43, 45, 46] _ _).mono ?_; rintro e w' ⟨rfl, rfl⟩))
        go_round
        case rel => exact ⟨k + 1, by omega, by go_num, .inr Hn.out⟩
        case measure => simp [intOf]; omega
    · cases hem : s.isEmpty
      · have Hq : Hid (schemeOk s = true) := hid (by
          rcases Hr.out with rfl | hr
          · cases s <;> simp at hem hlt
          · rw [List.take_of_length_le (by omega)] at hr; exact hr)
        go_wp2_with fail
        go_ret
        exact ⟨ret_bool Hq.out.symm, rfl⟩
      · have Hq : Hid (schemeOk s = false) := hid (by cases s <;> simp at hem <;> rfl)
        go_wp2_with fail
        go_ret
        exact ⟨ret_bool Hq.out.symm, rfl⟩
end Go.Proofs.YtjponbpdlioocaaGreatDoor
/- The walks of package uri. -/
set_option linter.all false
set_option maxRecDepth 20000
namespace Go.Proofs.YtjponbpdlioocaaGreatDoor
open Go Vc Go.RowKit Wf
set_option linter.unusedSimpArgs false
def usv (u : Uri) : SV := .agg [.str u.scheme, .str u.authority, .str u.path, .str u.query, .str u.fragment, .bool u.hasScheme, .bool u.hasAuthority, .bool u.hasQuery, .bool u.hasFrag]
theorem shorten_take (s : Bytes) : shorten s = s.take (lastSlash s - 1) := by
  unfold shorten lastSlash
  have h := List.suffix_iff_eq_drop.1 (List.dropWhile_suffix (l := s.reverse) (· != 47))
  have hle := (List.dropWhile_suffix (l := s.reverse) (· != 47)).length_le
  generalize (s.reverse.dropWhile (· != 47)) = d at h hle
  rw [List.length_reverse] at hle
  rw [h, List.drop_drop, List.reverse_drop, List.reverse_reverse, List.length_reverse]
  congr 1
  simp
  omega
theorem lastB_slash (s : Bytes) : lastB s 47 = (lastSlash s : Int) - 1 := lastB_eq s 47
theorem lastSlash_le (s : Bytes) : lastSlash s ≤ s.length := by
  have := (List.dropWhile_suffix (l := s.reverse) (· != 47)).length_le
  rw [List.length_reverse] at this
  exact this
theorem lastB_shorten (s : Bytes) : s.take (max 0 (lastB s 47)).toNat = shorten s := by
  rw [shorten_take, lastB_slash]
  congr 1
  omega
theorem lastB_le (s : Bytes) : lastB s 47 ≤ s.length := by
  have := lastSlash_le s
  rw [lastB_slash]
  omega
theorem p_uri_scheme (s : Bytes) (hs : s.length ≤ 9223372036854775807) : PC Tryz.V 67 [.str s] (.bool (schemeOk s)) :=
  ⟨Tryz.call67, by simp [flat, flat.flatL], by simp [flat, flat.flatL], fun w _ => (uri_scheme s w hs).mono fun _ _ ⟨h, k⟩ => ⟨h, below_same k⟩⟩
theorem authPath_no {s : Bytes} (h : Lib.hasPrefix s [47, 47] = false) : authPath s = ([], false, s) := by
  unfold authPath
  split
  · simp [Lib.hasPrefix] at h
  · rfl
theorem authPath_yes {s : Bytes} (h : Lib.hasPrefix s [47, 47] = true) : authPath s = ((Lib.trimPrefix s [47, 47]).take (pre (· == 47) (Lib.trimPrefix s [47, 47])), true, (Lib.trimPrefix s [47, 47]).drop (pre (· == 47) (Lib.trimPrefix s [47, 47]))) := by
  obtain ⟨r, rfl⟩ := List.isPrefixOf_iff_prefix.1 h
  have ht : Lib.trimPrefix ([47, 47] ++ r) [47, 47] = r := by simp [Lib.trimPrefix, Lib.hasPrefix]
  rw [ht]
  rfl
set_option maxHeartbeats 2000000 in
theorem p_uri_Split (s : Bytes) : PC Tryz.V 45 [.str s] (.tup [usv (uriSplit s).1, .int .i64 (uriSplit s).2]) := by
  refine pc_of 3000 Tryz.func45 rfl Tryz.ntmps45 Tryz.results45 Tryz.call45 (by simp) (by simp [flat, flat.flatL]) (by simp [flat, flat.flatL, usv]) ?_
  simp only [lawG, ↓Xn, ↓Xo, ↓Xg, ↓Xd, ↓Xe, ↓Xf, Tryz.VΓ, Tryz.Γs, Xp, Xi, Nat.reduceAdd, Nat.reduceSub, Nat.reduceLT, Nat.reduceLeDiff, reduceIte, reduceCtorEq, Nat.reduceEqDiff, implies_true, forall_const, lawV]
  refine ⟨fun h => ?_, fun h => ?_⟩
  · have : uriSplit s = (Uri.none, 5) := if_pos (by simp at h; omega)
    rw [this]; rfl
  · have hl : s.length < 4294967281 := by simp at h; omega
    have hq : uriSplit s = splitRest (cutC 63 (cutC 35 s).1).1 (cutC 35 s).2.1 (cutC 63 (cutC 35 s).1).2.1 (cutC 35 s).2.2 (cutC 63 (cutC 35 s).1).2.2 := if_neg (by simp at h; omega)
    rw [hq]
    have l1 := cutC_len 35 s
    have l2 := cutC_len 63 (cutC 35 s).1
    (refine callV_pc (p_Cut s 35 hl) ?_; simp only [lawG, ↓Xn, ↓Xo, ↓Xg, ↓Xd, ↓Xe, ↓Xf, Tryz.VΓ, Tryz.Γs, Xp, Xi, Nat.reduceAdd, Nat.reduceSub, Nat.reduceLT, Nat.reduceLeDiff, reduceIte, reduceCtorEq, Nat.reduceEqDiff, implies_true, forall_const, lawV])
    (refine callV_pc (p_Cut _ 63 (by omega)) ?_; simp only [lawG, ↓Xn, ↓Xo, ↓Xg, ↓Xd, ↓Xe, ↓Xf, Tryz.VΓ, Tryz.Γs, Xp, Xi, Nat.reduceAdd, Nat.reduceSub, Nat.reduceLT, Nat.reduceLeDiff, reduceIte, reduceCtorEq, Nat.reduceEqDiff, implies_true, forall_const, lawV])
    generalize cutC 63 (cutC 35 s).1 = C2 at l2 ⊢
    generalize cutC 35 s = C1 at l1 l2 ⊢
    obtain ⟨s1, fr, hf⟩ := C1
    obtain ⟨s2, qu, hqu⟩ := C2
    simp only at l1 l2 ⊢
    have hix : Lib.indexAny s2 [58, 47] = if pre colonSlash s2 < s2.length then (pre colonSlash s2 : Int) else -1 := indexAny_pre s2 [58, 47]
    have p3 := p_IndexAny s2 [58, 47] (by decide) (by decide) (by decide) (by omega)
    -- the end: the authority and the path
    by_cases hp : pre colonSlash s2 < s2.length
    · rw [if_pos hp] at hix
      rw [hix] at p3
      (refine callV_pc (p3) ?_; simp only [lawG, ↓Xn, ↓Xo, ↓Xg, ↓Xd, ↓Xe, ↓Xf, Tryz.VΓ, Tryz.Γs, Xp, Xi, Nat.reduceAdd, Nat.reduceSub, Nat.reduceLT, Nat.reduceLeDiff, reduceIte, reduceCtorEq, Nat.reduceEqDiff, implies_true, forall_const, lawV])
      refine ⟨fun _ => ⟨⟨by omega, by omega⟩, fun h1 => ⟨⟨by omega, by omega⟩, ?_⟩, fun h1 => ?_⟩, fun h1 => ?_⟩
      · have hh : (s2.drop (pre colonSlash s2)).head? = some 58 := by
          rw [List.head?_drop, List.getElem?_eq_getElem hp]
          rw [byte_is (n := 58) hp 58 rfl] at h1
          rw [beq_iff_eq.1 h1]
        (refine callV_pc (p_uri_scheme _ (by simp; omega)) ?_; simp only [lawG, ↓Xn, ↓Xo, ↓Xg, ↓Xd, ↓Xe, ↓Xf, Tryz.VΓ, Tryz.Γs, Xp, Xi, Nat.reduceAdd, Nat.reduceSub, Nat.reduceLT, Nat.reduceLeDiff, reduceIte, reduceCtorEq, Nat.reduceEqDiff, implies_true, forall_const, lawV])
        refine ⟨fun h2 => ?_, fun h2 => ⟨⟨by omega, by omega⟩, ⟨by omega, by omega⟩, ⟨by omega, by omega⟩, (OkD_fast (by kernel_rfl)), ?_⟩⟩
        · have : splitRest s2 fr qu hf hqu = (Uri.none, 6) := by
            unfold splitRest
            rw [if_pos hh, if_neg (by simpa using h2)]
          rw [this]; rfl
        · have hs : splitRest s2 fr qu hf hqu = (⟨s2.take (pre colonSlash s2), (authPath (s2.drop (pre colonSlash s2 + 1))).1, (authPath (s2.drop (pre colonSlash s2 + 1))).2.2, qu, fr, true, (authPath (s2.drop (pre colonSlash s2 + 1))).2.1, hqu, hf⟩, 0) := by
            unfold splitRest
            rw [if_pos hh, if_pos (by simpa using h2)]
          have hl5 : (s2.drop (pre colonSlash s2 + 1)).length ≤ s2.length := by simp
          (
            (refine callV_pc (p_CutPrefix (s2.drop (pre colonSlash s2 + 1)) [47, 47]) ?_; simp only [lawG, ↓Xn, ↓Xo, ↓Xg, ↓Xd, ↓Xe, ↓Xf, Tryz.VΓ, Tryz.Γs, Xp, Xi, Nat.reduceAdd, Nat.reduceSub, Nat.reduceLT, Nat.reduceLeDiff, reduceIte, reduceCtorEq, Nat.reduceEqDiff, implies_true, forall_const, lawV])
            cases hpf : Lib.hasPrefix (s2.drop (pre colonSlash s2 + 1)) [47, 47]
            · refine ⟨fun h => (by cases h), fun _ => ?_⟩
              have ht : Lib.trimPrefix (s2.drop (pre colonSlash s2 + 1)) [47, 47] = s2.drop (pre colonSlash s2 + 1) := by unfold Lib.trimPrefix; rw [hpf]; rfl
              rw [hs, authPath_no hpf]; rfl
            · refine ⟨fun _ => ?_, fun h => (by cases h)⟩
              have hl3 := trim_len (s2.drop (pre colonSlash s2 + 1)) [47, 47]
              have hap := authPath_yes hpf
              rw [hs, hap]
              generalize Lib.trimPrefix (s2.drop (pre colonSlash s2 + 1)) [47, 47] = rest at hl3 hap ⊢
              have hib := indexByte_pre rest 47
              have p4 := p_IndexByte rest 47
              rw [hib] at p4
              have hpl := pre_le (· == 47) rest
              by_cases hr : pre (· == 47) rest < rest.length
              · rw [if_pos hr] at p4
                (refine callV_pc (p4) ?_; simp only [lawG, ↓Xn, ↓Xo, ↓Xg, ↓Xd, ↓Xe, ↓Xf, Tryz.VΓ, Tryz.Γs, Xp, Xi, Nat.reduceAdd, Nat.reduceSub, Nat.reduceLT, Nat.reduceLeDiff, reduceIte, reduceCtorEq, Nat.reduceEqDiff, implies_true, forall_const, lawV])
                refine ⟨fun h => ?_, fun _ => ⟨⟨by omega, by omega⟩, ⟨by omega, by omega⟩, (OkD_fast (by kernel_rfl)), rfl⟩⟩
                simp at h; omega
              · rw [if_neg hr] at p4
                (refine callV_pc (p4) ?_; simp only [lawG, ↓Xn, ↓Xo, ↓Xg, ↓Xd, ↓Xe, ↓Xf, Tryz.VΓ, Tryz.Γs, Xp, Xi, Nat.reduceAdd, Nat.reduceSub, Nat.reduceLT, Nat.reduceLeDiff, reduceIte, reduceCtorEq, Nat.reduceEqDiff, implies_true, forall_const, lawV])
                refine ⟨fun _ => ⟨⟨by omega, by omega⟩, ⟨by omega, by omega⟩, (OkD_fast (by kernel_rfl)), ?_⟩, fun h => ?_⟩
                · have : pre (· == 47) rest = rest.length := by omega
                  rw [this]; simp [usv]
                · simp at h)
      · have hs : splitRest s2 fr qu hf hqu = (⟨[], (authPath s2).1, (authPath s2).2.2, qu, fr, false, (authPath s2).2.1, hqu, hf⟩, 0) := by
          unfold splitRest
          rw [if_neg]
          rw [byte_is (n := 58) hp 58 rfl] at h1
          rw [List.head?_drop, List.getElem?_eq_getElem hp]
          simpa using h1
        (
          (refine callV_pc (p_CutPrefix (s2) [47, 47]) ?_; simp only [lawG, ↓Xn, ↓Xo, ↓Xg, ↓Xd, ↓Xe, ↓Xf, Tryz.VΓ, Tryz.Γs, Xp, Xi, Nat.reduceAdd, Nat.reduceSub, Nat.reduceLT, Nat.reduceLeDiff, reduceIte, reduceCtorEq, Nat.reduceEqDiff, implies_true, forall_const, lawV])
          cases hpf : Lib.hasPrefix (s2) [47, 47]
          · refine ⟨fun h => (by cases h), fun _ => ?_⟩
            have ht : Lib.trimPrefix (s2) [47, 47] = s2 := by unfold Lib.trimPrefix; rw [hpf]; rfl
            rw [hs, authPath_no hpf]; rfl
          · refine ⟨fun _ => ?_, fun h => (by cases h)⟩
            have hl3 := trim_len (s2) [47, 47]
            have hap := authPath_yes hpf
            rw [hs, hap]
            generalize Lib.trimPrefix (s2) [47, 47] = rest at hl3 hap ⊢
            have hib := indexByte_pre rest 47
            have p4 := p_IndexByte rest 47
            rw [hib] at p4
            have hpl := pre_le (· == 47) rest
            by_cases hr : pre (· == 47) rest < rest.length
            · rw [if_pos hr] at p4
              (refine callV_pc (p4) ?_; simp only [lawG, ↓Xn, ↓Xo, ↓Xg, ↓Xd, ↓Xe, ↓Xf, Tryz.VΓ, Tryz.Γs, Xp, Xi, Nat.reduceAdd, Nat.reduceSub, Nat.reduceLT, Nat.reduceLeDiff, reduceIte, reduceCtorEq, Nat.reduceEqDiff, implies_true, forall_const, lawV])
              refine ⟨fun h => ?_, fun _ => ⟨⟨by omega, by omega⟩, ⟨by omega, by omega⟩, (OkD_fast (by kernel_rfl)), rfl⟩⟩
              simp at h; omega
            · rw [if_neg hr] at p4
              (refine callV_pc (p4) ?_; simp only [lawG, ↓Xn, ↓Xo, ↓Xg, ↓Xd, ↓Xe, ↓Xf, Tryz.VΓ, Tryz.Γs, Xp, Xi, Nat.reduceAdd, Nat.reduceSub, Nat.reduceLT, Nat.reduceLeDiff, reduceIte, reduceCtorEq, Nat.reduceEqDiff, implies_true, forall_const, lawV])
              refine ⟨fun _ => ⟨⟨by omega, by omega⟩, ⟨by omega, by omega⟩, (OkD_fast (by kernel_rfl)), ?_⟩, fun h => ?_⟩
              · have : pre (· == 47) rest = rest.length := by omega
                rw [this]; simp [usv]
              · simp at h)
      · simp at h1
    · rw [if_neg hp] at hix
      rw [hix] at p3
      (refine callV_pc (p3) ?_; simp only [lawG, ↓Xn, ↓Xo, ↓Xg, ↓Xd, ↓Xe, ↓Xf, Tryz.VΓ, Tryz.Γs, Xp, Xi, Nat.reduceAdd, Nat.reduceSub, Nat.reduceLT, Nat.reduceLeDiff, reduceIte, reduceCtorEq, Nat.reduceEqDiff, implies_true, forall_const, lawV])
      refine ⟨fun h1 => ?_, fun h1 => ?_⟩
      · simp at h1
      · have hs : splitRest s2 fr qu hf hqu = (⟨[], (authPath s2).1, (authPath s2).2.2, qu, fr, false, (authPath s2).2.1, hqu, hf⟩, 0) := by
          unfold splitRest
          rw [if_neg]
          rw [List.drop_of_length_le (by omega)]; simp
        (
          (refine callV_pc (p_CutPrefix (s2) [47, 47]) ?_; simp only [lawG, ↓Xn, ↓Xo, ↓Xg, ↓Xd, ↓Xe, ↓Xf, Tryz.VΓ, Tryz.Γs, Xp, Xi, Nat.reduceAdd, Nat.reduceSub, Nat.reduceLT, Nat.reduceLeDiff, reduceIte, reduceCtorEq, Nat.reduceEqDiff, implies_true, forall_const, lawV])
          cases hpf : Lib.hasPrefix (s2) [47, 47]
          · refine ⟨fun h => (by cases h), fun _ => ?_⟩
            have ht : Lib.trimPrefix (s2) [47, 47] = s2 := by unfold Lib.trimPrefix; rw [hpf]; rfl
            rw [hs, authPath_no hpf]; rfl
          · refine ⟨fun _ => ?_, fun h => (by cases h)⟩
            have hl3 := trim_len (s2) [47, 47]
            have hap := authPath_yes hpf
            rw [hs, hap]
            generalize Lib.trimPrefix (s2) [47, 47] = rest at hl3 hap ⊢
            have hib := indexByte_pre rest 47
            have p4 := p_IndexByte rest 47
            rw [hib] at p4
            have hpl := pre_le (· == 47) rest
            by_cases hr : pre (· == 47) rest < rest.length
            · rw [if_pos hr] at p4
              (refine callV_pc (p4) ?_; simp only [lawG, ↓Xn, ↓Xo, ↓Xg, ↓Xd, ↓Xe, ↓Xf, Tryz.VΓ, Tryz.Γs, Xp, Xi, Nat.reduceAdd, Nat.reduceSub, Nat.reduceLT, Nat.reduceLeDiff, reduceIte, reduceCtorEq, Nat.reduceEqDiff, implies_true, forall_const, lawV])
              refine ⟨fun h => ?_, fun _ => ⟨⟨by omega, by omega⟩, ⟨by omega, by omega⟩, (OkD_fast (by kernel_rfl)), rfl⟩⟩
              simp at h; omega
            · rw [if_neg hr] at p4
              (refine callV_pc (p4) ?_; simp only [lawG, ↓Xn, ↓Xo, ↓Xg, ↓Xd, ↓Xe, ↓Xf, Tryz.VΓ, Tryz.Γs, Xp, Xi, Nat.reduceAdd, Nat.reduceSub, Nat.reduceLT, Nat.reduceLeDiff, reduceIte, reduceCtorEq, Nat.reduceEqDiff, implies_true, forall_const, lawV])
              refine ⟨fun _ => ⟨⟨by omega, by omega⟩, ⟨by omega, by omega⟩, (OkD_fast (by kernel_rfl)), ?_⟩, fun h => ?_⟩
              · have : pre (· == 47) rest = rest.length := by omega
                rw [this]; simp [usv]
              · simp at h)
def RdI (s : Bytes) (σ : St) : Prop := ∃ (p o : Bytes) (j f : Nat), lk 0 σ.t = some (.str p) ∧ lk 3 σ.t = some (.o j o.length) ∧ σ.b[j]? = some (.own (o.map u8S) 5 1 o.length true) ∧ p.length + o.length ≤ s.length ∧ p.length ≤ f ∧ dotsGo f p o = removeDots s
def RdM (σ : St) : Nat := match lk 0 σ.t with
  | some (.str p) => p.length
  | _ => 0
theorem RdM_eq {σ : St} {p : Bytes} (h : lk 0 σ.t = some (.str p)) : RdM σ = p.length := by simp [RdM, h]
theorem rd_done {s p' o' : Bytes} {j f n : Nat} {t : List (Nat × SV)} {b : List Res} (h0 : lk 0 t = some (.str p')) (h3 : lk 3 t = some (.o j o'.length)) (hj : b[j]? = some (.own (o'.map u8S) 5 1 o'.length true)) (hlen : p'.length + o'.length ≤ s.length) (hf : p'.length ≤ f) (hgo : dotsGo f p' o' = removeDots s) (hlt : p'.length < n) :
    RdI s ⟨t, b⟩ ∧ RdM ⟨t, b⟩ < n := ⟨⟨p', o', j, f, h0, h3, hj, hlen, hf, hgo⟩, by rw [RdM_eq h0]; exact hlt⟩
theorem rd_cut (o : Bytes) : ∃ X : Int, (if 0 < lastB o 47 then lastB o 47 else 0) = X ∧ 0 ≤ X ∧ X ≤ o.length ∧ o.take X.toNat = shorten o := by
  refine ⟨_, rfl, by split <;> omega, ?_, ?_⟩
  · have := lastB_le o; split <;> omega
  · rw [← lastB_shorten o]
    congr 2
    split <;> omega
theorem rd_len {o : Bytes} {X : Int} (h : X ≤ o.length) : (o.take X.toNat).length = X.toNat := by rw [List.length_take]; omega
theorem rd_at {b : List Res} {j : Nat} {o : Bytes} {X : Int} (h : X ≤ o.length) : (b.set j .gone ++ [.own ((o.map u8S).take (X.toNat * 1)) 5 1 X.toNat true])[b.length]? = some (.own ((o.take X.toNat).map u8S) 5 1 (o.take X.toNat).length true) := by
  rw [List.getElem?_append_right (by simp), rd_len h]
  simp [List.map_take]
theorem rd_at2 (b : List Res) (j : Nat) (o y : Bytes) : (b.set j .gone ++ [.own (o.map u8S ++ y.map u8S) 5 1 (o.length + y.length) true])[b.length]? = some (.own ((o ++ y).map u8S) 5 1 (o ++ y).length true) := by
  rw [List.getElem?_append_right (by simp)]
  simp
set_option maxHeartbeats 2000000 in
theorem p_uri_RemoveDots (s : Bytes) (hs : s.length ≤ 4294967281) : PC Tryz.V 49 [.str s] (.str (removeDots s)) := by
  refine pc_of 3000 Tryz.func49 rfl Tryz.ntmps49 Tryz.results49 Tryz.call49 (by simp) (by simp [flat, flat.flatL]) (by simp [flat, flat.flatL]) ?_
  simp only [lawG, ↓Xn, ↓Xo, ↓Xg, ↓Xd, ↓Xe, ↓Xf, Tryz.VΓ, Tryz.Γs, Xp, Xi, Nat.reduceAdd, Nat.reduceSub, Nat.reduceLT, Nat.reduceLeDiff, reduceIte, reduceCtorEq, Nat.reduceEqDiff, implies_true, forall_const, lawV]
  refine ⟨by omega, loopV_mk (RdI s) RdM ⟨s, [], 0, s.length, rfl, rfl, rfl, by simp, Nat.le_refl _, rfl⟩ ?_⟩
  rintro ⟨t, b⟩ ⟨p, o, j, f, h0, h3, hj, hlen, hf, hgo⟩
  simp only at h0 h3 hj
  rw [RdM_eq h0]
  simp only [lawG, ↓Xn, ↓Xo, ↓Xg, ↓Xd, ↓Xe, ↓Xf, Tryz.VΓ, Tryz.Γs, Xp, Xi, Nat.reduceAdd, Nat.reduceSub, Nat.reduceLT, Nat.reduceLeDiff, reduceIte, reduceCtorEq, Nat.reduceEqDiff, implies_true, forall_const, lawV, h0, h3, hj]
  have hend : p = [] → o = removeDots s := fun hp => by subst hp; cases f <;> simpa [dotsGo] using hgo
  refine ⟨fun hp => ?_, fun hp => ⟨isU8_map o, ?_⟩⟩
  rotate_left
  · rw [unU8_map, hend (by simpa using hp)]
  replace hp : p ≠ [] := by simpa using hp
  have hpl : 0 < p.length := List.length_pos_iff.2 hp
  obtain ⟨f, rfl⟩ : ∃ f', f = f' + 1 := ⟨f - 1, by omega⟩
  rw [dotsGo, if_neg hp] at hgo
  (refine callV_pc (p_HasPrefix p [46, 46, 47]) ?_
   simp only [lawG, ↓Xn, ↓Xo, ↓Xg, ↓Xd, ↓Xe, ↓Xf, Tryz.VΓ, Tryz.Γs, Xp, Xi, Nat.reduceAdd, Nat.reduceSub, Nat.reduceLT, Nat.reduceLeDiff, reduceIte, reduceCtorEq, Nat.reduceEqDiff, implies_true, forall_const, lawV, h0, h3, hj])
  refine ⟨fun c1 => ?_, fun c1 => ?_⟩
  · have h := hp_len c1
    rw [show dotStep p o = (p.drop 3, o) from if_pos c1] at hgo
    exact ⟨⟨by omega, by simp at h; omega⟩, rd_done rfl h3 hj (by simp; omega) (by simp at h ⊢; omega) hgo (by simp at h ⊢; omega)⟩
  (refine callV_pc (p_HasPrefix p [46, 47]) ?_
   simp only [lawG, ↓Xn, ↓Xo, ↓Xg, ↓Xd, ↓Xe, ↓Xf, Tryz.VΓ, Tryz.Γs, Xp, Xi, Nat.reduceAdd, Nat.reduceSub, Nat.reduceLT, Nat.reduceLeDiff, reduceIte, reduceCtorEq, Nat.reduceEqDiff, implies_true, forall_const, lawV, h0, h3, hj])
  refine ⟨fun c2 => ?_, fun c2 => ?_⟩
  · have h := hp_len c2
    rw [show dotStep p o = (p.drop 2, o) by unfold dotStep; rw [if_neg (hp_no c1)]; exact if_pos c2] at hgo
    exact ⟨⟨by omega, by simp at h; omega⟩, rd_done rfl h3 hj (by simp; omega) (by simp at h ⊢; omega) hgo (by simp at h ⊢; omega)⟩
  (refine callV_pc (p_HasPrefix p [47, 46, 47]) ?_
   simp only [lawG, ↓Xn, ↓Xo, ↓Xg, ↓Xd, ↓Xe, ↓Xf, Tryz.VΓ, Tryz.Γs, Xp, Xi, Nat.reduceAdd, Nat.reduceSub, Nat.reduceLT, Nat.reduceLeDiff, reduceIte, reduceCtorEq, Nat.reduceEqDiff, implies_true, forall_const, lawV, h0, h3, hj])
  refine ⟨fun c3 => ?_, fun c3 => ?_⟩
  · have h := hp_len c3
    rw [show dotStep p o = (p.drop 2, o) by unfold dotStep; rw [if_neg (hp_no c1), if_neg (hp_no c2)]; exact if_pos c3] at hgo
    exact ⟨⟨by omega, by simp at h; omega⟩, rd_done rfl h3 hj (by simp; omega) (by simp at h ⊢; omega) hgo (by simp at h ⊢; omega)⟩
  refine ⟨fun c4 => ?_, fun c4 => ?_⟩
  · have h : p = [47, 46] := by simpa using c4
    subst h
    exact rd_done (p' := [47]) rfl h3 hj (by simp at hlen ⊢; omega) (by simp at hf ⊢; omega) hgo (by simp)
  have n4 : ¬ p = [47, 46] := by simpa using c4
  have hdot : dotStep p o = if [47, 46, 46, 47].isPrefixOf p then (p.drop 3, shorten o)
      else if p = [47, 46, 46] then ([47], shorten o)
      else if p = [46] ∨ p = [46, 46] then ([], o)
      else (p.drop (1 + pre (· == 47) (p.drop 1)), o ++ p.take (1 + pre (· == 47) (p.drop 1))) := by
    unfold dotStep; rw [if_neg (hp_no c1), if_neg (hp_no c2), if_neg (hp_no c3), if_neg n4]
  rw [hdot] at hgo
  (refine callV_pc (p_HasPrefix p [47, 46, 46, 47]) ?_
   simp only [lawG, ↓Xn, ↓Xo, ↓Xg, ↓Xd, ↓Xe, ↓Xf, Tryz.VΓ, Tryz.Γs, Xp, Xi, Nat.reduceAdd, Nat.reduceSub, Nat.reduceLT, Nat.reduceLeDiff, reduceIte, reduceCtorEq, Nat.reduceEqDiff, implies_true, forall_const, lawV, h0, h3, hj])
  refine ⟨fun c5 => ⟨fun c6 => ?_, fun c6 => ⟨fun c7 => ⟨fun c8 => ?_, fun c8 => ?_⟩, fun c7 => ?_⟩⟩, fun c5 => ?_⟩
  · have h : p = [47, 46, 46] := by simpa using c6
    subst h
    refine ⟨by simp, ?_⟩
    (refine callV_pc (p_TrimPrefix _ [47]) ?_
     simp only [lawG, ↓Xn, ↓Xo, ↓Xg, ↓Xd, ↓Xe, ↓Xf, Tryz.VΓ, Tryz.Γs, Xp, Xi, Nat.reduceAdd, Nat.reduceSub, Nat.reduceLT, Nat.reduceLeDiff, reduceIte, reduceCtorEq, Nat.reduceEqDiff, implies_true, forall_const, lawV, h0, h3, hj])
    refine ⟨by decide, isU8_map o, ?_⟩
    rw [unU8_map]
    (refine callV_pc (p_LastIndexByte o 47 (by omega)) ?_
     simp only [lawG, ↓Xn, ↓Xo, ↓Xg, ↓Xd, ↓Xe, ↓Xf, Tryz.VΓ, Tryz.Γs, Xp, Xi, Nat.reduceAdd, Nat.reduceSub, Nat.reduceLT, Nat.reduceLeDiff, reduceIte, reduceCtorEq, Nat.reduceEqDiff, implies_true, forall_const, lawV, h0, h3, hj])
    obtain ⟨X, hX, x0, x1, hx⟩ := rd_cut o
    rw [hX]
    refine ⟨⟨x0, x1⟩, rd_done (p' := [47]) (o' := o.take X.toNat) (f := f) rfl ?_ (rd_at x1) ?_ ?_ ?_ (by simp)⟩
    · rw [rd_len x1]; rfl
    · rw [rd_len x1]; simp at hlen ⊢; omega
    · simp at hf ⊢; omega
    · rw [hx]; exact hgo
  · have h : p = [46, 46] := by simpa using c8
    subst h
    exact rd_done (p' := []) rfl h3 hj (by simp at hlen ⊢; omega) (by simp at hf ⊢) hgo (by simp)
  · have n5 := hp_no c5
    have n6 : ¬ p = [47, 46, 46] := by simpa using c6
    have n7 : ¬ (p = [46] ∨ p = [46, 46]) := by rintro (h | h) <;> subst h <;> simp at c7 c8
    rw [if_neg n5, if_neg n6, if_neg n7] at hgo
    simp only at hgo
    have p4 := p_IndexByte (p.drop 1) 47
    rw [indexByte_pre] at p4
    have hpr := pre_le (· == 47) (p.drop 1)
    generalize pre (· == 47) (p.drop 1) = q at hgo p4 hpr
    simp only [List.length_drop] at p4 hpr
    refine ⟨by omega, ?_⟩
    by_cases hq : q < p.length - 1
    · rw [if_pos hq] at p4
      (refine callV_pc (p4) ?_
       simp only [lawG, ↓Xn, ↓Xo, ↓Xg, ↓Xd, ↓Xe, ↓Xf, Tryz.VΓ, Tryz.Γs, Xp, Xi, Nat.reduceAdd, Nat.reduceSub, Nat.reduceLT, Nat.reduceLeDiff, reduceIte, reduceCtorEq, Nat.reduceEqDiff, implies_true, forall_const, lawV, h0, h3, hj])
      have e : (1 + (q : Int)).toNat = 1 + q := by omega
      have el : (p.take (1 + q)).length = 1 + q := by rw [List.length_take]; omega
      rw [e]
      refine ⟨by omega, fun h => (by simp at h; omega), fun _ => ⟨by omega, ⟨one_u8 _, by rw [el]; unfold maxLen; omega, by rw [el]; omega⟩, by omega, rd_done (p' := p.drop (1 + q)) (o' := o ++ p.take (1 + q)) (f := f) rfl ?_ (rd_at2 ..) ?_ ?_ hgo ?_⟩⟩
      · rw [List.length_append]; rfl
      · simp; omega
      · simp; omega
      · simp; omega
    · rw [if_neg hq] at p4
      have hq2 : 1 + q = p.length := by omega
      rw [hq2, List.drop_length, List.take_length] at hgo
      (refine callV_pc (p4) ?_
       simp only [lawG, ↓Xn, ↓Xo, ↓Xg, ↓Xd, ↓Xe, ↓Xf, Tryz.VΓ, Tryz.Γs, Xp, Xi, Nat.reduceAdd, Nat.reduceSub, Nat.reduceLT, Nat.reduceLeDiff, reduceIte, reduceCtorEq, Nat.reduceEqDiff, implies_true, forall_const, lawV, h0, h3, hj])
      refine ⟨by omega, fun _ => ⟨by omega, ⟨one_u8 _, by unfold maxLen; omega, by omega⟩, by omega, rd_done (p' := []) (o' := o ++ p) (f := f) ?_ ?_ (rd_at2 ..) ?_ ?_ hgo ?_⟩, fun h => (by simp at h)⟩
      · simp [lk]
      · rw [List.length_append]; rfl
      · simp; omega
      · simp
      · exact hpl
  · have h : p = [46] := by simpa using c7
    subst h
    exact rd_done (p' := []) rfl h3 hj (by simp at hlen ⊢; omega) (by simp at hf ⊢) hgo (by simp)
  · rw [if_pos (show List.isPrefixOf [47, 46, 46, 47] p = true from c5)] at hgo
    obtain ⟨r, rfl⟩ := List.isPrefixOf_iff_prefix.1 c5
    refine ⟨by simp; omega, ?_⟩
    (refine callV_pc (p_TrimPrefix _ [47]) ?_
     simp only [lawG, ↓Xn, ↓Xo, ↓Xg, ↓Xd, ↓Xe, ↓Xf, Tryz.VΓ, Tryz.Γs, Xp, Xi, Nat.reduceAdd, Nat.reduceSub, Nat.reduceLT, Nat.reduceLeDiff, reduceIte, reduceCtorEq, Nat.reduceEqDiff, implies_true, forall_const, lawV, h0, h3, hj])
    have ht : Lib.trimPrefix (47 :: r) [47] = r := by simp [Lib.trimPrefix, Lib.hasPrefix]
    have hd : (47 :: 46 :: 46 :: 47 :: r : Bytes).drop (Int.toNat 3) = 47 :: r := rfl
    rw [hd, ht]
    refine ⟨by simp at hlen; omega, isU8_map o, ?_⟩
    rw [unU8_map]
    (refine callV_pc (p_LastIndexByte o 47 (by omega)) ?_
     simp only [lawG, ↓Xn, ↓Xo, ↓Xg, ↓Xd, ↓Xe, ↓Xf, Tryz.VΓ, Tryz.Γs, Xp, Xi, Nat.reduceAdd, Nat.reduceSub, Nat.reduceLT, Nat.reduceLeDiff, reduceIte, reduceCtorEq, Nat.reduceEqDiff, implies_true, forall_const, lawV, h0, h3, hj])
    obtain ⟨X, hX, x0, x1, hx⟩ := rd_cut o
    rw [hX]
    refine ⟨⟨x0, x1⟩, rd_done (p' := 47 :: r) (o' := o.take X.toNat) (f := f) rfl ?_ (rd_at x1) ?_ ?_ ?_ (by simp)⟩
    · rw [rd_len x1]; rfl
    · rw [rd_len x1]; simp at hlen ⊢; omega
    · simp at hf ⊢; omega
    · rw [hx]; exact hgo
end Go.Proofs.YtjponbpdlioocaaGreatDoor
/- Builders: the contracts on their methods. -/
set_option linter.all false
set_option maxRecDepth 20000
namespace Go.Proofs.YtjponbpdlioocaaGreatDoor
open Go Vc Go.RowKit Wf
set_option linter.unusedSimpArgs false
end Go.Proofs.YtjponbpdlioocaaGreatDoor
/- The walk of uri.Join. -/
set_option linter.all false
set_option maxRecDepth 20000
namespace Go.Proofs.YtjponbpdlioocaaGreatDoor
open Go Vc Go.RowKit Wf
set_option linter.unusedSimpArgs false
def adds (there : Bool) (l : Bytes) (parts : List Bytes) : Bytes := if there then l ++ parts.flatten else l
def AddI (bs : List Res) (i : Nat) (there : Bool) (l : Bytes) (parts : List Bytes) (j : Nat) (σ : St) : Prop := ∃ k : Nat, k ≤ parts.length ∧ lk 0 σ.t = some (.bool there) ∧ lk 2 σ.t = some (.p i 0) ∧ lk 7 σ.t = some (.o j parts.length) ∧ lk 8 σ.t = some (.int .i64 parts.length) ∧ lk 9 σ.t = some (.int .i64 k) ∧
  σ.b = bs.set i (.ext (BldR 65 5 (adds there l (parts.take k))))
def AddM (parts : List Bytes) (σ : St) : Nat := match lk 9 σ.t with
  | some (.int _ k) => parts.length - k.toNat
  | _ => 0
def Uri.size (u : Uri) : Nat := u.scheme.length + u.authority.length + u.path.length + u.query.length + u.fragment.length
end Go.Proofs.YtjponbpdlioocaaGreatDoor
/- Sizes of the parts of a string. -/
set_option linter.all false
namespace Go.Proofs.YtjponbpdlioocaaGreatDoor
open Go Vc Go.RowKit Wf
theorem split_path (s : Bytes) : (uriSplit s).1.path.length ≤ s.length := by
  have hc1 := cutC_len 35 s
  have hc2 := cutC_len 63 (cutC 35 s).1
  have hap : ∀ r : Bytes, (authPath r).2.2.length ≤ r.length := fun r => by
    unfold authPath; split
    · simp; omega
    · simp
  unfold uriSplit
  split
  · simp [Uri.none]
  · unfold splitRest
    split
    · split
      · have := hap ((cutC 63 (cutC 35 s).1).1.drop (pre colonSlash (cutC 63 (cutC 35 s).1).1 + 1))
        simp at this ⊢; omega
      · simp [Uri.none]
    · have := hap (cutC 63 (cutC 35 s).1).1
      simp; omega
theorem split_size (s : Bytes) : Uri.size (uriSplit s).1 ≤ 6 * s.length := by
  have hc1 := cutC_len 35 s
  have hc2 := cutC_len 63 (cutC 35 s).1
  have hap : ∀ r : Bytes, (authPath r).2.2.length ≤ r.length ∧ (authPath r).1.length ≤ r.length := fun r => by
    unfold authPath; split
    · simp; omega
    · simp
  unfold uriSplit
  split
  · simp [Uri.none, Uri.size]
  · unfold splitRest
    split
    · split
      · have := hap ((cutC 63 (cutC 35 s).1).1.drop (pre colonSlash (cutC 63 (cutC 35 s).1).1 + 1))
        simp [Uri.size] at this ⊢; omega
      · simp [Uri.none, Uri.size]
    · have := hap (cutC 63 (cutC 35 s).1).1
      simp [Uri.size]; omega
end Go.Proofs.YtjponbpdlioocaaGreatDoor
/- The walks of package uri: merge, Resolve. -/
set_option linter.all false
set_option maxRecDepth 20000
namespace Go.Proofs.YtjponbpdlioocaaGreatDoor
open Go Vc Go.RowKit Wf
set_option linter.unusedSimpArgs false
theorem dotStep_len (p o : Bytes) (hp : p ≠ []) : (dotStep p o).1.length + (dotStep p o).2.length ≤ p.length + o.length := by
  have hpl : 0 < p.length := List.length_pos_iff.2 hp
  have hs : (shorten o).length ≤ o.length := by rw [shorten_take, List.length_take]; exact Nat.min_le_right _ _
  have hq := pre_le (· == 47) (p.drop 1)
  unfold dotStep
  split
  · simp
  split
  · simp
  split
  · simp
  split
  · rename_i h; subst h; simp
  split
  · simp; omega
  split
  · rename_i h; subst h; simp; omega
  split
  · simp
  · simp at hq ⊢
    omega
theorem dotsGo_len : ∀ (f : Nat) (p o : Bytes), (dotsGo f p o).length ≤ p.length + o.length
  | 0, p, o => by simp [dotsGo]
  | f + 1, p, o => by
    rw [dotsGo]
    split
    · simp
    · rename_i hp
      exact Nat.le_trans (dotsGo_len f _ _) (dotStep_len p o hp)
theorem removeDots_len (s : Bytes) : (removeDots s).length ≤ s.length := by
  have := dotsGo_len s.length s []
  simpa [removeDots] using this
end Go.Proofs.YtjponbpdlioocaaGreatDoor
/- The walk of weburl.Parse. -/
set_option linter.all false
set_option maxRecDepth 20000
namespace Go.Proofs.YtjponbpdlioocaaGreatDoor
open Go Vc Go.RowKit Wf
set_option linter.unusedSimpArgs false
theorem hostPort_ok (a : Bytes) (h : (hostPort a).2 = 0) : (hostPort a).1.1.length ≤ 253 ∧ 0 ≤ (hostPort a).1.2 ∧ (hostPort a).1.2 ≤ 65535 := by
  have := hostPort_back (s := a) (x := (hostPort a).1.1) (p := (hostPort a).1.2) (by rw [← h])
  omega
set_option maxRecDepth 20000 in
set_option maxHeartbeats 4000000 in
theorem p_url_Parse (s : Bytes) : PC Tryz.V 30 [.str s] (.tup [wsv (urlParse s).1, .int .i64 (urlParse s).2]) := by
  refine pc_of 3000 Tryz.func30 rfl Tryz.ntmps30 Tryz.results30 Tryz.call30 (by simp) (by simp [flat, flat.flatL]) (by simp [flat, flat.flatL, wsv]) ?_
  simp only [lawG, ↓Xn, ↓Xo, ↓Xg, ↓Xd, ↓Xe, ↓Xf, Tryz.VΓ, Tryz.Γs, Xp, Xi, Nat.reduceAdd, Nat.reduceSub, Nat.reduceLT, Nat.reduceLeDiff, reduceIte, reduceCtorEq, Nat.reduceEqDiff, implies_true, forall_const, lawV]
  refine ⟨fun h => ?_, fun h => ?_⟩
  · have : urlParse s = (Url.none, 5) := if_pos (by simp at h; omega)
    rw [this]; rfl
  have hl : ¬ 4096 < s.length := (by simp at h; omega)
  have hq : urlParse s = if (uriSplit s).2 ≠ 0 then (Url.none, (uriSplit s).2) else urlOf (uriSplit s).1 := if_neg hl
  rw [hq]
  have ps := p_uri_Split s
  unfold usv at ps
  have hp := split_path s
  have hz := split_size s
  revert ps hp hz
  generalize uriSplit s = us
  obtain ⟨r, c⟩ := us
  intro ps hp hz
  simp only at ps hp hz
  simp only
  unfold Uri.size at hz
  have pl := p_Equal r.scheme https (by omega) (by decide)
  have pn := p_Contains r.authority 64
  have ph := p_host_Parse r.authority (by omega)
  have p1 := p_Normalize r.path inPath (by decide)
  have p2 := p_Normalize r.query inQuery (by decide)
  have p3 := p_Normalize r.fragment inQuery (by decide)
  (refine callV_pc (ps) ?_; simp only [lawG, ↓Xn, ↓Xo, ↓Xg, ↓Xd, ↓Xe, ↓Xf, Tryz.VΓ, Tryz.Γs, Xp, Xi, Nat.reduceAdd, Nat.reduceSub, Nat.reduceLT, Nat.reduceLeDiff, reduceIte, reduceCtorEq, Nat.reduceEqDiff, implies_true, forall_const, lawV])
  refine ⟨fun h1 => ?_, fun h1 => ?_⟩
  · rw [if_pos (by simpa using h1)]; rfl
  rw [if_neg (by simpa using h1)]
  unfold urlOf
  cases hsc : r.hasScheme
  · simp only [lawG, ↓Xn, ↓Xo, ↓Xg, ↓Xd, ↓Xe, ↓Xf, Tryz.VΓ, Tryz.Γs, Xp, Xi, Nat.reduceAdd, Nat.reduceSub, Nat.reduceLT, Nat.reduceLeDiff, reduceIte, reduceCtorEq, Nat.reduceEqDiff, implies_true, forall_const, lawV, hsc]
    rw [if_pos (.inl trivial)]; rfl
  simp only [lawG, ↓Xn, ↓Xo, ↓Xg, ↓Xd, ↓Xe, ↓Xf, Tryz.VΓ, Tryz.Γs, Xp, Xi, Nat.reduceAdd, Nat.reduceSub, Nat.reduceLT, Nat.reduceLeDiff, reduceIte, reduceCtorEq, Nat.reduceEqDiff, implies_true, forall_const, lawV, hsc]
  rw [show lower https = https by decide] at pl
  (refine callV_pc pl ?_; simp only [lawG, ↓Xn, ↓Xo, ↓Xg, ↓Xd, ↓Xe, ↓Xf, Tryz.VΓ, Tryz.Γs, Xp, Xi, Nat.reduceAdd, Nat.reduceSub, Nat.reduceLT, Nat.reduceLeDiff, reduceIte, reduceCtorEq, Nat.reduceEqDiff, implies_true, forall_const, lawV, hsc])
  refine ⟨fun h2 => ?_, fun h2 => ?_⟩
  · rw [if_pos (.inr (by simpa using h2))]; rfl
  rw [if_neg (by simpa using h2)]
  cases hau : r.hasAuthority
  · simp only [lawG, ↓Xn, ↓Xo, ↓Xg, ↓Xd, ↓Xe, ↓Xf, Tryz.VΓ, Tryz.Γs, Xp, Xi, Nat.reduceAdd, Nat.reduceSub, Nat.reduceLT, Nat.reduceLeDiff, reduceIte, reduceCtorEq, Nat.reduceEqDiff, implies_true, forall_const, lawV, hau]
    rfl
  simp only [lawG, ↓Xn, ↓Xo, ↓Xg, ↓Xd, ↓Xe, ↓Xf, Tryz.VΓ, Tryz.Γs, Xp, Xi, Nat.reduceAdd, Nat.reduceSub, Nat.reduceLT, Nat.reduceLeDiff, reduceIte, reduceCtorEq, Nat.reduceEqDiff, implies_true, forall_const, lawV, hau]
  (refine callV_pc pn ?_; simp only [lawG, ↓Xn, ↓Xo, ↓Xg, ↓Xd, ↓Xe, ↓Xf, Tryz.VΓ, Tryz.Γs, Xp, Xi, Nat.reduceAdd, Nat.reduceSub, Nat.reduceLT, Nat.reduceLeDiff, reduceIte, reduceCtorEq, Nat.reduceEqDiff, implies_true, forall_const, lawV, hau])
  refine ⟨fun h3 => ?_, fun h3 => ?_⟩
  · rw [if_pos (by simpa using h3)]; rfl
  rw [if_neg (by simpa using h3)]
  unfold urlParts
  (refine callV_pc ph ?_; simp only [lawG, ↓Xn, ↓Xo, ↓Xg, ↓Xd, ↓Xe, ↓Xf, Tryz.VΓ, Tryz.Γs, Xp, Xi, Nat.reduceAdd, Nat.reduceSub, Nat.reduceLT, Nat.reduceLeDiff, reduceIte, reduceCtorEq, Nat.reduceEqDiff, implies_true, forall_const, lawV, hau])
  refine ⟨fun h4 => ?_, fun h4 => ?_⟩
  · rw [if_pos (by simpa using h4)]; rfl
  rw [if_neg (by simpa using h4)]
  have hN1 := pctNorm_len inPath r.path
  have hN2 := pctNorm_len inQuery r.query
  have hN3 := pctNorm_len inQuery r.fragment
  have hH := hostPort_ok r.authority (by simpa using h4)
  have p4 := p_uri_RemoveDots (pctNorm inPath r.path).1 (by omega)
  have hD := removeDots_len (pctNorm inPath r.path).1
  generalize pctNorm inPath r.path = n1 at p1 p4 hN1 hD ⊢
  generalize pctNorm inQuery r.query = n2 at p2 hN2 ⊢
  generalize pctNorm inQuery r.fragment = n3 at p3 hN3 ⊢
  generalize (hostPort r.authority).1 = hp at hH ⊢
  obtain ⟨n1, e1⟩ := n1
  obtain ⟨n2, e2⟩ := n2
  obtain ⟨n3, e3⟩ := n3
  obtain ⟨hh, pp⟩ := hp
  simp only at p1 p2 p3 p4 hN1 hN2 hN3 hH hD ⊢
  (refine callV_pc p1 ?_; simp only [lawG, ↓Xn, ↓Xo, ↓Xg, ↓Xd, ↓Xe, ↓Xf, Tryz.VΓ, Tryz.Γs, Xp, Xi, Nat.reduceAdd, Nat.reduceSub, Nat.reduceLT, Nat.reduceLeDiff, reduceIte, reduceCtorEq, Nat.reduceEqDiff, implies_true, forall_const, lawV])
  refine ⟨fun h5 => ?_, fun h5 => ?_⟩
  · rw [if_pos (by simpa using h5)]; rfl
  rw [if_neg (by simpa using h5)]
  (refine callV_pc p2 ?_; simp only [lawG, ↓Xn, ↓Xo, ↓Xg, ↓Xd, ↓Xe, ↓Xf, Tryz.VΓ, Tryz.Γs, Xp, Xi, Nat.reduceAdd, Nat.reduceSub, Nat.reduceLT, Nat.reduceLeDiff, reduceIte, reduceCtorEq, Nat.reduceEqDiff, implies_true, forall_const, lawV])
  refine ⟨fun h6 => ?_, fun h6 => ?_⟩
  · rw [if_pos (by simpa using h6)]; rfl
  rw [if_neg (by simpa using h6)]
  (refine callV_pc p3 ?_; simp only [lawG, ↓Xn, ↓Xo, ↓Xg, ↓Xd, ↓Xe, ↓Xf, Tryz.VΓ, Tryz.Γs, Xp, Xi, Nat.reduceAdd, Nat.reduceSub, Nat.reduceLT, Nat.reduceLeDiff, reduceIte, reduceCtorEq, Nat.reduceEqDiff, implies_true, forall_const, lawV])
  refine ⟨fun h7 => ?_, fun h7 => ?_⟩
  · rw [if_pos (by simpa using h7)]; rfl
  rw [if_neg (by simpa using h7)]
  unfold urlEnd
  (refine callV_pc p4 ?_; simp only [lawG, ↓Xn, ↓Xo, ↓Xg, ↓Xd, ↓Xe, ↓Xf, Tryz.VΓ, Tryz.Γs, Xp, Xi, Nat.reduceAdd, Nat.reduceSub, Nat.reduceLT, Nat.reduceLeDiff, reduceIte, reduceCtorEq, Nat.reduceEqDiff, implies_true, forall_const, lawV])
  generalize removeDots n1 = d at hD ⊢
  have fin : ∀ d' : Bytes, d'.length ≤ 4096 * 6 → PC Tryz.V 31 [wsv ⟨hh, pp, d', n2, n3, r.hasQuery, r.hasFrag⟩] (.str (urlText ⟨hh, pp, d', n2, n3, r.hasQuery, r.hasFrag⟩)) := fun d' hd' =>
    p_url_Format _ ⟨by simp only; omega, by simp only; omega, by simp only; omega⟩
  unfold wsv at fin
  refine ⟨fun h8 => ?_, fun h8 => ?_⟩
  · have f1 := fin [47] (by decide)
    have h8' : d = [] := by simpa using h8
    rw [if_pos h8']
    (refine callV_pc f1 ?_; simp only [lawG, ↓Xn, ↓Xo, ↓Xg, ↓Xd, ↓Xe, ↓Xf, Tryz.VΓ, Tryz.Γs, Xp, Xi, Nat.reduceAdd, Nat.reduceSub, Nat.reduceLT, Nat.reduceLeDiff, reduceIte, reduceCtorEq, Nat.reduceEqDiff, implies_true, forall_const, lawV])
    refine ⟨fun h9 => ?_, fun h9 => ?_⟩
    · rw [if_pos (by simp at h9; omega)]; rfl
    · rw [if_neg (by simp at h9; omega)]; rfl
  · have f1 := fin d (by omega)
    have h8' : ¬ d = [] := by simpa using h8
    rw [if_neg h8']
    (refine callV_pc f1 ?_; simp only [lawG, ↓Xn, ↓Xo, ↓Xg, ↓Xd, ↓Xe, ↓Xf, Tryz.VΓ, Tryz.Γs, Xp, Xi, Nat.reduceAdd, Nat.reduceSub, Nat.reduceLT, Nat.reduceLeDiff, reduceIte, reduceCtorEq, Nat.reduceEqDiff, implies_true, forall_const, lawV])
    refine ⟨fun h9 => ?_, fun h9 => ?_⟩
    · rw [if_pos (by simp at h9; omega)]; rfl
    · rw [if_neg (by simp at h9; omega)]; rfl
end Go.Proofs.YtjponbpdlioocaaGreatDoor
/- The walks of the references 01 and 06. -/
set_option linter.all false
set_option maxRecDepth 20000
namespace Go.Proofs.YtjponbpdlioocaaGreatDoor
open Go Vc Go.RowKit Wf
set_option linter.unusedSimpArgs false
def lkI (i : Nat) (σ : St) : Nat := match lk i σ.t with
  | some (.int _ n) => n.toNat
  | _ => 0
theorem lkI_eq {i : Nat} {σ : St} {k : IntKind} {n : Int} (h : lk i σ.t = some (.int k n)) : lkI i σ = n.toNat := by simp [lkI, h]
theorem pre_hit {p : UInt8 → Bool} {s : Bytes} {k : Nat} (hk : k < s.length) (h : k ≤ pre p s) (hp : p s[k] = true) : pre p s = k := by
  rcases Nat.lt_or_ge k (pre p s) with h1 | h1
  · rw [pre_get h1 hk] at hp; cases hp
  · omega
theorem pre_miss {p : UInt8 → Bool} {s : Bytes} {k : Nat} (hk : k < s.length) (h : k ≤ pre p s) (hp : p s[k] = false) : k + 1 ≤ pre p s := by
  rcases Nat.lt_or_ge k (pre p s) with h1 | h1
  · exact h1
  · have e : pre p s = k := by omega
    have h2 := pre_at (p := p) (l := s) (by omega)
    simp only [e] at h2
    rw [hp] at h2; cases h2
theorem slash_spec (s : Bytes) : (lastSlash s = 0 ∧ ∀ j (h : j < s.length), s[j] ≠ 47) ∨ (∃ i, ∃ h : i < s.length, lastSlash s = i + 1 ∧ s[i] = 47 ∧ ∀ j (hj : j < s.length), i < j → s[j] ≠ 47) := by
  have e : ∀ j (h : j < s.length), (⟨List.toArray s⟩ : ByteArray).data[j]! = s[j] := fun j h => by simp [h]
  have hb := lastB_slash s
  have hz : (⟨List.toArray s⟩ : ByteArray).size = s.length := rfl
  rcases Lib.lastIndexByte_spec ⟨List.toArray s⟩ (UInt8.toNat 47) with ⟨h1, h2⟩ | ⟨i, h1, h2, h3, h4⟩
  · left
    refine ⟨?_, fun j hj hs => h2 j hj ?_⟩
    · have : lastB s 47 = -1 := h1
      omega
    · rw [e j hj, hs]
  · right
    rw [hz] at h1
    refine ⟨i, h1, ?_, ?_, fun j hj hij hs => h4 j hij hj ?_⟩
    · have : lastB s 47 = i := h2
      omega
    · rw [e i h1] at h3
      exact UInt8.toNat_inj.1 (by exact_mod_cast h3)
    · rw [e j hj, hs]
theorem slash_hit {s : Bytes} {k : Nat} (hk : k < s.length) (h : lastSlash s ≤ k + 1) (hs : s[k] = 47) : lastSlash s = k + 1 := by
  rcases slash_spec s with ⟨-, h2⟩ | ⟨i, hi, h1, h2, h3⟩
  · exact absurd hs (h2 k hk)
  · rcases Nat.lt_or_ge i k with h4 | h4
    · exact absurd hs (h3 k hk h4)
    · omega
theorem slash_miss {s : Bytes} {k : Nat} (hk : k < s.length) (h : lastSlash s ≤ k + 1) (hs : s[k] ≠ 47) : lastSlash s ≤ k := by
  rcases slash_spec s with ⟨h1, -⟩ | ⟨i, hi, h1, h2, h3⟩
  · omega
  · rcases Nat.lt_or_ge i k with h4 | h4
    · omega
    · have : i = k := by omega
      subst this
      exact absurd h2 hs
set_option maxHeartbeats 2000000 in
theorem p_r1_In (c : UInt8) (set : Bytes) (ht : set.length ≤ 4294967281) : PC Tryz.V 58 [.int .u8 c.toNat, .str set] (.bool (set.contains c)) := by
  refine pc_of 3000 Tryz.func58 rfl Tryz.ntmps58 Tryz.results58 Tryz.call58 (by simp) (by simp [flat, flat.flatL]) (by simp [flat, flat.flatL]) ?_
  simp only [lawG, ↓Xn, ↓Xo, ↓Xg, ↓Xd, ↓Xe, ↓Xf, Tryz.VΓ, Tryz.Γs, Xp, Xi, Nat.reduceAdd, Nat.reduceSub, Nat.reduceLT, Nat.reduceLeDiff, reduceIte, reduceCtorEq, Nat.reduceEqDiff, implies_true, forall_const, lawV]
  refine loopV_mk (fun σ => ∃ k : Nat, k ≤ set.length ∧ (set.take k).contains c = false ∧ lk 0 σ.t = some (.int .u8 c.toNat) ∧ lk 1 σ.t = some (.str set) ∧ lk 4 σ.t = some (.bool false) ∧ lk 5 σ.t = some (.int .i64 k)) (fun σ => set.length - lkI 5 σ) ⟨0, by omega, rfl, rfl, rfl, rfl, rfl⟩ ?_
  rintro ⟨t, b⟩ ⟨k, hk, hc, h0, h1, h4, h5⟩
  simp only at h0 h1 h4 h5
  rw [lkI_eq h5]
  simp only [lawG, ↓Xn, ↓Xo, ↓Xg, ↓Xd, ↓Xe, ↓Xf, Tryz.VΓ, Tryz.Γs, Xp, Xi, Nat.reduceAdd, Nat.reduceSub, Nat.reduceLT, Nat.reduceLeDiff, reduceIte, reduceCtorEq, Nat.reduceEqDiff, implies_true, forall_const, lawV, h0, h1, h4, h5]
  refine ⟨fun h => ?_, fun h => ?_⟩
  · have hk' : k < set.length := by simpa using h
    rw [byte_is (n := c.toNat) hk' c rfl]
    refine ⟨by omega, fun e => ?_, fun e => ⟨by omega, ⟨k + 1, by omega, ?_, by simp⟩, by rw [lkI_eq rfl]; omega⟩⟩
    · rw [show set.contains c = true from List.contains_iff_mem.2 (by rw [← beq_iff_eq.1 e]; exact List.getElem_mem hk')]
    · apply Bool.eq_false_iff.2
      intro hh
      rw [List.contains_iff_mem, List.take_succ_eq_append_getElem hk', List.mem_append] at hh
      rcases hh with hh | hh
      · exact absurd (List.contains_iff_mem.2 hh) (by rw [hc]; simp)
      · have hh := List.mem_singleton.1 hh
        rw [← hh] at e
        simp at e
  · have : k = set.length := by simp at h; omega
    subst this
    rw [List.take_length] at hc
    rw [hc]
theorem p_r1_Prefix (s p : Bytes) : PC Tryz.V 25 [.str s, .str p] (.bool (Lib.hasPrefix s p)) := by
  refine pc_of 3000 Tryz.func25 rfl Tryz.ntmps25 Tryz.results25 Tryz.call25 (by simp) (by simp [flat, flat.flatL]) (by simp [flat, flat.flatL]) ?_
  simp only [lawG, ↓Xn, ↓Xo, ↓Xg, ↓Xd, ↓Xe, ↓Xf, Tryz.VΓ, Tryz.Γs, Xp, Xi, Nat.reduceAdd, Nat.reduceSub, Nat.reduceLT, Nat.reduceLeDiff, reduceIte, reduceCtorEq, Nat.reduceEqDiff, implies_true, forall_const, lawV]
  have e : Lib.hasPrefix s p = (s.take p.length == p) := by
    rw [Bool.eq_iff_iff, Lib.hasPrefix, List.isPrefixOf_iff_prefix, List.prefix_iff_eq_take, beq_iff_eq]
    exact eq_comm
  refine ⟨fun h => ⟨by simp at h; omega, by rw [e]⟩, fun h => ?_⟩
  rw [e, show (s.take p.length == p) = false from beq_eq_false_iff_ne.2 fun q => by
    have := congrArg List.length q
    simp at h this
    omega]
set_option maxHeartbeats 2000000 in
theorem p_r1_Index (s set : Bytes) (hs : s.length ≤ 4294967281) (ht : set.length ≤ 4294967281) : PC Tryz.V 37 [.str s, .str set] (.int .i64 (pre (set.contains ·) s)) := by
  refine pc_of 3000 Tryz.func37 rfl Tryz.ntmps37 Tryz.results37 Tryz.call37 (by simp) (by simp [flat, flat.flatL]) (by simp [flat, flat.flatL]) ?_
  simp only [lawG, ↓Xn, ↓Xo, ↓Xg, ↓Xd, ↓Xe, ↓Xf, Tryz.VΓ, Tryz.Γs, Xp, Xi, Nat.reduceAdd, Nat.reduceSub, Nat.reduceLT, Nat.reduceLeDiff, reduceIte, reduceCtorEq, Nat.reduceEqDiff, implies_true, forall_const, lawV]
  refine loopV_mk (fun σ => ∃ k : Nat, k ≤ s.length ∧ k ≤ pre (set.contains ·) s ∧ lk 0 σ.t = some (.str s) ∧ lk 1 σ.t = some (.str set) ∧ lk 5 σ.t = some (.int .i64 k)) (fun σ => s.length - lkI 5 σ) ⟨0, by omega, by omega, rfl, rfl, rfl⟩ ?_
  rintro ⟨t, b⟩ ⟨k, hk, hc, h0, h1, h5⟩
  simp only at h0 h1 h5
  rw [lkI_eq h5]
  simp only [lawG, ↓Xn, ↓Xo, ↓Xg, ↓Xd, ↓Xe, ↓Xf, Tryz.VΓ, Tryz.Γs, Xp, Xi, Nat.reduceAdd, Nat.reduceSub, Nat.reduceLT, Nat.reduceLeDiff, reduceIte, reduceCtorEq, Nat.reduceEqDiff, implies_true, forall_const, lawV, h0, h1, h5]
  have hpl := pre_le (set.contains ·) s
  refine ⟨fun h => ?_, fun h => ?_⟩
  · have hk' : k < s.length := by simpa using h
    have hin := p_r1_In (s.getD k 0) set ht
    refine ⟨by omega, ?_⟩
    (refine callV_pc (hin) ?_; simp only [lawG, ↓Xn, ↓Xo, ↓Xg, ↓Xd, ↓Xe, ↓Xf, Tryz.VΓ, Tryz.Γs, Xp, Xi, Nat.reduceAdd, Nat.reduceSub, Nat.reduceLT, Nat.reduceLeDiff, reduceIte, reduceCtorEq, Nat.reduceEqDiff, implies_true, forall_const, lawV, h0, h1, h5])
    rw [show s.getD k 0 = s[k] by simp [List.getD, hk']]
    refine ⟨fun e => ?_, fun e => ⟨by omega, ⟨k + 1, by omega, pre_miss hk' hc e, by simp⟩, by rw [lkI_eq rfl]; omega⟩⟩
    rw [pre_hit hk' hc e]
  · have : k = s.length := by simp at h; omega
    rw [show pre (set.contains ·) s = s.length by omega]
set_option maxHeartbeats 2000000 in
theorem p_r6_shorten (s : Bytes) (hs : s.length ≤ 4294967281) : PC Tryz.V 81 [.str s] (.str (shorten s)) := by
  refine pc_of 3000 Tryz.func81 rfl Tryz.ntmps81 Tryz.results81 Tryz.call81 (by simp) (by simp [flat, flat.flatL]) (by simp [flat, flat.flatL]) ?_
  simp only [lawG, ↓Xn, ↓Xo, ↓Xg, ↓Xd, ↓Xe, ↓Xf, Tryz.VΓ, Tryz.Γs, Xp, Xi, Nat.reduceAdd, Nat.reduceSub, Nat.reduceLT, Nat.reduceLeDiff, reduceIte, reduceCtorEq, Nat.reduceEqDiff, implies_true, forall_const, lawV]
  refine ⟨by omega, loopV_mk (fun σ => ∃ k : Nat, k ≤ s.length ∧ lastSlash s ≤ k ∧ lk 0 σ.t = some (.str s) ∧ lk 3 σ.t = some (.int .i64 ((k : Int) - 1))) (fun σ => match lk 3 σ.t with | some (.int _ n) => (n + 1).toNat | _ => 0) ⟨s.length, by omega, lastSlash_le s, rfl, rfl⟩ ?_⟩
  rintro ⟨t, b⟩ ⟨k, hk, hc, h0, h3⟩
  simp only at h0 h3
  simp only [lawG, ↓Xn, ↓Xo, ↓Xg, ↓Xd, ↓Xe, ↓Xf, Tryz.VΓ, Tryz.Γs, Xp, Xi, Nat.reduceAdd, Nat.reduceSub, Nat.reduceLT, Nat.reduceLeDiff, reduceIte, reduceCtorEq, Nat.reduceEqDiff, implies_true, forall_const, lawV, h0, h3]
  refine ⟨fun h => ?_, fun h => ?_⟩
  · have hk0 : 0 < k := by simp at h; omega
    obtain ⟨k, rfl⟩ : ∃ m, k = m + 1 := ⟨k - 1, by omega⟩
    have e : (((k + 1 : Nat) : Int) - 1).toNat = k := by omega
    rw [e, byte_is (n := 47) (by omega) 47 rfl]
    refine ⟨by omega, fun q => ⟨by omega, ?_⟩, fun q => ⟨by omega, ⟨k, by omega, slash_miss (by omega) hc (by simpa using q), ?_⟩, by omega⟩⟩
    · rw [shorten_take, slash_hit (by omega) hc (by simpa using q)]; rfl
    · congr 1; omega
  · rw [shorten_take, show lastSlash s = 0 by simp at h; omega]
    simp
set_option maxHeartbeats 2000000 in
theorem p_r6_RemoveDots (s : Bytes) (hs : s.length ≤ 4294967281) : PC Tryz.V 53 [.str s] (.str (removeDots s)) := by
  refine pc_of 3000 Tryz.func53 rfl Tryz.ntmps53 Tryz.results53 Tryz.call53 (by simp) (by simp [flat, flat.flatL]) (by simp [flat, flat.flatL]) ?_
  simp only [lawG, ↓Xn, ↓Xo, ↓Xg, ↓Xd, ↓Xe, ↓Xf, Tryz.VΓ, Tryz.Γs, Xp, Xi, Nat.reduceAdd, Nat.reduceSub, Nat.reduceLT, Nat.reduceLeDiff, reduceIte, reduceCtorEq, Nat.reduceEqDiff, implies_true, forall_const, lawV]
  refine loopV_mk (fun σ => ∃ (p o : Bytes) (f : Nat), lk 3 σ.t = some (.str p) ∧ lk 4 σ.t = some (.str o) ∧ p.length + o.length ≤ s.length ∧ p.length ≤ f ∧ dotsGo f p o = removeDots s) (fun σ => match lk 3 σ.t with | some (.str p) => p.length | _ => 0) ⟨s, [], s.length, rfl, rfl, by simp, Nat.le_refl _, rfl⟩ ?_
  rintro ⟨t, b⟩ ⟨p, o, f, h3, h4, hlen, hf, hgo⟩
  simp only at h3 h4
  simp only [lawG, ↓Xn, ↓Xo, ↓Xg, ↓Xd, ↓Xe, ↓Xf, Tryz.VΓ, Tryz.Γs, Xp, Xi, Nat.reduceAdd, Nat.reduceSub, Nat.reduceLT, Nat.reduceLeDiff, reduceIte, reduceCtorEq, Nat.reduceEqDiff, implies_true, forall_const, lawV, h3, h4]
  have hend : p = [] → o = removeDots s := fun hp => by subst hp; cases f <;> simpa [dotsGo] using hgo
  refine ⟨fun hp => ?_, fun hp => ?_⟩
  rotate_left
  · rw [hend (by simpa using hp)]
  replace hp : p ≠ [] := by simpa using hp
  have hpl : 0 < p.length := List.length_pos_iff.2 hp
  obtain ⟨f, rfl⟩ : ∃ f', f = f' + 1 := ⟨f - 1, by omega⟩
  rw [dotsGo, if_neg hp] at hgo
  (refine callV_pc (p_r1_Prefix p [46, 46, 47]) ?_; simp only [lawG, ↓Xn, ↓Xo, ↓Xg, ↓Xd, ↓Xe, ↓Xf, Tryz.VΓ, Tryz.Γs, Xp, Xi, Nat.reduceAdd, Nat.reduceSub, Nat.reduceLT, Nat.reduceLeDiff, reduceIte, reduceCtorEq, Nat.reduceEqDiff, implies_true, forall_const, lawV, h3, h4])
  refine ⟨fun c1 => ?_, fun c1 => ?_⟩
  · have h := hp_len c1
    rw [show dotStep p o = (p.drop 3, o) from if_pos c1] at hgo
    exact ⟨⟨by omega, by simp at h; omega⟩, ⟨_, _, f, rfl, rfl, by simp; omega, by simp at h ⊢; omega, hgo⟩, by simp at h ⊢; omega⟩
  (refine callV_pc (p_r1_Prefix p [46, 47]) ?_; simp only [lawG, ↓Xn, ↓Xo, ↓Xg, ↓Xd, ↓Xe, ↓Xf, Tryz.VΓ, Tryz.Γs, Xp, Xi, Nat.reduceAdd, Nat.reduceSub, Nat.reduceLT, Nat.reduceLeDiff, reduceIte, reduceCtorEq, Nat.reduceEqDiff, implies_true, forall_const, lawV, h3, h4])
  refine ⟨fun c2 => ?_, fun c2 => ?_⟩
  · have h := hp_len c2
    rw [show dotStep p o = (p.drop 2, o) by unfold dotStep; rw [if_neg (hp_no c1)]; exact if_pos c2] at hgo
    exact ⟨⟨by omega, by simp at h; omega⟩, ⟨_, _, f, rfl, rfl, by simp; omega, by simp at h ⊢; omega, hgo⟩, by simp at h ⊢; omega⟩
  (refine callV_pc (p_r1_Prefix p [47, 46, 47]) ?_; simp only [lawG, ↓Xn, ↓Xo, ↓Xg, ↓Xd, ↓Xe, ↓Xf, Tryz.VΓ, Tryz.Γs, Xp, Xi, Nat.reduceAdd, Nat.reduceSub, Nat.reduceLT, Nat.reduceLeDiff, reduceIte, reduceCtorEq, Nat.reduceEqDiff, implies_true, forall_const, lawV, h3, h4])
  refine ⟨fun c3 => ?_, fun c3 => ?_⟩
  · have h := hp_len c3
    rw [show dotStep p o = (p.drop 2, o) by unfold dotStep; rw [if_neg (hp_no c1), if_neg (hp_no c2)]; exact if_pos c3] at hgo
    exact ⟨⟨by omega, by simp at h; omega⟩, ⟨_, _, f, rfl, rfl, by simp; omega, by simp at h ⊢; omega, hgo⟩, by simp at h ⊢; omega⟩
  refine ⟨fun c4 => ?_, fun c4 => ?_⟩
  · have h : p = [47, 46] := by simpa using c4
    subst h
    exact ⟨⟨_, _, f, rfl, rfl, by simp at hlen ⊢; omega, by simp at hf ⊢; omega, hgo⟩, by simp⟩
  have n4 : ¬ p = [47, 46] := by simpa using c4
  have hdot : dotStep p o = if [47, 46, 46, 47].isPrefixOf p then (p.drop 3, shorten o)
      else if p = [47, 46, 46] then ([47], shorten o)
      else if p = [46] ∨ p = [46, 46] then ([], o)
      else (p.drop (1 + pre (· == 47) (p.drop 1)), o ++ p.take (1 + pre (· == 47) (p.drop 1))) := by
    unfold dotStep; rw [if_neg (hp_no c1), if_neg (hp_no c2), if_neg (hp_no c3), if_neg n4]
  rw [hdot] at hgo
  have hsl : (shorten o).length ≤ o.length := by rw [shorten_take, List.length_take]; exact Nat.min_le_right _ _
  (refine callV_pc (p_r1_Prefix p [47, 46, 46, 47]) ?_; simp only [lawG, ↓Xn, ↓Xo, ↓Xg, ↓Xd, ↓Xe, ↓Xf, Tryz.VΓ, Tryz.Γs, Xp, Xi, Nat.reduceAdd, Nat.reduceSub, Nat.reduceLT, Nat.reduceLeDiff, reduceIte, reduceCtorEq, Nat.reduceEqDiff, implies_true, forall_const, lawV, h3, h4])
  refine ⟨fun c5 => ?_, fun c5 => ?_⟩
  · have h := hp_len c5
    rw [if_pos (show List.isPrefixOf [47, 46, 46, 47] p = true from c5)] at hgo
    refine ⟨⟨by omega, by simp at h; omega⟩, ?_⟩
    have pd := p_r6_shorten o (by omega)
    (refine callD_pc (pd) ?_; simp only [lawG, ↓Xn, ↓Xo, ↓Xg, ↓Xd, ↓Xe, ↓Xf, Tryz.VΓ, Tryz.Γs, Xp, Xi, Nat.reduceAdd, Nat.reduceSub, Nat.reduceLT, Nat.reduceLeDiff, reduceIte, reduceCtorEq, Nat.reduceEqDiff, implies_true, forall_const, lawV, h3, h4])
    exact ⟨(OkD_fast (by kernel_rfl)), ⟨_, _, f, rfl, rfl, by simp; omega, by simp at h ⊢; omega, hgo⟩, by simp at h ⊢; omega⟩
  rw [if_neg (hp_no c5)] at hgo
  refine ⟨fun c6 => ?_, fun c6 => ?_⟩
  · have h : p = [47, 46, 46] := by simpa using c6
    subst h
    have pd := p_r6_shorten o (by omega)
    (refine callV_pc (pd) ?_; simp only [lawG, ↓Xn, ↓Xo, ↓Xg, ↓Xd, ↓Xe, ↓Xf, Tryz.VΓ, Tryz.Γs, Xp, Xi, Nat.reduceAdd, Nat.reduceSub, Nat.reduceLT, Nat.reduceLeDiff, reduceIte, reduceCtorEq, Nat.reduceEqDiff, implies_true, forall_const, lawV, h3, h4])
    exact ⟨[47], shorten o, f, rfl, rfl, by simp at hlen ⊢; omega, by simp at hf ⊢; omega, hgo⟩
  rw [if_neg (show ¬ p = [47, 46, 46] by simpa using c6)] at hgo
  refine ⟨fun c7 => ⟨fun c8 => ?_, fun c8 => ?_⟩, fun c7 => ?_⟩
  · have h : p = [46, 46] := by simpa using c8
    subst h
    exact ⟨⟨_, _, f, rfl, rfl, by simp at hlen ⊢; omega, by simp, hgo⟩, by simp⟩
  · rw [if_neg (show ¬ (p = [46] ∨ p = [46, 46]) by rintro (h | h) <;> subst h <;> simp at c7 c8)] at hgo
    have px := p_r1_Index (p.drop 1) [47] (by simp; omega) (by simp)
    have hpe : pre (([47] : Bytes).contains ·) (p.drop 1) = pre (· == 47) (p.drop 1) := by
      congr 1
      funext c
      by_cases h : c = 47
      · subst h; rfl
      · simp [h]
    rw [hpe] at px
    have hq := pre_le (· == 47) (p.drop 1)
    simp only [List.length_drop] at hq
    generalize pre (· == 47) (p.drop 1) = q at px hgo hq
    refine ⟨by omega, ?_⟩
    (refine callV_pc (px) ?_; simp only [lawG, ↓Xn, ↓Xo, ↓Xg, ↓Xd, ↓Xe, ↓Xf, Tryz.VΓ, Tryz.Γs, Xp, Xi, Nat.reduceAdd, Nat.reduceSub, Nat.reduceLT, Nat.reduceLeDiff, reduceIte, reduceCtorEq, Nat.reduceEqDiff, implies_true, forall_const, lawV, h3, h4])
    have e : (1 + (q : Int)).toNat = 1 + q := by omega
    have el : (p.take (1 + q)).length = 1 + q := by rw [List.length_take]; omega
    rw [e]
    exact ⟨by omega, by omega, by omega, by rw [el]; omega, (OkD_fast (by kernel_rfl)), ⟨_, _, f, rfl, rfl, by simp; omega, by simp; omega, hgo⟩, by simp; omega⟩
  · have h : p = [46] := by simpa using c7
    subst h
    exact ⟨⟨_, _, f, rfl, rfl, by simp at hlen ⊢; omega, by simp, hgo⟩, by simp⟩
end Go.Proofs.YtjponbpdlioocaaGreatDoor
/- The walks of reference 06: scheme, Split, merged, Resolve. -/
set_option linter.all false
set_option maxRecDepth 20000
namespace Go.Proofs.YtjponbpdlioocaaGreatDoor
open Go Vc Go.RowKit Wf
set_option linter.unusedSimpArgs false
theorem p_r1_IsAlpha (c : UInt8) : PC Tryz.V 107 [.int .u8 c.toNat] (.bool (isAlpha c)) := by
  refine pc_of 3000 Tryz.func107 rfl Tryz.ntmps107 Tryz.results107 Tryz.call107 (by simp) (by simp [flat, flat.flatL]) (by simp [flat, flat.flatL]) ?_
  simp only [lawG, ↓Xn, ↓Xo, ↓Xg, ↓Xd, ↓Xe, ↓Xf, Tryz.VΓ, Tryz.Γs, Xp, Xi, Nat.reduceAdd, Nat.reduceSub, Nat.reduceLT, Nat.reduceLeDiff, reduceIte, reduceCtorEq, Nat.reduceEqDiff, implies_true, forall_const, lawV]
  unfold isAlpha
  by_cases h1 : 65 ≤ c.toNat <;> by_cases h2 : c.toNat ≤ 90 <;> by_cases h3 : 97 ≤ c.toNat <;> by_cases h4 : c.toNat ≤ 122 <;> simp [h1, h2, h3, h4] <;> omega
theorem p_r1_IsDigit (c : UInt8) : PC Tryz.V 108 [.int .u8 c.toNat] (.bool (isDigit c)) := by
  refine pc_of 3000 Tryz.func108 rfl Tryz.ntmps108 Tryz.results108 Tryz.call108 (by simp) (by simp [flat, flat.flatL]) (by simp [flat, flat.flatL]) ?_
  simp only [lawG, ↓Xn, ↓Xo, ↓Xg, ↓Xd, ↓Xe, ↓Xf, Tryz.VΓ, Tryz.Γs, Xp, Xi, Nat.reduceAdd, Nat.reduceSub, Nat.reduceLT, Nat.reduceLeDiff, reduceIte, reduceCtorEq, Nat.reduceEqDiff, implies_true, forall_const, lawV]
  unfold isDigit
  by_cases h1 : 48 ≤ c.toNat <;> by_cases h2 : c.toNat ≤ 57 <;> simp [h1, h2] <;> omega
theorem scheme_step {s : Bytes} {k : Nat} (hk : k < s.length) (hr : k = 0 ∨ schemeOk (s.take k) = true) (hc : isAlpha s[k] = true ∨ (0 < k ∧ schemeC s[k] = true)) : k + 1 = 0 ∨ schemeOk (s.take (k + 1)) = true := by
  right
  rcases Nat.eq_zero_or_pos k with h0 | h0
  · subst h0
    rcases hc with hc | ⟨hc, -⟩
    · exact scheme_one hk hc
    · omega
  · refine scheme_snoc h0 hk (hr.resolve_left (by omega)) ?_
    rcases hc with hc | ⟨-, hc⟩
    · simp [schemeC, hc]
    · exact hc
theorem not_t {b : Bool} (h : (!b) = true) : b = false := by cases b <;> simp at h ⊢
theorem not_f {b : Bool} (h : (!b) = false) : b = true := by cases b <;> simp at h ⊢
set_option maxHeartbeats 2000000 in
theorem p_r6_scheme (s : Bytes) (hs : s.length ≤ 4294967281) : PC Tryz.V 77 [.str s] (.bool (schemeOk s)) := by
  refine pc_of 3000 Tryz.func77 rfl Tryz.ntmps77 Tryz.results77 Tryz.call77 (by simp) (by simp [flat, flat.flatL]) (by simp [flat, flat.flatL]) ?_
  simp only [lawG, ↓Xn, ↓Xo, ↓Xg, ↓Xd, ↓Xe, ↓Xf, Tryz.VΓ, Tryz.Γs, Xp, Xi, Nat.reduceAdd, Nat.reduceSub, Nat.reduceLT, Nat.reduceLeDiff, reduceIte, reduceCtorEq, Nat.reduceEqDiff, implies_true, forall_const, lawV]
  refine loopV_mk (fun σ => ∃ k : Nat, k ≤ s.length ∧ (k = 0 ∨ schemeOk (s.take k) = true) ∧ lk 0 σ.t = some (.str s) ∧ lk 3 σ.t = some (.int .i64 k)) (fun σ => s.length - lkI 3 σ) ⟨0, by omega, .inl rfl, rfl, rfl⟩ ?_
  rintro ⟨t, b⟩ ⟨k, hk, hr, h0, h3⟩
  simp only at h0 h3
  rw [lkI_eq h3]
  simp only [lawG, ↓Xn, ↓Xo, ↓Xg, ↓Xd, ↓Xe, ↓Xf, Tryz.VΓ, Tryz.Γs, Xp, Xi, Nat.reduceAdd, Nat.reduceSub, Nat.reduceLT, Nat.reduceLeDiff, reduceIte, reduceCtorEq, Nat.reduceEqDiff, implies_true, forall_const, lawV, h0, h3]
  refine ⟨fun h => ⟨by simpa using h, ?_⟩, fun h => ?_⟩
  · have hk' : k < s.length := by simpa using h
    rw [show s.getD k 0 = s[k] by simp [List.getD, hk']]
    (refine callV_pc (p_r1_IsAlpha s[k]) ?_; simp only [lawG, ↓Xn, ↓Xo, ↓Xg, ↓Xd, ↓Xe, ↓Xf, Tryz.VΓ, Tryz.Γs, Xp, Xi, Nat.reduceAdd, Nat.reduceSub, Nat.reduceLT, Nat.reduceLeDiff, reduceIte, reduceCtorEq, Nat.reduceEqDiff, implies_true, forall_const, lawV, h0, h3])
    refine ⟨fun ca => ⟨fun c0 => ?_, fun c0 => ?_⟩, fun ca => ⟨by omega, ⟨k + 1, by omega, scheme_step hk' hr (.inl (not_f ca)), by simp⟩, by rw [lkI_eq rfl]; omega⟩⟩
    · rw [show s.getD k 0 = s[k] by simp [List.getD, hk']]
      refine ⟨by omega, ?_⟩
      (refine callV_pc (p_r1_IsDigit s[k]) ?_; simp only [lawG, ↓Xn, ↓Xo, ↓Xg, ↓Xd, ↓Xe, ↓Xf, Tryz.VΓ, Tryz.Γs, Xp, Xi, Nat.reduceAdd, Nat.reduceSub, Nat.reduceLT, Nat.reduceLeDiff, reduceIte, reduceCtorEq, Nat.reduceEqDiff, implies_true, forall_const, lawV, h0, h3])
      refine ⟨fun cd => ⟨by omega, ?_⟩, fun cd => ?_⟩
      · rw [show s.getD k 0 = s[k] by simp [List.getD, hk']]
        (refine callV_pc (p_r1_In s[k] [43, 45, 46] (by simp)) ?_; simp only [lawG, ↓Xn, ↓Xo, ↓Xg, ↓Xd, ↓Xe, ↓Xf, Tryz.VΓ, Tryz.Γs, Xp, Xi, Nat.reduceAdd, Nat.reduceSub, Nat.reduceLT, Nat.reduceLeDiff, reduceIte, reduceCtorEq, Nat.reduceEqDiff, implies_true, forall_const, lawV, h0, h3])
        refine ⟨fun ci => ?_, fun ci => ⟨by omega, ⟨k + 1, by omega, scheme_step hk' hr (.inr ⟨by simp at c0; omega, by unfold schemeC; rw [not_f ci]; simp⟩), by simp⟩, by rw [lkI_eq rfl]; omega⟩⟩
        rw [scheme_no (by simp at c0; omega) hk' (by unfold schemeC; rw [not_t ca, not_t cd, not_t ci]; rfl)]
      · exact ⟨by omega, ⟨k + 1, by omega, scheme_step hk' hr (.inr ⟨by simp at c0; omega, by unfold schemeC; rw [not_f cd]; simp⟩), by simp⟩, by rw [lkI_eq rfl]; omega⟩
    · have hk0 : k = 0 := by simp at c0; omega
      subst hk0
      rw [scheme_one_no hk' (by simpa using ca)]
  · rcases hr with hr | hr
    · have : s = [] := List.eq_nil_of_length_eq_zero (by simp at h; omega)
      subst this; rfl
    · rw [List.take_of_length_le (by simp at h; omega)] at hr
      rw [hr]
      cases s with
      | nil => simp [schemeOk] at hr
      | cons => rfl
def refMerge (b r : Uri) : Bytes := if b.hasAuthority ∧ b.path = [] then 47 :: r.path else b.path.take (lastSlash b.path) ++ r.path
end Go.Proofs.YtjponbpdlioocaaGreatDoor
