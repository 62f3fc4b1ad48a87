/- Texts of this claim, laid together: PlainQ, RedirP, Ascii, Bytes, Ascii2, Number, IdxAny, Body, Body2, Body3, RefBody, Law19, Lib, Host, Host2, Own, RefHost, RefHost2, HostPC, VcB, Row, Bld, Bld2, CutW, Law19c. -/
import Derived.Test.YtjponbpdlioocaaDoorProg
import Derived.Lib.ConvBytes
import Derived.Laws.IdiomStrings
import Derived.Lib.OthersKept
import Derived.Deep.QuietTactic
import Derived.BigQuiet
import Derived.Deep.RegionWith
import Derived.StillTailTactics
import Derived.Lib.QuietBelow
import Derived.Lib.FrozenHead
import Derived.Test.YtjponbpdlioocaaDoorV2
/- Plain laws: hosts, URIs, canonical strings, URLs. -/
set_option linter.all false
namespace Wf
open Go Go.RowKit
theorem lowerC_all (c : UInt8) : lowerC (lowerC c) = lowerC c ∧ ldh (lowerC c) = ldh c ∧ isDigit (lowerC c) = isDigit c ∧ (lowerC c == 45) = (c == 45) ∧ (lowerC c == 46) = (c == 46) ∧ (lowerC c == 58) = (c == 58) ∧ (isDigit c = true → lowerC c = c) := by
  have h := all256 (p := fun c => decide (lowerC (lowerC c) = lowerC c ∧ ldh (lowerC c) = ldh c ∧ isDigit (lowerC c) = isDigit c ∧ (lowerC c == 45) = (c == 45) ∧ (lowerC c == 46) = (c == 46) ∧ (lowerC c == 58) = (c == 58) ∧ (isDigit c = true → lowerC c = c))) (by decide +kernel) c
  exact of_decide_eq_true h
theorem lower_lower (s : Bytes) : lower (lower s) = lower s := by
  unfold lower; rw [List.map_map]; apply List.map_congr_left; intro c _; exact (lowerC_all c).1
theorem lower_length (s : Bytes) : (lower s).length = s.length := by unfold lower; simp
theorem lower_isEmpty (s : Bytes) : (lower s).isEmpty = s.isEmpty := by unfold lower; cases s <;> rfl
theorem lower_all {p : UInt8 → Bool} (hp : ∀ c, p (lowerC c) = p c) (s : Bytes) : (lower s).all p = s.all p := by
  unfold lower; rw [List.all_map]; congr 1; funext c; exact hp c
theorem lower_digits {s : Bytes} (h : s.all isDigit = true) : lower s = s := by
  unfold lower
  rw [List.all_eq_true] at h
  conv => rhs; rw [← List.map_id s]
  apply List.map_congr_left; intro c hc; exact (lowerC_all c).2.2.2.2.2.2 (h c hc)
theorem labelOk_lower (s : Bytes) : labelOk (lower s) = labelOk s := by
  unfold labelOk
  rw [lower_isEmpty, lower_length, lower_all (fun c => (lowerC_all c).2.1)]
  have h1 : ((lower s).head? == some 45) = (s.head? == some 45) := by
    unfold lower; rw [List.head?_map]; cases s.head? with
    | none => rfl
    | some c => simpa using (lowerC_all c).2.2.2.1
  have h2 : ((lower s).getLast? == some 45) = (s.getLast? == some 45) := by
    unfold lower; rw [List.getLast?_map]; cases s.getLast? with
    | none => rfl
    | some c => simpa using (lowerC_all c).2.2.2.1
  rw [h1, h2]
theorem digitsOk_lower (s : Bytes) : digitsOk (lower s) = digitsOk s := by
  unfold digitsOk; rw [lower_isEmpty, lower_all (fun c => (lowerC_all c).2.2.1)]
theorem splitC_lower (s : Bytes) : splitC 46 (lower s) = (splitC 46 s).map lower := by
  induction s with
  | nil => rfl
  | cons x r ih =>
    have hx := (lowerC_all x).2.2.2.2.1
    rw [show lower (x :: r) = lowerC x :: lower r from rfl, splitC, splitC, hx, ih]
    cases x == 46
    · simp only [Bool.false_eq_true, if_false]
      cases splitC 46 r <;> rfl
    · rfl
theorem numStrict_lower (m : Nat) (s : Bytes) : numStrict m (lower s) = numStrict m s := by
  cases h : s.all isDigit
  · have hd : digitsOk s = false := by unfold digitsOk; simp [h]
    have hl : (lower s).all isDigit = false := by rw [lower_all (fun c => (lowerC_all c).2.2.1), h]
    unfold numStrict numParse
    rw [digitsOk_lower, hd, hl, h, lower_isEmpty]
    simp
  · rw [lower_digits h]
theorem octetOk_lower (s : Bytes) : octetOk (lower s) = octetOk s := by unfold octetOk; rw [numStrict_lower]
theorem ipv4_lower (s : Bytes) : ipv4 (lower s) = ipv4 s := by
  unfold ipv4
  rw [splitC_lower, List.length_map, List.all_map]
  congr 2; funext x; exact octetOk_lower x
theorem nameL_lower (l : List Bytes) : nameL (l.map lower) = nameL l := by
  induction l with
  | nil => rfl
  | cons x r ih =>
    cases r with
    | nil => simp only [List.map, nameL, labelOk_lower, digitsOk_lower]
    | cons y r => simp only [List.map_cons, nameL, labelOk_lower] at ih ⊢; rw [ih]
theorem nameOk_lower (s : Bytes) : nameOk (lower s) = nameOk s := by unfold nameOk; rw [splitC_lower, nameL_lower]
theorem hostM_ok {s x : Bytes} (h : hostM s = (x, 0)) : x = lower s ∧ x.length ≤ 253 ∧ hostM x = (x, 0) := by
  unfold hostM at h
  cases h1 : s.isEmpty
  · rw [h1] at h
    by_cases h2 : 253 < s.length
    · simp [h2] at h
    · cases h3 : (!ipv4 s && !nameOk s)
      · simp [h2, h3] at h
        subst h
        refine ⟨rfl, by rw [lower_length]; omega, ?_⟩
        unfold hostM
        rw [lower_isEmpty, lower_length, ipv4_lower, nameOk_lower, h1, h3, lower_lower]
        simp [h2]
      · simp [h2, h3] at h
  · rw [h1] at h; simp at h
theorem pre_lower (s : Bytes) : pre (· == 58) (lower s) = pre (· == 58) s := by
  induction s with
  | nil => rfl
  | cons x r ih =>
    rw [show lower (x :: r) = lowerC x :: lower r from rfl, pre_cons, pre_cons, ih, (lowerC_all x).2.2.2.2.2.1]
theorem pre_take (p : UInt8 → Bool) (s : Bytes) : pre p (s.take (pre p s)) = (s.take (pre p s)).length := by
  induction s with
  | nil => rfl
  | cons x r ih =>
    rw [pre_cons]
    cases hx : p x
    · simp [pre_cons, hx]
      have := ih; simp at this; omega
    · rfl
theorem cutC_fst (c : UInt8) (s : Bytes) : pre (· == c) (cutC c s).1 = (cutC c s).1.length := by
  unfold cutC
  by_cases h : pre (· == c) s < s.length
  · rw [if_pos h]; exact pre_take _ s
  · rw [if_neg h]; have := pre_le (· == c) s; show pre (· == c) s = s.length; omega
theorem cutC_none {c : UInt8} {s : Bytes} (h : pre (· == c) s = s.length) : cutC c s = (s, [], false) := by
  unfold cutC; rw [if_neg (by omega)]
theorem pre_app {p : UInt8 → Bool} {x : Bytes} (h : pre p x = x.length) (c : UInt8) (r : Bytes) (hc : p c = true) : pre p (x ++ c :: r) = x.length := by
  induction x with
  | nil => simp [pre_cons, hc]
  | cons y x ih =>
    rw [pre_cons] at h
    cases hy : p y
    · rw [hy] at h; simp at h
      simp [pre_cons, hy, ih h]
    · rw [hy] at h; simp at h
theorem cutC_some {c : UInt8} {x : Bytes} (h : pre (· == c) x = x.length) (r : Bytes) : cutC c (x ++ c :: r) = (x, r, true) := by
  unfold cutC
  rw [pre_app h c r (by simp), if_pos (by simp)]
  simp
theorem hexVal_dig {n : Nat} (h : n < 10) : hexVal (dig n) = n ∧ isDigit (dig n) = true ∧ (dig n = 48 → n = 0) := by
  have h := (by decide +kernel : ∀ n, n < 10 → hexVal (dig n) = n ∧ isDigit (dig n) = true ∧ (dig n = 48 → n = 0)) n h
  exact h
theorem numGo_app {b m : Nat} (r : Bytes) : ∀ (l : Bytes) {a v : Nat}, numGo b m a l = (v, 0) → numGo b m a (l ++ r) = numGo b m v r := by
  intro l
  induction l with
  | nil => intro a v h; simp [numGo] at h; rw [h]; rfl
  | cons c l ih =>
    intro a v h
    rw [numGo] at h
    rw [List.cons_append, numGo]
    by_cases hm : m < a * b + hexVal c
    · rw [if_pos hm] at h; simp at h
    · rw [if_neg hm] at h
      rw [if_neg hm]
      exact ih h
theorem decS_back (m : Nat) : ∀ (k n : Nat), n ≤ k → n ≤ m → numGo 10 m 0 (decS n) = (n, 0) ∧ (decS n).all isDigit = true ∧ (0 < n → (decS n).head? ≠ some 48) := by
  intro k
  induction k with
  | zero =>
    intro n h _
    obtain rfl : n = 0 := by omega
    rw [decS_small (by omega)]
    exact ⟨by simp [numGo, dig, hexVal], by decide, fun h => by omega⟩
  | succ k ih =>
    intro n h hm
    by_cases hn : n < 10
    · rw [decS_small hn]
      obtain ⟨h1, h2, h3⟩ := hexVal_dig hn
      refine ⟨?_, by simp [h2], ?_⟩
      · rw [numGo, h1, if_neg (by omega), numGo]; simp
      · intro h0 he; simp at he; exact absurd (h3 he) (by omega)
    · rw [decS_big hn]
      obtain ⟨h1, h2, h3⟩ := ih (n / 10) (by omega) (by omega)
      obtain ⟨g1, g2, g3⟩ := hexVal_dig (show n % 10 < 10 by omega)
      refine ⟨?_, by rw [List.all_append, h2]; simp [g2], ?_⟩
      · rw [numGo_app _ _ h1, numGo, g1, if_neg (by omega), numGo]
        congr 1; omega
      · intro _
        have := decS_pos (n / 10)
        rw [List.head?_append]
        have h3 := h3 (by omega)
        cases hd : (decS (n / 10)).head? with
        | none => rw [List.head?_eq_none_iff] at hd; rw [hd] at this; simp at this
        | some c => rw [hd] at h3; simpa using h3
theorem portM_dec {n : Nat} (h0 : 0 < n) (h : n ≤ 65535) : portM (decS n) = ((n : Int), 0) := by
  obtain ⟨h1, h2, h3⟩ := decS_back 65535 n n (by omega) h
  have hp := decS_pos n
  have hne : (decS n).isEmpty = false := by cases hd : decS n <;> simp [hd] at hp ⊢
  have hs : numStrict 65535 (decS n) = (n, 0) := by
    unfold numStrict numParse
    rw [if_neg (fun hh => h3 h0 hh.2.2), hne, h2, h1]
    rfl
  unfold portM
  rw [hs]
  have : ¬ n = 0 := by omega
  simp [this]
theorem portM_ok {s : Bytes} {p : Int} (h : portM s = (p, 0)) : 0 < p ∧ p ≤ 65535 := by
  have hle := numStrict_le 65535 s
  unfold portM at h
  split at h
  · simp at h
  · rename_i hc
    simp at h
    subst h
    omega
theorem hostPort_back {s x : Bytes} {p : Int} (h : hostPort s = ((x, p), 0)) : hostPort (hostText x p) = ((x, p), 0) ∧ hostM x = (x, 0) ∧ p ≠ 443 ∧ x.length ≤ 253 ∧ 0 ≤ p ∧ p ≤ 65535 := by
  have hf := cutC_fst 58 s
  unfold hostPort at h
  generalize cutC 58 s = C at hf h
  obtain ⟨first, rest, colon⟩ := C
  simp only at hf h
  generalize hH : hostM first = H at h
  obtain ⟨y, e⟩ := H
  by_cases he : e = 0
  · subst he
    obtain ⟨hy, hlen, hback⟩ := hostM_ok hH
    have hpy : pre (· == 58) y = y.length := by rw [hy, pre_lower, lower_length]; exact hf
    have plain : hostPort (hostText y 0) = ((y, 0), 0) := by
      unfold hostText hostPort
      rw [if_pos rfl, cutC_none hpy, hback]; rfl
    cases colon
    · unfold hostPortOf at h
      simp at h
      obtain ⟨rfl, rfl⟩ := h
      exact ⟨plain, hback, by omega, hlen, by omega, by omega⟩
    · generalize hP : portM rest = P at h
      obtain ⟨q, f⟩ := P
      unfold hostPortOf at h
      by_cases hf0 : f = 0
      · subst hf0
        simp at h
        obtain ⟨rfl, h⟩ := h
        obtain ⟨q0, q1⟩ := portM_ok hP
        by_cases h443 : q = 443
        · rw [if_pos h443] at h
          subst h
          exact ⟨plain, hback, by omega, hlen, by omega, by omega⟩
        · rw [if_neg h443] at h
          subst h
          refine ⟨?_, hback, h443, hlen, by omega, q1⟩
          obtain ⟨n, rfl⟩ : ∃ n : Nat, q = n := ⟨q.toNat, by omega⟩
          unfold hostText hostPort
          rw [if_neg (by omega), if_neg (by omega)]
          have e : y ++ [58] ++ decS (n : Int).natAbs = y ++ 58 :: decS n := by simp
          rw [e, cutC_some hpy]
          simp only [hback, portM_dec (show 0 < n by omega) (show n ≤ 65535 by omega)]
          unfold hostPortOf
          simp [h443]
      · simp [hf0] at h
  · unfold hostPortOf at h
    simp [he] at h
def lab (n : Nat) : Bytes := List.replicate n 97
def labs (n : Nat) : Nat → Bytes
  | 0 => lab n
  | k + 1 => labs n k ++ [46] ++ lab n
end Wf
namespace Wf
open Go Go.RowKit
/-! paths that begin with a slash -/
def absP (l : List Bytes) : Bytes := l.flatMap (47 :: ·)
def goodSeg (s : Bytes) : Prop := (47 : UInt8) ∉ s ∧ s ≠ [46] ∧ s ≠ [46, 46]
end Wf
namespace Wf
open Go Go.RowKit
def Can (also s : Bytes) : Prop := ∃ l : List PU, s = l.flatMap PU.str ∧ ∀ x ∈ l, canU also x
theorem can_nil (also : Bytes) : Can also [] := ⟨[], rfl, by simp⟩
theorem can_app {also a b : Bytes} (ha : Can also a) (hb : Can also b) : Can also (a ++ b) := by
  obtain ⟨l, rfl, h1⟩ := ha
  obtain ⟨m, rfl, h2⟩ := hb
  exact ⟨l ++ m, by simp, fun x hx => by
    rcases List.mem_append.1 hx with h | h
    · exact h1 x h
    · exact h2 x h⟩
theorem can_one {also : Bytes} {c : UInt8} (h : keepB also c = true) (hc : c ≠ 37) : Can also [c] := ⟨[.lit c], rfl, fun x hx => by
  obtain rfl := List.mem_singleton.1 hx; exact ⟨h, hc⟩⟩
theorem can_split {also : Bytes} {c : UInt8} (hc : c ≠ 37) (hx : isHex c = false) : ∀ (l : List PU) (a b : Bytes), (∀ x ∈ l, canU also x) → a ++ c :: b = l.flatMap PU.str → Can also a ∧ Can also (c :: b)
  | [], a, b, _, e => by simp at e
  | .lit d :: l, [], b, h, e => ⟨can_nil _, _, e, h⟩
  | .lit d :: l, y :: a, b, h, e => by
    rw [List.flatMap_cons] at e
    simp only [PU.str, List.singleton_append, List.cons_append, List.cons.injEq] at e
    obtain ⟨rfl, e⟩ := e
    obtain ⟨h1, h2⟩ := can_split hc hx l a b (fun y hy => h y (List.mem_cons_of_mem _ hy)) e
    have hy := h _ List.mem_cons_self
    exact ⟨can_app (a := [y]) (can_one hy.1 hy.2) h1, h2⟩
  | .hex u v :: l, [], b, h, e => by
    rw [List.flatMap_cons] at e
    simp only [PU.str, List.nil_append, List.cons_append, List.cons.injEq] at e
    exact absurd e.1 hc
  | .hex u v :: l, [x], b, h, e => by
    rw [List.flatMap_cons] at e
    simp only [PU.str, List.nil_append, List.cons_append, List.cons.injEq] at e
    have := (h _ List.mem_cons_self).2.2.2.1
    rw [← e.2.1, hx] at this; cases this
  | .hex u v :: l, [x, y], b, h, e => by
    rw [List.flatMap_cons] at e
    simp only [PU.str, List.nil_append, List.cons_append, List.cons.injEq] at e
    have := (h _ List.mem_cons_self).2.2.2.2
    rw [← e.2.2.1, hx] at this; cases this
  | .hex u v :: l, x :: y :: z :: a, b, h, e => by
    rw [List.flatMap_cons] at e
    simp only [PU.str, List.nil_append, List.cons_append, List.cons.injEq] at e
    obtain ⟨rfl, rfl, rfl, e⟩ := e
    obtain ⟨h1, h2⟩ := can_split hc hx l a b (fun y hy => h y (List.mem_cons_of_mem _ hy)) e
    refine ⟨can_app (a := [37, y, z]) ⟨[.hex y z], rfl, fun x hx => ?_⟩ h1, h2⟩
    obtain rfl := List.mem_singleton.1 hx
    exact h _ List.mem_cons_self
  | .bad :: l, a, b, h, e => (h _ List.mem_cons_self).elim
theorem Can.split {also a b : Bytes} {c : UInt8} (hc : c ≠ 37) (hx : isHex c = false) (h : Can also (a ++ c :: b)) : Can also a ∧ Can also (c :: b) := by
  obtain ⟨l, e, h1⟩ := h
  exact can_split hc hx l a b h1 e
theorem can_bytes {also s : Bytes} (h : Can also s) : ∀ c ∈ s, keepB also c = true ∨ c = 37 ∨ isHex c = true := by
  obtain ⟨l, rfl, h1⟩ := h
  intro c hc
  obtain ⟨x, hx, hcx⟩ := List.mem_flatMap.1 hc
  have hk := h1 x hx
  cases x with
  | lit d =>
    obtain rfl := List.mem_singleton.1 hcx
    exact .inl hk.1
  | hex a b =>
    simp only [PU.str, List.mem_cons, List.not_mem_nil, or_false] at hcx
    rcases hcx with rfl | rfl | rfl
    · exact .inr (.inl rfl)
    · exact .inr (.inr hk.2.2.2.1)
    · exact .inr (.inr hk.2.2.2.2)
  | bad => exact hk.elim
theorem can_norm {also s : Bytes} (h : Can also s) (hl : s.length ≤ 16384) : pctNorm also s = (s, 0) := by
  obtain ⟨l, rfl, h1⟩ := h
  unfold pctNorm
  rw [if_neg (by omega), units_can also l h1, normU_can also l h1]
/-! hosts -/
theorem mem_splitC (d : UInt8) : ∀ (n : Nat) (s : Bytes), s.length ≤ n → ∀ c ∈ s, c = d ∨ ∃ x ∈ splitC d s, c ∈ x
  | 0, s, h, c, hc => by
    obtain rfl := List.length_eq_zero_iff.1 (Nat.le_zero.1 h)
    simp at hc
  | n + 1, s, h, c, hc => by
    by_cases hp : pre (· == d) s < s.length
    · rw [splitC_hit hp]
      have e : s = s.take (pre (· == d) s) ++ d :: s.drop (pre (· == d) s + 1) := by
        have := pre_at hp
        simp only [beq_iff_eq] at this
        conv => lhs; rw [← List.take_append_drop (pre (· == d) s) s, List.drop_eq_getElem_cons hp, this]
      rw [e] at hc
      rcases List.mem_append.1 hc with h1 | h1
      · exact .inr ⟨_, List.mem_cons_self, h1⟩
      · rcases List.mem_cons.1 h1 with h2 | h2
        · exact .inl h2
        · rcases mem_splitC d n _ (by simp; omega) c h2 with h3 | ⟨x, h3, h4⟩
          · exact .inl h3
          · exact .inr ⟨x, List.mem_cons_of_mem _ h3, h4⟩
    · rw [splitC_miss hp]
      exact .inr ⟨s, List.mem_singleton.2 rfl, hc⟩
theorem octet_digits {s : Bytes} (h : octetOk s = true) : s.all isDigit = true := by
  unfold octetOk numStrict at h
  split at h
  · simp at h
  · have := (numParse_err_dig 255 s).1 (.inl (by simpa using h))
    unfold digitsOk at this
    simp only [Bool.and_eq_true] at this
    exact this.2
theorem nameL_mem : ∀ (l : List Bytes), nameL l = true → ∀ x ∈ l, labelOk x = true
  | [], _, x, h => by simp at h
  | [y], h, x, hx => by
    simp only [nameL, Bool.and_eq_true] at h
    obtain rfl := List.mem_singleton.1 hx
    exact h.1
  | y :: z :: r, h, x, hx => by
    simp only [nameL, Bool.and_eq_true] at h
    rcases List.mem_cons.1 hx with rfl | hx
    · exact h.1
    · exact nameL_mem (z :: r) h.2 x hx
theorem hostM_bytes {s x : Bytes} (h : hostM s = (x, 0)) : ∀ c ∈ x, ldh c = true ∨ c = 46 := by
  have hx := (hostM_ok h).2.2
  clear h
  unfold hostM at hx
  split at hx
  · simp at hx
  split at hx
  · simp at hx
  split at hx
  · simp at hx
  · rename_i h3
    intro c hc
    rcases mem_splitC 46 _ x (Nat.le_refl _) c hc with h4 | ⟨y, h4, h5⟩
    · exact .inr h4
    · left
      cases hi : ipv4 x
      · have hn : nameOk x = true := by simpa [hi] using h3
        have := nameL_mem _ hn y h4
        unfold labelOk at this
        simp only [Bool.and_eq_true] at this
        exact List.all_eq_true.1 this.2 c h5
      · unfold ipv4 at hi
        simp only [Bool.and_eq_true] at hi
        have := octet_digits (List.all_eq_true.1 hi.2 y h4)
        have := List.all_eq_true.1 this c h5
        unfold ldh; rw [this]; simp
theorem decS_digits (n : Nat) : ∀ c ∈ decS n, isDigit c = true := fun c hc => List.all_eq_true.1 ((decS_back n n n (Nat.le_refl _) (Nat.le_refl _)).2.1) c hc
theorem hostPort_bytes {s x : Bytes} {p : Int} (h : hostPort s = ((x, p), 0)) : ∀ c ∈ hostText x p, ldh c = true ∨ c = 46 ∨ c = 58 := by
  obtain ⟨-, h1, -, -, h2, -⟩ := hostPort_back h
  have hb := hostM_bytes h1
  unfold hostText
  split
  · intro c hc; exact (hb c hc).imp id .inl
  split
  · omega
  · intro c hc
    rcases List.mem_append.1 hc with hc | hc
    · rcases List.mem_append.1 hc with hc | hc
      · exact (hb c hc).imp id .inl
      · exact .inr (.inr (List.mem_singleton.1 hc))
    · left; unfold ldh; rw [decS_digits _ c hc]; simp
theorem pre_none {c : UInt8} {l : Bytes} (h : c ∉ l) : pre (· == c) l = l.length := by
  induction l with
  | nil => rfl
  | cons x l ih =>
    simp only [List.mem_cons, not_or] at h
    rw [pre_cons, if_neg (by simpa using fun e => h.1 e.symm), ih h.2]; rfl
end Wf
namespace Wf
open Go Go.RowKit
theorem split_join (u : Uri) (h1 : u.scheme = https) (h2 : u.hasScheme = true) (h3 : u.hasAuthority = true) (ha : ∀ c ∈ u.authority, c ≠ 47 ∧ c ≠ 63 ∧ c ≠ 35) (hp : ∃ r, u.path = 47 :: r) (hpb : ∀ c ∈ u.path, c ≠ 63 ∧ c ≠ 35) (hq : (35 : UInt8) ∉ u.query) (hq0 : u.hasQuery = false → u.query = []) (hf0 : u.hasFrag = false → u.fragment = []) (hl : (uriJoin u).length ≤ 16384) :
    uriSplit (uriJoin u) = (u, 0) := by
  obtain ⟨sc, au, pa, qu, fr, b1, b2, b3, b4⟩ := u
  simp only at h1 h2 h3 ha hp hpb hq hq0 hf0
  subst h1 h2 h3
  have c1 : cutC 35 (uriJoin ⟨https, au, pa, qu, fr, true, true, b3, b4⟩) = (https ++ [58] ++ ([47, 47] ++ au) ++ pa ++ (if b3 then [63] ++ qu else []), fr, b4) := by
    have hn : (35 : UInt8) ∉ https ++ [58] ++ ([47, 47] ++ au) ++ pa ++ (if b3 then [63] ++ qu else []) := by
      simp only [List.mem_append, not_or]
      refine ⟨⟨⟨⟨by decide, by decide⟩, by decide, fun h => (ha _ h).2.2 rfl⟩, fun h => (hpb _ h).2 rfl⟩, ?_⟩
      split
      · simp only [List.mem_append, not_or]; exact ⟨by decide, hq⟩
      · simp
    cases b4
    · have : uriJoin ⟨https, au, pa, qu, fr, true, true, b3, false⟩ = https ++ [58] ++ ([47, 47] ++ au) ++ pa ++ (if b3 then [63] ++ qu else []) := by simp [uriJoin]
      rw [this, cutC_none (pre_none hn), hf0 rfl]
    · have : uriJoin ⟨https, au, pa, qu, fr, true, true, b3, true⟩ = (https ++ [58] ++ ([47, 47] ++ au) ++ pa ++ (if b3 then [63] ++ qu else [])) ++ 35 :: fr := by simp [uriJoin]
      rw [this, cutC_some (pre_none hn)]
  have c2 : cutC 63 (https ++ [58] ++ ([47, 47] ++ au) ++ pa ++ (if b3 then [63] ++ qu else [])) = (https ++ [58] ++ ([47, 47] ++ au) ++ pa, qu, b3) := by
    have hn : (63 : UInt8) ∉ https ++ [58] ++ ([47, 47] ++ au) ++ pa := by
      simp only [List.mem_append, not_or]
      exact ⟨⟨⟨by decide, by decide⟩, by decide, fun h => (ha _ h).2.1 rfl⟩, fun h => (hpb _ h).1 rfl⟩
    cases b3
    · rw [if_neg (by simp), List.append_nil, cutC_none (pre_none hn), hq0 rfl]
    · rw [if_pos rfl, List.singleton_append, cutC_some (pre_none hn)]
  unfold uriSplit
  rw [if_neg (by omega), c1]
  simp only
  rw [c2]
  simp only
  obtain ⟨r, rfl⟩ := hp
  have e : https ++ [58] ++ ([47, 47] ++ au) ++ 47 :: r = 104 :: 116 :: 116 :: 112 :: 115 :: 58 :: 47 :: 47 :: (au ++ 47 :: r) := by simp [https]
  have p5 : pre colonSlash (104 :: 116 :: 116 :: 112 :: 115 :: 58 :: 47 :: 47 :: (au ++ 47 :: r)) = 5 := by
    simp only [pre_cons]
    rw [if_neg (by decide), if_neg (by decide), if_neg (by decide), if_neg (by decide), if_neg (by decide), if_pos (by decide)]
  have pa : pre (· == 47) (au ++ 47 :: r) = au.length := pre_app (pre_none (fun h => (ha _ h).1 rfl)) 47 r (by decide)
  rw [e]
  unfold splitRest
  rw [p5]
  simp only [List.drop_succ_cons, List.drop_zero, List.take_succ_cons, List.take_zero, List.head?_cons, if_true, authPath, pa, List.take_left, List.drop_left]
  rw [if_pos (by decide)]
  rfl
def urlUri (u : Url) : Uri := ⟨https, hostText u.host u.port, u.path, u.query, u.fragment, true, true, u.hasQuery, u.hasFrag⟩
theorem urlText_join (u : Url) : urlText u = uriJoin (urlUri u) := by
  unfold urlText uriJoin urlUri urlTarget
  cases u.hasQuery <;> simp [https]
structure CanUrl (u : Url) : Prop where
  host : hostPort (hostText u.host u.port) = ((u.host, u.port), 0)
  path : Can inPath u.path
  slash : ∃ r, u.path = 47 :: r
  dots : removeDots u.path = u.path
  query : Can inQuery u.query
  frag : Can inQuery u.fragment
  noq : u.hasQuery = false → u.query = []
  nof : u.hasFrag = false → u.fragment = []
  len : (urlText u).length ≤ 4096
theorem host_no {x : Bytes} {p : Int} (h : hostPort (hostText x p) = ((x, p), 0)) : ∀ c ∈ hostText x p, c ≠ 47 ∧ c ≠ 63 ∧ c ≠ 35 ∧ c ≠ 64 := by
  intro c hc
  have h1 := hostPort_bytes h c hc
  have := all256 (p := fun c => !(ldh c || c == 46 || c == 58) || (c != 47 && c != 63 && c != 35 && c != 64)) (by decide +kernel) c
  have h2 : (ldh c || c == 46 || c == 58) = true := by rcases h1 with h | rfl | rfl <;> simp [*]
  rw [h2] at this
  simpa [and_assoc] using this
theorem path_no {s : Bytes} (h : Can inPath s) : ∀ c ∈ s, c ≠ 63 ∧ c ≠ 35 := by
  intro c hc
  have h1 := can_bytes h c hc
  have := all256 (p := fun c => !(keepB inPath c || c == 37 || isHex c) || (c != 63 && c != 35)) (by decide +kernel) c
  have h2 : (keepB inPath c || c == 37 || isHex c) = true := by rcases h1 with h | rfl | h <;> simp [*]
  rw [h2] at this
  simpa using this
theorem query_no {s : Bytes} (h : Can inQuery s) : (35 : UInt8) ∉ s := by
  intro hc
  have := can_bytes h _ hc
  revert this; decide
theorem CanUrl.split {u : Url} (h : CanUrl u) : uriSplit (urlText u) = (urlUri u, 0) := by
  rw [urlText_join]
  refine split_join (urlUri u) rfl rfl rfl (fun c hc => ?_) h.slash (path_no h.path) (query_no h.query) h.noq h.nof (by rw [← urlText_join]; have := h.len; omega)
  have := host_no h.host c hc
  exact ⟨this.1, this.2.1, this.2.2.1⟩
theorem urlText_len (u : Url) : u.path.length ≤ (urlText u).length ∧ (u.hasQuery = true → u.query.length ≤ (urlText u).length) ∧ (u.hasFrag = true → u.fragment.length ≤ (urlText u).length) := by
  unfold urlText urlTarget
  refine ⟨?_, fun h => ?_, fun h => ?_⟩
  · split <;> split <;> (simp; omega)
  · rw [if_pos h]; split <;> (simp; omega)
  · rw [if_pos h]; split <;> (simp; omega)
theorem CanUrl.parse {u : Url} (h : CanUrl u) : urlParse (urlText u) = (u, 0) := by
  obtain ⟨l1, l2, l3⟩ := urlText_len u
  have hl := h.len
  have n1 := can_norm h.path (by omega)
  have n2 : pctNorm inQuery u.query = (u.query, 0) := by
    cases hq : u.hasQuery
    · rw [h.noq hq]; rfl
    · exact can_norm h.query (by have := l2 hq; omega)
  have n3 : pctNorm inQuery u.fragment = (u.fragment, 0) := by
    cases hq : u.hasFrag
    · rw [h.nof hq]; rfl
    · exact can_norm h.frag (by have := l3 hq; omega)
  unfold urlParse
  rw [if_neg (by omega), h.split]
  simp only [ne_eq, not_true, if_false]
  unfold urlOf urlUri
  simp only
  rw [if_neg (by simp [show lower https = https by decide]), if_neg (by simp), if_neg (fun k => (host_no h.host _ k).2.2.2 rfl)]
  unfold urlParts
  simp only
  rw [h.host, n1, n2, n3]
  simp only [ne_eq, not_true, if_false]
  unfold urlEnd
  simp only
  obtain ⟨r, hr⟩ := h.slash
  have e : (if removeDots u.path = [] then [47] else removeDots u.path) = u.path := by
    rw [h.dots, hr, if_neg (by simp)]
  rw [e, if_neg (by show ¬ 4096 < (urlText u).length; omega)]
def Url.bare (u : Url) : Url := { u with fragment := [], hasFrag := false }
theorem CanUrl.bare {u : Url} (h : CanUrl u) : CanUrl u.bare :=
  ⟨h.host, h.path, h.slash, h.dots, h.query, can_nil _, h.noq, fun _ => rfl, by
    have := h.len
    unfold urlText at this ⊢
    unfold Url.bare urlTarget at *
    simp at this ⊢
    omega⟩
theorem CanUrl.valid {u : Url} (h : CanUrl u) : urlValid u = true := by unfold urlValid; rw [h.parse]; simp
end Wf
/- Plain functions and laws of package redirect; the values of a header field. -/
set_option linter.all false
namespace Wf
open Go Go.RowKit
def hdrVals (fs : List (Bytes × Bytes)) (name : Bytes) : List Bytes := (fs.filter fun f => lower f.1 == lower name).map (·.2)
def locS : Bytes := [108, 111, 99, 97, 116, 105, 111, 110]
def redirSt (n : Int) : Bool := n == 301 || n == 302 || n == 303 || n == 307 || n == 308
def redirEnd (r : Url × Int) (seen : List Url) : Url × Int :=
  if r.2 = 253 then (Url.none, 253) else if r.2 ≠ 0 then (Url.none, 252) else if r.1.bare ∈ seen then (Url.none, 251) else (r.1.bare, 0)
def redirOf (u : Url) (l : List Bytes) (seen : List Url) : Url × Int :=
  if l.length ≠ 1 then (Url.none, 252) else redirEnd (urlRelative u (l.head?.getD [])) seen
def redirNext (u : Url) (fs : List (Bytes × Bytes)) (seen : List Url) (hops : Int) : Url × Int :=
  if 5 ≤ hops then (Url.none, 250) else redirOf u (hdrVals fs locS) seen
theorem hdrVals_snoc (fs : List (Bytes × Bytes)) (f : Bytes × Bytes) (name : Bytes) : hdrVals (fs ++ [f]) name = hdrVals fs name ++ if lower f.1 = lower name then [f.2] else [] := by
  unfold hdrVals
  rw [List.filter_append, List.map_append]
  congr 1
  by_cases h : lower f.1 = lower name
  · simp [h]
  · simp [h]
theorem hdrVals_take {fs : List (Bytes × Bytes)} {k : Nat} (h : k < fs.length) (name : Bytes) : hdrVals (fs.take (k + 1)) name = hdrVals (fs.take k) name ++ if lower fs[k].1 = lower name then [fs[k].2] else [] := by
  rw [List.take_succ_eq_append_getElem h, hdrVals_snoc]
theorem hdrVals_len (fs : List (Bytes × Bytes)) (name : Bytes) : (hdrVals fs name).length ≤ fs.length := by
  unfold hdrVals
  rw [List.length_map]
  exact List.length_filter_le _ _
end Wf
/- The walks of package ascii. -/
set_option linter.all false
namespace Go.Proofs.YtjponbpdlioocaaDoor
open Go.RowKit Wf
attribute [local go_sem] ex_list app_list get_list
set_option maxHeartbeats 400000 in
theorem ascii_IsDigit (c : UInt8) (w : World) : Calls Tryd.prog 60 #[.int .u8 c.toNat] w fun e w' => e = .returned (.bool (isDigit c)) ∧ w = w' := by
  go_enter Tryd.func60, Tryd.ntmps60
  go_wp2
  all_goals
    go_ret
    refine ⟨ret_bool ?_, rfl⟩
    have hb := or32 c
    have hc := c.toNat_lt
    rw [Bool.eq_iff_iff]
    simp [isDigit]
    try omega
set_option maxHeartbeats 400000 in
theorem ascii_IsHex (c : UInt8) (w : World) : Calls Tryd.prog 48 #[.int .u8 c.toNat] w fun e w' => e = .returned (.bool (isHex c)) ∧ w = w' := by
  go_enter Tryd.func48, Tryd.ntmps48
  go_wp2
  all_goals
    go_ret
    refine ⟨ret_bool ?_, rfl⟩
    have hb := or32 c
    have hc := c.toNat_lt
    rw [Bool.eq_iff_iff]
    simp [isHex]
    try omega
end Go.Proofs.YtjponbpdlioocaaDoor
/- Rows of bytes of the call's own: what a conversion lays, reads and stores; a string made of them. -/
set_option linter.all false
namespace Go.Proofs.YtjponbpdlioocaaDoor
open Go.RowKit Wf
def u8V (b : UInt8) : Value := .int .u8 b.toNat
def RowU8 (w : World) (b : Nat) (l : Bytes) : Prop := ∃ (rest : List Value) (T : TypeId) (fz : Nat × Nat), w.heap[b]? = some (.cells (l.map u8V ++ rest).toArray T fz) ∧ (l.length ≤ fz.1 ∨ fz.2 ≤ fz.1)
theorem RowU8.cell {w : World} {b : Nat} {l : Bytes} (h : RowU8 w b l) {k : Nat} (hk : k < l.length) : w.cell? ⟨b, k, none⟩ = some (.int .u8 l[k].toNat) := by
  obtain ⟨rest, T, fz, hb, _⟩ := h
  rw [Lib.cell_of_heap hb k]
  simp [List.getElem?_append_left, hk, u8V]
theorem RowU8.frozen {w : World} {b : Nat} {l : Bytes} (h : RowU8 w b l) {k : Nat} (hk : k < l.length) : w.frozen? ⟨b, k, none⟩ = false := by
  obtain ⟨rest, T, fz, hb, hf⟩ := h
  simp only [World.frozen?, hb]
  simp
  omega
theorem RowU8.set {w : World} {b : Nat} {l : Bytes} (h : RowU8 w b l) {k : Nat} (hk : k < l.length) (x : UInt8) : RowU8 (w.setCell ⟨b, k, none⟩ (.int .u8 x.toNat)) b (l.set k x) := by
  obtain ⟨rest, T, fz, hb, hf⟩ := h
  refine ⟨rest, T, fz, ?_, by simpa using hf⟩
  rw [heap_set hb]
  congr 2
  simp [List.set_append_left, hk, List.map_set, u8V]
theorem RowU8.lt {w : World} {b : Nat} {l : Bytes} (h : RowU8 w b l) : b < w.heap.size := by
  obtain ⟨rest, T, fz, hb, _⟩ := h
  exact heap_lt hb
theorem RowU8.back {w : World} {b : Nat} {l : Bytes} (h : RowU8 w b l) (cap : Nat) :
    (convert 50 9 (.slice (some ⟨b, 0, none⟩) l.length cap)).run Tryd.prog w = .ok (Value.string ⟨List.toArray (l)⟩) w := by
  refine run_convert_bytes_back w _ _ 5 ⟨b, 0, none⟩ cap l Tryd.underlying50 Tryd.underlying5 Tryd.underlying9 (fun j hj => ?_)
  have : (⟨b, 0, none⟩ : Addr).add j = ⟨b, j, none⟩ := by
    unfold Addr.add
    split
    · subst j; rfl
    · simp
  rw [this]
  exact h.cell hj
theorem conv_bytes (w : World) (s : Bytes) : ∃ (w1 : World) (cap : Nat), (convert 9 50 (Value.string ⟨List.toArray (s)⟩)).run Tryd.prog w = .ok (.slice (some ⟨w.heap.size, 0, none⟩) s.length cap) w1 ∧ RowU8 w1 w.heap.size s ∧ Below w.heap.size w w1 := by
  refine ⟨_, _, Lib.run_convert_string_bytes w _ _ 5 ⟨List.toArray s⟩ Tryd.underlying9 Tryd.underlying50 Tryd.underlying5, ?_, ?_⟩
  · refine ⟨(Array.replicate (grownCap w s.length 0 5 - s.length) (Value.int .u8 0)).toList, 5, ((Lib.bytesCells w 5 ⟨List.toArray s⟩).size, (Lib.bytesCells w 5 ⟨List.toArray s⟩).size + 1), ?_, ?_⟩
    · rw [Lib.bytesWorld_at_new]
      congr 2
      apply Array.ext'
      simp [Lib.bytesCells]
      rfl
    · left
      simp [Lib.bytesCells]
  · exact ⟨by simp [Lib.bytesWorld, World.freeze]; rfl, rfl, rfl, by rw [Lib.bytesWorld_size]; omega, fun k hk => Lib.bytesWorld_at_old _ _ _ k hk⟩
end Go.Proofs.YtjponbpdlioocaaDoor
/- The walks of package ascii: strings. -/
set_option linter.all false
namespace Go.Proofs.YtjponbpdlioocaaDoor
open Go.RowKit Wf
attribute [local go_sem] ex_list app_list get_list

set_option maxHeartbeats 400000 in
theorem ascii_Lower (s : Bytes) (w : World) (hs : s.length ≤ 9223372036854775807) :
    Calls Tryd.prog 21 #[(Value.string ⟨List.toArray (s)⟩)] w fun e w' => e = .returned (Value.string ⟨List.toArray (lower s)⟩) ∧ Below w.heap.size w w' := by
  obtain ⟨w1, cap, hconv, hrow, hw1⟩ := conv_bytes w s
  have Hrow := hid hrow
  have Hw1 := hid hw1
  clear hrow hw1
  go_enter Tryd.func21, Tryd.ntmps21
  go_wp2_with fail
  go_loopw [10] (fun i wr => ∃ k : Nat, k ≤ s.length ∧ i = .int .i64 k ∧ RowU8 wr w.heap.size (lowTo k s) ∧ Below w.heap.size w wr) (fun i _ => s.length - (intOf i).toNat)
  case atStart => exact ⟨0, by omega, rfl, by rw [lowTo_zero]; exact Hrow.out, Hw1.out⟩
  case round =>
    obtain ⟨k, hk, rfl, hrow, hw⟩ := hrel
    have Hrow := hid hrow
    have Hw := hid hw
    clear hconv hrow hw
    by_cases hlt : k < s.length
    · have hll := lowTo_length k s
      have hcell := Hrow.out.cell (k := k) (by omega)
      have hfz := Hrow.out.frozen (k := k) (by omega)
      rw [lowTo_get hlt] at hcell
      clear hll
      by_cases hcap : 65 ≤ s[k].toNat ∧ s[k].toNat ≤ 90
      · obtain ⟨hc1, hc2⟩ := hcap
        have hst := Hrow.out.set (k := k) (by rw [lowTo_length]; exact hlt) (lowerC s[k])
        rw [lowTo_set hlt, lowerC_cap hc1 hc2] at hst
        have Hst := hid hst
        clear hst
        go_wp2_with fail
        go_roundw
        case rel => exact ⟨k + 1, by omega, by go_num, Hst.out, Hw.out.setCell (p := ⟨w.heap.size, k, none⟩) (Nat.le_refl _) _⟩
        case measure => simp [intOf]; omega
      · have Hn := hid (lowTo_next hlt (lowerC_no hcap))
        have hor : s[k].toNat < 65 ∨ 90 < s[k].toNat := by omega
        rcases hor with h | h
        all_goals
          go_wp2_with fail
          go_roundw
          case rel => exact ⟨k + 1, by omega, by go_num, Hn.out ▸ Hrow.out, Hw.out⟩
          case measure => simp [intOf]; omega
    · have hl : k = s.length := by omega
      have hrow2 := Hrow.out
      rw [hl, lowTo_all] at hrow2
      have hback := hrow2.back cap
      rw [show (lower s).length = s.length by simp [lower]] at hback
      clear hl hrow2
      go_wp2_with fail
      go_ret
      exact ⟨rfl, Hw.out⟩

set_option maxHeartbeats 400000 in
theorem ascii_every (s : Bytes) (w : World) (hs : s.length ≤ 9223372036854775807) :
    Calls Tryd.prog 59 #[(Value.string ⟨List.toArray (s)⟩), .func (.func 60) #[] #[]] w fun e w' => e = .returned (.bool (s.all isDigit)) ∧ w = w' := by
  go_enter Tryd.func59, Tryd.ntmps59
  go_wp2_with fail
  go_loop [8] (fun i => ∃ k : Nat, k ≤ s.length ∧ i = .int .i64 k ∧ (s.take k).all isDigit = true) (fun i => s.length - (intOf i).toNat)
  case atStart => exact ⟨0, by omega, rfl, rfl⟩
  case round =>
    obtain ⟨k, hk, rfl, hall⟩ := hrel
    have Hall := hid hall
    clear hall
    by_cases hlt : k < s.length
    · cases hc : isDigit s[k]
      · have Ha := hid (all_not hlt hc)
        go_wp2_with (go_at_call 60; refine (ascii_IsDigit _ _).mono ?_; rintro e w' ⟨rfl, rfl⟩)
        go_ret
        exact ⟨ret_bool Ha.out.symm, rfl⟩
      · go_wp2_with (go_at_call 60; refine (ascii_IsDigit _ _).mono ?_; rintro e w' ⟨rfl, rfl⟩)
        go_round
        case rel => exact ⟨k + 1, by omega, by go_num, all_take_snoc hlt Hall.out hc⟩
        case measure => simp [intOf]; omega
    · have hall := Hall.out
      rw [List.take_of_length_le (by omega)] at hall
      have Ha := hid hall
      clear hall Hall
      go_wp2_with fail
      go_ret
      exact ⟨ret_bool Ha.out.symm, rfl⟩
set_option maxHeartbeats 400000 in
theorem ascii_Digits (s : Bytes) (w : World) (hs : s.length ≤ 9223372036854775807) :
    Calls Tryd.prog 40 #[(Value.string ⟨List.toArray (s)⟩)] w fun e w' => e = .returned (.bool (digitsOk s)) ∧ w = w' := by
  cases hn : s.isEmpty
  all_goals
    have Hd := hid (show digitsOk s = (!s.isEmpty && s.all isDigit) from rfl)
    rw [hn] at Hd
    go_enter Tryd.func40, Tryd.ntmps40
    go_wp2_with (go_at_call 59; refine (ascii_every _ _ hs).mono ?_; rintro e w' ⟨rfl, rfl⟩)
    go_ret
    exact ⟨ret_bool (by rw [Hd.out]; simp), rfl⟩
end Go.Proofs.YtjponbpdlioocaaDoor
/- The walks of package number. -/
set_option linter.all false
namespace Go.Proofs.YtjponbpdlioocaaDoor
open Go.RowKit Wf
attribute [local go_sem] ex_list app_list get_list

set_option maxHeartbeats 400000 in
theorem number_value (c : UInt8) (w : World) (h : isHex c = true) : Calls Tryd.prog 79 #[.int .u8 c.toNat] w fun e w' => e = .returned (.int .u64 (hexVal c)) ∧ w = w' := by
  cases hd : isDigit c
  all_goals
    go_enter Tryd.func79, Tryd.ntmps79
    go_wp2_with (go_at_call 60; refine (ascii_IsDigit _ _).mono ?_; rintro e w' ⟨rfl, rfl⟩)
    go_ret
    refine ⟨ret_int ?_, rfl⟩
    have hb := or32 c
    simp [isHex, isDigit] at h hd
    unfold hexVal
    split <;> (try split) <;> omega

set_option maxHeartbeats 1000000 in
theorem number_parse16 (s : Bytes) (m : Nat) (w : World) (hs : s.length ≤ 9223372036854775807) (hm : m ≤ 4611686018427387904) :
    Calls Tryd.prog 61 #[(Value.string ⟨List.toArray (s)⟩), .int .u64 16, .int .u64 m, .func (.func 48) #[] #[]] w fun e w' => e = .returned (.tuple #[.int .u64 (numParse isHex 16 m s).1, .int .i64 (numParse isHex 16 m s).2]) ∧ w = w' := by
  cases hne : s.isEmpty
  · go_enter Tryd.func61, Tryd.ntmps61
    go_wp2_with fail
    go_loop [18] (fun i => ∃ k : Nat, k ≤ s.length ∧ i = .int .i64 k ∧ (s.take k).all isHex = true) (fun i => s.length - (intOf i).toNat)
    case atStart => exact ⟨0, by omega, rfl, rfl⟩
    case round =>
      obtain ⟨k, hk, rfl, hall⟩ := hrel
      have Hall := hid hall
      clear hall
      by_cases hlt : k < s.length
      · cases hc : isHex s[k]
        · go_wp2_with (go_at_call 48; refine (ascii_IsHex _ _).mono ?_; rintro e w' ⟨rfl, rfl⟩)
          go_ret2
          exact ⟨ret_ni (by simp [numParse, hne, all_not hlt hc]), rfl⟩
        · go_wp2_with (go_at_call 48; refine (ascii_IsHex _ _).mono ?_; rintro e w' ⟨rfl, rfl⟩)
          go_round
          case rel => exact ⟨k + 1, by omega, by go_num, all_take_snoc hlt Hall.out hc⟩
          case measure => simp [intOf]; omega
      · have hall : s.all isHex = true := by have := Hall.out; rwa [List.take_of_length_le (by omega)] at this
        clear Hall
        have Hall := hid hall
        clear hall
        go_wp2_with fail
        go_loop [11, 30] (fun n i => ∃ k a : Nat, k ≤ s.length ∧ i = .int .i64 k ∧ a ≤ m ∧ n = .int .u64 a ∧ numGo 16 m a (s.drop k) = numGo 16 m 0 s) (fun _ i => s.length - (intOf i).toNat)
        case atStart => exact ⟨0, 0, by omega, rfl, by omega, rfl, rfl⟩
        case round =>
          obtain ⟨j, a, hj, rfl, ha, rfl, heq⟩ := hrel
          have Heq := hid heq
          clear heq
          by_cases hjt : j < s.length
          · have hv := hexVal_le (show isHex s[j] = true by have := all_get Hall.out hjt; first | exact this | (simp [isDigit, isHex] at this ⊢; omega))
            go_wp2_with (go_at_call 79; refine (number_value _ _ (by have := all_get Hall.out hjt; first | exact this | (simp [isDigit, isHex] at this ⊢; omega))).mono ?_; rintro e w' ⟨rfl, rfl⟩)
            all_goals first
              | (go_ret2; exact ⟨ret_ni (numParse_err hne Hall.out Heq.out hjt (by omega)), rfl⟩)
              | (go_round
                 case rel => exact ⟨j + 1, a * 16 + hexVal s[j], by omega, by go_num, by omega, by go_num, numParse_next Heq.out hjt (by omega)⟩
                 case measure => simp [intOf]; omega)
          · go_wp2_with fail
            go_ret2
            exact ⟨ret_ni (numParse_done hne Hall.out Heq.out hjt), rfl⟩
  · go_enter Tryd.func61, Tryd.ntmps61
    go_wp2_with fail
    go_ret2
    exact ⟨ret_ni (by simp [numParse, hne]), rfl⟩
set_option maxHeartbeats 1000000 in
theorem number_parse10 (s : Bytes) (m : Nat) (w : World) (hs : s.length ≤ 9223372036854775807) (hm : m ≤ 4611686018427387904) :
    Calls Tryd.prog 61 #[(Value.string ⟨List.toArray (s)⟩), .int .u64 10, .int .u64 m, .func (.func 60) #[] #[]] w fun e w' => e = .returned (.tuple #[.int .u64 (numParse isDigit 10 m s).1, .int .i64 (numParse isDigit 10 m s).2]) ∧ w = w' := by
  cases hne : s.isEmpty
  · go_enter Tryd.func61, Tryd.ntmps61
    go_wp2_with fail
    go_loop [18] (fun i => ∃ k : Nat, k ≤ s.length ∧ i = .int .i64 k ∧ (s.take k).all isDigit = true) (fun i => s.length - (intOf i).toNat)
    case atStart => exact ⟨0, by omega, rfl, rfl⟩
    case round =>
      obtain ⟨k, hk, rfl, hall⟩ := hrel
      have Hall := hid hall
      clear hall
      by_cases hlt : k < s.length
      · cases hc : isDigit s[k]
        · go_wp2_with (go_at_call 60; refine (ascii_IsDigit _ _).mono ?_; rintro e w' ⟨rfl, rfl⟩)
          go_ret2
          exact ⟨ret_ni (by simp [numParse, hne, all_not hlt hc]), rfl⟩
        · go_wp2_with (go_at_call 60; refine (ascii_IsDigit _ _).mono ?_; rintro e w' ⟨rfl, rfl⟩)
          go_round
          case rel => exact ⟨k + 1, by omega, by go_num, all_take_snoc hlt Hall.out hc⟩
          case measure => simp [intOf]; omega
      · have hall : s.all isDigit = true := by have := Hall.out; rwa [List.take_of_length_le (by omega)] at this
        clear Hall
        have Hall := hid hall
        clear hall
        go_wp2_with fail
        go_loop [11, 30] (fun n i => ∃ k a : Nat, k ≤ s.length ∧ i = .int .i64 k ∧ a ≤ m ∧ n = .int .u64 a ∧ numGo 10 m a (s.drop k) = numGo 10 m 0 s) (fun _ i => s.length - (intOf i).toNat)
        case atStart => exact ⟨0, 0, by omega, rfl, by omega, rfl, rfl⟩
        case round =>
          obtain ⟨j, a, hj, rfl, ha, rfl, heq⟩ := hrel
          have Heq := hid heq
          clear heq
          by_cases hjt : j < s.length
          · have hv := hexVal_le (show isHex s[j] = true by have := all_get Hall.out hjt; first | exact this | (simp [isDigit, isHex] at this ⊢; omega))
            go_wp2_with (go_at_call 79; refine (number_value _ _ (by have := all_get Hall.out hjt; first | exact this | (simp [isDigit, isHex] at this ⊢; omega))).mono ?_; rintro e w' ⟨rfl, rfl⟩)
            all_goals first
              | (go_ret2; exact ⟨ret_ni (numParse_err hne Hall.out Heq.out hjt (by omega)), rfl⟩)
              | (go_round
                 case rel => exact ⟨j + 1, a * 10 + hexVal s[j], by omega, by go_num, by omega, by go_num, numParse_next Heq.out hjt (by omega)⟩
                 case measure => simp [intOf]; omega)
          · go_wp2_with fail
            go_ret2
            exact ⟨ret_ni (numParse_done hne Hall.out Heq.out hjt), rfl⟩
  · go_enter Tryd.func61, Tryd.ntmps61
    go_wp2_with fail
    go_ret2
    exact ⟨ret_ni (by simp [numParse, hne]), rfl⟩
set_option maxHeartbeats 400000 in
theorem number_Hex (s : Bytes) (m : Nat) (w : World) (hs : s.length ≤ 9223372036854775807) (hm : m ≤ 4611686018427387904) :
    Calls Tryd.prog 50 #[(Value.string ⟨List.toArray (s)⟩), .int .u64 m] w fun e w' => e = .returned (.tuple #[.int .u64 (numParse isHex 16 m s).1, .int .i64 (numParse isHex 16 m s).2]) ∧ w = w' := by
  go_enter Tryd.func50, Tryd.ntmps50
  go_wp2_with (go_at_call 61; refine (number_parse16 _ _ _ hs hm).mono ?_; rintro e w' ⟨rfl, rfl⟩)
  go_ret2
  exact ⟨rfl, rfl⟩
theorem number_Hex62 (s : Bytes) (w : World) (hs : s.length ≤ 9223372036854775807) :
    Calls Tryd.prog 50 #[(Value.string ⟨List.toArray (s)⟩), .int .u64 4611686018427387904] w fun e w' => e = .returned (.tuple #[.int .u64 (numParse isHex 16 4611686018427387904 s).1, .int .i64 (numParse isHex 16 4611686018427387904 s).2]) ∧ w = w' :=
  number_Hex s 4611686018427387904 w hs (Nat.le_refl _)
set_option maxHeartbeats 400000 in
theorem number_Parse (s : Bytes) (m : Nat) (w : World) (hs : s.length ≤ 9223372036854775807) (hm : m ≤ 4611686018427387904) :
    Calls Tryd.prog 41 #[(Value.string ⟨List.toArray (s)⟩), .int .u64 m] w fun e w' => e = .returned (.tuple #[.int .u64 (numParse isDigit 10 m s).1, .int .i64 (numParse isDigit 10 m s).2]) ∧ w = w' := by
  go_enter Tryd.func41, Tryd.ntmps41
  go_wp2_with (go_at_call 61; refine (number_parse10 _ _ _ hs hm).mono ?_; rintro e w' ⟨rfl, rfl⟩)
  go_ret2
  exact ⟨rfl, rfl⟩
end Go.Proofs.YtjponbpdlioocaaDoor
/- strings.IndexRune at a rune that is no ASCII, in an ASCII string; strings.IndexAny at an ASCII set. -/
set_option linter.all false
namespace Go.Proofs.YtjponbpdlioocaaDoor
open Go.RowKit Wf
attribute [local go_sem] ex_list app_list get_list

theorem encode_high (r : Int) (h1 : 128 ≤ r) (h4 : Lib.validRune r = true) : ∃ el : Bytes, Utf8.encode r = ⟨List.toArray el⟩ ∧ 2 ≤ el.length ∧ el.length ≤ 4 ∧ ∀ h : el.length - 1 < el.length, 128 ≤ el[el.length - 1].toNat := by
  have hv : Utf8.valid r = true := by
    unfold Lib.validRune at h4
    have := of_decide_eq_true h4
    unfold Utf8.valid
    simp
    omega
  obtain ⟨n, rfl⟩ := Int.eq_ofNat_of_zero_le (show 0 ≤ r by omega)
  have hn : 128 ≤ n := by omega
  have key : ∀ m : Nat, 128 ≤ (UInt8.ofNat (0x80 + m % 64)).toNat := by
    intro m
    rw [UInt8.toNat_ofNat']
    omega
  unfold Utf8.encode
  rw [if_pos hv]
  simp only [Int.toNat_natCast]
  rw [if_neg (show ¬ n < 128 by omega)]
  split
  · exact ⟨_, rfl, by simp, by simp, fun _ => key _⟩
  · split
    · exact ⟨_, rfl, by simp, by simp, fun _ => key _⟩
    · exact ⟨_, rfl, by simp, by simp, fun _ => key _⟩

theorem indexByte_no (l : Bytes) (c : UInt8) (h : ∀ b ∈ l, b ≠ c) : Lib.indexByte l c = -1 := by
  induction l with
  | nil => rfl
  | cons b l ih =>
    have h1 := h b (by simp)
    have h2 := ih fun x hx => h x (by simp [hx])
    simp [Lib.indexByte, h1, h2]

set_option maxRecDepth 100000 in
set_option maxHeartbeats 400000 in
theorem indexRune_err (l : Bytes) (w : World) (ha : ∀ i (h : i < l.length), l[i].toNat < 128) (hl : l.length ≤ 1000000) :
    Calls Tryd.prog 70 #[(Value.string ⟨List.toArray (l)⟩), .int .i32 65533] w fun e w' => e = .returned (.int .i64 (-1)) ∧ Below w.heap.size w w' := by
  go_enter Tryd.func70, Tryd.ntmps70
  have Ha := hid ha
  clear ha
  go_wp2_with fail
  go_loopw [] (fun wr => ∃ i : Nat, i ≤ l.length ∧ wr = w.iter ⟨List.toArray l⟩ i) (fun wr => l.length - wr.iterPos w.heap.size)
  case atStart => exact ⟨0, by omega, rfl⟩
  case round =>
    obtain ⟨i, hi, rfl⟩ := hrel
    by_cases hlt : i < l.length
    · have hnx := fun ty => run_next_ascii (P := Tryd.prog) w ⟨List.toArray l⟩ i ty hlt (Ha.out i hlt)
      have hb := Ha.out i hlt
      have hx : ((l[i].toNat : Int) == 65533) = false := beq_eq_false_iff_ne.2 (by omega)
      simp only [get_list] at hnx
      go_wp2_with fail
      go_roundw
      case rel => exact ⟨i + 1, by omega, rfl⟩
      case measure => simp; omega
    · have hnx := run_next_end (P := Tryd.prog) w ⟨List.toArray l⟩ i
      have hsz : l.length ≤ i := by omega
      go_wp2_with fail
      go_ret
      exact ⟨rfl, (Below.refl _ _).alloc (Nat.le_refl _) _⟩
set_option maxRecDepth 100000 in
set_option maxHeartbeats 400000 in
theorem indexRune_bad (l : Bytes) (r : Int) (w : World) (h1 : 128 ≤ r) (h2 : r ≤ 2147483647) (h3 : (r == 65533) = false) (h4 : Lib.validRune r = false) :
    Calls Tryd.prog 70 #[(Value.string ⟨List.toArray (l)⟩), .int .i32 r] w fun e w' => e = .returned (.int .i64 (-1)) ∧ Below w.heap.size w w' := by
  have h5 := hid h4
  go_enter Tryd.func70, Tryd.ntmps70
  go_wp2_with (go_at_call 91; refine (Tryd.utf8_ValidRune _ _).mono ?_; rintro e w' ⟨rfl, rfl⟩)
  go_ret
  exact ⟨rfl, Below.refl _ _⟩
set_option maxRecDepth 100000 in
set_option maxHeartbeats 400000 in
theorem indexRune_high (l : Bytes) (r : Int) (w : World) (ha : ∀ i (h : i < l.length), l[i].toNat < 128) (hl : l.length ≤ 1000000) (h1 : 128 ≤ r) (h2 : r ≤ 2147483647) (h3 : (r == 65533) = false) (h4 : Lib.validRune r = true) :
    Calls Tryd.prog 70 #[(Value.string ⟨List.toArray (l)⟩), .int .i32 r] w fun e w' => e = .returned (.int .i64 (-1)) ∧ Below w.heap.size w w' := by
  have Ha := hid ha
  clear ha
  go_enter Tryd.func70, Tryd.ntmps70
  go_wp2_with (go_at_call 91; refine (Tryd.utf8_ValidRune _ _).mono ?_; rintro e w' ⟨rfl, rfl⟩)
  go_step3
  go_wp2_with fail
  obtain ⟨el, hel, he1, he2, he3⟩ := encode_high r h1 h4
  have He3 := hid he3
  clear he3
  rw [hel]
  have hx : wrap64 ((ByteArray.size ⟨List.toArray el⟩ : Int) - 1) = ((el.length - 1 : Nat) : Int) := by
    have : ByteArray.size ⟨List.toArray el⟩ = el.length := rfl
    rw [this, IntWalk.wrap64_in _ ⟨by omega, by omega⟩]
    omega
  rw [hx]
  clear hel hx h1 h2 h3 h4
  refine wp_loop_once ?_
  by_cases hlt : el.length - 1 < l.length
  · have hle : el.length - 1 < el.length := by omega
    have hbt := Ha.out _ hlt
    have hc := He3.out (by omega)
    have hne : ((l[el.length - 1].toNat : Int) != (el[el.length - 1].toNat : Int)) = true := by rw [bne_iff_ne]; omega
    have hno := indexByte_no (l.drop (el.length - 1 + 1)) el[el.length - 1] (fun b hb hx => by
      obtain ⟨j, hj, rfl⟩ := List.mem_iff_getElem.1 hb
      rw [List.getElem_drop] at hx
      have h1 := Ha.out (el.length - 1 + 1 + j) (by simp at hj; omega)
      rw [hx] at h1
      omega)
    have Hno := hid hno
    clear hno
    go_wp2_with fail
    go_step3
    go_wp2_with fail
    go_quiet (fail)
    go_wp2_with fail
    have hb : Below w'.heap.size w' (w'.drewN nq) := below_drewN (Below.refl _ _) _
    generalize w'.drewN nq = w2 at hb ⊢
    have hs1 : IntKind.i64.wrap (((el.length - 1 : Nat) : Int) + 1) = ((el.length - 1 : Nat) : Int) + 1 := IntWalk.i64_in _ (by omega)
    have hs2 : (0 : Int) ≤ ((el.length - 1 : Nat) : Int) + 1 := by omega
    have hs3 : (((el.length - 1 : Nat) : Int) + 1).toNat = el.length - 1 + 1 := by omega
    have hs4 : ((el.length - 1 : Nat) : Int) + 1 ≤ (l.length : Int) := by omega
    go_quiet ((go_at_call 49; refine Calls.quiet_of_same (Tryd.strings_IndexByte _ _ _)))
    clear hs1 hs2 hs3 hs4
    rw [show ((el[el.length - 1].toNat : Int)).toNat.toUInt8 = el[el.length - 1] from by simp, Hno.out]
    go_wp2_with fail
    rw [Exit.noGoto_ret]
    go_wp2_with fail
    rw [Exit.noGoto_ret]
    go_ret
    exact ⟨rfl, below_drewN hb _⟩
  · go_wp2_with fail
    rw [Exit.noGoto_ret]
    go_ret
    exact ⟨rfl, Below.refl _ _⟩
theorem noAny_high (s : ByteArray) (set : Bytes) (i k : Nat) (hn : Lib.NoAny s.data.toList set i) (hset : ∀ j (h : j < set.length), set[j].toNat < 128) (hh : ∀ j, i ≤ j → j < i + k → ∀ h : j < s.size, 128 ≤ s[j].toNat) : Lib.NoAny s.data.toList set (i + k) := by
  intro j b hj hb
  by_cases hji : j < i
  · exact hn j b hji hb
  · obtain ⟨hjs, rfl⟩ := List.getElem?_eq_some_iff.1 hb
    have hs : j < s.size := by rw [Lib.size_eq]; exact hjs
    have h1 : 128 ≤ (s.data.toList[j]).toNat := hh j (by omega) hj hs
    rw [Bool.eq_false_iff]
    intro hc
    have hmem := List.contains_iff_mem.1 hc
    obtain ⟨q, hq, he⟩ := List.mem_iff_getElem.1 hmem
    have h2 := hset q hq
    rw [he] at h2
    omega
theorem get_bang (s : ByteArray) (j : Nat) (h : j < s.size) : (s.get! j).toNat = s[j].toNat := by
  have := get_at s j h
  rw [Nat.add_zero] at this
  rw [this]
theorem cont_high (s : ByteArray) (j : Nat) (h : (decide (j < s.size) && (s.get! j).toNat / 64 == 2) = true) : j < s.size ∧ ∀ h : j < s.size, 128 ≤ s[j].toNat := by
  simp only [Bool.and_eq_true, decide_eq_true_eq, beq_iff_eq] at h
  refine ⟨h.1, fun hj => ?_⟩
  have := h.2
  rw [get_bang s j hj] at this
  omega
def Span (s : ByteArray) (i : Nat) (p : Nat × Nat) : Prop := i + p.2 ≤ s.size ∧ ∀ j, i ≤ j → j < i + p.2 → ∀ h : j < s.size, 128 ≤ s[j].toNat
theorem decode_span (s : ByteArray) (i : Nat) (h : i < s.size) (hx : 128 ≤ s[i].toNat) : Span s i (Utf8.decode s i) := by
  have one : ∀ e, Span s i (e, 1) := fun e => ⟨by dsimp only; omega, fun j h1 h2 h3 => by
    dsimp only at h2
    obtain rfl : j = i := by omega
    exact hx⟩
  unfold Utf8.decode
  dsimp only
  split
  · exact one _
  split
  · rename_i hc
    simp only [Bool.and_eq_true] at hc
    have c1 := cont_high s (i + 1) (by simpa using hc.2)
    split
    · refine ⟨by dsimp only; omega, fun j h1 h2 h3 => ?_⟩
      dsimp only at h2
      rcases Nat.lt_or_ge j (i + 1) with h' | h'
      · exact (one 0).2 j h1 h' h3
      · obtain rfl : j = i + 1 := by omega
        exact c1.2 h3
    · exact one _
  · split
    · rename_i hc
      simp only [Bool.and_eq_true] at hc
      have c1 := cont_high s (i + 1) (by simpa using hc.1.2)
      have c2 := cont_high s (i + 2) (by simpa using hc.2)
      split
      · refine ⟨by dsimp only; omega, fun j h1 h2 h3 => ?_⟩
        dsimp only at h2
        rcases Nat.lt_or_ge j (i + 1) with h' | h'
        · exact (one 0).2 j h1 h' h3
        · rcases Nat.lt_or_ge j (i + 2) with h'' | h''
          · obtain rfl : j = i + 1 := by omega
            exact c1.2 h3
          · obtain rfl : j = i + 2 := by omega
            exact c2.2 h3
      · exact one _
    · split
      · rename_i hc
        simp only [Bool.and_eq_true] at hc
        have c1 := cont_high s (i + 1) (by simpa using hc.1.1.2)
        have c2 := cont_high s (i + 2) (by simpa using hc.1.2)
        have c3 := cont_high s (i + 3) (by simpa using hc.2)
        split
        · refine ⟨by dsimp only; omega, fun j h1 h2 h3 => ?_⟩
          dsimp only at h2
          rcases Nat.lt_or_ge j (i + 1) with h' | h'
          · exact (one 0).2 j h1 h' h3
          · rcases Nat.lt_or_ge j (i + 2) with h'' | h''
            · obtain rfl : j = i + 1 := by omega
              exact c1.2 h3
            · rcases Nat.lt_or_ge j (i + 3) with h4 | h4
              · obtain rfl : j = i + 2 := by omega
                exact c2.2 h3
              · obtain rfl : j = i + 3 := by omega
                exact c3.2 h3
        · exact one _
      · exact one _
theorem indexRune_any (l : Bytes) (r : Int) (w : World) (ha : ∀ i (h : i < l.length), l[i].toNat < 128) (hl : l.length ≤ 1000000) (h1 : 128 ≤ r) (h2 : r ≤ 2147483647) :
    Calls Tryd.prog 70 #[(Value.string ⟨List.toArray (l)⟩), .int .i32 r] w fun e w' => e = .returned (.int .i64 (-1)) ∧ Below w.heap.size w w' := by
  by_cases h3 : r = 65533
  · subst h3
    exact indexRune_err l w ha hl
  · cases h4 : Lib.validRune r
    · exact indexRune_bad l r w h1 h2 (beq_eq_false_iff_ne.2 h3) h4
    · exact indexRune_high l r w ha hl h1 h2 (beq_eq_false_iff_ne.2 h3) h4

theorem iterPos_at {w : World} {k : Nat} {s : ByteArray} {p : Nat} (h : w.heap[k]? = some (.stringIter s p)) : w.iterPos k = p := by unfold World.iterPos; rw [h]

set_option maxRecDepth 100000 in
set_option maxHeartbeats 400000 in
theorem indexAny_short (s l : Bytes) (w : World) (ha : ∀ i (h : i < l.length), l[i].toNat < 128) (hl : l.length ≤ 1000000) (h2 : 2 ≤ l.length) (h8 : s.length ≤ 8) :
    Calls Tryd.prog 52 #[(Value.string ⟨List.toArray (s)⟩), (Value.string ⟨List.toArray (l)⟩)] w fun e w' => e = .returned (.int .i64 (Lib.indexAny s l)) ∧ Below w.heap.size w w' := by
  have Ha := hid ha
  clear ha
  have hemp : l.isEmpty = false := by cases l <;> simp at h2 ⊢
  have hn1 : ((l.length : Int) == 1) = false := beq_eq_false_iff_ne.2 (by omega)
  have h8z : decide ((8 : Int) < (s.length : Int)) = false := decide_eq_false (by omega)
  go_enter Tryd.func52, Tryd.ntmps52
  go_wp2_with (go_at_call 71; refine (Tryd.strings_shouldUseASCIISet _ _).mono ?_; rintro e w' ⟨rfl, hw⟩; rw [hw, h8z])
  go_loopw [] (fun wr => ∃ i : Nat, i ≤ s.length ∧ wr.heap[w.heap.size]? = some (.stringIter ⟨List.toArray s⟩ i) ∧ Below w.heap.size w wr ∧ Lib.NoAny s l i) (fun wr => s.length - wr.iterPos w.heap.size)
  case atStart => exact ⟨0, by omega, World.iter_heap _ _ _, (Below.refl _ _).alloc (Nat.le_refl _) _, Lib.NoAny.zero _ _⟩
  case round =>
    obtain ⟨i, hi, hit, hbl, hno⟩ := hrel
    have Hit := hid hit
    have Hbl := hid hbl
    have Hno := hid hno
    clear hit hbl hno
    have hpos : wr.iterPos w.heap.size = i := by unfold World.iterPos; rw [Hit.out]
    have Hpos := hid hpos
    clear hpos
    have hlt0 : w.heap.size < wr.heap.size := (Array.getElem?_eq_some_iff.1 Hit.out).1
    by_cases hlt : i < s.length
    · by_cases hx : s[i].toNat < 128
      · have hnx := fun ty => Lib.run_next_ascii_at (P := Tryd.prog) wr w.heap.size ⟨List.toArray s⟩ i ty Hit.out hlt hx
        simp only [get_list] at hnx
        have hcon := Lib.contains_iff_indexByte l s[i]
        have hback : ((s[i].toNat : Int)).toNat.toUInt8 = s[i] := by simp
        cases hin : l.contains s[i]
        · rw [hin] at hcon
          have hneg : ¬ ((0 : Int) ≤ Lib.indexByte l s[i]) := of_decide_eq_false hcon.symm
          clear hcon
          go_wp2_with (go_at_call 70; refine (Tryd.strings_IndexRune_ascii _ _ _ (by omega) (by omega)).mono ?_; rintro e w' ⟨rfl, hw⟩; rw [hw, hback])
          have hk := Lib.iterAt_heap wr w.heap.size ⟨List.toArray s⟩ i (i + 1) Hit.out
          have hxl : (⟨List.toArray s⟩ : ByteArray).data.toList[i]? = some s[i] := List.getElem?_eq_getElem hlt
          refine ⟨⟨i + 1, by omega, hk, Lib.below_iterAt Hbl.out (Nat.le_refl _) _ _, Hno.out.succ hxl hin⟩, ?_⟩
          rw [iterPos_at hk, Hpos.out]; omega
        · rw [hin] at hcon
          have hge : ((0 : Int) ≤ Lib.indexByte l s[i]) := of_decide_eq_true hcon.symm
          clear hcon
          go_wp2_with (go_at_call 70; refine (Tryd.strings_IndexRune_ascii _ _ _ (by omega) (by omega)).mono ?_; rintro e w' ⟨rfl, hw⟩; rw [hw, hback])
          have hxl : s[i]? = some s[i] := List.getElem?_eq_getElem hlt
          go_ret
          exact ⟨ret_int (by rw [Lib.indexAny_hit Hno.out hxl hin]), Lib.below_iterAt Hbl.out (Nat.le_refl _) _ _⟩
      · have hnx := fun ty => Lib.run_next_any_at (P := Tryd.prog) wr w.heap.size ⟨List.toArray s⟩ i ty Hit.out hlt
        have hd := decode_high ⟨List.toArray s⟩ i hlt (by simp only [get_list]; omega)
        have hd2 := decode_le ⟨List.toArray s⟩ i
        go_wp2_with (go_at_call 70; refine (indexRune_any l _ _ Ha.out hl (by omega) (by omega)).mono ?_; rintro e w' ⟨rfl, hw⟩)
        have hsp := decode_span ⟨List.toArray s⟩ i hlt (by simp only [get_list]; omega)
        have hk := Lib.iterAt_heap wr w.heap.size ⟨List.toArray s⟩ i (i + (Utf8.decode ⟨List.toArray s⟩ i).2) Hit.out
        have hk2 := (hw.block w.heap.size (by rw [Lib.iterAt_size]; exact hlt0)).trans hk
        have hle : i + (Utf8.decode ⟨List.toArray s⟩ i).2 ≤ s.length := hsp.1
        refine ⟨⟨_, hle, hk2, (Lib.below_iterAt Hbl.out (Nat.le_refl _) _ _).trans (hw.mono (by rw [Lib.iterAt_size]; omega)), noAny_high ⟨List.toArray s⟩ l i _ Hno.out Ha.out hsp.2⟩, ?_⟩
        rw [iterPos_at hk2, Hpos.out]; omega
    · have hnx := fun ty => Lib.run_next_end_at (P := Tryd.prog) wr w.heap.size ⟨List.toArray s⟩ i ty Hit.out hlt
      go_wp2_with fail
      go_ret
      exact ⟨ret_int (by rw [Lib.indexAny_none (by rw [show s.length = i by omega]; exact Hno.out)]), Hbl.out⟩

theorem strings_IndexAny (s l : Bytes) (w : World) (ha : ∀ i (h : i < l.length), l[i].toNat < 128) (hl : l.length ≤ 1000000) (h2 : 2 ≤ l.length) (hs : s.length < 4294967281) :
    Calls Tryd.prog 52 #[(Value.string ⟨List.toArray (s)⟩), (Value.string ⟨List.toArray (l)⟩)] w fun e w' => e = .returned (.int .i64 (Lib.indexAny s l)) ∧ Below w.heap.size w w' := by
  rcases Nat.lt_or_ge 8 s.length with h8 | h8
  · refine (Tryd.strings_IndexAny_long (fun _ => by kernel_rfl) ⟨List.toArray s⟩ ⟨List.toArray l⟩ w h2 h8 hs (show l.length < 4294967281 by omega) (fun j b hb => ?_)).mono ?_
    · obtain ⟨hj, rfl⟩ := List.getElem?_eq_some_iff.1 hb
      exact ha j hj
    · rintro e w' ⟨rfl, rfl⟩
      exact ⟨rfl, ((Below.refl _ _).alloc (Nat.le_refl _) _).alloc (by simp) _⟩
  · exact indexAny_short s l w ha hl h2 h8
end Go.Proofs.YtjponbpdlioocaaDoor
/- The walks of package body. -/
set_option linter.all false
namespace Go.Proofs.YtjponbpdlioocaaDoor
open Go.RowKit Wf
attribute [local go_sem] ex_list app_list get_list

set_option maxHeartbeats 400000 in
theorem body_hex (n : Nat) (w : World) (hn : n ≤ 1000000000) :
    Calls Tryd.prog 18 #[.int .i64 n] w fun e w' => e = .returned (Value.string ⟨List.toArray (hexS n)⟩) ∧ w = w' := by
  go_enter Tryd.func18, Tryd.ntmps18
  go_wp2
  go_loop [0, 3] (fun t i => ∃ (k : Nat) (l : Bytes), k + l.length ≤ n ∧ t = .int .i64 k ∧ i = (Value.string ⟨List.toArray (l)⟩) ∧ hexS k ++ l = hexS n) (fun t i => (intOf t).toNat)
  case atStart => exact ⟨n, [], by simp, rfl, rfl, by simp⟩
  case round =>
    obtain ⟨k, l, hk, rfl, rfl, heq⟩ := hrel
    have Heq := hid heq
    clear heq
    by_cases h0 : 0 < k
    · go_wp2
      go_round
      case rel => exact ⟨k / 16, hexDig (k % 16) :: l, by simp; omega, by go_num, by rw [hex_at]; rfl, hex_next h0 Heq.out⟩
      case measure => simp [intOf]; omega
    · go_wp2
      go_ret
      exact ⟨ret_str (by have := Heq.out; rw [show k = 0 by omega, hexS_zero] at this; simpa using this), rfl⟩
set_option maxHeartbeats 400000 in
theorem body_Encode (s : Bytes) (size : Int) (w : World) (hs : s.length ≤ 1000000) (h1 : -9223372036854775808 ≤ size) (h2 : size ≤ 9223372036854775807) :
    Calls Tryd.prog 7 #[(Value.string ⟨List.toArray (s)⟩), .int .i64 size] w fun e w' => e = .returned (Value.string ⟨List.toArray (encode size s)⟩) ∧ Below w.heap.size w w' := by
  go_enter Tryd.func7, Tryd.ntmps7
  go_wp2
  go_loopw [0] (fun v wr => ∃ s' acc : Bytes, v = (Value.string ⟨List.toArray (s')⟩) ∧ s'.length ≤ s.length ∧ Bld w.heap.size acc wr ∧ Below w.heap.size w wr ∧ acc.length + 100 * s'.length ≤ 100 * s.length ∧ acc ++ encode size s' = encode size s) (fun v _ => sLen v)
  case atStart => exact ⟨s, [], rfl, by omega, Bld.fresh w, (Below.refl _ _).alloc (Nat.le_refl _) _, by simp, by simp⟩
  case round =>
    obtain ⟨s', acc, rfl, hs', hb, hw, hl, heq⟩ := hrel
    have Heq := hid heq
    clear heq
    have Hb := hid hb
    have Hw := hid hw
    clear hb hw
    cases hn : s'.isEmpty
    · have hne : s' ≠ [] := by rintro rfl; simp at hn
      obtain ⟨hp1, hp2⟩ := chunkLen_pos (size := size) hne
      have hcl : min (max size 1) (s'.length : Int) = (chunkLen size s' : Int) := by unfold chunkLen; omega
      have hnx := encode_next (size := size) hne Heq.out
      clear Heq
      generalize chunkLen size s' = n at *
      have hxl := hexS_length n
      have Hnx := hid hnx
      have Hcl := hid hcl
      clear hcl hnx hne
      go_wp2
      rw [Hcl.out]
      go_region_with (first
        | (go_at_call 18; refine (body_hex _ _ (by omega)).mono ?_; rintro e w' ⟨rfl, rfl⟩)
        | (go_at_call 17; refine (builder_WriteString _ acc _ _ (by exact Hb.out) (by simp; omega)).mono ?_; rintro e w' ⟨rfl, hb1, hb2, hb3⟩))
      go_wp2
      go_roundw
      case rel => exact ⟨s'.drop n, _, rfl, by simp; omega, hb1, Hw.out.drew.trans hb2, by simp; omega, Hnx.out⟩
      case measure => simp [sLen_mk]; omega
    · have hne : s' = [] := by simpa using hn
      go_wp2_with (first
        | (go_at_call 17; refine (builder_WriteString _ acc _ _ Hb.out (by simp; omega)).mono ?_; rintro e w' ⟨rfl, hb1, hb2, hb3⟩)
        | (go_at_call 19; refine (builder_String _ _ _ (by assumption)).mono ?_; rintro e w2 ⟨rfl, hb4, hb5, hb6⟩))
      go_ret
      refine ⟨ret_str ?_, (Hw.out.trans (hb2.trans hb5))⟩
      have := Heq.out
      rw [hne, encode_nil] at this
      exact this


set_option maxHeartbeats 400000 in
theorem chunks_newline (cb : Nat) (r : Bytes) (n : Int) (w : World) (hr : r.length ≤ 4000000000) (hc : w.heap[cb]? = some (.cells #[(Value.string ⟨List.toArray (r)⟩), .int .u64 n] 74 (0, 0))) :
    Calls Tryd.prog 32 #[.pointer (some ⟨cb, 0, none⟩)] w fun e w' => e = .returned (.int .i64 (newline r).1) ∧ w'.heap[cb]? = some (.cells #[(Value.string ⟨List.toArray ((newline r).2)⟩), .int .u64 n] 74 (0, 0)) ∧ Fr (· = cb) w w' := by
  have hc0 : w.cell? ⟨cb, 0, none⟩ = some (Value.string ⟨List.toArray (r)⟩) := Lib.cell_of_heap hc 0
  have hf := Lib.frozen_of_heap hc 0
  have Hc := hid hc
  clear hc
  rcases newline_cases r with ⟨t, rfl⟩ | rfl | rfl | ⟨h1, h2, h3, h4⟩
  · have hp : Lib.hasPrefix (13 :: 10 :: t) [13, 10] = true := rfl
    simp at hr
    go_enter Tryd.func32, Tryd.ntmps32
    go_wp2_with (go_at_call 51; refine (Tryd.strings_HasPrefix _ _ _).mono ?_; rintro e w' ⟨rfl, rfl⟩)
    go_ret
    exact ⟨rfl, heap_set Hc.out _, Fr.set1 _ _⟩
  · have hp : Lib.hasPrefix [] [13, 10] = false := rfl
    go_enter Tryd.func32, Tryd.ntmps32
    go_wp2_with (go_at_call 51; refine (Tryd.strings_HasPrefix _ _ _).mono ?_; rintro e w' ⟨rfl, rfl⟩)
    go_ret
    exact ⟨rfl, Hc.out, Fr.refl _ _⟩
  · have hp : Lib.hasPrefix [13] [13, 10] = false := rfl
    go_enter Tryd.func32, Tryd.ntmps32
    go_wp2_with (go_at_call 51; refine (Tryd.strings_HasPrefix _ _ _).mono ?_; rintro e w' ⟨rfl, rfl⟩)
    go_ret
    exact ⟨rfl, Hc.out, Fr.refl _ _⟩
  · have H4 := hid h4
    clear h4
    go_enter Tryd.func32, Tryd.ntmps32
    go_wp2_with (go_at_call 51; refine (Tryd.strings_HasPrefix _ _ _).mono ?_; rintro e w' ⟨rfl, rfl⟩)
    go_ret
    rw [H4.out]
    exact ⟨rfl, Hc.out, Fr.refl _ _⟩

set_option maxHeartbeats 400000 in
theorem chunks_line (cb : Nat) (r : Bytes) (n : Int) (w : World) (hr : r.length ≤ 4000000000) (hc : w.heap[cb]? = some (.cells #[(Value.string ⟨List.toArray (r)⟩), .int .u64 n] 74 (0, 0))) :
    Calls Tryd.prog 33 #[.pointer (some ⟨cb, 0, none⟩)] w fun e w' => e = .returned (.tuple #[(Value.string ⟨List.toArray (r.take (pre isNL r))⟩), .int .i64 (newline (r.drop (pre isNL r))).1]) ∧ w'.heap[cb]? = some (.cells #[(Value.string ⟨List.toArray ((newline (r.drop (pre isNL r))).2)⟩), .int .u64 n] 74 (0, 0)) ∧ Fr (· = cb) w w' := by
  have hc0 : w.cell? ⟨cb, 0, none⟩ = some (Value.string ⟨List.toArray (r)⟩) := Lib.cell_of_heap hc 0
  have hf := Lib.frozen_of_heap hc 0
  have Hc := hid hc
  have hix : Lib.indexAny r [13, 10] = if pre isNL r < r.length then (pre isNL r : Int) else -1 := indexAny_pre r [13, 10]
  have hle := pre_le isNL r
  have Hix := hid hix
  clear hc hix
  go_enter Tryd.func33, Tryd.ntmps33
  go_wp2_with fail
  refine (strings_IndexAny _ _ _ (by decide) (by decide) (by decide) (by omega)).mono ?_
  rintro e w1 ⟨rfl, hb1⟩
  rw [Hix.out]
  have hc1 : w1.cell? ⟨cb, 0, none⟩ = some (Value.string ⟨List.toArray (r)⟩) := (hb1.cell (heap_lt Hc.out)).trans hc0
  have hf1 : w1.frozen? ⟨cb, 0, none⟩ = false := (hb1.frozen (heap_lt Hc.out)).trans hf
  have Hc1 := hid ((hb1.block cb (heap_lt Hc.out)).trans Hc.out)
  have Hb1 := hid hb1
  clear hc0 hf hb1
  by_cases hlt : pre isNL r < r.length
  · rw [if_pos hlt]
    go_wp2_with (go_at_call 32; refine (chunks_newline cb (r.drop (pre isNL r)) n _ (by simp; omega) (by exact heap_set Hc1.out _)).mono ?_; rintro e w2 ⟨rfl, hc2, hf2⟩)
    go_ret2
    exact ⟨rfl, hc2, ((Fr.of_below Hb1.out (fun k h1 h2 => by omega)).trans (Fr.set1 _ _)).trans hf2⟩
  · have hd : r.drop (pre isNL r) = [] := List.drop_of_length_le (by omega)
    have ht : r.take (pre isNL r) = r := List.take_of_length_le (by omega)
    have Hd := hid hd
    have Ht := hid ht
    clear hd ht
    rw [if_neg hlt]
    go_wp2_with (go_at_call 32; refine (chunks_newline cb [] n _ (by simp) (by exact heap_set Hc1.out _)).mono ?_; rintro e w2 ⟨rfl, hc2, hf2⟩)
    go_ret2
    rw [Hd.out, Ht.out]
    exact ⟨rfl, hc2, ((Fr.of_below Hb1.out (fun k h1 h2 => by omega)).trans (Fr.set1 _ _)).trans hf2⟩

end Go.Proofs.YtjponbpdlioocaaDoor
/- The walks of package body: size lines, chunked bodies. -/
set_option linter.all false
namespace Go.Proofs.YtjponbpdlioocaaDoor
open Go.RowKit Wf
attribute [local go_sem] ex_list app_list get_list

set_option maxHeartbeats 1000000 in
theorem chunks_sizes (cb : Nat) (r : Bytes) (n : Nat) (w : World) (hr : r.length ≤ 4000000000) (hc : w.heap[cb]? = some (.cells #[(Value.string ⟨List.toArray (r)⟩), .int .u64 n] 74 (0, 0))) :
    Calls Tryd.prog 30 #[.pointer (some ⟨cb, 0, none⟩)] w fun e w' => e = .returned (.int .i64 (sizes r n).1) ∧ w'.heap[cb]? = some (.cells #[(Value.string ⟨List.toArray ((sizes r n).2.2)⟩), .int .u64 (sizes r n).2.1] 74 (0, 0)) ∧ Fr (· = cb) w w' := by
  have hc0 : w.cell? ⟨cb, 0, none⟩ = some (Value.string ⟨List.toArray (r)⟩) := Lib.cell_of_heap hc 0
  have Hc := hid hc
  have hle := pre_le (fun c => !isHex c) r
  change hexLen r ≤ r.length at hle
  clear hc
  go_enter Tryd.func30, Tryd.ntmps30
  go_wp2_with fail
  go_loop [3] (fun i => ∃ k : Nat, k ≤ hexLen r ∧ i = .int .i64 k) (fun i => hexLen r - (intOf i).toNat)
  case atStart => exact ⟨0, by omega, rfl⟩
  case round =>
    obtain ⟨k, hk, rfl⟩ := hrel
    by_cases hlt : k < hexLen r
    · have hx : isHex r[k] = true := by have := pre_get (p := fun c => !isHex c) hlt (by omega); simpa using this
      go_wp2_with (go_at_call 48; refine (ascii_IsHex _ _).mono ?_; rintro e w' ⟨rfl, rfl⟩)
      go_round
      case rel => exact ⟨k + 1, by omega, by go_num⟩
      case measure => simp [intOf]; omega
    · obtain rfl : k = hexLen r := by omega
      clear hk hlt
      by_cases hend : hexLen r = r.length
      · have hb1 : ((hexLen r : Int) == (r.length : Int)) = true := by simp [hend]
        have Hs := hid (show sizes r n = (191, n, r) by unfold sizes; rw [if_pos hend])
        go_wp2_with (go_at_call 48; refine (ascii_IsHex _ _).mono ?_; rintro e w' ⟨rfl, rfl⟩)
        go_ret
        rw [Hs.out]
        exact ⟨rfl, Hc.out, Fr.refl _ _⟩
      · have hln : hexLen r < r.length := by omega
        have hb1 : ((hexLen r : Int) == (r.length : Int)) = false := beq_eq_false_iff_ne.2 (by omega)
        have hx : isHex r[hexLen r] = false := by
          have h := pre_at (p := fun c => !isHex c) (l := r) hln
          simp only [Bool.not_eq_true'] at h
          exact h
        clear hend
        have Hsep := hid (sepAt_get hln)
        by_cases hz : hexLen r = 0
        · have Hs := hid (show sizes r n = (190, n, r) by unfold sizes; rw [if_neg (by omega), if_pos (Or.inl hz)])
          have hb2 : ((hexLen r : Int) == 0) = true := by simp [hz]
          clear hz
          go_wp2_with (go_at_call 48; refine (ascii_IsHex _ _).mono ?_; rintro e w' ⟨rfl, rfl⟩)
          go_ret
          rw [Hs.out]
          exact ⟨rfl, Hc.out, Fr.refl _ _⟩
        · have hb2 : ((hexLen r : Int) == 0) = false := beq_eq_false_iff_ne.2 (by omega)
          have hix := semi_at r[hexLen r]
          cases hsep : sepAt r
          · have Hs := hid (show sizes r n = (190, n, r) by unfold sizes; rw [if_neg (by omega), if_pos (Or.inr hsep)])
            have hi : Lib.indexByte [59, 13] r[hexLen r] = -1 := by
              rw [hix]; have := Hsep.out; rw [hsep] at this; simp at this; rw [if_neg (by simp_all), if_neg (by simp_all)]
            have Hi := hid hi
            clear hi hix hsep
            go_wp2_with (first
              | (go_at_call 48; refine (ascii_IsHex _ _).mono ?_; rintro e w' ⟨rfl, rfl⟩)
              | (go_at_call 49; refine (s_IndexByte _ _ _).mono ?_; rintro e w' ⟨rfl, rfl⟩; rw [Hi.out]))
            go_ret
            rw [Hs.out]
            exact ⟨rfl, Hc.out, Fr.refl _ _⟩
          · have hi : ¬ Lib.indexByte [59, 13] r[hexLen r] < 0 := by
              rw [hix]; have := Hsep.out; rw [hsep] at this; simp at this
              rcases this with h | h
              · rw [if_pos h]; decide
              · rw [h]; decide
            have Hs := hid (show sizes r n = if (newline (r.drop (pre isNL r))).1 = 0 then (0, sizeOf' r (hexLen r), (newline (r.drop (pre isNL r))).2) else ((newline (r.drop (pre isNL r))).1, n, (newline (r.drop (pre isNL r))).2) by
              unfold sizes; rw [if_neg (by omega), if_neg (by simp [hz, hsep])])
            clear hix hsep hz
            by_cases he : (newline (r.drop (pre isNL r))).1 = 0
            · have Hs2 := hid (Hs.out.trans (if_pos he))
              have he2 : ((newline (r.drop (pre isNL r))).1 != 0) = false := by simp [he]
              clear he
              have hso : sizeOf' r (hexLen r) = if (numParse isHex 16 4611686018427387904 (r.take (hexLen r))).2 = 0 then (numParse isHex 16 4611686018427387904 (r.take (hexLen r))).1 else 4611686018427387904 := rfl
              generalize hnp : numParse isHex 16 4611686018427387904 (r.take (hexLen r)) = np at hso
              have Hnp := hid hnp
              have Hso := hid hso
              clear hnp hso
              by_cases he3 : np.2 = 0
              · have Hso2 := hid (Hso.out.trans (if_pos he3))
                have he4 : (np.2 != 0) = false := by simp [he3]
                clear he3
                go_wp2_with (first
                  | (go_at_call 48; refine (ascii_IsHex _ _).mono ?_; rintro e w' ⟨rfl, rfl⟩)
                  | (go_at_call 49; refine (s_IndexByte _ _ _).mono ?_; rintro e w' ⟨rfl, rfl⟩)
                  | (go_at_call 50; refine (number_Hex62 _ _ (by simp; omega)).mono ?_; rintro e w3 ⟨rfl, hw3⟩; subst hw3; rw [Hnp.out])
                  | (go_at_call 33; refine (chunks_line cb r n _ hr Hc.out).mono ?_; rintro e w2 ⟨rfl, hc2, hf2⟩; have hk2 := Lib.cell_of_heap hc2 1; have hz2 := Lib.frozen_of_heap hc2 1; replace hc2 := hid hc2))
                go_ret
                rw [Hs2.out, Hso2.out]
                exact ⟨rfl, heap_set hc2.out _, hf2.trans (Fr.set1 _ _)⟩
              · have Hso2 := hid (Hso.out.trans (if_neg he3))
                have he4 : (np.2 != 0) = true := by simp [he3]
                clear he3
                go_wp2_with (first
                  | (go_at_call 48; refine (ascii_IsHex _ _).mono ?_; rintro e w' ⟨rfl, rfl⟩)
                  | (go_at_call 49; refine (s_IndexByte _ _ _).mono ?_; rintro e w' ⟨rfl, rfl⟩)
                  | (go_at_call 50; refine (number_Hex62 _ _ (by simp; omega)).mono ?_; rintro e w3 ⟨rfl, hw3⟩; subst hw3; rw [Hnp.out])
                  | (go_at_call 33; refine (chunks_line cb r n _ hr Hc.out).mono ?_; rintro e w2 ⟨rfl, hc2, hf2⟩; have hk2 := Lib.cell_of_heap hc2 1; have hz2 := Lib.frozen_of_heap hc2 1; replace hc2 := hid hc2))
                go_ret
                rw [Hs2.out, Hso2.out]
                exact ⟨rfl, heap_set hc2.out _, hf2.trans (Fr.set1 _ _)⟩
            · have Hs2 := hid (Hs.out.trans (if_neg he))
              have he2 : ((newline (r.drop (pre isNL r))).1 != 0) = true := by simp [he]
              clear he
              go_wp2_with (first
                | (go_at_call 48; refine (ascii_IsHex _ _).mono ?_; rintro e w' ⟨rfl, rfl⟩)
                | (go_at_call 49; refine (s_IndexByte _ _ _).mono ?_; rintro e w' ⟨rfl, rfl⟩)
                | (go_at_call 33; refine (chunks_line cb r n _ hr Hc.out).mono ?_; rintro e w2 ⟨rfl, hc2, hf2⟩))
              go_ret
              rw [Hs2.out]
              exact ⟨rfl, hc2, hf2⟩

end Go.Proofs.YtjponbpdlioocaaDoor
/- The walk of body.Chunked. -/
set_option linter.all false
namespace Go.Proofs.YtjponbpdlioocaaDoor
open Go.RowKit Wf
attribute [local go_sem] ex_list app_list get_list
def cellLen (w : World) (b : Nat) : Nat := sLen ((w.cell? ⟨b, 0, none⟩).getD undef)
theorem cellLen_of {w : World} {b : Nat} {r : Bytes} {x : Value} {T : TypeId} (h : w.heap[b]? = some (.cells #[(Value.string ⟨List.toArray (r)⟩), x] T (0, 0))) : cellLen w b = r.length := by
  unfold cellLen; rw [Lib.cell_of_heap h 0]; rfl

set_option maxRecDepth 100000 in
set_option maxHeartbeats 2000000 in
theorem body_Chunked (s : Bytes) (most : Int) (w : World) (hs : s.length ≤ 4000000) (h1 : -9223372036854775808 ≤ most) (h2 : most ≤ 9223372036854775807) :
    Calls Tryd.prog 16 #[(Value.string ⟨List.toArray (s)⟩), .int .i64 most] w fun e w' => e = .returned (.tuple #[(Value.string ⟨List.toArray ((chunked s most).1)⟩), .int .i64 (chunked s most).2]) ∧ Below w.heap.size w w' := by
  go_enter Tryd.func16, Tryd.ntmps16
  go_wp2_with fail
  go_step3
  go_wp2_with fail
  go_step3
  go_wp2_with fail
  go_loopw [] (fun wr => ∃ (f : Nat) (acc r : Bytes) (old : Nat), r.length < f ∧ r.length + acc.length ≤ s.length ∧ (0 ≤ most → (acc.length : Int) ≤ most) ∧ old ≤ 4611686018427387904 ∧ Bld w.heap.size acc wr ∧ wr.heap[w.heap.size + 1]? = some (.cells #[(Value.string ⟨List.toArray (r)⟩), .int .u64 old] 74 (0, 0)) ∧ Below w.heap.size w wr ∧ chunkGo most f acc r old = chunked s most) (fun wr => cellLen wr (w.heap.size + 1))
  case atStart =>
    refine ⟨s.length + 1, [], s, 0, by omega, by simp, by simp, by omega, ?_, ?_, ((Below.refl _ _).alloc (Nat.le_refl _) _).alloc (by simp) _, rfl⟩
    · exact (Bld.fresh w).alloc _
    · have := heap_new (w.alloc (.cells #[.pointer none, .slice none 0 0] 52)) (.cells #[(Value.string ⟨List.toArray (s)⟩), .int .u64 0] 74)
      rw [size_alloc] at this
      exact this
  case round =>
    obtain ⟨f, acc, r, old, hf, hra, hm, ho, hb, hc, hw, heq⟩ := hrel
    have Hb := hid hb
    have Hc := hid hc
    have Hw := hid hw
    have Hcl := hid (cellLen_of hc)
    cases f with
    | zero => omega
    | succ f =>
    have hsl := sizes_len r old
    have hsk := sizes_ok (r := r) (old := old)
    have hsb := sizes_bound r old ho
    rw [chunkGo] at heq
    have hsz := chunks_sizes (w.heap.size + 1) r old wr (by omega) hc
    generalize sizes r old = S at hsl hsk hsb heq hsz
    obtain ⟨e, n, r2⟩ := S
    simp only at hsl hsk hsb heq hsz
    have Heq := hid heq
    have Hsz := hid hsz
    clear hb hc hw heq hsz
    by_cases he : e = 0
    · have Hsk := hid (hsk he)
      clear hsk
      subst he
      go_wp2_with fail
      refine Hsz.out.mono ?_
      rintro e w2 ⟨rfl, hc2, hf2⟩
      have hb2 : Bld w.heap.size acc w2 := Hb.out.fr hf2 Hc.out (by decide) (by omega)
      have hw2 := Hw.out.trans (hf2.below (B := w.heap.size) (fun k hk => by omega) (Nat.le_of_lt Hb.out.lt))
      have hn2 := Lib.cell_of_heap hc2 1
      have hr2 := Lib.cell_of_heap hc2 0
      have hz2 := Lib.frozen_of_heap hc2 0
      have Hb2 := hid hb2
      have Hw2 := hid hw2
      have Hc2 := hid hc2
      have Hf2 := hid hf2
      clear hb2 hw2 hc2 hf2
      by_cases hneg : most < 0
      · have Hq := hid ((if_pos (Or.inl hneg)).symm.trans Heq.out)
        go_wp2_with fail
        go_quiet (fail)
        go_wp2_with fail
        rw [Exit.noGoto_ret]
        go_ret2
        rw [← Hq.out]
        exact ⟨rfl, below_drewN Hw2.out _⟩
      · have hm' := hm (by omega)
        have hs1 : IntKind.i64.wrap (most - (acc.length : Int)) = most - (acc.length : Int) := IntWalk.i64_in _ (by omega)
        have hs2 : IntKind.u64.wrap (most - (acc.length : Int)) = most - (acc.length : Int) := u64_in (by omega) (by omega)
        by_cases hbig : most - acc.length < n
        · have Hq := hid ((if_pos (Or.inr hbig)).symm.trans Heq.out)
          go_wp2_with fail
          go_quiet ((go_at_call 31; refine quiet_left (builder_Len _ acc _ (by exact Hb2.out))))
          clear hs1 hs2
          go_wp2_with fail
          rw [Exit.noGoto_ret]
          go_ret2
          rw [← Hq.out]
          exact ⟨rfl, below_drewN Hw2.out _⟩
        · have Hq := hid ((if_neg (show ¬ (most < 0 ∨ most - acc.length < n) by omega)).symm.trans Heq.out)
          have hbg : decide (most - (acc.length : Int) < (n : Int)) = false := decide_eq_false hbig
          by_cases hn0 : n = 0
          · have Hq2 := hid ((if_pos hn0).symm.trans Hq.out)
            have hn0' : ((n : Int) == 0) = true := by simp [hn0]
            go_wp2_with fail
            go_quiet ((go_at_call 31; refine quiet_left (builder_Len _ acc _ (by exact Hb2.out))))
            clear hs1 hs2
            subst hn0
            have Hb3 : Hid (Bld w.heap.size acc (w2.drewN nq)) := hid Hb2.out
            have Hw3 : Hid (Below w.heap.size w (w2.drewN nq)) := hid (below_drewN Hw2.out _)
            have Hc3 : Hid ((w2.drewN nq).heap[w.heap.size + 1]? = some (.cells #[(Value.string ⟨List.toArray (r2)⟩), .int .u64 ((0 : Nat) : Int)] 74 (0, 0))) := hid Hc2.out
            clear Hb Hc Hw Hcl Heq Hsz hn2 hr2 hz2 Hb2 Hw2 Hc2 Hf2 hm ho Hq hsb Hsk hbg hn0'
            have hbg0 : decide (most - (acc.length : Int) < 0) = false := decide_eq_false (by omega)
            generalize w2.drewN nq = w3 at Hb3 Hw3 Hc3 ⊢
            have hn3 := Lib.cell_of_heap Hc3.out 1
            have hr3 := Lib.cell_of_heap Hc3.out 0
            have hng0 : decide (most < 0) = false := decide_eq_false (by omega)
            go_wp2_with fail
            clear hn3 hr3
            simp only [hbg0, hng0, Bool.or_self]
            go_loopw [] (fun wq => ∃ (g : Nat) (q : Bytes), q.length < g ∧ q.length ≤ r2.length ∧ Bld w.heap.size acc wq ∧ wq.heap[w.heap.size + 1]? = some (.cells #[(Value.string ⟨List.toArray (q)⟩), .int .u64 ((0 : Nat) : Int)] 74 (0, 0)) ∧ Below w.heap.size w wq ∧ trailerGo g q = trailerGo (r2.length + 1) r2) (fun wq => cellLen wq (w.heap.size + 1))
            case atStart => exact ⟨r2.length + 1, r2, by omega, by omega, Hb3.out, Hc3.out, Hw3.out, rfl⟩
            case round =>
              obtain ⟨g, q, hg, hq, hb, hc, hw, htr⟩ := hrel
              have Hb4 := hid hb
              have Hc4 := hid hc
              have Hw4 := hid hw
              have Hcl := hid (cellLen_of hc)
              cases g with
              | zero => omega
              | succ g =>
              rw [trailerGo] at htr
              have hln := chunks_line (w.heap.size + 1) q (0 : Nat) wr (by omega) hc
              have hnk := newline_ok (r := q.drop (pre isNL q))
              have hple := pre_le isNL q
              have htl : (q.take (pre isNL q)).length = pre isNL q := by simp; omega
              simp only [List.length_drop] at hnk
              generalize newline (q.drop (pre isNL q)) = E at hln hnk htr
              generalize q.take (pre isNL q) = tk at hln htr htl
              obtain ⟨e, q2⟩ := E
              simp only at hln hnk htr
              have Hln := hid hln
              have Htr := hid htr
              clear hb hc hw hln htr
              by_cases he : e = 0
              · have hnk' := hnk he
                clear hnk
                subst he
                by_cases htk : tk = []
                · have htk' : tk.isEmpty = true := by simp [htk]
                  have Htr2 := hid ((if_pos htk).symm.trans ((if_neg (show ¬ ((0 : Int) ≠ 0) by simp)).symm.trans Htr.out))
                  go_wp2_with fail
                  refine Hln.out.mono ?_
                  rintro e w2 ⟨rfl, hc2, hf2⟩
                  have Hc2 := hid hc2
                  have Hf2 := hid hf2
                  have Hb5 := hid (Hb4.out.fr hf2 Hc4.out (by decide) (by omega))
                  have Hw5 := hid (Hw4.out.trans (hf2.below (B := w.heap.size) (fun k hk => by omega) (Nat.le_of_lt Hb4.out.lt)))
                  clear hc2 hf2
                  go_wp2_with (go_at_call 19; refine (builder_String _ acc _ Hb5.out).mono ?_; rintro e w6 ⟨rfl, hb6, hw6, ho6⟩)
                  rw [Exit.noGoto_ret]
                  go_ret2
                  have hq := Hq2.out
                  rw [← Htr2.out, if_neg (by simp)] at hq
                  rw [← hq]
                  exact ⟨rfl, Hw5.out.trans hw6⟩
                · have htk' : tk.isEmpty = false := by simp [htk]
                  have Htr2 := hid ((if_neg htk).symm.trans ((if_neg (show ¬ ((0 : Int) ≠ 0) by simp)).symm.trans Htr.out))
                  go_wp2_with fail
                  refine Hln.out.mono ?_
                  rintro e w2 ⟨rfl, hc2, hf2⟩
                  have Hc2 := hid hc2
                  have Hb5 := hid (Hb4.out.fr hf2 Hc4.out (by decide) (by omega))
                  have Hw5 := hid (Hw4.out.trans (hf2.below (B := w.heap.size) (fun k hk => by omega) (Nat.le_of_lt Hb4.out.lt)))
                  clear hc2 hf2
                  go_wp2_with fail
                  refine ⟨⟨g, q2, by omega, by omega, Hb5.out, Hc2.out, Hw5.out, Htr2.out⟩, ?_⟩
                  rw [cellLen_of Hc2.out, Hcl.out]
                  omega
              · have he2 : (e != 0) = true := by simp [he]
                go_wp2_with fail
                refine Hln.out.mono ?_
                rintro e w2 ⟨rfl, hc2, hf2⟩
                have Htr2 := hid ((if_pos he).symm.trans Htr.out)
                go_wp2_with fail
                rw [Exit.noGoto_ret]
                go_ret2
                have hq := Hq2.out
                rw [← Htr2.out, if_pos he] at hq
                rw [← hq]
                exact ⟨rfl, Hw4.out.trans (hf2.below (B := w.heap.size) (fun k hk => by omega) (Nat.le_of_lt Hb4.out.lt))⟩
          · have Hq2 := hid ((if_neg hn0).symm.trans Hq.out)
            have hn0' : ((n : Int) == 0) = false := by simp [hn0]
            clear Heq Hq
            go_wp2_with fail
            go_quiet ((go_at_call 31; refine quiet_left (builder_Len _ acc _ (by exact Hb2.out))))
            clear hs1 hs2
            have Hb3 : Hid (Bld w.heap.size acc (w2.drewN nq)) := hid Hb2.out
            have Hw3 : Hid (Below w.heap.size w (w2.drewN nq)) := hid (below_drewN Hw2.out _)
            have Hc3 : Hid ((w2.drewN nq).heap[w.heap.size + 1]? = some (.cells #[(Value.string ⟨List.toArray (r2)⟩), .int .u64 (n : Int)] 74 (0, 0))) := hid Hc2.out
            clear Hb Hc Hw Hsz hn2 hr2 hz2 Hb2 Hw2 Hc2 Hf2 hm ho hbg
            generalize w2.drewN nq = w3 at Hb3 Hw3 Hc3 ⊢
            have hn3 := Lib.cell_of_heap Hc3.out 1
            have hr3 := Lib.cell_of_heap Hc3.out 0
            have hz3 := Lib.frozen_of_heap Hc3.out 0
            have hs3 : IntKind.u64.wrap (r2.length : Int) = (r2.length : Int) := u64_in (by omega) (by omega)
            by_cases hsh : r2.length < n
            · have Hq3 := hid ((if_pos hsh).symm.trans Hq2.out)
              go_wp2_with fail
              go_quiet (fail)
              clear hs3
              go_wp2_with fail
              rw [Exit.noGoto_ret]
              go_ret2
              rw [← Hq3.out]
              exact ⟨rfl, below_drewN Hw3.out _⟩
            · have Hq3 := hid ((if_neg hsh).symm.trans Hq2.out)
              have hsh' : decide ((r2.length : Int) < (n : Int)) = false := decide_eq_false (by omega)
              go_wp2_with fail
              go_quiet (fail)
              clear hs3
              go_wp2_with fail
              have hr4 : (w3.drewN nq).cell? ⟨w.heap.size + 1, 0, none⟩ = some (Value.string ⟨List.toArray (r2)⟩) := hr3
              have hn4 : (w3.drewN nq).cell? ⟨w.heap.size + 1, 1, none⟩ = some (.int .u64 n) := hn3
              have Hb4 : Hid (Bld w.heap.size acc (w3.drewN nq)) := hid Hb3.out
              have Hw4 : Hid (Below w.heap.size w (w3.drewN nq)) := hid (below_drewN Hw3.out _)
              have Hc4 : Hid ((w3.drewN nq).heap[w.heap.size + 1]? = some (.cells #[(Value.string ⟨List.toArray (r2)⟩), .int .u64 (n : Int)] 74 (0, 0))) := hid Hc3.out
              clear hr3 hn3 hz3
              have hle4 : n ≤ r2.length := by omega
              generalize w3.drewN nq = w4 at hr4 hn4 Hb4 Hw4 Hc4 ⊢
              go_still_tail 9, (by kernel_rfl)
              change wpList _ _ _ _ _ w4.drew
              have hb4 : Bld w.heap.size acc w4.drew := Hb4.out
              have hw4 : Below w.heap.size w w4.drew := Hw4.out.drew
              have hc4 : w4.drew.heap[w.heap.size + 1]? = some (.cells #[(Value.string ⟨List.toArray (r2)⟩), .int .u64 (n : Int)] 74 (0, 0)) := Hc4.out
              have Hb5 := hid hb4
              have Hw5 := hid hw4
              have Hc5 := hid hc4
              clear hr4 hn4 Hb4 Hw4 Hc4 hb4 hw4 hc4
              generalize w4.drew = w5 at Hb5 Hw5 Hc5 ⊢
              go_wp2_with (go_at_call 17; refine (builder_WriteString _ acc (r2.take n) _ (by exact Hb5.out) (by simp; omega)).mono ?_; rintro e w6 ⟨rfl, hb6, hw6, ho6⟩)
              have hc6 := Fr.kept ho6 Hc5.out (by omega) (by decide)
              have hr6 := Lib.cell_of_heap hc6 0
              have hn6 := Lib.cell_of_heap hc6 1
              have hz6 := Lib.frozen_of_heap hc6 0
              have Hb6 := hid hb6
              have Hw6 := hid (Hw5.out.trans hw6)
              have Hc6 := hid hc6
              clear Hb5 Hw5 Hc5 hb6 hw6 ho6 hc6
              go_still_tail 12, (by kernel_rfl)
              change wpList _ _ _ _ _ w6.drew
              go_wp2_with fail
              have hnl := chunks_newline (w.heap.size + 1) (r2.drop n) n (w6.setCell ⟨w.heap.size + 1, 0, none⟩ (Value.string ⟨List.toArray (r2.drop n)⟩)).drew (by simp; omega) (by exact heap_set Hc6.out _)
              have hnk := newline_le (r2.drop n)
              simp only [List.length_drop] at hnk
              have hq4 := Hq3.out
              clear Hq2 Hq3 hr6 hn6 hz6
              generalize newline (r2.drop n) = E at hnl hnk hq4
              obtain ⟨e2, q2⟩ := E
              simp only at hnl hnk hq4
              have Hnl := hid hnl
              have Hq4 := hid hq4
              clear hnl hq4
              have Hw7 : Hid (Below w.heap.size w (w6.setCell ⟨w.heap.size + 1, 0, none⟩ (Value.string ⟨List.toArray (r2.drop n)⟩)).drew) := hid ((Hw6.out.setCell (p := ⟨w.heap.size + 1, 0, none⟩) (by simp) _).drew)
              have Hb7 : Hid (Bld w.heap.size (acc ++ r2.take n) (w6.setCell ⟨w.heap.size + 1, 0, none⟩ (Value.string ⟨List.toArray (r2.drop n)⟩)).drew) := hid (Hb6.out.fr (Fr.set1 _ _).drew Hc6.out (by decide) (by omega))
              have Hc7 : Hid ((w6.setCell ⟨w.heap.size + 1, 0, none⟩ (Value.string ⟨List.toArray (r2.drop n)⟩)).drew.heap[w.heap.size + 1]? = some (.cells #[(Value.string ⟨List.toArray (r2.drop n)⟩), .int .u64 (n : Int)] 74 (0, 0))) := hid (heap_set Hc6.out _)
              clear Hb6 Hw6 Hc6
              have hml : (r2.take n).length = n := by simp; omega
              have Hml := hid hml
              clear hml
              generalize (w6.setCell ⟨w.heap.size + 1, 0, none⟩ (Value.string ⟨List.toArray (r2.drop n)⟩)).drew = w7 at Hnl Hw7 Hb7 Hc7 ⊢
              refine Hnl.out.mono ?_
              rintro e w8 ⟨rfl, hc8, hf8⟩
              have Hc8 := hid hc8
              have Hw8 := hid (Hw7.out.trans (hf8.below (B := w.heap.size) (fun k hk => by omega) (Nat.le_of_lt Hb7.out.lt)))
              have Hb8 := hid (Hb7.out.fr hf8 Hc7.out (by decide) (by omega))
              clear hc8 hf8 Hb7 Hw7 Hc7
              by_cases hee : e2 = 0
              · have Hq5 := hid ((if_neg (show ¬ (e2 ≠ 0) by simp [hee])).symm.trans Hq4.out)
                have he2 : (e2 != 0) = false := by simp [hee]
                clear hee Hq4
                go_wp2_with fail
                have hsk2 := Hsk.out
                refine ⟨⟨f, acc ++ r2.take n, q2, n, by omega, by simp; omega, fun _ => by simp only [List.length_append, Hml.out]; omega, by omega, Hb8.out, Hc8.out, Hw8.out, Hq5.out⟩, ?_⟩
                rw [cellLen_of Hc8.out, Hcl.out]
                omega
              · have Hq5 := hid ((if_pos (show e2 ≠ 0 from hee)).symm.trans Hq4.out)
                have he2 : (e2 != 0) = true := by simp [hee]
                clear hee Hq4
                go_wp2_with fail
                rw [Exit.noGoto_ret]
                go_ret2
                rw [← Hq5.out]
                exact ⟨rfl, Hw8.out⟩
    · have he2 : (e != 0) = true := by simp [he]
      clear hsk
      go_wp2_with fail
      refine Hsz.out.mono ?_
      rintro e w2 ⟨rfl, hc2, hf2⟩
      go_wp2_with fail
      rw [Exit.noGoto_ret]
      go_ret2
      rw [if_pos he] at Heq
      rw [← Heq.out]
      exact ⟨rfl, Hw.out.trans (hf2.below (B := w.heap.size) (fun k hk => by omega) (Nat.le_of_lt Hb.out.lt))⟩
end Go.Proofs.YtjponbpdlioocaaDoor
/- The walks of the reference of package body. -/
set_option linter.all false
namespace Go.Proofs.YtjponbpdlioocaaDoor
open Go.RowKit Wf
attribute [local go_sem] ex_list app_list get_list

end Go.Proofs.YtjponbpdlioocaaDoor
/- The walks of the statements on package body. -/
set_option linter.all false
namespace Go.Proofs.YtjponbpdlioocaaDoor
open Go.RowKit Wf
attribute [local go_sem] ex_list app_list get_list
theorem enc_abc : encode 2 [97, 98, 99] = [50, 13, 10, 97, 98, 13, 10, 49, 13, 10, 99, 13, 10, 48, 13, 10, 13, 10] := by
  rw [encode_ne (by simp)]
  have h1 : chunkLen 2 [97, 98, 99] = 2 := by decide
  rw [h1, encode_ne (by simp)]
  have h2 : chunkLen 2 (List.drop 2 [97, 98, 99]) = 1 := by decide
  rw [h2]
  have h3 : hexS 2 = [50] := by rw [hexS_pos (by omega), show 2 / 16 = 0 from rfl, hexS_zero]; decide
  have h4 : hexS 1 = [49] := by rw [hexS_pos (by omega), show 1 / 16 = 0 from rfl, hexS_zero]; decide
  rw [h3, h4]
  simp [encode_nil, crlf]

set_option maxHeartbeats 400000 in
theorem law19_sane (w : World) : Calls Tryd.prog 6 #[] w fun e w' => e = .returned (.bool true) ∧ Below w.heap.size w w' := by
  have a1 : chunked [51, 13, 10, 97, 98, 99, 13, 10, 48, 13, 10, 13, 10] 9 = ([97, 98, 99], 0) := by decide +kernel
  have a2 : (chunked [51, 13, 10, 97, 98] 9).2 = 191 := by decide +kernel
  have a3 : (chunked [103, 13, 10] 9).2 = 190 := by decide +kernel
  have A1 := hid a1
  have A2 := hid a2
  have A3 := hid a3
  clear a1 a2 a3
  go_enter Tryd.func6, Tryd.ntmps6
  go_wp2_with fail
  refine (body_Chunked _ 9 _ (by decide) (by decide) (by decide)).mono ?_
  rintro e w1 ⟨rfl, hw1⟩
  rw [A1.out]
  go_wp2_with fail
  refine (body_Chunked _ 9 _ (by decide) (by decide) (by decide)).mono ?_
  rintro e w2 ⟨rfl, hw2⟩
  rw [A2.out]
  go_wp2_with fail
  refine (body_Chunked _ 9 _ (by decide) (by decide) (by decide)).mono ?_
  rintro e w3 ⟨rfl, hw3⟩
  rw [A3.out]
  go_wp2_with fail
  refine (body_Encode _ 2 _ (by decide) (by decide) (by decide)).mono ?_
  rintro e w4 ⟨rfl, hw4⟩
  rw [enc_abc]
  go_wp2_with fail
  go_ret
  exact ⟨rfl, below_all hw1 (below_all hw2 (below_all hw3 hw4))⟩

end Go.Proofs.YtjponbpdlioocaaDoor
/- The library's contracts on strings, for the calculus of conditions. -/
set_option linter.all false
namespace Go.Proofs.YtjponbpdlioocaaDoor
open Go Vc Go.RowKit Wf
theorem below_draws {w w' : World} (h : ∃ n, w' = w.drewN n) : Below w.heap.size w w' := by
  obtain ⟨n, rfl⟩ := h
  exact below_drewN (Below.refl _ _) _
theorem below_same {w w' : World} (h : w = w') : Below w.heap.size w w' := by subst h; exact Below.refl _ _
theorem p_Cut (l : Bytes) (c : UInt8) (hl : l.length < 4294967281) : PC Tryd.V 37 [.str l, .str [c]] (.tup [.str (cutC c l).1, .str (cutC c l).2.1, .bool (cutC c l).2.2]) :=
  ⟨Tryd.call37, by simp [flat, flat.flatL], by simp [flat, flat.flatL], fun w hE => (s_Cut l c w hE hl).mono fun _ _ ⟨h, k⟩ => ⟨h, below_draws k⟩⟩
def lastB (s : Bytes) (c : UInt8) : Int := Lib.lastIndexByte ⟨List.toArray s⟩ c.toNat
end Go.Proofs.YtjponbpdlioocaaDoor
/- The walks of package host. -/
set_option linter.all false
namespace Go.Proofs.YtjponbpdlioocaaDoor
open Go.RowKit Wf
attribute [local go_sem] ex_list app_list get_list

end Go.Proofs.YtjponbpdlioocaaDoor
/- The walks of package host: ports, hosts with ports, texts. -/
set_option linter.all false
namespace Go.Proofs.YtjponbpdlioocaaDoor
open Go.RowKit Go.Sort Wf
attribute [local go_sem] ex_list app_list get_list

end Go.Proofs.YtjponbpdlioocaaDoor
/- Slices of the call's own: one element appended. -/
set_option linter.all false
namespace Wf
open Go Go.RowKit
end Wf
/- The walks of the reference of package host. -/
set_option linter.all false
namespace Go.Proofs.YtjponbpdlioocaaDoor
open Go.RowKit Go.Sort Wf
attribute [local go_sem] ex_list app_list get_list

def RetStrs (w : World) (l : List Bytes) (e : Ending) (w' : World) : Prop := ∃ v, e = .returned v ∧ w'.ownsRow w.heap.size 9 1 v l.length (l.map strV) ∧ Below w.heap.size w w'

end Go.Proofs.YtjponbpdlioocaaDoor
/- The walks of the reference of package host: hosts, ports, texts. -/
set_option linter.all false
namespace Go.Proofs.YtjponbpdlioocaaDoor
open Go.RowKit Go.Sort Wf
attribute [local go_sem] ex_list app_list get_list

end Go.Proofs.YtjponbpdlioocaaDoor
/- The contracts of package host and its reference, for the calculus of conditions. -/
set_option linter.all false
set_option maxRecDepth 20000
namespace Go.Proofs.YtjponbpdlioocaaDoor
open Go Vc Go.RowKit Wf
theorem p_Lower (s : Bytes) (hs : s.length ≤ 9223372036854775807) : PC Tryd.V 21 [.str s] (.str (lower s)) :=
  ⟨Tryd.call21, by simp [flat, flat.flatL], by simp [flat, flat.flatL], fun w hE => (ascii_Lower s w hs).mono fun _ _ ⟨h, k⟩ => ⟨h, k⟩⟩
theorem p_Equal (s t : Bytes) (hs : s.length ≤ 9223372036854775807) (ht : t.length ≤ 9223372036854775807) : PC Tryd.V 54 [.str s, .str t] (.bool (lower s == lower t)) := by
  refine pc_of 3000 Tryd.func54 rfl Tryd.ntmps54 Tryd.results54 Tryd.call54 (by simp) (by simp [flat, flat.flatL]) (by simp [flat, flat.flatL]) ?_
  simp only [lawG, ↓Xn, ↓Xo, ↓Xg, ↓Xd, ↓Xe, ↓Xf, Tryd.VΓ, Tryd.Γs, Xp, Xi, Nat.reduceAdd, Nat.reduceSub, Nat.reduceLT, Nat.reduceLeDiff, reduceIte, reduceCtorEq, Nat.reduceEqDiff, implies_true, forall_const, lawV]
  (refine callV_pc (p_Lower s hs) ?_; simp only [lawG, ↓Xn, ↓Xo, ↓Xg, ↓Xd, ↓Xe, ↓Xf, Tryd.VΓ, Tryd.Γs, Xp, Xi, Nat.reduceAdd, Nat.reduceSub, Nat.reduceLT, Nat.reduceLeDiff, reduceIte, reduceCtorEq, Nat.reduceEqDiff, implies_true, forall_const, lawV])
  (refine callV_pc (p_Lower t ht) ?_; simp only [lawG, ↓Xn, ↓Xo, ↓Xg, ↓Xd, ↓Xe, ↓Xf, Tryd.VΓ, Tryd.Γs, Xp, Xi, Nat.reduceAdd, Nat.reduceSub, Nat.reduceLT, Nat.reduceLeDiff, reduceIte, reduceCtorEq, Nat.reduceEqDiff, implies_true, forall_const, lawV])
end Go.Proofs.YtjponbpdlioocaaDoor
/- A calculus of conditions: a strings.Builder is one thing of the state. -/
set_option linter.all false
namespace Vc
open Go Go.RowKit Wf
theorem FrW.mono {own own' : Nat → Prop} {w w' : World} (h : FrW own w w') (k : ∀ b, own b → own' b) : FrW own' w w' :=
  ⟨h.os, h.tape, h.output, h.size, fun b hb hn => h.block b hb (fun e => hn (k b e))⟩
def BldR (TB TU : TypeId) (l : List UInt8) : Rsc where
  holds t fp w := t.off = 0 ∧ ∃ (p : Value) (t2 : Bt) (f2 : Nat → Prop), (p = .pointer none ∨ p = .pointer (some ⟨t.blk, 0, none⟩)) ∧
    (∃ fz, Head w t.blk TB [p, oV t2 l.length] [] fz) ∧ Holds bt0 t2 f2 w (.own (l.map u8S) TU 1 l.length true) ∧ ¬ f2 t.blk ∧ ∀ k, fp k ↔ k = t.blk ∨ f2 k
  stays b fp w w' := by
    rintro ⟨h0, p, t2, f2, hp, ⟨fz, h1, h2⟩, h3, h4, h5⟩ hk
    exact ⟨h0, p, t2, f2, hp, ⟨fz, (hk _ ((h5 _).2 (.inl rfl))).trans h1, h2⟩, h3.stays (fun k hf => hk k ((h5 k).2 (.inr hf))), h4, h5⟩
theorem res_agr {b1 b2 : Nat → Bt} {t t' : Bt} {fq fq' : Nat → Prop} {w w' : World} {r : Res} (h1 : Holds b1 t fq w r) (h2 : Holds b2 t fq w r) (h : Holds b1 t' fq' w' r) : Holds b2 t' fq' w' r := by
  cases r with
  | cells c T m =>
    obtain ⟨-, ⟨r1, f1, d1, rfl⟩, -⟩ := h1
    obtain ⟨-, ⟨r2, f2, d2, rfl⟩, -⟩ := h2
    have e := lies_agr (by simp) d1.lies d2.lies
    simp only [Holds] at h ⊢
    rw [← e]; exact h
  | own c e s n m =>
    rcases h1 with ⟨-, -, rfl, -⟩ | ⟨-, -, -, -, l1, -⟩
    · simpa [Holds] using h
    · rcases h2 with ⟨-, -, rfl, -⟩ | ⟨-, -, -, -, l2, -⟩
      · simpa [Holds] using h
      · have e := lies_agr (by simp) l1 l2
        simp only [Holds] at h ⊢
        rw [← e]; exact h
  | ext R => exact h
  | gone => exact h
variable {V : Cx} {f : FuncId} {args : List SV} {bs : List Res} {R : SV → List Res → Prop}
theorem SC.mono {R R' : SV → List Res → Prop} (h : SC V f args bs R) (k : ∀ r bs', R r bs' → R' r bs') : SC V f args bs R' := by
  refine ⟨h.1, fun β fp w hbx hG hE => (h.2 β fp w hbx hG hE).mono ?_⟩
  rintro e w' ⟨r, bs', β₂, fp₂, hR, h2⟩
  exact ⟨r, bs', β₂, fp₂, k _ _ hR, h2⟩
/-! slices that grow -/
theorem at_new (b : List Res) (X : Res) : (b ++ [X])[b.length]? = some X := by simp
theorem at_old {b : List Res} {j : Nat} {r : Res} (h : b[j]? = some r) (X : List Res) : (b ++ X)[j]? = some r := by
  rw [List.getElem?_append_left ((List.getElem?_eq_some_iff.1 h).1)]; exact h
def Sl (e s L : Nat) (x : SV) (b : List Res) (c : List SV) (n : Nat) : Prop := (x = .nils ∧ c = [] ∧ n = 0) ∨ ∃ j, x = .o j n ∧ L ≤ j ∧ b[j]? = some (.own c e s n true)
def Kp (bs b : List Res) : Prop := bs.length ≤ b.length ∧ ∀ k, k < bs.length → b[k]? = bs[k]?
theorem Kp.refl (bs : List Res) : Kp bs bs := ⟨Nat.le_refl _, fun _ _ => rfl⟩
theorem Kp.trans {a b c : List Res} (h : Kp a b) (k : Kp b c) : Kp a c := ⟨Nat.le_trans h.1 k.1, fun i hi => (k.2 i (Nat.lt_of_lt_of_le hi h.1)).trans (h.2 i hi)⟩
theorem Kp.app {bs b : List Res} (h : Kp bs b) (X : List Res) : Kp bs (b ++ X) := ⟨by rw [List.length_append]; have := h.1; omega, fun k hk => by rw [List.getElem?_append_left (by have := h.1; omega)]; exact h.2 k hk⟩
theorem Kp.set {bs b : List Res} (h : Kp bs b) {j : Nat} (hj : bs.length ≤ j) (X : Res) : Kp bs (b.set j X) := ⟨by rw [List.length_set]; exact h.1, fun k hk => by rw [List.getElem?_set_ne (by omega)]; exact h.2 k hk⟩
theorem Kp.at {bs b : List Res} (h : Kp bs b) {j : Nat} {r : Res} (hj : bs[j]? = some r) : b[j]? = some r := (h.2 j ((List.getElem?_eq_some_iff.1 hj).1)).trans hj
theorem Sl.app {e s L : Nat} {x : SV} {b : List Res} {c : List SV} {n : Nat} (h : Sl e s L x b c n) (X : List Res) : Sl e s L x (b ++ X) c n := by
  rcases h with h | ⟨j, h1, h2, h3⟩
  · exact .inl h
  · exact .inr ⟨j, h1, h2, at_old h3 X⟩
theorem set_new {α : Type} (b : List α) (X Y : α) : (b ++ [X]).set b.length Y = b ++ [Y] := by simp
theorem set_prev {α : Type} (b : List α) (X Y Z : α) : (b ++ [X] ++ [Y]).set b.length Z = b ++ [Z] ++ [Y] := by simp
theorem set_prev2 {α : Type} (b : List α) (X Y Z W : α) : (b ++ [X] ++ [Y] ++ [W]).set b.length Z = b ++ [Z] ++ [Y] ++ [W] := by simp
theorem at_prev {α : Type} (b : List α) (X Y : α) : (b ++ [X] ++ [Y])[b.length]? = some X := by simp
theorem at_prev2 {α : Type} (b : List α) (X Y Z : α) : (b ++ [X] ++ [Y] ++ [Z])[b.length]? = some X := by simp
theorem at_prev3 {α : Type} (b : List α) (X Y Z W : α) : (b ++ [X] ++ [Y] ++ [Z] ++ [W])[b.length]? = some X := by simp
theorem at_prev4 {α : Type} (b : List α) (X Y Z W U : α) : (b ++ [X] ++ [Y] ++ [Z] ++ [W] ++ [U])[b.length]? = some X := by simp
def lawB := And.intro (And.intro (@at_new) (And.intro (@at_prev) (@at_prev2))) (And.intro (And.intro (@at_prev3) (@at_prev4)) (And.intro (@set_new) (And.intro (@set_prev) (@set_prev2))))
end Vc
/- A library call that makes a row, as a contract of the calculus. -/
set_option linter.all false
namespace Go.Proofs.YtjponbpdlioocaaDoor
open Go Vc Go.RowKit
theorem heap_new0 (w : World) (o : Obj) : (w.alloc o).heap[w.heap.size]? = some o := by
  show (w.heap.push o)[w.heap.size]? = some o
  simp
theorem heap_size0 (w : World) (o : Obj) : (w.alloc o).heap.size = w.heap.size + 1 := by
  show (w.heap.push o).size = _
  simp
theorem sc_row {V : Cx} {f : FuncId} {args : List SV} {bs : List Res} {c : List SV} {T : TypeId} (hent : Vc.Enters V f) (hfa : flat.flatL args = true) (hfc : flat.flatL c = true) (hn : c.length ≤ maxLen)
    (h : ∀ w, V.E w → Calls V.P f (concL bt0 args).toArray w fun e w' => e = .returned (.slice (some ⟨w.heap.size, 0, none⟩) c.length c.length) ∧ w' = w.alloc (.cells (concL bt0 c).toArray T)) :
    SC V f args bs (fun r b => r = .o bs.length c.length ∧ b = bs ++ [.own c T 1 c.length true]) := by
  refine ⟨hent, fun β fp w hbx hG hE => ?_⟩
  rw [concL_flat args hfa β bt0]
  refine (h w hE).mono ?_
  rintro e w' ⟨rfl, rfl⟩
  have hb : Below w.heap.size w (w.alloc (.cells (concL bt0 c).toArray T)) := Below.alloc (Below.refl _ _) (Nat.le_refl _) _
  refine ⟨.o bs.length c.length, bs ++ [.own c T 1 c.length true], fun i => if i < bs.length then β i else ⟨w.heap.size, 0, c.length + 1⟩,
    fun i k => if i < bs.length then fp i k else (i = bs.length ∧ k = w.heap.size), ⟨rfl, rfl⟩, fun i hi => by simp [hi], by simp, fun β' hβ => ?_, FrW.of_below hb, ?_⟩
  · have hAgr : Agr bs.length β β' := fun i hi => by
      have := hβ i (by rw [List.length_append]; omega)
      simpa [hi] using this
    have hn1 : β' bs.length = ⟨w.heap.size, 0, c.length + 1⟩ := by
      have := hβ bs.length (by simp)
      simpa using this.symm
    have hbw := hbx β' hAgr
    refine ⟨?_, ?_, ?_, ?_⟩
    · simp [conc, hn1, oV]
    · intro i r hi
      rcases Nat.lt_or_ge i bs.length with hlt | hge
      · rw [List.getElem?_append_left hlt] at hi
        have := (hbw.holds i r hi).stays (w' := w.alloc (.cells (concL bt0 c).toArray T)) (fun k hk => hb.block k (hbw.lt i r hi k hk))
        simpa [hlt] using this
      · rw [List.getElem?_append_right hge] at hi
        obtain rfl : i = bs.length := by
          rcases Nat.eq_or_lt_of_le hge with e | e
          · exact e.symm
          · rw [List.getElem?_eq_none (by simp; omega)] at hi; cases hi
        simp only [Nat.sub_self, List.getElem?_cons_zero, Option.some.injEq] at hi
        subst hi
        right
        have hc : (concL bt0 c) = c.map (conc β') := by rw [← concL_map, concL_flat c hfc bt0 β']
        have hhd : Head (w.alloc (.cells (concL bt0 c).toArray T)) w.heap.size T (c.map (conc β')) [] (0, 0) := ⟨by rw [List.append_nil, ← hc]; exact heap_new0 _ _, .inr (Nat.le_refl _)⟩
        rw [hn1]
        exact ⟨by simp, by simp, by simpa using hn, by simp, hhd.lies, fun _ => ⟨rfl, [], (0, 0), hhd, .inr (Nat.le_refl _), by simp⟩, fun k => by simp⟩
    · intro i r hi k hk
      rcases Nat.lt_or_ge i bs.length with hlt | hge
      · rw [List.getElem?_append_left hlt] at hi
        simp only [hlt, if_true] at hk
        exact Nat.lt_of_lt_of_le (hbw.lt i r hi k hk) hb.size
      · simp only [show ¬ i < bs.length by omega, if_false] at hk
        rw [hk.2, heap_size0]
        omega
    · intro i j r r' hi hj hij hm k hk hk'
      rcases Nat.lt_or_ge i bs.length with hlt | hge
      · rw [List.getElem?_append_left hlt] at hi
        simp only [hlt, if_true] at hk
        rcases Nat.lt_or_ge j bs.length with hjt | hjg
        · rw [List.getElem?_append_left hjt] at hj
          simp only [hjt, if_true] at hk'
          exact hbw.sep i j r r' hi hj hij hm k hk hk'
        · simp only [show ¬ j < bs.length by omega, if_false] at hk'
          have := hbw.lt i r hi k hk
          omega
      · simp only [show ¬ i < bs.length by omega, if_false] at hk
        rcases Nat.lt_or_ge j bs.length with hjt | hjg
        · rw [List.getElem?_append_left hjt] at hj
          simp only [hjt, if_true] at hk'
          have := hbw.lt j r' hj k hk'
          omega
        · simp only [show ¬ j < bs.length by omega, if_false] at hk'
          omega
  · refine ⟨fun i r' hi hm k hk => ?_, fun i r' hi k hk => ?_⟩
    · rcases Nat.lt_or_ge i bs.length with hlt | hge
      · rw [List.getElem?_append_left hlt] at hi
        simp only [hlt, if_true] at hk
        exact .inr ⟨i, r', hi, hm, hk⟩
      · simp only [show ¬ i < bs.length by omega, if_false] at hk
        exact .inl (by omega)
    · rcases Nat.lt_or_ge i bs.length with hlt | hge
      · rw [List.getElem?_append_left hlt] at hi
        simp only [hlt, if_true] at hk
        exact .inr ⟨i, r', hi, hk⟩
      · simp only [show ¬ i < bs.length by omega, if_false] at hk
        exact .inl (by omega)
end Go.Proofs.YtjponbpdlioocaaDoor
/- Builders: the contracts on their methods. -/
set_option linter.all false
set_option maxRecDepth 20000
namespace Go.Proofs.YtjponbpdlioocaaDoor
open Go Vc Go.RowKit Wf
set_option linter.unusedSimpArgs false
end Go.Proofs.YtjponbpdlioocaaDoor
/- Builders with a text, perhaps not yet written to; strings.Split. -/
set_option linter.all false
set_option maxRecDepth 20000
namespace Go.Proofs.YtjponbpdlioocaaDoor
open Go Vc Go.RowKit Wf
set_option linter.unusedSimpArgs false
theorem flat_strs : ∀ L : List Bytes, flat.flatL (L.map SV.str) = true
  | [] => by simp [flat.flatL]
  | x :: L => by simp [flat.flatL, flat, flat_strs L]
theorem sc_strSplit {bs : List Res} (s sep : Bytes) (L : List Bytes) (hL : Lib.splitK sep 0 (Lib.count s sep) s = L) (hs : s.length ≤ 1100000) (hp : 1 ≤ sep.length) :
    SC Tryd.V 39 [.str s, .str sep] bs (fun r b => r = .o bs.length L.length ∧ b = bs ++ [.own (L.map SV.str) 9 1 L.length true]) := by
  have hd := Lib.splitB_data ⟨List.toArray sep⟩ 0 (Lib.countB ⟨List.toArray s⟩ ⟨List.toArray sep⟩) ⟨List.toArray s⟩
  have hlen := Lib.splitB_all ⟨List.toArray sep⟩ hp 0 _ ⟨List.toArray s⟩ rfl
  have hle := Lib.countB_le ⟨List.toArray sep⟩ hp s.length ⟨List.toArray s⟩ (Nat.le_refl _)
  have hz : (⟨List.toArray s⟩ : ByteArray).size = s.length := rfl
  have hcl : Lib.countB ⟨List.toArray s⟩ ⟨List.toArray sep⟩ + 1 = L.length := by
    rw [← hlen, ← hL]
    have := congrArg List.length hd
    rw [List.length_map] at this
    exact this
  have e : (Lib.splitB ⟨List.toArray sep⟩ 0 (Lib.countB ⟨List.toArray s⟩ ⟨List.toArray sep⟩) ⟨List.toArray s⟩).map Value.string = L.map strV := by
    rw [← hL]
    refine Eq.trans ?_ (congrArg (List.map strV) hd)
    rw [List.map_map]
    exact List.map_congr_left fun x _ => rfl
  refine (sc_row (V := Tryd.V) (c := L.map SV.str) (T := 9) Tryd.call39 (by simp [flat, flat.flatL]) ?_ ?_ fun w ⟨m, hm⟩ => ?_).mono ?_
  · exact flat_strs L
  · unfold maxLen; rw [List.length_map]; omega
  · refine (Tryd.strings_Split ⟨List.toArray s⟩ ⟨List.toArray sep⟩ m w (show s.length < 4294967281 by omega) hm hp).mono fun _ _ ⟨h, k⟩ => ⟨?_, ?_⟩
    · rw [h, hcl, List.length_map]
    · rw [k, e]
      congr 2
      rw [concL_map, List.map_map]
      exact congrArg List.toArray (List.map_congr_left fun x _ => rfl)
  · rintro r b ⟨h1, h2⟩
    rw [List.length_map] at h1 h2
    exact ⟨h1, h2⟩
def BAt (i : Nat) (l : Bytes) (b : List Res) : Prop := b[i]? = some (.ext (BldR 52 5 l)) ∨ (l = [] ∧ b[i]? = some (.cells [.v (.pointer none), .nils] 52 true))
theorem BAt.lt {i : Nat} {l : Bytes} {b : List Res} (h : BAt i l b) : i < b.length := by
  rcases h with h | ⟨-, h⟩ <;> exact (List.getElem?_eq_some_iff.1 h).1
theorem BAt.set {i : Nat} {l m : Bytes} {b : List Res} (h : BAt i l b) : BAt i m (b.set i (.ext (BldR 52 5 m))) := .inl (List.getElem?_set_self h.lt)
end Go.Proofs.YtjponbpdlioocaaDoor
/- The walks of body.Read, of head.Get and of what they call, where a field stands alone. -/
set_option linter.all false
set_option maxRecDepth 20000
namespace Go.Proofs.YtjponbpdlioocaaDoor
open Go Vc Go.RowKit Wf
set_option linter.unusedSimpArgs false
theorem p_ascii_Digits (s : Bytes) (hs : s.length ≤ 9223372036854775807) : PC Tryd.V 40 [.str s] (.bool (digitsOk s)) :=
  ⟨Tryd.call40, by simp [flat, flat.flatL], by simp [flat, flat.flatL], fun w _ => (ascii_Digits s w hs).mono fun _ _ ⟨h, k⟩ => ⟨by rw [h]; simp [conc, concL], by subst k; exact below_same rfl⟩⟩
theorem p_num_Parse (s : Bytes) (m : Nat) (hs : s.length ≤ 9223372036854775807) (hm : m ≤ 4611686018427387904) : PC Tryd.V 41 [.str s, .int .u64 m] (.tup [.int .u64 (numParse isDigit 10 m s).1, .int .i64 (numParse isDigit 10 m s).2]) :=
  ⟨Tryd.call41, by simp [flat, flat.flatL], by simp [flat, flat.flatL], fun w _ => (number_Parse s m w hs hm).mono fun _ _ ⟨h, k⟩ => ⟨by rw [h]; simp [conc, concL], by subst k; exact below_same rfl⟩⟩
theorem p_ascii_blank (c : UInt8) (h : isDigit c = true) : PC Tryd.V 57 [.int .u8 c.toNat] (.bool false) := by
  refine pc_of 3000 Tryd.func57 rfl Tryd.ntmps57 Tryd.results57 Tryd.call57 (by simp) (by simp [flat, flat.flatL]) (by simp [flat, flat.flatL]) ?_
  simp only [lawG, ↓Xn, ↓Xo, ↓Xg, ↓Xd, ↓Xe, ↓Xf, Tryd.VΓ, Tryd.Γs, Xp, Xi, Nat.reduceAdd, Nat.reduceSub, Nat.reduceLT, Nat.reduceLeDiff, reduceIte, reduceCtorEq, Nat.reduceEqDiff, implies_true, forall_const, lawV, beq_self_eq_true, bne_self_eq_false, Int.reduceBEq, Int.reduceBNe, Int.reduceLT, Int.reduceLE]
  have h := of_decide_eq_true h
  refine ⟨fun _ => by congr 1; simp; omega, fun h2 => by simp at h2; omega⟩
def lkI (i : Nat) (σ : St) : Nat := match lk i σ.t with
  | some (.int _ n) => n.toNat
  | _ => 0
theorem lkI_eq {i : Nat} {σ : St} {k : IntKind} {n : Int} (h : lk i σ.t = some (.int k n)) : lkI i σ = n.toNat := by simp [lkI, h]
theorem getD_at (D : Bytes) (k : Nat) (h : k < D.length) : D.getD k 0 = D[k] := by simp [List.getD, h]
def Digs (D : Bytes) : Prop := D ≠ [] ∧ D.length ≤ 1000 ∧ ∀ c ∈ D, isDigit c = true
theorem p_ascii_Trim (D : Bytes) (h : Digs D) : PC Tryd.V 38 [.str D] (.str D) := by
  obtain ⟨h0, h1, h2⟩ := h
  have hb := fun c hc => p_ascii_blank c (h2 c hc)
  have hpos := List.length_pos_iff.2 h0
  have p1 := hb _ (List.getElem_mem hpos)
  have p2 := hb _ (List.getElem_mem (show D.length - 1 < D.length by omega))
  refine pc_of 3000 Tryd.func38 rfl Tryd.ntmps38 Tryd.results38 Tryd.call38 (by simp) (by simp [flat, flat.flatL]) (by simp [flat, flat.flatL]) ?_
  simp only [lawG, ↓Xn, ↓Xo, ↓Xg, ↓Xd, ↓Xe, ↓Xf, Tryd.VΓ, Tryd.Γs, Xp, Xi, Nat.reduceAdd, Nat.reduceSub, Nat.reduceLT, Nat.reduceLeDiff, reduceIte, reduceCtorEq, Nat.reduceEqDiff, implies_true, forall_const, lawV, beq_self_eq_true, bne_self_eq_false, Int.reduceBEq, Int.reduceBNe, Int.reduceLT, Int.reduceLE]
  refine loopV_mk (fun σ => lk 0 σ.t = some (.str D)) (fun _ => 0) rfl ?_
  rintro ⟨t, b⟩ g0
  simp only at g0
  have e1 : decide ((0 : Int) < D.length) = true := decide_eq_true (by omega)
  rw [← getD_at D 0 hpos] at p1
  rw [← getD_at D _ (show D.length - 1 < D.length by omega)] at p2
  simp only [lawG, ↓Xn, ↓Xo, ↓Xg, ↓Xd, ↓Xe, ↓Xf, Tryd.VΓ, Tryd.Γs, Xp, Xi, Nat.reduceAdd, Nat.reduceSub, Nat.reduceLT, Nat.reduceLeDiff, reduceIte, reduceCtorEq, Nat.reduceEqDiff, implies_true, forall_const, lawV, g0, beq_self_eq_true, bne_self_eq_false, Int.reduceBEq, Int.reduceBNe, Int.reduceLT, Int.reduceLE, e1]
  refine ⟨by omega, ?_⟩
  (refine callV_pc (p1) ?_; simp only [lawG, ↓Xn, ↓Xo, ↓Xg, ↓Xd, ↓Xe, ↓Xf, Tryd.VΓ, Tryd.Γs, Xp, Xi, Nat.reduceAdd, Nat.reduceSub, Nat.reduceLT, Nat.reduceLeDiff, reduceIte, reduceCtorEq, Nat.reduceEqDiff, implies_true, forall_const, lawV, g0, beq_self_eq_true, bne_self_eq_false, Int.reduceBEq, Int.reduceBNe, Int.reduceLT, Int.reduceLE])
  refine loopV_mk (fun σ => lk 0 σ.t = some (.str D)) (fun _ => 0) g0 ?_
  rintro ⟨t, b⟩ g0
  simp only at g0
  simp only [lawG, ↓Xn, ↓Xo, ↓Xg, ↓Xd, ↓Xe, ↓Xf, Tryd.VΓ, Tryd.Γs, Xp, Xi, Nat.reduceAdd, Nat.reduceSub, Nat.reduceLT, Nat.reduceLeDiff, reduceIte, reduceCtorEq, Nat.reduceEqDiff, implies_true, forall_const, lawV, g0, beq_self_eq_true, bne_self_eq_false, Int.reduceBEq, Int.reduceBNe, Int.reduceLT, Int.reduceLE, e1]
  have e2 : ((D.length : Int) - 1).toNat = D.length - 1 := by omega
  rw [e2]
  refine ⟨⟨by omega, by omega⟩, ⟨by omega, by omega⟩, ?_⟩
  (refine callV_pc (p2) ?_; simp only [lawG, ↓Xn, ↓Xo, ↓Xg, ↓Xd, ↓Xe, ↓Xf, Tryd.VΓ, Tryd.Γs, Xp, Xi, Nat.reduceAdd, Nat.reduceSub, Nat.reduceLT, Nat.reduceLeDiff, reduceIte, reduceCtorEq, Nat.reduceEqDiff, implies_true, forall_const, lawV, g0, beq_self_eq_true, bne_self_eq_false, Int.reduceBEq, Int.reduceBNe, Int.reduceLT, Int.reduceLE])
theorem no44 {c : UInt8} (h : isDigit c = true) : (c == 44) = false := by
  have h := of_decide_eq_true h
  rw [beq_eq_false_iff_ne]
  rintro rfl
  have : (44 : UInt8).toNat = 44 := rfl
  omega
theorem digs_cut (D : Bytes) (h : ∀ c ∈ D, isDigit c = true) : cutC 44 D = (D, [], false) := by
  unfold cutC
  rw [pre_all (fun c hc => no44 (h c hc)), if_neg (by omega)]
theorem digs_split (D : Bytes) (h : ∀ c ∈ D, isDigit c = true) : Lib.splitK [44] 0 (Lib.count D [44]) D = [D] := by
  rw [splitK_one 44 _ D (Lib.count_one 44 D).symm]
  exact splitC_miss (by rw [pre_all (fun c hc => no44 (h c hc))]; omega)
theorem digs_ok {D : Bytes} (h : Digs D) : digitsOk D = true := by
  unfold digitsOk
  rw [List.all_eq_true.2 h.2.2]
  cases D with
  | nil => exact absurd rfl h.1
  | cons => rfl
set_option maxHeartbeats 2000000 in
theorem p_body_length (D : Bytes) (h : Digs D) (n : Nat) (hn : numParse isDigit 10 4611686018427387904 D = (n, 0)) : PC Tryd.V 22 [.str D] (.tup [.int .u64 n, .bool true]) := by
  have h1 := h.2.1
  have p1 := p_Cut D 44 (by omega)
  rw [digs_cut D h.2.2] at p1
  have p2 := p_ascii_Trim D h
  have p3 := p_ascii_Digits D (by omega)
  rw [digs_ok h] at p3
  have p4 := p_num_Parse D 4611686018427387904 (by omega) (by omega)
  rw [hn] at p4
  have s1 := fun bs => sc_strSplit (bs := bs) D [44] [D] (digs_split D h.2.2) (by omega) (by simp)
  refine pc_of 3000 Tryd.func22 rfl Tryd.ntmps22 Tryd.results22 Tryd.call22 (by simp) (by simp [flat, flat.flatL]) (by simp [flat, flat.flatL]) ?_
  simp only [lawG, ↓Xn, ↓Xo, ↓Xg, ↓Xd, ↓Xe, ↓Xf, Tryd.VΓ, Tryd.Γs, Xp, Xi, Nat.reduceAdd, Nat.reduceSub, Nat.reduceLT, Nat.reduceLeDiff, reduceIte, reduceCtorEq, Nat.reduceEqDiff, implies_true, forall_const, lawV, beq_self_eq_true, bne_self_eq_false, Int.reduceBEq, Int.reduceBNe, Int.reduceLT, Int.reduceLE]
  (refine callV_pc (p1) ?_; simp only [lawG, ↓Xn, ↓Xo, ↓Xg, ↓Xd, ↓Xe, ↓Xf, Tryd.VΓ, Tryd.Γs, Xp, Xi, Nat.reduceAdd, Nat.reduceSub, Nat.reduceLT, Nat.reduceLeDiff, reduceIte, reduceCtorEq, Nat.reduceEqDiff, implies_true, forall_const, lawV, beq_self_eq_true, bne_self_eq_false, Int.reduceBEq, Int.reduceBNe, Int.reduceLT, Int.reduceLE])
  (refine callV_pc (p2) ?_; simp only [lawG, ↓Xn, ↓Xo, ↓Xg, ↓Xd, ↓Xe, ↓Xf, Tryd.VΓ, Tryd.Γs, Xp, Xi, Nat.reduceAdd, Nat.reduceSub, Nat.reduceLT, Nat.reduceLeDiff, reduceIte, reduceCtorEq, Nat.reduceEqDiff, implies_true, forall_const, lawV, beq_self_eq_true, bne_self_eq_false, Int.reduceBEq, Int.reduceBNe, Int.reduceLT, Int.reduceLE])
  refine callV_sc (s1 _) ?_
  rintro r b ⟨rfl, rfl⟩
  simp only [lawG, ↓Xn, ↓Xo, ↓Xg, ↓Xd, ↓Xe, ↓Xf, Tryd.VΓ, Tryd.Γs, Xp, Xi, Nat.reduceAdd, Nat.reduceSub, Nat.reduceLT, Nat.reduceLeDiff, reduceIte, reduceCtorEq, Nat.reduceEqDiff, implies_true, forall_const, lawV, beq_self_eq_true, bne_self_eq_false, Int.reduceBEq, Int.reduceBNe, Int.reduceLT, Int.reduceLE, lawB, List.length_cons, List.length_nil]
  refine loopV_mk (fun σ => ∃ k : Nat, k ≤ 1 ∧ lk 4 σ.t = some (.str D) ∧ lk 20 σ.t = some (.o 0 1) ∧ lk 21 σ.t = some (.int .i64 1) ∧ lk 22 σ.t = some (.int .i64 k) ∧ σ.b = [.own [.str D] 9 1 1 true]) (fun σ => 1 - lkI 22 σ) ⟨0, by omega, rfl, rfl, rfl, rfl, rfl⟩ ?_
  rintro ⟨t, b⟩ ⟨k, hk, g4, g20, g21, g22, hb⟩
  simp only at g4 g20 g21 g22 hb
  subst hb
  rw [lkI_eq g22]
  obtain rfl | rfl : k = 0 ∨ k = 1 := by omega
  · have e1 : decide (((0 : Nat) : Int) < 1) = true := by decide
    have hu : ([SV.str D])[0 * 1]? = some (.str D) := rfl
    simp only [lawG, ↓Xn, ↓Xo, ↓Xg, ↓Xd, ↓Xe, ↓Xf, Tryd.VΓ, Tryd.Γs, Xp, Xi, Nat.reduceAdd, Nat.reduceSub, Nat.reduceLT, Nat.reduceLeDiff, reduceIte, reduceCtorEq, Nat.reduceEqDiff, implies_true, forall_const, lawV, g4, g20, g21, g22, beq_self_eq_true, bne_self_eq_false, Int.reduceBEq, Int.reduceBNe, Int.reduceLT, Int.reduceLE, lawB, e1, hu]
    refine ⟨⟨by omega, by omega⟩, by omega, ?_⟩
    (refine callV_pc (p2) ?_; simp only [lawG, ↓Xn, ↓Xo, ↓Xg, ↓Xd, ↓Xe, ↓Xf, Tryd.VΓ, Tryd.Γs, Xp, Xi, Nat.reduceAdd, Nat.reduceSub, Nat.reduceLT, Nat.reduceLeDiff, reduceIte, reduceCtorEq, Nat.reduceEqDiff, implies_true, forall_const, lawV, g4, g20, g21, g22, beq_self_eq_true, bne_self_eq_false, Int.reduceBEq, Int.reduceBNe, Int.reduceLT, Int.reduceLE, lawB])
    (refine callV_pc (p3) ?_; simp only [lawG, ↓Xn, ↓Xo, ↓Xg, ↓Xd, ↓Xe, ↓Xf, Tryd.VΓ, Tryd.Γs, Xp, Xi, Nat.reduceAdd, Nat.reduceSub, Nat.reduceLT, Nat.reduceLeDiff, reduceIte, reduceCtorEq, Nat.reduceEqDiff, implies_true, forall_const, lawV, g4, g20, g21, g22, beq_self_eq_true, bne_self_eq_false, Int.reduceBEq, Int.reduceBNe, Int.reduceLT, Int.reduceLE, lawB])
    refine ⟨⟨by omega, by omega⟩, ⟨1, by omega, rfl⟩, ?_⟩
    rw [lkI_eq (k := .i64) (n := ((0 : Nat) : Int) + 1) rfl]; decide
  · have e1 : decide (((1 : Nat) : Int) < 1) = false := by decide
    simp only [lawG, ↓Xn, ↓Xo, ↓Xg, ↓Xd, ↓Xe, ↓Xf, Tryd.VΓ, Tryd.Γs, Xp, Xi, Nat.reduceAdd, Nat.reduceSub, Nat.reduceLT, Nat.reduceLeDiff, reduceIte, reduceCtorEq, Nat.reduceEqDiff, implies_true, forall_const, lawV, g4, g20, g21, g22, beq_self_eq_true, bne_self_eq_false, Int.reduceBEq, Int.reduceBNe, Int.reduceLT, Int.reduceLE, lawB, e1]
    (refine callV_pc (p4) ?_; simp only [lawG, ↓Xn, ↓Xo, ↓Xg, ↓Xd, ↓Xe, ↓Xf, Tryd.VΓ, Tryd.Γs, Xp, Xi, Nat.reduceAdd, Nat.reduceSub, Nat.reduceLT, Nat.reduceLeDiff, reduceIte, reduceCtorEq, Nat.reduceEqDiff, implies_true, forall_const, lawV, g4, g20, g21, g22, beq_self_eq_true, bne_self_eq_false, Int.reduceBEq, Int.reduceBNe, Int.reduceLT, Int.reduceLE, lawB])
theorem p_law19_digits (n : Nat) (hn : n ≤ 1000) : PC Tryd.V 9 [.int .i64 n] (.str (decS n)) := by
  refine pc_of 3000 Tryd.func9 rfl Tryd.ntmps9 Tryd.results9 Tryd.call9 (by simp) (by simp [flat, flat.flatL]) (by simp [flat, flat.flatL]) ?_
  simp only [lawG, ↓Xn, ↓Xo, ↓Xg, ↓Xd, ↓Xe, ↓Xf, Tryd.VΓ, Tryd.Γs, Xp, Xi, Nat.reduceAdd, Nat.reduceSub, Nat.reduceLT, Nat.reduceLeDiff, reduceIte, reduceCtorEq, Nat.reduceEqDiff, implies_true, forall_const, lawV, beq_self_eq_true, bne_self_eq_false, Int.reduceBEq, Int.reduceBNe, Int.reduceLT, Int.reduceLE]
  refine loopV_mk (fun σ => ∃ (m : Nat) (l : Bytes), m ≤ 1000 ∧ l.length + (decS m).length = (decS n).length ∧ decS m ++ l = decS n ∧ lk 0 σ.t = some (.int .i64 m) ∧ lk 3 σ.t = some (.str l)) (fun σ => match lk 0 σ.t with | some (.int _ n) => n.toNat | _ => 0) ⟨n, [], hn, by simp, by simp, rfl, rfl⟩ ?_
  rintro ⟨t, b⟩ ⟨m, l, hm, hl, he, g0, g3⟩
  simp only at g0 g3
  have key : ∀ m : Nat, m < 1001 → (decide (divI .rem .i64 (m : Int) 10 = ((m % 10 : Nat) : Int)) && decide (divI .quo .i64 (m : Int) 10 = ((m / 10 : Nat) : Int))) = true := by decide +kernel
  have key2 : ∀ d : Nat, d < 10 → IntKind.u8.wrap (48 + (d : Int)) = ((dig d).toNat : Int) := by decide +kernel
  have kk := key m (by omega)
  rw [Bool.and_eq_true, decide_eq_true_eq, decide_eq_true_eq] at kk
  have kr := kk.1
  have kq := kk.2
  have kd := key2 (m % 10) (by omega)
  have hu : isU8 (.int .u8 (dig (m % 10)).toNat) = true := by have := (dig (m % 10)).toNat_lt; simp [isU8]; omega
  have hv : unU8 (.int .u8 (dig (m % 10)).toNat) = dig (m % 10) := by simp [unU8]
  simp only [lawG, ↓Xn, ↓Xo, ↓Xg, ↓Xd, ↓Xe, ↓Xf, Tryd.VΓ, Tryd.Γs, Xp, Xi, Nat.reduceAdd, Nat.reduceSub, Nat.reduceLT, Nat.reduceLeDiff, reduceIte, reduceCtorEq, Nat.reduceEqDiff, implies_true, forall_const, lawV, g0, g3, beq_self_eq_true, bne_self_eq_false, Int.reduceBEq, Int.reduceBNe, Int.reduceLT, Int.reduceLE, lawB, kr, kq, kd, hu, hv]
  have hln := decS_length 3 n (by omega)
  refine ⟨by decide, ⟨by omega, by omega⟩, by decide, by omega, by decide, fun h => ?_, fun h => ⟨⟨m / 10, dig (m % 10) :: l, by omega, ?_, ?_, rfl, rfl⟩, ?_⟩⟩
  · have h : m / 10 = 0 := by have := beq_iff_eq.1 h; omega
    rw [← he, decS_small (by omega), show m % 10 = m by omega]
    rfl
  · have h : ¬ m / 10 = 0 := by have := beq_eq_false_iff_ne.1 h; omega
    rw [← hl, decS_big_length (n := m) (by omega), List.length_cons]; omega
  · have h : ¬ m / 10 = 0 := by have := beq_eq_false_iff_ne.1 h; omega
    rw [← he, decS_big (n := m) (by omega)]; simp
  · have h : ¬ m / 10 = 0 := by have := beq_eq_false_iff_ne.1 h; omega
    omega
def fc (f : Bytes × Bytes) : List SV := [.str f.1, .str f.2]
theorem rows_at {ρ : Type} (cl : ρ → List SV) (s : Nat) (hs : ∀ r, (cl r).length = s) : ∀ (L : List ρ) (k : Nat) (h : k < L.length), ((L.flatMap cl).drop (k * s)).take s = cl L[k]
  | [], k, h => by simp at h
  | r :: L, 0, _ => by
    have := hs r
    simp [List.take_append, List.take_of_length_le (Nat.le_of_eq this), this]
  | r :: L, k + 1, h => by
    have h1 := hs r
    have h2 : ((r :: L).flatMap cl).drop ((k + 1) * s) = (L.flatMap cl).drop (k * s) := by
      rw [List.flatMap_cons, List.drop_append, List.drop_of_length_le (by rw [Nat.add_mul]; omega), List.nil_append, show (k + 1) * s - (cl r).length = k * s by rw [Nat.add_mul]; omega]
    rw [h2]
    simpa using rows_at cl s hs L k (by simpa using h)
theorem rows_len {ρ : Type} (cl : ρ → List SV) (s : Nat) (hs : ∀ r, (cl r).length = s) : ∀ (L : List ρ), (L.flatMap cl).length = L.length * s
  | [] => by simp
  | r :: L => by rw [List.flatMap_cons, List.length_append, hs r, rows_len cl s hs L, List.length_cons, Nat.add_mul]; omega
theorem fc_at (L : List (Bytes × Bytes)) (k : Nat) (h : k < L.length) : ((L.flatMap fc).drop (k * 2)).take 2 = fc L[k] := rows_at fc 2 (fun _ => rfl) L k h
theorem fc_len (L : List (Bytes × Bytes)) : (L.flatMap fc).length = L.length * 2 := rows_len fc 2 (fun _ => rfl) L
set_option maxHeartbeats 2000000 in
theorem sc_head_Values {bs : List Res} {j : Nat} {fs : List (Bytes × Bytes)} {m : Bool} (hj : bs[j]? = some (.own (fs.flatMap fc) 28 2 fs.length m)) (hn : fs.length ≤ 1000000) (hl : ∀ f ∈ fs, f.1.length ≤ 9223372036854775807) (name : Bytes) (hname : name.length ≤ 9223372036854775807) (a c : Int) :
    SC Tryd.V 35 [.agg [.int .i64 a, .int .i64 c, .o j fs.length], .str name] bs (fun r b => Kp bs b ∧ Sl 9 1 bs.length r b ((hdrVals fs name).map .str) (hdrVals fs name).length) := by
  have hjl : j < bs.length := (List.getElem?_eq_some_iff.1 hj).1
  refine sc_of 3000 Tryd.func35 rfl Tryd.ntmps35 Tryd.results35 Tryd.call35 (by simp) (fun β β' hb => concL_within bs.length _ (by simp [within, within.withinL, hjl]) β β' hb) ?_
  simp only [lawG, ↓Xn, ↓Xo, ↓Xg, ↓Xd, ↓Xe, ↓Xf, Tryd.VΓ, Tryd.Γs, Xp, Xi, Nat.reduceAdd, Nat.reduceSub, Nat.reduceLT, Nat.reduceLeDiff, reduceIte, reduceCtorEq, Nat.reduceEqDiff, implies_true, forall_const, lawV, lawB]
  have hp := at_old hj [.cells [.int .i64 a, .int .i64 c, .o j fs.length] 31 true]
  refine loopV_mk (fun σ => ∃ (k : Nat) (x : SV), k ≤ fs.length ∧ lk 1 σ.t = some (.str name) ∧ lk 5 σ.t = some x ∧ lk 9 σ.t = some (.o j fs.length) ∧ lk 10 σ.t = some (.int .i64 fs.length) ∧ lk 11 σ.t = some (.int .i64 k) ∧ σ.b[j]? = some (.own (fs.flatMap fc) 28 2 fs.length m) ∧
    Kp bs σ.b ∧ Sl 9 1 bs.length x σ.b ((hdrVals (fs.take k) name).map .str) (hdrVals (fs.take k) name).length) (fun σ => fs.length - lkI 11 σ) ⟨0, .nils, by omega, rfl, rfl, rfl, rfl, rfl, hp, (Kp.refl _).app _, .inl ⟨rfl, rfl, rfl⟩⟩ ?_
  rintro ⟨t, b⟩ ⟨k, x, hk, h1, h5, h9, h10, h11, hb, hkp, hsl⟩
  simp only at h1 h5 h9 h10 h11 hb hkp hsl
  rw [lkI_eq h11]
  by_cases hlt : k < fs.length
  · have hu := fc_at fs k hlt
    have hul := fc_len fs
    have hx := hdrVals_take hlt name
    have hll := hdrVals_len (fs.take k) name
    rw [List.length_take] at hll
    have he := p_Equal fs[k].1 name (hl _ (List.getElem_mem hlt)) hname
    unfold fc at hb hu hul
    rcases hsl with ⟨rfl, hc0, hn0⟩ | ⟨i, rfl, hLi, hi⟩
    · simp only [lawG, ↓Xn, ↓Xo, ↓Xg, ↓Xd, ↓Xe, ↓Xf, Tryd.VΓ, Tryd.Γs, Xp, Xi, Nat.reduceAdd, Nat.reduceSub, Nat.reduceLT, Nat.reduceLeDiff, reduceIte, reduceCtorEq, Nat.reduceEqDiff, implies_true, forall_const, lawV, h1, h5, h9, h10, h11, hb, hu, hul, lawB, Int.toNat_natCast]
      refine ⟨fun _ => ⟨⟨by omega, by omega⟩, by omega, ?_⟩, fun h => absurd h (by simp; omega)⟩
      have hb1 := fun X => at_old hb [X]
      have hb2 := fun X Y => at_old (hb1 X) [Y]
      have hb3 := fun X Y Z => at_old (hb2 X Y) [Z]
      (refine callV_pc (he) ?_; simp only [lawG, ↓Xn, ↓Xo, ↓Xg, ↓Xd, ↓Xe, ↓Xf, Tryd.VΓ, Tryd.Γs, Xp, Xi, Nat.reduceAdd, Nat.reduceSub, Nat.reduceLT, Nat.reduceLeDiff, reduceIte, reduceCtorEq, Nat.reduceEqDiff, implies_true, forall_const, lawV, h1, h5, h9, h10, h11, hb, lawB, hb1, hb2, hb3])
      refine ⟨fun hq => ⟨by omega, ⟨by unfold maxLen; omega, by omega⟩, ⟨by omega, by omega⟩, ⟨k + 1, _, by omega, rfl, rfl, rfl, ((hkp.app _).app _).app _, .inr ⟨(b ++ [Res.cells [.str fs[k].1, .str fs[k].2] 28 true] ++ [Res.own [.str fs[k].2] 9 1 1 true]).length, ?_, ?_, ?_⟩⟩, ?_⟩, fun hq => ⟨⟨by omega, by omega⟩, ⟨k + 1, _, by omega, rfl, rfl, rfl, hkp.app _, .inl ⟨rfl, ?_, ?_⟩⟩, ?_⟩⟩
      · rw [hx, if_pos (by simpa using hq), List.length_eq_zero_iff.1 hn0]; rfl
      · have := hkp.1; simp; omega
      · rw [hx, if_pos (by simpa using hq), List.length_eq_zero_iff.1 hn0, at_new]; rfl
      · rw [lkI_eq (k := .i64) (n := (k : Int) + 1) rfl]; omega
      · rw [hx, if_neg (by simpa using hq), List.append_nil]; exact hc0
      · rw [hx, if_neg (by simpa using hq), List.append_nil]; exact hn0
      · rw [lkI_eq (k := .i64) (n := (k : Int) + 1) rfl]; omega
    · simp only [lawG, ↓Xn, ↓Xo, ↓Xg, ↓Xd, ↓Xe, ↓Xf, Tryd.VΓ, Tryd.Γs, Xp, Xi, Nat.reduceAdd, Nat.reduceSub, Nat.reduceLT, Nat.reduceLeDiff, reduceIte, reduceCtorEq, Nat.reduceEqDiff, implies_true, forall_const, lawV, h1, h5, h9, h10, h11, hb, hu, hul, lawB, Int.toNat_natCast]
      refine ⟨fun _ => ⟨⟨by omega, by omega⟩, by omega, ?_⟩, fun h => absurd h (by simp; omega)⟩
      have hi1 := fun X => at_old hi [X]
      have hi2 := fun X Y => at_old (hi1 X) [Y]
      have hb1 := fun X => at_old hb [X]
      (refine callV_pc (he) ?_; simp only [lawG, ↓Xn, ↓Xo, ↓Xg, ↓Xd, ↓Xe, ↓Xf, Tryd.VΓ, Tryd.Γs, Xp, Xi, Nat.reduceAdd, Nat.reduceSub, Nat.reduceLT, Nat.reduceLeDiff, reduceIte, reduceCtorEq, Nat.reduceEqDiff, implies_true, forall_const, lawV, h1, h5, h9, h10, h11, hb, lawB, hi, hi1, hi2])
      have hK := fun X => ((((hkp.app [.cells [.str fs[k].1, .str fs[k].2] 28 true]).app [.own [.str fs[k].2] 9 1 1 true]).set hLi .gone).app [X])
      refine ⟨fun hq => ⟨by omega, ⟨by unfold maxLen; omega, by omega⟩, ⟨by omega, by omega⟩, ⟨k + 1, _, by omega, rfl, rfl, (hK _).at hj, hK _, .inr ⟨(b ++ [Res.cells [.str fs[k].1, .str fs[k].2] 28 true] ++ [Res.own [.str fs[k].2] 9 1 1 true]).length, ?_, ?_, ?_⟩⟩, ?_⟩, fun hq => ⟨⟨by omega, by omega⟩, ⟨k + 1, _, by omega, rfl, rfl, (hkp.app _).at hj, hkp.app _, .inr ⟨i, ?_, hLi, ?_⟩⟩, ?_⟩⟩
      · rw [hx, if_pos (by simpa using hq)]; simp
      · have := hkp.1; simp; omega
      · rw [hx, if_pos (by simpa using hq), List.map_append, List.getElem?_append_right (by simp)]; simp
      · rw [lkI_eq (k := .i64) (n := (k : Int) + 1) rfl]; omega
      · rw [hx, if_neg (by simpa using hq), List.append_nil]
      · rw [hx, if_neg (by simpa using hq), List.append_nil]; exact hi1 _
      · rw [lkI_eq (k := .i64) (n := (k : Int) + 1) rfl]; omega
  · have hie : k = fs.length := by omega
    subst hie
    rw [List.take_length] at hsl
    simp only [lawG, ↓Xn, ↓Xo, ↓Xg, ↓Xd, ↓Xe, ↓Xf, Tryd.VΓ, Tryd.Γs, Xp, Xi, Nat.reduceAdd, Nat.reduceSub, Nat.reduceLT, Nat.reduceLeDiff, reduceIte, reduceCtorEq, Nat.reduceEqDiff, implies_true, forall_const, lawV, h1, h5, h9, h10, h11, hb]
    exact ⟨fun h => absurd h (by simp), fun _ => ⟨hkp, hsl⟩⟩
theorem sc_quiet {V : Cx} {f : FuncId} {args : List SV} {bs : List Res} {x : SV} (hen : Vc.Enters V f) (fx : flat x = true) (h : ∀ β fp w, BxOK β fp w bs → Calls V.P f (concL β args).toArray w fun e w' => e = .returned (conc β x) ∧ Below w.heap.size w w') : SC V f args bs (fun r b => r = x ∧ b = bs) := by
  refine ⟨hen, fun β fp w hbx hG hE => (h β fp w (hbx β (Agr.refl _ _))).mono ?_⟩
  rintro e w' ⟨he, hb⟩
  have hb0 := hbx β (Agr.refl _ _)
  refine ⟨x, bs, β, fp, ⟨rfl, rfl⟩, Agr.refl _ _, Nat.le_refl _, fun β' hβ => ⟨by rw [he, conc_flat x fx β β'], ⟨fun i r hi => ((hbx β' hβ).holds i r hi).stays (fun k hk => hb.block k (hb0.lt i r hi k hk)), fun i r hi k hk => Nat.lt_of_lt_of_le (hb0.lt i r hi k hk) hb.size, hb0.sep⟩⟩, FrW.of_below hb, fun i r hi hm k hk => .inr ⟨i, r, hi, hm, hk⟩, fun i r hi k hk => .inr ⟨i, r, hi, hk⟩⟩
theorem sc_Join {bs : List Res} {j : Nat} {L : List Bytes} {m : Bool} (hj : bs[j]? = some (.own (L.map SV.str) 9 1 L.length m)) (h0 : 0 < L.length) (hn : L.length ≤ 140737488355328) (sep : Bytes) (hlen : (Lib.join L sep).length ≤ 140737488355328) :
    SC Tryd.V 36 [.o j L.length, .str sep] bs (fun r b => r = .str (Lib.join L sep) ∧ b = bs) := by
  refine sc_quiet Tryd.call36 (by simp [flat]) (fun β fp w hb => ?_)
  have hh := hb.holds j _ hj
  rcases hh with ⟨-, h, -, -⟩ | ⟨h1, h2, h3, h4, h5, -, h7⟩
  · omega
  have e1 : (L.map fun l => (⟨⟨l⟩⟩ : ByteArray)).map (fun x => x.data.toList) = L := by rw [List.map_map]; exact (List.map_congr_left (fun _ _ => rfl)).trans (List.map_id L)
  have hc := Tryd.strings_Join (β j).blk (β j).off ((β j).cap - 1) (L.map fun l => (⟨⟨l⟩⟩ : ByteArray)) ⟨⟨sep⟩⟩ w (fun i x hi => by
    have := h5 i (.string x) (by
      rw [List.getElem?_map] at hi
      obtain ⟨l, hl, rfl⟩ := Option.map_eq_some_iff.1 hi
      simp [hl, conc])
    exact this) (hb.lt j _ hj _ ((h7 _).2 rfl)) (by simpa using hn) (by simpa using h2) (by rw [e1]; exact hlen)
  rw [e1, List.length_map] at hc
  have e2 : (concL β [.o j L.length, .str sep]).toArray = #[.slice (some ⟨(β j).blk, (β j).off, none⟩) L.length ((β j).cap - 1), .string ⟨⟨sep⟩⟩] := by simp [concL, conc, oV, h1]
  rw [e2]
  exact hc.mono fun e w' h => by simpa [conc] using h
theorem sc_forget {V : Cx} {f : FuncId} {args : List SV} {bs : List Res} {x : SV} (hx : flat x = true) (h : SC V f args bs (fun r b => r = x ∧ Kp bs b)) : SC V f args bs (fun r b => r = x ∧ b = bs) := by
  refine ⟨h.1, fun β fp w hbx hG hE => (h.2 β fp w hbx hG hE).mono ?_⟩
  rintro e w' ⟨r, bs', β₂, fp₂, ⟨rfl, hlen, hkp⟩, hag, -, hall, hfr, hmine, hfoot⟩
  have old : ∀ {i r}, bs[i]? = some r → bs'[i]? = some r := fun {i r} hi => (hkp i (List.getElem?_eq_some_iff.1 hi).1).trans hi
  refine ⟨r, bs, β₂, fp₂, ⟨rfl, rfl⟩, hag, Nat.le_refl _, fun β' hβ => ?_, hfr, fun i r' hi => hmine i r' (old hi), fun i r' hi => hfoot i r' (old hi)⟩
  have hc : ∀ i, i < bs.length → (if i < bs.length then β' i else β₂ i) = β' i := fun i hi => if_pos hi
  have hall2 := hall (fun i => if i < bs.length then β' i else β₂ i) (fun i _ => by
    by_cases hi : i < bs.length
    · exact (hβ i hi).trans (hc i hi).symm
    · exact (if_neg hi).symm)
  have hb1 := hbx (fun i => if i < bs.length then β' i else β₂ i) (fun i hi => ((hag i hi).trans (hβ i hi)).trans (hc i hi).symm)
  have hb2 := hbx β' (fun i hi => (hag i hi).trans (hβ i hi))
  obtain ⟨he, hbx2⟩ := hall2
  refine ⟨by rw [he, conc_flat _ hx _ β'], ⟨fun i r hi => ?_, fun i r hi => hbx2.lt i r (old hi), fun i j r r' hi hj => hbx2.sep i j r r' (old hi) (old hj)⟩⟩
  have h1 := hb1.holds i r hi
  have h2 := hb2.holds i r hi
  have h3 := hbx2.holds i r (old hi)
  have e := hc i (List.getElem?_eq_some_iff.1 hi).1
  simp only [e] at h1 h3
  exact res_agr h1 h2 h3
theorem sc_Join0 {bs : List Res} (sep : Bytes) : SC Tryd.V 36 [.nils, .str sep] bs (fun r b => r = .str [] ∧ b = bs) := by
  refine sc_quiet Tryd.call36 (by simp [flat]) (fun β fp w hb => ?_)
  have hc := Tryd.strings_Join_none none 0 ⟨⟨sep⟩⟩ w
  exact hc.mono fun e w' h => ⟨by simpa [conc] using h.1, below_same h.2.symm⟩
theorem sc_JoinN {bs : List Res} {j : Nat} {L : List Bytes} {m : Bool} (hj : bs[j]? = some (.own (L.map SV.str) 9 1 L.length m)) (hn : L.length ≤ 140737488355328) (sep : Bytes) (hlen : (Lib.join L sep).length ≤ 140737488355328) :
    SC Tryd.V 36 [.o j L.length, .str sep] bs (fun r b => r = .str (Lib.join L sep) ∧ b = bs) := by
  by_cases h0 : 0 < L.length
  · exact sc_Join hj h0 hn sep hlen
  · obtain rfl : L = [] := List.length_eq_zero_iff.1 (by omega)
    refine sc_quiet Tryd.call36 (by simp [flat]) (fun β fp w hb => ?_)
    have e2 : ∃ a c, (concL β [.o j ([] : List Bytes).length, .str sep]).toArray = #[.slice a 0 c, .string ⟨⟨sep⟩⟩] := by
      by_cases h : (β j).cap = 0
      · exact ⟨none, 0, by simp [concL, conc, oV, h]⟩
      · exact ⟨some ⟨(β j).blk, (β j).off, none⟩, (β j).cap - 1, by simp [concL, conc, oV, h]⟩
    obtain ⟨a, c, e2⟩ := e2
    rw [e2]
    exact (Tryd.strings_Join_none a c ⟨⟨sep⟩⟩ w).mono fun e w' h => ⟨by simpa [conc, Lib.join] using h.1, below_same h.2.symm⟩
set_option maxHeartbeats 2000000 in
theorem sc_head_Get {bs : List Res} {j : Nat} {fs : List (Bytes × Bytes)} {m : Bool} (hj : bs[j]? = some (.own (fs.flatMap fc) 28 2 fs.length m)) (hn : fs.length ≤ 1000000) (hl : ∀ f ∈ fs, f.1.length ≤ 9223372036854775807) (name : Bytes) (hname : name.length ≤ 9223372036854775807) (a c : Int) (v : Bytes) (hv : Lib.join (hdrVals fs name) [44, 32] = v) (hlen : v.length ≤ 1000000) (ok : Bool) (hok : decide (0 < ((hdrVals fs name).length : Int)) = ok) :
    SC Tryd.V 20 [.agg [.int .i64 a, .int .i64 c, .o j fs.length], .str name] bs (fun r b => r = .tup [.str v, .bool ok] ∧ Kp bs b) := by
  have hjl : j < bs.length := (List.getElem?_eq_some_iff.1 hj).1
  refine sc_of 3000 Tryd.func20 rfl Tryd.ntmps20 Tryd.results20 Tryd.call20 (by simp) (fun β β' hb => concL_within bs.length _ (by simp [within, within.withinL, hjl]) β β' hb) ?_
  simp only [lawG, ↓Xn, ↓Xo, ↓Xg, ↓Xd, ↓Xe, ↓Xf, Tryd.VΓ, Tryd.Γs, Xp, Xi, Nat.reduceAdd, Nat.reduceSub, Nat.reduceLT, Nat.reduceLeDiff, reduceIte, reduceCtorEq, Nat.reduceEqDiff, implies_true, forall_const, lawV, lawB]
  have hj2 := fun X => at_old hj [X]
  have w1 := fun X => sc_head_Values (bs := bs ++ [X]) (hj2 X) hn hl name hname a c
  refine callV_sc (w1 _) ?_
  rintro r b ⟨hkp, hsl⟩
  have hkp2 := ((Kp.refl bs).app [.cells [.int .i64 a, .int .i64 c, .o j fs.length] 31 true]).trans hkp
  have hvl := hdrVals_len fs name
  rcases hsl with ⟨rfl, hc, hn0⟩ | ⟨i, rfl, hLi, hi⟩
  · have he : hdrVals fs name = [] := List.length_eq_zero_iff.1 hn0
    rw [he] at hv hok
    have hv : ([] : Bytes) = v := by rw [← hv]; rfl
    have hok : false = ok := by rw [← hok]; rfl
    subst hv hok
    simp only [lawG, ↓Xn, ↓Xo, ↓Xg, ↓Xd, ↓Xe, ↓Xf, Tryd.VΓ, Tryd.Γs, Xp, Xi, Nat.reduceAdd, Nat.reduceSub, Nat.reduceLT, Nat.reduceLeDiff, reduceIte, reduceCtorEq, Nat.reduceEqDiff, implies_true, forall_const, lawV, lawB, beq_self_eq_true, bne_self_eq_false, Int.reduceBEq, Int.reduceBNe, Int.reduceLT, Int.reduceLE]
    refine callV_sc (sc_Join0 _) ?_
    rintro r b ⟨rfl, rfl⟩
    simp only [lawG, ↓Xn, ↓Xo, ↓Xg, ↓Xd, ↓Xe, ↓Xf, Tryd.VΓ, Tryd.Γs, Xp, Xi, Nat.reduceAdd, Nat.reduceSub, Nat.reduceLT, Nat.reduceLeDiff, reduceIte, reduceCtorEq, Nat.reduceEqDiff, implies_true, forall_const, lawV, lawB, beq_self_eq_true, bne_self_eq_false, Int.reduceBEq, Int.reduceBNe, Int.reduceLT, Int.reduceLE]
    exact hkp2
  · simp only [lawG, ↓Xn, ↓Xo, ↓Xg, ↓Xd, ↓Xe, ↓Xf, Tryd.VΓ, Tryd.Γs, Xp, Xi, Nat.reduceAdd, Nat.reduceSub, Nat.reduceLT, Nat.reduceLeDiff, reduceIte, reduceCtorEq, Nat.reduceEqDiff, implies_true, forall_const, lawV, lawB, beq_self_eq_true, bne_self_eq_false, Int.reduceBEq, Int.reduceBNe, Int.reduceLT, Int.reduceLE]
    have s1 := sc_JoinN hi (by omega) [44, 32] (by rw [hv]; omega)
    rw [hv] at s1
    refine callV_sc s1 ?_
    rintro r b ⟨rfl, rfl⟩
    simp only [lawG, ↓Xn, ↓Xo, ↓Xg, ↓Xd, ↓Xe, ↓Xf, Tryd.VΓ, Tryd.Γs, Xp, Xi, Nat.reduceAdd, Nat.reduceSub, Nat.reduceLT, Nat.reduceLeDiff, reduceIte, reduceCtorEq, Nat.reduceEqDiff, implies_true, forall_const, lawV, lawB, beq_self_eq_true, bne_self_eq_false, Int.reduceBEq, Int.reduceBNe, Int.reduceLT, Int.reduceLE, hok]
    exact hkp2
def teS : Bytes := ([116, 114, 97, 110, 115, 102, 101, 114, 45, 101, 110, 99, 111, 100, 105, 110, 103] : List UInt8)
def clS : Bytes := ([99, 111, 110, 116, 101, 110, 116, 45, 108, 101, 110, 103, 116, 104] : List UInt8)
def chS : Bytes := ([99, 104, 117, 110, 107, 101, 100] : List UInt8)
theorem one_ok (n : Bytes) (h : n.length ≤ 100) (v : Bytes) : ∀ f ∈ [(n, v)], f.1.length ≤ 9223372036854775807 := by
  intro f hf
  rw [List.mem_singleton.1 hf]
  simp only
  omega
theorem get_hit {bs : List Res} {j : Nat} {m : Bool} (n v : Bytes) (h : n.length ≤ 100) (hv : v.length ≤ 1000000) (hj : bs[j]? = some (.own ([(n, v)].flatMap fc) 28 2 1 m)) (a c : Int) :
    SC Tryd.V 20 [.agg [.int .i64 a, .int .i64 c, .o j 1], .str n] bs (fun r b => r = .tup [.str v, .bool true] ∧ b = bs) := by
  have hd : hdrVals [(n, v)] n = [v] := by simp [hdrVals]
  exact sc_forget (by simp [flat, flat.flatL]) (sc_head_Get (fs := [(n, v)]) hj (by simp) (one_ok n h v) n (by omega) a c v (by rw [hd]; simp [Lib.join, List.intercalate]) hv true (by rw [hd]; rfl))
theorem get_miss {bs : List Res} {j : Nat} {m : Bool} (n v n' : Bytes) (h : n.length ≤ 100) (h' : n'.length ≤ 100) (hne : (lower n == lower n') = false) (hj : bs[j]? = some (.own ([(n, v)].flatMap fc) 28 2 1 m)) (a c : Int) :
    SC Tryd.V 20 [.agg [.int .i64 a, .int .i64 c, .o j 1], .str n'] bs (fun r b => r = .tup [.str [], .bool false] ∧ b = bs) := by
  have hd : hdrVals [(n, v)] n' = [] := by simp [hdrVals, hne]
  exact sc_forget (by simp [flat, flat.flatL]) (sc_head_Get (fs := [(n, v)]) hj (by simp) (one_ok n h v) n' (by omega) a c [] (by rw [hd]; rfl) (by simp) false (by rw [hd]; rfl))
set_option maxHeartbeats 2000000 in
theorem sc_read_chunked {bs : List Res} {j : Nat} {m : Bool} (hj : bs[j]? = some (.own ([(teS, chS)].flatMap fc) 28 2 1 m)) (rest : Bytes) (hr : rest.length ≤ 4000000) {s : Bytes} {e : Int} (hc : chunked rest 1000 = (s, e)) :
    SC Tryd.V 8 [.agg [.int .i64 0, .int .i64 200, .o j 1], .str rest, .int .i64 1000] bs (fun r b => r = .tup [.str s, .int .i64 e] ∧ Kp bs b) := by
  have hjl : j < bs.length := (List.getElem?_eq_some_iff.1 hj).1
  have hj2 := fun X => at_old hj [X]
  have g1 := fun X => get_hit (bs := bs ++ [X]) teS chS (by decide) (by decide) (hj2 X) 0 200
  have g2 := fun X => get_miss (bs := bs ++ [X]) teS chS clS (by decide) (by decide) (by decide +kernel) (hj2 X) 0 200
  have p1 : PC Tryd.V 21 [.str chS] (.str chS) := p_Lower chS (by decide)
  have p2 : PC Tryd.V 16 [.str rest, .int .i64 1000] (.tup [.str (chunked rest 1000).1, .int .i64 (chunked rest 1000).2]) :=
    ⟨Tryd.call16, by simp [flat, flat.flatL], by simp [flat, flat.flatL], fun w _ => (body_Chunked rest 1000 w hr (by omega) (by omega)).mono fun _ _ ⟨h, k⟩ => ⟨by rw [h]; simp [conc, concL], k⟩⟩
  rw [hc] at p2
  refine sc_of 3000 Tryd.func8 rfl Tryd.ntmps8 Tryd.results8 Tryd.call8 (by simp) (fun β β' hb => concL_within bs.length _ (by simp [within, within.withinL, hjl]) β β' hb) ?_
  unfold teS clS chS at *
  simp only [lawG, ↓Xn, ↓Xo, ↓Xg, ↓Xd, ↓Xe, ↓Xf, Tryd.VΓ, Tryd.Γs, Xp, Xi, Nat.reduceAdd, Nat.reduceSub, Nat.reduceLT, Nat.reduceLeDiff, reduceIte, reduceCtorEq, Nat.reduceEqDiff, implies_true, forall_const, lawV, lawB, beq_self_eq_true, bne_self_eq_false, Int.reduceBEq, Int.reduceBNe, Int.reduceLT, Int.reduceLE]
  refine callV_sc (g1 _) ?_
  rintro r b ⟨rfl, rfl⟩
  simp only [lawG, ↓Xn, ↓Xo, ↓Xg, ↓Xd, ↓Xe, ↓Xf, Tryd.VΓ, Tryd.Γs, Xp, Xi, Nat.reduceAdd, Nat.reduceSub, Nat.reduceLT, Nat.reduceLeDiff, reduceIte, reduceCtorEq, Nat.reduceEqDiff, implies_true, forall_const, lawV, lawB, beq_self_eq_true, bne_self_eq_false, Int.reduceBEq, Int.reduceBNe, Int.reduceLT, Int.reduceLE]
  refine callV_sc (g2 _) ?_
  rintro r b ⟨rfl, rfl⟩
  simp only [lawG, ↓Xn, ↓Xo, ↓Xg, ↓Xd, ↓Xe, ↓Xf, Tryd.VΓ, Tryd.Γs, Xp, Xi, Nat.reduceAdd, Nat.reduceSub, Nat.reduceLT, Nat.reduceLeDiff, reduceIte, reduceCtorEq, Nat.reduceEqDiff, implies_true, forall_const, lawV, lawB, beq_self_eq_true, bne_self_eq_false, Int.reduceBEq, Int.reduceBNe, Int.reduceLT, Int.reduceLE]
  (refine callV_pc (p1) ?_; simp only [lawG, ↓Xn, ↓Xo, ↓Xg, ↓Xd, ↓Xe, ↓Xf, Tryd.VΓ, Tryd.Γs, Xp, Xi, Nat.reduceAdd, Nat.reduceSub, Nat.reduceLT, Nat.reduceLeDiff, reduceIte, reduceCtorEq, Nat.reduceEqDiff, implies_true, forall_const, lawV, beq_self_eq_true, bne_self_eq_false, Int.reduceBEq, Int.reduceBNe, Int.reduceLT, Int.reduceLE, lawB])
  (refine callV_pc (p2) ?_; simp only [lawG, ↓Xn, ↓Xo, ↓Xg, ↓Xd, ↓Xe, ↓Xf, Tryd.VΓ, Tryd.Γs, Xp, Xi, Nat.reduceAdd, Nat.reduceSub, Nat.reduceLT, Nat.reduceLeDiff, reduceIte, reduceCtorEq, Nat.reduceEqDiff, implies_true, forall_const, lawV, beq_self_eq_true, bne_self_eq_false, Int.reduceBEq, Int.reduceBNe, Int.reduceLT, Int.reduceLE, lawB])
  exact (Kp.refl _).app _
set_option maxHeartbeats 2000000 in
theorem sc_read_sized {bs : List Res} {j : Nat} {m : Bool} (D : Bytes) (hD : Digs D) (n : Nat) (hp : numParse isDigit 10 4611686018427387904 D = (n, 0)) (hj : bs[j]? = some (.own ([(clS, D)].flatMap fc) 28 2 1 m)) (rest : Bytes) (hr : rest.length ≤ 1000) (hn : n ≤ 1000) :
    SC Tryd.V 8 [.agg [.int .i64 0, .int .i64 200, .o j 1], .str rest, .int .i64 1000] bs (fun r b => r = (if rest.length < n then .tup [.str [], .int .i64 191] else .tup [.str (rest.take n), .int .i64 0]) ∧ Kp bs b) := by
  have hjl : j < bs.length := (List.getElem?_eq_some_iff.1 hj).1
  have hj2 := fun X => at_old hj [X]
  have hDl := hD.2.1
  have g1 := fun X => get_miss (bs := bs ++ [X]) clS D teS (by decide) (by decide) (by decide +kernel) (hj2 X) 0 200
  have g2 := fun X => get_hit (bs := bs ++ [X]) clS D (by decide) (by omega) (hj2 X) 0 200
  have p1 := p_body_length D hD n hp
  refine sc_of 3000 Tryd.func8 rfl Tryd.ntmps8 Tryd.results8 Tryd.call8 (by simp) (fun β β' hb => concL_within bs.length _ (by simp [within, within.withinL, hjl]) β β' hb) ?_
  unfold teS clS at *
  simp only [lawG, ↓Xn, ↓Xo, ↓Xg, ↓Xd, ↓Xe, ↓Xf, Tryd.VΓ, Tryd.Γs, Xp, Xi, Nat.reduceAdd, Nat.reduceSub, Nat.reduceLT, Nat.reduceLeDiff, reduceIte, reduceCtorEq, Nat.reduceEqDiff, implies_true, forall_const, lawV, lawB, beq_self_eq_true, bne_self_eq_false, Int.reduceBEq, Int.reduceBNe, Int.reduceLT, Int.reduceLE]
  refine callV_sc (g1 _) ?_
  rintro r b ⟨rfl, rfl⟩
  simp only [lawG, ↓Xn, ↓Xo, ↓Xg, ↓Xd, ↓Xe, ↓Xf, Tryd.VΓ, Tryd.Γs, Xp, Xi, Nat.reduceAdd, Nat.reduceSub, Nat.reduceLT, Nat.reduceLeDiff, reduceIte, reduceCtorEq, Nat.reduceEqDiff, implies_true, forall_const, lawV, lawB, beq_self_eq_true, bne_self_eq_false, Int.reduceBEq, Int.reduceBNe, Int.reduceLT, Int.reduceLE]
  refine callV_sc (g2 _) ?_
  rintro r b ⟨rfl, rfl⟩
  simp only [lawG, ↓Xn, ↓Xo, ↓Xg, ↓Xd, ↓Xe, ↓Xf, Tryd.VΓ, Tryd.Γs, Xp, Xi, Nat.reduceAdd, Nat.reduceSub, Nat.reduceLT, Nat.reduceLeDiff, reduceIte, reduceCtorEq, Nat.reduceEqDiff, implies_true, forall_const, lawV, lawB, beq_self_eq_true, bne_self_eq_false, Int.reduceBEq, Int.reduceBNe, Int.reduceLT, Int.reduceLE]
  (refine callV_pc (p1) ?_; simp only [lawG, ↓Xn, ↓Xo, ↓Xg, ↓Xd, ↓Xe, ↓Xf, Tryd.VΓ, Tryd.Γs, Xp, Xi, Nat.reduceAdd, Nat.reduceSub, Nat.reduceLT, Nat.reduceLeDiff, reduceIte, reduceCtorEq, Nat.reduceEqDiff, implies_true, forall_const, lawV, beq_self_eq_true, bne_self_eq_false, Int.reduceBEq, Int.reduceBNe, Int.reduceLT, Int.reduceLE, lawB])
  have w1 : IntKind.u64.wrap 1000 = 1000 := by decide
  have w2 : IntKind.u64.wrap (rest.length : Int) = rest.length := by simp [IntKind.wrap, IntKind.bits, IntKind.signed]; omega
  rw [w1, w2]
  refine ⟨fun h => absurd (of_decide_eq_true h) (by omega), fun _ => ⟨fun h => ⟨?_, (Kp.refl _).app _⟩, fun h => ?_⟩⟩
  · rw [if_pos (by have := of_decide_eq_true h; omega)]
  · have h := of_decide_eq_false h
    exact ⟨⟨by omega, by omega⟩, by rw [if_neg (by omega)], (Kp.refl _).app _⟩
theorem dec_digs (n : Nat) (hn : n ≤ 1000) : Digs (decS n) := by
  have := decS_length 3 n (by omega)
  exact ⟨List.length_pos_iff.1 (decS_pos n), by omega, decS_digits n⟩
theorem dec_parse (n : Nat) (hn : n ≤ 1000) : numParse isDigit 10 4611686018427387904 (decS n) = (n, 0) := by
  have h := decS_back 4611686018427387904 n n (Nat.le_refl _) (by omega)
  have hp := decS_pos n
  unfold numParse
  rw [if_neg (by cases hd : decS n with | nil => rw [hd] at hp; simp at hp | cons => simp), if_pos h.2.1, h.1]
end Go.Proofs.YtjponbpdlioocaaDoor
/- The walk of the law on bodies that are cut off. -/
set_option linter.all false
set_option maxRecDepth 20000
namespace Go.Proofs.YtjponbpdlioocaaDoor
open Go Vc Go.RowKit Wf
set_option linter.unusedSimpArgs false
theorem p_body_Encode2 (s : Bytes) (size : Int) (hs : s.length ≤ 1000000) (h1 : -9223372036854775808 ≤ size) (h2 : size ≤ 9223372036854775807) : PC Tryd.V 7 [.str s, .int .i64 size] (.str (encode size s)) :=
  ⟨Tryd.call7, by simp [flat, flat.flatL], by simp [flat, flat.flatL], fun w _ => (body_Encode s size w hs h1 h2).mono fun _ _ ⟨h, k⟩ => ⟨by rw [h]; simp [conc, concL], k⟩⟩
theorem p_law19_sane2 : PC Tryd.V 6 [] (.bool true) :=
  ⟨Tryd.call6, by simp [flat, flat.flatL], by simp [flat, flat.flatL], fun w _ => (law19_sane w).mono fun _ _ ⟨h, k⟩ => ⟨by rw [h]; simp [conc, concL], k⟩⟩
theorem tup_flat (s : Bytes) (e : Int) : flat (.tup [.str s, .int .i64 e]) = true := by simp [flat, flat.flatL]
theorem read_short {bs : List Res} {j : Nat} {m : Bool} (n : Nat) (hn : n ≤ 1000) (hj : bs[j]? = some (.own ([(clS, decS n)].flatMap fc) 28 2 1 m)) (rest : Bytes) (hr : rest.length < n) :
    SC Tryd.V 8 [.agg [.int .i64 0, .int .i64 200, .o j 1], .str rest, .int .i64 1000] bs (fun r b => r = .tup [.str [], .int .i64 191] ∧ b = bs) := by
  have h := sc_read_sized (decS n) (dec_digs n hn) n (dec_parse n hn) hj rest (by omega) hn
  simp only [if_pos hr] at h
  exact sc_forget (tup_flat _ _) h
theorem read_full {bs : List Res} {j : Nat} {m : Bool} (n : Nat) (hn : n ≤ 1000) (hj : bs[j]? = some (.own ([(clS, decS n)].flatMap fc) 28 2 1 m)) (rest : Bytes) (hl : rest.length ≤ 1000) (hr : ¬ rest.length < n) :
    SC Tryd.V 8 [.agg [.int .i64 0, .int .i64 200, .o j 1], .str rest, .int .i64 1000] bs (fun r b => r = .tup [.str (rest.take n), .int .i64 0] ∧ b = bs) := by
  have h := sc_read_sized (decS n) (dec_digs n hn) n (dec_parse n hn) hj rest hl hn
  simp only [if_neg hr] at h
  exact sc_forget (tup_flat _ _) h
theorem rem_n (x y : Nat) (hy : 0 < y) : divI .rem .i64 (x : Int) (y : Int) = ((x % y : Nat) : Int) := by
  have h : divI .rem .i64 (x : Int) (y : Int) = Int.tmod x y := rfl
  rw [h]
  first
  | exact (Int.ofNat_tmod x y).symm
  | exact Int.ofNat_tmod x y
  | (rw [Int.tmod_eq_emod_of_nonneg (by omega)]; omega)
set_option maxRecDepth 20000 in
set_option maxHeartbeats 4000000 in
theorem s_BodyCuts (s : Bytes) (size cut : Int) (h1 : 0 ≤ size ∧ size ≤ 255) (h2 : 0 ≤ cut ∧ cut ≤ 255) : PC Tryd.V 3 [.str s, .int .u8 size, .int .u8 cut] (.bool true) := by
  obtain ⟨size, rfl⟩ := Int.eq_ofNat_of_zero_le h1.1
  obtain ⟨cut, rfl⟩ := Int.eq_ofNat_of_zero_le h2.1
  refine pc_of 3000 Tryd.func3 rfl Tryd.ntmps3 Tryd.results3 Tryd.call3 (by simp) (by simp [flat, flat.flatL]) (by simp [flat, flat.flatL]) ?_
  simp only [lawG, ↓Xn, ↓Xo, ↓Xg, ↓Xd, ↓Xe, ↓Xf, Tryd.VΓ, Tryd.Γs, Xp, Xi, Nat.reduceAdd, Nat.reduceSub, Nat.reduceLT, Nat.reduceLeDiff, reduceIte, reduceCtorEq, Nat.reduceEqDiff, implies_true, forall_const, lawV, beq_self_eq_true, bne_self_eq_false, Int.reduceBEq, Int.reduceBNe, Int.reduceLT, Int.reduceLE]
  (refine callV_pc (p_law19_sane2) ?_; simp only [lawG, ↓Xn, ↓Xo, ↓Xg, ↓Xd, ↓Xe, ↓Xf, Tryd.VΓ, Tryd.Γs, Xp, Xi, Nat.reduceAdd, Nat.reduceSub, Nat.reduceLT, Nat.reduceLeDiff, reduceIte, reduceCtorEq, Nat.reduceEqDiff, implies_true, forall_const, lawV, beq_self_eq_true, bne_self_eq_false, Int.reduceBEq, Int.reduceBNe, Int.reduceLT, Int.reduceLE])
  intro q1 q2
  have q1 := of_decide_eq_false q1
  have q2 := beq_eq_false_iff_ne.1 q2
  have w1 : IntKind.i64.wrap (size : Int) = size := by simp [IntKind.wrap, IntKind.bits, IntKind.signed]; omega
  have w2 : IntKind.i64.wrap (cut : Int) = cut := by simp [IntKind.wrap, IntKind.bits, IntKind.signed]; omega
  rw [w1]
  have p1 := p_body_Encode2 s size (by omega) (by omega) (by omega)
  have he := encode_length size _ s (Nat.le_refl _)
  have hcut := chunked_cut size s (cut % (encode size s).length) (by omega) (Nat.mod_lt _ (by omega))
  generalize encode size s = E at p1 he hcut
  have r1 := rem_n cut E.length (by omega)
  have r2 := rem_n cut s.length (by omega)
  have hm1 := Nat.mod_lt cut (show 0 < E.length by omega)
  have hm2 := Nat.mod_lt cut (show 0 < s.length by omega)
  generalize cut % E.length = k at hcut r1 hm1
  generalize cut % s.length = n at r2 hm2
  (refine callV_pc (p1) ?_; simp only [lawG, ↓Xn, ↓Xo, ↓Xg, ↓Xd, ↓Xe, ↓Xf, Tryd.VΓ, Tryd.Γs, Xp, Xi, Nat.reduceAdd, Nat.reduceSub, Nat.reduceLT, Nat.reduceLeDiff, reduceIte, reduceCtorEq, Nat.reduceEqDiff, implies_true, forall_const, lawV, beq_self_eq_true, bne_self_eq_false, Int.reduceBEq, Int.reduceBNe, Int.reduceLT, Int.reduceLE, w2, r1, r2, Int.toNat_natCast])
  refine ⟨by omega, by decide, ⟨by omega, by omega⟩, ?_⟩
  have s1 := fun bs hj => sc_forget (tup_flat _ _) (sc_read_chunked (bs := bs) (j := 0) (m := true) hj (E.take k) (by rw [List.length_take]; omega) hcut)
  refine callV_sc (s1 _ rfl) ?_
  rintro r b ⟨rfl, rfl⟩
  have d1 := p_law19_digits s.length (by omega)
  have d2 := p_law19_digits n (by omega)
  simp only [lawG, ↓Xn, ↓Xo, ↓Xg, ↓Xd, ↓Xe, ↓Xf, Tryd.VΓ, Tryd.Γs, Xp, Xi, Nat.reduceAdd, Nat.reduceSub, Nat.reduceLT, Nat.reduceLeDiff, reduceIte, reduceCtorEq, Nat.reduceEqDiff, implies_true, forall_const, lawV, beq_self_eq_true, bne_self_eq_false, Int.reduceBEq, Int.reduceBNe, Int.reduceLT, Int.reduceLE, w2, r1, r2, Int.toNat_natCast, lawB]
  refine ⟨q2, ?_⟩
  (refine callD_pc (d1) ?_; simp only [lawG, ↓Xn, ↓Xo, ↓Xg, ↓Xd, ↓Xe, ↓Xf, Tryd.VΓ, Tryd.Γs, Xp, Xi, Nat.reduceAdd, Nat.reduceSub, Nat.reduceLT, Nat.reduceLeDiff, reduceIte, reduceCtorEq, Nat.reduceEqDiff, implies_true, forall_const, lawV, beq_self_eq_true, bne_self_eq_false, Int.reduceBEq, Int.reduceBNe, Int.reduceLT, Int.reduceLE, w2, r1, r2, Int.toNat_natCast, lawB, List.cons_append, List.nil_append])
  have t1 := fun bs hj => read_short (bs := bs) (j := 1) (m := true) s.length (by omega) hj (s.take n) (by rw [List.length_take]; omega)
  have t2 := fun bs hj => read_full (bs := bs) (j := 2) (m := true) n (by omega) hj s (by omega) (by omega)
  refine ⟨by decide, ⟨by omega, by omega⟩, callD_scw [] (t1 _ rfl) (fun _ _ _ => rfl) ?_⟩
  simp only [lawG, ↓Xn, ↓Xo, ↓Xg, ↓Xd, ↓Xe, ↓Xf, Tryd.VΓ, Tryd.Γs, Xp, Xi, Nat.reduceAdd, Nat.reduceSub, Nat.reduceLT, Nat.reduceLeDiff, reduceIte, reduceCtorEq, Nat.reduceEqDiff, implies_true, forall_const, lawV, beq_self_eq_true, bne_self_eq_false, Int.reduceBEq, Int.reduceBNe, Int.reduceLT, Int.reduceLE, w2, r1, r2, Int.toNat_natCast, lawB, List.cons_append, List.nil_append]
  refine ⟨(OkD_fast (by kernel_rfl)), ?_⟩
  (refine callV_pc (d2) ?_; simp only [lawG, ↓Xn, ↓Xo, ↓Xg, ↓Xd, ↓Xe, ↓Xf, Tryd.VΓ, Tryd.Γs, Xp, Xi, Nat.reduceAdd, Nat.reduceSub, Nat.reduceLT, Nat.reduceLeDiff, reduceIte, reduceCtorEq, Nat.reduceEqDiff, implies_true, forall_const, lawV, beq_self_eq_true, bne_self_eq_false, Int.reduceBEq, Int.reduceBNe, Int.reduceLT, Int.reduceLE, w2, r1, r2, Int.toNat_natCast, lawB, List.cons_append, List.nil_append])
  refine ⟨by decide, callV_sc (t2 _ rfl) ?_⟩
  rintro r b ⟨rfl, rfl⟩
  simp only [lawG, ↓Xn, ↓Xo, ↓Xg, ↓Xd, ↓Xe, ↓Xf, Tryd.VΓ, Tryd.Γs, Xp, Xi, Nat.reduceAdd, Nat.reduceSub, Nat.reduceLT, Nat.reduceLeDiff, reduceIte, reduceCtorEq, Nat.reduceEqDiff, implies_true, forall_const, lawV, beq_self_eq_true, bne_self_eq_false, Int.reduceBEq, Int.reduceBNe, Int.reduceLT, Int.reduceLE, w2, r1, r2, Int.toNat_natCast, lawB, List.cons_append, List.nil_append]
  exact ⟨by omega, by omega⟩
end Go.Proofs.YtjponbpdlioocaaDoor
