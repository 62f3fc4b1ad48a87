/- What the chunked forms mean: plain laws. -/
import Derived.Test.YtjponbpdlioocaaBodyP
set_option linter.all false
namespace Wf
open Go Go.RowKit
theorem hexDig_ok {d : Nat} (h : d < 16) : isHex (hexDig d) = true ∧ hexVal (hexDig d) = d := by
  have := (List.all_eq_true.1 (show (List.range 16).all (fun d => isHex (hexDig d) && hexVal (hexDig d) == d) = true by decide +kernel)) d (by simpa using h)
  simpa using this
theorem hexS_hex (n : Nat) : ∀ c ∈ hexS n, isHex c = true := by
  induction n using Nat.strongRecOn with
  | _ n ih =>
    rcases Nat.eq_zero_or_pos n with rfl | h
    · simp [hexS_zero]
    · rw [hexS_pos h]
      intro c hc
      rw [List.mem_append] at hc
      rcases hc with hc | hc
      · exact ih _ (by omega) c hc
      · simp at hc; subst hc; exact (hexDig_ok (by omega)).1
theorem hexS_fold (n : Nat) : (hexS n).foldl (fun a c => a * 16 + hexVal c) 0 = n := by
  induction n using Nat.strongRecOn with
  | _ n ih =>
    rcases Nat.eq_zero_or_pos n with rfl | h
    · simp [hexS_zero]
    · rw [hexS_pos h, List.foldl_append, ih _ (by omega)]
      simp only [List.foldl_cons, List.foldl_nil, (hexDig_ok (show n % 16 < 16 by omega)).2]
      omega
theorem fold_ge (b : Nat) (hb : 1 ≤ b) (l : Bytes) : ∀ a, a ≤ l.foldl (fun a c => a * b + hexVal c) a := by
  induction l with
  | nil => intro a; exact Nat.le_refl _
  | cons c l ih =>
    intro a
    have h1 : a ≤ a * b := Nat.le_mul_of_pos_right a hb
    have := ih (a * b + hexVal c)
    simp only [List.foldl_cons]
    omega
theorem numGo_fold (b m : Nat) (hb : 1 ≤ b) (l : Bytes) : ∀ a, l.foldl (fun a c => a * b + hexVal c) a ≤ m → numGo b m a l = (l.foldl (fun a c => a * b + hexVal c) a, 0) := by
  induction l with
  | nil => intro a _; rfl
  | cons c l ih =>
    intro a h
    simp only [List.foldl_cons] at h ⊢
    have := fold_ge b hb l (a * b + hexVal c)
    rw [numGo, if_neg (by omega)]
    exact ih _ h
theorem hexS_ne {n : Nat} (h : 0 < n) : hexS n ≠ [] := by rw [hexS_pos h]; simp
theorem hexS_parse {n : Nat} (h : 0 < n) (hn : n ≤ 4611686018427387904) : numParse isHex 16 4611686018427387904 (hexS n) = (n, 0) := by
  unfold numParse
  have h1 : (hexS n).isEmpty = false := by have := hexS_ne h; cases hx : hexS n <;> simp_all
  have h2 : (hexS n).all isHex = true := by rw [List.all_eq_true]; exact hexS_hex n
  rw [h1, h2]
  simp only [Bool.false_eq_true, if_false, if_true]
  rw [numGo_fold 16 _ (by omega) _ 0 (by rw [hexS_fold]; exact hn), hexS_fold]
theorem pre_append {p : UInt8 → Bool} {a b : Bytes} (h : ∀ c ∈ a, p c = false) : pre p (a ++ b) = a.length + pre p b := by
  induction a with
  | nil => simp
  | cons c a ih =>
    rw [List.cons_append, pre_cons, h c (by simp), ih (fun x hx => h x (by simp [hx]))]
    simp; omega
theorem hex_nl {c : UInt8} (h : isHex c = true) : isNL c = false := by
  have := all256 (p := fun c => !isHex c || !isNL c) (by decide +kernel) c
  rw [h] at this; simpa using this
/-- A size line is read: its digits, CR LF, what is behind. -/
theorem sizes_line {n : Nat} (h : 0 < n) (hn : n ≤ 4611686018427387904) (t : Bytes) (old : Nat) : sizes (hexS n ++ 13 :: 10 :: t) old = (0, n, t) := by
  have hl : hexLen (hexS n ++ 13 :: 10 :: t) = (hexS n).length := by
    unfold hexLen
    rw [pre_append (fun c hc => by simp [hexS_hex n c hc]), pre_cons]
    rfl
  have hnl : pre isNL (hexS n ++ 13 :: 10 :: t) = (hexS n).length := by
    rw [pre_append (fun c hc => hex_nl (hexS_hex n c hc)), pre_cons]
    rfl
  have hne := hexS_ne h
  have hpos := List.length_pos_iff.2 hne
  unfold sizes
  rw [hl, hnl, if_neg (by simp), if_neg (by
    unfold sepAt
    rw [hl, List.drop_left]
    simp; omega), List.drop_left]
  simp only [newline, if_true, sizeOf']
  rw [List.take_left, hexS_parse h hn]
  simp
theorem sizes_last (t : Bytes) (old : Nat) : sizes (48 :: 13 :: 10 :: t) old = (0, 0, t) := by
  have hl : hexLen (48 :: 13 :: 10 :: t) = 1 := by simp [hexLen, pre_cons, isHex]
  have hnl : pre isNL (48 :: 13 :: 10 :: t) = 1 := by simp [pre_cons, isNL]
  unfold sizes
  rw [hl, hnl, if_neg (by simp), if_neg (by unfold sepAt; rw [hl]; simp)]
  simp [newline, sizeOf', numParse, numGo, isHex, hexVal]
theorem trailer_end (f : Nat) (t : Bytes) : trailerGo (f + 1) (13 :: 10 :: t) = 0 := by
  have : pre isNL (13 :: 10 :: t) = 0 := by simp [pre_cons, isNL]
  rw [trailerGo, this]
  simp [newline]
/-- A chunk is read. -/
theorem chunk_step {n : Nat} (h : 0 < n) (hn : n ≤ 4611686018427387904) {x : Bytes} (hx : x.length = n) (t : Bytes) (most : Int) (f : Nat) (acc : Bytes) (old : Nat) :
    chunkGo most (f + 1) acc (hexS n ++ 13 :: 10 :: (x ++ 13 :: 10 :: t)) old = if most < acc.length + n then ([], 142) else chunkGo most f (acc ++ x) t n := by
  rw [chunkGo, sizes_line h hn]
  simp only [ne_eq, not_true, if_false]
  by_cases hm : most < acc.length + n
  · rw [if_pos (by omega), if_pos hm]
  · rw [if_neg (by omega), if_neg hm, if_neg (by omega), if_neg (by simp; omega)]
    rw [show (x ++ 13 :: 10 :: t).drop n = 13 :: 10 :: t by rw [← hx, List.drop_left], show (x ++ 13 :: 10 :: t).take n = x by rw [← hx, List.take_left]]
    simp [newline]
theorem chunk_last (t : Bytes) (most : Int) (f : Nat) (acc : Bytes) (old : Nat) (g : Bytes) (hg : trailerGo (g.length + 1) g = 0) (ht : t = 48 :: 13 :: 10 :: g) :
    chunkGo most (f + 1) acc t old = if most < acc.length then ([], 142) else (acc, 0) := by
  subst ht
  rw [chunkGo, sizes_last]
  simp only [ne_eq, not_true, if_false]
  by_cases hm : most < acc.length
  · rw [if_pos (by omega), if_pos hm]
  · rw [if_neg (by omega), if_neg hm]
    simp [hg]
theorem encode_read (size : Int) (more : Bytes) (most : Int) : ∀ (k : Nat) (s : Bytes), s.length ≤ k → s.length ≤ 4611686018427387904 → ∀ (f : Nat) (acc : Bytes) (old : Nat), s.length < f →
    chunkGo most f acc (encode size s ++ more) old = if most < acc.length + s.length then ([], 142) else (acc ++ s, 0) := by
  intro k
  induction k with
  | zero =>
    intro s hk _ f acc old hf
    obtain rfl : s = [] := List.length_eq_zero_iff.1 (by omega)
    cases f with
    | zero => simp at hf
    | succ f =>
    rw [encode_nil, show ([48, 13, 10, 13, 10] : Bytes) ++ more = 48 :: 13 :: 10 :: 13 :: 10 :: more from rfl, chunk_last _ most f acc old (13 :: 10 :: more) (trailer_end _ _) rfl]
    simp
  | succ k ih =>
    intro s hk hs f acc old hf
    cases f with
    | zero => simp at hf
    | succ f =>
    by_cases hne : s = []
    · subst hne
      rw [encode_nil, show ([48, 13, 10, 13, 10] : Bytes) ++ more = 48 :: 13 :: 10 :: 13 :: 10 :: more from rfl, chunk_last _ most f acc old (13 :: 10 :: more) (trailer_end _ _) rfl]
      simp
    · obtain ⟨hp1, hp2⟩ := chunkLen_pos (size := size) hne
      rw [encode_ne hne]
      generalize chunkLen size s = n at hp1 hp2
      have hx : (s.take n).length = n := by simp; omega
      have e : hexS n ++ crlf ++ s.take n ++ crlf ++ encode size (s.drop n) ++ more = hexS n ++ 13 :: 10 :: (s.take n ++ 13 :: 10 :: (encode size (s.drop n) ++ more)) := by simp [crlf]
      rw [e, chunk_step hp1 (by omega) hx]
      rw [ih (s.drop n) (by simp; omega) (by simp; omega) f _ _ (by simp; omega)]
      simp only [List.length_append, hx, List.length_drop, List.append_assoc, List.take_append_drop]
      by_cases h1 : most < acc.length + n
      · rw [if_pos h1, if_pos (by omega)]
      · rw [if_neg h1]
        by_cases h2 : most < (acc.length + n : Nat) + (s.length - n : Nat)
        · rw [if_pos h2, if_pos (by omega)]
        · rw [if_neg h2, if_neg (by omega)]
theorem encode_length (size : Int) : ∀ (k : Nat) (s : Bytes), s.length ≤ k → s.length < (encode size s).length ∧ (encode size s).length ≤ 100 * s.length + 5 := by
  intro k
  induction k with
  | zero =>
    intro s hk
    obtain rfl : s = [] := List.length_eq_zero_iff.1 (by omega)
    simp [encode_nil]
  | succ k ih =>
    intro s hk
    by_cases hne : s = []
    · subst hne; simp [encode_nil]
    · obtain ⟨hp1, hp2⟩ := chunkLen_pos (size := size) hne
      rw [encode_ne hne]
      generalize chunkLen size s = n at hp1 hp2
      have := ih (s.drop n) (by simp; omega)
      have h2 := hexS_length n
      simp [crlf] at this ⊢
      omega
theorem chunked_encode (size : Int) (s more : Bytes) (most : Int) (hs : s.length ≤ 1000000) : chunked (encode size s ++ more) most = if most < s.length then ([], 142) else (s, 0) := by
  unfold chunked
  rw [encode_read size more most s.length s (Nat.le_refl _) (by omega) _ [] 0 (by have := (encode_length size s.length s (Nat.le_refl _)).1; simp; omega)]
  simp
end Wf
