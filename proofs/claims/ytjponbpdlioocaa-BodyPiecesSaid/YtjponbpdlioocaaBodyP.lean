/- Plain functions of package body. -/
import Derived.Test.YtjponbpdlioocaaBase
set_option linter.all false
namespace Wf
open Go Go.RowKit
def hexDig (d : Nat) : UInt8 := if d < 10 then (48 + d).toUInt8 else (87 + d).toUInt8
/-- The hexadecimal digits of a number, none of 0. -/
def hexS (n : Nat) : Bytes := if _h : n = 0 then [] else hexS (n / 16) ++ [hexDig (n % 16)]
termination_by n
decreasing_by omega
theorem hex_at (k : Nat) : List.drop (k % 16) (48 :: List.take (k % 16) [49, 50, 51, 52, 53, 54, 55, 56, 57, 97, 98, 99, 100, 101, 102]) = [hexDig (k % 16)] := by
  have : (List.range 16).all (fun d => List.drop d (48 :: List.take d [49, 50, 51, 52, 53, 54, 55, 56, 57, 97, 98, 99, 100, 101, 102]) == [hexDig d]) = true := by decide +kernel
  rw [List.all_eq_true] at this
  simpa using this (k % 16) (by simp; omega)
theorem hex_next {k n : Nat} {l : Bytes} (h0 : 0 < k) (h : hexS k ++ l = hexS n) : hexS (k / 16) ++ (hexDig (k % 16) :: l) = hexS n := by
  rw [← h]; conv => rhs; rw [hexS, dif_neg (by omega)]
  simp
theorem hexS_pos {n : Nat} (h : 0 < n) : hexS n = hexS (n / 16) ++ [hexDig (n % 16)] := by
  rw [hexS, dif_neg (by omega)]
theorem hexS_zero : hexS 0 = [] := by rw [hexS]; rfl
theorem hexS_length (n : Nat) : (hexS n).length ≤ n := by
  induction n using Nat.strongRecOn with
  | _ n ih =>
    rcases Nat.eq_zero_or_pos n with rfl | h
    · simp [hexS_zero]
    · rw [hexS_pos h]; have := ih (n / 16) (by omega); simp; omega
/-- How many bytes the next chunk takes. -/
def chunkLen (size : Int) (s : Bytes) : Nat := (min (max size 1) s.length).toNat
theorem chunkLen_pos {size : Int} {s : Bytes} (h : s ≠ []) : 0 < chunkLen size s ∧ chunkLen size s ≤ s.length := by
  have := List.length_pos_iff.2 h; unfold chunkLen; omega
def crlf : Bytes := [13, 10]
def encode (size : Int) (s : Bytes) : Bytes :=
  if _h : s = [] then [48, 13, 10, 13, 10] else hexS (chunkLen size s) ++ crlf ++ s.take (chunkLen size s) ++ crlf ++ encode size (s.drop (chunkLen size s))
termination_by s.length
decreasing_by have := chunkLen_pos (size := size) _h; simp; omega
theorem encode_ne {size : Int} {s : Bytes} (h : s ≠ []) : encode size s = hexS (chunkLen size s) ++ crlf ++ s.take (chunkLen size s) ++ crlf ++ encode size (s.drop (chunkLen size s)) := by
  rw [encode, dif_neg h]
theorem encode_nil {size : Int} : encode size [] = [48, 13, 10, 13, 10] := by rw [encode]; rfl
theorem encode_next {size : Int} {s0 s acc : Bytes} (h : s ≠ []) (he : acc ++ encode size s = encode size s0) : (acc ++ (hexS (chunkLen size s) ++ (13 :: 10 :: (s.take (chunkLen size s) ++ [13, 10])))) ++ encode size (s.drop (chunkLen size s)) = encode size s0 := by
  rw [← he, encode_ne h]; simp [crlf]
/-- CR LF at the head: the error, and what is left. -/
def newline : Bytes → Int × Bytes
  | 13 :: 10 :: r => (0, r)
  | [] => (191, [])
  | [13] => (191, [13])
  | r => (190, r)
theorem newline_cases (r : Bytes) : (∃ t, r = 13 :: 10 :: t) ∨ r = [] ∨ r = [13] ∨ (Lib.hasPrefix r [13, 10] = false ∧ r.isEmpty = false ∧ (r == [13]) = false ∧ newline r = (190, r)) := by
  match r with
  | [] => exact .inr (.inl rfl)
  | [c] =>
    by_cases h : c = 13
    · exact .inr (.inr (.inl (by rw [h])))
    · refine .inr (.inr (.inr ⟨by simp [Lib.hasPrefix, List.isPrefixOf], rfl, by simp [h], ?_⟩))
      unfold newline
      split <;> simp_all
  | c :: d :: t =>
    by_cases h : c = 13 ∧ d = 10
    · exact .inl ⟨t, by rw [h.1, h.2]⟩
    · refine .inr (.inr (.inr ⟨?_, rfl, by simp, ?_⟩))
      · simp [Lib.hasPrefix, List.isPrefixOf]; intro h1; subst h1; intro h2; exact h ⟨rfl, h2.symm⟩
      · unfold newline
        split <;> simp_all
theorem newline_le (r : Bytes) : (newline r).2.length ≤ r.length := by
  rcases newline_cases r with ⟨t, rfl⟩ | rfl | rfl | ⟨_, _, _, h⟩
  · simp [newline]; omega
  · simp [newline]
  · simp [newline]
  · rw [h]; exact Nat.le_refl _
def isNL (c : UInt8) : Bool := [13, 10].contains c
/-- The size line: the error, the size, what is left. -/
def sizeOf' (r : Bytes) (n : Nat) : Nat := if (numParse isHex 16 4611686018427387904 (r.take n)).2 = 0 then (numParse isHex 16 4611686018427387904 (r.take n)).1 else 4611686018427387904
def hexLen (r : Bytes) : Nat := pre (fun c => !isHex c) r
def sepAt (r : Bytes) : Bool := match r.drop (hexLen r) with
  | c :: _ => c == 59 || c == 13
  | [] => false
def sizes (r : Bytes) (old : Nat) : Int × Nat × Bytes :=
  if hexLen r = r.length then (191, old, r)
  else if hexLen r = 0 ∨ sepAt r = false then (190, old, r)
  else if (newline (r.drop (pre isNL r))).1 = 0 then (0, sizeOf' r (hexLen r), (newline (r.drop (pre isNL r))).2)
  else ((newline (r.drop (pre isNL r))).1, old, (newline (r.drop (pre isNL r))).2)
theorem sepAt_get {r : Bytes} (h : hexLen r < r.length) : sepAt r = (r[hexLen r] == 59 || r[hexLen r] == 13) := by
  unfold sepAt; rw [drop_cons r _ h]
theorem semi_at (c : UInt8) : Lib.indexByte [59, 13] c = if c = 59 then 0 else if c = 13 then 1 else -1 := by
  have := all256 (p := fun c => decide (Lib.indexByte [59, 13] c = if c = 59 then 0 else if c = 13 then 1 else -1)) (by decide +kernel) c
  exact of_decide_eq_true this
theorem newline_ok {r : Bytes} (h : (newline r).1 = 0) : (newline r).2.length + 2 = r.length := by
  rcases newline_cases r with ⟨t, rfl⟩ | rfl | rfl | ⟨_, _, _, h4⟩
  · simp [newline]
  · simp [newline] at h
  · simp [newline] at h
  · rw [h4] at h; simp at h
/-- What is behind the last chunk: the error. -/
def trailerGo : Nat → Bytes → Int
  | 0, _ => 0
  | f + 1, r =>
    if (newline (r.drop (pre isNL r))).1 ≠ 0 then (newline (r.drop (pre isNL r))).1
    else if r.take (pre isNL r) = [] then 0
    else trailerGo f (newline (r.drop (pre isNL r))).2
/-- The chunks: what has been read, what is left, the last size. -/
def chunkGo (most : Int) : Nat → Bytes → Bytes → Nat → Bytes × Int
  | 0, _, _, _ => ([], 0)
  | f + 1, acc, r, old =>
    if (sizes r old).1 ≠ 0 then ([], (sizes r old).1)
    else if most < 0 ∨ most - acc.length < (sizes r old).2.1 then ([], 142)
    else if (sizes r old).2.1 = 0 then
      if trailerGo ((sizes r old).2.2.length + 1) (sizes r old).2.2 ≠ 0 then ([], trailerGo ((sizes r old).2.2.length + 1) (sizes r old).2.2) else (acc, 0)
    else if (sizes r old).2.2.length < (sizes r old).2.1 then ([], 191)
    else if (newline ((sizes r old).2.2.drop (sizes r old).2.1)).1 ≠ 0 then ([], (newline ((sizes r old).2.2.drop (sizes r old).2.1)).1)
    else chunkGo most f (acc ++ (sizes r old).2.2.take (sizes r old).2.1) (newline ((sizes r old).2.2.drop (sizes r old).2.1)).2 (sizes r old).2.1
def chunked (s : Bytes) (most : Int) : Bytes × Int := chunkGo most (s.length + 1) [] s 0
theorem sizes_ok {r : Bytes} {old : Nat} (h : (sizes r old).1 = 0) : (sizes r old).2.2.length < r.length := by
  unfold sizes at h ⊢
  split at h
  · simp at h
  · split at h
    · simp at h
    · split at h
      · rename_i h1 h2 h3
        rw [if_neg h1, if_neg h2, if_pos h3]
        have := newline_ok h3
        simp at this ⊢
        omega
      · rename_i h3
        exact absurd h h3
theorem sizes_len (r : Bytes) (old : Nat) : (sizes r old).2.2.length ≤ r.length := by
  unfold sizes
  split
  · exact Nat.le_refl _
  · split
    · exact Nat.le_refl _
    · have := newline_le (r.drop (pre isNL r))
      simp at this
      split <;> (simp only; omega)
theorem sizes_bound (r : Bytes) (old : Nat) (h : old ≤ 4611686018427387904) : (sizes r old).2.1 ≤ 4611686018427387904 := by
  unfold sizes
  split
  · exact h
  · split
    · exact h
    · split
      · simp only [sizeOf']
        split
        · exact numParse_le _ _ _ _
        · exact Nat.le_refl _
      · exact h
end Wf
