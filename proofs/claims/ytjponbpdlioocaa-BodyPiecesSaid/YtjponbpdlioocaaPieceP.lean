/- Chunks in other spellings. -/
import Derived.Test.YtjponbpdlioocaaBodyQ
set_option linter.all false
namespace Wf
open Go Go.RowKit
/-- A digit of "0123456789abcDEF". -/
def digC (d : Nat) : UInt8 := [48, 49, 50, 51, 52, 53, 54, 55, 56, 57, 97, 98, 99, 68, 69, 70].getD d 0
def pieceSize (n : Nat) : Bytes := [48, digC (n / 16 % 16), digC (n % 16)]
def pieceExt (e : Bool) : Bytes := if e then [59, 97, 61, 34, 98, 34] else []
def piece (e : Bool) (x : Bytes) : Bytes := pieceSize x.length ++ pieceExt e ++ [13, 10] ++ x ++ [13, 10]
def piecesS (e : Bool) (L : List Bytes) : Bytes := L.flatMap fun x => if x = [] then [] else piece e x
def pieceTail (t : Bool) : Bytes := [48, 48, 48, 13, 10] ++ if t then [88, 58, 32, 121, 13, 10, 122, 13, 10] else []
def moreS : Bytes := [13, 10, 109, 111, 114, 101]
theorem piece_num : ∀ n : Nat, n < 256 → numParse isHex 16 4611686018427387904 (pieceSize n) = (n, 0) := by decide +kernel
theorem piece_hex : ∀ n : Nat, n < 256 → ∀ c ∈ pieceSize n, isHex c = true := by decide +kernel
theorem sizes_piece {n : Nat} (hn : n < 256) (e : Bool) (t : Bytes) (old : Nat) : sizes (pieceSize n ++ pieceExt e ++ 13 :: 10 :: t) old = (0, n, t) := by
  have hx := piece_hex n hn
  have hp := piece_num n hn
  have h3 : (pieceSize n).length = 3 := rfl
  generalize pieceSize n = s at hx hp h3
  have hl : hexLen (s ++ pieceExt e ++ 13 :: 10 :: t) = 3 := by
    unfold hexLen
    rw [List.append_assoc, pre_append (fun c hc => by simp [hx c hc]), h3]
    cases e
    · simp [pieceExt, pre_cons, isHex]
    · simp [pieceExt, pre_cons, isHex]
  have hnl : pre isNL (s ++ pieceExt e ++ 13 :: 10 :: t) = (s ++ pieceExt e).length := by
    rw [pre_append (fun c hc => ?_)]
    · simp [pre_cons, isNL]
    · rcases List.mem_append.1 hc with h | h
      · exact hex_nl (hx c h)
      · cases e
        · simp [pieceExt] at h
        · have hq : ∀ c ∈ pieceExt true, isNL c = false := by decide
          exact hq c h
  have hs : sepAt (s ++ pieceExt e ++ 13 :: 10 :: t) = true := by
    unfold sepAt
    rw [hl, List.append_assoc, ← h3, List.drop_left]
    cases e <;> rfl
  unfold sizes
  rw [hl, hnl, hs, if_neg (by simp [h3]), if_neg (by simp), List.drop_left]
  simp only [newline, if_true, sizeOf']
  rw [show (s ++ pieceExt e ++ 13 :: 10 :: t).take 3 = s by rw [List.append_assoc, ← h3, List.take_left], hp]
  simp
theorem chunk_piece {x : Bytes} (hx : x.length < 256) (hne : x ≠ []) (e : Bool) (t : Bytes) (most : Int) (f : Nat) (acc : Bytes) (old : Nat) (hm : (acc.length + x.length : Nat) ≤ most) :
    chunkGo most (f + 1) acc (piece e x ++ t) old = chunkGo most f (acc ++ x) t x.length := by
  have hpos := List.length_pos_iff.2 hne
  have ee : piece e x ++ t = pieceSize x.length ++ pieceExt e ++ 13 :: 10 :: (x ++ 13 :: 10 :: t) := by simp [piece]
  rw [ee, chunkGo, sizes_piece hx]
  simp only [ne_eq, not_true, if_false]
  rw [if_neg (by omega), if_neg (by omega), if_neg (by simp)]
  rw [List.drop_left, List.take_left]
  simp [newline]
theorem tail_zero (b : Bool) : trailerGo ((((if b then [88, 58, 32, 121, 13, 10, 122, 13, 10] else []) ++ moreS : Bytes)).length + 1) ((if b then [88, 58, 32, 121, 13, 10, 122, 13, 10] else []) ++ moreS) = 0 := by
  cases b <;> decide +kernel
theorem chunk_tail (b : Bool) (most : Int) (f : Nat) (acc : Bytes) (old : Nat) (hm : (acc.length : Int) ≤ most) : chunkGo most (f + 1) acc (pieceTail b ++ moreS) old = (acc, 0) := by
  have ee : pieceTail b ++ moreS = pieceSize 0 ++ pieceExt false ++ 13 :: 10 :: ((if b then [88, 58, 32, 121, 13, 10, 122, 13, 10] else []) ++ moreS) := by
    cases b <;> rfl
  rw [ee, chunkGo, sizes_piece (by omega)]
  simp only [ne_eq, not_true, if_false]
  rw [if_neg (by omega)]
  simp only [if_true]
  rw [tail_zero b]
  simp
/-- How many chunks there are. -/
def pieceN (L : List Bytes) : Nat := (L.filter fun x => !x.isEmpty).length
theorem pieces_read (e b : Bool) (most : Int) : ∀ (L : List Bytes) (f : Nat) (acc : Bytes) (old : Nat), (∀ x ∈ L, x.length < 256) → pieceN L < f → ((acc ++ L.flatten).length : Int) ≤ most →
    chunkGo most f acc (piecesS e L ++ (pieceTail b ++ moreS)) old = (acc ++ L.flatten, 0)
  | [], f, acc, old, _, hf, hm => by
    obtain ⟨f, rfl⟩ : ∃ g, f = g + 1 := ⟨f - 1, by omega⟩
    rw [show piecesS e [] = [] from rfl, List.nil_append, chunk_tail b most f acc old (by simpa using hm)]
    simp
  | x :: L, f, acc, old, hx, hf, hm => by
    by_cases h : x = []
    · subst h
      have e1 : piecesS e ([] :: L) = piecesS e L := by simp [piecesS]
      rw [e1, pieces_read e b most L f acc old (fun y hy => hx y (List.mem_cons_of_mem _ hy)) (by simpa [pieceN] using hf) (by simpa using hm)]
      simp
    · obtain ⟨f, rfl⟩ : ∃ g, f = g + 1 := ⟨f - 1, by omega⟩
      have e1 : piecesS e (x :: L) = piece e x ++ piecesS e L := by simp [piecesS, h]
      have h1 : pieceN (x :: L) = pieceN L + 1 := by simp [pieceN, List.filter_cons, h]
      have h2 : (acc ++ x ++ L.flatten).length = (acc ++ (x :: L).flatten).length := by simp
      have h3 : (acc.length + x.length : Nat) ≤ (acc ++ (x :: L).flatten).length := by rw [← h2]; first | (simp; done) | (simp; omega)
      rw [e1, List.append_assoc, chunk_piece (hx x List.mem_cons_self) h e _ most f acc old (by omega), pieces_read e b most L f (acc ++ x) x.length (fun y hy => hx y (List.mem_cons_of_mem _ hy)) (by omega) (by rw [h2]; exact hm)]
      simp
theorem pieces_len (e : Bool) : ∀ L : List Bytes, pieceN L ≤ (piecesS e L).length
  | [] => by simp [pieceN]
  | x :: L => by
    have := pieces_len e L
    by_cases h : x = []
    · subst h
      have e1 : piecesS e ([] :: L) = piecesS e L := by simp [piecesS]
      rw [e1]; simpa [pieceN] using this
    · have e1 : piecesS e (x :: L) = piece e x ++ piecesS e L := by simp [piecesS, h]
      have h1 : pieceN (x :: L) = pieceN L + 1 := by simp [pieceN, List.filter_cons, h]
      rw [e1, h1]
      simp [piece, pieceSize]
      omega
theorem pieces_chunked (e b : Bool) (L : List Bytes) (hx : ∀ x ∈ L, x.length < 256) (hm : (L.flatten.length : Int) ≤ 1000) : chunked (piecesS e L ++ pieceTail b ++ moreS) 1000 = (L.flatten, 0) := by
  unfold chunked
  rw [List.append_assoc, pieces_read e b 1000 L _ [] 0 hx (by have := pieces_len e L; simp; omega) (by simpa using hm)]
  simp
theorem pieces_snoc (e : Bool) (L : List Bytes) (x : Bytes) : piecesS e (L ++ [x]) = piecesS e L ++ if x = [] then [] else piece e x := by
  simp [piecesS]
theorem flatten_le (L : List Bytes) (n m : Nat) (hn : L.length ≤ n) (h : ∀ x ∈ L, x.length ≤ m) : L.flatten.length ≤ n * m := by
  have : L.flatten.length ≤ L.length * m := by
    clear hn
    induction L with
    | nil => simp
    | cons x L ih =>
      have h1 := h x List.mem_cons_self
      have h2 := ih (fun y hy => h y (List.mem_cons_of_mem _ hy))
      rw [List.flatten_cons, List.length_append, List.length_cons, Nat.add_mul]
      omega
  exact Nat.le_trans this (Nat.mul_le_mul_right _ hn)
theorem piece_len (e : Bool) (x : Bytes) : (piece e x).length ≤ x.length + 20 := by
  cases e <;> simp [piece, pieceSize, pieceExt] <;> omega
theorem pieces_size (e : Bool) : ∀ L : List Bytes, (∀ x ∈ L, x.length ≤ 60) → (piecesS e L).length ≤ L.length * 80
  | [], _ => by simp [piecesS]
  | x :: L, h => by
    have h1 := h x List.mem_cons_self
    have h2 := pieces_size e L (fun y hy => h y (List.mem_cons_of_mem _ hy))
    have h3 := piece_len e x
    have e1 : piecesS e (x :: L) = (if x = [] then [] else piece e x) ++ piecesS e L := by simp [piecesS]
    rw [e1, List.length_append, List.length_cons, Nat.add_mul]
    split
    · simp; omega
    · omega
end Wf
