/- Plain functions and laws of package template. -/
import Derived.Test.YtnncgbamppaacaaDoorPlainQ
import Derived.Lib.IndexMore
import Derived.Lib.CountLaws
import Derived.Lib.Split
set_option linter.all false
namespace Wf
open Go Go.RowKit
/-- "{uri}". -/
def uriP : Bytes := [123, 117, 114, 105, 125]
def brace (c : UInt8) : Bool := c == 123 || c == 125
/-- The parts around the places, nothing if there is another brace. 'skip' bytes are passed over first. -/
def tplGo : Nat → Bytes → Bytes → Option (List Bytes)
  | _, cur, [] => some [cur]
  | k + 1, cur, _ :: r => tplGo k cur r
  | 0, cur, c :: r => if uriP.isPrefixOf (c :: r) then (tplGo 4 [] r).map (cur :: ·) else if brace c then none else tplGo 0 (cur ++ [c]) r
def tpl (t : Bytes) : Option (List Bytes) := tplGo 0 [] t
theorem tplGo_nil (k : Nat) (cur : Bytes) : tplGo k cur [] = some [cur] := by cases k <;> rfl
theorem tplGo_skip : ∀ (k : Nat) (cur t : Bytes), tplGo k cur t = tplGo 0 cur (t.drop k)
  | 0, _, _ => rfl
  | k + 1, cur, [] => by simp [tplGo_nil]
  | k + 1, cur, c :: r => by rw [tplGo, tplGo_skip k cur r]; rfl
theorem tplGo_hit (cur r : Bytes) : tplGo 0 cur (uriP ++ r) = (tpl r).map (cur :: ·) := by
  show tplGo 0 cur (123 :: ([117, 114, 105, 125] ++ r)) = _
  rw [tplGo, if_pos (by simp [uriP]), tplGo_skip 4]
  rfl
theorem tplGo_idx : ∀ (t cur : Bytes), (Lib.index t uriP = -1 → tplGo 0 cur t = if t.any brace then none else some [cur ++ t]) ∧ (∀ k : Nat, Lib.index t uriP = k → tplGo 0 cur t = if (t.take k).any brace then none else (tpl (t.drop (k + 5))).map ((cur ++ t.take k) :: ·))
  | [], cur => ⟨fun _ => by simp [tplGo], fun k h => by
      unfold Lib.index at h
      rw [if_neg (by decide)] at h
      omega⟩
  | c :: r, cur => by
    obtain ⟨h1, h2⟩ := tplGo_idx r (cur ++ [c])
    by_cases hp : uriP.isPrefixOf (c :: r) = true
    · constructor
      · intro h; unfold Lib.index at h; rw [if_pos hp] at h; omega
      · intro k h
        unfold Lib.index at h
        rw [if_pos hp] at h
        obtain rfl : k = 0 := by omega
        obtain ⟨q, hq⟩ := List.isPrefixOf_iff_prefix.1 hp
        rw [← hq, tplGo_hit]
        simp [uriP]
    · have hstep : tplGo 0 cur (c :: r) = if brace c then none else tplGo 0 (cur ++ [c]) r := by rw [tplGo, if_neg hp]
      constructor
      · intro h
        unfold Lib.index at h
        rw [if_neg hp] at h
        split at h
        · rename_i h'
          rw [hstep, h1 (by simpa using h')]
          cases hc : brace c <;> simp [hc]
        · rename_i h'
          have := Lib.index_ge r uriP
          simp at h'; omega
      · intro k h
        unfold Lib.index at h
        rw [if_neg hp] at h
        split at h
        · omega
        · rename_i h'
          have := Lib.index_ge r uriP
          simp at h'
          obtain ⟨k, rfl⟩ : ∃ j, k = j + 1 := ⟨k - 1, by omega⟩
          rw [hstep, h2 k (by omega)]
          cases hc : brace c <;> simp [hc, show k + 1 + 5 = k + 5 + 1 by omega]
theorem tpl_split : ∀ (n : Nat) (t : Bytes), Lib.count t uriP = n → tpl t = if (Lib.splitK uriP 0 n t).any (·.any brace) then none else some (Lib.splitK uriP 0 n t)
  | 0, t, h => by
    have hm : Lib.index t uriP = -1 := by
      by_cases hm : Lib.index t uriP = -1
      · exact hm
      · have hge := Lib.index_ge t uriP
        have := Lib.count_hit (s := t) (sub := uriP) (i := (Lib.index t uriP).toNat) (by decide) (by omega)
        omega
    unfold tpl
    rw [(tplGo_idx t []).1 hm]
    simp [Lib.splitK]
  | n + 1, t, h => by
    have hm : Lib.index t uriP ≠ -1 := fun hm => by rw [Lib.count_miss hm] at h; omega
    have hge := Lib.index_ge t uriP
    obtain ⟨k, hk⟩ : ∃ k : Nat, Lib.index t uriP = k := ⟨(Lib.index t uriP).toNat, by omega⟩
    have hc := Lib.count_hit (s := t) (sub := uriP) (i := k) (by decide) hk
    rw [show uriP.length = 5 from rfl] at hc
    have ih := tpl_split n (t.drop (k + 5)) (by omega)
    unfold tpl
    rw [(tplGo_idx t []).2 k hk, ih, Lib.splitK, if_neg (show ¬ (Lib.index t uriP == -1) = true by simpa using hm), hk]
    simp only [Int.toNat_natCast, Nat.add_zero, List.nil_append, List.any_cons, show uriP.length = 5 from rfl]
    cases (t.take k).any brace
    · cases (Lib.splitK uriP 0 n (t.drop (k + 5))).any (·.any brace) <;> simp
    · simp
theorem tpl_ne {t : Bytes} {l : List Bytes} (h : tpl t = some l) : l ≠ [] := by
  rw [tpl_split _ t rfl] at h
  split at h
  · cases h
  · obtain rfl := Option.some.inj h
    cases Lib.count t uriP with
    | zero => simp [Lib.splitK]
    | succ n => unfold Lib.splitK; split <;> simp
def tplValid (t : Bytes) : Bool := match tpl t with
  | some (_ :: _ :: _) => true
  | _ => false
/-- The parts, and the escaped text between them. -/
def tplJoin (e : Bytes) : List Bytes → Bytes
  | [] => []
  | x :: r => x ++ r.flatMap (e ++ ·)
def tplExpand (t uri : Bytes) : Bytes × Int :=
  if 4096 < t.length then ([], 5)
  else if tplValid t = false then ([], 230)
  else if 4096 < (tplJoin (pctEncode [] uri) ((tpl t).getD [])).length then ([], 5)
  else (tplJoin (pctEncode [] uri) ((tpl t).getD []), 0)
theorem tplGo_plain : ∀ (a cur r : Bytes), a.any brace = false → tplGo 0 cur (a ++ uriP ++ r) = (tpl r).map ((cur ++ a) :: ·)
  | [], cur, r, _ => by rw [List.nil_append, List.append_nil]; exact tplGo_hit cur r
  | c :: a, cur, r, h => by
    simp only [List.any_cons, Bool.or_eq_false_iff] at h
    have hc : uriP.isPrefixOf (c :: (a ++ uriP ++ r)) = false := by
      have : c ≠ 123 := by rintro rfl; simp [brace] at h
      simp [uriP, List.isPrefixOf, this.symm]
    simp only [List.cons_append]
    rw [tplGo, if_neg (by rw [hc]; simp), if_neg (by simp [h.1]), tplGo_plain a (cur ++ [c]) r h.2]
    simp
theorem tplGo_end : ∀ (a cur : Bytes), a.any brace = false → tplGo 0 cur a = some [cur ++ a]
  | [], cur, _ => by simp [tplGo]
  | c :: a, cur, h => by
    simp only [List.any_cons, Bool.or_eq_false_iff] at h
    have hc : uriP.isPrefixOf (c :: a) = false := by
      have : c ≠ 123 := by rintro rfl; simp [brace] at h
      simp [uriP, List.isPrefixOf, this.symm]
    rw [tplGo, if_neg (by rw [hc]; simp), if_neg (by simp [h.1]), tplGo_end a (cur ++ [c]) h.2]
    simp
theorem tpl_two {a b : Bytes} (ha : a.any brace = false) (hb : b.any brace = false) : tpl (a ++ uriP ++ b) = some [a, b] := by
  unfold tpl
  rw [tplGo_plain a [] b ha]
  unfold tpl
  rw [tplGo_end b [] hb]
  rfl
theorem tpl_keeps {a b uri : Bytes} (ha : a.any brace = false) (hb : b.any brace = false) (la : a.length ≤ 200) (lb : b.length ≤ 200) (lu : uri.length ≤ 500) :
    tplExpand (a ++ uriP ++ b) uri = (a ++ (pctEncode [] uri ++ b), 0) := by
  have hl := pctEncode_len [] uri
  unfold tplExpand tplValid
  rw [tpl_two ha hb, if_neg (by simp [uriP]; omega), if_neg (by simp)]
  simp only [Option.getD_some, tplJoin, List.flatMap_cons, List.flatMap_nil, List.append_nil]
  rw [if_neg (by simp; omega)]
theorem enc_safe (uri : Bytes) : ∀ c ∈ pctEncode [] uri, ([47, 63, 35, 38, 61, 58, 64, 123, 125, 91, 93, 32, 43] : Bytes).contains c = false := by
  intro c hc
  obtain ⟨d, -, hd⟩ := List.mem_flatMap.1 hc
  have h1 := all256 (p := fun d => (encB [] d).all fun c => !([47, 63, 35, 38, 61, 58, 64, 123, 125, 91, 93, 32, 43] : Bytes).contains c) (by decide +kernel) d
  have := List.all_eq_true.1 h1 c hd
  simpa using this
end Wf
