/- The walks of package uri. -/
import Derived.Test.YtnncgbamppaacaaDoorLib
import Derived.Test.YtnncgbamppaacaaDoorUri
set_option linter.all false
set_option maxRecDepth 20000
namespace Go.Proofs.YtnncgbamppaacaaDoor
open Go Vc Go.RowKit Wf
set_option linter.unusedSimpArgs false
def usv (u : Uri) : SV := .agg [.str u.scheme, .str u.authority, .str u.path, .str u.query, .str u.fragment, .bool u.hasScheme, .bool u.hasAuthority, .bool u.hasQuery, .bool u.hasFrag]
theorem shorten_take (s : Bytes) : shorten s = s.take (lastSlash s - 1) := by
  unfold shorten lastSlash
  have h := List.suffix_iff_eq_drop.1 (List.dropWhile_suffix (l := s.reverse) (· != 47))
  have hle := (List.dropWhile_suffix (l := s.reverse) (· != 47)).length_le
  generalize (s.reverse.dropWhile (· != 47)) = d at h hle
  rw [List.length_reverse] at hle
  rw [h, List.drop_drop, List.reverse_drop, List.reverse_reverse, List.length_reverse]
  congr 1
  simp
  omega
theorem lastSlash_le (s : Bytes) : lastSlash s ≤ s.length := by
  have := (List.dropWhile_suffix (l := s.reverse) (· != 47)).length_le
  rw [List.length_reverse] at this
  exact this
theorem authPath_no {s : Bytes} (h : Lib.hasPrefix s [47, 47] = false) : authPath s = ([], false, s) := by
  unfold authPath
  split
  · simp [Lib.hasPrefix] at h
  · rfl
theorem authPath_yes {s : Bytes} (h : Lib.hasPrefix s [47, 47] = true) : authPath s = ((Lib.trimPrefix s [47, 47]).take (pre (· == 47) (Lib.trimPrefix s [47, 47])), true, (Lib.trimPrefix s [47, 47]).drop (pre (· == 47) (Lib.trimPrefix s [47, 47]))) := by
  obtain ⟨r, rfl⟩ := List.isPrefixOf_iff_prefix.1 h
  have ht : Lib.trimPrefix ([47, 47] ++ r) [47, 47] = r := by simp [Lib.trimPrefix, Lib.hasPrefix]
  rw [ht]
  rfl
def RdI (s : Bytes) (σ : St) : Prop := ∃ (p o : Bytes) (j f : Nat), lk 0 σ.t = some (.str p) ∧ lk 3 σ.t = some (.o j o.length) ∧ σ.b[j]? = some (.own (o.map u8S) 5 1 o.length true) ∧ p.length + o.length ≤ s.length ∧ p.length ≤ f ∧ dotsGo f p o = removeDots s
def RdM (σ : St) : Nat := match lk 0 σ.t with
  | some (.str p) => p.length
  | _ => 0
theorem RdM_eq {σ : St} {p : Bytes} (h : lk 0 σ.t = some (.str p)) : RdM σ = p.length := by simp [RdM, h]
theorem rd_done {s p' o' : Bytes} {j f n : Nat} {t : List (Nat × SV)} {b : List Res} (h0 : lk 0 t = some (.str p')) (h3 : lk 3 t = some (.o j o'.length)) (hj : b[j]? = some (.own (o'.map u8S) 5 1 o'.length true)) (hlen : p'.length + o'.length ≤ s.length) (hf : p'.length ≤ f) (hgo : dotsGo f p' o' = removeDots s) (hlt : p'.length < n) :
    RdI s ⟨t, b⟩ ∧ RdM ⟨t, b⟩ < n := ⟨⟨p', o', j, f, h0, h3, hj, hlen, hf, hgo⟩, by rw [RdM_eq h0]; exact hlt⟩
theorem rd_len {o : Bytes} {X : Int} (h : X ≤ o.length) : (o.take X.toNat).length = X.toNat := by rw [List.length_take]; omega
theorem rd_at {b : List Res} {j : Nat} {o : Bytes} {X : Int} (h : X ≤ o.length) : (b.set j .gone ++ [.own ((o.map u8S).take (X.toNat * 1)) 5 1 X.toNat true])[b.length]? = some (.own ((o.take X.toNat).map u8S) 5 1 (o.take X.toNat).length true) := by
  rw [List.getElem?_append_right (by simp), rd_len h]
  simp [List.map_take]
theorem rd_at2 (b : List Res) (j : Nat) (o y : Bytes) : (b.set j .gone ++ [.own (o.map u8S ++ y.map u8S) 5 1 (o.length + y.length) true])[b.length]? = some (.own ((o ++ y).map u8S) 5 1 (o ++ y).length true) := by
  rw [List.getElem?_append_right (by simp)]
  simp
end Go.Proofs.YtnncgbamppaacaaDoor
