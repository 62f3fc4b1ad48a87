/- Texts of this claim, laid together: UriW, UriW3, UriN, UriW2, UrlW2, RefUri, RefUri2, RefUri3, RefPct, RefPct2, RefUrl, UrlW3, UrlW4, WorldW, WorldW2, WorldW3, OwnRow, HeadW, FetchQ, HeadQ, HeadW2, RedirW, FetchW, FetchW2, FetchW3, HopsP, MadeR, Law26. -/
import Derived.Shelf.SlicesE.Clone
import Derived.Test.YtfmafmgbfamaiaaGreatDoorM4
/- The walks of package uri. -/
set_option linter.all false
set_option maxRecDepth 20000
namespace Go.Proofs.YtfmafmgbfamaiaaGreatDoor
open Go Vc Go.RowKit Wf
set_option linter.unusedSimpArgs false
def usv (u : Uri) : SV := .agg [.str u.scheme, .str u.authority, .str u.path, .str u.query, .str u.fragment, .bool u.hasScheme, .bool u.hasAuthority, .bool u.hasQuery, .bool u.hasFrag]
theorem shorten_take (s : Bytes) : shorten s = s.take (lastSlash s - 1) := by
  unfold shorten lastSlash
  have h := List.suffix_iff_eq_drop.1 (List.dropWhile_suffix (l := s.reverse) (· != 47))
  have hle := (List.dropWhile_suffix (l := s.reverse) (· != 47)).length_le
  generalize (s.reverse.dropWhile (· != 47)) = d at h hle
  rw [List.length_reverse] at hle
  rw [h, List.drop_drop, List.reverse_drop, List.reverse_reverse, List.length_reverse]
  congr 1
  simp
  omega
theorem lastB_slash (s : Bytes) : lastB s 47 = (lastSlash s : Int) - 1 := lastB_eq s 47
theorem lastSlash_le (s : Bytes) : lastSlash s ≤ s.length := by
  have := (List.dropWhile_suffix (l := s.reverse) (· != 47)).length_le
  rw [List.length_reverse] at this
  exact this
theorem lastB_shorten (s : Bytes) : s.take (max 0 (lastB s 47)).toNat = shorten s := by
  rw [shorten_take, lastB_slash]
  congr 1
  omega
theorem lastB_le (s : Bytes) : lastB s 47 ≤ s.length := by
  have := lastSlash_le s
  rw [lastB_slash]
  omega
theorem p_uri_scheme (s : Bytes) (hs : s.length ≤ 9223372036854775807) : PC Tryz.V 61 [.str s] (.bool (schemeOk s)) :=
  ⟨Tryz.call61, by simp [flat, flat.flatL], by simp [flat, flat.flatL], fun w _ => (uri_scheme s w hs).mono fun _ _ ⟨h, k⟩ => ⟨h, below_same k⟩⟩
theorem authPath_no {s : Bytes} (h : Lib.hasPrefix s [47, 47] = false) : authPath s = ([], false, s) := by
  unfold authPath
  split
  · simp [Lib.hasPrefix] at h
  · rfl
theorem authPath_yes {s : Bytes} (h : Lib.hasPrefix s [47, 47] = true) : authPath s = ((Lib.trimPrefix s [47, 47]).take (pre (· == 47) (Lib.trimPrefix s [47, 47])), true, (Lib.trimPrefix s [47, 47]).drop (pre (· == 47) (Lib.trimPrefix s [47, 47]))) := by
  obtain ⟨r, rfl⟩ := List.isPrefixOf_iff_prefix.1 h
  have ht : Lib.trimPrefix ([47, 47] ++ r) [47, 47] = r := by simp [Lib.trimPrefix, Lib.hasPrefix]
  rw [ht]
  rfl
set_option maxHeartbeats 2000000 in
theorem p_uri_Split (s : Bytes) : PC Tryz.V 35 [.str s] (.tup [usv (uriSplit s).1, .int .i64 (uriSplit s).2]) := by
  refine pc_of 3000 Tryz.func35 rfl Tryz.ntmps35 Tryz.results35 Tryz.call35 (by simp) (by simp [flat, flat.flatL]) (by simp [flat, flat.flatL, usv]) ?_
  simp only [lawG, ↓Xn, ↓Xo, ↓Xg, ↓Xd, ↓Xe, ↓Xf, Tryz.VΓ, Tryz.Γs, Xp, Xi, Nat.reduceAdd, Nat.reduceSub, Nat.reduceLT, Nat.reduceLeDiff, reduceIte, reduceCtorEq, Nat.reduceEqDiff, implies_true, forall_const, lawV]
  refine ⟨fun h => ?_, fun h => ?_⟩
  · have : uriSplit s = (Uri.none, 5) := if_pos (by simp at h; omega)
    rw [this]; rfl
  · have hl : s.length < 4294967281 := by simp at h; omega
    have hq : uriSplit s = splitRest (cutC 63 (cutC 35 s).1).1 (cutC 35 s).2.1 (cutC 63 (cutC 35 s).1).2.1 (cutC 35 s).2.2 (cutC 63 (cutC 35 s).1).2.2 := if_neg (by simp at h; omega)
    rw [hq]
    have l1 := cutC_len 35 s
    have l2 := cutC_len 63 (cutC 35 s).1
    (refine callV_pc (p_Cut s 35 hl) ?_; simp only [lawG, ↓Xn, ↓Xo, ↓Xg, ↓Xd, ↓Xe, ↓Xf, Tryz.VΓ, Tryz.Γs, Xp, Xi, Nat.reduceAdd, Nat.reduceSub, Nat.reduceLT, Nat.reduceLeDiff, reduceIte, reduceCtorEq, Nat.reduceEqDiff, implies_true, forall_const, lawV])
    (refine callV_pc (p_Cut _ 63 (by omega)) ?_; simp only [lawG, ↓Xn, ↓Xo, ↓Xg, ↓Xd, ↓Xe, ↓Xf, Tryz.VΓ, Tryz.Γs, Xp, Xi, Nat.reduceAdd, Nat.reduceSub, Nat.reduceLT, Nat.reduceLeDiff, reduceIte, reduceCtorEq, Nat.reduceEqDiff, implies_true, forall_const, lawV])
    generalize cutC 63 (cutC 35 s).1 = C2 at l2 ⊢
    generalize cutC 35 s = C1 at l1 l2 ⊢
    obtain ⟨s1, fr, hf⟩ := C1
    obtain ⟨s2, qu, hqu⟩ := C2
    simp only at l1 l2 ⊢
    have hix : Lib.indexAny s2 [58, 47] = if pre colonSlash s2 < s2.length then (pre colonSlash s2 : Int) else -1 := indexAny_pre s2 [58, 47]
    have p3 := p_IndexAny s2 [58, 47] (by decide) (by decide) (by decide) (by omega)
    -- the end: the authority and the path
    by_cases hp : pre colonSlash s2 < s2.length
    · rw [if_pos hp] at hix
      rw [hix] at p3
      (refine callV_pc (p3) ?_; simp only [lawG, ↓Xn, ↓Xo, ↓Xg, ↓Xd, ↓Xe, ↓Xf, Tryz.VΓ, Tryz.Γs, Xp, Xi, Nat.reduceAdd, Nat.reduceSub, Nat.reduceLT, Nat.reduceLeDiff, reduceIte, reduceCtorEq, Nat.reduceEqDiff, implies_true, forall_const, lawV])
      refine ⟨fun _ => ⟨⟨by omega, by omega⟩, fun h1 => ⟨⟨by omega, by omega⟩, ?_⟩, fun h1 => ?_⟩, fun h1 => ?_⟩
      · have hh : (s2.drop (pre colonSlash s2)).head? = some 58 := by
          rw [List.head?_drop, List.getElem?_eq_getElem hp]
          rw [byte_is (n := 58) hp 58 rfl] at h1
          rw [beq_iff_eq.1 h1]
        (refine callV_pc (p_uri_scheme _ (by simp; omega)) ?_; simp only [lawG, ↓Xn, ↓Xo, ↓Xg, ↓Xd, ↓Xe, ↓Xf, Tryz.VΓ, Tryz.Γs, Xp, Xi, Nat.reduceAdd, Nat.reduceSub, Nat.reduceLT, Nat.reduceLeDiff, reduceIte, reduceCtorEq, Nat.reduceEqDiff, implies_true, forall_const, lawV])
        refine ⟨fun h2 => ?_, fun h2 => ⟨⟨by omega, by omega⟩, ⟨by omega, by omega⟩, ⟨by omega, by omega⟩, (OkD_fast (by kernel_rfl)), ?_⟩⟩
        · have : splitRest s2 fr qu hf hqu = (Uri.none, 6) := by
            unfold splitRest
            rw [if_pos hh, if_neg (by simpa using h2)]
          rw [this]; rfl
        · have hs : splitRest s2 fr qu hf hqu = (⟨s2.take (pre colonSlash s2), (authPath (s2.drop (pre colonSlash s2 + 1))).1, (authPath (s2.drop (pre colonSlash s2 + 1))).2.2, qu, fr, true, (authPath (s2.drop (pre colonSlash s2 + 1))).2.1, hqu, hf⟩, 0) := by
            unfold splitRest
            rw [if_pos hh, if_pos (by simpa using h2)]
          have hl5 : (s2.drop (pre colonSlash s2 + 1)).length ≤ s2.length := by simp
          (
            (refine callV_pc (p_CutPrefix (s2.drop (pre colonSlash s2 + 1)) [47, 47]) ?_; simp only [lawG, ↓Xn, ↓Xo, ↓Xg, ↓Xd, ↓Xe, ↓Xf, Tryz.VΓ, Tryz.Γs, Xp, Xi, Nat.reduceAdd, Nat.reduceSub, Nat.reduceLT, Nat.reduceLeDiff, reduceIte, reduceCtorEq, Nat.reduceEqDiff, implies_true, forall_const, lawV])
            cases hpf : Lib.hasPrefix (s2.drop (pre colonSlash s2 + 1)) [47, 47]
            · refine ⟨fun h => (by cases h), fun _ => ?_⟩
              have ht : Lib.trimPrefix (s2.drop (pre colonSlash s2 + 1)) [47, 47] = s2.drop (pre colonSlash s2 + 1) := by unfold Lib.trimPrefix; rw [hpf]; rfl
              rw [hs, authPath_no hpf]; rfl
            · refine ⟨fun _ => ?_, fun h => (by cases h)⟩
              have hl3 := trim_len (s2.drop (pre colonSlash s2 + 1)) [47, 47]
              have hap := authPath_yes hpf
              rw [hs, hap]
              generalize Lib.trimPrefix (s2.drop (pre colonSlash s2 + 1)) [47, 47] = rest at hl3 hap ⊢
              have hib := indexByte_pre rest 47
              have p4 := p_IndexByte rest 47
              rw [hib] at p4
              have hpl := pre_le (· == 47) rest
              by_cases hr : pre (· == 47) rest < rest.length
              · rw [if_pos hr] at p4
                (refine callV_pc (p4) ?_; simp only [lawG, ↓Xn, ↓Xo, ↓Xg, ↓Xd, ↓Xe, ↓Xf, Tryz.VΓ, Tryz.Γs, Xp, Xi, Nat.reduceAdd, Nat.reduceSub, Nat.reduceLT, Nat.reduceLeDiff, reduceIte, reduceCtorEq, Nat.reduceEqDiff, implies_true, forall_const, lawV])
                refine ⟨fun h => ?_, fun _ => ⟨⟨by omega, by omega⟩, ⟨by omega, by omega⟩, (OkD_fast (by kernel_rfl)), rfl⟩⟩
                simp at h; omega
              · rw [if_neg hr] at p4
                (refine callV_pc (p4) ?_; simp only [lawG, ↓Xn, ↓Xo, ↓Xg, ↓Xd, ↓Xe, ↓Xf, Tryz.VΓ, Tryz.Γs, Xp, Xi, Nat.reduceAdd, Nat.reduceSub, Nat.reduceLT, Nat.reduceLeDiff, reduceIte, reduceCtorEq, Nat.reduceEqDiff, implies_true, forall_const, lawV])
                refine ⟨fun _ => ⟨⟨by omega, by omega⟩, ⟨by omega, by omega⟩, (OkD_fast (by kernel_rfl)), ?_⟩, fun h => ?_⟩
                · have : pre (· == 47) rest = rest.length := by omega
                  rw [this]; simp [usv]
                · simp at h)
      · have hs : splitRest s2 fr qu hf hqu = (⟨[], (authPath s2).1, (authPath s2).2.2, qu, fr, false, (authPath s2).2.1, hqu, hf⟩, 0) := by
          unfold splitRest
          rw [if_neg]
          rw [byte_is (n := 58) hp 58 rfl] at h1
          rw [List.head?_drop, List.getElem?_eq_getElem hp]
          simpa using h1
        (
          (refine callV_pc (p_CutPrefix (s2) [47, 47]) ?_; simp only [lawG, ↓Xn, ↓Xo, ↓Xg, ↓Xd, ↓Xe, ↓Xf, Tryz.VΓ, Tryz.Γs, Xp, Xi, Nat.reduceAdd, Nat.reduceSub, Nat.reduceLT, Nat.reduceLeDiff, reduceIte, reduceCtorEq, Nat.reduceEqDiff, implies_true, forall_const, lawV])
          cases hpf : Lib.hasPrefix (s2) [47, 47]
          · refine ⟨fun h => (by cases h), fun _ => ?_⟩
            have ht : Lib.trimPrefix (s2) [47, 47] = s2 := by unfold Lib.trimPrefix; rw [hpf]; rfl
            rw [hs, authPath_no hpf]; rfl
          · refine ⟨fun _ => ?_, fun h => (by cases h)⟩
            have hl3 := trim_len (s2) [47, 47]
            have hap := authPath_yes hpf
            rw [hs, hap]
            generalize Lib.trimPrefix (s2) [47, 47] = rest at hl3 hap ⊢
            have hib := indexByte_pre rest 47
            have p4 := p_IndexByte rest 47
            rw [hib] at p4
            have hpl := pre_le (· == 47) rest
            by_cases hr : pre (· == 47) rest < rest.length
            · rw [if_pos hr] at p4
              (refine callV_pc (p4) ?_; simp only [lawG, ↓Xn, ↓Xo, ↓Xg, ↓Xd, ↓Xe, ↓Xf, Tryz.VΓ, Tryz.Γs, Xp, Xi, Nat.reduceAdd, Nat.reduceSub, Nat.reduceLT, Nat.reduceLeDiff, reduceIte, reduceCtorEq, Nat.reduceEqDiff, implies_true, forall_const, lawV])
              refine ⟨fun h => ?_, fun _ => ⟨⟨by omega, by omega⟩, ⟨by omega, by omega⟩, (OkD_fast (by kernel_rfl)), rfl⟩⟩
              simp at h; omega
            · rw [if_neg hr] at p4
              (refine callV_pc (p4) ?_; simp only [lawG, ↓Xn, ↓Xo, ↓Xg, ↓Xd, ↓Xe, ↓Xf, Tryz.VΓ, Tryz.Γs, Xp, Xi, Nat.reduceAdd, Nat.reduceSub, Nat.reduceLT, Nat.reduceLeDiff, reduceIte, reduceCtorEq, Nat.reduceEqDiff, implies_true, forall_const, lawV])
              refine ⟨fun _ => ⟨⟨by omega, by omega⟩, ⟨by omega, by omega⟩, (OkD_fast (by kernel_rfl)), ?_⟩, fun h => ?_⟩
              · have : pre (· == 47) rest = rest.length := by omega
                rw [this]; simp [usv]
              · simp at h)
      · simp at h1
    · rw [if_neg hp] at hix
      rw [hix] at p3
      (refine callV_pc (p3) ?_; simp only [lawG, ↓Xn, ↓Xo, ↓Xg, ↓Xd, ↓Xe, ↓Xf, Tryz.VΓ, Tryz.Γs, Xp, Xi, Nat.reduceAdd, Nat.reduceSub, Nat.reduceLT, Nat.reduceLeDiff, reduceIte, reduceCtorEq, Nat.reduceEqDiff, implies_true, forall_const, lawV])
      refine ⟨fun h1 => ?_, fun h1 => ?_⟩
      · simp at h1
      · have hs : splitRest s2 fr qu hf hqu = (⟨[], (authPath s2).1, (authPath s2).2.2, qu, fr, false, (authPath s2).2.1, hqu, hf⟩, 0) := by
          unfold splitRest
          rw [if_neg]
          rw [List.drop_of_length_le (by omega)]; simp
        (
          (refine callV_pc (p_CutPrefix (s2) [47, 47]) ?_; simp only [lawG, ↓Xn, ↓Xo, ↓Xg, ↓Xd, ↓Xe, ↓Xf, Tryz.VΓ, Tryz.Γs, Xp, Xi, Nat.reduceAdd, Nat.reduceSub, Nat.reduceLT, Nat.reduceLeDiff, reduceIte, reduceCtorEq, Nat.reduceEqDiff, implies_true, forall_const, lawV])
          cases hpf : Lib.hasPrefix (s2) [47, 47]
          · refine ⟨fun h => (by cases h), fun _ => ?_⟩
            have ht : Lib.trimPrefix (s2) [47, 47] = s2 := by unfold Lib.trimPrefix; rw [hpf]; rfl
            rw [hs, authPath_no hpf]; rfl
          · refine ⟨fun _ => ?_, fun h => (by cases h)⟩
            have hl3 := trim_len (s2) [47, 47]
            have hap := authPath_yes hpf
            rw [hs, hap]
            generalize Lib.trimPrefix (s2) [47, 47] = rest at hl3 hap ⊢
            have hib := indexByte_pre rest 47
            have p4 := p_IndexByte rest 47
            rw [hib] at p4
            have hpl := pre_le (· == 47) rest
            by_cases hr : pre (· == 47) rest < rest.length
            · rw [if_pos hr] at p4
              (refine callV_pc (p4) ?_; simp only [lawG, ↓Xn, ↓Xo, ↓Xg, ↓Xd, ↓Xe, ↓Xf, Tryz.VΓ, Tryz.Γs, Xp, Xi, Nat.reduceAdd, Nat.reduceSub, Nat.reduceLT, Nat.reduceLeDiff, reduceIte, reduceCtorEq, Nat.reduceEqDiff, implies_true, forall_const, lawV])
              refine ⟨fun h => ?_, fun _ => ⟨⟨by omega, by omega⟩, ⟨by omega, by omega⟩, (OkD_fast (by kernel_rfl)), rfl⟩⟩
              simp at h; omega
            · rw [if_neg hr] at p4
              (refine callV_pc (p4) ?_; simp only [lawG, ↓Xn, ↓Xo, ↓Xg, ↓Xd, ↓Xe, ↓Xf, Tryz.VΓ, Tryz.Γs, Xp, Xi, Nat.reduceAdd, Nat.reduceSub, Nat.reduceLT, Nat.reduceLeDiff, reduceIte, reduceCtorEq, Nat.reduceEqDiff, implies_true, forall_const, lawV])
              refine ⟨fun _ => ⟨⟨by omega, by omega⟩, ⟨by omega, by omega⟩, (OkD_fast (by kernel_rfl)), ?_⟩, fun h => ?_⟩
              · have : pre (· == 47) rest = rest.length := by omega
                rw [this]; simp [usv]
              · simp at h)
def RdI (s : Bytes) (σ : St) : Prop := ∃ (p o : Bytes) (j f : Nat), lk 0 σ.t = some (.str p) ∧ lk 3 σ.t = some (.o j o.length) ∧ σ.b[j]? = some (.own (o.map u8S) 5 1 o.length true) ∧ p.length + o.length ≤ s.length ∧ p.length ≤ f ∧ dotsGo f p o = removeDots s
def RdM (σ : St) : Nat := match lk 0 σ.t with
  | some (.str p) => p.length
  | _ => 0
theorem RdM_eq {σ : St} {p : Bytes} (h : lk 0 σ.t = some (.str p)) : RdM σ = p.length := by simp [RdM, h]
theorem rd_done {s p' o' : Bytes} {j f n : Nat} {t : List (Nat × SV)} {b : List Res} (h0 : lk 0 t = some (.str p')) (h3 : lk 3 t = some (.o j o'.length)) (hj : b[j]? = some (.own (o'.map u8S) 5 1 o'.length true)) (hlen : p'.length + o'.length ≤ s.length) (hf : p'.length ≤ f) (hgo : dotsGo f p' o' = removeDots s) (hlt : p'.length < n) :
    RdI s ⟨t, b⟩ ∧ RdM ⟨t, b⟩ < n := ⟨⟨p', o', j, f, h0, h3, hj, hlen, hf, hgo⟩, by rw [RdM_eq h0]; exact hlt⟩
theorem rd_cut (o : Bytes) : ∃ X : Int, (if 0 < lastB o 47 then lastB o 47 else 0) = X ∧ 0 ≤ X ∧ X ≤ o.length ∧ o.take X.toNat = shorten o := by
  refine ⟨_, rfl, by split <;> omega, ?_, ?_⟩
  · have := lastB_le o; split <;> omega
  · rw [← lastB_shorten o]
    congr 2
    split <;> omega
theorem rd_len {o : Bytes} {X : Int} (h : X ≤ o.length) : (o.take X.toNat).length = X.toNat := by rw [List.length_take]; omega
theorem rd_at {b : List Res} {j : Nat} {o : Bytes} {X : Int} (h : X ≤ o.length) : (b.set j .gone ++ [.own ((o.map u8S).take (X.toNat * 1)) 5 1 X.toNat true])[b.length]? = some (.own ((o.take X.toNat).map u8S) 5 1 (o.take X.toNat).length true) := by
  rw [List.getElem?_append_right (by simp), rd_len h]
  simp [List.map_take]
theorem rd_at2 (b : List Res) (j : Nat) (o y : Bytes) : (b.set j .gone ++ [.own (o.map u8S ++ y.map u8S) 5 1 (o.length + y.length) true])[b.length]? = some (.own ((o ++ y).map u8S) 5 1 (o ++ y).length true) := by
  rw [List.getElem?_append_right (by simp)]
  simp
set_option maxHeartbeats 2000000 in
theorem p_uri_RemoveDots (s : Bytes) (hs : s.length ≤ 4294967281) : PC Tryz.V 40 [.str s] (.str (removeDots s)) := by
  refine pc_of 3000 Tryz.func40 rfl Tryz.ntmps40 Tryz.results40 Tryz.call40 (by simp) (by simp [flat, flat.flatL]) (by simp [flat, flat.flatL]) ?_
  simp only [lawG, ↓Xn, ↓Xo, ↓Xg, ↓Xd, ↓Xe, ↓Xf, Tryz.VΓ, Tryz.Γs, Xp, Xi, Nat.reduceAdd, Nat.reduceSub, Nat.reduceLT, Nat.reduceLeDiff, reduceIte, reduceCtorEq, Nat.reduceEqDiff, implies_true, forall_const, lawV]
  refine ⟨by omega, loopV_mk (RdI s) RdM ⟨s, [], 0, s.length, rfl, rfl, rfl, by simp, Nat.le_refl _, rfl⟩ ?_⟩
  rintro ⟨t, b⟩ ⟨p, o, j, f, h0, h3, hj, hlen, hf, hgo⟩
  simp only at h0 h3 hj
  rw [RdM_eq h0]
  simp only [lawG, ↓Xn, ↓Xo, ↓Xg, ↓Xd, ↓Xe, ↓Xf, Tryz.VΓ, Tryz.Γs, Xp, Xi, Nat.reduceAdd, Nat.reduceSub, Nat.reduceLT, Nat.reduceLeDiff, reduceIte, reduceCtorEq, Nat.reduceEqDiff, implies_true, forall_const, lawV, h0, h3, hj]
  have hend : p = [] → o = removeDots s := fun hp => by subst hp; cases f <;> simpa [dotsGo] using hgo
  refine ⟨fun hp => ?_, fun hp => ⟨isU8_map o, ?_⟩⟩
  rotate_left
  · rw [unU8_map, hend (by simpa using hp)]
  replace hp : p ≠ [] := by simpa using hp
  have hpl : 0 < p.length := List.length_pos_iff.2 hp
  obtain ⟨f, rfl⟩ : ∃ f', f = f' + 1 := ⟨f - 1, by omega⟩
  rw [dotsGo, if_neg hp] at hgo
  (refine callV_pc (p_HasPrefix p [46, 46, 47]) ?_
   simp only [lawG, ↓Xn, ↓Xo, ↓Xg, ↓Xd, ↓Xe, ↓Xf, Tryz.VΓ, Tryz.Γs, Xp, Xi, Nat.reduceAdd, Nat.reduceSub, Nat.reduceLT, Nat.reduceLeDiff, reduceIte, reduceCtorEq, Nat.reduceEqDiff, implies_true, forall_const, lawV, h0, h3, hj])
  refine ⟨fun c1 => ?_, fun c1 => ?_⟩
  · have h := hp_len c1
    rw [show dotStep p o = (p.drop 3, o) from if_pos c1] at hgo
    exact ⟨⟨by omega, by simp at h; omega⟩, rd_done rfl h3 hj (by simp; omega) (by simp at h ⊢; omega) hgo (by simp at h ⊢; omega)⟩
  (refine callV_pc (p_HasPrefix p [46, 47]) ?_
   simp only [lawG, ↓Xn, ↓Xo, ↓Xg, ↓Xd, ↓Xe, ↓Xf, Tryz.VΓ, Tryz.Γs, Xp, Xi, Nat.reduceAdd, Nat.reduceSub, Nat.reduceLT, Nat.reduceLeDiff, reduceIte, reduceCtorEq, Nat.reduceEqDiff, implies_true, forall_const, lawV, h0, h3, hj])
  refine ⟨fun c2 => ?_, fun c2 => ?_⟩
  · have h := hp_len c2
    rw [show dotStep p o = (p.drop 2, o) by unfold dotStep; rw [if_neg (hp_no c1)]; exact if_pos c2] at hgo
    exact ⟨⟨by omega, by simp at h; omega⟩, rd_done rfl h3 hj (by simp; omega) (by simp at h ⊢; omega) hgo (by simp at h ⊢; omega)⟩
  (refine callV_pc (p_HasPrefix p [47, 46, 47]) ?_
   simp only [lawG, ↓Xn, ↓Xo, ↓Xg, ↓Xd, ↓Xe, ↓Xf, Tryz.VΓ, Tryz.Γs, Xp, Xi, Nat.reduceAdd, Nat.reduceSub, Nat.reduceLT, Nat.reduceLeDiff, reduceIte, reduceCtorEq, Nat.reduceEqDiff, implies_true, forall_const, lawV, h0, h3, hj])
  refine ⟨fun c3 => ?_, fun c3 => ?_⟩
  · have h := hp_len c3
    rw [show dotStep p o = (p.drop 2, o) by unfold dotStep; rw [if_neg (hp_no c1), if_neg (hp_no c2)]; exact if_pos c3] at hgo
    exact ⟨⟨by omega, by simp at h; omega⟩, rd_done rfl h3 hj (by simp; omega) (by simp at h ⊢; omega) hgo (by simp at h ⊢; omega)⟩
  refine ⟨fun c4 => ?_, fun c4 => ?_⟩
  · have h : p = [47, 46] := by simpa using c4
    subst h
    exact rd_done (p' := [47]) rfl h3 hj (by simp at hlen ⊢; omega) (by simp at hf ⊢; omega) hgo (by simp)
  have n4 : ¬ p = [47, 46] := by simpa using c4
  have hdot : dotStep p o = if [47, 46, 46, 47].isPrefixOf p then (p.drop 3, shorten o)
      else if p = [47, 46, 46] then ([47], shorten o)
      else if p = [46] ∨ p = [46, 46] then ([], o)
      else (p.drop (1 + pre (· == 47) (p.drop 1)), o ++ p.take (1 + pre (· == 47) (p.drop 1))) := by
    unfold dotStep; rw [if_neg (hp_no c1), if_neg (hp_no c2), if_neg (hp_no c3), if_neg n4]
  rw [hdot] at hgo
  (refine callV_pc (p_HasPrefix p [47, 46, 46, 47]) ?_
   simp only [lawG, ↓Xn, ↓Xo, ↓Xg, ↓Xd, ↓Xe, ↓Xf, Tryz.VΓ, Tryz.Γs, Xp, Xi, Nat.reduceAdd, Nat.reduceSub, Nat.reduceLT, Nat.reduceLeDiff, reduceIte, reduceCtorEq, Nat.reduceEqDiff, implies_true, forall_const, lawV, h0, h3, hj])
  refine ⟨fun c5 => ⟨fun c6 => ?_, fun c6 => ⟨fun c7 => ⟨fun c8 => ?_, fun c8 => ?_⟩, fun c7 => ?_⟩⟩, fun c5 => ?_⟩
  · have h : p = [47, 46, 46] := by simpa using c6
    subst h
    refine ⟨by simp, ?_⟩
    (refine callV_pc (p_TrimPrefix _ [47]) ?_
     simp only [lawG, ↓Xn, ↓Xo, ↓Xg, ↓Xd, ↓Xe, ↓Xf, Tryz.VΓ, Tryz.Γs, Xp, Xi, Nat.reduceAdd, Nat.reduceSub, Nat.reduceLT, Nat.reduceLeDiff, reduceIte, reduceCtorEq, Nat.reduceEqDiff, implies_true, forall_const, lawV, h0, h3, hj])
    refine ⟨by decide, isU8_map o, ?_⟩
    rw [unU8_map]
    (refine callV_pc (p_LastIndexByte o 47 (by omega)) ?_
     simp only [lawG, ↓Xn, ↓Xo, ↓Xg, ↓Xd, ↓Xe, ↓Xf, Tryz.VΓ, Tryz.Γs, Xp, Xi, Nat.reduceAdd, Nat.reduceSub, Nat.reduceLT, Nat.reduceLeDiff, reduceIte, reduceCtorEq, Nat.reduceEqDiff, implies_true, forall_const, lawV, h0, h3, hj])
    obtain ⟨X, hX, x0, x1, hx⟩ := rd_cut o
    rw [hX]
    refine ⟨⟨x0, x1⟩, rd_done (p' := [47]) (o' := o.take X.toNat) (f := f) rfl ?_ (rd_at x1) ?_ ?_ ?_ (by simp)⟩
    · rw [rd_len x1]; rfl
    · rw [rd_len x1]; simp at hlen ⊢; omega
    · simp at hf ⊢; omega
    · rw [hx]; exact hgo
  · have h : p = [46, 46] := by simpa using c8
    subst h
    exact rd_done (p' := []) rfl h3 hj (by simp at hlen ⊢; omega) (by simp at hf ⊢) hgo (by simp)
  · have n5 := hp_no c5
    have n6 : ¬ p = [47, 46, 46] := by simpa using c6
    have n7 : ¬ (p = [46] ∨ p = [46, 46]) := by rintro (h | h) <;> subst h <;> simp at c7 c8
    rw [if_neg n5, if_neg n6, if_neg n7] at hgo
    simp only at hgo
    have p4 := p_IndexByte (p.drop 1) 47
    rw [indexByte_pre] at p4
    have hpr := pre_le (· == 47) (p.drop 1)
    generalize pre (· == 47) (p.drop 1) = q at hgo p4 hpr
    simp only [List.length_drop] at p4 hpr
    refine ⟨by omega, ?_⟩
    by_cases hq : q < p.length - 1
    · rw [if_pos hq] at p4
      (refine callV_pc (p4) ?_
       simp only [lawG, ↓Xn, ↓Xo, ↓Xg, ↓Xd, ↓Xe, ↓Xf, Tryz.VΓ, Tryz.Γs, Xp, Xi, Nat.reduceAdd, Nat.reduceSub, Nat.reduceLT, Nat.reduceLeDiff, reduceIte, reduceCtorEq, Nat.reduceEqDiff, implies_true, forall_const, lawV, h0, h3, hj])
      have e : (1 + (q : Int)).toNat = 1 + q := by omega
      have el : (p.take (1 + q)).length = 1 + q := by rw [List.length_take]; omega
      rw [e]
      refine ⟨by omega, fun h => (by simp at h; omega), fun _ => ⟨by omega, ⟨one_u8 _, by rw [el]; unfold maxLen; omega, by rw [el]; omega⟩, by omega, rd_done (p' := p.drop (1 + q)) (o' := o ++ p.take (1 + q)) (f := f) rfl ?_ (rd_at2 ..) ?_ ?_ hgo ?_⟩⟩
      · rw [List.length_append]; rfl
      · simp; omega
      · simp; omega
      · simp; omega
    · rw [if_neg hq] at p4
      have hq2 : 1 + q = p.length := by omega
      rw [hq2, List.drop_length, List.take_length] at hgo
      (refine callV_pc (p4) ?_
       simp only [lawG, ↓Xn, ↓Xo, ↓Xg, ↓Xd, ↓Xe, ↓Xf, Tryz.VΓ, Tryz.Γs, Xp, Xi, Nat.reduceAdd, Nat.reduceSub, Nat.reduceLT, Nat.reduceLeDiff, reduceIte, reduceCtorEq, Nat.reduceEqDiff, implies_true, forall_const, lawV, h0, h3, hj])
      refine ⟨by omega, fun _ => ⟨by omega, ⟨one_u8 _, by unfold maxLen; omega, by omega⟩, by omega, rd_done (p' := []) (o' := o ++ p) (f := f) ?_ ?_ (rd_at2 ..) ?_ ?_ hgo ?_⟩, fun h => (by simp at h)⟩
      · simp [lk]
      · rw [List.length_append]; rfl
      · simp; omega
      · simp
      · exact hpl
  · have h : p = [46] := by simpa using c7
    subst h
    exact rd_done (p' := []) rfl h3 hj (by simp at hlen ⊢; omega) (by simp at hf ⊢) hgo (by simp)
  · rw [if_pos (show List.isPrefixOf [47, 46, 46, 47] p = true from c5)] at hgo
    obtain ⟨r, rfl⟩ := List.isPrefixOf_iff_prefix.1 c5
    refine ⟨by simp; omega, ?_⟩
    (refine callV_pc (p_TrimPrefix _ [47]) ?_
     simp only [lawG, ↓Xn, ↓Xo, ↓Xg, ↓Xd, ↓Xe, ↓Xf, Tryz.VΓ, Tryz.Γs, Xp, Xi, Nat.reduceAdd, Nat.reduceSub, Nat.reduceLT, Nat.reduceLeDiff, reduceIte, reduceCtorEq, Nat.reduceEqDiff, implies_true, forall_const, lawV, h0, h3, hj])
    have ht : Lib.trimPrefix (47 :: r) [47] = r := by simp [Lib.trimPrefix, Lib.hasPrefix]
    have hd : (47 :: 46 :: 46 :: 47 :: r : Bytes).drop (Int.toNat 3) = 47 :: r := rfl
    rw [hd, ht]
    refine ⟨by simp at hlen; omega, isU8_map o, ?_⟩
    rw [unU8_map]
    (refine callV_pc (p_LastIndexByte o 47 (by omega)) ?_
     simp only [lawG, ↓Xn, ↓Xo, ↓Xg, ↓Xd, ↓Xe, ↓Xf, Tryz.VΓ, Tryz.Γs, Xp, Xi, Nat.reduceAdd, Nat.reduceSub, Nat.reduceLT, Nat.reduceLeDiff, reduceIte, reduceCtorEq, Nat.reduceEqDiff, implies_true, forall_const, lawV, h0, h3, hj])
    obtain ⟨X, hX, x0, x1, hx⟩ := rd_cut o
    rw [hX]
    refine ⟨⟨x0, x1⟩, rd_done (p' := 47 :: r) (o' := o.take X.toNat) (f := f) rfl ?_ (rd_at x1) ?_ ?_ ?_ (by simp)⟩
    · rw [rd_len x1]; rfl
    · rw [rd_len x1]; simp at hlen ⊢; omega
    · simp at hf ⊢; omega
    · rw [hx]; exact hgo
end Go.Proofs.YtfmafmgbfamaiaaGreatDoor
/- The walk of uri.Join. -/
set_option linter.all false
set_option maxRecDepth 20000
namespace Go.Proofs.YtfmafmgbfamaiaaGreatDoor
open Go Vc Go.RowKit Wf
set_option linter.unusedSimpArgs false
def adds (there : Bool) (l : Bytes) (parts : List Bytes) : Bytes := if there then l ++ parts.flatten else l
theorem adds_take (there : Bool) (l : Bytes) (parts : List Bytes) (k : Nat) (hk : k < parts.length) : adds there l (parts.take (k + 1)) = if there then adds there l (parts.take k) ++ parts[k] else l := by
  unfold adds
  cases there
  · rfl
  · simp only [if_true]
    rw [List.take_succ_eq_append_getElem hk, List.flatten_append]
    simp
def AddI (bs : List Res) (i : Nat) (there : Bool) (l : Bytes) (parts : List Bytes) (j : Nat) (σ : St) : Prop := ∃ k : Nat, k ≤ parts.length ∧ lk 0 σ.t = some (.bool there) ∧ lk 2 σ.t = some (.p i 0) ∧ lk 7 σ.t = some (.o j parts.length) ∧ lk 8 σ.t = some (.int .i64 parts.length) ∧ lk 9 σ.t = some (.int .i64 k) ∧
  σ.b = bs.set i (.ext (BldR 128 5 (adds there l (parts.take k))))
def AddM (parts : List Bytes) (σ : St) : Nat := match lk 9 σ.t with
  | some (.int _ k) => parts.length - k.toNat
  | _ => 0
theorem AddM_eq {parts : List Bytes} {σ : St} {k : Nat} (h : lk 9 σ.t = some (.int .i64 k)) : AddM parts σ = parts.length - k := by simp [AddM, h]
theorem add_len {there : Bool} {l : Bytes} {parts : List Bytes} {k : Nat} (hk : k < parts.length) : (adds there l (parts.take k)).length + parts[k].length ≤ l.length + parts.flatten.length := by
  have e : (parts.take (k + 1)).flatten.length ≤ parts.flatten.length := by
    conv => rhs; rw [← List.take_append_drop (k + 1) parts, List.flatten_append, List.length_append]
    omega
  rw [List.take_succ_eq_append_getElem hk, List.flatten_append, List.length_append] at e
  unfold adds
  split
  · simp at e ⊢; omega
  · simp at e ⊢; omega
set_option maxHeartbeats 1000000 in
theorem sc_add {bs : List Res} {i j : Nat} {l : Bytes} {there : Bool} {parts : List Bytes} {m : Bool} (hi : bs[i]? = some (.ext (BldR 128 5 l))) (hj : bs[j]? = some (.own (parts.map SV.str) 9 1 parts.length m)) (hlen : l.length + parts.flatten.length ≤ 140737488355328) (hp : parts.length ≤ 1000) :
    SC Tryz.V 90 [.bool there, .o j parts.length, .p i 0] bs (fun r bs' => r = .tup [] ∧ bs' = bs.set i (.ext (BldR 128 5 (adds there l parts)))) := by
  have hil : i < bs.length := (List.getElem?_eq_some_iff.1 hi).1
  have hjl : j < bs.length := (List.getElem?_eq_some_iff.1 hj).1
  have hij : i ≠ j := by rintro rfl; rw [hi] at hj; cases hj
  refine sc_of 3000 Tryz.func90 rfl Tryz.ntmps90 Tryz.results90 Tryz.call90 (by simp) (fun β β' hb => concL_within bs.length _ (by simp [within, within.withinL, hil, hjl]) β β' hb) ?_
  simp only [lawG, ↓Xn, ↓Xo, ↓Xg, ↓Xd, ↓Xe, ↓Xf, Tryz.VΓ, Tryz.Γs, Xp, Xi, Nat.reduceAdd, Nat.reduceSub, Nat.reduceLT, Nat.reduceLeDiff, reduceIte, reduceCtorEq, Nat.reduceEqDiff, implies_true, forall_const, lawV]
  refine loopV_mk (AddI bs i there l parts j) (AddM parts) ⟨0, by simp, rfl, rfl, rfl, rfl, rfl, ?_⟩ ?_
  · apply List.ext_getElem?
    intro k
    have : adds there l (List.take 0 parts) = l := by simp [adds]
    rw [this]
    by_cases hk : k = i
    · subst hk; rw [List.getElem?_set_self hil, hi]
    · rw [List.getElem?_set_ne (fun e => hk e.symm)]
  · rintro ⟨t, b⟩ ⟨k, hk, h0, h2, h7, h8, h9, hb⟩
    simp only at h0 h2 h7 h8 h9 hb
    rw [AddM_eq h9]
    have hbj : b[j]? = some (.own (parts.map SV.str) 9 1 parts.length m) := by rw [hb, List.getElem?_set_ne hij]; exact hj
    have hbi : b[i]? = some (.ext (BldR 128 5 (adds there l (parts.take k)))) := by rw [hb, List.getElem?_set_self hil]
    by_cases hlt : k < parts.length
    · have h11 : (List.map SV.str parts)[k * 1]? = some (.str parts[k]) := by simp [hlt]
      have hal := add_len (there := there) (l := l) hlt
      simp only [lawG, ↓Xn, ↓Xo, ↓Xg, ↓Xd, ↓Xe, ↓Xf, Tryz.VΓ, Tryz.Γs, Xp, Xi, Nat.reduceAdd, Nat.reduceSub, Nat.reduceLT, Nat.reduceLeDiff, reduceIte, reduceCtorEq, Nat.reduceEqDiff, implies_true, forall_const, lawV, h0, h2, h7, h8, h9, hbj, h11]
      refine ⟨fun _ => ⟨⟨by omega, by omega⟩, by simp; omega, fun ht => ?_, fun ht => ?_⟩, fun hc => (by simp at hc; omega)⟩
      · refine callV_sc (sc_WriteString hbi (by omega)) ?_
        rintro r bs' ⟨rfl, rfl⟩
        simp only [lawG, ↓Xn, ↓Xo, ↓Xg, ↓Xd, ↓Xe, ↓Xf, Tryz.VΓ, Tryz.Γs, Xp, Xi, Nat.reduceAdd, Nat.reduceSub, Nat.reduceLT, Nat.reduceLeDiff, reduceIte, reduceCtorEq, Nat.reduceEqDiff, implies_true, forall_const, lawV, h0, h2, h7, h8, h9]
        refine ⟨by omega, ⟨k + 1, by omega, h0, h2, h7, h8, by simp [lk], ?_⟩, ?_⟩
        · simp only [hb, List.set_set]
          rw [adds_take _ _ _ _ hlt, ht]; rfl
        · rw [AddM_eq (k := k + 1) (by simp [lk])]; omega
      · refine ⟨by omega, ⟨k + 1, by omega, h0, h2, h7, h8, by simp [lk], ?_⟩, ?_⟩
        · simp only [hb]
          rw [adds_take _ _ _ _ hlt, ht]; simp [adds]
        · rw [AddM_eq (k := k + 1) (by simp [lk])]; omega
    · simp only [lawG, ↓Xn, ↓Xo, ↓Xg, ↓Xd, ↓Xe, ↓Xf, Tryz.VΓ, Tryz.Γs, Xp, Xi, Nat.reduceAdd, Nat.reduceSub, Nat.reduceLT, Nat.reduceLeDiff, reduceIte, reduceCtorEq, Nat.reduceEqDiff, implies_true, forall_const, lawV, h0, h2, h7, h8, h9, hbj]
      refine ⟨fun hc => (by simp at hc; omega), fun _ => ?_⟩
      have : k = parts.length := by omega
      subst this
      rw [hb, List.take_length]
theorem adds_le (there : Bool) (l : Bytes) (parts : List Bytes) : (adds there l parts).length ≤ l.length + parts.flatten.length := by
  unfold adds; split
  · simp
  · omega
def Uri.size (u : Uri) : Nat := u.scheme.length + u.authority.length + u.path.length + u.query.length + u.fragment.length
set_option maxHeartbeats 2000000 in
theorem p_uri_Join (u : Uri) (hlen : Uri.size u ≤ 140737488300000) : PC Tryz.V 58 [usv u] (.str (uriJoin u)) := by
  unfold Uri.size at hlen
  (refine pc_of 3000 Tryz.func58 rfl Tryz.ntmps58 Tryz.results58 Tryz.call58 (by simp) (by simp [flat, flat.flatL, usv]) (by simp [flat, flat.flatL, usv]) ?_
   unfold usv
   simp only [lawG, ↓Xn, ↓Xo, ↓Xg, ↓Xd, ↓Xe, ↓Xf, Tryz.VΓ, Tryz.Γs, Xp, Xi, Nat.reduceAdd, Nat.reduceSub, Nat.reduceLT, Nat.reduceLeDiff, reduceIte, reduceCtorEq, Nat.reduceEqDiff, implies_true, forall_const, lawV])
  have e1 := adds_le u.hasScheme [] [u.scheme, [58]]
  have e2 := adds_le u.hasAuthority (adds u.hasScheme [] [u.scheme, [58]]) [[47, 47], u.authority]
  have e3 := adds_le true (adds u.hasAuthority (adds u.hasScheme [] [u.scheme, [58]]) [[47, 47], u.authority]) [u.path]
  have e4 := adds_le u.hasQuery (adds true (adds u.hasAuthority (adds u.hasScheme [] [u.scheme, [58]]) [[47, 47], u.authority]) [u.path]) [[63], u.query]
  have e5 : uriJoin u = adds u.hasFrag (adds u.hasQuery (adds true (adds u.hasAuthority (adds u.hasScheme [] [u.scheme, [58]]) [[47, 47], u.authority]) [u.path]) [[63], u.query]) [[35], u.fragment] := by
    unfold uriJoin adds
    cases u.hasScheme <;> cases u.hasAuthority <;> cases u.hasQuery <;> cases u.hasFrag <;> simp
  rw [e5]
  simp only [List.flatten_cons, List.flatten_nil, List.append_nil, List.length_append, List.length_cons, List.length_nil] at e1 e2 e3 e4
  refine ⟨by omega, ?_⟩
  refine callV_sc (sc_fresh (i := 1) (TB := 128) (TU := 5) ?_ (sc_add (i := 1) (j := 2) (m := true) (l := []) (parts := [u.scheme, [58]]) ?_ ?_ ?_ ?_)) ?_
  · rfl
  · rfl
  · rfl
  · simp; omega
  · simp
  rintro r bs' ⟨rfl, rfl⟩
  generalize adds u.hasScheme [] [u.scheme, [58]] = l1 at e1 e2 e3 e4 ⊢
  simp only [lawG, ↓Xn, ↓Xo, ↓Xg, ↓Xd, ↓Xe, ↓Xf, Tryz.VΓ, Tryz.Γs, Xp, Xi, Nat.reduceAdd, Nat.reduceSub, Nat.reduceLT, Nat.reduceLeDiff, reduceIte, reduceCtorEq, Nat.reduceEqDiff, implies_true, forall_const, lawV]
  refine ⟨by omega, ?_⟩
  refine callV_sc (sc_add (i := 1) (j := 3) (m := true) (l := l1) (parts := [[47, 47], u.authority]) ?_ ?_ ?_ ?_) ?_
  · rfl
  · rfl
  · simp only [List.flatten_cons, List.flatten_nil, List.append_nil, List.length_append, List.length_cons, List.length_nil]; omega
  · simp
  rintro r bs' ⟨rfl, rfl⟩
  generalize adds u.hasAuthority l1 [[47, 47], u.authority] = l2 at e2 e3 e4 ⊢
  simp only [lawG, ↓Xn, ↓Xo, ↓Xg, ↓Xd, ↓Xe, ↓Xf, Tryz.VΓ, Tryz.Γs, Xp, Xi, Nat.reduceAdd, Nat.reduceSub, Nat.reduceLT, Nat.reduceLeDiff, reduceIte, reduceCtorEq, Nat.reduceEqDiff, implies_true, forall_const, lawV]
  refine ⟨by omega, ?_⟩
  refine callV_sc (sc_add (i := 1) (j := 4) (m := true) (l := l2) (parts := [u.path]) ?_ ?_ ?_ ?_) ?_
  · rfl
  · rfl
  · simp only [List.flatten_cons, List.flatten_nil, List.append_nil, List.length_append, List.length_cons, List.length_nil]; omega
  · simp
  rintro r bs' ⟨rfl, rfl⟩
  generalize adds true l2 [u.path] = l3 at e3 e4 ⊢
  simp only [lawG, ↓Xn, ↓Xo, ↓Xg, ↓Xd, ↓Xe, ↓Xf, Tryz.VΓ, Tryz.Γs, Xp, Xi, Nat.reduceAdd, Nat.reduceSub, Nat.reduceLT, Nat.reduceLeDiff, reduceIte, reduceCtorEq, Nat.reduceEqDiff, implies_true, forall_const, lawV]
  refine ⟨by omega, ?_⟩
  refine callV_sc (sc_add (i := 1) (j := 5) (m := true) (l := l3) (parts := [[63], u.query]) ?_ ?_ ?_ ?_) ?_
  · rfl
  · rfl
  · simp only [List.flatten_cons, List.flatten_nil, List.append_nil, List.length_append, List.length_cons, List.length_nil]; omega
  · simp
  rintro r bs' ⟨rfl, rfl⟩
  generalize adds u.hasQuery l3 [[63], u.query] = l4 at e4 ⊢
  simp only [lawG, ↓Xn, ↓Xo, ↓Xg, ↓Xd, ↓Xe, ↓Xf, Tryz.VΓ, Tryz.Γs, Xp, Xi, Nat.reduceAdd, Nat.reduceSub, Nat.reduceLT, Nat.reduceLeDiff, reduceIte, reduceCtorEq, Nat.reduceEqDiff, implies_true, forall_const, lawV]
  refine ⟨by omega, ?_⟩
  refine callV_sc (sc_add (i := 1) (j := 6) (m := true) (l := l4) (parts := [[35], u.fragment]) ?_ ?_ ?_ ?_) ?_
  · rfl
  · rfl
  · simp only [List.flatten_cons, List.flatten_nil, List.append_nil, List.length_append, List.length_cons, List.length_nil]; omega
  · simp
  rintro r bs' ⟨rfl, rfl⟩
  simp only [lawG, ↓Xn, ↓Xo, ↓Xg, ↓Xd, ↓Xe, ↓Xf, Tryz.VΓ, Tryz.Γs, Xp, Xi, Nat.reduceAdd, Nat.reduceSub, Nat.reduceLT, Nat.reduceLeDiff, reduceIte, reduceCtorEq, Nat.reduceEqDiff, implies_true, forall_const, lawV]
  refine callV_sc (sc_String (i := 1) (l := adds u.hasFrag l4 [[35], u.fragment]) ?_) ?_
  · rfl
  rintro r bs' ⟨rfl, rfl⟩
  simp only [lawG, ↓Xn, ↓Xo, ↓Xg, ↓Xd, ↓Xe, ↓Xf, Tryz.VΓ, Tryz.Γs, Xp, Xi, Nat.reduceAdd, Nat.reduceSub, Nat.reduceLT, Nat.reduceLeDiff, reduceIte, reduceCtorEq, Nat.reduceEqDiff, implies_true, forall_const, lawV]
end Go.Proofs.YtfmafmgbfamaiaaGreatDoor
/- Sizes of the parts of a string. -/
set_option linter.all false
namespace Go.Proofs.YtfmafmgbfamaiaaGreatDoor
open Go Vc Go.RowKit Wf
theorem split_path (s : Bytes) : (uriSplit s).1.path.length ≤ s.length := by
  have hc1 := cutC_len 35 s
  have hc2 := cutC_len 63 (cutC 35 s).1
  have hap : ∀ r : Bytes, (authPath r).2.2.length ≤ r.length := fun r => by
    unfold authPath; split
    · simp; omega
    · simp
  unfold uriSplit
  split
  · simp [Uri.none]
  · unfold splitRest
    split
    · split
      · have := hap ((cutC 63 (cutC 35 s).1).1.drop (pre colonSlash (cutC 63 (cutC 35 s).1).1 + 1))
        simp at this ⊢; omega
      · simp [Uri.none]
    · have := hap (cutC 63 (cutC 35 s).1).1
      simp; omega
theorem split_size (s : Bytes) : Uri.size (uriSplit s).1 ≤ 6 * s.length := by
  have hc1 := cutC_len 35 s
  have hc2 := cutC_len 63 (cutC 35 s).1
  have hap : ∀ r : Bytes, (authPath r).2.2.length ≤ r.length ∧ (authPath r).1.length ≤ r.length := fun r => by
    unfold authPath; split
    · simp; omega
    · simp
  unfold uriSplit
  split
  · simp [Uri.none, Uri.size]
  · unfold splitRest
    split
    · split
      · have := hap ((cutC 63 (cutC 35 s).1).1.drop (pre colonSlash (cutC 63 (cutC 35 s).1).1 + 1))
        simp [Uri.size] at this ⊢; omega
      · simp [Uri.none, Uri.size]
    · have := hap (cutC 63 (cutC 35 s).1).1
      simp [Uri.size]; omega
end Go.Proofs.YtfmafmgbfamaiaaGreatDoor
/- The walks of package uri: merge, Resolve. -/
set_option linter.all false
set_option maxRecDepth 20000
namespace Go.Proofs.YtfmafmgbfamaiaaGreatDoor
open Go Vc Go.RowKit Wf
set_option linter.unusedSimpArgs false
theorem hp_head (s : Bytes) (c : UInt8) : Lib.hasPrefix s [c] = decide (s.head? = some c) := by
  unfold Lib.hasPrefix
  cases s with
  | nil => simp
  | cons x l =>
    simp only [List.isPrefixOf, Bool.and_true, List.head?_cons, Option.some.injEq]
    by_cases h : x = c
    · subst h; simp
    · rw [decide_eq_false h]
      simp
      exact fun e => h e.symm
set_option maxHeartbeats 2000000 in
theorem p_uri_merge (b r : Uri) (hb : b.path.length ≤ 4294967281) (hr : r.path.length ≤ 4294967281) : PC Tryz.V 89 [usv b, usv r] (.str (uriMerge b r)) := by
  (refine pc_of 3000 Tryz.func89 rfl Tryz.ntmps89 Tryz.results89 Tryz.call89 (by simp) (by simp [flat, flat.flatL, usv]) (by simp [flat, flat.flatL, usv]) ?_
   unfold usv
   simp only [lawG, ↓Xn, ↓Xo, ↓Xg, ↓Xd, ↓Xe, ↓Xf, Tryz.VΓ, Tryz.Γs, Xp, Xi, Nat.reduceAdd, Nat.reduceSub, Nat.reduceLT, Nat.reduceLeDiff, reduceIte, reduceCtorEq, Nat.reduceEqDiff, implies_true, forall_const, lawV])
  (refine callV_pc (p_HasPrefix _ [47]) ?_; simp only [lawG, ↓Xn, ↓Xo, ↓Xg, ↓Xd, ↓Xe, ↓Xf, Tryz.VΓ, Tryz.Γs, Xp, Xi, Nat.reduceAdd, Nat.reduceSub, Nat.reduceLT, Nat.reduceLeDiff, reduceIte, reduceCtorEq, Nat.reduceEqDiff, implies_true, forall_const, lawV])
  have hm0 := hp_head r.path 47
  refine ⟨fun h => ?_, fun h => ⟨fun h2 => ⟨fun h3 => ?_, fun h3 => ?_⟩, fun h2 => ?_⟩⟩
  · rw [uriMerge, if_pos (by simpa [hm0] using h)]
  · rw [uriMerge, if_neg (by simpa [hm0] using h), if_pos ⟨h2, by simpa using h3⟩]
    exact ⟨by omega, rfl⟩
  · (
    have hls := lastSlash_le b.path
    have p5 := p_LastIndexByte b.path 47 (by omega)
    rw [lastB_slash] at p5
    (refine callD_pc (p5) ?_; simp only [lawG, ↓Xn, ↓Xo, ↓Xg, ↓Xd, ↓Xe, ↓Xf, Tryz.VΓ, Tryz.Γs, Xp, Xi, Nat.reduceAdd, Nat.reduceSub, Nat.reduceLT, Nat.reduceLeDiff, reduceIte, reduceCtorEq, Nat.reduceEqDiff, implies_true, forall_const, lawV])
    have e : ((lastSlash b.path : Int) - 1 + 1).toNat = lastSlash b.path := by omega
    rw [e]
    refine ⟨by omega, by omega, by simp; omega, (OkD_fast (by kernel_rfl)), ?_⟩)
    rw [uriMerge, if_neg (by simpa [hm0] using h), if_neg (by rintro ⟨-, h4⟩; simp [h4] at h3)]
  · (
    have hls := lastSlash_le b.path
    have p5 := p_LastIndexByte b.path 47 (by omega)
    rw [lastB_slash] at p5
    (refine callD_pc (p5) ?_; simp only [lawG, ↓Xn, ↓Xo, ↓Xg, ↓Xd, ↓Xe, ↓Xf, Tryz.VΓ, Tryz.Γs, Xp, Xi, Nat.reduceAdd, Nat.reduceSub, Nat.reduceLT, Nat.reduceLeDiff, reduceIte, reduceCtorEq, Nat.reduceEqDiff, implies_true, forall_const, lawV])
    have e : ((lastSlash b.path : Int) - 1 + 1).toNat = lastSlash b.path := by omega
    rw [e]
    refine ⟨by omega, by omega, by simp; omega, (OkD_fast (by kernel_rfl)), ?_⟩)
    rw [uriMerge, if_neg (by simpa [hm0] using h), if_neg (by simp [h2])]
theorem dotStep_len (p o : Bytes) (hp : p ≠ []) : (dotStep p o).1.length + (dotStep p o).2.length ≤ p.length + o.length := by
  have hpl : 0 < p.length := List.length_pos_iff.2 hp
  have hs : (shorten o).length ≤ o.length := by rw [shorten_take, List.length_take]; exact Nat.min_le_right _ _
  have hq := pre_le (· == 47) (p.drop 1)
  unfold dotStep
  split
  · simp
  split
  · simp
  split
  · simp
  split
  · rename_i h; subst h; simp
  split
  · simp; omega
  split
  · rename_i h; subst h; simp; omega
  split
  · simp
  · simp at hq ⊢
    omega
theorem dotsGo_len : ∀ (f : Nat) (p o : Bytes), (dotsGo f p o).length ≤ p.length + o.length
  | 0, p, o => by simp [dotsGo]
  | f + 1, p, o => by
    rw [dotsGo]
    split
    · simp
    · rename_i hp
      exact Nat.le_trans (dotsGo_len f _ _) (dotStep_len p o hp)
theorem removeDots_len (s : Bytes) : (removeDots s).length ≤ s.length := by
  have := dotsGo_len s.length s []
  simpa [removeDots] using this
theorem uriMerge_len (b r : Uri) : (uriMerge b r).length ≤ 1 + b.path.length + r.path.length := by
  unfold uriMerge
  split
  · omega
  split
  · simp; omega
  · simp; omega
set_option maxRecDepth 20000 in
set_option maxHeartbeats 4000000 in
theorem p_uri_Resolve (b r : Uri) (hb : b.path.length ≤ 2147480000) (hr : r.path.length ≤ 2147480000) : PC Tryz.V 57 [usv b, usv r] (usv (uriResolve b r)) := by
  have hml := uriMerge_len b r
  have pm := p_uri_merge b r (by omega) (by omega)
  unfold usv at pm
  (refine pc_of 3000 Tryz.func57 rfl Tryz.ntmps57 Tryz.results57 Tryz.call57 (by simp) (by simp [flat, flat.flatL, usv]) (by simp [flat, flat.flatL, usv]) ?_
   unfold usv
   simp only [lawG, ↓Xn, ↓Xo, ↓Xg, ↓Xd, ↓Xe, ↓Xf, Tryz.VΓ, Tryz.Γs, Xp, Xi, Nat.reduceAdd, Nat.reduceSub, Nat.reduceLT, Nat.reduceLeDiff, reduceIte, reduceCtorEq, Nat.reduceEqDiff, implies_true, forall_const, lawV])
  generalize hR : uriResolve b r = R
  rw [uriResolve] at hR
  refine ⟨fun h1 => ?_, fun h1 => ?_⟩
  · rw [if_pos h1] at hR
    (refine callV_pc (p_uri_RemoveDots r.path (by omega)) ?_; simp only [lawG, ↓Xn, ↓Xo, ↓Xg, ↓Xd, ↓Xe, ↓Xf, Tryz.VΓ, Tryz.Γs, Xp, Xi, Nat.reduceAdd, Nat.reduceSub, Nat.reduceLT, Nat.reduceLeDiff, reduceIte, reduceCtorEq, Nat.reduceEqDiff, implies_true, forall_const, lawV])
    rw [← hR]
  rw [if_neg (by simpa using h1)] at hR
  refine ⟨fun h2 => ?_, fun h2 => ?_⟩
  · rw [if_pos h2] at hR
    (refine callV_pc (p_uri_RemoveDots r.path (by omega)) ?_; simp only [lawG, ↓Xn, ↓Xo, ↓Xg, ↓Xd, ↓Xe, ↓Xf, Tryz.VΓ, Tryz.Γs, Xp, Xi, Nat.reduceAdd, Nat.reduceSub, Nat.reduceLT, Nat.reduceLeDiff, reduceIte, reduceCtorEq, Nat.reduceEqDiff, implies_true, forall_const, lawV])
    rw [← hR]
    refine ⟨(OkD_fast (by kernel_rfl)), fun h => ?_, fun h => rfl⟩
    simp [h2] at h
  rw [if_neg (by simpa using h2)] at hR
  refine ⟨fun h3 => ?_, fun h3 => ?_⟩
  · rw [if_pos (by simpa using h3)] at hR
    refine ⟨fun h4 => ?_, fun h4 => ?_⟩
    · rw [if_neg (by simpa using h4)] at hR
      rw [← hR]
      refine ⟨(OkD_fast (by kernel_rfl)), (OkD_fast (by kernel_rfl)), fun h => ⟨(OkD_fast (by kernel_rfl)), rfl⟩, fun h => ?_⟩
      simp [h2] at h
    · rw [if_pos (by simpa using h4)] at hR
      rw [← hR]
      refine ⟨(OkD_fast (by kernel_rfl)), fun h => ⟨(OkD_fast (by kernel_rfl)), rfl⟩, fun h => ?_⟩
      simp [h2] at h
  · rw [if_neg (by simpa using h3)] at hR
    (refine callV_pc (pm) ?_; simp only [lawG, ↓Xn, ↓Xo, ↓Xg, ↓Xd, ↓Xe, ↓Xf, Tryz.VΓ, Tryz.Γs, Xp, Xi, Nat.reduceAdd, Nat.reduceSub, Nat.reduceLT, Nat.reduceLeDiff, reduceIte, reduceCtorEq, Nat.reduceEqDiff, implies_true, forall_const, lawV])
    (refine callV_pc (p_uri_RemoveDots _ (by omega)) ?_; simp only [lawG, ↓Xn, ↓Xo, ↓Xg, ↓Xd, ↓Xe, ↓Xf, Tryz.VΓ, Tryz.Γs, Xp, Xi, Nat.reduceAdd, Nat.reduceSub, Nat.reduceLT, Nat.reduceLeDiff, reduceIte, reduceCtorEq, Nat.reduceEqDiff, implies_true, forall_const, lawV])
    rw [← hR]
    refine ⟨(OkD_fast (by kernel_rfl)), fun h => ⟨(OkD_fast (by kernel_rfl)), rfl⟩, fun h => ?_⟩
    simp [h2] at h
end Go.Proofs.YtfmafmgbfamaiaaGreatDoor
/- The walk of weburl.Parse. -/
set_option linter.all false
set_option maxRecDepth 20000
namespace Go.Proofs.YtfmafmgbfamaiaaGreatDoor
open Go Vc Go.RowKit Wf
set_option linter.unusedSimpArgs false
theorem hostPort_ok (a : Bytes) (h : (hostPort a).2 = 0) : (hostPort a).1.1.length ≤ 253 ∧ 0 ≤ (hostPort a).1.2 ∧ (hostPort a).1.2 ≤ 65535 := by
  have := hostPort_back (s := a) (x := (hostPort a).1.1) (p := (hostPort a).1.2) (by rw [← h])
  omega
set_option maxRecDepth 20000 in
set_option maxHeartbeats 4000000 in
theorem p_url_Parse (s : Bytes) : PC Tryz.V 24 [.str s] (.tup [wsv (urlParse s).1, .int .i64 (urlParse s).2]) := by
  refine pc_of 3000 Tryz.func24 rfl Tryz.ntmps24 Tryz.results24 Tryz.call24 (by simp) (by simp [flat, flat.flatL]) (by simp [flat, flat.flatL, wsv]) ?_
  simp only [lawG, ↓Xn, ↓Xo, ↓Xg, ↓Xd, ↓Xe, ↓Xf, Tryz.VΓ, Tryz.Γs, Xp, Xi, Nat.reduceAdd, Nat.reduceSub, Nat.reduceLT, Nat.reduceLeDiff, reduceIte, reduceCtorEq, Nat.reduceEqDiff, implies_true, forall_const, lawV]
  refine ⟨fun h => ?_, fun h => ?_⟩
  · have : urlParse s = (Url.none, 5) := if_pos (by simp at h; omega)
    rw [this]; rfl
  have hl : ¬ 4096 < s.length := (by simp at h; omega)
  have hq : urlParse s = if (uriSplit s).2 ≠ 0 then (Url.none, (uriSplit s).2) else urlOf (uriSplit s).1 := if_neg hl
  rw [hq]
  have ps := p_uri_Split s
  unfold usv at ps
  have hp := split_path s
  have hz := split_size s
  revert ps hp hz
  generalize uriSplit s = us
  obtain ⟨r, c⟩ := us
  intro ps hp hz
  simp only at ps hp hz
  simp only
  unfold Uri.size at hz
  have pl := p_Equal r.scheme https (by omega) (by decide)
  have pn := p_Contains r.authority 64
  have ph := p_host_Parse r.authority (by omega)
  have p1 := p_Normalize r.path inPath (by decide)
  have p2 := p_Normalize r.query inQuery (by decide)
  have p3 := p_Normalize r.fragment inQuery (by decide)
  (refine callV_pc (ps) ?_; simp only [lawG, ↓Xn, ↓Xo, ↓Xg, ↓Xd, ↓Xe, ↓Xf, Tryz.VΓ, Tryz.Γs, Xp, Xi, Nat.reduceAdd, Nat.reduceSub, Nat.reduceLT, Nat.reduceLeDiff, reduceIte, reduceCtorEq, Nat.reduceEqDiff, implies_true, forall_const, lawV])
  refine ⟨fun h1 => ?_, fun h1 => ?_⟩
  · rw [if_pos (by simpa using h1)]; rfl
  rw [if_neg (by simpa using h1)]
  unfold urlOf
  cases hsc : r.hasScheme
  · simp only [lawG, ↓Xn, ↓Xo, ↓Xg, ↓Xd, ↓Xe, ↓Xf, Tryz.VΓ, Tryz.Γs, Xp, Xi, Nat.reduceAdd, Nat.reduceSub, Nat.reduceLT, Nat.reduceLeDiff, reduceIte, reduceCtorEq, Nat.reduceEqDiff, implies_true, forall_const, lawV, hsc]
    rw [if_pos (.inl trivial)]; rfl
  simp only [lawG, ↓Xn, ↓Xo, ↓Xg, ↓Xd, ↓Xe, ↓Xf, Tryz.VΓ, Tryz.Γs, Xp, Xi, Nat.reduceAdd, Nat.reduceSub, Nat.reduceLT, Nat.reduceLeDiff, reduceIte, reduceCtorEq, Nat.reduceEqDiff, implies_true, forall_const, lawV, hsc]
  rw [show lower https = https by decide] at pl
  (refine callV_pc pl ?_; simp only [lawG, ↓Xn, ↓Xo, ↓Xg, ↓Xd, ↓Xe, ↓Xf, Tryz.VΓ, Tryz.Γs, Xp, Xi, Nat.reduceAdd, Nat.reduceSub, Nat.reduceLT, Nat.reduceLeDiff, reduceIte, reduceCtorEq, Nat.reduceEqDiff, implies_true, forall_const, lawV, hsc])
  refine ⟨fun h2 => ?_, fun h2 => ?_⟩
  · rw [if_pos (.inr (by simpa using h2))]; rfl
  rw [if_neg (by simpa using h2)]
  cases hau : r.hasAuthority
  · simp only [lawG, ↓Xn, ↓Xo, ↓Xg, ↓Xd, ↓Xe, ↓Xf, Tryz.VΓ, Tryz.Γs, Xp, Xi, Nat.reduceAdd, Nat.reduceSub, Nat.reduceLT, Nat.reduceLeDiff, reduceIte, reduceCtorEq, Nat.reduceEqDiff, implies_true, forall_const, lawV, hau]
    rfl
  simp only [lawG, ↓Xn, ↓Xo, ↓Xg, ↓Xd, ↓Xe, ↓Xf, Tryz.VΓ, Tryz.Γs, Xp, Xi, Nat.reduceAdd, Nat.reduceSub, Nat.reduceLT, Nat.reduceLeDiff, reduceIte, reduceCtorEq, Nat.reduceEqDiff, implies_true, forall_const, lawV, hau]
  (refine callV_pc pn ?_; simp only [lawG, ↓Xn, ↓Xo, ↓Xg, ↓Xd, ↓Xe, ↓Xf, Tryz.VΓ, Tryz.Γs, Xp, Xi, Nat.reduceAdd, Nat.reduceSub, Nat.reduceLT, Nat.reduceLeDiff, reduceIte, reduceCtorEq, Nat.reduceEqDiff, implies_true, forall_const, lawV, hau])
  refine ⟨fun h3 => ?_, fun h3 => ?_⟩
  · rw [if_pos (by simpa using h3)]; rfl
  rw [if_neg (by simpa using h3)]
  unfold urlParts
  (refine callV_pc ph ?_; simp only [lawG, ↓Xn, ↓Xo, ↓Xg, ↓Xd, ↓Xe, ↓Xf, Tryz.VΓ, Tryz.Γs, Xp, Xi, Nat.reduceAdd, Nat.reduceSub, Nat.reduceLT, Nat.reduceLeDiff, reduceIte, reduceCtorEq, Nat.reduceEqDiff, implies_true, forall_const, lawV, hau])
  refine ⟨fun h4 => ?_, fun h4 => ?_⟩
  · rw [if_pos (by simpa using h4)]; rfl
  rw [if_neg (by simpa using h4)]
  have hN1 := pctNorm_len inPath r.path
  have hN2 := pctNorm_len inQuery r.query
  have hN3 := pctNorm_len inQuery r.fragment
  have hH := hostPort_ok r.authority (by simpa using h4)
  have p4 := p_uri_RemoveDots (pctNorm inPath r.path).1 (by omega)
  have hD := removeDots_len (pctNorm inPath r.path).1
  generalize pctNorm inPath r.path = n1 at p1 p4 hN1 hD ⊢
  generalize pctNorm inQuery r.query = n2 at p2 hN2 ⊢
  generalize pctNorm inQuery r.fragment = n3 at p3 hN3 ⊢
  generalize (hostPort r.authority).1 = hp at hH ⊢
  obtain ⟨n1, e1⟩ := n1
  obtain ⟨n2, e2⟩ := n2
  obtain ⟨n3, e3⟩ := n3
  obtain ⟨hh, pp⟩ := hp
  simp only at p1 p2 p3 p4 hN1 hN2 hN3 hH hD ⊢
  (refine callV_pc p1 ?_; simp only [lawG, ↓Xn, ↓Xo, ↓Xg, ↓Xd, ↓Xe, ↓Xf, Tryz.VΓ, Tryz.Γs, Xp, Xi, Nat.reduceAdd, Nat.reduceSub, Nat.reduceLT, Nat.reduceLeDiff, reduceIte, reduceCtorEq, Nat.reduceEqDiff, implies_true, forall_const, lawV])
  refine ⟨fun h5 => ?_, fun h5 => ?_⟩
  · rw [if_pos (by simpa using h5)]; rfl
  rw [if_neg (by simpa using h5)]
  (refine callV_pc p2 ?_; simp only [lawG, ↓Xn, ↓Xo, ↓Xg, ↓Xd, ↓Xe, ↓Xf, Tryz.VΓ, Tryz.Γs, Xp, Xi, Nat.reduceAdd, Nat.reduceSub, Nat.reduceLT, Nat.reduceLeDiff, reduceIte, reduceCtorEq, Nat.reduceEqDiff, implies_true, forall_const, lawV])
  refine ⟨fun h6 => ?_, fun h6 => ?_⟩
  · rw [if_pos (by simpa using h6)]; rfl
  rw [if_neg (by simpa using h6)]
  (refine callV_pc p3 ?_; simp only [lawG, ↓Xn, ↓Xo, ↓Xg, ↓Xd, ↓Xe, ↓Xf, Tryz.VΓ, Tryz.Γs, Xp, Xi, Nat.reduceAdd, Nat.reduceSub, Nat.reduceLT, Nat.reduceLeDiff, reduceIte, reduceCtorEq, Nat.reduceEqDiff, implies_true, forall_const, lawV])
  refine ⟨fun h7 => ?_, fun h7 => ?_⟩
  · rw [if_pos (by simpa using h7)]; rfl
  rw [if_neg (by simpa using h7)]
  unfold urlEnd
  (refine callV_pc p4 ?_; simp only [lawG, ↓Xn, ↓Xo, ↓Xg, ↓Xd, ↓Xe, ↓Xf, Tryz.VΓ, Tryz.Γs, Xp, Xi, Nat.reduceAdd, Nat.reduceSub, Nat.reduceLT, Nat.reduceLeDiff, reduceIte, reduceCtorEq, Nat.reduceEqDiff, implies_true, forall_const, lawV])
  generalize removeDots n1 = d at hD ⊢
  have fin : ∀ d' : Bytes, d'.length ≤ 4096 * 6 → PC Tryz.V 25 [wsv ⟨hh, pp, d', n2, n3, r.hasQuery, r.hasFrag⟩] (.str (urlText ⟨hh, pp, d', n2, n3, r.hasQuery, r.hasFrag⟩)) := fun d' hd' =>
    p_url_Format _ ⟨by simp only; omega, by simp only; omega, by simp only; omega⟩
  unfold wsv at fin
  refine ⟨fun h8 => ?_, fun h8 => ?_⟩
  · have f1 := fin [47] (by decide)
    have h8' : d = [] := by simpa using h8
    rw [if_pos h8']
    (refine callV_pc f1 ?_; simp only [lawG, ↓Xn, ↓Xo, ↓Xg, ↓Xd, ↓Xe, ↓Xf, Tryz.VΓ, Tryz.Γs, Xp, Xi, Nat.reduceAdd, Nat.reduceSub, Nat.reduceLT, Nat.reduceLeDiff, reduceIte, reduceCtorEq, Nat.reduceEqDiff, implies_true, forall_const, lawV])
    refine ⟨fun h9 => ?_, fun h9 => ?_⟩
    · rw [if_pos (by simp at h9; omega)]; rfl
    · rw [if_neg (by simp at h9; omega)]; rfl
  · have f1 := fin d (by omega)
    have h8' : ¬ d = [] := by simpa using h8
    rw [if_neg h8']
    (refine callV_pc f1 ?_; simp only [lawG, ↓Xn, ↓Xo, ↓Xg, ↓Xd, ↓Xe, ↓Xf, Tryz.VΓ, Tryz.Γs, Xp, Xi, Nat.reduceAdd, Nat.reduceSub, Nat.reduceLT, Nat.reduceLeDiff, reduceIte, reduceCtorEq, Nat.reduceEqDiff, implies_true, forall_const, lawV])
    refine ⟨fun h9 => ?_, fun h9 => ?_⟩
    · rw [if_pos (by simp at h9; omega)]; rfl
    · rw [if_neg (by simp at h9; omega)]; rfl
end Go.Proofs.YtfmafmgbfamaiaaGreatDoor
/- The walks of the references 01 and 06. -/
set_option linter.all false
set_option maxRecDepth 20000
namespace Go.Proofs.YtfmafmgbfamaiaaGreatDoor
open Go Vc Go.RowKit Wf
set_option linter.unusedSimpArgs false
end Go.Proofs.YtfmafmgbfamaiaaGreatDoor
/- The walks of reference 06: scheme, Split, merged, Resolve. -/
set_option linter.all false
set_option maxRecDepth 20000
namespace Go.Proofs.YtfmafmgbfamaiaaGreatDoor
open Go Vc Go.RowKit Wf
set_option linter.unusedSimpArgs false
def refMerge (b r : Uri) : Bytes := if b.hasAuthority ∧ b.path = [] then 47 :: r.path else b.path.take (lastSlash b.path) ++ r.path
end Go.Proofs.YtfmafmgbfamaiaaGreatDoor
/- The walks of reference 06: Split, Join. -/
set_option linter.all false
set_option maxRecDepth 20000
namespace Go.Proofs.YtfmafmgbfamaiaaGreatDoor
open Go Vc Go.RowKit Wf
set_option linter.unusedSimpArgs false
end Go.Proofs.YtfmafmgbfamaiaaGreatDoor
/- The walks of the reference for package percent. -/
set_option linter.all false
set_option maxRecDepth 20000
namespace Go.Proofs.YtfmafmgbfamaiaaGreatDoor
open Go Vc Go.RowKit Wf
end Go.Proofs.YtfmafmgbfamaiaaGreatDoor
/- The walk of the reference's Normalize. -/
set_option linter.all false
set_option maxRecDepth 20000
namespace Go.Proofs.YtfmafmgbfamaiaaGreatDoor
open Go Vc Go.RowKit Wf
end Go.Proofs.YtfmafmgbfamaiaaGreatDoor
/- The walk of the reference's Parse. -/
set_option linter.all false
set_option maxRecDepth 20000
namespace Go.Proofs.YtfmafmgbfamaiaaGreatDoor
open Go Vc Go.RowKit Wf
set_option linter.unusedSimpArgs false
end Go.Proofs.YtfmafmgbfamaiaaGreatDoor
/- The walks of Valid and Relative. -/
set_option linter.all false
set_option maxRecDepth 20000
namespace Go.Proofs.YtfmafmgbfamaiaaGreatDoor
open Go Vc Go.RowKit Wf
set_option linter.unusedSimpArgs false
set_option maxRecDepth 20000 in
set_option maxHeartbeats 2000000 in
theorem p_url_Valid (u : Url) (hk : Fair u) : PC Tryz.V 18 [wsv u] (.bool (urlValid u)) := by
  have pf := p_url_Format u hk
  have pp := p_url_Parse (urlText u)
  unfold wsv at pf pp
  (refine pc_of 3000 Tryz.func18 rfl Tryz.ntmps18 Tryz.results18 Tryz.call18 (by simp) (by simp [flat, flat.flatL, wsv]) (by simp [flat, flat.flatL, wsv]) ?_
   unfold wsv
   simp only [lawG, ↓Xn, ↓Xo, ↓Xg, ↓Xd, ↓Xe, ↓Xf, Tryz.VΓ, Tryz.Γs, Xp, Xi, Nat.reduceAdd, Nat.reduceSub, Nat.reduceLT, Nat.reduceLeDiff, reduceIte, reduceCtorEq, Nat.reduceEqDiff, implies_true, forall_const, lawV])
  (refine callV_pc (pf) ?_; simp only [lawG, ↓Xn, ↓Xo, ↓Xg, ↓Xd, ↓Xe, ↓Xf, Tryz.VΓ, Tryz.Γs, Xp, Xi, Nat.reduceAdd, Nat.reduceSub, Nat.reduceLT, Nat.reduceLeDiff, reduceIte, reduceCtorEq, Nat.reduceEqDiff, implies_true, forall_const, lawV])
  (refine callV_pc (pp) ?_; simp only [lawG, ↓Xn, ↓Xo, ↓Xg, ↓Xd, ↓Xe, ↓Xf, Tryz.VΓ, Tryz.Γs, Xp, Xi, Nat.reduceAdd, Nat.reduceSub, Nat.reduceLT, Nat.reduceLeDiff, reduceIte, reduceCtorEq, Nat.reduceEqDiff, implies_true, forall_const, lawV])
  unfold urlValid
  generalize urlParse (urlText u) = x
  obtain ⟨⟨a, b, c, d, e, f, g⟩, y⟩ := x
  obtain ⟨a', b', c', d', e', f', g'⟩ := u
  simp only [eqS, eqB, eqK, eqK.eqF]
  refine ⟨fun h => ?_, fun h => ?_⟩
  · obtain rfl : y = 0 := by simpa using h
    congr 1
    rw [Bool.eq_iff_iff]
    simp only [Bool.and_eq_true, beq_iff_eq, decide_eq_true_eq, Prod.mk.injEq, Url.mk.injEq, and_true]
    constructor <;> (rintro ⟨rfl, rfl, rfl, rfl, rfl, rfl, rfl⟩; exact ⟨rfl, rfl, rfl, rfl, rfl, rfl, rfl⟩)
  · congr 1
    exact (decide_eq_false (fun k => by rw [(Prod.mk.inj k).2] at h; simp at h)).symm
end Go.Proofs.YtfmafmgbfamaiaaGreatDoor
/- The walks of Relative. -/
set_option linter.all false
set_option maxRecDepth 20000
namespace Go.Proofs.YtfmafmgbfamaiaaGreatDoor
open Go Vc Go.RowKit Wf
set_option linter.unusedSimpArgs false
def wsvR (u : Url) : SV := wsv u
theorem split_cap (s : Bytes) : Uri.size (uriSplit s).1 ≤ 100000 := by
  by_cases h : 16384 < s.length
  · rw [show uriSplit s = (Uri.none, 5) from if_pos h]; decide
  · have := split_size s; omega
theorem resolve_size (b r : Uri) : Uri.size (uriResolve b r) ≤ 2 * (Uri.size b + Uri.size r) + 2 := by
  have h1 := removeDots_len r.path
  have h2 := removeDots_len (uriMerge b r)
  have h3 : (uriMerge b r).length ≤ b.path.length + r.path.length + 1 := by
    have := uriMerge_len b r
    omega
  unfold uriResolve
  split
  · simp [Uri.size]; omega
  split
  · simp [Uri.size]; omega
  split
  · split <;> (simp [Uri.size]; omega)
  · simp [Uri.size]; omega
set_option maxRecDepth 20000 in
set_option maxHeartbeats 4000000 in
theorem p_url_Relative (u : Url) (ref : Bytes) (hk : Fair u) : PC Tryz.V 33 [wsv u, .str ref] (.tup [wsv (urlRelative u ref).1, .int .i64 (urlRelative u ref).2]) := by
  show PC _ _ _ (.tup [wsvR (urlRelative u ref).1, .int .i64 (urlRelative u ref).2])
  have pf := p_url_Format u hk
  have hvd := p_url_Valid u hk
  have s1 := p_uri_Split (urlText u)
  have s2 := p_uri_Split ref
  have z1 := split_cap (urlText u)
  have z2 := split_cap ref
  have pr := p_uri_Resolve (uriSplit (urlText u)).1 (uriSplit ref).1 (by unfold Uri.size at z1; omega) (by unfold Uri.size at z2; omega)
  have hz := resolve_size (uriSplit (urlText u)).1 (uriSplit ref).1
  unfold wsv at pf hvd
  unfold usv at s1 s2 pr
  (refine pc_of 3000 Tryz.func33 rfl Tryz.ntmps33 Tryz.results33 Tryz.call33 (by simp) (by simp [flat, flat.flatL, wsv]) (by simp [flat, flat.flatL, wsv, wsvR]) ?_
   unfold wsv
   simp only [lawG, ↓Xn, ↓Xo, ↓Xg, ↓Xd, ↓Xe, ↓Xf, Tryz.VΓ, Tryz.Γs, Xp, Xi, Nat.reduceAdd, Nat.reduceSub, Nat.reduceLT, Nat.reduceLeDiff, reduceIte, reduceCtorEq, Nat.reduceEqDiff, implies_true, forall_const, lawV])
  unfold urlRelative
  (refine callV_pc (hvd) ?_; simp only [lawG, ↓Xn, ↓Xo, ↓Xg, ↓Xd, ↓Xe, ↓Xf, Tryz.VΓ, Tryz.Γs, Xp, Xi, Nat.reduceAdd, Nat.reduceSub, Nat.reduceLT, Nat.reduceLeDiff, reduceIte, reduceCtorEq, Nat.reduceEqDiff, implies_true, forall_const, lawV])
  cases hv : urlValid u
  · simp only [lawG, ↓Xn, ↓Xo, ↓Xg, ↓Xd, ↓Xe, ↓Xf, Tryz.VΓ, Tryz.Γs, Xp, Xi, Nat.reduceAdd, Nat.reduceSub, Nat.reduceLT, Nat.reduceLeDiff, reduceIte, reduceCtorEq, Nat.reduceEqDiff, implies_true, forall_const, lawV]
    rfl
  simp only [lawG, ↓Xn, ↓Xo, ↓Xg, ↓Xd, ↓Xe, ↓Xf, Tryz.VΓ, Tryz.Γs, Xp, Xi, Nat.reduceAdd, Nat.reduceSub, Nat.reduceLT, Nat.reduceLeDiff, reduceIte, reduceCtorEq, Nat.reduceEqDiff, implies_true, forall_const, lawV]
  (refine callV_pc (pf) ?_; simp only [lawG, ↓Xn, ↓Xo, ↓Xg, ↓Xd, ↓Xe, ↓Xf, Tryz.VΓ, Tryz.Γs, Xp, Xi, Nat.reduceAdd, Nat.reduceSub, Nat.reduceLT, Nat.reduceLeDiff, reduceIte, reduceCtorEq, Nat.reduceEqDiff, implies_true, forall_const, lawV])
  (refine callV_pc (s1) ?_; simp only [lawG, ↓Xn, ↓Xo, ↓Xg, ↓Xd, ↓Xe, ↓Xf, Tryz.VΓ, Tryz.Γs, Xp, Xi, Nat.reduceAdd, Nat.reduceSub, Nat.reduceLT, Nat.reduceLeDiff, reduceIte, reduceCtorEq, Nat.reduceEqDiff, implies_true, forall_const, lawV])
  (refine callV_pc (s2) ?_; simp only [lawG, ↓Xn, ↓Xo, ↓Xg, ↓Xd, ↓Xe, ↓Xf, Tryz.VΓ, Tryz.Γs, Xp, Xi, Nat.reduceAdd, Nat.reduceSub, Nat.reduceLT, Nat.reduceLeDiff, reduceIte, reduceCtorEq, Nat.reduceEqDiff, implies_true, forall_const, lawV])
  refine ⟨fun h1 => ?_, fun h1 => ?_⟩
  · rw [if_pos (by simpa using h1)]; rfl
  rw [if_neg (by simpa using h1)]
  generalize uriSplit (urlText u) = b at *
  generalize uriSplit ref = r at *
  (refine callV_pc (pr) ?_; simp only [lawG, ↓Xn, ↓Xo, ↓Xg, ↓Xd, ↓Xe, ↓Xf, Tryz.VΓ, Tryz.Γs, Xp, Xi, Nat.reduceAdd, Nat.reduceSub, Nat.reduceLT, Nat.reduceLeDiff, reduceIte, reduceCtorEq, Nat.reduceEqDiff, implies_true, forall_const, lawV])
  generalize uriResolve b.1 r.1 = q at *
  have pl := p_Equal q.scheme https (by unfold Uri.size at hz z1 z2; omega) (by decide)
  rw [show lower https = https by decide] at pl
  have pj := p_uri_Join q (by unfold Uri.size at *; omega)
  have pp := p_url_Parse (uriJoin q)
  unfold usv at pj
  unfold wsv at pp
  (refine callV_pc (pl) ?_; simp only [lawG, ↓Xn, ↓Xo, ↓Xg, ↓Xd, ↓Xe, ↓Xf, Tryz.VΓ, Tryz.Γs, Xp, Xi, Nat.reduceAdd, Nat.reduceSub, Nat.reduceLT, Nat.reduceLeDiff, reduceIte, reduceCtorEq, Nat.reduceEqDiff, implies_true, forall_const, lawV])
  refine ⟨fun h2 => ?_, fun h2 => ?_⟩
  · rw [if_pos (by simpa using h2)]; rfl
  rw [if_neg (by simpa using h2)]
  (refine callV_pc (pj) ?_; simp only [lawG, ↓Xn, ↓Xo, ↓Xg, ↓Xd, ↓Xe, ↓Xf, Tryz.VΓ, Tryz.Γs, Xp, Xi, Nat.reduceAdd, Nat.reduceSub, Nat.reduceLT, Nat.reduceLeDiff, reduceIte, reduceCtorEq, Nat.reduceEqDiff, implies_true, forall_const, lawV])
  (refine callV_pc (pp) ?_; simp only [lawG, ↓Xn, ↓Xo, ↓Xg, ↓Xd, ↓Xe, ↓Xf, Tryz.VΓ, Tryz.Γs, Xp, Xi, Nat.reduceAdd, Nat.reduceSub, Nat.reduceLT, Nat.reduceLeDiff, reduceIte, reduceCtorEq, Nat.reduceEqDiff, implies_true, forall_const, lawV])
  rfl
end Go.Proofs.YtfmafmgbfamaiaaGreatDoor
/- The walks of package world. -/
set_option linter.all false
set_option maxRecDepth 20000
namespace Go.Proofs.YtfmafmgbfamaiaaGreatDoor
open Go Vc Go.RowKit Wf
set_option linter.unusedSimpArgs false
def ac (a : Ans) : List SV := [.str a.host, .int .i64 a.port, .str a.target, .str a.raw, .int .i64 a.fail, .int .u64 a.since, .int .u64 a.till]
theorem ac_at (L : List Ans) (k : Nat) (h : k < L.length) : ((L.flatMap ac).drop (k * 7)).take 7 = ac L[k] := rows_at ac 7 (fun _ => rfl) L k h
theorem ac_len (L : List Ans) : (L.flatMap ac).length = L.length * 7 := rows_len ac 7 (fun _ => rfl) L
def AnsFair (a : Ans) : Prop := a.host.length ≤ 140737488355328 ∧ a.target.length ≤ 140737488355328 ∧ a.raw.length ≤ 140737488355328
theorem p_world_origin (a : Ans) : PC Tryz.V 73 [.agg (ac a)] (.agg [.str a.host, .int .i64 a.port]) := by
  refine pc_of 3000 Tryz.func73 rfl Tryz.ntmps73 Tryz.results73 Tryz.call73 (by simp) (by simp [flat, flat.flatL, ac]) (by simp [flat, flat.flatL, ac]) ?_
  unfold ac
  simp only [lawG, ↓Xn, ↓Xo, ↓Xg, ↓Xd, ↓Xe, ↓Xf, Tryz.VΓ, Tryz.Γs, Xp, Xi, Nat.reduceAdd, Nat.reduceSub, Nat.reduceLT, Nat.reduceLeDiff, reduceIte, reduceCtorEq, Nat.reduceEqDiff, implies_true, forall_const, lawV]
theorem p_world_fits (h : Bytes) (p : Int) (t : Bytes) (now : Int) (a : Ans) : PC Tryz.V 45 [.agg [.str h, .int .i64 p, .str t, .int .u64 now], .agg (ac a)] (.bool (ansFits h p t now a)) := by
  have p1 := p_world_origin a
  refine pc_of 3000 Tryz.func45 rfl Tryz.ntmps45 Tryz.results45 Tryz.call45 (by simp) (by simp [flat, flat.flatL, ac]) (by simp [flat, flat.flatL, ac]) ?_
  unfold ac at p1 ⊢
  simp only [lawG, ↓Xn, ↓Xo, ↓Xg, ↓Xd, ↓Xe, ↓Xf, Tryz.VΓ, Tryz.Γs, Xp, Xi, Nat.reduceAdd, Nat.reduceSub, Nat.reduceLT, Nat.reduceLeDiff, reduceIte, reduceCtorEq, Nat.reduceEqDiff, implies_true, forall_const, lawV]
  (refine callD_pc (p1) ?_; simp only [lawG, ↓Xn, ↓Xo, ↓Xg, ↓Xd, ↓Xe, ↓Xf, Tryz.VΓ, Tryz.Γs, Xp, Xi, Nat.reduceAdd, Nat.reduceSub, Nat.reduceLT, Nat.reduceLeDiff, reduceIte, reduceCtorEq, Nat.reduceEqDiff, implies_true, forall_const, lawV, beq_self_eq_true, bne_self_eq_false, Int.reduceBEq, Int.reduceBNe, Int.reduceLT, Int.reduceLE])
  refine ⟨fun h1 => ⟨fun h2 => ⟨fun h3 => ⟨fun h4 => ⟨(OkD_fast (by kernel_rfl)), ?_⟩, fun h4 => ⟨(OkD_fast (by kernel_rfl)), ?_⟩⟩, fun h3 => ⟨(OkD_fast (by kernel_rfl)), ?_⟩⟩, fun h2 => ⟨(OkD_fast (by kernel_rfl)), ?_⟩⟩, fun h1 => ⟨(OkD_fast (by kernel_rfl)), ?_⟩⟩
  all_goals unfold ansFits
  · rw [h1, h2, h3, h4]; simp
  · rw [h1, h2, h3, h4]; simp
  · rw [h1, h2, h3]; simp
  · rw [h1, h2]; simp
  · rw [h1]; simp
set_option maxHeartbeats 2000000 in
theorem sc_IndexFuncM {bs : List Res} {j : Nat} {L : List Ans} {m : Bool} (g : FuncId) (v : SV) (fv : flat v = true) (p : Ans → Bool) (hp : ∀ a ∈ L, PC Tryz.V g [v, .agg (ac a)] (.bool (p a))) (hj : bs[j]? = some (.own (L.flatMap ac) 35 7 L.length m)) (hL : L.length ≤ 9223372036854775807) :
    SC Tryz.V 44 [.o j L.length, .mv g [v]] bs (fun r b => r = .int .i64 (idxI p L) ∧ b = bs) := by
  have hjl : j < bs.length := (List.getElem?_eq_some_iff.1 hj).1
  have hv : ∀ β β', conc β v = conc β' v := conc_flat v fv
  refine sc_of 3000 Tryz.func44 rfl Tryz.ntmps44 Tryz.results44 Tryz.call44 (by simp) (fun β β' hb => by simp [concL, conc, hv β β', hb j hjl]) ?_
  simp only [lawG, ↓Xn, ↓Xo, ↓Xg, ↓Xd, ↓Xe, ↓Xf, Tryz.VΓ, Tryz.Γs, Xp, Xi, Nat.reduceAdd, Nat.reduceSub, Nat.reduceLT, Nat.reduceLeDiff, reduceIte, reduceCtorEq, Nat.reduceEqDiff, implies_true, forall_const, lawV, lawB]
  refine loopV_mk (fun σ => ∃ q : Nat, q ≤ L.length ∧ lk 0 σ.t = some (.o j L.length) ∧ lk 1 σ.t = some (.mv g [v]) ∧ lk 6 σ.t = some (.o j L.length) ∧ lk 7 σ.t = some (.int .i64 L.length) ∧ lk 8 σ.t = some (.int .i64 q) ∧ σ.b = bs ∧ ∀ a ∈ L.take q, p a = false) (fun σ => L.length - lkI 8 σ) ⟨0, by omega, rfl, rfl, rfl, rfl, rfl, rfl, by simp⟩ ?_
  rintro ⟨t, b⟩ ⟨q, hq, h0, h1, h6, h7, h8, hb, hok⟩
  simp only at h0 h1 h6 h7 h8 hb
  subst hb
  rw [lkI_eq h8]
  by_cases hlt : q < L.length
  · have hlt2 : decide ((q : Int) < L.length) = true := decide_eq_true (by omega)
    have hu := ac_at L q hlt
    have hul := ac_len L
    have hc := hp _ (List.getElem_mem hlt)
    unfold ac at hj hu hul hc
    have ht := List.take_succ_eq_append_getElem hlt
    simp only [lawG, ↓Xn, ↓Xo, ↓Xg, ↓Xd, ↓Xe, ↓Xf, Tryz.VΓ, Tryz.Γs, Xp, Xi, Nat.reduceAdd, Nat.reduceSub, Nat.reduceLT, Nat.reduceLeDiff, reduceIte, reduceCtorEq, Nat.reduceEqDiff, implies_true, forall_const, lawV, h0, h1, h6, h7, h8, hj, hu, hul, hlt2, lawB, Int.toNat_natCast]
    refine ⟨⟨by omega, by omega⟩, by omega, ?_⟩
    (refine callV_pc (hc) ?_; simp only [lawG, ↓Xn, ↓Xo, ↓Xg, ↓Xd, ↓Xe, ↓Xf, Tryz.VΓ, Tryz.Γs, Xp, Xi, Nat.reduceAdd, Nat.reduceSub, Nat.reduceLT, Nat.reduceLeDiff, reduceIte, reduceCtorEq, Nat.reduceEqDiff, implies_true, forall_const, lawV, h0, h1, h6, h7, h8, hj, hul, hlt2])
    refine ⟨fun hpq => by rw [idxI_at hlt hok hpq], fun hpq => ⟨⟨by omega, by omega⟩, ⟨q + 1, by omega, rfl, ?_⟩, ?_⟩⟩
    · intro s hs
      rw [ht] at hs
      rcases List.mem_append.1 hs with hs | hs
      · exact hok s hs
      · rw [List.mem_singleton.1 hs]; exact hpq
    · rw [lkI_eq (k := .i64) (n := (q : Int) + 1) rfl]; omega
  · have hie : q = L.length := by omega
    subst hie
    rw [List.take_length] at hok
    have hlt2 : decide ((L.length : Int) < L.length) = false := by simp
    simp only [lawG, ↓Xn, ↓Xo, ↓Xg, ↓Xd, ↓Xe, ↓Xf, Tryz.VΓ, Tryz.Γs, Xp, Xi, Nat.reduceAdd, Nat.reduceSub, Nat.reduceLT, Nat.reduceLeDiff, reduceIte, reduceCtorEq, Nat.reduceEqDiff, implies_true, forall_const, lawV, h0, h1, h6, h7, h8, hj, hlt2]
    rw [idxI_none hok]
end Go.Proofs.YtfmafmgbfamaiaaGreatDoor
/- The walks of package world: Valid, Ask. -/
set_option linter.all false
set_option maxRecDepth 20000
namespace Go.Proofs.YtfmafmgbfamaiaaGreatDoor
open Go Vc Go.RowKit Wf
set_option linter.unusedSimpArgs false
theorem ab_at (L : List Ans) (k : Nat) (h : k < L.length) (i : Nat) (x : SV) (hx : (ac L[k])[i]? = some x) : (L.flatMap ac)[k * 7 + i]? = some x := by
  have h1 := ac_at L k h
  have h2 : i < 7 := (List.getElem?_eq_some_iff.1 hx).1
  rw [← h1, List.getElem?_take_of_lt h2, List.getElem?_drop] at hx
  exact hx
def AnsSmall (a : Ans) : Prop := a.host.length ≤ 2000 ∧ (-9223372036854775808 ≤ a.port ∧ a.port ≤ 9223372036854775807) ∧ a.target.length ≤ 140737488355328
set_option maxHeartbeats 2000000 in
theorem sc_world_Ask {bs : List Res} {j : Nat} {L : List Ans} {m : Bool} (hj : bs[j]? = some (.own (L.flatMap ac) 35 7 L.length m)) (hL : L.length ≤ 9223372036854775807) (u : Url) (hu : Fair u) (now : Int) :
    SC Tryz.V 29 [.o j L.length, wsv u, .int .u64 now] bs (fun r b => r = .tup [.str (worldAsk L u now).1, .int .i64 (worldAsk L u now).2] ∧ Kp bs b) := by
  have hjl : j < bs.length := (List.getElem?_eq_some_iff.1 hj).1
  have p1 := p_url_Valid u hu
  have p2 := p_url_Origin u
  have p3 := p_url_Target u hu
  have pf := fun a => p_world_fits u.host u.port (urlTarget u) now a
  refine sc_of 3000 Tryz.func29 rfl Tryz.ntmps29 Tryz.results29 Tryz.call29 (by simp) (fun β β' hb => concL_within bs.length _ (by simp [within, within.withinL, hjl, wsv]) β β' hb) ?_
  unfold wsv at p1 p2 p3 ⊢
  simp only [lawG, ↓Xn, ↓Xo, ↓Xg, ↓Xd, ↓Xe, ↓Xf, Tryz.VΓ, Tryz.Γs, Xp, Xi, Nat.reduceAdd, Nat.reduceSub, Nat.reduceLT, Nat.reduceLeDiff, reduceIte, reduceCtorEq, Nat.reduceEqDiff, implies_true, forall_const, lawV, lawB]
  (refine callV_pc (p1) ?_; simp only [lawG, ↓Xn, ↓Xo, ↓Xg, ↓Xd, ↓Xe, ↓Xf, Tryz.VΓ, Tryz.Γs, Xp, Xi, Nat.reduceAdd, Nat.reduceSub, Nat.reduceLT, Nat.reduceLeDiff, reduceIte, reduceCtorEq, Nat.reduceEqDiff, implies_true, forall_const, lawV, lawB])
  refine ⟨fun h => ⟨?_, (Kp.refl _).app _⟩, fun h => ?_⟩
  · have h : urlValid u = false := by simpa using h
    unfold worldAsk
    rw [if_pos h]
  have h : urlValid u = true := by simpa using h
  have ea : worldAsk L u now = askOf (L.find? (ansFits u.host u.port (urlTarget u) now)) := by unfold worldAsk; rw [if_neg (by rw [h]; simp)]
  rw [ea]
  (refine callD_pc (p2) ?_; simp only [lawG, ↓Xn, ↓Xo, ↓Xg, ↓Xd, ↓Xe, ↓Xf, Tryz.VΓ, Tryz.Γs, Xp, Xi, Nat.reduceAdd, Nat.reduceSub, Nat.reduceLT, Nat.reduceLeDiff, reduceIte, reduceCtorEq, Nat.reduceEqDiff, implies_true, forall_const, lawV, lawB])
  (refine callD_pc (p3) ?_; simp only [lawG, ↓Xn, ↓Xo, ↓Xg, ↓Xd, ↓Xe, ↓Xf, Tryz.VΓ, Tryz.Γs, Xp, Xi, Nat.reduceAdd, Nat.reduceSub, Nat.reduceLT, Nat.reduceLeDiff, reduceIte, reduceCtorEq, Nat.reduceEqDiff, implies_true, forall_const, lawV, lawB])
  have hj2 := fun X => at_old hj [X]
  have hj3 := fun X Y => at_old (hj2 X) [Y]
  have s2 := fun X Y => sc_IndexFuncM (bs := bs ++ [X] ++ [Y]) _ _ (by simp [flat, flat.flatL]) _ (fun a _ => pf a) (hj3 X Y) hL
  have hz : ∀ X : Res, ((bs ++ [X]).length = bs.length) = False := fun X => by simp
  refine ⟨(by
    refine OkD_ren (fun n => if n = bs.length then 0 else 1) ?_
    simp only [List.map_cons, List.map_nil, renRk, renT, reduceIte, hz]
    exact OkD_fast (by kernel_rfl)), ?_⟩
  refine callV_sc (s2 _ _) ?_
  rintro r b ⟨rfl, rfl⟩
  rcases idxI_cases (ansFits u.host u.port (urlTarget u) now) L with ⟨e, -, e2⟩ | ⟨k, hk, e, -, e2⟩
  · rw [e, e2]
    simp only [lawG, ↓Xn, ↓Xo, ↓Xg, ↓Xd, ↓Xe, ↓Xf, Tryz.VΓ, Tryz.Γs, Xp, Xi, Nat.reduceAdd, Nat.reduceSub, Nat.reduceLT, Nat.reduceLeDiff, reduceIte, reduceCtorEq, Nat.reduceEqDiff, implies_true, forall_const, lawV, lawB, beq_self_eq_true, bne_self_eq_false, Int.reduceBEq, Int.reduceBNe, Int.reduceLT, Int.reduceLE]
    exact ⟨rfl, ((Kp.refl _).app _).app _⟩
  · rw [e, e2]
    have hk2 : decide ((k : Int) < 0) = false := decide_eq_false (by omega)
    have h4 := ab_at L k hk 4 _ rfl
    have h3 := ab_at L k hk 3 _ rfl
    have hul := ac_len L
    simp only [lawG, ↓Xn, ↓Xo, ↓Xg, ↓Xd, ↓Xe, ↓Xf, Tryz.VΓ, Tryz.Γs, Xp, Xi, Nat.reduceAdd, Nat.reduceSub, Nat.reduceLT, Nat.reduceLeDiff, reduceIte, reduceCtorEq, Nat.reduceEqDiff, implies_true, forall_const, lawV, lawB, hk2, h3, h4, hul, hj3, Int.toNat_natCast]
    refine ⟨⟨by omega, by omega⟩, by omega, fun q1 => ⟨?_, ((Kp.refl _).app _).app _⟩, fun q1 => ⟨fun q2 => ⟨?_, ((Kp.refl _).app _).app _⟩, fun q2 => ⟨fun q3 => ⟨?_, ((Kp.refl _).app _).app _⟩, fun q3 => ⟨fun q4 => ⟨?_, ((Kp.refl _).app _).app _⟩, fun q4 => ⟨⟨by omega, by omega⟩, by omega, ?_, ((Kp.refl _).app _).app _⟩⟩⟩⟩⟩
    all_goals simp only [beq_iff_eq, beq_eq_false_iff_ne, ne_eq] at *
    · simp [askOf, ansOf, q1]
    · simp [askOf, ansOf, q2]
    · simp [askOf, ansOf, q3]
    · simp [askOf, ansOf, q4]
    · simp [askOf, ansOf, q1, q2, q3, q4]
end Go.Proofs.YtfmafmgbfamaiaaGreatDoor
/- The walks of package world: Without, and its reference. -/
set_option linter.all false
set_option maxRecDepth 20000
namespace Go.Proofs.YtfmafmgbfamaiaaGreatDoor
open Go Vc Go.RowKit Wf
set_option linter.unusedSimpArgs false
def Sl1 (e s L : Nat) (x : SV) (b : List Res) (c : List SV) (n : Nat) : Prop := (x = .nils ∧ c = [] ∧ n = 0) ∨ ∃ j, x = .o j n ∧ 0 < n ∧ L ≤ j ∧ b[j]? = some (.own c e s n true)
theorem Sl1.low {e s L L' : Nat} {x : SV} {b : List Res} {c : List SV} {n : Nat} (h : Sl1 e s L x b c n) (hl : L' ≤ L) : Sl1 e s L' x b c n := by
  rcases h with h | ⟨j, h1, h0, h2, h3⟩
  · exact .inl h
  · exact .inr ⟨j, h1, h0, Nat.le_trans hl h2, h3⟩
def tidyR (bs : List Res) (n : Nat) : SV := if n = 0 then .nils else .o bs.length n
def tidyB (e s : Nat) (bs : List Res) (c : List SV) (n : Nat) : List Res := if n = 0 then bs else bs ++ [.own c e s n true]
end Go.Proofs.YtfmafmgbfamaiaaGreatDoor
/- A call that makes a row of its own out of what it reads, as a contract of the calculus; slices.Clone. -/
set_option linter.all false
set_option maxRecDepth 20000
namespace Go.Proofs.YtfmafmgbfamaiaaGreatDoor
open Go Vc Go.RowKit
theorem sc_newrow {V : Cx} {f : FuncId} {args : List SV} {bs : List Res} {c : List SV} {e s n : Nat} (hent : Vc.Enters V f) (hn : 0 < n) (hcl : c.length = n * s) (hc : flat.flatL c = true)
    (h : ∀ β fp w, BxOK β fp w bs → V.E w → Calls V.P f (concL β args).toArray w fun ex w' => ∃ v', ex = .returned v' ∧ w'.ownsRow w.heap.size e s v' n (c.map (conc β)) ∧ Below w.heap.size w w') :
    SC V f args bs (fun r b => r = .o bs.length n ∧ b = bs ++ [.own c e s n true]) := by
  refine ⟨hent, fun β fp w hbx hG hE => ?_⟩
  refine (h β fp w (hbx β (Agr.refl _ _)) hE).mono ?_
  rintro ex w' ⟨v', rfl, ⟨hl, hown⟩, hb⟩
  rcases hown with ⟨-, h0⟩ | ⟨g, cap, cur, rfl, hg, hheap, hnc, hcm, hcs, htake⟩
  · omega
  have hgl : g < w'.heap.size := (Array.getElem?_eq_some_iff.1 hheap).1
  refine ⟨.o bs.length n, bs ++ [.own c e s n true], fun i => if i < bs.length then β i else ⟨g, 0, cap + 1⟩,
    fun i k => if i < bs.length then fp i k else (i = bs.length ∧ k = g), ⟨rfl, rfl⟩, fun i hi => by simp [hi], by simp, fun β' hβ => ?_, FrW.of_below hb, ?_⟩
  · have hAgr : Agr bs.length β β' := fun i hi => by
      have := hβ i (by rw [List.length_append]; omega)
      simpa [hi] using this
    have hn1 : β' bs.length = ⟨g, 0, cap + 1⟩ := by
      have := hβ bs.length (by simp)
      simpa using this.symm
    have hbw := hbx β' hAgr
    refine ⟨?_, ?_, ?_, ?_⟩
    · simp [conc, hn1, oV]
    · intro i r hi
      rcases Nat.lt_or_ge i bs.length with hlt | hge
      · rw [List.getElem?_append_left hlt] at hi
        have := (hbw.holds i r hi).stays (w' := w') (fun k hk => hb.block k (hbw.lt i r hi k hk))
        simpa [hlt] using this
      · rw [List.getElem?_append_right hge] at hi
        obtain rfl : i = bs.length := by
          rcases Nat.eq_or_lt_of_le hge with e | e
          · exact e.symm
          · rw [List.getElem?_eq_none (by simp; omega)] at hi; cases hi
        simp only [Nat.sub_self, List.getElem?_cons_zero, Option.some.injEq] at hi
        subst hi
        right
        have hcc : c.map (conc β) = c.map (conc β') := by rw [← concL_map, ← concL_map]; exact concL_flat c hc β β'
        have hcur : cur = (c.map (conc β') ++ cur.toList.drop (n * s)).toArray := by
          rw [← hcc, ← htake, List.take_append_drop]
        have hhd : Head w' g e (c.map (conc β')) (cur.toList.drop (n * s)) (0, 0) := ⟨by rw [← hcur]; exact hheap, .inr (Nat.le_refl _)⟩
        have hle : n * s ≤ cap * s := Nat.mul_le_mul_right _ hnc
        rw [hn1]
        exact ⟨by simp, by simpa using hnc, by simpa using hcm, hcl, hhd.lies, fun _ => ⟨rfl, _, (0, 0), hhd, .inr (Nat.le_refl _), by rw [List.length_drop, hcl]; simp [hcs]; omega⟩, fun k => by simp⟩
    · intro i r hi k hk
      rcases Nat.lt_or_ge i bs.length with hlt | hge
      · rw [List.getElem?_append_left hlt] at hi
        simp only [hlt, if_true] at hk
        exact Nat.lt_of_lt_of_le (hbw.lt i r hi k hk) hb.size
      · simp only [show ¬ i < bs.length by omega, if_false] at hk
        rw [hk.2]
        exact hgl
    · intro i j r r' hi hj hij hm k hk hk'
      rcases Nat.lt_or_ge i bs.length with hlt | hge
      · rw [List.getElem?_append_left hlt] at hi
        simp only [hlt, if_true] at hk
        rcases Nat.lt_or_ge j bs.length with hjt | hjg
        · rw [List.getElem?_append_left hjt] at hj
          simp only [hjt, if_true] at hk'
          exact hbw.sep i j r r' hi hj hij hm k hk hk'
        · simp only [show ¬ j < bs.length by omega, if_false] at hk'
          have := hbw.lt i r hi k hk
          omega
      · simp only [show ¬ i < bs.length by omega, if_false] at hk
        rcases Nat.lt_or_ge j bs.length with hjt | hjg
        · rw [List.getElem?_append_left hjt] at hj
          simp only [hjt, if_true] at hk'
          have := hbw.lt j r' hj k hk'
          omega
        · simp only [show ¬ j < bs.length by omega, if_false] at hk'
          have h1 := (List.getElem?_eq_some_iff.1 hi).1
          have h2 := (List.getElem?_eq_some_iff.1 hj).1
          simp only [List.length_append, List.length_cons, List.length_nil] at h1 h2
          omega
  · refine ⟨fun i r' hi hm k hk => ?_, fun i r' hi k hk => ?_⟩
    · rcases Nat.lt_or_ge i bs.length with hlt | hge
      · rw [List.getElem?_append_left hlt] at hi
        simp only [hlt, if_true] at hk
        exact .inr ⟨i, r', hi, hm, hk⟩
      · simp only [show ¬ i < bs.length by omega, if_false] at hk
        exact .inl (by omega)
    · rcases Nat.lt_or_ge i bs.length with hlt | hge
      · rw [List.getElem?_append_left hlt] at hi
        simp only [hlt, if_true] at hk
        exact .inr ⟨i, r', hi, hk⟩
      · simp only [show ¬ i < bs.length by omega, if_false] at hk
        exact .inl (by omega)
theorem sc_phantom {V : Cx} {f : FuncId} {args args' : List SV} {bs : List Res} {e s : Nat} {m : Bool} {R : SV → List Res → Prop} (h : SC V f args' (bs ++ [.own [] e s 0 m]) R) (ha : ∀ β, concL (upd β bs.length ⟨0, 0, 0⟩) args' = concL β args) : SC V f args bs R := by
  refine ⟨h.1, fun β fp w hbx hG hE => ?_⟩
  have old : ∀ {j r}, (bs ++ [Res.own [] e s 0 m])[j]? = some r → (j < bs.length ∧ bs[j]? = some r) ∨ (j = bs.length ∧ r = .own [] e s 0 m) := fun {j r} hj => by
    rcases Nat.lt_or_ge j bs.length with hlt | hge
    · rw [List.getElem?_append_left hlt] at hj
      exact .inl ⟨hlt, hj⟩
    · have hjl := (List.getElem?_eq_some_iff.1 hj).1
      simp only [List.length_append, List.length_cons, List.length_nil] at hjl
      obtain rfl : j = bs.length := by omega
      rw [List.getElem?_append_right (Nat.le_refl _)] at hj
      simp only [Nat.sub_self, List.getElem?_cons_zero, Option.some.injEq] at hj
      exact .inr ⟨rfl, hj.symm⟩
  let fp' : Nat → Nat → Prop := fun i k => if i = bs.length then False else fp i k
  have none' : ∀ k, ¬ fp' bs.length k := fun k hk => by simp [fp'] at hk
  have same : ∀ {j}, j < bs.length → fp' j = fp j := fun {j} hj => by funext k; simp [fp', Nat.ne_of_lt hj]
  have back : ∀ {j r k}, (bs ++ [Res.own [] e s 0 m])[j]? = some r → fp' j k → bs[j]? = some r ∧ fp j k := fun {j r k} hj hk => by
    rcases old hj with ⟨h1, h2⟩ | ⟨rfl, -⟩
    · exact ⟨h2, by rw [← same h1]; exact hk⟩
    · exact absurd hk (none' k)
  rw [← ha β]
  refine (h.2 (upd β bs.length ⟨0, 0, 0⟩) fp' w (fun β' hβ => ?_) (fun i r hi hm k hk => ?_) hE).mono ?_
  · have hβ : Agr (bs.length + 1) (upd β bs.length ⟨0, 0, 0⟩) β' := by simpa using hβ
    have hb := hbx β' (Agr.of_upd hβ)
    refine ⟨fun j r hj => ?_, fun j r hj k hk => ?_, fun i j r r' hi hj hne hmm k hk hk2 => ?_⟩
    · rcases old hj with ⟨h1, h2⟩ | ⟨rfl, rfl⟩
      · rw [same h1]; exact hb.holds j r h2
      · have : β' bs.length = ⟨0, 0, 0⟩ := by rw [← hβ bs.length (by omega), upd_at]
        rw [this]
        exact .inl ⟨rfl, rfl, rfl, none'⟩
    · obtain ⟨h1, h2⟩ := back hj hk
      exact hb.lt j r h1 k h2
    · obtain ⟨h1, h2⟩ := back hi hk
      obtain ⟨h3, h4⟩ := back hj hk2
      exact hb.sep i j r r' h1 h3 hne hmm k h2 h4
  · obtain ⟨h1, h2⟩ := back hi hk
    exact hG i r h1 hm k h2
  · rintro ex w' ⟨r, bs', β₂, fp₂, hR, hag, hlen, hall, hfr, hmine, hfoot⟩
    rw [List.length_append] at hag hlen
    refine ⟨r, bs', β₂, fp₂, hR, Agr.of_upd hag, by simp at hlen; omega, hall, hfr.mono (fun k ⟨i, r, hi, hm, hk⟩ => ?_), fun i r' hi hm k hk => ?_, fun i r' hi k hk => ?_⟩
    · obtain ⟨h1, h2⟩ := back hi hk
      exact ⟨i, r, h1, hm, h2⟩
    · rcases hmine i r' hi hm k hk with h1 | ⟨j, r, hj, hm', hk'⟩
      · exact .inl h1
      · obtain ⟨h1, h2⟩ := back hj hk'
        exact .inr ⟨j, r, h1, hm', h2⟩
    · rcases hfoot i r' hi k hk with h1 | ⟨j, r, hj, hk'⟩
      · exact .inl h1
      · obtain ⟨h1, h2⟩ := back hj hk'
        exact .inr ⟨j, r, h1, h2⟩
theorem Kp.unphantom {bs b : List Res} {X : Res} (h : Kp (bs ++ [X]) b) : Kp bs b := ((Kp.refl bs).app [X]).trans h
def Sx (e s : Nat) (x : SV) (b : List Res) (c : List SV) (n : Nat) : Prop := (x = .nils ∧ c = [] ∧ n = 0) ∨ ∃ j m, x = .o j n ∧ 0 < n ∧ b[j]? = some (.own c e s n m)
theorem Sx.app {e s : Nat} {x : SV} {b : List Res} {c : List SV} {n : Nat} (h : Sx e s x b c n) (X : List Res) : Sx e s x (b ++ X) c n := by
  rcases h with h | ⟨j, m, h, h0, k⟩
  · exact .inl h
  · exact .inr ⟨j, m, h, h0, at_old k X⟩
theorem Sx.kp {e s : Nat} {x : SV} {bs b : List Res} {c : List SV} {n : Nat} (h : Sx e s x bs c n) (k : Kp bs b) : Sx e s x b c n := by
  rcases h with h | ⟨j, m, h, h0, hj⟩
  · exact .inl h
  · exact .inr ⟨j, m, h, h0, k.at hj⟩
theorem Sx.within {e s : Nat} {x : SV} {b : List Res} {c : List SV} {n : Nat} (h : Sx e s x b c n) : Vc.within b.length x = true := by
  rcases h with ⟨rfl, -⟩ | ⟨j, m, rfl, -, hj⟩
  · rfl
  · have := (List.getElem?_eq_some_iff.1 hj).1
    simp [Vc.within, this]
theorem Sl1.kp {e s L : Nat} {x : SV} {bs b : List Res} {c : List SV} {n : Nat} (h : Sl1 e s L x bs c n) (k : Kp bs b) : Sl1 e s L x b c n := by
  rcases h with h | ⟨j, h1, h0, h2, h3⟩
  · exact .inl h
  · exact .inr ⟨j, h1, h0, h2, k.at h3⟩
theorem Sl1.sx {e s L : Nat} {x : SV} {b : List Res} {c : List SV} {n : Nat} (h : Sl1 e s L x b c n) : Sx e s x b c n := by
  rcases h with h | ⟨j, h1, h0, -, h3⟩
  · exact .inl h
  · exact .inr ⟨j, true, h1, h0, h3⟩
theorem conc_cells_one {β : Nat → Bt} {c : List SV} (h : c.all Vc.one = true) : ∀ u ∈ c.map (conc β), u.oneCell' = true := by
  intro u hu
  obtain ⟨x, hx, rfl⟩ := List.mem_map.1 hu
  have := List.all_eq_true.1 h x hx
  have hov : ∀ (b : Bt) (n : Nat), (oV b n).oneCell' = true := fun b n => by unfold oV; by_cases h : b.cap = 0 <;> simp [h, Value.oneCell']
  cases x <;> simp [Vc.one] at this <;> first | exact hov _ _ | simp [conc, Value.oneCell']
def cloneU_ren : Go.Shelf.Ren := ⟨fun | 41 => 26 | n => n, fun | 4 => 4 | 22 => 52 | 23 => 26 | n => n, fun n => n⟩
theorem cloneU_lay : SlLaysE0.n41 Tryz.prog cloneU_ren := {
  mixed := by kernel_rfl
  f41 := ⟨Tryz.f26.name, by kernel_rfl, Tryz.func26.trans (congrArg some (by kernel_rfl))⟩
  t4 := Tryz.underlying4
  a4 := Tryz.isAgg4
  z4 := Tryz.sizeOf4
  v4 := Tryz.zeroValue4
  t22 := Tryz.underlying52
  a22 := Tryz.isAgg52
  z22 := Tryz.sizeOf52
  v22 := Tryz.zeroValue52 }
theorem sc_CloneU {bs : List Res} {x : SV} {c : List SV} {n : Nat} (hx : Sx 26 7 x bs c n) (hc : flat.flatL c = true) (h1 : c.all Vc.one = true) (hl : c.length = n * 7) (hn : n ≤ 1000000) :
    SC Tryz.V 26 [x] bs (fun r b => r = tidyR bs n ∧ b = tidyB 26 7 bs c n) := by
  rcases hx with ⟨rfl, rfl, rfl⟩ | ⟨j, m, rfl, h0, hj⟩
  · refine sc_quiet Tryz.call26 (by simp [flat, tidyR]) (fun β fp w hb => ?_)
    exact (AnyE.slices_Clone_nil cloneU_lay 0 0 w).mono fun e w' h => ⟨by rw [h.1]; simp [tidyR, conc], below_same h.2.symm⟩
  · have hn0 : n ≠ 0 := by omega
    unfold tidyR tidyB
    rw [if_neg hn0, if_neg hn0]
    refine sc_newrow Tryz.call26 h0 hl hc (fun β fp w hb _ => ?_)
    have hh := hb.holds j _ hj
    rcases hh with ⟨-, h, -, -⟩ | ⟨g1, g2, g3, g4, g5, -, -⟩
    · omega
    obtain ⟨i0, z, hi, hz, his, hib, hzc⟩ := Tryz.ty26.info
    have hcc := AnyE.slices_Clone cloneU_lay i0 z 7 80 hi hz his hib (by rw [hzc]; rfl) (by omega) Tryz.sizeOf26 (β j).blk (β j).off n ((β j).cap - 1) (c.map (conc β)) w (by simpa using hl) (by unfold maxLen; omega) (by omega) g5 (conc_cells_one h1)
    have e2 : (concL β [.o j n]).toArray = #[.slice (some ⟨(β j).blk, (β j).off, none⟩) n ((β j).cap - 1)] := by simp [concL, conc, oV, g1]
    rw [e2]
    exact hcc.mono fun e w' ⟨v', h1, h2, _, h4⟩ => ⟨v', h1, h2, h4⟩
def cloneE_ren : Go.Shelf.Ren := ⟨fun | 41 => 27 | n => n, fun | 4 => 4 | 22 => 38 | 23 => 62 | n => n, fun n => n⟩
theorem cloneE_lay : SlLaysE0.n41 Tryz.prog cloneE_ren := {
  mixed := by kernel_rfl
  f41 := ⟨Tryz.f27.name, by kernel_rfl, Tryz.func27.trans (congrArg some (by kernel_rfl))⟩
  t4 := Tryz.underlying4
  a4 := Tryz.isAgg4
  z4 := Tryz.sizeOf4
  v4 := Tryz.zeroValue4
  t22 := Tryz.underlying38
  a22 := Tryz.isAgg38
  z22 := Tryz.sizeOf38
  v22 := Tryz.zeroValue38 }
theorem sc_CloneE {bs : List Res} {x : SV} {c : List SV} {n : Nat} (hx : Sx 62 9 x bs c n) (hc : flat.flatL c = true) (h1 : c.all Vc.one = true) (hl : c.length = n * 9) (hn : n ≤ 1000000) :
    SC Tryz.V 27 [x] bs (fun r b => r = tidyR bs n ∧ b = tidyB 62 9 bs c n) := by
  rcases hx with ⟨rfl, rfl, rfl⟩ | ⟨j, m, rfl, h0, hj⟩
  · refine sc_quiet Tryz.call27 (by simp [flat, tidyR]) (fun β fp w hb => ?_)
    exact (AnyE.slices_Clone_nil cloneE_lay 0 0 w).mono fun e w' h => ⟨by rw [h.1]; simp [tidyR, conc], below_same h.2.symm⟩
  · have hn0 : n ≠ 0 := by omega
    unfold tidyR tidyB
    rw [if_neg hn0, if_neg hn0]
    refine sc_newrow Tryz.call27 h0 hl hc (fun β fp w hb _ => ?_)
    have hh := hb.holds j _ hj
    rcases hh with ⟨-, h, -, -⟩ | ⟨g1, g2, g3, g4, g5, -, -⟩
    · omega
    obtain ⟨i0, z, hi, hz, his, hib, hzc⟩ := Tryz.ty62.info
    have hcc := AnyE.slices_Clone cloneE_lay i0 z 9 96 hi hz his hib (by rw [hzc]; rfl) (by omega) Tryz.sizeOf62 (β j).blk (β j).off n ((β j).cap - 1) (c.map (conc β)) w (by simpa using hl) (by unfold maxLen; omega) (by omega) g5 (conc_cells_one h1)
    have e2 : (concL β [.o j n]).toArray = #[.slice (some ⟨(β j).blk, (β j).off, none⟩) n ((β j).cap - 1)] := by simp [concL, conc, oV, g1]
    rw [e2]
    exact hcc.mono fun e w' ⟨v', h1, h2, _, h4⟩ => ⟨v', h1, h2, h4⟩
def cloneF_ren : Go.Shelf.Ren := ⟨fun | 41 => 28 | n => n, fun | 4 => 4 | 22 => 32 | 23 => 31 | n => n, fun n => n⟩
theorem cloneF_lay : SlLaysE0.n41 Tryz.prog cloneF_ren := {
  mixed := by kernel_rfl
  f41 := ⟨Tryz.f28.name, by kernel_rfl, Tryz.func28.trans (congrArg some (by kernel_rfl))⟩
  t4 := Tryz.underlying4
  a4 := Tryz.isAgg4
  z4 := Tryz.sizeOf4
  v4 := Tryz.zeroValue4
  t22 := Tryz.underlying32
  a22 := Tryz.isAgg32
  z22 := Tryz.sizeOf32
  v22 := Tryz.zeroValue32 }
theorem sc_CloneF {bs : List Res} {x : SV} {c : List SV} {n : Nat} (hx : Sx 31 2 x bs c n) (hc : flat.flatL c = true) (h1 : c.all Vc.one = true) (hl : c.length = n * 2) (hn : n ≤ 1000000) :
    SC Tryz.V 28 [x] bs (fun r b => r = tidyR bs n ∧ b = tidyB 31 2 bs c n) := by
  rcases hx with ⟨rfl, rfl, rfl⟩ | ⟨j, m, rfl, h0, hj⟩
  · refine sc_quiet Tryz.call28 (by simp [flat, tidyR]) (fun β fp w hb => ?_)
    exact (AnyE.slices_Clone_nil cloneF_lay 0 0 w).mono fun e w' h => ⟨by rw [h.1]; simp [tidyR, conc], below_same h.2.symm⟩
  · have hn0 : n ≠ 0 := by omega
    unfold tidyR tidyB
    rw [if_neg hn0, if_neg hn0]
    refine sc_newrow Tryz.call28 h0 hl hc (fun β fp w hb _ => ?_)
    have hh := hb.holds j _ hj
    rcases hh with ⟨-, h, -, -⟩ | ⟨g1, g2, g3, g4, g5, -, -⟩
    · omega
    obtain ⟨i0, z, hi, hz, his, hib, hzc⟩ := Tryz.ty31.info
    have hcc := AnyE.slices_Clone cloneF_lay i0 z 2 32 hi hz his hib (by rw [hzc]; rfl) (by omega) Tryz.sizeOf31 (β j).blk (β j).off n ((β j).cap - 1) (c.map (conc β)) w (by simpa using hl) (by unfold maxLen; omega) (by omega) g5 (conc_cells_one h1)
    have e2 : (concL β [.o j n]).toArray = #[.slice (some ⟨(β j).blk, (β j).off, none⟩) n ((β j).cap - 1)] := by simp [concL, conc, oV, g1]
    rw [e2]
    exact hcc.mono fun e w' ⟨v', h1, h2, _, h4⟩ => ⟨v', h1, h2, h4⟩
end Go.Proofs.YtfmafmgbfamaiaaGreatDoor
/- The walk of head.Parse. -/
set_option linter.all false
set_option maxRecDepth 20000
namespace Go.Proofs.YtfmafmgbfamaiaaGreatDoor
open Go Vc Go.RowKit Wf
set_option linter.unusedSimpArgs false
theorem p_IsToken (c : UInt8) : PC Tryz.V 77 [.int .u8 c.toNat] (.bool (tokB c)) := by
  refine pc_of 3000 Tryz.func77 rfl Tryz.ntmps77 Tryz.results77 Tryz.call77 (by simp) (by simp [flat, flat.flatL]) (by simp [flat, flat.flatL]) ?_
  simp only [lawG, ↓Xn, ↓Xo, ↓Xg, ↓Xd, ↓Xe, ↓Xf, Tryz.VΓ, Tryz.Γs, Xp, Xi, Nat.reduceAdd, Nat.reduceSub, Nat.reduceLT, Nat.reduceLeDiff, reduceIte, reduceCtorEq, Nat.reduceEqDiff, implies_true, forall_const, lawV]
  (refine callV_pc (p_alnum c) ?_; simp only [lawG, ↓Xn, ↓Xo, ↓Xg, ↓Xd, ↓Xe, ↓Xf, Tryz.VΓ, Tryz.Γs, Xp, Xi, Nat.reduceAdd, Nat.reduceSub, Nat.reduceLT, Nat.reduceLeDiff, reduceIte, reduceCtorEq, Nat.reduceEqDiff, implies_true, forall_const, lawV])
  refine ⟨fun h => ?_, fun h => by unfold tokB; rw [h]; rfl⟩
  (refine callV_pc (p_among c [33, 35, 36, 37, 38, 39, 42, 43, 45, 46, 94, 95, 96, 124, 126]) ?_; simp only [lawG, ↓Xn, ↓Xo, ↓Xg, ↓Xd, ↓Xe, ↓Xf, Tryz.VΓ, Tryz.Γs, Xp, Xi, Nat.reduceAdd, Nat.reduceSub, Nat.reduceLT, Nat.reduceLeDiff, reduceIte, reduceCtorEq, Nat.reduceEqDiff, implies_true, forall_const, lawV])
  unfold tokB; rw [h]; rfl
theorem p_IndexS (l p : Bytes) (hl : l.length < 4294967281) : PC Tryz.V 46 [.str l, .str p] (.int .i64 (Lib.index l p)) :=
  ⟨Tryz.call46, by simp [flat, flat.flatL], by simp [flat, flat.flatL], fun w ⟨m, hm⟩ => (Tryz.strings_Index ⟨List.toArray l⟩ ⟨List.toArray p⟩ m w hl hm).mono fun _ _ ⟨h, k⟩ => ⟨h, below_same k.symm⟩⟩
theorem p_num_Strict (s : Bytes) (m : Nat) (hs : s.length ≤ 9223372036854775807) (hm : m ≤ 4611686018427387904) : PC Tryz.V 75 [.str s, .int .u64 m] (.tup [.int .u64 (numStrict m s).1, .int .i64 (numStrict m s).2]) :=
  ⟨Tryz.call75, by simp [flat, flat.flatL], by simp [flat, flat.flatL], fun w _ => (number_Strict s m w hs hm).mono fun _ _ ⟨h, k⟩ => ⟨h, below_same k⟩⟩
theorem print_int (c : UInt8) : (decide ((c.toNat : Int) < 32) = true ∧ ((c.toNat : Int) != 9) = true ∨ ((c.toNat : Int) == 127) = true) ↔ printB c = false := by
  have := all256 (p := fun c => decide ((decide ((c.toNat : Int) < 32) && ((c.toNat : Int) != 9) || ((c.toNat : Int) == 127)) = !printB c)) (by decide +kernel) c
  have := of_decide_eq_true this
  cases h1 : decide ((c.toNat : Int) < 32) <;> cases h2 : ((c.toNat : Int) != 9) <;> cases h3 : ((c.toNat : Int) == 127) <;> cases h4 : printB c <;> rw [h1, h2, h3, h4] at this <;> simp at this ⊢
theorem gD {s : Bytes} {q : Nat} (h : q < s.length) : s.getD q 0 = s[q] := by simp [List.getD, h]
theorem all_take {p : UInt8 → Bool} {s : Bytes} {q : Nat} (h : q < s.length) (h1 : (s.take q).all p = true) (h2 : p s[q] = true) : (s.take (q + 1)).all p = true := by
  rw [List.take_succ_eq_append_getElem h, List.all_append, h1]
  simp [h2]
theorem all_not {p : UInt8 → Bool} {s : Bytes} {q : Nat} (h : q < s.length) (h2 : p s[q] = false) : s.all p = false := by
  rw [List.all_eq_false]
  exact ⟨_, List.getElem_mem h, by rw [h2]; simp⟩
set_option maxHeartbeats 2000000 in
theorem p_head_value (s : Bytes) (hs : s.length ≤ 9223372036854775807) : PC Tryz.V 51 [.str s] (.bool (valueB s)) := by
  refine pc_of 3000 Tryz.func51 rfl Tryz.ntmps51 Tryz.results51 Tryz.call51 (by simp) (by simp [flat, flat.flatL]) (by simp [flat, flat.flatL]) ?_
  simp only [lawG, ↓Xn, ↓Xo, ↓Xg, ↓Xd, ↓Xe, ↓Xf, Tryz.VΓ, Tryz.Γs, Xp, Xi, Nat.reduceAdd, Nat.reduceSub, Nat.reduceLT, Nat.reduceLeDiff, reduceIte, reduceCtorEq, Nat.reduceEqDiff, implies_true, forall_const, lawV, beq_self_eq_true, bne_self_eq_false, Int.reduceBEq, Int.reduceBNe, Int.reduceLT, Int.reduceLE]
  refine loopV_mk (fun σ => ∃ q : Nat, q ≤ s.length ∧ lk 0 σ.t = some (.str s) ∧ lk 6 σ.t = some (.int .i64 s.length) ∧ lk 7 σ.t = some (.int .i64 q) ∧ (s.take q).all printB = true) (fun σ => s.length - lkI 7 σ) ⟨0, by omega, rfl, rfl, rfl, by simp⟩ ?_
  rintro ⟨t, b⟩ ⟨q, hq, h0, h6, h7, hok⟩
  simp only at h0 h6 h7
  rw [lkI_eq h7]
  by_cases hlt : q < s.length
  · have hlt2 : decide ((q : Int) < s.length) = true := decide_eq_true (by omega)
    have hg := gD hlt
    have hp := print_int s[q]
    have ht := fun h => all_take (p := printB) hlt hok h
    have hn := fun h => all_not (p := printB) hlt h
    generalize s[q] = c at hg hp ht hn
    have hend : printB c = true → ∃ q' : Nat, q' ≤ s.length ∧ (q : Int) + 1 = q' ∧ (s.take q').all printB = true := fun h => ⟨q + 1, by omega, rfl, ht h⟩
    cases d1 : decide ((c.toNat : Int) < 32) <;> cases d2 : ((c.toNat : Int) != 9) <;> cases d3 : ((c.toNat : Int) == 127)
    all_goals
      rw [d1, d2, d3] at hp
      simp only [Bool.false_eq_true, and_self, and_false, false_and, or_false, or_true, true_iff, false_iff, Bool.not_eq_false] at hp
      simp only [lawG, ↓Xn, ↓Xo, ↓Xg, ↓Xd, ↓Xe, ↓Xf, Tryz.VΓ, Tryz.Γs, Xp, Xi, Nat.reduceAdd, Nat.reduceSub, Nat.reduceLT, Nat.reduceLeDiff, reduceIte, reduceCtorEq, Nat.reduceEqDiff, implies_true, forall_const, lawV, h0, h6, h7, hlt2, hg, Int.toNat_natCast, d1, d2, d3, beq_self_eq_true, bne_self_eq_false, Int.reduceBEq, Int.reduceBNe, Int.reduceLT, Int.reduceLE]
    all_goals first
    | (refine ⟨⟨by omega, by omega⟩, ?_⟩; unfold valueB; rw [hn hp]; done)
    | (refine ⟨⟨by omega, by omega⟩, ⟨by omega, by omega⟩, ⟨q + 1, by omega, rfl, ht hp⟩, ?_⟩; rw [lkI_eq (k := .i64) (n := (q : Int) + 1) rfl]; omega)
  · have hie : q = s.length := by omega
    subst hie
    have hlt2 : decide ((s.length : Int) < s.length) = false := by simp
    rw [List.take_length] at hok
    simp only [lawG, ↓Xn, ↓Xo, ↓Xg, ↓Xd, ↓Xe, ↓Xf, Tryz.VΓ, Tryz.Γs, Xp, Xi, Nat.reduceAdd, Nat.reduceSub, Nat.reduceLT, Nat.reduceLeDiff, reduceIte, reduceCtorEq, Nat.reduceEqDiff, implies_true, forall_const, lawV, h0, h6, h7, hlt2]
    unfold valueB; rw [hok]
set_option maxHeartbeats 2000000 in
theorem p_head_name (s : Bytes) (hs : s.length ≤ 9223372036854775807) : PC Tryz.V 50 [.str s] (.bool (nameB s)) := by
  refine pc_of 3000 Tryz.func50 rfl Tryz.ntmps50 Tryz.results50 Tryz.call50 (by simp) (by simp [flat, flat.flatL]) (by simp [flat, flat.flatL]) ?_
  simp only [lawG, ↓Xn, ↓Xo, ↓Xg, ↓Xd, ↓Xe, ↓Xf, Tryz.VΓ, Tryz.Γs, Xp, Xi, Nat.reduceAdd, Nat.reduceSub, Nat.reduceLT, Nat.reduceLeDiff, reduceIte, reduceCtorEq, Nat.reduceEqDiff, implies_true, forall_const, lawV, beq_self_eq_true, bne_self_eq_false, Int.reduceBEq, Int.reduceBNe, Int.reduceLT, Int.reduceLE]
  refine loopV_mk (fun σ => ∃ q : Nat, q ≤ s.length ∧ lk 0 σ.t = some (.str s) ∧ lk 5 σ.t = some (.int .i64 s.length) ∧ lk 6 σ.t = some (.int .i64 q) ∧ (s.take q).all tokB = true) (fun σ => s.length - lkI 6 σ) ⟨0, by omega, rfl, rfl, rfl, by simp⟩ ?_
  rintro ⟨t, b⟩ ⟨q, hq, h0, h6, h7, hok⟩
  simp only at h0 h6 h7
  rw [lkI_eq h7]
  by_cases hlt : q < s.length
  · have hlt2 : decide ((q : Int) < s.length) = true := decide_eq_true (by omega)
    have hg := gD hlt
    have ht := fun h => all_take (p := tokB) hlt hok h
    have hn := fun h => all_not (p := tokB) hlt h
    generalize s[q] = c at hg ht hn
    have p1 := p_IsToken c
    simp only [lawG, ↓Xn, ↓Xo, ↓Xg, ↓Xd, ↓Xe, ↓Xf, Tryz.VΓ, Tryz.Γs, Xp, Xi, Nat.reduceAdd, Nat.reduceSub, Nat.reduceLT, Nat.reduceLeDiff, reduceIte, reduceCtorEq, Nat.reduceEqDiff, implies_true, forall_const, lawV, h0, h6, h7, hlt2, hg, Int.toNat_natCast, beq_self_eq_true, bne_self_eq_false, Int.reduceBEq, Int.reduceBNe, Int.reduceLT, Int.reduceLE]
    refine ⟨⟨by omega, by omega⟩, ?_⟩
    (refine callV_pc (p1) ?_; simp only [lawG, ↓Xn, ↓Xo, ↓Xg, ↓Xd, ↓Xe, ↓Xf, Tryz.VΓ, Tryz.Γs, Xp, Xi, Nat.reduceAdd, Nat.reduceSub, Nat.reduceLT, Nat.reduceLeDiff, reduceIte, reduceCtorEq, Nat.reduceEqDiff, implies_true, forall_const, lawV, h0, h6, h7, hlt2, hg, beq_self_eq_true, bne_self_eq_false, Int.reduceBEq, Int.reduceBNe, Int.reduceLT, Int.reduceLE])
    refine ⟨fun h => ?_, fun h => ⟨⟨by omega, by omega⟩, ⟨q + 1, by omega, rfl, ht (by simpa using h)⟩, ?_⟩⟩
    · unfold nameB; rw [hn (by simpa using h), Bool.and_false]
    · rw [lkI_eq (k := .i64) (n := (q : Int) + 1) rfl]; omega
  · have hie : q = s.length := by omega
    subst hie
    have hlt2 : decide ((s.length : Int) < s.length) = false := by simp
    rw [List.take_length] at hok
    simp only [lawG, ↓Xn, ↓Xo, ↓Xg, ↓Xd, ↓Xe, ↓Xf, Tryz.VΓ, Tryz.Γs, Xp, Xi, Nat.reduceAdd, Nat.reduceSub, Nat.reduceLT, Nat.reduceLeDiff, reduceIte, reduceCtorEq, Nat.reduceEqDiff, implies_true, forall_const, lawV, h0, h6, h7, hlt2]
    unfold nameB; rw [hok, Bool.and_true]
    cases s <;> rfl
set_option maxHeartbeats 2000000 in
theorem sc_lines_next {bs : List Res} {i : Nat} {r : Bytes} {mo : Bool} (hi : bs[i]? = some (.cells [.str r, .bool mo] 96 true)) (hr : r.length < 4294967281) :
    SC Tryz.V 48 [.p i 0] bs (fun x b => x = .str (Lib.cut r [13, 10]).1 ∧ b = bs.set i (.cells [.str (Lib.cut r [13, 10]).2.1, .bool (Lib.cut r [13, 10]).2.2] 96 true)) := by
  have hil : i < bs.length := (List.getElem?_eq_some_iff.1 hi).1
  have p1 := p_CutS r [13, 10] hr
  have s1 : ∀ X, (bs.set i X)[i]? = some X := fun X => by simp [hil]
  refine sc_of 3000 Tryz.func48 rfl Tryz.ntmps48 Tryz.results48 Tryz.call48 (by simp) (fun β β' hb => concL_within bs.length _ (by simp [within, within.withinL, hil]) β β' hb) ?_
  simp only [lawG, ↓Xn, ↓Xo, ↓Xg, ↓Xd, ↓Xe, ↓Xf, Tryz.VΓ, Tryz.Γs, Xp, Xi, Nat.reduceAdd, Nat.reduceSub, Nat.reduceLT, Nat.reduceLeDiff, reduceIte, reduceCtorEq, Nat.reduceEqDiff, implies_true, forall_const, lawV, hi, lawB]
  (refine callV_pc (p1) ?_; simp only [lawG, ↓Xn, ↓Xo, ↓Xg, ↓Xd, ↓Xe, ↓Xf, Tryz.VΓ, Tryz.Γs, Xp, Xi, Nat.reduceAdd, Nat.reduceSub, Nat.reduceLT, Nat.reduceLeDiff, reduceIte, reduceCtorEq, Nat.reduceEqDiff, implies_true, forall_const, lawV, hi, lawB, s1])
  rw [List.set_set]
def stSV (o : Option (Int × Int)) : SV := match o with
  | some (m, n) => .tup [.agg [.int .i64 m, .int .i64 n, .nils], .bool true]
  | none => .tup [.agg [.int .i64 0, .int .i64 0, .nils], .bool false]
theorem st_flat (o : Option (Int × Int)) : flat (stSV o) = true := by
  cases o with
  | none => simp [stSV, flat, flat.flatL]
  | some p => simp [stSV, flat, flat.flatL]
set_option maxHeartbeats 2000000 in
theorem p_head_status (s : Bytes) (hs : s.length ≤ 4000000) : PC Tryz.V 47 [.str s] (stSV (statusOf s)) := by
  have p1 := p_CutPrefix s httpS
  have ht : Lib.hasPrefix s httpS = true → Lib.trimPrefix s httpS = s.drop 7 := fun h => by unfold Lib.trimPrefix; rw [if_pos h]; rfl
  refine pc_of 3000 Tryz.func47 rfl Tryz.ntmps47 Tryz.results47 Tryz.call47 (by simp) (by simp [flat, flat.flatL]) (st_flat _) ?_
  unfold httpS at p1
  simp only [lawG, ↓Xn, ↓Xo, ↓Xg, ↓Xd, ↓Xe, ↓Xf, Tryz.VΓ, Tryz.Γs, Xp, Xi, Nat.reduceAdd, Nat.reduceSub, Nat.reduceLT, Nat.reduceLeDiff, reduceIte, reduceCtorEq, Nat.reduceEqDiff, implies_true, forall_const, lawV, beq_self_eq_true, bne_self_eq_false, Int.reduceBEq, Int.reduceBNe, Int.reduceLT, Int.reduceLE]
  have hq : statusOf s = (if Lib.hasPrefix s httpS = false ∨ (Lib.trimPrefix s httpS).length < 6 then none
    else if ((Lib.trimPrefix s httpS).getD 0 0 != 48 && (Lib.trimPrefix s httpS).getD 0 0 != 49) || (Lib.trimPrefix s httpS).getD 1 0 != 32 || (Lib.trimPrefix s httpS).getD 5 0 != 32 || !valueB ((Lib.trimPrefix s httpS).drop 6) then none
    else if (numStrict 599 (((Lib.trimPrefix s httpS).drop 2).take 3)).2 ≠ 0 ∨ (numStrict 599 (((Lib.trimPrefix s httpS).drop 2).take 3)).1 < 100 then none
    else some (((Lib.trimPrefix s httpS).getD 0 0).toNat - 48, (numStrict 599 (((Lib.trimPrefix s httpS).drop 2).take 3)).1) : Option (Int × Int)) := by
    unfold statusOf
    cases hp : Lib.hasPrefix s httpS with
    | false => rw [if_pos (Or.inl rfl), if_pos (Or.inl rfl)]
    | true => rw [ht hp]
  rw [hq]
  have htl := trim_len s httpS
  unfold httpS at htl ⊢
  generalize Lib.hasPrefix s [72, 84, 84, 80, 47, 49, 46] = c0 at p1 ⊢
  generalize Lib.trimPrefix s [72, 84, 84, 80, 47, 49, 46] = r at p1 htl ⊢
  have p2 := p_head_value (r.drop 6) (by simp; omega)
  have p3 : PC Tryz.V 75 [.str ((r.drop 2).take 3), .int .u64 599] _ := p_num_Strict ((r.drop 2).take 3) 599 (by simp; omega) (by omega)
  cases c0
  · (refine callV_pc (p1) ?_; simp only [lawG, ↓Xn, ↓Xo, ↓Xg, ↓Xd, ↓Xe, ↓Xf, Tryz.VΓ, Tryz.Γs, Xp, Xi, Nat.reduceAdd, Nat.reduceSub, Nat.reduceLT, Nat.reduceLeDiff, reduceIte, reduceCtorEq, Nat.reduceEqDiff, implies_true, forall_const, lawV, beq_self_eq_true, bne_self_eq_false, Int.reduceBEq, Int.reduceBNe, Int.reduceLT, Int.reduceLE])
    rfl
  by_cases h6 : r.length < 6
  · rw [if_pos (Or.inr h6)]
    have h6' : decide ((r.length : Int) < 6) = true := decide_eq_true (by omega)
    (refine callV_pc (p1) ?_; simp only [lawG, ↓Xn, ↓Xo, ↓Xg, ↓Xd, ↓Xe, ↓Xf, Tryz.VΓ, Tryz.Γs, Xp, Xi, Nat.reduceAdd, Nat.reduceSub, Nat.reduceLT, Nat.reduceLeDiff, reduceIte, reduceCtorEq, Nat.reduceEqDiff, implies_true, forall_const, lawV, h6', beq_self_eq_true, bne_self_eq_false, Int.reduceBEq, Int.reduceBNe, Int.reduceLT, Int.reduceLE])
    rfl
  have h6' : decide ((r.length : Int) < 6) = false := decide_eq_false (by omega)
  rw [if_neg (by simp [h6])]
  have e : ∀ (c : UInt8) (n : Int) (d : UInt8), n = d.toNat → ((c.toNat : Int) != n) = (c != d) := by
    rintro c n d rfl
    rw [Bool.eq_iff_iff]
    simp only [bne_iff_ne, ne_eq]
    exact not_congr ⟨fun h => UInt8.toNat_inj.1 (by exact_mod_cast h), fun h => by rw [h]⟩
  generalize hr0 : r.getD 0 0 = r0
  generalize hr1 : r.getD 1 0 = r1
  generalize hr5 : r.getD 5 0 = r5
  have i0 : Int.toNat 0 = 0 := rfl
  have i1 : Int.toNat 1 = 1 := rfl
  have i5 : Int.toNat 5 = 5 := rfl
  have i6 : Int.toNat 6 = 6 := rfl
  have e0 := e r0 48 48 rfl
  have e0' := e r0 49 49 rfl
  have e1 := e r1 32 32 rfl
  have e5 := e r5 32 32 rfl
  generalize valueB (r.drop 6) = vb at p2 ⊢
  have hns := numStrict_le 599 ((r.drop 2).take 3)
  generalize numStrict 599 ((r.drop 2).take 3) = ns at p3 hns ⊢
  cases d0 : (r0 != 48) <;> cases d0' : (r0 != 49) <;> cases d1 : (r1 != 32) <;> cases d5 : (r5 != 32)
  all_goals
    (refine callV_pc (p1) ?_; simp only [lawG, ↓Xn, ↓Xo, ↓Xg, ↓Xd, ↓Xe, ↓Xf, Tryz.VΓ, Tryz.Γs, Xp, Xi, Nat.reduceAdd, Nat.reduceSub, Nat.reduceLT, Nat.reduceLeDiff, reduceIte, reduceCtorEq, Nat.reduceEqDiff, implies_true, forall_const, lawV, h6', hr0, hr1, hr5, i0, i1, i5, i6, e0, e0', e1, e5, d0, d0', d1, d5, beq_self_eq_true, bne_self_eq_false, Int.reduceBEq, Int.reduceBNe, Int.reduceLT, Int.reduceLE])
  all_goals repeat refine ⟨by omega, ?_⟩
  all_goals try (simp only [Bool.or_true, Bool.true_or, Bool.and_true, if_true]; rfl)
  all_goals
    have hr : r0 = 48 ∨ r0 = 49 := by
      simp only [bne_eq_false_iff_eq, bne_iff_ne, ne_eq] at d0 d0'
      first | exact .inl d0 | exact .inr d0'
    have w : IntKind.u8.wrap ((r0.toNat : Int) - 48) = (r0.toNat : Int) - 48 := by rcases hr with h | h <;> rw [h] <;> rfl
    have i2 : Int.toNat 2 = 2 := rfl
    cases vb
    · (refine callV_pc (p2) ?_; simp only [lawG, ↓Xn, ↓Xo, ↓Xg, ↓Xd, ↓Xe, ↓Xf, Tryz.VΓ, Tryz.Γs, Xp, Xi, Nat.reduceAdd, Nat.reduceSub, Nat.reduceLT, Nat.reduceLeDiff, reduceIte, reduceCtorEq, Nat.reduceEqDiff, implies_true, forall_const, lawV, beq_self_eq_true, bne_self_eq_false, Int.reduceBEq, Int.reduceBNe, Int.reduceLT, Int.reduceLE])
      rfl
    · (refine callV_pc (p2) ?_; simp only [lawG, ↓Xn, ↓Xo, ↓Xg, ↓Xd, ↓Xe, ↓Xf, Tryz.VΓ, Tryz.Γs, Xp, Xi, Nat.reduceAdd, Nat.reduceSub, Nat.reduceLT, Nat.reduceLeDiff, reduceIte, reduceCtorEq, Nat.reduceEqDiff, implies_true, forall_const, lawV, beq_self_eq_true, bne_self_eq_false, Int.reduceBEq, Int.reduceBNe, Int.reduceLT, Int.reduceLE, i2, i5])
      refine ⟨by omega, ?_⟩
      rw [show (r.drop 2).take 3 = (r.take 5).drop 2 by rw [List.drop_take]] at p3
      have w2 : IntKind.i64.wrap ((r0.toNat : Int) - 48) = (r0.toNat : Int) - 48 := by rcases hr with h | h <;> rw [h] <;> rfl
      have w3 : IntKind.i64.wrap (ns.1 : Int) = ns.1 := by simp [IntKind.wrap, IntKind.bits, IntKind.signed]; omega
      (refine callV_pc (p3) ?_; simp only [lawG, ↓Xn, ↓Xo, ↓Xg, ↓Xd, ↓Xe, ↓Xf, Tryz.VΓ, Tryz.Γs, Xp, Xi, Nat.reduceAdd, Nat.reduceSub, Nat.reduceLT, Nat.reduceLeDiff, reduceIte, reduceCtorEq, Nat.reduceEqDiff, implies_true, forall_const, lawV, beq_self_eq_true, bne_self_eq_false, Int.reduceBEq, Int.reduceBNe, Int.reduceLT, Int.reduceLE, i0, hr0, w, h6', w2, w3])
      simp only [Bool.or_self, Bool.false_eq_true, if_false]
      refine ⟨fun g1 => ⟨fun g2 => ?_, fun g2 => ⟨by omega, ?_⟩⟩, fun g1 => ?_⟩
      · rw [if_pos (Or.inr (by have := of_decide_eq_true g2; omega))]; rfl
      · have g1 : ns.2 = 0 := by simpa using g1
        rw [if_neg (by have := of_decide_eq_false g2; rintro (h | h) <;> omega)]; rfl
      · rw [if_pos (Or.inl (by simpa using g1))]; rfl
end Go.Proofs.YtfmafmgbfamaiaaGreatDoor
/- Plain laws of fetching: how states grow, that it ends. -/
set_option linter.all false
namespace Wf
open Go Go.RowKit
structure FOpen (u : Url) (f : FetchS) : Prop where
  nd : f.done = false
  err : f.err = 0
  resp : f.resp = Resp.none
  hops : f.hops = f.trace.length
  le : f.trace.length ≤ 5
  seen : f.seen = f.trace.map (·.1) ++ [f.next]
  nodup : f.seen.Nodup
  valid : ∀ v ∈ f.seen, urlValid v = true
  red : ∀ t ∈ f.trace, redirSt t.2.1 = true
  head : f.seen.head? = some u.bare
structure FDone (u : Url) (f : FetchS) : Prop where
  done : f.done = true
  urls : f.trace.map (·.1) = f.seen
  pos : 0 < f.trace.length
  le : f.trace.length ≤ 6
  nodup : f.seen.Nodup
  valid : ∀ v ∈ f.seen, urlValid v = true
  red : ∀ i (h : i + 1 < f.trace.length), redirSt f.trace[i].2.1 = true
  head : f.seen.head? = some u.bare
  last : f.err = 0 → ∃ t, f.trace.getLast? = some t ∧ f.resp.url = t.1 ∧ f.resp.status = t.2.1
theorem reply_url (L : List Ans) (now : Int) (u : Url) (h : (replyOf L now u).2.2 = 0) : (replyOf L now u).1.url = u ∧ (replyOf L now u).1.status = (replyOf L now u).2.1 := by
  unfold replyOf at h ⊢
  split
  · rename_i h1; rw [if_pos h1] at h; exact absurd h h1
  · rename_i h1
    rw [if_neg h1] at h
    split
    · rename_i h2; rw [if_pos h2] at h; exact absurd h h2
    · split
      · exact ⟨rfl, rfl⟩
      · exact ⟨rfl, rfl⟩
theorem start_open {u : Url} (h : urlValid u = true) : FOpen u (fetchStart u) := by
  unfold fetchStart
  rw [if_neg (by rw [h]; simp)]
  exact ⟨rfl, rfl, rfl, rfl, by simp, rfl, by simp, fun v hv => by rw [List.mem_singleton.1 hv]; exact (valid_can h).bare.valid, fun t ht => (by cases ht), rfl⟩
theorem end_last {u : Url} {f : FetchS} (h : FOpen u f) (t : Int × Int) (e : Int) (r : Resp) (hr : e = 0 → r.url = f.next ∧ r.status = t.1) : FDone u ⟨f.next, f.hops, true, e, r, f.trace ++ [(f.next, t)], f.seen⟩ where
  done := rfl
  urls := by simp [h.seen]
  pos := by simp
  le := by have := h.le; simp; omega
  nodup := h.nodup
  valid := h.valid
  red := fun i hi => by
    simp only [List.length_append, List.length_cons, List.length_nil] at hi
    simp only
    rw [List.getElem_append_left (by omega)]
    exact h.red _ (List.getElem_mem _)
  head := h.head
  last := fun he => ⟨(f.next, t), by simp, hr he⟩
theorem step_open {u : Url} {f : FetchS} (L : List Ans) (now : Int) (h : FOpen u f) : (FOpen u (fetchStep L now f) ∧ (fetchStep L now f).trace.length = f.trace.length + 1) ∨ (FDone u (fetchStep L now f) ∧ (fetchStep L now f).trace.length = f.trace.length + 1) := by
  have hu := reply_url L now f.next
  unfold fetchStep
  rw [if_neg (by rw [h.nd]; simp)]
  generalize replyOf L now f.next = r at hu
  obtain ⟨r, st, e⟩ := r
  simp only at hu ⊢
  split
  · rename_i h1
    generalize hn : redirNext f.next r.fields f.seen f.hops = n
    obtain ⟨v, e2⟩ := n
    simp only
    split
    · rename_i h2
      subst h2
      obtain ⟨k1, k2, -, k4⟩ := redirNext_ok hn
      left
      refine ⟨⟨rfl, h.err, rfl, ?_, ?_, ?_, ?_, ?_, ?_, ?_⟩, by simp⟩
      · rw [h.hops]; simp
      · have := h.hops; simp; omega
      · simp [h.seen]
      · simp only [List.nodup_append, List.nodup_cons, List.not_mem_nil, not_false_eq_true, List.nodup_nil, and_self, and_true, true_and]
        exact ⟨h.nodup, fun a ha b hb => by rw [List.mem_singleton.1 hb]; rintro rfl; exact k4 ha⟩
      · intro w hw
        rcases List.mem_append.1 hw with hw | hw
        · exact h.valid w hw
        · rw [List.mem_singleton.1 hw]; exact k2
      · intro t ht
        rcases List.mem_append.1 ht with ht | ht
        · exact h.red t ht
        · rw [List.mem_singleton.1 ht]; exact h1.2
      · simp only
        rw [List.head?_append, h.head]; rfl
    · rename_i h2
      right
      exact ⟨end_last h (st, e) e2 Resp.none (fun q => absurd q h2), by simp⟩
  · split
    · rename_i h2
      right
      exact ⟨end_last h (st, e) e Resp.none (fun q => absurd q h2), by simp⟩
    · rename_i h2
      right
      have h2 := Decidable.not_not.1 h2
      exact ⟨end_last h (st, e) f.err r (fun _ => hu h2), by simp⟩
def fetchAfter (L : List Ans) (now : Int) (u : Url) : Nat → FetchS
  | 0 => fetchStart u
  | n + 1 => fetchStep L now (fetchAfter L now u n)
theorem after_done (L : List Ans) (now : Int) (u : Url) {n : Nat} (h : (fetchAfter L now u n).done = true) : ∀ m, n ≤ m → fetchAfter L now u m = fetchAfter L now u n := by
  intro m hm
  obtain ⟨d, rfl⟩ : ∃ d, m = n + d := ⟨m - n, by omega⟩
  clear hm
  induction d with
  | zero => rfl
  | succ d ih =>
    rw [← Nat.add_assoc, fetchAfter, ih]
    unfold fetchStep
    rw [if_pos h]
theorem after_open (L : List Ans) (now : Int) {u : Url} (hv : urlValid u = true) : ∀ n, (FOpen u (fetchAfter L now u n) ∧ (fetchAfter L now u n).trace.length = n) ∨ ∃ k, k ≤ n ∧ FDone u (fetchAfter L now u k) ∧ (fetchAfter L now u k).trace.length = k ∧ ∀ j < k, (fetchAfter L now u j).done = false
  | 0 => .inl ⟨start_open hv, by unfold fetchAfter fetchStart; rw [if_neg (by rw [hv]; simp)]; rfl⟩
  | n + 1 => by
    rcases after_open L now hv n with ⟨h, hl⟩ | ⟨k, hk, h⟩
    · rcases step_open L now h with ⟨h1, h2⟩ | ⟨h1, h2⟩
      · exact .inl ⟨h1, by rw [fetchAfter, h2, hl]⟩
      · refine .inr ⟨n + 1, Nat.le_refl _, h1, by rw [fetchAfter, h2, hl], fun j hj => ?_⟩
        by_cases hjn : j = n
        · subst hjn; exact h.nd
        · cases hd : (fetchAfter L now u j).done with
          | false => rfl
          | true =>
            have := after_done L now u hd n (by omega)
            rw [← this] at hd
            rw [h.nd] at hd
            cases hd
    · exact .inr ⟨k, by omega, h⟩
end Wf
/- Plain facts on heads that are read: how much they hold. -/
set_option linter.all false
namespace Wf
open Go Go.RowKit
theorem index_fit : ∀ (s p : Bytes), 0 ≤ Lib.index s p → Lib.index s p + p.length ≤ s.length
  | [], p, h => by
    unfold Lib.index at h ⊢
    cases p with
    | nil => simp
    | cons c p => simp at h
  | c :: s, p, h => by
    unfold Lib.index at h ⊢
    split
    · rename_i hp
      have := (List.isPrefixOf_iff_prefix.1 hp).length_le
      omega
    · rename_i hp
      rw [if_neg hp] at h
      split at h
      · omega
      · rename_i h1
        have h1 : ¬ Lib.index s p = -1 := by simpa using h1
        have ih := index_fit s p (by have := Lib.index_ge s p; omega)
        rw [if_neg (by simpa using h1), List.length_cons]
        omega
theorem cut_lt {r p : Bytes} (h : (Lib.cut r p).2.2 = true) : (Lib.cut r p).2.1.length + p.length ≤ r.length := by
  unfold Lib.cut at h ⊢
  split at h
  · rename_i h0
    rw [if_pos h0]
    have := index_fit r p h0
    simp only [List.length_drop]
    omega
  · cases h
theorem cut_no {r p : Bytes} (h : (Lib.cut r p).2.2 = false) : (Lib.cut r p).2.1 = [] := by
  unfold Lib.cut at h ⊢
  split at h
  · cases h
  · rename_i h0; rw [if_neg h0]
theorem cut_left (r p : Bytes) : (Lib.cut r p).1.length ≤ r.length := by
  unfold Lib.cut
  split
  · simp; omega
  · simp
theorem cut_sum (r p : Bytes) : (Lib.cut r p).1.length + (Lib.cut r p).2.1.length ≤ r.length := by
  unfold Lib.cut
  split
  · rename_i h0
    have := index_fit r p h0
    simp only [List.length_drop, List.length_take]
    omega
  · simp
def hsum : List (Bytes × Bytes) → Nat
  | [] => 0
  | f :: l => f.1.length + f.2.length + hsum l
theorem hsum_snoc (f : Bytes × Bytes) : ∀ l, hsum (l ++ [f]) = hsum l + (f.1.length + f.2.length)
  | [] => by simp [hsum]
  | g :: l => by rw [List.cons_append, hsum, hsum_snoc f l, hsum]; omega
theorem hsum_mem {l : List (Bytes × Bytes)} : ∀ f ∈ l, f.1.length + f.2.length ≤ hsum l := by
  induction l with
  | nil => intro f h; cases h
  | cons g l ih =>
    intro f h
    rw [hsum]
    rcases List.mem_cons.1 h with rfl | h
    · omega
    · have := ih f h; omega
theorem trimB_len (s : Bytes) : (trimB s).length ≤ s.length := by
  unfold trimB
  have h1 := (List.dropWhile_suffix blankB (l := s)).length_le
  have h2 := (List.dropWhile_suffix blankB (l := (s.dropWhile blankB).reverse)).length_le
  rw [List.length_reverse] at h2 ⊢
  omega
theorem cutC_sum (c : UInt8) (s : Bytes) : (cutC c s).1.length + (cutC c s).2.1.length ≤ s.length := by
  unfold cutC
  split
  · simp; omega
  · simp
theorem fieldOf_len {l : Bytes} {x : Bytes × Bytes} (h : fieldOf l = some x) : x.1.length + x.2.length ≤ l.length := by
  unfold fieldOf at h
  split at h
  · cases h
    have h1 := cutC_sum 58 l
    have h2 := trimB_len (cutC 58 l).2.1
    simp only [lower_length]
    omega
  · cases h
theorem headGo_off (n : Nat) (r : Bytes) (fs : List (Bytes × Bytes)) : headGo (n + 1) r false fs = (fs, 0) := by rw [headGo, if_pos rfl]
theorem headGo_many (n : Nat) (r : Bytes) {fs : List (Bytes × Bytes)} (h : 64 ≤ fs.length) : headGo (n + 1) r true fs = ([], 161) := by rw [headGo, if_neg (by simp), if_pos h]
theorem headGo_bad (n : Nat) {r : Bytes} {fs : List (Bytes × Bytes)} (h : ¬ 64 ≤ fs.length) (hf : fieldOf (Lib.cut r [13, 10]).1 = none) : headGo (n + 1) r true fs = ([], 180) := by rw [headGo, if_neg (by simp), if_neg h, hf]
theorem headGo_more (n : Nat) {r : Bytes} {fs : List (Bytes × Bytes)} (h : ¬ 64 ≤ fs.length) {x : Bytes × Bytes} (hf : fieldOf (Lib.cut r [13, 10]).1 = some x) : headGo (n + 1) r true fs = headGo n (Lib.cut r [13, 10]).2.1 (Lib.cut r [13, 10]).2.2 (fs ++ [x]) := by rw [headGo, if_neg (by simp), if_neg h, hf]
theorem headGo_le : ∀ (n : Nat) (r : Bytes) (m : Bool) (fs : List (Bytes × Bytes)), fs.length ≤ 64 → (headGo n r m fs).1.length ≤ 64 ∧ hsum (headGo n r m fs).1 ≤ hsum fs + r.length
  | 0, r, m, fs, h => by rw [headGo]; simp [hsum]
  | n + 1, r, false, fs, h => by rw [headGo_off]; exact ⟨h, by simp only; omega⟩
  | n + 1, r, true, fs, h => by
    by_cases h6 : 64 ≤ fs.length
    · rw [headGo_many n r h6]; simp [hsum]
    · cases hf : fieldOf (Lib.cut r [13, 10]).1 with
      | none => rw [headGo_bad n h6 hf]; simp [hsum]
      | some x =>
        rw [headGo_more n h6 hf]
        have ih := headGo_le n (Lib.cut r [13, 10]).2.1 (Lib.cut r [13, 10]).2.2 (fs ++ [x]) (by simp; omega)
        have h1 := fieldOf_len hf
        have h2 := cut_sum r [13, 10]
        rw [hsum_snoc] at ih
        exact ⟨ih.1, by omega⟩
theorem headParse_le (s : Bytes) : (headParse s).1.2.2.length ≤ 64 ∧ hsum (headParse s).1.2.2 ≤ 16384 ∧ 0 ≤ (headParse s).2.1 ∧ (headParse s).2.1 ≤ s.length := by
  unfold headParse
  split
  · simp [hsum]
  rename_i h0
  have hfit := index_fit (s.take 16384) [13, 10, 13, 10] (by omega)
  rw [List.length_take] at hfit
  simp only [List.length_cons, List.length_nil] at hfit
  generalize Lib.index (s.take 16384) [13, 10, 13, 10] = k at h0 hfit ⊢
  split
  · simp [hsum]
  rename_i m n hst
  split
  · have h1 := cut_sum (s.take k.toNat) [13, 10]
    have h2 := headGo_le (s.length + 1) (Lib.cut (s.take k.toNat) [13, 10]).2.1 (Lib.cut (s.take k.toNat) [13, 10]).2.2 [] (by simp)
    rw [List.length_take] at h1
    rw [hsum] at h2
    refine ⟨h2.1, ?_, ?_, ?_⟩
    · have := h2.2; simp only; omega
    · simp only; omega
    · simp only; omega
  · simp [hsum]
theorem lens_vals (fs : List (Bytes × Bytes)) (name : Bytes) : Lib.lens (hdrVals fs name) ≤ hsum fs := by
  unfold hdrVals
  induction fs with
  | nil => simp [Lib.lens, hsum]
  | cons f l ih =>
    rw [List.filter_cons, hsum]
    split
    · rw [List.map_cons]
      have : Lib.lens (f.2 :: (l.filter fun f => lower f.1 == lower name).map (·.2)) = f.2.length + Lib.lens ((l.filter fun f => lower f.1 == lower name).map (·.2)) := by simp [Lib.lens]
      omega
    · omega
theorem join_vals (fs : List (Bytes × Bytes)) (name : Bytes) : (Lib.join (hdrVals fs name) [44, 32]).length ≤ hsum fs + 2 * fs.length := by
  have h1 := lens_vals fs name
  have h2 := hdrVals_len fs name
  generalize hdrVals fs name = L at h1 h2
  cases L with
  | nil => simp [Lib.join_nil]
  | cons x r =>
    rw [Lib.join_length]
    simp only [List.length_cons, List.length_nil] at h2 ⊢
    omega
end Wf
/- The walk of head.Parse: the lines. -/
set_option linter.all false
set_option maxRecDepth 20000
namespace Go.Proofs.YtfmafmgbfamaiaaGreatDoor
open Go Vc Go.RowKit Wf
set_option linter.unusedSimpArgs false
def HpR (bs : List Res) (T : (Int × Int × List (Bytes × Bytes)) × Int × Int) (r : SV) (b : List Res) : Prop :=
  Kp bs b ∧ ∃ x, r = .tup [.agg [.int .i64 T.1.1, .int .i64 T.1.2.1, x], .int .i64 T.2.1, .int .i64 T.2.2] ∧ Sl1 31 2 bs.length x b (T.1.2.2.flatMap fc) T.1.2.2.length
theorem HpR.err {bs b : List Res} {T : (Int × Int × List (Bytes × Bytes)) × Int × Int} {e : Int} (hT : T = ((0, 0, []), 0, e)) (hk : Kp bs b) : HpR bs T (.tup [.agg [.int .i64 0, .int .i64 0, .nils], .int .i64 0, .int .i64 e]) b := by
  subst hT
  exact ⟨hk, .nils, rfl, .inl ⟨rfl, rfl, rfl⟩⟩
def boxed (σ : St) (i : Nat) : Nat := match σ.b[i]? with
  | some (.cells [.str r, .bool true] _ _) => r.length + 1
  | _ => 0
set_option maxHeartbeats 4000000 in
theorem sc_head_Parse {bs : List Res} (s : Bytes) (hs : s.length ≤ 4000000) : SC Tryz.V 30 [.str s] bs (HpR bs (headParse s)) := by
  have ht : s.take (if (16384 : Int) < (s.length : Int) then (16384 : Int) else s.length).toNat = s.take 16384 := by
    split
    · rfl
    · rw [List.take_of_length_le (by omega), List.take_of_length_le (by omega)]
  have p1 := p_IndexS (s.take 16384) [13, 10, 13, 10] (by simp; omega)
  have hn1 := Lib.index_ge (s.take 16384) [13, 10, 13, 10]
  have hn2 := index_fit (s.take 16384) [13, 10, 13, 10]
  rw [List.length_take] at hn2
  generalize hT : headParse s = T
  unfold headParse at hT
  generalize Lib.index (s.take 16384) [13, 10, 13, 10] = n at p1 hn1 hn2 hT
  simp only [List.length_cons, List.length_nil] at hn2
  have e1 : n < 0 → T = ((0, 0, []), 0, if 16384 < s.length then 142 else 191) := fun h => by rw [← hT, if_pos h]
  have e2 : ¬ n < 0 → T = _ := fun h => by rw [← hT, if_neg h]
  clear hT
  refine sc_of 3000 Tryz.func30 rfl Tryz.ntmps30 Tryz.results30 Tryz.call30 (by simp) (fun β β' hb => concL_within bs.length _ (by simp [within, within.withinL]) β β' hb) ?_
  simp only [lawG, ↓Xn, ↓Xo, ↓Xg, ↓Xd, ↓Xe, ↓Xf, Tryz.VΓ, Tryz.Γs, Xp, Xi, Nat.reduceAdd, Nat.reduceSub, Nat.reduceLT, Nat.reduceLeDiff, reduceIte, reduceCtorEq, Nat.reduceEqDiff, implies_true, forall_const, lawV, lawB, beq_self_eq_true, bne_self_eq_false, Int.reduceBEq, Int.reduceBNe, Int.reduceLT, Int.reduceLE]
  refine ⟨by split <;> omega, ?_⟩
  rw [ht]
  (refine callV_pc (p1) ?_; simp only [lawG, ↓Xn, ↓Xo, ↓Xg, ↓Xd, ↓Xe, ↓Xf, Tryz.VΓ, Tryz.Γs, Xp, Xi, Nat.reduceAdd, Nat.reduceSub, Nat.reduceLT, Nat.reduceLeDiff, reduceIte, reduceCtorEq, Nat.reduceEqDiff, implies_true, forall_const, lawV, lawB, beq_self_eq_true, bne_self_eq_false, Int.reduceBEq, Int.reduceBNe, Int.reduceLT, Int.reduceLE])
  have hk0 := (Kp.refl bs).app [.cells [.int .i64 0, .int .i64 0, .nils] 37 true]
  refine ⟨fun q1 => ?_, fun q1 => ?_⟩
  · have q1 := of_decide_eq_true q1
    have e1 := e1 q1
    refine ⟨fun q2 => HpR.err (by rw [e1, if_pos (by have := of_decide_eq_true q2; omega)]) hk0, fun q2 => ⟨fun _ => HpR.err (by rw [e1, if_neg (by have := of_decide_eq_false q2; omega)]) hk0, fun q3 => absurd q1 (of_decide_eq_false q3)⟩⟩
  have q1 := of_decide_eq_false q1
  have e2 := e2 q1
  clear e1
  have hn3 := hn2 (by omega)
  refine ⟨fun h => absurd (of_decide_eq_true h) q1, fun _ => ⟨⟨by omega, by omega⟩, ?_⟩⟩
  have hl0 : (s.take n.toNat).length ≤ s.length := by simp; omega
  have hcl := cut_left (s.take n.toNat) [13, 10]
  have hct := fun h => cut_lt (r := s.take n.toNat) (p := [13, 10]) h
  have hcno := fun h => cut_no (r := s.take n.toNat) (p := [13, 10]) h
  have p2 := p_head_status (Lib.cut (s.take n.toNat) [13, 10]).1 (by omega)
  refine callV_sc (sc_lines_next (at_new _ _) (by omega)) ?_
  rintro r b ⟨rfl, rfl⟩
  generalize Lib.cut (s.take n.toNat) [13, 10] = c at p2 e2 hcl hct hcno ⊢
  obtain ⟨line, rest, more⟩ := c
  simp only [List.length_cons, List.length_nil] at p2 e2 hcl hct hcno ⊢
  generalize statusOf line = st at p2 e2
  cases st with
  | none =>
    unfold stSV at p2
    simp only at e2 p2
    simp only [lawG, ↓Xn, ↓Xo, ↓Xg, ↓Xd, ↓Xe, ↓Xf, Tryz.VΓ, Tryz.Γs, Xp, Xi, Nat.reduceAdd, Nat.reduceSub, Nat.reduceLT, Nat.reduceLeDiff, reduceIte, reduceCtorEq, Nat.reduceEqDiff, implies_true, forall_const, lawV, lawB, beq_self_eq_true, bne_self_eq_false, Int.reduceBEq, Int.reduceBNe, Int.reduceLT, Int.reduceLE]
    (refine callV_pc (p2) ?_; simp only [lawG, ↓Xn, ↓Xo, ↓Xg, ↓Xd, ↓Xe, ↓Xf, Tryz.VΓ, Tryz.Γs, Xp, Xi, Nat.reduceAdd, Nat.reduceSub, Nat.reduceLT, Nat.reduceLeDiff, reduceIte, reduceCtorEq, Nat.reduceEqDiff, implies_true, forall_const, lawV, lawB, beq_self_eq_true, bne_self_eq_false, Int.reduceBEq, Int.reduceBNe, Int.reduceLT, Int.reduceLE])
    exact HpR.err e2 ((hk0.app _).app _)
  | some mk =>
    obtain ⟨m0, k0⟩ := mk
    unfold stSV at p2
    simp only at e2 p2
    simp only [lawG, ↓Xn, ↓Xo, ↓Xg, ↓Xd, ↓Xe, ↓Xf, Tryz.VΓ, Tryz.Γs, Xp, Xi, Nat.reduceAdd, Nat.reduceSub, Nat.reduceLT, Nat.reduceLeDiff, reduceIte, reduceCtorEq, Nat.reduceEqDiff, implies_true, forall_const, lawV, lawB, beq_self_eq_true, bne_self_eq_false, Int.reduceBEq, Int.reduceBNe, Int.reduceLT, Int.reduceLE]
    (refine callV_pc (p2) ?_; simp only [lawG, ↓Xn, ↓Xo, ↓Xg, ↓Xd, ↓Xe, ↓Xf, Tryz.VΓ, Tryz.Γs, Xp, Xi, Nat.reduceAdd, Nat.reduceSub, Nat.reduceLT, Nat.reduceLeDiff, reduceIte, reduceCtorEq, Nat.reduceEqDiff, implies_true, forall_const, lawV, lawB, beq_self_eq_true, bne_self_eq_false, Int.reduceBEq, Int.reduceBNe, Int.reduceLT, Int.reduceLE])
    have hrest : rest.length + (if more = true then 2 else 1) ≤ s.length + 1 := by
      cases more
      · have := hcno rfl
        subst this
        simp
      · have := hct rfl; simp; omega
    have hr4 : rest.length ≤ 4000000 := by
      cases more
      · rw [hcno rfl]; simp
      · have := hct rfl; omega
    generalize hG : headGo (s.length + 1) rest more [] = G at e2
    have hil : (bs ++ [Res.cells [.int .i64 0, .int .i64 0, .nils] 37 true]).length = bs.length + 1 := by simp
    have hih : (bs ++ [Res.cells [.int .i64 0, .int .i64 0, .nils] 37 true] ++ [Res.cells [.str rest, .bool more] 96 true]).length = bs.length + 2 := by simp
    have b0 : (bs ++ [Res.cells [.int .i64 0, .int .i64 0, .nils] 37 true] ++ [Res.cells [.str rest, .bool more] 96 true] ++ [Res.cells [.int .i64 m0, .int .i64 k0, .nils] 37 true])[bs.length]? = some (.cells [.int .i64 0, .int .i64 0, .nils] 37 true) := at_old (at_old (at_new _ _) _) _
    have b1 : (bs ++ [Res.cells [.int .i64 0, .int .i64 0, .nils] 37 true] ++ [Res.cells [.str rest, .bool more] 96 true] ++ [Res.cells [.int .i64 m0, .int .i64 k0, .nils] 37 true])[bs.length + 1]? = some (.cells [.str rest, .bool more] 96 true) := by
      rw [← hil]; exact at_old (at_new _ _) _
    have b2 : (bs ++ [Res.cells [.int .i64 0, .int .i64 0, .nils] 37 true] ++ [Res.cells [.str rest, .bool more] 96 true] ++ [Res.cells [.int .i64 m0, .int .i64 k0, .nils] 37 true])[bs.length + 2]? = some (.cells [.int .i64 m0, .int .i64 k0, .nils] 37 true) := by
      rw [← hih]; exact at_new _ _
    rw [hil, hih]
    refine loopV_mk (fun σ => ∃ (rest : Bytes) (more : Bool) (fs : List (Bytes × Bytes)) (x : SV) (F : Nat),
      lk 2 σ.t = some (.p bs.length 0) ∧ lk 5 σ.t = some (.int .i64 n) ∧ lk 6 σ.t = some (.p (bs.length + 1) 0) ∧ lk 7 σ.t = some (.p (bs.length + 2) 0) ∧
      σ.b[bs.length]? = some (.cells [.int .i64 0, .int .i64 0, .nils] 37 true) ∧ σ.b[bs.length + 1]? = some (.cells [.str rest, .bool more] 96 true) ∧ σ.b[bs.length + 2]? = some (.cells [.int .i64 m0, .int .i64 k0, x] 37 true) ∧
      Kp bs σ.b ∧ Sl1 31 2 bs.length x σ.b (fs.flatMap fc) fs.length ∧ fs.length ≤ 64 ∧ rest.length ≤ 4000000 ∧ rest.length + (if more = true then 2 else 1) ≤ F ∧ headGo F rest more fs = G) (fun σ => boxed σ (bs.length + 1))
      ⟨rest, more, [], .nils, s.length + 1, rfl, rfl, rfl, rfl, b0, b1, b2, (hk0.app _).app _, .inl ⟨rfl, rfl, rfl⟩, by simp, hr4, hrest, hG⟩ ?_
    clear b0 b1 b2 hil hih hrest hr4 hG hcl hct hcno p1 p2
    rintro ⟨t, b⟩ ⟨rest, more, fs, x, F, g2, g5, g6, g7, b0, b1, b2, hkp, hsl, h64, hr4, hF, hG⟩
    simp only at g2 g5 g6 g7 b0 b1 b2 hkp hsl
    have hbl : bs.length + 2 < b.length := (List.getElem?_eq_some_iff.1 b2).1
    cases more
    · obtain ⟨F, rfl⟩ : ∃ f, F = f + 1 := ⟨F - 1, by simp at hF; omega⟩
      rw [headGo_off] at hG
      rw [← hG] at e2
      simp only [if_true] at e2
      have s0 : ∀ X, (b.set bs.length X)[bs.length]? = some X := fun X => List.getElem?_set_self (by omega)
      have ho : Vc.one x = true := by rcases hsl with ⟨rfl, -⟩ | ⟨j, rfl, -⟩ <;> rfl
      simp only [lawG, ↓Xn, ↓Xo, ↓Xg, ↓Xd, ↓Xe, ↓Xf, Tryz.VΓ, Tryz.Γs, Xp, Xi, Nat.reduceAdd, Nat.reduceSub, Nat.reduceLT, Nat.reduceLeDiff, reduceIte, reduceCtorEq, Nat.reduceEqDiff, implies_true, forall_const, lawV, lawB, beq_self_eq_true, bne_self_eq_false, Int.reduceBEq, Int.reduceBNe, Int.reduceLT, Int.reduceLE, g2, g5, g6, g7, b0, b1, b2, s0]
      refine ⟨⟨by omega, by omega⟩, ho, hkp.set (Nat.le_refl _) _, x, by rw [e2], ?_⟩
      rw [e2]
      rcases hsl with h | ⟨j, rfl, hl, hLj, hj⟩
      · exact .inl h
      · exact .inr ⟨j, rfl, hl, hLj, by rw [List.getElem?_set_ne (by rintro rfl; rw [b0] at hj; cases hj)]; exact hj⟩
    · obtain ⟨F, rfl⟩ : ∃ f, F = f + 1 := ⟨F - 1, by simp at hF; omega⟩
      simp only [if_true] at hF
      have hsum := cut_sum rest [13, 10]
      have hclt := fun h => cut_lt (r := rest) (p := [13, 10]) h
      have hcn := fun h => cut_no (r := rest) (p := [13, 10]) h
      have nx := sc_lines_next b1 (by omega)
      have hmany := fun h => headGo_many F rest (fs := fs) h
      have hbad := fun h => headGo_bad F (r := rest) (fs := fs) h
      have hmore := fun h x => headGo_more F (r := rest) (fs := fs) h (x := x)
      rw [hG] at hmany hbad hmore
      generalize Lib.cut rest [13, 10] = c at nx hsum hclt hcn hbad hmore
      obtain ⟨line, rest', more'⟩ := c
      simp only [List.length_cons, List.length_nil] at nx hsum hclt hcn hbad hmore
      have d1 := p_Cut line 58 (by omega)
      have hfo : fieldOf line = if (cutC 58 line).2.2 && nameB (cutC 58 line).1 && valueB (cutC 58 line).2.1 then some (lower (cutC 58 line).1, trimB (cutC 58 line).2.1) else none := rfl
      have hql := cutC_sum 58 line
      generalize cutC 58 line = q at d1 hfo hql
      obtain ⟨key, v, ok⟩ := q
      simp only at d1 hfo hql
      rw [hfo] at hbad hmore
      have d2 := p_head_name key (by omega)
      have d3 := p_head_value v (by omega)
      have d4 := p_Lower key (by omega)
      have d5 := p_TrimB v (by omega)
      have s0 : ∀ X, (b.set bs.length X)[bs.length]? = some X := fun X => List.getElem?_set_self (by omega)
      have hF' : rest'.length + (if more' = true then 2 else 1) ≤ F := by
        cases more'
        · rw [hcn rfl]; simp; omega
        · have := hclt rfl; simp; omega
      have hms : boxed ⟨t, b⟩ (bs.length + 1) = rest.length + 1 := by unfold boxed; simp only [b1]
      rw [hms]
      have hme : ∀ σ : St, σ.b[bs.length + 1]? = some (.cells [.str rest', .bool more'] 96 true) → boxed σ (bs.length + 1) < rest.length + 1 := by
        rintro ⟨t', b'⟩ h
        unfold boxed
        simp only at h ⊢
        rw [h]
        cases more'
        · simp
        · have := hclt rfl; simp; omega
      generalize hbb : b.set (bs.length + 1) (.cells [.str rest', .bool more'] 96 true) = bb at nx
      have c0 : bb[bs.length]? = some (.cells [.int .i64 0, .int .i64 0, .nils] 37 true) := by rw [← hbb, List.getElem?_set_ne (by omega)]; exact b0
      have c1 : bb[bs.length + 1]? = some (.cells [.str rest', .bool more'] 96 true) := by rw [← hbb, List.getElem?_set_self (by omega)]
      have c2 : bb[bs.length + 2]? = some (.cells [.int .i64 m0, .int .i64 k0, x] 37 true) := by rw [← hbb, List.getElem?_set_ne (by omega)]; exact b2
      have cl : bb.length = b.length := by rw [← hbb]; simp
      have ckp : Kp bs bb := by rw [← hbb]; exact hkp.set (by omega) _
      have t0 : ∀ X, (bb.set bs.length X)[bs.length]? = some X := fun X => List.getElem?_set_self (by omega)
      rcases hsl with ⟨rfl, hc, hl⟩ | ⟨j, rfl, hl, hLj, hj⟩
      · obtain rfl : fs = [] := List.length_eq_zero_iff.1 hl
        have hbad := hbad (by simp)
        have hmore := hmore (by simp)
        simp only [lawG, ↓Xn, ↓Xo, ↓Xg, ↓Xd, ↓Xe, ↓Xf, Tryz.VΓ, Tryz.Γs, Xp, Xi, Nat.reduceAdd, Nat.reduceSub, Nat.reduceLT, Nat.reduceLeDiff, reduceIte, reduceCtorEq, Nat.reduceEqDiff, implies_true, forall_const, lawV, lawB, beq_self_eq_true, bne_self_eq_false, Int.reduceBEq, Int.reduceBNe, Int.reduceLT, Int.reduceLE, g2, g5, g6, g7, b0, b1, b2]
        refine callV_sc nx ?_
        rintro r b' ⟨rfl, rfl⟩
        have u0 := fun X => at_old c0 [X]
        have u1 := fun X => at_old c1 [X]
        have u2 := fun X => at_old c2 [X]
        simp only [lawG, ↓Xn, ↓Xo, ↓Xg, ↓Xd, ↓Xe, ↓Xf, Tryz.VΓ, Tryz.Γs, Xp, Xi, Nat.reduceAdd, Nat.reduceSub, Nat.reduceLT, Nat.reduceLeDiff, reduceIte, reduceCtorEq, Nat.reduceEqDiff, implies_true, forall_const, lawV, lawB, beq_self_eq_true, bne_self_eq_false, Int.reduceBEq, Int.reduceBNe, Int.reduceLT, Int.reduceLE, g2, g5, g6, g7, c0, c1, c2]
        have zz : G = ([], 180) → HpR bs T (.tup [.agg [.int .i64 0, .int .i64 0, .nils], .int .i64 0, .int .i64 180]) (b'.set bs.length (.cells [.int .i64 0, .int .i64 0, .nils] 37 true)) := fun h => HpR.err (by rw [e2, h]; rfl) (ckp.set (Nat.le_refl _) _)
        cases ok
        · (refine callV_pc (d1) ?_; simp only [lawG, ↓Xn, ↓Xo, ↓Xg, ↓Xd, ↓Xe, ↓Xf, Tryz.VΓ, Tryz.Γs, Xp, Xi, Nat.reduceAdd, Nat.reduceSub, Nat.reduceLT, Nat.reduceLeDiff, reduceIte, reduceCtorEq, Nat.reduceEqDiff, implies_true, forall_const, lawV, lawB, beq_self_eq_true, bne_self_eq_false, Int.reduceBEq, Int.reduceBNe, Int.reduceLT, Int.reduceLE, g2, g5, g6, g7, c0, c1, c2, t0, Bool.not_true, Bool.not_false])
          exact zz (hbad rfl)
        · generalize hn : nameB key = nb at d2 hbad hmore
          cases nb
          · (refine callV_pc (d1) ?_; simp only [lawG, ↓Xn, ↓Xo, ↓Xg, ↓Xd, ↓Xe, ↓Xf, Tryz.VΓ, Tryz.Γs, Xp, Xi, Nat.reduceAdd, Nat.reduceSub, Nat.reduceLT, Nat.reduceLeDiff, reduceIte, reduceCtorEq, Nat.reduceEqDiff, implies_true, forall_const, lawV, lawB, beq_self_eq_true, bne_self_eq_false, Int.reduceBEq, Int.reduceBNe, Int.reduceLT, Int.reduceLE, g2, g5, g6, g7, c0, c1, c2, t0, Bool.not_true, Bool.not_false])
            (refine callV_pc (d2) ?_; simp only [lawG, ↓Xn, ↓Xo, ↓Xg, ↓Xd, ↓Xe, ↓Xf, Tryz.VΓ, Tryz.Γs, Xp, Xi, Nat.reduceAdd, Nat.reduceSub, Nat.reduceLT, Nat.reduceLeDiff, reduceIte, reduceCtorEq, Nat.reduceEqDiff, implies_true, forall_const, lawV, lawB, beq_self_eq_true, bne_self_eq_false, Int.reduceBEq, Int.reduceBNe, Int.reduceLT, Int.reduceLE, g2, g5, g6, g7, c0, c1, c2, t0, Bool.not_true, Bool.not_false])
            exact zz (hbad rfl)
          · generalize hv : valueB v = vb at d3 hbad hmore
            cases vb
            · (refine callV_pc (d1) ?_; simp only [lawG, ↓Xn, ↓Xo, ↓Xg, ↓Xd, ↓Xe, ↓Xf, Tryz.VΓ, Tryz.Γs, Xp, Xi, Nat.reduceAdd, Nat.reduceSub, Nat.reduceLT, Nat.reduceLeDiff, reduceIte, reduceCtorEq, Nat.reduceEqDiff, implies_true, forall_const, lawV, lawB, beq_self_eq_true, bne_self_eq_false, Int.reduceBEq, Int.reduceBNe, Int.reduceLT, Int.reduceLE, g2, g5, g6, g7, c0, c1, c2, t0, Bool.not_true, Bool.not_false])
              (refine callV_pc (d2) ?_; simp only [lawG, ↓Xn, ↓Xo, ↓Xg, ↓Xd, ↓Xe, ↓Xf, Tryz.VΓ, Tryz.Γs, Xp, Xi, Nat.reduceAdd, Nat.reduceSub, Nat.reduceLT, Nat.reduceLeDiff, reduceIte, reduceCtorEq, Nat.reduceEqDiff, implies_true, forall_const, lawV, lawB, beq_self_eq_true, bne_self_eq_false, Int.reduceBEq, Int.reduceBNe, Int.reduceLT, Int.reduceLE, g2, g5, g6, g7, c0, c1, c2, t0, Bool.not_true, Bool.not_false])
              (refine callV_pc (d3) ?_; simp only [lawG, ↓Xn, ↓Xo, ↓Xg, ↓Xd, ↓Xe, ↓Xf, Tryz.VΓ, Tryz.Γs, Xp, Xi, Nat.reduceAdd, Nat.reduceSub, Nat.reduceLT, Nat.reduceLeDiff, reduceIte, reduceCtorEq, Nat.reduceEqDiff, implies_true, forall_const, lawV, lawB, beq_self_eq_true, bne_self_eq_false, Int.reduceBEq, Int.reduceBNe, Int.reduceLT, Int.reduceLE, g2, g5, g6, g7, c0, c1, c2, t0, Bool.not_true, Bool.not_false])
              exact zz (hbad rfl)
            · have hmore := hmore _ rfl
              (refine callV_pc (d1) ?_; simp only [lawG, ↓Xn, ↓Xo, ↓Xg, ↓Xd, ↓Xe, ↓Xf, Tryz.VΓ, Tryz.Γs, Xp, Xi, Nat.reduceAdd, Nat.reduceSub, Nat.reduceLT, Nat.reduceLeDiff, reduceIte, reduceCtorEq, Nat.reduceEqDiff, implies_true, forall_const, lawV, lawB, beq_self_eq_true, bne_self_eq_false, Int.reduceBEq, Int.reduceBNe, Int.reduceLT, Int.reduceLE, g2, g5, g6, g7, c0, c1, c2, t0, Bool.not_true, Bool.not_false])
              (refine callV_pc (d2) ?_; simp only [lawG, ↓Xn, ↓Xo, ↓Xg, ↓Xd, ↓Xe, ↓Xf, Tryz.VΓ, Tryz.Γs, Xp, Xi, Nat.reduceAdd, Nat.reduceSub, Nat.reduceLT, Nat.reduceLeDiff, reduceIte, reduceCtorEq, Nat.reduceEqDiff, implies_true, forall_const, lawV, lawB, beq_self_eq_true, bne_self_eq_false, Int.reduceBEq, Int.reduceBNe, Int.reduceLT, Int.reduceLE, g2, g5, g6, g7, c0, c1, c2, t0, Bool.not_true, Bool.not_false])
              (refine callV_pc (d3) ?_; simp only [lawG, ↓Xn, ↓Xo, ↓Xg, ↓Xd, ↓Xe, ↓Xf, Tryz.VΓ, Tryz.Γs, Xp, Xi, Nat.reduceAdd, Nat.reduceSub, Nat.reduceLT, Nat.reduceLeDiff, reduceIte, reduceCtorEq, Nat.reduceEqDiff, implies_true, forall_const, lawV, lawB, beq_self_eq_true, bne_self_eq_false, Int.reduceBEq, Int.reduceBNe, Int.reduceLT, Int.reduceLE, g2, g5, g6, g7, c0, c1, c2, t0, Bool.not_true, Bool.not_false])
              (refine callD_pc (d4) ?_; simp only [lawG, ↓Xn, ↓Xo, ↓Xg, ↓Xd, ↓Xe, ↓Xf, Tryz.VΓ, Tryz.Γs, Xp, Xi, Nat.reduceAdd, Nat.reduceSub, Nat.reduceLT, Nat.reduceLeDiff, reduceIte, reduceCtorEq, Nat.reduceEqDiff, implies_true, forall_const, lawV, lawB, beq_self_eq_true, bne_self_eq_false, Int.reduceBEq, Int.reduceBNe, Int.reduceLT, Int.reduceLE, g2, g5, g6, g7, c0, c1, c2, t0, u0, u1, u2])
              have v0 : ∀ X Y Z, ((b' ++ [X] ++ [Y]).set (bs.length + 2) Z)[bs.length]? = some (.cells [.int .i64 0, .int .i64 0, .nils] 37 true) := fun X Y Z => by rw [List.getElem?_set_ne (by omega)]; exact at_old (at_old c0 _) _
              have v1 : ∀ X Y Z, ((b' ++ [X] ++ [Y]).set (bs.length + 2) Z)[bs.length + 1]? = some (.cells [.str rest', .bool more'] 96 true) := fun X Y Z => by rw [List.getElem?_set_ne (by omega)]; exact at_old (at_old c1 _) _
              have v2 : ∀ X Y, (b' ++ [X] ++ [Y])[bs.length + 2]? = some (.cells [.int .i64 m0, .int .i64 k0, .nils] 37 true) := fun X Y => at_old (at_old c2 _) _
              have v3 : ∀ X Y Z, ((b' ++ [X] ++ [Y]).set (bs.length + 2) Z)[bs.length + 2]? = some Z := fun X Y Z => List.getElem?_set_self (by simp; omega)
              have z1 : (b'.length = bs.length + 2) = False := by simp; omega
              have z2 : ∀ X, ((b' ++ [X]).length = bs.length + 2) = False := fun X => by simp; omega
              (refine callD_pc (d5) ?_; simp only [lawG, ↓Xn, ↓Xo, ↓Xg, ↓Xd, ↓Xe, ↓Xf, Tryz.VΓ, Tryz.Γs, Xp, Xi, Nat.reduceAdd, Nat.reduceSub, Nat.reduceLT, Nat.reduceLeDiff, reduceIte, reduceCtorEq, Nat.reduceEqDiff, implies_true, forall_const, lawV, lawB, beq_self_eq_true, bne_self_eq_false, Int.reduceBEq, Int.reduceBNe, Int.reduceLT, Int.reduceLE, g2, g5, g6, g7, c0, c1, c2, t0, u0, u1, u2, v2])
              refine ⟨by omega, ⟨by unfold maxLen; omega, by omega⟩, (by
                refine OkD_ren (fun n => if n = bs.length + 2 then 0 else 1) ?_
                simp only [List.map_cons, List.map_nil, renRk, renT, reduceIte, z1, z2]
                exact OkD_fast (by kernel_rfl)), ?_⟩
              refine ⟨⟨rest', more', [(lower key, trimB v)], _, F, v0 _ _ _, v1 _ _ _, v3 _ _ _, ((ckp.app _).app _).set (by omega) _, ?_, by simp, by omega, hF', hmore.symm⟩, hme _ (v1 _ _ _)⟩
              exact .inr ⟨_, rfl, by simp, by simp; omega, by rw [List.getElem?_set_ne (by simp; omega), at_new]; rfl⟩
      · have hjn : j ≠ bs.length + 1 := by rintro rfl; rw [b1] at hj; cases hj
        have cj : bb[j]? = some (.own (fs.flatMap fc) 31 2 fs.length true) := by rw [← hbb, List.getElem?_set_ne (by omega)]; exact hj
        simp only [lawG, ↓Xn, ↓Xo, ↓Xg, ↓Xd, ↓Xe, ↓Xf, Tryz.VΓ, Tryz.Γs, Xp, Xi, Nat.reduceAdd, Nat.reduceSub, Nat.reduceLT, Nat.reduceLeDiff, reduceIte, reduceCtorEq, Nat.reduceEqDiff, implies_true, forall_const, lawV, lawB, beq_self_eq_true, bne_self_eq_false, Int.reduceBEq, Int.reduceBNe, Int.reduceLT, Int.reduceLE, g2, g5, g6, g7, b0, b1, b2, hj, s0]
        refine ⟨fun h => HpR.err (by rw [e2, hmany (by have := of_decide_eq_true h; omega)]; rfl) (hkp.set (Nat.le_refl _) _), fun h => ?_⟩
        have h65 : ¬ 64 ≤ fs.length := by have := of_decide_eq_false h; omega
        have hbad := hbad h65
        have hmore := hmore h65
        have hone := fc_one fs
        refine callV_sc nx ?_
        rintro r b' ⟨rfl, rfl⟩
        have u0 := fun X => at_old c0 [X]
        have u1 := fun X => at_old c1 [X]
        have u2 := fun X => at_old c2 [X]
        have uj := fun X => at_old cj [X]
        simp only [lawG, ↓Xn, ↓Xo, ↓Xg, ↓Xd, ↓Xe, ↓Xf, Tryz.VΓ, Tryz.Γs, Xp, Xi, Nat.reduceAdd, Nat.reduceSub, Nat.reduceLT, Nat.reduceLeDiff, reduceIte, reduceCtorEq, Nat.reduceEqDiff, implies_true, forall_const, lawV, lawB, beq_self_eq_true, bne_self_eq_false, Int.reduceBEq, Int.reduceBNe, Int.reduceLT, Int.reduceLE, g2, g5, g6, g7, c0, c1, c2, cj]
        have zz : G = ([], 180) → HpR bs T (.tup [.agg [.int .i64 0, .int .i64 0, .nils], .int .i64 0, .int .i64 180]) (b'.set bs.length (.cells [.int .i64 0, .int .i64 0, .nils] 37 true)) := fun h => HpR.err (by rw [e2, h]; rfl) (ckp.set (Nat.le_refl _) _)
        cases ok
        · (refine callV_pc (d1) ?_; simp only [lawG, ↓Xn, ↓Xo, ↓Xg, ↓Xd, ↓Xe, ↓Xf, Tryz.VΓ, Tryz.Γs, Xp, Xi, Nat.reduceAdd, Nat.reduceSub, Nat.reduceLT, Nat.reduceLeDiff, reduceIte, reduceCtorEq, Nat.reduceEqDiff, implies_true, forall_const, lawV, lawB, beq_self_eq_true, bne_self_eq_false, Int.reduceBEq, Int.reduceBNe, Int.reduceLT, Int.reduceLE, g2, g5, g6, g7, c0, c1, c2, t0, Bool.not_true, Bool.not_false])
          exact zz (hbad rfl)
        · generalize hn : nameB key = nb at d2 hbad hmore
          cases nb
          · (refine callV_pc (d1) ?_; simp only [lawG, ↓Xn, ↓Xo, ↓Xg, ↓Xd, ↓Xe, ↓Xf, Tryz.VΓ, Tryz.Γs, Xp, Xi, Nat.reduceAdd, Nat.reduceSub, Nat.reduceLT, Nat.reduceLeDiff, reduceIte, reduceCtorEq, Nat.reduceEqDiff, implies_true, forall_const, lawV, lawB, beq_self_eq_true, bne_self_eq_false, Int.reduceBEq, Int.reduceBNe, Int.reduceLT, Int.reduceLE, g2, g5, g6, g7, c0, c1, c2, t0, Bool.not_true, Bool.not_false])
            (refine callV_pc (d2) ?_; simp only [lawG, ↓Xn, ↓Xo, ↓Xg, ↓Xd, ↓Xe, ↓Xf, Tryz.VΓ, Tryz.Γs, Xp, Xi, Nat.reduceAdd, Nat.reduceSub, Nat.reduceLT, Nat.reduceLeDiff, reduceIte, reduceCtorEq, Nat.reduceEqDiff, implies_true, forall_const, lawV, lawB, beq_self_eq_true, bne_self_eq_false, Int.reduceBEq, Int.reduceBNe, Int.reduceLT, Int.reduceLE, g2, g5, g6, g7, c0, c1, c2, t0, Bool.not_true, Bool.not_false])
            exact zz (hbad rfl)
          · generalize hv : valueB v = vb at d3 hbad hmore
            cases vb
            · (refine callV_pc (d1) ?_; simp only [lawG, ↓Xn, ↓Xo, ↓Xg, ↓Xd, ↓Xe, ↓Xf, Tryz.VΓ, Tryz.Γs, Xp, Xi, Nat.reduceAdd, Nat.reduceSub, Nat.reduceLT, Nat.reduceLeDiff, reduceIte, reduceCtorEq, Nat.reduceEqDiff, implies_true, forall_const, lawV, lawB, beq_self_eq_true, bne_self_eq_false, Int.reduceBEq, Int.reduceBNe, Int.reduceLT, Int.reduceLE, g2, g5, g6, g7, c0, c1, c2, t0, Bool.not_true, Bool.not_false])
              (refine callV_pc (d2) ?_; simp only [lawG, ↓Xn, ↓Xo, ↓Xg, ↓Xd, ↓Xe, ↓Xf, Tryz.VΓ, Tryz.Γs, Xp, Xi, Nat.reduceAdd, Nat.reduceSub, Nat.reduceLT, Nat.reduceLeDiff, reduceIte, reduceCtorEq, Nat.reduceEqDiff, implies_true, forall_const, lawV, lawB, beq_self_eq_true, bne_self_eq_false, Int.reduceBEq, Int.reduceBNe, Int.reduceLT, Int.reduceLE, g2, g5, g6, g7, c0, c1, c2, t0, Bool.not_true, Bool.not_false])
              (refine callV_pc (d3) ?_; simp only [lawG, ↓Xn, ↓Xo, ↓Xg, ↓Xd, ↓Xe, ↓Xf, Tryz.VΓ, Tryz.Γs, Xp, Xi, Nat.reduceAdd, Nat.reduceSub, Nat.reduceLT, Nat.reduceLeDiff, reduceIte, reduceCtorEq, Nat.reduceEqDiff, implies_true, forall_const, lawV, lawB, beq_self_eq_true, bne_self_eq_false, Int.reduceBEq, Int.reduceBNe, Int.reduceLT, Int.reduceLE, g2, g5, g6, g7, c0, c1, c2, t0, Bool.not_true, Bool.not_false])
              exact zz (hbad rfl)
            · have hmore := hmore _ rfl
              (refine callV_pc (d1) ?_; simp only [lawG, ↓Xn, ↓Xo, ↓Xg, ↓Xd, ↓Xe, ↓Xf, Tryz.VΓ, Tryz.Γs, Xp, Xi, Nat.reduceAdd, Nat.reduceSub, Nat.reduceLT, Nat.reduceLeDiff, reduceIte, reduceCtorEq, Nat.reduceEqDiff, implies_true, forall_const, lawV, lawB, beq_self_eq_true, bne_self_eq_false, Int.reduceBEq, Int.reduceBNe, Int.reduceLT, Int.reduceLE, g2, g5, g6, g7, c0, c1, c2, t0, Bool.not_true, Bool.not_false])
              (refine callV_pc (d2) ?_; simp only [lawG, ↓Xn, ↓Xo, ↓Xg, ↓Xd, ↓Xe, ↓Xf, Tryz.VΓ, Tryz.Γs, Xp, Xi, Nat.reduceAdd, Nat.reduceSub, Nat.reduceLT, Nat.reduceLeDiff, reduceIte, reduceCtorEq, Nat.reduceEqDiff, implies_true, forall_const, lawV, lawB, beq_self_eq_true, bne_self_eq_false, Int.reduceBEq, Int.reduceBNe, Int.reduceLT, Int.reduceLE, g2, g5, g6, g7, c0, c1, c2, t0, Bool.not_true, Bool.not_false])
              (refine callV_pc (d3) ?_; simp only [lawG, ↓Xn, ↓Xo, ↓Xg, ↓Xd, ↓Xe, ↓Xf, Tryz.VΓ, Tryz.Γs, Xp, Xi, Nat.reduceAdd, Nat.reduceSub, Nat.reduceLT, Nat.reduceLeDiff, reduceIte, reduceCtorEq, Nat.reduceEqDiff, implies_true, forall_const, lawV, lawB, beq_self_eq_true, bne_self_eq_false, Int.reduceBEq, Int.reduceBNe, Int.reduceLT, Int.reduceLE, g2, g5, g6, g7, c0, c1, c2, cj, t0, Bool.not_true, Bool.not_false])
              (refine callD_pc (d4) ?_; simp only [lawG, ↓Xn, ↓Xo, ↓Xg, ↓Xd, ↓Xe, ↓Xf, Tryz.VΓ, Tryz.Γs, Xp, Xi, Nat.reduceAdd, Nat.reduceSub, Nat.reduceLT, Nat.reduceLeDiff, reduceIte, reduceCtorEq, Nat.reduceEqDiff, implies_true, forall_const, lawV, lawB, beq_self_eq_true, bne_self_eq_false, Int.reduceBEq, Int.reduceBNe, Int.reduceLT, Int.reduceLE, g2, g5, g6, g7, c0, c1, c2, cj, t0, u0, u1, u2, uj])
              have hjn2 : j ≠ bs.length + 2 := by rintro rfl; rw [c2] at cj; cases cj
              have hjn0 : j ≠ bs.length := by rintro rfl; rw [c0] at cj; cases cj
              have hjl : j < b'.length := (List.getElem?_eq_some_iff.1 cj).1
              have v0 : ∀ X Y Z, (((b' ++ [X]).set j .gone ++ [Y]).set (bs.length + 2) Z)[bs.length]? = some (.cells [.int .i64 0, .int .i64 0, .nils] 37 true) := fun X Y Z => by
                rw [List.getElem?_set_ne (by omega), List.getElem?_append_left (by simp; omega), List.getElem?_set_ne (by omega)]; exact at_old c0 _
              have v1 : ∀ X Y Z, (((b' ++ [X]).set j .gone ++ [Y]).set (bs.length + 2) Z)[bs.length + 1]? = some (.cells [.str rest', .bool more'] 96 true) := fun X Y Z => by
                rw [List.getElem?_set_ne (by omega), List.getElem?_append_left (by simp; omega), List.getElem?_set_ne (by omega)]; exact at_old c1 _
              have v2 : ∀ X Y, ((b' ++ [X]).set j .gone ++ [Y])[bs.length + 2]? = some (.cells [.int .i64 m0, .int .i64 k0, .o j fs.length] 37 true) := fun X Y => by
                rw [List.getElem?_append_left (by simp; omega), List.getElem?_set_ne (by omega)]; exact at_old c2 _
              have v3 : ∀ X Y Z, (((b' ++ [X]).set j .gone ++ [Y]).set (bs.length + 2) Z)[bs.length + 2]? = some Z := fun X Y Z => List.getElem?_set_self (by simp; omega)
              have v4 : ∀ X Y Z A, (((b' ++ [X]).set j .gone ++ [Y]).set (bs.length + 2) Z)[(b' ++ [A]).length]? = some Y := fun X Y Z A => by
                rw [List.getElem?_set_ne (by simp; omega), show (b' ++ [A]).length = ((b' ++ [X]).set j .gone).length by simp]; exact at_new _ _
              have z1 : (b'.length = bs.length + 2) = False := by simp; omega
              have z2 : ∀ X, ((b' ++ [X]).length = bs.length + 2) = False := fun X => by simp; omega
              have z3 : (j = bs.length + 2) = False := by simp; omega
              (refine callD_pc (d5) ?_; simp only [lawG, ↓Xn, ↓Xo, ↓Xg, ↓Xd, ↓Xe, ↓Xf, Tryz.VΓ, Tryz.Γs, Xp, Xi, Nat.reduceAdd, Nat.reduceSub, Nat.reduceLT, Nat.reduceLeDiff, reduceIte, reduceCtorEq, Nat.reduceEqDiff, implies_true, forall_const, lawV, lawB, beq_self_eq_true, bne_self_eq_false, Int.reduceBEq, Int.reduceBNe, Int.reduceLT, Int.reduceLE, g2, g5, g6, g7, c0, c1, c2, cj, t0, u0, u1, u2, uj, v2])
              refine ⟨by omega, ⟨by unfold maxLen; omega, by omega⟩, (by
                refine OkD_ren (fun n => if n = bs.length + 2 then 0 else 1) ?_
                simp only [List.map_cons, List.map_nil, renRk, renT, reduceIte, z1, z2, z3]
                exact OkD_fast (by kernel_rfl)), ?_⟩
              refine ⟨⟨rest', more', fs ++ [(lower key, trimB v)], _, F, v0 _ _ _, v1 _ _ _, v3 _ _ _, (((ckp.app _).set hLj _).app _).set (by omega) _, ?_, by simp; omega, by omega, hF', hmore.symm⟩, hme _ (v1 _ _ _)⟩
              have hl1 : (fs ++ [(lower key, trimB v)]).length = fs.length + 1 := by simp
              rw [hl1]
              exact .inr ⟨_, rfl, by omega, by simp; omega, by rw [v4, List.flatMap_append]; rfl⟩
end Go.Proofs.YtfmafmgbfamaiaaGreatDoor
/- The walks of redirects. -/
set_option linter.all false
set_option maxRecDepth 20000
namespace Go.Proofs.YtfmafmgbfamaiaaGreatDoor
open Go Vc Go.RowKit Wf
set_option linter.unusedSimpArgs false
theorem uc_at (L : List Url) (k : Nat) (h : k < L.length) : ((L.flatMap uc).drop (k * 7)).take 7 = uc L[k] := rows_at uc 7 (fun _ => rfl) L k h
theorem uc_len (L : List Url) : (L.flatMap uc).length = L.length * 7 := rows_len uc 7 (fun _ => rfl) L
def Sq (e s : Nat) (x : SV) (b : List Res) (c : List SV) (n : Nat) : Prop := (x = .nils ∧ c = [] ∧ n = 0) ∨ ∃ j m, x = .o j n ∧ b[j]? = some (.own c e s n m)
theorem p_redir_Is (n : Int) : PC Tryz.V 21 [.int .i64 n] (.bool (redirSt n)) := by
  unfold redirSt
  refine pc_of 3000 Tryz.func21 rfl Tryz.ntmps21 Tryz.results21 Tryz.call21 (by simp) (by simp [flat, flat.flatL]) (by simp [flat, flat.flatL]) ?_
  simp only [lawG, ↓Xn, ↓Xo, ↓Xg, ↓Xd, ↓Xe, ↓Xf, Tryz.VΓ, Tryz.Γs, Xp, Xi, Nat.reduceAdd, Nat.reduceSub, Nat.reduceLT, Nat.reduceLeDiff, reduceIte, reduceCtorEq, Nat.reduceEqDiff, implies_true, forall_const, lawV]
  cases h1 : n == 301 <;> cases h2 : n == 302 <;> cases h3 : n == 303 <;> cases h4 : n == 307 <;> cases h5 : n == 308 <;> simp
theorem uc_eq (u v : Url) : (u.host == v.host && (u.port == v.port && (u.path == v.path && (u.query == v.query && (u.fragment == v.fragment && (u.hasQuery == v.hasQuery && u.hasFrag == v.hasFrag)))))) = decide (u = v) := by
  obtain ⟨a1, a2, a3, a4, a5, a6, a7⟩ := u
  obtain ⟨b1, b2, b3, b4, b5, b6, b7⟩ := v
  rw [Bool.eq_iff_iff]
  simp
set_option maxHeartbeats 2000000 in
theorem sc_slices_Index {bs : List Res} {j : Nat} {L : List Url} {m : Bool} (hj : bs[j]? = some (.own (L.flatMap uc) 26 7 L.length m)) (hn : L.length ≤ 1000000) (u : Url) :
    SC Tryz.V 59 [.o j L.length, wsv u] bs (fun r b => (∃ k : Int, r = .int .i64 k ∧ (decide (0 ≤ k) = decide (u ∈ L))) ∧ Kp bs b) := by
  have hjl : j < bs.length := (List.getElem?_eq_some_iff.1 hj).1
  refine sc_of 3000 Tryz.func59 rfl Tryz.ntmps59 Tryz.results59 Tryz.call59 (by simp) (fun β β' hb => concL_within bs.length _ (by simp [within, within.withinL, hjl, wsv]) β β' hb) ?_
  unfold wsv
  simp only [lawG, ↓Xn, ↓Xo, ↓Xg, ↓Xd, ↓Xe, ↓Xf, Tryz.VΓ, Tryz.Γs, Xp, Xi, Nat.reduceAdd, Nat.reduceSub, Nat.reduceLT, Nat.reduceLeDiff, reduceIte, reduceCtorEq, Nat.reduceEqDiff, implies_true, forall_const, lawV]
  have hj2 := at_old hj [.cells (uc u) 26 true]
  refine loopV_mk (fun σ => ∃ k : Nat, k ≤ L.length ∧ lk 0 σ.t = some (.o j L.length) ∧ lk 3 σ.t = some (.p bs.length 0) ∧ lk 6 σ.t = some (.o j L.length) ∧ lk 7 σ.t = some (.int .i64 L.length) ∧ lk 8 σ.t = some (.int .i64 k) ∧ σ.b = bs ++ [.cells (uc u) 26 true] ∧ ¬ u ∈ L.take k) (fun σ => L.length - lkI 8 σ) ⟨0, by omega, rfl, rfl, rfl, rfl, rfl, rfl, by simp⟩ ?_
  rintro ⟨t, b⟩ ⟨k, hk, h0, h3, h6, h7, h8, hb, hok⟩
  simp only at h0 h3 h6 h7 h8 hb
  subst hb
  rw [lkI_eq h8]
  by_cases hlt : k < L.length
  · have hu := uc_at L k hlt
    have hul := uc_len L
    unfold uc at hj2 hu hul ⊢
    simp only [lawG, ↓Xn, ↓Xo, ↓Xg, ↓Xd, ↓Xe, ↓Xf, Tryz.VΓ, Tryz.Γs, Xp, Xi, Nat.reduceAdd, Nat.reduceSub, Nat.reduceLT, Nat.reduceLeDiff, reduceIte, reduceCtorEq, Nat.reduceEqDiff, implies_true, forall_const, lawV, h0, h3, h6, h7, h8, hj2, hu, hul, lawB, Int.toNat_natCast, uc_eq]
    refine ⟨fun _ => ⟨⟨by omega, by omega⟩, by omega, (OkD_fast (by kernel_rfl)), fun h => ?_, fun h => ?_⟩, fun h => absurd h (by simp; omega)⟩
    · refine ⟨⟨k, rfl, ?_⟩, (Kp.refl _).app _⟩
      rw [decide_eq_true (by omega), decide_eq_true (by rw [of_decide_eq_true h]; exact List.getElem_mem hlt)]
    · refine ⟨⟨by omega, by omega⟩, ⟨k + 1, by omega, rfl, ?_⟩, ?_⟩
      · rw [List.take_succ_eq_append_getElem hlt]
        simp only [List.mem_append, List.mem_singleton, not_or]
        exact ⟨hok, of_decide_eq_false h⟩
      · rw [lkI_eq (k := .i64) (n := (k : Int) + 1) rfl]; omega
  · have hie : k = L.length := by omega
    subst hie
    rw [List.take_length] at hok
    simp only [lawG, ↓Xn, ↓Xo, ↓Xg, ↓Xd, ↓Xe, ↓Xf, Tryz.VΓ, Tryz.Γs, Xp, Xi, Nat.reduceAdd, Nat.reduceSub, Nat.reduceLT, Nat.reduceLeDiff, reduceIte, reduceCtorEq, Nat.reduceEqDiff, implies_true, forall_const, lawV, h0, h3, h6, h7, h8, hj2]
    exact ⟨fun h => absurd h (by simp), fun _ => ⟨⟨-1, rfl, by simp [hok]⟩, (Kp.refl _).app _⟩⟩
set_option maxHeartbeats 2000000 in
theorem sc_slices_Contains {bs : List Res} {j : Nat} {L : List Url} {m : Bool} (hj : bs[j]? = some (.own (L.flatMap uc) 26 7 L.length m)) (hn : L.length ≤ 1000000) (u : Url) :
    SC Tryz.V 34 [.o j L.length, wsv u] bs (fun r b => r = .bool (decide (u ∈ L)) ∧ Kp bs b) := by
  have hjl : j < bs.length := (List.getElem?_eq_some_iff.1 hj).1
  refine sc_of 3000 Tryz.func34 rfl Tryz.ntmps34 Tryz.results34 Tryz.call34 (by simp) (fun β β' hb => concL_within bs.length _ (by simp [within, within.withinL, hjl, wsv]) β β' hb) ?_
  have hj2 := at_old hj [.cells (uc u) 26 true]
  have s1 := sc_slices_Index hj2 hn u
  unfold wsv at s1 ⊢
  simp only [lawG, ↓Xn, ↓Xo, ↓Xg, ↓Xd, ↓Xe, ↓Xf, Tryz.VΓ, Tryz.Γs, Xp, Xi, Nat.reduceAdd, Nat.reduceSub, Nat.reduceLT, Nat.reduceLeDiff, reduceIte, reduceCtorEq, Nat.reduceEqDiff, implies_true, forall_const, lawV, lawB]
  refine callV_sc s1 ?_
  rintro r b ⟨⟨k, rfl, hk⟩, hkp⟩
  rw [← hk]
  simp only [lawG, ↓Xn, ↓Xo, ↓Xg, ↓Xd, ↓Xe, ↓Xf, Tryz.VΓ, Tryz.Γs, Xp, Xi, Nat.reduceAdd, Nat.reduceSub, Nat.reduceLT, Nat.reduceLeDiff, reduceIte, reduceCtorEq, Nat.reduceEqDiff, implies_true, forall_const, lawV]
  exact (Kp.refl _).app _ |>.trans hkp
theorem sc_slices_Index0 {bs : List Res} (u : Url) :
    SC Tryz.V 59 [.nils, wsv u] bs (fun r b => r = .int .i64 (-1) ∧ Kp bs b) := by
  refine sc_of 3000 Tryz.func59 rfl Tryz.ntmps59 Tryz.results59 Tryz.call59 (by simp) (fun β β' hb => concL_within bs.length _ (by simp [within, within.withinL, wsv]) β β' hb) ?_
  unfold wsv
  simp only [lawG, ↓Xn, ↓Xo, ↓Xg, ↓Xd, ↓Xe, ↓Xf, Tryz.VΓ, Tryz.Γs, Xp, Xi, Nat.reduceAdd, Nat.reduceSub, Nat.reduceLT, Nat.reduceLeDiff, reduceIte, reduceCtorEq, Nat.reduceEqDiff, implies_true, forall_const, lawV]
  refine loopV_mk (fun σ => lk 7 σ.t = some (.int .i64 0) ∧ lk 8 σ.t = some (.int .i64 0) ∧ Kp bs σ.b) (fun σ => 0) ⟨rfl, rfl, (Kp.refl _).app _⟩ ?_
  rintro ⟨t, b⟩ ⟨h7, h8, hkp⟩
  simp only at h7 h8 hkp
  simp only [lawG, ↓Xn, ↓Xo, ↓Xg, ↓Xd, ↓Xe, ↓Xf, Tryz.VΓ, Tryz.Γs, Xp, Xi, Nat.reduceAdd, Nat.reduceSub, Nat.reduceLT, Nat.reduceLeDiff, reduceIte, reduceCtorEq, Nat.reduceEqDiff, implies_true, forall_const, lawV, h7, h8]
  exact ⟨fun h => absurd h (by simp), fun _ => hkp⟩
theorem sc_slices_Contains0 {bs : List Res} (u : Url) :
    SC Tryz.V 34 [.nils, wsv u] bs (fun r b => r = .bool false ∧ Kp bs b) := by
  refine sc_of 3000 Tryz.func34 rfl Tryz.ntmps34 Tryz.results34 Tryz.call34 (by simp) (fun β β' hb => concL_within bs.length _ (by simp [within, within.withinL, wsv]) β β' hb) ?_
  have s1 := sc_slices_Index0 (bs := bs ++ [.cells (uc u) 26 true]) u
  unfold wsv at s1 ⊢
  simp only [lawG, ↓Xn, ↓Xo, ↓Xg, ↓Xd, ↓Xe, ↓Xf, Tryz.VΓ, Tryz.Γs, Xp, Xi, Nat.reduceAdd, Nat.reduceSub, Nat.reduceLT, Nat.reduceLeDiff, reduceIte, reduceCtorEq, Nat.reduceEqDiff, implies_true, forall_const, lawV, lawB]
  refine callV_sc s1 ?_
  rintro r b ⟨rfl, hkp⟩
  simp only [lawG, ↓Xn, ↓Xo, ↓Xg, ↓Xd, ↓Xe, ↓Xf, Tryz.VΓ, Tryz.Γs, Xp, Xi, Nat.reduceAdd, Nat.reduceSub, Nat.reduceLT, Nat.reduceLeDiff, reduceIte, reduceCtorEq, Nat.reduceEqDiff, implies_true, forall_const, lawV]
  exact ⟨rfl, (Kp.refl _).app _ |>.trans hkp⟩
theorem sc_Contains {bs : List Res} {x : SV} {L : List Url} (h : Sq 26 7 x bs (L.flatMap uc) L.length) (hL : L.length ≤ 1000000) (u : Url) :
    SC Tryz.V 34 [x, wsv u] bs (fun r b => r = .bool (decide (u ∈ L)) ∧ Kp bs b) := by
  rcases h with ⟨rfl, -, hn⟩ | ⟨j, m, rfl, hj⟩
  · obtain rfl := List.length_eq_zero_iff.1 hn
    simpa using sc_slices_Contains0 u
  · exact sc_slices_Contains hj hL u
theorem Sq.app {e s : Nat} {x : SV} {b : List Res} {c : List SV} {n : Nat} (h : Sq e s x b c n) (X : List Res) : Sq e s x (b ++ X) c n := by
  rcases h with h | ⟨j, m, h, k⟩
  · exact .inl h
  · exact .inr ⟨j, m, h, at_old k X⟩
theorem Sq.kp {e s : Nat} {x : SV} {bs b : List Res} {c : List SV} {n : Nat} (h : Sq e s x bs c n) (k : Kp bs b) : Sq e s x b c n := by
  rcases h with h | ⟨j, m, h, hj⟩
  · exact .inl h
  · exact .inr ⟨j, m, h, k.at hj⟩
theorem Sq.within {e s : Nat} {x : SV} {b : List Res} {c : List SV} {n : Nat} (h : Sq e s x b c n) : Vc.within b.length x = true := by
  rcases h with ⟨rfl, -⟩ | ⟨j, m, rfl, hj⟩
  · rfl
  · have := (List.getElem?_eq_some_iff.1 hj).1
    simp [Vc.within, this]
set_option maxHeartbeats 2000000 in
theorem sc_redir_Next {bs : List Res} {j : Nat} {fs : List (Bytes × Bytes)} {m : Bool} (hj : bs[j]? = some (.own (fs.flatMap fc) 31 2 fs.length m)) (hn : fs.length ≤ 1000000) (hl : ∀ f ∈ fs, f.1.length ≤ 9223372036854775807) (a c : Int)
    {sn : SV} {L : List Url} (hi : Sq 26 7 sn bs (L.flatMap uc) L.length) (hL : L.length ≤ 1000000) (u : Url) (fu : Fair u) (hops : Int) :
    SC Tryz.V 22 [wsv u, .agg [.int .i64 a, .int .i64 c, .o j fs.length], sn, .int .i64 hops] bs (fun r b => r = .tup [wsv (redirNext u fs L hops).1, .int .i64 (redirNext u fs L hops).2] ∧ Kp bs b) := by
  have hjl : j < bs.length := (List.getElem?_eq_some_iff.1 hj).1
  have hil := hi.within
  refine sc_of 3000 Tryz.func22 rfl Tryz.ntmps22 Tryz.results22 Tryz.call22 (by simp) (fun β β' hb => concL_within bs.length _ (by simp [within, within.withinL, hjl, hil, wsv]) β β' hb) ?_
  unfold wsv
  simp only [lawG, ↓Xn, ↓Xo, ↓Xg, ↓Xd, ↓Xe, ↓Xf, Tryz.VΓ, Tryz.Γs, Xp, Xi, Nat.reduceAdd, Nat.reduceSub, Nat.reduceLT, Nat.reduceLeDiff, reduceIte, reduceCtorEq, Nat.reduceEqDiff, implies_true, forall_const, lawV, lawB]
  refine ⟨fun h5 => ?_, fun h5 => ?_⟩
  · have h5 : 5 ≤ hops := by simpa using h5
    unfold redirNext
    rw [if_pos h5]
    exact ⟨rfl, (((Kp.refl _).app _).app _).app _⟩
  · have h5 : ¬ 5 ≤ hops := by simpa using h5
    unfold redirNext
    rw [if_neg h5]
    refine callV_sc (sc_head_Values (at_old (at_old (at_old hj _) _) _) hn hl locS (by decide) a c) ?_
    rintro r b ⟨hkp, hsl⟩
    have hll := hdrVals_len fs locS
    have hkb : Kp bs b := (((Kp.refl bs).app _).app _).app _ |>.trans hkp
    have h8 := hkp.at (at_new _ _)
    have h4 := hkp.at (at_prev2 _ _ _ _)
    have hn8 : bs.length ≤ (bs ++ [Res.cells [.str u.host, .int .i64 u.port, .str u.path, .str u.query, .str u.fragment, .bool u.hasQuery, .bool u.hasFrag] 26 true] ++ [Res.cells [.int .i64 a, .int .i64 c, .o j fs.length] 37 true]).length := by simp
    generalize (bs ++ [Res.cells [.str u.host, .int .i64 u.port, .str u.path, .str u.query, .str u.fragment, .bool u.hasQuery, .bool u.hasFrag] 26 true] ++ [Res.cells [.int .i64 a, .int .i64 c, .o j fs.length] 37 true]).length = n8 at h8 hn8 ⊢
    have hl8 : n8 < b.length := (List.getElem?_eq_some_iff.1 h8).1
    have s8 : ∀ X, (b.set n8 X)[n8]? = some X := fun X => by simp [hl8]
    generalize hdrVals fs locS = l at hsl hll ⊢
    rcases hsl with ⟨rfl, hc0, hn0⟩ | ⟨q, rfl, hLq, hq⟩
    · obtain rfl : l = [] := List.length_eq_zero_iff.1 hn0
      simp only [lawG, ↓Xn, ↓Xo, ↓Xg, ↓Xd, ↓Xe, ↓Xf, Tryz.VΓ, Tryz.Γs, Xp, Xi, Nat.reduceAdd, Nat.reduceSub, Nat.reduceLT, Nat.reduceLeDiff, reduceIte, reduceCtorEq, Nat.reduceEqDiff, implies_true, forall_const, lawV, lawB, beq_self_eq_true, bne_self_eq_false, Int.reduceBEq, Int.reduceBNe, Int.reduceLT, Int.reduceLE, h8, s8, List.drop_nil, List.drop_succ_cons]
      exact ⟨rfl, hkb.set hn8 _⟩
    · by_cases h1 : l.length = 1
      · obtain ⟨x, rfl⟩ := List.length_eq_one_iff.1 h1
        have s1 := p_url_Relative u x fu
        unfold wsv at s1
        simp only [List.map_cons, List.map_nil] at hq
        generalize hz : urlRelative u x = z at s1
        obtain ⟨v, e⟩ := z
        simp only at s1
        simp only [lawG, ↓Xn, ↓Xo, ↓Xg, ↓Xd, ↓Xe, ↓Xf, Tryz.VΓ, Tryz.Γs, Xp, Xi, Nat.reduceAdd, Nat.reduceSub, Nat.reduceLT, Nat.reduceLeDiff, reduceIte, reduceCtorEq, Nat.reduceEqDiff, implies_true, forall_const, lawV, lawB, beq_self_eq_true, bne_self_eq_false, Int.reduceBEq, Int.reduceBNe, Int.reduceLT, Int.reduceLE, h8, s8, h4, hq, List.drop_nil, List.drop_succ_cons, List.length_cons, List.length_nil, Int.reduceToNat, Nat.zero_mul, List.getElem?_cons_zero]
        refine ⟨fun h => absurd h (by simp), fun _ => ⟨by omega, ?_⟩⟩
        have h8a := fun X => at_old h8 [X]
        have s8a : ∀ X Y, ((b ++ [X]).set n8 Y)[n8]? = some Y := fun X Y => by rw [List.getElem?_set_self (by simp; omega)]
        have hql : ¬ q = b.length := by have := (List.getElem?_eq_some_iff.1 hq).1; omega
        have hbl : ¬ bs.length = b.length := by omega
        (refine callD_pc (s1) ?_; simp only [lawG, ↓Xn, ↓Xo, ↓Xg, ↓Xd, ↓Xe, ↓Xf, Tryz.VΓ, Tryz.Γs, Xp, Xi, Nat.reduceAdd, Nat.reduceSub, Nat.reduceLT, Nat.reduceLeDiff, reduceIte, reduceCtorEq, Nat.reduceEqDiff, implies_true, forall_const, lawV, lawB, beq_self_eq_true, bne_self_eq_false, Int.reduceBEq, Int.reduceBNe, Int.reduceLT, Int.reduceLE, h8, s8, h4, hq, h8a, s8a, List.drop_nil, List.drop_succ_cons])
        refine ⟨(by
          refine OkD_ren (fun n => if n = b.length then 0 else 1) ?_
          simp only [List.map_cons, List.map_nil, renRk, renT, reduceIte, hql, hbl]
          exact OkD_fast (by kernel_rfl)), fun h2 => ?_, fun h2 => ⟨fun h3 => ?_, fun h3 => ?_⟩⟩
        · refine ⟨?_, (hkb.app _).set hn8 _⟩
          obtain rfl : e = 253 := by simpa using h2
          simp [redirOf, redirEnd, hz, Url.none]
        · refine ⟨?_, (hkb.app _).set hn8 _⟩
          have h2 : ¬ e = 253 := by simpa using h2
          have h3 : ¬ e = 0 := by simpa using h3
          simp [redirOf, redirEnd, hz, h2, h3, Url.none]
        · obtain rfl : e = 0 := by simpa using h3
          refine callV_sc (sc_Contains ((hi.kp hkb).app [.cells (uc v.bare) 26 true]) hL v.bare) ?_
          rintro r b3 ⟨rfl, hk3⟩
          have g8 := hk3.at (h8a _)
          have gl8 : n8 < b3.length := (List.getElem?_eq_some_iff.1 g8).1
          have t8 : ∀ X, (b3.set n8 X)[n8]? = some X := fun X => by simp [gl8]
          have gu := hk3.at (at_new _ _)
          have hkb3 := (hkb.app _).trans hk3
          unfold uc Url.bare at gu
          simp only [lawG, ↓Xn, ↓Xo, ↓Xg, ↓Xd, ↓Xe, ↓Xf, Tryz.VΓ, Tryz.Γs, Xp, Xi, Nat.reduceAdd, Nat.reduceSub, Nat.reduceLT, Nat.reduceLeDiff, reduceIte, reduceCtorEq, Nat.reduceEqDiff, implies_true, forall_const, lawV, lawB, beq_self_eq_true, bne_self_eq_false, Int.reduceBEq, Int.reduceBNe, Int.reduceLT, Int.reduceLE, g8, t8, gu, List.drop_nil, List.drop_succ_cons]
          refine ⟨fun h4 => ⟨?_, hkb3.set hn8 _⟩, fun h4 => ?_⟩
          · have h4 : v.bare ∈ L := by simpa using h4
            simp [redirOf, redirEnd, hz, h4, Url.none]
          · have h4 : v.bare ∉ L := by simpa using h4
            refine ⟨?_, hkb3.set hn8 _⟩
            unfold redirOf redirEnd
            simp [hz, h4]
            simp [Url.bare]
      · simp only [lawG, ↓Xn, ↓Xo, ↓Xg, ↓Xd, ↓Xe, ↓Xf, Tryz.VΓ, Tryz.Γs, Xp, Xi, Nat.reduceAdd, Nat.reduceSub, Nat.reduceLT, Nat.reduceLeDiff, reduceIte, reduceCtorEq, Nat.reduceEqDiff, implies_true, forall_const, lawV, lawB, beq_self_eq_true, bne_self_eq_false, Int.reduceBEq, Int.reduceBNe, Int.reduceLT, Int.reduceLE, h8, s8, List.drop_nil, List.drop_succ_cons]
        refine ⟨fun _ => ⟨?_, hkb.set hn8 _⟩, fun h => absurd h (by simp; omega)⟩
        unfold redirOf
        rw [if_pos h1]
        rfl
end Go.Proofs.YtfmafmgbfamaiaaGreatDoor
/- The walks of reply and fetch. -/
set_option linter.all false
set_option maxRecDepth 20000
namespace Go.Proofs.YtfmafmgbfamaiaaGreatDoor
open Go Vc Go.RowKit Wf
set_option linter.unusedSimpArgs false
def rcells (r : Resp) (xf xt : SV) : List SV := uc r.url ++ [.int .i64 r.minor, .int .i64 r.status, xf, .str r.body, xt]
def ec (t : Url × Int × Int) : List SV := uc t.1 ++ [.int .i64 t.2.1, .int .i64 t.2.2]
theorem ec_len (L : List (Url × Int × Int)) : (L.flatMap ec).length = L.length * 9 := rows_len ec 9 (fun _ => rfl) L
def fcells (f : FetchS) (xs xt xf : SV) : List SV := uc f.next ++ [.int .i64 f.hops, .bool f.done, .int .i64 f.err] ++ rcells f.resp xf xt ++ [xs]
theorem Sl1.setc {e s L i : Nat} {x : SV} {b : List Res} {c cs : List SV} {n T : Nat} {m : Bool} (h : Sl1 e s L x b c n) (hi : b[i]? = some (.cells cs T m)) (Z : Res) : Sl1 e s L x (b.set i Z) c n := by
  rcases h with h | ⟨j, h1, h0, h2, h3⟩
  · exact .inl h
  · exact .inr ⟨j, h1, h0, h2, by rw [List.getElem?_set_ne (by rintro rfl; rw [hi] at h3; cases h3)]; exact h3⟩
theorem Sl1.app {e s L : Nat} {x : SV} {b : List Res} {c : List SV} {n : Nat} (h : Sl1 e s L x b c n) (X : List Res) : Sl1 e s L x (b ++ X) c n := h.kp ((Kp.refl b).app X)
theorem ask_raw {L : List Ans} {u : Url} {now : Int} {M : Nat} (h : ∀ a ∈ L, a.raw.length ≤ M) : (worldAsk L u now).1.length ≤ M := by
  unfold worldAsk
  split
  · simp
  · unfold askOf
    cases hf : L.find? (ansFits u.host u.port (urlTarget u) now) with
    | none => simp
    | some a =>
      have := h a (List.mem_of_find?_eq_some hf)
      simp only
      unfold ansOf
      repeat' split
      all_goals first | exact this | simp
theorem sc_body_ReadX {bs : List Res} {x : SV} {fs : List (Bytes × Bytes)} (hx : Sx 31 2 x bs (fs.flatMap fc) fs.length) (hn : fs.length ≤ 64) (hl : hsum fs ≤ 16384) (a st : Int) (rest : Bytes) (most : Int) (hr : rest.length ≤ 4000000) (hm1 : -9223372036854775808 ≤ most) (hm2 : most ≤ 9223372036854775807) :
    SC Tryz.V 31 [.agg [.int .i64 a, .int .i64 st, x], .str rest, .int .i64 most] bs (fun r b => r = .tup [.str (bodyRead st fs rest most).1, .int .i64 (bodyRead st fs rest most).2] ∧ Kp bs b) := by
  have h1 := join_vals fs teN
  have h2 := join_vals fs clN
  have h3 : ∀ f ∈ fs, f.1.length ≤ 9223372036854775807 := fun f hf => by have := hsum_mem f hf; omega
  rcases hx with ⟨rfl, hc, h0⟩ | ⟨j, m, rfl, h0, hj⟩
  · obtain rfl : fs = [] := List.length_eq_zero_iff.1 h0
    refine sc_phantom (args' := [.agg [.int .i64 a, .int .i64 st, .o bs.length 0], .str rest, .int .i64 most]) (e := 31) (s := 2) (m := false) ((sc_body_Read (fs := []) (m := false) (at_new _ _) (by simp) h3 a st rest most hr hm1 hm2 (by omega) (by omega)).mono fun r b h => ⟨h.1, Kp.unphantom h.2⟩) (fun β => ?_)
    simp [concL, conc, upd, oV]
  · exact sc_body_Read hj (by omega) h3 a st rest most hr hm1 hm2 (by omega) (by omega)
set_option maxHeartbeats 4000000 in
theorem sc_reply_Of {bs : List Res} {j : Nat} {L : List Ans} {m : Bool} (hj : bs[j]? = some (.own (L.flatMap ac) 35 7 L.length m)) (hL : L.length ≤ 1000000) (hr : ∀ a ∈ L, a.raw.length ≤ 4000000) (now : Int) (u : Url) (hu : Fair u) :
    SC Tryz.V 20 [.o j L.length, .int .u64 now, .agg (uc u)] bs (fun r b => Kp bs b ∧ ∃ x, r = .tup [.agg (rcells (replyOf L now u).1 x .nils), .int .i64 (replyOf L now u).2.1, .int .i64 (replyOf L now u).2.2] ∧ Sl1 31 2 bs.length x b ((replyOf L now u).1.fields.flatMap fc) (replyOf L now u).1.fields.length) := by
  have hjl : j < bs.length := (List.getElem?_eq_some_iff.1 hj).1
  have hil : Vc.within.withinL bs.length (uc u) = true := by simp [uc, within, within.withinL]
  have hra := ask_raw (u := u) (now := now) hr
  refine sc_of 3000 Tryz.func20 rfl Tryz.ntmps20 Tryz.results20 Tryz.call20 (by simp) (fun β β' hb => concL_within bs.length _ (by simp [within, within.withinL, hjl, hil]) β β' hb) ?_
  have s1 := fun X Y => sc_forget (by simp [flat, flat.flatL]) (sc_world_Ask (bs := bs ++ [X] ++ [Y]) (at_old (at_old hj _) _) (by omega) u hu now)
  generalize hT : replyOf L now u = T
  unfold replyOf at hT
  unfold wsv at s1
  generalize worldAsk L u now = A at s1 hra hT
  obtain ⟨raw, e⟩ := A
  simp only at s1 hra hT
  have hpl := headParse_le raw
  have sh := fun X Y => sc_head_Parse (bs := bs ++ [X] ++ [Y]) raw hra
  generalize headParse raw = H at hpl sh hT
  obtain ⟨⟨m0, st, fs⟩, n, e2⟩ := H
  simp only at hpl sh hT
  unfold uc
  simp only [lawG, ↓Xn, ↓Xo, ↓Xg, ↓Xd, ↓Xe, ↓Xf, Tryz.VΓ, Tryz.Γs, Xp, Xi, Nat.reduceAdd, Nat.reduceSub, Nat.reduceLT, Nat.reduceLeDiff, reduceIte, reduceCtorEq, Nat.reduceEqDiff, implies_true, forall_const, lawV, lawB, beq_self_eq_true, bne_self_eq_false, Int.reduceBEq, Int.reduceBNe, Int.reduceLT, Int.reduceLE]
  have hn6 : (bs ++ [Res.cells [.str u.host, .int .i64 u.port, .str u.path, .str u.query, .str u.fragment, .bool u.hasQuery, .bool u.hasFrag] 26 true]).length = bs.length + 1 := by simp
  have t0 : ∀ X Y Z, ((bs ++ [X] ++ [Y]).set (bs.length + 1) Z)[bs.length + 1]? = some Z := fun X Y Z => List.getElem?_set_self (by simp)
  have t00 : ∀ X Y, (bs ++ [X] ++ [Y])[bs.length + 1]? = some Y := fun X Y => by
    have := at_new (bs ++ [X]) Y
    rwa [show (bs ++ [X]).length = bs.length + 1 by simp] at this
  refine callV_sc (s1 _ _) ?_
  rintro r b ⟨rfl, rfl⟩
  rw [hn6]
  simp only [lawG, ↓Xn, ↓Xo, ↓Xg, ↓Xd, ↓Xe, ↓Xf, Tryz.VΓ, Tryz.Γs, Xp, Xi, Nat.reduceAdd, Nat.reduceSub, Nat.reduceLT, Nat.reduceLeDiff, reduceIte, reduceCtorEq, Nat.reduceEqDiff, implies_true, forall_const, lawV, lawB, beq_self_eq_true, bne_self_eq_false, Int.reduceBEq, Int.reduceBNe, Int.reduceLT, Int.reduceLE, t0, t00]
  refine ⟨fun q => ?_, fun q => ?_⟩
  · have q : e ≠ 0 := by simpa using q
    rw [if_pos q] at hT
    subst hT
    exact ⟨((((Kp.refl bs).app _).app _).set (by omega) _), .nils, rfl, .inl ⟨rfl, rfl, rfl⟩⟩
  have q : e = 0 := by simpa using q
  rw [if_neg (by omega)] at hT
  refine callV_sc (sh _ _) ?_
  rintro r b ⟨hk, x, rfl, hsl⟩
  replace hsl := hsl.low (L' := bs.length) (by simp)
  have k5 := hk.at (at_old (at_new _ _) _)
  have k6 := hk.at (at_new _ _)
  rw [hn6] at k6
  have hkb := (((Kp.refl bs).app _).app _).trans hk
  have hbl : bs.length + 1 < b.length := (List.getElem?_eq_some_iff.1 k6).1
  have t1 : ∀ Z, (b.set (bs.length + 1) Z)[bs.length + 1]? = some Z := fun Z => List.getElem?_set_self hbl
  simp only at hsl
  have u5 := fun X => at_old k5 [X]
  have u6 := fun X => at_old k6 [X]
  have v5 := fun X Y => at_old (u5 X) [Y]
  have v6 := fun X Y => at_old (u6 X) [Y]
  have t2 : ∀ X Z, ((b ++ [X]).set (bs.length + 1) Z)[bs.length + 1]? = some Z := fun X Z => List.getElem?_set_self (by simp; omega)
  have t3 : ∀ X Y Z, ((b ++ [X] ++ [Y]).set (bs.length + 1) Z)[bs.length + 1]? = some Z := fun X Y Z => List.getElem?_set_self (by simp; omega)
  have p2 := p_redir_Is st
  have ho : Vc.one x = true := by rcases hsl with ⟨rfl, -⟩ | ⟨j, rfl, -⟩ <;> rfl
  simp only [lawG, ↓Xn, ↓Xo, ↓Xg, ↓Xd, ↓Xe, ↓Xf, Tryz.VΓ, Tryz.Γs, Xp, Xi, Nat.reduceAdd, Nat.reduceSub, Nat.reduceLT, Nat.reduceLeDiff, reduceIte, reduceCtorEq, Nat.reduceEqDiff, implies_true, forall_const, lawV, lawB, beq_self_eq_true, bne_self_eq_false, Int.reduceBEq, Int.reduceBNe, Int.reduceLT, Int.reduceLE, t1, k5, k6, u5, u6, t2, v5, v6, t3]
  refine ⟨ho, fun q => ?_, fun q => ?_⟩
  · have q : e2 ≠ 0 := by simpa using q
    rw [if_pos q] at hT
    subst hT
    exact ⟨(hkb.app _).set (by omega) _, .nils, rfl, .inl ⟨rfl, rfl, rfl⟩⟩
  have q : e2 = 0 := by simpa using q
  rw [if_neg (by omega)] at hT
  generalize hrd : redirSt st = rd at p2 hT
  have w1 : ∀ X X' Y, (b ++ [X] ++ [Y])[(b ++ [X']).length]? = some Y := fun X X' Y => by
    rw [show (b ++ [X']).length = (b ++ [X]).length by simp]; exact at_new _ _
  have w2 : ∀ X, ((b ++ [X]).length = bs.length + 1) = False := fun X => by simp; omega
  have w0 : (b.length = bs.length + 1) = False := by simp; omega
  refine ⟨ho, ?_⟩
  cases rd
  · have s3 := fun X Y => sc_forget (by simp [flat, flat.flatL]) (sc_body_ReadX (bs := b ++ [X] ++ [Y]) ((hsl.sx.app _).app _) hpl.1 hpl.2.1 m0 st (raw.drop n.toNat) 1048576 (by simp; omega) (by omega) (by omega))
    generalize bodyRead st fs (raw.drop n.toNat) 1048576 = B at s3 hT
    obtain ⟨bd, e3⟩ := B
    simp only at s3
    have w3 : ∀ X X' Y Z, ((b ++ [X] ++ [Y]).set (b ++ [X']).length Z)[(b ++ [X']).length]? = some Z := fun X X' Y Z => List.getElem?_set_self (by simp)
    have w4 : ∀ X X' Y Z, ((b ++ [X] ++ [Y]).set (b ++ [X']).length Z)[bs.length + 1]? = some (.cells [.str [], .int .i64 0, .str [], .str [], .str [], .bool false, .bool false, .int .i64 0, .int .i64 0, .nils, .str [], .nils] 40 true) := fun X X' Y Z => by
      rw [List.getElem?_set_ne (by simp; omega)]; exact v6 _ _
    have w5 : ∀ X X' Y Z W, (((b ++ [X] ++ [Y]).set (b ++ [X']).length Z).set (bs.length + 1) W)[bs.length + 1]? = some W := fun X X' Y Z W => List.getElem?_set_self (by simp; omega)
    (refine callV_pc (p2) ?_; simp only [lawG, ↓Xn, ↓Xo, ↓Xg, ↓Xd, ↓Xe, ↓Xf, Tryz.VΓ, Tryz.Γs, Xp, Xi, Nat.reduceAdd, Nat.reduceSub, Nat.reduceLT, Nat.reduceLeDiff, reduceIte, reduceCtorEq, Nat.reduceEqDiff, implies_true, forall_const, lawV, lawB, beq_self_eq_true, bne_self_eq_false, Int.reduceBEq, Int.reduceBNe, Int.reduceLT, Int.reduceLE, u5, u6, v5, v6, t3, w1, Bool.not_false])
    refine ⟨⟨by omega, by omega⟩, ?_⟩
    refine callD_scw [] (s3 _ _) (fun _ _ _ => rfl) ?_
    simp only [lawG, ↓Xn, ↓Xo, ↓Xg, ↓Xd, ↓Xe, ↓Xf, Tryz.VΓ, Tryz.Γs, Xp, Xi, Nat.reduceAdd, Nat.reduceSub, Nat.reduceLT, Nat.reduceLeDiff, reduceIte, reduceCtorEq, Nat.reduceEqDiff, implies_true, forall_const, lawV, lawB, beq_self_eq_true, bne_self_eq_false, Int.reduceBEq, Int.reduceBNe, Int.reduceLT, Int.reduceLE, u5, u6, v5, v6, t3, w1, w3, w4, w5]
    have w6 : ∀ X, ((b ++ [X]).length = b.length) = False := fun X => by simp
    simp only [Bool.false_eq_true, if_false] at hT
    subst hT
    exact ⟨(by
      refine OkD_ren (fun n => if n = b.length then 0 else 1) ?_
      simp only [List.map_cons, List.map_nil, renRk, renT, reduceIte, w6]
      exact OkD_fast (by kernel_rfl)), ho, (by
      refine OkD_ren (fun n => if n = bs.length + 1 then 0 else 1) ?_
      simp only [List.map_cons, List.map_nil, renRk, renT, reduceIte, w2, w0]
      exact OkD_fast (by kernel_rfl)), ((hkb.app _).app _).set (by omega) _, x, rfl, ((hsl.app _).app _).setc (v6 _ _) _⟩
  · (refine callV_pc (p2) ?_; simp only [lawG, ↓Xn, ↓Xo, ↓Xg, ↓Xd, ↓Xe, ↓Xf, Tryz.VΓ, Tryz.Γs, Xp, Xi, Nat.reduceAdd, Nat.reduceSub, Nat.reduceLT, Nat.reduceLeDiff, reduceIte, reduceCtorEq, Nat.reduceEqDiff, implies_true, forall_const, lawV, lawB, beq_self_eq_true, bne_self_eq_false, Int.reduceBEq, Int.reduceBNe, Int.reduceLT, Int.reduceLE, u5, u6, v5, v6, t3, w1, Bool.not_true])
    simp only [if_true] at hT
    subst hT
    subst q
    exact ⟨ho, (by
      refine OkD_ren (fun n => if n = bs.length + 1 then 0 else 1) ?_
      simp only [List.map_cons, List.map_nil, renRk, renT, reduceIte, w2, w0]
      exact OkD_fast (by kernel_rfl)), ((hkb.app _).app _).set (by omega) _, x, rfl, ((hsl.app _).app _).setc (v6 _ _) _⟩
theorem ec_flat (L : List (Url × Int × Int)) : flat.flatL (L.flatMap ec) = true := by
  induction L with
  | nil => rfl
  | cons a L ih => rw [List.flatMap_cons]; simp [ec, uc, flat.flatL, flat, ih]
theorem ec_one (L : List (Url × Int × Int)) : (L.flatMap ec).all Vc.one = true := by
  induction L with
  | nil => rfl
  | cons a L ih => rw [List.flatMap_cons, List.all_append, ih]; rfl
theorem uc_flat (L : List Url) : flat.flatL (L.flatMap uc) = true := by
  induction L with
  | nil => rfl
  | cons a L ih => rw [List.flatMap_cons]; simp [uc, flat.flatL, flat, ih]
theorem uc_one (L : List Url) : (L.flatMap uc).all Vc.one = true := by
  induction L with
  | nil => rfl
  | cons a L ih => rw [List.flatMap_cons, List.all_append, ih]; rfl
theorem fc_flat (L : List (Bytes × Bytes)) : flat.flatL (L.flatMap fc) = true := by
  induction L with
  | nil => rfl
  | cons a L ih => rw [List.flatMap_cons]; simp [fc, flat.flatL, flat, ih]
theorem tidyB_kp (e s : Nat) (bs : List Res) (c : List SV) (n : Nat) : Kp bs (tidyB e s bs c n) := by
  unfold tidyB
  split
  · exact Kp.refl _
  · exact (Kp.refl _).app _
theorem tidy_sl (e s : Nat) (bs : List Res) (c : List SV) (n : Nat) (h : n = 0 → c = []) : Sl1 e s bs.length (tidyR bs n) (tidyB e s bs c n) c n := by
  unfold tidyR tidyB
  by_cases hn : n = 0
  · rw [if_pos hn, if_pos hn]; exact .inl ⟨rfl, h hn, hn⟩
  · rw [if_neg hn, if_neg hn]; exact .inr ⟨_, rfl, by omega, Nat.le_refl _, at_new _ _⟩
theorem Sx.setc {e s i : Nat} {x : SV} {b : List Res} {c cs : List SV} {n T : Nat} {m : Bool} (h : Sx e s x b c n) (hi : b[i]? = some (.cells cs T m)) (Z : Res) : Sx e s x (b.set i Z) c n := by
  rcases h with h | ⟨j, m', h1, h0, h3⟩
  · exact .inl h
  · exact .inr ⟨j, m', h1, h0, by rw [List.getElem?_set_ne (by rintro rfl; rw [hi] at h3; cases h3)]; exact h3⟩
theorem tidied {V : Cx} {f : FuncId} {args : List SV} {bs : List Res} {e s n : Nat} {c : List SV} (h0 : n = 0 → c = []) (h : SC V f args bs (fun r b => r = tidyR bs n ∧ b = tidyB e s bs c n)) : SC V f args bs (fun r b => Kp bs b ∧ Sl1 e s bs.length r b c n) :=
  h.mono fun r b ⟨h1, h2⟩ => by subst h1 h2; exact ⟨tidyB_kp _ _ _ _ _, tidy_sl _ _ _ _ _ h0⟩
theorem Sl1.one {e s L : Nat} {x : SV} {b : List Res} {c : List SV} {n : Nat} (h : Sl1 e s L x b c n) : Vc.one x = true := by rcases h with ⟨rfl, -⟩ | ⟨j, rfl, -⟩ <;> rfl
theorem Sl1.cells {e s L : Nat} {x : SV} {b : List Res} {c : List SV} {n : Nat} (h : Sl1 e s L x b c n) : Vc.cells x = [x] := by rcases h with ⟨rfl, -⟩ | ⟨j, rfl, -⟩ <;> rfl
theorem flat0 {ρ : Type} (cl : ρ → List SV) (L : List ρ) (h : L.length = 0) : L.flatMap cl = [] := by rw [List.length_eq_zero_iff.1 h]; rfl
set_option maxHeartbeats 4000000 in
theorem sc_copied {bs : List Res} (f : FetchS) {xs xt xf : SV} (hs : Sx 26 7 xs bs (f.seen.flatMap uc) f.seen.length) (ht : Sx 62 9 xt bs (f.trace.flatMap ec) f.trace.length) (hf : Sx 31 2 xf bs (f.resp.fields.flatMap fc) f.resp.fields.length)
    (l1 : f.seen.length ≤ 1000) (l2 : f.trace.length ≤ 1000) (l3 : f.resp.fields.length ≤ 1000) :
    SC Tryz.V 19 [.agg (fcells f xs xt xf)] bs (fun r b => Kp bs b ∧ ∃ ys yt yf, r = .agg (fcells f ys yt yf) ∧ Sl1 26 7 bs.length ys b (f.seen.flatMap uc) f.seen.length ∧ Sl1 62 9 bs.length yt b (f.trace.flatMap ec) f.trace.length ∧ Sl1 31 2 bs.length yf b (f.resp.fields.flatMap fc) f.resp.fields.length) := by
  have hw1 := hs.within
  have hw2 := ht.within
  have hw3 := hf.within
  have hil : Vc.within.withinL bs.length (fcells f xs xt xf) = true := by simp [fcells, rcells, uc, within, within.withinL, hw1, hw2, hw3]
  have k1 := uc_len f.seen
  have k2 := ec_len f.trace
  have k3 := fc_len f.resp.fields
  refine sc_of 3000 Tryz.func19 rfl Tryz.ntmps19 Tryz.results19 Tryz.call19 (by simp) (fun β β' hb => concL_within bs.length _ (by simp [within, within.withinL, hil]) β β' hb) ?_
  have c1 := fun (B : List Res) (h : Sx 26 7 xs B (f.seen.flatMap uc) f.seen.length) => tidied (flat0 uc f.seen) (sc_CloneU h (uc_flat _) (uc_one _) k1 (by omega))
  have c2 := fun (B : List Res) (h : Sx 62 9 xt B (f.trace.flatMap ec) f.trace.length) => tidied (flat0 ec f.trace) (sc_CloneE h (ec_flat _) (ec_one _) k2 (by omega))
  have c3 := fun (B : List Res) (h : Sx 31 2 xf B (f.resp.fields.flatMap fc) f.resp.fields.length) => tidied (flat0 fc f.resp.fields) (sc_CloneF h (fc_flat _) (fc_one _) k3 (by omega))
  generalize f.seen.flatMap uc = C1 at c1 hs ⊢
  generalize f.trace.flatMap ec = C2 at c2 ht ⊢
  generalize f.resp.fields.flatMap fc = C3 at c3 hf ⊢
  generalize f.seen.length = N1 at c1 hs ⊢
  generalize f.trace.length = N2 at c2 ht ⊢
  generalize f.resp.fields.length = N3 at c3 hf ⊢
  unfold fcells rcells uc
  simp only [List.cons_append, List.nil_append]
  simp only [lawG, ↓Xn, ↓Xo, ↓Xg, ↓Xd, ↓Xe, ↓Xf, Tryz.VΓ, Tryz.Γs, Xp, Xi, Nat.reduceAdd, Nat.reduceSub, Nat.reduceLT, Nat.reduceLeDiff, reduceIte, reduceCtorEq, Nat.reduceEqDiff, implies_true, forall_const, lawV, lawB, beq_self_eq_true, bne_self_eq_false, Int.reduceBEq, Int.reduceBNe, Int.reduceLT, Int.reduceLE]
  refine callV_sc (c1 _ ((hs.app _).app _)) ?_
  rintro ys b ⟨hk1, hsl1⟩
  replace hsl1 := hsl1.low (L' := bs.length) (by simp)
  have a0 := hk1.at (at_old (at_new _ _) _)
  have a1 := hk1.at (at_new _ _)
  have kb1 := (((Kp.refl bs).app _).app _).trans hk1
  rw [show ∀ X : Res, (bs ++ [X]).length = bs.length + 1 from fun X => by simp] at a1 ⊢
  have hbl : bs.length + 1 < b.length := (List.getElem?_eq_some_iff.1 a1).1
  have ho1 := hsl1.one
  have he1 := hsl1.cells
  have t0 : ∀ X, (b.set bs.length X)[bs.length]? = some X := fun X => List.getElem?_set_self (by omega)
  simp only [lawG, ↓Xn, ↓Xo, ↓Xg, ↓Xd, ↓Xe, ↓Xf, Tryz.VΓ, Tryz.Γs, Xp, Xi, Nat.reduceAdd, Nat.reduceSub, Nat.reduceLT, Nat.reduceLeDiff, reduceIte, reduceCtorEq, Nat.reduceEqDiff, implies_true, forall_const, lawV, lawB, beq_self_eq_true, bne_self_eq_false, Int.reduceBEq, Int.reduceBNe, Int.reduceLT, Int.reduceLE, a0, a1, t0, ho1, he1, List.cons_append, List.nil_append]
  refine callV_sc (c2 _ (((ht.kp kb1)).setc a0 _)) ?_
  rintro yt b2 ⟨hk2, hsl2⟩
  replace hsl2 := hsl2.low (L' := bs.length) (by simp; omega)
  have a20 := hk2.at (t0 _)
  have a21 := hk2.at ((List.getElem?_set_ne (by omega)).trans a1)
  have kb2 := (kb1.set (Nat.le_refl _) _).trans hk2
  replace hsl1 := (hsl1.setc a0 _).kp hk2
  clear hk2
  have hbl2 : bs.length + 1 < b2.length := (List.getElem?_eq_some_iff.1 a21).1
  have ho2 := hsl2.one
  have he2 := hsl2.cells
  have t20 : ∀ X, (b2.set bs.length X)[bs.length]? = some X := fun X => List.getElem?_set_self (by omega)
  simp only [lawG, ↓Xn, ↓Xo, ↓Xg, ↓Xd, ↓Xe, ↓Xf, Tryz.VΓ, Tryz.Γs, Xp, Xi, Nat.reduceAdd, Nat.reduceSub, Nat.reduceLT, Nat.reduceLeDiff, reduceIte, reduceCtorEq, Nat.reduceEqDiff, implies_true, forall_const, lawV, lawB, beq_self_eq_true, bne_self_eq_false, Int.reduceBEq, Int.reduceBNe, Int.reduceLT, Int.reduceLE, a20, a21, t20, ho2, he2, List.cons_append, List.nil_append]
  refine callV_sc (c3 _ (((hf.kp kb2)).setc a20 _)) ?_
  rintro yf b3 ⟨hk3, hsl3⟩
  replace hsl3 := hsl3.low (L' := bs.length) (by simp; omega)
  have a30 := hk3.at (t20 _)
  have a31 := hk3.at ((List.getElem?_set_ne (by omega)).trans a21)
  have kb3 := (kb2.set (Nat.le_refl _) _).trans hk3
  replace hsl1 := (hsl1.setc a20 _).kp hk3
  replace hsl2 := (hsl2.setc a20 _).kp hk3
  clear hk3
  have hbl3 : bs.length + 1 < b3.length := (List.getElem?_eq_some_iff.1 a31).1
  have ho3 := hsl3.one
  have he3 := hsl3.cells
  have t30 : ∀ X, (b3.set bs.length X)[bs.length]? = some X := fun X => List.getElem?_set_self (by omega)
  have v31 := fun X => (List.getElem?_set_ne (l := b3) (i := bs.length) (j := bs.length + 1) (a := X) (by omega)).trans a31
  have v32 : ∀ X Y, ((b3.set bs.length X).set (bs.length + 1) Y)[bs.length + 1]? = some Y := fun X Y => List.getElem?_set_self (by simp; omega)
  simp only [lawG, ↓Xn, ↓Xo, ↓Xg, ↓Xd, ↓Xe, ↓Xf, Tryz.VΓ, Tryz.Γs, Xp, Xi, Nat.reduceAdd, Nat.reduceSub, Nat.reduceLT, Nat.reduceLeDiff, reduceIte, reduceCtorEq, Nat.reduceEqDiff, implies_true, forall_const, lawV, lawB, beq_self_eq_true, bne_self_eq_false, Int.reduceBEq, Int.reduceBNe, Int.reduceLT, Int.reduceLE, a30, a31, t30, v31, v32, ho1, ho2, ho3, he3, List.cons_append, List.nil_append]
  exact ⟨(kb3.set (Nat.le_refl _) _).set (by omega) _, ys, yt, yf, rfl, (hsl1.setc a30 _).setc (v31 _) _, (hsl2.setc a30 _).setc (v31 _) _, (hsl3.setc a30 _).setc (v31 _) _⟩
theorem fcells_within {n : Nat} {f : FetchS} {xs xt xf : SV} (h1 : Vc.within n xs = true) (h2 : Vc.within n xt = true) (h3 : Vc.within n xf = true) : Vc.within.withinL n (fcells f xs xt xf) = true := by simp [fcells, rcells, uc, within, within.withinL, h1, h2, h3]
set_option maxHeartbeats 4000000 in
theorem sc_fetch_Start {bs : List Res} (u : Url) (hu : Fair u) :
    SC Tryz.V 14 [.agg (uc u)] bs (fun r b => Kp bs b ∧ ∃ ys, r = .agg (fcells (fetchStart u) ys .nils .nils) ∧ Sl1 26 7 bs.length ys b ((fetchStart u).seen.flatMap uc) (fetchStart u).seen.length) := by
  have p1 := p_url_Valid u hu
  refine sc_of 3000 Tryz.func14 rfl Tryz.ntmps14 Tryz.results14 Tryz.call14 (by simp) (fun β β' hb => concL_within bs.length _ (by simp [within, within.withinL, uc]) β β' hb) ?_
  unfold wsv at p1
  unfold uc
  generalize hT : fetchStart u = T
  unfold fetchStart at hT
  cases hv : urlValid u
  · rw [hv] at p1 hT
    simp only [if_true] at hT
    simp only [lawG, ↓Xn, ↓Xo, ↓Xg, ↓Xd, ↓Xe, ↓Xf, Tryz.VΓ, Tryz.Γs, Xp, Xi, Nat.reduceAdd, Nat.reduceSub, Nat.reduceLT, Nat.reduceLeDiff, reduceIte, reduceCtorEq, Nat.reduceEqDiff, implies_true, forall_const, lawV, lawB, beq_self_eq_true, bne_self_eq_false, Int.reduceBEq, Int.reduceBNe, Int.reduceLT, Int.reduceLE]
    (refine callV_pc (p1) ?_; simp only [lawG, ↓Xn, ↓Xo, ↓Xg, ↓Xd, ↓Xe, ↓Xf, Tryz.VΓ, Tryz.Γs, Xp, Xi, Nat.reduceAdd, Nat.reduceSub, Nat.reduceLT, Nat.reduceLeDiff, reduceIte, reduceCtorEq, Nat.reduceEqDiff, implies_true, forall_const, lawV, lawB, beq_self_eq_true, bne_self_eq_false, Int.reduceBEq, Int.reduceBNe, Int.reduceLT, Int.reduceLE, Bool.not_false])
    subst hT
    exact ⟨((Kp.refl _).app _).app _, .nils, rfl, .inl ⟨rfl, rfl, rfl⟩⟩
  · rw [hv] at p1 hT
    simp only [Bool.true_eq_false, if_false] at hT
    simp only [lawG, ↓Xn, ↓Xo, ↓Xg, ↓Xd, ↓Xe, ↓Xf, Tryz.VΓ, Tryz.Γs, Xp, Xi, Nat.reduceAdd, Nat.reduceSub, Nat.reduceLT, Nat.reduceLeDiff, reduceIte, reduceCtorEq, Nat.reduceEqDiff, implies_true, forall_const, lawV, lawB, beq_self_eq_true, bne_self_eq_false, Int.reduceBEq, Int.reduceBNe, Int.reduceLT, Int.reduceLE]
    have w1 : ∀ X X' Y Z, (bs ++ [X] ++ [Y] ++ [Z])[(bs ++ [X']).length]? = some Y := fun X X' Y Z => by
      rw [show (bs ++ [X']).length = (bs ++ [X]).length by simp]; exact at_old (at_new _ _) _
    have w2 : ∀ X X' Y Z W, ((bs ++ [X] ++ [Y] ++ [Z]).set (bs ++ [X']).length W)[(bs ++ [X']).length]? = some W := fun X X' Y Z W => List.getElem?_set_self (by simp)
    have w3 : ∀ X X' Y Z W A B, ((bs ++ [X] ++ [Y] ++ [Z]).set (bs ++ [X']).length W)[(bs ++ [A] ++ [B]).length]? = some Z := fun X X' Y Z W A B => by
      rw [List.getElem?_set_ne (by simp), show (bs ++ [A] ++ [B]).length = (bs ++ [X] ++ [Y]).length by simp]; exact at_new _ _
    have z1 : ∀ X, ((bs ++ [X]).length = bs.length) = False := fun X => by simp
    have z2 : ∀ X Y, ((bs ++ [X] ++ [Y]).length = bs.length) = False := fun X Y => by simp
    (refine callV_pc (p1) ?_; simp only [lawG, ↓Xn, ↓Xo, ↓Xg, ↓Xd, ↓Xe, ↓Xf, Tryz.VΓ, Tryz.Γs, Xp, Xi, Nat.reduceAdd, Nat.reduceSub, Nat.reduceLT, Nat.reduceLeDiff, reduceIte, reduceCtorEq, Nat.reduceEqDiff, implies_true, forall_const, lawV, lawB, beq_self_eq_true, bne_self_eq_false, Int.reduceBEq, Int.reduceBNe, Int.reduceLT, Int.reduceLE, Bool.not_true, w1, w2])
    subst hT
    exact ⟨by omega, ((((Kp.refl _).app _).app _).app _).set (by simp) _, _, rfl, .inr ⟨_, rfl, by simp, by simp, w3 _ _ _ _ _ _ _⟩⟩
end Go.Proofs.YtfmafmgbfamaiaaGreatDoor
/- The walk of fetch.Step. -/
set_option linter.all false
set_option maxRecDepth 20000
namespace Go.Proofs.YtfmafmgbfamaiaaGreatDoor
open Go Vc Go.RowKit Wf
set_option linter.unusedSimpArgs false
def FsR (lo : Nat) (T : FetchS) (r : SV) (b : List Res) : Prop := ∃ ys yt yf, r = .agg (fcells T ys yt yf) ∧ Sl1 26 7 lo ys b (T.seen.flatMap uc) T.seen.length ∧ Sl1 62 9 lo yt b (T.trace.flatMap ec) T.trace.length ∧ Sl1 31 2 lo yf b (T.resp.fields.flatMap fc) T.resp.fields.length
theorem dst_any {e s lo n : Nat} {x : SV} {b : List Res} {c : List SV} (h : Sl1 e s lo x b c n) : ∃ D : Res → Res → List Res, ∀ X Y, dstS (b ++ [X] ++ [Y]) e s x = some (n, c, D X Y) ∧ (D X Y).length = b.length + 2 ∧
    (∀ (k : Nat) r, (b ++ [X] ++ [Y])[k]? = some r → (∀ c' n' m', r ≠ .own c' e s n' m') → (D X Y)[k]? = some r) ∧ (∀ bs : List Res, bs.length = lo → Kp bs b → Kp bs (D X Y)) := by
  rcases h with ⟨rfl, rfl, rfl⟩ | ⟨j, rfl, h0, hl, hj⟩
  · exact ⟨fun X Y => b ++ [X] ++ [Y], fun X Y => ⟨rfl, by simp, fun k r h _ => h, fun bs _ h => (h.app _).app _⟩⟩
  · refine ⟨fun X Y => (b ++ [X] ++ [Y]).set j .gone, fun X Y => ⟨by simp only [dstS, at_old (at_old hj [X]) [Y], and_self, if_true], by simp, fun k r h hn => ?_, fun bs hb h => ((h.app _).app _).set (by omega) _⟩⟩
    rw [List.getElem?_set_ne]
    · exact h
    · rintro rfl
      rw [at_old (at_old hj [X]) [Y]] at h
      exact hn _ _ _ (Option.some.inj h).symm
theorem Sl1.via {e s lo n : Nat} {x : SV} {b b' : List Res} {c : List SV} (h : Sl1 e s lo x b c n) (k : ∀ (k : Nat) r, b[k]? = some r → (∃ c' n' m', r = .own c' e s n' m') → b'[k]? = some r) : Sl1 e s lo x b' c n := by
  rcases h with h | ⟨j, h1, h0, h2, h3⟩
  · exact .inl h
  · exact .inr ⟨j, h1, h0, h2, k _ _ h3 ⟨_, _, _, rfl⟩⟩
theorem Sx.sq {e s n : Nat} {x : SV} {b : List Res} {c : List SV} (h : Sx e s x b c n) : Sq e s x b c n := by
  rcases h with h | ⟨j, m, h1, h0, h3⟩
  · exact .inl h
  · exact .inr ⟨j, m, h1, h3⟩
theorem sc_redir_NextX {bs : List Res} {x : SV} {fs : List (Bytes × Bytes)} (hx : Sx 31 2 x bs (fs.flatMap fc) fs.length) (hn : fs.length ≤ 64) (hl : hsum fs ≤ 16384) (a c : Int)
    {sn : SV} {L : List Url} (hi : Sx 26 7 sn bs (L.flatMap uc) L.length) (hL : L.length ≤ 1000000) (u : Url) (fu : Fair u) (hops : Int) :
    SC Tryz.V 22 [wsv u, .agg [.int .i64 a, .int .i64 c, x], sn, .int .i64 hops] bs (fun r b => r = .tup [wsv (redirNext u fs L hops).1, .int .i64 (redirNext u fs L hops).2] ∧ Kp bs b) := by
  have h3 : ∀ f ∈ fs, f.1.length ≤ 9223372036854775807 := fun f hf => by have := hsum_mem f hf; omega
  rcases hx with ⟨rfl, hc, h0⟩ | ⟨j, m, rfl, h0, hj⟩
  · obtain rfl : fs = [] := List.length_eq_zero_iff.1 h0
    refine sc_phantom (args' := [wsv u, .agg [.int .i64 a, .int .i64 c, .o bs.length 0], sn, .int .i64 hops]) (e := 31) (s := 2) (m := false) ((sc_redir_Next (fs := []) (m := false) (at_new _ _) (by simp) h3 a c (hi.app _).sq hL u fu hops).mono fun r b h => ⟨h.1, Kp.unphantom h.2⟩) (fun β => ?_)
    rcases hi with ⟨rfl, -⟩ | ⟨j, m, rfl, -, hj⟩
    · simp [concL, conc, upd, oV, wsv]
    · have := (List.getElem?_eq_some_iff.1 hj).1
      simp [concL, conc, upd, oV, wsv, Nat.ne_of_lt this]
  · exact sc_redir_Next hj (by omega) h3 a c hi.sq hL u fu hops
theorem reply_le (L : List Ans) (now : Int) (u : Url) : (replyOf L now u).1.fields.length ≤ 64 ∧ hsum (replyOf L now u).1.fields ≤ 16384 := by
  unfold replyOf
  have := headParse_le (worldAsk L u now).1
  have h0 : Resp.none.fields.length ≤ 64 ∧ hsum Resp.none.fields ≤ 16384 := ⟨by decide, by decide⟩
  repeat' split
  · exact h0
  · exact h0
  · exact ⟨this.1, this.2.1⟩
  · exact ⟨this.1, this.2.1⟩
set_option maxHeartbeats 8000000 in
theorem sc_fetch_Step {bs : List Res} {j : Nat} {L : List Ans} {m : Bool} (hj : bs[j]? = some (.own (L.flatMap ac) 35 7 L.length m)) (hL : L.length ≤ 1000000) (hr : ∀ a ∈ L, a.raw.length ≤ 4000000) (now : Int) (f : FetchS) (hu : f.done = false → Fair f.next) (hh : -9223372036854775808 ≤ f.hops ∧ f.hops ≤ 1000)
    {xs xt xf : SV} (hs : Sx 26 7 xs bs (f.seen.flatMap uc) f.seen.length) (ht : Sx 62 9 xt bs (f.trace.flatMap ec) f.trace.length) (hf : Sx 31 2 xf bs (f.resp.fields.flatMap fc) f.resp.fields.length)
    (l1 : f.seen.length ≤ 900) (l2 : f.trace.length ≤ 900) (l3 : f.resp.fields.length ≤ 900) :
    SC Tryz.V 15 [.o j L.length, .int .u64 now, .agg (fcells f xs xt xf)] bs (fun r b => Kp bs b ∧ FsR bs.length (fetchStep L now f) r b) := by
  have hjl : j < bs.length := (List.getElem?_eq_some_iff.1 hj).1
  have hil := fcells_within (f := f) hs.within ht.within hf.within
  have c1 := fun (B : List Res) h1 h2 h3 => sc_copied (bs := B) f (xs := xs) (xt := xt) (xf := xf) h1 h2 h3 (by omega) (by omega) (by omega)
  have r1 := fun (B : List Res) (h : B[j]? = some (.own (L.flatMap ac) 35 7 L.length m)) (q : f.done = false) => sc_reply_Of h hL hr now f.next (hu q)
  generalize hT : fetchStep L now f = T
  unfold fetchStep at hT
  refine sc_of 3000 Tryz.func15 rfl Tryz.ntmps15 Tryz.results15 Tryz.call15 (by simp) (fun β β' hb => concL_within bs.length _ (by simp [within, within.withinL, hjl, hil]) β β' hb) ?_
  unfold fcells rcells at c1 ⊢
  unfold uc at c1 r1 ⊢
  simp only [List.cons_append, List.nil_append] at c1 r1 ⊢
  simp only [lawG, ↓Xn, ↓Xo, ↓Xg, ↓Xd, ↓Xe, ↓Xf, Tryz.VΓ, Tryz.Γs, Xp, Xi, Nat.reduceAdd, Nat.reduceSub, Nat.reduceLT, Nat.reduceLeDiff, reduceIte, reduceCtorEq, Nat.reduceEqDiff, implies_true, forall_const, lawV, lawB, beq_self_eq_true, bne_self_eq_false, Int.reduceBEq, Int.reduceBNe, Int.reduceLT, Int.reduceLE]
  refine callV_sc (c1 _ ((hs.app _).app _) ((ht.app _).app _) ((hf.app _).app _)) ?_
  rintro r b ⟨hk, ys, yt, yf, rfl, hsl1, hsl2, hsl3⟩
  replace hsl1 := hsl1.low (L' := bs.length) (by simp)
  replace hsl2 := hsl2.low (L' := bs.length) (by simp)
  replace hsl3 := hsl3.low (L' := bs.length) (by simp)
  have a0 := hk.at (at_old (at_new _ _) _)
  have a1 := hk.at (at_new _ _)
  have kb := (((Kp.refl bs).app _).app _).trans hk
  rw [show ∀ X : Res, (bs ++ [X]).length = bs.length + 1 from fun X => by simp] at a1 ⊢
  clear hk c1
  have hbl : bs.length + 1 < b.length := (List.getElem?_eq_some_iff.1 a1).1
  have ho1 := hsl1.one
  have ho2 := hsl2.one
  have ho3 := hsl3.one
  have t0 : ∀ X, (b.set bs.length X)[bs.length]? = some X := fun X => List.getElem?_set_self (by omega)
  have v1 := fun X => (List.getElem?_set_ne (l := b) (i := bs.length) (j := bs.length + 1) (a := X) (by omega)).trans a1
  have v2 : ∀ X Y, ((b.set bs.length X).set (bs.length + 1) Y)[bs.length + 1]? = some Y := fun X Y => List.getElem?_set_self (by simp; omega)
  simp only [lawG, ↓Xn, ↓Xo, ↓Xg, ↓Xd, ↓Xe, ↓Xf, Tryz.VΓ, Tryz.Γs, Xp, Xi, Nat.reduceAdd, Nat.reduceSub, Nat.reduceLT, Nat.reduceLeDiff, reduceIte, reduceCtorEq, Nat.reduceEqDiff, implies_true, forall_const, lawV, lawB, beq_self_eq_true, bne_self_eq_false, Int.reduceBEq, Int.reduceBNe, Int.reduceLT, Int.reduceLE, a0, a1, t0, v1, v2, ho1, ho2, ho3]
  refine ⟨fun q => ?_, fun q => ?_⟩
  · rw [if_pos q] at hT
    subst hT
    exact ⟨(kb.set (Nat.le_refl _) _).set (by omega) _, ys, yt, yf, rfl, (hsl1.setc a0 _).setc (v1 _) _, (hsl2.setc a0 _).setc (v1 _) _, (hsl3.setc a0 _).setc (v1 _) _⟩
  rw [if_neg (by rw [q]; simp)] at hT
  have hu := hu q
  refine callV_sc (r1 _ ((kb.set (Nat.le_refl _) _).at hj) q) ?_
  rintro r b2 ⟨hk, x, rfl, hslx⟩
  have b0 := hk.at (t0 _)
  have b1 := hk.at (v1 _)
  have kb2 := (kb.set (Nat.le_refl _) _).trans hk
  replace hsl1 := (hsl1.setc a0 _).kp hk
  replace hsl2 := (hsl2.setc a0 _).kp hk
  replace hslx := hslx.low (L' := bs.length) (by simp; omega)
  clear hk r1 t0 v1 v2 hsl3 ho3
  have hrs := reply_le L now f.next
  have hru := reply_url L now f.next
  generalize replyOf L now f.next = R at hslx hT hrs hru ⊢
  obtain ⟨R, st, e⟩ := R
  simp only at hslx hT hrs hru ⊢
  have hbl2 : bs.length + 1 < b2.length := (List.getElem?_eq_some_iff.1 b1).1
  have ho3 := hslx.one
  have p1 := p_redir_Is st
  unfold rcells uc
  simp only [List.cons_append, List.nil_append]
  obtain ⟨D, hD⟩ := dst_any hsl2
  have hd := fun X Y => (hD X Y).1
  have hdl := fun X Y => (hD X Y).2.1
  have d0 : ∀ X Y Z, (D X Y ++ [Z])[bs.length]? = _ := fun X Y Z => at_old ((hD X Y).2.2.1 _ _ (at_old (at_old b0 [X]) [Y]) (by simp)) _
  have d1 : ∀ X Y Z, (D X Y ++ [Z])[bs.length + 1]? = _ := fun X Y Z => at_old ((hD X Y).2.2.1 _ _ (at_old (at_old b1 [X]) [Y]) (by simp)) _
  have t0 : ∀ X Y Z W, ((D X Y ++ [Z]).set bs.length W)[bs.length]? = some W := fun X Y Z W => List.getElem?_set_self (by simp [hdl]; omega)
  have c0 := fun X => at_old b0 [X]
  have c1 := fun X => at_old b1 [X]
  have cc0 := fun X Y => at_old (c0 X) [Y]
  simp only [lawG, ↓Xn, ↓Xo, ↓Xg, ↓Xd, ↓Xe, ↓Xf, Tryz.VΓ, Tryz.Γs, Xp, Xi, Nat.reduceAdd, Nat.reduceSub, Nat.reduceLT, Nat.reduceLeDiff, reduceIte, reduceCtorEq, Nat.reduceEqDiff, implies_true, forall_const, lawV, lawB, beq_self_eq_true, bne_self_eq_false, Int.reduceBEq, Int.reduceBNe, Int.reduceLT, Int.reduceLE, b0, b1, c0, c1, t0, d0, d1, cc0, hd, ho1, ho2, ho3]
  have hnT : ∀ X Y, (b2 ++ [X] ++ [Y]).length = b2.length + 2 := fun X Y => by simp
  rw [hnT]
  generalize hB : (D _ _ ++ [_]).set bs.length _ = B
  have g0 := (congrArg (fun l => l[bs.length]?) hB).symm.trans (t0 _ _ _ _)
  have g1 := (congrArg (fun l => l[bs.length + 1]?) hB).symm.trans ((List.getElem?_set_ne (by omega)).trans (d1 _ _ _))
  have g2 := (congrArg (fun l => l[b2.length]?) hB).symm.trans ((List.getElem?_set_ne (by omega)).trans (at_old ((hD _ _).2.2.1 _ _ (at_old (at_new _ _) _) (by simp)) _))
  have d3 : ∀ X Y Z, (D X Y ++ [Z])[b2.length + 2]? = some Z := fun X Y Z => by rw [← hdl X Y]; exact at_new _ _
  have g3 := (congrArg (fun l => l[b2.length + 2]?) hB).symm.trans ((List.getElem?_set_ne (by omega)).trans (d3 _ _ _))
  have gl : B.length = b2.length + 3 := by rw [← hB]; simp [hdl]
  have gk : Kp bs B := by rw [← hB]; exact (((hD _ _).2.2.2 _ rfl kb2).app _).set (Nat.le_refl _) _
  have s1 : Sl1 26 7 bs.length ys B (f.seen.flatMap uc) f.seen.length := by
    refine hsl1.via (fun k r hk ⟨c', n', m', hr⟩ => ?_)
    subst hr
    rw [← hB, List.getElem?_set_ne (by rintro rfl; rw [b0] at hk; cases hk)]
    exact at_old ((hD _ _).2.2.1 _ _ (at_old (at_old hk _) _) (by simp)) _
  have s2 : Sl1 31 2 bs.length x B (R.fields.flatMap fc) R.fields.length := by
    refine hslx.via (fun k r hk ⟨c', n', m', hr⟩ => ?_)
    subst hr
    rw [← hB, List.getElem?_set_ne (by rintro rfl; rw [b0] at hk; cases hk)]
    exact at_old ((hD _ _).2.2.1 _ _ (at_old (at_old hk _) _) (by simp)) _
  clear hB d0 d1 d3 t0 c0 c1 cc0 hd hdl hD D b0 b1 hsl1 hsl2 hslx a0 a1 kb hbl
  have hnq : bs.length + 1 < b2.length := hbl2
  have s00 : ∀ X, (B.set bs.length X)[bs.length]? = some X := fun X => List.getElem?_set_self (by omega)
  have s01 := fun X => (List.getElem?_set_ne (l := B) (i := bs.length) (j := bs.length + 1) (a := X) (by omega)).trans g1
  have s02 := fun X => (List.getElem?_set_ne (l := B) (i := bs.length) (j := b2.length) (a := X) (by omega)).trans g2
  have s03 := fun X => (List.getElem?_set_ne (l := B) (i := bs.length) (j := b2.length + 2) (a := X) (by omega)).trans g3
  have s11 : ∀ X Y, ((B.set bs.length X).set (bs.length + 1) Y)[bs.length + 1]? = some Y := fun X Y => List.getElem?_set_self (by simp; omega)
  have s13 := fun X Y => (List.getElem?_set_ne (l := B.set bs.length X) (i := bs.length + 1) (j := b2.length + 2) (a := Y) (by omega)).trans (s03 X)
  have p0 := fun X Y => (List.getElem?_set_ne (l := B.set bs.length X) (i := b2.length) (j := bs.length) (a := Y) (by omega)).trans (s00 X)
  have pq : ∀ X Y, ((B.set bs.length X).set b2.length Y)[b2.length]? = some Y := fun X Y => List.getElem?_set_self (by simp; omega)
  have p01 := fun X Y => (List.getElem?_set_ne (l := B.set bs.length X) (i := b2.length) (j := bs.length + 1) (a := Y) (by omega)).trans (s01 X)
  have p03 := fun X Y => (List.getElem?_set_ne (l := B.set bs.length X) (i := b2.length) (j := b2.length + 2) (a := Y) (by omega)).trans (s03 X)
  have q00 : ∀ X Y Z, (((B.set bs.length X).set b2.length Y).set bs.length Z)[bs.length]? = some Z := fun X Y Z => List.getElem?_set_self (by simp; omega)
  have q01 := fun X Y Z => (List.getElem?_set_ne (l := (B.set bs.length X).set b2.length Y) (i := bs.length) (j := bs.length + 1) (a := Z) (by omega)).trans (p01 X Y)
  have q03 := fun X Y Z => (List.getElem?_set_ne (l := (B.set bs.length X).set b2.length Y) (i := bs.length) (j := b2.length + 2) (a := Z) (by omega)).trans (p03 X Y)
  have q11 : ∀ X Y Z W, ((((B.set bs.length X).set b2.length Y).set bs.length Z).set (bs.length + 1) W)[bs.length + 1]? = some W := fun X Y Z W => List.getElem?_set_self (by simp; omega)
  have q13 := fun X Y Z W => (List.getElem?_set_ne (l := ((B.set bs.length X).set b2.length Y).set bs.length Z) (i := bs.length + 1) (j := b2.length + 2) (a := W) (by omega)).trans (q03 X Y Z)
  have hrow : f.trace.flatMap ec ++ ec (f.next, st, e) = (f.trace ++ [(f.next, st, e)]).flatMap ec := by rw [List.flatMap_append]; simp
  have hrl : (f.trace ++ [(f.next, st, e)]).length = f.trace.length + 1 := by simp
  have hend : ∀ b', b'[b2.length + 2]? = B[b2.length + 2]? → Sl1 62 9 bs.length (.o (b2.length + 2) (f.trace.length + 1)) b' ((f.trace ++ [(f.next, st, e)]).flatMap ec) (f.trace ++ [(f.next, st, e)]).length := fun b' h => by
    rw [hrl]
    exact .inr ⟨_, rfl, by omega, by omega, by rw [h, g3, ← hrow]; rfl⟩
  refine ⟨by omega, ⟨by unfold maxLen; omega, by omega⟩, fun q1 => ?_, fun q1 => ?_⟩
  · obtain rfl : e = 0 := by simpa using q1
    simp only [true_and, ne_eq, not_true, if_false] at hT
    refine callV_pc p1 ?_
    cases hrd : redirSt st
    · rw [hrd] at hT
      simp only [Bool.false_eq_true, if_false] at hT
      subst hT
      simp only [lawG, ↓Xn, ↓Xo, ↓Xg, ↓Xd, ↓Xe, ↓Xf, Tryz.VΓ, Tryz.Γs, Xp, Xi, Nat.reduceAdd, Nat.reduceSub, Nat.reduceLT, Nat.reduceLeDiff, reduceIte, reduceCtorEq, Nat.reduceEqDiff, implies_true, forall_const, lawV, lawB, beq_self_eq_true, bne_self_eq_false, Int.reduceBEq, Int.reduceBNe, Int.reduceLT, Int.reduceLE, g0, g1, g2, g3, s00, s01, s02, s11, p0, pq, p01, q00, q01, q11, ho1, ho2, ho3, List.set_set]
      exact ⟨(((gk.set (Nat.le_refl _) _).set (by omega) _).set (Nat.le_refl _) _).set (by omega) _, ys, _, x, rfl, (((s1.setc g0 _).setc (s02 _) _).setc (p0 _ _) _).setc (q01 _ _ _) _, hend _ ((q13 _ _ _ _).trans g3.symm), (((s2.setc g0 _).setc (s02 _) _).setc (p0 _ _) _).setc (q01 _ _ _) _⟩
    · rw [hrd] at hT
      simp only [if_true] at hT
      have m0 := fun X => at_old g0 [X]
      have m1 := fun X => at_old g1 [X]
      have m2 := fun X => at_old g2 [X]
      have n1 := fun X => sc_forget (by simp [flat, flat.flatL, wsv]) (sc_redir_NextX (bs := B ++ [X]) (s2.app _).sx hrs.1 hrs.2 R.minor R.status (s1.app _).sx (by omega) f.next hu f.hops)
      generalize redirNext f.next R.fields f.seen f.hops = N at n1 hT
      obtain ⟨v, e3⟩ := N
      simp only at n1 hT
      unfold wsv at n1
      have m3 : ∀ X Y, ((B ++ [X]).set B.length Y)[B.length]? = some Y := fun X Y => List.getElem?_set_self (by simp)
      have m4 : ∀ X Y, ((B ++ [X]).set B.length Y)[bs.length]? = _ := fun X Y => (List.getElem?_set_ne (by omega)).trans (m0 X)
      have m5 : ∀ X Y, ((B ++ [X]).set B.length Y)[bs.length + 1]? = _ := fun X Y => (List.getElem?_set_ne (by omega)).trans (m1 X)
      simp only [lawG, ↓Xn, ↓Xo, ↓Xg, ↓Xd, ↓Xe, ↓Xf, Tryz.VΓ, Tryz.Γs, Xp, Xi, Nat.reduceAdd, Nat.reduceSub, Nat.reduceLT, Nat.reduceLeDiff, reduceIte, reduceCtorEq, Nat.reduceEqDiff, implies_true, forall_const, lawV, lawB, beq_self_eq_true, bne_self_eq_false, Int.reduceBEq, Int.reduceBNe, Int.reduceLT, Int.reduceLE, g0, g1, g2, g3, m0, m1, m2, m3, m4, m5, ho1, ho2, ho3]
      have sa : ∀ X Y, (B ++ [X]).set B.length Y = B ++ [Y] := fun X Y => by simp
      have ma : ∀ X, (B ++ [X])[B.length]? = some X := fun X => at_new _ _
      refine callV_sc (n1 _) ?_
      rintro r b' ⟨rfl, rfl⟩
      obtain ⟨D, hD⟩ := dst_any s1
      have hd := fun X Y => (hD X Y).1
      have hdl := fun X Y => (hD X Y).2.1
      have e0 : ∀ X Y Z, (D X Y ++ [Z])[bs.length]? = _ := fun X Y Z => at_old ((hD X Y).2.2.1 _ _ (at_old (at_old g0 [X]) [Y]) (by simp)) _
      have e1 : ∀ X Y Z, (D X Y ++ [Z])[bs.length + 1]? = _ := fun X Y Z => at_old ((hD X Y).2.2.1 _ _ (at_old (at_old g1 [X]) [Y]) (by simp)) _
      have f0 : ∀ X Y Z W, ((D X Y ++ [Z]).set bs.length W)[bs.length]? = some W := fun X Y Z W => List.getElem?_set_self (by simp [hdl]; omega)
      have f1 := fun X Y Z W => (List.getElem?_set_ne (l := D X Y ++ [Z]) (i := bs.length) (j := bs.length + 1) (a := W) (by omega)).trans (e1 X Y Z)
      have f2 : ∀ X Y Z W V, (((D X Y ++ [Z]).set bs.length W).set (bs.length + 1) V)[bs.length + 1]? = some V := fun X Y Z W V => List.getElem?_set_self (by simp [hdl]; omega)
      have mm0 := fun X Y => at_old (m0 X) [Y]
      have u11 : ∀ X W V, (((B ++ [X]).set bs.length W).set (bs.length + 1) V)[bs.length + 1]? = some V := fun X W V => List.getElem?_set_self (by simp; omega)
      have u10 : ∀ X W, ((B ++ [X]).set bs.length W)[bs.length]? = some W := fun X W => List.getElem?_set_self (by simp; omega)
      have u01 := fun X W => (List.getElem?_set_ne (l := B ++ [X]) (i := bs.length) (j := bs.length + 1) (a := W) (by omega)).trans (m1 X)
      simp only [lawG, ↓Xn, ↓Xo, ↓Xg, ↓Xd, ↓Xe, ↓Xf, Tryz.VΓ, Tryz.Γs, Xp, Xi, Nat.reduceAdd, Nat.reduceSub, Nat.reduceLT, Nat.reduceLeDiff, reduceIte, reduceCtorEq, Nat.reduceEqDiff, implies_true, forall_const, lawV, lawB, beq_self_eq_true, bne_self_eq_false, Int.reduceBEq, Int.reduceBNe, Int.reduceLT, Int.reduceLE, g0, g1, g2, g3, m0, m1, m2, ma, sa, mm0, e0, e1, f0, f1, f2, u11, u10, u01, hd, ho1, ho2, ho3, List.set_set]
      have z1 : (B.length = bs.length) = False := by simp; omega
      have z2 : ∀ X, ((B ++ [X]).length = bs.length) = False := fun X => by simp; omega
      have z3 : ∀ X Y, ((B ++ [X] ++ [Y]).length = bs.length) = False := fun X Y => by simp; omega
      have z4 : ∀ X, ((B ++ [X]).length = B.length) = False := fun X => by simp
      have z5 : ∀ X Y, ((B ++ [X] ++ [Y]).length = B.length) = False := fun X Y => by simp
      refine ⟨fun q3 => ⟨by omega, ⟨by unfold maxLen; omega, by omega⟩, ⟨by omega, by omega⟩, ?_, ?_, ?_⟩, fun q3 => ?_⟩
      · refine OkD_ren (fun n => if n = bs.length then 0 else if n = B.length then 1 else 2) ?_
        rcases s1 with ⟨rfl, -⟩ | ⟨jj, rfl, -, -, hjj⟩
        · simp only [idxs, List.map_cons, List.map_nil, renRk, renT, reduceIte, z1, z2, z3, z4, z5]
          exact OkD_fast (by kernel_rfl)
        · have z6 : (jj = bs.length) = False := by
            simp only [eq_iff_iff, iff_false]
            rintro rfl; rw [g0] at hjj; cases hjj
          have z7 : (jj = B.length) = False := by
            have := (List.getElem?_eq_some_iff.1 hjj).1
            simp only [eq_iff_iff, iff_false]
            omega
          simp only [idxs, List.map_cons, List.map_nil, renRk, renT, reduceIte, z1, z2, z3, z4, z5, z6, z7]
          exact OkD_fast (by kernel_rfl)
      · exact ((((hD _ _).2.2.2 _ rfl gk).app _).set (Nat.le_refl _) _).set (by omega) _
      · obtain rfl : e3 = 0 := by simpa using q3
        rw [if_pos rfl] at hT
        subst hT
        have hy : ∀ X Y Z W V X' Y', (((D X Y ++ [Z]).set bs.length W).set (bs.length + 1) V)[(B ++ [X'] ++ [Y']).length]? = some Z := fun X Y Z W V X' Y' => by
          have e : (B ++ [X'] ++ [Y']).length = (D X Y).length := by rw [hdl]; simp
          rw [e, List.getElem?_set_ne (by rw [hdl]; omega), List.getElem?_set_ne (by rw [hdl]; omega)]
          exact at_new _ _
        have hz : ∀ X Y Z W V, (((D X Y ++ [Z]).set bs.length W).set (bs.length + 1) V)[b2.length + 2]? = B[b2.length + 2]? := fun X Y Z W V => by
          rw [List.getElem?_set_ne (by omega), List.getElem?_set_ne (by omega), g3]
          exact at_old ((hD X Y).2.2.1 _ _ (at_old (at_old g3 _) _) (by simp)) _
        refine ⟨_, _, .nils, by rw [q]; rfl, ?_, hend _ (hz _ _ _ _ _), .inl ⟨rfl, rfl, rfl⟩⟩
        rw [show (f.seen ++ [v]).length = f.seen.length + 1 by simp]
        exact .inr ⟨_, rfl, by omega, by simp; omega, by rw [hy, List.flatMap_append]; simp [uc]⟩
      · have q3 : e3 ≠ 0 := by simpa using q3
        rw [if_neg q3] at hT
        subst hT
        have hz : ∀ X W V, (((B ++ [X]).set bs.length W).set (bs.length + 1) V)[b2.length + 2]? = B[b2.length + 2]? := fun X W V => by
          rw [List.getElem?_set_ne (by omega), List.getElem?_set_ne (by omega), g3]
          exact at_old g3 _
        exact ⟨fun _ => ⟨((gk.app _).set (Nat.le_refl _) _).set (by omega) _, ys, _, .nils, rfl, ((s1.app _).setc (m0 _) _).setc (u01 _ _) _, hend _ (hz _ _ _), .inl ⟨rfl, rfl, rfl⟩⟩, fun h => absurd h (by simpa using q3)⟩
  · have q1 : e ≠ 0 := by simpa using q1
    rw [if_neg (fun h => q1 h.1), if_pos q1] at hT
    subst hT
    simp only [lawG, ↓Xn, ↓Xo, ↓Xg, ↓Xd, ↓Xe, ↓Xf, Tryz.VΓ, Tryz.Γs, Xp, Xi, Nat.reduceAdd, Nat.reduceSub, Nat.reduceLT, Nat.reduceLeDiff, reduceIte, reduceCtorEq, Nat.reduceEqDiff, implies_true, forall_const, lawV, lawB, beq_self_eq_true, bne_self_eq_false, Int.reduceBEq, Int.reduceBNe, Int.reduceLT, Int.reduceLE, g0, g1, g2, g3, s00, s01, s02, s11, p0, pq, p01, q00, q01, q11, ho1, ho2, ho3, List.set_set]
    exact ⟨fun _ => ⟨(gk.set (Nat.le_refl _) _).set (by omega) _, ys, _, .nils, rfl, (s1.setc g0 _).setc (s01 _) _, hend _ ((s13 _ _).trans g3.symm), .inl ⟨rfl, rfl, rfl⟩⟩, fun h => absurd h (by simpa using q1)⟩
end Go.Proofs.YtfmafmgbfamaiaaGreatDoor
/- The walk of fetch.Run. -/
set_option linter.all false
set_option maxRecDepth 20000
namespace Go.Proofs.YtfmafmgbfamaiaaGreatDoor
open Go Vc Go.RowKit Wf
set_option linter.unusedSimpArgs false
theorem can_fairF {u : Url} (hc : CanUrl u) : Fair u := by
  have h1 := hostPort_back hc.host
  have h2 := urlText_len u
  have h3 := hc.len
  have h4 : u.query.length ≤ 4096 := by
    cases hq : u.hasQuery
    · rw [hc.noq hq]; simp
    · have := h2.2.1 hq; omega
  have h5 : u.fragment.length ≤ 4096 := by
    cases hq : u.hasFrag
    · rw [hc.nof hq]; simp
    · have := h2.2.2 hq; omega
  exact ⟨by omega, by omega, by omega⟩
theorem run_open (L : List Ans) (now : Int) {u : Url} {k : Nat} (h : (fetchAfter L now u k).done = false) : k ≤ 5 ∧ Fair (fetchAfter L now u k).next ∧ (fetchAfter L now u k).hops = k ∧ (fetchAfter L now u k).seen.length = k + 1 ∧ (fetchAfter L now u k).trace.length = k ∧ (fetchAfter L now u k).resp = Resp.none := by
  cases hv : urlValid u with
  | false =>
    have h0 : (fetchAfter L now u 0).done = true := by unfold fetchAfter fetchStart; rw [if_pos hv]
    rw [after_done L now u h0 k (by omega), h0] at h
    cases h
  | true =>
    rcases after_open L now hv k with ⟨h1, h2⟩ | ⟨k', h1, h2, -, -⟩
    · have h3 := h1.le
      refine ⟨by omega, can_fairF (valid_can (h1.valid _ (by rw [h1.seen]; simp))), by rw [h1.hops, h2], ?_, h2, h1.resp⟩
      rw [h1.seen]; simp [h2]
    · rw [after_done L now u h2.done k h1, h2.done] at h
      cases h
theorem run_last (L : List Ans) (now : Int) {u : Url} {k : Nat} (hk : k ≤ 6) (h : (fetchAfter L now u k).done = true) : fetchAfter L now u k = fetchAfter L now u 6 := (after_done L now u h 6 hk).symm
def runM (i : Nat) (σ : St) : Nat := match σ.b[i]? with
  | some (.cells c _ _) => match c[7]?, c[8]? with
    | some (SV.int _ h), some (SV.bool false) => 7 - h.toNat
    | _, _ => 0
  | _ => 0
set_option maxHeartbeats 8000000 in
theorem sc_fetch_Run {bs : List Res} {j : Nat} {L : List Ans} {m : Bool} (hj : bs[j]? = some (.own (L.flatMap ac) 35 7 L.length m)) (hL : L.length ≤ 1000000) (hr : ∀ a ∈ L, a.raw.length ≤ 4000000) (now : Int) (u : Url) (hu : Fair u) :
    SC Tryz.V 7 [.o j L.length, .int .u64 now, .agg (uc u)] bs (fun r b => Kp bs b ∧ ∃ yt yf, r = .tup [.agg (rcells (fetchAfter L now u 6).resp yf yt), .int .i64 (fetchAfter L now u 6).err] ∧ Sl1 62 9 bs.length yt b ((fetchAfter L now u 6).trace.flatMap ec) (fetchAfter L now u 6).trace.length ∧ Sl1 31 2 bs.length yf b ((fetchAfter L now u 6).resp.fields.flatMap fc) (fetchAfter L now u 6).resp.fields.length) := by
  have hjl : j < bs.length := (List.getElem?_eq_some_iff.1 hj).1
  have s1 := fun X Y => sc_fetch_Start (bs := bs ++ [X] ++ [Y]) u hu
  refine sc_of 3000 Tryz.func7 rfl Tryz.ntmps7 Tryz.results7 Tryz.call7 (by simp) (fun β β' hb => concL_within bs.length _ (by simp [within, within.withinL, hjl, uc]) β β' hb) ?_
  have hA0 : fetchAfter L now u 0 = fetchStart u := rfl
  have hAs : ∀ k, fetchAfter L now u (k + 1) = fetchStep L now (fetchAfter L now u k) := fun _ => rfl
  have ro := fun k => run_open L now (u := u) (k := k)
  have rl := fun k => run_last L now (u := u) (k := k)
  generalize fetchAfter L now u = A at hA0 hAs ro rl ⊢
  generalize hF : A 6 = F
  unfold uc at s1 ⊢
  simp only [lawG, ↓Xn, ↓Xo, ↓Xg, ↓Xd, ↓Xe, ↓Xf, Tryz.VΓ, Tryz.Γs, Xp, Xi, Nat.reduceAdd, Nat.reduceSub, Nat.reduceLT, Nat.reduceLeDiff, reduceIte, reduceCtorEq, Nat.reduceEqDiff, implies_true, forall_const, lawV, lawB, beq_self_eq_true, bne_self_eq_false, Int.reduceBEq, Int.reduceBNe, Int.reduceLT, Int.reduceLE]
  refine callV_sc (s1 _ _) ?_
  rintro r b ⟨hk, ys, rfl, hsl⟩
  replace hsl := hsl.low (L' := bs.length) (by simp)
  have a1 := hk.at (at_new _ _)
  have kb := (((Kp.refl bs).app _).app _).trans hk
  rw [show ∀ X : Res, (bs ++ [X]).length = bs.length + 1 from fun X => by simp] at a1 ⊢
  have hbl : bs.length + 1 < b.length := (List.getElem?_eq_some_iff.1 a1).1
  clear hk s1
  have ho1 := hsl.one
  unfold fcells rcells uc
  simp only [List.cons_append, List.nil_append]
  simp only [lawG, ↓Xn, ↓Xo, ↓Xg, ↓Xd, ↓Xe, ↓Xf, Tryz.VΓ, Tryz.Γs, Xp, Xi, Nat.reduceAdd, Nat.reduceSub, Nat.reduceLT, Nat.reduceLeDiff, reduceIte, reduceCtorEq, Nat.reduceEqDiff, implies_true, forall_const, lawV, lawB, beq_self_eq_true, bne_self_eq_false, Int.reduceBEq, Int.reduceBNe, Int.reduceLT, Int.reduceLE, ho1]
  have hst : (fetchStart u).trace = [] ∧ (fetchStart u).resp = Resp.none := by unfold fetchStart; split <;> exact ⟨rfl, rfl⟩
  have u1 := fun X => at_old a1 [X]
  have hql : bs.length + 2 ≤ b.length := hbl
  have b8 := fun X => at_new b X
  have kbx := fun X => kb.app [X]
  have hsx := fun X => hsl.app [X]
  generalize hq : b.length = q at b8 hql ⊢
  refine loopV_mk (fun σ => ∃ (k : Nat) (xs xt xf : SV), k ≤ 6 ∧ lk 0 σ.t = some (.o j L.length) ∧ lk 1 σ.t = some (.int .u64 now) ∧ lk 6 σ.t = some (.p (bs.length + 1) 0) ∧ lk 8 σ.t = some (.p q 0) ∧
    σ.b[bs.length + 1]? = some (.cells [.str [], .int .i64 0, .str [], .str [], .str [], .bool false, .bool false, .int .i64 0, .int .i64 0, .nils, .str [], .nils] 40 true) ∧
    σ.b[q]? = some (.cells (fcells (A k) xs xt xf) 54 true) ∧ Kp bs σ.b ∧
    Sl1 26 7 bs.length xs σ.b ((A k).seen.flatMap uc) (A k).seen.length ∧ Sl1 62 9 bs.length xt σ.b ((A k).trace.flatMap ec) (A k).trace.length ∧ Sl1 31 2 bs.length xf σ.b ((A k).resp.fields.flatMap fc) (A k).resp.fields.length)
    (fun σ => runM q σ) ⟨0, ys, .nils, .nils, by omega, rfl, rfl, rfl, rfl, u1 _, by rw [hA0]; exact b8 _, kbx _, by rw [hA0]; exact hsx _, .inl ⟨rfl, by rw [hA0, hst.1]; rfl, by rw [hA0, hst.1]; rfl⟩, .inl ⟨rfl, by rw [hA0, hst.2]; rfl, by rw [hA0, hst.2]; rfl⟩⟩ ?_
  clear hst u1 b8 kbx hsx hq kb hsl a1 hbl ho1
  clear b
  rintro ⟨t, b⟩ ⟨k, xs, xt, xf, hk6, h0, h1, h6, h8, b1, b8, kb, hs1, hs2, hs3⟩
  simp only at h0 h1 h6 h8 b1 b8 kb hs1 hs2 hs3
  have hqb : q < b.length := (List.getElem?_eq_some_iff.1 b8).1
  have ho1 := hs1.one
  have ho2 := hs2.one
  have ho3 := hs3.one
  cases hd : (A k).done
  · obtain ⟨g1, g2, g3, g4, g5, g6⟩ := ro _ hd
    have st := sc_fetch_Step (kb.at hj) hL hr now (A k) (fun _ => g2) (by omega) hs1.sx hs2.sx hs3.sx (by omega) (by omega) (by rw [g6]; simp [Resp.none])
    rw [← hAs] at st
    have hm : runM q ⟨t, b⟩ = 7 - k := by
      unfold runM
      simp only [b8, fcells, rcells, uc, List.cons_append, List.nil_append, List.getElem?_cons_succ, List.getElem?_cons_zero, hd, g3]
      simp
    rw [hm]
    have hmn : ∀ (σ : St) (xs xt xf : SV), σ.b[q]? = some (.cells (fcells (A (k + 1)) xs xt xf) 54 true) → runM q σ < 7 - k := by
      rintro ⟨t', b'⟩ xs xt xf h
      unfold runM
      simp only at h ⊢
      simp only [h, fcells, rcells, uc, List.cons_append, List.nil_append, List.getElem?_cons_succ, List.getElem?_cons_zero]
      cases hd2 : (A (k + 1)).done
      · have := (ro _ hd2).2.2.1
        simp only [this]
        omega
      · simp only
        omega
    unfold fcells rcells uc at b8 st
    simp only [List.cons_append, List.nil_append, hd] at b8 st
    simp only [lawG, ↓Xn, ↓Xo, ↓Xg, ↓Xd, ↓Xe, ↓Xf, Tryz.VΓ, Tryz.Γs, Xp, Xi, Nat.reduceAdd, Nat.reduceSub, Nat.reduceLT, Nat.reduceLeDiff, reduceIte, reduceCtorEq, Nat.reduceEqDiff, implies_true, forall_const, lawV, lawB, beq_self_eq_true, bne_self_eq_false, Int.reduceBEq, Int.reduceBNe, Int.reduceLT, Int.reduceLE, h0, h1, h6, h8, b1, b8, hd, Bool.not_false]
    refine callV_sc st ?_
    rintro r b' ⟨hk', ys, yt, yf, rfl, hn1, hn2, hn3⟩
    have c8 := hk'.at b8
    have c1 := hk'.at b1
    have hqb' : q < b'.length := (List.getElem?_eq_some_iff.1 c8).1
    have t8 : ∀ X, (b'.set q X)[q]? = some X := fun X => List.getElem?_set_self hqb'
    have t1 := fun X => (List.getElem?_set_ne (l := b') (i := q) (j := bs.length + 1) (a := X) (by omega)).trans c1
    have i1 := hn1.one
    have i2 := hn2.one
    have i3 := hn3.one
    have m1 := (hn1.low (L' := bs.length) (by have := kb.1; omega)).setc c8
    have m2 := (hn2.low (L' := bs.length) (by have := kb.1; omega)).setc c8
    have m3 := (hn3.low (L' := bs.length) (by have := kb.1; omega)).setc c8
    have kb' := (kb.trans hk')
    unfold fcells rcells uc
    simp only [List.cons_append, List.nil_append]
    simp only [lawG, ↓Xn, ↓Xo, ↓Xg, ↓Xd, ↓Xe, ↓Xf, Tryz.VΓ, Tryz.Γs, Xp, Xi, Nat.reduceAdd, Nat.reduceSub, Nat.reduceLT, Nat.reduceLeDiff, reduceIte, reduceCtorEq, Nat.reduceEqDiff, implies_true, forall_const, lawV, lawB, beq_self_eq_true, bne_self_eq_false, Int.reduceBEq, Int.reduceBNe, Int.reduceLT, Int.reduceLE, h0, h1, h6, h8, c1, c8, t8, t1, i1, i2, i3]
    exact ⟨⟨k + 1, ys, yt, yf, by omega, rfl, kb'.set (by omega) _, m1 _, m2 _, m3 _⟩, hmn _ ys yt yf (t8 _)⟩
  · have hfe := rl _ hk6 hd
    rw [hF] at hfe
    rw [hfe] at b8 hs2 hs3
    have t1 : ∀ X, (b.set (bs.length + 1) X)[bs.length + 1]? = some X := fun X => List.getElem?_set_self (by omega)
    unfold fcells rcells uc at b8
    simp only [List.cons_append, List.nil_append] at b8
    rw [hfe] at hd
    simp only [lawG, ↓Xn, ↓Xo, ↓Xg, ↓Xd, ↓Xe, ↓Xf, Tryz.VΓ, Tryz.Γs, Xp, Xi, Nat.reduceAdd, Nat.reduceSub, Nat.reduceLT, Nat.reduceLeDiff, reduceIte, reduceCtorEq, Nat.reduceEqDiff, implies_true, forall_const, lawV, lawB, beq_self_eq_true, bne_self_eq_false, Int.reduceBEq, Int.reduceBNe, Int.reduceLT, Int.reduceLE, h0, h1, h6, h8, b1, b8, hd, Bool.not_true, t1, ho1, ho2, ho3]
    have hql2 : (q = bs.length + 1) = False := by simp; omega
    exact ⟨(by
      refine OkD_ren (fun n => if n = bs.length + 1 then 0 else 1) ?_
      simp only [List.map_cons, List.map_nil, renRk, renT, reduceIte, hql2]
      exact OkD_fast (by kernel_rfl)), kb.set (by omega) _, xt, xf, rfl, hs2.setc b1 _, hs3.setc b1 _⟩
end Go.Proofs.YtfmafmgbfamaiaaGreatDoor
/- Plain facts of the law on hops: its sanity check, and where its chains end. -/
set_option linter.all false
namespace Wf
open Go Go.RowKit
def rawOf (st : Nat) (fs : List (Bytes × Bytes)) (body : Bytes) (ch : Bool) : Bytes := if ch then headText st (fs ++ [(teN, chN)]) ++ encode 50 body else rawText st fs body
def aE : Bytes := ([97, 46, 101, 120, 97, 109, 112, 108, 101] : List UInt8)
def sU (p : Bytes) : Url := ⟨aE, 0, p, [], [], false, false⟩
def saneL : List Ans := [⟨aE, 0, [47], rawOf 302 [(locS, [47])] [] false, 0, 0, 0⟩, ⟨aE, 0, [47, 120], rawOf 200 [] [97, 98, 99] true, 0, 0, 0⟩]
def saneR1 : Bytes := ([72, 84, 84, 80, 47, 49, 46, 49, 32, 51, 48, 50, 32, 45, 13, 10, 108, 111, 99, 97, 116, 105, 111, 110, 58, 32, 47, 13, 10, 99, 111, 110, 116, 101, 110, 116, 45, 108, 101, 110, 103, 116, 104, 58, 32, 48, 13, 10, 13, 10] : List UInt8)
def saneR2 : Bytes := ([72, 84, 84, 80, 47, 49, 46, 49, 32, 50, 48, 48, 32, 45, 13, 10, 116, 114, 97, 110, 115, 102, 101, 114, 45, 101, 110, 99, 111, 100, 105, 110, 103, 58, 32, 99, 104, 117, 110, 107, 101, 100, 13, 10, 13, 10, 51, 13, 10, 97, 98, 99, 13, 10, 48, 13, 10, 13, 10] : List UInt8)
theorem sane_r1 : rawOf 302 [(locS, [47])] [] false = saneR1 := by
  unfold rawOf rawText headText
  rw [decS_three (st := 302) (by omega) (by omega)]
  simp only [List.length_nil, Bool.false_eq_true, if_false]
  rw [decS_small (n := 0) (by omega)]
  decide +kernel
theorem hexS_3 : hexS 3 = [51] := by rw [hexS_pos (by omega), hexS_zero]; rfl
theorem sane_enc : encode 50 [97, 98, 99] = ([51, 13, 10, 97, 98, 99, 13, 10, 48, 13, 10, 13, 10] : List UInt8) := by
  rw [encode_ne (by simp)]
  have h : chunkLen 50 ([97, 98, 99] : Bytes) = 3 := by decide
  rw [h, hexS_3]
  simp only [List.drop_succ_cons, List.drop_zero]
  rw [encode_nil]
  rfl
theorem sane_r2 : rawOf 200 [] [97, 98, 99] true = saneR2 := by
  unfold rawOf headText
  rw [decS_three (st := 200) (by omega) (by omega), sane_enc]
  decide +kernel
theorem saneL_eq : saneL = [⟨aE, 0, [47], saneR1, 0, 0, 0⟩, ⟨aE, 0, [47, 120], saneR2, 0, 0, 0⟩] := by unfold saneL; rw [sane_r1, sane_r2]
theorem sane_v1 : urlValid (sU [47]) = true := by decide +kernel
theorem sane_v2 : urlValid (sU [47, 120]) = true := by decide +kernel
theorem sane_q1 : replyOf saneL 0 (sU [47]) = (⟨sU [47], 1, 302, [(locS, [47]), (clN, [48])], []⟩, 302, 0) := by rw [saneL_eq]; decide +kernel
theorem sane_q2 : replyOf saneL 0 (sU [47, 120]) = (⟨sU [47, 120], 1, 200, [(teN, chN)], [97, 98, 99]⟩, 200, 0) := by rw [saneL_eq]; decide +kernel
theorem sane_n1 : redirNext (sU [47]) [(locS, [47]), (clN, [48])] [sU [47]] 0 = (Url.none, 251) := by decide +kernel
theorem sane_1 : fetchAfter saneL 0 (sU [47]) 6 = ⟨sU [47], 0, true, 251, Resp.none, [(sU [47], 302, 0)], [sU [47]]⟩ := by
  have h1 : fetchAfter saneL 0 (sU [47]) 1 = ⟨sU [47], 0, true, 251, Resp.none, [(sU [47], 302, 0)], [sU [47]]⟩ := by
    rw [fetchAfter, fetchAfter]
    unfold fetchStart
    rw [if_neg (by rw [sane_v1]; simp)]
    unfold fetchStep
    simp only [show (sU [47]).bare = sU [47] from rfl, sane_q1, sane_n1]
    rw [if_neg (by simp), if_pos (by decide), if_neg (by decide)]
    rfl
  rw [after_done saneL 0 _ (n := 1) (by rw [h1]) 6 (by omega), h1]
theorem sane_2 : fetchAfter saneL 0 (sU [47, 120]) 6 = ⟨sU [47, 120], 0, true, 0, ⟨sU [47, 120], 1, 200, [(teN, chN)], [97, 98, 99]⟩, [(sU [47, 120], 200, 0)], [sU [47, 120]]⟩ := by
  have h1 : fetchAfter saneL 0 (sU [47, 120]) 1 = ⟨sU [47, 120], 0, true, 0, ⟨sU [47, 120], 1, 200, [(teN, chN)], [97, 98, 99]⟩, [(sU [47, 120], 200, 0)], [sU [47, 120]]⟩ := by
    rw [fetchAfter, fetchAfter]
    unfold fetchStart
    rw [if_neg (by rw [sane_v2]; simp)]
    unfold fetchStep
    simp only [show (sU [47, 120]).bare = sU [47, 120] from rfl, sane_q2]
    rw [if_neg (by simp), if_neg (by decide), if_neg (by decide)]
    rfl
  rw [after_done saneL 0 _ (n := 1) (by rw [h1]) 6 (by omega), h1]
theorem chain_walk {H : Nat → Bytes} {st k : Nat} (hH : ∀ i, H i ∈ chainHosts) (hk : k ≤ 8) (h1 : 100 ≤ st) (h2 : st < 600) (hr : redirSt st = true) : ∀ m, m ≤ k → m ≤ 5 → fetchAfter (chainL H st k) 0 (chainUrl (H 0) 0) m = chainState H st m
  | 0, _, _ => chain_start hH st
  | m + 1, a, b => by rw [fetchAfter, chain_walk hH hk h1 h2 hr m (by omega) (by omega)]; exact chain_step hH hk h1 h2 hr (by omega) (by omega)
theorem chain_short {H : Nat → Bytes} {st k : Nat} (hH : ∀ i, H i ∈ chainHosts) (h1 : 100 ≤ st) (h2 : st < 600) (hr : redirSt st = true) (h5 : k ≤ 5) : (fetchAfter (chainL H st k) 0 (chainUrl (H 0) 0) 6).err = 0 ∧ (fetchAfter (chainL H st k) 0 (chainUrl (H 0) 0) 6).trace.length = k + 1 ∧ (fetchAfter (chainL H st k) 0 (chainUrl (H 0) 0) 6).resp.body = [101, 110, 100] := by
  have h : fetchAfter (chainL H st k) 0 (chainUrl (H 0) 0) (k + 1) = _ := (by rw [fetchAfter, chain_walk hH (by omega) h1 h2 hr k (by omega) h5] : _ = fetchStep (chainL H st k) 0 (chainState H st k)).trans (chain_end hH (by omega))
  rw [after_done _ _ _ (n := k + 1) (by rw [h]) 6 (by omega), h]
  simp
theorem chain_long {H : Nat → Bytes} {st k : Nat} (hH : ∀ i, H i ∈ chainHosts) (hk : k ≤ 8) (h1 : 100 ≤ st) (h2 : st < 600) (hr : redirSt st = true) (h5 : 5 < k) : (fetchAfter (chainL H st k) 0 (chainUrl (H 0) 0) 6).err = 250 ∧ (fetchAfter (chainL H st k) 0 (chainUrl (H 0) 0) 6).trace.length = 6 ∧ (fetchAfter (chainL H st k) 0 (chainUrl (H 0) 0) 6).resp.body = [] := by
  rw [show (6 : Nat) = 5 + 1 from rfl, fetchAfter, chain_walk hH hk h1 h2 hr 5 (by omega) (by omega), chain_over hH hk h1 h2 hr h5]
  simp [Resp.none]
end Wf
/- The walks of package made: decimal, Raw; and of the reference that writes heads. -/
set_option linter.all false
set_option maxRecDepth 20000
namespace Go.Proofs.YtfmafmgbfamaiaaGreatDoor
open Go Vc Go.RowKit Wf
set_option linter.unusedSimpArgs false
theorem rem_nat (x y : Nat) : divI .rem .i64 (x : Int) (y : Int) = ((x % y : Nat) : Int) := by
  have h : divI .rem .i64 (x : Int) (y : Int) = Int.tmod x y := rfl
  rw [h]
  first
  | exact (Int.ofNat_tmod x y).symm
  | exact Int.ofNat_tmod x y
  | (rw [Int.tmod_eq_emod_of_nonneg (by omega)]; omega)
theorem quo_nat (x y : Nat) (hx : x ≤ 9223372036854775807) : divI .quo .i64 (x : Int) (y : Int) = ((x / y : Nat) : Int) := by
  have h : divI .quo .i64 (x : Int) (y : Int) = IntKind.i64.wrap (Int.tdiv x y) := rfl
  have h2 : Int.tdiv (x : Int) y = ((x / y : Nat) : Int) := by
    first
    | exact (Int.ofNat_tdiv x y).symm
    | exact Int.ofNat_tdiv x y
    | (rw [Int.tdiv_eq_ediv_of_nonneg (by omega)]; omega)
  have h3 : x / y ≤ x := Nat.div_le_self x y
  rw [h, h2]
  generalize x / y = z at h3 ⊢
  simp [IntKind.wrap, IntKind.bits, IntKind.signed]
  omega
theorem p_made_decimal (n : Nat) (hn : n ≤ 1000000000) : PC Tryz.V 10 [.int .i64 n] (.str (decS n)) := by
  refine pc_of 3000 Tryz.func10 rfl Tryz.ntmps10 Tryz.results10 Tryz.call10 (by simp) (by simp [flat, flat.flatL]) (by simp [flat, flat.flatL]) ?_
  simp only [lawG, ↓Xn, ↓Xo, ↓Xg, ↓Xd, ↓Xe, ↓Xf, Tryz.VΓ, Tryz.Γs, Xp, Xi, Nat.reduceAdd, Nat.reduceSub, Nat.reduceLT, Nat.reduceLeDiff, reduceIte, reduceCtorEq, Nat.reduceEqDiff, implies_true, forall_const, lawV, beq_self_eq_true, bne_self_eq_false, Int.reduceBEq, Int.reduceBNe, Int.reduceLT, Int.reduceLE]
  refine loopV_mk (fun σ => ∃ (m : Nat) (l : Bytes), m ≤ 1000000000 ∧ l.length + (decS m).length = (decS n).length ∧ decS m ++ l = decS n ∧ lk 0 σ.t = some (.int .i64 m) ∧ lk 3 σ.t = some (.str l)) (fun σ => match lk 0 σ.t with | some (.int _ n) => n.toNat | _ => 0) ⟨n, [], hn, by simp, by simp, rfl, rfl⟩ ?_
  rintro ⟨t, b⟩ ⟨m, l, hm, hl, he, g0, g3⟩
  simp only at g0 g3
  have key2 : ∀ d : Nat, d < 10 → IntKind.u8.wrap (48 + (d : Int)) = ((dig d).toNat : Int) := by decide +kernel
  have kr := rem_nat m 10
  have kq := quo_nat m 10 (by omega)
  have kd := key2 (m % 10) (by omega)
  rw [show ((10 : Nat) : Int) = 10 from rfl] at kr kq
  have hu : isU8 (.int .u8 (dig (m % 10)).toNat) = true := by have := (dig (m % 10)).toNat_lt; simp [isU8]; omega
  have hv : unU8 (.int .u8 (dig (m % 10)).toNat) = dig (m % 10) := by simp [unU8]
  simp only [lawG, ↓Xn, ↓Xo, ↓Xg, ↓Xd, ↓Xe, ↓Xf, Tryz.VΓ, Tryz.Γs, Xp, Xi, Nat.reduceAdd, Nat.reduceSub, Nat.reduceLT, Nat.reduceLeDiff, reduceIte, reduceCtorEq, Nat.reduceEqDiff, implies_true, forall_const, lawV, g0, g3, beq_self_eq_true, bne_self_eq_false, Int.reduceBEq, Int.reduceBNe, Int.reduceLT, Int.reduceLE, lawB, kr, kq, kd, hu, hv]
  have hln := decS_length 9 n (by omega)
  refine ⟨by decide, ⟨by omega, by omega⟩, by decide, by omega, by decide, fun h => ?_, fun h => ⟨⟨m / 10, dig (m % 10) :: l, by omega, ?_, ?_, rfl, rfl⟩, ?_⟩⟩
  · have h : m / 10 = 0 := by have := beq_iff_eq.1 h; omega
    rw [← he, decS_small (by omega), show m % 10 = m by omega]
    rfl
  · have h : ¬ m / 10 = 0 := by have := beq_eq_false_iff_ne.1 h; omega
    rw [← hl, decS_big_length (n := m) (by omega), List.length_cons]; omega
  · have h : ¬ m / 10 = 0 := by have := beq_eq_false_iff_ne.1 h; omega
    rw [← he, decS_big (n := m) (by omega)]; simp
  · have h : ¬ m / 10 = 0 := by have := beq_eq_false_iff_ne.1 h; omega
    omega
theorem p_r5_Dec (n : Nat) (h2 : n ≤ 9223372036854775807) : PC Tryz.V 16 [.int .i64 n] (.str (decS n)) :=
  ⟨Tryz.call16, by simp [flat, flat.flatL], by simp [flat, flat.flatL], fun w _ => (ref05_Decimal n w (by omega) (by omega)).mono fun _ _ ⟨h, k⟩ => ⟨by rw [h, if_neg (by omega)]; rfl, k⟩⟩
theorem p_r19_Encode (s : Bytes) (n : Int) (hs : s.length ≤ 1000000) (h1 : -9223372036854775808 ≤ n) (h2 : n ≤ 9223372036854775807) : PC Tryz.V 9 [.str s, .int .i64 n] (.str (encode n s)) :=
  ⟨Tryz.call9, by simp [flat, flat.flatL], by simp [flat, flat.flatL], fun w _ => (ref19_Encode s n w hs h1 h2).mono fun _ _ ⟨h, k⟩ => ⟨by rw [h]; simp [conc], k⟩⟩
def fmtL (fs : List (Bytes × Bytes)) : Bytes := fs.flatMap (fun f => fieldLine f ++ [13, 10])
theorem fmtL_take {fs : List (Bytes × Bytes)} {k : Nat} (h : k < fs.length) : fmtL (fs.take (k + 1)) = fmtL (fs.take k) ++ (fieldLine fs[k] ++ [13, 10]) := by
  unfold fmtL
  rw [List.take_succ_eq_append_getElem h, List.flatMap_append]
  simp
theorem fmtL_len : ∀ fs : List (Bytes × Bytes), (fmtL fs).length = hsum fs + 4 * fs.length
  | [] => rfl
  | f :: l => by
    have := fmtL_len l
    unfold fmtL at this ⊢
    rw [List.flatMap_cons, List.length_append, this, hsum]
    simp [fieldLine]
    omega
theorem hsum_app : ∀ (l r : List (Bytes × Bytes)), hsum (l ++ r) = hsum l + hsum r
  | [], r => by simp [hsum]
  | f :: l, r => by rw [List.cons_append, hsum, hsum_app l r, hsum]; omega
theorem hsum_take (fs : List (Bytes × Bytes)) (k : Nat) : hsum (fs.take k) ≤ hsum fs := by
  have h := hsum_app (fs.take k) (fs.drop k)
  rw [List.take_append_drop] at h
  omega
set_option maxHeartbeats 4000000 in
theorem sc_r18_Format {bs : List Res} {j : Nat} {fs : List (Bytes × Bytes)} {m : Bool} (hj : bs[j]? = some (.own (fs.flatMap fc) 31 2 fs.length m)) (hn : fs.length ≤ 1000000) (hm : hsum fs ≤ 1000000000) (st : Nat) (hst : st ≤ 1000000000) :
    SC Tryz.V 8 [.agg [.int .i64 1, .int .i64 st, .o j fs.length]] bs (fun r b => r = .str (headText st fs) ∧ Kp bs b) := by
  have hjl : j < bs.length := (List.getElem?_eq_some_iff.1 hj).1
  have p1 := p_r5_Dec st (by omega)
  have hdl := decS_length 9 st (by omega)
  refine sc_of 3000 Tryz.func8 rfl Tryz.ntmps8 Tryz.results8 Tryz.call8 (by simp) (fun β β' hb => concL_within bs.length _ (by simp [within, within.withinL, hjl]) β β' hb) ?_
  simp only [lawG, ↓Xn, ↓Xo, ↓Xg, ↓Xd, ↓Xe, ↓Xf, Tryz.VΓ, Tryz.Γs, Xp, Xi, Nat.reduceAdd, Nat.reduceSub, Nat.reduceLT, Nat.reduceLeDiff, reduceIte, reduceCtorEq, Nat.reduceEqDiff, implies_true, forall_const, lawV, lawB, beq_self_eq_true, bne_self_eq_false, Int.reduceBEq, Int.reduceBNe, Int.reduceLT, Int.reduceLE]
  (refine callV_pc (p1) ?_; simp only [lawG, ↓Xn, ↓Xo, ↓Xg, ↓Xd, ↓Xe, ↓Xf, Tryz.VΓ, Tryz.Γs, Xp, Xi, Nat.reduceAdd, Nat.reduceSub, Nat.reduceLT, Nat.reduceLeDiff, reduceIte, reduceCtorEq, Nat.reduceEqDiff, implies_true, forall_const, lawV, lawB, beq_self_eq_true, bne_self_eq_false, Int.reduceBEq, Int.reduceBNe, Int.reduceLT, Int.reduceLE])
  refine ⟨by omega, by omega, ?_⟩
  have hT : headText st fs = 72 :: 84 :: 84 :: 80 :: 47 :: 49 :: 46 :: 49 :: 32 :: (decS st ++ [32, 45, 13, 10]) ++ fmtL fs ++ [13, 10] := by
    unfold headText httpS fmtL
    simp
  rw [hT]
  refine loopV_mk (fun σ => ∃ (k : Nat) (acc : Bytes), k ≤ fs.length ∧ acc = 72 :: 84 :: 84 :: 80 :: 47 :: 49 :: 46 :: 49 :: 32 :: (decS st ++ [32, 45, 13, 10]) ++ fmtL (fs.take k) ∧ lk 4 σ.t = some (.str acc) ∧ lk 19 σ.t = some (.o j fs.length) ∧ lk 20 σ.t = some (.int .i64 fs.length) ∧ lk 21 σ.t = some (.int .i64 k) ∧ σ.b[j]? = some (.own (fs.flatMap fc) 31 2 fs.length m) ∧ Kp bs σ.b) (fun σ => fs.length - lkI 21 σ) ⟨0, _, by omega, by simp [fmtL], rfl, rfl, rfl, rfl, at_old hj _, (Kp.refl _).app _⟩ ?_
  rintro ⟨t, b⟩ ⟨k, acc, hk, hacc, h4, h19, h20, h21, hb, hkp⟩
  simp only at h4 h19 h20 h21 hb hkp
  rw [lkI_eq h21]
  have hal : acc.length ≤ 2000000000 + 4000000 := by
    rw [hacc]
    have h1 := fmtL_len (fs.take k)
    have h2 := hsum_take fs k
    rw [List.length_take] at h1
    simp only [List.length_append, List.length_cons, List.length_nil, h1]
    omega
  by_cases hlt : k < fs.length
  · have hlt2 : decide ((k : Int) < fs.length) = true := decide_eq_true (by omega)
    have hu := fc_at fs k hlt
    have hul := fc_len fs
    have hx := fmtL_take hlt
    have hfl := hsum_mem fs[k] (List.getElem_mem hlt)
    generalize fs[k] = f at hu hx hfl
    unfold fc at hb hu hul
    simp only [lawG, ↓Xn, ↓Xo, ↓Xg, ↓Xd, ↓Xe, ↓Xf, Tryz.VΓ, Tryz.Γs, Xp, Xi, Nat.reduceAdd, Nat.reduceSub, Nat.reduceLT, Nat.reduceLeDiff, reduceIte, reduceCtorEq, Nat.reduceEqDiff, implies_true, forall_const, lawV, h4, h19, h20, h21, hb, hu, hul, hlt2, lawB, Int.toNat_natCast]
    refine ⟨⟨by omega, by omega⟩, by omega, by omega, by simp; omega, by simp; omega, by simp; omega, ⟨by omega, by omega⟩, ⟨k + 1, _, by omega, ?_, rfl, rfl, at_old hb _, hkp.app _⟩, ?_⟩
    · rw [hacc, hx]; simp [fieldLine]
    · rw [lkI_eq (k := .i64) (n := (k : Int) + 1) rfl]; omega
  · have hie : k = fs.length := by omega
    subst hie
    rw [List.take_length] at hacc
    have hlt2 : decide ((fs.length : Int) < fs.length) = false := by simp
    simp only [lawG, ↓Xn, ↓Xo, ↓Xg, ↓Xd, ↓Xe, ↓Xf, Tryz.VΓ, Tryz.Γs, Xp, Xi, Nat.reduceAdd, Nat.reduceSub, Nat.reduceLT, Nat.reduceLeDiff, reduceIte, reduceCtorEq, Nat.reduceEqDiff, implies_true, forall_const, lawV, h4, h19, h20, h21, hb, hlt2, lawB]
    exact ⟨by omega, by rw [hacc]; simp, hkp⟩
theorem sc_r18_FormatX {bs : List Res} {j n : Nat} {cs : List SV} {m : Bool} (fs : List (Bytes × Bytes)) (hj : bs[j]? = some (.own cs 31 2 n m)) (hc : cs = fs.flatMap fc) (hnn : n = fs.length) (hn : fs.length ≤ 1000000) (hm : hsum fs ≤ 1000000000) (st : Nat) (hst : st ≤ 1000000000) :
    SC Tryz.V 8 [.agg [.int .i64 1, .int .i64 st, .o j n]] bs (fun r b => r = .str (headText st fs) ∧ b = bs) := by
  subst hc hnn
  exact sc_forget (by simp [flat]) (sc_r18_Format hj hn hm st hst)
theorem headText_le (st : Nat) (hst : st ≤ 1000000000) (fs : List (Bytes × Bytes)) : (headText st fs).length ≤ hsum fs + 4 * fs.length + 100 := by
  have h1 := fmtL_len fs
  have h2 := decS_length 9 st (by omega)
  unfold fmtL at h1
  unfold headText httpS
  simp only [List.length_append, List.length_cons, List.length_nil, h1]
  omega
theorem encode_len (n : Int) : ∀ (m : Nat) (s : Bytes), s.length ≤ m → (encode n s).length ≤ 6 * s.length + 5
  | 0, s, h => by rw [List.length_eq_zero_iff.1 (Nat.le_zero.1 h), encode_nil]; simp
  | m + 1, s, h => by
    by_cases hs : s = []
    · rw [hs, encode_nil]; simp
    · have h1 := chunkLen_pos (size := n) hs
      have h2 := hexS_length (chunkLen n s)
      have h3 := encode_len n m (s.drop (chunkLen n s)) (by simp; omega)
      rw [encode_ne hs]
      simp only [List.length_append, List.length_drop, List.length_take] at h3 ⊢
      have : crlf.length = 2 := rfl
      omega
set_option maxHeartbeats 4000000 in
theorem sc_made_Raw0 {bs : List Res} {x : SV} {fs : List (Bytes × Bytes)} (hx : Sx 31 2 x bs (fs.flatMap fc) fs.length) (hn : fs.length ≤ 1000) (hm : hsum fs ≤ 1000000) (st : Nat) (hst : st ≤ 1000000000) (body : Bytes) (hb : body.length ≤ 1000000) (ch : Bool) :
    SC Tryz.V 5 [.int .i64 st, .str [], .str body, x, .bool ch] bs (fun r b => r = .str (rawOf st fs body ch) ∧ b = bs) := by
  refine sc_forget (by simp [flat]) ?_
  have hxw := hx.within
  have p1 := p_r19_Encode body 50 hb (by omega) (by omega)
  have hel := encode_len 50 _ body (Nat.le_refl _)
  have p2 := p_made_decimal body.length (by omega)
  have hsrc : ∀ X, srcS (bs ++ [X]) 2 x = some (fs.length, fs.flatMap fc) := fun X => by
    rcases hx with ⟨rfl, hc, hl⟩ | ⟨j, m, rfl, hl, hj⟩
    · rw [hc, hl]; rfl
    · simp [srcS, at_old hj [X]]
  have hone := fc_one fs
  have q1 : ∀ X X' Y Z, (bs ++ [X] ++ [Y] ++ [Z])[(bs ++ [X']).length]? = some Y := fun X X' Y Z => by
    rw [show (bs ++ [X']).length = (bs ++ [X]).length by simp]
    exact at_old (at_new _ _) [Z]
  have q2 : ∀ X X' Y Z W, ((bs ++ [X] ++ [Y] ++ [Z]).set (bs ++ [X']).length .gone ++ [W])[bs.length]? = some X := fun X X' Y Z W => by
    rw [List.getElem?_append_left (by simp), List.getElem?_set_ne (by simp)]
    exact at_old (at_old (at_new _ _) _) _
  have q3 : ∀ (X X' Y Z W W' : Res) , (((bs ++ [X] ++ [Y] ++ [Z]).set (bs ++ [X']).length .gone ++ [W]).set bs.length W')[bs.length]? = some W' := fun X X' Y Z W W' => by
    rw [List.getElem?_set_self (by simp)]
  refine sc_of 3000 Tryz.func5 rfl Tryz.ntmps5 Tryz.results5 Tryz.call5 (by simp) (fun β β' hb => concL_within bs.length _ (by simp [within, within.withinL, hxw]) β β' hb) ?_
  have q4 : ∀ X X' Y Z W W' A B C, (((bs ++ [X] ++ [Y] ++ [Z]).set (bs ++ [X']).length .gone ++ [W]).set bs.length W')[(bs ++ [A] ++ [B] ++ [C]).length]? = some W := fun X X' Y Z W W' A B C => by
    rw [List.getElem?_set_ne (by simp), show (bs ++ [A] ++ [B] ++ [C]).length = ((bs ++ [X] ++ [Y] ++ [Z]).set (bs ++ [X']).length .gone).length by simp]
    exact at_new _ _
  have q5 : ∀ X X' Y Z W W', Kp bs (((bs ++ [X] ++ [Y] ++ [Z]).set (bs ++ [X']).length .gone ++ [W]).set bs.length W') := fun X X' Y Z W W' => (((((Kp.refl bs).app [X]).app [Y]).app [Z]).set (by simp) .gone).app [W] |>.set (Nat.le_refl _) W'
  cases ch
  · simp only [lawG, ↓Xn, ↓Xo, ↓Xg, ↓Xd, ↓Xe, ↓Xf, Tryz.VΓ, Tryz.Γs, Xp, Xi, Nat.reduceAdd, Nat.reduceSub, Nat.reduceLT, Nat.reduceLeDiff, reduceIte, reduceCtorEq, Nat.reduceEqDiff, implies_true, forall_const, lawV, lawB, beq_self_eq_true, bne_self_eq_false, Int.reduceBEq, Int.reduceBNe, Int.reduceLT, Int.reduceLE, hsrc, hone, q1, q2, q3]
    refine ⟨⟨by unfold maxLen; omega, by omega⟩, ?_⟩
    (refine callD_pc (p2) ?_; simp only [lawG, ↓Xn, ↓Xo, ↓Xg, ↓Xd, ↓Xe, ↓Xf, Tryz.VΓ, Tryz.Γs, Xp, Xi, Nat.reduceAdd, Nat.reduceSub, Nat.reduceLT, Nat.reduceLeDiff, reduceIte, reduceCtorEq, Nat.reduceEqDiff, implies_true, forall_const, lawV, lawB, beq_self_eq_true, bne_self_eq_false, Int.reduceBEq, Int.reduceBNe, Int.reduceLT, Int.reduceLE, hsrc, hone, q1, q2, q3])
    refine ⟨by omega, ⟨by unfold maxLen; omega, by omega⟩, ?_, ?_⟩
    · refine OkD_ren (fun n => n - bs.length) ?_
      simp only [List.map_cons, List.map_nil, renRk, renT, List.length_append, List.length_cons, List.length_nil, Nat.zero_add, Nat.add_assoc, Nat.reduceAdd, Nat.add_sub_cancel_left, Nat.sub_self]
      exact OkD_fast (by kernel_rfl)
    have hd := decS_length 9 body.length (by omega)
    have hh := headText_le st hst (fs ++ [(clN, decS body.length)])
    rw [hsum_app] at hh
    simp only [hsum, List.length_append, List.length_cons, List.length_nil] at hh
    have hcl : clN.length = 14 := rfl
    refine callV_sc (sc_r18_FormatX (fs ++ [(clN, decS body.length)]) (q4 _ _ _ _ _ _ _ _ _) (by rw [List.flatMap_append]; rfl) (by simp) (by simp; omega) (by rw [hsum_app]; simp only [hsum]; omega) st hst) ?_
    rintro r b ⟨rfl, rfl⟩
    simp only [lawG, ↓Xn, ↓Xo, ↓Xg, ↓Xd, ↓Xe, ↓Xf, Tryz.VΓ, Tryz.Γs, Xp, Xi, Nat.reduceAdd, Nat.reduceSub, Nat.reduceLT, Nat.reduceLeDiff, reduceIte, reduceCtorEq, Nat.reduceEqDiff, implies_true, forall_const, lawV, lawB, beq_self_eq_true, bne_self_eq_false, Int.reduceBEq, Int.reduceBNe, Int.reduceLT, Int.reduceLE]
    exact ⟨by omega, rfl, q5 _ _ _ _ _ _⟩
  · simp only [lawG, ↓Xn, ↓Xo, ↓Xg, ↓Xd, ↓Xe, ↓Xf, Tryz.VΓ, Tryz.Γs, Xp, Xi, Nat.reduceAdd, Nat.reduceSub, Nat.reduceLT, Nat.reduceLeDiff, reduceIte, reduceCtorEq, Nat.reduceEqDiff, implies_true, forall_const, lawV, lawB, beq_self_eq_true, bne_self_eq_false, Int.reduceBEq, Int.reduceBNe, Int.reduceLT, Int.reduceLE, hsrc, hone, q1, q2, q3]
    refine ⟨⟨by unfold maxLen; omega, by omega⟩, by omega, ⟨by unfold maxLen; omega, by omega⟩, ?_⟩
    have hh := headText_le st hst (fs ++ [(teN, chN)])
    rw [hsum_app] at hh
    simp only [hsum, List.length_append, List.length_cons, List.length_nil] at hh
    have hcl : teN.length = 17 := rfl
    have hcl : chN.length = 7 := rfl
    refine callV_sc (sc_r18_FormatX (fs ++ [(teN, chN)]) (q4 _ _ _ _ _ _ _ _ _) (by rw [List.flatMap_append]; rfl) (by simp) (by simp; omega) (by rw [hsum_app]; simp only [hsum]; omega) st hst) ?_
    rintro r b ⟨rfl, rfl⟩
    simp only [lawG, ↓Xn, ↓Xo, ↓Xg, ↓Xd, ↓Xe, ↓Xf, Tryz.VΓ, Tryz.Γs, Xp, Xi, Nat.reduceAdd, Nat.reduceSub, Nat.reduceLT, Nat.reduceLeDiff, reduceIte, reduceCtorEq, Nat.reduceEqDiff, implies_true, forall_const, lawV, lawB, beq_self_eq_true, bne_self_eq_false, Int.reduceBEq, Int.reduceBNe, Int.reduceLT, Int.reduceLE]
    (refine callV_pc (p1) ?_; simp only [lawG, ↓Xn, ↓Xo, ↓Xg, ↓Xd, ↓Xe, ↓Xf, Tryz.VΓ, Tryz.Γs, Xp, Xi, Nat.reduceAdd, Nat.reduceSub, Nat.reduceLT, Nat.reduceLeDiff, reduceIte, reduceCtorEq, Nat.reduceEqDiff, implies_true, forall_const, lawV, lawB, beq_self_eq_true, bne_self_eq_false, Int.reduceBEq, Int.reduceBNe, Int.reduceLT, Int.reduceLE])
    exact ⟨by omega, rfl, q5 _ _ _ _ _ _⟩
end Go.Proofs.YtfmafmgbfamaiaaGreatDoor
/- The walks of law26: sane, FetchHops. -/
set_option linter.all false
set_option maxRecDepth 20000
namespace Go.Proofs.YtfmafmgbfamaiaaGreatDoor
open Go Vc Go.RowKit Wf
set_option linter.unusedSimpArgs false
theorem sane_len : ∀ a ∈ saneL, a.raw.length ≤ 4000000 := by
  rw [saneL_eq]
  intro a ha
  simp only [List.mem_cons, List.not_mem_nil, or_false] at ha
  rcases ha with rfl | rfl <;> decide
theorem sU_fair (p : Bytes) (h : p.length ≤ 100) : Fair (sU p) := ⟨by have : aE.length = 9 := rfl; simp [sU]; omega, by simp [sU]⟩
theorem sl1_one {e s L : Nat} {x : SV} {b : List Res} {c : List SV} {n : Nat} (h : Sl1 e s L x b c n) (hn : 0 < n) : ∃ q, x = .o q n ∧ q < b.length := by
  rcases h with ⟨-, -, h⟩ | ⟨j, h1, -, -, h3⟩
  · omega
  · exact ⟨j, h1, (List.getElem?_eq_some_iff.1 h3).1⟩
theorem run_1 {bs : List Res} {j : Nat} {m : Bool} (hj : bs[j]? = some (.own (saneL.flatMap ac) 35 7 2 m)) : SC Tryz.V 7 [.o j 2, .int .u64 0, .agg [.str [97, 46, 101, 120, 97, 109, 112, 108, 101], .int .i64 0, .str [47], .str [], .str [], .bool false, .bool false]] bs (fun r b => Kp bs b ∧ ∃ q, r = .tup [.agg (rcells Resp.none .nils (.o q 1)), .int .i64 251]) := by
  have h := sc_fetch_Run (L := saneL) hj (by decide) sane_len 0 (sU [47]) (sU_fair _ (by decide))
  rw [sane_1] at h
  refine SC.mono h ?_
  rintro r b ⟨hk, yt, yf, rfl, h1, h2⟩
  obtain ⟨q, rfl, -⟩ := sl1_one h1 (by decide)
  rcases h2 with ⟨rfl, -⟩ | ⟨j, -, h, -⟩
  · exact ⟨hk, q, rfl⟩
  · exact absurd h (by decide)
theorem run_2 {bs : List Res} {j : Nat} {m : Bool} (hj : bs[j]? = some (.own (saneL.flatMap ac) 35 7 2 m)) : SC Tryz.V 7 [.o j 2, .int .u64 0, .agg [.str [97, 46, 101, 120, 97, 109, 112, 108, 101], .int .i64 0, .str [47, 120], .str [], .str [], .bool false, .bool false]] bs (fun r b => Kp bs b ∧ ∃ p q, r = .tup [.agg (rcells ⟨sU [47, 120], 1, 200, [(teN, chN)], [97, 98, 99]⟩ (.o p 1) (.o q 1)), .int .i64 0]) := by
  have h := sc_fetch_Run (L := saneL) hj (by decide) sane_len 0 (sU [47, 120]) (sU_fair _ (by decide))
  rw [sane_2] at h
  refine SC.mono h ?_
  rintro r b ⟨hk, yt, yf, rfl, h1, h2⟩
  obtain ⟨q, rfl, -⟩ := sl1_one h1 (by decide)
  obtain ⟨p, rfl, -⟩ := sl1_one h2 (by decide)
  exact ⟨hk, p, q, rfl⟩
theorem sc_law26_sane {bs : List Res} : SC Tryz.V 4 [] bs (fun r b => r = .bool true ∧ Kp bs b) := by
  refine sc_of 3000 Tryz.func4 rfl Tryz.ntmps4 Tryz.results4 Tryz.call4 (by simp) (fun β β' hb => concL_within bs.length _ (by simp [within, within.withinL]) β β' hb) ?_
  have w1 := fun X Y => sc_made_Raw0 (bs := bs ++ [X] ++ [.own ([(locS, [47])].flatMap fc) 31 2 1 true]) (fs := [(locS, [47])]) (.inr ⟨_, true, rfl, by decide, at_new _ _⟩) (by decide) (by decide) 302 (by omega) [] (by simp) Y
  have w2 := fun X Y Z => sc_made_Raw0 (bs := bs ++ [X] ++ [Y]) (x := .nils) (fs := []) (.inl ⟨rfl, rfl, rfl⟩) (by decide) (by decide) 200 (by omega) [97, 98, 99] (by simp) Z
  simp only [List.flatMap_cons, List.flatMap_nil, fc, List.cons_append, List.nil_append, List.length_cons, List.length_nil, Nat.zero_add] at w1
  unfold locS at w1
  simp only [lawG, ↓Xn, ↓Xo, ↓Xg, ↓Xd, ↓Xe, ↓Xf, Tryz.VΓ, Tryz.Γs, Xp, Xi, Nat.reduceAdd, Nat.reduceSub, Nat.reduceLT, Nat.reduceLeDiff, reduceIte, reduceCtorEq, Nat.reduceEqDiff, implies_true, forall_const, lawV, lawB, beq_self_eq_true, bne_self_eq_false, Int.reduceBEq, Int.reduceBNe, Int.reduceLT, Int.reduceLE]
  refine ⟨by omega, callV_sc (w1 _ _) ?_⟩
  rintro r b ⟨rfl, rfl⟩
  simp only [lawG, ↓Xn, ↓Xo, ↓Xg, ↓Xd, ↓Xe, ↓Xf, Tryz.VΓ, Tryz.Γs, Xp, Xi, Nat.reduceAdd, Nat.reduceSub, Nat.reduceLT, Nat.reduceLeDiff, reduceIte, reduceCtorEq, Nat.reduceEqDiff, implies_true, forall_const, lawV, lawB, beq_self_eq_true, bne_self_eq_false, Int.reduceBEq, Int.reduceBNe, Int.reduceLT, Int.reduceLE]
  refine callV_sc (w2 _ _ _) ?_
  rintro r b ⟨rfl, rfl⟩
  simp only [lawG, ↓Xn, ↓Xo, ↓Xg, ↓Xd, ↓Xe, ↓Xf, Tryz.VΓ, Tryz.Γs, Xp, Xi, Nat.reduceAdd, Nat.reduceSub, Nat.reduceLT, Nat.reduceLeDiff, reduceIte, reduceCtorEq, Nat.reduceEqDiff, implies_true, forall_const, lawV, lawB, beq_self_eq_true, bne_self_eq_false, Int.reduceBEq, Int.reduceBNe, Int.reduceLT, Int.reduceLE]
  refine ⟨by omega, callV_sc (run_1 (at_new _ _)) ?_⟩
  rintro r b ⟨hk, q, rfl⟩
  have hkb := ((((Kp.refl bs).app _).app _).app _).trans hk
  have h0 := hk.at (at_old (at_old (at_new bs _) _) _)
  have hl := hk.at (at_new _ _)
  unfold rcells Resp.none Url.none uc
  simp only [List.cons_append, List.nil_append]
  have hbl : bs.length < b.length := (List.getElem?_eq_some_iff.1 h0).1
  have hJ : ∀ A B : Res, (bs ++ [A] ++ [B]).length ≠ bs.length := fun A B => by simp
  have c0 := fun X => at_old h0 [X]
  have s0 : ∀ X Y, ((b ++ [X]).set bs.length Y)[bs.length]? = some Y := fun X Y => List.getElem?_set_self (by simp; omega)
  simp only [lawG, ↓Xn, ↓Xo, ↓Xg, ↓Xd, ↓Xe, ↓Xf, Tryz.VΓ, Tryz.Γs, Xp, Xi, Nat.reduceAdd, Nat.reduceSub, Nat.reduceLT, Nat.reduceLeDiff, reduceIte, reduceCtorEq, Nat.reduceEqDiff, implies_true, forall_const, lawV, lawB, beq_self_eq_true, bne_self_eq_false, Int.reduceBEq, Int.reduceBNe, Int.reduceLT, Int.reduceLE, h0, c0, s0]
  refine callV_sc (run_2 ((List.getElem?_set_ne (hJ _ _).symm).trans (at_old hl _))) ?_
  rintro r b3 ⟨hk3, p3, q3, rfl⟩
  have hkb3 := ((hkb.app _).set (Nat.le_refl _) _).trans hk3
  have r0 := hk3.at ((List.getElem?_set_ne (by omega)).trans (at_new b _))
  unfold rcells sU uc
  simp only [List.cons_append, List.nil_append]
  have r1 := fun X => at_old r0 [X]
  have r2 := fun X => at_new b3 X
  simp only [lawG, ↓Xn, ↓Xo, ↓Xg, ↓Xd, ↓Xe, ↓Xf, Tryz.VΓ, Tryz.Γs, Xp, Xi, Nat.reduceAdd, Nat.reduceSub, Nat.reduceLT, Nat.reduceLeDiff, reduceIte, reduceCtorEq, Nat.reduceEqDiff, implies_true, forall_const, lawV, lawB, beq_self_eq_true, bne_self_eq_false, Int.reduceBEq, Int.reduceBNe, Int.reduceLT, Int.reduceLE, r0, r1, r2, List.cons_append, List.nil_append]
  exact ⟨fun _ => ⟨rfl, hkb3.app _⟩, fun h => absurd h (by decide)⟩
end Go.Proofs.YtfmafmgbfamaiaaGreatDoor
