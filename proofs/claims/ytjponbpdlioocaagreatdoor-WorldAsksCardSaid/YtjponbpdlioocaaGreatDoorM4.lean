/- Texts of this claim, laid together: RefUri3, RefPct, RefPct2, RefUrl, UrlW3, UrlW4, WorldW, WorldW2, WorldR, Law24, Law24a. -/
import Derived.Test.YtjponbpdlioocaaGreatDoorM3
/- The walks of reference 06: Split, Join. -/
set_option linter.all false
set_option maxRecDepth 20000
namespace Go.Proofs.YtjponbpdlioocaaGreatDoor
open Go Vc Go.RowKit Wf
set_option linter.unusedSimpArgs false
theorem pre_one (c : UInt8) (s : Bytes) : pre (([c] : Bytes).contains ·) s = pre (· == c) s := by
  congr 1
  funext x
  by_cases h : x = c
  · subst h; simp
  · simp [h]
theorem authPath_two {s : Bytes} (h : Lib.hasPrefix s [47, 47] = true) : authPath s = ((s.take (2 + pre (· == 47) (s.drop 2))).drop 2, true, s.drop (2 + pre (· == 47) (s.drop 2))) := by
  rw [authPath_yes h]
  have e : Lib.trimPrefix s [47, 47] = s.drop 2 := by unfold Lib.trimPrefix; rw [if_pos h]; rfl
  rw [e, List.drop_take, List.drop_drop]
  simp
set_option maxRecDepth 20000 in
set_option maxHeartbeats 4000000 in
theorem p_r6_Split (s : Bytes) : PC Tryz.V 50 [.str s] (.tup [usv (uriSplit s).1, .int .i64 (uriSplit s).2]) := by
  (refine pc_of 3000 Tryz.func50 rfl Tryz.ntmps50 Tryz.results50 Tryz.call50 (by simp) (by simp [flat, flat.flatL, usv]) (by simp [flat, flat.flatL, usv]) ?_
   simp only [lawG, ↓Xn, ↓Xo, ↓Xg, ↓Xd, ↓Xe, ↓Xf, Tryz.VΓ, Tryz.Γs, Xp, Xi, Nat.reduceAdd, Nat.reduceSub, Nat.reduceLT, Nat.reduceLeDiff, reduceIte, reduceCtorEq, Nat.reduceEqDiff, implies_true, forall_const, lawV])
  refine ⟨fun h => ?_, fun h => ?_⟩
  · have : uriSplit s = (Uri.none, 5) := if_pos (by simp at h; omega)
    rw [this]; rfl
  · have hq : uriSplit s = splitRest (cutC 63 (cutC 35 s).1).1 (cutC 35 s).2.1 (cutC 63 (cutC 35 s).1).2.1 (cutC 35 s).2.2 (cutC 63 (cutC 35 s).1).2.2 := if_neg (by simp at h; omega)
    rw [hq]
    have hs : s.length ≤ 4294967281 := by simp at h; omega
    have px := p_r1_Index s [35] hs (by simp)
    rw [pre_one] at px
    (refine callV_pc (px) ?_; simp only [lawG, ↓Xn, ↓Xo, ↓Xg, ↓Xd, ↓Xe, ↓Xf, Tryz.VΓ, Tryz.Γs, Xp, Xi, Nat.reduceAdd, Nat.reduceSub, Nat.reduceLT, Nat.reduceLeDiff, reduceIte, reduceCtorEq, Nat.reduceEqDiff, implies_true, forall_const, lawV])
    refine ⟨fun hk1 => ?_, fun hk1 => ?_⟩
    · have hk1' : pre (· == 35) s < s.length := by simpa using hk1
      rw [show cutC 35 s = (s.take (pre (· == 35) s), s.drop (pre (· == 35) s + 1), true) from if_pos hk1']
      simp only
      have hl1 : (s.take (pre (· == 35) s)).length ≤ 4294967281 := by rw [List.length_take]; omega
      refine ⟨by omega, by omega, by omega, (OkD_fast (by kernel_rfl)), ?_⟩
      generalize s.take (pre (· == 35) s) = s1 at hl1 ⊢
      generalize s.drop (pre (· == 35) s + 1) = fr
      (
        have px2 := p_r1_Index s1 [63] (by omega) (by simp)
        rw [pre_one] at px2
        (refine callV_pc (px2) ?_; simp only [lawG, ↓Xn, ↓Xo, ↓Xg, ↓Xd, ↓Xe, ↓Xf, Tryz.VΓ, Tryz.Γs, Xp, Xi, Nat.reduceAdd, Nat.reduceSub, Nat.reduceLT, Nat.reduceLeDiff, reduceIte, reduceCtorEq, Nat.reduceEqDiff, implies_true, forall_const, lawV])
        refine ⟨fun hk2 => ?_, fun hk2 => ?_⟩
        · have hk2' : pre (· == 63) s1 < s1.length := by simpa using hk2
          rw [show cutC 63 s1 = (s1.take (pre (· == 63) s1), s1.drop (pre (· == 63) s1 + 1), true) from if_pos hk2']
          simp only
          have hl2 : (s1.take (pre (· == 63) s1)).length ≤ 4294967281 := by rw [List.length_take]; omega
          refine ⟨by omega, by omega, by omega, (OkD_fast (by kernel_rfl)), ?_⟩
          generalize s1.take (pre (· == 63) s1) = s2 at hl2 ⊢
          generalize s1.drop (pre (· == 63) s1 + 1) = qu
          (
            have px3 := p_r1_Index s2 [58, 47] (by omega) (by simp)
            rw [show pre (([58, 47] : Bytes).contains ·) s2 = pre colonSlash s2 from rfl] at px3
            (refine callV_pc (px3) ?_; simp only [lawG, ↓Xn, ↓Xo, ↓Xg, ↓Xd, ↓Xe, ↓Xf, Tryz.VΓ, Tryz.Γs, Xp, Xi, Nat.reduceAdd, Nat.reduceSub, Nat.reduceLT, Nat.reduceLeDiff, reduceIte, reduceCtorEq, Nat.reduceEqDiff, implies_true, forall_const, lawV])
            refine ⟨fun hk3 => ?_, fun hk3 => ?_⟩
            · have hp : pre colonSlash s2 < s2.length := by simpa using hk3
              rw [byte_is (n := 58) hp 58 rfl]
              refine ⟨by omega, fun h1 => ⟨by omega, ?_⟩, fun h1 => ?_⟩
              · have hh : (s2.drop (pre colonSlash s2)).head? = some 58 := by
                  rw [List.head?_drop, List.getElem?_eq_getElem hp, beq_iff_eq.1 h1]
                (refine callV_pc (p_r6_scheme _ (by rw [List.length_take]; omega)) ?_; simp only [lawG, ↓Xn, ↓Xo, ↓Xg, ↓Xd, ↓Xe, ↓Xf, Tryz.VΓ, Tryz.Γs, Xp, Xi, Nat.reduceAdd, Nat.reduceSub, Nat.reduceLT, Nat.reduceLeDiff, reduceIte, reduceCtorEq, Nat.reduceEqDiff, implies_true, forall_const, lawV])
                refine ⟨fun h2 => ?_, fun h2 => ?_⟩
                · have hs2 : ∀ (f q : Bytes) (hf hq : Bool), splitRest s2 f q hf hq = (Uri.none, 6) := fun f q hf hq => by
                    unfold splitRest
                    rw [if_pos hh, if_neg (by rw [not_t h2]; simp)]
                  rw [hs2]; rfl
                · have hs2 : ∀ (f q : Bytes) (hf hq : Bool), splitRest s2 f q hf hq = (⟨s2.take (pre colonSlash s2), (authPath (s2.drop (pre colonSlash s2 + 1))).1, (authPath (s2.drop (pre colonSlash s2 + 1))).2.2, q, f, true, (authPath (s2.drop (pre colonSlash s2 + 1))).2.1, hq, hf⟩, 0) := fun f q hf hq => by
                    unfold splitRest
                    rw [if_pos hh, if_pos (not_f h2)]
                  have hl5 : (s2.drop (pre colonSlash s2 + 1)).length ≤ 4294967281 := by rw [List.length_drop]; omega
                  refine ⟨by omega, by omega, by omega, (OkD_fast (by kernel_rfl)), ?_⟩
                  (
                    (refine callV_pc (p_r1_Prefix (s2.drop (pre colonSlash s2 + 1)) [47, 47]) ?_; simp only [lawG, ↓Xn, ↓Xo, ↓Xg, ↓Xd, ↓Xe, ↓Xf, Tryz.VΓ, Tryz.Γs, Xp, Xi, Nat.reduceAdd, Nat.reduceSub, Nat.reduceLT, Nat.reduceLeDiff, reduceIte, reduceCtorEq, Nat.reduceEqDiff, implies_true, forall_const, lawV])
                    cases hpf : Lib.hasPrefix (s2.drop (pre colonSlash s2 + 1)) [47, 47]
                    · refine ⟨fun h => (by cases h), fun _ => ?_⟩
                      rw [hs2, authPath_no hpf]; rfl
                    · refine ⟨fun _ => ?_, fun h => (by cases h)⟩
                      rw [hs2, authPath_two hpf]
                      have hl6 := hp_len hpf
                      simp only [List.length_cons, List.length_nil] at hl6
                      have px4 := p_r1_Index ((s2.drop (pre colonSlash s2 + 1)).drop 2) [47] (by rw [List.length_drop]; omega) (by simp)
                      rw [pre_one] at px4
                      have hpl := pre_le (· == 47) ((s2.drop (pre colonSlash s2 + 1)).drop 2)
                      rw [List.length_drop] at hpl
                      generalize pre (· == 47) ((s2.drop (pre colonSlash s2 + 1)).drop 2) = q at px4 hpl ⊢
                      refine ⟨by omega, ?_⟩
                      (refine callV_pc (px4) ?_; simp only [lawG, ↓Xn, ↓Xo, ↓Xg, ↓Xd, ↓Xe, ↓Xf, Tryz.VΓ, Tryz.Γs, Xp, Xi, Nat.reduceAdd, Nat.reduceSub, Nat.reduceLT, Nat.reduceLeDiff, reduceIte, reduceCtorEq, Nat.reduceEqDiff, implies_true, forall_const, lawV])
                      rw [show (2 + (q : Int)).toNat = 2 + q by omega]
                      exact ⟨by omega, by omega, by omega, (OkD_fast (by kernel_rfl)), rfl⟩)
              · have hs2 : ∀ (f q : Bytes) (hf hq : Bool), splitRest s2 f q hf hq = (⟨[], (authPath s2).1, (authPath s2).2.2, q, f, false, (authPath s2).2.1, hq, hf⟩, 0) := fun f q hf hq => by
                  unfold splitRest
                  rw [if_neg (by rw [List.head?_drop, List.getElem?_eq_getElem hp]; simpa using h1)]
                have hl5 := hl2
                (
                  (refine callV_pc (p_r1_Prefix (s2) [47, 47]) ?_; simp only [lawG, ↓Xn, ↓Xo, ↓Xg, ↓Xd, ↓Xe, ↓Xf, Tryz.VΓ, Tryz.Γs, Xp, Xi, Nat.reduceAdd, Nat.reduceSub, Nat.reduceLT, Nat.reduceLeDiff, reduceIte, reduceCtorEq, Nat.reduceEqDiff, implies_true, forall_const, lawV])
                  cases hpf : Lib.hasPrefix (s2) [47, 47]
                  · refine ⟨fun h => (by cases h), fun _ => ?_⟩
                    rw [hs2, authPath_no hpf]; rfl
                  · refine ⟨fun _ => ?_, fun h => (by cases h)⟩
                    rw [hs2, authPath_two hpf]
                    have hl6 := hp_len hpf
                    simp only [List.length_cons, List.length_nil] at hl6
                    have px4 := p_r1_Index ((s2).drop 2) [47] (by rw [List.length_drop]; omega) (by simp)
                    rw [pre_one] at px4
                    have hpl := pre_le (· == 47) ((s2).drop 2)
                    rw [List.length_drop] at hpl
                    generalize pre (· == 47) ((s2).drop 2) = q at px4 hpl ⊢
                    refine ⟨by omega, ?_⟩
                    (refine callV_pc (px4) ?_; simp only [lawG, ↓Xn, ↓Xo, ↓Xg, ↓Xd, ↓Xe, ↓Xf, Tryz.VΓ, Tryz.Γs, Xp, Xi, Nat.reduceAdd, Nat.reduceSub, Nat.reduceLT, Nat.reduceLeDiff, reduceIte, reduceCtorEq, Nat.reduceEqDiff, implies_true, forall_const, lawV])
                    rw [show (2 + (q : Int)).toNat = 2 + q by omega]
                    exact ⟨by omega, by omega, by omega, (OkD_fast (by kernel_rfl)), rfl⟩)
            · have hs2 : ∀ (f q : Bytes) (hf hq : Bool), splitRest s2 f q hf hq = (⟨[], (authPath s2).1, (authPath s2).2.2, q, f, false, (authPath s2).2.1, hq, hf⟩, 0) := fun f q hf hq => by
                unfold splitRest
                rw [if_neg (by rw [List.drop_of_length_le (by simp at hk3; omega)]; simp)]
              have hl5 := hl2
              (
                (refine callV_pc (p_r1_Prefix (s2) [47, 47]) ?_; simp only [lawG, ↓Xn, ↓Xo, ↓Xg, ↓Xd, ↓Xe, ↓Xf, Tryz.VΓ, Tryz.Γs, Xp, Xi, Nat.reduceAdd, Nat.reduceSub, Nat.reduceLT, Nat.reduceLeDiff, reduceIte, reduceCtorEq, Nat.reduceEqDiff, implies_true, forall_const, lawV])
                cases hpf : Lib.hasPrefix (s2) [47, 47]
                · refine ⟨fun h => (by cases h), fun _ => ?_⟩
                  rw [hs2, authPath_no hpf]; rfl
                · refine ⟨fun _ => ?_, fun h => (by cases h)⟩
                  rw [hs2, authPath_two hpf]
                  have hl6 := hp_len hpf
                  simp only [List.length_cons, List.length_nil] at hl6
                  have px4 := p_r1_Index ((s2).drop 2) [47] (by rw [List.length_drop]; omega) (by simp)
                  rw [pre_one] at px4
                  have hpl := pre_le (· == 47) ((s2).drop 2)
                  rw [List.length_drop] at hpl
                  generalize pre (· == 47) ((s2).drop 2) = q at px4 hpl ⊢
                  refine ⟨by omega, ?_⟩
                  (refine callV_pc (px4) ?_; simp only [lawG, ↓Xn, ↓Xo, ↓Xg, ↓Xd, ↓Xe, ↓Xf, Tryz.VΓ, Tryz.Γs, Xp, Xi, Nat.reduceAdd, Nat.reduceSub, Nat.reduceLT, Nat.reduceLeDiff, reduceIte, reduceCtorEq, Nat.reduceEqDiff, implies_true, forall_const, lawV])
                  rw [show (2 + (q : Int)).toNat = 2 + q by omega]
                  exact ⟨by omega, by omega, by omega, (OkD_fast (by kernel_rfl)), rfl⟩))
        · have hk2' : ¬ pre (· == 63) s1 < s1.length := by simpa using hk2
          rw [show cutC 63 s1 = (s1, [], false) from if_neg hk2']
          simp only
          have hl2 : s1.length ≤ 4294967281 := hl1
          generalize s1 = s2 at hl2 ⊢
          (
            have px3 := p_r1_Index s2 [58, 47] (by omega) (by simp)
            rw [show pre (([58, 47] : Bytes).contains ·) s2 = pre colonSlash s2 from rfl] at px3
            (refine callV_pc (px3) ?_; simp only [lawG, ↓Xn, ↓Xo, ↓Xg, ↓Xd, ↓Xe, ↓Xf, Tryz.VΓ, Tryz.Γs, Xp, Xi, Nat.reduceAdd, Nat.reduceSub, Nat.reduceLT, Nat.reduceLeDiff, reduceIte, reduceCtorEq, Nat.reduceEqDiff, implies_true, forall_const, lawV])
            refine ⟨fun hk3 => ?_, fun hk3 => ?_⟩
            · have hp : pre colonSlash s2 < s2.length := by simpa using hk3
              rw [byte_is (n := 58) hp 58 rfl]
              refine ⟨by omega, fun h1 => ⟨by omega, ?_⟩, fun h1 => ?_⟩
              · have hh : (s2.drop (pre colonSlash s2)).head? = some 58 := by
                  rw [List.head?_drop, List.getElem?_eq_getElem hp, beq_iff_eq.1 h1]
                (refine callV_pc (p_r6_scheme _ (by rw [List.length_take]; omega)) ?_; simp only [lawG, ↓Xn, ↓Xo, ↓Xg, ↓Xd, ↓Xe, ↓Xf, Tryz.VΓ, Tryz.Γs, Xp, Xi, Nat.reduceAdd, Nat.reduceSub, Nat.reduceLT, Nat.reduceLeDiff, reduceIte, reduceCtorEq, Nat.reduceEqDiff, implies_true, forall_const, lawV])
                refine ⟨fun h2 => ?_, fun h2 => ?_⟩
                · have hs2 : ∀ (f q : Bytes) (hf hq : Bool), splitRest s2 f q hf hq = (Uri.none, 6) := fun f q hf hq => by
                    unfold splitRest
                    rw [if_pos hh, if_neg (by rw [not_t h2]; simp)]
                  rw [hs2]; rfl
                · have hs2 : ∀ (f q : Bytes) (hf hq : Bool), splitRest s2 f q hf hq = (⟨s2.take (pre colonSlash s2), (authPath (s2.drop (pre colonSlash s2 + 1))).1, (authPath (s2.drop (pre colonSlash s2 + 1))).2.2, q, f, true, (authPath (s2.drop (pre colonSlash s2 + 1))).2.1, hq, hf⟩, 0) := fun f q hf hq => by
                    unfold splitRest
                    rw [if_pos hh, if_pos (not_f h2)]
                  have hl5 : (s2.drop (pre colonSlash s2 + 1)).length ≤ 4294967281 := by rw [List.length_drop]; omega
                  refine ⟨by omega, by omega, by omega, (OkD_fast (by kernel_rfl)), ?_⟩
                  (
                    (refine callV_pc (p_r1_Prefix (s2.drop (pre colonSlash s2 + 1)) [47, 47]) ?_; simp only [lawG, ↓Xn, ↓Xo, ↓Xg, ↓Xd, ↓Xe, ↓Xf, Tryz.VΓ, Tryz.Γs, Xp, Xi, Nat.reduceAdd, Nat.reduceSub, Nat.reduceLT, Nat.reduceLeDiff, reduceIte, reduceCtorEq, Nat.reduceEqDiff, implies_true, forall_const, lawV])
                    cases hpf : Lib.hasPrefix (s2.drop (pre colonSlash s2 + 1)) [47, 47]
                    · refine ⟨fun h => (by cases h), fun _ => ?_⟩
                      rw [hs2, authPath_no hpf]; rfl
                    · refine ⟨fun _ => ?_, fun h => (by cases h)⟩
                      rw [hs2, authPath_two hpf]
                      have hl6 := hp_len hpf
                      simp only [List.length_cons, List.length_nil] at hl6
                      have px4 := p_r1_Index ((s2.drop (pre colonSlash s2 + 1)).drop 2) [47] (by rw [List.length_drop]; omega) (by simp)
                      rw [pre_one] at px4
                      have hpl := pre_le (· == 47) ((s2.drop (pre colonSlash s2 + 1)).drop 2)
                      rw [List.length_drop] at hpl
                      generalize pre (· == 47) ((s2.drop (pre colonSlash s2 + 1)).drop 2) = q at px4 hpl ⊢
                      refine ⟨by omega, ?_⟩
                      (refine callV_pc (px4) ?_; simp only [lawG, ↓Xn, ↓Xo, ↓Xg, ↓Xd, ↓Xe, ↓Xf, Tryz.VΓ, Tryz.Γs, Xp, Xi, Nat.reduceAdd, Nat.reduceSub, Nat.reduceLT, Nat.reduceLeDiff, reduceIte, reduceCtorEq, Nat.reduceEqDiff, implies_true, forall_const, lawV])
                      rw [show (2 + (q : Int)).toNat = 2 + q by omega]
                      exact ⟨by omega, by omega, by omega, (OkD_fast (by kernel_rfl)), rfl⟩)
              · have hs2 : ∀ (f q : Bytes) (hf hq : Bool), splitRest s2 f q hf hq = (⟨[], (authPath s2).1, (authPath s2).2.2, q, f, false, (authPath s2).2.1, hq, hf⟩, 0) := fun f q hf hq => by
                  unfold splitRest
                  rw [if_neg (by rw [List.head?_drop, List.getElem?_eq_getElem hp]; simpa using h1)]
                have hl5 := hl2
                (
                  (refine callV_pc (p_r1_Prefix (s2) [47, 47]) ?_; simp only [lawG, ↓Xn, ↓Xo, ↓Xg, ↓Xd, ↓Xe, ↓Xf, Tryz.VΓ, Tryz.Γs, Xp, Xi, Nat.reduceAdd, Nat.reduceSub, Nat.reduceLT, Nat.reduceLeDiff, reduceIte, reduceCtorEq, Nat.reduceEqDiff, implies_true, forall_const, lawV])
                  cases hpf : Lib.hasPrefix (s2) [47, 47]
                  · refine ⟨fun h => (by cases h), fun _ => ?_⟩
                    rw [hs2, authPath_no hpf]; rfl
                  · refine ⟨fun _ => ?_, fun h => (by cases h)⟩
                    rw [hs2, authPath_two hpf]
                    have hl6 := hp_len hpf
                    simp only [List.length_cons, List.length_nil] at hl6
                    have px4 := p_r1_Index ((s2).drop 2) [47] (by rw [List.length_drop]; omega) (by simp)
                    rw [pre_one] at px4
                    have hpl := pre_le (· == 47) ((s2).drop 2)
                    rw [List.length_drop] at hpl
                    generalize pre (· == 47) ((s2).drop 2) = q at px4 hpl ⊢
                    refine ⟨by omega, ?_⟩
                    (refine callV_pc (px4) ?_; simp only [lawG, ↓Xn, ↓Xo, ↓Xg, ↓Xd, ↓Xe, ↓Xf, Tryz.VΓ, Tryz.Γs, Xp, Xi, Nat.reduceAdd, Nat.reduceSub, Nat.reduceLT, Nat.reduceLeDiff, reduceIte, reduceCtorEq, Nat.reduceEqDiff, implies_true, forall_const, lawV])
                    rw [show (2 + (q : Int)).toNat = 2 + q by omega]
                    exact ⟨by omega, by omega, by omega, (OkD_fast (by kernel_rfl)), rfl⟩)
            · have hs2 : ∀ (f q : Bytes) (hf hq : Bool), splitRest s2 f q hf hq = (⟨[], (authPath s2).1, (authPath s2).2.2, q, f, false, (authPath s2).2.1, hq, hf⟩, 0) := fun f q hf hq => by
                unfold splitRest
                rw [if_neg (by rw [List.drop_of_length_le (by simp at hk3; omega)]; simp)]
              have hl5 := hl2
              (
                (refine callV_pc (p_r1_Prefix (s2) [47, 47]) ?_; simp only [lawG, ↓Xn, ↓Xo, ↓Xg, ↓Xd, ↓Xe, ↓Xf, Tryz.VΓ, Tryz.Γs, Xp, Xi, Nat.reduceAdd, Nat.reduceSub, Nat.reduceLT, Nat.reduceLeDiff, reduceIte, reduceCtorEq, Nat.reduceEqDiff, implies_true, forall_const, lawV])
                cases hpf : Lib.hasPrefix (s2) [47, 47]
                · refine ⟨fun h => (by cases h), fun _ => ?_⟩
                  rw [hs2, authPath_no hpf]; rfl
                · refine ⟨fun _ => ?_, fun h => (by cases h)⟩
                  rw [hs2, authPath_two hpf]
                  have hl6 := hp_len hpf
                  simp only [List.length_cons, List.length_nil] at hl6
                  have px4 := p_r1_Index ((s2).drop 2) [47] (by rw [List.length_drop]; omega) (by simp)
                  rw [pre_one] at px4
                  have hpl := pre_le (· == 47) ((s2).drop 2)
                  rw [List.length_drop] at hpl
                  generalize pre (· == 47) ((s2).drop 2) = q at px4 hpl ⊢
                  refine ⟨by omega, ?_⟩
                  (refine callV_pc (px4) ?_; simp only [lawG, ↓Xn, ↓Xo, ↓Xg, ↓Xd, ↓Xe, ↓Xf, Tryz.VΓ, Tryz.Γs, Xp, Xi, Nat.reduceAdd, Nat.reduceSub, Nat.reduceLT, Nat.reduceLeDiff, reduceIte, reduceCtorEq, Nat.reduceEqDiff, implies_true, forall_const, lawV])
                  rw [show (2 + (q : Int)).toNat = 2 + q by omega]
                  exact ⟨by omega, by omega, by omega, (OkD_fast (by kernel_rfl)), rfl⟩)))
    · have hk1' : ¬ pre (· == 35) s < s.length := by simpa using hk1
      rw [show cutC 35 s = (s, [], false) from if_neg hk1']
      simp only
      have hl1 : s.length ≤ 4294967281 := hs
      generalize s = s1 at hl1 ⊢
      (
        have px2 := p_r1_Index s1 [63] (by omega) (by simp)
        rw [pre_one] at px2
        (refine callV_pc (px2) ?_; simp only [lawG, ↓Xn, ↓Xo, ↓Xg, ↓Xd, ↓Xe, ↓Xf, Tryz.VΓ, Tryz.Γs, Xp, Xi, Nat.reduceAdd, Nat.reduceSub, Nat.reduceLT, Nat.reduceLeDiff, reduceIte, reduceCtorEq, Nat.reduceEqDiff, implies_true, forall_const, lawV])
        refine ⟨fun hk2 => ?_, fun hk2 => ?_⟩
        · have hk2' : pre (· == 63) s1 < s1.length := by simpa using hk2
          rw [show cutC 63 s1 = (s1.take (pre (· == 63) s1), s1.drop (pre (· == 63) s1 + 1), true) from if_pos hk2']
          simp only
          have hl2 : (s1.take (pre (· == 63) s1)).length ≤ 4294967281 := by rw [List.length_take]; omega
          refine ⟨by omega, by omega, by omega, (OkD_fast (by kernel_rfl)), ?_⟩
          generalize s1.take (pre (· == 63) s1) = s2 at hl2 ⊢
          generalize s1.drop (pre (· == 63) s1 + 1) = qu
          (
            have px3 := p_r1_Index s2 [58, 47] (by omega) (by simp)
            rw [show pre (([58, 47] : Bytes).contains ·) s2 = pre colonSlash s2 from rfl] at px3
            (refine callV_pc (px3) ?_; simp only [lawG, ↓Xn, ↓Xo, ↓Xg, ↓Xd, ↓Xe, ↓Xf, Tryz.VΓ, Tryz.Γs, Xp, Xi, Nat.reduceAdd, Nat.reduceSub, Nat.reduceLT, Nat.reduceLeDiff, reduceIte, reduceCtorEq, Nat.reduceEqDiff, implies_true, forall_const, lawV])
            refine ⟨fun hk3 => ?_, fun hk3 => ?_⟩
            · have hp : pre colonSlash s2 < s2.length := by simpa using hk3
              rw [byte_is (n := 58) hp 58 rfl]
              refine ⟨by omega, fun h1 => ⟨by omega, ?_⟩, fun h1 => ?_⟩
              · have hh : (s2.drop (pre colonSlash s2)).head? = some 58 := by
                  rw [List.head?_drop, List.getElem?_eq_getElem hp, beq_iff_eq.1 h1]
                (refine callV_pc (p_r6_scheme _ (by rw [List.length_take]; omega)) ?_; simp only [lawG, ↓Xn, ↓Xo, ↓Xg, ↓Xd, ↓Xe, ↓Xf, Tryz.VΓ, Tryz.Γs, Xp, Xi, Nat.reduceAdd, Nat.reduceSub, Nat.reduceLT, Nat.reduceLeDiff, reduceIte, reduceCtorEq, Nat.reduceEqDiff, implies_true, forall_const, lawV])
                refine ⟨fun h2 => ?_, fun h2 => ?_⟩
                · have hs2 : ∀ (f q : Bytes) (hf hq : Bool), splitRest s2 f q hf hq = (Uri.none, 6) := fun f q hf hq => by
                    unfold splitRest
                    rw [if_pos hh, if_neg (by rw [not_t h2]; simp)]
                  rw [hs2]; rfl
                · have hs2 : ∀ (f q : Bytes) (hf hq : Bool), splitRest s2 f q hf hq = (⟨s2.take (pre colonSlash s2), (authPath (s2.drop (pre colonSlash s2 + 1))).1, (authPath (s2.drop (pre colonSlash s2 + 1))).2.2, q, f, true, (authPath (s2.drop (pre colonSlash s2 + 1))).2.1, hq, hf⟩, 0) := fun f q hf hq => by
                    unfold splitRest
                    rw [if_pos hh, if_pos (not_f h2)]
                  have hl5 : (s2.drop (pre colonSlash s2 + 1)).length ≤ 4294967281 := by rw [List.length_drop]; omega
                  refine ⟨by omega, by omega, by omega, (OkD_fast (by kernel_rfl)), ?_⟩
                  (
                    (refine callV_pc (p_r1_Prefix (s2.drop (pre colonSlash s2 + 1)) [47, 47]) ?_; simp only [lawG, ↓Xn, ↓Xo, ↓Xg, ↓Xd, ↓Xe, ↓Xf, Tryz.VΓ, Tryz.Γs, Xp, Xi, Nat.reduceAdd, Nat.reduceSub, Nat.reduceLT, Nat.reduceLeDiff, reduceIte, reduceCtorEq, Nat.reduceEqDiff, implies_true, forall_const, lawV])
                    cases hpf : Lib.hasPrefix (s2.drop (pre colonSlash s2 + 1)) [47, 47]
                    · refine ⟨fun h => (by cases h), fun _ => ?_⟩
                      rw [hs2, authPath_no hpf]; rfl
                    · refine ⟨fun _ => ?_, fun h => (by cases h)⟩
                      rw [hs2, authPath_two hpf]
                      have hl6 := hp_len hpf
                      simp only [List.length_cons, List.length_nil] at hl6
                      have px4 := p_r1_Index ((s2.drop (pre colonSlash s2 + 1)).drop 2) [47] (by rw [List.length_drop]; omega) (by simp)
                      rw [pre_one] at px4
                      have hpl := pre_le (· == 47) ((s2.drop (pre colonSlash s2 + 1)).drop 2)
                      rw [List.length_drop] at hpl
                      generalize pre (· == 47) ((s2.drop (pre colonSlash s2 + 1)).drop 2) = q at px4 hpl ⊢
                      refine ⟨by omega, ?_⟩
                      (refine callV_pc (px4) ?_; simp only [lawG, ↓Xn, ↓Xo, ↓Xg, ↓Xd, ↓Xe, ↓Xf, Tryz.VΓ, Tryz.Γs, Xp, Xi, Nat.reduceAdd, Nat.reduceSub, Nat.reduceLT, Nat.reduceLeDiff, reduceIte, reduceCtorEq, Nat.reduceEqDiff, implies_true, forall_const, lawV])
                      rw [show (2 + (q : Int)).toNat = 2 + q by omega]
                      exact ⟨by omega, by omega, by omega, (OkD_fast (by kernel_rfl)), rfl⟩)
              · have hs2 : ∀ (f q : Bytes) (hf hq : Bool), splitRest s2 f q hf hq = (⟨[], (authPath s2).1, (authPath s2).2.2, q, f, false, (authPath s2).2.1, hq, hf⟩, 0) := fun f q hf hq => by
                  unfold splitRest
                  rw [if_neg (by rw [List.head?_drop, List.getElem?_eq_getElem hp]; simpa using h1)]
                have hl5 := hl2
                (
                  (refine callV_pc (p_r1_Prefix (s2) [47, 47]) ?_; simp only [lawG, ↓Xn, ↓Xo, ↓Xg, ↓Xd, ↓Xe, ↓Xf, Tryz.VΓ, Tryz.Γs, Xp, Xi, Nat.reduceAdd, Nat.reduceSub, Nat.reduceLT, Nat.reduceLeDiff, reduceIte, reduceCtorEq, Nat.reduceEqDiff, implies_true, forall_const, lawV])
                  cases hpf : Lib.hasPrefix (s2) [47, 47]
                  · refine ⟨fun h => (by cases h), fun _ => ?_⟩
                    rw [hs2, authPath_no hpf]; rfl
                  · refine ⟨fun _ => ?_, fun h => (by cases h)⟩
                    rw [hs2, authPath_two hpf]
                    have hl6 := hp_len hpf
                    simp only [List.length_cons, List.length_nil] at hl6
                    have px4 := p_r1_Index ((s2).drop 2) [47] (by rw [List.length_drop]; omega) (by simp)
                    rw [pre_one] at px4
                    have hpl := pre_le (· == 47) ((s2).drop 2)
                    rw [List.length_drop] at hpl
                    generalize pre (· == 47) ((s2).drop 2) = q at px4 hpl ⊢
                    refine ⟨by omega, ?_⟩
                    (refine callV_pc (px4) ?_; simp only [lawG, ↓Xn, ↓Xo, ↓Xg, ↓Xd, ↓Xe, ↓Xf, Tryz.VΓ, Tryz.Γs, Xp, Xi, Nat.reduceAdd, Nat.reduceSub, Nat.reduceLT, Nat.reduceLeDiff, reduceIte, reduceCtorEq, Nat.reduceEqDiff, implies_true, forall_const, lawV])
                    rw [show (2 + (q : Int)).toNat = 2 + q by omega]
                    exact ⟨by omega, by omega, by omega, (OkD_fast (by kernel_rfl)), rfl⟩)
            · have hs2 : ∀ (f q : Bytes) (hf hq : Bool), splitRest s2 f q hf hq = (⟨[], (authPath s2).1, (authPath s2).2.2, q, f, false, (authPath s2).2.1, hq, hf⟩, 0) := fun f q hf hq => by
                unfold splitRest
                rw [if_neg (by rw [List.drop_of_length_le (by simp at hk3; omega)]; simp)]
              have hl5 := hl2
              (
                (refine callV_pc (p_r1_Prefix (s2) [47, 47]) ?_; simp only [lawG, ↓Xn, ↓Xo, ↓Xg, ↓Xd, ↓Xe, ↓Xf, Tryz.VΓ, Tryz.Γs, Xp, Xi, Nat.reduceAdd, Nat.reduceSub, Nat.reduceLT, Nat.reduceLeDiff, reduceIte, reduceCtorEq, Nat.reduceEqDiff, implies_true, forall_const, lawV])
                cases hpf : Lib.hasPrefix (s2) [47, 47]
                · refine ⟨fun h => (by cases h), fun _ => ?_⟩
                  rw [hs2, authPath_no hpf]; rfl
                · refine ⟨fun _ => ?_, fun h => (by cases h)⟩
                  rw [hs2, authPath_two hpf]
                  have hl6 := hp_len hpf
                  simp only [List.length_cons, List.length_nil] at hl6
                  have px4 := p_r1_Index ((s2).drop 2) [47] (by rw [List.length_drop]; omega) (by simp)
                  rw [pre_one] at px4
                  have hpl := pre_le (· == 47) ((s2).drop 2)
                  rw [List.length_drop] at hpl
                  generalize pre (· == 47) ((s2).drop 2) = q at px4 hpl ⊢
                  refine ⟨by omega, ?_⟩
                  (refine callV_pc (px4) ?_; simp only [lawG, ↓Xn, ↓Xo, ↓Xg, ↓Xd, ↓Xe, ↓Xf, Tryz.VΓ, Tryz.Γs, Xp, Xi, Nat.reduceAdd, Nat.reduceSub, Nat.reduceLT, Nat.reduceLeDiff, reduceIte, reduceCtorEq, Nat.reduceEqDiff, implies_true, forall_const, lawV])
                  rw [show (2 + (q : Int)).toNat = 2 + q by omega]
                  exact ⟨by omega, by omega, by omega, (OkD_fast (by kernel_rfl)), rfl⟩))
        · have hk2' : ¬ pre (· == 63) s1 < s1.length := by simpa using hk2
          rw [show cutC 63 s1 = (s1, [], false) from if_neg hk2']
          simp only
          have hl2 : s1.length ≤ 4294967281 := hl1
          generalize s1 = s2 at hl2 ⊢
          (
            have px3 := p_r1_Index s2 [58, 47] (by omega) (by simp)
            rw [show pre (([58, 47] : Bytes).contains ·) s2 = pre colonSlash s2 from rfl] at px3
            (refine callV_pc (px3) ?_; simp only [lawG, ↓Xn, ↓Xo, ↓Xg, ↓Xd, ↓Xe, ↓Xf, Tryz.VΓ, Tryz.Γs, Xp, Xi, Nat.reduceAdd, Nat.reduceSub, Nat.reduceLT, Nat.reduceLeDiff, reduceIte, reduceCtorEq, Nat.reduceEqDiff, implies_true, forall_const, lawV])
            refine ⟨fun hk3 => ?_, fun hk3 => ?_⟩
            · have hp : pre colonSlash s2 < s2.length := by simpa using hk3
              rw [byte_is (n := 58) hp 58 rfl]
              refine ⟨by omega, fun h1 => ⟨by omega, ?_⟩, fun h1 => ?_⟩
              · have hh : (s2.drop (pre colonSlash s2)).head? = some 58 := by
                  rw [List.head?_drop, List.getElem?_eq_getElem hp, beq_iff_eq.1 h1]
                (refine callV_pc (p_r6_scheme _ (by rw [List.length_take]; omega)) ?_; simp only [lawG, ↓Xn, ↓Xo, ↓Xg, ↓Xd, ↓Xe, ↓Xf, Tryz.VΓ, Tryz.Γs, Xp, Xi, Nat.reduceAdd, Nat.reduceSub, Nat.reduceLT, Nat.reduceLeDiff, reduceIte, reduceCtorEq, Nat.reduceEqDiff, implies_true, forall_const, lawV])
                refine ⟨fun h2 => ?_, fun h2 => ?_⟩
                · have hs2 : ∀ (f q : Bytes) (hf hq : Bool), splitRest s2 f q hf hq = (Uri.none, 6) := fun f q hf hq => by
                    unfold splitRest
                    rw [if_pos hh, if_neg (by rw [not_t h2]; simp)]
                  rw [hs2]; rfl
                · have hs2 : ∀ (f q : Bytes) (hf hq : Bool), splitRest s2 f q hf hq = (⟨s2.take (pre colonSlash s2), (authPath (s2.drop (pre colonSlash s2 + 1))).1, (authPath (s2.drop (pre colonSlash s2 + 1))).2.2, q, f, true, (authPath (s2.drop (pre colonSlash s2 + 1))).2.1, hq, hf⟩, 0) := fun f q hf hq => by
                    unfold splitRest
                    rw [if_pos hh, if_pos (not_f h2)]
                  have hl5 : (s2.drop (pre colonSlash s2 + 1)).length ≤ 4294967281 := by rw [List.length_drop]; omega
                  refine ⟨by omega, by omega, by omega, (OkD_fast (by kernel_rfl)), ?_⟩
                  (
                    (refine callV_pc (p_r1_Prefix (s2.drop (pre colonSlash s2 + 1)) [47, 47]) ?_; simp only [lawG, ↓Xn, ↓Xo, ↓Xg, ↓Xd, ↓Xe, ↓Xf, Tryz.VΓ, Tryz.Γs, Xp, Xi, Nat.reduceAdd, Nat.reduceSub, Nat.reduceLT, Nat.reduceLeDiff, reduceIte, reduceCtorEq, Nat.reduceEqDiff, implies_true, forall_const, lawV])
                    cases hpf : Lib.hasPrefix (s2.drop (pre colonSlash s2 + 1)) [47, 47]
                    · refine ⟨fun h => (by cases h), fun _ => ?_⟩
                      rw [hs2, authPath_no hpf]; rfl
                    · refine ⟨fun _ => ?_, fun h => (by cases h)⟩
                      rw [hs2, authPath_two hpf]
                      have hl6 := hp_len hpf
                      simp only [List.length_cons, List.length_nil] at hl6
                      have px4 := p_r1_Index ((s2.drop (pre colonSlash s2 + 1)).drop 2) [47] (by rw [List.length_drop]; omega) (by simp)
                      rw [pre_one] at px4
                      have hpl := pre_le (· == 47) ((s2.drop (pre colonSlash s2 + 1)).drop 2)
                      rw [List.length_drop] at hpl
                      generalize pre (· == 47) ((s2.drop (pre colonSlash s2 + 1)).drop 2) = q at px4 hpl ⊢
                      refine ⟨by omega, ?_⟩
                      (refine callV_pc (px4) ?_; simp only [lawG, ↓Xn, ↓Xo, ↓Xg, ↓Xd, ↓Xe, ↓Xf, Tryz.VΓ, Tryz.Γs, Xp, Xi, Nat.reduceAdd, Nat.reduceSub, Nat.reduceLT, Nat.reduceLeDiff, reduceIte, reduceCtorEq, Nat.reduceEqDiff, implies_true, forall_const, lawV])
                      rw [show (2 + (q : Int)).toNat = 2 + q by omega]
                      exact ⟨by omega, by omega, by omega, (OkD_fast (by kernel_rfl)), rfl⟩)
              · have hs2 : ∀ (f q : Bytes) (hf hq : Bool), splitRest s2 f q hf hq = (⟨[], (authPath s2).1, (authPath s2).2.2, q, f, false, (authPath s2).2.1, hq, hf⟩, 0) := fun f q hf hq => by
                  unfold splitRest
                  rw [if_neg (by rw [List.head?_drop, List.getElem?_eq_getElem hp]; simpa using h1)]
                have hl5 := hl2
                (
                  (refine callV_pc (p_r1_Prefix (s2) [47, 47]) ?_; simp only [lawG, ↓Xn, ↓Xo, ↓Xg, ↓Xd, ↓Xe, ↓Xf, Tryz.VΓ, Tryz.Γs, Xp, Xi, Nat.reduceAdd, Nat.reduceSub, Nat.reduceLT, Nat.reduceLeDiff, reduceIte, reduceCtorEq, Nat.reduceEqDiff, implies_true, forall_const, lawV])
                  cases hpf : Lib.hasPrefix (s2) [47, 47]
                  · refine ⟨fun h => (by cases h), fun _ => ?_⟩
                    rw [hs2, authPath_no hpf]; rfl
                  · refine ⟨fun _ => ?_, fun h => (by cases h)⟩
                    rw [hs2, authPath_two hpf]
                    have hl6 := hp_len hpf
                    simp only [List.length_cons, List.length_nil] at hl6
                    have px4 := p_r1_Index ((s2).drop 2) [47] (by rw [List.length_drop]; omega) (by simp)
                    rw [pre_one] at px4
                    have hpl := pre_le (· == 47) ((s2).drop 2)
                    rw [List.length_drop] at hpl
                    generalize pre (· == 47) ((s2).drop 2) = q at px4 hpl ⊢
                    refine ⟨by omega, ?_⟩
                    (refine callV_pc (px4) ?_; simp only [lawG, ↓Xn, ↓Xo, ↓Xg, ↓Xd, ↓Xe, ↓Xf, Tryz.VΓ, Tryz.Γs, Xp, Xi, Nat.reduceAdd, Nat.reduceSub, Nat.reduceLT, Nat.reduceLeDiff, reduceIte, reduceCtorEq, Nat.reduceEqDiff, implies_true, forall_const, lawV])
                    rw [show (2 + (q : Int)).toNat = 2 + q by omega]
                    exact ⟨by omega, by omega, by omega, (OkD_fast (by kernel_rfl)), rfl⟩)
            · have hs2 : ∀ (f q : Bytes) (hf hq : Bool), splitRest s2 f q hf hq = (⟨[], (authPath s2).1, (authPath s2).2.2, q, f, false, (authPath s2).2.1, hq, hf⟩, 0) := fun f q hf hq => by
                unfold splitRest
                rw [if_neg (by rw [List.drop_of_length_le (by simp at hk3; omega)]; simp)]
              have hl5 := hl2
              (
                (refine callV_pc (p_r1_Prefix (s2) [47, 47]) ?_; simp only [lawG, ↓Xn, ↓Xo, ↓Xg, ↓Xd, ↓Xe, ↓Xf, Tryz.VΓ, Tryz.Γs, Xp, Xi, Nat.reduceAdd, Nat.reduceSub, Nat.reduceLT, Nat.reduceLeDiff, reduceIte, reduceCtorEq, Nat.reduceEqDiff, implies_true, forall_const, lawV])
                cases hpf : Lib.hasPrefix (s2) [47, 47]
                · refine ⟨fun h => (by cases h), fun _ => ?_⟩
                  rw [hs2, authPath_no hpf]; rfl
                · refine ⟨fun _ => ?_, fun h => (by cases h)⟩
                  rw [hs2, authPath_two hpf]
                  have hl6 := hp_len hpf
                  simp only [List.length_cons, List.length_nil] at hl6
                  have px4 := p_r1_Index ((s2).drop 2) [47] (by rw [List.length_drop]; omega) (by simp)
                  rw [pre_one] at px4
                  have hpl := pre_le (· == 47) ((s2).drop 2)
                  rw [List.length_drop] at hpl
                  generalize pre (· == 47) ((s2).drop 2) = q at px4 hpl ⊢
                  refine ⟨by omega, ?_⟩
                  (refine callV_pc (px4) ?_; simp only [lawG, ↓Xn, ↓Xo, ↓Xg, ↓Xd, ↓Xe, ↓Xf, Tryz.VΓ, Tryz.Γs, Xp, Xi, Nat.reduceAdd, Nat.reduceSub, Nat.reduceLT, Nat.reduceLeDiff, reduceIte, reduceCtorEq, Nat.reduceEqDiff, implies_true, forall_const, lawV])
                  rw [show (2 + (q : Int)).toNat = 2 + q by omega]
                  exact ⟨by omega, by omega, by omega, (OkD_fast (by kernel_rfl)), rfl⟩)))
end Go.Proofs.YtjponbpdlioocaaGreatDoor
/- The walks of the reference for package percent. -/
set_option linter.all false
set_option maxRecDepth 20000
namespace Go.Proofs.YtjponbpdlioocaaGreatDoor
open Go Vc Go.RowKit Wf
theorem p_r1_IsHex (c : UInt8) : PC Tryz.V 109 [.int .u8 c.toNat] (.bool (isHex c)) :=
  ⟨Tryz.call109, by simp [flat, flat.flatL], by simp [flat, flat.flatL], fun w _ => (ref01_IsHex c w).mono fun _ _ ⟨h, k⟩ => ⟨h, below_same k⟩⟩
theorem p_r1_IsUnreserved (c : UInt8) : PC Tryz.V 78 [.int .u8 c.toNat] (.bool (unres c)) := by
  refine pc_of 3000 Tryz.func78 rfl Tryz.ntmps78 Tryz.results78 Tryz.call78 (by simp) (by simp [flat, flat.flatL]) (by simp [flat, flat.flatL]) ?_
  simp only [lawG, ↓Xn, ↓Xo, ↓Xg, ↓Xd, ↓Xe, ↓Xf, Tryz.VΓ, Tryz.Γs, Xp, Xi, Nat.reduceAdd, Nat.reduceSub, Nat.reduceLT, Nat.reduceLeDiff, reduceIte, reduceCtorEq, Nat.reduceEqDiff, implies_true, forall_const, lawV]
  (refine callV_pc (p_r1_IsAlpha c) ?_; simp only [lawG, ↓Xn, ↓Xo, ↓Xg, ↓Xd, ↓Xe, ↓Xf, Tryz.VΓ, Tryz.Γs, Xp, Xi, Nat.reduceAdd, Nat.reduceSub, Nat.reduceLT, Nat.reduceLeDiff, reduceIte, reduceCtorEq, Nat.reduceEqDiff, implies_true, forall_const, lawV])
  refine ⟨fun h => ?_, fun h => ?_⟩
  · (refine callV_pc (p_r1_IsDigit c) ?_; simp only [lawG, ↓Xn, ↓Xo, ↓Xg, ↓Xd, ↓Xe, ↓Xf, Tryz.VΓ, Tryz.Γs, Xp, Xi, Nat.reduceAdd, Nat.reduceSub, Nat.reduceLT, Nat.reduceLeDiff, reduceIte, reduceCtorEq, Nat.reduceEqDiff, implies_true, forall_const, lawV])
    refine ⟨fun h2 => ?_, fun h2 => ?_⟩
    · (refine callV_pc (p_r1_In c [45, 46, 95, 126] (by simp)) ?_; simp only [lawG, ↓Xn, ↓Xo, ↓Xg, ↓Xd, ↓Xe, ↓Xf, Tryz.VΓ, Tryz.Γs, Xp, Xi, Nat.reduceAdd, Nat.reduceSub, Nat.reduceLT, Nat.reduceLeDiff, reduceIte, reduceCtorEq, Nat.reduceEqDiff, implies_true, forall_const, lawV])
      unfold unres; rw [h, h2]; rfl
    · unfold unres; rw [h, h2]; rfl
  · unfold unres; rw [h]; rfl
theorem p_r3_digit (c : UInt8) (hc : isHex c = true) : PC Tryz.V 110 [.int .u8 c.toNat] (.int .u8 (hexVal c)) := by
  have key := all256 (p := fun c => !isHex c || (decide ((c.toNat ≤ 57 → IntKind.u8.wrap ((c.toNat : Int) - 48) = hexVal c) ∧ (57 < c.toNat → c.toNat ≤ 70 → IntKind.u8.wrap (IntKind.u8.wrap ((c.toNat : Int) - 65) + 10) = hexVal c) ∧ (70 < c.toNat → IntKind.u8.wrap (IntKind.u8.wrap ((c.toNat : Int) - 97) + 10) = hexVal c)))) (by decide +kernel) c
  simp only [hc, Bool.not_true, Bool.false_or, decide_eq_true_eq] at key
  obtain ⟨k1, k2, k3⟩ := key
  refine pc_of 3000 Tryz.func110 rfl Tryz.ntmps110 Tryz.results110 Tryz.call110 (by simp) (by simp [flat, flat.flatL]) (by simp [flat, flat.flatL]) ?_
  simp only [lawG, ↓Xn, ↓Xo, ↓Xg, ↓Xd, ↓Xe, ↓Xf, Tryz.VΓ, Tryz.Γs, Xp, Xi, Nat.reduceAdd, Nat.reduceSub, Nat.reduceLT, Nat.reduceLeDiff, reduceIte, reduceCtorEq, Nat.reduceEqDiff, implies_true, forall_const, lawV]
  refine ⟨fun h => ?_, fun h => ⟨fun h2 => ?_, fun h2 => ?_⟩⟩
  · rw [k1 (by simp at h; omega)]
  · rw [k2 (by simp at h; omega) (by simp at h2; omega)]
  · rw [k3 (by simp at h2; omega)]
theorem unhex_arith (a b : UInt8) (ha : isHex a = true) (hb : isHex b = true) : IntKind.u8.wrap (IntKind.u8.wrap (16 * (hexVal a : Int)) + hexVal b) = ((unhex a b).toNat : Int) := by
  have h1 := hexVal_le ha
  have h2 := hexVal_le hb
  have : ∀ x, x < 16 → ∀ y, y < 16 → IntKind.u8.wrap (IntKind.u8.wrap (16 * ((x : Nat) : Int)) + (y : Nat)) = (((x * 16 + y).toUInt8).toNat : Int) := by decide +kernel
  exact this _ (by omega) _ (by omega)
set_option maxRecDepth 20000 in
set_option maxHeartbeats 1000000 in
theorem p_r3_escape (s : Bytes) (i : Nat) (hi : i < s.length) (hp : s[i] = 37) (hs : s.length ≤ 4294967281) : PC Tryz.V 79 [.str s, .int .i64 i] (.tup [.int .u8 (((escAt s i).getD 0).toNat : Int), .bool (escAt s i).isSome]) := by
  have hg : ((s.getD i 0).toNat : Int) = 37 := by rw [show s.getD i 0 = 37 by rw [← hp]; simp [List.getD, hi]]; rfl
  refine pc_of 3000 Tryz.func79 rfl Tryz.ntmps79 Tryz.results79 Tryz.call79 (by simp) (by simp [flat, flat.flatL]) (by simp [flat, flat.flatL]) ?_
  simp (config := { maxSteps := 2000000 }) only [lawG, ↓Xn, ↓Xo, ↓Xg, ↓Xd, ↓Xe, ↓Xf, Tryz.VΓ, Tryz.Γs, Xp, Xi, Nat.reduceAdd, Nat.reduceSub, Nat.reduceLT, Nat.reduceLeDiff, reduceIte, reduceCtorEq, Nat.reduceEqDiff, implies_true, forall_const, lawV, hg, Int.toNat_natCast, beq_self_eq_true, bne_self_eq_false, Int.reduceBEq, Int.reduceBNe, Int.reduceLT, Int.reduceLE]
  unfold escAt
  rw [hexPair_drop]
  refine ⟨⟨by omega, by omega⟩, fun hl => ?_, fun hl => ?_⟩
  · have hl : i + 2 < s.length := (by simp at hl; omega)
    rw [if_pos hl]
    refine ⟨⟨by omega, by omega⟩, ⟨by omega, by omega⟩, ⟨by omega, by omega⟩, ?_⟩
    · skip
      (refine callV_pc (p_r1_IsHex _) ?_; simp only [lawG, ↓Xn, ↓Xo, ↓Xg, ↓Xd, ↓Xe, ↓Xf, Tryz.VΓ, Tryz.Γs, Xp, Xi, Nat.reduceAdd, Nat.reduceSub, Nat.reduceLT, Nat.reduceLeDiff, reduceIte, reduceCtorEq, Nat.reduceEqDiff, implies_true, forall_const, lawV])
      refine ⟨fun ha => ⟨⟨by omega, by omega⟩, ⟨by omega, by omega⟩, ?_⟩, fun ha => ?_⟩
      · have ha : isHex (s.getD (i + 1) 0) = true := by simpa using ha
        (refine callV_pc (p_r1_IsHex _) ?_; simp only [lawG, ↓Xn, ↓Xo, ↓Xg, ↓Xd, ↓Xe, ↓Xf, Tryz.VΓ, Tryz.Γs, Xp, Xi, Nat.reduceAdd, Nat.reduceSub, Nat.reduceLT, Nat.reduceLeDiff, reduceIte, reduceCtorEq, Nat.reduceEqDiff, implies_true, forall_const, lawV])
        refine ⟨fun hb => ?_, fun hb => ⟨⟨by omega, by omega⟩, ⟨by omega, by omega⟩, ?_⟩⟩
        · have hb : isHex (s.getD (i + 2) 0) = false := by simpa using hb
          rw [ha, hb]; rfl
        · have hb : isHex (s.getD (i + 2) 0) = true := by simpa using hb
          (refine callD_pc (p_r3_digit _ ha) ?_; simp only [lawG, ↓Xn, ↓Xo, ↓Xg, ↓Xd, ↓Xe, ↓Xf, Tryz.VΓ, Tryz.Γs, Xp, Xi, Nat.reduceAdd, Nat.reduceSub, Nat.reduceLT, Nat.reduceLeDiff, reduceIte, reduceCtorEq, Nat.reduceEqDiff, implies_true, forall_const, lawV])
          refine ⟨⟨by omega, by omega⟩, ⟨by omega, by omega⟩, ?_⟩
          (refine callD_pc (p_r3_digit _ hb) ?_; simp only [lawG, ↓Xn, ↓Xo, ↓Xg, ↓Xd, ↓Xe, ↓Xf, Tryz.VΓ, Tryz.Γs, Xp, Xi, Nat.reduceAdd, Nat.reduceSub, Nat.reduceLT, Nat.reduceLeDiff, reduceIte, reduceCtorEq, Nat.reduceEqDiff, implies_true, forall_const, lawV])
          refine ⟨(OkD_fast (by kernel_rfl)), ?_⟩
          rw [unhex_arith _ _ ha hb, ha, hb]; rfl
      · have ha : isHex (s.getD (i + 1) 0) = false := by simpa using ha
        rw [ha]; rfl
  · have hl : ¬ i + 2 < s.length := (by simp at hl; omega)
    rw [if_neg hl]; rfl
theorem p_r3_Escape (c : UInt8) : PC Tryz.V 80 [.int .u8 c.toNat] (.str (esc c)) := by
  have hc := c.toNat_lt
  have d1 := digs_at (c.toNat / 16) (by omega)
  have d2 := digs_at (c.toNat % 16) (by omega)
  have key := all256 (p := fun c => decide (divI .quo .u8 (c.toNat : Int) 16 = ((c.toNat / 16 : Nat) : Int) ∧ divI .rem .u8 (c.toNat : Int) 16 = ((c.toNat % 16 : Nat) : Int))) (by decide +kernel) c
  obtain ⟨s1, s2⟩ := of_decide_eq_true key
  have ec := esc_cells c
  have e1 : ([.int .u8 37, .int .u8 ((hexU (c.toNat / 16)).toNat : Int), .int .u8 ((hexU (c.toNat % 16)).toNat : Int)] : List SV).map unU8 = esc c := by rw [← ec, unU8_map]
  refine pc_of 3000 Tryz.func80 rfl Tryz.ntmps80 Tryz.results80 Tryz.call80 (by simp) (by simp [flat, flat.flatL]) (by simp [flat, flat.flatL]) ?_
  simp only [lawG, ↓Xn, ↓Xo, ↓Xg, ↓Xd, ↓Xe, ↓Xf, Tryz.VΓ, Tryz.Γs, Xp, Xi, Nat.reduceAdd, Nat.reduceSub, Nat.reduceLT, Nat.reduceLeDiff, reduceIte, reduceCtorEq, Nat.reduceEqDiff, implies_true, forall_const, lawV, s1, s2, Int.toNat_natCast, d1, d2]
  have e2 : ([.int .u8 37, .int .u8 ((hexU (c.toNat / 16)).toNat : Int), .int .u8 ((hexU (c.toNat % 16)).toNat : Int)] : List SV).all isU8 = true := by rw [← ec, isU8_map]
  simp only [List.map_cons, List.map_nil] at e1
  simp only [List.all_cons, List.all_nil, Bool.and_true] at e2
  exact ⟨by decide, ⟨by omega, by omega⟩, by decide, ⟨by omega, by omega⟩, by omega, e2, (OkD_fast (by kernel_rfl)), by rw [e1]⟩
end Go.Proofs.YtjponbpdlioocaaGreatDoor
/- The walk of the reference's Normalize. -/
set_option linter.all false
set_option maxRecDepth 20000
namespace Go.Proofs.YtjponbpdlioocaaGreatDoor
open Go Vc Go.RowKit Wf
def RnI (also s : Bytes) (σ : St) : Prop := ∃ (i : Nat) (x : SV) (d : Bytes), lk 0 σ.t = some (.str s) ∧ lk 1 σ.t = some (.str also) ∧ lk 6 σ.t = some x ∧ lk 7 σ.t = some (.int .i64 i) ∧ i ≤ s.length ∧ d.length ≤ 3 * i ∧ Sl 5 1 0 x σ.b (d.map u8S) d.length ∧ comb d (normU also (units (s.drop i))) = normU also (units s)
theorem rn_mk {also s : Bytes} {t : List (Nat × SV)} {b : List Res} {i i' : Nat} {x : SV} {d : Bytes} (h0 : lk 0 t = some (.str s)) (h1 : lk 1 t = some (.str also)) (h6 : lk 6 t = some x) (h7 : lk 7 t = some (.int .i64 i')) (h : i' ≤ s.length ∧ d.length ≤ 3 * i') (ht : Sl 5 1 0 x b (d.map u8S) d.length)
    (hn : comb d (normU also (units (s.drop i'))) = normU also (units s)) (hlt : i < i') : RnI also s ⟨t, b⟩ ∧ NoM s ⟨t, b⟩ < s.length - i :=
  ⟨⟨i', x, d, h0, h1, h6, h7, h.1, h.2, ht, hn⟩, by rw [NoM_eq h7]; omega⟩
set_option maxRecDepth 20000 in
set_option maxHeartbeats 4000000 in
theorem p_r3_Normalize (s also : Bytes) (ha : also.length ≤ 1000) : PC Tryz.V 52 [.str s, .str also] (.tup [.str (pctNorm also s).1, .int .i64 (pctNorm also s).2]) := by
  refine pc_of 3000 Tryz.func52 rfl Tryz.ntmps52 Tryz.results52 Tryz.call52 (by simp) (by simp [flat, flat.flatL]) (by simp [flat, flat.flatL]) ?_
  simp only [lawG, ↓Xn, ↓Xo, ↓Xg, ↓Xd, ↓Xe, ↓Xf, Tryz.VΓ, Tryz.Γs, Xp, Xi, Nat.reduceAdd, Nat.reduceSub, Nat.reduceLT, Nat.reduceLeDiff, reduceIte, reduceCtorEq, Nat.reduceEqDiff, implies_true, forall_const, lawV]
  unfold pctNorm
  refine ⟨fun hl => ?_, fun hl => ?_⟩
  · have hl : 16384 < s.length := (by simp at hl; omega)
    rw [if_pos hl]
  have hl : s.length ≤ 16384 := (by simp at hl; omega)
  rw [if_neg (by omega)]
  refine loopV_mk (RnI also s) (NoM s) ⟨0, .nils, [], rfl, rfl, rfl, rfl, by omega, by simp, .inl ⟨rfl, rfl, rfl⟩, comb_nil _ (normU_err also _)⟩ ?_
  rintro ⟨t, b⟩ ⟨i, x, d, h0, h1, h6, h7, hi, hd, ht, hn⟩
  simp only at h0 h1 h6 h7 ht
  rw [NoM_eq h7]
  by_cases hlt : i < s.length
  · have hu := units_step hlt
    have hg : s.getD i 0 = s[i] := by simp [List.getD, hlt]
    simp only [lawG, ↓Xn, ↓Xo, ↓Xg, ↓Xd, ↓Xe, ↓Xf, Tryz.VΓ, Tryz.Γs, Xp, Xi, Nat.reduceAdd, Nat.reduceSub, Nat.reduceLT, Nat.reduceLeDiff, reduceIte, reduceCtorEq, Nat.reduceEqDiff, implies_true, forall_const, lawV, h0, h1, h6, h7]
    refine ⟨fun _ => ⟨⟨by omega, by omega⟩, fun hc => ⟨⟨by omega, by omega⟩, ?_⟩, fun hc => ?_⟩, fun h => absurd h (by simp; omega)⟩
    · have hc : ¬ s[i] = 37 := by
        intro e
        rw [hg, e] at hc
        simp at hc
      rw [if_neg hc] at hu
      rw [hu, normU] at hn
      rw [hg]
      have hn2 : keepB also s[i] = true → comb (d ++ [s[i]]) (normU also (units (s.drop (i + 1)))) = normU also (units s) := fun hk => by
        rw [← hn, if_pos hk, comb_comb]
      (refine callV_pc (p_r1_IsUnreserved s[i]) ?_; simp only [lawG, ↓Xn, ↓Xo, ↓Xg, ↓Xd, ↓Xe, ↓Xf, Tryz.VΓ, Tryz.Γs, Xp, Xi, Nat.reduceAdd, Nat.reduceSub, Nat.reduceLT, Nat.reduceLeDiff, reduceIte, reduceCtorEq, Nat.reduceEqDiff, implies_true, forall_const, lawV, h0, h1, h6, h7, hg])
      refine ⟨fun hq => ⟨⟨by omega, by omega⟩, ?_⟩, fun hq => ⟨⟨by omega, by omega⟩, ?_⟩⟩
      · have hq := not_t hq
        (refine callV_pc (p_r1_In s[i] also (by omega)) ?_; simp only [lawG, ↓Xn, ↓Xo, ↓Xg, ↓Xd, ↓Xe, ↓Xf, Tryz.VΓ, Tryz.Γs, Xp, Xi, Nat.reduceAdd, Nat.reduceSub, Nat.reduceLT, Nat.reduceLeDiff, reduceIte, reduceCtorEq, Nat.reduceEqDiff, implies_true, forall_const, lawV, h0, h1, h6, h7, hg])
        refine ⟨fun hq2 => ?_, fun hq2 => ⟨⟨by omega, by omega⟩, ?_⟩⟩
        · have hq2 := not_t hq2
          have hk : ¬ keepB also s[i] = true := by unfold keepB; rw [hq, hq2]; simp
          rw [if_neg hk] at hn
          have hres : normU also (units s) = ([], 1) := by rw [← hn]; rfl
          rw [hres]
        · have hq2 := not_f hq2
          have hk : keepB also s[i] = true := by unfold keepB; rw [hq2]; simp
          (rcases ht with ⟨rfl, hc0, hn0⟩ | ⟨j, rfl, hLj, hj⟩
           · obtain rfl : d = [] := by simpa using hc0
             simp only [lawG, ↓Xn, ↓Xo, ↓Xg, ↓Xd, ↓Xe, ↓Xf, Tryz.VΓ, Tryz.Γs, Xp, Xi, Nat.reduceAdd, Nat.reduceSub, Nat.reduceLT, Nat.reduceLeDiff, reduceIte, reduceCtorEq, Nat.reduceEqDiff, implies_true, forall_const, lawV, h0, h1, h6, h7, hg, at_new]
             refine ⟨by omega, ⟨by unfold maxLen; omega, by omega⟩, ⟨by omega, by omega⟩, rn_mk (i' := i + 1) (x := .o (b ++ [Res.own [u8S (s[i])] 5 1 1 true]).length 1) (d := [] ++ [s[i]]) h0 h1 rfl (by simp only [lk, reduceIte, Option.some.injEq, SV.int.injEq, true_and]; omega) ⟨by omega, by simp; omega⟩ (.inr ⟨_, rfl, by omega, at_new _ _⟩) (hn2 hk) (by omega)⟩
           · have hjl : j < b.length := (List.getElem?_eq_some_iff.1 hj).1
             have ho : ∀ X, (b ++ [X])[j]? = some (.own (d.map u8S) 5 1 d.length true) := fun X => at_old hj [X]
             simp only [lawG, ↓Xn, ↓Xo, ↓Xg, ↓Xd, ↓Xe, ↓Xf, Tryz.VΓ, Tryz.Γs, Xp, Xi, Nat.reduceAdd, Nat.reduceSub, Nat.reduceLT, Nat.reduceLeDiff, reduceIte, reduceCtorEq, Nat.reduceEqDiff, implies_true, forall_const, lawV, h0, h1, h6, h7, hg, at_new, ho]
             refine ⟨by omega, ⟨by unfold maxLen; omega, by omega⟩, ⟨by omega, by omega⟩, rn_mk (i' := i + 1) (x := .o (b ++ [Res.own [u8S (s[i])] 5 1 1 true]).length (d.length + 1)) (d := d ++ [s[i]]) h0 h1 rfl (by simp only [lk, reduceIte, Option.some.injEq, SV.int.injEq, true_and]; omega) ⟨by omega, by simp; omega⟩ (.inr ⟨(b ++ [Res.own [u8S (s[i])] 5 1 1 true]).length, by simp, by omega, by rw [List.getElem?_append_right (by simp)]; simp [u8S]⟩) (hn2 hk) (by omega)⟩)
      · have hq := not_f hq
        have hk : keepB also s[i] = true := by unfold keepB; rw [hq]; simp
        (rcases ht with ⟨rfl, hc0, hn0⟩ | ⟨j, rfl, hLj, hj⟩
         · obtain rfl : d = [] := by simpa using hc0
           simp only [lawG, ↓Xn, ↓Xo, ↓Xg, ↓Xd, ↓Xe, ↓Xf, Tryz.VΓ, Tryz.Γs, Xp, Xi, Nat.reduceAdd, Nat.reduceSub, Nat.reduceLT, Nat.reduceLeDiff, reduceIte, reduceCtorEq, Nat.reduceEqDiff, implies_true, forall_const, lawV, h0, h1, h6, h7, hg, at_new]
           refine ⟨by omega, ⟨by unfold maxLen; omega, by omega⟩, ⟨by omega, by omega⟩, rn_mk (i' := i + 1) (x := .o (b ++ [Res.own [u8S (s[i])] 5 1 1 true]).length 1) (d := [] ++ [s[i]]) h0 h1 rfl (by simp only [lk, reduceIte, Option.some.injEq, SV.int.injEq, true_and]; omega) ⟨by omega, by simp; omega⟩ (.inr ⟨_, rfl, by omega, at_new _ _⟩) (hn2 hk) (by omega)⟩
         · have hjl : j < b.length := (List.getElem?_eq_some_iff.1 hj).1
           have ho : ∀ X, (b ++ [X])[j]? = some (.own (d.map u8S) 5 1 d.length true) := fun X => at_old hj [X]
           simp only [lawG, ↓Xn, ↓Xo, ↓Xg, ↓Xd, ↓Xe, ↓Xf, Tryz.VΓ, Tryz.Γs, Xp, Xi, Nat.reduceAdd, Nat.reduceSub, Nat.reduceLT, Nat.reduceLeDiff, reduceIte, reduceCtorEq, Nat.reduceEqDiff, implies_true, forall_const, lawV, h0, h1, h6, h7, hg, at_new, ho]
           refine ⟨by omega, ⟨by unfold maxLen; omega, by omega⟩, ⟨by omega, by omega⟩, rn_mk (i' := i + 1) (x := .o (b ++ [Res.own [u8S (s[i])] 5 1 1 true]).length (d.length + 1)) (d := d ++ [s[i]]) h0 h1 rfl (by simp only [lk, reduceIte, Option.some.injEq, SV.int.injEq, true_and]; omega) ⟨by omega, by simp; omega⟩ (.inr ⟨(b ++ [Res.own [u8S (s[i])] 5 1 1 true]).length, by simp, by omega, by rw [List.getElem?_append_right (by simp)]; simp [u8S]⟩) (hn2 hk) (by omega)⟩)
    · have hc : s[i] = 37 := by
        have : s.getD i 0 = 37 := by
          rw [← UInt8.toNat_inj]
          have e37 : (37 : UInt8).toNat = 37 := rfl
          have h2 := bne_eq_false_iff_eq.1 hc
          omega
        rw [← hg]; exact this
      rw [if_pos hc] at hu
      have pe := p_r3_escape s i hlt hc (by omega)
      cases he : escAt s i with
      | none =>
        rw [he] at pe hu
        simp only at hu
        rw [hu] at hn
        have hres : normU also (units s) = ([], 2) := by rw [← hn]; rfl
        rw [hres]
        (refine callV_pc pe ?_; simp only [lawG, ↓Xn, ↓Xo, ↓Xg, ↓Xd, ↓Xe, ↓Xf, Tryz.VΓ, Tryz.Γs, Xp, Xi, Nat.reduceAdd, Nat.reduceSub, Nat.reduceLT, Nat.reduceLeDiff, reduceIte, reduceCtorEq, Nat.reduceEqDiff, implies_true, forall_const, lawV, h0, h1, h6, h7, Option.isSome_none])
      | some v =>
        rw [he] at pe hu
        have hx := he
        unfold escAt at hx
        obtain ⟨⟨a, bb, r⟩, hp, hv⟩ := Option.map_eq_some_iff.1 hx
        simp only at hv
        rw [hp] at hu
        simp only at hu
        have hi3 : i + 3 ≤ s.length := by
          obtain ⟨h1, -, -⟩ := hexPair_some hp
          have := congrArg List.length h1
          simp at this
          omega
        have hn2 : comb (d ++ normB v) (normU also (units (s.drop (i + 2 + 1)))) = normU also (units s) := by
          rw [← hn, hu, normU, comb_comb, hv]
        simp only [Option.getD_some, Option.isSome_some] at pe
        (refine callV_pc pe ?_; simp only [lawG, ↓Xn, ↓Xo, ↓Xg, ↓Xd, ↓Xe, ↓Xf, Tryz.VΓ, Tryz.Γs, Xp, Xi, Nat.reduceAdd, Nat.reduceSub, Nat.reduceLT, Nat.reduceLeDiff, reduceIte, reduceCtorEq, Nat.reduceEqDiff, implies_true, forall_const, lawV, h0, h1, h6, h7])
        (refine callV_pc (p_r1_IsUnreserved v) ?_; simp only [lawG, ↓Xn, ↓Xo, ↓Xg, ↓Xd, ↓Xe, ↓Xf, Tryz.VΓ, Tryz.Γs, Xp, Xi, Nat.reduceAdd, Nat.reduceSub, Nat.reduceLT, Nat.reduceLeDiff, reduceIte, reduceCtorEq, Nat.reduceEqDiff, implies_true, forall_const, lawV, h0, h1, h6, h7])
        refine ⟨fun hq => ?_, fun hq => ?_⟩
        · have hn3 : comb (d ++ [v]) (normU also (units (s.drop (i + 2 + 1)))) = normU also (units s) := by
            rw [← hn2]; unfold normB; rw [if_pos hq]
          (rcases ht with ⟨rfl, hc0, hn0⟩ | ⟨j, rfl, hLj, hj⟩
           · obtain rfl : d = [] := by simpa using hc0
             simp only [lawG, ↓Xn, ↓Xo, ↓Xg, ↓Xd, ↓Xe, ↓Xf, Tryz.VΓ, Tryz.Γs, Xp, Xi, Nat.reduceAdd, Nat.reduceSub, Nat.reduceLT, Nat.reduceLeDiff, reduceIte, reduceCtorEq, Nat.reduceEqDiff, implies_true, forall_const, lawV, h0, h1, h6, h7, hg, at_new]
             refine ⟨by omega, ⟨by unfold maxLen; omega, by omega⟩, ⟨by omega, by omega⟩, ⟨by omega, by omega⟩, rn_mk (i' := i + 2 + 1) (x := .o (b ++ [Res.own [u8S (v)] 5 1 1 true]).length 1) (d := [] ++ [v]) h0 h1 rfl (by simp only [lk, reduceIte, Option.some.injEq, SV.int.injEq, true_and]; omega) ⟨by omega, by simp; omega⟩ (.inr ⟨_, rfl, by omega, at_new _ _⟩) (hn3) (by omega)⟩
           · have hjl : j < b.length := (List.getElem?_eq_some_iff.1 hj).1
             have ho : ∀ X, (b ++ [X])[j]? = some (.own (d.map u8S) 5 1 d.length true) := fun X => at_old hj [X]
             simp only [lawG, ↓Xn, ↓Xo, ↓Xg, ↓Xd, ↓Xe, ↓Xf, Tryz.VΓ, Tryz.Γs, Xp, Xi, Nat.reduceAdd, Nat.reduceSub, Nat.reduceLT, Nat.reduceLeDiff, reduceIte, reduceCtorEq, Nat.reduceEqDiff, implies_true, forall_const, lawV, h0, h1, h6, h7, hg, at_new, ho]
             refine ⟨by omega, ⟨by unfold maxLen; omega, by omega⟩, ⟨by omega, by omega⟩, ⟨by omega, by omega⟩, rn_mk (i' := i + 2 + 1) (x := .o (b ++ [Res.own [u8S (v)] 5 1 1 true]).length (d.length + 1)) (d := d ++ [v]) h0 h1 rfl (by simp only [lk, reduceIte, Option.some.injEq, SV.int.injEq, true_and]; omega) ⟨by omega, by simp; omega⟩ (.inr ⟨(b ++ [Res.own [u8S (v)] 5 1 1 true]).length, by simp, by omega, by rw [List.getElem?_append_right (by simp)]; simp [u8S]⟩) (hn3) (by omega)⟩)
        · have hn3 : comb (d ++ esc v) (normU also (units (s.drop (i + 2 + 1)))) = normU also (units s) := by
            rw [← hn2]; unfold normB; rw [if_neg (by simp [hq])]
          (refine callV_pc (p_r3_Escape v) ?_; simp only [lawG, ↓Xn, ↓Xo, ↓Xg, ↓Xd, ↓Xe, ↓Xf, Tryz.VΓ, Tryz.Γs, Xp, Xi, Nat.reduceAdd, Nat.reduceSub, Nat.reduceLT, Nat.reduceLeDiff, reduceIte, reduceCtorEq, Nat.reduceEqDiff, implies_true, forall_const, lawV, h0, h1, h6, h7])
          rcases ht with ⟨rfl, hc0, hn0⟩ | ⟨j, rfl, hLj, hj⟩
          · obtain rfl : d = [] := by simpa using hc0
            simp only [lawG, ↓Xn, ↓Xo, ↓Xg, ↓Xd, ↓Xe, ↓Xf, Tryz.VΓ, Tryz.Γs, Xp, Xi, Nat.reduceAdd, Nat.reduceSub, Nat.reduceLT, Nat.reduceLeDiff, reduceIte, reduceCtorEq, Nat.reduceEqDiff, implies_true, forall_const, lawV, h0, h1, h6, h7]
            exact ⟨⟨one_u8 _, by simp [esc]; unfold maxLen; omega, by simp [esc]⟩, ⟨by omega, by omega⟩, ⟨by omega, by omega⟩, rn_mk (i' := i + 2 + 1) (d := [] ++ esc v) h0 h1 rfl (by simp only [lk, reduceIte, Option.some.injEq, SV.int.injEq, true_and]; omega) ⟨by omega, by simp [esc]; omega⟩ (.inr ⟨b.length, rfl, by omega, at_new _ _⟩) hn3 (by omega)⟩
          · simp only [lawG, ↓Xn, ↓Xo, ↓Xg, ↓Xd, ↓Xe, ↓Xf, Tryz.VΓ, Tryz.Γs, Xp, Xi, Nat.reduceAdd, Nat.reduceSub, Nat.reduceLT, Nat.reduceLeDiff, reduceIte, reduceCtorEq, Nat.reduceEqDiff, implies_true, forall_const, lawV, h0, h1, h6, h7, hj]
            exact ⟨⟨one_u8 _, by simp [esc]; unfold maxLen; omega, by simp [esc]; omega⟩, ⟨by omega, by omega⟩, ⟨by omega, by omega⟩, rn_mk (i' := i + 2 + 1) (d := d ++ esc v) h0 h1 rfl (by simp only [lk, reduceIte, Option.some.injEq, SV.int.injEq, true_and]; omega) ⟨by omega, by simp [esc]; omega⟩ (.inr ⟨b.length, by simp, by omega, by rw [List.getElem?_append_right (by simp)]; simp⟩) hn3 (by omega)⟩
  · have hie : i = s.length := by omega
    subst hie
    rw [List.drop_length, units_nil] at hn
    have hres : normU also (units s) = (d, 0) := by rw [← hn]; simp [normU, comb]
    rw [hres]
    rcases ht with ⟨rfl, hc0, hn0⟩ | ⟨j, rfl, hLj, hj⟩
    · obtain rfl : d = [] := by simpa using hc0
      simp only [lawG, ↓Xn, ↓Xo, ↓Xg, ↓Xd, ↓Xe, ↓Xf, Tryz.VΓ, Tryz.Γs, Xp, Xi, Nat.reduceAdd, Nat.reduceSub, Nat.reduceLT, Nat.reduceLeDiff, reduceIte, reduceCtorEq, Nat.reduceEqDiff, implies_true, forall_const, lawV, h0, h1, h6, h7]
      exact fun h => absurd h (by simp)
    · simp only [lawG, ↓Xn, ↓Xo, ↓Xg, ↓Xd, ↓Xe, ↓Xf, Tryz.VΓ, Tryz.Γs, Xp, Xi, Nat.reduceAdd, Nat.reduceSub, Nat.reduceLT, Nat.reduceLeDiff, reduceIte, reduceCtorEq, Nat.reduceEqDiff, implies_true, forall_const, lawV, h0, h1, h6, h7, hj]
      refine ⟨fun h => absurd h (by simp), fun _ => ⟨isU8_map d, ?_⟩⟩
      rw [unU8_map]
end Go.Proofs.YtjponbpdlioocaaGreatDoor
/- The walk of the reference's Parse. -/
set_option linter.all false
set_option maxRecDepth 20000
namespace Go.Proofs.YtjponbpdlioocaaGreatDoor
open Go Vc Go.RowKit Wf
set_option linter.unusedSimpArgs false
set_option maxRecDepth 20000 in
set_option maxHeartbeats 4000000 in
theorem p_r7_Parse (s : Bytes) : PC Tryz.V 33 [.str s] (.tup [wsv (urlParse s).1, .int .i64 (urlParse s).2]) := by
  refine pc_of 3000 Tryz.func33 rfl Tryz.ntmps33 Tryz.results33 Tryz.call33 (by simp) (by simp [flat, flat.flatL]) (by simp [flat, flat.flatL, wsv]) ?_
  simp only [lawG, ↓Xn, ↓Xo, ↓Xg, ↓Xd, ↓Xe, ↓Xf, Tryz.VΓ, Tryz.Γs, Xp, Xi, Nat.reduceAdd, Nat.reduceSub, Nat.reduceLT, Nat.reduceLeDiff, reduceIte, reduceCtorEq, Nat.reduceEqDiff, implies_true, forall_const, lawV]
  refine ⟨fun h => ?_, fun h => ?_⟩
  · have : urlParse s = (Url.none, 5) := if_pos (by simp at h; omega)
    rw [this]; rfl
  have hl : ¬ 4096 < s.length := (by simp at h; omega)
  have hq : urlParse s = if (uriSplit s).2 ≠ 0 then (Url.none, (uriSplit s).2) else urlOf (uriSplit s).1 := if_neg hl
  rw [hq]
  have ps := p_r6_Split s
  unfold usv at ps
  have hp := split_path s
  have hz := split_size s
  revert ps hp hz
  generalize uriSplit s = us
  obtain ⟨r, c⟩ := us
  intro ps hp hz
  simp only at ps hp hz
  simp only
  unfold Uri.size at hz
  have pl := p_r1_Equal r.scheme https (by omega) (by decide)
  have pn := p_r1_Index r.authority [64] (by omega) (by decide)
  have hpm := pre_mem r.authority 64
  have hpl := pre_le (· == 64) r.authority
  rw [show (List.contains [64] · : UInt8 → Bool) = (· == 64) from by funext c; simp; exact (Bool.beq_eq_decide_eq _ _).symm] at pn
  have ph := p_r5_Parse r.authority (by omega)
  have p1 := p_r3_Normalize r.path inPath (by decide)
  have p2 := p_r3_Normalize r.query inQuery (by decide)
  have p3 := p_r3_Normalize r.fragment inQuery (by decide)
  (refine callV_pc (ps) ?_; simp only [lawG, ↓Xn, ↓Xo, ↓Xg, ↓Xd, ↓Xe, ↓Xf, Tryz.VΓ, Tryz.Γs, Xp, Xi, Nat.reduceAdd, Nat.reduceSub, Nat.reduceLT, Nat.reduceLeDiff, reduceIte, reduceCtorEq, Nat.reduceEqDiff, implies_true, forall_const, lawV])
  refine ⟨fun h1 => ?_, fun h1 => ?_⟩
  · rw [if_pos (by simpa using h1)]; rfl
  rw [if_neg (by simpa using h1)]
  unfold urlOf
  cases hsc : r.hasScheme
  · simp only [lawG, ↓Xn, ↓Xo, ↓Xg, ↓Xd, ↓Xe, ↓Xf, Tryz.VΓ, Tryz.Γs, Xp, Xi, Nat.reduceAdd, Nat.reduceSub, Nat.reduceLT, Nat.reduceLeDiff, reduceIte, reduceCtorEq, Nat.reduceEqDiff, implies_true, forall_const, lawV, hsc]
    rw [if_pos (.inl trivial)]; rfl
  simp only [lawG, ↓Xn, ↓Xo, ↓Xg, ↓Xd, ↓Xe, ↓Xf, Tryz.VΓ, Tryz.Γs, Xp, Xi, Nat.reduceAdd, Nat.reduceSub, Nat.reduceLT, Nat.reduceLeDiff, reduceIte, reduceCtorEq, Nat.reduceEqDiff, implies_true, forall_const, lawV, hsc]
  rw [show lower https = https by decide] at pl
  (refine callV_pc pl ?_; simp only [lawG, ↓Xn, ↓Xo, ↓Xg, ↓Xd, ↓Xe, ↓Xf, Tryz.VΓ, Tryz.Γs, Xp, Xi, Nat.reduceAdd, Nat.reduceSub, Nat.reduceLT, Nat.reduceLeDiff, reduceIte, reduceCtorEq, Nat.reduceEqDiff, implies_true, forall_const, lawV, hsc])
  refine ⟨fun h2 => ?_, fun h2 => ?_⟩
  · rw [if_pos (.inr (by simpa using h2))]; rfl
  rw [if_neg (by simpa using h2)]
  cases hau : r.hasAuthority
  · simp only [lawG, ↓Xn, ↓Xo, ↓Xg, ↓Xd, ↓Xe, ↓Xf, Tryz.VΓ, Tryz.Γs, Xp, Xi, Nat.reduceAdd, Nat.reduceSub, Nat.reduceLT, Nat.reduceLeDiff, reduceIte, reduceCtorEq, Nat.reduceEqDiff, implies_true, forall_const, lawV, hau]
    rfl
  simp only [lawG, ↓Xn, ↓Xo, ↓Xg, ↓Xd, ↓Xe, ↓Xf, Tryz.VΓ, Tryz.Γs, Xp, Xi, Nat.reduceAdd, Nat.reduceSub, Nat.reduceLT, Nat.reduceLeDiff, reduceIte, reduceCtorEq, Nat.reduceEqDiff, implies_true, forall_const, lawV, hau]
  (refine callD_pc pn ?_; simp only [lawG, ↓Xn, ↓Xo, ↓Xg, ↓Xd, ↓Xe, ↓Xf, Tryz.VΓ, Tryz.Γs, Xp, Xi, Nat.reduceAdd, Nat.reduceSub, Nat.reduceLT, Nat.reduceLeDiff, reduceIte, reduceCtorEq, Nat.reduceEqDiff, implies_true, forall_const, lawV, hau])
  refine ⟨(OkD_fast (by kernel_rfl)), fun h3 => ?_, fun h3 => ?_⟩
  · rw [if_pos (hpm.1 (by simp at h3; omega))]; rfl
  rw [if_neg (fun k => absurd (hpm.2 k) (by simp at h3; omega))]
  unfold urlParts
  (refine callV_pc ph ?_; simp only [lawG, ↓Xn, ↓Xo, ↓Xg, ↓Xd, ↓Xe, ↓Xf, Tryz.VΓ, Tryz.Γs, Xp, Xi, Nat.reduceAdd, Nat.reduceSub, Nat.reduceLT, Nat.reduceLeDiff, reduceIte, reduceCtorEq, Nat.reduceEqDiff, implies_true, forall_const, lawV, hau])
  refine ⟨fun h4 => ?_, fun h4 => ?_⟩
  · rw [if_pos (by simpa using h4)]; rfl
  rw [if_neg (by simpa using h4)]
  have hN1 := pctNorm_len inPath r.path
  have hN2 := pctNorm_len inQuery r.query
  have hN3 := pctNorm_len inQuery r.fragment
  have hH := hostPort_ok r.authority (by simpa using h4)
  have p4 := p_r6_RemoveDots (pctNorm inPath r.path).1 (by omega)
  have hD := removeDots_len (pctNorm inPath r.path).1
  generalize pctNorm inPath r.path = n1 at p1 p4 hN1 hD ⊢
  generalize pctNorm inQuery r.query = n2 at p2 hN2 ⊢
  generalize pctNorm inQuery r.fragment = n3 at p3 hN3 ⊢
  generalize (hostPort r.authority).1 = hp at hH ⊢
  obtain ⟨n1, e1⟩ := n1
  obtain ⟨n2, e2⟩ := n2
  obtain ⟨n3, e3⟩ := n3
  obtain ⟨hh, pp⟩ := hp
  simp only at p1 p2 p3 p4 hN1 hN2 hN3 hH hD ⊢
  (refine callV_pc p1 ?_; simp only [lawG, ↓Xn, ↓Xo, ↓Xg, ↓Xd, ↓Xe, ↓Xf, Tryz.VΓ, Tryz.Γs, Xp, Xi, Nat.reduceAdd, Nat.reduceSub, Nat.reduceLT, Nat.reduceLeDiff, reduceIte, reduceCtorEq, Nat.reduceEqDiff, implies_true, forall_const, lawV])
  refine ⟨fun h5 => ?_, fun h5 => ?_⟩
  · rw [if_pos (by simpa using h5)]; rfl
  rw [if_neg (by simpa using h5)]
  (refine callV_pc p2 ?_; simp only [lawG, ↓Xn, ↓Xo, ↓Xg, ↓Xd, ↓Xe, ↓Xf, Tryz.VΓ, Tryz.Γs, Xp, Xi, Nat.reduceAdd, Nat.reduceSub, Nat.reduceLT, Nat.reduceLeDiff, reduceIte, reduceCtorEq, Nat.reduceEqDiff, implies_true, forall_const, lawV])
  refine ⟨fun h6 => ?_, fun h6 => ?_⟩
  · rw [if_pos (by simpa using h6)]; rfl
  rw [if_neg (by simpa using h6)]
  (refine callV_pc p3 ?_; simp only [lawG, ↓Xn, ↓Xo, ↓Xg, ↓Xd, ↓Xe, ↓Xf, Tryz.VΓ, Tryz.Γs, Xp, Xi, Nat.reduceAdd, Nat.reduceSub, Nat.reduceLT, Nat.reduceLeDiff, reduceIte, reduceCtorEq, Nat.reduceEqDiff, implies_true, forall_const, lawV])
  refine ⟨fun h7 => ?_, fun h7 => ?_⟩
  · rw [if_pos (by simpa using h7)]; rfl
  rw [if_neg (by simpa using h7)]
  unfold urlEnd
  (refine callV_pc p4 ?_; simp only [lawG, ↓Xn, ↓Xo, ↓Xg, ↓Xd, ↓Xe, ↓Xf, Tryz.VΓ, Tryz.Γs, Xp, Xi, Nat.reduceAdd, Nat.reduceSub, Nat.reduceLT, Nat.reduceLeDiff, reduceIte, reduceCtorEq, Nat.reduceEqDiff, implies_true, forall_const, lawV])
  generalize removeDots n1 = d at hD ⊢
  have fin : ∀ d' : Bytes, d'.length ≤ 4096 * 6 → PC Tryz.V 34 [wsv ⟨hh, pp, d', n2, n3, r.hasQuery, r.hasFrag⟩] (.str (urlText ⟨hh, pp, d', n2, n3, r.hasQuery, r.hasFrag⟩)) := fun d' hd' =>
    p_r7_Format _ ⟨by simp only; omega, by simp only; omega, by simp only; omega⟩
  unfold wsv at fin
  refine ⟨fun h8 => ?_, fun h8 => ?_⟩
  · have f1 := fin [47] (by decide)
    have h8' : d = [] := by simpa using h8
    rw [if_pos h8']
    (refine callV_pc f1 ?_; simp only [lawG, ↓Xn, ↓Xo, ↓Xg, ↓Xd, ↓Xe, ↓Xf, Tryz.VΓ, Tryz.Γs, Xp, Xi, Nat.reduceAdd, Nat.reduceSub, Nat.reduceLT, Nat.reduceLeDiff, reduceIte, reduceCtorEq, Nat.reduceEqDiff, implies_true, forall_const, lawV])
    refine ⟨fun h9 => ?_, fun h9 => ?_⟩
    · rw [if_pos (by simp at h9; omega)]; rfl
    · rw [if_neg (by simp at h9; omega)]; rfl
  · have f1 := fin d (by omega)
    have h8' : ¬ d = [] := by simpa using h8
    rw [if_neg h8']
    (refine callV_pc f1 ?_; simp only [lawG, ↓Xn, ↓Xo, ↓Xg, ↓Xd, ↓Xe, ↓Xf, Tryz.VΓ, Tryz.Γs, Xp, Xi, Nat.reduceAdd, Nat.reduceSub, Nat.reduceLT, Nat.reduceLeDiff, reduceIte, reduceCtorEq, Nat.reduceEqDiff, implies_true, forall_const, lawV])
    refine ⟨fun h9 => ?_, fun h9 => ?_⟩
    · rw [if_pos (by simp at h9; omega)]; rfl
    · rw [if_neg (by simp at h9; omega)]; rfl
end Go.Proofs.YtjponbpdlioocaaGreatDoor
/- The walks of Valid and Relative. -/
set_option linter.all false
set_option maxRecDepth 20000
namespace Go.Proofs.YtjponbpdlioocaaGreatDoor
open Go Vc Go.RowKit Wf
set_option linter.unusedSimpArgs false
set_option maxRecDepth 20000 in
set_option maxHeartbeats 2000000 in
theorem p_url_Valid (u : Url) (hk : Fair u) : PC Tryz.V 13 [wsv u] (.bool (urlValid u)) := by
  have pf := p_url_Format u hk
  have pp := p_url_Parse (urlText u)
  unfold wsv at pf pp
  (refine pc_of 3000 Tryz.func13 rfl Tryz.ntmps13 Tryz.results13 Tryz.call13 (by simp) (by simp [flat, flat.flatL, wsv]) (by simp [flat, flat.flatL, wsv]) ?_
   unfold wsv
   simp only [lawG, ↓Xn, ↓Xo, ↓Xg, ↓Xd, ↓Xe, ↓Xf, Tryz.VΓ, Tryz.Γs, Xp, Xi, Nat.reduceAdd, Nat.reduceSub, Nat.reduceLT, Nat.reduceLeDiff, reduceIte, reduceCtorEq, Nat.reduceEqDiff, implies_true, forall_const, lawV])
  (refine callV_pc (pf) ?_; simp only [lawG, ↓Xn, ↓Xo, ↓Xg, ↓Xd, ↓Xe, ↓Xf, Tryz.VΓ, Tryz.Γs, Xp, Xi, Nat.reduceAdd, Nat.reduceSub, Nat.reduceLT, Nat.reduceLeDiff, reduceIte, reduceCtorEq, Nat.reduceEqDiff, implies_true, forall_const, lawV])
  (refine callV_pc (pp) ?_; simp only [lawG, ↓Xn, ↓Xo, ↓Xg, ↓Xd, ↓Xe, ↓Xf, Tryz.VΓ, Tryz.Γs, Xp, Xi, Nat.reduceAdd, Nat.reduceSub, Nat.reduceLT, Nat.reduceLeDiff, reduceIte, reduceCtorEq, Nat.reduceEqDiff, implies_true, forall_const, lawV])
  unfold urlValid
  generalize urlParse (urlText u) = x
  obtain ⟨⟨a, b, c, d, e, f, g⟩, y⟩ := x
  obtain ⟨a', b', c', d', e', f', g'⟩ := u
  simp only [eqS, eqB, eqK, eqK.eqF]
  refine ⟨fun h => ?_, fun h => ?_⟩
  · obtain rfl : y = 0 := by simpa using h
    congr 1
    rw [Bool.eq_iff_iff]
    simp only [Bool.and_eq_true, beq_iff_eq, decide_eq_true_eq, Prod.mk.injEq, Url.mk.injEq, and_true]
    constructor <;> (rintro ⟨rfl, rfl, rfl, rfl, rfl, rfl, rfl⟩; exact ⟨rfl, rfl, rfl, rfl, rfl, rfl, rfl⟩)
  · congr 1
    exact (decide_eq_false (fun k => by rw [(Prod.mk.inj k).2] at h; simp at h)).symm
set_option maxRecDepth 20000 in
set_option maxHeartbeats 2000000 in
theorem p_r7_Valid (u : Url) (hk : Fair u) : PC Tryz.V 18 [wsv u] (.bool (urlValid u)) := by
  have pf := p_r7_Format u hk
  have pp := p_r7_Parse (urlText u)
  unfold wsv at pf pp
  (refine pc_of 3000 Tryz.func18 rfl Tryz.ntmps18 Tryz.results18 Tryz.call18 (by simp) (by simp [flat, flat.flatL, wsv]) (by simp [flat, flat.flatL, wsv]) ?_
   unfold wsv
   simp only [lawG, ↓Xn, ↓Xo, ↓Xg, ↓Xd, ↓Xe, ↓Xf, Tryz.VΓ, Tryz.Γs, Xp, Xi, Nat.reduceAdd, Nat.reduceSub, Nat.reduceLT, Nat.reduceLeDiff, reduceIte, reduceCtorEq, Nat.reduceEqDiff, implies_true, forall_const, lawV])
  (refine callV_pc (pf) ?_; simp only [lawG, ↓Xn, ↓Xo, ↓Xg, ↓Xd, ↓Xe, ↓Xf, Tryz.VΓ, Tryz.Γs, Xp, Xi, Nat.reduceAdd, Nat.reduceSub, Nat.reduceLT, Nat.reduceLeDiff, reduceIte, reduceCtorEq, Nat.reduceEqDiff, implies_true, forall_const, lawV])
  (refine callV_pc (pp) ?_; simp only [lawG, ↓Xn, ↓Xo, ↓Xg, ↓Xd, ↓Xe, ↓Xf, Tryz.VΓ, Tryz.Γs, Xp, Xi, Nat.reduceAdd, Nat.reduceSub, Nat.reduceLT, Nat.reduceLeDiff, reduceIte, reduceCtorEq, Nat.reduceEqDiff, implies_true, forall_const, lawV])
  unfold urlValid
  generalize urlParse (urlText u) = x
  obtain ⟨⟨a, b, c, d, e, f, g⟩, y⟩ := x
  obtain ⟨a', b', c', d', e', f', g'⟩ := u
  simp only [eqS, eqB, eqK, eqK.eqF]
  refine ⟨fun h => ?_, fun h => ?_⟩
  · obtain rfl : y = 0 := by simpa using h
    congr 1
    rw [Bool.eq_iff_iff]
    simp only [Bool.and_eq_true, beq_iff_eq, decide_eq_true_eq, Prod.mk.injEq, Url.mk.injEq, and_true]
    constructor <;> (rintro ⟨rfl, rfl, rfl, rfl, rfl, rfl, rfl⟩; exact ⟨rfl, rfl, rfl, rfl, rfl, rfl, rfl⟩)
  · congr 1
    exact (decide_eq_false (fun k => by rw [(Prod.mk.inj k).2] at h; simp at h)).symm
end Go.Proofs.YtjponbpdlioocaaGreatDoor
/- The walks of Relative. -/
set_option linter.all false
set_option maxRecDepth 20000
namespace Go.Proofs.YtjponbpdlioocaaGreatDoor
open Go Vc Go.RowKit Wf
set_option linter.unusedSimpArgs false
def wsvR (u : Url) : SV := wsv u
end Go.Proofs.YtjponbpdlioocaaGreatDoor
/- The walks of package world. -/
set_option linter.all false
set_option maxRecDepth 20000
namespace Go.Proofs.YtjponbpdlioocaaGreatDoor
open Go Vc Go.RowKit Wf
set_option linter.unusedSimpArgs false
def ac (a : Ans) : List SV := [.str a.host, .int .i64 a.port, .str a.target, .str a.raw, .int .i64 a.fail, .int .u64 a.since, .int .u64 a.till]
theorem rows_at {ρ : Type} (cl : ρ → List SV) (s : Nat) (hs : ∀ r, (cl r).length = s) : ∀ (L : List ρ) (k : Nat) (h : k < L.length), ((L.flatMap cl).drop (k * s)).take s = cl L[k]
  | [], k, h => by simp at h
  | r :: L, 0, _ => by
    have := hs r
    simp [List.take_append, List.take_of_length_le (Nat.le_of_eq this), this]
  | r :: L, k + 1, h => by
    have h1 := hs r
    have h2 : ((r :: L).flatMap cl).drop ((k + 1) * s) = (L.flatMap cl).drop (k * s) := by
      rw [List.flatMap_cons, List.drop_append, List.drop_of_length_le (by rw [Nat.add_mul]; omega), List.nil_append, show (k + 1) * s - (cl r).length = k * s by rw [Nat.add_mul]; omega]
    rw [h2]
    simpa using rows_at cl s hs L k (by simpa using h)
theorem rows_len {ρ : Type} (cl : ρ → List SV) (s : Nat) (hs : ∀ r, (cl r).length = s) : ∀ (L : List ρ), (L.flatMap cl).length = L.length * s
  | [] => by simp
  | r :: L => by rw [List.flatMap_cons, List.length_append, hs r, rows_len cl s hs L, List.length_cons, Nat.add_mul]; omega
theorem ac_at (L : List Ans) (k : Nat) (h : k < L.length) : ((L.flatMap ac).drop (k * 7)).take 7 = ac L[k] := rows_at ac 7 (fun _ => rfl) L k h
theorem ac_len (L : List Ans) : (L.flatMap ac).length = L.length * 7 := rows_len ac 7 (fun _ => rfl) L
def AnsFair (a : Ans) : Prop := a.host.length ≤ 140737488355328 ∧ a.target.length ≤ 140737488355328 ∧ a.raw.length ≤ 140737488355328
theorem sc_forget {V : Cx} {f : FuncId} {args : List SV} {bs : List Res} {x : SV} (hx : flat x = true) (h : SC V f args bs (fun r b => r = x ∧ Kp bs b)) : SC V f args bs (fun r b => r = x ∧ b = bs) := by
  refine ⟨h.1, fun β fp w hbx hG hE => (h.2 β fp w hbx hG hE).mono ?_⟩
  rintro e w' ⟨r, bs', β₂, fp₂, ⟨rfl, hlen, hkp⟩, hag, -, hall, hfr, hmine, hfoot⟩
  have old : ∀ {i r}, bs[i]? = some r → bs'[i]? = some r := fun {i r} hi => (hkp i (List.getElem?_eq_some_iff.1 hi).1).trans hi
  refine ⟨r, bs, β₂, fp₂, ⟨rfl, rfl⟩, hag, Nat.le_refl _, fun β' hβ => ?_, hfr, fun i r' hi => hmine i r' (old hi), fun i r' hi => hfoot i r' (old hi)⟩
  have hc : ∀ i, i < bs.length → (if i < bs.length then β' i else β₂ i) = β' i := fun i hi => if_pos hi
  have hall2 := hall (fun i => if i < bs.length then β' i else β₂ i) (fun i _ => by
    by_cases hi : i < bs.length
    · exact (hβ i hi).trans (hc i hi).symm
    · exact (if_neg hi).symm)
  have hb1 := hbx (fun i => if i < bs.length then β' i else β₂ i) (fun i hi => ((hag i hi).trans (hβ i hi)).trans (hc i hi).symm)
  have hb2 := hbx β' (fun i hi => (hag i hi).trans (hβ i hi))
  obtain ⟨he, hbx2⟩ := hall2
  refine ⟨by rw [he, conc_flat _ hx _ β'], ⟨fun i r hi => ?_, fun i r hi => hbx2.lt i r (old hi), fun i j r r' hi hj => hbx2.sep i j r r' (old hi) (old hj)⟩⟩
  have h1 := hb1.holds i r hi
  have h2 := hb2.holds i r hi
  have h3 := hbx2.holds i r (old hi)
  have e := hc i (List.getElem?_eq_some_iff.1 hi).1
  simp only [e] at h1 h3
  exact res_agr h1 h2 h3
set_option maxHeartbeats 2000000 in
theorem sc_keep_World {bs : List Res} {j : Nat} {L : List Ans} {m : Bool} (hj : bs[j]? = some (.own (L.flatMap ac) 36 7 L.length m)) (hL : L.length ≤ 9223372036854775807) (hl : ∀ a ∈ L, AnsFair a) (n : Int) :
    SC Tryz.V 5 [.o j L.length, .int .i64 n] bs (fun r b => r = .bool (decide ((L.length : Int) ≤ n ∧ ∀ a ∈ L, a.host.length + a.target.length + a.raw.length ≤ 1500)) ∧ Kp bs b) := by
  have hjl : j < bs.length := (List.getElem?_eq_some_iff.1 hj).1
  refine sc_of 3000 Tryz.func5 rfl Tryz.ntmps5 Tryz.results5 Tryz.call5 (by simp) (fun β β' hb => concL_within bs.length _ (by simp [within, within.withinL, hjl]) β β' hb) ?_
  simp only [lawG, ↓Xn, ↓Xo, ↓Xg, ↓Xd, ↓Xe, ↓Xf, Tryz.VΓ, Tryz.Γs, Xp, Xi, Nat.reduceAdd, Nat.reduceSub, Nat.reduceLT, Nat.reduceLeDiff, reduceIte, reduceCtorEq, Nat.reduceEqDiff, implies_true, forall_const, lawV, lawB]
  refine ⟨fun h => ⟨?_, Kp.refl _⟩, fun h => ?_⟩
  · have h := of_decide_eq_true h
    rw [decide_eq_false (fun q => by have := q.1; omega)]
  have h := of_decide_eq_false h
  refine loopV_mk (fun σ => ∃ q : Nat, q ≤ L.length ∧ lk 11 σ.t = some (.o j L.length) ∧ lk 12 σ.t = some (.int .i64 L.length) ∧ lk 13 σ.t = some (.int .i64 q) ∧ σ.b[j]? = some (.own (L.flatMap ac) 36 7 L.length m) ∧ Kp bs σ.b ∧ ∀ a ∈ L.take q, a.host.length + a.target.length + a.raw.length ≤ 1500) (fun σ => L.length - lkI 13 σ) ⟨0, by omega, rfl, rfl, rfl, hj, Kp.refl _, by simp⟩ ?_
  rintro ⟨t, b⟩ ⟨q, hq, h11, h12, h13, hb, hkp, hok⟩
  simp only at h11 h12 h13 hb hkp
  rw [lkI_eq h13]
  by_cases hlt : q < L.length
  · have hlt2 : decide ((q : Int) < L.length) = true := decide_eq_true (by omega)
    have hu := ac_at L q hlt
    have hul := ac_len L
    have hb1 := fun X => at_old hb [X]
    obtain ⟨hf1, hf2, hf3⟩ := hl _ (List.getElem_mem hlt)
    unfold ac at hb hb1 hu hul
    simp only [lawG, ↓Xn, ↓Xo, ↓Xg, ↓Xd, ↓Xe, ↓Xf, Tryz.VΓ, Tryz.Γs, Xp, Xi, Nat.reduceAdd, Nat.reduceSub, Nat.reduceLT, Nat.reduceLeDiff, reduceIte, reduceCtorEq, Nat.reduceEqDiff, implies_true, forall_const, lawV, h11, h12, h13, hb, hu, hul, hlt2, lawB, Int.toNat_natCast]
    refine ⟨⟨by omega, by omega⟩, by omega, ⟨by omega, by omega⟩, ⟨by omega, by omega⟩, fun hq2 => ⟨?_, hkp.app _⟩, fun hq2 => ⟨⟨by omega, by omega⟩, ⟨q + 1, by omega, rfl, hb1 _, hkp.app _, ?_⟩, ?_⟩⟩
    · have hq2 := of_decide_eq_true hq2
      rw [decide_eq_false (fun p => by have := p.2 _ (List.getElem_mem hlt); omega)]
    · intro s hs
      rw [List.take_succ_eq_append_getElem hlt] at hs
      rcases List.mem_append.1 hs with hs | hs
      · exact hok s hs
      · rw [List.mem_singleton.1 hs]; have := of_decide_eq_false hq2; omega
    · rw [lkI_eq (k := .i64) (n := (q : Int) + 1) rfl]; omega
  · have hie : q = L.length := by omega
    subst hie
    rw [List.take_length] at hok
    have hlt2 : decide ((L.length : Int) < L.length) = false := by simp
    simp only [lawG, ↓Xn, ↓Xo, ↓Xg, ↓Xd, ↓Xe, ↓Xf, Tryz.VΓ, Tryz.Γs, Xp, Xi, Nat.reduceAdd, Nat.reduceSub, Nat.reduceLT, Nat.reduceLeDiff, reduceIte, reduceCtorEq, Nat.reduceEqDiff, implies_true, forall_const, lawV, h11, h12, h13, hb, hlt2]
    exact ⟨by rw [decide_eq_true ⟨by omega, hok⟩], hkp⟩
theorem p_world_origin (a : Ans) : PC Tryz.V 32 [.agg (ac a)] (.agg [.str a.host, .int .i64 a.port]) := by
  refine pc_of 3000 Tryz.func32 rfl Tryz.ntmps32 Tryz.results32 Tryz.call32 (by simp) (by simp [flat, flat.flatL, ac]) (by simp [flat, flat.flatL, ac]) ?_
  unfold ac
  simp only [lawG, ↓Xn, ↓Xo, ↓Xg, ↓Xd, ↓Xe, ↓Xf, Tryz.VΓ, Tryz.Γs, Xp, Xi, Nat.reduceAdd, Nat.reduceSub, Nat.reduceLT, Nat.reduceLeDiff, reduceIte, reduceCtorEq, Nat.reduceEqDiff, implies_true, forall_const, lawV]
set_option maxHeartbeats 2000000 in
theorem p_world_valid (a : Ans) (h : a.host.length ≤ 2000) (hp : -9223372036854775808 ≤ a.port ∧ a.port ≤ 9223372036854775807) (ht : a.target.length ≤ 140737488355328) : PC Tryz.V 22 [.agg (ac a)] (.bool (ansValid a)) := by
  have p1 := p_world_origin a
  have p2 := p_host_Format a.host a.port (by omega) hp.1 hp.2
  refine pc_of 3000 Tryz.func22 rfl Tryz.ntmps22 Tryz.results22 Tryz.call22 (by simp) (by simp [flat, flat.flatL, ac]) (by simp [flat, flat.flatL, ac]) ?_
  unfold ac at p1 ⊢
  simp only [lawG, ↓Xn, ↓Xo, ↓Xg, ↓Xd, ↓Xe, ↓Xf, Tryz.VΓ, Tryz.Γs, Xp, Xi, Nat.reduceAdd, Nat.reduceSub, Nat.reduceLT, Nat.reduceLeDiff, reduceIte, reduceCtorEq, Nat.reduceEqDiff, implies_true, forall_const, lawV]
  (refine callV_pc (p1) ?_; simp only [lawG, ↓Xn, ↓Xo, ↓Xg, ↓Xd, ↓Xe, ↓Xf, Tryz.VΓ, Tryz.Γs, Xp, Xi, Nat.reduceAdd, Nat.reduceSub, Nat.reduceLT, Nat.reduceLeDiff, reduceIte, reduceCtorEq, Nat.reduceEqDiff, implies_true, forall_const, lawV, beq_self_eq_true, bne_self_eq_false, Int.reduceBEq, Int.reduceBNe, Int.reduceLT, Int.reduceLE])
  (refine callV_pc (p2) ?_; simp only [lawG, ↓Xn, ↓Xo, ↓Xg, ↓Xd, ↓Xe, ↓Xf, Tryz.VΓ, Tryz.Γs, Xp, Xi, Nat.reduceAdd, Nat.reduceSub, Nat.reduceLT, Nat.reduceLeDiff, reduceIte, reduceCtorEq, Nat.reduceEqDiff, implies_true, forall_const, lawV, beq_self_eq_true, bne_self_eq_false, Int.reduceBEq, Int.reduceBNe, Int.reduceLT, Int.reduceLE])
  have hl := hostText_len2 a.host hp.1 hp.2
  have p3 := p_host_Parse (hostText a.host a.port) (by omega)
  generalize hz : hostPort (hostText a.host a.port) = z at p3
  obtain ⟨⟨zh, zp⟩, ze⟩ := z
  simp only at p3
  (refine callV_pc (p3) ?_; simp only [lawG, ↓Xn, ↓Xo, ↓Xg, ↓Xd, ↓Xe, ↓Xf, Tryz.VΓ, Tryz.Γs, Xp, Xi, Nat.reduceAdd, Nat.reduceSub, Nat.reduceLT, Nat.reduceLeDiff, reduceIte, reduceCtorEq, Nat.reduceEqDiff, implies_true, forall_const, lawV, beq_self_eq_true, bne_self_eq_false, Int.reduceBEq, Int.reduceBNe, Int.reduceLT, Int.reduceLE])
  have ev : ansValid a = ((ze == 0) && ((zh == a.host && zp == a.port) && (Lib.hasPrefix a.target [47] && (decide (0 ≤ a.fail) && decide (a.fail ≤ 4))))) := by
    unfold ansValid
    rw [hz]
    rw [Bool.eq_iff_iff]
    simp [and_assoc]
  refine ⟨fun h1 => ?_, fun h1 => ⟨(OkD_fast (by kernel_rfl)), by rw [ev, h1]; rfl⟩⟩
  have p4 := p_HasPrefix a.target [47]
  (refine callD_pc (p1) ?_; simp only [lawG, ↓Xn, ↓Xo, ↓Xg, ↓Xd, ↓Xe, ↓Xf, Tryz.VΓ, Tryz.Γs, Xp, Xi, Nat.reduceAdd, Nat.reduceSub, Nat.reduceLT, Nat.reduceLeDiff, reduceIte, reduceCtorEq, Nat.reduceEqDiff, implies_true, forall_const, lawV, beq_self_eq_true, bne_self_eq_false, Int.reduceBEq, Int.reduceBNe, Int.reduceLT, Int.reduceLE])
  refine ⟨fun h2 => ?_, fun h2 => ⟨(OkD_fast (by kernel_rfl)), by rw [ev, h1, h2]; rfl⟩⟩
  (refine callD_pc (p4) ?_; simp only [lawG, ↓Xn, ↓Xo, ↓Xg, ↓Xd, ↓Xe, ↓Xf, Tryz.VΓ, Tryz.Γs, Xp, Xi, Nat.reduceAdd, Nat.reduceSub, Nat.reduceLT, Nat.reduceLeDiff, reduceIte, reduceCtorEq, Nat.reduceEqDiff, implies_true, forall_const, lawV, beq_self_eq_true, bne_self_eq_false, Int.reduceBEq, Int.reduceBNe, Int.reduceLT, Int.reduceLE])
  exact ⟨fun h3 => ⟨fun h4 => ⟨(OkD_fast (by kernel_rfl)), by rw [ev, h1, h2, h3, h4]; rfl⟩, fun h4 => ⟨(OkD_fast (by kernel_rfl)), by rw [ev, h1, h2, h3, h4]; rfl⟩⟩, fun h3 => ⟨(OkD_fast (by kernel_rfl)), by rw [ev, h1, h2, h3]; rfl⟩⟩
theorem p_world_fits (h : Bytes) (p : Int) (t : Bytes) (now : Int) (a : Ans) : PC Tryz.V 17 [.agg [.str h, .int .i64 p, .str t, .int .u64 now], .agg (ac a)] (.bool (ansFits h p t now a)) := by
  have p1 := p_world_origin a
  refine pc_of 3000 Tryz.func17 rfl Tryz.ntmps17 Tryz.results17 Tryz.call17 (by simp) (by simp [flat, flat.flatL, ac]) (by simp [flat, flat.flatL, ac]) ?_
  unfold ac at p1 ⊢
  simp only [lawG, ↓Xn, ↓Xo, ↓Xg, ↓Xd, ↓Xe, ↓Xf, Tryz.VΓ, Tryz.Γs, Xp, Xi, Nat.reduceAdd, Nat.reduceSub, Nat.reduceLT, Nat.reduceLeDiff, reduceIte, reduceCtorEq, Nat.reduceEqDiff, implies_true, forall_const, lawV]
  (refine callD_pc (p1) ?_; simp only [lawG, ↓Xn, ↓Xo, ↓Xg, ↓Xd, ↓Xe, ↓Xf, Tryz.VΓ, Tryz.Γs, Xp, Xi, Nat.reduceAdd, Nat.reduceSub, Nat.reduceLT, Nat.reduceLeDiff, reduceIte, reduceCtorEq, Nat.reduceEqDiff, implies_true, forall_const, lawV, beq_self_eq_true, bne_self_eq_false, Int.reduceBEq, Int.reduceBNe, Int.reduceLT, Int.reduceLE])
  refine ⟨fun h1 => ⟨fun h2 => ⟨fun h3 => ⟨fun h4 => ⟨(OkD_fast (by kernel_rfl)), ?_⟩, fun h4 => ⟨(OkD_fast (by kernel_rfl)), ?_⟩⟩, fun h3 => ⟨(OkD_fast (by kernel_rfl)), ?_⟩⟩, fun h2 => ⟨(OkD_fast (by kernel_rfl)), ?_⟩⟩, fun h1 => ⟨(OkD_fast (by kernel_rfl)), ?_⟩⟩
  all_goals unfold ansFits
  · rw [h1, h2, h3, h4]; simp
  · rw [h1, h2, h3, h4]; simp
  · rw [h1, h2, h3]; simp
  · rw [h1, h2]; simp
  · rw [h1]; simp
set_option maxHeartbeats 2000000 in
theorem sc_IndexFunc {bs : List Res} {j : Nat} {L : List Ans} {m : Bool} (g : FuncId) (p : Ans → Bool) (hp : ∀ a ∈ L, PC Tryz.V g [.agg (ac a)] (.bool (p a))) (hj : bs[j]? = some (.own (L.flatMap ac) 36 7 L.length m)) (hL : L.length ≤ 9223372036854775807) :
    SC Tryz.V 16 [.o j L.length, .fn (.func g) []] bs (fun r b => r = .int .i64 (idxI p L) ∧ b = bs) := by
  have hjl : j < bs.length := (List.getElem?_eq_some_iff.1 hj).1
  refine sc_of 3000 Tryz.func16 rfl Tryz.ntmps16 Tryz.results16 Tryz.call16 (by simp) (fun β β' hb => concL_within bs.length _ (by simp [within, within.withinL, hjl]) β β' hb) ?_
  simp only [lawG, ↓Xn, ↓Xo, ↓Xg, ↓Xd, ↓Xe, ↓Xf, Tryz.VΓ, Tryz.Γs, Xp, Xi, Nat.reduceAdd, Nat.reduceSub, Nat.reduceLT, Nat.reduceLeDiff, reduceIte, reduceCtorEq, Nat.reduceEqDiff, implies_true, forall_const, lawV, lawB]
  refine loopV_mk (fun σ => ∃ q : Nat, q ≤ L.length ∧ lk 0 σ.t = some (.o j L.length) ∧ lk 1 σ.t = some (.fn (.func g) []) ∧ lk 6 σ.t = some (.o j L.length) ∧ lk 7 σ.t = some (.int .i64 L.length) ∧ lk 8 σ.t = some (.int .i64 q) ∧ σ.b = bs ∧ ∀ a ∈ L.take q, p a = false) (fun σ => L.length - lkI 8 σ) ⟨0, by omega, rfl, rfl, rfl, rfl, rfl, rfl, by simp⟩ ?_
  rintro ⟨t, b⟩ ⟨q, hq, h0, h1, h6, h7, h8, hb, hok⟩
  simp only at h0 h1 h6 h7 h8 hb
  subst hb
  rw [lkI_eq h8]
  by_cases hlt : q < L.length
  · have hlt2 : decide ((q : Int) < L.length) = true := decide_eq_true (by omega)
    have hu := ac_at L q hlt
    have hul := ac_len L
    have hc := hp _ (List.getElem_mem hlt)
    unfold ac at hj hu hul hc
    have ht := List.take_succ_eq_append_getElem hlt
    simp only [lawG, ↓Xn, ↓Xo, ↓Xg, ↓Xd, ↓Xe, ↓Xf, Tryz.VΓ, Tryz.Γs, Xp, Xi, Nat.reduceAdd, Nat.reduceSub, Nat.reduceLT, Nat.reduceLeDiff, reduceIte, reduceCtorEq, Nat.reduceEqDiff, implies_true, forall_const, lawV, h0, h1, h6, h7, h8, hj, hu, hul, hlt2, lawB, Int.toNat_natCast]
    refine ⟨⟨by omega, by omega⟩, by omega, ?_⟩
    (refine callV_pc (hc) ?_; simp only [lawG, ↓Xn, ↓Xo, ↓Xg, ↓Xd, ↓Xe, ↓Xf, Tryz.VΓ, Tryz.Γs, Xp, Xi, Nat.reduceAdd, Nat.reduceSub, Nat.reduceLT, Nat.reduceLeDiff, reduceIte, reduceCtorEq, Nat.reduceEqDiff, implies_true, forall_const, lawV, h0, h1, h6, h7, h8, hj, hul, hlt2])
    refine ⟨fun hpq => by rw [idxI_at hlt hok hpq], fun hpq => ⟨⟨by omega, by omega⟩, ⟨q + 1, by omega, rfl, ?_⟩, ?_⟩⟩
    · intro s hs
      rw [ht] at hs
      rcases List.mem_append.1 hs with hs | hs
      · exact hok s hs
      · rw [List.mem_singleton.1 hs]; exact hpq
    · rw [lkI_eq (k := .i64) (n := (q : Int) + 1) rfl]; omega
  · have hie : q = L.length := by omega
    subst hie
    rw [List.take_length] at hok
    have hlt2 : decide ((L.length : Int) < L.length) = false := by simp
    simp only [lawG, ↓Xn, ↓Xo, ↓Xg, ↓Xd, ↓Xe, ↓Xf, Tryz.VΓ, Tryz.Γs, Xp, Xi, Nat.reduceAdd, Nat.reduceSub, Nat.reduceLT, Nat.reduceLeDiff, reduceIte, reduceCtorEq, Nat.reduceEqDiff, implies_true, forall_const, lawV, h0, h1, h6, h7, h8, hj, hlt2]
    rw [idxI_none hok]
set_option maxHeartbeats 2000000 in
theorem sc_IndexFuncM {bs : List Res} {j : Nat} {L : List Ans} {m : Bool} (g : FuncId) (v : SV) (fv : flat v = true) (p : Ans → Bool) (hp : ∀ a ∈ L, PC Tryz.V g [v, .agg (ac a)] (.bool (p a))) (hj : bs[j]? = some (.own (L.flatMap ac) 36 7 L.length m)) (hL : L.length ≤ 9223372036854775807) :
    SC Tryz.V 16 [.o j L.length, .mv g [v]] bs (fun r b => r = .int .i64 (idxI p L) ∧ b = bs) := by
  have hjl : j < bs.length := (List.getElem?_eq_some_iff.1 hj).1
  have hv : ∀ β β', conc β v = conc β' v := conc_flat v fv
  refine sc_of 3000 Tryz.func16 rfl Tryz.ntmps16 Tryz.results16 Tryz.call16 (by simp) (fun β β' hb => by simp [concL, conc, hv β β', hb j hjl]) ?_
  simp only [lawG, ↓Xn, ↓Xo, ↓Xg, ↓Xd, ↓Xe, ↓Xf, Tryz.VΓ, Tryz.Γs, Xp, Xi, Nat.reduceAdd, Nat.reduceSub, Nat.reduceLT, Nat.reduceLeDiff, reduceIte, reduceCtorEq, Nat.reduceEqDiff, implies_true, forall_const, lawV, lawB]
  refine loopV_mk (fun σ => ∃ q : Nat, q ≤ L.length ∧ lk 0 σ.t = some (.o j L.length) ∧ lk 1 σ.t = some (.mv g [v]) ∧ lk 6 σ.t = some (.o j L.length) ∧ lk 7 σ.t = some (.int .i64 L.length) ∧ lk 8 σ.t = some (.int .i64 q) ∧ σ.b = bs ∧ ∀ a ∈ L.take q, p a = false) (fun σ => L.length - lkI 8 σ) ⟨0, by omega, rfl, rfl, rfl, rfl, rfl, rfl, by simp⟩ ?_
  rintro ⟨t, b⟩ ⟨q, hq, h0, h1, h6, h7, h8, hb, hok⟩
  simp only at h0 h1 h6 h7 h8 hb
  subst hb
  rw [lkI_eq h8]
  by_cases hlt : q < L.length
  · have hlt2 : decide ((q : Int) < L.length) = true := decide_eq_true (by omega)
    have hu := ac_at L q hlt
    have hul := ac_len L
    have hc := hp _ (List.getElem_mem hlt)
    unfold ac at hj hu hul hc
    have ht := List.take_succ_eq_append_getElem hlt
    simp only [lawG, ↓Xn, ↓Xo, ↓Xg, ↓Xd, ↓Xe, ↓Xf, Tryz.VΓ, Tryz.Γs, Xp, Xi, Nat.reduceAdd, Nat.reduceSub, Nat.reduceLT, Nat.reduceLeDiff, reduceIte, reduceCtorEq, Nat.reduceEqDiff, implies_true, forall_const, lawV, h0, h1, h6, h7, h8, hj, hu, hul, hlt2, lawB, Int.toNat_natCast]
    refine ⟨⟨by omega, by omega⟩, by omega, ?_⟩
    (refine callV_pc (hc) ?_; simp only [lawG, ↓Xn, ↓Xo, ↓Xg, ↓Xd, ↓Xe, ↓Xf, Tryz.VΓ, Tryz.Γs, Xp, Xi, Nat.reduceAdd, Nat.reduceSub, Nat.reduceLT, Nat.reduceLeDiff, reduceIte, reduceCtorEq, Nat.reduceEqDiff, implies_true, forall_const, lawV, h0, h1, h6, h7, h8, hj, hul, hlt2])
    refine ⟨fun hpq => by rw [idxI_at hlt hok hpq], fun hpq => ⟨⟨by omega, by omega⟩, ⟨q + 1, by omega, rfl, ?_⟩, ?_⟩⟩
    · intro s hs
      rw [ht] at hs
      rcases List.mem_append.1 hs with hs | hs
      · exact hok s hs
      · rw [List.mem_singleton.1 hs]; exact hpq
    · rw [lkI_eq (k := .i64) (n := (q : Int) + 1) rfl]; omega
  · have hie : q = L.length := by omega
    subst hie
    rw [List.take_length] at hok
    have hlt2 : decide ((L.length : Int) < L.length) = false := by simp
    simp only [lawG, ↓Xn, ↓Xo, ↓Xg, ↓Xd, ↓Xe, ↓Xf, Tryz.VΓ, Tryz.Γs, Xp, Xi, Nat.reduceAdd, Nat.reduceSub, Nat.reduceLT, Nat.reduceLeDiff, reduceIte, reduceCtorEq, Nat.reduceEqDiff, implies_true, forall_const, lawV, h0, h1, h6, h7, h8, hj, hlt2]
    rw [idxI_none hok]
end Go.Proofs.YtjponbpdlioocaaGreatDoor
/- The walks of package world: Valid, Ask. -/
set_option linter.all false
set_option maxRecDepth 20000
namespace Go.Proofs.YtjponbpdlioocaaGreatDoor
open Go Vc Go.RowKit Wf
set_option linter.unusedSimpArgs false
theorem ab_at (L : List Ans) (k : Nat) (h : k < L.length) (i : Nat) (x : SV) (hx : (ac L[k])[i]? = some x) : (L.flatMap ac)[k * 7 + i]? = some x := by
  have h1 := ac_at L k h
  have h2 : i < 7 := (List.getElem?_eq_some_iff.1 hx).1
  rw [← h1, List.getElem?_take_of_lt h2, List.getElem?_drop] at hx
  exact hx
set_option maxHeartbeats 2000000 in
theorem sc_ContainsFunc {bs : List Res} {j : Nat} {L : List Ans} {m : Bool} (g : FuncId) (p : Ans → Bool) (hp : ∀ a ∈ L, PC Tryz.V g [.agg (ac a)] (.bool (p a))) (hj : bs[j]? = some (.own (L.flatMap ac) 36 7 L.length m)) (hL : L.length ≤ 9223372036854775807) :
    SC Tryz.V 20 [.o j L.length, .fn (.func g) []] bs (fun r b => r = .bool (L.any p) ∧ b = bs) := by
  have hjl : j < bs.length := (List.getElem?_eq_some_iff.1 hj).1
  have s1 := sc_IndexFunc g p hp hj hL
  refine sc_of 3000 Tryz.func20 rfl Tryz.ntmps20 Tryz.results20 Tryz.call20 (by simp) (fun β β' hb => concL_within bs.length _ (by simp [within, within.withinL, hjl]) β β' hb) ?_
  simp only [lawG, ↓Xn, ↓Xo, ↓Xg, ↓Xd, ↓Xe, ↓Xf, Tryz.VΓ, Tryz.Γs, Xp, Xi, Nat.reduceAdd, Nat.reduceSub, Nat.reduceLT, Nat.reduceLeDiff, reduceIte, reduceCtorEq, Nat.reduceEqDiff, implies_true, forall_const, lawV, lawB]
  refine callV_sc s1 ?_
  rintro r b ⟨rfl, rfl⟩
  simp only [lawG, ↓Xn, ↓Xo, ↓Xg, ↓Xd, ↓Xe, ↓Xf, Tryz.VΓ, Tryz.Γs, Xp, Xi, Nat.reduceAdd, Nat.reduceSub, Nat.reduceLT, Nat.reduceLeDiff, reduceIte, reduceCtorEq, Nat.reduceEqDiff, implies_true, forall_const, lawV, lawB]
  rcases idxI_cases p L with ⟨e, e2, -⟩ | ⟨k, hk, e, e2, -⟩
  · rw [e, e2]; rfl
  · rw [e, e2, decide_eq_true (by omega)]
theorem p_world_Valid1 (a : Ans) (h : a.host.length ≤ 2000) (hp : -9223372036854775808 ≤ a.port ∧ a.port ≤ 9223372036854775807) (ht : a.target.length ≤ 140737488355328) : PC Tryz.V 21 [.agg (ac a)] (.bool (!ansValid a)) := by
  have p1 := p_world_valid a h hp ht
  refine pc_of 3000 Tryz.func21 rfl Tryz.ntmps21 Tryz.results21 Tryz.call21 (by simp) (by simp [flat, flat.flatL, ac]) (by simp [flat, flat.flatL, ac]) ?_
  unfold ac at p1 ⊢
  simp only [lawG, ↓Xn, ↓Xo, ↓Xg, ↓Xd, ↓Xe, ↓Xf, Tryz.VΓ, Tryz.Γs, Xp, Xi, Nat.reduceAdd, Nat.reduceSub, Nat.reduceLT, Nat.reduceLeDiff, reduceIte, reduceCtorEq, Nat.reduceEqDiff, implies_true, forall_const, lawV]
  (refine callV_pc (p1) ?_; simp only [lawG, ↓Xn, ↓Xo, ↓Xg, ↓Xd, ↓Xe, ↓Xf, Tryz.VΓ, Tryz.Γs, Xp, Xi, Nat.reduceAdd, Nat.reduceSub, Nat.reduceLT, Nat.reduceLeDiff, reduceIte, reduceCtorEq, Nat.reduceEqDiff, implies_true, forall_const, lawV, beq_self_eq_true, bne_self_eq_false, Int.reduceBEq, Int.reduceBNe, Int.reduceLT, Int.reduceLE])
def AnsSmall (a : Ans) : Prop := a.host.length ≤ 2000 ∧ (-9223372036854775808 ≤ a.port ∧ a.port ≤ 9223372036854775807) ∧ a.target.length ≤ 140737488355328
set_option maxHeartbeats 2000000 in
theorem sc_world_Valid {bs : List Res} {j : Nat} {L : List Ans} {m : Bool} (hj : bs[j]? = some (.own (L.flatMap ac) 36 7 L.length m)) (hL : L.length ≤ 9223372036854775807) (hs : ∀ a ∈ L, AnsSmall a) :
    SC Tryz.V 9 [.o j L.length] bs (fun r b => r = .bool (worldValid L) ∧ b = bs) := by
  have hjl : j < bs.length := (List.getElem?_eq_some_iff.1 hj).1
  have s1 := sc_ContainsFunc 21 (fun a => !ansValid a) (fun a ha => p_world_Valid1 a (hs a ha).1 (hs a ha).2.1 (hs a ha).2.2) hj hL
  refine sc_of 3000 Tryz.func9 rfl Tryz.ntmps9 Tryz.results9 Tryz.call9 (by simp) (fun β β' hb => concL_within bs.length _ (by simp [within, within.withinL, hjl]) β β' hb) ?_
  simp only [lawG, ↓Xn, ↓Xo, ↓Xg, ↓Xd, ↓Xe, ↓Xf, Tryz.VΓ, Tryz.Γs, Xp, Xi, Nat.reduceAdd, Nat.reduceSub, Nat.reduceLT, Nat.reduceLeDiff, reduceIte, reduceCtorEq, Nat.reduceEqDiff, implies_true, forall_const, lawV, lawB]
  refine ⟨fun h => ?_, fun h => ?_⟩
  · refine callV_sc s1 ?_
    rintro r b ⟨rfl, rfl⟩
    simp only [lawG, ↓Xn, ↓Xo, ↓Xg, ↓Xd, ↓Xe, ↓Xf, Tryz.VΓ, Tryz.Γs, Xp, Xi, Nat.reduceAdd, Nat.reduceSub, Nat.reduceLT, Nat.reduceLeDiff, reduceIte, reduceCtorEq, Nat.reduceEqDiff, implies_true, forall_const, lawV, lawB]
    unfold worldValid
    rw [decide_eq_true (by have := of_decide_eq_true h; omega), Bool.true_and, List.any_eq_not_all_not]
    simp
  · unfold worldValid
    rw [decide_eq_false (by have := of_decide_eq_false h; omega), Bool.false_and]
set_option maxHeartbeats 2000000 in
theorem sc_world_Ask {bs : List Res} {j : Nat} {L : List Ans} {m : Bool} (hj : bs[j]? = some (.own (L.flatMap ac) 36 7 L.length m)) (hL : L.length ≤ 9223372036854775807) (u : Url) (hu : Fair u) (now : Int) :
    SC Tryz.V 7 [.o j L.length, wsv u, .int .u64 now] bs (fun r b => r = .tup [.str (worldAsk L u now).1, .int .i64 (worldAsk L u now).2] ∧ Kp bs b) := by
  have hjl : j < bs.length := (List.getElem?_eq_some_iff.1 hj).1
  have p1 := p_url_Valid u hu
  have p2 := p_url_Origin u
  have p3 := p_url_Target u hu
  have pf := fun a => p_world_fits u.host u.port (urlTarget u) now a
  refine sc_of 3000 Tryz.func7 rfl Tryz.ntmps7 Tryz.results7 Tryz.call7 (by simp) (fun β β' hb => concL_within bs.length _ (by simp [within, within.withinL, hjl, wsv]) β β' hb) ?_
  unfold wsv at p1 p2 p3 ⊢
  simp only [lawG, ↓Xn, ↓Xo, ↓Xg, ↓Xd, ↓Xe, ↓Xf, Tryz.VΓ, Tryz.Γs, Xp, Xi, Nat.reduceAdd, Nat.reduceSub, Nat.reduceLT, Nat.reduceLeDiff, reduceIte, reduceCtorEq, Nat.reduceEqDiff, implies_true, forall_const, lawV, lawB]
  (refine callV_pc (p1) ?_; simp only [lawG, ↓Xn, ↓Xo, ↓Xg, ↓Xd, ↓Xe, ↓Xf, Tryz.VΓ, Tryz.Γs, Xp, Xi, Nat.reduceAdd, Nat.reduceSub, Nat.reduceLT, Nat.reduceLeDiff, reduceIte, reduceCtorEq, Nat.reduceEqDiff, implies_true, forall_const, lawV, lawB])
  refine ⟨fun h => ⟨?_, (Kp.refl _).app _⟩, fun h => ?_⟩
  · have h : urlValid u = false := by simpa using h
    unfold worldAsk
    rw [if_pos h]
  have h : urlValid u = true := by simpa using h
  have ea : worldAsk L u now = askOf (L.find? (ansFits u.host u.port (urlTarget u) now)) := by unfold worldAsk; rw [if_neg (by rw [h]; simp)]
  rw [ea]
  (refine callD_pc (p2) ?_; simp only [lawG, ↓Xn, ↓Xo, ↓Xg, ↓Xd, ↓Xe, ↓Xf, Tryz.VΓ, Tryz.Γs, Xp, Xi, Nat.reduceAdd, Nat.reduceSub, Nat.reduceLT, Nat.reduceLeDiff, reduceIte, reduceCtorEq, Nat.reduceEqDiff, implies_true, forall_const, lawV, lawB])
  (refine callD_pc (p3) ?_; simp only [lawG, ↓Xn, ↓Xo, ↓Xg, ↓Xd, ↓Xe, ↓Xf, Tryz.VΓ, Tryz.Γs, Xp, Xi, Nat.reduceAdd, Nat.reduceSub, Nat.reduceLT, Nat.reduceLeDiff, reduceIte, reduceCtorEq, Nat.reduceEqDiff, implies_true, forall_const, lawV, lawB])
  have hj2 := fun X => at_old hj [X]
  have hj3 := fun X Y => at_old (hj2 X) [Y]
  have s2 := fun X Y => sc_IndexFuncM (bs := bs ++ [X] ++ [Y]) _ _ (by simp [flat, flat.flatL]) _ (fun a _ => pf a) (hj3 X Y) hL
  have hz : ∀ X : Res, ((bs ++ [X]).length = bs.length) = False := fun X => by simp
  refine ⟨(by
    refine OkD_ren (fun n => if n = bs.length then 0 else 1) ?_
    simp only [List.map_cons, List.map_nil, renRk, renT, reduceIte, hz]
    exact OkD_fast (by kernel_rfl)), ?_⟩
  refine callV_sc (s2 _ _) ?_
  rintro r b ⟨rfl, rfl⟩
  rcases idxI_cases (ansFits u.host u.port (urlTarget u) now) L with ⟨e, -, e2⟩ | ⟨k, hk, e, -, e2⟩
  · rw [e, e2]
    simp only [lawG, ↓Xn, ↓Xo, ↓Xg, ↓Xd, ↓Xe, ↓Xf, Tryz.VΓ, Tryz.Γs, Xp, Xi, Nat.reduceAdd, Nat.reduceSub, Nat.reduceLT, Nat.reduceLeDiff, reduceIte, reduceCtorEq, Nat.reduceEqDiff, implies_true, forall_const, lawV, lawB, beq_self_eq_true, bne_self_eq_false, Int.reduceBEq, Int.reduceBNe, Int.reduceLT, Int.reduceLE]
    exact ⟨rfl, ((Kp.refl _).app _).app _⟩
  · rw [e, e2]
    have hk2 : decide ((k : Int) < 0) = false := decide_eq_false (by omega)
    have h4 := ab_at L k hk 4 _ rfl
    have h3 := ab_at L k hk 3 _ rfl
    have hul := ac_len L
    simp only [lawG, ↓Xn, ↓Xo, ↓Xg, ↓Xd, ↓Xe, ↓Xf, Tryz.VΓ, Tryz.Γs, Xp, Xi, Nat.reduceAdd, Nat.reduceSub, Nat.reduceLT, Nat.reduceLeDiff, reduceIte, reduceCtorEq, Nat.reduceEqDiff, implies_true, forall_const, lawV, lawB, hk2, h3, h4, hul, hj3, Int.toNat_natCast]
    refine ⟨⟨by omega, by omega⟩, by omega, fun q1 => ⟨?_, ((Kp.refl _).app _).app _⟩, fun q1 => ⟨fun q2 => ⟨?_, ((Kp.refl _).app _).app _⟩, fun q2 => ⟨fun q3 => ⟨?_, ((Kp.refl _).app _).app _⟩, fun q3 => ⟨fun q4 => ⟨?_, ((Kp.refl _).app _).app _⟩, fun q4 => ⟨⟨by omega, by omega⟩, by omega, ?_, ((Kp.refl _).app _).app _⟩⟩⟩⟩⟩
    all_goals simp only [beq_iff_eq, beq_eq_false_iff_ne, ne_eq] at *
    · simp [askOf, ansOf, q1]
    · simp [askOf, ansOf, q2]
    · simp [askOf, ansOf, q3]
    · simp [askOf, ansOf, q4]
    · simp [askOf, ansOf, q1, q2, q3, q4]
end Go.Proofs.YtjponbpdlioocaaGreatDoor
/- The walks of package world: Request; its reference. -/
set_option linter.all false
set_option maxRecDepth 20000
namespace Go.Proofs.YtjponbpdlioocaaGreatDoor
open Go Vc Go.RowKit Wf
set_option linter.unusedSimpArgs false
theorem sc_quiet {V : Cx} {f : FuncId} {args : List SV} {bs : List Res} {x : SV} (hen : Vc.Enters V f) (fx : flat x = true) (h : ∀ β fp w, BxOK β fp w bs → Calls V.P f (concL β args).toArray w fun e w' => e = .returned (conc β x) ∧ Below w.heap.size w w') : SC V f args bs (fun r b => r = x ∧ b = bs) := by
  refine ⟨hen, fun β fp w hbx hG hE => (h β fp w (hbx β (Agr.refl _ _))).mono ?_⟩
  rintro e w' ⟨he, hb⟩
  have hb0 := hbx β (Agr.refl _ _)
  refine ⟨x, bs, β, fp, ⟨rfl, rfl⟩, Agr.refl _ _, Nat.le_refl _, fun β' hβ => ⟨by rw [he, conc_flat x fx β β'], ⟨fun i r hi => ((hbx β' hβ).holds i r hi).stays (fun k hk => hb.block k (hb0.lt i r hi k hk)), fun i r hi k hk => Nat.lt_of_lt_of_le (hb0.lt i r hi k hk) hb.size, hb0.sep⟩⟩, FrW.of_below hb, fun i r hi hm k hk => .inr ⟨i, r, hi, hm, hk⟩, fun i r hi k hk => .inr ⟨i, r, hi, hk⟩⟩
theorem sc_Join {bs : List Res} {j : Nat} {L : List Bytes} {m : Bool} (hj : bs[j]? = some (.own (L.map SV.str) 9 1 L.length m)) (h0 : 0 < L.length) (hn : L.length ≤ 140737488355328) (sep : Bytes) (hlen : (Lib.join L sep).length ≤ 140737488355328) :
    SC Tryz.V 27 [.o j L.length, .str sep] bs (fun r b => r = .str (Lib.join L sep) ∧ b = bs) := by
  refine sc_quiet Tryz.call27 (by simp [flat]) (fun β fp w hb => ?_)
  have hh := hb.holds j _ hj
  rcases hh with ⟨-, h, -, -⟩ | ⟨h1, h2, h3, h4, h5, -, h7⟩
  · omega
  have e1 : (L.map fun l => (⟨⟨l⟩⟩ : ByteArray)).map (fun x => x.data.toList) = L := by rw [List.map_map]; exact (List.map_congr_left (fun _ _ => rfl)).trans (List.map_id L)
  have hc := Tryz.strings_Join (β j).blk (β j).off ((β j).cap - 1) (L.map fun l => (⟨⟨l⟩⟩ : ByteArray)) ⟨⟨sep⟩⟩ w (fun i x hi => by
    have := h5 i (.string x) (by
      rw [List.getElem?_map] at hi
      obtain ⟨l, hl, rfl⟩ := Option.map_eq_some_iff.1 hi
      simp [hl, conc])
    exact this) (hb.lt j _ hj _ ((h7 _).2 rfl)) (by simpa using hn) (by simpa using h2) (by rw [e1]; exact hlen)
  rw [e1, List.length_map] at hc
  have e2 : (concL β [.o j L.length, .str sep]).toArray = #[.slice (some ⟨(β j).blk, (β j).off, none⟩) L.length ((β j).cap - 1), .string ⟨⟨sep⟩⟩] := by simp [concL, conc, oV, h1]
  rw [e2]
  exact hc.mono fun e w' h => by simpa [conc] using h
theorem p_keep_URL (u : Url) (h : u.host.length ≤ 140737488355328 ∧ u.path.length ≤ 140737488355328 ∧ u.query.length ≤ 140737488355328 ∧ u.fragment.length ≤ 140737488355328) : PC Tryz.V 6 [wsv u] (.bool (decide (u.host.length + u.path.length + u.query.length + u.fragment.length ≤ 1000))) := by
  refine pc_of 3000 Tryz.func6 rfl Tryz.ntmps6 Tryz.results6 Tryz.call6 (by simp) (by simp [flat, flat.flatL, wsv]) (by simp [flat, flat.flatL]) ?_
  unfold wsv
  simp only [lawG, ↓Xn, ↓Xo, ↓Xg, ↓Xd, ↓Xe, ↓Xf, Tryz.VΓ, Tryz.Γs, Xp, Xi, Nat.reduceAdd, Nat.reduceSub, Nat.reduceLT, Nat.reduceLeDiff, reduceIte, reduceCtorEq, Nat.reduceEqDiff, implies_true, forall_const, lawV]
  refine ⟨⟨by omega, by omega⟩, ⟨by omega, by omega⟩, ⟨by omega, by omega⟩, ?_⟩
  congr 1
  exact decide_eq_decide.2 ⟨fun h => by omega, fun h => by omega⟩
def uc (u : Url) : List SV := [.str u.host, .int .i64 u.port, .str u.path, .str u.query, .str u.fragment, .bool u.hasQuery, .bool u.hasFrag]
theorem p_r24_fits (u : Url) (hu : Fair u) (now : Int) (a : Ans) : PC Tryz.V 19 [.agg (ac a), wsv u, .int .u64 now] (.bool (ansFits u.host u.port (urlTarget u) now a)) := by
  have p1 := p_r7_Target u hu
  refine pc_of 3000 Tryz.func19 rfl Tryz.ntmps19 Tryz.results19 Tryz.call19 (by simp) (by simp [flat, flat.flatL, ac, wsv]) (by simp [flat, flat.flatL, ac, wsv]) ?_
  unfold ac
  unfold wsv at p1 ⊢
  simp only [lawG, ↓Xn, ↓Xo, ↓Xg, ↓Xd, ↓Xe, ↓Xf, Tryz.VΓ, Tryz.Γs, Xp, Xi, Nat.reduceAdd, Nat.reduceSub, Nat.reduceLT, Nat.reduceLeDiff, reduceIte, reduceCtorEq, Nat.reduceEqDiff, implies_true, forall_const, lawV]
  refine ⟨fun h1 => ⟨fun h2 => ?_, fun h2 => ⟨(OkD_fast (by kernel_rfl)), ?_⟩⟩, fun h1 => ⟨(OkD_fast (by kernel_rfl)), ?_⟩⟩
  · (refine callD_pc (p1) ?_; simp only [lawG, ↓Xn, ↓Xo, ↓Xg, ↓Xd, ↓Xe, ↓Xf, Tryz.VΓ, Tryz.Γs, Xp, Xi, Nat.reduceAdd, Nat.reduceSub, Nat.reduceLT, Nat.reduceLeDiff, reduceIte, reduceCtorEq, Nat.reduceEqDiff, implies_true, forall_const, lawV, beq_self_eq_true, bne_self_eq_false, Int.reduceBEq, Int.reduceBNe, Int.reduceLT, Int.reduceLE])
    refine ⟨fun h3 => ⟨fun h4 => ⟨fun h5 => ⟨(OkD_fast (by kernel_rfl)), ?_⟩, fun h5 => ⟨(OkD_fast (by kernel_rfl)), ?_⟩⟩, fun h4 => ⟨(OkD_fast (by kernel_rfl)), ?_⟩⟩, fun h3 => ⟨(OkD_fast (by kernel_rfl)), ?_⟩⟩
    all_goals unfold ansFits
    · rw [h1, h2, h3, h4, h5]; simp
    · rw [h1, h2, h3, h4, h5]; rfl
    · rw [h1, h2, h3, h4]; rfl
    · rw [h1, h2, h3]; rfl
  all_goals unfold ansFits
  · rw [h1, h2]; rfl
  · rw [h1]; rfl
def reqText (u : Url) (accept : Bytes) : Bytes := ([71, 69, 84, 32] : List UInt8) ++ urlTarget u ++ ([32, 72, 84, 84, 80, 47, 49, 46, 49, 13, 10, 72, 111, 115, 116, 58, 32] : List UInt8) ++ hostText u.host u.port ++ ([13, 10, 65, 99, 99, 101, 112, 116, 58, 32] : List UInt8) ++ accept ++ ([13, 10, 67, 111, 110, 110, 101, 99, 116, 105, 111, 110, 58, 32, 99, 108, 111, 115, 101, 13, 10, 13, 10] : List UInt8)
theorem p_r24_Request (u : Url) (hu : Fair u) (accept : Bytes) (ha : accept.length ≤ 100) : PC Tryz.V 12 [wsv u, .str accept] (.str (reqText u accept)) := by
  have p1 := p_r7_Target u hu
  have p2 := p_r7_Origin u
  refine pc_of 3000 Tryz.func12 rfl Tryz.ntmps12 Tryz.results12 Tryz.call12 (by simp) (by simp [flat, flat.flatL, wsv]) (by simp [flat, flat.flatL]) ?_
  unfold wsv at p1 p2 ⊢
  simp only [lawG, ↓Xn, ↓Xo, ↓Xg, ↓Xd, ↓Xe, ↓Xf, Tryz.VΓ, Tryz.Γs, Xp, Xi, Nat.reduceAdd, Nat.reduceSub, Nat.reduceLT, Nat.reduceLeDiff, reduceIte, reduceCtorEq, Nat.reduceEqDiff, implies_true, forall_const, lawV]
  have hl := hostText_len2 u.host hu.2.1 hu.2.2
  have ht := urlTarget_len u
  have hk := hu.1
  have p3 := p_r5_Format u.host u.port (by omega) hu.2.1 hu.2.2
  (refine callD_pc (p1) ?_; simp only [lawG, ↓Xn, ↓Xo, ↓Xg, ↓Xd, ↓Xe, ↓Xf, Tryz.VΓ, Tryz.Γs, Xp, Xi, Nat.reduceAdd, Nat.reduceSub, Nat.reduceLT, Nat.reduceLeDiff, reduceIte, reduceCtorEq, Nat.reduceEqDiff, implies_true, forall_const, lawV, beq_self_eq_true, bne_self_eq_false, Int.reduceBEq, Int.reduceBNe, Int.reduceLT, Int.reduceLE])
  refine ⟨by omega, by omega, ?_⟩
  (refine callD_pc (p2) ?_; simp only [lawG, ↓Xn, ↓Xo, ↓Xg, ↓Xd, ↓Xe, ↓Xf, Tryz.VΓ, Tryz.Γs, Xp, Xi, Nat.reduceAdd, Nat.reduceSub, Nat.reduceLT, Nat.reduceLeDiff, reduceIte, reduceCtorEq, Nat.reduceEqDiff, implies_true, forall_const, lawV, beq_self_eq_true, bne_self_eq_false, Int.reduceBEq, Int.reduceBNe, Int.reduceLT, Int.reduceLE])
  (refine callD_pc (p3) ?_; simp only [lawG, ↓Xn, ↓Xo, ↓Xg, ↓Xd, ↓Xe, ↓Xf, Tryz.VΓ, Tryz.Γs, Xp, Xi, Nat.reduceAdd, Nat.reduceSub, Nat.reduceLT, Nat.reduceLeDiff, reduceIte, reduceCtorEq, Nat.reduceEqDiff, implies_true, forall_const, lawV, beq_self_eq_true, bne_self_eq_false, Int.reduceBEq, Int.reduceBNe, Int.reduceLT, Int.reduceLE])
  exact ⟨by simp only [List.length_append, List.length_cons, List.length_nil]; omega, by simp only [List.length_append, List.length_cons, List.length_nil]; omega, by simp only [List.length_append, List.length_cons, List.length_nil]; omega, by simp only [List.length_append, List.length_cons, List.length_nil]; omega, (OkD_fast (by kernel_rfl)), by simp [reqText]⟩
set_option maxHeartbeats 2000000 in
theorem p_world_Request (u : Url) (hu : Fair u) (accept : Bytes) (ha : accept.length ≤ 100) : PC Tryz.V 11 [wsv u, .str accept] (.str (reqText u accept)) := by
  have p1 := p_url_Target u hu
  have p2 := p_url_Origin u
  refine pc_of 3000 Tryz.func11 rfl Tryz.ntmps11 Tryz.results11 Tryz.call11 (by simp) (by simp [flat, flat.flatL, wsv]) (by simp [flat, flat.flatL]) ?_
  unfold wsv at p1 p2 ⊢
  simp only [lawG, ↓Xn, ↓Xo, ↓Xg, ↓Xd, ↓Xe, ↓Xf, Tryz.VΓ, Tryz.Γs, Xp, Xi, Nat.reduceAdd, Nat.reduceSub, Nat.reduceLT, Nat.reduceLeDiff, reduceIte, reduceCtorEq, Nat.reduceEqDiff, implies_true, forall_const, lawV]
  have hl := hostText_len2 u.host hu.2.1 hu.2.2
  have ht := urlTarget_len u
  have hk := hu.1
  have p3 := p_host_Format u.host u.port (by omega) hu.2.1 hu.2.2
  (refine callD_pc (p1) ?_; simp only [lawG, ↓Xn, ↓Xo, ↓Xg, ↓Xd, ↓Xe, ↓Xf, Tryz.VΓ, Tryz.Γs, Xp, Xi, Nat.reduceAdd, Nat.reduceSub, Nat.reduceLT, Nat.reduceLeDiff, reduceIte, reduceCtorEq, Nat.reduceEqDiff, implies_true, forall_const, lawV, beq_self_eq_true, bne_self_eq_false, Int.reduceBEq, Int.reduceBNe, Int.reduceLT, Int.reduceLE])
  refine ⟨by omega, by omega, ?_⟩
  (refine callD_pc (p2) ?_; simp only [lawG, ↓Xn, ↓Xo, ↓Xg, ↓Xd, ↓Xe, ↓Xf, Tryz.VΓ, Tryz.Γs, Xp, Xi, Nat.reduceAdd, Nat.reduceSub, Nat.reduceLT, Nat.reduceLeDiff, reduceIte, reduceCtorEq, Nat.reduceEqDiff, implies_true, forall_const, lawV, beq_self_eq_true, bne_self_eq_false, Int.reduceBEq, Int.reduceBNe, Int.reduceLT, Int.reduceLE])
  (refine callD_pc (p3) ?_; simp only [lawG, ↓Xn, ↓Xo, ↓Xg, ↓Xd, ↓Xe, ↓Xf, Tryz.VΓ, Tryz.Γs, Xp, Xi, Nat.reduceAdd, Nat.reduceSub, Nat.reduceLT, Nat.reduceLeDiff, reduceIte, reduceCtorEq, Nat.reduceEqDiff, implies_true, forall_const, lawV, beq_self_eq_true, bne_self_eq_false, Int.reduceBEq, Int.reduceBNe, Int.reduceLT, Int.reduceLE])
  refine ⟨by omega, by omega, by decide, (OkD_fast (by kernel_rfl)), ?_⟩
  have hjn : Lib.join [71 :: 69 :: 84 :: 32 :: (urlTarget u ++ [32, 72, 84, 84, 80, 47, 49, 46, 49]), 72 :: 111 :: 115 :: 116 :: 58 :: 32 :: hostText u.host u.port, 65 :: 99 :: 99 :: 101 :: 112 :: 116 :: 58 :: 32 :: accept, [67, 111, 110, 110, 101, 99, 116, 105, 111, 110, 58, 32, 99, 108, 111, 115, 101], [], []] [13, 10] = reqText u accept := by
    simp [Lib.join, List.intercalate, reqText]
  have hlen : (reqText u accept).length ≤ 140737488355328 := by
    simp only [reqText, List.length_append, List.length_cons, List.length_nil]; omega
  have s1 := fun bs hj => sc_Join (bs := bs) (j := 1) (m := true) (L := [71 :: 69 :: 84 :: 32 :: (urlTarget u ++ [32, 72, 84, 84, 80, 47, 49, 46, 49]), 72 :: 111 :: 115 :: 116 :: 58 :: 32 :: hostText u.host u.port, 65 :: 99 :: 99 :: 101 :: 112 :: 116 :: 58 :: 32 :: accept, [67, 111, 110, 110, 101, 99, 116, 105, 111, 110, 58, 32, 99, 108, 111, 115, 101], [], []]) hj (by simp) (by simp) [13, 10] (by rw [hjn]; exact hlen)
  rw [hjn] at s1
  refine callV_sc (s1 _ rfl) ?_
  rintro r b ⟨rfl, rfl⟩
  simp only [lawG, ↓Xn, ↓Xo, ↓Xg, ↓Xd, ↓Xe, ↓Xf, Tryz.VΓ, Tryz.Γs, Xp, Xi, Nat.reduceAdd, Nat.reduceSub, Nat.reduceLT, Nat.reduceLeDiff, reduceIte, reduceCtorEq, Nat.reduceEqDiff, implies_true, forall_const, lawV, beq_self_eq_true, bne_self_eq_false, Int.reduceBEq, Int.reduceBNe, Int.reduceLT, Int.reduceLE]
set_option maxHeartbeats 2000000 in
theorem sc_r24_Ask {bs : List Res} {j : Nat} {L : List Ans} {m : Bool} (hj : bs[j]? = some (.own (L.flatMap ac) 36 7 L.length m)) (hL : L.length ≤ 1000000) (u : Url) (hu : Fair u) (now : Int) :
    SC Tryz.V 8 [.o j L.length, wsv u, .int .u64 now] bs (fun r b => r = .tup [.str (worldAsk L u now).1, .int .i64 (worldAsk L u now).2] ∧ Kp bs b) := by
  have hjl : j < bs.length := (List.getElem?_eq_some_iff.1 hj).1
  have p1 := p_r7_Valid u hu
  have pf := p_r24_fits u hu now
  refine sc_of 3000 Tryz.func8 rfl Tryz.ntmps8 Tryz.results8 Tryz.call8 (by simp) (fun β β' hb => concL_within bs.length _ (by simp [within, within.withinL, hjl, wsv]) β β' hb) ?_
  unfold wsv at p1 pf ⊢
  simp only [lawG, ↓Xn, ↓Xo, ↓Xg, ↓Xd, ↓Xe, ↓Xf, Tryz.VΓ, Tryz.Γs, Xp, Xi, Nat.reduceAdd, Nat.reduceSub, Nat.reduceLT, Nat.reduceLeDiff, reduceIte, reduceCtorEq, Nat.reduceEqDiff, implies_true, forall_const, lawV, lawB]
  (refine callV_pc (p1) ?_; simp only [lawG, ↓Xn, ↓Xo, ↓Xg, ↓Xd, ↓Xe, ↓Xf, Tryz.VΓ, Tryz.Γs, Xp, Xi, Nat.reduceAdd, Nat.reduceSub, Nat.reduceLT, Nat.reduceLeDiff, reduceIte, reduceCtorEq, Nat.reduceEqDiff, implies_true, forall_const, lawV, lawB])
  refine ⟨fun h => ⟨?_, (Kp.refl _).app _⟩, fun h => ?_⟩
  · have h : urlValid u = false := by simpa using h
    unfold worldAsk
    rw [if_pos h]
  have h : urlValid u = true := by simpa using h
  have ea : worldAsk L u now = askOf (L.find? (ansFits u.host u.port (urlTarget u) now)) := by unfold worldAsk; rw [if_neg (by rw [h]; simp)]
  rw [ea]
  have hp := at_old hj [.cells (uc u) 24 true]
  have hc := at_new bs (.cells (uc u) 24 true)
  have hkp0 := (Kp.refl bs).app [.cells (uc u) 24 true]
  unfold uc at hp hc hkp0
  generalize bs ++ [.cells [.str u.host, .int .i64 u.port, .str u.path, .str u.query, .str u.fragment, .bool u.hasQuery, .bool u.hasFrag] 24 true] = bs2 at hp hc hkp0
  refine loopV_mk (fun σ => ∃ k : Nat, k ≤ L.length ∧ lk 2 σ.t = some (.int .u64 now) ∧ lk 4 σ.t = some (.p bs.length 0) ∧ lk 13 σ.t = some (.o j L.length) ∧ lk 14 σ.t = some (.int .i64 L.length) ∧ lk 15 σ.t = some (.int .i64 k) ∧
    Kp bs2 σ.b ∧ ∀ a ∈ L.take k, ansFits u.host u.port (urlTarget u) now a = false) (fun σ => L.length - lkI 15 σ) ⟨0, by omega, rfl, rfl, rfl, rfl, rfl, Kp.refl _, by simp⟩ ?_
  rintro ⟨t, b⟩ ⟨k, hk, h2, h4, h13, h14, h15, hkp, hok⟩
  simp only at h2 h4 h13 h14 h15 hkp
  rw [lkI_eq h15]
  have hb := hkp.at hp
  have hcb := hkp.at hc
  by_cases hlt : k < L.length
  · have hlt2 : decide ((k : Int) < L.length) = true := decide_eq_true (by omega)
    have hu2 := ac_at L k hlt
    have hul := ac_len L
    have ht := List.take_succ_eq_append_getElem hlt
    have hfa := pf L[k]
    have hfd : ansFits u.host u.port (urlTarget u) now L[k] = true → L.find? (ansFits u.host u.port (urlTarget u) now) = some L[k] := fun h => find_at hlt hok h
    generalize L[k] = a at hu2 ht hfa hfd
    unfold ac at hb hu2 hul hfa
    have hc1 := fun X => at_old hcb [X]
    simp only [lawG, ↓Xn, ↓Xo, ↓Xg, ↓Xd, ↓Xe, ↓Xf, Tryz.VΓ, Tryz.Γs, Xp, Xi, Nat.reduceAdd, Nat.reduceSub, Nat.reduceLT, Nat.reduceLeDiff, reduceIte, reduceCtorEq, Nat.reduceEqDiff, implies_true, forall_const, lawV, h2, h4, h13, h14, h15, hb, hu2, hul, hlt2, lawB, Int.toNat_natCast, hcb, hc1]
    refine ⟨⟨by omega, by omega⟩, by omega, ?_⟩
    (refine callV_pc (hfa) ?_; simp only [lawG, ↓Xn, ↓Xo, ↓Xg, ↓Xd, ↓Xe, ↓Xf, Tryz.VΓ, Tryz.Γs, Xp, Xi, Nat.reduceAdd, Nat.reduceSub, Nat.reduceLT, Nat.reduceLeDiff, reduceIte, reduceCtorEq, Nat.reduceEqDiff, implies_true, forall_const, lawV, h2, h4, h13, h14, h15, hcb, hc1, lawB])
    have hK := hkp0.trans (hkp.app [.cells [.str a.host, .int .i64 a.port, .str a.target, .str a.raw, .int .i64 a.fail, .int .u64 a.since, .int .u64 a.till] 36 true])
    refine ⟨fun q0 => ⟨⟨by omega, by omega⟩, ⟨k + 1, by omega, rfl, hkp.app _, ?_⟩, ?_⟩, fun q0 => ?_⟩
    · intro s hs
      rw [ht] at hs
      rcases List.mem_append.1 hs with hs | hs
      · exact hok s hs
      · rw [List.mem_singleton.1 hs]; simpa using q0
    · rw [lkI_eq (k := .i64) (n := (k : Int) + 1) rfl]; omega
    · rw [hfd (by simpa using q0)]
      refine ⟨fun q1 => ⟨?_, hK⟩, fun q1 => ⟨fun q2 => ⟨?_, hK⟩, fun q2 => ⟨fun q3 => ⟨?_, hK⟩, fun q3 => ⟨fun q4 => ⟨?_, hK⟩, fun q4 => ⟨?_, hK⟩⟩⟩⟩⟩
      all_goals simp only [beq_iff_eq, beq_eq_false_iff_ne, ne_eq] at *
      · simp [askOf, ansOf, q1]
      · simp [askOf, ansOf, q2]
      · simp [askOf, ansOf, q3]
      · simp [askOf, ansOf, q4]
      · simp [askOf, ansOf, q1, q2, q3, q4]
  · have hie : k = L.length := by omega
    subst hie
    rw [List.take_length] at hok
    have hlt2 : decide ((L.length : Int) < L.length) = false := by simp
    rw [find_none hok]
    simp only [lawG, ↓Xn, ↓Xo, ↓Xg, ↓Xd, ↓Xe, ↓Xf, Tryz.VΓ, Tryz.Γs, Xp, Xi, Nat.reduceAdd, Nat.reduceSub, Nat.reduceLT, Nat.reduceLeDiff, reduceIte, reduceCtorEq, Nat.reduceEqDiff, implies_true, forall_const, lawV, h2, h4, h13, h14, h15, hb, hlt2]
    exact ⟨rfl, hkp0.trans hkp⟩
set_option maxHeartbeats 2000000 in
theorem sc_r24_Valid {bs : List Res} {j : Nat} {L : List Ans} {m : Bool} (hj : bs[j]? = some (.own (L.flatMap ac) 36 7 L.length m)) (hL : L.length ≤ 1000000) (hs : ∀ a ∈ L, AnsSmall a) :
    SC Tryz.V 10 [.o j L.length] bs (fun r b => r = .bool (worldValid L) ∧ Kp bs b) := by
  have hjl : j < bs.length := (List.getElem?_eq_some_iff.1 hj).1
  refine sc_of 3000 Tryz.func10 rfl Tryz.ntmps10 Tryz.results10 Tryz.call10 (by simp) (fun β β' hb => concL_within bs.length _ (by simp [within, within.withinL, hjl]) β β' hb) ?_
  simp only [lawG, ↓Xn, ↓Xo, ↓Xg, ↓Xd, ↓Xe, ↓Xf, Tryz.VΓ, Tryz.Γs, Xp, Xi, Nat.reduceAdd, Nat.reduceSub, Nat.reduceLT, Nat.reduceLeDiff, reduceIte, reduceCtorEq, Nat.reduceEqDiff, implies_true, forall_const, lawV, lawB]
  refine ⟨fun h => ⟨by unfold worldValid; rw [decide_eq_false (by have := of_decide_eq_true h; omega)]; rfl, Kp.refl _⟩, fun h => ?_⟩
  have hle := of_decide_eq_false h
  have hv : worldValid L = L.all ansValid := by unfold worldValid; rw [decide_eq_true (by omega), Bool.true_and]
  rw [hv]
  refine loopV_mk (fun σ => ∃ k : Nat, k ≤ L.length ∧ lk 11 σ.t = some (.o j L.length) ∧ lk 12 σ.t = some (.int .i64 L.length) ∧ lk 13 σ.t = some (.int .i64 k) ∧
    Kp bs σ.b ∧ ∀ a ∈ L.take k, ansValid a = true) (fun σ => L.length - lkI 13 σ) ⟨0, by omega, rfl, rfl, rfl, Kp.refl _, by simp⟩ ?_
  rintro ⟨t, b⟩ ⟨k, hk, h11, h12, h13, hkp, hok⟩
  simp only at h11 h12 h13 hkp
  rw [lkI_eq h13]
  have hb := hkp.at hj
  by_cases hlt : k < L.length
  · have hlt2 : decide ((k : Int) < L.length) = true := decide_eq_true (by omega)
    have hu2 := ac_at L k hlt
    have hul := ac_len L
    have ht := List.take_succ_eq_append_getElem hlt
    have hma := List.getElem_mem hlt
    generalize L[k] = a at hu2 ht hma
    obtain ⟨ha1, ha2, ha3⟩ := hs a hma
    have hnv : ansValid a = false → L.all ansValid = false := fun h => by rw [List.all_eq_false]; exact ⟨a, hma, by simp [h]⟩
    have p2 := p_r5_Format a.host a.port (by omega) ha2.1 ha2.2
    have hl := hostText_len2 a.host ha2.1 ha2.2
    have p3 := p_r5_Parse (hostText a.host a.port) (by omega)
    have p4 := p_r1_Prefix a.target [47]
    generalize hz : hostPort (hostText a.host a.port) = z at p3
    obtain ⟨⟨zh, zp⟩, ze⟩ := z
    simp only at p3
    have ev : ansValid a = ((ze == 0) && ((zh == a.host && zp == a.port) && (Lib.hasPrefix a.target [47] && (decide (0 ≤ a.fail) && decide (a.fail ≤ 4))))) := by
      unfold ansValid
      rw [hz]
      rw [Bool.eq_iff_iff]
      simp [and_assoc]
    unfold ac at hb hu2 hul
    simp only [lawG, ↓Xn, ↓Xo, ↓Xg, ↓Xd, ↓Xe, ↓Xf, Tryz.VΓ, Tryz.Γs, Xp, Xi, Nat.reduceAdd, Nat.reduceSub, Nat.reduceLT, Nat.reduceLeDiff, reduceIte, reduceCtorEq, Nat.reduceEqDiff, implies_true, forall_const, lawV, h11, h12, h13, hb, hu2, hul, hlt2, lawB, Int.toNat_natCast]
    refine ⟨⟨by omega, by omega⟩, by omega, ?_⟩
    (refine callV_pc (p2) ?_; simp only [lawG, ↓Xn, ↓Xo, ↓Xg, ↓Xd, ↓Xe, ↓Xf, Tryz.VΓ, Tryz.Γs, Xp, Xi, Nat.reduceAdd, Nat.reduceSub, Nat.reduceLT, Nat.reduceLeDiff, reduceIte, reduceCtorEq, Nat.reduceEqDiff, implies_true, forall_const, lawV, h11, h12, h13, lawB])
    (refine callV_pc (p3) ?_; simp only [lawG, ↓Xn, ↓Xo, ↓Xg, ↓Xd, ↓Xe, ↓Xf, Tryz.VΓ, Tryz.Γs, Xp, Xi, Nat.reduceAdd, Nat.reduceSub, Nat.reduceLT, Nat.reduceLeDiff, reduceIte, reduceCtorEq, Nat.reduceEqDiff, implies_true, forall_const, lawV, h11, h12, h13, lawB])
    have hK := fun X Y Z => ((hkp.app [X]).app [Y]).app [Z]
    refine ⟨fun q1 => ⟨fun q2 => ?_, fun q2 => ⟨?_, hK _ _ _⟩⟩, fun q1 => ⟨?_, hK _ _ _⟩⟩
    · have e1 : (ze == 0) = true := by simpa using q1
      have e2 : (zh == a.host && zp == a.port) = true := by simpa using q2
      rw [e1, e2, Bool.true_and, Bool.true_and] at ev
      (refine callV_pc (p4) ?_; simp only [lawG, ↓Xn, ↓Xo, ↓Xg, ↓Xd, ↓Xe, ↓Xf, Tryz.VΓ, Tryz.Γs, Xp, Xi, Nat.reduceAdd, Nat.reduceSub, Nat.reduceLT, Nat.reduceLeDiff, reduceIte, reduceCtorEq, Nat.reduceEqDiff, implies_true, forall_const, lawV, h11, h12, h13, lawB])
      refine ⟨fun q3 => ⟨fun q4 => ⟨fun q5 => ⟨?_, hK _ _ _⟩, fun q5 => ⟨⟨by omega, by omega⟩, ⟨k + 1, by omega, rfl, hK _ _ _, ?_⟩, ?_⟩⟩, fun q4 => ⟨?_, hK _ _ _⟩⟩, fun q3 => ⟨?_, hK _ _ _⟩⟩
      · have q5 := of_decide_eq_true q5
        rw [hnv]; rw [ev, decide_eq_false (show ¬ a.fail ≤ 4 by omega)]; simp
      · have q3 : Lib.hasPrefix a.target [47] = true := by simpa using q3
        have q4 := of_decide_eq_false q4
        have q5 := of_decide_eq_false q5
        rw [q3, decide_eq_true (show 0 ≤ a.fail by omega), decide_eq_true (show a.fail ≤ 4 by omega)] at ev
        intro s hs
        rw [ht] at hs
        rcases List.mem_append.1 hs with hs | hs
        · exact hok s hs
        · rw [List.mem_singleton.1 hs, ev]; rfl
      · rw [lkI_eq (k := .i64) (n := (k : Int) + 1) rfl]; omega
      · have q4 := of_decide_eq_true q4
        rw [hnv]; rw [ev, decide_eq_false (show ¬ 0 ≤ a.fail by omega)]; simp
      · have q3 : Lib.hasPrefix a.target [47] = false := by simpa using q3
        rw [hnv]; rw [ev, q3]; rfl
    · have e2 : (zh == a.host && zp == a.port) = false := by rw [Bool.not_eq_true'] at q2; exact q2
      rw [hnv]; rw [ev, e2, Bool.false_and, Bool.and_false]
    · have e1 : (ze == 0) = false := by simpa using q1
      rw [hnv]; rw [ev, e1, Bool.false_and]
  · have hie : k = L.length := by omega
    subst hie
    rw [List.take_length] at hok
    have hlt2 : decide ((L.length : Int) < L.length) = false := by simp
    simp only [lawG, ↓Xn, ↓Xo, ↓Xg, ↓Xd, ↓Xe, ↓Xf, Tryz.VΓ, Tryz.Γs, Xp, Xi, Nat.reduceAdd, Nat.reduceSub, Nat.reduceLT, Nat.reduceLeDiff, reduceIte, reduceCtorEq, Nat.reduceEqDiff, implies_true, forall_const, lawV, h11, h12, h13, hb, hlt2]
    exact ⟨by rw [List.all_eq_true.2 hok], hkp⟩
end Go.Proofs.YtjponbpdlioocaaGreatDoor
/- The walks of the laws on the scripted world. -/
set_option linter.all false
set_option maxRecDepth 20000
namespace Go.Proofs.YtjponbpdlioocaaGreatDoor
open Go Vc Go.RowKit Wf
set_option linter.unusedSimpArgs false
def exU (p : Bytes) : Url := ⟨([97, 46, 101, 120, 97, 109, 112, 108, 101] : List UInt8), 0, p, [], [], false, false⟩
def exA : Ans := ⟨([97, 46, 101, 120, 97, 109, 112, 108, 101] : List UInt8), 0, ([47] : List UInt8), ([120] : List UInt8), 0, 10, 20⟩
theorem ex_fair (p : Bytes) (h : p.length ≤ 100) : Fair (exU p) := ⟨by simp [exU]; omega, by simp [exU], by simp [exU]⟩
theorem tup_flat (s : Bytes) (e : Int) : flat (.tup [.str s, .int .i64 e]) = true := by simp [flat, flat.flatL]
theorem m_ask1 : worldAsk [exA] (exU ([47] : List UInt8)) 10 = (([120] : List UInt8), 0) := by decide +kernel
theorem m_ask2 : worldAsk [exA] (exU ([47] : List UInt8)) 19 = (([120] : List UInt8), 0) := by decide +kernel
theorem m_ask3 : worldAsk [exA] (exU ([47] : List UInt8)) 9 = ([], 241) := by decide +kernel
theorem m_ask4 : worldAsk [exA] (exU ([47] : List UInt8)) 20 = ([], 241) := by decide +kernel
theorem m_valid : worldValid [exA] = true := by decide +kernel
theorem ask_forget {bs : List Res} {j : Nat} {L : List Ans} {m : Bool} (hj : bs[j]? = some (.own (L.flatMap ac) 36 7 L.length m)) (hL : L.length ≤ 9223372036854775807) (u : Url) (hu : Fair u) (now : Int) {s : Bytes} {e : Int} (h : worldAsk L u now = (s, e)) :
    SC Tryz.V 7 [.o j L.length, wsv u, .int .u64 now] bs (fun r b => r = .tup [.str s, .int .i64 e] ∧ b = bs) := by
  have h2 := sc_world_Ask hj hL u hu now
  rw [h] at h2
  exact sc_forget (tup_flat _ _) h2
set_option maxRecDepth 20000 in
set_option maxHeartbeats 2000000 in
theorem p_law24_sane : PC Tryz.V 4 [] (.bool true) := by
  refine pc_of 3000 Tryz.func4 rfl Tryz.ntmps4 Tryz.results4 Tryz.call4 (by simp) (by simp [flat, flat.flatL]) (by simp [flat, flat.flatL]) ?_
  simp only [lawG, ↓Xn, ↓Xo, ↓Xg, ↓Xd, ↓Xe, ↓Xf, Tryz.VΓ, Tryz.Γs, Xp, Xi, Nat.reduceAdd, Nat.reduceSub, Nat.reduceLT, Nat.reduceLeDiff, reduceIte, reduceCtorEq, Nat.reduceEqDiff, implies_true, forall_const, lawV, beq_self_eq_true, bne_self_eq_false, Int.reduceBEq, Int.reduceBNe, Int.reduceLT, Int.reduceLE]
  refine ⟨by decide, ?_⟩
  have hs : AnsSmall exA := ⟨by decide, by decide, by decide⟩
  refine callV_sc (ask_forget (L := [exA]) rfl (by simp) (exU ([47] : List UInt8)) (ex_fair _ (by simp)) 10 m_ask1) ?_
  rintro r b ⟨rfl, rfl⟩
  simp only [lawG, ↓Xn, ↓Xo, ↓Xg, ↓Xd, ↓Xe, ↓Xf, Tryz.VΓ, Tryz.Γs, Xp, Xi, Nat.reduceAdd, Nat.reduceSub, Nat.reduceLT, Nat.reduceLeDiff, reduceIte, reduceCtorEq, Nat.reduceEqDiff, implies_true, forall_const, lawV, beq_self_eq_true, bne_self_eq_false, Int.reduceBEq, Int.reduceBNe, Int.reduceLT, Int.reduceLE]
  refine callV_sc (ask_forget (L := [exA]) rfl (by simp) (exU ([47] : List UInt8)) (ex_fair _ (by simp)) 19 m_ask2) ?_
  rintro r b ⟨rfl, rfl⟩
  simp only [lawG, ↓Xn, ↓Xo, ↓Xg, ↓Xd, ↓Xe, ↓Xf, Tryz.VΓ, Tryz.Γs, Xp, Xi, Nat.reduceAdd, Nat.reduceSub, Nat.reduceLT, Nat.reduceLeDiff, reduceIte, reduceCtorEq, Nat.reduceEqDiff, implies_true, forall_const, lawV, beq_self_eq_true, bne_self_eq_false, Int.reduceBEq, Int.reduceBNe, Int.reduceLT, Int.reduceLE]
  refine callV_sc (ask_forget (L := [exA]) rfl (by simp) (exU ([47] : List UInt8)) (ex_fair _ (by simp)) 9 m_ask3) ?_
  rintro r b ⟨rfl, rfl⟩
  simp only [lawG, ↓Xn, ↓Xo, ↓Xg, ↓Xd, ↓Xe, ↓Xf, Tryz.VΓ, Tryz.Γs, Xp, Xi, Nat.reduceAdd, Nat.reduceSub, Nat.reduceLT, Nat.reduceLeDiff, reduceIte, reduceCtorEq, Nat.reduceEqDiff, implies_true, forall_const, lawV, beq_self_eq_true, bne_self_eq_false, Int.reduceBEq, Int.reduceBNe, Int.reduceLT, Int.reduceLE]
  refine callV_sc (ask_forget (L := [exA]) rfl (by simp) (exU ([47] : List UInt8)) (ex_fair _ (by simp)) 20 m_ask4) ?_
  rintro r b ⟨rfl, rfl⟩
  simp only [lawG, ↓Xn, ↓Xo, ↓Xg, ↓Xd, ↓Xe, ↓Xf, Tryz.VΓ, Tryz.Γs, Xp, Xi, Nat.reduceAdd, Nat.reduceSub, Nat.reduceLT, Nat.reduceLeDiff, reduceIte, reduceCtorEq, Nat.reduceEqDiff, implies_true, forall_const, lawV, beq_self_eq_true, bne_self_eq_false, Int.reduceBEq, Int.reduceBNe, Int.reduceLT, Int.reduceLE]
  have hv := sc_world_Valid (bs := [.own ([exA].flatMap ac) 36 7 1 true, .cells [.str ([97, 46, 101, 120, 97, 109, 112, 108, 101] : List UInt8), .int .i64 0, .str ([47] : List UInt8), .str [], .str [], .bool false, .bool false] 24 true]) (j := 0) (L := [exA]) rfl (by simp) (fun a ha => by rw [List.mem_singleton.1 ha]; exact hs)
  rw [m_valid] at hv
  refine callV_sc hv ?_
  rintro r b ⟨rfl, rfl⟩
  simp only [lawG, ↓Xn, ↓Xo, ↓Xg, ↓Xd, ↓Xe, ↓Xf, Tryz.VΓ, Tryz.Γs, Xp, Xi, Nat.reduceAdd, Nat.reduceSub, Nat.reduceLT, Nat.reduceLeDiff, reduceIte, reduceCtorEq, Nat.reduceEqDiff, implies_true, forall_const, lawV, beq_self_eq_true, bne_self_eq_false, Int.reduceBEq, Int.reduceBNe, Int.reduceLT, Int.reduceLE]
end Go.Proofs.YtjponbpdlioocaaGreatDoor
/- The walk of the law on what the world answers. -/
set_option linter.all false
set_option maxRecDepth 20000
namespace Go.Proofs.YtjponbpdlioocaaGreatDoor
open Go Vc Go.RowKit Wf
set_option linter.unusedSimpArgs false
theorem r_ask_forget {bs : List Res} {j : Nat} {L : List Ans} {m : Bool} (hj : bs[j]? = some (.own (L.flatMap ac) 36 7 L.length m)) (hL : L.length ≤ 1000000) (u : Url) (hu : Fair u) (now : Int) {s : Bytes} {e : Int} (h : worldAsk L u now = (s, e)) :
    SC Tryz.V 8 [.o j L.length, wsv u, .int .u64 now] bs (fun r b => r = .tup [.str s, .int .i64 e] ∧ b = bs) := by
  have h2 := sc_r24_Ask hj hL u hu now
  rw [h] at h2
  exact sc_forget (tup_flat _ _) h2
set_option maxRecDepth 20000 in
set_option maxHeartbeats 4000000 in
theorem s_WorldAsks (L : List Ans) (u : Url) (now : Int) (accept : Bytes) (hn : L.length ≤ 9223372036854775807) (hl : ∀ a ∈ L, AnsFair a) (hp : ∀ a ∈ L, -9223372036854775808 ≤ a.port ∧ a.port ≤ 9223372036854775807)
    (hu : u.host.length ≤ 140737488355328 ∧ u.path.length ≤ 140737488355328 ∧ u.query.length ≤ 140737488355328 ∧ u.fragment.length ≤ 140737488355328) (hup : -9223372036854775808 ≤ u.port ∧ u.port ≤ 9223372036854775807) :
    SC Tryz.V 3 [.o 0 L.length, wsv u, .int .u64 now, .str accept] [.own (L.flatMap ac) 36 7 L.length false] (fun r _ => r = .bool true) := by
  have p1 := p_keep_URL u hu
  refine sc_of 3000 Tryz.func3 rfl Tryz.ntmps3 Tryz.results3 Tryz.call3 (by simp) (fun β β' hb => concL_within 1 _ (by simp [within, within.withinL, wsv]) β β' hb) ?_
  unfold wsv at p1 ⊢
  simp only [lawG, ↓Xn, ↓Xo, ↓Xg, ↓Xd, ↓Xe, ↓Xf, Tryz.VΓ, Tryz.Γs, Xp, Xi, Nat.reduceAdd, Nat.reduceSub, Nat.reduceLT, Nat.reduceLeDiff, reduceIte, reduceCtorEq, Nat.reduceEqDiff, implies_true, forall_const, lawV, beq_self_eq_true, bne_self_eq_false, Int.reduceBEq, Int.reduceBNe, Int.reduceLT, Int.reduceLE]
  (refine callV_pc (p_law24_sane) ?_; simp only [lawG, ↓Xn, ↓Xo, ↓Xg, ↓Xd, ↓Xe, ↓Xf, Tryz.VΓ, Tryz.Γs, Xp, Xi, Nat.reduceAdd, Nat.reduceSub, Nat.reduceLT, Nat.reduceLeDiff, reduceIte, reduceCtorEq, Nat.reduceEqDiff, implies_true, forall_const, lawV, beq_self_eq_true, bne_self_eq_false, Int.reduceBEq, Int.reduceBNe, Int.reduceLT, Int.reduceLE])
  refine callV_sc (sc_forget rfl (sc_keep_World (j := 0) rfl hn hl 40)) ?_
  rintro r b ⟨rfl, rfl⟩
  simp only [lawG, ↓Xn, ↓Xo, ↓Xg, ↓Xd, ↓Xe, ↓Xf, Tryz.VΓ, Tryz.Γs, Xp, Xi, Nat.reduceAdd, Nat.reduceSub, Nat.reduceLT, Nat.reduceLeDiff, reduceIte, reduceCtorEq, Nat.reduceEqDiff, implies_true, forall_const, lawV, beq_self_eq_true, bne_self_eq_false, Int.reduceBEq, Int.reduceBNe, Int.reduceLT, Int.reduceLE]
  intro q1
  (refine callV_pc (p1) ?_; simp only [lawG, ↓Xn, ↓Xo, ↓Xg, ↓Xd, ↓Xe, ↓Xf, Tryz.VΓ, Tryz.Γs, Xp, Xi, Nat.reduceAdd, Nat.reduceSub, Nat.reduceLT, Nat.reduceLeDiff, reduceIte, reduceCtorEq, Nat.reduceEqDiff, implies_true, forall_const, lawV, beq_self_eq_true, bne_self_eq_false, Int.reduceBEq, Int.reduceBNe, Int.reduceLT, Int.reduceLE])
  intro q2 q3
  have q1 := of_decide_eq_true (by simpa only [Bool.not_eq_false'] using q1)
  have q2 := of_decide_eq_true (by simpa only [Bool.not_eq_false'] using q2)
  have q3 := of_decide_eq_false q3
  have hL : L.length ≤ 1000000 := by have := q1.1; omega
  have hf : Fair u := ⟨by omega, hup⟩
  have hs : ∀ a ∈ L, AnsSmall a := fun a ha => ⟨by have := q1.2 a ha; omega, hp a ha, (hl a ha).2.1⟩
  have r1 := p_world_Request u hf accept (by omega)
  have r2 := p_r24_Request u hf accept (by omega)
  generalize hw : worldAsk L u now = z
  obtain ⟨ws, we⟩ := z
  have s1 := fun bs hj => ask_forget (bs := bs) (j := 0) (m := false) hj hn u hf now hw
  have s2 := fun bs hj => r_ask_forget (bs := bs) (j := 0) (m := false) hj hL u hf now hw
  unfold wsv at r1 r2 s1 s2
  refine callV_sc (s1 _ rfl) ?_
  rintro r b ⟨rfl, rfl⟩
  simp only [lawG, ↓Xn, ↓Xo, ↓Xg, ↓Xd, ↓Xe, ↓Xf, Tryz.VΓ, Tryz.Γs, Xp, Xi, Nat.reduceAdd, Nat.reduceSub, Nat.reduceLT, Nat.reduceLeDiff, reduceIte, reduceCtorEq, Nat.reduceEqDiff, implies_true, forall_const, lawV, beq_self_eq_true, bne_self_eq_false, Int.reduceBEq, Int.reduceBNe, Int.reduceLT, Int.reduceLE]
  refine callV_sc (s2 _ rfl) ?_
  rintro r b ⟨rfl, rfl⟩
  simp only [lawG, ↓Xn, ↓Xo, ↓Xg, ↓Xd, ↓Xe, ↓Xf, Tryz.VΓ, Tryz.Γs, Xp, Xi, Nat.reduceAdd, Nat.reduceSub, Nat.reduceLT, Nat.reduceLeDiff, reduceIte, reduceCtorEq, Nat.reduceEqDiff, implies_true, forall_const, lawV, beq_self_eq_true, bne_self_eq_false, Int.reduceBEq, Int.reduceBNe, Int.reduceLT, Int.reduceLE]
  have v1 := fun bs hj => sc_world_Valid (bs := bs) (j := 0) (m := false) hj hn hs
  have v2 := fun bs hj => sc_forget rfl (sc_r24_Valid (bs := bs) (j := 0) (m := false) hj hL hs)
  refine callD_scw [] (v1 _ rfl) (fun _ _ _ => rfl) ?_
  simp only [lawG, ↓Xn, ↓Xo, ↓Xg, ↓Xd, ↓Xe, ↓Xf, Tryz.VΓ, Tryz.Γs, Xp, Xi, Nat.reduceAdd, Nat.reduceSub, Nat.reduceLT, Nat.reduceLeDiff, reduceIte, reduceCtorEq, Nat.reduceEqDiff, implies_true, forall_const, lawV, beq_self_eq_true, bne_self_eq_false, Int.reduceBEq, Int.reduceBNe, Int.reduceLT, Int.reduceLE]
  refine callD_scw [] (v2 _ rfl) (fun _ _ _ => rfl) ?_
  simp only [lawG, ↓Xn, ↓Xo, ↓Xg, ↓Xd, ↓Xe, ↓Xf, Tryz.VΓ, Tryz.Γs, Xp, Xi, Nat.reduceAdd, Nat.reduceSub, Nat.reduceLT, Nat.reduceLeDiff, reduceIte, reduceCtorEq, Nat.reduceEqDiff, implies_true, forall_const, lawV, beq_self_eq_true, bne_self_eq_false, Int.reduceBEq, Int.reduceBNe, Int.reduceLT, Int.reduceLE]
  (refine callD_pc (r1) ?_; simp only [lawG, ↓Xn, ↓Xo, ↓Xg, ↓Xd, ↓Xe, ↓Xf, Tryz.VΓ, Tryz.Γs, Xp, Xi, Nat.reduceAdd, Nat.reduceSub, Nat.reduceLT, Nat.reduceLeDiff, reduceIte, reduceCtorEq, Nat.reduceEqDiff, implies_true, forall_const, lawV, beq_self_eq_true, bne_self_eq_false, Int.reduceBEq, Int.reduceBNe, Int.reduceLT, Int.reduceLE])
  (refine callD_pc (r2) ?_; simp only [lawG, ↓Xn, ↓Xo, ↓Xg, ↓Xd, ↓Xe, ↓Xf, Tryz.VΓ, Tryz.Γs, Xp, Xi, Nat.reduceAdd, Nat.reduceSub, Nat.reduceLT, Nat.reduceLeDiff, reduceIte, reduceCtorEq, Nat.reduceEqDiff, implies_true, forall_const, lawV, beq_self_eq_true, bne_self_eq_false, Int.reduceBEq, Int.reduceBNe, Int.reduceLT, Int.reduceLE])
  exact (OkD_fast (by kernel_rfl))
end Go.Proofs.YtjponbpdlioocaaGreatDoor
