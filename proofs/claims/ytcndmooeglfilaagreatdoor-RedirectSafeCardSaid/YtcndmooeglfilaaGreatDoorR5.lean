/- Texts of this claim, laid together: RefUri3, RefPct, RefPct2, RefUrl, UrlW3, UrlW4, RedirW, KeepW, Law25. -/
import Derived.Test.YtcndmooeglfilaaGreatDoorR4
/- The walks of reference 06: Split, Join. -/
set_option linter.all false
set_option maxRecDepth 20000
namespace Go.Proofs.YtcndmooeglfilaaGreatDoor
open Go Vc Go.RowKit Wf
set_option linter.unusedSimpArgs false
theorem pre_one (c : UInt8) (s : Bytes) : pre (([c] : Bytes).contains ·) s = pre (· == c) s := by
  congr 1
  funext x
  by_cases h : x = c
  · subst h; simp
  · simp [h]
set_option maxRecDepth 20000 in
set_option maxHeartbeats 4000000 in
theorem p_r6_Join (u : Uri) (h : u.scheme.length + u.authority.length + u.path.length + u.query.length + u.fragment.length ≤ 4611686018427387904) : PC Tryz.V 75 [usv u] (.str (uriJoin u)) := by
  (refine pc_of 3000 Tryz.func75 rfl Tryz.ntmps75 Tryz.results75 Tryz.call75 (by simp) (by simp [flat, flat.flatL, usv]) (by simp [flat, flat.flatL, usv]) ?_
   unfold usv
   simp only [lawG, ↓Xn, ↓Xo, ↓Xg, ↓Xd, ↓Xe, ↓Xf, Tryz.VΓ, Tryz.Γs, Xp, Xi, Nat.reduceAdd, Nat.reduceSub, Nat.reduceLT, Nat.reduceLeDiff, reduceIte, reduceCtorEq, Nat.reduceEqDiff, implies_true, forall_const, lawV])
  unfold uriJoin
  obtain ⟨sc, au, pa, qu, fr, b1, b2, b3, b4⟩ := u
  simp only at h ⊢
  cases b1 <;> cases b2 <;> cases b3 <;> cases b4 <;> simp <;> omega
theorem authPath_two {s : Bytes} (h : Lib.hasPrefix s [47, 47] = true) : authPath s = ((s.take (2 + pre (· == 47) (s.drop 2))).drop 2, true, s.drop (2 + pre (· == 47) (s.drop 2))) := by
  rw [authPath_yes h]
  have e : Lib.trimPrefix s [47, 47] = s.drop 2 := by unfold Lib.trimPrefix; rw [if_pos h]; rfl
  rw [e, List.drop_take, List.drop_drop]
  simp
set_option maxRecDepth 20000 in
set_option maxHeartbeats 4000000 in
theorem p_r6_Split (s : Bytes) : PC Tryz.V 69 [.str s] (.tup [usv (uriSplit s).1, .int .i64 (uriSplit s).2]) := by
  (refine pc_of 3000 Tryz.func69 rfl Tryz.ntmps69 Tryz.results69 Tryz.call69 (by simp) (by simp [flat, flat.flatL, usv]) (by simp [flat, flat.flatL, usv]) ?_
   simp only [lawG, ↓Xn, ↓Xo, ↓Xg, ↓Xd, ↓Xe, ↓Xf, Tryz.VΓ, Tryz.Γs, Xp, Xi, Nat.reduceAdd, Nat.reduceSub, Nat.reduceLT, Nat.reduceLeDiff, reduceIte, reduceCtorEq, Nat.reduceEqDiff, implies_true, forall_const, lawV])
  refine ⟨fun h => ?_, fun h => ?_⟩
  · have : uriSplit s = (Uri.none, 5) := if_pos (by simp at h; omega)
    rw [this]; rfl
  · have hq : uriSplit s = splitRest (cutC 63 (cutC 35 s).1).1 (cutC 35 s).2.1 (cutC 63 (cutC 35 s).1).2.1 (cutC 35 s).2.2 (cutC 63 (cutC 35 s).1).2.2 := if_neg (by simp at h; omega)
    rw [hq]
    have hs : s.length ≤ 4294967281 := by simp at h; omega
    have px := p_r1_Index s [35] hs (by simp)
    rw [pre_one] at px
    (refine callV_pc (px) ?_; simp only [lawG, ↓Xn, ↓Xo, ↓Xg, ↓Xd, ↓Xe, ↓Xf, Tryz.VΓ, Tryz.Γs, Xp, Xi, Nat.reduceAdd, Nat.reduceSub, Nat.reduceLT, Nat.reduceLeDiff, reduceIte, reduceCtorEq, Nat.reduceEqDiff, implies_true, forall_const, lawV])
    refine ⟨fun hk1 => ?_, fun hk1 => ?_⟩
    · have hk1' : pre (· == 35) s < s.length := by simpa using hk1
      rw [show cutC 35 s = (s.take (pre (· == 35) s), s.drop (pre (· == 35) s + 1), true) from if_pos hk1']
      simp only
      have hl1 : (s.take (pre (· == 35) s)).length ≤ 4294967281 := by rw [List.length_take]; omega
      refine ⟨by omega, by omega, by omega, (OkD_fast (by kernel_rfl)), ?_⟩
      generalize s.take (pre (· == 35) s) = s1 at hl1 ⊢
      generalize s.drop (pre (· == 35) s + 1) = fr
      (
        have px2 := p_r1_Index s1 [63] (by omega) (by simp)
        rw [pre_one] at px2
        (refine callV_pc (px2) ?_; simp only [lawG, ↓Xn, ↓Xo, ↓Xg, ↓Xd, ↓Xe, ↓Xf, Tryz.VΓ, Tryz.Γs, Xp, Xi, Nat.reduceAdd, Nat.reduceSub, Nat.reduceLT, Nat.reduceLeDiff, reduceIte, reduceCtorEq, Nat.reduceEqDiff, implies_true, forall_const, lawV])
        refine ⟨fun hk2 => ?_, fun hk2 => ?_⟩
        · have hk2' : pre (· == 63) s1 < s1.length := by simpa using hk2
          rw [show cutC 63 s1 = (s1.take (pre (· == 63) s1), s1.drop (pre (· == 63) s1 + 1), true) from if_pos hk2']
          simp only
          have hl2 : (s1.take (pre (· == 63) s1)).length ≤ 4294967281 := by rw [List.length_take]; omega
          refine ⟨by omega, by omega, by omega, (OkD_fast (by kernel_rfl)), ?_⟩
          generalize s1.take (pre (· == 63) s1) = s2 at hl2 ⊢
          generalize s1.drop (pre (· == 63) s1 + 1) = qu
          (
            have px3 := p_r1_Index s2 [58, 47] (by omega) (by simp)
            rw [show pre (([58, 47] : Bytes).contains ·) s2 = pre colonSlash s2 from rfl] at px3
            (refine callV_pc (px3) ?_; simp only [lawG, ↓Xn, ↓Xo, ↓Xg, ↓Xd, ↓Xe, ↓Xf, Tryz.VΓ, Tryz.Γs, Xp, Xi, Nat.reduceAdd, Nat.reduceSub, Nat.reduceLT, Nat.reduceLeDiff, reduceIte, reduceCtorEq, Nat.reduceEqDiff, implies_true, forall_const, lawV])
            refine ⟨fun hk3 => ?_, fun hk3 => ?_⟩
            · have hp : pre colonSlash s2 < s2.length := by simpa using hk3
              rw [byte_is (n := 58) hp 58 rfl]
              refine ⟨by omega, fun h1 => ⟨by omega, ?_⟩, fun h1 => ?_⟩
              · have hh : (s2.drop (pre colonSlash s2)).head? = some 58 := by
                  rw [List.head?_drop, List.getElem?_eq_getElem hp, beq_iff_eq.1 h1]
                (refine callV_pc (p_r6_scheme _ (by rw [List.length_take]; omega)) ?_; simp only [lawG, ↓Xn, ↓Xo, ↓Xg, ↓Xd, ↓Xe, ↓Xf, Tryz.VΓ, Tryz.Γs, Xp, Xi, Nat.reduceAdd, Nat.reduceSub, Nat.reduceLT, Nat.reduceLeDiff, reduceIte, reduceCtorEq, Nat.reduceEqDiff, implies_true, forall_const, lawV])
                refine ⟨fun h2 => ?_, fun h2 => ?_⟩
                · have hs2 : ∀ (f q : Bytes) (hf hq : Bool), splitRest s2 f q hf hq = (Uri.none, 6) := fun f q hf hq => by
                    unfold splitRest
                    rw [if_pos hh, if_neg (by rw [not_t h2]; simp)]
                  rw [hs2]; rfl
                · have hs2 : ∀ (f q : Bytes) (hf hq : Bool), splitRest s2 f q hf hq = (⟨s2.take (pre colonSlash s2), (authPath (s2.drop (pre colonSlash s2 + 1))).1, (authPath (s2.drop (pre colonSlash s2 + 1))).2.2, q, f, true, (authPath (s2.drop (pre colonSlash s2 + 1))).2.1, hq, hf⟩, 0) := fun f q hf hq => by
                    unfold splitRest
                    rw [if_pos hh, if_pos (not_f h2)]
                  have hl5 : (s2.drop (pre colonSlash s2 + 1)).length ≤ 4294967281 := by rw [List.length_drop]; omega
                  refine ⟨by omega, by omega, by omega, (OkD_fast (by kernel_rfl)), ?_⟩
                  (
                    (refine callV_pc (p_r1_Prefix (s2.drop (pre colonSlash s2 + 1)) [47, 47]) ?_; simp only [lawG, ↓Xn, ↓Xo, ↓Xg, ↓Xd, ↓Xe, ↓Xf, Tryz.VΓ, Tryz.Γs, Xp, Xi, Nat.reduceAdd, Nat.reduceSub, Nat.reduceLT, Nat.reduceLeDiff, reduceIte, reduceCtorEq, Nat.reduceEqDiff, implies_true, forall_const, lawV])
                    cases hpf : Lib.hasPrefix (s2.drop (pre colonSlash s2 + 1)) [47, 47]
                    · refine ⟨fun h => (by cases h), fun _ => ?_⟩
                      rw [hs2, authPath_no hpf]; rfl
                    · refine ⟨fun _ => ?_, fun h => (by cases h)⟩
                      rw [hs2, authPath_two hpf]
                      have hl6 := hp_len hpf
                      simp only [List.length_cons, List.length_nil] at hl6
                      have px4 := p_r1_Index ((s2.drop (pre colonSlash s2 + 1)).drop 2) [47] (by rw [List.length_drop]; omega) (by simp)
                      rw [pre_one] at px4
                      have hpl := pre_le (· == 47) ((s2.drop (pre colonSlash s2 + 1)).drop 2)
                      rw [List.length_drop] at hpl
                      generalize pre (· == 47) ((s2.drop (pre colonSlash s2 + 1)).drop 2) = q at px4 hpl ⊢
                      refine ⟨by omega, ?_⟩
                      (refine callV_pc (px4) ?_; simp only [lawG, ↓Xn, ↓Xo, ↓Xg, ↓Xd, ↓Xe, ↓Xf, Tryz.VΓ, Tryz.Γs, Xp, Xi, Nat.reduceAdd, Nat.reduceSub, Nat.reduceLT, Nat.reduceLeDiff, reduceIte, reduceCtorEq, Nat.reduceEqDiff, implies_true, forall_const, lawV])
                      rw [show (2 + (q : Int)).toNat = 2 + q by omega]
                      exact ⟨by omega, by omega, by omega, (OkD_fast (by kernel_rfl)), rfl⟩)
              · have hs2 : ∀ (f q : Bytes) (hf hq : Bool), splitRest s2 f q hf hq = (⟨[], (authPath s2).1, (authPath s2).2.2, q, f, false, (authPath s2).2.1, hq, hf⟩, 0) := fun f q hf hq => by
                  unfold splitRest
                  rw [if_neg (by rw [List.head?_drop, List.getElem?_eq_getElem hp]; simpa using h1)]
                have hl5 := hl2
                (
                  (refine callV_pc (p_r1_Prefix (s2) [47, 47]) ?_; simp only [lawG, ↓Xn, ↓Xo, ↓Xg, ↓Xd, ↓Xe, ↓Xf, Tryz.VΓ, Tryz.Γs, Xp, Xi, Nat.reduceAdd, Nat.reduceSub, Nat.reduceLT, Nat.reduceLeDiff, reduceIte, reduceCtorEq, Nat.reduceEqDiff, implies_true, forall_const, lawV])
                  cases hpf : Lib.hasPrefix (s2) [47, 47]
                  · refine ⟨fun h => (by cases h), fun _ => ?_⟩
                    rw [hs2, authPath_no hpf]; rfl
                  · refine ⟨fun _ => ?_, fun h => (by cases h)⟩
                    rw [hs2, authPath_two hpf]
                    have hl6 := hp_len hpf
                    simp only [List.length_cons, List.length_nil] at hl6
                    have px4 := p_r1_Index ((s2).drop 2) [47] (by rw [List.length_drop]; omega) (by simp)
                    rw [pre_one] at px4
                    have hpl := pre_le (· == 47) ((s2).drop 2)
                    rw [List.length_drop] at hpl
                    generalize pre (· == 47) ((s2).drop 2) = q at px4 hpl ⊢
                    refine ⟨by omega, ?_⟩
                    (refine callV_pc (px4) ?_; simp only [lawG, ↓Xn, ↓Xo, ↓Xg, ↓Xd, ↓Xe, ↓Xf, Tryz.VΓ, Tryz.Γs, Xp, Xi, Nat.reduceAdd, Nat.reduceSub, Nat.reduceLT, Nat.reduceLeDiff, reduceIte, reduceCtorEq, Nat.reduceEqDiff, implies_true, forall_const, lawV])
                    rw [show (2 + (q : Int)).toNat = 2 + q by omega]
                    exact ⟨by omega, by omega, by omega, (OkD_fast (by kernel_rfl)), rfl⟩)
            · have hs2 : ∀ (f q : Bytes) (hf hq : Bool), splitRest s2 f q hf hq = (⟨[], (authPath s2).1, (authPath s2).2.2, q, f, false, (authPath s2).2.1, hq, hf⟩, 0) := fun f q hf hq => by
                unfold splitRest
                rw [if_neg (by rw [List.drop_of_length_le (by simp at hk3; omega)]; simp)]
              have hl5 := hl2
              (
                (refine callV_pc (p_r1_Prefix (s2) [47, 47]) ?_; simp only [lawG, ↓Xn, ↓Xo, ↓Xg, ↓Xd, ↓Xe, ↓Xf, Tryz.VΓ, Tryz.Γs, Xp, Xi, Nat.reduceAdd, Nat.reduceSub, Nat.reduceLT, Nat.reduceLeDiff, reduceIte, reduceCtorEq, Nat.reduceEqDiff, implies_true, forall_const, lawV])
                cases hpf : Lib.hasPrefix (s2) [47, 47]
                · refine ⟨fun h => (by cases h), fun _ => ?_⟩
                  rw [hs2, authPath_no hpf]; rfl
                · refine ⟨fun _ => ?_, fun h => (by cases h)⟩
                  rw [hs2, authPath_two hpf]
                  have hl6 := hp_len hpf
                  simp only [List.length_cons, List.length_nil] at hl6
                  have px4 := p_r1_Index ((s2).drop 2) [47] (by rw [List.length_drop]; omega) (by simp)
                  rw [pre_one] at px4
                  have hpl := pre_le (· == 47) ((s2).drop 2)
                  rw [List.length_drop] at hpl
                  generalize pre (· == 47) ((s2).drop 2) = q at px4 hpl ⊢
                  refine ⟨by omega, ?_⟩
                  (refine callV_pc (px4) ?_; simp only [lawG, ↓Xn, ↓Xo, ↓Xg, ↓Xd, ↓Xe, ↓Xf, Tryz.VΓ, Tryz.Γs, Xp, Xi, Nat.reduceAdd, Nat.reduceSub, Nat.reduceLT, Nat.reduceLeDiff, reduceIte, reduceCtorEq, Nat.reduceEqDiff, implies_true, forall_const, lawV])
                  rw [show (2 + (q : Int)).toNat = 2 + q by omega]
                  exact ⟨by omega, by omega, by omega, (OkD_fast (by kernel_rfl)), rfl⟩))
        · have hk2' : ¬ pre (· == 63) s1 < s1.length := by simpa using hk2
          rw [show cutC 63 s1 = (s1, [], false) from if_neg hk2']
          simp only
          have hl2 : s1.length ≤ 4294967281 := hl1
          generalize s1 = s2 at hl2 ⊢
          (
            have px3 := p_r1_Index s2 [58, 47] (by omega) (by simp)
            rw [show pre (([58, 47] : Bytes).contains ·) s2 = pre colonSlash s2 from rfl] at px3
            (refine callV_pc (px3) ?_; simp only [lawG, ↓Xn, ↓Xo, ↓Xg, ↓Xd, ↓Xe, ↓Xf, Tryz.VΓ, Tryz.Γs, Xp, Xi, Nat.reduceAdd, Nat.reduceSub, Nat.reduceLT, Nat.reduceLeDiff, reduceIte, reduceCtorEq, Nat.reduceEqDiff, implies_true, forall_const, lawV])
            refine ⟨fun hk3 => ?_, fun hk3 => ?_⟩
            · have hp : pre colonSlash s2 < s2.length := by simpa using hk3
              rw [byte_is (n := 58) hp 58 rfl]
              refine ⟨by omega, fun h1 => ⟨by omega, ?_⟩, fun h1 => ?_⟩
              · have hh : (s2.drop (pre colonSlash s2)).head? = some 58 := by
                  rw [List.head?_drop, List.getElem?_eq_getElem hp, beq_iff_eq.1 h1]
                (refine callV_pc (p_r6_scheme _ (by rw [List.length_take]; omega)) ?_; simp only [lawG, ↓Xn, ↓Xo, ↓Xg, ↓Xd, ↓Xe, ↓Xf, Tryz.VΓ, Tryz.Γs, Xp, Xi, Nat.reduceAdd, Nat.reduceSub, Nat.reduceLT, Nat.reduceLeDiff, reduceIte, reduceCtorEq, Nat.reduceEqDiff, implies_true, forall_const, lawV])
                refine ⟨fun h2 => ?_, fun h2 => ?_⟩
                · have hs2 : ∀ (f q : Bytes) (hf hq : Bool), splitRest s2 f q hf hq = (Uri.none, 6) := fun f q hf hq => by
                    unfold splitRest
                    rw [if_pos hh, if_neg (by rw [not_t h2]; simp)]
                  rw [hs2]; rfl
                · have hs2 : ∀ (f q : Bytes) (hf hq : Bool), splitRest s2 f q hf hq = (⟨s2.take (pre colonSlash s2), (authPath (s2.drop (pre colonSlash s2 + 1))).1, (authPath (s2.drop (pre colonSlash s2 + 1))).2.2, q, f, true, (authPath (s2.drop (pre colonSlash s2 + 1))).2.1, hq, hf⟩, 0) := fun f q hf hq => by
                    unfold splitRest
                    rw [if_pos hh, if_pos (not_f h2)]
                  have hl5 : (s2.drop (pre colonSlash s2 + 1)).length ≤ 4294967281 := by rw [List.length_drop]; omega
                  refine ⟨by omega, by omega, by omega, (OkD_fast (by kernel_rfl)), ?_⟩
                  (
                    (refine callV_pc (p_r1_Prefix (s2.drop (pre colonSlash s2 + 1)) [47, 47]) ?_; simp only [lawG, ↓Xn, ↓Xo, ↓Xg, ↓Xd, ↓Xe, ↓Xf, Tryz.VΓ, Tryz.Γs, Xp, Xi, Nat.reduceAdd, Nat.reduceSub, Nat.reduceLT, Nat.reduceLeDiff, reduceIte, reduceCtorEq, Nat.reduceEqDiff, implies_true, forall_const, lawV])
                    cases hpf : Lib.hasPrefix (s2.drop (pre colonSlash s2 + 1)) [47, 47]
                    · refine ⟨fun h => (by cases h), fun _ => ?_⟩
                      rw [hs2, authPath_no hpf]; rfl
                    · refine ⟨fun _ => ?_, fun h => (by cases h)⟩
                      rw [hs2, authPath_two hpf]
                      have hl6 := hp_len hpf
                      simp only [List.length_cons, List.length_nil] at hl6
                      have px4 := p_r1_Index ((s2.drop (pre colonSlash s2 + 1)).drop 2) [47] (by rw [List.length_drop]; omega) (by simp)
                      rw [pre_one] at px4
                      have hpl := pre_le (· == 47) ((s2.drop (pre colonSlash s2 + 1)).drop 2)
                      rw [List.length_drop] at hpl
                      generalize pre (· == 47) ((s2.drop (pre colonSlash s2 + 1)).drop 2) = q at px4 hpl ⊢
                      refine ⟨by omega, ?_⟩
                      (refine callV_pc (px4) ?_; simp only [lawG, ↓Xn, ↓Xo, ↓Xg, ↓Xd, ↓Xe, ↓Xf, Tryz.VΓ, Tryz.Γs, Xp, Xi, Nat.reduceAdd, Nat.reduceSub, Nat.reduceLT, Nat.reduceLeDiff, reduceIte, reduceCtorEq, Nat.reduceEqDiff, implies_true, forall_const, lawV])
                      rw [show (2 + (q : Int)).toNat = 2 + q by omega]
                      exact ⟨by omega, by omega, by omega, (OkD_fast (by kernel_rfl)), rfl⟩)
              · have hs2 : ∀ (f q : Bytes) (hf hq : Bool), splitRest s2 f q hf hq = (⟨[], (authPath s2).1, (authPath s2).2.2, q, f, false, (authPath s2).2.1, hq, hf⟩, 0) := fun f q hf hq => by
                  unfold splitRest
                  rw [if_neg (by rw [List.head?_drop, List.getElem?_eq_getElem hp]; simpa using h1)]
                have hl5 := hl2
                (
                  (refine callV_pc (p_r1_Prefix (s2) [47, 47]) ?_; simp only [lawG, ↓Xn, ↓Xo, ↓Xg, ↓Xd, ↓Xe, ↓Xf, Tryz.VΓ, Tryz.Γs, Xp, Xi, Nat.reduceAdd, Nat.reduceSub, Nat.reduceLT, Nat.reduceLeDiff, reduceIte, reduceCtorEq, Nat.reduceEqDiff, implies_true, forall_const, lawV])
                  cases hpf : Lib.hasPrefix (s2) [47, 47]
                  · refine ⟨fun h => (by cases h), fun _ => ?_⟩
                    rw [hs2, authPath_no hpf]; rfl
                  · refine ⟨fun _ => ?_, fun h => (by cases h)⟩
                    rw [hs2, authPath_two hpf]
                    have hl6 := hp_len hpf
                    simp only [List.length_cons, List.length_nil] at hl6
                    have px4 := p_r1_Index ((s2).drop 2) [47] (by rw [List.length_drop]; omega) (by simp)
                    rw [pre_one] at px4
                    have hpl := pre_le (· == 47) ((s2).drop 2)
                    rw [List.length_drop] at hpl
                    generalize pre (· == 47) ((s2).drop 2) = q at px4 hpl ⊢
                    refine ⟨by omega, ?_⟩
                    (refine callV_pc (px4) ?_; simp only [lawG, ↓Xn, ↓Xo, ↓Xg, ↓Xd, ↓Xe, ↓Xf, Tryz.VΓ, Tryz.Γs, Xp, Xi, Nat.reduceAdd, Nat.reduceSub, Nat.reduceLT, Nat.reduceLeDiff, reduceIte, reduceCtorEq, Nat.reduceEqDiff, implies_true, forall_const, lawV])
                    rw [show (2 + (q : Int)).toNat = 2 + q by omega]
                    exact ⟨by omega, by omega, by omega, (OkD_fast (by kernel_rfl)), rfl⟩)
            · have hs2 : ∀ (f q : Bytes) (hf hq : Bool), splitRest s2 f q hf hq = (⟨[], (authPath s2).1, (authPath s2).2.2, q, f, false, (authPath s2).2.1, hq, hf⟩, 0) := fun f q hf hq => by
                unfold splitRest
                rw [if_neg (by rw [List.drop_of_length_le (by simp at hk3; omega)]; simp)]
              have hl5 := hl2
              (
                (refine callV_pc (p_r1_Prefix (s2) [47, 47]) ?_; simp only [lawG, ↓Xn, ↓Xo, ↓Xg, ↓Xd, ↓Xe, ↓Xf, Tryz.VΓ, Tryz.Γs, Xp, Xi, Nat.reduceAdd, Nat.reduceSub, Nat.reduceLT, Nat.reduceLeDiff, reduceIte, reduceCtorEq, Nat.reduceEqDiff, implies_true, forall_const, lawV])
                cases hpf : Lib.hasPrefix (s2) [47, 47]
                · refine ⟨fun h => (by cases h), fun _ => ?_⟩
                  rw [hs2, authPath_no hpf]; rfl
                · refine ⟨fun _ => ?_, fun h => (by cases h)⟩
                  rw [hs2, authPath_two hpf]
                  have hl6 := hp_len hpf
                  simp only [List.length_cons, List.length_nil] at hl6
                  have px4 := p_r1_Index ((s2).drop 2) [47] (by rw [List.length_drop]; omega) (by simp)
                  rw [pre_one] at px4
                  have hpl := pre_le (· == 47) ((s2).drop 2)
                  rw [List.length_drop] at hpl
                  generalize pre (· == 47) ((s2).drop 2) = q at px4 hpl ⊢
                  refine ⟨by omega, ?_⟩
                  (refine callV_pc (px4) ?_; simp only [lawG, ↓Xn, ↓Xo, ↓Xg, ↓Xd, ↓Xe, ↓Xf, Tryz.VΓ, Tryz.Γs, Xp, Xi, Nat.reduceAdd, Nat.reduceSub, Nat.reduceLT, Nat.reduceLeDiff, reduceIte, reduceCtorEq, Nat.reduceEqDiff, implies_true, forall_const, lawV])
                  rw [show (2 + (q : Int)).toNat = 2 + q by omega]
                  exact ⟨by omega, by omega, by omega, (OkD_fast (by kernel_rfl)), rfl⟩)))
    · have hk1' : ¬ pre (· == 35) s < s.length := by simpa using hk1
      rw [show cutC 35 s = (s, [], false) from if_neg hk1']
      simp only
      have hl1 : s.length ≤ 4294967281 := hs
      generalize s = s1 at hl1 ⊢
      (
        have px2 := p_r1_Index s1 [63] (by omega) (by simp)
        rw [pre_one] at px2
        (refine callV_pc (px2) ?_; simp only [lawG, ↓Xn, ↓Xo, ↓Xg, ↓Xd, ↓Xe, ↓Xf, Tryz.VΓ, Tryz.Γs, Xp, Xi, Nat.reduceAdd, Nat.reduceSub, Nat.reduceLT, Nat.reduceLeDiff, reduceIte, reduceCtorEq, Nat.reduceEqDiff, implies_true, forall_const, lawV])
        refine ⟨fun hk2 => ?_, fun hk2 => ?_⟩
        · have hk2' : pre (· == 63) s1 < s1.length := by simpa using hk2
          rw [show cutC 63 s1 = (s1.take (pre (· == 63) s1), s1.drop (pre (· == 63) s1 + 1), true) from if_pos hk2']
          simp only
          have hl2 : (s1.take (pre (· == 63) s1)).length ≤ 4294967281 := by rw [List.length_take]; omega
          refine ⟨by omega, by omega, by omega, (OkD_fast (by kernel_rfl)), ?_⟩
          generalize s1.take (pre (· == 63) s1) = s2 at hl2 ⊢
          generalize s1.drop (pre (· == 63) s1 + 1) = qu
          (
            have px3 := p_r1_Index s2 [58, 47] (by omega) (by simp)
            rw [show pre (([58, 47] : Bytes).contains ·) s2 = pre colonSlash s2 from rfl] at px3
            (refine callV_pc (px3) ?_; simp only [lawG, ↓Xn, ↓Xo, ↓Xg, ↓Xd, ↓Xe, ↓Xf, Tryz.VΓ, Tryz.Γs, Xp, Xi, Nat.reduceAdd, Nat.reduceSub, Nat.reduceLT, Nat.reduceLeDiff, reduceIte, reduceCtorEq, Nat.reduceEqDiff, implies_true, forall_const, lawV])
            refine ⟨fun hk3 => ?_, fun hk3 => ?_⟩
            · have hp : pre colonSlash s2 < s2.length := by simpa using hk3
              rw [byte_is (n := 58) hp 58 rfl]
              refine ⟨by omega, fun h1 => ⟨by omega, ?_⟩, fun h1 => ?_⟩
              · have hh : (s2.drop (pre colonSlash s2)).head? = some 58 := by
                  rw [List.head?_drop, List.getElem?_eq_getElem hp, beq_iff_eq.1 h1]
                (refine callV_pc (p_r6_scheme _ (by rw [List.length_take]; omega)) ?_; simp only [lawG, ↓Xn, ↓Xo, ↓Xg, ↓Xd, ↓Xe, ↓Xf, Tryz.VΓ, Tryz.Γs, Xp, Xi, Nat.reduceAdd, Nat.reduceSub, Nat.reduceLT, Nat.reduceLeDiff, reduceIte, reduceCtorEq, Nat.reduceEqDiff, implies_true, forall_const, lawV])
                refine ⟨fun h2 => ?_, fun h2 => ?_⟩
                · have hs2 : ∀ (f q : Bytes) (hf hq : Bool), splitRest s2 f q hf hq = (Uri.none, 6) := fun f q hf hq => by
                    unfold splitRest
                    rw [if_pos hh, if_neg (by rw [not_t h2]; simp)]
                  rw [hs2]; rfl
                · have hs2 : ∀ (f q : Bytes) (hf hq : Bool), splitRest s2 f q hf hq = (⟨s2.take (pre colonSlash s2), (authPath (s2.drop (pre colonSlash s2 + 1))).1, (authPath (s2.drop (pre colonSlash s2 + 1))).2.2, q, f, true, (authPath (s2.drop (pre colonSlash s2 + 1))).2.1, hq, hf⟩, 0) := fun f q hf hq => by
                    unfold splitRest
                    rw [if_pos hh, if_pos (not_f h2)]
                  have hl5 : (s2.drop (pre colonSlash s2 + 1)).length ≤ 4294967281 := by rw [List.length_drop]; omega
                  refine ⟨by omega, by omega, by omega, (OkD_fast (by kernel_rfl)), ?_⟩
                  (
                    (refine callV_pc (p_r1_Prefix (s2.drop (pre colonSlash s2 + 1)) [47, 47]) ?_; simp only [lawG, ↓Xn, ↓Xo, ↓Xg, ↓Xd, ↓Xe, ↓Xf, Tryz.VΓ, Tryz.Γs, Xp, Xi, Nat.reduceAdd, Nat.reduceSub, Nat.reduceLT, Nat.reduceLeDiff, reduceIte, reduceCtorEq, Nat.reduceEqDiff, implies_true, forall_const, lawV])
                    cases hpf : Lib.hasPrefix (s2.drop (pre colonSlash s2 + 1)) [47, 47]
                    · refine ⟨fun h => (by cases h), fun _ => ?_⟩
                      rw [hs2, authPath_no hpf]; rfl
                    · refine ⟨fun _ => ?_, fun h => (by cases h)⟩
                      rw [hs2, authPath_two hpf]
                      have hl6 := hp_len hpf
                      simp only [List.length_cons, List.length_nil] at hl6
                      have px4 := p_r1_Index ((s2.drop (pre colonSlash s2 + 1)).drop 2) [47] (by rw [List.length_drop]; omega) (by simp)
                      rw [pre_one] at px4
                      have hpl := pre_le (· == 47) ((s2.drop (pre colonSlash s2 + 1)).drop 2)
                      rw [List.length_drop] at hpl
                      generalize pre (· == 47) ((s2.drop (pre colonSlash s2 + 1)).drop 2) = q at px4 hpl ⊢
                      refine ⟨by omega, ?_⟩
                      (refine callV_pc (px4) ?_; simp only [lawG, ↓Xn, ↓Xo, ↓Xg, ↓Xd, ↓Xe, ↓Xf, Tryz.VΓ, Tryz.Γs, Xp, Xi, Nat.reduceAdd, Nat.reduceSub, Nat.reduceLT, Nat.reduceLeDiff, reduceIte, reduceCtorEq, Nat.reduceEqDiff, implies_true, forall_const, lawV])
                      rw [show (2 + (q : Int)).toNat = 2 + q by omega]
                      exact ⟨by omega, by omega, by omega, (OkD_fast (by kernel_rfl)), rfl⟩)
              · have hs2 : ∀ (f q : Bytes) (hf hq : Bool), splitRest s2 f q hf hq = (⟨[], (authPath s2).1, (authPath s2).2.2, q, f, false, (authPath s2).2.1, hq, hf⟩, 0) := fun f q hf hq => by
                  unfold splitRest
                  rw [if_neg (by rw [List.head?_drop, List.getElem?_eq_getElem hp]; simpa using h1)]
                have hl5 := hl2
                (
                  (refine callV_pc (p_r1_Prefix (s2) [47, 47]) ?_; simp only [lawG, ↓Xn, ↓Xo, ↓Xg, ↓Xd, ↓Xe, ↓Xf, Tryz.VΓ, Tryz.Γs, Xp, Xi, Nat.reduceAdd, Nat.reduceSub, Nat.reduceLT, Nat.reduceLeDiff, reduceIte, reduceCtorEq, Nat.reduceEqDiff, implies_true, forall_const, lawV])
                  cases hpf : Lib.hasPrefix (s2) [47, 47]
                  · refine ⟨fun h => (by cases h), fun _ => ?_⟩
                    rw [hs2, authPath_no hpf]; rfl
                  · refine ⟨fun _ => ?_, fun h => (by cases h)⟩
                    rw [hs2, authPath_two hpf]
                    have hl6 := hp_len hpf
                    simp only [List.length_cons, List.length_nil] at hl6
                    have px4 := p_r1_Index ((s2).drop 2) [47] (by rw [List.length_drop]; omega) (by simp)
                    rw [pre_one] at px4
                    have hpl := pre_le (· == 47) ((s2).drop 2)
                    rw [List.length_drop] at hpl
                    generalize pre (· == 47) ((s2).drop 2) = q at px4 hpl ⊢
                    refine ⟨by omega, ?_⟩
                    (refine callV_pc (px4) ?_; simp only [lawG, ↓Xn, ↓Xo, ↓Xg, ↓Xd, ↓Xe, ↓Xf, Tryz.VΓ, Tryz.Γs, Xp, Xi, Nat.reduceAdd, Nat.reduceSub, Nat.reduceLT, Nat.reduceLeDiff, reduceIte, reduceCtorEq, Nat.reduceEqDiff, implies_true, forall_const, lawV])
                    rw [show (2 + (q : Int)).toNat = 2 + q by omega]
                    exact ⟨by omega, by omega, by omega, (OkD_fast (by kernel_rfl)), rfl⟩)
            · have hs2 : ∀ (f q : Bytes) (hf hq : Bool), splitRest s2 f q hf hq = (⟨[], (authPath s2).1, (authPath s2).2.2, q, f, false, (authPath s2).2.1, hq, hf⟩, 0) := fun f q hf hq => by
                unfold splitRest
                rw [if_neg (by rw [List.drop_of_length_le (by simp at hk3; omega)]; simp)]
              have hl5 := hl2
              (
                (refine callV_pc (p_r1_Prefix (s2) [47, 47]) ?_; simp only [lawG, ↓Xn, ↓Xo, ↓Xg, ↓Xd, ↓Xe, ↓Xf, Tryz.VΓ, Tryz.Γs, Xp, Xi, Nat.reduceAdd, Nat.reduceSub, Nat.reduceLT, Nat.reduceLeDiff, reduceIte, reduceCtorEq, Nat.reduceEqDiff, implies_true, forall_const, lawV])
                cases hpf : Lib.hasPrefix (s2) [47, 47]
                · refine ⟨fun h => (by cases h), fun _ => ?_⟩
                  rw [hs2, authPath_no hpf]; rfl
                · refine ⟨fun _ => ?_, fun h => (by cases h)⟩
                  rw [hs2, authPath_two hpf]
                  have hl6 := hp_len hpf
                  simp only [List.length_cons, List.length_nil] at hl6
                  have px4 := p_r1_Index ((s2).drop 2) [47] (by rw [List.length_drop]; omega) (by simp)
                  rw [pre_one] at px4
                  have hpl := pre_le (· == 47) ((s2).drop 2)
                  rw [List.length_drop] at hpl
                  generalize pre (· == 47) ((s2).drop 2) = q at px4 hpl ⊢
                  refine ⟨by omega, ?_⟩
                  (refine callV_pc (px4) ?_; simp only [lawG, ↓Xn, ↓Xo, ↓Xg, ↓Xd, ↓Xe, ↓Xf, Tryz.VΓ, Tryz.Γs, Xp, Xi, Nat.reduceAdd, Nat.reduceSub, Nat.reduceLT, Nat.reduceLeDiff, reduceIte, reduceCtorEq, Nat.reduceEqDiff, implies_true, forall_const, lawV])
                  rw [show (2 + (q : Int)).toNat = 2 + q by omega]
                  exact ⟨by omega, by omega, by omega, (OkD_fast (by kernel_rfl)), rfl⟩))
        · have hk2' : ¬ pre (· == 63) s1 < s1.length := by simpa using hk2
          rw [show cutC 63 s1 = (s1, [], false) from if_neg hk2']
          simp only
          have hl2 : s1.length ≤ 4294967281 := hl1
          generalize s1 = s2 at hl2 ⊢
          (
            have px3 := p_r1_Index s2 [58, 47] (by omega) (by simp)
            rw [show pre (([58, 47] : Bytes).contains ·) s2 = pre colonSlash s2 from rfl] at px3
            (refine callV_pc (px3) ?_; simp only [lawG, ↓Xn, ↓Xo, ↓Xg, ↓Xd, ↓Xe, ↓Xf, Tryz.VΓ, Tryz.Γs, Xp, Xi, Nat.reduceAdd, Nat.reduceSub, Nat.reduceLT, Nat.reduceLeDiff, reduceIte, reduceCtorEq, Nat.reduceEqDiff, implies_true, forall_const, lawV])
            refine ⟨fun hk3 => ?_, fun hk3 => ?_⟩
            · have hp : pre colonSlash s2 < s2.length := by simpa using hk3
              rw [byte_is (n := 58) hp 58 rfl]
              refine ⟨by omega, fun h1 => ⟨by omega, ?_⟩, fun h1 => ?_⟩
              · have hh : (s2.drop (pre colonSlash s2)).head? = some 58 := by
                  rw [List.head?_drop, List.getElem?_eq_getElem hp, beq_iff_eq.1 h1]
                (refine callV_pc (p_r6_scheme _ (by rw [List.length_take]; omega)) ?_; simp only [lawG, ↓Xn, ↓Xo, ↓Xg, ↓Xd, ↓Xe, ↓Xf, Tryz.VΓ, Tryz.Γs, Xp, Xi, Nat.reduceAdd, Nat.reduceSub, Nat.reduceLT, Nat.reduceLeDiff, reduceIte, reduceCtorEq, Nat.reduceEqDiff, implies_true, forall_const, lawV])
                refine ⟨fun h2 => ?_, fun h2 => ?_⟩
                · have hs2 : ∀ (f q : Bytes) (hf hq : Bool), splitRest s2 f q hf hq = (Uri.none, 6) := fun f q hf hq => by
                    unfold splitRest
                    rw [if_pos hh, if_neg (by rw [not_t h2]; simp)]
                  rw [hs2]; rfl
                · have hs2 : ∀ (f q : Bytes) (hf hq : Bool), splitRest s2 f q hf hq = (⟨s2.take (pre colonSlash s2), (authPath (s2.drop (pre colonSlash s2 + 1))).1, (authPath (s2.drop (pre colonSlash s2 + 1))).2.2, q, f, true, (authPath (s2.drop (pre colonSlash s2 + 1))).2.1, hq, hf⟩, 0) := fun f q hf hq => by
                    unfold splitRest
                    rw [if_pos hh, if_pos (not_f h2)]
                  have hl5 : (s2.drop (pre colonSlash s2 + 1)).length ≤ 4294967281 := by rw [List.length_drop]; omega
                  refine ⟨by omega, by omega, by omega, (OkD_fast (by kernel_rfl)), ?_⟩
                  (
                    (refine callV_pc (p_r1_Prefix (s2.drop (pre colonSlash s2 + 1)) [47, 47]) ?_; simp only [lawG, ↓Xn, ↓Xo, ↓Xg, ↓Xd, ↓Xe, ↓Xf, Tryz.VΓ, Tryz.Γs, Xp, Xi, Nat.reduceAdd, Nat.reduceSub, Nat.reduceLT, Nat.reduceLeDiff, reduceIte, reduceCtorEq, Nat.reduceEqDiff, implies_true, forall_const, lawV])
                    cases hpf : Lib.hasPrefix (s2.drop (pre colonSlash s2 + 1)) [47, 47]
                    · refine ⟨fun h => (by cases h), fun _ => ?_⟩
                      rw [hs2, authPath_no hpf]; rfl
                    · refine ⟨fun _ => ?_, fun h => (by cases h)⟩
                      rw [hs2, authPath_two hpf]
                      have hl6 := hp_len hpf
                      simp only [List.length_cons, List.length_nil] at hl6
                      have px4 := p_r1_Index ((s2.drop (pre colonSlash s2 + 1)).drop 2) [47] (by rw [List.length_drop]; omega) (by simp)
                      rw [pre_one] at px4
                      have hpl := pre_le (· == 47) ((s2.drop (pre colonSlash s2 + 1)).drop 2)
                      rw [List.length_drop] at hpl
                      generalize pre (· == 47) ((s2.drop (pre colonSlash s2 + 1)).drop 2) = q at px4 hpl ⊢
                      refine ⟨by omega, ?_⟩
                      (refine callV_pc (px4) ?_; simp only [lawG, ↓Xn, ↓Xo, ↓Xg, ↓Xd, ↓Xe, ↓Xf, Tryz.VΓ, Tryz.Γs, Xp, Xi, Nat.reduceAdd, Nat.reduceSub, Nat.reduceLT, Nat.reduceLeDiff, reduceIte, reduceCtorEq, Nat.reduceEqDiff, implies_true, forall_const, lawV])
                      rw [show (2 + (q : Int)).toNat = 2 + q by omega]
                      exact ⟨by omega, by omega, by omega, (OkD_fast (by kernel_rfl)), rfl⟩)
              · have hs2 : ∀ (f q : Bytes) (hf hq : Bool), splitRest s2 f q hf hq = (⟨[], (authPath s2).1, (authPath s2).2.2, q, f, false, (authPath s2).2.1, hq, hf⟩, 0) := fun f q hf hq => by
                  unfold splitRest
                  rw [if_neg (by rw [List.head?_drop, List.getElem?_eq_getElem hp]; simpa using h1)]
                have hl5 := hl2
                (
                  (refine callV_pc (p_r1_Prefix (s2) [47, 47]) ?_; simp only [lawG, ↓Xn, ↓Xo, ↓Xg, ↓Xd, ↓Xe, ↓Xf, Tryz.VΓ, Tryz.Γs, Xp, Xi, Nat.reduceAdd, Nat.reduceSub, Nat.reduceLT, Nat.reduceLeDiff, reduceIte, reduceCtorEq, Nat.reduceEqDiff, implies_true, forall_const, lawV])
                  cases hpf : Lib.hasPrefix (s2) [47, 47]
                  · refine ⟨fun h => (by cases h), fun _ => ?_⟩
                    rw [hs2, authPath_no hpf]; rfl
                  · refine ⟨fun _ => ?_, fun h => (by cases h)⟩
                    rw [hs2, authPath_two hpf]
                    have hl6 := hp_len hpf
                    simp only [List.length_cons, List.length_nil] at hl6
                    have px4 := p_r1_Index ((s2).drop 2) [47] (by rw [List.length_drop]; omega) (by simp)
                    rw [pre_one] at px4
                    have hpl := pre_le (· == 47) ((s2).drop 2)
                    rw [List.length_drop] at hpl
                    generalize pre (· == 47) ((s2).drop 2) = q at px4 hpl ⊢
                    refine ⟨by omega, ?_⟩
                    (refine callV_pc (px4) ?_; simp only [lawG, ↓Xn, ↓Xo, ↓Xg, ↓Xd, ↓Xe, ↓Xf, Tryz.VΓ, Tryz.Γs, Xp, Xi, Nat.reduceAdd, Nat.reduceSub, Nat.reduceLT, Nat.reduceLeDiff, reduceIte, reduceCtorEq, Nat.reduceEqDiff, implies_true, forall_const, lawV])
                    rw [show (2 + (q : Int)).toNat = 2 + q by omega]
                    exact ⟨by omega, by omega, by omega, (OkD_fast (by kernel_rfl)), rfl⟩)
            · have hs2 : ∀ (f q : Bytes) (hf hq : Bool), splitRest s2 f q hf hq = (⟨[], (authPath s2).1, (authPath s2).2.2, q, f, false, (authPath s2).2.1, hq, hf⟩, 0) := fun f q hf hq => by
                unfold splitRest
                rw [if_neg (by rw [List.drop_of_length_le (by simp at hk3; omega)]; simp)]
              have hl5 := hl2
              (
                (refine callV_pc (p_r1_Prefix (s2) [47, 47]) ?_; simp only [lawG, ↓Xn, ↓Xo, ↓Xg, ↓Xd, ↓Xe, ↓Xf, Tryz.VΓ, Tryz.Γs, Xp, Xi, Nat.reduceAdd, Nat.reduceSub, Nat.reduceLT, Nat.reduceLeDiff, reduceIte, reduceCtorEq, Nat.reduceEqDiff, implies_true, forall_const, lawV])
                cases hpf : Lib.hasPrefix (s2) [47, 47]
                · refine ⟨fun h => (by cases h), fun _ => ?_⟩
                  rw [hs2, authPath_no hpf]; rfl
                · refine ⟨fun _ => ?_, fun h => (by cases h)⟩
                  rw [hs2, authPath_two hpf]
                  have hl6 := hp_len hpf
                  simp only [List.length_cons, List.length_nil] at hl6
                  have px4 := p_r1_Index ((s2).drop 2) [47] (by rw [List.length_drop]; omega) (by simp)
                  rw [pre_one] at px4
                  have hpl := pre_le (· == 47) ((s2).drop 2)
                  rw [List.length_drop] at hpl
                  generalize pre (· == 47) ((s2).drop 2) = q at px4 hpl ⊢
                  refine ⟨by omega, ?_⟩
                  (refine callV_pc (px4) ?_; simp only [lawG, ↓Xn, ↓Xo, ↓Xg, ↓Xd, ↓Xe, ↓Xf, Tryz.VΓ, Tryz.Γs, Xp, Xi, Nat.reduceAdd, Nat.reduceSub, Nat.reduceLT, Nat.reduceLeDiff, reduceIte, reduceCtorEq, Nat.reduceEqDiff, implies_true, forall_const, lawV])
                  rw [show (2 + (q : Int)).toNat = 2 + q by omega]
                  exact ⟨by omega, by omega, by omega, (OkD_fast (by kernel_rfl)), rfl⟩)))
end Go.Proofs.YtcndmooeglfilaaGreatDoor
/- The walks of the reference for package percent. -/
set_option linter.all false
set_option maxRecDepth 20000
namespace Go.Proofs.YtcndmooeglfilaaGreatDoor
open Go Vc Go.RowKit Wf
theorem p_r1_IsHex (c : UInt8) : PC Tryz.V 135 [.int .u8 c.toNat] (.bool (isHex c)) :=
  ⟨Tryz.call135, by simp [flat, flat.flatL], by simp [flat, flat.flatL], fun w _ => (ref01_IsHex c w).mono fun _ _ ⟨h, k⟩ => ⟨h, below_same k⟩⟩
theorem p_r1_IsUnreserved (c : UInt8) : PC Tryz.V 80 [.int .u8 c.toNat] (.bool (unres c)) := by
  refine pc_of 3000 Tryz.func80 rfl Tryz.ntmps80 Tryz.results80 Tryz.call80 (by simp) (by simp [flat, flat.flatL]) (by simp [flat, flat.flatL]) ?_
  simp only [lawG, ↓Xn, ↓Xo, ↓Xg, ↓Xd, ↓Xe, ↓Xf, Tryz.VΓ, Tryz.Γs, Xp, Xi, Nat.reduceAdd, Nat.reduceSub, Nat.reduceLT, Nat.reduceLeDiff, reduceIte, reduceCtorEq, Nat.reduceEqDiff, implies_true, forall_const, lawV]
  (refine callV_pc (p_r1_IsAlpha c) ?_; simp only [lawG, ↓Xn, ↓Xo, ↓Xg, ↓Xd, ↓Xe, ↓Xf, Tryz.VΓ, Tryz.Γs, Xp, Xi, Nat.reduceAdd, Nat.reduceSub, Nat.reduceLT, Nat.reduceLeDiff, reduceIte, reduceCtorEq, Nat.reduceEqDiff, implies_true, forall_const, lawV])
  refine ⟨fun h => ?_, fun h => ?_⟩
  · (refine callV_pc (p_r1_IsDigit c) ?_; simp only [lawG, ↓Xn, ↓Xo, ↓Xg, ↓Xd, ↓Xe, ↓Xf, Tryz.VΓ, Tryz.Γs, Xp, Xi, Nat.reduceAdd, Nat.reduceSub, Nat.reduceLT, Nat.reduceLeDiff, reduceIte, reduceCtorEq, Nat.reduceEqDiff, implies_true, forall_const, lawV])
    refine ⟨fun h2 => ?_, fun h2 => ?_⟩
    · (refine callV_pc (p_r1_In c [45, 46, 95, 126] (by simp)) ?_; simp only [lawG, ↓Xn, ↓Xo, ↓Xg, ↓Xd, ↓Xe, ↓Xf, Tryz.VΓ, Tryz.Γs, Xp, Xi, Nat.reduceAdd, Nat.reduceSub, Nat.reduceLT, Nat.reduceLeDiff, reduceIte, reduceCtorEq, Nat.reduceEqDiff, implies_true, forall_const, lawV])
      unfold unres; rw [h, h2]; rfl
    · unfold unres; rw [h, h2]; rfl
  · unfold unres; rw [h]; rfl
theorem p_r3_digit (c : UInt8) (hc : isHex c = true) : PC Tryz.V 136 [.int .u8 c.toNat] (.int .u8 (hexVal c)) := by
  have key := all256 (p := fun c => !isHex c || (decide ((c.toNat ≤ 57 → IntKind.u8.wrap ((c.toNat : Int) - 48) = hexVal c) ∧ (57 < c.toNat → c.toNat ≤ 70 → IntKind.u8.wrap (IntKind.u8.wrap ((c.toNat : Int) - 65) + 10) = hexVal c) ∧ (70 < c.toNat → IntKind.u8.wrap (IntKind.u8.wrap ((c.toNat : Int) - 97) + 10) = hexVal c)))) (by decide +kernel) c
  simp only [hc, Bool.not_true, Bool.false_or, decide_eq_true_eq] at key
  obtain ⟨k1, k2, k3⟩ := key
  refine pc_of 3000 Tryz.func136 rfl Tryz.ntmps136 Tryz.results136 Tryz.call136 (by simp) (by simp [flat, flat.flatL]) (by simp [flat, flat.flatL]) ?_
  simp only [lawG, ↓Xn, ↓Xo, ↓Xg, ↓Xd, ↓Xe, ↓Xf, Tryz.VΓ, Tryz.Γs, Xp, Xi, Nat.reduceAdd, Nat.reduceSub, Nat.reduceLT, Nat.reduceLeDiff, reduceIte, reduceCtorEq, Nat.reduceEqDiff, implies_true, forall_const, lawV]
  refine ⟨fun h => ?_, fun h => ⟨fun h2 => ?_, fun h2 => ?_⟩⟩
  · rw [k1 (by simp at h; omega)]
  · rw [k2 (by simp at h; omega) (by simp at h2; omega)]
  · rw [k3 (by simp at h2; omega)]
theorem unhex_arith (a b : UInt8) (ha : isHex a = true) (hb : isHex b = true) : IntKind.u8.wrap (IntKind.u8.wrap (16 * (hexVal a : Int)) + hexVal b) = ((unhex a b).toNat : Int) := by
  have h1 := hexVal_le ha
  have h2 := hexVal_le hb
  have : ∀ x, x < 16 → ∀ y, y < 16 → IntKind.u8.wrap (IntKind.u8.wrap (16 * ((x : Nat) : Int)) + (y : Nat)) = (((x * 16 + y).toUInt8).toNat : Int) := by decide +kernel
  exact this _ (by omega) _ (by omega)
set_option maxRecDepth 20000 in
set_option maxHeartbeats 1000000 in
theorem p_r3_escape (s : Bytes) (i : Nat) (hi : i < s.length) (hp : s[i] = 37) (hs : s.length ≤ 4294967281) : PC Tryz.V 97 [.str s, .int .i64 i] (.tup [.int .u8 (((escAt s i).getD 0).toNat : Int), .bool (escAt s i).isSome]) := by
  have hg : ((s.getD i 0).toNat : Int) = 37 := by rw [show s.getD i 0 = 37 by rw [← hp]; simp [List.getD, hi]]; rfl
  refine pc_of 3000 Tryz.func97 rfl Tryz.ntmps97 Tryz.results97 Tryz.call97 (by simp) (by simp [flat, flat.flatL]) (by simp [flat, flat.flatL]) ?_
  simp (config := { maxSteps := 2000000 }) only [lawG, ↓Xn, ↓Xo, ↓Xg, ↓Xd, ↓Xe, ↓Xf, Tryz.VΓ, Tryz.Γs, Xp, Xi, Nat.reduceAdd, Nat.reduceSub, Nat.reduceLT, Nat.reduceLeDiff, reduceIte, reduceCtorEq, Nat.reduceEqDiff, implies_true, forall_const, lawV, hg, Int.toNat_natCast, beq_self_eq_true, bne_self_eq_false, Int.reduceBEq, Int.reduceBNe, Int.reduceLT, Int.reduceLE]
  unfold escAt
  rw [hexPair_drop]
  refine ⟨⟨by omega, by omega⟩, fun hl => ?_, fun hl => ?_⟩
  · have hl : i + 2 < s.length := (by simp at hl; omega)
    rw [if_pos hl]
    refine ⟨⟨by omega, by omega⟩, ⟨by omega, by omega⟩, ⟨by omega, by omega⟩, ?_⟩
    · skip
      (refine callV_pc (p_r1_IsHex _) ?_; simp only [lawG, ↓Xn, ↓Xo, ↓Xg, ↓Xd, ↓Xe, ↓Xf, Tryz.VΓ, Tryz.Γs, Xp, Xi, Nat.reduceAdd, Nat.reduceSub, Nat.reduceLT, Nat.reduceLeDiff, reduceIte, reduceCtorEq, Nat.reduceEqDiff, implies_true, forall_const, lawV])
      refine ⟨fun ha => ⟨⟨by omega, by omega⟩, ⟨by omega, by omega⟩, ?_⟩, fun ha => ?_⟩
      · have ha : isHex (s.getD (i + 1) 0) = true := by simpa using ha
        (refine callV_pc (p_r1_IsHex _) ?_; simp only [lawG, ↓Xn, ↓Xo, ↓Xg, ↓Xd, ↓Xe, ↓Xf, Tryz.VΓ, Tryz.Γs, Xp, Xi, Nat.reduceAdd, Nat.reduceSub, Nat.reduceLT, Nat.reduceLeDiff, reduceIte, reduceCtorEq, Nat.reduceEqDiff, implies_true, forall_const, lawV])
        refine ⟨fun hb => ?_, fun hb => ⟨⟨by omega, by omega⟩, ⟨by omega, by omega⟩, ?_⟩⟩
        · have hb : isHex (s.getD (i + 2) 0) = false := by simpa using hb
          rw [ha, hb]; rfl
        · have hb : isHex (s.getD (i + 2) 0) = true := by simpa using hb
          (refine callD_pc (p_r3_digit _ ha) ?_; simp only [lawG, ↓Xn, ↓Xo, ↓Xg, ↓Xd, ↓Xe, ↓Xf, Tryz.VΓ, Tryz.Γs, Xp, Xi, Nat.reduceAdd, Nat.reduceSub, Nat.reduceLT, Nat.reduceLeDiff, reduceIte, reduceCtorEq, Nat.reduceEqDiff, implies_true, forall_const, lawV])
          refine ⟨⟨by omega, by omega⟩, ⟨by omega, by omega⟩, ?_⟩
          (refine callD_pc (p_r3_digit _ hb) ?_; simp only [lawG, ↓Xn, ↓Xo, ↓Xg, ↓Xd, ↓Xe, ↓Xf, Tryz.VΓ, Tryz.Γs, Xp, Xi, Nat.reduceAdd, Nat.reduceSub, Nat.reduceLT, Nat.reduceLeDiff, reduceIte, reduceCtorEq, Nat.reduceEqDiff, implies_true, forall_const, lawV])
          refine ⟨(OkD_fast (by kernel_rfl)), ?_⟩
          rw [unhex_arith _ _ ha hb, ha, hb]; rfl
      · have ha : isHex (s.getD (i + 1) 0) = false := by simpa using ha
        rw [ha]; rfl
  · have hl : ¬ i + 2 < s.length := (by simp at hl; omega)
    rw [if_neg hl]; rfl
theorem p_r3_Escape (c : UInt8) : PC Tryz.V 99 [.int .u8 c.toNat] (.str (esc c)) := by
  have hc := c.toNat_lt
  have d1 := digs_at (c.toNat / 16) (by omega)
  have d2 := digs_at (c.toNat % 16) (by omega)
  have key := all256 (p := fun c => decide (divI .quo .u8 (c.toNat : Int) 16 = ((c.toNat / 16 : Nat) : Int) ∧ divI .rem .u8 (c.toNat : Int) 16 = ((c.toNat % 16 : Nat) : Int))) (by decide +kernel) c
  obtain ⟨s1, s2⟩ := of_decide_eq_true key
  have ec := esc_cells c
  have e1 : ([.int .u8 37, .int .u8 ((hexU (c.toNat / 16)).toNat : Int), .int .u8 ((hexU (c.toNat % 16)).toNat : Int)] : List SV).map unU8 = esc c := by rw [← ec, unU8_map]
  refine pc_of 3000 Tryz.func99 rfl Tryz.ntmps99 Tryz.results99 Tryz.call99 (by simp) (by simp [flat, flat.flatL]) (by simp [flat, flat.flatL]) ?_
  simp only [lawG, ↓Xn, ↓Xo, ↓Xg, ↓Xd, ↓Xe, ↓Xf, Tryz.VΓ, Tryz.Γs, Xp, Xi, Nat.reduceAdd, Nat.reduceSub, Nat.reduceLT, Nat.reduceLeDiff, reduceIte, reduceCtorEq, Nat.reduceEqDiff, implies_true, forall_const, lawV, s1, s2, Int.toNat_natCast, d1, d2]
  have e2 : ([.int .u8 37, .int .u8 ((hexU (c.toNat / 16)).toNat : Int), .int .u8 ((hexU (c.toNat % 16)).toNat : Int)] : List SV).all isU8 = true := by rw [← ec, isU8_map]
  simp only [List.map_cons, List.map_nil] at e1
  simp only [List.all_cons, List.all_nil, Bool.and_true] at e2
  exact ⟨by decide, ⟨by omega, by omega⟩, by decide, ⟨by omega, by omega⟩, by omega, e2, (OkD_fast (by kernel_rfl)), by rw [e1]⟩
end Go.Proofs.YtcndmooeglfilaaGreatDoor
/- The walk of the reference's Normalize. -/
set_option linter.all false
set_option maxRecDepth 20000
namespace Go.Proofs.YtcndmooeglfilaaGreatDoor
open Go Vc Go.RowKit Wf
def RnI (also s : Bytes) (σ : St) : Prop := ∃ (i : Nat) (x : SV) (d : Bytes), lk 0 σ.t = some (.str s) ∧ lk 1 σ.t = some (.str also) ∧ lk 6 σ.t = some x ∧ lk 7 σ.t = some (.int .i64 i) ∧ i ≤ s.length ∧ d.length ≤ 3 * i ∧ Sl 5 1 0 x σ.b (d.map u8S) d.length ∧ comb d (normU also (units (s.drop i))) = normU also (units s)
theorem rn_mk {also s : Bytes} {t : List (Nat × SV)} {b : List Res} {i i' : Nat} {x : SV} {d : Bytes} (h0 : lk 0 t = some (.str s)) (h1 : lk 1 t = some (.str also)) (h6 : lk 6 t = some x) (h7 : lk 7 t = some (.int .i64 i')) (h : i' ≤ s.length ∧ d.length ≤ 3 * i') (ht : Sl 5 1 0 x b (d.map u8S) d.length)
    (hn : comb d (normU also (units (s.drop i'))) = normU also (units s)) (hlt : i < i') : RnI also s ⟨t, b⟩ ∧ NoM s ⟨t, b⟩ < s.length - i :=
  ⟨⟨i', x, d, h0, h1, h6, h7, h.1, h.2, ht, hn⟩, by rw [NoM_eq h7]; omega⟩
set_option maxRecDepth 20000 in
set_option maxHeartbeats 4000000 in
theorem p_r3_Normalize (s also : Bytes) (ha : also.length ≤ 1000) : PC Tryz.V 72 [.str s, .str also] (.tup [.str (pctNorm also s).1, .int .i64 (pctNorm also s).2]) := by
  refine pc_of 3000 Tryz.func72 rfl Tryz.ntmps72 Tryz.results72 Tryz.call72 (by simp) (by simp [flat, flat.flatL]) (by simp [flat, flat.flatL]) ?_
  simp only [lawG, ↓Xn, ↓Xo, ↓Xg, ↓Xd, ↓Xe, ↓Xf, Tryz.VΓ, Tryz.Γs, Xp, Xi, Nat.reduceAdd, Nat.reduceSub, Nat.reduceLT, Nat.reduceLeDiff, reduceIte, reduceCtorEq, Nat.reduceEqDiff, implies_true, forall_const, lawV]
  unfold pctNorm
  refine ⟨fun hl => ?_, fun hl => ?_⟩
  · have hl : 16384 < s.length := (by simp at hl; omega)
    rw [if_pos hl]
  have hl : s.length ≤ 16384 := (by simp at hl; omega)
  rw [if_neg (by omega)]
  refine loopV_mk (RnI also s) (NoM s) ⟨0, .nils, [], rfl, rfl, rfl, rfl, by omega, by simp, .inl ⟨rfl, rfl, rfl⟩, comb_nil _ (normU_err also _)⟩ ?_
  rintro ⟨t, b⟩ ⟨i, x, d, h0, h1, h6, h7, hi, hd, ht, hn⟩
  simp only at h0 h1 h6 h7 ht
  rw [NoM_eq h7]
  by_cases hlt : i < s.length
  · have hu := units_step hlt
    have hg : s.getD i 0 = s[i] := by simp [List.getD, hlt]
    simp only [lawG, ↓Xn, ↓Xo, ↓Xg, ↓Xd, ↓Xe, ↓Xf, Tryz.VΓ, Tryz.Γs, Xp, Xi, Nat.reduceAdd, Nat.reduceSub, Nat.reduceLT, Nat.reduceLeDiff, reduceIte, reduceCtorEq, Nat.reduceEqDiff, implies_true, forall_const, lawV, h0, h1, h6, h7]
    refine ⟨fun _ => ⟨⟨by omega, by omega⟩, fun hc => ⟨⟨by omega, by omega⟩, ?_⟩, fun hc => ?_⟩, fun h => absurd h (by simp; omega)⟩
    · have hc : ¬ s[i] = 37 := by
        intro e
        rw [hg, e] at hc
        simp at hc
      rw [if_neg hc] at hu
      rw [hu, normU] at hn
      rw [hg]
      have hn2 : keepB also s[i] = true → comb (d ++ [s[i]]) (normU also (units (s.drop (i + 1)))) = normU also (units s) := fun hk => by
        rw [← hn, if_pos hk, comb_comb]
      (refine callV_pc (p_r1_IsUnreserved s[i]) ?_; simp only [lawG, ↓Xn, ↓Xo, ↓Xg, ↓Xd, ↓Xe, ↓Xf, Tryz.VΓ, Tryz.Γs, Xp, Xi, Nat.reduceAdd, Nat.reduceSub, Nat.reduceLT, Nat.reduceLeDiff, reduceIte, reduceCtorEq, Nat.reduceEqDiff, implies_true, forall_const, lawV, h0, h1, h6, h7, hg])
      refine ⟨fun hq => ⟨⟨by omega, by omega⟩, ?_⟩, fun hq => ⟨⟨by omega, by omega⟩, ?_⟩⟩
      · have hq := not_t hq
        (refine callV_pc (p_r1_In s[i] also (by omega)) ?_; simp only [lawG, ↓Xn, ↓Xo, ↓Xg, ↓Xd, ↓Xe, ↓Xf, Tryz.VΓ, Tryz.Γs, Xp, Xi, Nat.reduceAdd, Nat.reduceSub, Nat.reduceLT, Nat.reduceLeDiff, reduceIte, reduceCtorEq, Nat.reduceEqDiff, implies_true, forall_const, lawV, h0, h1, h6, h7, hg])
        refine ⟨fun hq2 => ?_, fun hq2 => ⟨⟨by omega, by omega⟩, ?_⟩⟩
        · have hq2 := not_t hq2
          have hk : ¬ keepB also s[i] = true := by unfold keepB; rw [hq, hq2]; simp
          rw [if_neg hk] at hn
          have hres : normU also (units s) = ([], 1) := by rw [← hn]; rfl
          rw [hres]
        · have hq2 := not_f hq2
          have hk : keepB also s[i] = true := by unfold keepB; rw [hq2]; simp
          (rcases ht with ⟨rfl, hc0, hn0⟩ | ⟨j, rfl, hLj, hj⟩
           · obtain rfl : d = [] := by simpa using hc0
             simp only [lawG, ↓Xn, ↓Xo, ↓Xg, ↓Xd, ↓Xe, ↓Xf, Tryz.VΓ, Tryz.Γs, Xp, Xi, Nat.reduceAdd, Nat.reduceSub, Nat.reduceLT, Nat.reduceLeDiff, reduceIte, reduceCtorEq, Nat.reduceEqDiff, implies_true, forall_const, lawV, h0, h1, h6, h7, hg, at_new]
             refine ⟨by omega, ⟨by unfold maxLen; omega, by omega⟩, ⟨by omega, by omega⟩, rn_mk (i' := i + 1) (x := .o (b ++ [Res.own [u8S (s[i])] 5 1 1 true]).length 1) (d := [] ++ [s[i]]) h0 h1 rfl (by simp only [lk, reduceIte, Option.some.injEq, SV.int.injEq, true_and]; omega) ⟨by omega, by simp; omega⟩ (.inr ⟨_, rfl, by omega, at_new _ _⟩) (hn2 hk) (by omega)⟩
           · have hjl : j < b.length := (List.getElem?_eq_some_iff.1 hj).1
             have ho : ∀ X, (b ++ [X])[j]? = some (.own (d.map u8S) 5 1 d.length true) := fun X => at_old hj [X]
             simp only [lawG, ↓Xn, ↓Xo, ↓Xg, ↓Xd, ↓Xe, ↓Xf, Tryz.VΓ, Tryz.Γs, Xp, Xi, Nat.reduceAdd, Nat.reduceSub, Nat.reduceLT, Nat.reduceLeDiff, reduceIte, reduceCtorEq, Nat.reduceEqDiff, implies_true, forall_const, lawV, h0, h1, h6, h7, hg, at_new, ho]
             refine ⟨by omega, ⟨by unfold maxLen; omega, by omega⟩, ⟨by omega, by omega⟩, rn_mk (i' := i + 1) (x := .o (b ++ [Res.own [u8S (s[i])] 5 1 1 true]).length (d.length + 1)) (d := d ++ [s[i]]) h0 h1 rfl (by simp only [lk, reduceIte, Option.some.injEq, SV.int.injEq, true_and]; omega) ⟨by omega, by simp; omega⟩ (.inr ⟨(b ++ [Res.own [u8S (s[i])] 5 1 1 true]).length, by simp, by omega, by rw [List.getElem?_append_right (by simp)]; simp [u8S]⟩) (hn2 hk) (by omega)⟩)
      · have hq := not_f hq
        have hk : keepB also s[i] = true := by unfold keepB; rw [hq]; simp
        (rcases ht with ⟨rfl, hc0, hn0⟩ | ⟨j, rfl, hLj, hj⟩
         · obtain rfl : d = [] := by simpa using hc0
           simp only [lawG, ↓Xn, ↓Xo, ↓Xg, ↓Xd, ↓Xe, ↓Xf, Tryz.VΓ, Tryz.Γs, Xp, Xi, Nat.reduceAdd, Nat.reduceSub, Nat.reduceLT, Nat.reduceLeDiff, reduceIte, reduceCtorEq, Nat.reduceEqDiff, implies_true, forall_const, lawV, h0, h1, h6, h7, hg, at_new]
           refine ⟨by omega, ⟨by unfold maxLen; omega, by omega⟩, ⟨by omega, by omega⟩, rn_mk (i' := i + 1) (x := .o (b ++ [Res.own [u8S (s[i])] 5 1 1 true]).length 1) (d := [] ++ [s[i]]) h0 h1 rfl (by simp only [lk, reduceIte, Option.some.injEq, SV.int.injEq, true_and]; omega) ⟨by omega, by simp; omega⟩ (.inr ⟨_, rfl, by omega, at_new _ _⟩) (hn2 hk) (by omega)⟩
         · have hjl : j < b.length := (List.getElem?_eq_some_iff.1 hj).1
           have ho : ∀ X, (b ++ [X])[j]? = some (.own (d.map u8S) 5 1 d.length true) := fun X => at_old hj [X]
           simp only [lawG, ↓Xn, ↓Xo, ↓Xg, ↓Xd, ↓Xe, ↓Xf, Tryz.VΓ, Tryz.Γs, Xp, Xi, Nat.reduceAdd, Nat.reduceSub, Nat.reduceLT, Nat.reduceLeDiff, reduceIte, reduceCtorEq, Nat.reduceEqDiff, implies_true, forall_const, lawV, h0, h1, h6, h7, hg, at_new, ho]
           refine ⟨by omega, ⟨by unfold maxLen; omega, by omega⟩, ⟨by omega, by omega⟩, rn_mk (i' := i + 1) (x := .o (b ++ [Res.own [u8S (s[i])] 5 1 1 true]).length (d.length + 1)) (d := d ++ [s[i]]) h0 h1 rfl (by simp only [lk, reduceIte, Option.some.injEq, SV.int.injEq, true_and]; omega) ⟨by omega, by simp; omega⟩ (.inr ⟨(b ++ [Res.own [u8S (s[i])] 5 1 1 true]).length, by simp, by omega, by rw [List.getElem?_append_right (by simp)]; simp [u8S]⟩) (hn2 hk) (by omega)⟩)
    · have hc : s[i] = 37 := by
        have : s.getD i 0 = 37 := by
          rw [← UInt8.toNat_inj]
          have e37 : (37 : UInt8).toNat = 37 := rfl
          have h2 := bne_eq_false_iff_eq.1 hc
          omega
        rw [← hg]; exact this
      rw [if_pos hc] at hu
      have pe := p_r3_escape s i hlt hc (by omega)
      cases he : escAt s i with
      | none =>
        rw [he] at pe hu
        simp only at hu
        rw [hu] at hn
        have hres : normU also (units s) = ([], 2) := by rw [← hn]; rfl
        rw [hres]
        (refine callV_pc pe ?_; simp only [lawG, ↓Xn, ↓Xo, ↓Xg, ↓Xd, ↓Xe, ↓Xf, Tryz.VΓ, Tryz.Γs, Xp, Xi, Nat.reduceAdd, Nat.reduceSub, Nat.reduceLT, Nat.reduceLeDiff, reduceIte, reduceCtorEq, Nat.reduceEqDiff, implies_true, forall_const, lawV, h0, h1, h6, h7, Option.isSome_none])
      | some v =>
        rw [he] at pe hu
        have hx := he
        unfold escAt at hx
        obtain ⟨⟨a, bb, r⟩, hp, hv⟩ := Option.map_eq_some_iff.1 hx
        simp only at hv
        rw [hp] at hu
        simp only at hu
        have hi3 : i + 3 ≤ s.length := by
          obtain ⟨h1, -, -⟩ := hexPair_some hp
          have := congrArg List.length h1
          simp at this
          omega
        have hn2 : comb (d ++ normB v) (normU also (units (s.drop (i + 2 + 1)))) = normU also (units s) := by
          rw [← hn, hu, normU, comb_comb, hv]
        simp only [Option.getD_some, Option.isSome_some] at pe
        (refine callV_pc pe ?_; simp only [lawG, ↓Xn, ↓Xo, ↓Xg, ↓Xd, ↓Xe, ↓Xf, Tryz.VΓ, Tryz.Γs, Xp, Xi, Nat.reduceAdd, Nat.reduceSub, Nat.reduceLT, Nat.reduceLeDiff, reduceIte, reduceCtorEq, Nat.reduceEqDiff, implies_true, forall_const, lawV, h0, h1, h6, h7])
        (refine callV_pc (p_r1_IsUnreserved v) ?_; simp only [lawG, ↓Xn, ↓Xo, ↓Xg, ↓Xd, ↓Xe, ↓Xf, Tryz.VΓ, Tryz.Γs, Xp, Xi, Nat.reduceAdd, Nat.reduceSub, Nat.reduceLT, Nat.reduceLeDiff, reduceIte, reduceCtorEq, Nat.reduceEqDiff, implies_true, forall_const, lawV, h0, h1, h6, h7])
        refine ⟨fun hq => ?_, fun hq => ?_⟩
        · have hn3 : comb (d ++ [v]) (normU also (units (s.drop (i + 2 + 1)))) = normU also (units s) := by
            rw [← hn2]; unfold normB; rw [if_pos hq]
          (rcases ht with ⟨rfl, hc0, hn0⟩ | ⟨j, rfl, hLj, hj⟩
           · obtain rfl : d = [] := by simpa using hc0
             simp only [lawG, ↓Xn, ↓Xo, ↓Xg, ↓Xd, ↓Xe, ↓Xf, Tryz.VΓ, Tryz.Γs, Xp, Xi, Nat.reduceAdd, Nat.reduceSub, Nat.reduceLT, Nat.reduceLeDiff, reduceIte, reduceCtorEq, Nat.reduceEqDiff, implies_true, forall_const, lawV, h0, h1, h6, h7, hg, at_new]
             refine ⟨by omega, ⟨by unfold maxLen; omega, by omega⟩, ⟨by omega, by omega⟩, ⟨by omega, by omega⟩, rn_mk (i' := i + 2 + 1) (x := .o (b ++ [Res.own [u8S (v)] 5 1 1 true]).length 1) (d := [] ++ [v]) h0 h1 rfl (by simp only [lk, reduceIte, Option.some.injEq, SV.int.injEq, true_and]; omega) ⟨by omega, by simp; omega⟩ (.inr ⟨_, rfl, by omega, at_new _ _⟩) (hn3) (by omega)⟩
           · have hjl : j < b.length := (List.getElem?_eq_some_iff.1 hj).1
             have ho : ∀ X, (b ++ [X])[j]? = some (.own (d.map u8S) 5 1 d.length true) := fun X => at_old hj [X]
             simp only [lawG, ↓Xn, ↓Xo, ↓Xg, ↓Xd, ↓Xe, ↓Xf, Tryz.VΓ, Tryz.Γs, Xp, Xi, Nat.reduceAdd, Nat.reduceSub, Nat.reduceLT, Nat.reduceLeDiff, reduceIte, reduceCtorEq, Nat.reduceEqDiff, implies_true, forall_const, lawV, h0, h1, h6, h7, hg, at_new, ho]
             refine ⟨by omega, ⟨by unfold maxLen; omega, by omega⟩, ⟨by omega, by omega⟩, ⟨by omega, by omega⟩, rn_mk (i' := i + 2 + 1) (x := .o (b ++ [Res.own [u8S (v)] 5 1 1 true]).length (d.length + 1)) (d := d ++ [v]) h0 h1 rfl (by simp only [lk, reduceIte, Option.some.injEq, SV.int.injEq, true_and]; omega) ⟨by omega, by simp; omega⟩ (.inr ⟨(b ++ [Res.own [u8S (v)] 5 1 1 true]).length, by simp, by omega, by rw [List.getElem?_append_right (by simp)]; simp [u8S]⟩) (hn3) (by omega)⟩)
        · have hn3 : comb (d ++ esc v) (normU also (units (s.drop (i + 2 + 1)))) = normU also (units s) := by
            rw [← hn2]; unfold normB; rw [if_neg (by simp [hq])]
          (refine callV_pc (p_r3_Escape v) ?_; simp only [lawG, ↓Xn, ↓Xo, ↓Xg, ↓Xd, ↓Xe, ↓Xf, Tryz.VΓ, Tryz.Γs, Xp, Xi, Nat.reduceAdd, Nat.reduceSub, Nat.reduceLT, Nat.reduceLeDiff, reduceIte, reduceCtorEq, Nat.reduceEqDiff, implies_true, forall_const, lawV, h0, h1, h6, h7])
          rcases ht with ⟨rfl, hc0, hn0⟩ | ⟨j, rfl, hLj, hj⟩
          · obtain rfl : d = [] := by simpa using hc0
            simp only [lawG, ↓Xn, ↓Xo, ↓Xg, ↓Xd, ↓Xe, ↓Xf, Tryz.VΓ, Tryz.Γs, Xp, Xi, Nat.reduceAdd, Nat.reduceSub, Nat.reduceLT, Nat.reduceLeDiff, reduceIte, reduceCtorEq, Nat.reduceEqDiff, implies_true, forall_const, lawV, h0, h1, h6, h7]
            exact ⟨⟨one_u8 _, by simp [esc]; unfold maxLen; omega, by simp [esc]⟩, ⟨by omega, by omega⟩, ⟨by omega, by omega⟩, rn_mk (i' := i + 2 + 1) (d := [] ++ esc v) h0 h1 rfl (by simp only [lk, reduceIte, Option.some.injEq, SV.int.injEq, true_and]; omega) ⟨by omega, by simp [esc]; omega⟩ (.inr ⟨b.length, rfl, by omega, at_new _ _⟩) hn3 (by omega)⟩
          · simp only [lawG, ↓Xn, ↓Xo, ↓Xg, ↓Xd, ↓Xe, ↓Xf, Tryz.VΓ, Tryz.Γs, Xp, Xi, Nat.reduceAdd, Nat.reduceSub, Nat.reduceLT, Nat.reduceLeDiff, reduceIte, reduceCtorEq, Nat.reduceEqDiff, implies_true, forall_const, lawV, h0, h1, h6, h7, hj]
            exact ⟨⟨one_u8 _, by simp [esc]; unfold maxLen; omega, by simp [esc]; omega⟩, ⟨by omega, by omega⟩, ⟨by omega, by omega⟩, rn_mk (i' := i + 2 + 1) (d := d ++ esc v) h0 h1 rfl (by simp only [lk, reduceIte, Option.some.injEq, SV.int.injEq, true_and]; omega) ⟨by omega, by simp [esc]; omega⟩ (.inr ⟨b.length, by simp, by omega, by rw [List.getElem?_append_right (by simp)]; simp⟩) hn3 (by omega)⟩
  · have hie : i = s.length := by omega
    subst hie
    rw [List.drop_length, units_nil] at hn
    have hres : normU also (units s) = (d, 0) := by rw [← hn]; simp [normU, comb]
    rw [hres]
    rcases ht with ⟨rfl, hc0, hn0⟩ | ⟨j, rfl, hLj, hj⟩
    · obtain rfl : d = [] := by simpa using hc0
      simp only [lawG, ↓Xn, ↓Xo, ↓Xg, ↓Xd, ↓Xe, ↓Xf, Tryz.VΓ, Tryz.Γs, Xp, Xi, Nat.reduceAdd, Nat.reduceSub, Nat.reduceLT, Nat.reduceLeDiff, reduceIte, reduceCtorEq, Nat.reduceEqDiff, implies_true, forall_const, lawV, h0, h1, h6, h7]
      exact fun h => absurd h (by simp)
    · simp only [lawG, ↓Xn, ↓Xo, ↓Xg, ↓Xd, ↓Xe, ↓Xf, Tryz.VΓ, Tryz.Γs, Xp, Xi, Nat.reduceAdd, Nat.reduceSub, Nat.reduceLT, Nat.reduceLeDiff, reduceIte, reduceCtorEq, Nat.reduceEqDiff, implies_true, forall_const, lawV, h0, h1, h6, h7, hj]
      refine ⟨fun h => absurd h (by simp), fun _ => ⟨isU8_map d, ?_⟩⟩
      rw [unU8_map]
end Go.Proofs.YtcndmooeglfilaaGreatDoor
/- The walk of the reference's Parse. -/
set_option linter.all false
set_option maxRecDepth 20000
namespace Go.Proofs.YtcndmooeglfilaaGreatDoor
open Go Vc Go.RowKit Wf
set_option linter.unusedSimpArgs false
set_option maxRecDepth 20000 in
set_option maxHeartbeats 4000000 in
theorem p_r7_Parse (s : Bytes) : PC Tryz.V 26 [.str s] (.tup [wsv (urlParse s).1, .int .i64 (urlParse s).2]) := by
  refine pc_of 3000 Tryz.func26 rfl Tryz.ntmps26 Tryz.results26 Tryz.call26 (by simp) (by simp [flat, flat.flatL]) (by simp [flat, flat.flatL, wsv]) ?_
  simp only [lawG, ↓Xn, ↓Xo, ↓Xg, ↓Xd, ↓Xe, ↓Xf, Tryz.VΓ, Tryz.Γs, Xp, Xi, Nat.reduceAdd, Nat.reduceSub, Nat.reduceLT, Nat.reduceLeDiff, reduceIte, reduceCtorEq, Nat.reduceEqDiff, implies_true, forall_const, lawV]
  refine ⟨fun h => ?_, fun h => ?_⟩
  · have : urlParse s = (Url.none, 5) := if_pos (by simp at h; omega)
    rw [this]; rfl
  have hl : ¬ 4096 < s.length := (by simp at h; omega)
  have hq : urlParse s = if (uriSplit s).2 ≠ 0 then (Url.none, (uriSplit s).2) else urlOf (uriSplit s).1 := if_neg hl
  rw [hq]
  have ps := p_r6_Split s
  unfold usv at ps
  have hp := split_path s
  have hz := split_size s
  revert ps hp hz
  generalize uriSplit s = us
  obtain ⟨r, c⟩ := us
  intro ps hp hz
  simp only at ps hp hz
  simp only
  unfold Uri.size at hz
  have pl := p_r1_Equal r.scheme https (by omega) (by decide)
  have pn := p_r1_Index r.authority [64] (by omega) (by decide)
  have hpm := pre_mem r.authority 64
  have hpl := pre_le (· == 64) r.authority
  rw [show (List.contains [64] · : UInt8 → Bool) = (· == 64) from by funext c; simp; exact (Bool.beq_eq_decide_eq _ _).symm] at pn
  have ph := p_r5_Parse r.authority (by omega)
  have p1 := p_r3_Normalize r.path inPath (by decide)
  have p2 := p_r3_Normalize r.query inQuery (by decide)
  have p3 := p_r3_Normalize r.fragment inQuery (by decide)
  (refine callV_pc (ps) ?_; simp only [lawG, ↓Xn, ↓Xo, ↓Xg, ↓Xd, ↓Xe, ↓Xf, Tryz.VΓ, Tryz.Γs, Xp, Xi, Nat.reduceAdd, Nat.reduceSub, Nat.reduceLT, Nat.reduceLeDiff, reduceIte, reduceCtorEq, Nat.reduceEqDiff, implies_true, forall_const, lawV])
  refine ⟨fun h1 => ?_, fun h1 => ?_⟩
  · rw [if_pos (by simpa using h1)]; rfl
  rw [if_neg (by simpa using h1)]
  unfold urlOf
  cases hsc : r.hasScheme
  · simp only [lawG, ↓Xn, ↓Xo, ↓Xg, ↓Xd, ↓Xe, ↓Xf, Tryz.VΓ, Tryz.Γs, Xp, Xi, Nat.reduceAdd, Nat.reduceSub, Nat.reduceLT, Nat.reduceLeDiff, reduceIte, reduceCtorEq, Nat.reduceEqDiff, implies_true, forall_const, lawV, hsc]
    rw [if_pos (.inl trivial)]; rfl
  simp only [lawG, ↓Xn, ↓Xo, ↓Xg, ↓Xd, ↓Xe, ↓Xf, Tryz.VΓ, Tryz.Γs, Xp, Xi, Nat.reduceAdd, Nat.reduceSub, Nat.reduceLT, Nat.reduceLeDiff, reduceIte, reduceCtorEq, Nat.reduceEqDiff, implies_true, forall_const, lawV, hsc]
  rw [show lower https = https by decide] at pl
  (refine callV_pc pl ?_; simp only [lawG, ↓Xn, ↓Xo, ↓Xg, ↓Xd, ↓Xe, ↓Xf, Tryz.VΓ, Tryz.Γs, Xp, Xi, Nat.reduceAdd, Nat.reduceSub, Nat.reduceLT, Nat.reduceLeDiff, reduceIte, reduceCtorEq, Nat.reduceEqDiff, implies_true, forall_const, lawV, hsc])
  refine ⟨fun h2 => ?_, fun h2 => ?_⟩
  · rw [if_pos (.inr (by simpa using h2))]; rfl
  rw [if_neg (by simpa using h2)]
  cases hau : r.hasAuthority
  · simp only [lawG, ↓Xn, ↓Xo, ↓Xg, ↓Xd, ↓Xe, ↓Xf, Tryz.VΓ, Tryz.Γs, Xp, Xi, Nat.reduceAdd, Nat.reduceSub, Nat.reduceLT, Nat.reduceLeDiff, reduceIte, reduceCtorEq, Nat.reduceEqDiff, implies_true, forall_const, lawV, hau]
    rfl
  simp only [lawG, ↓Xn, ↓Xo, ↓Xg, ↓Xd, ↓Xe, ↓Xf, Tryz.VΓ, Tryz.Γs, Xp, Xi, Nat.reduceAdd, Nat.reduceSub, Nat.reduceLT, Nat.reduceLeDiff, reduceIte, reduceCtorEq, Nat.reduceEqDiff, implies_true, forall_const, lawV, hau]
  (refine callD_pc pn ?_; simp only [lawG, ↓Xn, ↓Xo, ↓Xg, ↓Xd, ↓Xe, ↓Xf, Tryz.VΓ, Tryz.Γs, Xp, Xi, Nat.reduceAdd, Nat.reduceSub, Nat.reduceLT, Nat.reduceLeDiff, reduceIte, reduceCtorEq, Nat.reduceEqDiff, implies_true, forall_const, lawV, hau])
  refine ⟨(OkD_fast (by kernel_rfl)), fun h3 => ?_, fun h3 => ?_⟩
  · rw [if_pos (hpm.1 (by simp at h3; omega))]; rfl
  rw [if_neg (fun k => absurd (hpm.2 k) (by simp at h3; omega))]
  unfold urlParts
  (refine callV_pc ph ?_; simp only [lawG, ↓Xn, ↓Xo, ↓Xg, ↓Xd, ↓Xe, ↓Xf, Tryz.VΓ, Tryz.Γs, Xp, Xi, Nat.reduceAdd, Nat.reduceSub, Nat.reduceLT, Nat.reduceLeDiff, reduceIte, reduceCtorEq, Nat.reduceEqDiff, implies_true, forall_const, lawV, hau])
  refine ⟨fun h4 => ?_, fun h4 => ?_⟩
  · rw [if_pos (by simpa using h4)]; rfl
  rw [if_neg (by simpa using h4)]
  have hN1 := pctNorm_len inPath r.path
  have hN2 := pctNorm_len inQuery r.query
  have hN3 := pctNorm_len inQuery r.fragment
  have hH := hostPort_ok r.authority (by simpa using h4)
  have p4 := p_r6_RemoveDots (pctNorm inPath r.path).1 (by omega)
  have hD := removeDots_len (pctNorm inPath r.path).1
  generalize pctNorm inPath r.path = n1 at p1 p4 hN1 hD ⊢
  generalize pctNorm inQuery r.query = n2 at p2 hN2 ⊢
  generalize pctNorm inQuery r.fragment = n3 at p3 hN3 ⊢
  generalize (hostPort r.authority).1 = hp at hH ⊢
  obtain ⟨n1, e1⟩ := n1
  obtain ⟨n2, e2⟩ := n2
  obtain ⟨n3, e3⟩ := n3
  obtain ⟨hh, pp⟩ := hp
  simp only at p1 p2 p3 p4 hN1 hN2 hN3 hH hD ⊢
  (refine callV_pc p1 ?_; simp only [lawG, ↓Xn, ↓Xo, ↓Xg, ↓Xd, ↓Xe, ↓Xf, Tryz.VΓ, Tryz.Γs, Xp, Xi, Nat.reduceAdd, Nat.reduceSub, Nat.reduceLT, Nat.reduceLeDiff, reduceIte, reduceCtorEq, Nat.reduceEqDiff, implies_true, forall_const, lawV])
  refine ⟨fun h5 => ?_, fun h5 => ?_⟩
  · rw [if_pos (by simpa using h5)]; rfl
  rw [if_neg (by simpa using h5)]
  (refine callV_pc p2 ?_; simp only [lawG, ↓Xn, ↓Xo, ↓Xg, ↓Xd, ↓Xe, ↓Xf, Tryz.VΓ, Tryz.Γs, Xp, Xi, Nat.reduceAdd, Nat.reduceSub, Nat.reduceLT, Nat.reduceLeDiff, reduceIte, reduceCtorEq, Nat.reduceEqDiff, implies_true, forall_const, lawV])
  refine ⟨fun h6 => ?_, fun h6 => ?_⟩
  · rw [if_pos (by simpa using h6)]; rfl
  rw [if_neg (by simpa using h6)]
  (refine callV_pc p3 ?_; simp only [lawG, ↓Xn, ↓Xo, ↓Xg, ↓Xd, ↓Xe, ↓Xf, Tryz.VΓ, Tryz.Γs, Xp, Xi, Nat.reduceAdd, Nat.reduceSub, Nat.reduceLT, Nat.reduceLeDiff, reduceIte, reduceCtorEq, Nat.reduceEqDiff, implies_true, forall_const, lawV])
  refine ⟨fun h7 => ?_, fun h7 => ?_⟩
  · rw [if_pos (by simpa using h7)]; rfl
  rw [if_neg (by simpa using h7)]
  unfold urlEnd
  (refine callV_pc p4 ?_; simp only [lawG, ↓Xn, ↓Xo, ↓Xg, ↓Xd, ↓Xe, ↓Xf, Tryz.VΓ, Tryz.Γs, Xp, Xi, Nat.reduceAdd, Nat.reduceSub, Nat.reduceLT, Nat.reduceLeDiff, reduceIte, reduceCtorEq, Nat.reduceEqDiff, implies_true, forall_const, lawV])
  generalize removeDots n1 = d at hD ⊢
  have fin : ∀ d' : Bytes, d'.length ≤ 4096 * 6 → PC Tryz.V 48 [wsv ⟨hh, pp, d', n2, n3, r.hasQuery, r.hasFrag⟩] (.str (urlText ⟨hh, pp, d', n2, n3, r.hasQuery, r.hasFrag⟩)) := fun d' hd' =>
    p_r7_Format _ ⟨by simp only; omega, by simp only; omega, by simp only; omega⟩
  unfold wsv at fin
  refine ⟨fun h8 => ?_, fun h8 => ?_⟩
  · have f1 := fin [47] (by decide)
    have h8' : d = [] := by simpa using h8
    rw [if_pos h8']
    (refine callV_pc f1 ?_; simp only [lawG, ↓Xn, ↓Xo, ↓Xg, ↓Xd, ↓Xe, ↓Xf, Tryz.VΓ, Tryz.Γs, Xp, Xi, Nat.reduceAdd, Nat.reduceSub, Nat.reduceLT, Nat.reduceLeDiff, reduceIte, reduceCtorEq, Nat.reduceEqDiff, implies_true, forall_const, lawV])
    refine ⟨fun h9 => ?_, fun h9 => ?_⟩
    · rw [if_pos (by simp at h9; omega)]; rfl
    · rw [if_neg (by simp at h9; omega)]; rfl
  · have f1 := fin d (by omega)
    have h8' : ¬ d = [] := by simpa using h8
    rw [if_neg h8']
    (refine callV_pc f1 ?_; simp only [lawG, ↓Xn, ↓Xo, ↓Xg, ↓Xd, ↓Xe, ↓Xf, Tryz.VΓ, Tryz.Γs, Xp, Xi, Nat.reduceAdd, Nat.reduceSub, Nat.reduceLT, Nat.reduceLeDiff, reduceIte, reduceCtorEq, Nat.reduceEqDiff, implies_true, forall_const, lawV])
    refine ⟨fun h9 => ?_, fun h9 => ?_⟩
    · rw [if_pos (by simp at h9; omega)]; rfl
    · rw [if_neg (by simp at h9; omega)]; rfl
end Go.Proofs.YtcndmooeglfilaaGreatDoor
/- The walks of Valid and Relative. -/
set_option linter.all false
set_option maxRecDepth 20000
namespace Go.Proofs.YtcndmooeglfilaaGreatDoor
open Go Vc Go.RowKit Wf
set_option linter.unusedSimpArgs false
set_option maxRecDepth 20000 in
set_option maxHeartbeats 2000000 in
theorem p_url_Valid (u : Url) (hk : Fair u) : PC Tryz.V 76 [wsv u] (.bool (urlValid u)) := by
  have pf := p_url_Format u hk
  have pp := p_url_Parse (urlText u)
  unfold wsv at pf pp
  (refine pc_of 3000 Tryz.func76 rfl Tryz.ntmps76 Tryz.results76 Tryz.call76 (by simp) (by simp [flat, flat.flatL, wsv]) (by simp [flat, flat.flatL, wsv]) ?_
   unfold wsv
   simp only [lawG, ↓Xn, ↓Xo, ↓Xg, ↓Xd, ↓Xe, ↓Xf, Tryz.VΓ, Tryz.Γs, Xp, Xi, Nat.reduceAdd, Nat.reduceSub, Nat.reduceLT, Nat.reduceLeDiff, reduceIte, reduceCtorEq, Nat.reduceEqDiff, implies_true, forall_const, lawV])
  (refine callV_pc (pf) ?_; simp only [lawG, ↓Xn, ↓Xo, ↓Xg, ↓Xd, ↓Xe, ↓Xf, Tryz.VΓ, Tryz.Γs, Xp, Xi, Nat.reduceAdd, Nat.reduceSub, Nat.reduceLT, Nat.reduceLeDiff, reduceIte, reduceCtorEq, Nat.reduceEqDiff, implies_true, forall_const, lawV])
  (refine callV_pc (pp) ?_; simp only [lawG, ↓Xn, ↓Xo, ↓Xg, ↓Xd, ↓Xe, ↓Xf, Tryz.VΓ, Tryz.Γs, Xp, Xi, Nat.reduceAdd, Nat.reduceSub, Nat.reduceLT, Nat.reduceLeDiff, reduceIte, reduceCtorEq, Nat.reduceEqDiff, implies_true, forall_const, lawV])
  unfold urlValid
  generalize urlParse (urlText u) = x
  obtain ⟨⟨a, b, c, d, e, f, g⟩, y⟩ := x
  obtain ⟨a', b', c', d', e', f', g'⟩ := u
  simp only [eqS, eqB, eqK, eqK.eqF]
  refine ⟨fun h => ?_, fun h => ?_⟩
  · obtain rfl : y = 0 := by simpa using h
    congr 1
    rw [Bool.eq_iff_iff]
    simp only [Bool.and_eq_true, beq_iff_eq, decide_eq_true_eq, Prod.mk.injEq, Url.mk.injEq, and_true]
    constructor <;> (rintro ⟨rfl, rfl, rfl, rfl, rfl, rfl, rfl⟩; exact ⟨rfl, rfl, rfl, rfl, rfl, rfl, rfl⟩)
  · congr 1
    exact (decide_eq_false (fun k => by rw [(Prod.mk.inj k).2] at h; simp at h)).symm
set_option maxRecDepth 20000 in
set_option maxHeartbeats 2000000 in
theorem p_r7_Valid (u : Url) (hk : Fair u) : PC Tryz.V 18 [wsv u] (.bool (urlValid u)) := by
  have pf := p_r7_Format u hk
  have pp := p_r7_Parse (urlText u)
  unfold wsv at pf pp
  (refine pc_of 3000 Tryz.func18 rfl Tryz.ntmps18 Tryz.results18 Tryz.call18 (by simp) (by simp [flat, flat.flatL, wsv]) (by simp [flat, flat.flatL, wsv]) ?_
   unfold wsv
   simp only [lawG, ↓Xn, ↓Xo, ↓Xg, ↓Xd, ↓Xe, ↓Xf, Tryz.VΓ, Tryz.Γs, Xp, Xi, Nat.reduceAdd, Nat.reduceSub, Nat.reduceLT, Nat.reduceLeDiff, reduceIte, reduceCtorEq, Nat.reduceEqDiff, implies_true, forall_const, lawV])
  (refine callV_pc (pf) ?_; simp only [lawG, ↓Xn, ↓Xo, ↓Xg, ↓Xd, ↓Xe, ↓Xf, Tryz.VΓ, Tryz.Γs, Xp, Xi, Nat.reduceAdd, Nat.reduceSub, Nat.reduceLT, Nat.reduceLeDiff, reduceIte, reduceCtorEq, Nat.reduceEqDiff, implies_true, forall_const, lawV])
  (refine callV_pc (pp) ?_; simp only [lawG, ↓Xn, ↓Xo, ↓Xg, ↓Xd, ↓Xe, ↓Xf, Tryz.VΓ, Tryz.Γs, Xp, Xi, Nat.reduceAdd, Nat.reduceSub, Nat.reduceLT, Nat.reduceLeDiff, reduceIte, reduceCtorEq, Nat.reduceEqDiff, implies_true, forall_const, lawV])
  unfold urlValid
  generalize urlParse (urlText u) = x
  obtain ⟨⟨a, b, c, d, e, f, g⟩, y⟩ := x
  obtain ⟨a', b', c', d', e', f', g'⟩ := u
  simp only [eqS, eqB, eqK, eqK.eqF]
  refine ⟨fun h => ?_, fun h => ?_⟩
  · obtain rfl : y = 0 := by simpa using h
    congr 1
    rw [Bool.eq_iff_iff]
    simp only [Bool.and_eq_true, beq_iff_eq, decide_eq_true_eq, Prod.mk.injEq, Url.mk.injEq, and_true]
    constructor <;> (rintro ⟨rfl, rfl, rfl, rfl, rfl, rfl, rfl⟩; exact ⟨rfl, rfl, rfl, rfl, rfl, rfl, rfl⟩)
  · congr 1
    exact (decide_eq_false (fun k => by rw [(Prod.mk.inj k).2] at h; simp at h)).symm
end Go.Proofs.YtcndmooeglfilaaGreatDoor
/- The walks of Relative. -/
set_option linter.all false
set_option maxRecDepth 20000
namespace Go.Proofs.YtcndmooeglfilaaGreatDoor
open Go Vc Go.RowKit Wf
set_option linter.unusedSimpArgs false
def wsvR (u : Url) : SV := wsv u
theorem split_cap (s : Bytes) : Uri.size (uriSplit s).1 ≤ 100000 := by
  by_cases h : 16384 < s.length
  · rw [show uriSplit s = (Uri.none, 5) from if_pos h]; decide
  · have := split_size s; omega
theorem resolve_size (b r : Uri) : Uri.size (uriResolve b r) ≤ 2 * (Uri.size b + Uri.size r) + 2 := by
  have h1 := removeDots_len r.path
  have h2 := removeDots_len (uriMerge b r)
  have h3 : (uriMerge b r).length ≤ b.path.length + r.path.length + 1 := by
    have := uriMerge_len b r
    omega
  unfold uriResolve
  split
  · simp [Uri.size]; omega
  split
  · simp [Uri.size]; omega
  split
  · split <;> (simp [Uri.size]; omega)
  · simp [Uri.size]; omega
set_option maxRecDepth 20000 in
set_option maxHeartbeats 4000000 in
theorem p_url_Relative (u : Url) (ref : Bytes) (hk : Fair u) : PC Tryz.V 66 [wsv u, .str ref] (.tup [wsv (urlRelative u ref).1, .int .i64 (urlRelative u ref).2]) := by
  show PC _ _ _ (.tup [wsvR (urlRelative u ref).1, .int .i64 (urlRelative u ref).2])
  have pf := p_url_Format u hk
  have hvd := p_url_Valid u hk
  have s1 := p_uri_Split (urlText u)
  have s2 := p_uri_Split ref
  have z1 := split_cap (urlText u)
  have z2 := split_cap ref
  have pr := p_uri_Resolve (uriSplit (urlText u)).1 (uriSplit ref).1 (by unfold Uri.size at z1; omega) (by unfold Uri.size at z2; omega)
  have hz := resolve_size (uriSplit (urlText u)).1 (uriSplit ref).1
  unfold wsv at pf hvd
  unfold usv at s1 s2 pr
  (refine pc_of 3000 Tryz.func66 rfl Tryz.ntmps66 Tryz.results66 Tryz.call66 (by simp) (by simp [flat, flat.flatL, wsv]) (by simp [flat, flat.flatL, wsv, wsvR]) ?_
   unfold wsv
   simp only [lawG, ↓Xn, ↓Xo, ↓Xg, ↓Xd, ↓Xe, ↓Xf, Tryz.VΓ, Tryz.Γs, Xp, Xi, Nat.reduceAdd, Nat.reduceSub, Nat.reduceLT, Nat.reduceLeDiff, reduceIte, reduceCtorEq, Nat.reduceEqDiff, implies_true, forall_const, lawV])
  unfold urlRelative
  (refine callV_pc (hvd) ?_; simp only [lawG, ↓Xn, ↓Xo, ↓Xg, ↓Xd, ↓Xe, ↓Xf, Tryz.VΓ, Tryz.Γs, Xp, Xi, Nat.reduceAdd, Nat.reduceSub, Nat.reduceLT, Nat.reduceLeDiff, reduceIte, reduceCtorEq, Nat.reduceEqDiff, implies_true, forall_const, lawV])
  cases hv : urlValid u
  · simp only [lawG, ↓Xn, ↓Xo, ↓Xg, ↓Xd, ↓Xe, ↓Xf, Tryz.VΓ, Tryz.Γs, Xp, Xi, Nat.reduceAdd, Nat.reduceSub, Nat.reduceLT, Nat.reduceLeDiff, reduceIte, reduceCtorEq, Nat.reduceEqDiff, implies_true, forall_const, lawV]
    rfl
  simp only [lawG, ↓Xn, ↓Xo, ↓Xg, ↓Xd, ↓Xe, ↓Xf, Tryz.VΓ, Tryz.Γs, Xp, Xi, Nat.reduceAdd, Nat.reduceSub, Nat.reduceLT, Nat.reduceLeDiff, reduceIte, reduceCtorEq, Nat.reduceEqDiff, implies_true, forall_const, lawV]
  (refine callV_pc (pf) ?_; simp only [lawG, ↓Xn, ↓Xo, ↓Xg, ↓Xd, ↓Xe, ↓Xf, Tryz.VΓ, Tryz.Γs, Xp, Xi, Nat.reduceAdd, Nat.reduceSub, Nat.reduceLT, Nat.reduceLeDiff, reduceIte, reduceCtorEq, Nat.reduceEqDiff, implies_true, forall_const, lawV])
  (refine callV_pc (s1) ?_; simp only [lawG, ↓Xn, ↓Xo, ↓Xg, ↓Xd, ↓Xe, ↓Xf, Tryz.VΓ, Tryz.Γs, Xp, Xi, Nat.reduceAdd, Nat.reduceSub, Nat.reduceLT, Nat.reduceLeDiff, reduceIte, reduceCtorEq, Nat.reduceEqDiff, implies_true, forall_const, lawV])
  (refine callV_pc (s2) ?_; simp only [lawG, ↓Xn, ↓Xo, ↓Xg, ↓Xd, ↓Xe, ↓Xf, Tryz.VΓ, Tryz.Γs, Xp, Xi, Nat.reduceAdd, Nat.reduceSub, Nat.reduceLT, Nat.reduceLeDiff, reduceIte, reduceCtorEq, Nat.reduceEqDiff, implies_true, forall_const, lawV])
  refine ⟨fun h1 => ?_, fun h1 => ?_⟩
  · rw [if_pos (by simpa using h1)]; rfl
  rw [if_neg (by simpa using h1)]
  generalize uriSplit (urlText u) = b at *
  generalize uriSplit ref = r at *
  (refine callV_pc (pr) ?_; simp only [lawG, ↓Xn, ↓Xo, ↓Xg, ↓Xd, ↓Xe, ↓Xf, Tryz.VΓ, Tryz.Γs, Xp, Xi, Nat.reduceAdd, Nat.reduceSub, Nat.reduceLT, Nat.reduceLeDiff, reduceIte, reduceCtorEq, Nat.reduceEqDiff, implies_true, forall_const, lawV])
  generalize uriResolve b.1 r.1 = q at *
  have pl := p_Equal q.scheme https (by unfold Uri.size at hz z1 z2; omega) (by decide)
  rw [show lower https = https by decide] at pl
  have pj := p_uri_Join q (by unfold Uri.size at *; omega)
  have pp := p_url_Parse (uriJoin q)
  unfold usv at pj
  unfold wsv at pp
  (refine callV_pc (pl) ?_; simp only [lawG, ↓Xn, ↓Xo, ↓Xg, ↓Xd, ↓Xe, ↓Xf, Tryz.VΓ, Tryz.Γs, Xp, Xi, Nat.reduceAdd, Nat.reduceSub, Nat.reduceLT, Nat.reduceLeDiff, reduceIte, reduceCtorEq, Nat.reduceEqDiff, implies_true, forall_const, lawV])
  refine ⟨fun h2 => ?_, fun h2 => ?_⟩
  · rw [if_pos (by simpa using h2)]; rfl
  rw [if_neg (by simpa using h2)]
  (refine callV_pc (pj) ?_; simp only [lawG, ↓Xn, ↓Xo, ↓Xg, ↓Xd, ↓Xe, ↓Xf, Tryz.VΓ, Tryz.Γs, Xp, Xi, Nat.reduceAdd, Nat.reduceSub, Nat.reduceLT, Nat.reduceLeDiff, reduceIte, reduceCtorEq, Nat.reduceEqDiff, implies_true, forall_const, lawV])
  (refine callV_pc (pp) ?_; simp only [lawG, ↓Xn, ↓Xo, ↓Xg, ↓Xd, ↓Xe, ↓Xf, Tryz.VΓ, Tryz.Γs, Xp, Xi, Nat.reduceAdd, Nat.reduceSub, Nat.reduceLT, Nat.reduceLeDiff, reduceIte, reduceCtorEq, Nat.reduceEqDiff, implies_true, forall_const, lawV])
  rfl
set_option maxRecDepth 20000 in
set_option maxHeartbeats 4000000 in
theorem p_r7_Relative (u : Url) (ref : Bytes) (hk : Fair u) : PC Tryz.V 27 [wsv u, .str ref] (.tup [wsv (urlRelative u ref).1, .int .i64 (urlRelative u ref).2]) := by
  show PC _ _ _ (.tup [wsvR (urlRelative u ref).1, .int .i64 (urlRelative u ref).2])
  have pf := p_r7_Format u hk
  have hvd := p_r7_Valid u hk
  have s1 := p_r6_Split (urlText u)
  have s2 := p_r6_Split ref
  have z1 := split_cap (urlText u)
  have z2 := split_cap ref
  have pr := p_r6_Resolve (uriSplit (urlText u)).1 (uriSplit ref).1 (by unfold Uri.size at z1; omega) (by unfold Uri.size at z2; omega)
  have hz := resolve_size (uriSplit (urlText u)).1 (uriSplit ref).1
  unfold wsv at pf hvd
  unfold usv at s1 s2 pr
  (refine pc_of 3000 Tryz.func27 rfl Tryz.ntmps27 Tryz.results27 Tryz.call27 (by simp) (by simp [flat, flat.flatL, wsv]) (by simp [flat, flat.flatL, wsv, wsvR]) ?_
   unfold wsv
   simp only [lawG, ↓Xn, ↓Xo, ↓Xg, ↓Xd, ↓Xe, ↓Xf, Tryz.VΓ, Tryz.Γs, Xp, Xi, Nat.reduceAdd, Nat.reduceSub, Nat.reduceLT, Nat.reduceLeDiff, reduceIte, reduceCtorEq, Nat.reduceEqDiff, implies_true, forall_const, lawV])
  unfold urlRelative
  (refine callV_pc (hvd) ?_; simp only [lawG, ↓Xn, ↓Xo, ↓Xg, ↓Xd, ↓Xe, ↓Xf, Tryz.VΓ, Tryz.Γs, Xp, Xi, Nat.reduceAdd, Nat.reduceSub, Nat.reduceLT, Nat.reduceLeDiff, reduceIte, reduceCtorEq, Nat.reduceEqDiff, implies_true, forall_const, lawV])
  cases hv : urlValid u
  · simp only [lawG, ↓Xn, ↓Xo, ↓Xg, ↓Xd, ↓Xe, ↓Xf, Tryz.VΓ, Tryz.Γs, Xp, Xi, Nat.reduceAdd, Nat.reduceSub, Nat.reduceLT, Nat.reduceLeDiff, reduceIte, reduceCtorEq, Nat.reduceEqDiff, implies_true, forall_const, lawV]
    rfl
  simp only [lawG, ↓Xn, ↓Xo, ↓Xg, ↓Xd, ↓Xe, ↓Xf, Tryz.VΓ, Tryz.Γs, Xp, Xi, Nat.reduceAdd, Nat.reduceSub, Nat.reduceLT, Nat.reduceLeDiff, reduceIte, reduceCtorEq, Nat.reduceEqDiff, implies_true, forall_const, lawV]
  (refine callV_pc (pf) ?_; simp only [lawG, ↓Xn, ↓Xo, ↓Xg, ↓Xd, ↓Xe, ↓Xf, Tryz.VΓ, Tryz.Γs, Xp, Xi, Nat.reduceAdd, Nat.reduceSub, Nat.reduceLT, Nat.reduceLeDiff, reduceIte, reduceCtorEq, Nat.reduceEqDiff, implies_true, forall_const, lawV])
  (refine callV_pc (s1) ?_; simp only [lawG, ↓Xn, ↓Xo, ↓Xg, ↓Xd, ↓Xe, ↓Xf, Tryz.VΓ, Tryz.Γs, Xp, Xi, Nat.reduceAdd, Nat.reduceSub, Nat.reduceLT, Nat.reduceLeDiff, reduceIte, reduceCtorEq, Nat.reduceEqDiff, implies_true, forall_const, lawV])
  (refine callV_pc (s2) ?_; simp only [lawG, ↓Xn, ↓Xo, ↓Xg, ↓Xd, ↓Xe, ↓Xf, Tryz.VΓ, Tryz.Γs, Xp, Xi, Nat.reduceAdd, Nat.reduceSub, Nat.reduceLT, Nat.reduceLeDiff, reduceIte, reduceCtorEq, Nat.reduceEqDiff, implies_true, forall_const, lawV])
  refine ⟨fun h1 => ?_, fun h1 => ?_⟩
  · rw [if_pos (by simpa using h1)]; rfl
  rw [if_neg (by simpa using h1)]
  generalize uriSplit (urlText u) = b at *
  generalize uriSplit ref = r at *
  (refine callV_pc (pr) ?_; simp only [lawG, ↓Xn, ↓Xo, ↓Xg, ↓Xd, ↓Xe, ↓Xf, Tryz.VΓ, Tryz.Γs, Xp, Xi, Nat.reduceAdd, Nat.reduceSub, Nat.reduceLT, Nat.reduceLeDiff, reduceIte, reduceCtorEq, Nat.reduceEqDiff, implies_true, forall_const, lawV])
  generalize uriResolve b.1 r.1 = q at *
  have pl := p_r1_Equal q.scheme https (by unfold Uri.size at hz z1 z2; omega) (by decide)
  rw [show lower https = https by decide] at pl
  have pj := p_r6_Join q (by unfold Uri.size at *; omega)
  have pp := p_r7_Parse (uriJoin q)
  unfold usv at pj
  unfold wsv at pp
  (refine callV_pc (pl) ?_; simp only [lawG, ↓Xn, ↓Xo, ↓Xg, ↓Xd, ↓Xe, ↓Xf, Tryz.VΓ, Tryz.Γs, Xp, Xi, Nat.reduceAdd, Nat.reduceSub, Nat.reduceLT, Nat.reduceLeDiff, reduceIte, reduceCtorEq, Nat.reduceEqDiff, implies_true, forall_const, lawV])
  refine ⟨fun h2 => ?_, fun h2 => ?_⟩
  · rw [if_pos (by simpa using h2)]; rfl
  rw [if_neg (by simpa using h2)]
  (refine callV_pc (pj) ?_; simp only [lawG, ↓Xn, ↓Xo, ↓Xg, ↓Xd, ↓Xe, ↓Xf, Tryz.VΓ, Tryz.Γs, Xp, Xi, Nat.reduceAdd, Nat.reduceSub, Nat.reduceLT, Nat.reduceLeDiff, reduceIte, reduceCtorEq, Nat.reduceEqDiff, implies_true, forall_const, lawV])
  (refine callV_pc (pp) ?_; simp only [lawG, ↓Xn, ↓Xo, ↓Xg, ↓Xd, ↓Xe, ↓Xf, Tryz.VΓ, Tryz.Γs, Xp, Xi, Nat.reduceAdd, Nat.reduceSub, Nat.reduceLT, Nat.reduceLeDiff, reduceIte, reduceCtorEq, Nat.reduceEqDiff, implies_true, forall_const, lawV])
  rfl
end Go.Proofs.YtcndmooeglfilaaGreatDoor
/- The walks of redirects. -/
set_option linter.all false
set_option maxRecDepth 20000
namespace Go.Proofs.YtcndmooeglfilaaGreatDoor
open Go Vc Go.RowKit Wf
set_option linter.unusedSimpArgs false
def uc (u : Url) : List SV := [.str u.host, .int .i64 u.port, .str u.path, .str u.query, .str u.fragment, .bool u.hasQuery, .bool u.hasFrag]
def fc (f : Bytes × Bytes) : List SV := [.str f.1, .str f.2]
theorem rows_at {ρ : Type} (cl : ρ → List SV) (s : Nat) (hs : ∀ r, (cl r).length = s) : ∀ (L : List ρ) (k : Nat) (h : k < L.length), ((L.flatMap cl).drop (k * s)).take s = cl L[k]
  | [], k, h => by simp at h
  | r :: L, 0, _ => by
    have := hs r
    simp [List.take_append, List.take_of_length_le (Nat.le_of_eq this), this]
  | r :: L, k + 1, h => by
    have h1 := hs r
    have h2 : ((r :: L).flatMap cl).drop ((k + 1) * s) = (L.flatMap cl).drop (k * s) := by
      rw [List.flatMap_cons, List.drop_append, List.drop_of_length_le (by rw [Nat.add_mul]; omega), List.nil_append, show (k + 1) * s - (cl r).length = k * s by rw [Nat.add_mul]; omega]
    rw [h2]
    simpa using rows_at cl s hs L k (by simpa using h)
theorem rows_len {ρ : Type} (cl : ρ → List SV) (s : Nat) (hs : ∀ r, (cl r).length = s) : ∀ (L : List ρ), (L.flatMap cl).length = L.length * s
  | [] => by simp
  | r :: L => by rw [List.flatMap_cons, List.length_append, hs r, rows_len cl s hs L, List.length_cons, Nat.add_mul]; omega
theorem uc_at (L : List Url) (k : Nat) (h : k < L.length) : ((L.flatMap uc).drop (k * 7)).take 7 = uc L[k] := rows_at uc 7 (fun _ => rfl) L k h
theorem fc_at (L : List (Bytes × Bytes)) (k : Nat) (h : k < L.length) : ((L.flatMap fc).drop (k * 2)).take 2 = fc L[k] := rows_at fc 2 (fun _ => rfl) L k h
theorem uc_len (L : List Url) : (L.flatMap uc).length = L.length * 7 := rows_len uc 7 (fun _ => rfl) L
theorem fc_len (L : List (Bytes × Bytes)) : (L.flatMap fc).length = L.length * 2 := rows_len fc 2 (fun _ => rfl) L
def Sq (e s : Nat) (x : SV) (b : List Res) (c : List SV) (n : Nat) : Prop := (x = .nils ∧ c = [] ∧ n = 0) ∨ ∃ j m, x = .o j n ∧ b[j]? = some (.own c e s n m)
theorem p_redir_Is (n : Int) : PC Tryz.V 24 [.int .i64 n] (.bool (redirSt n)) := by
  unfold redirSt
  refine pc_of 3000 Tryz.func24 rfl Tryz.ntmps24 Tryz.results24 Tryz.call24 (by simp) (by simp [flat, flat.flatL]) (by simp [flat, flat.flatL]) ?_
  simp only [lawG, ↓Xn, ↓Xo, ↓Xg, ↓Xd, ↓Xe, ↓Xf, Tryz.VΓ, Tryz.Γs, Xp, Xi, Nat.reduceAdd, Nat.reduceSub, Nat.reduceLT, Nat.reduceLeDiff, reduceIte, reduceCtorEq, Nat.reduceEqDiff, implies_true, forall_const, lawV]
  cases h1 : n == 301 <;> cases h2 : n == 302 <;> cases h3 : n == 303 <;> cases h4 : n == 307 <;> cases h5 : n == 308 <;> simp
theorem p_r25_Is (n : Int) : PC Tryz.V 25 [.int .i64 n] (.bool (redirSt n)) := by
  have h : redirSt n = (decide (301 ≤ n) && decide (n ≤ 303) || n == 307 || n == 308) := by
    unfold redirSt
    rw [Bool.eq_iff_iff]
    simp
    omega
  rw [h]
  refine pc_of 3000 Tryz.func25 rfl Tryz.ntmps25 Tryz.results25 Tryz.call25 (by simp) (by simp [flat, flat.flatL]) (by simp [flat, flat.flatL]) ?_
  simp only [lawG, ↓Xn, ↓Xo, ↓Xg, ↓Xd, ↓Xe, ↓Xf, Tryz.VΓ, Tryz.Γs, Xp, Xi, Nat.reduceAdd, Nat.reduceSub, Nat.reduceLT, Nat.reduceLeDiff, reduceIte, reduceCtorEq, Nat.reduceEqDiff, implies_true, forall_const, lawV]
  cases h1 : decide (301 ≤ n) <;> cases h2 : decide (n ≤ 303) <;> cases h4 : n == 307 <;> cases h5 : n == 308 <;> simp
set_option maxHeartbeats 2000000 in
theorem sc_head_Values {bs : List Res} {j : Nat} {fs : List (Bytes × Bytes)} {m : Bool} (hj : bs[j]? = some (.own (fs.flatMap fc) 86 2 fs.length m)) (hn : fs.length ≤ 1000000) (hl : ∀ f ∈ fs, f.1.length ≤ 9223372036854775807) (name : Bytes) (hname : name.length ≤ 9223372036854775807) (a c : Int) :
    SC Tryz.V 65 [.agg [.int .i64 a, .int .i64 c, .o j fs.length], .str name] bs (fun r b => Kp bs b ∧ Sl 9 1 bs.length r b ((hdrVals fs name).map .str) (hdrVals fs name).length) := by
  have hjl : j < bs.length := (List.getElem?_eq_some_iff.1 hj).1
  refine sc_of 3000 Tryz.func65 rfl Tryz.ntmps65 Tryz.results65 Tryz.call65 (by simp) (fun β β' hb => concL_within bs.length _ (by simp [within, within.withinL, hjl]) β β' hb) ?_
  simp only [lawG, ↓Xn, ↓Xo, ↓Xg, ↓Xd, ↓Xe, ↓Xf, Tryz.VΓ, Tryz.Γs, Xp, Xi, Nat.reduceAdd, Nat.reduceSub, Nat.reduceLT, Nat.reduceLeDiff, reduceIte, reduceCtorEq, Nat.reduceEqDiff, implies_true, forall_const, lawV, lawB]
  have hp := at_old hj [.cells [.int .i64 a, .int .i64 c, .o j fs.length] 40 true]
  refine loopV_mk (fun σ => ∃ (k : Nat) (x : SV), k ≤ fs.length ∧ lk 1 σ.t = some (.str name) ∧ lk 5 σ.t = some x ∧ lk 9 σ.t = some (.o j fs.length) ∧ lk 10 σ.t = some (.int .i64 fs.length) ∧ lk 11 σ.t = some (.int .i64 k) ∧ σ.b[j]? = some (.own (fs.flatMap fc) 86 2 fs.length m) ∧
    Kp bs σ.b ∧ Sl 9 1 bs.length x σ.b ((hdrVals (fs.take k) name).map .str) (hdrVals (fs.take k) name).length) (fun σ => fs.length - lkI 11 σ) ⟨0, .nils, by omega, rfl, rfl, rfl, rfl, rfl, hp, (Kp.refl _).app _, .inl ⟨rfl, rfl, rfl⟩⟩ ?_
  rintro ⟨t, b⟩ ⟨k, x, hk, h1, h5, h9, h10, h11, hb, hkp, hsl⟩
  simp only at h1 h5 h9 h10 h11 hb hkp hsl
  rw [lkI_eq h11]
  by_cases hlt : k < fs.length
  · have hu := fc_at fs k hlt
    have hul := fc_len fs
    have hx := hdrVals_take hlt name
    have hll := hdrVals_len (fs.take k) name
    rw [List.length_take] at hll
    have he := p_Equal fs[k].1 name (hl _ (List.getElem_mem hlt)) hname
    unfold fc at hb hu hul
    rcases hsl with ⟨rfl, hc0, hn0⟩ | ⟨i, rfl, hLi, hi⟩
    · simp only [lawG, ↓Xn, ↓Xo, ↓Xg, ↓Xd, ↓Xe, ↓Xf, Tryz.VΓ, Tryz.Γs, Xp, Xi, Nat.reduceAdd, Nat.reduceSub, Nat.reduceLT, Nat.reduceLeDiff, reduceIte, reduceCtorEq, Nat.reduceEqDiff, implies_true, forall_const, lawV, h1, h5, h9, h10, h11, hb, hu, hul, lawB, Int.toNat_natCast]
      refine ⟨fun _ => ⟨⟨by omega, by omega⟩, by omega, ?_⟩, fun h => absurd h (by simp; omega)⟩
      have hb1 := fun X => at_old hb [X]
      have hb2 := fun X Y => at_old (hb1 X) [Y]
      have hb3 := fun X Y Z => at_old (hb2 X Y) [Z]
      (refine callV_pc (he) ?_; simp only [lawG, ↓Xn, ↓Xo, ↓Xg, ↓Xd, ↓Xe, ↓Xf, Tryz.VΓ, Tryz.Γs, Xp, Xi, Nat.reduceAdd, Nat.reduceSub, Nat.reduceLT, Nat.reduceLeDiff, reduceIte, reduceCtorEq, Nat.reduceEqDiff, implies_true, forall_const, lawV, h1, h5, h9, h10, h11, hb, lawB, hb1, hb2, hb3])
      refine ⟨fun hq => ⟨by omega, ⟨by unfold maxLen; omega, by omega⟩, ⟨by omega, by omega⟩, ⟨k + 1, _, by omega, rfl, rfl, rfl, ((hkp.app _).app _).app _, .inr ⟨(b ++ [Res.cells [.str fs[k].1, .str fs[k].2] 86 true] ++ [Res.own [.str fs[k].2] 9 1 1 true]).length, ?_, ?_, ?_⟩⟩, ?_⟩, fun hq => ⟨⟨by omega, by omega⟩, ⟨k + 1, _, by omega, rfl, rfl, rfl, hkp.app _, .inl ⟨rfl, ?_, ?_⟩⟩, ?_⟩⟩
      · rw [hx, if_pos (by simpa using hq), List.length_eq_zero_iff.1 hn0]; rfl
      · have := hkp.1; simp; omega
      · rw [hx, if_pos (by simpa using hq), List.length_eq_zero_iff.1 hn0, at_new]; rfl
      · rw [lkI_eq (k := .i64) (n := (k : Int) + 1) rfl]; omega
      · rw [hx, if_neg (by simpa using hq), List.append_nil]; exact hc0
      · rw [hx, if_neg (by simpa using hq), List.append_nil]; exact hn0
      · rw [lkI_eq (k := .i64) (n := (k : Int) + 1) rfl]; omega
    · simp only [lawG, ↓Xn, ↓Xo, ↓Xg, ↓Xd, ↓Xe, ↓Xf, Tryz.VΓ, Tryz.Γs, Xp, Xi, Nat.reduceAdd, Nat.reduceSub, Nat.reduceLT, Nat.reduceLeDiff, reduceIte, reduceCtorEq, Nat.reduceEqDiff, implies_true, forall_const, lawV, h1, h5, h9, h10, h11, hb, hu, hul, lawB, Int.toNat_natCast]
      refine ⟨fun _ => ⟨⟨by omega, by omega⟩, by omega, ?_⟩, fun h => absurd h (by simp; omega)⟩
      have hi1 := fun X => at_old hi [X]
      have hi2 := fun X Y => at_old (hi1 X) [Y]
      have hb1 := fun X => at_old hb [X]
      (refine callV_pc (he) ?_; simp only [lawG, ↓Xn, ↓Xo, ↓Xg, ↓Xd, ↓Xe, ↓Xf, Tryz.VΓ, Tryz.Γs, Xp, Xi, Nat.reduceAdd, Nat.reduceSub, Nat.reduceLT, Nat.reduceLeDiff, reduceIte, reduceCtorEq, Nat.reduceEqDiff, implies_true, forall_const, lawV, h1, h5, h9, h10, h11, hb, lawB, hi, hi1, hi2])
      have hK := fun X => ((((hkp.app [.cells [.str fs[k].1, .str fs[k].2] 86 true]).app [.own [.str fs[k].2] 9 1 1 true]).set hLi .gone).app [X])
      refine ⟨fun hq => ⟨by omega, ⟨by unfold maxLen; omega, by omega⟩, ⟨by omega, by omega⟩, ⟨k + 1, _, by omega, rfl, rfl, (hK _).at hj, hK _, .inr ⟨(b ++ [Res.cells [.str fs[k].1, .str fs[k].2] 86 true] ++ [Res.own [.str fs[k].2] 9 1 1 true]).length, ?_, ?_, ?_⟩⟩, ?_⟩, fun hq => ⟨⟨by omega, by omega⟩, ⟨k + 1, _, by omega, rfl, rfl, (hkp.app _).at hj, hkp.app _, .inr ⟨i, ?_, hLi, ?_⟩⟩, ?_⟩⟩
      · rw [hx, if_pos (by simpa using hq)]; simp
      · have := hkp.1; simp; omega
      · rw [hx, if_pos (by simpa using hq), List.map_append, List.getElem?_append_right (by simp)]; simp
      · rw [lkI_eq (k := .i64) (n := (k : Int) + 1) rfl]; omega
      · rw [hx, if_neg (by simpa using hq), List.append_nil]
      · rw [hx, if_neg (by simpa using hq), List.append_nil]; exact hi1 _
      · rw [lkI_eq (k := .i64) (n := (k : Int) + 1) rfl]; omega
  · have hie : k = fs.length := by omega
    subst hie
    rw [List.take_length] at hsl
    simp only [lawG, ↓Xn, ↓Xo, ↓Xg, ↓Xd, ↓Xe, ↓Xf, Tryz.VΓ, Tryz.Γs, Xp, Xi, Nat.reduceAdd, Nat.reduceSub, Nat.reduceLT, Nat.reduceLeDiff, reduceIte, reduceCtorEq, Nat.reduceEqDiff, implies_true, forall_const, lawV, h1, h5, h9, h10, h11, hb]
    exact ⟨fun h => absurd h (by simp), fun _ => ⟨hkp, hsl⟩⟩
set_option maxHeartbeats 2000000 in
theorem sc_r18_Values {bs : List Res} {j : Nat} {fs : List (Bytes × Bytes)} {m : Bool} (hj : bs[j]? = some (.own (fs.flatMap fc) 86 2 fs.length m)) (hn : fs.length ≤ 1000000) (hl : ∀ f ∈ fs, f.1.length ≤ 9223372036854775807) (name : Bytes) (hname : name.length ≤ 9223372036854775807) (a c : Int) :
    SC Tryz.V 68 [.agg [.int .i64 a, .int .i64 c, .o j fs.length], .str name] bs (fun r b => Kp bs b ∧ Sl 9 1 bs.length r b ((hdrVals fs name).map .str) (hdrVals fs name).length) := by
  have hjl : j < bs.length := (List.getElem?_eq_some_iff.1 hj).1
  refine sc_of 3000 Tryz.func68 rfl Tryz.ntmps68 Tryz.results68 Tryz.call68 (by simp) (fun β β' hb => concL_within bs.length _ (by simp [within, within.withinL, hjl]) β β' hb) ?_
  simp only [lawG, ↓Xn, ↓Xo, ↓Xg, ↓Xd, ↓Xe, ↓Xf, Tryz.VΓ, Tryz.Γs, Xp, Xi, Nat.reduceAdd, Nat.reduceSub, Nat.reduceLT, Nat.reduceLeDiff, reduceIte, reduceCtorEq, Nat.reduceEqDiff, implies_true, forall_const, lawV, lawB]
  have hp := at_old hj [.cells [.int .i64 a, .int .i64 c, .o j fs.length] 40 true]
  refine loopV_mk (fun σ => ∃ (k : Nat) (x : SV), k ≤ fs.length ∧ lk 1 σ.t = some (.str name) ∧ lk 5 σ.t = some x ∧ lk 9 σ.t = some (.o j fs.length) ∧ lk 10 σ.t = some (.int .i64 fs.length) ∧ lk 11 σ.t = some (.int .i64 k) ∧ σ.b[j]? = some (.own (fs.flatMap fc) 86 2 fs.length m) ∧
    Kp bs σ.b ∧ Sl 9 1 bs.length x σ.b ((hdrVals (fs.take k) name).map .str) (hdrVals (fs.take k) name).length) (fun σ => fs.length - lkI 11 σ) ⟨0, .nils, by omega, rfl, rfl, rfl, rfl, rfl, hp, (Kp.refl _).app _, .inl ⟨rfl, rfl, rfl⟩⟩ ?_
  rintro ⟨t, b⟩ ⟨k, x, hk, h1, h5, h9, h10, h11, hb, hkp, hsl⟩
  simp only at h1 h5 h9 h10 h11 hb hkp hsl
  rw [lkI_eq h11]
  by_cases hlt : k < fs.length
  · have hu := fc_at fs k hlt
    have hul := fc_len fs
    have hx := hdrVals_take hlt name
    have hll := hdrVals_len (fs.take k) name
    rw [List.length_take] at hll
    have he := p_r1_Equal fs[k].1 name (hl _ (List.getElem_mem hlt)) hname
    unfold fc at hb hu hul
    rcases hsl with ⟨rfl, hc0, hn0⟩ | ⟨i, rfl, hLi, hi⟩
    · simp only [lawG, ↓Xn, ↓Xo, ↓Xg, ↓Xd, ↓Xe, ↓Xf, Tryz.VΓ, Tryz.Γs, Xp, Xi, Nat.reduceAdd, Nat.reduceSub, Nat.reduceLT, Nat.reduceLeDiff, reduceIte, reduceCtorEq, Nat.reduceEqDiff, implies_true, forall_const, lawV, h1, h5, h9, h10, h11, hb, hu, hul, lawB, Int.toNat_natCast]
      refine ⟨fun _ => ⟨⟨by omega, by omega⟩, by omega, ?_⟩, fun h => absurd h (by simp; omega)⟩
      have hb1 := fun X => at_old hb [X]
      have hb2 := fun X Y => at_old (hb1 X) [Y]
      have hb3 := fun X Y Z => at_old (hb2 X Y) [Z]
      (refine callV_pc (he) ?_; simp only [lawG, ↓Xn, ↓Xo, ↓Xg, ↓Xd, ↓Xe, ↓Xf, Tryz.VΓ, Tryz.Γs, Xp, Xi, Nat.reduceAdd, Nat.reduceSub, Nat.reduceLT, Nat.reduceLeDiff, reduceIte, reduceCtorEq, Nat.reduceEqDiff, implies_true, forall_const, lawV, h1, h5, h9, h10, h11, hb, lawB, hb1, hb2, hb3])
      refine ⟨fun hq => ⟨by omega, ⟨by unfold maxLen; omega, by omega⟩, ⟨by omega, by omega⟩, ⟨k + 1, _, by omega, rfl, rfl, rfl, ((hkp.app _).app _).app _, .inr ⟨(b ++ [Res.cells [.str fs[k].1, .str fs[k].2] 86 true] ++ [Res.own [.str fs[k].2] 9 1 1 true]).length, ?_, ?_, ?_⟩⟩, ?_⟩, fun hq => ⟨⟨by omega, by omega⟩, ⟨k + 1, _, by omega, rfl, rfl, rfl, hkp.app _, .inl ⟨rfl, ?_, ?_⟩⟩, ?_⟩⟩
      · rw [hx, if_pos (by simpa using hq), List.length_eq_zero_iff.1 hn0]; rfl
      · have := hkp.1; simp; omega
      · rw [hx, if_pos (by simpa using hq), List.length_eq_zero_iff.1 hn0, at_new]; rfl
      · rw [lkI_eq (k := .i64) (n := (k : Int) + 1) rfl]; omega
      · rw [hx, if_neg (by simpa using hq), List.append_nil]; exact hc0
      · rw [hx, if_neg (by simpa using hq), List.append_nil]; exact hn0
      · rw [lkI_eq (k := .i64) (n := (k : Int) + 1) rfl]; omega
    · simp only [lawG, ↓Xn, ↓Xo, ↓Xg, ↓Xd, ↓Xe, ↓Xf, Tryz.VΓ, Tryz.Γs, Xp, Xi, Nat.reduceAdd, Nat.reduceSub, Nat.reduceLT, Nat.reduceLeDiff, reduceIte, reduceCtorEq, Nat.reduceEqDiff, implies_true, forall_const, lawV, h1, h5, h9, h10, h11, hb, hu, hul, lawB, Int.toNat_natCast]
      refine ⟨fun _ => ⟨⟨by omega, by omega⟩, by omega, ?_⟩, fun h => absurd h (by simp; omega)⟩
      have hi1 := fun X => at_old hi [X]
      have hi2 := fun X Y => at_old (hi1 X) [Y]
      have hb1 := fun X => at_old hb [X]
      (refine callV_pc (he) ?_; simp only [lawG, ↓Xn, ↓Xo, ↓Xg, ↓Xd, ↓Xe, ↓Xf, Tryz.VΓ, Tryz.Γs, Xp, Xi, Nat.reduceAdd, Nat.reduceSub, Nat.reduceLT, Nat.reduceLeDiff, reduceIte, reduceCtorEq, Nat.reduceEqDiff, implies_true, forall_const, lawV, h1, h5, h9, h10, h11, hb, lawB, hi, hi1, hi2])
      have hK := fun X => ((((hkp.app [.cells [.str fs[k].1, .str fs[k].2] 86 true]).app [.own [.str fs[k].2] 9 1 1 true]).set hLi .gone).app [X])
      refine ⟨fun hq => ⟨by omega, ⟨by unfold maxLen; omega, by omega⟩, ⟨by omega, by omega⟩, ⟨k + 1, _, by omega, rfl, rfl, (hK _).at hj, hK _, .inr ⟨(b ++ [Res.cells [.str fs[k].1, .str fs[k].2] 86 true] ++ [Res.own [.str fs[k].2] 9 1 1 true]).length, ?_, ?_, ?_⟩⟩, ?_⟩, fun hq => ⟨⟨by omega, by omega⟩, ⟨k + 1, _, by omega, rfl, rfl, (hkp.app _).at hj, hkp.app _, .inr ⟨i, ?_, hLi, ?_⟩⟩, ?_⟩⟩
      · rw [hx, if_pos (by simpa using hq)]; simp
      · have := hkp.1; simp; omega
      · rw [hx, if_pos (by simpa using hq), List.map_append, List.getElem?_append_right (by simp)]; simp
      · rw [lkI_eq (k := .i64) (n := (k : Int) + 1) rfl]; omega
      · rw [hx, if_neg (by simpa using hq), List.append_nil]
      · rw [hx, if_neg (by simpa using hq), List.append_nil]; exact hi1 _
      · rw [lkI_eq (k := .i64) (n := (k : Int) + 1) rfl]; omega
  · have hie : k = fs.length := by omega
    subst hie
    rw [List.take_length] at hsl
    simp only [lawG, ↓Xn, ↓Xo, ↓Xg, ↓Xd, ↓Xe, ↓Xf, Tryz.VΓ, Tryz.Γs, Xp, Xi, Nat.reduceAdd, Nat.reduceSub, Nat.reduceLT, Nat.reduceLeDiff, reduceIte, reduceCtorEq, Nat.reduceEqDiff, implies_true, forall_const, lawV, h1, h5, h9, h10, h11, hb]
    exact ⟨fun h => absurd h (by simp), fun _ => ⟨hkp, hsl⟩⟩
theorem uc_eq (u v : Url) : (u.host == v.host && (u.port == v.port && (u.path == v.path && (u.query == v.query && (u.fragment == v.fragment && (u.hasQuery == v.hasQuery && u.hasFrag == v.hasFrag)))))) = decide (u = v) := by
  obtain ⟨a1, a2, a3, a4, a5, a6, a7⟩ := u
  obtain ⟨b1, b2, b3, b4, b5, b6, b7⟩ := v
  rw [Bool.eq_iff_iff]
  simp
set_option maxHeartbeats 2000000 in
theorem sc_slices_Index {bs : List Res} {j : Nat} {L : List Url} {m : Bool} (hj : bs[j]? = some (.own (L.flatMap uc) 29 7 L.length m)) (hn : L.length ≤ 1000000) (u : Url) :
    SC Tryz.V 120 [.o j L.length, wsv u] bs (fun r b => (∃ k : Int, r = .int .i64 k ∧ (decide (0 ≤ k) = decide (u ∈ L))) ∧ Kp bs b) := by
  have hjl : j < bs.length := (List.getElem?_eq_some_iff.1 hj).1
  refine sc_of 3000 Tryz.func120 rfl Tryz.ntmps120 Tryz.results120 Tryz.call120 (by simp) (fun β β' hb => concL_within bs.length _ (by simp [within, within.withinL, hjl, wsv]) β β' hb) ?_
  unfold wsv
  simp only [lawG, ↓Xn, ↓Xo, ↓Xg, ↓Xd, ↓Xe, ↓Xf, Tryz.VΓ, Tryz.Γs, Xp, Xi, Nat.reduceAdd, Nat.reduceSub, Nat.reduceLT, Nat.reduceLeDiff, reduceIte, reduceCtorEq, Nat.reduceEqDiff, implies_true, forall_const, lawV]
  have hj2 := at_old hj [.cells (uc u) 29 true]
  refine loopV_mk (fun σ => ∃ k : Nat, k ≤ L.length ∧ lk 0 σ.t = some (.o j L.length) ∧ lk 3 σ.t = some (.p bs.length 0) ∧ lk 6 σ.t = some (.o j L.length) ∧ lk 7 σ.t = some (.int .i64 L.length) ∧ lk 8 σ.t = some (.int .i64 k) ∧ σ.b = bs ++ [.cells (uc u) 29 true] ∧ ¬ u ∈ L.take k) (fun σ => L.length - lkI 8 σ) ⟨0, by omega, rfl, rfl, rfl, rfl, rfl, rfl, by simp⟩ ?_
  rintro ⟨t, b⟩ ⟨k, hk, h0, h3, h6, h7, h8, hb, hok⟩
  simp only at h0 h3 h6 h7 h8 hb
  subst hb
  rw [lkI_eq h8]
  by_cases hlt : k < L.length
  · have hu := uc_at L k hlt
    have hul := uc_len L
    unfold uc at hj2 hu hul ⊢
    simp only [lawG, ↓Xn, ↓Xo, ↓Xg, ↓Xd, ↓Xe, ↓Xf, Tryz.VΓ, Tryz.Γs, Xp, Xi, Nat.reduceAdd, Nat.reduceSub, Nat.reduceLT, Nat.reduceLeDiff, reduceIte, reduceCtorEq, Nat.reduceEqDiff, implies_true, forall_const, lawV, h0, h3, h6, h7, h8, hj2, hu, hul, lawB, Int.toNat_natCast, uc_eq]
    refine ⟨fun _ => ⟨⟨by omega, by omega⟩, by omega, (OkD_fast (by kernel_rfl)), fun h => ?_, fun h => ?_⟩, fun h => absurd h (by simp; omega)⟩
    · refine ⟨⟨k, rfl, ?_⟩, (Kp.refl _).app _⟩
      rw [decide_eq_true (by omega), decide_eq_true (by rw [of_decide_eq_true h]; exact List.getElem_mem hlt)]
    · refine ⟨⟨by omega, by omega⟩, ⟨k + 1, by omega, rfl, ?_⟩, ?_⟩
      · rw [List.take_succ_eq_append_getElem hlt]
        simp only [List.mem_append, List.mem_singleton, not_or]
        exact ⟨hok, of_decide_eq_false h⟩
      · rw [lkI_eq (k := .i64) (n := (k : Int) + 1) rfl]; omega
  · have hie : k = L.length := by omega
    subst hie
    rw [List.take_length] at hok
    simp only [lawG, ↓Xn, ↓Xo, ↓Xg, ↓Xd, ↓Xe, ↓Xf, Tryz.VΓ, Tryz.Γs, Xp, Xi, Nat.reduceAdd, Nat.reduceSub, Nat.reduceLT, Nat.reduceLeDiff, reduceIte, reduceCtorEq, Nat.reduceEqDiff, implies_true, forall_const, lawV, h0, h3, h6, h7, h8, hj2]
    exact ⟨fun h => absurd h (by simp), fun _ => ⟨⟨-1, rfl, by simp [hok]⟩, (Kp.refl _).app _⟩⟩
set_option maxHeartbeats 2000000 in
theorem sc_slices_Contains {bs : List Res} {j : Nat} {L : List Url} {m : Bool} (hj : bs[j]? = some (.own (L.flatMap uc) 29 7 L.length m)) (hn : L.length ≤ 1000000) (u : Url) :
    SC Tryz.V 67 [.o j L.length, wsv u] bs (fun r b => r = .bool (decide (u ∈ L)) ∧ Kp bs b) := by
  have hjl : j < bs.length := (List.getElem?_eq_some_iff.1 hj).1
  refine sc_of 3000 Tryz.func67 rfl Tryz.ntmps67 Tryz.results67 Tryz.call67 (by simp) (fun β β' hb => concL_within bs.length _ (by simp [within, within.withinL, hjl, wsv]) β β' hb) ?_
  have hj2 := at_old hj [.cells (uc u) 29 true]
  have s1 := sc_slices_Index hj2 hn u
  unfold wsv at s1 ⊢
  simp only [lawG, ↓Xn, ↓Xo, ↓Xg, ↓Xd, ↓Xe, ↓Xf, Tryz.VΓ, Tryz.Γs, Xp, Xi, Nat.reduceAdd, Nat.reduceSub, Nat.reduceLT, Nat.reduceLeDiff, reduceIte, reduceCtorEq, Nat.reduceEqDiff, implies_true, forall_const, lawV, lawB]
  refine callV_sc s1 ?_
  rintro r b ⟨⟨k, rfl, hk⟩, hkp⟩
  rw [← hk]
  simp only [lawG, ↓Xn, ↓Xo, ↓Xg, ↓Xd, ↓Xe, ↓Xf, Tryz.VΓ, Tryz.Γs, Xp, Xi, Nat.reduceAdd, Nat.reduceSub, Nat.reduceLT, Nat.reduceLeDiff, reduceIte, reduceCtorEq, Nat.reduceEqDiff, implies_true, forall_const, lawV]
  exact (Kp.refl _).app _ |>.trans hkp
theorem sc_slices_Index0 {bs : List Res} (u : Url) :
    SC Tryz.V 120 [.nils, wsv u] bs (fun r b => r = .int .i64 (-1) ∧ Kp bs b) := by
  refine sc_of 3000 Tryz.func120 rfl Tryz.ntmps120 Tryz.results120 Tryz.call120 (by simp) (fun β β' hb => concL_within bs.length _ (by simp [within, within.withinL, wsv]) β β' hb) ?_
  unfold wsv
  simp only [lawG, ↓Xn, ↓Xo, ↓Xg, ↓Xd, ↓Xe, ↓Xf, Tryz.VΓ, Tryz.Γs, Xp, Xi, Nat.reduceAdd, Nat.reduceSub, Nat.reduceLT, Nat.reduceLeDiff, reduceIte, reduceCtorEq, Nat.reduceEqDiff, implies_true, forall_const, lawV]
  refine loopV_mk (fun σ => lk 7 σ.t = some (.int .i64 0) ∧ lk 8 σ.t = some (.int .i64 0) ∧ Kp bs σ.b) (fun σ => 0) ⟨rfl, rfl, (Kp.refl _).app _⟩ ?_
  rintro ⟨t, b⟩ ⟨h7, h8, hkp⟩
  simp only at h7 h8 hkp
  simp only [lawG, ↓Xn, ↓Xo, ↓Xg, ↓Xd, ↓Xe, ↓Xf, Tryz.VΓ, Tryz.Γs, Xp, Xi, Nat.reduceAdd, Nat.reduceSub, Nat.reduceLT, Nat.reduceLeDiff, reduceIte, reduceCtorEq, Nat.reduceEqDiff, implies_true, forall_const, lawV, h7, h8]
  exact ⟨fun h => absurd h (by simp), fun _ => hkp⟩
theorem sc_slices_Contains0 {bs : List Res} (u : Url) :
    SC Tryz.V 67 [.nils, wsv u] bs (fun r b => r = .bool false ∧ Kp bs b) := by
  refine sc_of 3000 Tryz.func67 rfl Tryz.ntmps67 Tryz.results67 Tryz.call67 (by simp) (fun β β' hb => concL_within bs.length _ (by simp [within, within.withinL, wsv]) β β' hb) ?_
  have s1 := sc_slices_Index0 (bs := bs ++ [.cells (uc u) 29 true]) u
  unfold wsv at s1 ⊢
  simp only [lawG, ↓Xn, ↓Xo, ↓Xg, ↓Xd, ↓Xe, ↓Xf, Tryz.VΓ, Tryz.Γs, Xp, Xi, Nat.reduceAdd, Nat.reduceSub, Nat.reduceLT, Nat.reduceLeDiff, reduceIte, reduceCtorEq, Nat.reduceEqDiff, implies_true, forall_const, lawV, lawB]
  refine callV_sc s1 ?_
  rintro r b ⟨rfl, hkp⟩
  simp only [lawG, ↓Xn, ↓Xo, ↓Xg, ↓Xd, ↓Xe, ↓Xf, Tryz.VΓ, Tryz.Γs, Xp, Xi, Nat.reduceAdd, Nat.reduceSub, Nat.reduceLT, Nat.reduceLeDiff, reduceIte, reduceCtorEq, Nat.reduceEqDiff, implies_true, forall_const, lawV]
  exact ⟨rfl, (Kp.refl _).app _ |>.trans hkp⟩
theorem sc_Contains {bs : List Res} {x : SV} {L : List Url} (h : Sq 29 7 x bs (L.flatMap uc) L.length) (hL : L.length ≤ 1000000) (u : Url) :
    SC Tryz.V 67 [x, wsv u] bs (fun r b => r = .bool (decide (u ∈ L)) ∧ Kp bs b) := by
  rcases h with ⟨rfl, -, hn⟩ | ⟨j, m, rfl, hj⟩
  · obtain rfl := List.length_eq_zero_iff.1 hn
    simpa using sc_slices_Contains0 u
  · exact sc_slices_Contains hj hL u
theorem p_keep_URL (u : Url) (h : u.host.length ≤ 140737488355328 ∧ u.path.length ≤ 140737488355328 ∧ u.query.length ≤ 140737488355328 ∧ u.fragment.length ≤ 140737488355328) : PC Tryz.V 20 [wsv u] (.bool (decide (u.host.length + u.path.length + u.query.length + u.fragment.length ≤ 1000))) := by
  refine pc_of 3000 Tryz.func20 rfl Tryz.ntmps20 Tryz.results20 Tryz.call20 (by simp) (by simp [flat, flat.flatL, wsv]) (by simp [flat, flat.flatL]) ?_
  unfold wsv
  simp only [lawG, ↓Xn, ↓Xo, ↓Xg, ↓Xd, ↓Xe, ↓Xf, Tryz.VΓ, Tryz.Γs, Xp, Xi, Nat.reduceAdd, Nat.reduceSub, Nat.reduceLT, Nat.reduceLeDiff, reduceIte, reduceCtorEq, Nat.reduceEqDiff, implies_true, forall_const, lawV]
  refine ⟨⟨by omega, by omega⟩, ⟨by omega, by omega⟩, ⟨by omega, by omega⟩, ?_⟩
  congr 1
  exact decide_eq_decide.2 ⟨fun h => by omega, fun h => by omega⟩
theorem p_r7_Bare (u : Url) : PC Tryz.V 28 [wsv u] (wsv u.bare) := by
  refine pc_of 3000 Tryz.func28 rfl Tryz.ntmps28 Tryz.results28 Tryz.call28 (by simp) (by simp [flat, flat.flatL, wsv]) (by simp [flat, flat.flatL, wsv]) ?_
  unfold wsv Url.bare
  simp only [lawG, ↓Xn, ↓Xo, ↓Xg, ↓Xd, ↓Xe, ↓Xf, Tryz.VΓ, Tryz.Γs, Xp, Xi, Nat.reduceAdd, Nat.reduceSub, Nat.reduceLT, Nat.reduceLeDiff, reduceIte, reduceCtorEq, Nat.reduceEqDiff, implies_true, forall_const, lawV]
theorem Sq.app {e s : Nat} {x : SV} {b : List Res} {c : List SV} {n : Nat} (h : Sq e s x b c n) (X : List Res) : Sq e s x (b ++ X) c n := by
  rcases h with h | ⟨j, m, h, k⟩
  · exact .inl h
  · exact .inr ⟨j, m, h, at_old k X⟩
theorem Sq.kp {e s : Nat} {x : SV} {bs b : List Res} {c : List SV} {n : Nat} (h : Sq e s x bs c n) (k : Kp bs b) : Sq e s x b c n := by
  rcases h with h | ⟨j, m, h, hj⟩
  · exact .inl h
  · exact .inr ⟨j, m, h, k.at hj⟩
theorem Sq.within {e s : Nat} {x : SV} {b : List Res} {c : List SV} {n : Nat} (h : Sq e s x b c n) : Vc.within b.length x = true := by
  rcases h with ⟨rfl, -⟩ | ⟨j, m, rfl, hj⟩
  · rfl
  · have := (List.getElem?_eq_some_iff.1 hj).1
    simp [Vc.within, this]
set_option maxHeartbeats 2000000 in
theorem sc_redir_Next {bs : List Res} {j : Nat} {fs : List (Bytes × Bytes)} {m : Bool} (hj : bs[j]? = some (.own (fs.flatMap fc) 86 2 fs.length m)) (hn : fs.length ≤ 1000000) (hl : ∀ f ∈ fs, f.1.length ≤ 9223372036854775807) (a c : Int)
    {sn : SV} {L : List Url} (hi : Sq 29 7 sn bs (L.flatMap uc) L.length) (hL : L.length ≤ 1000000) (u : Url) (fu : Fair u) (hops : Int) :
    SC Tryz.V 22 [wsv u, .agg [.int .i64 a, .int .i64 c, .o j fs.length], sn, .int .i64 hops] bs (fun r b => r = .tup [wsv (redirNext u fs L hops).1, .int .i64 (redirNext u fs L hops).2] ∧ Kp bs b) := by
  have hjl : j < bs.length := (List.getElem?_eq_some_iff.1 hj).1
  have hil := hi.within
  refine sc_of 3000 Tryz.func22 rfl Tryz.ntmps22 Tryz.results22 Tryz.call22 (by simp) (fun β β' hb => concL_within bs.length _ (by simp [within, within.withinL, hjl, hil, wsv]) β β' hb) ?_
  unfold wsv
  simp only [lawG, ↓Xn, ↓Xo, ↓Xg, ↓Xd, ↓Xe, ↓Xf, Tryz.VΓ, Tryz.Γs, Xp, Xi, Nat.reduceAdd, Nat.reduceSub, Nat.reduceLT, Nat.reduceLeDiff, reduceIte, reduceCtorEq, Nat.reduceEqDiff, implies_true, forall_const, lawV, lawB]
  refine ⟨fun h5 => ?_, fun h5 => ?_⟩
  · have h5 : 5 ≤ hops := by simpa using h5
    unfold redirNext
    rw [if_pos h5]
    exact ⟨rfl, (((Kp.refl _).app _).app _).app _⟩
  · have h5 : ¬ 5 ≤ hops := by simpa using h5
    unfold redirNext
    rw [if_neg h5]
    refine callV_sc (sc_head_Values (at_old (at_old (at_old hj _) _) _) hn hl locS (by decide) a c) ?_
    rintro r b ⟨hkp, hsl⟩
    have hll := hdrVals_len fs locS
    have hkb : Kp bs b := (((Kp.refl bs).app _).app _).app _ |>.trans hkp
    have h8 := hkp.at (at_new _ _)
    have h4 := hkp.at (at_prev2 _ _ _ _)
    have hn8 : bs.length ≤ (bs ++ [Res.cells [.str u.host, .int .i64 u.port, .str u.path, .str u.query, .str u.fragment, .bool u.hasQuery, .bool u.hasFrag] 29 true] ++ [Res.cells [.int .i64 a, .int .i64 c, .o j fs.length] 40 true]).length := by simp
    generalize (bs ++ [Res.cells [.str u.host, .int .i64 u.port, .str u.path, .str u.query, .str u.fragment, .bool u.hasQuery, .bool u.hasFrag] 29 true] ++ [Res.cells [.int .i64 a, .int .i64 c, .o j fs.length] 40 true]).length = n8 at h8 hn8 ⊢
    have hl8 : n8 < b.length := (List.getElem?_eq_some_iff.1 h8).1
    have s8 : ∀ X, (b.set n8 X)[n8]? = some X := fun X => by simp [hl8]
    generalize hdrVals fs locS = l at hsl hll ⊢
    rcases hsl with ⟨rfl, hc0, hn0⟩ | ⟨q, rfl, hLq, hq⟩
    · obtain rfl : l = [] := List.length_eq_zero_iff.1 hn0
      simp only [lawG, ↓Xn, ↓Xo, ↓Xg, ↓Xd, ↓Xe, ↓Xf, Tryz.VΓ, Tryz.Γs, Xp, Xi, Nat.reduceAdd, Nat.reduceSub, Nat.reduceLT, Nat.reduceLeDiff, reduceIte, reduceCtorEq, Nat.reduceEqDiff, implies_true, forall_const, lawV, lawB, beq_self_eq_true, bne_self_eq_false, Int.reduceBEq, Int.reduceBNe, Int.reduceLT, Int.reduceLE, h8, s8, List.drop_nil, List.drop_succ_cons]
      exact ⟨rfl, hkb.set hn8 _⟩
    · by_cases h1 : l.length = 1
      · obtain ⟨x, rfl⟩ := List.length_eq_one_iff.1 h1
        have s1 := p_url_Relative u x fu
        unfold wsv at s1
        simp only [List.map_cons, List.map_nil] at hq
        generalize hz : urlRelative u x = z at s1
        obtain ⟨v, e⟩ := z
        simp only at s1
        simp only [lawG, ↓Xn, ↓Xo, ↓Xg, ↓Xd, ↓Xe, ↓Xf, Tryz.VΓ, Tryz.Γs, Xp, Xi, Nat.reduceAdd, Nat.reduceSub, Nat.reduceLT, Nat.reduceLeDiff, reduceIte, reduceCtorEq, Nat.reduceEqDiff, implies_true, forall_const, lawV, lawB, beq_self_eq_true, bne_self_eq_false, Int.reduceBEq, Int.reduceBNe, Int.reduceLT, Int.reduceLE, h8, s8, h4, hq, List.drop_nil, List.drop_succ_cons, List.length_cons, List.length_nil, Int.reduceToNat, Nat.zero_mul, List.getElem?_cons_zero]
        refine ⟨fun h => absurd h (by simp), fun _ => ⟨by omega, ?_⟩⟩
        have h8a := fun X => at_old h8 [X]
        have s8a : ∀ X Y, ((b ++ [X]).set n8 Y)[n8]? = some Y := fun X Y => by rw [List.getElem?_set_self (by simp; omega)]
        have hql : ¬ q = b.length := by have := (List.getElem?_eq_some_iff.1 hq).1; omega
        have hbl : ¬ bs.length = b.length := by omega
        (refine callD_pc (s1) ?_; simp only [lawG, ↓Xn, ↓Xo, ↓Xg, ↓Xd, ↓Xe, ↓Xf, Tryz.VΓ, Tryz.Γs, Xp, Xi, Nat.reduceAdd, Nat.reduceSub, Nat.reduceLT, Nat.reduceLeDiff, reduceIte, reduceCtorEq, Nat.reduceEqDiff, implies_true, forall_const, lawV, lawB, beq_self_eq_true, bne_self_eq_false, Int.reduceBEq, Int.reduceBNe, Int.reduceLT, Int.reduceLE, h8, s8, h4, hq, h8a, s8a, List.drop_nil, List.drop_succ_cons])
        refine ⟨(by
          refine OkD_ren (fun n => if n = b.length then 0 else 1) ?_
          simp only [List.map_cons, List.map_nil, renRk, renT, reduceIte, hql, hbl]
          exact OkD_fast (by kernel_rfl)), fun h2 => ?_, fun h2 => ⟨fun h3 => ?_, fun h3 => ?_⟩⟩
        · refine ⟨?_, (hkb.app _).set hn8 _⟩
          obtain rfl : e = 253 := by simpa using h2
          simp [redirOf, redirEnd, hz, Url.none]
        · refine ⟨?_, (hkb.app _).set hn8 _⟩
          have h2 : ¬ e = 253 := by simpa using h2
          have h3 : ¬ e = 0 := by simpa using h3
          simp [redirOf, redirEnd, hz, h2, h3, Url.none]
        · obtain rfl : e = 0 := by simpa using h3
          refine callV_sc (sc_Contains ((hi.kp hkb).app [.cells (uc v.bare) 29 true]) hL v.bare) ?_
          rintro r b3 ⟨rfl, hk3⟩
          have g8 := hk3.at (h8a _)
          have gl8 : n8 < b3.length := (List.getElem?_eq_some_iff.1 g8).1
          have t8 : ∀ X, (b3.set n8 X)[n8]? = some X := fun X => by simp [gl8]
          have gu := hk3.at (at_new _ _)
          have hkb3 := (hkb.app _).trans hk3
          unfold uc Url.bare at gu
          simp only [lawG, ↓Xn, ↓Xo, ↓Xg, ↓Xd, ↓Xe, ↓Xf, Tryz.VΓ, Tryz.Γs, Xp, Xi, Nat.reduceAdd, Nat.reduceSub, Nat.reduceLT, Nat.reduceLeDiff, reduceIte, reduceCtorEq, Nat.reduceEqDiff, implies_true, forall_const, lawV, lawB, beq_self_eq_true, bne_self_eq_false, Int.reduceBEq, Int.reduceBNe, Int.reduceLT, Int.reduceLE, g8, t8, gu, List.drop_nil, List.drop_succ_cons]
          refine ⟨fun h4 => ⟨?_, hkb3.set hn8 _⟩, fun h4 => ?_⟩
          · have h4 : v.bare ∈ L := by simpa using h4
            simp [redirOf, redirEnd, hz, h4, Url.none]
          · have h4 : v.bare ∉ L := by simpa using h4
            refine ⟨?_, hkb3.set hn8 _⟩
            unfold redirOf redirEnd
            simp [hz, h4]
            simp [Url.bare]
      · simp only [lawG, ↓Xn, ↓Xo, ↓Xg, ↓Xd, ↓Xe, ↓Xf, Tryz.VΓ, Tryz.Γs, Xp, Xi, Nat.reduceAdd, Nat.reduceSub, Nat.reduceLT, Nat.reduceLeDiff, reduceIte, reduceCtorEq, Nat.reduceEqDiff, implies_true, forall_const, lawV, lawB, beq_self_eq_true, bne_self_eq_false, Int.reduceBEq, Int.reduceBNe, Int.reduceLT, Int.reduceLE, h8, s8, List.drop_nil, List.drop_succ_cons]
        refine ⟨fun _ => ⟨?_, hkb.set hn8 _⟩, fun h => absurd h (by simp; omega)⟩
        unfold redirOf
        rw [if_pos h1]
        rfl
set_option maxHeartbeats 2000000 in
theorem sc_r25_Next {bs : List Res} {j : Nat} {fs : List (Bytes × Bytes)} {m : Bool} (hj : bs[j]? = some (.own (fs.flatMap fc) 86 2 fs.length m)) (hn : fs.length ≤ 1000000) (hl : ∀ f ∈ fs, f.1.length ≤ 9223372036854775807) (a c : Int)
    {sn : SV} {L : List Url} (hi : Sq 29 7 sn bs (L.flatMap uc) L.length) (hL : L.length ≤ 1000000) (u : Url) (fu : Fair u) (hops : Int) :
    SC Tryz.V 23 [wsv u, .agg [.int .i64 a, .int .i64 c, .o j fs.length], sn, .int .i64 hops] bs (fun r b => r = .tup [wsv (redirNext u fs L hops).1, .int .i64 (redirNext u fs L hops).2] ∧ Kp bs b) := by
  have hjl : j < bs.length := (List.getElem?_eq_some_iff.1 hj).1
  have hil := hi.within
  refine sc_of 3000 Tryz.func23 rfl Tryz.ntmps23 Tryz.results23 Tryz.call23 (by simp) (fun β β' hb => concL_within bs.length _ (by simp [within, within.withinL, hjl, hil, wsv]) β β' hb) ?_
  unfold wsv
  simp only [lawG, ↓Xn, ↓Xo, ↓Xg, ↓Xd, ↓Xe, ↓Xf, Tryz.VΓ, Tryz.Γs, Xp, Xi, Nat.reduceAdd, Nat.reduceSub, Nat.reduceLT, Nat.reduceLeDiff, reduceIte, reduceCtorEq, Nat.reduceEqDiff, implies_true, forall_const, lawV, lawB]
  refine ⟨fun h5 => ?_, fun h5 => ?_⟩
  · have h5 : 5 ≤ hops := by simpa using h5
    unfold redirNext
    rw [if_pos h5]
    exact ⟨rfl, (((Kp.refl _).app _).app _).app _⟩
  · have h5 : ¬ 5 ≤ hops := by simpa using h5
    unfold redirNext
    rw [if_neg h5]
    refine callV_sc (sc_r18_Values (at_old (at_old (at_old hj _) _) _) hn hl locS (by decide) a c) ?_
    rintro r b ⟨hkp, hsl⟩
    have hll := hdrVals_len fs locS
    have hkb : Kp bs b := (((Kp.refl bs).app _).app _).app _ |>.trans hkp
    have h8 := hkp.at (at_new _ _)
    have h4 := hkp.at (at_prev2 _ _ _ _)
    have hn8 : bs.length ≤ (bs ++ [Res.cells [.str u.host, .int .i64 u.port, .str u.path, .str u.query, .str u.fragment, .bool u.hasQuery, .bool u.hasFrag] 29 true] ++ [Res.cells [.int .i64 a, .int .i64 c, .o j fs.length] 40 true]).length := by simp
    generalize (bs ++ [Res.cells [.str u.host, .int .i64 u.port, .str u.path, .str u.query, .str u.fragment, .bool u.hasQuery, .bool u.hasFrag] 29 true] ++ [Res.cells [.int .i64 a, .int .i64 c, .o j fs.length] 40 true]).length = n8 at h8 hn8 ⊢
    have hl8 : n8 < b.length := (List.getElem?_eq_some_iff.1 h8).1
    have s8 : ∀ X, (b.set n8 X)[n8]? = some X := fun X => by simp [hl8]
    generalize hdrVals fs locS = l at hsl hll ⊢
    rcases hsl with ⟨rfl, hc0, hn0⟩ | ⟨q, rfl, hLq, hq⟩
    · obtain rfl : l = [] := List.length_eq_zero_iff.1 hn0
      simp only [lawG, ↓Xn, ↓Xo, ↓Xg, ↓Xd, ↓Xe, ↓Xf, Tryz.VΓ, Tryz.Γs, Xp, Xi, Nat.reduceAdd, Nat.reduceSub, Nat.reduceLT, Nat.reduceLeDiff, reduceIte, reduceCtorEq, Nat.reduceEqDiff, implies_true, forall_const, lawV, lawB, beq_self_eq_true, bne_self_eq_false, Int.reduceBEq, Int.reduceBNe, Int.reduceLT, Int.reduceLE, h8, s8, List.drop_nil, List.drop_succ_cons]
      exact ⟨rfl, hkb.set hn8 _⟩
    · by_cases h1 : l.length = 1
      · obtain ⟨x, rfl⟩ := List.length_eq_one_iff.1 h1
        have s1 := p_r7_Relative u x fu
        unfold wsv at s1
        simp only [List.map_cons, List.map_nil] at hq
        generalize hz : urlRelative u x = z at s1
        obtain ⟨v, e⟩ := z
        simp only at s1
        simp only [lawG, ↓Xn, ↓Xo, ↓Xg, ↓Xd, ↓Xe, ↓Xf, Tryz.VΓ, Tryz.Γs, Xp, Xi, Nat.reduceAdd, Nat.reduceSub, Nat.reduceLT, Nat.reduceLeDiff, reduceIte, reduceCtorEq, Nat.reduceEqDiff, implies_true, forall_const, lawV, lawB, beq_self_eq_true, bne_self_eq_false, Int.reduceBEq, Int.reduceBNe, Int.reduceLT, Int.reduceLE, h8, s8, h4, hq, List.drop_nil, List.drop_succ_cons, List.length_cons, List.length_nil, Int.reduceToNat, Nat.zero_mul, List.getElem?_cons_zero]
        refine ⟨fun h => absurd h (by simp), fun _ => ⟨by omega, ?_⟩⟩
        have h8a := fun X => at_old h8 [X]
        have s8a : ∀ X Y, ((b ++ [X]).set n8 Y)[n8]? = some Y := fun X Y => by rw [List.getElem?_set_self (by simp; omega)]
        have hql : ¬ q = b.length := by have := (List.getElem?_eq_some_iff.1 hq).1; omega
        have hbl : ¬ bs.length = b.length := by omega
        (refine callD_pc (s1) ?_; simp only [lawG, ↓Xn, ↓Xo, ↓Xg, ↓Xd, ↓Xe, ↓Xf, Tryz.VΓ, Tryz.Γs, Xp, Xi, Nat.reduceAdd, Nat.reduceSub, Nat.reduceLT, Nat.reduceLeDiff, reduceIte, reduceCtorEq, Nat.reduceEqDiff, implies_true, forall_const, lawV, lawB, beq_self_eq_true, bne_self_eq_false, Int.reduceBEq, Int.reduceBNe, Int.reduceLT, Int.reduceLE, h8, s8, h4, hq, h8a, s8a, List.drop_nil, List.drop_succ_cons])
        refine ⟨(by
          refine OkD_ren (fun n => if n = b.length then 0 else 1) ?_
          simp only [List.map_cons, List.map_nil, renRk, renT, reduceIte, hql, hbl]
          exact OkD_fast (by kernel_rfl)), fun h2 => ?_, fun h2 => ⟨fun h3 => ?_, fun h3 => ?_⟩⟩
        · refine ⟨?_, (hkb.app _).set hn8 _⟩
          obtain rfl : e = 253 := by simpa using h2
          simp [redirOf, redirEnd, hz, Url.none]
        · refine ⟨?_, (hkb.app _).set hn8 _⟩
          have h2 : ¬ e = 253 := by simpa using h2
          have h3 : ¬ e = 0 := by simpa using h3
          simp [redirOf, redirEnd, hz, h2, h3, Url.none]
        · obtain rfl : e = 0 := by simpa using h3
          have s2 := p_r7_Bare v
          unfold wsv at s2
          (refine callV_pc (s2) ?_; simp only [lawG, ↓Xn, ↓Xo, ↓Xg, ↓Xd, ↓Xe, ↓Xf, Tryz.VΓ, Tryz.Γs, Xp, Xi, Nat.reduceAdd, Nat.reduceSub, Nat.reduceLT, Nat.reduceLeDiff, reduceIte, reduceCtorEq, Nat.reduceEqDiff, implies_true, forall_const, lawV, lawB, beq_self_eq_true, bne_self_eq_false, Int.reduceBEq, Int.reduceBNe, Int.reduceLT, Int.reduceLE, h8a, s8a, List.drop_nil, List.drop_succ_cons])
          have hres : redirOf u [x] L = if v.bare ∈ L then (Url.none, 251) else (v.bare, 0) := by
            unfold redirOf redirEnd; simp [hz]
          rw [hres]
          clear hres hz s2 s1
          generalize v.bare = w
          have hnu : bs.length ≤ b.length := hkb.1
          have g8 := h8a (.cells (uc w) 29 true)
          have gu := at_new b (.cells (uc w) 29 true)
          generalize b.length = nu at gu hnu
          have hi2 := (hi.kp hkb)
          rcases hi2 with ⟨rfl, -, hn0⟩ | ⟨i, m', rfl, hi2⟩
          · obtain rfl := List.length_eq_zero_iff.1 hn0
            simp only [lawG, ↓Xn, ↓Xo, ↓Xg, ↓Xd, ↓Xe, ↓Xf, Tryz.VΓ, Tryz.Γs, Xp, Xi, Nat.reduceAdd, Nat.reduceSub, Nat.reduceLT, Nat.reduceLeDiff, reduceIte, reduceCtorEq, Nat.reduceEqDiff, implies_true, forall_const, lawV, lawB, beq_self_eq_true, bne_self_eq_false, Int.reduceBEq, Int.reduceBNe, Int.reduceLT, Int.reduceLE]
            refine loopV_mk (fun σ => lk 8 σ.t = some (.p n8 0) ∧ lk 9 σ.t = some (.int .i64 0) ∧ lk 11 σ.t = some (.p nu 0) ∧ lk 44 σ.t = some (.int .i64 0) ∧ lk 45 σ.t = some (.int .i64 0) ∧
              σ.b[n8]? = some (.cells (uc Url.none) 29 true) ∧ σ.b[nu]? = some (.cells (uc w) 29 true) ∧ Kp bs σ.b) (fun σ => 0) ⟨rfl, rfl, rfl, rfl, rfl, g8, gu, hkb.app _⟩ ?_
            clear g8 gu
            rintro ⟨t, b⟩ ⟨l8, l9, l11, l44, l45, g8, gu, hkb⟩
            simp only at l8 l9 l11 l44 l45 g8 gu hkb
            have t8 : ∀ X, (b.set n8 X)[n8]? = some X := fun X => by simp [(List.getElem?_eq_some_iff.1 g8).1]
            unfold uc Url.none at *
            simp only [lawG, ↓Xn, ↓Xo, ↓Xg, ↓Xd, ↓Xe, ↓Xf, Tryz.VΓ, Tryz.Γs, Xp, Xi, Nat.reduceAdd, Nat.reduceSub, Nat.reduceLT, Nat.reduceLeDiff, reduceIte, reduceCtorEq, Nat.reduceEqDiff, implies_true, forall_const, lawV, lawB, beq_self_eq_true, bne_self_eq_false, Int.reduceBEq, Int.reduceBNe, Int.reduceLT, Int.reduceLE, l8, l9, l11, l44, l45, g8, gu, t8]
            exact ⟨by simp, hkb.set hn8 _⟩
          · simp only [lawG, ↓Xn, ↓Xo, ↓Xg, ↓Xd, ↓Xe, ↓Xf, Tryz.VΓ, Tryz.Γs, Xp, Xi, Nat.reduceAdd, Nat.reduceSub, Nat.reduceLT, Nat.reduceLeDiff, reduceIte, reduceCtorEq, Nat.reduceEqDiff, implies_true, forall_const, lawV, lawB, beq_self_eq_true, bne_self_eq_false, Int.reduceBEq, Int.reduceBNe, Int.reduceLT, Int.reduceLE]
            refine loopV_mk (fun σ => ∃ k : Nat, k ≤ L.length ∧ lk 8 σ.t = some (.p n8 0) ∧ lk 9 σ.t = some (.int .i64 0) ∧ lk 11 σ.t = some (.p nu 0) ∧ lk 43 σ.t = some (.o i L.length) ∧ lk 44 σ.t = some (.int .i64 L.length) ∧ lk 45 σ.t = some (.int .i64 k) ∧
              σ.b[n8]? = some (.cells (uc Url.none) 29 true) ∧ σ.b[nu]? = some (.cells (uc w) 29 true) ∧ σ.b[i]? = some (.own (L.flatMap uc) 29 7 L.length m') ∧ Kp bs σ.b ∧ w ∉ L.take k) (fun σ => L.length - lkI 45 σ) ⟨0, by omega, rfl, rfl, rfl, rfl, rfl, rfl, g8, gu, at_old hi2 _, hkb.app _, by simp⟩ ?_
            clear g8 gu hi2
            rintro ⟨t, b⟩ ⟨k, hk, l8, l9, l11, l43, l44, l45, g8, gu, gi, hkb, hok⟩
            simp only at l8 l9 l11 l43 l44 l45 g8 gu gi hkb
            rw [lkI_eq l45]
            by_cases hlt : k < L.length
            · have hu := uc_at L k hlt
              have hul := uc_len L
              have g8a := fun X => at_old g8 [X]
              have gua := fun X => at_old gu [X]
              have t8 : ∀ X Y, ((b ++ [X]).set n8 Y)[n8]? = some Y := fun X Y => by rw [List.getElem?_set_self (by have := (List.getElem?_eq_some_iff.1 g8).1; simp; omega)]
              unfold uc Url.none at *
              simp only [lawG, ↓Xn, ↓Xo, ↓Xg, ↓Xd, ↓Xe, ↓Xf, Tryz.VΓ, Tryz.Γs, Xp, Xi, Nat.reduceAdd, Nat.reduceSub, Nat.reduceLT, Nat.reduceLeDiff, reduceIte, reduceCtorEq, Nat.reduceEqDiff, implies_true, forall_const, lawV, lawB, beq_self_eq_true, bne_self_eq_false, Int.reduceBEq, Int.reduceBNe, Int.reduceLT, Int.reduceLE, l8, l9, l11, l43, l44, l45, g8, gu, gi, g8a, gua, t8, hu, hul, Int.toNat_natCast, uc_eq]
              refine ⟨fun _ => ⟨⟨by omega, by omega⟩, by omega, fun h => ⟨?_, (hkb.app _).set hn8 _⟩, fun h => ⟨⟨by omega, by omega⟩, ⟨k + 1, by omega, rfl, at_old gi _, hkb.app _, ?_⟩, ?_⟩⟩, fun h => absurd h (by simp; omega)⟩
              · rw [if_pos (by rw [← of_decide_eq_true h]; exact List.getElem_mem hlt)]
              · rw [List.take_succ_eq_append_getElem hlt]
                simp only [List.mem_append, List.mem_singleton, not_or]
                exact ⟨hok, fun e => of_decide_eq_false h e.symm⟩
              · rw [lkI_eq (k := .i64) (n := (k : Int) + 1) rfl]; omega
            · obtain rfl : k = L.length := by omega
              rw [List.take_length] at hok
              have t8 : ∀ X, (b.set n8 X)[n8]? = some X := fun X => by simp [(List.getElem?_eq_some_iff.1 g8).1]
              unfold uc Url.none at *
              simp only [lawG, ↓Xn, ↓Xo, ↓Xg, ↓Xd, ↓Xe, ↓Xf, Tryz.VΓ, Tryz.Γs, Xp, Xi, Nat.reduceAdd, Nat.reduceSub, Nat.reduceLT, Nat.reduceLeDiff, reduceIte, reduceCtorEq, Nat.reduceEqDiff, implies_true, forall_const, lawV, lawB, beq_self_eq_true, bne_self_eq_false, Int.reduceBEq, Int.reduceBNe, Int.reduceLT, Int.reduceLE, l8, l9, l11, l43, l44, l45, g8, gu, gi, t8]
              refine ⟨fun h => absurd h (by simp), fun _ => ⟨?_, hkb.set hn8 _⟩⟩
              rw [if_neg hok]
      · simp only [lawG, ↓Xn, ↓Xo, ↓Xg, ↓Xd, ↓Xe, ↓Xf, Tryz.VΓ, Tryz.Γs, Xp, Xi, Nat.reduceAdd, Nat.reduceSub, Nat.reduceLT, Nat.reduceLeDiff, reduceIte, reduceCtorEq, Nat.reduceEqDiff, implies_true, forall_const, lawV, lawB, beq_self_eq_true, bne_self_eq_false, Int.reduceBEq, Int.reduceBNe, Int.reduceLT, Int.reduceLE, h8, s8, List.drop_nil, List.drop_succ_cons]
        refine ⟨fun _ => ⟨?_, hkb.set hn8 _⟩, fun h => absurd h (by simp; omega)⟩
        unfold redirOf
        rw [if_pos h1]
        rfl
end Go.Proofs.YtcndmooeglfilaaGreatDoor
/- The walks of package keep over slices of flat values. -/
set_option linter.all false
set_option maxRecDepth 20000
namespace Go.Proofs.YtcndmooeglfilaaGreatDoor
open Go Vc Go.RowKit Wf
set_option linter.unusedSimpArgs false
def sc1 (s : Bytes) : List SV := [.str s]
theorem sc1_at (L : List Bytes) (k : Nat) (h : k < L.length) : (L.map SV.str)[k * 1]? = some (.str L[k]) := by simp [h]
set_option maxHeartbeats 2000000 in
theorem sc_keep_Strings {bs : List Res} {j : Nat} {ss : List Bytes} {m : Bool} (hj : bs[j]? = some (.own (ss.map SV.str) 9 1 ss.length m)) (hn : ss.length ≤ 9223372036854775807) (n k : Int) :
    SC Tryz.V 30 [.o j ss.length, .int .i64 n, .int .i64 k] bs (fun r b => r = .bool (decide ((ss.length : Int) ≤ n ∧ ∀ s ∈ ss, (s.length : Int) ≤ k)) ∧ Kp bs b) := by
  have hjl : j < bs.length := (List.getElem?_eq_some_iff.1 hj).1
  refine sc_of 3000 Tryz.func30 rfl Tryz.ntmps30 Tryz.results30 Tryz.call30 (by simp) (fun β β' hb => concL_within bs.length _ (by simp [within, within.withinL, hjl]) β β' hb) ?_
  simp only [lawG, ↓Xn, ↓Xo, ↓Xg, ↓Xd, ↓Xe, ↓Xf, Tryz.VΓ, Tryz.Γs, Xp, Xi, Nat.reduceAdd, Nat.reduceSub, Nat.reduceLT, Nat.reduceLeDiff, reduceIte, reduceCtorEq, Nat.reduceEqDiff, implies_true, forall_const, lawV, lawB]
  refine ⟨fun h => ⟨?_, Kp.refl _⟩, fun h => ?_⟩
  · have h := of_decide_eq_true h
    rw [decide_eq_false (fun q => by have := q.1; omega)]
  have h := of_decide_eq_false h
  refine loopV_mk (fun σ => ∃ q : Nat, q ≤ ss.length ∧ lk 2 σ.t = some (.int .i64 k) ∧ lk 13 σ.t = some (.o j ss.length) ∧ lk 14 σ.t = some (.int .i64 ss.length) ∧ lk 15 σ.t = some (.int .i64 q) ∧ σ.b = bs ∧ ∀ s ∈ ss.take q, (s.length : Int) ≤ k) (fun σ => ss.length - lkI 15 σ) ⟨0, by omega, rfl, rfl, rfl, rfl, rfl, by simp⟩ ?_
  rintro ⟨t, b⟩ ⟨q, hq, h2, h13, h14, h15, hb, hok⟩
  simp only at h2 h13 h14 h15 hb
  subst hb
  rw [lkI_eq h15]
  by_cases hlt : q < ss.length
  · have hu := sc1_at ss q hlt
    simp only [lawG, ↓Xn, ↓Xo, ↓Xg, ↓Xd, ↓Xe, ↓Xf, Tryz.VΓ, Tryz.Γs, Xp, Xi, Nat.reduceAdd, Nat.reduceSub, Nat.reduceLT, Nat.reduceLeDiff, reduceIte, reduceCtorEq, Nat.reduceEqDiff, implies_true, forall_const, lawV, h2, h13, h14, h15, hj, hu, lawB, Int.toNat_natCast, List.length_map]
    refine ⟨fun _ => ⟨⟨by omega, by omega⟩, by omega, fun hq2 => ⟨?_, Kp.refl _⟩, fun hq2 => ⟨⟨by omega, by omega⟩, ⟨q + 1, by omega, rfl, ?_⟩, ?_⟩⟩, fun h => absurd h (by simp; omega)⟩
    · have hq2 := of_decide_eq_true hq2
      rw [decide_eq_false (fun p => by have := p.2 _ (List.getElem_mem hlt); omega)]
    · intro s hs
      rw [List.take_succ_eq_append_getElem hlt] at hs
      rcases List.mem_append.1 hs with hs | hs
      · exact hok s hs
      · rw [List.mem_singleton.1 hs]; have := of_decide_eq_false hq2; omega
    · rw [lkI_eq (k := .i64) (n := (q : Int) + 1) rfl]; omega
  · have hie : q = ss.length := by omega
    subst hie
    rw [List.take_length] at hok
    simp only [lawG, ↓Xn, ↓Xo, ↓Xg, ↓Xd, ↓Xe, ↓Xf, Tryz.VΓ, Tryz.Γs, Xp, Xi, Nat.reduceAdd, Nat.reduceSub, Nat.reduceLT, Nat.reduceLeDiff, reduceIte, reduceCtorEq, Nat.reduceEqDiff, implies_true, forall_const, lawV, h2, h13, h14, h15, hj]
    exact ⟨fun h => absurd h (by simp), fun _ => ⟨by rw [decide_eq_true ⟨by omega, hok⟩], Kp.refl _⟩⟩
set_option maxHeartbeats 2000000 in
theorem sc_keep_Head {bs : List Res} {j : Nat} {fs : List (Bytes × Bytes)} {m : Bool} (hj : bs[j]? = some (.own (fs.flatMap fc) 86 2 fs.length m)) (hl : ∀ f ∈ fs, f.1.length ≤ 140737488355328 ∧ f.2.length ≤ 140737488355328) (a c : Int) :
    SC Tryz.V 21 [.agg [.int .i64 a, .int .i64 c, .o j fs.length]] bs (fun r b => r = .bool (decide (fs.length ≤ 80 ∧ ∀ f ∈ fs, f.1.length + f.2.length ≤ 600)) ∧ Kp bs b) := by
  have hjl : j < bs.length := (List.getElem?_eq_some_iff.1 hj).1
  refine sc_of 3000 Tryz.func21 rfl Tryz.ntmps21 Tryz.results21 Tryz.call21 (by simp) (fun β β' hb => concL_within bs.length _ (by simp [within, within.withinL, hjl]) β β' hb) ?_
  simp only [lawG, ↓Xn, ↓Xo, ↓Xg, ↓Xd, ↓Xe, ↓Xf, Tryz.VΓ, Tryz.Γs, Xp, Xi, Nat.reduceAdd, Nat.reduceSub, Nat.reduceLT, Nat.reduceLeDiff, reduceIte, reduceCtorEq, Nat.reduceEqDiff, implies_true, forall_const, lawV, lawB]
  refine ⟨fun h => ⟨?_, (Kp.refl _).app _⟩, fun h => ?_⟩
  · have h := of_decide_eq_true h
    rw [decide_eq_false (fun q => by have := q.1; omega)]
  have h := of_decide_eq_false h
  have hj2 := at_old hj [.cells [.int .i64 a, .int .i64 c, .o j fs.length] 40 true]
  refine loopV_mk (fun σ => ∃ q : Nat, q ≤ fs.length ∧ lk 10 σ.t = some (.o j fs.length) ∧ lk 11 σ.t = some (.int .i64 fs.length) ∧ lk 12 σ.t = some (.int .i64 q) ∧ σ.b[j]? = some (.own (fs.flatMap fc) 86 2 fs.length m) ∧ Kp bs σ.b ∧ ∀ f ∈ fs.take q, f.1.length + f.2.length ≤ 600) (fun σ => fs.length - lkI 12 σ) ⟨0, by omega, rfl, rfl, rfl, hj2, (Kp.refl _).app _, by simp⟩ ?_
  rintro ⟨t, b⟩ ⟨q, hq, h10, h11, h12, hb, hkp, hok⟩
  simp only at h10 h11 h12 hb hkp
  rw [lkI_eq h12]
  by_cases hlt : q < fs.length
  · have hu := fc_at fs q hlt
    have hul := fc_len fs
    have hb1 := fun X => at_old hb [X]
    unfold fc at hb hb1 hu hul
    have hbd := hl _ (List.getElem_mem hlt)
    simp only [lawG, ↓Xn, ↓Xo, ↓Xg, ↓Xd, ↓Xe, ↓Xf, Tryz.VΓ, Tryz.Γs, Xp, Xi, Nat.reduceAdd, Nat.reduceSub, Nat.reduceLT, Nat.reduceLeDiff, reduceIte, reduceCtorEq, Nat.reduceEqDiff, implies_true, forall_const, lawV, h10, h11, h12, hb, hu, hul, lawB, Int.toNat_natCast]
    refine ⟨fun _ => ⟨⟨by omega, by omega⟩, by omega, ⟨by omega, by omega⟩, fun hq2 => ⟨?_, hkp.app _⟩, fun hq2 => ⟨⟨by omega, by omega⟩, ⟨q + 1, by omega, rfl, hb1 _, hkp.app _, ?_⟩, ?_⟩⟩, fun h => absurd h (by simp; omega)⟩
    · have hq2 := of_decide_eq_true hq2
      rw [decide_eq_false (fun p => by have := p.2 _ (List.getElem_mem hlt); omega)]
    · intro s hs
      rw [List.take_succ_eq_append_getElem hlt] at hs
      rcases List.mem_append.1 hs with hs | hs
      · exact hok s hs
      · rw [List.mem_singleton.1 hs]; have := of_decide_eq_false hq2; omega
    · rw [lkI_eq (k := .i64) (n := (q : Int) + 1) rfl]; omega
  · have hie : q = fs.length := by omega
    subst hie
    rw [List.take_length] at hok
    have hlt2 : decide ((fs.length : Int) < fs.length) = false := by simp
    simp only [lawG, ↓Xn, ↓Xo, ↓Xg, ↓Xd, ↓Xe, ↓Xf, Tryz.VΓ, Tryz.Γs, Xp, Xi, Nat.reduceAdd, Nat.reduceSub, Nat.reduceLT, Nat.reduceLeDiff, reduceIte, reduceCtorEq, Nat.reduceEqDiff, implies_true, forall_const, lawV, h10, h11, h12, hb, hlt2]
    exact ⟨by rw [decide_eq_true ⟨by omega, hok⟩], hkp⟩
end Go.Proofs.YtcndmooeglfilaaGreatDoor
/- The walks of the laws on redirects. -/
set_option linter.all false
set_option maxRecDepth 20000
namespace Go.Proofs.YtcndmooeglfilaaGreatDoor
open Go Vc Go.RowKit Wf
set_option linter.unusedSimpArgs false
theorem m_red1 : redirNext ⟨([97, 46, 101, 120, 97, 109, 112, 108, 101] : List UInt8), 0, ([47, 98, 47, 99] : List UInt8), [], [], false, false⟩ [(locS, ([46, 46, 47, 120] : List UInt8))] [] 0 = (⟨([97, 46, 101, 120, 97, 109, 112, 108, 101] : List UInt8), 0, ([47, 120] : List UInt8), [], [], false, false⟩, 0) := by decide +kernel
theorem m_red2 : redirNext ⟨([97, 46, 101, 120, 97, 109, 112, 108, 101] : List UInt8), 0, ([47, 98, 47, 99] : List UInt8), [], [], false, false⟩ [(locS, ([104, 116, 116, 112, 58, 47, 47, 97, 46, 101, 120, 97, 109, 112, 108, 101, 47] : List UInt8))] [] 0 = (Url.none, 253) := by decide +kernel
theorem sc_forget {V : Cx} {f : FuncId} {args : List SV} {bs : List Res} {x : SV} (hx : flat x = true) (h : SC V f args bs (fun r b => r = x ∧ Kp bs b)) : SC V f args bs (fun r b => r = x ∧ b = bs) := by
  refine ⟨h.1, fun β fp w hbx hG hE => (h.2 β fp w hbx hG hE).mono ?_⟩
  rintro e w' ⟨r, bs', β₂, fp₂, ⟨rfl, hlen, hkp⟩, hag, -, hall, hfr, hmine, hfoot⟩
  have old : ∀ {i r}, bs[i]? = some r → bs'[i]? = some r := fun {i r} hi => (hkp i (List.getElem?_eq_some_iff.1 hi).1).trans hi
  refine ⟨r, bs, β₂, fp₂, ⟨rfl, rfl⟩, hag, Nat.le_refl _, fun β' hβ => ?_, hfr, fun i r' hi => hmine i r' (old hi), fun i r' hi => hfoot i r' (old hi)⟩
  have hc : ∀ i, i < bs.length → (if i < bs.length then β' i else β₂ i) = β' i := fun i hi => if_pos hi
  have hall2 := hall (fun i => if i < bs.length then β' i else β₂ i) (fun i _ => by
    by_cases hi : i < bs.length
    · exact (hβ i hi).trans (hc i hi).symm
    · exact (if_neg hi).symm)
  have hb1 := hbx (fun i => if i < bs.length then β' i else β₂ i) (fun i hi => ((hag i hi).trans (hβ i hi)).trans (hc i hi).symm)
  have hb2 := hbx β' (fun i hi => (hag i hi).trans (hβ i hi))
  obtain ⟨he, hbx2⟩ := hall2
  refine ⟨by rw [he, conc_flat _ hx _ β'], ⟨fun i r hi => ?_, fun i r hi => hbx2.lt i r (old hi), fun i j r r' hi hj => hbx2.sep i j r r' (old hi) (old hj)⟩⟩
  have h1 := hb1.holds i r hi
  have h2 := hb2.holds i r hi
  have h3 := hbx2.holds i r (old hi)
  have e := hc i (List.getElem?_eq_some_iff.1 hi).1
  simp only [e] at h1 h3
  exact res_agr h1 h2 h3
set_option maxHeartbeats 2000000 in
theorem sc_law25_to2 {bs : List Res} {n : Nat} (hn : bs.length = n) (s : Bytes) :
    SC Tryz.V 29 [.str s] bs (fun r b => r = .agg [.int .i64 0, .int .i64 302, .o (n + 1) 1] ∧ b = bs ++ [.cells [.int .i64 0, .int .i64 302, .o (n + 1) 1] 40 true, .own ([(locS, s)].flatMap fc) 86 2 1 true]) := by
  refine sc_of 3000 Tryz.func29 rfl Tryz.ntmps29 Tryz.results29 Tryz.call29 (by simp) (fun β β' hb => concL_within bs.length _ (by simp [within, within.withinL]) β β' hb) ?_
  subst hn
  simp only [lawG, ↓Xn, ↓Xo, ↓Xg, ↓Xd, ↓Xe, ↓Xf, Tryz.VΓ, Tryz.Γs, Xp, Xi, Nat.reduceAdd, Nat.reduceSub, Nat.reduceLT, Nat.reduceLeDiff, reduceIte, reduceCtorEq, Nat.reduceEqDiff, implies_true, forall_const, lawV, lawB]
  exact ⟨by omega, by simp, by simp [fc, locS]⟩
theorem outs_to {bs : List Res} {n : Nat} (hn : bs.length = n) (X Y : Res) : Outs [(n, 0, 0), (n + 1, 0, 0)] (bs ++ [X, Y]) bs := by
  subst hn
  refine outs_of (fun j hj => ?_) (by simp)
  have h1 := hj _ List.mem_cons_self
  have h2 := hj _ (List.mem_cons_of_mem _ List.mem_cons_self)
  simp only at h1 h2
  rcases Nat.lt_or_ge j bs.length with h | h
  · rw [List.getElem?_append_left h]
  · rw [List.getElem?_eq_none (by simp; omega), List.getElem?_eq_none h]
theorem wsv_flat (u : Url) (e : Int) : flat (.tup [wsv u, .int .i64 e]) = true := by simp [flat, flat.flatL, wsv]
theorem fs_ok (s : Bytes) : ∀ f ∈ [(locS, s)], f.1.length ≤ 9223372036854775807 := by
  intro f hf
  rw [List.mem_singleton.1 hf]
  simp [locS]
theorem next_sane {bs : List Res} {j : Nat} {s : Bytes} (hj : bs[j]? = some (.own ([(locS, s)].flatMap fc) 86 2 1 true)) {v : Url} {e : Int} (h : redirNext ⟨([97, 46, 101, 120, 97, 109, 112, 108, 101] : List UInt8), 0, ([47, 98, 47, 99] : List UInt8), [], [], false, false⟩ [(locS, s)] [] 0 = (v, e)) :
    SC Tryz.V 22 [.agg [.str ([97, 46, 101, 120, 97, 109, 112, 108, 101] : List UInt8), .int .i64 0, .str ([47, 98, 47, 99] : List UInt8), .str [], .str [], .bool false, .bool false], .agg [.int .i64 0, .int .i64 302, .o j 1], .nils, .int .i64 0] bs (fun r b => r = .tup [wsv v, .int .i64 e] ∧ b = bs) := by
  have h2 := sc_redir_Next (fs := [(locS, s)]) hj (by simp) (fs_ok s) 0 302 (sn := .nils) (L := []) (.inl ⟨rfl, rfl, rfl⟩) (by simp) ⟨([97, 46, 101, 120, 97, 109, 112, 108, 101] : List UInt8), 0, ([47, 98, 47, 99] : List UInt8), [], [], false, false⟩ ⟨by decide, by decide, by decide⟩ 0
  rw [h] at h2
  exact sc_forget (wsv_flat _ _) h2
set_option maxRecDepth 20000 in
set_option maxHeartbeats 2000000 in
theorem p_law25_sane : PC Tryz.V 19 [] (.bool true) := by
  have p1 := p_redir_Is 308
  have p2 := p_redir_Is 304
  rw [show redirSt 308 = true from rfl] at p1
  rw [show redirSt 304 = false from rfl] at p2
  refine pc_of 3000 Tryz.func19 rfl Tryz.ntmps19 Tryz.results19 Tryz.call19 (by simp) (by simp [flat, flat.flatL]) (by simp [flat, flat.flatL]) ?_
  simp only [lawG, ↓Xn, ↓Xo, ↓Xg, ↓Xd, ↓Xe, ↓Xf, Tryz.VΓ, Tryz.Γs, Xp, Xi, Nat.reduceAdd, Nat.reduceSub, Nat.reduceLT, Nat.reduceLeDiff, reduceIte, reduceCtorEq, Nat.reduceEqDiff, implies_true, forall_const, lawV, beq_self_eq_true, bne_self_eq_false, Int.reduceBEq, Int.reduceBNe, Int.reduceLT, Int.reduceLE]
  refine callD_scw [(1, 0, 0), (2, 0, 0)] (sc_law25_to2 (n := 1) rfl ([46, 46, 47, 120] : List UInt8)) (outs_to (n := 1) rfl _ _) ?_
  simp only [lawG, ↓Xn, ↓Xo, ↓Xg, ↓Xd, ↓Xe, ↓Xf, Tryz.VΓ, Tryz.Γs, Xp, Xi, Nat.reduceAdd, Nat.reduceSub, Nat.reduceLT, Nat.reduceLeDiff, reduceIte, reduceCtorEq, Nat.reduceEqDiff, implies_true, forall_const, lawV, lawB, beq_self_eq_true, bne_self_eq_false, Int.reduceBEq, Int.reduceBNe, Int.reduceLT, Int.reduceLE, List.cons_append, List.nil_append]
  refine callD_scw [] (next_sane (j := 2) rfl m_red1) (fun _ _ _ => rfl) ?_
  simp only [lawG, ↓Xn, ↓Xo, ↓Xg, ↓Xd, ↓Xe, ↓Xf, Tryz.VΓ, Tryz.Γs, Xp, Xi, Nat.reduceAdd, Nat.reduceSub, Nat.reduceLT, Nat.reduceLeDiff, reduceIte, reduceCtorEq, Nat.reduceEqDiff, implies_true, forall_const, lawV, lawB, beq_self_eq_true, bne_self_eq_false, Int.reduceBEq, Int.reduceBNe, Int.reduceLT, Int.reduceLE, List.cons_append, List.nil_append, wsv]
  refine ⟨(OkD_fast (by kernel_rfl)), ?_⟩
  refine callD_scw [(4, 0, 0), (5, 0, 0)] (sc_law25_to2 (n := 4) rfl ([104, 116, 116, 112, 58, 47, 47, 97, 46, 101, 120, 97, 109, 112, 108, 101, 47] : List UInt8)) (outs_to (n := 4) rfl _ _) ?_
  simp only [lawG, ↓Xn, ↓Xo, ↓Xg, ↓Xd, ↓Xe, ↓Xf, Tryz.VΓ, Tryz.Γs, Xp, Xi, Nat.reduceAdd, Nat.reduceSub, Nat.reduceLT, Nat.reduceLeDiff, reduceIte, reduceCtorEq, Nat.reduceEqDiff, implies_true, forall_const, lawV, lawB, beq_self_eq_true, bne_self_eq_false, Int.reduceBEq, Int.reduceBNe, Int.reduceLT, Int.reduceLE, List.cons_append, List.nil_append]
  refine callD_scw [] (next_sane (j := 5) rfl m_red2) (fun _ _ _ => rfl) ?_
  simp only [lawG, ↓Xn, ↓Xo, ↓Xg, ↓Xd, ↓Xe, ↓Xf, Tryz.VΓ, Tryz.Γs, Xp, Xi, Nat.reduceAdd, Nat.reduceSub, Nat.reduceLT, Nat.reduceLeDiff, reduceIte, reduceCtorEq, Nat.reduceEqDiff, implies_true, forall_const, lawV, lawB, beq_self_eq_true, bne_self_eq_false, Int.reduceBEq, Int.reduceBNe, Int.reduceLT, Int.reduceLE, List.cons_append, List.nil_append, wsv, Url.none]
  refine ⟨(OkD_fast (by kernel_rfl)), ?_⟩
  (refine callV_pc (p1) ?_; simp only [lawG, ↓Xn, ↓Xo, ↓Xg, ↓Xd, ↓Xe, ↓Xf, Tryz.VΓ, Tryz.Γs, Xp, Xi, Nat.reduceAdd, Nat.reduceSub, Nat.reduceLT, Nat.reduceLeDiff, reduceIte, reduceCtorEq, Nat.reduceEqDiff, implies_true, forall_const, lawV, beq_self_eq_true, bne_self_eq_false, Int.reduceBEq, Int.reduceBNe, Int.reduceLT, Int.reduceLE])
  (refine callV_pc (p2) ?_; simp only [lawG, ↓Xn, ↓Xo, ↓Xg, ↓Xd, ↓Xe, ↓Xf, Tryz.VΓ, Tryz.Γs, Xp, Xi, Nat.reduceAdd, Nat.reduceSub, Nat.reduceLT, Nat.reduceLeDiff, reduceIte, reduceCtorEq, Nat.reduceEqDiff, implies_true, forall_const, lawV, beq_self_eq_true, bne_self_eq_false, Int.reduceBEq, Int.reduceBNe, Int.reduceLT, Int.reduceLE])
theorem len_snoc {α : Type} (L : List α) (x : α) : (L ++ [x]).length = L.length + 1 := by simp
theorem can_fairU {u : Url} (hc : CanUrl u) : Fair u := by
  have h1 := hostPort_back hc.host
  have h2 := urlText_len u
  have h3 := hc.len
  have h4 : u.query.length ≤ 4096 := by
    cases hq : u.hasQuery
    · rw [hc.noq hq]; simp
    · have := h2.2.1 hq; omega
  have h5 : u.fragment.length ≤ 4096 := by
    cases hq : u.hasFrag
    · rw [hc.nof hq]; simp
    · have := h2.2.2 hq; omega
  exact ⟨by omega, by omega, by omega⟩
theorem parse_fairU (s : Bytes) : Fair (urlParse s).1 := by
  by_cases h : (urlParse s).2 = 0
  · exact can_fairU (can_of_parse (s := s) (u := (urlParse s).1) (by rw [← h]))
  · rw [urlParse_err s h]; exact ⟨by decide, by decide, by decide⟩
theorem redirNext_can {u v : Url} {fs : List (Bytes × Bytes)} {seen : List Url} {hops : Int} (h : redirNext u fs seen hops = (v, 0)) : CanUrl v := by
  unfold redirNext redirOf redirEnd at h
  split at h
  · simp at h
  split at h
  · simp at h
  split at h
  · simp at h
  split at h
  · simp at h
  rename_i h4
  split at h
  · simp at h
  simp only [Prod.mk.injEq, and_true] at h
  subst h
  have h4 := Decidable.not_not.1 h4
  refine CanUrl.bare ?_
  generalize hr : urlRelative u _ = r at h4 ⊢
  obtain ⟨r, e⟩ := r
  simp only at h4
  subst h4
  unfold urlRelative at hr
  split at hr
  · simp at hr
  split at hr
  · rename_i k; exact absurd (Prod.mk.inj hr).2 k
  split at hr
  · simp at hr
  exact can_of_parse hr
theorem next_at {bs : List Res} {j : Nat} {s : Bytes} (hj : bs[j]? = some (.own ([(locS, s)].flatMap fc) 86 2 1 true)) {sn : SV} {L : List Url} (hi : Sq 29 7 sn bs (L.flatMap uc) L.length) (hL : L.length ≤ 1000000) (u : Url) (fu : Fair u) (hops : Int) :
    SC Tryz.V 22 [wsv u, .agg [.int .i64 0, .int .i64 302, .o j 1], sn, .int .i64 hops] bs (fun r b => r = .tup [wsv (redirNext u [(locS, s)] L hops).1, .int .i64 (redirNext u [(locS, s)] L hops).2] ∧ b = bs) :=
  sc_forget (wsv_flat _ _) (sc_redir_Next (fs := [(locS, s)]) hj (by simp) (fs_ok s) 0 302 hi hL u fu hops)
theorem rnext_at {bs : List Res} {j : Nat} {s : Bytes} (hj : bs[j]? = some (.own ([(locS, s)].flatMap fc) 86 2 1 true)) {sn : SV} {L : List Url} (hi : Sq 29 7 sn bs (L.flatMap uc) L.length) (hL : L.length ≤ 1000000) (u : Url) (fu : Fair u) (hops : Int) :
    SC Tryz.V 23 [wsv u, .agg [.int .i64 0, .int .i64 302, .o j 1], sn, .int .i64 hops] bs (fun r b => r = .tup [wsv (redirNext u [(locS, s)] L hops).1, .int .i64 (redirNext u [(locS, s)] L hops).2] ∧ b = bs) :=
  sc_forget (wsv_flat _ _) (sc_r25_Next (fs := [(locS, s)]) hj (by simp) (fs_ok s) 0 302 hi hL u fu hops)
set_option maxRecDepth 20000 in
set_option maxHeartbeats 2000000 in
theorem p_law25_RedirectTexts (x y : Bytes) (again : Bool) (hops : Int) : PC Tryz.V 5 [.str x, .str y, .bool again, .int .i64 hops] (.bool true) := by
  have s1 := p_r7_Parse x
  have fu := parse_fairU x
  generalize urlParse x = z at s1 fu
  obtain ⟨u, e⟩ := z
  simp only at s1 fu
  have s2 := p_r7_Relative u y fu
  generalize urlRelative u y = q at s2
  obtain ⟨v, e2⟩ := q
  have s3 := p_r7_Bare v
  unfold wsv at s1 s2 s3
  simp only at s2
  refine pc_of 3000 Tryz.func5 rfl Tryz.ntmps5 Tryz.results5 Tryz.call5 (by simp) (by simp [flat, flat.flatL]) (by simp [flat, flat.flatL]) ?_
  simp only [lawG, ↓Xn, ↓Xo, ↓Xg, ↓Xd, ↓Xe, ↓Xf, Tryz.VΓ, Tryz.Γs, Xp, Xi, Nat.reduceAdd, Nat.reduceSub, Nat.reduceLT, Nat.reduceLeDiff, reduceIte, reduceCtorEq, Nat.reduceEqDiff, implies_true, forall_const, lawV, beq_self_eq_true, bne_self_eq_false, Int.reduceBEq, Int.reduceBNe, Int.reduceLT, Int.reduceLE]
  (refine callV_pc (p_law25_sane) ?_; simp only [lawG, ↓Xn, ↓Xo, ↓Xg, ↓Xd, ↓Xe, ↓Xf, Tryz.VΓ, Tryz.Γs, Xp, Xi, Nat.reduceAdd, Nat.reduceSub, Nat.reduceLT, Nat.reduceLeDiff, reduceIte, reduceCtorEq, Nat.reduceEqDiff, implies_true, forall_const, lawV, beq_self_eq_true, bne_self_eq_false, Int.reduceBEq, Int.reduceBNe, Int.reduceLT, Int.reduceLE])
  intro h1 h2
  (refine callV_pc (s1) ?_; simp only [lawG, ↓Xn, ↓Xo, ↓Xg, ↓Xd, ↓Xe, ↓Xf, Tryz.VΓ, Tryz.Γs, Xp, Xi, Nat.reduceAdd, Nat.reduceSub, Nat.reduceLT, Nat.reduceLeDiff, reduceIte, reduceCtorEq, Nat.reduceEqDiff, implies_true, forall_const, lawV, beq_self_eq_true, bne_self_eq_false, Int.reduceBEq, Int.reduceBNe, Int.reduceLT, Int.reduceLE])
  (refine callV_pc (s2) ?_; simp only [lawG, ↓Xn, ↓Xo, ↓Xg, ↓Xd, ↓Xe, ↓Xf, Tryz.VΓ, Tryz.Γs, Xp, Xi, Nat.reduceAdd, Nat.reduceSub, Nat.reduceLT, Nat.reduceLeDiff, reduceIte, reduceCtorEq, Nat.reduceEqDiff, implies_true, forall_const, lawV, beq_self_eq_true, bne_self_eq_false, Int.reduceBEq, Int.reduceBNe, Int.reduceLT, Int.reduceLE])
  refine ⟨fun ha => ⟨fun he => ?_, fun he => ?_⟩, fun ha => ?_⟩
  · (refine callV_pc s3 ?_; simp only [lawG, ↓Xn, ↓Xo, ↓Xg, ↓Xd, ↓Xe, ↓Xf, Tryz.VΓ, Tryz.Γs, Xp, Xi, Nat.reduceAdd, Nat.reduceSub, Nat.reduceLT, Nat.reduceLeDiff, reduceIte, reduceCtorEq, Nat.reduceEqDiff, implies_true, forall_const, lawV, beq_self_eq_true, bne_self_eq_false, Int.reduceBEq, Int.reduceBNe, Int.reduceLT, Int.reduceLE])
    refine ⟨by omega, ⟨by unfold maxLen; omega, by omega⟩, ?_⟩
    refine callD_scw [(4, 0, 0), (5, 0, 0)] (sc_law25_to2 (n := 4) rfl y) (outs_to (n := 4) rfl _ _) ?_
    simp only [lawG, ↓Xn, ↓Xo, ↓Xg, ↓Xd, ↓Xe, ↓Xf, Tryz.VΓ, Tryz.Γs, Xp, Xi, Nat.reduceAdd, Nat.reduceSub, Nat.reduceLT, Nat.reduceLeDiff, reduceIte, reduceCtorEq, Nat.reduceEqDiff, implies_true, forall_const, lawV, lawB, beq_self_eq_true, bne_self_eq_false, Int.reduceBEq, Int.reduceBNe, Int.reduceLT, Int.reduceLE, List.cons_append, List.nil_append]
    refine callD_scw [] (next_at (j := 5) rfl (sn := .o 3 1) (L := [v.bare]) (.inr ⟨3, true, rfl, rfl⟩) (by simp) u fu hops) (fun _ _ _ => rfl) ?_
    simp only [lawG, ↓Xn, ↓Xo, ↓Xg, ↓Xd, ↓Xe, ↓Xf, Tryz.VΓ, Tryz.Γs, Xp, Xi, Nat.reduceAdd, Nat.reduceSub, Nat.reduceLT, Nat.reduceLeDiff, reduceIte, reduceCtorEq, Nat.reduceEqDiff, implies_true, forall_const, lawV, lawB, beq_self_eq_true, bne_self_eq_false, Int.reduceBEq, Int.reduceBNe, Int.reduceLT, Int.reduceLE, List.cons_append, List.nil_append, wsv]
    refine ⟨(OkD_fast (by kernel_rfl)), ?_⟩
    refine callD_scw [(7, 0, 0), (8, 0, 0)] (sc_law25_to2 (n := 7) rfl y) (outs_to (n := 7) rfl _ _) ?_
    simp only [lawG, ↓Xn, ↓Xo, ↓Xg, ↓Xd, ↓Xe, ↓Xf, Tryz.VΓ, Tryz.Γs, Xp, Xi, Nat.reduceAdd, Nat.reduceSub, Nat.reduceLT, Nat.reduceLeDiff, reduceIte, reduceCtorEq, Nat.reduceEqDiff, implies_true, forall_const, lawV, lawB, beq_self_eq_true, bne_self_eq_false, Int.reduceBEq, Int.reduceBNe, Int.reduceLT, Int.reduceLE, List.cons_append, List.nil_append]
    refine callD_scw [] (rnext_at (j := 8) rfl (sn := .o 3 1) (L := [v.bare]) (.inr ⟨3, true, rfl, rfl⟩) (by simp) u fu hops) (fun _ _ _ => rfl) ?_
    simp only [lawG, ↓Xn, ↓Xo, ↓Xg, ↓Xd, ↓Xe, ↓Xf, Tryz.VΓ, Tryz.Γs, Xp, Xi, Nat.reduceAdd, Nat.reduceSub, Nat.reduceLT, Nat.reduceLeDiff, reduceIte, reduceCtorEq, Nat.reduceEqDiff, implies_true, forall_const, lawV, lawB, beq_self_eq_true, bne_self_eq_false, Int.reduceBEq, Int.reduceBNe, Int.reduceLT, Int.reduceLE, List.cons_append, List.nil_append, wsv]
    exact (OkD_fast (by kernel_rfl))
  ·
    refine callD_scw [(2, 0, 0), (3, 0, 0)] (sc_law25_to2 (n := 2) rfl y) (outs_to (n := 2) rfl _ _) ?_
    simp only [lawG, ↓Xn, ↓Xo, ↓Xg, ↓Xd, ↓Xe, ↓Xf, Tryz.VΓ, Tryz.Γs, Xp, Xi, Nat.reduceAdd, Nat.reduceSub, Nat.reduceLT, Nat.reduceLeDiff, reduceIte, reduceCtorEq, Nat.reduceEqDiff, implies_true, forall_const, lawV, lawB, beq_self_eq_true, bne_self_eq_false, Int.reduceBEq, Int.reduceBNe, Int.reduceLT, Int.reduceLE, List.cons_append, List.nil_append]
    refine callD_scw [] (next_at (j := 3) rfl (sn := .nils) (L := ([] : List Url)) (.inl ⟨rfl, rfl, rfl⟩) (by simp) u fu hops) (fun _ _ _ => rfl) ?_
    simp only [lawG, ↓Xn, ↓Xo, ↓Xg, ↓Xd, ↓Xe, ↓Xf, Tryz.VΓ, Tryz.Γs, Xp, Xi, Nat.reduceAdd, Nat.reduceSub, Nat.reduceLT, Nat.reduceLeDiff, reduceIte, reduceCtorEq, Nat.reduceEqDiff, implies_true, forall_const, lawV, lawB, beq_self_eq_true, bne_self_eq_false, Int.reduceBEq, Int.reduceBNe, Int.reduceLT, Int.reduceLE, List.cons_append, List.nil_append, wsv]
    refine ⟨(OkD_fast (by kernel_rfl)), ?_⟩
    refine callD_scw [(5, 0, 0), (6, 0, 0)] (sc_law25_to2 (n := 5) rfl y) (outs_to (n := 5) rfl _ _) ?_
    simp only [lawG, ↓Xn, ↓Xo, ↓Xg, ↓Xd, ↓Xe, ↓Xf, Tryz.VΓ, Tryz.Γs, Xp, Xi, Nat.reduceAdd, Nat.reduceSub, Nat.reduceLT, Nat.reduceLeDiff, reduceIte, reduceCtorEq, Nat.reduceEqDiff, implies_true, forall_const, lawV, lawB, beq_self_eq_true, bne_self_eq_false, Int.reduceBEq, Int.reduceBNe, Int.reduceLT, Int.reduceLE, List.cons_append, List.nil_append]
    refine callD_scw [] (rnext_at (j := 6) rfl (sn := .nils) (L := ([] : List Url)) (.inl ⟨rfl, rfl, rfl⟩) (by simp) u fu hops) (fun _ _ _ => rfl) ?_
    simp only [lawG, ↓Xn, ↓Xo, ↓Xg, ↓Xd, ↓Xe, ↓Xf, Tryz.VΓ, Tryz.Γs, Xp, Xi, Nat.reduceAdd, Nat.reduceSub, Nat.reduceLT, Nat.reduceLeDiff, reduceIte, reduceCtorEq, Nat.reduceEqDiff, implies_true, forall_const, lawV, lawB, beq_self_eq_true, bne_self_eq_false, Int.reduceBEq, Int.reduceBNe, Int.reduceLT, Int.reduceLE, List.cons_append, List.nil_append, wsv]
    exact (OkD_fast (by kernel_rfl))
  ·
    refine callD_scw [(2, 0, 0), (3, 0, 0)] (sc_law25_to2 (n := 2) rfl y) (outs_to (n := 2) rfl _ _) ?_
    simp only [lawG, ↓Xn, ↓Xo, ↓Xg, ↓Xd, ↓Xe, ↓Xf, Tryz.VΓ, Tryz.Γs, Xp, Xi, Nat.reduceAdd, Nat.reduceSub, Nat.reduceLT, Nat.reduceLeDiff, reduceIte, reduceCtorEq, Nat.reduceEqDiff, implies_true, forall_const, lawV, lawB, beq_self_eq_true, bne_self_eq_false, Int.reduceBEq, Int.reduceBNe, Int.reduceLT, Int.reduceLE, List.cons_append, List.nil_append]
    refine callD_scw [] (next_at (j := 3) rfl (sn := .nils) (L := ([] : List Url)) (.inl ⟨rfl, rfl, rfl⟩) (by simp) u fu hops) (fun _ _ _ => rfl) ?_
    simp only [lawG, ↓Xn, ↓Xo, ↓Xg, ↓Xd, ↓Xe, ↓Xf, Tryz.VΓ, Tryz.Γs, Xp, Xi, Nat.reduceAdd, Nat.reduceSub, Nat.reduceLT, Nat.reduceLeDiff, reduceIte, reduceCtorEq, Nat.reduceEqDiff, implies_true, forall_const, lawV, lawB, beq_self_eq_true, bne_self_eq_false, Int.reduceBEq, Int.reduceBNe, Int.reduceLT, Int.reduceLE, List.cons_append, List.nil_append, wsv]
    refine ⟨(OkD_fast (by kernel_rfl)), ?_⟩
    refine callD_scw [(5, 0, 0), (6, 0, 0)] (sc_law25_to2 (n := 5) rfl y) (outs_to (n := 5) rfl _ _) ?_
    simp only [lawG, ↓Xn, ↓Xo, ↓Xg, ↓Xd, ↓Xe, ↓Xf, Tryz.VΓ, Tryz.Γs, Xp, Xi, Nat.reduceAdd, Nat.reduceSub, Nat.reduceLT, Nat.reduceLeDiff, reduceIte, reduceCtorEq, Nat.reduceEqDiff, implies_true, forall_const, lawV, lawB, beq_self_eq_true, bne_self_eq_false, Int.reduceBEq, Int.reduceBNe, Int.reduceLT, Int.reduceLE, List.cons_append, List.nil_append]
    refine callD_scw [] (rnext_at (j := 6) rfl (sn := .nils) (L := ([] : List Url)) (.inl ⟨rfl, rfl, rfl⟩) (by simp) u fu hops) (fun _ _ _ => rfl) ?_
    simp only [lawG, ↓Xn, ↓Xo, ↓Xg, ↓Xd, ↓Xe, ↓Xf, Tryz.VΓ, Tryz.Γs, Xp, Xi, Nat.reduceAdd, Nat.reduceSub, Nat.reduceLT, Nat.reduceLeDiff, reduceIte, reduceCtorEq, Nat.reduceEqDiff, implies_true, forall_const, lawV, lawB, beq_self_eq_true, bne_self_eq_false, Int.reduceBEq, Int.reduceBNe, Int.reduceLT, Int.reduceLE, List.cons_append, List.nil_append, wsv]
    exact (OkD_fast (by kernel_rfl))
set_option maxRecDepth 20000 in
set_option maxHeartbeats 2000000 in
theorem sc_law25_RedirectSafe (x y : Bytes) (ss : List Bytes) (hn : ss.length ≤ 9223372036854775807) (hops : Int) : SC Tryz.V 6 [.str x, .str y, .o 0 ss.length, .int .i64 hops] [.own (ss.map SV.str) 9 1 ss.length false] (fun r _ => r = .bool true) := by
  have s1 := p_r7_Parse x
  have fu := parse_fairU x
  generalize urlParse x = z at s1 fu
  obtain ⟨u, e⟩ := z
  simp only at s1 fu
  unfold wsv at s1
  refine sc_of 3000 Tryz.func6 rfl Tryz.ntmps6 Tryz.results6 Tryz.call6 (by simp) (fun β β' hb => concL_within 1 _ (by simp [within, within.withinL]) β β' hb) ?_
  simp only [lawG, ↓Xn, ↓Xo, ↓Xg, ↓Xd, ↓Xe, ↓Xf, Tryz.VΓ, Tryz.Γs, Xp, Xi, Nat.reduceAdd, Nat.reduceSub, Nat.reduceLT, Nat.reduceLeDiff, reduceIte, reduceCtorEq, Nat.reduceEqDiff, implies_true, forall_const, lawV, beq_self_eq_true, bne_self_eq_false, Int.reduceBEq, Int.reduceBNe, Int.reduceLT, Int.reduceLE]
  (refine callV_pc (p_law25_sane) ?_; simp only [lawG, ↓Xn, ↓Xo, ↓Xg, ↓Xd, ↓Xe, ↓Xf, Tryz.VΓ, Tryz.Γs, Xp, Xi, Nat.reduceAdd, Nat.reduceSub, Nat.reduceLT, Nat.reduceLeDiff, reduceIte, reduceCtorEq, Nat.reduceEqDiff, implies_true, forall_const, lawV, beq_self_eq_true, bne_self_eq_false, Int.reduceBEq, Int.reduceBNe, Int.reduceLT, Int.reduceLE])
  intro h1 h2
  refine callV_sc (sc_forget rfl (sc_keep_Strings (bs := [.own (ss.map SV.str) 9 1 ss.length false]) (j := 0) rfl hn 10 300)) ?_
  rintro r b ⟨rfl, rfl⟩
  simp only [lawG, ↓Xn, ↓Xo, ↓Xg, ↓Xd, ↓Xe, ↓Xf, Tryz.VΓ, Tryz.Γs, Xp, Xi, Nat.reduceAdd, Nat.reduceSub, Nat.reduceLT, Nat.reduceLeDiff, reduceIte, reduceCtorEq, Nat.reduceEqDiff, implies_true, forall_const, lawV, beq_self_eq_true, bne_self_eq_false, Int.reduceBEq, Int.reduceBNe, Int.reduceLT, Int.reduceLE]
  intro hs
  have hs := of_decide_eq_true (by simpa only [Bool.not_eq_false'] using hs)
  (refine callV_pc (s1) ?_; simp only [lawG, ↓Xn, ↓Xo, ↓Xg, ↓Xd, ↓Xe, ↓Xf, Tryz.VΓ, Tryz.Γs, Xp, Xi, Nat.reduceAdd, Nat.reduceSub, Nat.reduceLT, Nat.reduceLeDiff, reduceIte, reduceCtorEq, Nat.reduceEqDiff, implies_true, forall_const, lawV, beq_self_eq_true, bne_self_eq_false, Int.reduceBEq, Int.reduceBNe, Int.reduceLT, Int.reduceLE])
  refine loopV_mk (fun σ => ∃ (q : Nat) (L : List Url) (sn : SV), q ≤ ss.length ∧ L.length = q ∧ lk 1 σ.t = some (.str y) ∧ lk 3 σ.t = some (.int .i64 hops) ∧ lk 8 σ.t = some (.bool false) ∧ lk 9 σ.t = some (.p 1 0) ∧ lk 11 σ.t = some sn ∧ lk 40 σ.t = some (.o 0 ss.length) ∧ lk 41 σ.t = some (.int .i64 ss.length) ∧ lk 42 σ.t = some (.int .i64 q) ∧
    σ.b[0]? = some (.own (ss.map SV.str) 9 1 ss.length false) ∧ σ.b[1]? = some (.cells (uc u) 29 true) ∧ Sl 29 7 2 sn σ.b (L.flatMap uc) L.length) (fun σ => ss.length - lkI 42 σ) ⟨0, [], .nils, by omega, rfl, rfl, rfl, rfl, rfl, rfl, rfl, rfl, rfl, rfl, rfl, .inl ⟨rfl, rfl, rfl⟩⟩ ?_
  rintro ⟨t, b⟩ ⟨q, L, sn, hq, hL, l1, l3, l8, l9, l11, l40, l41, l42, g0, g1, hsl⟩
  simp only at l1 l3 l8 l9 l11 l40 l41 l42 g0 g1 hsl
  rw [lkI_eq l42]
  by_cases hlt : q < ss.length
  · have hlt2 : decide ((q : Int) < ss.length) = true := decide_eq_true (by omega)
    have hu := sc1_at ss q hlt
    have s2 := p_r7_Parse ss[q]
    generalize urlParse ss[q] = p at s2
    obtain ⟨v, e2⟩ := p
    unfold wsv at s2
    simp only at s2
    have m0 := fun X => at_old g0 [X]
    have m1 := fun X => at_old g1 [X]
    have hbl : 2 ≤ b.length := (List.getElem?_eq_some_iff.1 g1).1
    rcases hsl with ⟨rfl, hc0, hn0⟩ | ⟨i, rfl, hLi, hi⟩
    · simp only [lawG, ↓Xn, ↓Xo, ↓Xg, ↓Xd, ↓Xe, ↓Xf, Tryz.VΓ, Tryz.Γs, Xp, Xi, Nat.reduceAdd, Nat.reduceSub, Nat.reduceLT, Nat.reduceLeDiff, reduceIte, reduceCtorEq, Nat.reduceEqDiff, implies_true, forall_const, lawV, l1, l3, l8, l9, l11, l40, l41, l42, g0, g1, hu, hlt2, lawB, Int.toNat_natCast, List.length_map]
      refine ⟨⟨by omega, by omega⟩, by omega, ?_⟩
      (refine callV_pc (s2) ?_; simp only [lawG, ↓Xn, ↓Xo, ↓Xg, ↓Xd, ↓Xe, ↓Xf, Tryz.VΓ, Tryz.Γs, Xp, Xi, Nat.reduceAdd, Nat.reduceSub, Nat.reduceLT, Nat.reduceLeDiff, reduceIte, reduceCtorEq, Nat.reduceEqDiff, implies_true, forall_const, lawV, l1, l3, l8, l9, l11, l40, l41, l42, g0, g1, m0, m1, lawB, beq_self_eq_true, bne_self_eq_false, Int.reduceBEq, Int.reduceBNe, Int.reduceLT, Int.reduceLE])
      obtain rfl := List.length_eq_zero_iff.1 hn0
      have hq0 : q = 0 := by simpa using hL.symm
      subst hq0
      refine ⟨by omega, ⟨by unfold maxLen; omega, by omega⟩, ⟨by omega, by omega⟩, ⟨1, [v], _, by omega, rfl, rfl, rfl, at_old (at_old (m0 _) _) _, at_old (at_old (m1 _) _) _, .inr ⟨_, rfl, ?_, at_new _ _⟩⟩, ?_⟩
      · first | (simp; done) | (simp; omega)
      · rw [lkI_eq (k := .i64) (n := ((0 : Nat) : Int) + 1) rfl]; omega
    · simp only [lawG, ↓Xn, ↓Xo, ↓Xg, ↓Xd, ↓Xe, ↓Xf, Tryz.VΓ, Tryz.Γs, Xp, Xi, Nat.reduceAdd, Nat.reduceSub, Nat.reduceLT, Nat.reduceLeDiff, reduceIte, reduceCtorEq, Nat.reduceEqDiff, implies_true, forall_const, lawV, l1, l3, l8, l9, l11, l40, l41, l42, g0, g1, hu, hlt2, lawB, Int.toNat_natCast, List.length_map]
      refine ⟨⟨by omega, by omega⟩, by omega, ?_⟩
      have hi1 := fun X => at_old hi [X]
      have hi2 := fun X Y => at_old (hi1 X) [Y]
      (refine callV_pc (s2) ?_; simp only [lawG, ↓Xn, ↓Xo, ↓Xg, ↓Xd, ↓Xe, ↓Xf, Tryz.VΓ, Tryz.Γs, Xp, Xi, Nat.reduceAdd, Nat.reduceSub, Nat.reduceLT, Nat.reduceLeDiff, reduceIte, reduceCtorEq, Nat.reduceEqDiff, implies_true, forall_const, lawV, l1, l3, l8, l9, l11, l40, l41, l42, g0, g1, m0, m1, lawB, beq_self_eq_true, bne_self_eq_false, Int.reduceBEq, Int.reduceBNe, Int.reduceLT, Int.reduceLE, hi, hi1, hi2])
      refine ⟨by omega, ⟨by unfold maxLen; omega, by omega⟩, ⟨by omega, by omega⟩, ⟨q + 1, L ++ [v], _, by omega, by simp [hL], rfl, rfl, ?_, ?_, .inr ⟨_, congrArg (SV.o _) (len_snoc L v).symm, ?_, ?_⟩⟩, ?_⟩
      · refine at_old ?_ _
        rw [List.getElem?_set_ne (by omega)]
        exact at_old (m0 _) _
      · refine at_old ?_ _
        rw [List.getElem?_set_ne (by omega)]
        exact at_old (m1 _) _
      · first | (simp; done) | (simp; omega)
      · rw [List.getElem?_append_right (by simp)]
        simp [uc]
      · rw [lkI_eq (k := .i64) (n := (q : Int) + 1) rfl]; omega
  · obtain rfl : q = ss.length := by omega
    have hlt2 : decide ((ss.length : Int) < ss.length) = false := by simp
    have hbl : 2 ≤ b.length := (List.getElem?_eq_some_iff.1 g1).1
    have hSq : Sq 29 7 sn b (L.flatMap uc) L.length := by
      rcases hsl with h | ⟨i, h1, -, h3⟩
      · exact .inl h
      · exact .inr ⟨i, true, h1, h3⟩
    unfold uc at g1
    simp only [lawG, ↓Xn, ↓Xo, ↓Xg, ↓Xd, ↓Xe, ↓Xf, Tryz.VΓ, Tryz.Γs, Xp, Xi, Nat.reduceAdd, Nat.reduceSub, Nat.reduceLT, Nat.reduceLeDiff, reduceIte, reduceCtorEq, Nat.reduceEqDiff, implies_true, forall_const, lawV, l1, l3, l8, l9, l11, l40, l41, l42, g0, g1, hlt2, lawB, List.drop_zero, List.drop_succ_cons]
    obtain ⟨n, hnb⟩ : ∃ n, b.length = n := ⟨_, rfl⟩
    refine callD_scw [(n, 0, 0), (n + 1, 0, 0)] (sc_law25_to2 (n := n) hnb y) (outs_to (n := n) hnb _ _) ?_
    have hrow : ∀ X Y : Res, (b ++ [X, Y])[n + 1]? = some Y := fun X Y => by subst hnb; simp
    have hlen2 : ∀ X Y : Res, (b ++ [X, Y]).length = n + 2 := fun X Y => by subst hnb; simp
    have hL6 : L.length ≤ 1000000 := by omega
    have q1 := fun X => next_at (s := y) (bs := b ++ [X, .own ([(locS, y)].flatMap fc) 86 2 1 true]) (hrow _ _) (hSq.app _) hL6 u fu hops
    generalize hr : redirNext u [(locS, y)] L hops = p at q1
    obtain ⟨v, e2⟩ := p
    unfold wsv at q1
    simp only at q1
    simp only [lawG, ↓Xn, ↓Xo, ↓Xg, ↓Xd, ↓Xe, ↓Xf, Tryz.VΓ, Tryz.Γs, Xp, Xi, Nat.reduceAdd, Nat.reduceSub, Nat.reduceLT, Nat.reduceLeDiff, reduceIte, reduceCtorEq, Nat.reduceEqDiff, implies_true, forall_const, lawV, lawB, beq_self_eq_true, bne_self_eq_false, Int.reduceBEq, Int.reduceBNe, Int.reduceLT, Int.reduceLE, l1, l3, l8, l9, l11, l40, l41, l42]
    refine callD_scw [] (q1 _) (fun _ _ _ => rfl) ?_
    have r1 : ¬ n = 1 := by omega
    have r2 : ¬ n + 1 = 1 := by omega
    have r3 : ¬ n + 2 = 1 := by omega
    rcases hsl with ⟨rfl, hc0, hn0⟩ | ⟨i, rfl, hLi, hi⟩
    · obtain rfl := List.length_eq_zero_iff.1 hn0
      simp only [lawG, ↓Xn, ↓Xo, ↓Xg, ↓Xd, ↓Xe, ↓Xf, Tryz.VΓ, Tryz.Γs, Xp, Xi, Nat.reduceAdd, Nat.reduceSub, Nat.reduceLT, Nat.reduceLeDiff, reduceIte, reduceCtorEq, Nat.reduceEqDiff, implies_true, forall_const, lawV, lawB, beq_self_eq_true, bne_self_eq_false, Int.reduceBEq, Int.reduceBNe, Int.reduceLT, Int.reduceLE, l1, l3, l8, l9, l11, l40, l41, l42]
      refine ⟨(by
        refine OkD_ren (fun n => if n = 1 then 0 else 1) ?_
        simp only [List.map_cons, List.map_nil, renRk, renT, reduceIte, r1, r2, r3, hlen2]
        exact OkD_fast (by kernel_rfl)), fun he => ?_, fun he => ?_⟩
      · have he : e2 ≠ 0 := by simpa using he
        have := redirNext_err u [(locS, y)] [] hops (by rw [hr]; exact he)
        rw [hr] at this
        simp only at this
        subst this
        rfl
      obtain rfl : e2 = 0 := by simpa using he
      obtain ⟨o1, o2, o3, o4⟩ := redirNext_ok hr
      have pv := p_r7_Valid v (can_fairU (redirNext_can hr))
      rw [o2] at pv
      unfold wsv at pv
      obtain ⟨nu, hnu⟩ : ∃ nu, (b ++ [Res.cells [.int .i64 0, .int .i64 302, .o (n + 1) 1] 40 true, .own ([(locS, y)].flatMap fc) 86 2 1 true]).length = nu := ⟨_, rfl⟩
      have gu := at_new (b ++ [Res.cells [.int .i64 0, .int .i64 302, .o (n + 1) 1] 40 true, .own ([(locS, y)].flatMap fc) 86 2 1 true]) (.cells (uc v) 29 true)
      rw [hnu] at gu ⊢
      refine loopV_mk (fun σ => lk 3 σ.t = some (.int .i64 hops) ∧ lk 16 σ.t = some (.p nu 0) ∧ lk 71 σ.t = some (.int .i64 0) ∧ lk 72 σ.t = some (.int .i64 0) ∧ σ.b[nu]? = some (.cells (uc v) 29 true)) (fun σ => 0) ⟨l3, rfl, rfl, rfl, gu⟩ ?_
      rintro ⟨t, b⟩ ⟨l3, l16, l71, l72, gu⟩
      simp only at l3 l16 l71 l72 gu
      unfold uc at gu
      simp only [lawG, ↓Xn, ↓Xo, ↓Xg, ↓Xd, ↓Xe, ↓Xf, Tryz.VΓ, Tryz.Γs, Xp, Xi, Nat.reduceAdd, Nat.reduceSub, Nat.reduceLT, Nat.reduceLeDiff, reduceIte, reduceCtorEq, Nat.reduceEqDiff, implies_true, forall_const, lawV, l3, l16, l71, l72, gu, beq_self_eq_true, bne_self_eq_false, Int.reduceBEq, Int.reduceBNe, Int.reduceLT, Int.reduceLE, List.drop_zero, List.drop_succ_cons]
      (refine callV_pc (pv) ?_; simp only [lawG, ↓Xn, ↓Xo, ↓Xg, ↓Xd, ↓Xe, ↓Xf, Tryz.VΓ, Tryz.Γs, Xp, Xi, Nat.reduceAdd, Nat.reduceSub, Nat.reduceLT, Nat.reduceLeDiff, reduceIte, reduceCtorEq, Nat.reduceEqDiff, implies_true, forall_const, lawV, l3, l16, gu, beq_self_eq_true, bne_self_eq_false, Int.reduceBEq, Int.reduceBNe, Int.reduceLT, Int.reduceLE, List.drop_zero, List.drop_succ_cons])
      exact ⟨fun _ => by rw [decide_eq_true o1], fun h => absurd h (by simp [o3])⟩
    · have hi1 := fun X => at_old hi X
      unfold uc at hi hi1
      simp only [lawG, ↓Xn, ↓Xo, ↓Xg, ↓Xd, ↓Xe, ↓Xf, Tryz.VΓ, Tryz.Γs, Xp, Xi, Nat.reduceAdd, Nat.reduceSub, Nat.reduceLT, Nat.reduceLeDiff, reduceIte, reduceCtorEq, Nat.reduceEqDiff, implies_true, forall_const, lawV, lawB, beq_self_eq_true, bne_self_eq_false, Int.reduceBEq, Int.reduceBNe, Int.reduceLT, Int.reduceLE, l1, l3, l8, l9, l11, l40, l41, l42, hi, hi1]
      refine ⟨(by
        refine OkD_ren (fun n => if n = 1 then 0 else 1) ?_
        simp only [List.map_cons, List.map_nil, renRk, renT, reduceIte, r1, r2, r3, hlen2]
        exact OkD_fast (by kernel_rfl)), fun he => ?_, fun he => ?_⟩
      · have he : e2 ≠ 0 := by simpa using he
        have := redirNext_err u [(locS, y)] L hops (by rw [hr]; exact he)
        rw [hr] at this
        simp only at this
        subst this
        rfl
      obtain rfl : e2 = 0 := by simpa using he
      obtain ⟨o1, o2, o3, o4⟩ := redirNext_ok hr
      have pv := p_r7_Valid v (can_fairU (redirNext_can hr))
      rw [o2] at pv
      unfold wsv at pv
      obtain ⟨nu, hnu⟩ : ∃ nu, (b ++ [Res.cells [.int .i64 0, .int .i64 302, .o (n + 1) 1] 40 true, .own ([(locS, y)].flatMap fc) 86 2 1 true]).length = nu := ⟨_, rfl⟩
      have gu := at_new (b ++ [Res.cells [.int .i64 0, .int .i64 302, .o (n + 1) 1] 40 true, .own ([(locS, y)].flatMap fc) 86 2 1 true]) (.cells (uc v) 29 true)
      rw [hnu] at gu ⊢
      have gi := at_old (hi1 [Res.cells [.int .i64 0, .int .i64 302, .o (n + 1) 1] 40 true, .own ([(locS, y)].flatMap fc) 86 2 1 true]) [.cells (uc v) 29 true]
      refine loopV_mk (fun σ => ∃ k : Nat, k ≤ L.length ∧ lk 3 σ.t = some (.int .i64 hops) ∧ lk 16 σ.t = some (.p nu 0) ∧ lk 70 σ.t = some (.o i L.length) ∧ lk 71 σ.t = some (.int .i64 L.length) ∧ lk 72 σ.t = some (.int .i64 k) ∧ σ.b[nu]? = some (.cells (uc v) 29 true) ∧ σ.b[i]? = some (.own (L.flatMap uc) 29 7 L.length true)) (fun σ => L.length - lkI 72 σ) ⟨0, by omega, l3, rfl, rfl, rfl, rfl, gu, gi⟩ ?_
      clear hi hi1 gu gi hnb hrow hlen2 hnu g0 g1 l1 l3 l8 l9 l11 l40 l41 l42
      rintro ⟨t, b⟩ ⟨k, hk, l3, l16, l70, l71, l72, gu, gi⟩
      simp only at l3 l16 l70 l71 l72 gu gi
      rw [lkI_eq l72]
      by_cases hkt : k < L.length
      · have hk2 : decide ((k : Int) < L.length) = true := decide_eq_true (by omega)
        have hq1 := uc_at L k hkt
        have hul := uc_len L
        have hne : decide (L[k] = v) = false := decide_eq_false (fun e => o4 (e ▸ List.getElem_mem hkt))
        have mu := fun X => at_old gu [X]
        unfold uc at gi gu mu hq1 hul
        simp only [lawG, ↓Xn, ↓Xo, ↓Xg, ↓Xd, ↓Xe, ↓Xf, Tryz.VΓ, Tryz.Γs, Xp, Xi, Nat.reduceAdd, Nat.reduceSub, Nat.reduceLT, Nat.reduceLeDiff, reduceIte, reduceCtorEq, Nat.reduceEqDiff, implies_true, forall_const, lawV, l3, l16, l70, l71, l72, gu, mu, gi, hq1, hul, hk2, beq_self_eq_true, bne_self_eq_false, Int.reduceBEq, Int.reduceBNe, Int.reduceLT, Int.reduceLE, List.drop_zero, List.drop_succ_cons, lawB, Int.toNat_natCast, uc_eq, hne]
        refine ⟨⟨by omega, by omega⟩, by omega, ⟨by omega, by omega⟩, ⟨k + 1, by omega, rfl, rfl, at_old gi _⟩, ?_⟩
        rw [lkI_eq (k := .i64) (n := (k : Int) + 1) rfl]; omega
      · obtain rfl : k = L.length := by omega
        have hk2 : decide ((L.length : Int) < L.length) = false := by simp
        unfold uc at gu
        simp only [lawG, ↓Xn, ↓Xo, ↓Xg, ↓Xd, ↓Xe, ↓Xf, Tryz.VΓ, Tryz.Γs, Xp, Xi, Nat.reduceAdd, Nat.reduceSub, Nat.reduceLT, Nat.reduceLeDiff, reduceIte, reduceCtorEq, Nat.reduceEqDiff, implies_true, forall_const, lawV, l3, l16, l70, l71, l72, gu, gi, hk2, beq_self_eq_true, bne_self_eq_false, Int.reduceBEq, Int.reduceBNe, Int.reduceLT, Int.reduceLE, List.drop_zero, List.drop_succ_cons]
        (refine callV_pc (pv) ?_; simp only [lawG, ↓Xn, ↓Xo, ↓Xg, ↓Xd, ↓Xe, ↓Xf, Tryz.VΓ, Tryz.Γs, Xp, Xi, Nat.reduceAdd, Nat.reduceSub, Nat.reduceLT, Nat.reduceLeDiff, reduceIte, reduceCtorEq, Nat.reduceEqDiff, implies_true, forall_const, lawV, l3, l16, gu, beq_self_eq_true, bne_self_eq_false, Int.reduceBEq, Int.reduceBNe, Int.reduceLT, Int.reduceLE, List.drop_zero, List.drop_succ_cons])
        exact ⟨fun _ => by rw [decide_eq_true o1], fun h => absurd h (by simp [o3])⟩
set_option maxRecDepth 20000 in
set_option maxHeartbeats 2000000 in
theorem sc_law25_RedirectNext (u : Url) (hu : u.host.length ≤ 140737488355328 ∧ u.path.length ≤ 140737488355328 ∧ u.query.length ≤ 140737488355328 ∧ u.fragment.length ≤ 140737488355328) (hp : -9223372036854775808 ≤ u.port ∧ u.port ≤ 9223372036854775807) (a c : Int) (fs : List (Bytes × Bytes)) (hl : ∀ f ∈ fs, f.1.length ≤ 140737488355328 ∧ f.2.length ≤ 140737488355328) (L : List Url) (hL : L.length ≤ 9223372036854775807)
    (hLu : ∀ u ∈ L, u.host.length ≤ 140737488355328 ∧ u.path.length ≤ 140737488355328 ∧ u.query.length ≤ 140737488355328 ∧ u.fragment.length ≤ 140737488355328) (hops status : Int) : SC Tryz.V 4 [wsv u, .agg [.int .i64 a, .int .i64 c, .o 0 fs.length], .o 1 L.length, .int .i64 hops, .int .i64 status]
    [.own (fs.flatMap fc) 86 2 fs.length false, .own (L.flatMap uc) 29 7 L.length false] (fun r _ => r = .bool true) := by
  have k1 := p_keep_URL u hu
  unfold wsv at k1
  refine sc_of 3000 Tryz.func4 rfl Tryz.ntmps4 Tryz.results4 Tryz.call4 (by simp) (fun β β' hb => concL_within 2 _ (by simp [within, within.withinL, wsv]) β β' hb) ?_
  unfold wsv
  simp only [lawG, ↓Xn, ↓Xo, ↓Xg, ↓Xd, ↓Xe, ↓Xf, Tryz.VΓ, Tryz.Γs, Xp, Xi, Nat.reduceAdd, Nat.reduceSub, Nat.reduceLT, Nat.reduceLeDiff, reduceIte, reduceCtorEq, Nat.reduceEqDiff, implies_true, forall_const, lawV, beq_self_eq_true, bne_self_eq_false, Int.reduceBEq, Int.reduceBNe, Int.reduceLT, Int.reduceLE]
  (refine callV_pc (p_law25_sane) ?_; simp only [lawG, ↓Xn, ↓Xo, ↓Xg, ↓Xd, ↓Xe, ↓Xf, Tryz.VΓ, Tryz.Γs, Xp, Xi, Nat.reduceAdd, Nat.reduceSub, Nat.reduceLT, Nat.reduceLeDiff, reduceIte, reduceCtorEq, Nat.reduceEqDiff, implies_true, forall_const, lawV, beq_self_eq_true, bne_self_eq_false, Int.reduceBEq, Int.reduceBNe, Int.reduceLT, Int.reduceLE])
  (refine callV_pc (k1) ?_; simp only [lawG, ↓Xn, ↓Xo, ↓Xg, ↓Xd, ↓Xe, ↓Xf, Tryz.VΓ, Tryz.Γs, Xp, Xi, Nat.reduceAdd, Nat.reduceSub, Nat.reduceLT, Nat.reduceLeDiff, reduceIte, reduceCtorEq, Nat.reduceEqDiff, implies_true, forall_const, lawV, beq_self_eq_true, bne_self_eq_false, Int.reduceBEq, Int.reduceBNe, Int.reduceLT, Int.reduceLE])
  intro hu1
  refine callV_sc (sc_forget rfl (sc_keep_Head (j := 0) rfl hl a c)) ?_
  rintro r b ⟨rfl, rfl⟩
  simp only [lawG, ↓Xn, ↓Xo, ↓Xg, ↓Xd, ↓Xe, ↓Xf, Tryz.VΓ, Tryz.Γs, Xp, Xi, Nat.reduceAdd, Nat.reduceSub, Nat.reduceLT, Nat.reduceLeDiff, reduceIte, reduceCtorEq, Nat.reduceEqDiff, implies_true, forall_const, lawV, beq_self_eq_true, bne_self_eq_false, Int.reduceBEq, Int.reduceBNe, Int.reduceLT, Int.reduceLE]
  intro hh hlen
  have hlen := of_decide_eq_false hlen
  have hu1 : u.host.length + u.path.length + u.query.length + u.fragment.length ≤ 1000 := by simpa using hu1
  have fu : Fair u := ⟨by omega, hp.1, hp.2⟩
  have hfs : fs.length ≤ 80 := by simp at hh; exact hh.1
  refine loopV_mk (fun σ => ∃ q : Nat, q ≤ L.length ∧ lk 2 σ.t = some (.o 1 L.length) ∧ lk 3 σ.t = some (.int .i64 hops) ∧ lk 4 σ.t = some (.int .i64 status) ∧ lk 5 σ.t = some (.p 2 0) ∧ lk 6 σ.t = some (.p 3 0) ∧ lk 10 σ.t = some (.bool false) ∧ lk 32 σ.t = some (.o 1 L.length) ∧ lk 33 σ.t = some (.int .i64 L.length) ∧ lk 34 σ.t = some (.int .i64 q) ∧
    σ.b[0]? = some (.own (fs.flatMap fc) 86 2 fs.length false) ∧ σ.b[1]? = some (.own (L.flatMap uc) 29 7 L.length false) ∧ σ.b[2]? = some (.cells (uc u) 29 true) ∧ σ.b[3]? = some (.cells [.int .i64 a, .int .i64 c, .o 0 fs.length] 40 true)) (fun σ => L.length - lkI 34 σ) ⟨0, by omega, rfl, rfl, rfl, rfl, rfl, rfl, rfl, rfl, rfl, rfl, rfl, rfl, rfl⟩ ?_
  rintro ⟨t, b⟩ ⟨q, hq, l2, l3, l4, l5, l6, l10, l32, l33, l34, g0, g1, g2, g3⟩
  simp only at l2 l3 l4 l5 l6 l10 l32 l33 l34 g0 g1 g2 g3
  rw [lkI_eq l34]
  by_cases hlt : q < L.length
  · have hq1 := uc_at L q hlt
    have hul := uc_len L
    have k2 := p_keep_URL L[q] (hLu _ (List.getElem_mem hlt))
    unfold wsv at k2
    have m0 := fun X => at_old g0 [X]
    have m1 := fun X => at_old g1 [X]
    have m2 := fun X => at_old g2 [X]
    have m3 := fun X => at_old g3 [X]
    unfold uc at g1 m1 hq1 hul
    have hlt2 : decide ((q : Int) < L.length) = true := decide_eq_true (by omega)
    simp only [lawG, ↓Xn, ↓Xo, ↓Xg, ↓Xd, ↓Xe, ↓Xf, Tryz.VΓ, Tryz.Γs, Xp, Xi, Nat.reduceAdd, Nat.reduceSub, Nat.reduceLT, Nat.reduceLeDiff, reduceIte, reduceCtorEq, Nat.reduceEqDiff, implies_true, forall_const, lawV, l2, l3, l4, l5, l6, l10, l32, l33, l34, g1, hq1, hul, lawB, Int.toNat_natCast, hlt2]
    refine ⟨⟨by omega, by omega⟩, by omega, ?_⟩
    (refine callV_pc (k2) ?_; simp only [lawG, ↓Xn, ↓Xo, ↓Xg, ↓Xd, ↓Xe, ↓Xf, Tryz.VΓ, Tryz.Γs, Xp, Xi, Nat.reduceAdd, Nat.reduceSub, Nat.reduceLT, Nat.reduceLeDiff, reduceIte, reduceCtorEq, Nat.reduceEqDiff, implies_true, forall_const, lawV, l2, l3, l4, l5, l6, l10, l32, l33, l34, g0, g1, g2, g3, m0, m1, m2, m3, lawB, beq_self_eq_true, bne_self_eq_false, Int.reduceBEq, Int.reduceBNe, Int.reduceLT, Int.reduceLE])
    intro _
    refine ⟨⟨by omega, by omega⟩, ⟨q + 1, by omega, rfl, rfl⟩, ?_⟩
    rw [lkI_eq (k := .i64) (n := (q : Int) + 1) rfl]; omega
  · obtain rfl : q = L.length := by omega
    have hlt2 : decide ((L.length : Int) < L.length) = false := by simp
    unfold uc at g2
    simp only [lawG, ↓Xn, ↓Xo, ↓Xg, ↓Xd, ↓Xe, ↓Xf, Tryz.VΓ, Tryz.Γs, Xp, Xi, Nat.reduceAdd, Nat.reduceSub, Nat.reduceLT, Nat.reduceLeDiff, reduceIte, reduceCtorEq, Nat.reduceEqDiff, implies_true, forall_const, lawV, l2, l3, l4, l5, l6, l10, l32, l33, l34, g0, g1, g2, g3, hlt2, lawB, List.drop_zero, List.drop_succ_cons]
    have n1 := sc_forget (wsv_flat _ _) (sc_redir_Next (fs := fs) g0 (by omega) (fun f hf => by have := hl f hf; omega) a c (sn := .o 1 L.length) (L := L) (.inr ⟨1, false, rfl, g1⟩) (by omega) u fu hops)
    generalize hr : redirNext u fs L hops = p at n1
    obtain ⟨v, e⟩ := p
    unfold wsv at n1
    refine callV_sc n1 ?_
    rintro r b' ⟨rfl, rfl⟩
    have m0 := fun X => at_old g0 [X]
    have m1 := fun X => at_old g1 [X]
    have m2 := fun X => at_old g2 [X]
    have m3 := fun X => at_old g3 [X]
    simp only [lawG, ↓Xn, ↓Xo, ↓Xg, ↓Xd, ↓Xe, ↓Xf, Tryz.VΓ, Tryz.Γs, Xp, Xi, Nat.reduceAdd, Nat.reduceSub, Nat.reduceLT, Nat.reduceLeDiff, reduceIte, reduceCtorEq, Nat.reduceEqDiff, implies_true, forall_const, lawV, l2, l3, l4, l5, l6, l10, l32, l33, l34, g0, g1, g2, g3, m0, m1, m2, m3, lawB, List.drop_zero, List.drop_succ_cons, List.drop_nil]
    have n2 := fun X => sc_forget (wsv_flat _ _) (sc_r25_Next (fs := fs) (m0 X) (by omega) (fun f hf => by have := hl f hf; omega) a c (sn := .o 1 L.length) (L := L) (.inr ⟨1, false, rfl, m1 X⟩) (by omega) u fu hops)
    rw [hr] at n2
    unfold wsv at n2
    refine callV_sc (n2 _) ?_
    rintro r b ⟨rfl, rfl⟩
    have o2 := fun X Y => at_old (m2 X) [Y]
    have o3 := fun X Y => at_old (m3 X) [Y]
    simp only [lawG, ↓Xn, ↓Xo, ↓Xg, ↓Xd, ↓Xe, ↓Xf, Tryz.VΓ, Tryz.Γs, Xp, Xi, Nat.reduceAdd, Nat.reduceSub, Nat.reduceLT, Nat.reduceLeDiff, reduceIte, reduceCtorEq, Nat.reduceEqDiff, implies_true, forall_const, lawV, l2, l3, l4, l5, l6, l10, l32, l33, l34, m0, m1, m2, m3, o2, o3, lawB, List.drop_zero, List.drop_succ_cons, List.drop_nil]
    (refine callV_pc (p_redir_Is status) ?_; simp only [lawG, ↓Xn, ↓Xo, ↓Xg, ↓Xd, ↓Xe, ↓Xf, Tryz.VΓ, Tryz.Γs, Xp, Xi, Nat.reduceAdd, Nat.reduceSub, Nat.reduceLT, Nat.reduceLeDiff, reduceIte, reduceCtorEq, Nat.reduceEqDiff, implies_true, forall_const, lawV, l2, l3, l4, l5, l6, l10, l32, l33, l34, m0, m1, m2, m3, o2, o3, lawB, List.drop_zero, List.drop_succ_cons, List.drop_nil, beq_self_eq_true, bne_self_eq_false, Int.reduceBEq, Int.reduceBNe, Int.reduceLT, Int.reduceLE])
    (refine callV_pc (p_r25_Is status) ?_; simp only [lawG, ↓Xn, ↓Xo, ↓Xg, ↓Xd, ↓Xe, ↓Xf, Tryz.VΓ, Tryz.Γs, Xp, Xi, Nat.reduceAdd, Nat.reduceSub, Nat.reduceLT, Nat.reduceLeDiff, reduceIte, reduceCtorEq, Nat.reduceEqDiff, implies_true, forall_const, lawV, l2, l3, l4, l5, l6, l10, l32, l33, l34, m0, m1, m2, m3, o2, o3, lawB, List.drop_zero, List.drop_succ_cons, List.drop_nil, beq_self_eq_true, bne_self_eq_false, Int.reduceBEq, Int.reduceBNe, Int.reduceLT, Int.reduceLE])
theorem sc1_map (L : List Bytes) : L.flatMap sc1 = L.map SV.str := by
  induction L with
  | nil => rfl
  | cons a L ih => simp [sc1, ih]
theorem s_RedirectSafe (x y : Bytes) (ss : List Bytes) (hops : Int) (hn : ss.length ≤ 9223372036854775807) : SC Tryz.V 6 [.str x, .str y, .o 0 ss.length, .int .i64 hops] [.own (ss.flatMap sc1) 9 1 ss.length false] (fun r _ => r = .bool true) := by
  rw [sc1_map]
  exact sc_law25_RedirectSafe x y ss hn hops
theorem s_RedirectNext (u : Url) (a c : Int) (fs : List (Bytes × Bytes)) (L : List Url) (hops status : Int) (hu : u.host.length ≤ 140737488355328 ∧ u.path.length ≤ 140737488355328 ∧ u.query.length ≤ 140737488355328 ∧ u.fragment.length ≤ 140737488355328) (hp : -9223372036854775808 ≤ u.port ∧ u.port ≤ 9223372036854775807) (hl : ∀ f ∈ fs, f.1.length ≤ 140737488355328 ∧ f.2.length ≤ 140737488355328) (hL : L.length ≤ 9223372036854775807)
    (hLu : ∀ u ∈ L, u.host.length ≤ 140737488355328 ∧ u.path.length ≤ 140737488355328 ∧ u.query.length ≤ 140737488355328 ∧ u.fragment.length ≤ 140737488355328) : SC Tryz.V 4 [wsv u, .agg [.int .i64 a, .int .i64 c, .o 0 fs.length], .o 1 L.length, .int .i64 hops, .int .i64 status]
    [.own (fs.flatMap fc) 86 2 fs.length false, .own (L.flatMap uc) 29 7 L.length false] (fun r _ => r = .bool true) :=
  sc_law25_RedirectNext u hu hp a c fs hl L hL hLu hops status
end Go.Proofs.YtcndmooeglfilaaGreatDoor
