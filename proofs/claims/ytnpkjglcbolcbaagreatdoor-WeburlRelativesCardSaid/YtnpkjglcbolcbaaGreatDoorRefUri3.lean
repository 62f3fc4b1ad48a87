/- The walks of reference 06: Split, Join. -/
import Derived.Test.YtnpkjglcbolcbaaGreatDoorRefUri2
set_option linter.all false
set_option maxRecDepth 20000
namespace Go.Proofs.YtnpkjglcbolcbaaGreatDoor
open Go Vc Go.RowKit Wf
set_option linter.unusedSimpArgs false
theorem pre_one (c : UInt8) (s : Bytes) : pre (([c] : Bytes).contains ·) s = pre (· == c) s := by
  congr 1
  funext x
  by_cases h : x = c
  · subst h; simp
  · simp [h]
set_option maxRecDepth 20000 in
set_option maxHeartbeats 4000000 in
theorem p_r6_Join (u : Uri) (h : u.scheme.length + u.authority.length + u.path.length + u.query.length + u.fragment.length ≤ 4611686018427387904) : PC Tryz.V 78 [usv u] (.str (uriJoin u)) := by
  (refine pc_of 3000 Tryz.func78 rfl Tryz.ntmps78 Tryz.results78 Tryz.call78 (by simp) (by simp [flat, flat.flatL, usv]) (by simp [flat, flat.flatL, usv]) ?_
   unfold usv
   simp only [vcS, ↓Xn, ↓Xo, ↓Xg, ↓Xd, ↓Xe, ↓Xf, XQ, XG, gvU, setR, orN, Yl, Xm, Yn, Yi, Xa, Ym, Xc, Xc.sizeIs, reS, Xj, Yb, mmS, Xq, dstS, srcS, XP, XN, XO, Yc, XA, Yg, Xy, XE, endV, gdst, Yk, XR, Yd, goR, XC, sBox, XU, XH, Xr, sNil, XL, Xt, XV, Xv, goD, valD, XI, XF, XB, dNil, XK, XD, dBox, dN, Xz, opL, idxs, pv, XX, Ya, XJ, Xb, Xu, oBin, oUn, Ye, XW, Xw, Xx, Xh, Xk, XY, XS, oLen, lenS, Yh, ev, lk, Vc.put, fits, kd, sz, Tryz.VΓ, Tryz.Γs, bin, binI, binS, ifK, ar, eqB, eqS, eqK, eqK.eqF, negB, bnds, optE, XM, Vc.cells, isV, Vc.one, Xs, getB, setB, XZ, Xp, Xi, Yf, Xl, XT, resS, tupS, ofV, Yj, Nat.reduceAdd, Nat.reduceSub, Nat.reduceLT, Nat.reduceLeDiff, reduceIte, reduceCtorEq, Nat.reduceEqDiff, implies_true, forall_const, lawV])
  unfold uriJoin
  obtain ⟨sc, au, pa, qu, fr, b1, b2, b3, b4⟩ := u
  simp only at h ⊢
  cases b1 <;> cases b2 <;> cases b3 <;> cases b4 <;> simp <;> omega
theorem authPath_two {s : Bytes} (h : Lib.hasPrefix s [47, 47] = true) : authPath s = ((s.take (2 + pre (· == 47) (s.drop 2))).drop 2, true, s.drop (2 + pre (· == 47) (s.drop 2))) := by
  rw [authPath_yes h]
  have e : Lib.trimPrefix s [47, 47] = s.drop 2 := by unfold Lib.trimPrefix; rw [if_pos h]; rfl
  rw [e, List.drop_take, List.drop_drop]
  simp
set_option maxRecDepth 20000 in
set_option maxHeartbeats 4000000 in
theorem p_r6_Split (s : Bytes) : PC Tryz.V 67 [.str s] (.tup [usv (uriSplit s).1, .int .i64 (uriSplit s).2]) := by
  (refine pc_of 3000 Tryz.func67 rfl Tryz.ntmps67 Tryz.results67 Tryz.call67 (by simp) (by simp [flat, flat.flatL, usv]) (by simp [flat, flat.flatL, usv]) ?_
   simp only [vcS, ↓Xn, ↓Xo, ↓Xg, ↓Xd, ↓Xe, ↓Xf, XQ, XG, gvU, setR, orN, Yl, Xm, Yn, Yi, Xa, Ym, Xc, Xc.sizeIs, reS, Xj, Yb, mmS, Xq, dstS, srcS, XP, XN, XO, Yc, XA, Yg, Xy, XE, endV, gdst, Yk, XR, Yd, goR, XC, sBox, XU, XH, Xr, sNil, XL, Xt, XV, Xv, goD, valD, XI, XF, XB, dNil, XK, XD, dBox, dN, Xz, opL, idxs, pv, XX, Ya, XJ, Xb, Xu, oBin, oUn, Ye, XW, Xw, Xx, Xh, Xk, XY, XS, oLen, lenS, Yh, ev, lk, Vc.put, fits, kd, sz, Tryz.VΓ, Tryz.Γs, bin, binI, binS, ifK, ar, eqB, eqS, eqK, eqK.eqF, negB, bnds, optE, XM, Vc.cells, isV, Vc.one, Xs, getB, setB, XZ, Xp, Xi, Yf, Xl, XT, resS, tupS, ofV, Yj, Nat.reduceAdd, Nat.reduceSub, Nat.reduceLT, Nat.reduceLeDiff, reduceIte, reduceCtorEq, Nat.reduceEqDiff, implies_true, forall_const, lawV])
  refine ⟨fun h => ?_, fun h => ?_⟩
  · have : uriSplit s = (Uri.none, 5) := if_pos (by simp at h; omega)
    rw [this]; rfl
  · have hq : uriSplit s = splitRest (cutC 63 (cutC 35 s).1).1 (cutC 35 s).2.1 (cutC 63 (cutC 35 s).1).2.1 (cutC 35 s).2.2 (cutC 63 (cutC 35 s).1).2.2 := if_neg (by simp at h; omega)
    rw [hq]
    have hs : s.length ≤ 4294967281 := by simp at h; omega
    have px := p_r1_Index s [35] hs (by simp)
    rw [pre_one] at px
    (refine callV_pc (px) ?_; simp only [vcS, ↓Xn, ↓Xo, ↓Xg, ↓Xd, ↓Xe, ↓Xf, XQ, XG, gvU, setR, orN, Yl, Xm, Yn, Yi, Xa, Ym, Xc, Xc.sizeIs, reS, Xj, Yb, mmS, Xq, dstS, srcS, XP, XN, XO, Yc, XA, Yg, Xy, XE, endV, gdst, Yk, XR, Yd, goR, XC, sBox, XU, XH, Xr, sNil, XL, Xt, XV, Xv, goD, valD, XI, XF, XB, dNil, XK, XD, dBox, dN, Xz, opL, idxs, pv, XX, Ya, XJ, Xb, Xu, oBin, oUn, Ye, XW, Xw, Xx, Xh, Xk, XY, XS, oLen, lenS, Yh, ev, lk, Vc.put, fits, kd, sz, Tryz.VΓ, Tryz.Γs, bin, binI, binS, ifK, ar, eqB, eqS, eqK, eqK.eqF, negB, bnds, optE, XM, Vc.cells, isV, Vc.one, Xs, getB, setB, XZ, Xp, Xi, Yf, Xl, XT, resS, tupS, ofV, Yj, Nat.reduceAdd, Nat.reduceSub, Nat.reduceLT, Nat.reduceLeDiff, reduceIte, reduceCtorEq, Nat.reduceEqDiff, implies_true, forall_const, lawV])
    refine ⟨fun hk1 => ?_, fun hk1 => ?_⟩
    · have hk1' : pre (· == 35) s < s.length := by simpa using hk1
      rw [show cutC 35 s = (s.take (pre (· == 35) s), s.drop (pre (· == 35) s + 1), true) from if_pos hk1']
      simp only
      have hl1 : (s.take (pre (· == 35) s)).length ≤ 4294967281 := by rw [List.length_take]; omega
      refine ⟨by omega, by omega, by omega, (OkD_fast (by kernel_rfl)), ?_⟩
      generalize s.take (pre (· == 35) s) = s1 at hl1 ⊢
      generalize s.drop (pre (· == 35) s + 1) = fr
      (
        have px2 := p_r1_Index s1 [63] (by omega) (by simp)
        rw [pre_one] at px2
        (refine callV_pc (px2) ?_; simp only [vcS, ↓Xn, ↓Xo, ↓Xg, ↓Xd, ↓Xe, ↓Xf, XQ, XG, gvU, setR, orN, Yl, Xm, Yn, Yi, Xa, Ym, Xc, Xc.sizeIs, reS, Xj, Yb, mmS, Xq, dstS, srcS, XP, XN, XO, Yc, XA, Yg, Xy, XE, endV, gdst, Yk, XR, Yd, goR, XC, sBox, XU, XH, Xr, sNil, XL, Xt, XV, Xv, goD, valD, XI, XF, XB, dNil, XK, XD, dBox, dN, Xz, opL, idxs, pv, XX, Ya, XJ, Xb, Xu, oBin, oUn, Ye, XW, Xw, Xx, Xh, Xk, XY, XS, oLen, lenS, Yh, ev, lk, Vc.put, fits, kd, sz, Tryz.VΓ, Tryz.Γs, bin, binI, binS, ifK, ar, eqB, eqS, eqK, eqK.eqF, negB, bnds, optE, XM, Vc.cells, isV, Vc.one, Xs, getB, setB, XZ, Xp, Xi, Yf, Xl, XT, resS, tupS, ofV, Yj, Nat.reduceAdd, Nat.reduceSub, Nat.reduceLT, Nat.reduceLeDiff, reduceIte, reduceCtorEq, Nat.reduceEqDiff, implies_true, forall_const, lawV])
        refine ⟨fun hk2 => ?_, fun hk2 => ?_⟩
        · have hk2' : pre (· == 63) s1 < s1.length := by simpa using hk2
          rw [show cutC 63 s1 = (s1.take (pre (· == 63) s1), s1.drop (pre (· == 63) s1 + 1), true) from if_pos hk2']
          simp only
          have hl2 : (s1.take (pre (· == 63) s1)).length ≤ 4294967281 := by rw [List.length_take]; omega
          refine ⟨by omega, by omega, by omega, (OkD_fast (by kernel_rfl)), ?_⟩
          generalize s1.take (pre (· == 63) s1) = s2 at hl2 ⊢
          generalize s1.drop (pre (· == 63) s1 + 1) = qu
          (
            have px3 := p_r1_Index s2 [58, 47] (by omega) (by simp)
            rw [show pre (([58, 47] : Bytes).contains ·) s2 = pre colonSlash s2 from rfl] at px3
            (refine callV_pc (px3) ?_; simp only [vcS, ↓Xn, ↓Xo, ↓Xg, ↓Xd, ↓Xe, ↓Xf, XQ, XG, gvU, setR, orN, Yl, Xm, Yn, Yi, Xa, Ym, Xc, Xc.sizeIs, reS, Xj, Yb, mmS, Xq, dstS, srcS, XP, XN, XO, Yc, XA, Yg, Xy, XE, endV, gdst, Yk, XR, Yd, goR, XC, sBox, XU, XH, Xr, sNil, XL, Xt, XV, Xv, goD, valD, XI, XF, XB, dNil, XK, XD, dBox, dN, Xz, opL, idxs, pv, XX, Ya, XJ, Xb, Xu, oBin, oUn, Ye, XW, Xw, Xx, Xh, Xk, XY, XS, oLen, lenS, Yh, ev, lk, Vc.put, fits, kd, sz, Tryz.VΓ, Tryz.Γs, bin, binI, binS, ifK, ar, eqB, eqS, eqK, eqK.eqF, negB, bnds, optE, XM, Vc.cells, isV, Vc.one, Xs, getB, setB, XZ, Xp, Xi, Yf, Xl, XT, resS, tupS, ofV, Yj, Nat.reduceAdd, Nat.reduceSub, Nat.reduceLT, Nat.reduceLeDiff, reduceIte, reduceCtorEq, Nat.reduceEqDiff, implies_true, forall_const, lawV])
            refine ⟨fun hk3 => ?_, fun hk3 => ?_⟩
            · have hp : pre colonSlash s2 < s2.length := by simpa using hk3
              rw [byte_is (n := 58) hp 58 rfl]
              refine ⟨by omega, fun h1 => ⟨by omega, ?_⟩, fun h1 => ?_⟩
              · have hh : (s2.drop (pre colonSlash s2)).head? = some 58 := by
                  rw [List.head?_drop, List.getElem?_eq_getElem hp, beq_iff_eq.1 h1]
                (refine callV_pc (p_r6_scheme _ (by rw [List.length_take]; omega)) ?_; simp only [vcS, ↓Xn, ↓Xo, ↓Xg, ↓Xd, ↓Xe, ↓Xf, XQ, XG, gvU, setR, orN, Yl, Xm, Yn, Yi, Xa, Ym, Xc, Xc.sizeIs, reS, Xj, Yb, mmS, Xq, dstS, srcS, XP, XN, XO, Yc, XA, Yg, Xy, XE, endV, gdst, Yk, XR, Yd, goR, XC, sBox, XU, XH, Xr, sNil, XL, Xt, XV, Xv, goD, valD, XI, XF, XB, dNil, XK, XD, dBox, dN, Xz, opL, idxs, pv, XX, Ya, XJ, Xb, Xu, oBin, oUn, Ye, XW, Xw, Xx, Xh, Xk, XY, XS, oLen, lenS, Yh, ev, lk, Vc.put, fits, kd, sz, Tryz.VΓ, Tryz.Γs, bin, binI, binS, ifK, ar, eqB, eqS, eqK, eqK.eqF, negB, bnds, optE, XM, Vc.cells, isV, Vc.one, Xs, getB, setB, XZ, Xp, Xi, Yf, Xl, XT, resS, tupS, ofV, Yj, Nat.reduceAdd, Nat.reduceSub, Nat.reduceLT, Nat.reduceLeDiff, reduceIte, reduceCtorEq, Nat.reduceEqDiff, implies_true, forall_const, lawV])
                refine ⟨fun h2 => ?_, fun h2 => ?_⟩
                · have hs2 : ∀ (f q : Bytes) (hf hq : Bool), splitRest s2 f q hf hq = (Uri.none, 6) := fun f q hf hq => by
                    unfold splitRest
                    rw [if_pos hh, if_neg (by rw [not_t h2]; simp)]
                  rw [hs2]; rfl
                · have hs2 : ∀ (f q : Bytes) (hf hq : Bool), splitRest s2 f q hf hq = (⟨s2.take (pre colonSlash s2), (authPath (s2.drop (pre colonSlash s2 + 1))).1, (authPath (s2.drop (pre colonSlash s2 + 1))).2.2, q, f, true, (authPath (s2.drop (pre colonSlash s2 + 1))).2.1, hq, hf⟩, 0) := fun f q hf hq => by
                    unfold splitRest
                    rw [if_pos hh, if_pos (not_f h2)]
                  have hl5 : (s2.drop (pre colonSlash s2 + 1)).length ≤ 4294967281 := by rw [List.length_drop]; omega
                  refine ⟨by omega, by omega, by omega, (OkD_fast (by kernel_rfl)), ?_⟩
                  (
                    (refine callV_pc (p_r1_Prefix (s2.drop (pre colonSlash s2 + 1)) [47, 47]) ?_; simp only [vcS, ↓Xn, ↓Xo, ↓Xg, ↓Xd, ↓Xe, ↓Xf, XQ, XG, gvU, setR, orN, Yl, Xm, Yn, Yi, Xa, Ym, Xc, Xc.sizeIs, reS, Xj, Yb, mmS, Xq, dstS, srcS, XP, XN, XO, Yc, XA, Yg, Xy, XE, endV, gdst, Yk, XR, Yd, goR, XC, sBox, XU, XH, Xr, sNil, XL, Xt, XV, Xv, goD, valD, XI, XF, XB, dNil, XK, XD, dBox, dN, Xz, opL, idxs, pv, XX, Ya, XJ, Xb, Xu, oBin, oUn, Ye, XW, Xw, Xx, Xh, Xk, XY, XS, oLen, lenS, Yh, ev, lk, Vc.put, fits, kd, sz, Tryz.VΓ, Tryz.Γs, bin, binI, binS, ifK, ar, eqB, eqS, eqK, eqK.eqF, negB, bnds, optE, XM, Vc.cells, isV, Vc.one, Xs, getB, setB, XZ, Xp, Xi, Yf, Xl, XT, resS, tupS, ofV, Yj, Nat.reduceAdd, Nat.reduceSub, Nat.reduceLT, Nat.reduceLeDiff, reduceIte, reduceCtorEq, Nat.reduceEqDiff, implies_true, forall_const, lawV])
                    cases hpf : Lib.hasPrefix (s2.drop (pre colonSlash s2 + 1)) [47, 47]
                    · refine ⟨fun h => (by cases h), fun _ => ?_⟩
                      rw [hs2, authPath_no hpf]; rfl
                    · refine ⟨fun _ => ?_, fun h => (by cases h)⟩
                      rw [hs2, authPath_two hpf]
                      have hl6 := hp_len hpf
                      simp only [List.length_cons, List.length_nil] at hl6
                      have px4 := p_r1_Index ((s2.drop (pre colonSlash s2 + 1)).drop 2) [47] (by rw [List.length_drop]; omega) (by simp)
                      rw [pre_one] at px4
                      have hpl := pre_le (· == 47) ((s2.drop (pre colonSlash s2 + 1)).drop 2)
                      rw [List.length_drop] at hpl
                      generalize pre (· == 47) ((s2.drop (pre colonSlash s2 + 1)).drop 2) = q at px4 hpl ⊢
                      refine ⟨by omega, ?_⟩
                      (refine callV_pc (px4) ?_; simp only [vcS, ↓Xn, ↓Xo, ↓Xg, ↓Xd, ↓Xe, ↓Xf, XQ, XG, gvU, setR, orN, Yl, Xm, Yn, Yi, Xa, Ym, Xc, Xc.sizeIs, reS, Xj, Yb, mmS, Xq, dstS, srcS, XP, XN, XO, Yc, XA, Yg, Xy, XE, endV, gdst, Yk, XR, Yd, goR, XC, sBox, XU, XH, Xr, sNil, XL, Xt, XV, Xv, goD, valD, XI, XF, XB, dNil, XK, XD, dBox, dN, Xz, opL, idxs, pv, XX, Ya, XJ, Xb, Xu, oBin, oUn, Ye, XW, Xw, Xx, Xh, Xk, XY, XS, oLen, lenS, Yh, ev, lk, Vc.put, fits, kd, sz, Tryz.VΓ, Tryz.Γs, bin, binI, binS, ifK, ar, eqB, eqS, eqK, eqK.eqF, negB, bnds, optE, XM, Vc.cells, isV, Vc.one, Xs, getB, setB, XZ, Xp, Xi, Yf, Xl, XT, resS, tupS, ofV, Yj, Nat.reduceAdd, Nat.reduceSub, Nat.reduceLT, Nat.reduceLeDiff, reduceIte, reduceCtorEq, Nat.reduceEqDiff, implies_true, forall_const, lawV])
                      rw [show (2 + (q : Int)).toNat = 2 + q by omega]
                      exact ⟨by omega, by omega, by omega, (OkD_fast (by kernel_rfl)), rfl⟩)
              · have hs2 : ∀ (f q : Bytes) (hf hq : Bool), splitRest s2 f q hf hq = (⟨[], (authPath s2).1, (authPath s2).2.2, q, f, false, (authPath s2).2.1, hq, hf⟩, 0) := fun f q hf hq => by
                  unfold splitRest
                  rw [if_neg (by rw [List.head?_drop, List.getElem?_eq_getElem hp]; simpa using h1)]
                have hl5 := hl2
                (
                  (refine callV_pc (p_r1_Prefix (s2) [47, 47]) ?_; simp only [vcS, ↓Xn, ↓Xo, ↓Xg, ↓Xd, ↓Xe, ↓Xf, XQ, XG, gvU, setR, orN, Yl, Xm, Yn, Yi, Xa, Ym, Xc, Xc.sizeIs, reS, Xj, Yb, mmS, Xq, dstS, srcS, XP, XN, XO, Yc, XA, Yg, Xy, XE, endV, gdst, Yk, XR, Yd, goR, XC, sBox, XU, XH, Xr, sNil, XL, Xt, XV, Xv, goD, valD, XI, XF, XB, dNil, XK, XD, dBox, dN, Xz, opL, idxs, pv, XX, Ya, XJ, Xb, Xu, oBin, oUn, Ye, XW, Xw, Xx, Xh, Xk, XY, XS, oLen, lenS, Yh, ev, lk, Vc.put, fits, kd, sz, Tryz.VΓ, Tryz.Γs, bin, binI, binS, ifK, ar, eqB, eqS, eqK, eqK.eqF, negB, bnds, optE, XM, Vc.cells, isV, Vc.one, Xs, getB, setB, XZ, Xp, Xi, Yf, Xl, XT, resS, tupS, ofV, Yj, Nat.reduceAdd, Nat.reduceSub, Nat.reduceLT, Nat.reduceLeDiff, reduceIte, reduceCtorEq, Nat.reduceEqDiff, implies_true, forall_const, lawV])
                  cases hpf : Lib.hasPrefix (s2) [47, 47]
                  · refine ⟨fun h => (by cases h), fun _ => ?_⟩
                    rw [hs2, authPath_no hpf]; rfl
                  · refine ⟨fun _ => ?_, fun h => (by cases h)⟩
                    rw [hs2, authPath_two hpf]
                    have hl6 := hp_len hpf
                    simp only [List.length_cons, List.length_nil] at hl6
                    have px4 := p_r1_Index ((s2).drop 2) [47] (by rw [List.length_drop]; omega) (by simp)
                    rw [pre_one] at px4
                    have hpl := pre_le (· == 47) ((s2).drop 2)
                    rw [List.length_drop] at hpl
                    generalize pre (· == 47) ((s2).drop 2) = q at px4 hpl ⊢
                    refine ⟨by omega, ?_⟩
                    (refine callV_pc (px4) ?_; simp only [vcS, ↓Xn, ↓Xo, ↓Xg, ↓Xd, ↓Xe, ↓Xf, XQ, XG, gvU, setR, orN, Yl, Xm, Yn, Yi, Xa, Ym, Xc, Xc.sizeIs, reS, Xj, Yb, mmS, Xq, dstS, srcS, XP, XN, XO, Yc, XA, Yg, Xy, XE, endV, gdst, Yk, XR, Yd, goR, XC, sBox, XU, XH, Xr, sNil, XL, Xt, XV, Xv, goD, valD, XI, XF, XB, dNil, XK, XD, dBox, dN, Xz, opL, idxs, pv, XX, Ya, XJ, Xb, Xu, oBin, oUn, Ye, XW, Xw, Xx, Xh, Xk, XY, XS, oLen, lenS, Yh, ev, lk, Vc.put, fits, kd, sz, Tryz.VΓ, Tryz.Γs, bin, binI, binS, ifK, ar, eqB, eqS, eqK, eqK.eqF, negB, bnds, optE, XM, Vc.cells, isV, Vc.one, Xs, getB, setB, XZ, Xp, Xi, Yf, Xl, XT, resS, tupS, ofV, Yj, Nat.reduceAdd, Nat.reduceSub, Nat.reduceLT, Nat.reduceLeDiff, reduceIte, reduceCtorEq, Nat.reduceEqDiff, implies_true, forall_const, lawV])
                    rw [show (2 + (q : Int)).toNat = 2 + q by omega]
                    exact ⟨by omega, by omega, by omega, (OkD_fast (by kernel_rfl)), rfl⟩)
            · have hs2 : ∀ (f q : Bytes) (hf hq : Bool), splitRest s2 f q hf hq = (⟨[], (authPath s2).1, (authPath s2).2.2, q, f, false, (authPath s2).2.1, hq, hf⟩, 0) := fun f q hf hq => by
                unfold splitRest
                rw [if_neg (by rw [List.drop_of_length_le (by simp at hk3; omega)]; simp)]
              have hl5 := hl2
              (
                (refine callV_pc (p_r1_Prefix (s2) [47, 47]) ?_; simp only [vcS, ↓Xn, ↓Xo, ↓Xg, ↓Xd, ↓Xe, ↓Xf, XQ, XG, gvU, setR, orN, Yl, Xm, Yn, Yi, Xa, Ym, Xc, Xc.sizeIs, reS, Xj, Yb, mmS, Xq, dstS, srcS, XP, XN, XO, Yc, XA, Yg, Xy, XE, endV, gdst, Yk, XR, Yd, goR, XC, sBox, XU, XH, Xr, sNil, XL, Xt, XV, Xv, goD, valD, XI, XF, XB, dNil, XK, XD, dBox, dN, Xz, opL, idxs, pv, XX, Ya, XJ, Xb, Xu, oBin, oUn, Ye, XW, Xw, Xx, Xh, Xk, XY, XS, oLen, lenS, Yh, ev, lk, Vc.put, fits, kd, sz, Tryz.VΓ, Tryz.Γs, bin, binI, binS, ifK, ar, eqB, eqS, eqK, eqK.eqF, negB, bnds, optE, XM, Vc.cells, isV, Vc.one, Xs, getB, setB, XZ, Xp, Xi, Yf, Xl, XT, resS, tupS, ofV, Yj, Nat.reduceAdd, Nat.reduceSub, Nat.reduceLT, Nat.reduceLeDiff, reduceIte, reduceCtorEq, Nat.reduceEqDiff, implies_true, forall_const, lawV])
                cases hpf : Lib.hasPrefix (s2) [47, 47]
                · refine ⟨fun h => (by cases h), fun _ => ?_⟩
                  rw [hs2, authPath_no hpf]; rfl
                · refine ⟨fun _ => ?_, fun h => (by cases h)⟩
                  rw [hs2, authPath_two hpf]
                  have hl6 := hp_len hpf
                  simp only [List.length_cons, List.length_nil] at hl6
                  have px4 := p_r1_Index ((s2).drop 2) [47] (by rw [List.length_drop]; omega) (by simp)
                  rw [pre_one] at px4
                  have hpl := pre_le (· == 47) ((s2).drop 2)
                  rw [List.length_drop] at hpl
                  generalize pre (· == 47) ((s2).drop 2) = q at px4 hpl ⊢
                  refine ⟨by omega, ?_⟩
                  (refine callV_pc (px4) ?_; simp only [vcS, ↓Xn, ↓Xo, ↓Xg, ↓Xd, ↓Xe, ↓Xf, XQ, XG, gvU, setR, orN, Yl, Xm, Yn, Yi, Xa, Ym, Xc, Xc.sizeIs, reS, Xj, Yb, mmS, Xq, dstS, srcS, XP, XN, XO, Yc, XA, Yg, Xy, XE, endV, gdst, Yk, XR, Yd, goR, XC, sBox, XU, XH, Xr, sNil, XL, Xt, XV, Xv, goD, valD, XI, XF, XB, dNil, XK, XD, dBox, dN, Xz, opL, idxs, pv, XX, Ya, XJ, Xb, Xu, oBin, oUn, Ye, XW, Xw, Xx, Xh, Xk, XY, XS, oLen, lenS, Yh, ev, lk, Vc.put, fits, kd, sz, Tryz.VΓ, Tryz.Γs, bin, binI, binS, ifK, ar, eqB, eqS, eqK, eqK.eqF, negB, bnds, optE, XM, Vc.cells, isV, Vc.one, Xs, getB, setB, XZ, Xp, Xi, Yf, Xl, XT, resS, tupS, ofV, Yj, Nat.reduceAdd, Nat.reduceSub, Nat.reduceLT, Nat.reduceLeDiff, reduceIte, reduceCtorEq, Nat.reduceEqDiff, implies_true, forall_const, lawV])
                  rw [show (2 + (q : Int)).toNat = 2 + q by omega]
                  exact ⟨by omega, by omega, by omega, (OkD_fast (by kernel_rfl)), rfl⟩))
        · have hk2' : ¬ pre (· == 63) s1 < s1.length := by simpa using hk2
          rw [show cutC 63 s1 = (s1, [], false) from if_neg hk2']
          simp only
          have hl2 : s1.length ≤ 4294967281 := hl1
          generalize s1 = s2 at hl2 ⊢
          (
            have px3 := p_r1_Index s2 [58, 47] (by omega) (by simp)
            rw [show pre (([58, 47] : Bytes).contains ·) s2 = pre colonSlash s2 from rfl] at px3
            (refine callV_pc (px3) ?_; simp only [vcS, ↓Xn, ↓Xo, ↓Xg, ↓Xd, ↓Xe, ↓Xf, XQ, XG, gvU, setR, orN, Yl, Xm, Yn, Yi, Xa, Ym, Xc, Xc.sizeIs, reS, Xj, Yb, mmS, Xq, dstS, srcS, XP, XN, XO, Yc, XA, Yg, Xy, XE, endV, gdst, Yk, XR, Yd, goR, XC, sBox, XU, XH, Xr, sNil, XL, Xt, XV, Xv, goD, valD, XI, XF, XB, dNil, XK, XD, dBox, dN, Xz, opL, idxs, pv, XX, Ya, XJ, Xb, Xu, oBin, oUn, Ye, XW, Xw, Xx, Xh, Xk, XY, XS, oLen, lenS, Yh, ev, lk, Vc.put, fits, kd, sz, Tryz.VΓ, Tryz.Γs, bin, binI, binS, ifK, ar, eqB, eqS, eqK, eqK.eqF, negB, bnds, optE, XM, Vc.cells, isV, Vc.one, Xs, getB, setB, XZ, Xp, Xi, Yf, Xl, XT, resS, tupS, ofV, Yj, Nat.reduceAdd, Nat.reduceSub, Nat.reduceLT, Nat.reduceLeDiff, reduceIte, reduceCtorEq, Nat.reduceEqDiff, implies_true, forall_const, lawV])
            refine ⟨fun hk3 => ?_, fun hk3 => ?_⟩
            · have hp : pre colonSlash s2 < s2.length := by simpa using hk3
              rw [byte_is (n := 58) hp 58 rfl]
              refine ⟨by omega, fun h1 => ⟨by omega, ?_⟩, fun h1 => ?_⟩
              · have hh : (s2.drop (pre colonSlash s2)).head? = some 58 := by
                  rw [List.head?_drop, List.getElem?_eq_getElem hp, beq_iff_eq.1 h1]
                (refine callV_pc (p_r6_scheme _ (by rw [List.length_take]; omega)) ?_; simp only [vcS, ↓Xn, ↓Xo, ↓Xg, ↓Xd, ↓Xe, ↓Xf, XQ, XG, gvU, setR, orN, Yl, Xm, Yn, Yi, Xa, Ym, Xc, Xc.sizeIs, reS, Xj, Yb, mmS, Xq, dstS, srcS, XP, XN, XO, Yc, XA, Yg, Xy, XE, endV, gdst, Yk, XR, Yd, goR, XC, sBox, XU, XH, Xr, sNil, XL, Xt, XV, Xv, goD, valD, XI, XF, XB, dNil, XK, XD, dBox, dN, Xz, opL, idxs, pv, XX, Ya, XJ, Xb, Xu, oBin, oUn, Ye, XW, Xw, Xx, Xh, Xk, XY, XS, oLen, lenS, Yh, ev, lk, Vc.put, fits, kd, sz, Tryz.VΓ, Tryz.Γs, bin, binI, binS, ifK, ar, eqB, eqS, eqK, eqK.eqF, negB, bnds, optE, XM, Vc.cells, isV, Vc.one, Xs, getB, setB, XZ, Xp, Xi, Yf, Xl, XT, resS, tupS, ofV, Yj, Nat.reduceAdd, Nat.reduceSub, Nat.reduceLT, Nat.reduceLeDiff, reduceIte, reduceCtorEq, Nat.reduceEqDiff, implies_true, forall_const, lawV])
                refine ⟨fun h2 => ?_, fun h2 => ?_⟩
                · have hs2 : ∀ (f q : Bytes) (hf hq : Bool), splitRest s2 f q hf hq = (Uri.none, 6) := fun f q hf hq => by
                    unfold splitRest
                    rw [if_pos hh, if_neg (by rw [not_t h2]; simp)]
                  rw [hs2]; rfl
                · have hs2 : ∀ (f q : Bytes) (hf hq : Bool), splitRest s2 f q hf hq = (⟨s2.take (pre colonSlash s2), (authPath (s2.drop (pre colonSlash s2 + 1))).1, (authPath (s2.drop (pre colonSlash s2 + 1))).2.2, q, f, true, (authPath (s2.drop (pre colonSlash s2 + 1))).2.1, hq, hf⟩, 0) := fun f q hf hq => by
                    unfold splitRest
                    rw [if_pos hh, if_pos (not_f h2)]
                  have hl5 : (s2.drop (pre colonSlash s2 + 1)).length ≤ 4294967281 := by rw [List.length_drop]; omega
                  refine ⟨by omega, by omega, by omega, (OkD_fast (by kernel_rfl)), ?_⟩
                  (
                    (refine callV_pc (p_r1_Prefix (s2.drop (pre colonSlash s2 + 1)) [47, 47]) ?_; simp only [vcS, ↓Xn, ↓Xo, ↓Xg, ↓Xd, ↓Xe, ↓Xf, XQ, XG, gvU, setR, orN, Yl, Xm, Yn, Yi, Xa, Ym, Xc, Xc.sizeIs, reS, Xj, Yb, mmS, Xq, dstS, srcS, XP, XN, XO, Yc, XA, Yg, Xy, XE, endV, gdst, Yk, XR, Yd, goR, XC, sBox, XU, XH, Xr, sNil, XL, Xt, XV, Xv, goD, valD, XI, XF, XB, dNil, XK, XD, dBox, dN, Xz, opL, idxs, pv, XX, Ya, XJ, Xb, Xu, oBin, oUn, Ye, XW, Xw, Xx, Xh, Xk, XY, XS, oLen, lenS, Yh, ev, lk, Vc.put, fits, kd, sz, Tryz.VΓ, Tryz.Γs, bin, binI, binS, ifK, ar, eqB, eqS, eqK, eqK.eqF, negB, bnds, optE, XM, Vc.cells, isV, Vc.one, Xs, getB, setB, XZ, Xp, Xi, Yf, Xl, XT, resS, tupS, ofV, Yj, Nat.reduceAdd, Nat.reduceSub, Nat.reduceLT, Nat.reduceLeDiff, reduceIte, reduceCtorEq, Nat.reduceEqDiff, implies_true, forall_const, lawV])
                    cases hpf : Lib.hasPrefix (s2.drop (pre colonSlash s2 + 1)) [47, 47]
                    · refine ⟨fun h => (by cases h), fun _ => ?_⟩
                      rw [hs2, authPath_no hpf]; rfl
                    · refine ⟨fun _ => ?_, fun h => (by cases h)⟩
                      rw [hs2, authPath_two hpf]
                      have hl6 := hp_len hpf
                      simp only [List.length_cons, List.length_nil] at hl6
                      have px4 := p_r1_Index ((s2.drop (pre colonSlash s2 + 1)).drop 2) [47] (by rw [List.length_drop]; omega) (by simp)
                      rw [pre_one] at px4
                      have hpl := pre_le (· == 47) ((s2.drop (pre colonSlash s2 + 1)).drop 2)
                      rw [List.length_drop] at hpl
                      generalize pre (· == 47) ((s2.drop (pre colonSlash s2 + 1)).drop 2) = q at px4 hpl ⊢
                      refine ⟨by omega, ?_⟩
                      (refine callV_pc (px4) ?_; simp only [vcS, ↓Xn, ↓Xo, ↓Xg, ↓Xd, ↓Xe, ↓Xf, XQ, XG, gvU, setR, orN, Yl, Xm, Yn, Yi, Xa, Ym, Xc, Xc.sizeIs, reS, Xj, Yb, mmS, Xq, dstS, srcS, XP, XN, XO, Yc, XA, Yg, Xy, XE, endV, gdst, Yk, XR, Yd, goR, XC, sBox, XU, XH, Xr, sNil, XL, Xt, XV, Xv, goD, valD, XI, XF, XB, dNil, XK, XD, dBox, dN, Xz, opL, idxs, pv, XX, Ya, XJ, Xb, Xu, oBin, oUn, Ye, XW, Xw, Xx, Xh, Xk, XY, XS, oLen, lenS, Yh, ev, lk, Vc.put, fits, kd, sz, Tryz.VΓ, Tryz.Γs, bin, binI, binS, ifK, ar, eqB, eqS, eqK, eqK.eqF, negB, bnds, optE, XM, Vc.cells, isV, Vc.one, Xs, getB, setB, XZ, Xp, Xi, Yf, Xl, XT, resS, tupS, ofV, Yj, Nat.reduceAdd, Nat.reduceSub, Nat.reduceLT, Nat.reduceLeDiff, reduceIte, reduceCtorEq, Nat.reduceEqDiff, implies_true, forall_const, lawV])
                      rw [show (2 + (q : Int)).toNat = 2 + q by omega]
                      exact ⟨by omega, by omega, by omega, (OkD_fast (by kernel_rfl)), rfl⟩)
              · have hs2 : ∀ (f q : Bytes) (hf hq : Bool), splitRest s2 f q hf hq = (⟨[], (authPath s2).1, (authPath s2).2.2, q, f, false, (authPath s2).2.1, hq, hf⟩, 0) := fun f q hf hq => by
                  unfold splitRest
                  rw [if_neg (by rw [List.head?_drop, List.getElem?_eq_getElem hp]; simpa using h1)]
                have hl5 := hl2
                (
                  (refine callV_pc (p_r1_Prefix (s2) [47, 47]) ?_; simp only [vcS, ↓Xn, ↓Xo, ↓Xg, ↓Xd, ↓Xe, ↓Xf, XQ, XG, gvU, setR, orN, Yl, Xm, Yn, Yi, Xa, Ym, Xc, Xc.sizeIs, reS, Xj, Yb, mmS, Xq, dstS, srcS, XP, XN, XO, Yc, XA, Yg, Xy, XE, endV, gdst, Yk, XR, Yd, goR, XC, sBox, XU, XH, Xr, sNil, XL, Xt, XV, Xv, goD, valD, XI, XF, XB, dNil, XK, XD, dBox, dN, Xz, opL, idxs, pv, XX, Ya, XJ, Xb, Xu, oBin, oUn, Ye, XW, Xw, Xx, Xh, Xk, XY, XS, oLen, lenS, Yh, ev, lk, Vc.put, fits, kd, sz, Tryz.VΓ, Tryz.Γs, bin, binI, binS, ifK, ar, eqB, eqS, eqK, eqK.eqF, negB, bnds, optE, XM, Vc.cells, isV, Vc.one, Xs, getB, setB, XZ, Xp, Xi, Yf, Xl, XT, resS, tupS, ofV, Yj, Nat.reduceAdd, Nat.reduceSub, Nat.reduceLT, Nat.reduceLeDiff, reduceIte, reduceCtorEq, Nat.reduceEqDiff, implies_true, forall_const, lawV])
                  cases hpf : Lib.hasPrefix (s2) [47, 47]
                  · refine ⟨fun h => (by cases h), fun _ => ?_⟩
                    rw [hs2, authPath_no hpf]; rfl
                  · refine ⟨fun _ => ?_, fun h => (by cases h)⟩
                    rw [hs2, authPath_two hpf]
                    have hl6 := hp_len hpf
                    simp only [List.length_cons, List.length_nil] at hl6
                    have px4 := p_r1_Index ((s2).drop 2) [47] (by rw [List.length_drop]; omega) (by simp)
                    rw [pre_one] at px4
                    have hpl := pre_le (· == 47) ((s2).drop 2)
                    rw [List.length_drop] at hpl
                    generalize pre (· == 47) ((s2).drop 2) = q at px4 hpl ⊢
                    refine ⟨by omega, ?_⟩
                    (refine callV_pc (px4) ?_; simp only [vcS, ↓Xn, ↓Xo, ↓Xg, ↓Xd, ↓Xe, ↓Xf, XQ, XG, gvU, setR, orN, Yl, Xm, Yn, Yi, Xa, Ym, Xc, Xc.sizeIs, reS, Xj, Yb, mmS, Xq, dstS, srcS, XP, XN, XO, Yc, XA, Yg, Xy, XE, endV, gdst, Yk, XR, Yd, goR, XC, sBox, XU, XH, Xr, sNil, XL, Xt, XV, Xv, goD, valD, XI, XF, XB, dNil, XK, XD, dBox, dN, Xz, opL, idxs, pv, XX, Ya, XJ, Xb, Xu, oBin, oUn, Ye, XW, Xw, Xx, Xh, Xk, XY, XS, oLen, lenS, Yh, ev, lk, Vc.put, fits, kd, sz, Tryz.VΓ, Tryz.Γs, bin, binI, binS, ifK, ar, eqB, eqS, eqK, eqK.eqF, negB, bnds, optE, XM, Vc.cells, isV, Vc.one, Xs, getB, setB, XZ, Xp, Xi, Yf, Xl, XT, resS, tupS, ofV, Yj, Nat.reduceAdd, Nat.reduceSub, Nat.reduceLT, Nat.reduceLeDiff, reduceIte, reduceCtorEq, Nat.reduceEqDiff, implies_true, forall_const, lawV])
                    rw [show (2 + (q : Int)).toNat = 2 + q by omega]
                    exact ⟨by omega, by omega, by omega, (OkD_fast (by kernel_rfl)), rfl⟩)
            · have hs2 : ∀ (f q : Bytes) (hf hq : Bool), splitRest s2 f q hf hq = (⟨[], (authPath s2).1, (authPath s2).2.2, q, f, false, (authPath s2).2.1, hq, hf⟩, 0) := fun f q hf hq => by
                unfold splitRest
                rw [if_neg (by rw [List.drop_of_length_le (by simp at hk3; omega)]; simp)]
              have hl5 := hl2
              (
                (refine callV_pc (p_r1_Prefix (s2) [47, 47]) ?_; simp only [vcS, ↓Xn, ↓Xo, ↓Xg, ↓Xd, ↓Xe, ↓Xf, XQ, XG, gvU, setR, orN, Yl, Xm, Yn, Yi, Xa, Ym, Xc, Xc.sizeIs, reS, Xj, Yb, mmS, Xq, dstS, srcS, XP, XN, XO, Yc, XA, Yg, Xy, XE, endV, gdst, Yk, XR, Yd, goR, XC, sBox, XU, XH, Xr, sNil, XL, Xt, XV, Xv, goD, valD, XI, XF, XB, dNil, XK, XD, dBox, dN, Xz, opL, idxs, pv, XX, Ya, XJ, Xb, Xu, oBin, oUn, Ye, XW, Xw, Xx, Xh, Xk, XY, XS, oLen, lenS, Yh, ev, lk, Vc.put, fits, kd, sz, Tryz.VΓ, Tryz.Γs, bin, binI, binS, ifK, ar, eqB, eqS, eqK, eqK.eqF, negB, bnds, optE, XM, Vc.cells, isV, Vc.one, Xs, getB, setB, XZ, Xp, Xi, Yf, Xl, XT, resS, tupS, ofV, Yj, Nat.reduceAdd, Nat.reduceSub, Nat.reduceLT, Nat.reduceLeDiff, reduceIte, reduceCtorEq, Nat.reduceEqDiff, implies_true, forall_const, lawV])
                cases hpf : Lib.hasPrefix (s2) [47, 47]
                · refine ⟨fun h => (by cases h), fun _ => ?_⟩
                  rw [hs2, authPath_no hpf]; rfl
                · refine ⟨fun _ => ?_, fun h => (by cases h)⟩
                  rw [hs2, authPath_two hpf]
                  have hl6 := hp_len hpf
                  simp only [List.length_cons, List.length_nil] at hl6
                  have px4 := p_r1_Index ((s2).drop 2) [47] (by rw [List.length_drop]; omega) (by simp)
                  rw [pre_one] at px4
                  have hpl := pre_le (· == 47) ((s2).drop 2)
                  rw [List.length_drop] at hpl
                  generalize pre (· == 47) ((s2).drop 2) = q at px4 hpl ⊢
                  refine ⟨by omega, ?_⟩
                  (refine callV_pc (px4) ?_; simp only [vcS, ↓Xn, ↓Xo, ↓Xg, ↓Xd, ↓Xe, ↓Xf, XQ, XG, gvU, setR, orN, Yl, Xm, Yn, Yi, Xa, Ym, Xc, Xc.sizeIs, reS, Xj, Yb, mmS, Xq, dstS, srcS, XP, XN, XO, Yc, XA, Yg, Xy, XE, endV, gdst, Yk, XR, Yd, goR, XC, sBox, XU, XH, Xr, sNil, XL, Xt, XV, Xv, goD, valD, XI, XF, XB, dNil, XK, XD, dBox, dN, Xz, opL, idxs, pv, XX, Ya, XJ, Xb, Xu, oBin, oUn, Ye, XW, Xw, Xx, Xh, Xk, XY, XS, oLen, lenS, Yh, ev, lk, Vc.put, fits, kd, sz, Tryz.VΓ, Tryz.Γs, bin, binI, binS, ifK, ar, eqB, eqS, eqK, eqK.eqF, negB, bnds, optE, XM, Vc.cells, isV, Vc.one, Xs, getB, setB, XZ, Xp, Xi, Yf, Xl, XT, resS, tupS, ofV, Yj, Nat.reduceAdd, Nat.reduceSub, Nat.reduceLT, Nat.reduceLeDiff, reduceIte, reduceCtorEq, Nat.reduceEqDiff, implies_true, forall_const, lawV])
                  rw [show (2 + (q : Int)).toNat = 2 + q by omega]
                  exact ⟨by omega, by omega, by omega, (OkD_fast (by kernel_rfl)), rfl⟩)))
    · have hk1' : ¬ pre (· == 35) s < s.length := by simpa using hk1
      rw [show cutC 35 s = (s, [], false) from if_neg hk1']
      simp only
      have hl1 : s.length ≤ 4294967281 := hs
      generalize s = s1 at hl1 ⊢
      (
        have px2 := p_r1_Index s1 [63] (by omega) (by simp)
        rw [pre_one] at px2
        (refine callV_pc (px2) ?_; simp only [vcS, ↓Xn, ↓Xo, ↓Xg, ↓Xd, ↓Xe, ↓Xf, XQ, XG, gvU, setR, orN, Yl, Xm, Yn, Yi, Xa, Ym, Xc, Xc.sizeIs, reS, Xj, Yb, mmS, Xq, dstS, srcS, XP, XN, XO, Yc, XA, Yg, Xy, XE, endV, gdst, Yk, XR, Yd, goR, XC, sBox, XU, XH, Xr, sNil, XL, Xt, XV, Xv, goD, valD, XI, XF, XB, dNil, XK, XD, dBox, dN, Xz, opL, idxs, pv, XX, Ya, XJ, Xb, Xu, oBin, oUn, Ye, XW, Xw, Xx, Xh, Xk, XY, XS, oLen, lenS, Yh, ev, lk, Vc.put, fits, kd, sz, Tryz.VΓ, Tryz.Γs, bin, binI, binS, ifK, ar, eqB, eqS, eqK, eqK.eqF, negB, bnds, optE, XM, Vc.cells, isV, Vc.one, Xs, getB, setB, XZ, Xp, Xi, Yf, Xl, XT, resS, tupS, ofV, Yj, Nat.reduceAdd, Nat.reduceSub, Nat.reduceLT, Nat.reduceLeDiff, reduceIte, reduceCtorEq, Nat.reduceEqDiff, implies_true, forall_const, lawV])
        refine ⟨fun hk2 => ?_, fun hk2 => ?_⟩
        · have hk2' : pre (· == 63) s1 < s1.length := by simpa using hk2
          rw [show cutC 63 s1 = (s1.take (pre (· == 63) s1), s1.drop (pre (· == 63) s1 + 1), true) from if_pos hk2']
          simp only
          have hl2 : (s1.take (pre (· == 63) s1)).length ≤ 4294967281 := by rw [List.length_take]; omega
          refine ⟨by omega, by omega, by omega, (OkD_fast (by kernel_rfl)), ?_⟩
          generalize s1.take (pre (· == 63) s1) = s2 at hl2 ⊢
          generalize s1.drop (pre (· == 63) s1 + 1) = qu
          (
            have px3 := p_r1_Index s2 [58, 47] (by omega) (by simp)
            rw [show pre (([58, 47] : Bytes).contains ·) s2 = pre colonSlash s2 from rfl] at px3
            (refine callV_pc (px3) ?_; simp only [vcS, ↓Xn, ↓Xo, ↓Xg, ↓Xd, ↓Xe, ↓Xf, XQ, XG, gvU, setR, orN, Yl, Xm, Yn, Yi, Xa, Ym, Xc, Xc.sizeIs, reS, Xj, Yb, mmS, Xq, dstS, srcS, XP, XN, XO, Yc, XA, Yg, Xy, XE, endV, gdst, Yk, XR, Yd, goR, XC, sBox, XU, XH, Xr, sNil, XL, Xt, XV, Xv, goD, valD, XI, XF, XB, dNil, XK, XD, dBox, dN, Xz, opL, idxs, pv, XX, Ya, XJ, Xb, Xu, oBin, oUn, Ye, XW, Xw, Xx, Xh, Xk, XY, XS, oLen, lenS, Yh, ev, lk, Vc.put, fits, kd, sz, Tryz.VΓ, Tryz.Γs, bin, binI, binS, ifK, ar, eqB, eqS, eqK, eqK.eqF, negB, bnds, optE, XM, Vc.cells, isV, Vc.one, Xs, getB, setB, XZ, Xp, Xi, Yf, Xl, XT, resS, tupS, ofV, Yj, Nat.reduceAdd, Nat.reduceSub, Nat.reduceLT, Nat.reduceLeDiff, reduceIte, reduceCtorEq, Nat.reduceEqDiff, implies_true, forall_const, lawV])
            refine ⟨fun hk3 => ?_, fun hk3 => ?_⟩
            · have hp : pre colonSlash s2 < s2.length := by simpa using hk3
              rw [byte_is (n := 58) hp 58 rfl]
              refine ⟨by omega, fun h1 => ⟨by omega, ?_⟩, fun h1 => ?_⟩
              · have hh : (s2.drop (pre colonSlash s2)).head? = some 58 := by
                  rw [List.head?_drop, List.getElem?_eq_getElem hp, beq_iff_eq.1 h1]
                (refine callV_pc (p_r6_scheme _ (by rw [List.length_take]; omega)) ?_; simp only [vcS, ↓Xn, ↓Xo, ↓Xg, ↓Xd, ↓Xe, ↓Xf, XQ, XG, gvU, setR, orN, Yl, Xm, Yn, Yi, Xa, Ym, Xc, Xc.sizeIs, reS, Xj, Yb, mmS, Xq, dstS, srcS, XP, XN, XO, Yc, XA, Yg, Xy, XE, endV, gdst, Yk, XR, Yd, goR, XC, sBox, XU, XH, Xr, sNil, XL, Xt, XV, Xv, goD, valD, XI, XF, XB, dNil, XK, XD, dBox, dN, Xz, opL, idxs, pv, XX, Ya, XJ, Xb, Xu, oBin, oUn, Ye, XW, Xw, Xx, Xh, Xk, XY, XS, oLen, lenS, Yh, ev, lk, Vc.put, fits, kd, sz, Tryz.VΓ, Tryz.Γs, bin, binI, binS, ifK, ar, eqB, eqS, eqK, eqK.eqF, negB, bnds, optE, XM, Vc.cells, isV, Vc.one, Xs, getB, setB, XZ, Xp, Xi, Yf, Xl, XT, resS, tupS, ofV, Yj, Nat.reduceAdd, Nat.reduceSub, Nat.reduceLT, Nat.reduceLeDiff, reduceIte, reduceCtorEq, Nat.reduceEqDiff, implies_true, forall_const, lawV])
                refine ⟨fun h2 => ?_, fun h2 => ?_⟩
                · have hs2 : ∀ (f q : Bytes) (hf hq : Bool), splitRest s2 f q hf hq = (Uri.none, 6) := fun f q hf hq => by
                    unfold splitRest
                    rw [if_pos hh, if_neg (by rw [not_t h2]; simp)]
                  rw [hs2]; rfl
                · have hs2 : ∀ (f q : Bytes) (hf hq : Bool), splitRest s2 f q hf hq = (⟨s2.take (pre colonSlash s2), (authPath (s2.drop (pre colonSlash s2 + 1))).1, (authPath (s2.drop (pre colonSlash s2 + 1))).2.2, q, f, true, (authPath (s2.drop (pre colonSlash s2 + 1))).2.1, hq, hf⟩, 0) := fun f q hf hq => by
                    unfold splitRest
                    rw [if_pos hh, if_pos (not_f h2)]
                  have hl5 : (s2.drop (pre colonSlash s2 + 1)).length ≤ 4294967281 := by rw [List.length_drop]; omega
                  refine ⟨by omega, by omega, by omega, (OkD_fast (by kernel_rfl)), ?_⟩
                  (
                    (refine callV_pc (p_r1_Prefix (s2.drop (pre colonSlash s2 + 1)) [47, 47]) ?_; simp only [vcS, ↓Xn, ↓Xo, ↓Xg, ↓Xd, ↓Xe, ↓Xf, XQ, XG, gvU, setR, orN, Yl, Xm, Yn, Yi, Xa, Ym, Xc, Xc.sizeIs, reS, Xj, Yb, mmS, Xq, dstS, srcS, XP, XN, XO, Yc, XA, Yg, Xy, XE, endV, gdst, Yk, XR, Yd, goR, XC, sBox, XU, XH, Xr, sNil, XL, Xt, XV, Xv, goD, valD, XI, XF, XB, dNil, XK, XD, dBox, dN, Xz, opL, idxs, pv, XX, Ya, XJ, Xb, Xu, oBin, oUn, Ye, XW, Xw, Xx, Xh, Xk, XY, XS, oLen, lenS, Yh, ev, lk, Vc.put, fits, kd, sz, Tryz.VΓ, Tryz.Γs, bin, binI, binS, ifK, ar, eqB, eqS, eqK, eqK.eqF, negB, bnds, optE, XM, Vc.cells, isV, Vc.one, Xs, getB, setB, XZ, Xp, Xi, Yf, Xl, XT, resS, tupS, ofV, Yj, Nat.reduceAdd, Nat.reduceSub, Nat.reduceLT, Nat.reduceLeDiff, reduceIte, reduceCtorEq, Nat.reduceEqDiff, implies_true, forall_const, lawV])
                    cases hpf : Lib.hasPrefix (s2.drop (pre colonSlash s2 + 1)) [47, 47]
                    · refine ⟨fun h => (by cases h), fun _ => ?_⟩
                      rw [hs2, authPath_no hpf]; rfl
                    · refine ⟨fun _ => ?_, fun h => (by cases h)⟩
                      rw [hs2, authPath_two hpf]
                      have hl6 := hp_len hpf
                      simp only [List.length_cons, List.length_nil] at hl6
                      have px4 := p_r1_Index ((s2.drop (pre colonSlash s2 + 1)).drop 2) [47] (by rw [List.length_drop]; omega) (by simp)
                      rw [pre_one] at px4
                      have hpl := pre_le (· == 47) ((s2.drop (pre colonSlash s2 + 1)).drop 2)
                      rw [List.length_drop] at hpl
                      generalize pre (· == 47) ((s2.drop (pre colonSlash s2 + 1)).drop 2) = q at px4 hpl ⊢
                      refine ⟨by omega, ?_⟩
                      (refine callV_pc (px4) ?_; simp only [vcS, ↓Xn, ↓Xo, ↓Xg, ↓Xd, ↓Xe, ↓Xf, XQ, XG, gvU, setR, orN, Yl, Xm, Yn, Yi, Xa, Ym, Xc, Xc.sizeIs, reS, Xj, Yb, mmS, Xq, dstS, srcS, XP, XN, XO, Yc, XA, Yg, Xy, XE, endV, gdst, Yk, XR, Yd, goR, XC, sBox, XU, XH, Xr, sNil, XL, Xt, XV, Xv, goD, valD, XI, XF, XB, dNil, XK, XD, dBox, dN, Xz, opL, idxs, pv, XX, Ya, XJ, Xb, Xu, oBin, oUn, Ye, XW, Xw, Xx, Xh, Xk, XY, XS, oLen, lenS, Yh, ev, lk, Vc.put, fits, kd, sz, Tryz.VΓ, Tryz.Γs, bin, binI, binS, ifK, ar, eqB, eqS, eqK, eqK.eqF, negB, bnds, optE, XM, Vc.cells, isV, Vc.one, Xs, getB, setB, XZ, Xp, Xi, Yf, Xl, XT, resS, tupS, ofV, Yj, Nat.reduceAdd, Nat.reduceSub, Nat.reduceLT, Nat.reduceLeDiff, reduceIte, reduceCtorEq, Nat.reduceEqDiff, implies_true, forall_const, lawV])
                      rw [show (2 + (q : Int)).toNat = 2 + q by omega]
                      exact ⟨by omega, by omega, by omega, (OkD_fast (by kernel_rfl)), rfl⟩)
              · have hs2 : ∀ (f q : Bytes) (hf hq : Bool), splitRest s2 f q hf hq = (⟨[], (authPath s2).1, (authPath s2).2.2, q, f, false, (authPath s2).2.1, hq, hf⟩, 0) := fun f q hf hq => by
                  unfold splitRest
                  rw [if_neg (by rw [List.head?_drop, List.getElem?_eq_getElem hp]; simpa using h1)]
                have hl5 := hl2
                (
                  (refine callV_pc (p_r1_Prefix (s2) [47, 47]) ?_; simp only [vcS, ↓Xn, ↓Xo, ↓Xg, ↓Xd, ↓Xe, ↓Xf, XQ, XG, gvU, setR, orN, Yl, Xm, Yn, Yi, Xa, Ym, Xc, Xc.sizeIs, reS, Xj, Yb, mmS, Xq, dstS, srcS, XP, XN, XO, Yc, XA, Yg, Xy, XE, endV, gdst, Yk, XR, Yd, goR, XC, sBox, XU, XH, Xr, sNil, XL, Xt, XV, Xv, goD, valD, XI, XF, XB, dNil, XK, XD, dBox, dN, Xz, opL, idxs, pv, XX, Ya, XJ, Xb, Xu, oBin, oUn, Ye, XW, Xw, Xx, Xh, Xk, XY, XS, oLen, lenS, Yh, ev, lk, Vc.put, fits, kd, sz, Tryz.VΓ, Tryz.Γs, bin, binI, binS, ifK, ar, eqB, eqS, eqK, eqK.eqF, negB, bnds, optE, XM, Vc.cells, isV, Vc.one, Xs, getB, setB, XZ, Xp, Xi, Yf, Xl, XT, resS, tupS, ofV, Yj, Nat.reduceAdd, Nat.reduceSub, Nat.reduceLT, Nat.reduceLeDiff, reduceIte, reduceCtorEq, Nat.reduceEqDiff, implies_true, forall_const, lawV])
                  cases hpf : Lib.hasPrefix (s2) [47, 47]
                  · refine ⟨fun h => (by cases h), fun _ => ?_⟩
                    rw [hs2, authPath_no hpf]; rfl
                  · refine ⟨fun _ => ?_, fun h => (by cases h)⟩
                    rw [hs2, authPath_two hpf]
                    have hl6 := hp_len hpf
                    simp only [List.length_cons, List.length_nil] at hl6
                    have px4 := p_r1_Index ((s2).drop 2) [47] (by rw [List.length_drop]; omega) (by simp)
                    rw [pre_one] at px4
                    have hpl := pre_le (· == 47) ((s2).drop 2)
                    rw [List.length_drop] at hpl
                    generalize pre (· == 47) ((s2).drop 2) = q at px4 hpl ⊢
                    refine ⟨by omega, ?_⟩
                    (refine callV_pc (px4) ?_; simp only [vcS, ↓Xn, ↓Xo, ↓Xg, ↓Xd, ↓Xe, ↓Xf, XQ, XG, gvU, setR, orN, Yl, Xm, Yn, Yi, Xa, Ym, Xc, Xc.sizeIs, reS, Xj, Yb, mmS, Xq, dstS, srcS, XP, XN, XO, Yc, XA, Yg, Xy, XE, endV, gdst, Yk, XR, Yd, goR, XC, sBox, XU, XH, Xr, sNil, XL, Xt, XV, Xv, goD, valD, XI, XF, XB, dNil, XK, XD, dBox, dN, Xz, opL, idxs, pv, XX, Ya, XJ, Xb, Xu, oBin, oUn, Ye, XW, Xw, Xx, Xh, Xk, XY, XS, oLen, lenS, Yh, ev, lk, Vc.put, fits, kd, sz, Tryz.VΓ, Tryz.Γs, bin, binI, binS, ifK, ar, eqB, eqS, eqK, eqK.eqF, negB, bnds, optE, XM, Vc.cells, isV, Vc.one, Xs, getB, setB, XZ, Xp, Xi, Yf, Xl, XT, resS, tupS, ofV, Yj, Nat.reduceAdd, Nat.reduceSub, Nat.reduceLT, Nat.reduceLeDiff, reduceIte, reduceCtorEq, Nat.reduceEqDiff, implies_true, forall_const, lawV])
                    rw [show (2 + (q : Int)).toNat = 2 + q by omega]
                    exact ⟨by omega, by omega, by omega, (OkD_fast (by kernel_rfl)), rfl⟩)
            · have hs2 : ∀ (f q : Bytes) (hf hq : Bool), splitRest s2 f q hf hq = (⟨[], (authPath s2).1, (authPath s2).2.2, q, f, false, (authPath s2).2.1, hq, hf⟩, 0) := fun f q hf hq => by
                unfold splitRest
                rw [if_neg (by rw [List.drop_of_length_le (by simp at hk3; omega)]; simp)]
              have hl5 := hl2
              (
                (refine callV_pc (p_r1_Prefix (s2) [47, 47]) ?_; simp only [vcS, ↓Xn, ↓Xo, ↓Xg, ↓Xd, ↓Xe, ↓Xf, XQ, XG, gvU, setR, orN, Yl, Xm, Yn, Yi, Xa, Ym, Xc, Xc.sizeIs, reS, Xj, Yb, mmS, Xq, dstS, srcS, XP, XN, XO, Yc, XA, Yg, Xy, XE, endV, gdst, Yk, XR, Yd, goR, XC, sBox, XU, XH, Xr, sNil, XL, Xt, XV, Xv, goD, valD, XI, XF, XB, dNil, XK, XD, dBox, dN, Xz, opL, idxs, pv, XX, Ya, XJ, Xb, Xu, oBin, oUn, Ye, XW, Xw, Xx, Xh, Xk, XY, XS, oLen, lenS, Yh, ev, lk, Vc.put, fits, kd, sz, Tryz.VΓ, Tryz.Γs, bin, binI, binS, ifK, ar, eqB, eqS, eqK, eqK.eqF, negB, bnds, optE, XM, Vc.cells, isV, Vc.one, Xs, getB, setB, XZ, Xp, Xi, Yf, Xl, XT, resS, tupS, ofV, Yj, Nat.reduceAdd, Nat.reduceSub, Nat.reduceLT, Nat.reduceLeDiff, reduceIte, reduceCtorEq, Nat.reduceEqDiff, implies_true, forall_const, lawV])
                cases hpf : Lib.hasPrefix (s2) [47, 47]
                · refine ⟨fun h => (by cases h), fun _ => ?_⟩
                  rw [hs2, authPath_no hpf]; rfl
                · refine ⟨fun _ => ?_, fun h => (by cases h)⟩
                  rw [hs2, authPath_two hpf]
                  have hl6 := hp_len hpf
                  simp only [List.length_cons, List.length_nil] at hl6
                  have px4 := p_r1_Index ((s2).drop 2) [47] (by rw [List.length_drop]; omega) (by simp)
                  rw [pre_one] at px4
                  have hpl := pre_le (· == 47) ((s2).drop 2)
                  rw [List.length_drop] at hpl
                  generalize pre (· == 47) ((s2).drop 2) = q at px4 hpl ⊢
                  refine ⟨by omega, ?_⟩
                  (refine callV_pc (px4) ?_; simp only [vcS, ↓Xn, ↓Xo, ↓Xg, ↓Xd, ↓Xe, ↓Xf, XQ, XG, gvU, setR, orN, Yl, Xm, Yn, Yi, Xa, Ym, Xc, Xc.sizeIs, reS, Xj, Yb, mmS, Xq, dstS, srcS, XP, XN, XO, Yc, XA, Yg, Xy, XE, endV, gdst, Yk, XR, Yd, goR, XC, sBox, XU, XH, Xr, sNil, XL, Xt, XV, Xv, goD, valD, XI, XF, XB, dNil, XK, XD, dBox, dN, Xz, opL, idxs, pv, XX, Ya, XJ, Xb, Xu, oBin, oUn, Ye, XW, Xw, Xx, Xh, Xk, XY, XS, oLen, lenS, Yh, ev, lk, Vc.put, fits, kd, sz, Tryz.VΓ, Tryz.Γs, bin, binI, binS, ifK, ar, eqB, eqS, eqK, eqK.eqF, negB, bnds, optE, XM, Vc.cells, isV, Vc.one, Xs, getB, setB, XZ, Xp, Xi, Yf, Xl, XT, resS, tupS, ofV, Yj, Nat.reduceAdd, Nat.reduceSub, Nat.reduceLT, Nat.reduceLeDiff, reduceIte, reduceCtorEq, Nat.reduceEqDiff, implies_true, forall_const, lawV])
                  rw [show (2 + (q : Int)).toNat = 2 + q by omega]
                  exact ⟨by omega, by omega, by omega, (OkD_fast (by kernel_rfl)), rfl⟩))
        · have hk2' : ¬ pre (· == 63) s1 < s1.length := by simpa using hk2
          rw [show cutC 63 s1 = (s1, [], false) from if_neg hk2']
          simp only
          have hl2 : s1.length ≤ 4294967281 := hl1
          generalize s1 = s2 at hl2 ⊢
          (
            have px3 := p_r1_Index s2 [58, 47] (by omega) (by simp)
            rw [show pre (([58, 47] : Bytes).contains ·) s2 = pre colonSlash s2 from rfl] at px3
            (refine callV_pc (px3) ?_; simp only [vcS, ↓Xn, ↓Xo, ↓Xg, ↓Xd, ↓Xe, ↓Xf, XQ, XG, gvU, setR, orN, Yl, Xm, Yn, Yi, Xa, Ym, Xc, Xc.sizeIs, reS, Xj, Yb, mmS, Xq, dstS, srcS, XP, XN, XO, Yc, XA, Yg, Xy, XE, endV, gdst, Yk, XR, Yd, goR, XC, sBox, XU, XH, Xr, sNil, XL, Xt, XV, Xv, goD, valD, XI, XF, XB, dNil, XK, XD, dBox, dN, Xz, opL, idxs, pv, XX, Ya, XJ, Xb, Xu, oBin, oUn, Ye, XW, Xw, Xx, Xh, Xk, XY, XS, oLen, lenS, Yh, ev, lk, Vc.put, fits, kd, sz, Tryz.VΓ, Tryz.Γs, bin, binI, binS, ifK, ar, eqB, eqS, eqK, eqK.eqF, negB, bnds, optE, XM, Vc.cells, isV, Vc.one, Xs, getB, setB, XZ, Xp, Xi, Yf, Xl, XT, resS, tupS, ofV, Yj, Nat.reduceAdd, Nat.reduceSub, Nat.reduceLT, Nat.reduceLeDiff, reduceIte, reduceCtorEq, Nat.reduceEqDiff, implies_true, forall_const, lawV])
            refine ⟨fun hk3 => ?_, fun hk3 => ?_⟩
            · have hp : pre colonSlash s2 < s2.length := by simpa using hk3
              rw [byte_is (n := 58) hp 58 rfl]
              refine ⟨by omega, fun h1 => ⟨by omega, ?_⟩, fun h1 => ?_⟩
              · have hh : (s2.drop (pre colonSlash s2)).head? = some 58 := by
                  rw [List.head?_drop, List.getElem?_eq_getElem hp, beq_iff_eq.1 h1]
                (refine callV_pc (p_r6_scheme _ (by rw [List.length_take]; omega)) ?_; simp only [vcS, ↓Xn, ↓Xo, ↓Xg, ↓Xd, ↓Xe, ↓Xf, XQ, XG, gvU, setR, orN, Yl, Xm, Yn, Yi, Xa, Ym, Xc, Xc.sizeIs, reS, Xj, Yb, mmS, Xq, dstS, srcS, XP, XN, XO, Yc, XA, Yg, Xy, XE, endV, gdst, Yk, XR, Yd, goR, XC, sBox, XU, XH, Xr, sNil, XL, Xt, XV, Xv, goD, valD, XI, XF, XB, dNil, XK, XD, dBox, dN, Xz, opL, idxs, pv, XX, Ya, XJ, Xb, Xu, oBin, oUn, Ye, XW, Xw, Xx, Xh, Xk, XY, XS, oLen, lenS, Yh, ev, lk, Vc.put, fits, kd, sz, Tryz.VΓ, Tryz.Γs, bin, binI, binS, ifK, ar, eqB, eqS, eqK, eqK.eqF, negB, bnds, optE, XM, Vc.cells, isV, Vc.one, Xs, getB, setB, XZ, Xp, Xi, Yf, Xl, XT, resS, tupS, ofV, Yj, Nat.reduceAdd, Nat.reduceSub, Nat.reduceLT, Nat.reduceLeDiff, reduceIte, reduceCtorEq, Nat.reduceEqDiff, implies_true, forall_const, lawV])
                refine ⟨fun h2 => ?_, fun h2 => ?_⟩
                · have hs2 : ∀ (f q : Bytes) (hf hq : Bool), splitRest s2 f q hf hq = (Uri.none, 6) := fun f q hf hq => by
                    unfold splitRest
                    rw [if_pos hh, if_neg (by rw [not_t h2]; simp)]
                  rw [hs2]; rfl
                · have hs2 : ∀ (f q : Bytes) (hf hq : Bool), splitRest s2 f q hf hq = (⟨s2.take (pre colonSlash s2), (authPath (s2.drop (pre colonSlash s2 + 1))).1, (authPath (s2.drop (pre colonSlash s2 + 1))).2.2, q, f, true, (authPath (s2.drop (pre colonSlash s2 + 1))).2.1, hq, hf⟩, 0) := fun f q hf hq => by
                    unfold splitRest
                    rw [if_pos hh, if_pos (not_f h2)]
                  have hl5 : (s2.drop (pre colonSlash s2 + 1)).length ≤ 4294967281 := by rw [List.length_drop]; omega
                  refine ⟨by omega, by omega, by omega, (OkD_fast (by kernel_rfl)), ?_⟩
                  (
                    (refine callV_pc (p_r1_Prefix (s2.drop (pre colonSlash s2 + 1)) [47, 47]) ?_; simp only [vcS, ↓Xn, ↓Xo, ↓Xg, ↓Xd, ↓Xe, ↓Xf, XQ, XG, gvU, setR, orN, Yl, Xm, Yn, Yi, Xa, Ym, Xc, Xc.sizeIs, reS, Xj, Yb, mmS, Xq, dstS, srcS, XP, XN, XO, Yc, XA, Yg, Xy, XE, endV, gdst, Yk, XR, Yd, goR, XC, sBox, XU, XH, Xr, sNil, XL, Xt, XV, Xv, goD, valD, XI, XF, XB, dNil, XK, XD, dBox, dN, Xz, opL, idxs, pv, XX, Ya, XJ, Xb, Xu, oBin, oUn, Ye, XW, Xw, Xx, Xh, Xk, XY, XS, oLen, lenS, Yh, ev, lk, Vc.put, fits, kd, sz, Tryz.VΓ, Tryz.Γs, bin, binI, binS, ifK, ar, eqB, eqS, eqK, eqK.eqF, negB, bnds, optE, XM, Vc.cells, isV, Vc.one, Xs, getB, setB, XZ, Xp, Xi, Yf, Xl, XT, resS, tupS, ofV, Yj, Nat.reduceAdd, Nat.reduceSub, Nat.reduceLT, Nat.reduceLeDiff, reduceIte, reduceCtorEq, Nat.reduceEqDiff, implies_true, forall_const, lawV])
                    cases hpf : Lib.hasPrefix (s2.drop (pre colonSlash s2 + 1)) [47, 47]
                    · refine ⟨fun h => (by cases h), fun _ => ?_⟩
                      rw [hs2, authPath_no hpf]; rfl
                    · refine ⟨fun _ => ?_, fun h => (by cases h)⟩
                      rw [hs2, authPath_two hpf]
                      have hl6 := hp_len hpf
                      simp only [List.length_cons, List.length_nil] at hl6
                      have px4 := p_r1_Index ((s2.drop (pre colonSlash s2 + 1)).drop 2) [47] (by rw [List.length_drop]; omega) (by simp)
                      rw [pre_one] at px4
                      have hpl := pre_le (· == 47) ((s2.drop (pre colonSlash s2 + 1)).drop 2)
                      rw [List.length_drop] at hpl
                      generalize pre (· == 47) ((s2.drop (pre colonSlash s2 + 1)).drop 2) = q at px4 hpl ⊢
                      refine ⟨by omega, ?_⟩
                      (refine callV_pc (px4) ?_; simp only [vcS, ↓Xn, ↓Xo, ↓Xg, ↓Xd, ↓Xe, ↓Xf, XQ, XG, gvU, setR, orN, Yl, Xm, Yn, Yi, Xa, Ym, Xc, Xc.sizeIs, reS, Xj, Yb, mmS, Xq, dstS, srcS, XP, XN, XO, Yc, XA, Yg, Xy, XE, endV, gdst, Yk, XR, Yd, goR, XC, sBox, XU, XH, Xr, sNil, XL, Xt, XV, Xv, goD, valD, XI, XF, XB, dNil, XK, XD, dBox, dN, Xz, opL, idxs, pv, XX, Ya, XJ, Xb, Xu, oBin, oUn, Ye, XW, Xw, Xx, Xh, Xk, XY, XS, oLen, lenS, Yh, ev, lk, Vc.put, fits, kd, sz, Tryz.VΓ, Tryz.Γs, bin, binI, binS, ifK, ar, eqB, eqS, eqK, eqK.eqF, negB, bnds, optE, XM, Vc.cells, isV, Vc.one, Xs, getB, setB, XZ, Xp, Xi, Yf, Xl, XT, resS, tupS, ofV, Yj, Nat.reduceAdd, Nat.reduceSub, Nat.reduceLT, Nat.reduceLeDiff, reduceIte, reduceCtorEq, Nat.reduceEqDiff, implies_true, forall_const, lawV])
                      rw [show (2 + (q : Int)).toNat = 2 + q by omega]
                      exact ⟨by omega, by omega, by omega, (OkD_fast (by kernel_rfl)), rfl⟩)
              · have hs2 : ∀ (f q : Bytes) (hf hq : Bool), splitRest s2 f q hf hq = (⟨[], (authPath s2).1, (authPath s2).2.2, q, f, false, (authPath s2).2.1, hq, hf⟩, 0) := fun f q hf hq => by
                  unfold splitRest
                  rw [if_neg (by rw [List.head?_drop, List.getElem?_eq_getElem hp]; simpa using h1)]
                have hl5 := hl2
                (
                  (refine callV_pc (p_r1_Prefix (s2) [47, 47]) ?_; simp only [vcS, ↓Xn, ↓Xo, ↓Xg, ↓Xd, ↓Xe, ↓Xf, XQ, XG, gvU, setR, orN, Yl, Xm, Yn, Yi, Xa, Ym, Xc, Xc.sizeIs, reS, Xj, Yb, mmS, Xq, dstS, srcS, XP, XN, XO, Yc, XA, Yg, Xy, XE, endV, gdst, Yk, XR, Yd, goR, XC, sBox, XU, XH, Xr, sNil, XL, Xt, XV, Xv, goD, valD, XI, XF, XB, dNil, XK, XD, dBox, dN, Xz, opL, idxs, pv, XX, Ya, XJ, Xb, Xu, oBin, oUn, Ye, XW, Xw, Xx, Xh, Xk, XY, XS, oLen, lenS, Yh, ev, lk, Vc.put, fits, kd, sz, Tryz.VΓ, Tryz.Γs, bin, binI, binS, ifK, ar, eqB, eqS, eqK, eqK.eqF, negB, bnds, optE, XM, Vc.cells, isV, Vc.one, Xs, getB, setB, XZ, Xp, Xi, Yf, Xl, XT, resS, tupS, ofV, Yj, Nat.reduceAdd, Nat.reduceSub, Nat.reduceLT, Nat.reduceLeDiff, reduceIte, reduceCtorEq, Nat.reduceEqDiff, implies_true, forall_const, lawV])
                  cases hpf : Lib.hasPrefix (s2) [47, 47]
                  · refine ⟨fun h => (by cases h), fun _ => ?_⟩
                    rw [hs2, authPath_no hpf]; rfl
                  · refine ⟨fun _ => ?_, fun h => (by cases h)⟩
                    rw [hs2, authPath_two hpf]
                    have hl6 := hp_len hpf
                    simp only [List.length_cons, List.length_nil] at hl6
                    have px4 := p_r1_Index ((s2).drop 2) [47] (by rw [List.length_drop]; omega) (by simp)
                    rw [pre_one] at px4
                    have hpl := pre_le (· == 47) ((s2).drop 2)
                    rw [List.length_drop] at hpl
                    generalize pre (· == 47) ((s2).drop 2) = q at px4 hpl ⊢
                    refine ⟨by omega, ?_⟩
                    (refine callV_pc (px4) ?_; simp only [vcS, ↓Xn, ↓Xo, ↓Xg, ↓Xd, ↓Xe, ↓Xf, XQ, XG, gvU, setR, orN, Yl, Xm, Yn, Yi, Xa, Ym, Xc, Xc.sizeIs, reS, Xj, Yb, mmS, Xq, dstS, srcS, XP, XN, XO, Yc, XA, Yg, Xy, XE, endV, gdst, Yk, XR, Yd, goR, XC, sBox, XU, XH, Xr, sNil, XL, Xt, XV, Xv, goD, valD, XI, XF, XB, dNil, XK, XD, dBox, dN, Xz, opL, idxs, pv, XX, Ya, XJ, Xb, Xu, oBin, oUn, Ye, XW, Xw, Xx, Xh, Xk, XY, XS, oLen, lenS, Yh, ev, lk, Vc.put, fits, kd, sz, Tryz.VΓ, Tryz.Γs, bin, binI, binS, ifK, ar, eqB, eqS, eqK, eqK.eqF, negB, bnds, optE, XM, Vc.cells, isV, Vc.one, Xs, getB, setB, XZ, Xp, Xi, Yf, Xl, XT, resS, tupS, ofV, Yj, Nat.reduceAdd, Nat.reduceSub, Nat.reduceLT, Nat.reduceLeDiff, reduceIte, reduceCtorEq, Nat.reduceEqDiff, implies_true, forall_const, lawV])
                    rw [show (2 + (q : Int)).toNat = 2 + q by omega]
                    exact ⟨by omega, by omega, by omega, (OkD_fast (by kernel_rfl)), rfl⟩)
            · have hs2 : ∀ (f q : Bytes) (hf hq : Bool), splitRest s2 f q hf hq = (⟨[], (authPath s2).1, (authPath s2).2.2, q, f, false, (authPath s2).2.1, hq, hf⟩, 0) := fun f q hf hq => by
                unfold splitRest
                rw [if_neg (by rw [List.drop_of_length_le (by simp at hk3; omega)]; simp)]
              have hl5 := hl2
              (
                (refine callV_pc (p_r1_Prefix (s2) [47, 47]) ?_; simp only [vcS, ↓Xn, ↓Xo, ↓Xg, ↓Xd, ↓Xe, ↓Xf, XQ, XG, gvU, setR, orN, Yl, Xm, Yn, Yi, Xa, Ym, Xc, Xc.sizeIs, reS, Xj, Yb, mmS, Xq, dstS, srcS, XP, XN, XO, Yc, XA, Yg, Xy, XE, endV, gdst, Yk, XR, Yd, goR, XC, sBox, XU, XH, Xr, sNil, XL, Xt, XV, Xv, goD, valD, XI, XF, XB, dNil, XK, XD, dBox, dN, Xz, opL, idxs, pv, XX, Ya, XJ, Xb, Xu, oBin, oUn, Ye, XW, Xw, Xx, Xh, Xk, XY, XS, oLen, lenS, Yh, ev, lk, Vc.put, fits, kd, sz, Tryz.VΓ, Tryz.Γs, bin, binI, binS, ifK, ar, eqB, eqS, eqK, eqK.eqF, negB, bnds, optE, XM, Vc.cells, isV, Vc.one, Xs, getB, setB, XZ, Xp, Xi, Yf, Xl, XT, resS, tupS, ofV, Yj, Nat.reduceAdd, Nat.reduceSub, Nat.reduceLT, Nat.reduceLeDiff, reduceIte, reduceCtorEq, Nat.reduceEqDiff, implies_true, forall_const, lawV])
                cases hpf : Lib.hasPrefix (s2) [47, 47]
                · refine ⟨fun h => (by cases h), fun _ => ?_⟩
                  rw [hs2, authPath_no hpf]; rfl
                · refine ⟨fun _ => ?_, fun h => (by cases h)⟩
                  rw [hs2, authPath_two hpf]
                  have hl6 := hp_len hpf
                  simp only [List.length_cons, List.length_nil] at hl6
                  have px4 := p_r1_Index ((s2).drop 2) [47] (by rw [List.length_drop]; omega) (by simp)
                  rw [pre_one] at px4
                  have hpl := pre_le (· == 47) ((s2).drop 2)
                  rw [List.length_drop] at hpl
                  generalize pre (· == 47) ((s2).drop 2) = q at px4 hpl ⊢
                  refine ⟨by omega, ?_⟩
                  (refine callV_pc (px4) ?_; simp only [vcS, ↓Xn, ↓Xo, ↓Xg, ↓Xd, ↓Xe, ↓Xf, XQ, XG, gvU, setR, orN, Yl, Xm, Yn, Yi, Xa, Ym, Xc, Xc.sizeIs, reS, Xj, Yb, mmS, Xq, dstS, srcS, XP, XN, XO, Yc, XA, Yg, Xy, XE, endV, gdst, Yk, XR, Yd, goR, XC, sBox, XU, XH, Xr, sNil, XL, Xt, XV, Xv, goD, valD, XI, XF, XB, dNil, XK, XD, dBox, dN, Xz, opL, idxs, pv, XX, Ya, XJ, Xb, Xu, oBin, oUn, Ye, XW, Xw, Xx, Xh, Xk, XY, XS, oLen, lenS, Yh, ev, lk, Vc.put, fits, kd, sz, Tryz.VΓ, Tryz.Γs, bin, binI, binS, ifK, ar, eqB, eqS, eqK, eqK.eqF, negB, bnds, optE, XM, Vc.cells, isV, Vc.one, Xs, getB, setB, XZ, Xp, Xi, Yf, Xl, XT, resS, tupS, ofV, Yj, Nat.reduceAdd, Nat.reduceSub, Nat.reduceLT, Nat.reduceLeDiff, reduceIte, reduceCtorEq, Nat.reduceEqDiff, implies_true, forall_const, lawV])
                  rw [show (2 + (q : Int)).toNat = 2 + q by omega]
                  exact ⟨by omega, by omega, by omega, (OkD_fast (by kernel_rfl)), rfl⟩)))
end Go.Proofs.YtnpkjglcbolcbaaGreatDoor
