/- The walks of package weburl and its reference: Target, Origin, Format. -/
import Derived.Test.YtnpkjglcbolcbaaGreatDoorPlain
import Derived.Test.YtnpkjglcbolcbaaGreatDoorHostPC
import Derived.Test.YtnpkjglcbolcbaaGreatDoorPct
set_option linter.all false
set_option maxRecDepth 20000
namespace Go.Proofs.YtnpkjglcbolcbaaGreatDoor
open Go Vc Go.RowKit Wf
set_option linter.unusedSimpArgs false
def wsv (u : Url) : SV := .agg [.str u.host, .int .i64 u.port, .str u.path, .str u.query, .str u.fragment, .bool u.hasQuery, .bool u.hasFrag]
/-- The sizes at which texts are reckoned. -/
def Fair (u : Url) : Prop := u.host.length + u.path.length + u.query.length + u.fragment.length ≤ 1000000 ∧ -9223372036854775808 ≤ u.port ∧ u.port ≤ 9223372036854775807
theorem hostText_len2 (x : Bytes) {p : Int} (h0 : -9223372036854775808 ≤ p) (h1 : p ≤ 9223372036854775807) : (hostText x p).length ≤ x.length + 22 := by
  have := decS_length 19 p.natAbs (by omega)
  unfold hostText
  split
  · omega
  · split <;> simp <;> omega
theorem urlTarget_len (u : Url) : (urlTarget u).length ≤ u.path.length + u.query.length + 1 := by
  unfold urlTarget
  split
  · simp; omega
  · omega
theorem p_url_Target (u : Url) (hk : Fair u) : PC Tryz.V 25 [wsv u] (.str (urlTarget u)) := by
  obtain ⟨hk, -⟩ := hk
  (refine pc_of 3000 Tryz.func25 rfl Tryz.ntmps25 Tryz.results25 Tryz.call25 (by simp) (by simp [flat, flat.flatL, wsv]) (by simp [flat, flat.flatL, wsv]) ?_
   unfold wsv
   simp only [vcS, ↓Xn, ↓Xo, ↓Xg, ↓Xd, ↓Xe, ↓Xf, XQ, XG, gvU, setR, orN, Yl, Xm, Yn, Yi, Xa, Ym, Xc, Xc.sizeIs, reS, Xj, Yb, mmS, Xq, dstS, srcS, XP, XN, XO, Yc, XA, Yg, Xy, XE, endV, gdst, Yk, XR, Yd, goR, XC, sBox, XU, XH, Xr, sNil, XL, Xt, XV, Xv, goD, valD, XI, XF, XB, dNil, XK, XD, dBox, dN, Xz, opL, idxs, pv, XX, Ya, XJ, Xb, Xu, oBin, oUn, Ye, XW, Xw, Xx, Xh, Xk, XY, XS, oLen, lenS, Yh, ev, lk, Vc.put, fits, kd, sz, Tryz.VΓ, Tryz.Γs, bin, binI, binS, ifK, ar, eqB, eqS, eqK, eqK.eqF, negB, bnds, optE, XM, Vc.cells, isV, Vc.one, Xs, getB, setB, XZ, Xp, Xi, Yf, Xl, XT, resS, tupS, ofV, Yj, Nat.reduceAdd, Nat.reduceSub, Nat.reduceLT, Nat.reduceLeDiff, reduceIte, reduceCtorEq, Nat.reduceEqDiff, implies_true, forall_const, lawV])
  unfold urlTarget
  refine ⟨fun h => ?_, fun h => ?_⟩
  · simp [h]
    refine ⟨by omega, by omega⟩
  · simp [h]
theorem p_url_Origin (u : Url) : PC Tryz.V 27 [wsv u] (.agg [.str u.host, .int .i64 u.port]) := by
  (refine pc_of 3000 Tryz.func27 rfl Tryz.ntmps27 Tryz.results27 Tryz.call27 (by simp) (by simp [flat, flat.flatL, wsv]) (by simp [flat, flat.flatL, wsv]) ?_
   unfold wsv
   simp only [vcS, ↓Xn, ↓Xo, ↓Xg, ↓Xd, ↓Xe, ↓Xf, XQ, XG, gvU, setR, orN, Yl, Xm, Yn, Yi, Xa, Ym, Xc, Xc.sizeIs, reS, Xj, Yb, mmS, Xq, dstS, srcS, XP, XN, XO, Yc, XA, Yg, Xy, XE, endV, gdst, Yk, XR, Yd, goR, XC, sBox, XU, XH, Xr, sNil, XL, Xt, XV, Xv, goD, valD, XI, XF, XB, dNil, XK, XD, dBox, dN, Xz, opL, idxs, pv, XX, Ya, XJ, Xb, Xu, oBin, oUn, Ye, XW, Xw, Xx, Xh, Xk, XY, XS, oLen, lenS, Yh, ev, lk, Vc.put, fits, kd, sz, Tryz.VΓ, Tryz.Γs, bin, binI, binS, ifK, ar, eqB, eqS, eqK, eqK.eqF, negB, bnds, optE, XM, Vc.cells, isV, Vc.one, Xs, getB, setB, XZ, Xp, Xi, Yf, Xl, XT, resS, tupS, ofV, Yj, Nat.reduceAdd, Nat.reduceSub, Nat.reduceLT, Nat.reduceLeDiff, reduceIte, reduceCtorEq, Nat.reduceEqDiff, implies_true, forall_const, lawV])
theorem p_url_Format (u : Url) (hk : Fair u) : PC Tryz.V 21 [wsv u] (.str (urlText u)) := by
  have hl := hk.1
  have hx := hostText_len2 u.host hk.2.1 hk.2.2
  have ht := urlTarget_len u
  have pt := p_url_Target u hk
  have po := p_url_Origin u
  have pf := p_host_Format u.host u.port (by omega) hk.2.1 hk.2.2
  (refine pc_of 3000 Tryz.func21 rfl Tryz.ntmps21 Tryz.results21 Tryz.call21 (by simp) (by simp [flat, flat.flatL, wsv]) (by simp [flat, flat.flatL, wsv]) ?_
   unfold wsv
   simp only [vcS, ↓Xn, ↓Xo, ↓Xg, ↓Xd, ↓Xe, ↓Xf, XQ, XG, gvU, setR, orN, Yl, Xm, Yn, Yi, Xa, Ym, Xc, Xc.sizeIs, reS, Xj, Yb, mmS, Xq, dstS, srcS, XP, XN, XO, Yc, XA, Yg, Xy, XE, endV, gdst, Yk, XR, Yd, goR, XC, sBox, XU, XH, Xr, sNil, XL, Xt, XV, Xv, goD, valD, XI, XF, XB, dNil, XK, XD, dBox, dN, Xz, opL, idxs, pv, XX, Ya, XJ, Xb, Xu, oBin, oUn, Ye, XW, Xw, Xx, Xh, Xk, XY, XS, oLen, lenS, Yh, ev, lk, Vc.put, fits, kd, sz, Tryz.VΓ, Tryz.Γs, bin, binI, binS, ifK, ar, eqB, eqS, eqK, eqK.eqF, negB, bnds, optE, XM, Vc.cells, isV, Vc.one, Xs, getB, setB, XZ, Xp, Xi, Yf, Xl, XT, resS, tupS, ofV, Yj, Nat.reduceAdd, Nat.reduceSub, Nat.reduceLT, Nat.reduceLeDiff, reduceIte, reduceCtorEq, Nat.reduceEqDiff, implies_true, forall_const, lawV])
  unfold wsv at pt po
  (refine callD_pc (po) ?_; simp only [vcS, ↓Xn, ↓Xo, ↓Xg, ↓Xd, ↓Xe, ↓Xf, XQ, XG, gvU, setR, orN, Yl, Xm, Yn, Yi, Xa, Ym, Xc, Xc.sizeIs, reS, Xj, Yb, mmS, Xq, dstS, srcS, XP, XN, XO, Yc, XA, Yg, Xy, XE, endV, gdst, Yk, XR, Yd, goR, XC, sBox, XU, XH, Xr, sNil, XL, Xt, XV, Xv, goD, valD, XI, XF, XB, dNil, XK, XD, dBox, dN, Xz, opL, idxs, pv, XX, Ya, XJ, Xb, Xu, oBin, oUn, Ye, XW, Xw, Xx, Xh, Xk, XY, XS, oLen, lenS, Yh, ev, lk, Vc.put, fits, kd, sz, Tryz.VΓ, Tryz.Γs, bin, binI, binS, ifK, ar, eqB, eqS, eqK, eqK.eqF, negB, bnds, optE, XM, Vc.cells, isV, Vc.one, Xs, getB, setB, XZ, Xp, Xi, Yf, Xl, XT, resS, tupS, ofV, Yj, Nat.reduceAdd, Nat.reduceSub, Nat.reduceLT, Nat.reduceLeDiff, reduceIte, reduceCtorEq, Nat.reduceEqDiff, implies_true, forall_const, lawV])
  (refine callD_pc (pf) ?_; simp only [vcS, ↓Xn, ↓Xo, ↓Xg, ↓Xd, ↓Xe, ↓Xf, XQ, XG, gvU, setR, orN, Yl, Xm, Yn, Yi, Xa, Ym, Xc, Xc.sizeIs, reS, Xj, Yb, mmS, Xq, dstS, srcS, XP, XN, XO, Yc, XA, Yg, Xy, XE, endV, gdst, Yk, XR, Yd, goR, XC, sBox, XU, XH, Xr, sNil, XL, Xt, XV, Xv, goD, valD, XI, XF, XB, dNil, XK, XD, dBox, dN, Xz, opL, idxs, pv, XX, Ya, XJ, Xb, Xu, oBin, oUn, Ye, XW, Xw, Xx, Xh, Xk, XY, XS, oLen, lenS, Yh, ev, lk, Vc.put, fits, kd, sz, Tryz.VΓ, Tryz.Γs, bin, binI, binS, ifK, ar, eqB, eqS, eqK, eqK.eqF, negB, bnds, optE, XM, Vc.cells, isV, Vc.one, Xs, getB, setB, XZ, Xp, Xi, Yf, Xl, XT, resS, tupS, ofV, Yj, Nat.reduceAdd, Nat.reduceSub, Nat.reduceLT, Nat.reduceLeDiff, reduceIte, reduceCtorEq, Nat.reduceEqDiff, implies_true, forall_const, lawV])
  refine ⟨by omega, ?_⟩
  (refine callD_pc (pt) ?_; simp only [vcS, ↓Xn, ↓Xo, ↓Xg, ↓Xd, ↓Xe, ↓Xf, XQ, XG, gvU, setR, orN, Yl, Xm, Yn, Yi, Xa, Ym, Xc, Xc.sizeIs, reS, Xj, Yb, mmS, Xq, dstS, srcS, XP, XN, XO, Yc, XA, Yg, Xy, XE, endV, gdst, Yk, XR, Yd, goR, XC, sBox, XU, XH, Xr, sNil, XL, Xt, XV, Xv, goD, valD, XI, XF, XB, dNil, XK, XD, dBox, dN, Xz, opL, idxs, pv, XX, Ya, XJ, Xb, Xu, oBin, oUn, Ye, XW, Xw, Xx, Xh, Xk, XY, XS, oLen, lenS, Yh, ev, lk, Vc.put, fits, kd, sz, Tryz.VΓ, Tryz.Γs, bin, binI, binS, ifK, ar, eqB, eqS, eqK, eqK.eqF, negB, bnds, optE, XM, Vc.cells, isV, Vc.one, Xs, getB, setB, XZ, Xp, Xi, Yf, Xl, XT, resS, tupS, ofV, Yj, Nat.reduceAdd, Nat.reduceSub, Nat.reduceLT, Nat.reduceLeDiff, reduceIte, reduceCtorEq, Nat.reduceEqDiff, implies_true, forall_const, lawV])
  unfold urlText
  refine ⟨by omega, (OkD_fast (by kernel_rfl)), fun h => ⟨by omega, by simp only [List.length_append]; omega, ?_⟩, fun h => ?_⟩
  · rw [if_pos h]; simp
  · rw [if_neg (by simp [h])]; simp
theorem p_r7_Target (u : Url) (hk : Fair u) : PC Tryz.V 26 [wsv u] (.str (urlTarget u)) := by
  obtain ⟨hk, -⟩ := hk
  (refine pc_of 3000 Tryz.func26 rfl Tryz.ntmps26 Tryz.results26 Tryz.call26 (by simp) (by simp [flat, flat.flatL, wsv]) (by simp [flat, flat.flatL, wsv]) ?_
   unfold wsv
   simp only [vcS, ↓Xn, ↓Xo, ↓Xg, ↓Xd, ↓Xe, ↓Xf, XQ, XG, gvU, setR, orN, Yl, Xm, Yn, Yi, Xa, Ym, Xc, Xc.sizeIs, reS, Xj, Yb, mmS, Xq, dstS, srcS, XP, XN, XO, Yc, XA, Yg, Xy, XE, endV, gdst, Yk, XR, Yd, goR, XC, sBox, XU, XH, Xr, sNil, XL, Xt, XV, Xv, goD, valD, XI, XF, XB, dNil, XK, XD, dBox, dN, Xz, opL, idxs, pv, XX, Ya, XJ, Xb, Xu, oBin, oUn, Ye, XW, Xw, Xx, Xh, Xk, XY, XS, oLen, lenS, Yh, ev, lk, Vc.put, fits, kd, sz, Tryz.VΓ, Tryz.Γs, bin, binI, binS, ifK, ar, eqB, eqS, eqK, eqK.eqF, negB, bnds, optE, XM, Vc.cells, isV, Vc.one, Xs, getB, setB, XZ, Xp, Xi, Yf, Xl, XT, resS, tupS, ofV, Yj, Nat.reduceAdd, Nat.reduceSub, Nat.reduceLT, Nat.reduceLeDiff, reduceIte, reduceCtorEq, Nat.reduceEqDiff, implies_true, forall_const, lawV])
  unfold urlTarget
  refine ⟨fun h => ?_, fun h => ?_⟩
  · simp [h]
    refine ⟨by omega, by omega⟩
  · simp [h]
theorem p_r7_Origin (u : Url) : PC Tryz.V 28 [wsv u] (.agg [.str u.host, .int .i64 u.port]) := by
  (refine pc_of 3000 Tryz.func28 rfl Tryz.ntmps28 Tryz.results28 Tryz.call28 (by simp) (by simp [flat, flat.flatL, wsv]) (by simp [flat, flat.flatL, wsv]) ?_
   unfold wsv
   simp only [vcS, ↓Xn, ↓Xo, ↓Xg, ↓Xd, ↓Xe, ↓Xf, XQ, XG, gvU, setR, orN, Yl, Xm, Yn, Yi, Xa, Ym, Xc, Xc.sizeIs, reS, Xj, Yb, mmS, Xq, dstS, srcS, XP, XN, XO, Yc, XA, Yg, Xy, XE, endV, gdst, Yk, XR, Yd, goR, XC, sBox, XU, XH, Xr, sNil, XL, Xt, XV, Xv, goD, valD, XI, XF, XB, dNil, XK, XD, dBox, dN, Xz, opL, idxs, pv, XX, Ya, XJ, Xb, Xu, oBin, oUn, Ye, XW, Xw, Xx, Xh, Xk, XY, XS, oLen, lenS, Yh, ev, lk, Vc.put, fits, kd, sz, Tryz.VΓ, Tryz.Γs, bin, binI, binS, ifK, ar, eqB, eqS, eqK, eqK.eqF, negB, bnds, optE, XM, Vc.cells, isV, Vc.one, Xs, getB, setB, XZ, Xp, Xi, Yf, Xl, XT, resS, tupS, ofV, Yj, Nat.reduceAdd, Nat.reduceSub, Nat.reduceLT, Nat.reduceLeDiff, reduceIte, reduceCtorEq, Nat.reduceEqDiff, implies_true, forall_const, lawV])
theorem p_r7_Format (u : Url) (hk : Fair u) : PC Tryz.V 22 [wsv u] (.str (urlText u)) := by
  have hl := hk.1
  have hx := hostText_len2 u.host hk.2.1 hk.2.2
  have ht := urlTarget_len u
  have pt := p_r7_Target u hk
  have po := p_r7_Origin u
  have pf := p_r5_Format u.host u.port (by omega) hk.2.1 hk.2.2
  (refine pc_of 3000 Tryz.func22 rfl Tryz.ntmps22 Tryz.results22 Tryz.call22 (by simp) (by simp [flat, flat.flatL, wsv]) (by simp [flat, flat.flatL, wsv]) ?_
   unfold wsv
   simp only [vcS, ↓Xn, ↓Xo, ↓Xg, ↓Xd, ↓Xe, ↓Xf, XQ, XG, gvU, setR, orN, Yl, Xm, Yn, Yi, Xa, Ym, Xc, Xc.sizeIs, reS, Xj, Yb, mmS, Xq, dstS, srcS, XP, XN, XO, Yc, XA, Yg, Xy, XE, endV, gdst, Yk, XR, Yd, goR, XC, sBox, XU, XH, Xr, sNil, XL, Xt, XV, Xv, goD, valD, XI, XF, XB, dNil, XK, XD, dBox, dN, Xz, opL, idxs, pv, XX, Ya, XJ, Xb, Xu, oBin, oUn, Ye, XW, Xw, Xx, Xh, Xk, XY, XS, oLen, lenS, Yh, ev, lk, Vc.put, fits, kd, sz, Tryz.VΓ, Tryz.Γs, bin, binI, binS, ifK, ar, eqB, eqS, eqK, eqK.eqF, negB, bnds, optE, XM, Vc.cells, isV, Vc.one, Xs, getB, setB, XZ, Xp, Xi, Yf, Xl, XT, resS, tupS, ofV, Yj, Nat.reduceAdd, Nat.reduceSub, Nat.reduceLT, Nat.reduceLeDiff, reduceIte, reduceCtorEq, Nat.reduceEqDiff, implies_true, forall_const, lawV])
  unfold wsv at pt po
  (refine callD_pc (po) ?_; simp only [vcS, ↓Xn, ↓Xo, ↓Xg, ↓Xd, ↓Xe, ↓Xf, XQ, XG, gvU, setR, orN, Yl, Xm, Yn, Yi, Xa, Ym, Xc, Xc.sizeIs, reS, Xj, Yb, mmS, Xq, dstS, srcS, XP, XN, XO, Yc, XA, Yg, Xy, XE, endV, gdst, Yk, XR, Yd, goR, XC, sBox, XU, XH, Xr, sNil, XL, Xt, XV, Xv, goD, valD, XI, XF, XB, dNil, XK, XD, dBox, dN, Xz, opL, idxs, pv, XX, Ya, XJ, Xb, Xu, oBin, oUn, Ye, XW, Xw, Xx, Xh, Xk, XY, XS, oLen, lenS, Yh, ev, lk, Vc.put, fits, kd, sz, Tryz.VΓ, Tryz.Γs, bin, binI, binS, ifK, ar, eqB, eqS, eqK, eqK.eqF, negB, bnds, optE, XM, Vc.cells, isV, Vc.one, Xs, getB, setB, XZ, Xp, Xi, Yf, Xl, XT, resS, tupS, ofV, Yj, Nat.reduceAdd, Nat.reduceSub, Nat.reduceLT, Nat.reduceLeDiff, reduceIte, reduceCtorEq, Nat.reduceEqDiff, implies_true, forall_const, lawV])
  (refine callD_pc (pf) ?_; simp only [vcS, ↓Xn, ↓Xo, ↓Xg, ↓Xd, ↓Xe, ↓Xf, XQ, XG, gvU, setR, orN, Yl, Xm, Yn, Yi, Xa, Ym, Xc, Xc.sizeIs, reS, Xj, Yb, mmS, Xq, dstS, srcS, XP, XN, XO, Yc, XA, Yg, Xy, XE, endV, gdst, Yk, XR, Yd, goR, XC, sBox, XU, XH, Xr, sNil, XL, Xt, XV, Xv, goD, valD, XI, XF, XB, dNil, XK, XD, dBox, dN, Xz, opL, idxs, pv, XX, Ya, XJ, Xb, Xu, oBin, oUn, Ye, XW, Xw, Xx, Xh, Xk, XY, XS, oLen, lenS, Yh, ev, lk, Vc.put, fits, kd, sz, Tryz.VΓ, Tryz.Γs, bin, binI, binS, ifK, ar, eqB, eqS, eqK, eqK.eqF, negB, bnds, optE, XM, Vc.cells, isV, Vc.one, Xs, getB, setB, XZ, Xp, Xi, Yf, Xl, XT, resS, tupS, ofV, Yj, Nat.reduceAdd, Nat.reduceSub, Nat.reduceLT, Nat.reduceLeDiff, reduceIte, reduceCtorEq, Nat.reduceEqDiff, implies_true, forall_const, lawV])
  refine ⟨by omega, ?_⟩
  (refine callD_pc (pt) ?_; simp only [vcS, ↓Xn, ↓Xo, ↓Xg, ↓Xd, ↓Xe, ↓Xf, XQ, XG, gvU, setR, orN, Yl, Xm, Yn, Yi, Xa, Ym, Xc, Xc.sizeIs, reS, Xj, Yb, mmS, Xq, dstS, srcS, XP, XN, XO, Yc, XA, Yg, Xy, XE, endV, gdst, Yk, XR, Yd, goR, XC, sBox, XU, XH, Xr, sNil, XL, Xt, XV, Xv, goD, valD, XI, XF, XB, dNil, XK, XD, dBox, dN, Xz, opL, idxs, pv, XX, Ya, XJ, Xb, Xu, oBin, oUn, Ye, XW, Xw, Xx, Xh, Xk, XY, XS, oLen, lenS, Yh, ev, lk, Vc.put, fits, kd, sz, Tryz.VΓ, Tryz.Γs, bin, binI, binS, ifK, ar, eqB, eqS, eqK, eqK.eqF, negB, bnds, optE, XM, Vc.cells, isV, Vc.one, Xs, getB, setB, XZ, Xp, Xi, Yf, Xl, XT, resS, tupS, ofV, Yj, Nat.reduceAdd, Nat.reduceSub, Nat.reduceLT, Nat.reduceLeDiff, reduceIte, reduceCtorEq, Nat.reduceEqDiff, implies_true, forall_const, lawV])
  unfold urlText
  refine ⟨by omega, (OkD_fast (by kernel_rfl)), fun h => ⟨by omega, by simp only [List.length_append]; omega, ?_⟩, fun h => ?_⟩
  · rw [if_pos h]; simp
  · rw [if_neg (by simp [h])]; simp
theorem pre_mem (l : Bytes) (c : UInt8) : pre (· == c) l < l.length ↔ c ∈ l := by
  induction l with
  | nil => simp [pre]
  | cons x l ih =>
    rw [pre_cons]
    by_cases h : x = c
    · simp [h]
    · rw [if_neg (by simpa using h)]
      simp only [List.length_cons, Nat.add_lt_add_iff_right, ih, List.mem_cons]
      exact ⟨.inr, fun k => k.resolve_left fun e => h e.symm⟩
theorem contains_one (l : Bytes) (c : UInt8) : decide (0 ≤ Lib.indexByte l c) = decide (c ∈ l) := by
  rw [indexByte_pre]
  by_cases h : c ∈ l
  · rw [if_pos ((pre_mem l c).2 h)]; simp [h]
  · rw [if_neg (fun k => h ((pre_mem l c).1 k))]; simp [h]
theorem p_Contains (l : Bytes) (c : UInt8) : PC Tryz.V 63 [.str l, .str [c]] (.bool (decide (c ∈ l))) :=
  ⟨Tryz.call63, by simp [flat, flat.flatL], by simp [flat, flat.flatL], fun w hE => (Tryz.strings_Contains_one ⟨List.toArray l⟩ c w).mono fun _ _ ⟨h, k⟩ => ⟨by
    rw [h]
    have e : decide (0 ≤ Lib.indexByte l c) = decide (c ∈ l) := contains_one l c
    rw [← e]; rfl, below_same k.symm⟩⟩
end Go.Proofs.YtnpkjglcbolcbaaGreatDoor
