/- The walks of package uri: merge, Resolve. -/
import Derived.Test.YtnpkjglcbolcbaaDoorUriW
set_option linter.all false
set_option maxRecDepth 20000
namespace Go.Proofs.YtnpkjglcbolcbaaDoor
open Go Vc Go.RowKit Wf
set_option linter.unusedSimpArgs false
theorem hp_head (s : Bytes) (c : UInt8) : Lib.hasPrefix s [c] = decide (s.head? = some c) := by
  unfold Lib.hasPrefix
  cases s with
  | nil => simp
  | cons x l =>
    simp only [List.isPrefixOf, Bool.and_true, List.head?_cons, Option.some.injEq]
    by_cases h : x = c
    · subst h; simp
    · rw [decide_eq_false h]
      simp
      exact fun e => h e.symm
set_option maxHeartbeats 2000000 in
theorem p_uri_merge (b r : Uri) (hb : b.path.length ≤ 4294967281) (hr : r.path.length ≤ 4294967281) : PC Tryd.V 108 [usv b, usv r] (.str (uriMerge b r)) := by
  (refine pc_of 3000 Tryd.func108 rfl Tryd.ntmps108 Tryd.results108 Tryd.call108 (by simp) (by simp [flat, flat.flatL, usv]) (by simp [flat, flat.flatL, usv]) ?_
   unfold usv
   simp only [vcS, ↓Xn, ↓Xo, ↓Xg, ↓Xd, ↓Xe, ↓Xf, XQ, XG, gvU, setR, orN, Yl, Xm, Yn, Yi, Xa, Ym, Xc, Xc.sizeIs, reS, Xj, Yb, mmS, Xq, dstS, srcS, XP, XN, XO, Yc, XA, Yg, Xy, XE, endV, gdst, Yk, XR, Yd, goR, XC, sBox, XU, XH, Xr, sNil, XL, Xt, XV, Xv, goD, valD, XI, XF, XB, dNil, XK, XD, dBox, dN, Xz, opL, idxs, pv, XX, Ya, XJ, Xb, Xu, oBin, oUn, Ye, XW, Xw, Xx, Xh, Xk, XY, XS, oLen, lenS, Yh, ev, lk, Vc.put, fits, kd, sz, Tryd.VΓ, Tryd.Γs, bin, binI, binS, ifK, ar, eqB, eqS, eqK, eqK.eqF, negB, bnds, optE, XM, Vc.cells, isV, Vc.one, Xs, getB, setB, XZ, Xp, Xi, Yf, Xl, XT, resS, tupS, ofV, Yj, Nat.reduceAdd, Nat.reduceSub, Nat.reduceLT, Nat.reduceLeDiff, reduceIte, reduceCtorEq, Nat.reduceEqDiff, implies_true, forall_const, lawV])
  (refine callV_pc (p_HasPrefix _ [47]) ?_; simp only [vcS, ↓Xn, ↓Xo, ↓Xg, ↓Xd, ↓Xe, ↓Xf, XQ, XG, gvU, setR, orN, Yl, Xm, Yn, Yi, Xa, Ym, Xc, Xc.sizeIs, reS, Xj, Yb, mmS, Xq, dstS, srcS, XP, XN, XO, Yc, XA, Yg, Xy, XE, endV, gdst, Yk, XR, Yd, goR, XC, sBox, XU, XH, Xr, sNil, XL, Xt, XV, Xv, goD, valD, XI, XF, XB, dNil, XK, XD, dBox, dN, Xz, opL, idxs, pv, XX, Ya, XJ, Xb, Xu, oBin, oUn, Ye, XW, Xw, Xx, Xh, Xk, XY, XS, oLen, lenS, Yh, ev, lk, Vc.put, fits, kd, sz, Tryd.VΓ, Tryd.Γs, bin, binI, binS, ifK, ar, eqB, eqS, eqK, eqK.eqF, negB, bnds, optE, XM, Vc.cells, isV, Vc.one, Xs, getB, setB, XZ, Xp, Xi, Yf, Xl, XT, resS, tupS, ofV, Yj, Nat.reduceAdd, Nat.reduceSub, Nat.reduceLT, Nat.reduceLeDiff, reduceIte, reduceCtorEq, Nat.reduceEqDiff, implies_true, forall_const, lawV])
  have hm0 := hp_head r.path 47
  refine ⟨fun h => ?_, fun h => ⟨fun h2 => ⟨fun h3 => ?_, fun h3 => ?_⟩, fun h2 => ?_⟩⟩
  · rw [uriMerge, if_pos (by simpa [hm0] using h)]
  · rw [uriMerge, if_neg (by simpa [hm0] using h), if_pos ⟨h2, by simpa using h3⟩]
    exact ⟨by omega, rfl⟩
  · (
    have hls := lastSlash_le b.path
    have p5 := p_LastIndexByte b.path 47 (by omega)
    rw [lastB_slash] at p5
    (refine callD_pc (p5) ?_; simp only [vcS, ↓Xn, ↓Xo, ↓Xg, ↓Xd, ↓Xe, ↓Xf, XQ, XG, gvU, setR, orN, Yl, Xm, Yn, Yi, Xa, Ym, Xc, Xc.sizeIs, reS, Xj, Yb, mmS, Xq, dstS, srcS, XP, XN, XO, Yc, XA, Yg, Xy, XE, endV, gdst, Yk, XR, Yd, goR, XC, sBox, XU, XH, Xr, sNil, XL, Xt, XV, Xv, goD, valD, XI, XF, XB, dNil, XK, XD, dBox, dN, Xz, opL, idxs, pv, XX, Ya, XJ, Xb, Xu, oBin, oUn, Ye, XW, Xw, Xx, Xh, Xk, XY, XS, oLen, lenS, Yh, ev, lk, Vc.put, fits, kd, sz, Tryd.VΓ, Tryd.Γs, bin, binI, binS, ifK, ar, eqB, eqS, eqK, eqK.eqF, negB, bnds, optE, XM, Vc.cells, isV, Vc.one, Xs, getB, setB, XZ, Xp, Xi, Yf, Xl, XT, resS, tupS, ofV, Yj, Nat.reduceAdd, Nat.reduceSub, Nat.reduceLT, Nat.reduceLeDiff, reduceIte, reduceCtorEq, Nat.reduceEqDiff, implies_true, forall_const, lawV])
    have e : ((lastSlash b.path : Int) - 1 + 1).toNat = lastSlash b.path := by omega
    rw [e]
    refine ⟨by omega, by omega, by simp; omega, (OkD_fast (by kernel_rfl)), ?_⟩)
    rw [uriMerge, if_neg (by simpa [hm0] using h), if_neg (by rintro ⟨-, h4⟩; simp [h4] at h3)]
  · (
    have hls := lastSlash_le b.path
    have p5 := p_LastIndexByte b.path 47 (by omega)
    rw [lastB_slash] at p5
    (refine callD_pc (p5) ?_; simp only [vcS, ↓Xn, ↓Xo, ↓Xg, ↓Xd, ↓Xe, ↓Xf, XQ, XG, gvU, setR, orN, Yl, Xm, Yn, Yi, Xa, Ym, Xc, Xc.sizeIs, reS, Xj, Yb, mmS, Xq, dstS, srcS, XP, XN, XO, Yc, XA, Yg, Xy, XE, endV, gdst, Yk, XR, Yd, goR, XC, sBox, XU, XH, Xr, sNil, XL, Xt, XV, Xv, goD, valD, XI, XF, XB, dNil, XK, XD, dBox, dN, Xz, opL, idxs, pv, XX, Ya, XJ, Xb, Xu, oBin, oUn, Ye, XW, Xw, Xx, Xh, Xk, XY, XS, oLen, lenS, Yh, ev, lk, Vc.put, fits, kd, sz, Tryd.VΓ, Tryd.Γs, bin, binI, binS, ifK, ar, eqB, eqS, eqK, eqK.eqF, negB, bnds, optE, XM, Vc.cells, isV, Vc.one, Xs, getB, setB, XZ, Xp, Xi, Yf, Xl, XT, resS, tupS, ofV, Yj, Nat.reduceAdd, Nat.reduceSub, Nat.reduceLT, Nat.reduceLeDiff, reduceIte, reduceCtorEq, Nat.reduceEqDiff, implies_true, forall_const, lawV])
    have e : ((lastSlash b.path : Int) - 1 + 1).toNat = lastSlash b.path := by omega
    rw [e]
    refine ⟨by omega, by omega, by simp; omega, (OkD_fast (by kernel_rfl)), ?_⟩)
    rw [uriMerge, if_neg (by simpa [hm0] using h), if_neg (by simp [h2])]
theorem dotStep_len (p o : Bytes) (hp : p ≠ []) : (dotStep p o).1.length + (dotStep p o).2.length ≤ p.length + o.length := by
  have hpl : 0 < p.length := List.length_pos_iff.2 hp
  have hs : (shorten o).length ≤ o.length := by rw [shorten_take, List.length_take]; exact Nat.min_le_right _ _
  have hq := pre_le (· == 47) (p.drop 1)
  unfold dotStep
  split
  · simp
  split
  · simp
  split
  · simp
  split
  · rename_i h; subst h; simp
  split
  · simp; omega
  split
  · rename_i h; subst h; simp; omega
  split
  · simp
  · simp at hq ⊢
    omega
theorem dotsGo_len : ∀ (f : Nat) (p o : Bytes), (dotsGo f p o).length ≤ p.length + o.length
  | 0, p, o => by simp [dotsGo]
  | f + 1, p, o => by
    rw [dotsGo]
    split
    · simp
    · rename_i hp
      exact Nat.le_trans (dotsGo_len f _ _) (dotStep_len p o hp)
theorem removeDots_len (s : Bytes) : (removeDots s).length ≤ s.length := by
  have := dotsGo_len s.length s []
  simpa [removeDots] using this
theorem uriMerge_len (b r : Uri) : (uriMerge b r).length ≤ 1 + b.path.length + r.path.length := by
  unfold uriMerge
  split
  · omega
  split
  · simp; omega
  · simp; omega
set_option maxRecDepth 20000 in
set_option maxHeartbeats 4000000 in
theorem p_uri_Resolve (b r : Uri) (hb : b.path.length ≤ 2147480000) (hr : r.path.length ≤ 2147480000) : PC Tryd.V 60 [usv b, usv r] (usv (uriResolve b r)) := by
  have hml := uriMerge_len b r
  have pm := p_uri_merge b r (by omega) (by omega)
  unfold usv at pm
  (refine pc_of 3000 Tryd.func60 rfl Tryd.ntmps60 Tryd.results60 Tryd.call60 (by simp) (by simp [flat, flat.flatL, usv]) (by simp [flat, flat.flatL, usv]) ?_
   unfold usv
   simp only [vcS, ↓Xn, ↓Xo, ↓Xg, ↓Xd, ↓Xe, ↓Xf, XQ, XG, gvU, setR, orN, Yl, Xm, Yn, Yi, Xa, Ym, Xc, Xc.sizeIs, reS, Xj, Yb, mmS, Xq, dstS, srcS, XP, XN, XO, Yc, XA, Yg, Xy, XE, endV, gdst, Yk, XR, Yd, goR, XC, sBox, XU, XH, Xr, sNil, XL, Xt, XV, Xv, goD, valD, XI, XF, XB, dNil, XK, XD, dBox, dN, Xz, opL, idxs, pv, XX, Ya, XJ, Xb, Xu, oBin, oUn, Ye, XW, Xw, Xx, Xh, Xk, XY, XS, oLen, lenS, Yh, ev, lk, Vc.put, fits, kd, sz, Tryd.VΓ, Tryd.Γs, bin, binI, binS, ifK, ar, eqB, eqS, eqK, eqK.eqF, negB, bnds, optE, XM, Vc.cells, isV, Vc.one, Xs, getB, setB, XZ, Xp, Xi, Yf, Xl, XT, resS, tupS, ofV, Yj, Nat.reduceAdd, Nat.reduceSub, Nat.reduceLT, Nat.reduceLeDiff, reduceIte, reduceCtorEq, Nat.reduceEqDiff, implies_true, forall_const, lawV])
  generalize hR : uriResolve b r = R
  rw [uriResolve] at hR
  refine ⟨fun h1 => ?_, fun h1 => ?_⟩
  · rw [if_pos h1] at hR
    (refine callV_pc (p_uri_RemoveDots r.path (by omega)) ?_; simp only [vcS, ↓Xn, ↓Xo, ↓Xg, ↓Xd, ↓Xe, ↓Xf, XQ, XG, gvU, setR, orN, Yl, Xm, Yn, Yi, Xa, Ym, Xc, Xc.sizeIs, reS, Xj, Yb, mmS, Xq, dstS, srcS, XP, XN, XO, Yc, XA, Yg, Xy, XE, endV, gdst, Yk, XR, Yd, goR, XC, sBox, XU, XH, Xr, sNil, XL, Xt, XV, Xv, goD, valD, XI, XF, XB, dNil, XK, XD, dBox, dN, Xz, opL, idxs, pv, XX, Ya, XJ, Xb, Xu, oBin, oUn, Ye, XW, Xw, Xx, Xh, Xk, XY, XS, oLen, lenS, Yh, ev, lk, Vc.put, fits, kd, sz, Tryd.VΓ, Tryd.Γs, bin, binI, binS, ifK, ar, eqB, eqS, eqK, eqK.eqF, negB, bnds, optE, XM, Vc.cells, isV, Vc.one, Xs, getB, setB, XZ, Xp, Xi, Yf, Xl, XT, resS, tupS, ofV, Yj, Nat.reduceAdd, Nat.reduceSub, Nat.reduceLT, Nat.reduceLeDiff, reduceIte, reduceCtorEq, Nat.reduceEqDiff, implies_true, forall_const, lawV])
    rw [← hR]
  rw [if_neg (by simpa using h1)] at hR
  refine ⟨fun h2 => ?_, fun h2 => ?_⟩
  · rw [if_pos h2] at hR
    (refine callV_pc (p_uri_RemoveDots r.path (by omega)) ?_; simp only [vcS, ↓Xn, ↓Xo, ↓Xg, ↓Xd, ↓Xe, ↓Xf, XQ, XG, gvU, setR, orN, Yl, Xm, Yn, Yi, Xa, Ym, Xc, Xc.sizeIs, reS, Xj, Yb, mmS, Xq, dstS, srcS, XP, XN, XO, Yc, XA, Yg, Xy, XE, endV, gdst, Yk, XR, Yd, goR, XC, sBox, XU, XH, Xr, sNil, XL, Xt, XV, Xv, goD, valD, XI, XF, XB, dNil, XK, XD, dBox, dN, Xz, opL, idxs, pv, XX, Ya, XJ, Xb, Xu, oBin, oUn, Ye, XW, Xw, Xx, Xh, Xk, XY, XS, oLen, lenS, Yh, ev, lk, Vc.put, fits, kd, sz, Tryd.VΓ, Tryd.Γs, bin, binI, binS, ifK, ar, eqB, eqS, eqK, eqK.eqF, negB, bnds, optE, XM, Vc.cells, isV, Vc.one, Xs, getB, setB, XZ, Xp, Xi, Yf, Xl, XT, resS, tupS, ofV, Yj, Nat.reduceAdd, Nat.reduceSub, Nat.reduceLT, Nat.reduceLeDiff, reduceIte, reduceCtorEq, Nat.reduceEqDiff, implies_true, forall_const, lawV])
    rw [← hR]
    refine ⟨(OkD_fast (by kernel_rfl)), fun h => ?_, fun h => rfl⟩
    simp [h2] at h
  rw [if_neg (by simpa using h2)] at hR
  refine ⟨fun h3 => ?_, fun h3 => ?_⟩
  · rw [if_pos (by simpa using h3)] at hR
    refine ⟨fun h4 => ?_, fun h4 => ?_⟩
    · rw [if_neg (by simpa using h4)] at hR
      rw [← hR]
      refine ⟨(OkD_fast (by kernel_rfl)), (OkD_fast (by kernel_rfl)), fun h => ⟨(OkD_fast (by kernel_rfl)), rfl⟩, fun h => ?_⟩
      simp [h2] at h
    · rw [if_pos (by simpa using h4)] at hR
      rw [← hR]
      refine ⟨(OkD_fast (by kernel_rfl)), fun h => ⟨(OkD_fast (by kernel_rfl)), rfl⟩, fun h => ?_⟩
      simp [h2] at h
  · rw [if_neg (by simpa using h3)] at hR
    (refine callV_pc (pm) ?_; simp only [vcS, ↓Xn, ↓Xo, ↓Xg, ↓Xd, ↓Xe, ↓Xf, XQ, XG, gvU, setR, orN, Yl, Xm, Yn, Yi, Xa, Ym, Xc, Xc.sizeIs, reS, Xj, Yb, mmS, Xq, dstS, srcS, XP, XN, XO, Yc, XA, Yg, Xy, XE, endV, gdst, Yk, XR, Yd, goR, XC, sBox, XU, XH, Xr, sNil, XL, Xt, XV, Xv, goD, valD, XI, XF, XB, dNil, XK, XD, dBox, dN, Xz, opL, idxs, pv, XX, Ya, XJ, Xb, Xu, oBin, oUn, Ye, XW, Xw, Xx, Xh, Xk, XY, XS, oLen, lenS, Yh, ev, lk, Vc.put, fits, kd, sz, Tryd.VΓ, Tryd.Γs, bin, binI, binS, ifK, ar, eqB, eqS, eqK, eqK.eqF, negB, bnds, optE, XM, Vc.cells, isV, Vc.one, Xs, getB, setB, XZ, Xp, Xi, Yf, Xl, XT, resS, tupS, ofV, Yj, Nat.reduceAdd, Nat.reduceSub, Nat.reduceLT, Nat.reduceLeDiff, reduceIte, reduceCtorEq, Nat.reduceEqDiff, implies_true, forall_const, lawV])
    (refine callV_pc (p_uri_RemoveDots _ (by omega)) ?_; simp only [vcS, ↓Xn, ↓Xo, ↓Xg, ↓Xd, ↓Xe, ↓Xf, XQ, XG, gvU, setR, orN, Yl, Xm, Yn, Yi, Xa, Ym, Xc, Xc.sizeIs, reS, Xj, Yb, mmS, Xq, dstS, srcS, XP, XN, XO, Yc, XA, Yg, Xy, XE, endV, gdst, Yk, XR, Yd, goR, XC, sBox, XU, XH, Xr, sNil, XL, Xt, XV, Xv, goD, valD, XI, XF, XB, dNil, XK, XD, dBox, dN, Xz, opL, idxs, pv, XX, Ya, XJ, Xb, Xu, oBin, oUn, Ye, XW, Xw, Xx, Xh, Xk, XY, XS, oLen, lenS, Yh, ev, lk, Vc.put, fits, kd, sz, Tryd.VΓ, Tryd.Γs, bin, binI, binS, ifK, ar, eqB, eqS, eqK, eqK.eqF, negB, bnds, optE, XM, Vc.cells, isV, Vc.one, Xs, getB, setB, XZ, Xp, Xi, Yf, Xl, XT, resS, tupS, ofV, Yj, Nat.reduceAdd, Nat.reduceSub, Nat.reduceLT, Nat.reduceLeDiff, reduceIte, reduceCtorEq, Nat.reduceEqDiff, implies_true, forall_const, lawV])
    rw [← hR]
    refine ⟨(OkD_fast (by kernel_rfl)), fun h => ⟨(OkD_fast (by kernel_rfl)), rfl⟩, fun h => ?_⟩
    simp [h2] at h
end Go.Proofs.YtnpkjglcbolcbaaDoor
