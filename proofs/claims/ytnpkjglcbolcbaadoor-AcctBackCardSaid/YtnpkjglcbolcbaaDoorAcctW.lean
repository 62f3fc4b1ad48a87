/- The walks of package acct and of its reference. -/
import Derived.Test.YtnpkjglcbolcbaaDoorAcctP
import Derived.Test.YtnpkjglcbolcbaaDoorHostPC
import Derived.Test.YtnpkjglcbolcbaaDoorRefPct2
set_option linter.all false
set_option maxRecDepth 20000
namespace Go.Proofs.YtnpkjglcbolcbaaDoor
open Go Vc Go.RowKit Wf
def asv (a : Acct) : SV := .agg [.str a.user, .str a.host]
def acctCut (s : Bytes) : Bytes × Bytes × Int :=
  if 4096 < s.length then ([], [], 5) else if s.length < 5 ∨ lower (s.take 5) ≠ acctS then ([], [], 60) else if (cutC 64 (s.drop 5)).2.2 = false then ([], [], 6) else ((cutC 64 (s.drop 5)).1, (cutC 64 (s.drop 5)).2.1, 0)
theorem acctParse_cut (s : Bytes) : acctParse s = if (acctCut s).2.2 ≠ 0 then (Acct.none, (acctCut s).2.2) else acctOf (pctNorm inUser (acctCut s).1) (hostM (acctCut s).2.1) := by
  unfold acctParse acctCut acctRest
  split
  · simp
  split
  · simp
  split
  · simp
  · simp
set_option maxHeartbeats 2000000 in
theorem p_acct_cut (s : Bytes) : PC Tryd.V 62 [.str s] (.tup [.str (acctCut s).1, .str (acctCut s).2.1, .int .i64 (acctCut s).2.2]) := by
  have pe := p_Equal (s.take 5) acctS (by simp; omega) (by decide)
  rw [show lower acctS = acctS by decide] at pe
  refine pc_of 3000 Tryd.func62 rfl Tryd.ntmps62 Tryd.results62 Tryd.call62 (by simp) (by simp [flat, flat.flatL]) (by simp [flat, flat.flatL]) ?_
  simp only [vcS, ↓Xn, ↓Xo, ↓Xg, ↓Xd, ↓Xe, ↓Xf, XQ, XG, gvU, setR, orN, Yl, Xm, Yn, Yi, Xa, Ym, Xc, Xc.sizeIs, reS, Xj, Yb, mmS, Xq, dstS, srcS, XP, XN, XO, Yc, XA, Yg, Xy, XE, endV, gdst, Yk, XR, Yd, goR, XC, sBox, XU, XH, Xr, sNil, XL, Xt, XV, Xv, goD, valD, XI, XF, XB, dNil, XK, XD, dBox, dN, Xz, opL, idxs, pv, XX, Ya, XJ, Xb, Xu, oBin, oUn, Ye, XW, Xw, Xx, Xh, Xk, XY, XS, oLen, lenS, Yh, ev, lk, Vc.put, fits, kd, sz, Tryd.VΓ, Tryd.Γs, bin, binI, binS, ifK, ar, eqB, eqS, eqK, eqK.eqF, negB, bnds, optE, XM, Vc.cells, isV, Vc.one, Xs, getB, setB, XZ, Xp, Xi, Yf, Xl, XT, resS, tupS, ofV, Yj, Nat.reduceAdd, Nat.reduceSub, Nat.reduceLT, Nat.reduceLeDiff, reduceIte, reduceCtorEq, Nat.reduceEqDiff, implies_true, forall_const, lawV]
  unfold acctCut
  refine ⟨fun h => ?_, fun h => ⟨fun h2 => ⟨⟨by omega, (by simp at h2; omega)⟩, ?_⟩, fun h2 => ?_⟩⟩
  · have h : 4096 < s.length := (by simp at h; omega)
    rw [if_pos h]
  · have h : ¬ 4096 < s.length := (by simp at h; omega)
    have h2 : ¬ s.length < 5 := (by simp at h2; omega)
    rw [if_neg h]
    (refine callV_pc pe ?_; simp only [vcS, ↓Xn, ↓Xo, ↓Xg, ↓Xd, ↓Xe, ↓Xf, XQ, XG, gvU, setR, orN, Yl, Xm, Yn, Yi, Xa, Ym, Xc, Xc.sizeIs, reS, Xj, Yb, mmS, Xq, dstS, srcS, XP, XN, XO, Yc, XA, Yg, Xy, XE, endV, gdst, Yk, XR, Yd, goR, XC, sBox, XU, XH, Xr, sNil, XL, Xt, XV, Xv, goD, valD, XI, XF, XB, dNil, XK, XD, dBox, dN, Xz, opL, idxs, pv, XX, Ya, XJ, Xb, Xu, oBin, oUn, Ye, XW, Xw, Xx, Xh, Xk, XY, XS, oLen, lenS, Yh, ev, lk, Vc.put, fits, kd, sz, Tryd.VΓ, Tryd.Γs, bin, binI, binS, ifK, ar, eqB, eqS, eqK, eqK.eqF, negB, bnds, optE, XM, Vc.cells, isV, Vc.one, Xs, getB, setB, XZ, Xp, Xi, Yf, Xl, XT, resS, tupS, ofV, Yj, Nat.reduceAdd, Nat.reduceSub, Nat.reduceLT, Nat.reduceLeDiff, reduceIte, reduceCtorEq, Nat.reduceEqDiff, implies_true, forall_const, lawV])
    refine ⟨fun h3 => ?_, fun h3 => ⟨⟨by omega, by omega⟩, ?_⟩⟩
    · rw [if_pos (.inr (by simpa using h3))]
    rw [if_neg (by simp only [not_or]; exact ⟨h2, by simpa using h3⟩)]
    (refine callV_pc (p_Cut (s.drop 5) 64 (by simp; omega)) ?_; simp only [vcS, ↓Xn, ↓Xo, ↓Xg, ↓Xd, ↓Xe, ↓Xf, XQ, XG, gvU, setR, orN, Yl, Xm, Yn, Yi, Xa, Ym, Xc, Xc.sizeIs, reS, Xj, Yb, mmS, Xq, dstS, srcS, XP, XN, XO, Yc, XA, Yg, Xy, XE, endV, gdst, Yk, XR, Yd, goR, XC, sBox, XU, XH, Xr, sNil, XL, Xt, XV, Xv, goD, valD, XI, XF, XB, dNil, XK, XD, dBox, dN, Xz, opL, idxs, pv, XX, Ya, XJ, Xb, Xu, oBin, oUn, Ye, XW, Xw, Xx, Xh, Xk, XY, XS, oLen, lenS, Yh, ev, lk, Vc.put, fits, kd, sz, Tryd.VΓ, Tryd.Γs, bin, binI, binS, ifK, ar, eqB, eqS, eqK, eqK.eqF, negB, bnds, optE, XM, Vc.cells, isV, Vc.one, Xs, getB, setB, XZ, Xp, Xi, Yf, Xl, XT, resS, tupS, ofV, Yj, Nat.reduceAdd, Nat.reduceSub, Nat.reduceLT, Nat.reduceLeDiff, reduceIte, reduceCtorEq, Nat.reduceEqDiff, implies_true, forall_const, lawV])
    refine ⟨fun h4 => ?_, fun h4 => ?_⟩
    · rw [if_pos (by simpa using h4)]
    · rw [if_neg (by simpa using h4)]
  · have h : ¬ 4096 < s.length := (by simp at h; omega)
    have h2 : s.length < 5 := (by simp at h2; omega)
    rw [if_neg h, if_pos (.inl h2)]
set_option maxHeartbeats 2000000 in
theorem p_acct_Parse (s : Bytes) : PC Tryd.V 22 [.str s] (.tup [asv (acctParse s).1, .int .i64 (acctParse s).2]) := by
  have pc := p_acct_cut s
  rw [acctParse_cut]
  have hl : (acctCut s).2.2 = 0 → (acctCut s).2.1.length ≤ 4096 := fun h => by
    unfold acctCut at h ⊢
    split at h
    · simp at h
    split at h
    · simp at h
    split at h
    · simp at h
    · rename_i h1 h2 h3
      rw [if_neg h1, if_neg h2, if_neg h3]
      have := cutC_len 64 (s.drop 5)
      simp at this ⊢
      omega
  generalize acctCut s = x at pc hl ⊢
  obtain ⟨u, p, e⟩ := x
  simp only at pc hl ⊢
  refine pc_of 3000 Tryd.func22 rfl Tryd.ntmps22 Tryd.results22 Tryd.call22 (by simp) (by simp [flat, flat.flatL]) (by simp [flat, flat.flatL, asv]) ?_
  simp only [vcS, ↓Xn, ↓Xo, ↓Xg, ↓Xd, ↓Xe, ↓Xf, XQ, XG, gvU, setR, orN, Yl, Xm, Yn, Yi, Xa, Ym, Xc, Xc.sizeIs, reS, Xj, Yb, mmS, Xq, dstS, srcS, XP, XN, XO, Yc, XA, Yg, Xy, XE, endV, gdst, Yk, XR, Yd, goR, XC, sBox, XU, XH, Xr, sNil, XL, Xt, XV, Xv, goD, valD, XI, XF, XB, dNil, XK, XD, dBox, dN, Xz, opL, idxs, pv, XX, Ya, XJ, Xb, Xu, oBin, oUn, Ye, XW, Xw, Xx, Xh, Xk, XY, XS, oLen, lenS, Yh, ev, lk, Vc.put, fits, kd, sz, Tryd.VΓ, Tryd.Γs, bin, binI, binS, ifK, ar, eqB, eqS, eqK, eqK.eqF, negB, bnds, optE, XM, Vc.cells, isV, Vc.one, Xs, getB, setB, XZ, Xp, Xi, Yf, Xl, XT, resS, tupS, ofV, Yj, Nat.reduceAdd, Nat.reduceSub, Nat.reduceLT, Nat.reduceLeDiff, reduceIte, reduceCtorEq, Nat.reduceEqDiff, implies_true, forall_const, lawV]
  (refine callV_pc (pc) ?_; simp only [vcS, ↓Xn, ↓Xo, ↓Xg, ↓Xd, ↓Xe, ↓Xf, XQ, XG, gvU, setR, orN, Yl, Xm, Yn, Yi, Xa, Ym, Xc, Xc.sizeIs, reS, Xj, Yb, mmS, Xq, dstS, srcS, XP, XN, XO, Yc, XA, Yg, Xy, XE, endV, gdst, Yk, XR, Yd, goR, XC, sBox, XU, XH, Xr, sNil, XL, Xt, XV, Xv, goD, valD, XI, XF, XB, dNil, XK, XD, dBox, dN, Xz, opL, idxs, pv, XX, Ya, XJ, Xb, Xu, oBin, oUn, Ye, XW, Xw, Xx, Xh, Xk, XY, XS, oLen, lenS, Yh, ev, lk, Vc.put, fits, kd, sz, Tryd.VΓ, Tryd.Γs, bin, binI, binS, ifK, ar, eqB, eqS, eqK, eqK.eqF, negB, bnds, optE, XM, Vc.cells, isV, Vc.one, Xs, getB, setB, XZ, Xp, Xi, Yf, Xl, XT, resS, tupS, ofV, Yj, Nat.reduceAdd, Nat.reduceSub, Nat.reduceLT, Nat.reduceLeDiff, reduceIte, reduceCtorEq, Nat.reduceEqDiff, implies_true, forall_const, lawV])
  refine ⟨fun h1 => ?_, fun h1 => ?_⟩
  · rw [if_pos (by simpa using h1)]; rfl
  rw [if_neg (by simpa using h1)]
  have hp := hl (by simpa using h1)
  have pn := p_Normalize u inUser (by decide)
  generalize pctNorm inUser u = n at pn ⊢
  obtain ⟨n, e1⟩ := n
  have ph := p_host_Host p (by omega)
  generalize hostM p = hh at ph ⊢
  obtain ⟨hh, e2⟩ := hh
  simp only at pn ph
  unfold acctOf
  (refine callV_pc (pn) ?_; simp only [vcS, ↓Xn, ↓Xo, ↓Xg, ↓Xd, ↓Xe, ↓Xf, XQ, XG, gvU, setR, orN, Yl, Xm, Yn, Yi, Xa, Ym, Xc, Xc.sizeIs, reS, Xj, Yb, mmS, Xq, dstS, srcS, XP, XN, XO, Yc, XA, Yg, Xy, XE, endV, gdst, Yk, XR, Yd, goR, XC, sBox, XU, XH, Xr, sNil, XL, Xt, XV, Xv, goD, valD, XI, XF, XB, dNil, XK, XD, dBox, dN, Xz, opL, idxs, pv, XX, Ya, XJ, Xb, Xu, oBin, oUn, Ye, XW, Xw, Xx, Xh, Xk, XY, XS, oLen, lenS, Yh, ev, lk, Vc.put, fits, kd, sz, Tryd.VΓ, Tryd.Γs, bin, binI, binS, ifK, ar, eqB, eqS, eqK, eqK.eqF, negB, bnds, optE, XM, Vc.cells, isV, Vc.one, Xs, getB, setB, XZ, Xp, Xi, Yf, Xl, XT, resS, tupS, ofV, Yj, Nat.reduceAdd, Nat.reduceSub, Nat.reduceLT, Nat.reduceLeDiff, reduceIte, reduceCtorEq, Nat.reduceEqDiff, implies_true, forall_const, lawV])
  refine ⟨fun h2 => ⟨fun h3 => ⟨⟨by omega, ?_⟩, fun h4 => ?_, fun h4 => ?_⟩, fun h3 => ?_⟩, fun h2 => ?_⟩
  · cases n with
    | nil => simp at h3
    | cons c r => simp only [List.length_cons]; omega
  · cases n with
    | nil => simp at h3
    | cons c r =>
      have h4 : c = 37 := by
        rw [← UInt8.toNat_inj]
        have : ((c.toNat : Int) == 37) = true := h4
        have := beq_iff_eq.1 this
        have e : (37 : UInt8).toNat = 37 := rfl
        omega
      rw [if_pos (.inr (.inr (by rw [h4]; rfl)))]
      rfl
  · cases n with
    | nil => simp at h3
    | cons c r =>
      have h4 : c ≠ 37 := by
        rintro rfl
        have : (((37 : UInt8).toNat : Int) == 37) = false := h4
        simp at this
      rw [if_neg (by simp only [not_or]; exact ⟨by simpa using h2, by simp, by simpa using h4⟩)]
      (refine callV_pc ph ?_; simp only [vcS, ↓Xn, ↓Xo, ↓Xg, ↓Xd, ↓Xe, ↓Xf, XQ, XG, gvU, setR, orN, Yl, Xm, Yn, Yi, Xa, Ym, Xc, Xc.sizeIs, reS, Xj, Yb, mmS, Xq, dstS, srcS, XP, XN, XO, Yc, XA, Yg, Xy, XE, endV, gdst, Yk, XR, Yd, goR, XC, sBox, XU, XH, Xr, sNil, XL, Xt, XV, Xv, goD, valD, XI, XF, XB, dNil, XK, XD, dBox, dN, Xz, opL, idxs, pv, XX, Ya, XJ, Xb, Xu, oBin, oUn, Ye, XW, Xw, Xx, Xh, Xk, XY, XS, oLen, lenS, Yh, ev, lk, Vc.put, fits, kd, sz, Tryd.VΓ, Tryd.Γs, bin, binI, binS, ifK, ar, eqB, eqS, eqK, eqK.eqF, negB, bnds, optE, XM, Vc.cells, isV, Vc.one, Xs, getB, setB, XZ, Xp, Xi, Yf, Xl, XT, resS, tupS, ofV, Yj, Nat.reduceAdd, Nat.reduceSub, Nat.reduceLT, Nat.reduceLeDiff, reduceIte, reduceCtorEq, Nat.reduceEqDiff, implies_true, forall_const, lawV])
      refine ⟨fun h5 => ?_, fun h5 => ?_⟩
      · rw [if_pos (by simpa using h5)]; rfl
      · rw [if_neg (by simpa using h5)]; rfl
  · rw [if_pos (.inr (.inl (by simpa using h3)))]; rfl
  · rw [if_pos (.inl (by simpa using h2))]; rfl
theorem p_acct_Format (a : Acct) (h : a.user.length ≤ 140737488355328 ∧ a.host.length ≤ 140737488355328) : PC Tryd.V 24 [asv a] (.str (acctText a)) := by
  refine pc_of 3000 Tryd.func24 rfl Tryd.ntmps24 Tryd.results24 Tryd.call24 (by simp) (by simp [flat, flat.flatL, asv]) (by simp [flat, flat.flatL, asv]) ?_
  unfold asv
  simp only [vcS, ↓Xn, ↓Xo, ↓Xg, ↓Xd, ↓Xe, ↓Xf, XQ, XG, gvU, setR, orN, Yl, Xm, Yn, Yi, Xa, Ym, Xc, Xc.sizeIs, reS, Xj, Yb, mmS, Xq, dstS, srcS, XP, XN, XO, Yc, XA, Yg, Xy, XE, endV, gdst, Yk, XR, Yd, goR, XC, sBox, XU, XH, Xr, sNil, XL, Xt, XV, Xv, goD, valD, XI, XF, XB, dNil, XK, XD, dBox, dN, Xz, opL, idxs, pv, XX, Ya, XJ, Xb, Xu, oBin, oUn, Ye, XW, Xw, Xx, Xh, Xk, XY, XS, oLen, lenS, Yh, ev, lk, Vc.put, fits, kd, sz, Tryd.VΓ, Tryd.Γs, bin, binI, binS, ifK, ar, eqB, eqS, eqK, eqK.eqF, negB, bnds, optE, XM, Vc.cells, isV, Vc.one, Xs, getB, setB, XZ, Xp, Xi, Yf, Xl, XT, resS, tupS, ofV, Yj, Nat.reduceAdd, Nat.reduceSub, Nat.reduceLT, Nat.reduceLeDiff, reduceIte, reduceCtorEq, Nat.reduceEqDiff, implies_true, forall_const, lawV]
  refine ⟨by omega, by omega, by simp only [List.length_append, List.length_cons, List.length_nil]; omega, ?_⟩
  simp [acctText, acctS]
theorem p_r8_Format (a : Acct) (h : a.user.length ≤ 140737488355328 ∧ a.host.length ≤ 140737488355328) : PC Tryd.V 25 [asv a] (.str (acctText a)) := by
  refine pc_of 3000 Tryd.func25 rfl Tryd.ntmps25 Tryd.results25 Tryd.call25 (by simp) (by simp [flat, flat.flatL, asv]) (by simp [flat, flat.flatL, asv]) ?_
  unfold asv
  simp only [vcS, ↓Xn, ↓Xo, ↓Xg, ↓Xd, ↓Xe, ↓Xf, XQ, XG, gvU, setR, orN, Yl, Xm, Yn, Yi, Xa, Ym, Xc, Xc.sizeIs, reS, Xj, Yb, mmS, Xq, dstS, srcS, XP, XN, XO, Yc, XA, Yg, Xy, XE, endV, gdst, Yk, XR, Yd, goR, XC, sBox, XU, XH, Xr, sNil, XL, Xt, XV, Xv, goD, valD, XI, XF, XB, dNil, XK, XD, dBox, dN, Xz, opL, idxs, pv, XX, Ya, XJ, Xb, Xu, oBin, oUn, Ye, XW, Xw, Xx, Xh, Xk, XY, XS, oLen, lenS, Yh, ev, lk, Vc.put, fits, kd, sz, Tryd.VΓ, Tryd.Γs, bin, binI, binS, ifK, ar, eqB, eqS, eqK, eqK.eqF, negB, bnds, optE, XM, Vc.cells, isV, Vc.one, Xs, getB, setB, XZ, Xp, Xi, Yf, Xl, XT, resS, tupS, ofV, Yj, Nat.reduceAdd, Nat.reduceSub, Nat.reduceLT, Nat.reduceLeDiff, reduceIte, reduceCtorEq, Nat.reduceEqDiff, implies_true, forall_const, lawV]
  refine ⟨by omega, by omega, by simp only [List.length_append, List.length_cons, List.length_nil]; omega, ?_⟩
  simp [acctText, acctS]
set_option maxHeartbeats 2000000 in
theorem p_r8_Parse (s : Bytes) : PC Tryd.V 23 [.str s] (.tup [asv (acctParse s).1, .int .i64 (acctParse s).2]) := by
  have pe := p_r1_Equal (s.take 5) acctS (by simp; omega) (by decide)
  rw [show lower acctS = acctS by decide] at pe
  refine pc_of 3000 Tryd.func23 rfl Tryd.ntmps23 Tryd.results23 Tryd.call23 (by simp) (by simp [flat, flat.flatL]) (by simp [flat, flat.flatL, asv]) ?_
  simp only [vcS, ↓Xn, ↓Xo, ↓Xg, ↓Xd, ↓Xe, ↓Xf, XQ, XG, gvU, setR, orN, Yl, Xm, Yn, Yi, Xa, Ym, Xc, Xc.sizeIs, reS, Xj, Yb, mmS, Xq, dstS, srcS, XP, XN, XO, Yc, XA, Yg, Xy, XE, endV, gdst, Yk, XR, Yd, goR, XC, sBox, XU, XH, Xr, sNil, XL, Xt, XV, Xv, goD, valD, XI, XF, XB, dNil, XK, XD, dBox, dN, Xz, opL, idxs, pv, XX, Ya, XJ, Xb, Xu, oBin, oUn, Ye, XW, Xw, Xx, Xh, Xk, XY, XS, oLen, lenS, Yh, ev, lk, Vc.put, fits, kd, sz, Tryd.VΓ, Tryd.Γs, bin, binI, binS, ifK, ar, eqB, eqS, eqK, eqK.eqF, negB, bnds, optE, XM, Vc.cells, isV, Vc.one, Xs, getB, setB, XZ, Xp, Xi, Yf, Xl, XT, resS, tupS, ofV, Yj, Nat.reduceAdd, Nat.reduceSub, Nat.reduceLT, Nat.reduceLeDiff, reduceIte, reduceCtorEq, Nat.reduceEqDiff, implies_true, forall_const, lawV]
  unfold acctParse
  refine ⟨fun h => ?_, fun h => ⟨fun h2 => ⟨⟨by omega, (by simp at h2; omega)⟩, ?_⟩, fun h2 => ?_⟩⟩
  · have h : 4096 < s.length := (by simp at h; omega)
    rw [if_pos h]; rfl
  · have h : ¬ 4096 < s.length := (by simp at h; omega)
    have h2 : ¬ s.length < 5 := (by simp at h2; omega)
    rw [if_neg h]
    (refine callV_pc pe ?_; simp only [vcS, ↓Xn, ↓Xo, ↓Xg, ↓Xd, ↓Xe, ↓Xf, XQ, XG, gvU, setR, orN, Yl, Xm, Yn, Yi, Xa, Ym, Xc, Xc.sizeIs, reS, Xj, Yb, mmS, Xq, dstS, srcS, XP, XN, XO, Yc, XA, Yg, Xy, XE, endV, gdst, Yk, XR, Yd, goR, XC, sBox, XU, XH, Xr, sNil, XL, Xt, XV, Xv, goD, valD, XI, XF, XB, dNil, XK, XD, dBox, dN, Xz, opL, idxs, pv, XX, Ya, XJ, Xb, Xu, oBin, oUn, Ye, XW, Xw, Xx, Xh, Xk, XY, XS, oLen, lenS, Yh, ev, lk, Vc.put, fits, kd, sz, Tryd.VΓ, Tryd.Γs, bin, binI, binS, ifK, ar, eqB, eqS, eqK, eqK.eqF, negB, bnds, optE, XM, Vc.cells, isV, Vc.one, Xs, getB, setB, XZ, Xp, Xi, Yf, Xl, XT, resS, tupS, ofV, Yj, Nat.reduceAdd, Nat.reduceSub, Nat.reduceLT, Nat.reduceLeDiff, reduceIte, reduceCtorEq, Nat.reduceEqDiff, implies_true, forall_const, lawV, Int.reduceToNat])
    refine ⟨fun h3 => ?_, fun h3 => ⟨⟨by omega, by omega⟩, ?_⟩⟩
    · rw [if_pos (.inr (by simpa using h3))]; rfl
    rw [if_neg (by simp only [not_or]; exact ⟨h2, by simpa using h3⟩)]
    have hS : (s.drop 5).length ≤ 4096 := by simp; omega
    generalize s.drop 5 = S at hS ⊢
    have pi := p_r1_Index S [64] (by omega) (by decide)
    rw [show (List.contains [64] · : UInt8 → Bool) = (· == 64) from by funext c; simp; exact (Bool.beq_eq_decide_eq _ _).symm] at pi
    have hpl := pre_le (· == 64) S
    unfold acctRest
    (refine callV_pc pi ?_; simp only [vcS, ↓Xn, ↓Xo, ↓Xg, ↓Xd, ↓Xe, ↓Xf, XQ, XG, gvU, setR, orN, Yl, Xm, Yn, Yi, Xa, Ym, Xc, Xc.sizeIs, reS, Xj, Yb, mmS, Xq, dstS, srcS, XP, XN, XO, Yc, XA, Yg, Xy, XE, endV, gdst, Yk, XR, Yd, goR, XC, sBox, XU, XH, Xr, sNil, XL, Xt, XV, Xv, goD, valD, XI, XF, XB, dNil, XK, XD, dBox, dN, Xz, opL, idxs, pv, XX, Ya, XJ, Xb, Xu, oBin, oUn, Ye, XW, Xw, Xx, Xh, Xk, XY, XS, oLen, lenS, Yh, ev, lk, Vc.put, fits, kd, sz, Tryd.VΓ, Tryd.Γs, bin, binI, binS, ifK, ar, eqB, eqS, eqK, eqK.eqF, negB, bnds, optE, XM, Vc.cells, isV, Vc.one, Xs, getB, setB, XZ, Xp, Xi, Yf, Xl, XT, resS, tupS, ofV, Yj, Nat.reduceAdd, Nat.reduceSub, Nat.reduceLT, Nat.reduceLeDiff, reduceIte, reduceCtorEq, Nat.reduceEqDiff, implies_true, forall_const, lawV])
    refine ⟨fun h4 => ?_, fun h4 => ?_⟩
    · have h4 := beq_iff_eq.1 h4
      rw [cutC_none (by omega)]; rfl
    have h4 : pre (· == 64) S < S.length := by
      have := beq_eq_false_iff_ne.1 h4
      omega
    rw [show cutC 64 S = (S.take (pre (· == 64) S), S.drop (pre (· == 64) S + 1), true) from if_pos h4]
    simp only [Bool.true_eq_false, if_false]
    generalize hk : pre (· == 64) S = k at *
    have pn := p_r3_Normalize (S.take k) inUser (by decide)
    have ph := p_r5_Host (S.drop (k + 1)) (by simp; omega)
    generalize pctNorm inUser (S.take k) = n at pn ⊢
    obtain ⟨n, e1⟩ := n
    generalize hostM (S.drop (k + 1)) = hh at ph ⊢
    obtain ⟨hh, e2⟩ := hh
    simp only at pn ph
    unfold acctOf
    simp only
    refine ⟨⟨by omega, by omega⟩, ?_⟩
    (refine callV_pc pn ?_; simp only [vcS, ↓Xn, ↓Xo, ↓Xg, ↓Xd, ↓Xe, ↓Xf, XQ, XG, gvU, setR, orN, Yl, Xm, Yn, Yi, Xa, Ym, Xc, Xc.sizeIs, reS, Xj, Yb, mmS, Xq, dstS, srcS, XP, XN, XO, Yc, XA, Yg, Xy, XE, endV, gdst, Yk, XR, Yd, goR, XC, sBox, XU, XH, Xr, sNil, XL, Xt, XV, Xv, goD, valD, XI, XF, XB, dNil, XK, XD, dBox, dN, Xz, opL, idxs, pv, XX, Ya, XJ, Xb, Xu, oBin, oUn, Ye, XW, Xw, Xx, Xh, Xk, XY, XS, oLen, lenS, Yh, ev, lk, Vc.put, fits, kd, sz, Tryd.VΓ, Tryd.Γs, bin, binI, binS, ifK, ar, eqB, eqS, eqK, eqK.eqF, negB, bnds, optE, XM, Vc.cells, isV, Vc.one, Xs, getB, setB, XZ, Xp, Xi, Yf, Xl, XT, resS, tupS, ofV, Yj, Nat.reduceAdd, Nat.reduceSub, Nat.reduceLT, Nat.reduceLeDiff, reduceIte, reduceCtorEq, Nat.reduceEqDiff, implies_true, forall_const, lawV])
    refine ⟨fun h2 => ⟨fun h3 => ⟨⟨by omega, ?_⟩, fun h4 => ?_, fun h4 => ?_⟩, fun h3 => ?_⟩, fun h2 => ?_⟩
    · cases n with
      | nil => simp at h3
      | cons c r => simp only [List.length_cons]; omega
    · cases n with
      | nil => simp at h3
      | cons c r =>
        have h4 : c = 37 := by
          rw [← UInt8.toNat_inj]
          have : ((c.toNat : Int) == 37) = true := h4
          have := beq_iff_eq.1 this
          have e : (37 : UInt8).toNat = 37 := rfl
          omega
        rw [if_pos (.inr (.inr (by rw [h4]; rfl)))]
        rfl
    · cases n with
      | nil => simp at h3
      | cons c r =>
        have h4 : c ≠ 37 := by
          rintro rfl
          have : (((37 : UInt8).toNat : Int) == 37) = false := h4
          simp at this
        rw [if_neg (by simp only [not_or]; exact ⟨by simpa using h2, by simp, by simpa using h4⟩)]
        refine ⟨⟨by omega, by omega⟩, ⟨by omega, by omega⟩, ?_⟩
        (refine callV_pc ph ?_; simp only [vcS, ↓Xn, ↓Xo, ↓Xg, ↓Xd, ↓Xe, ↓Xf, XQ, XG, gvU, setR, orN, Yl, Xm, Yn, Yi, Xa, Ym, Xc, Xc.sizeIs, reS, Xj, Yb, mmS, Xq, dstS, srcS, XP, XN, XO, Yc, XA, Yg, Xy, XE, endV, gdst, Yk, XR, Yd, goR, XC, sBox, XU, XH, Xr, sNil, XL, Xt, XV, Xv, goD, valD, XI, XF, XB, dNil, XK, XD, dBox, dN, Xz, opL, idxs, pv, XX, Ya, XJ, Xb, Xu, oBin, oUn, Ye, XW, Xw, Xx, Xh, Xk, XY, XS, oLen, lenS, Yh, ev, lk, Vc.put, fits, kd, sz, Tryd.VΓ, Tryd.Γs, bin, binI, binS, ifK, ar, eqB, eqS, eqK, eqK.eqF, negB, bnds, optE, XM, Vc.cells, isV, Vc.one, Xs, getB, setB, XZ, Xp, Xi, Yf, Xl, XT, resS, tupS, ofV, Yj, Nat.reduceAdd, Nat.reduceSub, Nat.reduceLT, Nat.reduceLeDiff, reduceIte, reduceCtorEq, Nat.reduceEqDiff, implies_true, forall_const, lawV])
        refine ⟨fun h5 => ?_, fun h5 => ?_⟩
        · rw [if_pos (by simpa using h5)]; rfl
        · rw [if_neg (by simpa using h5)]; rfl
    · rw [if_pos (.inr (.inl (by simpa using h3)))]; rfl
    · rw [if_pos (.inl (by simpa using h2))]; rfl
  · have h : ¬ 4096 < s.length := (by simp at h; omega)
    have h2 : s.length < 5 := (by simp at h2; omega)
    rw [if_neg h, if_pos (.inl h2)]; rfl
end Go.Proofs.YtnpkjglcbolcbaaDoor
