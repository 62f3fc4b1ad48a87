/- The walks of reference 06: scheme, Split, merged, Resolve. -/
import Derived.Test.YtnncgbamppaacaaDoorRefUri
set_option linter.all false
set_option maxRecDepth 20000
namespace Go.Proofs.YtnncgbamppaacaaDoor
open Go Vc Go.RowKit Wf
set_option linter.unusedSimpArgs false
theorem p_r1_IsAlpha (c : UInt8) : PC Tryd.V 76 [.int .u8 c.toNat] (.bool (isAlpha c)) := by
  refine pc_of 3000 Tryd.func76 rfl Tryd.ntmps76 Tryd.results76 Tryd.call76 (by simp) (by simp [flat, flat.flatL]) (by simp [flat, flat.flatL]) ?_
  simp only [vcS, ↓Xn, ↓Xo, ↓Xg, ↓Xd, ↓Xe, ↓Xf, XQ, XG, gvU, setR, orN, Yl, Xm, Yn, Yi, Xa, Ym, Xc, Xc.sizeIs, reS, Xj, Yb, mmS, Xq, dstS, srcS, XP, XN, XO, Yc, XA, Yg, Xy, XE, endV, gdst, Yk, XR, Yd, goR, XC, sBox, XU, XH, Xr, sNil, XL, Xt, XV, Xv, goD, valD, XI, XF, XB, dNil, XK, XD, dBox, dN, Xz, opL, idxs, pv, XX, Ya, XJ, Xb, Xu, oBin, oUn, Ye, XW, Xw, Xx, Xh, Xk, XY, XS, oLen, lenS, Yh, ev, lk, Vc.put, fits, kd, sz, Tryd.VΓ, Tryd.Γs, bin, binI, binS, ifK, ar, eqB, eqS, eqK, eqK.eqF, negB, bnds, optE, XM, Vc.cells, isV, Vc.one, Xs, getB, setB, XZ, Xp, Xi, Yf, Xl, XT, resS, tupS, ofV, Yj, Nat.reduceAdd, Nat.reduceSub, Nat.reduceLT, Nat.reduceLeDiff, reduceIte, reduceCtorEq, Nat.reduceEqDiff, implies_true, forall_const, lawV]
  unfold isAlpha
  by_cases h1 : 65 ≤ c.toNat <;> by_cases h2 : c.toNat ≤ 90 <;> by_cases h3 : 97 ≤ c.toNat <;> by_cases h4 : c.toNat ≤ 122 <;> simp [h1, h2, h3, h4] <;> omega
theorem p_r1_IsDigit (c : UInt8) : PC Tryd.V 75 [.int .u8 c.toNat] (.bool (isDigit c)) := by
  refine pc_of 3000 Tryd.func75 rfl Tryd.ntmps75 Tryd.results75 Tryd.call75 (by simp) (by simp [flat, flat.flatL]) (by simp [flat, flat.flatL]) ?_
  simp only [vcS, ↓Xn, ↓Xo, ↓Xg, ↓Xd, ↓Xe, ↓Xf, XQ, XG, gvU, setR, orN, Yl, Xm, Yn, Yi, Xa, Ym, Xc, Xc.sizeIs, reS, Xj, Yb, mmS, Xq, dstS, srcS, XP, XN, XO, Yc, XA, Yg, Xy, XE, endV, gdst, Yk, XR, Yd, goR, XC, sBox, XU, XH, Xr, sNil, XL, Xt, XV, Xv, goD, valD, XI, XF, XB, dNil, XK, XD, dBox, dN, Xz, opL, idxs, pv, XX, Ya, XJ, Xb, Xu, oBin, oUn, Ye, XW, Xw, Xx, Xh, Xk, XY, XS, oLen, lenS, Yh, ev, lk, Vc.put, fits, kd, sz, Tryd.VΓ, Tryd.Γs, bin, binI, binS, ifK, ar, eqB, eqS, eqK, eqK.eqF, negB, bnds, optE, XM, Vc.cells, isV, Vc.one, Xs, getB, setB, XZ, Xp, Xi, Yf, Xl, XT, resS, tupS, ofV, Yj, Nat.reduceAdd, Nat.reduceSub, Nat.reduceLT, Nat.reduceLeDiff, reduceIte, reduceCtorEq, Nat.reduceEqDiff, implies_true, forall_const, lawV]
  unfold isDigit
  by_cases h1 : 48 ≤ c.toNat <;> by_cases h2 : c.toNat ≤ 57 <;> simp [h1, h2] <;> omega
theorem scheme_step {s : Bytes} {k : Nat} (hk : k < s.length) (hr : k = 0 ∨ schemeOk (s.take k) = true) (hc : isAlpha s[k] = true ∨ (0 < k ∧ schemeC s[k] = true)) : k + 1 = 0 ∨ schemeOk (s.take (k + 1)) = true := by
  right
  rcases Nat.eq_zero_or_pos k with h0 | h0
  · subst h0
    rcases hc with hc | ⟨hc, -⟩
    · exact scheme_one hk hc
    · omega
  · refine scheme_snoc h0 hk (hr.resolve_left (by omega)) ?_
    rcases hc with hc | ⟨-, hc⟩
    · simp [schemeC, hc]
    · exact hc
theorem not_t {b : Bool} (h : (!b) = true) : b = false := by cases b <;> simp at h ⊢
theorem not_f {b : Bool} (h : (!b) = false) : b = true := by cases b <;> simp at h ⊢
/-- The merged path where the reference's path has no slash ahead. -/
def refMerge (b r : Uri) : Bytes := if b.hasAuthority ∧ b.path = [] then 47 :: r.path else b.path.take (lastSlash b.path) ++ r.path
theorem uriMerge_ref (b r : Uri) : uriMerge b r = if r.path.head? = some 47 then r.path else refMerge b r := rfl
theorem refMerge_len (b r : Uri) : (refMerge b r).length ≤ 1 + b.path.length + r.path.length := by
  unfold refMerge
  split
  · simp; omega
  · simp; omega
end Go.Proofs.YtnncgbamppaacaaDoor
