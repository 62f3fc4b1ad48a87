/- The walks of package percent, and of the classes of bytes that it uses. -/
import Derived.Test.YtnncgbamppaacaaDoorLib
import Derived.Test.YtnncgbamppaacaaDoorVcB
import Derived.Test.YtnncgbamppaacaaDoorPlain
set_option linter.all false
set_option maxRecDepth 20000
namespace Go.Proofs.YtnncgbamppaacaaDoor
open Go Vc Go.RowKit Wf
theorem p_IsAlpha (c : UInt8) : PC Tryd.V 90 [.int .u8 c.toNat] (.bool (isAlpha c)) :=
  ⟨Tryd.call90, by simp [flat, flat.flatL], by simp [flat, flat.flatL], fun w _ => (ascii_IsAlpha c w).mono fun _ _ ⟨h, k⟩ => ⟨h, below_same k⟩⟩
theorem p_IsDigit (c : UInt8) : PC Tryd.V 72 [.int .u8 c.toNat] (.bool (isDigit c)) :=
  ⟨Tryd.call72, by simp [flat, flat.flatL], by simp [flat, flat.flatL], fun w _ => (ascii_IsDigit c w).mono fun _ _ ⟨h, k⟩ => ⟨h, below_same k⟩⟩
theorem p_IsHex (c : UInt8) : PC Tryd.V 99 [.int .u8 c.toNat] (.bool (isHex c)) :=
  ⟨Tryd.call99, by simp [flat, flat.flatL], by simp [flat, flat.flatL], fun w _ => (ascii_IsHex c w).mono fun _ _ ⟨h, k⟩ => ⟨h, below_same k⟩⟩
theorem idx_geq (set : Bytes) (c : UInt8) : decide (0 ≤ Lib.indexByte set c) = set.contains c := by
  rw [indexByte_pre]
  by_cases h : pre (· == c) set < set.length
  · rw [if_pos h]
    have := pre_at (p := (· == c)) h
    simp only [beq_iff_eq] at this
    simp only [Int.natCast_nonneg, decide_true]
    symm
    rw [List.contains_iff_mem, ← this]
    exact List.getElem_mem h
  · rw [if_neg h]
    simp only [show ¬ (0 : Int) ≤ -1 by omega, decide_false]
    symm
    rw [← Bool.not_eq_true, List.contains_iff_mem]
    intro hm
    obtain ⟨k, hk, rfl⟩ := List.getElem_of_mem hm
    have h2 := pre_le (· == set[k]) set
    have := pre_get (p := (· == set[k])) (l := set) (k := k) (by omega) hk
    simp at this
theorem p_among (c : UInt8) (set : Bytes) : PC Tryd.V 93 [.int .u8 c.toNat, .str set] (.bool (set.contains c)) := by
  refine pc_of 3000 Tryd.func93 rfl Tryd.ntmps93 Tryd.results93 Tryd.call93 (by simp) (by simp [flat, flat.flatL]) (by simp [flat, flat.flatL]) ?_
  simp only [vcS, ↓Xn, ↓Xo, ↓Xg, ↓Xd, ↓Xe, ↓Xf, XQ, XG, gvU, setR, orN, Yl, Xm, Yn, Yi, Xa, Ym, Xc, Xc.sizeIs, reS, Xj, Yb, mmS, Xq, dstS, srcS, XP, XN, XO, Yc, XA, Yg, Xy, XE, endV, gdst, Yk, XR, Yd, goR, XC, sBox, XU, XH, Xr, sNil, XL, Xt, XV, Xv, goD, valD, XI, XF, XB, dNil, XK, XD, dBox, dN, Xz, opL, idxs, pv, XX, Ya, XJ, Xb, Xu, oBin, oUn, Ye, XW, Xw, Xx, Xh, Xk, XY, XS, oLen, lenS, Yh, ev, lk, Vc.put, fits, kd, sz, Tryd.VΓ, Tryd.Γs, bin, binI, binS, ifK, ar, eqB, eqS, eqK, eqK.eqF, negB, bnds, optE, XM, Vc.cells, isV, Vc.one, Xs, getB, setB, XZ, Xp, Xi, Yf, Xl, XT, resS, tupS, ofV, Yj, Nat.reduceAdd, Nat.reduceSub, Nat.reduceLT, Nat.reduceLeDiff, reduceIte, reduceCtorEq, Nat.reduceEqDiff, implies_true, forall_const, lawV]
  (refine callV_pc (p_IndexByte set c) ?_; simp only [vcS, ↓Xn, ↓Xo, ↓Xg, ↓Xd, ↓Xe, ↓Xf, XQ, XG, gvU, setR, orN, Yl, Xm, Yn, Yi, Xa, Ym, Xc, Xc.sizeIs, reS, Xj, Yb, mmS, Xq, dstS, srcS, XP, XN, XO, Yc, XA, Yg, Xy, XE, endV, gdst, Yk, XR, Yd, goR, XC, sBox, XU, XH, Xr, sNil, XL, Xt, XV, Xv, goD, valD, XI, XF, XB, dNil, XK, XD, dBox, dN, Xz, opL, idxs, pv, XX, Ya, XJ, Xb, Xu, oBin, oUn, Ye, XW, Xw, Xx, Xh, Xk, XY, XS, oLen, lenS, Yh, ev, lk, Vc.put, fits, kd, sz, Tryd.VΓ, Tryd.Γs, bin, binI, binS, ifK, ar, eqB, eqS, eqK, eqK.eqF, negB, bnds, optE, XM, Vc.cells, isV, Vc.one, Xs, getB, setB, XZ, Xp, Xi, Yf, Xl, XT, resS, tupS, ofV, Yj, Nat.reduceAdd, Nat.reduceSub, Nat.reduceLT, Nat.reduceLeDiff, reduceIte, reduceCtorEq, Nat.reduceEqDiff, implies_true, forall_const, lawV])
  rw [idx_geq]
theorem p_alnum (c : UInt8) : PC Tryd.V 92 [.int .u8 c.toNat] (.bool (isAlpha c || isDigit c)) := by
  refine pc_of 3000 Tryd.func92 rfl Tryd.ntmps92 Tryd.results92 Tryd.call92 (by simp) (by simp [flat, flat.flatL]) (by simp [flat, flat.flatL]) ?_
  simp only [vcS, ↓Xn, ↓Xo, ↓Xg, ↓Xd, ↓Xe, ↓Xf, XQ, XG, gvU, setR, orN, Yl, Xm, Yn, Yi, Xa, Ym, Xc, Xc.sizeIs, reS, Xj, Yb, mmS, Xq, dstS, srcS, XP, XN, XO, Yc, XA, Yg, Xy, XE, endV, gdst, Yk, XR, Yd, goR, XC, sBox, XU, XH, Xr, sNil, XL, Xt, XV, Xv, goD, valD, XI, XF, XB, dNil, XK, XD, dBox, dN, Xz, opL, idxs, pv, XX, Ya, XJ, Xb, Xu, oBin, oUn, Ye, XW, Xw, Xx, Xh, Xk, XY, XS, oLen, lenS, Yh, ev, lk, Vc.put, fits, kd, sz, Tryd.VΓ, Tryd.Γs, bin, binI, binS, ifK, ar, eqB, eqS, eqK, eqK.eqF, negB, bnds, optE, XM, Vc.cells, isV, Vc.one, Xs, getB, setB, XZ, Xp, Xi, Yf, Xl, XT, resS, tupS, ofV, Yj, Nat.reduceAdd, Nat.reduceSub, Nat.reduceLT, Nat.reduceLeDiff, reduceIte, reduceCtorEq, Nat.reduceEqDiff, implies_true, forall_const, lawV]
  (refine callV_pc (p_IsAlpha c) ?_; simp only [vcS, ↓Xn, ↓Xo, ↓Xg, ↓Xd, ↓Xe, ↓Xf, XQ, XG, gvU, setR, orN, Yl, Xm, Yn, Yi, Xa, Ym, Xc, Xc.sizeIs, reS, Xj, Yb, mmS, Xq, dstS, srcS, XP, XN, XO, Yc, XA, Yg, Xy, XE, endV, gdst, Yk, XR, Yd, goR, XC, sBox, XU, XH, Xr, sNil, XL, Xt, XV, Xv, goD, valD, XI, XF, XB, dNil, XK, XD, dBox, dN, Xz, opL, idxs, pv, XX, Ya, XJ, Xb, Xu, oBin, oUn, Ye, XW, Xw, Xx, Xh, Xk, XY, XS, oLen, lenS, Yh, ev, lk, Vc.put, fits, kd, sz, Tryd.VΓ, Tryd.Γs, bin, binI, binS, ifK, ar, eqB, eqS, eqK, eqK.eqF, negB, bnds, optE, XM, Vc.cells, isV, Vc.one, Xs, getB, setB, XZ, Xp, Xi, Yf, Xl, XT, resS, tupS, ofV, Yj, Nat.reduceAdd, Nat.reduceSub, Nat.reduceLT, Nat.reduceLeDiff, reduceIte, reduceCtorEq, Nat.reduceEqDiff, implies_true, forall_const, lawV])
  refine ⟨fun h => ?_, fun h => by rw [h]; rfl⟩
  (refine callV_pc (p_IsDigit c) ?_; simp only [vcS, ↓Xn, ↓Xo, ↓Xg, ↓Xd, ↓Xe, ↓Xf, XQ, XG, gvU, setR, orN, Yl, Xm, Yn, Yi, Xa, Ym, Xc, Xc.sizeIs, reS, Xj, Yb, mmS, Xq, dstS, srcS, XP, XN, XO, Yc, XA, Yg, Xy, XE, endV, gdst, Yk, XR, Yd, goR, XC, sBox, XU, XH, Xr, sNil, XL, Xt, XV, Xv, goD, valD, XI, XF, XB, dNil, XK, XD, dBox, dN, Xz, opL, idxs, pv, XX, Ya, XJ, Xb, Xu, oBin, oUn, Ye, XW, Xw, Xx, Xh, Xk, XY, XS, oLen, lenS, Yh, ev, lk, Vc.put, fits, kd, sz, Tryd.VΓ, Tryd.Γs, bin, binI, binS, ifK, ar, eqB, eqS, eqK, eqK.eqF, negB, bnds, optE, XM, Vc.cells, isV, Vc.one, Xs, getB, setB, XZ, Xp, Xi, Yf, Xl, XT, resS, tupS, ofV, Yj, Nat.reduceAdd, Nat.reduceSub, Nat.reduceLT, Nat.reduceLeDiff, reduceIte, reduceCtorEq, Nat.reduceEqDiff, implies_true, forall_const, lawV])
  rw [h]; rfl
theorem p_IsUnreserved (c : UInt8) : PC Tryd.V 66 [.int .u8 c.toNat] (.bool (unres c)) := by
  refine pc_of 3000 Tryd.func66 rfl Tryd.ntmps66 Tryd.results66 Tryd.call66 (by simp) (by simp [flat, flat.flatL]) (by simp [flat, flat.flatL]) ?_
  simp only [vcS, ↓Xn, ↓Xo, ↓Xg, ↓Xd, ↓Xe, ↓Xf, XQ, XG, gvU, setR, orN, Yl, Xm, Yn, Yi, Xa, Ym, Xc, Xc.sizeIs, reS, Xj, Yb, mmS, Xq, dstS, srcS, XP, XN, XO, Yc, XA, Yg, Xy, XE, endV, gdst, Yk, XR, Yd, goR, XC, sBox, XU, XH, Xr, sNil, XL, Xt, XV, Xv, goD, valD, XI, XF, XB, dNil, XK, XD, dBox, dN, Xz, opL, idxs, pv, XX, Ya, XJ, Xb, Xu, oBin, oUn, Ye, XW, Xw, Xx, Xh, Xk, XY, XS, oLen, lenS, Yh, ev, lk, Vc.put, fits, kd, sz, Tryd.VΓ, Tryd.Γs, bin, binI, binS, ifK, ar, eqB, eqS, eqK, eqK.eqF, negB, bnds, optE, XM, Vc.cells, isV, Vc.one, Xs, getB, setB, XZ, Xp, Xi, Yf, Xl, XT, resS, tupS, ofV, Yj, Nat.reduceAdd, Nat.reduceSub, Nat.reduceLT, Nat.reduceLeDiff, reduceIte, reduceCtorEq, Nat.reduceEqDiff, implies_true, forall_const, lawV]
  (refine callV_pc (p_alnum c) ?_; simp only [vcS, ↓Xn, ↓Xo, ↓Xg, ↓Xd, ↓Xe, ↓Xf, XQ, XG, gvU, setR, orN, Yl, Xm, Yn, Yi, Xa, Ym, Xc, Xc.sizeIs, reS, Xj, Yb, mmS, Xq, dstS, srcS, XP, XN, XO, Yc, XA, Yg, Xy, XE, endV, gdst, Yk, XR, Yd, goR, XC, sBox, XU, XH, Xr, sNil, XL, Xt, XV, Xv, goD, valD, XI, XF, XB, dNil, XK, XD, dBox, dN, Xz, opL, idxs, pv, XX, Ya, XJ, Xb, Xu, oBin, oUn, Ye, XW, Xw, Xx, Xh, Xk, XY, XS, oLen, lenS, Yh, ev, lk, Vc.put, fits, kd, sz, Tryd.VΓ, Tryd.Γs, bin, binI, binS, ifK, ar, eqB, eqS, eqK, eqK.eqF, negB, bnds, optE, XM, Vc.cells, isV, Vc.one, Xs, getB, setB, XZ, Xp, Xi, Yf, Xl, XT, resS, tupS, ofV, Yj, Nat.reduceAdd, Nat.reduceSub, Nat.reduceLT, Nat.reduceLeDiff, reduceIte, reduceCtorEq, Nat.reduceEqDiff, implies_true, forall_const, lawV])
  refine ⟨fun h => ?_, fun h => by unfold unres; rw [h]; rfl⟩
  (refine callV_pc (p_among c [45, 46, 95, 126]) ?_; simp only [vcS, ↓Xn, ↓Xo, ↓Xg, ↓Xd, ↓Xe, ↓Xf, XQ, XG, gvU, setR, orN, Yl, Xm, Yn, Yi, Xa, Ym, Xc, Xc.sizeIs, reS, Xj, Yb, mmS, Xq, dstS, srcS, XP, XN, XO, Yc, XA, Yg, Xy, XE, endV, gdst, Yk, XR, Yd, goR, XC, sBox, XU, XH, Xr, sNil, XL, Xt, XV, Xv, goD, valD, XI, XF, XB, dNil, XK, XD, dBox, dN, Xz, opL, idxs, pv, XX, Ya, XJ, Xb, Xu, oBin, oUn, Ye, XW, Xw, Xx, Xh, Xk, XY, XS, oLen, lenS, Yh, ev, lk, Vc.put, fits, kd, sz, Tryd.VΓ, Tryd.Γs, bin, binI, binS, ifK, ar, eqB, eqS, eqK, eqK.eqF, negB, bnds, optE, XM, Vc.cells, isV, Vc.one, Xs, getB, setB, XZ, Xp, Xi, Yf, Xl, XT, resS, tupS, ofV, Yj, Nat.reduceAdd, Nat.reduceSub, Nat.reduceLT, Nat.reduceLeDiff, reduceIte, reduceCtorEq, Nat.reduceEqDiff, implies_true, forall_const, lawV])
  unfold unres; rw [h]; rfl
theorem dig_low (c : UInt8) (h : isDigit c = true) : IntKind.u8.wrap ((c.toNat : Int) - 48) = hexVal c := by
  have := all256 (p := fun c => !isDigit c || decide (IntKind.u8.wrap ((c.toNat : Int) - 48) = hexVal c)) (by decide +kernel) c
  simpa [h] using this
theorem dig_high (c : UInt8) (h : isHex c = true) (h2 : isDigit c = false) : IntKind.u8.wrap (IntKind.u8.wrap (bitI .or .u8 (c.toNat : Int) 32 - 97) + 10) = hexVal c := by
  have := all256 (p := fun c => !isHex c || isDigit c || decide (IntKind.u8.wrap (IntKind.u8.wrap (bitI .or .u8 (c.toNat : Int) 32 - 97) + 10) = hexVal c)) (by decide +kernel) c
  simpa [h, h2] using this
theorem p_digit (c : UInt8) (hc : isHex c = true) : PC Tryd.V 100 [.int .u8 c.toNat] (.int .u8 (hexVal c)) := by
  refine pc_of 3000 Tryd.func100 rfl Tryd.ntmps100 Tryd.results100 Tryd.call100 (by simp) (by simp [flat, flat.flatL]) (by simp [flat, flat.flatL]) ?_
  simp only [vcS, ↓Xn, ↓Xo, ↓Xg, ↓Xd, ↓Xe, ↓Xf, XQ, XG, gvU, setR, orN, Yl, Xm, Yn, Yi, Xa, Ym, Xc, Xc.sizeIs, reS, Xj, Yb, mmS, Xq, dstS, srcS, XP, XN, XO, Yc, XA, Yg, Xy, XE, endV, gdst, Yk, XR, Yd, goR, XC, sBox, XU, XH, Xr, sNil, XL, Xt, XV, Xv, goD, valD, XI, XF, XB, dNil, XK, XD, dBox, dN, Xz, opL, idxs, pv, XX, Ya, XJ, Xb, Xu, oBin, oUn, Ye, XW, Xw, Xx, Xh, Xk, XY, XS, oLen, lenS, Yh, ev, lk, Vc.put, fits, kd, sz, Tryd.VΓ, Tryd.Γs, bin, binI, binS, ifK, ar, eqB, eqS, eqK, eqK.eqF, negB, bnds, optE, XM, Vc.cells, isV, Vc.one, Xs, getB, setB, XZ, Xp, Xi, Yf, Xl, XT, resS, tupS, ofV, Yj, Nat.reduceAdd, Nat.reduceSub, Nat.reduceLT, Nat.reduceLeDiff, reduceIte, reduceCtorEq, Nat.reduceEqDiff, implies_true, forall_const, lawV]
  (refine callV_pc (p_IsDigit c) ?_; simp only [vcS, ↓Xn, ↓Xo, ↓Xg, ↓Xd, ↓Xe, ↓Xf, XQ, XG, gvU, setR, orN, Yl, Xm, Yn, Yi, Xa, Ym, Xc, Xc.sizeIs, reS, Xj, Yb, mmS, Xq, dstS, srcS, XP, XN, XO, Yc, XA, Yg, Xy, XE, endV, gdst, Yk, XR, Yd, goR, XC, sBox, XU, XH, Xr, sNil, XL, Xt, XV, Xv, goD, valD, XI, XF, XB, dNil, XK, XD, dBox, dN, Xz, opL, idxs, pv, XX, Ya, XJ, Xb, Xu, oBin, oUn, Ye, XW, Xw, Xx, Xh, Xk, XY, XS, oLen, lenS, Yh, ev, lk, Vc.put, fits, kd, sz, Tryd.VΓ, Tryd.Γs, bin, binI, binS, ifK, ar, eqB, eqS, eqK, eqK.eqF, negB, bnds, optE, XM, Vc.cells, isV, Vc.one, Xs, getB, setB, XZ, Xp, Xi, Yf, Xl, XT, resS, tupS, ofV, Yj, Nat.reduceAdd, Nat.reduceSub, Nat.reduceLT, Nat.reduceLeDiff, reduceIte, reduceCtorEq, Nat.reduceEqDiff, implies_true, forall_const, lawV])
  refine ⟨fun h => ?_, fun h => ?_⟩
  · rw [dig_low c h]
  · rw [dig_high c hc h]
theorem unhex_bits (a b : UInt8) (ha : isHex a = true) (hb : isHex b = true) : bitI .or .u8 (shI .shl .u8 (hexVal a) 4) (hexVal b) = ((unhex a b).toNat : Int) := by
  have h1 := hexVal_le ha
  have h2 := hexVal_le hb
  have : ∀ x, x < 16 → ∀ y, y < 16 → bitI .or .u8 (shI .shl .u8 (x : Nat) 4) (y : Nat) = (((x * 16 + y).toUInt8).toNat : Int) := by decide +kernel
  exact this _ (by omega) _ (by omega)
/-- The escape that begins at an offset. -/
def escAt (s : Bytes) (i : Nat) : Option UInt8 := (hexPair (s.drop (i + 1))).map fun x => unhex x.1 x.2.1
theorem hexPair_drop (s : Bytes) (i : Nat) : hexPair (s.drop (i + 1)) = if i + 2 < s.length then (if isHex (s.getD (i + 1) 0) && isHex (s.getD (i + 2) 0) then some (s.getD (i + 1) 0, s.getD (i + 2) 0, s.drop (i + 3)) else none) else none := by
  by_cases h : i + 2 < s.length
  · rw [if_pos h, List.drop_eq_getElem_cons (by omega : i + 1 < s.length), List.drop_eq_getElem_cons (by omega : i + 1 + 1 < s.length)]
    simp only [hexPair, List.getD_eq_getElem?_getD]
    simp [show i + 1 < s.length by omega, h]
  · rw [if_neg h]
    have hl : (s.drop (i + 1)).length ≤ 1 := by simp; omega
    match hm : s.drop (i + 1), hl with
    | [], _ => rfl
    | [_], _ => rfl
set_option maxHeartbeats 1000000 in
set_option maxRecDepth 20000 in
theorem p_escaped (s : Bytes) (i : Nat) (hi : i < s.length) (hs : s.length ≤ 9223372036854775807) : PC Tryd.V 79 [.str s, .int .i64 i] (.tup [.int .u8 (((escAt s i).getD 0).toNat : Int), .bool (escAt s i).isSome]) := by
  refine pc_of 3000 Tryd.func79 rfl Tryd.ntmps79 Tryd.results79 Tryd.call79 (by simp) (by simp [flat, flat.flatL]) (by simp [flat, flat.flatL]) ?_
  simp only [vcS, ↓Xn, ↓Xo, ↓Xg, ↓Xd, ↓Xe, ↓Xf, XQ, XG, gvU, setR, orN, Yl, Xm, Yn, Yi, Xa, Ym, Xc, Xc.sizeIs, reS, Xj, Yb, mmS, Xq, dstS, srcS, XP, XN, XO, Yc, XA, Yg, Xy, XE, endV, gdst, Yk, XR, Yd, goR, XC, sBox, XU, XH, Xr, sNil, XL, Xt, XV, Xv, goD, valD, XI, XF, XB, dNil, XK, XD, dBox, dN, Xz, opL, idxs, pv, XX, Ya, XJ, Xb, Xu, oBin, oUn, Ye, XW, Xw, Xx, Xh, Xk, XY, XS, oLen, lenS, Yh, ev, lk, Vc.put, fits, kd, sz, Tryd.VΓ, Tryd.Γs, bin, binI, binS, ifK, ar, eqB, eqS, eqK, eqK.eqF, negB, bnds, optE, XM, Vc.cells, isV, Vc.one, Xs, getB, setB, XZ, Xp, Xi, Yf, Xl, XT, resS, tupS, ofV, Yj, Nat.reduceAdd, Nat.reduceSub, Nat.reduceLT, Nat.reduceLeDiff, reduceIte, reduceCtorEq, Nat.reduceEqDiff, implies_true, forall_const, lawV]
  unfold escAt
  rw [hexPair_drop]
  refine ⟨⟨by omega, by omega⟩, fun hl => ?_, fun hl => ?_⟩
  · have hl : i + 2 < s.length := (by simp at hl; omega)
    rw [if_pos hl]
    refine ⟨⟨by omega, by omega⟩, ⟨by omega, by omega⟩, ?_⟩
    (refine callV_pc (p_IsHex _) ?_; simp only [vcS, ↓Xn, ↓Xo, ↓Xg, ↓Xd, ↓Xe, ↓Xf, XQ, XG, gvU, setR, orN, Yl, Xm, Yn, Yi, Xa, Ym, Xc, Xc.sizeIs, reS, Xj, Yb, mmS, Xq, dstS, srcS, XP, XN, XO, Yc, XA, Yg, Xy, XE, endV, gdst, Yk, XR, Yd, goR, XC, sBox, XU, XH, Xr, sNil, XL, Xt, XV, Xv, goD, valD, XI, XF, XB, dNil, XK, XD, dBox, dN, Xz, opL, idxs, pv, XX, Ya, XJ, Xb, Xu, oBin, oUn, Ye, XW, Xw, Xx, Xh, Xk, XY, XS, oLen, lenS, Yh, ev, lk, Vc.put, fits, kd, sz, Tryd.VΓ, Tryd.Γs, bin, binI, binS, ifK, ar, eqB, eqS, eqK, eqK.eqF, negB, bnds, optE, XM, Vc.cells, isV, Vc.one, Xs, getB, setB, XZ, Xp, Xi, Yf, Xl, XT, resS, tupS, ofV, Yj, Nat.reduceAdd, Nat.reduceSub, Nat.reduceLT, Nat.reduceLeDiff, reduceIte, reduceCtorEq, Nat.reduceEqDiff, implies_true, forall_const, lawV])
    refine ⟨fun ha => ⟨⟨by omega, by omega⟩, ⟨by omega, by omega⟩, ?_⟩, fun ha => ?_⟩
    · have ha : isHex (s.getD (i + 1) 0) = true := by simpa using ha
      (refine callV_pc (p_IsHex _) ?_; simp only [vcS, ↓Xn, ↓Xo, ↓Xg, ↓Xd, ↓Xe, ↓Xf, XQ, XG, gvU, setR, orN, Yl, Xm, Yn, Yi, Xa, Ym, Xc, Xc.sizeIs, reS, Xj, Yb, mmS, Xq, dstS, srcS, XP, XN, XO, Yc, XA, Yg, Xy, XE, endV, gdst, Yk, XR, Yd, goR, XC, sBox, XU, XH, Xr, sNil, XL, Xt, XV, Xv, goD, valD, XI, XF, XB, dNil, XK, XD, dBox, dN, Xz, opL, idxs, pv, XX, Ya, XJ, Xb, Xu, oBin, oUn, Ye, XW, Xw, Xx, Xh, Xk, XY, XS, oLen, lenS, Yh, ev, lk, Vc.put, fits, kd, sz, Tryd.VΓ, Tryd.Γs, bin, binI, binS, ifK, ar, eqB, eqS, eqK, eqK.eqF, negB, bnds, optE, XM, Vc.cells, isV, Vc.one, Xs, getB, setB, XZ, Xp, Xi, Yf, Xl, XT, resS, tupS, ofV, Yj, Nat.reduceAdd, Nat.reduceSub, Nat.reduceLT, Nat.reduceLeDiff, reduceIte, reduceCtorEq, Nat.reduceEqDiff, implies_true, forall_const, lawV])
      refine ⟨fun hb => ?_, fun hb => ⟨⟨by omega, by omega⟩, ⟨by omega, by omega⟩, ?_⟩⟩
      · have hb : isHex (s.getD (i + 2) 0) = false := by simpa using hb
        rw [ha, hb]; rfl
      · have hb : isHex (s.getD (i + 2) 0) = true := by simpa using hb
        (refine callD_pc (p_digit _ ha) ?_; simp only [vcS, ↓Xn, ↓Xo, ↓Xg, ↓Xd, ↓Xe, ↓Xf, XQ, XG, gvU, setR, orN, Yl, Xm, Yn, Yi, Xa, Ym, Xc, Xc.sizeIs, reS, Xj, Yb, mmS, Xq, dstS, srcS, XP, XN, XO, Yc, XA, Yg, Xy, XE, endV, gdst, Yk, XR, Yd, goR, XC, sBox, XU, XH, Xr, sNil, XL, Xt, XV, Xv, goD, valD, XI, XF, XB, dNil, XK, XD, dBox, dN, Xz, opL, idxs, pv, XX, Ya, XJ, Xb, Xu, oBin, oUn, Ye, XW, Xw, Xx, Xh, Xk, XY, XS, oLen, lenS, Yh, ev, lk, Vc.put, fits, kd, sz, Tryd.VΓ, Tryd.Γs, bin, binI, binS, ifK, ar, eqB, eqS, eqK, eqK.eqF, negB, bnds, optE, XM, Vc.cells, isV, Vc.one, Xs, getB, setB, XZ, Xp, Xi, Yf, Xl, XT, resS, tupS, ofV, Yj, Nat.reduceAdd, Nat.reduceSub, Nat.reduceLT, Nat.reduceLeDiff, reduceIte, reduceCtorEq, Nat.reduceEqDiff, implies_true, forall_const, lawV])
        refine ⟨by omega, ⟨by omega, by omega⟩, ⟨by omega, by omega⟩, ?_⟩
        (refine callD_pc (p_digit _ hb) ?_; simp only [vcS, ↓Xn, ↓Xo, ↓Xg, ↓Xd, ↓Xe, ↓Xf, XQ, XG, gvU, setR, orN, Yl, Xm, Yn, Yi, Xa, Ym, Xc, Xc.sizeIs, reS, Xj, Yb, mmS, Xq, dstS, srcS, XP, XN, XO, Yc, XA, Yg, Xy, XE, endV, gdst, Yk, XR, Yd, goR, XC, sBox, XU, XH, Xr, sNil, XL, Xt, XV, Xv, goD, valD, XI, XF, XB, dNil, XK, XD, dBox, dN, Xz, opL, idxs, pv, XX, Ya, XJ, Xb, Xu, oBin, oUn, Ye, XW, Xw, Xx, Xh, Xk, XY, XS, oLen, lenS, Yh, ev, lk, Vc.put, fits, kd, sz, Tryd.VΓ, Tryd.Γs, bin, binI, binS, ifK, ar, eqB, eqS, eqK, eqK.eqF, negB, bnds, optE, XM, Vc.cells, isV, Vc.one, Xs, getB, setB, XZ, Xp, Xi, Yf, Xl, XT, resS, tupS, ofV, Yj, Nat.reduceAdd, Nat.reduceSub, Nat.reduceLT, Nat.reduceLeDiff, reduceIte, reduceCtorEq, Nat.reduceEqDiff, implies_true, forall_const, lawV])
        refine ⟨(OkD_fast (by kernel_rfl)), ?_⟩
        rw [unhex_bits _ _ ha hb, ha, hb]; rfl
    · have ha : isHex (s.getD (i + 1) 0) = false := by simpa using ha
      rw [ha]; rfl
  · have hl : ¬ i + 2 < s.length := (by simp at hl; omega)
    rw [if_neg hl]; rfl
theorem shr4 (c : UInt8) : shI .shr .u8 (c.toNat : Int) 4 = ((c.toNat / 16 : Nat) : Int) := by
  have := all256 (p := fun c => decide (shI .shr .u8 (c.toNat : Int) 4 = ((c.toNat / 16 : Nat) : Int))) (by decide +kernel) c
  simpa using this
theorem and15 (c : UInt8) : bitI .and .u8 (c.toNat : Int) 15 = ((c.toNat % 16 : Nat) : Int) := by
  have := all256 (p := fun c => decide (bitI .and .u8 (c.toNat : Int) 15 = ((c.toNat % 16 : Nat) : Int))) (by decide +kernel) c
  simpa using this
theorem digs_at : ∀ n, n < 16 → ([48, 49, 50, 51, 52, 53, 54, 55, 56, 57, 65, 66, 67, 68, 69, 70] : Bytes).getD n 0 = hexU n := by decide
theorem esc_cells (c : UInt8) : (esc c).map u8S = [.int .u8 37, .int .u8 ((hexU (c.toNat / 16)).toNat : Int), .int .u8 ((hexU (c.toNat % 16)).toNat : Int)] := rfl
/-- A text in a box: the slice, nil or a row of the call's own behind the first L things. -/
structure TxAt (bs : List Res) (i L : Nat) (x : SV) (l : Bytes) : Prop where
  box : bs[i]? = some (.cells [x] 80 true)
  sl : Sl 5 1 L x bs (l.map u8S) l.length
  lt : i < L
theorem TxAt.ne {bs : List Res} {i L j n : Nat} {l : Bytes} (h : TxAt bs i L (.o j n) l) : i ≠ j := by
  rcases h.sl with ⟨h1, -⟩ | ⟨j', h1, h2, -⟩
  · cases h1
  · cases h1; have := h.lt; omega
set_option maxRecDepth 20000 in
set_option maxHeartbeats 1000000 in
theorem sc_escape {bs : List Res} {i L : Nat} {x : SV} {l : Bytes} (h : TxAt bs i L x l) (hL : L ≤ bs.length) (hl : l.length ≤ 1000000) (c : UInt8) :
    SC Tryd.V 80 [.p i 0, .int .u8 c.toNat] bs (fun r b => r = .tup [] ∧ ∃ x', TxAt b i L x' (l ++ esc c) ∧ bs.length ≤ b.length ∧ ∀ k, k < L → k ≠ i → b[k]? = bs[k]?) := by
  have hil : i < bs.length := (List.getElem?_eq_some_iff.1 h.box).1
  have hc := c.toNat_lt
  have d1 := digs_at (c.toNat / 16) (by omega)
  have d2 := digs_at (c.toNat % 16) (by omega)
  have s1 := shr4 c
  have s2 := and15 c
  have hbox := h.box
  have ec := esc_cells c
  refine sc_of 3000 Tryd.func80 rfl Tryd.ntmps80 Tryd.results80 Tryd.call80 (by simp) (fun β β' hb => concL_within bs.length _ (by simp [within, within.withinL, hil]) β β' hb) ?_
  rcases h.sl with ⟨rfl, hc0, hn0⟩ | ⟨j, rfl, hLj, hj⟩
  · obtain rfl : l = [] := by simpa using hc0
    have ho : ∀ X, (bs ++ [X])[i]? = some (.cells [.nils] 80 true) := fun X => at_old hbox [X]
    have ho2 : ∀ X Y, (bs ++ [X] ++ [Y])[i]? = some (.cells [.nils] 80 true) := fun X Y => at_old (ho X) [Y]
    simp only [vcS, ↓Xn, ↓Xo, ↓Xg, ↓Xd, ↓Xe, ↓Xf, XQ, XG, gvU, setR, orN, Yl, Xm, Yn, Yi, Xa, Ym, Xc, Xc.sizeIs, reS, Xj, Yb, mmS, Xq, dstS, srcS, XP, XN, XO, Yc, XA, Yg, Xy, XE, endV, gdst, Yk, XR, Yd, goR, XC, sBox, XU, XH, Xr, sNil, XL, Xt, XV, Xv, goD, valD, XI, XF, XB, dNil, XK, XD, dBox, dN, Xz, opL, idxs, pv, XX, Ya, XJ, Xb, Xu, oBin, oUn, Ye, XW, Xw, Xx, Xh, Xk, XY, XS, oLen, lenS, Yh, ev, lk, Vc.put, fits, kd, sz, Tryd.VΓ, Tryd.Γs, bin, binI, binS, ifK, ar, eqB, eqS, eqK, eqK.eqF, negB, bnds, optE, XM, Vc.cells, isV, Vc.one, Xs, getB, setB, XZ, Xp, Xi, Yf, Xl, XT, resS, tupS, ofV, Yj, Nat.reduceAdd, Nat.reduceSub, Nat.reduceLT, Nat.reduceLeDiff, reduceIte, reduceCtorEq, Nat.reduceEqDiff, implies_true, forall_const, lawV, hbox, s1, s2, Int.toNat_natCast, d1, d2, at_new, ho, ho2]
    rw [← ec]
    have n1 : ¬ bs.length = i := by omega
    have n2 : ∀ X, ¬ (bs ++ [X]).length = i := fun X => by simp; omega
    refine ⟨by omega, ⟨by omega, by omega⟩, ⟨by omega, by omega⟩, by omega, ⟨by unfold maxLen; omega, by omega⟩, ?_, _, ⟨List.getElem?_set_self (by simp; omega), .inr ⟨_, rfl, by simp; omega, ?_⟩, h.lt⟩, by simp, fun k hk hki => ?_⟩
    · exact (by
      refine OkD_ren (fun n => if n = i then 0 else 1) ?_
      simp only [List.map_cons, List.map_nil, renRk, renT, reduceIte, n1, n2]
      exact OkD_fast (by kernel_rfl))
    · rw [List.getElem?_set_ne (fun e => n2 _ e.symm), at_new]; rfl
    · rw [List.getElem?_set_ne (fun e => hki e.symm), List.getElem?_append_left (by simp; omega), List.getElem?_append_left (by omega)]
  · have hij := h.ne
    have hjl : j < bs.length := (List.getElem?_eq_some_iff.1 hj).1
    have ho : ∀ X, (bs ++ [X])[j]? = some (.own (l.map u8S) 5 1 l.length true) := fun X => at_old hj [X]
    have ho2 : ∀ X Y, ((bs ++ [X]).set j .gone ++ [Y])[i]? = some (.cells [.o j l.length] 80 true) := fun X Y => by
      rw [List.getElem?_append_left (by simp; omega), List.getElem?_set_ne hij.symm]; exact at_old hbox [X]
    simp only [vcS, ↓Xn, ↓Xo, ↓Xg, ↓Xd, ↓Xe, ↓Xf, XQ, XG, gvU, setR, orN, Yl, Xm, Yn, Yi, Xa, Ym, Xc, Xc.sizeIs, reS, Xj, Yb, mmS, Xq, dstS, srcS, XP, XN, XO, Yc, XA, Yg, Xy, XE, endV, gdst, Yk, XR, Yd, goR, XC, sBox, XU, XH, Xr, sNil, XL, Xt, XV, Xv, goD, valD, XI, XF, XB, dNil, XK, XD, dBox, dN, Xz, opL, idxs, pv, XX, Ya, XJ, Xb, Xu, oBin, oUn, Ye, XW, Xw, Xx, Xh, Xk, XY, XS, oLen, lenS, Yh, ev, lk, Vc.put, fits, kd, sz, Tryd.VΓ, Tryd.Γs, bin, binI, binS, ifK, ar, eqB, eqS, eqK, eqK.eqF, negB, bnds, optE, XM, Vc.cells, isV, Vc.one, Xs, getB, setB, XZ, Xp, Xi, Yf, Xl, XT, resS, tupS, ofV, Yj, Nat.reduceAdd, Nat.reduceSub, Nat.reduceLT, Nat.reduceLeDiff, reduceIte, reduceCtorEq, Nat.reduceEqDiff, implies_true, forall_const, lawV, hbox, s1, s2, Int.toNat_natCast, d1, d2, at_new, ho, ho2]
    rw [← ec, ← List.map_append]
    have n1 : ¬ bs.length = i := by omega
    have n2 : ∀ X, ¬ (bs ++ [X]).length = i := fun X => by simp; omega
    have n3 : ¬ j = i := fun e => hij e.symm
    refine ⟨by omega, ⟨by omega, by omega⟩, ⟨by omega, by omega⟩, by omega, ⟨by unfold maxLen; omega, by omega⟩, ?_, _, ⟨List.getElem?_set_self (by simp; omega), .inr ⟨(bs ++ [Res.own ((esc c).map u8S) 5 1 3 true]).length, by simp [esc], by simp; omega, ?_⟩, h.lt⟩, by simp; omega, fun k hk hki => ?_⟩
    · exact (by
      refine OkD_ren (fun n => if n = i then 0 else 1) ?_
      simp only [List.map_cons, List.map_nil, renRk, renT, reduceIte, n1, n2, n3]
      exact OkD_fast (by kernel_rfl))
    · rw [List.getElem?_set_ne (fun e => n2 _ e.symm), List.getElem?_append_right (by simp)]; simp [esc]
    · rw [List.getElem?_set_ne (fun e => hki e.symm), List.getElem?_append_left (by simp; omega), List.getElem?_set_ne (by omega), List.getElem?_append_left (by omega)]
theorem TxAt.app {bs : List Res} {i L : Nat} {x : SV} {l : Bytes} (h : TxAt bs i L x l) (X : List Res) : TxAt (bs ++ X) i L x l := ⟨at_old h.box X, h.sl.app X, h.lt⟩
/-- One byte put behind a text in a box. -/
theorem txt_one {bs : List Res} {i L : Nat} {x : SV} {l : Bytes} (h : TxAt bs i L x l) (hL : L ≤ bs.length) (c : UInt8) (hx : x = .nils) : TxAt ((bs ++ [Res.own [u8S c] 5 1 1 true] ++ [Res.own [u8S c] 5 1 1 true]).set i (Res.cells [.o (bs ++ [Res.own [u8S c] 5 1 1 true]).length 1] 80 true)) i L (.o (bs ++ [Res.own [u8S c] 5 1 1 true]).length 1) (l ++ [c]) := by
  have hil : i < bs.length := (List.getElem?_eq_some_iff.1 h.box).1
  have hl : l = [] := by
    rcases h.sl with ⟨-, h1, -⟩ | ⟨j, h1, -, -⟩
    · simpa using h1
    · rw [hx] at h1; cases h1
  subst hl
  have n2 : ∀ X, ¬ (bs ++ [X]).length = i := fun X => by simp; omega
  refine ⟨List.getElem?_set_self (by simp; omega), .inr ⟨_, rfl, by simp; omega, ?_⟩, h.lt⟩
  rw [List.getElem?_set_ne (fun e => n2 _ e.symm), at_new]
  rfl
theorem txt_more {bs : List Res} {i L j : Nat} {l : Bytes} (h : TxAt bs i L (.o j l.length) l) (hL : L ≤ bs.length) (c : UInt8) (hLj : L ≤ j) : TxAt (((bs ++ [Res.own [u8S c] 5 1 1 true]).set j .gone ++ [Res.own (l.map u8S ++ [u8S c]) 5 1 (l.length + 1) true]).set i (Res.cells [.o (bs ++ [Res.own [u8S c] 5 1 1 true]).length (l.length + 1)] 80 true)) i L (.o (bs ++ [Res.own [u8S c] 5 1 1 true]).length (l.length + 1)) (l ++ [c]) := by
  have hil : i < bs.length := (List.getElem?_eq_some_iff.1 h.box).1
  refine ⟨List.getElem?_set_self (by simp; omega), .inr ⟨(bs ++ [Res.own [u8S c] 5 1 1 true]).length, by simp, by simp; omega, ?_⟩, h.lt⟩
  rw [List.getElem?_set_ne (by simp; omega), List.getElem?_append_right (by simp)]
  simp
def NoI (also s : Bytes) (σ : St) : Prop := ∃ (i : Nat) (x : SV) (d : Bytes), lk 0 σ.t = some (.str s) ∧ lk 1 σ.t = some (.str also) ∧ lk 6 σ.t = some (.p 0 0) ∧ lk 7 σ.t = some (.int .i64 i) ∧ i ≤ s.length ∧ d.length ≤ 3 * i ∧ 1 ≤ σ.b.length ∧ TxAt σ.b 0 1 x d ∧ comb d (normU also (units (s.drop i))) = normU also (units s)
def NoM (s : Bytes) (σ : St) : Nat := match lk 7 σ.t with
  | some (.int _ k) => s.length - k.toNat
  | _ => 0
theorem NoM_eq {s : Bytes} {σ : St} {k : Nat} (h : lk 7 σ.t = some (.int .i64 k)) : NoM s σ = s.length - k := by simp [NoM, h]
theorem no_mk {also s : Bytes} {t : List (Nat × SV)} {b : List Res} {i i' : Nat} {x : SV} {d : Bytes} (h0 : lk 0 t = some (.str s)) (h1 : lk 1 t = some (.str also)) (h6 : lk 6 t = some (.p 0 0)) (h7 : lk 7 t = some (.int .i64 i')) (h : i' ≤ s.length ∧ d.length ≤ 3 * i') (hb : 1 ≤ b.length) (ht : TxAt b 0 1 x d)
    (hn : comb d (normU also (units (s.drop i'))) = normU also (units s)) (hlt : i < i') : NoI also s ⟨t, b⟩ ∧ NoM s ⟨t, b⟩ < s.length - i :=
  ⟨⟨i', x, d, h0, h1, h6, h7, h.1, h.2, hb, ht, hn⟩, by rw [NoM_eq h7]; omega⟩
theorem units_step {s : Bytes} {i : Nat} (hi : i < s.length) : units (s.drop i) = if s[i] = 37 then (match escAt s i with
    | some _ => (match hexPair (s.drop (i + 1)) with
      | some (a, b, _) => .hex a b :: units (s.drop (i + 3))
      | none => [.bad])
    | none => [.bad]) else .lit s[i] :: units (s.drop (i + 1)) := by
  rw [List.drop_eq_getElem_cons hi]
  by_cases h : s[i] = 37
  · rw [if_pos h, h]
    unfold escAt
    cases hp : hexPair (s.drop (i + 1)) with
    | none => simp only [Option.map_none]; exact units_bad hp
    | some x =>
      obtain ⟨a, b, r⟩ := x
      obtain ⟨h1, h2, h3⟩ := hexPair_some hp
      simp only [Option.map_some]
      rw [h1, units_hex h2 h3]
      congr 2
      have := congrArg (List.drop 2) h1
      rw [List.drop_drop] at this
      exact this.symm
  · rw [if_neg h, units_lit h]
set_option maxRecDepth 20000 in
set_option maxHeartbeats 4000000 in
theorem p_Normalize (s also : Bytes) (ha : also.length ≤ 1000) : PC Tryd.V 47 [.str s, .str also] (.tup [.str (pctNorm also s).1, .int .i64 (pctNorm also s).2]) := by
  refine pc_of 3000 Tryd.func47 rfl Tryd.ntmps47 Tryd.results47 Tryd.call47 (by simp) (by simp [flat, flat.flatL]) (by simp [flat, flat.flatL]) ?_
  simp only [vcS, ↓Xn, ↓Xo, ↓Xg, ↓Xd, ↓Xe, ↓Xf, XQ, XG, gvU, setR, orN, Yl, Xm, Yn, Yi, Xa, Ym, Xc, Xc.sizeIs, reS, Xj, Yb, mmS, Xq, dstS, srcS, XP, XN, XO, Yc, XA, Yg, Xy, XE, endV, gdst, Yk, XR, Yd, goR, XC, sBox, XU, XH, Xr, sNil, XL, Xt, XV, Xv, goD, valD, XI, XF, XB, dNil, XK, XD, dBox, dN, Xz, opL, idxs, pv, XX, Ya, XJ, Xb, Xu, oBin, oUn, Ye, XW, Xw, Xx, Xh, Xk, XY, XS, oLen, lenS, Yh, ev, lk, Vc.put, fits, kd, sz, Tryd.VΓ, Tryd.Γs, bin, binI, binS, ifK, ar, eqB, eqS, eqK, eqK.eqF, negB, bnds, optE, XM, Vc.cells, isV, Vc.one, Xs, getB, setB, XZ, Xp, Xi, Yf, Xl, XT, resS, tupS, ofV, Yj, Nat.reduceAdd, Nat.reduceSub, Nat.reduceLT, Nat.reduceLeDiff, reduceIte, reduceCtorEq, Nat.reduceEqDiff, implies_true, forall_const, lawV]
  unfold pctNorm
  refine ⟨fun hl => ?_, fun hl => ?_⟩
  · have hl : 16384 < s.length := (by simp at hl; omega)
    rw [if_pos hl]
  have hl : s.length ≤ 16384 := (by simp at hl; omega)
  rw [if_neg (by omega)]
  refine loopV_mk (NoI also s) (NoM s) ⟨0, .nils, [], rfl, rfl, rfl, rfl, by omega, by simp, by simp, ⟨rfl, .inl ⟨rfl, rfl, rfl⟩, by omega⟩, comb_nil _ (normU_err also _)⟩ ?_
  rintro ⟨t, b⟩ ⟨i, x, d, h0, h1, h6, h7, hi, hd, hbl, ht, hn⟩
  simp only at h0 h1 h6 h7 hbl ht
  rw [NoM_eq h7]
  have hbox := ht.box
  by_cases hlt : i < s.length
  · have hu := units_step hlt
    have hg : s.getD i 0 = s[i] := by simp [List.getD, hlt]
    simp only [vcS, ↓Xn, ↓Xo, ↓Xg, ↓Xd, ↓Xe, ↓Xf, XQ, XG, gvU, setR, orN, Yl, Xm, Yn, Yi, Xa, Ym, Xc, Xc.sizeIs, reS, Xj, Yb, mmS, Xq, dstS, srcS, XP, XN, XO, Yc, XA, Yg, Xy, XE, endV, gdst, Yk, XR, Yd, goR, XC, sBox, XU, XH, Xr, sNil, XL, Xt, XV, Xv, goD, valD, XI, XF, XB, dNil, XK, XD, dBox, dN, Xz, opL, idxs, pv, XX, Ya, XJ, Xb, Xu, oBin, oUn, Ye, XW, Xw, Xx, Xh, Xk, XY, XS, oLen, lenS, Yh, ev, lk, Vc.put, fits, kd, sz, Tryd.VΓ, Tryd.Γs, bin, binI, binS, ifK, ar, eqB, eqS, eqK, eqK.eqF, negB, bnds, optE, XM, Vc.cells, isV, Vc.one, Xs, getB, setB, XZ, Xp, Xi, Yf, Xl, XT, resS, tupS, ofV, Yj, Nat.reduceAdd, Nat.reduceSub, Nat.reduceLT, Nat.reduceLeDiff, reduceIte, reduceCtorEq, Nat.reduceEqDiff, implies_true, forall_const, lawV, h0, h1, h6, h7]
    refine ⟨fun _ => ⟨⟨by omega, by omega⟩, fun hc => ?_, fun hc => ?_⟩, fun h => absurd h (by simp; omega)⟩
    · rw [byte_is (n := 37) hlt 37 rfl] at hc
      rw [if_pos (by simpa using hc)] at hu
      have pe := p_escaped s i hlt (by omega)
      cases he : escAt s i with
      | none =>
        rw [he] at pe hu
        simp only at hu
        rw [hu] at hn
        have hres : normU also (units s) = ([], 2) := by rw [← hn]; rfl
        rw [hres]
        (refine callV_pc pe ?_; simp only [vcS, ↓Xn, ↓Xo, ↓Xg, ↓Xd, ↓Xe, ↓Xf, XQ, XG, gvU, setR, orN, Yl, Xm, Yn, Yi, Xa, Ym, Xc, Xc.sizeIs, reS, Xj, Yb, mmS, Xq, dstS, srcS, XP, XN, XO, Yc, XA, Yg, Xy, XE, endV, gdst, Yk, XR, Yd, goR, XC, sBox, XU, XH, Xr, sNil, XL, Xt, XV, Xv, goD, valD, XI, XF, XB, dNil, XK, XD, dBox, dN, Xz, opL, idxs, pv, XX, Ya, XJ, Xb, Xu, oBin, oUn, Ye, XW, Xw, Xx, Xh, Xk, XY, XS, oLen, lenS, Yh, ev, lk, Vc.put, fits, kd, sz, Tryd.VΓ, Tryd.Γs, bin, binI, binS, ifK, ar, eqB, eqS, eqK, eqK.eqF, negB, bnds, optE, XM, Vc.cells, isV, Vc.one, Xs, getB, setB, XZ, Xp, Xi, Yf, Xl, XT, resS, tupS, ofV, Yj, Nat.reduceAdd, Nat.reduceSub, Nat.reduceLT, Nat.reduceLeDiff, reduceIte, reduceCtorEq, Nat.reduceEqDiff, implies_true, forall_const, lawV, h0, h1, h6, h7, Option.isSome_none])
      | some v =>
        rw [he] at pe hu
        have hx := he
        unfold escAt at hx
        obtain ⟨⟨a, bb, r⟩, hp, hv⟩ := Option.map_eq_some_iff.1 hx
        simp only at hv
        rw [hp] at hu
        simp only at hu
        have hi3 : i + 3 ≤ s.length := by
          obtain ⟨h1, -, -⟩ := hexPair_some hp
          have := congrArg List.length h1
          simp at this
          omega
        have hn2 : comb (d ++ normB v) (normU also (units (s.drop (i + 2 + 1)))) = normU also (units s) := by
          rw [← hn, hu, normU, comb_comb, hv]
        simp only [Option.getD_some, Option.isSome_some] at pe
        (refine callV_pc pe ?_; simp only [vcS, ↓Xn, ↓Xo, ↓Xg, ↓Xd, ↓Xe, ↓Xf, XQ, XG, gvU, setR, orN, Yl, Xm, Yn, Yi, Xa, Ym, Xc, Xc.sizeIs, reS, Xj, Yb, mmS, Xq, dstS, srcS, XP, XN, XO, Yc, XA, Yg, Xy, XE, endV, gdst, Yk, XR, Yd, goR, XC, sBox, XU, XH, Xr, sNil, XL, Xt, XV, Xv, goD, valD, XI, XF, XB, dNil, XK, XD, dBox, dN, Xz, opL, idxs, pv, XX, Ya, XJ, Xb, Xu, oBin, oUn, Ye, XW, Xw, Xx, Xh, Xk, XY, XS, oLen, lenS, Yh, ev, lk, Vc.put, fits, kd, sz, Tryd.VΓ, Tryd.Γs, bin, binI, binS, ifK, ar, eqB, eqS, eqK, eqK.eqF, negB, bnds, optE, XM, Vc.cells, isV, Vc.one, Xs, getB, setB, XZ, Xp, Xi, Yf, Xl, XT, resS, tupS, ofV, Yj, Nat.reduceAdd, Nat.reduceSub, Nat.reduceLT, Nat.reduceLeDiff, reduceIte, reduceCtorEq, Nat.reduceEqDiff, implies_true, forall_const, lawV, h0, h1, h6, h7])
        refine ⟨⟨by omega, by omega⟩, ?_⟩
        (refine callV_pc (p_IsUnreserved v) ?_; simp only [vcS, ↓Xn, ↓Xo, ↓Xg, ↓Xd, ↓Xe, ↓Xf, XQ, XG, gvU, setR, orN, Yl, Xm, Yn, Yi, Xa, Ym, Xc, Xc.sizeIs, reS, Xj, Yb, mmS, Xq, dstS, srcS, XP, XN, XO, Yc, XA, Yg, Xy, XE, endV, gdst, Yk, XR, Yd, goR, XC, sBox, XU, XH, Xr, sNil, XL, Xt, XV, Xv, goD, valD, XI, XF, XB, dNil, XK, XD, dBox, dN, Xz, opL, idxs, pv, XX, Ya, XJ, Xb, Xu, oBin, oUn, Ye, XW, Xw, Xx, Xh, Xk, XY, XS, oLen, lenS, Yh, ev, lk, Vc.put, fits, kd, sz, Tryd.VΓ, Tryd.Γs, bin, binI, binS, ifK, ar, eqB, eqS, eqK, eqK.eqF, negB, bnds, optE, XM, Vc.cells, isV, Vc.one, Xs, getB, setB, XZ, Xp, Xi, Yf, Xl, XT, resS, tupS, ofV, Yj, Nat.reduceAdd, Nat.reduceSub, Nat.reduceLT, Nat.reduceLeDiff, reduceIte, reduceCtorEq, Nat.reduceEqDiff, implies_true, forall_const, lawV, h0, h1, h6, h7])
        refine ⟨fun hq => ?_, fun hq => ?_⟩
        · have hn3 : comb (d ++ [v]) (normU also (units (s.drop (i + 2 + 1)))) = normU also (units s) := by
            rw [← hn2]; unfold normB; rw [if_pos hq]
          (rcases ht.sl with ⟨rfl, hc0, hn0⟩ | ⟨j, rfl, hLj, hj⟩
           · have ho : ∀ X, (b ++ [X])[0]? = some (.cells [.nils] 80 true) := fun X => at_old hbox [X]
             have ho2 : ∀ X Y, (b ++ [X] ++ [Y])[0]? = some (.cells [.nils] 80 true) := fun X Y => at_old (ho X) [Y]
             simp only [vcS, ↓Xn, ↓Xo, ↓Xg, ↓Xd, ↓Xe, ↓Xf, XQ, XG, gvU, setR, orN, Yl, Xm, Yn, Yi, Xa, Ym, Xc, Xc.sizeIs, reS, Xj, Yb, mmS, Xq, dstS, srcS, XP, XN, XO, Yc, XA, Yg, Xy, XE, endV, gdst, Yk, XR, Yd, goR, XC, sBox, XU, XH, Xr, sNil, XL, Xt, XV, Xv, goD, valD, XI, XF, XB, dNil, XK, XD, dBox, dN, Xz, opL, idxs, pv, XX, Ya, XJ, Xb, Xu, oBin, oUn, Ye, XW, Xw, Xx, Xh, Xk, XY, XS, oLen, lenS, Yh, ev, lk, Vc.put, fits, kd, sz, Tryd.VΓ, Tryd.Γs, bin, binI, binS, ifK, ar, eqB, eqS, eqK, eqK.eqF, negB, bnds, optE, XM, Vc.cells, isV, Vc.one, Xs, getB, setB, XZ, Xp, Xi, Yf, Xl, XT, resS, tupS, ofV, Yj, Nat.reduceAdd, Nat.reduceSub, Nat.reduceLT, Nat.reduceLeDiff, reduceIte, reduceCtorEq, Nat.reduceEqDiff, implies_true, forall_const, lawV, h0, h1, h6, h7, hbox, at_new, ho, ho2]
             refine ⟨by omega, ⟨by unfold maxLen; omega, by omega⟩, ⟨by omega, by omega⟩, no_mk (i' := i + 2 + 1) (x := .o (b ++ [Res.own [u8S (v)] 5 1 1 true]).length 1) (d := d ++ [v]) h0 h1 h6 (by simp only [lk, reduceIte, Option.some.injEq, SV.int.injEq, true_and]; omega) ⟨by omega, by simp; omega⟩ (by simp) (txt_one ht hbl (v) rfl) (hn3) (by omega)⟩
           · have hlj : d.length = d.length := rfl
             have ho : ∀ X, (b ++ [X])[j]? = some (.own (d.map u8S) 5 1 d.length true) := fun X => at_old hj [X]
             have ho2 : ∀ X Y, ((b ++ [X]).set j .gone ++ [Y])[0]? = some (.cells [.o j d.length] 80 true) := fun X Y => by
               rw [List.getElem?_append_left (by simp), List.getElem?_set_ne (by omega)]; exact at_old hbox [X]
             simp only [vcS, ↓Xn, ↓Xo, ↓Xg, ↓Xd, ↓Xe, ↓Xf, XQ, XG, gvU, setR, orN, Yl, Xm, Yn, Yi, Xa, Ym, Xc, Xc.sizeIs, reS, Xj, Yb, mmS, Xq, dstS, srcS, XP, XN, XO, Yc, XA, Yg, Xy, XE, endV, gdst, Yk, XR, Yd, goR, XC, sBox, XU, XH, Xr, sNil, XL, Xt, XV, Xv, goD, valD, XI, XF, XB, dNil, XK, XD, dBox, dN, Xz, opL, idxs, pv, XX, Ya, XJ, Xb, Xu, oBin, oUn, Ye, XW, Xw, Xx, Xh, Xk, XY, XS, oLen, lenS, Yh, ev, lk, Vc.put, fits, kd, sz, Tryd.VΓ, Tryd.Γs, bin, binI, binS, ifK, ar, eqB, eqS, eqK, eqK.eqF, negB, bnds, optE, XM, Vc.cells, isV, Vc.one, Xs, getB, setB, XZ, Xp, Xi, Yf, Xl, XT, resS, tupS, ofV, Yj, Nat.reduceAdd, Nat.reduceSub, Nat.reduceLT, Nat.reduceLeDiff, reduceIte, reduceCtorEq, Nat.reduceEqDiff, implies_true, forall_const, lawV, h0, h1, h6, h7, hbox, at_new, ho, ho2]
             refine ⟨by omega, ⟨by unfold maxLen; omega, by omega⟩, ⟨by omega, by omega⟩, no_mk (i' := i + 2 + 1) (x := .o (b ++ [Res.own [u8S (v)] 5 1 1 true]).length (d.length + 1)) (d := d ++ [v]) h0 h1 h6 (by simp only [lk, reduceIte, Option.some.injEq, SV.int.injEq, true_and]; omega) ⟨by omega, by simp; omega⟩ (by simp) (txt_more ht hbl (v) hLj) (hn3) (by omega)⟩)
        · have hn3 : comb (d ++ esc v) (normU also (units (s.drop (i + 2 + 1)))) = normU also (units s) := by
            rw [← hn2]; unfold normB; rw [if_neg (by simp [hq])]
          refine callV_sc (sc_escape ht hbl (by omega) v) ?_
          rintro r b' ⟨rfl, x', ht', hbl', -⟩
          simp only [vcS, ↓Xn, ↓Xo, ↓Xg, ↓Xd, ↓Xe, ↓Xf, XQ, XG, gvU, setR, orN, Yl, Xm, Yn, Yi, Xa, Ym, Xc, Xc.sizeIs, reS, Xj, Yb, mmS, Xq, dstS, srcS, XP, XN, XO, Yc, XA, Yg, Xy, XE, endV, gdst, Yk, XR, Yd, goR, XC, sBox, XU, XH, Xr, sNil, XL, Xt, XV, Xv, goD, valD, XI, XF, XB, dNil, XK, XD, dBox, dN, Xz, opL, idxs, pv, XX, Ya, XJ, Xb, Xu, oBin, oUn, Ye, XW, Xw, Xx, Xh, Xk, XY, XS, oLen, lenS, Yh, ev, lk, Vc.put, fits, kd, sz, Tryd.VΓ, Tryd.Γs, bin, binI, binS, ifK, ar, eqB, eqS, eqK, eqK.eqF, negB, bnds, optE, XM, Vc.cells, isV, Vc.one, Xs, getB, setB, XZ, Xp, Xi, Yf, Xl, XT, resS, tupS, ofV, Yj, Nat.reduceAdd, Nat.reduceSub, Nat.reduceLT, Nat.reduceLeDiff, reduceIte, reduceCtorEq, Nat.reduceEqDiff, implies_true, forall_const, lawV, h0, h1, h6, h7]
          exact ⟨⟨by omega, by omega⟩, no_mk (i' := i + 2 + 1) (d := d ++ esc v) h0 h1 h6 (by simp only [lk, reduceIte, Option.some.injEq, SV.int.injEq, true_and]; omega) ⟨by omega, by simp [esc]; omega⟩ (by omega) ht' hn3 (by omega)⟩
    · rw [byte_is (n := 37) hlt 37 rfl] at hc
      rw [if_neg (by simpa using hc)] at hu
      rw [hu, normU] at hn
      rw [hg]
      have hn2 : keepB also s[i] = true → comb (d ++ [s[i]]) (normU also (units (s.drop (i + 1)))) = normU also (units s) := fun hk => by
        rw [← hn, if_pos hk, comb_comb]
      (refine callV_pc (p_IsUnreserved s[i]) ?_; simp only [vcS, ↓Xn, ↓Xo, ↓Xg, ↓Xd, ↓Xe, ↓Xf, XQ, XG, gvU, setR, orN, Yl, Xm, Yn, Yi, Xa, Ym, Xc, Xc.sizeIs, reS, Xj, Yb, mmS, Xq, dstS, srcS, XP, XN, XO, Yc, XA, Yg, Xy, XE, endV, gdst, Yk, XR, Yd, goR, XC, sBox, XU, XH, Xr, sNil, XL, Xt, XV, Xv, goD, valD, XI, XF, XB, dNil, XK, XD, dBox, dN, Xz, opL, idxs, pv, XX, Ya, XJ, Xb, Xu, oBin, oUn, Ye, XW, Xw, Xx, Xh, Xk, XY, XS, oLen, lenS, Yh, ev, lk, Vc.put, fits, kd, sz, Tryd.VΓ, Tryd.Γs, bin, binI, binS, ifK, ar, eqB, eqS, eqK, eqK.eqF, negB, bnds, optE, XM, Vc.cells, isV, Vc.one, Xs, getB, setB, XZ, Xp, Xi, Yf, Xl, XT, resS, tupS, ofV, Yj, Nat.reduceAdd, Nat.reduceSub, Nat.reduceLT, Nat.reduceLeDiff, reduceIte, reduceCtorEq, Nat.reduceEqDiff, implies_true, forall_const, lawV, h0, h1, h6, h7, hg])
      refine ⟨fun hq => ?_, fun hq => ?_⟩
      · (refine callV_pc (p_IndexByte also s[i]) ?_; simp only [vcS, ↓Xn, ↓Xo, ↓Xg, ↓Xd, ↓Xe, ↓Xf, XQ, XG, gvU, setR, orN, Yl, Xm, Yn, Yi, Xa, Ym, Xc, Xc.sizeIs, reS, Xj, Yb, mmS, Xq, dstS, srcS, XP, XN, XO, Yc, XA, Yg, Xy, XE, endV, gdst, Yk, XR, Yd, goR, XC, sBox, XU, XH, Xr, sNil, XL, Xt, XV, Xv, goD, valD, XI, XF, XB, dNil, XK, XD, dBox, dN, Xz, opL, idxs, pv, XX, Ya, XJ, Xb, Xu, oBin, oUn, Ye, XW, Xw, Xx, Xh, Xk, XY, XS, oLen, lenS, Yh, ev, lk, Vc.put, fits, kd, sz, Tryd.VΓ, Tryd.Γs, bin, binI, binS, ifK, ar, eqB, eqS, eqK, eqK.eqF, negB, bnds, optE, XM, Vc.cells, isV, Vc.one, Xs, getB, setB, XZ, Xp, Xi, Yf, Xl, XT, resS, tupS, ofV, Yj, Nat.reduceAdd, Nat.reduceSub, Nat.reduceLT, Nat.reduceLeDiff, reduceIte, reduceCtorEq, Nat.reduceEqDiff, implies_true, forall_const, lawV, h0, h1, h6, h7, hg])
        rw [idx_geq]
        refine ⟨fun hq2 => ?_, fun hq2 => ?_⟩
        · have hk : keepB also s[i] = true := by unfold keepB; rw [hq2]; simp
          (rcases ht.sl with ⟨rfl, hc0, hn0⟩ | ⟨j, rfl, hLj, hj⟩
           · have ho : ∀ X, (b ++ [X])[0]? = some (.cells [.nils] 80 true) := fun X => at_old hbox [X]
             have ho2 : ∀ X Y, (b ++ [X] ++ [Y])[0]? = some (.cells [.nils] 80 true) := fun X Y => at_old (ho X) [Y]
             simp only [vcS, ↓Xn, ↓Xo, ↓Xg, ↓Xd, ↓Xe, ↓Xf, XQ, XG, gvU, setR, orN, Yl, Xm, Yn, Yi, Xa, Ym, Xc, Xc.sizeIs, reS, Xj, Yb, mmS, Xq, dstS, srcS, XP, XN, XO, Yc, XA, Yg, Xy, XE, endV, gdst, Yk, XR, Yd, goR, XC, sBox, XU, XH, Xr, sNil, XL, Xt, XV, Xv, goD, valD, XI, XF, XB, dNil, XK, XD, dBox, dN, Xz, opL, idxs, pv, XX, Ya, XJ, Xb, Xu, oBin, oUn, Ye, XW, Xw, Xx, Xh, Xk, XY, XS, oLen, lenS, Yh, ev, lk, Vc.put, fits, kd, sz, Tryd.VΓ, Tryd.Γs, bin, binI, binS, ifK, ar, eqB, eqS, eqK, eqK.eqF, negB, bnds, optE, XM, Vc.cells, isV, Vc.one, Xs, getB, setB, XZ, Xp, Xi, Yf, Xl, XT, resS, tupS, ofV, Yj, Nat.reduceAdd, Nat.reduceSub, Nat.reduceLT, Nat.reduceLeDiff, reduceIte, reduceCtorEq, Nat.reduceEqDiff, implies_true, forall_const, lawV, h0, h1, h6, h7, hbox, at_new, ho, ho2]
             refine ⟨by omega, ⟨by unfold maxLen; omega, by omega⟩, ⟨by omega, by omega⟩, no_mk (i' := i + 1) (x := .o (b ++ [Res.own [u8S (s[i])] 5 1 1 true]).length 1) (d := d ++ [s[i]]) h0 h1 h6 (by simp only [lk, reduceIte, Option.some.injEq, SV.int.injEq, true_and]; omega) ⟨by omega, by simp; omega⟩ (by simp) (txt_one ht hbl (s[i]) rfl) (hn2 hk) (by omega)⟩
           · have hlj : d.length = d.length := rfl
             have ho : ∀ X, (b ++ [X])[j]? = some (.own (d.map u8S) 5 1 d.length true) := fun X => at_old hj [X]
             have ho2 : ∀ X Y, ((b ++ [X]).set j .gone ++ [Y])[0]? = some (.cells [.o j d.length] 80 true) := fun X Y => by
               rw [List.getElem?_append_left (by simp), List.getElem?_set_ne (by omega)]; exact at_old hbox [X]
             simp only [vcS, ↓Xn, ↓Xo, ↓Xg, ↓Xd, ↓Xe, ↓Xf, XQ, XG, gvU, setR, orN, Yl, Xm, Yn, Yi, Xa, Ym, Xc, Xc.sizeIs, reS, Xj, Yb, mmS, Xq, dstS, srcS, XP, XN, XO, Yc, XA, Yg, Xy, XE, endV, gdst, Yk, XR, Yd, goR, XC, sBox, XU, XH, Xr, sNil, XL, Xt, XV, Xv, goD, valD, XI, XF, XB, dNil, XK, XD, dBox, dN, Xz, opL, idxs, pv, XX, Ya, XJ, Xb, Xu, oBin, oUn, Ye, XW, Xw, Xx, Xh, Xk, XY, XS, oLen, lenS, Yh, ev, lk, Vc.put, fits, kd, sz, Tryd.VΓ, Tryd.Γs, bin, binI, binS, ifK, ar, eqB, eqS, eqK, eqK.eqF, negB, bnds, optE, XM, Vc.cells, isV, Vc.one, Xs, getB, setB, XZ, Xp, Xi, Yf, Xl, XT, resS, tupS, ofV, Yj, Nat.reduceAdd, Nat.reduceSub, Nat.reduceLT, Nat.reduceLeDiff, reduceIte, reduceCtorEq, Nat.reduceEqDiff, implies_true, forall_const, lawV, h0, h1, h6, h7, hbox, at_new, ho, ho2]
             refine ⟨by omega, ⟨by unfold maxLen; omega, by omega⟩, ⟨by omega, by omega⟩, no_mk (i' := i + 1) (x := .o (b ++ [Res.own [u8S (s[i])] 5 1 1 true]).length (d.length + 1)) (d := d ++ [s[i]]) h0 h1 h6 (by simp only [lk, reduceIte, Option.some.injEq, SV.int.injEq, true_and]; omega) ⟨by omega, by simp; omega⟩ (by simp) (txt_more ht hbl (s[i]) hLj) (hn2 hk) (by omega)⟩)
        · have hk : ¬ keepB also s[i] = true := by unfold keepB; rw [hq, hq2]; simp
          rw [if_neg hk] at hn
          have hres : normU also (units s) = ([], 1) := by rw [← hn]; rfl
          rw [hres]
      · have hk : keepB also s[i] = true := by unfold keepB; rw [hq]; simp
        (rcases ht.sl with ⟨rfl, hc0, hn0⟩ | ⟨j, rfl, hLj, hj⟩
         · have ho : ∀ X, (b ++ [X])[0]? = some (.cells [.nils] 80 true) := fun X => at_old hbox [X]
           have ho2 : ∀ X Y, (b ++ [X] ++ [Y])[0]? = some (.cells [.nils] 80 true) := fun X Y => at_old (ho X) [Y]
           simp only [vcS, ↓Xn, ↓Xo, ↓Xg, ↓Xd, ↓Xe, ↓Xf, XQ, XG, gvU, setR, orN, Yl, Xm, Yn, Yi, Xa, Ym, Xc, Xc.sizeIs, reS, Xj, Yb, mmS, Xq, dstS, srcS, XP, XN, XO, Yc, XA, Yg, Xy, XE, endV, gdst, Yk, XR, Yd, goR, XC, sBox, XU, XH, Xr, sNil, XL, Xt, XV, Xv, goD, valD, XI, XF, XB, dNil, XK, XD, dBox, dN, Xz, opL, idxs, pv, XX, Ya, XJ, Xb, Xu, oBin, oUn, Ye, XW, Xw, Xx, Xh, Xk, XY, XS, oLen, lenS, Yh, ev, lk, Vc.put, fits, kd, sz, Tryd.VΓ, Tryd.Γs, bin, binI, binS, ifK, ar, eqB, eqS, eqK, eqK.eqF, negB, bnds, optE, XM, Vc.cells, isV, Vc.one, Xs, getB, setB, XZ, Xp, Xi, Yf, Xl, XT, resS, tupS, ofV, Yj, Nat.reduceAdd, Nat.reduceSub, Nat.reduceLT, Nat.reduceLeDiff, reduceIte, reduceCtorEq, Nat.reduceEqDiff, implies_true, forall_const, lawV, h0, h1, h6, h7, hbox, at_new, ho, ho2]
           refine ⟨by omega, ⟨by unfold maxLen; omega, by omega⟩, ⟨by omega, by omega⟩, no_mk (i' := i + 1) (x := .o (b ++ [Res.own [u8S (s[i])] 5 1 1 true]).length 1) (d := d ++ [s[i]]) h0 h1 h6 (by simp only [lk, reduceIte, Option.some.injEq, SV.int.injEq, true_and]; omega) ⟨by omega, by simp; omega⟩ (by simp) (txt_one ht hbl (s[i]) rfl) (hn2 hk) (by omega)⟩
         · have hlj : d.length = d.length := rfl
           have ho : ∀ X, (b ++ [X])[j]? = some (.own (d.map u8S) 5 1 d.length true) := fun X => at_old hj [X]
           have ho2 : ∀ X Y, ((b ++ [X]).set j .gone ++ [Y])[0]? = some (.cells [.o j d.length] 80 true) := fun X Y => by
             rw [List.getElem?_append_left (by simp), List.getElem?_set_ne (by omega)]; exact at_old hbox [X]
           simp only [vcS, ↓Xn, ↓Xo, ↓Xg, ↓Xd, ↓Xe, ↓Xf, XQ, XG, gvU, setR, orN, Yl, Xm, Yn, Yi, Xa, Ym, Xc, Xc.sizeIs, reS, Xj, Yb, mmS, Xq, dstS, srcS, XP, XN, XO, Yc, XA, Yg, Xy, XE, endV, gdst, Yk, XR, Yd, goR, XC, sBox, XU, XH, Xr, sNil, XL, Xt, XV, Xv, goD, valD, XI, XF, XB, dNil, XK, XD, dBox, dN, Xz, opL, idxs, pv, XX, Ya, XJ, Xb, Xu, oBin, oUn, Ye, XW, Xw, Xx, Xh, Xk, XY, XS, oLen, lenS, Yh, ev, lk, Vc.put, fits, kd, sz, Tryd.VΓ, Tryd.Γs, bin, binI, binS, ifK, ar, eqB, eqS, eqK, eqK.eqF, negB, bnds, optE, XM, Vc.cells, isV, Vc.one, Xs, getB, setB, XZ, Xp, Xi, Yf, Xl, XT, resS, tupS, ofV, Yj, Nat.reduceAdd, Nat.reduceSub, Nat.reduceLT, Nat.reduceLeDiff, reduceIte, reduceCtorEq, Nat.reduceEqDiff, implies_true, forall_const, lawV, h0, h1, h6, h7, hbox, at_new, ho, ho2]
           refine ⟨by omega, ⟨by unfold maxLen; omega, by omega⟩, ⟨by omega, by omega⟩, no_mk (i' := i + 1) (x := .o (b ++ [Res.own [u8S (s[i])] 5 1 1 true]).length (d.length + 1)) (d := d ++ [s[i]]) h0 h1 h6 (by simp only [lk, reduceIte, Option.some.injEq, SV.int.injEq, true_and]; omega) ⟨by omega, by simp; omega⟩ (by simp) (txt_more ht hbl (s[i]) hLj) (hn2 hk) (by omega)⟩)
  · have hie : i = s.length := by omega
    subst hie
    rw [List.drop_length, units_nil] at hn
    have hres : normU also (units s) = (d, 0) := by rw [← hn]; simp [normU, comb]
    rw [hres]
    rcases ht.sl with ⟨rfl, hc0, hn0⟩ | ⟨j, rfl, hLj, hj⟩
    · obtain rfl : d = [] := by simpa using hc0
      simp only [vcS, ↓Xn, ↓Xo, ↓Xg, ↓Xd, ↓Xe, ↓Xf, XQ, XG, gvU, setR, orN, Yl, Xm, Yn, Yi, Xa, Ym, Xc, Xc.sizeIs, reS, Xj, Yb, mmS, Xq, dstS, srcS, XP, XN, XO, Yc, XA, Yg, Xy, XE, endV, gdst, Yk, XR, Yd, goR, XC, sBox, XU, XH, Xr, sNil, XL, Xt, XV, Xv, goD, valD, XI, XF, XB, dNil, XK, XD, dBox, dN, Xz, opL, idxs, pv, XX, Ya, XJ, Xb, Xu, oBin, oUn, Ye, XW, Xw, Xx, Xh, Xk, XY, XS, oLen, lenS, Yh, ev, lk, Vc.put, fits, kd, sz, Tryd.VΓ, Tryd.Γs, bin, binI, binS, ifK, ar, eqB, eqS, eqK, eqK.eqF, negB, bnds, optE, XM, Vc.cells, isV, Vc.one, Xs, getB, setB, XZ, Xp, Xi, Yf, Xl, XT, resS, tupS, ofV, Yj, Nat.reduceAdd, Nat.reduceSub, Nat.reduceLT, Nat.reduceLeDiff, reduceIte, reduceCtorEq, Nat.reduceEqDiff, implies_true, forall_const, lawV, h0, h1, h6, h7, hbox]
      exact fun h => (by simp at h)
    · simp only [vcS, ↓Xn, ↓Xo, ↓Xg, ↓Xd, ↓Xe, ↓Xf, XQ, XG, gvU, setR, orN, Yl, Xm, Yn, Yi, Xa, Ym, Xc, Xc.sizeIs, reS, Xj, Yb, mmS, Xq, dstS, srcS, XP, XN, XO, Yc, XA, Yg, Xy, XE, endV, gdst, Yk, XR, Yd, goR, XC, sBox, XU, XH, Xr, sNil, XL, Xt, XV, Xv, goD, valD, XI, XF, XB, dNil, XK, XD, dBox, dN, Xz, opL, idxs, pv, XX, Ya, XJ, Xb, Xu, oBin, oUn, Ye, XW, Xw, Xx, Xh, Xk, XY, XS, oLen, lenS, Yh, ev, lk, Vc.put, fits, kd, sz, Tryd.VΓ, Tryd.Γs, bin, binI, binS, ifK, ar, eqB, eqS, eqK, eqK.eqF, negB, bnds, optE, XM, Vc.cells, isV, Vc.one, Xs, getB, setB, XZ, Xp, Xi, Yf, Xl, XT, resS, tupS, ofV, Yj, Nat.reduceAdd, Nat.reduceSub, Nat.reduceLT, Nat.reduceLeDiff, reduceIte, reduceCtorEq, Nat.reduceEqDiff, implies_true, forall_const, lawV, h0, h1, h6, h7, hbox, hj]
      refine ⟨fun h => absurd h (by simp), fun _ => ⟨isU8_map d, ?_⟩⟩
      rw [unU8_map]
end Go.Proofs.YtnncgbamppaacaaDoor
