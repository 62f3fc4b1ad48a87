/- The walks of the references 01 and 06. -/
import Derived.Test.YtnncgbamppaacaaDoorUriW2
set_option linter.all false
set_option maxRecDepth 20000
namespace Go.Proofs.YtnncgbamppaacaaDoor
open Go Vc Go.RowKit Wf
set_option linter.unusedSimpArgs false
def lkI (i : Nat) (σ : St) : Nat := match lk i σ.t with
  | some (.int _ n) => n.toNat
  | _ => 0
theorem lkI_eq {i : Nat} {σ : St} {k : IntKind} {n : Int} (h : lk i σ.t = some (.int k n)) : lkI i σ = n.toNat := by simp [lkI, h]
theorem pre_hit {p : UInt8 → Bool} {s : Bytes} {k : Nat} (hk : k < s.length) (h : k ≤ pre p s) (hp : p s[k] = true) : pre p s = k := by
  rcases Nat.lt_or_ge k (pre p s) with h1 | h1
  · rw [pre_get h1 hk] at hp; cases hp
  · omega
theorem pre_miss {p : UInt8 → Bool} {s : Bytes} {k : Nat} (hk : k < s.length) (h : k ≤ pre p s) (hp : p s[k] = false) : k + 1 ≤ pre p s := by
  rcases Nat.lt_or_ge k (pre p s) with h1 | h1
  · exact h1
  · have e : pre p s = k := by omega
    have h2 := pre_at (p := p) (l := s) (by omega)
    simp only [e] at h2
    rw [hp] at h2; cases h2
theorem p_r1_In (c : UInt8) (set : Bytes) (ht : set.length ≤ 4294967281) : PC Tryd.V 50 [.int .u8 c.toNat, .str set] (.bool (set.contains c)) := by
  refine pc_of 3000 Tryd.func50 rfl Tryd.ntmps50 Tryd.results50 Tryd.call50 (by simp) (by simp [flat, flat.flatL]) (by simp [flat, flat.flatL]) ?_
  simp only [vcS, ↓Xn, ↓Xo, ↓Xg, ↓Xd, ↓Xe, ↓Xf, XQ, XG, gvU, setR, orN, Yl, Xm, Yn, Yi, Xa, Ym, Xc, Xc.sizeIs, reS, Xj, Yb, mmS, Xq, dstS, srcS, XP, XN, XO, Yc, XA, Yg, Xy, XE, endV, gdst, Yk, XR, Yd, goR, XC, sBox, XU, XH, Xr, sNil, XL, Xt, XV, Xv, goD, valD, XI, XF, XB, dNil, XK, XD, dBox, dN, Xz, opL, idxs, pv, XX, Ya, XJ, Xb, Xu, oBin, oUn, Ye, XW, Xw, Xx, Xh, Xk, XY, XS, oLen, lenS, Yh, ev, lk, Vc.put, fits, kd, sz, Tryd.VΓ, Tryd.Γs, bin, binI, binS, ifK, ar, eqB, eqS, eqK, eqK.eqF, negB, bnds, optE, XM, Vc.cells, isV, Vc.one, Xs, getB, setB, XZ, Xp, Xi, Yf, Xl, XT, resS, tupS, ofV, Yj, Nat.reduceAdd, Nat.reduceSub, Nat.reduceLT, Nat.reduceLeDiff, reduceIte, reduceCtorEq, Nat.reduceEqDiff, implies_true, forall_const, lawV]
  refine loopV_mk (fun σ => ∃ k : Nat, k ≤ set.length ∧ (set.take k).contains c = false ∧ lk 0 σ.t = some (.int .u8 c.toNat) ∧ lk 1 σ.t = some (.str set) ∧ lk 4 σ.t = some (.bool false) ∧ lk 5 σ.t = some (.int .i64 k)) (fun σ => set.length - lkI 5 σ) ⟨0, by omega, rfl, rfl, rfl, rfl, rfl⟩ ?_
  rintro ⟨t, b⟩ ⟨k, hk, hc, h0, h1, h4, h5⟩
  simp only at h0 h1 h4 h5
  rw [lkI_eq h5]
  simp only [vcS, ↓Xn, ↓Xo, ↓Xg, ↓Xd, ↓Xe, ↓Xf, XQ, XG, gvU, setR, orN, Yl, Xm, Yn, Yi, Xa, Ym, Xc, Xc.sizeIs, reS, Xj, Yb, mmS, Xq, dstS, srcS, XP, XN, XO, Yc, XA, Yg, Xy, XE, endV, gdst, Yk, XR, Yd, goR, XC, sBox, XU, XH, Xr, sNil, XL, Xt, XV, Xv, goD, valD, XI, XF, XB, dNil, XK, XD, dBox, dN, Xz, opL, idxs, pv, XX, Ya, XJ, Xb, Xu, oBin, oUn, Ye, XW, Xw, Xx, Xh, Xk, XY, XS, oLen, lenS, Yh, ev, lk, Vc.put, fits, kd, sz, Tryd.VΓ, Tryd.Γs, bin, binI, binS, ifK, ar, eqB, eqS, eqK, eqK.eqF, negB, bnds, optE, XM, Vc.cells, isV, Vc.one, Xs, getB, setB, XZ, Xp, Xi, Yf, Xl, XT, resS, tupS, ofV, Yj, Nat.reduceAdd, Nat.reduceSub, Nat.reduceLT, Nat.reduceLeDiff, reduceIte, reduceCtorEq, Nat.reduceEqDiff, implies_true, forall_const, lawV, h0, h1, h4, h5]
  refine ⟨fun h => ?_, fun h => ?_⟩
  · have hk' : k < set.length := by simpa using h
    rw [byte_is (n := c.toNat) hk' c rfl]
    refine ⟨by omega, fun e => ?_, fun e => ⟨by omega, ⟨k + 1, by omega, ?_, by simp⟩, by rw [lkI_eq rfl]; omega⟩⟩
    · rw [show set.contains c = true from List.contains_iff_mem.2 (by rw [← beq_iff_eq.1 e]; exact List.getElem_mem hk')]
    · apply Bool.eq_false_iff.2
      intro hh
      rw [List.contains_iff_mem, List.take_succ_eq_append_getElem hk', List.mem_append] at hh
      rcases hh with hh | hh
      · exact absurd (List.contains_iff_mem.2 hh) (by rw [hc]; simp)
      · have hh := List.mem_singleton.1 hh
        rw [← hh] at e
        simp at e
  · have : k = set.length := by simp at h; omega
    subst this
    rw [List.take_length] at hc
    rw [hc]
theorem p_r1_Prefix (s p : Bytes) : PC Tryd.V 41 [.str s, .str p] (.bool (Lib.hasPrefix s p)) := by
  refine pc_of 3000 Tryd.func41 rfl Tryd.ntmps41 Tryd.results41 Tryd.call41 (by simp) (by simp [flat, flat.flatL]) (by simp [flat, flat.flatL]) ?_
  simp only [vcS, ↓Xn, ↓Xo, ↓Xg, ↓Xd, ↓Xe, ↓Xf, XQ, XG, gvU, setR, orN, Yl, Xm, Yn, Yi, Xa, Ym, Xc, Xc.sizeIs, reS, Xj, Yb, mmS, Xq, dstS, srcS, XP, XN, XO, Yc, XA, Yg, Xy, XE, endV, gdst, Yk, XR, Yd, goR, XC, sBox, XU, XH, Xr, sNil, XL, Xt, XV, Xv, goD, valD, XI, XF, XB, dNil, XK, XD, dBox, dN, Xz, opL, idxs, pv, XX, Ya, XJ, Xb, Xu, oBin, oUn, Ye, XW, Xw, Xx, Xh, Xk, XY, XS, oLen, lenS, Yh, ev, lk, Vc.put, fits, kd, sz, Tryd.VΓ, Tryd.Γs, bin, binI, binS, ifK, ar, eqB, eqS, eqK, eqK.eqF, negB, bnds, optE, XM, Vc.cells, isV, Vc.one, Xs, getB, setB, XZ, Xp, Xi, Yf, Xl, XT, resS, tupS, ofV, Yj, Nat.reduceAdd, Nat.reduceSub, Nat.reduceLT, Nat.reduceLeDiff, reduceIte, reduceCtorEq, Nat.reduceEqDiff, implies_true, forall_const, lawV]
  have e : Lib.hasPrefix s p = (s.take p.length == p) := by
    rw [Bool.eq_iff_iff, Lib.hasPrefix, List.isPrefixOf_iff_prefix, List.prefix_iff_eq_take, beq_iff_eq]
    exact eq_comm
  refine ⟨fun h => ⟨by simp at h; omega, by rw [e]⟩, fun h => ?_⟩
  rw [e, show (s.take p.length == p) = false from beq_eq_false_iff_ne.2 fun q => by
    have := congrArg List.length q
    simp at h this
    omega]
set_option maxHeartbeats 2000000 in
theorem p_r1_Index (s set : Bytes) (hs : s.length ≤ 4294967281) (ht : set.length ≤ 4294967281) : PC Tryd.V 28 [.str s, .str set] (.int .i64 (pre (set.contains ·) s)) := by
  refine pc_of 3000 Tryd.func28 rfl Tryd.ntmps28 Tryd.results28 Tryd.call28 (by simp) (by simp [flat, flat.flatL]) (by simp [flat, flat.flatL]) ?_
  simp only [vcS, ↓Xn, ↓Xo, ↓Xg, ↓Xd, ↓Xe, ↓Xf, XQ, XG, gvU, setR, orN, Yl, Xm, Yn, Yi, Xa, Ym, Xc, Xc.sizeIs, reS, Xj, Yb, mmS, Xq, dstS, srcS, XP, XN, XO, Yc, XA, Yg, Xy, XE, endV, gdst, Yk, XR, Yd, goR, XC, sBox, XU, XH, Xr, sNil, XL, Xt, XV, Xv, goD, valD, XI, XF, XB, dNil, XK, XD, dBox, dN, Xz, opL, idxs, pv, XX, Ya, XJ, Xb, Xu, oBin, oUn, Ye, XW, Xw, Xx, Xh, Xk, XY, XS, oLen, lenS, Yh, ev, lk, Vc.put, fits, kd, sz, Tryd.VΓ, Tryd.Γs, bin, binI, binS, ifK, ar, eqB, eqS, eqK, eqK.eqF, negB, bnds, optE, XM, Vc.cells, isV, Vc.one, Xs, getB, setB, XZ, Xp, Xi, Yf, Xl, XT, resS, tupS, ofV, Yj, Nat.reduceAdd, Nat.reduceSub, Nat.reduceLT, Nat.reduceLeDiff, reduceIte, reduceCtorEq, Nat.reduceEqDiff, implies_true, forall_const, lawV]
  refine loopV_mk (fun σ => ∃ k : Nat, k ≤ s.length ∧ k ≤ pre (set.contains ·) s ∧ lk 0 σ.t = some (.str s) ∧ lk 1 σ.t = some (.str set) ∧ lk 5 σ.t = some (.int .i64 k)) (fun σ => s.length - lkI 5 σ) ⟨0, by omega, by omega, rfl, rfl, rfl⟩ ?_
  rintro ⟨t, b⟩ ⟨k, hk, hc, h0, h1, h5⟩
  simp only at h0 h1 h5
  rw [lkI_eq h5]
  simp only [vcS, ↓Xn, ↓Xo, ↓Xg, ↓Xd, ↓Xe, ↓Xf, XQ, XG, gvU, setR, orN, Yl, Xm, Yn, Yi, Xa, Ym, Xc, Xc.sizeIs, reS, Xj, Yb, mmS, Xq, dstS, srcS, XP, XN, XO, Yc, XA, Yg, Xy, XE, endV, gdst, Yk, XR, Yd, goR, XC, sBox, XU, XH, Xr, sNil, XL, Xt, XV, Xv, goD, valD, XI, XF, XB, dNil, XK, XD, dBox, dN, Xz, opL, idxs, pv, XX, Ya, XJ, Xb, Xu, oBin, oUn, Ye, XW, Xw, Xx, Xh, Xk, XY, XS, oLen, lenS, Yh, ev, lk, Vc.put, fits, kd, sz, Tryd.VΓ, Tryd.Γs, bin, binI, binS, ifK, ar, eqB, eqS, eqK, eqK.eqF, negB, bnds, optE, XM, Vc.cells, isV, Vc.one, Xs, getB, setB, XZ, Xp, Xi, Yf, Xl, XT, resS, tupS, ofV, Yj, Nat.reduceAdd, Nat.reduceSub, Nat.reduceLT, Nat.reduceLeDiff, reduceIte, reduceCtorEq, Nat.reduceEqDiff, implies_true, forall_const, lawV, h0, h1, h5]
  have hpl := pre_le (set.contains ·) s
  refine ⟨fun h => ?_, fun h => ?_⟩
  · have hk' : k < s.length := by simpa using h
    have hin := p_r1_In (s.getD k 0) set ht
    refine ⟨by omega, ?_⟩
    (refine callV_pc (hin) ?_; simp only [vcS, ↓Xn, ↓Xo, ↓Xg, ↓Xd, ↓Xe, ↓Xf, XQ, XG, gvU, setR, orN, Yl, Xm, Yn, Yi, Xa, Ym, Xc, Xc.sizeIs, reS, Xj, Yb, mmS, Xq, dstS, srcS, XP, XN, XO, Yc, XA, Yg, Xy, XE, endV, gdst, Yk, XR, Yd, goR, XC, sBox, XU, XH, Xr, sNil, XL, Xt, XV, Xv, goD, valD, XI, XF, XB, dNil, XK, XD, dBox, dN, Xz, opL, idxs, pv, XX, Ya, XJ, Xb, Xu, oBin, oUn, Ye, XW, Xw, Xx, Xh, Xk, XY, XS, oLen, lenS, Yh, ev, lk, Vc.put, fits, kd, sz, Tryd.VΓ, Tryd.Γs, bin, binI, binS, ifK, ar, eqB, eqS, eqK, eqK.eqF, negB, bnds, optE, XM, Vc.cells, isV, Vc.one, Xs, getB, setB, XZ, Xp, Xi, Yf, Xl, XT, resS, tupS, ofV, Yj, Nat.reduceAdd, Nat.reduceSub, Nat.reduceLT, Nat.reduceLeDiff, reduceIte, reduceCtorEq, Nat.reduceEqDiff, implies_true, forall_const, lawV, h0, h1, h5])
    rw [show s.getD k 0 = s[k] by simp [List.getD, hk']]
    refine ⟨fun e => ?_, fun e => ⟨by omega, ⟨k + 1, by omega, pre_miss hk' hc e, by simp⟩, by rw [lkI_eq rfl]; omega⟩⟩
    rw [pre_hit hk' hc e]
  · have : k = s.length := by simp at h; omega
    rw [show pre (set.contains ·) s = s.length by omega]
end Go.Proofs.YtnncgbamppaacaaDoor
