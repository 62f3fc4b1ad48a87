/- The walks of reference 06: scheme, Split, merged, Resolve. -/
import Derived.Test.YtnpkjglcbolcbaaGreatDoorRefUri
set_option linter.all false
set_option maxRecDepth 20000
namespace Go.Proofs.YtnpkjglcbolcbaaGreatDoor
open Go Vc Go.RowKit Wf
set_option linter.unusedSimpArgs false
theorem p_r1_IsAlpha (c : UInt8) : PC Tryz.V 138 [.int .u8 c.toNat] (.bool (isAlpha c)) := by
  refine pc_of 3000 Tryz.func138 rfl Tryz.ntmps138 Tryz.results138 Tryz.call138 (by simp) (by simp [flat, flat.flatL]) (by simp [flat, flat.flatL]) ?_
  simp only [vcS, ↓Xn, ↓Xo, ↓Xg, ↓Xd, ↓Xe, ↓Xf, XQ, XG, gvU, setR, orN, Yl, Xm, Yn, Yi, Xa, Ym, Xc, Xc.sizeIs, reS, Xj, Yb, mmS, Xq, dstS, srcS, XP, XN, XO, Yc, XA, Yg, Xy, XE, endV, gdst, Yk, XR, Yd, goR, XC, sBox, XU, XH, Xr, sNil, XL, Xt, XV, Xv, goD, valD, XI, XF, XB, dNil, XK, XD, dBox, dN, Xz, opL, idxs, pv, XX, Ya, XJ, Xb, Xu, oBin, oUn, Ye, XW, Xw, Xx, Xh, Xk, XY, XS, oLen, lenS, Yh, ev, lk, Vc.put, fits, kd, sz, Tryz.VΓ, Tryz.Γs, bin, binI, binS, ifK, ar, eqB, eqS, eqK, eqK.eqF, negB, bnds, optE, XM, Vc.cells, isV, Vc.one, Xs, getB, setB, XZ, Xp, Xi, Yf, Xl, XT, resS, tupS, ofV, Yj, Nat.reduceAdd, Nat.reduceSub, Nat.reduceLT, Nat.reduceLeDiff, reduceIte, reduceCtorEq, Nat.reduceEqDiff, implies_true, forall_const, lawV]
  unfold isAlpha
  by_cases h1 : 65 ≤ c.toNat <;> by_cases h2 : c.toNat ≤ 90 <;> by_cases h3 : 97 ≤ c.toNat <;> by_cases h4 : c.toNat ≤ 122 <;> simp [h1, h2, h3, h4] <;> omega
theorem p_r1_IsDigit (c : UInt8) : PC Tryz.V 137 [.int .u8 c.toNat] (.bool (isDigit c)) := by
  refine pc_of 3000 Tryz.func137 rfl Tryz.ntmps137 Tryz.results137 Tryz.call137 (by simp) (by simp [flat, flat.flatL]) (by simp [flat, flat.flatL]) ?_
  simp only [vcS, ↓Xn, ↓Xo, ↓Xg, ↓Xd, ↓Xe, ↓Xf, XQ, XG, gvU, setR, orN, Yl, Xm, Yn, Yi, Xa, Ym, Xc, Xc.sizeIs, reS, Xj, Yb, mmS, Xq, dstS, srcS, XP, XN, XO, Yc, XA, Yg, Xy, XE, endV, gdst, Yk, XR, Yd, goR, XC, sBox, XU, XH, Xr, sNil, XL, Xt, XV, Xv, goD, valD, XI, XF, XB, dNil, XK, XD, dBox, dN, Xz, opL, idxs, pv, XX, Ya, XJ, Xb, Xu, oBin, oUn, Ye, XW, Xw, Xx, Xh, Xk, XY, XS, oLen, lenS, Yh, ev, lk, Vc.put, fits, kd, sz, Tryz.VΓ, Tryz.Γs, bin, binI, binS, ifK, ar, eqB, eqS, eqK, eqK.eqF, negB, bnds, optE, XM, Vc.cells, isV, Vc.one, Xs, getB, setB, XZ, Xp, Xi, Yf, Xl, XT, resS, tupS, ofV, Yj, Nat.reduceAdd, Nat.reduceSub, Nat.reduceLT, Nat.reduceLeDiff, reduceIte, reduceCtorEq, Nat.reduceEqDiff, implies_true, forall_const, lawV]
  unfold isDigit
  by_cases h1 : 48 ≤ c.toNat <;> by_cases h2 : c.toNat ≤ 57 <;> simp [h1, h2] <;> omega
theorem scheme_step {s : Bytes} {k : Nat} (hk : k < s.length) (hr : k = 0 ∨ schemeOk (s.take k) = true) (hc : isAlpha s[k] = true ∨ (0 < k ∧ schemeC s[k] = true)) : k + 1 = 0 ∨ schemeOk (s.take (k + 1)) = true := by
  right
  rcases Nat.eq_zero_or_pos k with h0 | h0
  · subst h0
    rcases hc with hc | ⟨hc, -⟩
    · exact scheme_one hk hc
    · omega
  · refine scheme_snoc h0 hk (hr.resolve_left (by omega)) ?_
    rcases hc with hc | ⟨-, hc⟩
    · simp [schemeC, hc]
    · exact hc
theorem not_t {b : Bool} (h : (!b) = true) : b = false := by cases b <;> simp at h ⊢
theorem not_f {b : Bool} (h : (!b) = false) : b = true := by cases b <;> simp at h ⊢
set_option maxHeartbeats 2000000 in
theorem p_r6_scheme (s : Bytes) (hs : s.length ≤ 4294967281) : PC Tryz.V 124 [.str s] (.bool (schemeOk s)) := by
  refine pc_of 3000 Tryz.func124 rfl Tryz.ntmps124 Tryz.results124 Tryz.call124 (by simp) (by simp [flat, flat.flatL]) (by simp [flat, flat.flatL]) ?_
  simp only [vcS, ↓Xn, ↓Xo, ↓Xg, ↓Xd, ↓Xe, ↓Xf, XQ, XG, gvU, setR, orN, Yl, Xm, Yn, Yi, Xa, Ym, Xc, Xc.sizeIs, reS, Xj, Yb, mmS, Xq, dstS, srcS, XP, XN, XO, Yc, XA, Yg, Xy, XE, endV, gdst, Yk, XR, Yd, goR, XC, sBox, XU, XH, Xr, sNil, XL, Xt, XV, Xv, goD, valD, XI, XF, XB, dNil, XK, XD, dBox, dN, Xz, opL, idxs, pv, XX, Ya, XJ, Xb, Xu, oBin, oUn, Ye, XW, Xw, Xx, Xh, Xk, XY, XS, oLen, lenS, Yh, ev, lk, Vc.put, fits, kd, sz, Tryz.VΓ, Tryz.Γs, bin, binI, binS, ifK, ar, eqB, eqS, eqK, eqK.eqF, negB, bnds, optE, XM, Vc.cells, isV, Vc.one, Xs, getB, setB, XZ, Xp, Xi, Yf, Xl, XT, resS, tupS, ofV, Yj, Nat.reduceAdd, Nat.reduceSub, Nat.reduceLT, Nat.reduceLeDiff, reduceIte, reduceCtorEq, Nat.reduceEqDiff, implies_true, forall_const, lawV]
  refine loopV_mk (fun σ => ∃ k : Nat, k ≤ s.length ∧ (k = 0 ∨ schemeOk (s.take k) = true) ∧ lk 0 σ.t = some (.str s) ∧ lk 3 σ.t = some (.int .i64 k)) (fun σ => s.length - lkI 3 σ) ⟨0, by omega, .inl rfl, rfl, rfl⟩ ?_
  rintro ⟨t, b⟩ ⟨k, hk, hr, h0, h3⟩
  simp only at h0 h3
  rw [lkI_eq h3]
  simp only [vcS, ↓Xn, ↓Xo, ↓Xg, ↓Xd, ↓Xe, ↓Xf, XQ, XG, gvU, setR, orN, Yl, Xm, Yn, Yi, Xa, Ym, Xc, Xc.sizeIs, reS, Xj, Yb, mmS, Xq, dstS, srcS, XP, XN, XO, Yc, XA, Yg, Xy, XE, endV, gdst, Yk, XR, Yd, goR, XC, sBox, XU, XH, Xr, sNil, XL, Xt, XV, Xv, goD, valD, XI, XF, XB, dNil, XK, XD, dBox, dN, Xz, opL, idxs, pv, XX, Ya, XJ, Xb, Xu, oBin, oUn, Ye, XW, Xw, Xx, Xh, Xk, XY, XS, oLen, lenS, Yh, ev, lk, Vc.put, fits, kd, sz, Tryz.VΓ, Tryz.Γs, bin, binI, binS, ifK, ar, eqB, eqS, eqK, eqK.eqF, negB, bnds, optE, XM, Vc.cells, isV, Vc.one, Xs, getB, setB, XZ, Xp, Xi, Yf, Xl, XT, resS, tupS, ofV, Yj, Nat.reduceAdd, Nat.reduceSub, Nat.reduceLT, Nat.reduceLeDiff, reduceIte, reduceCtorEq, Nat.reduceEqDiff, implies_true, forall_const, lawV, h0, h3]
  refine ⟨fun h => ⟨by simpa using h, ?_⟩, fun h => ?_⟩
  · have hk' : k < s.length := by simpa using h
    rw [show s.getD k 0 = s[k] by simp [List.getD, hk']]
    (refine callV_pc (p_r1_IsAlpha s[k]) ?_; simp only [vcS, ↓Xn, ↓Xo, ↓Xg, ↓Xd, ↓Xe, ↓Xf, XQ, XG, gvU, setR, orN, Yl, Xm, Yn, Yi, Xa, Ym, Xc, Xc.sizeIs, reS, Xj, Yb, mmS, Xq, dstS, srcS, XP, XN, XO, Yc, XA, Yg, Xy, XE, endV, gdst, Yk, XR, Yd, goR, XC, sBox, XU, XH, Xr, sNil, XL, Xt, XV, Xv, goD, valD, XI, XF, XB, dNil, XK, XD, dBox, dN, Xz, opL, idxs, pv, XX, Ya, XJ, Xb, Xu, oBin, oUn, Ye, XW, Xw, Xx, Xh, Xk, XY, XS, oLen, lenS, Yh, ev, lk, Vc.put, fits, kd, sz, Tryz.VΓ, Tryz.Γs, bin, binI, binS, ifK, ar, eqB, eqS, eqK, eqK.eqF, negB, bnds, optE, XM, Vc.cells, isV, Vc.one, Xs, getB, setB, XZ, Xp, Xi, Yf, Xl, XT, resS, tupS, ofV, Yj, Nat.reduceAdd, Nat.reduceSub, Nat.reduceLT, Nat.reduceLeDiff, reduceIte, reduceCtorEq, Nat.reduceEqDiff, implies_true, forall_const, lawV, h0, h3])
    refine ⟨fun ca => ⟨fun c0 => ?_, fun c0 => ?_⟩, fun ca => ⟨by omega, ⟨k + 1, by omega, scheme_step hk' hr (.inl (not_f ca)), by simp⟩, by rw [lkI_eq rfl]; omega⟩⟩
    · rw [show s.getD k 0 = s[k] by simp [List.getD, hk']]
      refine ⟨by omega, ?_⟩
      (refine callV_pc (p_r1_IsDigit s[k]) ?_; simp only [vcS, ↓Xn, ↓Xo, ↓Xg, ↓Xd, ↓Xe, ↓Xf, XQ, XG, gvU, setR, orN, Yl, Xm, Yn, Yi, Xa, Ym, Xc, Xc.sizeIs, reS, Xj, Yb, mmS, Xq, dstS, srcS, XP, XN, XO, Yc, XA, Yg, Xy, XE, endV, gdst, Yk, XR, Yd, goR, XC, sBox, XU, XH, Xr, sNil, XL, Xt, XV, Xv, goD, valD, XI, XF, XB, dNil, XK, XD, dBox, dN, Xz, opL, idxs, pv, XX, Ya, XJ, Xb, Xu, oBin, oUn, Ye, XW, Xw, Xx, Xh, Xk, XY, XS, oLen, lenS, Yh, ev, lk, Vc.put, fits, kd, sz, Tryz.VΓ, Tryz.Γs, bin, binI, binS, ifK, ar, eqB, eqS, eqK, eqK.eqF, negB, bnds, optE, XM, Vc.cells, isV, Vc.one, Xs, getB, setB, XZ, Xp, Xi, Yf, Xl, XT, resS, tupS, ofV, Yj, Nat.reduceAdd, Nat.reduceSub, Nat.reduceLT, Nat.reduceLeDiff, reduceIte, reduceCtorEq, Nat.reduceEqDiff, implies_true, forall_const, lawV, h0, h3])
      refine ⟨fun cd => ⟨by omega, ?_⟩, fun cd => ?_⟩
      · rw [show s.getD k 0 = s[k] by simp [List.getD, hk']]
        (refine callV_pc (p_r1_In s[k] [43, 45, 46] (by simp)) ?_; simp only [vcS, ↓Xn, ↓Xo, ↓Xg, ↓Xd, ↓Xe, ↓Xf, XQ, XG, gvU, setR, orN, Yl, Xm, Yn, Yi, Xa, Ym, Xc, Xc.sizeIs, reS, Xj, Yb, mmS, Xq, dstS, srcS, XP, XN, XO, Yc, XA, Yg, Xy, XE, endV, gdst, Yk, XR, Yd, goR, XC, sBox, XU, XH, Xr, sNil, XL, Xt, XV, Xv, goD, valD, XI, XF, XB, dNil, XK, XD, dBox, dN, Xz, opL, idxs, pv, XX, Ya, XJ, Xb, Xu, oBin, oUn, Ye, XW, Xw, Xx, Xh, Xk, XY, XS, oLen, lenS, Yh, ev, lk, Vc.put, fits, kd, sz, Tryz.VΓ, Tryz.Γs, bin, binI, binS, ifK, ar, eqB, eqS, eqK, eqK.eqF, negB, bnds, optE, XM, Vc.cells, isV, Vc.one, Xs, getB, setB, XZ, Xp, Xi, Yf, Xl, XT, resS, tupS, ofV, Yj, Nat.reduceAdd, Nat.reduceSub, Nat.reduceLT, Nat.reduceLeDiff, reduceIte, reduceCtorEq, Nat.reduceEqDiff, implies_true, forall_const, lawV, h0, h3])
        refine ⟨fun ci => ?_, fun ci => ⟨by omega, ⟨k + 1, by omega, scheme_step hk' hr (.inr ⟨by simp at c0; omega, by unfold schemeC; rw [not_f ci]; simp⟩), by simp⟩, by rw [lkI_eq rfl]; omega⟩⟩
        rw [scheme_no (by simp at c0; omega) hk' (by unfold schemeC; rw [not_t ca, not_t cd, not_t ci]; rfl)]
      · exact ⟨by omega, ⟨k + 1, by omega, scheme_step hk' hr (.inr ⟨by simp at c0; omega, by unfold schemeC; rw [not_f cd]; simp⟩), by simp⟩, by rw [lkI_eq rfl]; omega⟩
    · have hk0 : k = 0 := by simp at c0; omega
      subst hk0
      rw [scheme_one_no hk' (by simpa using ca)]
  · rcases hr with hr | hr
    · have : s = [] := List.eq_nil_of_length_eq_zero (by simp at h; omega)
      subst this; rfl
    · rw [List.take_of_length_le (by simp at h; omega)] at hr
      rw [hr]
      cases s with
      | nil => simp [schemeOk] at hr
      | cons => rfl
/-- The merged path where the reference's path has no slash ahead. -/
def refMerge (b r : Uri) : Bytes := if b.hasAuthority ∧ b.path = [] then 47 :: r.path else b.path.take (lastSlash b.path) ++ r.path
theorem uriMerge_ref (b r : Uri) : uriMerge b r = if r.path.head? = some 47 then r.path else refMerge b r := rfl
set_option maxRecDepth 20000 in
set_option maxHeartbeats 2000000 in
theorem p_r6_merged (b r : Uri) (hb : b.path.length ≤ 4294967281) (hr : r.path.length ≤ 4294967281) : PC Tryz.V 135 [usv b, usv r] (.str (refMerge b r)) := by
  (refine pc_of 3000 Tryz.func135 rfl Tryz.ntmps135 Tryz.results135 Tryz.call135 (by simp) (by simp [flat, flat.flatL, usv]) (by simp [flat, flat.flatL, usv]) ?_
   unfold usv
   simp only [vcS, ↓Xn, ↓Xo, ↓Xg, ↓Xd, ↓Xe, ↓Xf, XQ, XG, gvU, setR, orN, Yl, Xm, Yn, Yi, Xa, Ym, Xc, Xc.sizeIs, reS, Xj, Yb, mmS, Xq, dstS, srcS, XP, XN, XO, Yc, XA, Yg, Xy, XE, endV, gdst, Yk, XR, Yd, goR, XC, sBox, XU, XH, Xr, sNil, XL, Xt, XV, Xv, goD, valD, XI, XF, XB, dNil, XK, XD, dBox, dN, Xz, opL, idxs, pv, XX, Ya, XJ, Xb, Xu, oBin, oUn, Ye, XW, Xw, Xx, Xh, Xk, XY, XS, oLen, lenS, Yh, ev, lk, Vc.put, fits, kd, sz, Tryz.VΓ, Tryz.Γs, bin, binI, binS, ifK, ar, eqB, eqS, eqK, eqK.eqF, negB, bnds, optE, XM, Vc.cells, isV, Vc.one, Xs, getB, setB, XZ, Xp, Xi, Yf, Xl, XT, resS, tupS, ofV, Yj, Nat.reduceAdd, Nat.reduceSub, Nat.reduceLT, Nat.reduceLeDiff, reduceIte, reduceCtorEq, Nat.reduceEqDiff, implies_true, forall_const, lawV])
  refine ⟨fun ha => ⟨fun hp => ⟨by omega, ?_⟩, fun hp => ?_⟩, fun ha => ?_⟩
  · rw [refMerge, if_pos ⟨ha, by simpa using hp⟩]
  · have hno : ¬ (b.hasAuthority = true ∧ b.path = []) := by rintro ⟨-, h4⟩; simp [h4] at hp
    (
      refine ⟨by omega, loopV_mk (fun σ => ∃ k : Nat, k ≤ b.path.length ∧ lastSlash b.path ≤ k ∧ lk 2 σ.t = some (.p 0 0) ∧ lk 3 σ.t = some (.p 1 0) ∧ lk 5 σ.t = some (.int .i64 ((k : Int) - 1)) ∧ σ.b = [.cells [.str b.scheme, .str b.authority, .str b.path, .str b.query, .str b.fragment, .bool b.hasScheme, .bool b.hasAuthority, .bool b.hasQuery, .bool b.hasFrag] 73 true, .cells [.str r.scheme, .str r.authority, .str r.path, .str r.query, .str r.fragment, .bool r.hasScheme, .bool r.hasAuthority, .bool r.hasQuery, .bool r.hasFrag] 73 true]) (fun σ => match lk 5 σ.t with | some (.int _ n) => (n + 1).toNat | _ => 0) ⟨b.path.length, by omega, lastSlash_le _, rfl, rfl, rfl, rfl⟩ ?_⟩
      rintro ⟨t, bx⟩ ⟨k, hk, hc, h2, h3, h5, hbx⟩
      simp only at h2 h3 h5 hbx
      subst hbx
      simp only [vcS, ↓Xn, ↓Xo, ↓Xg, ↓Xd, ↓Xe, ↓Xf, XQ, XG, gvU, setR, orN, Yl, Xm, Yn, Yi, Xa, Ym, Xc, Xc.sizeIs, reS, Xj, Yb, mmS, Xq, dstS, srcS, XP, XN, XO, Yc, XA, Yg, Xy, XE, endV, gdst, Yk, XR, Yd, goR, XC, sBox, XU, XH, Xr, sNil, XL, Xt, XV, Xv, goD, valD, XI, XF, XB, dNil, XK, XD, dBox, dN, Xz, opL, idxs, pv, XX, Ya, XJ, Xb, Xu, oBin, oUn, Ye, XW, Xw, Xx, Xh, Xk, XY, XS, oLen, lenS, Yh, ev, lk, Vc.put, fits, kd, sz, Tryz.VΓ, Tryz.Γs, bin, binI, binS, ifK, ar, eqB, eqS, eqK, eqK.eqF, negB, bnds, optE, XM, Vc.cells, isV, Vc.one, Xs, getB, setB, XZ, Xp, Xi, Yf, Xl, XT, resS, tupS, ofV, Yj, Nat.reduceAdd, Nat.reduceSub, Nat.reduceLT, Nat.reduceLeDiff, reduceIte, reduceCtorEq, Nat.reduceEqDiff, implies_true, forall_const, lawV, h2, h3, h5]
      rw [refMerge, if_neg hno]
      refine ⟨fun h => ?_, fun h => ?_⟩
      · have hk0 : 0 < k := by simp at h; omega
        obtain ⟨k, rfl⟩ : ∃ m, k = m + 1 := ⟨k - 1, by omega⟩
        have e : (((k + 1 : Nat) : Int) - 1).toNat = k := by omega
        have e2 : (((k + 1 : Nat) : Int) - 1 + 1).toNat = k + 1 := by omega
        rw [e, byte_is (n := 47) (by omega) 47 rfl]
        refine ⟨by omega, fun q => ?_, fun q => ?_⟩
        · rw [e2, slash_hit (by omega) hc (by simpa using q)]
          exact ⟨by omega, by omega, by simp; omega, (OkD_fast (by kernel_rfl)), rfl⟩
        · exact ⟨by omega, ⟨k, by omega, slash_miss (by omega) hc (by simpa using q), by congr 1; omega⟩, by omega⟩
      · rw [show lastSlash b.path = 0 by simp at h; omega]
        simp)
  · have hno : ¬ (b.hasAuthority = true ∧ b.path = []) := by simp [ha]
    (
      refine ⟨by omega, loopV_mk (fun σ => ∃ k : Nat, k ≤ b.path.length ∧ lastSlash b.path ≤ k ∧ lk 2 σ.t = some (.p 0 0) ∧ lk 3 σ.t = some (.p 1 0) ∧ lk 5 σ.t = some (.int .i64 ((k : Int) - 1)) ∧ σ.b = [.cells [.str b.scheme, .str b.authority, .str b.path, .str b.query, .str b.fragment, .bool b.hasScheme, .bool b.hasAuthority, .bool b.hasQuery, .bool b.hasFrag] 73 true, .cells [.str r.scheme, .str r.authority, .str r.path, .str r.query, .str r.fragment, .bool r.hasScheme, .bool r.hasAuthority, .bool r.hasQuery, .bool r.hasFrag] 73 true]) (fun σ => match lk 5 σ.t with | some (.int _ n) => (n + 1).toNat | _ => 0) ⟨b.path.length, by omega, lastSlash_le _, rfl, rfl, rfl, rfl⟩ ?_⟩
      rintro ⟨t, bx⟩ ⟨k, hk, hc, h2, h3, h5, hbx⟩
      simp only at h2 h3 h5 hbx
      subst hbx
      simp only [vcS, ↓Xn, ↓Xo, ↓Xg, ↓Xd, ↓Xe, ↓Xf, XQ, XG, gvU, setR, orN, Yl, Xm, Yn, Yi, Xa, Ym, Xc, Xc.sizeIs, reS, Xj, Yb, mmS, Xq, dstS, srcS, XP, XN, XO, Yc, XA, Yg, Xy, XE, endV, gdst, Yk, XR, Yd, goR, XC, sBox, XU, XH, Xr, sNil, XL, Xt, XV, Xv, goD, valD, XI, XF, XB, dNil, XK, XD, dBox, dN, Xz, opL, idxs, pv, XX, Ya, XJ, Xb, Xu, oBin, oUn, Ye, XW, Xw, Xx, Xh, Xk, XY, XS, oLen, lenS, Yh, ev, lk, Vc.put, fits, kd, sz, Tryz.VΓ, Tryz.Γs, bin, binI, binS, ifK, ar, eqB, eqS, eqK, eqK.eqF, negB, bnds, optE, XM, Vc.cells, isV, Vc.one, Xs, getB, setB, XZ, Xp, Xi, Yf, Xl, XT, resS, tupS, ofV, Yj, Nat.reduceAdd, Nat.reduceSub, Nat.reduceLT, Nat.reduceLeDiff, reduceIte, reduceCtorEq, Nat.reduceEqDiff, implies_true, forall_const, lawV, h2, h3, h5]
      rw [refMerge, if_neg hno]
      refine ⟨fun h => ?_, fun h => ?_⟩
      · have hk0 : 0 < k := by simp at h; omega
        obtain ⟨k, rfl⟩ : ∃ m, k = m + 1 := ⟨k - 1, by omega⟩
        have e : (((k + 1 : Nat) : Int) - 1).toNat = k := by omega
        have e2 : (((k + 1 : Nat) : Int) - 1 + 1).toNat = k + 1 := by omega
        rw [e, byte_is (n := 47) (by omega) 47 rfl]
        refine ⟨by omega, fun q => ?_, fun q => ?_⟩
        · rw [e2, slash_hit (by omega) hc (by simpa using q)]
          exact ⟨by omega, by omega, by simp; omega, (OkD_fast (by kernel_rfl)), rfl⟩
        · exact ⟨by omega, ⟨k, by omega, slash_miss (by omega) hc (by simpa using q), by congr 1; omega⟩, by omega⟩
      · rw [show lastSlash b.path = 0 by simp at h; omega]
        simp)
theorem refMerge_len (b r : Uri) : (refMerge b r).length ≤ 1 + b.path.length + r.path.length := by
  unfold refMerge
  split
  · simp; omega
  · simp; omega
set_option maxRecDepth 20000 in
set_option maxHeartbeats 4000000 in
theorem p_r6_Resolve (b r : Uri) (hb : b.path.length ≤ 2147480000) (hr : r.path.length ≤ 2147480000) : PC Tryz.V 77 [usv b, usv r] (usv (uriResolve b r)) := by
  have hml := refMerge_len b r
  have pm := p_r6_merged b r (by omega) (by omega)
  unfold usv at pm
  (refine pc_of 3000 Tryz.func77 rfl Tryz.ntmps77 Tryz.results77 Tryz.call77 (by simp) (by simp [flat, flat.flatL, usv]) (by simp [flat, flat.flatL, usv]) ?_
   unfold usv
   simp only [vcS, ↓Xn, ↓Xo, ↓Xg, ↓Xd, ↓Xe, ↓Xf, XQ, XG, gvU, setR, orN, Yl, Xm, Yn, Yi, Xa, Ym, Xc, Xc.sizeIs, reS, Xj, Yb, mmS, Xq, dstS, srcS, XP, XN, XO, Yc, XA, Yg, Xy, XE, endV, gdst, Yk, XR, Yd, goR, XC, sBox, XU, XH, Xr, sNil, XL, Xt, XV, Xv, goD, valD, XI, XF, XB, dNil, XK, XD, dBox, dN, Xz, opL, idxs, pv, XX, Ya, XJ, Xb, Xu, oBin, oUn, Ye, XW, Xw, Xx, Xh, Xk, XY, XS, oLen, lenS, Yh, ev, lk, Vc.put, fits, kd, sz, Tryz.VΓ, Tryz.Γs, bin, binI, binS, ifK, ar, eqB, eqS, eqK, eqK.eqF, negB, bnds, optE, XM, Vc.cells, isV, Vc.one, Xs, getB, setB, XZ, Xp, Xi, Yf, Xl, XT, resS, tupS, ofV, Yj, Nat.reduceAdd, Nat.reduceSub, Nat.reduceLT, Nat.reduceLeDiff, reduceIte, reduceCtorEq, Nat.reduceEqDiff, implies_true, forall_const, lawV])
  generalize hR : uriResolve b r = R
  rw [uriResolve] at hR
  refine ⟨fun h1 => ?_, fun h1 => ?_⟩
  · rw [if_pos h1] at hR
    (refine callV_pc (p_r6_RemoveDots r.path (by omega)) ?_; simp only [vcS, ↓Xn, ↓Xo, ↓Xg, ↓Xd, ↓Xe, ↓Xf, XQ, XG, gvU, setR, orN, Yl, Xm, Yn, Yi, Xa, Ym, Xc, Xc.sizeIs, reS, Xj, Yb, mmS, Xq, dstS, srcS, XP, XN, XO, Yc, XA, Yg, Xy, XE, endV, gdst, Yk, XR, Yd, goR, XC, sBox, XU, XH, Xr, sNil, XL, Xt, XV, Xv, goD, valD, XI, XF, XB, dNil, XK, XD, dBox, dN, Xz, opL, idxs, pv, XX, Ya, XJ, Xb, Xu, oBin, oUn, Ye, XW, Xw, Xx, Xh, Xk, XY, XS, oLen, lenS, Yh, ev, lk, Vc.put, fits, kd, sz, Tryz.VΓ, Tryz.Γs, bin, binI, binS, ifK, ar, eqB, eqS, eqK, eqK.eqF, negB, bnds, optE, XM, Vc.cells, isV, Vc.one, Xs, getB, setB, XZ, Xp, Xi, Yf, Xl, XT, resS, tupS, ofV, Yj, Nat.reduceAdd, Nat.reduceSub, Nat.reduceLT, Nat.reduceLeDiff, reduceIte, reduceCtorEq, Nat.reduceEqDiff, implies_true, forall_const, lawV])
    rw [← hR]
  rw [if_neg (by simpa using h1)] at hR
  refine ⟨fun h2 => ?_, fun h2 => ?_⟩
  · rw [if_pos h2] at hR
    (refine callV_pc (p_r6_RemoveDots r.path (by omega)) ?_; simp only [vcS, ↓Xn, ↓Xo, ↓Xg, ↓Xd, ↓Xe, ↓Xf, XQ, XG, gvU, setR, orN, Yl, Xm, Yn, Yi, Xa, Ym, Xc, Xc.sizeIs, reS, Xj, Yb, mmS, Xq, dstS, srcS, XP, XN, XO, Yc, XA, Yg, Xy, XE, endV, gdst, Yk, XR, Yd, goR, XC, sBox, XU, XH, Xr, sNil, XL, Xt, XV, Xv, goD, valD, XI, XF, XB, dNil, XK, XD, dBox, dN, Xz, opL, idxs, pv, XX, Ya, XJ, Xb, Xu, oBin, oUn, Ye, XW, Xw, Xx, Xh, Xk, XY, XS, oLen, lenS, Yh, ev, lk, Vc.put, fits, kd, sz, Tryz.VΓ, Tryz.Γs, bin, binI, binS, ifK, ar, eqB, eqS, eqK, eqK.eqF, negB, bnds, optE, XM, Vc.cells, isV, Vc.one, Xs, getB, setB, XZ, Xp, Xi, Yf, Xl, XT, resS, tupS, ofV, Yj, Nat.reduceAdd, Nat.reduceSub, Nat.reduceLT, Nat.reduceLeDiff, reduceIte, reduceCtorEq, Nat.reduceEqDiff, implies_true, forall_const, lawV])
    rw [← hR]
    exact ⟨(OkD_fast (by kernel_rfl)), rfl⟩
  rw [if_neg (by simpa using h2)] at hR
  refine ⟨fun h3 => ?_, fun h3 => ?_⟩
  · rw [if_pos (by simpa using h3)] at hR
    refine ⟨fun h4 => ?_, fun h4 => ?_⟩
    · rw [if_neg (by simpa using h4)] at hR
      rw [← hR]
      exact ⟨(OkD_fast (by kernel_rfl)), (OkD_fast (by kernel_rfl)), (OkD_fast (by kernel_rfl)), rfl⟩
    · rw [if_pos (by simpa using h4)] at hR
      rw [← hR]
      exact ⟨(OkD_fast (by kernel_rfl)), (OkD_fast (by kernel_rfl)), rfl⟩
  · rw [if_neg (by simpa using h3), uriMerge_ref] at hR
    (refine callV_pc (pm) ?_; simp only [vcS, ↓Xn, ↓Xo, ↓Xg, ↓Xd, ↓Xe, ↓Xf, XQ, XG, gvU, setR, orN, Yl, Xm, Yn, Yi, Xa, Ym, Xc, Xc.sizeIs, reS, Xj, Yb, mmS, Xq, dstS, srcS, XP, XN, XO, Yc, XA, Yg, Xy, XE, endV, gdst, Yk, XR, Yd, goR, XC, sBox, XU, XH, Xr, sNil, XL, Xt, XV, Xv, goD, valD, XI, XF, XB, dNil, XK, XD, dBox, dN, Xz, opL, idxs, pv, XX, Ya, XJ, Xb, Xu, oBin, oUn, Ye, XW, Xw, Xx, Xh, Xk, XY, XS, oLen, lenS, Yh, ev, lk, Vc.put, fits, kd, sz, Tryz.VΓ, Tryz.Γs, bin, binI, binS, ifK, ar, eqB, eqS, eqK, eqK.eqF, negB, bnds, optE, XM, Vc.cells, isV, Vc.one, Xs, getB, setB, XZ, Xp, Xi, Yf, Xl, XT, resS, tupS, ofV, Yj, Nat.reduceAdd, Nat.reduceSub, Nat.reduceLT, Nat.reduceLeDiff, reduceIte, reduceCtorEq, Nat.reduceEqDiff, implies_true, forall_const, lawV])
    (refine callV_pc (p_r6_RemoveDots _ (by omega)) ?_; simp only [vcS, ↓Xn, ↓Xo, ↓Xg, ↓Xd, ↓Xe, ↓Xf, XQ, XG, gvU, setR, orN, Yl, Xm, Yn, Yi, Xa, Ym, Xc, Xc.sizeIs, reS, Xj, Yb, mmS, Xq, dstS, srcS, XP, XN, XO, Yc, XA, Yg, Xy, XE, endV, gdst, Yk, XR, Yd, goR, XC, sBox, XU, XH, Xr, sNil, XL, Xt, XV, Xv, goD, valD, XI, XF, XB, dNil, XK, XD, dBox, dN, Xz, opL, idxs, pv, XX, Ya, XJ, Xb, Xu, oBin, oUn, Ye, XW, Xw, Xx, Xh, Xk, XY, XS, oLen, lenS, Yh, ev, lk, Vc.put, fits, kd, sz, Tryz.VΓ, Tryz.Γs, bin, binI, binS, ifK, ar, eqB, eqS, eqK, eqK.eqF, negB, bnds, optE, XM, Vc.cells, isV, Vc.one, Xs, getB, setB, XZ, Xp, Xi, Yf, Xl, XT, resS, tupS, ofV, Yj, Nat.reduceAdd, Nat.reduceSub, Nat.reduceLT, Nat.reduceLeDiff, reduceIte, reduceCtorEq, Nat.reduceEqDiff, implies_true, forall_const, lawV])
    have hp0 : 0 < r.path.length := List.length_pos_iff.2 (by simpa using h3)
    rw [show Int.toNat 0 = 0 from rfl, byte_is (n := 47) hp0 47 rfl]
    have hh : r.path.head? = some r.path[0] := by rw [List.head?_eq_getElem?, List.getElem?_eq_getElem hp0]
    rw [hh] at hR
    refine ⟨by omega, fun h4 => ?_, fun h4 => ?_⟩
    · rw [if_pos (by rw [beq_iff_eq.1 h4])] at hR
      (refine callV_pc (p_r6_RemoveDots r.path (by omega)) ?_; simp only [vcS, ↓Xn, ↓Xo, ↓Xg, ↓Xd, ↓Xe, ↓Xf, XQ, XG, gvU, setR, orN, Yl, Xm, Yn, Yi, Xa, Ym, Xc, Xc.sizeIs, reS, Xj, Yb, mmS, Xq, dstS, srcS, XP, XN, XO, Yc, XA, Yg, Xy, XE, endV, gdst, Yk, XR, Yd, goR, XC, sBox, XU, XH, Xr, sNil, XL, Xt, XV, Xv, goD, valD, XI, XF, XB, dNil, XK, XD, dBox, dN, Xz, opL, idxs, pv, XX, Ya, XJ, Xb, Xu, oBin, oUn, Ye, XW, Xw, Xx, Xh, Xk, XY, XS, oLen, lenS, Yh, ev, lk, Vc.put, fits, kd, sz, Tryz.VΓ, Tryz.Γs, bin, binI, binS, ifK, ar, eqB, eqS, eqK, eqK.eqF, negB, bnds, optE, XM, Vc.cells, isV, Vc.one, Xs, getB, setB, XZ, Xp, Xi, Yf, Xl, XT, resS, tupS, ofV, Yj, Nat.reduceAdd, Nat.reduceSub, Nat.reduceLT, Nat.reduceLeDiff, reduceIte, reduceCtorEq, Nat.reduceEqDiff, implies_true, forall_const, lawV])
      rw [← hR]
      exact ⟨(OkD_fast (by kernel_rfl)), (OkD_fast (by kernel_rfl)), rfl⟩
    · rw [if_neg (by simpa using h4)] at hR
      rw [← hR]
      exact ⟨(OkD_fast (by kernel_rfl)), (OkD_fast (by kernel_rfl)), rfl⟩
end Go.Proofs.YtnpkjglcbolcbaaGreatDoor
