/- Texts of this claim, laid together: WebV, Law11, Open. -/
import Derived.Test.YtcndmooeglfilaaGreatDoorM5
/- The walks of the reference for package didweb. -/
set_option linter.all false
set_option maxRecDepth 20000
namespace Go.Proofs.YtcndmooeglfilaaGreatDoor
open Go Vc Go.RowKit Wf
set_option linter.unusedSimpArgs false
theorem p_r5_Decimal (p : Int) (h1 : 0 ≤ p) (h2 : p ≤ 9223372036854775807) : PC Tryz.V 79 [.int .i64 p] (.str (decS p.natAbs)) :=
  ⟨Tryz.call79, by simp [flat, flat.flatL], by simp [flat, flat.flatL], fun w _ => (ref05_Decimal p w (by omega) h2).mono fun _ _ ⟨h, k⟩ => ⟨by rw [h, if_neg (by omega)]; rfl, k⟩⟩
set_option maxRecDepth 20000 in
set_option maxHeartbeats 2000000 in
theorem sc_r11_first {bs : List Res} (d : Did) (h : DidFits d) : SC Tryz.V 82 [dsv d] bs (fun r b => Kp bs b ∧ ∃ x, r = .tup [x, .agg [.str (didAuth d).1.1, .int .i64 (didAuth d).1.2], .int .i64 (didAuth d).2] ∧
    ((didAuth d).2 = 0 → ∃ j, x = .o j (splitC 58 d.id).length ∧ bs.length ≤ j ∧ b[j]? = some (.own ((splitC 58 d.id).map SV.str) 9 1 (splitC 58 d.id).length true))) := by
  have pf := p_r10_FormatDID d h
  have pp := p_r10_ParseDID (didText d)
  have hf := @auth_first d
  have hd := @auth_dec d
  refine sc_of 3000 Tryz.func82 rfl Tryz.ntmps82 Tryz.results82 Tryz.call82 (by simp) (fun β β' hb => concL_within bs.length _ (by simp [within, within.withinL, dsv]) β β' hb) ?_
  unfold dsv
  unfold dsv at pf pp
  unfold didAuth
  simp only [vcS, ↓Xn, ↓Xo, ↓Xg, ↓Xd, ↓Xe, ↓Xf, XQ, XG, gvU, setR, orN, Yl, Xm, Yn, Yi, Xa, Ym, Xc, Xc.sizeIs, reS, Xj, Yb, mmS, Xq, dstS, srcS, XP, XN, XO, Yc, XA, Yg, Xy, XE, endV, gdst, Yk, XR, Yd, goR, XC, sBox, XU, XH, Xr, sNil, XL, Xt, XV, Xv, goD, valD, XI, XF, XB, dNil, XK, XD, dBox, dN, Xz, opL, idxs, pv, XX, Ya, XJ, Xb, Xu, oBin, oUn, Ye, XW, Xw, Xx, Xh, Xk, XY, XS, oLen, lenS, Yh, ev, lk, Vc.put, fits, kd, sz, Tryz.VΓ, Tryz.Γs, bin, binI, binS, ifK, ar, eqB, eqS, eqK, eqK.eqF, negB, bnds, optE, XM, Vc.cells, isV, Vc.one, Xs, getB, setB, XZ, Xp, Xi, Yf, Xl, XT, resS, tupS, ofV, Yj, Nat.reduceAdd, Nat.reduceSub, Nat.reduceLT, Nat.reduceLeDiff, reduceIte, reduceCtorEq, Nat.reduceEqDiff, implies_true, forall_const, lawV, at_new, at_prev, at_prev2, at_prev3, set_new, set_prev, set_prev2]
  refine ⟨fun h1 => ?_, fun h1 => ?_⟩
  · rw [if_pos (by simpa [webS] using h1)]
    refine ⟨((Kp.refl _).app _).app _, .nils, rfl, fun k => by simp at k⟩
  have h1 : d.method = webS := by simpa [webS] using h1
  rw [if_neg (by simp [h1])]
  (refine callV_pc pf ?_; simp only [vcS, ↓Xn, ↓Xo, ↓Xg, ↓Xd, ↓Xe, ↓Xf, XQ, XG, gvU, setR, orN, Yl, Xm, Yn, Yi, Xa, Ym, Xc, Xc.sizeIs, reS, Xj, Yb, mmS, Xq, dstS, srcS, XP, XN, XO, Yc, XA, Yg, Xy, XE, endV, gdst, Yk, XR, Yd, goR, XC, sBox, XU, XH, Xr, sNil, XL, Xt, XV, Xv, goD, valD, XI, XF, XB, dNil, XK, XD, dBox, dN, Xz, opL, idxs, pv, XX, Ya, XJ, Xb, Xu, oBin, oUn, Ye, XW, Xw, Xx, Xh, Xk, XY, XS, oLen, lenS, Yh, ev, lk, Vc.put, fits, kd, sz, Tryz.VΓ, Tryz.Γs, bin, binI, binS, ifK, ar, eqB, eqS, eqK, eqK.eqF, negB, bnds, optE, XM, Vc.cells, isV, Vc.one, Xs, getB, setB, XZ, Xp, Xi, Yf, Xl, XT, resS, tupS, ofV, Yj, Nat.reduceAdd, Nat.reduceSub, Nat.reduceLT, Nat.reduceLeDiff, reduceIte, reduceCtorEq, Nat.reduceEqDiff, implies_true, forall_const, lawV, at_new, at_prev, at_prev2, at_prev3, set_new, set_prev, set_prev2])
  (refine callV_pc pp ?_; simp only [vcS, ↓Xn, ↓Xo, ↓Xg, ↓Xd, ↓Xe, ↓Xf, XQ, XG, gvU, setR, orN, Yl, Xm, Yn, Yi, Xa, Ym, Xc, Xc.sizeIs, reS, Xj, Yb, mmS, Xq, dstS, srcS, XP, XN, XO, Yc, XA, Yg, Xy, XE, endV, gdst, Yk, XR, Yd, goR, XC, sBox, XU, XH, Xr, sNil, XL, Xt, XV, Xv, goD, valD, XI, XF, XB, dNil, XK, XD, dBox, dN, Xz, opL, idxs, pv, XX, Ya, XJ, Xb, Xu, oBin, oUn, Ye, XW, Xw, Xx, Xh, Xk, XY, XS, oLen, lenS, Yh, ev, lk, Vc.put, fits, kd, sz, Tryz.VΓ, Tryz.Γs, bin, binI, binS, ifK, ar, eqB, eqS, eqK, eqK.eqF, negB, bnds, optE, XM, Vc.cells, isV, Vc.one, Xs, getB, setB, XZ, Xp, Xi, Yf, Xl, XT, resS, tupS, ofV, Yj, Nat.reduceAdd, Nat.reduceSub, Nat.reduceLT, Nat.reduceLeDiff, reduceIte, reduceCtorEq, Nat.reduceEqDiff, implies_true, forall_const, lawV, at_new, at_prev, at_prev2, at_prev3, set_new, set_prev, set_prev2])
  refine ⟨fun h2 => ?_, fun h2 => ?_⟩
  · rw [if_pos (by simpa using h2)]
    refine ⟨(((Kp.refl _).app _).app _).app _, .nils, rfl, fun k => absurd k (by simpa using h2)⟩
  have h2 : (didParse (didText d)).2 = 0 := by simpa using h2
  rw [if_neg (by simp [h2])]
  have hf := hf h1 h2
  have hd := hd h1 h2
  obtain ⟨T, hT⟩ := cut_head 58 d.id
  have pd := p_r3_Decode (cutC 58 d.id).1
  rw [hf] at pd ⊢
  have hl1 := cutC_len 58 d.id
  have hl2 := decV_len (cutC 58 d.id).1
  have ph := p_r5_Parse (decV (cutC 58 d.id).1) (by omega)
  refine callV_sc (sc_Split d.id 58 (by omega)) ?_
  rintro r b ⟨j, rfl, hLj, hj, hkp⟩
  rw [hT] at hj ⊢
  generalize (cutC 58 d.id).1 = c at *
  simp only at hLj hkp hj
  have hz1 := hkp.at (at_prev _ _ _)
  have hkb : Kp bs b := ((((Kp.refl bs).app _).app _).app _).trans hkp
  have hbl : bs.length ≤ b.length := hkb.1
  simp only [List.length_append, List.length_cons, List.length_nil] at hLj
  have hjl := (List.getElem?_eq_some_iff.1 hj).1
  have hn1 : ∀ X : Res, (bs ++ [X]).length = bs.length + 1 := fun X => by simp
  rw [hn1] at hz1
  have hs1 : ∀ X, (b.set (bs.length + 1) X)[bs.length + 1]? = some X := fun X => List.getElem?_set_self (List.getElem?_eq_some_iff.1 hz1).1
  simp only [vcS, ↓Xn, ↓Xo, ↓Xg, ↓Xd, ↓Xe, ↓Xf, XQ, XG, gvU, setR, orN, Yl, Xm, Yn, Yi, Xa, Ym, Xc, Xc.sizeIs, reS, Xj, Yb, mmS, Xq, dstS, srcS, XP, XN, XO, Yc, XA, Yg, Xy, XE, endV, gdst, Yk, XR, Yd, goR, XC, sBox, XU, XH, Xr, sNil, XL, Xt, XV, Xv, goD, valD, XI, XF, XB, dNil, XK, XD, dBox, dN, Xz, opL, idxs, pv, XX, Ya, XJ, Xb, Xu, oBin, oUn, Ye, XW, Xw, Xx, Xh, Xk, XY, XS, oLen, lenS, Yh, ev, lk, Vc.put, fits, kd, sz, Tryz.VΓ, Tryz.Γs, bin, binI, binS, ifK, ar, eqB, eqS, eqK, eqK.eqF, negB, bnds, optE, XM, Vc.cells, isV, Vc.one, Xs, getB, setB, XZ, Xp, Xi, Yf, Xl, XT, resS, tupS, ofV, Yj, Nat.reduceAdd, Nat.reduceSub, Nat.reduceLT, Nat.reduceLeDiff, reduceIte, reduceCtorEq, Nat.reduceEqDiff, implies_true, forall_const, lawV, hj, hz1, hn1, hs1, List.map_cons, List.getElem?_cons_zero, Int.toNat_zero, Nat.zero_mul]
  refine ⟨⟨by omega, by omega⟩, ?_⟩
  (refine callV_pc pd ?_; simp only [vcS, ↓Xn, ↓Xo, ↓Xg, ↓Xd, ↓Xe, ↓Xf, XQ, XG, gvU, setR, orN, Yl, Xm, Yn, Yi, Xa, Ym, Xc, Xc.sizeIs, reS, Xj, Yb, mmS, Xq, dstS, srcS, XP, XN, XO, Yc, XA, Yg, Xy, XE, endV, gdst, Yk, XR, Yd, goR, XC, sBox, XU, XH, Xr, sNil, XL, Xt, XV, Xv, goD, valD, XI, XF, XB, dNil, XK, XD, dBox, dN, Xz, opL, idxs, pv, XX, Ya, XJ, Xb, Xu, oBin, oUn, Ye, XW, Xw, Xx, Xh, Xk, XY, XS, oLen, lenS, Yh, ev, lk, Vc.put, fits, kd, sz, Tryz.VΓ, Tryz.Γs, bin, binI, binS, ifK, ar, eqB, eqS, eqK, eqK.eqF, negB, bnds, optE, XM, Vc.cells, isV, Vc.one, Xs, getB, setB, XZ, Xp, Xi, Yf, Xl, XT, resS, tupS, ofV, Yj, Nat.reduceAdd, Nat.reduceSub, Nat.reduceLT, Nat.reduceLeDiff, reduceIte, reduceCtorEq, Nat.reduceEqDiff, implies_true, forall_const, lawV, hj, hz1, hn1, hs1])
  have hzo := fun X => at_old hz1 [X]
  have hzl := (List.getElem?_eq_some_iff.1 hz1).1
  have hs2 : ∀ X Y, ((b ++ [X]).set (bs.length + 1) Y)[bs.length + 1]? = some Y := fun X Y => List.getElem?_set_self (by simp; omega)
  (refine callV_pc ph ?_; simp only [vcS, ↓Xn, ↓Xo, ↓Xg, ↓Xd, ↓Xe, ↓Xf, XQ, XG, gvU, setR, orN, Yl, Xm, Yn, Yi, Xa, Ym, Xc, Xc.sizeIs, reS, Xj, Yb, mmS, Xq, dstS, srcS, XP, XN, XO, Yc, XA, Yg, Xy, XE, endV, gdst, Yk, XR, Yd, goR, XC, sBox, XU, XH, Xr, sNil, XL, Xt, XV, Xv, goD, valD, XI, XF, XB, dNil, XK, XD, dBox, dN, Xz, opL, idxs, pv, XX, Ya, XJ, Xb, Xu, oBin, oUn, Ye, XW, Xw, Xx, Xh, Xk, XY, XS, oLen, lenS, Yh, ev, lk, Vc.put, fits, kd, sz, Tryz.VΓ, Tryz.Γs, bin, binI, binS, ifK, ar, eqB, eqS, eqK, eqK.eqF, negB, bnds, optE, XM, Vc.cells, isV, Vc.one, Xs, getB, setB, XZ, Xp, Xi, Yf, Xl, XT, resS, tupS, ofV, Yj, Nat.reduceAdd, Nat.reduceSub, Nat.reduceLT, Nat.reduceLeDiff, reduceIte, reduceCtorEq, Nat.reduceEqDiff, implies_true, forall_const, lawV, hj, hz1, hn1, hs1, at_new, set_new, hzo, hs2])
  have hne : ¬ b.length = bs.length + 1 := by omega
  refine ⟨(by
    refine OkD_ren (fun n => if n = (bs.length + 1) then 0 else 1) ?_
    simp only [List.map_cons, List.map_nil, renRk, renT, reduceIte, hne]
    exact OkD_fast (by kernel_rfl)), (hkb.app _).set (by omega) _, .o j (T.length + 1), rfl, fun _ => ⟨j, rfl, by omega, ?_⟩⟩
  rw [List.getElem?_set_ne (by omega)]
  exact at_old hj _
set_option maxHeartbeats 2000000 in
theorem p_r11_Authority (d : Did) (h : DidFits d) : PC Tryz.V 34 [dsv d] (.tup [.agg [.str (didAuth d).1.1, .int .i64 (didAuth d).1.2], .int .i64 (didAuth d).2]) := by
  have hf := fun (bs : List Res) => sc_r11_first (bs := bs) d h
  unfold dsv at hf
  refine pc_of 3000 Tryz.func34 rfl Tryz.ntmps34 Tryz.results34 Tryz.call34 (by simp) (by simp [flat, flat.flatL, dsv, wsv]) (by simp [flat, flat.flatL, dsv, wsv]) ?_
  unfold dsv
  simp only [vcS, ↓Xn, ↓Xo, ↓Xg, ↓Xd, ↓Xe, ↓Xf, XQ, XG, gvU, setR, orN, Yl, Xm, Yn, Yi, Xa, Ym, Xc, Xc.sizeIs, reS, Xj, Yb, mmS, Xq, dstS, srcS, XP, XN, XO, Yc, XA, Yg, Xy, XE, endV, gdst, Yk, XR, Yd, goR, XC, sBox, XU, XH, Xr, sNil, XL, Xt, XV, Xv, goD, valD, XI, XF, XB, dNil, XK, XD, dBox, dN, Xz, opL, idxs, pv, XX, Ya, XJ, Xb, Xu, oBin, oUn, Ye, XW, Xw, Xx, Xh, Xk, XY, XS, oLen, lenS, Yh, ev, lk, Vc.put, fits, kd, sz, Tryz.VΓ, Tryz.Γs, bin, binI, binS, ifK, ar, eqB, eqS, eqK, eqK.eqF, negB, bnds, optE, XM, Vc.cells, isV, Vc.one, Xs, getB, setB, XZ, Xp, Xi, Yf, Xl, XT, resS, tupS, ofV, Yj, Nat.reduceAdd, Nat.reduceSub, Nat.reduceLT, Nat.reduceLeDiff, reduceIte, reduceCtorEq, Nat.reduceEqDiff, implies_true, forall_const, lawV]
  refine callV_sc (hf _) ?_
  rintro r b ⟨hkp, x, rfl, -⟩
  have hb1 := hkp.at (j := 1) rfl
  have hbl := (List.getElem?_eq_some_iff.1 hb1).1
  have hbo1 := fun X => at_old hb1 [X]
  have hbs1 : ∀ X Y, ((b ++ [X]).set 1 Y)[1]? = some Y := fun X Y => List.getElem?_set_self (by simp; omega)
  simp only [vcS, ↓Xn, ↓Xo, ↓Xg, ↓Xd, ↓Xe, ↓Xf, XQ, XG, gvU, setR, orN, Yl, Xm, Yn, Yi, Xa, Ym, Xc, Xc.sizeIs, reS, Xj, Yb, mmS, Xq, dstS, srcS, XP, XN, XO, Yc, XA, Yg, Xy, XE, endV, gdst, Yk, XR, Yd, goR, XC, sBox, XU, XH, Xr, sNil, XL, Xt, XV, Xv, goD, valD, XI, XF, XB, dNil, XK, XD, dBox, dN, Xz, opL, idxs, pv, XX, Ya, XJ, Xb, Xu, oBin, oUn, Ye, XW, Xw, Xx, Xh, Xk, XY, XS, oLen, lenS, Yh, ev, lk, Vc.put, fits, kd, sz, Tryz.VΓ, Tryz.Γs, bin, binI, binS, ifK, ar, eqB, eqS, eqK, eqK.eqF, negB, bnds, optE, XM, Vc.cells, isV, Vc.one, Xs, getB, setB, XZ, Xp, Xi, Yf, Xl, XT, resS, tupS, ofV, Yj, Nat.reduceAdd, Nat.reduceSub, Nat.reduceLT, Nat.reduceLeDiff, reduceIte, reduceCtorEq, Nat.reduceEqDiff, implies_true, forall_const, lawV, hb1, hbo1, hbs1, at_new, set_new]
set_option maxRecDepth 20000 in
set_option maxHeartbeats 4000000 in
theorem p_r11_ToURL (d : Did) (h : DidFits d) : PC Tryz.V 35 [dsv d] (.tup [wsv (toUrl d).1, .int .i64 (toUrl d).2]) := by
  have hf := fun (bs : List Res) => sc_r11_first (bs := bs) d h
  have hdec := @auth_dec d
  have hha := @didAuth_ok d
  unfold dsv at hf
  unfold toUrl
  generalize didAuth d = A at hf hha ⊢
  obtain ⟨⟨x, p⟩, e⟩ := A
  simp only at hf hha ⊢
  refine pc_of 3000 Tryz.func35 rfl Tryz.ntmps35 Tryz.results35 Tryz.call35 (by simp) (by simp [flat, flat.flatL, dsv, wsv]) (by simp [flat, flat.flatL, dsv, wsv]) ?_
  unfold dsv
  simp only [vcS, ↓Xn, ↓Xo, ↓Xg, ↓Xd, ↓Xe, ↓Xf, XQ, XG, gvU, setR, orN, Yl, Xm, Yn, Yi, Xa, Ym, Xc, Xc.sizeIs, reS, Xj, Yb, mmS, Xq, dstS, srcS, XP, XN, XO, Yc, XA, Yg, Xy, XE, endV, gdst, Yk, XR, Yd, goR, XC, sBox, XU, XH, Xr, sNil, XL, Xt, XV, Xv, goD, valD, XI, XF, XB, dNil, XK, XD, dBox, dN, Xz, opL, idxs, pv, XX, Ya, XJ, Xb, Xu, oBin, oUn, Ye, XW, Xw, Xx, Xh, Xk, XY, XS, oLen, lenS, Yh, ev, lk, Vc.put, fits, kd, sz, Tryz.VΓ, Tryz.Γs, bin, binI, binS, ifK, ar, eqB, eqS, eqK, eqK.eqF, negB, bnds, optE, XM, Vc.cells, isV, Vc.one, Xs, getB, setB, XZ, Xp, Xi, Yf, Xl, XT, resS, tupS, ofV, Yj, Nat.reduceAdd, Nat.reduceSub, Nat.reduceLT, Nat.reduceLeDiff, reduceIte, reduceCtorEq, Nat.reduceEqDiff, implies_true, forall_const, lawV]
  refine callV_sc (hf _) ?_
  rintro r b ⟨hkp, y, rfl, hx⟩
  have hb1 := hkp.at (j := 1) rfl
  have hbl := (List.getElem?_eq_some_iff.1 hb1).1
  have hbo1 := fun X => at_old hb1 [X]
  have hbs1 : ∀ X Y, ((b ++ [X]).set 1 Y)[1]? = some Y := fun X Y => List.getElem?_set_self (by simp; omega)
  simp only [vcS, ↓Xn, ↓Xo, ↓Xg, ↓Xd, ↓Xe, ↓Xf, XQ, XG, gvU, setR, orN, Yl, Xm, Yn, Yi, Xa, Ym, Xc, Xc.sizeIs, reS, Xj, Yb, mmS, Xq, dstS, srcS, XP, XN, XO, Yc, XA, Yg, Xy, XE, endV, gdst, Yk, XR, Yd, goR, XC, sBox, XU, XH, Xr, sNil, XL, Xt, XV, Xv, goD, valD, XI, XF, XB, dNil, XK, XD, dBox, dN, Xz, opL, idxs, pv, XX, Ya, XJ, Xb, Xu, oBin, oUn, Ye, XW, Xw, Xx, Xh, Xk, XY, XS, oLen, lenS, Yh, ev, lk, Vc.put, fits, kd, sz, Tryz.VΓ, Tryz.Γs, bin, binI, binS, ifK, ar, eqB, eqS, eqK, eqK.eqF, negB, bnds, optE, XM, Vc.cells, isV, Vc.one, Xs, getB, setB, XZ, Xp, Xi, Yf, Xl, XT, resS, tupS, ofV, Yj, Nat.reduceAdd, Nat.reduceSub, Nat.reduceLT, Nat.reduceLeDiff, reduceIte, reduceCtorEq, Nat.reduceEqDiff, implies_true, forall_const, lawV, hb1, hbo1, hbs1, at_new, set_new]
  refine ⟨fun h1 => (by rw [if_pos (by simpa using h1)]; rfl), fun h1 => ?_⟩
  have h1 : e = 0 := by simpa using h1
  rw [if_neg (by simp [h1])]
  obtain ⟨hh, hm, hp⟩ := hha h1
  obtain ⟨hl, hseg⟩ := hdec hm hp
  obtain ⟨j, rfl, hLj, hj⟩ := hx h1
  have hsf := split_flat 58 d.id
  obtain ⟨T, hT⟩ := cut_head 58 d.id
  rw [hT] at hseg hsf hj ⊢
  generalize (cutC 58 d.id).1 = c at hseg hsf hj ⊢
  simp only [List.flatten_cons, List.length_append, List.length_cons, List.tail_cons, List.map_cons] at hsf hj ⊢
  have hjl := (List.getElem?_eq_some_iff.1 hj).1
  have hjo := fun X => at_old hj [X]
  simp only [List.length_cons, List.length_nil] at hLj
  simp only [vcS, ↓Xn, ↓Xo, ↓Xg, ↓Xd, ↓Xe, ↓Xf, XQ, XG, gvU, setR, orN, Yl, Xm, Yn, Yi, Xa, Ym, Xc, Xc.sizeIs, reS, Xj, Yb, mmS, Xq, dstS, srcS, XP, XN, XO, Yc, XA, Yg, Xy, XE, endV, gdst, Yk, XR, Yd, goR, XC, sBox, XU, XH, Xr, sNil, XL, Xt, XV, Xv, goD, valD, XI, XF, XB, dNil, XK, XD, dBox, dN, Xz, opL, idxs, pv, XX, Ya, XJ, Xb, Xu, oBin, oUn, Ye, XW, Xw, Xx, Xh, Xk, XY, XS, oLen, lenS, Yh, ev, lk, Vc.put, fits, kd, sz, Tryz.VΓ, Tryz.Γs, bin, binI, binS, ifK, ar, eqB, eqS, eqK, eqK.eqF, negB, bnds, optE, XM, Vc.cells, isV, Vc.one, Xs, getB, setB, XZ, Xp, Xi, Yf, Xl, XT, resS, tupS, ofV, Yj, Nat.reduceAdd, Nat.reduceSub, Nat.reduceLT, Nat.reduceLeDiff, reduceIte, reduceCtorEq, Nat.reduceEqDiff, implies_true, forall_const, lawV, hb1, hbo1, hbs1, at_new, set_new, hj, hjo]
  refine ⟨⟨by omega, by omega⟩, ?_⟩
  have e0 : T.length + 1 - Int.toNat 1 = T.length := by simp
  have e1 : List.drop (Int.toNat 1 * 1) (List.take ((T.length + 1) * 1) (SV.str c :: T.map SV.str)) = T.map SV.str := by
    rw [List.take_of_length_le (by simp)]; simp
  simp only [e0, e1]
  have hfu := flat_up T
  have hfit : ∀ q : Bytes, q.length ≤ 100000 → Fair ⟨x, p, q, [], [], false, false⟩ := fun q hq => by
    obtain ⟨-, -, -, k4, k5, k6⟩ := hostPort_back hh
    exact ⟨by simp only [List.length_nil]; omega, by simp only; omega, by simp only; omega⟩
  refine loopV_mk (fun σ => ∃ k : Nat, k ≤ T.length ∧ lk 2 σ.t = some (.p 1 0) ∧ lk 3 σ.t = some (.int .i64 0) ∧ lk 4 σ.t = some (.o j (T.length + 1)) ∧ lk 5 σ.t = some (.p b.length 0) ∧ lk 7 σ.t = some (.str ((T.take k).flatMap segUp)) ∧ lk 24 σ.t = some (.o (b.length + 1) T.length) ∧ lk 25 σ.t = some (.int .i64 T.length) ∧ lk 26 σ.t = some (.int .i64 k) ∧
    σ.b[1]? = some (.cells [.str [], .int .i64 0, .str [], .str [], .str [], .bool false, .bool false] 29 true) ∧ σ.b[b.length]? = some (.cells [.str x, .int .i64 p] 33 true) ∧ σ.b[b.length + 1]? = some (.own (T.map SV.str) 9 1 T.length false) ∧ (∃ c m, σ.b[j]? = some (.own c 9 1 (T.length + 1) m)) ∧ (T.take k).all segOk = true) (fun σ => T.length - lkI 26 σ)
    ⟨0, by omega, rfl, rfl, rfl, rfl, rfl, rfl, rfl, rfl, at_old (by rw [List.getElem?_set_ne (by omega)]; exact hbo1 _) _, at_old (by rw [List.getElem?_set_ne (by omega)]; exact at_new _ _) _, (by rw [List.getElem?_append_right (by simp)]; simp), ⟨_, _, at_old (List.getElem?_set_self (by simp; omega)) _⟩, rfl⟩ ?_
  have hbL : 1 < b.length := hbl
  clear hj hjo hb1 hbo1 hbs1 hkp hx
  generalize b.length = N at *
  rintro ⟨t, B⟩ ⟨k, hk, h2, h3, h4, h5, h7, h24, h25, h26, hB1, hBN, hBr, ⟨cj, mj, hBj⟩, hok⟩
  simp only at h2 h3 h4 h5 h7 h24 h25 h26 hB1 hBN hBr hBj
  rw [lkI_eq h26]
  have hfl := flat_take_le (g := segUp) (L := T) (k := k)
  have hB11 : ∀ X, (B.set 1 X)[1]? = some X := fun X => List.getElem?_set_self (List.getElem?_eq_some_iff.1 hB1).1
  by_cases hlt : k < T.length
  · have hx : (T.map SV.str)[k * 1]? = some (.str T[k]) := by simp [hlt]
    have hsg := hseg T[k] (List.mem_cons_of_mem _ (List.getElem_mem hlt))
    have hft := flat_take (g := segUp) hlt
    have pd := p_r3_Decode T[k]
    have hup : segUp T[k] = 47 :: pctEncode [] (pctDecode T[k]).1 := rfl
    have hdl := pctDecode_len T[k]
    have hel := pctEncode_len [] (pctDecode T[k]).1
    have pe := p_r3_Encode (pctDecode T[k]).1 [] (by omega) (by simp)
    have hso : segOk T[k] = !((((pctDecode T[k]).1 == []) || ((pctDecode T[k]).1 == [46])) || ((pctDecode T[k]).1 == [46, 46])) := by
      have hd0 : (pctDecode T[k]).2 = 0 := by rw [decode_seg (by omega), if_neg hsg.1]
      unfold segOk
      rw [hd0]
      cases h2 : (pctDecode T[k]).1 == [] <;> cases h3 : (pctDecode T[k]).1 == [46] <;> cases h4 : (pctDecode T[k]).1 == [46, 46] <;> simp_all [bne]
    have hbad : segOk T[k] = false → T.all segOk = false := fun h => all_not hlt h
    have hgood : segOk T[k] = true → (T.take (k + 1)).all segOk = true := fun h => all_take_snoc hlt hok h
    simp only [vcS, ↓Xn, ↓Xo, ↓Xg, ↓Xd, ↓Xe, ↓Xf, XQ, XG, gvU, setR, orN, Yl, Xm, Yn, Yi, Xa, Ym, Xc, Xc.sizeIs, reS, Xj, Yb, mmS, Xq, dstS, srcS, XP, XN, XO, Yc, XA, Yg, Xy, XE, endV, gdst, Yk, XR, Yd, goR, XC, sBox, XU, XH, Xr, sNil, XL, Xt, XV, Xv, goD, valD, XI, XF, XB, dNil, XK, XD, dBox, dN, Xz, opL, idxs, pv, XX, Ya, XJ, Xb, Xu, oBin, oUn, Ye, XW, Xw, Xx, Xh, Xk, XY, XS, oLen, lenS, Yh, ev, lk, Vc.put, fits, kd, sz, Tryz.VΓ, Tryz.Γs, bin, binI, binS, ifK, ar, eqB, eqS, eqK, eqK.eqF, negB, bnds, optE, XM, Vc.cells, isV, Vc.one, Xs, getB, setB, XZ, Xp, Xi, Yf, Xl, XT, resS, tupS, ofV, Yj, Nat.reduceAdd, Nat.reduceSub, Nat.reduceLT, Nat.reduceLeDiff, reduceIte, reduceCtorEq, Nat.reduceEqDiff, implies_true, forall_const, lawV, h2, h3, h4, h5, h7, h24, h25, h26, hB1, hBN, hBr, hx]
    refine ⟨fun _ => ⟨⟨by omega, by omega⟩, by simp; omega, ?_⟩, fun h => absurd h (by simp; omega)⟩
    generalize pctDecode T[k] = X at *
    obtain ⟨w, ew⟩ := X
    simp only at pd pe hso hup hdl hel
    have fin : ∀ (t' : List (Nat × SV)), segOk T[k] = true → lk 26 t' = some (.int .i64 ((k : Int) + 1)) → T.length - lkI 26 ⟨t', B⟩ < T.length - (k : Int).toNat := fun t' _ k6 => by rw [lkI_eq (σ := ⟨t', B⟩) k6]; omega
    (refine callV_pc pd ?_; simp only [vcS, ↓Xn, ↓Xo, ↓Xg, ↓Xd, ↓Xe, ↓Xf, XQ, XG, gvU, setR, orN, Yl, Xm, Yn, Yi, Xa, Ym, Xc, Xc.sizeIs, reS, Xj, Yb, mmS, Xq, dstS, srcS, XP, XN, XO, Yc, XA, Yg, Xy, XE, endV, gdst, Yk, XR, Yd, goR, XC, sBox, XU, XH, Xr, sNil, XL, Xt, XV, Xv, goD, valD, XI, XF, XB, dNil, XK, XD, dBox, dN, Xz, opL, idxs, pv, XX, Ya, XJ, Xb, Xu, oBin, oUn, Ye, XW, Xw, Xx, Xh, Xk, XY, XS, oLen, lenS, Yh, ev, lk, Vc.put, fits, kd, sz, Tryz.VΓ, Tryz.Γs, bin, binI, binS, ifK, ar, eqB, eqS, eqK, eqK.eqF, negB, bnds, optE, XM, Vc.cells, isV, Vc.one, Xs, getB, setB, XZ, Xp, Xi, Yf, Xl, XT, resS, tupS, ofV, Yj, Nat.reduceAdd, Nat.reduceSub, Nat.reduceLT, Nat.reduceLeDiff, reduceIte, reduceCtorEq, Nat.reduceEqDiff, implies_true, forall_const, lawV, h2, h3, h4, h5, h7, h24, h25, h26, hB1, hBN, hBr, hB11])
    refine ⟨fun g1 => ⟨fun g2 => ⟨fun g3 => ?_, fun g3 => ?_⟩, fun g2 => ?_⟩, fun g1 => ?_⟩
    · have hb := hbad (by rw [hso, g3]; simp)
      simp only [hb, if_true]
      rfl
    · have hso : segOk T[k] = true := by rw [hso, g1, g2, g3]; rfl
      (refine callV_pc pe ?_; simp only [vcS, ↓Xn, ↓Xo, ↓Xg, ↓Xd, ↓Xe, ↓Xf, XQ, XG, gvU, setR, orN, Yl, Xm, Yn, Yi, Xa, Ym, Xc, Xc.sizeIs, reS, Xj, Yb, mmS, Xq, dstS, srcS, XP, XN, XO, Yc, XA, Yg, Xy, XE, endV, gdst, Yk, XR, Yd, goR, XC, sBox, XU, XH, Xr, sNil, XL, Xt, XV, Xv, goD, valD, XI, XF, XB, dNil, XK, XD, dBox, dN, Xz, opL, idxs, pv, XX, Ya, XJ, Xb, Xu, oBin, oUn, Ye, XW, Xw, Xx, Xh, Xk, XY, XS, oLen, lenS, Yh, ev, lk, Vc.put, fits, kd, sz, Tryz.VΓ, Tryz.Γs, bin, binI, binS, ifK, ar, eqB, eqS, eqK, eqK.eqF, negB, bnds, optE, XM, Vc.cells, isV, Vc.one, Xs, getB, setB, XZ, Xp, Xi, Yf, Xl, XT, resS, tupS, ofV, Yj, Nat.reduceAdd, Nat.reduceSub, Nat.reduceLT, Nat.reduceLeDiff, reduceIte, reduceCtorEq, Nat.reduceEqDiff, implies_true, forall_const, lawV, h2, h3, h4, h5, h7, h24, h25, h26, hB1, hBN, hBr])
      refine ⟨by omega, by omega, ⟨by omega, by omega⟩, ⟨k + 1, by omega, by rw [hft, hup], rfl, ⟨cj, mj, hBj⟩, hgood hso⟩, fin _ hso rfl⟩
    · have hb := hbad (by rw [hso, g2]; simp)
      simp only [hb, if_true]
      rfl
    · have hb := hbad (by rw [hso, g1]; simp)
      simp only [hb, if_true]
      rfl
  · have hie : k = T.length := by omega
    subst hie
    rw [List.take_length] at h7 hok
    have hlf : decide ((T.length : Int) < T.length) = false := by simp
    have hBl := (List.getElem?_eq_some_iff.1 hB1).1
    have hBo1 := fun X => at_old hB1 [X]
    have hBs1 : ∀ X Y, ((B ++ [X]).set 1 Y)[1]? = some Y := fun X Y => List.getElem?_set_self (by simp; omega)
    have hTl : (((T.length + 1 : Nat) : Int) == 1) = decide (T = []) := by
      cases T <;> simp
      omega
    have hpt : toPath T = (if T = [] then [47, 46, 119, 101, 108, 108, 45, 107, 110, 111, 119, 110] else T.flatMap segUp) ++ [47, 100, 105, 100, 46, 106, 115, 111, 110] := by
      unfold toPath
      by_cases hT : T = []
      · rw [if_pos hT, if_pos hT]; rfl
      · rw [if_neg hT, if_neg hT]; rfl
    have hpl : (toPath T).length ≤ 100000 := by rw [hpt]; split <;> simp only [List.length_append, List.length_cons, List.length_nil] <;> omega
    have pf := p_r7_Format ⟨x, p, toPath T, [], [], false, false⟩ (hfit _ hpl)
    unfold wsv at pf
    simp only at pf
    by_cases hT : T = []
    · rw [if_pos hT] at hpt
      rw [hpt] at pf ⊢
      have hTd : decide (T = []) = true := decide_eq_true hT
      simp only [List.cons_append, List.nil_append] at pf
      simp only [vcS, ↓Xn, ↓Xo, ↓Xg, ↓Xd, ↓Xe, ↓Xf, XQ, XG, gvU, setR, orN, Yl, Xm, Yn, Yi, Xa, Ym, Xc, Xc.sizeIs, reS, Xj, Yb, mmS, Xq, dstS, srcS, XP, XN, XO, Yc, XA, Yg, Xy, XE, endV, gdst, Yk, XR, Yd, goR, XC, sBox, XU, XH, Xr, sNil, XL, Xt, XV, Xv, goD, valD, XI, XF, XB, dNil, XK, XD, dBox, dN, Xz, opL, idxs, pv, XX, Ya, XJ, Xb, Xu, oBin, oUn, Ye, XW, Xw, Xx, Xh, Xk, XY, XS, oLen, lenS, Yh, ev, lk, Vc.put, fits, kd, sz, Tryz.VΓ, Tryz.Γs, bin, binI, binS, ifK, ar, eqB, eqS, eqK, eqK.eqF, negB, bnds, optE, XM, Vc.cells, isV, Vc.one, Xs, getB, setB, XZ, Xp, Xi, Yf, Xl, XT, resS, tupS, ofV, Yj, Nat.reduceAdd, Nat.reduceSub, Nat.reduceLT, Nat.reduceLeDiff, reduceIte, reduceCtorEq, Nat.reduceEqDiff, implies_true, forall_const, lawV, h2, h3, h4, h5, h7, h24, h25, h26, hB1, hBN, hBr, hBj, hBo1, hBs1, hlf, hok, hTl, hTd, at_new, set_new]
      (refine callV_pc pf ?_; simp only [vcS, ↓Xn, ↓Xo, ↓Xg, ↓Xd, ↓Xe, ↓Xf, XQ, XG, gvU, setR, orN, Yl, Xm, Yn, Yi, Xa, Ym, Xc, Xc.sizeIs, reS, Xj, Yb, mmS, Xq, dstS, srcS, XP, XN, XO, Yc, XA, Yg, Xy, XE, endV, gdst, Yk, XR, Yd, goR, XC, sBox, XU, XH, Xr, sNil, XL, Xt, XV, Xv, goD, valD, XI, XF, XB, dNil, XK, XD, dBox, dN, Xz, opL, idxs, pv, XX, Ya, XJ, Xb, Xu, oBin, oUn, Ye, XW, Xw, Xx, Xh, Xk, XY, XS, oLen, lenS, Yh, ev, lk, Vc.put, fits, kd, sz, Tryz.VΓ, Tryz.Γs, bin, binI, binS, ifK, ar, eqB, eqS, eqK, eqK.eqF, negB, bnds, optE, XM, Vc.cells, isV, Vc.one, Xs, getB, setB, XZ, Xp, Xi, Yf, Xl, XT, resS, tupS, ofV, Yj, Nat.reduceAdd, Nat.reduceSub, Nat.reduceLT, Nat.reduceLeDiff, reduceIte, reduceCtorEq, Nat.reduceEqDiff, implies_true, forall_const, lawV, h2, h3, h4, h5, h7, h24, h25, h26, hB1, hBN, hBr, hBj, hBo1, hBs1, hlf, hok, hTl, hTd, at_new, set_new])
      unfold toUrlEnd
      exact ⟨fun hl => (by rw [if_pos (by simp only [decide_eq_true_eq, decide_eq_false_iff_not] at hl; omega)]; rfl), fun hl => (by rw [if_neg (by simp only [decide_eq_true_eq, decide_eq_false_iff_not] at hl; omega)]; rfl)⟩
    · rw [if_neg hT] at hpt
      rw [hpt] at pf ⊢
      have hTd : decide (T = []) = false := decide_eq_false hT
      simp only [vcS, ↓Xn, ↓Xo, ↓Xg, ↓Xd, ↓Xe, ↓Xf, XQ, XG, gvU, setR, orN, Yl, Xm, Yn, Yi, Xa, Ym, Xc, Xc.sizeIs, reS, Xj, Yb, mmS, Xq, dstS, srcS, XP, XN, XO, Yc, XA, Yg, Xy, XE, endV, gdst, Yk, XR, Yd, goR, XC, sBox, XU, XH, Xr, sNil, XL, Xt, XV, Xv, goD, valD, XI, XF, XB, dNil, XK, XD, dBox, dN, Xz, opL, idxs, pv, XX, Ya, XJ, Xb, Xu, oBin, oUn, Ye, XW, Xw, Xx, Xh, Xk, XY, XS, oLen, lenS, Yh, ev, lk, Vc.put, fits, kd, sz, Tryz.VΓ, Tryz.Γs, bin, binI, binS, ifK, ar, eqB, eqS, eqK, eqK.eqF, negB, bnds, optE, XM, Vc.cells, isV, Vc.one, Xs, getB, setB, XZ, Xp, Xi, Yf, Xl, XT, resS, tupS, ofV, Yj, Nat.reduceAdd, Nat.reduceSub, Nat.reduceLT, Nat.reduceLeDiff, reduceIte, reduceCtorEq, Nat.reduceEqDiff, implies_true, forall_const, lawV, h2, h3, h4, h5, h7, h24, h25, h26, hB1, hBN, hBr, hBj, hBo1, hBs1, hlf, hok, hTl, hTd, at_new, set_new]
      refine ⟨by omega, ?_⟩
      (refine callV_pc pf ?_; simp only [vcS, ↓Xn, ↓Xo, ↓Xg, ↓Xd, ↓Xe, ↓Xf, XQ, XG, gvU, setR, orN, Yl, Xm, Yn, Yi, Xa, Ym, Xc, Xc.sizeIs, reS, Xj, Yb, mmS, Xq, dstS, srcS, XP, XN, XO, Yc, XA, Yg, Xy, XE, endV, gdst, Yk, XR, Yd, goR, XC, sBox, XU, XH, Xr, sNil, XL, Xt, XV, Xv, goD, valD, XI, XF, XB, dNil, XK, XD, dBox, dN, Xz, opL, idxs, pv, XX, Ya, XJ, Xb, Xu, oBin, oUn, Ye, XW, Xw, Xx, Xh, Xk, XY, XS, oLen, lenS, Yh, ev, lk, Vc.put, fits, kd, sz, Tryz.VΓ, Tryz.Γs, bin, binI, binS, ifK, ar, eqB, eqS, eqK, eqK.eqF, negB, bnds, optE, XM, Vc.cells, isV, Vc.one, Xs, getB, setB, XZ, Xp, Xi, Yf, Xl, XT, resS, tupS, ofV, Yj, Nat.reduceAdd, Nat.reduceSub, Nat.reduceLT, Nat.reduceLeDiff, reduceIte, reduceCtorEq, Nat.reduceEqDiff, implies_true, forall_const, lawV, h2, h3, h4, h5, h7, h24, h25, h26, hB1, hBN, hBr, hBj, hBo1, hBs1, hlf, hok, hTl, hTd, at_new, set_new])
      unfold toUrlEnd
      exact ⟨fun hl => (by rw [if_pos (by simp only [decide_eq_true_eq, decide_eq_false_iff_not] at hl; omega)]; rfl), fun hl => (by rw [if_neg (by simp only [decide_eq_true_eq, decide_eq_false_iff_not] at hl; omega)]; rfl)⟩
theorem downOk_two (x : Bytes) : downOk x = (x.all downC && !((pctDecode x).1 == [])) := by
  unfold downOk
  by_cases h : (pctDecode x).2 = 0
  · rw [h]; cases x.all downC <;> simp [bne]
  · have h2 : (pctDecode x).1 = [] := by
      unfold pctDecode at h ⊢
      split
      · rfl
      · split
        · rfl
        · rename_i h1 h2; rw [if_neg h1, if_neg h2] at h; exact absurd rfl h
    rw [h2]; cases x.all downC <;> simp
theorem hroot_bad {u : Url} {L : List Bytes} (h : u.path = rootS → L.all downOk = true) (hb : L.all downOk = false) : fromSegs u L = (Did.none, 110) := by
  unfold fromSegs
  rw [if_neg (fun k => by rw [h k] at hb; cases hb), if_pos hb]
theorem fromSegs_end {u : Url} {L : List Bytes} (h : L.all downOk = true) : fromSegs u L = fromEnd ⟨webS, idBase u ++ if u.path = rootS then [] else L.flatMap segDown⟩ := by
  unfold fromSegs
  by_cases k : u.path = rootS
  · rw [if_pos k, if_pos k, List.append_nil]
  · rw [if_neg k, if_neg k, if_neg (by rw [h]; simp)]
set_option maxRecDepth 20000 in
set_option maxHeartbeats 4000000 in
theorem p_r11_FromURL (u : Url) (hk : Fair u) : PC Tryz.V 32 [wsv u] (.tup [dsv (fromUrl u).1, .int .i64 (fromUrl u).2]) := by
  have pv1 := p_r7_Valid u hk
  have hpl := hk.1
  unfold wsv at pv1 ⊢
  cases hv : urlValid u
  · rw [hv] at pv1
    rw [show fromUrl u = (Did.none, 8) from if_pos hv]
    refine pc_of 3000 Tryz.func32 rfl Tryz.ntmps32 Tryz.results32 Tryz.call32 (by simp) (by simp [flat, flat.flatL, dsv, wsv]) (by simp [flat, flat.flatL, dsv, wsv]) ?_
    simp only [vcS, ↓Xn, ↓Xo, ↓Xg, ↓Xd, ↓Xe, ↓Xf, XQ, XG, gvU, setR, orN, Yl, Xm, Yn, Yi, Xa, Ym, Xc, Xc.sizeIs, reS, Xj, Yb, mmS, Xq, dstS, srcS, XP, XN, XO, Yc, XA, Yg, Xy, XE, endV, gdst, Yk, XR, Yd, goR, XC, sBox, XU, XH, Xr, sNil, XL, Xt, XV, Xv, goD, valD, XI, XF, XB, dNil, XK, XD, dBox, dN, Xz, opL, idxs, pv, XX, Ya, XJ, Xb, Xu, oBin, oUn, Ye, XW, Xw, Xx, Xh, Xk, XY, XS, oLen, lenS, Yh, ev, lk, Vc.put, fits, kd, sz, Tryz.VΓ, Tryz.Γs, bin, binI, binS, ifK, ar, eqB, eqS, eqK, eqK.eqF, negB, bnds, optE, XM, Vc.cells, isV, Vc.one, Xs, getB, setB, XZ, Xp, Xi, Yf, Xl, XT, resS, tupS, ofV, Yj, Nat.reduceAdd, Nat.reduceSub, Nat.reduceLT, Nat.reduceLeDiff, reduceIte, reduceCtorEq, Nat.reduceEqDiff, implies_true, forall_const, lawV]
    (refine callV_pc pv1 ?_; simp only [vcS, ↓Xn, ↓Xo, ↓Xg, ↓Xd, ↓Xe, ↓Xf, XQ, XG, gvU, setR, orN, Yl, Xm, Yn, Yi, Xa, Ym, Xc, Xc.sizeIs, reS, Xj, Yb, mmS, Xq, dstS, srcS, XP, XN, XO, Yc, XA, Yg, Xy, XE, endV, gdst, Yk, XR, Yd, goR, XC, sBox, XU, XH, Xr, sNil, XL, Xt, XV, Xv, goD, valD, XI, XF, XB, dNil, XK, XD, dBox, dN, Xz, opL, idxs, pv, XX, Ya, XJ, Xb, Xu, oBin, oUn, Ye, XW, Xw, Xx, Xh, Xk, XY, XS, oLen, lenS, Yh, ev, lk, Vc.put, fits, kd, sz, Tryz.VΓ, Tryz.Γs, bin, binI, binS, ifK, ar, eqB, eqS, eqK, eqK.eqF, negB, bnds, optE, XM, Vc.cells, isV, Vc.one, Xs, getB, setB, XZ, Xp, Xi, Yf, Xl, XT, resS, tupS, ofV, Yj, Nat.reduceAdd, Nat.reduceSub, Nat.reduceLT, Nat.reduceLeDiff, reduceIte, reduceCtorEq, Nat.reduceEqDiff, implies_true, forall_const, lawV, beq_self_eq_true, bne_self_eq_false, Int.reduceBEq, Int.reduceBNe, Int.reduceLT, Int.reduceLE])
    rfl
  obtain ⟨T, z, hT, hzl, hL0, hp4⟩ := valid_split hv
  rw [fromUrl_at hv hT hzl]
  rw [hv] at pv1
  have hsf := split_flat 47 u.path
  have hpth : u.path = rootS → T.dropLast.all downOk = true := by
    intro k
    rw [k] at hT
    obtain rfl : T = [([46, 119, 101, 108, 108, 45, 107, 110, 111, 119, 110] : List UInt8), lastS] := by
      have e : splitC 47 rootS = [[], ([46, 119, 101, 108, 108, 45, 107, 110, 111, 119, 110] : List UInt8), lastS] := by decide +kernel
      rw [e] at hT
      exact (List.cons.inj hT).2.symm
    decide +kernel
  refine pc_of 3000 Tryz.func32 rfl Tryz.ntmps32 Tryz.results32 Tryz.call32 (by simp) (by simp [flat, flat.flatL, dsv, wsv]) (by simp [flat, flat.flatL, dsv, wsv]) ?_
  simp only [vcS, ↓Xn, ↓Xo, ↓Xg, ↓Xd, ↓Xe, ↓Xf, XQ, XG, gvU, setR, orN, Yl, Xm, Yn, Yi, Xa, Ym, Xc, Xc.sizeIs, reS, Xj, Yb, mmS, Xq, dstS, srcS, XP, XN, XO, Yc, XA, Yg, Xy, XE, endV, gdst, Yk, XR, Yd, goR, XC, sBox, XU, XH, Xr, sNil, XL, Xt, XV, Xv, goD, valD, XI, XF, XB, dNil, XK, XD, dBox, dN, Xz, opL, idxs, pv, XX, Ya, XJ, Xb, Xu, oBin, oUn, Ye, XW, Xw, Xx, Xh, Xk, XY, XS, oLen, lenS, Yh, ev, lk, Vc.put, fits, kd, sz, Tryz.VΓ, Tryz.Γs, bin, binI, binS, ifK, ar, eqB, eqS, eqK, eqK.eqF, negB, bnds, optE, XM, Vc.cells, isV, Vc.one, Xs, getB, setB, XZ, Xp, Xi, Yf, Xl, XT, resS, tupS, ofV, Yj, Nat.reduceAdd, Nat.reduceSub, Nat.reduceLT, Nat.reduceLeDiff, reduceIte, reduceCtorEq, Nat.reduceEqDiff, implies_true, forall_const, lawV]
  (refine callV_pc pv1 ?_; simp only [vcS, ↓Xn, ↓Xo, ↓Xg, ↓Xd, ↓Xe, ↓Xf, XQ, XG, gvU, setR, orN, Yl, Xm, Yn, Yi, Xa, Ym, Xc, Xc.sizeIs, reS, Xj, Yb, mmS, Xq, dstS, srcS, XP, XN, XO, Yc, XA, Yg, Xy, XE, endV, gdst, Yk, XR, Yd, goR, XC, sBox, XU, XH, Xr, sNil, XL, Xt, XV, Xv, goD, valD, XI, XF, XB, dNil, XK, XD, dBox, dN, Xz, opL, idxs, pv, XX, Ya, XJ, Xb, Xu, oBin, oUn, Ye, XW, Xw, Xx, Xh, Xk, XY, XS, oLen, lenS, Yh, ev, lk, Vc.put, fits, kd, sz, Tryz.VΓ, Tryz.Γs, bin, binI, binS, ifK, ar, eqB, eqS, eqK, eqK.eqF, negB, bnds, optE, XM, Vc.cells, isV, Vc.one, Xs, getB, setB, XZ, Xp, Xi, Yf, Xl, XT, resS, tupS, ofV, Yj, Nat.reduceAdd, Nat.reduceSub, Nat.reduceLT, Nat.reduceLeDiff, reduceIte, reduceCtorEq, Nat.reduceEqDiff, implies_true, forall_const, lawV, beq_self_eq_true, bne_self_eq_false, Int.reduceBEq, Int.reduceBNe, Int.reduceLT, Int.reduceLE])
  refine callV_sc (sc_Split u.path 47 (by omega)) ?_
  rintro r b ⟨j, rfl, hLj, hj, hkp⟩
  rw [hT] at hsf hj ⊢
  generalize (cutC 47 u.path).1 = c at *
  clear hT
  simp only [List.flatten_cons, List.length_append, List.length_cons] at hsf
  simp only at hLj hj hkp
  have e0 : T.length + 1 - Int.toNat 1 = T.length := by simp
  have e1 : List.drop (Int.toNat 1 * 1) (List.take ((T.length + 1) * 1) (SV.str c :: T.map SV.str)) = T.map SV.str := by
    rw [List.take_of_length_le (by simp)]; simp
  have hz : (T.map SV.str)[((T.length : Int) - 1).toNat * 1]? = some (.str z) := by
    rw [show ((T.length : Int) - 1).toNat * 1 = T.length - 1 by omega, List.getElem?_map, ← List.getLast?_eq_getElem?, hzl]
    rfl
  simp only [List.map_cons, List.length_cons] at hj
  have hjl := (List.getElem?_eq_some_iff.1 hj).1
  have hjo := fun X => at_old hj [X]
  have hb1 := hkp.at (j := 1) rfl
  have hb0 := hkp.at (j := 0) rfl
  have hbo1 := fun X => at_old hb1 [X]
  have hbo0 := fun X => at_old hb0 [X]
  simp only [List.length_cons, List.length_nil] at hLj
  have hQ0 : ∀ Y Z, (b.set j Y ++ [Z])[0]? = b[0]? := fun Y Z => by
    rw [List.getElem?_append_left (by rw [List.length_set]; omega), List.getElem?_set_ne (by omega)]
  have hQ1 : ∀ Y Z, (b.set j Y ++ [Z])[1]? = b[1]? := fun Y Z => by
    rw [List.getElem?_append_left (by rw [List.length_set]; omega), List.getElem?_set_ne (by omega)]
  have hQn : ∀ Y Z, (b.set j Y ++ [Z])[b.length]? = some Z := fun Y Z => by
    rw [List.getElem?_append_right (by simp)]; simp
  have hQs : ∀ Y Z W, ((b.set j Y ++ [Z]).set 1 W)[1]? = some W := fun Y Z W => List.getElem?_set_self (by simp; omega)
  have hzS : (z != [100, 105, 100, 46, 106, 115, 111, 110]) = (z != lastS) := rfl
  have hQl : ∀ Y Z, (b.set j Y ++ [Z]).length = b.length + 1 := fun Y Z => by simp
  have hD0 : ∀ Y Z W V, ((b.set j Y ++ [Z]).set b.length W ++ [V])[0]? = b[0]? := fun Y Z W V => by
    rw [List.getElem?_append_left (by simp), List.getElem?_set_ne (by omega)]; exact hQ0 Y Z
  have hD1 : ∀ Y Z W V, ((b.set j Y ++ [Z]).set b.length W ++ [V])[1]? = b[1]? := fun Y Z W V => by
    rw [List.getElem?_append_left (by simp; omega), List.getElem?_set_ne (by omega)]; exact hQ1 Y Z
  have hDn : ∀ Y Z W V, ((b.set j Y ++ [Z]).set b.length W ++ [V])[b.length + 1]? = some V := fun Y Z W V => by
    rw [List.getElem?_append_right (by simp)]; simp
  have hDs : ∀ Y Z W V X, (((b.set j Y ++ [Z]).set b.length W ++ [V]).set 1 X)[1]? = some X := fun Y Z W V X => List.getElem?_set_self (by simp)
  have hdl : T.dropLast.length = T.length - 1 := List.length_dropLast ..
  have e2 : ((T.length : Int) - 1).toNat = T.dropLast.length := by omega
  have e3 : List.take (T.dropLast.length * 1) (T.map SV.str) = T.dropLast.map SV.str := by
    rw [Nat.mul_one, hdl, List.dropLast_eq_take, List.map_take]
  rw [e2] at hz
  have hdf : T.dropLast.flatten.length ≤ T.flatten.length := by
    rw [List.dropLast_eq_take]
    have := congrArg (fun l => (List.flatten l).length) (List.take_append_drop (T.length - 1) T)
    simp only [List.flatten_append, List.length_append] at this
    omega
  have hcan := valid_can hv
  obtain ⟨-, -, -, k4, k5, k6⟩ := hostPort_back hcan.host
  have hfd := flat_down T.dropLast
  have hfit : ∀ q : Bytes, q.length ≤ 100000 → DidFits ⟨webS, q⟩ := fun q hq => ⟨show webS.length ≤ _ by decide, show q.length ≤ _ by omega⟩
  simp only [vcS, ↓Xn, ↓Xo, ↓Xg, ↓Xd, ↓Xe, ↓Xf, XQ, XG, gvU, setR, orN, Yl, Xm, Yn, Yi, Xa, Ym, Xc, Xc.sizeIs, reS, Xj, Yb, mmS, Xq, dstS, srcS, XP, XN, XO, Yc, XA, Yg, Xy, XE, endV, gdst, Yk, XR, Yd, goR, XC, sBox, XU, XH, Xr, sNil, XL, Xt, XV, Xv, goD, valD, XI, XF, XB, dNil, XK, XD, dBox, dN, Xz, opL, idxs, pv, XX, Ya, XJ, Xb, Xu, oBin, oUn, Ye, XW, Xw, Xx, Xh, Xk, XY, XS, oLen, lenS, Yh, ev, lk, Vc.put, fits, kd, sz, Tryz.VΓ, Tryz.Γs, bin, binI, binS, ifK, ar, eqB, eqS, eqK, eqK.eqF, negB, bnds, optE, XM, Vc.cells, isV, Vc.one, Xs, getB, setB, XZ, Xp, Xi, Yf, Xl, XT, resS, tupS, ofV, Yj, Nat.reduceAdd, Nat.reduceSub, Nat.reduceLT, Nat.reduceLeDiff, reduceIte, reduceCtorEq, Nat.reduceEqDiff, implies_true, forall_const, lawV, e0, e1, e2, e3, hz, hj, hjo, hb0, hb1, hQ0, hQ1, hQn, hQs, hQl, hD0, hD1, hDn, hDs, at_new, hzS]
  refine ⟨⟨by omega, by omega⟩, fun hq => ⟨fun hf => ⟨⟨by omega, by omega⟩, ⟨by omega, by omega⟩, by simp; omega, fun hz1 => ?_, fun hz1 => ⟨⟨by omega, by omega⟩, ⟨by omega, by omega⟩, fun hl1 => ?_, fun hl1 => ?_⟩⟩, fun hf => ?_⟩, fun hq => ?_⟩
  · rw [if_neg (by rw [hq]; simp), if_neg (by rw [hf]; simp), if_pos hz1]; rfl
  · rw [if_neg (by rw [hq]; simp), if_neg (by rw [hf]; simp), if_neg (by rw [hz1]; simp), if_pos (by simp at hl1; omega)]; rfl
  · rw [if_neg (by rw [hq]; simp), if_neg (by rw [hf]; simp), if_neg (by rw [hz1]; simp), if_neg (by simp at hl1; omega)]
    have pn := p_r5_Decimal u.port (by omega) (by omega)
    have hdc := decS_length 19 u.port.natAbs (by omega)
    have hxs : ∀ x ∈ T.dropLast, x.length ≤ 4096 := fun x hx => by
      have := length_le_flatten hx
      omega
    have hLl : T.dropLast.length ≤ 5000 := by omega
    have hfdl : (T.dropLast.flatMap segDown).length ≤ 60000 := by omega
    have hE0 := (hD0 (.own (.str c :: T.map SV.str) 9 1 (T.length + 1) false) (.own (T.map SV.str) 9 1 T.length false) .gone (.own (T.dropLast.map SV.str) 9 1 T.dropLast.length false)).trans hb0
    have hE1 := (hD1 (.own (.str c :: T.map SV.str) 9 1 (T.length + 1) false) (.own (T.map SV.str) 9 1 T.length false) .gone (.own (T.dropLast.map SV.str) 9 1 T.dropLast.length false)).trans hb1
    have hEr := hDn (.own (.str c :: T.map SV.str) 9 1 (T.length + 1) false) (.own (T.map SV.str) 9 1 T.length false) .gone (.own (T.dropLast.map SV.str) 9 1 T.dropLast.length false)
    clear hD0 hD1 hDn hDs hQ0 hQ1 hQn hQs hQl hz e3 e1 hdf hfd
    refine ⟨fun hp => ?_, fun hp => ?_⟩
    · have hp0 : ¬ u.port = 0 := by simpa using hp
      have hib : u.host ++ (37 :: 51 :: 65 :: decS u.port.natAbs) = idBase u := by unfold idBase; rw [if_neg hp0]; rfl
      (refine callV_pc pn ?_; simp only [vcS, ↓Xn, ↓Xo, ↓Xg, ↓Xd, ↓Xe, ↓Xf, XQ, XG, gvU, setR, orN, Yl, Xm, Yn, Yi, Xa, Ym, Xc, Xc.sizeIs, reS, Xj, Yb, mmS, Xq, dstS, srcS, XP, XN, XO, Yc, XA, Yg, Xy, XE, endV, gdst, Yk, XR, Yd, goR, XC, sBox, XU, XH, Xr, sNil, XL, Xt, XV, Xv, goD, valD, XI, XF, XB, dNil, XK, XD, dBox, dN, Xz, opL, idxs, pv, XX, Ya, XJ, Xb, Xu, oBin, oUn, Ye, XW, Xw, Xx, Xh, Xk, XY, XS, oLen, lenS, Yh, ev, lk, Vc.put, fits, kd, sz, Tryz.VΓ, Tryz.Γs, bin, binI, binS, ifK, ar, eqB, eqS, eqK, eqK.eqF, negB, bnds, optE, XM, Vc.cells, isV, Vc.one, Xs, getB, setB, XZ, Xp, Xi, Yf, Xl, XT, resS, tupS, ofV, Yj, Nat.reduceAdd, Nat.reduceSub, Nat.reduceLT, Nat.reduceLeDiff, reduceIte, reduceCtorEq, Nat.reduceEqDiff, implies_true, forall_const, lawV])
      rw [hib]
      have hbl : (idBase u).length ≤ 300 := by rw [← hib]; simp only [List.length_append, List.length_cons]; omega
      refine ⟨by omega, by omega, ?_⟩
      refine loopV_mk (fun σ => ∃ k : Nat, k ≤ T.dropLast.length ∧ lk 1 σ.t = some (.p 0 0) ∧ lk 2 σ.t = some (.p 1 0) ∧ lk 3 σ.t = some (.int .i64 0) ∧ lk 5 σ.t = some (.str (idBase u ++ if u.path = rootS then [] else (T.dropLast.take k).flatMap segDown)) ∧ lk 56 σ.t = some (.o (b.length + 1) T.dropLast.length) ∧ lk 57 σ.t = some (.int .i64 T.dropLast.length) ∧ lk 58 σ.t = some (.int .i64 k) ∧
        σ.b[0]? = some (.cells [.str u.host, .int .i64 u.port, .str u.path, .str u.query, .str u.fragment, .bool u.hasQuery, .bool u.hasFrag] 29 true) ∧ σ.b[1]? = some (.cells [.str [], .str []] 24 true) ∧ σ.b[b.length + 1]? = some (.own (T.dropLast.map SV.str) 9 1 T.dropLast.length false) ∧ (T.dropLast.take k).all downOk = true) (fun σ => T.dropLast.length - lkI 58 σ)
        ⟨0, by omega, rfl, rfl, rfl, congrArg (fun x => some (SV.str x)) (by split <;> simp), rfl, rfl, rfl, hE0, hE1, hEr, rfl⟩ ?_
      generalize b.length = N at *
      generalize T.dropLast = L at *
      rintro ⟨t, B⟩ ⟨k, hk, h1, h2, h3, h5, h56, h57, h58, hB0, hB1, hBr, hok⟩
      simp only at h1 h2 h3 h5 h56 h57 h58 hB0 hB1 hBr
      rw [lkI_eq h58]
      have hB11 : ∀ X, (B.set 1 X)[1]? = some X := fun X => List.getElem?_set_self (List.getElem?_eq_some_iff.1 hB1).1
      by_cases hlt : k < L.length
      · have hx : (L.map SV.str)[k * 1]? = some (.str L[k]) := by simp [hlt]
        have hxl := hxs L[k] (List.getElem_mem hlt)
        have hft := flat_take (g := segDown) hlt
        have hbad : downOk L[k] = false → L.all downOk = false := fun h => all_not hlt h
        have hgood : downOk L[k] = true → (L.take (k + 1)).all downOk = true := fun h => all_take_snoc hlt hok h
        simp only [vcS, ↓Xn, ↓Xo, ↓Xg, ↓Xd, ↓Xe, ↓Xf, XQ, XG, gvU, setR, orN, Yl, Xm, Yn, Yi, Xa, Ym, Xc, Xc.sizeIs, reS, Xj, Yb, mmS, Xq, dstS, srcS, XP, XN, XO, Yc, XA, Yg, Xy, XE, endV, gdst, Yk, XR, Yd, goR, XC, sBox, XU, XH, Xr, sNil, XL, Xt, XV, Xv, goD, valD, XI, XF, XB, dNil, XK, XD, dBox, dN, Xz, opL, idxs, pv, XX, Ya, XJ, Xb, Xu, oBin, oUn, Ye, XW, Xw, Xx, Xh, Xk, XY, XS, oLen, lenS, Yh, ev, lk, Vc.put, fits, kd, sz, Tryz.VΓ, Tryz.Γs, bin, binI, binS, ifK, ar, eqB, eqS, eqK, eqK.eqF, negB, bnds, optE, XM, Vc.cells, isV, Vc.one, Xs, getB, setB, XZ, Xp, Xi, Yf, Xl, XT, resS, tupS, ofV, Yj, Nat.reduceAdd, Nat.reduceSub, Nat.reduceLT, Nat.reduceLeDiff, reduceIte, reduceCtorEq, Nat.reduceEqDiff, implies_true, forall_const, lawV, h1, h2, h3, h5, h56, h57, h58, hB0, hB1, hBr, hx, hB11]
        refine ⟨fun _ => ⟨⟨by omega, by omega⟩, by simp; omega, ?_⟩, fun h => absurd h (by simp; omega)⟩
        have hd := downOk_two L[k]
        have hsd : segDown L[k] = 58 :: didEsc (pctDecode L[k]).1 := rfl
        have hdl := pctDecode_len L[k]
        have pd := p_r3_Decode L[k]
        have pe := p_r10_Escaped (pctDecode L[k]).1 (by omega)
        have hel := didEsc_len (pctDecode L[k]).1
        have hflt := flat_take_le (g := segDown) (L := L) (k := k)
        generalize L[k] = x at *
        clear hx
        refine loopV_mk (fun σ => ∃ i : Nat, i ≤ x.length ∧ lk 1 σ.t = some (.p 0 0) ∧ lk 2 σ.t = some (.p 1 0) ∧ lk 3 σ.t = some (.int .i64 0) ∧ lk 5 σ.t = some (.str (idBase u ++ if u.path = rootS then [] else (L.take k).flatMap segDown)) ∧ lk 56 σ.t = some (.o (N + 1) L.length) ∧ lk 57 σ.t = some (.int .i64 L.length) ∧ lk 58 σ.t = some (.int .i64 k) ∧ lk 7 σ.t = some (.str x) ∧ lk 8 σ.t = some (.int .i64 i) ∧
          σ.b[0]? = some (.cells [.str u.host, .int .i64 u.port, .str u.path, .str u.query, .str u.fragment, .bool u.hasQuery, .bool u.hasFrag] 29 true) ∧ σ.b[1]? = some (.cells [.str [], .str []] 24 true) ∧ σ.b[N + 1]? = some (.own (L.map SV.str) 9 1 L.length false) ∧ (x.take i).all downC = true) (fun σ => x.length - lkI 8 σ)
          ⟨0, by omega, h1, h2, h3, h5, h56, h57, h58, rfl, rfl, hB0, hB1, hBr, rfl⟩ ?_
        clear h1 h2 h3 h5 h56 h57 h58 hB0 hB1 hBr hB11 hok hE0 hE1 hEr
        rintro ⟨t, B⟩ ⟨i, hi, h1, h2, h3, h5, h56, h57, h58, h7, h8, hB0, hB1, hBr, hok⟩
        simp only at h1 h2 h3 h5 h56 h57 h58 h7 h8 hB0 hB1 hBr
        rw [lkI_eq h8]
        have hB11 : ∀ X, (B.set 1 X)[1]? = some X := fun X => List.getElem?_set_self (List.getElem?_eq_some_iff.1 hB1).1
        by_cases hil : i < x.length
        · have hg : x.getD i 0 = x[i] := by simp [List.getD, hil]
          have hxbad : downC x[i] = false → L.all downOk = false := fun h => hbad (by rw [hd, all_not hil h]; rfl)
          simp only [vcS, ↓Xn, ↓Xo, ↓Xg, ↓Xd, ↓Xe, ↓Xf, XQ, XG, gvU, setR, orN, Yl, Xm, Yn, Yi, Xa, Ym, Xc, Xc.sizeIs, reS, Xj, Yb, mmS, Xq, dstS, srcS, XP, XN, XO, Yc, XA, Yg, Xy, XE, endV, gdst, Yk, XR, Yd, goR, XC, sBox, XU, XH, Xr, sNil, XL, Xt, XV, Xv, goD, valD, XI, XF, XB, dNil, XK, XD, dBox, dN, Xz, opL, idxs, pv, XX, Ya, XJ, Xb, Xu, oBin, oUn, Ye, XW, Xw, Xx, Xh, Xk, XY, XS, oLen, lenS, Yh, ev, lk, Vc.put, fits, kd, sz, Tryz.VΓ, Tryz.Γs, bin, binI, binS, ifK, ar, eqB, eqS, eqK, eqK.eqF, negB, bnds, optE, XM, Vc.cells, isV, Vc.one, Xs, getB, setB, XZ, Xp, Xi, Yf, Xl, XT, resS, tupS, ofV, Yj, Nat.reduceAdd, Nat.reduceSub, Nat.reduceLT, Nat.reduceLeDiff, reduceIte, reduceCtorEq, Nat.reduceEqDiff, implies_true, forall_const, lawV, h1, h2, h3, h5, h56, h57, h58, hB0, hB1, hBr, h7, h8, hg, hB11]
          refine ⟨fun _ => ⟨⟨by omega, by omega⟩, ?_⟩, fun h => absurd h (by simp; omega)⟩
          (refine callV_pc (p_r1_IsUnreserved x[i]) ?_; simp only [vcS, ↓Xn, ↓Xo, ↓Xg, ↓Xd, ↓Xe, ↓Xf, XQ, XG, gvU, setR, orN, Yl, Xm, Yn, Yi, Xa, Ym, Xc, Xc.sizeIs, reS, Xj, Yb, mmS, Xq, dstS, srcS, XP, XN, XO, Yc, XA, Yg, Xy, XE, endV, gdst, Yk, XR, Yd, goR, XC, sBox, XU, XH, Xr, sNil, XL, Xt, XV, Xv, goD, valD, XI, XF, XB, dNil, XK, XD, dBox, dN, Xz, opL, idxs, pv, XX, Ya, XJ, Xb, Xu, oBin, oUn, Ye, XW, Xw, Xx, Xh, Xk, XY, XS, oLen, lenS, Yh, ev, lk, Vc.put, fits, kd, sz, Tryz.VΓ, Tryz.Γs, bin, binI, binS, ifK, ar, eqB, eqS, eqK, eqK.eqF, negB, bnds, optE, XM, Vc.cells, isV, Vc.one, Xs, getB, setB, XZ, Xp, Xi, Yf, Xl, XT, resS, tupS, ofV, Yj, Nat.reduceAdd, Nat.reduceSub, Nat.reduceLT, Nat.reduceLeDiff, reduceIte, reduceCtorEq, Nat.reduceEqDiff, implies_true, forall_const, lawV, h1, h2, h3, h5, h56, h57, h58, hB0, hB1, hBr, h7, h8, hg, hB11])
          have h37 : ((x[i].toNat : Int) != 37) = (x[i] != 37) := by
            have := byte_is hil 37 (n := 37) rfl
            show (!_) = (!_)
            rw [← this, hg]
          rw [h37]
          have fin : downC x[i] = true → ∀ (t' : List (Nat × SV)), lk 8 t' = some (.int .i64 ((i : Int) + 1)) → (∃ m : Nat, m ≤ x.length ∧ SV.int IntKind.i64 ((i : Int) + 1) = SV.int IntKind.i64 (m : Int) ∧ (x.take m).all downC = true) ∧ x.length - lkI 8 ⟨t', B⟩ < x.length - (i : Int).toNat := fun hm t' k6 =>
            ⟨⟨i + 1, by omega, rfl, all_take_snoc hil hok hm⟩, by rw [lkI_eq (σ := ⟨t', B⟩) k6]; omega⟩
          refine ⟨fun hp => ⟨⟨by omega, by omega⟩, fun h9 => ?_, fun h9 => ⟨⟨by omega, by omega⟩, fin ?_ _ rfl⟩⟩, fun hp => ⟨⟨by omega, by omega⟩, fin ?_ _ rfl⟩⟩
          · have hb := hxbad (by unfold downC; simp at hp h9 ⊢; exact ⟨h9, hp⟩)
            rw [hroot_bad hpth hb]; rfl
          · unfold downC; simp at h9 ⊢; exact .inl h9
          · unfold downC; simp at hp ⊢; exact .inr hp
        · have hie : i = x.length := by omega
          subst hie
          rw [List.take_length] at hok
          have hlf : decide ((x.length : Int) < x.length) = false := by simp
          generalize pctDecode x = X at *
          obtain ⟨w, ew⟩ := X
          simp only at pd pe hd hsd hdl hel
          simp only [vcS, ↓Xn, ↓Xo, ↓Xg, ↓Xd, ↓Xe, ↓Xf, XQ, XG, gvU, setR, orN, Yl, Xm, Yn, Yi, Xa, Ym, Xc, Xc.sizeIs, reS, Xj, Yb, mmS, Xq, dstS, srcS, XP, XN, XO, Yc, XA, Yg, Xy, XE, endV, gdst, Yk, XR, Yd, goR, XC, sBox, XU, XH, Xr, sNil, XL, Xt, XV, Xv, goD, valD, XI, XF, XB, dNil, XK, XD, dBox, dN, Xz, opL, idxs, pv, XX, Ya, XJ, Xb, Xu, oBin, oUn, Ye, XW, Xw, Xx, Xh, Xk, XY, XS, oLen, lenS, Yh, ev, lk, Vc.put, fits, kd, sz, Tryz.VΓ, Tryz.Γs, bin, binI, binS, ifK, ar, eqB, eqS, eqK, eqK.eqF, negB, bnds, optE, XM, Vc.cells, isV, Vc.one, Xs, getB, setB, XZ, Xp, Xi, Yf, Xl, XT, resS, tupS, ofV, Yj, Nat.reduceAdd, Nat.reduceSub, Nat.reduceLT, Nat.reduceLeDiff, reduceIte, reduceCtorEq, Nat.reduceEqDiff, implies_true, forall_const, lawV, h1, h2, h3, h5, h56, h57, h58, hB0, hB1, hBr, h7, h8, hB11, hlf]
          (refine callV_pc pd ?_; simp only [vcS, ↓Xn, ↓Xo, ↓Xg, ↓Xd, ↓Xe, ↓Xf, XQ, XG, gvU, setR, orN, Yl, Xm, Yn, Yi, Xa, Ym, Xc, Xc.sizeIs, reS, Xj, Yb, mmS, Xq, dstS, srcS, XP, XN, XO, Yc, XA, Yg, Xy, XE, endV, gdst, Yk, XR, Yd, goR, XC, sBox, XU, XH, Xr, sNil, XL, Xt, XV, Xv, goD, valD, XI, XF, XB, dNil, XK, XD, dBox, dN, Xz, opL, idxs, pv, XX, Ya, XJ, Xb, Xu, oBin, oUn, Ye, XW, Xw, Xx, Xh, Xk, XY, XS, oLen, lenS, Yh, ev, lk, Vc.put, fits, kd, sz, Tryz.VΓ, Tryz.Γs, bin, binI, binS, ifK, ar, eqB, eqS, eqK, eqK.eqF, negB, bnds, optE, XM, Vc.cells, isV, Vc.one, Xs, getB, setB, XZ, Xp, Xi, Yf, Xl, XT, resS, tupS, ofV, Yj, Nat.reduceAdd, Nat.reduceSub, Nat.reduceLT, Nat.reduceLeDiff, reduceIte, reduceCtorEq, Nat.reduceEqDiff, implies_true, forall_const, lawV, h1, h2, h3, h5, h56, h57, h58, hB0, hB1, hBr, h7, h8, hB11])
          have hfin : ∀ (S : Bytes) (t' : List (Nat × SV)), downOk x = true → S = idBase u ++ (if u.path = rootS then [] else (L.take (k + 1)).flatMap segDown) → lk 58 t' = some (.int .i64 ((k : Int) + 1)) →
              (∃ m : Nat, m ≤ L.length ∧ SV.str S = SV.str (idBase u ++ if u.path = rootS then [] else (L.take m).flatMap segDown) ∧ SV.int IntKind.i64 ((k : Int) + 1) = SV.int IntKind.i64 (m : Int) ∧ (L.take m).all downOk = true) ∧ L.length - lkI 58 ⟨t', B⟩ < L.length - (k : Int).toNat := fun S t' h hS k6 =>
            ⟨⟨k + 1, by omega, by rw [hS], rfl, hgood h⟩, by rw [lkI_eq (σ := ⟨t', B⟩) k6]; omega⟩
          refine ⟨fun g1 => (by rw [hroot_bad hpth (hbad (by rw [hd, g1]; simp))]; rfl), fun g1 => ?_⟩
          have hgx : downOk x = true := by rw [hd, hok, g1]; rfl
          refine ⟨fun g2 => ?_, fun g2 => ?_⟩
          · have hne : ¬ u.path = rootS := fun e => by rw [e] at g2; exact absurd g2 (by decide)
            (refine callV_pc pe ?_; simp only [vcS, ↓Xn, ↓Xo, ↓Xg, ↓Xd, ↓Xe, ↓Xf, XQ, XG, gvU, setR, orN, Yl, Xm, Yn, Yi, Xa, Ym, Xc, Xc.sizeIs, reS, Xj, Yb, mmS, Xq, dstS, srcS, XP, XN, XO, Yc, XA, Yg, Xy, XE, endV, gdst, Yk, XR, Yd, goR, XC, sBox, XU, XH, Xr, sNil, XL, Xt, XV, Xv, goD, valD, XI, XF, XB, dNil, XK, XD, dBox, dN, Xz, opL, idxs, pv, XX, Ya, XJ, Xb, Xu, oBin, oUn, Ye, XW, Xw, Xx, Xh, Xk, XY, XS, oLen, lenS, Yh, ev, lk, Vc.put, fits, kd, sz, Tryz.VΓ, Tryz.Γs, bin, binI, binS, ifK, ar, eqB, eqS, eqK, eqK.eqF, negB, bnds, optE, XM, Vc.cells, isV, Vc.one, Xs, getB, setB, XZ, Xp, Xi, Yf, Xl, XT, resS, tupS, ofV, Yj, Nat.reduceAdd, Nat.reduceSub, Nat.reduceLT, Nat.reduceLeDiff, reduceIte, reduceCtorEq, Nat.reduceEqDiff, implies_true, forall_const, lawV, h1, h2, h3, h5, h56, h57, h58, hB0, hB1, hBr, h7, h8, hB11])
            have hle : (idBase u ++ if u.path = rootS then [] else (L.take k).flatMap segDown).length ≤ 100000 := by
              rw [if_neg hne, List.length_append]; omega
            refine ⟨by omega, by omega, ⟨by omega, by omega⟩, hfin _ _ hgx ?_ rfl⟩
            rw [if_neg hne, if_neg hne, hft, hsd, List.append_assoc]
          · have he : u.path = rootS := by simpa [rootS] using g2
            refine ⟨⟨by omega, by omega⟩, ?_⟩
            have := hfin (idBase u ++ if u.path = rootS then [] else (L.take k).flatMap segDown) ((58, .int .i64 ((k : Int) + 1)) :: t) hgx (by rw [if_pos he, if_pos he]) rfl
            refine ⟨?_, ?_⟩
            · obtain ⟨⟨m, q1, q2, q3, q4⟩, -⟩ := this
              exact ⟨m, q1, q2, q3, q4⟩
            · rw [lkI_eq (k := .i64) (n := (k : Int) + 1) rfl]; omega
      · have hie : k = L.length := by omega
        subst hie
        rw [List.take_length] at h5 hok
        have hlf : decide ((L.length : Int) < L.length) = false := by simp
        rw [fromSegs_end hok]
        have hle : (idBase u ++ if u.path = rootS then [] else L.flatMap segDown).length ≤ 100000 := by
          rw [List.length_append]; split
          · simp; omega
          · omega
        generalize (idBase u ++ if u.path = rootS then [] else L.flatMap segDown) = S at *
        have pf := p_r10_FormatDID ⟨webS, S⟩ (hfit S hle)
        unfold dsv at pf
        simp only at pf
        have hBl := (List.getElem?_eq_some_iff.1 hB1).1
        have hBo1 := fun X => at_old hB1 [X]
        have hBs1 : ∀ X Y, ((B ++ [X]).set 1 Y)[1]? = some Y := fun X Y => List.getElem?_set_self (by simp; omega)
        simp only [vcS, ↓Xn, ↓Xo, ↓Xg, ↓Xd, ↓Xe, ↓Xf, XQ, XG, gvU, setR, orN, Yl, Xm, Yn, Yi, Xa, Ym, Xc, Xc.sizeIs, reS, Xj, Yb, mmS, Xq, dstS, srcS, XP, XN, XO, Yc, XA, Yg, Xy, XE, endV, gdst, Yk, XR, Yd, goR, XC, sBox, XU, XH, Xr, sNil, XL, Xt, XV, Xv, goD, valD, XI, XF, XB, dNil, XK, XD, dBox, dN, Xz, opL, idxs, pv, XX, Ya, XJ, Xb, Xu, oBin, oUn, Ye, XW, Xw, Xx, Xh, Xk, XY, XS, oLen, lenS, Yh, ev, lk, Vc.put, fits, kd, sz, Tryz.VΓ, Tryz.Γs, bin, binI, binS, ifK, ar, eqB, eqS, eqK, eqK.eqF, negB, bnds, optE, XM, Vc.cells, isV, Vc.one, Xs, getB, setB, XZ, Xp, Xi, Yf, Xl, XT, resS, tupS, ofV, Yj, Nat.reduceAdd, Nat.reduceSub, Nat.reduceLT, Nat.reduceLeDiff, reduceIte, reduceCtorEq, Nat.reduceEqDiff, implies_true, forall_const, lawV, h1, h2, h3, h5, h56, h57, h58, hB0, hB1, hBr, hB11, hlf, hBo1, hBs1, at_new, set_new]
        (refine callV_pc pf ?_; simp only [vcS, ↓Xn, ↓Xo, ↓Xg, ↓Xd, ↓Xe, ↓Xf, XQ, XG, gvU, setR, orN, Yl, Xm, Yn, Yi, Xa, Ym, Xc, Xc.sizeIs, reS, Xj, Yb, mmS, Xq, dstS, srcS, XP, XN, XO, Yc, XA, Yg, Xy, XE, endV, gdst, Yk, XR, Yd, goR, XC, sBox, XU, XH, Xr, sNil, XL, Xt, XV, Xv, goD, valD, XI, XF, XB, dNil, XK, XD, dBox, dN, Xz, opL, idxs, pv, XX, Ya, XJ, Xb, Xu, oBin, oUn, Ye, XW, Xw, Xx, Xh, Xk, XY, XS, oLen, lenS, Yh, ev, lk, Vc.put, fits, kd, sz, Tryz.VΓ, Tryz.Γs, bin, binI, binS, ifK, ar, eqB, eqS, eqK, eqK.eqF, negB, bnds, optE, XM, Vc.cells, isV, Vc.one, Xs, getB, setB, XZ, Xp, Xi, Yf, Xl, XT, resS, tupS, ofV, Yj, Nat.reduceAdd, Nat.reduceSub, Nat.reduceLT, Nat.reduceLeDiff, reduceIte, reduceCtorEq, Nat.reduceEqDiff, implies_true, forall_const, lawV, h1, h2, h3, h5, h56, h57, h58, hB0, hB1, hBr, hB11, hlf, hBo1, hBs1, at_new, set_new])
        unfold fromEnd
        exact ⟨fun hl => (by rw [if_pos (by simp only [decide_eq_true_eq, decide_eq_false_iff_not] at hl; omega)]; rfl), fun hl => (by rw [if_neg (by simp only [decide_eq_true_eq, decide_eq_false_iff_not] at hl; omega)]; rfl)⟩
    · have hp0 : u.port = 0 := by simpa using hp
      have hib : u.host = idBase u := by unfold idBase; rw [if_pos hp0, List.append_nil]
      have hbl : (idBase u).length ≤ 300 := by rw [← hib]; omega
      refine loopV_mk (fun σ => ∃ k : Nat, k ≤ T.dropLast.length ∧ lk 1 σ.t = some (.p 0 0) ∧ lk 2 σ.t = some (.p 1 0) ∧ lk 3 σ.t = some (.int .i64 0) ∧ lk 5 σ.t = some (.str (idBase u ++ if u.path = rootS then [] else (T.dropLast.take k).flatMap segDown)) ∧ lk 56 σ.t = some (.o (b.length + 1) T.dropLast.length) ∧ lk 57 σ.t = some (.int .i64 T.dropLast.length) ∧ lk 58 σ.t = some (.int .i64 k) ∧
        σ.b[0]? = some (.cells [.str u.host, .int .i64 u.port, .str u.path, .str u.query, .str u.fragment, .bool u.hasQuery, .bool u.hasFrag] 29 true) ∧ σ.b[1]? = some (.cells [.str [], .str []] 24 true) ∧ σ.b[b.length + 1]? = some (.own (T.dropLast.map SV.str) 9 1 T.dropLast.length false) ∧ (T.dropLast.take k).all downOk = true) (fun σ => T.dropLast.length - lkI 58 σ)
        ⟨0, by omega, rfl, rfl, rfl, congrArg (fun x => some (SV.str x)) (by rw [hib]; split <;> simp), rfl, rfl, rfl, hE0, hE1, hEr, rfl⟩ ?_
      generalize b.length = N at *
      generalize T.dropLast = L at *
      rintro ⟨t, B⟩ ⟨k, hk, h1, h2, h3, h5, h56, h57, h58, hB0, hB1, hBr, hok⟩
      simp only at h1 h2 h3 h5 h56 h57 h58 hB0 hB1 hBr
      rw [lkI_eq h58]
      have hB11 : ∀ X, (B.set 1 X)[1]? = some X := fun X => List.getElem?_set_self (List.getElem?_eq_some_iff.1 hB1).1
      by_cases hlt : k < L.length
      · have hx : (L.map SV.str)[k * 1]? = some (.str L[k]) := by simp [hlt]
        have hxl := hxs L[k] (List.getElem_mem hlt)
        have hft := flat_take (g := segDown) hlt
        have hbad : downOk L[k] = false → L.all downOk = false := fun h => all_not hlt h
        have hgood : downOk L[k] = true → (L.take (k + 1)).all downOk = true := fun h => all_take_snoc hlt hok h
        simp only [vcS, ↓Xn, ↓Xo, ↓Xg, ↓Xd, ↓Xe, ↓Xf, XQ, XG, gvU, setR, orN, Yl, Xm, Yn, Yi, Xa, Ym, Xc, Xc.sizeIs, reS, Xj, Yb, mmS, Xq, dstS, srcS, XP, XN, XO, Yc, XA, Yg, Xy, XE, endV, gdst, Yk, XR, Yd, goR, XC, sBox, XU, XH, Xr, sNil, XL, Xt, XV, Xv, goD, valD, XI, XF, XB, dNil, XK, XD, dBox, dN, Xz, opL, idxs, pv, XX, Ya, XJ, Xb, Xu, oBin, oUn, Ye, XW, Xw, Xx, Xh, Xk, XY, XS, oLen, lenS, Yh, ev, lk, Vc.put, fits, kd, sz, Tryz.VΓ, Tryz.Γs, bin, binI, binS, ifK, ar, eqB, eqS, eqK, eqK.eqF, negB, bnds, optE, XM, Vc.cells, isV, Vc.one, Xs, getB, setB, XZ, Xp, Xi, Yf, Xl, XT, resS, tupS, ofV, Yj, Nat.reduceAdd, Nat.reduceSub, Nat.reduceLT, Nat.reduceLeDiff, reduceIte, reduceCtorEq, Nat.reduceEqDiff, implies_true, forall_const, lawV, h1, h2, h3, h5, h56, h57, h58, hB0, hB1, hBr, hx, hB11]
        refine ⟨fun _ => ⟨⟨by omega, by omega⟩, by simp; omega, ?_⟩, fun h => absurd h (by simp; omega)⟩
        have hd := downOk_two L[k]
        have hsd : segDown L[k] = 58 :: didEsc (pctDecode L[k]).1 := rfl
        have hdl := pctDecode_len L[k]
        have pd := p_r3_Decode L[k]
        have pe := p_r10_Escaped (pctDecode L[k]).1 (by omega)
        have hel := didEsc_len (pctDecode L[k]).1
        have hflt := flat_take_le (g := segDown) (L := L) (k := k)
        generalize L[k] = x at *
        clear hx
        refine loopV_mk (fun σ => ∃ i : Nat, i ≤ x.length ∧ lk 1 σ.t = some (.p 0 0) ∧ lk 2 σ.t = some (.p 1 0) ∧ lk 3 σ.t = some (.int .i64 0) ∧ lk 5 σ.t = some (.str (idBase u ++ if u.path = rootS then [] else (L.take k).flatMap segDown)) ∧ lk 56 σ.t = some (.o (N + 1) L.length) ∧ lk 57 σ.t = some (.int .i64 L.length) ∧ lk 58 σ.t = some (.int .i64 k) ∧ lk 7 σ.t = some (.str x) ∧ lk 8 σ.t = some (.int .i64 i) ∧
          σ.b[0]? = some (.cells [.str u.host, .int .i64 u.port, .str u.path, .str u.query, .str u.fragment, .bool u.hasQuery, .bool u.hasFrag] 29 true) ∧ σ.b[1]? = some (.cells [.str [], .str []] 24 true) ∧ σ.b[N + 1]? = some (.own (L.map SV.str) 9 1 L.length false) ∧ (x.take i).all downC = true) (fun σ => x.length - lkI 8 σ)
          ⟨0, by omega, h1, h2, h3, h5, h56, h57, h58, rfl, rfl, hB0, hB1, hBr, rfl⟩ ?_
        clear h1 h2 h3 h5 h56 h57 h58 hB0 hB1 hBr hB11 hok hE0 hE1 hEr
        rintro ⟨t, B⟩ ⟨i, hi, h1, h2, h3, h5, h56, h57, h58, h7, h8, hB0, hB1, hBr, hok⟩
        simp only at h1 h2 h3 h5 h56 h57 h58 h7 h8 hB0 hB1 hBr
        rw [lkI_eq h8]
        have hB11 : ∀ X, (B.set 1 X)[1]? = some X := fun X => List.getElem?_set_self (List.getElem?_eq_some_iff.1 hB1).1
        by_cases hil : i < x.length
        · have hg : x.getD i 0 = x[i] := by simp [List.getD, hil]
          have hxbad : downC x[i] = false → L.all downOk = false := fun h => hbad (by rw [hd, all_not hil h]; rfl)
          simp only [vcS, ↓Xn, ↓Xo, ↓Xg, ↓Xd, ↓Xe, ↓Xf, XQ, XG, gvU, setR, orN, Yl, Xm, Yn, Yi, Xa, Ym, Xc, Xc.sizeIs, reS, Xj, Yb, mmS, Xq, dstS, srcS, XP, XN, XO, Yc, XA, Yg, Xy, XE, endV, gdst, Yk, XR, Yd, goR, XC, sBox, XU, XH, Xr, sNil, XL, Xt, XV, Xv, goD, valD, XI, XF, XB, dNil, XK, XD, dBox, dN, Xz, opL, idxs, pv, XX, Ya, XJ, Xb, Xu, oBin, oUn, Ye, XW, Xw, Xx, Xh, Xk, XY, XS, oLen, lenS, Yh, ev, lk, Vc.put, fits, kd, sz, Tryz.VΓ, Tryz.Γs, bin, binI, binS, ifK, ar, eqB, eqS, eqK, eqK.eqF, negB, bnds, optE, XM, Vc.cells, isV, Vc.one, Xs, getB, setB, XZ, Xp, Xi, Yf, Xl, XT, resS, tupS, ofV, Yj, Nat.reduceAdd, Nat.reduceSub, Nat.reduceLT, Nat.reduceLeDiff, reduceIte, reduceCtorEq, Nat.reduceEqDiff, implies_true, forall_const, lawV, h1, h2, h3, h5, h56, h57, h58, hB0, hB1, hBr, h7, h8, hg, hB11]
          refine ⟨fun _ => ⟨⟨by omega, by omega⟩, ?_⟩, fun h => absurd h (by simp; omega)⟩
          (refine callV_pc (p_r1_IsUnreserved x[i]) ?_; simp only [vcS, ↓Xn, ↓Xo, ↓Xg, ↓Xd, ↓Xe, ↓Xf, XQ, XG, gvU, setR, orN, Yl, Xm, Yn, Yi, Xa, Ym, Xc, Xc.sizeIs, reS, Xj, Yb, mmS, Xq, dstS, srcS, XP, XN, XO, Yc, XA, Yg, Xy, XE, endV, gdst, Yk, XR, Yd, goR, XC, sBox, XU, XH, Xr, sNil, XL, Xt, XV, Xv, goD, valD, XI, XF, XB, dNil, XK, XD, dBox, dN, Xz, opL, idxs, pv, XX, Ya, XJ, Xb, Xu, oBin, oUn, Ye, XW, Xw, Xx, Xh, Xk, XY, XS, oLen, lenS, Yh, ev, lk, Vc.put, fits, kd, sz, Tryz.VΓ, Tryz.Γs, bin, binI, binS, ifK, ar, eqB, eqS, eqK, eqK.eqF, negB, bnds, optE, XM, Vc.cells, isV, Vc.one, Xs, getB, setB, XZ, Xp, Xi, Yf, Xl, XT, resS, tupS, ofV, Yj, Nat.reduceAdd, Nat.reduceSub, Nat.reduceLT, Nat.reduceLeDiff, reduceIte, reduceCtorEq, Nat.reduceEqDiff, implies_true, forall_const, lawV, h1, h2, h3, h5, h56, h57, h58, hB0, hB1, hBr, h7, h8, hg, hB11])
          have h37 : ((x[i].toNat : Int) != 37) = (x[i] != 37) := by
            have := byte_is hil 37 (n := 37) rfl
            show (!_) = (!_)
            rw [← this, hg]
          rw [h37]
          have fin : downC x[i] = true → ∀ (t' : List (Nat × SV)), lk 8 t' = some (.int .i64 ((i : Int) + 1)) → (∃ m : Nat, m ≤ x.length ∧ SV.int IntKind.i64 ((i : Int) + 1) = SV.int IntKind.i64 (m : Int) ∧ (x.take m).all downC = true) ∧ x.length - lkI 8 ⟨t', B⟩ < x.length - (i : Int).toNat := fun hm t' k6 =>
            ⟨⟨i + 1, by omega, rfl, all_take_snoc hil hok hm⟩, by rw [lkI_eq (σ := ⟨t', B⟩) k6]; omega⟩
          refine ⟨fun hp => ⟨⟨by omega, by omega⟩, fun h9 => ?_, fun h9 => ⟨⟨by omega, by omega⟩, fin ?_ _ rfl⟩⟩, fun hp => ⟨⟨by omega, by omega⟩, fin ?_ _ rfl⟩⟩
          · have hb := hxbad (by unfold downC; simp at hp h9 ⊢; exact ⟨h9, hp⟩)
            rw [hroot_bad hpth hb]; rfl
          · unfold downC; simp at h9 ⊢; exact .inl h9
          · unfold downC; simp at hp ⊢; exact .inr hp
        · have hie : i = x.length := by omega
          subst hie
          rw [List.take_length] at hok
          have hlf : decide ((x.length : Int) < x.length) = false := by simp
          generalize pctDecode x = X at *
          obtain ⟨w, ew⟩ := X
          simp only at pd pe hd hsd hdl hel
          simp only [vcS, ↓Xn, ↓Xo, ↓Xg, ↓Xd, ↓Xe, ↓Xf, XQ, XG, gvU, setR, orN, Yl, Xm, Yn, Yi, Xa, Ym, Xc, Xc.sizeIs, reS, Xj, Yb, mmS, Xq, dstS, srcS, XP, XN, XO, Yc, XA, Yg, Xy, XE, endV, gdst, Yk, XR, Yd, goR, XC, sBox, XU, XH, Xr, sNil, XL, Xt, XV, Xv, goD, valD, XI, XF, XB, dNil, XK, XD, dBox, dN, Xz, opL, idxs, pv, XX, Ya, XJ, Xb, Xu, oBin, oUn, Ye, XW, Xw, Xx, Xh, Xk, XY, XS, oLen, lenS, Yh, ev, lk, Vc.put, fits, kd, sz, Tryz.VΓ, Tryz.Γs, bin, binI, binS, ifK, ar, eqB, eqS, eqK, eqK.eqF, negB, bnds, optE, XM, Vc.cells, isV, Vc.one, Xs, getB, setB, XZ, Xp, Xi, Yf, Xl, XT, resS, tupS, ofV, Yj, Nat.reduceAdd, Nat.reduceSub, Nat.reduceLT, Nat.reduceLeDiff, reduceIte, reduceCtorEq, Nat.reduceEqDiff, implies_true, forall_const, lawV, h1, h2, h3, h5, h56, h57, h58, hB0, hB1, hBr, h7, h8, hB11, hlf]
          (refine callV_pc pd ?_; simp only [vcS, ↓Xn, ↓Xo, ↓Xg, ↓Xd, ↓Xe, ↓Xf, XQ, XG, gvU, setR, orN, Yl, Xm, Yn, Yi, Xa, Ym, Xc, Xc.sizeIs, reS, Xj, Yb, mmS, Xq, dstS, srcS, XP, XN, XO, Yc, XA, Yg, Xy, XE, endV, gdst, Yk, XR, Yd, goR, XC, sBox, XU, XH, Xr, sNil, XL, Xt, XV, Xv, goD, valD, XI, XF, XB, dNil, XK, XD, dBox, dN, Xz, opL, idxs, pv, XX, Ya, XJ, Xb, Xu, oBin, oUn, Ye, XW, Xw, Xx, Xh, Xk, XY, XS, oLen, lenS, Yh, ev, lk, Vc.put, fits, kd, sz, Tryz.VΓ, Tryz.Γs, bin, binI, binS, ifK, ar, eqB, eqS, eqK, eqK.eqF, negB, bnds, optE, XM, Vc.cells, isV, Vc.one, Xs, getB, setB, XZ, Xp, Xi, Yf, Xl, XT, resS, tupS, ofV, Yj, Nat.reduceAdd, Nat.reduceSub, Nat.reduceLT, Nat.reduceLeDiff, reduceIte, reduceCtorEq, Nat.reduceEqDiff, implies_true, forall_const, lawV, h1, h2, h3, h5, h56, h57, h58, hB0, hB1, hBr, h7, h8, hB11])
          have hfin : ∀ (S : Bytes) (t' : List (Nat × SV)), downOk x = true → S = idBase u ++ (if u.path = rootS then [] else (L.take (k + 1)).flatMap segDown) → lk 58 t' = some (.int .i64 ((k : Int) + 1)) →
              (∃ m : Nat, m ≤ L.length ∧ SV.str S = SV.str (idBase u ++ if u.path = rootS then [] else (L.take m).flatMap segDown) ∧ SV.int IntKind.i64 ((k : Int) + 1) = SV.int IntKind.i64 (m : Int) ∧ (L.take m).all downOk = true) ∧ L.length - lkI 58 ⟨t', B⟩ < L.length - (k : Int).toNat := fun S t' h hS k6 =>
            ⟨⟨k + 1, by omega, by rw [hS], rfl, hgood h⟩, by rw [lkI_eq (σ := ⟨t', B⟩) k6]; omega⟩
          refine ⟨fun g1 => (by rw [hroot_bad hpth (hbad (by rw [hd, g1]; simp))]; rfl), fun g1 => ?_⟩
          have hgx : downOk x = true := by rw [hd, hok, g1]; rfl
          refine ⟨fun g2 => ?_, fun g2 => ?_⟩
          · have hne : ¬ u.path = rootS := fun e => by rw [e] at g2; exact absurd g2 (by decide)
            (refine callV_pc pe ?_; simp only [vcS, ↓Xn, ↓Xo, ↓Xg, ↓Xd, ↓Xe, ↓Xf, XQ, XG, gvU, setR, orN, Yl, Xm, Yn, Yi, Xa, Ym, Xc, Xc.sizeIs, reS, Xj, Yb, mmS, Xq, dstS, srcS, XP, XN, XO, Yc, XA, Yg, Xy, XE, endV, gdst, Yk, XR, Yd, goR, XC, sBox, XU, XH, Xr, sNil, XL, Xt, XV, Xv, goD, valD, XI, XF, XB, dNil, XK, XD, dBox, dN, Xz, opL, idxs, pv, XX, Ya, XJ, Xb, Xu, oBin, oUn, Ye, XW, Xw, Xx, Xh, Xk, XY, XS, oLen, lenS, Yh, ev, lk, Vc.put, fits, kd, sz, Tryz.VΓ, Tryz.Γs, bin, binI, binS, ifK, ar, eqB, eqS, eqK, eqK.eqF, negB, bnds, optE, XM, Vc.cells, isV, Vc.one, Xs, getB, setB, XZ, Xp, Xi, Yf, Xl, XT, resS, tupS, ofV, Yj, Nat.reduceAdd, Nat.reduceSub, Nat.reduceLT, Nat.reduceLeDiff, reduceIte, reduceCtorEq, Nat.reduceEqDiff, implies_true, forall_const, lawV, h1, h2, h3, h5, h56, h57, h58, hB0, hB1, hBr, h7, h8, hB11])
            have hle : (idBase u ++ if u.path = rootS then [] else (L.take k).flatMap segDown).length ≤ 100000 := by
              rw [if_neg hne, List.length_append]; omega
            refine ⟨by omega, by omega, ⟨by omega, by omega⟩, hfin _ _ hgx ?_ rfl⟩
            rw [if_neg hne, if_neg hne, hft, hsd, List.append_assoc]
          · have he : u.path = rootS := by simpa [rootS] using g2
            refine ⟨⟨by omega, by omega⟩, ?_⟩
            have := hfin (idBase u ++ if u.path = rootS then [] else (L.take k).flatMap segDown) ((58, .int .i64 ((k : Int) + 1)) :: t) hgx (by rw [if_pos he, if_pos he]) rfl
            refine ⟨?_, ?_⟩
            · obtain ⟨⟨m, q1, q2, q3, q4⟩, -⟩ := this
              exact ⟨m, q1, q2, q3, q4⟩
            · rw [lkI_eq (k := .i64) (n := (k : Int) + 1) rfl]; omega
      · have hie : k = L.length := by omega
        subst hie
        rw [List.take_length] at h5 hok
        have hlf : decide ((L.length : Int) < L.length) = false := by simp
        rw [fromSegs_end hok]
        have hle : (idBase u ++ if u.path = rootS then [] else L.flatMap segDown).length ≤ 100000 := by
          rw [List.length_append]; split
          · simp; omega
          · omega
        generalize (idBase u ++ if u.path = rootS then [] else L.flatMap segDown) = S at *
        have pf := p_r10_FormatDID ⟨webS, S⟩ (hfit S hle)
        unfold dsv at pf
        simp only at pf
        have hBl := (List.getElem?_eq_some_iff.1 hB1).1
        have hBo1 := fun X => at_old hB1 [X]
        have hBs1 : ∀ X Y, ((B ++ [X]).set 1 Y)[1]? = some Y := fun X Y => List.getElem?_set_self (by simp; omega)
        simp only [vcS, ↓Xn, ↓Xo, ↓Xg, ↓Xd, ↓Xe, ↓Xf, XQ, XG, gvU, setR, orN, Yl, Xm, Yn, Yi, Xa, Ym, Xc, Xc.sizeIs, reS, Xj, Yb, mmS, Xq, dstS, srcS, XP, XN, XO, Yc, XA, Yg, Xy, XE, endV, gdst, Yk, XR, Yd, goR, XC, sBox, XU, XH, Xr, sNil, XL, Xt, XV, Xv, goD, valD, XI, XF, XB, dNil, XK, XD, dBox, dN, Xz, opL, idxs, pv, XX, Ya, XJ, Xb, Xu, oBin, oUn, Ye, XW, Xw, Xx, Xh, Xk, XY, XS, oLen, lenS, Yh, ev, lk, Vc.put, fits, kd, sz, Tryz.VΓ, Tryz.Γs, bin, binI, binS, ifK, ar, eqB, eqS, eqK, eqK.eqF, negB, bnds, optE, XM, Vc.cells, isV, Vc.one, Xs, getB, setB, XZ, Xp, Xi, Yf, Xl, XT, resS, tupS, ofV, Yj, Nat.reduceAdd, Nat.reduceSub, Nat.reduceLT, Nat.reduceLeDiff, reduceIte, reduceCtorEq, Nat.reduceEqDiff, implies_true, forall_const, lawV, h1, h2, h3, h5, h56, h57, h58, hB0, hB1, hBr, hB11, hlf, hBo1, hBs1, at_new, set_new]
        (refine callV_pc pf ?_; simp only [vcS, ↓Xn, ↓Xo, ↓Xg, ↓Xd, ↓Xe, ↓Xf, XQ, XG, gvU, setR, orN, Yl, Xm, Yn, Yi, Xa, Ym, Xc, Xc.sizeIs, reS, Xj, Yb, mmS, Xq, dstS, srcS, XP, XN, XO, Yc, XA, Yg, Xy, XE, endV, gdst, Yk, XR, Yd, goR, XC, sBox, XU, XH, Xr, sNil, XL, Xt, XV, Xv, goD, valD, XI, XF, XB, dNil, XK, XD, dBox, dN, Xz, opL, idxs, pv, XX, Ya, XJ, Xb, Xu, oBin, oUn, Ye, XW, Xw, Xx, Xh, Xk, XY, XS, oLen, lenS, Yh, ev, lk, Vc.put, fits, kd, sz, Tryz.VΓ, Tryz.Γs, bin, binI, binS, ifK, ar, eqB, eqS, eqK, eqK.eqF, negB, bnds, optE, XM, Vc.cells, isV, Vc.one, Xs, getB, setB, XZ, Xp, Xi, Yf, Xl, XT, resS, tupS, ofV, Yj, Nat.reduceAdd, Nat.reduceSub, Nat.reduceLT, Nat.reduceLeDiff, reduceIte, reduceCtorEq, Nat.reduceEqDiff, implies_true, forall_const, lawV, h1, h2, h3, h5, h56, h57, h58, hB0, hB1, hBr, hB11, hlf, hBo1, hBs1, at_new, set_new])
        unfold fromEnd
        exact ⟨fun hl => (by rw [if_pos (by simp only [decide_eq_true_eq, decide_eq_false_iff_not] at hl; omega)]; rfl), fun hl => (by rw [if_neg (by simp only [decide_eq_true_eq, decide_eq_false_iff_not] at hl; omega)]; rfl)⟩
  · rw [if_neg (by rw [hq]; simp), if_pos hf]; rfl
  · rw [if_pos hq]; rfl
set_option maxHeartbeats 2000000 in
theorem p_r11_Canonical (d : Did) (h : DidFits d) : PC Tryz.V 37 [dsv d] (.tup [dsv (didCano d).1, .int .i64 (didCano d).2]) := by
  have pt := p_r11_ToURL d h
  have hfair := toUrl_fair d
  unfold didCano
  generalize toUrl d = X at pt hfair ⊢
  obtain ⟨u, e⟩ := X
  simp only at pt hfair ⊢
  refine pc_of 3000 Tryz.func37 rfl Tryz.ntmps37 Tryz.results37 Tryz.call37 (by simp) (by simp [flat, flat.flatL, dsv, wsv]) (by simp [flat, flat.flatL, dsv, wsv]) ?_
  unfold dsv
  unfold dsv wsv at pt
  simp only [vcS, ↓Xn, ↓Xo, ↓Xg, ↓Xd, ↓Xe, ↓Xf, XQ, XG, gvU, setR, orN, Yl, Xm, Yn, Yi, Xa, Ym, Xc, Xc.sizeIs, reS, Xj, Yb, mmS, Xq, dstS, srcS, XP, XN, XO, Yc, XA, Yg, Xy, XE, endV, gdst, Yk, XR, Yd, goR, XC, sBox, XU, XH, Xr, sNil, XL, Xt, XV, Xv, goD, valD, XI, XF, XB, dNil, XK, XD, dBox, dN, Xz, opL, idxs, pv, XX, Ya, XJ, Xb, Xu, oBin, oUn, Ye, XW, Xw, Xx, Xh, Xk, XY, XS, oLen, lenS, Yh, ev, lk, Vc.put, fits, kd, sz, Tryz.VΓ, Tryz.Γs, bin, binI, binS, ifK, ar, eqB, eqS, eqK, eqK.eqF, negB, bnds, optE, XM, Vc.cells, isV, Vc.one, Xs, getB, setB, XZ, Xp, Xi, Yf, Xl, XT, resS, tupS, ofV, Yj, Nat.reduceAdd, Nat.reduceSub, Nat.reduceLT, Nat.reduceLeDiff, reduceIte, reduceCtorEq, Nat.reduceEqDiff, implies_true, forall_const, lawV]
  (refine callV_pc pt ?_; simp only [vcS, ↓Xn, ↓Xo, ↓Xg, ↓Xd, ↓Xe, ↓Xf, XQ, XG, gvU, setR, orN, Yl, Xm, Yn, Yi, Xa, Ym, Xc, Xc.sizeIs, reS, Xj, Yb, mmS, Xq, dstS, srcS, XP, XN, XO, Yc, XA, Yg, Xy, XE, endV, gdst, Yk, XR, Yd, goR, XC, sBox, XU, XH, Xr, sNil, XL, Xt, XV, Xv, goD, valD, XI, XF, XB, dNil, XK, XD, dBox, dN, Xz, opL, idxs, pv, XX, Ya, XJ, Xb, Xu, oBin, oUn, Ye, XW, Xw, Xx, Xh, Xk, XY, XS, oLen, lenS, Yh, ev, lk, Vc.put, fits, kd, sz, Tryz.VΓ, Tryz.Γs, bin, binI, binS, ifK, ar, eqB, eqS, eqK, eqK.eqF, negB, bnds, optE, XM, Vc.cells, isV, Vc.one, Xs, getB, setB, XZ, Xp, Xi, Yf, Xl, XT, resS, tupS, ofV, Yj, Nat.reduceAdd, Nat.reduceSub, Nat.reduceLT, Nat.reduceLeDiff, reduceIte, reduceCtorEq, Nat.reduceEqDiff, implies_true, forall_const, lawV])
  refine ⟨fun h1 => (by rw [if_pos (by simpa using h1)]; rfl), fun h1 => ?_⟩
  rw [if_neg (by simpa using h1)]
  have pf := p_r11_FromURL u (hfair (by simpa using h1))
  unfold dsv wsv at pf
  (refine callV_pc pf ?_; simp only [vcS, ↓Xn, ↓Xo, ↓Xg, ↓Xd, ↓Xe, ↓Xf, XQ, XG, gvU, setR, orN, Yl, Xm, Yn, Yi, Xa, Ym, Xc, Xc.sizeIs, reS, Xj, Yb, mmS, Xq, dstS, srcS, XP, XN, XO, Yc, XA, Yg, Xy, XE, endV, gdst, Yk, XR, Yd, goR, XC, sBox, XU, XH, Xr, sNil, XL, Xt, XV, Xv, goD, valD, XI, XF, XB, dNil, XK, XD, dBox, dN, Xz, opL, idxs, pv, XX, Ya, XJ, Xb, Xu, oBin, oUn, Ye, XW, Xw, Xx, Xh, Xk, XY, XS, oLen, lenS, Yh, ev, lk, Vc.put, fits, kd, sz, Tryz.VΓ, Tryz.Γs, bin, binI, binS, ifK, ar, eqB, eqS, eqK, eqK.eqF, negB, bnds, optE, XM, Vc.cells, isV, Vc.one, Xs, getB, setB, XZ, Xp, Xi, Yf, Xl, XT, resS, tupS, ofV, Yj, Nat.reduceAdd, Nat.reduceSub, Nat.reduceLT, Nat.reduceLeDiff, reduceIte, reduceCtorEq, Nat.reduceEqDiff, implies_true, forall_const, lawV])
end Go.Proofs.YtcndmooeglfilaaGreatDoor
/- The walks of the laws on did:web. -/
set_option linter.all false
set_option maxRecDepth 20000
namespace Go.Proofs.YtcndmooeglfilaaGreatDoor
open Go Vc Go.RowKit Wf
set_option linter.unusedSimpArgs false
theorem parse_fairU (s : Bytes) : Fair (urlParse s).1 := by
  by_cases h : (urlParse s).2 = 0
  · exact can_fair (can_of_parse (s := s) (u := (urlParse s).1) (by rw [← h]))
  · rw [urlParse_err s h]; exact ⟨by decide, by decide, by decide⟩
theorem did_fit (s : Bytes) : DidFits (didParse s).1 := by
  by_cases h : (didParse s).2 = 0
  · have h1 := did_can (s := s) (d := (didParse s).1) (by rw [← h])
    have h2 := didText_len (didParse s).1
    exact ⟨by omega, by omega⟩
  · rw [didParse_err s h]; exact ⟨by decide, by decide⟩
theorem cano_fit {d c : Did} (h : didCano d = (c, 0)) : DidFits c := by
  obtain ⟨u, h1, h2, h3, h4, h5, h6, h7, h8⟩ := canon_inverse h
  have h9 := did_can h6
  have h10 := didText_len c
  exact ⟨by omega, by omega⟩
theorem m_web1 : toUrl ⟨([119, 101, 98] : List UInt8), ([101, 120, 97, 109, 112, 108, 101, 46, 99, 111, 109, 37, 51, 65, 56, 52, 52, 51, 58, 117, 115, 101, 114, 115, 58, 97, 108, 105, 99, 101] : List UInt8)⟩ = (⟨([101, 120, 97, 109, 112, 108, 101, 46, 99, 111, 109] : List UInt8), 8443, ([47, 117, 115, 101, 114, 115, 47, 97, 108, 105, 99, 101, 47, 100, 105, 100, 46, 106, 115, 111, 110] : List UInt8), [], [], false, false⟩, 0) := by decide +kernel
theorem m_web2 : toUrl ⟨([119, 101, 98] : List UInt8), ([101, 120, 97, 109, 112, 108, 101, 46, 99, 111, 109, 58, 46, 46] : List UInt8)⟩ = (Url.none, 110) := by decide +kernel
set_option maxRecDepth 20000 in
set_option maxHeartbeats 2000000 in
theorem p_law11_sane : PC Tryz.V 14 [] (.bool true) := by
  have s1 := p_web_ToURL ⟨([119, 101, 98] : List UInt8), ([101, 120, 97, 109, 112, 108, 101, 46, 99, 111, 109, 37, 51, 65, 56, 52, 52, 51, 58, 117, 115, 101, 114, 115, 58, 97, 108, 105, 99, 101] : List UInt8)⟩ ⟨by decide, by decide⟩
  have s2 := p_web_ToURL ⟨([119, 101, 98] : List UInt8), ([101, 120, 97, 109, 112, 108, 101, 46, 99, 111, 109, 58, 46, 46] : List UInt8)⟩ ⟨by decide, by decide⟩
  have s3 := p_r7_Format ⟨([101, 120, 97, 109, 112, 108, 101, 46, 99, 111, 109] : List UInt8), 8443, ([47, 117, 115, 101, 114, 115, 47, 97, 108, 105, 99, 101, 47, 100, 105, 100, 46, 106, 115, 111, 110] : List UInt8), [], [], false, false⟩ ⟨by decide, by decide, by decide⟩
  rw [m_web1] at s1
  rw [m_web2] at s2
  rw [show urlText ⟨([101, 120, 97, 109, 112, 108, 101, 46, 99, 111, 109] : List UInt8), 8443, ([47, 117, 115, 101, 114, 115, 47, 97, 108, 105, 99, 101, 47, 100, 105, 100, 46, 106, 115, 111, 110] : List UInt8), [], [], false, false⟩ = ([104, 116, 116, 112, 115, 58, 47, 47, 101, 120, 97, 109, 112, 108, 101, 46, 99, 111, 109, 58, 56, 52, 52, 51, 47, 117, 115, 101, 114, 115, 47, 97, 108, 105, 99, 101, 47, 100, 105, 100, 46, 106, 115, 111, 110] : List UInt8) by decide +kernel] at s3
  unfold dsv wsv at s1 s2
  unfold wsv at s3
  refine pc_of 3000 Tryz.func14 rfl Tryz.ntmps14 Tryz.results14 Tryz.call14 (by simp) (by simp [flat, flat.flatL]) (by simp [flat, flat.flatL]) ?_
  simp only [vcS, ↓Xn, ↓Xo, ↓Xg, ↓Xd, ↓Xe, ↓Xf, XQ, XG, gvU, setR, orN, Yl, Xm, Yn, Yi, Xa, Ym, Xc, Xc.sizeIs, reS, Xj, Yb, mmS, Xq, dstS, srcS, XP, XN, XO, Yc, XA, Yg, Xy, XE, endV, gdst, Yk, XR, Yd, goR, XC, sBox, XU, XH, Xr, sNil, XL, Xt, XV, Xv, goD, valD, XI, XF, XB, dNil, XK, XD, dBox, dN, Xz, opL, idxs, pv, XX, Ya, XJ, Xb, Xu, oBin, oUn, Ye, XW, Xw, Xx, Xh, Xk, XY, XS, oLen, lenS, Yh, ev, lk, Vc.put, fits, kd, sz, Tryz.VΓ, Tryz.Γs, bin, binI, binS, ifK, ar, eqB, eqS, eqK, eqK.eqF, negB, bnds, optE, XM, Vc.cells, isV, Vc.one, Xs, getB, setB, XZ, Xp, Xi, Yf, Xl, XT, resS, tupS, ofV, Yj, Nat.reduceAdd, Nat.reduceSub, Nat.reduceLT, Nat.reduceLeDiff, reduceIte, reduceCtorEq, Nat.reduceEqDiff, implies_true, forall_const, lawV, beq_self_eq_true, bne_self_eq_false, Int.reduceBEq, Int.reduceBNe, Int.reduceLT, Int.reduceLE]
  (refine callV_pc (s1) ?_; simp only [vcS, ↓Xn, ↓Xo, ↓Xg, ↓Xd, ↓Xe, ↓Xf, XQ, XG, gvU, setR, orN, Yl, Xm, Yn, Yi, Xa, Ym, Xc, Xc.sizeIs, reS, Xj, Yb, mmS, Xq, dstS, srcS, XP, XN, XO, Yc, XA, Yg, Xy, XE, endV, gdst, Yk, XR, Yd, goR, XC, sBox, XU, XH, Xr, sNil, XL, Xt, XV, Xv, goD, valD, XI, XF, XB, dNil, XK, XD, dBox, dN, Xz, opL, idxs, pv, XX, Ya, XJ, Xb, Xu, oBin, oUn, Ye, XW, Xw, Xx, Xh, Xk, XY, XS, oLen, lenS, Yh, ev, lk, Vc.put, fits, kd, sz, Tryz.VΓ, Tryz.Γs, bin, binI, binS, ifK, ar, eqB, eqS, eqK, eqK.eqF, negB, bnds, optE, XM, Vc.cells, isV, Vc.one, Xs, getB, setB, XZ, Xp, Xi, Yf, Xl, XT, resS, tupS, ofV, Yj, Nat.reduceAdd, Nat.reduceSub, Nat.reduceLT, Nat.reduceLeDiff, reduceIte, reduceCtorEq, Nat.reduceEqDiff, implies_true, forall_const, lawV, beq_self_eq_true, bne_self_eq_false, Int.reduceBEq, Int.reduceBNe, Int.reduceLT, Int.reduceLE])
  (refine callV_pc (s2) ?_; simp only [vcS, ↓Xn, ↓Xo, ↓Xg, ↓Xd, ↓Xe, ↓Xf, XQ, XG, gvU, setR, orN, Yl, Xm, Yn, Yi, Xa, Ym, Xc, Xc.sizeIs, reS, Xj, Yb, mmS, Xq, dstS, srcS, XP, XN, XO, Yc, XA, Yg, Xy, XE, endV, gdst, Yk, XR, Yd, goR, XC, sBox, XU, XH, Xr, sNil, XL, Xt, XV, Xv, goD, valD, XI, XF, XB, dNil, XK, XD, dBox, dN, Xz, opL, idxs, pv, XX, Ya, XJ, Xb, Xu, oBin, oUn, Ye, XW, Xw, Xx, Xh, Xk, XY, XS, oLen, lenS, Yh, ev, lk, Vc.put, fits, kd, sz, Tryz.VΓ, Tryz.Γs, bin, binI, binS, ifK, ar, eqB, eqS, eqK, eqK.eqF, negB, bnds, optE, XM, Vc.cells, isV, Vc.one, Xs, getB, setB, XZ, Xp, Xi, Yf, Xl, XT, resS, tupS, ofV, Yj, Nat.reduceAdd, Nat.reduceSub, Nat.reduceLT, Nat.reduceLeDiff, reduceIte, reduceCtorEq, Nat.reduceEqDiff, implies_true, forall_const, lawV, beq_self_eq_true, bne_self_eq_false, Int.reduceBEq, Int.reduceBNe, Int.reduceLT, Int.reduceLE])
  (refine callV_pc (s3) ?_; simp only [vcS, ↓Xn, ↓Xo, ↓Xg, ↓Xd, ↓Xe, ↓Xf, XQ, XG, gvU, setR, orN, Yl, Xm, Yn, Yi, Xa, Ym, Xc, Xc.sizeIs, reS, Xj, Yb, mmS, Xq, dstS, srcS, XP, XN, XO, Yc, XA, Yg, Xy, XE, endV, gdst, Yk, XR, Yd, goR, XC, sBox, XU, XH, Xr, sNil, XL, Xt, XV, Xv, goD, valD, XI, XF, XB, dNil, XK, XD, dBox, dN, Xz, opL, idxs, pv, XX, Ya, XJ, Xb, Xu, oBin, oUn, Ye, XW, Xw, Xx, Xh, Xk, XY, XS, oLen, lenS, Yh, ev, lk, Vc.put, fits, kd, sz, Tryz.VΓ, Tryz.Γs, bin, binI, binS, ifK, ar, eqB, eqS, eqK, eqK.eqF, negB, bnds, optE, XM, Vc.cells, isV, Vc.one, Xs, getB, setB, XZ, Xp, Xi, Yf, Xl, XT, resS, tupS, ofV, Yj, Nat.reduceAdd, Nat.reduceSub, Nat.reduceLT, Nat.reduceLeDiff, reduceIte, reduceCtorEq, Nat.reduceEqDiff, implies_true, forall_const, lawV, beq_self_eq_true, bne_self_eq_false, Int.reduceBEq, Int.reduceBNe, Int.reduceLT, Int.reduceLE])
theorem at_prev5 {α : Type} (b : List α) (X Y Z W U T : α) : (b ++ [X] ++ [Y] ++ [Z] ++ [W] ++ [U] ++ [T])[b.length]? = some X := by simp
theorem at_prev6 {α : Type} (b : List α) (X Y Z W U T S : α) : (b ++ [X] ++ [Y] ++ [Z] ++ [W] ++ [U] ++ [T] ++ [S])[b.length]? = some X := by simp
theorem p_law11_short (d : Did) (h : DidFits d) : PC Tryz.V 33 [dsv d] (.bool (decide ((d.method.length : Int) + d.id.length ≤ 1000))) := by
  obtain ⟨h1, h2⟩ := h
  refine pc_of 3000 Tryz.func33 rfl Tryz.ntmps33 Tryz.results33 Tryz.call33 (by simp) (by simp [flat, flat.flatL, dsv, wsv]) (by simp [flat, flat.flatL, dsv, wsv]) ?_
  unfold dsv
  simp only [vcS, ↓Xn, ↓Xo, ↓Xg, ↓Xd, ↓Xe, ↓Xf, XQ, XG, gvU, setR, orN, Yl, Xm, Yn, Yi, Xa, Ym, Xc, Xc.sizeIs, reS, Xj, Yb, mmS, Xq, dstS, srcS, XP, XN, XO, Yc, XA, Yg, Xy, XE, endV, gdst, Yk, XR, Yd, goR, XC, sBox, XU, XH, Xr, sNil, XL, Xt, XV, Xv, goD, valD, XI, XF, XB, dNil, XK, XD, dBox, dN, Xz, opL, idxs, pv, XX, Ya, XJ, Xb, Xu, oBin, oUn, Ye, XW, Xw, Xx, Xh, Xk, XY, XS, oLen, lenS, Yh, ev, lk, Vc.put, fits, kd, sz, Tryz.VΓ, Tryz.Γs, bin, binI, binS, ifK, ar, eqB, eqS, eqK, eqK.eqF, negB, bnds, optE, XM, Vc.cells, isV, Vc.one, Xs, getB, setB, XZ, Xp, Xi, Yf, Xl, XT, resS, tupS, ofV, Yj, Nat.reduceAdd, Nat.reduceSub, Nat.reduceLT, Nat.reduceLeDiff, reduceIte, reduceCtorEq, Nat.reduceEqDiff, implies_true, forall_const, lawV, beq_self_eq_true, bne_self_eq_false, Int.reduceBEq, Int.reduceBNe, Int.reduceLT, Int.reduceLE]
  omega
set_option maxHeartbeats 2000000 in
theorem p_law11_DidwebURLs (d : Did) (s : Bytes) (h : DidFits d) : PC Tryz.V 8 [dsv d, .str s] (.bool true) := by
  have q1 := p_r10_ParseDID s
  have hx := did_fit s
  generalize (didParse s) = x at q1 hx
  obtain ⟨x, e⟩ := x
  simp only at q1 hx
  unfold dsv at q1
  have ps := p_law11_short d h
  unfold dsv at ps
  refine pc_of 3000 Tryz.func8 rfl Tryz.ntmps8 Tryz.results8 Tryz.call8 (by simp) (by simp [flat, flat.flatL, dsv, wsv]) (by simp [flat, flat.flatL, dsv, wsv]) ?_
  unfold dsv
  simp only [vcS, ↓Xn, ↓Xo, ↓Xg, ↓Xd, ↓Xe, ↓Xf, XQ, XG, gvU, setR, orN, Yl, Xm, Yn, Yi, Xa, Ym, Xc, Xc.sizeIs, reS, Xj, Yb, mmS, Xq, dstS, srcS, XP, XN, XO, Yc, XA, Yg, Xy, XE, endV, gdst, Yk, XR, Yd, goR, XC, sBox, XU, XH, Xr, sNil, XL, Xt, XV, Xv, goD, valD, XI, XF, XB, dNil, XK, XD, dBox, dN, Xz, opL, idxs, pv, XX, Ya, XJ, Xb, Xu, oBin, oUn, Ye, XW, Xw, Xx, Xh, Xk, XY, XS, oLen, lenS, Yh, ev, lk, Vc.put, fits, kd, sz, Tryz.VΓ, Tryz.Γs, bin, binI, binS, ifK, ar, eqB, eqS, eqK, eqK.eqF, negB, bnds, optE, XM, Vc.cells, isV, Vc.one, Xs, getB, setB, XZ, Xp, Xi, Yf, Xl, XT, resS, tupS, ofV, Yj, Nat.reduceAdd, Nat.reduceSub, Nat.reduceLT, Nat.reduceLeDiff, reduceIte, reduceCtorEq, Nat.reduceEqDiff, implies_true, forall_const, lawV, beq_self_eq_true, bne_self_eq_false, Int.reduceBEq, Int.reduceBNe, Int.reduceLT, Int.reduceLE]
  (refine callV_pc (p_law11_sane) ?_; simp only [vcS, ↓Xn, ↓Xo, ↓Xg, ↓Xd, ↓Xe, ↓Xf, XQ, XG, gvU, setR, orN, Yl, Xm, Yn, Yi, Xa, Ym, Xc, Xc.sizeIs, reS, Xj, Yb, mmS, Xq, dstS, srcS, XP, XN, XO, Yc, XA, Yg, Xy, XE, endV, gdst, Yk, XR, Yd, goR, XC, sBox, XU, XH, Xr, sNil, XL, Xt, XV, Xv, goD, valD, XI, XF, XB, dNil, XK, XD, dBox, dN, Xz, opL, idxs, pv, XX, Ya, XJ, Xb, Xu, oBin, oUn, Ye, XW, Xw, Xx, Xh, Xk, XY, XS, oLen, lenS, Yh, ev, lk, Vc.put, fits, kd, sz, Tryz.VΓ, Tryz.Γs, bin, binI, binS, ifK, ar, eqB, eqS, eqK, eqK.eqF, negB, bnds, optE, XM, Vc.cells, isV, Vc.one, Xs, getB, setB, XZ, Xp, Xi, Yf, Xl, XT, resS, tupS, ofV, Yj, Nat.reduceAdd, Nat.reduceSub, Nat.reduceLT, Nat.reduceLeDiff, reduceIte, reduceCtorEq, Nat.reduceEqDiff, implies_true, forall_const, lawV, beq_self_eq_true, bne_self_eq_false, Int.reduceBEq, Int.reduceBNe, Int.reduceLT, Int.reduceLE])
  (refine callV_pc (ps) ?_; simp only [vcS, ↓Xn, ↓Xo, ↓Xg, ↓Xd, ↓Xe, ↓Xf, XQ, XG, gvU, setR, orN, Yl, Xm, Yn, Yi, Xa, Ym, Xc, Xc.sizeIs, reS, Xj, Yb, mmS, Xq, dstS, srcS, XP, XN, XO, Yc, XA, Yg, Xy, XE, endV, gdst, Yk, XR, Yd, goR, XC, sBox, XU, XH, Xr, sNil, XL, Xt, XV, Xv, goD, valD, XI, XF, XB, dNil, XK, XD, dBox, dN, Xz, opL, idxs, pv, XX, Ya, XJ, Xb, Xu, oBin, oUn, Ye, XW, Xw, Xx, Xh, Xk, XY, XS, oLen, lenS, Yh, ev, lk, Vc.put, fits, kd, sz, Tryz.VΓ, Tryz.Γs, bin, binI, binS, ifK, ar, eqB, eqS, eqK, eqK.eqF, negB, bnds, optE, XM, Vc.cells, isV, Vc.one, Xs, getB, setB, XZ, Xp, Xi, Yf, Xl, XT, resS, tupS, ofV, Yj, Nat.reduceAdd, Nat.reduceSub, Nat.reduceLT, Nat.reduceLeDiff, reduceIte, reduceCtorEq, Nat.reduceEqDiff, implies_true, forall_const, lawV, beq_self_eq_true, bne_self_eq_false, Int.reduceBEq, Int.reduceBNe, Int.reduceLT, Int.reduceLE])
  intro g1 g2
  (refine callV_pc (q1) ?_; simp only [vcS, ↓Xn, ↓Xo, ↓Xg, ↓Xd, ↓Xe, ↓Xf, XQ, XG, gvU, setR, orN, Yl, Xm, Yn, Yi, Xa, Ym, Xc, Xc.sizeIs, reS, Xj, Yb, mmS, Xq, dstS, srcS, XP, XN, XO, Yc, XA, Yg, Xy, XE, endV, gdst, Yk, XR, Yd, goR, XC, sBox, XU, XH, Xr, sNil, XL, Xt, XV, Xv, goD, valD, XI, XF, XB, dNil, XK, XD, dBox, dN, Xz, opL, idxs, pv, XX, Ya, XJ, Xb, Xu, oBin, oUn, Ye, XW, Xw, Xx, Xh, Xk, XY, XS, oLen, lenS, Yh, ev, lk, Vc.put, fits, kd, sz, Tryz.VΓ, Tryz.Γs, bin, binI, binS, ifK, ar, eqB, eqS, eqK, eqK.eqF, negB, bnds, optE, XM, Vc.cells, isV, Vc.one, Xs, getB, setB, XZ, Xp, Xi, Yf, Xl, XT, resS, tupS, ofV, Yj, Nat.reduceAdd, Nat.reduceSub, Nat.reduceLT, Nat.reduceLeDiff, reduceIte, reduceCtorEq, Nat.reduceEqDiff, implies_true, forall_const, lawV, beq_self_eq_true, bne_self_eq_false, Int.reduceBEq, Int.reduceBNe, Int.reduceLT, Int.reduceLE])
  refine ⟨by decide, loopV_mk (fun σ => ∃ k : Nat, k ≤ 2 ∧ lk 38 σ.t = some (.o 2 2) ∧ lk 39 σ.t = some (.int .i64 (2 : Nat)) ∧ lk 40 σ.t = some (.int .i64 k) ∧ σ.b[2]? = some (.own [.str d.method, .str d.id, .str x.method, .str x.id] 24 2 2 true)) (fun σ => 2 - lkI 40 σ) ⟨0, by omega, rfl, rfl, rfl, rfl⟩ ?_⟩
  rintro ⟨t, b⟩ ⟨k, hk, h38, h39, h40, hb⟩
  simp only at h38 h39 h40 hb
  rw [lkI_eq h40]
  obtain rfl | rfl | rfl : k = 0 ∨ k = 1 ∨ k = 2 := by omega
  · simp only [vcS, ↓Xn, ↓Xo, ↓Xg, ↓Xd, ↓Xe, ↓Xf, XQ, XG, gvU, setR, orN, Yl, Xm, Yn, Yi, Xa, Ym, Xc, Xc.sizeIs, reS, Xj, Yb, mmS, Xq, dstS, srcS, XP, XN, XO, Yc, XA, Yg, Xy, XE, endV, gdst, Yk, XR, Yd, goR, XC, sBox, XU, XH, Xr, sNil, XL, Xt, XV, Xv, goD, valD, XI, XF, XB, dNil, XK, XD, dBox, dN, Xz, opL, idxs, pv, XX, Ya, XJ, Xb, Xu, oBin, oUn, Ye, XW, Xw, Xx, Xh, Xk, XY, XS, oLen, lenS, Yh, ev, lk, Vc.put, fits, kd, sz, Tryz.VΓ, Tryz.Γs, bin, binI, binS, ifK, ar, eqB, eqS, eqK, eqK.eqF, negB, bnds, optE, XM, Vc.cells, isV, Vc.one, Xs, getB, setB, XZ, Xp, Xi, Yf, Xl, XT, resS, tupS, ofV, Yj, Nat.reduceAdd, Nat.reduceSub, Nat.reduceLT, Nat.reduceLeDiff, reduceIte, reduceCtorEq, Nat.reduceEqDiff, implies_true, forall_const, lawV, h38, h39, h40, hb, Nat.zero_mul, Nat.one_mul, List.drop_zero, List.drop_succ_cons, List.take_succ_cons, List.take_zero, at_new, at_prev, at_prev2, at_prev3, at_prev4, at_prev5, at_prev6, set_new, set_prev, beq_self_eq_true, bne_self_eq_false, Int.reduceBEq, Int.reduceBNe, Int.reduceLT, Int.reduceLE]
    intro _
    have z1 := p_web_Authority d h
    have z2 := p_r11_Authority d h
    have z3 := p_web_ToURL d h
    have z4 := p_r11_ToURL d h
    have z5 := p_web_Canonical d h
    have z6 := p_r11_Canonical d h
    generalize didAuth d = y1 at z1 z2
    generalize toUrl d = y2 at z3 z4
    generalize didCano d = y3 at z5 z6
    obtain ⟨⟨y1, q1⟩, e1⟩ := y1
    obtain ⟨y2, e2⟩ := y2
    obtain ⟨y3, e3⟩ := y3
    unfold dsv at z1 z2
    unfold dsv wsv at z3 z4
    unfold dsv at z5 z6
    simp only at z1 z2 z3 z4 z5 z6
    refine ⟨⟨by omega, by omega⟩, ?_⟩
    (refine callV_pc z1 ?_; simp only [vcS, ↓Xn, ↓Xo, ↓Xg, ↓Xd, ↓Xe, ↓Xf, XQ, XG, gvU, setR, orN, Yl, Xm, Yn, Yi, Xa, Ym, Xc, Xc.sizeIs, reS, Xj, Yb, mmS, Xq, dstS, srcS, XP, XN, XO, Yc, XA, Yg, Xy, XE, endV, gdst, Yk, XR, Yd, goR, XC, sBox, XU, XH, Xr, sNil, XL, Xt, XV, Xv, goD, valD, XI, XF, XB, dNil, XK, XD, dBox, dN, Xz, opL, idxs, pv, XX, Ya, XJ, Xb, Xu, oBin, oUn, Ye, XW, Xw, Xx, Xh, Xk, XY, XS, oLen, lenS, Yh, ev, lk, Vc.put, fits, kd, sz, Tryz.VΓ, Tryz.Γs, bin, binI, binS, ifK, ar, eqB, eqS, eqK, eqK.eqF, negB, bnds, optE, XM, Vc.cells, isV, Vc.one, Xs, getB, setB, XZ, Xp, Xi, Yf, Xl, XT, resS, tupS, ofV, Yj, Nat.reduceAdd, Nat.reduceSub, Nat.reduceLT, Nat.reduceLeDiff, reduceIte, reduceCtorEq, Nat.reduceEqDiff, implies_true, forall_const, lawV, h38, h39, h40, hb, Nat.zero_mul, Nat.one_mul, List.drop_zero, List.drop_succ_cons, List.take_succ_cons, List.take_zero, at_new, at_prev, at_prev2, at_prev3, at_prev4, at_prev5, at_prev6, set_new, set_prev, beq_self_eq_true, bne_self_eq_false, Int.reduceBEq, Int.reduceBNe, Int.reduceLT, Int.reduceLE])
    (refine callV_pc z2 ?_; simp only [vcS, ↓Xn, ↓Xo, ↓Xg, ↓Xd, ↓Xe, ↓Xf, XQ, XG, gvU, setR, orN, Yl, Xm, Yn, Yi, Xa, Ym, Xc, Xc.sizeIs, reS, Xj, Yb, mmS, Xq, dstS, srcS, XP, XN, XO, Yc, XA, Yg, Xy, XE, endV, gdst, Yk, XR, Yd, goR, XC, sBox, XU, XH, Xr, sNil, XL, Xt, XV, Xv, goD, valD, XI, XF, XB, dNil, XK, XD, dBox, dN, Xz, opL, idxs, pv, XX, Ya, XJ, Xb, Xu, oBin, oUn, Ye, XW, Xw, Xx, Xh, Xk, XY, XS, oLen, lenS, Yh, ev, lk, Vc.put, fits, kd, sz, Tryz.VΓ, Tryz.Γs, bin, binI, binS, ifK, ar, eqB, eqS, eqK, eqK.eqF, negB, bnds, optE, XM, Vc.cells, isV, Vc.one, Xs, getB, setB, XZ, Xp, Xi, Yf, Xl, XT, resS, tupS, ofV, Yj, Nat.reduceAdd, Nat.reduceSub, Nat.reduceLT, Nat.reduceLeDiff, reduceIte, reduceCtorEq, Nat.reduceEqDiff, implies_true, forall_const, lawV, h38, h39, h40, hb, Nat.zero_mul, Nat.one_mul, List.drop_zero, List.drop_succ_cons, List.take_succ_cons, List.take_zero, at_new, at_prev, at_prev2, at_prev3, at_prev4, at_prev5, at_prev6, set_new, set_prev, beq_self_eq_true, bne_self_eq_false, Int.reduceBEq, Int.reduceBNe, Int.reduceLT, Int.reduceLE])
    (refine callV_pc z3 ?_; simp only [vcS, ↓Xn, ↓Xo, ↓Xg, ↓Xd, ↓Xe, ↓Xf, XQ, XG, gvU, setR, orN, Yl, Xm, Yn, Yi, Xa, Ym, Xc, Xc.sizeIs, reS, Xj, Yb, mmS, Xq, dstS, srcS, XP, XN, XO, Yc, XA, Yg, Xy, XE, endV, gdst, Yk, XR, Yd, goR, XC, sBox, XU, XH, Xr, sNil, XL, Xt, XV, Xv, goD, valD, XI, XF, XB, dNil, XK, XD, dBox, dN, Xz, opL, idxs, pv, XX, Ya, XJ, Xb, Xu, oBin, oUn, Ye, XW, Xw, Xx, Xh, Xk, XY, XS, oLen, lenS, Yh, ev, lk, Vc.put, fits, kd, sz, Tryz.VΓ, Tryz.Γs, bin, binI, binS, ifK, ar, eqB, eqS, eqK, eqK.eqF, negB, bnds, optE, XM, Vc.cells, isV, Vc.one, Xs, getB, setB, XZ, Xp, Xi, Yf, Xl, XT, resS, tupS, ofV, Yj, Nat.reduceAdd, Nat.reduceSub, Nat.reduceLT, Nat.reduceLeDiff, reduceIte, reduceCtorEq, Nat.reduceEqDiff, implies_true, forall_const, lawV, h38, h39, h40, hb, Nat.zero_mul, Nat.one_mul, List.drop_zero, List.drop_succ_cons, List.take_succ_cons, List.take_zero, at_new, at_prev, at_prev2, at_prev3, at_prev4, at_prev5, at_prev6, set_new, set_prev, beq_self_eq_true, bne_self_eq_false, Int.reduceBEq, Int.reduceBNe, Int.reduceLT, Int.reduceLE])
    (refine callV_pc z4 ?_; simp only [vcS, ↓Xn, ↓Xo, ↓Xg, ↓Xd, ↓Xe, ↓Xf, XQ, XG, gvU, setR, orN, Yl, Xm, Yn, Yi, Xa, Ym, Xc, Xc.sizeIs, reS, Xj, Yb, mmS, Xq, dstS, srcS, XP, XN, XO, Yc, XA, Yg, Xy, XE, endV, gdst, Yk, XR, Yd, goR, XC, sBox, XU, XH, Xr, sNil, XL, Xt, XV, Xv, goD, valD, XI, XF, XB, dNil, XK, XD, dBox, dN, Xz, opL, idxs, pv, XX, Ya, XJ, Xb, Xu, oBin, oUn, Ye, XW, Xw, Xx, Xh, Xk, XY, XS, oLen, lenS, Yh, ev, lk, Vc.put, fits, kd, sz, Tryz.VΓ, Tryz.Γs, bin, binI, binS, ifK, ar, eqB, eqS, eqK, eqK.eqF, negB, bnds, optE, XM, Vc.cells, isV, Vc.one, Xs, getB, setB, XZ, Xp, Xi, Yf, Xl, XT, resS, tupS, ofV, Yj, Nat.reduceAdd, Nat.reduceSub, Nat.reduceLT, Nat.reduceLeDiff, reduceIte, reduceCtorEq, Nat.reduceEqDiff, implies_true, forall_const, lawV, h38, h39, h40, hb, Nat.zero_mul, Nat.one_mul, List.drop_zero, List.drop_succ_cons, List.take_succ_cons, List.take_zero, at_new, at_prev, at_prev2, at_prev3, at_prev4, at_prev5, at_prev6, set_new, set_prev, beq_self_eq_true, bne_self_eq_false, Int.reduceBEq, Int.reduceBNe, Int.reduceLT, Int.reduceLE])
    (refine callV_pc z5 ?_; simp only [vcS, ↓Xn, ↓Xo, ↓Xg, ↓Xd, ↓Xe, ↓Xf, XQ, XG, gvU, setR, orN, Yl, Xm, Yn, Yi, Xa, Ym, Xc, Xc.sizeIs, reS, Xj, Yb, mmS, Xq, dstS, srcS, XP, XN, XO, Yc, XA, Yg, Xy, XE, endV, gdst, Yk, XR, Yd, goR, XC, sBox, XU, XH, Xr, sNil, XL, Xt, XV, Xv, goD, valD, XI, XF, XB, dNil, XK, XD, dBox, dN, Xz, opL, idxs, pv, XX, Ya, XJ, Xb, Xu, oBin, oUn, Ye, XW, Xw, Xx, Xh, Xk, XY, XS, oLen, lenS, Yh, ev, lk, Vc.put, fits, kd, sz, Tryz.VΓ, Tryz.Γs, bin, binI, binS, ifK, ar, eqB, eqS, eqK, eqK.eqF, negB, bnds, optE, XM, Vc.cells, isV, Vc.one, Xs, getB, setB, XZ, Xp, Xi, Yf, Xl, XT, resS, tupS, ofV, Yj, Nat.reduceAdd, Nat.reduceSub, Nat.reduceLT, Nat.reduceLeDiff, reduceIte, reduceCtorEq, Nat.reduceEqDiff, implies_true, forall_const, lawV, h38, h39, h40, hb, Nat.zero_mul, Nat.one_mul, List.drop_zero, List.drop_succ_cons, List.take_succ_cons, List.take_zero, at_new, at_prev, at_prev2, at_prev3, at_prev4, at_prev5, at_prev6, set_new, set_prev, beq_self_eq_true, bne_self_eq_false, Int.reduceBEq, Int.reduceBNe, Int.reduceLT, Int.reduceLE])
    (refine callV_pc z6 ?_; simp only [vcS, ↓Xn, ↓Xo, ↓Xg, ↓Xd, ↓Xe, ↓Xf, XQ, XG, gvU, setR, orN, Yl, Xm, Yn, Yi, Xa, Ym, Xc, Xc.sizeIs, reS, Xj, Yb, mmS, Xq, dstS, srcS, XP, XN, XO, Yc, XA, Yg, Xy, XE, endV, gdst, Yk, XR, Yd, goR, XC, sBox, XU, XH, Xr, sNil, XL, Xt, XV, Xv, goD, valD, XI, XF, XB, dNil, XK, XD, dBox, dN, Xz, opL, idxs, pv, XX, Ya, XJ, Xb, Xu, oBin, oUn, Ye, XW, Xw, Xx, Xh, Xk, XY, XS, oLen, lenS, Yh, ev, lk, Vc.put, fits, kd, sz, Tryz.VΓ, Tryz.Γs, bin, binI, binS, ifK, ar, eqB, eqS, eqK, eqK.eqF, negB, bnds, optE, XM, Vc.cells, isV, Vc.one, Xs, getB, setB, XZ, Xp, Xi, Yf, Xl, XT, resS, tupS, ofV, Yj, Nat.reduceAdd, Nat.reduceSub, Nat.reduceLT, Nat.reduceLeDiff, reduceIte, reduceCtorEq, Nat.reduceEqDiff, implies_true, forall_const, lawV, h38, h39, h40, hb, Nat.zero_mul, Nat.one_mul, List.drop_zero, List.drop_succ_cons, List.take_succ_cons, List.take_zero, at_new, at_prev, at_prev2, at_prev3, at_prev4, at_prev5, at_prev6, set_new, set_prev, beq_self_eq_true, bne_self_eq_false, Int.reduceBEq, Int.reduceBNe, Int.reduceLT, Int.reduceLE])
    refine ⟨⟨by omega, by omega⟩, ⟨0 + 1, by omega, rfl, (by repeat (first | exact hb | refine at_old ?_ _))⟩, ?_⟩
    rw [lkI_eq (k := .i64) (n := ((0 : Nat) : Int) + 1) rfl]; omega
  · simp only [vcS, ↓Xn, ↓Xo, ↓Xg, ↓Xd, ↓Xe, ↓Xf, XQ, XG, gvU, setR, orN, Yl, Xm, Yn, Yi, Xa, Ym, Xc, Xc.sizeIs, reS, Xj, Yb, mmS, Xq, dstS, srcS, XP, XN, XO, Yc, XA, Yg, Xy, XE, endV, gdst, Yk, XR, Yd, goR, XC, sBox, XU, XH, Xr, sNil, XL, Xt, XV, Xv, goD, valD, XI, XF, XB, dNil, XK, XD, dBox, dN, Xz, opL, idxs, pv, XX, Ya, XJ, Xb, Xu, oBin, oUn, Ye, XW, Xw, Xx, Xh, Xk, XY, XS, oLen, lenS, Yh, ev, lk, Vc.put, fits, kd, sz, Tryz.VΓ, Tryz.Γs, bin, binI, binS, ifK, ar, eqB, eqS, eqK, eqK.eqF, negB, bnds, optE, XM, Vc.cells, isV, Vc.one, Xs, getB, setB, XZ, Xp, Xi, Yf, Xl, XT, resS, tupS, ofV, Yj, Nat.reduceAdd, Nat.reduceSub, Nat.reduceLT, Nat.reduceLeDiff, reduceIte, reduceCtorEq, Nat.reduceEqDiff, implies_true, forall_const, lawV, h38, h39, h40, hb, Nat.zero_mul, Nat.one_mul, List.drop_zero, List.drop_succ_cons, List.take_succ_cons, List.take_zero, at_new, at_prev, at_prev2, at_prev3, at_prev4, at_prev5, at_prev6, set_new, set_prev, beq_self_eq_true, bne_self_eq_false, Int.reduceBEq, Int.reduceBNe, Int.reduceLT, Int.reduceLE]
    intro _
    have z1 := p_web_Authority x hx
    have z2 := p_r11_Authority x hx
    have z3 := p_web_ToURL x hx
    have z4 := p_r11_ToURL x hx
    have z5 := p_web_Canonical x hx
    have z6 := p_r11_Canonical x hx
    generalize didAuth x = y1 at z1 z2
    generalize toUrl x = y2 at z3 z4
    generalize didCano x = y3 at z5 z6
    obtain ⟨⟨y1, q1⟩, e1⟩ := y1
    obtain ⟨y2, e2⟩ := y2
    obtain ⟨y3, e3⟩ := y3
    unfold dsv at z1 z2
    unfold dsv wsv at z3 z4
    unfold dsv at z5 z6
    simp only at z1 z2 z3 z4 z5 z6
    refine ⟨⟨by omega, by omega⟩, ?_⟩
    (refine callV_pc z1 ?_; simp only [vcS, ↓Xn, ↓Xo, ↓Xg, ↓Xd, ↓Xe, ↓Xf, XQ, XG, gvU, setR, orN, Yl, Xm, Yn, Yi, Xa, Ym, Xc, Xc.sizeIs, reS, Xj, Yb, mmS, Xq, dstS, srcS, XP, XN, XO, Yc, XA, Yg, Xy, XE, endV, gdst, Yk, XR, Yd, goR, XC, sBox, XU, XH, Xr, sNil, XL, Xt, XV, Xv, goD, valD, XI, XF, XB, dNil, XK, XD, dBox, dN, Xz, opL, idxs, pv, XX, Ya, XJ, Xb, Xu, oBin, oUn, Ye, XW, Xw, Xx, Xh, Xk, XY, XS, oLen, lenS, Yh, ev, lk, Vc.put, fits, kd, sz, Tryz.VΓ, Tryz.Γs, bin, binI, binS, ifK, ar, eqB, eqS, eqK, eqK.eqF, negB, bnds, optE, XM, Vc.cells, isV, Vc.one, Xs, getB, setB, XZ, Xp, Xi, Yf, Xl, XT, resS, tupS, ofV, Yj, Nat.reduceAdd, Nat.reduceSub, Nat.reduceLT, Nat.reduceLeDiff, reduceIte, reduceCtorEq, Nat.reduceEqDiff, implies_true, forall_const, lawV, h38, h39, h40, hb, Nat.zero_mul, Nat.one_mul, List.drop_zero, List.drop_succ_cons, List.take_succ_cons, List.take_zero, at_new, at_prev, at_prev2, at_prev3, at_prev4, at_prev5, at_prev6, set_new, set_prev, beq_self_eq_true, bne_self_eq_false, Int.reduceBEq, Int.reduceBNe, Int.reduceLT, Int.reduceLE])
    (refine callV_pc z2 ?_; simp only [vcS, ↓Xn, ↓Xo, ↓Xg, ↓Xd, ↓Xe, ↓Xf, XQ, XG, gvU, setR, orN, Yl, Xm, Yn, Yi, Xa, Ym, Xc, Xc.sizeIs, reS, Xj, Yb, mmS, Xq, dstS, srcS, XP, XN, XO, Yc, XA, Yg, Xy, XE, endV, gdst, Yk, XR, Yd, goR, XC, sBox, XU, XH, Xr, sNil, XL, Xt, XV, Xv, goD, valD, XI, XF, XB, dNil, XK, XD, dBox, dN, Xz, opL, idxs, pv, XX, Ya, XJ, Xb, Xu, oBin, oUn, Ye, XW, Xw, Xx, Xh, Xk, XY, XS, oLen, lenS, Yh, ev, lk, Vc.put, fits, kd, sz, Tryz.VΓ, Tryz.Γs, bin, binI, binS, ifK, ar, eqB, eqS, eqK, eqK.eqF, negB, bnds, optE, XM, Vc.cells, isV, Vc.one, Xs, getB, setB, XZ, Xp, Xi, Yf, Xl, XT, resS, tupS, ofV, Yj, Nat.reduceAdd, Nat.reduceSub, Nat.reduceLT, Nat.reduceLeDiff, reduceIte, reduceCtorEq, Nat.reduceEqDiff, implies_true, forall_const, lawV, h38, h39, h40, hb, Nat.zero_mul, Nat.one_mul, List.drop_zero, List.drop_succ_cons, List.take_succ_cons, List.take_zero, at_new, at_prev, at_prev2, at_prev3, at_prev4, at_prev5, at_prev6, set_new, set_prev, beq_self_eq_true, bne_self_eq_false, Int.reduceBEq, Int.reduceBNe, Int.reduceLT, Int.reduceLE])
    (refine callV_pc z3 ?_; simp only [vcS, ↓Xn, ↓Xo, ↓Xg, ↓Xd, ↓Xe, ↓Xf, XQ, XG, gvU, setR, orN, Yl, Xm, Yn, Yi, Xa, Ym, Xc, Xc.sizeIs, reS, Xj, Yb, mmS, Xq, dstS, srcS, XP, XN, XO, Yc, XA, Yg, Xy, XE, endV, gdst, Yk, XR, Yd, goR, XC, sBox, XU, XH, Xr, sNil, XL, Xt, XV, Xv, goD, valD, XI, XF, XB, dNil, XK, XD, dBox, dN, Xz, opL, idxs, pv, XX, Ya, XJ, Xb, Xu, oBin, oUn, Ye, XW, Xw, Xx, Xh, Xk, XY, XS, oLen, lenS, Yh, ev, lk, Vc.put, fits, kd, sz, Tryz.VΓ, Tryz.Γs, bin, binI, binS, ifK, ar, eqB, eqS, eqK, eqK.eqF, negB, bnds, optE, XM, Vc.cells, isV, Vc.one, Xs, getB, setB, XZ, Xp, Xi, Yf, Xl, XT, resS, tupS, ofV, Yj, Nat.reduceAdd, Nat.reduceSub, Nat.reduceLT, Nat.reduceLeDiff, reduceIte, reduceCtorEq, Nat.reduceEqDiff, implies_true, forall_const, lawV, h38, h39, h40, hb, Nat.zero_mul, Nat.one_mul, List.drop_zero, List.drop_succ_cons, List.take_succ_cons, List.take_zero, at_new, at_prev, at_prev2, at_prev3, at_prev4, at_prev5, at_prev6, set_new, set_prev, beq_self_eq_true, bne_self_eq_false, Int.reduceBEq, Int.reduceBNe, Int.reduceLT, Int.reduceLE])
    (refine callV_pc z4 ?_; simp only [vcS, ↓Xn, ↓Xo, ↓Xg, ↓Xd, ↓Xe, ↓Xf, XQ, XG, gvU, setR, orN, Yl, Xm, Yn, Yi, Xa, Ym, Xc, Xc.sizeIs, reS, Xj, Yb, mmS, Xq, dstS, srcS, XP, XN, XO, Yc, XA, Yg, Xy, XE, endV, gdst, Yk, XR, Yd, goR, XC, sBox, XU, XH, Xr, sNil, XL, Xt, XV, Xv, goD, valD, XI, XF, XB, dNil, XK, XD, dBox, dN, Xz, opL, idxs, pv, XX, Ya, XJ, Xb, Xu, oBin, oUn, Ye, XW, Xw, Xx, Xh, Xk, XY, XS, oLen, lenS, Yh, ev, lk, Vc.put, fits, kd, sz, Tryz.VΓ, Tryz.Γs, bin, binI, binS, ifK, ar, eqB, eqS, eqK, eqK.eqF, negB, bnds, optE, XM, Vc.cells, isV, Vc.one, Xs, getB, setB, XZ, Xp, Xi, Yf, Xl, XT, resS, tupS, ofV, Yj, Nat.reduceAdd, Nat.reduceSub, Nat.reduceLT, Nat.reduceLeDiff, reduceIte, reduceCtorEq, Nat.reduceEqDiff, implies_true, forall_const, lawV, h38, h39, h40, hb, Nat.zero_mul, Nat.one_mul, List.drop_zero, List.drop_succ_cons, List.take_succ_cons, List.take_zero, at_new, at_prev, at_prev2, at_prev3, at_prev4, at_prev5, at_prev6, set_new, set_prev, beq_self_eq_true, bne_self_eq_false, Int.reduceBEq, Int.reduceBNe, Int.reduceLT, Int.reduceLE])
    (refine callV_pc z5 ?_; simp only [vcS, ↓Xn, ↓Xo, ↓Xg, ↓Xd, ↓Xe, ↓Xf, XQ, XG, gvU, setR, orN, Yl, Xm, Yn, Yi, Xa, Ym, Xc, Xc.sizeIs, reS, Xj, Yb, mmS, Xq, dstS, srcS, XP, XN, XO, Yc, XA, Yg, Xy, XE, endV, gdst, Yk, XR, Yd, goR, XC, sBox, XU, XH, Xr, sNil, XL, Xt, XV, Xv, goD, valD, XI, XF, XB, dNil, XK, XD, dBox, dN, Xz, opL, idxs, pv, XX, Ya, XJ, Xb, Xu, oBin, oUn, Ye, XW, Xw, Xx, Xh, Xk, XY, XS, oLen, lenS, Yh, ev, lk, Vc.put, fits, kd, sz, Tryz.VΓ, Tryz.Γs, bin, binI, binS, ifK, ar, eqB, eqS, eqK, eqK.eqF, negB, bnds, optE, XM, Vc.cells, isV, Vc.one, Xs, getB, setB, XZ, Xp, Xi, Yf, Xl, XT, resS, tupS, ofV, Yj, Nat.reduceAdd, Nat.reduceSub, Nat.reduceLT, Nat.reduceLeDiff, reduceIte, reduceCtorEq, Nat.reduceEqDiff, implies_true, forall_const, lawV, h38, h39, h40, hb, Nat.zero_mul, Nat.one_mul, List.drop_zero, List.drop_succ_cons, List.take_succ_cons, List.take_zero, at_new, at_prev, at_prev2, at_prev3, at_prev4, at_prev5, at_prev6, set_new, set_prev, beq_self_eq_true, bne_self_eq_false, Int.reduceBEq, Int.reduceBNe, Int.reduceLT, Int.reduceLE])
    (refine callV_pc z6 ?_; simp only [vcS, ↓Xn, ↓Xo, ↓Xg, ↓Xd, ↓Xe, ↓Xf, XQ, XG, gvU, setR, orN, Yl, Xm, Yn, Yi, Xa, Ym, Xc, Xc.sizeIs, reS, Xj, Yb, mmS, Xq, dstS, srcS, XP, XN, XO, Yc, XA, Yg, Xy, XE, endV, gdst, Yk, XR, Yd, goR, XC, sBox, XU, XH, Xr, sNil, XL, Xt, XV, Xv, goD, valD, XI, XF, XB, dNil, XK, XD, dBox, dN, Xz, opL, idxs, pv, XX, Ya, XJ, Xb, Xu, oBin, oUn, Ye, XW, Xw, Xx, Xh, Xk, XY, XS, oLen, lenS, Yh, ev, lk, Vc.put, fits, kd, sz, Tryz.VΓ, Tryz.Γs, bin, binI, binS, ifK, ar, eqB, eqS, eqK, eqK.eqF, negB, bnds, optE, XM, Vc.cells, isV, Vc.one, Xs, getB, setB, XZ, Xp, Xi, Yf, Xl, XT, resS, tupS, ofV, Yj, Nat.reduceAdd, Nat.reduceSub, Nat.reduceLT, Nat.reduceLeDiff, reduceIte, reduceCtorEq, Nat.reduceEqDiff, implies_true, forall_const, lawV, h38, h39, h40, hb, Nat.zero_mul, Nat.one_mul, List.drop_zero, List.drop_succ_cons, List.take_succ_cons, List.take_zero, at_new, at_prev, at_prev2, at_prev3, at_prev4, at_prev5, at_prev6, set_new, set_prev, beq_self_eq_true, bne_self_eq_false, Int.reduceBEq, Int.reduceBNe, Int.reduceLT, Int.reduceLE])
    refine ⟨⟨by omega, by omega⟩, ⟨1 + 1, by omega, rfl, (by repeat (first | exact hb | refine at_old ?_ _))⟩, ?_⟩
    rw [lkI_eq (k := .i64) (n := ((1 : Nat) : Int) + 1) rfl]; omega
  · simp only [vcS, ↓Xn, ↓Xo, ↓Xg, ↓Xd, ↓Xe, ↓Xf, XQ, XG, gvU, setR, orN, Yl, Xm, Yn, Yi, Xa, Ym, Xc, Xc.sizeIs, reS, Xj, Yb, mmS, Xq, dstS, srcS, XP, XN, XO, Yc, XA, Yg, Xy, XE, endV, gdst, Yk, XR, Yd, goR, XC, sBox, XU, XH, Xr, sNil, XL, Xt, XV, Xv, goD, valD, XI, XF, XB, dNil, XK, XD, dBox, dN, Xz, opL, idxs, pv, XX, Ya, XJ, Xb, Xu, oBin, oUn, Ye, XW, Xw, Xx, Xh, Xk, XY, XS, oLen, lenS, Yh, ev, lk, Vc.put, fits, kd, sz, Tryz.VΓ, Tryz.Γs, bin, binI, binS, ifK, ar, eqB, eqS, eqK, eqK.eqF, negB, bnds, optE, XM, Vc.cells, isV, Vc.one, Xs, getB, setB, XZ, Xp, Xi, Yf, Xl, XT, resS, tupS, ofV, Yj, Nat.reduceAdd, Nat.reduceSub, Nat.reduceLT, Nat.reduceLeDiff, reduceIte, reduceCtorEq, Nat.reduceEqDiff, implies_true, forall_const, lawV, h38, h39, h40, hb, Nat.zero_mul, Nat.one_mul, List.drop_zero, List.drop_succ_cons, List.take_succ_cons, List.take_zero, at_new, at_prev, at_prev2, at_prev3, at_prev4, at_prev5, at_prev6, set_new, set_prev, beq_self_eq_true, bne_self_eq_false, Int.reduceBEq, Int.reduceBNe, Int.reduceLT, Int.reduceLE]
    exact fun h => absurd h (by simp)
set_option maxHeartbeats 2000000 in
theorem p_law11_DidwebDIDs (u : Url) (s : Bytes) (hu : u.host.length ≤ 140737488355328 ∧ u.path.length ≤ 140737488355328 ∧ u.query.length ≤ 140737488355328 ∧ u.fragment.length ≤ 140737488355328) (hp : -9223372036854775808 ≤ u.port ∧ u.port ≤ 9223372036854775807) : PC Tryz.V 7 [wsv u, .str s] (.bool true) := by
  have q1 := p_r7_Parse s
  have hx := parse_fairU s
  generalize (urlParse s) = x at q1 hx
  obtain ⟨x, e⟩ := x
  simp only at q1 hx
  unfold wsv at q1
  refine pc_of 3000 Tryz.func7 rfl Tryz.ntmps7 Tryz.results7 Tryz.call7 (by simp) (by simp [flat, flat.flatL, dsv, wsv]) (by simp [flat, flat.flatL, dsv, wsv]) ?_
  unfold wsv
  simp only [vcS, ↓Xn, ↓Xo, ↓Xg, ↓Xd, ↓Xe, ↓Xf, XQ, XG, gvU, setR, orN, Yl, Xm, Yn, Yi, Xa, Ym, Xc, Xc.sizeIs, reS, Xj, Yb, mmS, Xq, dstS, srcS, XP, XN, XO, Yc, XA, Yg, Xy, XE, endV, gdst, Yk, XR, Yd, goR, XC, sBox, XU, XH, Xr, sNil, XL, Xt, XV, Xv, goD, valD, XI, XF, XB, dNil, XK, XD, dBox, dN, Xz, opL, idxs, pv, XX, Ya, XJ, Xb, Xu, oBin, oUn, Ye, XW, Xw, Xx, Xh, Xk, XY, XS, oLen, lenS, Yh, ev, lk, Vc.put, fits, kd, sz, Tryz.VΓ, Tryz.Γs, bin, binI, binS, ifK, ar, eqB, eqS, eqK, eqK.eqF, negB, bnds, optE, XM, Vc.cells, isV, Vc.one, Xs, getB, setB, XZ, Xp, Xi, Yf, Xl, XT, resS, tupS, ofV, Yj, Nat.reduceAdd, Nat.reduceSub, Nat.reduceLT, Nat.reduceLeDiff, reduceIte, reduceCtorEq, Nat.reduceEqDiff, implies_true, forall_const, lawV, beq_self_eq_true, bne_self_eq_false, Int.reduceBEq, Int.reduceBNe, Int.reduceLT, Int.reduceLE]
  (refine callV_pc (p_law11_sane) ?_; simp only [vcS, ↓Xn, ↓Xo, ↓Xg, ↓Xd, ↓Xe, ↓Xf, XQ, XG, gvU, setR, orN, Yl, Xm, Yn, Yi, Xa, Ym, Xc, Xc.sizeIs, reS, Xj, Yb, mmS, Xq, dstS, srcS, XP, XN, XO, Yc, XA, Yg, Xy, XE, endV, gdst, Yk, XR, Yd, goR, XC, sBox, XU, XH, Xr, sNil, XL, Xt, XV, Xv, goD, valD, XI, XF, XB, dNil, XK, XD, dBox, dN, Xz, opL, idxs, pv, XX, Ya, XJ, Xb, Xu, oBin, oUn, Ye, XW, Xw, Xx, Xh, Xk, XY, XS, oLen, lenS, Yh, ev, lk, Vc.put, fits, kd, sz, Tryz.VΓ, Tryz.Γs, bin, binI, binS, ifK, ar, eqB, eqS, eqK, eqK.eqF, negB, bnds, optE, XM, Vc.cells, isV, Vc.one, Xs, getB, setB, XZ, Xp, Xi, Yf, Xl, XT, resS, tupS, ofV, Yj, Nat.reduceAdd, Nat.reduceSub, Nat.reduceLT, Nat.reduceLeDiff, reduceIte, reduceCtorEq, Nat.reduceEqDiff, implies_true, forall_const, lawV, beq_self_eq_true, bne_self_eq_false, Int.reduceBEq, Int.reduceBNe, Int.reduceLT, Int.reduceLE])
  refine ⟨⟨by omega, by omega⟩, ⟨by omega, by omega⟩, ⟨by omega, by omega⟩, fun g1 g2 => ?_⟩
  have hfu : Fair u := ⟨by simp only [decide_eq_false_iff_not] at g1; omega, hp.1, hp.2⟩
  (refine callV_pc (q1) ?_; simp only [vcS, ↓Xn, ↓Xo, ↓Xg, ↓Xd, ↓Xe, ↓Xf, XQ, XG, gvU, setR, orN, Yl, Xm, Yn, Yi, Xa, Ym, Xc, Xc.sizeIs, reS, Xj, Yb, mmS, Xq, dstS, srcS, XP, XN, XO, Yc, XA, Yg, Xy, XE, endV, gdst, Yk, XR, Yd, goR, XC, sBox, XU, XH, Xr, sNil, XL, Xt, XV, Xv, goD, valD, XI, XF, XB, dNil, XK, XD, dBox, dN, Xz, opL, idxs, pv, XX, Ya, XJ, Xb, Xu, oBin, oUn, Ye, XW, Xw, Xx, Xh, Xk, XY, XS, oLen, lenS, Yh, ev, lk, Vc.put, fits, kd, sz, Tryz.VΓ, Tryz.Γs, bin, binI, binS, ifK, ar, eqB, eqS, eqK, eqK.eqF, negB, bnds, optE, XM, Vc.cells, isV, Vc.one, Xs, getB, setB, XZ, Xp, Xi, Yf, Xl, XT, resS, tupS, ofV, Yj, Nat.reduceAdd, Nat.reduceSub, Nat.reduceLT, Nat.reduceLeDiff, reduceIte, reduceCtorEq, Nat.reduceEqDiff, implies_true, forall_const, lawV, beq_self_eq_true, bne_self_eq_false, Int.reduceBEq, Int.reduceBNe, Int.reduceLT, Int.reduceLE])
  refine ⟨by decide, loopV_mk (fun σ => ∃ k : Nat, k ≤ 2 ∧ lk 43 σ.t = some (.o 2 2) ∧ lk 44 σ.t = some (.int .i64 (2 : Nat)) ∧ lk 45 σ.t = some (.int .i64 k) ∧ σ.b[2]? = some (.own [.str u.host, .int .i64 u.port, .str u.path, .str u.query, .str u.fragment, .bool u.hasQuery, .bool u.hasFrag, .str x.host, .int .i64 x.port, .str x.path, .str x.query, .str x.fragment, .bool x.hasQuery, .bool x.hasFrag] 29 7 2 true)) (fun σ => 2 - lkI 45 σ) ⟨0, by omega, rfl, rfl, rfl, rfl⟩ ?_⟩
  rintro ⟨t, b⟩ ⟨k, hk, h38, h39, h40, hb⟩
  simp only at h38 h39 h40 hb
  rw [lkI_eq h40]
  obtain rfl | rfl | rfl : k = 0 ∨ k = 1 ∨ k = 2 := by omega
  · simp only [vcS, ↓Xn, ↓Xo, ↓Xg, ↓Xd, ↓Xe, ↓Xf, XQ, XG, gvU, setR, orN, Yl, Xm, Yn, Yi, Xa, Ym, Xc, Xc.sizeIs, reS, Xj, Yb, mmS, Xq, dstS, srcS, XP, XN, XO, Yc, XA, Yg, Xy, XE, endV, gdst, Yk, XR, Yd, goR, XC, sBox, XU, XH, Xr, sNil, XL, Xt, XV, Xv, goD, valD, XI, XF, XB, dNil, XK, XD, dBox, dN, Xz, opL, idxs, pv, XX, Ya, XJ, Xb, Xu, oBin, oUn, Ye, XW, Xw, Xx, Xh, Xk, XY, XS, oLen, lenS, Yh, ev, lk, Vc.put, fits, kd, sz, Tryz.VΓ, Tryz.Γs, bin, binI, binS, ifK, ar, eqB, eqS, eqK, eqK.eqF, negB, bnds, optE, XM, Vc.cells, isV, Vc.one, Xs, getB, setB, XZ, Xp, Xi, Yf, Xl, XT, resS, tupS, ofV, Yj, Nat.reduceAdd, Nat.reduceSub, Nat.reduceLT, Nat.reduceLeDiff, reduceIte, reduceCtorEq, Nat.reduceEqDiff, implies_true, forall_const, lawV, h38, h39, h40, hb, Nat.zero_mul, Nat.one_mul, List.drop_zero, List.drop_succ_cons, List.take_succ_cons, List.take_zero, at_new, at_prev, at_prev2, at_prev3, at_prev4, at_prev5, at_prev6, set_new, set_prev, beq_self_eq_true, bne_self_eq_false, Int.reduceBEq, Int.reduceBNe, Int.reduceLT, Int.reduceLE]
    intro _
    have z1 := p_web_FromURL u hfu
    have z2 := p_r11_FromURL u hfu
    generalize fromUrl u = y1 at z1 z2
    obtain ⟨y1, e1⟩ := y1
    unfold dsv wsv at z1 z2
    simp only at z1 z2
    refine ⟨⟨by omega, by omega⟩, ?_⟩
    (refine callV_pc z1 ?_; simp only [vcS, ↓Xn, ↓Xo, ↓Xg, ↓Xd, ↓Xe, ↓Xf, XQ, XG, gvU, setR, orN, Yl, Xm, Yn, Yi, Xa, Ym, Xc, Xc.sizeIs, reS, Xj, Yb, mmS, Xq, dstS, srcS, XP, XN, XO, Yc, XA, Yg, Xy, XE, endV, gdst, Yk, XR, Yd, goR, XC, sBox, XU, XH, Xr, sNil, XL, Xt, XV, Xv, goD, valD, XI, XF, XB, dNil, XK, XD, dBox, dN, Xz, opL, idxs, pv, XX, Ya, XJ, Xb, Xu, oBin, oUn, Ye, XW, Xw, Xx, Xh, Xk, XY, XS, oLen, lenS, Yh, ev, lk, Vc.put, fits, kd, sz, Tryz.VΓ, Tryz.Γs, bin, binI, binS, ifK, ar, eqB, eqS, eqK, eqK.eqF, negB, bnds, optE, XM, Vc.cells, isV, Vc.one, Xs, getB, setB, XZ, Xp, Xi, Yf, Xl, XT, resS, tupS, ofV, Yj, Nat.reduceAdd, Nat.reduceSub, Nat.reduceLT, Nat.reduceLeDiff, reduceIte, reduceCtorEq, Nat.reduceEqDiff, implies_true, forall_const, lawV, h38, h39, h40, hb, Nat.zero_mul, Nat.one_mul, List.drop_zero, List.drop_succ_cons, List.take_succ_cons, List.take_zero, at_new, at_prev, at_prev2, at_prev3, at_prev4, at_prev5, at_prev6, set_new, set_prev, beq_self_eq_true, bne_self_eq_false, Int.reduceBEq, Int.reduceBNe, Int.reduceLT, Int.reduceLE])
    (refine callV_pc z2 ?_; simp only [vcS, ↓Xn, ↓Xo, ↓Xg, ↓Xd, ↓Xe, ↓Xf, XQ, XG, gvU, setR, orN, Yl, Xm, Yn, Yi, Xa, Ym, Xc, Xc.sizeIs, reS, Xj, Yb, mmS, Xq, dstS, srcS, XP, XN, XO, Yc, XA, Yg, Xy, XE, endV, gdst, Yk, XR, Yd, goR, XC, sBox, XU, XH, Xr, sNil, XL, Xt, XV, Xv, goD, valD, XI, XF, XB, dNil, XK, XD, dBox, dN, Xz, opL, idxs, pv, XX, Ya, XJ, Xb, Xu, oBin, oUn, Ye, XW, Xw, Xx, Xh, Xk, XY, XS, oLen, lenS, Yh, ev, lk, Vc.put, fits, kd, sz, Tryz.VΓ, Tryz.Γs, bin, binI, binS, ifK, ar, eqB, eqS, eqK, eqK.eqF, negB, bnds, optE, XM, Vc.cells, isV, Vc.one, Xs, getB, setB, XZ, Xp, Xi, Yf, Xl, XT, resS, tupS, ofV, Yj, Nat.reduceAdd, Nat.reduceSub, Nat.reduceLT, Nat.reduceLeDiff, reduceIte, reduceCtorEq, Nat.reduceEqDiff, implies_true, forall_const, lawV, h38, h39, h40, hb, Nat.zero_mul, Nat.one_mul, List.drop_zero, List.drop_succ_cons, List.take_succ_cons, List.take_zero, at_new, at_prev, at_prev2, at_prev3, at_prev4, at_prev5, at_prev6, set_new, set_prev, beq_self_eq_true, bne_self_eq_false, Int.reduceBEq, Int.reduceBNe, Int.reduceLT, Int.reduceLE])
    refine ⟨⟨by omega, by omega⟩, ⟨0 + 1, by omega, rfl, (by repeat (first | exact hb | refine at_old ?_ _))⟩, ?_⟩
    rw [lkI_eq (k := .i64) (n := ((0 : Nat) : Int) + 1) rfl]; omega
  · simp only [vcS, ↓Xn, ↓Xo, ↓Xg, ↓Xd, ↓Xe, ↓Xf, XQ, XG, gvU, setR, orN, Yl, Xm, Yn, Yi, Xa, Ym, Xc, Xc.sizeIs, reS, Xj, Yb, mmS, Xq, dstS, srcS, XP, XN, XO, Yc, XA, Yg, Xy, XE, endV, gdst, Yk, XR, Yd, goR, XC, sBox, XU, XH, Xr, sNil, XL, Xt, XV, Xv, goD, valD, XI, XF, XB, dNil, XK, XD, dBox, dN, Xz, opL, idxs, pv, XX, Ya, XJ, Xb, Xu, oBin, oUn, Ye, XW, Xw, Xx, Xh, Xk, XY, XS, oLen, lenS, Yh, ev, lk, Vc.put, fits, kd, sz, Tryz.VΓ, Tryz.Γs, bin, binI, binS, ifK, ar, eqB, eqS, eqK, eqK.eqF, negB, bnds, optE, XM, Vc.cells, isV, Vc.one, Xs, getB, setB, XZ, Xp, Xi, Yf, Xl, XT, resS, tupS, ofV, Yj, Nat.reduceAdd, Nat.reduceSub, Nat.reduceLT, Nat.reduceLeDiff, reduceIte, reduceCtorEq, Nat.reduceEqDiff, implies_true, forall_const, lawV, h38, h39, h40, hb, Nat.zero_mul, Nat.one_mul, List.drop_zero, List.drop_succ_cons, List.take_succ_cons, List.take_zero, at_new, at_prev, at_prev2, at_prev3, at_prev4, at_prev5, at_prev6, set_new, set_prev, beq_self_eq_true, bne_self_eq_false, Int.reduceBEq, Int.reduceBNe, Int.reduceLT, Int.reduceLE]
    intro _
    have z1 := p_web_FromURL x hx
    have z2 := p_r11_FromURL x hx
    generalize fromUrl x = y1 at z1 z2
    obtain ⟨y1, e1⟩ := y1
    unfold dsv wsv at z1 z2
    simp only at z1 z2
    refine ⟨⟨by omega, by omega⟩, ?_⟩
    (refine callV_pc z1 ?_; simp only [vcS, ↓Xn, ↓Xo, ↓Xg, ↓Xd, ↓Xe, ↓Xf, XQ, XG, gvU, setR, orN, Yl, Xm, Yn, Yi, Xa, Ym, Xc, Xc.sizeIs, reS, Xj, Yb, mmS, Xq, dstS, srcS, XP, XN, XO, Yc, XA, Yg, Xy, XE, endV, gdst, Yk, XR, Yd, goR, XC, sBox, XU, XH, Xr, sNil, XL, Xt, XV, Xv, goD, valD, XI, XF, XB, dNil, XK, XD, dBox, dN, Xz, opL, idxs, pv, XX, Ya, XJ, Xb, Xu, oBin, oUn, Ye, XW, Xw, Xx, Xh, Xk, XY, XS, oLen, lenS, Yh, ev, lk, Vc.put, fits, kd, sz, Tryz.VΓ, Tryz.Γs, bin, binI, binS, ifK, ar, eqB, eqS, eqK, eqK.eqF, negB, bnds, optE, XM, Vc.cells, isV, Vc.one, Xs, getB, setB, XZ, Xp, Xi, Yf, Xl, XT, resS, tupS, ofV, Yj, Nat.reduceAdd, Nat.reduceSub, Nat.reduceLT, Nat.reduceLeDiff, reduceIte, reduceCtorEq, Nat.reduceEqDiff, implies_true, forall_const, lawV, h38, h39, h40, hb, Nat.zero_mul, Nat.one_mul, List.drop_zero, List.drop_succ_cons, List.take_succ_cons, List.take_zero, at_new, at_prev, at_prev2, at_prev3, at_prev4, at_prev5, at_prev6, set_new, set_prev, beq_self_eq_true, bne_self_eq_false, Int.reduceBEq, Int.reduceBNe, Int.reduceLT, Int.reduceLE])
    (refine callV_pc z2 ?_; simp only [vcS, ↓Xn, ↓Xo, ↓Xg, ↓Xd, ↓Xe, ↓Xf, XQ, XG, gvU, setR, orN, Yl, Xm, Yn, Yi, Xa, Ym, Xc, Xc.sizeIs, reS, Xj, Yb, mmS, Xq, dstS, srcS, XP, XN, XO, Yc, XA, Yg, Xy, XE, endV, gdst, Yk, XR, Yd, goR, XC, sBox, XU, XH, Xr, sNil, XL, Xt, XV, Xv, goD, valD, XI, XF, XB, dNil, XK, XD, dBox, dN, Xz, opL, idxs, pv, XX, Ya, XJ, Xb, Xu, oBin, oUn, Ye, XW, Xw, Xx, Xh, Xk, XY, XS, oLen, lenS, Yh, ev, lk, Vc.put, fits, kd, sz, Tryz.VΓ, Tryz.Γs, bin, binI, binS, ifK, ar, eqB, eqS, eqK, eqK.eqF, negB, bnds, optE, XM, Vc.cells, isV, Vc.one, Xs, getB, setB, XZ, Xp, Xi, Yf, Xl, XT, resS, tupS, ofV, Yj, Nat.reduceAdd, Nat.reduceSub, Nat.reduceLT, Nat.reduceLeDiff, reduceIte, reduceCtorEq, Nat.reduceEqDiff, implies_true, forall_const, lawV, h38, h39, h40, hb, Nat.zero_mul, Nat.one_mul, List.drop_zero, List.drop_succ_cons, List.take_succ_cons, List.take_zero, at_new, at_prev, at_prev2, at_prev3, at_prev4, at_prev5, at_prev6, set_new, set_prev, beq_self_eq_true, bne_self_eq_false, Int.reduceBEq, Int.reduceBNe, Int.reduceLT, Int.reduceLE])
    refine ⟨⟨by omega, by omega⟩, ⟨1 + 1, by omega, rfl, (by repeat (first | exact hb | refine at_old ?_ _))⟩, ?_⟩
    rw [lkI_eq (k := .i64) (n := ((1 : Nat) : Int) + 1) rfl]; omega
  · simp only [vcS, ↓Xn, ↓Xo, ↓Xg, ↓Xd, ↓Xe, ↓Xf, XQ, XG, gvU, setR, orN, Yl, Xm, Yn, Yi, Xa, Ym, Xc, Xc.sizeIs, reS, Xj, Yb, mmS, Xq, dstS, srcS, XP, XN, XO, Yc, XA, Yg, Xy, XE, endV, gdst, Yk, XR, Yd, goR, XC, sBox, XU, XH, Xr, sNil, XL, Xt, XV, Xv, goD, valD, XI, XF, XB, dNil, XK, XD, dBox, dN, Xz, opL, idxs, pv, XX, Ya, XJ, Xb, Xu, oBin, oUn, Ye, XW, Xw, Xx, Xh, Xk, XY, XS, oLen, lenS, Yh, ev, lk, Vc.put, fits, kd, sz, Tryz.VΓ, Tryz.Γs, bin, binI, binS, ifK, ar, eqB, eqS, eqK, eqK.eqF, negB, bnds, optE, XM, Vc.cells, isV, Vc.one, Xs, getB, setB, XZ, Xp, Xi, Yf, Xl, XT, resS, tupS, ofV, Yj, Nat.reduceAdd, Nat.reduceSub, Nat.reduceLT, Nat.reduceLeDiff, reduceIte, reduceCtorEq, Nat.reduceEqDiff, implies_true, forall_const, lawV, h38, h39, h40, hb, Nat.zero_mul, Nat.one_mul, List.drop_zero, List.drop_succ_cons, List.take_succ_cons, List.take_zero, at_new, at_prev, at_prev2, at_prev3, at_prev4, at_prev5, at_prev6, set_new, set_prev, beq_self_eq_true, bne_self_eq_false, Int.reduceBEq, Int.reduceBNe, Int.reduceLT, Int.reduceLE]
    exact fun h => absurd h (by simp)
set_option maxHeartbeats 2000000 in
theorem p_law11_DidwebHosts (s : Bytes) : PC Tryz.V 3 [.str s] (.bool true) := by
  have q1 := p_r10_ParseDID s
  have hx := did_fit s
  generalize (didParse s) = x at q1 hx
  obtain ⟨d, e⟩ := x
  simp only at q1 hx
  have q2 := p_web_ToURL d hx
  have q3 := p_web_Authority d hx
  unfold dsv at q1 q3
  by_cases h0 : (toUrl d).2 = 0
  · have hc := toUrl_can (d := d) (u := (toUrl d).1) (by rw [← h0])
    have hfair := toUrl_fair d h0
    obtain ⟨hc1, hc2, hc3, hc4⟩ := hc
    rw [hc4] at q3
    generalize toUrl d = X at *
    obtain ⟨u, e2⟩ := X
    simp only at h0 q2 q3 hc1 hc2 hc3 hfair
    subst h0
    have q4 := p_r7_Valid u hfair
    rw [CanUrl.valid hc1] at q4
    unfold dsv wsv at q2
    unfold wsv at q4
    rw [hc2, hc3] at q2 q4
    refine pc_of 3000 Tryz.func3 rfl Tryz.ntmps3 Tryz.results3 Tryz.call3 (by simp) (by simp [flat, flat.flatL, dsv, wsv]) (by simp [flat, flat.flatL, dsv, wsv]) ?_
    simp only [vcS, ↓Xn, ↓Xo, ↓Xg, ↓Xd, ↓Xe, ↓Xf, XQ, XG, gvU, setR, orN, Yl, Xm, Yn, Yi, Xa, Ym, Xc, Xc.sizeIs, reS, Xj, Yb, mmS, Xq, dstS, srcS, XP, XN, XO, Yc, XA, Yg, Xy, XE, endV, gdst, Yk, XR, Yd, goR, XC, sBox, XU, XH, Xr, sNil, XL, Xt, XV, Xv, goD, valD, XI, XF, XB, dNil, XK, XD, dBox, dN, Xz, opL, idxs, pv, XX, Ya, XJ, Xb, Xu, oBin, oUn, Ye, XW, Xw, Xx, Xh, Xk, XY, XS, oLen, lenS, Yh, ev, lk, Vc.put, fits, kd, sz, Tryz.VΓ, Tryz.Γs, bin, binI, binS, ifK, ar, eqB, eqS, eqK, eqK.eqF, negB, bnds, optE, XM, Vc.cells, isV, Vc.one, Xs, getB, setB, XZ, Xp, Xi, Yf, Xl, XT, resS, tupS, ofV, Yj, Nat.reduceAdd, Nat.reduceSub, Nat.reduceLT, Nat.reduceLeDiff, reduceIte, reduceCtorEq, Nat.reduceEqDiff, implies_true, forall_const, lawV, beq_self_eq_true, bne_self_eq_false, Int.reduceBEq, Int.reduceBNe, Int.reduceLT, Int.reduceLE]
    (refine callV_pc (p_law11_sane) ?_; simp only [vcS, ↓Xn, ↓Xo, ↓Xg, ↓Xd, ↓Xe, ↓Xf, XQ, XG, gvU, setR, orN, Yl, Xm, Yn, Yi, Xa, Ym, Xc, Xc.sizeIs, reS, Xj, Yb, mmS, Xq, dstS, srcS, XP, XN, XO, Yc, XA, Yg, Xy, XE, endV, gdst, Yk, XR, Yd, goR, XC, sBox, XU, XH, Xr, sNil, XL, Xt, XV, Xv, goD, valD, XI, XF, XB, dNil, XK, XD, dBox, dN, Xz, opL, idxs, pv, XX, Ya, XJ, Xb, Xu, oBin, oUn, Ye, XW, Xw, Xx, Xh, Xk, XY, XS, oLen, lenS, Yh, ev, lk, Vc.put, fits, kd, sz, Tryz.VΓ, Tryz.Γs, bin, binI, binS, ifK, ar, eqB, eqS, eqK, eqK.eqF, negB, bnds, optE, XM, Vc.cells, isV, Vc.one, Xs, getB, setB, XZ, Xp, Xi, Yf, Xl, XT, resS, tupS, ofV, Yj, Nat.reduceAdd, Nat.reduceSub, Nat.reduceLT, Nat.reduceLeDiff, reduceIte, reduceCtorEq, Nat.reduceEqDiff, implies_true, forall_const, lawV, beq_self_eq_true, bne_self_eq_false, Int.reduceBEq, Int.reduceBNe, Int.reduceLT, Int.reduceLE])
    intro hs
    (refine callV_pc (q1) ?_; simp only [vcS, ↓Xn, ↓Xo, ↓Xg, ↓Xd, ↓Xe, ↓Xf, XQ, XG, gvU, setR, orN, Yl, Xm, Yn, Yi, Xa, Ym, Xc, Xc.sizeIs, reS, Xj, Yb, mmS, Xq, dstS, srcS, XP, XN, XO, Yc, XA, Yg, Xy, XE, endV, gdst, Yk, XR, Yd, goR, XC, sBox, XU, XH, Xr, sNil, XL, Xt, XV, Xv, goD, valD, XI, XF, XB, dNil, XK, XD, dBox, dN, Xz, opL, idxs, pv, XX, Ya, XJ, Xb, Xu, oBin, oUn, Ye, XW, Xw, Xx, Xh, Xk, XY, XS, oLen, lenS, Yh, ev, lk, Vc.put, fits, kd, sz, Tryz.VΓ, Tryz.Γs, bin, binI, binS, ifK, ar, eqB, eqS, eqK, eqK.eqF, negB, bnds, optE, XM, Vc.cells, isV, Vc.one, Xs, getB, setB, XZ, Xp, Xi, Yf, Xl, XT, resS, tupS, ofV, Yj, Nat.reduceAdd, Nat.reduceSub, Nat.reduceLT, Nat.reduceLeDiff, reduceIte, reduceCtorEq, Nat.reduceEqDiff, implies_true, forall_const, lawV, beq_self_eq_true, bne_self_eq_false, Int.reduceBEq, Int.reduceBNe, Int.reduceLT, Int.reduceLE])
    (refine callV_pc (q2) ?_; simp only [vcS, ↓Xn, ↓Xo, ↓Xg, ↓Xd, ↓Xe, ↓Xf, XQ, XG, gvU, setR, orN, Yl, Xm, Yn, Yi, Xa, Ym, Xc, Xc.sizeIs, reS, Xj, Yb, mmS, Xq, dstS, srcS, XP, XN, XO, Yc, XA, Yg, Xy, XE, endV, gdst, Yk, XR, Yd, goR, XC, sBox, XU, XH, Xr, sNil, XL, Xt, XV, Xv, goD, valD, XI, XF, XB, dNil, XK, XD, dBox, dN, Xz, opL, idxs, pv, XX, Ya, XJ, Xb, Xu, oBin, oUn, Ye, XW, Xw, Xx, Xh, Xk, XY, XS, oLen, lenS, Yh, ev, lk, Vc.put, fits, kd, sz, Tryz.VΓ, Tryz.Γs, bin, binI, binS, ifK, ar, eqB, eqS, eqK, eqK.eqF, negB, bnds, optE, XM, Vc.cells, isV, Vc.one, Xs, getB, setB, XZ, Xp, Xi, Yf, Xl, XT, resS, tupS, ofV, Yj, Nat.reduceAdd, Nat.reduceSub, Nat.reduceLT, Nat.reduceLeDiff, reduceIte, reduceCtorEq, Nat.reduceEqDiff, implies_true, forall_const, lawV, beq_self_eq_true, bne_self_eq_false, Int.reduceBEq, Int.reduceBNe, Int.reduceLT, Int.reduceLE])
    (refine callV_pc (q3) ?_; simp only [vcS, ↓Xn, ↓Xo, ↓Xg, ↓Xd, ↓Xe, ↓Xf, XQ, XG, gvU, setR, orN, Yl, Xm, Yn, Yi, Xa, Ym, Xc, Xc.sizeIs, reS, Xj, Yb, mmS, Xq, dstS, srcS, XP, XN, XO, Yc, XA, Yg, Xy, XE, endV, gdst, Yk, XR, Yd, goR, XC, sBox, XU, XH, Xr, sNil, XL, Xt, XV, Xv, goD, valD, XI, XF, XB, dNil, XK, XD, dBox, dN, Xz, opL, idxs, pv, XX, Ya, XJ, Xb, Xu, oBin, oUn, Ye, XW, Xw, Xx, Xh, Xk, XY, XS, oLen, lenS, Yh, ev, lk, Vc.put, fits, kd, sz, Tryz.VΓ, Tryz.Γs, bin, binI, binS, ifK, ar, eqB, eqS, eqK, eqK.eqF, negB, bnds, optE, XM, Vc.cells, isV, Vc.one, Xs, getB, setB, XZ, Xp, Xi, Yf, Xl, XT, resS, tupS, ofV, Yj, Nat.reduceAdd, Nat.reduceSub, Nat.reduceLT, Nat.reduceLeDiff, reduceIte, reduceCtorEq, Nat.reduceEqDiff, implies_true, forall_const, lawV, beq_self_eq_true, bne_self_eq_false, Int.reduceBEq, Int.reduceBNe, Int.reduceLT, Int.reduceLE])
    (refine callV_pc (q4) ?_; simp only [vcS, ↓Xn, ↓Xo, ↓Xg, ↓Xd, ↓Xe, ↓Xf, XQ, XG, gvU, setR, orN, Yl, Xm, Yn, Yi, Xa, Ym, Xc, Xc.sizeIs, reS, Xj, Yb, mmS, Xq, dstS, srcS, XP, XN, XO, Yc, XA, Yg, Xy, XE, endV, gdst, Yk, XR, Yd, goR, XC, sBox, XU, XH, Xr, sNil, XL, Xt, XV, Xv, goD, valD, XI, XF, XB, dNil, XK, XD, dBox, dN, Xz, opL, idxs, pv, XX, Ya, XJ, Xb, Xu, oBin, oUn, Ye, XW, Xw, Xx, Xh, Xk, XY, XS, oLen, lenS, Yh, ev, lk, Vc.put, fits, kd, sz, Tryz.VΓ, Tryz.Γs, bin, binI, binS, ifK, ar, eqB, eqS, eqK, eqK.eqF, negB, bnds, optE, XM, Vc.cells, isV, Vc.one, Xs, getB, setB, XZ, Xp, Xi, Yf, Xl, XT, resS, tupS, ofV, Yj, Nat.reduceAdd, Nat.reduceSub, Nat.reduceLT, Nat.reduceLeDiff, reduceIte, reduceCtorEq, Nat.reduceEqDiff, implies_true, forall_const, lawV, beq_self_eq_true, bne_self_eq_false, Int.reduceBEq, Int.reduceBNe, Int.reduceLT, Int.reduceLE])
  · have hn := toUrl_err d h0
    have h0b : ((toUrl d).2 != 0) = true := by simpa using h0
    generalize toUrl d = X at *
    obtain ⟨u, e2⟩ := X
    simp only at h0b q2 hn
    subst hn
    unfold dsv wsv at q2
    refine pc_of 3000 Tryz.func3 rfl Tryz.ntmps3 Tryz.results3 Tryz.call3 (by simp) (by simp [flat, flat.flatL, dsv, wsv]) (by simp [flat, flat.flatL, dsv, wsv]) ?_
    simp only [vcS, ↓Xn, ↓Xo, ↓Xg, ↓Xd, ↓Xe, ↓Xf, XQ, XG, gvU, setR, orN, Yl, Xm, Yn, Yi, Xa, Ym, Xc, Xc.sizeIs, reS, Xj, Yb, mmS, Xq, dstS, srcS, XP, XN, XO, Yc, XA, Yg, Xy, XE, endV, gdst, Yk, XR, Yd, goR, XC, sBox, XU, XH, Xr, sNil, XL, Xt, XV, Xv, goD, valD, XI, XF, XB, dNil, XK, XD, dBox, dN, Xz, opL, idxs, pv, XX, Ya, XJ, Xb, Xu, oBin, oUn, Ye, XW, Xw, Xx, Xh, Xk, XY, XS, oLen, lenS, Yh, ev, lk, Vc.put, fits, kd, sz, Tryz.VΓ, Tryz.Γs, bin, binI, binS, ifK, ar, eqB, eqS, eqK, eqK.eqF, negB, bnds, optE, XM, Vc.cells, isV, Vc.one, Xs, getB, setB, XZ, Xp, Xi, Yf, Xl, XT, resS, tupS, ofV, Yj, Nat.reduceAdd, Nat.reduceSub, Nat.reduceLT, Nat.reduceLeDiff, reduceIte, reduceCtorEq, Nat.reduceEqDiff, implies_true, forall_const, lawV, beq_self_eq_true, bne_self_eq_false, Int.reduceBEq, Int.reduceBNe, Int.reduceLT, Int.reduceLE]
    (refine callV_pc (p_law11_sane) ?_; simp only [vcS, ↓Xn, ↓Xo, ↓Xg, ↓Xd, ↓Xe, ↓Xf, XQ, XG, gvU, setR, orN, Yl, Xm, Yn, Yi, Xa, Ym, Xc, Xc.sizeIs, reS, Xj, Yb, mmS, Xq, dstS, srcS, XP, XN, XO, Yc, XA, Yg, Xy, XE, endV, gdst, Yk, XR, Yd, goR, XC, sBox, XU, XH, Xr, sNil, XL, Xt, XV, Xv, goD, valD, XI, XF, XB, dNil, XK, XD, dBox, dN, Xz, opL, idxs, pv, XX, Ya, XJ, Xb, Xu, oBin, oUn, Ye, XW, Xw, Xx, Xh, Xk, XY, XS, oLen, lenS, Yh, ev, lk, Vc.put, fits, kd, sz, Tryz.VΓ, Tryz.Γs, bin, binI, binS, ifK, ar, eqB, eqS, eqK, eqK.eqF, negB, bnds, optE, XM, Vc.cells, isV, Vc.one, Xs, getB, setB, XZ, Xp, Xi, Yf, Xl, XT, resS, tupS, ofV, Yj, Nat.reduceAdd, Nat.reduceSub, Nat.reduceLT, Nat.reduceLeDiff, reduceIte, reduceCtorEq, Nat.reduceEqDiff, implies_true, forall_const, lawV, beq_self_eq_true, bne_self_eq_false, Int.reduceBEq, Int.reduceBNe, Int.reduceLT, Int.reduceLE])
    intro hs
    (refine callV_pc (q1) ?_; simp only [vcS, ↓Xn, ↓Xo, ↓Xg, ↓Xd, ↓Xe, ↓Xf, XQ, XG, gvU, setR, orN, Yl, Xm, Yn, Yi, Xa, Ym, Xc, Xc.sizeIs, reS, Xj, Yb, mmS, Xq, dstS, srcS, XP, XN, XO, Yc, XA, Yg, Xy, XE, endV, gdst, Yk, XR, Yd, goR, XC, sBox, XU, XH, Xr, sNil, XL, Xt, XV, Xv, goD, valD, XI, XF, XB, dNil, XK, XD, dBox, dN, Xz, opL, idxs, pv, XX, Ya, XJ, Xb, Xu, oBin, oUn, Ye, XW, Xw, Xx, Xh, Xk, XY, XS, oLen, lenS, Yh, ev, lk, Vc.put, fits, kd, sz, Tryz.VΓ, Tryz.Γs, bin, binI, binS, ifK, ar, eqB, eqS, eqK, eqK.eqF, negB, bnds, optE, XM, Vc.cells, isV, Vc.one, Xs, getB, setB, XZ, Xp, Xi, Yf, Xl, XT, resS, tupS, ofV, Yj, Nat.reduceAdd, Nat.reduceSub, Nat.reduceLT, Nat.reduceLeDiff, reduceIte, reduceCtorEq, Nat.reduceEqDiff, implies_true, forall_const, lawV, beq_self_eq_true, bne_self_eq_false, Int.reduceBEq, Int.reduceBNe, Int.reduceLT, Int.reduceLE])
    (refine callV_pc q2 ?_; simp only [vcS, ↓Xn, ↓Xo, ↓Xg, ↓Xd, ↓Xe, ↓Xf, XQ, XG, gvU, setR, orN, Yl, Xm, Yn, Yi, Xa, Ym, Xc, Xc.sizeIs, reS, Xj, Yb, mmS, Xq, dstS, srcS, XP, XN, XO, Yc, XA, Yg, Xy, XE, endV, gdst, Yk, XR, Yd, goR, XC, sBox, XU, XH, Xr, sNil, XL, Xt, XV, Xv, goD, valD, XI, XF, XB, dNil, XK, XD, dBox, dN, Xz, opL, idxs, pv, XX, Ya, XJ, Xb, Xu, oBin, oUn, Ye, XW, Xw, Xx, Xh, Xk, XY, XS, oLen, lenS, Yh, ev, lk, Vc.put, fits, kd, sz, Tryz.VΓ, Tryz.Γs, bin, binI, binS, ifK, ar, eqB, eqS, eqK, eqK.eqF, negB, bnds, optE, XM, Vc.cells, isV, Vc.one, Xs, getB, setB, XZ, Xp, Xi, Yf, Xl, XT, resS, tupS, ofV, Yj, Nat.reduceAdd, Nat.reduceSub, Nat.reduceLT, Nat.reduceLeDiff, reduceIte, reduceCtorEq, Nat.reduceEqDiff, implies_true, forall_const, lawV, h0b, beq_self_eq_true, bne_self_eq_false, Int.reduceBEq, Int.reduceBNe, Int.reduceLT, Int.reduceLE])
    rfl
theorem none_invalid : urlValid Url.none = false := by decide +kernel
theorem x_fit {u : Url} {x : Did} (hu : CanUrl u) (h : fromUrl u = (x, 0)) : DidFits x := by
  obtain ⟨-, ss, -, h2, -⟩ := from_to hu h
  have h3 := didText_len x
  exact ⟨by omega, by omega⟩
set_option maxHeartbeats 4000000 in
theorem p_law11_DidwebInverse (s t : Bytes) : PC Tryz.V 9 [.str s, .str t] (.bool true) := by
  have q1 := p_r10_ParseDID s
  have hfd := did_fit s
  generalize (didParse s) = X at q1 hfd
  obtain ⟨d, e⟩ := X
  simp only at q1 hfd
  have q2 := p_web_Canonical d hfd
  have hci := @canon_inverse d
  have hcf := @cano_fit d
  generalize (didCano d) = X at q2 hci hcf
  obtain ⟨c, ec⟩ := X
  simp only at q2 hci hcf
  unfold dsv at q1 q2
  have r1 := p_r7_Parse t
  have hpf := parse_fairU t
  have r2 := p_web_FromURL (urlParse t).1 hpf
  have hfe := fromUrl_err (urlParse t).1
  have hcu : (fromUrl (urlParse t).1).2 = 0 → CanUrl (urlParse t).1 := fun h => by
    by_cases k : (urlParse t).2 = 0
    · exact can_of_parse (s := t) (by rw [← k])
    · rw [urlParse_err t k] at h
      rw [show fromUrl Url.none = (Did.none, 8) from if_pos none_invalid] at h
      simp at h
  have hft : (fromUrl (urlParse t).1).2 = 0 → toUrl (fromUrl (urlParse t).1).1 = ((urlParse t).1, 0) := fun h => (from_to (hcu h) (by rw [← h])).1
  have hxf : (fromUrl (urlParse t).1).2 = 0 → DidFits (fromUrl (urlParse t).1).1 := fun h => x_fit (hcu h) (by rw [← h])
  clear hcu hpf
  generalize (urlParse t) = X at *
  obtain ⟨u, e3⟩ := X
  simp only at r1 r2 hfe hft hxf
  generalize (fromUrl u) = X at *
  obtain ⟨y, e4⟩ := X
  simp only at r2 hfe hft hxf
  unfold wsv at r1
  unfold dsv wsv at r2
  refine pc_of 3000 Tryz.func9 rfl Tryz.ntmps9 Tryz.results9 Tryz.call9 (by simp) (by simp [flat, flat.flatL, dsv, wsv]) (by simp [flat, flat.flatL, dsv, wsv]) ?_
  simp only [vcS, ↓Xn, ↓Xo, ↓Xg, ↓Xd, ↓Xe, ↓Xf, XQ, XG, gvU, setR, orN, Yl, Xm, Yn, Yi, Xa, Ym, Xc, Xc.sizeIs, reS, Xj, Yb, mmS, Xq, dstS, srcS, XP, XN, XO, Yc, XA, Yg, Xy, XE, endV, gdst, Yk, XR, Yd, goR, XC, sBox, XU, XH, Xr, sNil, XL, Xt, XV, Xv, goD, valD, XI, XF, XB, dNil, XK, XD, dBox, dN, Xz, opL, idxs, pv, XX, Ya, XJ, Xb, Xu, oBin, oUn, Ye, XW, Xw, Xx, Xh, Xk, XY, XS, oLen, lenS, Yh, ev, lk, Vc.put, fits, kd, sz, Tryz.VΓ, Tryz.Γs, bin, binI, binS, ifK, ar, eqB, eqS, eqK, eqK.eqF, negB, bnds, optE, XM, Vc.cells, isV, Vc.one, Xs, getB, setB, XZ, Xp, Xi, Yf, Xl, XT, resS, tupS, ofV, Yj, Nat.reduceAdd, Nat.reduceSub, Nat.reduceLT, Nat.reduceLeDiff, reduceIte, reduceCtorEq, Nat.reduceEqDiff, implies_true, forall_const, lawV, beq_self_eq_true, bne_self_eq_false, Int.reduceBEq, Int.reduceBNe, Int.reduceLT, Int.reduceLE]
  (refine callV_pc (p_law11_sane) ?_; simp only [vcS, ↓Xn, ↓Xo, ↓Xg, ↓Xd, ↓Xe, ↓Xf, XQ, XG, gvU, setR, orN, Yl, Xm, Yn, Yi, Xa, Ym, Xc, Xc.sizeIs, reS, Xj, Yb, mmS, Xq, dstS, srcS, XP, XN, XO, Yc, XA, Yg, Xy, XE, endV, gdst, Yk, XR, Yd, goR, XC, sBox, XU, XH, Xr, sNil, XL, Xt, XV, Xv, goD, valD, XI, XF, XB, dNil, XK, XD, dBox, dN, Xz, opL, idxs, pv, XX, Ya, XJ, Xb, Xu, oBin, oUn, Ye, XW, Xw, Xx, Xh, Xk, XY, XS, oLen, lenS, Yh, ev, lk, Vc.put, fits, kd, sz, Tryz.VΓ, Tryz.Γs, bin, binI, binS, ifK, ar, eqB, eqS, eqK, eqK.eqF, negB, bnds, optE, XM, Vc.cells, isV, Vc.one, Xs, getB, setB, XZ, Xp, Xi, Yf, Xl, XT, resS, tupS, ofV, Yj, Nat.reduceAdd, Nat.reduceSub, Nat.reduceLT, Nat.reduceLeDiff, reduceIte, reduceCtorEq, Nat.reduceEqDiff, implies_true, forall_const, lawV, beq_self_eq_true, bne_self_eq_false, Int.reduceBEq, Int.reduceBNe, Int.reduceLT, Int.reduceLE])
  intro hs ht
  (refine callV_pc (q1) ?_; simp only [vcS, ↓Xn, ↓Xo, ↓Xg, ↓Xd, ↓Xe, ↓Xf, XQ, XG, gvU, setR, orN, Yl, Xm, Yn, Yi, Xa, Ym, Xc, Xc.sizeIs, reS, Xj, Yb, mmS, Xq, dstS, srcS, XP, XN, XO, Yc, XA, Yg, Xy, XE, endV, gdst, Yk, XR, Yd, goR, XC, sBox, XU, XH, Xr, sNil, XL, Xt, XV, Xv, goD, valD, XI, XF, XB, dNil, XK, XD, dBox, dN, Xz, opL, idxs, pv, XX, Ya, XJ, Xb, Xu, oBin, oUn, Ye, XW, Xw, Xx, Xh, Xk, XY, XS, oLen, lenS, Yh, ev, lk, Vc.put, fits, kd, sz, Tryz.VΓ, Tryz.Γs, bin, binI, binS, ifK, ar, eqB, eqS, eqK, eqK.eqF, negB, bnds, optE, XM, Vc.cells, isV, Vc.one, Xs, getB, setB, XZ, Xp, Xi, Yf, Xl, XT, resS, tupS, ofV, Yj, Nat.reduceAdd, Nat.reduceSub, Nat.reduceLT, Nat.reduceLeDiff, reduceIte, reduceCtorEq, Nat.reduceEqDiff, implies_true, forall_const, lawV, beq_self_eq_true, bne_self_eq_false, Int.reduceBEq, Int.reduceBNe, Int.reduceLT, Int.reduceLE])
  (refine callV_pc (q2) ?_; simp only [vcS, ↓Xn, ↓Xo, ↓Xg, ↓Xd, ↓Xe, ↓Xf, XQ, XG, gvU, setR, orN, Yl, Xm, Yn, Yi, Xa, Ym, Xc, Xc.sizeIs, reS, Xj, Yb, mmS, Xq, dstS, srcS, XP, XN, XO, Yc, XA, Yg, Xy, XE, endV, gdst, Yk, XR, Yd, goR, XC, sBox, XU, XH, Xr, sNil, XL, Xt, XV, Xv, goD, valD, XI, XF, XB, dNil, XK, XD, dBox, dN, Xz, opL, idxs, pv, XX, Ya, XJ, Xb, Xu, oBin, oUn, Ye, XW, Xw, Xx, Xh, Xk, XY, XS, oLen, lenS, Yh, ev, lk, Vc.put, fits, kd, sz, Tryz.VΓ, Tryz.Γs, bin, binI, binS, ifK, ar, eqB, eqS, eqK, eqK.eqF, negB, bnds, optE, XM, Vc.cells, isV, Vc.one, Xs, getB, setB, XZ, Xp, Xi, Yf, Xl, XT, resS, tupS, ofV, Yj, Nat.reduceAdd, Nat.reduceSub, Nat.reduceLT, Nat.reduceLeDiff, reduceIte, reduceCtorEq, Nat.reduceEqDiff, implies_true, forall_const, lawV, beq_self_eq_true, bne_self_eq_false, Int.reduceBEq, Int.reduceBNe, Int.reduceLT, Int.reduceLE])
  refine ⟨fun hc0 => ?_, fun _ => ?_⟩
  · obtain rfl : ec = 0 := by simpa using hc0
    obtain ⟨u', c1, c2, c3, c4, -⟩ := hci rfl
    have hcfit := hcf rfl
    have k1 := p_web_ToURL c hcfit
    have k2 := p_web_FromURL u' (can_fair c1)
    have k3 := p_web_Canonical c hcfit
    rw [c2] at k1
    rw [c3] at k2
    rw [c4] at k3
    unfold dsv wsv at k1 k2
    unfold dsv at k3
    simp only at k1 k2 k3
    (refine callV_pc (k1) ?_; simp only [vcS, ↓Xn, ↓Xo, ↓Xg, ↓Xd, ↓Xe, ↓Xf, XQ, XG, gvU, setR, orN, Yl, Xm, Yn, Yi, Xa, Ym, Xc, Xc.sizeIs, reS, Xj, Yb, mmS, Xq, dstS, srcS, XP, XN, XO, Yc, XA, Yg, Xy, XE, endV, gdst, Yk, XR, Yd, goR, XC, sBox, XU, XH, Xr, sNil, XL, Xt, XV, Xv, goD, valD, XI, XF, XB, dNil, XK, XD, dBox, dN, Xz, opL, idxs, pv, XX, Ya, XJ, Xb, Xu, oBin, oUn, Ye, XW, Xw, Xx, Xh, Xk, XY, XS, oLen, lenS, Yh, ev, lk, Vc.put, fits, kd, sz, Tryz.VΓ, Tryz.Γs, bin, binI, binS, ifK, ar, eqB, eqS, eqK, eqK.eqF, negB, bnds, optE, XM, Vc.cells, isV, Vc.one, Xs, getB, setB, XZ, Xp, Xi, Yf, Xl, XT, resS, tupS, ofV, Yj, Nat.reduceAdd, Nat.reduceSub, Nat.reduceLT, Nat.reduceLeDiff, reduceIte, reduceCtorEq, Nat.reduceEqDiff, implies_true, forall_const, lawV, beq_self_eq_true, bne_self_eq_false, Int.reduceBEq, Int.reduceBNe, Int.reduceLT, Int.reduceLE])
    (refine callV_pc (k2) ?_; simp only [vcS, ↓Xn, ↓Xo, ↓Xg, ↓Xd, ↓Xe, ↓Xf, XQ, XG, gvU, setR, orN, Yl, Xm, Yn, Yi, Xa, Ym, Xc, Xc.sizeIs, reS, Xj, Yb, mmS, Xq, dstS, srcS, XP, XN, XO, Yc, XA, Yg, Xy, XE, endV, gdst, Yk, XR, Yd, goR, XC, sBox, XU, XH, Xr, sNil, XL, Xt, XV, Xv, goD, valD, XI, XF, XB, dNil, XK, XD, dBox, dN, Xz, opL, idxs, pv, XX, Ya, XJ, Xb, Xu, oBin, oUn, Ye, XW, Xw, Xx, Xh, Xk, XY, XS, oLen, lenS, Yh, ev, lk, Vc.put, fits, kd, sz, Tryz.VΓ, Tryz.Γs, bin, binI, binS, ifK, ar, eqB, eqS, eqK, eqK.eqF, negB, bnds, optE, XM, Vc.cells, isV, Vc.one, Xs, getB, setB, XZ, Xp, Xi, Yf, Xl, XT, resS, tupS, ofV, Yj, Nat.reduceAdd, Nat.reduceSub, Nat.reduceLT, Nat.reduceLeDiff, reduceIte, reduceCtorEq, Nat.reduceEqDiff, implies_true, forall_const, lawV, beq_self_eq_true, bne_self_eq_false, Int.reduceBEq, Int.reduceBNe, Int.reduceLT, Int.reduceLE])
    (refine callV_pc (k3) ?_; simp only [vcS, ↓Xn, ↓Xo, ↓Xg, ↓Xd, ↓Xe, ↓Xf, XQ, XG, gvU, setR, orN, Yl, Xm, Yn, Yi, Xa, Ym, Xc, Xc.sizeIs, reS, Xj, Yb, mmS, Xq, dstS, srcS, XP, XN, XO, Yc, XA, Yg, Xy, XE, endV, gdst, Yk, XR, Yd, goR, XC, sBox, XU, XH, Xr, sNil, XL, Xt, XV, Xv, goD, valD, XI, XF, XB, dNil, XK, XD, dBox, dN, Xz, opL, idxs, pv, XX, Ya, XJ, Xb, Xu, oBin, oUn, Ye, XW, Xw, Xx, Xh, Xk, XY, XS, oLen, lenS, Yh, ev, lk, Vc.put, fits, kd, sz, Tryz.VΓ, Tryz.Γs, bin, binI, binS, ifK, ar, eqB, eqS, eqK, eqK.eqF, negB, bnds, optE, XM, Vc.cells, isV, Vc.one, Xs, getB, setB, XZ, Xp, Xi, Yf, Xl, XT, resS, tupS, ofV, Yj, Nat.reduceAdd, Nat.reduceSub, Nat.reduceLT, Nat.reduceLeDiff, reduceIte, reduceCtorEq, Nat.reduceEqDiff, implies_true, forall_const, lawV, beq_self_eq_true, bne_self_eq_false, Int.reduceBEq, Int.reduceBNe, Int.reduceLT, Int.reduceLE])
    (refine callV_pc (r1) ?_; simp only [vcS, ↓Xn, ↓Xo, ↓Xg, ↓Xd, ↓Xe, ↓Xf, XQ, XG, gvU, setR, orN, Yl, Xm, Yn, Yi, Xa, Ym, Xc, Xc.sizeIs, reS, Xj, Yb, mmS, Xq, dstS, srcS, XP, XN, XO, Yc, XA, Yg, Xy, XE, endV, gdst, Yk, XR, Yd, goR, XC, sBox, XU, XH, Xr, sNil, XL, Xt, XV, Xv, goD, valD, XI, XF, XB, dNil, XK, XD, dBox, dN, Xz, opL, idxs, pv, XX, Ya, XJ, Xb, Xu, oBin, oUn, Ye, XW, Xw, Xx, Xh, Xk, XY, XS, oLen, lenS, Yh, ev, lk, Vc.put, fits, kd, sz, Tryz.VΓ, Tryz.Γs, bin, binI, binS, ifK, ar, eqB, eqS, eqK, eqK.eqF, negB, bnds, optE, XM, Vc.cells, isV, Vc.one, Xs, getB, setB, XZ, Xp, Xi, Yf, Xl, XT, resS, tupS, ofV, Yj, Nat.reduceAdd, Nat.reduceSub, Nat.reduceLT, Nat.reduceLeDiff, reduceIte, reduceCtorEq, Nat.reduceEqDiff, implies_true, forall_const, lawV, beq_self_eq_true, bne_self_eq_false, Int.reduceBEq, Int.reduceBNe, Int.reduceLT, Int.reduceLE])
    by_cases hv : e4 = 0
    · subst hv
      have h5 := hft rfl
      have hxf := hxf rfl
      have r3 := p_web_ToURL y hxf
      rw [h5] at r3
      unfold dsv wsv at r3
      simp only at r3
      (refine callV_pc (r2) ?_; simp only [vcS, ↓Xn, ↓Xo, ↓Xg, ↓Xd, ↓Xe, ↓Xf, XQ, XG, gvU, setR, orN, Yl, Xm, Yn, Yi, Xa, Ym, Xc, Xc.sizeIs, reS, Xj, Yb, mmS, Xq, dstS, srcS, XP, XN, XO, Yc, XA, Yg, Xy, XE, endV, gdst, Yk, XR, Yd, goR, XC, sBox, XU, XH, Xr, sNil, XL, Xt, XV, Xv, goD, valD, XI, XF, XB, dNil, XK, XD, dBox, dN, Xz, opL, idxs, pv, XX, Ya, XJ, Xb, Xu, oBin, oUn, Ye, XW, Xw, Xx, Xh, Xk, XY, XS, oLen, lenS, Yh, ev, lk, Vc.put, fits, kd, sz, Tryz.VΓ, Tryz.Γs, bin, binI, binS, ifK, ar, eqB, eqS, eqK, eqK.eqF, negB, bnds, optE, XM, Vc.cells, isV, Vc.one, Xs, getB, setB, XZ, Xp, Xi, Yf, Xl, XT, resS, tupS, ofV, Yj, Nat.reduceAdd, Nat.reduceSub, Nat.reduceLT, Nat.reduceLeDiff, reduceIte, reduceCtorEq, Nat.reduceEqDiff, implies_true, forall_const, lawV, beq_self_eq_true, bne_self_eq_false, Int.reduceBEq, Int.reduceBNe, Int.reduceLT, Int.reduceLE])
      (refine callV_pc (r3) ?_; simp only [vcS, ↓Xn, ↓Xo, ↓Xg, ↓Xd, ↓Xe, ↓Xf, XQ, XG, gvU, setR, orN, Yl, Xm, Yn, Yi, Xa, Ym, Xc, Xc.sizeIs, reS, Xj, Yb, mmS, Xq, dstS, srcS, XP, XN, XO, Yc, XA, Yg, Xy, XE, endV, gdst, Yk, XR, Yd, goR, XC, sBox, XU, XH, Xr, sNil, XL, Xt, XV, Xv, goD, valD, XI, XF, XB, dNil, XK, XD, dBox, dN, Xz, opL, idxs, pv, XX, Ya, XJ, Xb, Xu, oBin, oUn, Ye, XW, Xw, Xx, Xh, Xk, XY, XS, oLen, lenS, Yh, ev, lk, Vc.put, fits, kd, sz, Tryz.VΓ, Tryz.Γs, bin, binI, binS, ifK, ar, eqB, eqS, eqK, eqK.eqF, negB, bnds, optE, XM, Vc.cells, isV, Vc.one, Xs, getB, setB, XZ, Xp, Xi, Yf, Xl, XT, resS, tupS, ofV, Yj, Nat.reduceAdd, Nat.reduceSub, Nat.reduceLT, Nat.reduceLeDiff, reduceIte, reduceCtorEq, Nat.reduceEqDiff, implies_true, forall_const, lawV, beq_self_eq_true, bne_self_eq_false, Int.reduceBEq, Int.reduceBNe, Int.reduceLT, Int.reduceLE])
    · have hv0 : (e4 != 0) = true := by simpa using hv
      obtain rfl := hfe hv
      (refine callV_pc r2 ?_; simp only [vcS, ↓Xn, ↓Xo, ↓Xg, ↓Xd, ↓Xe, ↓Xf, XQ, XG, gvU, setR, orN, Yl, Xm, Yn, Yi, Xa, Ym, Xc, Xc.sizeIs, reS, Xj, Yb, mmS, Xq, dstS, srcS, XP, XN, XO, Yc, XA, Yg, Xy, XE, endV, gdst, Yk, XR, Yd, goR, XC, sBox, XU, XH, Xr, sNil, XL, Xt, XV, Xv, goD, valD, XI, XF, XB, dNil, XK, XD, dBox, dN, Xz, opL, idxs, pv, XX, Ya, XJ, Xb, Xu, oBin, oUn, Ye, XW, Xw, Xx, Xh, Xk, XY, XS, oLen, lenS, Yh, ev, lk, Vc.put, fits, kd, sz, Tryz.VΓ, Tryz.Γs, bin, binI, binS, ifK, ar, eqB, eqS, eqK, eqK.eqF, negB, bnds, optE, XM, Vc.cells, isV, Vc.one, Xs, getB, setB, XZ, Xp, Xi, Yf, Xl, XT, resS, tupS, ofV, Yj, Nat.reduceAdd, Nat.reduceSub, Nat.reduceLT, Nat.reduceLeDiff, reduceIte, reduceCtorEq, Nat.reduceEqDiff, implies_true, forall_const, lawV, hv0, beq_self_eq_true, bne_self_eq_false, Int.reduceBEq, Int.reduceBNe, Int.reduceLT, Int.reduceLE])
      rfl
  ·
    (refine callV_pc (r1) ?_; simp only [vcS, ↓Xn, ↓Xo, ↓Xg, ↓Xd, ↓Xe, ↓Xf, XQ, XG, gvU, setR, orN, Yl, Xm, Yn, Yi, Xa, Ym, Xc, Xc.sizeIs, reS, Xj, Yb, mmS, Xq, dstS, srcS, XP, XN, XO, Yc, XA, Yg, Xy, XE, endV, gdst, Yk, XR, Yd, goR, XC, sBox, XU, XH, Xr, sNil, XL, Xt, XV, Xv, goD, valD, XI, XF, XB, dNil, XK, XD, dBox, dN, Xz, opL, idxs, pv, XX, Ya, XJ, Xb, Xu, oBin, oUn, Ye, XW, Xw, Xx, Xh, Xk, XY, XS, oLen, lenS, Yh, ev, lk, Vc.put, fits, kd, sz, Tryz.VΓ, Tryz.Γs, bin, binI, binS, ifK, ar, eqB, eqS, eqK, eqK.eqF, negB, bnds, optE, XM, Vc.cells, isV, Vc.one, Xs, getB, setB, XZ, Xp, Xi, Yf, Xl, XT, resS, tupS, ofV, Yj, Nat.reduceAdd, Nat.reduceSub, Nat.reduceLT, Nat.reduceLeDiff, reduceIte, reduceCtorEq, Nat.reduceEqDiff, implies_true, forall_const, lawV, beq_self_eq_true, bne_self_eq_false, Int.reduceBEq, Int.reduceBNe, Int.reduceLT, Int.reduceLE])
    by_cases hv : e4 = 0
    · subst hv
      have h5 := hft rfl
      have hxf := hxf rfl
      have r3 := p_web_ToURL y hxf
      rw [h5] at r3
      unfold dsv wsv at r3
      simp only at r3
      (refine callV_pc (r2) ?_; simp only [vcS, ↓Xn, ↓Xo, ↓Xg, ↓Xd, ↓Xe, ↓Xf, XQ, XG, gvU, setR, orN, Yl, Xm, Yn, Yi, Xa, Ym, Xc, Xc.sizeIs, reS, Xj, Yb, mmS, Xq, dstS, srcS, XP, XN, XO, Yc, XA, Yg, Xy, XE, endV, gdst, Yk, XR, Yd, goR, XC, sBox, XU, XH, Xr, sNil, XL, Xt, XV, Xv, goD, valD, XI, XF, XB, dNil, XK, XD, dBox, dN, Xz, opL, idxs, pv, XX, Ya, XJ, Xb, Xu, oBin, oUn, Ye, XW, Xw, Xx, Xh, Xk, XY, XS, oLen, lenS, Yh, ev, lk, Vc.put, fits, kd, sz, Tryz.VΓ, Tryz.Γs, bin, binI, binS, ifK, ar, eqB, eqS, eqK, eqK.eqF, negB, bnds, optE, XM, Vc.cells, isV, Vc.one, Xs, getB, setB, XZ, Xp, Xi, Yf, Xl, XT, resS, tupS, ofV, Yj, Nat.reduceAdd, Nat.reduceSub, Nat.reduceLT, Nat.reduceLeDiff, reduceIte, reduceCtorEq, Nat.reduceEqDiff, implies_true, forall_const, lawV, beq_self_eq_true, bne_self_eq_false, Int.reduceBEq, Int.reduceBNe, Int.reduceLT, Int.reduceLE])
      (refine callV_pc (r3) ?_; simp only [vcS, ↓Xn, ↓Xo, ↓Xg, ↓Xd, ↓Xe, ↓Xf, XQ, XG, gvU, setR, orN, Yl, Xm, Yn, Yi, Xa, Ym, Xc, Xc.sizeIs, reS, Xj, Yb, mmS, Xq, dstS, srcS, XP, XN, XO, Yc, XA, Yg, Xy, XE, endV, gdst, Yk, XR, Yd, goR, XC, sBox, XU, XH, Xr, sNil, XL, Xt, XV, Xv, goD, valD, XI, XF, XB, dNil, XK, XD, dBox, dN, Xz, opL, idxs, pv, XX, Ya, XJ, Xb, Xu, oBin, oUn, Ye, XW, Xw, Xx, Xh, Xk, XY, XS, oLen, lenS, Yh, ev, lk, Vc.put, fits, kd, sz, Tryz.VΓ, Tryz.Γs, bin, binI, binS, ifK, ar, eqB, eqS, eqK, eqK.eqF, negB, bnds, optE, XM, Vc.cells, isV, Vc.one, Xs, getB, setB, XZ, Xp, Xi, Yf, Xl, XT, resS, tupS, ofV, Yj, Nat.reduceAdd, Nat.reduceSub, Nat.reduceLT, Nat.reduceLeDiff, reduceIte, reduceCtorEq, Nat.reduceEqDiff, implies_true, forall_const, lawV, beq_self_eq_true, bne_self_eq_false, Int.reduceBEq, Int.reduceBNe, Int.reduceLT, Int.reduceLE])
    · have hv0 : (e4 != 0) = true := by simpa using hv
      obtain rfl := hfe hv
      (refine callV_pc r2 ?_; simp only [vcS, ↓Xn, ↓Xo, ↓Xg, ↓Xd, ↓Xe, ↓Xf, XQ, XG, gvU, setR, orN, Yl, Xm, Yn, Yi, Xa, Ym, Xc, Xc.sizeIs, reS, Xj, Yb, mmS, Xq, dstS, srcS, XP, XN, XO, Yc, XA, Yg, Xy, XE, endV, gdst, Yk, XR, Yd, goR, XC, sBox, XU, XH, Xr, sNil, XL, Xt, XV, Xv, goD, valD, XI, XF, XB, dNil, XK, XD, dBox, dN, Xz, opL, idxs, pv, XX, Ya, XJ, Xb, Xu, oBin, oUn, Ye, XW, Xw, Xx, Xh, Xk, XY, XS, oLen, lenS, Yh, ev, lk, Vc.put, fits, kd, sz, Tryz.VΓ, Tryz.Γs, bin, binI, binS, ifK, ar, eqB, eqS, eqK, eqK.eqF, negB, bnds, optE, XM, Vc.cells, isV, Vc.one, Xs, getB, setB, XZ, Xp, Xi, Yf, Xl, XT, resS, tupS, ofV, Yj, Nat.reduceAdd, Nat.reduceSub, Nat.reduceLT, Nat.reduceLeDiff, reduceIte, reduceCtorEq, Nat.reduceEqDiff, implies_true, forall_const, lawV, hv0, beq_self_eq_true, bne_self_eq_false, Int.reduceBEq, Int.reduceBNe, Int.reduceLT, Int.reduceLE])
      rfl
end Go.Proofs.YtcndmooeglfilaaGreatDoor
/- Structs by value among the arguments, opened. -/
set_option linter.all false
set_option maxRecDepth 20000
namespace Go.Proofs.YtcndmooeglfilaaGreatDoor
open Go Vc Go.RowKit Wf
open Go.ChangeShapes Go.WideShapes Go.ChangeAt
open Go.WideMaps Go.WideElems
section
variable {H : Type} {enc : TypeId × Value → H} {w : World} {base : Nat} {sp : Nat → Bool} {held : Bool}
theorem trod_24 {fuel : Nat} {cs : List Value} {x : DataW H × List MemPlace} (h : DataW.trod enc Tryz.prog w base sp held fuel 24 cs = some x) : ∃ (a0 : Bytes) (a1 : Bytes), cs = [Value.string ⟨⟨a0⟩⟩, Value.string ⟨⟨a1⟩⟩] ∧ x = (.agg [.lit (.string a0), .lit (.string a1)], []) ∧ a0.length ≤ maxLen ∧ a1.length ≤ maxLen := by
  obtain ⟨xs, n, _, rfl, hl, hlen, hf⟩ := DataW.trod_struct Tryz.underlying24 h
  have hC : Tryz.prog.cellsOf 24 = 2 := by kernel_rfl
  rw [hC] at hl
  obtain ⟨c0, c1, rfl⟩ : ∃ c0 c1, cs = [c0, c1] := by
    match cs, hl with
    | [c0, c1], _ => exact ⟨c0, c1, rfl⟩
  obtain ⟨y0, y1, rfl⟩ : ∃ y0 y1, xs = [y0, y1] := by
    match xs, hlen with
    | [y0, y1], _ => exact ⟨y0, y1, rfl⟩
  have e0 : DataW.trod enc Tryz.prog w base sp held n 9 [c0] = some y0 := hf 0 _ rfl
  obtain ⟨⟨⟨a0⟩⟩, q0, rfl, w0⟩ := DataW.trod_string Tryz.underlying9 e0
  obtain rfl := (List.cons.inj q0).1
  have e1 : DataW.trod enc Tryz.prog w base sp held n 9 [c1] = some y1 := hf 1 _ rfl
  obtain ⟨⟨⟨a1⟩⟩, q1, rfl, w1⟩ := DataW.trod_string Tryz.underlying9 e1
  obtain rfl := (List.cons.inj q1).1
  exact ⟨a0, a1, rfl, rfl, w0, w1⟩
theorem open_24 {r : Reach} {b0 : Nat} {v : Value} {d : DataW H} {p : List MemPlace} (hv : Value.okWide Tryz.prog w r b0 24 v) (h : DataW.Trod enc Tryz.prog w base sp held 24 v d p) : ∃ (a0 : Bytes) (a1 : Bytes), v = .agg #[Value.string ⟨⟨a0⟩⟩, Value.string ⟨⟨a1⟩⟩] ∧ d = .agg [.lit (.string a0), .lit (.string a1)] ∧ p = [] ∧ a0.length ≤ maxLen ∧ a1.length ≤ maxLen := by
  obtain ⟨cs, rfl, hsz⟩ := okWide_struct Tryz.underlying24 hv
  obtain ⟨fuel, hf⟩ := h
  obtain ⟨a0, a1, hcs, hx, hw⟩ := trod_24 hf
  obtain ⟨cs⟩ := cs
  simp only [Value.cells] at hcs
  subst hcs
  exact ⟨a0, a1, rfl, (Prod.mk.inj hx).1, (Prod.mk.inj hx).2, hw⟩
theorem trod_29 {fuel : Nat} {cs : List Value} {x : DataW H × List MemPlace} (h : DataW.trod enc Tryz.prog w base sp held fuel 29 cs = some x) : ∃ (a0 : Bytes) (a1 : Int) (a2 : Bytes) (a3 : Bytes) (a4 : Bytes) (a5 : Bool) (a6 : Bool), cs = [Value.string ⟨⟨a0⟩⟩, Value.int .i64 a1, Value.string ⟨⟨a2⟩⟩, Value.string ⟨⟨a3⟩⟩, Value.string ⟨⟨a4⟩⟩, Value.bool a5, Value.bool a6] ∧ x = (.agg [.lit (.string a0), .lit (.int .i64 a1), .lit (.string a2), .lit (.string a3), .lit (.string a4), .lit (.bool a5), .lit (.bool a6)], []) ∧ a0.length ≤ maxLen ∧ (Lit.int .i64 a1).wf = true ∧ a2.length ≤ maxLen ∧ a3.length ≤ maxLen ∧ a4.length ≤ maxLen := by
  obtain ⟨xs, n, _, rfl, hl, hlen, hf⟩ := DataW.trod_struct Tryz.underlying29 h
  have hC : Tryz.prog.cellsOf 29 = 7 := by kernel_rfl
  rw [hC] at hl
  obtain ⟨c0, c1, c2, c3, c4, c5, c6, rfl⟩ : ∃ c0 c1 c2 c3 c4 c5 c6, cs = [c0, c1, c2, c3, c4, c5, c6] := by
    match cs, hl with
    | [c0, c1, c2, c3, c4, c5, c6], _ => exact ⟨c0, c1, c2, c3, c4, c5, c6, rfl⟩
  obtain ⟨y0, y1, y2, y3, y4, y5, y6, rfl⟩ : ∃ y0 y1 y2 y3 y4 y5 y6, xs = [y0, y1, y2, y3, y4, y5, y6] := by
    match xs, hlen with
    | [y0, y1, y2, y3, y4, y5, y6], _ => exact ⟨y0, y1, y2, y3, y4, y5, y6, rfl⟩
  have e0 : DataW.trod enc Tryz.prog w base sp held n 9 [c0] = some y0 := hf 0 _ rfl
  obtain ⟨⟨⟨a0⟩⟩, q0, rfl, w0⟩ := DataW.trod_string Tryz.underlying9 e0
  obtain rfl := (List.cons.inj q0).1
  have e1 : DataW.trod enc Tryz.prog w base sp held n 3 [c1] = some y1 := hf 1 _ rfl
  obtain ⟨a1, q1, rfl, w1⟩ := DataW.trod_int Tryz.underlying3 e1
  obtain rfl := (List.cons.inj q1).1
  have e2 : DataW.trod enc Tryz.prog w base sp held n 9 [c2] = some y2 := hf 2 _ rfl
  obtain ⟨⟨⟨a2⟩⟩, q2, rfl, w2⟩ := DataW.trod_string Tryz.underlying9 e2
  obtain rfl := (List.cons.inj q2).1
  have e3 : DataW.trod enc Tryz.prog w base sp held n 9 [c3] = some y3 := hf 3 _ rfl
  obtain ⟨⟨⟨a3⟩⟩, q3, rfl, w3⟩ := DataW.trod_string Tryz.underlying9 e3
  obtain rfl := (List.cons.inj q3).1
  have e4 : DataW.trod enc Tryz.prog w base sp held n 9 [c4] = some y4 := hf 4 _ rfl
  obtain ⟨⟨⟨a4⟩⟩, q4, rfl, w4⟩ := DataW.trod_string Tryz.underlying9 e4
  obtain rfl := (List.cons.inj q4).1
  have e5 : DataW.trod enc Tryz.prog w base sp held n 4 [c5] = some y5 := hf 5 _ rfl
  obtain ⟨a5, q5, rfl⟩ := DataW.trod_bool Tryz.underlying4 e5
  obtain rfl := (List.cons.inj q5).1
  have e6 : DataW.trod enc Tryz.prog w base sp held n 4 [c6] = some y6 := hf 6 _ rfl
  obtain ⟨a6, q6, rfl⟩ := DataW.trod_bool Tryz.underlying4 e6
  obtain rfl := (List.cons.inj q6).1
  exact ⟨a0, a1, a2, a3, a4, a5, a6, rfl, rfl, w0, w1, w2, w3, w4⟩
theorem open_29 {r : Reach} {b0 : Nat} {v : Value} {d : DataW H} {p : List MemPlace} (hv : Value.okWide Tryz.prog w r b0 29 v) (h : DataW.Trod enc Tryz.prog w base sp held 29 v d p) : ∃ (a0 : Bytes) (a1 : Int) (a2 : Bytes) (a3 : Bytes) (a4 : Bytes) (a5 : Bool) (a6 : Bool), v = .agg #[Value.string ⟨⟨a0⟩⟩, Value.int .i64 a1, Value.string ⟨⟨a2⟩⟩, Value.string ⟨⟨a3⟩⟩, Value.string ⟨⟨a4⟩⟩, Value.bool a5, Value.bool a6] ∧ d = .agg [.lit (.string a0), .lit (.int .i64 a1), .lit (.string a2), .lit (.string a3), .lit (.string a4), .lit (.bool a5), .lit (.bool a6)] ∧ p = [] ∧ a0.length ≤ maxLen ∧ (Lit.int .i64 a1).wf = true ∧ a2.length ≤ maxLen ∧ a3.length ≤ maxLen ∧ a4.length ≤ maxLen := by
  obtain ⟨cs, rfl, hsz⟩ := okWide_struct Tryz.underlying29 hv
  obtain ⟨fuel, hf⟩ := h
  obtain ⟨a0, a1, a2, a3, a4, a5, a6, hcs, hx, hw⟩ := trod_29 hf
  obtain ⟨cs⟩ := cs
  simp only [Value.cells] at hcs
  subst hcs
  exact ⟨a0, a1, a2, a3, a4, a5, a6, rfl, (Prod.mk.inj hx).1, (Prod.mk.inj hx).2, hw⟩
end
end Go.Proofs.YtcndmooeglfilaaGreatDoor
