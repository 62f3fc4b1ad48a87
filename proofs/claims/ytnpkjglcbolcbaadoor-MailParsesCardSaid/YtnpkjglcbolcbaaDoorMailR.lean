/- The walk of the reference's Parse of mail addresses. -/
import Derived.Test.YtnpkjglcbolcbaaDoorMailV
set_option linter.all false
set_option maxRecDepth 20000
namespace Go.Proofs.YtnpkjglcbolcbaaDoor
open Go Vc Go.RowKit Wf
theorem pre_set (s : Bytes) : pre ([63, 35].contains ·) s < s.length ↔ ((63 : UInt8) ∈ s ∨ (35 : UInt8) ∈ s) := by
  have h := any_mem s 63 35
  rw [indexAny_pre] at h
  by_cases k : pre ([63, 35].contains ·) s < s.length
  · rw [if_pos k] at h
    have : decide ((63 : UInt8) ∈ s ∨ (35 : UInt8) ∈ s) = true := by rw [← h]; simp
    exact ⟨fun _ => of_decide_eq_true this, fun _ => k⟩
  · rw [if_neg k] at h
    have : decide ((63 : UInt8) ∈ s ∨ (35 : UInt8) ∈ s) = false := by rw [← h]; rfl
    exact ⟨fun h => absurd h k, fun h => absurd h (of_decide_eq_false this)⟩
set_option maxHeartbeats 4000000 in
theorem p_r9_Parse (s : Bytes) : PC Tryd.V 28 [.str s] (.tup [msv (mailParse s).1, .int .i64 (mailParse s).2]) := by
  have pe := p_r1_Equal (s.take 7) mailS (by simp; omega) (by decide)
  rw [show lower mailS = mailS by decide] at pe
  refine pc_of 3000 Tryd.func28 rfl Tryd.ntmps28 Tryd.results28 Tryd.call28 (by simp) (by simp [flat, flat.flatL]) (by simp [flat, flat.flatL, msv]) ?_
  simp only [vcS, ↓Xn, ↓Xo, ↓Xg, ↓Xd, ↓Xe, ↓Xf, XQ, XG, gvU, setR, orN, Yl, Xm, Yn, Yi, Xa, Ym, Xc, Xc.sizeIs, reS, Xj, Yb, mmS, Xq, dstS, srcS, XP, XN, XO, Yc, XA, Yg, Xy, XE, endV, gdst, Yk, XR, Yd, goR, XC, sBox, XU, XH, Xr, sNil, XL, Xt, XV, Xv, goD, valD, XI, XF, XB, dNil, XK, XD, dBox, dN, Xz, opL, idxs, pv, XX, Ya, XJ, Xb, Xu, oBin, oUn, Ye, XW, Xw, Xx, Xh, Xk, XY, XS, oLen, lenS, Yh, ev, lk, Vc.put, fits, kd, sz, Tryd.VΓ, Tryd.Γs, bin, binI, binS, ifK, ar, eqB, eqS, eqK, eqK.eqF, negB, bnds, optE, XM, Vc.cells, isV, Vc.one, Xs, getB, setB, XZ, Xp, Xi, Yf, Xl, XT, resS, tupS, ofV, Yj, Nat.reduceAdd, Nat.reduceSub, Nat.reduceLT, Nat.reduceLeDiff, reduceIte, reduceCtorEq, Nat.reduceEqDiff, implies_true, forall_const, lawV]
  unfold mailParse
  refine ⟨fun h => ?_, fun h => ⟨fun h2 => ⟨⟨by omega, (by simp at h2; omega)⟩, ?_⟩, fun h2 => ?_⟩⟩
  · have h : 4096 < s.length := (by simp at h; omega)
    rw [if_pos h]; rfl
  · have h : ¬ 4096 < s.length := (by simp at h; omega)
    have h2 : ¬ s.length < 7 := (by simp at h2; omega)
    rw [if_neg h]
    (refine callV_pc pe ?_; simp only [vcS, ↓Xn, ↓Xo, ↓Xg, ↓Xd, ↓Xe, ↓Xf, XQ, XG, gvU, setR, orN, Yl, Xm, Yn, Yi, Xa, Ym, Xc, Xc.sizeIs, reS, Xj, Yb, mmS, Xq, dstS, srcS, XP, XN, XO, Yc, XA, Yg, Xy, XE, endV, gdst, Yk, XR, Yd, goR, XC, sBox, XU, XH, Xr, sNil, XL, Xt, XV, Xv, goD, valD, XI, XF, XB, dNil, XK, XD, dBox, dN, Xz, opL, idxs, pv, XX, Ya, XJ, Xb, Xu, oBin, oUn, Ye, XW, Xw, Xx, Xh, Xk, XY, XS, oLen, lenS, Yh, ev, lk, Vc.put, fits, kd, sz, Tryd.VΓ, Tryd.Γs, bin, binI, binS, ifK, ar, eqB, eqS, eqK, eqK.eqF, negB, bnds, optE, XM, Vc.cells, isV, Vc.one, Xs, getB, setB, XZ, Xp, Xi, Yf, Xl, XT, resS, tupS, ofV, Yj, Nat.reduceAdd, Nat.reduceSub, Nat.reduceLT, Nat.reduceLeDiff, reduceIte, reduceCtorEq, Nat.reduceEqDiff, implies_true, forall_const, lawV, Int.reduceToNat])
    refine ⟨fun h3 => ?_, fun h3 => ⟨⟨by omega, by omega⟩, ?_⟩⟩
    · rw [if_pos (.inr (by simpa using h3))]; rfl
    have h3 : lower (s.take 7) = mailS := by simpa using h3
    rw [if_neg (by simp only [not_or]; exact ⟨h2, by simpa using h3⟩)]
    have hS : (s.drop 7).length ≤ 4096 := by simp; omega
    generalize s.drop 7 = S at hS ⊢
    have pi := p_r1_Index S [64] (by omega) (by decide)
    rw [show (List.contains [64] · : UInt8 → Bool) = (· == 64) from by funext c; simp; exact (Bool.beq_eq_decide_eq _ _).symm] at pi
    have pj := p_r1_Index S [63, 35] (by omega) (by decide)
    have hq := pre_set S
    have hpl := pre_le (· == 64) S
    have hpq := pre_le ([63, 35].contains ·) S
    unfold mailRest
    (refine callV_pc pi ?_; simp only [vcS, ↓Xn, ↓Xo, ↓Xg, ↓Xd, ↓Xe, ↓Xf, XQ, XG, gvU, setR, orN, Yl, Xm, Yn, Yi, Xa, Ym, Xc, Xc.sizeIs, reS, Xj, Yb, mmS, Xq, dstS, srcS, XP, XN, XO, Yc, XA, Yg, Xy, XE, endV, gdst, Yk, XR, Yd, goR, XC, sBox, XU, XH, Xr, sNil, XL, Xt, XV, Xv, goD, valD, XI, XF, XB, dNil, XK, XD, dBox, dN, Xz, opL, idxs, pv, XX, Ya, XJ, Xb, Xu, oBin, oUn, Ye, XW, Xw, Xx, Xh, Xk, XY, XS, oLen, lenS, Yh, ev, lk, Vc.put, fits, kd, sz, Tryd.VΓ, Tryd.Γs, bin, binI, binS, ifK, ar, eqB, eqS, eqK, eqK.eqF, negB, bnds, optE, XM, Vc.cells, isV, Vc.one, Xs, getB, setB, XZ, Xp, Xi, Yf, Xl, XT, resS, tupS, ofV, Yj, Nat.reduceAdd, Nat.reduceSub, Nat.reduceLT, Nat.reduceLeDiff, reduceIte, reduceCtorEq, Nat.reduceEqDiff, implies_true, forall_const, lawV])
    refine ⟨fun h4 => ?_, fun h4 => ?_⟩
    · have h4 : pre (· == 64) S < S.length := by
        have := beq_eq_false_iff_ne.1 h4
        omega
      rw [show cutC 64 S = (S.take (pre (· == 64) S), S.drop (pre (· == 64) S + 1), true) from if_pos h4]
      generalize hk : pre (· == 64) S = k at *
      simp only [Bool.true_eq_false, false_or]
      (refine callV_pc pj ?_; simp only [vcS, ↓Xn, ↓Xo, ↓Xg, ↓Xd, ↓Xe, ↓Xf, XQ, XG, gvU, setR, orN, Yl, Xm, Yn, Yi, Xa, Ym, Xc, Xc.sizeIs, reS, Xj, Yb, mmS, Xq, dstS, srcS, XP, XN, XO, Yc, XA, Yg, Xy, XE, endV, gdst, Yk, XR, Yd, goR, XC, sBox, XU, XH, Xr, sNil, XL, Xt, XV, Xv, goD, valD, XI, XF, XB, dNil, XK, XD, dBox, dN, Xz, opL, idxs, pv, XX, Ya, XJ, Xb, Xu, oBin, oUn, Ye, XW, Xw, Xx, Xh, Xk, XY, XS, oLen, lenS, Yh, ev, lk, Vc.put, fits, kd, sz, Tryd.VΓ, Tryd.Γs, bin, binI, binS, ifK, ar, eqB, eqS, eqK, eqK.eqF, negB, bnds, optE, XM, Vc.cells, isV, Vc.one, Xs, getB, setB, XZ, Xp, Xi, Yf, Xl, XT, resS, tupS, ofV, Yj, Nat.reduceAdd, Nat.reduceSub, Nat.reduceLT, Nat.reduceLeDiff, reduceIte, reduceCtorEq, Nat.reduceEqDiff, implies_true, forall_const, lawV])
      refine ⟨fun h5 => ?_, fun h5 => ?_⟩
      · rw [if_pos (hq.1 (by have := of_decide_eq_true h5; omega))]; rfl
      rw [if_neg (fun h => absurd (hq.2 h) (by have := of_decide_eq_false h5; omega))]
      clear hq hpq pj pi pe hk h5
      refine loopV_mk (fun σ => ∃ i : Nat, i ≤ k ∧ lk 0 σ.t = some (.str S) ∧ lk 2 σ.t = some (.p 0 0) ∧ lk 3 σ.t = some (.int .i64 0) ∧ lk 4 σ.t = some (.int .i64 k) ∧ lk 5 σ.t = some (.int .i64 i) ∧ σ.b = [.cells [.str [], .str []] 40 true] ∧ (S.take i).all localC = true) (fun σ => k - lkI 5 σ) ⟨0, by omega, rfl, rfl, rfl, rfl, rfl, rfl, rfl⟩ ?_
      rintro ⟨t, b⟩ ⟨i, hi, g0, g2, g3, g4, g5, rfl, gok⟩
      simp only at g0 g2 g3 g4 g5
      rw [lkI_eq g5]
      by_cases hlt : i < k
      · have hil : i < S.length := by omega
        have hg : S.getD i 0 = S[i] := by simp [List.getD, hil]
        have hfalse : localC S[i] = false → (S.take k).all localC = false := fun h => by
          have e : (S.take k)[i]'(by simp; omega) = S[i] := by simp
          exact all_not (s := S.take k) (k := i) (by simp; omega) (by rw [e]; exact h)
        simp only [vcS, ↓Xn, ↓Xo, ↓Xg, ↓Xd, ↓Xe, ↓Xf, XQ, XG, gvU, setR, orN, Yl, Xm, Yn, Yi, Xa, Ym, Xc, Xc.sizeIs, reS, Xj, Yb, mmS, Xq, dstS, srcS, XP, XN, XO, Yc, XA, Yg, Xy, XE, endV, gdst, Yk, XR, Yd, goR, XC, sBox, XU, XH, Xr, sNil, XL, Xt, XV, Xv, goD, valD, XI, XF, XB, dNil, XK, XD, dBox, dN, Xz, opL, idxs, pv, XX, Ya, XJ, Xb, Xu, oBin, oUn, Ye, XW, Xw, Xx, Xh, Xk, XY, XS, oLen, lenS, Yh, ev, lk, Vc.put, fits, kd, sz, Tryd.VΓ, Tryd.Γs, bin, binI, binS, ifK, ar, eqB, eqS, eqK, eqK.eqF, negB, bnds, optE, XM, Vc.cells, isV, Vc.one, Xs, getB, setB, XZ, Xp, Xi, Yf, Xl, XT, resS, tupS, ofV, Yj, Nat.reduceAdd, Nat.reduceSub, Nat.reduceLT, Nat.reduceLeDiff, reduceIte, reduceCtorEq, Nat.reduceEqDiff, implies_true, forall_const, lawV, g0, g2, g3, g4, g5, hg]
        refine ⟨fun _ => ⟨⟨by omega, by omega⟩, ?_⟩, fun h => absurd h (by simp; omega)⟩
        (refine callV_pc (p_r1_IsUnreserved S[i]) ?_; simp only [vcS, ↓Xn, ↓Xo, ↓Xg, ↓Xd, ↓Xe, ↓Xf, XQ, XG, gvU, setR, orN, Yl, Xm, Yn, Yi, Xa, Ym, Xc, Xc.sizeIs, reS, Xj, Yb, mmS, Xq, dstS, srcS, XP, XN, XO, Yc, XA, Yg, Xy, XE, endV, gdst, Yk, XR, Yd, goR, XC, sBox, XU, XH, Xr, sNil, XL, Xt, XV, Xv, goD, valD, XI, XF, XB, dNil, XK, XD, dBox, dN, Xz, opL, idxs, pv, XX, Ya, XJ, Xb, Xu, oBin, oUn, Ye, XW, Xw, Xx, Xh, Xk, XY, XS, oLen, lenS, Yh, ev, lk, Vc.put, fits, kd, sz, Tryd.VΓ, Tryd.Γs, bin, binI, binS, ifK, ar, eqB, eqS, eqK, eqK.eqF, negB, bnds, optE, XM, Vc.cells, isV, Vc.one, Xs, getB, setB, XZ, Xp, Xi, Yf, Xl, XT, resS, tupS, ofV, Yj, Nat.reduceAdd, Nat.reduceSub, Nat.reduceLT, Nat.reduceLeDiff, reduceIte, reduceCtorEq, Nat.reduceEqDiff, implies_true, forall_const, lawV, g0, g2, g3, g4, g5, hg])
        refine ⟨fun hu => ⟨⟨by omega, by omega⟩, ?_⟩, fun hu => ⟨⟨by omega, by omega⟩, ⟨i + 1, by omega, rfl, all_take_snoc hil gok (by unfold localC; rw [show unres S[i] = true by simpa using hu]; rfl)⟩, by rw [lkI_eq (k := .i64) (n := (i : Int) + 1) rfl]; omega⟩⟩
        have hu : unres S[i] = false := by simpa using hu
        (refine callV_pc (p_r1_In S[i] keptP (by decide)) ?_; simp only [vcS, ↓Xn, ↓Xo, ↓Xg, ↓Xd, ↓Xe, ↓Xf, XQ, XG, gvU, setR, orN, Yl, Xm, Yn, Yi, Xa, Ym, Xc, Xc.sizeIs, reS, Xj, Yb, mmS, Xq, dstS, srcS, XP, XN, XO, Yc, XA, Yg, Xy, XE, endV, gdst, Yk, XR, Yd, goR, XC, sBox, XU, XH, Xr, sNil, XL, Xt, XV, Xv, goD, valD, XI, XF, XB, dNil, XK, XD, dBox, dN, Xz, opL, idxs, pv, XX, Ya, XJ, Xb, Xu, oBin, oUn, Ye, XW, Xw, Xx, Xh, Xk, XY, XS, oLen, lenS, Yh, ev, lk, Vc.put, fits, kd, sz, Tryd.VΓ, Tryd.Γs, bin, binI, binS, ifK, ar, eqB, eqS, eqK, eqK.eqF, negB, bnds, optE, XM, Vc.cells, isV, Vc.one, Xs, getB, setB, XZ, Xp, Xi, Yf, Xl, XT, resS, tupS, ofV, Yj, Nat.reduceAdd, Nat.reduceSub, Nat.reduceLT, Nat.reduceLeDiff, reduceIte, reduceCtorEq, Nat.reduceEqDiff, implies_true, forall_const, lawV, g0, g2, g3, g4, g5, hg])
        refine ⟨fun hk => ?_, fun hk => ⟨⟨by omega, by omega⟩, ⟨i + 1, by omega, rfl, all_take_snoc hil gok (by unfold localC; rw [show keptP.contains S[i] = true by simpa using hk]; simp)⟩, by rw [lkI_eq (k := .i64) (n := (i : Int) + 1) rfl]; omega⟩⟩
        rw [if_pos (hfalse (by unfold localC; rw [hu, show keptP.contains S[i] = false by simpa using hk]; rfl))]
        rfl
      · have hie : i = k := by omega
        subst hie
        rw [gok]
        have pd := p_r3_Decode (S.take i)
        have hdl := dec_len (S.take i)
        generalize pctDecode (S.take i) = dd at pd hdl ⊢
        obtain ⟨d, e1⟩ := dd
        have ph := p_r5_Host (S.drop (i + 1)) (by simp; omega)
        have hhl := hostM_len (S.drop (i + 1))
        generalize hostM (S.drop (i + 1)) = hh at ph hhl ⊢
        obtain ⟨hh, e2⟩ := hh
        simp only at pd ph hdl hhl
        have hdl : d.length ≤ 4096 := by simp at hdl; omega
        have hhl : hh.length ≤ 4096 := by simp at hhl; omega
        simp only [Bool.true_eq_false, if_false]
        unfold mailOf
        simp only [vcS, ↓Xn, ↓Xo, ↓Xg, ↓Xd, ↓Xe, ↓Xf, XQ, XG, gvU, setR, orN, Yl, Xm, Yn, Yi, Xa, Ym, Xc, Xc.sizeIs, reS, Xj, Yb, mmS, Xq, dstS, srcS, XP, XN, XO, Yc, XA, Yg, Xy, XE, endV, gdst, Yk, XR, Yd, goR, XC, sBox, XU, XH, Xr, sNil, XL, Xt, XV, Xv, goD, valD, XI, XF, XB, dNil, XK, XD, dBox, dN, Xz, opL, idxs, pv, XX, Ya, XJ, Xb, Xu, oBin, oUn, Ye, XW, Xw, Xx, Xh, Xk, XY, XS, oLen, lenS, Yh, ev, lk, Vc.put, fits, kd, sz, Tryd.VΓ, Tryd.Γs, bin, binI, binS, ifK, ar, eqB, eqS, eqK, eqK.eqF, negB, bnds, optE, XM, Vc.cells, isV, Vc.one, Xs, getB, setB, XZ, Xp, Xi, Yf, Xl, XT, resS, tupS, ofV, Yj, Nat.reduceAdd, Nat.reduceSub, Nat.reduceLT, Nat.reduceLeDiff, reduceIte, reduceCtorEq, Nat.reduceEqDiff, implies_true, forall_const, lawV, g0, g2, g3, g4, g5]
        refine ⟨fun h => absurd h (by simp), fun _ => ⟨⟨by omega, by omega⟩, ?_⟩⟩
        (refine callV_pc pd ?_; simp only [vcS, ↓Xn, ↓Xo, ↓Xg, ↓Xd, ↓Xe, ↓Xf, XQ, XG, gvU, setR, orN, Yl, Xm, Yn, Yi, Xa, Ym, Xc, Xc.sizeIs, reS, Xj, Yb, mmS, Xq, dstS, srcS, XP, XN, XO, Yc, XA, Yg, Xy, XE, endV, gdst, Yk, XR, Yd, goR, XC, sBox, XU, XH, Xr, sNil, XL, Xt, XV, Xv, goD, valD, XI, XF, XB, dNil, XK, XD, dBox, dN, Xz, opL, idxs, pv, XX, Ya, XJ, Xb, Xu, oBin, oUn, Ye, XW, Xw, Xx, Xh, Xk, XY, XS, oLen, lenS, Yh, ev, lk, Vc.put, fits, kd, sz, Tryd.VΓ, Tryd.Γs, bin, binI, binS, ifK, ar, eqB, eqS, eqK, eqK.eqF, negB, bnds, optE, XM, Vc.cells, isV, Vc.one, Xs, getB, setB, XZ, Xp, Xi, Yf, Xl, XT, resS, tupS, ofV, Yj, Nat.reduceAdd, Nat.reduceSub, Nat.reduceLT, Nat.reduceLeDiff, reduceIte, reduceCtorEq, Nat.reduceEqDiff, implies_true, forall_const, lawV, g0, g2, g3, g4, g5])
        refine ⟨fun h1 => (by rw [if_pos (by simpa using h1)]; rfl), fun h1 => ?_⟩
        rw [if_neg (by simpa using h1)]
        (refine callV_pc (p_r9_Local d) ?_; simp only [vcS, ↓Xn, ↓Xo, ↓Xg, ↓Xd, ↓Xe, ↓Xf, XQ, XG, gvU, setR, orN, Yl, Xm, Yn, Yi, Xa, Ym, Xc, Xc.sizeIs, reS, Xj, Yb, mmS, Xq, dstS, srcS, XP, XN, XO, Yc, XA, Yg, Xy, XE, endV, gdst, Yk, XR, Yd, goR, XC, sBox, XU, XH, Xr, sNil, XL, Xt, XV, Xv, goD, valD, XI, XF, XB, dNil, XK, XD, dBox, dN, Xz, opL, idxs, pv, XX, Ya, XJ, Xb, Xu, oBin, oUn, Ye, XW, Xw, Xx, Xh, Xk, XY, XS, oLen, lenS, Yh, ev, lk, Vc.put, fits, kd, sz, Tryd.VΓ, Tryd.Γs, bin, binI, binS, ifK, ar, eqB, eqS, eqK, eqK.eqF, negB, bnds, optE, XM, Vc.cells, isV, Vc.one, Xs, getB, setB, XZ, Xp, Xi, Yf, Xl, XT, resS, tupS, ofV, Yj, Nat.reduceAdd, Nat.reduceSub, Nat.reduceLT, Nat.reduceLeDiff, reduceIte, reduceCtorEq, Nat.reduceEqDiff, implies_true, forall_const, lawV, g0, g2, g3, g4, g5])
        refine ⟨fun h2 => (by rw [if_pos (by simpa using h2)]; rfl), fun h2 => ⟨⟨by omega, by omega⟩, ⟨by omega, by omega⟩, ?_⟩⟩
        rw [if_neg (by simpa using h2)]
        (refine callV_pc ph ?_; simp only [vcS, ↓Xn, ↓Xo, ↓Xg, ↓Xd, ↓Xe, ↓Xf, XQ, XG, gvU, setR, orN, Yl, Xm, Yn, Yi, Xa, Ym, Xc, Xc.sizeIs, reS, Xj, Yb, mmS, Xq, dstS, srcS, XP, XN, XO, Yc, XA, Yg, Xy, XE, endV, gdst, Yk, XR, Yd, goR, XC, sBox, XU, XH, Xr, sNil, XL, Xt, XV, Xv, goD, valD, XI, XF, XB, dNil, XK, XD, dBox, dN, Xz, opL, idxs, pv, XX, Ya, XJ, Xb, Xu, oBin, oUn, Ye, XW, Xw, Xx, Xh, Xk, XY, XS, oLen, lenS, Yh, ev, lk, Vc.put, fits, kd, sz, Tryd.VΓ, Tryd.Γs, bin, binI, binS, ifK, ar, eqB, eqS, eqK, eqK.eqF, negB, bnds, optE, XM, Vc.cells, isV, Vc.one, Xs, getB, setB, XZ, Xp, Xi, Yf, Xl, XT, resS, tupS, ofV, Yj, Nat.reduceAdd, Nat.reduceSub, Nat.reduceLT, Nat.reduceLeDiff, reduceIte, reduceCtorEq, Nat.reduceEqDiff, implies_true, forall_const, lawV, g0, g2, g3, g4, g5])
        refine ⟨fun h3 => (by rw [if_pos (by simpa using h3)]; rfl), fun h3 => ?_⟩
        rw [if_neg (by simpa using h3)]
        (refine callV_pc (p_r5_IsIPv4 hh (by omega)) ?_; simp only [vcS, ↓Xn, ↓Xo, ↓Xg, ↓Xd, ↓Xe, ↓Xf, XQ, XG, gvU, setR, orN, Yl, Xm, Yn, Yi, Xa, Ym, Xc, Xc.sizeIs, reS, Xj, Yb, mmS, Xq, dstS, srcS, XP, XN, XO, Yc, XA, Yg, Xy, XE, endV, gdst, Yk, XR, Yd, goR, XC, sBox, XU, XH, Xr, sNil, XL, Xt, XV, Xv, goD, valD, XI, XF, XB, dNil, XK, XD, dBox, dN, Xz, opL, idxs, pv, XX, Ya, XJ, Xb, Xu, oBin, oUn, Ye, XW, Xw, Xx, Xh, Xk, XY, XS, oLen, lenS, Yh, ev, lk, Vc.put, fits, kd, sz, Tryd.VΓ, Tryd.Γs, bin, binI, binS, ifK, ar, eqB, eqS, eqK, eqK.eqF, negB, bnds, optE, XM, Vc.cells, isV, Vc.one, Xs, getB, setB, XZ, Xp, Xi, Yf, Xl, XT, resS, tupS, ofV, Yj, Nat.reduceAdd, Nat.reduceSub, Nat.reduceLT, Nat.reduceLeDiff, reduceIte, reduceCtorEq, Nat.reduceEqDiff, implies_true, forall_const, lawV, g0, g2, g3, g4, g5])
        refine ⟨fun h4 => ?_, fun h4 => ?_⟩
        · rw [if_pos (by simpa using h4)]; rfl
        · rw [if_neg (by simpa using h4)]; rfl
    · have h4 := beq_iff_eq.1 h4
      rw [cutC_none (by omega)]; rfl
  · have h : ¬ 4096 < s.length := (by simp at h; omega)
    have h2 : s.length < 7 := (by simp at h2; omega)
    rw [if_neg h, if_pos (.inl h2)]; rfl
end Go.Proofs.YtnpkjglcbolcbaaDoor
