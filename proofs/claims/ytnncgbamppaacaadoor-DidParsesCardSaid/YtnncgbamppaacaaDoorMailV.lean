/- The walks of mail.Parse and Format, and of the reference's. -/
import Derived.Test.YtnncgbamppaacaaDoorMailW
set_option linter.all false
set_option maxRecDepth 20000
namespace Go.Proofs.YtnncgbamppaacaaDoor
open Go Vc Go.RowKit Wf
theorem unitsGo_count : ∀ (f : Nat) (s : Bytes), (unitsGo f s).length ≤ f
  | 0, _ => by simp [unitsGo]
  | f + 1, [] => by simp [unitsGo]
  | f + 1, c :: r => by
    rw [unitsGo]
    split
    · split
      · have := unitsGo_count f (by assumption); simp; omega
      · simp
    · have := unitsGo_count f r; simp; omega
theorem hostM_len (s : Bytes) : (hostM s).1.length ≤ s.length := by
  unfold hostM
  split
  · simp
  split
  · simp
  split
  · simp
  · simp only [lower_length]; omega
theorem dec_len (s : Bytes) : (pctDecode s).1.length ≤ s.length := by
  unfold pctDecode
  split
  · simp
  split
  · simp
  · have := unitsGo_count s.length s
    simpa [units] using this
theorem idx_lt (set : Bytes) (c : UInt8) : decide (Lib.indexByte set c < 0) = !set.contains c := by
  rw [← idx_geq]
  by_cases h : 0 ≤ Lib.indexByte set c
  · rw [decide_eq_true h, decide_eq_false (by omega)]; rfl
  · rw [decide_eq_false h, decide_eq_true (by omega)]; rfl
theorem p_mail_Format (m : Mail) (h : m.loc.length ≤ 300000 ∧ m.host.length ≤ 140737488355328) : PC Tryd.V 33 [msv m] (.str (mailText m)) := by
  have pe := p_Encode m.loc keptS h.1
  have hl := pctEncode_len keptS m.loc
  refine pc_of 3000 Tryd.func33 rfl Tryd.ntmps33 Tryd.results33 Tryd.call33 (by simp) (by simp [flat, flat.flatL, msv]) (by simp [flat, flat.flatL, msv]) ?_
  unfold msv
  simp only [vcS, ↓Xn, ↓Xo, ↓Xg, ↓Xd, ↓Xe, ↓Xf, XQ, XG, gvU, setR, orN, Yl, Xm, Yn, Yi, Xa, Ym, Xc, Xc.sizeIs, reS, Xj, Yb, mmS, Xq, dstS, srcS, XP, XN, XO, Yc, XA, Yg, Xy, XE, endV, gdst, Yk, XR, Yd, goR, XC, sBox, XU, XH, Xr, sNil, XL, Xt, XV, Xv, goD, valD, XI, XF, XB, dNil, XK, XD, dBox, dN, Xz, opL, idxs, pv, XX, Ya, XJ, Xb, Xu, oBin, oUn, Ye, XW, Xw, Xx, Xh, Xk, XY, XS, oLen, lenS, Yh, ev, lk, Vc.put, fits, kd, sz, Tryd.VΓ, Tryd.Γs, bin, binI, binS, ifK, ar, eqB, eqS, eqK, eqK.eqF, negB, bnds, optE, XM, Vc.cells, isV, Vc.one, Xs, getB, setB, XZ, Xp, Xi, Yf, Xl, XT, resS, tupS, ofV, Yj, Nat.reduceAdd, Nat.reduceSub, Nat.reduceLT, Nat.reduceLeDiff, reduceIte, reduceCtorEq, Nat.reduceEqDiff, implies_true, forall_const, lawV]
  (refine callD_pc (pe) ?_; simp only [vcS, ↓Xn, ↓Xo, ↓Xg, ↓Xd, ↓Xe, ↓Xf, XQ, XG, gvU, setR, orN, Yl, Xm, Yn, Yi, Xa, Ym, Xc, Xc.sizeIs, reS, Xj, Yb, mmS, Xq, dstS, srcS, XP, XN, XO, Yc, XA, Yg, Xy, XE, endV, gdst, Yk, XR, Yd, goR, XC, sBox, XU, XH, Xr, sNil, XL, Xt, XV, Xv, goD, valD, XI, XF, XB, dNil, XK, XD, dBox, dN, Xz, opL, idxs, pv, XX, Ya, XJ, Xb, Xu, oBin, oUn, Ye, XW, Xw, Xx, Xh, Xk, XY, XS, oLen, lenS, Yh, ev, lk, Vc.put, fits, kd, sz, Tryd.VΓ, Tryd.Γs, bin, binI, binS, ifK, ar, eqB, eqS, eqK, eqK.eqF, negB, bnds, optE, XM, Vc.cells, isV, Vc.one, Xs, getB, setB, XZ, Xp, Xi, Yf, Xl, XT, resS, tupS, ofV, Yj, Nat.reduceAdd, Nat.reduceSub, Nat.reduceLT, Nat.reduceLeDiff, reduceIte, reduceCtorEq, Nat.reduceEqDiff, implies_true, forall_const, lawV])
  exact ⟨by omega, by omega, by simp only [List.length_append, List.length_cons, List.length_nil]; omega, (OkD_fast (by kernel_rfl)), by simp [mailText, mailS]⟩
theorem p_r9_Format (m : Mail) (h : m.loc.length ≤ 300000 ∧ m.host.length ≤ 140737488355328) : PC Tryd.V 34 [msv m] (.str (mailText m)) := by
  have pe := p_r3_Encode m.loc keptS (by omega) (by decide)
  have hl := pctEncode_len keptS m.loc
  refine pc_of 3000 Tryd.func34 rfl Tryd.ntmps34 Tryd.results34 Tryd.call34 (by simp) (by simp [flat, flat.flatL, msv]) (by simp [flat, flat.flatL, msv]) ?_
  unfold msv
  simp only [vcS, ↓Xn, ↓Xo, ↓Xg, ↓Xd, ↓Xe, ↓Xf, XQ, XG, gvU, setR, orN, Yl, Xm, Yn, Yi, Xa, Ym, Xc, Xc.sizeIs, reS, Xj, Yb, mmS, Xq, dstS, srcS, XP, XN, XO, Yc, XA, Yg, Xy, XE, endV, gdst, Yk, XR, Yd, goR, XC, sBox, XU, XH, Xr, sNil, XL, Xt, XV, Xv, goD, valD, XI, XF, XB, dNil, XK, XD, dBox, dN, Xz, opL, idxs, pv, XX, Ya, XJ, Xb, Xu, oBin, oUn, Ye, XW, Xw, Xx, Xh, Xk, XY, XS, oLen, lenS, Yh, ev, lk, Vc.put, fits, kd, sz, Tryd.VΓ, Tryd.Γs, bin, binI, binS, ifK, ar, eqB, eqS, eqK, eqK.eqF, negB, bnds, optE, XM, Vc.cells, isV, Vc.one, Xs, getB, setB, XZ, Xp, Xi, Yf, Xl, XT, resS, tupS, ofV, Yj, Nat.reduceAdd, Nat.reduceSub, Nat.reduceLT, Nat.reduceLeDiff, reduceIte, reduceCtorEq, Nat.reduceEqDiff, implies_true, forall_const, lawV]
  (refine callD_pc (pe) ?_; simp only [vcS, ↓Xn, ↓Xo, ↓Xg, ↓Xd, ↓Xe, ↓Xf, XQ, XG, gvU, setR, orN, Yl, Xm, Yn, Yi, Xa, Ym, Xc, Xc.sizeIs, reS, Xj, Yb, mmS, Xq, dstS, srcS, XP, XN, XO, Yc, XA, Yg, Xy, XE, endV, gdst, Yk, XR, Yd, goR, XC, sBox, XU, XH, Xr, sNil, XL, Xt, XV, Xv, goD, valD, XI, XF, XB, dNil, XK, XD, dBox, dN, Xz, opL, idxs, pv, XX, Ya, XJ, Xb, Xu, oBin, oUn, Ye, XW, Xw, Xx, Xh, Xk, XY, XS, oLen, lenS, Yh, ev, lk, Vc.put, fits, kd, sz, Tryd.VΓ, Tryd.Γs, bin, binI, binS, ifK, ar, eqB, eqS, eqK, eqK.eqF, negB, bnds, optE, XM, Vc.cells, isV, Vc.one, Xs, getB, setB, XZ, Xp, Xi, Yf, Xl, XT, resS, tupS, ofV, Yj, Nat.reduceAdd, Nat.reduceSub, Nat.reduceLT, Nat.reduceLeDiff, reduceIte, reduceCtorEq, Nat.reduceEqDiff, implies_true, forall_const, lawV])
  exact ⟨by omega, by omega, by simp only [List.length_append, List.length_cons, List.length_nil]; omega, (OkD_fast (by kernel_rfl)), by simp [mailText, mailS]⟩
set_option maxHeartbeats 4000000 in
theorem p_mail_Parse (s : Bytes) : PC Tryd.V 35 [.str s] (.tup [msv (mailParse s).1, .int .i64 (mailParse s).2]) := by
  have pe := p_Equal (s.take 7) mailS (by simp; omega) (by decide)
  rw [show lower mailS = mailS by decide] at pe
  refine pc_of 3000 Tryd.func35 rfl Tryd.ntmps35 Tryd.results35 Tryd.call35 (by simp) (by simp [flat, flat.flatL]) (by simp [flat, flat.flatL, msv]) ?_
  simp only [vcS, ↓Xn, ↓Xo, ↓Xg, ↓Xd, ↓Xe, ↓Xf, XQ, XG, gvU, setR, orN, Yl, Xm, Yn, Yi, Xa, Ym, Xc, Xc.sizeIs, reS, Xj, Yb, mmS, Xq, dstS, srcS, XP, XN, XO, Yc, XA, Yg, Xy, XE, endV, gdst, Yk, XR, Yd, goR, XC, sBox, XU, XH, Xr, sNil, XL, Xt, XV, Xv, goD, valD, XI, XF, XB, dNil, XK, XD, dBox, dN, Xz, opL, idxs, pv, XX, Ya, XJ, Xb, Xu, oBin, oUn, Ye, XW, Xw, Xx, Xh, Xk, XY, XS, oLen, lenS, Yh, ev, lk, Vc.put, fits, kd, sz, Tryd.VΓ, Tryd.Γs, bin, binI, binS, ifK, ar, eqB, eqS, eqK, eqK.eqF, negB, bnds, optE, XM, Vc.cells, isV, Vc.one, Xs, getB, setB, XZ, Xp, Xi, Yf, Xl, XT, resS, tupS, ofV, Yj, Nat.reduceAdd, Nat.reduceSub, Nat.reduceLT, Nat.reduceLeDiff, reduceIte, reduceCtorEq, Nat.reduceEqDiff, implies_true, forall_const, lawV]
  unfold mailParse
  refine ⟨fun h => ?_, fun h => ⟨fun h2 => ⟨⟨by omega, (by simp at h2; omega)⟩, ?_⟩, fun h2 => ?_⟩⟩
  · have h : 4096 < s.length := (by simp at h; omega)
    rw [if_pos h]; rfl
  · have h : ¬ 4096 < s.length := (by simp at h; omega)
    have h2 : ¬ s.length < 7 := (by simp at h2; omega)
    rw [if_neg h]
    (refine callV_pc pe ?_; simp only [vcS, ↓Xn, ↓Xo, ↓Xg, ↓Xd, ↓Xe, ↓Xf, XQ, XG, gvU, setR, orN, Yl, Xm, Yn, Yi, Xa, Ym, Xc, Xc.sizeIs, reS, Xj, Yb, mmS, Xq, dstS, srcS, XP, XN, XO, Yc, XA, Yg, Xy, XE, endV, gdst, Yk, XR, Yd, goR, XC, sBox, XU, XH, Xr, sNil, XL, Xt, XV, Xv, goD, valD, XI, XF, XB, dNil, XK, XD, dBox, dN, Xz, opL, idxs, pv, XX, Ya, XJ, Xb, Xu, oBin, oUn, Ye, XW, Xw, Xx, Xh, Xk, XY, XS, oLen, lenS, Yh, ev, lk, Vc.put, fits, kd, sz, Tryd.VΓ, Tryd.Γs, bin, binI, binS, ifK, ar, eqB, eqS, eqK, eqK.eqF, negB, bnds, optE, XM, Vc.cells, isV, Vc.one, Xs, getB, setB, XZ, Xp, Xi, Yf, Xl, XT, resS, tupS, ofV, Yj, Nat.reduceAdd, Nat.reduceSub, Nat.reduceLT, Nat.reduceLeDiff, reduceIte, reduceCtorEq, Nat.reduceEqDiff, implies_true, forall_const, lawV, Int.reduceToNat])
    refine ⟨fun h3 => ?_, fun h3 => ⟨⟨by omega, by omega⟩, ?_⟩⟩
    · rw [if_pos (.inr (by simpa using h3))]; rfl
    have h3 : lower (s.take 7) = mailS := by simpa using h3
    rw [if_neg (by simp only [not_or]; exact ⟨h2, by simpa using h3⟩)]
    have hno : ∀ c : UInt8, lowerC c ∉ mailS → (c ∈ s ↔ c ∈ s.drop 7) := fun c hc => by
      conv => lhs; rw [← List.take_append_drop 7 s, List.mem_append]
      constructor
      · rintro (h | h)
        · exfalso
          apply hc
          rw [← h3]
          exact List.mem_map.2 ⟨c, h, rfl⟩
        · exact h
      · exact .inr
    have n1 := hno 63 (by decide)
    have n2 := hno 35 (by decide)
    have pa := p_ContainsAny s 63 35 (by decide) (by decide) (by omega)
    rw [show decide ((63 : UInt8) ∈ s ∨ (35 : UInt8) ∈ s) = decide ((63 : UInt8) ∈ s.drop 7 ∨ (35 : UInt8) ∈ s.drop 7) from decide_eq_decide.2 (by rw [n1, n2])] at pa
    have hS : (s.drop 7).length ≤ 4096 := by simp; omega
    have pc := p_Cut (s.drop 7) 64 (by omega)
    generalize s.drop 7 = S at hS pc pa ⊢
    have hcl := cutC_len 64 S
    unfold mailRest
    generalize cutC 64 S = x at pc hcl ⊢
    obtain ⟨l, p, ok⟩ := x
    simp only at pc hcl ⊢
    (refine callV_pc pc ?_; simp only [vcS, ↓Xn, ↓Xo, ↓Xg, ↓Xd, ↓Xe, ↓Xf, XQ, XG, gvU, setR, orN, Yl, Xm, Yn, Yi, Xa, Ym, Xc, Xc.sizeIs, reS, Xj, Yb, mmS, Xq, dstS, srcS, XP, XN, XO, Yc, XA, Yg, Xy, XE, endV, gdst, Yk, XR, Yd, goR, XC, sBox, XU, XH, Xr, sNil, XL, Xt, XV, Xv, goD, valD, XI, XF, XB, dNil, XK, XD, dBox, dN, Xz, opL, idxs, pv, XX, Ya, XJ, Xb, Xu, oBin, oUn, Ye, XW, Xw, Xx, Xh, Xk, XY, XS, oLen, lenS, Yh, ev, lk, Vc.put, fits, kd, sz, Tryd.VΓ, Tryd.Γs, bin, binI, binS, ifK, ar, eqB, eqS, eqK, eqK.eqF, negB, bnds, optE, XM, Vc.cells, isV, Vc.one, Xs, getB, setB, XZ, Xp, Xi, Yf, Xl, XT, resS, tupS, ofV, Yj, Nat.reduceAdd, Nat.reduceSub, Nat.reduceLT, Nat.reduceLeDiff, reduceIte, reduceCtorEq, Nat.reduceEqDiff, implies_true, forall_const, lawV])
    refine ⟨fun hok => ?_, fun hok => (by rw [if_pos (.inl (by simpa using hok))]; rfl)⟩
    have hok : ok = true := by simpa using hok
    subst hok
    (refine callV_pc pa ?_; simp only [vcS, ↓Xn, ↓Xo, ↓Xg, ↓Xd, ↓Xe, ↓Xf, XQ, XG, gvU, setR, orN, Yl, Xm, Yn, Yi, Xa, Ym, Xc, Xc.sizeIs, reS, Xj, Yb, mmS, Xq, dstS, srcS, XP, XN, XO, Yc, XA, Yg, Xy, XE, endV, gdst, Yk, XR, Yd, goR, XC, sBox, XU, XH, Xr, sNil, XL, Xt, XV, Xv, goD, valD, XI, XF, XB, dNil, XK, XD, dBox, dN, Xz, opL, idxs, pv, XX, Ya, XJ, Xb, Xu, oBin, oUn, Ye, XW, Xw, Xx, Xh, Xk, XY, XS, oLen, lenS, Yh, ev, lk, Vc.put, fits, kd, sz, Tryd.VΓ, Tryd.Γs, bin, binI, binS, ifK, ar, eqB, eqS, eqK, eqK.eqF, negB, bnds, optE, XM, Vc.cells, isV, Vc.one, Xs, getB, setB, XZ, Xp, Xi, Yf, Xl, XT, resS, tupS, ofV, Yj, Nat.reduceAdd, Nat.reduceSub, Nat.reduceLT, Nat.reduceLeDiff, reduceIte, reduceCtorEq, Nat.reduceEqDiff, implies_true, forall_const, lawV])
    refine ⟨fun hq => ?_, fun hq => ?_⟩
    · rw [if_pos (.inr (of_decide_eq_true hq))]; rfl
    rw [if_neg (by simp only [Bool.true_eq_false, false_or]; exact of_decide_eq_false hq)]
    have hl : l.length ≤ 4096 := by omega
    have hp : p.length ≤ 4096 := by omega
    clear pa pc pe n1 n2 hno hcl h3
    refine loopV_mk (fun σ => ∃ i : Nat, i ≤ l.length ∧ lk 2 σ.t = some (.p 0 0) ∧ lk 3 σ.t = some (.int .i64 0) ∧ lk 4 σ.t = some (.str l) ∧ lk 5 σ.t = some (.str p) ∧ lk 40 σ.t = some (.int .i64 l.length) ∧ lk 41 σ.t = some (.int .i64 i) ∧ σ.b = [.cells [.str [], .str []] 46 true] ∧ (l.take i).all localC = true) (fun σ => l.length - lkI 41 σ) ⟨0, by omega, rfl, rfl, rfl, rfl, rfl, rfl, rfl, rfl⟩ ?_
    rintro ⟨t, b⟩ ⟨i, hi, g2, g3, g4, g5, g40, g41, rfl, gok⟩
    simp only at g2 g3 g4 g5 g40 g41
    rw [lkI_eq g41]
    by_cases hlt : i < l.length
    · have hg : l.getD i 0 = l[i] := by simp [List.getD, hlt]
      have hfalse : localC l[i] = false → l.all localC = false := fun h => all_not hlt h
      simp only [vcS, ↓Xn, ↓Xo, ↓Xg, ↓Xd, ↓Xe, ↓Xf, XQ, XG, gvU, setR, orN, Yl, Xm, Yn, Yi, Xa, Ym, Xc, Xc.sizeIs, reS, Xj, Yb, mmS, Xq, dstS, srcS, XP, XN, XO, Yc, XA, Yg, Xy, XE, endV, gdst, Yk, XR, Yd, goR, XC, sBox, XU, XH, Xr, sNil, XL, Xt, XV, Xv, goD, valD, XI, XF, XB, dNil, XK, XD, dBox, dN, Xz, opL, idxs, pv, XX, Ya, XJ, Xb, Xu, oBin, oUn, Ye, XW, Xw, Xx, Xh, Xk, XY, XS, oLen, lenS, Yh, ev, lk, Vc.put, fits, kd, sz, Tryd.VΓ, Tryd.Γs, bin, binI, binS, ifK, ar, eqB, eqS, eqK, eqK.eqF, negB, bnds, optE, XM, Vc.cells, isV, Vc.one, Xs, getB, setB, XZ, Xp, Xi, Yf, Xl, XT, resS, tupS, ofV, Yj, Nat.reduceAdd, Nat.reduceSub, Nat.reduceLT, Nat.reduceLeDiff, reduceIte, reduceCtorEq, Nat.reduceEqDiff, implies_true, forall_const, lawV, g2, g3, g4, g5, g40, g41, hg]
      refine ⟨fun _ => ⟨⟨by omega, by omega⟩, ?_⟩, fun h => absurd h (by simp; omega)⟩
      (refine callV_pc (p_IsUnreserved l[i]) ?_; simp only [vcS, ↓Xn, ↓Xo, ↓Xg, ↓Xd, ↓Xe, ↓Xf, XQ, XG, gvU, setR, orN, Yl, Xm, Yn, Yi, Xa, Ym, Xc, Xc.sizeIs, reS, Xj, Yb, mmS, Xq, dstS, srcS, XP, XN, XO, Yc, XA, Yg, Xy, XE, endV, gdst, Yk, XR, Yd, goR, XC, sBox, XU, XH, Xr, sNil, XL, Xt, XV, Xv, goD, valD, XI, XF, XB, dNil, XK, XD, dBox, dN, Xz, opL, idxs, pv, XX, Ya, XJ, Xb, Xu, oBin, oUn, Ye, XW, Xw, Xx, Xh, Xk, XY, XS, oLen, lenS, Yh, ev, lk, Vc.put, fits, kd, sz, Tryd.VΓ, Tryd.Γs, bin, binI, binS, ifK, ar, eqB, eqS, eqK, eqK.eqF, negB, bnds, optE, XM, Vc.cells, isV, Vc.one, Xs, getB, setB, XZ, Xp, Xi, Yf, Xl, XT, resS, tupS, ofV, Yj, Nat.reduceAdd, Nat.reduceSub, Nat.reduceLT, Nat.reduceLeDiff, reduceIte, reduceCtorEq, Nat.reduceEqDiff, implies_true, forall_const, lawV, g2, g3, g4, g5, g40, g41, hg])
      refine ⟨fun hu => ?_, fun hu => ⟨⟨by omega, by omega⟩, ⟨i + 1, by omega, rfl, all_take_snoc hlt gok (by unfold localC; rw [show unres l[i] = true by simpa using hu]; rfl)⟩, by rw [lkI_eq (k := .i64) (n := (i : Int) + 1) rfl]; omega⟩⟩
      have hu : unres l[i] = false := by simpa using hu
      (refine callV_pc (p_IndexByte keptP l[i]) ?_; simp only [vcS, ↓Xn, ↓Xo, ↓Xg, ↓Xd, ↓Xe, ↓Xf, XQ, XG, gvU, setR, orN, Yl, Xm, Yn, Yi, Xa, Ym, Xc, Xc.sizeIs, reS, Xj, Yb, mmS, Xq, dstS, srcS, XP, XN, XO, Yc, XA, Yg, Xy, XE, endV, gdst, Yk, XR, Yd, goR, XC, sBox, XU, XH, Xr, sNil, XL, Xt, XV, Xv, goD, valD, XI, XF, XB, dNil, XK, XD, dBox, dN, Xz, opL, idxs, pv, XX, Ya, XJ, Xb, Xu, oBin, oUn, Ye, XW, Xw, Xx, Xh, Xk, XY, XS, oLen, lenS, Yh, ev, lk, Vc.put, fits, kd, sz, Tryd.VΓ, Tryd.Γs, bin, binI, binS, ifK, ar, eqB, eqS, eqK, eqK.eqF, negB, bnds, optE, XM, Vc.cells, isV, Vc.one, Xs, getB, setB, XZ, Xp, Xi, Yf, Xl, XT, resS, tupS, ofV, Yj, Nat.reduceAdd, Nat.reduceSub, Nat.reduceLT, Nat.reduceLeDiff, reduceIte, reduceCtorEq, Nat.reduceEqDiff, implies_true, forall_const, lawV, g2, g3, g4, g5, g40, g41, hg])
      rw [idx_lt]
      refine ⟨fun hk => ?_, fun hk => ⟨⟨by omega, by omega⟩, ⟨i + 1, by omega, rfl, all_take_snoc hlt gok (by unfold localC; rw [show keptP.contains l[i] = true by simpa using hk]; simp)⟩, by rw [lkI_eq (k := .i64) (n := (i : Int) + 1) rfl]; omega⟩⟩
      rw [if_pos (hfalse (by unfold localC; rw [hu, show keptP.contains l[i] = false by simpa using hk]; rfl))]
      rfl
    · have hie : i = l.length := by omega
      subst hie
      rw [List.take_length] at gok
      rw [gok]
      have pd := p_Decode l
      have hdl := dec_len l
      generalize pctDecode l = dd at pd hdl ⊢
      obtain ⟨d, e1⟩ := dd
      have ph := p_host_Host p (by omega)
      have hhl := hostM_len p
      generalize hostM p = hh at ph hhl ⊢
      obtain ⟨hh, e2⟩ := hh
      simp only at pd ph hdl hhl
      simp only [Bool.true_eq_false, if_false]
      unfold mailOf
      simp only [vcS, ↓Xn, ↓Xo, ↓Xg, ↓Xd, ↓Xe, ↓Xf, XQ, XG, gvU, setR, orN, Yl, Xm, Yn, Yi, Xa, Ym, Xc, Xc.sizeIs, reS, Xj, Yb, mmS, Xq, dstS, srcS, XP, XN, XO, Yc, XA, Yg, Xy, XE, endV, gdst, Yk, XR, Yd, goR, XC, sBox, XU, XH, Xr, sNil, XL, Xt, XV, Xv, goD, valD, XI, XF, XB, dNil, XK, XD, dBox, dN, Xz, opL, idxs, pv, XX, Ya, XJ, Xb, Xu, oBin, oUn, Ye, XW, Xw, Xx, Xh, Xk, XY, XS, oLen, lenS, Yh, ev, lk, Vc.put, fits, kd, sz, Tryd.VΓ, Tryd.Γs, bin, binI, binS, ifK, ar, eqB, eqS, eqK, eqK.eqF, negB, bnds, optE, XM, Vc.cells, isV, Vc.one, Xs, getB, setB, XZ, Xp, Xi, Yf, Xl, XT, resS, tupS, ofV, Yj, Nat.reduceAdd, Nat.reduceSub, Nat.reduceLT, Nat.reduceLeDiff, reduceIte, reduceCtorEq, Nat.reduceEqDiff, implies_true, forall_const, lawV, g2, g3, g4, g5, g40, g41]
      refine ⟨fun h => absurd h (by simp), fun _ => ?_⟩
      (refine callV_pc pd ?_; simp only [vcS, ↓Xn, ↓Xo, ↓Xg, ↓Xd, ↓Xe, ↓Xf, XQ, XG, gvU, setR, orN, Yl, Xm, Yn, Yi, Xa, Ym, Xc, Xc.sizeIs, reS, Xj, Yb, mmS, Xq, dstS, srcS, XP, XN, XO, Yc, XA, Yg, Xy, XE, endV, gdst, Yk, XR, Yd, goR, XC, sBox, XU, XH, Xr, sNil, XL, Xt, XV, Xv, goD, valD, XI, XF, XB, dNil, XK, XD, dBox, dN, Xz, opL, idxs, pv, XX, Ya, XJ, Xb, Xu, oBin, oUn, Ye, XW, Xw, Xx, Xh, Xk, XY, XS, oLen, lenS, Yh, ev, lk, Vc.put, fits, kd, sz, Tryd.VΓ, Tryd.Γs, bin, binI, binS, ifK, ar, eqB, eqS, eqK, eqK.eqF, negB, bnds, optE, XM, Vc.cells, isV, Vc.one, Xs, getB, setB, XZ, Xp, Xi, Yf, Xl, XT, resS, tupS, ofV, Yj, Nat.reduceAdd, Nat.reduceSub, Nat.reduceLT, Nat.reduceLeDiff, reduceIte, reduceCtorEq, Nat.reduceEqDiff, implies_true, forall_const, lawV, g2, g3, g4, g5, g40, g41])
      refine ⟨fun h1 => (by rw [if_pos (by simpa using h1)]; rfl), fun h1 => ?_⟩
      rw [if_neg (by simpa using h1)]
      (refine callV_pc (p_mail_Local d (by omega)) ?_; simp only [vcS, ↓Xn, ↓Xo, ↓Xg, ↓Xd, ↓Xe, ↓Xf, XQ, XG, gvU, setR, orN, Yl, Xm, Yn, Yi, Xa, Ym, Xc, Xc.sizeIs, reS, Xj, Yb, mmS, Xq, dstS, srcS, XP, XN, XO, Yc, XA, Yg, Xy, XE, endV, gdst, Yk, XR, Yd, goR, XC, sBox, XU, XH, Xr, sNil, XL, Xt, XV, Xv, goD, valD, XI, XF, XB, dNil, XK, XD, dBox, dN, Xz, opL, idxs, pv, XX, Ya, XJ, Xb, Xu, oBin, oUn, Ye, XW, Xw, Xx, Xh, Xk, XY, XS, oLen, lenS, Yh, ev, lk, Vc.put, fits, kd, sz, Tryd.VΓ, Tryd.Γs, bin, binI, binS, ifK, ar, eqB, eqS, eqK, eqK.eqF, negB, bnds, optE, XM, Vc.cells, isV, Vc.one, Xs, getB, setB, XZ, Xp, Xi, Yf, Xl, XT, resS, tupS, ofV, Yj, Nat.reduceAdd, Nat.reduceSub, Nat.reduceLT, Nat.reduceLeDiff, reduceIte, reduceCtorEq, Nat.reduceEqDiff, implies_true, forall_const, lawV, g2, g3, g4, g5, g40, g41])
      refine ⟨fun h2 => ?_, fun h2 => ?_⟩
      · rw [if_pos (by simpa using h2)]; rfl
      · rw [if_neg (by simpa using h2)]
        (refine callV_pc ph ?_; simp only [vcS, ↓Xn, ↓Xo, ↓Xg, ↓Xd, ↓Xe, ↓Xf, XQ, XG, gvU, setR, orN, Yl, Xm, Yn, Yi, Xa, Ym, Xc, Xc.sizeIs, reS, Xj, Yb, mmS, Xq, dstS, srcS, XP, XN, XO, Yc, XA, Yg, Xy, XE, endV, gdst, Yk, XR, Yd, goR, XC, sBox, XU, XH, Xr, sNil, XL, Xt, XV, Xv, goD, valD, XI, XF, XB, dNil, XK, XD, dBox, dN, Xz, opL, idxs, pv, XX, Ya, XJ, Xb, Xu, oBin, oUn, Ye, XW, Xw, Xx, Xh, Xk, XY, XS, oLen, lenS, Yh, ev, lk, Vc.put, fits, kd, sz, Tryd.VΓ, Tryd.Γs, bin, binI, binS, ifK, ar, eqB, eqS, eqK, eqK.eqF, negB, bnds, optE, XM, Vc.cells, isV, Vc.one, Xs, getB, setB, XZ, Xp, Xi, Yf, Xl, XT, resS, tupS, ofV, Yj, Nat.reduceAdd, Nat.reduceSub, Nat.reduceLT, Nat.reduceLeDiff, reduceIte, reduceCtorEq, Nat.reduceEqDiff, implies_true, forall_const, lawV, g2, g3, g4, g5, g40, g41])
        refine ⟨fun h3 => (by rw [if_pos (by simpa using h3)]; rfl), fun h3 => ?_⟩
        rw [if_neg (by simpa using h3)]
        (refine callV_pc (p_host_IsIPv4 hh (by omega)) ?_; simp only [vcS, ↓Xn, ↓Xo, ↓Xg, ↓Xd, ↓Xe, ↓Xf, XQ, XG, gvU, setR, orN, Yl, Xm, Yn, Yi, Xa, Ym, Xc, Xc.sizeIs, reS, Xj, Yb, mmS, Xq, dstS, srcS, XP, XN, XO, Yc, XA, Yg, Xy, XE, endV, gdst, Yk, XR, Yd, goR, XC, sBox, XU, XH, Xr, sNil, XL, Xt, XV, Xv, goD, valD, XI, XF, XB, dNil, XK, XD, dBox, dN, Xz, opL, idxs, pv, XX, Ya, XJ, Xb, Xu, oBin, oUn, Ye, XW, Xw, Xx, Xh, Xk, XY, XS, oLen, lenS, Yh, ev, lk, Vc.put, fits, kd, sz, Tryd.VΓ, Tryd.Γs, bin, binI, binS, ifK, ar, eqB, eqS, eqK, eqK.eqF, negB, bnds, optE, XM, Vc.cells, isV, Vc.one, Xs, getB, setB, XZ, Xp, Xi, Yf, Xl, XT, resS, tupS, ofV, Yj, Nat.reduceAdd, Nat.reduceSub, Nat.reduceLT, Nat.reduceLeDiff, reduceIte, reduceCtorEq, Nat.reduceEqDiff, implies_true, forall_const, lawV, g2, g3, g4, g5, g40, g41])
        refine ⟨fun h4 => ?_, fun h4 => ?_⟩
        · rw [if_pos (by simpa using h4)]; rfl
        · rw [if_neg (by simpa using h4)]; rfl
  · have h : ¬ 4096 < s.length := (by simp at h; omega)
    have h2 : s.length < 7 := (by simp at h2; omega)
    rw [if_neg h, if_pos (.inl h2)]; rfl
end Go.Proofs.YtnncgbamppaacaaDoor
