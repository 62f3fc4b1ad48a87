/- The walk of the reference's Split. -/
import Derived.Test.YtnncgbamppaacaaDoorVcB
import Derived.Test.YtnncgbamppaacaaDoorLib
set_option linter.all false
set_option maxRecDepth 20000
namespace Go.Proofs.YtnncgbamppaacaaDoor
open Go Vc Go.RowKit Wf
set_option linter.unusedSimpArgs false
theorem splitC_step {c : UInt8} {s : Bytes} {a i : Nat} (hi : i < s.length) (ha : a ≤ i) (hp : i - a ≤ pre (· == c) (s.drop a)) (hc : s[i] = c) : splitC c (s.drop a) = (s.take i).drop a :: splitC c (s.drop (i + 1)) := by
  have hpre : pre (· == c) (s.drop a) = i - a := by
    apply Nat.le_antisymm _ hp
    apply Nat.le_of_not_lt
    intro hlt
    have := pre_get (p := (· == c)) (l := s.drop a) (k := i - a) hlt (by simp; omega)
    simp [show a + (i - a) = i by omega, hc] at this
  rw [splitC_hit (by rw [hpre, List.length_drop]; omega), hpre, List.drop_drop, List.drop_take, show a + (i - a + 1) = i + 1 by omega]
theorem pre_more1 {c : UInt8} {s : Bytes} {a i : Nat} (hi : i < s.length) (ha : a ≤ i) (hp : i - a ≤ pre (· == c) (s.drop a)) (hc : s[i] ≠ c) : i + 1 - a ≤ pre (· == c) (s.drop a) := by
  apply Nat.le_of_not_lt
  intro hlt
  have hpre : pre (· == c) (s.drop a) = i - a := by omega
  have := pre_at (p := (· == c)) (l := s.drop a) (by rw [hpre, List.length_drop]; omega)
  simp [hpre, show a + (i - a) = i by omega] at this
  exact hc this
def SplI (bs : List Res) (s : Bytes) (c : UInt8) (σ : St) : Prop := ∃ (i a : Nat) (x : SV) (dn : List Bytes), lk 0 σ.t = some (.str s) ∧ lk 1 σ.t = some (.int .u8 c.toNat) ∧ lk 5 σ.t = some x ∧ lk 6 σ.t = some (.int .i64 a) ∧ lk 7 σ.t = some (.int .i64 i) ∧
  a ≤ i ∧ i ≤ s.length ∧ dn.length ≤ a ∧ i - a ≤ pre (· == c) (s.drop a) ∧ dn ++ splitC c (s.drop a) = splitC c s ∧ Sl 9 1 bs.length x σ.b (dn.map SV.str) dn.length ∧ Kp bs σ.b
def SplM (s : Bytes) (σ : St) : Nat := match lk 7 σ.t with
  | some (.int _ k) => s.length - k.toNat
  | _ => 0
theorem SplM_eq {s : Bytes} {σ : St} {k : Nat} (h : lk 7 σ.t = some (.int .i64 k)) : SplM s σ = s.length - k := by simp [SplM, h]
theorem spl_mk {bs b : List Res} {s : Bytes} {c : UInt8} {t : List (Nat × SV)} {i i' a : Nat} {x : SV} {dn : List Bytes} (h0 : lk 0 t = some (.str s)) (h1 : lk 1 t = some (.int .u8 c.toNat)) (h5 : lk 5 t = some x) (h6 : lk 6 t = some (.int .i64 a)) (h7 : lk 7 t = some (.int .i64 i'))
    (h : a ≤ i' ∧ i' ≤ s.length ∧ dn.length ≤ a ∧ i' - a ≤ pre (· == c) (s.drop a)) (hsp : dn ++ splitC c (s.drop a) = splitC c s) (hsl : Sl 9 1 bs.length x b (dn.map SV.str) dn.length) (hkp : Kp bs b) (hlt : i < i') : SplI bs s c ⟨t, b⟩ ∧ SplM s ⟨t, b⟩ < s.length - i :=
  ⟨⟨i', a, x, dn, h0, h1, h5, h6, h7, h.1, h.2.1, h.2.2.1, h.2.2.2, hsp, hsl, hkp⟩, by rw [SplM_eq h7]; omega⟩
set_option maxHeartbeats 1000000 in
theorem sc_Split {bs : List Res} (s : Bytes) (c : UInt8) (hs : s.length ≤ 1000000) :
    SC Tryd.V 43 [.str s, .int .u8 c.toNat] bs (fun r b => ∃ j, r = .o j (splitC c s).length ∧ bs.length ≤ j ∧ b[j]? = some (.own ((splitC c s).map SV.str) 9 1 (splitC c s).length true) ∧ Kp bs b) := by
  refine sc_of 3000 Tryd.func43 rfl Tryd.ntmps43 Tryd.results43 Tryd.call43 (by simp) (fun β β' hb => concL_within bs.length _ (by simp [within, within.withinL]) β β' hb) ?_
  simp only [vcS, ↓Xn, ↓Xo, ↓Xg, ↓Xd, ↓Xe, ↓Xf, XQ, XG, gvU, setR, orN, Yl, Xm, Yn, Yi, Xa, Ym, Xc, Xc.sizeIs, reS, Xj, Yb, mmS, Xq, dstS, srcS, XP, XN, XO, Yc, XA, Yg, Xy, XE, endV, gdst, Yk, XR, Yd, goR, XC, sBox, XU, XH, Xr, sNil, XL, Xt, XV, Xv, goD, valD, XI, XF, XB, dNil, XK, XD, dBox, dN, Xz, opL, idxs, pv, XX, Ya, XJ, Xb, Xu, oBin, oUn, Ye, XW, Xw, Xx, Xh, Xk, XY, XS, oLen, lenS, Yh, ev, lk, Vc.put, fits, kd, sz, Tryd.VΓ, Tryd.Γs, bin, binI, binS, ifK, ar, eqB, eqS, eqK, eqK.eqF, negB, bnds, optE, XM, Vc.cells, isV, Vc.one, Xs, getB, setB, XZ, Xp, Xi, Yf, Xl, XT, resS, tupS, ofV, Yj, Nat.reduceAdd, Nat.reduceSub, Nat.reduceLT, Nat.reduceLeDiff, reduceIte, reduceCtorEq, Nat.reduceEqDiff, implies_true, forall_const, lawV]
  refine loopV_mk (SplI bs s c) (SplM s) ⟨0, 0, .nils, [], rfl, rfl, rfl, rfl, rfl, by simp, by simp, by simp, by simp, by simp, .inl ⟨rfl, rfl, rfl⟩, Kp.refl _⟩ ?_
  rintro ⟨t, b⟩ ⟨i, a, x, dn, h0, h1, h5, h6, h7, hai, his, hda, hp, hsp, hsl, hkp⟩
  simp only at h0 h1 h5 h6 h7 hsl hkp
  rw [SplM_eq h7]
  rcases hsl with ⟨rfl, hc0, hda0⟩ | ⟨j, rfl, hLj, hj⟩
  · obtain rfl : dn = [] := by simpa using hc0
    simp only [vcS, ↓Xn, ↓Xo, ↓Xg, ↓Xd, ↓Xe, ↓Xf, XQ, XG, gvU, setR, orN, Yl, Xm, Yn, Yi, Xa, Ym, Xc, Xc.sizeIs, reS, Xj, Yb, mmS, Xq, dstS, srcS, XP, XN, XO, Yc, XA, Yg, Xy, XE, endV, gdst, Yk, XR, Yd, goR, XC, sBox, XU, XH, Xr, sNil, XL, Xt, XV, Xv, goD, valD, XI, XF, XB, dNil, XK, XD, dBox, dN, Xz, opL, idxs, pv, XX, Ya, XJ, Xb, Xu, oBin, oUn, Ye, XW, Xw, Xx, Xh, Xk, XY, XS, oLen, lenS, Yh, ev, lk, Vc.put, fits, kd, sz, Tryd.VΓ, Tryd.Γs, bin, binI, binS, ifK, ar, eqB, eqS, eqK, eqK.eqF, negB, bnds, optE, XM, Vc.cells, isV, Vc.one, Xs, getB, setB, XZ, Xp, Xi, Yf, Xl, XT, resS, tupS, ofV, Yj, Nat.reduceAdd, Nat.reduceSub, Nat.reduceLT, Nat.reduceLeDiff, reduceIte, reduceCtorEq, Nat.reduceEqDiff, implies_true, forall_const, lawV, h0, h1, h5, h6, h7, at_new]
    refine ⟨fun hc => ?_, fun hc => ?_⟩
    · have hi : i < s.length := by simpa using hc
      refine ⟨⟨by omega, by omega⟩, fun hq => ⟨⟨by omega, by omega, by omega⟩, by omega, ⟨by unfold maxLen; omega, by omega⟩, ⟨by omega, by omega⟩, ⟨by omega, by omega⟩, ?_⟩, fun hq => ⟨⟨by omega, by omega⟩, ?_⟩⟩
      · rw [byte_is hi c rfl] at hq
        have hst := splitC_step hi hai hp (by simpa using hq)
        refine spl_mk (i' := i + 1) (a := i + 1) (dn := [(s.take i).drop a]) h0 h1 (by simp [lk]) rfl rfl ⟨by omega, by omega, by simp, by omega⟩ ?_ (.inr ⟨(b ++ [Res.own [.str ((s.take i).drop a)] 9 1 1 true]).length, rfl, ?_, at_new _ _⟩) ((hkp.app _).app _) (by omega)
        · rw [← hsp, hst]; simp
        · have := hkp.1; simp; omega
      · rw [byte_is hi c rfl] at hq
        exact spl_mk (i' := i + 1) (dn := []) h0 h1 h5 h6 rfl ⟨by omega, by omega, by simp, pre_more1 hi hai hp (by simpa using hq)⟩ hsp (.inl ⟨rfl, rfl, rfl⟩) hkp (by omega)
    · have hi : i = s.length := by simp at hc; omega
      refine ⟨⟨by omega, by omega⟩, by omega, ⟨by unfold maxLen; omega, by omega⟩, ?_⟩
      have hms : splitC c s = [s.drop a] := by
        rw [← hsp, splitC_miss (by rw [List.length_drop]; omega)]; rfl
      rw [hms]
      refine ⟨(b ++ [Res.own [.str (s.drop a)] 9 1 1 true]).length, rfl, ?_, at_new _ _, (hkp.app _).app _⟩
      have := hkp.1; simp; omega
  · have h2 : ∀ X, (b ++ [X])[j]? = some (.own (dn.map SV.str) 9 1 dn.length true) := fun X => at_old hj _
    simp only [vcS, ↓Xn, ↓Xo, ↓Xg, ↓Xd, ↓Xe, ↓Xf, XQ, XG, gvU, setR, orN, Yl, Xm, Yn, Yi, Xa, Ym, Xc, Xc.sizeIs, reS, Xj, Yb, mmS, Xq, dstS, srcS, XP, XN, XO, Yc, XA, Yg, Xy, XE, endV, gdst, Yk, XR, Yd, goR, XC, sBox, XU, XH, Xr, sNil, XL, Xt, XV, Xv, goD, valD, XI, XF, XB, dNil, XK, XD, dBox, dN, Xz, opL, idxs, pv, XX, Ya, XJ, Xb, Xu, oBin, oUn, Ye, XW, Xw, Xx, Xh, Xk, XY, XS, oLen, lenS, Yh, ev, lk, Vc.put, fits, kd, sz, Tryd.VΓ, Tryd.Γs, bin, binI, binS, ifK, ar, eqB, eqS, eqK, eqK.eqF, negB, bnds, optE, XM, Vc.cells, isV, Vc.one, Xs, getB, setB, XZ, Xp, Xi, Yf, Xl, XT, resS, tupS, ofV, Yj, Nat.reduceAdd, Nat.reduceSub, Nat.reduceLT, Nat.reduceLeDiff, reduceIte, reduceCtorEq, Nat.reduceEqDiff, implies_true, forall_const, lawV, h0, h1, h5, h6, h7, at_new, h2]
    have hjl : j < b.length := (List.getElem?_eq_some_iff.1 hj).1
    refine ⟨fun hc => ?_, fun hc => ?_⟩
    · have hi : i < s.length := by simpa using hc
      refine ⟨⟨by omega, by omega⟩, fun hq => ⟨⟨by omega, by omega, by omega⟩, by omega, ⟨by unfold maxLen; omega, by omega⟩, ⟨by omega, by omega⟩, ⟨by omega, by omega⟩, ?_⟩, fun hq => ⟨⟨by omega, by omega⟩, ?_⟩⟩
      · rw [byte_is hi c rfl] at hq
        have hst := splitC_step hi hai hp (by simpa using hq)
        refine spl_mk (i' := i + 1) (a := i + 1) (dn := dn ++ [(s.take i).drop a]) h0 h1 (by simp [lk]; rfl) rfl rfl ⟨by omega, by omega, by simp; omega, by omega⟩ ?_ (.inr ⟨(b ++ [Res.own [.str ((s.take i).drop a)] 9 1 1 true]).length, by simp, ?_, ?_⟩) (((hkp.app _).set hLj _).app _) (by omega)
        · rw [← hsp, hst]; simp
        · have := hkp.1; simp; omega
        · rw [List.getElem?_append_right (by simp)]; simp
      · rw [byte_is hi c rfl] at hq
        exact spl_mk (i' := i + 1) (dn := dn) h0 h1 h5 h6 rfl ⟨by omega, by omega, hda, pre_more1 hi hai hp (by simpa using hq)⟩ hsp (.inr ⟨j, rfl, hLj, hj⟩) hkp (by omega)
    · have hi : i = s.length := by simp at hc; omega
      refine ⟨⟨by omega, by omega⟩, by omega, ⟨by unfold maxLen; omega, by omega⟩, ?_⟩
      have hms : splitC c s = dn ++ [s.drop a] := by
        rw [← hsp, splitC_miss (c := c) (s := s.drop a) (by rw [List.length_drop]; omega)]
      rw [hms]
      refine ⟨(b ++ [Res.own [.str (s.drop a)] 9 1 1 true]).length, by simp, ?_, ?_, ((hkp.app _).set hLj _).app _⟩
      · have := hkp.1; simp; omega
      · rw [List.getElem?_append_right (by simp)]; simp
end Go.Proofs.YtnncgbamppaacaaDoor
