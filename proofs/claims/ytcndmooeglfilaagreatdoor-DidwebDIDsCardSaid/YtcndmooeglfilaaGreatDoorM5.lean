/- Texts of this claim, laid together: RefSplit, MailW, UrlW, DidW, RefUri3, MailV, MailR, DidV, UriW3, UriN, UrlW2, RefUrl, UrlW3, UrlW4, WebW. -/
import Derived.Test.YtcndmooeglfilaaGreatDoorM4
/- The walk of the reference's Split. -/
set_option linter.all false
set_option maxRecDepth 20000
namespace Go.Proofs.YtcndmooeglfilaaGreatDoor
open Go Vc Go.RowKit Wf
set_option linter.unusedSimpArgs false
theorem splitC_step {c : UInt8} {s : Bytes} {a i : Nat} (hi : i < s.length) (ha : a ≤ i) (hp : i - a ≤ pre (· == c) (s.drop a)) (hc : s[i] = c) : splitC c (s.drop a) = (s.take i).drop a :: splitC c (s.drop (i + 1)) := by
  have hpre : pre (· == c) (s.drop a) = i - a := by
    apply Nat.le_antisymm _ hp
    apply Nat.le_of_not_lt
    intro hlt
    have := pre_get (p := (· == c)) (l := s.drop a) (k := i - a) hlt (by simp; omega)
    simp [show a + (i - a) = i by omega, hc] at this
  rw [splitC_hit (by rw [hpre, List.length_drop]; omega), hpre, List.drop_drop, List.drop_take, show a + (i - a + 1) = i + 1 by omega]
theorem pre_more1 {c : UInt8} {s : Bytes} {a i : Nat} (hi : i < s.length) (ha : a ≤ i) (hp : i - a ≤ pre (· == c) (s.drop a)) (hc : s[i] ≠ c) : i + 1 - a ≤ pre (· == c) (s.drop a) := by
  apply Nat.le_of_not_lt
  intro hlt
  have hpre : pre (· == c) (s.drop a) = i - a := by omega
  have := pre_at (p := (· == c)) (l := s.drop a) (by rw [hpre, List.length_drop]; omega)
  simp [hpre, show a + (i - a) = i by omega] at this
  exact hc this
def SplI (bs : List Res) (s : Bytes) (c : UInt8) (σ : St) : Prop := ∃ (i a : Nat) (x : SV) (dn : List Bytes), lk 0 σ.t = some (.str s) ∧ lk 1 σ.t = some (.int .u8 c.toNat) ∧ lk 5 σ.t = some x ∧ lk 6 σ.t = some (.int .i64 a) ∧ lk 7 σ.t = some (.int .i64 i) ∧
  a ≤ i ∧ i ≤ s.length ∧ dn.length ≤ a ∧ i - a ≤ pre (· == c) (s.drop a) ∧ dn ++ splitC c (s.drop a) = splitC c s ∧ Sl 9 1 bs.length x σ.b (dn.map SV.str) dn.length ∧ Kp bs σ.b
def SplM (s : Bytes) (σ : St) : Nat := match lk 7 σ.t with
  | some (.int _ k) => s.length - k.toNat
  | _ => 0
theorem SplM_eq {s : Bytes} {σ : St} {k : Nat} (h : lk 7 σ.t = some (.int .i64 k)) : SplM s σ = s.length - k := by simp [SplM, h]
theorem spl_mk {bs b : List Res} {s : Bytes} {c : UInt8} {t : List (Nat × SV)} {i i' a : Nat} {x : SV} {dn : List Bytes} (h0 : lk 0 t = some (.str s)) (h1 : lk 1 t = some (.int .u8 c.toNat)) (h5 : lk 5 t = some x) (h6 : lk 6 t = some (.int .i64 a)) (h7 : lk 7 t = some (.int .i64 i'))
    (h : a ≤ i' ∧ i' ≤ s.length ∧ dn.length ≤ a ∧ i' - a ≤ pre (· == c) (s.drop a)) (hsp : dn ++ splitC c (s.drop a) = splitC c s) (hsl : Sl 9 1 bs.length x b (dn.map SV.str) dn.length) (hkp : Kp bs b) (hlt : i < i') : SplI bs s c ⟨t, b⟩ ∧ SplM s ⟨t, b⟩ < s.length - i :=
  ⟨⟨i', a, x, dn, h0, h1, h5, h6, h7, h.1, h.2.1, h.2.2.1, h.2.2.2, hsp, hsl, hkp⟩, by rw [SplM_eq h7]; omega⟩
set_option maxHeartbeats 1000000 in
theorem sc_Split {bs : List Res} (s : Bytes) (c : UInt8) (hs : s.length ≤ 1000000) :
    SC Tryz.V 52 [.str s, .int .u8 c.toNat] bs (fun r b => ∃ j, r = .o j (splitC c s).length ∧ bs.length ≤ j ∧ b[j]? = some (.own ((splitC c s).map SV.str) 9 1 (splitC c s).length true) ∧ Kp bs b) := by
  refine sc_of 3000 Tryz.func52 rfl Tryz.ntmps52 Tryz.results52 Tryz.call52 (by simp) (fun β β' hb => concL_within bs.length _ (by simp [within, within.withinL]) β β' hb) ?_
  simp only [vcS, ↓Xn, ↓Xo, ↓Xg, ↓Xd, ↓Xe, ↓Xf, XQ, XG, gvU, setR, orN, Yl, Xm, Yn, Yi, Xa, Ym, Xc, Xc.sizeIs, reS, Xj, Yb, mmS, Xq, dstS, srcS, XP, XN, XO, Yc, XA, Yg, Xy, XE, endV, gdst, Yk, XR, Yd, goR, XC, sBox, XU, XH, Xr, sNil, XL, Xt, XV, Xv, goD, valD, XI, XF, XB, dNil, XK, XD, dBox, dN, Xz, opL, idxs, pv, XX, Ya, XJ, Xb, Xu, oBin, oUn, Ye, XW, Xw, Xx, Xh, Xk, XY, XS, oLen, lenS, Yh, ev, lk, Vc.put, fits, kd, sz, Tryz.VΓ, Tryz.Γs, bin, binI, binS, ifK, ar, eqB, eqS, eqK, eqK.eqF, negB, bnds, optE, XM, Vc.cells, isV, Vc.one, Xs, getB, setB, XZ, Xp, Xi, Yf, Xl, XT, resS, tupS, ofV, Yj, Nat.reduceAdd, Nat.reduceSub, Nat.reduceLT, Nat.reduceLeDiff, reduceIte, reduceCtorEq, Nat.reduceEqDiff, implies_true, forall_const, lawV]
  refine loopV_mk (SplI bs s c) (SplM s) ⟨0, 0, .nils, [], rfl, rfl, rfl, rfl, rfl, by simp, by simp, by simp, by simp, by simp, .inl ⟨rfl, rfl, rfl⟩, Kp.refl _⟩ ?_
  rintro ⟨t, b⟩ ⟨i, a, x, dn, h0, h1, h5, h6, h7, hai, his, hda, hp, hsp, hsl, hkp⟩
  simp only at h0 h1 h5 h6 h7 hsl hkp
  rw [SplM_eq h7]
  rcases hsl with ⟨rfl, hc0, hda0⟩ | ⟨j, rfl, hLj, hj⟩
  · obtain rfl : dn = [] := by simpa using hc0
    simp only [vcS, ↓Xn, ↓Xo, ↓Xg, ↓Xd, ↓Xe, ↓Xf, XQ, XG, gvU, setR, orN, Yl, Xm, Yn, Yi, Xa, Ym, Xc, Xc.sizeIs, reS, Xj, Yb, mmS, Xq, dstS, srcS, XP, XN, XO, Yc, XA, Yg, Xy, XE, endV, gdst, Yk, XR, Yd, goR, XC, sBox, XU, XH, Xr, sNil, XL, Xt, XV, Xv, goD, valD, XI, XF, XB, dNil, XK, XD, dBox, dN, Xz, opL, idxs, pv, XX, Ya, XJ, Xb, Xu, oBin, oUn, Ye, XW, Xw, Xx, Xh, Xk, XY, XS, oLen, lenS, Yh, ev, lk, Vc.put, fits, kd, sz, Tryz.VΓ, Tryz.Γs, bin, binI, binS, ifK, ar, eqB, eqS, eqK, eqK.eqF, negB, bnds, optE, XM, Vc.cells, isV, Vc.one, Xs, getB, setB, XZ, Xp, Xi, Yf, Xl, XT, resS, tupS, ofV, Yj, Nat.reduceAdd, Nat.reduceSub, Nat.reduceLT, Nat.reduceLeDiff, reduceIte, reduceCtorEq, Nat.reduceEqDiff, implies_true, forall_const, lawV, h0, h1, h5, h6, h7, at_new]
    refine ⟨fun hc => ?_, fun hc => ?_⟩
    · have hi : i < s.length := by simpa using hc
      refine ⟨⟨by omega, by omega⟩, fun hq => ⟨⟨by omega, by omega, by omega⟩, by omega, ⟨by unfold maxLen; omega, by omega⟩, ⟨by omega, by omega⟩, ⟨by omega, by omega⟩, ?_⟩, fun hq => ⟨⟨by omega, by omega⟩, ?_⟩⟩
      · rw [byte_is hi c rfl] at hq
        have hst := splitC_step hi hai hp (by simpa using hq)
        refine spl_mk (i' := i + 1) (a := i + 1) (dn := [(s.take i).drop a]) h0 h1 (by simp [lk]) rfl rfl ⟨by omega, by omega, by simp, by omega⟩ ?_ (.inr ⟨(b ++ [Res.own [.str ((s.take i).drop a)] 9 1 1 true]).length, rfl, ?_, at_new _ _⟩) ((hkp.app _).app _) (by omega)
        · rw [← hsp, hst]; simp
        · have := hkp.1; simp; omega
      · rw [byte_is hi c rfl] at hq
        exact spl_mk (i' := i + 1) (dn := []) h0 h1 h5 h6 rfl ⟨by omega, by omega, by simp, pre_more1 hi hai hp (by simpa using hq)⟩ hsp (.inl ⟨rfl, rfl, rfl⟩) hkp (by omega)
    · have hi : i = s.length := by simp at hc; omega
      refine ⟨⟨by omega, by omega⟩, by omega, ⟨by unfold maxLen; omega, by omega⟩, ?_⟩
      have hms : splitC c s = [s.drop a] := by
        rw [← hsp, splitC_miss (by rw [List.length_drop]; omega)]; rfl
      rw [hms]
      refine ⟨(b ++ [Res.own [.str (s.drop a)] 9 1 1 true]).length, rfl, ?_, at_new _ _, (hkp.app _).app _⟩
      have := hkp.1; simp; omega
  · have h2 : ∀ X, (b ++ [X])[j]? = some (.own (dn.map SV.str) 9 1 dn.length true) := fun X => at_old hj _
    simp only [vcS, ↓Xn, ↓Xo, ↓Xg, ↓Xd, ↓Xe, ↓Xf, XQ, XG, gvU, setR, orN, Yl, Xm, Yn, Yi, Xa, Ym, Xc, Xc.sizeIs, reS, Xj, Yb, mmS, Xq, dstS, srcS, XP, XN, XO, Yc, XA, Yg, Xy, XE, endV, gdst, Yk, XR, Yd, goR, XC, sBox, XU, XH, Xr, sNil, XL, Xt, XV, Xv, goD, valD, XI, XF, XB, dNil, XK, XD, dBox, dN, Xz, opL, idxs, pv, XX, Ya, XJ, Xb, Xu, oBin, oUn, Ye, XW, Xw, Xx, Xh, Xk, XY, XS, oLen, lenS, Yh, ev, lk, Vc.put, fits, kd, sz, Tryz.VΓ, Tryz.Γs, bin, binI, binS, ifK, ar, eqB, eqS, eqK, eqK.eqF, negB, bnds, optE, XM, Vc.cells, isV, Vc.one, Xs, getB, setB, XZ, Xp, Xi, Yf, Xl, XT, resS, tupS, ofV, Yj, Nat.reduceAdd, Nat.reduceSub, Nat.reduceLT, Nat.reduceLeDiff, reduceIte, reduceCtorEq, Nat.reduceEqDiff, implies_true, forall_const, lawV, h0, h1, h5, h6, h7, at_new, h2]
    have hjl : j < b.length := (List.getElem?_eq_some_iff.1 hj).1
    refine ⟨fun hc => ?_, fun hc => ?_⟩
    · have hi : i < s.length := by simpa using hc
      refine ⟨⟨by omega, by omega⟩, fun hq => ⟨⟨by omega, by omega, by omega⟩, by omega, ⟨by unfold maxLen; omega, by omega⟩, ⟨by omega, by omega⟩, ⟨by omega, by omega⟩, ?_⟩, fun hq => ⟨⟨by omega, by omega⟩, ?_⟩⟩
      · rw [byte_is hi c rfl] at hq
        have hst := splitC_step hi hai hp (by simpa using hq)
        refine spl_mk (i' := i + 1) (a := i + 1) (dn := dn ++ [(s.take i).drop a]) h0 h1 (by simp [lk]; rfl) rfl rfl ⟨by omega, by omega, by simp; omega, by omega⟩ ?_ (.inr ⟨(b ++ [Res.own [.str ((s.take i).drop a)] 9 1 1 true]).length, by simp, ?_, ?_⟩) (((hkp.app _).set hLj _).app _) (by omega)
        · rw [← hsp, hst]; simp
        · have := hkp.1; simp; omega
        · rw [List.getElem?_append_right (by simp)]; simp
      · rw [byte_is hi c rfl] at hq
        exact spl_mk (i' := i + 1) (dn := dn) h0 h1 h5 h6 rfl ⟨by omega, by omega, hda, pre_more1 hi hai hp (by simpa using hq)⟩ hsp (.inr ⟨j, rfl, hLj, hj⟩) hkp (by omega)
    · have hi : i = s.length := by simp at hc; omega
      refine ⟨⟨by omega, by omega⟩, by omega, ⟨by unfold maxLen; omega, by omega⟩, ?_⟩
      have hms : splitC c s = dn ++ [s.drop a] := by
        rw [← hsp, splitC_miss (c := c) (s := s.drop a) (by rw [List.length_drop]; omega)]
      rw [hms]
      refine ⟨(b ++ [Res.own [.str (s.drop a)] 9 1 1 true]).length, by simp, ?_, ?_, ((hkp.app _).set hLj _).app _⟩
      · have := hkp.1; simp; omega
      · rw [List.getElem?_append_right (by simp)]; simp
end Go.Proofs.YtcndmooeglfilaaGreatDoor
/- The walks of package mail and of its reference. -/
set_option linter.all false
set_option maxRecDepth 20000
namespace Go.Proofs.YtcndmooeglfilaaGreatDoor
open Go Vc Go.RowKit Wf
def msv (m : Mail) : SV := .agg [.str m.loc, .str m.host]
def LoI (s : Bytes) (σ : St) : Prop := ∃ (i : Nat) (d : Bool), i ≤ s.length ∧ lk 0 σ.t = some (.str s) ∧ lk 3 σ.t = some (.bool d) ∧ lk 6 σ.t = some (.int .i64 s.length) ∧ lk 7 σ.t = some (.int .i64 i) ∧ locGo d (s.drop i) = locGo true s
def LoM (s : Bytes) (σ : St) : Nat := match lk 7 σ.t with
  | some (.int _ k) => s.length - k.toNat
  | _ => 0
end Go.Proofs.YtcndmooeglfilaaGreatDoor
/- The walks of package weburl and its reference: Target, Origin, Format. -/
set_option linter.all false
set_option maxRecDepth 20000
namespace Go.Proofs.YtcndmooeglfilaaGreatDoor
open Go Vc Go.RowKit Wf
set_option linter.unusedSimpArgs false
def wsv (u : Url) : SV := .agg [.str u.host, .int .i64 u.port, .str u.path, .str u.query, .str u.fragment, .bool u.hasQuery, .bool u.hasFrag]
def Fair (u : Url) : Prop := u.host.length + u.path.length + u.query.length + u.fragment.length ≤ 1000000 ∧ -9223372036854775808 ≤ u.port ∧ u.port ≤ 9223372036854775807
theorem hostText_len2 (x : Bytes) {p : Int} (h0 : -9223372036854775808 ≤ p) (h1 : p ≤ 9223372036854775807) : (hostText x p).length ≤ x.length + 22 := by
  have := decS_length 19 p.natAbs (by omega)
  unfold hostText
  split
  · omega
  · split <;> simp <;> omega
theorem urlTarget_len (u : Url) : (urlTarget u).length ≤ u.path.length + u.query.length + 1 := by
  unfold urlTarget
  split
  · simp; omega
  · omega
theorem p_url_Target (u : Url) (hk : Fair u) : PC Tryz.V 106 [wsv u] (.str (urlTarget u)) := by
  obtain ⟨hk, -⟩ := hk
  (refine pc_of 3000 Tryz.func106 rfl Tryz.ntmps106 Tryz.results106 Tryz.call106 (by simp) (by simp [flat, flat.flatL, wsv]) (by simp [flat, flat.flatL, wsv]) ?_
   unfold wsv
   simp only [vcS, ↓Xn, ↓Xo, ↓Xg, ↓Xd, ↓Xe, ↓Xf, XQ, XG, gvU, setR, orN, Yl, Xm, Yn, Yi, Xa, Ym, Xc, Xc.sizeIs, reS, Xj, Yb, mmS, Xq, dstS, srcS, XP, XN, XO, Yc, XA, Yg, Xy, XE, endV, gdst, Yk, XR, Yd, goR, XC, sBox, XU, XH, Xr, sNil, XL, Xt, XV, Xv, goD, valD, XI, XF, XB, dNil, XK, XD, dBox, dN, Xz, opL, idxs, pv, XX, Ya, XJ, Xb, Xu, oBin, oUn, Ye, XW, Xw, Xx, Xh, Xk, XY, XS, oLen, lenS, Yh, ev, lk, Vc.put, fits, kd, sz, Tryz.VΓ, Tryz.Γs, bin, binI, binS, ifK, ar, eqB, eqS, eqK, eqK.eqF, negB, bnds, optE, XM, Vc.cells, isV, Vc.one, Xs, getB, setB, XZ, Xp, Xi, Yf, Xl, XT, resS, tupS, ofV, Yj, Nat.reduceAdd, Nat.reduceSub, Nat.reduceLT, Nat.reduceLeDiff, reduceIte, reduceCtorEq, Nat.reduceEqDiff, implies_true, forall_const, lawV])
  unfold urlTarget
  refine ⟨fun h => ?_, fun h => ?_⟩
  · simp [h]
    refine ⟨by omega, by omega⟩
  · simp [h]
theorem p_url_Origin (u : Url) : PC Tryz.V 105 [wsv u] (.agg [.str u.host, .int .i64 u.port]) := by
  (refine pc_of 3000 Tryz.func105 rfl Tryz.ntmps105 Tryz.results105 Tryz.call105 (by simp) (by simp [flat, flat.flatL, wsv]) (by simp [flat, flat.flatL, wsv]) ?_
   unfold wsv
   simp only [vcS, ↓Xn, ↓Xo, ↓Xg, ↓Xd, ↓Xe, ↓Xf, XQ, XG, gvU, setR, orN, Yl, Xm, Yn, Yi, Xa, Ym, Xc, Xc.sizeIs, reS, Xj, Yb, mmS, Xq, dstS, srcS, XP, XN, XO, Yc, XA, Yg, Xy, XE, endV, gdst, Yk, XR, Yd, goR, XC, sBox, XU, XH, Xr, sNil, XL, Xt, XV, Xv, goD, valD, XI, XF, XB, dNil, XK, XD, dBox, dN, Xz, opL, idxs, pv, XX, Ya, XJ, Xb, Xu, oBin, oUn, Ye, XW, Xw, Xx, Xh, Xk, XY, XS, oLen, lenS, Yh, ev, lk, Vc.put, fits, kd, sz, Tryz.VΓ, Tryz.Γs, bin, binI, binS, ifK, ar, eqB, eqS, eqK, eqK.eqF, negB, bnds, optE, XM, Vc.cells, isV, Vc.one, Xs, getB, setB, XZ, Xp, Xi, Yf, Xl, XT, resS, tupS, ofV, Yj, Nat.reduceAdd, Nat.reduceSub, Nat.reduceLT, Nat.reduceLeDiff, reduceIte, reduceCtorEq, Nat.reduceEqDiff, implies_true, forall_const, lawV])
theorem p_url_Format (u : Url) (hk : Fair u) : PC Tryz.V 59 [wsv u] (.str (urlText u)) := by
  have hl := hk.1
  have hx := hostText_len2 u.host hk.2.1 hk.2.2
  have ht := urlTarget_len u
  have pt := p_url_Target u hk
  have po := p_url_Origin u
  have pf := p_host_Format u.host u.port (by omega) hk.2.1 hk.2.2
  (refine pc_of 3000 Tryz.func59 rfl Tryz.ntmps59 Tryz.results59 Tryz.call59 (by simp) (by simp [flat, flat.flatL, wsv]) (by simp [flat, flat.flatL, wsv]) ?_
   unfold wsv
   simp only [vcS, ↓Xn, ↓Xo, ↓Xg, ↓Xd, ↓Xe, ↓Xf, XQ, XG, gvU, setR, orN, Yl, Xm, Yn, Yi, Xa, Ym, Xc, Xc.sizeIs, reS, Xj, Yb, mmS, Xq, dstS, srcS, XP, XN, XO, Yc, XA, Yg, Xy, XE, endV, gdst, Yk, XR, Yd, goR, XC, sBox, XU, XH, Xr, sNil, XL, Xt, XV, Xv, goD, valD, XI, XF, XB, dNil, XK, XD, dBox, dN, Xz, opL, idxs, pv, XX, Ya, XJ, Xb, Xu, oBin, oUn, Ye, XW, Xw, Xx, Xh, Xk, XY, XS, oLen, lenS, Yh, ev, lk, Vc.put, fits, kd, sz, Tryz.VΓ, Tryz.Γs, bin, binI, binS, ifK, ar, eqB, eqS, eqK, eqK.eqF, negB, bnds, optE, XM, Vc.cells, isV, Vc.one, Xs, getB, setB, XZ, Xp, Xi, Yf, Xl, XT, resS, tupS, ofV, Yj, Nat.reduceAdd, Nat.reduceSub, Nat.reduceLT, Nat.reduceLeDiff, reduceIte, reduceCtorEq, Nat.reduceEqDiff, implies_true, forall_const, lawV])
  unfold wsv at pt po
  (refine callD_pc (po) ?_; simp only [vcS, ↓Xn, ↓Xo, ↓Xg, ↓Xd, ↓Xe, ↓Xf, XQ, XG, gvU, setR, orN, Yl, Xm, Yn, Yi, Xa, Ym, Xc, Xc.sizeIs, reS, Xj, Yb, mmS, Xq, dstS, srcS, XP, XN, XO, Yc, XA, Yg, Xy, XE, endV, gdst, Yk, XR, Yd, goR, XC, sBox, XU, XH, Xr, sNil, XL, Xt, XV, Xv, goD, valD, XI, XF, XB, dNil, XK, XD, dBox, dN, Xz, opL, idxs, pv, XX, Ya, XJ, Xb, Xu, oBin, oUn, Ye, XW, Xw, Xx, Xh, Xk, XY, XS, oLen, lenS, Yh, ev, lk, Vc.put, fits, kd, sz, Tryz.VΓ, Tryz.Γs, bin, binI, binS, ifK, ar, eqB, eqS, eqK, eqK.eqF, negB, bnds, optE, XM, Vc.cells, isV, Vc.one, Xs, getB, setB, XZ, Xp, Xi, Yf, Xl, XT, resS, tupS, ofV, Yj, Nat.reduceAdd, Nat.reduceSub, Nat.reduceLT, Nat.reduceLeDiff, reduceIte, reduceCtorEq, Nat.reduceEqDiff, implies_true, forall_const, lawV])
  (refine callD_pc (pf) ?_; simp only [vcS, ↓Xn, ↓Xo, ↓Xg, ↓Xd, ↓Xe, ↓Xf, XQ, XG, gvU, setR, orN, Yl, Xm, Yn, Yi, Xa, Ym, Xc, Xc.sizeIs, reS, Xj, Yb, mmS, Xq, dstS, srcS, XP, XN, XO, Yc, XA, Yg, Xy, XE, endV, gdst, Yk, XR, Yd, goR, XC, sBox, XU, XH, Xr, sNil, XL, Xt, XV, Xv, goD, valD, XI, XF, XB, dNil, XK, XD, dBox, dN, Xz, opL, idxs, pv, XX, Ya, XJ, Xb, Xu, oBin, oUn, Ye, XW, Xw, Xx, Xh, Xk, XY, XS, oLen, lenS, Yh, ev, lk, Vc.put, fits, kd, sz, Tryz.VΓ, Tryz.Γs, bin, binI, binS, ifK, ar, eqB, eqS, eqK, eqK.eqF, negB, bnds, optE, XM, Vc.cells, isV, Vc.one, Xs, getB, setB, XZ, Xp, Xi, Yf, Xl, XT, resS, tupS, ofV, Yj, Nat.reduceAdd, Nat.reduceSub, Nat.reduceLT, Nat.reduceLeDiff, reduceIte, reduceCtorEq, Nat.reduceEqDiff, implies_true, forall_const, lawV])
  refine ⟨by omega, ?_⟩
  (refine callD_pc (pt) ?_; simp only [vcS, ↓Xn, ↓Xo, ↓Xg, ↓Xd, ↓Xe, ↓Xf, XQ, XG, gvU, setR, orN, Yl, Xm, Yn, Yi, Xa, Ym, Xc, Xc.sizeIs, reS, Xj, Yb, mmS, Xq, dstS, srcS, XP, XN, XO, Yc, XA, Yg, Xy, XE, endV, gdst, Yk, XR, Yd, goR, XC, sBox, XU, XH, Xr, sNil, XL, Xt, XV, Xv, goD, valD, XI, XF, XB, dNil, XK, XD, dBox, dN, Xz, opL, idxs, pv, XX, Ya, XJ, Xb, Xu, oBin, oUn, Ye, XW, Xw, Xx, Xh, Xk, XY, XS, oLen, lenS, Yh, ev, lk, Vc.put, fits, kd, sz, Tryz.VΓ, Tryz.Γs, bin, binI, binS, ifK, ar, eqB, eqS, eqK, eqK.eqF, negB, bnds, optE, XM, Vc.cells, isV, Vc.one, Xs, getB, setB, XZ, Xp, Xi, Yf, Xl, XT, resS, tupS, ofV, Yj, Nat.reduceAdd, Nat.reduceSub, Nat.reduceLT, Nat.reduceLeDiff, reduceIte, reduceCtorEq, Nat.reduceEqDiff, implies_true, forall_const, lawV])
  unfold urlText
  refine ⟨by omega, (OkD_fast (by kernel_rfl)), fun h => ⟨by omega, by simp only [List.length_append]; omega, ?_⟩, fun h => ?_⟩
  · rw [if_pos h]; simp
  · rw [if_neg (by simp [h])]; simp
theorem p_r7_Target (u : Url) (hk : Fair u) : PC Tryz.V 94 [wsv u] (.str (urlTarget u)) := by
  obtain ⟨hk, -⟩ := hk
  (refine pc_of 3000 Tryz.func94 rfl Tryz.ntmps94 Tryz.results94 Tryz.call94 (by simp) (by simp [flat, flat.flatL, wsv]) (by simp [flat, flat.flatL, wsv]) ?_
   unfold wsv
   simp only [vcS, ↓Xn, ↓Xo, ↓Xg, ↓Xd, ↓Xe, ↓Xf, XQ, XG, gvU, setR, orN, Yl, Xm, Yn, Yi, Xa, Ym, Xc, Xc.sizeIs, reS, Xj, Yb, mmS, Xq, dstS, srcS, XP, XN, XO, Yc, XA, Yg, Xy, XE, endV, gdst, Yk, XR, Yd, goR, XC, sBox, XU, XH, Xr, sNil, XL, Xt, XV, Xv, goD, valD, XI, XF, XB, dNil, XK, XD, dBox, dN, Xz, opL, idxs, pv, XX, Ya, XJ, Xb, Xu, oBin, oUn, Ye, XW, Xw, Xx, Xh, Xk, XY, XS, oLen, lenS, Yh, ev, lk, Vc.put, fits, kd, sz, Tryz.VΓ, Tryz.Γs, bin, binI, binS, ifK, ar, eqB, eqS, eqK, eqK.eqF, negB, bnds, optE, XM, Vc.cells, isV, Vc.one, Xs, getB, setB, XZ, Xp, Xi, Yf, Xl, XT, resS, tupS, ofV, Yj, Nat.reduceAdd, Nat.reduceSub, Nat.reduceLT, Nat.reduceLeDiff, reduceIte, reduceCtorEq, Nat.reduceEqDiff, implies_true, forall_const, lawV])
  unfold urlTarget
  refine ⟨fun h => ?_, fun h => ?_⟩
  · simp [h]
    refine ⟨by omega, by omega⟩
  · simp [h]
theorem p_r7_Origin (u : Url) : PC Tryz.V 47 [wsv u] (.agg [.str u.host, .int .i64 u.port]) := by
  (refine pc_of 3000 Tryz.func47 rfl Tryz.ntmps47 Tryz.results47 Tryz.call47 (by simp) (by simp [flat, flat.flatL, wsv]) (by simp [flat, flat.flatL, wsv]) ?_
   unfold wsv
   simp only [vcS, ↓Xn, ↓Xo, ↓Xg, ↓Xd, ↓Xe, ↓Xf, XQ, XG, gvU, setR, orN, Yl, Xm, Yn, Yi, Xa, Ym, Xc, Xc.sizeIs, reS, Xj, Yb, mmS, Xq, dstS, srcS, XP, XN, XO, Yc, XA, Yg, Xy, XE, endV, gdst, Yk, XR, Yd, goR, XC, sBox, XU, XH, Xr, sNil, XL, Xt, XV, Xv, goD, valD, XI, XF, XB, dNil, XK, XD, dBox, dN, Xz, opL, idxs, pv, XX, Ya, XJ, Xb, Xu, oBin, oUn, Ye, XW, Xw, Xx, Xh, Xk, XY, XS, oLen, lenS, Yh, ev, lk, Vc.put, fits, kd, sz, Tryz.VΓ, Tryz.Γs, bin, binI, binS, ifK, ar, eqB, eqS, eqK, eqK.eqF, negB, bnds, optE, XM, Vc.cells, isV, Vc.one, Xs, getB, setB, XZ, Xp, Xi, Yf, Xl, XT, resS, tupS, ofV, Yj, Nat.reduceAdd, Nat.reduceSub, Nat.reduceLT, Nat.reduceLeDiff, reduceIte, reduceCtorEq, Nat.reduceEqDiff, implies_true, forall_const, lawV])
theorem p_r7_Format (u : Url) (hk : Fair u) : PC Tryz.V 48 [wsv u] (.str (urlText u)) := by
  have hl := hk.1
  have hx := hostText_len2 u.host hk.2.1 hk.2.2
  have ht := urlTarget_len u
  have pt := p_r7_Target u hk
  have po := p_r7_Origin u
  have pf := p_r5_Format u.host u.port (by omega) hk.2.1 hk.2.2
  (refine pc_of 3000 Tryz.func48 rfl Tryz.ntmps48 Tryz.results48 Tryz.call48 (by simp) (by simp [flat, flat.flatL, wsv]) (by simp [flat, flat.flatL, wsv]) ?_
   unfold wsv
   simp only [vcS, ↓Xn, ↓Xo, ↓Xg, ↓Xd, ↓Xe, ↓Xf, XQ, XG, gvU, setR, orN, Yl, Xm, Yn, Yi, Xa, Ym, Xc, Xc.sizeIs, reS, Xj, Yb, mmS, Xq, dstS, srcS, XP, XN, XO, Yc, XA, Yg, Xy, XE, endV, gdst, Yk, XR, Yd, goR, XC, sBox, XU, XH, Xr, sNil, XL, Xt, XV, Xv, goD, valD, XI, XF, XB, dNil, XK, XD, dBox, dN, Xz, opL, idxs, pv, XX, Ya, XJ, Xb, Xu, oBin, oUn, Ye, XW, Xw, Xx, Xh, Xk, XY, XS, oLen, lenS, Yh, ev, lk, Vc.put, fits, kd, sz, Tryz.VΓ, Tryz.Γs, bin, binI, binS, ifK, ar, eqB, eqS, eqK, eqK.eqF, negB, bnds, optE, XM, Vc.cells, isV, Vc.one, Xs, getB, setB, XZ, Xp, Xi, Yf, Xl, XT, resS, tupS, ofV, Yj, Nat.reduceAdd, Nat.reduceSub, Nat.reduceLT, Nat.reduceLeDiff, reduceIte, reduceCtorEq, Nat.reduceEqDiff, implies_true, forall_const, lawV])
  unfold wsv at pt po
  (refine callD_pc (po) ?_; simp only [vcS, ↓Xn, ↓Xo, ↓Xg, ↓Xd, ↓Xe, ↓Xf, XQ, XG, gvU, setR, orN, Yl, Xm, Yn, Yi, Xa, Ym, Xc, Xc.sizeIs, reS, Xj, Yb, mmS, Xq, dstS, srcS, XP, XN, XO, Yc, XA, Yg, Xy, XE, endV, gdst, Yk, XR, Yd, goR, XC, sBox, XU, XH, Xr, sNil, XL, Xt, XV, Xv, goD, valD, XI, XF, XB, dNil, XK, XD, dBox, dN, Xz, opL, idxs, pv, XX, Ya, XJ, Xb, Xu, oBin, oUn, Ye, XW, Xw, Xx, Xh, Xk, XY, XS, oLen, lenS, Yh, ev, lk, Vc.put, fits, kd, sz, Tryz.VΓ, Tryz.Γs, bin, binI, binS, ifK, ar, eqB, eqS, eqK, eqK.eqF, negB, bnds, optE, XM, Vc.cells, isV, Vc.one, Xs, getB, setB, XZ, Xp, Xi, Yf, Xl, XT, resS, tupS, ofV, Yj, Nat.reduceAdd, Nat.reduceSub, Nat.reduceLT, Nat.reduceLeDiff, reduceIte, reduceCtorEq, Nat.reduceEqDiff, implies_true, forall_const, lawV])
  (refine callD_pc (pf) ?_; simp only [vcS, ↓Xn, ↓Xo, ↓Xg, ↓Xd, ↓Xe, ↓Xf, XQ, XG, gvU, setR, orN, Yl, Xm, Yn, Yi, Xa, Ym, Xc, Xc.sizeIs, reS, Xj, Yb, mmS, Xq, dstS, srcS, XP, XN, XO, Yc, XA, Yg, Xy, XE, endV, gdst, Yk, XR, Yd, goR, XC, sBox, XU, XH, Xr, sNil, XL, Xt, XV, Xv, goD, valD, XI, XF, XB, dNil, XK, XD, dBox, dN, Xz, opL, idxs, pv, XX, Ya, XJ, Xb, Xu, oBin, oUn, Ye, XW, Xw, Xx, Xh, Xk, XY, XS, oLen, lenS, Yh, ev, lk, Vc.put, fits, kd, sz, Tryz.VΓ, Tryz.Γs, bin, binI, binS, ifK, ar, eqB, eqS, eqK, eqK.eqF, negB, bnds, optE, XM, Vc.cells, isV, Vc.one, Xs, getB, setB, XZ, Xp, Xi, Yf, Xl, XT, resS, tupS, ofV, Yj, Nat.reduceAdd, Nat.reduceSub, Nat.reduceLT, Nat.reduceLeDiff, reduceIte, reduceCtorEq, Nat.reduceEqDiff, implies_true, forall_const, lawV])
  refine ⟨by omega, ?_⟩
  (refine callD_pc (pt) ?_; simp only [vcS, ↓Xn, ↓Xo, ↓Xg, ↓Xd, ↓Xe, ↓Xf, XQ, XG, gvU, setR, orN, Yl, Xm, Yn, Yi, Xa, Ym, Xc, Xc.sizeIs, reS, Xj, Yb, mmS, Xq, dstS, srcS, XP, XN, XO, Yc, XA, Yg, Xy, XE, endV, gdst, Yk, XR, Yd, goR, XC, sBox, XU, XH, Xr, sNil, XL, Xt, XV, Xv, goD, valD, XI, XF, XB, dNil, XK, XD, dBox, dN, Xz, opL, idxs, pv, XX, Ya, XJ, Xb, Xu, oBin, oUn, Ye, XW, Xw, Xx, Xh, Xk, XY, XS, oLen, lenS, Yh, ev, lk, Vc.put, fits, kd, sz, Tryz.VΓ, Tryz.Γs, bin, binI, binS, ifK, ar, eqB, eqS, eqK, eqK.eqF, negB, bnds, optE, XM, Vc.cells, isV, Vc.one, Xs, getB, setB, XZ, Xp, Xi, Yf, Xl, XT, resS, tupS, ofV, Yj, Nat.reduceAdd, Nat.reduceSub, Nat.reduceLT, Nat.reduceLeDiff, reduceIte, reduceCtorEq, Nat.reduceEqDiff, implies_true, forall_const, lawV])
  unfold urlText
  refine ⟨by omega, (OkD_fast (by kernel_rfl)), fun h => ⟨by omega, by simp only [List.length_append]; omega, ?_⟩, fun h => ?_⟩
  · rw [if_pos h]; simp
  · rw [if_neg (by simp [h])]; simp
theorem pre_mem (l : Bytes) (c : UInt8) : pre (· == c) l < l.length ↔ c ∈ l := by
  induction l with
  | nil => simp [pre]
  | cons x l ih =>
    rw [pre_cons]
    by_cases h : x = c
    · simp [h]
    · rw [if_neg (by simpa using h)]
      simp only [List.length_cons, Nat.add_lt_add_iff_right, ih, List.mem_cons]
      exact ⟨.inr, fun k => k.resolve_left fun e => h e.symm⟩
theorem contains_one (l : Bytes) (c : UInt8) : decide (0 ≤ Lib.indexByte l c) = decide (c ∈ l) := by
  rw [indexByte_pre]
  by_cases h : c ∈ l
  · rw [if_pos ((pre_mem l c).2 h)]; simp [h]
  · rw [if_neg (fun k => h ((pre_mem l c).1 k))]; simp [h]
theorem p_Contains (l : Bytes) (c : UInt8) : PC Tryz.V 146 [.str l, .str [c]] (.bool (decide (c ∈ l))) :=
  ⟨Tryz.call146, by simp [flat, flat.flatL], by simp [flat, flat.flatL], fun w hE => (Tryz.strings_Contains_one ⟨List.toArray l⟩ c w).mono fun _ _ ⟨h, k⟩ => ⟨by
    rw [h]
    have e : decide (0 ≤ Lib.indexByte l c) = decide (c ∈ l) := contains_one l c
    rw [← e]; rfl, below_same k.symm⟩⟩
end Go.Proofs.YtcndmooeglfilaaGreatDoor
/- The walks of package did. -/
set_option linter.all false
set_option maxRecDepth 20000
namespace Go.Proofs.YtcndmooeglfilaaGreatDoor
open Go Vc Go.RowKit Wf
set_option linter.unusedSimpArgs false
def dsv (d : Did) : SV := .agg [.str d.method, .str d.id]
def dusv (u : DidUrl) : SV := .agg [.str u.did.method, .str u.did.id, .str u.path, .str u.query, .str u.fragment, .bool u.hasQuery, .bool u.hasFrag]
theorem p_ReplaceAll (s : Bytes) (c : UInt8) (new : Bytes) (hne : ([c] == new) = false) (hs : s.length ≤ 1000000) (hn : new.length ≤ 1000) : PC Tryz.V 127 [.str s, .str [c], .str new] (.str (s.flatMap (repB c new))) :=
  ⟨Tryz.call127, by simp [flat, flat.flatL], by simp [flat, flat.flatL], fun w ⟨m, hm⟩ => by
    have hc : Lib.countB ⟨List.toArray s⟩ ⟨#[c]⟩ ≤ s.length + 1 := Lib.count_le s [c]
    have hm2 : Lib.countB ⟨List.toArray s⟩ ⟨#[c]⟩ * new.length ≤ 1000001 * 1000 := Nat.mul_le_mul (by omega) hn
    refine (Tryz.strings_ReplaceAll ⟨List.toArray s⟩ ⟨#[c]⟩ ⟨List.toArray new⟩ m w (show s.length < 4294967281 by omega) hm (Nat.le_refl 1) (show s.length + Lib.countB ⟨List.toArray s⟩ ⟨#[c]⟩ * new.length ≤ 140737488355328 by omega)).mono fun _ _ ⟨h, k⟩ => ⟨?_, k⟩
    rw [h, ← replaceAll_one c new s hne]
    rfl⟩
theorem p_HasSuffix (s : Bytes) (c : UInt8) (hs : s.length ≤ 1000000) : PC Tryz.V 110 [.str s, .str [c]] (.bool (decide (s.getLast? = some c))) :=
  ⟨Tryz.call110, by simp [flat, flat.flatL], by simp [flat, flat.flatL], fun w _ => (Tryz.strings_HasSuffix ⟨List.toArray s⟩ ⟨#[c]⟩ w (show s.length ≤ 9223372036854775807 by omega)).mono fun _ _ ⟨h, k⟩ => ⟨by
    rw [h]
    have e : Lib.hasSuffix s [c] = decide (s.getLast? = some c) := by
      unfold Lib.hasSuffix
      rcases List.eq_nil_or_concat s with rfl | ⟨a, d, rfl⟩
      · rfl
      · rw [List.concat_eq_append, Bool.eq_iff_iff, List.isSuffixOf_iff_suffix, decide_eq_true_eq, List.getLast?_concat, Option.some.injEq]
        constructor
        · rintro ⟨t, ht⟩
          have := congrArg List.getLast? ht
          simpa using this.symm
        · rintro rfl; exact ⟨a, rfl⟩
    rw [← e]; rfl, below_same k.symm⟩⟩
theorem methodC_is (c : UInt8) (h : isDigit c = false) : methodC c = (decide (97 ≤ c.toNat) && decide (c.toNat ≤ 122)) := by
  unfold methodC; rw [h]; simp [Bool.decide_and]
set_option maxHeartbeats 2000000 in
theorem p_did_method (s : Bytes) (hs : s.length ≤ 1000000) : PC Tryz.V 108 [.str s] (.bool (methodOk s)) := by
  refine pc_of 3000 Tryz.func108 rfl Tryz.ntmps108 Tryz.results108 Tryz.call108 (by simp) (by simp [flat, flat.flatL]) (by simp [flat, flat.flatL]) ?_
  simp only [vcS, ↓Xn, ↓Xo, ↓Xg, ↓Xd, ↓Xe, ↓Xf, XQ, XG, gvU, setR, orN, Yl, Xm, Yn, Yi, Xa, Ym, Xc, Xc.sizeIs, reS, Xj, Yb, mmS, Xq, dstS, srcS, XP, XN, XO, Yc, XA, Yg, Xy, XE, endV, gdst, Yk, XR, Yd, goR, XC, sBox, XU, XH, Xr, sNil, XL, Xt, XV, Xv, goD, valD, XI, XF, XB, dNil, XK, XD, dBox, dN, Xz, opL, idxs, pv, XX, Ya, XJ, Xb, Xu, oBin, oUn, Ye, XW, Xw, Xx, Xh, Xk, XY, XS, oLen, lenS, Yh, ev, lk, Vc.put, fits, kd, sz, Tryz.VΓ, Tryz.Γs, bin, binI, binS, ifK, ar, eqB, eqS, eqK, eqK.eqF, negB, bnds, optE, XM, Vc.cells, isV, Vc.one, Xs, getB, setB, XZ, Xp, Xi, Yf, Xl, XT, resS, tupS, ofV, Yj, Nat.reduceAdd, Nat.reduceSub, Nat.reduceLT, Nat.reduceLeDiff, reduceIte, reduceCtorEq, Nat.reduceEqDiff, implies_true, forall_const, lawV]
  refine loopV_mk (fun σ => ∃ i : Nat, i ≤ s.length ∧ lk 0 σ.t = some (.str s) ∧ lk 4 σ.t = some (.str s) ∧ lk 5 σ.t = some (.int .i64 s.length) ∧ lk 6 σ.t = some (.int .i64 i) ∧ (s.take i).all methodC = true) (fun σ => s.length - lkI 6 σ) ⟨0, by omega, rfl, rfl, rfl, rfl, rfl⟩ ?_
  rintro ⟨t, b⟩ ⟨i, hi, h0, h4, h5, h6, hok⟩
  simp only at h0 h4 h5 h6
  rw [lkI_eq h6]
  by_cases hlt : i < s.length
  · have hg : s.getD i 0 = s[i] := by simp [List.getD, hlt]
    have hbad : methodC s[i] = false → methodOk s = false := fun h => by
      unfold methodOk
      rw [all_not hlt h, Bool.and_false]
    simp only [vcS, ↓Xn, ↓Xo, ↓Xg, ↓Xd, ↓Xe, ↓Xf, XQ, XG, gvU, setR, orN, Yl, Xm, Yn, Yi, Xa, Ym, Xc, Xc.sizeIs, reS, Xj, Yb, mmS, Xq, dstS, srcS, XP, XN, XO, Yc, XA, Yg, Xy, XE, endV, gdst, Yk, XR, Yd, goR, XC, sBox, XU, XH, Xr, sNil, XL, Xt, XV, Xv, goD, valD, XI, XF, XB, dNil, XK, XD, dBox, dN, Xz, opL, idxs, pv, XX, Ya, XJ, Xb, Xu, oBin, oUn, Ye, XW, Xw, Xx, Xh, Xk, XY, XS, oLen, lenS, Yh, ev, lk, Vc.put, fits, kd, sz, Tryz.VΓ, Tryz.Γs, bin, binI, binS, ifK, ar, eqB, eqS, eqK, eqK.eqF, negB, bnds, optE, XM, Vc.cells, isV, Vc.one, Xs, getB, setB, XZ, Xp, Xi, Yf, Xl, XT, resS, tupS, ofV, Yj, Nat.reduceAdd, Nat.reduceSub, Nat.reduceLT, Nat.reduceLeDiff, reduceIte, reduceCtorEq, Nat.reduceEqDiff, implies_true, forall_const, lawV, h0, h4, h5, h6, hg]
    refine ⟨fun _ => ⟨⟨by omega, by omega⟩, ?_⟩, fun h => absurd h (by simp; omega)⟩
    (refine callV_pc (p_IsDigit s[i]) ?_; simp only [vcS, ↓Xn, ↓Xo, ↓Xg, ↓Xd, ↓Xe, ↓Xf, XQ, XG, gvU, setR, orN, Yl, Xm, Yn, Yi, Xa, Ym, Xc, Xc.sizeIs, reS, Xj, Yb, mmS, Xq, dstS, srcS, XP, XN, XO, Yc, XA, Yg, Xy, XE, endV, gdst, Yk, XR, Yd, goR, XC, sBox, XU, XH, Xr, sNil, XL, Xt, XV, Xv, goD, valD, XI, XF, XB, dNil, XK, XD, dBox, dN, Xz, opL, idxs, pv, XX, Ya, XJ, Xb, Xu, oBin, oUn, Ye, XW, Xw, Xx, Xh, Xk, XY, XS, oLen, lenS, Yh, ev, lk, Vc.put, fits, kd, sz, Tryz.VΓ, Tryz.Γs, bin, binI, binS, ifK, ar, eqB, eqS, eqK, eqK.eqF, negB, bnds, optE, XM, Vc.cells, isV, Vc.one, Xs, getB, setB, XZ, Xp, Xi, Yf, Xl, XT, resS, tupS, ofV, Yj, Nat.reduceAdd, Nat.reduceSub, Nat.reduceLT, Nat.reduceLeDiff, reduceIte, reduceCtorEq, Nat.reduceEqDiff, implies_true, forall_const, lawV, h0, h4, h5, h6, hg])
    have fin : methodC s[i] = true → ∀ (t' : List (Nat × SV)), lk 6 t' = some (.int .i64 ((i : Int) + 1)) → (∃ k : Nat, k ≤ s.length ∧ SV.int IntKind.i64 ((i : Int) + 1) = SV.int IntKind.i64 (k : Int) ∧ (s.take k).all methodC = true) ∧ s.length - lkI 6 ⟨t', b⟩ < s.length - (i : Int).toNat := fun hm t' k6 =>
      ⟨⟨i + 1, by omega, rfl, all_take_snoc hlt hok hm⟩, by rw [lkI_eq (σ := ⟨t', b⟩) k6]; omega⟩
    cases hd : isDigit s[i]
    · refine ⟨fun _ => ⟨⟨by omega, by omega⟩, fun h1 => ⟨⟨by omega, by omega⟩, fun h2 => ?_, fun h2 => ⟨⟨by omega, by omega⟩, fin ?_ _ rfl⟩⟩, fun h1 => ?_⟩, fun h => (by cases h)⟩
      · rw [hbad (by rw [methodC_is _ hd]; simp at h1 h2 ⊢; omega)]
      · rw [methodC_is _ hd]; simp at h1 h2 ⊢; omega
      · rw [hbad (by rw [methodC_is _ hd]; simp at h1 ⊢; omega)]
    · exact ⟨fun h => (by cases h), fun _ => ⟨⟨by omega, by omega⟩, fin (by unfold methodC; rw [hd]; rfl) _ rfl⟩⟩
  · have hie : i = s.length := by omega
    subst hie
    rw [List.take_length] at hok
    simp only [vcS, ↓Xn, ↓Xo, ↓Xg, ↓Xd, ↓Xe, ↓Xf, XQ, XG, gvU, setR, orN, Yl, Xm, Yn, Yi, Xa, Ym, Xc, Xc.sizeIs, reS, Xj, Yb, mmS, Xq, dstS, srcS, XP, XN, XO, Yc, XA, Yg, Xy, XE, endV, gdst, Yk, XR, Yd, goR, XC, sBox, XU, XH, Xr, sNil, XL, Xt, XV, Xv, goD, valD, XI, XF, XB, dNil, XK, XD, dBox, dN, Xz, opL, idxs, pv, XX, Ya, XJ, Xb, Xu, oBin, oUn, Ye, XW, Xw, Xx, Xh, Xk, XY, XS, oLen, lenS, Yh, ev, lk, Vc.put, fits, kd, sz, Tryz.VΓ, Tryz.Γs, bin, binI, binS, ifK, ar, eqB, eqS, eqK, eqK.eqF, negB, bnds, optE, XM, Vc.cells, isV, Vc.one, Xs, getB, setB, XZ, Xp, Xi, Yf, Xl, XT, resS, tupS, ofV, Yj, Nat.reduceAdd, Nat.reduceSub, Nat.reduceLT, Nat.reduceLeDiff, reduceIte, reduceCtorEq, Nat.reduceEqDiff, implies_true, forall_const, lawV, h0, h4, h5, h6]
    refine ⟨fun h => absurd h (by simp), fun _ => ?_⟩
    unfold methodOk
    rw [hok, Bool.and_true]
    cases s <;> rfl
set_option maxHeartbeats 2000000 in
theorem p_did_canonical (s : Bytes) (hs : s.length ≤ 4096) : PC Tryz.V 109 [.str s] (.tup [.str (progCanon s).1, .int .i64 (progCanon s).2]) := by
  have pn := p_Normalize s [58] (by decide)
  have pd := p_Decode s
  have pc := p_Contains s 126
  have pr := p_ReplaceAll (pctNorm [58] s).1 126 [37, 55, 69] (by decide) (by have := pctNorm_len [58] s; omega) (by decide)
  unfold progCanon
  generalize pctNorm [58] s = n at *
  generalize pctDecode s = d at *
  obtain ⟨n, e⟩ := n
  obtain ⟨d, f⟩ := d
  simp only at pn pd pr ⊢
  refine pc_of 3000 Tryz.func109 rfl Tryz.ntmps109 Tryz.results109 Tryz.call109 (by simp) (by simp [flat, flat.flatL]) (by simp [flat, flat.flatL]) ?_
  simp only [vcS, ↓Xn, ↓Xo, ↓Xg, ↓Xd, ↓Xe, ↓Xf, XQ, XG, gvU, setR, orN, Yl, Xm, Yn, Yi, Xa, Ym, Xc, Xc.sizeIs, reS, Xj, Yb, mmS, Xq, dstS, srcS, XP, XN, XO, Yc, XA, Yg, Xy, XE, endV, gdst, Yk, XR, Yd, goR, XC, sBox, XU, XH, Xr, sNil, XL, Xt, XV, Xv, goD, valD, XI, XF, XB, dNil, XK, XD, dBox, dN, Xz, opL, idxs, pv, XX, Ya, XJ, Xb, Xu, oBin, oUn, Ye, XW, Xw, Xx, Xh, Xk, XY, XS, oLen, lenS, Yh, ev, lk, Vc.put, fits, kd, sz, Tryz.VΓ, Tryz.Γs, bin, binI, binS, ifK, ar, eqB, eqS, eqK, eqK.eqF, negB, bnds, optE, XM, Vc.cells, isV, Vc.one, Xs, getB, setB, XZ, Xp, Xi, Yf, Xl, XT, resS, tupS, ofV, Yj, Nat.reduceAdd, Nat.reduceSub, Nat.reduceLT, Nat.reduceLeDiff, reduceIte, reduceCtorEq, Nat.reduceEqDiff, implies_true, forall_const, lawV]
  (refine callV_pc (pn) ?_; simp only [vcS, ↓Xn, ↓Xo, ↓Xg, ↓Xd, ↓Xe, ↓Xf, XQ, XG, gvU, setR, orN, Yl, Xm, Yn, Yi, Xa, Ym, Xc, Xc.sizeIs, reS, Xj, Yb, mmS, Xq, dstS, srcS, XP, XN, XO, Yc, XA, Yg, Xy, XE, endV, gdst, Yk, XR, Yd, goR, XC, sBox, XU, XH, Xr, sNil, XL, Xt, XV, Xv, goD, valD, XI, XF, XB, dNil, XK, XD, dBox, dN, Xz, opL, idxs, pv, XX, Ya, XJ, Xb, Xu, oBin, oUn, Ye, XW, Xw, Xx, Xh, Xk, XY, XS, oLen, lenS, Yh, ev, lk, Vc.put, fits, kd, sz, Tryz.VΓ, Tryz.Γs, bin, binI, binS, ifK, ar, eqB, eqS, eqK, eqK.eqF, negB, bnds, optE, XM, Vc.cells, isV, Vc.one, Xs, getB, setB, XZ, Xp, Xi, Yf, Xl, XT, resS, tupS, ofV, Yj, Nat.reduceAdd, Nat.reduceSub, Nat.reduceLT, Nat.reduceLeDiff, reduceIte, reduceCtorEq, Nat.reduceEqDiff, implies_true, forall_const, lawV])
  (refine callV_pc (pd) ?_; simp only [vcS, ↓Xn, ↓Xo, ↓Xg, ↓Xd, ↓Xe, ↓Xf, XQ, XG, gvU, setR, orN, Yl, Xm, Yn, Yi, Xa, Ym, Xc, Xc.sizeIs, reS, Xj, Yb, mmS, Xq, dstS, srcS, XP, XN, XO, Yc, XA, Yg, Xy, XE, endV, gdst, Yk, XR, Yd, goR, XC, sBox, XU, XH, Xr, sNil, XL, Xt, XV, Xv, goD, valD, XI, XF, XB, dNil, XK, XD, dBox, dN, Xz, opL, idxs, pv, XX, Ya, XJ, Xb, Xu, oBin, oUn, Ye, XW, Xw, Xx, Xh, Xk, XY, XS, oLen, lenS, Yh, ev, lk, Vc.put, fits, kd, sz, Tryz.VΓ, Tryz.Γs, bin, binI, binS, ifK, ar, eqB, eqS, eqK, eqK.eqF, negB, bnds, optE, XM, Vc.cells, isV, Vc.one, Xs, getB, setB, XZ, Xp, Xi, Yf, Xl, XT, resS, tupS, ofV, Yj, Nat.reduceAdd, Nat.reduceSub, Nat.reduceLT, Nat.reduceLeDiff, reduceIte, reduceCtorEq, Nat.reduceEqDiff, implies_true, forall_const, lawV])
  refine ⟨fun h1 => ?_, fun h1 => ?_⟩
  · rw [if_pos (by simpa using h1)]
  rw [if_neg (by simpa using h1)]
  refine ⟨fun h2 => ?_, fun h2 => ?_⟩
  · have h2 : e = 0 := by simpa using h2
    (refine callV_pc pc ?_; simp only [vcS, ↓Xn, ↓Xo, ↓Xg, ↓Xd, ↓Xe, ↓Xf, XQ, XG, gvU, setR, orN, Yl, Xm, Yn, Yi, Xa, Ym, Xc, Xc.sizeIs, reS, Xj, Yb, mmS, Xq, dstS, srcS, XP, XN, XO, Yc, XA, Yg, Xy, XE, endV, gdst, Yk, XR, Yd, goR, XC, sBox, XU, XH, Xr, sNil, XL, Xt, XV, Xv, goD, valD, XI, XF, XB, dNil, XK, XD, dBox, dN, Xz, opL, idxs, pv, XX, Ya, XJ, Xb, Xu, oBin, oUn, Ye, XW, Xw, Xx, Xh, Xk, XY, XS, oLen, lenS, Yh, ev, lk, Vc.put, fits, kd, sz, Tryz.VΓ, Tryz.Γs, bin, binI, binS, ifK, ar, eqB, eqS, eqK, eqK.eqF, negB, bnds, optE, XM, Vc.cells, isV, Vc.one, Xs, getB, setB, XZ, Xp, Xi, Yf, Xl, XT, resS, tupS, ofV, Yj, Nat.reduceAdd, Nat.reduceSub, Nat.reduceLT, Nat.reduceLeDiff, reduceIte, reduceCtorEq, Nat.reduceEqDiff, implies_true, forall_const, lawV])
    refine ⟨fun h3 => ?_, fun h3 => ?_⟩
    · (refine callV_pc pr ?_; simp only [vcS, ↓Xn, ↓Xo, ↓Xg, ↓Xd, ↓Xe, ↓Xf, XQ, XG, gvU, setR, orN, Yl, Xm, Yn, Yi, Xa, Ym, Xc, Xc.sizeIs, reS, Xj, Yb, mmS, Xq, dstS, srcS, XP, XN, XO, Yc, XA, Yg, Xy, XE, endV, gdst, Yk, XR, Yd, goR, XC, sBox, XU, XH, Xr, sNil, XL, Xt, XV, Xv, goD, valD, XI, XF, XB, dNil, XK, XD, dBox, dN, Xz, opL, idxs, pv, XX, Ya, XJ, Xb, Xu, oBin, oUn, Ye, XW, Xw, Xx, Xh, Xk, XY, XS, oLen, lenS, Yh, ev, lk, Vc.put, fits, kd, sz, Tryz.VΓ, Tryz.Γs, bin, binI, binS, ifK, ar, eqB, eqS, eqK, eqK.eqF, negB, bnds, optE, XM, Vc.cells, isV, Vc.one, Xs, getB, setB, XZ, Xp, Xi, Yf, Xl, XT, resS, tupS, ofV, Yj, Nat.reduceAdd, Nat.reduceSub, Nat.reduceLT, Nat.reduceLeDiff, reduceIte, reduceCtorEq, Nat.reduceEqDiff, implies_true, forall_const, lawV])
      rw [if_pos ⟨h2, of_decide_eq_true h3⟩]
    · (refine callV_pc pr ?_; simp only [vcS, ↓Xn, ↓Xo, ↓Xg, ↓Xd, ↓Xe, ↓Xf, XQ, XG, gvU, setR, orN, Yl, Xm, Yn, Yi, Xa, Ym, Xc, Xc.sizeIs, reS, Xj, Yb, mmS, Xq, dstS, srcS, XP, XN, XO, Yc, XA, Yg, Xy, XE, endV, gdst, Yk, XR, Yd, goR, XC, sBox, XU, XH, Xr, sNil, XL, Xt, XV, Xv, goD, valD, XI, XF, XB, dNil, XK, XD, dBox, dN, Xz, opL, idxs, pv, XX, Ya, XJ, Xb, Xu, oBin, oUn, Ye, XW, Xw, Xx, Xh, Xk, XY, XS, oLen, lenS, Yh, ev, lk, Vc.put, fits, kd, sz, Tryz.VΓ, Tryz.Γs, bin, binI, binS, ifK, ar, eqB, eqS, eqK, eqK.eqF, negB, bnds, optE, XM, Vc.cells, isV, Vc.one, Xs, getB, setB, XZ, Xp, Xi, Yf, Xl, XT, resS, tupS, ofV, Yj, Nat.reduceAdd, Nat.reduceSub, Nat.reduceLT, Nat.reduceLeDiff, reduceIte, reduceCtorEq, Nat.reduceEqDiff, implies_true, forall_const, lawV])
      rw [if_neg (fun k => of_decide_eq_false h3 k.2)]
  · have h2 : ¬ e = 0 := by simpa using h2
    (refine callV_pc pr ?_; simp only [vcS, ↓Xn, ↓Xo, ↓Xg, ↓Xd, ↓Xe, ↓Xf, XQ, XG, gvU, setR, orN, Yl, Xm, Yn, Yi, Xa, Ym, Xc, Xc.sizeIs, reS, Xj, Yb, mmS, Xq, dstS, srcS, XP, XN, XO, Yc, XA, Yg, Xy, XE, endV, gdst, Yk, XR, Yd, goR, XC, sBox, XU, XH, Xr, sNil, XL, Xt, XV, Xv, goD, valD, XI, XF, XB, dNil, XK, XD, dBox, dN, Xz, opL, idxs, pv, XX, Ya, XJ, Xb, Xu, oBin, oUn, Ye, XW, Xw, Xx, Xh, Xk, XY, XS, oLen, lenS, Yh, ev, lk, Vc.put, fits, kd, sz, Tryz.VΓ, Tryz.Γs, bin, binI, binS, ifK, ar, eqB, eqS, eqK, eqK.eqF, negB, bnds, optE, XM, Vc.cells, isV, Vc.one, Xs, getB, setB, XZ, Xp, Xi, Yf, Xl, XT, resS, tupS, ofV, Yj, Nat.reduceAdd, Nat.reduceSub, Nat.reduceLT, Nat.reduceLeDiff, reduceIte, reduceCtorEq, Nat.reduceEqDiff, implies_true, forall_const, lawV])
    rw [if_neg (fun k => h2 k.1)]
theorem progEnd (m s : Bytes) (hs : s.length ≤ 4096) : didEnd m (progCanon s) = didEnd m (didCanon s) := by
  have h := progCanon_eq s (by omega)
  unfold didEnd
  rw [h.1]
  by_cases k : (didCanon s).2 = 0
  · rw [h.2 k]
  · rw [if_pos k, if_pos k]
theorem progCanon_len (s : Bytes) : (progCanon s).1.length ≤ 9 * s.length := by
  unfold progCanon
  split
  · simp
  · have h1 := pctNorm_len [58] s
    have h2 : ∀ l : Bytes, (l.flatMap (repB 126 [37, 55, 69])).length ≤ 3 * l.length := by
      intro l
      induction l with
      | nil => simp
      | cons c l ih =>
        rw [List.flatMap_cons, List.length_append, List.length_cons]
        have : (repB 126 [37, 55, 69] c).length ≤ 3 := by unfold repB; split <;> simp
        omega
    have := h2 (pctNorm [58] s).1
    simp only
    omega
set_option maxHeartbeats 2000000 in
theorem p_did_ParseDID (s : Bytes) : PC Tryz.V 60 [.str s] (.tup [dsv (didParse s).1, .int .i64 (didParse s).2]) := by
  refine pc_of 3000 Tryz.func60 rfl Tryz.ntmps60 Tryz.results60 Tryz.call60 (by simp) (by simp [flat, flat.flatL, dsv, dusv]) (by simp [flat, flat.flatL, dsv, dusv]) ?_
  simp only [vcS, ↓Xn, ↓Xo, ↓Xg, ↓Xd, ↓Xe, ↓Xf, XQ, XG, gvU, setR, orN, Yl, Xm, Yn, Yi, Xa, Ym, Xc, Xc.sizeIs, reS, Xj, Yb, mmS, Xq, dstS, srcS, XP, XN, XO, Yc, XA, Yg, Xy, XE, endV, gdst, Yk, XR, Yd, goR, XC, sBox, XU, XH, Xr, sNil, XL, Xt, XV, Xv, goD, valD, XI, XF, XB, dNil, XK, XD, dBox, dN, Xz, opL, idxs, pv, XX, Ya, XJ, Xb, Xu, oBin, oUn, Ye, XW, Xw, Xx, Xh, Xk, XY, XS, oLen, lenS, Yh, ev, lk, Vc.put, fits, kd, sz, Tryz.VΓ, Tryz.Γs, bin, binI, binS, ifK, ar, eqB, eqS, eqK, eqK.eqF, negB, bnds, optE, XM, Vc.cells, isV, Vc.one, Xs, getB, setB, XZ, Xp, Xi, Yf, Xl, XT, resS, tupS, ofV, Yj, Nat.reduceAdd, Nat.reduceSub, Nat.reduceLT, Nat.reduceLeDiff, reduceIte, reduceCtorEq, Nat.reduceEqDiff, implies_true, forall_const, lawV]
  unfold didParse
  refine ⟨fun h => ?_, fun h => ?_⟩
  · have h : 4096 < s.length := (by simp at h; omega)
    rw [if_pos h]; rfl
  have h : ¬ 4096 < s.length := (by simp at h; omega)
  rw [if_neg h]
  have pp := p_CutPrefix s didS
  have hT : didS.isPrefixOf s = true → Lib.trimPrefix s didS = s.drop 4 := fun k => if_pos k
  rw [show Lib.hasPrefix s didS = didS.isPrefixOf s from rfl] at pp
  (refine callV_pc pp ?_; simp only [vcS, ↓Xn, ↓Xo, ↓Xg, ↓Xd, ↓Xe, ↓Xf, XQ, XG, gvU, setR, orN, Yl, Xm, Yn, Yi, Xa, Ym, Xc, Xc.sizeIs, reS, Xj, Yb, mmS, Xq, dstS, srcS, XP, XN, XO, Yc, XA, Yg, Xy, XE, endV, gdst, Yk, XR, Yd, goR, XC, sBox, XU, XH, Xr, sNil, XL, Xt, XV, Xv, goD, valD, XI, XF, XB, dNil, XK, XD, dBox, dN, Xz, opL, idxs, pv, XX, Ya, XJ, Xb, Xu, oBin, oUn, Ye, XW, Xw, Xx, Xh, Xk, XY, XS, oLen, lenS, Yh, ev, lk, Vc.put, fits, kd, sz, Tryz.VΓ, Tryz.Γs, bin, binI, binS, ifK, ar, eqB, eqS, eqK, eqK.eqF, negB, bnds, optE, XM, Vc.cells, isV, Vc.one, Xs, getB, setB, XZ, Xp, Xi, Yf, Xl, XT, resS, tupS, ofV, Yj, Nat.reduceAdd, Nat.reduceSub, Nat.reduceLT, Nat.reduceLeDiff, reduceIte, reduceCtorEq, Nat.reduceEqDiff, implies_true, forall_const, lawV])
  refine ⟨fun h2 => ?_, fun h2 => ?_⟩
  · rw [if_pos (by simpa using h2)]; rfl
  rw [if_neg (by simpa using h2)]
  rw [hT (by simpa using h2)]
  have hS : (s.drop 4).length ≤ 4096 := by simp; omega
  generalize s.drop 4 = S at hS ⊢
  have pc := p_Cut S 58 (by omega)
  have hcl := cutC_len 58 S
  unfold didRest
  generalize cutC 58 S = x at pc hcl ⊢
  obtain ⟨m, i, ok⟩ := x
  simp only at pc hcl ⊢
  (refine callV_pc pc ?_; simp only [vcS, ↓Xn, ↓Xo, ↓Xg, ↓Xd, ↓Xe, ↓Xf, XQ, XG, gvU, setR, orN, Yl, Xm, Yn, Yi, Xa, Ym, Xc, Xc.sizeIs, reS, Xj, Yb, mmS, Xq, dstS, srcS, XP, XN, XO, Yc, XA, Yg, Xy, XE, endV, gdst, Yk, XR, Yd, goR, XC, sBox, XU, XH, Xr, sNil, XL, Xt, XV, Xv, goD, valD, XI, XF, XB, dNil, XK, XD, dBox, dN, Xz, opL, idxs, pv, XX, Ya, XJ, Xb, Xu, oBin, oUn, Ye, XW, Xw, Xx, Xh, Xk, XY, XS, oLen, lenS, Yh, ev, lk, Vc.put, fits, kd, sz, Tryz.VΓ, Tryz.Γs, bin, binI, binS, ifK, ar, eqB, eqS, eqK, eqK.eqF, negB, bnds, optE, XM, Vc.cells, isV, Vc.one, Xs, getB, setB, XZ, Xp, Xi, Yf, Xl, XT, resS, tupS, ofV, Yj, Nat.reduceAdd, Nat.reduceSub, Nat.reduceLT, Nat.reduceLeDiff, reduceIte, reduceCtorEq, Nat.reduceEqDiff, implies_true, forall_const, lawV])
  refine ⟨fun h3 => ?_, fun h3 => ?_⟩
  · rw [if_pos (by simpa using h3)]; rfl
  rw [if_neg (by simpa using h3)]
  (refine callV_pc (p_did_method m (by omega)) ?_; simp only [vcS, ↓Xn, ↓Xo, ↓Xg, ↓Xd, ↓Xe, ↓Xf, XQ, XG, gvU, setR, orN, Yl, Xm, Yn, Yi, Xa, Ym, Xc, Xc.sizeIs, reS, Xj, Yb, mmS, Xq, dstS, srcS, XP, XN, XO, Yc, XA, Yg, Xy, XE, endV, gdst, Yk, XR, Yd, goR, XC, sBox, XU, XH, Xr, sNil, XL, Xt, XV, Xv, goD, valD, XI, XF, XB, dNil, XK, XD, dBox, dN, Xz, opL, idxs, pv, XX, Ya, XJ, Xb, Xu, oBin, oUn, Ye, XW, Xw, Xx, Xh, Xk, XY, XS, oLen, lenS, Yh, ev, lk, Vc.put, fits, kd, sz, Tryz.VΓ, Tryz.Γs, bin, binI, binS, ifK, ar, eqB, eqS, eqK, eqK.eqF, negB, bnds, optE, XM, Vc.cells, isV, Vc.one, Xs, getB, setB, XZ, Xp, Xi, Yf, Xl, XT, resS, tupS, ofV, Yj, Nat.reduceAdd, Nat.reduceSub, Nat.reduceLT, Nat.reduceLeDiff, reduceIte, reduceCtorEq, Nat.reduceEqDiff, implies_true, forall_const, lawV])
  refine ⟨fun h4 => ?_, fun h4 => ?_⟩
  · rw [if_pos (by simpa using h4)]; rfl
  rw [if_neg (by simpa using h4)]
  have hi : i.length ≤ 4096 := by omega
  rw [← progEnd m i hi]
  have pk := p_did_canonical i hi
  have hkl := progCanon_len i
  generalize progCanon i = k at *
  obtain ⟨k, e⟩ := k
  simp only at pk hkl
  have ps := p_HasSuffix k 58 (by omega)
  unfold didEnd
  simp only
  (refine callV_pc pk ?_; simp only [vcS, ↓Xn, ↓Xo, ↓Xg, ↓Xd, ↓Xe, ↓Xf, XQ, XG, gvU, setR, orN, Yl, Xm, Yn, Yi, Xa, Ym, Xc, Xc.sizeIs, reS, Xj, Yb, mmS, Xq, dstS, srcS, XP, XN, XO, Yc, XA, Yg, Xy, XE, endV, gdst, Yk, XR, Yd, goR, XC, sBox, XU, XH, Xr, sNil, XL, Xt, XV, Xv, goD, valD, XI, XF, XB, dNil, XK, XD, dBox, dN, Xz, opL, idxs, pv, XX, Ya, XJ, Xb, Xu, oBin, oUn, Ye, XW, Xw, Xx, Xh, Xk, XY, XS, oLen, lenS, Yh, ev, lk, Vc.put, fits, kd, sz, Tryz.VΓ, Tryz.Γs, bin, binI, binS, ifK, ar, eqB, eqS, eqK, eqK.eqF, negB, bnds, optE, XM, Vc.cells, isV, Vc.one, Xs, getB, setB, XZ, Xp, Xi, Yf, Xl, XT, resS, tupS, ofV, Yj, Nat.reduceAdd, Nat.reduceSub, Nat.reduceLT, Nat.reduceLeDiff, reduceIte, reduceCtorEq, Nat.reduceEqDiff, implies_true, forall_const, lawV])
  refine ⟨fun h5 => ?_, fun h5 => ?_⟩
  · rw [if_pos (by simpa using h5)]; rfl
  rw [if_neg (by simpa using h5)]
  refine ⟨fun h6 => ?_, fun h6 => ?_⟩
  · (refine callV_pc ps ?_; simp only [vcS, ↓Xn, ↓Xo, ↓Xg, ↓Xd, ↓Xe, ↓Xf, XQ, XG, gvU, setR, orN, Yl, Xm, Yn, Yi, Xa, Ym, Xc, Xc.sizeIs, reS, Xj, Yb, mmS, Xq, dstS, srcS, XP, XN, XO, Yc, XA, Yg, Xy, XE, endV, gdst, Yk, XR, Yd, goR, XC, sBox, XU, XH, Xr, sNil, XL, Xt, XV, Xv, goD, valD, XI, XF, XB, dNil, XK, XD, dBox, dN, Xz, opL, idxs, pv, XX, Ya, XJ, Xb, Xu, oBin, oUn, Ye, XW, Xw, Xx, Xh, Xk, XY, XS, oLen, lenS, Yh, ev, lk, Vc.put, fits, kd, sz, Tryz.VΓ, Tryz.Γs, bin, binI, binS, ifK, ar, eqB, eqS, eqK, eqK.eqF, negB, bnds, optE, XM, Vc.cells, isV, Vc.one, Xs, getB, setB, XZ, Xp, Xi, Yf, Xl, XT, resS, tupS, ofV, Yj, Nat.reduceAdd, Nat.reduceSub, Nat.reduceLT, Nat.reduceLeDiff, reduceIte, reduceCtorEq, Nat.reduceEqDiff, implies_true, forall_const, lawV])
    refine ⟨fun h7 => ?_, fun h7 => ?_⟩
    · rw [if_pos (.inr (of_decide_eq_true h7))]; rfl
    · rw [if_neg (by simp only [not_or]; exact ⟨by simpa using h6, of_decide_eq_false h7⟩)]; rfl
  · rw [if_pos (.inl (by simpa using h6))]; rfl
def DidFits (d : Did) : Prop := d.method.length ≤ 140737488355328 ∧ d.id.length ≤ 140737488355328
def DidUrlFits (u : DidUrl) : Prop := DidFits u.did ∧ u.path.length ≤ 140737488355328 ∧ u.query.length ≤ 140737488355328 ∧ u.fragment.length ≤ 140737488355328
theorem didText_len (d : Did) : (didText d).length = d.method.length + d.id.length + 5 := by simp [didText, didS]; omega
theorem p_did_FormatDID (d : Did) (h : DidFits d) : PC Tryz.V 61 [dsv d] (.str (didText d)) := by
  obtain ⟨m, i⟩ := d
  simp only [DidFits] at h
  refine pc_of 3000 Tryz.func61 rfl Tryz.ntmps61 Tryz.results61 Tryz.call61 (by simp) (by simp [flat, flat.flatL, dsv, dusv]) (by simp [flat, flat.flatL, dsv, dusv]) ?_
  unfold dsv
  simp only [vcS, ↓Xn, ↓Xo, ↓Xg, ↓Xd, ↓Xe, ↓Xf, XQ, XG, gvU, setR, orN, Yl, Xm, Yn, Yi, Xa, Ym, Xc, Xc.sizeIs, reS, Xj, Yb, mmS, Xq, dstS, srcS, XP, XN, XO, Yc, XA, Yg, Xy, XE, endV, gdst, Yk, XR, Yd, goR, XC, sBox, XU, XH, Xr, sNil, XL, Xt, XV, Xv, goD, valD, XI, XF, XB, dNil, XK, XD, dBox, dN, Xz, opL, idxs, pv, XX, Ya, XJ, Xb, Xu, oBin, oUn, Ye, XW, Xw, Xx, Xh, Xk, XY, XS, oLen, lenS, Yh, ev, lk, Vc.put, fits, kd, sz, Tryz.VΓ, Tryz.Γs, bin, binI, binS, ifK, ar, eqB, eqS, eqK, eqK.eqF, negB, bnds, optE, XM, Vc.cells, isV, Vc.one, Xs, getB, setB, XZ, Xp, Xi, Yf, Xl, XT, resS, tupS, ofV, Yj, Nat.reduceAdd, Nat.reduceSub, Nat.reduceLT, Nat.reduceLeDiff, reduceIte, reduceCtorEq, Nat.reduceEqDiff, implies_true, forall_const, lawV]
  simp only [List.length_append, List.length_cons, List.length_nil]
  refine ⟨by omega, by omega, by omega, ?_⟩
  simp [didText, didS]
end Go.Proofs.YtcndmooeglfilaaGreatDoor
/- The walks of reference 06: Split, Join. -/
set_option linter.all false
set_option maxRecDepth 20000
namespace Go.Proofs.YtcndmooeglfilaaGreatDoor
open Go Vc Go.RowKit Wf
set_option linter.unusedSimpArgs false
theorem pre_one (c : UInt8) (s : Bytes) : pre (([c] : Bytes).contains ·) s = pre (· == c) s := by
  congr 1
  funext x
  by_cases h : x = c
  · subst h; simp
  · simp [h]
theorem authPath_two {s : Bytes} (h : Lib.hasPrefix s [47, 47] = true) : authPath s = ((s.take (2 + pre (· == 47) (s.drop 2))).drop 2, true, s.drop (2 + pre (· == 47) (s.drop 2))) := by
  rw [authPath_yes h]
  have e : Lib.trimPrefix s [47, 47] = s.drop 2 := by unfold Lib.trimPrefix; rw [if_pos h]; rfl
  rw [e, List.drop_take, List.drop_drop]
  simp
set_option maxRecDepth 20000 in
set_option maxHeartbeats 4000000 in
theorem p_r6_Split (s : Bytes) : PC Tryz.V 69 [.str s] (.tup [usv (uriSplit s).1, .int .i64 (uriSplit s).2]) := by
  (refine pc_of 3000 Tryz.func69 rfl Tryz.ntmps69 Tryz.results69 Tryz.call69 (by simp) (by simp [flat, flat.flatL, usv]) (by simp [flat, flat.flatL, usv]) ?_
   simp only [vcS, ↓Xn, ↓Xo, ↓Xg, ↓Xd, ↓Xe, ↓Xf, XQ, XG, gvU, setR, orN, Yl, Xm, Yn, Yi, Xa, Ym, Xc, Xc.sizeIs, reS, Xj, Yb, mmS, Xq, dstS, srcS, XP, XN, XO, Yc, XA, Yg, Xy, XE, endV, gdst, Yk, XR, Yd, goR, XC, sBox, XU, XH, Xr, sNil, XL, Xt, XV, Xv, goD, valD, XI, XF, XB, dNil, XK, XD, dBox, dN, Xz, opL, idxs, pv, XX, Ya, XJ, Xb, Xu, oBin, oUn, Ye, XW, Xw, Xx, Xh, Xk, XY, XS, oLen, lenS, Yh, ev, lk, Vc.put, fits, kd, sz, Tryz.VΓ, Tryz.Γs, bin, binI, binS, ifK, ar, eqB, eqS, eqK, eqK.eqF, negB, bnds, optE, XM, Vc.cells, isV, Vc.one, Xs, getB, setB, XZ, Xp, Xi, Yf, Xl, XT, resS, tupS, ofV, Yj, Nat.reduceAdd, Nat.reduceSub, Nat.reduceLT, Nat.reduceLeDiff, reduceIte, reduceCtorEq, Nat.reduceEqDiff, implies_true, forall_const, lawV])
  refine ⟨fun h => ?_, fun h => ?_⟩
  · have : uriSplit s = (Uri.none, 5) := if_pos (by simp at h; omega)
    rw [this]; rfl
  · have hq : uriSplit s = splitRest (cutC 63 (cutC 35 s).1).1 (cutC 35 s).2.1 (cutC 63 (cutC 35 s).1).2.1 (cutC 35 s).2.2 (cutC 63 (cutC 35 s).1).2.2 := if_neg (by simp at h; omega)
    rw [hq]
    have hs : s.length ≤ 4294967281 := by simp at h; omega
    have px := p_r1_Index s [35] hs (by simp)
    rw [pre_one] at px
    (refine callV_pc (px) ?_; simp only [vcS, ↓Xn, ↓Xo, ↓Xg, ↓Xd, ↓Xe, ↓Xf, XQ, XG, gvU, setR, orN, Yl, Xm, Yn, Yi, Xa, Ym, Xc, Xc.sizeIs, reS, Xj, Yb, mmS, Xq, dstS, srcS, XP, XN, XO, Yc, XA, Yg, Xy, XE, endV, gdst, Yk, XR, Yd, goR, XC, sBox, XU, XH, Xr, sNil, XL, Xt, XV, Xv, goD, valD, XI, XF, XB, dNil, XK, XD, dBox, dN, Xz, opL, idxs, pv, XX, Ya, XJ, Xb, Xu, oBin, oUn, Ye, XW, Xw, Xx, Xh, Xk, XY, XS, oLen, lenS, Yh, ev, lk, Vc.put, fits, kd, sz, Tryz.VΓ, Tryz.Γs, bin, binI, binS, ifK, ar, eqB, eqS, eqK, eqK.eqF, negB, bnds, optE, XM, Vc.cells, isV, Vc.one, Xs, getB, setB, XZ, Xp, Xi, Yf, Xl, XT, resS, tupS, ofV, Yj, Nat.reduceAdd, Nat.reduceSub, Nat.reduceLT, Nat.reduceLeDiff, reduceIte, reduceCtorEq, Nat.reduceEqDiff, implies_true, forall_const, lawV])
    refine ⟨fun hk1 => ?_, fun hk1 => ?_⟩
    · have hk1' : pre (· == 35) s < s.length := by simpa using hk1
      rw [show cutC 35 s = (s.take (pre (· == 35) s), s.drop (pre (· == 35) s + 1), true) from if_pos hk1']
      simp only
      have hl1 : (s.take (pre (· == 35) s)).length ≤ 4294967281 := by rw [List.length_take]; omega
      refine ⟨by omega, by omega, by omega, (OkD_fast (by kernel_rfl)), ?_⟩
      generalize s.take (pre (· == 35) s) = s1 at hl1 ⊢
      generalize s.drop (pre (· == 35) s + 1) = fr
      (
        have px2 := p_r1_Index s1 [63] (by omega) (by simp)
        rw [pre_one] at px2
        (refine callV_pc (px2) ?_; simp only [vcS, ↓Xn, ↓Xo, ↓Xg, ↓Xd, ↓Xe, ↓Xf, XQ, XG, gvU, setR, orN, Yl, Xm, Yn, Yi, Xa, Ym, Xc, Xc.sizeIs, reS, Xj, Yb, mmS, Xq, dstS, srcS, XP, XN, XO, Yc, XA, Yg, Xy, XE, endV, gdst, Yk, XR, Yd, goR, XC, sBox, XU, XH, Xr, sNil, XL, Xt, XV, Xv, goD, valD, XI, XF, XB, dNil, XK, XD, dBox, dN, Xz, opL, idxs, pv, XX, Ya, XJ, Xb, Xu, oBin, oUn, Ye, XW, Xw, Xx, Xh, Xk, XY, XS, oLen, lenS, Yh, ev, lk, Vc.put, fits, kd, sz, Tryz.VΓ, Tryz.Γs, bin, binI, binS, ifK, ar, eqB, eqS, eqK, eqK.eqF, negB, bnds, optE, XM, Vc.cells, isV, Vc.one, Xs, getB, setB, XZ, Xp, Xi, Yf, Xl, XT, resS, tupS, ofV, Yj, Nat.reduceAdd, Nat.reduceSub, Nat.reduceLT, Nat.reduceLeDiff, reduceIte, reduceCtorEq, Nat.reduceEqDiff, implies_true, forall_const, lawV])
        refine ⟨fun hk2 => ?_, fun hk2 => ?_⟩
        · have hk2' : pre (· == 63) s1 < s1.length := by simpa using hk2
          rw [show cutC 63 s1 = (s1.take (pre (· == 63) s1), s1.drop (pre (· == 63) s1 + 1), true) from if_pos hk2']
          simp only
          have hl2 : (s1.take (pre (· == 63) s1)).length ≤ 4294967281 := by rw [List.length_take]; omega
          refine ⟨by omega, by omega, by omega, (OkD_fast (by kernel_rfl)), ?_⟩
          generalize s1.take (pre (· == 63) s1) = s2 at hl2 ⊢
          generalize s1.drop (pre (· == 63) s1 + 1) = qu
          (
            have px3 := p_r1_Index s2 [58, 47] (by omega) (by simp)
            rw [show pre (([58, 47] : Bytes).contains ·) s2 = pre colonSlash s2 from rfl] at px3
            (refine callV_pc (px3) ?_; simp only [vcS, ↓Xn, ↓Xo, ↓Xg, ↓Xd, ↓Xe, ↓Xf, XQ, XG, gvU, setR, orN, Yl, Xm, Yn, Yi, Xa, Ym, Xc, Xc.sizeIs, reS, Xj, Yb, mmS, Xq, dstS, srcS, XP, XN, XO, Yc, XA, Yg, Xy, XE, endV, gdst, Yk, XR, Yd, goR, XC, sBox, XU, XH, Xr, sNil, XL, Xt, XV, Xv, goD, valD, XI, XF, XB, dNil, XK, XD, dBox, dN, Xz, opL, idxs, pv, XX, Ya, XJ, Xb, Xu, oBin, oUn, Ye, XW, Xw, Xx, Xh, Xk, XY, XS, oLen, lenS, Yh, ev, lk, Vc.put, fits, kd, sz, Tryz.VΓ, Tryz.Γs, bin, binI, binS, ifK, ar, eqB, eqS, eqK, eqK.eqF, negB, bnds, optE, XM, Vc.cells, isV, Vc.one, Xs, getB, setB, XZ, Xp, Xi, Yf, Xl, XT, resS, tupS, ofV, Yj, Nat.reduceAdd, Nat.reduceSub, Nat.reduceLT, Nat.reduceLeDiff, reduceIte, reduceCtorEq, Nat.reduceEqDiff, implies_true, forall_const, lawV])
            refine ⟨fun hk3 => ?_, fun hk3 => ?_⟩
            · have hp : pre colonSlash s2 < s2.length := by simpa using hk3
              rw [byte_is (n := 58) hp 58 rfl]
              refine ⟨by omega, fun h1 => ⟨by omega, ?_⟩, fun h1 => ?_⟩
              · have hh : (s2.drop (pre colonSlash s2)).head? = some 58 := by
                  rw [List.head?_drop, List.getElem?_eq_getElem hp, beq_iff_eq.1 h1]
                (refine callV_pc (p_r6_scheme _ (by rw [List.length_take]; omega)) ?_; simp only [vcS, ↓Xn, ↓Xo, ↓Xg, ↓Xd, ↓Xe, ↓Xf, XQ, XG, gvU, setR, orN, Yl, Xm, Yn, Yi, Xa, Ym, Xc, Xc.sizeIs, reS, Xj, Yb, mmS, Xq, dstS, srcS, XP, XN, XO, Yc, XA, Yg, Xy, XE, endV, gdst, Yk, XR, Yd, goR, XC, sBox, XU, XH, Xr, sNil, XL, Xt, XV, Xv, goD, valD, XI, XF, XB, dNil, XK, XD, dBox, dN, Xz, opL, idxs, pv, XX, Ya, XJ, Xb, Xu, oBin, oUn, Ye, XW, Xw, Xx, Xh, Xk, XY, XS, oLen, lenS, Yh, ev, lk, Vc.put, fits, kd, sz, Tryz.VΓ, Tryz.Γs, bin, binI, binS, ifK, ar, eqB, eqS, eqK, eqK.eqF, negB, bnds, optE, XM, Vc.cells, isV, Vc.one, Xs, getB, setB, XZ, Xp, Xi, Yf, Xl, XT, resS, tupS, ofV, Yj, Nat.reduceAdd, Nat.reduceSub, Nat.reduceLT, Nat.reduceLeDiff, reduceIte, reduceCtorEq, Nat.reduceEqDiff, implies_true, forall_const, lawV])
                refine ⟨fun h2 => ?_, fun h2 => ?_⟩
                · have hs2 : ∀ (f q : Bytes) (hf hq : Bool), splitRest s2 f q hf hq = (Uri.none, 6) := fun f q hf hq => by
                    unfold splitRest
                    rw [if_pos hh, if_neg (by rw [not_t h2]; simp)]
                  rw [hs2]; rfl
                · have hs2 : ∀ (f q : Bytes) (hf hq : Bool), splitRest s2 f q hf hq = (⟨s2.take (pre colonSlash s2), (authPath (s2.drop (pre colonSlash s2 + 1))).1, (authPath (s2.drop (pre colonSlash s2 + 1))).2.2, q, f, true, (authPath (s2.drop (pre colonSlash s2 + 1))).2.1, hq, hf⟩, 0) := fun f q hf hq => by
                    unfold splitRest
                    rw [if_pos hh, if_pos (not_f h2)]
                  have hl5 : (s2.drop (pre colonSlash s2 + 1)).length ≤ 4294967281 := by rw [List.length_drop]; omega
                  refine ⟨by omega, by omega, by omega, (OkD_fast (by kernel_rfl)), ?_⟩
                  (
                    (refine callV_pc (p_r1_Prefix (s2.drop (pre colonSlash s2 + 1)) [47, 47]) ?_; simp only [vcS, ↓Xn, ↓Xo, ↓Xg, ↓Xd, ↓Xe, ↓Xf, XQ, XG, gvU, setR, orN, Yl, Xm, Yn, Yi, Xa, Ym, Xc, Xc.sizeIs, reS, Xj, Yb, mmS, Xq, dstS, srcS, XP, XN, XO, Yc, XA, Yg, Xy, XE, endV, gdst, Yk, XR, Yd, goR, XC, sBox, XU, XH, Xr, sNil, XL, Xt, XV, Xv, goD, valD, XI, XF, XB, dNil, XK, XD, dBox, dN, Xz, opL, idxs, pv, XX, Ya, XJ, Xb, Xu, oBin, oUn, Ye, XW, Xw, Xx, Xh, Xk, XY, XS, oLen, lenS, Yh, ev, lk, Vc.put, fits, kd, sz, Tryz.VΓ, Tryz.Γs, bin, binI, binS, ifK, ar, eqB, eqS, eqK, eqK.eqF, negB, bnds, optE, XM, Vc.cells, isV, Vc.one, Xs, getB, setB, XZ, Xp, Xi, Yf, Xl, XT, resS, tupS, ofV, Yj, Nat.reduceAdd, Nat.reduceSub, Nat.reduceLT, Nat.reduceLeDiff, reduceIte, reduceCtorEq, Nat.reduceEqDiff, implies_true, forall_const, lawV])
                    cases hpf : Lib.hasPrefix (s2.drop (pre colonSlash s2 + 1)) [47, 47]
                    · refine ⟨fun h => (by cases h), fun _ => ?_⟩
                      rw [hs2, authPath_no hpf]; rfl
                    · refine ⟨fun _ => ?_, fun h => (by cases h)⟩
                      rw [hs2, authPath_two hpf]
                      have hl6 := hp_len hpf
                      simp only [List.length_cons, List.length_nil] at hl6
                      have px4 := p_r1_Index ((s2.drop (pre colonSlash s2 + 1)).drop 2) [47] (by rw [List.length_drop]; omega) (by simp)
                      rw [pre_one] at px4
                      have hpl := pre_le (· == 47) ((s2.drop (pre colonSlash s2 + 1)).drop 2)
                      rw [List.length_drop] at hpl
                      generalize pre (· == 47) ((s2.drop (pre colonSlash s2 + 1)).drop 2) = q at px4 hpl ⊢
                      refine ⟨by omega, ?_⟩
                      (refine callV_pc (px4) ?_; simp only [vcS, ↓Xn, ↓Xo, ↓Xg, ↓Xd, ↓Xe, ↓Xf, XQ, XG, gvU, setR, orN, Yl, Xm, Yn, Yi, Xa, Ym, Xc, Xc.sizeIs, reS, Xj, Yb, mmS, Xq, dstS, srcS, XP, XN, XO, Yc, XA, Yg, Xy, XE, endV, gdst, Yk, XR, Yd, goR, XC, sBox, XU, XH, Xr, sNil, XL, Xt, XV, Xv, goD, valD, XI, XF, XB, dNil, XK, XD, dBox, dN, Xz, opL, idxs, pv, XX, Ya, XJ, Xb, Xu, oBin, oUn, Ye, XW, Xw, Xx, Xh, Xk, XY, XS, oLen, lenS, Yh, ev, lk, Vc.put, fits, kd, sz, Tryz.VΓ, Tryz.Γs, bin, binI, binS, ifK, ar, eqB, eqS, eqK, eqK.eqF, negB, bnds, optE, XM, Vc.cells, isV, Vc.one, Xs, getB, setB, XZ, Xp, Xi, Yf, Xl, XT, resS, tupS, ofV, Yj, Nat.reduceAdd, Nat.reduceSub, Nat.reduceLT, Nat.reduceLeDiff, reduceIte, reduceCtorEq, Nat.reduceEqDiff, implies_true, forall_const, lawV])
                      rw [show (2 + (q : Int)).toNat = 2 + q by omega]
                      exact ⟨by omega, by omega, by omega, (OkD_fast (by kernel_rfl)), rfl⟩)
              · have hs2 : ∀ (f q : Bytes) (hf hq : Bool), splitRest s2 f q hf hq = (⟨[], (authPath s2).1, (authPath s2).2.2, q, f, false, (authPath s2).2.1, hq, hf⟩, 0) := fun f q hf hq => by
                  unfold splitRest
                  rw [if_neg (by rw [List.head?_drop, List.getElem?_eq_getElem hp]; simpa using h1)]
                have hl5 := hl2
                (
                  (refine callV_pc (p_r1_Prefix (s2) [47, 47]) ?_; simp only [vcS, ↓Xn, ↓Xo, ↓Xg, ↓Xd, ↓Xe, ↓Xf, XQ, XG, gvU, setR, orN, Yl, Xm, Yn, Yi, Xa, Ym, Xc, Xc.sizeIs, reS, Xj, Yb, mmS, Xq, dstS, srcS, XP, XN, XO, Yc, XA, Yg, Xy, XE, endV, gdst, Yk, XR, Yd, goR, XC, sBox, XU, XH, Xr, sNil, XL, Xt, XV, Xv, goD, valD, XI, XF, XB, dNil, XK, XD, dBox, dN, Xz, opL, idxs, pv, XX, Ya, XJ, Xb, Xu, oBin, oUn, Ye, XW, Xw, Xx, Xh, Xk, XY, XS, oLen, lenS, Yh, ev, lk, Vc.put, fits, kd, sz, Tryz.VΓ, Tryz.Γs, bin, binI, binS, ifK, ar, eqB, eqS, eqK, eqK.eqF, negB, bnds, optE, XM, Vc.cells, isV, Vc.one, Xs, getB, setB, XZ, Xp, Xi, Yf, Xl, XT, resS, tupS, ofV, Yj, Nat.reduceAdd, Nat.reduceSub, Nat.reduceLT, Nat.reduceLeDiff, reduceIte, reduceCtorEq, Nat.reduceEqDiff, implies_true, forall_const, lawV])
                  cases hpf : Lib.hasPrefix (s2) [47, 47]
                  · refine ⟨fun h => (by cases h), fun _ => ?_⟩
                    rw [hs2, authPath_no hpf]; rfl
                  · refine ⟨fun _ => ?_, fun h => (by cases h)⟩
                    rw [hs2, authPath_two hpf]
                    have hl6 := hp_len hpf
                    simp only [List.length_cons, List.length_nil] at hl6
                    have px4 := p_r1_Index ((s2).drop 2) [47] (by rw [List.length_drop]; omega) (by simp)
                    rw [pre_one] at px4
                    have hpl := pre_le (· == 47) ((s2).drop 2)
                    rw [List.length_drop] at hpl
                    generalize pre (· == 47) ((s2).drop 2) = q at px4 hpl ⊢
                    refine ⟨by omega, ?_⟩
                    (refine callV_pc (px4) ?_; simp only [vcS, ↓Xn, ↓Xo, ↓Xg, ↓Xd, ↓Xe, ↓Xf, XQ, XG, gvU, setR, orN, Yl, Xm, Yn, Yi, Xa, Ym, Xc, Xc.sizeIs, reS, Xj, Yb, mmS, Xq, dstS, srcS, XP, XN, XO, Yc, XA, Yg, Xy, XE, endV, gdst, Yk, XR, Yd, goR, XC, sBox, XU, XH, Xr, sNil, XL, Xt, XV, Xv, goD, valD, XI, XF, XB, dNil, XK, XD, dBox, dN, Xz, opL, idxs, pv, XX, Ya, XJ, Xb, Xu, oBin, oUn, Ye, XW, Xw, Xx, Xh, Xk, XY, XS, oLen, lenS, Yh, ev, lk, Vc.put, fits, kd, sz, Tryz.VΓ, Tryz.Γs, bin, binI, binS, ifK, ar, eqB, eqS, eqK, eqK.eqF, negB, bnds, optE, XM, Vc.cells, isV, Vc.one, Xs, getB, setB, XZ, Xp, Xi, Yf, Xl, XT, resS, tupS, ofV, Yj, Nat.reduceAdd, Nat.reduceSub, Nat.reduceLT, Nat.reduceLeDiff, reduceIte, reduceCtorEq, Nat.reduceEqDiff, implies_true, forall_const, lawV])
                    rw [show (2 + (q : Int)).toNat = 2 + q by omega]
                    exact ⟨by omega, by omega, by omega, (OkD_fast (by kernel_rfl)), rfl⟩)
            · have hs2 : ∀ (f q : Bytes) (hf hq : Bool), splitRest s2 f q hf hq = (⟨[], (authPath s2).1, (authPath s2).2.2, q, f, false, (authPath s2).2.1, hq, hf⟩, 0) := fun f q hf hq => by
                unfold splitRest
                rw [if_neg (by rw [List.drop_of_length_le (by simp at hk3; omega)]; simp)]
              have hl5 := hl2
              (
                (refine callV_pc (p_r1_Prefix (s2) [47, 47]) ?_; simp only [vcS, ↓Xn, ↓Xo, ↓Xg, ↓Xd, ↓Xe, ↓Xf, XQ, XG, gvU, setR, orN, Yl, Xm, Yn, Yi, Xa, Ym, Xc, Xc.sizeIs, reS, Xj, Yb, mmS, Xq, dstS, srcS, XP, XN, XO, Yc, XA, Yg, Xy, XE, endV, gdst, Yk, XR, Yd, goR, XC, sBox, XU, XH, Xr, sNil, XL, Xt, XV, Xv, goD, valD, XI, XF, XB, dNil, XK, XD, dBox, dN, Xz, opL, idxs, pv, XX, Ya, XJ, Xb, Xu, oBin, oUn, Ye, XW, Xw, Xx, Xh, Xk, XY, XS, oLen, lenS, Yh, ev, lk, Vc.put, fits, kd, sz, Tryz.VΓ, Tryz.Γs, bin, binI, binS, ifK, ar, eqB, eqS, eqK, eqK.eqF, negB, bnds, optE, XM, Vc.cells, isV, Vc.one, Xs, getB, setB, XZ, Xp, Xi, Yf, Xl, XT, resS, tupS, ofV, Yj, Nat.reduceAdd, Nat.reduceSub, Nat.reduceLT, Nat.reduceLeDiff, reduceIte, reduceCtorEq, Nat.reduceEqDiff, implies_true, forall_const, lawV])
                cases hpf : Lib.hasPrefix (s2) [47, 47]
                · refine ⟨fun h => (by cases h), fun _ => ?_⟩
                  rw [hs2, authPath_no hpf]; rfl
                · refine ⟨fun _ => ?_, fun h => (by cases h)⟩
                  rw [hs2, authPath_two hpf]
                  have hl6 := hp_len hpf
                  simp only [List.length_cons, List.length_nil] at hl6
                  have px4 := p_r1_Index ((s2).drop 2) [47] (by rw [List.length_drop]; omega) (by simp)
                  rw [pre_one] at px4
                  have hpl := pre_le (· == 47) ((s2).drop 2)
                  rw [List.length_drop] at hpl
                  generalize pre (· == 47) ((s2).drop 2) = q at px4 hpl ⊢
                  refine ⟨by omega, ?_⟩
                  (refine callV_pc (px4) ?_; simp only [vcS, ↓Xn, ↓Xo, ↓Xg, ↓Xd, ↓Xe, ↓Xf, XQ, XG, gvU, setR, orN, Yl, Xm, Yn, Yi, Xa, Ym, Xc, Xc.sizeIs, reS, Xj, Yb, mmS, Xq, dstS, srcS, XP, XN, XO, Yc, XA, Yg, Xy, XE, endV, gdst, Yk, XR, Yd, goR, XC, sBox, XU, XH, Xr, sNil, XL, Xt, XV, Xv, goD, valD, XI, XF, XB, dNil, XK, XD, dBox, dN, Xz, opL, idxs, pv, XX, Ya, XJ, Xb, Xu, oBin, oUn, Ye, XW, Xw, Xx, Xh, Xk, XY, XS, oLen, lenS, Yh, ev, lk, Vc.put, fits, kd, sz, Tryz.VΓ, Tryz.Γs, bin, binI, binS, ifK, ar, eqB, eqS, eqK, eqK.eqF, negB, bnds, optE, XM, Vc.cells, isV, Vc.one, Xs, getB, setB, XZ, Xp, Xi, Yf, Xl, XT, resS, tupS, ofV, Yj, Nat.reduceAdd, Nat.reduceSub, Nat.reduceLT, Nat.reduceLeDiff, reduceIte, reduceCtorEq, Nat.reduceEqDiff, implies_true, forall_const, lawV])
                  rw [show (2 + (q : Int)).toNat = 2 + q by omega]
                  exact ⟨by omega, by omega, by omega, (OkD_fast (by kernel_rfl)), rfl⟩))
        · have hk2' : ¬ pre (· == 63) s1 < s1.length := by simpa using hk2
          rw [show cutC 63 s1 = (s1, [], false) from if_neg hk2']
          simp only
          have hl2 : s1.length ≤ 4294967281 := hl1
          generalize s1 = s2 at hl2 ⊢
          (
            have px3 := p_r1_Index s2 [58, 47] (by omega) (by simp)
            rw [show pre (([58, 47] : Bytes).contains ·) s2 = pre colonSlash s2 from rfl] at px3
            (refine callV_pc (px3) ?_; simp only [vcS, ↓Xn, ↓Xo, ↓Xg, ↓Xd, ↓Xe, ↓Xf, XQ, XG, gvU, setR, orN, Yl, Xm, Yn, Yi, Xa, Ym, Xc, Xc.sizeIs, reS, Xj, Yb, mmS, Xq, dstS, srcS, XP, XN, XO, Yc, XA, Yg, Xy, XE, endV, gdst, Yk, XR, Yd, goR, XC, sBox, XU, XH, Xr, sNil, XL, Xt, XV, Xv, goD, valD, XI, XF, XB, dNil, XK, XD, dBox, dN, Xz, opL, idxs, pv, XX, Ya, XJ, Xb, Xu, oBin, oUn, Ye, XW, Xw, Xx, Xh, Xk, XY, XS, oLen, lenS, Yh, ev, lk, Vc.put, fits, kd, sz, Tryz.VΓ, Tryz.Γs, bin, binI, binS, ifK, ar, eqB, eqS, eqK, eqK.eqF, negB, bnds, optE, XM, Vc.cells, isV, Vc.one, Xs, getB, setB, XZ, Xp, Xi, Yf, Xl, XT, resS, tupS, ofV, Yj, Nat.reduceAdd, Nat.reduceSub, Nat.reduceLT, Nat.reduceLeDiff, reduceIte, reduceCtorEq, Nat.reduceEqDiff, implies_true, forall_const, lawV])
            refine ⟨fun hk3 => ?_, fun hk3 => ?_⟩
            · have hp : pre colonSlash s2 < s2.length := by simpa using hk3
              rw [byte_is (n := 58) hp 58 rfl]
              refine ⟨by omega, fun h1 => ⟨by omega, ?_⟩, fun h1 => ?_⟩
              · have hh : (s2.drop (pre colonSlash s2)).head? = some 58 := by
                  rw [List.head?_drop, List.getElem?_eq_getElem hp, beq_iff_eq.1 h1]
                (refine callV_pc (p_r6_scheme _ (by rw [List.length_take]; omega)) ?_; simp only [vcS, ↓Xn, ↓Xo, ↓Xg, ↓Xd, ↓Xe, ↓Xf, XQ, XG, gvU, setR, orN, Yl, Xm, Yn, Yi, Xa, Ym, Xc, Xc.sizeIs, reS, Xj, Yb, mmS, Xq, dstS, srcS, XP, XN, XO, Yc, XA, Yg, Xy, XE, endV, gdst, Yk, XR, Yd, goR, XC, sBox, XU, XH, Xr, sNil, XL, Xt, XV, Xv, goD, valD, XI, XF, XB, dNil, XK, XD, dBox, dN, Xz, opL, idxs, pv, XX, Ya, XJ, Xb, Xu, oBin, oUn, Ye, XW, Xw, Xx, Xh, Xk, XY, XS, oLen, lenS, Yh, ev, lk, Vc.put, fits, kd, sz, Tryz.VΓ, Tryz.Γs, bin, binI, binS, ifK, ar, eqB, eqS, eqK, eqK.eqF, negB, bnds, optE, XM, Vc.cells, isV, Vc.one, Xs, getB, setB, XZ, Xp, Xi, Yf, Xl, XT, resS, tupS, ofV, Yj, Nat.reduceAdd, Nat.reduceSub, Nat.reduceLT, Nat.reduceLeDiff, reduceIte, reduceCtorEq, Nat.reduceEqDiff, implies_true, forall_const, lawV])
                refine ⟨fun h2 => ?_, fun h2 => ?_⟩
                · have hs2 : ∀ (f q : Bytes) (hf hq : Bool), splitRest s2 f q hf hq = (Uri.none, 6) := fun f q hf hq => by
                    unfold splitRest
                    rw [if_pos hh, if_neg (by rw [not_t h2]; simp)]
                  rw [hs2]; rfl
                · have hs2 : ∀ (f q : Bytes) (hf hq : Bool), splitRest s2 f q hf hq = (⟨s2.take (pre colonSlash s2), (authPath (s2.drop (pre colonSlash s2 + 1))).1, (authPath (s2.drop (pre colonSlash s2 + 1))).2.2, q, f, true, (authPath (s2.drop (pre colonSlash s2 + 1))).2.1, hq, hf⟩, 0) := fun f q hf hq => by
                    unfold splitRest
                    rw [if_pos hh, if_pos (not_f h2)]
                  have hl5 : (s2.drop (pre colonSlash s2 + 1)).length ≤ 4294967281 := by rw [List.length_drop]; omega
                  refine ⟨by omega, by omega, by omega, (OkD_fast (by kernel_rfl)), ?_⟩
                  (
                    (refine callV_pc (p_r1_Prefix (s2.drop (pre colonSlash s2 + 1)) [47, 47]) ?_; simp only [vcS, ↓Xn, ↓Xo, ↓Xg, ↓Xd, ↓Xe, ↓Xf, XQ, XG, gvU, setR, orN, Yl, Xm, Yn, Yi, Xa, Ym, Xc, Xc.sizeIs, reS, Xj, Yb, mmS, Xq, dstS, srcS, XP, XN, XO, Yc, XA, Yg, Xy, XE, endV, gdst, Yk, XR, Yd, goR, XC, sBox, XU, XH, Xr, sNil, XL, Xt, XV, Xv, goD, valD, XI, XF, XB, dNil, XK, XD, dBox, dN, Xz, opL, idxs, pv, XX, Ya, XJ, Xb, Xu, oBin, oUn, Ye, XW, Xw, Xx, Xh, Xk, XY, XS, oLen, lenS, Yh, ev, lk, Vc.put, fits, kd, sz, Tryz.VΓ, Tryz.Γs, bin, binI, binS, ifK, ar, eqB, eqS, eqK, eqK.eqF, negB, bnds, optE, XM, Vc.cells, isV, Vc.one, Xs, getB, setB, XZ, Xp, Xi, Yf, Xl, XT, resS, tupS, ofV, Yj, Nat.reduceAdd, Nat.reduceSub, Nat.reduceLT, Nat.reduceLeDiff, reduceIte, reduceCtorEq, Nat.reduceEqDiff, implies_true, forall_const, lawV])
                    cases hpf : Lib.hasPrefix (s2.drop (pre colonSlash s2 + 1)) [47, 47]
                    · refine ⟨fun h => (by cases h), fun _ => ?_⟩
                      rw [hs2, authPath_no hpf]; rfl
                    · refine ⟨fun _ => ?_, fun h => (by cases h)⟩
                      rw [hs2, authPath_two hpf]
                      have hl6 := hp_len hpf
                      simp only [List.length_cons, List.length_nil] at hl6
                      have px4 := p_r1_Index ((s2.drop (pre colonSlash s2 + 1)).drop 2) [47] (by rw [List.length_drop]; omega) (by simp)
                      rw [pre_one] at px4
                      have hpl := pre_le (· == 47) ((s2.drop (pre colonSlash s2 + 1)).drop 2)
                      rw [List.length_drop] at hpl
                      generalize pre (· == 47) ((s2.drop (pre colonSlash s2 + 1)).drop 2) = q at px4 hpl ⊢
                      refine ⟨by omega, ?_⟩
                      (refine callV_pc (px4) ?_; simp only [vcS, ↓Xn, ↓Xo, ↓Xg, ↓Xd, ↓Xe, ↓Xf, XQ, XG, gvU, setR, orN, Yl, Xm, Yn, Yi, Xa, Ym, Xc, Xc.sizeIs, reS, Xj, Yb, mmS, Xq, dstS, srcS, XP, XN, XO, Yc, XA, Yg, Xy, XE, endV, gdst, Yk, XR, Yd, goR, XC, sBox, XU, XH, Xr, sNil, XL, Xt, XV, Xv, goD, valD, XI, XF, XB, dNil, XK, XD, dBox, dN, Xz, opL, idxs, pv, XX, Ya, XJ, Xb, Xu, oBin, oUn, Ye, XW, Xw, Xx, Xh, Xk, XY, XS, oLen, lenS, Yh, ev, lk, Vc.put, fits, kd, sz, Tryz.VΓ, Tryz.Γs, bin, binI, binS, ifK, ar, eqB, eqS, eqK, eqK.eqF, negB, bnds, optE, XM, Vc.cells, isV, Vc.one, Xs, getB, setB, XZ, Xp, Xi, Yf, Xl, XT, resS, tupS, ofV, Yj, Nat.reduceAdd, Nat.reduceSub, Nat.reduceLT, Nat.reduceLeDiff, reduceIte, reduceCtorEq, Nat.reduceEqDiff, implies_true, forall_const, lawV])
                      rw [show (2 + (q : Int)).toNat = 2 + q by omega]
                      exact ⟨by omega, by omega, by omega, (OkD_fast (by kernel_rfl)), rfl⟩)
              · have hs2 : ∀ (f q : Bytes) (hf hq : Bool), splitRest s2 f q hf hq = (⟨[], (authPath s2).1, (authPath s2).2.2, q, f, false, (authPath s2).2.1, hq, hf⟩, 0) := fun f q hf hq => by
                  unfold splitRest
                  rw [if_neg (by rw [List.head?_drop, List.getElem?_eq_getElem hp]; simpa using h1)]
                have hl5 := hl2
                (
                  (refine callV_pc (p_r1_Prefix (s2) [47, 47]) ?_; simp only [vcS, ↓Xn, ↓Xo, ↓Xg, ↓Xd, ↓Xe, ↓Xf, XQ, XG, gvU, setR, orN, Yl, Xm, Yn, Yi, Xa, Ym, Xc, Xc.sizeIs, reS, Xj, Yb, mmS, Xq, dstS, srcS, XP, XN, XO, Yc, XA, Yg, Xy, XE, endV, gdst, Yk, XR, Yd, goR, XC, sBox, XU, XH, Xr, sNil, XL, Xt, XV, Xv, goD, valD, XI, XF, XB, dNil, XK, XD, dBox, dN, Xz, opL, idxs, pv, XX, Ya, XJ, Xb, Xu, oBin, oUn, Ye, XW, Xw, Xx, Xh, Xk, XY, XS, oLen, lenS, Yh, ev, lk, Vc.put, fits, kd, sz, Tryz.VΓ, Tryz.Γs, bin, binI, binS, ifK, ar, eqB, eqS, eqK, eqK.eqF, negB, bnds, optE, XM, Vc.cells, isV, Vc.one, Xs, getB, setB, XZ, Xp, Xi, Yf, Xl, XT, resS, tupS, ofV, Yj, Nat.reduceAdd, Nat.reduceSub, Nat.reduceLT, Nat.reduceLeDiff, reduceIte, reduceCtorEq, Nat.reduceEqDiff, implies_true, forall_const, lawV])
                  cases hpf : Lib.hasPrefix (s2) [47, 47]
                  · refine ⟨fun h => (by cases h), fun _ => ?_⟩
                    rw [hs2, authPath_no hpf]; rfl
                  · refine ⟨fun _ => ?_, fun h => (by cases h)⟩
                    rw [hs2, authPath_two hpf]
                    have hl6 := hp_len hpf
                    simp only [List.length_cons, List.length_nil] at hl6
                    have px4 := p_r1_Index ((s2).drop 2) [47] (by rw [List.length_drop]; omega) (by simp)
                    rw [pre_one] at px4
                    have hpl := pre_le (· == 47) ((s2).drop 2)
                    rw [List.length_drop] at hpl
                    generalize pre (· == 47) ((s2).drop 2) = q at px4 hpl ⊢
                    refine ⟨by omega, ?_⟩
                    (refine callV_pc (px4) ?_; simp only [vcS, ↓Xn, ↓Xo, ↓Xg, ↓Xd, ↓Xe, ↓Xf, XQ, XG, gvU, setR, orN, Yl, Xm, Yn, Yi, Xa, Ym, Xc, Xc.sizeIs, reS, Xj, Yb, mmS, Xq, dstS, srcS, XP, XN, XO, Yc, XA, Yg, Xy, XE, endV, gdst, Yk, XR, Yd, goR, XC, sBox, XU, XH, Xr, sNil, XL, Xt, XV, Xv, goD, valD, XI, XF, XB, dNil, XK, XD, dBox, dN, Xz, opL, idxs, pv, XX, Ya, XJ, Xb, Xu, oBin, oUn, Ye, XW, Xw, Xx, Xh, Xk, XY, XS, oLen, lenS, Yh, ev, lk, Vc.put, fits, kd, sz, Tryz.VΓ, Tryz.Γs, bin, binI, binS, ifK, ar, eqB, eqS, eqK, eqK.eqF, negB, bnds, optE, XM, Vc.cells, isV, Vc.one, Xs, getB, setB, XZ, Xp, Xi, Yf, Xl, XT, resS, tupS, ofV, Yj, Nat.reduceAdd, Nat.reduceSub, Nat.reduceLT, Nat.reduceLeDiff, reduceIte, reduceCtorEq, Nat.reduceEqDiff, implies_true, forall_const, lawV])
                    rw [show (2 + (q : Int)).toNat = 2 + q by omega]
                    exact ⟨by omega, by omega, by omega, (OkD_fast (by kernel_rfl)), rfl⟩)
            · have hs2 : ∀ (f q : Bytes) (hf hq : Bool), splitRest s2 f q hf hq = (⟨[], (authPath s2).1, (authPath s2).2.2, q, f, false, (authPath s2).2.1, hq, hf⟩, 0) := fun f q hf hq => by
                unfold splitRest
                rw [if_neg (by rw [List.drop_of_length_le (by simp at hk3; omega)]; simp)]
              have hl5 := hl2
              (
                (refine callV_pc (p_r1_Prefix (s2) [47, 47]) ?_; simp only [vcS, ↓Xn, ↓Xo, ↓Xg, ↓Xd, ↓Xe, ↓Xf, XQ, XG, gvU, setR, orN, Yl, Xm, Yn, Yi, Xa, Ym, Xc, Xc.sizeIs, reS, Xj, Yb, mmS, Xq, dstS, srcS, XP, XN, XO, Yc, XA, Yg, Xy, XE, endV, gdst, Yk, XR, Yd, goR, XC, sBox, XU, XH, Xr, sNil, XL, Xt, XV, Xv, goD, valD, XI, XF, XB, dNil, XK, XD, dBox, dN, Xz, opL, idxs, pv, XX, Ya, XJ, Xb, Xu, oBin, oUn, Ye, XW, Xw, Xx, Xh, Xk, XY, XS, oLen, lenS, Yh, ev, lk, Vc.put, fits, kd, sz, Tryz.VΓ, Tryz.Γs, bin, binI, binS, ifK, ar, eqB, eqS, eqK, eqK.eqF, negB, bnds, optE, XM, Vc.cells, isV, Vc.one, Xs, getB, setB, XZ, Xp, Xi, Yf, Xl, XT, resS, tupS, ofV, Yj, Nat.reduceAdd, Nat.reduceSub, Nat.reduceLT, Nat.reduceLeDiff, reduceIte, reduceCtorEq, Nat.reduceEqDiff, implies_true, forall_const, lawV])
                cases hpf : Lib.hasPrefix (s2) [47, 47]
                · refine ⟨fun h => (by cases h), fun _ => ?_⟩
                  rw [hs2, authPath_no hpf]; rfl
                · refine ⟨fun _ => ?_, fun h => (by cases h)⟩
                  rw [hs2, authPath_two hpf]
                  have hl6 := hp_len hpf
                  simp only [List.length_cons, List.length_nil] at hl6
                  have px4 := p_r1_Index ((s2).drop 2) [47] (by rw [List.length_drop]; omega) (by simp)
                  rw [pre_one] at px4
                  have hpl := pre_le (· == 47) ((s2).drop 2)
                  rw [List.length_drop] at hpl
                  generalize pre (· == 47) ((s2).drop 2) = q at px4 hpl ⊢
                  refine ⟨by omega, ?_⟩
                  (refine callV_pc (px4) ?_; simp only [vcS, ↓Xn, ↓Xo, ↓Xg, ↓Xd, ↓Xe, ↓Xf, XQ, XG, gvU, setR, orN, Yl, Xm, Yn, Yi, Xa, Ym, Xc, Xc.sizeIs, reS, Xj, Yb, mmS, Xq, dstS, srcS, XP, XN, XO, Yc, XA, Yg, Xy, XE, endV, gdst, Yk, XR, Yd, goR, XC, sBox, XU, XH, Xr, sNil, XL, Xt, XV, Xv, goD, valD, XI, XF, XB, dNil, XK, XD, dBox, dN, Xz, opL, idxs, pv, XX, Ya, XJ, Xb, Xu, oBin, oUn, Ye, XW, Xw, Xx, Xh, Xk, XY, XS, oLen, lenS, Yh, ev, lk, Vc.put, fits, kd, sz, Tryz.VΓ, Tryz.Γs, bin, binI, binS, ifK, ar, eqB, eqS, eqK, eqK.eqF, negB, bnds, optE, XM, Vc.cells, isV, Vc.one, Xs, getB, setB, XZ, Xp, Xi, Yf, Xl, XT, resS, tupS, ofV, Yj, Nat.reduceAdd, Nat.reduceSub, Nat.reduceLT, Nat.reduceLeDiff, reduceIte, reduceCtorEq, Nat.reduceEqDiff, implies_true, forall_const, lawV])
                  rw [show (2 + (q : Int)).toNat = 2 + q by omega]
                  exact ⟨by omega, by omega, by omega, (OkD_fast (by kernel_rfl)), rfl⟩)))
    · have hk1' : ¬ pre (· == 35) s < s.length := by simpa using hk1
      rw [show cutC 35 s = (s, [], false) from if_neg hk1']
      simp only
      have hl1 : s.length ≤ 4294967281 := hs
      generalize s = s1 at hl1 ⊢
      (
        have px2 := p_r1_Index s1 [63] (by omega) (by simp)
        rw [pre_one] at px2
        (refine callV_pc (px2) ?_; simp only [vcS, ↓Xn, ↓Xo, ↓Xg, ↓Xd, ↓Xe, ↓Xf, XQ, XG, gvU, setR, orN, Yl, Xm, Yn, Yi, Xa, Ym, Xc, Xc.sizeIs, reS, Xj, Yb, mmS, Xq, dstS, srcS, XP, XN, XO, Yc, XA, Yg, Xy, XE, endV, gdst, Yk, XR, Yd, goR, XC, sBox, XU, XH, Xr, sNil, XL, Xt, XV, Xv, goD, valD, XI, XF, XB, dNil, XK, XD, dBox, dN, Xz, opL, idxs, pv, XX, Ya, XJ, Xb, Xu, oBin, oUn, Ye, XW, Xw, Xx, Xh, Xk, XY, XS, oLen, lenS, Yh, ev, lk, Vc.put, fits, kd, sz, Tryz.VΓ, Tryz.Γs, bin, binI, binS, ifK, ar, eqB, eqS, eqK, eqK.eqF, negB, bnds, optE, XM, Vc.cells, isV, Vc.one, Xs, getB, setB, XZ, Xp, Xi, Yf, Xl, XT, resS, tupS, ofV, Yj, Nat.reduceAdd, Nat.reduceSub, Nat.reduceLT, Nat.reduceLeDiff, reduceIte, reduceCtorEq, Nat.reduceEqDiff, implies_true, forall_const, lawV])
        refine ⟨fun hk2 => ?_, fun hk2 => ?_⟩
        · have hk2' : pre (· == 63) s1 < s1.length := by simpa using hk2
          rw [show cutC 63 s1 = (s1.take (pre (· == 63) s1), s1.drop (pre (· == 63) s1 + 1), true) from if_pos hk2']
          simp only
          have hl2 : (s1.take (pre (· == 63) s1)).length ≤ 4294967281 := by rw [List.length_take]; omega
          refine ⟨by omega, by omega, by omega, (OkD_fast (by kernel_rfl)), ?_⟩
          generalize s1.take (pre (· == 63) s1) = s2 at hl2 ⊢
          generalize s1.drop (pre (· == 63) s1 + 1) = qu
          (
            have px3 := p_r1_Index s2 [58, 47] (by omega) (by simp)
            rw [show pre (([58, 47] : Bytes).contains ·) s2 = pre colonSlash s2 from rfl] at px3
            (refine callV_pc (px3) ?_; simp only [vcS, ↓Xn, ↓Xo, ↓Xg, ↓Xd, ↓Xe, ↓Xf, XQ, XG, gvU, setR, orN, Yl, Xm, Yn, Yi, Xa, Ym, Xc, Xc.sizeIs, reS, Xj, Yb, mmS, Xq, dstS, srcS, XP, XN, XO, Yc, XA, Yg, Xy, XE, endV, gdst, Yk, XR, Yd, goR, XC, sBox, XU, XH, Xr, sNil, XL, Xt, XV, Xv, goD, valD, XI, XF, XB, dNil, XK, XD, dBox, dN, Xz, opL, idxs, pv, XX, Ya, XJ, Xb, Xu, oBin, oUn, Ye, XW, Xw, Xx, Xh, Xk, XY, XS, oLen, lenS, Yh, ev, lk, Vc.put, fits, kd, sz, Tryz.VΓ, Tryz.Γs, bin, binI, binS, ifK, ar, eqB, eqS, eqK, eqK.eqF, negB, bnds, optE, XM, Vc.cells, isV, Vc.one, Xs, getB, setB, XZ, Xp, Xi, Yf, Xl, XT, resS, tupS, ofV, Yj, Nat.reduceAdd, Nat.reduceSub, Nat.reduceLT, Nat.reduceLeDiff, reduceIte, reduceCtorEq, Nat.reduceEqDiff, implies_true, forall_const, lawV])
            refine ⟨fun hk3 => ?_, fun hk3 => ?_⟩
            · have hp : pre colonSlash s2 < s2.length := by simpa using hk3
              rw [byte_is (n := 58) hp 58 rfl]
              refine ⟨by omega, fun h1 => ⟨by omega, ?_⟩, fun h1 => ?_⟩
              · have hh : (s2.drop (pre colonSlash s2)).head? = some 58 := by
                  rw [List.head?_drop, List.getElem?_eq_getElem hp, beq_iff_eq.1 h1]
                (refine callV_pc (p_r6_scheme _ (by rw [List.length_take]; omega)) ?_; simp only [vcS, ↓Xn, ↓Xo, ↓Xg, ↓Xd, ↓Xe, ↓Xf, XQ, XG, gvU, setR, orN, Yl, Xm, Yn, Yi, Xa, Ym, Xc, Xc.sizeIs, reS, Xj, Yb, mmS, Xq, dstS, srcS, XP, XN, XO, Yc, XA, Yg, Xy, XE, endV, gdst, Yk, XR, Yd, goR, XC, sBox, XU, XH, Xr, sNil, XL, Xt, XV, Xv, goD, valD, XI, XF, XB, dNil, XK, XD, dBox, dN, Xz, opL, idxs, pv, XX, Ya, XJ, Xb, Xu, oBin, oUn, Ye, XW, Xw, Xx, Xh, Xk, XY, XS, oLen, lenS, Yh, ev, lk, Vc.put, fits, kd, sz, Tryz.VΓ, Tryz.Γs, bin, binI, binS, ifK, ar, eqB, eqS, eqK, eqK.eqF, negB, bnds, optE, XM, Vc.cells, isV, Vc.one, Xs, getB, setB, XZ, Xp, Xi, Yf, Xl, XT, resS, tupS, ofV, Yj, Nat.reduceAdd, Nat.reduceSub, Nat.reduceLT, Nat.reduceLeDiff, reduceIte, reduceCtorEq, Nat.reduceEqDiff, implies_true, forall_const, lawV])
                refine ⟨fun h2 => ?_, fun h2 => ?_⟩
                · have hs2 : ∀ (f q : Bytes) (hf hq : Bool), splitRest s2 f q hf hq = (Uri.none, 6) := fun f q hf hq => by
                    unfold splitRest
                    rw [if_pos hh, if_neg (by rw [not_t h2]; simp)]
                  rw [hs2]; rfl
                · have hs2 : ∀ (f q : Bytes) (hf hq : Bool), splitRest s2 f q hf hq = (⟨s2.take (pre colonSlash s2), (authPath (s2.drop (pre colonSlash s2 + 1))).1, (authPath (s2.drop (pre colonSlash s2 + 1))).2.2, q, f, true, (authPath (s2.drop (pre colonSlash s2 + 1))).2.1, hq, hf⟩, 0) := fun f q hf hq => by
                    unfold splitRest
                    rw [if_pos hh, if_pos (not_f h2)]
                  have hl5 : (s2.drop (pre colonSlash s2 + 1)).length ≤ 4294967281 := by rw [List.length_drop]; omega
                  refine ⟨by omega, by omega, by omega, (OkD_fast (by kernel_rfl)), ?_⟩
                  (
                    (refine callV_pc (p_r1_Prefix (s2.drop (pre colonSlash s2 + 1)) [47, 47]) ?_; simp only [vcS, ↓Xn, ↓Xo, ↓Xg, ↓Xd, ↓Xe, ↓Xf, XQ, XG, gvU, setR, orN, Yl, Xm, Yn, Yi, Xa, Ym, Xc, Xc.sizeIs, reS, Xj, Yb, mmS, Xq, dstS, srcS, XP, XN, XO, Yc, XA, Yg, Xy, XE, endV, gdst, Yk, XR, Yd, goR, XC, sBox, XU, XH, Xr, sNil, XL, Xt, XV, Xv, goD, valD, XI, XF, XB, dNil, XK, XD, dBox, dN, Xz, opL, idxs, pv, XX, Ya, XJ, Xb, Xu, oBin, oUn, Ye, XW, Xw, Xx, Xh, Xk, XY, XS, oLen, lenS, Yh, ev, lk, Vc.put, fits, kd, sz, Tryz.VΓ, Tryz.Γs, bin, binI, binS, ifK, ar, eqB, eqS, eqK, eqK.eqF, negB, bnds, optE, XM, Vc.cells, isV, Vc.one, Xs, getB, setB, XZ, Xp, Xi, Yf, Xl, XT, resS, tupS, ofV, Yj, Nat.reduceAdd, Nat.reduceSub, Nat.reduceLT, Nat.reduceLeDiff, reduceIte, reduceCtorEq, Nat.reduceEqDiff, implies_true, forall_const, lawV])
                    cases hpf : Lib.hasPrefix (s2.drop (pre colonSlash s2 + 1)) [47, 47]
                    · refine ⟨fun h => (by cases h), fun _ => ?_⟩
                      rw [hs2, authPath_no hpf]; rfl
                    · refine ⟨fun _ => ?_, fun h => (by cases h)⟩
                      rw [hs2, authPath_two hpf]
                      have hl6 := hp_len hpf
                      simp only [List.length_cons, List.length_nil] at hl6
                      have px4 := p_r1_Index ((s2.drop (pre colonSlash s2 + 1)).drop 2) [47] (by rw [List.length_drop]; omega) (by simp)
                      rw [pre_one] at px4
                      have hpl := pre_le (· == 47) ((s2.drop (pre colonSlash s2 + 1)).drop 2)
                      rw [List.length_drop] at hpl
                      generalize pre (· == 47) ((s2.drop (pre colonSlash s2 + 1)).drop 2) = q at px4 hpl ⊢
                      refine ⟨by omega, ?_⟩
                      (refine callV_pc (px4) ?_; simp only [vcS, ↓Xn, ↓Xo, ↓Xg, ↓Xd, ↓Xe, ↓Xf, XQ, XG, gvU, setR, orN, Yl, Xm, Yn, Yi, Xa, Ym, Xc, Xc.sizeIs, reS, Xj, Yb, mmS, Xq, dstS, srcS, XP, XN, XO, Yc, XA, Yg, Xy, XE, endV, gdst, Yk, XR, Yd, goR, XC, sBox, XU, XH, Xr, sNil, XL, Xt, XV, Xv, goD, valD, XI, XF, XB, dNil, XK, XD, dBox, dN, Xz, opL, idxs, pv, XX, Ya, XJ, Xb, Xu, oBin, oUn, Ye, XW, Xw, Xx, Xh, Xk, XY, XS, oLen, lenS, Yh, ev, lk, Vc.put, fits, kd, sz, Tryz.VΓ, Tryz.Γs, bin, binI, binS, ifK, ar, eqB, eqS, eqK, eqK.eqF, negB, bnds, optE, XM, Vc.cells, isV, Vc.one, Xs, getB, setB, XZ, Xp, Xi, Yf, Xl, XT, resS, tupS, ofV, Yj, Nat.reduceAdd, Nat.reduceSub, Nat.reduceLT, Nat.reduceLeDiff, reduceIte, reduceCtorEq, Nat.reduceEqDiff, implies_true, forall_const, lawV])
                      rw [show (2 + (q : Int)).toNat = 2 + q by omega]
                      exact ⟨by omega, by omega, by omega, (OkD_fast (by kernel_rfl)), rfl⟩)
              · have hs2 : ∀ (f q : Bytes) (hf hq : Bool), splitRest s2 f q hf hq = (⟨[], (authPath s2).1, (authPath s2).2.2, q, f, false, (authPath s2).2.1, hq, hf⟩, 0) := fun f q hf hq => by
                  unfold splitRest
                  rw [if_neg (by rw [List.head?_drop, List.getElem?_eq_getElem hp]; simpa using h1)]
                have hl5 := hl2
                (
                  (refine callV_pc (p_r1_Prefix (s2) [47, 47]) ?_; simp only [vcS, ↓Xn, ↓Xo, ↓Xg, ↓Xd, ↓Xe, ↓Xf, XQ, XG, gvU, setR, orN, Yl, Xm, Yn, Yi, Xa, Ym, Xc, Xc.sizeIs, reS, Xj, Yb, mmS, Xq, dstS, srcS, XP, XN, XO, Yc, XA, Yg, Xy, XE, endV, gdst, Yk, XR, Yd, goR, XC, sBox, XU, XH, Xr, sNil, XL, Xt, XV, Xv, goD, valD, XI, XF, XB, dNil, XK, XD, dBox, dN, Xz, opL, idxs, pv, XX, Ya, XJ, Xb, Xu, oBin, oUn, Ye, XW, Xw, Xx, Xh, Xk, XY, XS, oLen, lenS, Yh, ev, lk, Vc.put, fits, kd, sz, Tryz.VΓ, Tryz.Γs, bin, binI, binS, ifK, ar, eqB, eqS, eqK, eqK.eqF, negB, bnds, optE, XM, Vc.cells, isV, Vc.one, Xs, getB, setB, XZ, Xp, Xi, Yf, Xl, XT, resS, tupS, ofV, Yj, Nat.reduceAdd, Nat.reduceSub, Nat.reduceLT, Nat.reduceLeDiff, reduceIte, reduceCtorEq, Nat.reduceEqDiff, implies_true, forall_const, lawV])
                  cases hpf : Lib.hasPrefix (s2) [47, 47]
                  · refine ⟨fun h => (by cases h), fun _ => ?_⟩
                    rw [hs2, authPath_no hpf]; rfl
                  · refine ⟨fun _ => ?_, fun h => (by cases h)⟩
                    rw [hs2, authPath_two hpf]
                    have hl6 := hp_len hpf
                    simp only [List.length_cons, List.length_nil] at hl6
                    have px4 := p_r1_Index ((s2).drop 2) [47] (by rw [List.length_drop]; omega) (by simp)
                    rw [pre_one] at px4
                    have hpl := pre_le (· == 47) ((s2).drop 2)
                    rw [List.length_drop] at hpl
                    generalize pre (· == 47) ((s2).drop 2) = q at px4 hpl ⊢
                    refine ⟨by omega, ?_⟩
                    (refine callV_pc (px4) ?_; simp only [vcS, ↓Xn, ↓Xo, ↓Xg, ↓Xd, ↓Xe, ↓Xf, XQ, XG, gvU, setR, orN, Yl, Xm, Yn, Yi, Xa, Ym, Xc, Xc.sizeIs, reS, Xj, Yb, mmS, Xq, dstS, srcS, XP, XN, XO, Yc, XA, Yg, Xy, XE, endV, gdst, Yk, XR, Yd, goR, XC, sBox, XU, XH, Xr, sNil, XL, Xt, XV, Xv, goD, valD, XI, XF, XB, dNil, XK, XD, dBox, dN, Xz, opL, idxs, pv, XX, Ya, XJ, Xb, Xu, oBin, oUn, Ye, XW, Xw, Xx, Xh, Xk, XY, XS, oLen, lenS, Yh, ev, lk, Vc.put, fits, kd, sz, Tryz.VΓ, Tryz.Γs, bin, binI, binS, ifK, ar, eqB, eqS, eqK, eqK.eqF, negB, bnds, optE, XM, Vc.cells, isV, Vc.one, Xs, getB, setB, XZ, Xp, Xi, Yf, Xl, XT, resS, tupS, ofV, Yj, Nat.reduceAdd, Nat.reduceSub, Nat.reduceLT, Nat.reduceLeDiff, reduceIte, reduceCtorEq, Nat.reduceEqDiff, implies_true, forall_const, lawV])
                    rw [show (2 + (q : Int)).toNat = 2 + q by omega]
                    exact ⟨by omega, by omega, by omega, (OkD_fast (by kernel_rfl)), rfl⟩)
            · have hs2 : ∀ (f q : Bytes) (hf hq : Bool), splitRest s2 f q hf hq = (⟨[], (authPath s2).1, (authPath s2).2.2, q, f, false, (authPath s2).2.1, hq, hf⟩, 0) := fun f q hf hq => by
                unfold splitRest
                rw [if_neg (by rw [List.drop_of_length_le (by simp at hk3; omega)]; simp)]
              have hl5 := hl2
              (
                (refine callV_pc (p_r1_Prefix (s2) [47, 47]) ?_; simp only [vcS, ↓Xn, ↓Xo, ↓Xg, ↓Xd, ↓Xe, ↓Xf, XQ, XG, gvU, setR, orN, Yl, Xm, Yn, Yi, Xa, Ym, Xc, Xc.sizeIs, reS, Xj, Yb, mmS, Xq, dstS, srcS, XP, XN, XO, Yc, XA, Yg, Xy, XE, endV, gdst, Yk, XR, Yd, goR, XC, sBox, XU, XH, Xr, sNil, XL, Xt, XV, Xv, goD, valD, XI, XF, XB, dNil, XK, XD, dBox, dN, Xz, opL, idxs, pv, XX, Ya, XJ, Xb, Xu, oBin, oUn, Ye, XW, Xw, Xx, Xh, Xk, XY, XS, oLen, lenS, Yh, ev, lk, Vc.put, fits, kd, sz, Tryz.VΓ, Tryz.Γs, bin, binI, binS, ifK, ar, eqB, eqS, eqK, eqK.eqF, negB, bnds, optE, XM, Vc.cells, isV, Vc.one, Xs, getB, setB, XZ, Xp, Xi, Yf, Xl, XT, resS, tupS, ofV, Yj, Nat.reduceAdd, Nat.reduceSub, Nat.reduceLT, Nat.reduceLeDiff, reduceIte, reduceCtorEq, Nat.reduceEqDiff, implies_true, forall_const, lawV])
                cases hpf : Lib.hasPrefix (s2) [47, 47]
                · refine ⟨fun h => (by cases h), fun _ => ?_⟩
                  rw [hs2, authPath_no hpf]; rfl
                · refine ⟨fun _ => ?_, fun h => (by cases h)⟩
                  rw [hs2, authPath_two hpf]
                  have hl6 := hp_len hpf
                  simp only [List.length_cons, List.length_nil] at hl6
                  have px4 := p_r1_Index ((s2).drop 2) [47] (by rw [List.length_drop]; omega) (by simp)
                  rw [pre_one] at px4
                  have hpl := pre_le (· == 47) ((s2).drop 2)
                  rw [List.length_drop] at hpl
                  generalize pre (· == 47) ((s2).drop 2) = q at px4 hpl ⊢
                  refine ⟨by omega, ?_⟩
                  (refine callV_pc (px4) ?_; simp only [vcS, ↓Xn, ↓Xo, ↓Xg, ↓Xd, ↓Xe, ↓Xf, XQ, XG, gvU, setR, orN, Yl, Xm, Yn, Yi, Xa, Ym, Xc, Xc.sizeIs, reS, Xj, Yb, mmS, Xq, dstS, srcS, XP, XN, XO, Yc, XA, Yg, Xy, XE, endV, gdst, Yk, XR, Yd, goR, XC, sBox, XU, XH, Xr, sNil, XL, Xt, XV, Xv, goD, valD, XI, XF, XB, dNil, XK, XD, dBox, dN, Xz, opL, idxs, pv, XX, Ya, XJ, Xb, Xu, oBin, oUn, Ye, XW, Xw, Xx, Xh, Xk, XY, XS, oLen, lenS, Yh, ev, lk, Vc.put, fits, kd, sz, Tryz.VΓ, Tryz.Γs, bin, binI, binS, ifK, ar, eqB, eqS, eqK, eqK.eqF, negB, bnds, optE, XM, Vc.cells, isV, Vc.one, Xs, getB, setB, XZ, Xp, Xi, Yf, Xl, XT, resS, tupS, ofV, Yj, Nat.reduceAdd, Nat.reduceSub, Nat.reduceLT, Nat.reduceLeDiff, reduceIte, reduceCtorEq, Nat.reduceEqDiff, implies_true, forall_const, lawV])
                  rw [show (2 + (q : Int)).toNat = 2 + q by omega]
                  exact ⟨by omega, by omega, by omega, (OkD_fast (by kernel_rfl)), rfl⟩))
        · have hk2' : ¬ pre (· == 63) s1 < s1.length := by simpa using hk2
          rw [show cutC 63 s1 = (s1, [], false) from if_neg hk2']
          simp only
          have hl2 : s1.length ≤ 4294967281 := hl1
          generalize s1 = s2 at hl2 ⊢
          (
            have px3 := p_r1_Index s2 [58, 47] (by omega) (by simp)
            rw [show pre (([58, 47] : Bytes).contains ·) s2 = pre colonSlash s2 from rfl] at px3
            (refine callV_pc (px3) ?_; simp only [vcS, ↓Xn, ↓Xo, ↓Xg, ↓Xd, ↓Xe, ↓Xf, XQ, XG, gvU, setR, orN, Yl, Xm, Yn, Yi, Xa, Ym, Xc, Xc.sizeIs, reS, Xj, Yb, mmS, Xq, dstS, srcS, XP, XN, XO, Yc, XA, Yg, Xy, XE, endV, gdst, Yk, XR, Yd, goR, XC, sBox, XU, XH, Xr, sNil, XL, Xt, XV, Xv, goD, valD, XI, XF, XB, dNil, XK, XD, dBox, dN, Xz, opL, idxs, pv, XX, Ya, XJ, Xb, Xu, oBin, oUn, Ye, XW, Xw, Xx, Xh, Xk, XY, XS, oLen, lenS, Yh, ev, lk, Vc.put, fits, kd, sz, Tryz.VΓ, Tryz.Γs, bin, binI, binS, ifK, ar, eqB, eqS, eqK, eqK.eqF, negB, bnds, optE, XM, Vc.cells, isV, Vc.one, Xs, getB, setB, XZ, Xp, Xi, Yf, Xl, XT, resS, tupS, ofV, Yj, Nat.reduceAdd, Nat.reduceSub, Nat.reduceLT, Nat.reduceLeDiff, reduceIte, reduceCtorEq, Nat.reduceEqDiff, implies_true, forall_const, lawV])
            refine ⟨fun hk3 => ?_, fun hk3 => ?_⟩
            · have hp : pre colonSlash s2 < s2.length := by simpa using hk3
              rw [byte_is (n := 58) hp 58 rfl]
              refine ⟨by omega, fun h1 => ⟨by omega, ?_⟩, fun h1 => ?_⟩
              · have hh : (s2.drop (pre colonSlash s2)).head? = some 58 := by
                  rw [List.head?_drop, List.getElem?_eq_getElem hp, beq_iff_eq.1 h1]
                (refine callV_pc (p_r6_scheme _ (by rw [List.length_take]; omega)) ?_; simp only [vcS, ↓Xn, ↓Xo, ↓Xg, ↓Xd, ↓Xe, ↓Xf, XQ, XG, gvU, setR, orN, Yl, Xm, Yn, Yi, Xa, Ym, Xc, Xc.sizeIs, reS, Xj, Yb, mmS, Xq, dstS, srcS, XP, XN, XO, Yc, XA, Yg, Xy, XE, endV, gdst, Yk, XR, Yd, goR, XC, sBox, XU, XH, Xr, sNil, XL, Xt, XV, Xv, goD, valD, XI, XF, XB, dNil, XK, XD, dBox, dN, Xz, opL, idxs, pv, XX, Ya, XJ, Xb, Xu, oBin, oUn, Ye, XW, Xw, Xx, Xh, Xk, XY, XS, oLen, lenS, Yh, ev, lk, Vc.put, fits, kd, sz, Tryz.VΓ, Tryz.Γs, bin, binI, binS, ifK, ar, eqB, eqS, eqK, eqK.eqF, negB, bnds, optE, XM, Vc.cells, isV, Vc.one, Xs, getB, setB, XZ, Xp, Xi, Yf, Xl, XT, resS, tupS, ofV, Yj, Nat.reduceAdd, Nat.reduceSub, Nat.reduceLT, Nat.reduceLeDiff, reduceIte, reduceCtorEq, Nat.reduceEqDiff, implies_true, forall_const, lawV])
                refine ⟨fun h2 => ?_, fun h2 => ?_⟩
                · have hs2 : ∀ (f q : Bytes) (hf hq : Bool), splitRest s2 f q hf hq = (Uri.none, 6) := fun f q hf hq => by
                    unfold splitRest
                    rw [if_pos hh, if_neg (by rw [not_t h2]; simp)]
                  rw [hs2]; rfl
                · have hs2 : ∀ (f q : Bytes) (hf hq : Bool), splitRest s2 f q hf hq = (⟨s2.take (pre colonSlash s2), (authPath (s2.drop (pre colonSlash s2 + 1))).1, (authPath (s2.drop (pre colonSlash s2 + 1))).2.2, q, f, true, (authPath (s2.drop (pre colonSlash s2 + 1))).2.1, hq, hf⟩, 0) := fun f q hf hq => by
                    unfold splitRest
                    rw [if_pos hh, if_pos (not_f h2)]
                  have hl5 : (s2.drop (pre colonSlash s2 + 1)).length ≤ 4294967281 := by rw [List.length_drop]; omega
                  refine ⟨by omega, by omega, by omega, (OkD_fast (by kernel_rfl)), ?_⟩
                  (
                    (refine callV_pc (p_r1_Prefix (s2.drop (pre colonSlash s2 + 1)) [47, 47]) ?_; simp only [vcS, ↓Xn, ↓Xo, ↓Xg, ↓Xd, ↓Xe, ↓Xf, XQ, XG, gvU, setR, orN, Yl, Xm, Yn, Yi, Xa, Ym, Xc, Xc.sizeIs, reS, Xj, Yb, mmS, Xq, dstS, srcS, XP, XN, XO, Yc, XA, Yg, Xy, XE, endV, gdst, Yk, XR, Yd, goR, XC, sBox, XU, XH, Xr, sNil, XL, Xt, XV, Xv, goD, valD, XI, XF, XB, dNil, XK, XD, dBox, dN, Xz, opL, idxs, pv, XX, Ya, XJ, Xb, Xu, oBin, oUn, Ye, XW, Xw, Xx, Xh, Xk, XY, XS, oLen, lenS, Yh, ev, lk, Vc.put, fits, kd, sz, Tryz.VΓ, Tryz.Γs, bin, binI, binS, ifK, ar, eqB, eqS, eqK, eqK.eqF, negB, bnds, optE, XM, Vc.cells, isV, Vc.one, Xs, getB, setB, XZ, Xp, Xi, Yf, Xl, XT, resS, tupS, ofV, Yj, Nat.reduceAdd, Nat.reduceSub, Nat.reduceLT, Nat.reduceLeDiff, reduceIte, reduceCtorEq, Nat.reduceEqDiff, implies_true, forall_const, lawV])
                    cases hpf : Lib.hasPrefix (s2.drop (pre colonSlash s2 + 1)) [47, 47]
                    · refine ⟨fun h => (by cases h), fun _ => ?_⟩
                      rw [hs2, authPath_no hpf]; rfl
                    · refine ⟨fun _ => ?_, fun h => (by cases h)⟩
                      rw [hs2, authPath_two hpf]
                      have hl6 := hp_len hpf
                      simp only [List.length_cons, List.length_nil] at hl6
                      have px4 := p_r1_Index ((s2.drop (pre colonSlash s2 + 1)).drop 2) [47] (by rw [List.length_drop]; omega) (by simp)
                      rw [pre_one] at px4
                      have hpl := pre_le (· == 47) ((s2.drop (pre colonSlash s2 + 1)).drop 2)
                      rw [List.length_drop] at hpl
                      generalize pre (· == 47) ((s2.drop (pre colonSlash s2 + 1)).drop 2) = q at px4 hpl ⊢
                      refine ⟨by omega, ?_⟩
                      (refine callV_pc (px4) ?_; simp only [vcS, ↓Xn, ↓Xo, ↓Xg, ↓Xd, ↓Xe, ↓Xf, XQ, XG, gvU, setR, orN, Yl, Xm, Yn, Yi, Xa, Ym, Xc, Xc.sizeIs, reS, Xj, Yb, mmS, Xq, dstS, srcS, XP, XN, XO, Yc, XA, Yg, Xy, XE, endV, gdst, Yk, XR, Yd, goR, XC, sBox, XU, XH, Xr, sNil, XL, Xt, XV, Xv, goD, valD, XI, XF, XB, dNil, XK, XD, dBox, dN, Xz, opL, idxs, pv, XX, Ya, XJ, Xb, Xu, oBin, oUn, Ye, XW, Xw, Xx, Xh, Xk, XY, XS, oLen, lenS, Yh, ev, lk, Vc.put, fits, kd, sz, Tryz.VΓ, Tryz.Γs, bin, binI, binS, ifK, ar, eqB, eqS, eqK, eqK.eqF, negB, bnds, optE, XM, Vc.cells, isV, Vc.one, Xs, getB, setB, XZ, Xp, Xi, Yf, Xl, XT, resS, tupS, ofV, Yj, Nat.reduceAdd, Nat.reduceSub, Nat.reduceLT, Nat.reduceLeDiff, reduceIte, reduceCtorEq, Nat.reduceEqDiff, implies_true, forall_const, lawV])
                      rw [show (2 + (q : Int)).toNat = 2 + q by omega]
                      exact ⟨by omega, by omega, by omega, (OkD_fast (by kernel_rfl)), rfl⟩)
              · have hs2 : ∀ (f q : Bytes) (hf hq : Bool), splitRest s2 f q hf hq = (⟨[], (authPath s2).1, (authPath s2).2.2, q, f, false, (authPath s2).2.1, hq, hf⟩, 0) := fun f q hf hq => by
                  unfold splitRest
                  rw [if_neg (by rw [List.head?_drop, List.getElem?_eq_getElem hp]; simpa using h1)]
                have hl5 := hl2
                (
                  (refine callV_pc (p_r1_Prefix (s2) [47, 47]) ?_; simp only [vcS, ↓Xn, ↓Xo, ↓Xg, ↓Xd, ↓Xe, ↓Xf, XQ, XG, gvU, setR, orN, Yl, Xm, Yn, Yi, Xa, Ym, Xc, Xc.sizeIs, reS, Xj, Yb, mmS, Xq, dstS, srcS, XP, XN, XO, Yc, XA, Yg, Xy, XE, endV, gdst, Yk, XR, Yd, goR, XC, sBox, XU, XH, Xr, sNil, XL, Xt, XV, Xv, goD, valD, XI, XF, XB, dNil, XK, XD, dBox, dN, Xz, opL, idxs, pv, XX, Ya, XJ, Xb, Xu, oBin, oUn, Ye, XW, Xw, Xx, Xh, Xk, XY, XS, oLen, lenS, Yh, ev, lk, Vc.put, fits, kd, sz, Tryz.VΓ, Tryz.Γs, bin, binI, binS, ifK, ar, eqB, eqS, eqK, eqK.eqF, negB, bnds, optE, XM, Vc.cells, isV, Vc.one, Xs, getB, setB, XZ, Xp, Xi, Yf, Xl, XT, resS, tupS, ofV, Yj, Nat.reduceAdd, Nat.reduceSub, Nat.reduceLT, Nat.reduceLeDiff, reduceIte, reduceCtorEq, Nat.reduceEqDiff, implies_true, forall_const, lawV])
                  cases hpf : Lib.hasPrefix (s2) [47, 47]
                  · refine ⟨fun h => (by cases h), fun _ => ?_⟩
                    rw [hs2, authPath_no hpf]; rfl
                  · refine ⟨fun _ => ?_, fun h => (by cases h)⟩
                    rw [hs2, authPath_two hpf]
                    have hl6 := hp_len hpf
                    simp only [List.length_cons, List.length_nil] at hl6
                    have px4 := p_r1_Index ((s2).drop 2) [47] (by rw [List.length_drop]; omega) (by simp)
                    rw [pre_one] at px4
                    have hpl := pre_le (· == 47) ((s2).drop 2)
                    rw [List.length_drop] at hpl
                    generalize pre (· == 47) ((s2).drop 2) = q at px4 hpl ⊢
                    refine ⟨by omega, ?_⟩
                    (refine callV_pc (px4) ?_; simp only [vcS, ↓Xn, ↓Xo, ↓Xg, ↓Xd, ↓Xe, ↓Xf, XQ, XG, gvU, setR, orN, Yl, Xm, Yn, Yi, Xa, Ym, Xc, Xc.sizeIs, reS, Xj, Yb, mmS, Xq, dstS, srcS, XP, XN, XO, Yc, XA, Yg, Xy, XE, endV, gdst, Yk, XR, Yd, goR, XC, sBox, XU, XH, Xr, sNil, XL, Xt, XV, Xv, goD, valD, XI, XF, XB, dNil, XK, XD, dBox, dN, Xz, opL, idxs, pv, XX, Ya, XJ, Xb, Xu, oBin, oUn, Ye, XW, Xw, Xx, Xh, Xk, XY, XS, oLen, lenS, Yh, ev, lk, Vc.put, fits, kd, sz, Tryz.VΓ, Tryz.Γs, bin, binI, binS, ifK, ar, eqB, eqS, eqK, eqK.eqF, negB, bnds, optE, XM, Vc.cells, isV, Vc.one, Xs, getB, setB, XZ, Xp, Xi, Yf, Xl, XT, resS, tupS, ofV, Yj, Nat.reduceAdd, Nat.reduceSub, Nat.reduceLT, Nat.reduceLeDiff, reduceIte, reduceCtorEq, Nat.reduceEqDiff, implies_true, forall_const, lawV])
                    rw [show (2 + (q : Int)).toNat = 2 + q by omega]
                    exact ⟨by omega, by omega, by omega, (OkD_fast (by kernel_rfl)), rfl⟩)
            · have hs2 : ∀ (f q : Bytes) (hf hq : Bool), splitRest s2 f q hf hq = (⟨[], (authPath s2).1, (authPath s2).2.2, q, f, false, (authPath s2).2.1, hq, hf⟩, 0) := fun f q hf hq => by
                unfold splitRest
                rw [if_neg (by rw [List.drop_of_length_le (by simp at hk3; omega)]; simp)]
              have hl5 := hl2
              (
                (refine callV_pc (p_r1_Prefix (s2) [47, 47]) ?_; simp only [vcS, ↓Xn, ↓Xo, ↓Xg, ↓Xd, ↓Xe, ↓Xf, XQ, XG, gvU, setR, orN, Yl, Xm, Yn, Yi, Xa, Ym, Xc, Xc.sizeIs, reS, Xj, Yb, mmS, Xq, dstS, srcS, XP, XN, XO, Yc, XA, Yg, Xy, XE, endV, gdst, Yk, XR, Yd, goR, XC, sBox, XU, XH, Xr, sNil, XL, Xt, XV, Xv, goD, valD, XI, XF, XB, dNil, XK, XD, dBox, dN, Xz, opL, idxs, pv, XX, Ya, XJ, Xb, Xu, oBin, oUn, Ye, XW, Xw, Xx, Xh, Xk, XY, XS, oLen, lenS, Yh, ev, lk, Vc.put, fits, kd, sz, Tryz.VΓ, Tryz.Γs, bin, binI, binS, ifK, ar, eqB, eqS, eqK, eqK.eqF, negB, bnds, optE, XM, Vc.cells, isV, Vc.one, Xs, getB, setB, XZ, Xp, Xi, Yf, Xl, XT, resS, tupS, ofV, Yj, Nat.reduceAdd, Nat.reduceSub, Nat.reduceLT, Nat.reduceLeDiff, reduceIte, reduceCtorEq, Nat.reduceEqDiff, implies_true, forall_const, lawV])
                cases hpf : Lib.hasPrefix (s2) [47, 47]
                · refine ⟨fun h => (by cases h), fun _ => ?_⟩
                  rw [hs2, authPath_no hpf]; rfl
                · refine ⟨fun _ => ?_, fun h => (by cases h)⟩
                  rw [hs2, authPath_two hpf]
                  have hl6 := hp_len hpf
                  simp only [List.length_cons, List.length_nil] at hl6
                  have px4 := p_r1_Index ((s2).drop 2) [47] (by rw [List.length_drop]; omega) (by simp)
                  rw [pre_one] at px4
                  have hpl := pre_le (· == 47) ((s2).drop 2)
                  rw [List.length_drop] at hpl
                  generalize pre (· == 47) ((s2).drop 2) = q at px4 hpl ⊢
                  refine ⟨by omega, ?_⟩
                  (refine callV_pc (px4) ?_; simp only [vcS, ↓Xn, ↓Xo, ↓Xg, ↓Xd, ↓Xe, ↓Xf, XQ, XG, gvU, setR, orN, Yl, Xm, Yn, Yi, Xa, Ym, Xc, Xc.sizeIs, reS, Xj, Yb, mmS, Xq, dstS, srcS, XP, XN, XO, Yc, XA, Yg, Xy, XE, endV, gdst, Yk, XR, Yd, goR, XC, sBox, XU, XH, Xr, sNil, XL, Xt, XV, Xv, goD, valD, XI, XF, XB, dNil, XK, XD, dBox, dN, Xz, opL, idxs, pv, XX, Ya, XJ, Xb, Xu, oBin, oUn, Ye, XW, Xw, Xx, Xh, Xk, XY, XS, oLen, lenS, Yh, ev, lk, Vc.put, fits, kd, sz, Tryz.VΓ, Tryz.Γs, bin, binI, binS, ifK, ar, eqB, eqS, eqK, eqK.eqF, negB, bnds, optE, XM, Vc.cells, isV, Vc.one, Xs, getB, setB, XZ, Xp, Xi, Yf, Xl, XT, resS, tupS, ofV, Yj, Nat.reduceAdd, Nat.reduceSub, Nat.reduceLT, Nat.reduceLeDiff, reduceIte, reduceCtorEq, Nat.reduceEqDiff, implies_true, forall_const, lawV])
                  rw [show (2 + (q : Int)).toNat = 2 + q by omega]
                  exact ⟨by omega, by omega, by omega, (OkD_fast (by kernel_rfl)), rfl⟩)))
end Go.Proofs.YtcndmooeglfilaaGreatDoor
/- The walks of mail.Parse and Format, and of the reference's. -/
set_option linter.all false
set_option maxRecDepth 20000
namespace Go.Proofs.YtcndmooeglfilaaGreatDoor
open Go Vc Go.RowKit Wf
end Go.Proofs.YtcndmooeglfilaaGreatDoor
/- The walk of the reference's Parse of mail addresses. -/
set_option linter.all false
set_option maxRecDepth 20000
namespace Go.Proofs.YtcndmooeglfilaaGreatDoor
open Go Vc Go.RowKit Wf
end Go.Proofs.YtcndmooeglfilaaGreatDoor
/- The walks of the reference for package did. -/
set_option linter.all false
set_option maxRecDepth 20000
namespace Go.Proofs.YtcndmooeglfilaaGreatDoor
open Go Vc Go.RowKit Wf
set_option linter.unusedSimpArgs false
theorem p_r10_plain (c : UInt8) : PC Tryz.V 54 [.int .u8 c.toNat] (.bool (plainD c)) := by
  refine pc_of 3000 Tryz.func54 rfl Tryz.ntmps54 Tryz.results54 Tryz.call54 (by simp) (by simp [flat, flat.flatL]) (by simp [flat, flat.flatL]) ?_
  simp only [vcS, ↓Xn, ↓Xo, ↓Xg, ↓Xd, ↓Xe, ↓Xf, XQ, XG, gvU, setR, orN, Yl, Xm, Yn, Yi, Xa, Ym, Xc, Xc.sizeIs, reS, Xj, Yb, mmS, Xq, dstS, srcS, XP, XN, XO, Yc, XA, Yg, Xy, XE, endV, gdst, Yk, XR, Yd, goR, XC, sBox, XU, XH, Xr, sNil, XL, Xt, XV, Xv, goD, valD, XI, XF, XB, dNil, XK, XD, dBox, dN, Xz, opL, idxs, pv, XX, Ya, XJ, Xb, Xu, oBin, oUn, Ye, XW, Xw, Xx, Xh, Xk, XY, XS, oLen, lenS, Yh, ev, lk, Vc.put, fits, kd, sz, Tryz.VΓ, Tryz.Γs, bin, binI, binS, ifK, ar, eqB, eqS, eqK, eqK.eqF, negB, bnds, optE, XM, Vc.cells, isV, Vc.one, Xs, getB, setB, XZ, Xp, Xi, Yf, Xl, XT, resS, tupS, ofV, Yj, Nat.reduceAdd, Nat.reduceSub, Nat.reduceLT, Nat.reduceLeDiff, reduceIte, reduceCtorEq, Nat.reduceEqDiff, implies_true, forall_const, lawV]
  (refine callV_pc (p_r1_IsAlpha c) ?_; simp only [vcS, ↓Xn, ↓Xo, ↓Xg, ↓Xd, ↓Xe, ↓Xf, XQ, XG, gvU, setR, orN, Yl, Xm, Yn, Yi, Xa, Ym, Xc, Xc.sizeIs, reS, Xj, Yb, mmS, Xq, dstS, srcS, XP, XN, XO, Yc, XA, Yg, Xy, XE, endV, gdst, Yk, XR, Yd, goR, XC, sBox, XU, XH, Xr, sNil, XL, Xt, XV, Xv, goD, valD, XI, XF, XB, dNil, XK, XD, dBox, dN, Xz, opL, idxs, pv, XX, Ya, XJ, Xb, Xu, oBin, oUn, Ye, XW, Xw, Xx, Xh, Xk, XY, XS, oLen, lenS, Yh, ev, lk, Vc.put, fits, kd, sz, Tryz.VΓ, Tryz.Γs, bin, binI, binS, ifK, ar, eqB, eqS, eqK, eqK.eqF, negB, bnds, optE, XM, Vc.cells, isV, Vc.one, Xs, getB, setB, XZ, Xp, Xi, Yf, Xl, XT, resS, tupS, ofV, Yj, Nat.reduceAdd, Nat.reduceSub, Nat.reduceLT, Nat.reduceLeDiff, reduceIte, reduceCtorEq, Nat.reduceEqDiff, implies_true, forall_const, lawV])
  unfold plainD
  refine ⟨fun h => ?_, fun h => by rw [h]; rfl⟩
  (refine callV_pc (p_r1_IsDigit c) ?_; simp only [vcS, ↓Xn, ↓Xo, ↓Xg, ↓Xd, ↓Xe, ↓Xf, XQ, XG, gvU, setR, orN, Yl, Xm, Yn, Yi, Xa, Ym, Xc, Xc.sizeIs, reS, Xj, Yb, mmS, Xq, dstS, srcS, XP, XN, XO, Yc, XA, Yg, Xy, XE, endV, gdst, Yk, XR, Yd, goR, XC, sBox, XU, XH, Xr, sNil, XL, Xt, XV, Xv, goD, valD, XI, XF, XB, dNil, XK, XD, dBox, dN, Xz, opL, idxs, pv, XX, Ya, XJ, Xb, Xu, oBin, oUn, Ye, XW, Xw, Xx, Xh, Xk, XY, XS, oLen, lenS, Yh, ev, lk, Vc.put, fits, kd, sz, Tryz.VΓ, Tryz.Γs, bin, binI, binS, ifK, ar, eqB, eqS, eqK, eqK.eqF, negB, bnds, optE, XM, Vc.cells, isV, Vc.one, Xs, getB, setB, XZ, Xp, Xi, Yf, Xl, XT, resS, tupS, ofV, Yj, Nat.reduceAdd, Nat.reduceSub, Nat.reduceLT, Nat.reduceLeDiff, reduceIte, reduceCtorEq, Nat.reduceEqDiff, implies_true, forall_const, lawV])
  rw [h]
  refine ⟨fun h2 => ?_, fun h2 => by rw [h2]; rfl⟩
  (refine callV_pc (p_r1_In c [46, 45, 95] (by decide)) ?_; simp only [vcS, ↓Xn, ↓Xo, ↓Xg, ↓Xd, ↓Xe, ↓Xf, XQ, XG, gvU, setR, orN, Yl, Xm, Yn, Yi, Xa, Ym, Xc, Xc.sizeIs, reS, Xj, Yb, mmS, Xq, dstS, srcS, XP, XN, XO, Yc, XA, Yg, Xy, XE, endV, gdst, Yk, XR, Yd, goR, XC, sBox, XU, XH, Xr, sNil, XL, Xt, XV, Xv, goD, valD, XI, XF, XB, dNil, XK, XD, dBox, dN, Xz, opL, idxs, pv, XX, Ya, XJ, Xb, Xu, oBin, oUn, Ye, XW, Xw, Xx, Xh, Xk, XY, XS, oLen, lenS, Yh, ev, lk, Vc.put, fits, kd, sz, Tryz.VΓ, Tryz.Γs, bin, binI, binS, ifK, ar, eqB, eqS, eqK, eqK.eqF, negB, bnds, optE, XM, Vc.cells, isV, Vc.one, Xs, getB, setB, XZ, Xp, Xi, Yf, Xl, XT, resS, tupS, ofV, Yj, Nat.reduceAdd, Nat.reduceSub, Nat.reduceLT, Nat.reduceLeDiff, reduceIte, reduceCtorEq, Nat.reduceEqDiff, implies_true, forall_const, lawV])
  rw [h2]; rfl
theorem didEsc_take {s : Bytes} {i : Nat} (h : i < s.length) : didEsc (s.take (i + 1)) = didEsc (s.take i) ++ didB s[i] := by
  unfold didEsc
  rw [List.take_succ_eq_append_getElem h, List.flatMap_append, List.flatMap_cons, List.flatMap_nil, List.append_nil]
theorem flatten_le {n m k : Nat} : ∀ {l : List Bytes}, l.length ≤ n → (∀ y ∈ l, y.length ≤ m) → n * m ≤ k → l.flatten.length ≤ k := by
  have : ∀ (l : List Bytes), (∀ y ∈ l, y.length ≤ m) → l.flatten.length ≤ l.length * m := by
    intro l
    induction l with
    | nil => simp
    | cons x l ih =>
      intro h
      have h1 := h x List.mem_cons_self
      have h2 := ih (fun y hy => h y (List.mem_cons_of_mem _ hy))
      rw [List.flatten_cons, List.length_append, List.length_cons, Nat.add_mul]
      omega
  intro l h1 h2 h3
  have := this l h2
  exact Nat.le_trans this (Nat.le_trans (Nat.mul_le_mul_right _ h1) h3)
theorem didEsc_len_take (s : Bytes) (i : Nat) : (didEsc (s.take i)).length ≤ 3 * s.length := by
  have := didEsc_len (s.take i)
  have : (s.take i).length ≤ s.length := by simp; omega
  omega
set_option maxHeartbeats 2000000 in
theorem p_r10_Escaped (s : Bytes) (hs : s.length ≤ 1000000) : PC Tryz.V 55 [.str s] (.str (didEsc s)) := by
  refine pc_of 3000 Tryz.func55 rfl Tryz.ntmps55 Tryz.results55 Tryz.call55 (by simp) (by simp [flat, flat.flatL]) (by simp [flat, flat.flatL]) ?_
  simp only [vcS, ↓Xn, ↓Xo, ↓Xg, ↓Xd, ↓Xe, ↓Xf, XQ, XG, gvU, setR, orN, Yl, Xm, Yn, Yi, Xa, Ym, Xc, Xc.sizeIs, reS, Xj, Yb, mmS, Xq, dstS, srcS, XP, XN, XO, Yc, XA, Yg, Xy, XE, endV, gdst, Yk, XR, Yd, goR, XC, sBox, XU, XH, Xr, sNil, XL, Xt, XV, Xv, goD, valD, XI, XF, XB, dNil, XK, XD, dBox, dN, Xz, opL, idxs, pv, XX, Ya, XJ, Xb, Xu, oBin, oUn, Ye, XW, Xw, Xx, Xh, Xk, XY, XS, oLen, lenS, Yh, ev, lk, Vc.put, fits, kd, sz, Tryz.VΓ, Tryz.Γs, bin, binI, binS, ifK, ar, eqB, eqS, eqK, eqK.eqF, negB, bnds, optE, XM, Vc.cells, isV, Vc.one, Xs, getB, setB, XZ, Xp, Xi, Yf, Xl, XT, resS, tupS, ofV, Yj, Nat.reduceAdd, Nat.reduceSub, Nat.reduceLT, Nat.reduceLeDiff, reduceIte, reduceCtorEq, Nat.reduceEqDiff, implies_true, forall_const, lawV]
  refine loopV_mk (fun σ => ∃ i : Nat, i ≤ s.length ∧ lk 0 σ.t = some (.str s) ∧ lk 3 σ.t = some (.str (didEsc (s.take i))) ∧ lk 4 σ.t = some (.int .i64 i)) (fun σ => s.length - lkI 4 σ) ⟨0, by omega, rfl, rfl, rfl⟩ ?_
  rintro ⟨t, b⟩ ⟨i, hi, h0, h3, h4⟩
  simp only at h0 h3 h4
  rw [lkI_eq h4]
  have hel := didEsc_len_take s i
  by_cases hlt : i < s.length
  · have hg : s.getD i 0 = s[i] := by simp [List.getD, hlt]
    have next : ∀ (x : Bytes) (t' : List (Nat × SV)), x = didB s[i] → lk 4 t' = some (.int .i64 ((i : Int) + 1)) →
        (∃ k : Nat, k ≤ s.length ∧ SV.str (didEsc (s.take i) ++ x) = SV.str (didEsc (s.take k)) ∧ SV.int IntKind.i64 ((i : Int) + 1) = SV.int IntKind.i64 (k : Int)) ∧ s.length - lkI 4 ⟨t', b⟩ < s.length - (i : Int).toNat := fun x t' hx k4 =>
      ⟨⟨i + 1, by omega, by rw [didEsc_take hlt, hx], rfl⟩, by rw [lkI_eq (σ := ⟨t', b⟩) k4]; omega⟩
    simp only [vcS, ↓Xn, ↓Xo, ↓Xg, ↓Xd, ↓Xe, ↓Xf, XQ, XG, gvU, setR, orN, Yl, Xm, Yn, Yi, Xa, Ym, Xc, Xc.sizeIs, reS, Xj, Yb, mmS, Xq, dstS, srcS, XP, XN, XO, Yc, XA, Yg, Xy, XE, endV, gdst, Yk, XR, Yd, goR, XC, sBox, XU, XH, Xr, sNil, XL, Xt, XV, Xv, goD, valD, XI, XF, XB, dNil, XK, XD, dBox, dN, Xz, opL, idxs, pv, XX, Ya, XJ, Xb, Xu, oBin, oUn, Ye, XW, Xw, Xx, Xh, Xk, XY, XS, oLen, lenS, Yh, ev, lk, Vc.put, fits, kd, sz, Tryz.VΓ, Tryz.Γs, bin, binI, binS, ifK, ar, eqB, eqS, eqK, eqK.eqF, negB, bnds, optE, XM, Vc.cells, isV, Vc.one, Xs, getB, setB, XZ, Xp, Xi, Yf, Xl, XT, resS, tupS, ofV, Yj, Nat.reduceAdd, Nat.reduceSub, Nat.reduceLT, Nat.reduceLeDiff, reduceIte, reduceCtorEq, Nat.reduceEqDiff, implies_true, forall_const, lawV, h0, h3, h4, hg]
    refine ⟨fun _ => ⟨⟨by omega, by omega⟩, ?_⟩, fun h => absurd h (by simp; omega)⟩
    (refine callV_pc (p_r10_plain s[i]) ?_; simp only [vcS, ↓Xn, ↓Xo, ↓Xg, ↓Xd, ↓Xe, ↓Xf, XQ, XG, gvU, setR, orN, Yl, Xm, Yn, Yi, Xa, Ym, Xc, Xc.sizeIs, reS, Xj, Yb, mmS, Xq, dstS, srcS, XP, XN, XO, Yc, XA, Yg, Xy, XE, endV, gdst, Yk, XR, Yd, goR, XC, sBox, XU, XH, Xr, sNil, XL, Xt, XV, Xv, goD, valD, XI, XF, XB, dNil, XK, XD, dBox, dN, Xz, opL, idxs, pv, XX, Ya, XJ, Xb, Xu, oBin, oUn, Ye, XW, Xw, Xx, Xh, Xk, XY, XS, oLen, lenS, Yh, ev, lk, Vc.put, fits, kd, sz, Tryz.VΓ, Tryz.Γs, bin, binI, binS, ifK, ar, eqB, eqS, eqK, eqK.eqF, negB, bnds, optE, XM, Vc.cells, isV, Vc.one, Xs, getB, setB, XZ, Xp, Xi, Yf, Xl, XT, resS, tupS, ofV, Yj, Nat.reduceAdd, Nat.reduceSub, Nat.reduceLT, Nat.reduceLeDiff, reduceIte, reduceCtorEq, Nat.reduceEqDiff, implies_true, forall_const, lawV, h0, h3, h4, hg])
    refine ⟨fun hp => ⟨by omega, ⟨by omega, by omega, by omega⟩, by rw [sub_one hlt, List.length_singleton]; omega, ⟨by omega, by omega⟩, next _ _ (by rw [sub_one hlt, show didB s[i] = [s[i]] from if_pos hp]) rfl⟩, fun hp => ⟨⟨by omega, by omega⟩, ?_⟩⟩
    (refine callV_pc (p_r3_Escape s[i]) ?_; simp only [vcS, ↓Xn, ↓Xo, ↓Xg, ↓Xd, ↓Xe, ↓Xf, XQ, XG, gvU, setR, orN, Yl, Xm, Yn, Yi, Xa, Ym, Xc, Xc.sizeIs, reS, Xj, Yb, mmS, Xq, dstS, srcS, XP, XN, XO, Yc, XA, Yg, Xy, XE, endV, gdst, Yk, XR, Yd, goR, XC, sBox, XU, XH, Xr, sNil, XL, Xt, XV, Xv, goD, valD, XI, XF, XB, dNil, XK, XD, dBox, dN, Xz, opL, idxs, pv, XX, Ya, XJ, Xb, Xu, oBin, oUn, Ye, XW, Xw, Xx, Xh, Xk, XY, XS, oLen, lenS, Yh, ev, lk, Vc.put, fits, kd, sz, Tryz.VΓ, Tryz.Γs, bin, binI, binS, ifK, ar, eqB, eqS, eqK, eqK.eqF, negB, bnds, optE, XM, Vc.cells, isV, Vc.one, Xs, getB, setB, XZ, Xp, Xi, Yf, Xl, XT, resS, tupS, ofV, Yj, Nat.reduceAdd, Nat.reduceSub, Nat.reduceLT, Nat.reduceLeDiff, reduceIte, reduceCtorEq, Nat.reduceEqDiff, implies_true, forall_const, lawV, h0, h3, h4, hg])
    exact ⟨by rw [show (esc s[i]).length = 3 from rfl]; omega, ⟨by omega, by omega⟩, next _ _ (by rw [show didB s[i] = esc s[i] from if_neg (by rw [hp]; simp)]) rfl⟩
  · have hie : i = s.length := by omega
    subst hie
    rw [List.take_length] at h3
    simp only [vcS, ↓Xn, ↓Xo, ↓Xg, ↓Xd, ↓Xe, ↓Xf, XQ, XG, gvU, setR, orN, Yl, Xm, Yn, Yi, Xa, Ym, Xc, Xc.sizeIs, reS, Xj, Yb, mmS, Xq, dstS, srcS, XP, XN, XO, Yc, XA, Yg, Xy, XE, endV, gdst, Yk, XR, Yd, goR, XC, sBox, XU, XH, Xr, sNil, XL, Xt, XV, Xv, goD, valD, XI, XF, XB, dNil, XK, XD, dBox, dN, Xz, opL, idxs, pv, XX, Ya, XJ, Xb, Xu, oBin, oUn, Ye, XW, Xw, Xx, Xh, Xk, XY, XS, oLen, lenS, Yh, ev, lk, Vc.put, fits, kd, sz, Tryz.VΓ, Tryz.Γs, bin, binI, binS, ifK, ar, eqB, eqS, eqK, eqK.eqF, negB, bnds, optE, XM, Vc.cells, isV, Vc.one, Xs, getB, setB, XZ, Xp, Xi, Yf, Xl, XT, resS, tupS, ofV, Yj, Nat.reduceAdd, Nat.reduceSub, Nat.reduceLT, Nat.reduceLeDiff, reduceIte, reduceCtorEq, Nat.reduceEqDiff, implies_true, forall_const, lawV, h0, h3, h4]
    exact fun h => absurd h (by simp)
set_option maxHeartbeats 2000000 in
theorem p_r10_method (s : Bytes) (hs : s.length ≤ 1000000) : PC Tryz.V 51 [.str s] (.bool (methodOk s)) := by
  refine pc_of 3000 Tryz.func51 rfl Tryz.ntmps51 Tryz.results51 Tryz.call51 (by simp) (by simp [flat, flat.flatL]) (by simp [flat, flat.flatL]) ?_
  simp only [vcS, ↓Xn, ↓Xo, ↓Xg, ↓Xd, ↓Xe, ↓Xf, XQ, XG, gvU, setR, orN, Yl, Xm, Yn, Yi, Xa, Ym, Xc, Xc.sizeIs, reS, Xj, Yb, mmS, Xq, dstS, srcS, XP, XN, XO, Yc, XA, Yg, Xy, XE, endV, gdst, Yk, XR, Yd, goR, XC, sBox, XU, XH, Xr, sNil, XL, Xt, XV, Xv, goD, valD, XI, XF, XB, dNil, XK, XD, dBox, dN, Xz, opL, idxs, pv, XX, Ya, XJ, Xb, Xu, oBin, oUn, Ye, XW, Xw, Xx, Xh, Xk, XY, XS, oLen, lenS, Yh, ev, lk, Vc.put, fits, kd, sz, Tryz.VΓ, Tryz.Γs, bin, binI, binS, ifK, ar, eqB, eqS, eqK, eqK.eqF, negB, bnds, optE, XM, Vc.cells, isV, Vc.one, Xs, getB, setB, XZ, Xp, Xi, Yf, Xl, XT, resS, tupS, ofV, Yj, Nat.reduceAdd, Nat.reduceSub, Nat.reduceLT, Nat.reduceLeDiff, reduceIte, reduceCtorEq, Nat.reduceEqDiff, implies_true, forall_const, lawV]
  refine loopV_mk (fun σ => ∃ i : Nat, i ≤ s.length ∧ lk 0 σ.t = some (.str s) ∧ lk 3 σ.t = some (.int .i64 i) ∧ (s.take i).all methodC = true) (fun σ => s.length - lkI 3 σ) ⟨0, by omega, rfl, rfl, rfl⟩ ?_
  rintro ⟨t, b⟩ ⟨i, hi, h0, h3, hok⟩
  simp only at h0 h3
  rw [lkI_eq h3]
  by_cases hlt : i < s.length
  · have hg : s.getD i 0 = s[i] := by simp [List.getD, hlt]
    have hbad : methodC s[i] = false → methodOk s = false := fun h => by
      unfold methodOk
      rw [all_not hlt h, Bool.and_false]
    simp only [vcS, ↓Xn, ↓Xo, ↓Xg, ↓Xd, ↓Xe, ↓Xf, XQ, XG, gvU, setR, orN, Yl, Xm, Yn, Yi, Xa, Ym, Xc, Xc.sizeIs, reS, Xj, Yb, mmS, Xq, dstS, srcS, XP, XN, XO, Yc, XA, Yg, Xy, XE, endV, gdst, Yk, XR, Yd, goR, XC, sBox, XU, XH, Xr, sNil, XL, Xt, XV, Xv, goD, valD, XI, XF, XB, dNil, XK, XD, dBox, dN, Xz, opL, idxs, pv, XX, Ya, XJ, Xb, Xu, oBin, oUn, Ye, XW, Xw, Xx, Xh, Xk, XY, XS, oLen, lenS, Yh, ev, lk, Vc.put, fits, kd, sz, Tryz.VΓ, Tryz.Γs, bin, binI, binS, ifK, ar, eqB, eqS, eqK, eqK.eqF, negB, bnds, optE, XM, Vc.cells, isV, Vc.one, Xs, getB, setB, XZ, Xp, Xi, Yf, Xl, XT, resS, tupS, ofV, Yj, Nat.reduceAdd, Nat.reduceSub, Nat.reduceLT, Nat.reduceLeDiff, reduceIte, reduceCtorEq, Nat.reduceEqDiff, implies_true, forall_const, lawV, h0, h3, hg]
    refine ⟨fun _ => ⟨⟨by omega, by omega⟩, ?_⟩, fun h => absurd h (by simp; omega)⟩
    (refine callV_pc (p_r1_IsDigit s[i]) ?_; simp only [vcS, ↓Xn, ↓Xo, ↓Xg, ↓Xd, ↓Xe, ↓Xf, XQ, XG, gvU, setR, orN, Yl, Xm, Yn, Yi, Xa, Ym, Xc, Xc.sizeIs, reS, Xj, Yb, mmS, Xq, dstS, srcS, XP, XN, XO, Yc, XA, Yg, Xy, XE, endV, gdst, Yk, XR, Yd, goR, XC, sBox, XU, XH, Xr, sNil, XL, Xt, XV, Xv, goD, valD, XI, XF, XB, dNil, XK, XD, dBox, dN, Xz, opL, idxs, pv, XX, Ya, XJ, Xb, Xu, oBin, oUn, Ye, XW, Xw, Xx, Xh, Xk, XY, XS, oLen, lenS, Yh, ev, lk, Vc.put, fits, kd, sz, Tryz.VΓ, Tryz.Γs, bin, binI, binS, ifK, ar, eqB, eqS, eqK, eqK.eqF, negB, bnds, optE, XM, Vc.cells, isV, Vc.one, Xs, getB, setB, XZ, Xp, Xi, Yf, Xl, XT, resS, tupS, ofV, Yj, Nat.reduceAdd, Nat.reduceSub, Nat.reduceLT, Nat.reduceLeDiff, reduceIte, reduceCtorEq, Nat.reduceEqDiff, implies_true, forall_const, lawV, h0, h3, hg])
    have fin : methodC s[i] = true → ∀ (t' : List (Nat × SV)), lk 3 t' = some (.int .i64 ((i : Int) + 1)) → (∃ k : Nat, k ≤ s.length ∧ SV.int IntKind.i64 ((i : Int) + 1) = SV.int IntKind.i64 (k : Int) ∧ (s.take k).all methodC = true) ∧ s.length - lkI 3 ⟨t', b⟩ < s.length - (i : Int).toNat := fun hm t' k6 =>
      ⟨⟨i + 1, by omega, rfl, all_take_snoc hlt hok hm⟩, by rw [lkI_eq (σ := ⟨t', b⟩) k6]; omega⟩
    cases hd : isDigit s[i]
    · refine ⟨fun _ => ⟨⟨by omega, by omega⟩, fun h1 => ⟨⟨by omega, by omega⟩, fun h2 => ?_, fun h2 => ⟨⟨by omega, by omega⟩, fin ?_ _ rfl⟩⟩, fun h1 => ?_⟩, fun h => (by cases h)⟩
      · rw [hbad (by rw [methodC_is _ hd]; simp at h1 h2 ⊢; omega)]
      · rw [methodC_is _ hd]; simp at h1 h2 ⊢; omega
      · rw [hbad (by rw [methodC_is _ hd]; simp at h1 ⊢; omega)]
    · exact ⟨fun h => (by cases h), fun _ => ⟨⟨by omega, by omega⟩, fin (by unfold methodC; rw [hd]; rfl) _ rfl⟩⟩
  · have hie : i = s.length := by omega
    subst hie
    rw [List.take_length] at hok
    simp only [vcS, ↓Xn, ↓Xo, ↓Xg, ↓Xd, ↓Xe, ↓Xf, XQ, XG, gvU, setR, orN, Yl, Xm, Yn, Yi, Xa, Ym, Xc, Xc.sizeIs, reS, Xj, Yb, mmS, Xq, dstS, srcS, XP, XN, XO, Yc, XA, Yg, Xy, XE, endV, gdst, Yk, XR, Yd, goR, XC, sBox, XU, XH, Xr, sNil, XL, Xt, XV, Xv, goD, valD, XI, XF, XB, dNil, XK, XD, dBox, dN, Xz, opL, idxs, pv, XX, Ya, XJ, Xb, Xu, oBin, oUn, Ye, XW, Xw, Xx, Xh, Xk, XY, XS, oLen, lenS, Yh, ev, lk, Vc.put, fits, kd, sz, Tryz.VΓ, Tryz.Γs, bin, binI, binS, ifK, ar, eqB, eqS, eqK, eqK.eqF, negB, bnds, optE, XM, Vc.cells, isV, Vc.one, Xs, getB, setB, XZ, Xp, Xi, Yf, Xl, XT, resS, tupS, ofV, Yj, Nat.reduceAdd, Nat.reduceSub, Nat.reduceLT, Nat.reduceLeDiff, reduceIte, reduceCtorEq, Nat.reduceEqDiff, implies_true, forall_const, lawV, h0, h3]
    refine ⟨fun h => absurd h (by simp), fun _ => ?_⟩
    unfold methodOk
    rw [hok, Bool.and_true]
    cases s <;> rfl
set_option maxRecDepth 20000 in
set_option maxHeartbeats 4000000 in
theorem p_r10_ParseDID (s : Bytes) : PC Tryz.V 15 [.str s] (.tup [dsv (didParse s).1, .int .i64 (didParse s).2]) := by
  refine pc_of 3000 Tryz.func15 rfl Tryz.ntmps15 Tryz.results15 Tryz.call15 (by simp) (by simp [flat, flat.flatL, dsv, dusv]) (by simp [flat, flat.flatL, dsv, dusv]) ?_
  simp only [vcS, ↓Xn, ↓Xo, ↓Xg, ↓Xd, ↓Xe, ↓Xf, XQ, XG, gvU, setR, orN, Yl, Xm, Yn, Yi, Xa, Ym, Xc, Xc.sizeIs, reS, Xj, Yb, mmS, Xq, dstS, srcS, XP, XN, XO, Yc, XA, Yg, Xy, XE, endV, gdst, Yk, XR, Yd, goR, XC, sBox, XU, XH, Xr, sNil, XL, Xt, XV, Xv, goD, valD, XI, XF, XB, dNil, XK, XD, dBox, dN, Xz, opL, idxs, pv, XX, Ya, XJ, Xb, Xu, oBin, oUn, Ye, XW, Xw, Xx, Xh, Xk, XY, XS, oLen, lenS, Yh, ev, lk, Vc.put, fits, kd, sz, Tryz.VΓ, Tryz.Γs, bin, binI, binS, ifK, ar, eqB, eqS, eqK, eqK.eqF, negB, bnds, optE, XM, Vc.cells, isV, Vc.one, Xs, getB, setB, XZ, Xp, Xi, Yf, Xl, XT, resS, tupS, ofV, Yj, Nat.reduceAdd, Nat.reduceSub, Nat.reduceLT, Nat.reduceLeDiff, reduceIte, reduceCtorEq, Nat.reduceEqDiff, implies_true, forall_const, lawV]
  unfold didParse
  refine ⟨fun h => ?_, fun h => ?_⟩
  · have h : 4096 < s.length := (by simp at h; omega)
    rw [if_pos h]; rfl
  have h : ¬ 4096 < s.length := (by simp at h; omega)
  rw [if_neg h]
  have pp := p_r1_Prefix s didS
  rw [show Lib.hasPrefix s didS = didS.isPrefixOf s from rfl] at pp
  (refine callV_pc pp ?_; simp only [vcS, ↓Xn, ↓Xo, ↓Xg, ↓Xd, ↓Xe, ↓Xf, XQ, XG, gvU, setR, orN, Yl, Xm, Yn, Yi, Xa, Ym, Xc, Xc.sizeIs, reS, Xj, Yb, mmS, Xq, dstS, srcS, XP, XN, XO, Yc, XA, Yg, Xy, XE, endV, gdst, Yk, XR, Yd, goR, XC, sBox, XU, XH, Xr, sNil, XL, Xt, XV, Xv, goD, valD, XI, XF, XB, dNil, XK, XD, dBox, dN, Xz, opL, idxs, pv, XX, Ya, XJ, Xb, Xu, oBin, oUn, Ye, XW, Xw, Xx, Xh, Xk, XY, XS, oLen, lenS, Yh, ev, lk, Vc.put, fits, kd, sz, Tryz.VΓ, Tryz.Γs, bin, binI, binS, ifK, ar, eqB, eqS, eqK, eqK.eqF, negB, bnds, optE, XM, Vc.cells, isV, Vc.one, Xs, getB, setB, XZ, Xp, Xi, Yf, Xl, XT, resS, tupS, ofV, Yj, Nat.reduceAdd, Nat.reduceSub, Nat.reduceLT, Nat.reduceLeDiff, reduceIte, reduceCtorEq, Nat.reduceEqDiff, implies_true, forall_const, lawV])
  refine ⟨fun h2 => (by rw [if_pos (by simpa using h2)]; rfl), fun h2 => ?_⟩
  have h2 : didS.isPrefixOf s = true := by simpa using h2
  rw [if_neg (by rw [h2]; simp), show Int.toNat 4 = 4 from rfl]
  have hS : (s.drop 4).length ≤ 4096 := by simp; omega
  refine ⟨⟨by omega, ?_⟩, ?_⟩
  · have := (List.isPrefixOf_iff_prefix.1 h2).length_le
    rw [show didS.length = 4 from rfl] at this
    omega
  generalize s.drop 4 = S at hS ⊢
  have pi := p_r1_Index S [58] (by omega) (by decide)
  rw [pre_one] at pi
  (refine callV_pc pi ?_; simp only [vcS, ↓Xn, ↓Xo, ↓Xg, ↓Xd, ↓Xe, ↓Xf, XQ, XG, gvU, setR, orN, Yl, Xm, Yn, Yi, Xa, Ym, Xc, Xc.sizeIs, reS, Xj, Yb, mmS, Xq, dstS, srcS, XP, XN, XO, Yc, XA, Yg, Xy, XE, endV, gdst, Yk, XR, Yd, goR, XC, sBox, XU, XH, Xr, sNil, XL, Xt, XV, Xv, goD, valD, XI, XF, XB, dNil, XK, XD, dBox, dN, Xz, opL, idxs, pv, XX, Ya, XJ, Xb, Xu, oBin, oUn, Ye, XW, Xw, Xx, Xh, Xk, XY, XS, oLen, lenS, Yh, ev, lk, Vc.put, fits, kd, sz, Tryz.VΓ, Tryz.Γs, bin, binI, binS, ifK, ar, eqB, eqS, eqK, eqK.eqF, negB, bnds, optE, XM, Vc.cells, isV, Vc.one, Xs, getB, setB, XZ, Xp, Xi, Yf, Xl, XT, resS, tupS, ofV, Yj, Nat.reduceAdd, Nat.reduceSub, Nat.reduceLT, Nat.reduceLeDiff, reduceIte, reduceCtorEq, Nat.reduceEqDiff, implies_true, forall_const, lawV])
  have hpl := pre_le (· == 58) S
  unfold didRest
  refine ⟨fun h3 => ?_, fun h3 => ?_⟩
  · have h3 : pre (· == 58) S = S.length := by simp at h3; omega
    rw [cutC_none h3, if_pos rfl]; rfl
  have h3 : ¬ pre (· == 58) S = S.length := by simp at h3; omega
  rw [show cutC 58 S = (S.take (pre (· == 58) S), S.drop (pre (· == 58) S + 1), true) from if_pos (by omega)]
  refine ⟨⟨by omega, by omega⟩, ?_⟩
  simp only [Int.toNat_natCast]
  have pm := p_r10_method (S.take (pre (· == 58) S)) (by simp; omega)
  (refine callV_pc pm ?_; simp only [vcS, ↓Xn, ↓Xo, ↓Xg, ↓Xd, ↓Xe, ↓Xf, XQ, XG, gvU, setR, orN, Yl, Xm, Yn, Yi, Xa, Ym, Xc, Xc.sizeIs, reS, Xj, Yb, mmS, Xq, dstS, srcS, XP, XN, XO, Yc, XA, Yg, Xy, XE, endV, gdst, Yk, XR, Yd, goR, XC, sBox, XU, XH, Xr, sNil, XL, Xt, XV, Xv, goD, valD, XI, XF, XB, dNil, XK, XD, dBox, dN, Xz, opL, idxs, pv, XX, Ya, XJ, Xb, Xu, oBin, oUn, Ye, XW, Xw, Xx, Xh, Xk, XY, XS, oLen, lenS, Yh, ev, lk, Vc.put, fits, kd, sz, Tryz.VΓ, Tryz.Γs, bin, binI, binS, ifK, ar, eqB, eqS, eqK, eqK.eqF, negB, bnds, optE, XM, Vc.cells, isV, Vc.one, Xs, getB, setB, XZ, Xp, Xi, Yf, Xl, XT, resS, tupS, ofV, Yj, Nat.reduceAdd, Nat.reduceSub, Nat.reduceLT, Nat.reduceLeDiff, reduceIte, reduceCtorEq, Nat.reduceEqDiff, implies_true, forall_const, lawV])
  refine ⟨fun h4 => ?_, fun h4 => ?_⟩
  · rw [if_pos (by simpa using h4)]; rfl
  rw [if_neg (by simpa using h4), didEnd_segs]
  have hM : (S.drop (pre (· == 58) S + 1)).length ≤ 4096 := by simp; omega
  generalize S.drop (pre (· == 58) S + 1) = I at hM ⊢
  refine ⟨⟨by omega, by omega⟩, ⟨by omega, by omega⟩, ?_⟩
  have hsl := splitC_len 58 I
  have hct := splitC_length 58 I
  have hcc := List.count_le_length (a := (58 : UInt8)) (l := I)
  refine callV_sc (sc_Split I 58 (by omega)) ?_
  rintro r b ⟨j, rfl, hLj, hj, hkp⟩
  generalize splitC 58 I = L at *
  simp only at hLj hj hkp
  have hb0 := hkp.at (j := 0) rfl
  simp only [vcS, ↓Xn, ↓Xo, ↓Xg, ↓Xd, ↓Xe, ↓Xf, XQ, XG, gvU, setR, orN, Yl, Xm, Yn, Yi, Xa, Ym, Xc, Xc.sizeIs, reS, Xj, Yb, mmS, Xq, dstS, srcS, XP, XN, XO, Yc, XA, Yg, Xy, XE, endV, gdst, Yk, XR, Yd, goR, XC, sBox, XU, XH, Xr, sNil, XL, Xt, XV, Xv, goD, valD, XI, XF, XB, dNil, XK, XD, dBox, dN, Xz, opL, idxs, pv, XX, Ya, XJ, Xb, Xu, oBin, oUn, Ye, XW, Xw, Xx, Xh, Xk, XY, XS, oLen, lenS, Yh, ev, lk, Vc.put, fits, kd, sz, Tryz.VΓ, Tryz.Γs, bin, binI, binS, ifK, ar, eqB, eqS, eqK, eqK.eqF, negB, bnds, optE, XM, Vc.cells, isV, Vc.one, Xs, getB, setB, XZ, Xp, Xi, Yf, Xl, XT, resS, tupS, ofV, Yj, Nat.reduceAdd, Nat.reduceSub, Nat.reduceLT, Nat.reduceLeDiff, reduceIte, reduceCtorEq, Nat.reduceEqDiff, implies_true, forall_const, lawV, hj]
  refine loopV_mk (fun σ => ∃ k : Nat, k ≤ L.length ∧ lk 0 σ.t = some (.str S) ∧ lk 2 σ.t = some (.p 0 0) ∧ lk 3 σ.t = some (.int .i64 0) ∧ lk 4 σ.t = some (.int .i64 (pre (· == 58) S)) ∧ lk 5 σ.t = some (.o j L.length) ∧ lk 46 σ.t = some (.o j L.length) ∧ lk 47 σ.t = some (.int .i64 L.length) ∧ lk 48 σ.t = some (.int .i64 k) ∧
    σ.b[0]? = some (.cells [.str [], .str []] 24 true) ∧ σ.b[j]? = some (.own (L.map SV.str) 9 1 L.length true) ∧ ∀ y ∈ L.take k, PU.bad ∉ units y) (fun σ => L.length - lkI 48 σ) ⟨0, by omega, rfl, rfl, rfl, rfl, rfl, rfl, rfl, rfl, hb0, hj, by simp⟩ ?_
  clear hb0 hj hkp
  rintro ⟨t, b⟩ ⟨k, hk, h0, h2, h3, h4, h5, h46, h47, h48, hb0, hj, hok⟩
  simp only at h0 h2 h3 h4 h5 h46 h47 h48 hb0 hj
  rw [lkI_eq h48]
  have hs0 : ∀ X, (b.set 0 X)[0]? = some X := fun X => List.getElem?_set_self (List.getElem?_eq_some_iff.1 hb0).1
  by_cases hlt : k < L.length
  · have hx : (L.map SV.str)[k * 1]? = some (.str L[k]) := by simp [hlt]
    have hxl := hsl L[k] (List.getElem_mem hlt)
    have pd := p_r3_Decode L[k]
    rw [decode_seg (by omega)] at pd
    simp only [vcS, ↓Xn, ↓Xo, ↓Xg, ↓Xd, ↓Xe, ↓Xf, XQ, XG, gvU, setR, orN, Yl, Xm, Yn, Yi, Xa, Ym, Xc, Xc.sizeIs, reS, Xj, Yb, mmS, Xq, dstS, srcS, XP, XN, XO, Yc, XA, Yg, Xy, XE, endV, gdst, Yk, XR, Yd, goR, XC, sBox, XU, XH, Xr, sNil, XL, Xt, XV, Xv, goD, valD, XI, XF, XB, dNil, XK, XD, dBox, dN, Xz, opL, idxs, pv, XX, Ya, XJ, Xb, Xu, oBin, oUn, Ye, XW, Xw, Xx, Xh, Xk, XY, XS, oLen, lenS, Yh, ev, lk, Vc.put, fits, kd, sz, Tryz.VΓ, Tryz.Γs, bin, binI, binS, ifK, ar, eqB, eqS, eqK, eqK.eqF, negB, bnds, optE, XM, Vc.cells, isV, Vc.one, Xs, getB, setB, XZ, Xp, Xi, Yf, Xl, XT, resS, tupS, ofV, Yj, Nat.reduceAdd, Nat.reduceSub, Nat.reduceLT, Nat.reduceLeDiff, reduceIte, reduceCtorEq, Nat.reduceEqDiff, implies_true, forall_const, lawV, h0, h2, h3, h4, h5, h46, h47, h48, hb0, hj, hs0, hx]
    refine ⟨fun _ => ⟨⟨by omega, by omega⟩, by simp; omega, ?_⟩, fun h => absurd h (by simp; omega)⟩
    by_cases hbad : PU.bad ∈ units L[k]
    · rw [if_pos hbad] at pd
      rw [if_pos ⟨_, List.getElem_mem hlt, hbad⟩]
      (refine callV_pc pd ?_; simp only [vcS, ↓Xn, ↓Xo, ↓Xg, ↓Xd, ↓Xe, ↓Xf, XQ, XG, gvU, setR, orN, Yl, Xm, Yn, Yi, Xa, Ym, Xc, Xc.sizeIs, reS, Xj, Yb, mmS, Xq, dstS, srcS, XP, XN, XO, Yc, XA, Yg, Xy, XE, endV, gdst, Yk, XR, Yd, goR, XC, sBox, XU, XH, Xr, sNil, XL, Xt, XV, Xv, goD, valD, XI, XF, XB, dNil, XK, XD, dBox, dN, Xz, opL, idxs, pv, XX, Ya, XJ, Xb, Xu, oBin, oUn, Ye, XW, Xw, Xx, Xh, Xk, XY, XS, oLen, lenS, Yh, ev, lk, Vc.put, fits, kd, sz, Tryz.VΓ, Tryz.Γs, bin, binI, binS, ifK, ar, eqB, eqS, eqK, eqK.eqF, negB, bnds, optE, XM, Vc.cells, isV, Vc.one, Xs, getB, setB, XZ, Xp, Xi, Yf, Xl, XT, resS, tupS, ofV, Yj, Nat.reduceAdd, Nat.reduceSub, Nat.reduceLT, Nat.reduceLeDiff, reduceIte, reduceCtorEq, Nat.reduceEqDiff, implies_true, forall_const, lawV, h0, h2, h3, h4, h5, h46, h47, h48, hb0, hj, hs0, hx, beq_self_eq_true, bne_self_eq_false, Int.reduceBEq, Int.reduceBNe, Int.reduceLT, Int.reduceLE])
      rfl
    · rw [if_neg hbad] at pd
      (refine callV_pc pd ?_; simp only [vcS, ↓Xn, ↓Xo, ↓Xg, ↓Xd, ↓Xe, ↓Xf, XQ, XG, gvU, setR, orN, Yl, Xm, Yn, Yi, Xa, Ym, Xc, Xc.sizeIs, reS, Xj, Yb, mmS, Xq, dstS, srcS, XP, XN, XO, Yc, XA, Yg, Xy, XE, endV, gdst, Yk, XR, Yd, goR, XC, sBox, XU, XH, Xr, sNil, XL, Xt, XV, Xv, goD, valD, XI, XF, XB, dNil, XK, XD, dBox, dN, Xz, opL, idxs, pv, XX, Ya, XJ, Xb, Xu, oBin, oUn, Ye, XW, Xw, Xx, Xh, Xk, XY, XS, oLen, lenS, Yh, ev, lk, Vc.put, fits, kd, sz, Tryz.VΓ, Tryz.Γs, bin, binI, binS, ifK, ar, eqB, eqS, eqK, eqK.eqF, negB, bnds, optE, XM, Vc.cells, isV, Vc.one, Xs, getB, setB, XZ, Xp, Xi, Yf, Xl, XT, resS, tupS, ofV, Yj, Nat.reduceAdd, Nat.reduceSub, Nat.reduceLT, Nat.reduceLeDiff, reduceIte, reduceCtorEq, Nat.reduceEqDiff, implies_true, forall_const, lawV, h0, h2, h3, h4, h5, h46, h47, h48, hb0, hj, hs0, hx, beq_self_eq_true, bne_self_eq_false, Int.reduceBEq, Int.reduceBNe, Int.reduceLT, Int.reduceLE])
      refine ⟨⟨by omega, by omega⟩, ⟨k + 1, by omega, rfl, fun y hy => ?_⟩, ?_⟩
      · rw [List.take_succ_eq_append_getElem hlt] at hy
        rcases List.mem_append.1 hy with hy | hy
        · exact hok y hy
        · rw [List.mem_singleton.1 hy]; exact hbad
      · rw [lkI_eq (k := .i64) (n := (k : Int) + 1) rfl]; omega
  · have hie : k = L.length := by omega
    subst hie
    rw [List.take_length] at hok
    rw [if_neg (fun ⟨y, hy, hb⟩ => hok y hy hb)]
    simp only [vcS, ↓Xn, ↓Xo, ↓Xg, ↓Xd, ↓Xe, ↓Xf, XQ, XG, gvU, setR, orN, Yl, Xm, Yn, Yi, Xa, Ym, Xc, Xc.sizeIs, reS, Xj, Yb, mmS, Xq, dstS, srcS, XP, XN, XO, Yc, XA, Yg, Xy, XE, endV, gdst, Yk, XR, Yd, goR, XC, sBox, XU, XH, Xr, sNil, XL, Xt, XV, Xv, goD, valD, XI, XF, XB, dNil, XK, XD, dBox, dN, Xz, opL, idxs, pv, XX, Ya, XJ, Xb, Xu, oBin, oUn, Ye, XW, Xw, Xx, Xh, Xk, XY, XS, oLen, lenS, Yh, ev, lk, Vc.put, fits, kd, sz, Tryz.VΓ, Tryz.Γs, bin, binI, binS, ifK, ar, eqB, eqS, eqK, eqK.eqF, negB, bnds, optE, XM, Vc.cells, isV, Vc.one, Xs, getB, setB, XZ, Xp, Xi, Yf, Xl, XT, resS, tupS, ofV, Yj, Nat.reduceAdd, Nat.reduceSub, Nat.reduceLT, Nat.reduceLeDiff, reduceIte, reduceCtorEq, Nat.reduceEqDiff, implies_true, forall_const, lawV, h0, h2, h3, h4, h5, h46, h47, h48, hb0, hj, hs0]
    refine ⟨fun h => absurd h (by simp), fun _ => ?_⟩
    have hbad2 : ∀ y ∈ L, PU.bad ∉ units y := hok
    clear hok h46 h47 h48 hlt hk
    refine loopV_mk (fun σ => ∃ k : Nat, k ≤ L.length ∧ lk 0 σ.t = some (.str S) ∧ lk 2 σ.t = some (.p 0 0) ∧ lk 3 σ.t = some (.int .i64 0) ∧ lk 4 σ.t = some (.int .i64 (pre (· == 58) S)) ∧ lk 5 σ.t = some (.o j L.length) ∧ lk 61 σ.t = some (.o j L.length) ∧ lk 62 σ.t = some (.int .i64 L.length) ∧ lk 63 σ.t = some (.int .i64 k) ∧ lk 10 σ.t = some (.str (segsJoin (L.take k))) ∧
      σ.b[0]? = some (.cells [.str [], .str []] 24 true) ∧ σ.b[j]? = some (.own (L.map SV.str) 9 1 L.length true) ∧ (L.take k).all segPlain = true) (fun σ => L.length - lkI 63 σ) ⟨0, by omega, h0, h2, h3, h4, h5, rfl, rfl, rfl, rfl, hb0, hj, rfl⟩ ?_
    clear hb0 hj h0 h2 h3 h4 h5 hs0
    rintro ⟨t, b⟩ ⟨k, hk, h0, h2, h3, h4, h5, h61, h62, h63, h10, hb0, hj, hok⟩
    simp only at h0 h2 h3 h4 h5 h61 h62 h63 h10 hb0 hj
    have hs0 : ∀ X, (b.set 0 X)[0]? = some X := fun X => List.getElem?_set_self (List.getElem?_eq_some_iff.1 hb0).1
    rw [lkI_eq h63]
    by_cases hlt : k < L.length
    · have hx : (L.map SV.str)[k * 1]? = some (.str L[k]) := by simp [hlt]
      have hxl := hsl L[k] (List.getElem_mem hlt)
      have hxb := hbad2 L[k] (List.getElem_mem hlt)
      simp only [vcS, ↓Xn, ↓Xo, ↓Xg, ↓Xd, ↓Xe, ↓Xf, XQ, XG, gvU, setR, orN, Yl, Xm, Yn, Yi, Xa, Ym, Xc, Xc.sizeIs, reS, Xj, Yb, mmS, Xq, dstS, srcS, XP, XN, XO, Yc, XA, Yg, Xy, XE, endV, gdst, Yk, XR, Yd, goR, XC, sBox, XU, XH, Xr, sNil, XL, Xt, XV, Xv, goD, valD, XI, XF, XB, dNil, XK, XD, dBox, dN, Xz, opL, idxs, pv, XX, Ya, XJ, Xb, Xu, oBin, oUn, Ye, XW, Xw, Xx, Xh, Xk, XY, XS, oLen, lenS, Yh, ev, lk, Vc.put, fits, kd, sz, Tryz.VΓ, Tryz.Γs, bin, binI, binS, ifK, ar, eqB, eqS, eqK, eqK.eqF, negB, bnds, optE, XM, Vc.cells, isV, Vc.one, Xs, getB, setB, XZ, Xp, Xi, Yf, Xl, XT, resS, tupS, ofV, Yj, Nat.reduceAdd, Nat.reduceSub, Nat.reduceLT, Nat.reduceLeDiff, reduceIte, reduceCtorEq, Nat.reduceEqDiff, implies_true, forall_const, lawV, h0, h2, h3, h4, h5, h61, h62, h63, h10, hb0, hj, hs0, hx]
      refine ⟨fun _ => ⟨⟨by omega, by omega⟩, by simp; omega, ?_⟩, fun h => absurd h (by simp; omega)⟩
      have hidl := segsJoin_len (L.take k)
      have hid2 : (L.take k).flatten.length ≤ 4097 * 4097 := flatten_le (n := 4097) (m := 4097) (by simp; omega) (fun y hy => by have := hsl y (List.mem_of_mem_take hy); omega) (Nat.le_refl _)
      have htl : (L.take k).length ≤ 4097 := by simp; omega
      have hsj := segsJoin_take hlt
      have hxa : segPlain L[k] = false → L.all segPlain = false := fun h => all_not hlt h
      have hxo : segPlain L[k] = true → (L.take (k + 1)).all segPlain = true := fun h => all_take_snoc hlt hok h
      clear hok
      generalize L[k] = x at *
      refine loopV_mk (fun σ => ∃ i : Nat, i ≤ x.length ∧ lk 0 σ.t = some (.str S) ∧ lk 2 σ.t = some (.p 0 0) ∧ lk 3 σ.t = some (.int .i64 0) ∧ lk 4 σ.t = some (.int .i64 (pre (· == 58) S)) ∧ lk 5 σ.t = some (.o j L.length) ∧ lk 61 σ.t = some (.o j L.length) ∧ lk 62 σ.t = some (.int .i64 L.length) ∧ lk 63 σ.t = some (.int .i64 k) ∧ lk 11 σ.t = some (.int .i64 k) ∧ lk 10 σ.t = some (.str (segsJoin (L.take k))) ∧ lk 12 σ.t = some (.str x) ∧ lk 13 σ.t = some (.int .i64 i) ∧
        σ.b[0]? = some (.cells [.str [], .str []] 24 true) ∧ σ.b[j]? = some (.own (L.map SV.str) 9 1 L.length true) ∧ (x.take i).all (fun c => plainD c || c == 37) = true) (fun σ => x.length - lkI 13 σ) ⟨0, by omega, h0, h2, h3, h4, h5, h61, h62, h63, rfl, h10, rfl, rfl, hb0, hj, rfl⟩ ?_
      clear hb0 hj h0 h2 h3 h4 h5 hs0 h61 h62 h63 h10
      rintro ⟨t, b⟩ ⟨i, hi, h0, h2, h3, h4, h5, h61, h62, h63, h11, h10, h12, h13, hb0, hj, hok⟩
      simp only at h0 h2 h3 h4 h5 h61 h62 h63 h11 h10 h12 h13 hb0 hj
      have hs0 : ∀ X, (b.set 0 X)[0]? = some X := fun X => List.getElem?_set_self (List.getElem?_eq_some_iff.1 hb0).1
      rw [lkI_eq h13]
      by_cases hil : i < x.length
      · have hg : x.getD i 0 = x[i] := by simp [List.getD, hil]
        simp only [vcS, ↓Xn, ↓Xo, ↓Xg, ↓Xd, ↓Xe, ↓Xf, XQ, XG, gvU, setR, orN, Yl, Xm, Yn, Yi, Xa, Ym, Xc, Xc.sizeIs, reS, Xj, Yb, mmS, Xq, dstS, srcS, XP, XN, XO, Yc, XA, Yg, Xy, XE, endV, gdst, Yk, XR, Yd, goR, XC, sBox, XU, XH, Xr, sNil, XL, Xt, XV, Xv, goD, valD, XI, XF, XB, dNil, XK, XD, dBox, dN, Xz, opL, idxs, pv, XX, Ya, XJ, Xb, Xu, oBin, oUn, Ye, XW, Xw, Xx, Xh, Xk, XY, XS, oLen, lenS, Yh, ev, lk, Vc.put, fits, kd, sz, Tryz.VΓ, Tryz.Γs, bin, binI, binS, ifK, ar, eqB, eqS, eqK, eqK.eqF, negB, bnds, optE, XM, Vc.cells, isV, Vc.one, Xs, getB, setB, XZ, Xp, Xi, Yf, Xl, XT, resS, tupS, ofV, Yj, Nat.reduceAdd, Nat.reduceSub, Nat.reduceLT, Nat.reduceLeDiff, reduceIte, reduceCtorEq, Nat.reduceEqDiff, implies_true, forall_const, lawV, h0, h2, h3, h4, h5, h61, h62, h63, h10, hb0, hj, hs0, h11, h12, h13, hg]
        refine ⟨fun _ => ⟨⟨by omega, by omega⟩, ?_⟩, fun h => absurd h (by simp; omega)⟩
        (refine callV_pc (p_r10_plain x[i]) ?_; simp only [vcS, ↓Xn, ↓Xo, ↓Xg, ↓Xd, ↓Xe, ↓Xf, XQ, XG, gvU, setR, orN, Yl, Xm, Yn, Yi, Xa, Ym, Xc, Xc.sizeIs, reS, Xj, Yb, mmS, Xq, dstS, srcS, XP, XN, XO, Yc, XA, Yg, Xy, XE, endV, gdst, Yk, XR, Yd, goR, XC, sBox, XU, XH, Xr, sNil, XL, Xt, XV, Xv, goD, valD, XI, XF, XB, dNil, XK, XD, dBox, dN, Xz, opL, idxs, pv, XX, Ya, XJ, Xb, Xu, oBin, oUn, Ye, XW, Xw, Xx, Xh, Xk, XY, XS, oLen, lenS, Yh, ev, lk, Vc.put, fits, kd, sz, Tryz.VΓ, Tryz.Γs, bin, binI, binS, ifK, ar, eqB, eqS, eqK, eqK.eqF, negB, bnds, optE, XM, Vc.cells, isV, Vc.one, Xs, getB, setB, XZ, Xp, Xi, Yf, Xl, XT, resS, tupS, ofV, Yj, Nat.reduceAdd, Nat.reduceSub, Nat.reduceLT, Nat.reduceLeDiff, reduceIte, reduceCtorEq, Nat.reduceEqDiff, implies_true, forall_const, lawV, h0, h2, h3, h4, h5, h61, h62, h63, h10, hb0, hj, hs0, h11, h12, h13, hg])
        have hb37 := byte_is hil 37 (n := 37) rfl
        have hb38 : ((x[i].toNat : Int) != 37) = (x[i] != 37) := by
          show (!_) = (!_); rw [← hb37, hg]
        rw [hb38]
        have fin : (plainD x[i] || x[i] == 37) = true → ∀ (t' : List (Nat × SV)), lk 13 t' = some (.int .i64 ((i : Int) + 1)) → (∃ m : Nat, m ≤ x.length ∧ SV.int IntKind.i64 ((i : Int) + 1) = SV.int IntKind.i64 (m : Int) ∧ (x.take m).all (fun c => plainD c || c == 37) = true) ∧ x.length - lkI 13 ⟨t', b⟩ < x.length - (i : Int).toNat := fun hm t' k6 =>
          ⟨⟨i + 1, by omega, rfl, all_take_snoc hil hok hm⟩, by rw [lkI_eq (σ := ⟨t', b⟩) k6]; omega⟩
        refine ⟨fun hp => ⟨⟨by omega, by omega⟩, fun h37 => ?_, fun h37 => ⟨⟨by omega, by omega⟩, fin ?_ _ rfl⟩⟩, fun hp => ⟨⟨by omega, by omega⟩, fin ?_ _ rfl⟩⟩
        · rw [if_pos (hxa (all_not hil (by simp at hp h37 ⊢; exact ⟨hp, h37⟩)))]; rfl
        · simp at h37 ⊢; exact .inr h37
        · simp at hp ⊢; exact .inl hp
      · have hie : i = x.length := by omega
        subst hie
        rw [List.take_length] at hok
        have pd := p_r3_Decode x
        rw [decode_seg (by omega), if_neg hxb] at pd
        simp only at pd
        have pe := p_r10_Escaped (decV x) (by have := decV_len x; omega)
        have hdl := didEsc_len (decV x)
        have hdl2 := decV_len x
        simp only [vcS, ↓Xn, ↓Xo, ↓Xg, ↓Xd, ↓Xe, ↓Xf, XQ, XG, gvU, setR, orN, Yl, Xm, Yn, Yi, Xa, Ym, Xc, Xc.sizeIs, reS, Xj, Yb, mmS, Xq, dstS, srcS, XP, XN, XO, Yc, XA, Yg, Xy, XE, endV, gdst, Yk, XR, Yd, goR, XC, sBox, XU, XH, Xr, sNil, XL, Xt, XV, Xv, goD, valD, XI, XF, XB, dNil, XK, XD, dBox, dN, Xz, opL, idxs, pv, XX, Ya, XJ, Xb, Xu, oBin, oUn, Ye, XW, Xw, Xx, Xh, Xk, XY, XS, oLen, lenS, Yh, ev, lk, Vc.put, fits, kd, sz, Tryz.VΓ, Tryz.Γs, bin, binI, binS, ifK, ar, eqB, eqS, eqK, eqK.eqF, negB, bnds, optE, XM, Vc.cells, isV, Vc.one, Xs, getB, setB, XZ, Xp, Xi, Yf, Xl, XT, resS, tupS, ofV, Yj, Nat.reduceAdd, Nat.reduceSub, Nat.reduceLT, Nat.reduceLeDiff, reduceIte, reduceCtorEq, Nat.reduceEqDiff, implies_true, forall_const, lawV, h0, h2, h3, h4, h5, h61, h62, h63, h10, hb0, hj, hs0, h11, h12, h13]
        refine ⟨fun h => absurd h (by simp), fun _ => ?_⟩
        have hxp : segPlain x = true := hok
        (refine callV_pc pd ?_; simp only [vcS, ↓Xn, ↓Xo, ↓Xg, ↓Xd, ↓Xe, ↓Xf, XQ, XG, gvU, setR, orN, Yl, Xm, Yn, Yi, Xa, Ym, Xc, Xc.sizeIs, reS, Xj, Yb, mmS, Xq, dstS, srcS, XP, XN, XO, Yc, XA, Yg, Xy, XE, endV, gdst, Yk, XR, Yd, goR, XC, sBox, XU, XH, Xr, sNil, XL, Xt, XV, Xv, goD, valD, XI, XF, XB, dNil, XK, XD, dBox, dN, Xz, opL, idxs, pv, XX, Ya, XJ, Xb, Xu, oBin, oUn, Ye, XW, Xw, Xx, Xh, Xk, XY, XS, oLen, lenS, Yh, ev, lk, Vc.put, fits, kd, sz, Tryz.VΓ, Tryz.Γs, bin, binI, binS, ifK, ar, eqB, eqS, eqK, eqK.eqF, negB, bnds, optE, XM, Vc.cells, isV, Vc.one, Xs, getB, setB, XZ, Xp, Xi, Yf, Xl, XT, resS, tupS, ofV, Yj, Nat.reduceAdd, Nat.reduceSub, Nat.reduceLT, Nat.reduceLeDiff, reduceIte, reduceCtorEq, Nat.reduceEqDiff, implies_true, forall_const, lawV, h0, h2, h3, h4, h5, h61, h62, h63, h10, hb0, hj, hs0, h11, h12, h13, beq_self_eq_true, bne_self_eq_false, Int.reduceBEq, Int.reduceBNe, Int.reduceLT, Int.reduceLE])
        refine ⟨fun h0k => ⟨by omega, ?_⟩, fun h0k => ?_⟩
        · (refine callV_pc pe ?_; simp only [vcS, ↓Xn, ↓Xo, ↓Xg, ↓Xd, ↓Xe, ↓Xf, XQ, XG, gvU, setR, orN, Yl, Xm, Yn, Yi, Xa, Ym, Xc, Xc.sizeIs, reS, Xj, Yb, mmS, Xq, dstS, srcS, XP, XN, XO, Yc, XA, Yg, Xy, XE, endV, gdst, Yk, XR, Yd, goR, XC, sBox, XU, XH, Xr, sNil, XL, Xt, XV, Xv, goD, valD, XI, XF, XB, dNil, XK, XD, dBox, dN, Xz, opL, idxs, pv, XX, Ya, XJ, Xb, Xu, oBin, oUn, Ye, XW, Xw, Xx, Xh, Xk, XY, XS, oLen, lenS, Yh, ev, lk, Vc.put, fits, kd, sz, Tryz.VΓ, Tryz.Γs, bin, binI, binS, ifK, ar, eqB, eqS, eqK, eqK.eqF, negB, bnds, optE, XM, Vc.cells, isV, Vc.one, Xs, getB, setB, XZ, Xp, Xi, Yf, Xl, XT, resS, tupS, ofV, Yj, Nat.reduceAdd, Nat.reduceSub, Nat.reduceLT, Nat.reduceLeDiff, reduceIte, reduceCtorEq, Nat.reduceEqDiff, implies_true, forall_const, lawV, h0, h2, h3, h4, h5, h61, h62, h63, h10, hb0, hj, hs0, h11, h12, h13])
          refine ⟨by simp; omega, ⟨by omega, by omega⟩, ⟨k + 1, by omega, rfl, ?_, hxo hxp⟩, ?_⟩
          · rw [hsj, if_neg (by simp at h0k; omega)]
          · rw [lkI_eq (k := .i64) (n := (k : Int) + 1) rfl]; omega
        · (refine callV_pc pe ?_; simp only [vcS, ↓Xn, ↓Xo, ↓Xg, ↓Xd, ↓Xe, ↓Xf, XQ, XG, gvU, setR, orN, Yl, Xm, Yn, Yi, Xa, Ym, Xc, Xc.sizeIs, reS, Xj, Yb, mmS, Xq, dstS, srcS, XP, XN, XO, Yc, XA, Yg, Xy, XE, endV, gdst, Yk, XR, Yd, goR, XC, sBox, XU, XH, Xr, sNil, XL, Xt, XV, Xv, goD, valD, XI, XF, XB, dNil, XK, XD, dBox, dN, Xz, opL, idxs, pv, XX, Ya, XJ, Xb, Xu, oBin, oUn, Ye, XW, Xw, Xx, Xh, Xk, XY, XS, oLen, lenS, Yh, ev, lk, Vc.put, fits, kd, sz, Tryz.VΓ, Tryz.Γs, bin, binI, binS, ifK, ar, eqB, eqS, eqK, eqK.eqF, negB, bnds, optE, XM, Vc.cells, isV, Vc.one, Xs, getB, setB, XZ, Xp, Xi, Yf, Xl, XT, resS, tupS, ofV, Yj, Nat.reduceAdd, Nat.reduceSub, Nat.reduceLT, Nat.reduceLeDiff, reduceIte, reduceCtorEq, Nat.reduceEqDiff, implies_true, forall_const, lawV, h0, h2, h3, h4, h5, h61, h62, h63, h10, hb0, hj, hs0, h11, h12, h13])
          refine ⟨by omega, ⟨by omega, by omega⟩, ⟨k + 1, by omega, rfl, ?_, hxo hxp⟩, ?_⟩
          · rw [hsj, if_pos (by simp at h0k; omega), List.append_nil]
          · rw [lkI_eq (k := .i64) (n := (k : Int) + 1) rfl]; omega
    · have hie : k = L.length := by omega
      subst hie
      rw [List.take_length] at hok h10
      rw [if_neg (by rw [hok]; simp)]
      have hL0 : 0 < L.length := by omega
      have hz : (L.map SV.str)[((L.length : Int) - 1).toNat * 1]? = some (.str (L[L.length - 1]'(by omega))) := by
        rw [show ((L.length : Int) - 1).toNat * 1 = L.length - 1 by omega]
        simp [hL0]
      have hzl : L.getLast? = some (L[L.length - 1]'(by omega)) := by rw [List.getLast?_eq_getElem?]; simp [hL0]
      rw [hzl]
      generalize L[L.length - 1]'(by omega) = z at hz
      simp only [Option.some.injEq]
      have hpl2 := pre_le (· == 58) S
      simp only [vcS, ↓Xn, ↓Xo, ↓Xg, ↓Xd, ↓Xe, ↓Xf, XQ, XG, gvU, setR, orN, Yl, Xm, Yn, Yi, Xa, Ym, Xc, Xc.sizeIs, reS, Xj, Yb, mmS, Xq, dstS, srcS, XP, XN, XO, Yc, XA, Yg, Xy, XE, endV, gdst, Yk, XR, Yd, goR, XC, sBox, XU, XH, Xr, sNil, XL, Xt, XV, Xv, goD, valD, XI, XF, XB, dNil, XK, XD, dBox, dN, Xz, opL, idxs, pv, XX, Ya, XJ, Xb, Xu, oBin, oUn, Ye, XW, Xw, Xx, Xh, Xk, XY, XS, oLen, lenS, Yh, ev, lk, Vc.put, fits, kd, sz, Tryz.VΓ, Tryz.Γs, bin, binI, binS, ifK, ar, eqB, eqS, eqK, eqK.eqF, negB, bnds, optE, XM, Vc.cells, isV, Vc.one, Xs, getB, setB, XZ, Xp, Xi, Yf, Xl, XT, resS, tupS, ofV, Yj, Nat.reduceAdd, Nat.reduceSub, Nat.reduceLT, Nat.reduceLeDiff, reduceIte, reduceCtorEq, Nat.reduceEqDiff, implies_true, forall_const, lawV, h0, h2, h3, h4, h5, h61, h62, h63, h10, hb0, hj, hs0, hz]
      refine ⟨fun h => absurd h (by simp), fun _ => ⟨⟨by omega, by omega⟩, ⟨by omega, by omega⟩, by simp; omega, fun h => ?_, fun h => ?_⟩⟩
      · rw [if_pos (by simpa using h)]; rfl
      · rw [if_neg (by simpa using h)]
        exact ⟨⟨by omega, by omega⟩, rfl⟩
theorem p_r10_FormatDID (d : Did) (h : DidFits d) : PC Tryz.V 81 [dsv d] (.str (didText d)) := by
  obtain ⟨m, i⟩ := d
  simp only [DidFits] at h
  refine pc_of 3000 Tryz.func81 rfl Tryz.ntmps81 Tryz.results81 Tryz.call81 (by simp) (by simp [flat, flat.flatL, dsv, dusv]) (by simp [flat, flat.flatL, dsv, dusv]) ?_
  unfold dsv
  simp only [vcS, ↓Xn, ↓Xo, ↓Xg, ↓Xd, ↓Xe, ↓Xf, XQ, XG, gvU, setR, orN, Yl, Xm, Yn, Yi, Xa, Ym, Xc, Xc.sizeIs, reS, Xj, Yb, mmS, Xq, dstS, srcS, XP, XN, XO, Yc, XA, Yg, Xy, XE, endV, gdst, Yk, XR, Yd, goR, XC, sBox, XU, XH, Xr, sNil, XL, Xt, XV, Xv, goD, valD, XI, XF, XB, dNil, XK, XD, dBox, dN, Xz, opL, idxs, pv, XX, Ya, XJ, Xb, Xu, oBin, oUn, Ye, XW, Xw, Xx, Xh, Xk, XY, XS, oLen, lenS, Yh, ev, lk, Vc.put, fits, kd, sz, Tryz.VΓ, Tryz.Γs, bin, binI, binS, ifK, ar, eqB, eqS, eqK, eqK.eqF, negB, bnds, optE, XM, Vc.cells, isV, Vc.one, Xs, getB, setB, XZ, Xp, Xi, Yf, Xl, XT, resS, tupS, ofV, Yj, Nat.reduceAdd, Nat.reduceSub, Nat.reduceLT, Nat.reduceLeDiff, reduceIte, reduceCtorEq, Nat.reduceEqDiff, implies_true, forall_const, lawV]
  simp only [List.length_append, List.length_cons, List.length_nil]
  refine ⟨by omega, by omega, by omega, ?_⟩
  simp [didText, didS]
end Go.Proofs.YtcndmooeglfilaaGreatDoor
/- The walk of uri.Join. -/
set_option linter.all false
set_option maxRecDepth 20000
namespace Go.Proofs.YtcndmooeglfilaaGreatDoor
open Go Vc Go.RowKit Wf
set_option linter.unusedSimpArgs false
def adds (there : Bool) (l : Bytes) (parts : List Bytes) : Bytes := if there then l ++ parts.flatten else l
def AddI (bs : List Res) (i : Nat) (there : Bool) (l : Bytes) (parts : List Bytes) (j : Nat) (σ : St) : Prop := ∃ k : Nat, k ≤ parts.length ∧ lk 0 σ.t = some (.bool there) ∧ lk 2 σ.t = some (.p i 0) ∧ lk 7 σ.t = some (.o j parts.length) ∧ lk 8 σ.t = some (.int .i64 parts.length) ∧ lk 9 σ.t = some (.int .i64 k) ∧
  σ.b = bs.set i (.ext (BldR 125 5 (adds there l (parts.take k))))
def AddM (parts : List Bytes) (σ : St) : Nat := match lk 9 σ.t with
  | some (.int _ k) => parts.length - k.toNat
  | _ => 0
def Uri.size (u : Uri) : Nat := u.scheme.length + u.authority.length + u.path.length + u.query.length + u.fragment.length
end Go.Proofs.YtcndmooeglfilaaGreatDoor
/- Sizes of the parts of a string. -/
set_option linter.all false
namespace Go.Proofs.YtcndmooeglfilaaGreatDoor
open Go Vc Go.RowKit Wf
theorem split_path (s : Bytes) : (uriSplit s).1.path.length ≤ s.length := by
  have hc1 := cutC_len 35 s
  have hc2 := cutC_len 63 (cutC 35 s).1
  have hap : ∀ r : Bytes, (authPath r).2.2.length ≤ r.length := fun r => by
    unfold authPath; split
    · simp; omega
    · simp
  unfold uriSplit
  split
  · simp [Uri.none]
  · unfold splitRest
    split
    · split
      · have := hap ((cutC 63 (cutC 35 s).1).1.drop (pre colonSlash (cutC 63 (cutC 35 s).1).1 + 1))
        simp at this ⊢; omega
      · simp [Uri.none]
    · have := hap (cutC 63 (cutC 35 s).1).1
      simp; omega
theorem split_size (s : Bytes) : Uri.size (uriSplit s).1 ≤ 6 * s.length := by
  have hc1 := cutC_len 35 s
  have hc2 := cutC_len 63 (cutC 35 s).1
  have hap : ∀ r : Bytes, (authPath r).2.2.length ≤ r.length ∧ (authPath r).1.length ≤ r.length := fun r => by
    unfold authPath; split
    · simp; omega
    · simp
  unfold uriSplit
  split
  · simp [Uri.none, Uri.size]
  · unfold splitRest
    split
    · split
      · have := hap ((cutC 63 (cutC 35 s).1).1.drop (pre colonSlash (cutC 63 (cutC 35 s).1).1 + 1))
        simp [Uri.size] at this ⊢; omega
      · simp [Uri.none, Uri.size]
    · have := hap (cutC 63 (cutC 35 s).1).1
      simp [Uri.size]; omega
end Go.Proofs.YtcndmooeglfilaaGreatDoor
/- The walk of weburl.Parse. -/
set_option linter.all false
set_option maxRecDepth 20000
namespace Go.Proofs.YtcndmooeglfilaaGreatDoor
open Go Vc Go.RowKit Wf
set_option linter.unusedSimpArgs false
theorem hostPort_ok (a : Bytes) (h : (hostPort a).2 = 0) : (hostPort a).1.1.length ≤ 253 ∧ 0 ≤ (hostPort a).1.2 ∧ (hostPort a).1.2 ≤ 65535 := by
  have := hostPort_back (s := a) (x := (hostPort a).1.1) (p := (hostPort a).1.2) (by rw [← h])
  omega
set_option maxRecDepth 20000 in
set_option maxHeartbeats 4000000 in
theorem p_url_Parse (s : Bytes) : PC Tryz.V 118 [.str s] (.tup [wsv (urlParse s).1, .int .i64 (urlParse s).2]) := by
  refine pc_of 3000 Tryz.func118 rfl Tryz.ntmps118 Tryz.results118 Tryz.call118 (by simp) (by simp [flat, flat.flatL]) (by simp [flat, flat.flatL, wsv]) ?_
  simp only [vcS, ↓Xn, ↓Xo, ↓Xg, ↓Xd, ↓Xe, ↓Xf, XQ, XG, gvU, setR, orN, Yl, Xm, Yn, Yi, Xa, Ym, Xc, Xc.sizeIs, reS, Xj, Yb, mmS, Xq, dstS, srcS, XP, XN, XO, Yc, XA, Yg, Xy, XE, endV, gdst, Yk, XR, Yd, goR, XC, sBox, XU, XH, Xr, sNil, XL, Xt, XV, Xv, goD, valD, XI, XF, XB, dNil, XK, XD, dBox, dN, Xz, opL, idxs, pv, XX, Ya, XJ, Xb, Xu, oBin, oUn, Ye, XW, Xw, Xx, Xh, Xk, XY, XS, oLen, lenS, Yh, ev, lk, Vc.put, fits, kd, sz, Tryz.VΓ, Tryz.Γs, bin, binI, binS, ifK, ar, eqB, eqS, eqK, eqK.eqF, negB, bnds, optE, XM, Vc.cells, isV, Vc.one, Xs, getB, setB, XZ, Xp, Xi, Yf, Xl, XT, resS, tupS, ofV, Yj, Nat.reduceAdd, Nat.reduceSub, Nat.reduceLT, Nat.reduceLeDiff, reduceIte, reduceCtorEq, Nat.reduceEqDiff, implies_true, forall_const, lawV]
  refine ⟨fun h => ?_, fun h => ?_⟩
  · have : urlParse s = (Url.none, 5) := if_pos (by simp at h; omega)
    rw [this]; rfl
  have hl : ¬ 4096 < s.length := (by simp at h; omega)
  have hq : urlParse s = if (uriSplit s).2 ≠ 0 then (Url.none, (uriSplit s).2) else urlOf (uriSplit s).1 := if_neg hl
  rw [hq]
  have ps := p_uri_Split s
  unfold usv at ps
  have hp := split_path s
  have hz := split_size s
  revert ps hp hz
  generalize uriSplit s = us
  obtain ⟨r, c⟩ := us
  intro ps hp hz
  simp only at ps hp hz
  simp only
  unfold Uri.size at hz
  have pl := p_Equal r.scheme https (by omega) (by decide)
  have pn := p_Contains r.authority 64
  have ph := p_host_Parse r.authority (by omega)
  have p1 := p_Normalize r.path inPath (by decide)
  have p2 := p_Normalize r.query inQuery (by decide)
  have p3 := p_Normalize r.fragment inQuery (by decide)
  (refine callV_pc (ps) ?_; simp only [vcS, ↓Xn, ↓Xo, ↓Xg, ↓Xd, ↓Xe, ↓Xf, XQ, XG, gvU, setR, orN, Yl, Xm, Yn, Yi, Xa, Ym, Xc, Xc.sizeIs, reS, Xj, Yb, mmS, Xq, dstS, srcS, XP, XN, XO, Yc, XA, Yg, Xy, XE, endV, gdst, Yk, XR, Yd, goR, XC, sBox, XU, XH, Xr, sNil, XL, Xt, XV, Xv, goD, valD, XI, XF, XB, dNil, XK, XD, dBox, dN, Xz, opL, idxs, pv, XX, Ya, XJ, Xb, Xu, oBin, oUn, Ye, XW, Xw, Xx, Xh, Xk, XY, XS, oLen, lenS, Yh, ev, lk, Vc.put, fits, kd, sz, Tryz.VΓ, Tryz.Γs, bin, binI, binS, ifK, ar, eqB, eqS, eqK, eqK.eqF, negB, bnds, optE, XM, Vc.cells, isV, Vc.one, Xs, getB, setB, XZ, Xp, Xi, Yf, Xl, XT, resS, tupS, ofV, Yj, Nat.reduceAdd, Nat.reduceSub, Nat.reduceLT, Nat.reduceLeDiff, reduceIte, reduceCtorEq, Nat.reduceEqDiff, implies_true, forall_const, lawV])
  refine ⟨fun h1 => ?_, fun h1 => ?_⟩
  · rw [if_pos (by simpa using h1)]; rfl
  rw [if_neg (by simpa using h1)]
  unfold urlOf
  cases hsc : r.hasScheme
  · simp only [vcS, ↓Xn, ↓Xo, ↓Xg, ↓Xd, ↓Xe, ↓Xf, XQ, XG, gvU, setR, orN, Yl, Xm, Yn, Yi, Xa, Ym, Xc, Xc.sizeIs, reS, Xj, Yb, mmS, Xq, dstS, srcS, XP, XN, XO, Yc, XA, Yg, Xy, XE, endV, gdst, Yk, XR, Yd, goR, XC, sBox, XU, XH, Xr, sNil, XL, Xt, XV, Xv, goD, valD, XI, XF, XB, dNil, XK, XD, dBox, dN, Xz, opL, idxs, pv, XX, Ya, XJ, Xb, Xu, oBin, oUn, Ye, XW, Xw, Xx, Xh, Xk, XY, XS, oLen, lenS, Yh, ev, lk, Vc.put, fits, kd, sz, Tryz.VΓ, Tryz.Γs, bin, binI, binS, ifK, ar, eqB, eqS, eqK, eqK.eqF, negB, bnds, optE, XM, Vc.cells, isV, Vc.one, Xs, getB, setB, XZ, Xp, Xi, Yf, Xl, XT, resS, tupS, ofV, Yj, Nat.reduceAdd, Nat.reduceSub, Nat.reduceLT, Nat.reduceLeDiff, reduceIte, reduceCtorEq, Nat.reduceEqDiff, implies_true, forall_const, lawV, hsc]
    rw [if_pos (.inl trivial)]; rfl
  simp only [vcS, ↓Xn, ↓Xo, ↓Xg, ↓Xd, ↓Xe, ↓Xf, XQ, XG, gvU, setR, orN, Yl, Xm, Yn, Yi, Xa, Ym, Xc, Xc.sizeIs, reS, Xj, Yb, mmS, Xq, dstS, srcS, XP, XN, XO, Yc, XA, Yg, Xy, XE, endV, gdst, Yk, XR, Yd, goR, XC, sBox, XU, XH, Xr, sNil, XL, Xt, XV, Xv, goD, valD, XI, XF, XB, dNil, XK, XD, dBox, dN, Xz, opL, idxs, pv, XX, Ya, XJ, Xb, Xu, oBin, oUn, Ye, XW, Xw, Xx, Xh, Xk, XY, XS, oLen, lenS, Yh, ev, lk, Vc.put, fits, kd, sz, Tryz.VΓ, Tryz.Γs, bin, binI, binS, ifK, ar, eqB, eqS, eqK, eqK.eqF, negB, bnds, optE, XM, Vc.cells, isV, Vc.one, Xs, getB, setB, XZ, Xp, Xi, Yf, Xl, XT, resS, tupS, ofV, Yj, Nat.reduceAdd, Nat.reduceSub, Nat.reduceLT, Nat.reduceLeDiff, reduceIte, reduceCtorEq, Nat.reduceEqDiff, implies_true, forall_const, lawV, hsc]
  rw [show lower https = https by decide] at pl
  (refine callV_pc pl ?_; simp only [vcS, ↓Xn, ↓Xo, ↓Xg, ↓Xd, ↓Xe, ↓Xf, XQ, XG, gvU, setR, orN, Yl, Xm, Yn, Yi, Xa, Ym, Xc, Xc.sizeIs, reS, Xj, Yb, mmS, Xq, dstS, srcS, XP, XN, XO, Yc, XA, Yg, Xy, XE, endV, gdst, Yk, XR, Yd, goR, XC, sBox, XU, XH, Xr, sNil, XL, Xt, XV, Xv, goD, valD, XI, XF, XB, dNil, XK, XD, dBox, dN, Xz, opL, idxs, pv, XX, Ya, XJ, Xb, Xu, oBin, oUn, Ye, XW, Xw, Xx, Xh, Xk, XY, XS, oLen, lenS, Yh, ev, lk, Vc.put, fits, kd, sz, Tryz.VΓ, Tryz.Γs, bin, binI, binS, ifK, ar, eqB, eqS, eqK, eqK.eqF, negB, bnds, optE, XM, Vc.cells, isV, Vc.one, Xs, getB, setB, XZ, Xp, Xi, Yf, Xl, XT, resS, tupS, ofV, Yj, Nat.reduceAdd, Nat.reduceSub, Nat.reduceLT, Nat.reduceLeDiff, reduceIte, reduceCtorEq, Nat.reduceEqDiff, implies_true, forall_const, lawV, hsc])
  refine ⟨fun h2 => ?_, fun h2 => ?_⟩
  · rw [if_pos (.inr (by simpa using h2))]; rfl
  rw [if_neg (by simpa using h2)]
  cases hau : r.hasAuthority
  · simp only [vcS, ↓Xn, ↓Xo, ↓Xg, ↓Xd, ↓Xe, ↓Xf, XQ, XG, gvU, setR, orN, Yl, Xm, Yn, Yi, Xa, Ym, Xc, Xc.sizeIs, reS, Xj, Yb, mmS, Xq, dstS, srcS, XP, XN, XO, Yc, XA, Yg, Xy, XE, endV, gdst, Yk, XR, Yd, goR, XC, sBox, XU, XH, Xr, sNil, XL, Xt, XV, Xv, goD, valD, XI, XF, XB, dNil, XK, XD, dBox, dN, Xz, opL, idxs, pv, XX, Ya, XJ, Xb, Xu, oBin, oUn, Ye, XW, Xw, Xx, Xh, Xk, XY, XS, oLen, lenS, Yh, ev, lk, Vc.put, fits, kd, sz, Tryz.VΓ, Tryz.Γs, bin, binI, binS, ifK, ar, eqB, eqS, eqK, eqK.eqF, negB, bnds, optE, XM, Vc.cells, isV, Vc.one, Xs, getB, setB, XZ, Xp, Xi, Yf, Xl, XT, resS, tupS, ofV, Yj, Nat.reduceAdd, Nat.reduceSub, Nat.reduceLT, Nat.reduceLeDiff, reduceIte, reduceCtorEq, Nat.reduceEqDiff, implies_true, forall_const, lawV, hau]
    rfl
  simp only [vcS, ↓Xn, ↓Xo, ↓Xg, ↓Xd, ↓Xe, ↓Xf, XQ, XG, gvU, setR, orN, Yl, Xm, Yn, Yi, Xa, Ym, Xc, Xc.sizeIs, reS, Xj, Yb, mmS, Xq, dstS, srcS, XP, XN, XO, Yc, XA, Yg, Xy, XE, endV, gdst, Yk, XR, Yd, goR, XC, sBox, XU, XH, Xr, sNil, XL, Xt, XV, Xv, goD, valD, XI, XF, XB, dNil, XK, XD, dBox, dN, Xz, opL, idxs, pv, XX, Ya, XJ, Xb, Xu, oBin, oUn, Ye, XW, Xw, Xx, Xh, Xk, XY, XS, oLen, lenS, Yh, ev, lk, Vc.put, fits, kd, sz, Tryz.VΓ, Tryz.Γs, bin, binI, binS, ifK, ar, eqB, eqS, eqK, eqK.eqF, negB, bnds, optE, XM, Vc.cells, isV, Vc.one, Xs, getB, setB, XZ, Xp, Xi, Yf, Xl, XT, resS, tupS, ofV, Yj, Nat.reduceAdd, Nat.reduceSub, Nat.reduceLT, Nat.reduceLeDiff, reduceIte, reduceCtorEq, Nat.reduceEqDiff, implies_true, forall_const, lawV, hau]
  (refine callV_pc pn ?_; simp only [vcS, ↓Xn, ↓Xo, ↓Xg, ↓Xd, ↓Xe, ↓Xf, XQ, XG, gvU, setR, orN, Yl, Xm, Yn, Yi, Xa, Ym, Xc, Xc.sizeIs, reS, Xj, Yb, mmS, Xq, dstS, srcS, XP, XN, XO, Yc, XA, Yg, Xy, XE, endV, gdst, Yk, XR, Yd, goR, XC, sBox, XU, XH, Xr, sNil, XL, Xt, XV, Xv, goD, valD, XI, XF, XB, dNil, XK, XD, dBox, dN, Xz, opL, idxs, pv, XX, Ya, XJ, Xb, Xu, oBin, oUn, Ye, XW, Xw, Xx, Xh, Xk, XY, XS, oLen, lenS, Yh, ev, lk, Vc.put, fits, kd, sz, Tryz.VΓ, Tryz.Γs, bin, binI, binS, ifK, ar, eqB, eqS, eqK, eqK.eqF, negB, bnds, optE, XM, Vc.cells, isV, Vc.one, Xs, getB, setB, XZ, Xp, Xi, Yf, Xl, XT, resS, tupS, ofV, Yj, Nat.reduceAdd, Nat.reduceSub, Nat.reduceLT, Nat.reduceLeDiff, reduceIte, reduceCtorEq, Nat.reduceEqDiff, implies_true, forall_const, lawV, hau])
  refine ⟨fun h3 => ?_, fun h3 => ?_⟩
  · rw [if_pos (by simpa using h3)]; rfl
  rw [if_neg (by simpa using h3)]
  unfold urlParts
  (refine callV_pc ph ?_; simp only [vcS, ↓Xn, ↓Xo, ↓Xg, ↓Xd, ↓Xe, ↓Xf, XQ, XG, gvU, setR, orN, Yl, Xm, Yn, Yi, Xa, Ym, Xc, Xc.sizeIs, reS, Xj, Yb, mmS, Xq, dstS, srcS, XP, XN, XO, Yc, XA, Yg, Xy, XE, endV, gdst, Yk, XR, Yd, goR, XC, sBox, XU, XH, Xr, sNil, XL, Xt, XV, Xv, goD, valD, XI, XF, XB, dNil, XK, XD, dBox, dN, Xz, opL, idxs, pv, XX, Ya, XJ, Xb, Xu, oBin, oUn, Ye, XW, Xw, Xx, Xh, Xk, XY, XS, oLen, lenS, Yh, ev, lk, Vc.put, fits, kd, sz, Tryz.VΓ, Tryz.Γs, bin, binI, binS, ifK, ar, eqB, eqS, eqK, eqK.eqF, negB, bnds, optE, XM, Vc.cells, isV, Vc.one, Xs, getB, setB, XZ, Xp, Xi, Yf, Xl, XT, resS, tupS, ofV, Yj, Nat.reduceAdd, Nat.reduceSub, Nat.reduceLT, Nat.reduceLeDiff, reduceIte, reduceCtorEq, Nat.reduceEqDiff, implies_true, forall_const, lawV, hau])
  refine ⟨fun h4 => ?_, fun h4 => ?_⟩
  · rw [if_pos (by simpa using h4)]; rfl
  rw [if_neg (by simpa using h4)]
  have hN1 := pctNorm_len inPath r.path
  have hN2 := pctNorm_len inQuery r.query
  have hN3 := pctNorm_len inQuery r.fragment
  have hH := hostPort_ok r.authority (by simpa using h4)
  have p4 := p_uri_RemoveDots (pctNorm inPath r.path).1 (by omega)
  have hD := removeDots_len (pctNorm inPath r.path).1
  generalize pctNorm inPath r.path = n1 at p1 p4 hN1 hD ⊢
  generalize pctNorm inQuery r.query = n2 at p2 hN2 ⊢
  generalize pctNorm inQuery r.fragment = n3 at p3 hN3 ⊢
  generalize (hostPort r.authority).1 = hp at hH ⊢
  obtain ⟨n1, e1⟩ := n1
  obtain ⟨n2, e2⟩ := n2
  obtain ⟨n3, e3⟩ := n3
  obtain ⟨hh, pp⟩ := hp
  simp only at p1 p2 p3 p4 hN1 hN2 hN3 hH hD ⊢
  (refine callV_pc p1 ?_; simp only [vcS, ↓Xn, ↓Xo, ↓Xg, ↓Xd, ↓Xe, ↓Xf, XQ, XG, gvU, setR, orN, Yl, Xm, Yn, Yi, Xa, Ym, Xc, Xc.sizeIs, reS, Xj, Yb, mmS, Xq, dstS, srcS, XP, XN, XO, Yc, XA, Yg, Xy, XE, endV, gdst, Yk, XR, Yd, goR, XC, sBox, XU, XH, Xr, sNil, XL, Xt, XV, Xv, goD, valD, XI, XF, XB, dNil, XK, XD, dBox, dN, Xz, opL, idxs, pv, XX, Ya, XJ, Xb, Xu, oBin, oUn, Ye, XW, Xw, Xx, Xh, Xk, XY, XS, oLen, lenS, Yh, ev, lk, Vc.put, fits, kd, sz, Tryz.VΓ, Tryz.Γs, bin, binI, binS, ifK, ar, eqB, eqS, eqK, eqK.eqF, negB, bnds, optE, XM, Vc.cells, isV, Vc.one, Xs, getB, setB, XZ, Xp, Xi, Yf, Xl, XT, resS, tupS, ofV, Yj, Nat.reduceAdd, Nat.reduceSub, Nat.reduceLT, Nat.reduceLeDiff, reduceIte, reduceCtorEq, Nat.reduceEqDiff, implies_true, forall_const, lawV])
  refine ⟨fun h5 => ?_, fun h5 => ?_⟩
  · rw [if_pos (by simpa using h5)]; rfl
  rw [if_neg (by simpa using h5)]
  (refine callV_pc p2 ?_; simp only [vcS, ↓Xn, ↓Xo, ↓Xg, ↓Xd, ↓Xe, ↓Xf, XQ, XG, gvU, setR, orN, Yl, Xm, Yn, Yi, Xa, Ym, Xc, Xc.sizeIs, reS, Xj, Yb, mmS, Xq, dstS, srcS, XP, XN, XO, Yc, XA, Yg, Xy, XE, endV, gdst, Yk, XR, Yd, goR, XC, sBox, XU, XH, Xr, sNil, XL, Xt, XV, Xv, goD, valD, XI, XF, XB, dNil, XK, XD, dBox, dN, Xz, opL, idxs, pv, XX, Ya, XJ, Xb, Xu, oBin, oUn, Ye, XW, Xw, Xx, Xh, Xk, XY, XS, oLen, lenS, Yh, ev, lk, Vc.put, fits, kd, sz, Tryz.VΓ, Tryz.Γs, bin, binI, binS, ifK, ar, eqB, eqS, eqK, eqK.eqF, negB, bnds, optE, XM, Vc.cells, isV, Vc.one, Xs, getB, setB, XZ, Xp, Xi, Yf, Xl, XT, resS, tupS, ofV, Yj, Nat.reduceAdd, Nat.reduceSub, Nat.reduceLT, Nat.reduceLeDiff, reduceIte, reduceCtorEq, Nat.reduceEqDiff, implies_true, forall_const, lawV])
  refine ⟨fun h6 => ?_, fun h6 => ?_⟩
  · rw [if_pos (by simpa using h6)]; rfl
  rw [if_neg (by simpa using h6)]
  (refine callV_pc p3 ?_; simp only [vcS, ↓Xn, ↓Xo, ↓Xg, ↓Xd, ↓Xe, ↓Xf, XQ, XG, gvU, setR, orN, Yl, Xm, Yn, Yi, Xa, Ym, Xc, Xc.sizeIs, reS, Xj, Yb, mmS, Xq, dstS, srcS, XP, XN, XO, Yc, XA, Yg, Xy, XE, endV, gdst, Yk, XR, Yd, goR, XC, sBox, XU, XH, Xr, sNil, XL, Xt, XV, Xv, goD, valD, XI, XF, XB, dNil, XK, XD, dBox, dN, Xz, opL, idxs, pv, XX, Ya, XJ, Xb, Xu, oBin, oUn, Ye, XW, Xw, Xx, Xh, Xk, XY, XS, oLen, lenS, Yh, ev, lk, Vc.put, fits, kd, sz, Tryz.VΓ, Tryz.Γs, bin, binI, binS, ifK, ar, eqB, eqS, eqK, eqK.eqF, negB, bnds, optE, XM, Vc.cells, isV, Vc.one, Xs, getB, setB, XZ, Xp, Xi, Yf, Xl, XT, resS, tupS, ofV, Yj, Nat.reduceAdd, Nat.reduceSub, Nat.reduceLT, Nat.reduceLeDiff, reduceIte, reduceCtorEq, Nat.reduceEqDiff, implies_true, forall_const, lawV])
  refine ⟨fun h7 => ?_, fun h7 => ?_⟩
  · rw [if_pos (by simpa using h7)]; rfl
  rw [if_neg (by simpa using h7)]
  unfold urlEnd
  (refine callV_pc p4 ?_; simp only [vcS, ↓Xn, ↓Xo, ↓Xg, ↓Xd, ↓Xe, ↓Xf, XQ, XG, gvU, setR, orN, Yl, Xm, Yn, Yi, Xa, Ym, Xc, Xc.sizeIs, reS, Xj, Yb, mmS, Xq, dstS, srcS, XP, XN, XO, Yc, XA, Yg, Xy, XE, endV, gdst, Yk, XR, Yd, goR, XC, sBox, XU, XH, Xr, sNil, XL, Xt, XV, Xv, goD, valD, XI, XF, XB, dNil, XK, XD, dBox, dN, Xz, opL, idxs, pv, XX, Ya, XJ, Xb, Xu, oBin, oUn, Ye, XW, Xw, Xx, Xh, Xk, XY, XS, oLen, lenS, Yh, ev, lk, Vc.put, fits, kd, sz, Tryz.VΓ, Tryz.Γs, bin, binI, binS, ifK, ar, eqB, eqS, eqK, eqK.eqF, negB, bnds, optE, XM, Vc.cells, isV, Vc.one, Xs, getB, setB, XZ, Xp, Xi, Yf, Xl, XT, resS, tupS, ofV, Yj, Nat.reduceAdd, Nat.reduceSub, Nat.reduceLT, Nat.reduceLeDiff, reduceIte, reduceCtorEq, Nat.reduceEqDiff, implies_true, forall_const, lawV])
  generalize removeDots n1 = d at hD ⊢
  have fin : ∀ d' : Bytes, d'.length ≤ 4096 * 6 → PC Tryz.V 59 [wsv ⟨hh, pp, d', n2, n3, r.hasQuery, r.hasFrag⟩] (.str (urlText ⟨hh, pp, d', n2, n3, r.hasQuery, r.hasFrag⟩)) := fun d' hd' =>
    p_url_Format _ ⟨by simp only; omega, by simp only; omega, by simp only; omega⟩
  unfold wsv at fin
  refine ⟨fun h8 => ?_, fun h8 => ?_⟩
  · have f1 := fin [47] (by decide)
    have h8' : d = [] := by simpa using h8
    rw [if_pos h8']
    (refine callV_pc f1 ?_; simp only [vcS, ↓Xn, ↓Xo, ↓Xg, ↓Xd, ↓Xe, ↓Xf, XQ, XG, gvU, setR, orN, Yl, Xm, Yn, Yi, Xa, Ym, Xc, Xc.sizeIs, reS, Xj, Yb, mmS, Xq, dstS, srcS, XP, XN, XO, Yc, XA, Yg, Xy, XE, endV, gdst, Yk, XR, Yd, goR, XC, sBox, XU, XH, Xr, sNil, XL, Xt, XV, Xv, goD, valD, XI, XF, XB, dNil, XK, XD, dBox, dN, Xz, opL, idxs, pv, XX, Ya, XJ, Xb, Xu, oBin, oUn, Ye, XW, Xw, Xx, Xh, Xk, XY, XS, oLen, lenS, Yh, ev, lk, Vc.put, fits, kd, sz, Tryz.VΓ, Tryz.Γs, bin, binI, binS, ifK, ar, eqB, eqS, eqK, eqK.eqF, negB, bnds, optE, XM, Vc.cells, isV, Vc.one, Xs, getB, setB, XZ, Xp, Xi, Yf, Xl, XT, resS, tupS, ofV, Yj, Nat.reduceAdd, Nat.reduceSub, Nat.reduceLT, Nat.reduceLeDiff, reduceIte, reduceCtorEq, Nat.reduceEqDiff, implies_true, forall_const, lawV])
    refine ⟨fun h9 => ?_, fun h9 => ?_⟩
    · rw [if_pos (by simp at h9; omega)]; rfl
    · rw [if_neg (by simp at h9; omega)]; rfl
  · have f1 := fin d (by omega)
    have h8' : ¬ d = [] := by simpa using h8
    rw [if_neg h8']
    (refine callV_pc f1 ?_; simp only [vcS, ↓Xn, ↓Xo, ↓Xg, ↓Xd, ↓Xe, ↓Xf, XQ, XG, gvU, setR, orN, Yl, Xm, Yn, Yi, Xa, Ym, Xc, Xc.sizeIs, reS, Xj, Yb, mmS, Xq, dstS, srcS, XP, XN, XO, Yc, XA, Yg, Xy, XE, endV, gdst, Yk, XR, Yd, goR, XC, sBox, XU, XH, Xr, sNil, XL, Xt, XV, Xv, goD, valD, XI, XF, XB, dNil, XK, XD, dBox, dN, Xz, opL, idxs, pv, XX, Ya, XJ, Xb, Xu, oBin, oUn, Ye, XW, Xw, Xx, Xh, Xk, XY, XS, oLen, lenS, Yh, ev, lk, Vc.put, fits, kd, sz, Tryz.VΓ, Tryz.Γs, bin, binI, binS, ifK, ar, eqB, eqS, eqK, eqK.eqF, negB, bnds, optE, XM, Vc.cells, isV, Vc.one, Xs, getB, setB, XZ, Xp, Xi, Yf, Xl, XT, resS, tupS, ofV, Yj, Nat.reduceAdd, Nat.reduceSub, Nat.reduceLT, Nat.reduceLeDiff, reduceIte, reduceCtorEq, Nat.reduceEqDiff, implies_true, forall_const, lawV])
    refine ⟨fun h9 => ?_, fun h9 => ?_⟩
    · rw [if_pos (by simp at h9; omega)]; rfl
    · rw [if_neg (by simp at h9; omega)]; rfl
end Go.Proofs.YtcndmooeglfilaaGreatDoor
/- The walk of the reference's Parse. -/
set_option linter.all false
set_option maxRecDepth 20000
namespace Go.Proofs.YtcndmooeglfilaaGreatDoor
open Go Vc Go.RowKit Wf
set_option linter.unusedSimpArgs false
set_option maxRecDepth 20000 in
set_option maxHeartbeats 4000000 in
theorem p_r7_Parse (s : Bytes) : PC Tryz.V 26 [.str s] (.tup [wsv (urlParse s).1, .int .i64 (urlParse s).2]) := by
  refine pc_of 3000 Tryz.func26 rfl Tryz.ntmps26 Tryz.results26 Tryz.call26 (by simp) (by simp [flat, flat.flatL]) (by simp [flat, flat.flatL, wsv]) ?_
  simp only [vcS, ↓Xn, ↓Xo, ↓Xg, ↓Xd, ↓Xe, ↓Xf, XQ, XG, gvU, setR, orN, Yl, Xm, Yn, Yi, Xa, Ym, Xc, Xc.sizeIs, reS, Xj, Yb, mmS, Xq, dstS, srcS, XP, XN, XO, Yc, XA, Yg, Xy, XE, endV, gdst, Yk, XR, Yd, goR, XC, sBox, XU, XH, Xr, sNil, XL, Xt, XV, Xv, goD, valD, XI, XF, XB, dNil, XK, XD, dBox, dN, Xz, opL, idxs, pv, XX, Ya, XJ, Xb, Xu, oBin, oUn, Ye, XW, Xw, Xx, Xh, Xk, XY, XS, oLen, lenS, Yh, ev, lk, Vc.put, fits, kd, sz, Tryz.VΓ, Tryz.Γs, bin, binI, binS, ifK, ar, eqB, eqS, eqK, eqK.eqF, negB, bnds, optE, XM, Vc.cells, isV, Vc.one, Xs, getB, setB, XZ, Xp, Xi, Yf, Xl, XT, resS, tupS, ofV, Yj, Nat.reduceAdd, Nat.reduceSub, Nat.reduceLT, Nat.reduceLeDiff, reduceIte, reduceCtorEq, Nat.reduceEqDiff, implies_true, forall_const, lawV]
  refine ⟨fun h => ?_, fun h => ?_⟩
  · have : urlParse s = (Url.none, 5) := if_pos (by simp at h; omega)
    rw [this]; rfl
  have hl : ¬ 4096 < s.length := (by simp at h; omega)
  have hq : urlParse s = if (uriSplit s).2 ≠ 0 then (Url.none, (uriSplit s).2) else urlOf (uriSplit s).1 := if_neg hl
  rw [hq]
  have ps := p_r6_Split s
  unfold usv at ps
  have hp := split_path s
  have hz := split_size s
  revert ps hp hz
  generalize uriSplit s = us
  obtain ⟨r, c⟩ := us
  intro ps hp hz
  simp only at ps hp hz
  simp only
  unfold Uri.size at hz
  have pl := p_r1_Equal r.scheme https (by omega) (by decide)
  have pn := p_r1_Index r.authority [64] (by omega) (by decide)
  have hpm := pre_mem r.authority 64
  have hpl := pre_le (· == 64) r.authority
  rw [show (List.contains [64] · : UInt8 → Bool) = (· == 64) from by funext c; simp; exact (Bool.beq_eq_decide_eq _ _).symm] at pn
  have ph := p_r5_Parse r.authority (by omega)
  have p1 := p_r3_Normalize r.path inPath (by decide)
  have p2 := p_r3_Normalize r.query inQuery (by decide)
  have p3 := p_r3_Normalize r.fragment inQuery (by decide)
  (refine callV_pc (ps) ?_; simp only [vcS, ↓Xn, ↓Xo, ↓Xg, ↓Xd, ↓Xe, ↓Xf, XQ, XG, gvU, setR, orN, Yl, Xm, Yn, Yi, Xa, Ym, Xc, Xc.sizeIs, reS, Xj, Yb, mmS, Xq, dstS, srcS, XP, XN, XO, Yc, XA, Yg, Xy, XE, endV, gdst, Yk, XR, Yd, goR, XC, sBox, XU, XH, Xr, sNil, XL, Xt, XV, Xv, goD, valD, XI, XF, XB, dNil, XK, XD, dBox, dN, Xz, opL, idxs, pv, XX, Ya, XJ, Xb, Xu, oBin, oUn, Ye, XW, Xw, Xx, Xh, Xk, XY, XS, oLen, lenS, Yh, ev, lk, Vc.put, fits, kd, sz, Tryz.VΓ, Tryz.Γs, bin, binI, binS, ifK, ar, eqB, eqS, eqK, eqK.eqF, negB, bnds, optE, XM, Vc.cells, isV, Vc.one, Xs, getB, setB, XZ, Xp, Xi, Yf, Xl, XT, resS, tupS, ofV, Yj, Nat.reduceAdd, Nat.reduceSub, Nat.reduceLT, Nat.reduceLeDiff, reduceIte, reduceCtorEq, Nat.reduceEqDiff, implies_true, forall_const, lawV])
  refine ⟨fun h1 => ?_, fun h1 => ?_⟩
  · rw [if_pos (by simpa using h1)]; rfl
  rw [if_neg (by simpa using h1)]
  unfold urlOf
  cases hsc : r.hasScheme
  · simp only [vcS, ↓Xn, ↓Xo, ↓Xg, ↓Xd, ↓Xe, ↓Xf, XQ, XG, gvU, setR, orN, Yl, Xm, Yn, Yi, Xa, Ym, Xc, Xc.sizeIs, reS, Xj, Yb, mmS, Xq, dstS, srcS, XP, XN, XO, Yc, XA, Yg, Xy, XE, endV, gdst, Yk, XR, Yd, goR, XC, sBox, XU, XH, Xr, sNil, XL, Xt, XV, Xv, goD, valD, XI, XF, XB, dNil, XK, XD, dBox, dN, Xz, opL, idxs, pv, XX, Ya, XJ, Xb, Xu, oBin, oUn, Ye, XW, Xw, Xx, Xh, Xk, XY, XS, oLen, lenS, Yh, ev, lk, Vc.put, fits, kd, sz, Tryz.VΓ, Tryz.Γs, bin, binI, binS, ifK, ar, eqB, eqS, eqK, eqK.eqF, negB, bnds, optE, XM, Vc.cells, isV, Vc.one, Xs, getB, setB, XZ, Xp, Xi, Yf, Xl, XT, resS, tupS, ofV, Yj, Nat.reduceAdd, Nat.reduceSub, Nat.reduceLT, Nat.reduceLeDiff, reduceIte, reduceCtorEq, Nat.reduceEqDiff, implies_true, forall_const, lawV, hsc]
    rw [if_pos (.inl trivial)]; rfl
  simp only [vcS, ↓Xn, ↓Xo, ↓Xg, ↓Xd, ↓Xe, ↓Xf, XQ, XG, gvU, setR, orN, Yl, Xm, Yn, Yi, Xa, Ym, Xc, Xc.sizeIs, reS, Xj, Yb, mmS, Xq, dstS, srcS, XP, XN, XO, Yc, XA, Yg, Xy, XE, endV, gdst, Yk, XR, Yd, goR, XC, sBox, XU, XH, Xr, sNil, XL, Xt, XV, Xv, goD, valD, XI, XF, XB, dNil, XK, XD, dBox, dN, Xz, opL, idxs, pv, XX, Ya, XJ, Xb, Xu, oBin, oUn, Ye, XW, Xw, Xx, Xh, Xk, XY, XS, oLen, lenS, Yh, ev, lk, Vc.put, fits, kd, sz, Tryz.VΓ, Tryz.Γs, bin, binI, binS, ifK, ar, eqB, eqS, eqK, eqK.eqF, negB, bnds, optE, XM, Vc.cells, isV, Vc.one, Xs, getB, setB, XZ, Xp, Xi, Yf, Xl, XT, resS, tupS, ofV, Yj, Nat.reduceAdd, Nat.reduceSub, Nat.reduceLT, Nat.reduceLeDiff, reduceIte, reduceCtorEq, Nat.reduceEqDiff, implies_true, forall_const, lawV, hsc]
  rw [show lower https = https by decide] at pl
  (refine callV_pc pl ?_; simp only [vcS, ↓Xn, ↓Xo, ↓Xg, ↓Xd, ↓Xe, ↓Xf, XQ, XG, gvU, setR, orN, Yl, Xm, Yn, Yi, Xa, Ym, Xc, Xc.sizeIs, reS, Xj, Yb, mmS, Xq, dstS, srcS, XP, XN, XO, Yc, XA, Yg, Xy, XE, endV, gdst, Yk, XR, Yd, goR, XC, sBox, XU, XH, Xr, sNil, XL, Xt, XV, Xv, goD, valD, XI, XF, XB, dNil, XK, XD, dBox, dN, Xz, opL, idxs, pv, XX, Ya, XJ, Xb, Xu, oBin, oUn, Ye, XW, Xw, Xx, Xh, Xk, XY, XS, oLen, lenS, Yh, ev, lk, Vc.put, fits, kd, sz, Tryz.VΓ, Tryz.Γs, bin, binI, binS, ifK, ar, eqB, eqS, eqK, eqK.eqF, negB, bnds, optE, XM, Vc.cells, isV, Vc.one, Xs, getB, setB, XZ, Xp, Xi, Yf, Xl, XT, resS, tupS, ofV, Yj, Nat.reduceAdd, Nat.reduceSub, Nat.reduceLT, Nat.reduceLeDiff, reduceIte, reduceCtorEq, Nat.reduceEqDiff, implies_true, forall_const, lawV, hsc])
  refine ⟨fun h2 => ?_, fun h2 => ?_⟩
  · rw [if_pos (.inr (by simpa using h2))]; rfl
  rw [if_neg (by simpa using h2)]
  cases hau : r.hasAuthority
  · simp only [vcS, ↓Xn, ↓Xo, ↓Xg, ↓Xd, ↓Xe, ↓Xf, XQ, XG, gvU, setR, orN, Yl, Xm, Yn, Yi, Xa, Ym, Xc, Xc.sizeIs, reS, Xj, Yb, mmS, Xq, dstS, srcS, XP, XN, XO, Yc, XA, Yg, Xy, XE, endV, gdst, Yk, XR, Yd, goR, XC, sBox, XU, XH, Xr, sNil, XL, Xt, XV, Xv, goD, valD, XI, XF, XB, dNil, XK, XD, dBox, dN, Xz, opL, idxs, pv, XX, Ya, XJ, Xb, Xu, oBin, oUn, Ye, XW, Xw, Xx, Xh, Xk, XY, XS, oLen, lenS, Yh, ev, lk, Vc.put, fits, kd, sz, Tryz.VΓ, Tryz.Γs, bin, binI, binS, ifK, ar, eqB, eqS, eqK, eqK.eqF, negB, bnds, optE, XM, Vc.cells, isV, Vc.one, Xs, getB, setB, XZ, Xp, Xi, Yf, Xl, XT, resS, tupS, ofV, Yj, Nat.reduceAdd, Nat.reduceSub, Nat.reduceLT, Nat.reduceLeDiff, reduceIte, reduceCtorEq, Nat.reduceEqDiff, implies_true, forall_const, lawV, hau]
    rfl
  simp only [vcS, ↓Xn, ↓Xo, ↓Xg, ↓Xd, ↓Xe, ↓Xf, XQ, XG, gvU, setR, orN, Yl, Xm, Yn, Yi, Xa, Ym, Xc, Xc.sizeIs, reS, Xj, Yb, mmS, Xq, dstS, srcS, XP, XN, XO, Yc, XA, Yg, Xy, XE, endV, gdst, Yk, XR, Yd, goR, XC, sBox, XU, XH, Xr, sNil, XL, Xt, XV, Xv, goD, valD, XI, XF, XB, dNil, XK, XD, dBox, dN, Xz, opL, idxs, pv, XX, Ya, XJ, Xb, Xu, oBin, oUn, Ye, XW, Xw, Xx, Xh, Xk, XY, XS, oLen, lenS, Yh, ev, lk, Vc.put, fits, kd, sz, Tryz.VΓ, Tryz.Γs, bin, binI, binS, ifK, ar, eqB, eqS, eqK, eqK.eqF, negB, bnds, optE, XM, Vc.cells, isV, Vc.one, Xs, getB, setB, XZ, Xp, Xi, Yf, Xl, XT, resS, tupS, ofV, Yj, Nat.reduceAdd, Nat.reduceSub, Nat.reduceLT, Nat.reduceLeDiff, reduceIte, reduceCtorEq, Nat.reduceEqDiff, implies_true, forall_const, lawV, hau]
  (refine callD_pc pn ?_; simp only [vcS, ↓Xn, ↓Xo, ↓Xg, ↓Xd, ↓Xe, ↓Xf, XQ, XG, gvU, setR, orN, Yl, Xm, Yn, Yi, Xa, Ym, Xc, Xc.sizeIs, reS, Xj, Yb, mmS, Xq, dstS, srcS, XP, XN, XO, Yc, XA, Yg, Xy, XE, endV, gdst, Yk, XR, Yd, goR, XC, sBox, XU, XH, Xr, sNil, XL, Xt, XV, Xv, goD, valD, XI, XF, XB, dNil, XK, XD, dBox, dN, Xz, opL, idxs, pv, XX, Ya, XJ, Xb, Xu, oBin, oUn, Ye, XW, Xw, Xx, Xh, Xk, XY, XS, oLen, lenS, Yh, ev, lk, Vc.put, fits, kd, sz, Tryz.VΓ, Tryz.Γs, bin, binI, binS, ifK, ar, eqB, eqS, eqK, eqK.eqF, negB, bnds, optE, XM, Vc.cells, isV, Vc.one, Xs, getB, setB, XZ, Xp, Xi, Yf, Xl, XT, resS, tupS, ofV, Yj, Nat.reduceAdd, Nat.reduceSub, Nat.reduceLT, Nat.reduceLeDiff, reduceIte, reduceCtorEq, Nat.reduceEqDiff, implies_true, forall_const, lawV, hau])
  refine ⟨(OkD_fast (by kernel_rfl)), fun h3 => ?_, fun h3 => ?_⟩
  · rw [if_pos (hpm.1 (by simp at h3; omega))]; rfl
  rw [if_neg (fun k => absurd (hpm.2 k) (by simp at h3; omega))]
  unfold urlParts
  (refine callV_pc ph ?_; simp only [vcS, ↓Xn, ↓Xo, ↓Xg, ↓Xd, ↓Xe, ↓Xf, XQ, XG, gvU, setR, orN, Yl, Xm, Yn, Yi, Xa, Ym, Xc, Xc.sizeIs, reS, Xj, Yb, mmS, Xq, dstS, srcS, XP, XN, XO, Yc, XA, Yg, Xy, XE, endV, gdst, Yk, XR, Yd, goR, XC, sBox, XU, XH, Xr, sNil, XL, Xt, XV, Xv, goD, valD, XI, XF, XB, dNil, XK, XD, dBox, dN, Xz, opL, idxs, pv, XX, Ya, XJ, Xb, Xu, oBin, oUn, Ye, XW, Xw, Xx, Xh, Xk, XY, XS, oLen, lenS, Yh, ev, lk, Vc.put, fits, kd, sz, Tryz.VΓ, Tryz.Γs, bin, binI, binS, ifK, ar, eqB, eqS, eqK, eqK.eqF, negB, bnds, optE, XM, Vc.cells, isV, Vc.one, Xs, getB, setB, XZ, Xp, Xi, Yf, Xl, XT, resS, tupS, ofV, Yj, Nat.reduceAdd, Nat.reduceSub, Nat.reduceLT, Nat.reduceLeDiff, reduceIte, reduceCtorEq, Nat.reduceEqDiff, implies_true, forall_const, lawV, hau])
  refine ⟨fun h4 => ?_, fun h4 => ?_⟩
  · rw [if_pos (by simpa using h4)]; rfl
  rw [if_neg (by simpa using h4)]
  have hN1 := pctNorm_len inPath r.path
  have hN2 := pctNorm_len inQuery r.query
  have hN3 := pctNorm_len inQuery r.fragment
  have hH := hostPort_ok r.authority (by simpa using h4)
  have p4 := p_r6_RemoveDots (pctNorm inPath r.path).1 (by omega)
  have hD := removeDots_len (pctNorm inPath r.path).1
  generalize pctNorm inPath r.path = n1 at p1 p4 hN1 hD ⊢
  generalize pctNorm inQuery r.query = n2 at p2 hN2 ⊢
  generalize pctNorm inQuery r.fragment = n3 at p3 hN3 ⊢
  generalize (hostPort r.authority).1 = hp at hH ⊢
  obtain ⟨n1, e1⟩ := n1
  obtain ⟨n2, e2⟩ := n2
  obtain ⟨n3, e3⟩ := n3
  obtain ⟨hh, pp⟩ := hp
  simp only at p1 p2 p3 p4 hN1 hN2 hN3 hH hD ⊢
  (refine callV_pc p1 ?_; simp only [vcS, ↓Xn, ↓Xo, ↓Xg, ↓Xd, ↓Xe, ↓Xf, XQ, XG, gvU, setR, orN, Yl, Xm, Yn, Yi, Xa, Ym, Xc, Xc.sizeIs, reS, Xj, Yb, mmS, Xq, dstS, srcS, XP, XN, XO, Yc, XA, Yg, Xy, XE, endV, gdst, Yk, XR, Yd, goR, XC, sBox, XU, XH, Xr, sNil, XL, Xt, XV, Xv, goD, valD, XI, XF, XB, dNil, XK, XD, dBox, dN, Xz, opL, idxs, pv, XX, Ya, XJ, Xb, Xu, oBin, oUn, Ye, XW, Xw, Xx, Xh, Xk, XY, XS, oLen, lenS, Yh, ev, lk, Vc.put, fits, kd, sz, Tryz.VΓ, Tryz.Γs, bin, binI, binS, ifK, ar, eqB, eqS, eqK, eqK.eqF, negB, bnds, optE, XM, Vc.cells, isV, Vc.one, Xs, getB, setB, XZ, Xp, Xi, Yf, Xl, XT, resS, tupS, ofV, Yj, Nat.reduceAdd, Nat.reduceSub, Nat.reduceLT, Nat.reduceLeDiff, reduceIte, reduceCtorEq, Nat.reduceEqDiff, implies_true, forall_const, lawV])
  refine ⟨fun h5 => ?_, fun h5 => ?_⟩
  · rw [if_pos (by simpa using h5)]; rfl
  rw [if_neg (by simpa using h5)]
  (refine callV_pc p2 ?_; simp only [vcS, ↓Xn, ↓Xo, ↓Xg, ↓Xd, ↓Xe, ↓Xf, XQ, XG, gvU, setR, orN, Yl, Xm, Yn, Yi, Xa, Ym, Xc, Xc.sizeIs, reS, Xj, Yb, mmS, Xq, dstS, srcS, XP, XN, XO, Yc, XA, Yg, Xy, XE, endV, gdst, Yk, XR, Yd, goR, XC, sBox, XU, XH, Xr, sNil, XL, Xt, XV, Xv, goD, valD, XI, XF, XB, dNil, XK, XD, dBox, dN, Xz, opL, idxs, pv, XX, Ya, XJ, Xb, Xu, oBin, oUn, Ye, XW, Xw, Xx, Xh, Xk, XY, XS, oLen, lenS, Yh, ev, lk, Vc.put, fits, kd, sz, Tryz.VΓ, Tryz.Γs, bin, binI, binS, ifK, ar, eqB, eqS, eqK, eqK.eqF, negB, bnds, optE, XM, Vc.cells, isV, Vc.one, Xs, getB, setB, XZ, Xp, Xi, Yf, Xl, XT, resS, tupS, ofV, Yj, Nat.reduceAdd, Nat.reduceSub, Nat.reduceLT, Nat.reduceLeDiff, reduceIte, reduceCtorEq, Nat.reduceEqDiff, implies_true, forall_const, lawV])
  refine ⟨fun h6 => ?_, fun h6 => ?_⟩
  · rw [if_pos (by simpa using h6)]; rfl
  rw [if_neg (by simpa using h6)]
  (refine callV_pc p3 ?_; simp only [vcS, ↓Xn, ↓Xo, ↓Xg, ↓Xd, ↓Xe, ↓Xf, XQ, XG, gvU, setR, orN, Yl, Xm, Yn, Yi, Xa, Ym, Xc, Xc.sizeIs, reS, Xj, Yb, mmS, Xq, dstS, srcS, XP, XN, XO, Yc, XA, Yg, Xy, XE, endV, gdst, Yk, XR, Yd, goR, XC, sBox, XU, XH, Xr, sNil, XL, Xt, XV, Xv, goD, valD, XI, XF, XB, dNil, XK, XD, dBox, dN, Xz, opL, idxs, pv, XX, Ya, XJ, Xb, Xu, oBin, oUn, Ye, XW, Xw, Xx, Xh, Xk, XY, XS, oLen, lenS, Yh, ev, lk, Vc.put, fits, kd, sz, Tryz.VΓ, Tryz.Γs, bin, binI, binS, ifK, ar, eqB, eqS, eqK, eqK.eqF, negB, bnds, optE, XM, Vc.cells, isV, Vc.one, Xs, getB, setB, XZ, Xp, Xi, Yf, Xl, XT, resS, tupS, ofV, Yj, Nat.reduceAdd, Nat.reduceSub, Nat.reduceLT, Nat.reduceLeDiff, reduceIte, reduceCtorEq, Nat.reduceEqDiff, implies_true, forall_const, lawV])
  refine ⟨fun h7 => ?_, fun h7 => ?_⟩
  · rw [if_pos (by simpa using h7)]; rfl
  rw [if_neg (by simpa using h7)]
  unfold urlEnd
  (refine callV_pc p4 ?_; simp only [vcS, ↓Xn, ↓Xo, ↓Xg, ↓Xd, ↓Xe, ↓Xf, XQ, XG, gvU, setR, orN, Yl, Xm, Yn, Yi, Xa, Ym, Xc, Xc.sizeIs, reS, Xj, Yb, mmS, Xq, dstS, srcS, XP, XN, XO, Yc, XA, Yg, Xy, XE, endV, gdst, Yk, XR, Yd, goR, XC, sBox, XU, XH, Xr, sNil, XL, Xt, XV, Xv, goD, valD, XI, XF, XB, dNil, XK, XD, dBox, dN, Xz, opL, idxs, pv, XX, Ya, XJ, Xb, Xu, oBin, oUn, Ye, XW, Xw, Xx, Xh, Xk, XY, XS, oLen, lenS, Yh, ev, lk, Vc.put, fits, kd, sz, Tryz.VΓ, Tryz.Γs, bin, binI, binS, ifK, ar, eqB, eqS, eqK, eqK.eqF, negB, bnds, optE, XM, Vc.cells, isV, Vc.one, Xs, getB, setB, XZ, Xp, Xi, Yf, Xl, XT, resS, tupS, ofV, Yj, Nat.reduceAdd, Nat.reduceSub, Nat.reduceLT, Nat.reduceLeDiff, reduceIte, reduceCtorEq, Nat.reduceEqDiff, implies_true, forall_const, lawV])
  generalize removeDots n1 = d at hD ⊢
  have fin : ∀ d' : Bytes, d'.length ≤ 4096 * 6 → PC Tryz.V 48 [wsv ⟨hh, pp, d', n2, n3, r.hasQuery, r.hasFrag⟩] (.str (urlText ⟨hh, pp, d', n2, n3, r.hasQuery, r.hasFrag⟩)) := fun d' hd' =>
    p_r7_Format _ ⟨by simp only; omega, by simp only; omega, by simp only; omega⟩
  unfold wsv at fin
  refine ⟨fun h8 => ?_, fun h8 => ?_⟩
  · have f1 := fin [47] (by decide)
    have h8' : d = [] := by simpa using h8
    rw [if_pos h8']
    (refine callV_pc f1 ?_; simp only [vcS, ↓Xn, ↓Xo, ↓Xg, ↓Xd, ↓Xe, ↓Xf, XQ, XG, gvU, setR, orN, Yl, Xm, Yn, Yi, Xa, Ym, Xc, Xc.sizeIs, reS, Xj, Yb, mmS, Xq, dstS, srcS, XP, XN, XO, Yc, XA, Yg, Xy, XE, endV, gdst, Yk, XR, Yd, goR, XC, sBox, XU, XH, Xr, sNil, XL, Xt, XV, Xv, goD, valD, XI, XF, XB, dNil, XK, XD, dBox, dN, Xz, opL, idxs, pv, XX, Ya, XJ, Xb, Xu, oBin, oUn, Ye, XW, Xw, Xx, Xh, Xk, XY, XS, oLen, lenS, Yh, ev, lk, Vc.put, fits, kd, sz, Tryz.VΓ, Tryz.Γs, bin, binI, binS, ifK, ar, eqB, eqS, eqK, eqK.eqF, negB, bnds, optE, XM, Vc.cells, isV, Vc.one, Xs, getB, setB, XZ, Xp, Xi, Yf, Xl, XT, resS, tupS, ofV, Yj, Nat.reduceAdd, Nat.reduceSub, Nat.reduceLT, Nat.reduceLeDiff, reduceIte, reduceCtorEq, Nat.reduceEqDiff, implies_true, forall_const, lawV])
    refine ⟨fun h9 => ?_, fun h9 => ?_⟩
    · rw [if_pos (by simp at h9; omega)]; rfl
    · rw [if_neg (by simp at h9; omega)]; rfl
  · have f1 := fin d (by omega)
    have h8' : ¬ d = [] := by simpa using h8
    rw [if_neg h8']
    (refine callV_pc f1 ?_; simp only [vcS, ↓Xn, ↓Xo, ↓Xg, ↓Xd, ↓Xe, ↓Xf, XQ, XG, gvU, setR, orN, Yl, Xm, Yn, Yi, Xa, Ym, Xc, Xc.sizeIs, reS, Xj, Yb, mmS, Xq, dstS, srcS, XP, XN, XO, Yc, XA, Yg, Xy, XE, endV, gdst, Yk, XR, Yd, goR, XC, sBox, XU, XH, Xr, sNil, XL, Xt, XV, Xv, goD, valD, XI, XF, XB, dNil, XK, XD, dBox, dN, Xz, opL, idxs, pv, XX, Ya, XJ, Xb, Xu, oBin, oUn, Ye, XW, Xw, Xx, Xh, Xk, XY, XS, oLen, lenS, Yh, ev, lk, Vc.put, fits, kd, sz, Tryz.VΓ, Tryz.Γs, bin, binI, binS, ifK, ar, eqB, eqS, eqK, eqK.eqF, negB, bnds, optE, XM, Vc.cells, isV, Vc.one, Xs, getB, setB, XZ, Xp, Xi, Yf, Xl, XT, resS, tupS, ofV, Yj, Nat.reduceAdd, Nat.reduceSub, Nat.reduceLT, Nat.reduceLeDiff, reduceIte, reduceCtorEq, Nat.reduceEqDiff, implies_true, forall_const, lawV])
    refine ⟨fun h9 => ?_, fun h9 => ?_⟩
    · rw [if_pos (by simp at h9; omega)]; rfl
    · rw [if_neg (by simp at h9; omega)]; rfl
end Go.Proofs.YtcndmooeglfilaaGreatDoor
/- The walks of Valid and Relative. -/
set_option linter.all false
set_option maxRecDepth 20000
namespace Go.Proofs.YtcndmooeglfilaaGreatDoor
open Go Vc Go.RowKit Wf
set_option linter.unusedSimpArgs false
set_option maxRecDepth 20000 in
set_option maxHeartbeats 2000000 in
theorem p_url_Valid (u : Url) (hk : Fair u) : PC Tryz.V 76 [wsv u] (.bool (urlValid u)) := by
  have pf := p_url_Format u hk
  have pp := p_url_Parse (urlText u)
  unfold wsv at pf pp
  (refine pc_of 3000 Tryz.func76 rfl Tryz.ntmps76 Tryz.results76 Tryz.call76 (by simp) (by simp [flat, flat.flatL, wsv]) (by simp [flat, flat.flatL, wsv]) ?_
   unfold wsv
   simp only [vcS, ↓Xn, ↓Xo, ↓Xg, ↓Xd, ↓Xe, ↓Xf, XQ, XG, gvU, setR, orN, Yl, Xm, Yn, Yi, Xa, Ym, Xc, Xc.sizeIs, reS, Xj, Yb, mmS, Xq, dstS, srcS, XP, XN, XO, Yc, XA, Yg, Xy, XE, endV, gdst, Yk, XR, Yd, goR, XC, sBox, XU, XH, Xr, sNil, XL, Xt, XV, Xv, goD, valD, XI, XF, XB, dNil, XK, XD, dBox, dN, Xz, opL, idxs, pv, XX, Ya, XJ, Xb, Xu, oBin, oUn, Ye, XW, Xw, Xx, Xh, Xk, XY, XS, oLen, lenS, Yh, ev, lk, Vc.put, fits, kd, sz, Tryz.VΓ, Tryz.Γs, bin, binI, binS, ifK, ar, eqB, eqS, eqK, eqK.eqF, negB, bnds, optE, XM, Vc.cells, isV, Vc.one, Xs, getB, setB, XZ, Xp, Xi, Yf, Xl, XT, resS, tupS, ofV, Yj, Nat.reduceAdd, Nat.reduceSub, Nat.reduceLT, Nat.reduceLeDiff, reduceIte, reduceCtorEq, Nat.reduceEqDiff, implies_true, forall_const, lawV])
  (refine callV_pc (pf) ?_; simp only [vcS, ↓Xn, ↓Xo, ↓Xg, ↓Xd, ↓Xe, ↓Xf, XQ, XG, gvU, setR, orN, Yl, Xm, Yn, Yi, Xa, Ym, Xc, Xc.sizeIs, reS, Xj, Yb, mmS, Xq, dstS, srcS, XP, XN, XO, Yc, XA, Yg, Xy, XE, endV, gdst, Yk, XR, Yd, goR, XC, sBox, XU, XH, Xr, sNil, XL, Xt, XV, Xv, goD, valD, XI, XF, XB, dNil, XK, XD, dBox, dN, Xz, opL, idxs, pv, XX, Ya, XJ, Xb, Xu, oBin, oUn, Ye, XW, Xw, Xx, Xh, Xk, XY, XS, oLen, lenS, Yh, ev, lk, Vc.put, fits, kd, sz, Tryz.VΓ, Tryz.Γs, bin, binI, binS, ifK, ar, eqB, eqS, eqK, eqK.eqF, negB, bnds, optE, XM, Vc.cells, isV, Vc.one, Xs, getB, setB, XZ, Xp, Xi, Yf, Xl, XT, resS, tupS, ofV, Yj, Nat.reduceAdd, Nat.reduceSub, Nat.reduceLT, Nat.reduceLeDiff, reduceIte, reduceCtorEq, Nat.reduceEqDiff, implies_true, forall_const, lawV])
  (refine callV_pc (pp) ?_; simp only [vcS, ↓Xn, ↓Xo, ↓Xg, ↓Xd, ↓Xe, ↓Xf, XQ, XG, gvU, setR, orN, Yl, Xm, Yn, Yi, Xa, Ym, Xc, Xc.sizeIs, reS, Xj, Yb, mmS, Xq, dstS, srcS, XP, XN, XO, Yc, XA, Yg, Xy, XE, endV, gdst, Yk, XR, Yd, goR, XC, sBox, XU, XH, Xr, sNil, XL, Xt, XV, Xv, goD, valD, XI, XF, XB, dNil, XK, XD, dBox, dN, Xz, opL, idxs, pv, XX, Ya, XJ, Xb, Xu, oBin, oUn, Ye, XW, Xw, Xx, Xh, Xk, XY, XS, oLen, lenS, Yh, ev, lk, Vc.put, fits, kd, sz, Tryz.VΓ, Tryz.Γs, bin, binI, binS, ifK, ar, eqB, eqS, eqK, eqK.eqF, negB, bnds, optE, XM, Vc.cells, isV, Vc.one, Xs, getB, setB, XZ, Xp, Xi, Yf, Xl, XT, resS, tupS, ofV, Yj, Nat.reduceAdd, Nat.reduceSub, Nat.reduceLT, Nat.reduceLeDiff, reduceIte, reduceCtorEq, Nat.reduceEqDiff, implies_true, forall_const, lawV])
  unfold urlValid
  generalize urlParse (urlText u) = x
  obtain ⟨⟨a, b, c, d, e, f, g⟩, y⟩ := x
  obtain ⟨a', b', c', d', e', f', g'⟩ := u
  simp only [eqS, eqB, eqK, eqK.eqF]
  refine ⟨fun h => ?_, fun h => ?_⟩
  · obtain rfl : y = 0 := by simpa using h
    congr 1
    rw [Bool.eq_iff_iff]
    simp only [Bool.and_eq_true, beq_iff_eq, decide_eq_true_eq, Prod.mk.injEq, Url.mk.injEq, and_true]
    constructor <;> (rintro ⟨rfl, rfl, rfl, rfl, rfl, rfl, rfl⟩; exact ⟨rfl, rfl, rfl, rfl, rfl, rfl, rfl⟩)
  · congr 1
    exact (decide_eq_false (fun k => by rw [(Prod.mk.inj k).2] at h; simp at h)).symm
set_option maxRecDepth 20000 in
set_option maxHeartbeats 2000000 in
theorem p_r7_Valid (u : Url) (hk : Fair u) : PC Tryz.V 18 [wsv u] (.bool (urlValid u)) := by
  have pf := p_r7_Format u hk
  have pp := p_r7_Parse (urlText u)
  unfold wsv at pf pp
  (refine pc_of 3000 Tryz.func18 rfl Tryz.ntmps18 Tryz.results18 Tryz.call18 (by simp) (by simp [flat, flat.flatL, wsv]) (by simp [flat, flat.flatL, wsv]) ?_
   unfold wsv
   simp only [vcS, ↓Xn, ↓Xo, ↓Xg, ↓Xd, ↓Xe, ↓Xf, XQ, XG, gvU, setR, orN, Yl, Xm, Yn, Yi, Xa, Ym, Xc, Xc.sizeIs, reS, Xj, Yb, mmS, Xq, dstS, srcS, XP, XN, XO, Yc, XA, Yg, Xy, XE, endV, gdst, Yk, XR, Yd, goR, XC, sBox, XU, XH, Xr, sNil, XL, Xt, XV, Xv, goD, valD, XI, XF, XB, dNil, XK, XD, dBox, dN, Xz, opL, idxs, pv, XX, Ya, XJ, Xb, Xu, oBin, oUn, Ye, XW, Xw, Xx, Xh, Xk, XY, XS, oLen, lenS, Yh, ev, lk, Vc.put, fits, kd, sz, Tryz.VΓ, Tryz.Γs, bin, binI, binS, ifK, ar, eqB, eqS, eqK, eqK.eqF, negB, bnds, optE, XM, Vc.cells, isV, Vc.one, Xs, getB, setB, XZ, Xp, Xi, Yf, Xl, XT, resS, tupS, ofV, Yj, Nat.reduceAdd, Nat.reduceSub, Nat.reduceLT, Nat.reduceLeDiff, reduceIte, reduceCtorEq, Nat.reduceEqDiff, implies_true, forall_const, lawV])
  (refine callV_pc (pf) ?_; simp only [vcS, ↓Xn, ↓Xo, ↓Xg, ↓Xd, ↓Xe, ↓Xf, XQ, XG, gvU, setR, orN, Yl, Xm, Yn, Yi, Xa, Ym, Xc, Xc.sizeIs, reS, Xj, Yb, mmS, Xq, dstS, srcS, XP, XN, XO, Yc, XA, Yg, Xy, XE, endV, gdst, Yk, XR, Yd, goR, XC, sBox, XU, XH, Xr, sNil, XL, Xt, XV, Xv, goD, valD, XI, XF, XB, dNil, XK, XD, dBox, dN, Xz, opL, idxs, pv, XX, Ya, XJ, Xb, Xu, oBin, oUn, Ye, XW, Xw, Xx, Xh, Xk, XY, XS, oLen, lenS, Yh, ev, lk, Vc.put, fits, kd, sz, Tryz.VΓ, Tryz.Γs, bin, binI, binS, ifK, ar, eqB, eqS, eqK, eqK.eqF, negB, bnds, optE, XM, Vc.cells, isV, Vc.one, Xs, getB, setB, XZ, Xp, Xi, Yf, Xl, XT, resS, tupS, ofV, Yj, Nat.reduceAdd, Nat.reduceSub, Nat.reduceLT, Nat.reduceLeDiff, reduceIte, reduceCtorEq, Nat.reduceEqDiff, implies_true, forall_const, lawV])
  (refine callV_pc (pp) ?_; simp only [vcS, ↓Xn, ↓Xo, ↓Xg, ↓Xd, ↓Xe, ↓Xf, XQ, XG, gvU, setR, orN, Yl, Xm, Yn, Yi, Xa, Ym, Xc, Xc.sizeIs, reS, Xj, Yb, mmS, Xq, dstS, srcS, XP, XN, XO, Yc, XA, Yg, Xy, XE, endV, gdst, Yk, XR, Yd, goR, XC, sBox, XU, XH, Xr, sNil, XL, Xt, XV, Xv, goD, valD, XI, XF, XB, dNil, XK, XD, dBox, dN, Xz, opL, idxs, pv, XX, Ya, XJ, Xb, Xu, oBin, oUn, Ye, XW, Xw, Xx, Xh, Xk, XY, XS, oLen, lenS, Yh, ev, lk, Vc.put, fits, kd, sz, Tryz.VΓ, Tryz.Γs, bin, binI, binS, ifK, ar, eqB, eqS, eqK, eqK.eqF, negB, bnds, optE, XM, Vc.cells, isV, Vc.one, Xs, getB, setB, XZ, Xp, Xi, Yf, Xl, XT, resS, tupS, ofV, Yj, Nat.reduceAdd, Nat.reduceSub, Nat.reduceLT, Nat.reduceLeDiff, reduceIte, reduceCtorEq, Nat.reduceEqDiff, implies_true, forall_const, lawV])
  unfold urlValid
  generalize urlParse (urlText u) = x
  obtain ⟨⟨a, b, c, d, e, f, g⟩, y⟩ := x
  obtain ⟨a', b', c', d', e', f', g'⟩ := u
  simp only [eqS, eqB, eqK, eqK.eqF]
  refine ⟨fun h => ?_, fun h => ?_⟩
  · obtain rfl : y = 0 := by simpa using h
    congr 1
    rw [Bool.eq_iff_iff]
    simp only [Bool.and_eq_true, beq_iff_eq, decide_eq_true_eq, Prod.mk.injEq, Url.mk.injEq, and_true]
    constructor <;> (rintro ⟨rfl, rfl, rfl, rfl, rfl, rfl, rfl⟩; exact ⟨rfl, rfl, rfl, rfl, rfl, rfl, rfl⟩)
  · congr 1
    exact (decide_eq_false (fun k => by rw [(Prod.mk.inj k).2] at h; simp at h)).symm
end Go.Proofs.YtcndmooeglfilaaGreatDoor
/- The walks of Relative. -/
set_option linter.all false
set_option maxRecDepth 20000
namespace Go.Proofs.YtcndmooeglfilaaGreatDoor
open Go Vc Go.RowKit Wf
set_option linter.unusedSimpArgs false
def wsvR (u : Url) : SV := wsv u
end Go.Proofs.YtcndmooeglfilaaGreatDoor
/- The walks of package didweb. -/
set_option linter.all false
set_option maxRecDepth 20000
namespace Go.Proofs.YtcndmooeglfilaaGreatDoor
open Go Vc Go.RowKit Wf
set_option linter.unusedSimpArgs false
set_option maxHeartbeats 2000000 in
theorem p_web_Authority (d : Did) (h : DidFits d) : PC Tryz.V 17 [dsv d] (.tup [.agg [.str (didAuth d).1.1, .int .i64 (didAuth d).1.2], .int .i64 (didAuth d).2]) := by
  have pf := p_did_FormatDID d h
  have pp := p_did_ParseDID (didText d)
  have hf := @auth_first d
  have hd := @auth_dec d
  refine pc_of 3000 Tryz.func17 rfl Tryz.ntmps17 Tryz.results17 Tryz.call17 (by simp) (by simp [flat, flat.flatL, dsv, wsv]) (by simp [flat, flat.flatL, dsv, wsv]) ?_
  unfold dsv
  unfold dsv at pf pp
  unfold didAuth
  simp only [vcS, ↓Xn, ↓Xo, ↓Xg, ↓Xd, ↓Xe, ↓Xf, XQ, XG, gvU, setR, orN, Yl, Xm, Yn, Yi, Xa, Ym, Xc, Xc.sizeIs, reS, Xj, Yb, mmS, Xq, dstS, srcS, XP, XN, XO, Yc, XA, Yg, Xy, XE, endV, gdst, Yk, XR, Yd, goR, XC, sBox, XU, XH, Xr, sNil, XL, Xt, XV, Xv, goD, valD, XI, XF, XB, dNil, XK, XD, dBox, dN, Xz, opL, idxs, pv, XX, Ya, XJ, Xb, Xu, oBin, oUn, Ye, XW, Xw, Xx, Xh, Xk, XY, XS, oLen, lenS, Yh, ev, lk, Vc.put, fits, kd, sz, Tryz.VΓ, Tryz.Γs, bin, binI, binS, ifK, ar, eqB, eqS, eqK, eqK.eqF, negB, bnds, optE, XM, Vc.cells, isV, Vc.one, Xs, getB, setB, XZ, Xp, Xi, Yf, Xl, XT, resS, tupS, ofV, Yj, Nat.reduceAdd, Nat.reduceSub, Nat.reduceLT, Nat.reduceLeDiff, reduceIte, reduceCtorEq, Nat.reduceEqDiff, implies_true, forall_const, lawV]
  refine ⟨fun h1 => (by rw [if_pos (by simpa [webS] using h1)]), fun h1 => ?_⟩
  have h1 : d.method = webS := by simpa [webS] using h1
  rw [if_neg (by simp [h1])]
  (refine callV_pc pf ?_; simp only [vcS, ↓Xn, ↓Xo, ↓Xg, ↓Xd, ↓Xe, ↓Xf, XQ, XG, gvU, setR, orN, Yl, Xm, Yn, Yi, Xa, Ym, Xc, Xc.sizeIs, reS, Xj, Yb, mmS, Xq, dstS, srcS, XP, XN, XO, Yc, XA, Yg, Xy, XE, endV, gdst, Yk, XR, Yd, goR, XC, sBox, XU, XH, Xr, sNil, XL, Xt, XV, Xv, goD, valD, XI, XF, XB, dNil, XK, XD, dBox, dN, Xz, opL, idxs, pv, XX, Ya, XJ, Xb, Xu, oBin, oUn, Ye, XW, Xw, Xx, Xh, Xk, XY, XS, oLen, lenS, Yh, ev, lk, Vc.put, fits, kd, sz, Tryz.VΓ, Tryz.Γs, bin, binI, binS, ifK, ar, eqB, eqS, eqK, eqK.eqF, negB, bnds, optE, XM, Vc.cells, isV, Vc.one, Xs, getB, setB, XZ, Xp, Xi, Yf, Xl, XT, resS, tupS, ofV, Yj, Nat.reduceAdd, Nat.reduceSub, Nat.reduceLT, Nat.reduceLeDiff, reduceIte, reduceCtorEq, Nat.reduceEqDiff, implies_true, forall_const, lawV])
  (refine callV_pc pp ?_; simp only [vcS, ↓Xn, ↓Xo, ↓Xg, ↓Xd, ↓Xe, ↓Xf, XQ, XG, gvU, setR, orN, Yl, Xm, Yn, Yi, Xa, Ym, Xc, Xc.sizeIs, reS, Xj, Yb, mmS, Xq, dstS, srcS, XP, XN, XO, Yc, XA, Yg, Xy, XE, endV, gdst, Yk, XR, Yd, goR, XC, sBox, XU, XH, Xr, sNil, XL, Xt, XV, Xv, goD, valD, XI, XF, XB, dNil, XK, XD, dBox, dN, Xz, opL, idxs, pv, XX, Ya, XJ, Xb, Xu, oBin, oUn, Ye, XW, Xw, Xx, Xh, Xk, XY, XS, oLen, lenS, Yh, ev, lk, Vc.put, fits, kd, sz, Tryz.VΓ, Tryz.Γs, bin, binI, binS, ifK, ar, eqB, eqS, eqK, eqK.eqF, negB, bnds, optE, XM, Vc.cells, isV, Vc.one, Xs, getB, setB, XZ, Xp, Xi, Yf, Xl, XT, resS, tupS, ofV, Yj, Nat.reduceAdd, Nat.reduceSub, Nat.reduceLT, Nat.reduceLeDiff, reduceIte, reduceCtorEq, Nat.reduceEqDiff, implies_true, forall_const, lawV])
  refine ⟨fun h2 => (by rw [if_pos (by simpa using h2)]), fun h2 => ?_⟩
  have h2 : (didParse (didText d)).2 = 0 := by simpa using h2
  rw [if_neg (by simp [h2])]
  have hf := hf h1 h2
  have hd := hd h1 h2
  have pc := p_Cut d.id 58 (by omega)
  have pd := p_Decode (cutC 58 d.id).1
  rw [hf] at pd ⊢
  have hl1 := cutC_len 58 d.id
  have hl2 := decV_len (cutC 58 d.id).1
  have ph := p_host_Parse (decV (cutC 58 d.id).1) (by omega)
  (refine callV_pc pc ?_; simp only [vcS, ↓Xn, ↓Xo, ↓Xg, ↓Xd, ↓Xe, ↓Xf, XQ, XG, gvU, setR, orN, Yl, Xm, Yn, Yi, Xa, Ym, Xc, Xc.sizeIs, reS, Xj, Yb, mmS, Xq, dstS, srcS, XP, XN, XO, Yc, XA, Yg, Xy, XE, endV, gdst, Yk, XR, Yd, goR, XC, sBox, XU, XH, Xr, sNil, XL, Xt, XV, Xv, goD, valD, XI, XF, XB, dNil, XK, XD, dBox, dN, Xz, opL, idxs, pv, XX, Ya, XJ, Xb, Xu, oBin, oUn, Ye, XW, Xw, Xx, Xh, Xk, XY, XS, oLen, lenS, Yh, ev, lk, Vc.put, fits, kd, sz, Tryz.VΓ, Tryz.Γs, bin, binI, binS, ifK, ar, eqB, eqS, eqK, eqK.eqF, negB, bnds, optE, XM, Vc.cells, isV, Vc.one, Xs, getB, setB, XZ, Xp, Xi, Yf, Xl, XT, resS, tupS, ofV, Yj, Nat.reduceAdd, Nat.reduceSub, Nat.reduceLT, Nat.reduceLeDiff, reduceIte, reduceCtorEq, Nat.reduceEqDiff, implies_true, forall_const, lawV])
  (refine callV_pc pd ?_; simp only [vcS, ↓Xn, ↓Xo, ↓Xg, ↓Xd, ↓Xe, ↓Xf, XQ, XG, gvU, setR, orN, Yl, Xm, Yn, Yi, Xa, Ym, Xc, Xc.sizeIs, reS, Xj, Yb, mmS, Xq, dstS, srcS, XP, XN, XO, Yc, XA, Yg, Xy, XE, endV, gdst, Yk, XR, Yd, goR, XC, sBox, XU, XH, Xr, sNil, XL, Xt, XV, Xv, goD, valD, XI, XF, XB, dNil, XK, XD, dBox, dN, Xz, opL, idxs, pv, XX, Ya, XJ, Xb, Xu, oBin, oUn, Ye, XW, Xw, Xx, Xh, Xk, XY, XS, oLen, lenS, Yh, ev, lk, Vc.put, fits, kd, sz, Tryz.VΓ, Tryz.Γs, bin, binI, binS, ifK, ar, eqB, eqS, eqK, eqK.eqF, negB, bnds, optE, XM, Vc.cells, isV, Vc.one, Xs, getB, setB, XZ, Xp, Xi, Yf, Xl, XT, resS, tupS, ofV, Yj, Nat.reduceAdd, Nat.reduceSub, Nat.reduceLT, Nat.reduceLeDiff, reduceIte, reduceCtorEq, Nat.reduceEqDiff, implies_true, forall_const, lawV, beq_self_eq_true, bne_self_eq_false, Int.reduceBEq, Int.reduceBNe, Int.reduceLT, Int.reduceLE])
  (refine callV_pc ph ?_; simp only [vcS, ↓Xn, ↓Xo, ↓Xg, ↓Xd, ↓Xe, ↓Xf, XQ, XG, gvU, setR, orN, Yl, Xm, Yn, Yi, Xa, Ym, Xc, Xc.sizeIs, reS, Xj, Yb, mmS, Xq, dstS, srcS, XP, XN, XO, Yc, XA, Yg, Xy, XE, endV, gdst, Yk, XR, Yd, goR, XC, sBox, XU, XH, Xr, sNil, XL, Xt, XV, Xv, goD, valD, XI, XF, XB, dNil, XK, XD, dBox, dN, Xz, opL, idxs, pv, XX, Ya, XJ, Xb, Xu, oBin, oUn, Ye, XW, Xw, Xx, Xh, Xk, XY, XS, oLen, lenS, Yh, ev, lk, Vc.put, fits, kd, sz, Tryz.VΓ, Tryz.Γs, bin, binI, binS, ifK, ar, eqB, eqS, eqK, eqK.eqF, negB, bnds, optE, XM, Vc.cells, isV, Vc.one, Xs, getB, setB, XZ, Xp, Xi, Yf, Xl, XT, resS, tupS, ofV, Yj, Nat.reduceAdd, Nat.reduceSub, Nat.reduceLT, Nat.reduceLeDiff, reduceIte, reduceCtorEq, Nat.reduceEqDiff, implies_true, forall_const, lawV, beq_self_eq_true, bne_self_eq_false, Int.reduceBEq, Int.reduceBNe, Int.reduceLT, Int.reduceLE])
  done
set_option maxHeartbeats 2000000 in
theorem sc_up {bs : List Res} {i : Nat} {e : Int} (s : Bytes) (hi : bs[i]? = some (.cells [.int .i64 e] 79 true)) (hs : s.length ≤ 16384) :
    SC Tryz.V 58 [.p i 0, .str s] bs (fun r b => r = .str (segUp s) ∧ b = bs.set i (.cells [.int .i64 (if segOk s then e else 110)] 79 true)) := by
  have hil : i < bs.length := (List.getElem?_eq_some_iff.1 hi).1
  refine sc_of 3000 Tryz.func58 rfl Tryz.ntmps58 Tryz.results58 Tryz.call58 (by simp) (fun β β' hb => concL_within bs.length _ (by simp [within, within.withinL, hil]) β β' hb) ?_
  have pd := p_Decode s
  have pe := p_Encode (pctDecode s).1 [] (by have := pctDecode_len s; omega)
  have hl1 := pctDecode_len s
  have hl2 := pctEncode_len [] (pctDecode s).1
  have hok : segOk s = !((((pctDecode s).2 != 0) || ((pctDecode s).1 == [])) || (((pctDecode s).1 == [46]) || ((pctDecode s).1 == [46, 46]))) := by
    unfold segOk
    cases h1 : (pctDecode s).2 == 0 <;> cases h2 : (pctDecode s).1 == [] <;> cases h3 : (pctDecode s).1 == [46] <;> cases h4 : (pctDecode s).1 == [46, 46] <;> simp_all [bne]
  rw [hok]
  have hset := set_same hi
  generalize hX : pctDecode s = X at pd pe hok hl1 hl2 ⊢
  obtain ⟨x, k⟩ := X
  simp only at pd pe hok hl1 hl2 ⊢
  unfold segUp
  rw [hX]
  simp only
  simp only [vcS, ↓Xn, ↓Xo, ↓Xg, ↓Xd, ↓Xe, ↓Xf, XQ, XG, gvU, setR, orN, Yl, Xm, Yn, Yi, Xa, Ym, Xc, Xc.sizeIs, reS, Xj, Yb, mmS, Xq, dstS, srcS, XP, XN, XO, Yc, XA, Yg, Xy, XE, endV, gdst, Yk, XR, Yd, goR, XC, sBox, XU, XH, Xr, sNil, XL, Xt, XV, Xv, goD, valD, XI, XF, XB, dNil, XK, XD, dBox, dN, Xz, opL, idxs, pv, XX, Ya, XJ, Xb, Xu, oBin, oUn, Ye, XW, Xw, Xx, Xh, Xk, XY, XS, oLen, lenS, Yh, ev, lk, Vc.put, fits, kd, sz, Tryz.VΓ, Tryz.Γs, bin, binI, binS, ifK, ar, eqB, eqS, eqK, eqK.eqF, negB, bnds, optE, XM, Vc.cells, isV, Vc.one, Xs, getB, setB, XZ, Xp, Xi, Yf, Xl, XT, resS, tupS, ofV, Yj, Nat.reduceAdd, Nat.reduceSub, Nat.reduceLT, Nat.reduceLeDiff, reduceIte, reduceCtorEq, Nat.reduceEqDiff, implies_true, forall_const, lawV, hi]
  (refine callV_pc pd ?_; simp only [vcS, ↓Xn, ↓Xo, ↓Xg, ↓Xd, ↓Xe, ↓Xf, XQ, XG, gvU, setR, orN, Yl, Xm, Yn, Yi, Xa, Ym, Xc, Xc.sizeIs, reS, Xj, Yb, mmS, Xq, dstS, srcS, XP, XN, XO, Yc, XA, Yg, Xy, XE, endV, gdst, Yk, XR, Yd, goR, XC, sBox, XU, XH, Xr, sNil, XL, Xt, XV, Xv, goD, valD, XI, XF, XB, dNil, XK, XD, dBox, dN, Xz, opL, idxs, pv, XX, Ya, XJ, Xb, Xu, oBin, oUn, Ye, XW, Xw, Xx, Xh, Xk, XY, XS, oLen, lenS, Yh, ev, lk, Vc.put, fits, kd, sz, Tryz.VΓ, Tryz.Γs, bin, binI, binS, ifK, ar, eqB, eqS, eqK, eqK.eqF, negB, bnds, optE, XM, Vc.cells, isV, Vc.one, Xs, getB, setB, XZ, Xp, Xi, Yf, Xl, XT, resS, tupS, ofV, Yj, Nat.reduceAdd, Nat.reduceSub, Nat.reduceLT, Nat.reduceLeDiff, reduceIte, reduceCtorEq, Nat.reduceEqDiff, implies_true, forall_const, lawV, hi])
  cases h1 : k != 0 <;> cases h2 : x == [] <;> cases h3 : x == [46] <;> cases h4 : x == [46, 46] <;> simp only [vcS, ↓Xn, ↓Xo, ↓Xg, ↓Xd, ↓Xe, ↓Xf, XQ, XG, gvU, setR, orN, Yl, Xm, Yn, Yi, Xa, Ym, Xc, Xc.sizeIs, reS, Xj, Yb, mmS, Xq, dstS, srcS, XP, XN, XO, Yc, XA, Yg, Xy, XE, endV, gdst, Yk, XR, Yd, goR, XC, sBox, XU, XH, Xr, sNil, XL, Xt, XV, Xv, goD, valD, XI, XF, XB, dNil, XK, XD, dBox, dN, Xz, opL, idxs, pv, XX, Ya, XJ, Xb, Xu, oBin, oUn, Ye, XW, Xw, Xx, Xh, Xk, XY, XS, oLen, lenS, Yh, ev, lk, Vc.put, fits, kd, sz, Tryz.VΓ, Tryz.Γs, bin, binI, binS, ifK, ar, eqB, eqS, eqK, eqK.eqF, negB, bnds, optE, XM, Vc.cells, isV, Vc.one, Xs, getB, setB, XZ, Xp, Xi, Yf, Xl, XT, resS, tupS, ofV, Yj, Nat.reduceAdd, Nat.reduceSub, Nat.reduceLT, Nat.reduceLeDiff, reduceIte, reduceCtorEq, Nat.reduceEqDiff, implies_true, forall_const, lawV, hi, h1, h2, h3, h4] <;> (refine callV_pc pe ?_; simp only [vcS, ↓Xn, ↓Xo, ↓Xg, ↓Xd, ↓Xe, ↓Xf, XQ, XG, gvU, setR, orN, Yl, Xm, Yn, Yi, Xa, Ym, Xc, Xc.sizeIs, reS, Xj, Yb, mmS, Xq, dstS, srcS, XP, XN, XO, Yc, XA, Yg, Xy, XE, endV, gdst, Yk, XR, Yd, goR, XC, sBox, XU, XH, Xr, sNil, XL, Xt, XV, Xv, goD, valD, XI, XF, XB, dNil, XK, XD, dBox, dN, Xz, opL, idxs, pv, XX, Ya, XJ, Xb, Xu, oBin, oUn, Ye, XW, Xw, Xx, Xh, Xk, XY, XS, oLen, lenS, Yh, ev, lk, Vc.put, fits, kd, sz, Tryz.VΓ, Tryz.Γs, bin, binI, binS, ifK, ar, eqB, eqS, eqK, eqK.eqF, negB, bnds, optE, XM, Vc.cells, isV, Vc.one, Xs, getB, setB, XZ, Xp, Xi, Yf, Xl, XT, resS, tupS, ofV, Yj, Nat.reduceAdd, Nat.reduceSub, Nat.reduceLT, Nat.reduceLeDiff, reduceIte, reduceCtorEq, Nat.reduceEqDiff, implies_true, forall_const, lawV, hi, hset]) <;> exact ⟨by omega, by first | rfl | exact hset.symm⟩
set_option maxHeartbeats 2000000 in
theorem sc_down {bs : List Res} {i : Nat} {e : Int} (s : Bytes) (hi : bs[i]? = some (.cells [.int .i64 e] 79 true)) (hs : s.length ≤ 16384) :
    SC Tryz.V 78 [.p i 0, .str s] bs (fun r b => r = .str (segDown s) ∧ b = bs.set i (.cells [.int .i64 (if downOk s then e else 110)] 79 true)) := by
  have hil : i < bs.length := (List.getElem?_eq_some_iff.1 hi).1
  refine sc_of 3000 Tryz.func78 rfl Tryz.ntmps78 Tryz.results78 Tryz.call78 (by simp) (fun β β' hb => concL_within bs.length _ (by simp [within, within.withinL, hil]) β β' hb) ?_
  have pr := p_ReplaceAll (pctEncode [] (pctDecode s).1) 126 [37, 55, 69] (by decide) (by have := pctDecode_len s; have := pctEncode_len [] (pctDecode s).1; omega) (by decide)
  rw [escDown] at pr
  have pd := p_Decode s
  have pe := p_Encode (pctDecode s).1 [] (by have := pctDecode_len s; omega)
  have hl1 := pctDecode_len s
  have hl2 := didEsc_len (pctDecode s).1
  simp only [vcS, ↓Xn, ↓Xo, ↓Xg, ↓Xd, ↓Xe, ↓Xf, XQ, XG, gvU, setR, orN, Yl, Xm, Yn, Yi, Xa, Ym, Xc, Xc.sizeIs, reS, Xj, Yb, mmS, Xq, dstS, srcS, XP, XN, XO, Yc, XA, Yg, Xy, XE, endV, gdst, Yk, XR, Yd, goR, XC, sBox, XU, XH, Xr, sNil, XL, Xt, XV, Xv, goD, valD, XI, XF, XB, dNil, XK, XD, dBox, dN, Xz, opL, idxs, pv, XX, Ya, XJ, Xb, Xu, oBin, oUn, Ye, XW, Xw, Xx, Xh, Xk, XY, XS, oLen, lenS, Yh, ev, lk, Vc.put, fits, kd, sz, Tryz.VΓ, Tryz.Γs, bin, binI, binS, ifK, ar, eqB, eqS, eqK, eqK.eqF, negB, bnds, optE, XM, Vc.cells, isV, Vc.one, Xs, getB, setB, XZ, Xp, Xi, Yf, Xl, XT, resS, tupS, ofV, Yj, Nat.reduceAdd, Nat.reduceSub, Nat.reduceLT, Nat.reduceLeDiff, reduceIte, reduceCtorEq, Nat.reduceEqDiff, implies_true, forall_const, lawV, hi]
  refine loopV_mk (fun σ => ∃ k : Nat, k ≤ s.length ∧ lk 0 σ.t = some (.p i 0) ∧ lk 1 σ.t = some (.str s) ∧ lk 4 σ.t = some (.str []) ∧ lk 8 σ.t = some (.str s) ∧ lk 9 σ.t = some (.int .i64 s.length) ∧ lk 10 σ.t = some (.int .i64 k) ∧
    σ.b = bs.set i (.cells [.int .i64 (if (s.take k).all downC then e else 110)] 79 true)) (fun σ => s.length - lkI 10 σ) ⟨0, by omega, rfl, rfl, rfl, rfl, rfl, rfl, (set_same hi).symm⟩ ?_
  rintro ⟨t, b⟩ ⟨k, hk, h0, h1, h4, h8, h9, h10, hb⟩
  simp only at h0 h1 h4 h8 h9 h10 hb
  rw [lkI_eq h10]
  have hbi : b[i]? = some (.cells [.int .i64 (if (s.take k).all downC then e else 110)] 79 true) := by rw [hb]; exact List.getElem?_set_self hil
  by_cases hlt : k < s.length
  · have hg : s.getD k 0 = s[k] := by simp [List.getD, hlt]
    have hall : (s.take (k + 1)).all downC = ((s.take k).all downC && downC s[k]) := by rw [List.take_succ_eq_append_getElem hlt, List.all_append]; simp
    have h37 : ((s[k].toNat : Int) != 37) = (s[k] != 37) := by
      have := byte_is hlt 37 (n := 37) rfl
      show (!_) = (!_)
      rw [← this, hg]
    have same : downC s[k] = true → b = bs.set i (.cells [.int .i64 (if (s.take (k + 1)).all downC then e else 110)] 79 true) := fun h => by rw [hall, h, Bool.and_true]; exact hb
    have meas : ∀ (t' : List (Nat × SV)) (b' : List Res), lk 10 t' = some (.int .i64 ((k : Int) + 1)) → s.length - lkI 10 ⟨t', b'⟩ < s.length - (k : Int).toNat := fun t' b' k6 => by rw [lkI_eq (σ := ⟨t', b'⟩) k6]; omega
    simp only [vcS, ↓Xn, ↓Xo, ↓Xg, ↓Xd, ↓Xe, ↓Xf, XQ, XG, gvU, setR, orN, Yl, Xm, Yn, Yi, Xa, Ym, Xc, Xc.sizeIs, reS, Xj, Yb, mmS, Xq, dstS, srcS, XP, XN, XO, Yc, XA, Yg, Xy, XE, endV, gdst, Yk, XR, Yd, goR, XC, sBox, XU, XH, Xr, sNil, XL, Xt, XV, Xv, goD, valD, XI, XF, XB, dNil, XK, XD, dBox, dN, Xz, opL, idxs, pv, XX, Ya, XJ, Xb, Xu, oBin, oUn, Ye, XW, Xw, Xx, Xh, Xk, XY, XS, oLen, lenS, Yh, ev, lk, Vc.put, fits, kd, sz, Tryz.VΓ, Tryz.Γs, bin, binI, binS, ifK, ar, eqB, eqS, eqK, eqK.eqF, negB, bnds, optE, XM, Vc.cells, isV, Vc.one, Xs, getB, setB, XZ, Xp, Xi, Yf, Xl, XT, resS, tupS, ofV, Yj, Nat.reduceAdd, Nat.reduceSub, Nat.reduceLT, Nat.reduceLeDiff, reduceIte, reduceCtorEq, Nat.reduceEqDiff, implies_true, forall_const, lawV, h0, h1, h4, h8, h9, h10, hbi, hg]
    refine ⟨fun _ => ⟨⟨by omega, by omega⟩, fun g1 => ⟨⟨by omega, by omega⟩, ?_⟩, fun g1 => ⟨⟨by omega, by omega⟩, ⟨k + 1, by omega, rfl, same ?_⟩, meas _ _ rfl⟩⟩, fun h => absurd h (by simp; omega)⟩
    · (refine callV_pc (p_IsUnreserved s[k]) ?_; simp only [vcS, ↓Xn, ↓Xo, ↓Xg, ↓Xd, ↓Xe, ↓Xf, XQ, XG, gvU, setR, orN, Yl, Xm, Yn, Yi, Xa, Ym, Xc, Xc.sizeIs, reS, Xj, Yb, mmS, Xq, dstS, srcS, XP, XN, XO, Yc, XA, Yg, Xy, XE, endV, gdst, Yk, XR, Yd, goR, XC, sBox, XU, XH, Xr, sNil, XL, Xt, XV, Xv, goD, valD, XI, XF, XB, dNil, XK, XD, dBox, dN, Xz, opL, idxs, pv, XX, Ya, XJ, Xb, Xu, oBin, oUn, Ye, XW, Xw, Xx, Xh, Xk, XY, XS, oLen, lenS, Yh, ev, lk, Vc.put, fits, kd, sz, Tryz.VΓ, Tryz.Γs, bin, binI, binS, ifK, ar, eqB, eqS, eqK, eqK.eqF, negB, bnds, optE, XM, Vc.cells, isV, Vc.one, Xs, getB, setB, XZ, Xp, Xi, Yf, Xl, XT, resS, tupS, ofV, Yj, Nat.reduceAdd, Nat.reduceSub, Nat.reduceLT, Nat.reduceLeDiff, reduceIte, reduceCtorEq, Nat.reduceEqDiff, implies_true, forall_const, lawV, h0, h1, h4, h8, h9, h10, hbi, hg])
      refine ⟨fun g2 => ⟨⟨by omega, by omega⟩, ⟨k + 1, by omega, rfl, ?_⟩, meas _ _ rfl⟩, fun g2 => ⟨⟨by omega, by omega⟩, ⟨k + 1, by omega, rfl, same ?_⟩, meas _ _ rfl⟩⟩
      · have : downC s[k] = false := by
          unfold downC
          rw [h37] at g1
          simp at g1 g2 ⊢
          exact ⟨g1, g2⟩
        rw [hall, this, Bool.and_false, hb, List.set_set]
        rfl
      · unfold downC
        simp at g2 ⊢
        exact .inr g2
    · unfold downC
      rw [h37] at g1
      simp at g1 ⊢
      exact .inl g1
  · have hie : k = s.length := by omega
    subst hie
    rw [List.take_length] at hb hbi
    clear hk hlt
    have hd : downOk s = (s.all downC && !(((pctDecode s).2 != 0) || ((pctDecode s).1 == []))) := by
      unfold downOk
      cases s.all downC <;> cases h1 : (pctDecode s).2 == 0 <;> cases h2 : (pctDecode s).1 == [] <;> simp_all [bne]
    have hsd : segDown s = 58 :: didEsc (pctDecode s).1 := rfl
    rw [hd, hsd]
    generalize pctDecode s = X at pd pe pr hl1 hl2 ⊢
    obtain ⟨x, k⟩ := X
    simp only at pd pe pr hl1 hl2 ⊢
    have hlf : decide ((s.length : Int) < s.length) = false := by simp
    simp only [vcS, ↓Xn, ↓Xo, ↓Xg, ↓Xd, ↓Xe, ↓Xf, XQ, XG, gvU, setR, orN, Yl, Xm, Yn, Yi, Xa, Ym, Xc, Xc.sizeIs, reS, Xj, Yb, mmS, Xq, dstS, srcS, XP, XN, XO, Yc, XA, Yg, Xy, XE, endV, gdst, Yk, XR, Yd, goR, XC, sBox, XU, XH, Xr, sNil, XL, Xt, XV, Xv, goD, valD, XI, XF, XB, dNil, XK, XD, dBox, dN, Xz, opL, idxs, pv, XX, Ya, XJ, Xb, Xu, oBin, oUn, Ye, XW, Xw, Xx, Xh, Xk, XY, XS, oLen, lenS, Yh, ev, lk, Vc.put, fits, kd, sz, Tryz.VΓ, Tryz.Γs, bin, binI, binS, ifK, ar, eqB, eqS, eqK, eqK.eqF, negB, bnds, optE, XM, Vc.cells, isV, Vc.one, Xs, getB, setB, XZ, Xp, Xi, Yf, Xl, XT, resS, tupS, ofV, Yj, Nat.reduceAdd, Nat.reduceSub, Nat.reduceLT, Nat.reduceLeDiff, reduceIte, reduceCtorEq, Nat.reduceEqDiff, implies_true, forall_const, lawV, h0, h1, h4, h8, h9, h10, hbi, hlf]
    (refine callV_pc pd ?_; simp only [vcS, ↓Xn, ↓Xo, ↓Xg, ↓Xd, ↓Xe, ↓Xf, XQ, XG, gvU, setR, orN, Yl, Xm, Yn, Yi, Xa, Ym, Xc, Xc.sizeIs, reS, Xj, Yb, mmS, Xq, dstS, srcS, XP, XN, XO, Yc, XA, Yg, Xy, XE, endV, gdst, Yk, XR, Yd, goR, XC, sBox, XU, XH, Xr, sNil, XL, Xt, XV, Xv, goD, valD, XI, XF, XB, dNil, XK, XD, dBox, dN, Xz, opL, idxs, pv, XX, Ya, XJ, Xb, Xu, oBin, oUn, Ye, XW, Xw, Xx, Xh, Xk, XY, XS, oLen, lenS, Yh, ev, lk, Vc.put, fits, kd, sz, Tryz.VΓ, Tryz.Γs, bin, binI, binS, ifK, ar, eqB, eqS, eqK, eqK.eqF, negB, bnds, optE, XM, Vc.cells, isV, Vc.one, Xs, getB, setB, XZ, Xp, Xi, Yf, Xl, XT, resS, tupS, ofV, Yj, Nat.reduceAdd, Nat.reduceSub, Nat.reduceLT, Nat.reduceLeDiff, reduceIte, reduceCtorEq, Nat.reduceEqDiff, implies_true, forall_const, lawV, h0, h1, h4, h8, h9, h10, hbi])
    have e1 : ∀ v, b.set i (.cells [.int .i64 v] 79 true) = bs.set i (.cells [.int .i64 v] 79 true) := fun v => by rw [hb, List.set_set]
    cases g1 : k != 0 <;> cases g2 : x == [] <;> simp only [vcS, ↓Xn, ↓Xo, ↓Xg, ↓Xd, ↓Xe, ↓Xf, XQ, XG, gvU, setR, orN, Yl, Xm, Yn, Yi, Xa, Ym, Xc, Xc.sizeIs, reS, Xj, Yb, mmS, Xq, dstS, srcS, XP, XN, XO, Yc, XA, Yg, Xy, XE, endV, gdst, Yk, XR, Yd, goR, XC, sBox, XU, XH, Xr, sNil, XL, Xt, XV, Xv, goD, valD, XI, XF, XB, dNil, XK, XD, dBox, dN, Xz, opL, idxs, pv, XX, Ya, XJ, Xb, Xu, oBin, oUn, Ye, XW, Xw, Xx, Xh, Xk, XY, XS, oLen, lenS, Yh, ev, lk, Vc.put, fits, kd, sz, Tryz.VΓ, Tryz.Γs, bin, binI, binS, ifK, ar, eqB, eqS, eqK, eqK.eqF, negB, bnds, optE, XM, Vc.cells, isV, Vc.one, Xs, getB, setB, XZ, Xp, Xi, Yf, Xl, XT, resS, tupS, ofV, Yj, Nat.reduceAdd, Nat.reduceSub, Nat.reduceLT, Nat.reduceLeDiff, reduceIte, reduceCtorEq, Nat.reduceEqDiff, implies_true, forall_const, lawV, h0, h1, h4, h8, h9, h10, hbi, g1, g2] <;> (refine callV_pc pe ?_; simp only [vcS, ↓Xn, ↓Xo, ↓Xg, ↓Xd, ↓Xe, ↓Xf, XQ, XG, gvU, setR, orN, Yl, Xm, Yn, Yi, Xa, Ym, Xc, Xc.sizeIs, reS, Xj, Yb, mmS, Xq, dstS, srcS, XP, XN, XO, Yc, XA, Yg, Xy, XE, endV, gdst, Yk, XR, Yd, goR, XC, sBox, XU, XH, Xr, sNil, XL, Xt, XV, Xv, goD, valD, XI, XF, XB, dNil, XK, XD, dBox, dN, Xz, opL, idxs, pv, XX, Ya, XJ, Xb, Xu, oBin, oUn, Ye, XW, Xw, Xx, Xh, Xk, XY, XS, oLen, lenS, Yh, ev, lk, Vc.put, fits, kd, sz, Tryz.VΓ, Tryz.Γs, bin, binI, binS, ifK, ar, eqB, eqS, eqK, eqK.eqF, negB, bnds, optE, XM, Vc.cells, isV, Vc.one, Xs, getB, setB, XZ, Xp, Xi, Yf, Xl, XT, resS, tupS, ofV, Yj, Nat.reduceAdd, Nat.reduceSub, Nat.reduceLT, Nat.reduceLeDiff, reduceIte, reduceCtorEq, Nat.reduceEqDiff, implies_true, forall_const, lawV, h0, h1, h4, h8, h9, h10, hbi]) <;> (refine callV_pc pr ?_; simp only [vcS, ↓Xn, ↓Xo, ↓Xg, ↓Xd, ↓Xe, ↓Xf, XQ, XG, gvU, setR, orN, Yl, Xm, Yn, Yi, Xa, Ym, Xc, Xc.sizeIs, reS, Xj, Yb, mmS, Xq, dstS, srcS, XP, XN, XO, Yc, XA, Yg, Xy, XE, endV, gdst, Yk, XR, Yd, goR, XC, sBox, XU, XH, Xr, sNil, XL, Xt, XV, Xv, goD, valD, XI, XF, XB, dNil, XK, XD, dBox, dN, Xz, opL, idxs, pv, XX, Ya, XJ, Xb, Xu, oBin, oUn, Ye, XW, Xw, Xx, Xh, Xk, XY, XS, oLen, lenS, Yh, ev, lk, Vc.put, fits, kd, sz, Tryz.VΓ, Tryz.Γs, bin, binI, binS, ifK, ar, eqB, eqS, eqK, eqK.eqF, negB, bnds, optE, XM, Vc.cells, isV, Vc.one, Xs, getB, setB, XZ, Xp, Xi, Yf, Xl, XT, resS, tupS, ofV, Yj, Nat.reduceAdd, Nat.reduceSub, Nat.reduceLT, Nat.reduceLeDiff, reduceIte, reduceCtorEq, Nat.reduceEqDiff, implies_true, forall_const, lawV, h0, h1, h4, h8, h9, h10, hbi]) <;> refine ⟨by omega, ?_⟩ <;> (first | rw [e1] | rw [hb]) <;> congr 4 <;> cases s.all downC <;> rfl
theorem flat_take {g : Bytes → Bytes} {L : List Bytes} {k : Nat} (h : k < L.length) : (L.take (k + 1)).flatMap g = (L.take k).flatMap g ++ g L[k] := by
  rw [List.take_succ_eq_append_getElem h, List.flatMap_append, List.flatMap_cons, List.flatMap_nil, List.append_nil]
theorem flat_take_le {g : Bytes → Bytes} {L : List Bytes} {k : Nat} : ((L.take k).flatMap g).length ≤ (L.flatMap g).length := by
  conv => rhs; rw [← List.take_append_drop k L]
  rw [List.flatMap_append, List.length_append]
  omega
theorem outs_each (bs : List Res) {i n : Nat} (X : Res) (hn : bs.length = n) : Outs [(i, 0, 0), (n, 0, 0)] (bs.set i X ++ [.gone]) bs := by
  subst hn
  refine outs_of (fun j hj => ?_) (by simp)
  have h1 := hj _ List.mem_cons_self
  have h2 := hj _ (List.mem_cons_of_mem _ List.mem_cons_self)
  simp only at h1 h2
  rcases Nat.lt_or_ge j bs.length with h | h
  · rw [List.getElem?_append_left (by rw [List.length_set]; exact h), List.getElem?_set_ne h1]
  · rw [List.getElem?_eq_none (by simp; omega), List.getElem?_eq_none h]
set_option maxHeartbeats 2000000 in
theorem sc_each_up {bs : List Res} {i j : Nat} {e : Int} {L : List Bytes} {m : Bool} (hi : bs[i]? = some (.cells [.int .i64 e] 79 true)) (hj : bs[j]? = some (.own (L.map SV.str) 9 1 L.length m)) (hL : ∀ x ∈ L, x.length ≤ 16384) (hn : L.length ≤ 1000000) (hlen : (L.flatMap segUp).length ≤ 10000000) :
    SC Tryz.V 57 [.o j L.length, .mv 58 [.p i 0]] bs (fun r b => r = .str (L.flatMap segUp) ∧ b = bs.set i (.cells [.int .i64 (if L.all segOk then e else 110)] 79 true) ++ [.gone]) := by
  have hjl : j < bs.length := (List.getElem?_eq_some_iff.1 hj).1
  have hil : i < bs.length := (List.getElem?_eq_some_iff.1 hi).1
  have hij : i ≠ j := by rintro rfl; rw [hi] at hj; cases hj
  refine sc_of 3000 Tryz.func57 rfl Tryz.ntmps57 Tryz.results57 Tryz.call57 (by simp) (fun β β' hb => concL_within bs.length _ (by simp [within, within.withinL, hjl, hil]) β β' hb) ?_
  simp only [vcS, ↓Xn, ↓Xo, ↓Xg, ↓Xd, ↓Xe, ↓Xf, XQ, XG, gvU, setR, orN, Yl, Xm, Yn, Yi, Xa, Ym, Xc, Xc.sizeIs, reS, Xj, Yb, mmS, Xq, dstS, srcS, XP, XN, XO, Yc, XA, Yg, Xy, XE, endV, gdst, Yk, XR, Yd, goR, XC, sBox, XU, XH, Xr, sNil, XL, Xt, XV, Xv, goD, valD, XI, XF, XB, dNil, XK, XD, dBox, dN, Xz, opL, idxs, pv, XX, Ya, XJ, Xb, Xu, oBin, oUn, Ye, XW, Xw, Xx, Xh, Xk, XY, XS, oLen, lenS, Yh, ev, lk, Vc.put, fits, kd, sz, Tryz.VΓ, Tryz.Γs, bin, binI, binS, ifK, ar, eqB, eqS, eqK, eqK.eqF, negB, bnds, optE, XM, Vc.cells, isV, Vc.one, Xs, getB, setB, XZ, Xp, Xi, Yf, Xl, XT, resS, tupS, ofV, Yj, Nat.reduceAdd, Nat.reduceSub, Nat.reduceLT, Nat.reduceLeDiff, reduceIte, reduceCtorEq, Nat.reduceEqDiff, implies_true, forall_const, lawV, hj]
  refine loopV_mk (fun σ => ∃ k : Nat, k ≤ L.length ∧ lk 1 σ.t = some (.mv 58 [.p i 0]) ∧ lk 4 σ.t = some (.str []) ∧ lk 5 σ.t = some (.p bs.length 0) ∧ lk 8 σ.t = some (.o j L.length) ∧ lk 9 σ.t = some (.int .i64 L.length) ∧ lk 10 σ.t = some (.int .i64 k) ∧
    BAt bs.length ((L.take k).flatMap segUp) σ.b ∧ σ.b.length = bs.length + 1 ∧ σ.b[i]? = some (.cells [.int .i64 (if (L.take k).all segOk then e else 110)] 79 true) ∧ ∀ q, q < bs.length → q ≠ i → σ.b[q]? = bs[q]?) (fun σ => L.length - lkI 10 σ)
    ⟨0, by omega, rfl, rfl, rfl, rfl, rfl, rfl, .inr ⟨rfl, at_new _ _⟩, by simp, at_old hi _, fun q hq _ => List.getElem?_append_left hq⟩ ?_
  rintro ⟨t, b⟩ ⟨k, hk, h1, h4, h5, h8, h9, h10, hB, hbl, hbi, hbq⟩
  simp only at h1 h4 h5 h8 h9 h10 hB hbl hbi hbq
  rw [lkI_eq h10]
  have hbj := (hbq j hjl (fun e => hij e.symm)).trans hj
  by_cases hlt : k < L.length
  · have hx : (L.map SV.str)[k * 1]? = some (.str L[k]) := by simp [hlt]
    have hft := flat_take (g := segUp) hlt
    have hle := flat_take_le (g := segUp) (L := L) (k := k + 1)
    rw [hft, List.length_append] at hle
    have hall : (L.take (k + 1)).all segOk = ((L.take k).all segOk && segOk L[k]) := by rw [List.take_succ_eq_append_getElem hlt, List.all_append]; simp
    simp only [vcS, ↓Xn, ↓Xo, ↓Xg, ↓Xd, ↓Xe, ↓Xf, XQ, XG, gvU, setR, orN, Yl, Xm, Yn, Yi, Xa, Ym, Xc, Xc.sizeIs, reS, Xj, Yb, mmS, Xq, dstS, srcS, XP, XN, XO, Yc, XA, Yg, Xy, XE, endV, gdst, Yk, XR, Yd, goR, XC, sBox, XU, XH, Xr, sNil, XL, Xt, XV, Xv, goD, valD, XI, XF, XB, dNil, XK, XD, dBox, dN, Xz, opL, idxs, pv, XX, Ya, XJ, Xb, Xu, oBin, oUn, Ye, XW, Xw, Xx, Xh, Xk, XY, XS, oLen, lenS, Yh, ev, lk, Vc.put, fits, kd, sz, Tryz.VΓ, Tryz.Γs, bin, binI, binS, ifK, ar, eqB, eqS, eqK, eqK.eqF, negB, bnds, optE, XM, Vc.cells, isV, Vc.one, Xs, getB, setB, XZ, Xp, Xi, Yf, Xl, XT, resS, tupS, ofV, Yj, Nat.reduceAdd, Nat.reduceSub, Nat.reduceLT, Nat.reduceLeDiff, reduceIte, reduceCtorEq, Nat.reduceEqDiff, implies_true, forall_const, lawV, h1, h4, h5, h8, h9, h10, hbj, hx]
    refine ⟨fun _ => ⟨⟨by omega, by omega⟩, by simp; omega, ?_⟩, fun h => absurd h (by simp; omega)⟩
    refine callV_sc (sc_up L[k] hbi (hL _ (List.getElem_mem hlt))) ?_
    rintro r b1 ⟨rfl, hb1⟩
    have hbib : i < b.length := by omega
    have hB1 : BAt bs.length ((L.take k).flatMap segUp) b1 := by
      rw [hb1]
      unfold BAt
      rw [List.getElem?_set_ne (by omega)]
      exact hB
    have hbi1 : b1[i]? = some (.cells [.int .i64 (if (L.take (k + 1)).all segOk then e else 110)] 79 true) := by
      rw [hb1, List.getElem?_set_self hbib, hall]
      cases segOk L[k] <;> cases (L.take k).all segOk <;> rfl
    have hbq1 : ∀ q, q < bs.length → q ≠ i → b1[q]? = bs[q]? := fun q hq hne => by
      rw [hb1, List.getElem?_set_ne (fun e => hne e.symm)]; exact hbq q hq hne
    have hbl1 : b1.length = bs.length + 1 := by rw [hb1, List.length_set]; exact hbl
    clear hb1
    simp only [vcS, ↓Xn, ↓Xo, ↓Xg, ↓Xd, ↓Xe, ↓Xf, XQ, XG, gvU, setR, orN, Yl, Xm, Yn, Yi, Xa, Ym, Xc, Xc.sizeIs, reS, Xj, Yb, mmS, Xq, dstS, srcS, XP, XN, XO, Yc, XA, Yg, Xy, XE, endV, gdst, Yk, XR, Yd, goR, XC, sBox, XU, XH, Xr, sNil, XL, Xt, XV, Xv, goD, valD, XI, XF, XB, dNil, XK, XD, dBox, dN, Xz, opL, idxs, pv, XX, Ya, XJ, Xb, Xu, oBin, oUn, Ye, XW, Xw, Xx, Xh, Xk, XY, XS, oLen, lenS, Yh, ev, lk, Vc.put, fits, kd, sz, Tryz.VΓ, Tryz.Γs, bin, binI, binS, ifK, ar, eqB, eqS, eqK, eqK.eqF, negB, bnds, optE, XM, Vc.cells, isV, Vc.one, Xs, getB, setB, XZ, Xp, Xi, Yf, Xl, XT, resS, tupS, ofV, Yj, Nat.reduceAdd, Nat.reduceSub, Nat.reduceLT, Nat.reduceLeDiff, reduceIte, reduceCtorEq, Nat.reduceEqDiff, implies_true, forall_const, lawV, h1, h4, h5, h8, h9, h10]
    refine callV_sc (sc_WS hB1 (by omega)) ?_
    rintro r b2 ⟨rfl, hb2⟩
    simp only [vcS, ↓Xn, ↓Xo, ↓Xg, ↓Xd, ↓Xe, ↓Xf, XQ, XG, gvU, setR, orN, Yl, Xm, Yn, Yi, Xa, Ym, Xc, Xc.sizeIs, reS, Xj, Yb, mmS, Xq, dstS, srcS, XP, XN, XO, Yc, XA, Yg, Xy, XE, endV, gdst, Yk, XR, Yd, goR, XC, sBox, XU, XH, Xr, sNil, XL, Xt, XV, Xv, goD, valD, XI, XF, XB, dNil, XK, XD, dBox, dN, Xz, opL, idxs, pv, XX, Ya, XJ, Xb, Xu, oBin, oUn, Ye, XW, Xw, Xx, Xh, Xk, XY, XS, oLen, lenS, Yh, ev, lk, Vc.put, fits, kd, sz, Tryz.VΓ, Tryz.Γs, bin, binI, binS, ifK, ar, eqB, eqS, eqK, eqK.eqF, negB, bnds, optE, XM, Vc.cells, isV, Vc.one, Xs, getB, setB, XZ, Xp, Xi, Yf, Xl, XT, resS, tupS, ofV, Yj, Nat.reduceAdd, Nat.reduceSub, Nat.reduceLT, Nat.reduceLeDiff, reduceIte, reduceCtorEq, Nat.reduceEqDiff, implies_true, forall_const, lawV, h1, h4, h5, h8, h9, h10]
    refine ⟨⟨by omega, by omega⟩, ⟨k + 1, by omega, rfl, ?_, ?_, ?_, ?_⟩, ?_⟩
    · rw [hft, hb2]; exact hB1.set
    · rw [hb2, List.length_set]; exact hbl1
    · rw [hb2, List.getElem?_set_ne (by omega)]; exact hbi1
    · intro q hq hne
      rw [hb2, List.getElem?_set_ne (by omega)]; exact hbq1 q hq hne
    · rw [lkI_eq (k := .i64) (n := (k : Int) + 1) rfl]; omega
  · have hie : k = L.length := by omega
    subst hie
    rw [List.take_length] at hB hbi
    have hlf : decide ((L.length : Int) < L.length) = false := by simp
    simp only [vcS, ↓Xn, ↓Xo, ↓Xg, ↓Xd, ↓Xe, ↓Xf, XQ, XG, gvU, setR, orN, Yl, Xm, Yn, Yi, Xa, Ym, Xc, Xc.sizeIs, reS, Xj, Yb, mmS, Xq, dstS, srcS, XP, XN, XO, Yc, XA, Yg, Xy, XE, endV, gdst, Yk, XR, Yd, goR, XC, sBox, XU, XH, Xr, sNil, XL, Xt, XV, Xv, goD, valD, XI, XF, XB, dNil, XK, XD, dBox, dN, Xz, opL, idxs, pv, XX, Ya, XJ, Xb, Xu, oBin, oUn, Ye, XW, Xw, Xx, Xh, Xk, XY, XS, oLen, lenS, Yh, ev, lk, Vc.put, fits, kd, sz, Tryz.VΓ, Tryz.Γs, bin, binI, binS, ifK, ar, eqB, eqS, eqK, eqK.eqF, negB, bnds, optE, XM, Vc.cells, isV, Vc.one, Xs, getB, setB, XZ, Xp, Xi, Yf, Xl, XT, resS, tupS, ofV, Yj, Nat.reduceAdd, Nat.reduceSub, Nat.reduceLT, Nat.reduceLeDiff, reduceIte, reduceCtorEq, Nat.reduceEqDiff, implies_true, forall_const, lawV, h1, h4, h5, h8, h9, h10, hlf]
    refine callV_sc (sc_Str hB) ?_
    rintro r b2 ⟨rfl, hb2⟩
    simp only [vcS, ↓Xn, ↓Xo, ↓Xg, ↓Xd, ↓Xe, ↓Xf, XQ, XG, gvU, setR, orN, Yl, Xm, Yn, Yi, Xa, Ym, Xc, Xc.sizeIs, reS, Xj, Yb, mmS, Xq, dstS, srcS, XP, XN, XO, Yc, XA, Yg, Xy, XE, endV, gdst, Yk, XR, Yd, goR, XC, sBox, XU, XH, Xr, sNil, XL, Xt, XV, Xv, goD, valD, XI, XF, XB, dNil, XK, XD, dBox, dN, Xz, opL, idxs, pv, XX, Ya, XJ, Xb, Xu, oBin, oUn, Ye, XW, Xw, Xx, Xh, Xk, XY, XS, oLen, lenS, Yh, ev, lk, Vc.put, fits, kd, sz, Tryz.VΓ, Tryz.Γs, bin, binI, binS, ifK, ar, eqB, eqS, eqK, eqK.eqF, negB, bnds, optE, XM, Vc.cells, isV, Vc.one, Xs, getB, setB, XZ, Xp, Xi, Yf, Xl, XT, resS, tupS, ofV, Yj, Nat.reduceAdd, Nat.reduceSub, Nat.reduceLT, Nat.reduceLeDiff, reduceIte, reduceCtorEq, Nat.reduceEqDiff, implies_true, forall_const, lawV, h1, h4, h5, h8, h9, h10]
    simp only at hb2
    apply List.ext_getElem?
    intro q
    rw [hb2]
    rcases Nat.lt_trichotomy q bs.length with hq | hq | hq
    · rw [List.getElem?_set_ne (by omega), List.getElem?_append_left (by rw [List.length_set]; exact hq)]
      by_cases hqi : q = i
      · subst hqi; rw [List.getElem?_set_self hq]; exact hbi
      · rw [List.getElem?_set_ne (fun e => hqi e.symm)]; exact hbq q hq hqi
    · subst hq
      rw [List.getElem?_set_self (by omega), List.getElem?_append_right (by simp)]
      simp
    · rw [List.getElem?_eq_none (by simp; omega), List.getElem?_eq_none (by simp; omega)]
set_option maxHeartbeats 2000000 in
theorem sc_each_down {bs : List Res} {i j : Nat} {e : Int} {L : List Bytes} {m : Bool} (hi : bs[i]? = some (.cells [.int .i64 e] 79 true)) (hj : bs[j]? = some (.own (L.map SV.str) 9 1 L.length m)) (hL : ∀ x ∈ L, x.length ≤ 16384) (hn : L.length ≤ 1000000) (hlen : (L.flatMap segDown).length ≤ 10000000) :
    SC Tryz.V 57 [.o j L.length, .mv 78 [.p i 0]] bs (fun r b => r = .str (L.flatMap segDown) ∧ b = bs.set i (.cells [.int .i64 (if L.all downOk then e else 110)] 79 true) ++ [.gone]) := by
  have hjl : j < bs.length := (List.getElem?_eq_some_iff.1 hj).1
  have hil : i < bs.length := (List.getElem?_eq_some_iff.1 hi).1
  have hij : i ≠ j := by rintro rfl; rw [hi] at hj; cases hj
  refine sc_of 3000 Tryz.func57 rfl Tryz.ntmps57 Tryz.results57 Tryz.call57 (by simp) (fun β β' hb => concL_within bs.length _ (by simp [within, within.withinL, hjl, hil]) β β' hb) ?_
  simp only [vcS, ↓Xn, ↓Xo, ↓Xg, ↓Xd, ↓Xe, ↓Xf, XQ, XG, gvU, setR, orN, Yl, Xm, Yn, Yi, Xa, Ym, Xc, Xc.sizeIs, reS, Xj, Yb, mmS, Xq, dstS, srcS, XP, XN, XO, Yc, XA, Yg, Xy, XE, endV, gdst, Yk, XR, Yd, goR, XC, sBox, XU, XH, Xr, sNil, XL, Xt, XV, Xv, goD, valD, XI, XF, XB, dNil, XK, XD, dBox, dN, Xz, opL, idxs, pv, XX, Ya, XJ, Xb, Xu, oBin, oUn, Ye, XW, Xw, Xx, Xh, Xk, XY, XS, oLen, lenS, Yh, ev, lk, Vc.put, fits, kd, sz, Tryz.VΓ, Tryz.Γs, bin, binI, binS, ifK, ar, eqB, eqS, eqK, eqK.eqF, negB, bnds, optE, XM, Vc.cells, isV, Vc.one, Xs, getB, setB, XZ, Xp, Xi, Yf, Xl, XT, resS, tupS, ofV, Yj, Nat.reduceAdd, Nat.reduceSub, Nat.reduceLT, Nat.reduceLeDiff, reduceIte, reduceCtorEq, Nat.reduceEqDiff, implies_true, forall_const, lawV, hj]
  refine loopV_mk (fun σ => ∃ k : Nat, k ≤ L.length ∧ lk 1 σ.t = some (.mv 78 [.p i 0]) ∧ lk 4 σ.t = some (.str []) ∧ lk 5 σ.t = some (.p bs.length 0) ∧ lk 8 σ.t = some (.o j L.length) ∧ lk 9 σ.t = some (.int .i64 L.length) ∧ lk 10 σ.t = some (.int .i64 k) ∧
    BAt bs.length ((L.take k).flatMap segDown) σ.b ∧ σ.b.length = bs.length + 1 ∧ σ.b[i]? = some (.cells [.int .i64 (if (L.take k).all downOk then e else 110)] 79 true) ∧ ∀ q, q < bs.length → q ≠ i → σ.b[q]? = bs[q]?) (fun σ => L.length - lkI 10 σ)
    ⟨0, by omega, rfl, rfl, rfl, rfl, rfl, rfl, .inr ⟨rfl, at_new _ _⟩, by simp, at_old hi _, fun q hq _ => List.getElem?_append_left hq⟩ ?_
  rintro ⟨t, b⟩ ⟨k, hk, h1, h4, h5, h8, h9, h10, hB, hbl, hbi, hbq⟩
  simp only at h1 h4 h5 h8 h9 h10 hB hbl hbi hbq
  rw [lkI_eq h10]
  have hbj := (hbq j hjl (fun e => hij e.symm)).trans hj
  by_cases hlt : k < L.length
  · have hx : (L.map SV.str)[k * 1]? = some (.str L[k]) := by simp [hlt]
    have hft := flat_take (g := segDown) hlt
    have hle := flat_take_le (g := segDown) (L := L) (k := k + 1)
    rw [hft, List.length_append] at hle
    have hall : (L.take (k + 1)).all downOk = ((L.take k).all downOk && downOk L[k]) := by rw [List.take_succ_eq_append_getElem hlt, List.all_append]; simp
    simp only [vcS, ↓Xn, ↓Xo, ↓Xg, ↓Xd, ↓Xe, ↓Xf, XQ, XG, gvU, setR, orN, Yl, Xm, Yn, Yi, Xa, Ym, Xc, Xc.sizeIs, reS, Xj, Yb, mmS, Xq, dstS, srcS, XP, XN, XO, Yc, XA, Yg, Xy, XE, endV, gdst, Yk, XR, Yd, goR, XC, sBox, XU, XH, Xr, sNil, XL, Xt, XV, Xv, goD, valD, XI, XF, XB, dNil, XK, XD, dBox, dN, Xz, opL, idxs, pv, XX, Ya, XJ, Xb, Xu, oBin, oUn, Ye, XW, Xw, Xx, Xh, Xk, XY, XS, oLen, lenS, Yh, ev, lk, Vc.put, fits, kd, sz, Tryz.VΓ, Tryz.Γs, bin, binI, binS, ifK, ar, eqB, eqS, eqK, eqK.eqF, negB, bnds, optE, XM, Vc.cells, isV, Vc.one, Xs, getB, setB, XZ, Xp, Xi, Yf, Xl, XT, resS, tupS, ofV, Yj, Nat.reduceAdd, Nat.reduceSub, Nat.reduceLT, Nat.reduceLeDiff, reduceIte, reduceCtorEq, Nat.reduceEqDiff, implies_true, forall_const, lawV, h1, h4, h5, h8, h9, h10, hbj, hx]
    refine ⟨fun _ => ⟨⟨by omega, by omega⟩, by simp; omega, ?_⟩, fun h => absurd h (by simp; omega)⟩
    refine callV_sc (sc_down L[k] hbi (hL _ (List.getElem_mem hlt))) ?_
    rintro r b1 ⟨rfl, hb1⟩
    have hbib : i < b.length := by omega
    have hB1 : BAt bs.length ((L.take k).flatMap segDown) b1 := by
      rw [hb1]
      unfold BAt
      rw [List.getElem?_set_ne (by omega)]
      exact hB
    have hbi1 : b1[i]? = some (.cells [.int .i64 (if (L.take (k + 1)).all downOk then e else 110)] 79 true) := by
      rw [hb1, List.getElem?_set_self hbib, hall]
      cases downOk L[k] <;> cases (L.take k).all downOk <;> rfl
    have hbq1 : ∀ q, q < bs.length → q ≠ i → b1[q]? = bs[q]? := fun q hq hne => by
      rw [hb1, List.getElem?_set_ne (fun e => hne e.symm)]; exact hbq q hq hne
    have hbl1 : b1.length = bs.length + 1 := by rw [hb1, List.length_set]; exact hbl
    clear hb1
    simp only [vcS, ↓Xn, ↓Xo, ↓Xg, ↓Xd, ↓Xe, ↓Xf, XQ, XG, gvU, setR, orN, Yl, Xm, Yn, Yi, Xa, Ym, Xc, Xc.sizeIs, reS, Xj, Yb, mmS, Xq, dstS, srcS, XP, XN, XO, Yc, XA, Yg, Xy, XE, endV, gdst, Yk, XR, Yd, goR, XC, sBox, XU, XH, Xr, sNil, XL, Xt, XV, Xv, goD, valD, XI, XF, XB, dNil, XK, XD, dBox, dN, Xz, opL, idxs, pv, XX, Ya, XJ, Xb, Xu, oBin, oUn, Ye, XW, Xw, Xx, Xh, Xk, XY, XS, oLen, lenS, Yh, ev, lk, Vc.put, fits, kd, sz, Tryz.VΓ, Tryz.Γs, bin, binI, binS, ifK, ar, eqB, eqS, eqK, eqK.eqF, negB, bnds, optE, XM, Vc.cells, isV, Vc.one, Xs, getB, setB, XZ, Xp, Xi, Yf, Xl, XT, resS, tupS, ofV, Yj, Nat.reduceAdd, Nat.reduceSub, Nat.reduceLT, Nat.reduceLeDiff, reduceIte, reduceCtorEq, Nat.reduceEqDiff, implies_true, forall_const, lawV, h1, h4, h5, h8, h9, h10]
    refine callV_sc (sc_WS hB1 (by omega)) ?_
    rintro r b2 ⟨rfl, hb2⟩
    simp only [vcS, ↓Xn, ↓Xo, ↓Xg, ↓Xd, ↓Xe, ↓Xf, XQ, XG, gvU, setR, orN, Yl, Xm, Yn, Yi, Xa, Ym, Xc, Xc.sizeIs, reS, Xj, Yb, mmS, Xq, dstS, srcS, XP, XN, XO, Yc, XA, Yg, Xy, XE, endV, gdst, Yk, XR, Yd, goR, XC, sBox, XU, XH, Xr, sNil, XL, Xt, XV, Xv, goD, valD, XI, XF, XB, dNil, XK, XD, dBox, dN, Xz, opL, idxs, pv, XX, Ya, XJ, Xb, Xu, oBin, oUn, Ye, XW, Xw, Xx, Xh, Xk, XY, XS, oLen, lenS, Yh, ev, lk, Vc.put, fits, kd, sz, Tryz.VΓ, Tryz.Γs, bin, binI, binS, ifK, ar, eqB, eqS, eqK, eqK.eqF, negB, bnds, optE, XM, Vc.cells, isV, Vc.one, Xs, getB, setB, XZ, Xp, Xi, Yf, Xl, XT, resS, tupS, ofV, Yj, Nat.reduceAdd, Nat.reduceSub, Nat.reduceLT, Nat.reduceLeDiff, reduceIte, reduceCtorEq, Nat.reduceEqDiff, implies_true, forall_const, lawV, h1, h4, h5, h8, h9, h10]
    refine ⟨⟨by omega, by omega⟩, ⟨k + 1, by omega, rfl, ?_, ?_, ?_, ?_⟩, ?_⟩
    · rw [hft, hb2]; exact hB1.set
    · rw [hb2, List.length_set]; exact hbl1
    · rw [hb2, List.getElem?_set_ne (by omega)]; exact hbi1
    · intro q hq hne
      rw [hb2, List.getElem?_set_ne (by omega)]; exact hbq1 q hq hne
    · rw [lkI_eq (k := .i64) (n := (k : Int) + 1) rfl]; omega
  · have hie : k = L.length := by omega
    subst hie
    rw [List.take_length] at hB hbi
    have hlf : decide ((L.length : Int) < L.length) = false := by simp
    simp only [vcS, ↓Xn, ↓Xo, ↓Xg, ↓Xd, ↓Xe, ↓Xf, XQ, XG, gvU, setR, orN, Yl, Xm, Yn, Yi, Xa, Ym, Xc, Xc.sizeIs, reS, Xj, Yb, mmS, Xq, dstS, srcS, XP, XN, XO, Yc, XA, Yg, Xy, XE, endV, gdst, Yk, XR, Yd, goR, XC, sBox, XU, XH, Xr, sNil, XL, Xt, XV, Xv, goD, valD, XI, XF, XB, dNil, XK, XD, dBox, dN, Xz, opL, idxs, pv, XX, Ya, XJ, Xb, Xu, oBin, oUn, Ye, XW, Xw, Xx, Xh, Xk, XY, XS, oLen, lenS, Yh, ev, lk, Vc.put, fits, kd, sz, Tryz.VΓ, Tryz.Γs, bin, binI, binS, ifK, ar, eqB, eqS, eqK, eqK.eqF, negB, bnds, optE, XM, Vc.cells, isV, Vc.one, Xs, getB, setB, XZ, Xp, Xi, Yf, Xl, XT, resS, tupS, ofV, Yj, Nat.reduceAdd, Nat.reduceSub, Nat.reduceLT, Nat.reduceLeDiff, reduceIte, reduceCtorEq, Nat.reduceEqDiff, implies_true, forall_const, lawV, h1, h4, h5, h8, h9, h10, hlf]
    refine callV_sc (sc_Str hB) ?_
    rintro r b2 ⟨rfl, hb2⟩
    simp only [vcS, ↓Xn, ↓Xo, ↓Xg, ↓Xd, ↓Xe, ↓Xf, XQ, XG, gvU, setR, orN, Yl, Xm, Yn, Yi, Xa, Ym, Xc, Xc.sizeIs, reS, Xj, Yb, mmS, Xq, dstS, srcS, XP, XN, XO, Yc, XA, Yg, Xy, XE, endV, gdst, Yk, XR, Yd, goR, XC, sBox, XU, XH, Xr, sNil, XL, Xt, XV, Xv, goD, valD, XI, XF, XB, dNil, XK, XD, dBox, dN, Xz, opL, idxs, pv, XX, Ya, XJ, Xb, Xu, oBin, oUn, Ye, XW, Xw, Xx, Xh, Xk, XY, XS, oLen, lenS, Yh, ev, lk, Vc.put, fits, kd, sz, Tryz.VΓ, Tryz.Γs, bin, binI, binS, ifK, ar, eqB, eqS, eqK, eqK.eqF, negB, bnds, optE, XM, Vc.cells, isV, Vc.one, Xs, getB, setB, XZ, Xp, Xi, Yf, Xl, XT, resS, tupS, ofV, Yj, Nat.reduceAdd, Nat.reduceSub, Nat.reduceLT, Nat.reduceLeDiff, reduceIte, reduceCtorEq, Nat.reduceEqDiff, implies_true, forall_const, lawV, h1, h4, h5, h8, h9, h10]
    simp only at hb2
    apply List.ext_getElem?
    intro q
    rw [hb2]
    rcases Nat.lt_trichotomy q bs.length with hq | hq | hq
    · rw [List.getElem?_set_ne (by omega), List.getElem?_append_left (by rw [List.length_set]; exact hq)]
      by_cases hqi : q = i
      · subst hqi; rw [List.getElem?_set_self hq]; exact hbi
      · rw [List.getElem?_set_ne (fun e => hqi e.symm)]; exact hbq q hq hqi
    · subst hq
      rw [List.getElem?_set_self (by omega), List.getElem?_append_right (by simp)]
      simp
    · rw [List.getElem?_eq_none (by simp; omega), List.getElem?_eq_none (by simp; omega)]
theorem length_le_flatten : ∀ {l : List Bytes} {x : Bytes}, x ∈ l → x.length ≤ l.flatten.length
  | y :: l, x, h => by
    rw [List.flatten_cons, List.length_append]
    rcases List.mem_cons.1 h with rfl | h
    · omega
    · have := length_le_flatten h; omega
theorem p_numFormat (n : Nat) (hn : n ≤ 18446744073709551615) : PC Tryz.V 77 [.int .u64 n] (.str (decS n)) :=
  ⟨Tryz.call77, by simp [flat, flat.flatL], by simp [flat, flat.flatL], fun w _ => (number_Format n w hn).mono fun _ _ ⟨h, k⟩ => ⟨h, k⟩⟩
set_option maxRecDepth 20000 in
set_option maxHeartbeats 4000000 in
theorem p_web_ToURL (d : Did) (h : DidFits d) : PC Tryz.V 16 [dsv d] (.tup [wsv (toUrl d).1, .int .i64 (toUrl d).2]) := by
  have pa := p_web_Authority d h
  have hdec := @auth_dec d
  have hha : (didAuth d).2 = 0 → hostPort (hostText (didAuth d).1.1 (didAuth d).1.2) = (((didAuth d).1.1, (didAuth d).1.2), 0) ∧ d.method = webS ∧ (didParse (didText d)).2 = 0 := didAuth_ok
  unfold toUrl
  generalize didAuth d = A at pa hha ⊢
  obtain ⟨⟨x, p⟩, e⟩ := A
  simp only at pa hha ⊢
  refine pc_of 3000 Tryz.func16 rfl Tryz.ntmps16 Tryz.results16 Tryz.call16 (by simp) (by simp [flat, flat.flatL, dsv, wsv]) (by simp [flat, flat.flatL, dsv, wsv]) ?_
  unfold dsv
  unfold dsv at pa
  simp only [vcS, ↓Xn, ↓Xo, ↓Xg, ↓Xd, ↓Xe, ↓Xf, XQ, XG, gvU, setR, orN, Yl, Xm, Yn, Yi, Xa, Ym, Xc, Xc.sizeIs, reS, Xj, Yb, mmS, Xq, dstS, srcS, XP, XN, XO, Yc, XA, Yg, Xy, XE, endV, gdst, Yk, XR, Yd, goR, XC, sBox, XU, XH, Xr, sNil, XL, Xt, XV, Xv, goD, valD, XI, XF, XB, dNil, XK, XD, dBox, dN, Xz, opL, idxs, pv, XX, Ya, XJ, Xb, Xu, oBin, oUn, Ye, XW, Xw, Xx, Xh, Xk, XY, XS, oLen, lenS, Yh, ev, lk, Vc.put, fits, kd, sz, Tryz.VΓ, Tryz.Γs, bin, binI, binS, ifK, ar, eqB, eqS, eqK, eqK.eqF, negB, bnds, optE, XM, Vc.cells, isV, Vc.one, Xs, getB, setB, XZ, Xp, Xi, Yf, Xl, XT, resS, tupS, ofV, Yj, Nat.reduceAdd, Nat.reduceSub, Nat.reduceLT, Nat.reduceLeDiff, reduceIte, reduceCtorEq, Nat.reduceEqDiff, implies_true, forall_const, lawV]
  (refine callV_pc pa ?_; simp only [vcS, ↓Xn, ↓Xo, ↓Xg, ↓Xd, ↓Xe, ↓Xf, XQ, XG, gvU, setR, orN, Yl, Xm, Yn, Yi, Xa, Ym, Xc, Xc.sizeIs, reS, Xj, Yb, mmS, Xq, dstS, srcS, XP, XN, XO, Yc, XA, Yg, Xy, XE, endV, gdst, Yk, XR, Yd, goR, XC, sBox, XU, XH, Xr, sNil, XL, Xt, XV, Xv, goD, valD, XI, XF, XB, dNil, XK, XD, dBox, dN, Xz, opL, idxs, pv, XX, Ya, XJ, Xb, Xu, oBin, oUn, Ye, XW, Xw, Xx, Xh, Xk, XY, XS, oLen, lenS, Yh, ev, lk, Vc.put, fits, kd, sz, Tryz.VΓ, Tryz.Γs, bin, binI, binS, ifK, ar, eqB, eqS, eqK, eqK.eqF, negB, bnds, optE, XM, Vc.cells, isV, Vc.one, Xs, getB, setB, XZ, Xp, Xi, Yf, Xl, XT, resS, tupS, ofV, Yj, Nat.reduceAdd, Nat.reduceSub, Nat.reduceLT, Nat.reduceLeDiff, reduceIte, reduceCtorEq, Nat.reduceEqDiff, implies_true, forall_const, lawV])
  refine ⟨fun h1 => (by rw [if_pos (by simpa using h1)]; rfl), fun h1 => ?_⟩
  have h1 : e = 0 := by simpa using h1
  rw [if_neg (by simp [h1])]
  obtain ⟨hh, hm, hp⟩ := hha h1
  obtain ⟨hl, hseg⟩ := hdec hm hp
  have hsf := split_flat 58 d.id
  obtain ⟨T, hT⟩ := cut_head 58 d.id
  have hsp := split_all 58 d.id
  rw [hT] at hseg hsf hsp ⊢
  generalize (cutC 58 d.id).1 = c at hseg hsf hsp ⊢
  simp only [List.flatten_cons, List.length_append, List.length_cons, List.tail_cons] at hsf ⊢
  refine callV_sc (sc_strSplit d.id [58] _ hsp (by omega) (by decide)) ?_
  rintro r b ⟨rfl, rfl⟩
  simp only [vcS, ↓Xn, ↓Xo, ↓Xg, ↓Xd, ↓Xe, ↓Xf, XQ, XG, gvU, setR, orN, Yl, Xm, Yn, Yi, Xa, Ym, Xc, Xc.sizeIs, reS, Xj, Yb, mmS, Xq, dstS, srcS, XP, XN, XO, Yc, XA, Yg, Xy, XE, endV, gdst, Yk, XR, Yd, goR, XC, sBox, XU, XH, Xr, sNil, XL, Xt, XV, Xv, goD, valD, XI, XF, XB, dNil, XK, XD, dBox, dN, Xz, opL, idxs, pv, XX, Ya, XJ, Xb, Xu, oBin, oUn, Ye, XW, Xw, Xx, Xh, Xk, XY, XS, oLen, lenS, Yh, ev, lk, Vc.put, fits, kd, sz, Tryz.VΓ, Tryz.Γs, bin, binI, binS, ifK, ar, eqB, eqS, eqK, eqK.eqF, negB, bnds, optE, XM, Vc.cells, isV, Vc.one, Xs, getB, setB, XZ, Xp, Xi, Yf, Xl, XT, resS, tupS, ofV, Yj, Nat.reduceAdd, Nat.reduceSub, Nat.reduceLT, Nat.reduceLeDiff, reduceIte, reduceCtorEq, Nat.reduceEqDiff, implies_true, forall_const, lawV]
  have e0 : T.length + 1 - Int.toNat 1 = T.length := by simp
  have e1 : List.drop (Int.toNat 1 * 1) (List.take ((T.length + 1) * 1) (SV.str c :: T.map SV.str)) = T.map SV.str := by
    rw [List.take_of_length_le (by simp)]; simp
  simp only [e0, e1]
  have hfu := flat_up T
  have hfit : ∀ q : Bytes, q.length ≤ 100000 → Fair ⟨x, p, q, [], [], false, false⟩ := fun q hq => by
    obtain ⟨-, -, -, k4, k5, k6⟩ := hostPort_back hh
    exact ⟨by simp only [List.length_nil]; omega, by simp only; omega, by simp only; omega⟩
  refine ⟨⟨by omega, by omega⟩, fun hn => ?_, fun hn => ?_⟩
  · have hT1 : T ≠ [] := by rintro rfl; simp at hn
    refine callV_sc (sc_each_up (i := 6) (j := 5) (m := false) (e := 0) (L := T) rfl rfl (fun y hy => by have := (hseg y (List.mem_cons_of_mem _ hy)).2; omega) (by omega) (by omega)) ?_
    rintro r b ⟨rfl, rfl⟩
    have ep : T.flatMap segUp ++ [47] ++ [100, 105, 100, 46, 106, 115, 111, 110] = toPath T := by
      unfold toPath
      rw [if_neg hT1]
      simp [lastS]
    have hpl : (toPath T).length ≤ 100000 := by rw [← ep]; simp only [List.length_append, List.length_cons, List.length_nil]; omega
    have pf := p_url_Format ⟨x, p, toPath T, [], [], false, false⟩ (hfit _ hpl)
    unfold wsv at pf
    simp only at pf
    rcases Bool.eq_false_or_eq_true (T.all segOk) with hall | hall
    rotate_left
    · simp only [vcS, ↓Xn, ↓Xo, ↓Xg, ↓Xd, ↓Xe, ↓Xf, XQ, XG, gvU, setR, orN, Yl, Xm, Yn, Yi, Xa, Ym, Xc, Xc.sizeIs, reS, Xj, Yb, mmS, Xq, dstS, srcS, XP, XN, XO, Yc, XA, Yg, Xy, XE, endV, gdst, Yk, XR, Yd, goR, XC, sBox, XU, XH, Xr, sNil, XL, Xt, XV, Xv, goD, valD, XI, XF, XB, dNil, XK, XD, dBox, dN, Xz, opL, idxs, pv, XX, Ya, XJ, Xb, Xu, oBin, oUn, Ye, XW, Xw, Xx, Xh, Xk, XY, XS, oLen, lenS, Yh, ev, lk, Vc.put, fits, kd, sz, Tryz.VΓ, Tryz.Γs, bin, binI, binS, ifK, ar, eqB, eqS, eqK, eqK.eqF, negB, bnds, optE, XM, Vc.cells, isV, Vc.one, Xs, getB, setB, XZ, Xp, Xi, Yf, Xl, XT, resS, tupS, ofV, Yj, Nat.reduceAdd, Nat.reduceSub, Nat.reduceLT, Nat.reduceLeDiff, reduceIte, reduceCtorEq, Nat.reduceEqDiff, implies_true, forall_const, lawV, hall, ep, List.set_cons_succ, List.set_cons_zero, List.cons_append, List.nil_append, beq_self_eq_true, bne_self_eq_false, Int.reduceBEq, Int.reduceBNe, Int.reduceLT, Int.reduceLE, Bool.false_eq_true, if_false]
      refine ⟨by omega, by simp only [List.length_append, List.length_cons, List.length_nil]; omega, (OkD_fast (by kernel_rfl)), rfl⟩
    · simp only [vcS, ↓Xn, ↓Xo, ↓Xg, ↓Xd, ↓Xe, ↓Xf, XQ, XG, gvU, setR, orN, Yl, Xm, Yn, Yi, Xa, Ym, Xc, Xc.sizeIs, reS, Xj, Yb, mmS, Xq, dstS, srcS, XP, XN, XO, Yc, XA, Yg, Xy, XE, endV, gdst, Yk, XR, Yd, goR, XC, sBox, XU, XH, Xr, sNil, XL, Xt, XV, Xv, goD, valD, XI, XF, XB, dNil, XK, XD, dBox, dN, Xz, opL, idxs, pv, XX, Ya, XJ, Xb, Xu, oBin, oUn, Ye, XW, Xw, Xx, Xh, Xk, XY, XS, oLen, lenS, Yh, ev, lk, Vc.put, fits, kd, sz, Tryz.VΓ, Tryz.Γs, bin, binI, binS, ifK, ar, eqB, eqS, eqK, eqK.eqF, negB, bnds, optE, XM, Vc.cells, isV, Vc.one, Xs, getB, setB, XZ, Xp, Xi, Yf, Xl, XT, resS, tupS, ofV, Yj, Nat.reduceAdd, Nat.reduceSub, Nat.reduceLT, Nat.reduceLeDiff, reduceIte, reduceCtorEq, Nat.reduceEqDiff, implies_true, forall_const, lawV, hall, ep, List.set_cons_succ, List.set_cons_zero, List.cons_append, List.nil_append, beq_self_eq_true, bne_self_eq_false, Int.reduceBEq, Int.reduceBNe, Int.reduceLT, Int.reduceLE, if_true]
      refine ⟨by omega, by simp only [List.length_append, List.length_cons, List.length_nil]; omega, ?_⟩
      (refine callV_pc pf ?_; simp only [vcS, ↓Xn, ↓Xo, ↓Xg, ↓Xd, ↓Xe, ↓Xf, XQ, XG, gvU, setR, orN, Yl, Xm, Yn, Yi, Xa, Ym, Xc, Xc.sizeIs, reS, Xj, Yb, mmS, Xq, dstS, srcS, XP, XN, XO, Yc, XA, Yg, Xy, XE, endV, gdst, Yk, XR, Yd, goR, XC, sBox, XU, XH, Xr, sNil, XL, Xt, XV, Xv, goD, valD, XI, XF, XB, dNil, XK, XD, dBox, dN, Xz, opL, idxs, pv, XX, Ya, XJ, Xb, Xu, oBin, oUn, Ye, XW, Xw, Xx, Xh, Xk, XY, XS, oLen, lenS, Yh, ev, lk, Vc.put, fits, kd, sz, Tryz.VΓ, Tryz.Γs, bin, binI, binS, ifK, ar, eqB, eqS, eqK, eqK.eqF, negB, bnds, optE, XM, Vc.cells, isV, Vc.one, Xs, getB, setB, XZ, Xp, Xi, Yf, Xl, XT, resS, tupS, ofV, Yj, Nat.reduceAdd, Nat.reduceSub, Nat.reduceLT, Nat.reduceLeDiff, reduceIte, reduceCtorEq, Nat.reduceEqDiff, implies_true, forall_const, lawV])
      unfold toUrlEnd
      exact ⟨fun hl => (by rw [if_pos (by simp only [decide_eq_true_eq, decide_eq_false_iff_not] at hl; omega)]; rfl), fun hl => (by rw [if_neg (by simp only [decide_eq_true_eq, decide_eq_false_iff_not] at hl; omega)]; rfl)⟩
  · obtain rfl : T = [] := by
      cases T with
      | nil => rfl
      | cons => simp at hn
    have pf := p_url_Format ⟨x, p, rootS, [], [], false, false⟩ (hfit rootS (by decide))
    unfold wsv at pf
    have ep : ([47, 46, 119, 101, 108, 108, 45, 107, 110, 111, 119, 110, 47, 100, 105, 100, 46, 106, 115, 111, 110] : Bytes) = rootS := rfl
    rw [ep]
    (refine callV_pc pf ?_; simp only [vcS, ↓Xn, ↓Xo, ↓Xg, ↓Xd, ↓Xe, ↓Xf, XQ, XG, gvU, setR, orN, Yl, Xm, Yn, Yi, Xa, Ym, Xc, Xc.sizeIs, reS, Xj, Yb, mmS, Xq, dstS, srcS, XP, XN, XO, Yc, XA, Yg, Xy, XE, endV, gdst, Yk, XR, Yd, goR, XC, sBox, XU, XH, Xr, sNil, XL, Xt, XV, Xv, goD, valD, XI, XF, XB, dNil, XK, XD, dBox, dN, Xz, opL, idxs, pv, XX, Ya, XJ, Xb, Xu, oBin, oUn, Ye, XW, Xw, Xx, Xh, Xk, XY, XS, oLen, lenS, Yh, ev, lk, Vc.put, fits, kd, sz, Tryz.VΓ, Tryz.Γs, bin, binI, binS, ifK, ar, eqB, eqS, eqK, eqK.eqF, negB, bnds, optE, XM, Vc.cells, isV, Vc.one, Xs, getB, setB, XZ, Xp, Xi, Yf, Xl, XT, resS, tupS, ofV, Yj, Nat.reduceAdd, Nat.reduceSub, Nat.reduceLT, Nat.reduceLeDiff, reduceIte, reduceCtorEq, Nat.reduceEqDiff, implies_true, forall_const, lawV])
    have : toPath [] = rootS := rfl
    rw [this]
    unfold toUrlEnd
    exact ⟨fun hl => (by rw [if_pos (by simp only [decide_eq_true_eq, decide_eq_false_iff_not] at hl; omega)]; rfl), fun hl => (by rw [if_neg (by simp only [decide_eq_true_eq, decide_eq_false_iff_not] at hl; omega)]; rfl)⟩
set_option maxRecDepth 20000 in
set_option maxHeartbeats 4000000 in
theorem p_web_FromURL (u : Url) (hk : Fair u) : PC Tryz.V 31 [wsv u] (.tup [dsv (fromUrl u).1, .int .i64 (fromUrl u).2]) := by
  have pv1 := p_url_Valid u hk
  have hpl := hk.1
  unfold wsv at pv1 ⊢
  cases hv : urlValid u
  · rw [hv] at pv1
    rw [show fromUrl u = (Did.none, 8) from if_pos hv]
    refine pc_of 3000 Tryz.func31 rfl Tryz.ntmps31 Tryz.results31 Tryz.call31 (by simp) (by simp [flat, flat.flatL, dsv, wsv]) (by simp [flat, flat.flatL, dsv, wsv]) ?_
    simp only [vcS, ↓Xn, ↓Xo, ↓Xg, ↓Xd, ↓Xe, ↓Xf, XQ, XG, gvU, setR, orN, Yl, Xm, Yn, Yi, Xa, Ym, Xc, Xc.sizeIs, reS, Xj, Yb, mmS, Xq, dstS, srcS, XP, XN, XO, Yc, XA, Yg, Xy, XE, endV, gdst, Yk, XR, Yd, goR, XC, sBox, XU, XH, Xr, sNil, XL, Xt, XV, Xv, goD, valD, XI, XF, XB, dNil, XK, XD, dBox, dN, Xz, opL, idxs, pv, XX, Ya, XJ, Xb, Xu, oBin, oUn, Ye, XW, Xw, Xx, Xh, Xk, XY, XS, oLen, lenS, Yh, ev, lk, Vc.put, fits, kd, sz, Tryz.VΓ, Tryz.Γs, bin, binI, binS, ifK, ar, eqB, eqS, eqK, eqK.eqF, negB, bnds, optE, XM, Vc.cells, isV, Vc.one, Xs, getB, setB, XZ, Xp, Xi, Yf, Xl, XT, resS, tupS, ofV, Yj, Nat.reduceAdd, Nat.reduceSub, Nat.reduceLT, Nat.reduceLeDiff, reduceIte, reduceCtorEq, Nat.reduceEqDiff, implies_true, forall_const, lawV]
    (refine callV_pc pv1 ?_; simp only [vcS, ↓Xn, ↓Xo, ↓Xg, ↓Xd, ↓Xe, ↓Xf, XQ, XG, gvU, setR, orN, Yl, Xm, Yn, Yi, Xa, Ym, Xc, Xc.sizeIs, reS, Xj, Yb, mmS, Xq, dstS, srcS, XP, XN, XO, Yc, XA, Yg, Xy, XE, endV, gdst, Yk, XR, Yd, goR, XC, sBox, XU, XH, Xr, sNil, XL, Xt, XV, Xv, goD, valD, XI, XF, XB, dNil, XK, XD, dBox, dN, Xz, opL, idxs, pv, XX, Ya, XJ, Xb, Xu, oBin, oUn, Ye, XW, Xw, Xx, Xh, Xk, XY, XS, oLen, lenS, Yh, ev, lk, Vc.put, fits, kd, sz, Tryz.VΓ, Tryz.Γs, bin, binI, binS, ifK, ar, eqB, eqS, eqK, eqK.eqF, negB, bnds, optE, XM, Vc.cells, isV, Vc.one, Xs, getB, setB, XZ, Xp, Xi, Yf, Xl, XT, resS, tupS, ofV, Yj, Nat.reduceAdd, Nat.reduceSub, Nat.reduceLT, Nat.reduceLeDiff, reduceIte, reduceCtorEq, Nat.reduceEqDiff, implies_true, forall_const, lawV, beq_self_eq_true, bne_self_eq_false, Int.reduceBEq, Int.reduceBNe, Int.reduceLT, Int.reduceLE])
    rfl
  obtain ⟨T, z, hT, hzl, hL0, hp4⟩ := valid_split hv
  rw [fromUrl_at hv hT hzl]
  rw [hv] at pv1
  have hsf := split_flat 47 u.path
  have hsp := split_all 47 u.path
  rw [hT] at hsf hsp
  generalize (cutC 47 u.path).1 = c at hsf hsp
  clear hT
  simp only [List.flatten_cons, List.length_append, List.length_cons] at hsf
  have e0 : T.length + 1 - Int.toNat 1 = T.length := by simp
  have e1 : List.drop (Int.toNat 1 * 1) (List.take ((T.length + 1) * 1) (SV.str c :: T.map SV.str)) = T.map SV.str := by
    rw [List.take_of_length_le (by simp)]; simp
  have hz : (T.map SV.str)[((T.length : Int) - 1).toNat * 1]? = some (.str z) := by
    rw [show ((T.length : Int) - 1).toNat * 1 = T.length - 1 by omega, List.getElem?_map, ← List.getLast?_eq_getElem?, hzl]
    rfl
  refine pc_of 3000 Tryz.func31 rfl Tryz.ntmps31 Tryz.results31 Tryz.call31 (by simp) (by simp [flat, flat.flatL, dsv, wsv]) (by simp [flat, flat.flatL, dsv, wsv]) ?_
  simp only [vcS, ↓Xn, ↓Xo, ↓Xg, ↓Xd, ↓Xe, ↓Xf, XQ, XG, gvU, setR, orN, Yl, Xm, Yn, Yi, Xa, Ym, Xc, Xc.sizeIs, reS, Xj, Yb, mmS, Xq, dstS, srcS, XP, XN, XO, Yc, XA, Yg, Xy, XE, endV, gdst, Yk, XR, Yd, goR, XC, sBox, XU, XH, Xr, sNil, XL, Xt, XV, Xv, goD, valD, XI, XF, XB, dNil, XK, XD, dBox, dN, Xz, opL, idxs, pv, XX, Ya, XJ, Xb, Xu, oBin, oUn, Ye, XW, Xw, Xx, Xh, Xk, XY, XS, oLen, lenS, Yh, ev, lk, Vc.put, fits, kd, sz, Tryz.VΓ, Tryz.Γs, bin, binI, binS, ifK, ar, eqB, eqS, eqK, eqK.eqF, negB, bnds, optE, XM, Vc.cells, isV, Vc.one, Xs, getB, setB, XZ, Xp, Xi, Yf, Xl, XT, resS, tupS, ofV, Yj, Nat.reduceAdd, Nat.reduceSub, Nat.reduceLT, Nat.reduceLeDiff, reduceIte, reduceCtorEq, Nat.reduceEqDiff, implies_true, forall_const, lawV]
  (refine callV_pc pv1 ?_; simp only [vcS, ↓Xn, ↓Xo, ↓Xg, ↓Xd, ↓Xe, ↓Xf, XQ, XG, gvU, setR, orN, Yl, Xm, Yn, Yi, Xa, Ym, Xc, Xc.sizeIs, reS, Xj, Yb, mmS, Xq, dstS, srcS, XP, XN, XO, Yc, XA, Yg, Xy, XE, endV, gdst, Yk, XR, Yd, goR, XC, sBox, XU, XH, Xr, sNil, XL, Xt, XV, Xv, goD, valD, XI, XF, XB, dNil, XK, XD, dBox, dN, Xz, opL, idxs, pv, XX, Ya, XJ, Xb, Xu, oBin, oUn, Ye, XW, Xw, Xx, Xh, Xk, XY, XS, oLen, lenS, Yh, ev, lk, Vc.put, fits, kd, sz, Tryz.VΓ, Tryz.Γs, bin, binI, binS, ifK, ar, eqB, eqS, eqK, eqK.eqF, negB, bnds, optE, XM, Vc.cells, isV, Vc.one, Xs, getB, setB, XZ, Xp, Xi, Yf, Xl, XT, resS, tupS, ofV, Yj, Nat.reduceAdd, Nat.reduceSub, Nat.reduceLT, Nat.reduceLeDiff, reduceIte, reduceCtorEq, Nat.reduceEqDiff, implies_true, forall_const, lawV, beq_self_eq_true, bne_self_eq_false, Int.reduceBEq, Int.reduceBNe, Int.reduceLT, Int.reduceLE])
  refine callV_sc (sc_strSplit u.path [47] _ hsp (by omega) (by decide)) ?_
  rintro r b ⟨rfl, rfl⟩
  simp only [vcS, ↓Xn, ↓Xo, ↓Xg, ↓Xd, ↓Xe, ↓Xf, XQ, XG, gvU, setR, orN, Yl, Xm, Yn, Yi, Xa, Ym, Xc, Xc.sizeIs, reS, Xj, Yb, mmS, Xq, dstS, srcS, XP, XN, XO, Yc, XA, Yg, Xy, XE, endV, gdst, Yk, XR, Yd, goR, XC, sBox, XU, XH, Xr, sNil, XL, Xt, XV, Xv, goD, valD, XI, XF, XB, dNil, XK, XD, dBox, dN, Xz, opL, idxs, pv, XX, Ya, XJ, Xb, Xu, oBin, oUn, Ye, XW, Xw, Xx, Xh, Xk, XY, XS, oLen, lenS, Yh, ev, lk, Vc.put, fits, kd, sz, Tryz.VΓ, Tryz.Γs, bin, binI, binS, ifK, ar, eqB, eqS, eqK, eqK.eqF, negB, bnds, optE, XM, Vc.cells, isV, Vc.one, Xs, getB, setB, XZ, Xp, Xi, Yf, Xl, XT, resS, tupS, ofV, Yj, Nat.reduceAdd, Nat.reduceSub, Nat.reduceLT, Nat.reduceLeDiff, reduceIte, reduceCtorEq, Nat.reduceEqDiff, implies_true, forall_const, lawV, e0, e1, hz]
  have hzS : (z != [100, 105, 100, 46, 106, 115, 111, 110]) = (z != lastS) := rfl
  have hrS : (u.path != [47, 46, 119, 101, 108, 108, 45, 107, 110, 111, 119, 110, 47, 100, 105, 100, 46, 106, 115, 111, 110]) = (u.path != rootS) := rfl
  rw [hzS, hrS]
  have hcan := valid_can hv
  obtain ⟨-, -, -, k4, k5, k6⟩ := hostPort_back hcan.host
  have hwrap : IntKind.u64.wrap u.port = (u.port.natAbs : Int) := by
    simp only [IntKind.wrap, IntKind.signed, IntKind.bits]
    simp
    omega
  have hdl : T.dropLast.length = T.length - 1 := List.length_dropLast ..
  have e2 : ((T.length : Int) - 1).toNat = T.dropLast.length := by omega
  have e3 : List.take (T.dropLast.length * 1) (T.map SV.str) = T.dropLast.map SV.str := by
    rw [Nat.mul_one, hdl, List.dropLast_eq_take, List.map_take]
  have hdf : T.dropLast.flatten.length ≤ T.flatten.length := by
    rw [List.dropLast_eq_take]
    have := congrArg (fun l => (List.flatten l).length) (List.take_append_drop (T.length - 1) T)
    simp only [List.flatten_append, List.length_append] at this
    omega
  have hdm : ∀ x ∈ T.dropLast, x.length ≤ 16384 := fun x hx => by
    have := length_le_flatten hx
    omega
  have hfd := flat_down T.dropLast
  have hfit : ∀ q : Bytes, q.length ≤ 100000 → DidFits ⟨webS, q⟩ := fun q hq => ⟨show webS.length ≤ _ by decide, show q.length ≤ _ by omega⟩
  simp only [e2, e3]
  refine ⟨⟨by omega, by omega⟩, fun hq => ⟨fun hf => ⟨⟨by omega, by omega⟩, ⟨by omega, by omega⟩, by simp; omega, fun hz1 => ?_, fun hz1 => ⟨fun hl1 => ?_, fun hl1 => ⟨fun hp => ?_, fun hp => ?_⟩⟩⟩, fun hf => ?_⟩, fun hq => ?_⟩
  · rw [if_neg (by rw [hq]; simp), if_neg (by rw [hf]; simp), if_pos hz1]; rfl
  · rw [if_neg (by rw [hq]; simp), if_neg (by rw [hf]; simp), if_neg (by rw [hz1]; simp), if_pos (by simp at hl1; omega)]; rfl
  · rw [if_neg (by rw [hq]; simp), if_neg (by rw [hf]; simp), if_neg (by rw [hz1]; simp), if_neg (by simp at hl1; omega)]
    have hp0 : ¬ u.port = 0 := by simpa using hp
    have hib : idBase u = u.host ++ ([37, 51, 65] ++ decS u.port.natAbs) := by unfold idBase; rw [if_neg hp0]
    rw [hwrap]
    have pn := p_numFormat u.port.natAbs (by omega)
    have hdc := decS_length 19 u.port.natAbs (by omega)
    (refine callD_pc pn ?_; simp only [vcS, ↓Xn, ↓Xo, ↓Xg, ↓Xd, ↓Xe, ↓Xf, XQ, XG, gvU, setR, orN, Yl, Xm, Yn, Yi, Xa, Ym, Xc, Xc.sizeIs, reS, Xj, Yb, mmS, Xq, dstS, srcS, XP, XN, XO, Yc, XA, Yg, Xy, XE, endV, gdst, Yk, XR, Yd, goR, XC, sBox, XU, XH, Xr, sNil, XL, Xt, XV, Xv, goD, valD, XI, XF, XB, dNil, XK, XD, dBox, dN, Xz, opL, idxs, pv, XX, Ya, XJ, Xb, Xu, oBin, oUn, Ye, XW, Xw, Xx, Xh, Xk, XY, XS, oLen, lenS, Yh, ev, lk, Vc.put, fits, kd, sz, Tryz.VΓ, Tryz.Γs, bin, binI, binS, ifK, ar, eqB, eqS, eqK, eqK.eqF, negB, bnds, optE, XM, Vc.cells, isV, Vc.one, Xs, getB, setB, XZ, Xp, Xi, Yf, Xl, XT, resS, tupS, ofV, Yj, Nat.reduceAdd, Nat.reduceSub, Nat.reduceLT, Nat.reduceLeDiff, reduceIte, reduceCtorEq, Nat.reduceEqDiff, implies_true, forall_const, lawV])
    rw [hrS]
    simp only [e2, e3]
    refine ⟨by omega, by omega, (OkD_fast (by kernel_rfl)), ?_⟩
    have hBl : (u.host ++ 37 :: 51 :: 65 :: decS u.port.natAbs).length ≤ 300 := by simp only [List.length_append, List.length_cons]; omega
    have hib : idBase u = u.host ++ 37 :: 51 :: 65 :: decS u.port.natAbs := hib
    refine ⟨fun hr => ⟨⟨by omega, by omega⟩, ⟨by omega, by omega⟩, ?_⟩, fun hr => ?_⟩
    · unfold fromSegs
      rw [if_neg (by simpa using hr), hib]
      rcases Bool.eq_false_or_eq_true (T.dropLast.all downOk) with hall | hall
      · rw [if_neg (by rw [hall]; simp)]
        have pf := p_did_FormatDID ⟨webS, (u.host ++ 37 :: 51 :: 65 :: decS u.port.natAbs) ++ T.dropLast.flatMap segDown⟩ (hfit _ (by rw [List.length_append]; omega))
        unfold dsv at pf
        simp only at pf
        refine callD_scw [(5, 0, 0), (7, 0, 0)] (sc_each_down (i := 5) (j := 6) (m := false) (e := 0) (L := T.dropLast) rfl rfl hdm (by omega) (by omega)) (outs_each (i := 5) _ _ rfl) ?_
        simp only [vcS, ↓Xn, ↓Xo, ↓Xg, ↓Xd, ↓Xe, ↓Xf, XQ, XG, gvU, setR, orN, Yl, Xm, Yn, Yi, Xa, Ym, Xc, Xc.sizeIs, reS, Xj, Yb, mmS, Xq, dstS, srcS, XP, XN, XO, Yc, XA, Yg, Xy, XE, endV, gdst, Yk, XR, Yd, goR, XC, sBox, XU, XH, Xr, sNil, XL, Xt, XV, Xv, goD, valD, XI, XF, XB, dNil, XK, XD, dBox, dN, Xz, opL, idxs, pv, XX, Ya, XJ, Xb, Xu, oBin, oUn, Ye, XW, Xw, Xx, Xh, Xk, XY, XS, oLen, lenS, Yh, ev, lk, Vc.put, fits, kd, sz, Tryz.VΓ, Tryz.Γs, bin, binI, binS, ifK, ar, eqB, eqS, eqK, eqK.eqF, negB, bnds, optE, XM, Vc.cells, isV, Vc.one, Xs, getB, setB, XZ, Xp, Xi, Yf, Xl, XT, resS, tupS, ofV, Yj, Nat.reduceAdd, Nat.reduceSub, Nat.reduceLT, Nat.reduceLeDiff, reduceIte, reduceCtorEq, Nat.reduceEqDiff, implies_true, forall_const, lawV, hall, List.set_cons_succ, List.set_cons_zero, List.cons_append, List.nil_append, beq_self_eq_true, bne_self_eq_false, Int.reduceBEq, Int.reduceBNe, Int.reduceLT, Int.reduceLE, if_true]
        refine ⟨by omega, (OkD_fast (by kernel_rfl)), ?_⟩
        (refine callV_pc pf ?_; simp only [vcS, ↓Xn, ↓Xo, ↓Xg, ↓Xd, ↓Xe, ↓Xf, XQ, XG, gvU, setR, orN, Yl, Xm, Yn, Yi, Xa, Ym, Xc, Xc.sizeIs, reS, Xj, Yb, mmS, Xq, dstS, srcS, XP, XN, XO, Yc, XA, Yg, Xy, XE, endV, gdst, Yk, XR, Yd, goR, XC, sBox, XU, XH, Xr, sNil, XL, Xt, XV, Xv, goD, valD, XI, XF, XB, dNil, XK, XD, dBox, dN, Xz, opL, idxs, pv, XX, Ya, XJ, Xb, Xu, oBin, oUn, Ye, XW, Xw, Xx, Xh, Xk, XY, XS, oLen, lenS, Yh, ev, lk, Vc.put, fits, kd, sz, Tryz.VΓ, Tryz.Γs, bin, binI, binS, ifK, ar, eqB, eqS, eqK, eqK.eqF, negB, bnds, optE, XM, Vc.cells, isV, Vc.one, Xs, getB, setB, XZ, Xp, Xi, Yf, Xl, XT, resS, tupS, ofV, Yj, Nat.reduceAdd, Nat.reduceSub, Nat.reduceLT, Nat.reduceLeDiff, reduceIte, reduceCtorEq, Nat.reduceEqDiff, implies_true, forall_const, lawV])
        unfold fromEnd
        exact ⟨fun hl => (by rw [if_pos (by simp only [decide_eq_true_eq, decide_eq_false_iff_not] at hl; omega)]; rfl), fun hl => (by rw [if_neg (by simp only [decide_eq_true_eq, decide_eq_false_iff_not] at hl; omega)]; rfl)⟩
      · rw [if_pos hall]
        refine callD_scw [(5, 0, 0), (7, 0, 0)] (sc_each_down (i := 5) (j := 6) (m := false) (e := 0) (L := T.dropLast) rfl rfl hdm (by omega) (by omega)) (outs_each (i := 5) _ _ rfl) ?_
        simp only [vcS, ↓Xn, ↓Xo, ↓Xg, ↓Xd, ↓Xe, ↓Xf, XQ, XG, gvU, setR, orN, Yl, Xm, Yn, Yi, Xa, Ym, Xc, Xc.sizeIs, reS, Xj, Yb, mmS, Xq, dstS, srcS, XP, XN, XO, Yc, XA, Yg, Xy, XE, endV, gdst, Yk, XR, Yd, goR, XC, sBox, XU, XH, Xr, sNil, XL, Xt, XV, Xv, goD, valD, XI, XF, XB, dNil, XK, XD, dBox, dN, Xz, opL, idxs, pv, XX, Ya, XJ, Xb, Xu, oBin, oUn, Ye, XW, Xw, Xx, Xh, Xk, XY, XS, oLen, lenS, Yh, ev, lk, Vc.put, fits, kd, sz, Tryz.VΓ, Tryz.Γs, bin, binI, binS, ifK, ar, eqB, eqS, eqK, eqK.eqF, negB, bnds, optE, XM, Vc.cells, isV, Vc.one, Xs, getB, setB, XZ, Xp, Xi, Yf, Xl, XT, resS, tupS, ofV, Yj, Nat.reduceAdd, Nat.reduceSub, Nat.reduceLT, Nat.reduceLeDiff, reduceIte, reduceCtorEq, Nat.reduceEqDiff, implies_true, forall_const, lawV, hall, List.set_cons_succ, List.set_cons_zero, List.cons_append, List.nil_append, beq_self_eq_true, bne_self_eq_false, Int.reduceBEq, Int.reduceBNe, Int.reduceLT, Int.reduceLE, Bool.false_eq_true, if_false]
        exact ⟨by omega, (OkD_fast (by kernel_rfl)), (OkD_fast (by kernel_rfl)), rfl⟩
    · unfold fromSegs
      rw [if_pos (by simpa using hr), hib]
      have pf := p_did_FormatDID ⟨webS, (u.host ++ 37 :: 51 :: 65 :: decS u.port.natAbs)⟩ (hfit _ (by omega))
      unfold dsv at pf
      simp only at pf
      (refine callV_pc pf ?_; simp only [vcS, ↓Xn, ↓Xo, ↓Xg, ↓Xd, ↓Xe, ↓Xf, XQ, XG, gvU, setR, orN, Yl, Xm, Yn, Yi, Xa, Ym, Xc, Xc.sizeIs, reS, Xj, Yb, mmS, Xq, dstS, srcS, XP, XN, XO, Yc, XA, Yg, Xy, XE, endV, gdst, Yk, XR, Yd, goR, XC, sBox, XU, XH, Xr, sNil, XL, Xt, XV, Xv, goD, valD, XI, XF, XB, dNil, XK, XD, dBox, dN, Xz, opL, idxs, pv, XX, Ya, XJ, Xb, Xu, oBin, oUn, Ye, XW, Xw, Xx, Xh, Xk, XY, XS, oLen, lenS, Yh, ev, lk, Vc.put, fits, kd, sz, Tryz.VΓ, Tryz.Γs, bin, binI, binS, ifK, ar, eqB, eqS, eqK, eqK.eqF, negB, bnds, optE, XM, Vc.cells, isV, Vc.one, Xs, getB, setB, XZ, Xp, Xi, Yf, Xl, XT, resS, tupS, ofV, Yj, Nat.reduceAdd, Nat.reduceSub, Nat.reduceLT, Nat.reduceLeDiff, reduceIte, reduceCtorEq, Nat.reduceEqDiff, implies_true, forall_const, lawV])
      unfold fromEnd
      exact ⟨fun hl => (by rw [if_pos (by simp only [decide_eq_true_eq, decide_eq_false_iff_not] at hl; omega)]; rfl), fun hl => (by rw [if_neg (by simp only [decide_eq_true_eq, decide_eq_false_iff_not] at hl; omega)]; rfl)⟩
  · rw [if_neg (by rw [hq]; simp), if_neg (by rw [hf]; simp), if_neg (by rw [hz1]; simp), if_neg (by simp at hl1; omega)]
    have hp0 : u.port = 0 := by simpa using hp
    have hib : idBase u = u.host := by unfold idBase; rw [if_pos hp0, List.append_nil]
    have hBl : u.host.length ≤ 300 := by omega
    refine ⟨fun hr => ⟨⟨by omega, by omega⟩, ⟨by omega, by omega⟩, ?_⟩, fun hr => ?_⟩
    · unfold fromSegs
      rw [if_neg (by simpa using hr), hib]
      rcases Bool.eq_false_or_eq_true (T.dropLast.all downOk) with hall | hall
      · rw [if_neg (by rw [hall]; simp)]
        have pf := p_did_FormatDID ⟨webS, u.host ++ T.dropLast.flatMap segDown⟩ (hfit _ (by rw [List.length_append]; omega))
        unfold dsv at pf
        simp only at pf
        refine callD_scw [(5, 0, 0), (7, 0, 0)] (sc_each_down (i := 5) (j := 6) (m := false) (e := 0) (L := T.dropLast) rfl rfl hdm (by omega) (by omega)) (outs_each (i := 5) _ _ rfl) ?_
        simp only [vcS, ↓Xn, ↓Xo, ↓Xg, ↓Xd, ↓Xe, ↓Xf, XQ, XG, gvU, setR, orN, Yl, Xm, Yn, Yi, Xa, Ym, Xc, Xc.sizeIs, reS, Xj, Yb, mmS, Xq, dstS, srcS, XP, XN, XO, Yc, XA, Yg, Xy, XE, endV, gdst, Yk, XR, Yd, goR, XC, sBox, XU, XH, Xr, sNil, XL, Xt, XV, Xv, goD, valD, XI, XF, XB, dNil, XK, XD, dBox, dN, Xz, opL, idxs, pv, XX, Ya, XJ, Xb, Xu, oBin, oUn, Ye, XW, Xw, Xx, Xh, Xk, XY, XS, oLen, lenS, Yh, ev, lk, Vc.put, fits, kd, sz, Tryz.VΓ, Tryz.Γs, bin, binI, binS, ifK, ar, eqB, eqS, eqK, eqK.eqF, negB, bnds, optE, XM, Vc.cells, isV, Vc.one, Xs, getB, setB, XZ, Xp, Xi, Yf, Xl, XT, resS, tupS, ofV, Yj, Nat.reduceAdd, Nat.reduceSub, Nat.reduceLT, Nat.reduceLeDiff, reduceIte, reduceCtorEq, Nat.reduceEqDiff, implies_true, forall_const, lawV, hall, List.set_cons_succ, List.set_cons_zero, List.cons_append, List.nil_append, beq_self_eq_true, bne_self_eq_false, Int.reduceBEq, Int.reduceBNe, Int.reduceLT, Int.reduceLE, if_true]
        refine ⟨by omega, (OkD_fast (by kernel_rfl)), ?_⟩
        (refine callV_pc pf ?_; simp only [vcS, ↓Xn, ↓Xo, ↓Xg, ↓Xd, ↓Xe, ↓Xf, XQ, XG, gvU, setR, orN, Yl, Xm, Yn, Yi, Xa, Ym, Xc, Xc.sizeIs, reS, Xj, Yb, mmS, Xq, dstS, srcS, XP, XN, XO, Yc, XA, Yg, Xy, XE, endV, gdst, Yk, XR, Yd, goR, XC, sBox, XU, XH, Xr, sNil, XL, Xt, XV, Xv, goD, valD, XI, XF, XB, dNil, XK, XD, dBox, dN, Xz, opL, idxs, pv, XX, Ya, XJ, Xb, Xu, oBin, oUn, Ye, XW, Xw, Xx, Xh, Xk, XY, XS, oLen, lenS, Yh, ev, lk, Vc.put, fits, kd, sz, Tryz.VΓ, Tryz.Γs, bin, binI, binS, ifK, ar, eqB, eqS, eqK, eqK.eqF, negB, bnds, optE, XM, Vc.cells, isV, Vc.one, Xs, getB, setB, XZ, Xp, Xi, Yf, Xl, XT, resS, tupS, ofV, Yj, Nat.reduceAdd, Nat.reduceSub, Nat.reduceLT, Nat.reduceLeDiff, reduceIte, reduceCtorEq, Nat.reduceEqDiff, implies_true, forall_const, lawV])
        unfold fromEnd
        exact ⟨fun hl => (by rw [if_pos (by simp only [decide_eq_true_eq, decide_eq_false_iff_not] at hl; omega)]; rfl), fun hl => (by rw [if_neg (by simp only [decide_eq_true_eq, decide_eq_false_iff_not] at hl; omega)]; rfl)⟩
      · rw [if_pos hall]
        refine callD_scw [(5, 0, 0), (7, 0, 0)] (sc_each_down (i := 5) (j := 6) (m := false) (e := 0) (L := T.dropLast) rfl rfl hdm (by omega) (by omega)) (outs_each (i := 5) _ _ rfl) ?_
        simp only [vcS, ↓Xn, ↓Xo, ↓Xg, ↓Xd, ↓Xe, ↓Xf, XQ, XG, gvU, setR, orN, Yl, Xm, Yn, Yi, Xa, Ym, Xc, Xc.sizeIs, reS, Xj, Yb, mmS, Xq, dstS, srcS, XP, XN, XO, Yc, XA, Yg, Xy, XE, endV, gdst, Yk, XR, Yd, goR, XC, sBox, XU, XH, Xr, sNil, XL, Xt, XV, Xv, goD, valD, XI, XF, XB, dNil, XK, XD, dBox, dN, Xz, opL, idxs, pv, XX, Ya, XJ, Xb, Xu, oBin, oUn, Ye, XW, Xw, Xx, Xh, Xk, XY, XS, oLen, lenS, Yh, ev, lk, Vc.put, fits, kd, sz, Tryz.VΓ, Tryz.Γs, bin, binI, binS, ifK, ar, eqB, eqS, eqK, eqK.eqF, negB, bnds, optE, XM, Vc.cells, isV, Vc.one, Xs, getB, setB, XZ, Xp, Xi, Yf, Xl, XT, resS, tupS, ofV, Yj, Nat.reduceAdd, Nat.reduceSub, Nat.reduceLT, Nat.reduceLeDiff, reduceIte, reduceCtorEq, Nat.reduceEqDiff, implies_true, forall_const, lawV, hall, List.set_cons_succ, List.set_cons_zero, List.cons_append, List.nil_append, beq_self_eq_true, bne_self_eq_false, Int.reduceBEq, Int.reduceBNe, Int.reduceLT, Int.reduceLE, Bool.false_eq_true, if_false]
        exact ⟨by omega, (OkD_fast (by kernel_rfl)), (OkD_fast (by kernel_rfl)), rfl⟩
    · unfold fromSegs
      rw [if_pos (by simpa using hr), hib]
      have pf := p_did_FormatDID ⟨webS, u.host⟩ (hfit _ (by omega))
      unfold dsv at pf
      simp only at pf
      (refine callV_pc pf ?_; simp only [vcS, ↓Xn, ↓Xo, ↓Xg, ↓Xd, ↓Xe, ↓Xf, XQ, XG, gvU, setR, orN, Yl, Xm, Yn, Yi, Xa, Ym, Xc, Xc.sizeIs, reS, Xj, Yb, mmS, Xq, dstS, srcS, XP, XN, XO, Yc, XA, Yg, Xy, XE, endV, gdst, Yk, XR, Yd, goR, XC, sBox, XU, XH, Xr, sNil, XL, Xt, XV, Xv, goD, valD, XI, XF, XB, dNil, XK, XD, dBox, dN, Xz, opL, idxs, pv, XX, Ya, XJ, Xb, Xu, oBin, oUn, Ye, XW, Xw, Xx, Xh, Xk, XY, XS, oLen, lenS, Yh, ev, lk, Vc.put, fits, kd, sz, Tryz.VΓ, Tryz.Γs, bin, binI, binS, ifK, ar, eqB, eqS, eqK, eqK.eqF, negB, bnds, optE, XM, Vc.cells, isV, Vc.one, Xs, getB, setB, XZ, Xp, Xi, Yf, Xl, XT, resS, tupS, ofV, Yj, Nat.reduceAdd, Nat.reduceSub, Nat.reduceLT, Nat.reduceLeDiff, reduceIte, reduceCtorEq, Nat.reduceEqDiff, implies_true, forall_const, lawV])
      unfold fromEnd
      exact ⟨fun hl => (by rw [if_pos (by simp only [decide_eq_true_eq, decide_eq_false_iff_not] at hl; omega)]; rfl), fun hl => (by rw [if_neg (by simp only [decide_eq_true_eq, decide_eq_false_iff_not] at hl; omega)]; rfl)⟩
  · rw [if_neg (by rw [hq]; simp), if_pos hf]; rfl
  · rw [if_pos hq]; rfl
theorem can_fair {u : Url} (h : CanUrl u) : Fair u := by
  have h1 := urlText_len u
  have h2 := h.len
  obtain ⟨-, -, -, k4, k5, k6⟩ := hostPort_back h.host
  refine ⟨?_, by omega, by omega⟩
  have hq : u.query.length ≤ 4096 := by
    cases hb : u.hasQuery
    · rw [h.noq hb]; simp
    · have := h1.2.1 hb; omega
  have hf : u.fragment.length ≤ 4096 := by
    cases hb : u.hasFrag
    · rw [h.nof hb]; simp
    · have := h1.2.2 hb; omega
  omega
theorem toUrl_fair (d : Did) (h : (toUrl d).2 = 0) : Fair (toUrl d).1 := can_fair (toUrl_can (d := d) (u := (toUrl d).1) (by rw [← h])).1
set_option maxHeartbeats 2000000 in
theorem p_web_Canonical (d : Did) (h : DidFits d) : PC Tryz.V 36 [dsv d] (.tup [dsv (didCano d).1, .int .i64 (didCano d).2]) := by
  have pt := p_web_ToURL d h
  have hfair := toUrl_fair d
  unfold didCano
  generalize toUrl d = X at pt hfair ⊢
  obtain ⟨u, e⟩ := X
  simp only at pt hfair ⊢
  refine pc_of 3000 Tryz.func36 rfl Tryz.ntmps36 Tryz.results36 Tryz.call36 (by simp) (by simp [flat, flat.flatL, dsv, wsv]) (by simp [flat, flat.flatL, dsv, wsv]) ?_
  unfold dsv
  unfold dsv wsv at pt
  simp only [vcS, ↓Xn, ↓Xo, ↓Xg, ↓Xd, ↓Xe, ↓Xf, XQ, XG, gvU, setR, orN, Yl, Xm, Yn, Yi, Xa, Ym, Xc, Xc.sizeIs, reS, Xj, Yb, mmS, Xq, dstS, srcS, XP, XN, XO, Yc, XA, Yg, Xy, XE, endV, gdst, Yk, XR, Yd, goR, XC, sBox, XU, XH, Xr, sNil, XL, Xt, XV, Xv, goD, valD, XI, XF, XB, dNil, XK, XD, dBox, dN, Xz, opL, idxs, pv, XX, Ya, XJ, Xb, Xu, oBin, oUn, Ye, XW, Xw, Xx, Xh, Xk, XY, XS, oLen, lenS, Yh, ev, lk, Vc.put, fits, kd, sz, Tryz.VΓ, Tryz.Γs, bin, binI, binS, ifK, ar, eqB, eqS, eqK, eqK.eqF, negB, bnds, optE, XM, Vc.cells, isV, Vc.one, Xs, getB, setB, XZ, Xp, Xi, Yf, Xl, XT, resS, tupS, ofV, Yj, Nat.reduceAdd, Nat.reduceSub, Nat.reduceLT, Nat.reduceLeDiff, reduceIte, reduceCtorEq, Nat.reduceEqDiff, implies_true, forall_const, lawV]
  (refine callV_pc pt ?_; simp only [vcS, ↓Xn, ↓Xo, ↓Xg, ↓Xd, ↓Xe, ↓Xf, XQ, XG, gvU, setR, orN, Yl, Xm, Yn, Yi, Xa, Ym, Xc, Xc.sizeIs, reS, Xj, Yb, mmS, Xq, dstS, srcS, XP, XN, XO, Yc, XA, Yg, Xy, XE, endV, gdst, Yk, XR, Yd, goR, XC, sBox, XU, XH, Xr, sNil, XL, Xt, XV, Xv, goD, valD, XI, XF, XB, dNil, XK, XD, dBox, dN, Xz, opL, idxs, pv, XX, Ya, XJ, Xb, Xu, oBin, oUn, Ye, XW, Xw, Xx, Xh, Xk, XY, XS, oLen, lenS, Yh, ev, lk, Vc.put, fits, kd, sz, Tryz.VΓ, Tryz.Γs, bin, binI, binS, ifK, ar, eqB, eqS, eqK, eqK.eqF, negB, bnds, optE, XM, Vc.cells, isV, Vc.one, Xs, getB, setB, XZ, Xp, Xi, Yf, Xl, XT, resS, tupS, ofV, Yj, Nat.reduceAdd, Nat.reduceSub, Nat.reduceLT, Nat.reduceLeDiff, reduceIte, reduceCtorEq, Nat.reduceEqDiff, implies_true, forall_const, lawV])
  refine ⟨fun h1 => (by rw [if_pos (by simpa using h1)]; rfl), fun h1 => ?_⟩
  rw [if_neg (by simpa using h1)]
  have pf := p_web_FromURL u (hfair (by simpa using h1))
  unfold dsv wsv at pf
  (refine callV_pc pf ?_; simp only [vcS, ↓Xn, ↓Xo, ↓Xg, ↓Xd, ↓Xe, ↓Xf, XQ, XG, gvU, setR, orN, Yl, Xm, Yn, Yi, Xa, Ym, Xc, Xc.sizeIs, reS, Xj, Yb, mmS, Xq, dstS, srcS, XP, XN, XO, Yc, XA, Yg, Xy, XE, endV, gdst, Yk, XR, Yd, goR, XC, sBox, XU, XH, Xr, sNil, XL, Xt, XV, Xv, goD, valD, XI, XF, XB, dNil, XK, XD, dBox, dN, Xz, opL, idxs, pv, XX, Ya, XJ, Xb, Xu, oBin, oUn, Ye, XW, Xw, Xx, Xh, Xk, XY, XS, oLen, lenS, Yh, ev, lk, Vc.put, fits, kd, sz, Tryz.VΓ, Tryz.Γs, bin, binI, binS, ifK, ar, eqB, eqS, eqK, eqK.eqF, negB, bnds, optE, XM, Vc.cells, isV, Vc.one, Xs, getB, setB, XZ, Xp, Xi, Yf, Xl, XT, resS, tupS, ofV, Yj, Nat.reduceAdd, Nat.reduceSub, Nat.reduceLT, Nat.reduceLeDiff, reduceIte, reduceCtorEq, Nat.reduceEqDiff, implies_true, forall_const, lawV])
end Go.Proofs.YtcndmooeglfilaaGreatDoor
