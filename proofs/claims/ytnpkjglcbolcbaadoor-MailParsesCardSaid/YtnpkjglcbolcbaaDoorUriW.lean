/- The walks of package uri. -/
import Derived.Test.YtnpkjglcbolcbaaDoorLib
import Derived.Test.YtnpkjglcbolcbaaDoorUri
set_option linter.all false
set_option maxRecDepth 20000
namespace Go.Proofs.YtnpkjglcbolcbaaDoor
open Go Vc Go.RowKit Wf
set_option linter.unusedSimpArgs false
def usv (u : Uri) : SV := .agg [.str u.scheme, .str u.authority, .str u.path, .str u.query, .str u.fragment, .bool u.hasScheme, .bool u.hasAuthority, .bool u.hasQuery, .bool u.hasFrag]
theorem shorten_take (s : Bytes) : shorten s = s.take (lastSlash s - 1) := by
  unfold shorten lastSlash
  have h := List.suffix_iff_eq_drop.1 (List.dropWhile_suffix (l := s.reverse) (· != 47))
  have hle := (List.dropWhile_suffix (l := s.reverse) (· != 47)).length_le
  generalize (s.reverse.dropWhile (· != 47)) = d at h hle
  rw [List.length_reverse] at hle
  rw [h, List.drop_drop, List.reverse_drop, List.reverse_reverse, List.length_reverse]
  congr 1
  simp
  omega
theorem lastB_slash (s : Bytes) : lastB s 47 = (lastSlash s : Int) - 1 := lastB_eq s 47
theorem lastSlash_le (s : Bytes) : lastSlash s ≤ s.length := by
  have := (List.dropWhile_suffix (l := s.reverse) (· != 47)).length_le
  rw [List.length_reverse] at this
  exact this
theorem lastB_shorten (s : Bytes) : s.take (max 0 (lastB s 47)).toNat = shorten s := by
  rw [shorten_take, lastB_slash]
  congr 1
  omega
theorem lastB_le (s : Bytes) : lastB s 47 ≤ s.length := by
  have := lastSlash_le s
  rw [lastB_slash]
  omega
theorem p_uri_scheme (s : Bytes) (hs : s.length ≤ 9223372036854775807) : PC Tryd.V 99 [.str s] (.bool (schemeOk s)) :=
  ⟨Tryd.call99, by simp [flat, flat.flatL], by simp [flat, flat.flatL], fun w _ => (uri_scheme s w hs).mono fun _ _ ⟨h, k⟩ => ⟨h, below_same k⟩⟩
theorem authPath_no {s : Bytes} (h : Lib.hasPrefix s [47, 47] = false) : authPath s = ([], false, s) := by
  unfold authPath
  split
  · simp [Lib.hasPrefix] at h
  · rfl
theorem authPath_yes {s : Bytes} (h : Lib.hasPrefix s [47, 47] = true) : authPath s = ((Lib.trimPrefix s [47, 47]).take (pre (· == 47) (Lib.trimPrefix s [47, 47])), true, (Lib.trimPrefix s [47, 47]).drop (pre (· == 47) (Lib.trimPrefix s [47, 47]))) := by
  obtain ⟨r, rfl⟩ := List.isPrefixOf_iff_prefix.1 h
  have ht : Lib.trimPrefix ([47, 47] ++ r) [47, 47] = r := by simp [Lib.trimPrefix, Lib.hasPrefix]
  rw [ht]
  rfl
set_option maxHeartbeats 2000000 in
theorem p_uri_Split (s : Bytes) : PC Tryd.V 51 [.str s] (.tup [usv (uriSplit s).1, .int .i64 (uriSplit s).2]) := by
  refine pc_of 3000 Tryd.func51 rfl Tryd.ntmps51 Tryd.results51 Tryd.call51 (by simp) (by simp [flat, flat.flatL]) (by simp [flat, flat.flatL, usv]) ?_
  simp only [vcS, ↓Xn, ↓Xo, ↓Xg, ↓Xd, ↓Xe, ↓Xf, XQ, XG, gvU, setR, orN, Yl, Xm, Yn, Yi, Xa, Ym, Xc, Xc.sizeIs, reS, Xj, Yb, mmS, Xq, dstS, srcS, XP, XN, XO, Yc, XA, Yg, Xy, XE, endV, gdst, Yk, XR, Yd, goR, XC, sBox, XU, XH, Xr, sNil, XL, Xt, XV, Xv, goD, valD, XI, XF, XB, dNil, XK, XD, dBox, dN, Xz, opL, idxs, pv, XX, Ya, XJ, Xb, Xu, oBin, oUn, Ye, XW, Xw, Xx, Xh, Xk, XY, XS, oLen, lenS, Yh, ev, lk, Vc.put, fits, kd, sz, Tryd.VΓ, Tryd.Γs, bin, binI, binS, ifK, ar, eqB, eqS, eqK, eqK.eqF, negB, bnds, optE, XM, Vc.cells, isV, Vc.one, Xs, getB, setB, XZ, Xp, Xi, Yf, Xl, XT, resS, tupS, ofV, Yj, Nat.reduceAdd, Nat.reduceSub, Nat.reduceLT, Nat.reduceLeDiff, reduceIte, reduceCtorEq, Nat.reduceEqDiff, implies_true, forall_const, lawV]
  refine ⟨fun h => ?_, fun h => ?_⟩
  · have : uriSplit s = (Uri.none, 5) := if_pos (by simp at h; omega)
    rw [this]; rfl
  · have hl : s.length < 4294967281 := by simp at h; omega
    have hq : uriSplit s = splitRest (cutC 63 (cutC 35 s).1).1 (cutC 35 s).2.1 (cutC 63 (cutC 35 s).1).2.1 (cutC 35 s).2.2 (cutC 63 (cutC 35 s).1).2.2 := if_neg (by simp at h; omega)
    rw [hq]
    have l1 := cutC_len 35 s
    have l2 := cutC_len 63 (cutC 35 s).1
    (refine callV_pc (p_Cut s 35 hl) ?_; simp only [vcS, ↓Xn, ↓Xo, ↓Xg, ↓Xd, ↓Xe, ↓Xf, XQ, XG, gvU, setR, orN, Yl, Xm, Yn, Yi, Xa, Ym, Xc, Xc.sizeIs, reS, Xj, Yb, mmS, Xq, dstS, srcS, XP, XN, XO, Yc, XA, Yg, Xy, XE, endV, gdst, Yk, XR, Yd, goR, XC, sBox, XU, XH, Xr, sNil, XL, Xt, XV, Xv, goD, valD, XI, XF, XB, dNil, XK, XD, dBox, dN, Xz, opL, idxs, pv, XX, Ya, XJ, Xb, Xu, oBin, oUn, Ye, XW, Xw, Xx, Xh, Xk, XY, XS, oLen, lenS, Yh, ev, lk, Vc.put, fits, kd, sz, Tryd.VΓ, Tryd.Γs, bin, binI, binS, ifK, ar, eqB, eqS, eqK, eqK.eqF, negB, bnds, optE, XM, Vc.cells, isV, Vc.one, Xs, getB, setB, XZ, Xp, Xi, Yf, Xl, XT, resS, tupS, ofV, Yj, Nat.reduceAdd, Nat.reduceSub, Nat.reduceLT, Nat.reduceLeDiff, reduceIte, reduceCtorEq, Nat.reduceEqDiff, implies_true, forall_const, lawV])
    (refine callV_pc (p_Cut _ 63 (by omega)) ?_; simp only [vcS, ↓Xn, ↓Xo, ↓Xg, ↓Xd, ↓Xe, ↓Xf, XQ, XG, gvU, setR, orN, Yl, Xm, Yn, Yi, Xa, Ym, Xc, Xc.sizeIs, reS, Xj, Yb, mmS, Xq, dstS, srcS, XP, XN, XO, Yc, XA, Yg, Xy, XE, endV, gdst, Yk, XR, Yd, goR, XC, sBox, XU, XH, Xr, sNil, XL, Xt, XV, Xv, goD, valD, XI, XF, XB, dNil, XK, XD, dBox, dN, Xz, opL, idxs, pv, XX, Ya, XJ, Xb, Xu, oBin, oUn, Ye, XW, Xw, Xx, Xh, Xk, XY, XS, oLen, lenS, Yh, ev, lk, Vc.put, fits, kd, sz, Tryd.VΓ, Tryd.Γs, bin, binI, binS, ifK, ar, eqB, eqS, eqK, eqK.eqF, negB, bnds, optE, XM, Vc.cells, isV, Vc.one, Xs, getB, setB, XZ, Xp, Xi, Yf, Xl, XT, resS, tupS, ofV, Yj, Nat.reduceAdd, Nat.reduceSub, Nat.reduceLT, Nat.reduceLeDiff, reduceIte, reduceCtorEq, Nat.reduceEqDiff, implies_true, forall_const, lawV])
    generalize cutC 63 (cutC 35 s).1 = C2 at l2 ⊢
    generalize cutC 35 s = C1 at l1 l2 ⊢
    obtain ⟨s1, fr, hf⟩ := C1
    obtain ⟨s2, qu, hqu⟩ := C2
    simp only at l1 l2 ⊢
    have hix : Lib.indexAny s2 [58, 47] = if pre colonSlash s2 < s2.length then (pre colonSlash s2 : Int) else -1 := indexAny_pre s2 [58, 47]
    have p3 := p_IndexAny s2 [58, 47] (by decide) (by decide) (by decide) (by omega)
    -- the end: the authority and the path
    by_cases hp : pre colonSlash s2 < s2.length
    · rw [if_pos hp] at hix
      rw [hix] at p3
      (refine callV_pc (p3) ?_; simp only [vcS, ↓Xn, ↓Xo, ↓Xg, ↓Xd, ↓Xe, ↓Xf, XQ, XG, gvU, setR, orN, Yl, Xm, Yn, Yi, Xa, Ym, Xc, Xc.sizeIs, reS, Xj, Yb, mmS, Xq, dstS, srcS, XP, XN, XO, Yc, XA, Yg, Xy, XE, endV, gdst, Yk, XR, Yd, goR, XC, sBox, XU, XH, Xr, sNil, XL, Xt, XV, Xv, goD, valD, XI, XF, XB, dNil, XK, XD, dBox, dN, Xz, opL, idxs, pv, XX, Ya, XJ, Xb, Xu, oBin, oUn, Ye, XW, Xw, Xx, Xh, Xk, XY, XS, oLen, lenS, Yh, ev, lk, Vc.put, fits, kd, sz, Tryd.VΓ, Tryd.Γs, bin, binI, binS, ifK, ar, eqB, eqS, eqK, eqK.eqF, negB, bnds, optE, XM, Vc.cells, isV, Vc.one, Xs, getB, setB, XZ, Xp, Xi, Yf, Xl, XT, resS, tupS, ofV, Yj, Nat.reduceAdd, Nat.reduceSub, Nat.reduceLT, Nat.reduceLeDiff, reduceIte, reduceCtorEq, Nat.reduceEqDiff, implies_true, forall_const, lawV])
      refine ⟨fun _ => ⟨⟨by omega, by omega⟩, fun h1 => ⟨⟨by omega, by omega⟩, ?_⟩, fun h1 => ?_⟩, fun h1 => ?_⟩
      · have hh : (s2.drop (pre colonSlash s2)).head? = some 58 := by
          rw [List.head?_drop, List.getElem?_eq_getElem hp]
          rw [byte_is (n := 58) hp 58 rfl] at h1
          rw [beq_iff_eq.1 h1]
        (refine callV_pc (p_uri_scheme _ (by simp; omega)) ?_; simp only [vcS, ↓Xn, ↓Xo, ↓Xg, ↓Xd, ↓Xe, ↓Xf, XQ, XG, gvU, setR, orN, Yl, Xm, Yn, Yi, Xa, Ym, Xc, Xc.sizeIs, reS, Xj, Yb, mmS, Xq, dstS, srcS, XP, XN, XO, Yc, XA, Yg, Xy, XE, endV, gdst, Yk, XR, Yd, goR, XC, sBox, XU, XH, Xr, sNil, XL, Xt, XV, Xv, goD, valD, XI, XF, XB, dNil, XK, XD, dBox, dN, Xz, opL, idxs, pv, XX, Ya, XJ, Xb, Xu, oBin, oUn, Ye, XW, Xw, Xx, Xh, Xk, XY, XS, oLen, lenS, Yh, ev, lk, Vc.put, fits, kd, sz, Tryd.VΓ, Tryd.Γs, bin, binI, binS, ifK, ar, eqB, eqS, eqK, eqK.eqF, negB, bnds, optE, XM, Vc.cells, isV, Vc.one, Xs, getB, setB, XZ, Xp, Xi, Yf, Xl, XT, resS, tupS, ofV, Yj, Nat.reduceAdd, Nat.reduceSub, Nat.reduceLT, Nat.reduceLeDiff, reduceIte, reduceCtorEq, Nat.reduceEqDiff, implies_true, forall_const, lawV])
        refine ⟨fun h2 => ?_, fun h2 => ⟨⟨by omega, by omega⟩, ⟨by omega, by omega⟩, ⟨by omega, by omega⟩, (OkD_fast (by kernel_rfl)), ?_⟩⟩
        · have : splitRest s2 fr qu hf hqu = (Uri.none, 6) := by
            unfold splitRest
            rw [if_pos hh, if_neg (by simpa using h2)]
          rw [this]; rfl
        · have hs : splitRest s2 fr qu hf hqu = (⟨s2.take (pre colonSlash s2), (authPath (s2.drop (pre colonSlash s2 + 1))).1, (authPath (s2.drop (pre colonSlash s2 + 1))).2.2, qu, fr, true, (authPath (s2.drop (pre colonSlash s2 + 1))).2.1, hqu, hf⟩, 0) := by
            unfold splitRest
            rw [if_pos hh, if_pos (by simpa using h2)]
          have hl5 : (s2.drop (pre colonSlash s2 + 1)).length ≤ s2.length := by simp
          (
            (refine callV_pc (p_CutPrefix (s2.drop (pre colonSlash s2 + 1)) [47, 47]) ?_; simp only [vcS, ↓Xn, ↓Xo, ↓Xg, ↓Xd, ↓Xe, ↓Xf, XQ, XG, gvU, setR, orN, Yl, Xm, Yn, Yi, Xa, Ym, Xc, Xc.sizeIs, reS, Xj, Yb, mmS, Xq, dstS, srcS, XP, XN, XO, Yc, XA, Yg, Xy, XE, endV, gdst, Yk, XR, Yd, goR, XC, sBox, XU, XH, Xr, sNil, XL, Xt, XV, Xv, goD, valD, XI, XF, XB, dNil, XK, XD, dBox, dN, Xz, opL, idxs, pv, XX, Ya, XJ, Xb, Xu, oBin, oUn, Ye, XW, Xw, Xx, Xh, Xk, XY, XS, oLen, lenS, Yh, ev, lk, Vc.put, fits, kd, sz, Tryd.VΓ, Tryd.Γs, bin, binI, binS, ifK, ar, eqB, eqS, eqK, eqK.eqF, negB, bnds, optE, XM, Vc.cells, isV, Vc.one, Xs, getB, setB, XZ, Xp, Xi, Yf, Xl, XT, resS, tupS, ofV, Yj, Nat.reduceAdd, Nat.reduceSub, Nat.reduceLT, Nat.reduceLeDiff, reduceIte, reduceCtorEq, Nat.reduceEqDiff, implies_true, forall_const, lawV])
            cases hpf : Lib.hasPrefix (s2.drop (pre colonSlash s2 + 1)) [47, 47]
            · refine ⟨fun h => (by cases h), fun _ => ?_⟩
              have ht : Lib.trimPrefix (s2.drop (pre colonSlash s2 + 1)) [47, 47] = s2.drop (pre colonSlash s2 + 1) := by unfold Lib.trimPrefix; rw [hpf]; rfl
              rw [hs, authPath_no hpf]; rfl
            · refine ⟨fun _ => ?_, fun h => (by cases h)⟩
              have hl3 := trim_len (s2.drop (pre colonSlash s2 + 1)) [47, 47]
              have hap := authPath_yes hpf
              rw [hs, hap]
              generalize Lib.trimPrefix (s2.drop (pre colonSlash s2 + 1)) [47, 47] = rest at hl3 hap ⊢
              have hib := indexByte_pre rest 47
              have p4 := p_IndexByte rest 47
              rw [hib] at p4
              have hpl := pre_le (· == 47) rest
              by_cases hr : pre (· == 47) rest < rest.length
              · rw [if_pos hr] at p4
                (refine callV_pc (p4) ?_; simp only [vcS, ↓Xn, ↓Xo, ↓Xg, ↓Xd, ↓Xe, ↓Xf, XQ, XG, gvU, setR, orN, Yl, Xm, Yn, Yi, Xa, Ym, Xc, Xc.sizeIs, reS, Xj, Yb, mmS, Xq, dstS, srcS, XP, XN, XO, Yc, XA, Yg, Xy, XE, endV, gdst, Yk, XR, Yd, goR, XC, sBox, XU, XH, Xr, sNil, XL, Xt, XV, Xv, goD, valD, XI, XF, XB, dNil, XK, XD, dBox, dN, Xz, opL, idxs, pv, XX, Ya, XJ, Xb, Xu, oBin, oUn, Ye, XW, Xw, Xx, Xh, Xk, XY, XS, oLen, lenS, Yh, ev, lk, Vc.put, fits, kd, sz, Tryd.VΓ, Tryd.Γs, bin, binI, binS, ifK, ar, eqB, eqS, eqK, eqK.eqF, negB, bnds, optE, XM, Vc.cells, isV, Vc.one, Xs, getB, setB, XZ, Xp, Xi, Yf, Xl, XT, resS, tupS, ofV, Yj, Nat.reduceAdd, Nat.reduceSub, Nat.reduceLT, Nat.reduceLeDiff, reduceIte, reduceCtorEq, Nat.reduceEqDiff, implies_true, forall_const, lawV])
                refine ⟨fun h => ?_, fun _ => ⟨⟨by omega, by omega⟩, ⟨by omega, by omega⟩, (OkD_fast (by kernel_rfl)), rfl⟩⟩
                simp at h; omega
              · rw [if_neg hr] at p4
                (refine callV_pc (p4) ?_; simp only [vcS, ↓Xn, ↓Xo, ↓Xg, ↓Xd, ↓Xe, ↓Xf, XQ, XG, gvU, setR, orN, Yl, Xm, Yn, Yi, Xa, Ym, Xc, Xc.sizeIs, reS, Xj, Yb, mmS, Xq, dstS, srcS, XP, XN, XO, Yc, XA, Yg, Xy, XE, endV, gdst, Yk, XR, Yd, goR, XC, sBox, XU, XH, Xr, sNil, XL, Xt, XV, Xv, goD, valD, XI, XF, XB, dNil, XK, XD, dBox, dN, Xz, opL, idxs, pv, XX, Ya, XJ, Xb, Xu, oBin, oUn, Ye, XW, Xw, Xx, Xh, Xk, XY, XS, oLen, lenS, Yh, ev, lk, Vc.put, fits, kd, sz, Tryd.VΓ, Tryd.Γs, bin, binI, binS, ifK, ar, eqB, eqS, eqK, eqK.eqF, negB, bnds, optE, XM, Vc.cells, isV, Vc.one, Xs, getB, setB, XZ, Xp, Xi, Yf, Xl, XT, resS, tupS, ofV, Yj, Nat.reduceAdd, Nat.reduceSub, Nat.reduceLT, Nat.reduceLeDiff, reduceIte, reduceCtorEq, Nat.reduceEqDiff, implies_true, forall_const, lawV])
                refine ⟨fun _ => ⟨⟨by omega, by omega⟩, ⟨by omega, by omega⟩, (OkD_fast (by kernel_rfl)), ?_⟩, fun h => ?_⟩
                · have : pre (· == 47) rest = rest.length := by omega
                  rw [this]; simp [usv]
                · simp at h)
      · have hs : splitRest s2 fr qu hf hqu = (⟨[], (authPath s2).1, (authPath s2).2.2, qu, fr, false, (authPath s2).2.1, hqu, hf⟩, 0) := by
          unfold splitRest
          rw [if_neg]
          rw [byte_is (n := 58) hp 58 rfl] at h1
          rw [List.head?_drop, List.getElem?_eq_getElem hp]
          simpa using h1
        (
          (refine callV_pc (p_CutPrefix (s2) [47, 47]) ?_; simp only [vcS, ↓Xn, ↓Xo, ↓Xg, ↓Xd, ↓Xe, ↓Xf, XQ, XG, gvU, setR, orN, Yl, Xm, Yn, Yi, Xa, Ym, Xc, Xc.sizeIs, reS, Xj, Yb, mmS, Xq, dstS, srcS, XP, XN, XO, Yc, XA, Yg, Xy, XE, endV, gdst, Yk, XR, Yd, goR, XC, sBox, XU, XH, Xr, sNil, XL, Xt, XV, Xv, goD, valD, XI, XF, XB, dNil, XK, XD, dBox, dN, Xz, opL, idxs, pv, XX, Ya, XJ, Xb, Xu, oBin, oUn, Ye, XW, Xw, Xx, Xh, Xk, XY, XS, oLen, lenS, Yh, ev, lk, Vc.put, fits, kd, sz, Tryd.VΓ, Tryd.Γs, bin, binI, binS, ifK, ar, eqB, eqS, eqK, eqK.eqF, negB, bnds, optE, XM, Vc.cells, isV, Vc.one, Xs, getB, setB, XZ, Xp, Xi, Yf, Xl, XT, resS, tupS, ofV, Yj, Nat.reduceAdd, Nat.reduceSub, Nat.reduceLT, Nat.reduceLeDiff, reduceIte, reduceCtorEq, Nat.reduceEqDiff, implies_true, forall_const, lawV])
          cases hpf : Lib.hasPrefix (s2) [47, 47]
          · refine ⟨fun h => (by cases h), fun _ => ?_⟩
            have ht : Lib.trimPrefix (s2) [47, 47] = s2 := by unfold Lib.trimPrefix; rw [hpf]; rfl
            rw [hs, authPath_no hpf]; rfl
          · refine ⟨fun _ => ?_, fun h => (by cases h)⟩
            have hl3 := trim_len (s2) [47, 47]
            have hap := authPath_yes hpf
            rw [hs, hap]
            generalize Lib.trimPrefix (s2) [47, 47] = rest at hl3 hap ⊢
            have hib := indexByte_pre rest 47
            have p4 := p_IndexByte rest 47
            rw [hib] at p4
            have hpl := pre_le (· == 47) rest
            by_cases hr : pre (· == 47) rest < rest.length
            · rw [if_pos hr] at p4
              (refine callV_pc (p4) ?_; simp only [vcS, ↓Xn, ↓Xo, ↓Xg, ↓Xd, ↓Xe, ↓Xf, XQ, XG, gvU, setR, orN, Yl, Xm, Yn, Yi, Xa, Ym, Xc, Xc.sizeIs, reS, Xj, Yb, mmS, Xq, dstS, srcS, XP, XN, XO, Yc, XA, Yg, Xy, XE, endV, gdst, Yk, XR, Yd, goR, XC, sBox, XU, XH, Xr, sNil, XL, Xt, XV, Xv, goD, valD, XI, XF, XB, dNil, XK, XD, dBox, dN, Xz, opL, idxs, pv, XX, Ya, XJ, Xb, Xu, oBin, oUn, Ye, XW, Xw, Xx, Xh, Xk, XY, XS, oLen, lenS, Yh, ev, lk, Vc.put, fits, kd, sz, Tryd.VΓ, Tryd.Γs, bin, binI, binS, ifK, ar, eqB, eqS, eqK, eqK.eqF, negB, bnds, optE, XM, Vc.cells, isV, Vc.one, Xs, getB, setB, XZ, Xp, Xi, Yf, Xl, XT, resS, tupS, ofV, Yj, Nat.reduceAdd, Nat.reduceSub, Nat.reduceLT, Nat.reduceLeDiff, reduceIte, reduceCtorEq, Nat.reduceEqDiff, implies_true, forall_const, lawV])
              refine ⟨fun h => ?_, fun _ => ⟨⟨by omega, by omega⟩, ⟨by omega, by omega⟩, (OkD_fast (by kernel_rfl)), rfl⟩⟩
              simp at h; omega
            · rw [if_neg hr] at p4
              (refine callV_pc (p4) ?_; simp only [vcS, ↓Xn, ↓Xo, ↓Xg, ↓Xd, ↓Xe, ↓Xf, XQ, XG, gvU, setR, orN, Yl, Xm, Yn, Yi, Xa, Ym, Xc, Xc.sizeIs, reS, Xj, Yb, mmS, Xq, dstS, srcS, XP, XN, XO, Yc, XA, Yg, Xy, XE, endV, gdst, Yk, XR, Yd, goR, XC, sBox, XU, XH, Xr, sNil, XL, Xt, XV, Xv, goD, valD, XI, XF, XB, dNil, XK, XD, dBox, dN, Xz, opL, idxs, pv, XX, Ya, XJ, Xb, Xu, oBin, oUn, Ye, XW, Xw, Xx, Xh, Xk, XY, XS, oLen, lenS, Yh, ev, lk, Vc.put, fits, kd, sz, Tryd.VΓ, Tryd.Γs, bin, binI, binS, ifK, ar, eqB, eqS, eqK, eqK.eqF, negB, bnds, optE, XM, Vc.cells, isV, Vc.one, Xs, getB, setB, XZ, Xp, Xi, Yf, Xl, XT, resS, tupS, ofV, Yj, Nat.reduceAdd, Nat.reduceSub, Nat.reduceLT, Nat.reduceLeDiff, reduceIte, reduceCtorEq, Nat.reduceEqDiff, implies_true, forall_const, lawV])
              refine ⟨fun _ => ⟨⟨by omega, by omega⟩, ⟨by omega, by omega⟩, (OkD_fast (by kernel_rfl)), ?_⟩, fun h => ?_⟩
              · have : pre (· == 47) rest = rest.length := by omega
                rw [this]; simp [usv]
              · simp at h)
      · simp at h1
    · rw [if_neg hp] at hix
      rw [hix] at p3
      (refine callV_pc (p3) ?_; simp only [vcS, ↓Xn, ↓Xo, ↓Xg, ↓Xd, ↓Xe, ↓Xf, XQ, XG, gvU, setR, orN, Yl, Xm, Yn, Yi, Xa, Ym, Xc, Xc.sizeIs, reS, Xj, Yb, mmS, Xq, dstS, srcS, XP, XN, XO, Yc, XA, Yg, Xy, XE, endV, gdst, Yk, XR, Yd, goR, XC, sBox, XU, XH, Xr, sNil, XL, Xt, XV, Xv, goD, valD, XI, XF, XB, dNil, XK, XD, dBox, dN, Xz, opL, idxs, pv, XX, Ya, XJ, Xb, Xu, oBin, oUn, Ye, XW, Xw, Xx, Xh, Xk, XY, XS, oLen, lenS, Yh, ev, lk, Vc.put, fits, kd, sz, Tryd.VΓ, Tryd.Γs, bin, binI, binS, ifK, ar, eqB, eqS, eqK, eqK.eqF, negB, bnds, optE, XM, Vc.cells, isV, Vc.one, Xs, getB, setB, XZ, Xp, Xi, Yf, Xl, XT, resS, tupS, ofV, Yj, Nat.reduceAdd, Nat.reduceSub, Nat.reduceLT, Nat.reduceLeDiff, reduceIte, reduceCtorEq, Nat.reduceEqDiff, implies_true, forall_const, lawV])
      refine ⟨fun h1 => ?_, fun h1 => ?_⟩
      · simp at h1
      · have hs : splitRest s2 fr qu hf hqu = (⟨[], (authPath s2).1, (authPath s2).2.2, qu, fr, false, (authPath s2).2.1, hqu, hf⟩, 0) := by
          unfold splitRest
          rw [if_neg]
          rw [List.drop_of_length_le (by omega)]; simp
        (
          (refine callV_pc (p_CutPrefix (s2) [47, 47]) ?_; simp only [vcS, ↓Xn, ↓Xo, ↓Xg, ↓Xd, ↓Xe, ↓Xf, XQ, XG, gvU, setR, orN, Yl, Xm, Yn, Yi, Xa, Ym, Xc, Xc.sizeIs, reS, Xj, Yb, mmS, Xq, dstS, srcS, XP, XN, XO, Yc, XA, Yg, Xy, XE, endV, gdst, Yk, XR, Yd, goR, XC, sBox, XU, XH, Xr, sNil, XL, Xt, XV, Xv, goD, valD, XI, XF, XB, dNil, XK, XD, dBox, dN, Xz, opL, idxs, pv, XX, Ya, XJ, Xb, Xu, oBin, oUn, Ye, XW, Xw, Xx, Xh, Xk, XY, XS, oLen, lenS, Yh, ev, lk, Vc.put, fits, kd, sz, Tryd.VΓ, Tryd.Γs, bin, binI, binS, ifK, ar, eqB, eqS, eqK, eqK.eqF, negB, bnds, optE, XM, Vc.cells, isV, Vc.one, Xs, getB, setB, XZ, Xp, Xi, Yf, Xl, XT, resS, tupS, ofV, Yj, Nat.reduceAdd, Nat.reduceSub, Nat.reduceLT, Nat.reduceLeDiff, reduceIte, reduceCtorEq, Nat.reduceEqDiff, implies_true, forall_const, lawV])
          cases hpf : Lib.hasPrefix (s2) [47, 47]
          · refine ⟨fun h => (by cases h), fun _ => ?_⟩
            have ht : Lib.trimPrefix (s2) [47, 47] = s2 := by unfold Lib.trimPrefix; rw [hpf]; rfl
            rw [hs, authPath_no hpf]; rfl
          · refine ⟨fun _ => ?_, fun h => (by cases h)⟩
            have hl3 := trim_len (s2) [47, 47]
            have hap := authPath_yes hpf
            rw [hs, hap]
            generalize Lib.trimPrefix (s2) [47, 47] = rest at hl3 hap ⊢
            have hib := indexByte_pre rest 47
            have p4 := p_IndexByte rest 47
            rw [hib] at p4
            have hpl := pre_le (· == 47) rest
            by_cases hr : pre (· == 47) rest < rest.length
            · rw [if_pos hr] at p4
              (refine callV_pc (p4) ?_; simp only [vcS, ↓Xn, ↓Xo, ↓Xg, ↓Xd, ↓Xe, ↓Xf, XQ, XG, gvU, setR, orN, Yl, Xm, Yn, Yi, Xa, Ym, Xc, Xc.sizeIs, reS, Xj, Yb, mmS, Xq, dstS, srcS, XP, XN, XO, Yc, XA, Yg, Xy, XE, endV, gdst, Yk, XR, Yd, goR, XC, sBox, XU, XH, Xr, sNil, XL, Xt, XV, Xv, goD, valD, XI, XF, XB, dNil, XK, XD, dBox, dN, Xz, opL, idxs, pv, XX, Ya, XJ, Xb, Xu, oBin, oUn, Ye, XW, Xw, Xx, Xh, Xk, XY, XS, oLen, lenS, Yh, ev, lk, Vc.put, fits, kd, sz, Tryd.VΓ, Tryd.Γs, bin, binI, binS, ifK, ar, eqB, eqS, eqK, eqK.eqF, negB, bnds, optE, XM, Vc.cells, isV, Vc.one, Xs, getB, setB, XZ, Xp, Xi, Yf, Xl, XT, resS, tupS, ofV, Yj, Nat.reduceAdd, Nat.reduceSub, Nat.reduceLT, Nat.reduceLeDiff, reduceIte, reduceCtorEq, Nat.reduceEqDiff, implies_true, forall_const, lawV])
              refine ⟨fun h => ?_, fun _ => ⟨⟨by omega, by omega⟩, ⟨by omega, by omega⟩, (OkD_fast (by kernel_rfl)), rfl⟩⟩
              simp at h; omega
            · rw [if_neg hr] at p4
              (refine callV_pc (p4) ?_; simp only [vcS, ↓Xn, ↓Xo, ↓Xg, ↓Xd, ↓Xe, ↓Xf, XQ, XG, gvU, setR, orN, Yl, Xm, Yn, Yi, Xa, Ym, Xc, Xc.sizeIs, reS, Xj, Yb, mmS, Xq, dstS, srcS, XP, XN, XO, Yc, XA, Yg, Xy, XE, endV, gdst, Yk, XR, Yd, goR, XC, sBox, XU, XH, Xr, sNil, XL, Xt, XV, Xv, goD, valD, XI, XF, XB, dNil, XK, XD, dBox, dN, Xz, opL, idxs, pv, XX, Ya, XJ, Xb, Xu, oBin, oUn, Ye, XW, Xw, Xx, Xh, Xk, XY, XS, oLen, lenS, Yh, ev, lk, Vc.put, fits, kd, sz, Tryd.VΓ, Tryd.Γs, bin, binI, binS, ifK, ar, eqB, eqS, eqK, eqK.eqF, negB, bnds, optE, XM, Vc.cells, isV, Vc.one, Xs, getB, setB, XZ, Xp, Xi, Yf, Xl, XT, resS, tupS, ofV, Yj, Nat.reduceAdd, Nat.reduceSub, Nat.reduceLT, Nat.reduceLeDiff, reduceIte, reduceCtorEq, Nat.reduceEqDiff, implies_true, forall_const, lawV])
              refine ⟨fun _ => ⟨⟨by omega, by omega⟩, ⟨by omega, by omega⟩, (OkD_fast (by kernel_rfl)), ?_⟩, fun h => ?_⟩
              · have : pre (· == 47) rest = rest.length := by omega
                rw [this]; simp [usv]
              · simp at h)
def RdI (s : Bytes) (σ : St) : Prop := ∃ (p o : Bytes) (j f : Nat), lk 0 σ.t = some (.str p) ∧ lk 3 σ.t = some (.o j o.length) ∧ σ.b[j]? = some (.own (o.map u8S) 5 1 o.length true) ∧ p.length + o.length ≤ s.length ∧ p.length ≤ f ∧ dotsGo f p o = removeDots s
def RdM (σ : St) : Nat := match lk 0 σ.t with
  | some (.str p) => p.length
  | _ => 0
theorem RdM_eq {σ : St} {p : Bytes} (h : lk 0 σ.t = some (.str p)) : RdM σ = p.length := by simp [RdM, h]
theorem rd_done {s p' o' : Bytes} {j f n : Nat} {t : List (Nat × SV)} {b : List Res} (h0 : lk 0 t = some (.str p')) (h3 : lk 3 t = some (.o j o'.length)) (hj : b[j]? = some (.own (o'.map u8S) 5 1 o'.length true)) (hlen : p'.length + o'.length ≤ s.length) (hf : p'.length ≤ f) (hgo : dotsGo f p' o' = removeDots s) (hlt : p'.length < n) :
    RdI s ⟨t, b⟩ ∧ RdM ⟨t, b⟩ < n := ⟨⟨p', o', j, f, h0, h3, hj, hlen, hf, hgo⟩, by rw [RdM_eq h0]; exact hlt⟩
theorem rd_cut (o : Bytes) : ∃ X : Int, (if 0 < lastB o 47 then lastB o 47 else 0) = X ∧ 0 ≤ X ∧ X ≤ o.length ∧ o.take X.toNat = shorten o := by
  refine ⟨_, rfl, by split <;> omega, ?_, ?_⟩
  · have := lastB_le o; split <;> omega
  · rw [← lastB_shorten o]
    congr 2
    split <;> omega
theorem rd_len {o : Bytes} {X : Int} (h : X ≤ o.length) : (o.take X.toNat).length = X.toNat := by rw [List.length_take]; omega
theorem rd_at {b : List Res} {j : Nat} {o : Bytes} {X : Int} (h : X ≤ o.length) : (b.set j .gone ++ [.own ((o.map u8S).take (X.toNat * 1)) 5 1 X.toNat true])[b.length]? = some (.own ((o.take X.toNat).map u8S) 5 1 (o.take X.toNat).length true) := by
  rw [List.getElem?_append_right (by simp), rd_len h]
  simp [List.map_take]
theorem rd_at2 (b : List Res) (j : Nat) (o y : Bytes) : (b.set j .gone ++ [.own (o.map u8S ++ y.map u8S) 5 1 (o.length + y.length) true])[b.length]? = some (.own ((o ++ y).map u8S) 5 1 (o ++ y).length true) := by
  rw [List.getElem?_append_right (by simp)]
  simp
set_option maxHeartbeats 2000000 in
theorem p_uri_RemoveDots (s : Bytes) (hs : s.length ≤ 4294967281) : PC Tryd.V 56 [.str s] (.str (removeDots s)) := by
  refine pc_of 3000 Tryd.func56 rfl Tryd.ntmps56 Tryd.results56 Tryd.call56 (by simp) (by simp [flat, flat.flatL]) (by simp [flat, flat.flatL]) ?_
  simp only [vcS, ↓Xn, ↓Xo, ↓Xg, ↓Xd, ↓Xe, ↓Xf, XQ, XG, gvU, setR, orN, Yl, Xm, Yn, Yi, Xa, Ym, Xc, Xc.sizeIs, reS, Xj, Yb, mmS, Xq, dstS, srcS, XP, XN, XO, Yc, XA, Yg, Xy, XE, endV, gdst, Yk, XR, Yd, goR, XC, sBox, XU, XH, Xr, sNil, XL, Xt, XV, Xv, goD, valD, XI, XF, XB, dNil, XK, XD, dBox, dN, Xz, opL, idxs, pv, XX, Ya, XJ, Xb, Xu, oBin, oUn, Ye, XW, Xw, Xx, Xh, Xk, XY, XS, oLen, lenS, Yh, ev, lk, Vc.put, fits, kd, sz, Tryd.VΓ, Tryd.Γs, bin, binI, binS, ifK, ar, eqB, eqS, eqK, eqK.eqF, negB, bnds, optE, XM, Vc.cells, isV, Vc.one, Xs, getB, setB, XZ, Xp, Xi, Yf, Xl, XT, resS, tupS, ofV, Yj, Nat.reduceAdd, Nat.reduceSub, Nat.reduceLT, Nat.reduceLeDiff, reduceIte, reduceCtorEq, Nat.reduceEqDiff, implies_true, forall_const, lawV]
  refine ⟨by omega, loopV_mk (RdI s) RdM ⟨s, [], 0, s.length, rfl, rfl, rfl, by simp, Nat.le_refl _, rfl⟩ ?_⟩
  rintro ⟨t, b⟩ ⟨p, o, j, f, h0, h3, hj, hlen, hf, hgo⟩
  simp only at h0 h3 hj
  rw [RdM_eq h0]
  simp only [vcS, ↓Xn, ↓Xo, ↓Xg, ↓Xd, ↓Xe, ↓Xf, XQ, XG, gvU, setR, orN, Yl, Xm, Yn, Yi, Xa, Ym, Xc, Xc.sizeIs, reS, Xj, Yb, mmS, Xq, dstS, srcS, XP, XN, XO, Yc, XA, Yg, Xy, XE, endV, gdst, Yk, XR, Yd, goR, XC, sBox, XU, XH, Xr, sNil, XL, Xt, XV, Xv, goD, valD, XI, XF, XB, dNil, XK, XD, dBox, dN, Xz, opL, idxs, pv, XX, Ya, XJ, Xb, Xu, oBin, oUn, Ye, XW, Xw, Xx, Xh, Xk, XY, XS, oLen, lenS, Yh, ev, lk, Vc.put, fits, kd, sz, Tryd.VΓ, Tryd.Γs, bin, binI, binS, ifK, ar, eqB, eqS, eqK, eqK.eqF, negB, bnds, optE, XM, Vc.cells, isV, Vc.one, Xs, getB, setB, XZ, Xp, Xi, Yf, Xl, XT, resS, tupS, ofV, Yj, Nat.reduceAdd, Nat.reduceSub, Nat.reduceLT, Nat.reduceLeDiff, reduceIte, reduceCtorEq, Nat.reduceEqDiff, implies_true, forall_const, lawV, h0, h3, hj]
  have hend : p = [] → o = removeDots s := fun hp => by subst hp; cases f <;> simpa [dotsGo] using hgo
  refine ⟨fun hp => ?_, fun hp => ⟨isU8_map o, ?_⟩⟩
  rotate_left
  · rw [unU8_map, hend (by simpa using hp)]
  replace hp : p ≠ [] := by simpa using hp
  have hpl : 0 < p.length := List.length_pos_iff.2 hp
  obtain ⟨f, rfl⟩ : ∃ f', f = f' + 1 := ⟨f - 1, by omega⟩
  rw [dotsGo, if_neg hp] at hgo
  (refine callV_pc (p_HasPrefix p [46, 46, 47]) ?_
   simp only [vcS, ↓Xn, ↓Xo, ↓Xg, ↓Xd, ↓Xe, ↓Xf, XQ, XG, gvU, setR, orN, Yl, Xm, Yn, Yi, Xa, Ym, Xc, Xc.sizeIs, reS, Xj, Yb, mmS, Xq, dstS, srcS, XP, XN, XO, Yc, XA, Yg, Xy, XE, endV, gdst, Yk, XR, Yd, goR, XC, sBox, XU, XH, Xr, sNil, XL, Xt, XV, Xv, goD, valD, XI, XF, XB, dNil, XK, XD, dBox, dN, Xz, opL, idxs, pv, XX, Ya, XJ, Xb, Xu, oBin, oUn, Ye, XW, Xw, Xx, Xh, Xk, XY, XS, oLen, lenS, Yh, ev, lk, Vc.put, fits, kd, sz, Tryd.VΓ, Tryd.Γs, bin, binI, binS, ifK, ar, eqB, eqS, eqK, eqK.eqF, negB, bnds, optE, XM, Vc.cells, isV, Vc.one, Xs, getB, setB, XZ, Xp, Xi, Yf, Xl, XT, resS, tupS, ofV, Yj, Nat.reduceAdd, Nat.reduceSub, Nat.reduceLT, Nat.reduceLeDiff, reduceIte, reduceCtorEq, Nat.reduceEqDiff, implies_true, forall_const, lawV, h0, h3, hj])
  refine ⟨fun c1 => ?_, fun c1 => ?_⟩
  · have h := hp_len c1
    rw [show dotStep p o = (p.drop 3, o) from if_pos c1] at hgo
    exact ⟨⟨by omega, by simp at h; omega⟩, rd_done rfl h3 hj (by simp; omega) (by simp at h ⊢; omega) hgo (by simp at h ⊢; omega)⟩
  (refine callV_pc (p_HasPrefix p [46, 47]) ?_
   simp only [vcS, ↓Xn, ↓Xo, ↓Xg, ↓Xd, ↓Xe, ↓Xf, XQ, XG, gvU, setR, orN, Yl, Xm, Yn, Yi, Xa, Ym, Xc, Xc.sizeIs, reS, Xj, Yb, mmS, Xq, dstS, srcS, XP, XN, XO, Yc, XA, Yg, Xy, XE, endV, gdst, Yk, XR, Yd, goR, XC, sBox, XU, XH, Xr, sNil, XL, Xt, XV, Xv, goD, valD, XI, XF, XB, dNil, XK, XD, dBox, dN, Xz, opL, idxs, pv, XX, Ya, XJ, Xb, Xu, oBin, oUn, Ye, XW, Xw, Xx, Xh, Xk, XY, XS, oLen, lenS, Yh, ev, lk, Vc.put, fits, kd, sz, Tryd.VΓ, Tryd.Γs, bin, binI, binS, ifK, ar, eqB, eqS, eqK, eqK.eqF, negB, bnds, optE, XM, Vc.cells, isV, Vc.one, Xs, getB, setB, XZ, Xp, Xi, Yf, Xl, XT, resS, tupS, ofV, Yj, Nat.reduceAdd, Nat.reduceSub, Nat.reduceLT, Nat.reduceLeDiff, reduceIte, reduceCtorEq, Nat.reduceEqDiff, implies_true, forall_const, lawV, h0, h3, hj])
  refine ⟨fun c2 => ?_, fun c2 => ?_⟩
  · have h := hp_len c2
    rw [show dotStep p o = (p.drop 2, o) by unfold dotStep; rw [if_neg (hp_no c1)]; exact if_pos c2] at hgo
    exact ⟨⟨by omega, by simp at h; omega⟩, rd_done rfl h3 hj (by simp; omega) (by simp at h ⊢; omega) hgo (by simp at h ⊢; omega)⟩
  (refine callV_pc (p_HasPrefix p [47, 46, 47]) ?_
   simp only [vcS, ↓Xn, ↓Xo, ↓Xg, ↓Xd, ↓Xe, ↓Xf, XQ, XG, gvU, setR, orN, Yl, Xm, Yn, Yi, Xa, Ym, Xc, Xc.sizeIs, reS, Xj, Yb, mmS, Xq, dstS, srcS, XP, XN, XO, Yc, XA, Yg, Xy, XE, endV, gdst, Yk, XR, Yd, goR, XC, sBox, XU, XH, Xr, sNil, XL, Xt, XV, Xv, goD, valD, XI, XF, XB, dNil, XK, XD, dBox, dN, Xz, opL, idxs, pv, XX, Ya, XJ, Xb, Xu, oBin, oUn, Ye, XW, Xw, Xx, Xh, Xk, XY, XS, oLen, lenS, Yh, ev, lk, Vc.put, fits, kd, sz, Tryd.VΓ, Tryd.Γs, bin, binI, binS, ifK, ar, eqB, eqS, eqK, eqK.eqF, negB, bnds, optE, XM, Vc.cells, isV, Vc.one, Xs, getB, setB, XZ, Xp, Xi, Yf, Xl, XT, resS, tupS, ofV, Yj, Nat.reduceAdd, Nat.reduceSub, Nat.reduceLT, Nat.reduceLeDiff, reduceIte, reduceCtorEq, Nat.reduceEqDiff, implies_true, forall_const, lawV, h0, h3, hj])
  refine ⟨fun c3 => ?_, fun c3 => ?_⟩
  · have h := hp_len c3
    rw [show dotStep p o = (p.drop 2, o) by unfold dotStep; rw [if_neg (hp_no c1), if_neg (hp_no c2)]; exact if_pos c3] at hgo
    exact ⟨⟨by omega, by simp at h; omega⟩, rd_done rfl h3 hj (by simp; omega) (by simp at h ⊢; omega) hgo (by simp at h ⊢; omega)⟩
  refine ⟨fun c4 => ?_, fun c4 => ?_⟩
  · have h : p = [47, 46] := by simpa using c4
    subst h
    exact rd_done (p' := [47]) rfl h3 hj (by simp at hlen ⊢; omega) (by simp at hf ⊢; omega) hgo (by simp)
  have n4 : ¬ p = [47, 46] := by simpa using c4
  have hdot : dotStep p o = if [47, 46, 46, 47].isPrefixOf p then (p.drop 3, shorten o)
      else if p = [47, 46, 46] then ([47], shorten o)
      else if p = [46] ∨ p = [46, 46] then ([], o)
      else (p.drop (1 + pre (· == 47) (p.drop 1)), o ++ p.take (1 + pre (· == 47) (p.drop 1))) := by
    unfold dotStep; rw [if_neg (hp_no c1), if_neg (hp_no c2), if_neg (hp_no c3), if_neg n4]
  rw [hdot] at hgo
  (refine callV_pc (p_HasPrefix p [47, 46, 46, 47]) ?_
   simp only [vcS, ↓Xn, ↓Xo, ↓Xg, ↓Xd, ↓Xe, ↓Xf, XQ, XG, gvU, setR, orN, Yl, Xm, Yn, Yi, Xa, Ym, Xc, Xc.sizeIs, reS, Xj, Yb, mmS, Xq, dstS, srcS, XP, XN, XO, Yc, XA, Yg, Xy, XE, endV, gdst, Yk, XR, Yd, goR, XC, sBox, XU, XH, Xr, sNil, XL, Xt, XV, Xv, goD, valD, XI, XF, XB, dNil, XK, XD, dBox, dN, Xz, opL, idxs, pv, XX, Ya, XJ, Xb, Xu, oBin, oUn, Ye, XW, Xw, Xx, Xh, Xk, XY, XS, oLen, lenS, Yh, ev, lk, Vc.put, fits, kd, sz, Tryd.VΓ, Tryd.Γs, bin, binI, binS, ifK, ar, eqB, eqS, eqK, eqK.eqF, negB, bnds, optE, XM, Vc.cells, isV, Vc.one, Xs, getB, setB, XZ, Xp, Xi, Yf, Xl, XT, resS, tupS, ofV, Yj, Nat.reduceAdd, Nat.reduceSub, Nat.reduceLT, Nat.reduceLeDiff, reduceIte, reduceCtorEq, Nat.reduceEqDiff, implies_true, forall_const, lawV, h0, h3, hj])
  refine ⟨fun c5 => ⟨fun c6 => ?_, fun c6 => ⟨fun c7 => ⟨fun c8 => ?_, fun c8 => ?_⟩, fun c7 => ?_⟩⟩, fun c5 => ?_⟩
  · have h : p = [47, 46, 46] := by simpa using c6
    subst h
    refine ⟨by simp, ?_⟩
    (refine callV_pc (p_TrimPrefix _ [47]) ?_
     simp only [vcS, ↓Xn, ↓Xo, ↓Xg, ↓Xd, ↓Xe, ↓Xf, XQ, XG, gvU, setR, orN, Yl, Xm, Yn, Yi, Xa, Ym, Xc, Xc.sizeIs, reS, Xj, Yb, mmS, Xq, dstS, srcS, XP, XN, XO, Yc, XA, Yg, Xy, XE, endV, gdst, Yk, XR, Yd, goR, XC, sBox, XU, XH, Xr, sNil, XL, Xt, XV, Xv, goD, valD, XI, XF, XB, dNil, XK, XD, dBox, dN, Xz, opL, idxs, pv, XX, Ya, XJ, Xb, Xu, oBin, oUn, Ye, XW, Xw, Xx, Xh, Xk, XY, XS, oLen, lenS, Yh, ev, lk, Vc.put, fits, kd, sz, Tryd.VΓ, Tryd.Γs, bin, binI, binS, ifK, ar, eqB, eqS, eqK, eqK.eqF, negB, bnds, optE, XM, Vc.cells, isV, Vc.one, Xs, getB, setB, XZ, Xp, Xi, Yf, Xl, XT, resS, tupS, ofV, Yj, Nat.reduceAdd, Nat.reduceSub, Nat.reduceLT, Nat.reduceLeDiff, reduceIte, reduceCtorEq, Nat.reduceEqDiff, implies_true, forall_const, lawV, h0, h3, hj])
    refine ⟨by decide, isU8_map o, ?_⟩
    rw [unU8_map]
    (refine callV_pc (p_LastIndexByte o 47 (by omega)) ?_
     simp only [vcS, ↓Xn, ↓Xo, ↓Xg, ↓Xd, ↓Xe, ↓Xf, XQ, XG, gvU, setR, orN, Yl, Xm, Yn, Yi, Xa, Ym, Xc, Xc.sizeIs, reS, Xj, Yb, mmS, Xq, dstS, srcS, XP, XN, XO, Yc, XA, Yg, Xy, XE, endV, gdst, Yk, XR, Yd, goR, XC, sBox, XU, XH, Xr, sNil, XL, Xt, XV, Xv, goD, valD, XI, XF, XB, dNil, XK, XD, dBox, dN, Xz, opL, idxs, pv, XX, Ya, XJ, Xb, Xu, oBin, oUn, Ye, XW, Xw, Xx, Xh, Xk, XY, XS, oLen, lenS, Yh, ev, lk, Vc.put, fits, kd, sz, Tryd.VΓ, Tryd.Γs, bin, binI, binS, ifK, ar, eqB, eqS, eqK, eqK.eqF, negB, bnds, optE, XM, Vc.cells, isV, Vc.one, Xs, getB, setB, XZ, Xp, Xi, Yf, Xl, XT, resS, tupS, ofV, Yj, Nat.reduceAdd, Nat.reduceSub, Nat.reduceLT, Nat.reduceLeDiff, reduceIte, reduceCtorEq, Nat.reduceEqDiff, implies_true, forall_const, lawV, h0, h3, hj])
    obtain ⟨X, hX, x0, x1, hx⟩ := rd_cut o
    rw [hX]
    refine ⟨⟨x0, x1⟩, rd_done (p' := [47]) (o' := o.take X.toNat) (f := f) rfl ?_ (rd_at x1) ?_ ?_ ?_ (by simp)⟩
    · rw [rd_len x1]; rfl
    · rw [rd_len x1]; simp at hlen ⊢; omega
    · simp at hf ⊢; omega
    · rw [hx]; exact hgo
  · have h : p = [46, 46] := by simpa using c8
    subst h
    exact rd_done (p' := []) rfl h3 hj (by simp at hlen ⊢; omega) (by simp at hf ⊢) hgo (by simp)
  · have n5 := hp_no c5
    have n6 : ¬ p = [47, 46, 46] := by simpa using c6
    have n7 : ¬ (p = [46] ∨ p = [46, 46]) := by rintro (h | h) <;> subst h <;> simp at c7 c8
    rw [if_neg n5, if_neg n6, if_neg n7] at hgo
    simp only at hgo
    have p4 := p_IndexByte (p.drop 1) 47
    rw [indexByte_pre] at p4
    have hpr := pre_le (· == 47) (p.drop 1)
    generalize pre (· == 47) (p.drop 1) = q at hgo p4 hpr
    simp only [List.length_drop] at p4 hpr
    refine ⟨by omega, ?_⟩
    by_cases hq : q < p.length - 1
    · rw [if_pos hq] at p4
      (refine callV_pc (p4) ?_
       simp only [vcS, ↓Xn, ↓Xo, ↓Xg, ↓Xd, ↓Xe, ↓Xf, XQ, XG, gvU, setR, orN, Yl, Xm, Yn, Yi, Xa, Ym, Xc, Xc.sizeIs, reS, Xj, Yb, mmS, Xq, dstS, srcS, XP, XN, XO, Yc, XA, Yg, Xy, XE, endV, gdst, Yk, XR, Yd, goR, XC, sBox, XU, XH, Xr, sNil, XL, Xt, XV, Xv, goD, valD, XI, XF, XB, dNil, XK, XD, dBox, dN, Xz, opL, idxs, pv, XX, Ya, XJ, Xb, Xu, oBin, oUn, Ye, XW, Xw, Xx, Xh, Xk, XY, XS, oLen, lenS, Yh, ev, lk, Vc.put, fits, kd, sz, Tryd.VΓ, Tryd.Γs, bin, binI, binS, ifK, ar, eqB, eqS, eqK, eqK.eqF, negB, bnds, optE, XM, Vc.cells, isV, Vc.one, Xs, getB, setB, XZ, Xp, Xi, Yf, Xl, XT, resS, tupS, ofV, Yj, Nat.reduceAdd, Nat.reduceSub, Nat.reduceLT, Nat.reduceLeDiff, reduceIte, reduceCtorEq, Nat.reduceEqDiff, implies_true, forall_const, lawV, h0, h3, hj])
      have e : (1 + (q : Int)).toNat = 1 + q := by omega
      have el : (p.take (1 + q)).length = 1 + q := by rw [List.length_take]; omega
      rw [e]
      refine ⟨by omega, fun h => (by simp at h; omega), fun _ => ⟨by omega, ⟨one_u8 _, by rw [el]; unfold maxLen; omega, by rw [el]; omega⟩, by omega, rd_done (p' := p.drop (1 + q)) (o' := o ++ p.take (1 + q)) (f := f) rfl ?_ (rd_at2 ..) ?_ ?_ hgo ?_⟩⟩
      · rw [List.length_append]; rfl
      · simp; omega
      · simp; omega
      · simp; omega
    · rw [if_neg hq] at p4
      have hq2 : 1 + q = p.length := by omega
      rw [hq2, List.drop_length, List.take_length] at hgo
      (refine callV_pc (p4) ?_
       simp only [vcS, ↓Xn, ↓Xo, ↓Xg, ↓Xd, ↓Xe, ↓Xf, XQ, XG, gvU, setR, orN, Yl, Xm, Yn, Yi, Xa, Ym, Xc, Xc.sizeIs, reS, Xj, Yb, mmS, Xq, dstS, srcS, XP, XN, XO, Yc, XA, Yg, Xy, XE, endV, gdst, Yk, XR, Yd, goR, XC, sBox, XU, XH, Xr, sNil, XL, Xt, XV, Xv, goD, valD, XI, XF, XB, dNil, XK, XD, dBox, dN, Xz, opL, idxs, pv, XX, Ya, XJ, Xb, Xu, oBin, oUn, Ye, XW, Xw, Xx, Xh, Xk, XY, XS, oLen, lenS, Yh, ev, lk, Vc.put, fits, kd, sz, Tryd.VΓ, Tryd.Γs, bin, binI, binS, ifK, ar, eqB, eqS, eqK, eqK.eqF, negB, bnds, optE, XM, Vc.cells, isV, Vc.one, Xs, getB, setB, XZ, Xp, Xi, Yf, Xl, XT, resS, tupS, ofV, Yj, Nat.reduceAdd, Nat.reduceSub, Nat.reduceLT, Nat.reduceLeDiff, reduceIte, reduceCtorEq, Nat.reduceEqDiff, implies_true, forall_const, lawV, h0, h3, hj])
      refine ⟨by omega, fun _ => ⟨by omega, ⟨one_u8 _, by unfold maxLen; omega, by omega⟩, by omega, rd_done (p' := []) (o' := o ++ p) (f := f) ?_ ?_ (rd_at2 ..) ?_ ?_ hgo ?_⟩, fun h => (by simp at h)⟩
      · simp [lk]
      · rw [List.length_append]; rfl
      · simp; omega
      · simp
      · exact hpl
  · have h : p = [46] := by simpa using c7
    subst h
    exact rd_done (p' := []) rfl h3 hj (by simp at hlen ⊢; omega) (by simp at hf ⊢) hgo (by simp)
  · rw [if_pos (show List.isPrefixOf [47, 46, 46, 47] p = true from c5)] at hgo
    obtain ⟨r, rfl⟩ := List.isPrefixOf_iff_prefix.1 c5
    refine ⟨by simp; omega, ?_⟩
    (refine callV_pc (p_TrimPrefix _ [47]) ?_
     simp only [vcS, ↓Xn, ↓Xo, ↓Xg, ↓Xd, ↓Xe, ↓Xf, XQ, XG, gvU, setR, orN, Yl, Xm, Yn, Yi, Xa, Ym, Xc, Xc.sizeIs, reS, Xj, Yb, mmS, Xq, dstS, srcS, XP, XN, XO, Yc, XA, Yg, Xy, XE, endV, gdst, Yk, XR, Yd, goR, XC, sBox, XU, XH, Xr, sNil, XL, Xt, XV, Xv, goD, valD, XI, XF, XB, dNil, XK, XD, dBox, dN, Xz, opL, idxs, pv, XX, Ya, XJ, Xb, Xu, oBin, oUn, Ye, XW, Xw, Xx, Xh, Xk, XY, XS, oLen, lenS, Yh, ev, lk, Vc.put, fits, kd, sz, Tryd.VΓ, Tryd.Γs, bin, binI, binS, ifK, ar, eqB, eqS, eqK, eqK.eqF, negB, bnds, optE, XM, Vc.cells, isV, Vc.one, Xs, getB, setB, XZ, Xp, Xi, Yf, Xl, XT, resS, tupS, ofV, Yj, Nat.reduceAdd, Nat.reduceSub, Nat.reduceLT, Nat.reduceLeDiff, reduceIte, reduceCtorEq, Nat.reduceEqDiff, implies_true, forall_const, lawV, h0, h3, hj])
    have ht : Lib.trimPrefix (47 :: r) [47] = r := by simp [Lib.trimPrefix, Lib.hasPrefix]
    have hd : (47 :: 46 :: 46 :: 47 :: r : Bytes).drop (Int.toNat 3) = 47 :: r := rfl
    rw [hd, ht]
    refine ⟨by simp at hlen; omega, isU8_map o, ?_⟩
    rw [unU8_map]
    (refine callV_pc (p_LastIndexByte o 47 (by omega)) ?_
     simp only [vcS, ↓Xn, ↓Xo, ↓Xg, ↓Xd, ↓Xe, ↓Xf, XQ, XG, gvU, setR, orN, Yl, Xm, Yn, Yi, Xa, Ym, Xc, Xc.sizeIs, reS, Xj, Yb, mmS, Xq, dstS, srcS, XP, XN, XO, Yc, XA, Yg, Xy, XE, endV, gdst, Yk, XR, Yd, goR, XC, sBox, XU, XH, Xr, sNil, XL, Xt, XV, Xv, goD, valD, XI, XF, XB, dNil, XK, XD, dBox, dN, Xz, opL, idxs, pv, XX, Ya, XJ, Xb, Xu, oBin, oUn, Ye, XW, Xw, Xx, Xh, Xk, XY, XS, oLen, lenS, Yh, ev, lk, Vc.put, fits, kd, sz, Tryd.VΓ, Tryd.Γs, bin, binI, binS, ifK, ar, eqB, eqS, eqK, eqK.eqF, negB, bnds, optE, XM, Vc.cells, isV, Vc.one, Xs, getB, setB, XZ, Xp, Xi, Yf, Xl, XT, resS, tupS, ofV, Yj, Nat.reduceAdd, Nat.reduceSub, Nat.reduceLT, Nat.reduceLeDiff, reduceIte, reduceCtorEq, Nat.reduceEqDiff, implies_true, forall_const, lawV, h0, h3, hj])
    obtain ⟨X, hX, x0, x1, hx⟩ := rd_cut o
    rw [hX]
    refine ⟨⟨x0, x1⟩, rd_done (p' := 47 :: r) (o' := o.take X.toNat) (f := f) rfl ?_ (rd_at x1) ?_ ?_ ?_ (by simp)⟩
    · rw [rd_len x1]; rfl
    · rw [rd_len x1]; simp at hlen ⊢; omega
    · simp at hf ⊢; omega
    · rw [hx]; exact hgo
end Go.Proofs.YtnpkjglcbolcbaaDoor
