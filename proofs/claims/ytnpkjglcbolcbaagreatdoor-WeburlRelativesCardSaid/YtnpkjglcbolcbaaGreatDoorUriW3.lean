/- The walk of uri.Join. -/
import Derived.Test.YtnpkjglcbolcbaaGreatDoorUriW
import Derived.Test.YtnpkjglcbolcbaaGreatDoorBld
set_option linter.all false
set_option maxRecDepth 20000
namespace Go.Proofs.YtnpkjglcbolcbaaGreatDoor
open Go Vc Go.RowKit Wf
set_option linter.unusedSimpArgs false
def adds (there : Bool) (l : Bytes) (parts : List Bytes) : Bytes := if there then l ++ parts.flatten else l
theorem adds_take (there : Bool) (l : Bytes) (parts : List Bytes) (k : Nat) (hk : k < parts.length) : adds there l (parts.take (k + 1)) = if there then adds there l (parts.take k) ++ parts[k] else l := by
  unfold adds
  cases there
  · rfl
  · simp only [if_true]
    rw [List.take_succ_eq_append_getElem hk, List.flatten_append]
    simp
def AddI (bs : List Res) (i : Nat) (there : Bool) (l : Bytes) (parts : List Bytes) (j : Nat) (σ : St) : Prop := ∃ k : Nat, k ≤ parts.length ∧ lk 0 σ.t = some (.bool there) ∧ lk 2 σ.t = some (.p i 0) ∧ lk 7 σ.t = some (.o j parts.length) ∧ lk 8 σ.t = some (.int .i64 parts.length) ∧ lk 9 σ.t = some (.int .i64 k) ∧
  σ.b = bs.set i (.ext (BldR 133 5 (adds there l (parts.take k))))
def AddM (parts : List Bytes) (σ : St) : Nat := match lk 9 σ.t with
  | some (.int _ k) => parts.length - k.toNat
  | _ => 0
theorem AddM_eq {parts : List Bytes} {σ : St} {k : Nat} (h : lk 9 σ.t = some (.int .i64 k)) : AddM parts σ = parts.length - k := by simp [AddM, h]
theorem add_len {there : Bool} {l : Bytes} {parts : List Bytes} {k : Nat} (hk : k < parts.length) : (adds there l (parts.take k)).length + parts[k].length ≤ l.length + parts.flatten.length := by
  have e : (parts.take (k + 1)).flatten.length ≤ parts.flatten.length := by
    conv => rhs; rw [← List.take_append_drop (k + 1) parts, List.flatten_append, List.length_append]
    omega
  rw [List.take_succ_eq_append_getElem hk, List.flatten_append, List.length_append] at e
  unfold adds
  split
  · simp at e ⊢; omega
  · simp at e ⊢; omega
set_option maxHeartbeats 1000000 in
theorem sc_add {bs : List Res} {i j : Nat} {l : Bytes} {there : Bool} {parts : List Bytes} {m : Bool} (hi : bs[i]? = some (.ext (BldR 133 5 l))) (hj : bs[j]? = some (.own (parts.map SV.str) 9 1 parts.length m)) (hlen : l.length + parts.flatten.length ≤ 140737488355328) (hp : parts.length ≤ 1000) :
    SC Tryz.V 132 [.bool there, .o j parts.length, .p i 0] bs (fun r bs' => r = .tup [] ∧ bs' = bs.set i (.ext (BldR 133 5 (adds there l parts)))) := by
  have hil : i < bs.length := (List.getElem?_eq_some_iff.1 hi).1
  have hjl : j < bs.length := (List.getElem?_eq_some_iff.1 hj).1
  have hij : i ≠ j := by rintro rfl; rw [hi] at hj; cases hj
  refine sc_of 3000 Tryz.func132 rfl Tryz.ntmps132 Tryz.results132 Tryz.call132 (by simp) (fun β β' hb => concL_within bs.length _ (by simp [within, within.withinL, hil, hjl]) β β' hb) ?_
  simp only [vcS, ↓Xn, ↓Xo, ↓Xg, ↓Xd, ↓Xe, ↓Xf, XQ, XG, gvU, setR, orN, Yl, Xm, Yn, Yi, Xa, Ym, Xc, Xc.sizeIs, reS, Xj, Yb, mmS, Xq, dstS, srcS, XP, XN, XO, Yc, XA, Yg, Xy, XE, endV, gdst, Yk, XR, Yd, goR, XC, sBox, XU, XH, Xr, sNil, XL, Xt, XV, Xv, goD, valD, XI, XF, XB, dNil, XK, XD, dBox, dN, Xz, opL, idxs, pv, XX, Ya, XJ, Xb, Xu, oBin, oUn, Ye, XW, Xw, Xx, Xh, Xk, XY, XS, oLen, lenS, Yh, ev, lk, Vc.put, fits, kd, sz, Tryz.VΓ, Tryz.Γs, bin, binI, binS, ifK, ar, eqB, eqS, eqK, eqK.eqF, negB, bnds, optE, XM, Vc.cells, isV, Vc.one, Xs, getB, setB, XZ, Xp, Xi, Yf, Xl, XT, resS, tupS, ofV, Yj, Nat.reduceAdd, Nat.reduceSub, Nat.reduceLT, Nat.reduceLeDiff, reduceIte, reduceCtorEq, Nat.reduceEqDiff, implies_true, forall_const, lawV]
  refine loopV_mk (AddI bs i there l parts j) (AddM parts) ⟨0, by simp, rfl, rfl, rfl, rfl, rfl, ?_⟩ ?_
  · apply List.ext_getElem?
    intro k
    have : adds there l (List.take 0 parts) = l := by simp [adds]
    rw [this]
    by_cases hk : k = i
    · subst hk; rw [List.getElem?_set_self hil, hi]
    · rw [List.getElem?_set_ne (fun e => hk e.symm)]
  · rintro ⟨t, b⟩ ⟨k, hk, h0, h2, h7, h8, h9, hb⟩
    simp only at h0 h2 h7 h8 h9 hb
    rw [AddM_eq h9]
    have hbj : b[j]? = some (.own (parts.map SV.str) 9 1 parts.length m) := by rw [hb, List.getElem?_set_ne hij]; exact hj
    have hbi : b[i]? = some (.ext (BldR 133 5 (adds there l (parts.take k)))) := by rw [hb, List.getElem?_set_self hil]
    by_cases hlt : k < parts.length
    · have h11 : (List.map SV.str parts)[k * 1]? = some (.str parts[k]) := by simp [hlt]
      have hal := add_len (there := there) (l := l) hlt
      simp only [vcS, ↓Xn, ↓Xo, ↓Xg, ↓Xd, ↓Xe, ↓Xf, XQ, XG, gvU, setR, orN, Yl, Xm, Yn, Yi, Xa, Ym, Xc, Xc.sizeIs, reS, Xj, Yb, mmS, Xq, dstS, srcS, XP, XN, XO, Yc, XA, Yg, Xy, XE, endV, gdst, Yk, XR, Yd, goR, XC, sBox, XU, XH, Xr, sNil, XL, Xt, XV, Xv, goD, valD, XI, XF, XB, dNil, XK, XD, dBox, dN, Xz, opL, idxs, pv, XX, Ya, XJ, Xb, Xu, oBin, oUn, Ye, XW, Xw, Xx, Xh, Xk, XY, XS, oLen, lenS, Yh, ev, lk, Vc.put, fits, kd, sz, Tryz.VΓ, Tryz.Γs, bin, binI, binS, ifK, ar, eqB, eqS, eqK, eqK.eqF, negB, bnds, optE, XM, Vc.cells, isV, Vc.one, Xs, getB, setB, XZ, Xp, Xi, Yf, Xl, XT, resS, tupS, ofV, Yj, Nat.reduceAdd, Nat.reduceSub, Nat.reduceLT, Nat.reduceLeDiff, reduceIte, reduceCtorEq, Nat.reduceEqDiff, implies_true, forall_const, lawV, h0, h2, h7, h8, h9, hbj, h11]
      refine ⟨fun _ => ⟨⟨by omega, by omega⟩, by simp; omega, fun ht => ?_, fun ht => ?_⟩, fun hc => (by simp at hc; omega)⟩
      · refine callV_sc (sc_WriteString hbi (by omega)) ?_
        rintro r bs' ⟨rfl, rfl⟩
        simp only [vcS, ↓Xn, ↓Xo, ↓Xg, ↓Xd, ↓Xe, ↓Xf, XQ, XG, gvU, setR, orN, Yl, Xm, Yn, Yi, Xa, Ym, Xc, Xc.sizeIs, reS, Xj, Yb, mmS, Xq, dstS, srcS, XP, XN, XO, Yc, XA, Yg, Xy, XE, endV, gdst, Yk, XR, Yd, goR, XC, sBox, XU, XH, Xr, sNil, XL, Xt, XV, Xv, goD, valD, XI, XF, XB, dNil, XK, XD, dBox, dN, Xz, opL, idxs, pv, XX, Ya, XJ, Xb, Xu, oBin, oUn, Ye, XW, Xw, Xx, Xh, Xk, XY, XS, oLen, lenS, Yh, ev, lk, Vc.put, fits, kd, sz, Tryz.VΓ, Tryz.Γs, bin, binI, binS, ifK, ar, eqB, eqS, eqK, eqK.eqF, negB, bnds, optE, XM, Vc.cells, isV, Vc.one, Xs, getB, setB, XZ, Xp, Xi, Yf, Xl, XT, resS, tupS, ofV, Yj, Nat.reduceAdd, Nat.reduceSub, Nat.reduceLT, Nat.reduceLeDiff, reduceIte, reduceCtorEq, Nat.reduceEqDiff, implies_true, forall_const, lawV, h0, h2, h7, h8, h9]
        refine ⟨by omega, ⟨k + 1, by omega, h0, h2, h7, h8, by simp [lk], ?_⟩, ?_⟩
        · simp only [hb, List.set_set]
          rw [adds_take _ _ _ _ hlt, ht]; rfl
        · rw [AddM_eq (k := k + 1) (by simp [lk])]; omega
      · refine ⟨by omega, ⟨k + 1, by omega, h0, h2, h7, h8, by simp [lk], ?_⟩, ?_⟩
        · simp only [hb]
          rw [adds_take _ _ _ _ hlt, ht]; simp [adds]
        · rw [AddM_eq (k := k + 1) (by simp [lk])]; omega
    · simp only [vcS, ↓Xn, ↓Xo, ↓Xg, ↓Xd, ↓Xe, ↓Xf, XQ, XG, gvU, setR, orN, Yl, Xm, Yn, Yi, Xa, Ym, Xc, Xc.sizeIs, reS, Xj, Yb, mmS, Xq, dstS, srcS, XP, XN, XO, Yc, XA, Yg, Xy, XE, endV, gdst, Yk, XR, Yd, goR, XC, sBox, XU, XH, Xr, sNil, XL, Xt, XV, Xv, goD, valD, XI, XF, XB, dNil, XK, XD, dBox, dN, Xz, opL, idxs, pv, XX, Ya, XJ, Xb, Xu, oBin, oUn, Ye, XW, Xw, Xx, Xh, Xk, XY, XS, oLen, lenS, Yh, ev, lk, Vc.put, fits, kd, sz, Tryz.VΓ, Tryz.Γs, bin, binI, binS, ifK, ar, eqB, eqS, eqK, eqK.eqF, negB, bnds, optE, XM, Vc.cells, isV, Vc.one, Xs, getB, setB, XZ, Xp, Xi, Yf, Xl, XT, resS, tupS, ofV, Yj, Nat.reduceAdd, Nat.reduceSub, Nat.reduceLT, Nat.reduceLeDiff, reduceIte, reduceCtorEq, Nat.reduceEqDiff, implies_true, forall_const, lawV, h0, h2, h7, h8, h9, hbj]
      refine ⟨fun hc => (by simp at hc; omega), fun _ => ?_⟩
      have : k = parts.length := by omega
      subst this
      rw [hb, List.take_length]
theorem adds_le (there : Bool) (l : Bytes) (parts : List Bytes) : (adds there l parts).length ≤ l.length + parts.flatten.length := by
  unfold adds; split
  · simp
  · omega
def Uri.size (u : Uri) : Nat := u.scheme.length + u.authority.length + u.path.length + u.query.length + u.fragment.length
set_option maxHeartbeats 2000000 in
theorem p_uri_Join (u : Uri) (hlen : Uri.size u ≤ 140737488300000) : PC Tryz.V 76 [usv u] (.str (uriJoin u)) := by
  unfold Uri.size at hlen
  (refine pc_of 3000 Tryz.func76 rfl Tryz.ntmps76 Tryz.results76 Tryz.call76 (by simp) (by simp [flat, flat.flatL, usv]) (by simp [flat, flat.flatL, usv]) ?_
   unfold usv
   simp only [vcS, ↓Xn, ↓Xo, ↓Xg, ↓Xd, ↓Xe, ↓Xf, XQ, XG, gvU, setR, orN, Yl, Xm, Yn, Yi, Xa, Ym, Xc, Xc.sizeIs, reS, Xj, Yb, mmS, Xq, dstS, srcS, XP, XN, XO, Yc, XA, Yg, Xy, XE, endV, gdst, Yk, XR, Yd, goR, XC, sBox, XU, XH, Xr, sNil, XL, Xt, XV, Xv, goD, valD, XI, XF, XB, dNil, XK, XD, dBox, dN, Xz, opL, idxs, pv, XX, Ya, XJ, Xb, Xu, oBin, oUn, Ye, XW, Xw, Xx, Xh, Xk, XY, XS, oLen, lenS, Yh, ev, lk, Vc.put, fits, kd, sz, Tryz.VΓ, Tryz.Γs, bin, binI, binS, ifK, ar, eqB, eqS, eqK, eqK.eqF, negB, bnds, optE, XM, Vc.cells, isV, Vc.one, Xs, getB, setB, XZ, Xp, Xi, Yf, Xl, XT, resS, tupS, ofV, Yj, Nat.reduceAdd, Nat.reduceSub, Nat.reduceLT, Nat.reduceLeDiff, reduceIte, reduceCtorEq, Nat.reduceEqDiff, implies_true, forall_const, lawV])
  have e1 := adds_le u.hasScheme [] [u.scheme, [58]]
  have e2 := adds_le u.hasAuthority (adds u.hasScheme [] [u.scheme, [58]]) [[47, 47], u.authority]
  have e3 := adds_le true (adds u.hasAuthority (adds u.hasScheme [] [u.scheme, [58]]) [[47, 47], u.authority]) [u.path]
  have e4 := adds_le u.hasQuery (adds true (adds u.hasAuthority (adds u.hasScheme [] [u.scheme, [58]]) [[47, 47], u.authority]) [u.path]) [[63], u.query]
  have e5 : uriJoin u = adds u.hasFrag (adds u.hasQuery (adds true (adds u.hasAuthority (adds u.hasScheme [] [u.scheme, [58]]) [[47, 47], u.authority]) [u.path]) [[63], u.query]) [[35], u.fragment] := by
    unfold uriJoin adds
    cases u.hasScheme <;> cases u.hasAuthority <;> cases u.hasQuery <;> cases u.hasFrag <;> simp
  rw [e5]
  simp only [List.flatten_cons, List.flatten_nil, List.append_nil, List.length_append, List.length_cons, List.length_nil] at e1 e2 e3 e4
  refine ⟨by omega, ?_⟩
  refine callV_sc (sc_fresh (i := 1) (TB := 133) (TU := 5) ?_ (sc_add (i := 1) (j := 2) (m := true) (l := []) (parts := [u.scheme, [58]]) ?_ ?_ ?_ ?_)) ?_
  · rfl
  · rfl
  · rfl
  · simp; omega
  · simp
  rintro r bs' ⟨rfl, rfl⟩
  generalize adds u.hasScheme [] [u.scheme, [58]] = l1 at e1 e2 e3 e4 ⊢
  simp only [vcS, ↓Xn, ↓Xo, ↓Xg, ↓Xd, ↓Xe, ↓Xf, XQ, XG, gvU, setR, orN, Yl, Xm, Yn, Yi, Xa, Ym, Xc, Xc.sizeIs, reS, Xj, Yb, mmS, Xq, dstS, srcS, XP, XN, XO, Yc, XA, Yg, Xy, XE, endV, gdst, Yk, XR, Yd, goR, XC, sBox, XU, XH, Xr, sNil, XL, Xt, XV, Xv, goD, valD, XI, XF, XB, dNil, XK, XD, dBox, dN, Xz, opL, idxs, pv, XX, Ya, XJ, Xb, Xu, oBin, oUn, Ye, XW, Xw, Xx, Xh, Xk, XY, XS, oLen, lenS, Yh, ev, lk, Vc.put, fits, kd, sz, Tryz.VΓ, Tryz.Γs, bin, binI, binS, ifK, ar, eqB, eqS, eqK, eqK.eqF, negB, bnds, optE, XM, Vc.cells, isV, Vc.one, Xs, getB, setB, XZ, Xp, Xi, Yf, Xl, XT, resS, tupS, ofV, Yj, Nat.reduceAdd, Nat.reduceSub, Nat.reduceLT, Nat.reduceLeDiff, reduceIte, reduceCtorEq, Nat.reduceEqDiff, implies_true, forall_const, lawV]
  refine ⟨by omega, ?_⟩
  refine callV_sc (sc_add (i := 1) (j := 3) (m := true) (l := l1) (parts := [[47, 47], u.authority]) ?_ ?_ ?_ ?_) ?_
  · rfl
  · rfl
  · simp only [List.flatten_cons, List.flatten_nil, List.append_nil, List.length_append, List.length_cons, List.length_nil]; omega
  · simp
  rintro r bs' ⟨rfl, rfl⟩
  generalize adds u.hasAuthority l1 [[47, 47], u.authority] = l2 at e2 e3 e4 ⊢
  simp only [vcS, ↓Xn, ↓Xo, ↓Xg, ↓Xd, ↓Xe, ↓Xf, XQ, XG, gvU, setR, orN, Yl, Xm, Yn, Yi, Xa, Ym, Xc, Xc.sizeIs, reS, Xj, Yb, mmS, Xq, dstS, srcS, XP, XN, XO, Yc, XA, Yg, Xy, XE, endV, gdst, Yk, XR, Yd, goR, XC, sBox, XU, XH, Xr, sNil, XL, Xt, XV, Xv, goD, valD, XI, XF, XB, dNil, XK, XD, dBox, dN, Xz, opL, idxs, pv, XX, Ya, XJ, Xb, Xu, oBin, oUn, Ye, XW, Xw, Xx, Xh, Xk, XY, XS, oLen, lenS, Yh, ev, lk, Vc.put, fits, kd, sz, Tryz.VΓ, Tryz.Γs, bin, binI, binS, ifK, ar, eqB, eqS, eqK, eqK.eqF, negB, bnds, optE, XM, Vc.cells, isV, Vc.one, Xs, getB, setB, XZ, Xp, Xi, Yf, Xl, XT, resS, tupS, ofV, Yj, Nat.reduceAdd, Nat.reduceSub, Nat.reduceLT, Nat.reduceLeDiff, reduceIte, reduceCtorEq, Nat.reduceEqDiff, implies_true, forall_const, lawV]
  refine ⟨by omega, ?_⟩
  refine callV_sc (sc_add (i := 1) (j := 4) (m := true) (l := l2) (parts := [u.path]) ?_ ?_ ?_ ?_) ?_
  · rfl
  · rfl
  · simp only [List.flatten_cons, List.flatten_nil, List.append_nil, List.length_append, List.length_cons, List.length_nil]; omega
  · simp
  rintro r bs' ⟨rfl, rfl⟩
  generalize adds true l2 [u.path] = l3 at e3 e4 ⊢
  simp only [vcS, ↓Xn, ↓Xo, ↓Xg, ↓Xd, ↓Xe, ↓Xf, XQ, XG, gvU, setR, orN, Yl, Xm, Yn, Yi, Xa, Ym, Xc, Xc.sizeIs, reS, Xj, Yb, mmS, Xq, dstS, srcS, XP, XN, XO, Yc, XA, Yg, Xy, XE, endV, gdst, Yk, XR, Yd, goR, XC, sBox, XU, XH, Xr, sNil, XL, Xt, XV, Xv, goD, valD, XI, XF, XB, dNil, XK, XD, dBox, dN, Xz, opL, idxs, pv, XX, Ya, XJ, Xb, Xu, oBin, oUn, Ye, XW, Xw, Xx, Xh, Xk, XY, XS, oLen, lenS, Yh, ev, lk, Vc.put, fits, kd, sz, Tryz.VΓ, Tryz.Γs, bin, binI, binS, ifK, ar, eqB, eqS, eqK, eqK.eqF, negB, bnds, optE, XM, Vc.cells, isV, Vc.one, Xs, getB, setB, XZ, Xp, Xi, Yf, Xl, XT, resS, tupS, ofV, Yj, Nat.reduceAdd, Nat.reduceSub, Nat.reduceLT, Nat.reduceLeDiff, reduceIte, reduceCtorEq, Nat.reduceEqDiff, implies_true, forall_const, lawV]
  refine ⟨by omega, ?_⟩
  refine callV_sc (sc_add (i := 1) (j := 5) (m := true) (l := l3) (parts := [[63], u.query]) ?_ ?_ ?_ ?_) ?_
  · rfl
  · rfl
  · simp only [List.flatten_cons, List.flatten_nil, List.append_nil, List.length_append, List.length_cons, List.length_nil]; omega
  · simp
  rintro r bs' ⟨rfl, rfl⟩
  generalize adds u.hasQuery l3 [[63], u.query] = l4 at e4 ⊢
  simp only [vcS, ↓Xn, ↓Xo, ↓Xg, ↓Xd, ↓Xe, ↓Xf, XQ, XG, gvU, setR, orN, Yl, Xm, Yn, Yi, Xa, Ym, Xc, Xc.sizeIs, reS, Xj, Yb, mmS, Xq, dstS, srcS, XP, XN, XO, Yc, XA, Yg, Xy, XE, endV, gdst, Yk, XR, Yd, goR, XC, sBox, XU, XH, Xr, sNil, XL, Xt, XV, Xv, goD, valD, XI, XF, XB, dNil, XK, XD, dBox, dN, Xz, opL, idxs, pv, XX, Ya, XJ, Xb, Xu, oBin, oUn, Ye, XW, Xw, Xx, Xh, Xk, XY, XS, oLen, lenS, Yh, ev, lk, Vc.put, fits, kd, sz, Tryz.VΓ, Tryz.Γs, bin, binI, binS, ifK, ar, eqB, eqS, eqK, eqK.eqF, negB, bnds, optE, XM, Vc.cells, isV, Vc.one, Xs, getB, setB, XZ, Xp, Xi, Yf, Xl, XT, resS, tupS, ofV, Yj, Nat.reduceAdd, Nat.reduceSub, Nat.reduceLT, Nat.reduceLeDiff, reduceIte, reduceCtorEq, Nat.reduceEqDiff, implies_true, forall_const, lawV]
  refine ⟨by omega, ?_⟩
  refine callV_sc (sc_add (i := 1) (j := 6) (m := true) (l := l4) (parts := [[35], u.fragment]) ?_ ?_ ?_ ?_) ?_
  · rfl
  · rfl
  · simp only [List.flatten_cons, List.flatten_nil, List.append_nil, List.length_append, List.length_cons, List.length_nil]; omega
  · simp
  rintro r bs' ⟨rfl, rfl⟩
  simp only [vcS, ↓Xn, ↓Xo, ↓Xg, ↓Xd, ↓Xe, ↓Xf, XQ, XG, gvU, setR, orN, Yl, Xm, Yn, Yi, Xa, Ym, Xc, Xc.sizeIs, reS, Xj, Yb, mmS, Xq, dstS, srcS, XP, XN, XO, Yc, XA, Yg, Xy, XE, endV, gdst, Yk, XR, Yd, goR, XC, sBox, XU, XH, Xr, sNil, XL, Xt, XV, Xv, goD, valD, XI, XF, XB, dNil, XK, XD, dBox, dN, Xz, opL, idxs, pv, XX, Ya, XJ, Xb, Xu, oBin, oUn, Ye, XW, Xw, Xx, Xh, Xk, XY, XS, oLen, lenS, Yh, ev, lk, Vc.put, fits, kd, sz, Tryz.VΓ, Tryz.Γs, bin, binI, binS, ifK, ar, eqB, eqS, eqK, eqK.eqF, negB, bnds, optE, XM, Vc.cells, isV, Vc.one, Xs, getB, setB, XZ, Xp, Xi, Yf, Xl, XT, resS, tupS, ofV, Yj, Nat.reduceAdd, Nat.reduceSub, Nat.reduceLT, Nat.reduceLeDiff, reduceIte, reduceCtorEq, Nat.reduceEqDiff, implies_true, forall_const, lawV]
  refine callV_sc (sc_String (i := 1) (l := adds u.hasFrag l4 [[35], u.fragment]) ?_) ?_
  · rfl
  rintro r bs' ⟨rfl, rfl⟩
  simp only [vcS, ↓Xn, ↓Xo, ↓Xg, ↓Xd, ↓Xe, ↓Xf, XQ, XG, gvU, setR, orN, Yl, Xm, Yn, Yi, Xa, Ym, Xc, Xc.sizeIs, reS, Xj, Yb, mmS, Xq, dstS, srcS, XP, XN, XO, Yc, XA, Yg, Xy, XE, endV, gdst, Yk, XR, Yd, goR, XC, sBox, XU, XH, Xr, sNil, XL, Xt, XV, Xv, goD, valD, XI, XF, XB, dNil, XK, XD, dBox, dN, Xz, opL, idxs, pv, XX, Ya, XJ, Xb, Xu, oBin, oUn, Ye, XW, Xw, Xx, Xh, Xk, XY, XS, oLen, lenS, Yh, ev, lk, Vc.put, fits, kd, sz, Tryz.VΓ, Tryz.Γs, bin, binI, binS, ifK, ar, eqB, eqS, eqK, eqK.eqF, negB, bnds, optE, XM, Vc.cells, isV, Vc.one, Xs, getB, setB, XZ, Xp, Xi, Yf, Xl, XT, resS, tupS, ofV, Yj, Nat.reduceAdd, Nat.reduceSub, Nat.reduceLT, Nat.reduceLeDiff, reduceIte, reduceCtorEq, Nat.reduceEqDiff, implies_true, forall_const, lawV]
end Go.Proofs.YtnpkjglcbolcbaaGreatDoor
