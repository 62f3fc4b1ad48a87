/- Builders: the contracts on their methods. -/
import Derived.Test.YtnncgbamppaacaaDoorVcB
import Derived.Test.YtnncgbamppaacaaDoorLib
set_option linter.all false
set_option maxRecDepth 20000
namespace Go.Proofs.YtnncgbamppaacaaDoor
open Go Vc Go.RowKit Wf
set_option linter.unusedSimpArgs false
theorem sc_copyCheck {bs : List Res} {i : Nat} {x y : SV} (hi : bs[i]? = some (.cells [x, y] 65 true)) (hx : x = .v (.pointer none) ∨ x = .p i 0) :
    SC Tryd.V 83 [.p i 0] bs (fun r bs' => r = .tup [] ∧ bs' = bs.set i (.cells [.p i 0, y] 65 true)) := by
  have hil : i < bs.length := (List.getElem?_eq_some_iff.1 hi).1
  refine sc_direct hi rfl Tryd.call83 rfl (fun β fp w hE hh => ?_)
  obtain ⟨h0, ⟨rest, fz, hd, rfl⟩, h3⟩ := hh β (Agr.refl _ _)
  have ea : (concL β [.p i 0]).toArray = #[.pointer (some ⟨(β i).blk, 0, none⟩)] := by simp [concL, conc, h0]
  rw [ea]
  have hc0 : w.cell? ⟨(β i).blk, 0, none⟩ = some (conc β x) := hd.lies 0 _ (by simp)
  rcases hx with rfl | rfl
  · have hsz := hd.1
    have hfz := hd.2
    refine (Any.Builder_copyCheck_fresh { Tryd.lay166 with } Tryd.extra166.toX72 (β i).blk w hc0 ?_ ?_).mono ?_
    · simp [World.shape?, hsz]
      rfl
    · simp [World.frozen?, hsz]
      simp at hfz
      omega
    · rintro e w' ⟨rfl, rfl⟩
      refine ⟨rfl, ?_, fp i, fun k hk => hk, fun β' hβ => ?_⟩
      · exact ⟨rfl, rfl, rfl, by simp [World.setCell], fun k _ hn => Below.heap_setCell _ _ _ _ (fun e => hn ((h3 k).2 e))⟩
      · have hb := hβ i hil
        obtain ⟨k0, ⟨rest, fz', hd', rfl⟩, k3⟩ := hh β' hβ
        refine ⟨k0, ⟨[], fz', ⟨?_, by simpa using hd'.2⟩, rfl⟩, k3⟩
        rw [hb, heap_set hd'.1]
        simp [conc, k0]
  · refine (Any.Builder_copyCheck_used { Tryd.lay166 with } Tryd.extra166.toX72 (β i).blk w ?_).mono ?_
    · rw [hc0]; simp [conc, h0]
    · rintro e w' ⟨rfl, rfl⟩
      exact ⟨rfl, FrW.refl _ _, fp i, fun k hk => hk, hh⟩
theorem w_WriteString {bs : List Res} {i j : Nat} {x : SV} {l s : Bytes} (hi : bs[i]? = some (.cells [x, .o j l.length] 65 true)) (hx : x = .v (.pointer none) ∨ x = .p i 0) (hj : bs[j]? = some (.own (l.map u8S) 5 1 l.length true)) (hij : i ≠ j) (hlen : l.length + s.length ≤ 140737488355328) :
    SC Tryd.V 52 [.p i 0, .str s] bs (fun r bs' => r = .tup [.int .i64 s.length, .v .nilIface] ∧ bs'[i]? = some (.cells [.p i 0, .o bs.length (l ++ s).length] 65 true) ∧ bs'[bs.length]? = some (.own ((l ++ s).map u8S) 5 1 (l ++ s).length true) ∧ ∀ k, k < bs.length → k ≠ i → k ≠ j → bs'[k]? = bs[k]?) := by
  have hil : i < bs.length := (List.getElem?_eq_some_iff.1 hi).1
  refine sc_of 3000 Tryd.func52 rfl Tryd.ntmps52 Tryd.results52 Tryd.call52 (by simp) (fun β β' hb => concL_within bs.length _ (by simp [within, within.withinL, hil]) β β' hb) ?_
  simp only [vcS, ↓Xn, ↓Xo, ↓Xg, ↓Xd, ↓Xe, ↓Xf, XQ, XG, gvU, setR, orN, Yl, Xm, Yn, Yi, Xa, Ym, Xc, Xc.sizeIs, reS, Xj, Yb, mmS, Xq, dstS, srcS, XP, XN, XO, Yc, XA, Yg, Xy, XE, endV, gdst, Yk, XR, Yd, goR, XC, sBox, XU, XH, Xr, sNil, XL, Xt, XV, Xv, goD, valD, XI, XF, XB, dNil, XK, XD, dBox, dN, Xz, opL, idxs, pv, XX, Ya, XJ, Xb, Xu, oBin, oUn, Ye, XW, Xw, Xx, Xh, Xk, XY, XS, oLen, lenS, Yh, ev, lk, Vc.put, fits, kd, sz, Tryd.VΓ, Tryd.Γs, bin, binI, binS, ifK, ar, eqB, eqS, eqK, eqK.eqF, negB, bnds, optE, XM, Vc.cells, isV, Vc.one, Xs, getB, setB, XZ, Xp, Xi, Yf, Xl, XT, resS, tupS, ofV, Yj, Nat.reduceAdd, Nat.reduceSub, Nat.reduceLT, Nat.reduceLeDiff, reduceIte, reduceCtorEq, Nat.reduceEqDiff, implies_true, forall_const, lawV]
  refine callV_sc (sc_copyCheck hi hx) ?_
  rintro r bs1 ⟨rfl, rfl⟩
  have h1 : (bs.set i (.cells [.p i 0, .o j l.length] 65 true))[i]? = some (.cells [.p i 0, .o j l.length] 65 true) := List.getElem?_set_self hil
  have h2 : (bs.set i (.cells [.p i 0, .o j l.length] 65 true))[j]? = some (.own (l.map u8S) 5 1 l.length true) := by rw [List.getElem?_set_ne hij]; exact hj
  have h3 : ∀ k, k ≠ i → (bs.set i (.cells [.p i 0, .o j l.length] 65 true))[k]? = bs[k]? := fun k hk => List.getElem?_set_ne (fun e => hk e.symm)
  have h4 : (bs.set i (.cells [.p i 0, .o j l.length] 65 true)).length = bs.length := List.length_set ..
  generalize bs.set i (.cells [.p i 0, .o j l.length] 65 true) = bs1 at h1 h2 h3 h4 ⊢
  have h5 : ∀ X, (bs1.set j .gone ++ [X])[i]? = some (.cells [.p i 0, .o j l.length] 65 true) := fun X => by
    rw [List.getElem?_append_left (by simp; omega), List.getElem?_set_ne (fun e => hij e.symm)]; exact h1
  simp only [vcS, ↓Xn, ↓Xo, ↓Xg, ↓Xd, ↓Xe, ↓Xf, XQ, XG, gvU, setR, orN, Yl, Xm, Yn, Yi, Xa, Ym, Xc, Xc.sizeIs, reS, Xj, Yb, mmS, Xq, dstS, srcS, XP, XN, XO, Yc, XA, Yg, Xy, XE, endV, gdst, Yk, XR, Yd, goR, XC, sBox, XU, XH, Xr, sNil, XL, Xt, XV, Xv, goD, valD, XI, XF, XB, dNil, XK, XD, dBox, dN, Xz, opL, idxs, pv, XX, Ya, XJ, Xb, Xu, oBin, oUn, Ye, XW, Xw, Xx, Xh, Xk, XY, XS, oLen, lenS, Yh, ev, lk, Vc.put, fits, kd, sz, Tryd.VΓ, Tryd.Γs, bin, binI, binS, ifK, ar, eqB, eqS, eqK, eqK.eqF, negB, bnds, optE, XM, Vc.cells, isV, Vc.one, Xs, getB, setB, XZ, Xp, Xi, Yf, Xl, XT, resS, tupS, ofV, Yj, Nat.reduceAdd, Nat.reduceSub, Nat.reduceLT, Nat.reduceLeDiff, reduceIte, reduceCtorEq, Nat.reduceEqDiff, implies_true, forall_const, lawV, h1, h2, h5]
  refine ⟨⟨one_u8 _, by unfold maxLen; omega, by omega⟩, ?_, ?_, fun k hk hki hkj => ?_⟩
  · rw [List.getElem?_set_self (by simp; omega), h4, List.length_append]
  · rw [List.getElem?_set_ne (by omega), List.getElem?_append_right (by simp; omega)]
    simp [h4]
  · rw [List.getElem?_set_ne (fun e => hki e.symm), List.getElem?_append_left (by simp; omega), List.getElem?_set_ne (fun e => hkj e.symm), h3 k hki]
theorem sc_WriteString {bs : List Res} {i : Nat} {l s : Bytes} (hi : bs[i]? = some (.ext (BldR 65 5 l))) (hlen : l.length + s.length ≤ 140737488355328) :
    SC Tryd.V 52 [.p i 0, .str s] bs (fun r bs' => r = .tup [.int .i64 s.length, .v .nilIface] ∧ bs' = bs.set i (.ext (BldR 65 5 (l ++ s)))) := by
  have hil : i < bs.length := (List.getElem?_eq_some_iff.1 hi).1
  refine sc_open (R' := fun r bs' => r = .tup [.int .i64 s.length, .v .nilIface] ∧ bs'[i]? = some (.cells [.p i 0, .o (bs.length + 1) (l ++ s).length] 65 true) ∧ bs'[bs.length + 1]? = some (.own ((l ++ s).map u8S) 5 1 (l ++ s).length true) ∧ ∀ k, k < bs.length → k ≠ i → bs'[k]? = bs[k]?) hi (fun x hx => (w_WriteString (j := bs.length) (l := l) (s := s) ?_ hx ?_ (by omega) hlen).mono ?_) ?_ (by simp [within, within.withinL, hil])
  · rw [List.getElem?_append_left (by simpa using hil), List.getElem?_set_self hil]
  · rw [List.getElem?_append_right (by simp)]; simp
  · rintro r bs' ⟨rfl, h1, h2, h3⟩
    simp only [List.length_append, List.length_set, List.length_cons, List.length_nil] at h1 h2 h3
    refine ⟨rfl, by simpa using h1, by simpa using h2, fun k hk hki => ?_⟩
    rw [h3 k (by omega) hki (by omega), List.getElem?_append_left (by simpa using hk), List.getElem?_set_ne (fun e => hki e.symm)]
  · rintro r bs' ⟨rfl, h1, h2, h3⟩
    exact ⟨.p i 0, bs.length + 1, l ++ s, rfl, .inr rfl, ⟨rfl, rfl⟩, h1, h2, by omega, h3⟩
theorem sc_Len {bs : List Res} {i : Nat} {l : Bytes} (hi : bs[i]? = some (.ext (BldR 65 5 l))) :
    SC Tryd.V 53 [.p i 0] bs (fun r bs' => r = .int .i64 l.length ∧ bs' = bs) := by
  have hil : i < bs.length := (List.getElem?_eq_some_iff.1 hi).1
  have key : SC Tryd.V 53 [.p i 0] bs (fun r bs' => r = .int .i64 l.length ∧ bs' = bs.set i (.ext (BldR 65 5 l))) := by
    refine sc_open (R' := fun r bs' => r = .int .i64 l.length ∧ ∃ x, (x = .v (.pointer none) ∨ x = .p i 0) ∧ bs' = bs.set i (.cells [x, .o bs.length l.length] 65 true) ++ [.own (l.map u8S) 5 1 l.length true]) hi (fun x hx => ?_) ?_ (by simp [within, within.withinL, hil])
    · have h1 : (bs.set i (.cells [x, .o bs.length l.length] 65 true) ++ [.own (l.map u8S) 5 1 l.length true])[i]? = some (.cells [x, .o bs.length l.length] 65 true) := by
        rw [List.getElem?_append_left (by simpa using hil), List.getElem?_set_self hil]
      refine (sc_of (V := Tryd.V) (R := fun r bs' => r = .int .i64 l.length ∧ bs' = bs.set i (.cells [x, .o bs.length l.length] 65 true) ++ [.own (l.map u8S) 5 1 l.length true]) 3000 Tryd.func53 rfl Tryd.ntmps53 Tryd.results53 Tryd.call53 (by simp) (fun β β' hb => concL_within _ _ (by simp [within, within.withinL]; omega) β β' hb) ?_).mono (fun r bs' h => ⟨h.1, x, hx, h.2⟩)
      simp only [vcS, ↓Xn, ↓Xo, ↓Xg, ↓Xd, ↓Xe, ↓Xf, XQ, XG, gvU, setR, orN, Yl, Xm, Yn, Yi, Xa, Ym, Xc, Xc.sizeIs, reS, Xj, Yb, mmS, Xq, dstS, srcS, XP, XN, XO, Yc, XA, Yg, Xy, XE, endV, gdst, Yk, XR, Yd, goR, XC, sBox, XU, XH, Xr, sNil, XL, Xt, XV, Xv, goD, valD, XI, XF, XB, dNil, XK, XD, dBox, dN, Xz, opL, idxs, pv, XX, Ya, XJ, Xb, Xu, oBin, oUn, Ye, XW, Xw, Xx, Xh, Xk, XY, XS, oLen, lenS, Yh, ev, lk, Vc.put, fits, kd, sz, Tryd.VΓ, Tryd.Γs, bin, binI, binS, ifK, ar, eqB, eqS, eqK, eqK.eqF, negB, bnds, optE, XM, Vc.cells, isV, Vc.one, Xs, getB, setB, XZ, Xp, Xi, Yf, Xl, XT, resS, tupS, ofV, Yj, Nat.reduceAdd, Nat.reduceSub, Nat.reduceLT, Nat.reduceLeDiff, reduceIte, reduceCtorEq, Nat.reduceEqDiff, implies_true, forall_const, lawV, h1]
    · rintro r bs' ⟨rfl, x, hx, rfl⟩
      refine ⟨x, bs.length, l, rfl, hx, ⟨rfl, rfl⟩, ?_, ?_, Nat.le_refl _, fun k hk hki => ?_⟩
      · rw [List.getElem?_append_left (by simpa using hil), List.getElem?_set_self hil]
      · rw [List.getElem?_append_right (by simp)]; simp
      · rw [List.getElem?_append_left (by simpa using hk), List.getElem?_set_ne (fun e => hki e.symm)]
  refine key.mono (fun r bs' ⟨h1, h2⟩ => ⟨h1, ?_⟩)
  rw [h2]
  apply List.ext_getElem?
  intro k
  by_cases hk : k = i
  · subst hk; rw [List.getElem?_set_self hil, hi]
  · rw [List.getElem?_set_ne (fun e => hk e.symm)]
set_option maxHeartbeats 4000000 in
set_option maxRecDepth 100000 in
theorem x_String {b : Nat} {p : Value} {t2 : Bt} {f2 : Nat → Prop} {l : Bytes} {w : World} {fz : Nat × Nat} (hd : Head w b 65 [p, oV t2 l.length] [] fz) (hr : Holds bt0 t2 f2 w (.own (l.map u8S) 5 1 l.length true)) :
    Calls Tryd.prog 54 #[.pointer (some ⟨b, 0, none⟩)] w fun e w' => e = .returned (Value.string ⟨List.toArray (l)⟩) ∧ FrW f2 w w' := by
  have mixed : Tryd.prog.follows .mixedOrders = true := by kernel_rfl
  have hb : w.heap[b]? = some (.cells #[p, oV t2 l.length] 65 fz) := by simpa using hd.1
  have hdr : FrW f2 w w.drew := ⟨rfl, rfl, rfl, Nat.le_refl _, fun _ _ _ => rfl⟩
  have hUN : ∀ (W : World) (q : Option Addr), (Builtin.unsafeString_ #[82, 3] 9 #[.pointer q, .int .i64 0]).run Tryd.prog W = .ok (.string .empty) W := fun W q => Lib.run_unsafeString_none W _ _ _ q
  have hcell : ∀ (W : World), W.heap[b]? = w.heap[b]? → W.cell? ⟨b, 1, none⟩ = some (oV t2 l.length) := fun W hW => by
    rw [Lib.cell_of_heap (hW.trans hb)]; rfl
  rcases hr with ⟨h1, h2, h3, h4⟩ | ⟨h1, h2, h3, h4, h5, h6, h7⟩
  · have hl : l = [] := by simpa using h3
    subst hl
    have hv : oV t2 ([] : Bytes).length = .slice none 0 0 := by simp [oV, h1]
    rw [hv] at hb hcell
    have c1 : w.drew.cell? ⟨b, 1, none⟩ = some (.slice none 0 0) := hcell _ rfl
    have hSD : (Builtin.unsafeSliceData_ #[63] 82 #[.slice none 0 0]).run Tryd.prog w.drew = .ok (.pointer none) w.drew := rfl
    go_enter Tryd.func54, Tryd.ntmps54
    go_wp2
    go_region_o
    all_goals (go_wp2; go_ret; exact ⟨rfl, hdr⟩)
  · obtain ⟨h8, rest, fr, h9, h10, h11⟩ := h6 rfl
    obtain ⟨blk, off, cap⟩ := t2
    simp only at h1 h2 h3 h8 h9 h11 h7
    subst h8
    obtain ⟨cap, rfl⟩ : ∃ c, cap = c + 1 := ⟨cap - 1, by omega⟩
    have hv : oV ⟨blk, 0, cap + 1⟩ l.length = .slice (some ⟨blk, 0, none⟩) l.length cap := by simp [oV]
    rw [hv] at hb hcell
    have hg : w.heap[blk]? = some (.cells ((l.map u8S).map (conc bt0) ++ rest).toArray 5 fr) := h9.1
    have hsz : ((l.map u8S).map (conc bt0) ++ rest).toArray.size = cap := by
      simp at h11 ⊢; omega
    by_cases hl : l = []
    · subst hl
      simp only [List.map_nil, List.nil_append, List.length_nil] at hb hcell hg hsz
      have c1 : w.drew.cell? ⟨b, 1, none⟩ = some (.slice (some ⟨blk, 0, none⟩) 0 cap) := hcell _ rfl
      by_cases hc : cap = 0
      · subst hc
        have hbl : b < w.heap.size := (Array.getElem?_eq_some_iff.1 hb).1
        have hSD : (Builtin.unsafeSliceData_ #[63] 82 #[.slice (some ⟨blk, 0, none⟩) 0 0]).run Tryd.prog w.drew = .ok (.pointer (some ⟨w.drew.heap.size, 0, none⟩)) (w.drew.alloc (.view ⟨blk, 0, none⟩ 5)) :=
          Lib.run_unsafeSliceData_zero w.drew _ _ 5 Tryd.underlying82 ⟨blk, 0, none⟩ 0 (5, rest.toArray.size) (by have hg' : w.drew.heap[blk]? = _ := hg; simp [World.shape?, hg'])
        have c2 : (w.drew.alloc (.view ⟨blk, 0, none⟩ 5)).cell? ⟨b, 1, none⟩ = some (.slice (some ⟨blk, 0, none⟩) 0 0) := hcell _ (Lib.alloc_old w.drew _ b hbl)
        have c3 : (w.alloc (.view ⟨blk, 0, none⟩ 5)).drew.cell? ⟨b, 1, none⟩ = some (.slice (some ⟨blk, 0, none⟩) 0 0) := c2
        have c0 : w.cell? ⟨b, 1, none⟩ = some (.slice (some ⟨blk, 0, none⟩) 0 0) := c1
        have hfin : FrW f2 w (w.drew.alloc (.view ⟨blk, 0, none⟩ 5)) := ⟨rfl, rfl, rfl, by simp, fun k hk _ => Lib.alloc_old w.drew _ k hk⟩
        go_enter Tryd.func54, Tryd.ntmps54
        go_wp2
        go_region_o
        all_goals (go_wp2; go_ret; exact ⟨rfl, hfin⟩)
      · have hSD : (Builtin.unsafeSliceData_ #[63] 82 #[.slice (some ⟨blk, 0, none⟩) 0 cap]).run Tryd.prog w.drew = .ok (.pointer (some ⟨blk, 0, none⟩)) w.drew :=
          Lib.run_unsafeSliceData_row _ _ _ _ _ _ hc
        clear hc
        go_enter Tryd.func54, Tryd.ntmps54
        go_wp2
        go_region_o
        all_goals (go_wp2; go_ret; exact ⟨rfl, hdr⟩)
    · have hl0 : l.length ≠ 0 := by simpa using hl
      have c1 : w.drew.cell? ⟨b, 1, none⟩ = some (.slice (some ⟨blk, 0, none⟩) l.length cap) := hcell _ rfl
      have hSD : (Builtin.unsafeSliceData_ #[63] 82 #[.slice (some ⟨blk, 0, none⟩) l.length cap]).run Tryd.prog w.drew = .ok (.pointer (some ⟨blk, 0, none⟩)) w.drew :=
        Lib.run_unsafeSliceData_row _ _ _ _ _ _ (by omega)
      have hUS : (Builtin.unsafeString_ #[82, 3] 9 #[.pointer (some ⟨blk, 0, none⟩), .int .i64 l.length]).run Tryd.prog w.drew = .ok (Value.string ⟨List.toArray (l)⟩) (w.drew.freeze ⟨blk, 0, none⟩ l.length) := by
        refine Lib.run_unsafeString_row w.drew 82 3 9 5 Tryd.underlying82 Tryd.extra166.cellsByte blk cap (by have hg' : w.drew.heap[blk]? = _ := hg; simp only [World.shape?, hg']; simp only [hsz]) l hl (by omega) (by unfold maxLen at h3; omega) ?_
        intro j x hx
        have := h5 j (conc bt0 (u8S x)) (by simp [hx])
        rw [addr_plus]
        simpa [u8S, conc] using this
      have hfin : FrW f2 w (w.drew.freeze ⟨blk, 0, none⟩ l.length) := by
        unfold World.freeze
        split
        · exact hdr
        · refine ⟨rfl, rfl, rfl, by simp, fun k hk hn => ?_⟩
          have hne : k ≠ blk := fun e => hn ((h7 k).2 e)
          simp only [Array.getElem?_modify]
          rw [if_neg (fun e => hne e.symm)]
          rfl
      go_enter Tryd.func54, Tryd.ntmps54
      go_wp2
      go_region_o
      all_goals (go_wp2; go_ret; exact ⟨rfl, hfin⟩)
theorem sc_String {bs : List Res} {i : Nat} {l : Bytes} (hi : bs[i]? = some (.ext (BldR 65 5 l))) :
    SC Tryd.V 54 [.p i 0] bs (fun r bs' => r = .str l ∧ bs' = bs.set i .gone) := by
  refine sc_direct hi rfl Tryd.call54 rfl (fun β fp w hE hh => ?_)
  obtain ⟨h0, p, t2, f2, hp, ⟨fz, hd⟩, h3, h4, h5⟩ := hh β (Agr.refl _ _)
  have ea : (concL β [.p i 0]).toArray = #[.pointer (some ⟨(β i).blk, 0, none⟩)] := by simp [concL, conc, h0]
  rw [ea]
  refine (x_String hd h3).mono ?_
  rintro e w' ⟨rfl, hf⟩
  exact ⟨rfl, hf.mono (fun k hk => (h5 k).2 (.inr hk)), fun _ => False, fun _ h => h.elim, fun _ _ _ h => h⟩
end Go.Proofs.YtnncgbamppaacaaDoor
