/- The walk of the law on chunks in pieces. -/
import Derived.Test.YtjponbpdlioocaaLaw19
import Derived.Test.YtjponbpdlioocaaPieceP
import Derived.Test.YtjponbpdlioocaaKeepS
set_option linter.all false
set_option maxRecDepth 20000
namespace Go.Proofs.Ytjponbpdlioocaa
open Go Vc Go.RowKit Wf
set_option linter.unusedSimpArgs false
theorem p_body_Chunked (s : Bytes) (most : Int) (hs : s.length ≤ 4000000) (h1 : -9223372036854775808 ≤ most) (h2 : most ≤ 9223372036854775807) : PC Try.V 7 [.str s, .int .i64 most] (.tup [.str (chunked s most).1, .int .i64 (chunked s most).2]) :=
  ⟨Try.call7, by simp [flat, flat.flatL], by simp [flat, flat.flatL], fun w _ => (body_Chunked s most w hs h1 h2).mono fun _ _ ⟨h, k⟩ => ⟨by rw [h]; simp [conc, concL], k⟩⟩
theorem p_body_Encode (s : Bytes) (size : Int) (hs : s.length ≤ 1000000) (h1 : -9223372036854775808 ≤ size) (h2 : size ≤ 9223372036854775807) : PC Try.V 8 [.str s, .int .i64 size] (.str (encode size s)) :=
  ⟨Try.call8, by simp [flat, flat.flatL], by simp [flat, flat.flatL], fun w _ => (body_Encode s size w hs h1 h2).mono fun _ _ ⟨h, k⟩ => ⟨by rw [h]; simp [conc, concL], k⟩⟩
theorem p_law19_sane : PC Try.V 4 [] (.bool true) :=
  ⟨Try.call4, by simp [flat, flat.flatL], by simp [flat, flat.flatL], fun w _ => (law19_sane w).mono fun _ _ ⟨h, k⟩ => ⟨by rw [h]; simp [conc, concL], k⟩⟩
set_option maxHeartbeats 2000000 in
theorem p_law19_size (n : Nat) (hn : n < 256) : PC Try.V 6 [.int .i64 n] (.str (pieceSize n)) := by
  refine pc_of 3000 Try.func6 rfl Try.ntmps6 Try.results6 Try.call6 (by simp) (by simp [flat, flat.flatL]) (by simp [flat, flat.flatL]) ?_
  simp only [lawG, ↓Xn, ↓Xo, ↓Xg, ↓Xd, ↓Xe, ↓Xf, Try.VΓ, Try.Γs, Xp, Xi, Nat.reduceAdd, Nat.reduceSub, Nat.reduceLT, Nat.reduceLeDiff, reduceIte, reduceCtorEq, Nat.reduceEqDiff, implies_true, forall_const, lawV, beq_self_eq_true, bne_self_eq_false, Int.reduceBEq, Int.reduceBNe, Int.reduceLT, Int.reduceLE]
  have key : ∀ n : Nat, n < 256 → (decide (divI .rem .i64 (divI .quo .i64 n 16) 16 = ((n / 16 % 16 : Nat) : Int)) && decide (divI .rem .i64 (n : Int) 16 = ((n % 16 : Nat) : Int))) = true := by decide +kernel
  have k := key n hn
  rw [Bool.and_eq_true, decide_eq_true_eq, decide_eq_true_eq] at k
  rw [k.1, k.2]
  have hu : ∀ c : UInt8, isU8 (.int .u8 c.toNat) = true := fun c => by have := c.toNat_lt; simp [isU8]; omega
  refine ⟨by decide, by decide, ⟨by omega, by omega⟩, by decide, ⟨by omega, by omega⟩, by decide, by rw [hu, hu]; rfl, (OkD_fast (by kernel_rfl)), ?_⟩
  simp only [Int.toNat_natCast]
  simp [unU8, pieceSize, digC]
set_option maxRecDepth 20000 in
set_option maxHeartbeats 4000000 in
theorem s_BodyPieces (L : List Bytes) (e t : Bool) (hn : L.length ≤ 9223372036854775807) : SC Try.V 3 [.o 0 L.length, .bool e, .bool t] [.own (L.flatMap sc1) 9 1 L.length false] (fun r _ => r = .bool true) := by
  rw [sc1_map]
  refine sc_of 3000 Try.func3 rfl Try.ntmps3 Try.results3 Try.call3 (by simp) (fun β β' hb => concL_within 1 _ (by simp [within, within.withinL]) β β' hb) ?_
  simp only [lawG, ↓Xn, ↓Xo, ↓Xg, ↓Xd, ↓Xe, ↓Xf, Try.VΓ, Try.Γs, Xp, Xi, Nat.reduceAdd, Nat.reduceSub, Nat.reduceLT, Nat.reduceLeDiff, reduceIte, reduceCtorEq, Nat.reduceEqDiff, implies_true, forall_const, lawV, beq_self_eq_true, bne_self_eq_false, Int.reduceBEq, Int.reduceBNe, Int.reduceLT, Int.reduceLE]
  (refine callV_pc (p_law19_sane) ?_; simp only [lawG, ↓Xn, ↓Xo, ↓Xg, ↓Xd, ↓Xe, ↓Xf, Try.VΓ, Try.Γs, Xp, Xi, Nat.reduceAdd, Nat.reduceSub, Nat.reduceLT, Nat.reduceLeDiff, reduceIte, reduceCtorEq, Nat.reduceEqDiff, implies_true, forall_const, lawV, beq_self_eq_true, bne_self_eq_false, Int.reduceBEq, Int.reduceBNe, Int.reduceLT, Int.reduceLE])
  refine callV_sc (sc_forget rfl (sc_keep_Strings (j := 0) rfl hn 12 60)) ?_
  rintro r b ⟨rfl, rfl⟩
  simp only [lawG, ↓Xn, ↓Xo, ↓Xg, ↓Xd, ↓Xe, ↓Xf, Try.VΓ, Try.Γs, Xp, Xi, Nat.reduceAdd, Nat.reduceSub, Nat.reduceLT, Nat.reduceLeDiff, reduceIte, reduceCtorEq, Nat.reduceEqDiff, implies_true, forall_const, lawV, beq_self_eq_true, bne_self_eq_false, Int.reduceBEq, Int.reduceBNe, Int.reduceLT, Int.reduceLE]
  intro hs
  have hs := of_decide_eq_true (by simpa only [Bool.not_eq_false'] using hs)
  have hj : ([.own (L.map SV.str) 9 1 L.length false] : List Res)[0]? = some (.own (L.map SV.str) 9 1 L.length false) := rfl
  generalize ([.own (L.map SV.str) 9 1 L.length false] : List Res) = bs at hj
  refine loopV_mk (fun σ => ∃ q : Nat, q ≤ L.length ∧ lk 1 σ.t = some (.bool e) ∧ lk 2 σ.t = some (.bool t) ∧ lk 7 σ.t = some (.str (piecesS e (L.take q))) ∧ lk 8 σ.t = some (.str (L.take q).flatten) ∧ lk 20 σ.t = some (.o 0 L.length) ∧ lk 21 σ.t = some (.int .i64 L.length) ∧ lk 22 σ.t = some (.int .i64 q) ∧ σ.b = bs) (fun σ => L.length - lkI 22 σ) ⟨0, by omega, rfl, rfl, rfl, rfl, rfl, rfl, rfl, rfl⟩ ?_
  rintro ⟨tt, b⟩ ⟨q, hq, h1, h2, h7, h8, h20, h21, h22, hb⟩
  simp only at h1 h2 h7 h8 h20 h21 h22 hb
  subst hb
  rw [lkI_eq h22]
  have hln := hs.1
  have hq2 : (L.take q).length ≤ 12 := by rw [List.length_take]; omega
  have hmem : ∀ x ∈ L.take q, x.length ≤ 60 := fun x hx => by have := hs.2 x (List.mem_of_mem_take hx); omega
  have hf1 := flatten_le (L.take q) 12 60 hq2 hmem
  have hf2 := pieces_size e (L.take q) hmem
  by_cases hlt : q < L.length
  · have hu := sc1_at L q hlt
    have hx := hs.2 _ (List.getElem_mem hlt)
    have hp := p_law19_size L[q].length (by omega)
    have ht := List.take_succ_eq_append_getElem hlt
    generalize L[q] = x at hu hx hp ht
    have hlt2 : decide ((q : Int) < L.length) = true := decide_eq_true (by omega)
    have hps := pieces_snoc e (L.take q) x
    have hfs : (L.take q ++ [x]).flatten = (L.take q).flatten ++ x := by simp
    rw [← ht] at hps hfs
    simp only [lawG, ↓Xn, ↓Xo, ↓Xg, ↓Xd, ↓Xe, ↓Xf, Try.VΓ, Try.Γs, Xp, Xi, Nat.reduceAdd, Nat.reduceSub, Nat.reduceLT, Nat.reduceLeDiff, reduceIte, reduceCtorEq, Nat.reduceEqDiff, implies_true, forall_const, lawV, h1, h2, h7, h8, h20, h21, h22, hj, hu, hlt2, lawB, Int.toNat_natCast, List.length_map]
    refine ⟨⟨by omega, by omega⟩, by omega, fun hxe => ⟨⟨by omega, by omega⟩, ⟨q + 1, by omega, ?_, ?_, rfl⟩, ?_⟩, fun hxe => ?_⟩
    · have hxe := beq_iff_eq.1 hxe
      rw [hps, if_pos hxe, List.append_nil]
    · have hxe := beq_iff_eq.1 hxe
      rw [hfs, hxe, List.append_nil]
    · rw [lkI_eq (k := .i64) (n := (q : Int) + 1) rfl]; omega
    have hxn : x ≠ [] := fun h => by rw [h] at hxe; cases hxe
    rw [if_neg hxn] at hps
    cases e
    · (refine callV_pc (hp) ?_; simp only [lawG, ↓Xn, ↓Xo, ↓Xg, ↓Xd, ↓Xe, ↓Xf, Try.VΓ, Try.Γs, Xp, Xi, Nat.reduceAdd, Nat.reduceSub, Nat.reduceLT, Nat.reduceLeDiff, reduceIte, reduceCtorEq, Nat.reduceEqDiff, implies_true, forall_const, lawV, h1, h2, h7, h8, h20, h21, h22, hj])
      have hsz : (pieceSize x.length).length = 3 := rfl
      have e1 : piecesS false (L.take q) ++ pieceSize x.length ++ [13, 10] ++ x ++ [13, 10] = piecesS false (L.take (q + 1)) := by rw [hps]; simp [piece, pieceExt]
      refine ⟨by omega, by simp only [List.length_append]; omega, by simp only [List.length_append, List.length_cons, List.length_nil]; omega, by simp only [List.length_append, List.length_cons, List.length_nil]; omega, by omega, ⟨by omega, by omega⟩, ⟨q + 1, by omega, by rw [e1], by rw [hfs], rfl⟩, ?_⟩
      rw [lkI_eq (k := .i64) (n := (q : Int) + 1) rfl]; omega
    · (refine callV_pc (hp) ?_; simp only [lawG, ↓Xn, ↓Xo, ↓Xg, ↓Xd, ↓Xe, ↓Xf, Try.VΓ, Try.Γs, Xp, Xi, Nat.reduceAdd, Nat.reduceSub, Nat.reduceLT, Nat.reduceLeDiff, reduceIte, reduceCtorEq, Nat.reduceEqDiff, implies_true, forall_const, lawV, h1, h2, h7, h8, h20, h21, h22, hj])
      have hsz : (pieceSize x.length).length = 3 := rfl
      have e1 : piecesS true (L.take q) ++ pieceSize x.length ++ [59, 97, 61, 34, 98, 34] ++ [13, 10] ++ x ++ [13, 10] = piecesS true (L.take (q + 1)) := by rw [hps]; simp [piece, pieceExt]
      refine ⟨by omega, by simp only [List.length_append]; omega, by simp only [List.length_append, List.length_cons, List.length_nil]; omega, by simp only [List.length_append, List.length_cons, List.length_nil]; omega, by simp only [List.length_append, List.length_cons, List.length_nil]; omega, by omega, ⟨by omega, by omega⟩, ⟨q + 1, by omega, by rw [e1], by rw [hfs], rfl⟩, ?_⟩
      rw [lkI_eq (k := .i64) (n := (q : Int) + 1) rfl]; omega
  · have hie : q = L.length := by omega
    subst hie
    rw [List.take_length] at h7 h8 hf1 hf2
    have hlt2 : decide ((L.length : Int) < L.length) = false := by simp
    have hpc := pieces_chunked e t L (fun x hx => by have := hs.2 x hx; omega) (by omega)
    have hec := chunked_encode 7 L.flatten [] 1000 (by omega)
    rw [List.append_nil, if_neg (by omega)] at hec
    have hel := encode_length 7 _ L.flatten (Nat.le_refl _)
    have p2 := p_body_Encode L.flatten 7 (by omega) (by omega) (by omega)
    cases t
    · simp only [lawG, ↓Xn, ↓Xo, ↓Xg, ↓Xd, ↓Xe, ↓Xf, Try.VΓ, Try.Γs, Xp, Xi, Nat.reduceAdd, Nat.reduceSub, Nat.reduceLT, Nat.reduceLeDiff, reduceIte, reduceCtorEq, Nat.reduceEqDiff, implies_true, forall_const, lawV, h1, h2, h7, h8, h20, h21, h22, hj, hlt2]
      have ee : piecesS e L ++ [48, 48, 48, 13, 10] ++ [13, 10, 109, 111, 114, 101] = piecesS e L ++ pieceTail false ++ moreS := by simp [pieceTail, moreS]
      refine ⟨by omega, by simp only [List.length_append, List.length_cons, List.length_nil]; omega, ?_⟩
      rw [ee]
      have p1 := p_body_Chunked (piecesS e L ++ pieceTail false ++ moreS) 1000 (by simp only [List.length_append, pieceTail, moreS, if_true, Bool.false_eq_true, if_false, List.length_cons, List.length_nil]; omega) (by omega) (by omega)
      rw [hpc] at p1
      (refine callV_pc (p1) ?_; simp only [lawG, ↓Xn, ↓Xo, ↓Xg, ↓Xd, ↓Xe, ↓Xf, Try.VΓ, Try.Γs, Xp, Xi, Nat.reduceAdd, Nat.reduceSub, Nat.reduceLT, Nat.reduceLeDiff, reduceIte, reduceCtorEq, Nat.reduceEqDiff, implies_true, forall_const, lawV, h8, beq_self_eq_true, bne_self_eq_false, Int.reduceBEq, Int.reduceBNe, Int.reduceLT, Int.reduceLE])
      (refine callV_pc (p2) ?_; simp only [lawG, ↓Xn, ↓Xo, ↓Xg, ↓Xd, ↓Xe, ↓Xf, Try.VΓ, Try.Γs, Xp, Xi, Nat.reduceAdd, Nat.reduceSub, Nat.reduceLT, Nat.reduceLeDiff, reduceIte, reduceCtorEq, Nat.reduceEqDiff, implies_true, forall_const, lawV, h8, beq_self_eq_true, bne_self_eq_false, Int.reduceBEq, Int.reduceBNe, Int.reduceLT, Int.reduceLE])
      have p3 := p_body_Chunked (encode 7 L.flatten) 1000 (by omega) (by omega) (by omega)
      rw [hec] at p3
      (refine callV_pc (p3) ?_; simp only [lawG, ↓Xn, ↓Xo, ↓Xg, ↓Xd, ↓Xe, ↓Xf, Try.VΓ, Try.Γs, Xp, Xi, Nat.reduceAdd, Nat.reduceSub, Nat.reduceLT, Nat.reduceLeDiff, reduceIte, reduceCtorEq, Nat.reduceEqDiff, implies_true, forall_const, lawV, h8, beq_self_eq_true, bne_self_eq_false, Int.reduceBEq, Int.reduceBNe, Int.reduceLT, Int.reduceLE])
      done
    · simp only [lawG, ↓Xn, ↓Xo, ↓Xg, ↓Xd, ↓Xe, ↓Xf, Try.VΓ, Try.Γs, Xp, Xi, Nat.reduceAdd, Nat.reduceSub, Nat.reduceLT, Nat.reduceLeDiff, reduceIte, reduceCtorEq, Nat.reduceEqDiff, implies_true, forall_const, lawV, h1, h2, h7, h8, h20, h21, h22, hj, hlt2]
      have ee : piecesS e L ++ [48, 48, 48, 13, 10] ++ [88, 58, 32, 121, 13, 10, 122, 13, 10] ++ [13, 10, 109, 111, 114, 101] = piecesS e L ++ pieceTail true ++ moreS := by simp [pieceTail, moreS]
      refine ⟨by omega, by simp only [List.length_append, List.length_cons, List.length_nil]; omega, by simp only [List.length_append, List.length_cons, List.length_nil]; omega, ?_⟩
      rw [ee]
      have p1 := p_body_Chunked (piecesS e L ++ pieceTail true ++ moreS) 1000 (by simp only [List.length_append, pieceTail, moreS, if_true, Bool.false_eq_true, if_false, List.length_cons, List.length_nil]; omega) (by omega) (by omega)
      rw [hpc] at p1
      (refine callV_pc (p1) ?_; simp only [lawG, ↓Xn, ↓Xo, ↓Xg, ↓Xd, ↓Xe, ↓Xf, Try.VΓ, Try.Γs, Xp, Xi, Nat.reduceAdd, Nat.reduceSub, Nat.reduceLT, Nat.reduceLeDiff, reduceIte, reduceCtorEq, Nat.reduceEqDiff, implies_true, forall_const, lawV, h8, beq_self_eq_true, bne_self_eq_false, Int.reduceBEq, Int.reduceBNe, Int.reduceLT, Int.reduceLE])
      (refine callV_pc (p2) ?_; simp only [lawG, ↓Xn, ↓Xo, ↓Xg, ↓Xd, ↓Xe, ↓Xf, Try.VΓ, Try.Γs, Xp, Xi, Nat.reduceAdd, Nat.reduceSub, Nat.reduceLT, Nat.reduceLeDiff, reduceIte, reduceCtorEq, Nat.reduceEqDiff, implies_true, forall_const, lawV, h8, beq_self_eq_true, bne_self_eq_false, Int.reduceBEq, Int.reduceBNe, Int.reduceLT, Int.reduceLE])
      have p3 := p_body_Chunked (encode 7 L.flatten) 1000 (by omega) (by omega) (by omega)
      rw [hec] at p3
      (refine callV_pc (p3) ?_; simp only [lawG, ↓Xn, ↓Xo, ↓Xg, ↓Xd, ↓Xe, ↓Xf, Try.VΓ, Try.Γs, Xp, Xi, Nat.reduceAdd, Nat.reduceSub, Nat.reduceLT, Nat.reduceLeDiff, reduceIte, reduceCtorEq, Nat.reduceEqDiff, implies_true, forall_const, lawV, h8, beq_self_eq_true, bne_self_eq_false, Int.reduceBEq, Int.reduceBNe, Int.reduceLT, Int.reduceLE])
      done
end Go.Proofs.Ytjponbpdlioocaa
