/- Texts of this claim, laid together: Law26h. -/
import Derived.Test.YtfmafmgbfamaiaaGreatDoorM5
/- The law on hops. -/
set_option linter.all false
set_option maxRecDepth 20000
namespace Go.Proofs.YtfmafmgbfamaiaaGreatDoor
open Go Vc Go.RowKit Wf
set_option linter.unusedSimpArgs false
def sc8 (c : Int) : List SV := [.int .u8 c]
theorem sc8_at (L : List Int) (k : Nat) (h : k < L.length) : (L.flatMap sc8)[k]? = some (.int .u8 L[k]) := by
  induction L generalizing k with
  | nil => simp at h
  | cons a L ih =>
    rw [List.flatMap_cons]
    cases k with
    | zero => rfl
    | succ k => simpa [sc8] using ih k (by simpa using h)
def hopH (L : List Int) (i : Nat) : Bytes := if h : i < L.length then 104 :: (97 + (L[i] % 3).toNat).toUInt8 :: exS else 104 :: exS
theorem hopH_mem (L : List Int) (i : Nat) : hopH L i ∈ chainHosts := by
  unfold hopH
  split
  · rename_i h
    have h1 : (L[i] % 3).toNat < 3 := by omega
    generalize (L[i] % 3).toNat = d at h1
    obtain rfl | rfl | rfl : d = 0 ∨ d = 1 ∨ d = 2 := by omega
    · simp [chainHosts, exS]
    · simp [chainHosts, exS]
    · simp [chainHosts, exS]
  · simp [chainHosts]
theorem chain_fair {h : Bytes} (hh : h ∈ chainHosts) (i : Nat) : Fair (chainUrl h i) := by
  have : ∀ h ∈ chainHosts, h.length ≤ 20 := by decide
  have := this h hh
  exact ⟨by simp [chainUrl]; omega, by simp [chainUrl]⟩
theorem pre_same (H : Nat → Bytes) (ST p : Nat) : (List.range p).map (chainRow H ST p) = (List.range p).map (chainRow H ST (p + 1)) := by
  refine List.map_congr_left (fun i hi => ?_)
  have hi := List.mem_range.1 hi
  unfold chainRow
  rw [if_pos hi, if_pos (by omega)]
theorem rows_set (H : Nat → Bytes) (ST p : Nat) : (((List.range (p + 1)).map (chainRow H ST p)).flatMap ac).take (p * 7 + 3) ++ [SV.str (rawOf ST [(locS, urlText (chainUrl (H (p + 1)) (p + 1)))] [] false)] ++ (((List.range (p + 1)).map (chainRow H ST p)).flatMap ac).drop (p * 7 + 3 + 1) = ((List.range (p + 1)).map (chainRow H ST (p + 1))).flatMap ac := by
  rw [List.range_succ, List.map_append, List.map_append, List.flatMap_append, List.flatMap_append, pre_same]
  have hl : (((List.range p).map (chainRow H ST (p + 1))).flatMap ac).length = p * 7 := by rw [ac_len]; simp
  rw [List.take_append, List.drop_append, hl, List.take_of_length_le (by omega), List.drop_of_length_le (by omega), show p * 7 + 3 - p * 7 = 3 by omega, show p * 7 + 3 + 1 - p * 7 = 4 by omega, List.nil_append, List.append_assoc, List.append_assoc]
  congr 1
  simp only [List.map_cons, List.map_nil, List.flatMap_cons, List.flatMap_nil, List.append_nil]
  unfold chainRow
  rw [if_neg (by omega), if_pos (by omega)]
  rfl
theorem rows_next (H : Nat → Bytes) (ST p : Nat) : ((List.range (p + 1 + 1)).map (chainRow H ST (p + 1))).flatMap ac = ((List.range (p + 1)).map (chainRow H ST (p + 1))).flatMap ac ++ [.str (H (p + 1)), .int .i64 0, .str [47, (97 + (p + 1)).toUInt8], .str (rawOf 200 [] [101, 110, 100] false), .int .i64 0, .int .u64 0, .int .u64 0] := by
  rw [List.range_succ (n := p + 1), List.map_append, List.flatMap_append]
  congr 1
  simp only [List.map_cons, List.map_nil, List.flatMap_cons, List.flatMap_nil, List.append_nil]
  unfold chainRow
  rw [if_neg (by omega)]
  rfl
set_option maxHeartbeats 8000000 in
theorem s_FetchHops (n : Int) (L : List Int) (st : Int) (hn : 0 ≤ n ∧ n ≤ 255) (hs : 0 ≤ st ∧ st ≤ 255) (hL : L.length ≤ 9223372036854775807) (hq : ∀ r ∈ L, (Lit.int .u8 r).wf = true) :
    SC Tryz.V 3 [.int .u8 n, .o 0 L.length, .int .u8 st] [.own (L.flatMap sc8) 5 1 L.length false] (fun r _ => r = .bool true) := by
  have p0 := fun bs => sc_forget (by simp [flat]) (sc_law26_sane (bs := bs))
  refine sc_of 3000 Tryz.func3 rfl Tryz.ntmps3 Tryz.results3 Tryz.call3 (by simp) (fun β β' hb => concL_within 1 _ (by simp [within, within.withinL]) β β' hb) ?_
  simp only [lawG, ↓Xn, ↓Xo, ↓Xg, ↓Xd, ↓Xe, ↓Xf, Tryz.VΓ, Tryz.Γs, Xp, Xi, Nat.reduceAdd, Nat.reduceSub, Nat.reduceLT, Nat.reduceLeDiff, reduceIte, reduceCtorEq, Nat.reduceEqDiff, implies_true, forall_const, lawV, lawB, beq_self_eq_true, bne_self_eq_false, Int.reduceBEq, Int.reduceBNe, Int.reduceLT, Int.reduceLE]
  refine callV_sc (p0 _) ?_
  rintro r b ⟨rfl, rfl⟩
  simp only [lawG, ↓Xn, ↓Xo, ↓Xg, ↓Xd, ↓Xe, ↓Xf, Tryz.VΓ, Tryz.Γs, Xp, Xi, Nat.reduceAdd, Nat.reduceSub, Nat.reduceLT, Nat.reduceLeDiff, reduceIte, reduceCtorEq, Nat.reduceEqDiff, implies_true, forall_const, lawV, lawB, beq_self_eq_true, bne_self_eq_false, Int.reduceBEq, Int.reduceBNe, Int.reduceLT, Int.reduceLE, Bool.not_true]
  obtain ⟨k, hk, hk8⟩ : ∃ k : Nat, IntKind.i64.wrap (divI .rem .u8 n 9) = (k : Int) ∧ k ≤ 8 := by
    refine ⟨(n % 9).toNat, ?_, by omega⟩
    have h : divI .rem .u8 n 9 = n % 9 := Int.tmod_eq_emod_of_nonneg hn.1
    rw [h]
    simp [IntKind.wrap, IntKind.bits, IntKind.signed]
    omega
  rw [hk]
  refine ⟨by decide, ?_⟩
  obtain ⟨ST, hST⟩ : ∃ S : Nat, S = [301, 302, 303, 307, 308].getD (st % 5).toNat 0 := ⟨_, rfl⟩
  have hST5 : (st % 5).toNat < 5 := by omega
  generalize hs5 : (st % 5).toNat = s5 at hST hST5
  have hSTf : 100 ≤ ST ∧ ST < 600 ∧ redirSt ST = true := by
    obtain rfl | rfl | rfl | rfl | rfl : s5 = 0 ∨ s5 = 1 ∨ s5 = 2 ∨ s5 = 3 ∨ s5 = 4 := by omega
    all_goals (subst hST; decide)
  refine loopV_mk (fun σ => ∃ (m : Nat) (x : SV), m ≤ k + 1 ∧ lk 1 σ.t = some (.o 0 L.length) ∧ lk 2 σ.t = some (.int .u8 st) ∧ lk 7 σ.t = some (.int .i64 k) ∧ lk 8 σ.t = some x ∧ lk 9 σ.t = some (.p 1 0) ∧ lk 10 σ.t = some (.int .i64 m) ∧
    σ.b[0]? = some (.own (L.flatMap sc8) 5 1 L.length false) ∧ σ.b[1]? = some (.cells (uc (if m = 0 then Url.none else chainUrl (hopH L 0) 0)) 26 true) ∧
    Sl1 35 7 2 x σ.b (((List.range m).map (chainRow (hopH L) ST (m - 1))).flatMap ac) m) (fun σ => k + 1 - lkI 10 σ)
    ⟨0, .nils, by omega, rfl, rfl, rfl, rfl, rfl, rfl, rfl, rfl, .inl ⟨rfl, rfl, rfl⟩⟩ ?_
  rintro ⟨t, b⟩ ⟨m, x, hm, h1, h2, h7, h8, h9, h10, b0, b1, hsl⟩
  simp only at h1 h2 h7 h8 h9 h10 b0 b1 hsl
  rw [lkI_eq h10]
  by_cases hlt : m ≤ k
  · have hlt2 : decide ((m : Int) ≤ k) = true := decide_eq_true (by omega)
    have key : ∀ m : Nat, m < 9 → IntKind.u8.wrap (97 + (m : Int)) = (((97 + m).toUInt8).toNat : Int) := by decide +kernel
    have hkey := key m (by omega)
    generalize hc : (97 + m).toUInt8 = c at hkey
    have hu : isU8 (.int .u8 c.toNat) = true := by have := c.toNat_lt; simp [isU8]; omega
    have hv : unU8 (.int .u8 c.toNat) = c := by simp [unU8]
    have hbl : 1 < b.length := (List.getElem?_eq_some_iff.1 b1).1
    have c0 := fun X => at_old b0 [X]
    have d0 := fun X Y => at_old (c0 X) [Y]
    have hlen := rows_len sc8 1 (fun _ => rfl) L
    have e1 : ∀ X X' Y, (b ++ [X] ++ [Y])[(b ++ [X']).length]? = some Y := fun X X' Y => by
      rw [show (b ++ [X']).length = (b ++ [X]).length by simp]; exact at_new _ _
    have e2 : ∀ X X' Y Z, (b ++ [X] ++ [Y] ++ [Z])[(b ++ [X']).length]? = some Y := fun X X' Y Z => at_old (e1 X X' Y) [Z]
    have hq1 : ∀ X : Res, (b ++ [X]).length = b.length + 1 := fun X => by simp
    have n104 : unU8 (.int .u8 104) = 104 := rfl
    have i104 : isU8 (.int .u8 104) = true := rfl
    have pr := fun bs => sc_made_Raw0 (bs := bs) (x := .nils) (fs := []) (.inl ⟨rfl, rfl, rfl⟩) (by decide) (by decide) 200 (by omega) [101, 110, 100] (by simp) false
    have hfair : ∀ i, Fair (chainUrl (hopH L i) i) := fun i => chain_fair (hopH_mem L i) i
    rcases Nat.lt_or_ge m L.length with hmL | hmL
    have hmd : decide ((m : Int) < L.length) = true := decide_eq_true (by omega)
    have hat : (L.flatMap sc8)[m * 1]? = some (.int .u8 L[m]) := by rw [Nat.mul_one]; exact sc8_at L m hmL
    have hw := hq L[m] (List.getElem_mem hmL)
    have hH : hopH L m = 104 :: (97 + (L[m] % 3).toNat).toUInt8 :: exS := by unfold hopH; rw [dif_pos hmL]
    have hw : 0 ≤ L[m] ∧ L[m] ≤ 255 := by
      have : IntKind.min .u8 ≤ L[m] ∧ L[m] ≤ IntKind.max .u8 := by simpa [Lit.wf] using hw
      simpa [IntKind.min, IntKind.max, IntKind.signed, IntKind.bits] using this
    generalize L[m] = h at hat hw hH
    have hr3 : divI .rem .u8 h 3 = h % 3 := Int.tmod_eq_emod_of_nonneg hw.1
    have hd3 : h % 3 = ((h % 3).toNat : Int) := by omega
    have hd4 : (h % 3).toNat < 9 := by omega
    have key2 := key (h % 3).toNat hd4
    rw [← hd3] at key2
    generalize hc2 : (97 + (h % 3).toNat).toUInt8 = c2 at key2 hH
    have hu2 : isU8 (.int .u8 c2.toNat) = true := by have := c2.toNat_lt; simp [isU8]; omega
    have hv2 : unU8 (.int .u8 c2.toNat) = c2 := by simp [unU8]
    simp only [lawG, ↓Xn, ↓Xo, ↓Xg, ↓Xd, ↓Xe, ↓Xf, Tryz.VΓ, Tryz.Γs, Xp, Xi, Nat.reduceAdd, Nat.reduceSub, Nat.reduceLT, Nat.reduceLeDiff, reduceIte, reduceCtorEq, Nat.reduceEqDiff, implies_true, forall_const, lawV, h1, h2, h7, h8, h9, h10, b0, lawB, beq_self_eq_true, bne_self_eq_false, Int.reduceBEq, Int.reduceBNe, Int.reduceLT, Int.reduceLE, hlt2, hkey, hu, hv, hmd, c0, d0, e1, e2, hat, hr3, key2, hu2, hv2, n104, i104, Int.toNat_natCast, List.getElem?_cons_succ]
    refine ⟨⟨by omega, by omega⟩, by omega, ⟨by omega, by omega⟩, by omega, by decide, by omega, ?_⟩
    rw [show ([104, c2, 46, 101, 120, 97, 109, 112, 108, 101] : Bytes) = hopH L m from hH.symm]
    simp only [hq1]
    have s0 := fun A B C => at_old (at_old (at_old b0 [A]) [B]) [C]
    have s1 := fun A B C => at_old (at_old (at_old b1 [A]) [B]) [C]
    have sl := fun A B C => ((hsl.app [A]).app [B]).app [C]
    have sx : ∀ X Y Z, (b ++ [X] ++ [Y] ++ [Z])[b.length + 1]? = some Y := fun X Y Z => by rw [← hq1 X]; exact e2 _ _ _ _
    generalize hS : (b ++ [_] ++ [_] ++ [_]) = S
    replace s0 : S[0]? = _ := hS ▸ s0 _ _ _
    replace s1 : S[1]? = _ := hS ▸ s1 _ _ _
    replace sl : Sl1 _ _ _ _ S _ _ := hS ▸ sl _ _ _
    replace sx : S[b.length + 1]? = _ := hS ▸ sx _ _ _
    clear hS
    rotate_left
    have hmd : decide ((m : Int) < L.length) = false := decide_eq_false (by omega)
    have hH : hopH L m = 104 :: exS := by unfold hopH; rw [dif_neg (by omega)]
    simp only [lawG, ↓Xn, ↓Xo, ↓Xg, ↓Xd, ↓Xe, ↓Xf, Tryz.VΓ, Tryz.Γs, Xp, Xi, Nat.reduceAdd, Nat.reduceSub, Nat.reduceLT, Nat.reduceLeDiff, reduceIte, reduceCtorEq, Nat.reduceEqDiff, implies_true, forall_const, lawV, h1, h2, h7, h8, h9, h10, b0, lawB, beq_self_eq_true, bne_self_eq_false, Int.reduceBEq, Int.reduceBNe, Int.reduceLT, Int.reduceLE, hlt2, hkey, hu, hv, hmd, c0, d0, e1, e2]
    refine ⟨⟨by omega, by omega⟩, by omega, ?_⟩
    rw [show ([104, 46, 101, 120, 97, 109, 112, 108, 101] : Bytes) = hopH L m from hH.symm]
    simp only [hq1]
    have s0 := fun A B => at_old (at_old b0 [A]) [B]
    have s1 := fun A B => at_old (at_old b1 [A]) [B]
    have sl := fun A B => (hsl.app [A]).app [B]
    have sx : ∀ X Y, (b ++ [X] ++ [Y])[b.length + 1]? = some Y := fun X Y => by rw [← hq1 X]; exact e1 _ _ _
    generalize hS : (b ++ [_] ++ [_]) = S
    replace s0 : S[0]? = _ := hS ▸ s0 _ _
    replace s1 : S[1]? = _ := hS ▸ s1 _ _
    replace sl : Sl1 _ _ _ _ S _ _ := hS ▸ sl _ _
    replace sx : S[b.length + 1]? = _ := hS ▸ sx _ _
    clear hS
    all_goals
      have hSl : b.length + 1 < S.length := (List.getElem?_eq_some_iff.1 sx).1
      generalize hq : b.length + 1 = q at sx hSl ⊢
      have hq2 : 2 ≤ q := by omega
      clear hq
      refine ⟨fun hz => ?_, fun hz => ?_⟩
      · obtain rfl : m = 0 := by have := beq_iff_eq.1 hz; omega
        obtain rfl : x = .nils := by
          rcases sl with ⟨rfl, -⟩ | ⟨-, -, h, -⟩
          · rfl
          · omega
        have y0 := fun X => (List.getElem?_set_ne (l := S) (i := 1) (j := 0) (a := X) (by omega)).trans s0
        have yq := fun X => (List.getElem?_set_ne (l := S) (i := 1) (j := q) (a := X) (by omega)).trans sx
        have y1 : ∀ X, (S.set 1 X)[1]? = some X := fun X => List.getElem?_set_self (by omega)
        unfold uc at s1
        simp only [if_true, Url.none] at s1
        simp only [lawG, ↓Xn, ↓Xo, ↓Xg, ↓Xd, ↓Xe, ↓Xf, Tryz.VΓ, Tryz.Γs, Xp, Xi, Nat.reduceAdd, Nat.reduceSub, Nat.reduceLT, Nat.reduceLeDiff, reduceIte, reduceCtorEq, Nat.reduceEqDiff, implies_true, forall_const, lawV, h1, h2, h7, h8, h9, h10, s0, s1, sx, y0, y1, yq, lawB, beq_self_eq_true, bne_self_eq_false, Int.reduceBEq, Int.reduceBNe, Int.reduceLT, Int.reduceLE]
        refine callD_scw [] (pr _) (fun _ _ _ => rfl) ?_
        simp only [lawG, ↓Xn, ↓Xo, ↓Xg, ↓Xd, ↓Xe, ↓Xf, Tryz.VΓ, Tryz.Γs, Xp, Xi, Nat.reduceAdd, Nat.reduceSub, Nat.reduceLT, Nat.reduceLeDiff, reduceIte, reduceCtorEq, Nat.reduceEqDiff, implies_true, forall_const, lawV, h1, h2, h7, h8, h9, h10, s0, s1, sx, y0, y1, yq, lawB, beq_self_eq_true, bne_self_eq_false, Int.reduceBEq, Int.reduceBNe, Int.reduceLT, Int.reduceLE]
        have z1 : ∀ X, ((S.set 1 X).length = q) = False := fun X => by simp; omega
        have z2 : ∀ X Y, ((S.set 1 X ++ [Y]).length = q) = False := fun X Y => by simp; omega
        refine ⟨by omega, ⟨by unfold maxLen; omega, by omega⟩, (by
          refine OkD_ren (fun n => if n = q then 0 else 1) ?_
          simp only [List.map_cons, List.map_nil, renRk, renT, reduceIte, z1, z2]
          exact OkD_fast (by kernel_rfl)), ⟨by omega, by omega⟩, ⟨1, _, by omega, rfl, rfl, at_old (at_old (y0 _) _) _, ?_, .inr ⟨_, rfl, by omega, by simp; omega, ?_⟩⟩, ?_⟩
        · rw [if_neg (by omega), ← hc]
          exact at_old (at_old (y1 _) _) _
        · rw [at_new, ← hc]
          rfl
        · rw [lkI_eq (k := .i64) (n := ((0 : Nat) : Int) + 1) rfl]; omega
      · obtain ⟨p, rfl⟩ : ∃ p, m = p + 1 := ⟨m - 1, by have := beq_eq_false_iff_ne.1 hz; omega⟩
        obtain ⟨j, hj2, rfl, hj⟩ : ∃ j, 2 ≤ j ∧ x = .o j (p + 1) ∧ S[j]? = some (.own (((List.range (p + 1)).map (chainRow (hopH L) ST (p + 1 - 1))).flatMap ac) 35 7 (p + 1) true) := by
          rcases sl with ⟨-, -, h⟩ | ⟨j, h1, -, h2, h⟩
          · omega
          · exact ⟨j, h2, h1, h⟩
        have har : ([SV.int .i64 301, .int .i64 302, .int .i64 303, .int .i64 307, .int .i64 308] : List SV)[s5 * 1]? = some (.int .i64 ST) := by
          obtain rfl | rfl | rfl | rfl | rfl : s5 = 0 ∨ s5 = 1 ∨ s5 = 2 ∨ s5 = 3 ∨ s5 = 4 := by omega
          all_goals (subst hST; rfl)
        have hd5 : divI .rem .u8 st 5 = (s5 : Int) := by
          have h : divI .rem .u8 st 5 = st % 5 := Int.tmod_eq_emod_of_nonneg hs.1
          rw [h]; omega
        have ya := fun X => at_new S X
        have y0 := fun X => at_old s0 [X]
        have y1 := fun X => at_old s1 [X]
        have yq := fun X => at_old sx [X]
        have yj := fun X => at_old hj [X]
        have yq2 := fun X Y => at_old (yq X) [Y]
        have yj2 := fun X Y => at_old (yj X) [Y]
        have pf := p_r7_Format (chainUrl (hopH L (p + 1)) (p + 1)) (hfair _)
        unfold wsv chainUrl at pf
        rw [hc] at pf
        simp only at pf
        have hpp : ((p + 1 : Nat) : Int) - 1 = (p : Int) := by omega
        simp only [lawG, ↓Xn, ↓Xo, ↓Xg, ↓Xd, ↓Xe, ↓Xf, Tryz.VΓ, Tryz.Γs, Xp, Xi, Nat.reduceAdd, Nat.reduceSub, Nat.reduceLT, Nat.reduceLeDiff, reduceIte, reduceCtorEq, Nat.reduceEqDiff, implies_true, forall_const, lawV, h1, h2, h7, h8, h9, h10, s0, s1, sx, y0, y1, yq, yj, ya, yq2, yj2, har, hd5, hpp, lawB, beq_self_eq_true, bne_self_eq_false, Int.reduceBEq, Int.reduceBNe, Int.reduceLT, Int.reduceLE, Int.toNat_natCast]
        have hcv := chain_value _ (hopH_mem L (p + 1)) (p + 1) (by omega)
        have hul := hcv.2.2
        have hloc : locS.length = 8 := rfl
        have pl := fun X => sc_made_Raw0 (bs := S ++ [X] ++ [.own [.str locS, .str (urlText (chainUrl (hopH L (p + 1)) (p + 1)))] 31 2 1 true]) (fs := [(locS, urlText (chainUrl (hopH L (p + 1)) (p + 1)))]) (.inr ⟨_, true, rfl, by simp, at_new _ _⟩) (by simp) (by simp only [hsum]; omega) ST (by omega) [] (by simp) false
        simp only [List.length_cons, List.length_nil, Nat.zero_add] at pl
        unfold chainUrl at pl
        rw [hc] at pl
        generalize hUT : urlText ⟨hopH L (p + 1), 0, [47, c], [], [], false, false⟩ = UT at pl pf
        unfold locS at pl
        refine ⟨⟨by omega, by omega⟩, by omega, by decide, ⟨by omega, by omega⟩, by omega, ?_⟩
        (refine callD_pc (pf) ?_; simp only [lawG, ↓Xn, ↓Xo, ↓Xg, ↓Xd, ↓Xe, ↓Xf, Tryz.VΓ, Tryz.Γs, Xp, Xi, Nat.reduceAdd, Nat.reduceSub, Nat.reduceLT, Nat.reduceLeDiff, reduceIte, reduceCtorEq, Nat.reduceEqDiff, implies_true, forall_const, lawV, h1, h2, h7, h8, h9, h10, s0, s1, sx, y0, y1, yq, yj, ya, yq2, yj2, har, hd5, hpp, lawB, beq_self_eq_true, bne_self_eq_false, Int.reduceBEq, Int.reduceBNe, Int.reduceLT, Int.reduceLE, Int.toNat_natCast])
        refine ⟨by omega, ?_⟩
        refine callD_scw [] (pl _) (fun _ _ _ => rfl) ?_
        simp only [lawG, ↓Xn, ↓Xo, ↓Xg, ↓Xd, ↓Xe, ↓Xf, Tryz.VΓ, Tryz.Γs, Xp, Xi, Nat.reduceAdd, Nat.reduceSub, Nat.reduceLT, Nat.reduceLeDiff, reduceIte, reduceCtorEq, Nat.reduceEqDiff, implies_true, forall_const, lawV, h1, h2, h7, h8, h9, h10, s0, s1, sx, y0, y1, yq, yj, ya, yq2, yj2, har, hd5, hpp, lawB, beq_self_eq_true, bne_self_eq_false, Int.reduceBEq, Int.reduceBNe, Int.reduceLT, Int.reduceLE, Int.toNat_natCast]
        have hjq : j ≠ q := by rintro rfl; rw [sx] at hj; cases hj
        have hjS : j < S.length := (List.getElem?_eq_some_iff.1 hj).1
        have z1 : (S.length = q) = False := by simp; omega
        have z2 : ∀ X, ((S ++ [X]).length = q) = False := fun X => by simp; omega
        have z3 : (j = q) = False := by simp [hjq]
        have z4 : (S.length = j) = False := by simp; omega
        have z5 : ∀ X, ((S ++ [X]).length = j) = False := fun X => by simp; omega
        refine ⟨⟨by omega, by omega⟩, by rw [ac_len]; simp; omega, ?_, ?_⟩
        · have z6 : ∀ X, ((S ++ [X]).length = S.length) = False := fun X => by simp
          refine OkD_ren (fun n => if n = q then 0 else if n = j then 1 else if n = S.length then 2 else 3) ?_
          simp only [List.map_cons, List.map_nil, renRk, renT, reduceIte, z1, z2, z3, z4, z5, z6]
          generalize hp' : p = p'
          generalize hs' : s5 = s'
          have hp8 : p' = 0 ∨ p' = 1 ∨ p' = 2 ∨ p' = 3 ∨ p' = 4 ∨ p' = 5 ∨ p' = 6 ∨ p' = 7 := by omega
          have hs5 : s' = 0 ∨ s' = 1 ∨ s' = 2 ∨ s' = 3 ∨ s' = 4 := by omega
          clear hp' hs'
          rcases hp8 with rfl | rfl | rfl | rfl | rfl | rfl | rfl | rfl <;> rcases hs5 with rfl | rfl | rfl | rfl | rfl <;> exact OkD_fast (by kernel_rfl)
        have hrs := rows_set (hopH L) ST p
        have hrn := rows_next (hopH L) ST p
        unfold chainUrl at hrs
        rw [hc, hUT] at hrs
        rw [hc] at hrn
        unfold locS at hrs
        rw [show p + 1 - 1 = p from rfl, hrs]
        have w0 := fun X Y Z => (List.getElem?_set_ne (l := S ++ [X] ++ [Y]) (i := j) (j := 0) (a := Z) (by omega)).trans (at_old (at_old s0 [X]) [Y])
        have w1 := fun X Y Z => (List.getElem?_set_ne (l := S ++ [X] ++ [Y]) (i := j) (j := 1) (a := Z) (by omega)).trans (at_old (at_old s1 [X]) [Y])
        have wq := fun X Y Z => (List.getElem?_set_ne (l := S ++ [X] ++ [Y]) (i := j) (j := q) (a := Z) hjq).trans (at_old (at_old sx [X]) [Y])
        have wj : ∀ X Y Z, ((S ++ [X] ++ [Y]).set j Z)[j]? = some Z := fun X Y Z => List.getElem?_set_self (by simp; omega)
        have wl : ∀ X Y Z, ((S ++ [X] ++ [Y]).set j Z).length = S.length + 2 := fun X Y Z => by simp
        generalize hS2 : (S ++ [_] ++ [_]).set j _ = S2
        replace w0 : S2[0]? = _ := hS2 ▸ w0 _ _ _
        replace w1 : S2[1]? = _ := hS2 ▸ w1 _ _ _
        replace wq : S2[q]? = _ := hS2 ▸ wq _ _ _
        replace wj : S2[j]? = _ := hS2 ▸ wj _ _ _
        replace wl : S2.length = _ := hS2 ▸ wl _ _ _
        clear pl pf hS2 hrs y0 y1 yq yj ya yq2 yj2 z1 z2 z4 z5
        have uj := fun X => at_old wj [X]
        simp only [lawG, ↓Xn, ↓Xo, ↓Xg, ↓Xd, ↓Xe, ↓Xf, Tryz.VΓ, Tryz.Γs, Xp, Xi, Nat.reduceAdd, Nat.reduceSub, Nat.reduceLT, Nat.reduceLeDiff, reduceIte, reduceCtorEq, Nat.reduceEqDiff, implies_true, forall_const, lawV, h1, h2, h7, h8, h9, h10, wq, wj, uj, lawB, beq_self_eq_true, bne_self_eq_false, Int.reduceBEq, Int.reduceBNe, Int.reduceLT, Int.reduceLE, Int.toNat_natCast]
        refine callD_scw [] (pr _) (fun _ _ _ => rfl) ?_
        simp only [lawG, ↓Xn, ↓Xo, ↓Xg, ↓Xd, ↓Xe, ↓Xf, Tryz.VΓ, Tryz.Γs, Xp, Xi, Nat.reduceAdd, Nat.reduceSub, Nat.reduceLT, Nat.reduceLeDiff, reduceIte, reduceCtorEq, Nat.reduceEqDiff, implies_true, forall_const, lawV, h1, h2, h7, h8, h9, h10, wq, wj, uj, lawB, beq_self_eq_true, bne_self_eq_false, Int.reduceBEq, Int.reduceBNe, Int.reduceLT, Int.reduceLE, Int.toNat_natCast]
        have z1 : (S2.length = q) = False := by simp; omega
        have z2 : ∀ X, ((S2 ++ [X]).length = q) = False := fun X => by simp; omega
        have x0 : ∀ X Y, ((S2 ++ [X]).set j .gone ++ [Y])[0]? = S2[0]? := fun X Y => by
          rw [List.getElem?_append_left (by simp), List.getElem?_set_ne (by omega), List.getElem?_append_left (by omega)]
        have x1 : ∀ X Y, ((S2 ++ [X]).set j .gone ++ [Y])[1]? = S2[1]? := fun X Y => by
          rw [List.getElem?_append_left (by simp; omega), List.getElem?_set_ne (by omega), List.getElem?_append_left (by omega)]
        have xn : ∀ X Y X', ((S2 ++ [X]).set j .gone ++ [Y])[(S2 ++ [X']).length]? = some Y := fun X Y X' => by
          rw [show (S2 ++ [X']).length = ((S2 ++ [X]).set j .gone).length by simp]; exact at_new _ _
        refine ⟨by omega, ⟨by unfold maxLen; omega, by omega⟩, (by
          refine OkD_ren (fun n => if n = q then 0 else 1) ?_
          simp only [List.map_cons, List.map_nil, renRk, renT, reduceIte, z1, z2, z3]
          exact OkD_fast (by kernel_rfl)), ⟨by omega, by omega⟩, ⟨p + 1 + 1, _, by omega, rfl, rfl, (x0 _ _).trans w0, ?_, .inr ⟨_, rfl, by omega, by simp; omega, ?_⟩⟩, ?_⟩
        · rw [if_neg (by omega), x1, w1, if_neg (by omega)]
        · rw [xn, show p + 1 + 1 - 1 = p + 1 from rfl, hrn]
        · rw [lkI_eq (k := .i64) (n := ((p + 1 : Nat) : Int) + 1) rfl]; omega
  · obtain rfl : m = k + 1 := by omega
    have hlt2 : decide (((k + 1 : Nat) : Int) ≤ k) = false := decide_eq_false (by omega)
    obtain ⟨j, hj2, rfl, hj⟩ : ∃ j, 2 ≤ j ∧ x = .o j (k + 1) ∧ b[j]? = some (.own (((List.range (k + 1)).map (chainRow (hopH L) ST (k + 1 - 1))).flatMap ac) 35 7 (k + 1) true) := by
      rcases hsl with ⟨-, -, h⟩ | ⟨j, h1, -, h2, h⟩
      · omega
      · exact ⟨j, h2, h1, h⟩
    have hll : (chainL (hopH L) ST k).length = k + 1 := by simp [chainL]
    have hrun := sc_fetch_Run (bs := b) (j := j) (m := true) (L := chainL (hopH L) ST k) (by rw [hll]; exact hj) (by omega) (fun a ha => ?_) 0 (chainUrl (hopH L 0) 0) (chain_fair (hopH_mem L 0) 0)
    · rw [hll] at hrun
      rw [if_neg (by omega)] at b1
      have hsh := fun h5 => chain_short (H := hopH L) (st := ST) (k := k) (hopH_mem L) hSTf.1 hSTf.2.1 hSTf.2.2 h5
      have hlg := fun h5 => chain_long (H := hopH L) (st := ST) (k := k) (hopH_mem L) hk8 hSTf.1 hSTf.2.1 hSTf.2.2 h5
      generalize fetchAfter (chainL (hopH L) ST k) 0 (chainUrl (hopH L 0) 0) 6 = T at hrun hsh hlg
      have hpos : 0 < T.trace.length := by
        by_cases h5 : k ≤ 5
        · rw [(hsh h5).2.1]; omega
        · rw [(hlg (by omega)).2.1]; omega
      unfold uc at b1 hrun
      simp only [lawG, ↓Xn, ↓Xo, ↓Xg, ↓Xd, ↓Xe, ↓Xf, Tryz.VΓ, Tryz.Γs, Xp, Xi, Nat.reduceAdd, Nat.reduceSub, Nat.reduceLT, Nat.reduceLeDiff, reduceIte, reduceCtorEq, Nat.reduceEqDiff, implies_true, forall_const, lawV, h1, h2, h7, h8, h9, h10, b0, b1, lawB, beq_self_eq_true, bne_self_eq_false, Int.reduceBEq, Int.reduceBNe, Int.reduceLT, Int.reduceLE, hlt2]
      refine callV_sc hrun ?_
      rintro r b' ⟨hk', yt, yf, rfl, ht, hf⟩
      obtain ⟨q, rfl, -⟩ := sl1_one ht hpos
      have ho := hf.one
      have hn := fun X => at_new b' X
      unfold rcells uc
      simp only [List.cons_append, List.nil_append]
      simp only [lawG, ↓Xn, ↓Xo, ↓Xg, ↓Xd, ↓Xe, ↓Xf, Tryz.VΓ, Tryz.Γs, Xp, Xi, Nat.reduceAdd, Nat.reduceSub, Nat.reduceLT, Nat.reduceLeDiff, reduceIte, reduceCtorEq, Nat.reduceEqDiff, implies_true, forall_const, lawV, h1, h2, h7, h8, h9, h10, hn, lawB, beq_self_eq_true, bne_self_eq_false, Int.reduceBEq, Int.reduceBNe, Int.reduceLT, Int.reduceLE, ho]
      refine ⟨fun h5 => ?_, fun h5 => ?_⟩
      · obtain ⟨g1, g2, g3⟩ := hlg (by have := of_decide_eq_true h5; omega)
        rw [g1, g2, g3]
        exact ⟨fun _ => ⟨fun _ => rfl, fun h => absurd h (by decide)⟩, fun h => absurd h (by decide)⟩
      · obtain ⟨g1, g2, g3⟩ := hsh (by have := of_decide_eq_false h5; omega)
        rw [g1, g2, g3]
        exact ⟨fun _ => ⟨⟨by omega, by omega⟩, fun _ => rfl, fun h => absurd h (by simp)⟩, fun h => absurd h (by decide)⟩
    · obtain ⟨i, hi, rfl⟩ := List.mem_map.1 ha
      have hi := List.mem_range.1 hi
      unfold chainRow
      simp only
      have hcl : clN.length = 14 := rfl
      have hlo : locS.length = 8 := rfl
      have hd0 := decS_length 9 0 (by omega)
      have hd3 := decS_length 9 3 (by omega)
      split
      · have hv := (chain_value _ (hopH_mem L (i + 1)) (i + 1) (by omega)).2.2
        have h := headText_le ST (by omega) [(locS, urlText (chainUrl (hopH L (i + 1)) (i + 1))), (clN, decS ([] : Bytes).length)]
        unfold rawText
        simp only [hsum, List.cons_append, List.nil_append, List.length_append, List.length_cons, List.length_nil] at h ⊢
        omega
      · have h := headText_le 200 (by omega) [(clN, decS ([101, 110, 100] : Bytes).length)]
        unfold rawText
        simp only [hsum, List.cons_append, List.nil_append, List.length_append, List.length_cons, List.length_nil, Nat.zero_add, Nat.reduceAdd] at h ⊢
        omega
end Go.Proofs.YtfmafmgbfamaiaaGreatDoor
