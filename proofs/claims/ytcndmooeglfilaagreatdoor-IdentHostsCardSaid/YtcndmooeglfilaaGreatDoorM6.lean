/- Texts of this claim, laid together: WebW, WebV, IdentP, AcctW, IdentW, IdentK, IdentM, Law12, Open. -/
import Derived.Lib.QuietBelow
import Derived.Deep.QuietTactic
import Derived.BigQuiet
import Derived.MapKept
import Derived.WideKeyElems
import Derived.Test.YtcndmooeglfilaaGreatDoorM5
/- The walks of package didweb. -/
set_option linter.all false
set_option maxRecDepth 20000
namespace Go.Proofs.YtcndmooeglfilaaGreatDoor
open Go Vc Go.RowKit Wf
set_option linter.unusedSimpArgs false
set_option maxHeartbeats 2000000 in
theorem p_web_Authority (d : Did) (h : DidFits d) : PC Tryz.V 17 [dsv d] (.tup [.agg [.str (didAuth d).1.1, .int .i64 (didAuth d).1.2], .int .i64 (didAuth d).2]) := by
  have pf := p_did_FormatDID d h
  have pp := p_did_ParseDID (didText d)
  have hf := @auth_first d
  have hd := @auth_dec d
  refine pc_of 3000 Tryz.func17 rfl Tryz.ntmps17 Tryz.results17 Tryz.call17 (by simp) (by simp [flat, flat.flatL, dsv, wsv]) (by simp [flat, flat.flatL, dsv, wsv]) ?_
  unfold dsv
  unfold dsv at pf pp
  unfold didAuth
  simp only [lawG, ↓Xn, ↓Xo, ↓Xg, ↓Xd, ↓Xe, ↓Xf, Tryz.VΓ, Tryz.Γs, Xp, Xi, Nat.reduceAdd, Nat.reduceSub, Nat.reduceLT, Nat.reduceLeDiff, reduceIte, reduceCtorEq, Nat.reduceEqDiff, implies_true, forall_const, lawV]
  refine ⟨fun h1 => (by rw [if_pos (by simpa [webS] using h1)]), fun h1 => ?_⟩
  have h1 : d.method = webS := by simpa [webS] using h1
  rw [if_neg (by simp [h1])]
  (refine callV_pc pf ?_; simp only [lawG, ↓Xn, ↓Xo, ↓Xg, ↓Xd, ↓Xe, ↓Xf, Tryz.VΓ, Tryz.Γs, Xp, Xi, Nat.reduceAdd, Nat.reduceSub, Nat.reduceLT, Nat.reduceLeDiff, reduceIte, reduceCtorEq, Nat.reduceEqDiff, implies_true, forall_const, lawV])
  (refine callV_pc pp ?_; simp only [lawG, ↓Xn, ↓Xo, ↓Xg, ↓Xd, ↓Xe, ↓Xf, Tryz.VΓ, Tryz.Γs, Xp, Xi, Nat.reduceAdd, Nat.reduceSub, Nat.reduceLT, Nat.reduceLeDiff, reduceIte, reduceCtorEq, Nat.reduceEqDiff, implies_true, forall_const, lawV])
  refine ⟨fun h2 => (by rw [if_pos (by simpa using h2)]), fun h2 => ?_⟩
  have h2 : (didParse (didText d)).2 = 0 := by simpa using h2
  rw [if_neg (by simp [h2])]
  have hf := hf h1 h2
  have hd := hd h1 h2
  have pc := p_Cut d.id 58 (by omega)
  have pd := p_Decode (cutC 58 d.id).1
  rw [hf] at pd ⊢
  have hl1 := cutC_len 58 d.id
  have hl2 := decV_len (cutC 58 d.id).1
  have ph := p_host_Parse (decV (cutC 58 d.id).1) (by omega)
  (refine callV_pc pc ?_; simp only [lawG, ↓Xn, ↓Xo, ↓Xg, ↓Xd, ↓Xe, ↓Xf, Tryz.VΓ, Tryz.Γs, Xp, Xi, Nat.reduceAdd, Nat.reduceSub, Nat.reduceLT, Nat.reduceLeDiff, reduceIte, reduceCtorEq, Nat.reduceEqDiff, implies_true, forall_const, lawV])
  (refine callV_pc pd ?_; simp only [lawG, ↓Xn, ↓Xo, ↓Xg, ↓Xd, ↓Xe, ↓Xf, Tryz.VΓ, Tryz.Γs, Xp, Xi, Nat.reduceAdd, Nat.reduceSub, Nat.reduceLT, Nat.reduceLeDiff, reduceIte, reduceCtorEq, Nat.reduceEqDiff, implies_true, forall_const, lawV, beq_self_eq_true, bne_self_eq_false, Int.reduceBEq, Int.reduceBNe, Int.reduceLT, Int.reduceLE])
  (refine callV_pc ph ?_; simp only [lawG, ↓Xn, ↓Xo, ↓Xg, ↓Xd, ↓Xe, ↓Xf, Tryz.VΓ, Tryz.Γs, Xp, Xi, Nat.reduceAdd, Nat.reduceSub, Nat.reduceLT, Nat.reduceLeDiff, reduceIte, reduceCtorEq, Nat.reduceEqDiff, implies_true, forall_const, lawV, beq_self_eq_true, bne_self_eq_false, Int.reduceBEq, Int.reduceBNe, Int.reduceLT, Int.reduceLE])
  done
set_option maxHeartbeats 2000000 in
theorem sc_up {bs : List Res} {i : Nat} {e : Int} (s : Bytes) (hi : bs[i]? = some (.cells [.int .i64 e] 79 true)) (hs : s.length ≤ 16384) :
    SC Tryz.V 58 [.p i 0, .str s] bs (fun r b => r = .str (segUp s) ∧ b = bs.set i (.cells [.int .i64 (if segOk s then e else 110)] 79 true)) := by
  have hil : i < bs.length := (List.getElem?_eq_some_iff.1 hi).1
  refine sc_of 3000 Tryz.func58 rfl Tryz.ntmps58 Tryz.results58 Tryz.call58 (by simp) (fun β β' hb => concL_within bs.length _ (by simp [within, within.withinL, hil]) β β' hb) ?_
  have pd := p_Decode s
  have pe := p_Encode (pctDecode s).1 [] (by have := pctDecode_len s; omega)
  have hl1 := pctDecode_len s
  have hl2 := pctEncode_len [] (pctDecode s).1
  have hok : segOk s = !((((pctDecode s).2 != 0) || ((pctDecode s).1 == [])) || (((pctDecode s).1 == [46]) || ((pctDecode s).1 == [46, 46]))) := by
    unfold segOk
    cases h1 : (pctDecode s).2 == 0 <;> cases h2 : (pctDecode s).1 == [] <;> cases h3 : (pctDecode s).1 == [46] <;> cases h4 : (pctDecode s).1 == [46, 46] <;> simp_all [bne]
  rw [hok]
  have hset := set_same hi
  generalize hX : pctDecode s = X at pd pe hok hl1 hl2 ⊢
  obtain ⟨x, k⟩ := X
  simp only at pd pe hok hl1 hl2 ⊢
  unfold segUp
  rw [hX]
  simp only
  simp only [lawG, ↓Xn, ↓Xo, ↓Xg, ↓Xd, ↓Xe, ↓Xf, Tryz.VΓ, Tryz.Γs, Xp, Xi, Nat.reduceAdd, Nat.reduceSub, Nat.reduceLT, Nat.reduceLeDiff, reduceIte, reduceCtorEq, Nat.reduceEqDiff, implies_true, forall_const, lawV, hi]
  (refine callV_pc pd ?_; simp only [lawG, ↓Xn, ↓Xo, ↓Xg, ↓Xd, ↓Xe, ↓Xf, Tryz.VΓ, Tryz.Γs, Xp, Xi, Nat.reduceAdd, Nat.reduceSub, Nat.reduceLT, Nat.reduceLeDiff, reduceIte, reduceCtorEq, Nat.reduceEqDiff, implies_true, forall_const, lawV, hi])
  cases h1 : k != 0 <;> cases h2 : x == [] <;> cases h3 : x == [46] <;> cases h4 : x == [46, 46] <;> simp only [lawG, ↓Xn, ↓Xo, ↓Xg, ↓Xd, ↓Xe, ↓Xf, Tryz.VΓ, Tryz.Γs, Xp, Xi, Nat.reduceAdd, Nat.reduceSub, Nat.reduceLT, Nat.reduceLeDiff, reduceIte, reduceCtorEq, Nat.reduceEqDiff, implies_true, forall_const, lawV, hi, h1, h2, h3, h4] <;> (refine callV_pc pe ?_; simp only [lawG, ↓Xn, ↓Xo, ↓Xg, ↓Xd, ↓Xe, ↓Xf, Tryz.VΓ, Tryz.Γs, Xp, Xi, Nat.reduceAdd, Nat.reduceSub, Nat.reduceLT, Nat.reduceLeDiff, reduceIte, reduceCtorEq, Nat.reduceEqDiff, implies_true, forall_const, lawV, hi, hset]) <;> exact ⟨by omega, by first | rfl | exact hset.symm⟩
set_option maxHeartbeats 2000000 in
theorem sc_down {bs : List Res} {i : Nat} {e : Int} (s : Bytes) (hi : bs[i]? = some (.cells [.int .i64 e] 79 true)) (hs : s.length ≤ 16384) :
    SC Tryz.V 78 [.p i 0, .str s] bs (fun r b => r = .str (segDown s) ∧ b = bs.set i (.cells [.int .i64 (if downOk s then e else 110)] 79 true)) := by
  have hil : i < bs.length := (List.getElem?_eq_some_iff.1 hi).1
  refine sc_of 3000 Tryz.func78 rfl Tryz.ntmps78 Tryz.results78 Tryz.call78 (by simp) (fun β β' hb => concL_within bs.length _ (by simp [within, within.withinL, hil]) β β' hb) ?_
  have pr := p_ReplaceAll (pctEncode [] (pctDecode s).1) 126 [37, 55, 69] (by decide) (by have := pctDecode_len s; have := pctEncode_len [] (pctDecode s).1; omega) (by decide)
  rw [escDown] at pr
  have pd := p_Decode s
  have pe := p_Encode (pctDecode s).1 [] (by have := pctDecode_len s; omega)
  have hl1 := pctDecode_len s
  have hl2 := didEsc_len (pctDecode s).1
  simp only [lawG, ↓Xn, ↓Xo, ↓Xg, ↓Xd, ↓Xe, ↓Xf, Tryz.VΓ, Tryz.Γs, Xp, Xi, Nat.reduceAdd, Nat.reduceSub, Nat.reduceLT, Nat.reduceLeDiff, reduceIte, reduceCtorEq, Nat.reduceEqDiff, implies_true, forall_const, lawV, hi]
  refine loopV_mk (fun σ => ∃ k : Nat, k ≤ s.length ∧ lk 0 σ.t = some (.p i 0) ∧ lk 1 σ.t = some (.str s) ∧ lk 4 σ.t = some (.str []) ∧ lk 8 σ.t = some (.str s) ∧ lk 9 σ.t = some (.int .i64 s.length) ∧ lk 10 σ.t = some (.int .i64 k) ∧
    σ.b = bs.set i (.cells [.int .i64 (if (s.take k).all downC then e else 110)] 79 true)) (fun σ => s.length - lkI 10 σ) ⟨0, by omega, rfl, rfl, rfl, rfl, rfl, rfl, (set_same hi).symm⟩ ?_
  rintro ⟨t, b⟩ ⟨k, hk, h0, h1, h4, h8, h9, h10, hb⟩
  simp only at h0 h1 h4 h8 h9 h10 hb
  rw [lkI_eq h10]
  have hbi : b[i]? = some (.cells [.int .i64 (if (s.take k).all downC then e else 110)] 79 true) := by rw [hb]; exact List.getElem?_set_self hil
  by_cases hlt : k < s.length
  · have hg : s.getD k 0 = s[k] := by simp [List.getD, hlt]
    have hall : (s.take (k + 1)).all downC = ((s.take k).all downC && downC s[k]) := by rw [List.take_succ_eq_append_getElem hlt, List.all_append]; simp
    have h37 : ((s[k].toNat : Int) != 37) = (s[k] != 37) := by
      have := byte_is hlt 37 (n := 37) rfl
      show (!_) = (!_)
      rw [← this, hg]
    have same : downC s[k] = true → b = bs.set i (.cells [.int .i64 (if (s.take (k + 1)).all downC then e else 110)] 79 true) := fun h => by rw [hall, h, Bool.and_true]; exact hb
    have meas : ∀ (t' : List (Nat × SV)) (b' : List Res), lk 10 t' = some (.int .i64 ((k : Int) + 1)) → s.length - lkI 10 ⟨t', b'⟩ < s.length - (k : Int).toNat := fun t' b' k6 => by rw [lkI_eq (σ := ⟨t', b'⟩) k6]; omega
    simp only [lawG, ↓Xn, ↓Xo, ↓Xg, ↓Xd, ↓Xe, ↓Xf, Tryz.VΓ, Tryz.Γs, Xp, Xi, Nat.reduceAdd, Nat.reduceSub, Nat.reduceLT, Nat.reduceLeDiff, reduceIte, reduceCtorEq, Nat.reduceEqDiff, implies_true, forall_const, lawV, h0, h1, h4, h8, h9, h10, hbi, hg]
    refine ⟨fun _ => ⟨⟨by omega, by omega⟩, fun g1 => ⟨⟨by omega, by omega⟩, ?_⟩, fun g1 => ⟨⟨by omega, by omega⟩, ⟨k + 1, by omega, rfl, same ?_⟩, meas _ _ rfl⟩⟩, fun h => absurd h (by simp; omega)⟩
    · (refine callV_pc (p_IsUnreserved s[k]) ?_; simp only [lawG, ↓Xn, ↓Xo, ↓Xg, ↓Xd, ↓Xe, ↓Xf, Tryz.VΓ, Tryz.Γs, Xp, Xi, Nat.reduceAdd, Nat.reduceSub, Nat.reduceLT, Nat.reduceLeDiff, reduceIte, reduceCtorEq, Nat.reduceEqDiff, implies_true, forall_const, lawV, h0, h1, h4, h8, h9, h10, hbi, hg])
      refine ⟨fun g2 => ⟨⟨by omega, by omega⟩, ⟨k + 1, by omega, rfl, ?_⟩, meas _ _ rfl⟩, fun g2 => ⟨⟨by omega, by omega⟩, ⟨k + 1, by omega, rfl, same ?_⟩, meas _ _ rfl⟩⟩
      · have : downC s[k] = false := by
          unfold downC
          rw [h37] at g1
          simp at g1 g2 ⊢
          exact ⟨g1, g2⟩
        rw [hall, this, Bool.and_false, hb, List.set_set]
        rfl
      · unfold downC
        simp at g2 ⊢
        exact .inr g2
    · unfold downC
      rw [h37] at g1
      simp at g1 ⊢
      exact .inl g1
  · have hie : k = s.length := by omega
    subst hie
    rw [List.take_length] at hb hbi
    clear hk hlt
    have hd : downOk s = (s.all downC && !(((pctDecode s).2 != 0) || ((pctDecode s).1 == []))) := by
      unfold downOk
      cases s.all downC <;> cases h1 : (pctDecode s).2 == 0 <;> cases h2 : (pctDecode s).1 == [] <;> simp_all [bne]
    have hsd : segDown s = 58 :: didEsc (pctDecode s).1 := rfl
    rw [hd, hsd]
    generalize pctDecode s = X at pd pe pr hl1 hl2 ⊢
    obtain ⟨x, k⟩ := X
    simp only at pd pe pr hl1 hl2 ⊢
    have hlf : decide ((s.length : Int) < s.length) = false := by simp
    simp only [lawG, ↓Xn, ↓Xo, ↓Xg, ↓Xd, ↓Xe, ↓Xf, Tryz.VΓ, Tryz.Γs, Xp, Xi, Nat.reduceAdd, Nat.reduceSub, Nat.reduceLT, Nat.reduceLeDiff, reduceIte, reduceCtorEq, Nat.reduceEqDiff, implies_true, forall_const, lawV, h0, h1, h4, h8, h9, h10, hbi, hlf]
    (refine callV_pc pd ?_; simp only [lawG, ↓Xn, ↓Xo, ↓Xg, ↓Xd, ↓Xe, ↓Xf, Tryz.VΓ, Tryz.Γs, Xp, Xi, Nat.reduceAdd, Nat.reduceSub, Nat.reduceLT, Nat.reduceLeDiff, reduceIte, reduceCtorEq, Nat.reduceEqDiff, implies_true, forall_const, lawV, h0, h1, h4, h8, h9, h10, hbi])
    have e1 : ∀ v, b.set i (.cells [.int .i64 v] 79 true) = bs.set i (.cells [.int .i64 v] 79 true) := fun v => by rw [hb, List.set_set]
    cases g1 : k != 0 <;> cases g2 : x == [] <;> simp only [lawG, ↓Xn, ↓Xo, ↓Xg, ↓Xd, ↓Xe, ↓Xf, Tryz.VΓ, Tryz.Γs, Xp, Xi, Nat.reduceAdd, Nat.reduceSub, Nat.reduceLT, Nat.reduceLeDiff, reduceIte, reduceCtorEq, Nat.reduceEqDiff, implies_true, forall_const, lawV, h0, h1, h4, h8, h9, h10, hbi, g1, g2] <;> (refine callV_pc pe ?_; simp only [lawG, ↓Xn, ↓Xo, ↓Xg, ↓Xd, ↓Xe, ↓Xf, Tryz.VΓ, Tryz.Γs, Xp, Xi, Nat.reduceAdd, Nat.reduceSub, Nat.reduceLT, Nat.reduceLeDiff, reduceIte, reduceCtorEq, Nat.reduceEqDiff, implies_true, forall_const, lawV, h0, h1, h4, h8, h9, h10, hbi]) <;> (refine callV_pc pr ?_; simp only [lawG, ↓Xn, ↓Xo, ↓Xg, ↓Xd, ↓Xe, ↓Xf, Tryz.VΓ, Tryz.Γs, Xp, Xi, Nat.reduceAdd, Nat.reduceSub, Nat.reduceLT, Nat.reduceLeDiff, reduceIte, reduceCtorEq, Nat.reduceEqDiff, implies_true, forall_const, lawV, h0, h1, h4, h8, h9, h10, hbi]) <;> refine ⟨by omega, ?_⟩ <;> (first | rw [e1] | rw [hb]) <;> congr 4 <;> cases s.all downC <;> rfl
theorem flat_take {g : Bytes → Bytes} {L : List Bytes} {k : Nat} (h : k < L.length) : (L.take (k + 1)).flatMap g = (L.take k).flatMap g ++ g L[k] := by
  rw [List.take_succ_eq_append_getElem h, List.flatMap_append, List.flatMap_cons, List.flatMap_nil, List.append_nil]
theorem flat_take_le {g : Bytes → Bytes} {L : List Bytes} {k : Nat} : ((L.take k).flatMap g).length ≤ (L.flatMap g).length := by
  conv => rhs; rw [← List.take_append_drop k L]
  rw [List.flatMap_append, List.length_append]
  omega
theorem outs_each (bs : List Res) {i n : Nat} (X : Res) (hn : bs.length = n) : Outs [(i, 0, 0), (n, 0, 0)] (bs.set i X ++ [.gone]) bs := by
  subst hn
  refine outs_of (fun j hj => ?_) (by simp)
  have h1 := hj _ List.mem_cons_self
  have h2 := hj _ (List.mem_cons_of_mem _ List.mem_cons_self)
  simp only at h1 h2
  rcases Nat.lt_or_ge j bs.length with h | h
  · rw [List.getElem?_append_left (by rw [List.length_set]; exact h), List.getElem?_set_ne h1]
  · rw [List.getElem?_eq_none (by simp; omega), List.getElem?_eq_none h]
set_option maxHeartbeats 2000000 in
theorem sc_each_up {bs : List Res} {i j : Nat} {e : Int} {L : List Bytes} {m : Bool} (hi : bs[i]? = some (.cells [.int .i64 e] 79 true)) (hj : bs[j]? = some (.own (L.map SV.str) 9 1 L.length m)) (hL : ∀ x ∈ L, x.length ≤ 16384) (hn : L.length ≤ 1000000) (hlen : (L.flatMap segUp).length ≤ 10000000) :
    SC Tryz.V 57 [.o j L.length, .mv 58 [.p i 0]] bs (fun r b => r = .str (L.flatMap segUp) ∧ b = bs.set i (.cells [.int .i64 (if L.all segOk then e else 110)] 79 true) ++ [.gone]) := by
  have hjl : j < bs.length := (List.getElem?_eq_some_iff.1 hj).1
  have hil : i < bs.length := (List.getElem?_eq_some_iff.1 hi).1
  have hij : i ≠ j := by rintro rfl; rw [hi] at hj; cases hj
  refine sc_of 3000 Tryz.func57 rfl Tryz.ntmps57 Tryz.results57 Tryz.call57 (by simp) (fun β β' hb => concL_within bs.length _ (by simp [within, within.withinL, hjl, hil]) β β' hb) ?_
  simp only [lawG, ↓Xn, ↓Xo, ↓Xg, ↓Xd, ↓Xe, ↓Xf, Tryz.VΓ, Tryz.Γs, Xp, Xi, Nat.reduceAdd, Nat.reduceSub, Nat.reduceLT, Nat.reduceLeDiff, reduceIte, reduceCtorEq, Nat.reduceEqDiff, implies_true, forall_const, lawV, hj]
  refine loopV_mk (fun σ => ∃ k : Nat, k ≤ L.length ∧ lk 1 σ.t = some (.mv 58 [.p i 0]) ∧ lk 4 σ.t = some (.str []) ∧ lk 5 σ.t = some (.p bs.length 0) ∧ lk 8 σ.t = some (.o j L.length) ∧ lk 9 σ.t = some (.int .i64 L.length) ∧ lk 10 σ.t = some (.int .i64 k) ∧
    BAt bs.length ((L.take k).flatMap segUp) σ.b ∧ σ.b.length = bs.length + 1 ∧ σ.b[i]? = some (.cells [.int .i64 (if (L.take k).all segOk then e else 110)] 79 true) ∧ ∀ q, q < bs.length → q ≠ i → σ.b[q]? = bs[q]?) (fun σ => L.length - lkI 10 σ)
    ⟨0, by omega, rfl, rfl, rfl, rfl, rfl, rfl, .inr ⟨rfl, at_new _ _⟩, by simp, at_old hi _, fun q hq _ => List.getElem?_append_left hq⟩ ?_
  rintro ⟨t, b⟩ ⟨k, hk, h1, h4, h5, h8, h9, h10, hB, hbl, hbi, hbq⟩
  simp only at h1 h4 h5 h8 h9 h10 hB hbl hbi hbq
  rw [lkI_eq h10]
  have hbj := (hbq j hjl (fun e => hij e.symm)).trans hj
  by_cases hlt : k < L.length
  · have hx : (L.map SV.str)[k * 1]? = some (.str L[k]) := by simp [hlt]
    have hft := flat_take (g := segUp) hlt
    have hle := flat_take_le (g := segUp) (L := L) (k := k + 1)
    rw [hft, List.length_append] at hle
    have hall : (L.take (k + 1)).all segOk = ((L.take k).all segOk && segOk L[k]) := by rw [List.take_succ_eq_append_getElem hlt, List.all_append]; simp
    simp only [lawG, ↓Xn, ↓Xo, ↓Xg, ↓Xd, ↓Xe, ↓Xf, Tryz.VΓ, Tryz.Γs, Xp, Xi, Nat.reduceAdd, Nat.reduceSub, Nat.reduceLT, Nat.reduceLeDiff, reduceIte, reduceCtorEq, Nat.reduceEqDiff, implies_true, forall_const, lawV, h1, h4, h5, h8, h9, h10, hbj, hx]
    refine ⟨fun _ => ⟨⟨by omega, by omega⟩, by simp; omega, ?_⟩, fun h => absurd h (by simp; omega)⟩
    refine callV_sc (sc_up L[k] hbi (hL _ (List.getElem_mem hlt))) ?_
    rintro r b1 ⟨rfl, hb1⟩
    have hbib : i < b.length := by omega
    have hB1 : BAt bs.length ((L.take k).flatMap segUp) b1 := by
      rw [hb1]
      unfold BAt
      rw [List.getElem?_set_ne (by omega)]
      exact hB
    have hbi1 : b1[i]? = some (.cells [.int .i64 (if (L.take (k + 1)).all segOk then e else 110)] 79 true) := by
      rw [hb1, List.getElem?_set_self hbib, hall]
      cases segOk L[k] <;> cases (L.take k).all segOk <;> rfl
    have hbq1 : ∀ q, q < bs.length → q ≠ i → b1[q]? = bs[q]? := fun q hq hne => by
      rw [hb1, List.getElem?_set_ne (fun e => hne e.symm)]; exact hbq q hq hne
    have hbl1 : b1.length = bs.length + 1 := by rw [hb1, List.length_set]; exact hbl
    clear hb1
    simp only [lawG, ↓Xn, ↓Xo, ↓Xg, ↓Xd, ↓Xe, ↓Xf, Tryz.VΓ, Tryz.Γs, Xp, Xi, Nat.reduceAdd, Nat.reduceSub, Nat.reduceLT, Nat.reduceLeDiff, reduceIte, reduceCtorEq, Nat.reduceEqDiff, implies_true, forall_const, lawV, h1, h4, h5, h8, h9, h10]
    refine callV_sc (sc_WS hB1 (by omega)) ?_
    rintro r b2 ⟨rfl, hb2⟩
    simp only [lawG, ↓Xn, ↓Xo, ↓Xg, ↓Xd, ↓Xe, ↓Xf, Tryz.VΓ, Tryz.Γs, Xp, Xi, Nat.reduceAdd, Nat.reduceSub, Nat.reduceLT, Nat.reduceLeDiff, reduceIte, reduceCtorEq, Nat.reduceEqDiff, implies_true, forall_const, lawV, h1, h4, h5, h8, h9, h10]
    refine ⟨⟨by omega, by omega⟩, ⟨k + 1, by omega, rfl, ?_, ?_, ?_, ?_⟩, ?_⟩
    · rw [hft, hb2]; exact hB1.set
    · rw [hb2, List.length_set]; exact hbl1
    · rw [hb2, List.getElem?_set_ne (by omega)]; exact hbi1
    · intro q hq hne
      rw [hb2, List.getElem?_set_ne (by omega)]; exact hbq1 q hq hne
    · rw [lkI_eq (k := .i64) (n := (k : Int) + 1) rfl]; omega
  · have hie : k = L.length := by omega
    subst hie
    rw [List.take_length] at hB hbi
    have hlf : decide ((L.length : Int) < L.length) = false := by simp
    simp only [lawG, ↓Xn, ↓Xo, ↓Xg, ↓Xd, ↓Xe, ↓Xf, Tryz.VΓ, Tryz.Γs, Xp, Xi, Nat.reduceAdd, Nat.reduceSub, Nat.reduceLT, Nat.reduceLeDiff, reduceIte, reduceCtorEq, Nat.reduceEqDiff, implies_true, forall_const, lawV, h1, h4, h5, h8, h9, h10, hlf]
    refine callV_sc (sc_Str hB) ?_
    rintro r b2 ⟨rfl, hb2⟩
    simp only [lawG, ↓Xn, ↓Xo, ↓Xg, ↓Xd, ↓Xe, ↓Xf, Tryz.VΓ, Tryz.Γs, Xp, Xi, Nat.reduceAdd, Nat.reduceSub, Nat.reduceLT, Nat.reduceLeDiff, reduceIte, reduceCtorEq, Nat.reduceEqDiff, implies_true, forall_const, lawV, h1, h4, h5, h8, h9, h10]
    simp only at hb2
    apply List.ext_getElem?
    intro q
    rw [hb2]
    rcases Nat.lt_trichotomy q bs.length with hq | hq | hq
    · rw [List.getElem?_set_ne (by omega), List.getElem?_append_left (by rw [List.length_set]; exact hq)]
      by_cases hqi : q = i
      · subst hqi; rw [List.getElem?_set_self hq]; exact hbi
      · rw [List.getElem?_set_ne (fun e => hqi e.symm)]; exact hbq q hq hqi
    · subst hq
      rw [List.getElem?_set_self (by omega), List.getElem?_append_right (by simp)]
      simp
    · rw [List.getElem?_eq_none (by simp; omega), List.getElem?_eq_none (by simp; omega)]
set_option maxHeartbeats 2000000 in
theorem sc_each_down {bs : List Res} {i j : Nat} {e : Int} {L : List Bytes} {m : Bool} (hi : bs[i]? = some (.cells [.int .i64 e] 79 true)) (hj : bs[j]? = some (.own (L.map SV.str) 9 1 L.length m)) (hL : ∀ x ∈ L, x.length ≤ 16384) (hn : L.length ≤ 1000000) (hlen : (L.flatMap segDown).length ≤ 10000000) :
    SC Tryz.V 57 [.o j L.length, .mv 78 [.p i 0]] bs (fun r b => r = .str (L.flatMap segDown) ∧ b = bs.set i (.cells [.int .i64 (if L.all downOk then e else 110)] 79 true) ++ [.gone]) := by
  have hjl : j < bs.length := (List.getElem?_eq_some_iff.1 hj).1
  have hil : i < bs.length := (List.getElem?_eq_some_iff.1 hi).1
  have hij : i ≠ j := by rintro rfl; rw [hi] at hj; cases hj
  refine sc_of 3000 Tryz.func57 rfl Tryz.ntmps57 Tryz.results57 Tryz.call57 (by simp) (fun β β' hb => concL_within bs.length _ (by simp [within, within.withinL, hjl, hil]) β β' hb) ?_
  simp only [lawG, ↓Xn, ↓Xo, ↓Xg, ↓Xd, ↓Xe, ↓Xf, Tryz.VΓ, Tryz.Γs, Xp, Xi, Nat.reduceAdd, Nat.reduceSub, Nat.reduceLT, Nat.reduceLeDiff, reduceIte, reduceCtorEq, Nat.reduceEqDiff, implies_true, forall_const, lawV, hj]
  refine loopV_mk (fun σ => ∃ k : Nat, k ≤ L.length ∧ lk 1 σ.t = some (.mv 78 [.p i 0]) ∧ lk 4 σ.t = some (.str []) ∧ lk 5 σ.t = some (.p bs.length 0) ∧ lk 8 σ.t = some (.o j L.length) ∧ lk 9 σ.t = some (.int .i64 L.length) ∧ lk 10 σ.t = some (.int .i64 k) ∧
    BAt bs.length ((L.take k).flatMap segDown) σ.b ∧ σ.b.length = bs.length + 1 ∧ σ.b[i]? = some (.cells [.int .i64 (if (L.take k).all downOk then e else 110)] 79 true) ∧ ∀ q, q < bs.length → q ≠ i → σ.b[q]? = bs[q]?) (fun σ => L.length - lkI 10 σ)
    ⟨0, by omega, rfl, rfl, rfl, rfl, rfl, rfl, .inr ⟨rfl, at_new _ _⟩, by simp, at_old hi _, fun q hq _ => List.getElem?_append_left hq⟩ ?_
  rintro ⟨t, b⟩ ⟨k, hk, h1, h4, h5, h8, h9, h10, hB, hbl, hbi, hbq⟩
  simp only at h1 h4 h5 h8 h9 h10 hB hbl hbi hbq
  rw [lkI_eq h10]
  have hbj := (hbq j hjl (fun e => hij e.symm)).trans hj
  by_cases hlt : k < L.length
  · have hx : (L.map SV.str)[k * 1]? = some (.str L[k]) := by simp [hlt]
    have hft := flat_take (g := segDown) hlt
    have hle := flat_take_le (g := segDown) (L := L) (k := k + 1)
    rw [hft, List.length_append] at hle
    have hall : (L.take (k + 1)).all downOk = ((L.take k).all downOk && downOk L[k]) := by rw [List.take_succ_eq_append_getElem hlt, List.all_append]; simp
    simp only [lawG, ↓Xn, ↓Xo, ↓Xg, ↓Xd, ↓Xe, ↓Xf, Tryz.VΓ, Tryz.Γs, Xp, Xi, Nat.reduceAdd, Nat.reduceSub, Nat.reduceLT, Nat.reduceLeDiff, reduceIte, reduceCtorEq, Nat.reduceEqDiff, implies_true, forall_const, lawV, h1, h4, h5, h8, h9, h10, hbj, hx]
    refine ⟨fun _ => ⟨⟨by omega, by omega⟩, by simp; omega, ?_⟩, fun h => absurd h (by simp; omega)⟩
    refine callV_sc (sc_down L[k] hbi (hL _ (List.getElem_mem hlt))) ?_
    rintro r b1 ⟨rfl, hb1⟩
    have hbib : i < b.length := by omega
    have hB1 : BAt bs.length ((L.take k).flatMap segDown) b1 := by
      rw [hb1]
      unfold BAt
      rw [List.getElem?_set_ne (by omega)]
      exact hB
    have hbi1 : b1[i]? = some (.cells [.int .i64 (if (L.take (k + 1)).all downOk then e else 110)] 79 true) := by
      rw [hb1, List.getElem?_set_self hbib, hall]
      cases downOk L[k] <;> cases (L.take k).all downOk <;> rfl
    have hbq1 : ∀ q, q < bs.length → q ≠ i → b1[q]? = bs[q]? := fun q hq hne => by
      rw [hb1, List.getElem?_set_ne (fun e => hne e.symm)]; exact hbq q hq hne
    have hbl1 : b1.length = bs.length + 1 := by rw [hb1, List.length_set]; exact hbl
    clear hb1
    simp only [lawG, ↓Xn, ↓Xo, ↓Xg, ↓Xd, ↓Xe, ↓Xf, Tryz.VΓ, Tryz.Γs, Xp, Xi, Nat.reduceAdd, Nat.reduceSub, Nat.reduceLT, Nat.reduceLeDiff, reduceIte, reduceCtorEq, Nat.reduceEqDiff, implies_true, forall_const, lawV, h1, h4, h5, h8, h9, h10]
    refine callV_sc (sc_WS hB1 (by omega)) ?_
    rintro r b2 ⟨rfl, hb2⟩
    simp only [lawG, ↓Xn, ↓Xo, ↓Xg, ↓Xd, ↓Xe, ↓Xf, Tryz.VΓ, Tryz.Γs, Xp, Xi, Nat.reduceAdd, Nat.reduceSub, Nat.reduceLT, Nat.reduceLeDiff, reduceIte, reduceCtorEq, Nat.reduceEqDiff, implies_true, forall_const, lawV, h1, h4, h5, h8, h9, h10]
    refine ⟨⟨by omega, by omega⟩, ⟨k + 1, by omega, rfl, ?_, ?_, ?_, ?_⟩, ?_⟩
    · rw [hft, hb2]; exact hB1.set
    · rw [hb2, List.length_set]; exact hbl1
    · rw [hb2, List.getElem?_set_ne (by omega)]; exact hbi1
    · intro q hq hne
      rw [hb2, List.getElem?_set_ne (by omega)]; exact hbq1 q hq hne
    · rw [lkI_eq (k := .i64) (n := (k : Int) + 1) rfl]; omega
  · have hie : k = L.length := by omega
    subst hie
    rw [List.take_length] at hB hbi
    have hlf : decide ((L.length : Int) < L.length) = false := by simp
    simp only [lawG, ↓Xn, ↓Xo, ↓Xg, ↓Xd, ↓Xe, ↓Xf, Tryz.VΓ, Tryz.Γs, Xp, Xi, Nat.reduceAdd, Nat.reduceSub, Nat.reduceLT, Nat.reduceLeDiff, reduceIte, reduceCtorEq, Nat.reduceEqDiff, implies_true, forall_const, lawV, h1, h4, h5, h8, h9, h10, hlf]
    refine callV_sc (sc_Str hB) ?_
    rintro r b2 ⟨rfl, hb2⟩
    simp only [lawG, ↓Xn, ↓Xo, ↓Xg, ↓Xd, ↓Xe, ↓Xf, Tryz.VΓ, Tryz.Γs, Xp, Xi, Nat.reduceAdd, Nat.reduceSub, Nat.reduceLT, Nat.reduceLeDiff, reduceIte, reduceCtorEq, Nat.reduceEqDiff, implies_true, forall_const, lawV, h1, h4, h5, h8, h9, h10]
    simp only at hb2
    apply List.ext_getElem?
    intro q
    rw [hb2]
    rcases Nat.lt_trichotomy q bs.length with hq | hq | hq
    · rw [List.getElem?_set_ne (by omega), List.getElem?_append_left (by rw [List.length_set]; exact hq)]
      by_cases hqi : q = i
      · subst hqi; rw [List.getElem?_set_self hq]; exact hbi
      · rw [List.getElem?_set_ne (fun e => hqi e.symm)]; exact hbq q hq hqi
    · subst hq
      rw [List.getElem?_set_self (by omega), List.getElem?_append_right (by simp)]
      simp
    · rw [List.getElem?_eq_none (by simp; omega), List.getElem?_eq_none (by simp; omega)]
theorem length_le_flatten : ∀ {l : List Bytes} {x : Bytes}, x ∈ l → x.length ≤ l.flatten.length
  | y :: l, x, h => by
    rw [List.flatten_cons, List.length_append]
    rcases List.mem_cons.1 h with rfl | h
    · omega
    · have := length_le_flatten h; omega
theorem p_numFormat (n : Nat) (hn : n ≤ 18446744073709551615) : PC Tryz.V 77 [.int .u64 n] (.str (decS n)) :=
  ⟨Tryz.call77, by simp [flat, flat.flatL], by simp [flat, flat.flatL], fun w _ => (number_Format n w hn).mono fun _ _ ⟨h, k⟩ => ⟨h, k⟩⟩
set_option maxRecDepth 20000 in
set_option maxHeartbeats 4000000 in
theorem p_web_ToURL (d : Did) (h : DidFits d) : PC Tryz.V 16 [dsv d] (.tup [wsv (toUrl d).1, .int .i64 (toUrl d).2]) := by
  have pa := p_web_Authority d h
  have hdec := @auth_dec d
  have hha : (didAuth d).2 = 0 → hostPort (hostText (didAuth d).1.1 (didAuth d).1.2) = (((didAuth d).1.1, (didAuth d).1.2), 0) ∧ d.method = webS ∧ (didParse (didText d)).2 = 0 := didAuth_ok
  unfold toUrl
  generalize didAuth d = A at pa hha ⊢
  obtain ⟨⟨x, p⟩, e⟩ := A
  simp only at pa hha ⊢
  refine pc_of 3000 Tryz.func16 rfl Tryz.ntmps16 Tryz.results16 Tryz.call16 (by simp) (by simp [flat, flat.flatL, dsv, wsv]) (by simp [flat, flat.flatL, dsv, wsv]) ?_
  unfold dsv
  unfold dsv at pa
  simp only [lawG, ↓Xn, ↓Xo, ↓Xg, ↓Xd, ↓Xe, ↓Xf, Tryz.VΓ, Tryz.Γs, Xp, Xi, Nat.reduceAdd, Nat.reduceSub, Nat.reduceLT, Nat.reduceLeDiff, reduceIte, reduceCtorEq, Nat.reduceEqDiff, implies_true, forall_const, lawV]
  (refine callV_pc pa ?_; simp only [lawG, ↓Xn, ↓Xo, ↓Xg, ↓Xd, ↓Xe, ↓Xf, Tryz.VΓ, Tryz.Γs, Xp, Xi, Nat.reduceAdd, Nat.reduceSub, Nat.reduceLT, Nat.reduceLeDiff, reduceIte, reduceCtorEq, Nat.reduceEqDiff, implies_true, forall_const, lawV])
  refine ⟨fun h1 => (by rw [if_pos (by simpa using h1)]; rfl), fun h1 => ?_⟩
  have h1 : e = 0 := by simpa using h1
  rw [if_neg (by simp [h1])]
  obtain ⟨hh, hm, hp⟩ := hha h1
  obtain ⟨hl, hseg⟩ := hdec hm hp
  have hsf := split_flat 58 d.id
  obtain ⟨T, hT⟩ := cut_head 58 d.id
  have hsp := split_all 58 d.id
  rw [hT] at hseg hsf hsp ⊢
  generalize (cutC 58 d.id).1 = c at hseg hsf hsp ⊢
  simp only [List.flatten_cons, List.length_append, List.length_cons, List.tail_cons] at hsf ⊢
  refine callV_sc (sc_strSplit d.id [58] _ hsp (by omega) (by decide)) ?_
  rintro r b ⟨rfl, rfl⟩
  simp only [lawG, ↓Xn, ↓Xo, ↓Xg, ↓Xd, ↓Xe, ↓Xf, Tryz.VΓ, Tryz.Γs, Xp, Xi, Nat.reduceAdd, Nat.reduceSub, Nat.reduceLT, Nat.reduceLeDiff, reduceIte, reduceCtorEq, Nat.reduceEqDiff, implies_true, forall_const, lawV]
  have e0 : T.length + 1 - Int.toNat 1 = T.length := by simp
  have e1 : List.drop (Int.toNat 1 * 1) (List.take ((T.length + 1) * 1) (SV.str c :: T.map SV.str)) = T.map SV.str := by
    rw [List.take_of_length_le (by simp)]; simp
  simp only [e0, e1]
  have hfu := flat_up T
  have hfit : ∀ q : Bytes, q.length ≤ 100000 → Fair ⟨x, p, q, [], [], false, false⟩ := fun q hq => by
    obtain ⟨-, -, -, k4, k5, k6⟩ := hostPort_back hh
    exact ⟨by simp only [List.length_nil]; omega, by simp only; omega, by simp only; omega⟩
  refine ⟨⟨by omega, by omega⟩, fun hn => ?_, fun hn => ?_⟩
  · have hT1 : T ≠ [] := by rintro rfl; simp at hn
    refine callV_sc (sc_each_up (i := 6) (j := 5) (m := false) (e := 0) (L := T) rfl rfl (fun y hy => by have := (hseg y (List.mem_cons_of_mem _ hy)).2; omega) (by omega) (by omega)) ?_
    rintro r b ⟨rfl, rfl⟩
    have ep : T.flatMap segUp ++ [47] ++ [100, 105, 100, 46, 106, 115, 111, 110] = toPath T := by
      unfold toPath
      rw [if_neg hT1]
      simp [lastS]
    have hpl : (toPath T).length ≤ 100000 := by rw [← ep]; simp only [List.length_append, List.length_cons, List.length_nil]; omega
    have pf := p_url_Format ⟨x, p, toPath T, [], [], false, false⟩ (hfit _ hpl)
    unfold wsv at pf
    simp only at pf
    rcases Bool.eq_false_or_eq_true (T.all segOk) with hall | hall
    rotate_left
    · simp only [lawG, ↓Xn, ↓Xo, ↓Xg, ↓Xd, ↓Xe, ↓Xf, Tryz.VΓ, Tryz.Γs, Xp, Xi, Nat.reduceAdd, Nat.reduceSub, Nat.reduceLT, Nat.reduceLeDiff, reduceIte, reduceCtorEq, Nat.reduceEqDiff, implies_true, forall_const, lawV, hall, ep, List.set_cons_succ, List.set_cons_zero, List.cons_append, List.nil_append, beq_self_eq_true, bne_self_eq_false, Int.reduceBEq, Int.reduceBNe, Int.reduceLT, Int.reduceLE, Bool.false_eq_true, if_false]
      refine ⟨by omega, by simp only [List.length_append, List.length_cons, List.length_nil]; omega, (OkD_fast (by kernel_rfl)), rfl⟩
    · simp only [lawG, ↓Xn, ↓Xo, ↓Xg, ↓Xd, ↓Xe, ↓Xf, Tryz.VΓ, Tryz.Γs, Xp, Xi, Nat.reduceAdd, Nat.reduceSub, Nat.reduceLT, Nat.reduceLeDiff, reduceIte, reduceCtorEq, Nat.reduceEqDiff, implies_true, forall_const, lawV, hall, ep, List.set_cons_succ, List.set_cons_zero, List.cons_append, List.nil_append, beq_self_eq_true, bne_self_eq_false, Int.reduceBEq, Int.reduceBNe, Int.reduceLT, Int.reduceLE, if_true]
      refine ⟨by omega, by simp only [List.length_append, List.length_cons, List.length_nil]; omega, ?_⟩
      (refine callV_pc pf ?_; simp only [lawG, ↓Xn, ↓Xo, ↓Xg, ↓Xd, ↓Xe, ↓Xf, Tryz.VΓ, Tryz.Γs, Xp, Xi, Nat.reduceAdd, Nat.reduceSub, Nat.reduceLT, Nat.reduceLeDiff, reduceIte, reduceCtorEq, Nat.reduceEqDiff, implies_true, forall_const, lawV])
      unfold toUrlEnd
      exact ⟨fun hl => (by rw [if_pos (by simp only [decide_eq_true_eq, decide_eq_false_iff_not] at hl; omega)]; rfl), fun hl => (by rw [if_neg (by simp only [decide_eq_true_eq, decide_eq_false_iff_not] at hl; omega)]; rfl)⟩
  · obtain rfl : T = [] := by
      cases T with
      | nil => rfl
      | cons => simp at hn
    have pf := p_url_Format ⟨x, p, rootS, [], [], false, false⟩ (hfit rootS (by decide))
    unfold wsv at pf
    have ep : ([47, 46, 119, 101, 108, 108, 45, 107, 110, 111, 119, 110, 47, 100, 105, 100, 46, 106, 115, 111, 110] : Bytes) = rootS := rfl
    rw [ep]
    (refine callV_pc pf ?_; simp only [lawG, ↓Xn, ↓Xo, ↓Xg, ↓Xd, ↓Xe, ↓Xf, Tryz.VΓ, Tryz.Γs, Xp, Xi, Nat.reduceAdd, Nat.reduceSub, Nat.reduceLT, Nat.reduceLeDiff, reduceIte, reduceCtorEq, Nat.reduceEqDiff, implies_true, forall_const, lawV])
    have : toPath [] = rootS := rfl
    rw [this]
    unfold toUrlEnd
    exact ⟨fun hl => (by rw [if_pos (by simp only [decide_eq_true_eq, decide_eq_false_iff_not] at hl; omega)]; rfl), fun hl => (by rw [if_neg (by simp only [decide_eq_true_eq, decide_eq_false_iff_not] at hl; omega)]; rfl)⟩
set_option maxRecDepth 20000 in
set_option maxHeartbeats 4000000 in
theorem p_web_FromURL (u : Url) (hk : Fair u) : PC Tryz.V 31 [wsv u] (.tup [dsv (fromUrl u).1, .int .i64 (fromUrl u).2]) := by
  have pv1 := p_url_Valid u hk
  have hpl := hk.1
  unfold wsv at pv1 ⊢
  cases hv : urlValid u
  · rw [hv] at pv1
    rw [show fromUrl u = (Did.none, 8) from if_pos hv]
    refine pc_of 3000 Tryz.func31 rfl Tryz.ntmps31 Tryz.results31 Tryz.call31 (by simp) (by simp [flat, flat.flatL, dsv, wsv]) (by simp [flat, flat.flatL, dsv, wsv]) ?_
    simp only [lawG, ↓Xn, ↓Xo, ↓Xg, ↓Xd, ↓Xe, ↓Xf, Tryz.VΓ, Tryz.Γs, Xp, Xi, Nat.reduceAdd, Nat.reduceSub, Nat.reduceLT, Nat.reduceLeDiff, reduceIte, reduceCtorEq, Nat.reduceEqDiff, implies_true, forall_const, lawV]
    (refine callV_pc pv1 ?_; simp only [lawG, ↓Xn, ↓Xo, ↓Xg, ↓Xd, ↓Xe, ↓Xf, Tryz.VΓ, Tryz.Γs, Xp, Xi, Nat.reduceAdd, Nat.reduceSub, Nat.reduceLT, Nat.reduceLeDiff, reduceIte, reduceCtorEq, Nat.reduceEqDiff, implies_true, forall_const, lawV, beq_self_eq_true, bne_self_eq_false, Int.reduceBEq, Int.reduceBNe, Int.reduceLT, Int.reduceLE])
    rfl
  obtain ⟨T, z, hT, hzl, hL0, hp4⟩ := valid_split hv
  rw [fromUrl_at hv hT hzl]
  rw [hv] at pv1
  have hsf := split_flat 47 u.path
  have hsp := split_all 47 u.path
  rw [hT] at hsf hsp
  generalize (cutC 47 u.path).1 = c at hsf hsp
  clear hT
  simp only [List.flatten_cons, List.length_append, List.length_cons] at hsf
  have e0 : T.length + 1 - Int.toNat 1 = T.length := by simp
  have e1 : List.drop (Int.toNat 1 * 1) (List.take ((T.length + 1) * 1) (SV.str c :: T.map SV.str)) = T.map SV.str := by
    rw [List.take_of_length_le (by simp)]; simp
  have hz : (T.map SV.str)[((T.length : Int) - 1).toNat * 1]? = some (.str z) := by
    rw [show ((T.length : Int) - 1).toNat * 1 = T.length - 1 by omega, List.getElem?_map, ← List.getLast?_eq_getElem?, hzl]
    rfl
  refine pc_of 3000 Tryz.func31 rfl Tryz.ntmps31 Tryz.results31 Tryz.call31 (by simp) (by simp [flat, flat.flatL, dsv, wsv]) (by simp [flat, flat.flatL, dsv, wsv]) ?_
  simp only [lawG, ↓Xn, ↓Xo, ↓Xg, ↓Xd, ↓Xe, ↓Xf, Tryz.VΓ, Tryz.Γs, Xp, Xi, Nat.reduceAdd, Nat.reduceSub, Nat.reduceLT, Nat.reduceLeDiff, reduceIte, reduceCtorEq, Nat.reduceEqDiff, implies_true, forall_const, lawV]
  (refine callV_pc pv1 ?_; simp only [lawG, ↓Xn, ↓Xo, ↓Xg, ↓Xd, ↓Xe, ↓Xf, Tryz.VΓ, Tryz.Γs, Xp, Xi, Nat.reduceAdd, Nat.reduceSub, Nat.reduceLT, Nat.reduceLeDiff, reduceIte, reduceCtorEq, Nat.reduceEqDiff, implies_true, forall_const, lawV, beq_self_eq_true, bne_self_eq_false, Int.reduceBEq, Int.reduceBNe, Int.reduceLT, Int.reduceLE])
  refine callV_sc (sc_strSplit u.path [47] _ hsp (by omega) (by decide)) ?_
  rintro r b ⟨rfl, rfl⟩
  simp only [lawG, ↓Xn, ↓Xo, ↓Xg, ↓Xd, ↓Xe, ↓Xf, Tryz.VΓ, Tryz.Γs, Xp, Xi, Nat.reduceAdd, Nat.reduceSub, Nat.reduceLT, Nat.reduceLeDiff, reduceIte, reduceCtorEq, Nat.reduceEqDiff, implies_true, forall_const, lawV, e0, e1, hz]
  have hzS : (z != [100, 105, 100, 46, 106, 115, 111, 110]) = (z != lastS) := rfl
  have hrS : (u.path != [47, 46, 119, 101, 108, 108, 45, 107, 110, 111, 119, 110, 47, 100, 105, 100, 46, 106, 115, 111, 110]) = (u.path != rootS) := rfl
  rw [hzS, hrS]
  have hcan := valid_can hv
  obtain ⟨-, -, -, k4, k5, k6⟩ := hostPort_back hcan.host
  have hwrap : IntKind.u64.wrap u.port = (u.port.natAbs : Int) := by
    simp only [IntKind.wrap, IntKind.signed, IntKind.bits]
    simp
    omega
  have hdl : T.dropLast.length = T.length - 1 := List.length_dropLast ..
  have e2 : ((T.length : Int) - 1).toNat = T.dropLast.length := by omega
  have e3 : List.take (T.dropLast.length * 1) (T.map SV.str) = T.dropLast.map SV.str := by
    rw [Nat.mul_one, hdl, List.dropLast_eq_take, List.map_take]
  have hdf : T.dropLast.flatten.length ≤ T.flatten.length := by
    rw [List.dropLast_eq_take]
    have := congrArg (fun l => (List.flatten l).length) (List.take_append_drop (T.length - 1) T)
    simp only [List.flatten_append, List.length_append] at this
    omega
  have hdm : ∀ x ∈ T.dropLast, x.length ≤ 16384 := fun x hx => by
    have := length_le_flatten hx
    omega
  have hfd := flat_down T.dropLast
  have hfit : ∀ q : Bytes, q.length ≤ 100000 → DidFits ⟨webS, q⟩ := fun q hq => ⟨show webS.length ≤ _ by decide, show q.length ≤ _ by omega⟩
  simp only [e2, e3]
  refine ⟨⟨by omega, by omega⟩, fun hq => ⟨fun hf => ⟨⟨by omega, by omega⟩, ⟨by omega, by omega⟩, by simp; omega, fun hz1 => ?_, fun hz1 => ⟨fun hl1 => ?_, fun hl1 => ⟨fun hp => ?_, fun hp => ?_⟩⟩⟩, fun hf => ?_⟩, fun hq => ?_⟩
  · rw [if_neg (by rw [hq]; simp), if_neg (by rw [hf]; simp), if_pos hz1]; rfl
  · rw [if_neg (by rw [hq]; simp), if_neg (by rw [hf]; simp), if_neg (by rw [hz1]; simp), if_pos (by simp at hl1; omega)]; rfl
  · rw [if_neg (by rw [hq]; simp), if_neg (by rw [hf]; simp), if_neg (by rw [hz1]; simp), if_neg (by simp at hl1; omega)]
    have hp0 : ¬ u.port = 0 := by simpa using hp
    have hib : idBase u = u.host ++ ([37, 51, 65] ++ decS u.port.natAbs) := by unfold idBase; rw [if_neg hp0]
    rw [hwrap]
    have pn := p_numFormat u.port.natAbs (by omega)
    have hdc := decS_length 19 u.port.natAbs (by omega)
    (refine callD_pc pn ?_; simp only [lawG, ↓Xn, ↓Xo, ↓Xg, ↓Xd, ↓Xe, ↓Xf, Tryz.VΓ, Tryz.Γs, Xp, Xi, Nat.reduceAdd, Nat.reduceSub, Nat.reduceLT, Nat.reduceLeDiff, reduceIte, reduceCtorEq, Nat.reduceEqDiff, implies_true, forall_const, lawV])
    rw [hrS]
    simp only [e2, e3]
    refine ⟨by omega, by omega, (OkD_fast (by kernel_rfl)), ?_⟩
    have hBl : (u.host ++ 37 :: 51 :: 65 :: decS u.port.natAbs).length ≤ 300 := by simp only [List.length_append, List.length_cons]; omega
    have hib : idBase u = u.host ++ 37 :: 51 :: 65 :: decS u.port.natAbs := hib
    refine ⟨fun hr => ⟨⟨by omega, by omega⟩, ⟨by omega, by omega⟩, ?_⟩, fun hr => ?_⟩
    · unfold fromSegs
      rw [if_neg (by simpa using hr), hib]
      rcases Bool.eq_false_or_eq_true (T.dropLast.all downOk) with hall | hall
      · rw [if_neg (by rw [hall]; simp)]
        have pf := p_did_FormatDID ⟨webS, (u.host ++ 37 :: 51 :: 65 :: decS u.port.natAbs) ++ T.dropLast.flatMap segDown⟩ (hfit _ (by rw [List.length_append]; omega))
        unfold dsv at pf
        simp only at pf
        refine callD_scw [(5, 0, 0), (7, 0, 0)] (sc_each_down (i := 5) (j := 6) (m := false) (e := 0) (L := T.dropLast) rfl rfl hdm (by omega) (by omega)) (outs_each (i := 5) _ _ rfl) ?_
        simp only [lawG, ↓Xn, ↓Xo, ↓Xg, ↓Xd, ↓Xe, ↓Xf, Tryz.VΓ, Tryz.Γs, Xp, Xi, Nat.reduceAdd, Nat.reduceSub, Nat.reduceLT, Nat.reduceLeDiff, reduceIte, reduceCtorEq, Nat.reduceEqDiff, implies_true, forall_const, lawV, hall, List.set_cons_succ, List.set_cons_zero, List.cons_append, List.nil_append, beq_self_eq_true, bne_self_eq_false, Int.reduceBEq, Int.reduceBNe, Int.reduceLT, Int.reduceLE, if_true]
        refine ⟨by omega, (OkD_fast (by kernel_rfl)), ?_⟩
        (refine callV_pc pf ?_; simp only [lawG, ↓Xn, ↓Xo, ↓Xg, ↓Xd, ↓Xe, ↓Xf, Tryz.VΓ, Tryz.Γs, Xp, Xi, Nat.reduceAdd, Nat.reduceSub, Nat.reduceLT, Nat.reduceLeDiff, reduceIte, reduceCtorEq, Nat.reduceEqDiff, implies_true, forall_const, lawV])
        unfold fromEnd
        exact ⟨fun hl => (by rw [if_pos (by simp only [decide_eq_true_eq, decide_eq_false_iff_not] at hl; omega)]; rfl), fun hl => (by rw [if_neg (by simp only [decide_eq_true_eq, decide_eq_false_iff_not] at hl; omega)]; rfl)⟩
      · rw [if_pos hall]
        refine callD_scw [(5, 0, 0), (7, 0, 0)] (sc_each_down (i := 5) (j := 6) (m := false) (e := 0) (L := T.dropLast) rfl rfl hdm (by omega) (by omega)) (outs_each (i := 5) _ _ rfl) ?_
        simp only [lawG, ↓Xn, ↓Xo, ↓Xg, ↓Xd, ↓Xe, ↓Xf, Tryz.VΓ, Tryz.Γs, Xp, Xi, Nat.reduceAdd, Nat.reduceSub, Nat.reduceLT, Nat.reduceLeDiff, reduceIte, reduceCtorEq, Nat.reduceEqDiff, implies_true, forall_const, lawV, hall, List.set_cons_succ, List.set_cons_zero, List.cons_append, List.nil_append, beq_self_eq_true, bne_self_eq_false, Int.reduceBEq, Int.reduceBNe, Int.reduceLT, Int.reduceLE, Bool.false_eq_true, if_false]
        exact ⟨by omega, (OkD_fast (by kernel_rfl)), (OkD_fast (by kernel_rfl)), rfl⟩
    · unfold fromSegs
      rw [if_pos (by simpa using hr), hib]
      have pf := p_did_FormatDID ⟨webS, (u.host ++ 37 :: 51 :: 65 :: decS u.port.natAbs)⟩ (hfit _ (by omega))
      unfold dsv at pf
      simp only at pf
      (refine callV_pc pf ?_; simp only [lawG, ↓Xn, ↓Xo, ↓Xg, ↓Xd, ↓Xe, ↓Xf, Tryz.VΓ, Tryz.Γs, Xp, Xi, Nat.reduceAdd, Nat.reduceSub, Nat.reduceLT, Nat.reduceLeDiff, reduceIte, reduceCtorEq, Nat.reduceEqDiff, implies_true, forall_const, lawV])
      unfold fromEnd
      exact ⟨fun hl => (by rw [if_pos (by simp only [decide_eq_true_eq, decide_eq_false_iff_not] at hl; omega)]; rfl), fun hl => (by rw [if_neg (by simp only [decide_eq_true_eq, decide_eq_false_iff_not] at hl; omega)]; rfl)⟩
  · rw [if_neg (by rw [hq]; simp), if_neg (by rw [hf]; simp), if_neg (by rw [hz1]; simp), if_neg (by simp at hl1; omega)]
    have hp0 : u.port = 0 := by simpa using hp
    have hib : idBase u = u.host := by unfold idBase; rw [if_pos hp0, List.append_nil]
    have hBl : u.host.length ≤ 300 := by omega
    refine ⟨fun hr => ⟨⟨by omega, by omega⟩, ⟨by omega, by omega⟩, ?_⟩, fun hr => ?_⟩
    · unfold fromSegs
      rw [if_neg (by simpa using hr), hib]
      rcases Bool.eq_false_or_eq_true (T.dropLast.all downOk) with hall | hall
      · rw [if_neg (by rw [hall]; simp)]
        have pf := p_did_FormatDID ⟨webS, u.host ++ T.dropLast.flatMap segDown⟩ (hfit _ (by rw [List.length_append]; omega))
        unfold dsv at pf
        simp only at pf
        refine callD_scw [(5, 0, 0), (7, 0, 0)] (sc_each_down (i := 5) (j := 6) (m := false) (e := 0) (L := T.dropLast) rfl rfl hdm (by omega) (by omega)) (outs_each (i := 5) _ _ rfl) ?_
        simp only [lawG, ↓Xn, ↓Xo, ↓Xg, ↓Xd, ↓Xe, ↓Xf, Tryz.VΓ, Tryz.Γs, Xp, Xi, Nat.reduceAdd, Nat.reduceSub, Nat.reduceLT, Nat.reduceLeDiff, reduceIte, reduceCtorEq, Nat.reduceEqDiff, implies_true, forall_const, lawV, hall, List.set_cons_succ, List.set_cons_zero, List.cons_append, List.nil_append, beq_self_eq_true, bne_self_eq_false, Int.reduceBEq, Int.reduceBNe, Int.reduceLT, Int.reduceLE, if_true]
        refine ⟨by omega, (OkD_fast (by kernel_rfl)), ?_⟩
        (refine callV_pc pf ?_; simp only [lawG, ↓Xn, ↓Xo, ↓Xg, ↓Xd, ↓Xe, ↓Xf, Tryz.VΓ, Tryz.Γs, Xp, Xi, Nat.reduceAdd, Nat.reduceSub, Nat.reduceLT, Nat.reduceLeDiff, reduceIte, reduceCtorEq, Nat.reduceEqDiff, implies_true, forall_const, lawV])
        unfold fromEnd
        exact ⟨fun hl => (by rw [if_pos (by simp only [decide_eq_true_eq, decide_eq_false_iff_not] at hl; omega)]; rfl), fun hl => (by rw [if_neg (by simp only [decide_eq_true_eq, decide_eq_false_iff_not] at hl; omega)]; rfl)⟩
      · rw [if_pos hall]
        refine callD_scw [(5, 0, 0), (7, 0, 0)] (sc_each_down (i := 5) (j := 6) (m := false) (e := 0) (L := T.dropLast) rfl rfl hdm (by omega) (by omega)) (outs_each (i := 5) _ _ rfl) ?_
        simp only [lawG, ↓Xn, ↓Xo, ↓Xg, ↓Xd, ↓Xe, ↓Xf, Tryz.VΓ, Tryz.Γs, Xp, Xi, Nat.reduceAdd, Nat.reduceSub, Nat.reduceLT, Nat.reduceLeDiff, reduceIte, reduceCtorEq, Nat.reduceEqDiff, implies_true, forall_const, lawV, hall, List.set_cons_succ, List.set_cons_zero, List.cons_append, List.nil_append, beq_self_eq_true, bne_self_eq_false, Int.reduceBEq, Int.reduceBNe, Int.reduceLT, Int.reduceLE, Bool.false_eq_true, if_false]
        exact ⟨by omega, (OkD_fast (by kernel_rfl)), (OkD_fast (by kernel_rfl)), rfl⟩
    · unfold fromSegs
      rw [if_pos (by simpa using hr), hib]
      have pf := p_did_FormatDID ⟨webS, u.host⟩ (hfit _ (by omega))
      unfold dsv at pf
      simp only at pf
      (refine callV_pc pf ?_; simp only [lawG, ↓Xn, ↓Xo, ↓Xg, ↓Xd, ↓Xe, ↓Xf, Tryz.VΓ, Tryz.Γs, Xp, Xi, Nat.reduceAdd, Nat.reduceSub, Nat.reduceLT, Nat.reduceLeDiff, reduceIte, reduceCtorEq, Nat.reduceEqDiff, implies_true, forall_const, lawV])
      unfold fromEnd
      exact ⟨fun hl => (by rw [if_pos (by simp only [decide_eq_true_eq, decide_eq_false_iff_not] at hl; omega)]; rfl), fun hl => (by rw [if_neg (by simp only [decide_eq_true_eq, decide_eq_false_iff_not] at hl; omega)]; rfl)⟩
  · rw [if_neg (by rw [hq]; simp), if_pos hf]; rfl
  · rw [if_pos hq]; rfl
theorem can_fair {u : Url} (h : CanUrl u) : Fair u := by
  have h1 := urlText_len u
  have h2 := h.len
  obtain ⟨-, -, -, k4, k5, k6⟩ := hostPort_back h.host
  refine ⟨?_, by omega, by omega⟩
  have hq : u.query.length ≤ 4096 := by
    cases hb : u.hasQuery
    · rw [h.noq hb]; simp
    · have := h1.2.1 hb; omega
  have hf : u.fragment.length ≤ 4096 := by
    cases hb : u.hasFrag
    · rw [h.nof hb]; simp
    · have := h1.2.2 hb; omega
  omega
theorem toUrl_fair (d : Did) (h : (toUrl d).2 = 0) : Fair (toUrl d).1 := can_fair (toUrl_can (d := d) (u := (toUrl d).1) (by rw [← h])).1
set_option maxHeartbeats 2000000 in
theorem p_web_Canonical (d : Did) (h : DidFits d) : PC Tryz.V 36 [dsv d] (.tup [dsv (didCano d).1, .int .i64 (didCano d).2]) := by
  have pt := p_web_ToURL d h
  have hfair := toUrl_fair d
  unfold didCano
  generalize toUrl d = X at pt hfair ⊢
  obtain ⟨u, e⟩ := X
  simp only at pt hfair ⊢
  refine pc_of 3000 Tryz.func36 rfl Tryz.ntmps36 Tryz.results36 Tryz.call36 (by simp) (by simp [flat, flat.flatL, dsv, wsv]) (by simp [flat, flat.flatL, dsv, wsv]) ?_
  unfold dsv
  unfold dsv wsv at pt
  simp only [lawG, ↓Xn, ↓Xo, ↓Xg, ↓Xd, ↓Xe, ↓Xf, Tryz.VΓ, Tryz.Γs, Xp, Xi, Nat.reduceAdd, Nat.reduceSub, Nat.reduceLT, Nat.reduceLeDiff, reduceIte, reduceCtorEq, Nat.reduceEqDiff, implies_true, forall_const, lawV]
  (refine callV_pc pt ?_; simp only [lawG, ↓Xn, ↓Xo, ↓Xg, ↓Xd, ↓Xe, ↓Xf, Tryz.VΓ, Tryz.Γs, Xp, Xi, Nat.reduceAdd, Nat.reduceSub, Nat.reduceLT, Nat.reduceLeDiff, reduceIte, reduceCtorEq, Nat.reduceEqDiff, implies_true, forall_const, lawV])
  refine ⟨fun h1 => (by rw [if_pos (by simpa using h1)]; rfl), fun h1 => ?_⟩
  rw [if_neg (by simpa using h1)]
  have pf := p_web_FromURL u (hfair (by simpa using h1))
  unfold dsv wsv at pf
  (refine callV_pc pf ?_; simp only [lawG, ↓Xn, ↓Xo, ↓Xg, ↓Xd, ↓Xe, ↓Xf, Tryz.VΓ, Tryz.Γs, Xp, Xi, Nat.reduceAdd, Nat.reduceSub, Nat.reduceLT, Nat.reduceLeDiff, reduceIte, reduceCtorEq, Nat.reduceEqDiff, implies_true, forall_const, lawV])
end Go.Proofs.YtcndmooeglfilaaGreatDoor
/- The walks of the reference for package didweb. -/
set_option linter.all false
set_option maxRecDepth 20000
namespace Go.Proofs.YtcndmooeglfilaaGreatDoor
open Go Vc Go.RowKit Wf
set_option linter.unusedSimpArgs false
theorem p_r5_Decimal (p : Int) (h1 : 0 ≤ p) (h2 : p ≤ 9223372036854775807) : PC Tryz.V 79 [.int .i64 p] (.str (decS p.natAbs)) :=
  ⟨Tryz.call79, by simp [flat, flat.flatL], by simp [flat, flat.flatL], fun w _ => (ref05_Decimal p w (by omega) h2).mono fun _ _ ⟨h, k⟩ => ⟨by rw [h, if_neg (by omega)]; rfl, k⟩⟩
set_option maxRecDepth 20000 in
set_option maxHeartbeats 2000000 in
theorem sc_r11_first {bs : List Res} (d : Did) (h : DidFits d) : SC Tryz.V 82 [dsv d] bs (fun r b => Kp bs b ∧ ∃ x, r = .tup [x, .agg [.str (didAuth d).1.1, .int .i64 (didAuth d).1.2], .int .i64 (didAuth d).2] ∧
    ((didAuth d).2 = 0 → ∃ j, x = .o j (splitC 58 d.id).length ∧ bs.length ≤ j ∧ b[j]? = some (.own ((splitC 58 d.id).map SV.str) 9 1 (splitC 58 d.id).length true))) := by
  have pf := p_r10_FormatDID d h
  have pp := p_r10_ParseDID (didText d)
  have hf := @auth_first d
  have hd := @auth_dec d
  refine sc_of 3000 Tryz.func82 rfl Tryz.ntmps82 Tryz.results82 Tryz.call82 (by simp) (fun β β' hb => concL_within bs.length _ (by simp [within, within.withinL, dsv]) β β' hb) ?_
  unfold dsv
  unfold dsv at pf pp
  unfold didAuth
  simp only [lawG, ↓Xn, ↓Xo, ↓Xg, ↓Xd, ↓Xe, ↓Xf, Tryz.VΓ, Tryz.Γs, Xp, Xi, Nat.reduceAdd, Nat.reduceSub, Nat.reduceLT, Nat.reduceLeDiff, reduceIte, reduceCtorEq, Nat.reduceEqDiff, implies_true, forall_const, lawV, at_new, at_prev, at_prev2, at_prev3, set_new, set_prev, set_prev2]
  refine ⟨fun h1 => ?_, fun h1 => ?_⟩
  · rw [if_pos (by simpa [webS] using h1)]
    refine ⟨((Kp.refl _).app _).app _, .nils, rfl, fun k => by simp at k⟩
  have h1 : d.method = webS := by simpa [webS] using h1
  rw [if_neg (by simp [h1])]
  (refine callV_pc pf ?_; simp only [lawG, ↓Xn, ↓Xo, ↓Xg, ↓Xd, ↓Xe, ↓Xf, Tryz.VΓ, Tryz.Γs, Xp, Xi, Nat.reduceAdd, Nat.reduceSub, Nat.reduceLT, Nat.reduceLeDiff, reduceIte, reduceCtorEq, Nat.reduceEqDiff, implies_true, forall_const, lawV, at_new, at_prev, at_prev2, at_prev3, set_new, set_prev, set_prev2])
  (refine callV_pc pp ?_; simp only [lawG, ↓Xn, ↓Xo, ↓Xg, ↓Xd, ↓Xe, ↓Xf, Tryz.VΓ, Tryz.Γs, Xp, Xi, Nat.reduceAdd, Nat.reduceSub, Nat.reduceLT, Nat.reduceLeDiff, reduceIte, reduceCtorEq, Nat.reduceEqDiff, implies_true, forall_const, lawV, at_new, at_prev, at_prev2, at_prev3, set_new, set_prev, set_prev2])
  refine ⟨fun h2 => ?_, fun h2 => ?_⟩
  · rw [if_pos (by simpa using h2)]
    refine ⟨(((Kp.refl _).app _).app _).app _, .nils, rfl, fun k => absurd k (by simpa using h2)⟩
  have h2 : (didParse (didText d)).2 = 0 := by simpa using h2
  rw [if_neg (by simp [h2])]
  have hf := hf h1 h2
  have hd := hd h1 h2
  obtain ⟨T, hT⟩ := cut_head 58 d.id
  have pd := p_r3_Decode (cutC 58 d.id).1
  rw [hf] at pd ⊢
  have hl1 := cutC_len 58 d.id
  have hl2 := decV_len (cutC 58 d.id).1
  have ph := p_r5_Parse (decV (cutC 58 d.id).1) (by omega)
  refine callV_sc (sc_Split d.id 58 (by omega)) ?_
  rintro r b ⟨j, rfl, hLj, hj, hkp⟩
  rw [hT] at hj ⊢
  generalize (cutC 58 d.id).1 = c at *
  simp only at hLj hkp hj
  have hz1 := hkp.at (at_prev _ _ _)
  have hkb : Kp bs b := ((((Kp.refl bs).app _).app _).app _).trans hkp
  have hbl : bs.length ≤ b.length := hkb.1
  simp only [List.length_append, List.length_cons, List.length_nil] at hLj
  have hjl := (List.getElem?_eq_some_iff.1 hj).1
  have hn1 : ∀ X : Res, (bs ++ [X]).length = bs.length + 1 := fun X => by simp
  rw [hn1] at hz1
  have hs1 : ∀ X, (b.set (bs.length + 1) X)[bs.length + 1]? = some X := fun X => List.getElem?_set_self (List.getElem?_eq_some_iff.1 hz1).1
  simp only [lawG, ↓Xn, ↓Xo, ↓Xg, ↓Xd, ↓Xe, ↓Xf, Tryz.VΓ, Tryz.Γs, Xp, Xi, Nat.reduceAdd, Nat.reduceSub, Nat.reduceLT, Nat.reduceLeDiff, reduceIte, reduceCtorEq, Nat.reduceEqDiff, implies_true, forall_const, lawV, hj, hz1, hn1, hs1, List.map_cons, List.getElem?_cons_zero, Int.toNat_zero, Nat.zero_mul]
  refine ⟨⟨by omega, by omega⟩, ?_⟩
  (refine callV_pc pd ?_; simp only [lawG, ↓Xn, ↓Xo, ↓Xg, ↓Xd, ↓Xe, ↓Xf, Tryz.VΓ, Tryz.Γs, Xp, Xi, Nat.reduceAdd, Nat.reduceSub, Nat.reduceLT, Nat.reduceLeDiff, reduceIte, reduceCtorEq, Nat.reduceEqDiff, implies_true, forall_const, lawV, hj, hz1, hn1, hs1])
  have hzo := fun X => at_old hz1 [X]
  have hzl := (List.getElem?_eq_some_iff.1 hz1).1
  have hs2 : ∀ X Y, ((b ++ [X]).set (bs.length + 1) Y)[bs.length + 1]? = some Y := fun X Y => List.getElem?_set_self (by simp; omega)
  (refine callV_pc ph ?_; simp only [lawG, ↓Xn, ↓Xo, ↓Xg, ↓Xd, ↓Xe, ↓Xf, Tryz.VΓ, Tryz.Γs, Xp, Xi, Nat.reduceAdd, Nat.reduceSub, Nat.reduceLT, Nat.reduceLeDiff, reduceIte, reduceCtorEq, Nat.reduceEqDiff, implies_true, forall_const, lawV, hj, hz1, hn1, hs1, at_new, set_new, hzo, hs2])
  have hne : ¬ b.length = bs.length + 1 := by omega
  refine ⟨(by
    refine OkD_ren (fun n => if n = (bs.length + 1) then 0 else 1) ?_
    simp only [List.map_cons, List.map_nil, renRk, renT, reduceIte, hne]
    exact OkD_fast (by kernel_rfl)), (hkb.app _).set (by omega) _, .o j (T.length + 1), rfl, fun _ => ⟨j, rfl, by omega, ?_⟩⟩
  rw [List.getElem?_set_ne (by omega)]
  exact at_old hj _
set_option maxHeartbeats 2000000 in
theorem p_r11_Authority (d : Did) (h : DidFits d) : PC Tryz.V 34 [dsv d] (.tup [.agg [.str (didAuth d).1.1, .int .i64 (didAuth d).1.2], .int .i64 (didAuth d).2]) := by
  have hf := fun (bs : List Res) => sc_r11_first (bs := bs) d h
  unfold dsv at hf
  refine pc_of 3000 Tryz.func34 rfl Tryz.ntmps34 Tryz.results34 Tryz.call34 (by simp) (by simp [flat, flat.flatL, dsv, wsv]) (by simp [flat, flat.flatL, dsv, wsv]) ?_
  unfold dsv
  simp only [lawG, ↓Xn, ↓Xo, ↓Xg, ↓Xd, ↓Xe, ↓Xf, Tryz.VΓ, Tryz.Γs, Xp, Xi, Nat.reduceAdd, Nat.reduceSub, Nat.reduceLT, Nat.reduceLeDiff, reduceIte, reduceCtorEq, Nat.reduceEqDiff, implies_true, forall_const, lawV]
  refine callV_sc (hf _) ?_
  rintro r b ⟨hkp, x, rfl, -⟩
  have hb1 := hkp.at (j := 1) rfl
  have hbl := (List.getElem?_eq_some_iff.1 hb1).1
  have hbo1 := fun X => at_old hb1 [X]
  have hbs1 : ∀ X Y, ((b ++ [X]).set 1 Y)[1]? = some Y := fun X Y => List.getElem?_set_self (by simp; omega)
  simp only [lawG, ↓Xn, ↓Xo, ↓Xg, ↓Xd, ↓Xe, ↓Xf, Tryz.VΓ, Tryz.Γs, Xp, Xi, Nat.reduceAdd, Nat.reduceSub, Nat.reduceLT, Nat.reduceLeDiff, reduceIte, reduceCtorEq, Nat.reduceEqDiff, implies_true, forall_const, lawV, hb1, hbo1, hbs1, at_new, set_new]
set_option maxRecDepth 20000 in
set_option maxHeartbeats 4000000 in
theorem p_r11_ToURL (d : Did) (h : DidFits d) : PC Tryz.V 35 [dsv d] (.tup [wsv (toUrl d).1, .int .i64 (toUrl d).2]) := by
  have hf := fun (bs : List Res) => sc_r11_first (bs := bs) d h
  have hdec := @auth_dec d
  have hha := @didAuth_ok d
  unfold dsv at hf
  unfold toUrl
  generalize didAuth d = A at hf hha ⊢
  obtain ⟨⟨x, p⟩, e⟩ := A
  simp only at hf hha ⊢
  refine pc_of 3000 Tryz.func35 rfl Tryz.ntmps35 Tryz.results35 Tryz.call35 (by simp) (by simp [flat, flat.flatL, dsv, wsv]) (by simp [flat, flat.flatL, dsv, wsv]) ?_
  unfold dsv
  simp only [lawG, ↓Xn, ↓Xo, ↓Xg, ↓Xd, ↓Xe, ↓Xf, Tryz.VΓ, Tryz.Γs, Xp, Xi, Nat.reduceAdd, Nat.reduceSub, Nat.reduceLT, Nat.reduceLeDiff, reduceIte, reduceCtorEq, Nat.reduceEqDiff, implies_true, forall_const, lawV]
  refine callV_sc (hf _) ?_
  rintro r b ⟨hkp, y, rfl, hx⟩
  have hb1 := hkp.at (j := 1) rfl
  have hbl := (List.getElem?_eq_some_iff.1 hb1).1
  have hbo1 := fun X => at_old hb1 [X]
  have hbs1 : ∀ X Y, ((b ++ [X]).set 1 Y)[1]? = some Y := fun X Y => List.getElem?_set_self (by simp; omega)
  simp only [lawG, ↓Xn, ↓Xo, ↓Xg, ↓Xd, ↓Xe, ↓Xf, Tryz.VΓ, Tryz.Γs, Xp, Xi, Nat.reduceAdd, Nat.reduceSub, Nat.reduceLT, Nat.reduceLeDiff, reduceIte, reduceCtorEq, Nat.reduceEqDiff, implies_true, forall_const, lawV, hb1, hbo1, hbs1, at_new, set_new]
  refine ⟨fun h1 => (by rw [if_pos (by simpa using h1)]; rfl), fun h1 => ?_⟩
  have h1 : e = 0 := by simpa using h1
  rw [if_neg (by simp [h1])]
  obtain ⟨hh, hm, hp⟩ := hha h1
  obtain ⟨hl, hseg⟩ := hdec hm hp
  obtain ⟨j, rfl, hLj, hj⟩ := hx h1
  have hsf := split_flat 58 d.id
  obtain ⟨T, hT⟩ := cut_head 58 d.id
  rw [hT] at hseg hsf hj ⊢
  generalize (cutC 58 d.id).1 = c at hseg hsf hj ⊢
  simp only [List.flatten_cons, List.length_append, List.length_cons, List.tail_cons, List.map_cons] at hsf hj ⊢
  have hjl := (List.getElem?_eq_some_iff.1 hj).1
  have hjo := fun X => at_old hj [X]
  simp only [List.length_cons, List.length_nil] at hLj
  simp only [lawG, ↓Xn, ↓Xo, ↓Xg, ↓Xd, ↓Xe, ↓Xf, Tryz.VΓ, Tryz.Γs, Xp, Xi, Nat.reduceAdd, Nat.reduceSub, Nat.reduceLT, Nat.reduceLeDiff, reduceIte, reduceCtorEq, Nat.reduceEqDiff, implies_true, forall_const, lawV, hb1, hbo1, hbs1, at_new, set_new, hj, hjo]
  refine ⟨⟨by omega, by omega⟩, ?_⟩
  have e0 : T.length + 1 - Int.toNat 1 = T.length := by simp
  have e1 : List.drop (Int.toNat 1 * 1) (List.take ((T.length + 1) * 1) (SV.str c :: T.map SV.str)) = T.map SV.str := by
    rw [List.take_of_length_le (by simp)]; simp
  simp only [e0, e1]
  have hfu := flat_up T
  have hfit : ∀ q : Bytes, q.length ≤ 100000 → Fair ⟨x, p, q, [], [], false, false⟩ := fun q hq => by
    obtain ⟨-, -, -, k4, k5, k6⟩ := hostPort_back hh
    exact ⟨by simp only [List.length_nil]; omega, by simp only; omega, by simp only; omega⟩
  refine loopV_mk (fun σ => ∃ k : Nat, k ≤ T.length ∧ lk 2 σ.t = some (.p 1 0) ∧ lk 3 σ.t = some (.int .i64 0) ∧ lk 4 σ.t = some (.o j (T.length + 1)) ∧ lk 5 σ.t = some (.p b.length 0) ∧ lk 7 σ.t = some (.str ((T.take k).flatMap segUp)) ∧ lk 24 σ.t = some (.o (b.length + 1) T.length) ∧ lk 25 σ.t = some (.int .i64 T.length) ∧ lk 26 σ.t = some (.int .i64 k) ∧
    σ.b[1]? = some (.cells [.str [], .int .i64 0, .str [], .str [], .str [], .bool false, .bool false] 29 true) ∧ σ.b[b.length]? = some (.cells [.str x, .int .i64 p] 33 true) ∧ σ.b[b.length + 1]? = some (.own (T.map SV.str) 9 1 T.length false) ∧ (∃ c m, σ.b[j]? = some (.own c 9 1 (T.length + 1) m)) ∧ (T.take k).all segOk = true) (fun σ => T.length - lkI 26 σ)
    ⟨0, by omega, rfl, rfl, rfl, rfl, rfl, rfl, rfl, rfl, at_old (by rw [List.getElem?_set_ne (by omega)]; exact hbo1 _) _, at_old (by rw [List.getElem?_set_ne (by omega)]; exact at_new _ _) _, (by rw [List.getElem?_append_right (by simp)]; simp), ⟨_, _, at_old (List.getElem?_set_self (by simp; omega)) _⟩, rfl⟩ ?_
  have hbL : 1 < b.length := hbl
  clear hj hjo hb1 hbo1 hbs1 hkp hx
  generalize b.length = N at *
  rintro ⟨t, B⟩ ⟨k, hk, h2, h3, h4, h5, h7, h24, h25, h26, hB1, hBN, hBr, ⟨cj, mj, hBj⟩, hok⟩
  simp only at h2 h3 h4 h5 h7 h24 h25 h26 hB1 hBN hBr hBj
  rw [lkI_eq h26]
  have hfl := flat_take_le (g := segUp) (L := T) (k := k)
  have hB11 : ∀ X, (B.set 1 X)[1]? = some X := fun X => List.getElem?_set_self (List.getElem?_eq_some_iff.1 hB1).1
  by_cases hlt : k < T.length
  · have hx : (T.map SV.str)[k * 1]? = some (.str T[k]) := by simp [hlt]
    have hsg := hseg T[k] (List.mem_cons_of_mem _ (List.getElem_mem hlt))
    have hft := flat_take (g := segUp) hlt
    have pd := p_r3_Decode T[k]
    have hup : segUp T[k] = 47 :: pctEncode [] (pctDecode T[k]).1 := rfl
    have hdl := pctDecode_len T[k]
    have hel := pctEncode_len [] (pctDecode T[k]).1
    have pe := p_r3_Encode (pctDecode T[k]).1 [] (by omega) (by simp)
    have hso : segOk T[k] = !((((pctDecode T[k]).1 == []) || ((pctDecode T[k]).1 == [46])) || ((pctDecode T[k]).1 == [46, 46])) := by
      have hd0 : (pctDecode T[k]).2 = 0 := by rw [decode_seg (by omega), if_neg hsg.1]
      unfold segOk
      rw [hd0]
      cases h2 : (pctDecode T[k]).1 == [] <;> cases h3 : (pctDecode T[k]).1 == [46] <;> cases h4 : (pctDecode T[k]).1 == [46, 46] <;> simp_all [bne]
    have hbad : segOk T[k] = false → T.all segOk = false := fun h => all_not hlt h
    have hgood : segOk T[k] = true → (T.take (k + 1)).all segOk = true := fun h => all_take_snoc hlt hok h
    simp only [lawG, ↓Xn, ↓Xo, ↓Xg, ↓Xd, ↓Xe, ↓Xf, Tryz.VΓ, Tryz.Γs, Xp, Xi, Nat.reduceAdd, Nat.reduceSub, Nat.reduceLT, Nat.reduceLeDiff, reduceIte, reduceCtorEq, Nat.reduceEqDiff, implies_true, forall_const, lawV, h2, h3, h4, h5, h7, h24, h25, h26, hB1, hBN, hBr, hx]
    refine ⟨fun _ => ⟨⟨by omega, by omega⟩, by simp; omega, ?_⟩, fun h => absurd h (by simp; omega)⟩
    generalize pctDecode T[k] = X at *
    obtain ⟨w, ew⟩ := X
    simp only at pd pe hso hup hdl hel
    have fin : ∀ (t' : List (Nat × SV)), segOk T[k] = true → lk 26 t' = some (.int .i64 ((k : Int) + 1)) → T.length - lkI 26 ⟨t', B⟩ < T.length - (k : Int).toNat := fun t' _ k6 => by rw [lkI_eq (σ := ⟨t', B⟩) k6]; omega
    (refine callV_pc pd ?_; simp only [lawG, ↓Xn, ↓Xo, ↓Xg, ↓Xd, ↓Xe, ↓Xf, Tryz.VΓ, Tryz.Γs, Xp, Xi, Nat.reduceAdd, Nat.reduceSub, Nat.reduceLT, Nat.reduceLeDiff, reduceIte, reduceCtorEq, Nat.reduceEqDiff, implies_true, forall_const, lawV, h2, h3, h4, h5, h7, h24, h25, h26, hB1, hBN, hBr, hB11])
    refine ⟨fun g1 => ⟨fun g2 => ⟨fun g3 => ?_, fun g3 => ?_⟩, fun g2 => ?_⟩, fun g1 => ?_⟩
    · have hb := hbad (by rw [hso, g3]; simp)
      simp only [hb, if_true]
      rfl
    · have hso : segOk T[k] = true := by rw [hso, g1, g2, g3]; rfl
      (refine callV_pc pe ?_; simp only [lawG, ↓Xn, ↓Xo, ↓Xg, ↓Xd, ↓Xe, ↓Xf, Tryz.VΓ, Tryz.Γs, Xp, Xi, Nat.reduceAdd, Nat.reduceSub, Nat.reduceLT, Nat.reduceLeDiff, reduceIte, reduceCtorEq, Nat.reduceEqDiff, implies_true, forall_const, lawV, h2, h3, h4, h5, h7, h24, h25, h26, hB1, hBN, hBr])
      refine ⟨by omega, by omega, ⟨by omega, by omega⟩, ⟨k + 1, by omega, by rw [hft, hup], rfl, ⟨cj, mj, hBj⟩, hgood hso⟩, fin _ hso rfl⟩
    · have hb := hbad (by rw [hso, g2]; simp)
      simp only [hb, if_true]
      rfl
    · have hb := hbad (by rw [hso, g1]; simp)
      simp only [hb, if_true]
      rfl
  · have hie : k = T.length := by omega
    subst hie
    rw [List.take_length] at h7 hok
    have hlf : decide ((T.length : Int) < T.length) = false := by simp
    have hBl := (List.getElem?_eq_some_iff.1 hB1).1
    have hBo1 := fun X => at_old hB1 [X]
    have hBs1 : ∀ X Y, ((B ++ [X]).set 1 Y)[1]? = some Y := fun X Y => List.getElem?_set_self (by simp; omega)
    have hTl : (((T.length + 1 : Nat) : Int) == 1) = decide (T = []) := by
      cases T <;> simp
      omega
    have hpt : toPath T = (if T = [] then [47, 46, 119, 101, 108, 108, 45, 107, 110, 111, 119, 110] else T.flatMap segUp) ++ [47, 100, 105, 100, 46, 106, 115, 111, 110] := by
      unfold toPath
      by_cases hT : T = []
      · rw [if_pos hT, if_pos hT]; rfl
      · rw [if_neg hT, if_neg hT]; rfl
    have hpl : (toPath T).length ≤ 100000 := by rw [hpt]; split <;> simp only [List.length_append, List.length_cons, List.length_nil] <;> omega
    have pf := p_r7_Format ⟨x, p, toPath T, [], [], false, false⟩ (hfit _ hpl)
    unfold wsv at pf
    simp only at pf
    by_cases hT : T = []
    · rw [if_pos hT] at hpt
      rw [hpt] at pf ⊢
      have hTd : decide (T = []) = true := decide_eq_true hT
      simp only [List.cons_append, List.nil_append] at pf
      simp only [lawG, ↓Xn, ↓Xo, ↓Xg, ↓Xd, ↓Xe, ↓Xf, Tryz.VΓ, Tryz.Γs, Xp, Xi, Nat.reduceAdd, Nat.reduceSub, Nat.reduceLT, Nat.reduceLeDiff, reduceIte, reduceCtorEq, Nat.reduceEqDiff, implies_true, forall_const, lawV, h2, h3, h4, h5, h7, h24, h25, h26, hB1, hBN, hBr, hBj, hBo1, hBs1, hlf, hok, hTl, hTd, at_new, set_new]
      (refine callV_pc pf ?_; simp only [lawG, ↓Xn, ↓Xo, ↓Xg, ↓Xd, ↓Xe, ↓Xf, Tryz.VΓ, Tryz.Γs, Xp, Xi, Nat.reduceAdd, Nat.reduceSub, Nat.reduceLT, Nat.reduceLeDiff, reduceIte, reduceCtorEq, Nat.reduceEqDiff, implies_true, forall_const, lawV, h2, h3, h4, h5, h7, h24, h25, h26, hB1, hBN, hBr, hBj, hBo1, hBs1, hlf, hok, hTl, hTd, at_new, set_new])
      unfold toUrlEnd
      exact ⟨fun hl => (by rw [if_pos (by simp only [decide_eq_true_eq, decide_eq_false_iff_not] at hl; omega)]; rfl), fun hl => (by rw [if_neg (by simp only [decide_eq_true_eq, decide_eq_false_iff_not] at hl; omega)]; rfl)⟩
    · rw [if_neg hT] at hpt
      rw [hpt] at pf ⊢
      have hTd : decide (T = []) = false := decide_eq_false hT
      simp only [lawG, ↓Xn, ↓Xo, ↓Xg, ↓Xd, ↓Xe, ↓Xf, Tryz.VΓ, Tryz.Γs, Xp, Xi, Nat.reduceAdd, Nat.reduceSub, Nat.reduceLT, Nat.reduceLeDiff, reduceIte, reduceCtorEq, Nat.reduceEqDiff, implies_true, forall_const, lawV, h2, h3, h4, h5, h7, h24, h25, h26, hB1, hBN, hBr, hBj, hBo1, hBs1, hlf, hok, hTl, hTd, at_new, set_new]
      refine ⟨by omega, ?_⟩
      (refine callV_pc pf ?_; simp only [lawG, ↓Xn, ↓Xo, ↓Xg, ↓Xd, ↓Xe, ↓Xf, Tryz.VΓ, Tryz.Γs, Xp, Xi, Nat.reduceAdd, Nat.reduceSub, Nat.reduceLT, Nat.reduceLeDiff, reduceIte, reduceCtorEq, Nat.reduceEqDiff, implies_true, forall_const, lawV, h2, h3, h4, h5, h7, h24, h25, h26, hB1, hBN, hBr, hBj, hBo1, hBs1, hlf, hok, hTl, hTd, at_new, set_new])
      unfold toUrlEnd
      exact ⟨fun hl => (by rw [if_pos (by simp only [decide_eq_true_eq, decide_eq_false_iff_not] at hl; omega)]; rfl), fun hl => (by rw [if_neg (by simp only [decide_eq_true_eq, decide_eq_false_iff_not] at hl; omega)]; rfl)⟩
theorem downOk_two (x : Bytes) : downOk x = (x.all downC && !((pctDecode x).1 == [])) := by
  unfold downOk
  by_cases h : (pctDecode x).2 = 0
  · rw [h]; cases x.all downC <;> simp [bne]
  · have h2 : (pctDecode x).1 = [] := by
      unfold pctDecode at h ⊢
      split
      · rfl
      · split
        · rfl
        · rename_i h1 h2; rw [if_neg h1, if_neg h2] at h; exact absurd rfl h
    rw [h2]; cases x.all downC <;> simp
theorem hroot_bad {u : Url} {L : List Bytes} (h : u.path = rootS → L.all downOk = true) (hb : L.all downOk = false) : fromSegs u L = (Did.none, 110) := by
  unfold fromSegs
  rw [if_neg (fun k => by rw [h k] at hb; cases hb), if_pos hb]
theorem fromSegs_end {u : Url} {L : List Bytes} (h : L.all downOk = true) : fromSegs u L = fromEnd ⟨webS, idBase u ++ if u.path = rootS then [] else L.flatMap segDown⟩ := by
  unfold fromSegs
  by_cases k : u.path = rootS
  · rw [if_pos k, if_pos k, List.append_nil]
  · rw [if_neg k, if_neg k, if_neg (by rw [h]; simp)]
set_option maxRecDepth 20000 in
set_option maxHeartbeats 4000000 in
theorem p_r11_FromURL (u : Url) (hk : Fair u) : PC Tryz.V 32 [wsv u] (.tup [dsv (fromUrl u).1, .int .i64 (fromUrl u).2]) := by
  have pv1 := p_r7_Valid u hk
  have hpl := hk.1
  unfold wsv at pv1 ⊢
  cases hv : urlValid u
  · rw [hv] at pv1
    rw [show fromUrl u = (Did.none, 8) from if_pos hv]
    refine pc_of 3000 Tryz.func32 rfl Tryz.ntmps32 Tryz.results32 Tryz.call32 (by simp) (by simp [flat, flat.flatL, dsv, wsv]) (by simp [flat, flat.flatL, dsv, wsv]) ?_
    simp only [lawG, ↓Xn, ↓Xo, ↓Xg, ↓Xd, ↓Xe, ↓Xf, Tryz.VΓ, Tryz.Γs, Xp, Xi, Nat.reduceAdd, Nat.reduceSub, Nat.reduceLT, Nat.reduceLeDiff, reduceIte, reduceCtorEq, Nat.reduceEqDiff, implies_true, forall_const, lawV]
    (refine callV_pc pv1 ?_; simp only [lawG, ↓Xn, ↓Xo, ↓Xg, ↓Xd, ↓Xe, ↓Xf, Tryz.VΓ, Tryz.Γs, Xp, Xi, Nat.reduceAdd, Nat.reduceSub, Nat.reduceLT, Nat.reduceLeDiff, reduceIte, reduceCtorEq, Nat.reduceEqDiff, implies_true, forall_const, lawV, beq_self_eq_true, bne_self_eq_false, Int.reduceBEq, Int.reduceBNe, Int.reduceLT, Int.reduceLE])
    rfl
  obtain ⟨T, z, hT, hzl, hL0, hp4⟩ := valid_split hv
  rw [fromUrl_at hv hT hzl]
  rw [hv] at pv1
  have hsf := split_flat 47 u.path
  have hpth : u.path = rootS → T.dropLast.all downOk = true := by
    intro k
    rw [k] at hT
    obtain rfl : T = [([46, 119, 101, 108, 108, 45, 107, 110, 111, 119, 110] : List UInt8), lastS] := by
      have e : splitC 47 rootS = [[], ([46, 119, 101, 108, 108, 45, 107, 110, 111, 119, 110] : List UInt8), lastS] := by decide +kernel
      rw [e] at hT
      exact (List.cons.inj hT).2.symm
    decide +kernel
  refine pc_of 3000 Tryz.func32 rfl Tryz.ntmps32 Tryz.results32 Tryz.call32 (by simp) (by simp [flat, flat.flatL, dsv, wsv]) (by simp [flat, flat.flatL, dsv, wsv]) ?_
  simp only [lawG, ↓Xn, ↓Xo, ↓Xg, ↓Xd, ↓Xe, ↓Xf, Tryz.VΓ, Tryz.Γs, Xp, Xi, Nat.reduceAdd, Nat.reduceSub, Nat.reduceLT, Nat.reduceLeDiff, reduceIte, reduceCtorEq, Nat.reduceEqDiff, implies_true, forall_const, lawV]
  (refine callV_pc pv1 ?_; simp only [lawG, ↓Xn, ↓Xo, ↓Xg, ↓Xd, ↓Xe, ↓Xf, Tryz.VΓ, Tryz.Γs, Xp, Xi, Nat.reduceAdd, Nat.reduceSub, Nat.reduceLT, Nat.reduceLeDiff, reduceIte, reduceCtorEq, Nat.reduceEqDiff, implies_true, forall_const, lawV, beq_self_eq_true, bne_self_eq_false, Int.reduceBEq, Int.reduceBNe, Int.reduceLT, Int.reduceLE])
  refine callV_sc (sc_Split u.path 47 (by omega)) ?_
  rintro r b ⟨j, rfl, hLj, hj, hkp⟩
  rw [hT] at hsf hj ⊢
  generalize (cutC 47 u.path).1 = c at *
  clear hT
  simp only [List.flatten_cons, List.length_append, List.length_cons] at hsf
  simp only at hLj hj hkp
  have e0 : T.length + 1 - Int.toNat 1 = T.length := by simp
  have e1 : List.drop (Int.toNat 1 * 1) (List.take ((T.length + 1) * 1) (SV.str c :: T.map SV.str)) = T.map SV.str := by
    rw [List.take_of_length_le (by simp)]; simp
  have hz : (T.map SV.str)[((T.length : Int) - 1).toNat * 1]? = some (.str z) := by
    rw [show ((T.length : Int) - 1).toNat * 1 = T.length - 1 by omega, List.getElem?_map, ← List.getLast?_eq_getElem?, hzl]
    rfl
  simp only [List.map_cons, List.length_cons] at hj
  have hjl := (List.getElem?_eq_some_iff.1 hj).1
  have hjo := fun X => at_old hj [X]
  have hb1 := hkp.at (j := 1) rfl
  have hb0 := hkp.at (j := 0) rfl
  have hbo1 := fun X => at_old hb1 [X]
  have hbo0 := fun X => at_old hb0 [X]
  simp only [List.length_cons, List.length_nil] at hLj
  have hQ0 : ∀ Y Z, (b.set j Y ++ [Z])[0]? = b[0]? := fun Y Z => by
    rw [List.getElem?_append_left (by rw [List.length_set]; omega), List.getElem?_set_ne (by omega)]
  have hQ1 : ∀ Y Z, (b.set j Y ++ [Z])[1]? = b[1]? := fun Y Z => by
    rw [List.getElem?_append_left (by rw [List.length_set]; omega), List.getElem?_set_ne (by omega)]
  have hQn : ∀ Y Z, (b.set j Y ++ [Z])[b.length]? = some Z := fun Y Z => by
    rw [List.getElem?_append_right (by simp)]; simp
  have hQs : ∀ Y Z W, ((b.set j Y ++ [Z]).set 1 W)[1]? = some W := fun Y Z W => List.getElem?_set_self (by simp; omega)
  have hzS : (z != [100, 105, 100, 46, 106, 115, 111, 110]) = (z != lastS) := rfl
  have hQl : ∀ Y Z, (b.set j Y ++ [Z]).length = b.length + 1 := fun Y Z => by simp
  have hD0 : ∀ Y Z W V, ((b.set j Y ++ [Z]).set b.length W ++ [V])[0]? = b[0]? := fun Y Z W V => by
    rw [List.getElem?_append_left (by simp), List.getElem?_set_ne (by omega)]; exact hQ0 Y Z
  have hD1 : ∀ Y Z W V, ((b.set j Y ++ [Z]).set b.length W ++ [V])[1]? = b[1]? := fun Y Z W V => by
    rw [List.getElem?_append_left (by simp; omega), List.getElem?_set_ne (by omega)]; exact hQ1 Y Z
  have hDn : ∀ Y Z W V, ((b.set j Y ++ [Z]).set b.length W ++ [V])[b.length + 1]? = some V := fun Y Z W V => by
    rw [List.getElem?_append_right (by simp)]; simp
  have hDs : ∀ Y Z W V X, (((b.set j Y ++ [Z]).set b.length W ++ [V]).set 1 X)[1]? = some X := fun Y Z W V X => List.getElem?_set_self (by simp)
  have hdl : T.dropLast.length = T.length - 1 := List.length_dropLast ..
  have e2 : ((T.length : Int) - 1).toNat = T.dropLast.length := by omega
  have e3 : List.take (T.dropLast.length * 1) (T.map SV.str) = T.dropLast.map SV.str := by
    rw [Nat.mul_one, hdl, List.dropLast_eq_take, List.map_take]
  rw [e2] at hz
  have hdf : T.dropLast.flatten.length ≤ T.flatten.length := by
    rw [List.dropLast_eq_take]
    have := congrArg (fun l => (List.flatten l).length) (List.take_append_drop (T.length - 1) T)
    simp only [List.flatten_append, List.length_append] at this
    omega
  have hcan := valid_can hv
  obtain ⟨-, -, -, k4, k5, k6⟩ := hostPort_back hcan.host
  have hfd := flat_down T.dropLast
  have hfit : ∀ q : Bytes, q.length ≤ 100000 → DidFits ⟨webS, q⟩ := fun q hq => ⟨show webS.length ≤ _ by decide, show q.length ≤ _ by omega⟩
  simp only [lawG, ↓Xn, ↓Xo, ↓Xg, ↓Xd, ↓Xe, ↓Xf, Tryz.VΓ, Tryz.Γs, Xp, Xi, Nat.reduceAdd, Nat.reduceSub, Nat.reduceLT, Nat.reduceLeDiff, reduceIte, reduceCtorEq, Nat.reduceEqDiff, implies_true, forall_const, lawV, e0, e1, e2, e3, hz, hj, hjo, hb0, hb1, hQ0, hQ1, hQn, hQs, hQl, hD0, hD1, hDn, hDs, at_new, hzS]
  refine ⟨⟨by omega, by omega⟩, fun hq => ⟨fun hf => ⟨⟨by omega, by omega⟩, ⟨by omega, by omega⟩, by simp; omega, fun hz1 => ?_, fun hz1 => ⟨⟨by omega, by omega⟩, ⟨by omega, by omega⟩, fun hl1 => ?_, fun hl1 => ?_⟩⟩, fun hf => ?_⟩, fun hq => ?_⟩
  · rw [if_neg (by rw [hq]; simp), if_neg (by rw [hf]; simp), if_pos hz1]; rfl
  · rw [if_neg (by rw [hq]; simp), if_neg (by rw [hf]; simp), if_neg (by rw [hz1]; simp), if_pos (by simp at hl1; omega)]; rfl
  · rw [if_neg (by rw [hq]; simp), if_neg (by rw [hf]; simp), if_neg (by rw [hz1]; simp), if_neg (by simp at hl1; omega)]
    have pn := p_r5_Decimal u.port (by omega) (by omega)
    have hdc := decS_length 19 u.port.natAbs (by omega)
    have hxs : ∀ x ∈ T.dropLast, x.length ≤ 4096 := fun x hx => by
      have := length_le_flatten hx
      omega
    have hLl : T.dropLast.length ≤ 5000 := by omega
    have hfdl : (T.dropLast.flatMap segDown).length ≤ 60000 := by omega
    have hE0 := (hD0 (.own (.str c :: T.map SV.str) 9 1 (T.length + 1) false) (.own (T.map SV.str) 9 1 T.length false) .gone (.own (T.dropLast.map SV.str) 9 1 T.dropLast.length false)).trans hb0
    have hE1 := (hD1 (.own (.str c :: T.map SV.str) 9 1 (T.length + 1) false) (.own (T.map SV.str) 9 1 T.length false) .gone (.own (T.dropLast.map SV.str) 9 1 T.dropLast.length false)).trans hb1
    have hEr := hDn (.own (.str c :: T.map SV.str) 9 1 (T.length + 1) false) (.own (T.map SV.str) 9 1 T.length false) .gone (.own (T.dropLast.map SV.str) 9 1 T.dropLast.length false)
    clear hD0 hD1 hDn hDs hQ0 hQ1 hQn hQs hQl hz e3 e1 hdf hfd
    refine ⟨fun hp => ?_, fun hp => ?_⟩
    · have hp0 : ¬ u.port = 0 := by simpa using hp
      have hib : u.host ++ (37 :: 51 :: 65 :: decS u.port.natAbs) = idBase u := by unfold idBase; rw [if_neg hp0]; rfl
      (refine callV_pc pn ?_; simp only [lawG, ↓Xn, ↓Xo, ↓Xg, ↓Xd, ↓Xe, ↓Xf, Tryz.VΓ, Tryz.Γs, Xp, Xi, Nat.reduceAdd, Nat.reduceSub, Nat.reduceLT, Nat.reduceLeDiff, reduceIte, reduceCtorEq, Nat.reduceEqDiff, implies_true, forall_const, lawV])
      rw [hib]
      have hbl : (idBase u).length ≤ 300 := by rw [← hib]; simp only [List.length_append, List.length_cons]; omega
      refine ⟨by omega, by omega, ?_⟩
      refine loopV_mk (fun σ => ∃ k : Nat, k ≤ T.dropLast.length ∧ lk 1 σ.t = some (.p 0 0) ∧ lk 2 σ.t = some (.p 1 0) ∧ lk 3 σ.t = some (.int .i64 0) ∧ lk 5 σ.t = some (.str (idBase u ++ if u.path = rootS then [] else (T.dropLast.take k).flatMap segDown)) ∧ lk 56 σ.t = some (.o (b.length + 1) T.dropLast.length) ∧ lk 57 σ.t = some (.int .i64 T.dropLast.length) ∧ lk 58 σ.t = some (.int .i64 k) ∧
        σ.b[0]? = some (.cells [.str u.host, .int .i64 u.port, .str u.path, .str u.query, .str u.fragment, .bool u.hasQuery, .bool u.hasFrag] 29 true) ∧ σ.b[1]? = some (.cells [.str [], .str []] 24 true) ∧ σ.b[b.length + 1]? = some (.own (T.dropLast.map SV.str) 9 1 T.dropLast.length false) ∧ (T.dropLast.take k).all downOk = true) (fun σ => T.dropLast.length - lkI 58 σ)
        ⟨0, by omega, rfl, rfl, rfl, congrArg (fun x => some (SV.str x)) (by split <;> simp), rfl, rfl, rfl, hE0, hE1, hEr, rfl⟩ ?_
      generalize b.length = N at *
      generalize T.dropLast = L at *
      rintro ⟨t, B⟩ ⟨k, hk, h1, h2, h3, h5, h56, h57, h58, hB0, hB1, hBr, hok⟩
      simp only at h1 h2 h3 h5 h56 h57 h58 hB0 hB1 hBr
      rw [lkI_eq h58]
      have hB11 : ∀ X, (B.set 1 X)[1]? = some X := fun X => List.getElem?_set_self (List.getElem?_eq_some_iff.1 hB1).1
      by_cases hlt : k < L.length
      · have hx : (L.map SV.str)[k * 1]? = some (.str L[k]) := by simp [hlt]
        have hxl := hxs L[k] (List.getElem_mem hlt)
        have hft := flat_take (g := segDown) hlt
        have hbad : downOk L[k] = false → L.all downOk = false := fun h => all_not hlt h
        have hgood : downOk L[k] = true → (L.take (k + 1)).all downOk = true := fun h => all_take_snoc hlt hok h
        simp only [lawG, ↓Xn, ↓Xo, ↓Xg, ↓Xd, ↓Xe, ↓Xf, Tryz.VΓ, Tryz.Γs, Xp, Xi, Nat.reduceAdd, Nat.reduceSub, Nat.reduceLT, Nat.reduceLeDiff, reduceIte, reduceCtorEq, Nat.reduceEqDiff, implies_true, forall_const, lawV, h1, h2, h3, h5, h56, h57, h58, hB0, hB1, hBr, hx, hB11]
        refine ⟨fun _ => ⟨⟨by omega, by omega⟩, by simp; omega, ?_⟩, fun h => absurd h (by simp; omega)⟩
        have hd := downOk_two L[k]
        have hsd : segDown L[k] = 58 :: didEsc (pctDecode L[k]).1 := rfl
        have hdl := pctDecode_len L[k]
        have pd := p_r3_Decode L[k]
        have pe := p_r10_Escaped (pctDecode L[k]).1 (by omega)
        have hel := didEsc_len (pctDecode L[k]).1
        have hflt := flat_take_le (g := segDown) (L := L) (k := k)
        generalize L[k] = x at *
        clear hx
        refine loopV_mk (fun σ => ∃ i : Nat, i ≤ x.length ∧ lk 1 σ.t = some (.p 0 0) ∧ lk 2 σ.t = some (.p 1 0) ∧ lk 3 σ.t = some (.int .i64 0) ∧ lk 5 σ.t = some (.str (idBase u ++ if u.path = rootS then [] else (L.take k).flatMap segDown)) ∧ lk 56 σ.t = some (.o (N + 1) L.length) ∧ lk 57 σ.t = some (.int .i64 L.length) ∧ lk 58 σ.t = some (.int .i64 k) ∧ lk 7 σ.t = some (.str x) ∧ lk 8 σ.t = some (.int .i64 i) ∧
          σ.b[0]? = some (.cells [.str u.host, .int .i64 u.port, .str u.path, .str u.query, .str u.fragment, .bool u.hasQuery, .bool u.hasFrag] 29 true) ∧ σ.b[1]? = some (.cells [.str [], .str []] 24 true) ∧ σ.b[N + 1]? = some (.own (L.map SV.str) 9 1 L.length false) ∧ (x.take i).all downC = true) (fun σ => x.length - lkI 8 σ)
          ⟨0, by omega, h1, h2, h3, h5, h56, h57, h58, rfl, rfl, hB0, hB1, hBr, rfl⟩ ?_
        clear h1 h2 h3 h5 h56 h57 h58 hB0 hB1 hBr hB11 hok hE0 hE1 hEr
        rintro ⟨t, B⟩ ⟨i, hi, h1, h2, h3, h5, h56, h57, h58, h7, h8, hB0, hB1, hBr, hok⟩
        simp only at h1 h2 h3 h5 h56 h57 h58 h7 h8 hB0 hB1 hBr
        rw [lkI_eq h8]
        have hB11 : ∀ X, (B.set 1 X)[1]? = some X := fun X => List.getElem?_set_self (List.getElem?_eq_some_iff.1 hB1).1
        by_cases hil : i < x.length
        · have hg : x.getD i 0 = x[i] := by simp [List.getD, hil]
          have hxbad : downC x[i] = false → L.all downOk = false := fun h => hbad (by rw [hd, all_not hil h]; rfl)
          simp only [lawG, ↓Xn, ↓Xo, ↓Xg, ↓Xd, ↓Xe, ↓Xf, Tryz.VΓ, Tryz.Γs, Xp, Xi, Nat.reduceAdd, Nat.reduceSub, Nat.reduceLT, Nat.reduceLeDiff, reduceIte, reduceCtorEq, Nat.reduceEqDiff, implies_true, forall_const, lawV, h1, h2, h3, h5, h56, h57, h58, hB0, hB1, hBr, h7, h8, hg, hB11]
          refine ⟨fun _ => ⟨⟨by omega, by omega⟩, ?_⟩, fun h => absurd h (by simp; omega)⟩
          (refine callV_pc (p_r1_IsUnreserved x[i]) ?_; simp only [lawG, ↓Xn, ↓Xo, ↓Xg, ↓Xd, ↓Xe, ↓Xf, Tryz.VΓ, Tryz.Γs, Xp, Xi, Nat.reduceAdd, Nat.reduceSub, Nat.reduceLT, Nat.reduceLeDiff, reduceIte, reduceCtorEq, Nat.reduceEqDiff, implies_true, forall_const, lawV, h1, h2, h3, h5, h56, h57, h58, hB0, hB1, hBr, h7, h8, hg, hB11])
          have h37 : ((x[i].toNat : Int) != 37) = (x[i] != 37) := by
            have := byte_is hil 37 (n := 37) rfl
            show (!_) = (!_)
            rw [← this, hg]
          rw [h37]
          have fin : downC x[i] = true → ∀ (t' : List (Nat × SV)), lk 8 t' = some (.int .i64 ((i : Int) + 1)) → (∃ m : Nat, m ≤ x.length ∧ SV.int IntKind.i64 ((i : Int) + 1) = SV.int IntKind.i64 (m : Int) ∧ (x.take m).all downC = true) ∧ x.length - lkI 8 ⟨t', B⟩ < x.length - (i : Int).toNat := fun hm t' k6 =>
            ⟨⟨i + 1, by omega, rfl, all_take_snoc hil hok hm⟩, by rw [lkI_eq (σ := ⟨t', B⟩) k6]; omega⟩
          refine ⟨fun hp => ⟨⟨by omega, by omega⟩, fun h9 => ?_, fun h9 => ⟨⟨by omega, by omega⟩, fin ?_ _ rfl⟩⟩, fun hp => ⟨⟨by omega, by omega⟩, fin ?_ _ rfl⟩⟩
          · have hb := hxbad (by unfold downC; simp at hp h9 ⊢; exact ⟨h9, hp⟩)
            rw [hroot_bad hpth hb]; rfl
          · unfold downC; simp at h9 ⊢; exact .inl h9
          · unfold downC; simp at hp ⊢; exact .inr hp
        · have hie : i = x.length := by omega
          subst hie
          rw [List.take_length] at hok
          have hlf : decide ((x.length : Int) < x.length) = false := by simp
          generalize pctDecode x = X at *
          obtain ⟨w, ew⟩ := X
          simp only at pd pe hd hsd hdl hel
          simp only [lawG, ↓Xn, ↓Xo, ↓Xg, ↓Xd, ↓Xe, ↓Xf, Tryz.VΓ, Tryz.Γs, Xp, Xi, Nat.reduceAdd, Nat.reduceSub, Nat.reduceLT, Nat.reduceLeDiff, reduceIte, reduceCtorEq, Nat.reduceEqDiff, implies_true, forall_const, lawV, h1, h2, h3, h5, h56, h57, h58, hB0, hB1, hBr, h7, h8, hB11, hlf]
          (refine callV_pc pd ?_; simp only [lawG, ↓Xn, ↓Xo, ↓Xg, ↓Xd, ↓Xe, ↓Xf, Tryz.VΓ, Tryz.Γs, Xp, Xi, Nat.reduceAdd, Nat.reduceSub, Nat.reduceLT, Nat.reduceLeDiff, reduceIte, reduceCtorEq, Nat.reduceEqDiff, implies_true, forall_const, lawV, h1, h2, h3, h5, h56, h57, h58, hB0, hB1, hBr, h7, h8, hB11])
          have hfin : ∀ (S : Bytes) (t' : List (Nat × SV)), downOk x = true → S = idBase u ++ (if u.path = rootS then [] else (L.take (k + 1)).flatMap segDown) → lk 58 t' = some (.int .i64 ((k : Int) + 1)) →
              (∃ m : Nat, m ≤ L.length ∧ SV.str S = SV.str (idBase u ++ if u.path = rootS then [] else (L.take m).flatMap segDown) ∧ SV.int IntKind.i64 ((k : Int) + 1) = SV.int IntKind.i64 (m : Int) ∧ (L.take m).all downOk = true) ∧ L.length - lkI 58 ⟨t', B⟩ < L.length - (k : Int).toNat := fun S t' h hS k6 =>
            ⟨⟨k + 1, by omega, by rw [hS], rfl, hgood h⟩, by rw [lkI_eq (σ := ⟨t', B⟩) k6]; omega⟩
          refine ⟨fun g1 => (by rw [hroot_bad hpth (hbad (by rw [hd, g1]; simp))]; rfl), fun g1 => ?_⟩
          have hgx : downOk x = true := by rw [hd, hok, g1]; rfl
          refine ⟨fun g2 => ?_, fun g2 => ?_⟩
          · have hne : ¬ u.path = rootS := fun e => by rw [e] at g2; exact absurd g2 (by decide)
            (refine callV_pc pe ?_; simp only [lawG, ↓Xn, ↓Xo, ↓Xg, ↓Xd, ↓Xe, ↓Xf, Tryz.VΓ, Tryz.Γs, Xp, Xi, Nat.reduceAdd, Nat.reduceSub, Nat.reduceLT, Nat.reduceLeDiff, reduceIte, reduceCtorEq, Nat.reduceEqDiff, implies_true, forall_const, lawV, h1, h2, h3, h5, h56, h57, h58, hB0, hB1, hBr, h7, h8, hB11])
            have hle : (idBase u ++ if u.path = rootS then [] else (L.take k).flatMap segDown).length ≤ 100000 := by
              rw [if_neg hne, List.length_append]; omega
            refine ⟨by omega, by omega, ⟨by omega, by omega⟩, hfin _ _ hgx ?_ rfl⟩
            rw [if_neg hne, if_neg hne, hft, hsd, List.append_assoc]
          · have he : u.path = rootS := by simpa [rootS] using g2
            refine ⟨⟨by omega, by omega⟩, ?_⟩
            have := hfin (idBase u ++ if u.path = rootS then [] else (L.take k).flatMap segDown) ((58, .int .i64 ((k : Int) + 1)) :: t) hgx (by rw [if_pos he, if_pos he]) rfl
            refine ⟨?_, ?_⟩
            · obtain ⟨⟨m, q1, q2, q3, q4⟩, -⟩ := this
              exact ⟨m, q1, q2, q3, q4⟩
            · rw [lkI_eq (k := .i64) (n := (k : Int) + 1) rfl]; omega
      · have hie : k = L.length := by omega
        subst hie
        rw [List.take_length] at h5 hok
        have hlf : decide ((L.length : Int) < L.length) = false := by simp
        rw [fromSegs_end hok]
        have hle : (idBase u ++ if u.path = rootS then [] else L.flatMap segDown).length ≤ 100000 := by
          rw [List.length_append]; split
          · simp; omega
          · omega
        generalize (idBase u ++ if u.path = rootS then [] else L.flatMap segDown) = S at *
        have pf := p_r10_FormatDID ⟨webS, S⟩ (hfit S hle)
        unfold dsv at pf
        simp only at pf
        have hBl := (List.getElem?_eq_some_iff.1 hB1).1
        have hBo1 := fun X => at_old hB1 [X]
        have hBs1 : ∀ X Y, ((B ++ [X]).set 1 Y)[1]? = some Y := fun X Y => List.getElem?_set_self (by simp; omega)
        simp only [lawG, ↓Xn, ↓Xo, ↓Xg, ↓Xd, ↓Xe, ↓Xf, Tryz.VΓ, Tryz.Γs, Xp, Xi, Nat.reduceAdd, Nat.reduceSub, Nat.reduceLT, Nat.reduceLeDiff, reduceIte, reduceCtorEq, Nat.reduceEqDiff, implies_true, forall_const, lawV, h1, h2, h3, h5, h56, h57, h58, hB0, hB1, hBr, hB11, hlf, hBo1, hBs1, at_new, set_new]
        (refine callV_pc pf ?_; simp only [lawG, ↓Xn, ↓Xo, ↓Xg, ↓Xd, ↓Xe, ↓Xf, Tryz.VΓ, Tryz.Γs, Xp, Xi, Nat.reduceAdd, Nat.reduceSub, Nat.reduceLT, Nat.reduceLeDiff, reduceIte, reduceCtorEq, Nat.reduceEqDiff, implies_true, forall_const, lawV, h1, h2, h3, h5, h56, h57, h58, hB0, hB1, hBr, hB11, hlf, hBo1, hBs1, at_new, set_new])
        unfold fromEnd
        exact ⟨fun hl => (by rw [if_pos (by simp only [decide_eq_true_eq, decide_eq_false_iff_not] at hl; omega)]; rfl), fun hl => (by rw [if_neg (by simp only [decide_eq_true_eq, decide_eq_false_iff_not] at hl; omega)]; rfl)⟩
    · have hp0 : u.port = 0 := by simpa using hp
      have hib : u.host = idBase u := by unfold idBase; rw [if_pos hp0, List.append_nil]
      have hbl : (idBase u).length ≤ 300 := by rw [← hib]; omega
      refine loopV_mk (fun σ => ∃ k : Nat, k ≤ T.dropLast.length ∧ lk 1 σ.t = some (.p 0 0) ∧ lk 2 σ.t = some (.p 1 0) ∧ lk 3 σ.t = some (.int .i64 0) ∧ lk 5 σ.t = some (.str (idBase u ++ if u.path = rootS then [] else (T.dropLast.take k).flatMap segDown)) ∧ lk 56 σ.t = some (.o (b.length + 1) T.dropLast.length) ∧ lk 57 σ.t = some (.int .i64 T.dropLast.length) ∧ lk 58 σ.t = some (.int .i64 k) ∧
        σ.b[0]? = some (.cells [.str u.host, .int .i64 u.port, .str u.path, .str u.query, .str u.fragment, .bool u.hasQuery, .bool u.hasFrag] 29 true) ∧ σ.b[1]? = some (.cells [.str [], .str []] 24 true) ∧ σ.b[b.length + 1]? = some (.own (T.dropLast.map SV.str) 9 1 T.dropLast.length false) ∧ (T.dropLast.take k).all downOk = true) (fun σ => T.dropLast.length - lkI 58 σ)
        ⟨0, by omega, rfl, rfl, rfl, congrArg (fun x => some (SV.str x)) (by rw [hib]; split <;> simp), rfl, rfl, rfl, hE0, hE1, hEr, rfl⟩ ?_
      generalize b.length = N at *
      generalize T.dropLast = L at *
      rintro ⟨t, B⟩ ⟨k, hk, h1, h2, h3, h5, h56, h57, h58, hB0, hB1, hBr, hok⟩
      simp only at h1 h2 h3 h5 h56 h57 h58 hB0 hB1 hBr
      rw [lkI_eq h58]
      have hB11 : ∀ X, (B.set 1 X)[1]? = some X := fun X => List.getElem?_set_self (List.getElem?_eq_some_iff.1 hB1).1
      by_cases hlt : k < L.length
      · have hx : (L.map SV.str)[k * 1]? = some (.str L[k]) := by simp [hlt]
        have hxl := hxs L[k] (List.getElem_mem hlt)
        have hft := flat_take (g := segDown) hlt
        have hbad : downOk L[k] = false → L.all downOk = false := fun h => all_not hlt h
        have hgood : downOk L[k] = true → (L.take (k + 1)).all downOk = true := fun h => all_take_snoc hlt hok h
        simp only [lawG, ↓Xn, ↓Xo, ↓Xg, ↓Xd, ↓Xe, ↓Xf, Tryz.VΓ, Tryz.Γs, Xp, Xi, Nat.reduceAdd, Nat.reduceSub, Nat.reduceLT, Nat.reduceLeDiff, reduceIte, reduceCtorEq, Nat.reduceEqDiff, implies_true, forall_const, lawV, h1, h2, h3, h5, h56, h57, h58, hB0, hB1, hBr, hx, hB11]
        refine ⟨fun _ => ⟨⟨by omega, by omega⟩, by simp; omega, ?_⟩, fun h => absurd h (by simp; omega)⟩
        have hd := downOk_two L[k]
        have hsd : segDown L[k] = 58 :: didEsc (pctDecode L[k]).1 := rfl
        have hdl := pctDecode_len L[k]
        have pd := p_r3_Decode L[k]
        have pe := p_r10_Escaped (pctDecode L[k]).1 (by omega)
        have hel := didEsc_len (pctDecode L[k]).1
        have hflt := flat_take_le (g := segDown) (L := L) (k := k)
        generalize L[k] = x at *
        clear hx
        refine loopV_mk (fun σ => ∃ i : Nat, i ≤ x.length ∧ lk 1 σ.t = some (.p 0 0) ∧ lk 2 σ.t = some (.p 1 0) ∧ lk 3 σ.t = some (.int .i64 0) ∧ lk 5 σ.t = some (.str (idBase u ++ if u.path = rootS then [] else (L.take k).flatMap segDown)) ∧ lk 56 σ.t = some (.o (N + 1) L.length) ∧ lk 57 σ.t = some (.int .i64 L.length) ∧ lk 58 σ.t = some (.int .i64 k) ∧ lk 7 σ.t = some (.str x) ∧ lk 8 σ.t = some (.int .i64 i) ∧
          σ.b[0]? = some (.cells [.str u.host, .int .i64 u.port, .str u.path, .str u.query, .str u.fragment, .bool u.hasQuery, .bool u.hasFrag] 29 true) ∧ σ.b[1]? = some (.cells [.str [], .str []] 24 true) ∧ σ.b[N + 1]? = some (.own (L.map SV.str) 9 1 L.length false) ∧ (x.take i).all downC = true) (fun σ => x.length - lkI 8 σ)
          ⟨0, by omega, h1, h2, h3, h5, h56, h57, h58, rfl, rfl, hB0, hB1, hBr, rfl⟩ ?_
        clear h1 h2 h3 h5 h56 h57 h58 hB0 hB1 hBr hB11 hok hE0 hE1 hEr
        rintro ⟨t, B⟩ ⟨i, hi, h1, h2, h3, h5, h56, h57, h58, h7, h8, hB0, hB1, hBr, hok⟩
        simp only at h1 h2 h3 h5 h56 h57 h58 h7 h8 hB0 hB1 hBr
        rw [lkI_eq h8]
        have hB11 : ∀ X, (B.set 1 X)[1]? = some X := fun X => List.getElem?_set_self (List.getElem?_eq_some_iff.1 hB1).1
        by_cases hil : i < x.length
        · have hg : x.getD i 0 = x[i] := by simp [List.getD, hil]
          have hxbad : downC x[i] = false → L.all downOk = false := fun h => hbad (by rw [hd, all_not hil h]; rfl)
          simp only [lawG, ↓Xn, ↓Xo, ↓Xg, ↓Xd, ↓Xe, ↓Xf, Tryz.VΓ, Tryz.Γs, Xp, Xi, Nat.reduceAdd, Nat.reduceSub, Nat.reduceLT, Nat.reduceLeDiff, reduceIte, reduceCtorEq, Nat.reduceEqDiff, implies_true, forall_const, lawV, h1, h2, h3, h5, h56, h57, h58, hB0, hB1, hBr, h7, h8, hg, hB11]
          refine ⟨fun _ => ⟨⟨by omega, by omega⟩, ?_⟩, fun h => absurd h (by simp; omega)⟩
          (refine callV_pc (p_r1_IsUnreserved x[i]) ?_; simp only [lawG, ↓Xn, ↓Xo, ↓Xg, ↓Xd, ↓Xe, ↓Xf, Tryz.VΓ, Tryz.Γs, Xp, Xi, Nat.reduceAdd, Nat.reduceSub, Nat.reduceLT, Nat.reduceLeDiff, reduceIte, reduceCtorEq, Nat.reduceEqDiff, implies_true, forall_const, lawV, h1, h2, h3, h5, h56, h57, h58, hB0, hB1, hBr, h7, h8, hg, hB11])
          have h37 : ((x[i].toNat : Int) != 37) = (x[i] != 37) := by
            have := byte_is hil 37 (n := 37) rfl
            show (!_) = (!_)
            rw [← this, hg]
          rw [h37]
          have fin : downC x[i] = true → ∀ (t' : List (Nat × SV)), lk 8 t' = some (.int .i64 ((i : Int) + 1)) → (∃ m : Nat, m ≤ x.length ∧ SV.int IntKind.i64 ((i : Int) + 1) = SV.int IntKind.i64 (m : Int) ∧ (x.take m).all downC = true) ∧ x.length - lkI 8 ⟨t', B⟩ < x.length - (i : Int).toNat := fun hm t' k6 =>
            ⟨⟨i + 1, by omega, rfl, all_take_snoc hil hok hm⟩, by rw [lkI_eq (σ := ⟨t', B⟩) k6]; omega⟩
          refine ⟨fun hp => ⟨⟨by omega, by omega⟩, fun h9 => ?_, fun h9 => ⟨⟨by omega, by omega⟩, fin ?_ _ rfl⟩⟩, fun hp => ⟨⟨by omega, by omega⟩, fin ?_ _ rfl⟩⟩
          · have hb := hxbad (by unfold downC; simp at hp h9 ⊢; exact ⟨h9, hp⟩)
            rw [hroot_bad hpth hb]; rfl
          · unfold downC; simp at h9 ⊢; exact .inl h9
          · unfold downC; simp at hp ⊢; exact .inr hp
        · have hie : i = x.length := by omega
          subst hie
          rw [List.take_length] at hok
          have hlf : decide ((x.length : Int) < x.length) = false := by simp
          generalize pctDecode x = X at *
          obtain ⟨w, ew⟩ := X
          simp only at pd pe hd hsd hdl hel
          simp only [lawG, ↓Xn, ↓Xo, ↓Xg, ↓Xd, ↓Xe, ↓Xf, Tryz.VΓ, Tryz.Γs, Xp, Xi, Nat.reduceAdd, Nat.reduceSub, Nat.reduceLT, Nat.reduceLeDiff, reduceIte, reduceCtorEq, Nat.reduceEqDiff, implies_true, forall_const, lawV, h1, h2, h3, h5, h56, h57, h58, hB0, hB1, hBr, h7, h8, hB11, hlf]
          (refine callV_pc pd ?_; simp only [lawG, ↓Xn, ↓Xo, ↓Xg, ↓Xd, ↓Xe, ↓Xf, Tryz.VΓ, Tryz.Γs, Xp, Xi, Nat.reduceAdd, Nat.reduceSub, Nat.reduceLT, Nat.reduceLeDiff, reduceIte, reduceCtorEq, Nat.reduceEqDiff, implies_true, forall_const, lawV, h1, h2, h3, h5, h56, h57, h58, hB0, hB1, hBr, h7, h8, hB11])
          have hfin : ∀ (S : Bytes) (t' : List (Nat × SV)), downOk x = true → S = idBase u ++ (if u.path = rootS then [] else (L.take (k + 1)).flatMap segDown) → lk 58 t' = some (.int .i64 ((k : Int) + 1)) →
              (∃ m : Nat, m ≤ L.length ∧ SV.str S = SV.str (idBase u ++ if u.path = rootS then [] else (L.take m).flatMap segDown) ∧ SV.int IntKind.i64 ((k : Int) + 1) = SV.int IntKind.i64 (m : Int) ∧ (L.take m).all downOk = true) ∧ L.length - lkI 58 ⟨t', B⟩ < L.length - (k : Int).toNat := fun S t' h hS k6 =>
            ⟨⟨k + 1, by omega, by rw [hS], rfl, hgood h⟩, by rw [lkI_eq (σ := ⟨t', B⟩) k6]; omega⟩
          refine ⟨fun g1 => (by rw [hroot_bad hpth (hbad (by rw [hd, g1]; simp))]; rfl), fun g1 => ?_⟩
          have hgx : downOk x = true := by rw [hd, hok, g1]; rfl
          refine ⟨fun g2 => ?_, fun g2 => ?_⟩
          · have hne : ¬ u.path = rootS := fun e => by rw [e] at g2; exact absurd g2 (by decide)
            (refine callV_pc pe ?_; simp only [lawG, ↓Xn, ↓Xo, ↓Xg, ↓Xd, ↓Xe, ↓Xf, Tryz.VΓ, Tryz.Γs, Xp, Xi, Nat.reduceAdd, Nat.reduceSub, Nat.reduceLT, Nat.reduceLeDiff, reduceIte, reduceCtorEq, Nat.reduceEqDiff, implies_true, forall_const, lawV, h1, h2, h3, h5, h56, h57, h58, hB0, hB1, hBr, h7, h8, hB11])
            have hle : (idBase u ++ if u.path = rootS then [] else (L.take k).flatMap segDown).length ≤ 100000 := by
              rw [if_neg hne, List.length_append]; omega
            refine ⟨by omega, by omega, ⟨by omega, by omega⟩, hfin _ _ hgx ?_ rfl⟩
            rw [if_neg hne, if_neg hne, hft, hsd, List.append_assoc]
          · have he : u.path = rootS := by simpa [rootS] using g2
            refine ⟨⟨by omega, by omega⟩, ?_⟩
            have := hfin (idBase u ++ if u.path = rootS then [] else (L.take k).flatMap segDown) ((58, .int .i64 ((k : Int) + 1)) :: t) hgx (by rw [if_pos he, if_pos he]) rfl
            refine ⟨?_, ?_⟩
            · obtain ⟨⟨m, q1, q2, q3, q4⟩, -⟩ := this
              exact ⟨m, q1, q2, q3, q4⟩
            · rw [lkI_eq (k := .i64) (n := (k : Int) + 1) rfl]; omega
      · have hie : k = L.length := by omega
        subst hie
        rw [List.take_length] at h5 hok
        have hlf : decide ((L.length : Int) < L.length) = false := by simp
        rw [fromSegs_end hok]
        have hle : (idBase u ++ if u.path = rootS then [] else L.flatMap segDown).length ≤ 100000 := by
          rw [List.length_append]; split
          · simp; omega
          · omega
        generalize (idBase u ++ if u.path = rootS then [] else L.flatMap segDown) = S at *
        have pf := p_r10_FormatDID ⟨webS, S⟩ (hfit S hle)
        unfold dsv at pf
        simp only at pf
        have hBl := (List.getElem?_eq_some_iff.1 hB1).1
        have hBo1 := fun X => at_old hB1 [X]
        have hBs1 : ∀ X Y, ((B ++ [X]).set 1 Y)[1]? = some Y := fun X Y => List.getElem?_set_self (by simp; omega)
        simp only [lawG, ↓Xn, ↓Xo, ↓Xg, ↓Xd, ↓Xe, ↓Xf, Tryz.VΓ, Tryz.Γs, Xp, Xi, Nat.reduceAdd, Nat.reduceSub, Nat.reduceLT, Nat.reduceLeDiff, reduceIte, reduceCtorEq, Nat.reduceEqDiff, implies_true, forall_const, lawV, h1, h2, h3, h5, h56, h57, h58, hB0, hB1, hBr, hB11, hlf, hBo1, hBs1, at_new, set_new]
        (refine callV_pc pf ?_; simp only [lawG, ↓Xn, ↓Xo, ↓Xg, ↓Xd, ↓Xe, ↓Xf, Tryz.VΓ, Tryz.Γs, Xp, Xi, Nat.reduceAdd, Nat.reduceSub, Nat.reduceLT, Nat.reduceLeDiff, reduceIte, reduceCtorEq, Nat.reduceEqDiff, implies_true, forall_const, lawV, h1, h2, h3, h5, h56, h57, h58, hB0, hB1, hBr, hB11, hlf, hBo1, hBs1, at_new, set_new])
        unfold fromEnd
        exact ⟨fun hl => (by rw [if_pos (by simp only [decide_eq_true_eq, decide_eq_false_iff_not] at hl; omega)]; rfl), fun hl => (by rw [if_neg (by simp only [decide_eq_true_eq, decide_eq_false_iff_not] at hl; omega)]; rfl)⟩
  · rw [if_neg (by rw [hq]; simp), if_pos hf]; rfl
  · rw [if_pos hq]; rfl
set_option maxHeartbeats 2000000 in
theorem p_r11_Canonical (d : Did) (h : DidFits d) : PC Tryz.V 37 [dsv d] (.tup [dsv (didCano d).1, .int .i64 (didCano d).2]) := by
  have pt := p_r11_ToURL d h
  have hfair := toUrl_fair d
  unfold didCano
  generalize toUrl d = X at pt hfair ⊢
  obtain ⟨u, e⟩ := X
  simp only at pt hfair ⊢
  refine pc_of 3000 Tryz.func37 rfl Tryz.ntmps37 Tryz.results37 Tryz.call37 (by simp) (by simp [flat, flat.flatL, dsv, wsv]) (by simp [flat, flat.flatL, dsv, wsv]) ?_
  unfold dsv
  unfold dsv wsv at pt
  simp only [lawG, ↓Xn, ↓Xo, ↓Xg, ↓Xd, ↓Xe, ↓Xf, Tryz.VΓ, Tryz.Γs, Xp, Xi, Nat.reduceAdd, Nat.reduceSub, Nat.reduceLT, Nat.reduceLeDiff, reduceIte, reduceCtorEq, Nat.reduceEqDiff, implies_true, forall_const, lawV]
  (refine callV_pc pt ?_; simp only [lawG, ↓Xn, ↓Xo, ↓Xg, ↓Xd, ↓Xe, ↓Xf, Tryz.VΓ, Tryz.Γs, Xp, Xi, Nat.reduceAdd, Nat.reduceSub, Nat.reduceLT, Nat.reduceLeDiff, reduceIte, reduceCtorEq, Nat.reduceEqDiff, implies_true, forall_const, lawV])
  refine ⟨fun h1 => (by rw [if_pos (by simpa using h1)]; rfl), fun h1 => ?_⟩
  rw [if_neg (by simpa using h1)]
  have pf := p_r11_FromURL u (hfair (by simpa using h1))
  unfold dsv wsv at pf
  (refine callV_pc pf ?_; simp only [lawG, ↓Xn, ↓Xo, ↓Xg, ↓Xd, ↓Xe, ↓Xf, Tryz.VΓ, Tryz.Γs, Xp, Xi, Nat.reduceAdd, Nat.reduceSub, Nat.reduceLT, Nat.reduceLeDiff, reduceIte, reduceCtorEq, Nat.reduceEqDiff, implies_true, forall_const, lawV])
end Go.Proofs.YtcndmooeglfilaaGreatDoor
/- Plain functions and laws of package ident. -/
set_option linter.all false
namespace Wf
open Go Go.RowKit
structure Idn where
  kind : Int
  text : Bytes
  host : Bytes
  port : Int
  deriving DecidableEq
def Idn.none : Idn := ⟨0, [], [], 0⟩
def idAcct (s : Bytes) : Idn × Int := if (acctParse s).2 ≠ 0 then (Idn.none, (acctParse s).2) else (⟨1, acctText (acctParse s).1, (acctParse s).1.host, 0⟩, 0)
def idMail (s : Bytes) : Idn × Int := if (mailParse s).2 ≠ 0 then (Idn.none, (mailParse s).2) else (⟨2, mailText (mailParse s).1, (mailParse s).1.host, 0⟩, 0)
def idWeb (s : Bytes) : Idn × Int := if (urlParse s).2 ≠ 0 then (Idn.none, (urlParse s).2) else (⟨3, urlText (urlParse s).1, (urlParse s).1.host, (urlParse s).1.port⟩, 0)
def idDidOf (c : Did × Int) : Idn × Int := if c.2 ≠ 0 then (Idn.none, c.2) else if (didAuth c.1).2 ≠ 0 then (Idn.none, (didAuth c.1).2) else (⟨4, didText c.1, (didAuth c.1).1.1, (didAuth c.1).1.2⟩, 0)
def idDid (s : Bytes) : Idn × Int := if (didParse s).2 ≠ 0 then (Idn.none, (didParse s).2) else idDidOf (didCano (didParse s).1)
def idS1 : Bytes := [97, 99, 99, 116]
def idS2 : Bytes := [109, 97, 105, 108, 116, 111]
def idS4 : Bytes := [100, 105, 100]
def idOf (sch s : Bytes) : Idn × Int :=
  if sch = idS1 then idAcct s else if sch = idS2 then idMail s else if sch = https then idWeb s else if sch = idS4 then idDid s else (Idn.none, 60)
def idParse (s : Bytes) : Idn × Int :=
  if 4096 < s.length then (Idn.none, 5)
  else if (cutC 58 s).2.2 = false then (Idn.none, 60)
  else idOf (lower (cutC 58 s).1) s
def idValid (i : Idn) : Bool := decide (idParse i.text = (i, 0))
def idSame (a b : Bytes) : Bool := decide ((idParse a).2 = 0 ∧ (idParse b).2 = 0 ∧ (idParse a).1 = (idParse b).1)
theorem idDidOf_err (c : Did × Int) (h : (idDidOf c).2 ≠ 0) : (idDidOf c).1 = Idn.none := by
  unfold idDidOf at h ⊢
  split
  · rfl
  rename_i h1
  rw [if_neg h1] at h
  split
  · rfl
  rename_i h2
  rw [if_neg h2] at h
  exact absurd rfl h
theorem idParse_err (s : Bytes) (h : (idParse s).2 ≠ 0) : (idParse s).1 = Idn.none := by
  unfold idParse at h ⊢
  split
  · rfl
  rename_i h1
  rw [if_neg h1] at h
  split
  · rfl
  rename_i h2
  rw [if_neg h2] at h
  unfold idOf at h ⊢
  split
  · rename_i k; rw [if_pos k] at h
    unfold idAcct at h ⊢
    split
    · rfl
    · rename_i h3; rw [if_neg h3] at h; exact absurd rfl h
  rename_i k; rw [if_neg k] at h; clear k
  split
  · rename_i k; rw [if_pos k] at h
    unfold idMail at h ⊢
    split
    · rfl
    · rename_i h3; rw [if_neg h3] at h; exact absurd rfl h
  rename_i k; rw [if_neg k] at h; clear k
  split
  · rename_i k; rw [if_pos k] at h
    unfold idWeb at h ⊢
    split
    · rfl
    · rename_i h3; rw [if_neg h3] at h; exact absurd rfl h
  rename_i k; rw [if_neg k] at h; clear k
  split
  · rename_i k; rw [if_pos k] at h
    unfold idDid at h ⊢
    split
    · rfl
    · rename_i h3; rw [if_neg h3] at h; exact idDidOf_err _ h
  · rfl
theorem idParse_at {p : Bytes} {r : Bytes} (hp : (58 : UInt8) ∉ p) (hl : (p ++ 58 :: r).length ≤ 4096) : idParse (p ++ 58 :: r) = idOf (lower p) (p ++ 58 :: r) := by
  unfold idParse
  rw [if_neg (by omega), cutC_some (pre_none hp), if_neg (by simp)]
theorem id_kinds {s : Bytes} {i : Idn} (h : idParse s = (i, 0)) : idParse i.text = (i, 0) ∧ hostPort (hostText i.host i.port) = ((i.host, i.port), 0) ∧
    ((∃ a : Acct, i.kind = 1 ∧ i.text = acctText a ∧ i.host = a.host ∧ i.port = 0) ∨ (∃ m : Mail, i.kind = 2 ∧ i.text = mailText m ∧ i.host = m.host ∧ i.port = 0) ∨
     (∃ u : Url, i.kind = 3 ∧ i.text = urlText u ∧ CanUrl u ∧ i.host = u.host ∧ i.port = u.port) ∨
     (∃ (c : Did) (u : Url) (r : Bytes), i.kind = 4 ∧ i.text = didText c ∧ c.method = webS ∧ c.id = idBase u ++ r ∧ i.host = u.host ∧ i.port = u.port)) := by
  have hostOf : ∀ {x : Bytes}, hostM x = (x, 0) → hostPort (hostText x 0) = ((x, 0), 0) := by
    intro x hx
    have h58 : (58 : UInt8) ∉ x := fun k => by
      have := hostM_bytes hx _ k
      revert this; decide
    have e : hostText x 0 = x := if_pos rfl
    rw [e]
    unfold hostPort
    rw [cutC_none (pre_none h58)]
    simp only
    unfold hostPortOf
    rw [hx]
    simp
  unfold idParse at h
  split at h
  · simp at h
  split at h
  · simp at h
  rename_i h1 h2
  unfold idOf at h
  split at h
  · unfold idAcct at h
    split at h
    · rename_i k; exact absurd (Prod.mk.inj h).2 k
    rename_i k
    have e : acctParse s = ((acctParse s).1, 0) := by
      have : (acctParse s).2 = 0 := by simpa using k
      rw [← this]
    obtain ⟨c1, c2, c3⟩ := acct_can e
    obtain ⟨b1, b2⟩ := acct_back e
    generalize (acctParse s).1 = a at *
    obtain rfl := (Prod.mk.inj h).1
    refine ⟨?_, hostOf c1.host, .inl ⟨a, rfl, rfl, rfl, rfl⟩⟩
    have ea : acctText a = idS1 ++ 58 :: (a.user ++ [64] ++ a.host) := by simp [acctText, acctS, idS1]
    simp only
    rw [ea, idParse_at (by decide) (by rw [← ea]; omega), ← ea]
    unfold idOf
    rw [if_pos (by decide)]
    unfold idAcct
    rw [b1]
    simp
  split at h
  · unfold idMail at h
    split at h
    · rename_i k; exact absurd (Prod.mk.inj h).2 k
    rename_i k
    have e : mailParse s = ((mailParse s).1, 0) := by
      have : (mailParse s).2 = 0 := by simpa using k
      rw [← this]
    have c1 := mail_can e
    have b1 := mail_read c1
    generalize (mailParse s).1 = a at *
    obtain rfl := (Prod.mk.inj h).1
    refine ⟨?_, hostOf c1.host, .inr (.inl ⟨a, rfl, rfl, rfl, rfl⟩)⟩
    have ea : mailText a = idS2 ++ 58 :: (pctEncode keptS a.loc ++ [64] ++ a.host) := by simp [mailText, mailS, idS2]
    have hl : (mailText a).length ≤ 4096 := by
      have h1 := pctEncode_len keptS a.loc
      have h2 := localOk_len c1.loc
      have h3 := (hostM_ok c1.host).2.1
      simp [mailText, mailS]; omega
    simp only
    rw [ea, idParse_at (by decide) (by rw [← ea]; omega), ← ea]
    unfold idOf
    rw [if_neg (by decide), if_pos (by decide)]
    unfold idMail
    rw [b1]
    simp
  split at h
  · unfold idWeb at h
    split at h
    · rename_i k; exact absurd (Prod.mk.inj h).2 k
    rename_i k
    have e : urlParse s = ((urlParse s).1, 0) := by
      have : (urlParse s).2 = 0 := by simpa using k
      rw [← this]
    have c1 := can_of_parse e
    generalize (urlParse s).1 = a at *
    obtain rfl := (Prod.mk.inj h).1
    refine ⟨?_, c1.host, .inr (.inr (.inl ⟨a, rfl, rfl, c1, rfl, rfl⟩))⟩
    have ea : urlText a = https ++ 58 :: ([47, 47] ++ hostText a.host a.port ++ urlTarget a ++ (if a.hasFrag then [35] ++ a.fragment else [])) := by simp [urlText, https]
    simp only
    rw [ea, idParse_at (by decide) (by rw [← ea]; exact c1.len), ← ea]
    unfold idOf
    rw [if_neg (by decide), if_neg (by decide), if_pos (by decide)]
    unfold idWeb
    rw [c1.parse]
    simp
  split at h
  · unfold idDid at h
    split at h
    · rename_i k; exact absurd (Prod.mk.inj h).2 k
    unfold idDidOf at h
    split at h
    · rename_i k; exact absurd (Prod.mk.inj h).2 k
    rename_i k1 k2
    split at h
    · rename_i k; exact absurd (Prod.mk.inj h).2 k
    have e : didCano (didParse s).1 = ((didCano (didParse s).1).1, 0) := by
      have : (didCano (didParse s).1).2 = 0 := by simpa using k2
      rw [← this]
    obtain ⟨u, d1, d2, d3, d4, d5, d6, ⟨r, d7⟩, d8⟩ := canon_inverse e
    generalize (didCano (didParse s).1).1 = c at *
    rw [d5] at h
    obtain rfl := (Prod.mk.inj h).1
    refine ⟨?_, d1.host, .inr (.inr (.inr ⟨c, u, r, rfl, rfl, d8, d7, rfl, rfl⟩))⟩
    have ea : didText c = idS4 ++ 58 :: (c.method ++ [58] ++ c.id) := by simp [didText, didS, idS4]
    have hl := (did_can d6).2.2.1
    simp only
    rw [ea, idParse_at (by decide) (by rw [← ea]; omega), ← ea]
    unfold idOf
    rw [if_neg (by decide), if_neg (by decide), if_neg (by decide), if_pos (by decide)]
    unfold idDid
    rw [d6]
    simp only [ne_eq, not_true, if_false]
    unfold idDidOf
    rw [d4]
    simp only [ne_eq, not_true, if_false]
    rw [d5]
    simp
  · simp at h
theorem id_host_ne {s : Bytes} {i : Idn} (h : idParse s = (i, 0)) : i.host ≠ [] := by
  have := (id_kinds h).2.1
  have := (hostPort_back this).2.1
  exact host_ne this
end Wf
/- The walks of package acct and of its reference. -/
set_option linter.all false
set_option maxRecDepth 20000
namespace Go.Proofs.YtcndmooeglfilaaGreatDoor
open Go Vc Go.RowKit Wf
def asv (a : Acct) : SV := .agg [.str a.user, .str a.host]
def acctCut (s : Bytes) : Bytes × Bytes × Int :=
  if 4096 < s.length then ([], [], 5) else if s.length < 5 ∨ lower (s.take 5) ≠ acctS then ([], [], 60) else if (cutC 64 (s.drop 5)).2.2 = false then ([], [], 6) else ((cutC 64 (s.drop 5)).1, (cutC 64 (s.drop 5)).2.1, 0)
theorem acctParse_cut (s : Bytes) : acctParse s = if (acctCut s).2.2 ≠ 0 then (Acct.none, (acctCut s).2.2) else acctOf (pctNorm inUser (acctCut s).1) (hostM (acctCut s).2.1) := by
  unfold acctParse acctCut acctRest
  split
  · simp
  split
  · simp
  split
  · simp
  · simp
set_option maxHeartbeats 2000000 in
theorem p_acct_cut (s : Bytes) : PC Tryz.V 193 [.str s] (.tup [.str (acctCut s).1, .str (acctCut s).2.1, .int .i64 (acctCut s).2.2]) := by
  have pe := p_Equal (s.take 5) acctS (by simp; omega) (by decide)
  rw [show lower acctS = acctS by decide] at pe
  refine pc_of 3000 Tryz.func193 rfl Tryz.ntmps193 Tryz.results193 Tryz.call193 (by simp) (by simp [flat, flat.flatL]) (by simp [flat, flat.flatL]) ?_
  simp only [lawG, ↓Xn, ↓Xo, ↓Xg, ↓Xd, ↓Xe, ↓Xf, Tryz.VΓ, Tryz.Γs, Xp, Xi, Nat.reduceAdd, Nat.reduceSub, Nat.reduceLT, Nat.reduceLeDiff, reduceIte, reduceCtorEq, Nat.reduceEqDiff, implies_true, forall_const, lawV]
  unfold acctCut
  refine ⟨fun h => ?_, fun h => ⟨fun h2 => ⟨⟨by omega, (by simp at h2; omega)⟩, ?_⟩, fun h2 => ?_⟩⟩
  · have h : 4096 < s.length := (by simp at h; omega)
    rw [if_pos h]
  · have h : ¬ 4096 < s.length := (by simp at h; omega)
    have h2 : ¬ s.length < 5 := (by simp at h2; omega)
    rw [if_neg h]
    (refine callV_pc pe ?_; simp only [lawG, ↓Xn, ↓Xo, ↓Xg, ↓Xd, ↓Xe, ↓Xf, Tryz.VΓ, Tryz.Γs, Xp, Xi, Nat.reduceAdd, Nat.reduceSub, Nat.reduceLT, Nat.reduceLeDiff, reduceIte, reduceCtorEq, Nat.reduceEqDiff, implies_true, forall_const, lawV])
    refine ⟨fun h3 => ?_, fun h3 => ⟨⟨by omega, by omega⟩, ?_⟩⟩
    · rw [if_pos (.inr (by simpa using h3))]
    rw [if_neg (by simp only [not_or]; exact ⟨h2, by simpa using h3⟩)]
    (refine callV_pc (p_Cut (s.drop 5) 64 (by simp; omega)) ?_; simp only [lawG, ↓Xn, ↓Xo, ↓Xg, ↓Xd, ↓Xe, ↓Xf, Tryz.VΓ, Tryz.Γs, Xp, Xi, Nat.reduceAdd, Nat.reduceSub, Nat.reduceLT, Nat.reduceLeDiff, reduceIte, reduceCtorEq, Nat.reduceEqDiff, implies_true, forall_const, lawV])
    refine ⟨fun h4 => ?_, fun h4 => ?_⟩
    · rw [if_pos (by simpa using h4)]
    · rw [if_neg (by simpa using h4)]
  · have h : ¬ 4096 < s.length := (by simp at h; omega)
    have h2 : s.length < 5 := (by simp at h2; omega)
    rw [if_neg h, if_pos (.inl h2)]
set_option maxHeartbeats 2000000 in
theorem p_acct_Parse (s : Bytes) : PC Tryz.V 164 [.str s] (.tup [asv (acctParse s).1, .int .i64 (acctParse s).2]) := by
  have pc := p_acct_cut s
  rw [acctParse_cut]
  have hl : (acctCut s).2.2 = 0 → (acctCut s).2.1.length ≤ 4096 := fun h => by
    unfold acctCut at h ⊢
    split at h
    · simp at h
    split at h
    · simp at h
    split at h
    · simp at h
    · rename_i h1 h2 h3
      rw [if_neg h1, if_neg h2, if_neg h3]
      have := cutC_len 64 (s.drop 5)
      simp at this ⊢
      omega
  generalize acctCut s = x at pc hl ⊢
  obtain ⟨u, p, e⟩ := x
  simp only at pc hl ⊢
  refine pc_of 3000 Tryz.func164 rfl Tryz.ntmps164 Tryz.results164 Tryz.call164 (by simp) (by simp [flat, flat.flatL]) (by simp [flat, flat.flatL, asv]) ?_
  simp only [lawG, ↓Xn, ↓Xo, ↓Xg, ↓Xd, ↓Xe, ↓Xf, Tryz.VΓ, Tryz.Γs, Xp, Xi, Nat.reduceAdd, Nat.reduceSub, Nat.reduceLT, Nat.reduceLeDiff, reduceIte, reduceCtorEq, Nat.reduceEqDiff, implies_true, forall_const, lawV]
  (refine callV_pc (pc) ?_; simp only [lawG, ↓Xn, ↓Xo, ↓Xg, ↓Xd, ↓Xe, ↓Xf, Tryz.VΓ, Tryz.Γs, Xp, Xi, Nat.reduceAdd, Nat.reduceSub, Nat.reduceLT, Nat.reduceLeDiff, reduceIte, reduceCtorEq, Nat.reduceEqDiff, implies_true, forall_const, lawV])
  refine ⟨fun h1 => ?_, fun h1 => ?_⟩
  · rw [if_pos (by simpa using h1)]; rfl
  rw [if_neg (by simpa using h1)]
  have hp := hl (by simpa using h1)
  have pn := p_Normalize u inUser (by decide)
  generalize pctNorm inUser u = n at pn ⊢
  obtain ⟨n, e1⟩ := n
  have ph := p_host_Host p (by omega)
  generalize hostM p = hh at ph ⊢
  obtain ⟨hh, e2⟩ := hh
  simp only at pn ph
  unfold acctOf
  (refine callV_pc (pn) ?_; simp only [lawG, ↓Xn, ↓Xo, ↓Xg, ↓Xd, ↓Xe, ↓Xf, Tryz.VΓ, Tryz.Γs, Xp, Xi, Nat.reduceAdd, Nat.reduceSub, Nat.reduceLT, Nat.reduceLeDiff, reduceIte, reduceCtorEq, Nat.reduceEqDiff, implies_true, forall_const, lawV])
  refine ⟨fun h2 => ⟨fun h3 => ⟨⟨by omega, ?_⟩, fun h4 => ?_, fun h4 => ?_⟩, fun h3 => ?_⟩, fun h2 => ?_⟩
  · cases n with
    | nil => simp at h3
    | cons c r => simp only [List.length_cons]; omega
  · cases n with
    | nil => simp at h3
    | cons c r =>
      have h4 : c = 37 := by
        rw [← UInt8.toNat_inj]
        have : ((c.toNat : Int) == 37) = true := h4
        have := beq_iff_eq.1 this
        have e : (37 : UInt8).toNat = 37 := rfl
        omega
      rw [if_pos (.inr (.inr (by rw [h4]; rfl)))]
      rfl
  · cases n with
    | nil => simp at h3
    | cons c r =>
      have h4 : c ≠ 37 := by
        rintro rfl
        have : (((37 : UInt8).toNat : Int) == 37) = false := h4
        simp at this
      rw [if_neg (by simp only [not_or]; exact ⟨by simpa using h2, by simp, by simpa using h4⟩)]
      (refine callV_pc ph ?_; simp only [lawG, ↓Xn, ↓Xo, ↓Xg, ↓Xd, ↓Xe, ↓Xf, Tryz.VΓ, Tryz.Γs, Xp, Xi, Nat.reduceAdd, Nat.reduceSub, Nat.reduceLT, Nat.reduceLeDiff, reduceIte, reduceCtorEq, Nat.reduceEqDiff, implies_true, forall_const, lawV])
      refine ⟨fun h5 => ?_, fun h5 => ?_⟩
      · rw [if_pos (by simpa using h5)]; rfl
      · rw [if_neg (by simpa using h5)]; rfl
  · rw [if_pos (.inr (.inl (by simpa using h3)))]; rfl
  · rw [if_pos (.inl (by simpa using h2))]; rfl
theorem p_acct_Format (a : Acct) (h : a.user.length ≤ 140737488355328 ∧ a.host.length ≤ 140737488355328) : PC Tryz.V 165 [asv a] (.str (acctText a)) := by
  refine pc_of 3000 Tryz.func165 rfl Tryz.ntmps165 Tryz.results165 Tryz.call165 (by simp) (by simp [flat, flat.flatL, asv]) (by simp [flat, flat.flatL, asv]) ?_
  unfold asv
  simp only [lawG, ↓Xn, ↓Xo, ↓Xg, ↓Xd, ↓Xe, ↓Xf, Tryz.VΓ, Tryz.Γs, Xp, Xi, Nat.reduceAdd, Nat.reduceSub, Nat.reduceLT, Nat.reduceLeDiff, reduceIte, reduceCtorEq, Nat.reduceEqDiff, implies_true, forall_const, lawV]
  refine ⟨by omega, by omega, by simp only [List.length_append, List.length_cons, List.length_nil]; omega, ?_⟩
  simp [acctText, acctS]
theorem p_r8_Format (a : Acct) (h : a.user.length ≤ 140737488355328 ∧ a.host.length ≤ 140737488355328) : PC Tryz.V 88 [asv a] (.str (acctText a)) := by
  refine pc_of 3000 Tryz.func88 rfl Tryz.ntmps88 Tryz.results88 Tryz.call88 (by simp) (by simp [flat, flat.flatL, asv]) (by simp [flat, flat.flatL, asv]) ?_
  unfold asv
  simp only [lawG, ↓Xn, ↓Xo, ↓Xg, ↓Xd, ↓Xe, ↓Xf, Tryz.VΓ, Tryz.Γs, Xp, Xi, Nat.reduceAdd, Nat.reduceSub, Nat.reduceLT, Nat.reduceLeDiff, reduceIte, reduceCtorEq, Nat.reduceEqDiff, implies_true, forall_const, lawV]
  refine ⟨by omega, by omega, by simp only [List.length_append, List.length_cons, List.length_nil]; omega, ?_⟩
  simp [acctText, acctS]
set_option maxHeartbeats 2000000 in
theorem p_r8_Parse (s : Bytes) : PC Tryz.V 87 [.str s] (.tup [asv (acctParse s).1, .int .i64 (acctParse s).2]) := by
  have pe := p_r1_Equal (s.take 5) acctS (by simp; omega) (by decide)
  rw [show lower acctS = acctS by decide] at pe
  refine pc_of 3000 Tryz.func87 rfl Tryz.ntmps87 Tryz.results87 Tryz.call87 (by simp) (by simp [flat, flat.flatL]) (by simp [flat, flat.flatL, asv]) ?_
  simp only [lawG, ↓Xn, ↓Xo, ↓Xg, ↓Xd, ↓Xe, ↓Xf, Tryz.VΓ, Tryz.Γs, Xp, Xi, Nat.reduceAdd, Nat.reduceSub, Nat.reduceLT, Nat.reduceLeDiff, reduceIte, reduceCtorEq, Nat.reduceEqDiff, implies_true, forall_const, lawV]
  unfold acctParse
  refine ⟨fun h => ?_, fun h => ⟨fun h2 => ⟨⟨by omega, (by simp at h2; omega)⟩, ?_⟩, fun h2 => ?_⟩⟩
  · have h : 4096 < s.length := (by simp at h; omega)
    rw [if_pos h]; rfl
  · have h : ¬ 4096 < s.length := (by simp at h; omega)
    have h2 : ¬ s.length < 5 := (by simp at h2; omega)
    rw [if_neg h]
    (refine callV_pc pe ?_; simp only [lawG, ↓Xn, ↓Xo, ↓Xg, ↓Xd, ↓Xe, ↓Xf, Tryz.VΓ, Tryz.Γs, Xp, Xi, Nat.reduceAdd, Nat.reduceSub, Nat.reduceLT, Nat.reduceLeDiff, reduceIte, reduceCtorEq, Nat.reduceEqDiff, implies_true, forall_const, lawV, Int.reduceToNat])
    refine ⟨fun h3 => ?_, fun h3 => ⟨⟨by omega, by omega⟩, ?_⟩⟩
    · rw [if_pos (.inr (by simpa using h3))]; rfl
    rw [if_neg (by simp only [not_or]; exact ⟨h2, by simpa using h3⟩)]
    have hS : (s.drop 5).length ≤ 4096 := by simp; omega
    generalize s.drop 5 = S at hS ⊢
    have pi := p_r1_Index S [64] (by omega) (by decide)
    rw [show (List.contains [64] · : UInt8 → Bool) = (· == 64) from by funext c; simp; exact (Bool.beq_eq_decide_eq _ _).symm] at pi
    have hpl := pre_le (· == 64) S
    unfold acctRest
    (refine callV_pc pi ?_; simp only [lawG, ↓Xn, ↓Xo, ↓Xg, ↓Xd, ↓Xe, ↓Xf, Tryz.VΓ, Tryz.Γs, Xp, Xi, Nat.reduceAdd, Nat.reduceSub, Nat.reduceLT, Nat.reduceLeDiff, reduceIte, reduceCtorEq, Nat.reduceEqDiff, implies_true, forall_const, lawV])
    refine ⟨fun h4 => ?_, fun h4 => ?_⟩
    · have h4 := beq_iff_eq.1 h4
      rw [cutC_none (by omega)]; rfl
    have h4 : pre (· == 64) S < S.length := by
      have := beq_eq_false_iff_ne.1 h4
      omega
    rw [show cutC 64 S = (S.take (pre (· == 64) S), S.drop (pre (· == 64) S + 1), true) from if_pos h4]
    simp only [Bool.true_eq_false, if_false]
    generalize hk : pre (· == 64) S = k at *
    have pn := p_r3_Normalize (S.take k) inUser (by decide)
    have ph := p_r5_Host (S.drop (k + 1)) (by simp; omega)
    generalize pctNorm inUser (S.take k) = n at pn ⊢
    obtain ⟨n, e1⟩ := n
    generalize hostM (S.drop (k + 1)) = hh at ph ⊢
    obtain ⟨hh, e2⟩ := hh
    simp only at pn ph
    unfold acctOf
    simp only
    refine ⟨⟨by omega, by omega⟩, ?_⟩
    (refine callV_pc pn ?_; simp only [lawG, ↓Xn, ↓Xo, ↓Xg, ↓Xd, ↓Xe, ↓Xf, Tryz.VΓ, Tryz.Γs, Xp, Xi, Nat.reduceAdd, Nat.reduceSub, Nat.reduceLT, Nat.reduceLeDiff, reduceIte, reduceCtorEq, Nat.reduceEqDiff, implies_true, forall_const, lawV])
    refine ⟨fun h2 => ⟨fun h3 => ⟨⟨by omega, ?_⟩, fun h4 => ?_, fun h4 => ?_⟩, fun h3 => ?_⟩, fun h2 => ?_⟩
    · cases n with
      | nil => simp at h3
      | cons c r => simp only [List.length_cons]; omega
    · cases n with
      | nil => simp at h3
      | cons c r =>
        have h4 : c = 37 := by
          rw [← UInt8.toNat_inj]
          have : ((c.toNat : Int) == 37) = true := h4
          have := beq_iff_eq.1 this
          have e : (37 : UInt8).toNat = 37 := rfl
          omega
        rw [if_pos (.inr (.inr (by rw [h4]; rfl)))]
        rfl
    · cases n with
      | nil => simp at h3
      | cons c r =>
        have h4 : c ≠ 37 := by
          rintro rfl
          have : (((37 : UInt8).toNat : Int) == 37) = false := h4
          simp at this
        rw [if_neg (by simp only [not_or]; exact ⟨by simpa using h2, by simp, by simpa using h4⟩)]
        refine ⟨⟨by omega, by omega⟩, ⟨by omega, by omega⟩, ?_⟩
        (refine callV_pc ph ?_; simp only [lawG, ↓Xn, ↓Xo, ↓Xg, ↓Xd, ↓Xe, ↓Xf, Tryz.VΓ, Tryz.Γs, Xp, Xi, Nat.reduceAdd, Nat.reduceSub, Nat.reduceLT, Nat.reduceLeDiff, reduceIte, reduceCtorEq, Nat.reduceEqDiff, implies_true, forall_const, lawV])
        refine ⟨fun h5 => ?_, fun h5 => ?_⟩
        · rw [if_pos (by simpa using h5)]; rfl
        · rw [if_neg (by simpa using h5)]; rfl
    · rw [if_pos (.inr (.inl (by simpa using h3)))]; rfl
    · rw [if_pos (.inl (by simpa using h2))]; rfl
  · have h : ¬ 4096 < s.length := (by simp at h; omega)
    have h2 : s.length < 5 := (by simp at h2; omega)
    rw [if_neg h, if_pos (.inl h2)]; rfl
end Go.Proofs.YtcndmooeglfilaaGreatDoor
/- The walks of package ident. -/
set_option linter.all false
set_option maxRecDepth 20000
namespace Go.Proofs.YtcndmooeglfilaaGreatDoor
open Go Vc Go.RowKit Wf
set_option linter.unusedSimpArgs false
def isv (i : Idn) : SV := .agg [.int .i64 i.kind, .str i.text, .str i.host, .int .i64 i.port]
theorem id_fits (s : Bytes) (h : (acctParse s).2 = 0) : (acctParse s).1.user.length ≤ 140737488355328 ∧ (acctParse s).1.host.length ≤ 140737488355328 := by
  have h1 := (acct_can (s := s) (a := (acctParse s).1) (by rw [← h])).2
  unfold acctText at h1
  simp at h1
  omega
theorem id_fitsM (s : Bytes) (h : (mailParse s).2 = 0) : (mailParse s).1.loc.length ≤ 300000 ∧ (mailParse s).1.host.length ≤ 140737488355328 := by
  have h1 := mail_can (s := s) (m := (mailParse s).1) (by rw [← h])
  have h2 := localOk_len h1.loc
  have h3 := (hostM_ok h1.host).2.1
  exact ⟨by omega, by omega⟩
set_option maxHeartbeats 2000000 in
theorem p_id_asAcct (s : Bytes) : PC Tryz.V 129 [.str s] (.tup [isv (idAcct s).1, .int .i64 (idAcct s).2]) := by
  have p1 := p_acct_Parse s
  have p2 := fun h => p_acct_Format (acctParse s).1 (id_fits s h)
  unfold idAcct
  unfold asv at p1 p2
  (refine pc_of 3000 Tryz.func129 rfl Tryz.ntmps129 Tryz.results129 Tryz.call129 (by simp) (by simp [flat, flat.flatL, isv]) (by simp [flat, flat.flatL, isv]) ?_)
  unfold isv
  simp only [lawG, ↓Xn, ↓Xo, ↓Xg, ↓Xd, ↓Xe, ↓Xf, Tryz.VΓ, Tryz.Γs, Xp, Xi, Nat.reduceAdd, Nat.reduceSub, Nat.reduceLT, Nat.reduceLeDiff, reduceIte, reduceCtorEq, Nat.reduceEqDiff, implies_true, forall_const, lawV, beq_self_eq_true, bne_self_eq_false, Int.reduceBEq, Int.reduceBNe, Int.reduceLT, Int.reduceLE]
  (refine callV_pc p1 ?_; simp only [lawG, ↓Xn, ↓Xo, ↓Xg, ↓Xd, ↓Xe, ↓Xf, Tryz.VΓ, Tryz.Γs, Xp, Xi, Nat.reduceAdd, Nat.reduceSub, Nat.reduceLT, Nat.reduceLeDiff, reduceIte, reduceCtorEq, Nat.reduceEqDiff, implies_true, forall_const, lawV, beq_self_eq_true, bne_self_eq_false, Int.reduceBEq, Int.reduceBNe, Int.reduceLT, Int.reduceLE])
  refine ⟨fun h => ?_, fun h => ?_⟩
  · have h : (acctParse s).2 ≠ 0 := by simpa using h
    simp [h, Idn.none]
  · have h : (acctParse s).2 = 0 := by simpa using h
    (refine callD_pc (p2 h) ?_; simp only [lawG, ↓Xn, ↓Xo, ↓Xg, ↓Xd, ↓Xe, ↓Xf, Tryz.VΓ, Tryz.Γs, Xp, Xi, Nat.reduceAdd, Nat.reduceSub, Nat.reduceLT, Nat.reduceLeDiff, reduceIte, reduceCtorEq, Nat.reduceEqDiff, implies_true, forall_const, lawV, beq_self_eq_true, bne_self_eq_false, Int.reduceBEq, Int.reduceBNe, Int.reduceLT, Int.reduceLE])
    simp only [h]
    exact ⟨(OkD_fast (by kernel_rfl)), by simp⟩
set_option maxHeartbeats 2000000 in
theorem p_id_asMail (s : Bytes) : PC Tryz.V 130 [.str s] (.tup [isv (idMail s).1, .int .i64 (idMail s).2]) := by
  have p1 := p_mail_Parse s
  have p2 := fun h => p_mail_Format (mailParse s).1 (id_fitsM s h)
  unfold idMail
  unfold msv at p1 p2
  (refine pc_of 3000 Tryz.func130 rfl Tryz.ntmps130 Tryz.results130 Tryz.call130 (by simp) (by simp [flat, flat.flatL, isv]) (by simp [flat, flat.flatL, isv]) ?_)
  unfold isv
  simp only [lawG, ↓Xn, ↓Xo, ↓Xg, ↓Xd, ↓Xe, ↓Xf, Tryz.VΓ, Tryz.Γs, Xp, Xi, Nat.reduceAdd, Nat.reduceSub, Nat.reduceLT, Nat.reduceLeDiff, reduceIte, reduceCtorEq, Nat.reduceEqDiff, implies_true, forall_const, lawV, beq_self_eq_true, bne_self_eq_false, Int.reduceBEq, Int.reduceBNe, Int.reduceLT, Int.reduceLE]
  (refine callV_pc p1 ?_; simp only [lawG, ↓Xn, ↓Xo, ↓Xg, ↓Xd, ↓Xe, ↓Xf, Tryz.VΓ, Tryz.Γs, Xp, Xi, Nat.reduceAdd, Nat.reduceSub, Nat.reduceLT, Nat.reduceLeDiff, reduceIte, reduceCtorEq, Nat.reduceEqDiff, implies_true, forall_const, lawV, beq_self_eq_true, bne_self_eq_false, Int.reduceBEq, Int.reduceBNe, Int.reduceLT, Int.reduceLE])
  refine ⟨fun h => ?_, fun h => ?_⟩
  · have h : (mailParse s).2 ≠ 0 := by simpa using h
    simp [h, Idn.none]
  · have h : (mailParse s).2 = 0 := by simpa using h
    (refine callD_pc (p2 h) ?_; simp only [lawG, ↓Xn, ↓Xo, ↓Xg, ↓Xd, ↓Xe, ↓Xf, Tryz.VΓ, Tryz.Γs, Xp, Xi, Nat.reduceAdd, Nat.reduceSub, Nat.reduceLT, Nat.reduceLeDiff, reduceIte, reduceCtorEq, Nat.reduceEqDiff, implies_true, forall_const, lawV, beq_self_eq_true, bne_self_eq_false, Int.reduceBEq, Int.reduceBNe, Int.reduceLT, Int.reduceLE])
    simp only [h]
    exact ⟨(OkD_fast (by kernel_rfl)), by simp⟩
set_option maxHeartbeats 2000000 in
theorem p_id_asWeb (s : Bytes) : PC Tryz.V 131 [.str s] (.tup [isv (idWeb s).1, .int .i64 (idWeb s).2]) := by
  have p1 := p_url_Parse s
  have p2 := fun h => p_url_Format (urlParse s).1 (can_fair (can_of_parse (s := s) (u := (urlParse s).1) (by rw [← (show (urlParse s).2 = 0 from h)])))
  unfold idWeb
  unfold wsv at p1 p2
  (refine pc_of 3000 Tryz.func131 rfl Tryz.ntmps131 Tryz.results131 Tryz.call131 (by simp) (by simp [flat, flat.flatL, isv]) (by simp [flat, flat.flatL, isv]) ?_)
  unfold isv
  simp only [lawG, ↓Xn, ↓Xo, ↓Xg, ↓Xd, ↓Xe, ↓Xf, Tryz.VΓ, Tryz.Γs, Xp, Xi, Nat.reduceAdd, Nat.reduceSub, Nat.reduceLT, Nat.reduceLeDiff, reduceIte, reduceCtorEq, Nat.reduceEqDiff, implies_true, forall_const, lawV, beq_self_eq_true, bne_self_eq_false, Int.reduceBEq, Int.reduceBNe, Int.reduceLT, Int.reduceLE]
  (refine callV_pc p1 ?_; simp only [lawG, ↓Xn, ↓Xo, ↓Xg, ↓Xd, ↓Xe, ↓Xf, Tryz.VΓ, Tryz.Γs, Xp, Xi, Nat.reduceAdd, Nat.reduceSub, Nat.reduceLT, Nat.reduceLeDiff, reduceIte, reduceCtorEq, Nat.reduceEqDiff, implies_true, forall_const, lawV, beq_self_eq_true, bne_self_eq_false, Int.reduceBEq, Int.reduceBNe, Int.reduceLT, Int.reduceLE])
  refine ⟨fun h => ?_, fun h => ?_⟩
  · have h : (urlParse s).2 ≠ 0 := by simpa using h
    simp [h, Idn.none]
  · have h : (urlParse s).2 = 0 := by simpa using h
    (refine callD_pc (p2 h) ?_; simp only [lawG, ↓Xn, ↓Xo, ↓Xg, ↓Xd, ↓Xe, ↓Xf, Tryz.VΓ, Tryz.Γs, Xp, Xi, Nat.reduceAdd, Nat.reduceSub, Nat.reduceLT, Nat.reduceLeDiff, reduceIte, reduceCtorEq, Nat.reduceEqDiff, implies_true, forall_const, lawV, beq_self_eq_true, bne_self_eq_false, Int.reduceBEq, Int.reduceBNe, Int.reduceLT, Int.reduceLE])
    simp only [h]
    exact ⟨(OkD_fast (by kernel_rfl)), by simp⟩
set_option maxHeartbeats 2000000 in
theorem p_r12_web (s : Bytes) : PC Tryz.V 91 [.str s] (.tup [isv (idWeb s).1, .int .i64 (idWeb s).2]) := by
  have p1 := p_r7_Parse s
  have p2 := fun h => p_r7_Format (urlParse s).1 (can_fair (can_of_parse (s := s) (u := (urlParse s).1) (by rw [← (show (urlParse s).2 = 0 from h)])))
  unfold idWeb
  unfold wsv at p1 p2
  (refine pc_of 3000 Tryz.func91 rfl Tryz.ntmps91 Tryz.results91 Tryz.call91 (by simp) (by simp [flat, flat.flatL, isv]) (by simp [flat, flat.flatL, isv]) ?_)
  unfold isv
  simp only [lawG, ↓Xn, ↓Xo, ↓Xg, ↓Xd, ↓Xe, ↓Xf, Tryz.VΓ, Tryz.Γs, Xp, Xi, Nat.reduceAdd, Nat.reduceSub, Nat.reduceLT, Nat.reduceLeDiff, reduceIte, reduceCtorEq, Nat.reduceEqDiff, implies_true, forall_const, lawV, beq_self_eq_true, bne_self_eq_false, Int.reduceBEq, Int.reduceBNe, Int.reduceLT, Int.reduceLE]
  (refine callV_pc p1 ?_; simp only [lawG, ↓Xn, ↓Xo, ↓Xg, ↓Xd, ↓Xe, ↓Xf, Tryz.VΓ, Tryz.Γs, Xp, Xi, Nat.reduceAdd, Nat.reduceSub, Nat.reduceLT, Nat.reduceLeDiff, reduceIte, reduceCtorEq, Nat.reduceEqDiff, implies_true, forall_const, lawV, beq_self_eq_true, bne_self_eq_false, Int.reduceBEq, Int.reduceBNe, Int.reduceLT, Int.reduceLE])
  refine ⟨fun h => ?_, fun h => ?_⟩
  · have h : (urlParse s).2 ≠ 0 := by simpa using h
    simp [h, Idn.none]
  · have h : (urlParse s).2 = 0 := by simpa using h
    (refine callD_pc (p2 h) ?_; simp only [lawG, ↓Xn, ↓Xo, ↓Xg, ↓Xd, ↓Xe, ↓Xf, Tryz.VΓ, Tryz.Γs, Xp, Xi, Nat.reduceAdd, Nat.reduceSub, Nat.reduceLT, Nat.reduceLeDiff, reduceIte, reduceCtorEq, Nat.reduceEqDiff, implies_true, forall_const, lawV, beq_self_eq_true, bne_self_eq_false, Int.reduceBEq, Int.reduceBNe, Int.reduceLT, Int.reduceLE])
    simp only [h]
    exact ⟨(OkD_fast (by kernel_rfl)), by simp⟩
theorem id_fitsD (s : Bytes) : DidFits (didParse s).1 := by
  by_cases h : (didParse s).2 = 0
  · have h1 := did_can (s := s) (d := (didParse s).1) (by rw [← h])
    have h2 := didText_len (didParse s).1
    exact ⟨by omega, by omega⟩
  · rw [didParse_err s h]; exact ⟨by decide, by decide⟩
theorem id_fitsC {d c : Did} (h : didCano d = (c, 0)) : DidFits c := by
  obtain ⟨u, h1, h2, h3, h4, h5, h6, h7, h8⟩ := canon_inverse h
  have h9 := did_can h6
  have h10 := didText_len c
  exact ⟨by omega, by omega⟩
theorem id_auth {d c : Did} (h : didCano d = (c, 0)) : (didAuth c).2 = 0 := by
  obtain ⟨u, h1, h2, h3, h4, h5, h6, h7, h8⟩ := canon_inverse h
  rw [h5]
set_option maxHeartbeats 4000000 in
theorem p_id_asDID (s : Bytes) : PC Tryz.V 132 [.str s] (.tup [isv (idDid s).1, .int .i64 (idDid s).2]) := by
  have p1 := p_did_ParseDID s
  have p2 := p_web_Canonical (didParse s).1 (id_fitsD s)
  unfold idDid
  unfold dsv at p1 p2
  (refine pc_of 3000 Tryz.func132 rfl Tryz.ntmps132 Tryz.results132 Tryz.call132 (by simp) (by simp [flat, flat.flatL, isv]) (by simp [flat, flat.flatL, isv]) ?_)
  unfold isv
  simp only [lawG, ↓Xn, ↓Xo, ↓Xg, ↓Xd, ↓Xe, ↓Xf, Tryz.VΓ, Tryz.Γs, Xp, Xi, Nat.reduceAdd, Nat.reduceSub, Nat.reduceLT, Nat.reduceLeDiff, reduceIte, reduceCtorEq, Nat.reduceEqDiff, implies_true, forall_const, lawV, beq_self_eq_true, bne_self_eq_false, Int.reduceBEq, Int.reduceBNe, Int.reduceLT, Int.reduceLE]
  (refine callV_pc p1 ?_; simp only [lawG, ↓Xn, ↓Xo, ↓Xg, ↓Xd, ↓Xe, ↓Xf, Tryz.VΓ, Tryz.Γs, Xp, Xi, Nat.reduceAdd, Nat.reduceSub, Nat.reduceLT, Nat.reduceLeDiff, reduceIte, reduceCtorEq, Nat.reduceEqDiff, implies_true, forall_const, lawV, beq_self_eq_true, bne_self_eq_false, Int.reduceBEq, Int.reduceBNe, Int.reduceLT, Int.reduceLE])
  refine ⟨fun h => ?_, fun h => ?_⟩
  · have h : (didParse s).2 ≠ 0 := by simpa using h
    simp [h, Idn.none]
  have h : (didParse s).2 = 0 := by simpa using h
  simp only [h, ne_eq, not_true_eq_false, if_false]
  generalize hz : didCano (didParse s).1 = z at p2
  obtain ⟨c, e⟩ := z
  simp only at p2
  (refine callV_pc p2 ?_; simp only [lawG, ↓Xn, ↓Xo, ↓Xg, ↓Xd, ↓Xe, ↓Xf, Tryz.VΓ, Tryz.Γs, Xp, Xi, Nat.reduceAdd, Nat.reduceSub, Nat.reduceLT, Nat.reduceLeDiff, reduceIte, reduceCtorEq, Nat.reduceEqDiff, implies_true, forall_const, lawV, beq_self_eq_true, bne_self_eq_false, Int.reduceBEq, Int.reduceBNe, Int.reduceLT, Int.reduceLE])
  refine ⟨fun h => ?_, fun h => ?_⟩
  · have h : e ≠ 0 := by simpa using h
    simp [idDidOf, h, Idn.none]
  obtain rfl : e = 0 := by simpa using h
  have p3 := p_web_Authority c (id_fitsC hz)
  have p4 := p_did_FormatDID c (id_fitsC hz)
  unfold dsv at p3 p4
  have ha := id_auth hz
  rw [ha] at p3
  (refine callV_pc (p3) ?_; simp only [lawG, ↓Xn, ↓Xo, ↓Xg, ↓Xd, ↓Xe, ↓Xf, Tryz.VΓ, Tryz.Γs, Xp, Xi, Nat.reduceAdd, Nat.reduceSub, Nat.reduceLT, Nat.reduceLeDiff, reduceIte, reduceCtorEq, Nat.reduceEqDiff, implies_true, forall_const, lawV, beq_self_eq_true, bne_self_eq_false, Int.reduceBEq, Int.reduceBNe, Int.reduceLT, Int.reduceLE])
  (refine callD_pc (p4) ?_; simp only [lawG, ↓Xn, ↓Xo, ↓Xg, ↓Xd, ↓Xe, ↓Xf, Tryz.VΓ, Tryz.Γs, Xp, Xi, Nat.reduceAdd, Nat.reduceSub, Nat.reduceLT, Nat.reduceLeDiff, reduceIte, reduceCtorEq, Nat.reduceEqDiff, implies_true, forall_const, lawV, beq_self_eq_true, bne_self_eq_false, Int.reduceBEq, Int.reduceBNe, Int.reduceLT, Int.reduceLE])
  exact ⟨(OkD_fast (by kernel_rfl)), by simp [idDidOf, ha]⟩
set_option maxHeartbeats 4000000 in
theorem p_r12_decentral (s : Bytes) : PC Tryz.V 92 [.str s] (.tup [isv (idDid s).1, .int .i64 (idDid s).2]) := by
  have p1 := p_r10_ParseDID s
  have p2 := p_r11_Canonical (didParse s).1 (id_fitsD s)
  unfold idDid
  unfold dsv at p1 p2
  (refine pc_of 3000 Tryz.func92 rfl Tryz.ntmps92 Tryz.results92 Tryz.call92 (by simp) (by simp [flat, flat.flatL, isv]) (by simp [flat, flat.flatL, isv]) ?_)
  unfold isv
  simp only [lawG, ↓Xn, ↓Xo, ↓Xg, ↓Xd, ↓Xe, ↓Xf, Tryz.VΓ, Tryz.Γs, Xp, Xi, Nat.reduceAdd, Nat.reduceSub, Nat.reduceLT, Nat.reduceLeDiff, reduceIte, reduceCtorEq, Nat.reduceEqDiff, implies_true, forall_const, lawV, beq_self_eq_true, bne_self_eq_false, Int.reduceBEq, Int.reduceBNe, Int.reduceLT, Int.reduceLE]
  (refine callV_pc p1 ?_; simp only [lawG, ↓Xn, ↓Xo, ↓Xg, ↓Xd, ↓Xe, ↓Xf, Tryz.VΓ, Tryz.Γs, Xp, Xi, Nat.reduceAdd, Nat.reduceSub, Nat.reduceLT, Nat.reduceLeDiff, reduceIte, reduceCtorEq, Nat.reduceEqDiff, implies_true, forall_const, lawV, beq_self_eq_true, bne_self_eq_false, Int.reduceBEq, Int.reduceBNe, Int.reduceLT, Int.reduceLE])
  refine ⟨fun h => ?_, fun h => ?_⟩
  · have h : (didParse s).2 ≠ 0 := by simpa using h
    simp [h, Idn.none]
  have h : (didParse s).2 = 0 := by simpa using h
  simp only [h, ne_eq, not_true_eq_false, if_false]
  generalize hz : didCano (didParse s).1 = z at p2
  obtain ⟨c, e⟩ := z
  simp only at p2
  (refine callV_pc p2 ?_; simp only [lawG, ↓Xn, ↓Xo, ↓Xg, ↓Xd, ↓Xe, ↓Xf, Tryz.VΓ, Tryz.Γs, Xp, Xi, Nat.reduceAdd, Nat.reduceSub, Nat.reduceLT, Nat.reduceLeDiff, reduceIte, reduceCtorEq, Nat.reduceEqDiff, implies_true, forall_const, lawV, beq_self_eq_true, bne_self_eq_false, Int.reduceBEq, Int.reduceBNe, Int.reduceLT, Int.reduceLE])
  refine ⟨fun h => ?_, fun h => ?_⟩
  · have h : e ≠ 0 := by simpa using h
    simp [idDidOf, h, Idn.none]
  obtain rfl : e = 0 := by simpa using h
  have p3 := p_r11_Authority c (id_fitsC hz)
  have p4 := p_r10_FormatDID c (id_fitsC hz)
  unfold dsv at p3 p4
  have ha := id_auth hz
  rw [ha] at p3
  (refine callV_pc (p3) ?_; simp only [lawG, ↓Xn, ↓Xo, ↓Xg, ↓Xd, ↓Xe, ↓Xf, Tryz.VΓ, Tryz.Γs, Xp, Xi, Nat.reduceAdd, Nat.reduceSub, Nat.reduceLT, Nat.reduceLeDiff, reduceIte, reduceCtorEq, Nat.reduceEqDiff, implies_true, forall_const, lawV, beq_self_eq_true, bne_self_eq_false, Int.reduceBEq, Int.reduceBNe, Int.reduceLT, Int.reduceLE])
  (refine callD_pc (p4) ?_; simp only [lawG, ↓Xn, ↓Xo, ↓Xg, ↓Xd, ↓Xe, ↓Xf, Tryz.VΓ, Tryz.Γs, Xp, Xi, Nat.reduceAdd, Nat.reduceSub, Nat.reduceLT, Nat.reduceLeDiff, reduceIte, reduceCtorEq, Nat.reduceEqDiff, implies_true, forall_const, lawV, beq_self_eq_true, bne_self_eq_false, Int.reduceBEq, Int.reduceBNe, Int.reduceLT, Int.reduceLE])
  exact ⟨(OkD_fast (by kernel_rfl)), by simp [idDidOf, ha]⟩
theorem p_id_Authority (i : Idn) : PC Tryz.V 44 [isv i] (.agg [.str i.host, .int .i64 i.port]) := by
  (refine pc_of 3000 Tryz.func44 rfl Tryz.ntmps44 Tryz.results44 Tryz.call44 (by simp) (by simp [flat, flat.flatL, isv]) (by simp [flat, flat.flatL, isv]) ?_)
  unfold isv
  simp only [lawG, ↓Xn, ↓Xo, ↓Xg, ↓Xd, ↓Xe, ↓Xf, Tryz.VΓ, Tryz.Γs, Xp, Xi, Nat.reduceAdd, Nat.reduceSub, Nat.reduceLT, Nat.reduceLeDiff, reduceIte, reduceCtorEq, Nat.reduceEqDiff, implies_true, forall_const, lawV]
theorem p_r12_Authority (i : Idn) : PC Tryz.V 45 [isv i] (.agg [.str i.host, .int .i64 i.port]) := by
  (refine pc_of 3000 Tryz.func45 rfl Tryz.ntmps45 Tryz.results45 Tryz.call45 (by simp) (by simp [flat, flat.flatL, isv]) (by simp [flat, flat.flatL, isv]) ?_)
  unfold isv
  simp only [lawG, ↓Xn, ↓Xo, ↓Xg, ↓Xd, ↓Xe, ↓Xf, Tryz.VΓ, Tryz.Γs, Xp, Xi, Nat.reduceAdd, Nat.reduceSub, Nat.reduceLT, Nat.reduceLeDiff, reduceIte, reduceCtorEq, Nat.reduceEqDiff, implies_true, forall_const, lawV]
theorem id_eqF (a b : Idn) : (a.kind == b.kind && (a.text == b.text && (a.host == b.host && a.port == b.port))) = decide (a = b) := by
  obtain ⟨a1, a2, a3, a4⟩ := a
  obtain ⟨b1, b2, b3, b4⟩ := b
  rw [Bool.eq_iff_iff]
  simp
theorem p_id_Valid (hp : ∀ s, PC Tryz.V 39 [.str s] (.tup [isv (idParse s).1, .int .i64 (idParse s).2])) (i : Idn) : PC Tryz.V 42 [isv i] (.bool (idValid i)) := by
  have p1 := hp i.text
  unfold isv at p1
  (refine pc_of 3000 Tryz.func42 rfl Tryz.ntmps42 Tryz.results42 Tryz.call42 (by simp) (by simp [flat, flat.flatL, isv]) (by simp [flat, flat.flatL, isv]) ?_)
  unfold isv
  simp only [lawG, ↓Xn, ↓Xo, ↓Xg, ↓Xd, ↓Xe, ↓Xf, Tryz.VΓ, Tryz.Γs, Xp, Xi, Nat.reduceAdd, Nat.reduceSub, Nat.reduceLT, Nat.reduceLeDiff, reduceIte, reduceCtorEq, Nat.reduceEqDiff, implies_true, forall_const, lawV]
  (refine callV_pc p1 ?_; simp only [lawG, ↓Xn, ↓Xo, ↓Xg, ↓Xd, ↓Xe, ↓Xf, Tryz.VΓ, Tryz.Γs, Xp, Xi, Nat.reduceAdd, Nat.reduceSub, Nat.reduceLT, Nat.reduceLeDiff, reduceIte, reduceCtorEq, Nat.reduceEqDiff, implies_true, forall_const, lawV, id_eqF])
  unfold idValid
  refine ⟨fun h => ?_, fun h => ?_⟩
  · have h : (idParse i.text).2 = 0 := by simpa using h
    simp [Prod.ext_iff, h]
  · have h : ¬ (idParse i.text).2 = 0 := by simpa using h
    simp [Prod.ext_iff, h]
theorem p_r12_Valid (hp : ∀ s, PC Tryz.V 40 [.str s] (.tup [isv (idParse s).1, .int .i64 (idParse s).2])) (i : Idn) : PC Tryz.V 43 [isv i] (.bool (idValid i)) := by
  have p1 := hp i.text
  unfold isv at p1
  (refine pc_of 3000 Tryz.func43 rfl Tryz.ntmps43 Tryz.results43 Tryz.call43 (by simp) (by simp [flat, flat.flatL, isv]) (by simp [flat, flat.flatL, isv]) ?_)
  unfold isv
  simp only [lawG, ↓Xn, ↓Xo, ↓Xg, ↓Xd, ↓Xe, ↓Xf, Tryz.VΓ, Tryz.Γs, Xp, Xi, Nat.reduceAdd, Nat.reduceSub, Nat.reduceLT, Nat.reduceLeDiff, reduceIte, reduceCtorEq, Nat.reduceEqDiff, implies_true, forall_const, lawV]
  (refine callV_pc p1 ?_; simp only [lawG, ↓Xn, ↓Xo, ↓Xg, ↓Xd, ↓Xe, ↓Xf, Tryz.VΓ, Tryz.Γs, Xp, Xi, Nat.reduceAdd, Nat.reduceSub, Nat.reduceLT, Nat.reduceLeDiff, reduceIte, reduceCtorEq, Nat.reduceEqDiff, implies_true, forall_const, lawV, id_eqF])
  unfold idValid
  refine ⟨fun h => ?_, fun h => ?_⟩
  · have h : (idParse i.text).2 = 0 := by simpa using h
    simp [Prod.ext_iff, h]
  · have h : ¬ (idParse i.text).2 = 0 := by simpa using h
    simp [Prod.ext_iff, h]
theorem p_id_Same (hp : ∀ s, PC Tryz.V 39 [.str s] (.tup [isv (idParse s).1, .int .i64 (idParse s).2])) (a b : Bytes) : PC Tryz.V 41 [.str a, .str b] (.bool (idSame a b)) := by
  have p1 := hp a
  have p2 := hp b
  unfold isv at p1 p2
  (refine pc_of 3000 Tryz.func41 rfl Tryz.ntmps41 Tryz.results41 Tryz.call41 (by simp) (by simp [flat, flat.flatL, isv]) (by simp [flat, flat.flatL, isv]) ?_)
  simp only [lawG, ↓Xn, ↓Xo, ↓Xg, ↓Xd, ↓Xe, ↓Xf, Tryz.VΓ, Tryz.Γs, Xp, Xi, Nat.reduceAdd, Nat.reduceSub, Nat.reduceLT, Nat.reduceLeDiff, reduceIte, reduceCtorEq, Nat.reduceEqDiff, implies_true, forall_const, lawV]
  (refine callV_pc p1 ?_; simp only [lawG, ↓Xn, ↓Xo, ↓Xg, ↓Xd, ↓Xe, ↓Xf, Tryz.VΓ, Tryz.Γs, Xp, Xi, Nat.reduceAdd, Nat.reduceSub, Nat.reduceLT, Nat.reduceLeDiff, reduceIte, reduceCtorEq, Nat.reduceEqDiff, implies_true, forall_const, lawV])
  (refine callV_pc p2 ?_; simp only [lawG, ↓Xn, ↓Xo, ↓Xg, ↓Xd, ↓Xe, ↓Xf, Tryz.VΓ, Tryz.Γs, Xp, Xi, Nat.reduceAdd, Nat.reduceSub, Nat.reduceLT, Nat.reduceLeDiff, reduceIte, reduceCtorEq, Nat.reduceEqDiff, implies_true, forall_const, lawV, id_eqF])
  unfold idSame
  refine ⟨fun h => ⟨fun h2 => ?_, fun h2 => ?_⟩, fun h => ?_⟩
  · have h : (idParse a).2 = 0 := by simpa using h
    have h2 : (idParse b).2 = 0 := by simpa using h2
    simp [h, h2]
  · have h2 : ¬ (idParse b).2 = 0 := by simpa using h2
    simp [h2]
  · have h : ¬ (idParse a).2 = 0 := by simpa using h
    simp [h]
theorem p_r12_Same (hp : ∀ s, PC Tryz.V 40 [.str s] (.tup [isv (idParse s).1, .int .i64 (idParse s).2])) (a b : Bytes) : PC Tryz.V 46 [.str a, .str b] (.bool (idSame a b)) := by
  have p1 := hp a
  have p2 := hp b
  unfold isv at p1 p2
  (refine pc_of 3000 Tryz.func46 rfl Tryz.ntmps46 Tryz.results46 Tryz.call46 (by simp) (by simp [flat, flat.flatL, isv]) (by simp [flat, flat.flatL, isv]) ?_)
  simp only [lawG, ↓Xn, ↓Xo, ↓Xg, ↓Xd, ↓Xe, ↓Xf, Tryz.VΓ, Tryz.Γs, Xp, Xi, Nat.reduceAdd, Nat.reduceSub, Nat.reduceLT, Nat.reduceLeDiff, reduceIte, reduceCtorEq, Nat.reduceEqDiff, implies_true, forall_const, lawV]
  (refine callV_pc p1 ?_; simp only [lawG, ↓Xn, ↓Xo, ↓Xg, ↓Xd, ↓Xe, ↓Xf, Tryz.VΓ, Tryz.Γs, Xp, Xi, Nat.reduceAdd, Nat.reduceSub, Nat.reduceLT, Nat.reduceLeDiff, reduceIte, reduceCtorEq, Nat.reduceEqDiff, implies_true, forall_const, lawV])
  (refine callV_pc p2 ?_; simp only [lawG, ↓Xn, ↓Xo, ↓Xg, ↓Xd, ↓Xe, ↓Xf, Tryz.VΓ, Tryz.Γs, Xp, Xi, Nat.reduceAdd, Nat.reduceSub, Nat.reduceLT, Nat.reduceLeDiff, reduceIte, reduceCtorEq, Nat.reduceEqDiff, implies_true, forall_const, lawV, id_eqF])
  unfold idSame
  refine ⟨fun h => ⟨fun h2 => ?_, fun h2 => ?_⟩, fun h => ?_⟩
  · have h : (idParse a).2 = 0 := by simpa using h
    have h2 : (idParse b).2 = 0 := by simpa using h2
    simp [h, h2]
  · have h2 : ¬ (idParse b).2 = 0 := by simpa using h2
    simp [h2]
  · have h : ¬ (idParse a).2 = 0 := by simpa using h
    simp [h]
set_option maxHeartbeats 4000000 in
theorem p_r12_Parse (s : Bytes) : PC Tryz.V 40 [.str s] (.tup [isv (idParse s).1, .int .i64 (idParse s).2]) := by
  (refine pc_of 3000 Tryz.func40 rfl Tryz.ntmps40 Tryz.results40 Tryz.call40 (by simp) (by simp [flat, flat.flatL, isv]) (by simp [flat, flat.flatL, isv]) ?_)
  unfold isv
  simp only [lawG, ↓Xn, ↓Xo, ↓Xg, ↓Xd, ↓Xe, ↓Xf, Tryz.VΓ, Tryz.Γs, Xp, Xi, Nat.reduceAdd, Nat.reduceSub, Nat.reduceLT, Nat.reduceLeDiff, reduceIte, reduceCtorEq, Nat.reduceEqDiff, implies_true, forall_const, lawV]
  refine ⟨fun h => ?_, fun h => ?_⟩
  · have h : 4096 < s.length := by simp at h; omega
    simp [idParse, h, Idn.none]
  have h : s.length ≤ 4096 := by simp at h; omega
  have h0 : ¬ 4096 < s.length := by omega
  have hpre : pre (fun x => [58].contains x) s = pre (· == 58) s := by congr 1; funext x; simp only [List.contains_cons, List.contains_nil, Bool.or_false]
  (refine callV_pc (p_r1_Index s [58] (by omega) (by decide)) ?_; simp only [lawG, ↓Xn, ↓Xo, ↓Xg, ↓Xd, ↓Xe, ↓Xf, Tryz.VΓ, Tryz.Γs, Xp, Xi, Nat.reduceAdd, Nat.reduceSub, Nat.reduceLT, Nat.reduceLeDiff, reduceIte, reduceCtorEq, Nat.reduceEqDiff, implies_true, forall_const, lawV])
  rw [hpre]
  have hle := pre_le (· == (58 : UInt8)) s
  refine ⟨fun h1 => ?_, fun h1 => ⟨⟨by omega, by omega⟩, ?_⟩⟩
  · have h1 : pre (· == 58) s = s.length := by simp at h1; omega
    simp [idParse, h0, cutC, h1, Idn.none]
  have h1 : ¬ pre (· == 58) s = s.length := by simp at h1; omega
  have hid : idParse s = idOf (lower (s.take (pre (· == 58) s))) s := by
    unfold idParse cutC
    rw [if_neg h0, if_pos (show pre (· == 58) s < s.length by omega)]
    rfl
  rw [hid]
  (refine callV_pc (p_r1_Lower (s.take (pre (· == 58) s)) (by simp; omega)) ?_; simp only [lawG, ↓Xn, ↓Xo, ↓Xg, ↓Xd, ↓Xe, ↓Xf, Tryz.VΓ, Tryz.Γs, Xp, Xi, Nat.reduceAdd, Nat.reduceSub, Nat.reduceLT, Nat.reduceLeDiff, reduceIte, reduceCtorEq, Nat.reduceEqDiff, implies_true, forall_const, lawV])
  generalize lower (s.take (pre (· == 58) s)) = sch
  clear hid h1 hle hpre
  refine ⟨fun k1 => ?_, fun k1 => ⟨fun k2 => ?_, fun k2 => ⟨fun k3 => ?_, fun k3 => ⟨fun k4 => ?_, fun k4 => ?_⟩⟩⟩⟩
  · rw [show idOf sch s = idAcct s by simp at k1; simp [idOf, idS1, k1]]
    have p1 := p_r8_Parse s
    have p2 := fun h => p_r8_Format (acctParse s).1 (id_fits s h)
    unfold idAcct
    unfold asv at p1 p2
    (refine callV_pc p1 ?_; simp only [lawG, ↓Xn, ↓Xo, ↓Xg, ↓Xd, ↓Xe, ↓Xf, Tryz.VΓ, Tryz.Γs, Xp, Xi, Nat.reduceAdd, Nat.reduceSub, Nat.reduceLT, Nat.reduceLeDiff, reduceIte, reduceCtorEq, Nat.reduceEqDiff, implies_true, forall_const, lawV, beq_self_eq_true, bne_self_eq_false, Int.reduceBEq, Int.reduceBNe, Int.reduceLT, Int.reduceLE])
    refine ⟨fun h => ?_, fun h => ?_⟩
    · have h : (acctParse s).2 ≠ 0 := by simpa using h
      simp [h, Idn.none]
    · have h : (acctParse s).2 = 0 := by simpa using h
      (refine callD_pc (p2 h) ?_; simp only [lawG, ↓Xn, ↓Xo, ↓Xg, ↓Xd, ↓Xe, ↓Xf, Tryz.VΓ, Tryz.Γs, Xp, Xi, Nat.reduceAdd, Nat.reduceSub, Nat.reduceLT, Nat.reduceLeDiff, reduceIte, reduceCtorEq, Nat.reduceEqDiff, implies_true, forall_const, lawV, beq_self_eq_true, bne_self_eq_false, Int.reduceBEq, Int.reduceBNe, Int.reduceLT, Int.reduceLE])
      simp only [h]
      exact ⟨(OkD_fast (by kernel_rfl)), by simp⟩
  · rw [show idOf sch s = idMail s by simp at k1 k2; simp [idOf, idS1, idS2, k2]]
    have p1 := p_r9_Parse s
    have p2 := fun h => p_r9_Format (mailParse s).1 (id_fitsM s h)
    unfold idMail
    unfold msv at p1 p2
    (refine callV_pc p1 ?_; simp only [lawG, ↓Xn, ↓Xo, ↓Xg, ↓Xd, ↓Xe, ↓Xf, Tryz.VΓ, Tryz.Γs, Xp, Xi, Nat.reduceAdd, Nat.reduceSub, Nat.reduceLT, Nat.reduceLeDiff, reduceIte, reduceCtorEq, Nat.reduceEqDiff, implies_true, forall_const, lawV, beq_self_eq_true, bne_self_eq_false, Int.reduceBEq, Int.reduceBNe, Int.reduceLT, Int.reduceLE])
    refine ⟨fun h => ?_, fun h => ?_⟩
    · have h : (mailParse s).2 ≠ 0 := by simpa using h
      simp [h, Idn.none]
    · have h : (mailParse s).2 = 0 := by simpa using h
      (refine callD_pc (p2 h) ?_; simp only [lawG, ↓Xn, ↓Xo, ↓Xg, ↓Xd, ↓Xe, ↓Xf, Tryz.VΓ, Tryz.Γs, Xp, Xi, Nat.reduceAdd, Nat.reduceSub, Nat.reduceLT, Nat.reduceLeDiff, reduceIte, reduceCtorEq, Nat.reduceEqDiff, implies_true, forall_const, lawV, beq_self_eq_true, bne_self_eq_false, Int.reduceBEq, Int.reduceBNe, Int.reduceLT, Int.reduceLE])
      simp only [h]
      exact ⟨(OkD_fast (by kernel_rfl)), by simp⟩
  · rw [show idOf sch s = idWeb s by simp at k1 k2 k3; simp [idOf, idS1, idS2, https, k3]]
    have p1 := p_r12_web s
    unfold isv at p1
    (refine callV_pc p1 ?_; simp only [lawG, ↓Xn, ↓Xo, ↓Xg, ↓Xd, ↓Xe, ↓Xf, Tryz.VΓ, Tryz.Γs, Xp, Xi, Nat.reduceAdd, Nat.reduceSub, Nat.reduceLT, Nat.reduceLeDiff, reduceIte, reduceCtorEq, Nat.reduceEqDiff, implies_true, forall_const, lawV, beq_self_eq_true, bne_self_eq_false, Int.reduceBEq, Int.reduceBNe, Int.reduceLT, Int.reduceLE])
    try done
  · rw [show idOf sch s = idDid s by simp at k1 k2 k3 k4; simp [idOf, idS1, idS2, idS4, https, k4]]
    have p1 := p_r12_decentral s
    unfold isv at p1
    (refine callV_pc p1 ?_; simp only [lawG, ↓Xn, ↓Xo, ↓Xg, ↓Xd, ↓Xe, ↓Xf, Tryz.VΓ, Tryz.Γs, Xp, Xi, Nat.reduceAdd, Nat.reduceSub, Nat.reduceLT, Nat.reduceLeDiff, reduceIte, reduceCtorEq, Nat.reduceEqDiff, implies_true, forall_const, lawV, beq_self_eq_true, bne_self_eq_false, Int.reduceBEq, Int.reduceBNe, Int.reduceLT, Int.reduceLE])
    try done
  · rw [show idOf sch s = (Idn.none, 60) by simp at k1 k2 k3 k4; simp [idOf, idS1, idS2, idS4, https, k1, k2, k3, k4]]
    rfl
end Go.Proofs.YtcndmooeglfilaaGreatDoor
/- The map of readers. -/
set_option linter.all false
namespace Go.Proofs.YtcndmooeglfilaaGreatDoor
open Go Go.RowKit Go.Sort Wf
attribute [local go_sem] ex_list app_list get_list
def idEs : Array MapEntry := #[{ key := .string ⟨#[97, 99, 99, 116]⟩, val := .func (.func 129) #[] #[], born := 0 }, { key := .string ⟨#[109, 97, 105, 108, 116, 111]⟩, val := .func (.func 130) #[] #[], born := 1 }, { key := .string ⟨#[104, 116, 116, 112, 115]⟩, val := .func (.func 131) #[] #[], born := 2 }, { key := .string ⟨#[100, 105, 100]⟩, val := .func (.func 132) #[] #[], born := 3 }]
theorem run_upd {P : Program} {t kt et : TypeId} {w : World} {es : Array MapEntry} {c b : Nat} {k : ByteArray} {v : Value} (ht : P.underlying t = some (.map kt et)) (hk : P.underlying kt = some .string) (hb : w.heap[b]? = some (.map es c)) (h : Instr.findNow .string (.string k) es.toList 0 = some none) :
    (Instr.mapUpdate t (.map (some b)) (.string k) v).run P w = .ok () { w with heap := w.heap.setIfInBounds b (.map (es.push { key := .string k, val := v, born := c }) (c + 1)) } := by
  have hc : (Instr.checkKey false 10000 kt (.string k)).run P w = .ok () w := MapKept.run_checkKey (k := .string k) hk (by simp [MapKept.IsKey]) false 9999
  simp [Instr.mapUpdate, run_underlying ht, MapKept.run_getObj_map hb, hc, MapKept.run_findKey hk h, MapKept.run_setObj_map _ hb, Result.andThen]
theorem run_upd_new {P : Program} {t kt et : TypeId} (w : World) (es : Array MapEntry) (c : Nat) (k : ByteArray) (v : Value) (ht : P.underlying t = some (.map kt et)) (hk : P.underlying kt = some .string) (h : Instr.findNow .string (.string k) es.toList 0 = some none) :
    (Instr.mapUpdate t (.map (some w.heap.size)) (.string k) v).run P (w.alloc (.map es c)) = .ok () (w.alloc (.map (es.push { key := .string k, val := v, born := c }) (c + 1))) := by
  have h1 : (w.alloc (.map es c)).heap = w.heap.push (.map es c) := rfl
  rw [run_upd ht hk (w := w.alloc (.map es c)) (es := es) (c := c) (by rw [h1]; simp) h, h1]
  have h2 : (w.heap.push (.map es c)).setIfInBounds w.heap.size (.map (es.push { key := .string k, val := v, born := c }) (c + 1)) = w.heap.push (.map (es.push { key := .string k, val := v, born := c }) (c + 1)) := by
    apply Array.toList_inj.1
    simp
  rw [h2]
  rfl
def lookV (z : Value) : Option (Nat × Value) → Value
  | some p => p.2
  | none => z
theorem run_look {P : Program} {t kt et : TypeId} {w : World} {es : Array MapEntry} {c b : Nat} {k : ByteArray} {r : Option (Nat × Value)} {z : Value} (ht : P.underlying t = some (.map kt et)) (hk : P.underlying kt = some .string) (hb : w.heap[b]? = some (.map es c)) (h : Instr.findNow .string (.string k) es.toList 0 = some r) (hz : (zeroValue et).run P w = .ok z w) :
    (Instr.lookup t (.map (some b)) (.string k) false).run P w = .ok (lookV z r) w := by
  have hc : ∀ e, (Instr.checkKey e 10000 kt (.string k)).run P w = .ok () w := fun e => MapKept.run_checkKey (k := .string k) hk (by simp [MapKept.IsKey]) e 9999
  cases r with
  | none => simp [Instr.lookup, run_underlying ht, MapKept.run_getObj_map hb, hc, MapKept.run_findKey hk h, Result.andThen, hz, lookV]
  | some p => simp [Instr.lookup, run_underlying ht, MapKept.run_getObj_map hb, hc, MapKept.run_findKey hk h, Result.andThen, lookV]
set_option maxRecDepth 100000 in
set_option maxHeartbeats 400000 in
theorem id_kinds_calls (w : World) :
    Calls Tryz.prog 84 #[] w fun e w' => e = .returned (.map (some w.heap.size)) ∧ w' = w.alloc (.map idEs 4) := by
  have hmm := @run_makeMap Tryz.prog
  have h1 : (Instr.mapUpdate 103 (.map (some w.heap.size)) (.string ⟨#[97, 99, 99, 116]⟩) (.func (.func 129) #[] #[])).run Tryz.prog (w.alloc (.map #[] 0)) = .ok () (w.alloc (.map #[{ key := .string ⟨#[97, 99, 99, 116]⟩, val := .func (.func 129) #[] #[], born := 0 }] 1)) := run_upd_new (kt := 9) (et := 102) w #[] 0 ⟨#[97, 99, 99, 116]⟩ (.func (.func 129) #[] #[]) rfl rfl rfl
  have h2 : (Instr.mapUpdate 103 (.map (some w.heap.size)) (.string ⟨#[109, 97, 105, 108, 116, 111]⟩) (.func (.func 130) #[] #[])).run Tryz.prog (w.alloc (.map #[{ key := .string ⟨#[97, 99, 99, 116]⟩, val := .func (.func 129) #[] #[], born := 0 }] 1)) = .ok () (w.alloc (.map #[{ key := .string ⟨#[97, 99, 99, 116]⟩, val := .func (.func 129) #[] #[], born := 0 }, { key := .string ⟨#[109, 97, 105, 108, 116, 111]⟩, val := .func (.func 130) #[] #[], born := 1 }] 2)) := run_upd_new (kt := 9) (et := 102) w #[{ key := .string ⟨#[97, 99, 99, 116]⟩, val := .func (.func 129) #[] #[], born := 0 }] 1 ⟨#[109, 97, 105, 108, 116, 111]⟩ (.func (.func 130) #[] #[]) rfl rfl rfl
  have h3 : (Instr.mapUpdate 103 (.map (some w.heap.size)) (.string ⟨#[104, 116, 116, 112, 115]⟩) (.func (.func 131) #[] #[])).run Tryz.prog (w.alloc (.map #[{ key := .string ⟨#[97, 99, 99, 116]⟩, val := .func (.func 129) #[] #[], born := 0 }, { key := .string ⟨#[109, 97, 105, 108, 116, 111]⟩, val := .func (.func 130) #[] #[], born := 1 }] 2)) = .ok () (w.alloc (.map #[{ key := .string ⟨#[97, 99, 99, 116]⟩, val := .func (.func 129) #[] #[], born := 0 }, { key := .string ⟨#[109, 97, 105, 108, 116, 111]⟩, val := .func (.func 130) #[] #[], born := 1 }, { key := .string ⟨#[104, 116, 116, 112, 115]⟩, val := .func (.func 131) #[] #[], born := 2 }] 3)) := run_upd_new (kt := 9) (et := 102) w #[{ key := .string ⟨#[97, 99, 99, 116]⟩, val := .func (.func 129) #[] #[], born := 0 }, { key := .string ⟨#[109, 97, 105, 108, 116, 111]⟩, val := .func (.func 130) #[] #[], born := 1 }] 2 ⟨#[104, 116, 116, 112, 115]⟩ (.func (.func 131) #[] #[]) rfl rfl rfl
  have h4 : (Instr.mapUpdate 103 (.map (some w.heap.size)) (.string ⟨#[100, 105, 100]⟩) (.func (.func 132) #[] #[])).run Tryz.prog (w.alloc (.map #[{ key := .string ⟨#[97, 99, 99, 116]⟩, val := .func (.func 129) #[] #[], born := 0 }, { key := .string ⟨#[109, 97, 105, 108, 116, 111]⟩, val := .func (.func 130) #[] #[], born := 1 }, { key := .string ⟨#[104, 116, 116, 112, 115]⟩, val := .func (.func 131) #[] #[], born := 2 }] 3)) = .ok () (w.alloc (.map #[{ key := .string ⟨#[97, 99, 99, 116]⟩, val := .func (.func 129) #[] #[], born := 0 }, { key := .string ⟨#[109, 97, 105, 108, 116, 111]⟩, val := .func (.func 130) #[] #[], born := 1 }, { key := .string ⟨#[104, 116, 116, 112, 115]⟩, val := .func (.func 131) #[] #[], born := 2 }, { key := .string ⟨#[100, 105, 100]⟩, val := .func (.func 132) #[] #[], born := 3 }] 4)) := run_upd_new (kt := 9) (et := 102) w #[{ key := .string ⟨#[97, 99, 99, 116]⟩, val := .func (.func 129) #[] #[], born := 0 }, { key := .string ⟨#[109, 97, 105, 108, 116, 111]⟩, val := .func (.func 130) #[] #[], born := 1 }, { key := .string ⟨#[104, 116, 116, 112, 115]⟩, val := .func (.func 131) #[] #[], born := 2 }] 3 ⟨#[100, 105, 100]⟩ (.func (.func 132) #[] #[]) rfl rfl rfl
  go_enter Tryz.func84, Tryz.ntmps84
  go_wp2_with fail
  go_ret
  exact ⟨rfl, rfl⟩
end Go.Proofs.YtcndmooeglfilaaGreatDoor
/- The walk of ident.Parse. NOT BUILT: a draft in the old style. -/
set_option linter.all false
namespace Go.Proofs.YtcndmooeglfilaaGreatDoor
open Go Go.RowKit Go.Sort Wf
attribute [local go_sem] ex_list app_list get_list
def idV (i : Idn) : Value := .agg #[.int .i64 i.kind, (Value.string ⟨List.toArray (i.text)⟩), (Value.string ⟨List.toArray (i.host)⟩), .int .i64 i.port]
theorem look_idEs (sch : Bytes) : ∃ r : Option (Nat × Value), Instr.findNow .string (.string ⟨List.toArray sch⟩) idEs.toList 0 = some r ∧
    ((∃ i, sch = idS1 ∧ r = some (i, .func (.func 129) #[] #[])) ∨ (∃ i, sch = idS2 ∧ r = some (i, .func (.func 130) #[] #[])) ∨ (∃ i, sch = https ∧ r = some (i, .func (.func 131) #[] #[])) ∨ (∃ i, sch = idS4 ∧ r = some (i, .func (.func 132) #[] #[])) ∨ (sch ≠ idS1 ∧ sch ≠ idS2 ∧ sch ≠ https ∧ sch ≠ idS4 ∧ r = none)) := by
  by_cases h1 : sch = idS1
  · subst h1; exact ⟨_, rfl, .inl ⟨_, rfl, rfl⟩⟩
  by_cases h2 : sch = idS2
  · subst h2; exact ⟨_, rfl, .inr (.inl ⟨_, rfl, rfl⟩)⟩
  by_cases h3 : sch = https
  · subst h3; exact ⟨_, rfl, .inr (.inr (.inl ⟨_, rfl, rfl⟩))⟩
  by_cases h4 : sch = idS4
  · subst h4; exact ⟨_, rfl, .inr (.inr (.inr (.inl ⟨_, rfl, rfl⟩)))⟩
  refine ⟨none, ?_, .inr (.inr (.inr (.inr ⟨h1, h2, h3, h4, rfl⟩)))⟩
  have e : ∀ k : Bytes, sch ≠ k → ((⟨List.toArray sch⟩ : ByteArray) == ⟨List.toArray k⟩) = false := by
    intro k hk
    show ((List.toArray sch) == (List.toArray k)) = false
    rw [beq_eq_false_iff_ne]
    intro h
    exact hk (by simpa using h)
  have e1 := e _ h1
  have e2 := e _ h2
  have e3 := e _ h3
  have e4 := e _ h4
  simp only [idS1, idS2, https, idS4] at e1 e2 e3 e4
  simp [idEs, Instr.findNow, Instr.sameNow, e1, e2, e3, e4]
theorem heap_keep {w w' : World} {b : Nat} {o : Obj} (h : w.heap[b]? = some o) (hb : Below w.heap.size w w') : w'.heap[b]? = some o := (hb.block _ (heap_lt h)).trans h
set_option maxRecDepth 100000 in
set_option maxHeartbeats 1000000 in
theorem id_Parse (s : Bytes) (w : World) (hE : Tryz.V.E w) :
    Calls Tryz.prog 39 #[(Value.string ⟨List.toArray (s)⟩)] w fun e w' => e = .returned (.tuple #[idV (idParse s).1, .int .i64 (idParse s).2]) ∧ Below w.heap.size w w' := by
  have hct : ∀ w, Tryz.V.E w → s.length < 4294967281 → Calls Tryz.prog 62 #[(Value.string ⟨List.toArray (s)⟩), (Value.string ⟨List.toArray ([58])⟩)] w fun e w' => e = .returned (.tuple #[(Value.string ⟨List.toArray ((cutC 58 s).1)⟩), (Value.string ⟨List.toArray ((cutC 58 s).2.1)⟩), .bool (cutC 58 s).2.2]) ∧ Below w.heap.size w w' :=
    fun w hE hs => by have h := Vc.PC.calls (p_Cut s 58 hs) w hE; simp [Vc.conc, Vc.concL] at h; exact h
  have hlo : ∀ w, Tryz.V.E w → s.length ≤ 4096 → Calls Tryz.prog 85 #[(Value.string ⟨List.toArray ((cutC 58 s).1)⟩)] w fun e w' => e = .returned (Value.string ⟨List.toArray (lower (cutC 58 s).1)⟩) ∧ Below w.heap.size w w' :=
    fun w hE hs => by have h := Vc.PC.calls (p_Lower (cutC 58 s).1 (by have := cutC_len 58 s; omega)) w hE; simp [Vc.conc, Vc.concL] at h; exact h
  have Hlo := hid hlo
  clear hlo
  have ha := heap_new w (.cells #[.int .i64 0, (Value.string ⟨List.toArray ([])⟩), (Value.string ⟨List.toArray ([])⟩), .int .i64 0] 62)
  have hba : Below w.heap.size w (w.alloc (.cells #[.int .i64 0, (Value.string ⟨List.toArray ([])⟩), (Value.string ⟨List.toArray ([])⟩), .int .i64 0] 62)) := (Below.refl _ _).alloc (Nat.le_refl _) _
  generalize hwa : w.alloc (.cells #[.int .i64 0, (Value.string ⟨List.toArray ([])⟩), (Value.string ⟨List.toArray ([])⟩), .int .i64 0] 62) = wa at ha hba
  have Ha := hid ha
  have Hba := hid hba
  have Hwa := hid hwa
  have Hct := hid hct
  clear ha hba hwa hct
  by_cases hl : 4096 < s.length
  · have hx : decide ((4096 : Int) < s.length) = true := decide_eq_true (by omega)
    go_enter Tryz.func39, Tryz.ntmps39
    go_wp2_with fail
    rw [Hwa.out]
    have hlt := heap_lt Ha.out
    have c0 := Lib.cell_of_heap Ha.out 0
    have c1 := Lib.cell_of_heap Ha.out 1
    have c2 := Lib.cell_of_heap Ha.out 2
    have c3 := Lib.cell_of_heap Ha.out 3
    refine bodyPost_ret (v := .tuple #[.agg #[.int .i64 0, (Value.string ⟨List.toArray ([])⟩), (Value.string ⟨List.toArray ([])⟩), .int .i64 0], .int .i64 5]) (by simp [results, Tryz.results39, go_sem, c0, c1, c2, c3, hlt]) rfl ⟨?_, Hba.out⟩
    simp [idParse, hl, idV, Idn.none]
  · have hx : decide ((4096 : Int) < s.length) = false := decide_eq_false (by omega)
    go_enter Tryz.func39, Tryz.ntmps39
    go_wp2_with fail
    rw [Hwa.out]
    refine (Hct.out _ (Tryz.V.estays _ _ hE (fun k hk => Hba.out.block _ (Nat.lt_of_lt_of_le hk (Tryz.V.esize _ hE))) Hba.out.size) (by omega)).mono ?_
    rintro e w1 ⟨rfl, hw1⟩
    have Ha1 := hid (heap_keep Ha.out hw1)
    have Hw1 := hid (below_all Hba.out hw1)
    clear hw1
    go_wp2_with fail
    refine (id_kinds_calls w1).mono ?_
    rintro e w2 ⟨rfl, hw2⟩
    have hb2 : Below w1.heap.size w1 w2 := by rw [hw2]; exact (Below.refl _ _).alloc (Nat.le_refl _) _
    have Hm2 : Hid (w2.heap[w1.heap.size]? = some (.map idEs 4)) := hid (by rw [hw2]; exact heap_new w1 _)
    have Ha2 := hid (heap_keep Ha1.out hb2)
    have Hw2 := hid (below_all Hw1.out hb2)
    generalize w1.heap.size = mb at Hm2 ⊢
    clear hw2 hb2 Hw1 Ha1
    go_wp2_with fail
    refine (Hlo.out _ (Tryz.V.estays _ _ hE (fun k hk => Hw2.out.block _ (Nat.lt_of_lt_of_le hk (Tryz.V.esize _ hE))) Hw2.out.size) (by omega)).mono ?_
    rintro e w3 ⟨rfl, hw3⟩
    have Hm3 := hid (heap_keep Hm2.out hw3)
    have Ha3 := hid (heap_keep Ha2.out hw3)
    have Hw3 := hid (below_all Hw2.out hw3)
    clear hw3 Hw2 Ha2 Hm2
    obtain ⟨r, hr, hcase⟩ := look_idEs (lower (cutC 58 s).1)
    have hrun := run_look (P := Tryz.prog) (t := 103) (kt := 9) (et := 102) (z := .nilFunc) rfl rfl Hm3.out hr rfl
    clear hr Hm3 Hlo Hct
    have hlt := heap_lt Ha3.out
    have c0 := Lib.cell_of_heap Ha3.out 0
    have c1 := Lib.cell_of_heap Ha3.out 1
    have c2 := Lib.cell_of_heap Ha3.out 2
    have c3 := Lib.cell_of_heap Ha3.out 3
    have z0 := Lib.frozen_of_heap Ha3.out 0
    have z1 := Lib.frozen_of_heap Ha3.out 1
    have z2 := Lib.frozen_of_heap Ha3.out 2
    have z3 := Lib.frozen_of_heap Ha3.out 3
    cases hok : (cutC 58 s).2.2
    · go_wp2_with fail
      refine bodyPost_ret (v := .tuple #[.agg #[.int .i64 0, (Value.string ⟨List.toArray ([])⟩), (Value.string ⟨List.toArray ([])⟩), .int .i64 0], .int .i64 60]) (by simp [results, Tryz.results39, go_sem, c0, c1, c2, c3, hlt]) rfl ⟨?_, ?_⟩
      · simp [idParse, hl, hok, idV, Idn.none]
      · repeat (first | exact Hw3.out | (refine Below.setCell (p := ⟨_, _, none⟩) ?_ (by have := Hw3.out; have := this.size; simp <;> omega) _) | (refine Below.alloc ?_ (by have := Hw3.out; have := this.size; simp <;> omega) _) | refine Below.drew ?_)
    · rcases hcase with ⟨i, hs, rfl⟩ | ⟨i, hs, rfl⟩ | ⟨i, hs, rfl⟩ | ⟨i, hs, rfl⟩ | ⟨n1, n2, n3, n4, rfl⟩
      · simp only [lookV] at hrun
        have Hid0 : Hid (idParse s = idAcct s) := hid (by simp [idParse, hl, hok, idOf, hs, idS1, idS2, idS4, https])
        have Hc : Hid (Calls Tryz.prog 129 #[(Value.string ⟨List.toArray (s)⟩)] w3 fun e w' => e = .returned (.tuple #[idV (idAcct s).1, .int .i64 (idAcct s).2]) ∧ Below w3.heap.size w3 w') := hid (by
          have h := Vc.PC.calls (p_id_asAcct s) w3 (Tryz.V.estays _ _ hE (fun k hk => Hw3.out.block _ (Nat.lt_of_lt_of_le hk (Tryz.V.esize _ hE))) Hw3.out.size)
          simp [Vc.conc, Vc.concL, isv] at h; exact h)
        clear hs
        have heq : (binOp BinOp.eql 102 (Value.func (Fn.func 129) #[] #[]) Value.nilFunc).run Tryz.prog w3 = .ok (.bool false) w3 := rfl
        go_wp2_with fail
        refine Hc.out.mono ?_
        rintro e w4 ⟨rfl, hw4⟩
        have Ha4 := hid (heap_keep Ha3.out hw4)
        have Hw4 := hid (below_all Hw3.out hw4)
        clear hw4 c0 c1 c2 c3 z0 z1 z2 z3 hlt heq hrun
        have hlt := heap_lt Ha4.out
        have c0 := Lib.cell_of_heap Ha4.out 0
        have c1 := Lib.cell_of_heap Ha4.out 1
        have c2 := Lib.cell_of_heap Ha4.out 2
        have c3 := Lib.cell_of_heap Ha4.out 3
        have z0 := Lib.frozen_of_heap Ha4.out 0
        have z1 := Lib.frozen_of_heap Ha4.out 1
        have z2 := Lib.frozen_of_heap Ha4.out 2
        have z3 := Lib.frozen_of_heap Ha4.out 3
        unfold idV
        go_wp2_with fail
        refine bodyPost_ret (v := .tuple #[idV (idAcct s).1, .int .i64 (idAcct s).2]) (by simp [results, Tryz.results39, go_sem, c0, c1, c2, c3, hlt, idV]) rfl ⟨?_, ?_⟩
        · rw [Hid0.out]
        · repeat (first | exact Hw4.out | (refine Below.setCell (p := ⟨_, _, none⟩) ?_ (by have := Hw4.out; have := this.size; simp <;> omega) _) | (refine Below.alloc ?_ (by have := Hw4.out; have := this.size; simp <;> omega) _) | refine Below.drew ?_)
      · simp only [lookV] at hrun
        have Hid0 : Hid (idParse s = idMail s) := hid (by simp [idParse, hl, hok, idOf, hs, idS1, idS2, idS4, https])
        have Hc : Hid (Calls Tryz.prog 130 #[(Value.string ⟨List.toArray (s)⟩)] w3 fun e w' => e = .returned (.tuple #[idV (idMail s).1, .int .i64 (idMail s).2]) ∧ Below w3.heap.size w3 w') := hid (by
          have h := Vc.PC.calls (p_id_asMail s) w3 (Tryz.V.estays _ _ hE (fun k hk => Hw3.out.block _ (Nat.lt_of_lt_of_le hk (Tryz.V.esize _ hE))) Hw3.out.size)
          simp [Vc.conc, Vc.concL, isv] at h; exact h)
        clear hs
        have heq : (binOp BinOp.eql 102 (Value.func (Fn.func 130) #[] #[]) Value.nilFunc).run Tryz.prog w3 = .ok (.bool false) w3 := rfl
        go_wp2_with fail
        refine Hc.out.mono ?_
        rintro e w4 ⟨rfl, hw4⟩
        have Ha4 := hid (heap_keep Ha3.out hw4)
        have Hw4 := hid (below_all Hw3.out hw4)
        clear hw4 c0 c1 c2 c3 z0 z1 z2 z3 hlt heq hrun
        have hlt := heap_lt Ha4.out
        have c0 := Lib.cell_of_heap Ha4.out 0
        have c1 := Lib.cell_of_heap Ha4.out 1
        have c2 := Lib.cell_of_heap Ha4.out 2
        have c3 := Lib.cell_of_heap Ha4.out 3
        have z0 := Lib.frozen_of_heap Ha4.out 0
        have z1 := Lib.frozen_of_heap Ha4.out 1
        have z2 := Lib.frozen_of_heap Ha4.out 2
        have z3 := Lib.frozen_of_heap Ha4.out 3
        unfold idV
        go_wp2_with fail
        refine bodyPost_ret (v := .tuple #[idV (idMail s).1, .int .i64 (idMail s).2]) (by simp [results, Tryz.results39, go_sem, c0, c1, c2, c3, hlt, idV]) rfl ⟨?_, ?_⟩
        · rw [Hid0.out]
        · repeat (first | exact Hw4.out | (refine Below.setCell (p := ⟨_, _, none⟩) ?_ (by have := Hw4.out; have := this.size; simp <;> omega) _) | (refine Below.alloc ?_ (by have := Hw4.out; have := this.size; simp <;> omega) _) | refine Below.drew ?_)
      · simp only [lookV] at hrun
        have Hid0 : Hid (idParse s = idWeb s) := hid (by simp [idParse, hl, hok, idOf, hs, idS1, idS2, idS4, https])
        have Hc : Hid (Calls Tryz.prog 131 #[(Value.string ⟨List.toArray (s)⟩)] w3 fun e w' => e = .returned (.tuple #[idV (idWeb s).1, .int .i64 (idWeb s).2]) ∧ Below w3.heap.size w3 w') := hid (by
          have h := Vc.PC.calls (p_id_asWeb s) w3 (Tryz.V.estays _ _ hE (fun k hk => Hw3.out.block _ (Nat.lt_of_lt_of_le hk (Tryz.V.esize _ hE))) Hw3.out.size)
          simp [Vc.conc, Vc.concL, isv] at h; exact h)
        clear hs
        have heq : (binOp BinOp.eql 102 (Value.func (Fn.func 131) #[] #[]) Value.nilFunc).run Tryz.prog w3 = .ok (.bool false) w3 := rfl
        go_wp2_with fail
        refine Hc.out.mono ?_
        rintro e w4 ⟨rfl, hw4⟩
        have Ha4 := hid (heap_keep Ha3.out hw4)
        have Hw4 := hid (below_all Hw3.out hw4)
        clear hw4 c0 c1 c2 c3 z0 z1 z2 z3 hlt heq hrun
        have hlt := heap_lt Ha4.out
        have c0 := Lib.cell_of_heap Ha4.out 0
        have c1 := Lib.cell_of_heap Ha4.out 1
        have c2 := Lib.cell_of_heap Ha4.out 2
        have c3 := Lib.cell_of_heap Ha4.out 3
        have z0 := Lib.frozen_of_heap Ha4.out 0
        have z1 := Lib.frozen_of_heap Ha4.out 1
        have z2 := Lib.frozen_of_heap Ha4.out 2
        have z3 := Lib.frozen_of_heap Ha4.out 3
        unfold idV
        go_wp2_with fail
        refine bodyPost_ret (v := .tuple #[idV (idWeb s).1, .int .i64 (idWeb s).2]) (by simp [results, Tryz.results39, go_sem, c0, c1, c2, c3, hlt, idV]) rfl ⟨?_, ?_⟩
        · rw [Hid0.out]
        · repeat (first | exact Hw4.out | (refine Below.setCell (p := ⟨_, _, none⟩) ?_ (by have := Hw4.out; have := this.size; simp <;> omega) _) | (refine Below.alloc ?_ (by have := Hw4.out; have := this.size; simp <;> omega) _) | refine Below.drew ?_)
      · simp only [lookV] at hrun
        have Hid0 : Hid (idParse s = idDid s) := hid (by simp [idParse, hl, hok, idOf, hs, idS1, idS2, idS4, https])
        have Hc : Hid (Calls Tryz.prog 132 #[(Value.string ⟨List.toArray (s)⟩)] w3 fun e w' => e = .returned (.tuple #[idV (idDid s).1, .int .i64 (idDid s).2]) ∧ Below w3.heap.size w3 w') := hid (by
          have h := Vc.PC.calls (p_id_asDID s) w3 (Tryz.V.estays _ _ hE (fun k hk => Hw3.out.block _ (Nat.lt_of_lt_of_le hk (Tryz.V.esize _ hE))) Hw3.out.size)
          simp [Vc.conc, Vc.concL, isv] at h; exact h)
        clear hs
        have heq : (binOp BinOp.eql 102 (Value.func (Fn.func 132) #[] #[]) Value.nilFunc).run Tryz.prog w3 = .ok (.bool false) w3 := rfl
        go_wp2_with fail
        refine Hc.out.mono ?_
        rintro e w4 ⟨rfl, hw4⟩
        have Ha4 := hid (heap_keep Ha3.out hw4)
        have Hw4 := hid (below_all Hw3.out hw4)
        clear hw4 c0 c1 c2 c3 z0 z1 z2 z3 hlt heq hrun
        have hlt := heap_lt Ha4.out
        have c0 := Lib.cell_of_heap Ha4.out 0
        have c1 := Lib.cell_of_heap Ha4.out 1
        have c2 := Lib.cell_of_heap Ha4.out 2
        have c3 := Lib.cell_of_heap Ha4.out 3
        have z0 := Lib.frozen_of_heap Ha4.out 0
        have z1 := Lib.frozen_of_heap Ha4.out 1
        have z2 := Lib.frozen_of_heap Ha4.out 2
        have z3 := Lib.frozen_of_heap Ha4.out 3
        unfold idV
        go_wp2_with fail
        refine bodyPost_ret (v := .tuple #[idV (idDid s).1, .int .i64 (idDid s).2]) (by simp [results, Tryz.results39, go_sem, c0, c1, c2, c3, hlt, idV]) rfl ⟨?_, ?_⟩
        · rw [Hid0.out]
        · repeat (first | exact Hw4.out | (refine Below.setCell (p := ⟨_, _, none⟩) ?_ (by have := Hw4.out; have := this.size; simp <;> omega) _) | (refine Below.alloc ?_ (by have := Hw4.out; have := this.size; simp <;> omega) _) | refine Below.drew ?_)
      · simp only [lookV] at hrun
        have Hid0 : Hid (idParse s = (Idn.none, 60)) := hid (by simp [idParse, hl, hok, idOf, n1, n2, n3, n4])
        clear n1 n2 n3 n4
        have heq : (binOp BinOp.eql 102 Value.nilFunc Value.nilFunc).run Tryz.prog w3 = .ok (.bool true) w3 := rfl
        go_wp2_with fail
        refine bodyPost_ret (v := .tuple #[.agg #[.int .i64 0, (Value.string ⟨List.toArray ([])⟩), (Value.string ⟨List.toArray ([])⟩), .int .i64 0], .int .i64 60]) (by simp [results, Tryz.results39, go_sem, c0, c1, c2, c3, hlt]) rfl ⟨?_, ?_⟩
        · rw [Hid0.out]; rfl
        · repeat (first | exact Hw3.out | (refine Below.setCell (p := ⟨_, _, none⟩) ?_ (by have := Hw3.out; have := this.size; simp <;> omega) _) | (refine Below.alloc ?_ (by have := Hw3.out; have := this.size; simp <;> omega) _) | refine Below.drew ?_)
end Go.Proofs.YtcndmooeglfilaaGreatDoor
/- The walks of the laws on identifiers. -/
set_option linter.all false
set_option maxRecDepth 20000
namespace Go.Proofs.YtcndmooeglfilaaGreatDoor
open Go Vc Go.RowKit Wf
set_option linter.unusedSimpArgs false
theorem p_id_Parse (s : Bytes) : PC Tryz.V 39 [.str s] (.tup [isv (idParse s).1, .int .i64 (idParse s).2]) :=
  ⟨Tryz.call39, by simp [flat, flat.flatL], by simp [flat, flat.flatL, isv], fun w hE => (id_Parse s w hE).mono fun _ _ ⟨h, k⟩ => ⟨by rw [h]; simp [conc, concL, isv, idV], k⟩⟩
theorem p_id_Valid' (i : Idn) : PC Tryz.V 42 [isv i] (.bool (idValid i)) := p_id_Valid p_id_Parse i
theorem p_id_Same' (a b : Bytes) : PC Tryz.V 41 [.str a, .str b] (.bool (idSame a b)) := p_id_Same p_id_Parse a b
theorem p_r12_Valid' (i : Idn) : PC Tryz.V 43 [isv i] (.bool (idValid i)) := p_r12_Valid p_r12_Parse i
theorem p_r12_Same' (a b : Bytes) : PC Tryz.V 46 [.str a, .str b] (.bool (idSame a b)) := p_r12_Same p_r12_Parse a b
theorem m_id1 : idParse ([97, 99, 99, 116, 58, 66, 111, 98, 64, 69, 120, 97, 109, 112, 108, 101, 46, 99, 111, 109] : List UInt8) = (⟨1, ([97, 99, 99, 116, 58, 66, 111, 98, 64, 101, 120, 97, 109, 112, 108, 101, 46, 99, 111, 109] : List UInt8), ([101, 120, 97, 109, 112, 108, 101, 46, 99, 111, 109] : List UInt8), 0⟩, 0) := by decide +kernel
theorem m_id2 : idSame ([104, 116, 116, 112, 115, 58, 47, 47, 97, 46, 101, 120, 97, 109, 112, 108, 101] : List UInt8) ([72, 84, 84, 80, 83, 58, 47, 47, 65, 46, 101, 120, 97, 109, 112, 108, 101, 58, 52, 52, 51, 47] : List UInt8) = true := by decide +kernel
theorem m_id3 : idValid ⟨1, ([97, 99, 99, 116, 58, 66, 111, 98, 64, 101, 120, 97, 109, 112, 108, 101, 46, 99, 111, 109] : List UInt8), ([101, 120, 97, 109, 112, 108, 101, 46, 99, 111, 109] : List UInt8), 0⟩ = true := by decide +kernel
set_option maxRecDepth 20000 in
set_option maxHeartbeats 2000000 in
theorem p_law12_sane : PC Tryz.V 38 [] (.bool true) := by
  have s1 := p_id_Parse ([97, 99, 99, 116, 58, 66, 111, 98, 64, 69, 120, 97, 109, 112, 108, 101, 46, 99, 111, 109] : List UInt8)
  have s2 := p_id_Same' ([104, 116, 116, 112, 115, 58, 47, 47, 97, 46, 101, 120, 97, 109, 112, 108, 101] : List UInt8) ([72, 84, 84, 80, 83, 58, 47, 47, 65, 46, 101, 120, 97, 109, 112, 108, 101, 58, 52, 52, 51, 47] : List UInt8)
  have s3 := p_id_Valid' ⟨1, ([97, 99, 99, 116, 58, 66, 111, 98, 64, 101, 120, 97, 109, 112, 108, 101, 46, 99, 111, 109] : List UInt8), ([101, 120, 97, 109, 112, 108, 101, 46, 99, 111, 109] : List UInt8), 0⟩
  rw [m_id1] at s1
  rw [m_id2] at s2
  rw [m_id3] at s3
  unfold isv at s1 s3
  refine pc_of 3000 Tryz.func38 rfl Tryz.ntmps38 Tryz.results38 Tryz.call38 (by simp) (by simp [flat, flat.flatL]) (by simp [flat, flat.flatL]) ?_
  simp only [lawG, ↓Xn, ↓Xo, ↓Xg, ↓Xd, ↓Xe, ↓Xf, Tryz.VΓ, Tryz.Γs, Xp, Xi, Nat.reduceAdd, Nat.reduceSub, Nat.reduceLT, Nat.reduceLeDiff, reduceIte, reduceCtorEq, Nat.reduceEqDiff, implies_true, forall_const, lawV, beq_self_eq_true, bne_self_eq_false, Int.reduceBEq, Int.reduceBNe, Int.reduceLT, Int.reduceLE]
  (refine callV_pc (s1) ?_; simp only [lawG, ↓Xn, ↓Xo, ↓Xg, ↓Xd, ↓Xe, ↓Xf, Tryz.VΓ, Tryz.Γs, Xp, Xi, Nat.reduceAdd, Nat.reduceSub, Nat.reduceLT, Nat.reduceLeDiff, reduceIte, reduceCtorEq, Nat.reduceEqDiff, implies_true, forall_const, lawV, beq_self_eq_true, bne_self_eq_false, Int.reduceBEq, Int.reduceBNe, Int.reduceLT, Int.reduceLE])
  (refine callV_pc (s2) ?_; simp only [lawG, ↓Xn, ↓Xo, ↓Xg, ↓Xd, ↓Xe, ↓Xf, Tryz.VΓ, Tryz.Γs, Xp, Xi, Nat.reduceAdd, Nat.reduceSub, Nat.reduceLT, Nat.reduceLeDiff, reduceIte, reduceCtorEq, Nat.reduceEqDiff, implies_true, forall_const, lawV, beq_self_eq_true, bne_self_eq_false, Int.reduceBEq, Int.reduceBNe, Int.reduceLT, Int.reduceLE])
  (refine callV_pc (s3) ?_; simp only [lawG, ↓Xn, ↓Xo, ↓Xg, ↓Xd, ↓Xe, ↓Xf, Tryz.VΓ, Tryz.Γs, Xp, Xi, Nat.reduceAdd, Nat.reduceSub, Nat.reduceLT, Nat.reduceLeDiff, reduceIte, reduceCtorEq, Nat.reduceEqDiff, implies_true, forall_const, lawV, beq_self_eq_true, bne_self_eq_false, Int.reduceBEq, Int.reduceBNe, Int.reduceLT, Int.reduceLE])
theorem idSame_self (a : Bytes) : idSame a a = decide ((idParse a).2 = 0) := by simp [idSame]
theorem idSame_symm (a b : Bytes) : idSame a b = idSame b a := by
  unfold idSame
  exact decide_eq_decide.2 ⟨fun ⟨h1, h2, h3⟩ => ⟨h2, h1, h3.symm⟩, fun ⟨h1, h2, h3⟩ => ⟨h2, h1, h3.symm⟩⟩
theorem idSame_trans {a b c : Bytes} (h : idSame a b = true) (k : idSame b c = true) : idSame a c = true := by
  unfold idSame at *
  have h := of_decide_eq_true h
  have k := of_decide_eq_true k
  exact decide_eq_true ⟨h.1, k.2.1, h.2.2.trans k.2.2⟩
theorem id_hosts {s : Bytes} {i : Idn} (h : idParse s = (i, 0)) :
    ((i.kind = 1 ∨ i.kind = 2) ∧ i.port = 0 ∧ ∃ p : Bytes, i.text = p ++ 64 :: i.host) ∨ (i.kind = 3 ∧ ∃ u : Url, urlParse i.text = (u, 0) ∧ u.host = i.host ∧ u.port = i.port) ∨
    (i.kind = 4 ∧ ∃ r : Bytes, i.text = ([100, 105, 100, 58, 119, 101, 98, 58] : List UInt8) ++ (i.host ++ r) ∧ (i.port = 0 ∨ ∃ r', r = [37, 51, 65] ++ r')) := by
  obtain ⟨-, -, hk⟩ := id_kinds h
  rcases hk with ⟨a, h1, h2, h3, h4⟩ | ⟨m, h1, h2, h3, h4⟩ | ⟨u, h1, h2, hc, h3, h4⟩ | ⟨c, u, r, h1, h2, h3, h4, h5, h6⟩
  · exact .inl ⟨.inl h1, h4, acctS ++ a.user, by rw [h2, h3]; simp [acctText]⟩
  · exact .inl ⟨.inr h1, h4, mailS ++ pctEncode keptS m.loc, by rw [h2, h3]; simp [mailText]⟩
  · exact .inr (.inl ⟨h1, u, by rw [h2]; exact hc.parse, h3.symm, h4.symm⟩)
  · refine .inr (.inr ⟨h1, (if u.port = 0 then [] else [37, 51, 65] ++ decS u.port.natAbs) ++ r, ?_, ?_⟩)
    · rw [h2]; simp [didText, didS, h3, webS, h4, idBase, h5]
    · by_cases hp : u.port = 0
      · exact .inl (by rw [h6, hp])
      · exact .inr ⟨decS u.port.natAbs ++ r, by simp [hp]⟩
set_option maxHeartbeats 2000000 in
theorem p_law12_IdentParses (s : Bytes) : PC Tryz.V 10 [.str s] (.bool true) := by
  have s1 := p_id_Parse s
  have s2 := p_r12_Parse s
  unfold isv at s1 s2
  refine pc_of 3000 Tryz.func10 rfl Tryz.ntmps10 Tryz.results10 Tryz.call10 (by simp) (by simp [flat, flat.flatL]) (by simp [flat, flat.flatL]) ?_
  simp only [lawG, ↓Xn, ↓Xo, ↓Xg, ↓Xd, ↓Xe, ↓Xf, Tryz.VΓ, Tryz.Γs, Xp, Xi, Nat.reduceAdd, Nat.reduceSub, Nat.reduceLT, Nat.reduceLeDiff, reduceIte, reduceCtorEq, Nat.reduceEqDiff, implies_true, forall_const, lawV, beq_self_eq_true, bne_self_eq_false, Int.reduceBEq, Int.reduceBNe, Int.reduceLT, Int.reduceLE]
  (refine callV_pc (p_law12_sane) ?_; simp only [lawG, ↓Xn, ↓Xo, ↓Xg, ↓Xd, ↓Xe, ↓Xf, Tryz.VΓ, Tryz.Γs, Xp, Xi, Nat.reduceAdd, Nat.reduceSub, Nat.reduceLT, Nat.reduceLeDiff, reduceIte, reduceCtorEq, Nat.reduceEqDiff, implies_true, forall_const, lawV, beq_self_eq_true, bne_self_eq_false, Int.reduceBEq, Int.reduceBNe, Int.reduceLT, Int.reduceLE])
  refine ⟨fun _ _ => ?_, fun _ => ?_⟩
  · (refine callV_pc (s1) ?_; simp only [lawG, ↓Xn, ↓Xo, ↓Xg, ↓Xd, ↓Xe, ↓Xf, Tryz.VΓ, Tryz.Γs, Xp, Xi, Nat.reduceAdd, Nat.reduceSub, Nat.reduceLT, Nat.reduceLeDiff, reduceIte, reduceCtorEq, Nat.reduceEqDiff, implies_true, forall_const, lawV, beq_self_eq_true, bne_self_eq_false, Int.reduceBEq, Int.reduceBNe, Int.reduceLT, Int.reduceLE])
    (refine callV_pc (s2) ?_; simp only [lawG, ↓Xn, ↓Xo, ↓Xg, ↓Xd, ↓Xe, ↓Xf, Tryz.VΓ, Tryz.Γs, Xp, Xi, Nat.reduceAdd, Nat.reduceSub, Nat.reduceLT, Nat.reduceLeDiff, reduceIte, reduceCtorEq, Nat.reduceEqDiff, implies_true, forall_const, lawV, beq_self_eq_true, bne_self_eq_false, Int.reduceBEq, Int.reduceBNe, Int.reduceLT, Int.reduceLE])
  · (refine callV_pc (s1) ?_; simp only [lawG, ↓Xn, ↓Xo, ↓Xg, ↓Xd, ↓Xe, ↓Xf, Tryz.VΓ, Tryz.Γs, Xp, Xi, Nat.reduceAdd, Nat.reduceSub, Nat.reduceLT, Nat.reduceLeDiff, reduceIte, reduceCtorEq, Nat.reduceEqDiff, implies_true, forall_const, lawV, beq_self_eq_true, bne_self_eq_false, Int.reduceBEq, Int.reduceBNe, Int.reduceLT, Int.reduceLE])
    (refine callV_pc (s2) ?_; simp only [lawG, ↓Xn, ↓Xo, ↓Xg, ↓Xd, ↓Xe, ↓Xf, Tryz.VΓ, Tryz.Γs, Xp, Xi, Nat.reduceAdd, Nat.reduceSub, Nat.reduceLT, Nat.reduceLeDiff, reduceIte, reduceCtorEq, Nat.reduceEqDiff, implies_true, forall_const, lawV, beq_self_eq_true, bne_self_eq_false, Int.reduceBEq, Int.reduceBNe, Int.reduceLT, Int.reduceLE])
set_option maxHeartbeats 4000000 in
theorem p_law12_IdentCompares (i : Idn) (a b : Bytes) : PC Tryz.V 12 [isv i, .str a, .str b] (.bool true) := by
  have s1 := p_r12_Parse a
  generalize (idParse a) = x at s1
  obtain ⟨x, e⟩ := x
  have s2 := p_id_Valid' i
  have s3 := p_r12_Valid' i
  have s4 := p_id_Valid' x
  have s5 := p_r12_Valid' x
  have s6 := p_id_Authority i
  have s7 := p_r12_Authority i
  have s8 := p_id_Same' a b
  have s9 := p_r12_Same' a b
  unfold isv at s1 s2 s3 s4 s5 s6 s7
  simp only at s1
  refine pc_of 3000 Tryz.func12 rfl Tryz.ntmps12 Tryz.results12 Tryz.call12 (by simp) (by simp [flat, flat.flatL, isv]) (by simp [flat, flat.flatL, isv]) ?_
  unfold isv
  simp only [lawG, ↓Xn, ↓Xo, ↓Xg, ↓Xd, ↓Xe, ↓Xf, Tryz.VΓ, Tryz.Γs, Xp, Xi, Nat.reduceAdd, Nat.reduceSub, Nat.reduceLT, Nat.reduceLeDiff, reduceIte, reduceCtorEq, Nat.reduceEqDiff, implies_true, forall_const, lawV, beq_self_eq_true, bne_self_eq_false, Int.reduceBEq, Int.reduceBNe, Int.reduceLT, Int.reduceLE]
  (refine callV_pc (p_law12_sane) ?_; simp only [lawG, ↓Xn, ↓Xo, ↓Xg, ↓Xd, ↓Xe, ↓Xf, Tryz.VΓ, Tryz.Γs, Xp, Xi, Nat.reduceAdd, Nat.reduceSub, Nat.reduceLT, Nat.reduceLeDiff, reduceIte, reduceCtorEq, Nat.reduceEqDiff, implies_true, forall_const, lawV, beq_self_eq_true, bne_self_eq_false, Int.reduceBEq, Int.reduceBNe, Int.reduceLT, Int.reduceLE])
  intro _ _ _
  (refine callV_pc (s1) ?_; simp only [lawG, ↓Xn, ↓Xo, ↓Xg, ↓Xd, ↓Xe, ↓Xf, Tryz.VΓ, Tryz.Γs, Xp, Xi, Nat.reduceAdd, Nat.reduceSub, Nat.reduceLT, Nat.reduceLeDiff, reduceIte, reduceCtorEq, Nat.reduceEqDiff, implies_true, forall_const, lawV, beq_self_eq_true, bne_self_eq_false, Int.reduceBEq, Int.reduceBNe, Int.reduceLT, Int.reduceLE])
  (refine callD_pc (s2) ?_; simp only [lawG, ↓Xn, ↓Xo, ↓Xg, ↓Xd, ↓Xe, ↓Xf, Tryz.VΓ, Tryz.Γs, Xp, Xi, Nat.reduceAdd, Nat.reduceSub, Nat.reduceLT, Nat.reduceLeDiff, reduceIte, reduceCtorEq, Nat.reduceEqDiff, implies_true, forall_const, lawV, beq_self_eq_true, bne_self_eq_false, Int.reduceBEq, Int.reduceBNe, Int.reduceLT, Int.reduceLE])
  (refine callD_pc (s3) ?_; simp only [lawG, ↓Xn, ↓Xo, ↓Xg, ↓Xd, ↓Xe, ↓Xf, Tryz.VΓ, Tryz.Γs, Xp, Xi, Nat.reduceAdd, Nat.reduceSub, Nat.reduceLT, Nat.reduceLeDiff, reduceIte, reduceCtorEq, Nat.reduceEqDiff, implies_true, forall_const, lawV, beq_self_eq_true, bne_self_eq_false, Int.reduceBEq, Int.reduceBNe, Int.reduceLT, Int.reduceLE])
  (refine callD_pc (s4) ?_; simp only [lawG, ↓Xn, ↓Xo, ↓Xg, ↓Xd, ↓Xe, ↓Xf, Tryz.VΓ, Tryz.Γs, Xp, Xi, Nat.reduceAdd, Nat.reduceSub, Nat.reduceLT, Nat.reduceLeDiff, reduceIte, reduceCtorEq, Nat.reduceEqDiff, implies_true, forall_const, lawV, beq_self_eq_true, bne_self_eq_false, Int.reduceBEq, Int.reduceBNe, Int.reduceLT, Int.reduceLE])
  (refine callD_pc (s5) ?_; simp only [lawG, ↓Xn, ↓Xo, ↓Xg, ↓Xd, ↓Xe, ↓Xf, Tryz.VΓ, Tryz.Γs, Xp, Xi, Nat.reduceAdd, Nat.reduceSub, Nat.reduceLT, Nat.reduceLeDiff, reduceIte, reduceCtorEq, Nat.reduceEqDiff, implies_true, forall_const, lawV, beq_self_eq_true, bne_self_eq_false, Int.reduceBEq, Int.reduceBNe, Int.reduceLT, Int.reduceLE])
  (refine callD_pc (s6) ?_; simp only [lawG, ↓Xn, ↓Xo, ↓Xg, ↓Xd, ↓Xe, ↓Xf, Tryz.VΓ, Tryz.Γs, Xp, Xi, Nat.reduceAdd, Nat.reduceSub, Nat.reduceLT, Nat.reduceLeDiff, reduceIte, reduceCtorEq, Nat.reduceEqDiff, implies_true, forall_const, lawV, beq_self_eq_true, bne_self_eq_false, Int.reduceBEq, Int.reduceBNe, Int.reduceLT, Int.reduceLE])
  (refine callD_pc (s7) ?_; simp only [lawG, ↓Xn, ↓Xo, ↓Xg, ↓Xd, ↓Xe, ↓Xf, Tryz.VΓ, Tryz.Γs, Xp, Xi, Nat.reduceAdd, Nat.reduceSub, Nat.reduceLT, Nat.reduceLeDiff, reduceIte, reduceCtorEq, Nat.reduceEqDiff, implies_true, forall_const, lawV, beq_self_eq_true, bne_self_eq_false, Int.reduceBEq, Int.reduceBNe, Int.reduceLT, Int.reduceLE])
  (refine callD_pc (s8) ?_; simp only [lawG, ↓Xn, ↓Xo, ↓Xg, ↓Xd, ↓Xe, ↓Xf, Tryz.VΓ, Tryz.Γs, Xp, Xi, Nat.reduceAdd, Nat.reduceSub, Nat.reduceLT, Nat.reduceLeDiff, reduceIte, reduceCtorEq, Nat.reduceEqDiff, implies_true, forall_const, lawV, beq_self_eq_true, bne_self_eq_false, Int.reduceBEq, Int.reduceBNe, Int.reduceLT, Int.reduceLE])
  (refine callD_pc (s9) ?_; simp only [lawG, ↓Xn, ↓Xo, ↓Xg, ↓Xd, ↓Xe, ↓Xf, Tryz.VΓ, Tryz.Γs, Xp, Xi, Nat.reduceAdd, Nat.reduceSub, Nat.reduceLT, Nat.reduceLeDiff, reduceIte, reduceCtorEq, Nat.reduceEqDiff, implies_true, forall_const, lawV, beq_self_eq_true, bne_self_eq_false, Int.reduceBEq, Int.reduceBNe, Int.reduceLT, Int.reduceLE])
  exact (OkD_fast (by kernel_rfl))
set_option maxHeartbeats 4000000 in
theorem p_law12_IdentBack (a b c : Bytes) : PC Tryz.V 11 [.str a, .str b, .str c] (.bool true) := by
  have s1 := p_id_Parse a
  have h0 := idSame_self a
  have h1 := idSame_symm a b
  have h2 := @idSame_trans a b c
  have h3 := idParse_err a
  have h4 := fun (k : (idParse a).2 = 0) => (id_kinds (s := a) (i := (idParse a).1) (by rw [← k])).1
  have h5 := fun (k : (idParse a).2 = 0) => id_host_ne (s := a) (i := (idParse a).1) (by rw [← k])
  have q1 := p_id_Same' a a
  have q2 := p_id_Same' a b
  have q3 := p_id_Same' b a
  have q4 := p_id_Same' b c
  have q5 := p_id_Same' a c
  have h6 : (idParse a).2 = 0 → idSame a (idParse a).1.text = true := fun k => by
    unfold idSame
    rw [h4 k]
    exact decide_eq_true ⟨k, rfl, rfl⟩
  rw [h0] at q1
  rw [← h1] at q3
  clear h0 h1
  generalize idParse a = x at *
  obtain ⟨x, e⟩ := x
  simp only at s1 q1 h3 h4 h5 h6
  have s2 := p_id_Parse x.text
  have s3 := p_id_Valid' x
  have s4 := p_id_Same' a x.text
  unfold isv at s1 s2 s3
  generalize idSame a b = u at *
  generalize idSame b c = v at *
  generalize idSame a c = z at *
  refine pc_of 3000 Tryz.func11 rfl Tryz.ntmps11 Tryz.results11 Tryz.call11 (by simp) (by simp [flat, flat.flatL, isv]) (by simp [flat, flat.flatL, isv]) ?_
  simp only [lawG, ↓Xn, ↓Xo, ↓Xg, ↓Xd, ↓Xe, ↓Xf, Tryz.VΓ, Tryz.Γs, Xp, Xi, Nat.reduceAdd, Nat.reduceSub, Nat.reduceLT, Nat.reduceLeDiff, reduceIte, reduceCtorEq, Nat.reduceEqDiff, implies_true, forall_const, lawV, beq_self_eq_true, bne_self_eq_false, Int.reduceBEq, Int.reduceBNe, Int.reduceLT, Int.reduceLE]
  (refine callV_pc (p_law12_sane) ?_; simp only [lawG, ↓Xn, ↓Xo, ↓Xg, ↓Xd, ↓Xe, ↓Xf, Tryz.VΓ, Tryz.Γs, Xp, Xi, Nat.reduceAdd, Nat.reduceSub, Nat.reduceLT, Nat.reduceLeDiff, reduceIte, reduceCtorEq, Nat.reduceEqDiff, implies_true, forall_const, lawV, beq_self_eq_true, bne_self_eq_false, Int.reduceBEq, Int.reduceBNe, Int.reduceLT, Int.reduceLE])
  intro _ _ _
  (refine callV_pc (s1) ?_; simp only [lawG, ↓Xn, ↓Xo, ↓Xg, ↓Xd, ↓Xe, ↓Xf, Tryz.VΓ, Tryz.Γs, Xp, Xi, Nat.reduceAdd, Nat.reduceSub, Nat.reduceLT, Nat.reduceLeDiff, reduceIte, reduceCtorEq, Nat.reduceEqDiff, implies_true, forall_const, lawV, beq_self_eq_true, bne_self_eq_false, Int.reduceBEq, Int.reduceBNe, Int.reduceLT, Int.reduceLE])
  (refine callV_pc (q1) ?_; simp only [lawG, ↓Xn, ↓Xo, ↓Xg, ↓Xd, ↓Xe, ↓Xf, Tryz.VΓ, Tryz.Γs, Xp, Xi, Nat.reduceAdd, Nat.reduceSub, Nat.reduceLT, Nat.reduceLeDiff, reduceIte, reduceCtorEq, Nat.reduceEqDiff, implies_true, forall_const, lawV, beq_self_eq_true, bne_self_eq_false, Int.reduceBEq, Int.reduceBNe, Int.reduceLT, Int.reduceLE])
  refine ⟨fun _ => ?_, fun h => absurd h (by by_cases k : e = 0 <;> simp [k])⟩
  (refine callV_pc (q2) ?_; simp only [lawG, ↓Xn, ↓Xo, ↓Xg, ↓Xd, ↓Xe, ↓Xf, Tryz.VΓ, Tryz.Γs, Xp, Xi, Nat.reduceAdd, Nat.reduceSub, Nat.reduceLT, Nat.reduceLeDiff, reduceIte, reduceCtorEq, Nat.reduceEqDiff, implies_true, forall_const, lawV, beq_self_eq_true, bne_self_eq_false, Int.reduceBEq, Int.reduceBNe, Int.reduceLT, Int.reduceLE])
  (refine callV_pc (q3) ?_; simp only [lawG, ↓Xn, ↓Xo, ↓Xg, ↓Xd, ↓Xe, ↓Xf, Tryz.VΓ, Tryz.Γs, Xp, Xi, Nat.reduceAdd, Nat.reduceSub, Nat.reduceLT, Nat.reduceLeDiff, reduceIte, reduceCtorEq, Nat.reduceEqDiff, implies_true, forall_const, lawV, beq_self_eq_true, bne_self_eq_false, Int.reduceBEq, Int.reduceBNe, Int.reduceLT, Int.reduceLE])
  cases u
  ·
    (refine callV_pc (q2) ?_; simp only [lawG, ↓Xn, ↓Xo, ↓Xg, ↓Xd, ↓Xe, ↓Xf, Tryz.VΓ, Tryz.Γs, Xp, Xi, Nat.reduceAdd, Nat.reduceSub, Nat.reduceLT, Nat.reduceLeDiff, reduceIte, reduceCtorEq, Nat.reduceEqDiff, implies_true, forall_const, lawV, beq_self_eq_true, bne_self_eq_false, Int.reduceBEq, Int.reduceBNe, Int.reduceLT, Int.reduceLE])
    refine ⟨fun hn => ?_, fun h0 => ?_⟩
    · rw [h3 (by simpa using hn)]; rfl
    obtain rfl : e = 0 := by simpa using h0
    rw [h6 rfl] at s4
    rw [h4 rfl] at s2
    rw [show idValid x = true from decide_eq_true (h4 rfl)] at s3
    simp only at s2
    have h7 := h5 rfl
    (refine callV_pc (s2) ?_; simp only [lawG, ↓Xn, ↓Xo, ↓Xg, ↓Xd, ↓Xe, ↓Xf, Tryz.VΓ, Tryz.Γs, Xp, Xi, Nat.reduceAdd, Nat.reduceSub, Nat.reduceLT, Nat.reduceLeDiff, reduceIte, reduceCtorEq, Nat.reduceEqDiff, implies_true, forall_const, lawV, beq_self_eq_true, bne_self_eq_false, Int.reduceBEq, Int.reduceBNe, Int.reduceLT, Int.reduceLE])
    (refine callV_pc (s3) ?_; simp only [lawG, ↓Xn, ↓Xo, ↓Xg, ↓Xd, ↓Xe, ↓Xf, Tryz.VΓ, Tryz.Γs, Xp, Xi, Nat.reduceAdd, Nat.reduceSub, Nat.reduceLT, Nat.reduceLeDiff, reduceIte, reduceCtorEq, Nat.reduceEqDiff, implies_true, forall_const, lawV, beq_self_eq_true, bne_self_eq_false, Int.reduceBEq, Int.reduceBNe, Int.reduceLT, Int.reduceLE])
    (refine callV_pc (s4) ?_; simp only [lawG, ↓Xn, ↓Xo, ↓Xg, ↓Xd, ↓Xe, ↓Xf, Tryz.VΓ, Tryz.Γs, Xp, Xi, Nat.reduceAdd, Nat.reduceSub, Nat.reduceLT, Nat.reduceLeDiff, reduceIte, reduceCtorEq, Nat.reduceEqDiff, implies_true, forall_const, lawV, beq_self_eq_true, bne_self_eq_false, Int.reduceBEq, Int.reduceBNe, Int.reduceLT, Int.reduceLE])
    have h8 : 0 < x.host.length := List.length_pos_iff.2 h7
    rw [decide_eq_true (by omega)]
  · (refine callV_pc (q2) ?_; simp only [lawG, ↓Xn, ↓Xo, ↓Xg, ↓Xd, ↓Xe, ↓Xf, Tryz.VΓ, Tryz.Γs, Xp, Xi, Nat.reduceAdd, Nat.reduceSub, Nat.reduceLT, Nat.reduceLeDiff, reduceIte, reduceCtorEq, Nat.reduceEqDiff, implies_true, forall_const, lawV, beq_self_eq_true, bne_self_eq_false, Int.reduceBEq, Int.reduceBNe, Int.reduceLT, Int.reduceLE])
    (refine callV_pc (q4) ?_; simp only [lawG, ↓Xn, ↓Xo, ↓Xg, ↓Xd, ↓Xe, ↓Xf, Tryz.VΓ, Tryz.Γs, Xp, Xi, Nat.reduceAdd, Nat.reduceSub, Nat.reduceLT, Nat.reduceLeDiff, reduceIte, reduceCtorEq, Nat.reduceEqDiff, implies_true, forall_const, lawV, beq_self_eq_true, bne_self_eq_false, Int.reduceBEq, Int.reduceBNe, Int.reduceLT, Int.reduceLE])
    cases v
    ·
      simp only [lawG, ↓Xn, ↓Xo, ↓Xg, ↓Xd, ↓Xe, ↓Xf, Tryz.VΓ, Tryz.Γs, Xp, Xi, Nat.reduceAdd, Nat.reduceSub, Nat.reduceLT, Nat.reduceLeDiff, reduceIte, reduceCtorEq, Nat.reduceEqDiff, implies_true, forall_const, lawV, beq_self_eq_true, bne_self_eq_false, Int.reduceBEq, Int.reduceBNe, Int.reduceLT, Int.reduceLE]
      refine ⟨fun hn => ?_, fun h0 => ?_⟩
      · rw [h3 (by simpa using hn)]; rfl
      obtain rfl : e = 0 := by simpa using h0
      rw [h6 rfl] at s4
      rw [h4 rfl] at s2
      rw [show idValid x = true from decide_eq_true (h4 rfl)] at s3
      simp only at s2
      have h7 := h5 rfl
      (refine callV_pc (s2) ?_; simp only [lawG, ↓Xn, ↓Xo, ↓Xg, ↓Xd, ↓Xe, ↓Xf, Tryz.VΓ, Tryz.Γs, Xp, Xi, Nat.reduceAdd, Nat.reduceSub, Nat.reduceLT, Nat.reduceLeDiff, reduceIte, reduceCtorEq, Nat.reduceEqDiff, implies_true, forall_const, lawV, beq_self_eq_true, bne_self_eq_false, Int.reduceBEq, Int.reduceBNe, Int.reduceLT, Int.reduceLE])
      (refine callV_pc (s3) ?_; simp only [lawG, ↓Xn, ↓Xo, ↓Xg, ↓Xd, ↓Xe, ↓Xf, Tryz.VΓ, Tryz.Γs, Xp, Xi, Nat.reduceAdd, Nat.reduceSub, Nat.reduceLT, Nat.reduceLeDiff, reduceIte, reduceCtorEq, Nat.reduceEqDiff, implies_true, forall_const, lawV, beq_self_eq_true, bne_self_eq_false, Int.reduceBEq, Int.reduceBNe, Int.reduceLT, Int.reduceLE])
      (refine callV_pc (s4) ?_; simp only [lawG, ↓Xn, ↓Xo, ↓Xg, ↓Xd, ↓Xe, ↓Xf, Tryz.VΓ, Tryz.Γs, Xp, Xi, Nat.reduceAdd, Nat.reduceSub, Nat.reduceLT, Nat.reduceLeDiff, reduceIte, reduceCtorEq, Nat.reduceEqDiff, implies_true, forall_const, lawV, beq_self_eq_true, bne_self_eq_false, Int.reduceBEq, Int.reduceBNe, Int.reduceLT, Int.reduceLE])
      have h8 : 0 < x.host.length := List.length_pos_iff.2 h7
      rw [decide_eq_true (by omega)]
    ·
      simp only [lawG, ↓Xn, ↓Xo, ↓Xg, ↓Xd, ↓Xe, ↓Xf, Tryz.VΓ, Tryz.Γs, Xp, Xi, Nat.reduceAdd, Nat.reduceSub, Nat.reduceLT, Nat.reduceLeDiff, reduceIte, reduceCtorEq, Nat.reduceEqDiff, implies_true, forall_const, lawV, beq_self_eq_true, bne_self_eq_false, Int.reduceBEq, Int.reduceBNe, Int.reduceLT, Int.reduceLE]
      obtain rfl := h2 rfl rfl
      (refine callV_pc (q5) ?_; simp only [lawG, ↓Xn, ↓Xo, ↓Xg, ↓Xd, ↓Xe, ↓Xf, Tryz.VΓ, Tryz.Γs, Xp, Xi, Nat.reduceAdd, Nat.reduceSub, Nat.reduceLT, Nat.reduceLeDiff, reduceIte, reduceCtorEq, Nat.reduceEqDiff, implies_true, forall_const, lawV, beq_self_eq_true, bne_self_eq_false, Int.reduceBEq, Int.reduceBNe, Int.reduceLT, Int.reduceLE])
      refine ⟨fun hn => ?_, fun h0 => ?_⟩
      · rw [h3 (by simpa using hn)]; rfl
      obtain rfl : e = 0 := by simpa using h0
      rw [h6 rfl] at s4
      rw [h4 rfl] at s2
      rw [show idValid x = true from decide_eq_true (h4 rfl)] at s3
      simp only at s2
      have h7 := h5 rfl
      (refine callV_pc (s2) ?_; simp only [lawG, ↓Xn, ↓Xo, ↓Xg, ↓Xd, ↓Xe, ↓Xf, Tryz.VΓ, Tryz.Γs, Xp, Xi, Nat.reduceAdd, Nat.reduceSub, Nat.reduceLT, Nat.reduceLeDiff, reduceIte, reduceCtorEq, Nat.reduceEqDiff, implies_true, forall_const, lawV, beq_self_eq_true, bne_self_eq_false, Int.reduceBEq, Int.reduceBNe, Int.reduceLT, Int.reduceLE])
      (refine callV_pc (s3) ?_; simp only [lawG, ↓Xn, ↓Xo, ↓Xg, ↓Xd, ↓Xe, ↓Xf, Tryz.VΓ, Tryz.Γs, Xp, Xi, Nat.reduceAdd, Nat.reduceSub, Nat.reduceLT, Nat.reduceLeDiff, reduceIte, reduceCtorEq, Nat.reduceEqDiff, implies_true, forall_const, lawV, beq_self_eq_true, bne_self_eq_false, Int.reduceBEq, Int.reduceBNe, Int.reduceLT, Int.reduceLE])
      (refine callV_pc (s4) ?_; simp only [lawG, ↓Xn, ↓Xo, ↓Xg, ↓Xd, ↓Xe, ↓Xf, Tryz.VΓ, Tryz.Γs, Xp, Xi, Nat.reduceAdd, Nat.reduceSub, Nat.reduceLT, Nat.reduceLeDiff, reduceIte, reduceCtorEq, Nat.reduceEqDiff, implies_true, forall_const, lawV, beq_self_eq_true, bne_self_eq_false, Int.reduceBEq, Int.reduceBNe, Int.reduceLT, Int.reduceLE])
      have h8 : 0 < x.host.length := List.length_pos_iff.2 h7
      rw [decide_eq_true (by omega)]
theorem id_textlen {i : Idn} {s : Bytes} (h : idParse s = (i, 0)) : i.text.length ≤ 4096 := by
  have h1 := (id_kinds h).1
  apply Nat.le_of_not_lt
  intro hl
  unfold idParse at h1
  rw [if_pos hl] at h1
  simp at h1
theorem ih_mail (kind : Int) (hk : kind = 1 ∨ kind = 2) (s p host : Bytes) (hx : idParse s = (⟨kind, p ++ 64 :: host, host, 0⟩, 0)) : PC Tryz.V 13 [.str s] (.bool true) := by
  have hl := id_textlen hx
  simp only [List.length_append, List.length_cons] at hl
  have e1 : ((p ++ 64 :: host).length : Int) - host.length = ((p.length + 1 : Nat) : Int) := by simp; omega
  have e2 : ((p.length + 1 : Nat) : Int) - 1 = (p.length : Nat) := by omega
  have e3 : (p ++ 64 :: host).getD p.length 0 = 64 := by simp [List.getD_eq_getElem?_getD]
  have e4 : (p ++ 64 :: host).drop (p.length + 1) = host := by
    rw [show p ++ 64 :: host = (p ++ [64]) ++ host by simp, List.drop_append_of_le_length (by simp), List.drop_of_length_le (by simp)]; rfl
  rcases hk with rfl | rfl
  ·
    have s1 := p_id_Parse s
    rw [hx] at s1
    have s2 := p_id_Authority ⟨1, p ++ 64 :: host, host, 0⟩
    have s3 := p_r7_Parse (p ++ 64 :: host)
    unfold isv at s1 s2
    simp only at s1 s2
    refine pc_of 3000 Tryz.func13 rfl Tryz.ntmps13 Tryz.results13 Tryz.call13 (by simp) (by simp [flat, flat.flatL, isv]) (by simp [flat, flat.flatL, isv]) ?_
    simp only [lawG, ↓Xn, ↓Xo, ↓Xg, ↓Xd, ↓Xe, ↓Xf, Tryz.VΓ, Tryz.Γs, Xp, Xi, Nat.reduceAdd, Nat.reduceSub, Nat.reduceLT, Nat.reduceLeDiff, reduceIte, reduceCtorEq, Nat.reduceEqDiff, implies_true, forall_const, lawV, beq_self_eq_true, bne_self_eq_false, Int.reduceBEq, Int.reduceBNe, Int.reduceLT, Int.reduceLE]
    (refine callV_pc (p_law12_sane) ?_; simp only [lawG, ↓Xn, ↓Xo, ↓Xg, ↓Xd, ↓Xe, ↓Xf, Tryz.VΓ, Tryz.Γs, Xp, Xi, Nat.reduceAdd, Nat.reduceSub, Nat.reduceLT, Nat.reduceLeDiff, reduceIte, reduceCtorEq, Nat.reduceEqDiff, implies_true, forall_const, lawV, beq_self_eq_true, bne_self_eq_false, Int.reduceBEq, Int.reduceBNe, Int.reduceLT, Int.reduceLE])
    intro hs
    (refine callV_pc (s1) ?_; simp only [lawG, ↓Xn, ↓Xo, ↓Xg, ↓Xd, ↓Xe, ↓Xf, Tryz.VΓ, Tryz.Γs, Xp, Xi, Nat.reduceAdd, Nat.reduceSub, Nat.reduceLT, Nat.reduceLeDiff, reduceIte, reduceCtorEq, Nat.reduceEqDiff, implies_true, forall_const, lawV, beq_self_eq_true, bne_self_eq_false, Int.reduceBEq, Int.reduceBNe, Int.reduceLT, Int.reduceLE])
    (refine callV_pc (s2) ?_; simp only [lawG, ↓Xn, ↓Xo, ↓Xg, ↓Xd, ↓Xe, ↓Xf, Tryz.VΓ, Tryz.Γs, Xp, Xi, Nat.reduceAdd, Nat.reduceSub, Nat.reduceLT, Nat.reduceLeDiff, reduceIte, reduceCtorEq, Nat.reduceEqDiff, implies_true, forall_const, lawV, beq_self_eq_true, bne_self_eq_false, Int.reduceBEq, Int.reduceBNe, Int.reduceLT, Int.reduceLE])
    simp only [e1, e2, e3, e4, Int.toNat_natCast, beq_self_eq_true, bne_self_eq_false, Int.reduceBEq, Int.reduceBNe, Int.reduceLT, Int.reduceLE]
    refine ⟨⟨by omega, by omega⟩, fun _ => ⟨⟨by omega, by omega⟩, ⟨by omega, by simp; omega⟩, fun _ => ⟨⟨by omega, by simp; omega⟩, (OkD_fast (by kernel_rfl)), trivial⟩, fun h => absurd h (by decide)⟩, fun h => absurd h (by first | (simp; done) | (simp; omega))⟩
  ·
    have s1 := p_id_Parse s
    rw [hx] at s1
    have s2 := p_id_Authority ⟨2, p ++ 64 :: host, host, 0⟩
    have s3 := p_r7_Parse (p ++ 64 :: host)
    unfold isv at s1 s2
    simp only at s1 s2
    refine pc_of 3000 Tryz.func13 rfl Tryz.ntmps13 Tryz.results13 Tryz.call13 (by simp) (by simp [flat, flat.flatL, isv]) (by simp [flat, flat.flatL, isv]) ?_
    simp only [lawG, ↓Xn, ↓Xo, ↓Xg, ↓Xd, ↓Xe, ↓Xf, Tryz.VΓ, Tryz.Γs, Xp, Xi, Nat.reduceAdd, Nat.reduceSub, Nat.reduceLT, Nat.reduceLeDiff, reduceIte, reduceCtorEq, Nat.reduceEqDiff, implies_true, forall_const, lawV, beq_self_eq_true, bne_self_eq_false, Int.reduceBEq, Int.reduceBNe, Int.reduceLT, Int.reduceLE]
    (refine callV_pc (p_law12_sane) ?_; simp only [lawG, ↓Xn, ↓Xo, ↓Xg, ↓Xd, ↓Xe, ↓Xf, Tryz.VΓ, Tryz.Γs, Xp, Xi, Nat.reduceAdd, Nat.reduceSub, Nat.reduceLT, Nat.reduceLeDiff, reduceIte, reduceCtorEq, Nat.reduceEqDiff, implies_true, forall_const, lawV, beq_self_eq_true, bne_self_eq_false, Int.reduceBEq, Int.reduceBNe, Int.reduceLT, Int.reduceLE])
    intro hs
    (refine callV_pc (s1) ?_; simp only [lawG, ↓Xn, ↓Xo, ↓Xg, ↓Xd, ↓Xe, ↓Xf, Tryz.VΓ, Tryz.Γs, Xp, Xi, Nat.reduceAdd, Nat.reduceSub, Nat.reduceLT, Nat.reduceLeDiff, reduceIte, reduceCtorEq, Nat.reduceEqDiff, implies_true, forall_const, lawV, beq_self_eq_true, bne_self_eq_false, Int.reduceBEq, Int.reduceBNe, Int.reduceLT, Int.reduceLE])
    (refine callV_pc (s2) ?_; simp only [lawG, ↓Xn, ↓Xo, ↓Xg, ↓Xd, ↓Xe, ↓Xf, Tryz.VΓ, Tryz.Γs, Xp, Xi, Nat.reduceAdd, Nat.reduceSub, Nat.reduceLT, Nat.reduceLeDiff, reduceIte, reduceCtorEq, Nat.reduceEqDiff, implies_true, forall_const, lawV, beq_self_eq_true, bne_self_eq_false, Int.reduceBEq, Int.reduceBNe, Int.reduceLT, Int.reduceLE])
    simp only [e1, e2, e3, e4, Int.toNat_natCast, beq_self_eq_true, bne_self_eq_false, Int.reduceBEq, Int.reduceBNe, Int.reduceLT, Int.reduceLE]
    refine ⟨⟨by omega, by omega⟩, fun _ => ⟨⟨by omega, by omega⟩, ⟨by omega, by simp; omega⟩, fun _ => ⟨⟨by omega, by simp; omega⟩, (OkD_fast (by kernel_rfl)), trivial⟩, fun h => absurd h (by decide)⟩, fun h => absurd h (by first | (simp; done) | (simp; omega))⟩
theorem ih_web (s text : Bytes) (u : Url) (hu : urlParse text = (u, 0)) (hx : idParse s = (⟨3, text, u.host, u.port⟩, 0)) : PC Tryz.V 13 [.str s] (.bool true) := by
  have s1 := p_id_Parse s
  rw [hx] at s1
  have s2 := p_id_Authority ⟨3, text, u.host, u.port⟩
  have s3 := p_r7_Parse (text)
  unfold isv at s1 s2
  simp only at s1 s2
  refine pc_of 3000 Tryz.func13 rfl Tryz.ntmps13 Tryz.results13 Tryz.call13 (by simp) (by simp [flat, flat.flatL, isv]) (by simp [flat, flat.flatL, isv]) ?_
  simp only [lawG, ↓Xn, ↓Xo, ↓Xg, ↓Xd, ↓Xe, ↓Xf, Tryz.VΓ, Tryz.Γs, Xp, Xi, Nat.reduceAdd, Nat.reduceSub, Nat.reduceLT, Nat.reduceLeDiff, reduceIte, reduceCtorEq, Nat.reduceEqDiff, implies_true, forall_const, lawV, beq_self_eq_true, bne_self_eq_false, Int.reduceBEq, Int.reduceBNe, Int.reduceLT, Int.reduceLE]
  (refine callV_pc (p_law12_sane) ?_; simp only [lawG, ↓Xn, ↓Xo, ↓Xg, ↓Xd, ↓Xe, ↓Xf, Tryz.VΓ, Tryz.Γs, Xp, Xi, Nat.reduceAdd, Nat.reduceSub, Nat.reduceLT, Nat.reduceLeDiff, reduceIte, reduceCtorEq, Nat.reduceEqDiff, implies_true, forall_const, lawV, beq_self_eq_true, bne_self_eq_false, Int.reduceBEq, Int.reduceBNe, Int.reduceLT, Int.reduceLE])
  intro hs
  (refine callV_pc (s1) ?_; simp only [lawG, ↓Xn, ↓Xo, ↓Xg, ↓Xd, ↓Xe, ↓Xf, Tryz.VΓ, Tryz.Γs, Xp, Xi, Nat.reduceAdd, Nat.reduceSub, Nat.reduceLT, Nat.reduceLeDiff, reduceIte, reduceCtorEq, Nat.reduceEqDiff, implies_true, forall_const, lawV, beq_self_eq_true, bne_self_eq_false, Int.reduceBEq, Int.reduceBNe, Int.reduceLT, Int.reduceLE])
  (refine callV_pc (s2) ?_; simp only [lawG, ↓Xn, ↓Xo, ↓Xg, ↓Xd, ↓Xe, ↓Xf, Tryz.VΓ, Tryz.Γs, Xp, Xi, Nat.reduceAdd, Nat.reduceSub, Nat.reduceLT, Nat.reduceLeDiff, reduceIte, reduceCtorEq, Nat.reduceEqDiff, implies_true, forall_const, lawV, beq_self_eq_true, bne_self_eq_false, Int.reduceBEq, Int.reduceBNe, Int.reduceLT, Int.reduceLE])
  rw [hu] at s3
  have s4 := p_r7_Origin u
  unfold wsv at s3 s4
  simp only at s3
  (refine callV_pc (s3) ?_; simp only [lawG, ↓Xn, ↓Xo, ↓Xg, ↓Xd, ↓Xe, ↓Xf, Tryz.VΓ, Tryz.Γs, Xp, Xi, Nat.reduceAdd, Nat.reduceSub, Nat.reduceLT, Nat.reduceLeDiff, reduceIte, reduceCtorEq, Nat.reduceEqDiff, implies_true, forall_const, lawV, beq_self_eq_true, bne_self_eq_false, Int.reduceBEq, Int.reduceBNe, Int.reduceLT, Int.reduceLE])
  (refine callD_pc (s4) ?_; simp only [lawG, ↓Xn, ↓Xo, ↓Xg, ↓Xd, ↓Xe, ↓Xf, Tryz.VΓ, Tryz.Γs, Xp, Xi, Nat.reduceAdd, Nat.reduceSub, Nat.reduceLT, Nat.reduceLeDiff, reduceIte, reduceCtorEq, Nat.reduceEqDiff, implies_true, forall_const, lawV, beq_self_eq_true, bne_self_eq_false, Int.reduceBEq, Int.reduceBNe, Int.reduceLT, Int.reduceLE])
  exact (OkD_fast (by kernel_rfl))
theorem ih_did (s host r : Bytes) (port : Int) (hr : port = 0 ∨ ∃ r', r = [37, 51, 65] ++ r') (hx : idParse s = (⟨4, ([100, 105, 100, 58, 119, 101, 98, 58] : List UInt8) ++ (host ++ r), host, port⟩, 0)) : PC Tryz.V 13 [.str s] (.bool true) := by
  have hl := id_textlen hx
  simp only [List.length_append] at hl
  have e1 : (8 + (host.length : Int)).toNat = host.length + 8 := by omega
  have e2 : Int.toNat 8 = 8 := rfl
  have e3 : (100 :: 105 :: 100 :: 58 :: 119 :: 101 :: 98 :: 58 :: (host ++ r)).take 8 = [100, 105, 100, 58, 119, 101, 98, 58] := rfl
  have e4 : (100 :: 105 :: 100 :: 58 :: 119 :: 101 :: 98 :: 58 :: (host ++ r)).drop (host.length + 8) = r := by simp
  have e5 : ((100 :: 105 :: 100 :: 58 :: 119 :: 101 :: 98 :: 58 :: (host ++ r)).take (host.length + 8)).drop 8 = host := by simp
  have s1 := p_id_Parse s
  rw [hx] at s1
  have s2 := p_id_Authority ⟨4, ([100, 105, 100, 58, 119, 101, 98, 58] : List UInt8) ++ (host ++ r), host, port⟩
  have s3 := p_r7_Parse (([100, 105, 100, 58, 119, 101, 98, 58] : List UInt8) ++ (host ++ r))
  unfold isv at s1 s2
  simp only at s1 s2
  refine pc_of 3000 Tryz.func13 rfl Tryz.ntmps13 Tryz.results13 Tryz.call13 (by simp) (by simp [flat, flat.flatL, isv]) (by simp [flat, flat.flatL, isv]) ?_
  simp only [lawG, ↓Xn, ↓Xo, ↓Xg, ↓Xd, ↓Xe, ↓Xf, Tryz.VΓ, Tryz.Γs, Xp, Xi, Nat.reduceAdd, Nat.reduceSub, Nat.reduceLT, Nat.reduceLeDiff, reduceIte, reduceCtorEq, Nat.reduceEqDiff, implies_true, forall_const, lawV, beq_self_eq_true, bne_self_eq_false, Int.reduceBEq, Int.reduceBNe, Int.reduceLT, Int.reduceLE]
  (refine callV_pc (p_law12_sane) ?_; simp only [lawG, ↓Xn, ↓Xo, ↓Xg, ↓Xd, ↓Xe, ↓Xf, Tryz.VΓ, Tryz.Γs, Xp, Xi, Nat.reduceAdd, Nat.reduceSub, Nat.reduceLT, Nat.reduceLeDiff, reduceIte, reduceCtorEq, Nat.reduceEqDiff, implies_true, forall_const, lawV, beq_self_eq_true, bne_self_eq_false, Int.reduceBEq, Int.reduceBNe, Int.reduceLT, Int.reduceLE])
  intro hs
  (refine callV_pc (s1) ?_; simp only [lawG, ↓Xn, ↓Xo, ↓Xg, ↓Xd, ↓Xe, ↓Xf, Tryz.VΓ, Tryz.Γs, Xp, Xi, Nat.reduceAdd, Nat.reduceSub, Nat.reduceLT, Nat.reduceLeDiff, reduceIte, reduceCtorEq, Nat.reduceEqDiff, implies_true, forall_const, lawV, beq_self_eq_true, bne_self_eq_false, Int.reduceBEq, Int.reduceBNe, Int.reduceLT, Int.reduceLE])
  (refine callV_pc (s2) ?_; simp only [lawG, ↓Xn, ↓Xo, ↓Xg, ↓Xd, ↓Xe, ↓Xf, Tryz.VΓ, Tryz.Γs, Xp, Xi, Nat.reduceAdd, Nat.reduceSub, Nat.reduceLT, Nat.reduceLeDiff, reduceIte, reduceCtorEq, Nat.reduceEqDiff, implies_true, forall_const, lawV, beq_self_eq_true, bne_self_eq_false, Int.reduceBEq, Int.reduceBNe, Int.reduceLT, Int.reduceLE])
  simp only [e1, e2, e3, e4, e5, beq_self_eq_true, bne_self_eq_false, Int.reduceBEq, Int.reduceBNe, Int.reduceLT, Int.reduceLE]
  simp only [List.length_append]
  simp only [List.length_cons, List.length_nil] at hl
  refine ⟨⟨by omega, by omega⟩, fun _ => ⟨by omega, fun _ => ⟨⟨by omega, by omega⟩, ⟨by omega, by omega⟩, (OkD_fast (by kernel_rfl)), fun h => absurd h (by simp), fun _ => ⟨⟨by omega, by omega⟩, ⟨by omega, by omega⟩, fun h => ?_⟩⟩, fun h => absurd h (by simp)⟩, fun h => absurd h (by simp; omega)⟩
  rcases hr with rfl | ⟨r', rfl⟩
  · exact absurd h (by simp)
  · exact ⟨fun _ => ⟨by simp; omega, by simp⟩, fun h => absurd h (by simp; omega)⟩
set_option maxHeartbeats 4000000 in
theorem p_law12_IdentHosts (s : Bytes) : PC Tryz.V 13 [.str s] (.bool true) := by
  have h1 := fun (k : (idParse s).2 = 0) => id_hosts (s := s) (i := (idParse s).1) (by rw [← k])
  by_cases he : (idParse s).2 = 0
  · have hx : idParse s = ((idParse s).1, 0) := by rw [← he]
    generalize (idParse s).1 = i at *
    obtain ⟨kind, text, host, port⟩ := i
    simp only at h1
    rcases h1 he with ⟨hk, rfl, p, rfl⟩ | ⟨rfl, u, hu, rfl, rfl⟩ | ⟨rfl, r, rfl, hr⟩
    · exact ih_mail kind hk s p host hx
    · exact ih_web s text u hu hx
    · exact ih_did s host r port hr hx
  · have s1 := p_id_Parse s
    unfold isv at s1
    refine pc_of 3000 Tryz.func13 rfl Tryz.ntmps13 Tryz.results13 Tryz.call13 (by simp) (by simp [flat, flat.flatL, isv]) (by simp [flat, flat.flatL, isv]) ?_
    simp only [lawG, ↓Xn, ↓Xo, ↓Xg, ↓Xd, ↓Xe, ↓Xf, Tryz.VΓ, Tryz.Γs, Xp, Xi, Nat.reduceAdd, Nat.reduceSub, Nat.reduceLT, Nat.reduceLeDiff, reduceIte, reduceCtorEq, Nat.reduceEqDiff, implies_true, forall_const, lawV, beq_self_eq_true, bne_self_eq_false, Int.reduceBEq, Int.reduceBNe, Int.reduceLT, Int.reduceLE]
    (refine callV_pc (p_law12_sane) ?_; simp only [lawG, ↓Xn, ↓Xo, ↓Xg, ↓Xd, ↓Xe, ↓Xf, Tryz.VΓ, Tryz.Γs, Xp, Xi, Nat.reduceAdd, Nat.reduceSub, Nat.reduceLT, Nat.reduceLeDiff, reduceIte, reduceCtorEq, Nat.reduceEqDiff, implies_true, forall_const, lawV, beq_self_eq_true, bne_self_eq_false, Int.reduceBEq, Int.reduceBNe, Int.reduceLT, Int.reduceLE])
    intro hs
    (refine callV_pc (s1) ?_; simp only [lawG, ↓Xn, ↓Xo, ↓Xg, ↓Xd, ↓Xe, ↓Xf, Tryz.VΓ, Tryz.Γs, Xp, Xi, Nat.reduceAdd, Nat.reduceSub, Nat.reduceLT, Nat.reduceLeDiff, reduceIte, reduceCtorEq, Nat.reduceEqDiff, implies_true, forall_const, lawV, beq_self_eq_true, bne_self_eq_false, Int.reduceBEq, Int.reduceBNe, Int.reduceLT, Int.reduceLE])
    intro h
    exact absurd (by simpa using h) he
end Go.Proofs.YtcndmooeglfilaaGreatDoor
/- Structs by value among the arguments, opened. -/
set_option linter.all false
set_option maxRecDepth 20000
namespace Go.Proofs.YtcndmooeglfilaaGreatDoor
open Go Vc Go.RowKit Wf
open Go.ChangeShapes Go.WideShapes Go.ChangeAt
open Go.WideMaps Go.WideElems
section
variable {H : Type} {enc : TypeId × Value → H} {w : World} {base : Nat} {sp : Nat → Bool} {held : Bool}
theorem trod_62 {fuel : Nat} {cs : List Value} {x : DataW H × List MemPlace} (h : DataW.trod enc Tryz.prog w base sp held fuel 62 cs = some x) : ∃ (a0 : Int) (a1 : Bytes) (a2 : Bytes) (a3 : Int), cs = [Value.int .i64 a0, Value.string ⟨⟨a1⟩⟩, Value.string ⟨⟨a2⟩⟩, Value.int .i64 a3] ∧ x = (.agg [.lit (.int .i64 a0), .lit (.string a1), .lit (.string a2), .lit (.int .i64 a3)], []) ∧ (Lit.int .i64 a0).wf = true ∧ a1.length ≤ maxLen ∧ a2.length ≤ maxLen ∧ (Lit.int .i64 a3).wf = true := by
  obtain ⟨xs, n, _, rfl, hl, hlen, hf⟩ := DataW.trod_struct Tryz.underlying62 h
  have hC : Tryz.prog.cellsOf 62 = 4 := by kernel_rfl
  rw [hC] at hl
  obtain ⟨c0, c1, c2, c3, rfl⟩ : ∃ c0 c1 c2 c3, cs = [c0, c1, c2, c3] := by
    match cs, hl with
    | [c0, c1, c2, c3], _ => exact ⟨c0, c1, c2, c3, rfl⟩
  obtain ⟨y0, y1, y2, y3, rfl⟩ : ∃ y0 y1 y2 y3, xs = [y0, y1, y2, y3] := by
    match xs, hlen with
    | [y0, y1, y2, y3], _ => exact ⟨y0, y1, y2, y3, rfl⟩
  have e0 : DataW.trod enc Tryz.prog w base sp held n 3 [c0] = some y0 := hf 0 _ rfl
  obtain ⟨a0, q0, rfl, w0⟩ := DataW.trod_int Tryz.underlying3 e0
  obtain rfl := (List.cons.inj q0).1
  have e1 : DataW.trod enc Tryz.prog w base sp held n 9 [c1] = some y1 := hf 1 _ rfl
  obtain ⟨⟨⟨a1⟩⟩, q1, rfl, w1⟩ := DataW.trod_string Tryz.underlying9 e1
  obtain rfl := (List.cons.inj q1).1
  have e2 : DataW.trod enc Tryz.prog w base sp held n 9 [c2] = some y2 := hf 2 _ rfl
  obtain ⟨⟨⟨a2⟩⟩, q2, rfl, w2⟩ := DataW.trod_string Tryz.underlying9 e2
  obtain rfl := (List.cons.inj q2).1
  have e3 : DataW.trod enc Tryz.prog w base sp held n 3 [c3] = some y3 := hf 3 _ rfl
  obtain ⟨a3, q3, rfl, w3⟩ := DataW.trod_int Tryz.underlying3 e3
  obtain rfl := (List.cons.inj q3).1
  exact ⟨a0, a1, a2, a3, rfl, rfl, w0, w1, w2, w3⟩
theorem open_62 {r : Reach} {b0 : Nat} {v : Value} {d : DataW H} {p : List MemPlace} (hv : Value.okWide Tryz.prog w r b0 62 v) (h : DataW.Trod enc Tryz.prog w base sp held 62 v d p) : ∃ (a0 : Int) (a1 : Bytes) (a2 : Bytes) (a3 : Int), v = .agg #[Value.int .i64 a0, Value.string ⟨⟨a1⟩⟩, Value.string ⟨⟨a2⟩⟩, Value.int .i64 a3] ∧ d = .agg [.lit (.int .i64 a0), .lit (.string a1), .lit (.string a2), .lit (.int .i64 a3)] ∧ p = [] ∧ (Lit.int .i64 a0).wf = true ∧ a1.length ≤ maxLen ∧ a2.length ≤ maxLen ∧ (Lit.int .i64 a3).wf = true := by
  obtain ⟨cs, rfl, hsz⟩ := okWide_struct Tryz.underlying62 hv
  obtain ⟨fuel, hf⟩ := h
  obtain ⟨a0, a1, a2, a3, hcs, hx, hw⟩ := trod_62 hf
  obtain ⟨cs⟩ := cs
  simp only [Value.cells] at hcs
  subst hcs
  exact ⟨a0, a1, a2, a3, rfl, (Prod.mk.inj hx).1, (Prod.mk.inj hx).2, hw⟩
end
end Go.Proofs.YtcndmooeglfilaaGreatDoor
