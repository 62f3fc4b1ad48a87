/- The walk of keep.Strings. -/
import Derived.Test.YtjponbpdlioocaaVcB
set_option linter.all false
set_option maxRecDepth 20000
namespace Go.Proofs.Ytjponbpdlioocaa
open Go Vc Go.RowKit Wf
set_option linter.unusedSimpArgs false
def lkI (i : Nat) (σ : St) : Nat := match lk i σ.t with
  | some (.int _ n) => n.toNat
  | _ => 0
theorem lkI_eq {i : Nat} {σ : St} {k : IntKind} {n : Int} (h : lk i σ.t = some (.int k n)) : lkI i σ = n.toNat := by simp [lkI, h]
def sc1 (s : Bytes) : List SV := [.str s]
theorem sc1_at (L : List Bytes) (k : Nat) (h : k < L.length) : (L.map SV.str)[k * 1]? = some (.str L[k]) := by simp [h]
set_option maxHeartbeats 2000000 in
theorem sc_keep_Strings {bs : List Res} {j : Nat} {ss : List Bytes} {m : Bool} (hj : bs[j]? = some (.own (ss.map SV.str) 9 1 ss.length m)) (hn : ss.length ≤ 9223372036854775807) (n k : Int) :
    SC Try.V 5 [.o j ss.length, .int .i64 n, .int .i64 k] bs (fun r b => r = .bool (decide ((ss.length : Int) ≤ n ∧ ∀ s ∈ ss, (s.length : Int) ≤ k)) ∧ Kp bs b) := by
  have hjl : j < bs.length := (List.getElem?_eq_some_iff.1 hj).1
  refine sc_of 3000 Try.func5 rfl Try.ntmps5 Try.results5 Try.call5 (by simp) (fun β β' hb => concL_within bs.length _ (by simp [within, within.withinL, hjl]) β β' hb) ?_
  simp only [lawG, ↓Xn, ↓Xo, ↓Xg, ↓Xd, ↓Xe, ↓Xf, Try.VΓ, Try.Γs, Xp, Xi, Nat.reduceAdd, Nat.reduceSub, Nat.reduceLT, Nat.reduceLeDiff, reduceIte, reduceCtorEq, Nat.reduceEqDiff, implies_true, forall_const, lawV, lawB]
  refine ⟨fun h => ⟨?_, Kp.refl _⟩, fun h => ?_⟩
  · have h := of_decide_eq_true h
    rw [decide_eq_false (fun q => by have := q.1; omega)]
  have h := of_decide_eq_false h
  refine loopV_mk (fun σ => ∃ q : Nat, q ≤ ss.length ∧ lk 2 σ.t = some (.int .i64 k) ∧ lk 13 σ.t = some (.o j ss.length) ∧ lk 14 σ.t = some (.int .i64 ss.length) ∧ lk 15 σ.t = some (.int .i64 q) ∧ σ.b = bs ∧ ∀ s ∈ ss.take q, (s.length : Int) ≤ k) (fun σ => ss.length - lkI 15 σ) ⟨0, by omega, rfl, rfl, rfl, rfl, rfl, by simp⟩ ?_
  rintro ⟨t, b⟩ ⟨q, hq, h2, h13, h14, h15, hb, hok⟩
  simp only at h2 h13 h14 h15 hb
  subst hb
  rw [lkI_eq h15]
  by_cases hlt : q < ss.length
  · have hu := sc1_at ss q hlt
    simp only [lawG, ↓Xn, ↓Xo, ↓Xg, ↓Xd, ↓Xe, ↓Xf, Try.VΓ, Try.Γs, Xp, Xi, Nat.reduceAdd, Nat.reduceSub, Nat.reduceLT, Nat.reduceLeDiff, reduceIte, reduceCtorEq, Nat.reduceEqDiff, implies_true, forall_const, lawV, h2, h13, h14, h15, hj, hu, lawB, Int.toNat_natCast, List.length_map]
    refine ⟨fun _ => ⟨⟨by omega, by omega⟩, by omega, fun hq2 => ⟨?_, Kp.refl _⟩, fun hq2 => ⟨⟨by omega, by omega⟩, ⟨q + 1, by omega, rfl, ?_⟩, ?_⟩⟩, fun h => absurd h (by simp; omega)⟩
    · have hq2 := of_decide_eq_true hq2
      rw [decide_eq_false (fun p => by have := p.2 _ (List.getElem_mem hlt); omega)]
    · intro s hs
      rw [List.take_succ_eq_append_getElem hlt] at hs
      rcases List.mem_append.1 hs with hs | hs
      · exact hok s hs
      · rw [List.mem_singleton.1 hs]; have := of_decide_eq_false hq2; omega
    · rw [lkI_eq (k := .i64) (n := (q : Int) + 1) rfl]; omega
  · have hie : q = ss.length := by omega
    subst hie
    rw [List.take_length] at hok
    simp only [lawG, ↓Xn, ↓Xo, ↓Xg, ↓Xd, ↓Xe, ↓Xf, Try.VΓ, Try.Γs, Xp, Xi, Nat.reduceAdd, Nat.reduceSub, Nat.reduceLT, Nat.reduceLeDiff, reduceIte, reduceCtorEq, Nat.reduceEqDiff, implies_true, forall_const, lawV, h2, h13, h14, h15, hj]
    exact ⟨fun h => absurd h (by simp), fun _ => ⟨by rw [decide_eq_true ⟨by omega, hok⟩], Kp.refl _⟩⟩
theorem sc_forget {V : Cx} {f : FuncId} {args : List SV} {bs : List Res} {x : SV} (hx : flat x = true) (h : SC V f args bs (fun r b => r = x ∧ Kp bs b)) : SC V f args bs (fun r b => r = x ∧ b = bs) := by
  refine ⟨h.1, fun β fp w hbx hG hE => (h.2 β fp w hbx hG hE).mono ?_⟩
  rintro e w' ⟨r, bs', β₂, fp₂, ⟨rfl, hlen, hkp⟩, hag, -, hall, hfr, hmine, hfoot⟩
  have old : ∀ {i r}, bs[i]? = some r → bs'[i]? = some r := fun {i r} hi => (hkp i (List.getElem?_eq_some_iff.1 hi).1).trans hi
  refine ⟨r, bs, β₂, fp₂, ⟨rfl, rfl⟩, hag, Nat.le_refl _, fun β' hβ => ?_, hfr, fun i r' hi => hmine i r' (old hi), fun i r' hi => hfoot i r' (old hi)⟩
  have hc : ∀ i, i < bs.length → (if i < bs.length then β' i else β₂ i) = β' i := fun i hi => if_pos hi
  have hall2 := hall (fun i => if i < bs.length then β' i else β₂ i) (fun i _ => by
    by_cases hi : i < bs.length
    · exact (hβ i hi).trans (hc i hi).symm
    · exact (if_neg hi).symm)
  have hb1 := hbx (fun i => if i < bs.length then β' i else β₂ i) (fun i hi => ((hag i hi).trans (hβ i hi)).trans (hc i hi).symm)
  have hb2 := hbx β' (fun i hi => (hag i hi).trans (hβ i hi))
  obtain ⟨he, hbx2⟩ := hall2
  refine ⟨by rw [he, conc_flat _ hx _ β'], ⟨fun i r hi => ?_, fun i r hi => hbx2.lt i r (old hi), fun i j r r' hi hj => hbx2.sep i j r r' (old hi) (old hj)⟩⟩
  have h1 := hb1.holds i r hi
  have h2 := hb2.holds i r hi
  have h3 := hbx2.holds i r (old hi)
  have e := hc i (List.getElem?_eq_some_iff.1 hi).1
  simp only [e] at h1 h3
  exact res_agr h1 h2 h3
theorem sc1_map (L : List Bytes) : L.flatMap sc1 = L.map SV.str := by
  induction L with
  | nil => rfl
  | cons a L ih => simp [sc1, ih]
end Go.Proofs.Ytjponbpdlioocaa
