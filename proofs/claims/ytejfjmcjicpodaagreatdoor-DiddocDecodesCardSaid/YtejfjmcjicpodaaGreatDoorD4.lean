/- Texts of this claim,laid together: TjG,PlainQ,AcctP,DidP,DocP,DidQ,DidR,Pct,Uri,UriW,UriW2,RefUri,RefUri2,RefPct,RefPct2,PctD,MailP,Number,Host,Host2,Own,RefHost,RefHost2,HostPC,RefSplit,MailW,UrlW,DidW,DocA,DocB,DocC. -/
import Derived.Lib.Replace
import Derived.Lib.QuietBelow
import Derived.Deep.QuietTactic
import Derived.BigQuiet
import Derived.Lib.FrozenHead
import Derived.Test.YtejfjmcjicpodaaGreatDoorD3
/- The walks of jsondoc.Get and ref14.Get,exactly. -/
set_option linter.all false
set_option maxRecDepth 20000
namespace Go.Proofs.YtejfjmcjicpodaaGreatDoor
open Go Vc Go.RowKit Wf
set_option linter.unusedSimpArgs false
def Jv.at (v : Jv) (key : Bytes) : Jv := (v.get key).getD Jv.zero
theorem Rs.len' {b : List Res} {x : SV} {L : List Bytes} (h : Rs b x L) (e : TypeId) : lenS (.slice e) x = some (.int .i64 L.length) := by
  rcases h with ⟨rfl,rfl⟩ | ⟨j,rfl,-⟩ <;> rfl
theorem Ri.len {b : List Res} {x : SV} {L : List Tv} (h : Ri b x L) (e : TypeId) : lenS (.slice e) x = some (.int .i64 L.length) := by
  rcases h with ⟨rfl,rfl⟩ | ⟨j,rfl,-⟩ <;> rfl
theorem get_keep {f : FuncId} {args : List SV} {bs : List Res} {x : Tv} {ok : Bool} (hx : TvIn bs.length x) (h : SC Tryz.V f args bs (fun r b => r = .tup [.agg (tv x),.bool ok] ∧ Kp bs b)) : SC Tryz.V f args bs (fun r b => r = .tup [.agg (tv x),.bool ok] ∧ b = bs) := by
  have hw : within bs.length (.tup [.agg (tv x),.bool ok]) = true := by simp [within,within.withinL,hx.w]
  refine SC.pick (h.mono ?_)
  rintro r b ⟨rfl,hk⟩
  exact ⟨id,[],_,hk,fun _ _ => rfl,fun q X h => by simp at h,(ren_within (fun _ _ => rfl) _ hw).symm,by simpa using hw,rfl,by simp⟩
theorem get_x {bs : List Res} {j : Jv} {Ls : List Tv} (e9 : TJs bs j.L Ls) (hLL : Ls.length = j.L.length) (key : Bytes) : ∃ x,TJ bs (j.at key) x ∧ ((j.k = 7 → ∀ (q : Nat) (hq : q < j.K.length) (hq' : q < j.L.length),(∀ (p : Nat) (hp : p < q),j.K[p] ≠ key) → j.K[q] = key → x = Ls[q]'(by omega)) ∧ ((j.k ≠ 7 ∨ ∀ (q : Nat) (hq : q < j.K.length),q < j.L.length → j.K[q] ≠ key) → x = ⟨0,[],.nils,.nils⟩)) := by
  by_cases h7 : j.k = 7
  · by_cases hex : ∃ q,∃ (hq : q < j.K.length),q < j.L.length ∧ j.K[q] = key
    · obtain ⟨q,⟨hq,hq',he⟩,hmin⟩ := least hex
      have hn : ∀ (p : Nat) (hp : p < q),j.K[p] ≠ key := fun p hp e => by
        have := hmin p ⟨by omega,by omega,e⟩
        omega
      refine ⟨Ls[q]'(by omega),?_,fun _ q2 hq2 hq2' hn2 he2 => ?_,fun h => ?_⟩
      · unfold Jv.at Jv.get
        rw [if_pos h7,getK_some hq hq' hn he]
        exact e9.at q hq' (by omega)
      · have h1 : q2 = q := by
          rcases Nat.lt_trichotomy q2 q with h | h | h
          · exact absurd he2 (hn q2 h)
          · exact h
          · exact absurd he (hn2 q h)
        subst h1; rfl
      · rcases h with h | h
        · exact absurd h7 h
        · exact absurd he (h q hq hq')
    · have hn : ∀ (q : Nat) (hq : q < j.K.length),q < j.L.length → j.K[q] ≠ key := fun q h1 h2 e => hex ⟨q,h1,h2,e⟩
      refine ⟨⟨0,[],.nils,.nils⟩,?_,fun _ q2 hq2 hq2' hn2 he2 => absurd he2 (hn q2 hq2 hq2'),fun _ => rfl⟩
      unfold Jv.at Jv.get
      rw [if_pos h7,getK_none hn]
      exact TJ.zero bs
  · refine ⟨⟨0,[],.nils,.nils⟩,?_,fun h => absurd h h7,fun _ => rfl⟩
    unfold Jv.at Jv.get
    rw [if_neg h7]
    exact TJ.zero bs
set_option maxHeartbeats 4000000 in
theorem jd_GetX {bs : List Res} {j : Jv} {v x : Tv} {Ls : List Tv} {key : Bytes} (hv : TJ bs j v) (e8 : Ri bs v.xi Ls) (e9 : TJs bs j.L Ls) (hx : TJ bs (j.at key) x)
    (hx1 : j.k = 7 → ∀ (q : Nat) (hq : q < j.K.length) (hq' : q < j.L.length),(∀ (p : Nat) (hp : p < q),j.K[p] ≠ key) → j.K[q] = key → x = Ls[q]'(by rw [e9.len]; exact hq')) (hx2 : (j.k ≠ 7 ∨ ∀ (q : Nat) (hq : q < j.K.length),q < j.L.length → j.K[q] ≠ key) → x = ⟨0,[],.nils,.nils⟩) :
    SC Tryz.V 28 [.agg (tv v),.str key] bs (fun r b => r = .tup [.agg (tv x),.bool (j.get key).isSome] ∧ b = bs) := by
  refine get_keep hx.tin ?_
  have hvi := hv.tin
  obtain ⟨v1,v2,v3,v4⟩ := hvi
  have ho : (one v.xk && one v.xi) = true := by rw [v3,v4]; rfl
  obtain ⟨e1,e2,e3,e4,e5,e6,e7,-⟩ := hv.un
  have hLL := e9.len
  have hlk := e4.len'
  have hli := e8.len
  refine sc_of 3000 Tryz.func28 rfl Tryz.ntmps28 Tryz.results28 Tryz.call28 (by simp) (fun β β' hb => concL_within bs.length _ (by simp [within,within.withinL,tv,v1,v2]) β β' hb) ?_
  unfold tv
  simp only [lawG,↓Xn,↓Xo,↓Xg,↓Xd,↓Xe,↓Xf,Tryz.VΓ,Tryz.Γs,Xp,Xi,Nat.reduceAdd,Nat.reduceSub,Nat.reduceLT,Nat.reduceLeDiff,reduceIte,reduceCtorEq,Nat.reduceEqDiff,implies_true,forall_const,lawV,lawA,beq_self_eq_true,bne_self_eq_false,Int.reduceBEq,Int.reduceBNe,Int.reduceLT,Int.reduceLE,ho,hlk]
  refine loopV_mk (fun σ => ∃ k : Nat,k ≤ j.K.length ∧ lk 1 σ.t = some (.str key) ∧ lk 2 σ.t = some (.p bs.length 0) ∧ lk 4 σ.t = some (.p (bs.length + 1) 0) ∧ lk 9 σ.t = some v.xk ∧ lk 10 σ.t = some (.int .i64 j.K.length) ∧ lk 11 σ.t = some (.int .i64 k) ∧ σ.b = bs ++ [.cells [.int .i64 v.k,.str v.t,v.xk,v.xi] 25 true,.cells [.int .i64 0,.str [],.nils,.nils] 25 true] ∧ (j.k = 7 → ∀ (p : Nat) (hp : p < j.K.length),p < k → p < j.L.length → j.K[p] ≠ key)) (fun σ => j.K.length - lkI 11 σ) ⟨0,by omega,rfl,rfl,rfl,rfl,rfl,rfl,rfl,fun _ p _ h => absurd h (by omega)⟩ ?_
  rintro ⟨t,b⟩ ⟨k,hk,h1,h2,h4,h9,h10,h11,hb,hn⟩
  simp only at h1 h2 h4 h9 h10 h11 hb
  subst hb
  rw [lkI_eq h11]
  by_cases hlt : k < j.K.length
  · have hlt2 : decide ((k : Int) < j.K.length) = true := decide_eq_true (by omega)
    rcases e4 with ⟨-,e40⟩ | ⟨i,hi1,hi⟩
    · rw [e40] at hlt; exact absurd hlt (by simp)
    have hkt : (j.K.map SV.str)[k * 1]? = some (.str j.K[k]) := by simp [hlt]
    have hkl : (j.K.map SV.str).length = j.K.length := List.length_map ..
    by_cases h7 : j.k = 7
    · have hb7 : (v.k == 7) = true := by rw [e1,h7]; rfl
      by_cases hltL : k < j.L.length
      · have hlt3 : decide ((k : Int) < Ls.length) = true := decide_eq_true (by omega)
        rcases e8 with ⟨-,e80⟩ | ⟨q,hq1,hq⟩
        · rw [e80] at hLL; simp at hLL; omega
        have hltS : k < Ls.length := by omega
        have hu : List.take 4 (List.drop (k * 4) (Ls.flatMap tv)) = [.int .i64 Ls[k].k,.str Ls[k].t,Ls[k].xk,Ls[k].xi] := tv_at Ls k hltS
        have hul := tv_len Ls
        obtain ⟨x1,x2,x3,x4⟩ := e9.tin Ls[k] (List.getElem_mem hltS)
        have hxo : (one Ls[k].xk && one Ls[k].xi) = true := by rw [x3,x4]; rfl
        by_cases he : j.K[k] = key
        · have hx3 := hx1 h7 k hlt hltL (fun p hp => hn h7 p (by omega) hp (by omega)) he
          have hget : (j.get key).isSome = true := by
            unfold Jv.get
            rw [if_pos h7,getK_some hlt hltL (fun p hp => hn h7 p (by omega) hp (by omega)) he]; rfl
          have hbe : (j.K[k] == key) = true := by rw [he]; exact beq_self_eq_true _
          simp only [lawG,↓Xn,↓Xo,↓Xg,↓Xd,↓Xe,↓Xf,Tryz.VΓ,Tryz.Γs,Xp,Xi,Nat.reduceAdd,Nat.reduceSub,Nat.reduceLT,Nat.reduceLeDiff,reduceIte,reduceCtorEq,Nat.reduceEqDiff,implies_true,forall_const,lawV,lawA,beq_self_eq_true,bne_self_eq_false,Int.reduceBEq,Int.reduceBNe,Int.reduceLT,Int.reduceLE,h1,h2,h4,h9,h10,h11,hlt2,hlt3,hi1,hq1,at_old hi,at_old hq,hkt,hu,hxo,hli,hlk,hb7,hbe,Bool.and_true,Bool.and_self]
          rw [hget,hx3]
          (repeat (refine ⟨by first | omega | (unfold maxLen; omega),?_⟩))
          exact ⟨rfl,(Kp.refl bs).app _⟩
        · have hbe : (j.K[k] == key) = false := beq_eq_false_iff_ne.2 he
          simp only [lawG,↓Xn,↓Xo,↓Xg,↓Xd,↓Xe,↓Xf,Tryz.VΓ,Tryz.Γs,Xp,Xi,Nat.reduceAdd,Nat.reduceSub,Nat.reduceLT,Nat.reduceLeDiff,reduceIte,reduceCtorEq,Nat.reduceEqDiff,implies_true,forall_const,lawV,lawA,beq_self_eq_true,bne_self_eq_false,Int.reduceBEq,Int.reduceBNe,Int.reduceLT,Int.reduceLE,h1,h2,h4,h9,h10,h11,hlt2,hlt3,hi1,hq1,at_old hi,at_old hq,hkt,hu,hxo,hli,hlk,hb7,hbe,Bool.and_true,Bool.and_self]
          (repeat (refine ⟨by first | omega | (unfold maxLen; omega),?_⟩))
          refine ⟨⟨k + 1,by omega,rfl,fun _ p hp hpk hpl => ?_⟩,?_⟩
          · by_cases hpe : p = k
            · subst hpe; exact he
            · exact hn h7 p hp (by omega) hpl
          · rw [lkI_eq (k := .i64) (n := (k : Int) + 1) rfl]; omega
      · have hlt3 : decide ((k : Int) < Ls.length) = false := decide_eq_false (by omega)
        simp only [lawG,↓Xn,↓Xo,↓Xg,↓Xd,↓Xe,↓Xf,Tryz.VΓ,Tryz.Γs,Xp,Xi,Nat.reduceAdd,Nat.reduceSub,Nat.reduceLT,Nat.reduceLeDiff,reduceIte,reduceCtorEq,Nat.reduceEqDiff,implies_true,forall_const,lawV,lawA,beq_self_eq_true,bne_self_eq_false,Int.reduceBEq,Int.reduceBNe,Int.reduceLT,Int.reduceLE,h1,h2,h4,h9,h10,h11,hlt2,hlt3,hi1,at_old hi,hkt,hli,hlk,hb7,Bool.and_true,Bool.and_self]
        (repeat (refine ⟨by first | omega | (unfold maxLen; omega),?_⟩))
        refine ⟨⟨k + 1,by omega,rfl,fun _ p hp hpk hpl => ?_⟩,?_⟩
        · exact hn h7 p hp (by omega) hpl
        · rw [lkI_eq (k := .i64) (n := (k : Int) + 1) rfl]; omega
    · have hb7 : (v.k == 7) = false := by rw [e1]; exact beq_eq_false_iff_ne.2 h7
      simp only [lawG,↓Xn,↓Xo,↓Xg,↓Xd,↓Xe,↓Xf,Tryz.VΓ,Tryz.Γs,Xp,Xi,Nat.reduceAdd,Nat.reduceSub,Nat.reduceLT,Nat.reduceLeDiff,reduceIte,reduceCtorEq,Nat.reduceEqDiff,implies_true,forall_const,lawV,lawA,beq_self_eq_true,bne_self_eq_false,Int.reduceBEq,Int.reduceBNe,Int.reduceLT,Int.reduceLE,h1,h2,h4,h9,h10,h11,hlt2,hi1,at_old hi,hkt,hli,hlk,hb7,Bool.and_true,Bool.and_self]
      (repeat (refine ⟨by first | omega | (unfold maxLen; omega),?_⟩))
      refine ⟨⟨k + 1,by omega,rfl,fun h => absurd h h7⟩,?_⟩
      rw [lkI_eq (k := .i64) (n := (k : Int) + 1) rfl]; omega
  · have hlt2 : decide ((k : Int) < j.K.length) = false := decide_eq_false (by omega)
    have hget : (j.get key).isSome = false := by
      unfold Jv.get
      by_cases h7 : j.k = 7
      · rw [if_pos h7,getK_none (fun p hp hpl => hn h7 p hp (by omega) hpl)]; rfl
      · rw [if_neg h7]; rfl
    have hx3 := hx2 (by
      by_cases h7 : j.k = 7
      · exact .inr fun p hp hpl => hn h7 p hp (by omega) hpl
      · exact .inl h7)
    simp only [lawG,↓Xn,↓Xo,↓Xg,↓Xd,↓Xe,↓Xf,Tryz.VΓ,Tryz.Γs,Xp,Xi,Nat.reduceAdd,Nat.reduceSub,Nat.reduceLT,Nat.reduceLeDiff,reduceIte,reduceCtorEq,Nat.reduceEqDiff,implies_true,forall_const,lawV,lawA,beq_self_eq_true,bne_self_eq_false,Int.reduceBEq,Int.reduceBNe,Int.reduceLT,Int.reduceLE,h1,h2,h4,h9,h10,h11,hlt2]
    rw [hget,hx3]
    exact ⟨rfl,(Kp.refl bs).app _⟩
theorem jd_Get {bs : List Res} {j : Jv} {v : Tv} (hv : TJ bs j v) (key : Bytes) : ∃ x,TJ bs (j.at key) x ∧ ∀ b,Ro bs b → SC Tryz.V 28 [.agg (tv v),.str key] b (fun r b' => r = .tup [.agg (tv x),.bool (j.get key).isSome] ∧ b' = b) := by
  obtain ⟨-,-,-,-,-,-,-,Ls,e8,e9⟩ := hv.un
  obtain ⟨x,hx,hx1,hx2⟩ := get_x e9 e9.len key
  exact ⟨x,hx,fun b hro => jd_GetX (hv.ro hro) (e8.ro hro) (TJs.ro hro e9) (hx.ro hro) hx1 hx2⟩
set_option maxHeartbeats 4000000 in
theorem r14_GetX {bs : List Res} {j : Jv} {v x : Tv} {Ls : List Tv} {key : Bytes} (hv : TJ bs j v) (e8 : Ri bs v.xi Ls) (e9 : TJs bs j.L Ls) (hx : TJ bs (j.at key) x)
    (hx1 : j.k = 7 → ∀ (q : Nat) (hq : q < j.K.length) (hq' : q < j.L.length),(∀ (p : Nat) (hp : p < q),j.K[p] ≠ key) → j.K[q] = key → x = Ls[q]'(by rw [e9.len]; exact hq')) (hx2 : (j.k ≠ 7 ∨ ∀ (q : Nat) (hq : q < j.K.length),q < j.L.length → j.K[q] ≠ key) → x = ⟨0,[],.nils,.nils⟩) :
    SC Tryz.V 42 [.agg (tv v),.str key] bs (fun r b => r = .tup [.agg (tv x),.bool (j.get key).isSome] ∧ b = bs) := by
  refine get_keep hx.tin ?_
  have hvi := hv.tin
  obtain ⟨v1,v2,v3,v4⟩ := hvi
  have ho : (one v.xk && one v.xi) = true := by rw [v3,v4]; rfl
  obtain ⟨e1,e2,e3,e4,e5,e6,e7,-⟩ := hv.un
  have hLL := e9.len
  have hlk := e4.len'
  have hli := e8.len
  refine sc_of 3000 Tryz.func42 rfl Tryz.ntmps42 Tryz.results42 Tryz.call42 (by simp) (fun β β' hb => concL_within bs.length _ (by simp [within,within.withinL,tv,v1,v2]) β β' hb) ?_
  unfold tv
  by_cases h7 : j.k = 7
  rotate_left
  · have hb7 : (v.k != 7) = true := by rw [e1]; exact bne_iff_ne.2 h7
    have hget : (j.get key).isSome = false := by
      unfold Jv.get
      rw [if_neg h7]; rfl
    have hx3 := hx2 (.inl h7)
    simp only [lawG,↓Xn,↓Xo,↓Xg,↓Xd,↓Xe,↓Xf,Tryz.VΓ,Tryz.Γs,Xp,Xi,Nat.reduceAdd,Nat.reduceSub,Nat.reduceLT,Nat.reduceLeDiff,reduceIte,reduceCtorEq,Nat.reduceEqDiff,implies_true,forall_const,lawV,lawA,beq_self_eq_true,bne_self_eq_false,Int.reduceBEq,Int.reduceBNe,Int.reduceLT,Int.reduceLE,ho,hlk,hb7]
    rw [hget,hx3]
    exact ⟨rfl,(Kp.refl bs).app _⟩
  have hb7 : (v.k != 7) = false := by rw [e1,h7]; rfl
  simp only [lawG,↓Xn,↓Xo,↓Xg,↓Xd,↓Xe,↓Xf,Tryz.VΓ,Tryz.Γs,Xp,Xi,Nat.reduceAdd,Nat.reduceSub,Nat.reduceLT,Nat.reduceLeDiff,reduceIte,reduceCtorEq,Nat.reduceEqDiff,implies_true,forall_const,lawV,lawA,beq_self_eq_true,bne_self_eq_false,Int.reduceBEq,Int.reduceBNe,Int.reduceLT,Int.reduceLE,ho,hlk,hb7]
  refine loopV_mk (fun σ => ∃ k : Nat,k ≤ j.K.length ∧ lk 1 σ.t = some (.str key) ∧ lk 2 σ.t = some (.p bs.length 0) ∧ lk 4 σ.t = some (.p (bs.length + 1) 0) ∧ lk 13 σ.t = some (.int .i64 j.K.length) ∧ lk 14 σ.t = some (.int .i64 k) ∧ σ.b = bs ++ [.cells [.int .i64 v.k,.str v.t,v.xk,v.xi] 25 true,.cells [.int .i64 0,.str [],.nils,.nils] 25 true] ∧ ∀ (p : Nat) (hp : p < j.K.length),p < k → p < j.L.length → j.K[p] ≠ key) (fun σ => j.K.length - lkI 14 σ) ⟨0,by omega,rfl,rfl,rfl,rfl,rfl,rfl,fun p _ h => absurd h (by omega)⟩ ?_
  rintro ⟨t,b⟩ ⟨k,hk,h1,h2,h4,h13,h14,hb,hn⟩
  simp only at h1 h2 h4 h13 h14 hb
  subst hb
  rw [lkI_eq h14]
  by_cases hlt : k < j.K.length
  · have hlt2 : decide ((k : Int) < j.K.length) = true := decide_eq_true (by omega)
    rcases e4 with ⟨-,e40⟩ | ⟨i,hi1,hi⟩
    · rw [e40] at hlt; exact absurd hlt (by simp)
    have hkt : (j.K.map SV.str)[k * 1]? = some (.str j.K[k]) := by simp [hlt]
    have hkl : (j.K.map SV.str).length = j.K.length := List.length_map ..
    by_cases he : j.K[k] = key
    · have hbe : (j.K[k] == key) = true := by rw [he]; exact beq_self_eq_true _
      by_cases hltL : k < j.L.length
      · have hlt3 : decide ((k : Int) < Ls.length) = true := decide_eq_true (by omega)
        rcases e8 with ⟨-,e80⟩ | ⟨q,hq1,hq⟩
        · rw [e80] at hLL; simp at hLL; omega
        have hltS : k < Ls.length := by omega
        have hu : List.take 4 (List.drop (k * 4) (Ls.flatMap tv)) = [.int .i64 Ls[k].k,.str Ls[k].t,Ls[k].xk,Ls[k].xi] := tv_at Ls k hltS
        have hul := tv_len Ls
        obtain ⟨x1,x2,x3,x4⟩ := e9.tin Ls[k] (List.getElem_mem hltS)
        have hxo : (one Ls[k].xk && one Ls[k].xi) = true := by rw [x3,x4]; rfl
        have hx3 := hx1 h7 k hlt hltL (fun p hp => hn p (by omega) hp (by omega)) he
        have hget : (j.get key).isSome = true := by
          unfold Jv.get
          rw [if_pos h7,getK_some hlt hltL (fun p hp => hn p (by omega) hp (by omega)) he]; rfl
        simp only [lawG,↓Xn,↓Xo,↓Xg,↓Xd,↓Xe,↓Xf,Tryz.VΓ,Tryz.Γs,Xp,Xi,Nat.reduceAdd,Nat.reduceSub,Nat.reduceLT,Nat.reduceLeDiff,reduceIte,reduceCtorEq,Nat.reduceEqDiff,implies_true,forall_const,lawV,lawA,beq_self_eq_true,bne_self_eq_false,Int.reduceBEq,Int.reduceBNe,Int.reduceLT,Int.reduceLE,h1,h2,h4,h13,h14,hlt2,hlt3,hi1,hq1,at_old hi,at_old hq,hkt,hu,hul,hxo,hli,hlk,hbe,Bool.and_true,Bool.and_self]
        rw [hget,hx3]
        (repeat (refine ⟨by first | omega | (unfold maxLen; omega),?_⟩))
        exact ⟨rfl,(Kp.refl bs).app _⟩
      · have hlt3 : decide ((k : Int) < Ls.length) = false := decide_eq_false (by omega)
        simp only [lawG,↓Xn,↓Xo,↓Xg,↓Xd,↓Xe,↓Xf,Tryz.VΓ,Tryz.Γs,Xp,Xi,Nat.reduceAdd,Nat.reduceSub,Nat.reduceLT,Nat.reduceLeDiff,reduceIte,reduceCtorEq,Nat.reduceEqDiff,implies_true,forall_const,lawV,lawA,beq_self_eq_true,bne_self_eq_false,Int.reduceBEq,Int.reduceBNe,Int.reduceLT,Int.reduceLE,h1,h2,h4,h13,h14,hlt2,hlt3,hi1,at_old hi,hkt,hli,hlk,hbe,Bool.and_true,Bool.and_self]
        (repeat (refine ⟨by first | omega | (unfold maxLen; omega),?_⟩))
        refine ⟨⟨k + 1,by omega,rfl,fun p hp hpk hpl => ?_⟩,?_⟩
        · exact hn p hp (by omega) hpl
        · rw [lkI_eq (k := .i64) (n := (k : Int) + 1) rfl]; omega
    · have hbe : (j.K[k] == key) = false := beq_eq_false_iff_ne.2 he
      simp only [lawG,↓Xn,↓Xo,↓Xg,↓Xd,↓Xe,↓Xf,Tryz.VΓ,Tryz.Γs,Xp,Xi,Nat.reduceAdd,Nat.reduceSub,Nat.reduceLT,Nat.reduceLeDiff,reduceIte,reduceCtorEq,Nat.reduceEqDiff,implies_true,forall_const,lawV,lawA,beq_self_eq_true,bne_self_eq_false,Int.reduceBEq,Int.reduceBNe,Int.reduceLT,Int.reduceLE,h1,h2,h4,h13,h14,hlt2,hi1,at_old hi,hkt,hli,hlk,hbe,Bool.and_true,Bool.and_self]
      (repeat (refine ⟨by first | omega | (unfold maxLen; omega),?_⟩))
      refine ⟨⟨k + 1,by omega,rfl,fun p hp hpk hpl => ?_⟩,?_⟩
      · by_cases hpe : p = k
        · subst hpe; exact he
        · exact hn p hp (by omega) hpl
      · rw [lkI_eq (k := .i64) (n := (k : Int) + 1) rfl]; omega
  · have hlt2 : decide ((k : Int) < j.K.length) = false := decide_eq_false (by omega)
    have hget : (j.get key).isSome = false := by
      unfold Jv.get
      rw [if_pos h7,getK_none (fun p hp hpl => hn p hp (by omega) hpl)]; rfl
    have hx3 := hx2 (.inr fun p hp hpl => hn p hp (by omega) hpl)
    simp only [lawG,↓Xn,↓Xo,↓Xg,↓Xd,↓Xe,↓Xf,Tryz.VΓ,Tryz.Γs,Xp,Xi,Nat.reduceAdd,Nat.reduceSub,Nat.reduceLT,Nat.reduceLeDiff,reduceIte,reduceCtorEq,Nat.reduceEqDiff,implies_true,forall_const,lawV,lawA,beq_self_eq_true,bne_self_eq_false,Int.reduceBEq,Int.reduceBNe,Int.reduceLT,Int.reduceLE,h1,h2,h4,h13,h14,hlt2]
    rw [hget,hx3]
    exact ⟨rfl,(Kp.refl bs).app _⟩
theorem r14_Get {bs : List Res} {j : Jv} {v : Tv} (hv : TJ bs j v) (key : Bytes) : ∃ x,TJ bs (j.at key) x ∧ ∀ b,Ro bs b → SC Tryz.V 42 [.agg (tv v),.str key] b (fun r b' => r = .tup [.agg (tv x),.bool (j.get key).isSome] ∧ b' = b) := by
  obtain ⟨-,-,-,-,-,-,-,Ls,e8,e9⟩ := hv.un
  obtain ⟨x,hx,hx1,hx2⟩ := get_x e9 e9.len key
  exact ⟨x,hx,fun b hro => r14_GetX (hv.ro hro) (e8.ro hro) (TJs.ro hro e9) (hx.ro hro) hx1 hx2⟩
end Go.Proofs.YtejfjmcjicpodaaGreatDoor
/- Plain laws: hosts,URIs,canonical strings,URLs. -/
set_option linter.all false
namespace Wf
open Go Go.RowKit
theorem pre_take (p : UInt8 → Bool) (s : Bytes) : pre p (s.take (pre p s)) = (s.take (pre p s)).length := by
  induction s with
  | nil => rfl
  | cons x r ih =>
    rw [pre_cons]
    cases hx : p x
    · simp [pre_cons,hx]
      have := ih; simp at this; omega
    · rfl
theorem cutC_none {c : UInt8} {s : Bytes} (h : pre (· == c) s = s.length) : cutC c s = (s,[],false) := by
  unfold cutC; rw [if_neg (by omega)]
theorem pre_app {p : UInt8 → Bool} {x : Bytes} (h : pre p x = x.length) (c : UInt8) (r : Bytes) (hc : p c = true) : pre p (x ++ c :: r) = x.length := by
  induction x with
  | nil => simp [pre_cons,hc]
  | cons y x ih =>
    rw [pre_cons] at h
    cases hy : p y
    · rw [hy] at h; simp at h
      simp [pre_cons,hy,ih h]
    · rw [hy] at h; simp at h
theorem cutC_some {c : UInt8} {x : Bytes} (h : pre (· == c) x = x.length) (r : Bytes) : cutC c (x ++ c :: r) = (x,r,true) := by
  unfold cutC
  rw [pre_app h c r (by simp),if_pos (by simp)]
  simp
end Wf
namespace Wf
open Go Go.RowKit
theorem uncut (c : UInt8) (s : Bytes) : s = (cutC c s).1 ++ (if (cutC c s).2.2 then [c] ++ (cutC c s).2.1 else []) := by
  unfold cutC
  split
  · rename_i h
    have h2 := pre_at (p := (· == c)) h
    simp only [if_true]
    have : s.drop (pre (· == c) s) = c :: s.drop (pre (· == c) s + 1) := by
      rw [List.drop_eq_getElem_cons h]
      simp only [beq_iff_eq] at h2
      rw [h2]
    rw [List.singleton_append,← this,List.take_append_drop]
  · simp
theorem uncut_no (c : UInt8) (s : Bytes) (h : (cutC c s).2.2 = false) : (cutC c s).2.1 = [] := by
  unfold cutC at h ⊢
  split
  · rename_i h2; rw [if_pos h2] at h; simp at h
  · rfl
/-! paths that begin with a slash -/
def absP (l : List Bytes) : Bytes := l.flatMap (47 :: ·)
end Wf
namespace Wf
open Go Go.RowKit
def Can (also s : Bytes) : Prop := ∃ l : List PU,s = l.flatMap PU.str ∧ ∀ x ∈ l,canU also x
theorem can_nil (also : Bytes) : Can also [] := ⟨[],rfl,by simp⟩
theorem can_bytes {also s : Bytes} (h : Can also s) : ∀ c ∈ s,keepB also c = true ∨ c = 37 ∨ isHex c = true := by
  obtain ⟨l,rfl,h1⟩ := h
  intro c hc
  obtain ⟨x,hx,hcx⟩ := List.mem_flatMap.1 hc
  have hk := h1 x hx
  cases x with
  | lit d =>
    obtain rfl := List.mem_singleton.1 hcx
    exact .inl hk.1
  | hex a b =>
    simp only [PU.str,List.mem_cons,List.not_mem_nil,or_false] at hcx
    rcases hcx with rfl | rfl | rfl
    · exact .inr (.inl rfl)
    · exact .inr (.inr hk.2.2.2.1)
    · exact .inr (.inr hk.2.2.2.2)
  | bad => exact hk.elim
theorem can_norm {also s : Bytes} (h : Can also s) (hl : s.length ≤ 16384) : pctNorm also s = (s,0) := by
  obtain ⟨l,rfl,h1⟩ := h
  unfold pctNorm
  rw [if_neg (by omega),units_can also l h1,normU_can also l h1]
theorem norm_can {also s : Bytes} (h : (pctNorm also s).2 = 0) : Can also (pctNorm also s).1 := by
  unfold pctNorm at h ⊢
  split at h
  · simp at h
  · rename_i hs
    rw [if_neg hs]
    obtain ⟨l',e,h1,-,-⟩ := normU_parts also (units s) (units_litne s) h
    exact ⟨l',e,h1⟩
theorem drop_pre (s : Bytes) : s.drop (pre (· == 47) s) = [] ∨ ∃ r,s.drop (pre (· == 47) s) = 47 :: r := by
  by_cases h : pre (· == 47) s < s.length
  · right
    have := pre_at h
    simp only [beq_iff_eq] at this
    exact ⟨s.drop (pre (· == 47) s + 1),by rw [List.drop_eq_getElem_cons h,this]⟩
  · left; simp; omega
/-! hosts -/
theorem pre_none {c : UInt8} {l : Bytes} (h : c ∉ l) : pre (· == c) l = l.length := by
  induction l with
  | nil => rfl
  | cons x l ih =>
    simp only [List.mem_cons,not_or] at h
    rw [pre_cons,if_neg (by simpa using fun e => h.1 e.symm),ih h.2]; rfl
theorem path_no' {s : Bytes} (h : Can [33,36,38,39,40,41,42,43,44,59,61,58,64,47] s) : ∀ c ∈ s,c ≠ 63 ∧ c ≠ 35 := by
  intro c hc
  have h1 := can_bytes h c hc
  have := all256 (p := fun c => !(keepB [33,36,38,39,40,41,42,43,44,59,61,58,64,47] c || c == 37 || isHex c) || (c != 63 && c != 35)) (by decide +kernel) c
  have h2 : (keepB [33,36,38,39,40,41,42,43,44,59,61,58,64,47] c || c == 37 || isHex c) = true := by rcases h1 with h | rfl | h <;> simp [*]
  rw [h2] at this
  simpa using this
theorem query_no' {s : Bytes} (h : Can [33,36,38,39,40,41,42,43,44,59,61,58,64,47,63] s) : (35 : UInt8) ∉ s := by
  intro hc
  have := can_bytes h _ hc
  revert this; decide
end Wf
namespace Wf
open Go Go.RowKit
structure CanUrl (u : Url) : Prop where
  host : hostPort (hostText u.host u.port) = ((u.host,u.port),0)
  path : Can inPath u.path
  slash : ∃ r,u.path = 47 :: r
  dots : removeDots u.path = u.path
  query : Can inQuery u.query
  frag : Can inQuery u.fragment
  noq : u.hasQuery = false → u.query = []
  nof : u.hasFrag = false → u.fragment = []
  len : (urlText u).length ≤ 4096
def Url.bare (u : Url) : Url := { u with fragment := [],hasFrag := false }
theorem CanUrl.bare {u : Url} (h : CanUrl u) : CanUrl u.bare :=
  ⟨h.host,h.path,h.slash,h.dots,h.query,can_nil _,h.noq,fun _ => rfl,by
    have := h.len
    unfold urlText at this ⊢
    unfold Url.bare urlTarget at *
    simp at this ⊢
    omega⟩
end Wf
/- Plain functions and laws of package acct. -/
set_option linter.all false
namespace Wf
open Go Go.RowKit
structure Acct where
  user : Bytes
  host : Bytes
  deriving DecidableEq
def Acct.none : Acct := ⟨[],[]⟩
theorem cut_parts {c : UInt8} {s : Bytes} (h : (cutC c s).2.2 = true) : s.length = (cutC c s).1.length + 1 + (cutC c s).2.1.length := by
  have := congrArg List.length (uncut c s)
  rw [if_pos h] at this
  simp at this; omega
end Wf
/- Plain functions and laws of package did. -/
set_option linter.all false
namespace Wf
open Go Go.RowKit
structure Did where
  method : Bytes
  id : Bytes
  deriving DecidableEq
def Did.none : Did := ⟨[],[]⟩
structure DidUrl where
  did : Did
  path : Bytes
  query : Bytes
  fragment : Bytes
  hasQuery : Bool
  hasFrag : Bool
  deriving DecidableEq
def DidUrl.none : DidUrl := ⟨Did.none,[],[],[],false,false⟩
def plainD (c : UInt8) : Bool := isAlpha c || isDigit c || ([46,45,95] : Bytes).contains c
def methodC (c : UInt8) : Bool := isDigit c || decide (97 ≤ c.toNat ∧ c.toNat ≤ 122)
def methodOk (s : Bytes) : Bool := !s.isEmpty && s.all methodC
def didB (c : UInt8) : Bytes := if plainD c then [c] else esc c
def didEsc (s : Bytes) : Bytes := s.flatMap didB
def didU : PU → Bytes
  | .lit c => [c]
  | .hex a b => didB (unhex a b)
  | .bad => []
def litOk : PU → Bool
  | .lit c => plainD c || c == 58
  | _ => true
def didCanon (s : Bytes) : Bytes × Int :=
  if PU.bad ∈ units s then ([],2) else if (units s).all litOk = false then ([],1) else ((units s).flatMap didU,0)
def didEnd (m : Bytes) (c : Bytes × Int) : Did × Int :=
  if c.2 ≠ 0 then (Did.none,c.2) else if c.1 = [] ∨ c.1.getLast? = some 58 then (Did.none,3) else (⟨m,c.1⟩,0)
def didRest (s : Bytes) : Did × Int :=
  if (cutC 58 s).2.2 = false then (Did.none,6)
  else if methodOk (cutC 58 s).1 = false then (Did.none,100)
  else didEnd (cutC 58 s).1 (didCanon (cutC 58 s).2.1)
def didS : Bytes := [100,105,100,58]
def didParse (s : Bytes) : Did × Int :=
  if 4096 < s.length then (Did.none,5)
  else if didS.isPrefixOf s = false then (Did.none,60)
  else didRest (s.drop 4)
def didText (d : Did) : Bytes := didS ++ d.method ++ [58] ++ d.id
def didUrlText (u : DidUrl) : Bytes := didText u.did ++ u.path ++ (if u.hasQuery then [63] ++ u.query else []) ++ (if u.hasFrag then [35] ++ u.fragment else [])
def didUrlEnd (d : Did × Int) (p q f : Bytes × Int) (hq hf : Bool) : DidUrl × Int :=
  if d.2 ≠ 0 then (DidUrl.none,d.2)
  else if p.2 ≠ 0 then (DidUrl.none,p.2)
  else if q.2 ≠ 0 then (DidUrl.none,q.2)
  else if f.2 ≠ 0 then (DidUrl.none,f.2)
  else (⟨d.1,p.1,q.1,f.1,hq,hf⟩,0)
def didUrlOf (s q f : Bytes) (hq hf : Bool) : DidUrl × Int :=
  didUrlEnd (didParse (s.take (pre (· == 47) s))) (pctNorm inPath (s.drop (pre (· == 47) s))) (pctNorm inQuery q) (pctNorm inQuery f) hq hf
def didUrl (s : Bytes) : DidUrl × Int :=
  if 4096 < s.length then (DidUrl.none,5)
  else didUrlOf (cutC 63 (cutC 35 s).1).1 (cutC 63 (cutC 35 s).1).2.1 (cutC 35 s).2.1 (cutC 63 (cutC 35 s).1).2.2 (cutC 35 s).2.2
def didResolve (d : Did) (r : Bytes) : DidUrl × Int :=
  if didS.isPrefixOf r = true then didUrl r
  else if r = [] ∨ r.head? = some 47 ∨ r.head? = some 63 ∨ r.head? = some 35 then didUrl (didText d ++ r)
  else (DidUrl.none,6)
/-! units -/
theorem units_str : ∀ (l : List PU),(∀ x ∈ l,(∀ c,x = .lit c → c ≠ 37) ∧ (∀ a b,x = .hex a b → isHex a = true ∧ isHex b = true) ∧ x ≠ .bad) → units (l.flatMap PU.str) = l
  | [],_ => rfl
  | .lit c :: r,h => by
    have h1 := (h _ List.mem_cons_self).1 c rfl
    rw [List.flatMap_cons,PU.str,List.singleton_append,units_lit h1,units_str r (fun x hx => h x (List.mem_cons_of_mem _ hx))]
  | .hex a b :: r,h => by
    have h1 := (h _ List.mem_cons_self).2.1 a b rfl
    rw [List.flatMap_cons,PU.str]
    simp only [List.cons_append,List.nil_append]
    rw [units_hex h1.1 h1.2,units_str r (fun x hx => h x (List.mem_cons_of_mem _ hx))]
  | .bad :: r,h => ((h _ List.mem_cons_self).2.2 rfl).elim
theorem unitsGo_back : ∀ (f : Nat) (s : Bytes),s.length ≤ f → PU.bad ∉ unitsGo f s → (unitsGo f s).flatMap PU.str = s
  | 0,s,h,_ => by
    obtain rfl := List.length_eq_zero_iff.1 (Nat.le_zero.1 h)
    rfl
  | f + 1,[],_,_ => rfl
  | f + 1,c :: r,h,hb => by
    rw [unitsGo] at hb ⊢
    simp only [List.length_cons] at h
    split
    · rename_i hc
      rw [if_pos hc] at hb
      cases hp : hexPair r with
      | none => rw [hp] at hb; simp at hb
      | some x =>
        obtain ⟨a,b,r'⟩ := x
        rw [hp] at hb
        obtain ⟨rfl,-,-⟩ := hexPair_some hp
        simp only [List.mem_cons,reduceCtorEq,false_or] at hb
        simp only [List.length_cons] at h
        simp only [List.flatMap_cons,PU.str,unitsGo_back f r' (by omega) hb]
        rw [hc]; rfl
    · rename_i hc
      rw [if_neg hc] at hb
      simp only [List.mem_cons,reduceCtorEq,false_or] at hb
      simp only [List.flatMap_cons,PU.str,unitsGo_back f r (by omega) hb]
      rfl
theorem units_back {s : Bytes} (h : PU.bad ∉ units s) : (units s).flatMap PU.str = s := unitsGo_back _ s (Nat.le_refl _) h
theorem unitsGo_hex : ∀ (f : Nat) (s : Bytes) (a b : UInt8),PU.hex a b ∈ unitsGo f s → isHex a = true ∧ isHex b = true
  | 0,_,_,_,h => by simp [unitsGo] at h
  | _ + 1,[],_,_,h => by simp [unitsGo] at h
  | f + 1,d :: r,a,b,h => by
    rw [unitsGo] at h
    split at h
    · cases hp : hexPair r with
      | none => rw [hp] at h; simp at h
      | some x =>
        obtain ⟨a',b',r'⟩ := x
        rw [hp] at h
        obtain ⟨-,h2,h3⟩ := hexPair_some hp
        simp only [List.mem_cons,PU.hex.injEq] at h
        rcases h with ⟨rfl,rfl⟩ | h
        · exact ⟨h2,h3⟩
        · exact unitsGo_hex f _ a b h
    · simp only [List.mem_cons,reduceCtorEq,false_or] at h
      exact unitsGo_hex f _ a b h
theorem units_hexes {s : Bytes} {a b : UInt8} (h : PU.hex a b ∈ units s) : isHex a = true ∧ isHex b = true := unitsGo_hex _ s a b h
theorem units_app_colon : ∀ (n : Nat) (a b : Bytes),a.length ≤ n → PU.bad ∉ units a → units (a ++ 58 :: b) = units a ++ .lit 58 :: units b
  | 0,a,b,h,_ => by
    obtain rfl := List.length_eq_zero_iff.1 (Nat.le_zero.1 h)
    rw [List.nil_append,units_lit (by decide)]; rfl
  | n + 1,[],b,_,_ => by rw [List.nil_append,units_lit (by decide)]; rfl
  | n + 1,c :: a,b,h,hb => by
    simp only [List.length_cons] at h
    by_cases hc : c = 37
    · subst hc
      cases hp : hexPair a with
      | none => rw [units_bad hp] at hb; simp at hb
      | some x =>
        obtain ⟨u,v,r⟩ := x
        obtain ⟨rfl,h1,h2⟩ := hexPair_some hp
        rw [units_hex h1 h2] at hb ⊢
        simp only [List.length_cons] at h
        simp only [List.cons_append]
        rw [units_hex h1 h2,units_app_colon n r b (by omega) (by simpa using hb)]
    · rw [units_lit hc] at hb ⊢
      rw [List.cons_append,units_lit hc,units_app_colon n a b (by omega) (by simpa using hb)]
      rfl
/-! canonical identifiers -/
def canD : PU → Prop
  | .lit c => (plainD c || c == 58) = true
  | .hex a b => plainD (unhex a b) = false ∧ a = hexU ((unhex a b).toNat / 16) ∧ b = hexU ((unhex a b).toNat % 16) ∧ isHex a = true ∧ isHex b = true
  | .bad => False
def CanI (s : Bytes) : Prop := ∃ l : List PU,s = l.flatMap PU.str ∧ ∀ x ∈ l,canD x
theorem plainD_no {c : UInt8} (h : (plainD c || c == 58) = true) : c ≠ 37 ∧ c ≠ 47 ∧ c ≠ 63 ∧ c ≠ 35 := by
  have := all256 (p := fun c => !(plainD c || c == 58) || (c != 37 && c != 47 && c != 63 && c != 35)) (by decide +kernel) c
  rw [h] at this
  simpa [and_assoc] using this
theorem hex_no {c : UInt8} (h : isHex c = true) : c ≠ 37 ∧ c ≠ 47 ∧ c ≠ 63 ∧ c ≠ 35 ∧ c ≠ 58 := by
  have := all256 (p := fun c => !(isHex c) || (c != 37 && c != 47 && c != 63 && c != 35 && c != 58)) (by decide +kernel) c
  rw [h] at this
  simpa [and_assoc] using this
theorem canI_units {l : List PU} (h : ∀ x ∈ l,canD x) : units (l.flatMap PU.str) = l :=
  units_str l fun x hx => by
    have := h x hx
    cases x with
    | lit c => exact ⟨fun d e => by cases e; exact (plainD_no this).1,by simp,by simp⟩
    | hex a b => exact ⟨by simp,fun u v e => by cases e; exact this.2.2.2,by simp⟩
    | bad => exact this.elim
theorem canI_canon {s : Bytes} (h : CanI s) : didCanon s = (s,0) := by
  obtain ⟨l,rfl,hl⟩ := h
  unfold didCanon
  rw [canI_units hl,if_neg (fun k => absurd (hl _ k) (by simp [canD])),if_neg ?_]
  · congr 1
    have : ∀ m : List PU,(∀ x ∈ m,canD x) → m.flatMap didU = m.flatMap PU.str := by
      intro m
      induction m with
      | nil => intro _; rfl
      | cons x m ih =>
        intro hm
        rw [List.flatMap_cons,List.flatMap_cons,ih (fun y hy => hm y (List.mem_cons_of_mem _ hy))]
        congr 1
        have := hm x List.mem_cons_self
        cases x with
        | lit c => rfl
        | hex a b =>
          simp only [didU,didB,PU.str]
          rw [if_neg (by simp [this.1])]
          unfold esc
          rw [← this.2.1,← this.2.2.1]
        | bad => exact this.elim
    exact this l hl
  · simp only [Bool.not_eq_false]
    refine List.all_eq_true.2 fun x hx => ?_
    have := hl x hx
    cases x with
    | lit c => exact this
    | hex a b => rfl
    | bad => rfl
theorem canon_can {s x : Bytes} (h : didCanon s = (x,0)) : CanI x ∧ x.length ≤ s.length ∧ (∀ c ∈ s,c ≠ 47 ∧ c ≠ 63 ∧ c ≠ 35) := by
  unfold didCanon at h
  split at h
  · simp at h
  rename_i hb
  split at h
  · simp at h
  rename_i ha
  simp only [Prod.mk.injEq,and_true] at h
  subst h
  have ha : (units s).all litOk = true := by simpa using ha
  have hs := units_back hb
  have hlit : ∀ c,PU.lit c ∈ units s → (plainD c || c == 58) = true := fun c hc => List.all_eq_true.1 ha _ hc
  have hhex := fun a b => units_hexes (s := s) (a := a) (b := b)
  generalize units s = l at *
  subst hs
  have key : ∀ m : List PU,(∀ c,PU.lit c ∈ m → (plainD c || c == 58) = true) → (∀ a b,PU.hex a b ∈ m → isHex a = true ∧ isHex b = true) → PU.bad ∉ m →
      CanI (m.flatMap didU) ∧ (m.flatMap didU).length ≤ (m.flatMap PU.str).length ∧ (∀ c ∈ m.flatMap PU.str,c ≠ 47 ∧ c ≠ 63 ∧ c ≠ 35) := by
    intro m
    induction m with
    | nil => intro _ _ _; exact ⟨⟨[],rfl,by simp⟩,by simp,by simp⟩
    | cons x m ih =>
      intro h1 h2 h3
      obtain ⟨⟨l',e',k'⟩,i2,i3⟩ := ih (fun c hc => h1 c (List.mem_cons_of_mem _ hc)) (fun a b hc => h2 a b (List.mem_cons_of_mem _ hc)) (fun hc => h3 (List.mem_cons_of_mem _ hc))
      simp only [List.flatMap_cons,List.length_append]
      cases x with
      | lit c =>
        have hc := h1 c List.mem_cons_self
        refine ⟨⟨.lit c :: l',by rw [e']; rfl,fun y hy => ?_⟩,by rw [show (didU (.lit c)).length = 1 from rfl,show (PU.str (.lit c)).length = 1 from rfl]; omega,fun d hd => ?_⟩
        · rcases List.mem_cons.1 hy with rfl | hy
          · exact hc
          · exact k' y hy
        · rcases List.mem_append.1 hd with hd | hd
          · obtain rfl := List.mem_singleton.1 hd; exact (plainD_no hc).2
          · exact i3 d hd
      | hex a b =>
        obtain ⟨ha',hb'⟩ := h2 a b List.mem_cons_self
        have hbytes : ∀ d ∈ PU.str (.hex a b) ++ m.flatMap PU.str,d ≠ 47 ∧ d ≠ 63 ∧ d ≠ 35 := by
          intro d hd
          rcases List.mem_append.1 hd with hd | hd
          · simp only [PU.str,List.mem_cons,List.not_mem_nil,or_false] at hd
            rcases hd with rfl | rfl | rfl
            · decide
            · have := hex_no ha'; exact ⟨this.2.1,this.2.2.1,this.2.2.2.1⟩
            · have := hex_no hb'; exact ⟨this.2.1,this.2.2.1,this.2.2.2.1⟩
          · exact i3 d hd
        have q1 : (didU (.hex a b)).length ≤ 3 := by simp only [didU,didB]; split <;> simp [esc]
        have q2 : (PU.str (.hex a b)).length = 3 := rfl
        have q3 : (if plainD (unhex a b) = true then 1 else 3) = (didU (.hex a b)).length := by simp only [didU,didB]; split <;> simp [esc]
        by_cases hp : plainD (unhex a b) = true
        · refine ⟨⟨.lit (unhex a b) :: l',by rw [e',List.flatMap_cons]; simp only [didU,didB,hp,PU.str,if_true],fun y hy => ?_⟩,by omega,hbytes⟩
          rcases List.mem_cons.1 hy with rfl | hy
          · show (plainD _ || _) = true; rw [hp]; rfl
          · exact k' y hy
        · have hp : plainD (unhex a b) = false := by simpa using hp
          have hn := (unhex a b).toNat_lt
          have hv := unhex_esc (unhex a b)
          refine ⟨⟨.hex (hexU ((unhex a b).toNat / 16)) (hexU ((unhex a b).toNat % 16)) :: l',by rw [e',List.flatMap_cons]; simp only [didU,didB,hp,PU.str,esc,Bool.false_eq_true,if_false],fun y hy => ?_⟩,by omega,hbytes⟩
          rcases List.mem_cons.1 hy with rfl | hy
          · exact ⟨by rw [hv]; exact hp,by rw [hv],by rw [hv],hexU_hex _ (by omega),hexU_hex _ (by omega)⟩
          · exact k' y hy
      | bad => exact (h3 List.mem_cons_self).elim
  exact key l hlit hhex hb
structure CanDid (d : Did) : Prop where
  method : methodOk d.method = true
  id : CanI d.id
  ne : d.id ≠ []
  last : d.id.getLast? ≠ some 58
theorem method_no {s : Bytes} (h : methodOk s = true) : ∀ c ∈ s,c ≠ 47 ∧ c ≠ 63 ∧ c ≠ 35 ∧ c ≠ 58 := by
  intro c hc
  unfold methodOk at h
  simp only [Bool.and_eq_true] at h
  have h1 := List.all_eq_true.1 h.2 c hc
  have := all256 (p := fun c => !(methodC c) || (c != 47 && c != 63 && c != 35 && c != 58)) (by decide +kernel) c
  rw [h1] at this
  simpa [and_assoc] using this
theorem did_can {s : Bytes} {d : Did} (h : didParse s = (d,0)) : CanDid d ∧ (didText d).length ≤ s.length ∧ s.length ≤ 4096 ∧ ∀ c ∈ s,c ≠ 47 ∧ c ≠ 63 ∧ c ≠ 35 := by
  unfold didParse at h
  split at h
  · simp at h
  split at h
  · simp at h
  rename_i h1 h2
  have h2 : didS.isPrefixOf s = true := by simpa using h2
  obtain ⟨r,rfl⟩ := List.isPrefixOf_iff_prefix.1 h2
  have e4 : (didS ++ r).drop 4 = r := rfl
  rw [e4] at h
  unfold didRest at h
  split at h
  · simp at h
  split at h
  · simp at h
  rename_i h3 h4
  have h3 : (cutC 58 r).2.2 = true := by simpa using h3
  have h4 : methodOk (cutC 58 r).1 = true := by simpa using h4
  unfold didEnd at h
  split at h
  · rename_i h5; exact absurd (Prod.mk.inj h).2 h5
  split at h
  · simp at h
  rename_i h5 h6
  simp only [not_or] at h6
  simp only [Prod.mk.injEq,and_true] at h
  subst h
  have e : didCanon (cutC 58 r).2.1 = ((didCanon (cutC 58 r).2.1).1,0) := by
    have : (didCanon (cutC 58 r).2.1).2 = 0 := by simpa using h5
    rw [← this]
  obtain ⟨k1,k2,k3⟩ := canon_can e
  have hlen := cut_parts h3
  refine ⟨⟨h4,k1,h6.1,h6.2⟩,?_,by omega,?_⟩
  · simp only [didText,List.length_append,List.length_cons,List.length_nil]; omega
  · have hu := uncut 58 r
    rw [if_pos h3] at hu
    intro c hc
    rcases List.mem_append.1 hc with hc | hc
    · have : ∀ c ∈ didS,c ≠ 47 ∧ c ≠ 63 ∧ c ≠ 35 := by decide
      exact this c hc
    · rw [hu] at hc
      rcases List.mem_append.1 hc with hc | hc
      · have := method_no h4 c hc; exact ⟨this.1,this.2.1,this.2.2.1⟩
      · rcases List.mem_append.1 hc with hc | hc
        · obtain rfl := List.mem_singleton.1 hc; decide
        · exact k3 c hc
theorem did_read {d : Did} (h : CanDid d) (hl : (didText d).length ≤ 4096) : didParse (didText d) = (d,0) := by
  unfold didParse
  have e1 : didS.isPrefixOf (didText d) = true := rfl
  have e2 : (didText d).drop 4 = d.method ++ 58 :: d.id := by show d.method ++ [58] ++ d.id = _; simp
  rw [if_neg (by omega),if_neg (by rw [e1]; simp),e2]
  unfold didRest
  rw [cutC_some (pre_none (fun k => (method_no h.method _ k).2.2.2 rfl)),if_neg (by simp),if_neg (by simp [h.method])]
  simp only
  rw [canI_canon h.id]
  unfold didEnd
  rw [if_neg (by simp),if_neg (by simp only [not_or]; exact ⟨h.ne,h.last⟩)]
theorem did_url {s : Bytes} {d : Did} (h : didParse s = (d,0)) : didUrl s = (⟨d,[],[],[],false,false⟩,0) := by
  obtain ⟨-,-,h1,h2⟩ := did_can h
  unfold didUrl
  rw [if_neg (by omega),cutC_none (pre_none (fun k => (h2 _ k).2.2 rfl)),cutC_none (pre_none (fun k => (h2 _ k).2.1 rfl))]
  simp only
  unfold didUrlOf
  rw [pre_none (fun k => (h2 _ k).1 rfl),List.take_length,List.drop_length,h]
  rfl
structure CanDidUrl (u : DidUrl) : Prop where
  did : CanDid u.did
  path : Can inPath u.path
  slash : u.path = [] ∨ ∃ r,u.path = 47 :: r
  query : Can inQuery u.query
  frag : Can inQuery u.fragment
  noq : u.hasQuery = false → u.query = []
  nof : u.hasFrag = false → u.fragment = []
theorem norm_slash {s : Bytes} (h : s = [] ∨ ∃ r,s = 47 :: r) (e : (pctNorm inPath s).2 = 0) : (pctNorm inPath s).1 = [] ∨ ∃ r,(pctNorm inPath s).1 = 47 :: r := by
  rcases h with rfl | ⟨q,rfl⟩
  · left; rfl
  · right
    unfold pctNorm at e ⊢
    split
    · rename_i hx; rw [if_pos hx] at e; simp at e
    rename_i hx
    rw [if_neg hx,units_lit (by decide),normU,if_pos (by decide)] at e
    rw [units_lit (by decide),normU,if_pos (by decide)]
    unfold comb at e ⊢
    split
    · exact ⟨_,rfl⟩
    · rename_i hy; rw [if_neg hy] at e; exact absurd e hy
theorem didUrl_can {s : Bytes} {u : DidUrl} (h : didUrl s = (u,0)) : CanDidUrl u ∧ (didUrlText u).length ≤ s.length ∧ s.length ≤ 4096 := by
  unfold didUrl at h
  split at h
  · simp at h
  rename_i hl
  have q1 := uncut_no 63 (cutC 35 s).1
  have q2 := uncut_no 35 s
  have l1 := congrArg List.length (uncut 35 s)
  have l2 := congrArg List.length (uncut 63 (cutC 35 s).1)
  generalize (cutC 63 (cutC 35 s).1).1 = b at h l2
  generalize (cutC 63 (cutC 35 s).1).2.1 = q at h l2 q1
  generalize (cutC 63 (cutC 35 s).1).2.2 = hq at h l2 q1
  generalize (cutC 35 s).1 = a at l1 l2
  generalize (cutC 35 s).2.1 = f at h l1 q2
  generalize (cutC 35 s).2.2 = hf at h l1 q2
  unfold didUrlOf didUrlEnd at h
  split at h
  · rename_i h5; exact absurd (Prod.mk.inj h).2 h5
  split at h
  · rename_i h5; exact absurd (Prod.mk.inj h).2 h5
  split at h
  · rename_i h5; exact absurd (Prod.mk.inj h).2 h5
  split at h
  · rename_i h5; exact absurd (Prod.mk.inj h).2 h5
  rename_i h1 h2 h3 h4
  simp only [Prod.mk.injEq,and_true] at h
  subst h
  have e : didParse (b.take (pre (· == 47) b)) = ((didParse (b.take (pre (· == 47) b))).1,0) := by
    have : (didParse (b.take (pre (· == 47) b))).2 = 0 := by simpa using h1
    rw [← this]
  obtain ⟨k1,k2,-,-⟩ := did_can e
  have n1 := pctNorm_len inPath (b.drop (pre (· == 47) b))
  have n2 := pctNorm_len inQuery q
  have n3 := pctNorm_len inQuery f
  refine ⟨⟨k1,norm_can (by simpa using h2),norm_slash (drop_pre _) (by simpa using h2),norm_can (by simpa using h3),norm_can (by simpa using h4),fun k => by simp only at k ⊢; rw [q1 k]; rfl,fun k => by simp only at k ⊢; rw [q2 k]; rfl⟩,?_,by omega⟩
  have hb := congrArg List.length (List.take_append_drop (pre (· == 47) b) b)
  rw [List.length_append] at hb
  simp only [didUrlText,List.length_append] at l1 l2 ⊢
  cases hq <;> cases hf <;> simp at l1 l2 ⊢ <;> omega
theorem didUrl_read {u : DidUrl} (h : CanDidUrl u) (hl : (didUrlText u).length ≤ 4096) : didUrl (didUrlText u) = (u,0) := by
  obtain ⟨d,pa,qu,fr,b3,b4⟩ := u
  obtain ⟨h1,h2,h3,h4,h5,h6,h7⟩ := h
  simp only at h1 h2 h3 h4 h5 h6 h7
  have hd : (didText d).length ≤ 4096 := by simp [didUrlText] at hl; omega
  have lq : b3 = true → qu.length ≤ 4096 := fun k => by rw [didUrlText,k] at hl; simp at hl; omega
  have lf : b4 = true → fr.length ≤ 4096 := fun k => by rw [didUrlText,k] at hl; simp at hl; omega
  have lp : pa.length ≤ 4096 := by simp [didUrlText] at hl; omega
  have rd := did_read h1 hd
  have hdt := (did_can rd).2.2.2
  have hpb := path_no' h2
  have hqb := query_no' h4
  have c1 : cutC 35 (didUrlText ⟨d,pa,qu,fr,b3,b4⟩) = (didText d ++ pa ++ (if b3 then [63] ++ qu else []),fr,b4) := by
    have hn : (35 : UInt8) ∉ didText d ++ pa ++ (if b3 then [63] ++ qu else []) := by
      simp only [List.mem_append,not_or]
      refine ⟨⟨fun k => (hdt _ k).2.2 rfl,fun k => (hpb _ k).2 rfl⟩,?_⟩
      split
      · simp only [List.mem_append,not_or]; exact ⟨by decide,hqb⟩
      · simp
    cases b4
    · have : didUrlText ⟨d,pa,qu,fr,b3,false⟩ = didText d ++ pa ++ (if b3 then [63] ++ qu else []) := by simp [didUrlText]
      rw [this,cutC_none (pre_none hn),h7 rfl]
    · have : didUrlText ⟨d,pa,qu,fr,b3,true⟩ = (didText d ++ pa ++ (if b3 then [63] ++ qu else [])) ++ 35 :: fr := by simp [didUrlText]
      rw [this,cutC_some (pre_none hn)]
  have c2 : cutC 63 (didText d ++ pa ++ (if b3 then [63] ++ qu else [])) = (didText d ++ pa,qu,b3) := by
    have hn : (63 : UInt8) ∉ didText d ++ pa := by
      simp only [List.mem_append,not_or]
      exact ⟨fun k => (hdt _ k).2.1 rfl,fun k => (hpb _ k).1 rfl⟩
    cases b3
    · rw [if_neg (by simp),List.append_nil,cutC_none (pre_none hn),h6 rfl]
    · rw [if_pos rfl,List.singleton_append,cutC_some (pre_none hn)]
  unfold didUrl
  rw [if_neg (by omega),c1]
  simp only
  rw [c2]
  simp only
  have hp47 : pre (· == 47) (didText d ++ pa) = (didText d).length := by
    have hn := pre_none (c := 47) (l := didText d) (fun k => (hdt _ k).1 rfl)
    rcases h3 with rfl | ⟨r,rfl⟩
    · rw [List.append_nil]; exact hn
    · exact pre_app hn 47 r (by decide)
  unfold didUrlOf
  rw [hp47,List.take_left,List.drop_left,rd,can_norm h2 (by omega)]
  have n2 : pctNorm inQuery qu = (qu,0) := by
    cases b3
    · rw [h6 rfl]; rfl
    · exact can_norm h4 (by have := lq rfl; omega)
  have n3 : pctNorm inQuery fr = (fr,0) := by
    cases b4
    · rw [h7 rfl]; rfl
    · exact can_norm h5 (by have := lf rfl; omega)
  rw [n2,n3]
  rfl
theorem didUrl_back {s : Bytes} {u : DidUrl} (h : didUrl s = (u,0)) : didUrl (didUrlText u) = (u,0) ∧ didResolve u.did [] = (⟨u.did,[],[],[],false,false⟩,0) := by
  obtain ⟨h1,h2,h3⟩ := didUrl_can h
  refine ⟨didUrl_read h1 (by omega),?_⟩
  have hl : (didText u.did).length ≤ (didUrlText u).length := by simp [didUrlText]
  unfold didResolve
  rw [if_neg (by decide),if_pos (.inl rfl),List.append_nil]
  exact did_url (did_read h1.did (by omega))
end Wf
/- The models of DID documents: reading,writing,selecting; plain. -/
set_option linter.all false
namespace Go.Proofs.YtejfjmcjicpodaaGreatDoor
open Go Vc Go.RowKit Wf
set_option linter.unusedSimpArgs false
structure Svm where
  id : Bytes
  types : List Bytes
  ends : List Bytes
structure Mtm where
  id : Bytes
  type : Bytes
  ctrl : Bytes
structure Docm where
  id : Bytes
  also : List Bytes
  ctrl : List Bytes
  methods : List Mtm
  services : List Svm
def Docm.none : Docm := ⟨[],[],[],[],[]⟩
def failE (e x : Int) : Int := if e = 0 then x else e
def textsE (e : Int) (L : List Jv) : Int := if L.all (fun x => x.k == 5) then e else failE e 160
def arrE (e : Int) (m : Jv) : Int := if m.k = 6 then (if 64 < m.L.length then failE e 161 else e) else failE e 160
def arrL (m : Jv) : List Jv := if m.k = 6 then (if 64 < m.L.length then [] else m.L) else []
def listE (e : Int) (v : Jv) (key : Bytes) : Int := match v.get key with
  | some m => arrE e m
  | none => e
def listL (v : Jv) (key : Bytes) : List Jv := match v.get key with
  | some m => arrL m
  | none => []
def moreE (e : Int) (m : Jv) : Int := if m.k = 5 then e else textsE (arrE e m) (arrL m)
def moreL (m : Jv) : List Bytes := if m.k = 5 then [m.t] else (arrL m).map Jv.t
def idE (did : Did) (e : Int) (v : Jv) : Int := if (didResolve did (v.at ([105,100] : List UInt8)).t).2 = 0 then textsE e [v.at ([105,100] : List UInt8)] else failE (textsE e [v.at ([105,100] : List UInt8)]) 160
def idT (did : Did) (v : Jv) : Bytes := if (didResolve did (v.at ([105,100] : List UInt8)).t).2 = 0 then didUrlText (didResolve did (v.at ([105,100] : List UInt8)).t).1 else []
def servE (did : Did) (e : Int) (v : Jv) : Int := if (v.at ([115,101,114,118,105,99,101,69,110,100,112,111,105,110,116] : List UInt8)).k = 7 then moreE (idE did e v) (v.at ([116,121,112,101] : List UInt8)) else moreE (moreE (idE did e v) (v.at ([116,121,112,101] : List UInt8))) (v.at ([115,101,114,118,105,99,101,69,110,100,112,111,105,110,116] : List UInt8))
def servM (did : Did) (v : Jv) : Svm := ⟨idT did v,moreL (v.at ([116,121,112,101] : List UInt8)),if (v.at ([115,101,114,118,105,99,101,69,110,100,112,111,105,110,116] : List UInt8)).k = 7 then [] else moreL (v.at ([115,101,114,118,105,99,101,69,110,100,112,111,105,110,116] : List UInt8))⟩
def methE (did : Did) (e : Int) (v : Jv) : Int := textsE (textsE (idE did e v) [v.at ([116,121,112,101] : List UInt8)]) [v.at ([99,111,110,116,114,111,108,108,101,114] : List UInt8)]
def methM (did : Did) (v : Jv) : Mtm := ⟨idT did v,(v.at ([116,121,112,101] : List UInt8)).t,(v.at ([99,111,110,116,114,111,108,108,101,114] : List UInt8)).t⟩
def alsoE (e : Int) (v : Jv) : Int := textsE (listE e v ([97,108,115,111,75,110,111,119,110,65,115] : List UInt8)) (listL v ([97,108,115,111,75,110,111,119,110,65,115] : List UInt8))
def alsoL (v : Jv) : List Bytes := (listL v ([97,108,115,111,75,110,111,119,110,65,115] : List UInt8)).map Jv.t
def ctrlE (e : Int) (v : Jv) : Int := match v.get ([99,111,110,116,114,111,108,108,101,114] : List UInt8) with
  | some m => moreE e m
  | none => e
def ctrlL (v : Jv) : List Bytes := match v.get ([99,111,110,116,114,111,108,108,101,114] : List UInt8) with
  | some m => moreL m
  | none => []
def foldE (g : Int → Jv → Int) (e : Int) (L : List Jv) : Int := L.foldl g e
def methsE (did : Did) (e : Int) (v : Jv) : Int := foldE (methE did) (listE e v ([118,101,114,105,102,105,99,97,116,105,111,110,77,101,116,104,111,100] : List UInt8)) (listL v ([118,101,114,105,102,105,99,97,116,105,111,110,77,101,116,104,111,100] : List UInt8))
def servsE (did : Did) (e : Int) (v : Jv) : Int := foldE (servE did) (listE e v ([115,101,114,118,105,99,101] : List UInt8)) (listL v ([115,101,114,118,105,99,101] : List UInt8))
def docE (did : Did) (v : Jv) : Int := servsE did (methsE did (ctrlE (alsoE 0 v) v) v) v
def docM (did : Did) (v : Jv) : Docm := ⟨didText did,alsoL v,ctrlL v,(listL v ([118,101,114,105,102,105,99,97,116,105,111,110,77,101,116,104,111,100] : List UInt8)).map (methM did),(listL v ([115,101,114,118,105,99,101] : List UInt8)).map (servM did)⟩
def docOf (v : Jv) : Docm × Int := if v.k = 7 then
    (if (v.at ([105,100] : List UInt8)).k = 5 ∧ (didParse (v.at ([105,100] : List UInt8)).t).2 = 0 then
      (if docE (didParse (v.at ([105,100] : List UInt8)).t).1 v = 0 then (docM (didParse (v.at ([105,100] : List UInt8)).t).1 v,0) else (Docm.none,docE (didParse (v.at ([105,100] : List UInt8)).t).1 v))
    else (Docm.none,160))
  else (Docm.none,160)
theorem failE_ne {e x : Int} (h : e ≠ 0) : failE e x = e := if_neg h
theorem failE_z {e x : Int} (hx : x ≠ 0) : failE e x = 0 ↔ False := by unfold failE; split <;> simp_all
theorem textsE_z {e : Int} {L : List Jv} : textsE e L = 0 ↔ e = 0 ∧ ∀ x ∈ L,x.k = 5 := by
  unfold textsE
  split
  · rename_i h
    simp only [List.all_eq_true,beq_iff_eq] at h
    exact ⟨fun he => ⟨he,h⟩,fun h => h.1⟩
  · rename_i h
    simp only [List.all_eq_true,beq_iff_eq] at h
    rw [failE_z (by decide)]
    exact ⟨False.elim,fun h2 => h h2.2⟩
theorem textsE_ne {e : Int} {L : List Jv} (h : e ≠ 0) : textsE e L = e := by unfold textsE; split <;> simp [failE_ne h]
theorem arrE_ne {e : Int} {m : Jv} (h : e ≠ 0) : arrE e m = e := by unfold arrE; split <;> (try split) <;> simp [failE_ne h]
theorem listE_ne {e : Int} {v : Jv} {key : Bytes} (h : e ≠ 0) : listE e v key = e := by unfold listE; split <;> simp [arrE_ne h]
theorem moreE_ne {e : Int} {m : Jv} (h : e ≠ 0) : moreE e m = e := by unfold moreE; split <;> simp [arrE_ne h,textsE_ne h]
theorem idE_ne {d : Did} {e : Int} {v : Jv} (h : e ≠ 0) : idE d e v = e := by unfold idE; split <;> simp [textsE_ne h,failE_ne h]
theorem servE_ne {d : Did} {e : Int} {v : Jv} (h : e ≠ 0) : servE d e v = e := by unfold servE; split <;> simp [idE_ne h,moreE_ne h]
theorem methE_ne {d : Did} {e : Int} {v : Jv} (h : e ≠ 0) : methE d e v = e := by unfold methE; simp [idE_ne h,textsE_ne h]
theorem foldE_ne {g : Int → Jv → Int} (hg : ∀ e v,e ≠ 0 → g e v = e) {e : Int} (h : e ≠ 0) : ∀ L : List Jv,foldE g e L = e
  | [] => rfl
  | x :: L => by
    show foldE g (g e x) L = e
    rw [hg e x h]
    exact foldE_ne hg h L
end Go.Proofs.YtejfjmcjicpodaaGreatDoor
/- Plain laws on DIDs: what the program and the reference compute for an identifier. -/
set_option linter.all false
namespace Wf
open Go Go.RowKit
def repB (c : UInt8) (new : Bytes) (d : UInt8) : Bytes := if d = c then new else [d]
theorem rep_none {c : UInt8} {new s : Bytes} (h : c ∉ s) : s.flatMap (repB c new) = s := by
  induction s with
  | nil => rfl
  | cons d s ih =>
    simp only [List.mem_cons,not_or] at h
    rw [List.flatMap_cons,ih h.2]
    unfold repB
    rw [if_neg (fun e => h.1 e.symm)]; rfl
theorem replaceK_one (c : UInt8) (new : Bytes) : ∀ (k : Nat) (s : Bytes),s.count c = k → Lib.replaceK [c] new k s = s.flatMap (repB c new) := by
  intro k
  induction k with
  | zero =>
    intro s h
    rw [rep_none (fun hm => by have := List.count_pos_iff.2 hm; omega)]; rfl
  | succ k ih =>
    intro s h
    by_cases hp : pre (· == c) s < s.length
    · have hk : Lib.index s [c] = (pre (· == c) s : Nat) := by rw [index_one,indexByte_pre,if_pos hp]
      rw [Lib.replaceK_hit [c] new k s _ hk]
      rw [count_pre hp] at h
      have e : s = s.take (pre (· == c) s) ++ c :: s.drop (pre (· == c) s + 1) := by
        have := pre_at hp
        simp only [beq_iff_eq] at this
        conv => lhs; rw [← List.take_append_drop (pre (· == c) s) s,List.drop_eq_getElem_cons hp,this]
      have hn : c ∉ s.take (pre (· == c) s) := by
        intro hm
        have h1 := pre_take (· == c) s
        obtain ⟨j,hj,e⟩ := List.getElem_of_mem hm
        have := pre_get (p := (· == c)) (l := s.take (pre (· == c) s)) (k := j) (by omega) hj
        rw [e] at this
        simp at this
      rw [show [c].length = 1 from rfl,ih _ (by omega)]
      conv => rhs; rw [e,List.flatMap_append,List.flatMap_cons,rep_none hn]
      simp [repB]
    · rw [count_zero hp] at h; omega
theorem replaceAll_one (c : UInt8) (new s : Bytes) (hne : ([c] == new) = false) : Lib.replaceAll s [c] new = s.flatMap (repB c new) := by
  unfold Lib.replaceAll Lib.replace Lib.replaceNum
  rw [hne,if_neg (by simp),if_pos (.inl (by omega)),Lib.count_one,replaceK_one c new _ s rfl]
/-! The program's way. -/
def nU : PU → Bytes
  | .lit c => [c]
  | .hex a b => normB (unhex a b)
  | .bad => []
def litKeep (also : Bytes) : PU → Bool
  | .lit c => keepB also c
  | _ => true
theorem normU_nobad (also : Bytes) : ∀ l : List PU,PU.bad ∉ l → normU also l = if l.all (litKeep also) then (l.flatMap nU,0) else ([],1)
  | [],_ => rfl
  | .bad :: r,h => by simp at h
  | .lit c :: r,h => by
    rw [normU,normU_nobad also r (by simpa using h),List.all_cons]
    cases hk : keepB also c
    · simp [litKeep,hk]
    · cases hr : r.all (litKeep also) <;> simp [litKeep,hk,comb,nU]
  | .hex a b :: r,h => by
    rw [normU,normU_nobad also r (by simpa using h),List.all_cons]
    cases hr : r.all (litKeep also) <;> simp [litKeep,comb,nU]
def progCanon (s : Bytes) : Bytes × Int :=
  if (pctDecode s).2 ≠ 0 then ([],(pctDecode s).2)
  else ((pctNorm [58] s).1.flatMap (repB 126 [37,55,69]),if (pctNorm [58] s).2 = 0 ∧ (126 : UInt8) ∈ s then 1 else (pctNorm [58] s).2)
theorem rep_norm (v : UInt8) : (normB v).flatMap (repB 126 [37,55,69]) = didB v := by
  have := all256 (p := fun v => (normB v).flatMap (repB 126 [37,55,69]) == didB v) (by decide +kernel) v
  simpa using this
theorem lit_mem {s : Bytes} {c : UInt8} (hb : PU.bad ∉ units s) (hc : c ≠ 37) (hx : isHex c = false) : c ∈ s ↔ PU.lit c ∈ units s := by
  have hs := units_back hb
  constructor
  · intro h
    rw [← hs] at h
    obtain ⟨u,hu,h⟩ := List.mem_flatMap.1 h
    cases u with
    | lit d => obtain rfl := List.mem_singleton.1 h; exact hu
    | hex a b =>
      have := units_hexes hu
      simp only [PU.str,List.mem_cons,List.not_mem_nil,or_false] at h
      rcases h with rfl | rfl | rfl
      · exact absurd rfl hc
      · rw [this.1] at hx; cases hx
      · rw [this.2] at hx; cases hx
    | bad => simp [PU.str] at h
  · intro h
    rw [← hs]
    exact List.mem_flatMap.2 ⟨_,h,List.mem_singleton.2 rfl⟩
theorem progCanon_eq (s : Bytes) (hl : s.length ≤ 16384) : (progCanon s).2 = (didCanon s).2 ∧ ((didCanon s).2 = 0 → (progCanon s).1 = (didCanon s).1) := by
  have d1 : pctDecode s = if PU.bad ∈ units s then ([],2) else ((units s).map PU.val,0) := if_neg (by omega)
  have d2 : pctNorm [58] s = normU [58] (units s) := by unfold pctNorm; first | rfl | exact if_neg (by omega)
  unfold progCanon didCanon
  rw [d1,d2]
  clear d1 d2
  by_cases hb : PU.bad ∈ units s
  · rw [if_pos hb,if_pos hb]; simp
  · rw [if_neg hb,if_neg hb,normU_nobad [58] _ hb]
    simp only [ne_eq,not_true,if_false]
    have key : ∀ c : UInt8,(plainD c || c == 58) = (keepB [58] c && c != 126) := fun c => by
      have := all256 (p := fun c => (plainD c || c == 58) == (keepB [58] c && c != 126)) (by decide +kernel) c
      simpa using this
    have h126 := lit_mem (s := s) (c := 126) hb (by decide) (by decide)
    generalize units s = l at *
    by_cases ha : l.all (litKeep [58]) = true
    · rw [if_pos ha]
      by_cases hm : PU.lit 126 ∈ l
      · have hno : l.all litOk = false := by
          rw [← Bool.not_eq_true]
          intro h
          have := List.all_eq_true.1 h _ hm
          revert this; decide
        rw [if_pos hno,if_pos ⟨rfl,h126.2 hm⟩]
        exact ⟨rfl,fun h => by simp at h⟩
      · have hyes : ¬ l.all litOk = false := by
          rw [Bool.not_eq_false]
          refine List.all_eq_true.2 fun u hu => ?_
          have := List.all_eq_true.1 ha u hu
          cases u with
          | lit c =>
            show (plainD c || c == 58) = true
            rw [key]
            have h1 : keepB [58] c = true := this
            rw [h1,Bool.true_and,bne_iff_ne]
            rintro rfl; exact hm hu
          | hex a b => rfl
          | bad => rfl
        rw [if_neg hyes,if_neg (fun k => hm (h126.1 k.2))]
        refine ⟨rfl,fun _ => ?_⟩
        show (l.flatMap nU).flatMap (repB 126 [37,55,69]) = l.flatMap didU
        clear hyes h126 ha
        induction l with
        | nil => rfl
        | cons u l ih =>
          rw [List.flatMap_cons,List.flatMap_append,List.flatMap_cons,ih (fun k => hb (List.mem_cons_of_mem _ k)) (fun k => hm (List.mem_cons_of_mem _ k)) rfl]
          congr 1
          cases u with
          | lit c =>
            have : c ≠ 126 := by rintro rfl; exact hm List.mem_cons_self
            show ([c] : Bytes).flatMap (repB 126 [37,55,69]) = [c]
            simp [repB,this]
          | hex a b => exact rep_norm _
          | bad => rfl
    · rw [if_neg ha]
      have hno : l.all litOk = false := by
        rw [← Bool.not_eq_true]
        intro h
        refine ha (List.all_eq_true.2 fun u hu => ?_)
        have := List.all_eq_true.1 h u hu
        cases u with
        | lit c =>
          have h1 : (plainD c || c == 58) = true := this
          rw [key,Bool.and_eq_true] at h1
          exact h1.1
        | hex a b => rfl
        | bad => rfl
      rw [if_pos hno,if_neg (by simp)]
      exact ⟨rfl,fun h => by simp at h⟩
/-! The reference's way: segment by segment. -/
theorem units_app_bad : ∀ (n : Nat) (a b : Bytes),a.length ≤ n → PU.bad ∈ units a → PU.bad ∈ units (a ++ 58 :: b)
  | _,[],b,_,h => by simp [units_nil] at h
  | 0,c :: a,b,h,_ => by simp at h
  | n + 1,c :: a,b,h,hb => by
    simp only [List.length_cons] at h
    by_cases hc : c = 37
    · subst hc
      cases hp : hexPair a with
      | none =>
        have : hexPair (a ++ 58 :: b) = none := by
          rcases a with _ | ⟨u,_ | ⟨v,r⟩⟩
          · cases b <;> simp [hexPair,show isHex 58 = false by decide]
          · simp [hexPair,show isHex 58 = false by decide]
          · unfold hexPair at hp ⊢
            simp only [List.cons_append]
            by_cases hx : (isHex u && isHex v) = true
            · simp [hx] at hp
            · simp [hx]
        rw [List.cons_append,units_bad this]; simp
      | some x =>
        obtain ⟨u,v,r⟩ := x
        obtain ⟨rfl,h1,h2⟩ := hexPair_some hp
        rw [units_hex h1 h2] at hb
        simp only [List.length_cons] at h
        simp only [List.cons_append]
        rw [units_hex h1 h2]
        exact List.mem_cons_of_mem _ (units_app_bad n r b (by omega) (by simpa using hb))
    · rw [units_lit hc] at hb
      rw [List.cons_append,units_lit hc]
      exact List.mem_cons_of_mem _ (units_app_bad n a b (by omega) (by simpa using hb))
theorem segs_units : ∀ (l : List Bytes) (x : Bytes),((∃ y ∈ x :: l,PU.bad ∈ units y) ↔ PU.bad ∈ units (x ++ l.flatMap (58 :: ·))) ∧
    ((∀ y ∈ x :: l,PU.bad ∉ units y) → units (x ++ l.flatMap (58 :: ·)) = units x ++ l.flatMap (fun y => .lit 58 :: units y))
  | [],x => by simp
  | y :: l,x => by
    obtain ⟨h1,h2⟩ := segs_units l y
    have e : x ++ (y :: l).flatMap (58 :: ·) = x ++ 58 :: (y ++ l.flatMap (58 :: ·)) := by simp
    rw [e]
    constructor
    · constructor
      · rintro ⟨z,hz,hb⟩
        by_cases hx : PU.bad ∈ units x
        · exact units_app_bad _ _ _ (Nat.le_refl _) hx
        · rw [units_app_colon _ _ _ (Nat.le_refl _) hx]
          rcases List.mem_cons.1 hz with rfl | hz
          · exact absurd hb hx
          · exact List.mem_append_right _ (List.mem_cons_of_mem _ (h1.1 ⟨z,hz,hb⟩))
      · intro hb
        by_cases hx : PU.bad ∈ units x
        · exact ⟨x,List.mem_cons_self,hx⟩
        · rw [units_app_colon _ _ _ (Nat.le_refl _) hx] at hb
          rcases List.mem_append.1 hb with hb | hb
          · exact absurd hb hx
          · simp only [List.mem_cons,reduceCtorEq,false_or] at hb
            obtain ⟨z,hz,hb⟩ := h1.2 hb
            exact ⟨z,List.mem_cons_of_mem _ hz,hb⟩
    · intro h
      rw [units_app_colon _ _ _ (Nat.le_refl _) (h x List.mem_cons_self),h2 (fun z hz => h z (List.mem_cons_of_mem _ hz))]
      simp
def segPlain (y : Bytes) : Bool := y.all fun c => plainD c || c == 37
def decV (y : Bytes) : Bytes := (units y).map PU.val
theorem hex_plain {c : UInt8} (h : isHex c = true) : plainD c = true := by
  have := all256 (p := fun c => !(isHex c) || plainD c) (by decide +kernel) c
  rw [h] at this
  simpa using this
theorem segPlain_units {y : Bytes} (hb : PU.bad ∉ units y) (hc : (58 : UInt8) ∉ y) : segPlain y = (units y).all litOk := by
  have key : ∀ l : List PU,(∀ a b,PU.hex a b ∈ l → isHex a = true ∧ isHex b = true) → (∀ c,PU.lit c ∈ l → c ≠ 37) → (58 : UInt8) ∉ l.flatMap PU.str →
      (l.flatMap PU.str).all (fun c => plainD c || c == 37) = l.all litOk := by
    intro l
    induction l with
    | nil => intros; rfl
    | cons u l ih =>
      intro hh hl hc
      have ih := ih (fun a b k => hh a b (List.mem_cons_of_mem _ k)) (fun c k => hl c (List.mem_cons_of_mem _ k)) (fun k => hc (by rw [List.flatMap_cons]; exact List.mem_append_right _ k))
      rw [List.flatMap_cons,List.all_append,List.all_cons,ih]
      congr 1
      cases u with
      | lit c =>
        have h1 : c ≠ 37 := hl c List.mem_cons_self
        have h2 : c ≠ 58 := by rintro rfl; exact hc (by simp [PU.str])
        have e1 : (c == 37) = false := by simpa using h1
        have e2 : (c == 58) = false := by simpa using h2
        simp [PU.str,litOk,e1,e2]
      | hex a b =>
        obtain ⟨h1,h2⟩ := hh a b List.mem_cons_self
        simp [PU.str,litOk,hex_plain h1,hex_plain h2]
      | bad => rfl
  have := key (units y) (fun a b => units_hexes) (units_litne y) (by rw [units_back hb]; exact hc)
  rw [units_back hb] at this
  exact this
theorem didEsc_units2 {l : List PU} (h : ∀ c,PU.lit c ∈ l → plainD c = true) (hb : PU.bad ∉ l) : l.flatMap didU = didEsc (l.map PU.val) := by
  induction l with
  | nil => rfl
  | cons u l ih =>
    have ih := ih (fun c k => h c (List.mem_cons_of_mem _ k)) (fun k => hb (List.mem_cons_of_mem _ k))
    rw [List.flatMap_cons,ih,List.map_cons]
    show _ = didB u.val ++ didEsc (l.map PU.val)
    congr 1
    cases u with
    | lit c => simp [didU,PU.val,didB,h c List.mem_cons_self]
    | hex a b => rfl
    | bad => exact absurd List.mem_cons_self hb
def segsId (x : Bytes) (l : List Bytes) : Bytes := didEsc (decV x) ++ l.flatMap fun y => 58 :: didEsc (decV y)
theorem segs_canon {s x : Bytes} {l : List Bytes} (e : s = x ++ l.flatMap (58 :: ·)) (hn : ∀ y ∈ x :: l,(58 : UInt8) ∉ y) :
    didCanon s = if ∃ y ∈ x :: l,PU.bad ∈ units y then ([],2) else if (x :: l).all segPlain = false then ([],1) else (segsId x l,0) := by
  obtain ⟨h1,h2⟩ := segs_units l x
  rw [← e] at h1 h2
  unfold didCanon
  by_cases hb : ∃ y ∈ x :: l,PU.bad ∈ units y
  · rw [if_pos hb,if_pos (h1.1 hb)]
  · rw [if_neg hb,if_neg (fun k => hb (h1.2 k))]
    have hb : ∀ y ∈ x :: l,PU.bad ∉ units y := fun y hy k => hb ⟨y,hy,k⟩
    rw [h2 hb]
    have hall : (units x ++ l.flatMap fun y => PU.lit 58 :: units y).all litOk = (x :: l).all segPlain := by
      rw [List.all_append,List.all_cons,segPlain_units (hb x List.mem_cons_self) (hn x List.mem_cons_self)]
      congr 1
      have : ∀ m : List Bytes,(∀ y ∈ m,PU.bad ∉ units y ∧ (58 : UInt8) ∉ y) → (m.flatMap fun y => PU.lit 58 :: units y).all litOk = m.all segPlain := by
        intro m
        induction m with
        | nil => intro _; rfl
        | cons y m ih =>
          intro hm
          rw [List.flatMap_cons,List.all_append,List.all_cons,List.all_cons,ih (fun z hz => hm z (List.mem_cons_of_mem _ hz)),segPlain_units (hm y List.mem_cons_self).1 (hm y List.mem_cons_self).2]
          rfl
      exact this l fun y hy => ⟨hb y (List.mem_cons_of_mem _ hy),hn y (List.mem_cons_of_mem _ hy)⟩
    rw [hall]
    by_cases ha : (x :: l).all segPlain = false
    · rw [if_pos ha,if_pos ha]
    · rw [if_neg ha,if_neg ha]
      have ha : (x :: l).all segPlain = true := by simpa using ha
      congr 1
      have hp : ∀ y ∈ x :: l,(units y).flatMap didU = didEsc (decV y) := by
        intro y hy
        refine didEsc_units2 (fun c hc => ?_) (hb y hy)
        have h3 := List.all_eq_true.1 ha y hy
        rw [segPlain_units (hb y hy) (hn y hy)] at h3
        have h4 : (plainD c || c == 58) = true := List.all_eq_true.1 h3 _ hc
        have h5 : c ≠ 58 := by
          rintro rfl
          exact hn y hy ((lit_mem (hb y hy) (by decide) (by decide)).2 hc)
        simpa [h5] using h4
      rw [List.flatMap_append,hp x List.mem_cons_self]
      unfold segsId
      congr 1
      have : ∀ m : List Bytes,(∀ y ∈ m,(units y).flatMap didU = didEsc (decV y)) → (m.flatMap fun y => PU.lit 58 :: units y).flatMap didU = m.flatMap fun y => 58 :: didEsc (decV y) := by
        intro m
        induction m with
        | nil => intro _; rfl
        | cons y m ih =>
          intro hm
          rw [List.flatMap_cons,List.flatMap_append,List.flatMap_cons,List.flatMap_cons,ih (fun z hz => hm z (List.mem_cons_of_mem _ hz)),hm y List.mem_cons_self]
          rfl
      exact this l fun y hy => hp y (List.mem_cons_of_mem _ hy)
theorem esc_no58 (s : Bytes) : (58 : UInt8) ∉ didEsc s := by
  intro hc
  obtain ⟨d,-,hd⟩ := List.mem_flatMap.1 hc
  have h1 := all256 (p := fun d => (didB d).all fun c => c != 58) (by decide +kernel) d
  have := List.all_eq_true.1 h1 _ hd
  simp at this
theorem esc_nil {s : Bytes} : didEsc s = [] ↔ s = [] := by
  constructor
  · intro h
    cases s with
    | nil => rfl
    | cons c s =>
      have : didB c ++ didEsc s = [] := h
      have h2 : didB c = [] := (List.append_eq_nil_iff.1 this).1
      unfold didB esc at h2
      split at h2 <;> simp at h2
  · rintro rfl; rfl
theorem decV_nil {y : Bytes} (hb : PU.bad ∉ units y) : decV y = [] ↔ y = [] := by
  constructor
  · intro h
    have : units y = [] := List.map_eq_nil_iff.1 h
    rw [← units_back hb,this]; rfl
  · rintro rfl; rfl
theorem segs_last {x : Bytes} {l : List Bytes} (hb : ∀ y ∈ x :: l,PU.bad ∉ units y) : (segsId x l = [] ∨ (segsId x l).getLast? = some 58) ↔ (x :: l).getLast? = some [] := by
  have last : ∀ y : Bytes,(didEsc y).getLast? ≠ some 58 := fun y k => esc_no58 y (List.mem_of_getLast? k)
  rcases List.eq_nil_or_concat l with rfl | ⟨m,z,rfl⟩
  · unfold segsId
    rw [List.flatMap_nil,List.append_nil,esc_nil,decV_nil (hb x List.mem_cons_self)]
    simp [last]
  · rw [List.concat_eq_append] at *
    have hz := hb z (by simp)
    have e : segsId x (m ++ [z]) = segsId x m ++ 58 :: didEsc (decV z) := by simp [segsId]
    rw [e,show x :: (m ++ [z]) = (x :: m) ++ [z] by simp,List.getLast?_append,List.getLast?_append]
    simp only [List.getLast?_singleton,Option.some_or,Option.some.injEq]
    constructor
    · rintro (h | h)
      · simp at h
      · cases hd : didEsc (decV z) with
        | nil => exact (decV_nil hz).1 (esc_nil.1 hd)
        | cons a r =>
          rw [hd] at h
          rw [List.getLast?_cons_cons,← hd] at h
          cases hq : (didEsc (decV z)).getLast? with
          | none => rw [List.getLast?_eq_none_iff] at hq; rw [hq] at hd; cases hd
          | some w => rw [hq] at h; exact absurd (by rw [hq]; simpa using h) (last (decV z))
    · rintro rfl
      right
      simp [decV,units_nil,didEsc]
end Wf
/- Plain: the parts of a DID URL,cut from the other end; and the segments of an ID. -/
set_option linter.all false
namespace Wf
open Go Go.RowKit
theorem pre_past {p : UInt8 → Bool} : ∀ {a : Bytes} (r : Bytes),(∀ c ∈ a,p c = false) → pre p (a ++ r) = a.length + pre p r
  | [],r,_ => by simp
  | c :: a,r,h => by
    have h1 := h c List.mem_cons_self
    have ih := pre_past (a := a) r (fun d hd => h d (List.mem_cons_of_mem _ hd))
    rw [List.cons_append,pre_cons,h1,if_neg (by simp),ih,List.length_cons]
    omega
theorem cutC_past {c : UInt8} {a : Bytes} (r : Bytes) (h : c ∉ a) : cutC c (a ++ r) = (a ++ (cutC c r).1,(cutC c r).2.1,(cutC c r).2.2) := by
  have hp : pre (· == c) (a ++ r) = a.length + pre (· == c) r := pre_past r fun d hd => by
    have : d ≠ c := by rintro rfl; exact h hd
    simpa using this
  by_cases hr : pre (· == c) r < r.length
  · rw [show cutC c r = (r.take (pre (· == c) r),r.drop (pre (· == c) r + 1),true) from if_pos hr]
    rw [show cutC c (a ++ r) = ((a ++ r).take (pre (· == c) (a ++ r)),(a ++ r).drop (pre (· == c) (a ++ r) + 1),true) from if_pos (by rw [hp,List.length_append]; omega)]
    rw [hp,List.take_length_add_append,Nat.add_assoc,List.drop_length_add_append]
  · have hle := pre_le (· == c) r
    rw [cutC_none (s := r) (by omega),cutC_none (s := a ++ r) (by rw [hp,List.length_append]; omega)]
def didHead (s : Bytes) : Nat := pre ([47,63,35].contains ·) s
theorem didUrlOf_ref (s : Bytes) : didUrlOf (cutC 63 (cutC 35 s).1).1 (cutC 63 (cutC 35 s).1).2.1 (cutC 35 s).2.1 (cutC 63 (cutC 35 s).1).2.2 (cutC 35 s).2.2 =
    didUrlEnd (didParse (s.take (didHead s))) (pctNorm inPath (cutC 63 (cutC 35 (s.drop (didHead s))).1).1) (pctNorm inQuery (cutC 63 (cutC 35 (s.drop (didHead s))).1).2.1) (pctNorm inQuery (cutC 35 (s.drop (didHead s))).2.1)
      (cutC 63 (cutC 35 (s.drop (didHead s))).1).2.2 (cutC 35 (s.drop (didHead s))).2.2 := by
  have hk := pre_le ([47,63,35].contains ·) s
  have hall : ∀ c ∈ s.take (didHead s),[47,63,35].contains c = false := by
    intro c hc
    obtain ⟨j,hj,rfl⟩ := List.getElem_of_mem hc
    have hj2 : j < didHead s ∧ j < s.length := by rw [List.length_take] at hj; omega
    rw [List.getElem_take]
    exact pre_get (p := ([47,63,35].contains ·)) (k := j) hj2.1 hj2.2
  have hst : s.drop (didHead s) = [] ∨ ∃ c r,s.drop (didHead s) = c :: r ∧ [47,63,35].contains c = true := by
    rcases Nat.lt_or_ge (didHead s) s.length with h | h
    · exact .inr ⟨_,_,List.drop_eq_getElem_cons h,pre_at (p := ([47,63,35].contains ·)) h⟩
    · exact .inl (List.drop_eq_nil_of_le h)
  have e : s = s.take (didHead s) ++ s.drop (didHead s) := (List.take_append_drop _ _).symm
  generalize s.take (didHead s) = a at *
  generalize s.drop (didHead s) = r at *
  clear hk
  subst e
  have n1 : (35 : UInt8) ∉ a := fun h => by have := hall _ h; revert this; decide
  have n2 : (63 : UInt8) ∉ a := fun h => by have := hall _ h; revert this; decide
  have n3 : ∀ c ∈ a,(c == 47) = false := fun c h => by
    have h1 := hall c h
    have : c ≠ 47 := by rintro rfl; revert h1; decide
    simpa using this
  rw [cutC_past r n1]
  simp only
  rw [cutC_past _ n2]
  simp only
  unfold didUrlOf
  have hr2 : (cutC 63 (cutC 35 r).1).1 = [] ∨ ∃ q,(cutC 63 (cutC 35 r).1).1 = 47 :: q := by
    rcases hst with rfl | ⟨c,q,rfl,hc⟩
    · exact .inl rfl
    · have hc : c = 47 ∨ c = 63 ∨ c = 35 := by simpa using hc
      rcases hc with rfl | rfl | rfl
      · right
        have h1 : cutC 35 (47 :: q) = (47 :: (cutC 35 q).1,(cutC 35 q).2.1,(cutC 35 q).2.2) := cutC_past (a := [47]) q (by decide)
        rw [h1]
        simp only
        have h2 : cutC 63 (47 :: (cutC 35 q).1) = (47 :: (cutC 63 (cutC 35 q).1).1,(cutC 63 (cutC 35 q).1).2.1,(cutC 63 (cutC 35 q).1).2.2) := cutC_past (a := [47]) _ (by decide)
        rw [h2]
        exact ⟨_,rfl⟩
      · left
        have h1 : cutC 35 (63 :: q) = (63 :: (cutC 35 q).1,(cutC 35 q).2.1,(cutC 35 q).2.2) := cutC_past (a := [63]) q (by decide)
        rw [h1]
        rfl
      · left; rfl
  generalize (cutC 63 (cutC 35 r).1).1 = r2 at hr2 ⊢
  have hp : pre (· == 47) (a ++ r2) = a.length := by
    rw [pre_past r2 n3]
    rcases hr2 with rfl | ⟨q,rfl⟩
    · rfl
    · rfl
  rw [hp,List.take_left,List.drop_left]
/-! The segments of an ID,as the reference takes them. -/
theorem split_segs (c : UInt8) : ∀ (n : Nat) (s : Bytes),s.length ≤ n → ∃ x l,splitC c s = x :: l ∧ s = x ++ l.flatMap (c :: ·) ∧ ∀ y ∈ x :: l,c ∉ y := by
  intro n
  induction n with
  | zero =>
    intro s h
    obtain rfl := List.length_eq_zero_iff.1 (Nat.le_zero.1 h)
    exact ⟨[],[],rfl,rfl,by simp⟩
  | succ n ih =>
    intro s h
    have hno : c ∉ s.take (pre (· == c) s) := by
      intro hm
      obtain ⟨j,hj,e⟩ := List.getElem_of_mem hm
      have hj2 : j < pre (· == c) s ∧ j < s.length := by rw [List.length_take] at hj; omega
      have := pre_get (p := (· == c)) (l := s) (k := j) hj2.1 hj2.2
      rw [List.getElem_take] at e
      rw [e] at this
      simp at this
    by_cases hp : pre (· == c) s < s.length
    · obtain ⟨x,l,e1,e2,e3⟩ := ih (s.drop (pre (· == c) s + 1)) (by simp; omega)
      refine ⟨s.take (pre (· == c) s),x :: l,by rw [splitC_hit hp,e1],?_,?_⟩
      · have hg := pre_at hp
        simp only [beq_iff_eq] at hg
        conv => lhs; rw [← List.take_append_drop (pre (· == c) s) s,List.drop_eq_getElem_cons hp,hg,e2]
        simp
      · intro y hy
        rcases List.mem_cons.1 hy with rfl | hy
        · exact hno
        · exact e3 y hy
    · have hq := pre_le (· == c) s
      rw [List.take_of_length_le (by omega)] at hno
      exact ⟨s,[],splitC_miss hp,by simp,by simpa using hno⟩
def segsJoin : List Bytes → Bytes
  | [] => []
  | x :: l => segsId x l
theorem segsJoin_snoc (l : List Bytes) (y : Bytes) : segsJoin (l ++ [y]) = segsJoin l ++ (if l = [] then [] else [58]) ++ didEsc (decV y) := by
  cases l with
  | nil => simp [segsJoin,segsId]
  | cons x l => simp [segsJoin,segsId]
theorem segsJoin_take {l : List Bytes} {k : Nat} (h : k < l.length) : segsJoin (l.take (k + 1)) = segsJoin (l.take k) ++ (if k = 0 then [] else [58]) ++ didEsc (decV l[k]) := by
  rw [List.take_succ_eq_append_getElem h,segsJoin_snoc]
  congr 2
  cases k with
  | zero => simp
  | succ k => cases l with
    | nil => simp at h
    | cons x l => simp
theorem didB_len (c : UInt8) : (didB c).length ≤ 3 := by unfold didB; split <;> simp [esc]
theorem didEsc_len (s : Bytes) : (didEsc s).length ≤ 3 * s.length := by
  induction s with
  | nil => simp [didEsc]
  | cons c s ih =>
    have := didB_len c
    show (didB c ++ didEsc s).length ≤ _
    rw [List.length_append,List.length_cons]
    omega
theorem unitsGo_cnt : ∀ (f : Nat) (s : Bytes),(unitsGo f s).length ≤ f
  | 0,s => by simp [unitsGo]
  | f + 1,[] => by simp [unitsGo]
  | f + 1,c :: r => by
    rw [unitsGo]
    split
    · split
      · rename_i a b r' h
        have := unitsGo_cnt f r'
        simpa using this
      · simp
    · have := unitsGo_cnt f r
      simpa using this
theorem decV_len (y : Bytes) : (decV y).length ≤ y.length := by
  have := unitsGo_cnt y.length y
  simpa [decV,units] using this
theorem segsJoin_len : ∀ (l : List Bytes),(segsJoin l).length ≤ 3 * l.flatten.length + l.length
  | [] => by simp [segsJoin]
  | x :: l => by
    have h1 := didEsc_len (decV x)
    have h2 := decV_len x
    have h3 : ∀ m : List Bytes,(m.flatMap fun y => 58 :: didEsc (decV y)).length ≤ 3 * m.flatten.length + m.length := by
      intro m
      induction m with
      | nil => simp
      | cons y m ih =>
        have k1 := didEsc_len (decV y)
        have k2 := decV_len y
        simp only [List.flatMap_cons,List.length_append,List.length_cons,List.flatten_cons] at ih ⊢
        omega
    have h4 := h3 l
    simp only [segsJoin,segsId,List.length_append,List.flatten_cons,List.length_cons]
    omega
theorem didEnd_segs (m s : Bytes) : didEnd m (didCanon s) =
    if ∃ y ∈ splitC 58 s,PU.bad ∈ units y then (Did.none,2) else if (splitC 58 s).all segPlain = false then (Did.none,1)
    else if (splitC 58 s).getLast? = some [] then (Did.none,3) else (⟨m,segsJoin (splitC 58 s)⟩,0) := by
  obtain ⟨x,l,e1,e2,e3⟩ := split_segs 58 _ s (Nat.le_refl _)
  rw [e1,segs_canon e2 e3]
  by_cases hb : ∃ y ∈ x :: l,PU.bad ∈ units y
  · rw [if_pos hb,if_pos hb]; rfl
  rw [if_neg hb,if_neg hb]
  by_cases ha : (x :: l).all segPlain = false
  · rw [if_pos ha,if_pos ha]; rfl
  rw [if_neg ha,if_neg ha]
  have hb : ∀ y ∈ x :: l,PU.bad ∉ units y := fun y hy k => hb ⟨y,hy,k⟩
  have hs := segs_last hb
  unfold didEnd
  rw [if_neg (by simp)]
  by_cases hq : (x :: l).getLast? = some []
  · rw [if_pos hq,if_pos (hs.2 hq)]
  · rw [if_neg hq,if_neg (fun k => hq (hs.1 k))]; rfl
theorem decode_seg {y : Bytes} (h : y.length ≤ 16384) : pctDecode y = if PU.bad ∈ units y then ([],2) else (decV y,0) := if_neg (by omega)
end Wf
/- The walks of package percent,and of the classes of bytes that it uses. -/
set_option linter.all false
set_option maxRecDepth 20000
namespace Go.Proofs.YtejfjmcjicpodaaGreatDoor
open Go Vc Go.RowKit Wf
theorem p_IsAlpha (c : UInt8) : PC Tryz.V 136 [.int .u8 c.toNat] (.bool (isAlpha c)) :=
  ⟨Tryz.call136,by simp [flat,flat.flatL],by simp [flat,flat.flatL],fun w _ => (ascii_IsAlpha c w).mono fun _ _ ⟨h,k⟩ => ⟨h,below_same k⟩⟩
theorem p_IsDigit (c : UInt8) : PC Tryz.V 91 [.int .u8 c.toNat] (.bool (isDigit c)) :=
  ⟨Tryz.call91,by simp [flat,flat.flatL],by simp [flat,flat.flatL],fun w _ => (ascii_IsDigit c w).mono fun _ _ ⟨h,k⟩ => ⟨h,below_same k⟩⟩
theorem p_IsHex (c : UInt8) : PC Tryz.V 123 [.int .u8 c.toNat] (.bool (isHex c)) :=
  ⟨Tryz.call123,by simp [flat,flat.flatL],by simp [flat,flat.flatL],fun w _ => (ascii_IsHex c w).mono fun _ _ ⟨h,k⟩ => ⟨h,below_same k⟩⟩
theorem idx_geq (set : Bytes) (c : UInt8) : decide (0 ≤ Lib.indexByte set c) = set.contains c := by
  rw [indexByte_pre]
  by_cases h : pre (· == c) set < set.length
  · rw [if_pos h]
    have := pre_at (p := (· == c)) h
    simp only [beq_iff_eq] at this
    simp only [Int.natCast_nonneg,decide_true]
    symm
    rw [List.contains_iff_mem,← this]
    exact List.getElem_mem h
  · rw [if_neg h]
    simp only [show ¬ (0 : Int) ≤ -1 by omega,decide_false]
    symm
    rw [← Bool.not_eq_true,List.contains_iff_mem]
    intro hm
    obtain ⟨k,hk,rfl⟩ := List.getElem_of_mem hm
    have h2 := pre_le (· == set[k]) set
    have := pre_get (p := (· == set[k])) (l := set) (k := k) (by omega) hk
    simp at this
theorem p_among (c : UInt8) (set : Bytes) : PC Tryz.V 126 [.int .u8 c.toNat,.str set] (.bool (set.contains c)) := by
  refine pc_of 3000 Tryz.func126 rfl Tryz.ntmps126 Tryz.results126 Tryz.call126 (by simp) (by simp [flat,flat.flatL]) (by simp [flat,flat.flatL]) ?_
  simp only [lawG,↓Xn,↓Xo,↓Xg,↓Xd,↓Xe,↓Xf,Tryz.VΓ,Tryz.Γs,Xp,Xi,Nat.reduceAdd,Nat.reduceSub,Nat.reduceLT,Nat.reduceLeDiff,reduceIte,reduceCtorEq,Nat.reduceEqDiff,implies_true,forall_const,lawV]
  (refine callV_pc (p_IndexByte set c) ?_; simp only [lawG,↓Xn,↓Xo,↓Xg,↓Xd,↓Xe,↓Xf,Tryz.VΓ,Tryz.Γs,Xp,Xi,Nat.reduceAdd,Nat.reduceSub,Nat.reduceLT,Nat.reduceLeDiff,reduceIte,reduceCtorEq,Nat.reduceEqDiff,implies_true,forall_const,lawV])
  rw [idx_geq]
theorem p_alnum (c : UInt8) : PC Tryz.V 125 [.int .u8 c.toNat] (.bool (isAlpha c || isDigit c)) := by
  refine pc_of 3000 Tryz.func125 rfl Tryz.ntmps125 Tryz.results125 Tryz.call125 (by simp) (by simp [flat,flat.flatL]) (by simp [flat,flat.flatL]) ?_
  simp only [lawG,↓Xn,↓Xo,↓Xg,↓Xd,↓Xe,↓Xf,Tryz.VΓ,Tryz.Γs,Xp,Xi,Nat.reduceAdd,Nat.reduceSub,Nat.reduceLT,Nat.reduceLeDiff,reduceIte,reduceCtorEq,Nat.reduceEqDiff,implies_true,forall_const,lawV]
  (refine callV_pc (p_IsAlpha c) ?_; simp only [lawG,↓Xn,↓Xo,↓Xg,↓Xd,↓Xe,↓Xf,Tryz.VΓ,Tryz.Γs,Xp,Xi,Nat.reduceAdd,Nat.reduceSub,Nat.reduceLT,Nat.reduceLeDiff,reduceIte,reduceCtorEq,Nat.reduceEqDiff,implies_true,forall_const,lawV])
  refine ⟨fun h => ?_,fun h => by rw [h]; rfl⟩
  (refine callV_pc (p_IsDigit c) ?_; simp only [lawG,↓Xn,↓Xo,↓Xg,↓Xd,↓Xe,↓Xf,Tryz.VΓ,Tryz.Γs,Xp,Xi,Nat.reduceAdd,Nat.reduceSub,Nat.reduceLT,Nat.reduceLeDiff,reduceIte,reduceCtorEq,Nat.reduceEqDiff,implies_true,forall_const,lawV])
  rw [h]; rfl
theorem p_IsUnreserved (c : UInt8) : PC Tryz.V 109 [.int .u8 c.toNat] (.bool (unres c)) := by
  refine pc_of 3000 Tryz.func109 rfl Tryz.ntmps109 Tryz.results109 Tryz.call109 (by simp) (by simp [flat,flat.flatL]) (by simp [flat,flat.flatL]) ?_
  simp only [lawG,↓Xn,↓Xo,↓Xg,↓Xd,↓Xe,↓Xf,Tryz.VΓ,Tryz.Γs,Xp,Xi,Nat.reduceAdd,Nat.reduceSub,Nat.reduceLT,Nat.reduceLeDiff,reduceIte,reduceCtorEq,Nat.reduceEqDiff,implies_true,forall_const,lawV]
  (refine callV_pc (p_alnum c) ?_; simp only [lawG,↓Xn,↓Xo,↓Xg,↓Xd,↓Xe,↓Xf,Tryz.VΓ,Tryz.Γs,Xp,Xi,Nat.reduceAdd,Nat.reduceSub,Nat.reduceLT,Nat.reduceLeDiff,reduceIte,reduceCtorEq,Nat.reduceEqDiff,implies_true,forall_const,lawV])
  refine ⟨fun h => ?_,fun h => by unfold unres; rw [h]; rfl⟩
  (refine callV_pc (p_among c [45,46,95,126]) ?_; simp only [lawG,↓Xn,↓Xo,↓Xg,↓Xd,↓Xe,↓Xf,Tryz.VΓ,Tryz.Γs,Xp,Xi,Nat.reduceAdd,Nat.reduceSub,Nat.reduceLT,Nat.reduceLeDiff,reduceIte,reduceCtorEq,Nat.reduceEqDiff,implies_true,forall_const,lawV])
  unfold unres; rw [h]; rfl
theorem dig_low (c : UInt8) (h : isDigit c = true) : IntKind.u8.wrap ((c.toNat : Int) - 48) = hexVal c := by
  have := all256 (p := fun c => !isDigit c || decide (IntKind.u8.wrap ((c.toNat : Int) - 48) = hexVal c)) (by decide +kernel) c
  simpa [h] using this
theorem dig_high (c : UInt8) (h : isHex c = true) (h2 : isDigit c = false) : IntKind.u8.wrap (IntKind.u8.wrap (bitI .or .u8 (c.toNat : Int) 32 - 97) + 10) = hexVal c := by
  have := all256 (p := fun c => !isHex c || isDigit c || decide (IntKind.u8.wrap (IntKind.u8.wrap (bitI .or .u8 (c.toNat : Int) 32 - 97) + 10) = hexVal c)) (by decide +kernel) c
  simpa [h,h2] using this
theorem p_digit (c : UInt8) (hc : isHex c = true) : PC Tryz.V 124 [.int .u8 c.toNat] (.int .u8 (hexVal c)) := by
  refine pc_of 3000 Tryz.func124 rfl Tryz.ntmps124 Tryz.results124 Tryz.call124 (by simp) (by simp [flat,flat.flatL]) (by simp [flat,flat.flatL]) ?_
  simp only [lawG,↓Xn,↓Xo,↓Xg,↓Xd,↓Xe,↓Xf,Tryz.VΓ,Tryz.Γs,Xp,Xi,Nat.reduceAdd,Nat.reduceSub,Nat.reduceLT,Nat.reduceLeDiff,reduceIte,reduceCtorEq,Nat.reduceEqDiff,implies_true,forall_const,lawV]
  (refine callV_pc (p_IsDigit c) ?_; simp only [lawG,↓Xn,↓Xo,↓Xg,↓Xd,↓Xe,↓Xf,Tryz.VΓ,Tryz.Γs,Xp,Xi,Nat.reduceAdd,Nat.reduceSub,Nat.reduceLT,Nat.reduceLeDiff,reduceIte,reduceCtorEq,Nat.reduceEqDiff,implies_true,forall_const,lawV])
  refine ⟨fun h => ?_,fun h => ?_⟩
  · rw [dig_low c h]
  · rw [dig_high c hc h]
theorem unhex_bits (a b : UInt8) (ha : isHex a = true) (hb : isHex b = true) : bitI .or .u8 (shI .shl .u8 (hexVal a) 4) (hexVal b) = ((unhex a b).toNat : Int) := by
  have h1 := hexVal_le ha
  have h2 := hexVal_le hb
  have : ∀ x,x < 16 → ∀ y,y < 16 → bitI .or .u8 (shI .shl .u8 (x : Nat) 4) (y : Nat) = (((x * 16 + y).toUInt8).toNat : Int) := by decide +kernel
  exact this _ (by omega) _ (by omega)
def escAt (s : Bytes) (i : Nat) : Option UInt8 := (hexPair (s.drop (i + 1))).map fun x => unhex x.1 x.2.1
theorem hexPair_drop (s : Bytes) (i : Nat) : hexPair (s.drop (i + 1)) = if i + 2 < s.length then (if isHex (s.getD (i + 1) 0) && isHex (s.getD (i + 2) 0) then some (s.getD (i + 1) 0,s.getD (i + 2) 0,s.drop (i + 3)) else none) else none := by
  by_cases h : i + 2 < s.length
  · rw [if_pos h,List.drop_eq_getElem_cons (by omega : i + 1 < s.length),List.drop_eq_getElem_cons (by omega : i + 1 + 1 < s.length)]
    simp only [hexPair,List.getD_eq_getElem?_getD]
    simp [show i + 1 < s.length by omega,h]
  · rw [if_neg h]
    have hl : (s.drop (i + 1)).length ≤ 1 := by simp; omega
    match hm : s.drop (i + 1),hl with
    | [],_ => rfl
    | [_],_ => rfl
set_option maxHeartbeats 1000000 in
set_option maxRecDepth 20000 in
theorem p_escaped (s : Bytes) (i : Nat) (hi : i < s.length) (hs : s.length ≤ 9223372036854775807) : PC Tryz.V 108 [.str s,.int .i64 i] (.tup [.int .u8 (((escAt s i).getD 0).toNat : Int),.bool (escAt s i).isSome]) := by
  refine pc_of 3000 Tryz.func108 rfl Tryz.ntmps108 Tryz.results108 Tryz.call108 (by simp) (by simp [flat,flat.flatL]) (by simp [flat,flat.flatL]) ?_
  simp only [lawG,↓Xn,↓Xo,↓Xg,↓Xd,↓Xe,↓Xf,Tryz.VΓ,Tryz.Γs,Xp,Xi,Nat.reduceAdd,Nat.reduceSub,Nat.reduceLT,Nat.reduceLeDiff,reduceIte,reduceCtorEq,Nat.reduceEqDiff,implies_true,forall_const,lawV]
  unfold escAt
  rw [hexPair_drop]
  refine ⟨⟨by omega,by omega⟩,fun hl => ?_,fun hl => ?_⟩
  · have hl : i + 2 < s.length := (by simp at hl; omega)
    rw [if_pos hl]
    refine ⟨⟨by omega,by omega⟩,⟨by omega,by omega⟩,?_⟩
    (refine callV_pc (p_IsHex _) ?_; simp only [lawG,↓Xn,↓Xo,↓Xg,↓Xd,↓Xe,↓Xf,Tryz.VΓ,Tryz.Γs,Xp,Xi,Nat.reduceAdd,Nat.reduceSub,Nat.reduceLT,Nat.reduceLeDiff,reduceIte,reduceCtorEq,Nat.reduceEqDiff,implies_true,forall_const,lawV])
    refine ⟨fun ha => ⟨⟨by omega,by omega⟩,⟨by omega,by omega⟩,?_⟩,fun ha => ?_⟩
    · have ha : isHex (s.getD (i + 1) 0) = true := by simpa using ha
      (refine callV_pc (p_IsHex _) ?_; simp only [lawG,↓Xn,↓Xo,↓Xg,↓Xd,↓Xe,↓Xf,Tryz.VΓ,Tryz.Γs,Xp,Xi,Nat.reduceAdd,Nat.reduceSub,Nat.reduceLT,Nat.reduceLeDiff,reduceIte,reduceCtorEq,Nat.reduceEqDiff,implies_true,forall_const,lawV])
      refine ⟨fun hb => ?_,fun hb => ⟨⟨by omega,by omega⟩,⟨by omega,by omega⟩,?_⟩⟩
      · have hb : isHex (s.getD (i + 2) 0) = false := by simpa using hb
        rw [ha,hb]; rfl
      · have hb : isHex (s.getD (i + 2) 0) = true := by simpa using hb
        (refine callD_pc (p_digit _ ha) ?_; simp only [lawG,↓Xn,↓Xo,↓Xg,↓Xd,↓Xe,↓Xf,Tryz.VΓ,Tryz.Γs,Xp,Xi,Nat.reduceAdd,Nat.reduceSub,Nat.reduceLT,Nat.reduceLeDiff,reduceIte,reduceCtorEq,Nat.reduceEqDiff,implies_true,forall_const,lawV])
        refine ⟨by omega,⟨by omega,by omega⟩,⟨by omega,by omega⟩,?_⟩
        (refine callD_pc (p_digit _ hb) ?_; simp only [lawG,↓Xn,↓Xo,↓Xg,↓Xd,↓Xe,↓Xf,Tryz.VΓ,Tryz.Γs,Xp,Xi,Nat.reduceAdd,Nat.reduceSub,Nat.reduceLT,Nat.reduceLeDiff,reduceIte,reduceCtorEq,Nat.reduceEqDiff,implies_true,forall_const,lawV])
        refine ⟨(OkD_fast (by kernel_rfl)),?_⟩
        rw [unhex_bits _ _ ha hb,ha,hb]; rfl
    · have ha : isHex (s.getD (i + 1) 0) = false := by simpa using ha
      rw [ha]; rfl
  · have hl : ¬ i + 2 < s.length := (by simp at hl; omega)
    rw [if_neg hl]; rfl
theorem shr4 (c : UInt8) : shI .shr .u8 (c.toNat : Int) 4 = ((c.toNat / 16 : Nat) : Int) := by
  have := all256 (p := fun c => decide (shI .shr .u8 (c.toNat : Int) 4 = ((c.toNat / 16 : Nat) : Int))) (by decide +kernel) c
  simpa using this
theorem and15 (c : UInt8) : bitI .and .u8 (c.toNat : Int) 15 = ((c.toNat % 16 : Nat) : Int) := by
  have := all256 (p := fun c => decide (bitI .and .u8 (c.toNat : Int) 15 = ((c.toNat % 16 : Nat) : Int))) (by decide +kernel) c
  simpa using this
theorem digs_at : ∀ n,n < 16 → ([48,49,50,51,52,53,54,55,56,57,65,66,67,68,69,70] : Bytes).getD n 0 = hexU n := by decide
theorem esc_cells (c : UInt8) : (esc c).map u8S = [.int .u8 37,.int .u8 ((hexU (c.toNat / 16)).toNat : Int),.int .u8 ((hexU (c.toNat % 16)).toNat : Int)] := rfl
structure TxAt (bs : List Res) (i L : Nat) (x : SV) (l : Bytes) : Prop where
  box : bs[i]? = some (.cells [x] 126 true)
  sl : Sl 5 1 L x bs (l.map u8S) l.length
  lt : i < L
theorem TxAt.ne {bs : List Res} {i L j n : Nat} {l : Bytes} (h : TxAt bs i L (.o j n) l) : i ≠ j := by
  rcases h.sl with ⟨h1,-⟩ | ⟨j',h1,h2,-⟩
  · cases h1
  · cases h1; have := h.lt; omega
set_option maxRecDepth 20000 in
set_option maxHeartbeats 1000000 in
theorem sc_escape {bs : List Res} {i L : Nat} {x : SV} {l : Bytes} (h : TxAt bs i L x l) (hL : L ≤ bs.length) (hl : l.length ≤ 1000000) (c : UInt8) :
    SC Tryz.V 110 [.p i 0,.int .u8 c.toNat] bs (fun r b => r = .tup [] ∧ ∃ x',TxAt b i L x' (l ++ esc c) ∧ bs.length ≤ b.length ∧ ∀ k,k < L → k ≠ i → b[k]? = bs[k]?) := by
  have hil : i < bs.length := (List.getElem?_eq_some_iff.1 h.box).1
  have hc := c.toNat_lt
  have d1 := digs_at (c.toNat / 16) (by omega)
  have d2 := digs_at (c.toNat % 16) (by omega)
  have s1 := shr4 c
  have s2 := and15 c
  have hbox := h.box
  have ec := esc_cells c
  refine sc_of 3000 Tryz.func110 rfl Tryz.ntmps110 Tryz.results110 Tryz.call110 (by simp) (fun β β' hb => concL_within bs.length _ (by simp [within,within.withinL,hil]) β β' hb) ?_
  rcases h.sl with ⟨rfl,hc0,hn0⟩ | ⟨j,rfl,hLj,hj⟩
  · obtain rfl : l = [] := by simpa using hc0
    have ho : ∀ X,(bs ++ [X])[i]? = some (.cells [.nils] 126 true) := fun X => at_old hbox [X]
    have ho2 : ∀ X Y,(bs ++ [X] ++ [Y])[i]? = some (.cells [.nils] 126 true) := fun X Y => at_old (ho X) [Y]
    simp only [lawG,↓Xn,↓Xo,↓Xg,↓Xd,↓Xe,↓Xf,Tryz.VΓ,Tryz.Γs,Xp,Xi,Nat.reduceAdd,Nat.reduceSub,Nat.reduceLT,Nat.reduceLeDiff,reduceIte,reduceCtorEq,Nat.reduceEqDiff,implies_true,forall_const,lawV,hbox,s1,s2,Int.toNat_natCast,d1,d2,at_new,ho,ho2]
    rw [← ec]
    have n1 : ¬ bs.length = i := by omega
    have n2 : ∀ X,¬ (bs ++ [X]).length = i := fun X => by simp; omega
    refine ⟨by omega,⟨by omega,by omega⟩,⟨by omega,by omega⟩,by omega,⟨by unfold maxLen; omega,by omega⟩,?_,_,⟨List.getElem?_set_self (by simp; omega),.inr ⟨_,rfl,by simp; omega,?_⟩,h.lt⟩,by simp,fun k hk hki => ?_⟩
    · exact (by
      refine OkD_ren (fun n => if n = i then 0 else 1) ?_
      simp only [List.map_cons,List.map_nil,renRk,renT,reduceIte,n1,n2]
      exact OkD_fast (by kernel_rfl))
    · rw [List.getElem?_set_ne (fun e => n2 _ e.symm),at_new]; rfl
    · rw [List.getElem?_set_ne (fun e => hki e.symm),List.getElem?_append_left (by simp; omega),List.getElem?_append_left (by omega)]
  · have hij := h.ne
    have hjl : j < bs.length := (List.getElem?_eq_some_iff.1 hj).1
    have ho : ∀ X,(bs ++ [X])[j]? = some (.own (l.map u8S) 5 1 l.length true) := fun X => at_old hj [X]
    have ho2 : ∀ X Y,((bs ++ [X]).set j .gone ++ [Y])[i]? = some (.cells [.o j l.length] 126 true) := fun X Y => by
      rw [List.getElem?_append_left (by simp; omega),List.getElem?_set_ne hij.symm]; exact at_old hbox [X]
    simp only [lawG,↓Xn,↓Xo,↓Xg,↓Xd,↓Xe,↓Xf,Tryz.VΓ,Tryz.Γs,Xp,Xi,Nat.reduceAdd,Nat.reduceSub,Nat.reduceLT,Nat.reduceLeDiff,reduceIte,reduceCtorEq,Nat.reduceEqDiff,implies_true,forall_const,lawV,hbox,s1,s2,Int.toNat_natCast,d1,d2,at_new,ho,ho2]
    rw [← ec,← List.map_append]
    have n1 : ¬ bs.length = i := by omega
    have n2 : ∀ X,¬ (bs ++ [X]).length = i := fun X => by simp; omega
    have n3 : ¬ j = i := fun e => hij e.symm
    refine ⟨by omega,⟨by omega,by omega⟩,⟨by omega,by omega⟩,by omega,⟨by unfold maxLen; omega,by omega⟩,?_,_,⟨List.getElem?_set_self (by simp; omega),.inr ⟨(bs ++ [Res.own ((esc c).map u8S) 5 1 3 true]).length,by simp [esc],by simp; omega,?_⟩,h.lt⟩,by simp; omega,fun k hk hki => ?_⟩
    · exact (by
      refine OkD_ren (fun n => if n = i then 0 else 1) ?_
      simp only [List.map_cons,List.map_nil,renRk,renT,reduceIte,n1,n2,n3]
      exact OkD_fast (by kernel_rfl))
    · rw [List.getElem?_set_ne (fun e => n2 _ e.symm),List.getElem?_append_right (by simp)]; simp [esc]
    · rw [List.getElem?_set_ne (fun e => hki e.symm),List.getElem?_append_left (by simp; omega),List.getElem?_set_ne (by omega),List.getElem?_append_left (by omega)]
theorem txt_one {bs : List Res} {i L : Nat} {x : SV} {l : Bytes} (h : TxAt bs i L x l) (hL : L ≤ bs.length) (c : UInt8) (hx : x = .nils) : TxAt ((bs ++ [Res.own [u8S c] 5 1 1 true] ++ [Res.own [u8S c] 5 1 1 true]).set i (Res.cells [.o (bs ++ [Res.own [u8S c] 5 1 1 true]).length 1] 126 true)) i L (.o (bs ++ [Res.own [u8S c] 5 1 1 true]).length 1) (l ++ [c]) := by
  have hil : i < bs.length := (List.getElem?_eq_some_iff.1 h.box).1
  have hl : l = [] := by
    rcases h.sl with ⟨-,h1,-⟩ | ⟨j,h1,-,-⟩
    · simpa using h1
    · rw [hx] at h1; cases h1
  subst hl
  have n2 : ∀ X,¬ (bs ++ [X]).length = i := fun X => by simp; omega
  refine ⟨List.getElem?_set_self (by simp; omega),.inr ⟨_,rfl,by simp; omega,?_⟩,h.lt⟩
  rw [List.getElem?_set_ne (fun e => n2 _ e.symm),at_new]
  rfl
theorem txt_more {bs : List Res} {i L j : Nat} {l : Bytes} (h : TxAt bs i L (.o j l.length) l) (hL : L ≤ bs.length) (c : UInt8) (hLj : L ≤ j) : TxAt (((bs ++ [Res.own [u8S c] 5 1 1 true]).set j .gone ++ [Res.own (l.map u8S ++ [u8S c]) 5 1 (l.length + 1) true]).set i (Res.cells [.o (bs ++ [Res.own [u8S c] 5 1 1 true]).length (l.length + 1)] 126 true)) i L (.o (bs ++ [Res.own [u8S c] 5 1 1 true]).length (l.length + 1)) (l ++ [c]) := by
  have hil : i < bs.length := (List.getElem?_eq_some_iff.1 h.box).1
  refine ⟨List.getElem?_set_self (by simp; omega),.inr ⟨(bs ++ [Res.own [u8S c] 5 1 1 true]).length,by simp,by simp; omega,?_⟩,h.lt⟩
  rw [List.getElem?_set_ne (by simp; omega),List.getElem?_append_right (by simp)]
  simp
def NoI (also s : Bytes) (σ : St) : Prop := ∃ (i : Nat) (x : SV) (d : Bytes),lk 0 σ.t = some (.str s) ∧ lk 1 σ.t = some (.str also) ∧ lk 6 σ.t = some (.p 0 0) ∧ lk 7 σ.t = some (.int .i64 i) ∧ i ≤ s.length ∧ d.length ≤ 3 * i ∧ 1 ≤ σ.b.length ∧ TxAt σ.b 0 1 x d ∧ comb d (normU also (units (s.drop i))) = normU also (units s)
def NoM (s : Bytes) (σ : St) : Nat := match lk 7 σ.t with
  | some (.int _ k) => s.length - k.toNat
  | _ => 0
theorem NoM_eq {s : Bytes} {σ : St} {k : Nat} (h : lk 7 σ.t = some (.int .i64 k)) : NoM s σ = s.length - k := by simp [NoM,h]
theorem no_mk {also s : Bytes} {t : List (Nat × SV)} {b : List Res} {i i' : Nat} {x : SV} {d : Bytes} (h0 : lk 0 t = some (.str s)) (h1 : lk 1 t = some (.str also)) (h6 : lk 6 t = some (.p 0 0)) (h7 : lk 7 t = some (.int .i64 i')) (h : i' ≤ s.length ∧ d.length ≤ 3 * i') (hb : 1 ≤ b.length) (ht : TxAt b 0 1 x d)
    (hn : comb d (normU also (units (s.drop i'))) = normU also (units s)) (hlt : i < i') : NoI also s ⟨t,b⟩ ∧ NoM s ⟨t,b⟩ < s.length - i :=
  ⟨⟨i',x,d,h0,h1,h6,h7,h.1,h.2,hb,ht,hn⟩,by rw [NoM_eq h7]; omega⟩
theorem units_step {s : Bytes} {i : Nat} (hi : i < s.length) : units (s.drop i) = if s[i] = 37 then (match escAt s i with
    | some _ => (match hexPair (s.drop (i + 1)) with
      | some (a,b,_) => .hex a b :: units (s.drop (i + 3))
      | none => [.bad])
    | none => [.bad]) else .lit s[i] :: units (s.drop (i + 1)) := by
  rw [List.drop_eq_getElem_cons hi]
  by_cases h : s[i] = 37
  · rw [if_pos h,h]
    unfold escAt
    cases hp : hexPair (s.drop (i + 1)) with
    | none => simp only [Option.map_none]; exact units_bad hp
    | some x =>
      obtain ⟨a,b,r⟩ := x
      obtain ⟨h1,h2,h3⟩ := hexPair_some hp
      simp only [Option.map_some]
      rw [h1,units_hex h2 h3]
      congr 2
      have := congrArg (List.drop 2) h1
      rw [List.drop_drop] at this
      exact this.symm
  · rw [if_neg h,units_lit h]
set_option maxRecDepth 20000 in
set_option maxHeartbeats 4000000 in
theorem p_Normalize (s also : Bytes) (ha : also.length ≤ 1000) : PC Tryz.V 92 [.str s,.str also] (.tup [.str (pctNorm also s).1,.int .i64 (pctNorm also s).2]) := by
  refine pc_of 3000 Tryz.func92 rfl Tryz.ntmps92 Tryz.results92 Tryz.call92 (by simp) (by simp [flat,flat.flatL]) (by simp [flat,flat.flatL]) ?_
  simp only [lawG,↓Xn,↓Xo,↓Xg,↓Xd,↓Xe,↓Xf,Tryz.VΓ,Tryz.Γs,Xp,Xi,Nat.reduceAdd,Nat.reduceSub,Nat.reduceLT,Nat.reduceLeDiff,reduceIte,reduceCtorEq,Nat.reduceEqDiff,implies_true,forall_const,lawV]
  unfold pctNorm
  refine ⟨fun hl => ?_,fun hl => ?_⟩
  · have hl : 16384 < s.length := (by simp at hl; omega)
    rw [if_pos hl]
  have hl : s.length ≤ 16384 := (by simp at hl; omega)
  rw [if_neg (by omega)]
  refine loopV_mk (NoI also s) (NoM s) ⟨0,.nils,[],rfl,rfl,rfl,rfl,by omega,by simp,by simp,⟨rfl,.inl ⟨rfl,rfl,rfl⟩,by omega⟩,comb_nil _ (normU_err also _)⟩ ?_
  rintro ⟨t,b⟩ ⟨i,x,d,h0,h1,h6,h7,hi,hd,hbl,ht,hn⟩
  simp only at h0 h1 h6 h7 hbl ht
  rw [NoM_eq h7]
  have hbox := ht.box
  by_cases hlt : i < s.length
  · have hu := units_step hlt
    have hg : s.getD i 0 = s[i] := by simp [List.getD,hlt]
    simp only [lawG,↓Xn,↓Xo,↓Xg,↓Xd,↓Xe,↓Xf,Tryz.VΓ,Tryz.Γs,Xp,Xi,Nat.reduceAdd,Nat.reduceSub,Nat.reduceLT,Nat.reduceLeDiff,reduceIte,reduceCtorEq,Nat.reduceEqDiff,implies_true,forall_const,lawV,h0,h1,h6,h7]
    refine ⟨fun _ => ⟨⟨by omega,by omega⟩,fun hc => ?_,fun hc => ?_⟩,fun h => absurd h (by simp; omega)⟩
    · rw [byte_is (n := 37) hlt 37 rfl] at hc
      rw [if_pos (by simpa using hc)] at hu
      have pe := p_escaped s i hlt (by omega)
      cases he : escAt s i with
      | none =>
        rw [he] at pe hu
        simp only at hu
        rw [hu] at hn
        have hres : normU also (units s) = ([],2) := by rw [← hn]; rfl
        rw [hres]
        (refine callV_pc pe ?_; simp only [lawG,↓Xn,↓Xo,↓Xg,↓Xd,↓Xe,↓Xf,Tryz.VΓ,Tryz.Γs,Xp,Xi,Nat.reduceAdd,Nat.reduceSub,Nat.reduceLT,Nat.reduceLeDiff,reduceIte,reduceCtorEq,Nat.reduceEqDiff,implies_true,forall_const,lawV,h0,h1,h6,h7,Option.isSome_none])
      | some v =>
        rw [he] at pe hu
        have hx := he
        unfold escAt at hx
        obtain ⟨⟨a,bb,r⟩,hp,hv⟩ := Option.map_eq_some_iff.1 hx
        simp only at hv
        rw [hp] at hu
        simp only at hu
        have hi3 : i + 3 ≤ s.length := by
          obtain ⟨h1,-,-⟩ := hexPair_some hp
          have := congrArg List.length h1
          simp at this
          omega
        have hn2 : comb (d ++ normB v) (normU also (units (s.drop (i + 2 + 1)))) = normU also (units s) := by
          rw [← hn,hu,normU,comb_comb,hv]
        simp only [Option.getD_some,Option.isSome_some] at pe
        (refine callV_pc pe ?_; simp only [lawG,↓Xn,↓Xo,↓Xg,↓Xd,↓Xe,↓Xf,Tryz.VΓ,Tryz.Γs,Xp,Xi,Nat.reduceAdd,Nat.reduceSub,Nat.reduceLT,Nat.reduceLeDiff,reduceIte,reduceCtorEq,Nat.reduceEqDiff,implies_true,forall_const,lawV,h0,h1,h6,h7])
        refine ⟨⟨by omega,by omega⟩,?_⟩
        (refine callV_pc (p_IsUnreserved v) ?_; simp only [lawG,↓Xn,↓Xo,↓Xg,↓Xd,↓Xe,↓Xf,Tryz.VΓ,Tryz.Γs,Xp,Xi,Nat.reduceAdd,Nat.reduceSub,Nat.reduceLT,Nat.reduceLeDiff,reduceIte,reduceCtorEq,Nat.reduceEqDiff,implies_true,forall_const,lawV,h0,h1,h6,h7])
        refine ⟨fun hq => ?_,fun hq => ?_⟩
        · have hn3 : comb (d ++ [v]) (normU also (units (s.drop (i + 2 + 1)))) = normU also (units s) := by
            rw [← hn2]; unfold normB; rw [if_pos hq]
          (rcases ht.sl with ⟨rfl,hc0,hn0⟩ | ⟨j,rfl,hLj,hj⟩
           · have ho : ∀ X,(b ++ [X])[0]? = some (.cells [.nils] 126 true) := fun X => at_old hbox [X]
             have ho2 : ∀ X Y,(b ++ [X] ++ [Y])[0]? = some (.cells [.nils] 126 true) := fun X Y => at_old (ho X) [Y]
             simp only [lawG,↓Xn,↓Xo,↓Xg,↓Xd,↓Xe,↓Xf,Tryz.VΓ,Tryz.Γs,Xp,Xi,Nat.reduceAdd,Nat.reduceSub,Nat.reduceLT,Nat.reduceLeDiff,reduceIte,reduceCtorEq,Nat.reduceEqDiff,implies_true,forall_const,lawV,h0,h1,h6,h7,hbox,at_new,ho,ho2]
             refine ⟨by omega,⟨by unfold maxLen; omega,by omega⟩,⟨by omega,by omega⟩,no_mk (i' := i + 2 + 1) (x := .o (b ++ [Res.own [u8S (v)] 5 1 1 true]).length 1) (d := d ++ [v]) h0 h1 h6 (by simp only [lk,reduceIte,Option.some.injEq,SV.int.injEq,true_and]; omega) ⟨by omega,by simp; omega⟩ (by simp) (txt_one ht hbl (v) rfl) (hn3) (by omega)⟩
           · have hlj : d.length = d.length := rfl
             have ho : ∀ X,(b ++ [X])[j]? = some (.own (d.map u8S) 5 1 d.length true) := fun X => at_old hj [X]
             have ho2 : ∀ X Y,((b ++ [X]).set j .gone ++ [Y])[0]? = some (.cells [.o j d.length] 126 true) := fun X Y => by
               rw [List.getElem?_append_left (by simp),List.getElem?_set_ne (by omega)]; exact at_old hbox [X]
             simp only [lawG,↓Xn,↓Xo,↓Xg,↓Xd,↓Xe,↓Xf,Tryz.VΓ,Tryz.Γs,Xp,Xi,Nat.reduceAdd,Nat.reduceSub,Nat.reduceLT,Nat.reduceLeDiff,reduceIte,reduceCtorEq,Nat.reduceEqDiff,implies_true,forall_const,lawV,h0,h1,h6,h7,hbox,at_new,ho,ho2]
             refine ⟨by omega,⟨by unfold maxLen; omega,by omega⟩,⟨by omega,by omega⟩,no_mk (i' := i + 2 + 1) (x := .o (b ++ [Res.own [u8S (v)] 5 1 1 true]).length (d.length + 1)) (d := d ++ [v]) h0 h1 h6 (by simp only [lk,reduceIte,Option.some.injEq,SV.int.injEq,true_and]; omega) ⟨by omega,by simp; omega⟩ (by simp) (txt_more ht hbl (v) hLj) (hn3) (by omega)⟩)
        · have hn3 : comb (d ++ esc v) (normU also (units (s.drop (i + 2 + 1)))) = normU also (units s) := by
            rw [← hn2]; unfold normB; rw [if_neg (by simp [hq])]
          refine callV_sc (sc_escape ht hbl (by omega) v) ?_
          rintro r b' ⟨rfl,x',ht',hbl',-⟩
          simp only [lawG,↓Xn,↓Xo,↓Xg,↓Xd,↓Xe,↓Xf,Tryz.VΓ,Tryz.Γs,Xp,Xi,Nat.reduceAdd,Nat.reduceSub,Nat.reduceLT,Nat.reduceLeDiff,reduceIte,reduceCtorEq,Nat.reduceEqDiff,implies_true,forall_const,lawV,h0,h1,h6,h7]
          exact ⟨⟨by omega,by omega⟩,no_mk (i' := i + 2 + 1) (d := d ++ esc v) h0 h1 h6 (by simp only [lk,reduceIte,Option.some.injEq,SV.int.injEq,true_and]; omega) ⟨by omega,by simp [esc]; omega⟩ (by omega) ht' hn3 (by omega)⟩
    · rw [byte_is (n := 37) hlt 37 rfl] at hc
      rw [if_neg (by simpa using hc)] at hu
      rw [hu,normU] at hn
      rw [hg]
      have hn2 : keepB also s[i] = true → comb (d ++ [s[i]]) (normU also (units (s.drop (i + 1)))) = normU also (units s) := fun hk => by
        rw [← hn,if_pos hk,comb_comb]
      (refine callV_pc (p_IsUnreserved s[i]) ?_; simp only [lawG,↓Xn,↓Xo,↓Xg,↓Xd,↓Xe,↓Xf,Tryz.VΓ,Tryz.Γs,Xp,Xi,Nat.reduceAdd,Nat.reduceSub,Nat.reduceLT,Nat.reduceLeDiff,reduceIte,reduceCtorEq,Nat.reduceEqDiff,implies_true,forall_const,lawV,h0,h1,h6,h7,hg])
      refine ⟨fun hq => ?_,fun hq => ?_⟩
      · (refine callV_pc (p_IndexByte also s[i]) ?_; simp only [lawG,↓Xn,↓Xo,↓Xg,↓Xd,↓Xe,↓Xf,Tryz.VΓ,Tryz.Γs,Xp,Xi,Nat.reduceAdd,Nat.reduceSub,Nat.reduceLT,Nat.reduceLeDiff,reduceIte,reduceCtorEq,Nat.reduceEqDiff,implies_true,forall_const,lawV,h0,h1,h6,h7,hg])
        rw [idx_geq]
        refine ⟨fun hq2 => ?_,fun hq2 => ?_⟩
        · have hk : keepB also s[i] = true := by unfold keepB; rw [hq2]; simp
          (rcases ht.sl with ⟨rfl,hc0,hn0⟩ | ⟨j,rfl,hLj,hj⟩
           · have ho : ∀ X,(b ++ [X])[0]? = some (.cells [.nils] 126 true) := fun X => at_old hbox [X]
             have ho2 : ∀ X Y,(b ++ [X] ++ [Y])[0]? = some (.cells [.nils] 126 true) := fun X Y => at_old (ho X) [Y]
             simp only [lawG,↓Xn,↓Xo,↓Xg,↓Xd,↓Xe,↓Xf,Tryz.VΓ,Tryz.Γs,Xp,Xi,Nat.reduceAdd,Nat.reduceSub,Nat.reduceLT,Nat.reduceLeDiff,reduceIte,reduceCtorEq,Nat.reduceEqDiff,implies_true,forall_const,lawV,h0,h1,h6,h7,hbox,at_new,ho,ho2]
             refine ⟨by omega,⟨by unfold maxLen; omega,by omega⟩,⟨by omega,by omega⟩,no_mk (i' := i + 1) (x := .o (b ++ [Res.own [u8S (s[i])] 5 1 1 true]).length 1) (d := d ++ [s[i]]) h0 h1 h6 (by simp only [lk,reduceIte,Option.some.injEq,SV.int.injEq,true_and]; omega) ⟨by omega,by simp; omega⟩ (by simp) (txt_one ht hbl (s[i]) rfl) (hn2 hk) (by omega)⟩
           · have hlj : d.length = d.length := rfl
             have ho : ∀ X,(b ++ [X])[j]? = some (.own (d.map u8S) 5 1 d.length true) := fun X => at_old hj [X]
             have ho2 : ∀ X Y,((b ++ [X]).set j .gone ++ [Y])[0]? = some (.cells [.o j d.length] 126 true) := fun X Y => by
               rw [List.getElem?_append_left (by simp),List.getElem?_set_ne (by omega)]; exact at_old hbox [X]
             simp only [lawG,↓Xn,↓Xo,↓Xg,↓Xd,↓Xe,↓Xf,Tryz.VΓ,Tryz.Γs,Xp,Xi,Nat.reduceAdd,Nat.reduceSub,Nat.reduceLT,Nat.reduceLeDiff,reduceIte,reduceCtorEq,Nat.reduceEqDiff,implies_true,forall_const,lawV,h0,h1,h6,h7,hbox,at_new,ho,ho2]
             refine ⟨by omega,⟨by unfold maxLen; omega,by omega⟩,⟨by omega,by omega⟩,no_mk (i' := i + 1) (x := .o (b ++ [Res.own [u8S (s[i])] 5 1 1 true]).length (d.length + 1)) (d := d ++ [s[i]]) h0 h1 h6 (by simp only [lk,reduceIte,Option.some.injEq,SV.int.injEq,true_and]; omega) ⟨by omega,by simp; omega⟩ (by simp) (txt_more ht hbl (s[i]) hLj) (hn2 hk) (by omega)⟩)
        · have hk : ¬ keepB also s[i] = true := by unfold keepB; rw [hq,hq2]; simp
          rw [if_neg hk] at hn
          have hres : normU also (units s) = ([],1) := by rw [← hn]; rfl
          rw [hres]
      · have hk : keepB also s[i] = true := by unfold keepB; rw [hq]; simp
        (rcases ht.sl with ⟨rfl,hc0,hn0⟩ | ⟨j,rfl,hLj,hj⟩
         · have ho : ∀ X,(b ++ [X])[0]? = some (.cells [.nils] 126 true) := fun X => at_old hbox [X]
           have ho2 : ∀ X Y,(b ++ [X] ++ [Y])[0]? = some (.cells [.nils] 126 true) := fun X Y => at_old (ho X) [Y]
           simp only [lawG,↓Xn,↓Xo,↓Xg,↓Xd,↓Xe,↓Xf,Tryz.VΓ,Tryz.Γs,Xp,Xi,Nat.reduceAdd,Nat.reduceSub,Nat.reduceLT,Nat.reduceLeDiff,reduceIte,reduceCtorEq,Nat.reduceEqDiff,implies_true,forall_const,lawV,h0,h1,h6,h7,hbox,at_new,ho,ho2]
           refine ⟨by omega,⟨by unfold maxLen; omega,by omega⟩,⟨by omega,by omega⟩,no_mk (i' := i + 1) (x := .o (b ++ [Res.own [u8S (s[i])] 5 1 1 true]).length 1) (d := d ++ [s[i]]) h0 h1 h6 (by simp only [lk,reduceIte,Option.some.injEq,SV.int.injEq,true_and]; omega) ⟨by omega,by simp; omega⟩ (by simp) (txt_one ht hbl (s[i]) rfl) (hn2 hk) (by omega)⟩
         · have hlj : d.length = d.length := rfl
           have ho : ∀ X,(b ++ [X])[j]? = some (.own (d.map u8S) 5 1 d.length true) := fun X => at_old hj [X]
           have ho2 : ∀ X Y,((b ++ [X]).set j .gone ++ [Y])[0]? = some (.cells [.o j d.length] 126 true) := fun X Y => by
             rw [List.getElem?_append_left (by simp),List.getElem?_set_ne (by omega)]; exact at_old hbox [X]
           simp only [lawG,↓Xn,↓Xo,↓Xg,↓Xd,↓Xe,↓Xf,Tryz.VΓ,Tryz.Γs,Xp,Xi,Nat.reduceAdd,Nat.reduceSub,Nat.reduceLT,Nat.reduceLeDiff,reduceIte,reduceCtorEq,Nat.reduceEqDiff,implies_true,forall_const,lawV,h0,h1,h6,h7,hbox,at_new,ho,ho2]
           refine ⟨by omega,⟨by unfold maxLen; omega,by omega⟩,⟨by omega,by omega⟩,no_mk (i' := i + 1) (x := .o (b ++ [Res.own [u8S (s[i])] 5 1 1 true]).length (d.length + 1)) (d := d ++ [s[i]]) h0 h1 h6 (by simp only [lk,reduceIte,Option.some.injEq,SV.int.injEq,true_and]; omega) ⟨by omega,by simp; omega⟩ (by simp) (txt_more ht hbl (s[i]) hLj) (hn2 hk) (by omega)⟩)
  · have hie : i = s.length := by omega
    subst hie
    rw [List.drop_length,units_nil] at hn
    have hres : normU also (units s) = (d,0) := by rw [← hn]; simp [normU,comb]
    rw [hres]
    rcases ht.sl with ⟨rfl,hc0,hn0⟩ | ⟨j,rfl,hLj,hj⟩
    · obtain rfl : d = [] := by simpa using hc0
      simp only [lawG,↓Xn,↓Xo,↓Xg,↓Xd,↓Xe,↓Xf,Tryz.VΓ,Tryz.Γs,Xp,Xi,Nat.reduceAdd,Nat.reduceSub,Nat.reduceLT,Nat.reduceLeDiff,reduceIte,reduceCtorEq,Nat.reduceEqDiff,implies_true,forall_const,lawV,h0,h1,h6,h7,hbox]
      exact fun h => (by simp at h)
    · simp only [lawG,↓Xn,↓Xo,↓Xg,↓Xd,↓Xe,↓Xf,Tryz.VΓ,Tryz.Γs,Xp,Xi,Nat.reduceAdd,Nat.reduceSub,Nat.reduceLT,Nat.reduceLeDiff,reduceIte,reduceCtorEq,Nat.reduceEqDiff,implies_true,forall_const,lawV,h0,h1,h6,h7,hbox,hj]
      refine ⟨fun h => absurd h (by simp),fun _ => ⟨isU8_map d,?_⟩⟩
      rw [unU8_map]
end Go.Proofs.YtejfjmcjicpodaaGreatDoor
/- The walks of package uri: schemes. -/
set_option linter.all false
namespace Go.Proofs.YtejfjmcjicpodaaGreatDoor
open Go.RowKit Wf
attribute [local go_sem] ex_list app_list get_list
end Go.Proofs.YtejfjmcjicpodaaGreatDoor
/- The walks of package uri. -/
set_option linter.all false
set_option maxRecDepth 20000
namespace Go.Proofs.YtejfjmcjicpodaaGreatDoor
open Go Vc Go.RowKit Wf
set_option linter.unusedSimpArgs false
end Go.Proofs.YtejfjmcjicpodaaGreatDoor
/- The walks of package uri: merge,Resolve. -/
set_option linter.all false
set_option maxRecDepth 20000
namespace Go.Proofs.YtejfjmcjicpodaaGreatDoor
open Go Vc Go.RowKit Wf
set_option linter.unusedSimpArgs false
end Go.Proofs.YtejfjmcjicpodaaGreatDoor
/- The walks of the references 01 and 06. -/
set_option linter.all false
set_option maxRecDepth 20000
namespace Go.Proofs.YtejfjmcjicpodaaGreatDoor
open Go Vc Go.RowKit Wf
set_option linter.unusedSimpArgs false
theorem pre_hit {p : UInt8 → Bool} {s : Bytes} {k : Nat} (hk : k < s.length) (h : k ≤ pre p s) (hp : p s[k] = true) : pre p s = k := by
  rcases Nat.lt_or_ge k (pre p s) with h1 | h1
  · rw [pre_get h1 hk] at hp; cases hp
  · omega
theorem pre_miss {p : UInt8 → Bool} {s : Bytes} {k : Nat} (hk : k < s.length) (h : k ≤ pre p s) (hp : p s[k] = false) : k + 1 ≤ pre p s := by
  rcases Nat.lt_or_ge k (pre p s) with h1 | h1
  · exact h1
  · have e : pre p s = k := by omega
    have h2 := pre_at (p := p) (l := s) (by omega)
    simp only [e] at h2
    rw [hp] at h2; cases h2
theorem p_r1_In (c : UInt8) (set : Bytes) (ht : set.length ≤ 4294967281) : PC Tryz.V 79 [.int .u8 c.toNat,.str set] (.bool (set.contains c)) := by
  refine pc_of 3000 Tryz.func79 rfl Tryz.ntmps79 Tryz.results79 Tryz.call79 (by simp) (by simp [flat,flat.flatL]) (by simp [flat,flat.flatL]) ?_
  simp only [lawG,↓Xn,↓Xo,↓Xg,↓Xd,↓Xe,↓Xf,Tryz.VΓ,Tryz.Γs,Xp,Xi,Nat.reduceAdd,Nat.reduceSub,Nat.reduceLT,Nat.reduceLeDiff,reduceIte,reduceCtorEq,Nat.reduceEqDiff,implies_true,forall_const,lawV]
  refine loopV_mk (fun σ => ∃ k : Nat,k ≤ set.length ∧ (set.take k).contains c = false ∧ lk 0 σ.t = some (.int .u8 c.toNat) ∧ lk 1 σ.t = some (.str set) ∧ lk 4 σ.t = some (.bool false) ∧ lk 5 σ.t = some (.int .i64 k)) (fun σ => set.length - lkI 5 σ) ⟨0,by omega,rfl,rfl,rfl,rfl,rfl⟩ ?_
  rintro ⟨t,b⟩ ⟨k,hk,hc,h0,h1,h4,h5⟩
  simp only at h0 h1 h4 h5
  rw [lkI_eq h5]
  simp only [lawG,↓Xn,↓Xo,↓Xg,↓Xd,↓Xe,↓Xf,Tryz.VΓ,Tryz.Γs,Xp,Xi,Nat.reduceAdd,Nat.reduceSub,Nat.reduceLT,Nat.reduceLeDiff,reduceIte,reduceCtorEq,Nat.reduceEqDiff,implies_true,forall_const,lawV,h0,h1,h4,h5]
  refine ⟨fun h => ?_,fun h => ?_⟩
  · have hk' : k < set.length := by simpa using h
    rw [byte_is (n := c.toNat) hk' c rfl]
    refine ⟨by omega,fun e => ?_,fun e => ⟨by omega,⟨k + 1,by omega,?_,by simp⟩,by rw [lkI_eq rfl]; omega⟩⟩
    · rw [show set.contains c = true from List.contains_iff_mem.2 (by rw [← beq_iff_eq.1 e]; exact List.getElem_mem hk')]
    · apply Bool.eq_false_iff.2
      intro hh
      rw [List.contains_iff_mem,List.take_succ_eq_append_getElem hk',List.mem_append] at hh
      rcases hh with hh | hh
      · exact absurd (List.contains_iff_mem.2 hh) (by rw [hc]; simp)
      · have hh := List.mem_singleton.1 hh
        rw [← hh] at e
        simp at e
  · have : k = set.length := by simp at h; omega
    subst this
    rw [List.take_length] at hc
    rw [hc]
theorem p_r1_Prefix (s p : Bytes) : PC Tryz.V 69 [.str s,.str p] (.bool (Lib.hasPrefix s p)) := by
  refine pc_of 3000 Tryz.func69 rfl Tryz.ntmps69 Tryz.results69 Tryz.call69 (by simp) (by simp [flat,flat.flatL]) (by simp [flat,flat.flatL]) ?_
  simp only [lawG,↓Xn,↓Xo,↓Xg,↓Xd,↓Xe,↓Xf,Tryz.VΓ,Tryz.Γs,Xp,Xi,Nat.reduceAdd,Nat.reduceSub,Nat.reduceLT,Nat.reduceLeDiff,reduceIte,reduceCtorEq,Nat.reduceEqDiff,implies_true,forall_const,lawV]
  have e : Lib.hasPrefix s p = (s.take p.length == p) := by
    rw [Bool.eq_iff_iff,Lib.hasPrefix,List.isPrefixOf_iff_prefix,List.prefix_iff_eq_take,beq_iff_eq]
    exact eq_comm
  refine ⟨fun h => ⟨by simp at h; omega,by rw [e]⟩,fun h => ?_⟩
  rw [e,show (s.take p.length == p) = false from beq_eq_false_iff_ne.2 fun q => by
    have := congrArg List.length q
    simp at h this
    omega]
set_option maxHeartbeats 2000000 in
theorem p_r1_Index (s set : Bytes) (hs : s.length ≤ 4294967281) (ht : set.length ≤ 4294967281) : PC Tryz.V 70 [.str s,.str set] (.int .i64 (pre (set.contains ·) s)) := by
  refine pc_of 3000 Tryz.func70 rfl Tryz.ntmps70 Tryz.results70 Tryz.call70 (by simp) (by simp [flat,flat.flatL]) (by simp [flat,flat.flatL]) ?_
  simp only [lawG,↓Xn,↓Xo,↓Xg,↓Xd,↓Xe,↓Xf,Tryz.VΓ,Tryz.Γs,Xp,Xi,Nat.reduceAdd,Nat.reduceSub,Nat.reduceLT,Nat.reduceLeDiff,reduceIte,reduceCtorEq,Nat.reduceEqDiff,implies_true,forall_const,lawV]
  refine loopV_mk (fun σ => ∃ k : Nat,k ≤ s.length ∧ k ≤ pre (set.contains ·) s ∧ lk 0 σ.t = some (.str s) ∧ lk 1 σ.t = some (.str set) ∧ lk 5 σ.t = some (.int .i64 k)) (fun σ => s.length - lkI 5 σ) ⟨0,by omega,by omega,rfl,rfl,rfl⟩ ?_
  rintro ⟨t,b⟩ ⟨k,hk,hc,h0,h1,h5⟩
  simp only at h0 h1 h5
  rw [lkI_eq h5]
  simp only [lawG,↓Xn,↓Xo,↓Xg,↓Xd,↓Xe,↓Xf,Tryz.VΓ,Tryz.Γs,Xp,Xi,Nat.reduceAdd,Nat.reduceSub,Nat.reduceLT,Nat.reduceLeDiff,reduceIte,reduceCtorEq,Nat.reduceEqDiff,implies_true,forall_const,lawV,h0,h1,h5]
  have hpl := pre_le (set.contains ·) s
  refine ⟨fun h => ?_,fun h => ?_⟩
  · have hk' : k < s.length := by simpa using h
    have hin := p_r1_In (s.getD k 0) set ht
    refine ⟨by omega,?_⟩
    (refine callV_pc (hin) ?_; simp only [lawG,↓Xn,↓Xo,↓Xg,↓Xd,↓Xe,↓Xf,Tryz.VΓ,Tryz.Γs,Xp,Xi,Nat.reduceAdd,Nat.reduceSub,Nat.reduceLT,Nat.reduceLeDiff,reduceIte,reduceCtorEq,Nat.reduceEqDiff,implies_true,forall_const,lawV,h0,h1,h5])
    rw [show s.getD k 0 = s[k] by simp [List.getD,hk']]
    refine ⟨fun e => ?_,fun e => ⟨by omega,⟨k + 1,by omega,pre_miss hk' hc e,by simp⟩,by rw [lkI_eq rfl]; omega⟩⟩
    rw [pre_hit hk' hc e]
  · have : k = s.length := by simp at h; omega
    rw [show pre (set.contains ·) s = s.length by omega]
end Go.Proofs.YtejfjmcjicpodaaGreatDoor
/- The walks of reference 06: scheme,Split,merged,Resolve. -/
set_option linter.all false
set_option maxRecDepth 20000
namespace Go.Proofs.YtejfjmcjicpodaaGreatDoor
open Go Vc Go.RowKit Wf
set_option linter.unusedSimpArgs false
theorem p_r1_IsAlpha (c : UInt8) : PC Tryz.V 88 [.int .u8 c.toNat] (.bool (isAlpha c)) := by
  refine pc_of 3000 Tryz.func88 rfl Tryz.ntmps88 Tryz.results88 Tryz.call88 (by simp) (by simp [flat,flat.flatL]) (by simp [flat,flat.flatL]) ?_
  simp only [lawG,↓Xn,↓Xo,↓Xg,↓Xd,↓Xe,↓Xf,Tryz.VΓ,Tryz.Γs,Xp,Xi,Nat.reduceAdd,Nat.reduceSub,Nat.reduceLT,Nat.reduceLeDiff,reduceIte,reduceCtorEq,Nat.reduceEqDiff,implies_true,forall_const,lawV]
  unfold isAlpha
  by_cases h1 : 65 ≤ c.toNat <;> by_cases h2 : c.toNat ≤ 90 <;> by_cases h3 : 97 ≤ c.toNat <;> by_cases h4 : c.toNat ≤ 122 <;> simp [h1,h2,h3,h4] <;> omega
theorem p_r1_IsDigit (c : UInt8) : PC Tryz.V 87 [.int .u8 c.toNat] (.bool (isDigit c)) := by
  refine pc_of 3000 Tryz.func87 rfl Tryz.ntmps87 Tryz.results87 Tryz.call87 (by simp) (by simp [flat,flat.flatL]) (by simp [flat,flat.flatL]) ?_
  simp only [lawG,↓Xn,↓Xo,↓Xg,↓Xd,↓Xe,↓Xf,Tryz.VΓ,Tryz.Γs,Xp,Xi,Nat.reduceAdd,Nat.reduceSub,Nat.reduceLT,Nat.reduceLeDiff,reduceIte,reduceCtorEq,Nat.reduceEqDiff,implies_true,forall_const,lawV]
  unfold isDigit
  by_cases h1 : 48 ≤ c.toNat <;> by_cases h2 : c.toNat ≤ 57 <;> simp [h1,h2] <;> omega
theorem not_t {b : Bool} (h : (!b) = true) : b = false := by cases b <;> simp at h ⊢
theorem not_f {b : Bool} (h : (!b) = false) : b = true := by cases b <;> simp at h ⊢
end Go.Proofs.YtejfjmcjicpodaaGreatDoor
/- The walks of the reference for package percent. -/
set_option linter.all false
set_option maxRecDepth 20000
namespace Go.Proofs.YtejfjmcjicpodaaGreatDoor
open Go Vc Go.RowKit Wf
theorem p_r1_IsHex (c : UInt8) : PC Tryz.V 114 [.int .u8 c.toNat] (.bool (isHex c)) :=
  ⟨Tryz.call114,by simp [flat,flat.flatL],by simp [flat,flat.flatL],fun w _ => (ref01_IsHex c w).mono fun _ _ ⟨h,k⟩ => ⟨h,below_same k⟩⟩
theorem p_r1_IsUnreserved (c : UInt8) : PC Tryz.V 116 [.int .u8 c.toNat] (.bool (unres c)) := by
  refine pc_of 3000 Tryz.func116 rfl Tryz.ntmps116 Tryz.results116 Tryz.call116 (by simp) (by simp [flat,flat.flatL]) (by simp [flat,flat.flatL]) ?_
  simp only [lawG,↓Xn,↓Xo,↓Xg,↓Xd,↓Xe,↓Xf,Tryz.VΓ,Tryz.Γs,Xp,Xi,Nat.reduceAdd,Nat.reduceSub,Nat.reduceLT,Nat.reduceLeDiff,reduceIte,reduceCtorEq,Nat.reduceEqDiff,implies_true,forall_const,lawV]
  (refine callV_pc (p_r1_IsAlpha c) ?_; simp only [lawG,↓Xn,↓Xo,↓Xg,↓Xd,↓Xe,↓Xf,Tryz.VΓ,Tryz.Γs,Xp,Xi,Nat.reduceAdd,Nat.reduceSub,Nat.reduceLT,Nat.reduceLeDiff,reduceIte,reduceCtorEq,Nat.reduceEqDiff,implies_true,forall_const,lawV])
  refine ⟨fun h => ?_,fun h => ?_⟩
  · (refine callV_pc (p_r1_IsDigit c) ?_; simp only [lawG,↓Xn,↓Xo,↓Xg,↓Xd,↓Xe,↓Xf,Tryz.VΓ,Tryz.Γs,Xp,Xi,Nat.reduceAdd,Nat.reduceSub,Nat.reduceLT,Nat.reduceLeDiff,reduceIte,reduceCtorEq,Nat.reduceEqDiff,implies_true,forall_const,lawV])
    refine ⟨fun h2 => ?_,fun h2 => ?_⟩
    · (refine callV_pc (p_r1_In c [45,46,95,126] (by simp)) ?_; simp only [lawG,↓Xn,↓Xo,↓Xg,↓Xd,↓Xe,↓Xf,Tryz.VΓ,Tryz.Γs,Xp,Xi,Nat.reduceAdd,Nat.reduceSub,Nat.reduceLT,Nat.reduceLeDiff,reduceIte,reduceCtorEq,Nat.reduceEqDiff,implies_true,forall_const,lawV])
      unfold unres; rw [h,h2]; rfl
    · unfold unres; rw [h,h2]; rfl
  · unfold unres; rw [h]; rfl
theorem p_r3_digit (c : UInt8) (hc : isHex c = true) : PC Tryz.V 115 [.int .u8 c.toNat] (.int .u8 (hexVal c)) := by
  have key := all256 (p := fun c => !isHex c || (decide ((c.toNat ≤ 57 → IntKind.u8.wrap ((c.toNat : Int) - 48) = hexVal c) ∧ (57 < c.toNat → c.toNat ≤ 70 → IntKind.u8.wrap (IntKind.u8.wrap ((c.toNat : Int) - 65) + 10) = hexVal c) ∧ (70 < c.toNat → IntKind.u8.wrap (IntKind.u8.wrap ((c.toNat : Int) - 97) + 10) = hexVal c)))) (by decide +kernel) c
  simp only [hc,Bool.not_true,Bool.false_or,decide_eq_true_eq] at key
  obtain ⟨k1,k2,k3⟩ := key
  refine pc_of 3000 Tryz.func115 rfl Tryz.ntmps115 Tryz.results115 Tryz.call115 (by simp) (by simp [flat,flat.flatL]) (by simp [flat,flat.flatL]) ?_
  simp only [lawG,↓Xn,↓Xo,↓Xg,↓Xd,↓Xe,↓Xf,Tryz.VΓ,Tryz.Γs,Xp,Xi,Nat.reduceAdd,Nat.reduceSub,Nat.reduceLT,Nat.reduceLeDiff,reduceIte,reduceCtorEq,Nat.reduceEqDiff,implies_true,forall_const,lawV]
  refine ⟨fun h => ?_,fun h => ⟨fun h2 => ?_,fun h2 => ?_⟩⟩
  · rw [k1 (by simp at h; omega)]
  · rw [k2 (by simp at h; omega) (by simp at h2; omega)]
  · rw [k3 (by simp at h2; omega)]
theorem unhex_arith (a b : UInt8) (ha : isHex a = true) (hb : isHex b = true) : IntKind.u8.wrap (IntKind.u8.wrap (16 * (hexVal a : Int)) + hexVal b) = ((unhex a b).toNat : Int) := by
  have h1 := hexVal_le ha
  have h2 := hexVal_le hb
  have : ∀ x,x < 16 → ∀ y,y < 16 → IntKind.u8.wrap (IntKind.u8.wrap (16 * ((x : Nat) : Int)) + (y : Nat)) = (((x * 16 + y).toUInt8).toNat : Int) := by decide +kernel
  exact this _ (by omega) _ (by omega)
set_option maxRecDepth 20000 in
set_option maxHeartbeats 1000000 in
theorem p_r3_escape (s : Bytes) (i : Nat) (hi : i < s.length) (hp : s[i] = 37) (hs : s.length ≤ 4294967281) : PC Tryz.V 100 [.str s,.int .i64 i] (.tup [.int .u8 (((escAt s i).getD 0).toNat : Int),.bool (escAt s i).isSome]) := by
  have hg : ((s.getD i 0).toNat : Int) = 37 := by rw [show s.getD i 0 = 37 by rw [← hp]; simp [List.getD,hi]]; rfl
  refine pc_of 3000 Tryz.func100 rfl Tryz.ntmps100 Tryz.results100 Tryz.call100 (by simp) (by simp [flat,flat.flatL]) (by simp [flat,flat.flatL]) ?_
  simp (config := { maxSteps := 2000000 }) only [lawG,↓Xn,↓Xo,↓Xg,↓Xd,↓Xe,↓Xf,Tryz.VΓ,Tryz.Γs,Xp,Xi,Nat.reduceAdd,Nat.reduceSub,Nat.reduceLT,Nat.reduceLeDiff,reduceIte,reduceCtorEq,Nat.reduceEqDiff,implies_true,forall_const,lawV,hg,Int.toNat_natCast,beq_self_eq_true,bne_self_eq_false,Int.reduceBEq,Int.reduceBNe,Int.reduceLT,Int.reduceLE]
  unfold escAt
  rw [hexPair_drop]
  refine ⟨⟨by omega,by omega⟩,fun hl => ?_,fun hl => ?_⟩
  · have hl : i + 2 < s.length := (by simp at hl; omega)
    rw [if_pos hl]
    refine ⟨⟨by omega,by omega⟩,⟨by omega,by omega⟩,⟨by omega,by omega⟩,?_⟩
    · skip
      (refine callV_pc (p_r1_IsHex _) ?_; simp only [lawG,↓Xn,↓Xo,↓Xg,↓Xd,↓Xe,↓Xf,Tryz.VΓ,Tryz.Γs,Xp,Xi,Nat.reduceAdd,Nat.reduceSub,Nat.reduceLT,Nat.reduceLeDiff,reduceIte,reduceCtorEq,Nat.reduceEqDiff,implies_true,forall_const,lawV])
      refine ⟨fun ha => ⟨⟨by omega,by omega⟩,⟨by omega,by omega⟩,?_⟩,fun ha => ?_⟩
      · have ha : isHex (s.getD (i + 1) 0) = true := by simpa using ha
        (refine callV_pc (p_r1_IsHex _) ?_; simp only [lawG,↓Xn,↓Xo,↓Xg,↓Xd,↓Xe,↓Xf,Tryz.VΓ,Tryz.Γs,Xp,Xi,Nat.reduceAdd,Nat.reduceSub,Nat.reduceLT,Nat.reduceLeDiff,reduceIte,reduceCtorEq,Nat.reduceEqDiff,implies_true,forall_const,lawV])
        refine ⟨fun hb => ?_,fun hb => ⟨⟨by omega,by omega⟩,⟨by omega,by omega⟩,?_⟩⟩
        · have hb : isHex (s.getD (i + 2) 0) = false := by simpa using hb
          rw [ha,hb]; rfl
        · have hb : isHex (s.getD (i + 2) 0) = true := by simpa using hb
          (refine callD_pc (p_r3_digit _ ha) ?_; simp only [lawG,↓Xn,↓Xo,↓Xg,↓Xd,↓Xe,↓Xf,Tryz.VΓ,Tryz.Γs,Xp,Xi,Nat.reduceAdd,Nat.reduceSub,Nat.reduceLT,Nat.reduceLeDiff,reduceIte,reduceCtorEq,Nat.reduceEqDiff,implies_true,forall_const,lawV])
          refine ⟨⟨by omega,by omega⟩,⟨by omega,by omega⟩,?_⟩
          (refine callD_pc (p_r3_digit _ hb) ?_; simp only [lawG,↓Xn,↓Xo,↓Xg,↓Xd,↓Xe,↓Xf,Tryz.VΓ,Tryz.Γs,Xp,Xi,Nat.reduceAdd,Nat.reduceSub,Nat.reduceLT,Nat.reduceLeDiff,reduceIte,reduceCtorEq,Nat.reduceEqDiff,implies_true,forall_const,lawV])
          refine ⟨(OkD_fast (by kernel_rfl)),?_⟩
          rw [unhex_arith _ _ ha hb,ha,hb]; rfl
      · have ha : isHex (s.getD (i + 1) 0) = false := by simpa using ha
        rw [ha]; rfl
  · have hl : ¬ i + 2 < s.length := (by simp at hl; omega)
    rw [if_neg hl]; rfl
theorem p_r3_Escape (c : UInt8) : PC Tryz.V 101 [.int .u8 c.toNat] (.str (esc c)) := by
  have hc := c.toNat_lt
  have d1 := digs_at (c.toNat / 16) (by omega)
  have d2 := digs_at (c.toNat % 16) (by omega)
  have key := all256 (p := fun c => decide (divI .quo .u8 (c.toNat : Int) 16 = ((c.toNat / 16 : Nat) : Int) ∧ divI .rem .u8 (c.toNat : Int) 16 = ((c.toNat % 16 : Nat) : Int))) (by decide +kernel) c
  obtain ⟨s1,s2⟩ := of_decide_eq_true key
  have ec := esc_cells c
  have e1 : ([.int .u8 37,.int .u8 ((hexU (c.toNat / 16)).toNat : Int),.int .u8 ((hexU (c.toNat % 16)).toNat : Int)] : List SV).map unU8 = esc c := by rw [← ec,unU8_map]
  refine pc_of 3000 Tryz.func101 rfl Tryz.ntmps101 Tryz.results101 Tryz.call101 (by simp) (by simp [flat,flat.flatL]) (by simp [flat,flat.flatL]) ?_
  simp only [lawG,↓Xn,↓Xo,↓Xg,↓Xd,↓Xe,↓Xf,Tryz.VΓ,Tryz.Γs,Xp,Xi,Nat.reduceAdd,Nat.reduceSub,Nat.reduceLT,Nat.reduceLeDiff,reduceIte,reduceCtorEq,Nat.reduceEqDiff,implies_true,forall_const,lawV,s1,s2,Int.toNat_natCast,d1,d2]
  have e2 : ([.int .u8 37,.int .u8 ((hexU (c.toNat / 16)).toNat : Int),.int .u8 ((hexU (c.toNat % 16)).toNat : Int)] : List SV).all isU8 = true := by rw [← ec,isU8_map]
  simp only [List.map_cons,List.map_nil] at e1
  simp only [List.all_cons,List.all_nil,Bool.and_true] at e2
  exact ⟨by decide,⟨by omega,by omega⟩,by decide,⟨by omega,by omega⟩,by omega,e2,(OkD_fast (by kernel_rfl)),by rw [e1]⟩
end Go.Proofs.YtejfjmcjicpodaaGreatDoor
/- The walk of the reference's Normalize. -/
set_option linter.all false
set_option maxRecDepth 20000
namespace Go.Proofs.YtejfjmcjicpodaaGreatDoor
open Go Vc Go.RowKit Wf
def RnI (also s : Bytes) (σ : St) : Prop := ∃ (i : Nat) (x : SV) (d : Bytes),lk 0 σ.t = some (.str s) ∧ lk 1 σ.t = some (.str also) ∧ lk 6 σ.t = some x ∧ lk 7 σ.t = some (.int .i64 i) ∧ i ≤ s.length ∧ d.length ≤ 3 * i ∧ Sl 5 1 0 x σ.b (d.map u8S) d.length ∧ comb d (normU also (units (s.drop i))) = normU also (units s)
theorem rn_mk {also s : Bytes} {t : List (Nat × SV)} {b : List Res} {i i' : Nat} {x : SV} {d : Bytes} (h0 : lk 0 t = some (.str s)) (h1 : lk 1 t = some (.str also)) (h6 : lk 6 t = some x) (h7 : lk 7 t = some (.int .i64 i')) (h : i' ≤ s.length ∧ d.length ≤ 3 * i') (ht : Sl 5 1 0 x b (d.map u8S) d.length)
    (hn : comb d (normU also (units (s.drop i'))) = normU also (units s)) (hlt : i < i') : RnI also s ⟨t,b⟩ ∧ NoM s ⟨t,b⟩ < s.length - i :=
  ⟨⟨i',x,d,h0,h1,h6,h7,h.1,h.2,ht,hn⟩,by rw [NoM_eq h7]; omega⟩
set_option maxRecDepth 20000 in
set_option maxHeartbeats 4000000 in
theorem p_r3_Normalize (s also : Bytes) (ha : also.length ≤ 1000) : PC Tryz.V 102 [.str s,.str also] (.tup [.str (pctNorm also s).1,.int .i64 (pctNorm also s).2]) := by
  refine pc_of 3000 Tryz.func102 rfl Tryz.ntmps102 Tryz.results102 Tryz.call102 (by simp) (by simp [flat,flat.flatL]) (by simp [flat,flat.flatL]) ?_
  simp only [lawG,↓Xn,↓Xo,↓Xg,↓Xd,↓Xe,↓Xf,Tryz.VΓ,Tryz.Γs,Xp,Xi,Nat.reduceAdd,Nat.reduceSub,Nat.reduceLT,Nat.reduceLeDiff,reduceIte,reduceCtorEq,Nat.reduceEqDiff,implies_true,forall_const,lawV]
  unfold pctNorm
  refine ⟨fun hl => ?_,fun hl => ?_⟩
  · have hl : 16384 < s.length := (by simp at hl; omega)
    rw [if_pos hl]
  have hl : s.length ≤ 16384 := (by simp at hl; omega)
  rw [if_neg (by omega)]
  refine loopV_mk (RnI also s) (NoM s) ⟨0,.nils,[],rfl,rfl,rfl,rfl,by omega,by simp,.inl ⟨rfl,rfl,rfl⟩,comb_nil _ (normU_err also _)⟩ ?_
  rintro ⟨t,b⟩ ⟨i,x,d,h0,h1,h6,h7,hi,hd,ht,hn⟩
  simp only at h0 h1 h6 h7 ht
  rw [NoM_eq h7]
  by_cases hlt : i < s.length
  · have hu := units_step hlt
    have hg : s.getD i 0 = s[i] := by simp [List.getD,hlt]
    simp only [lawG,↓Xn,↓Xo,↓Xg,↓Xd,↓Xe,↓Xf,Tryz.VΓ,Tryz.Γs,Xp,Xi,Nat.reduceAdd,Nat.reduceSub,Nat.reduceLT,Nat.reduceLeDiff,reduceIte,reduceCtorEq,Nat.reduceEqDiff,implies_true,forall_const,lawV,h0,h1,h6,h7]
    refine ⟨fun _ => ⟨⟨by omega,by omega⟩,fun hc => ⟨⟨by omega,by omega⟩,?_⟩,fun hc => ?_⟩,fun h => absurd h (by simp; omega)⟩
    · have hc : ¬ s[i] = 37 := by
        intro e
        rw [hg,e] at hc
        simp at hc
      rw [if_neg hc] at hu
      rw [hu,normU] at hn
      rw [hg]
      have hn2 : keepB also s[i] = true → comb (d ++ [s[i]]) (normU also (units (s.drop (i + 1)))) = normU also (units s) := fun hk => by
        rw [← hn,if_pos hk,comb_comb]
      (refine callV_pc (p_r1_IsUnreserved s[i]) ?_; simp only [lawG,↓Xn,↓Xo,↓Xg,↓Xd,↓Xe,↓Xf,Tryz.VΓ,Tryz.Γs,Xp,Xi,Nat.reduceAdd,Nat.reduceSub,Nat.reduceLT,Nat.reduceLeDiff,reduceIte,reduceCtorEq,Nat.reduceEqDiff,implies_true,forall_const,lawV,h0,h1,h6,h7,hg])
      refine ⟨fun hq => ⟨⟨by omega,by omega⟩,?_⟩,fun hq => ⟨⟨by omega,by omega⟩,?_⟩⟩
      · have hq := not_t hq
        (refine callV_pc (p_r1_In s[i] also (by omega)) ?_; simp only [lawG,↓Xn,↓Xo,↓Xg,↓Xd,↓Xe,↓Xf,Tryz.VΓ,Tryz.Γs,Xp,Xi,Nat.reduceAdd,Nat.reduceSub,Nat.reduceLT,Nat.reduceLeDiff,reduceIte,reduceCtorEq,Nat.reduceEqDiff,implies_true,forall_const,lawV,h0,h1,h6,h7,hg])
        refine ⟨fun hq2 => ?_,fun hq2 => ⟨⟨by omega,by omega⟩,?_⟩⟩
        · have hq2 := not_t hq2
          have hk : ¬ keepB also s[i] = true := by unfold keepB; rw [hq,hq2]; simp
          rw [if_neg hk] at hn
          have hres : normU also (units s) = ([],1) := by rw [← hn]; rfl
          rw [hres]
        · have hq2 := not_f hq2
          have hk : keepB also s[i] = true := by unfold keepB; rw [hq2]; simp
          (rcases ht with ⟨rfl,hc0,hn0⟩ | ⟨j,rfl,hLj,hj⟩
           · obtain rfl : d = [] := by simpa using hc0
             simp only [lawG,↓Xn,↓Xo,↓Xg,↓Xd,↓Xe,↓Xf,Tryz.VΓ,Tryz.Γs,Xp,Xi,Nat.reduceAdd,Nat.reduceSub,Nat.reduceLT,Nat.reduceLeDiff,reduceIte,reduceCtorEq,Nat.reduceEqDiff,implies_true,forall_const,lawV,h0,h1,h6,h7,hg,at_new]
             refine ⟨by omega,⟨by unfold maxLen; omega,by omega⟩,⟨by omega,by omega⟩,rn_mk (i' := i + 1) (x := .o (b ++ [Res.own [u8S (s[i])] 5 1 1 true]).length 1) (d := [] ++ [s[i]]) h0 h1 rfl (by simp only [lk,reduceIte,Option.some.injEq,SV.int.injEq,true_and]; omega) ⟨by omega,by simp; omega⟩ (.inr ⟨_,rfl,by omega,at_new _ _⟩) (hn2 hk) (by omega)⟩
           · have hjl : j < b.length := (List.getElem?_eq_some_iff.1 hj).1
             have ho : ∀ X,(b ++ [X])[j]? = some (.own (d.map u8S) 5 1 d.length true) := fun X => at_old hj [X]
             simp only [lawG,↓Xn,↓Xo,↓Xg,↓Xd,↓Xe,↓Xf,Tryz.VΓ,Tryz.Γs,Xp,Xi,Nat.reduceAdd,Nat.reduceSub,Nat.reduceLT,Nat.reduceLeDiff,reduceIte,reduceCtorEq,Nat.reduceEqDiff,implies_true,forall_const,lawV,h0,h1,h6,h7,hg,at_new,ho]
             refine ⟨by omega,⟨by unfold maxLen; omega,by omega⟩,⟨by omega,by omega⟩,rn_mk (i' := i + 1) (x := .o (b ++ [Res.own [u8S (s[i])] 5 1 1 true]).length (d.length + 1)) (d := d ++ [s[i]]) h0 h1 rfl (by simp only [lk,reduceIte,Option.some.injEq,SV.int.injEq,true_and]; omega) ⟨by omega,by simp; omega⟩ (.inr ⟨(b ++ [Res.own [u8S (s[i])] 5 1 1 true]).length,by simp,by omega,by rw [List.getElem?_append_right (by simp)]; simp [u8S]⟩) (hn2 hk) (by omega)⟩)
      · have hq := not_f hq
        have hk : keepB also s[i] = true := by unfold keepB; rw [hq]; simp
        (rcases ht with ⟨rfl,hc0,hn0⟩ | ⟨j,rfl,hLj,hj⟩
         · obtain rfl : d = [] := by simpa using hc0
           simp only [lawG,↓Xn,↓Xo,↓Xg,↓Xd,↓Xe,↓Xf,Tryz.VΓ,Tryz.Γs,Xp,Xi,Nat.reduceAdd,Nat.reduceSub,Nat.reduceLT,Nat.reduceLeDiff,reduceIte,reduceCtorEq,Nat.reduceEqDiff,implies_true,forall_const,lawV,h0,h1,h6,h7,hg,at_new]
           refine ⟨by omega,⟨by unfold maxLen; omega,by omega⟩,⟨by omega,by omega⟩,rn_mk (i' := i + 1) (x := .o (b ++ [Res.own [u8S (s[i])] 5 1 1 true]).length 1) (d := [] ++ [s[i]]) h0 h1 rfl (by simp only [lk,reduceIte,Option.some.injEq,SV.int.injEq,true_and]; omega) ⟨by omega,by simp; omega⟩ (.inr ⟨_,rfl,by omega,at_new _ _⟩) (hn2 hk) (by omega)⟩
         · have hjl : j < b.length := (List.getElem?_eq_some_iff.1 hj).1
           have ho : ∀ X,(b ++ [X])[j]? = some (.own (d.map u8S) 5 1 d.length true) := fun X => at_old hj [X]
           simp only [lawG,↓Xn,↓Xo,↓Xg,↓Xd,↓Xe,↓Xf,Tryz.VΓ,Tryz.Γs,Xp,Xi,Nat.reduceAdd,Nat.reduceSub,Nat.reduceLT,Nat.reduceLeDiff,reduceIte,reduceCtorEq,Nat.reduceEqDiff,implies_true,forall_const,lawV,h0,h1,h6,h7,hg,at_new,ho]
           refine ⟨by omega,⟨by unfold maxLen; omega,by omega⟩,⟨by omega,by omega⟩,rn_mk (i' := i + 1) (x := .o (b ++ [Res.own [u8S (s[i])] 5 1 1 true]).length (d.length + 1)) (d := d ++ [s[i]]) h0 h1 rfl (by simp only [lk,reduceIte,Option.some.injEq,SV.int.injEq,true_and]; omega) ⟨by omega,by simp; omega⟩ (.inr ⟨(b ++ [Res.own [u8S (s[i])] 5 1 1 true]).length,by simp,by omega,by rw [List.getElem?_append_right (by simp)]; simp [u8S]⟩) (hn2 hk) (by omega)⟩)
    · have hc : s[i] = 37 := by
        have : s.getD i 0 = 37 := by
          rw [← UInt8.toNat_inj]
          have e37 : (37 : UInt8).toNat = 37 := rfl
          have h2 := bne_eq_false_iff_eq.1 hc
          omega
        rw [← hg]; exact this
      rw [if_pos hc] at hu
      have pe := p_r3_escape s i hlt hc (by omega)
      cases he : escAt s i with
      | none =>
        rw [he] at pe hu
        simp only at hu
        rw [hu] at hn
        have hres : normU also (units s) = ([],2) := by rw [← hn]; rfl
        rw [hres]
        (refine callV_pc pe ?_; simp only [lawG,↓Xn,↓Xo,↓Xg,↓Xd,↓Xe,↓Xf,Tryz.VΓ,Tryz.Γs,Xp,Xi,Nat.reduceAdd,Nat.reduceSub,Nat.reduceLT,Nat.reduceLeDiff,reduceIte,reduceCtorEq,Nat.reduceEqDiff,implies_true,forall_const,lawV,h0,h1,h6,h7,Option.isSome_none])
      | some v =>
        rw [he] at pe hu
        have hx := he
        unfold escAt at hx
        obtain ⟨⟨a,bb,r⟩,hp,hv⟩ := Option.map_eq_some_iff.1 hx
        simp only at hv
        rw [hp] at hu
        simp only at hu
        have hi3 : i + 3 ≤ s.length := by
          obtain ⟨h1,-,-⟩ := hexPair_some hp
          have := congrArg List.length h1
          simp at this
          omega
        have hn2 : comb (d ++ normB v) (normU also (units (s.drop (i + 2 + 1)))) = normU also (units s) := by
          rw [← hn,hu,normU,comb_comb,hv]
        simp only [Option.getD_some,Option.isSome_some] at pe
        (refine callV_pc pe ?_; simp only [lawG,↓Xn,↓Xo,↓Xg,↓Xd,↓Xe,↓Xf,Tryz.VΓ,Tryz.Γs,Xp,Xi,Nat.reduceAdd,Nat.reduceSub,Nat.reduceLT,Nat.reduceLeDiff,reduceIte,reduceCtorEq,Nat.reduceEqDiff,implies_true,forall_const,lawV,h0,h1,h6,h7])
        (refine callV_pc (p_r1_IsUnreserved v) ?_; simp only [lawG,↓Xn,↓Xo,↓Xg,↓Xd,↓Xe,↓Xf,Tryz.VΓ,Tryz.Γs,Xp,Xi,Nat.reduceAdd,Nat.reduceSub,Nat.reduceLT,Nat.reduceLeDiff,reduceIte,reduceCtorEq,Nat.reduceEqDiff,implies_true,forall_const,lawV,h0,h1,h6,h7])
        refine ⟨fun hq => ?_,fun hq => ?_⟩
        · have hn3 : comb (d ++ [v]) (normU also (units (s.drop (i + 2 + 1)))) = normU also (units s) := by
            rw [← hn2]; unfold normB; rw [if_pos hq]
          (rcases ht with ⟨rfl,hc0,hn0⟩ | ⟨j,rfl,hLj,hj⟩
           · obtain rfl : d = [] := by simpa using hc0
             simp only [lawG,↓Xn,↓Xo,↓Xg,↓Xd,↓Xe,↓Xf,Tryz.VΓ,Tryz.Γs,Xp,Xi,Nat.reduceAdd,Nat.reduceSub,Nat.reduceLT,Nat.reduceLeDiff,reduceIte,reduceCtorEq,Nat.reduceEqDiff,implies_true,forall_const,lawV,h0,h1,h6,h7,hg,at_new]
             refine ⟨by omega,⟨by unfold maxLen; omega,by omega⟩,⟨by omega,by omega⟩,⟨by omega,by omega⟩,rn_mk (i' := i + 2 + 1) (x := .o (b ++ [Res.own [u8S (v)] 5 1 1 true]).length 1) (d := [] ++ [v]) h0 h1 rfl (by simp only [lk,reduceIte,Option.some.injEq,SV.int.injEq,true_and]; omega) ⟨by omega,by simp; omega⟩ (.inr ⟨_,rfl,by omega,at_new _ _⟩) (hn3) (by omega)⟩
           · have hjl : j < b.length := (List.getElem?_eq_some_iff.1 hj).1
             have ho : ∀ X,(b ++ [X])[j]? = some (.own (d.map u8S) 5 1 d.length true) := fun X => at_old hj [X]
             simp only [lawG,↓Xn,↓Xo,↓Xg,↓Xd,↓Xe,↓Xf,Tryz.VΓ,Tryz.Γs,Xp,Xi,Nat.reduceAdd,Nat.reduceSub,Nat.reduceLT,Nat.reduceLeDiff,reduceIte,reduceCtorEq,Nat.reduceEqDiff,implies_true,forall_const,lawV,h0,h1,h6,h7,hg,at_new,ho]
             refine ⟨by omega,⟨by unfold maxLen; omega,by omega⟩,⟨by omega,by omega⟩,⟨by omega,by omega⟩,rn_mk (i' := i + 2 + 1) (x := .o (b ++ [Res.own [u8S (v)] 5 1 1 true]).length (d.length + 1)) (d := d ++ [v]) h0 h1 rfl (by simp only [lk,reduceIte,Option.some.injEq,SV.int.injEq,true_and]; omega) ⟨by omega,by simp; omega⟩ (.inr ⟨(b ++ [Res.own [u8S (v)] 5 1 1 true]).length,by simp,by omega,by rw [List.getElem?_append_right (by simp)]; simp [u8S]⟩) (hn3) (by omega)⟩)
        · have hn3 : comb (d ++ esc v) (normU also (units (s.drop (i + 2 + 1)))) = normU also (units s) := by
            rw [← hn2]; unfold normB; rw [if_neg (by simp [hq])]
          (refine callV_pc (p_r3_Escape v) ?_; simp only [lawG,↓Xn,↓Xo,↓Xg,↓Xd,↓Xe,↓Xf,Tryz.VΓ,Tryz.Γs,Xp,Xi,Nat.reduceAdd,Nat.reduceSub,Nat.reduceLT,Nat.reduceLeDiff,reduceIte,reduceCtorEq,Nat.reduceEqDiff,implies_true,forall_const,lawV,h0,h1,h6,h7])
          rcases ht with ⟨rfl,hc0,hn0⟩ | ⟨j,rfl,hLj,hj⟩
          · obtain rfl : d = [] := by simpa using hc0
            simp only [lawG,↓Xn,↓Xo,↓Xg,↓Xd,↓Xe,↓Xf,Tryz.VΓ,Tryz.Γs,Xp,Xi,Nat.reduceAdd,Nat.reduceSub,Nat.reduceLT,Nat.reduceLeDiff,reduceIte,reduceCtorEq,Nat.reduceEqDiff,implies_true,forall_const,lawV,h0,h1,h6,h7]
            exact ⟨⟨one_u8 _,by simp [esc]; unfold maxLen; omega,by simp [esc]⟩,⟨by omega,by omega⟩,⟨by omega,by omega⟩,rn_mk (i' := i + 2 + 1) (d := [] ++ esc v) h0 h1 rfl (by simp only [lk,reduceIte,Option.some.injEq,SV.int.injEq,true_and]; omega) ⟨by omega,by simp [esc]; omega⟩ (.inr ⟨b.length,rfl,by omega,at_new _ _⟩) hn3 (by omega)⟩
          · simp only [lawG,↓Xn,↓Xo,↓Xg,↓Xd,↓Xe,↓Xf,Tryz.VΓ,Tryz.Γs,Xp,Xi,Nat.reduceAdd,Nat.reduceSub,Nat.reduceLT,Nat.reduceLeDiff,reduceIte,reduceCtorEq,Nat.reduceEqDiff,implies_true,forall_const,lawV,h0,h1,h6,h7,hj]
            exact ⟨⟨one_u8 _,by simp [esc]; unfold maxLen; omega,by simp [esc]; omega⟩,⟨by omega,by omega⟩,⟨by omega,by omega⟩,rn_mk (i' := i + 2 + 1) (d := d ++ esc v) h0 h1 rfl (by simp only [lk,reduceIte,Option.some.injEq,SV.int.injEq,true_and]; omega) ⟨by omega,by simp [esc]; omega⟩ (.inr ⟨b.length,by simp,by omega,by rw [List.getElem?_append_right (by simp)]; simp⟩) hn3 (by omega)⟩
  · have hie : i = s.length := by omega
    subst hie
    rw [List.drop_length,units_nil] at hn
    have hres : normU also (units s) = (d,0) := by rw [← hn]; simp [normU,comb]
    rw [hres]
    rcases ht with ⟨rfl,hc0,hn0⟩ | ⟨j,rfl,hLj,hj⟩
    · obtain rfl : d = [] := by simpa using hc0
      simp only [lawG,↓Xn,↓Xo,↓Xg,↓Xd,↓Xe,↓Xf,Tryz.VΓ,Tryz.Γs,Xp,Xi,Nat.reduceAdd,Nat.reduceSub,Nat.reduceLT,Nat.reduceLeDiff,reduceIte,reduceCtorEq,Nat.reduceEqDiff,implies_true,forall_const,lawV,h0,h1,h6,h7]
      exact fun h => absurd h (by simp)
    · simp only [lawG,↓Xn,↓Xo,↓Xg,↓Xd,↓Xe,↓Xf,Tryz.VΓ,Tryz.Γs,Xp,Xi,Nat.reduceAdd,Nat.reduceSub,Nat.reduceLT,Nat.reduceLeDiff,reduceIte,reduceCtorEq,Nat.reduceEqDiff,implies_true,forall_const,lawV,h0,h1,h6,h7,hj]
      refine ⟨fun h => absurd h (by simp),fun _ => ⟨isU8_map d,?_⟩⟩
      rw [unU8_map]
end Go.Proofs.YtejfjmcjicpodaaGreatDoor
/- The walks of Decode and Encode,in the program and in the reference. -/
set_option linter.all false
set_option maxRecDepth 20000
namespace Go.Proofs.YtejfjmcjicpodaaGreatDoor
open Go Vc Go.RowKit Wf
def decGo : List PU → Bytes × Int
  | [] => ([],0)
  | .bad :: _ => ([],2)
  | .lit c :: r => comb [c] (decGo r)
  | .hex a b :: r => comb [unhex a b] (decGo r)
theorem decGo_eq : ∀ l : List PU,decGo l = if PU.bad ∈ l then ([],2) else (l.map PU.val,0)
  | [] => rfl
  | .bad :: r => by simp [decGo]
  | .lit c :: r => by
    rw [decGo,decGo_eq r]
    by_cases h : PU.bad ∈ r
    · simp [h,comb]
    · simp [h,comb,PU.val]
  | .hex a b :: r => by
    rw [decGo,decGo_eq r]
    by_cases h : PU.bad ∈ r
    · simp [h,comb]
    · simp [h,comb,PU.val]
theorem decGo_err (l : List PU) : (decGo l).2 ≠ 0 → (decGo l).1 = [] := by
  rw [decGo_eq]
  split
  · intro _; rfl
  · intro h; exact absurd rfl h
def DcI (s : Bytes) (σ : St) : Prop := ∃ (i : Nat) (x : SV) (d : Bytes),lk 0 σ.t = some (.str s) ∧ lk 4 σ.t = some x ∧ lk 5 σ.t = some (.int .i64 i) ∧ i ≤ s.length ∧ d.length ≤ i ∧ Sl 5 1 0 x σ.b (d.map u8S) d.length ∧ comb d (decGo (units (s.drop i))) = decGo (units s)
def DcM (s : Bytes) (σ : St) : Nat := match lk 5 σ.t with
  | some (.int _ k) => s.length - k.toNat
  | _ => 0
theorem DcM_eq {s : Bytes} {σ : St} {k : Nat} (h : lk 5 σ.t = some (.int .i64 k)) : DcM s σ = s.length - k := by simp [DcM,h]
theorem dc_mk {s : Bytes} {t : List (Nat × SV)} {b : List Res} {i i' : Nat} {x : SV} {d : Bytes} (h0 : lk 0 t = some (.str s)) (h4 : lk 4 t = some x) (h5 : lk 5 t = some (.int .i64 i')) (h : i' ≤ s.length ∧ d.length ≤ i') (ht : Sl 5 1 0 x b (d.map u8S) d.length)
    (hn : comb d (decGo (units (s.drop i'))) = decGo (units s)) (hlt : i < i') : DcI s ⟨t,b⟩ ∧ DcM s ⟨t,b⟩ < s.length - i :=
  ⟨⟨i',x,d,h0,h4,h5,h.1,h.2,ht,hn⟩,by rw [DcM_eq h5]; omega⟩
set_option maxRecDepth 20000 in
set_option maxHeartbeats 4000000 in
theorem p_Decode (s : Bytes) : PC Tryz.V 93 [.str s] (.tup [.str (pctDecode s).1,.int .i64 (pctDecode s).2]) := by
  have hpd : pctDecode s = if 16384 < s.length then ([],5) else decGo (units s) := by unfold pctDecode; rw [decGo_eq]
  rw [hpd]
  refine pc_of 3000 Tryz.func93 rfl Tryz.ntmps93 Tryz.results93 Tryz.call93 (by simp) (by simp [flat,flat.flatL]) (by simp [flat,flat.flatL]) ?_
  simp only [lawG,↓Xn,↓Xo,↓Xg,↓Xd,↓Xe,↓Xf,Tryz.VΓ,Tryz.Γs,Xp,Xi,Nat.reduceAdd,Nat.reduceSub,Nat.reduceLT,Nat.reduceLeDiff,reduceIte,reduceCtorEq,Nat.reduceEqDiff,implies_true,forall_const,lawV]
  refine ⟨fun hl => ?_,fun hl => ?_⟩
  · have hl : 16384 < s.length := (by simp at hl; omega)
    rw [if_pos hl]
  have hl : s.length ≤ 16384 := (by simp at hl; omega)
  rw [if_neg (by omega)]
  refine loopV_mk (DcI s) (DcM s) ⟨0,.nils,[],rfl,rfl,rfl,by omega,by simp,.inl ⟨rfl,rfl,rfl⟩,comb_nil _ (decGo_err _)⟩ ?_
  rintro ⟨t,b⟩ ⟨i,x,d,h0,h4,h5,hi,hd,ht,hn⟩
  simp only at h0 h4 h5 ht
  rw [DcM_eq h5]
  by_cases hlt : i < s.length
  · have hu := units_step hlt
    have hg : s.getD i 0 = s[i] := by simp [List.getD,hlt]
    simp only [lawG,↓Xn,↓Xo,↓Xg,↓Xd,↓Xe,↓Xf,Tryz.VΓ,Tryz.Γs,Xp,Xi,Nat.reduceAdd,Nat.reduceSub,Nat.reduceLT,Nat.reduceLeDiff,reduceIte,reduceCtorEq,Nat.reduceEqDiff,implies_true,forall_const,lawV,h0,h4,h5]
    refine ⟨fun _ => ⟨⟨by omega,by omega⟩,fun hc => ?_,fun hc => ?_⟩,fun h => absurd h (by simp; omega)⟩
    · have hc : s[i] = 37 := by
        rw [byte_is (n := 37) hlt 37 rfl] at hc
        simpa using hc
      rw [if_pos hc] at hu
      have pe := p_escaped s i hlt (by omega)
      cases he : escAt s i with
      | none =>
        rw [he] at pe hu
        simp only at hu
        rw [hu] at hn
        have hres : decGo (units s) = ([],2) := by rw [← hn]; rfl
        rw [hres]
        (refine callV_pc pe ?_; simp only [lawG,↓Xn,↓Xo,↓Xg,↓Xd,↓Xe,↓Xf,Tryz.VΓ,Tryz.Γs,Xp,Xi,Nat.reduceAdd,Nat.reduceSub,Nat.reduceLT,Nat.reduceLeDiff,reduceIte,reduceCtorEq,Nat.reduceEqDiff,implies_true,forall_const,lawV,h0,h4,h5,Option.isSome_none])
      | some v =>
        rw [he] at pe hu
        have hx := he
        unfold escAt at hx
        obtain ⟨⟨a,bb,r⟩,hp,hv⟩ := Option.map_eq_some_iff.1 hx
        simp only at hv
        rw [hp] at hu
        simp only at hu
        have hi3 : i + 3 ≤ s.length := by
          obtain ⟨h1,-,-⟩ := hexPair_some hp
          have := congrArg List.length h1
          simp at this
          omega
        have hn2 : comb (d ++ [v]) (decGo (units (s.drop (i + 2 + 1)))) = decGo (units s) := by
          rw [← hn,hu,decGo,comb_comb,hv]
        simp only [Option.getD_some,Option.isSome_some] at pe
        (refine callV_pc pe ?_; simp only [lawG,↓Xn,↓Xo,↓Xg,↓Xd,↓Xe,↓Xf,Tryz.VΓ,Tryz.Γs,Xp,Xi,Nat.reduceAdd,Nat.reduceSub,Nat.reduceLT,Nat.reduceLeDiff,reduceIte,reduceCtorEq,Nat.reduceEqDiff,implies_true,forall_const,lawV,h0,h4,h5])
        (rcases ht with ⟨rfl,hc0,hn0⟩ | ⟨j,rfl,hLj,hj⟩
         · obtain rfl : d = [] := by simpa using hc0
           simp only [lawG,↓Xn,↓Xo,↓Xg,↓Xd,↓Xe,↓Xf,Tryz.VΓ,Tryz.Γs,Xp,Xi,Nat.reduceAdd,Nat.reduceSub,Nat.reduceLT,Nat.reduceLeDiff,reduceIte,reduceCtorEq,Nat.reduceEqDiff,implies_true,forall_const,lawV,h0,h4,h5,hg,at_new]
           refine ⟨⟨by omega,by omega⟩,by omega,⟨by unfold maxLen; omega,by omega⟩,⟨by omega,by omega⟩,dc_mk (i' := i + 2 + 1) (x := .o (b ++ [Res.own [u8S (v)] 5 1 1 true]).length 1) (d := [] ++ [v]) h0 rfl (by simp only [lk,reduceIte,Option.some.injEq,SV.int.injEq,true_and]; omega) ⟨by omega,by simp only [List.nil_append,List.length_cons,List.length_nil]; omega⟩ (.inr ⟨_,rfl,by omega,at_new _ _⟩) (hn2) (by omega)⟩
         · have hjl : j < b.length := (List.getElem?_eq_some_iff.1 hj).1
           have ho : ∀ X,(b ++ [X])[j]? = some (.own (d.map u8S) 5 1 d.length true) := fun X => at_old hj [X]
           simp only [lawG,↓Xn,↓Xo,↓Xg,↓Xd,↓Xe,↓Xf,Tryz.VΓ,Tryz.Γs,Xp,Xi,Nat.reduceAdd,Nat.reduceSub,Nat.reduceLT,Nat.reduceLeDiff,reduceIte,reduceCtorEq,Nat.reduceEqDiff,implies_true,forall_const,lawV,h0,h4,h5,hg,at_new,ho]
           refine ⟨⟨by omega,by omega⟩,by omega,⟨by unfold maxLen; omega,by omega⟩,⟨by omega,by omega⟩,dc_mk (i' := i + 2 + 1) (x := .o (b ++ [Res.own [u8S (v)] 5 1 1 true]).length (d.length + 1)) (d := d ++ [v]) h0 rfl (by simp only [lk,reduceIte,Option.some.injEq,SV.int.injEq,true_and]; omega) ⟨by omega,by simp; omega⟩ (.inr ⟨(b ++ [Res.own [u8S (v)] 5 1 1 true]).length,by simp,by omega,by rw [List.getElem?_append_right (by simp)]; simp [u8S]⟩) (hn2) (by omega)⟩)
    · have hc : ¬ s[i] = 37 := by
        rw [byte_is (n := 37) hlt 37 rfl] at hc
        simpa using hc
      rw [if_neg hc] at hu
      rw [hu,decGo,comb_comb] at hn
      rw [hg]
      (rcases ht with ⟨rfl,hc0,hn0⟩ | ⟨j,rfl,hLj,hj⟩
       · obtain rfl : d = [] := by simpa using hc0
         simp only [lawG,↓Xn,↓Xo,↓Xg,↓Xd,↓Xe,↓Xf,Tryz.VΓ,Tryz.Γs,Xp,Xi,Nat.reduceAdd,Nat.reduceSub,Nat.reduceLT,Nat.reduceLeDiff,reduceIte,reduceCtorEq,Nat.reduceEqDiff,implies_true,forall_const,lawV,h0,h4,h5,hg,at_new]
         refine ⟨ by omega,⟨by unfold maxLen; omega,by omega⟩,⟨by omega,by omega⟩,dc_mk (i' := i + 1) (x := .o (b ++ [Res.own [u8S (s[i])] 5 1 1 true]).length 1) (d := [] ++ [s[i]]) h0 rfl (by simp only [lk,reduceIte,Option.some.injEq,SV.int.injEq,true_and]; omega) ⟨by omega,by simp only [List.nil_append,List.length_cons,List.length_nil]; omega⟩ (.inr ⟨_,rfl,by omega,at_new _ _⟩) (hn) (by omega)⟩
       · have hjl : j < b.length := (List.getElem?_eq_some_iff.1 hj).1
         have ho : ∀ X,(b ++ [X])[j]? = some (.own (d.map u8S) 5 1 d.length true) := fun X => at_old hj [X]
         simp only [lawG,↓Xn,↓Xo,↓Xg,↓Xd,↓Xe,↓Xf,Tryz.VΓ,Tryz.Γs,Xp,Xi,Nat.reduceAdd,Nat.reduceSub,Nat.reduceLT,Nat.reduceLeDiff,reduceIte,reduceCtorEq,Nat.reduceEqDiff,implies_true,forall_const,lawV,h0,h4,h5,hg,at_new,ho]
         refine ⟨ by omega,⟨by unfold maxLen; omega,by omega⟩,⟨by omega,by omega⟩,dc_mk (i' := i + 1) (x := .o (b ++ [Res.own [u8S (s[i])] 5 1 1 true]).length (d.length + 1)) (d := d ++ [s[i]]) h0 rfl (by simp only [lk,reduceIte,Option.some.injEq,SV.int.injEq,true_and]; omega) ⟨by omega,by simp; omega⟩ (.inr ⟨(b ++ [Res.own [u8S (s[i])] 5 1 1 true]).length,by simp,by omega,by rw [List.getElem?_append_right (by simp)]; simp [u8S]⟩) (hn) (by omega)⟩)
  · have hie : i = s.length := by omega
    subst hie
    rw [List.drop_length,units_nil] at hn
    have hres : decGo (units s) = (d,0) := by rw [← hn]; simp [decGo,comb]
    rw [hres]
    rcases ht with ⟨rfl,hc0,hn0⟩ | ⟨j,rfl,hLj,hj⟩
    · obtain rfl : d = [] := by simpa using hc0
      simp only [lawG,↓Xn,↓Xo,↓Xg,↓Xd,↓Xe,↓Xf,Tryz.VΓ,Tryz.Γs,Xp,Xi,Nat.reduceAdd,Nat.reduceSub,Nat.reduceLT,Nat.reduceLeDiff,reduceIte,reduceCtorEq,Nat.reduceEqDiff,implies_true,forall_const,lawV,h0,h4,h5]
      exact fun h => absurd h (by simp)
    · simp only [lawG,↓Xn,↓Xo,↓Xg,↓Xd,↓Xe,↓Xf,Tryz.VΓ,Tryz.Γs,Xp,Xi,Nat.reduceAdd,Nat.reduceSub,Nat.reduceLT,Nat.reduceLeDiff,reduceIte,reduceCtorEq,Nat.reduceEqDiff,implies_true,forall_const,lawV,h0,h4,h5,hj]
      refine ⟨fun h => absurd h (by simp),fun _ => ⟨isU8_map d,?_⟩⟩
      rw [unU8_map]
set_option maxRecDepth 20000 in
set_option maxHeartbeats 4000000 in
theorem p_r3_Decode (s : Bytes) : PC Tryz.V 73 [.str s] (.tup [.str (pctDecode s).1,.int .i64 (pctDecode s).2]) := by
  have hpd : pctDecode s = if 16384 < s.length then ([],5) else decGo (units s) := by unfold pctDecode; rw [decGo_eq]
  rw [hpd]
  refine pc_of 3000 Tryz.func73 rfl Tryz.ntmps73 Tryz.results73 Tryz.call73 (by simp) (by simp [flat,flat.flatL]) (by simp [flat,flat.flatL]) ?_
  simp only [lawG,↓Xn,↓Xo,↓Xg,↓Xd,↓Xe,↓Xf,Tryz.VΓ,Tryz.Γs,Xp,Xi,Nat.reduceAdd,Nat.reduceSub,Nat.reduceLT,Nat.reduceLeDiff,reduceIte,reduceCtorEq,Nat.reduceEqDiff,implies_true,forall_const,lawV]
  refine ⟨fun hl => ?_,fun hl => ?_⟩
  · have hl : 16384 < s.length := (by simp at hl; omega)
    rw [if_pos hl]
  have hl : s.length ≤ 16384 := (by simp at hl; omega)
  rw [if_neg (by omega)]
  refine loopV_mk (DcI s) (DcM s) ⟨0,.nils,[],rfl,rfl,rfl,by omega,by simp,.inl ⟨rfl,rfl,rfl⟩,comb_nil _ (decGo_err _)⟩ ?_
  rintro ⟨t,b⟩ ⟨i,x,d,h0,h4,h5,hi,hd,ht,hn⟩
  simp only at h0 h4 h5 ht
  rw [DcM_eq h5]
  by_cases hlt : i < s.length
  · have hu := units_step hlt
    have hg : s.getD i 0 = s[i] := by simp [List.getD,hlt]
    simp only [lawG,↓Xn,↓Xo,↓Xg,↓Xd,↓Xe,↓Xf,Tryz.VΓ,Tryz.Γs,Xp,Xi,Nat.reduceAdd,Nat.reduceSub,Nat.reduceLT,Nat.reduceLeDiff,reduceIte,reduceCtorEq,Nat.reduceEqDiff,implies_true,forall_const,lawV,h0,h4,h5]
    refine ⟨fun _ => ⟨⟨by omega,by omega⟩,fun hc => ?_,fun hc => ?_⟩,fun h => absurd h (by simp; omega)⟩
    · have hc : s[i] = 37 := by
        rw [byte_is (n := 37) hlt 37 rfl] at hc
        simpa using hc
      rw [if_pos hc] at hu
      have pe := p_r3_escape s i hlt hc (by omega)
      cases he : escAt s i with
      | none =>
        rw [he] at pe hu
        simp only at hu
        rw [hu] at hn
        have hres : decGo (units s) = ([],2) := by rw [← hn]; rfl
        rw [hres]
        (refine callV_pc pe ?_; simp only [lawG,↓Xn,↓Xo,↓Xg,↓Xd,↓Xe,↓Xf,Tryz.VΓ,Tryz.Γs,Xp,Xi,Nat.reduceAdd,Nat.reduceSub,Nat.reduceLT,Nat.reduceLeDiff,reduceIte,reduceCtorEq,Nat.reduceEqDiff,implies_true,forall_const,lawV,h0,h4,h5,Option.isSome_none])
      | some v =>
        rw [he] at pe hu
        have hx := he
        unfold escAt at hx
        obtain ⟨⟨a,bb,r⟩,hp,hv⟩ := Option.map_eq_some_iff.1 hx
        simp only at hv
        rw [hp] at hu
        simp only at hu
        have hi3 : i + 3 ≤ s.length := by
          obtain ⟨h1,-,-⟩ := hexPair_some hp
          have := congrArg List.length h1
          simp at this
          omega
        have hn2 : comb (d ++ [v]) (decGo (units (s.drop (i + 2 + 1)))) = decGo (units s) := by
          rw [← hn,hu,decGo,comb_comb,hv]
        simp only [Option.getD_some,Option.isSome_some] at pe
        (refine callV_pc pe ?_; simp only [lawG,↓Xn,↓Xo,↓Xg,↓Xd,↓Xe,↓Xf,Tryz.VΓ,Tryz.Γs,Xp,Xi,Nat.reduceAdd,Nat.reduceSub,Nat.reduceLT,Nat.reduceLeDiff,reduceIte,reduceCtorEq,Nat.reduceEqDiff,implies_true,forall_const,lawV,h0,h4,h5])
        (rcases ht with ⟨rfl,hc0,hn0⟩ | ⟨j,rfl,hLj,hj⟩
         · obtain rfl : d = [] := by simpa using hc0
           simp only [lawG,↓Xn,↓Xo,↓Xg,↓Xd,↓Xe,↓Xf,Tryz.VΓ,Tryz.Γs,Xp,Xi,Nat.reduceAdd,Nat.reduceSub,Nat.reduceLT,Nat.reduceLeDiff,reduceIte,reduceCtorEq,Nat.reduceEqDiff,implies_true,forall_const,lawV,h0,h4,h5,hg,at_new]
           refine ⟨⟨by omega,by omega⟩,by omega,⟨by unfold maxLen; omega,by omega⟩,⟨by omega,by omega⟩,dc_mk (i' := i + 2 + 1) (x := .o (b ++ [Res.own [u8S (v)] 5 1 1 true]).length 1) (d := [] ++ [v]) h0 rfl (by simp only [lk,reduceIte,Option.some.injEq,SV.int.injEq,true_and]; omega) ⟨by omega,by simp only [List.nil_append,List.length_cons,List.length_nil]; omega⟩ (.inr ⟨_,rfl,by omega,at_new _ _⟩) (hn2) (by omega)⟩
         · have hjl : j < b.length := (List.getElem?_eq_some_iff.1 hj).1
           have ho : ∀ X,(b ++ [X])[j]? = some (.own (d.map u8S) 5 1 d.length true) := fun X => at_old hj [X]
           simp only [lawG,↓Xn,↓Xo,↓Xg,↓Xd,↓Xe,↓Xf,Tryz.VΓ,Tryz.Γs,Xp,Xi,Nat.reduceAdd,Nat.reduceSub,Nat.reduceLT,Nat.reduceLeDiff,reduceIte,reduceCtorEq,Nat.reduceEqDiff,implies_true,forall_const,lawV,h0,h4,h5,hg,at_new,ho]
           refine ⟨⟨by omega,by omega⟩,by omega,⟨by unfold maxLen; omega,by omega⟩,⟨by omega,by omega⟩,dc_mk (i' := i + 2 + 1) (x := .o (b ++ [Res.own [u8S (v)] 5 1 1 true]).length (d.length + 1)) (d := d ++ [v]) h0 rfl (by simp only [lk,reduceIte,Option.some.injEq,SV.int.injEq,true_and]; omega) ⟨by omega,by simp; omega⟩ (.inr ⟨(b ++ [Res.own [u8S (v)] 5 1 1 true]).length,by simp,by omega,by rw [List.getElem?_append_right (by simp)]; simp [u8S]⟩) (hn2) (by omega)⟩)
    · have hc : ¬ s[i] = 37 := by
        rw [byte_is (n := 37) hlt 37 rfl] at hc
        simpa using hc
      rw [if_neg hc] at hu
      rw [hu,decGo,comb_comb] at hn
      rw [hg]
      (rcases ht with ⟨rfl,hc0,hn0⟩ | ⟨j,rfl,hLj,hj⟩
       · obtain rfl : d = [] := by simpa using hc0
         simp only [lawG,↓Xn,↓Xo,↓Xg,↓Xd,↓Xe,↓Xf,Tryz.VΓ,Tryz.Γs,Xp,Xi,Nat.reduceAdd,Nat.reduceSub,Nat.reduceLT,Nat.reduceLeDiff,reduceIte,reduceCtorEq,Nat.reduceEqDiff,implies_true,forall_const,lawV,h0,h4,h5,hg,at_new]
         refine ⟨ by omega,⟨by unfold maxLen; omega,by omega⟩,⟨by omega,by omega⟩,dc_mk (i' := i + 1) (x := .o (b ++ [Res.own [u8S (s[i])] 5 1 1 true]).length 1) (d := [] ++ [s[i]]) h0 rfl (by simp only [lk,reduceIte,Option.some.injEq,SV.int.injEq,true_and]; omega) ⟨by omega,by simp only [List.nil_append,List.length_cons,List.length_nil]; omega⟩ (.inr ⟨_,rfl,by omega,at_new _ _⟩) (hn) (by omega)⟩
       · have hjl : j < b.length := (List.getElem?_eq_some_iff.1 hj).1
         have ho : ∀ X,(b ++ [X])[j]? = some (.own (d.map u8S) 5 1 d.length true) := fun X => at_old hj [X]
         simp only [lawG,↓Xn,↓Xo,↓Xg,↓Xd,↓Xe,↓Xf,Tryz.VΓ,Tryz.Γs,Xp,Xi,Nat.reduceAdd,Nat.reduceSub,Nat.reduceLT,Nat.reduceLeDiff,reduceIte,reduceCtorEq,Nat.reduceEqDiff,implies_true,forall_const,lawV,h0,h4,h5,hg,at_new,ho]
         refine ⟨ by omega,⟨by unfold maxLen; omega,by omega⟩,⟨by omega,by omega⟩,dc_mk (i' := i + 1) (x := .o (b ++ [Res.own [u8S (s[i])] 5 1 1 true]).length (d.length + 1)) (d := d ++ [s[i]]) h0 rfl (by simp only [lk,reduceIte,Option.some.injEq,SV.int.injEq,true_and]; omega) ⟨by omega,by simp; omega⟩ (.inr ⟨(b ++ [Res.own [u8S (s[i])] 5 1 1 true]).length,by simp,by omega,by rw [List.getElem?_append_right (by simp)]; simp [u8S]⟩) (hn) (by omega)⟩)
  · have hie : i = s.length := by omega
    subst hie
    rw [List.drop_length,units_nil] at hn
    have hres : decGo (units s) = (d,0) := by rw [← hn]; simp [decGo,comb]
    rw [hres]
    rcases ht with ⟨rfl,hc0,hn0⟩ | ⟨j,rfl,hLj,hj⟩
    · obtain rfl : d = [] := by simpa using hc0
      simp only [lawG,↓Xn,↓Xo,↓Xg,↓Xd,↓Xe,↓Xf,Tryz.VΓ,Tryz.Γs,Xp,Xi,Nat.reduceAdd,Nat.reduceSub,Nat.reduceLT,Nat.reduceLeDiff,reduceIte,reduceCtorEq,Nat.reduceEqDiff,implies_true,forall_const,lawV,h0,h4,h5]
      exact fun h => absurd h (by simp)
    · simp only [lawG,↓Xn,↓Xo,↓Xg,↓Xd,↓Xe,↓Xf,Tryz.VΓ,Tryz.Γs,Xp,Xi,Nat.reduceAdd,Nat.reduceSub,Nat.reduceLT,Nat.reduceLeDiff,reduceIte,reduceCtorEq,Nat.reduceEqDiff,implies_true,forall_const,lawV,h0,h4,h5,hj]
      refine ⟨fun h => absurd h (by simp),fun _ => ⟨isU8_map d,?_⟩⟩
      rw [unU8_map]
theorem sub_one {s : Bytes} {i : Nat} (h : i < s.length) : (s.take (i + 1)).drop i = [s[i]] := by
  rw [List.take_succ_eq_append_getElem h]
  exact List.drop_left' (by simp; omega)
end Go.Proofs.YtejfjmcjicpodaaGreatDoor
/- Plain functions and laws of package mail. -/
set_option linter.all false
namespace Wf
open Go Go.RowKit
structure Mail where
  loc : Bytes
  host : Bytes
  deriving DecidableEq
def Mail.none : Mail := ⟨[],[]⟩
end Wf
/- The walks of package number. -/
set_option linter.all false
namespace Go.Proofs.YtejfjmcjicpodaaGreatDoor
open Go.RowKit Wf
attribute [local go_sem] ex_list app_list get_list

end Go.Proofs.YtejfjmcjicpodaaGreatDoor
/- The walks of package host. -/
set_option linter.all false
namespace Go.Proofs.YtejfjmcjicpodaaGreatDoor
open Go.RowKit Wf
attribute [local go_sem] ex_list app_list get_list

end Go.Proofs.YtejfjmcjicpodaaGreatDoor
/- The walks of package host: ports,hosts with ports,texts. -/
set_option linter.all false
namespace Go.Proofs.YtejfjmcjicpodaaGreatDoor
open Go.RowKit Go.Sort Wf
attribute [local go_sem] ex_list app_list get_list

end Go.Proofs.YtejfjmcjicpodaaGreatDoor
/- Slices of the call's own: one element appended. -/
set_option linter.all false
namespace Wf
open Go Go.RowKit
end Wf
/- The walks of the reference of package host. -/
set_option linter.all false
namespace Go.Proofs.YtejfjmcjicpodaaGreatDoor
open Go.RowKit Go.Sort Wf
attribute [local go_sem] ex_list app_list get_list

end Go.Proofs.YtejfjmcjicpodaaGreatDoor
/- The walks of the reference of package host: hosts,ports,texts. -/
set_option linter.all false
namespace Go.Proofs.YtejfjmcjicpodaaGreatDoor
open Go.RowKit Go.Sort Wf
attribute [local go_sem] ex_list app_list get_list

end Go.Proofs.YtejfjmcjicpodaaGreatDoor
/- The contracts of package host and its reference,for the calculus of conditions. -/
set_option linter.all false
set_option maxRecDepth 20000
namespace Go.Proofs.YtejfjmcjicpodaaGreatDoor
open Go Vc Go.RowKit Wf
end Go.Proofs.YtejfjmcjicpodaaGreatDoor
/- The walk of the reference's Split. -/
set_option linter.all false
set_option maxRecDepth 20000
namespace Go.Proofs.YtejfjmcjicpodaaGreatDoor
open Go Vc Go.RowKit Wf
set_option linter.unusedSimpArgs false
theorem splitC_step {c : UInt8} {s : Bytes} {a i : Nat} (hi : i < s.length) (ha : a ≤ i) (hp : i - a ≤ pre (· == c) (s.drop a)) (hc : s[i] = c) : splitC c (s.drop a) = (s.take i).drop a :: splitC c (s.drop (i + 1)) := by
  have hpre : pre (· == c) (s.drop a) = i - a := by
    apply Nat.le_antisymm _ hp
    apply Nat.le_of_not_lt
    intro hlt
    have := pre_get (p := (· == c)) (l := s.drop a) (k := i - a) hlt (by simp; omega)
    simp [show a + (i - a) = i by omega,hc] at this
  rw [splitC_hit (by rw [hpre,List.length_drop]; omega),hpre,List.drop_drop,List.drop_take,show a + (i - a + 1) = i + 1 by omega]
theorem pre_more1 {c : UInt8} {s : Bytes} {a i : Nat} (hi : i < s.length) (ha : a ≤ i) (hp : i - a ≤ pre (· == c) (s.drop a)) (hc : s[i] ≠ c) : i + 1 - a ≤ pre (· == c) (s.drop a) := by
  apply Nat.le_of_not_lt
  intro hlt
  have hpre : pre (· == c) (s.drop a) = i - a := by omega
  have := pre_at (p := (· == c)) (l := s.drop a) (by rw [hpre,List.length_drop]; omega)
  simp [hpre,show a + (i - a) = i by omega] at this
  exact hc this
def SplI (bs : List Res) (s : Bytes) (c : UInt8) (σ : St) : Prop := ∃ (i a : Nat) (x : SV) (dn : List Bytes),lk 0 σ.t = some (.str s) ∧ lk 1 σ.t = some (.int .u8 c.toNat) ∧ lk 5 σ.t = some x ∧ lk 6 σ.t = some (.int .i64 a) ∧ lk 7 σ.t = some (.int .i64 i) ∧
  a ≤ i ∧ i ≤ s.length ∧ dn.length ≤ a ∧ i - a ≤ pre (· == c) (s.drop a) ∧ dn ++ splitC c (s.drop a) = splitC c s ∧ Sl 9 1 bs.length x σ.b (dn.map SV.str) dn.length ∧ Kp bs σ.b
def SplM (s : Bytes) (σ : St) : Nat := match lk 7 σ.t with
  | some (.int _ k) => s.length - k.toNat
  | _ => 0
theorem SplM_eq {s : Bytes} {σ : St} {k : Nat} (h : lk 7 σ.t = some (.int .i64 k)) : SplM s σ = s.length - k := by simp [SplM,h]
theorem spl_mk {bs b : List Res} {s : Bytes} {c : UInt8} {t : List (Nat × SV)} {i i' a : Nat} {x : SV} {dn : List Bytes} (h0 : lk 0 t = some (.str s)) (h1 : lk 1 t = some (.int .u8 c.toNat)) (h5 : lk 5 t = some x) (h6 : lk 6 t = some (.int .i64 a)) (h7 : lk 7 t = some (.int .i64 i'))
    (h : a ≤ i' ∧ i' ≤ s.length ∧ dn.length ≤ a ∧ i' - a ≤ pre (· == c) (s.drop a)) (hsp : dn ++ splitC c (s.drop a) = splitC c s) (hsl : Sl 9 1 bs.length x b (dn.map SV.str) dn.length) (hkp : Kp bs b) (hlt : i < i') : SplI bs s c ⟨t,b⟩ ∧ SplM s ⟨t,b⟩ < s.length - i :=
  ⟨⟨i',a,x,dn,h0,h1,h5,h6,h7,h.1,h.2.1,h.2.2.1,h.2.2.2,hsp,hsl,hkp⟩,by rw [SplM_eq h7]; omega⟩
set_option maxHeartbeats 1000000 in
theorem sc_Split {bs : List Res} (s : Bytes) (c : UInt8) (hs : s.length ≤ 1000000) :
    SC Tryz.V 72 [.str s,.int .u8 c.toNat] bs (fun r b => ∃ j,r = .o j (splitC c s).length ∧ bs.length ≤ j ∧ b[j]? = some (.own ((splitC c s).map SV.str) 9 1 (splitC c s).length true) ∧ Kp bs b) := by
  refine sc_of 3000 Tryz.func72 rfl Tryz.ntmps72 Tryz.results72 Tryz.call72 (by simp) (fun β β' hb => concL_within bs.length _ (by simp [within,within.withinL]) β β' hb) ?_
  simp only [lawG,↓Xn,↓Xo,↓Xg,↓Xd,↓Xe,↓Xf,Tryz.VΓ,Tryz.Γs,Xp,Xi,Nat.reduceAdd,Nat.reduceSub,Nat.reduceLT,Nat.reduceLeDiff,reduceIte,reduceCtorEq,Nat.reduceEqDiff,implies_true,forall_const,lawV]
  refine loopV_mk (SplI bs s c) (SplM s) ⟨0,0,.nils,[],rfl,rfl,rfl,rfl,rfl,by simp,by simp,by simp,by simp,by simp,.inl ⟨rfl,rfl,rfl⟩,Kp.refl _⟩ ?_
  rintro ⟨t,b⟩ ⟨i,a,x,dn,h0,h1,h5,h6,h7,hai,his,hda,hp,hsp,hsl,hkp⟩
  simp only at h0 h1 h5 h6 h7 hsl hkp
  rw [SplM_eq h7]
  rcases hsl with ⟨rfl,hc0,hda0⟩ | ⟨j,rfl,hLj,hj⟩
  · obtain rfl : dn = [] := by simpa using hc0
    simp only [lawG,↓Xn,↓Xo,↓Xg,↓Xd,↓Xe,↓Xf,Tryz.VΓ,Tryz.Γs,Xp,Xi,Nat.reduceAdd,Nat.reduceSub,Nat.reduceLT,Nat.reduceLeDiff,reduceIte,reduceCtorEq,Nat.reduceEqDiff,implies_true,forall_const,lawV,h0,h1,h5,h6,h7,at_new]
    refine ⟨fun hc => ?_,fun hc => ?_⟩
    · have hi : i < s.length := by simpa using hc
      refine ⟨⟨by omega,by omega⟩,fun hq => ⟨⟨by omega,by omega,by omega⟩,by omega,⟨by unfold maxLen; omega,by omega⟩,⟨by omega,by omega⟩,⟨by omega,by omega⟩,?_⟩,fun hq => ⟨⟨by omega,by omega⟩,?_⟩⟩
      · rw [byte_is hi c rfl] at hq
        have hst := splitC_step hi hai hp (by simpa using hq)
        refine spl_mk (i' := i + 1) (a := i + 1) (dn := [(s.take i).drop a]) h0 h1 (by simp [lk]) rfl rfl ⟨by omega,by omega,by simp,by omega⟩ ?_ (.inr ⟨(b ++ [Res.own [.str ((s.take i).drop a)] 9 1 1 true]).length,rfl,?_,at_new _ _⟩) ((hkp.app _).app _) (by omega)
        · rw [← hsp,hst]; simp
        · have := hkp.1; simp; omega
      · rw [byte_is hi c rfl] at hq
        exact spl_mk (i' := i + 1) (dn := []) h0 h1 h5 h6 rfl ⟨by omega,by omega,by simp,pre_more1 hi hai hp (by simpa using hq)⟩ hsp (.inl ⟨rfl,rfl,rfl⟩) hkp (by omega)
    · have hi : i = s.length := by simp at hc; omega
      refine ⟨⟨by omega,by omega⟩,by omega,⟨by unfold maxLen; omega,by omega⟩,?_⟩
      have hms : splitC c s = [s.drop a] := by
        rw [← hsp,splitC_miss (by rw [List.length_drop]; omega)]; rfl
      rw [hms]
      refine ⟨(b ++ [Res.own [.str (s.drop a)] 9 1 1 true]).length,rfl,?_,at_new _ _,(hkp.app _).app _⟩
      have := hkp.1; simp; omega
  · have h2 : ∀ X,(b ++ [X])[j]? = some (.own (dn.map SV.str) 9 1 dn.length true) := fun X => at_old hj _
    simp only [lawG,↓Xn,↓Xo,↓Xg,↓Xd,↓Xe,↓Xf,Tryz.VΓ,Tryz.Γs,Xp,Xi,Nat.reduceAdd,Nat.reduceSub,Nat.reduceLT,Nat.reduceLeDiff,reduceIte,reduceCtorEq,Nat.reduceEqDiff,implies_true,forall_const,lawV,h0,h1,h5,h6,h7,at_new,h2]
    have hjl : j < b.length := (List.getElem?_eq_some_iff.1 hj).1
    refine ⟨fun hc => ?_,fun hc => ?_⟩
    · have hi : i < s.length := by simpa using hc
      refine ⟨⟨by omega,by omega⟩,fun hq => ⟨⟨by omega,by omega,by omega⟩,by omega,⟨by unfold maxLen; omega,by omega⟩,⟨by omega,by omega⟩,⟨by omega,by omega⟩,?_⟩,fun hq => ⟨⟨by omega,by omega⟩,?_⟩⟩
      · rw [byte_is hi c rfl] at hq
        have hst := splitC_step hi hai hp (by simpa using hq)
        refine spl_mk (i' := i + 1) (a := i + 1) (dn := dn ++ [(s.take i).drop a]) h0 h1 (by simp [lk]; rfl) rfl rfl ⟨by omega,by omega,by simp; omega,by omega⟩ ?_ (.inr ⟨(b ++ [Res.own [.str ((s.take i).drop a)] 9 1 1 true]).length,by simp,?_,?_⟩) (((hkp.app _).set hLj _).app _) (by omega)
        · rw [← hsp,hst]; simp
        · have := hkp.1; simp; omega
        · rw [List.getElem?_append_right (by simp)]; simp
      · rw [byte_is hi c rfl] at hq
        exact spl_mk (i' := i + 1) (dn := dn) h0 h1 h5 h6 rfl ⟨by omega,by omega,hda,pre_more1 hi hai hp (by simpa using hq)⟩ hsp (.inr ⟨j,rfl,hLj,hj⟩) hkp (by omega)
    · have hi : i = s.length := by simp at hc; omega
      refine ⟨⟨by omega,by omega⟩,by omega,⟨by unfold maxLen; omega,by omega⟩,?_⟩
      have hms : splitC c s = dn ++ [s.drop a] := by
        rw [← hsp,splitC_miss (c := c) (s := s.drop a) (by rw [List.length_drop]; omega)]
      rw [hms]
      refine ⟨(b ++ [Res.own [.str (s.drop a)] 9 1 1 true]).length,by simp,?_,?_,((hkp.app _).set hLj _).app _⟩
      · have := hkp.1; simp; omega
      · rw [List.getElem?_append_right (by simp)]; simp
end Go.Proofs.YtejfjmcjicpodaaGreatDoor
/- The walks of package mail and of its reference. -/
set_option linter.all false
set_option maxRecDepth 20000
namespace Go.Proofs.YtejfjmcjicpodaaGreatDoor
open Go Vc Go.RowKit Wf
end Go.Proofs.YtejfjmcjicpodaaGreatDoor
/- The walks of package weburl and its reference: Target,Origin,Format. -/
set_option linter.all false
set_option maxRecDepth 20000
namespace Go.Proofs.YtejfjmcjicpodaaGreatDoor
open Go Vc Go.RowKit Wf
set_option linter.unusedSimpArgs false
theorem pre_mem (l : Bytes) (c : UInt8) : pre (· == c) l < l.length ↔ c ∈ l := by
  induction l with
  | nil => simp [pre]
  | cons x l ih =>
    rw [pre_cons]
    by_cases h : x = c
    · simp [h]
    · rw [if_neg (by simpa using h)]
      simp only [List.length_cons,Nat.add_lt_add_iff_right,ih,List.mem_cons]
      exact ⟨.inr,fun k => k.resolve_left fun e => h e.symm⟩
theorem contains_one (l : Bytes) (c : UInt8) : decide (0 ≤ Lib.indexByte l c) = decide (c ∈ l) := by
  rw [indexByte_pre]
  by_cases h : c ∈ l
  · rw [if_pos ((pre_mem l c).2 h)]; simp [h]
  · rw [if_neg (fun k => h ((pre_mem l c).1 k))]; simp [h]
theorem p_Contains (l : Bytes) (c : UInt8) : PC Tryz.V 94 [.str l,.str [c]] (.bool (decide (c ∈ l))) :=
  ⟨Tryz.call94,by simp [flat,flat.flatL],by simp [flat,flat.flatL],fun w hE => (Tryz.strings_Contains_one ⟨List.toArray l⟩ c w).mono fun _ _ ⟨h,k⟩ => ⟨by
    rw [h]
    have e : decide (0 ≤ Lib.indexByte l c) = decide (c ∈ l) := contains_one l c
    rw [← e]; rfl,below_same k.symm⟩⟩
end Go.Proofs.YtejfjmcjicpodaaGreatDoor
/- The walks of package did. -/
set_option linter.all false
set_option maxRecDepth 20000
namespace Go.Proofs.YtejfjmcjicpodaaGreatDoor
open Go Vc Go.RowKit Wf
set_option linter.unusedSimpArgs false
def dsv (d : Did) : SV := .agg [.str d.method,.str d.id]
def dusv (u : DidUrl) : SV := .agg [.str u.did.method,.str u.did.id,.str u.path,.str u.query,.str u.fragment,.bool u.hasQuery,.bool u.hasFrag]
theorem p_ReplaceAll (s : Bytes) (c : UInt8) (new : Bytes) (hne : ([c] == new) = false) (hs : s.length ≤ 1000000) (hn : new.length ≤ 1000) : PC Tryz.V 95 [.str s,.str [c],.str new] (.str (s.flatMap (repB c new))) :=
  ⟨Tryz.call95,by simp [flat,flat.flatL],by simp [flat,flat.flatL],fun w ⟨m,hm⟩ => by
    have hc : Lib.countB ⟨List.toArray s⟩ ⟨#[c]⟩ ≤ s.length + 1 := Lib.count_le s [c]
    have hm2 : Lib.countB ⟨List.toArray s⟩ ⟨#[c]⟩ * new.length ≤ 1000001 * 1000 := Nat.mul_le_mul (by omega) hn
    refine (Tryz.strings_ReplaceAll ⟨List.toArray s⟩ ⟨#[c]⟩ ⟨List.toArray new⟩ m w (show s.length < 4294967281 by omega) hm (Nat.le_refl 1) (show s.length + Lib.countB ⟨List.toArray s⟩ ⟨#[c]⟩ * new.length ≤ 140737488355328 by omega)).mono fun _ _ ⟨h,k⟩ => ⟨?_,k⟩
    rw [h,← replaceAll_one c new s hne]
    rfl⟩
theorem p_HasSuffix (s : Bytes) (c : UInt8) (hs : s.length ≤ 1000000) : PC Tryz.V 64 [.str s,.str [c]] (.bool (decide (s.getLast? = some c))) :=
  ⟨Tryz.call64,by simp [flat,flat.flatL],by simp [flat,flat.flatL],fun w _ => (Tryz.strings_HasSuffix ⟨List.toArray s⟩ ⟨#[c]⟩ w (show s.length ≤ 9223372036854775807 by omega)).mono fun _ _ ⟨h,k⟩ => ⟨by
    rw [h]
    have e : Lib.hasSuffix s [c] = decide (s.getLast? = some c) := by
      unfold Lib.hasSuffix
      rcases List.eq_nil_or_concat s with rfl | ⟨a,d,rfl⟩
      · rfl
      · rw [List.concat_eq_append,Bool.eq_iff_iff,List.isSuffixOf_iff_suffix,decide_eq_true_eq,List.getLast?_concat,Option.some.injEq]
        constructor
        · rintro ⟨t,ht⟩
          have := congrArg List.getLast? ht
          simpa using this.symm
        · rintro rfl; exact ⟨a,rfl⟩
    rw [← e]; rfl,below_same k.symm⟩⟩
theorem methodC_is (c : UInt8) (h : isDigit c = false) : methodC c = (decide (97 ≤ c.toNat) && decide (c.toNat ≤ 122)) := by
  unfold methodC; rw [h]; simp [Bool.decide_and]
set_option maxHeartbeats 2000000 in
theorem p_did_method (s : Bytes) (hs : s.length ≤ 1000000) : PC Tryz.V 62 [.str s] (.bool (methodOk s)) := by
  refine pc_of 3000 Tryz.func62 rfl Tryz.ntmps62 Tryz.results62 Tryz.call62 (by simp) (by simp [flat,flat.flatL]) (by simp [flat,flat.flatL]) ?_
  simp only [lawG,↓Xn,↓Xo,↓Xg,↓Xd,↓Xe,↓Xf,Tryz.VΓ,Tryz.Γs,Xp,Xi,Nat.reduceAdd,Nat.reduceSub,Nat.reduceLT,Nat.reduceLeDiff,reduceIte,reduceCtorEq,Nat.reduceEqDiff,implies_true,forall_const,lawV]
  refine loopV_mk (fun σ => ∃ i : Nat,i ≤ s.length ∧ lk 0 σ.t = some (.str s) ∧ lk 4 σ.t = some (.str s) ∧ lk 5 σ.t = some (.int .i64 s.length) ∧ lk 6 σ.t = some (.int .i64 i) ∧ (s.take i).all methodC = true) (fun σ => s.length - lkI 6 σ) ⟨0,by omega,rfl,rfl,rfl,rfl,rfl⟩ ?_
  rintro ⟨t,b⟩ ⟨i,hi,h0,h4,h5,h6,hok⟩
  simp only at h0 h4 h5 h6
  rw [lkI_eq h6]
  by_cases hlt : i < s.length
  · have hg : s.getD i 0 = s[i] := by simp [List.getD,hlt]
    have hbad : methodC s[i] = false → methodOk s = false := fun h => by
      unfold methodOk
      rw [all_not hlt h,Bool.and_false]
    simp only [lawG,↓Xn,↓Xo,↓Xg,↓Xd,↓Xe,↓Xf,Tryz.VΓ,Tryz.Γs,Xp,Xi,Nat.reduceAdd,Nat.reduceSub,Nat.reduceLT,Nat.reduceLeDiff,reduceIte,reduceCtorEq,Nat.reduceEqDiff,implies_true,forall_const,lawV,h0,h4,h5,h6,hg]
    refine ⟨fun _ => ⟨⟨by omega,by omega⟩,?_⟩,fun h => absurd h (by simp; omega)⟩
    (refine callV_pc (p_IsDigit s[i]) ?_; simp only [lawG,↓Xn,↓Xo,↓Xg,↓Xd,↓Xe,↓Xf,Tryz.VΓ,Tryz.Γs,Xp,Xi,Nat.reduceAdd,Nat.reduceSub,Nat.reduceLT,Nat.reduceLeDiff,reduceIte,reduceCtorEq,Nat.reduceEqDiff,implies_true,forall_const,lawV,h0,h4,h5,h6,hg])
    have fin : methodC s[i] = true → ∀ (t' : List (Nat × SV)),lk 6 t' = some (.int .i64 ((i : Int) + 1)) → (∃ k : Nat,k ≤ s.length ∧ SV.int IntKind.i64 ((i : Int) + 1) = SV.int IntKind.i64 (k : Int) ∧ (s.take k).all methodC = true) ∧ s.length - lkI 6 ⟨t',b⟩ < s.length - (i : Int).toNat := fun hm t' k6 =>
      ⟨⟨i + 1,by omega,rfl,all_take_snoc hlt hok hm⟩,by rw [lkI_eq (σ := ⟨t',b⟩) k6]; omega⟩
    cases hd : isDigit s[i]
    · refine ⟨fun _ => ⟨⟨by omega,by omega⟩,fun h1 => ⟨⟨by omega,by omega⟩,fun h2 => ?_,fun h2 => ⟨⟨by omega,by omega⟩,fin ?_ _ rfl⟩⟩,fun h1 => ?_⟩,fun h => (by cases h)⟩
      · rw [hbad (by rw [methodC_is _ hd]; simp at h1 h2 ⊢; omega)]
      · rw [methodC_is _ hd]; simp at h1 h2 ⊢; omega
      · rw [hbad (by rw [methodC_is _ hd]; simp at h1 ⊢; omega)]
    · exact ⟨fun h => (by cases h),fun _ => ⟨⟨by omega,by omega⟩,fin (by unfold methodC; rw [hd]; rfl) _ rfl⟩⟩
  · have hie : i = s.length := by omega
    subst hie
    rw [List.take_length] at hok
    simp only [lawG,↓Xn,↓Xo,↓Xg,↓Xd,↓Xe,↓Xf,Tryz.VΓ,Tryz.Γs,Xp,Xi,Nat.reduceAdd,Nat.reduceSub,Nat.reduceLT,Nat.reduceLeDiff,reduceIte,reduceCtorEq,Nat.reduceEqDiff,implies_true,forall_const,lawV,h0,h4,h5,h6]
    refine ⟨fun h => absurd h (by simp),fun _ => ?_⟩
    unfold methodOk
    rw [hok,Bool.and_true]
    cases s <;> rfl
set_option maxHeartbeats 2000000 in
theorem p_did_canonical (s : Bytes) (hs : s.length ≤ 4096) : PC Tryz.V 63 [.str s] (.tup [.str (progCanon s).1,.int .i64 (progCanon s).2]) := by
  have pn := p_Normalize s [58] (by decide)
  have pd := p_Decode s
  have pc := p_Contains s 126
  have pr := p_ReplaceAll (pctNorm [58] s).1 126 [37,55,69] (by decide) (by have := pctNorm_len [58] s; omega) (by decide)
  unfold progCanon
  generalize pctNorm [58] s = n at *
  generalize pctDecode s = d at *
  obtain ⟨n,e⟩ := n
  obtain ⟨d,f⟩ := d
  simp only at pn pd pr ⊢
  refine pc_of 3000 Tryz.func63 rfl Tryz.ntmps63 Tryz.results63 Tryz.call63 (by simp) (by simp [flat,flat.flatL]) (by simp [flat,flat.flatL]) ?_
  simp only [lawG,↓Xn,↓Xo,↓Xg,↓Xd,↓Xe,↓Xf,Tryz.VΓ,Tryz.Γs,Xp,Xi,Nat.reduceAdd,Nat.reduceSub,Nat.reduceLT,Nat.reduceLeDiff,reduceIte,reduceCtorEq,Nat.reduceEqDiff,implies_true,forall_const,lawV]
  (refine callV_pc (pn) ?_; simp only [lawG,↓Xn,↓Xo,↓Xg,↓Xd,↓Xe,↓Xf,Tryz.VΓ,Tryz.Γs,Xp,Xi,Nat.reduceAdd,Nat.reduceSub,Nat.reduceLT,Nat.reduceLeDiff,reduceIte,reduceCtorEq,Nat.reduceEqDiff,implies_true,forall_const,lawV])
  (refine callV_pc (pd) ?_; simp only [lawG,↓Xn,↓Xo,↓Xg,↓Xd,↓Xe,↓Xf,Tryz.VΓ,Tryz.Γs,Xp,Xi,Nat.reduceAdd,Nat.reduceSub,Nat.reduceLT,Nat.reduceLeDiff,reduceIte,reduceCtorEq,Nat.reduceEqDiff,implies_true,forall_const,lawV])
  refine ⟨fun h1 => ?_,fun h1 => ?_⟩
  · rw [if_pos (by simpa using h1)]
  rw [if_neg (by simpa using h1)]
  refine ⟨fun h2 => ?_,fun h2 => ?_⟩
  · have h2 : e = 0 := by simpa using h2
    (refine callV_pc pc ?_; simp only [lawG,↓Xn,↓Xo,↓Xg,↓Xd,↓Xe,↓Xf,Tryz.VΓ,Tryz.Γs,Xp,Xi,Nat.reduceAdd,Nat.reduceSub,Nat.reduceLT,Nat.reduceLeDiff,reduceIte,reduceCtorEq,Nat.reduceEqDiff,implies_true,forall_const,lawV])
    refine ⟨fun h3 => ?_,fun h3 => ?_⟩
    · (refine callV_pc pr ?_; simp only [lawG,↓Xn,↓Xo,↓Xg,↓Xd,↓Xe,↓Xf,Tryz.VΓ,Tryz.Γs,Xp,Xi,Nat.reduceAdd,Nat.reduceSub,Nat.reduceLT,Nat.reduceLeDiff,reduceIte,reduceCtorEq,Nat.reduceEqDiff,implies_true,forall_const,lawV])
      rw [if_pos ⟨h2,of_decide_eq_true h3⟩]
    · (refine callV_pc pr ?_; simp only [lawG,↓Xn,↓Xo,↓Xg,↓Xd,↓Xe,↓Xf,Tryz.VΓ,Tryz.Γs,Xp,Xi,Nat.reduceAdd,Nat.reduceSub,Nat.reduceLT,Nat.reduceLeDiff,reduceIte,reduceCtorEq,Nat.reduceEqDiff,implies_true,forall_const,lawV])
      rw [if_neg (fun k => of_decide_eq_false h3 k.2)]
  · have h2 : ¬ e = 0 := by simpa using h2
    (refine callV_pc pr ?_; simp only [lawG,↓Xn,↓Xo,↓Xg,↓Xd,↓Xe,↓Xf,Tryz.VΓ,Tryz.Γs,Xp,Xi,Nat.reduceAdd,Nat.reduceSub,Nat.reduceLT,Nat.reduceLeDiff,reduceIte,reduceCtorEq,Nat.reduceEqDiff,implies_true,forall_const,lawV])
    rw [if_neg (fun k => h2 k.1)]
theorem progEnd (m s : Bytes) (hs : s.length ≤ 4096) : didEnd m (progCanon s) = didEnd m (didCanon s) := by
  have h := progCanon_eq s (by omega)
  unfold didEnd
  rw [h.1]
  by_cases k : (didCanon s).2 = 0
  · rw [h.2 k]
  · rw [if_pos k,if_pos k]
theorem progCanon_len (s : Bytes) : (progCanon s).1.length ≤ 9 * s.length := by
  unfold progCanon
  split
  · simp
  · have h1 := pctNorm_len [58] s
    have h2 : ∀ l : Bytes,(l.flatMap (repB 126 [37,55,69])).length ≤ 3 * l.length := by
      intro l
      induction l with
      | nil => simp
      | cons c l ih =>
        rw [List.flatMap_cons,List.length_append,List.length_cons]
        have : (repB 126 [37,55,69] c).length ≤ 3 := by unfold repB; split <;> simp
        omega
    have := h2 (pctNorm [58] s).1
    simp only
    omega
set_option maxHeartbeats 2000000 in
theorem p_did_ParseDID (s : Bytes) : PC Tryz.V 23 [.str s] (.tup [dsv (didParse s).1,.int .i64 (didParse s).2]) := by
  refine pc_of 3000 Tryz.func23 rfl Tryz.ntmps23 Tryz.results23 Tryz.call23 (by simp) (by simp [flat,flat.flatL,dsv,dusv]) (by simp [flat,flat.flatL,dsv,dusv]) ?_
  simp only [lawG,↓Xn,↓Xo,↓Xg,↓Xd,↓Xe,↓Xf,Tryz.VΓ,Tryz.Γs,Xp,Xi,Nat.reduceAdd,Nat.reduceSub,Nat.reduceLT,Nat.reduceLeDiff,reduceIte,reduceCtorEq,Nat.reduceEqDiff,implies_true,forall_const,lawV]
  unfold didParse
  refine ⟨fun h => ?_,fun h => ?_⟩
  · have h : 4096 < s.length := (by simp at h; omega)
    rw [if_pos h]; rfl
  have h : ¬ 4096 < s.length := (by simp at h; omega)
  rw [if_neg h]
  have pp := p_CutPrefix s didS
  have hT : didS.isPrefixOf s = true → Lib.trimPrefix s didS = s.drop 4 := fun k => if_pos k
  rw [show Lib.hasPrefix s didS = didS.isPrefixOf s from rfl] at pp
  (refine callV_pc pp ?_; simp only [lawG,↓Xn,↓Xo,↓Xg,↓Xd,↓Xe,↓Xf,Tryz.VΓ,Tryz.Γs,Xp,Xi,Nat.reduceAdd,Nat.reduceSub,Nat.reduceLT,Nat.reduceLeDiff,reduceIte,reduceCtorEq,Nat.reduceEqDiff,implies_true,forall_const,lawV])
  refine ⟨fun h2 => ?_,fun h2 => ?_⟩
  · rw [if_pos (by simpa using h2)]; rfl
  rw [if_neg (by simpa using h2)]
  rw [hT (by simpa using h2)]
  have hS : (s.drop 4).length ≤ 4096 := by simp; omega
  generalize s.drop 4 = S at hS ⊢
  have pc := p_Cut S 58 (by omega)
  have hcl := cutC_len 58 S
  unfold didRest
  generalize cutC 58 S = x at pc hcl ⊢
  obtain ⟨m,i,ok⟩ := x
  simp only at pc hcl ⊢
  (refine callV_pc pc ?_; simp only [lawG,↓Xn,↓Xo,↓Xg,↓Xd,↓Xe,↓Xf,Tryz.VΓ,Tryz.Γs,Xp,Xi,Nat.reduceAdd,Nat.reduceSub,Nat.reduceLT,Nat.reduceLeDiff,reduceIte,reduceCtorEq,Nat.reduceEqDiff,implies_true,forall_const,lawV])
  refine ⟨fun h3 => ?_,fun h3 => ?_⟩
  · rw [if_pos (by simpa using h3)]; rfl
  rw [if_neg (by simpa using h3)]
  (refine callV_pc (p_did_method m (by omega)) ?_; simp only [lawG,↓Xn,↓Xo,↓Xg,↓Xd,↓Xe,↓Xf,Tryz.VΓ,Tryz.Γs,Xp,Xi,Nat.reduceAdd,Nat.reduceSub,Nat.reduceLT,Nat.reduceLeDiff,reduceIte,reduceCtorEq,Nat.reduceEqDiff,implies_true,forall_const,lawV])
  refine ⟨fun h4 => ?_,fun h4 => ?_⟩
  · rw [if_pos (by simpa using h4)]; rfl
  rw [if_neg (by simpa using h4)]
  have hi : i.length ≤ 4096 := by omega
  rw [← progEnd m i hi]
  have pk := p_did_canonical i hi
  have hkl := progCanon_len i
  generalize progCanon i = k at *
  obtain ⟨k,e⟩ := k
  simp only at pk hkl
  have ps := p_HasSuffix k 58 (by omega)
  unfold didEnd
  simp only
  (refine callV_pc pk ?_; simp only [lawG,↓Xn,↓Xo,↓Xg,↓Xd,↓Xe,↓Xf,Tryz.VΓ,Tryz.Γs,Xp,Xi,Nat.reduceAdd,Nat.reduceSub,Nat.reduceLT,Nat.reduceLeDiff,reduceIte,reduceCtorEq,Nat.reduceEqDiff,implies_true,forall_const,lawV])
  refine ⟨fun h5 => ?_,fun h5 => ?_⟩
  · rw [if_pos (by simpa using h5)]; rfl
  rw [if_neg (by simpa using h5)]
  refine ⟨fun h6 => ?_,fun h6 => ?_⟩
  · (refine callV_pc ps ?_; simp only [lawG,↓Xn,↓Xo,↓Xg,↓Xd,↓Xe,↓Xf,Tryz.VΓ,Tryz.Γs,Xp,Xi,Nat.reduceAdd,Nat.reduceSub,Nat.reduceLT,Nat.reduceLeDiff,reduceIte,reduceCtorEq,Nat.reduceEqDiff,implies_true,forall_const,lawV])
    refine ⟨fun h7 => ?_,fun h7 => ?_⟩
    · rw [if_pos (.inr (of_decide_eq_true h7))]; rfl
    · rw [if_neg (by simp only [not_or]; exact ⟨by simpa using h6,of_decide_eq_false h7⟩)]; rfl
  · rw [if_pos (.inl (by simpa using h6))]; rfl
set_option maxRecDepth 20000 in
set_option maxHeartbeats 4000000 in
theorem p_did_Parse (s : Bytes) : PC Tryz.V 98 [.str s] (.tup [dusv (didUrl s).1,.int .i64 (didUrl s).2]) := by
  refine pc_of 3000 Tryz.func98 rfl Tryz.ntmps98 Tryz.results98 Tryz.call98 (by simp) (by simp [flat,flat.flatL,dsv,dusv]) (by simp [flat,flat.flatL,dsv,dusv]) ?_
  simp only [lawG,↓Xn,↓Xo,↓Xg,↓Xd,↓Xe,↓Xf,Tryz.VΓ,Tryz.Γs,Xp,Xi,Nat.reduceAdd,Nat.reduceSub,Nat.reduceLT,Nat.reduceLeDiff,reduceIte,reduceCtorEq,Nat.reduceEqDiff,implies_true,forall_const,lawV]
  unfold didUrl
  refine ⟨fun h => ?_,fun h => ?_⟩
  · have h : 4096 < s.length := (by simp at h; omega)
    rw [if_pos h]; rfl
  have h : ¬ 4096 < s.length := (by simp at h; omega)
  rw [if_neg h]
  have c1 := p_Cut s 35 (by omega)
  have hc1 := cutC_len 35 s
  generalize cutC 35 s = x at c1 hc1 ⊢
  obtain ⟨s1,fr,hf⟩ := x
  simp only at c1 hc1 ⊢
  have c2 := p_Cut s1 63 (by omega)
  have hc2 := cutC_len 63 s1
  generalize cutC 63 s1 = x at c2 hc2 ⊢
  obtain ⟨s2,qu,hq⟩ := x
  simp only at c2 hc2 ⊢
  have pi := p_IndexByte s2 47
  rw [indexByte_pre] at pi
  have hpl := pre_le (· == 47) s2
  have p1 := p_did_ParseDID (s2.take (pre (· == 47) s2))
  have p2 := p_Normalize (s2.drop (pre (· == 47) s2)) inPath (by decide)
  have p3 := p_Normalize qu inQuery (by decide)
  have p4 := p_Normalize fr inQuery (by decide)
  unfold didUrlOf didUrlEnd
  (refine callV_pc c1 ?_; simp only [lawG,↓Xn,↓Xo,↓Xg,↓Xd,↓Xe,↓Xf,Tryz.VΓ,Tryz.Γs,Xp,Xi,Nat.reduceAdd,Nat.reduceSub,Nat.reduceLT,Nat.reduceLeDiff,reduceIte,reduceCtorEq,Nat.reduceEqDiff,implies_true,forall_const,lawV])
  (refine callV_pc c2 ?_; simp only [lawG,↓Xn,↓Xo,↓Xg,↓Xd,↓Xe,↓Xf,Tryz.VΓ,Tryz.Γs,Xp,Xi,Nat.reduceAdd,Nat.reduceSub,Nat.reduceLT,Nat.reduceLeDiff,reduceIte,reduceCtorEq,Nat.reduceEqDiff,implies_true,forall_const,lawV])
  by_cases hi : pre (· == 47) s2 < s2.length
  · rw [if_pos hi] at pi
    generalize didParse (s2.take (pre (· == 47) s2)) = r1 at p1 ⊢
    generalize pctNorm inPath (s2.drop (pre (· == 47) s2)) = r2 at p2 ⊢
    generalize pctNorm inQuery qu = r3 at p3 ⊢
    generalize pctNorm inQuery fr = r4 at p4 ⊢
    obtain ⟨⟨rm,ri⟩,e1⟩ := r1
    obtain ⟨r2,e2⟩ := r2
    obtain ⟨r3,e3⟩ := r3
    obtain ⟨r4,e4⟩ := r4
    unfold dsv at p1
    simp only at p1 p2 p3 p4 ⊢
    (refine callV_pc pi ?_; simp only [lawG,↓Xn,↓Xo,↓Xg,↓Xd,↓Xe,↓Xf,Tryz.VΓ,Tryz.Γs,Xp,Xi,Nat.reduceAdd,Nat.reduceSub,Nat.reduceLT,Nat.reduceLeDiff,reduceIte,reduceCtorEq,Nat.reduceEqDiff,implies_true,forall_const,lawV])
    refine ⟨fun _ => ⟨⟨by omega,by omega⟩,⟨by omega,by omega⟩,(OkD_fast (by kernel_rfl)),?_⟩,fun k => absurd k (by simp)⟩
    (refine callV_pc p1 ?_; simp only [lawG,↓Xn,↓Xo,↓Xg,↓Xd,↓Xe,↓Xf,Tryz.VΓ,Tryz.Γs,Xp,Xi,Nat.reduceAdd,Nat.reduceSub,Nat.reduceLT,Nat.reduceLeDiff,reduceIte,reduceCtorEq,Nat.reduceEqDiff,implies_true,forall_const,lawV])
    refine ⟨fun h1 => (by rw [if_pos (by simpa using h1)]; rfl),fun h1 => ?_⟩
    rw [if_neg (by simpa using h1)]
    (refine callV_pc p2 ?_; simp only [lawG,↓Xn,↓Xo,↓Xg,↓Xd,↓Xe,↓Xf,Tryz.VΓ,Tryz.Γs,Xp,Xi,Nat.reduceAdd,Nat.reduceSub,Nat.reduceLT,Nat.reduceLeDiff,reduceIte,reduceCtorEq,Nat.reduceEqDiff,implies_true,forall_const,lawV])
    refine ⟨fun h2 => (by rw [if_pos (by simpa using h2)]; rfl),fun h2 => ?_⟩
    rw [if_neg (by simpa using h2)]
    (refine callV_pc p3 ?_; simp only [lawG,↓Xn,↓Xo,↓Xg,↓Xd,↓Xe,↓Xf,Tryz.VΓ,Tryz.Γs,Xp,Xi,Nat.reduceAdd,Nat.reduceSub,Nat.reduceLT,Nat.reduceLeDiff,reduceIte,reduceCtorEq,Nat.reduceEqDiff,implies_true,forall_const,lawV])
    refine ⟨fun h3 => (by rw [if_pos (by simpa using h3)]; rfl),fun h3 => ?_⟩
    rw [if_neg (by simpa using h3)]
    (refine callV_pc p4 ?_; simp only [lawG,↓Xn,↓Xo,↓Xg,↓Xd,↓Xe,↓Xf,Tryz.VΓ,Tryz.Γs,Xp,Xi,Nat.reduceAdd,Nat.reduceSub,Nat.reduceLT,Nat.reduceLeDiff,reduceIte,reduceCtorEq,Nat.reduceEqDiff,implies_true,forall_const,lawV])
    refine ⟨fun h4 => (by rw [if_pos (by simpa using h4)]; rfl),fun h4 => ?_⟩
    rw [if_neg (by simpa using h4)]
    rfl
  · rw [if_neg hi] at pi
    rw [List.take_of_length_le (by omega)] at p1 ⊢
    rw [List.drop_eq_nil_of_le (by omega)] at p2 ⊢
    generalize didParse s2 = r1 at p1 ⊢
    generalize pctNorm inPath [] = r2 at p2 ⊢
    generalize pctNorm inQuery qu = r3 at p3 ⊢
    generalize pctNorm inQuery fr = r4 at p4 ⊢
    obtain ⟨⟨rm,ri⟩,e1⟩ := r1
    obtain ⟨r2,e2⟩ := r2
    obtain ⟨r3,e3⟩ := r3
    obtain ⟨r4,e4⟩ := r4
    unfold dsv at p1
    simp only at p1 p2 p3 p4 ⊢
    (refine callV_pc pi ?_; simp only [lawG,↓Xn,↓Xo,↓Xg,↓Xd,↓Xe,↓Xf,Tryz.VΓ,Tryz.Γs,Xp,Xi,Nat.reduceAdd,Nat.reduceSub,Nat.reduceLT,Nat.reduceLeDiff,reduceIte,reduceCtorEq,Nat.reduceEqDiff,implies_true,forall_const,lawV])
    refine ⟨fun k => absurd k (by simp),fun _ => ?_⟩
    (refine callV_pc p1 ?_; simp only [lawG,↓Xn,↓Xo,↓Xg,↓Xd,↓Xe,↓Xf,Tryz.VΓ,Tryz.Γs,Xp,Xi,Nat.reduceAdd,Nat.reduceSub,Nat.reduceLT,Nat.reduceLeDiff,reduceIte,reduceCtorEq,Nat.reduceEqDiff,implies_true,forall_const,lawV])
    refine ⟨fun h1 => (by rw [if_pos (by simpa using h1)]; rfl),fun h1 => ?_⟩
    rw [if_neg (by simpa using h1)]
    (refine callV_pc p2 ?_; simp only [lawG,↓Xn,↓Xo,↓Xg,↓Xd,↓Xe,↓Xf,Tryz.VΓ,Tryz.Γs,Xp,Xi,Nat.reduceAdd,Nat.reduceSub,Nat.reduceLT,Nat.reduceLeDiff,reduceIte,reduceCtorEq,Nat.reduceEqDiff,implies_true,forall_const,lawV])
    refine ⟨fun h2 => (by rw [if_pos (by simpa using h2)]; rfl),fun h2 => ?_⟩
    rw [if_neg (by simpa using h2)]
    (refine callV_pc p3 ?_; simp only [lawG,↓Xn,↓Xo,↓Xg,↓Xd,↓Xe,↓Xf,Tryz.VΓ,Tryz.Γs,Xp,Xi,Nat.reduceAdd,Nat.reduceSub,Nat.reduceLT,Nat.reduceLeDiff,reduceIte,reduceCtorEq,Nat.reduceEqDiff,implies_true,forall_const,lawV])
    refine ⟨fun h3 => (by rw [if_pos (by simpa using h3)]; rfl),fun h3 => ?_⟩
    rw [if_neg (by simpa using h3)]
    (refine callV_pc p4 ?_; simp only [lawG,↓Xn,↓Xo,↓Xg,↓Xd,↓Xe,↓Xf,Tryz.VΓ,Tryz.Γs,Xp,Xi,Nat.reduceAdd,Nat.reduceSub,Nat.reduceLT,Nat.reduceLeDiff,reduceIte,reduceCtorEq,Nat.reduceEqDiff,implies_true,forall_const,lawV])
    refine ⟨fun h4 => (by rw [if_pos (by simpa using h4)]; rfl),fun h4 => ?_⟩
    rw [if_neg (by simpa using h4)]
    rfl
def DidFits (d : Did) : Prop := d.method.length ≤ 140737488355328 ∧ d.id.length ≤ 140737488355328
def DidUrlFits (u : DidUrl) : Prop := DidFits u.did ∧ u.path.length ≤ 140737488355328 ∧ u.query.length ≤ 140737488355328 ∧ u.fragment.length ≤ 140737488355328
theorem didText_len (d : Did) : (didText d).length = d.method.length + d.id.length + 5 := by simp [didText,didS]; omega
theorem p_did_FormatDID (d : Did) (h : DidFits d) : PC Tryz.V 25 [dsv d] (.str (didText d)) := by
  obtain ⟨m,i⟩ := d
  simp only [DidFits] at h
  refine pc_of 3000 Tryz.func25 rfl Tryz.ntmps25 Tryz.results25 Tryz.call25 (by simp) (by simp [flat,flat.flatL,dsv,dusv]) (by simp [flat,flat.flatL,dsv,dusv]) ?_
  unfold dsv
  simp only [lawG,↓Xn,↓Xo,↓Xg,↓Xd,↓Xe,↓Xf,Tryz.VΓ,Tryz.Γs,Xp,Xi,Nat.reduceAdd,Nat.reduceSub,Nat.reduceLT,Nat.reduceLeDiff,reduceIte,reduceCtorEq,Nat.reduceEqDiff,implies_true,forall_const,lawV]
  simp only [List.length_append,List.length_cons,List.length_nil]
  refine ⟨by omega,by omega,by omega,?_⟩
  simp [didText,didS]
set_option maxHeartbeats 2000000 in
theorem p_did_Format (u : DidUrl) (h : DidUrlFits u) : PC Tryz.V 68 [dusv u] (.str (didUrlText u)) := by
  obtain ⟨⟨m,i⟩,p,q,f,b,c⟩ := u
  simp only [DidUrlFits,DidFits] at h
  have pf := p_did_FormatDID ⟨m,i⟩ h.1
  have hl := didText_len ⟨m,i⟩
  unfold dsv at pf
  simp only at pf hl
  refine pc_of 3000 Tryz.func68 rfl Tryz.ntmps68 Tryz.results68 Tryz.call68 (by simp) (by simp [flat,flat.flatL,dsv,dusv]) (by simp [flat,flat.flatL,dsv,dusv]) ?_
  unfold dusv
  simp only [lawG,↓Xn,↓Xo,↓Xg,↓Xd,↓Xe,↓Xf,Tryz.VΓ,Tryz.Γs,Xp,Xi,Nat.reduceAdd,Nat.reduceSub,Nat.reduceLT,Nat.reduceLeDiff,reduceIte,reduceCtorEq,Nat.reduceEqDiff,implies_true,forall_const,lawV]
  (refine callD_pc pf ?_; simp only [lawG,↓Xn,↓Xo,↓Xg,↓Xd,↓Xe,↓Xf,Tryz.VΓ,Tryz.Γs,Xp,Xi,Nat.reduceAdd,Nat.reduceSub,Nat.reduceLT,Nat.reduceLeDiff,reduceIte,reduceCtorEq,Nat.reduceEqDiff,implies_true,forall_const,lawV])
  generalize hT : didText ⟨m,i⟩ = T at hl ⊢
  refine ⟨by omega,(OkD_fast (by kernel_rfl)),?_⟩
  cases b <;> cases c <;> simp [didUrlText,hT] <;> omega
set_option maxHeartbeats 2000000 in
theorem p_did_Resolve (d : Did) (r : Bytes) (h : DidFits d) (hr : r.length ≤ 140737488355328) : PC Tryz.V 67 [dsv d,.str r] (.tup [dusv (didResolve d r).1,.int .i64 (didResolve d r).2]) := by
  have pp := p_HasPrefix r didS
  rw [show Lib.hasPrefix r didS = didS.isPrefixOf r from rfl] at pp
  have pf := p_did_FormatDID d h
  have hl := didText_len d
  obtain ⟨h1,h2⟩ := h
  have pu := p_did_Parse r
  have pq := p_did_Parse (didText d ++ r)
  refine pc_of 3000 Tryz.func67 rfl Tryz.ntmps67 Tryz.results67 Tryz.call67 (by simp) (by simp [flat,flat.flatL,dsv,dusv]) (by simp [flat,flat.flatL,dsv,dusv]) ?_
  unfold dsv
  unfold dsv at pf
  unfold dusv at pu pq
  unfold didResolve
  simp only [lawG,↓Xn,↓Xo,↓Xg,↓Xd,↓Xe,↓Xf,Tryz.VΓ,Tryz.Γs,Xp,Xi,Nat.reduceAdd,Nat.reduceSub,Nat.reduceLT,Nat.reduceLeDiff,reduceIte,reduceCtorEq,Nat.reduceEqDiff,implies_true,forall_const,lawV]
  (refine callV_pc pp ?_; simp only [lawG,↓Xn,↓Xo,↓Xg,↓Xd,↓Xe,↓Xf,Tryz.VΓ,Tryz.Γs,Xp,Xi,Nat.reduceAdd,Nat.reduceSub,Nat.reduceLT,Nat.reduceLeDiff,reduceIte,reduceCtorEq,Nat.reduceEqDiff,implies_true,forall_const,lawV])
  refine ⟨fun h3 => ?_,fun h3 => ?_⟩
  · rw [if_pos h3]
    (refine callV_pc pu ?_; simp only [lawG,↓Xn,↓Xo,↓Xg,↓Xd,↓Xe,↓Xf,Tryz.VΓ,Tryz.Γs,Xp,Xi,Nat.reduceAdd,Nat.reduceSub,Nat.reduceLT,Nat.reduceLeDiff,reduceIte,reduceCtorEq,Nat.reduceEqDiff,implies_true,forall_const,lawV])
    rfl
  rw [if_neg (by rw [h3]; simp)]
  cases r with
  | nil =>
    rw [if_pos (.inl rfl)]
    rw [List.append_nil] at pq ⊢
    simp only [lawG,↓Xn,↓Xo,↓Xg,↓Xd,↓Xe,↓Xf,Tryz.VΓ,Tryz.Γs,Xp,Xi,Nat.reduceAdd,Nat.reduceSub,Nat.reduceLT,Nat.reduceLeDiff,reduceIte,reduceCtorEq,Nat.reduceEqDiff,implies_true,forall_const,lawV,beq_self_eq_true,bne_self_eq_false,Int.reduceBEq,Int.reduceBNe,Int.reduceLT,Int.reduceLE]
    (refine callV_pc pf ?_; simp only [lawG,↓Xn,↓Xo,↓Xg,↓Xd,↓Xe,↓Xf,Tryz.VΓ,Tryz.Γs,Xp,Xi,Nat.reduceAdd,Nat.reduceSub,Nat.reduceLT,Nat.reduceLeDiff,reduceIte,reduceCtorEq,Nat.reduceEqDiff,implies_true,forall_const,lawV,beq_self_eq_true,bne_self_eq_false,Int.reduceBEq,Int.reduceBNe,Int.reduceLT,Int.reduceLE])
    refine ⟨by omega,?_⟩
    (refine callV_pc pq ?_; simp only [lawG,↓Xn,↓Xo,↓Xg,↓Xd,↓Xe,↓Xf,Tryz.VΓ,Tryz.Γs,Xp,Xi,Nat.reduceAdd,Nat.reduceSub,Nat.reduceLT,Nat.reduceLeDiff,reduceIte,reduceCtorEq,Nat.reduceEqDiff,implies_true,forall_const,lawV,beq_self_eq_true,bne_self_eq_false,Int.reduceBEq,Int.reduceBNe,Int.reduceLT,Int.reduceLE])
    rfl
  | cons c r =>
    have hg : (c :: r).getD (Int.toNat 0) 0 = c := rfl
    have hc : (c :: r = [] ∨ (c :: r).head? = some 47 ∨ (c :: r).head? = some 63 ∨ (c :: r).head? = some 35) ↔ [47,63,35].contains c = true := by simp
    simp only [List.length_cons] at hr
    rw [hg,ite_congr (propext hc) (fun _ => rfl) (fun _ => rfl)]
    refine ⟨fun _ => ⟨⟨by omega,by simp⟩,?_⟩,fun h => (by simp at h)⟩
    (refine callV_pc (p_IndexByte [47,63,35] c) ?_; simp only [lawG,↓Xn,↓Xo,↓Xg,↓Xd,↓Xe,↓Xf,Tryz.VΓ,Tryz.Γs,Xp,Xi,Nat.reduceAdd,Nat.reduceSub,Nat.reduceLT,Nat.reduceLeDiff,reduceIte,reduceCtorEq,Nat.reduceEqDiff,implies_true,forall_const,lawV])
    rw [idx_geq]
    refine ⟨fun h4 => ?_,fun h4 => ?_⟩
    · rw [if_pos h4]
      (refine callV_pc pf ?_; simp only [lawG,↓Xn,↓Xo,↓Xg,↓Xd,↓Xe,↓Xf,Tryz.VΓ,Tryz.Γs,Xp,Xi,Nat.reduceAdd,Nat.reduceSub,Nat.reduceLT,Nat.reduceLeDiff,reduceIte,reduceCtorEq,Nat.reduceEqDiff,implies_true,forall_const,lawV])
      refine ⟨by omega,?_⟩
      (refine callV_pc pq ?_; simp only [lawG,↓Xn,↓Xo,↓Xg,↓Xd,↓Xe,↓Xf,Tryz.VΓ,Tryz.Γs,Xp,Xi,Nat.reduceAdd,Nat.reduceSub,Nat.reduceLT,Nat.reduceLeDiff,reduceIte,reduceCtorEq,Nat.reduceEqDiff,implies_true,forall_const,lawV])
      rfl
    · rw [if_neg (by rw [h4]; simp)]; rfl
end Go.Proofs.YtejfjmcjicpodaaGreatDoor
/- The walks of diddoc's decoder: fail,texts,member,array,list,oneOrMore,id. -/
set_option linter.all false
set_option maxRecDepth 20000
namespace Go.Proofs.YtejfjmcjicpodaaGreatDoor
open Go Vc Go.RowKit Wf
set_option linter.unusedSimpArgs false
theorem set_same {b : List Res} {p : Nat} {X : Res} (h : b[p]? = some X) : b.set p X = b := by
  obtain ⟨h1,h2⟩ := List.getElem?_eq_some_iff.1 h
  subst h2
  exact List.set_getElem_self h1
end Go.Proofs.YtejfjmcjicpodaaGreatDoor
namespace Vc
open Go.Proofs.YtejfjmcjicpodaaGreatDoor
open Go Vc Go.RowKit Wf
theorem KpP.ro {p : Nat} {c c' : List SV} {T T' : TypeId} {m m' : Bool} {bs b : List Res} (hp : bs[p]? = some (.cells c' T' m')) (h : KpP p c T m bs b) : Ro bs b := fun j c e s n x => by
  have hn : j ≠ p := by rintro rfl; rw [hp] at x; cases x
  exact h.at x hn
end Vc
namespace Go.Proofs.YtejfjmcjicpodaaGreatDoor
open Go Vc Go.RowKit Wf
def Rn (lo : Nat) (b : List Res) (x : SV) (T : List Bytes) : Prop := (x = .nils ∧ T = []) ∨ ∃ q,0 < T.length ∧ x = .o q T.length ∧ lo ≤ q ∧ b[q]? = some (.own (T.map SV.str) 9 1 T.length false)
theorem Rn.ro {lo : Nat} {a b : List Res} {x : SV} {T : List Bytes} (h : Rn lo a x T) (k : Ro a b) : Rn lo b x T := by
  rcases h with h | ⟨q,h0,h1,h2,h3⟩
  · exact .inl h
  · exact .inr ⟨q,h0,h1,h2,k _ _ _ _ _ h3⟩
theorem Rn.le {lo lo' : Nat} {b : List Res} {x : SV} {T : List Bytes} (h : Rn lo b x T) (hl : lo' ≤ lo) : Rn lo' b x T := by
  rcases h with h | ⟨q,h0,h1,h2,h3⟩
  · exact .inl h
  · exact .inr ⟨q,h0,h1,Nat.le_trans hl h2,h3⟩
theorem Rn.rs {lo : Nat} {b : List Res} {x : SV} {T : List Bytes} (h : Rn lo b x T) : Rs b x T := by
  rcases h with h | ⟨q,h0,h1,h2,h3⟩
  · exact .inl h
  · exact .inr ⟨q,h1,h3⟩
theorem Rn.one {lo : Nat} {b : List Res} {x : SV} {T : List Bytes} (h : Rn lo b x T) : Vc.one x = true := h.rs.one
theorem Rn.within {lo : Nat} {b : List Res} {x : SV} {T : List Bytes} (h : Rn lo b x T) : Vc.within b.length x = true := h.rs.within
theorem Rn.cells {lo : Nat} {b : List Res} {x : SV} {T : List Bytes} (h : Rn lo b x T) : Vc.cells x = [x] := by
  rcases h with ⟨rfl,-⟩ | ⟨q,-,rfl,-⟩ <;> rfl
theorem sc_keepP {f : FuncId} {args : List SV} {bs : List Res} {p : Nat} {c : List SV} {T : TypeId} {m : Bool} {x : SV} (hp : p < bs.length) (hx : within bs.length x = true) (hc : flat.flatL c = true) (h : SC Tryz.V f args bs (fun r b => r = x ∧ KpP p c T m bs b)) : SC Tryz.V f args bs (fun r b => r = x ∧ b = bs.set p (.cells c T m)) := by
  refine SC.pickP (T := T) (mb := m) hp hc (h.mono ?_)
  rintro r b ⟨rfl,hk⟩
  exact ⟨id,[],r,hk,fun _ _ => rfl,fun q X h => by simp at h,(ren_within (fun _ _ => rfl) _ hx).symm,by simpa using hx,rfl,by simp⟩
def dec (d : Did) (e : Int) : List SV := [.str d.method,.str d.id,.int .i64 e]
theorem dec_flat (d : Did) (e : Int) : flat.flatL (dec d e) = true := rfl
theorem sc_dd_fail {bs : List Res} {p : Nat} {d : Did} {e : Int} (hp : bs[p]? = some (.cells (dec d e) 62 true)) (x : Int) :
    SC Tryz.V 65 [.p p 0,.int .i64 x] bs (fun r b => r = .tup [] ∧ b = bs.set p (.cells (dec d (failE e x)) 62 true)) := by
  have hpl := (List.getElem?_eq_some_iff.1 hp).1
  have hsame := set_same hp
  refine sc_of 3000 Tryz.func65 rfl Tryz.ntmps65 Tryz.results65 Tryz.call65 (by simp) (fun β β' hb => concL_within bs.length _ (by simp [within,within.withinL,hpl]) β β' hb) ?_
  unfold dec at hp hsame ⊢
  by_cases he : e = 0
  · have hb : (e == 0) = true := by simp [he]
    simp only [lawG,↓Xn,↓Xo,↓Xg,↓Xd,↓Xe,↓Xf,Tryz.VΓ,Tryz.Γs,Xp,Xi,Nat.reduceAdd,Nat.reduceSub,Nat.reduceLT,Nat.reduceLeDiff,reduceIte,reduceCtorEq,Nat.reduceEqDiff,implies_true,forall_const,lawV,lawA,beq_self_eq_true,bne_self_eq_false,Int.reduceBEq,Int.reduceBNe,Int.reduceLT,Int.reduceLE,hp,hb]
    simp [failE,he]
  · have hb : (e == 0) = false := by simp [he]
    simp only [lawG,↓Xn,↓Xo,↓Xg,↓Xd,↓Xe,↓Xf,Tryz.VΓ,Tryz.Γs,Xp,Xi,Nat.reduceAdd,Nat.reduceSub,Nat.reduceLT,Nat.reduceLeDiff,reduceIte,reduceCtorEq,Nat.reduceEqDiff,implies_true,forall_const,lawV,lawA,beq_self_eq_true,bne_self_eq_false,Int.reduceBEq,Int.reduceBNe,Int.reduceLT,Int.reduceLE,hp,hb]
    simp [failE,he,hsame]
theorem textsE_take {e : Int} {L : List Jv} {k : Nat} (h : k < L.length) : textsE e (L.take (k + 1)) = if L[k].k = 5 then textsE e (L.take k) else failE (textsE e (L.take k)) 160 := by
  unfold textsE
  rw [List.take_succ_eq_append_getElem h,List.all_append]
  by_cases h5 : L[k].k = 5
  · rw [if_pos h5]
    simp [h5]
  · rw [if_neg h5]
    have : (L[k].k == 5) = false := by simp [h5]
    simp only [List.all_cons,this,Bool.false_and,Bool.and_false,Bool.false_eq_true,if_false]
    split
    · rfl
    · unfold failE; split <;> simp_all
theorem strs_snoc {L : List Jv} {k : Nat} (h : k < L.length) : ((L.take (k + 1)).map Jv.t).map SV.str = ((L.take k).map Jv.t).map SV.str ++ [.str L[k].t] := by
  rw [List.take_succ_eq_append_getElem h,List.map_append,List.map_append]
  rfl
set_option maxHeartbeats 8000000 in
theorem sc_dd_texts {bs : List Res} {p : Nat} {d : Did} {e : Int} (hp : bs[p]? = some (.cells (dec d e) 62 true)) {x : SV} {Ls : List Tv} {L : List Jv} (hx : Ri bs x Ls) (hT : TJs bs L Ls) (hL : L.length ≤ 1000) :
    SC Tryz.V 26 [.p p 0,x] bs (fun r b => KpP p (dec d (textsE e L)) 62 true bs b ∧ Rn bs.length b r (L.map Jv.t)) := by
  refine SC.dimAll ?_
  have hpl := (List.getElem?_eq_some_iff.1 hp).1
  have hxw := hx.within
  have hLL := hT.len
  have hli := hx.len
  refine SC.mono (R := fun r b => KpP p (dec d (textsE e L)) 62 true bs b ∧ ((r = .nils ∧ L = []) ∨ ∃ q,0 < L.length ∧ r = .o q L.length ∧ bs.length ≤ q ∧ b[q]? = some (.own ((L.map Jv.t).map SV.str) 9 1 L.length true))) ?_ ?_
  rotate_left
  · rintro r b ⟨h1,h2⟩
    refine ⟨h1.1,h1.dimB hpl,?_⟩
    rcases h2 with ⟨rfl,rfl⟩ | ⟨q,h0,rfl,hq,hbq⟩
    · exact .inl ⟨rfl,rfl⟩
    · exact .inr ⟨q,by simpa using h0,by simp,hq,by rw [dimB_at hq hbq]; simp [dull]⟩
  refine sc_of 3000 Tryz.func26 rfl Tryz.ntmps26 Tryz.results26 Tryz.call26 (by simp) (fun β β' hb => concL_within bs.length _ (by simp [within,within.withinL,hpl,hxw]) β β' hb) ?_
  simp only [lawG,↓Xn,↓Xo,↓Xg,↓Xd,↓Xe,↓Xf,Tryz.VΓ,Tryz.Γs,Xp,Xi,Nat.reduceAdd,Nat.reduceSub,Nat.reduceLT,Nat.reduceLeDiff,reduceIte,reduceCtorEq,Nat.reduceEqDiff,implies_true,forall_const,lawV,lawA,beq_self_eq_true,bne_self_eq_false,Int.reduceBEq,Int.reduceBNe,Int.reduceLT,Int.reduceLE,hli]
  refine loopV_mk (fun σ => ∃ (k : Nat) (y : SV),k ≤ Ls.length ∧ lk 0 σ.t = some (.p p 0) ∧ lk 5 σ.t = some y ∧ lk 8 σ.t = some x ∧ lk 9 σ.t = some (.int .i64 Ls.length) ∧ lk 10 σ.t = some (.int .i64 k) ∧ KpP p (dec d (textsE e (L.take k))) 62 true bs σ.b ∧
    ((y = .nils ∧ k = 0) ∨ ∃ q,0 < k ∧ y = .o q k ∧ bs.length ≤ q ∧ σ.b[q]? = some (.own (((L.take k).map Jv.t).map SV.str) 9 1 k true))) (fun σ => Ls.length - lkI 10 σ) ⟨0,.nils,by omega,rfl,rfl,rfl,rfl,rfl,KpP.of hp (Kp.refl bs),.inl ⟨rfl,rfl⟩⟩ ?_
  rintro ⟨t,b⟩ ⟨k,y,hk,h0,h5,h8,h9,h10,hkp,hy⟩
  simp only at h0 h5 h8 h9 h10 hkp hy
  rw [lkI_eq h10]
  by_cases hlt : k < Ls.length
  · have hlt2 : decide ((k : Int) < Ls.length) = true := decide_eq_true (by omega)
    have hltL : k < L.length := by omega
    rcases hx with ⟨-,hx0⟩ | ⟨j,rfl,hj⟩
    · rw [hx0] at hlt; exact absurd hlt (by simp)
    have hjp : j ≠ p := by rintro rfl; rw [hp] at hj; cases hj
    have hbj := hkp.at hj hjp
    have hbp := hkp.2.2
    have hbpl := (List.getElem?_eq_some_iff.1 hbp).1
    have hbl := hkp.1
    have hu : List.take 4 (List.drop (k * 4) (Ls.flatMap tv)) = [.int .i64 Ls[k].k,.str Ls[k].t,Ls[k].xk,Ls[k].xi] := tv_at Ls k hlt
    have hul := tv_len Ls
    have hel := hT.at k hltL hlt
    obtain ⟨x1,x2,x3,x4⟩ := hel.tin
    obtain ⟨u1,u2,u3,-⟩ := hel.un
    have hxo : (one Ls[k].xk && one Ls[k].xi) = true := by rw [x3,x4]; rfl
    have hsn := strs_snoc hltL
    have htk := textsE_take (e := e) hltL
    generalize hev : Ls[k] = ev at hu u1 u2 hxo
    have hok : ∀ X,KpP p (dec d (textsE e (L.take k))) 62 true bs (b ++ X) := fun X => hkp.app X
    by_cases hk5 : L[k].k = 5
    · have hb5 : (ev.k != 5) = false := by rw [u1,hk5]; rfl
      rw [if_pos hk5] at htk
      rcases hy with ⟨rfl,rfl⟩ | ⟨q,hk0,rfl,hq,hbq⟩
      · simp only [lawG,↓Xn,↓Xo,↓Xg,↓Xd,↓Xe,↓Xf,Tryz.VΓ,Tryz.Γs,Xp,Xi,Nat.reduceAdd,Nat.reduceSub,Nat.reduceLT,Nat.reduceLeDiff,reduceIte,reduceCtorEq,Nat.reduceEqDiff,implies_true,forall_const,lawV,lawA,beq_self_eq_true,bne_self_eq_false,Int.reduceBEq,Int.reduceBNe,Int.reduceLT,Int.reduceLE,h0,h5,h8,h9,h10,hlt2,hbj,hu,hxo,hb5]
        (repeat (refine ⟨by first | omega | (unfold maxLen; omega),?_⟩))
        refine ⟨⟨1,_,by omega,rfl,rfl,by rw [htk]; exact hok _,.inr ⟨_,by omega,rfl,by omega,?_⟩⟩,?_⟩
        · rw [app_at,hsn,← u2]; rfl
        · rw [lkI_eq (show lk 10 _ = some (.int .i64 ((1 : Nat) : Int)) from rfl)]; omega
      · have hql := (List.getElem?_eq_some_iff.1 hbq).1
        have hqp : q ≠ p := by omega
        have hsq : ∀ (l : List Res) X,(b ++ l).set q X = b.set q X ++ l := fun l X => app_setL hql l X
        simp only [lawG,↓Xn,↓Xo,↓Xg,↓Xd,↓Xe,↓Xf,Tryz.VΓ,Tryz.Γs,Xp,Xi,Nat.reduceAdd,Nat.reduceSub,Nat.reduceLT,Nat.reduceLeDiff,reduceIte,reduceCtorEq,Nat.reduceEqDiff,implies_true,forall_const,lawV,lawA,beq_self_eq_true,bne_self_eq_false,Int.reduceBEq,Int.reduceBNe,Int.reduceLT,Int.reduceLE,h0,h5,h8,h9,h10,hlt2,hbj,hu,hxo,hb5,at_old hbq,hsq]
        (repeat (refine ⟨by first | omega | (unfold maxLen; omega),?_⟩))
        refine ⟨⟨k + 1,_,by omega,rfl,rfl,by rw [htk]; exact (hkp.setN hq hqp _).app _,.inr ⟨_,by omega,rfl,by omega,?_⟩⟩,?_⟩
        · rw [app_atL (by simp),hsn,← u2]; rfl
        · rw [lkI_eq (show lk 10 _ = some (.int .i64 ((k + 1 : Nat) : Int)) from rfl)]; omega
    · have hb5 : (ev.k != 5) = true := by rw [u1]; exact bne_iff_ne.2 hk5
      rw [if_neg hk5] at htk
      have hfl := fun X => sc_dd_fail (at_old hbp X) 160
      have hset : ∀ (l : List Res) X,(b ++ l).set p X = b.set p X ++ l := fun l X => app_setL hbpl l X
      have hkf := hkp.set (dec d (failE (textsE e (L.take k)) 160)) 62 true
      rw [← htk] at hkf hfl
      rcases hy with ⟨rfl,rfl⟩ | ⟨q,hk0,rfl,hq,hbq⟩
      · simp only [lawG,↓Xn,↓Xo,↓Xg,↓Xd,↓Xe,↓Xf,Tryz.VΓ,Tryz.Γs,Xp,Xi,Nat.reduceAdd,Nat.reduceSub,Nat.reduceLT,Nat.reduceLeDiff,reduceIte,reduceCtorEq,Nat.reduceEqDiff,implies_true,forall_const,lawV,lawA,beq_self_eq_true,bne_self_eq_false,Int.reduceBEq,Int.reduceBNe,Int.reduceLT,Int.reduceLE,h0,h5,h8,h9,h10,hlt2,hbj,hu,hxo,hb5]
        (repeat (refine ⟨by first | omega | (unfold maxLen; omega),?_⟩))
        refine callV_sc (hfl _) ?_
        rintro r b1 ⟨rfl,rfl⟩
        rw [hset]
        have hl1 : (b.set p (.cells (dec d (textsE e (L.take (0 + 1)))) 62 true)).length = b.length := List.length_set
        generalize b.set p _ = b1 at hkf hl1
        have hat : ∀ l : List Res,(b1 ++ l)[b.length]? = l[0]? := fun l => app_atL hl1 l 0
        simp only [lawG,↓Xn,↓Xo,↓Xg,↓Xd,↓Xe,↓Xf,Tryz.VΓ,Tryz.Γs,Xp,Xi,Nat.reduceAdd,Nat.reduceSub,Nat.reduceLT,Nat.reduceLeDiff,reduceIte,reduceCtorEq,Nat.reduceEqDiff,implies_true,forall_const,lawV,lawA,beq_self_eq_true,bne_self_eq_false,Int.reduceBEq,Int.reduceBNe,Int.reduceLT,Int.reduceLE,h0,h5,h8,h9,h10,hat]
        (repeat (refine ⟨by first | omega | (unfold maxLen; omega),?_⟩))
        refine ⟨⟨1,_,by omega,rfl,rfl,hkf.app _,.inr ⟨_,by omega,rfl,by omega,?_⟩⟩,?_⟩
        · rw [app_at,hsn,← u2]; rfl
        · rw [lkI_eq (show lk 10 _ = some (.int .i64 ((1 : Nat) : Int)) from rfl)]; omega
      · have hqp : q ≠ p := by omega
        have hbq1 := fun X => get_setN hbq (fun e => hqp e.symm) X
        simp only [lawG,↓Xn,↓Xo,↓Xg,↓Xd,↓Xe,↓Xf,Tryz.VΓ,Tryz.Γs,Xp,Xi,Nat.reduceAdd,Nat.reduceSub,Nat.reduceLT,Nat.reduceLeDiff,reduceIte,reduceCtorEq,Nat.reduceEqDiff,implies_true,forall_const,lawV,lawA,beq_self_eq_true,bne_self_eq_false,Int.reduceBEq,Int.reduceBNe,Int.reduceLT,Int.reduceLE,h0,h5,h8,h9,h10,hlt2,hbj,hu,hxo,hb5]
        (repeat (refine ⟨by first | omega | (unfold maxLen; omega),?_⟩))
        refine callV_sc (hfl _) ?_
        rintro r b1 ⟨rfl,rfl⟩
        rw [hset]
        have hbq1 := hbq1 (.cells (dec d (textsE e (L.take (k + 1)))) 62 true)
        have hl1 : (b.set p (.cells (dec d (textsE e (L.take (k + 1)))) 62 true)).length = b.length := List.length_set
        generalize b.set p _ = b1 at hkf hbq1 hl1
        have hat : ∀ l : List Res,(b1 ++ l)[b.length]? = l[0]? := fun l => app_atL hl1 l 0
        have hql := (List.getElem?_eq_some_iff.1 hbq1).1
        have hsq : ∀ (l : List Res) X,(b1 ++ l).set q X = b1.set q X ++ l := fun l X => app_setL hql l X
        simp only [lawG,↓Xn,↓Xo,↓Xg,↓Xd,↓Xe,↓Xf,Tryz.VΓ,Tryz.Γs,Xp,Xi,Nat.reduceAdd,Nat.reduceSub,Nat.reduceLT,Nat.reduceLeDiff,reduceIte,reduceCtorEq,Nat.reduceEqDiff,implies_true,forall_const,lawV,lawA,beq_self_eq_true,bne_self_eq_false,Int.reduceBEq,Int.reduceBNe,Int.reduceLT,Int.reduceLE,h0,h5,h8,h9,h10,at_old hbq1,hsq,hat]
        (repeat (refine ⟨by first | omega | (unfold maxLen; omega),?_⟩))
        refine ⟨⟨k + 1,_,by omega,rfl,rfl,(hkf.setN hq hqp _).app _,.inr ⟨_,by omega,rfl,by omega,?_⟩⟩,?_⟩
        · rw [app_atL (by simp),hsn,← u2]; rfl
        · rw [lkI_eq (show lk 10 _ = some (.int .i64 ((k + 1 : Nat) : Int)) from rfl)]; omega
  · have hlt2 : decide ((k : Int) < Ls.length) = false := decide_eq_false (by omega)
    simp only [lawG,↓Xn,↓Xo,↓Xg,↓Xd,↓Xe,↓Xf,Tryz.VΓ,Tryz.Γs,Xp,Xi,Nat.reduceAdd,Nat.reduceSub,Nat.reduceLT,Nat.reduceLeDiff,reduceIte,reduceCtorEq,Nat.reduceEqDiff,implies_true,forall_const,lawV,lawA,beq_self_eq_true,bne_self_eq_false,Int.reduceBEq,Int.reduceBNe,Int.reduceLT,Int.reduceLE,h0,h5,h8,h9,h10,hlt2]
    have hkl : L.take k = L := List.take_of_length_le (by omega)
    rw [hkl] at hkp hy
    refine ⟨hkp,?_⟩
    rcases hy with ⟨rfl,rfl⟩ | ⟨q,hk0,rfl,hq,hbq⟩
    · exact .inl ⟨rfl,List.length_eq_zero_iff.1 (by omega)⟩
    · obtain rfl : k = L.length := by omega
      exact .inr ⟨q,hk0,rfl,hq,hbq⟩
end Go.Proofs.YtejfjmcjicpodaaGreatDoor
/- The walks of diddoc's decoder: array,list,member,oneOrMore,id. -/
set_option linter.all false
set_option maxRecDepth 20000
namespace Go.Proofs.YtejfjmcjicpodaaGreatDoor
open Go Vc Go.RowKit Wf
set_option linter.unusedSimpArgs false
theorem ro_box {bs : List Res} {p : Nat} {c : List SV} {T : TypeId} {m : Bool} (hp : bs[p]? = some (.cells c T m)) (X : Res) : Ro bs (bs.set p X) := (Ro.refl bs).set (fun c e s n hx => by rw [hp] at hx; cases hx) X
set_option maxHeartbeats 4000000 in
theorem sc_dd_array {bs : List Res} {j : Jv} {v : Tv} (hv : TJ bs j v) : ∃ y Ls,Ri bs y Ls ∧ TJs bs (arrL j) Ls ∧ ∀ (b : List Res) (p : Nat) (d : Did) (e : Int),Ro bs b → b[p]? = some (.cells (dec d e) 62 true) → within b.length y = true →
    SC Tryz.V 66 [.p p 0,.agg (tv v)] b (fun r b' => r = y ∧ b' = b.set p (.cells (dec d (arrE e j)) 62 true)) := by
  obtain ⟨e1,e2,e3,e4,e5,e6,e7,Ls,e8,e9⟩ := hv.un
  have hLL := e9.len
  suffices hs : ∃ y Ls',Ri bs y Ls' ∧ TJs bs (arrL j) Ls' ∧ ∀ (b : List Res) (p : Nat) (d : Did) (e : Int),Ro bs b → b[p]? = some (.cells (dec d e) 62 true) →
      SC Tryz.V 66 [.p p 0,.agg (tv v)] b (fun r b' => r = y ∧ KpP p (dec d (arrE e j)) 62 true b b') by
    obtain ⟨y,Ls',h1,h2,h3⟩ := hs
    exact ⟨y,Ls',h1,h2,fun b p d e hro hp hw => sc_keepP (List.getElem?_eq_some_iff.1 hp).1 hw (dec_flat _ _) (h3 b p d e hro hp)⟩
  by_cases h6 : j.k = 6
  · have hb6 : (v.k != 6) = false := by rw [e1,h6]; rfl
    by_cases h64 : 64 < j.L.length
    · refine ⟨.nils,[],.inl ⟨rfl,rfl⟩,by unfold arrL; rw [if_pos h6,if_pos h64,TJs],fun b p d e hro hp => ?_⟩
      have hpl := (List.getElem?_eq_some_iff.1 hp).1
      obtain ⟨v1,v2,v3,v4⟩ := (hv.ro hro).tin
      have ho : (one v.xk && one v.xi) = true := by rw [v3,v4]; rfl
      have hli := (e8.ro hro).len
      have hb64 : decide ((64 : Int) < Ls.length) = true := decide_eq_true (by omega)
      have hfl := fun X => sc_dd_fail (at_old hp X) 161
      refine sc_of 3000 Tryz.func66 rfl Tryz.ntmps66 Tryz.results66 Tryz.call66 (by simp) (fun β β' hb => concL_within b.length _ (by simp [within,within.withinL,tv,v1,v2,hpl]) β β' hb) ?_
      unfold tv
      simp only [lawG,↓Xn,↓Xo,↓Xg,↓Xd,↓Xe,↓Xf,Tryz.VΓ,Tryz.Γs,Xp,Xi,Nat.reduceAdd,Nat.reduceSub,Nat.reduceLT,Nat.reduceLeDiff,reduceIte,reduceCtorEq,Nat.reduceEqDiff,implies_true,forall_const,lawV,lawA,beq_self_eq_true,bne_self_eq_false,Int.reduceBEq,Int.reduceBNe,Int.reduceLT,Int.reduceLE,ho,hb6,hli,hb64]
      refine callV_sc (hfl _) ?_
      rintro r b1 ⟨rfl,rfl⟩
      simp only [lawG,↓Xn,↓Xo,↓Xg,↓Xd,↓Xe,↓Xf,Tryz.VΓ,Tryz.Γs,Xp,Xi,Nat.reduceAdd,Nat.reduceSub,Nat.reduceLT,Nat.reduceLeDiff,reduceIte,reduceCtorEq,Nat.reduceEqDiff,implies_true,forall_const,lawV,lawA,beq_self_eq_true,bne_self_eq_false,Int.reduceBEq,Int.reduceBNe,Int.reduceLT,Int.reduceLE]
      have : arrE e j = failE e 161 := by unfold arrE; rw [if_pos h6,if_pos h64]
      rw [this]
      exact ((KpP.of hp (Kp.refl b)).app _).set _ _ _
    · refine ⟨v.xi,Ls,e8,by unfold arrL; rw [if_pos h6,if_neg h64]; exact e9,fun b p d e hro hp => ?_⟩
      have hpl := (List.getElem?_eq_some_iff.1 hp).1
      obtain ⟨v1,v2,v3,v4⟩ := (hv.ro hro).tin
      have ho : (one v.xk && one v.xi) = true := by rw [v3,v4]; rfl
      have hli := (e8.ro hro).len
      have hb64 : decide ((64 : Int) < Ls.length) = false := decide_eq_false (by omega)
      refine sc_of 3000 Tryz.func66 rfl Tryz.ntmps66 Tryz.results66 Tryz.call66 (by simp) (fun β β' hb => concL_within b.length _ (by simp [within,within.withinL,tv,v1,v2,hpl]) β β' hb) ?_
      unfold tv
      simp only [lawG,↓Xn,↓Xo,↓Xg,↓Xd,↓Xe,↓Xf,Tryz.VΓ,Tryz.Γs,Xp,Xi,Nat.reduceAdd,Nat.reduceSub,Nat.reduceLT,Nat.reduceLeDiff,reduceIte,reduceCtorEq,Nat.reduceEqDiff,implies_true,forall_const,lawV,lawA,beq_self_eq_true,bne_self_eq_false,Int.reduceBEq,Int.reduceBNe,Int.reduceLT,Int.reduceLE,ho,hb6,hli,hb64]
      have : arrE e j = e := by unfold arrE; rw [if_pos h6,if_neg h64]
      rw [this]
      exact (KpP.of hp (Kp.refl b)).app _
  · have hb6 : (v.k != 6) = true := by rw [e1]; exact bne_iff_ne.2 h6
    refine ⟨.nils,[],.inl ⟨rfl,rfl⟩,by unfold arrL; rw [if_neg h6,TJs],fun b p d e hro hp => ?_⟩
    have hpl := (List.getElem?_eq_some_iff.1 hp).1
    obtain ⟨v1,v2,v3,v4⟩ := (hv.ro hro).tin
    have ho : (one v.xk && one v.xi) = true := by rw [v3,v4]; rfl
    have hfl := fun X => sc_dd_fail (at_old hp X) 160
    refine sc_of 3000 Tryz.func66 rfl Tryz.ntmps66 Tryz.results66 Tryz.call66 (by simp) (fun β β' hb => concL_within b.length _ (by simp [within,within.withinL,tv,v1,v2,hpl]) β β' hb) ?_
    unfold tv
    simp only [lawG,↓Xn,↓Xo,↓Xg,↓Xd,↓Xe,↓Xf,Tryz.VΓ,Tryz.Γs,Xp,Xi,Nat.reduceAdd,Nat.reduceSub,Nat.reduceLT,Nat.reduceLeDiff,reduceIte,reduceCtorEq,Nat.reduceEqDiff,implies_true,forall_const,lawV,lawA,beq_self_eq_true,bne_self_eq_false,Int.reduceBEq,Int.reduceBNe,Int.reduceLT,Int.reduceLE,ho,hb6]
    refine callV_sc (hfl _) ?_
    rintro r b1 ⟨rfl,rfl⟩
    simp only [lawG,↓Xn,↓Xo,↓Xg,↓Xd,↓Xe,↓Xf,Tryz.VΓ,Tryz.Γs,Xp,Xi,Nat.reduceAdd,Nat.reduceSub,Nat.reduceLT,Nat.reduceLeDiff,reduceIte,reduceCtorEq,Nat.reduceEqDiff,implies_true,forall_const,lawV,lawA,beq_self_eq_true,bne_self_eq_false,Int.reduceBEq,Int.reduceBNe,Int.reduceLT,Int.reduceLE]
    have : arrE e j = failE e 160 := by unfold arrE; rw [if_neg h6]
    rw [this]
    exact ((KpP.of hp (Kp.refl b)).app _).set _ _ _
set_option maxHeartbeats 4000000 in
theorem sc_dd_list {bs : List Res} {j : Jv} {v : Tv} (hv : TJ bs j v) (key : Bytes) : ∃ y Ls,Ri bs y Ls ∧ TJs bs (listL j key) Ls ∧ ∀ (b : List Res) (p : Nat) (d : Did) (e : Int),Ro bs b → b[p]? = some (.cells (dec d e) 62 true) → within b.length y = true →
    SC Tryz.V 27 [.p p 0,.agg (tv v),.str key] b (fun r b' => r = y ∧ b' = b.set p (.cells (dec d (listE e j key)) 62 true)) := by
  obtain ⟨x,hx,hget⟩ := jd_Get hv key
  obtain ⟨y,Ls,hy,hLs,harr⟩ := sc_dd_array hx
  suffices hs : ∃ y Ls',Ri bs y Ls' ∧ TJs bs (listL j key) Ls' ∧ ∀ (b : List Res) (p : Nat) (d : Did) (e : Int),Ro bs b → b[p]? = some (.cells (dec d e) 62 true) →
      SC Tryz.V 27 [.p p 0,.agg (tv v),.str key] b (fun r b' => r = y ∧ KpP p (dec d (listE e j key)) 62 true b b') by
    obtain ⟨y,Ls',h1,h2,h3⟩ := hs
    exact ⟨y,Ls',h1,h2,fun b p d e hro hp hw => sc_keepP (List.getElem?_eq_some_iff.1 hp).1 hw (dec_flat _ _) (h3 b p d e hro hp)⟩
  unfold tv at hget harr
  cases hg : j.get key with
  | some m =>
    have hat : j.at key = m := by unfold Jv.at; rw [hg]; rfl
    rw [hat] at harr hLs
    rw [hg] at hget
    refine ⟨y,Ls,hy,by unfold listL; rw [hg]; exact hLs,fun b p d e hro hp => ?_⟩
    have hpl := (List.getElem?_eq_some_iff.1 hp).1
    obtain ⟨v1,v2,v3,v4⟩ := (hv.ro hro).tin
    have ho : (one v.xk && one v.xi) = true := by rw [v3,v4]; rfl
    obtain ⟨x1,x2,x3,x4⟩ := (hx.ro hro).tin
    have hxo : (one x.xk && one x.xi) = true := by rw [x3,x4]; rfl
    have hyw := (hy.ro hro).within
    refine sc_of 3000 Tryz.func27 rfl Tryz.ntmps27 Tryz.results27 Tryz.call27 (by simp) (fun β β' hb => concL_within b.length _ (by simp [within,within.withinL,tv,v1,v2,hpl]) β β' hb) ?_
    unfold tv
    simp only [lawG,↓Xn,↓Xo,↓Xg,↓Xd,↓Xe,↓Xf,Tryz.VΓ,Tryz.Γs,Xp,Xi,Nat.reduceAdd,Nat.reduceSub,Nat.reduceLT,Nat.reduceLeDiff,reduceIte,reduceCtorEq,Nat.reduceEqDiff,implies_true,forall_const,lawV,lawA,beq_self_eq_true,bne_self_eq_false,Int.reduceBEq,Int.reduceBNe,Int.reduceLT,Int.reduceLE,ho]
    refine callV_sc (hget _ (hro.app _)) ?_
    rintro r b1 ⟨rfl,rfl⟩
    simp only [lawG,↓Xn,↓Xo,↓Xg,↓Xd,↓Xe,↓Xf,Tryz.VΓ,Tryz.Γs,Xp,Xi,Nat.reduceAdd,Nat.reduceSub,Nat.reduceLT,Nat.reduceLeDiff,reduceIte,reduceCtorEq,Nat.reduceEqDiff,implies_true,forall_const,lawV,lawA,beq_self_eq_true,bne_self_eq_false,Int.reduceBEq,Int.reduceBNe,Int.reduceLT,Int.reduceLE,hxo,Option.isSome_some]
    refine callV_sc (harr _ p d e (hro.app _) (at_old hp _) (within_up (by simp) hyw)) ?_
    rintro r b1 ⟨rfl,rfl⟩
    simp only [lawG,↓Xn,↓Xo,↓Xg,↓Xd,↓Xe,↓Xf,Tryz.VΓ,Tryz.Γs,Xp,Xi,Nat.reduceAdd,Nat.reduceSub,Nat.reduceLT,Nat.reduceLeDiff,reduceIte,reduceCtorEq,Nat.reduceEqDiff,implies_true,forall_const,lawV,lawA,beq_self_eq_true,bne_self_eq_false,Int.reduceBEq,Int.reduceBNe,Int.reduceLT,Int.reduceLE]
    have : listE e j key = arrE e m := by unfold listE; rw [hg]
    rw [this]
    exact ((KpP.of hp (Kp.refl b)).app _).set _ _ _
  | none =>
    rw [hg] at hget
    refine ⟨.nils,[],.inl ⟨rfl,rfl⟩,by unfold listL; rw [hg,TJs],fun b p d e hro hp => ?_⟩
    have hpl := (List.getElem?_eq_some_iff.1 hp).1
    obtain ⟨v1,v2,v3,v4⟩ := (hv.ro hro).tin
    have ho : (one v.xk && one v.xi) = true := by rw [v3,v4]; rfl
    obtain ⟨x1,x2,x3,x4⟩ := (hx.ro hro).tin
    have hxo : (one x.xk && one x.xi) = true := by rw [x3,x4]; rfl
    refine sc_of 3000 Tryz.func27 rfl Tryz.ntmps27 Tryz.results27 Tryz.call27 (by simp) (fun β β' hb => concL_within b.length _ (by simp [within,within.withinL,tv,v1,v2,hpl]) β β' hb) ?_
    unfold tv
    simp only [lawG,↓Xn,↓Xo,↓Xg,↓Xd,↓Xe,↓Xf,Tryz.VΓ,Tryz.Γs,Xp,Xi,Nat.reduceAdd,Nat.reduceSub,Nat.reduceLT,Nat.reduceLeDiff,reduceIte,reduceCtorEq,Nat.reduceEqDiff,implies_true,forall_const,lawV,lawA,beq_self_eq_true,bne_self_eq_false,Int.reduceBEq,Int.reduceBNe,Int.reduceLT,Int.reduceLE,ho]
    refine callV_sc (hget _ (hro.app _)) ?_
    rintro r b1 ⟨rfl,rfl⟩
    simp only [lawG,↓Xn,↓Xo,↓Xg,↓Xd,↓Xe,↓Xf,Tryz.VΓ,Tryz.Γs,Xp,Xi,Nat.reduceAdd,Nat.reduceSub,Nat.reduceLT,Nat.reduceLeDiff,reduceIte,reduceCtorEq,Nat.reduceEqDiff,implies_true,forall_const,lawV,lawA,beq_self_eq_true,bne_self_eq_false,Int.reduceBEq,Int.reduceBNe,Int.reduceLT,Int.reduceLE,hxo,Option.isSome_none]
    have : listE e j key = e := by unfold listE; rw [hg]
    rw [this]
    exact (KpP.of hp (Kp.refl b)).app _
theorem TJs.one {b : List Res} {j : Jv} {v : Tv} (h : TJ b j v) : TJs b [j] [v] := by
  rw [TJs]; exact ⟨v,[],rfl,h,by rw [TJs]⟩
theorem sc_dd_text1 {b : List Res} {p q : Nat} {d : Did} {e : Int} {j : Jv} {x : Tv} (hp : b[p]? = some (.cells (dec d e) 62 true)) (hq : b[q]? = some (.own (tv x) 25 4 1 true)) (hx : TJ b j x) :
    SC Tryz.V 26 [.p p 0,.o q 1] b (fun r b' => KpP p (dec d (textsE e [j])) 62 true (b.set q (.own (tv x) 25 4 1 false)) b' ∧ Rn b.length b' r [j.t]) := by
  have hql := (List.getElem?_eq_some_iff.1 hq).1
  have hne : q ≠ p := by rintro rfl; rw [hp] at hq; cases hq
  have hro : Ro b (b.set q (.own (tv x) 25 4 1 false)) := (Ro.refl b).setT hq _
  refine sc_dull hq ((sc_dd_texts (get_setN hp hne _) (x := .o q 1) (Ls := [x]) (L := [j]) (.inr ⟨q,rfl,?_⟩) (TJs.one (hx.ro hro)) (by simp)).mono ?_)
  · rw [List.getElem?_set_self hql]
    simp
  · rintro r b' ⟨h1,h2⟩
    exact ⟨h1,by simpa using h2⟩
set_option maxHeartbeats 4000000 in
theorem sc_dd_member {bs : List Res} {j : Jv} {v : Tv} (hv : TJ bs j v) (key : Bytes) {p : Nat} {d : Did} {e : Int} (hp : bs[p]? = some (.cells (dec d e) 62 true)) :
    SC Tryz.V 24 [.p p 0,.agg (tv v),.str key] bs (fun r b' => r = .str (j.at key).t ∧ b' = bs.set p (.cells (dec d (textsE e [j.at key])) 62 true)) := by
  have hpl := (List.getElem?_eq_some_iff.1 hp).1
  refine sc_keepP hpl rfl (dec_flat _ _) ?_
  obtain ⟨x,hx,hget⟩ := jd_Get hv key
  obtain ⟨v1,v2,v3,v4⟩ := hv.tin
  have ho : (one v.xk && one v.xi) = true := by rw [v3,v4]; rfl
  obtain ⟨x1,x2,x3,x4⟩ := hx.tin
  have hxo : (one x.xk && one x.xi) = true := by rw [x3,x4]; rfl
  have ht1 := fun X => sc_dd_text1 (b := bs ++ X) (q := bs.length + 2) (x := x) (j := j.at key) (at_old hp X)
  unfold tv at hget ht1
  refine sc_of 3000 Tryz.func24 rfl Tryz.ntmps24 Tryz.results24 Tryz.call24 (by simp) (fun β β' hb => concL_within bs.length _ (by simp [within,within.withinL,tv,v1,v2,hpl]) β β' hb) ?_
  unfold tv
  simp only [lawG,↓Xn,↓Xo,↓Xg,↓Xd,↓Xe,↓Xf,Tryz.VΓ,Tryz.Γs,Xp,Xi,Nat.reduceAdd,Nat.reduceSub,Nat.reduceLT,Nat.reduceLeDiff,reduceIte,reduceCtorEq,Nat.reduceEqDiff,implies_true,forall_const,lawV,lawA,beq_self_eq_true,bne_self_eq_false,Int.reduceBEq,Int.reduceBNe,Int.reduceLT,Int.reduceLE,ho]
  refine callV_sc (hget _ ((Ro.refl bs).app _)) ?_
  rintro r b1 ⟨rfl,rfl⟩
  simp only [lawG,↓Xn,↓Xo,↓Xg,↓Xd,↓Xe,↓Xf,Tryz.VΓ,Tryz.Γs,Xp,Xi,Nat.reduceAdd,Nat.reduceSub,Nat.reduceLT,Nat.reduceLeDiff,reduceIte,reduceCtorEq,Nat.reduceEqDiff,implies_true,forall_const,lawV,lawA,beq_self_eq_true,bne_self_eq_false,Int.reduceBEq,Int.reduceBNe,Int.reduceLT,Int.reduceLE,hxo]
  refine ⟨by omega,callV_sc (ht1 _ (app_at _ _ 2) (hx.ro ((Ro.refl bs).app _))) ?_⟩
  rintro r b1 ⟨hk1,⟨-,h0⟩ | ⟨q,-,rfl,hq,hbq⟩⟩
  · cases h0
  simp only [List.length_append,List.length_cons,List.length_nil,List.map_cons,List.map_nil] at hbq hq
  simp only [lawG,↓Xn,↓Xo,↓Xg,↓Xd,↓Xe,↓Xf,Tryz.VΓ,Tryz.Γs,Xp,Xi,Nat.reduceAdd,Nat.reduceSub,Nat.reduceLT,Nat.reduceLeDiff,reduceIte,reduceCtorEq,Nat.reduceEqDiff,implies_true,forall_const,lawV,lawA,beq_self_eq_true,bne_self_eq_false,Int.reduceBEq,Int.reduceBNe,Int.reduceLT,Int.reduceLE,hbq,Int.toNat_zero,Nat.zero_mul]
  exact ⟨by omega,(KpP.of hp (((Kp.refl bs).app _).set (by omega) _)).trans hk1⟩
set_option maxHeartbeats 4000000 in
theorem sc_dd_more {bs : List Res} {j : Jv} {v : Tv} (hv : TJ bs j v) {p : Nat} {d : Did} {e : Int} (hp : bs[p]? = some (.cells (dec d e) 62 true)) :
    SC Tryz.V 29 [.p p 0,.agg (tv v)] bs (fun r b => KpP p (dec d (moreE e j)) 62 true bs b ∧ Rn bs.length b r (moreL j)) := by
  have hpl := (List.getElem?_eq_some_iff.1 hp).1
  obtain ⟨e1,-⟩ := hv.un
  obtain ⟨v1,v2,v3,v4⟩ := hv.tin
  have ho : (one v.xk && one v.xi) = true := by rw [v3,v4]; rfl
  refine sc_of 3000 Tryz.func29 rfl Tryz.ntmps29 Tryz.results29 Tryz.call29 (by simp) (fun β β' hb => concL_within bs.length _ (by simp [within,within.withinL,tv,v1,v2,hpl]) β β' hb) ?_
  by_cases h5 : j.k = 5
  · have hb5 : (v.k == 5) = true := by rw [e1,h5]; rfl
    have ht1 := fun X => sc_dd_text1 (b := bs ++ X) (q := bs.length + 1) (x := v) (j := j) (at_old hp X)
    have hE : moreE e j = textsE e [j] := by unfold moreE; rw [if_pos h5]; simp [textsE,h5]
    have hM : moreL j = [j.t] := by unfold moreL; rw [if_pos h5]
    unfold tv at ht1 ⊢
    simp only [lawG,↓Xn,↓Xo,↓Xg,↓Xd,↓Xe,↓Xf,Tryz.VΓ,Tryz.Γs,Xp,Xi,Nat.reduceAdd,Nat.reduceSub,Nat.reduceLT,Nat.reduceLeDiff,reduceIte,reduceCtorEq,Nat.reduceEqDiff,implies_true,forall_const,lawV,lawA,beq_self_eq_true,bne_self_eq_false,Int.reduceBEq,Int.reduceBNe,Int.reduceLT,Int.reduceLE,ho,hb5]
    refine ⟨by omega,callV_sc (ht1 _ (app_at _ _ 1) (hv.ro ((Ro.refl bs).app _))) ?_⟩
    rintro r b1 ⟨hk1,hr⟩
    have hro := hr.one
    simp only [lawG,↓Xn,↓Xo,↓Xg,↓Xd,↓Xe,↓Xf,Tryz.VΓ,Tryz.Γs,Xp,Xi,Nat.reduceAdd,Nat.reduceSub,Nat.reduceLT,Nat.reduceLeDiff,reduceIte,reduceCtorEq,Nat.reduceEqDiff,implies_true,forall_const,lawV,lawA,beq_self_eq_true,bne_self_eq_false,Int.reduceBEq,Int.reduceBNe,Int.reduceLT,Int.reduceLE,hro]
    rw [hE,hM]
    exact ⟨(KpP.of hp (((Kp.refl bs).app _).set (by omega) _)).trans hk1,hr.le (by simp)⟩
  · have hb5 : (v.k == 5) = false := by rw [e1]; exact beq_eq_false_iff_ne.2 h5
    obtain ⟨y,Ls,hy,hLs,harr⟩ := sc_dd_array hv
    have hE : moreE e j = textsE (arrE e j) (arrL j) := by unfold moreE; rw [if_neg h5]
    have hM : moreL j = (arrL j).map Jv.t := by unfold moreL; rw [if_neg h5]
    have hl : (arrL j).length ≤ 1000 := by unfold arrL; split <;> (try split) <;> first | omega | simp
    unfold tv at harr ⊢
    simp only [lawG,↓Xn,↓Xo,↓Xg,↓Xd,↓Xe,↓Xf,Tryz.VΓ,Tryz.Γs,Xp,Xi,Nat.reduceAdd,Nat.reduceSub,Nat.reduceLT,Nat.reduceLeDiff,reduceIte,reduceCtorEq,Nat.reduceEqDiff,implies_true,forall_const,lawV,lawA,beq_self_eq_true,bne_self_eq_false,Int.reduceBEq,Int.reduceBNe,Int.reduceLT,Int.reduceLE,ho,hb5]
    refine callV_sc (harr _ p d e ((Ro.refl bs).app _) (at_old hp _) (within_up (by simp) hy.within)) ?_
    rintro r b1 ⟨rfl,rfl⟩
    have hro : Ro bs ((bs ++ [Res.cells [.int .i64 v.k,.str v.t,v.xk,v.xi] 25 true]).set p (.cells (dec d (arrE e j)) 62 true)) := ((Ro.refl bs).app _).trans (ro_box (at_old hp _) _)
    have hk1 := ((KpP.of hp (Kp.refl bs)).app [Res.cells [.int .i64 v.k,.str v.t,v.xk,v.xi] 25 true]).set (dec d (arrE e j)) 62 true
    have hyo := hy.one
    simp only [lawG,↓Xn,↓Xo,↓Xg,↓Xd,↓Xe,↓Xf,Tryz.VΓ,Tryz.Γs,Xp,Xi,Nat.reduceAdd,Nat.reduceSub,Nat.reduceLT,Nat.reduceLeDiff,reduceIte,reduceCtorEq,Nat.reduceEqDiff,implies_true,forall_const,lawV,lawA,beq_self_eq_true,bne_self_eq_false,Int.reduceBEq,Int.reduceBNe,Int.reduceLT,Int.reduceLE,hyo]
    refine callV_sc (sc_dd_texts hk1.2.2 (hy.ro hro) (TJs.ro hro hLs) hl) ?_
    rintro r b1 ⟨hk2,hr⟩
    have hro := hr.one
    simp only [lawG,↓Xn,↓Xo,↓Xg,↓Xd,↓Xe,↓Xf,Tryz.VΓ,Tryz.Γs,Xp,Xi,Nat.reduceAdd,Nat.reduceSub,Nat.reduceLT,Nat.reduceLeDiff,reduceIte,reduceCtorEq,Nat.reduceEqDiff,implies_true,forall_const,lawV,lawA,beq_self_eq_true,bne_self_eq_false,Int.reduceBEq,Int.reduceBNe,Int.reduceLT,Int.reduceLE,hro]
    rw [hE,hM]
    exact ⟨hk1.trans hk2,hr.le (by simp)⟩
end Go.Proofs.YtejfjmcjicpodaaGreatDoor
/- The walks of diddoc's decoder: id,service. -/
set_option linter.all false
set_option maxRecDepth 20000
namespace Go.Proofs.YtejfjmcjicpodaaGreatDoor
open Go Vc Go.RowKit Wf
set_option linter.unusedSimpArgs false
theorem resolve_can {d : Did} {r : Bytes} (h : (didResolve d r).2 = 0) : ∃ s,didUrl s = ((didResolve d r).1,0) := by
  have h1 : didResolve d r = ((didResolve d r).1,0) := by rw [← h]
  unfold didResolve at h h1 ⊢
  split at h
  · rename_i hh
    rw [if_pos hh] at h1
    rw [if_pos hh]
    exact ⟨_,h1⟩
  · rename_i hh
    rw [if_neg hh] at h1
    rw [if_neg hh]
    split at h
    · rename_i h2
      rw [if_pos h2] at h1
      rw [if_pos h2]
      exact ⟨_,h1⟩
    · simp at h
theorem resolve_fits {d : Did} {r : Bytes} (h : (didResolve d r).2 = 0) : DidUrlFits (didResolve d r).1 := by
  obtain ⟨s,hs⟩ := resolve_can h
  obtain ⟨hc,h1,h2⟩ := didUrl_can hs
  unfold didUrlText didText at h1
  simp only [List.length_append] at h1
  refine ⟨⟨by omega,by omega⟩,by omega,?_,?_⟩
  · cases hq : (didResolve d r).1.hasQuery
    · rw [hc.noq hq]; simp
    · rw [hq] at h1
      simp at h1; omega
  · cases hq : (didResolve d r).1.hasFrag
    · rw [hc.nof hq]; simp
    · rw [hq] at h1
      simp at h1; omega
set_option maxHeartbeats 4000000 in
theorem sc_dd_id {bs : List Res} {j : Jv} {v : Tv} (hv : TJ bs j v) {p : Nat} {d : Did} {e : Int} (hd : DidFits d) (hp : bs[p]? = some (.cells (dec d e) 62 true)) :
    SC Tryz.V 30 [.p p 0,.agg (tv v)] bs (fun r b' => r = .str (idT d j) ∧ b' = bs.set p (.cells (dec d (idE d e j)) 62 true)) := by
  have hpl := (List.getElem?_eq_some_iff.1 hp).1
  refine sc_keepP hpl rfl (dec_flat _ _) ?_
  obtain ⟨v1,v2,v3,v4⟩ := hv.tin
  have ho : (one v.xk && one v.xi) = true := by rw [v3,v4]; rfl
  obtain ⟨x,hx,-⟩ := jd_Get hv ([105,100] : List UInt8)
  obtain ⟨-,-,hlen,-⟩ := hx.un
  have hm := fun X => sc_dd_member (hv.ro ((Ro.refl bs).app X)) ([105,100] : List UInt8) (at_old hp X)
  have pr := p_did_Resolve d (j.at ([105,100] : List UInt8)).t hd hlen
  unfold tv at hm
  unfold dsv dusv at pr
  refine sc_of 3000 Tryz.func30 rfl Tryz.ntmps30 Tryz.results30 Tryz.call30 (by simp) (fun β β' hb => concL_within bs.length _ (by simp [within,within.withinL,tv,v1,v2,hpl]) β β' hb) ?_
  unfold tv
  simp only [lawG,↓Xn,↓Xo,↓Xg,↓Xd,↓Xe,↓Xf,Tryz.VΓ,Tryz.Γs,Xp,Xi,Nat.reduceAdd,Nat.reduceSub,Nat.reduceLT,Nat.reduceLeDiff,reduceIte,reduceCtorEq,Nat.reduceEqDiff,implies_true,forall_const,lawV,lawA,beq_self_eq_true,bne_self_eq_false,Int.reduceBEq,Int.reduceBNe,Int.reduceLT,Int.reduceLE,ho]
  refine callV_sc (hm _) ?_
  rintro r b1 ⟨rfl,rfl⟩
  have hset : ∀ (l : List Res) X,(bs ++ l).set p X = bs.set p X ++ l := fun l X => app_setL hpl l X
  rw [hset]
  have hk1 := (KpP.of hp (Kp.refl bs)).set (dec d (textsE e [j.at ([105,100] : List UInt8)])) 62 true
  have hl1 : (bs.set p (.cells (dec d (textsE e [j.at ([105,100] : List UInt8)])) 62 true)).length = bs.length := List.length_set
  generalize bs.set p (.cells (dec d (textsE e [j.at ([105,100] : List UInt8)])) 62 true) = b1 at hk1 hl1
  have hp1 := hk1.2.2
  unfold dec at hp1
  simp only [lawG,↓Xn,↓Xo,↓Xg,↓Xd,↓Xe,↓Xf,Tryz.VΓ,Tryz.Γs,Xp,Xi,Nat.reduceAdd,Nat.reduceSub,Nat.reduceLT,Nat.reduceLeDiff,reduceIte,reduceCtorEq,Nat.reduceEqDiff,implies_true,forall_const,lawV,lawA,beq_self_eq_true,bne_self_eq_false,Int.reduceBEq,Int.reduceBNe,Int.reduceLT,Int.reduceLE,at_old hp1]
  refine callV_pc pr ?_
  by_cases he : (didResolve d (j.at ([105,100] : List UInt8)).t).2 = 0
  · have hb : ((didResolve d (j.at ([105,100] : List UInt8)).t).2 != 0) = false := by rw [he]; rfl
    have pf := p_did_Format _ (resolve_fits he)
    unfold dusv at pf
    simp only [lawG,↓Xn,↓Xo,↓Xg,↓Xd,↓Xe,↓Xf,Tryz.VΓ,Tryz.Γs,Xp,Xi,Nat.reduceAdd,Nat.reduceSub,Nat.reduceLT,Nat.reduceLeDiff,reduceIte,reduceCtorEq,Nat.reduceEqDiff,implies_true,forall_const,lawV,lawA,beq_self_eq_true,bne_self_eq_false,Int.reduceBEq,Int.reduceBNe,Int.reduceLT,Int.reduceLE,hb]
    (refine callV_pc (pf) ?_; simp only [lawG,↓Xn,↓Xo,↓Xg,↓Xd,↓Xe,↓Xf,Tryz.VΓ,Tryz.Γs,Xp,Xi,Nat.reduceAdd,Nat.reduceSub,Nat.reduceLT,Nat.reduceLeDiff,reduceIte,reduceCtorEq,Nat.reduceEqDiff,implies_true,forall_const,lawV,lawA,beq_self_eq_true,bne_self_eq_false,Int.reduceBEq,Int.reduceBNe,Int.reduceLT,Int.reduceLE])
    have e1 : idT d j = didUrlText (didResolve d (j.at ([105,100] : List UInt8)).t).1 := by unfold idT; rw [if_pos he]
    have e2 : idE d e j = textsE e [j.at ([105,100] : List UInt8)] := by unfold idE; rw [if_pos he]
    rw [e1,e2]
    exact ⟨rfl,hk1.app _⟩
  · have hb : ((didResolve d (j.at ([105,100] : List UInt8)).t).2 != 0) = true := bne_iff_ne.2 he
    have hfl := fun X => sc_dd_fail (at_old hk1.2.2 X) 160
    simp only [lawG,↓Xn,↓Xo,↓Xg,↓Xd,↓Xe,↓Xf,Tryz.VΓ,Tryz.Γs,Xp,Xi,Nat.reduceAdd,Nat.reduceSub,Nat.reduceLT,Nat.reduceLeDiff,reduceIte,reduceCtorEq,Nat.reduceEqDiff,implies_true,forall_const,lawV,lawA,beq_self_eq_true,bne_self_eq_false,Int.reduceBEq,Int.reduceBNe,Int.reduceLT,Int.reduceLE,hb]
    refine callV_sc (hfl _) ?_
    rintro r b2 ⟨rfl,rfl⟩
    simp only [lawG,↓Xn,↓Xo,↓Xg,↓Xd,↓Xe,↓Xf,Tryz.VΓ,Tryz.Γs,Xp,Xi,Nat.reduceAdd,Nat.reduceSub,Nat.reduceLT,Nat.reduceLeDiff,reduceIte,reduceCtorEq,Nat.reduceEqDiff,implies_true,forall_const,lawV,lawA,beq_self_eq_true,bne_self_eq_false,Int.reduceBEq,Int.reduceBNe,Int.reduceLT,Int.reduceLE]
    have e1 : idT d j = [] := by unfold idT; rw [if_neg he]
    have e2 : idE d e j = failE (textsE e [j.at ([105,100] : List UInt8)]) 160 := by unfold idE; rw [if_neg he]
    rw [e1,e2]
    exact ⟨rfl,(hk1.app _).set _ _ _⟩
def canS (i : Nat) (T : List Bytes) : SV := if T = [] then .nils else .o i T.length
def canR (T : List Bytes) : Res := if T = [] then .gone else .own (T.map SV.str) 9 1 T.length false
theorem canS_one (i : Nat) (T : List Bytes) : one (canS i T) = true := by unfold canS; split <;> rfl
theorem Rn.can {lo : Nat} {b : List Res} {y : SV} {T : List Bytes} (h : Rn lo b y T) (i : Nat) : ∃ q,(T ≠ [] → lo ≤ q) ∧ ∀ ρ : Nat → Nat,ρ i = q → y = ren ρ (canS i T) ∧ (T ≠ [] → b[q]? = some (.own (T.map SV.str) 9 1 T.length false)) := by
  rcases h with ⟨rfl,rfl⟩ | ⟨q,h0,rfl,hq,hbq⟩
  · exact ⟨0,by simp,fun ρ hρ => ⟨by simp [canS,ren],by simp⟩⟩
  · have hT : T ≠ [] := by rintro rfl; simp at h0
    exact ⟨q,fun _ => hq,fun ρ hρ => ⟨by simp [canS,hT,ren,hρ],fun _ => hbq⟩⟩
theorem canS_in {n i : Nat} (h : i < n) (T : List Bytes) : within n (canS i T) = true := by
  unfold canS; split <;> simp [within,h]
set_option maxHeartbeats 8000000 in
theorem sc_dd_servR {bs : List Res} {j : Jv} {v : Tv} (hv : TJ bs j v) {p : Nat} {d : Did} {e : Int} (hd : DidFits d) (hp : bs[p]? = some (.cells (dec d e) 62 true)) :
    SC Tryz.V 31 [.p p 0,.agg (tv v)] bs (fun r b => ∃ y1 y2,r = .agg [.str (servM d j).id,y1,y2] ∧ KpP p (dec d (servE d e j)) 62 true bs b ∧ Rn bs.length b y1 (servM d j).types ∧ Rn bs.length b y2 (servM d j).ends) := by
  have hpl := (List.getElem?_eq_some_iff.1 hp).1
  obtain ⟨v1,v2,v3,v4⟩ := hv.tin
  have ho : (one v.xk && one v.xi) = true := by rw [v3,v4]; rfl
  have hid := fun X => sc_dd_id (hv.ro ((Ro.refl bs).app X)) hd (at_old hp X)
  obtain ⟨x1,hx1,hg1⟩ := jd_Get hv ([116,121,112,101] : List UInt8)
  obtain ⟨x2,hx2,hg2⟩ := jd_Get hv ([115,101,114,118,105,99,101,69,110,100,112,111,105,110,116] : List UInt8)
  obtain ⟨-,-,q3,q4⟩ := hx1.tin
  obtain ⟨-,-,r3,r4⟩ := hx2.tin
  obtain ⟨z2,-⟩ := hx2.un
  have ho1 : (one x1.xk && one x1.xi) = true := by rw [q3,q4]; rfl
  have ho2 : (one x2.xk && one x2.xi) = true := by rw [r3,r4]; rfl
  unfold tv at hid hg1 hg2
  refine sc_of 3000 Tryz.func31 rfl Tryz.ntmps31 Tryz.results31 Tryz.call31 (by simp) (fun β β' hb => concL_within bs.length _ (by simp [within,within.withinL,tv,v1,v2,hpl]) β β' hb) ?_
  unfold tv
  simp only [lawG,↓Xn,↓Xo,↓Xg,↓Xd,↓Xe,↓Xf,Tryz.VΓ,Tryz.Γs,Xp,Xi,Nat.reduceAdd,Nat.reduceSub,Nat.reduceLT,Nat.reduceLeDiff,reduceIte,reduceCtorEq,Nat.reduceEqDiff,implies_true,forall_const,lawV,lawA,beq_self_eq_true,bne_self_eq_false,Int.reduceBEq,Int.reduceBNe,Int.reduceLT,Int.reduceLE,ho]
  refine callV_sc (hid _) ?_
  rintro r b1 ⟨rfl,rfl⟩
  have hset : ∀ (l : List Res) X,(bs ++ l).set p X = bs.set p X ++ l := fun l X => app_setL hpl l X
  rw [hset]
  have hk1 := (KpP.of hp (Kp.refl bs)).set (dec d (idE d e j)) 62 true
  have hl1 : (bs.set p (.cells (dec d (idE d e j)) 62 true)).length = bs.length := List.length_set
  have hro1 : Ro bs (bs.set p (.cells (dec d (idE d e j)) 62 true)) := ro_box hp _
  generalize bs.set p (.cells (dec d (idE d e j)) 62 true) = b1 at hk1 hl1 hro1
  rw [← hl1]
  simp only [lawG,↓Xn,↓Xo,↓Xg,↓Xd,↓Xe,↓Xf,Tryz.VΓ,Tryz.Γs,Xp,Xi,Nat.reduceAdd,Nat.reduceSub,Nat.reduceLT,Nat.reduceLeDiff,reduceIte,reduceCtorEq,Nat.reduceEqDiff,implies_true,forall_const,lawV,lawA,beq_self_eq_true,bne_self_eq_false,Int.reduceBEq,Int.reduceBNe,Int.reduceLT,Int.reduceLE]
  refine callV_sc (hg1 _ (hro1.app _)) ?_
  rintro r b2 ⟨rfl,rfl⟩
  simp only [lawG,↓Xn,↓Xo,↓Xg,↓Xd,↓Xe,↓Xf,Tryz.VΓ,Tryz.Γs,Xp,Xi,Nat.reduceAdd,Nat.reduceSub,Nat.reduceLT,Nat.reduceLeDiff,reduceIte,reduceCtorEq,Nat.reduceEqDiff,implies_true,forall_const,lawV,lawA,beq_self_eq_true,bne_self_eq_false,Int.reduceBEq,Int.reduceBNe,Int.reduceLT,Int.reduceLE,ho1]
  have hmo := sc_dd_more (hx1.ro (hro1.app [.cells [.int .i64 v.k,.str v.t,v.xk,v.xi] 25 true,.cells [.str [],.nils,.nils] 46 true,.cells [.str (idT d j),.nils,.nils] 46 true,.cells [.int .i64 x1.k,.str x1.t,x1.xk,x1.xi] 25 true])) (at_old hk1.2.2 _)
  unfold tv at hmo
  refine callV_sc hmo ?_
  rintro y1 b2 ⟨hk2,hy1⟩
  have k3 := (hk1.app _).trans hk2
  have c0 := hk2.at (app_at0 _ _) (by omega)
  have c1 := hk2.at (app_at _ _ 1) (by omega)
  have c2 := hk2.at (app_at _ _ 2) (by omega)
  have hro2 := k3.ro hp
  have hyo1 := hy1.one
  have hyc1 := hy1.cells
  have hy1 := hy1.le (lo' := bs.length) (by simp; omega)
  have hb2 := hk2.1
  simp only [List.length_append,List.length_cons,List.length_nil] at hb2
  clear hk2 hmo hid
  rw [hl1] at c0 c1 c2 hb2
  rw [hl1]
  have c2l := (List.getElem?_eq_some_iff.1 c2).1
  have c02 := fun X => get_setN c0 (show bs.length + 2 ≠ bs.length by omega) X
  simp only [lawG,↓Xn,↓Xo,↓Xg,↓Xd,↓Xe,↓Xf,Tryz.VΓ,Tryz.Γs,Xp,Xi,Nat.reduceAdd,Nat.reduceSub,Nat.reduceLT,Nat.reduceLeDiff,reduceIte,reduceCtorEq,Nat.reduceEqDiff,implies_true,forall_const,lawV,lawA,beq_self_eq_true,bne_self_eq_false,Int.reduceBEq,Int.reduceBNe,Int.reduceLT,Int.reduceLE,c0,c2,c02,hyo1,hyc1,ho]
  (repeat (refine ⟨by first | omega | (unfold maxLen; omega),?_⟩))
  have hro3 : Ro bs (b2.set (bs.length + 2) (.cells [.str (idT d j),y1,.nils] 46 true)) := hro2.trans (ro_box c2 _)
  refine callV_sc (hg2 _ hro3) ?_
  rintro r b3 ⟨rfl,rfl⟩
  have k4 := k3.setN (i := bs.length + 2) (by omega) (by omega) (.cells [.str (idT d j),y1,.nils] 46 true)
  have d1 := get_setN c1 (show bs.length + 2 ≠ bs.length + 1 by omega) (.cells [.str (idT d j),y1,.nils] 46 true)
  have d2 : (b2.set (bs.length + 2) (.cells [.str (idT d j),y1,.nils] 46 true))[bs.length + 2]? = _ := List.getElem?_set_self c2l
  have hy1 := hy1.ro (ro_box c2 (.cells [.str (idT d j),y1,.nils] 46 true))
  generalize b2.set (bs.length + 2) (.cells [.str (idT d j),y1,.nils] 46 true) = b3 at k4 d1 d2 hro3 hy1
  have d1l := (List.getElem?_eq_some_iff.1 d1).1
  have d2l := (List.getElem?_eq_some_iff.1 d2).1
  by_cases h7 : (j.at ([115,101,114,118,105,99,101,69,110,100,112,111,105,110,116] : List UInt8)).k = 7
  · have hb7 : (x2.k != 7) = false := by rw [z2,h7]; rfl
    have s1 : ∀ (l : List Res) X,(b3 ++ l).set (bs.length + 1) X = b3.set (bs.length + 1) X ++ l := fun l X => app_setL d1l l X
    have s2 := fun X => get_setS d1l X
    simp only [lawG,↓Xn,↓Xo,↓Xg,↓Xd,↓Xe,↓Xf,Tryz.VΓ,Tryz.Γs,Xp,Xi,Nat.reduceAdd,Nat.reduceSub,Nat.reduceLT,Nat.reduceLeDiff,reduceIte,reduceCtorEq,Nat.reduceEqDiff,implies_true,forall_const,lawV,lawA,beq_self_eq_true,bne_self_eq_false,Int.reduceBEq,Int.reduceBNe,Int.reduceLT,Int.reduceLE,ho2,hb7,at_old d1,at_old d2,s1,s2,hyo1,hyc1]
    refine ⟨y1,.nils,rfl,?_,?_,?_⟩
    · have : servE d e j = moreE (idE d e j) (j.at ([116,121,112,101] : List UInt8)) := by unfold servE; rw [if_pos h7]
      rw [this]
      exact (k4.setN (by omega) (by omega) _).app _
    · exact hy1.ro ((ro_box d1 _).app _)
    · have : (servM d j).ends = [] := by unfold servM; rw [if_pos h7]
      rw [this]; exact .inl ⟨rfl,rfl⟩
  · have hb7 : (x2.k != 7) = true := by rw [z2]; exact bne_iff_ne.2 h7
    simp only [lawG,↓Xn,↓Xo,↓Xg,↓Xd,↓Xe,↓Xf,Tryz.VΓ,Tryz.Γs,Xp,Xi,Nat.reduceAdd,Nat.reduceSub,Nat.reduceLT,Nat.reduceLeDiff,reduceIte,reduceCtorEq,Nat.reduceEqDiff,implies_true,forall_const,lawV,lawA,beq_self_eq_true,bne_self_eq_false,Int.reduceBEq,Int.reduceBNe,Int.reduceLT,Int.reduceLE,ho2,hb7]
    have hmo := sc_dd_more (hx2.ro (hro3.app [.cells [.int .i64 x2.k,.str x2.t,x2.xk,x2.xi] 25 true])) (at_old k4.2.2 _)
    unfold tv at hmo
    refine callV_sc hmo ?_
    rintro y2 b4 ⟨hk5,hy2⟩
    have k5 := (k4.app _).trans hk5
    have f1 := hk5.at (at_old d1 _) (by omega)
    have f2 := hk5.at (at_old d2 _) (by omega)
    have hyo2 := hy2.one
    have hyc2 := hy2.cells
    have hy1 := hy1.ro (((Ro.refl b3).app _).trans (hk5.ro (at_old k4.2.2 _)))
    have hy2 := hy2.le (lo' := bs.length) (by have := k4.1; simp; omega)
    have f1l := (List.getElem?_eq_some_iff.1 f1).1
    have f2l := (List.getElem?_eq_some_iff.1 f2).1
    have s1 := fun X Y => List.getElem?_set_self (l := b4.set (bs.length + 2) X) (i := bs.length + 1) (a := Y) (by simpa using f1l)
    have s2 := fun X => get_setN f1 (show bs.length + 2 ≠ bs.length + 1 by omega) X
    have s3 : ∀ X,(b4.set (bs.length + 2) X)[bs.length + 2]? = some X := fun X => List.getElem?_set_self f2l
    simp only [lawG,↓Xn,↓Xo,↓Xg,↓Xd,↓Xe,↓Xf,Tryz.VΓ,Tryz.Γs,Xp,Xi,Nat.reduceAdd,Nat.reduceSub,Nat.reduceLT,Nat.reduceLeDiff,reduceIte,reduceCtorEq,Nat.reduceEqDiff,implies_true,forall_const,lawV,lawA,beq_self_eq_true,bne_self_eq_false,Int.reduceBEq,Int.reduceBNe,Int.reduceLT,Int.reduceLE,f1,f2,hyo1,hyo2,hyc1,hyc2,s1,s2,s3]
    refine ⟨y1,y2,rfl,?_,?_,?_⟩
    · have : servE d e j = moreE (moreE (idE d e j) (j.at ([116,121,112,101] : List UInt8))) (j.at ([115,101,114,118,105,99,101,69,110,100,112,111,105,110,116] : List UInt8)) := by unfold servE; rw [if_neg h7]
      rw [this]
      exact (k5.setN (by omega) (by omega) _).setN (by omega) (by omega) _
    · exact hy1.ro ((ro_box f2 _).trans (ro_box (s2 _) _))
    · have : (servM d j).ends = moreL (j.at ([115,101,114,118,105,99,101,69,110,100,112,111,105,110,116] : List UInt8)) := by unfold servM; rw [if_neg h7]
      rw [this]; exact hy2.ro ((ro_box f2 _).trans (ro_box (s2 _) _))
theorem serv_pick {f : FuncId} {args : List SV} {bs : List Res} {p : Nat} {c : List SV} {T : TypeId} {m : Bool} (hpl : p < bs.length) (hc : flat.flatL c = true) (S : Svm)
    (h : SC Tryz.V f args bs (fun r b => ∃ y1 y2,r = .agg [.str S.id,y1,y2] ∧ KpP p c T m bs b ∧ Rn bs.length b y1 S.types ∧ Rn bs.length b y2 S.ends)) :
    SC Tryz.V f args bs (fun r b => r = .agg [.str S.id,canS bs.length S.types,canS (bs.length + 1) S.ends] ∧ b = bs.set p (.cells c T m) ++ [canR S.types,canR S.ends]) := by
  refine SC.pickP (T := T) (mb := m) hpl hc (h.mono ?_)
  rintro r b ⟨y1,y2,rfl,hk,h1,h2⟩
  obtain ⟨q1,l1,k1⟩ := h1.can bs.length
  obtain ⟨q2,l2,k2⟩ := h2.can (bs.length + 1)
  obtain ⟨ρ,hρ⟩ : ∃ ρ : Nat → Nat,ρ = fun i => if i = bs.length then q1 else if i = bs.length + 1 then q2 else i := ⟨_,rfl⟩
  have r1 : ρ bs.length = q1 := by rw [hρ]; simp
  have r2 : ρ (bs.length + 1) = q2 := by rw [hρ]; simp
  obtain ⟨a1,b1⟩ := k1 ρ r1
  obtain ⟨a2,b2⟩ := k2 ρ r2
  have hin : ∀ (T : List Bytes) m,within.withinL m (T.map SV.str) = true := fun T m => str_in m T
  have hk0 : ∀ k,k < bs.length → ρ k = k := fun k hk => by rw [hρ]; show (if k = bs.length then q1 else if k = bs.length + 1 then q2 else k) = k; rw [if_neg (by omega),if_neg (by omega)]
  refine ⟨ρ,[canR S.types,canR S.ends],_,hk,hk0,?_,?_,?_,rfl,rfl⟩
  · rintro q X hX
    match q,hX with
    | 0,hX =>
      cases hX
      by_cases hT : S.types = []
      · rw [show canR S.types = .gone from if_pos hT]; exact .inl rfl
      · rw [show canR S.types = .own (S.types.map SV.str) 9 1 S.types.length false from if_neg hT]
        refine .inr ⟨_,_,_,_,false,rfl,?_,?_,hin _ _⟩
        · rw [Nat.add_zero,r1]; exact l1 hT
        · rw [Nat.add_zero,r1,renL_within hk0 _ (hin _ _)]; exact b1 hT
    | 1,hX =>
      cases hX
      by_cases hT : S.ends = []
      · rw [show canR S.ends = .gone from if_pos hT]; exact .inl rfl
      · rw [show canR S.ends = .own (S.ends.map SV.str) 9 1 S.ends.length false from if_neg hT]
        refine .inr ⟨_,_,_,_,false,rfl,?_,?_,hin _ _⟩
        · rw [r2]; exact l2 hT
        · rw [r2,renL_within hk0 _ (hin _ _)]; exact b2 hT
  · rw [a1,a2]; simp [ren,renL]
  · simp [within,within.withinL,canS_in]
theorem sc_dd_service {bs : List Res} {j : Jv} {v : Tv} (hv : TJ bs j v) {p : Nat} {d : Did} {e : Int} (hd : DidFits d) (hp : bs[p]? = some (.cells (dec d e) 62 true)) :
    SC Tryz.V 31 [.p p 0,.agg (tv v)] bs (fun r b => r = .agg [.str (servM d j).id,canS bs.length (servM d j).types,canS (bs.length + 1) (servM d j).ends] ∧ b = bs.set p (.cells (dec d (servE d e j)) 62 true) ++ [canR (servM d j).types,canR (servM d j).ends]) :=
  serv_pick (List.getElem?_eq_some_iff.1 hp).1 (dec_flat d (servE d e j)) (servM d j) (sc_dd_servR hv hd hp)
end Go.Proofs.YtejfjmcjicpodaaGreatDoor
