/- Texts of this claim,laid together: DocA,DocB,DocC,DocD,DocS,One,SelA,Px1,RfH,Px2,Px3,Px4,Px5. -/
import Derived.Test.YtejfjmcjicpodaaGreatDoorK3
/- The walks of diddoc's decoder: fail,texts,member,array,list,oneOrMore,id. -/
set_option linter.all false
set_option maxRecDepth 20000
namespace Go.Proofs.YtejfjmcjicpodaaGreatDoor
open Go Vc Go.RowKit Wf
set_option linter.unusedSimpArgs false
theorem set_same {b : List Res} {p : Nat} {X : Res} (h : b[p]? = some X) : b.set p X = b := by
  obtain ⟨h1,h2⟩ := List.getElem?_eq_some_iff.1 h
  subst h2
  exact List.set_getElem_self h1
end Go.Proofs.YtejfjmcjicpodaaGreatDoor
namespace Vc
open Go.Proofs.YtejfjmcjicpodaaGreatDoor
open Go Vc Go.RowKit Wf
theorem KpP.ro {p : Nat} {c c' : List SV} {T T' : TypeId} {m m' : Bool} {bs b : List Res} (hp : bs[p]? = some (.cells c' T' m')) (h : KpP p c T m bs b) : Ro bs b := fun j c e s n x => by
  have hn : j ≠ p := by rintro rfl; rw [hp] at x; cases x
  exact h.at x hn
end Vc
namespace Go.Proofs.YtejfjmcjicpodaaGreatDoor
open Go Vc Go.RowKit Wf
def Rn (lo : Nat) (b : List Res) (x : SV) (T : List Bytes) : Prop := (x = .nils ∧ T = []) ∨ ∃ q,0 < T.length ∧ x = .o q T.length ∧ lo ≤ q ∧ b[q]? = some (.own (T.map SV.str) 9 1 T.length false)
theorem Rn.ro {lo : Nat} {a b : List Res} {x : SV} {T : List Bytes} (h : Rn lo a x T) (k : Ro a b) : Rn lo b x T := by
  rcases h with h | ⟨q,h0,h1,h2,h3⟩
  · exact .inl h
  · exact .inr ⟨q,h0,h1,h2,k _ _ _ _ _ h3⟩
theorem Rn.le {lo lo' : Nat} {b : List Res} {x : SV} {T : List Bytes} (h : Rn lo b x T) (hl : lo' ≤ lo) : Rn lo' b x T := by
  rcases h with h | ⟨q,h0,h1,h2,h3⟩
  · exact .inl h
  · exact .inr ⟨q,h0,h1,Nat.le_trans hl h2,h3⟩
theorem Rn.rs {lo : Nat} {b : List Res} {x : SV} {T : List Bytes} (h : Rn lo b x T) : Rs b x T := by
  rcases h with h | ⟨q,h0,h1,h2,h3⟩
  · exact .inl h
  · exact .inr ⟨q,h1,h3⟩
theorem Rn.one {lo : Nat} {b : List Res} {x : SV} {T : List Bytes} (h : Rn lo b x T) : Vc.one x = true := h.rs.one
theorem Rn.within {lo : Nat} {b : List Res} {x : SV} {T : List Bytes} (h : Rn lo b x T) : Vc.within b.length x = true := h.rs.within
theorem Rn.cells {lo : Nat} {b : List Res} {x : SV} {T : List Bytes} (h : Rn lo b x T) : Vc.cells x = [x] := by
  rcases h with ⟨rfl,-⟩ | ⟨q,-,rfl,-⟩ <;> rfl
theorem sc_keepP {f : FuncId} {args : List SV} {bs : List Res} {p : Nat} {c : List SV} {T : TypeId} {m : Bool} {x : SV} (hp : p < bs.length) (hx : within bs.length x = true) (hc : flat.flatL c = true) (h : SC Tryz.V f args bs (fun r b => r = x ∧ KpP p c T m bs b)) : SC Tryz.V f args bs (fun r b => r = x ∧ b = bs.set p (.cells c T m)) := by
  refine SC.pickP (T := T) (mb := m) hp hc (h.mono ?_)
  rintro r b ⟨rfl,hk⟩
  exact ⟨id,[],r,hk,fun _ _ => rfl,fun q X h => by simp at h,(ren_within (fun _ _ => rfl) _ hx).symm,by simpa using hx,rfl,by simp⟩
def dec (d : Did) (e : Int) : List SV := [.str d.method,.str d.id,.int .i64 e]
theorem dec_flat (d : Did) (e : Int) : flat.flatL (dec d e) = true := rfl
theorem sc_dd_fail {bs : List Res} {p : Nat} {d : Did} {e : Int} (hp : bs[p]? = some (.cells (dec d e) 62 true)) (x : Int) :
    SC Tryz.V 65 [.p p 0,.int .i64 x] bs (fun r b => r = .tup [] ∧ b = bs.set p (.cells (dec d (failE e x)) 62 true)) := by
  have hpl := (List.getElem?_eq_some_iff.1 hp).1
  have hsame := set_same hp
  refine sc_of 3000 Tryz.func65 rfl Tryz.ntmps65 Tryz.results65 Tryz.call65 (by simp) (fun β β' hb => concL_within bs.length _ (by simp [within,within.withinL,hpl]) β β' hb) ?_
  unfold dec at hp hsame ⊢
  by_cases he : e = 0
  · have hb : (e == 0) = true := by simp [he]
    simp only [lawG,↓Xn,↓Xo,↓Xg,↓Xd,↓Xe,↓Xf,Tryz.VΓ,Tryz.Γs,Xp,Xi,Nat.reduceAdd,Nat.reduceSub,Nat.reduceLT,Nat.reduceLeDiff,reduceIte,reduceCtorEq,Nat.reduceEqDiff,implies_true,forall_const,lawV,lawA,beq_self_eq_true,bne_self_eq_false,Int.reduceBEq,Int.reduceBNe,Int.reduceLT,Int.reduceLE,hp,hb]
    simp [failE,he]
  · have hb : (e == 0) = false := by simp [he]
    simp only [lawG,↓Xn,↓Xo,↓Xg,↓Xd,↓Xe,↓Xf,Tryz.VΓ,Tryz.Γs,Xp,Xi,Nat.reduceAdd,Nat.reduceSub,Nat.reduceLT,Nat.reduceLeDiff,reduceIte,reduceCtorEq,Nat.reduceEqDiff,implies_true,forall_const,lawV,lawA,beq_self_eq_true,bne_self_eq_false,Int.reduceBEq,Int.reduceBNe,Int.reduceLT,Int.reduceLE,hp,hb]
    simp [failE,he,hsame]
theorem textsE_take {e : Int} {L : List Jv} {k : Nat} (h : k < L.length) : textsE e (L.take (k + 1)) = if L[k].k = 5 then textsE e (L.take k) else failE (textsE e (L.take k)) 160 := by
  unfold textsE
  rw [List.take_succ_eq_append_getElem h,List.all_append]
  by_cases h5 : L[k].k = 5
  · rw [if_pos h5]
    simp [h5]
  · rw [if_neg h5]
    have : (L[k].k == 5) = false := by simp [h5]
    simp only [List.all_cons,this,Bool.false_and,Bool.and_false,Bool.false_eq_true,if_false]
    split
    · rfl
    · unfold failE; split <;> simp_all
theorem strs_snoc {L : List Jv} {k : Nat} (h : k < L.length) : ((L.take (k + 1)).map Jv.t).map SV.str = ((L.take k).map Jv.t).map SV.str ++ [.str L[k].t] := by
  rw [List.take_succ_eq_append_getElem h,List.map_append,List.map_append]
  rfl
set_option maxHeartbeats 8000000 in
theorem sc_dd_texts {bs : List Res} {p : Nat} {d : Did} {e : Int} (hp : bs[p]? = some (.cells (dec d e) 62 true)) {x : SV} {Ls : List Tv} {L : List Jv} (hx : Ri bs x Ls) (hT : TJs bs L Ls) (hL : L.length ≤ 1000) :
    SC Tryz.V 26 [.p p 0,x] bs (fun r b => KpP p (dec d (textsE e L)) 62 true bs b ∧ Rn bs.length b r (L.map Jv.t)) := by
  refine SC.dimAll ?_
  have hpl := (List.getElem?_eq_some_iff.1 hp).1
  have hxw := hx.within
  have hLL := hT.len
  have hli := hx.len
  refine SC.mono (R := fun r b => KpP p (dec d (textsE e L)) 62 true bs b ∧ ((r = .nils ∧ L = []) ∨ ∃ q,0 < L.length ∧ r = .o q L.length ∧ bs.length ≤ q ∧ b[q]? = some (.own ((L.map Jv.t).map SV.str) 9 1 L.length true))) ?_ ?_
  rotate_left
  · rintro r b ⟨h1,h2⟩
    refine ⟨h1.1,h1.dimB hpl,?_⟩
    rcases h2 with ⟨rfl,rfl⟩ | ⟨q,h0,rfl,hq,hbq⟩
    · exact .inl ⟨rfl,rfl⟩
    · exact .inr ⟨q,by simpa using h0,by simp,hq,by rw [dimB_at hq hbq]; simp [dull]⟩
  refine sc_of 3000 Tryz.func26 rfl Tryz.ntmps26 Tryz.results26 Tryz.call26 (by simp) (fun β β' hb => concL_within bs.length _ (by simp [within,within.withinL,hpl,hxw]) β β' hb) ?_
  simp only [lawG,↓Xn,↓Xo,↓Xg,↓Xd,↓Xe,↓Xf,Tryz.VΓ,Tryz.Γs,Xp,Xi,Nat.reduceAdd,Nat.reduceSub,Nat.reduceLT,Nat.reduceLeDiff,reduceIte,reduceCtorEq,Nat.reduceEqDiff,implies_true,forall_const,lawV,lawA,beq_self_eq_true,bne_self_eq_false,Int.reduceBEq,Int.reduceBNe,Int.reduceLT,Int.reduceLE,hli]
  refine loopV_mk (fun σ => ∃ (k : Nat) (y : SV),k ≤ Ls.length ∧ lk 0 σ.t = some (.p p 0) ∧ lk 5 σ.t = some y ∧ lk 8 σ.t = some x ∧ lk 9 σ.t = some (.int .i64 Ls.length) ∧ lk 10 σ.t = some (.int .i64 k) ∧ KpP p (dec d (textsE e (L.take k))) 62 true bs σ.b ∧
    ((y = .nils ∧ k = 0) ∨ ∃ q,0 < k ∧ y = .o q k ∧ bs.length ≤ q ∧ σ.b[q]? = some (.own (((L.take k).map Jv.t).map SV.str) 9 1 k true))) (fun σ => Ls.length - lkI 10 σ) ⟨0,.nils,by omega,rfl,rfl,rfl,rfl,rfl,KpP.of hp (Kp.refl bs),.inl ⟨rfl,rfl⟩⟩ ?_
  rintro ⟨t,b⟩ ⟨k,y,hk,h0,h5,h8,h9,h10,hkp,hy⟩
  simp only at h0 h5 h8 h9 h10 hkp hy
  rw [lkI_eq h10]
  by_cases hlt : k < Ls.length
  · have hlt2 : decide ((k : Int) < Ls.length) = true := decide_eq_true (by omega)
    have hltL : k < L.length := by omega
    rcases hx with ⟨-,hx0⟩ | ⟨j,rfl,hj⟩
    · rw [hx0] at hlt; exact absurd hlt (by simp)
    have hjp : j ≠ p := by rintro rfl; rw [hp] at hj; cases hj
    have hbj := hkp.at hj hjp
    have hbp := hkp.2.2
    have hbpl := (List.getElem?_eq_some_iff.1 hbp).1
    have hbl := hkp.1
    have hu : List.take 4 (List.drop (k * 4) (Ls.flatMap tv)) = [.int .i64 Ls[k].k,.str Ls[k].t,Ls[k].xk,Ls[k].xi] := tv_at Ls k hlt
    have hul := tv_len Ls
    have hel := hT.at k hltL hlt
    obtain ⟨x1,x2,x3,x4⟩ := hel.tin
    obtain ⟨u1,u2,u3,-⟩ := hel.un
    have hxo : (one Ls[k].xk && one Ls[k].xi) = true := by rw [x3,x4]; rfl
    have hsn := strs_snoc hltL
    have htk := textsE_take (e := e) hltL
    generalize hev : Ls[k] = ev at hu u1 u2 hxo
    have hok : ∀ X,KpP p (dec d (textsE e (L.take k))) 62 true bs (b ++ X) := fun X => hkp.app X
    by_cases hk5 : L[k].k = 5
    · have hb5 : (ev.k != 5) = false := by rw [u1,hk5]; rfl
      rw [if_pos hk5] at htk
      rcases hy with ⟨rfl,rfl⟩ | ⟨q,hk0,rfl,hq,hbq⟩
      · simp only [lawG,↓Xn,↓Xo,↓Xg,↓Xd,↓Xe,↓Xf,Tryz.VΓ,Tryz.Γs,Xp,Xi,Nat.reduceAdd,Nat.reduceSub,Nat.reduceLT,Nat.reduceLeDiff,reduceIte,reduceCtorEq,Nat.reduceEqDiff,implies_true,forall_const,lawV,lawA,beq_self_eq_true,bne_self_eq_false,Int.reduceBEq,Int.reduceBNe,Int.reduceLT,Int.reduceLE,h0,h5,h8,h9,h10,hlt2,hbj,hu,hxo,hb5]
        (repeat (refine ⟨by first | omega | (unfold maxLen; omega),?_⟩))
        refine ⟨⟨1,_,by omega,rfl,rfl,by rw [htk]; exact hok _,.inr ⟨_,by omega,rfl,by omega,?_⟩⟩,?_⟩
        · rw [app_at,hsn,← u2]; rfl
        · rw [lkI_eq (show lk 10 _ = some (.int .i64 ((1 : Nat) : Int)) from rfl)]; omega
      · have hql := (List.getElem?_eq_some_iff.1 hbq).1
        have hqp : q ≠ p := by omega
        have hsq : ∀ (l : List Res) X,(b ++ l).set q X = b.set q X ++ l := fun l X => app_setL hql l X
        simp only [lawG,↓Xn,↓Xo,↓Xg,↓Xd,↓Xe,↓Xf,Tryz.VΓ,Tryz.Γs,Xp,Xi,Nat.reduceAdd,Nat.reduceSub,Nat.reduceLT,Nat.reduceLeDiff,reduceIte,reduceCtorEq,Nat.reduceEqDiff,implies_true,forall_const,lawV,lawA,beq_self_eq_true,bne_self_eq_false,Int.reduceBEq,Int.reduceBNe,Int.reduceLT,Int.reduceLE,h0,h5,h8,h9,h10,hlt2,hbj,hu,hxo,hb5,at_old hbq,hsq]
        (repeat (refine ⟨by first | omega | (unfold maxLen; omega),?_⟩))
        refine ⟨⟨k + 1,_,by omega,rfl,rfl,by rw [htk]; exact (hkp.setN hq hqp _).app _,.inr ⟨_,by omega,rfl,by omega,?_⟩⟩,?_⟩
        · rw [app_atL (by simp),hsn,← u2]; rfl
        · rw [lkI_eq (show lk 10 _ = some (.int .i64 ((k + 1 : Nat) : Int)) from rfl)]; omega
    · have hb5 : (ev.k != 5) = true := by rw [u1]; exact bne_iff_ne.2 hk5
      rw [if_neg hk5] at htk
      have hfl := fun X => sc_dd_fail (at_old hbp X) 160
      have hset : ∀ (l : List Res) X,(b ++ l).set p X = b.set p X ++ l := fun l X => app_setL hbpl l X
      have hkf := hkp.set (dec d (failE (textsE e (L.take k)) 160)) 62 true
      rw [← htk] at hkf hfl
      rcases hy with ⟨rfl,rfl⟩ | ⟨q,hk0,rfl,hq,hbq⟩
      · simp only [lawG,↓Xn,↓Xo,↓Xg,↓Xd,↓Xe,↓Xf,Tryz.VΓ,Tryz.Γs,Xp,Xi,Nat.reduceAdd,Nat.reduceSub,Nat.reduceLT,Nat.reduceLeDiff,reduceIte,reduceCtorEq,Nat.reduceEqDiff,implies_true,forall_const,lawV,lawA,beq_self_eq_true,bne_self_eq_false,Int.reduceBEq,Int.reduceBNe,Int.reduceLT,Int.reduceLE,h0,h5,h8,h9,h10,hlt2,hbj,hu,hxo,hb5]
        (repeat (refine ⟨by first | omega | (unfold maxLen; omega),?_⟩))
        refine callV_sc (hfl _) ?_
        rintro r b1 ⟨rfl,rfl⟩
        rw [hset]
        have hl1 : (b.set p (.cells (dec d (textsE e (L.take (0 + 1)))) 62 true)).length = b.length := List.length_set
        generalize b.set p _ = b1 at hkf hl1
        have hat : ∀ l : List Res,(b1 ++ l)[b.length]? = l[0]? := fun l => app_atL hl1 l 0
        simp only [lawG,↓Xn,↓Xo,↓Xg,↓Xd,↓Xe,↓Xf,Tryz.VΓ,Tryz.Γs,Xp,Xi,Nat.reduceAdd,Nat.reduceSub,Nat.reduceLT,Nat.reduceLeDiff,reduceIte,reduceCtorEq,Nat.reduceEqDiff,implies_true,forall_const,lawV,lawA,beq_self_eq_true,bne_self_eq_false,Int.reduceBEq,Int.reduceBNe,Int.reduceLT,Int.reduceLE,h0,h5,h8,h9,h10,hat]
        (repeat (refine ⟨by first | omega | (unfold maxLen; omega),?_⟩))
        refine ⟨⟨1,_,by omega,rfl,rfl,hkf.app _,.inr ⟨_,by omega,rfl,by omega,?_⟩⟩,?_⟩
        · rw [app_at,hsn,← u2]; rfl
        · rw [lkI_eq (show lk 10 _ = some (.int .i64 ((1 : Nat) : Int)) from rfl)]; omega
      · have hqp : q ≠ p := by omega
        have hbq1 := fun X => get_setN hbq (fun e => hqp e.symm) X
        simp only [lawG,↓Xn,↓Xo,↓Xg,↓Xd,↓Xe,↓Xf,Tryz.VΓ,Tryz.Γs,Xp,Xi,Nat.reduceAdd,Nat.reduceSub,Nat.reduceLT,Nat.reduceLeDiff,reduceIte,reduceCtorEq,Nat.reduceEqDiff,implies_true,forall_const,lawV,lawA,beq_self_eq_true,bne_self_eq_false,Int.reduceBEq,Int.reduceBNe,Int.reduceLT,Int.reduceLE,h0,h5,h8,h9,h10,hlt2,hbj,hu,hxo,hb5]
        (repeat (refine ⟨by first | omega | (unfold maxLen; omega),?_⟩))
        refine callV_sc (hfl _) ?_
        rintro r b1 ⟨rfl,rfl⟩
        rw [hset]
        have hbq1 := hbq1 (.cells (dec d (textsE e (L.take (k + 1)))) 62 true)
        have hl1 : (b.set p (.cells (dec d (textsE e (L.take (k + 1)))) 62 true)).length = b.length := List.length_set
        generalize b.set p _ = b1 at hkf hbq1 hl1
        have hat : ∀ l : List Res,(b1 ++ l)[b.length]? = l[0]? := fun l => app_atL hl1 l 0
        have hql := (List.getElem?_eq_some_iff.1 hbq1).1
        have hsq : ∀ (l : List Res) X,(b1 ++ l).set q X = b1.set q X ++ l := fun l X => app_setL hql l X
        simp only [lawG,↓Xn,↓Xo,↓Xg,↓Xd,↓Xe,↓Xf,Tryz.VΓ,Tryz.Γs,Xp,Xi,Nat.reduceAdd,Nat.reduceSub,Nat.reduceLT,Nat.reduceLeDiff,reduceIte,reduceCtorEq,Nat.reduceEqDiff,implies_true,forall_const,lawV,lawA,beq_self_eq_true,bne_self_eq_false,Int.reduceBEq,Int.reduceBNe,Int.reduceLT,Int.reduceLE,h0,h5,h8,h9,h10,at_old hbq1,hsq,hat]
        (repeat (refine ⟨by first | omega | (unfold maxLen; omega),?_⟩))
        refine ⟨⟨k + 1,_,by omega,rfl,rfl,(hkf.setN hq hqp _).app _,.inr ⟨_,by omega,rfl,by omega,?_⟩⟩,?_⟩
        · rw [app_atL (by simp),hsn,← u2]; rfl
        · rw [lkI_eq (show lk 10 _ = some (.int .i64 ((k + 1 : Nat) : Int)) from rfl)]; omega
  · have hlt2 : decide ((k : Int) < Ls.length) = false := decide_eq_false (by omega)
    simp only [lawG,↓Xn,↓Xo,↓Xg,↓Xd,↓Xe,↓Xf,Tryz.VΓ,Tryz.Γs,Xp,Xi,Nat.reduceAdd,Nat.reduceSub,Nat.reduceLT,Nat.reduceLeDiff,reduceIte,reduceCtorEq,Nat.reduceEqDiff,implies_true,forall_const,lawV,lawA,beq_self_eq_true,bne_self_eq_false,Int.reduceBEq,Int.reduceBNe,Int.reduceLT,Int.reduceLE,h0,h5,h8,h9,h10,hlt2]
    have hkl : L.take k = L := List.take_of_length_le (by omega)
    rw [hkl] at hkp hy
    refine ⟨hkp,?_⟩
    rcases hy with ⟨rfl,rfl⟩ | ⟨q,hk0,rfl,hq,hbq⟩
    · exact .inl ⟨rfl,List.length_eq_zero_iff.1 (by omega)⟩
    · obtain rfl : k = L.length := by omega
      exact .inr ⟨q,hk0,rfl,hq,hbq⟩
end Go.Proofs.YtejfjmcjicpodaaGreatDoor
/- The walks of diddoc's decoder: array,list,member,oneOrMore,id. -/
set_option linter.all false
set_option maxRecDepth 20000
namespace Go.Proofs.YtejfjmcjicpodaaGreatDoor
open Go Vc Go.RowKit Wf
set_option linter.unusedSimpArgs false
theorem ro_box {bs : List Res} {p : Nat} {c : List SV} {T : TypeId} {m : Bool} (hp : bs[p]? = some (.cells c T m)) (X : Res) : Ro bs (bs.set p X) := (Ro.refl bs).set (fun c e s n hx => by rw [hp] at hx; cases hx) X
set_option maxHeartbeats 4000000 in
theorem sc_dd_array {bs : List Res} {j : Jv} {v : Tv} (hv : TJ bs j v) : ∃ y Ls,Ri bs y Ls ∧ TJs bs (arrL j) Ls ∧ ∀ (b : List Res) (p : Nat) (d : Did) (e : Int),Ro bs b → b[p]? = some (.cells (dec d e) 62 true) → within b.length y = true →
    SC Tryz.V 66 [.p p 0,.agg (tv v)] b (fun r b' => r = y ∧ b' = b.set p (.cells (dec d (arrE e j)) 62 true)) := by
  obtain ⟨e1,e2,e3,e4,e5,e6,e7,Ls,e8,e9⟩ := hv.un
  have hLL := e9.len
  suffices hs : ∃ y Ls',Ri bs y Ls' ∧ TJs bs (arrL j) Ls' ∧ ∀ (b : List Res) (p : Nat) (d : Did) (e : Int),Ro bs b → b[p]? = some (.cells (dec d e) 62 true) →
      SC Tryz.V 66 [.p p 0,.agg (tv v)] b (fun r b' => r = y ∧ KpP p (dec d (arrE e j)) 62 true b b') by
    obtain ⟨y,Ls',h1,h2,h3⟩ := hs
    exact ⟨y,Ls',h1,h2,fun b p d e hro hp hw => sc_keepP (List.getElem?_eq_some_iff.1 hp).1 hw (dec_flat _ _) (h3 b p d e hro hp)⟩
  by_cases h6 : j.k = 6
  · have hb6 : (v.k != 6) = false := by rw [e1,h6]; rfl
    by_cases h64 : 64 < j.L.length
    · refine ⟨.nils,[],.inl ⟨rfl,rfl⟩,by unfold arrL; rw [if_pos h6,if_pos h64,TJs],fun b p d e hro hp => ?_⟩
      have hpl := (List.getElem?_eq_some_iff.1 hp).1
      obtain ⟨v1,v2,v3,v4⟩ := (hv.ro hro).tin
      have ho : (one v.xk && one v.xi) = true := by rw [v3,v4]; rfl
      have hli := (e8.ro hro).len
      have hb64 : decide ((64 : Int) < Ls.length) = true := decide_eq_true (by omega)
      have hfl := fun X => sc_dd_fail (at_old hp X) 161
      refine sc_of 3000 Tryz.func66 rfl Tryz.ntmps66 Tryz.results66 Tryz.call66 (by simp) (fun β β' hb => concL_within b.length _ (by simp [within,within.withinL,tv,v1,v2,hpl]) β β' hb) ?_
      unfold tv
      simp only [lawG,↓Xn,↓Xo,↓Xg,↓Xd,↓Xe,↓Xf,Tryz.VΓ,Tryz.Γs,Xp,Xi,Nat.reduceAdd,Nat.reduceSub,Nat.reduceLT,Nat.reduceLeDiff,reduceIte,reduceCtorEq,Nat.reduceEqDiff,implies_true,forall_const,lawV,lawA,beq_self_eq_true,bne_self_eq_false,Int.reduceBEq,Int.reduceBNe,Int.reduceLT,Int.reduceLE,ho,hb6,hli,hb64]
      refine callV_sc (hfl _) ?_
      rintro r b1 ⟨rfl,rfl⟩
      simp only [lawG,↓Xn,↓Xo,↓Xg,↓Xd,↓Xe,↓Xf,Tryz.VΓ,Tryz.Γs,Xp,Xi,Nat.reduceAdd,Nat.reduceSub,Nat.reduceLT,Nat.reduceLeDiff,reduceIte,reduceCtorEq,Nat.reduceEqDiff,implies_true,forall_const,lawV,lawA,beq_self_eq_true,bne_self_eq_false,Int.reduceBEq,Int.reduceBNe,Int.reduceLT,Int.reduceLE]
      have : arrE e j = failE e 161 := by unfold arrE; rw [if_pos h6,if_pos h64]
      rw [this]
      exact ((KpP.of hp (Kp.refl b)).app _).set _ _ _
    · refine ⟨v.xi,Ls,e8,by unfold arrL; rw [if_pos h6,if_neg h64]; exact e9,fun b p d e hro hp => ?_⟩
      have hpl := (List.getElem?_eq_some_iff.1 hp).1
      obtain ⟨v1,v2,v3,v4⟩ := (hv.ro hro).tin
      have ho : (one v.xk && one v.xi) = true := by rw [v3,v4]; rfl
      have hli := (e8.ro hro).len
      have hb64 : decide ((64 : Int) < Ls.length) = false := decide_eq_false (by omega)
      refine sc_of 3000 Tryz.func66 rfl Tryz.ntmps66 Tryz.results66 Tryz.call66 (by simp) (fun β β' hb => concL_within b.length _ (by simp [within,within.withinL,tv,v1,v2,hpl]) β β' hb) ?_
      unfold tv
      simp only [lawG,↓Xn,↓Xo,↓Xg,↓Xd,↓Xe,↓Xf,Tryz.VΓ,Tryz.Γs,Xp,Xi,Nat.reduceAdd,Nat.reduceSub,Nat.reduceLT,Nat.reduceLeDiff,reduceIte,reduceCtorEq,Nat.reduceEqDiff,implies_true,forall_const,lawV,lawA,beq_self_eq_true,bne_self_eq_false,Int.reduceBEq,Int.reduceBNe,Int.reduceLT,Int.reduceLE,ho,hb6,hli,hb64]
      have : arrE e j = e := by unfold arrE; rw [if_pos h6,if_neg h64]
      rw [this]
      exact (KpP.of hp (Kp.refl b)).app _
  · have hb6 : (v.k != 6) = true := by rw [e1]; exact bne_iff_ne.2 h6
    refine ⟨.nils,[],.inl ⟨rfl,rfl⟩,by unfold arrL; rw [if_neg h6,TJs],fun b p d e hro hp => ?_⟩
    have hpl := (List.getElem?_eq_some_iff.1 hp).1
    obtain ⟨v1,v2,v3,v4⟩ := (hv.ro hro).tin
    have ho : (one v.xk && one v.xi) = true := by rw [v3,v4]; rfl
    have hfl := fun X => sc_dd_fail (at_old hp X) 160
    refine sc_of 3000 Tryz.func66 rfl Tryz.ntmps66 Tryz.results66 Tryz.call66 (by simp) (fun β β' hb => concL_within b.length _ (by simp [within,within.withinL,tv,v1,v2,hpl]) β β' hb) ?_
    unfold tv
    simp only [lawG,↓Xn,↓Xo,↓Xg,↓Xd,↓Xe,↓Xf,Tryz.VΓ,Tryz.Γs,Xp,Xi,Nat.reduceAdd,Nat.reduceSub,Nat.reduceLT,Nat.reduceLeDiff,reduceIte,reduceCtorEq,Nat.reduceEqDiff,implies_true,forall_const,lawV,lawA,beq_self_eq_true,bne_self_eq_false,Int.reduceBEq,Int.reduceBNe,Int.reduceLT,Int.reduceLE,ho,hb6]
    refine callV_sc (hfl _) ?_
    rintro r b1 ⟨rfl,rfl⟩
    simp only [lawG,↓Xn,↓Xo,↓Xg,↓Xd,↓Xe,↓Xf,Tryz.VΓ,Tryz.Γs,Xp,Xi,Nat.reduceAdd,Nat.reduceSub,Nat.reduceLT,Nat.reduceLeDiff,reduceIte,reduceCtorEq,Nat.reduceEqDiff,implies_true,forall_const,lawV,lawA,beq_self_eq_true,bne_self_eq_false,Int.reduceBEq,Int.reduceBNe,Int.reduceLT,Int.reduceLE]
    have : arrE e j = failE e 160 := by unfold arrE; rw [if_neg h6]
    rw [this]
    exact ((KpP.of hp (Kp.refl b)).app _).set _ _ _
set_option maxHeartbeats 4000000 in
theorem sc_dd_list {bs : List Res} {j : Jv} {v : Tv} (hv : TJ bs j v) (key : Bytes) : ∃ y Ls,Ri bs y Ls ∧ TJs bs (listL j key) Ls ∧ ∀ (b : List Res) (p : Nat) (d : Did) (e : Int),Ro bs b → b[p]? = some (.cells (dec d e) 62 true) → within b.length y = true →
    SC Tryz.V 27 [.p p 0,.agg (tv v),.str key] b (fun r b' => r = y ∧ b' = b.set p (.cells (dec d (listE e j key)) 62 true)) := by
  obtain ⟨x,hx,hget⟩ := jd_Get hv key
  obtain ⟨y,Ls,hy,hLs,harr⟩ := sc_dd_array hx
  suffices hs : ∃ y Ls',Ri bs y Ls' ∧ TJs bs (listL j key) Ls' ∧ ∀ (b : List Res) (p : Nat) (d : Did) (e : Int),Ro bs b → b[p]? = some (.cells (dec d e) 62 true) →
      SC Tryz.V 27 [.p p 0,.agg (tv v),.str key] b (fun r b' => r = y ∧ KpP p (dec d (listE e j key)) 62 true b b') by
    obtain ⟨y,Ls',h1,h2,h3⟩ := hs
    exact ⟨y,Ls',h1,h2,fun b p d e hro hp hw => sc_keepP (List.getElem?_eq_some_iff.1 hp).1 hw (dec_flat _ _) (h3 b p d e hro hp)⟩
  unfold tv at hget harr
  cases hg : j.get key with
  | some m =>
    have hat : j.at key = m := by unfold Jv.at; rw [hg]; rfl
    rw [hat] at harr hLs
    rw [hg] at hget
    refine ⟨y,Ls,hy,by unfold listL; rw [hg]; exact hLs,fun b p d e hro hp => ?_⟩
    have hpl := (List.getElem?_eq_some_iff.1 hp).1
    obtain ⟨v1,v2,v3,v4⟩ := (hv.ro hro).tin
    have ho : (one v.xk && one v.xi) = true := by rw [v3,v4]; rfl
    obtain ⟨x1,x2,x3,x4⟩ := (hx.ro hro).tin
    have hxo : (one x.xk && one x.xi) = true := by rw [x3,x4]; rfl
    have hyw := (hy.ro hro).within
    refine sc_of 3000 Tryz.func27 rfl Tryz.ntmps27 Tryz.results27 Tryz.call27 (by simp) (fun β β' hb => concL_within b.length _ (by simp [within,within.withinL,tv,v1,v2,hpl]) β β' hb) ?_
    unfold tv
    simp only [lawG,↓Xn,↓Xo,↓Xg,↓Xd,↓Xe,↓Xf,Tryz.VΓ,Tryz.Γs,Xp,Xi,Nat.reduceAdd,Nat.reduceSub,Nat.reduceLT,Nat.reduceLeDiff,reduceIte,reduceCtorEq,Nat.reduceEqDiff,implies_true,forall_const,lawV,lawA,beq_self_eq_true,bne_self_eq_false,Int.reduceBEq,Int.reduceBNe,Int.reduceLT,Int.reduceLE,ho]
    refine callV_sc (hget _ (hro.app _)) ?_
    rintro r b1 ⟨rfl,rfl⟩
    simp only [lawG,↓Xn,↓Xo,↓Xg,↓Xd,↓Xe,↓Xf,Tryz.VΓ,Tryz.Γs,Xp,Xi,Nat.reduceAdd,Nat.reduceSub,Nat.reduceLT,Nat.reduceLeDiff,reduceIte,reduceCtorEq,Nat.reduceEqDiff,implies_true,forall_const,lawV,lawA,beq_self_eq_true,bne_self_eq_false,Int.reduceBEq,Int.reduceBNe,Int.reduceLT,Int.reduceLE,hxo,Option.isSome_some]
    refine callV_sc (harr _ p d e (hro.app _) (at_old hp _) (within_up (by simp) hyw)) ?_
    rintro r b1 ⟨rfl,rfl⟩
    simp only [lawG,↓Xn,↓Xo,↓Xg,↓Xd,↓Xe,↓Xf,Tryz.VΓ,Tryz.Γs,Xp,Xi,Nat.reduceAdd,Nat.reduceSub,Nat.reduceLT,Nat.reduceLeDiff,reduceIte,reduceCtorEq,Nat.reduceEqDiff,implies_true,forall_const,lawV,lawA,beq_self_eq_true,bne_self_eq_false,Int.reduceBEq,Int.reduceBNe,Int.reduceLT,Int.reduceLE]
    have : listE e j key = arrE e m := by unfold listE; rw [hg]
    rw [this]
    exact ((KpP.of hp (Kp.refl b)).app _).set _ _ _
  | none =>
    rw [hg] at hget
    refine ⟨.nils,[],.inl ⟨rfl,rfl⟩,by unfold listL; rw [hg,TJs],fun b p d e hro hp => ?_⟩
    have hpl := (List.getElem?_eq_some_iff.1 hp).1
    obtain ⟨v1,v2,v3,v4⟩ := (hv.ro hro).tin
    have ho : (one v.xk && one v.xi) = true := by rw [v3,v4]; rfl
    obtain ⟨x1,x2,x3,x4⟩ := (hx.ro hro).tin
    have hxo : (one x.xk && one x.xi) = true := by rw [x3,x4]; rfl
    refine sc_of 3000 Tryz.func27 rfl Tryz.ntmps27 Tryz.results27 Tryz.call27 (by simp) (fun β β' hb => concL_within b.length _ (by simp [within,within.withinL,tv,v1,v2,hpl]) β β' hb) ?_
    unfold tv
    simp only [lawG,↓Xn,↓Xo,↓Xg,↓Xd,↓Xe,↓Xf,Tryz.VΓ,Tryz.Γs,Xp,Xi,Nat.reduceAdd,Nat.reduceSub,Nat.reduceLT,Nat.reduceLeDiff,reduceIte,reduceCtorEq,Nat.reduceEqDiff,implies_true,forall_const,lawV,lawA,beq_self_eq_true,bne_self_eq_false,Int.reduceBEq,Int.reduceBNe,Int.reduceLT,Int.reduceLE,ho]
    refine callV_sc (hget _ (hro.app _)) ?_
    rintro r b1 ⟨rfl,rfl⟩
    simp only [lawG,↓Xn,↓Xo,↓Xg,↓Xd,↓Xe,↓Xf,Tryz.VΓ,Tryz.Γs,Xp,Xi,Nat.reduceAdd,Nat.reduceSub,Nat.reduceLT,Nat.reduceLeDiff,reduceIte,reduceCtorEq,Nat.reduceEqDiff,implies_true,forall_const,lawV,lawA,beq_self_eq_true,bne_self_eq_false,Int.reduceBEq,Int.reduceBNe,Int.reduceLT,Int.reduceLE,hxo,Option.isSome_none]
    have : listE e j key = e := by unfold listE; rw [hg]
    rw [this]
    exact (KpP.of hp (Kp.refl b)).app _
theorem TJs.one {b : List Res} {j : Jv} {v : Tv} (h : TJ b j v) : TJs b [j] [v] := by
  rw [TJs]; exact ⟨v,[],rfl,h,by rw [TJs]⟩
theorem sc_dd_text1 {b : List Res} {p q : Nat} {d : Did} {e : Int} {j : Jv} {x : Tv} (hp : b[p]? = some (.cells (dec d e) 62 true)) (hq : b[q]? = some (.own (tv x) 25 4 1 true)) (hx : TJ b j x) :
    SC Tryz.V 26 [.p p 0,.o q 1] b (fun r b' => KpP p (dec d (textsE e [j])) 62 true (b.set q (.own (tv x) 25 4 1 false)) b' ∧ Rn b.length b' r [j.t]) := by
  have hql := (List.getElem?_eq_some_iff.1 hq).1
  have hne : q ≠ p := by rintro rfl; rw [hp] at hq; cases hq
  have hro : Ro b (b.set q (.own (tv x) 25 4 1 false)) := (Ro.refl b).setT hq _
  refine sc_dull hq ((sc_dd_texts (get_setN hp hne _) (x := .o q 1) (Ls := [x]) (L := [j]) (.inr ⟨q,rfl,?_⟩) (TJs.one (hx.ro hro)) (by simp)).mono ?_)
  · rw [List.getElem?_set_self hql]
    simp
  · rintro r b' ⟨h1,h2⟩
    exact ⟨h1,by simpa using h2⟩
set_option maxHeartbeats 4000000 in
theorem sc_dd_member {bs : List Res} {j : Jv} {v : Tv} (hv : TJ bs j v) (key : Bytes) {p : Nat} {d : Did} {e : Int} (hp : bs[p]? = some (.cells (dec d e) 62 true)) :
    SC Tryz.V 24 [.p p 0,.agg (tv v),.str key] bs (fun r b' => r = .str (j.at key).t ∧ b' = bs.set p (.cells (dec d (textsE e [j.at key])) 62 true)) := by
  have hpl := (List.getElem?_eq_some_iff.1 hp).1
  refine sc_keepP hpl rfl (dec_flat _ _) ?_
  obtain ⟨x,hx,hget⟩ := jd_Get hv key
  obtain ⟨v1,v2,v3,v4⟩ := hv.tin
  have ho : (one v.xk && one v.xi) = true := by rw [v3,v4]; rfl
  obtain ⟨x1,x2,x3,x4⟩ := hx.tin
  have hxo : (one x.xk && one x.xi) = true := by rw [x3,x4]; rfl
  have ht1 := fun X => sc_dd_text1 (b := bs ++ X) (q := bs.length + 2) (x := x) (j := j.at key) (at_old hp X)
  unfold tv at hget ht1
  refine sc_of 3000 Tryz.func24 rfl Tryz.ntmps24 Tryz.results24 Tryz.call24 (by simp) (fun β β' hb => concL_within bs.length _ (by simp [within,within.withinL,tv,v1,v2,hpl]) β β' hb) ?_
  unfold tv
  simp only [lawG,↓Xn,↓Xo,↓Xg,↓Xd,↓Xe,↓Xf,Tryz.VΓ,Tryz.Γs,Xp,Xi,Nat.reduceAdd,Nat.reduceSub,Nat.reduceLT,Nat.reduceLeDiff,reduceIte,reduceCtorEq,Nat.reduceEqDiff,implies_true,forall_const,lawV,lawA,beq_self_eq_true,bne_self_eq_false,Int.reduceBEq,Int.reduceBNe,Int.reduceLT,Int.reduceLE,ho]
  refine callV_sc (hget _ ((Ro.refl bs).app _)) ?_
  rintro r b1 ⟨rfl,rfl⟩
  simp only [lawG,↓Xn,↓Xo,↓Xg,↓Xd,↓Xe,↓Xf,Tryz.VΓ,Tryz.Γs,Xp,Xi,Nat.reduceAdd,Nat.reduceSub,Nat.reduceLT,Nat.reduceLeDiff,reduceIte,reduceCtorEq,Nat.reduceEqDiff,implies_true,forall_const,lawV,lawA,beq_self_eq_true,bne_self_eq_false,Int.reduceBEq,Int.reduceBNe,Int.reduceLT,Int.reduceLE,hxo]
  refine ⟨by omega,callV_sc (ht1 _ (app_at _ _ 2) (hx.ro ((Ro.refl bs).app _))) ?_⟩
  rintro r b1 ⟨hk1,⟨-,h0⟩ | ⟨q,-,rfl,hq,hbq⟩⟩
  · cases h0
  simp only [List.length_append,List.length_cons,List.length_nil,List.map_cons,List.map_nil] at hbq hq
  simp only [lawG,↓Xn,↓Xo,↓Xg,↓Xd,↓Xe,↓Xf,Tryz.VΓ,Tryz.Γs,Xp,Xi,Nat.reduceAdd,Nat.reduceSub,Nat.reduceLT,Nat.reduceLeDiff,reduceIte,reduceCtorEq,Nat.reduceEqDiff,implies_true,forall_const,lawV,lawA,beq_self_eq_true,bne_self_eq_false,Int.reduceBEq,Int.reduceBNe,Int.reduceLT,Int.reduceLE,hbq,Int.toNat_zero,Nat.zero_mul]
  exact ⟨by omega,(KpP.of hp (((Kp.refl bs).app _).set (by omega) _)).trans hk1⟩
set_option maxHeartbeats 4000000 in
theorem sc_dd_more {bs : List Res} {j : Jv} {v : Tv} (hv : TJ bs j v) {p : Nat} {d : Did} {e : Int} (hp : bs[p]? = some (.cells (dec d e) 62 true)) :
    SC Tryz.V 29 [.p p 0,.agg (tv v)] bs (fun r b => KpP p (dec d (moreE e j)) 62 true bs b ∧ Rn bs.length b r (moreL j)) := by
  have hpl := (List.getElem?_eq_some_iff.1 hp).1
  obtain ⟨e1,-⟩ := hv.un
  obtain ⟨v1,v2,v3,v4⟩ := hv.tin
  have ho : (one v.xk && one v.xi) = true := by rw [v3,v4]; rfl
  refine sc_of 3000 Tryz.func29 rfl Tryz.ntmps29 Tryz.results29 Tryz.call29 (by simp) (fun β β' hb => concL_within bs.length _ (by simp [within,within.withinL,tv,v1,v2,hpl]) β β' hb) ?_
  by_cases h5 : j.k = 5
  · have hb5 : (v.k == 5) = true := by rw [e1,h5]; rfl
    have ht1 := fun X => sc_dd_text1 (b := bs ++ X) (q := bs.length + 1) (x := v) (j := j) (at_old hp X)
    have hE : moreE e j = textsE e [j] := by unfold moreE; rw [if_pos h5]; simp [textsE,h5]
    have hM : moreL j = [j.t] := by unfold moreL; rw [if_pos h5]
    unfold tv at ht1 ⊢
    simp only [lawG,↓Xn,↓Xo,↓Xg,↓Xd,↓Xe,↓Xf,Tryz.VΓ,Tryz.Γs,Xp,Xi,Nat.reduceAdd,Nat.reduceSub,Nat.reduceLT,Nat.reduceLeDiff,reduceIte,reduceCtorEq,Nat.reduceEqDiff,implies_true,forall_const,lawV,lawA,beq_self_eq_true,bne_self_eq_false,Int.reduceBEq,Int.reduceBNe,Int.reduceLT,Int.reduceLE,ho,hb5]
    refine ⟨by omega,callV_sc (ht1 _ (app_at _ _ 1) (hv.ro ((Ro.refl bs).app _))) ?_⟩
    rintro r b1 ⟨hk1,hr⟩
    have hro := hr.one
    simp only [lawG,↓Xn,↓Xo,↓Xg,↓Xd,↓Xe,↓Xf,Tryz.VΓ,Tryz.Γs,Xp,Xi,Nat.reduceAdd,Nat.reduceSub,Nat.reduceLT,Nat.reduceLeDiff,reduceIte,reduceCtorEq,Nat.reduceEqDiff,implies_true,forall_const,lawV,lawA,beq_self_eq_true,bne_self_eq_false,Int.reduceBEq,Int.reduceBNe,Int.reduceLT,Int.reduceLE,hro]
    rw [hE,hM]
    exact ⟨(KpP.of hp (((Kp.refl bs).app _).set (by omega) _)).trans hk1,hr.le (by simp)⟩
  · have hb5 : (v.k == 5) = false := by rw [e1]; exact beq_eq_false_iff_ne.2 h5
    obtain ⟨y,Ls,hy,hLs,harr⟩ := sc_dd_array hv
    have hE : moreE e j = textsE (arrE e j) (arrL j) := by unfold moreE; rw [if_neg h5]
    have hM : moreL j = (arrL j).map Jv.t := by unfold moreL; rw [if_neg h5]
    have hl : (arrL j).length ≤ 1000 := by unfold arrL; split <;> (try split) <;> first | omega | simp
    unfold tv at harr ⊢
    simp only [lawG,↓Xn,↓Xo,↓Xg,↓Xd,↓Xe,↓Xf,Tryz.VΓ,Tryz.Γs,Xp,Xi,Nat.reduceAdd,Nat.reduceSub,Nat.reduceLT,Nat.reduceLeDiff,reduceIte,reduceCtorEq,Nat.reduceEqDiff,implies_true,forall_const,lawV,lawA,beq_self_eq_true,bne_self_eq_false,Int.reduceBEq,Int.reduceBNe,Int.reduceLT,Int.reduceLE,ho,hb5]
    refine callV_sc (harr _ p d e ((Ro.refl bs).app _) (at_old hp _) (within_up (by simp) hy.within)) ?_
    rintro r b1 ⟨rfl,rfl⟩
    have hro : Ro bs ((bs ++ [Res.cells [.int .i64 v.k,.str v.t,v.xk,v.xi] 25 true]).set p (.cells (dec d (arrE e j)) 62 true)) := ((Ro.refl bs).app _).trans (ro_box (at_old hp _) _)
    have hk1 := ((KpP.of hp (Kp.refl bs)).app [Res.cells [.int .i64 v.k,.str v.t,v.xk,v.xi] 25 true]).set (dec d (arrE e j)) 62 true
    have hyo := hy.one
    simp only [lawG,↓Xn,↓Xo,↓Xg,↓Xd,↓Xe,↓Xf,Tryz.VΓ,Tryz.Γs,Xp,Xi,Nat.reduceAdd,Nat.reduceSub,Nat.reduceLT,Nat.reduceLeDiff,reduceIte,reduceCtorEq,Nat.reduceEqDiff,implies_true,forall_const,lawV,lawA,beq_self_eq_true,bne_self_eq_false,Int.reduceBEq,Int.reduceBNe,Int.reduceLT,Int.reduceLE,hyo]
    refine callV_sc (sc_dd_texts hk1.2.2 (hy.ro hro) (TJs.ro hro hLs) hl) ?_
    rintro r b1 ⟨hk2,hr⟩
    have hro := hr.one
    simp only [lawG,↓Xn,↓Xo,↓Xg,↓Xd,↓Xe,↓Xf,Tryz.VΓ,Tryz.Γs,Xp,Xi,Nat.reduceAdd,Nat.reduceSub,Nat.reduceLT,Nat.reduceLeDiff,reduceIte,reduceCtorEq,Nat.reduceEqDiff,implies_true,forall_const,lawV,lawA,beq_self_eq_true,bne_self_eq_false,Int.reduceBEq,Int.reduceBNe,Int.reduceLT,Int.reduceLE,hro]
    rw [hE,hM]
    exact ⟨hk1.trans hk2,hr.le (by simp)⟩
end Go.Proofs.YtejfjmcjicpodaaGreatDoor
/- The walks of diddoc's decoder: id,service. -/
set_option linter.all false
set_option maxRecDepth 20000
namespace Go.Proofs.YtejfjmcjicpodaaGreatDoor
open Go Vc Go.RowKit Wf
set_option linter.unusedSimpArgs false
theorem resolve_can {d : Did} {r : Bytes} (h : (didResolve d r).2 = 0) : ∃ s,didUrl s = ((didResolve d r).1,0) := by
  have h1 : didResolve d r = ((didResolve d r).1,0) := by rw [← h]
  unfold didResolve at h h1 ⊢
  split at h
  · rename_i hh
    rw [if_pos hh] at h1
    rw [if_pos hh]
    exact ⟨_,h1⟩
  · rename_i hh
    rw [if_neg hh] at h1
    rw [if_neg hh]
    split at h
    · rename_i h2
      rw [if_pos h2] at h1
      rw [if_pos h2]
      exact ⟨_,h1⟩
    · simp at h
theorem resolve_fits {d : Did} {r : Bytes} (h : (didResolve d r).2 = 0) : DidUrlFits (didResolve d r).1 := by
  obtain ⟨s,hs⟩ := resolve_can h
  obtain ⟨hc,h1,h2⟩ := didUrl_can hs
  unfold didUrlText didText at h1
  simp only [List.length_append] at h1
  refine ⟨⟨by omega,by omega⟩,by omega,?_,?_⟩
  · cases hq : (didResolve d r).1.hasQuery
    · rw [hc.noq hq]; simp
    · rw [hq] at h1
      simp at h1; omega
  · cases hq : (didResolve d r).1.hasFrag
    · rw [hc.nof hq]; simp
    · rw [hq] at h1
      simp at h1; omega
set_option maxHeartbeats 4000000 in
theorem sc_dd_id {bs : List Res} {j : Jv} {v : Tv} (hv : TJ bs j v) {p : Nat} {d : Did} {e : Int} (hd : DidFits d) (hp : bs[p]? = some (.cells (dec d e) 62 true)) :
    SC Tryz.V 30 [.p p 0,.agg (tv v)] bs (fun r b' => r = .str (idT d j) ∧ b' = bs.set p (.cells (dec d (idE d e j)) 62 true)) := by
  have hpl := (List.getElem?_eq_some_iff.1 hp).1
  refine sc_keepP hpl rfl (dec_flat _ _) ?_
  obtain ⟨v1,v2,v3,v4⟩ := hv.tin
  have ho : (one v.xk && one v.xi) = true := by rw [v3,v4]; rfl
  obtain ⟨x,hx,-⟩ := jd_Get hv ([105,100] : List UInt8)
  obtain ⟨-,-,hlen,-⟩ := hx.un
  have hm := fun X => sc_dd_member (hv.ro ((Ro.refl bs).app X)) ([105,100] : List UInt8) (at_old hp X)
  have pr := p_did_Resolve d (j.at ([105,100] : List UInt8)).t hd hlen
  unfold tv at hm
  unfold dsv dusv at pr
  refine sc_of 3000 Tryz.func30 rfl Tryz.ntmps30 Tryz.results30 Tryz.call30 (by simp) (fun β β' hb => concL_within bs.length _ (by simp [within,within.withinL,tv,v1,v2,hpl]) β β' hb) ?_
  unfold tv
  simp only [lawG,↓Xn,↓Xo,↓Xg,↓Xd,↓Xe,↓Xf,Tryz.VΓ,Tryz.Γs,Xp,Xi,Nat.reduceAdd,Nat.reduceSub,Nat.reduceLT,Nat.reduceLeDiff,reduceIte,reduceCtorEq,Nat.reduceEqDiff,implies_true,forall_const,lawV,lawA,beq_self_eq_true,bne_self_eq_false,Int.reduceBEq,Int.reduceBNe,Int.reduceLT,Int.reduceLE,ho]
  refine callV_sc (hm _) ?_
  rintro r b1 ⟨rfl,rfl⟩
  have hset : ∀ (l : List Res) X,(bs ++ l).set p X = bs.set p X ++ l := fun l X => app_setL hpl l X
  rw [hset]
  have hk1 := (KpP.of hp (Kp.refl bs)).set (dec d (textsE e [j.at ([105,100] : List UInt8)])) 62 true
  have hl1 : (bs.set p (.cells (dec d (textsE e [j.at ([105,100] : List UInt8)])) 62 true)).length = bs.length := List.length_set
  generalize bs.set p (.cells (dec d (textsE e [j.at ([105,100] : List UInt8)])) 62 true) = b1 at hk1 hl1
  have hp1 := hk1.2.2
  unfold dec at hp1
  simp only [lawG,↓Xn,↓Xo,↓Xg,↓Xd,↓Xe,↓Xf,Tryz.VΓ,Tryz.Γs,Xp,Xi,Nat.reduceAdd,Nat.reduceSub,Nat.reduceLT,Nat.reduceLeDiff,reduceIte,reduceCtorEq,Nat.reduceEqDiff,implies_true,forall_const,lawV,lawA,beq_self_eq_true,bne_self_eq_false,Int.reduceBEq,Int.reduceBNe,Int.reduceLT,Int.reduceLE,at_old hp1]
  refine callV_pc pr ?_
  by_cases he : (didResolve d (j.at ([105,100] : List UInt8)).t).2 = 0
  · have hb : ((didResolve d (j.at ([105,100] : List UInt8)).t).2 != 0) = false := by rw [he]; rfl
    have pf := p_did_Format _ (resolve_fits he)
    unfold dusv at pf
    simp only [lawG,↓Xn,↓Xo,↓Xg,↓Xd,↓Xe,↓Xf,Tryz.VΓ,Tryz.Γs,Xp,Xi,Nat.reduceAdd,Nat.reduceSub,Nat.reduceLT,Nat.reduceLeDiff,reduceIte,reduceCtorEq,Nat.reduceEqDiff,implies_true,forall_const,lawV,lawA,beq_self_eq_true,bne_self_eq_false,Int.reduceBEq,Int.reduceBNe,Int.reduceLT,Int.reduceLE,hb]
    (refine callV_pc (pf) ?_; simp only [lawG,↓Xn,↓Xo,↓Xg,↓Xd,↓Xe,↓Xf,Tryz.VΓ,Tryz.Γs,Xp,Xi,Nat.reduceAdd,Nat.reduceSub,Nat.reduceLT,Nat.reduceLeDiff,reduceIte,reduceCtorEq,Nat.reduceEqDiff,implies_true,forall_const,lawV,lawA,beq_self_eq_true,bne_self_eq_false,Int.reduceBEq,Int.reduceBNe,Int.reduceLT,Int.reduceLE])
    have e1 : idT d j = didUrlText (didResolve d (j.at ([105,100] : List UInt8)).t).1 := by unfold idT; rw [if_pos he]
    have e2 : idE d e j = textsE e [j.at ([105,100] : List UInt8)] := by unfold idE; rw [if_pos he]
    rw [e1,e2]
    exact ⟨rfl,hk1.app _⟩
  · have hb : ((didResolve d (j.at ([105,100] : List UInt8)).t).2 != 0) = true := bne_iff_ne.2 he
    have hfl := fun X => sc_dd_fail (at_old hk1.2.2 X) 160
    simp only [lawG,↓Xn,↓Xo,↓Xg,↓Xd,↓Xe,↓Xf,Tryz.VΓ,Tryz.Γs,Xp,Xi,Nat.reduceAdd,Nat.reduceSub,Nat.reduceLT,Nat.reduceLeDiff,reduceIte,reduceCtorEq,Nat.reduceEqDiff,implies_true,forall_const,lawV,lawA,beq_self_eq_true,bne_self_eq_false,Int.reduceBEq,Int.reduceBNe,Int.reduceLT,Int.reduceLE,hb]
    refine callV_sc (hfl _) ?_
    rintro r b2 ⟨rfl,rfl⟩
    simp only [lawG,↓Xn,↓Xo,↓Xg,↓Xd,↓Xe,↓Xf,Tryz.VΓ,Tryz.Γs,Xp,Xi,Nat.reduceAdd,Nat.reduceSub,Nat.reduceLT,Nat.reduceLeDiff,reduceIte,reduceCtorEq,Nat.reduceEqDiff,implies_true,forall_const,lawV,lawA,beq_self_eq_true,bne_self_eq_false,Int.reduceBEq,Int.reduceBNe,Int.reduceLT,Int.reduceLE]
    have e1 : idT d j = [] := by unfold idT; rw [if_neg he]
    have e2 : idE d e j = failE (textsE e [j.at ([105,100] : List UInt8)]) 160 := by unfold idE; rw [if_neg he]
    rw [e1,e2]
    exact ⟨rfl,(hk1.app _).set _ _ _⟩
def canS (i : Nat) (T : List Bytes) : SV := if T = [] then .nils else .o i T.length
def canR (T : List Bytes) : Res := if T = [] then .gone else .own (T.map SV.str) 9 1 T.length false
theorem canS_one (i : Nat) (T : List Bytes) : one (canS i T) = true := by unfold canS; split <;> rfl
theorem Rn.can {lo : Nat} {b : List Res} {y : SV} {T : List Bytes} (h : Rn lo b y T) (i : Nat) : ∃ q,(T ≠ [] → lo ≤ q) ∧ ∀ ρ : Nat → Nat,ρ i = q → y = ren ρ (canS i T) ∧ (T ≠ [] → b[q]? = some (.own (T.map SV.str) 9 1 T.length false)) := by
  rcases h with ⟨rfl,rfl⟩ | ⟨q,h0,rfl,hq,hbq⟩
  · exact ⟨0,by simp,fun ρ hρ => ⟨by simp [canS,ren],by simp⟩⟩
  · have hT : T ≠ [] := by rintro rfl; simp at h0
    exact ⟨q,fun _ => hq,fun ρ hρ => ⟨by simp [canS,hT,ren,hρ],fun _ => hbq⟩⟩
theorem canS_in {n i : Nat} (h : i < n) (T : List Bytes) : within n (canS i T) = true := by
  unfold canS; split <;> simp [within,h]
set_option maxHeartbeats 8000000 in
theorem sc_dd_servR {bs : List Res} {j : Jv} {v : Tv} (hv : TJ bs j v) {p : Nat} {d : Did} {e : Int} (hd : DidFits d) (hp : bs[p]? = some (.cells (dec d e) 62 true)) :
    SC Tryz.V 31 [.p p 0,.agg (tv v)] bs (fun r b => ∃ y1 y2,r = .agg [.str (servM d j).id,y1,y2] ∧ KpP p (dec d (servE d e j)) 62 true bs b ∧ Rn bs.length b y1 (servM d j).types ∧ Rn bs.length b y2 (servM d j).ends) := by
  have hpl := (List.getElem?_eq_some_iff.1 hp).1
  obtain ⟨v1,v2,v3,v4⟩ := hv.tin
  have ho : (one v.xk && one v.xi) = true := by rw [v3,v4]; rfl
  have hid := fun X => sc_dd_id (hv.ro ((Ro.refl bs).app X)) hd (at_old hp X)
  obtain ⟨x1,hx1,hg1⟩ := jd_Get hv ([116,121,112,101] : List UInt8)
  obtain ⟨x2,hx2,hg2⟩ := jd_Get hv ([115,101,114,118,105,99,101,69,110,100,112,111,105,110,116] : List UInt8)
  obtain ⟨-,-,q3,q4⟩ := hx1.tin
  obtain ⟨-,-,r3,r4⟩ := hx2.tin
  obtain ⟨z2,-⟩ := hx2.un
  have ho1 : (one x1.xk && one x1.xi) = true := by rw [q3,q4]; rfl
  have ho2 : (one x2.xk && one x2.xi) = true := by rw [r3,r4]; rfl
  unfold tv at hid hg1 hg2
  refine sc_of 3000 Tryz.func31 rfl Tryz.ntmps31 Tryz.results31 Tryz.call31 (by simp) (fun β β' hb => concL_within bs.length _ (by simp [within,within.withinL,tv,v1,v2,hpl]) β β' hb) ?_
  unfold tv
  simp only [lawG,↓Xn,↓Xo,↓Xg,↓Xd,↓Xe,↓Xf,Tryz.VΓ,Tryz.Γs,Xp,Xi,Nat.reduceAdd,Nat.reduceSub,Nat.reduceLT,Nat.reduceLeDiff,reduceIte,reduceCtorEq,Nat.reduceEqDiff,implies_true,forall_const,lawV,lawA,beq_self_eq_true,bne_self_eq_false,Int.reduceBEq,Int.reduceBNe,Int.reduceLT,Int.reduceLE,ho]
  refine callV_sc (hid _) ?_
  rintro r b1 ⟨rfl,rfl⟩
  have hset : ∀ (l : List Res) X,(bs ++ l).set p X = bs.set p X ++ l := fun l X => app_setL hpl l X
  rw [hset]
  have hk1 := (KpP.of hp (Kp.refl bs)).set (dec d (idE d e j)) 62 true
  have hl1 : (bs.set p (.cells (dec d (idE d e j)) 62 true)).length = bs.length := List.length_set
  have hro1 : Ro bs (bs.set p (.cells (dec d (idE d e j)) 62 true)) := ro_box hp _
  generalize bs.set p (.cells (dec d (idE d e j)) 62 true) = b1 at hk1 hl1 hro1
  rw [← hl1]
  simp only [lawG,↓Xn,↓Xo,↓Xg,↓Xd,↓Xe,↓Xf,Tryz.VΓ,Tryz.Γs,Xp,Xi,Nat.reduceAdd,Nat.reduceSub,Nat.reduceLT,Nat.reduceLeDiff,reduceIte,reduceCtorEq,Nat.reduceEqDiff,implies_true,forall_const,lawV,lawA,beq_self_eq_true,bne_self_eq_false,Int.reduceBEq,Int.reduceBNe,Int.reduceLT,Int.reduceLE]
  refine callV_sc (hg1 _ (hro1.app _)) ?_
  rintro r b2 ⟨rfl,rfl⟩
  simp only [lawG,↓Xn,↓Xo,↓Xg,↓Xd,↓Xe,↓Xf,Tryz.VΓ,Tryz.Γs,Xp,Xi,Nat.reduceAdd,Nat.reduceSub,Nat.reduceLT,Nat.reduceLeDiff,reduceIte,reduceCtorEq,Nat.reduceEqDiff,implies_true,forall_const,lawV,lawA,beq_self_eq_true,bne_self_eq_false,Int.reduceBEq,Int.reduceBNe,Int.reduceLT,Int.reduceLE,ho1]
  have hmo := sc_dd_more (hx1.ro (hro1.app [.cells [.int .i64 v.k,.str v.t,v.xk,v.xi] 25 true,.cells [.str [],.nils,.nils] 46 true,.cells [.str (idT d j),.nils,.nils] 46 true,.cells [.int .i64 x1.k,.str x1.t,x1.xk,x1.xi] 25 true])) (at_old hk1.2.2 _)
  unfold tv at hmo
  refine callV_sc hmo ?_
  rintro y1 b2 ⟨hk2,hy1⟩
  have k3 := (hk1.app _).trans hk2
  have c0 := hk2.at (app_at0 _ _) (by omega)
  have c1 := hk2.at (app_at _ _ 1) (by omega)
  have c2 := hk2.at (app_at _ _ 2) (by omega)
  have hro2 := k3.ro hp
  have hyo1 := hy1.one
  have hyc1 := hy1.cells
  have hy1 := hy1.le (lo' := bs.length) (by simp; omega)
  have hb2 := hk2.1
  simp only [List.length_append,List.length_cons,List.length_nil] at hb2
  clear hk2 hmo hid
  rw [hl1] at c0 c1 c2 hb2
  rw [hl1]
  have c2l := (List.getElem?_eq_some_iff.1 c2).1
  have c02 := fun X => get_setN c0 (show bs.length + 2 ≠ bs.length by omega) X
  simp only [lawG,↓Xn,↓Xo,↓Xg,↓Xd,↓Xe,↓Xf,Tryz.VΓ,Tryz.Γs,Xp,Xi,Nat.reduceAdd,Nat.reduceSub,Nat.reduceLT,Nat.reduceLeDiff,reduceIte,reduceCtorEq,Nat.reduceEqDiff,implies_true,forall_const,lawV,lawA,beq_self_eq_true,bne_self_eq_false,Int.reduceBEq,Int.reduceBNe,Int.reduceLT,Int.reduceLE,c0,c2,c02,hyo1,hyc1,ho]
  (repeat (refine ⟨by first | omega | (unfold maxLen; omega),?_⟩))
  have hro3 : Ro bs (b2.set (bs.length + 2) (.cells [.str (idT d j),y1,.nils] 46 true)) := hro2.trans (ro_box c2 _)
  refine callV_sc (hg2 _ hro3) ?_
  rintro r b3 ⟨rfl,rfl⟩
  have k4 := k3.setN (i := bs.length + 2) (by omega) (by omega) (.cells [.str (idT d j),y1,.nils] 46 true)
  have d1 := get_setN c1 (show bs.length + 2 ≠ bs.length + 1 by omega) (.cells [.str (idT d j),y1,.nils] 46 true)
  have d2 : (b2.set (bs.length + 2) (.cells [.str (idT d j),y1,.nils] 46 true))[bs.length + 2]? = _ := List.getElem?_set_self c2l
  have hy1 := hy1.ro (ro_box c2 (.cells [.str (idT d j),y1,.nils] 46 true))
  generalize b2.set (bs.length + 2) (.cells [.str (idT d j),y1,.nils] 46 true) = b3 at k4 d1 d2 hro3 hy1
  have d1l := (List.getElem?_eq_some_iff.1 d1).1
  have d2l := (List.getElem?_eq_some_iff.1 d2).1
  by_cases h7 : (j.at ([115,101,114,118,105,99,101,69,110,100,112,111,105,110,116] : List UInt8)).k = 7
  · have hb7 : (x2.k != 7) = false := by rw [z2,h7]; rfl
    have s1 : ∀ (l : List Res) X,(b3 ++ l).set (bs.length + 1) X = b3.set (bs.length + 1) X ++ l := fun l X => app_setL d1l l X
    have s2 := fun X => get_setS d1l X
    simp only [lawG,↓Xn,↓Xo,↓Xg,↓Xd,↓Xe,↓Xf,Tryz.VΓ,Tryz.Γs,Xp,Xi,Nat.reduceAdd,Nat.reduceSub,Nat.reduceLT,Nat.reduceLeDiff,reduceIte,reduceCtorEq,Nat.reduceEqDiff,implies_true,forall_const,lawV,lawA,beq_self_eq_true,bne_self_eq_false,Int.reduceBEq,Int.reduceBNe,Int.reduceLT,Int.reduceLE,ho2,hb7,at_old d1,at_old d2,s1,s2,hyo1,hyc1]
    refine ⟨y1,.nils,rfl,?_,?_,?_⟩
    · have : servE d e j = moreE (idE d e j) (j.at ([116,121,112,101] : List UInt8)) := by unfold servE; rw [if_pos h7]
      rw [this]
      exact (k4.setN (by omega) (by omega) _).app _
    · exact hy1.ro ((ro_box d1 _).app _)
    · have : (servM d j).ends = [] := by unfold servM; rw [if_pos h7]
      rw [this]; exact .inl ⟨rfl,rfl⟩
  · have hb7 : (x2.k != 7) = true := by rw [z2]; exact bne_iff_ne.2 h7
    simp only [lawG,↓Xn,↓Xo,↓Xg,↓Xd,↓Xe,↓Xf,Tryz.VΓ,Tryz.Γs,Xp,Xi,Nat.reduceAdd,Nat.reduceSub,Nat.reduceLT,Nat.reduceLeDiff,reduceIte,reduceCtorEq,Nat.reduceEqDiff,implies_true,forall_const,lawV,lawA,beq_self_eq_true,bne_self_eq_false,Int.reduceBEq,Int.reduceBNe,Int.reduceLT,Int.reduceLE,ho2,hb7]
    have hmo := sc_dd_more (hx2.ro (hro3.app [.cells [.int .i64 x2.k,.str x2.t,x2.xk,x2.xi] 25 true])) (at_old k4.2.2 _)
    unfold tv at hmo
    refine callV_sc hmo ?_
    rintro y2 b4 ⟨hk5,hy2⟩
    have k5 := (k4.app _).trans hk5
    have f1 := hk5.at (at_old d1 _) (by omega)
    have f2 := hk5.at (at_old d2 _) (by omega)
    have hyo2 := hy2.one
    have hyc2 := hy2.cells
    have hy1 := hy1.ro (((Ro.refl b3).app _).trans (hk5.ro (at_old k4.2.2 _)))
    have hy2 := hy2.le (lo' := bs.length) (by have := k4.1; simp; omega)
    have f1l := (List.getElem?_eq_some_iff.1 f1).1
    have f2l := (List.getElem?_eq_some_iff.1 f2).1
    have s1 := fun X Y => List.getElem?_set_self (l := b4.set (bs.length + 2) X) (i := bs.length + 1) (a := Y) (by simpa using f1l)
    have s2 := fun X => get_setN f1 (show bs.length + 2 ≠ bs.length + 1 by omega) X
    have s3 : ∀ X,(b4.set (bs.length + 2) X)[bs.length + 2]? = some X := fun X => List.getElem?_set_self f2l
    simp only [lawG,↓Xn,↓Xo,↓Xg,↓Xd,↓Xe,↓Xf,Tryz.VΓ,Tryz.Γs,Xp,Xi,Nat.reduceAdd,Nat.reduceSub,Nat.reduceLT,Nat.reduceLeDiff,reduceIte,reduceCtorEq,Nat.reduceEqDiff,implies_true,forall_const,lawV,lawA,beq_self_eq_true,bne_self_eq_false,Int.reduceBEq,Int.reduceBNe,Int.reduceLT,Int.reduceLE,f1,f2,hyo1,hyo2,hyc1,hyc2,s1,s2,s3]
    refine ⟨y1,y2,rfl,?_,?_,?_⟩
    · have : servE d e j = moreE (moreE (idE d e j) (j.at ([116,121,112,101] : List UInt8))) (j.at ([115,101,114,118,105,99,101,69,110,100,112,111,105,110,116] : List UInt8)) := by unfold servE; rw [if_neg h7]
      rw [this]
      exact (k5.setN (by omega) (by omega) _).setN (by omega) (by omega) _
    · exact hy1.ro ((ro_box f2 _).trans (ro_box (s2 _) _))
    · have : (servM d j).ends = moreL (j.at ([115,101,114,118,105,99,101,69,110,100,112,111,105,110,116] : List UInt8)) := by unfold servM; rw [if_neg h7]
      rw [this]; exact hy2.ro ((ro_box f2 _).trans (ro_box (s2 _) _))
theorem serv_pick {f : FuncId} {args : List SV} {bs : List Res} {p : Nat} {c : List SV} {T : TypeId} {m : Bool} (hpl : p < bs.length) (hc : flat.flatL c = true) (S : Svm)
    (h : SC Tryz.V f args bs (fun r b => ∃ y1 y2,r = .agg [.str S.id,y1,y2] ∧ KpP p c T m bs b ∧ Rn bs.length b y1 S.types ∧ Rn bs.length b y2 S.ends)) :
    SC Tryz.V f args bs (fun r b => r = .agg [.str S.id,canS bs.length S.types,canS (bs.length + 1) S.ends] ∧ b = bs.set p (.cells c T m) ++ [canR S.types,canR S.ends]) := by
  refine SC.pickP (T := T) (mb := m) hpl hc (h.mono ?_)
  rintro r b ⟨y1,y2,rfl,hk,h1,h2⟩
  obtain ⟨q1,l1,k1⟩ := h1.can bs.length
  obtain ⟨q2,l2,k2⟩ := h2.can (bs.length + 1)
  obtain ⟨ρ,hρ⟩ : ∃ ρ : Nat → Nat,ρ = fun i => if i = bs.length then q1 else if i = bs.length + 1 then q2 else i := ⟨_,rfl⟩
  have r1 : ρ bs.length = q1 := by rw [hρ]; simp
  have r2 : ρ (bs.length + 1) = q2 := by rw [hρ]; simp
  obtain ⟨a1,b1⟩ := k1 ρ r1
  obtain ⟨a2,b2⟩ := k2 ρ r2
  have hin : ∀ (T : List Bytes) m,within.withinL m (T.map SV.str) = true := fun T m => str_in m T
  have hk0 : ∀ k,k < bs.length → ρ k = k := fun k hk => by rw [hρ]; show (if k = bs.length then q1 else if k = bs.length + 1 then q2 else k) = k; rw [if_neg (by omega),if_neg (by omega)]
  refine ⟨ρ,[canR S.types,canR S.ends],_,hk,hk0,?_,?_,?_,rfl,rfl⟩
  · rintro q X hX
    match q,hX with
    | 0,hX =>
      cases hX
      by_cases hT : S.types = []
      · rw [show canR S.types = .gone from if_pos hT]; exact .inl rfl
      · rw [show canR S.types = .own (S.types.map SV.str) 9 1 S.types.length false from if_neg hT]
        refine .inr ⟨_,_,_,_,false,rfl,?_,?_,hin _ _⟩
        · rw [Nat.add_zero,r1]; exact l1 hT
        · rw [Nat.add_zero,r1,renL_within hk0 _ (hin _ _)]; exact b1 hT
    | 1,hX =>
      cases hX
      by_cases hT : S.ends = []
      · rw [show canR S.ends = .gone from if_pos hT]; exact .inl rfl
      · rw [show canR S.ends = .own (S.ends.map SV.str) 9 1 S.ends.length false from if_neg hT]
        refine .inr ⟨_,_,_,_,false,rfl,?_,?_,hin _ _⟩
        · rw [r2]; exact l2 hT
        · rw [r2,renL_within hk0 _ (hin _ _)]; exact b2 hT
  · rw [a1,a2]; simp [ren,renL]
  · simp [within,within.withinL,canS_in]
theorem sc_dd_service {bs : List Res} {j : Jv} {v : Tv} (hv : TJ bs j v) {p : Nat} {d : Did} {e : Int} (hd : DidFits d) (hp : bs[p]? = some (.cells (dec d e) 62 true)) :
    SC Tryz.V 31 [.p p 0,.agg (tv v)] bs (fun r b => r = .agg [.str (servM d j).id,canS bs.length (servM d j).types,canS (bs.length + 1) (servM d j).ends] ∧ b = bs.set p (.cells (dec d (servE d e j)) 62 true) ++ [canR (servM d j).types,canR (servM d j).ends]) :=
  serv_pick (List.getElem?_eq_some_iff.1 hp).1 (dec_flat d (servE d e j)) (servM d j) (sc_dd_servR hv hd hp)
end Go.Proofs.YtejfjmcjicpodaaGreatDoor
/- The walk of diddoc.Decode. -/
set_option linter.all false
set_option maxRecDepth 20000
namespace Go.Proofs.YtejfjmcjicpodaaGreatDoor
open Go Vc Go.RowKit Wf
set_option linter.unusedSimpArgs false
def mc (m : Mtm) : List SV := [.str m.id,.str m.type,.str m.ctrl]
structure Sq where
  m : Svm
  y1 : SV
  y2 : SV
def sqc (q : Sq) : List SV := [.str q.m.id,q.y1,q.y2]
def SqOk (b : List Res) (q : Sq) : Prop := Rs b q.y1 q.m.types ∧ Rs b q.y2 q.m.ends
theorem SqOk.ro {a b : List Res} {q : Sq} (h : SqOk a q) (k : Ro a b) : SqOk b q := ⟨h.1.ro k,h.2.ro k⟩
def Rm (b : List Res) (x : SV) (M : List Mtm) : Prop := (x = .nils ∧ M = []) ∨ ∃ j,x = .o j M.length ∧ b[j]? = some (.own (M.flatMap mc) 48 3 M.length false)
def Rq (b : List Res) (x : SV) (Q : List Sq) : Prop := (x = .nils ∧ Q = []) ∨ ∃ j,x = .o j Q.length ∧ b[j]? = some (.own (Q.flatMap sqc) 46 3 Q.length false)
theorem Rm.ro {a b : List Res} {x : SV} {M : List Mtm} (h : Rm a x M) (k : Ro a b) : Rm b x M := by
  rcases h with h | ⟨j,h1,h2⟩
  · exact .inl h
  · exact .inr ⟨j,h1,k _ _ _ _ _ h2⟩
theorem Rq.ro {a b : List Res} {x : SV} {Q : List Sq} (h : Rq a x Q) (k : Ro a b) : Rq b x Q := by
  rcases h with h | ⟨j,h1,h2⟩
  · exact .inl h
  · exact .inr ⟨j,h1,k _ _ _ _ _ h2⟩
theorem Rm.one {b : List Res} {x : SV} {M : List Mtm} (h : Rm b x M) : Vc.one x = true := by
  rcases h with ⟨rfl,-⟩ | ⟨j,rfl,-⟩ <;> rfl
theorem Rq.one {b : List Res} {x : SV} {Q : List Sq} (h : Rq b x Q) : Vc.one x = true := by
  rcases h with ⟨rfl,-⟩ | ⟨j,rfl,-⟩ <;> rfl
def DocR (b : List Res) (c : List SV) (D : Docm) : Prop := ∃ xa xc xm xs Q,c = [.str D.id,xa,xc,xm,xs] ∧ Rs b xa D.also ∧ Rs b xc D.ctrl ∧ Rm b xm D.methods ∧ Rq b xs Q ∧ (∀ q ∈ Q,SqOk b q) ∧ Q.map Sq.m = D.services
theorem DocR.none (b : List Res) : DocR b [.str [],.nils,.nils,.nils,.nils] Docm.none := ⟨.nils,.nils,.nils,.nils,[],rfl,.inl ⟨rfl,rfl⟩,.inl ⟨rfl,rfl⟩,.inl ⟨rfl,rfl⟩,.inl ⟨rfl,rfl⟩,by simp,rfl⟩
theorem Rs.cells {b : List Res} {x : SV} {T : List Bytes} (h : Rs b x T) : Vc.cells x = [x] := by
  rcases h with ⟨rfl,-⟩ | ⟨q,rfl,-⟩ <;> rfl
theorem did_fits {s : Bytes} (h : (didParse s).2 = 0) : DidFits (didParse s).1 := by
  obtain ⟨-,h1,h2,-⟩ := did_can (s := s) (d := (didParse s).1) (by rw [← h])
  unfold didText at h1
  simp only [List.length_append] at h1
  exact ⟨by omega,by omega⟩
end Go.Proofs.YtejfjmcjicpodaaGreatDoor
namespace Vc
open Go.Proofs.YtejfjmcjicpodaaGreatDoor
open Go Vc Go.RowKit Wf
theorem Kp.kpP {p : Nat} {c : List SV} {T : TypeId} {m : Bool} {bs b b' : List Res} (h : Kp bs b) (k : KpP p c T m b b') (hp : bs.length ≤ p) : Kp bs b' := ⟨Nat.le_trans h.1 k.1,fun q hq => (k.2.1 q (Nat.lt_of_lt_of_le hq h.1) (by omega)).trans (h.2 q hq)⟩
end Vc
namespace Go.Proofs.YtejfjmcjicpodaaGreatDoor
open Go Vc Go.RowKit Wf
def DI (bs b : List Res) (v : Tv) (d : Did) (e : Int) (D : List SV) : Prop := Kp bs b ∧ b[bs.length]? = some (.cells [.int .i64 v.k,.str v.t,v.xk,v.xi] 25 true) ∧ b[bs.length + 1]? = some (.cells [.str [],.nils,.nils,.nils,.nils] 34 true) ∧
  b[bs.length + 2]? = some (.cells (dec d e) 62 true) ∧ b[bs.length + 3]? = some (.cells D 34 true)
theorem DI.setE {bs b : List Res} {v : Tv} {d : Did} {e : Int} {D : List SV} (h : DI bs b v d e D) (e' : Int) : DI bs (b.set (bs.length + 2) (.cells (dec d e') 62 true)) v d e' D :=
  ⟨h.1.set (by omega) _,get_setN h.2.1 (by omega) _,get_setN h.2.2.1 (by omega) _,List.getElem?_set_self (List.getElem?_eq_some_iff.1 h.2.2.2.1).1,get_setN h.2.2.2.2 (by omega) _⟩
theorem DI.setD {bs b : List Res} {v : Tv} {d : Did} {e : Int} {D : List SV} (h : DI bs b v d e D) (D' : List SV) : DI bs (b.set (bs.length + 3) (.cells D' 34 true)) v d e D' :=
  ⟨h.1.set (by omega) _,get_setN h.2.1 (by omega) _,get_setN h.2.2.1 (by omega) _,get_setN h.2.2.2.1 (by omega) _,List.getElem?_set_self (List.getElem?_eq_some_iff.1 h.2.2.2.2).1⟩
theorem DI.setQ {bs b : List Res} {v : Tv} {d : Did} {e : Int} {D : List SV} (h : DI bs b v d e D) {q : Nat} (hq : bs.length + 3 < q) (X : Res) : DI bs (b.set q X) v d e D :=
  ⟨h.1.set (by omega) _,get_setN h.2.1 (by omega) _,get_setN h.2.2.1 (by omega) _,get_setN h.2.2.2.1 (by omega) _,get_setN h.2.2.2.2 (by omega) _⟩
theorem DI.app {bs b : List Res} {v : Tv} {d : Did} {e : Int} {D : List SV} (h : DI bs b v d e D) (X : List Res) : DI bs (b ++ X) v d e D :=
  ⟨h.1.app _,at_old h.2.1 _,at_old h.2.2.1 _,at_old h.2.2.2.1 _,at_old h.2.2.2.2 _⟩
theorem DI.lt {bs b : List Res} {v : Tv} {d : Did} {e : Int} {D : List SV} (h : DI bs b v d e D) : bs.length + 3 < b.length := (List.getElem?_eq_some_iff.1 h.2.2.2.2).1
theorem DI.roE {bs b : List Res} {v : Tv} {d : Did} {e : Int} {D : List SV} (h : DI bs b v d e D) (X : Res) : Ro b (b.set (bs.length + 2) X) := ro_box h.2.2.2.1 X
theorem DI.roD {bs b : List Res} {v : Tv} {d : Did} {e : Int} {D : List SV} (h : DI bs b v d e D) (X : Res) : Ro b (b.set (bs.length + 3) X) := ro_box h.2.2.2.2 X
theorem outs_set (i : Nat) (b : List Res) (X : Res) : Outs [(i,0,0)] (b.set i X) b := outs_of (fun j hj => List.getElem?_set_ne (hj (i,0,0) (by simp))) (by simp)
theorem outs_set2 {i n m : Nat} {b : List Res} (hn : n = b.length) (hm : m = b.length + 1) (X Y Z : Res) : Outs [(i,0,0),(n,0,0),(m,0,0)] (b.set i X ++ [Y,Z]) b := outs_of (fun j hj => by
  have h1 := hj (i,0,0) (by simp)
  have h2 := hj (n,0,0) (by simp)
  have h3 := hj (m,0,0) (by simp)
  simp only at h1 h2 h3
  rcases Nat.lt_or_ge j b.length with h | h
  · rw [List.getElem?_append_left (by simpa using h),List.getElem?_set_ne h1]
  · rw [List.getElem?_eq_none (by simp; omega),List.getElem?_eq_none h]) (by simp)
theorem canS_rs {b : List Res} {i : Nat} {T : List Bytes} (h : b[i]? = some (canR T)) : Rs b (canS i T) T := by
  by_cases hT : T = []
  · exact .inl ⟨by simp [canS,hT],hT⟩
  · rw [show canR T = .own (T.map SV.str) 9 1 T.length false from if_neg hT] at h
    exact .inr ⟨i,by simp [canS,hT],h⟩
set_option maxHeartbeats 16000000 in
theorem sc_dd_Decode {bs : List Res} {j : Jv} {v : Tv} (hv : TJ bs j v) :
    SC Tryz.V 10 [.agg (tv v)] bs (fun r b => ∃ c,r = .tup [.agg c,.int .i64 (docOf j).2] ∧ Kp bs b ∧ DocR b c (docOf j).1) := by
  refine SC.dimAll ?_
  obtain ⟨v1,v2,v3,v4⟩ := hv.tin
  have ho : (one v.xk && one v.xi) = true := by rw [v3,v4]; rfl
  obtain ⟨e1,-⟩ := hv.un
  refine sc_of 3000 Tryz.func10 rfl Tryz.ntmps10 Tryz.results10 Tryz.call10 (by simp) (fun β β' hb => concL_within bs.length _ (by simp [within,within.withinL,tv,v1,v2]) β β' hb) ?_
  by_cases h7 : j.k = 7
  rotate_left
  · have hb7 : (v.k != 7) = true := by rw [e1]; exact bne_iff_ne.2 h7
    unfold tv
    simp only [lawG,↓Xn,↓Xo,↓Xg,↓Xd,↓Xe,↓Xf,Tryz.VΓ,Tryz.Γs,Xp,Xi,Nat.reduceAdd,Nat.reduceSub,Nat.reduceLT,Nat.reduceLeDiff,reduceIte,reduceCtorEq,Nat.reduceEqDiff,implies_true,forall_const,lawV,lawA,beq_self_eq_true,bne_self_eq_false,Int.reduceBEq,Int.reduceBNe,Int.reduceLT,Int.reduceLE,ho,hb7]
    have : docOf j = (Docm.none,160) := by unfold docOf; rw [if_neg h7]
    rw [this]
    exact ⟨by simp,_,rfl,((Kp.refl bs).app _).dimB,DocR.none _⟩
  have hb7 : (v.k != 7) = false := by rw [e1,h7]; rfl
  have hm := fun X => sc_dd_member (hv.ro ((Ro.refl bs).app X)) ([105,100] : List UInt8) (p := bs.length + 2) (d := Did.none) (e := 0)
  obtain ⟨x0,hx0,-⟩ := jd_Get hv ([105,100] : List UInt8)
  obtain ⟨-,-,hlen,-⟩ := hx0.un
  have pp := p_did_ParseDID (j.at ([105,100] : List UInt8)).t
  unfold tv at hm ⊢
  unfold dsv at pp
  simp only [lawG,↓Xn,↓Xo,↓Xg,↓Xd,↓Xe,↓Xf,Tryz.VΓ,Tryz.Γs,Xp,Xi,Nat.reduceAdd,Nat.reduceSub,Nat.reduceLT,Nat.reduceLeDiff,reduceIte,reduceCtorEq,Nat.reduceEqDiff,implies_true,forall_const,lawV,lawA,beq_self_eq_true,bne_self_eq_false,Int.reduceBEq,Int.reduceBNe,Int.reduceLT,Int.reduceLE,ho,hb7]
  refine callV_sc (hm _ (app_at _ _ 2)) ?_
  rintro r b1 ⟨rfl,rfl⟩
  unfold dec
  simp only [lawG,↓Xn,↓Xo,↓Xg,↓Xd,↓Xe,↓Xf,Tryz.VΓ,Tryz.Γs,Xp,Xi,Nat.reduceAdd,Nat.reduceSub,Nat.reduceLT,Nat.reduceLeDiff,reduceIte,reduceCtorEq,Nat.reduceEqDiff,implies_true,forall_const,lawV,lawA,beq_self_eq_true,bne_self_eq_false,Int.reduceBEq,Int.reduceBNe,Int.reduceLT,Int.reduceLE]
  (refine callV_pc (pp) ?_; simp only [lawG,↓Xn,↓Xo,↓Xg,↓Xd,↓Xe,↓Xf,Tryz.VΓ,Tryz.Γs,Xp,Xi,Nat.reduceAdd,Nat.reduceSub,Nat.reduceLT,Nat.reduceLeDiff,reduceIte,reduceCtorEq,Nat.reduceEqDiff,implies_true,forall_const,lawV,lawA,beq_self_eq_true,bne_self_eq_false,Int.reduceBEq,Int.reduceBNe,Int.reduceLT,Int.reduceLE])
  by_cases hE : (j.at ([105,100] : List UInt8)).k = 5 ∧ (didParse (j.at ([105,100] : List UInt8)).t).2 = 0
  rotate_left
  · have hdoc : docOf j = (Docm.none,160) := by unfold docOf; rw [if_pos h7,if_neg hE]
    by_cases h5 : (j.at ([105,100] : List UInt8)).k = 5
    · have hb1 : (textsE 0 [j.at ([105,100] : List UInt8)] != 0) = false := by simp [textsE,h5]
      have hb2 : ((didParse (j.at ([105,100] : List UInt8)).t).2 != 0) = true := bne_iff_ne.2 fun h => hE ⟨h5,h⟩
      simp only [lawG,↓Xn,↓Xo,↓Xg,↓Xd,↓Xe,↓Xf,Tryz.VΓ,Tryz.Γs,Xp,Xi,Nat.reduceAdd,Nat.reduceSub,Nat.reduceLT,Nat.reduceLeDiff,reduceIte,reduceCtorEq,Nat.reduceEqDiff,implies_true,forall_const,lawV,lawA,beq_self_eq_true,bne_self_eq_false,Int.reduceBEq,Int.reduceBNe,Int.reduceLT,Int.reduceLE,hb1,hb2]
      rw [hdoc]
      exact ⟨by simp,_,rfl,((Kp.refl bs).app _).dimB,DocR.none _⟩
    · have hb1 : (textsE 0 [j.at ([105,100] : List UInt8)] != 0) = true := by simp [textsE,h5,failE]
      simp only [lawG,↓Xn,↓Xo,↓Xg,↓Xd,↓Xe,↓Xf,Tryz.VΓ,Tryz.Γs,Xp,Xi,Nat.reduceAdd,Nat.reduceSub,Nat.reduceLT,Nat.reduceLeDiff,reduceIte,reduceCtorEq,Nat.reduceEqDiff,implies_true,forall_const,lawV,lawA,beq_self_eq_true,bne_self_eq_false,Int.reduceBEq,Int.reduceBNe,Int.reduceLT,Int.reduceLE,hb1]
      rw [hdoc]
      exact ⟨by simp,_,rfl,((Kp.refl bs).app _).dimB,DocR.none _⟩
  obtain ⟨h5,hp0⟩ := hE
  have hb1 : (textsE 0 [j.at ([105,100] : List UInt8)] != 0) = false := by simp [textsE,h5]
  have hb2 : ((didParse (j.at ([105,100] : List UInt8)).t).2 != 0) = false := by rw [hp0]; rfl
  have ht0 : textsE 0 [j.at ([105,100] : List UInt8)] = 0 := by simp [textsE,h5]
  have hfit := did_fits hp0
  have pf := p_did_FormatDID _ hfit
  obtain ⟨d,hd⟩ : ∃ d,d = (didParse (j.at ([105,100] : List UInt8)).t).1 := ⟨_,rfl⟩
  have hdoc : docOf j = if docE d j = 0 then (docM d j,0) else (Docm.none,docE d j) := by unfold docOf; rw [if_pos h7,if_pos ⟨h5,hp0⟩,hd]
  unfold dsv at pf
  rw [← hd] at pf hfit
  simp only [lawG,↓Xn,↓Xo,↓Xg,↓Xd,↓Xe,↓Xf,Tryz.VΓ,Tryz.Γs,Xp,Xi,Nat.reduceAdd,Nat.reduceSub,Nat.reduceLT,Nat.reduceLeDiff,reduceIte,reduceCtorEq,Nat.reduceEqDiff,implies_true,forall_const,lawV,lawA,beq_self_eq_true,bne_self_eq_false,Int.reduceBEq,Int.reduceBNe,Int.reduceLT,Int.reduceLE,hb1,hb2]
  rw [← hd,ht0]
  (refine callD_pc (pf) ?_; simp only [lawG,↓Xn,↓Xo,↓Xg,↓Xd,↓Xe,↓Xf,Tryz.VΓ,Tryz.Γs,Xp,Xi,Nat.reduceAdd,Nat.reduceSub,Nat.reduceLT,Nat.reduceLeDiff,reduceIte,reduceCtorEq,Nat.reduceEqDiff,implies_true,forall_const,lawV,lawA,beq_self_eq_true,bne_self_eq_false,Int.reduceBEq,Int.reduceBNe,Int.reduceLT,Int.reduceLE])
  refine ⟨by (refine OkD_ren (fun n => n - bs.length) ?_; simp only [List.map_cons,List.map_nil,renRk,renT,Nat.add_sub_cancel_left,Nat.sub_self,if_true]; exact OkD_fast (by kernel_rfl)),?_⟩
  -- alsoKnownAs
  obtain ⟨ya,La,hya,hLa,hla⟩ := sc_dd_list hv ([97,108,115,111,75,110,111,119,110,65,115] : List UInt8)
  have hll : ∀ key,(listL j key).length ≤ 1000 := fun key => by
    unfold listL; split
    · unfold arrL; split <;> (try split) <;> first | omega | simp
    · simp
  unfold tv at hla
  refine callV_sc (hla _ (bs.length + 2) d 0 ((Ro.refl bs).app _) (app_at _ _ 2) (within_up (by simp) hya.within)) ?_
  rintro r b1 ⟨rfl,rfl⟩
  have hyo := hya.one
  unfold dec
  simp only [lawG,↓Xn,↓Xo,↓Xg,↓Xd,↓Xe,↓Xf,Tryz.VΓ,Tryz.Γs,Xp,Xi,Nat.reduceAdd,Nat.reduceSub,Nat.reduceLT,Nat.reduceLeDiff,reduceIte,reduceCtorEq,Nat.reduceEqDiff,implies_true,forall_const,lawV,lawA,beq_self_eq_true,bne_self_eq_false,Int.reduceBEq,Int.reduceBNe,Int.reduceLT,Int.reduceLE,hyo]
  refine callV_sc (sc_dd_texts (d := d) (e := listE 0 j ([97,108,115,111,75,110,111,119,110,65,115] : List UInt8)) (app_at _ _ 2) (hya.ro ((Ro.refl bs).app _)) (TJs.ro ((Ro.refl bs).app _) hLa) (hll _)) ?_
  rintro xa b9 ⟨hk9,hxa⟩
  have kp9 := ((Kp.refl bs).app _).kpP hk9 (by omega)
  have f0 := hk9.at (app_at0 _ _) (by omega)
  have f1 := hk9.at (app_at _ _ 1) (by omega)
  have f2 := hk9.2.2
  have f3 := hk9.at (app_at _ _ 3) (by omega)
  have hxao := hxa.one
  have hxac := hxa.cells
  have hxa := hxa.rs
  clear hk9
  have hE9 : textsE (listE 0 j ([97,108,115,111,75,110,111,119,110,65,115] : List UInt8)) (listL j ([97,108,115,111,75,110,111,119,110,65,115] : List UInt8)) = alsoE 0 j := rfl
  have hL9 : (listL j ([97,108,115,111,75,110,111,119,110,65,115] : List UInt8)).map Jv.t = alsoL j := rfl
  rw [hE9] at f2
  rw [hL9] at hxa
  have f0s := fun X => get_setN f0 (show bs.length + 3 ≠ bs.length by omega) X
  simp only [lawG,↓Xn,↓Xo,↓Xg,↓Xd,↓Xe,↓Xf,Tryz.VΓ,Tryz.Γs,Xp,Xi,Nat.reduceAdd,Nat.reduceSub,Nat.reduceLT,Nat.reduceLeDiff,reduceIte,reduceCtorEq,Nat.reduceEqDiff,implies_true,forall_const,lawV,lawA,beq_self_eq_true,bne_self_eq_false,Int.reduceBEq,Int.reduceBNe,Int.reduceLT,Int.reduceLE,f3,hxao,hxac,f0s,ho]
  have kpA : Kp bs (b9.set (bs.length + 3) (.cells [.str (didText d),xa,.nils,.nils,.nils] 34 true)) := kp9.set (by omega) _
  have g0 := f0s (.cells [.str (didText d),xa,.nils,.nils,.nils] 34 true)
  have g1 := get_setN f1 (show bs.length + 3 ≠ bs.length + 1 by omega) (.cells [.str (didText d),xa,.nils,.nils,.nils] 34 true)
  have g2 := get_setN f2 (show bs.length + 3 ≠ bs.length + 2 by omega) (.cells [.str (didText d),xa,.nils,.nils,.nils] 34 true)
  have g3 : (b9.set (bs.length + 3) (.cells [.str (didText d),xa,.nils,.nils,.nils] 34 true))[bs.length + 3]? = _ := List.getElem?_set_self (List.getElem?_eq_some_iff.1 f3).1
  have hxaA := hxa.ro (ro_box f3 (.cells [.str (didText d),xa,.nils,.nils,.nils] 34 true))
  generalize b9.set (bs.length + 3) (.cells [.str (didText d),xa,.nils,.nils,.nils] 34 true) = bA at kpA g0 g1 g2 g3 hxaA
  clear kp9 f0 f1 f2 f3 f0s hxa hla hm
  obtain ⟨xv,hxv,hgc⟩ := jd_Get hv ([99,111,110,116,114,111,108,108,101,114] : List UInt8)
  obtain ⟨q1,q2,q3,q4⟩ := hxv.tin
  have hxvo : (one xv.xk && one xv.xi) = true := by rw [q3,q4]; rfl
  unfold tv at hgc
  refine callV_sc (hgc _ kpA.ro) ?_
  rintro r bA ⟨rfl,rfl⟩
  obtain ⟨ym,Lm,hym,hLm,hlm⟩ := sc_dd_list hv ([118,101,114,105,102,105,99,97,116,105,111,110,77,101,116,104,111,100] : List UInt8)
  obtain ⟨ys,Lv,hys,hLv,hls⟩ := sc_dd_list hv ([115,101,114,118,105,99,101] : List UInt8)
  have hymo := hym.one
  have hyso := hys.one
  have hyml := hym.len
  have hysl := hys.len
  have hLml := hLm.len
  have hLvl := hLv.len
  have hm64 := hll ([118,101,114,105,102,105,99,97,116,105,111,110,77,101,116,104,111,100] : List UInt8)
  have hv64 := hll ([115,101,114,118,105,99,101] : List UInt8)
  unfold tv at hlm hls
  -- the two roads meet
  rcases hg : j.get ([99,111,110,116,114,111,108,108,101,114] : List UInt8) with _ | m
  have hcE : ctrlE (alsoE 0 j) j = alsoE 0 j := by unfold ctrlE; rw [hg]
  have hcL : ctrlL j = [] := by unfold ctrlL; rw [hg]
  simp only [lawG,↓Xn,↓Xo,↓Xg,↓Xd,↓Xe,↓Xf,Tryz.VΓ,Tryz.Γs,Xp,Xi,Nat.reduceAdd,Nat.reduceSub,Nat.reduceLT,Nat.reduceLeDiff,reduceIte,reduceCtorEq,Nat.reduceEqDiff,implies_true,forall_const,lawV,lawA,beq_self_eq_true,bne_self_eq_false,Int.reduceBEq,Int.reduceBNe,Int.reduceLT,Int.reduceLE,hxvo,hg,Option.isSome_none,at_old g0,ho]
  obtain ⟨xc,hxc⟩ : ∃ xc,xc = SV.nils := ⟨_,rfl⟩
  have hxcS : Rs (bA ++ [Res.cells [.int .i64 xv.k,.str xv.t,xv.xk,xv.xi] 25 true]) xc (ctrlL j) := .inl ⟨hxc,hcL⟩
  have hxco : one xc = true := by rw [hxc]; rfl
  have kpS := kpA.app [Res.cells [.int .i64 xv.k,.str xv.t,xv.xk,xv.xi] 25 true]
  have s0 := at_old g0 [Res.cells [.int .i64 xv.k,.str xv.t,xv.xk,xv.xi] 25 true]
  have s1 := at_old g1 [Res.cells [.int .i64 xv.k,.str xv.t,xv.xk,xv.xi] 25 true]
  have s2 := at_old g2 [Res.cells [.int .i64 xv.k,.str xv.t,xv.xk,xv.xi] 25 true]
  have s3 : (bA ++ [Res.cells [.int .i64 xv.k,.str xv.t,xv.xk,xv.xi] 25 true])[bs.length + 3]? = some (.cells [.str (didText d),xa,xc,.nils,.nils] 34 true) := by rw [hxc]; exact at_old g3 _
  rw [← hcE] at s2
  have hxaS := hxaA.ro ((Ro.refl bA).app [Res.cells [.int .i64 xv.k,.str xv.t,xv.xk,xv.xi] 25 true])
  generalize bA ++ [Res.cells [.int .i64 xv.k,.str xv.t,xv.xk,xv.xi] 25 true] = S at hxcS kpS s0 s1 s2 s3 hxaS
  clear hg hgc hcE hcL hxc
  rotate_left
  have hcE : ctrlE (alsoE 0 j) j = moreE (alsoE 0 j) m := by unfold ctrlE; rw [hg]
  have hcL : ctrlL j = moreL m := by unfold ctrlL; rw [hg]
  have hat : j.at ([99,111,110,116,114,111,108,108,101,114] : List UInt8) = m := by unfold Jv.at; rw [hg]; rfl
  simp only [lawG,↓Xn,↓Xo,↓Xg,↓Xd,↓Xe,↓Xf,Tryz.VΓ,Tryz.Γs,Xp,Xi,Nat.reduceAdd,Nat.reduceSub,Nat.reduceLT,Nat.reduceLeDiff,reduceIte,reduceCtorEq,Nat.reduceEqDiff,implies_true,forall_const,lawV,lawA,beq_self_eq_true,bne_self_eq_false,Int.reduceBEq,Int.reduceBNe,Int.reduceLT,Int.reduceLE,hxvo,hg,Option.isSome_some]
  rw [hat] at hxv
  have hmo := sc_dd_more (hxv.ro (kpA.ro.app [.cells [.int .i64 xv.k,.str xv.t,xv.xk,xv.xi] 25 true])) (at_old g2 _)
  unfold tv at hmo
  refine callV_sc hmo ?_
  rintro xc bB ⟨hkB,hxc⟩
  have kpB := (kpA.app _).kpP hkB (by omega)
  have f0 := hkB.at (at_old g0 _) (by omega)
  have f1 := hkB.at (at_old g1 _) (by omega)
  have f2 := hkB.2.2
  have f3 := hkB.at (at_old g3 _) (by omega)
  have hxaB := hxaA.ro (((Ro.refl bA).app _).trans (hkB.ro (at_old g2 _)))
  have hxco := hxc.one
  have hxcc := hxc.cells
  have hxc := hxc.rs
  rw [← hcE] at f2
  rw [← hcL] at hxc
  have f0s := fun X => get_setN f0 (show bs.length + 3 ≠ bs.length by omega) X
  simp only [lawG,↓Xn,↓Xo,↓Xg,↓Xd,↓Xe,↓Xf,Tryz.VΓ,Tryz.Γs,Xp,Xi,Nat.reduceAdd,Nat.reduceSub,Nat.reduceLT,Nat.reduceLeDiff,reduceIte,reduceCtorEq,Nat.reduceEqDiff,implies_true,forall_const,lawV,lawA,beq_self_eq_true,bne_self_eq_false,Int.reduceBEq,Int.reduceBNe,Int.reduceLT,Int.reduceLE,f3,hxco,hxcc,hxao,f0s,ho]
  have kpS : Kp bs (bB.set (bs.length + 3) (.cells [.str (didText d),xa,xc,.nils,.nils] 34 true)) := kpB.set (by omega) _
  have s0 := f0s (.cells [.str (didText d),xa,xc,.nils,.nils] 34 true)
  have s1 := get_setN f1 (show bs.length + 3 ≠ bs.length + 1 by omega) (.cells [.str (didText d),xa,xc,.nils,.nils] 34 true)
  have s2 := get_setN f2 (show bs.length + 3 ≠ bs.length + 2 by omega) (.cells [.str (didText d),xa,xc,.nils,.nils] 34 true)
  have s3 : (bB.set (bs.length + 3) (.cells [.str (didText d),xa,xc,.nils,.nils] 34 true))[bs.length + 3]? = _ := List.getElem?_set_self (List.getElem?_eq_some_iff.1 f3).1
  have hxaS := hxaB.ro (ro_box f3 (.cells [.str (didText d),xa,xc,.nils,.nils] 34 true))
  have hxcS := hxc.ro (ro_box f3 (.cells [.str (didText d),xa,xc,.nils,.nils] 34 true))
  generalize bB.set (bs.length + 3) (.cells [.str (didText d),xa,xc,.nils,.nils] 34 true) = S at kpS s0 s1 s2 s3 hxaS hxcS
  clear hg hgc hcE hcL kpB f0 f1 f2 f3 f0s hxaB hmo hkB
  rotate_left
  all_goals
    refine callV_sc (hlm _ (bs.length + 2) d _ kpS.ro s2 (within_up kpS.1 hym.within)) ?_
    rintro ym b1 ⟨rfl,rfl⟩
    obtain ⟨E1,hE1⟩ : ∃ E1,E1 = listE (ctrlE (alsoE 0 j) j) j ([118,101,114,105,102,105,99,97,116,105,111,110,77,101,116,104,111,100] : List UInt8) := ⟨_,rfl⟩
    rw [← hE1]
    have dS : DI bs S v d _ _ := ⟨kpS,s0,s1,s2,s3⟩
    have dT := dS.setE E1
    have hxaT := hxaS.ro (dS.roE (.cells (dec d E1) 62 true))
    have hxcT := hxcS.ro (dS.roE (.cells (dec d E1) 62 true))
    generalize S.set (bs.length + 2) (.cells (dec d E1) 62 true) = T at dT hxaT hxcT
    clear s0 s1 s2 s3 kpS hxaS hxcS dS
    simp only [lawG,↓Xn,↓Xo,↓Xg,↓Xd,↓Xe,↓Xf,Tryz.VΓ,Tryz.Γs,Xp,Xi,Nat.reduceAdd,Nat.reduceSub,Nat.reduceLT,Nat.reduceLeDiff,reduceIte,reduceCtorEq,Nat.reduceEqDiff,implies_true,forall_const,lawV,lawA,beq_self_eq_true,bne_self_eq_false,Int.reduceBEq,Int.reduceBNe,Int.reduceLT,Int.reduceLE,hyml]
    obtain ⟨LM,hLM⟩ : ∃ LM,LM = listL j ([118,101,114,105,102,105,99,97,116,105,111,110,77,101,116,104,111,100] : List UInt8) := ⟨_,rfl⟩
    rw [← hLM] at hLm hLml hm64
    refine loopV_mk (fun σ => ∃ (k : Nat) (xm : SV),k ≤ Lm.length ∧ lk 1 σ.t = some (.p bs.length 0) ∧ lk 2 σ.t = some (.p (bs.length + 1) 0) ∧ lk 4 σ.t = some (.p (bs.length + 2) 0) ∧ lk 5 σ.t = some (.p (bs.length + 3) 0) ∧ lk 52 σ.t = some ym ∧ lk 53 σ.t = some (.int .i64 Lm.length) ∧ lk 54 σ.t = some (.int .i64 k) ∧
      DI bs σ.b v d (foldE (methE d) E1 (LM.take k)) [.str (didText d),xa,xc,xm,.nils] ∧ Rs σ.b xa (alsoL j) ∧ Rs σ.b xc (ctrlL j) ∧
      ((xm = .nils ∧ k = 0) ∨ ∃ q,0 < k ∧ xm = .o q k ∧ bs.length + 3 < q ∧ σ.b[q]? = some (.own (((LM.take k).map (methM d)).flatMap mc) 48 3 k true))) (fun σ => Lm.length - lkI 54 σ)
      ⟨0,.nils,by omega,rfl,rfl,rfl,rfl,rfl,rfl,rfl,dT,hxaT,hxcT,.inl ⟨rfl,rfl⟩⟩ ?_
    clear dT hxaT hxcT
    clear T
    rintro ⟨t,b⟩ ⟨k,xm,hk,l1,l2,l4,l5,l52,l53,l54,dT,hxaT,hxcT,hxm⟩
    simp only at l1 l2 l4 l5 l52 l53 l54 dT hxaT hxcT hxm
    rw [lkI_eq l54]
    have hxmo : one xm = true := by rcases hxm with ⟨rfl,-⟩ | ⟨q,-,rfl,-⟩ <;> rfl
    have hxaO := hxaT.one
    have hxcO := hxcT.one
    by_cases hlt : k < Lm.length
    · have hlt2 : decide ((k : Int) < Lm.length) = true := decide_eq_true (by omega)
      have hltL : k < LM.length := by omega
      rcases hym with ⟨-,hx0⟩ | ⟨i,rfl,hi⟩
      · rw [hx0] at hlt; exact absurd hlt (by simp)
      have hbi := dT.1.at hi
      have hu : List.take 4 (List.drop (k * 4) (Lm.flatMap tv)) = [.int .i64 Lm[k].k,.str Lm[k].t,Lm[k].xk,Lm[k].xi] := tv_at Lm k hlt
      have hul := tv_len Lm
      have hel := hLm.at k hltL hlt
      obtain ⟨u1,u2,u3,u4⟩ := hel.tin
      have hfo : foldE (methE d) E1 (LM.take (k + 1)) = methE d (foldE (methE d) E1 (LM.take k)) LM[k] := by
        unfold foldE; rw [List.take_succ_eq_append_getElem hltL,List.foldl_append]; rfl
      have hsn : ((LM.take (k + 1)).map (methM d)).flatMap mc = ((LM.take k).map (methM d)).flatMap mc ++ mc (methM d LM[k]) := by
        rw [List.take_succ_eq_append_getElem hltL,List.map_append,List.flatMap_append]; simp
      have huo : (one Lm[k].xk && one Lm[k].xi) = true := by rw [u3,u4]; rfl
      generalize Lm[k] = u at hu hel huo
      generalize LM[k] = ju at hel hfo hsn
      have hid := sc_dd_id (hel.ro (dT.1.ro.app [.cells (tv u) 25 true])) hfit (dT.app _).2.2.2.1
      unfold tv at hid
      simp only [lawG,↓Xn,↓Xo,↓Xg,↓Xd,↓Xe,↓Xf,Tryz.VΓ,Tryz.Γs,Xp,Xi,Nat.reduceAdd,Nat.reduceSub,Nat.reduceLT,Nat.reduceLeDiff,reduceIte,reduceCtorEq,Nat.reduceEqDiff,implies_true,forall_const,lawV,lawA,beq_self_eq_true,bne_self_eq_false,Int.reduceBEq,Int.reduceBNe,Int.reduceLT,Int.reduceLE,l1,l2,l4,l5,l52,l53,l54,hlt2,hbi,hu,huo]
      (repeat (refine ⟨by first | omega | (unfold maxLen; omega),?_⟩))
      refine callV_sc hid ?_
      rintro r b1 ⟨rfl,rfl⟩
      rw [app_setL (by have := dT.lt; omega)]
      have d1 := dT.setE (idE d (foldE (methE d) E1 (LM.take k)) ju)
      have ro1 := dT.roE (.cells (dec d (idE d (foldE (methE d) E1 (LM.take k)) ju)) 62 true)
      have hl1 : (b.set (bs.length + 2) (.cells (dec d (idE d (foldE (methE d) E1 (LM.take k)) ju)) 62 true)).length = b.length := List.length_set
      have hxm1 : (xm = .nils ∧ k = 0) ∨ ∃ q,0 < k ∧ xm = .o q k ∧ bs.length + 3 < q ∧ (b.set (bs.length + 2) (.cells (dec d (idE d (foldE (methE d) E1 (LM.take k)) ju)) 62 true))[q]? = some (.own (((LM.take k).map (methM d)).flatMap mc) 48 3 k true) := by
        rcases hxm with h | ⟨q,h0,h1,h2,h3⟩
        · exact .inl h
        · exact .inr ⟨q,h0,h1,h2,get_setN h3 (by omega) _⟩
      generalize b.set (bs.length + 2) (.cells (dec d (idE d (foldE (methE d) E1 (LM.take k)) ju)) 62 true) = b1 at d1 ro1 hl1 hxm1
      rw [← hl1]
      simp only [lawG,↓Xn,↓Xo,↓Xg,↓Xd,↓Xe,↓Xf,Tryz.VΓ,Tryz.Γs,Xp,Xi,Nat.reduceAdd,Nat.reduceSub,Nat.reduceLT,Nat.reduceLeDiff,reduceIte,reduceCtorEq,Nat.reduceEqDiff,implies_true,forall_const,lawV,lawA,beq_self_eq_true,bne_self_eq_false,Int.reduceBEq,Int.reduceBNe,Int.reduceLT,Int.reduceLE,l1,l2,l4,l5]
      have hm1 := sc_dd_member (hel.ro (d1.1.ro.app [.cells (tv u) 25 true,.cells [.str (idT d ju),.str [],.str []] 48 true])) ([116,121,112,101] : List UInt8) (d1.app _).2.2.2.1
      unfold tv at hm1
      refine callD_scw [(bs.length + 2,0,0)] hm1 (outs_set _ _ _) ?_
      rw [app_setL (by have := d1.lt; omega)]
      have d2 := d1.setE (textsE (idE d (foldE (methE d) E1 (LM.take k)) ju) [ju.at ([116,121,112,101] : List UInt8)])
      have ro2 := d1.roE (.cells (dec d (textsE (idE d (foldE (methE d) E1 (LM.take k)) ju) [ju.at ([116,121,112,101] : List UInt8)])) 62 true)
      have hl2 : (b1.set (bs.length + 2) (.cells (dec d (textsE (idE d (foldE (methE d) E1 (LM.take k)) ju) [ju.at ([116,121,112,101] : List UInt8)])) 62 true)).length = b1.length := List.length_set
      have hxm2 : (xm = .nils ∧ k = 0) ∨ ∃ q,0 < k ∧ xm = .o q k ∧ bs.length + 3 < q ∧ (b1.set (bs.length + 2) (.cells (dec d (textsE (idE d (foldE (methE d) E1 (LM.take k)) ju) [ju.at ([116,121,112,101] : List UInt8)])) 62 true))[q]? = some (.own (((LM.take k).map (methM d)).flatMap mc) 48 3 k true) := by
        rcases hxm1 with h | ⟨q,h0,h1,h2,h3⟩
        · exact .inl h
        · exact .inr ⟨q,h0,h1,h2,get_setN h3 (by omega) _⟩
      generalize b1.set (bs.length + 2) (.cells (dec d (textsE (idE d (foldE (methE d) E1 (LM.take k)) ju) [ju.at ([116,121,112,101] : List UInt8)])) 62 true) = b2 at d2 ro2 hl2 hxm2
      rw [← hl2]
      simp only [lawG,↓Xn,↓Xo,↓Xg,↓Xd,↓Xe,↓Xf,Tryz.VΓ,Tryz.Γs,Xp,Xi,Nat.reduceAdd,Nat.reduceSub,Nat.reduceLT,Nat.reduceLeDiff,reduceIte,reduceCtorEq,Nat.reduceEqDiff,implies_true,forall_const,lawV,lawA,beq_self_eq_true,bne_self_eq_false,Int.reduceBEq,Int.reduceBNe,Int.reduceLT,Int.reduceLE,l1,l2,l4,l5]
      have hm2 := sc_dd_member (hel.ro (d2.1.ro.app [.cells (tv u) 25 true,.cells [.str (idT d ju),.str [],.str []] 48 true])) ([99,111,110,116,114,111,108,108,101,114] : List UInt8) (d2.app _).2.2.2.1
      unfold tv at hm2
      refine callD_scw [(bs.length + 2,0,0)] hm2 (outs_set _ _ _) ?_
      rw [app_setL (by have := d2.lt; omega)]
      have d3 := d2.setE (textsE (textsE (idE d (foldE (methE d) E1 (LM.take k)) ju) [ju.at ([116,121,112,101] : List UInt8)]) [ju.at ([99,111,110,116,114,111,108,108,101,114] : List UInt8)])
      have ro3 := d2.roE (.cells (dec d (textsE (textsE (idE d (foldE (methE d) E1 (LM.take k)) ju) [ju.at ([116,121,112,101] : List UInt8)]) [ju.at ([99,111,110,116,114,111,108,108,101,114] : List UInt8)])) 62 true)
      have hl3 : (b2.set (bs.length + 2) (.cells (dec d (textsE (textsE (idE d (foldE (methE d) E1 (LM.take k)) ju) [ju.at ([116,121,112,101] : List UInt8)]) [ju.at ([99,111,110,116,114,111,108,108,101,114] : List UInt8)])) 62 true)).length = b2.length := List.length_set
      have hxm3 : (xm = .nils ∧ k = 0) ∨ ∃ q,0 < k ∧ xm = .o q k ∧ bs.length + 3 < q ∧ (b2.set (bs.length + 2) (.cells (dec d (textsE (textsE (idE d (foldE (methE d) E1 (LM.take k)) ju) [ju.at ([116,121,112,101] : List UInt8)]) [ju.at ([99,111,110,116,114,111,108,108,101,114] : List UInt8)])) 62 true))[q]? = some (.own (((LM.take k).map (methM d)).flatMap mc) 48 3 k true) := by
        rcases hxm2 with h | ⟨q,h0,h1,h2,h3⟩
        · exact .inl h
        · exact .inr ⟨q,h0,h1,h2,get_setN h3 (by omega) _⟩
      generalize b2.set (bs.length + 2) (.cells (dec d (textsE (textsE (idE d (foldE (methE d) E1 (LM.take k)) ju) [ju.at ([116,121,112,101] : List UInt8)]) [ju.at ([99,111,110,116,114,111,108,108,101,114] : List UInt8)])) 62 true) = b3 at d3 ro3 hl3 hxm3
      rw [← hl3]
      have z1 : (b3.length = bs.length + 2) = False := eq_false (by have := d3.lt; omega)
      have z2 : (b3.length + 1 = bs.length + 2) = False := eq_false (by have := d3.lt; omega)
      have g3 := d3.2.2.2.2
      have g3l := (List.getElem?_eq_some_iff.1 g3).1
      have hs3 : ∀ (l : List Res) X,(b3 ++ l).set (bs.length + 3) X = b3.set (bs.length + 3) X ++ l := fun l X => app_setL g3l l X
      have ro3 := ((ro1.trans ro2).trans ro3)
      rcases hxm3 with ⟨rfl,rfl⟩ | ⟨q,hk0,rfl,hq,hbq⟩
      · simp only [lawG,↓Xn,↓Xo,↓Xg,↓Xd,↓Xe,↓Xf,Tryz.VΓ,Tryz.Γs,Xp,Xi,Nat.reduceAdd,Nat.reduceSub,Nat.reduceLT,Nat.reduceLeDiff,reduceIte,reduceCtorEq,Nat.reduceEqDiff,implies_true,forall_const,lawV,lawA,beq_self_eq_true,bne_self_eq_false,Int.reduceBEq,Int.reduceBNe,Int.reduceLT,Int.reduceLE,l1,l2,l4,l5,l52,l53,l54,at_old g3,hxaO,hxcO,hs3]
        refine ⟨?_,?_⟩
        · refine OkD_ren (fun q => if q = bs.length + 2 then 0 else q - b3.length + 1) ?_
          simp only [List.map_cons,List.map_nil,renRk,renT,Nat.add_sub_cancel_left,Nat.sub_self,z1,z2,if_true,if_false]
          exact OkD_fast (by kernel_rfl)
        (repeat (refine ⟨by first | omega | (unfold maxLen; omega),?_⟩))
        have hrr := ro3.trans ((d3.roD (.cells [.str (didText d),xa,xc,.o (b3.length + 3) 1,.nils] 34 true)).app [.cells [.int .i64 u.k,.str u.t,u.xk,u.xi] 25 true,.cells [.str (idT d ju),.str (ju.at ([116,121,112,101] : List UInt8)).t,.str (ju.at ([99,111,110,116,114,111,108,108,101,114] : List UInt8)).t] 48 true,.own [.str (idT d ju),.str (ju.at ([116,121,112,101] : List UInt8)).t,.str (ju.at ([99,111,110,116,114,111,108,108,101,114] : List UInt8)).t] 48 3 1 true,.own [.str (idT d ju),.str (ju.at ([116,121,112,101] : List UInt8)).t,.str (ju.at ([99,111,110,116,114,111,108,108,101,114] : List UInt8)).t] 48 3 1 true])
        refine ⟨⟨1,_,by omega,rfl,by rw [hfo]; exact (d3.setD _).app _,hxaT.ro hrr,hxcT.ro hrr,.inr ⟨_,by omega,rfl,by have := d3.lt; omega,?_⟩⟩,?_⟩
        · rw [app_atL (by simp),hsn]; rfl
        · rw [lkI_eq (show lk 54 _ = some (.int .i64 ((1 : Nat) : Int)) from rfl)]; omega
      · have hql := (List.getElem?_eq_some_iff.1 hbq).1
        have hsq : ∀ (l : List Res) X,(b3 ++ l).set q X = b3.set q X ++ l := fun l X => app_setL hql l X
        have hs4 : ∀ (l : List Res) Y X,(b3.set q Y ++ l).set (bs.length + 3) X = (b3.set q Y).set (bs.length + 3) X ++ l := fun l Y X => app_setL (by simpa using g3l) l X
        have g4 := fun Y => at_old (get_setN g3 (show q ≠ bs.length + 3 by omega) Y)
        simp only [lawG,↓Xn,↓Xo,↓Xg,↓Xd,↓Xe,↓Xf,Tryz.VΓ,Tryz.Γs,Xp,Xi,Nat.reduceAdd,Nat.reduceSub,Nat.reduceLT,Nat.reduceLeDiff,reduceIte,reduceCtorEq,Nat.reduceEqDiff,implies_true,forall_const,lawV,lawA,beq_self_eq_true,bne_self_eq_false,Int.reduceBEq,Int.reduceBNe,Int.reduceLT,Int.reduceLE,l1,l2,l4,l5,l52,l53,l54,at_old g3,at_old hbq,g4,hsq,hxaO,hxcO,hs3,hs4]
        refine ⟨?_,?_⟩
        · refine OkD_ren (fun q => if q = bs.length + 2 then 0 else q - b3.length + 1) ?_
          simp only [List.map_cons,List.map_nil,renRk,renT,Nat.add_sub_cancel_left,Nat.sub_self,z1,z2,if_true,if_false]
          exact OkD_fast (by kernel_rfl)
        (repeat (refine ⟨by first | omega | (unfold maxLen; omega),?_⟩))
        have d4 := d3.setQ hq .gone
        have hrr := ro3.trans ((((Ro.refl b3).setT hbq .gone).trans (d4.roD (.cells [.str (didText d),xa,xc,.o (b3.length + 3) (k + 1),.nils] 34 true))).app [.cells [.int .i64 u.k,.str u.t,u.xk,u.xi] 25 true,.cells [.str (idT d ju),.str (ju.at ([116,121,112,101] : List UInt8)).t,.str (ju.at ([99,111,110,116,114,111,108,108,101,114] : List UInt8)).t] 48 true,.own [.str (idT d ju),.str (ju.at ([116,121,112,101] : List UInt8)).t,.str (ju.at ([99,111,110,116,114,111,108,108,101,114] : List UInt8)).t] 48 3 1 true,.own ((((LM.take k).map (methM d)).flatMap mc) ++ [.str (idT d ju),.str (ju.at ([116,121,112,101] : List UInt8)).t,.str (ju.at ([99,111,110,116,114,111,108,108,101,114] : List UInt8)).t]) 48 3 (k + 1) true])
        refine ⟨⟨k + 1,_,by omega,rfl,by rw [hfo]; exact (d4.setD _).app _,hxaT.ro hrr,hxcT.ro hrr,.inr ⟨_,by omega,rfl,by have := d3.lt; omega,?_⟩⟩,?_⟩
        · rw [app_atL (by simp),hsn]; rfl
        · rw [lkI_eq (show lk 54 _ = some (.int .i64 ((k + 1 : Nat) : Int)) from rfl)]; omega
    · have hlt2 : decide ((k : Int) < Lm.length) = false := decide_eq_false (by omega)
      have hkl : LM.take k = LM := List.take_of_length_le (by omega)
      rw [hkl] at dT hxm
      simp only [lawG,↓Xn,↓Xo,↓Xg,↓Xd,↓Xe,↓Xf,Tryz.VΓ,Tryz.Γs,Xp,Xi,Nat.reduceAdd,Nat.reduceSub,Nat.reduceLT,Nat.reduceLeDiff,reduceIte,reduceCtorEq,Nat.reduceEqDiff,implies_true,forall_const,lawV,lawA,beq_self_eq_true,bne_self_eq_false,Int.reduceBEq,Int.reduceBNe,Int.reduceLT,Int.reduceLE,l1,l2,l4,l5,l52,l53,l54,hlt2,dT.2.1,ho]
      refine callV_sc (hls _ (bs.length + 2) d _ dT.1.ro dT.2.2.2.1 (within_up dT.1.1 hys.within)) ?_
      rintro ys b1 ⟨rfl,rfl⟩
      obtain ⟨E2,hE2⟩ : ∃ E2,E2 = listE (foldE (methE d) E1 LM) j ([115,101,114,118,105,99,101] : List UInt8) := ⟨_,rfl⟩
      rw [← hE2]
      have dU := dT.setE E2
      have hxaU := hxaT.ro (dT.roE (.cells (dec d E2) 62 true))
      have hxcU := hxcT.ro (dT.roE (.cells (dec d E2) 62 true))
      have hlU : (b.set (bs.length + 2) (.cells (dec d E2) 62 true)).length = b.length := List.length_set
      have hxmU : (xm = .nils ∧ LM = []) ∨ ∃ q,0 < LM.length ∧ xm = .o q LM.length ∧ bs.length + 3 < q ∧ q < b.length ∧ (b.set (bs.length + 2) (.cells (dec d E2) 62 true))[q]? = some (.own ((LM.map (methM d)).flatMap mc) 48 3 LM.length true) := by
        rcases hxm with ⟨h1,h2⟩ | ⟨q,h0,h1,h2,h3⟩
        · exact .inl ⟨h1,List.length_eq_zero_iff.1 (by omega)⟩
        · obtain rfl : k = LM.length := by omega
          exact .inr ⟨q,h0,h1,h2,(List.getElem?_eq_some_iff.1 h3).1,get_setN h3 (by omega) _⟩
      generalize b.set (bs.length + 2) (.cells (dec d E2) 62 true) = U at dU hxaU hxcU hlU hxmU
      obtain ⟨N,hN⟩ : ∃ N,N = b.length := ⟨_,rfl⟩
      rw [← hN] at hxmU hlU
      obtain ⟨LS,hLS⟩ : ∃ LS,LS = listL j ([115,101,114,118,105,99,101] : List UInt8) := ⟨_,rfl⟩
      rw [← hLS] at hLv hLvl hv64
      clear dT hxaT hxcT hxm
      simp only [lawG,↓Xn,↓Xo,↓Xg,↓Xd,↓Xe,↓Xf,Tryz.VΓ,Tryz.Γs,Xp,Xi,Nat.reduceAdd,Nat.reduceSub,Nat.reduceLT,Nat.reduceLeDiff,reduceIte,reduceCtorEq,Nat.reduceEqDiff,implies_true,forall_const,lawV,lawA,beq_self_eq_true,bne_self_eq_false,Int.reduceBEq,Int.reduceBNe,Int.reduceLT,Int.reduceLE,l1,l2,l4,l5,hysl]
      refine loopV_mk (fun σ => ∃ (k : Nat) (xs : SV) (Q : List Sq),k ≤ Lv.length ∧ lk 1 σ.t = some (.p bs.length 0) ∧ lk 2 σ.t = some (.p (bs.length + 1) 0) ∧ lk 4 σ.t = some (.p (bs.length + 2) 0) ∧ lk 5 σ.t = some (.p (bs.length + 3) 0) ∧ lk 75 σ.t = some ys ∧ lk 76 σ.t = some (.int .i64 Lv.length) ∧ lk 77 σ.t = some (.int .i64 k) ∧
        DI bs σ.b v d (foldE (servE d) E2 (LS.take k)) [.str (didText d),xa,xc,xm,xs] ∧ Rs σ.b xa (alsoL j) ∧ Rs σ.b xc (ctrlL j) ∧ N ≤ σ.b.length ∧
        ((xm = .nils ∧ LM = []) ∨ ∃ q,0 < LM.length ∧ xm = .o q LM.length ∧ bs.length + 3 < q ∧ q < N ∧ σ.b[q]? = some (.own ((LM.map (methM d)).flatMap mc) 48 3 LM.length true)) ∧
        Q.map Sq.m = (LS.take k).map (servM d) ∧ (∀ q ∈ Q,SqOk σ.b q) ∧
        ((xs = .nils ∧ k = 0) ∨ ∃ q,0 < k ∧ xs = .o q k ∧ N ≤ q ∧ σ.b[q]? = some (.own (Q.flatMap sqc) 46 3 k true))) (fun σ => Lv.length - lkI 77 σ)
        ⟨0,.nils,[],by omega,by assumption,by assumption,by assumption,by assumption,rfl,rfl,rfl,dU,hxaU,hxcU,Nat.le_of_eq hlU.symm,hxmU,rfl,by simp,.inl ⟨rfl,rfl⟩⟩ ?_
      have hNn : bs.length + 3 < N := by have := dU.lt; omega
      clear dU hxaU hxcU hlU hxmU l1 l2 l4 l5 l52 l53 l54 hN
      clear U
      rintro ⟨t,b⟩ ⟨k,xs,Q,hk,l1,l2,l4,l5,l75,l76,l77,dT,hxaT,hxcT,hNb,hxm,hQm,hQ,hxs⟩
      simp only at l1 l2 l4 l5 l75 l76 l77 dT hxaT hxcT hNb hxm hQ hxs
      rw [lkI_eq l77]
      have hxaO := hxaT.one
      have hxcO := hxcT.one
      have hxmO : one xm = true := by rcases hxm with ⟨rfl,-⟩ | ⟨q,-,rfl,-⟩ <;> rfl
      have hxsO : one xs = true := by rcases hxs with ⟨rfl,-⟩ | ⟨q,-,rfl,-⟩ <;> rfl
      by_cases hlt : k < Lv.length
      · have hlt2 : decide ((k : Int) < Lv.length) = true := decide_eq_true (by omega)
        have hltL : k < LS.length := by omega
        rcases hys with ⟨-,hx0⟩ | ⟨i,rfl,hi⟩
        · rw [hx0] at hlt; exact absurd hlt (by simp)
        have hbi := dT.1.at hi
        have hu : List.take 4 (List.drop (k * 4) (Lv.flatMap tv)) = [.int .i64 Lv[k].k,.str Lv[k].t,Lv[k].xk,Lv[k].xi] := tv_at Lv k hlt
        have hul := tv_len Lv
        have hel := hLv.at k hltL hlt
        obtain ⟨u1,u2,u3,u4⟩ := hel.tin
        have hfo : foldE (servE d) E2 (LS.take (k + 1)) = servE d (foldE (servE d) E2 (LS.take k)) LS[k] := by
          unfold foldE; rw [List.take_succ_eq_append_getElem hltL,List.foldl_append]; rfl
        have hsn : (LS.take (k + 1)).map (servM d) = (LS.take k).map (servM d) ++ [servM d LS[k]] := by
          rw [List.take_succ_eq_append_getElem hltL,List.map_append]; rfl
        have huo : (one Lv[k].xk && one Lv[k].xi) = true := by rw [u3,u4]; rfl
        generalize Lv[k] = u at hu hel huo
        generalize LS[k] = ju at hel hfo hsn
        have hsv := sc_dd_service (hel.ro (dT.1.ro.app [.cells (tv u) 25 true])) hfit (dT.app _).2.2.2.1
        unfold tv at hsv
        have g3 := dT.2.2.2.2
        simp only [lawG,↓Xn,↓Xo,↓Xg,↓Xd,↓Xe,↓Xf,Tryz.VΓ,Tryz.Γs,Xp,Xi,Nat.reduceAdd,Nat.reduceSub,Nat.reduceLT,Nat.reduceLeDiff,reduceIte,reduceCtorEq,Nat.reduceEqDiff,implies_true,forall_const,lawV,lawA,beq_self_eq_true,bne_self_eq_false,Int.reduceBEq,Int.reduceBNe,Int.reduceLT,Int.reduceLE,l1,l2,l4,l5,l75,l76,l77,hlt2,hbi,hu,huo,at_old g3]
        (repeat (refine ⟨by first | omega | (unfold maxLen; omega),?_⟩))
        refine callD_scw [(bs.length + 2,0,0),(b.length + 1,0,0),(b.length + 2,0,0)] hsv (outs_set2 (by simp) (by simp) _ _ _) ?_
        rw [app_setL (by have := dT.lt; omega),List.append_assoc]
        have d1 := dT.setE (servE d (foldE (servE d) E2 (LS.take k)) ju)
        have ro1 := dT.roE (.cells (dec d (servE d (foldE (servE d) E2 (LS.take k)) ju)) 62 true)
        have hl1 : (b.set (bs.length + 2) (.cells (dec d (servE d (foldE (servE d) E2 (LS.take k)) ju)) 62 true)).length = b.length := List.length_set
        have hxs1 : (xs = .nils ∧ k = 0) ∨ ∃ q,0 < k ∧ xs = .o q k ∧ N ≤ q ∧ (b.set (bs.length + 2) (.cells (dec d (servE d (foldE (servE d) E2 (LS.take k)) ju)) 62 true))[q]? = some (.own (Q.flatMap sqc) 46 3 k true) := by
          rcases hxs with h | ⟨q,h0,h1,h2,h3⟩
          · exact .inl h
          · exact .inr ⟨q,h0,h1,h2,get_setN h3 (by omega) _⟩
        have hxm1 : (xm = .nils ∧ LM = []) ∨ ∃ q,0 < LM.length ∧ xm = .o q LM.length ∧ bs.length + 3 < q ∧ q < N ∧ (b.set (bs.length + 2) (.cells (dec d (servE d (foldE (servE d) E2 (LS.take k)) ju)) 62 true))[q]? = some (.own ((LM.map (methM d)).flatMap mc) 48 3 LM.length true) := by
          rcases hxm with h | ⟨q,h0,h1,h2,h3,h4⟩
          · exact .inl h
          · exact .inr ⟨q,h0,h1,h2,h3,get_setN h4 (by omega) _⟩
        generalize b.set (bs.length + 2) (.cells (dec d (servE d (foldE (servE d) E2 (LS.take k)) ju)) 62 true) = b1 at d1 ro1 hl1 hxs1 hxm1
        have g3 := d1.2.2.2.2
        have g3l := (List.getElem?_eq_some_iff.1 g3).1
        have hs3 : ∀ (l : List Res) X,(b1 ++ l).set (bs.length + 3) X = b1.set (bs.length + 3) X ++ l := fun l X => app_setL g3l l X
        have c1 := canS_one (b.length + 1) (servM d ju).types
        have c2 := canS_one (b.length + 2) (servM d ju).ends
        simp only [List.length_append,List.length_cons,List.length_nil,Nat.add_assoc]
        rw [← hl1] at c1 c2 ⊢
        have hdl := d1.lt
        have z0 : (bs.length + 3 = bs.length + 2) = False := eq_false (by omega)
        have z1 : ∀ i,(b1.length + i = bs.length + 2) = False := fun i => eq_false (by omega)
        have z2 : ∀ i,(b1.length + i = bs.length + 3) = False := fun i => eq_false (by omega)
        have z3 : (b1.length = bs.length + 2) = False := z1 0
        have z4 : (b1.length = bs.length + 3) = False := z2 0
        rcases hxs1 with ⟨rfl,rfl⟩ | ⟨q,hk0,rfl,hq,hbq⟩
        · obtain rfl : Q = [] := List.map_eq_nil_iff.1 (by rw [hQm]; simp)
          simp only [lawG,↓Xn,↓Xo,↓Xg,↓Xd,↓Xe,↓Xf,Tryz.VΓ,Tryz.Γs,Xp,Xi,Nat.reduceAdd,Nat.reduceSub,Nat.reduceLT,Nat.reduceLeDiff,reduceIte,reduceCtorEq,Nat.reduceEqDiff,implies_true,forall_const,lawV,lawA,beq_self_eq_true,bne_self_eq_false,Int.reduceBEq,Int.reduceBNe,Int.reduceLT,Int.reduceLE,l1,l2,l4,l5,l75,l76,l77,at_old g3,hxaO,hxcO,hxmO,hs3,c1,c2]
          (repeat (refine ⟨by first | omega | (unfold maxLen; omega),?_⟩))
          refine ⟨?_,?_⟩
          · refine OkD_ren (fun x => if x = bs.length + 2 then 0 else if x = bs.length + 3 then 1 else x - b1.length + 3) ?_
            simp only [List.map_cons,List.map_nil,renRk,renT,Nat.add_sub_cancel_left,Nat.sub_self,z0,z1,z2,z3,z4,if_true,if_false]
            exact OkD_fast (by kernel_rfl)
          (repeat (refine ⟨by first | omega | (unfold maxLen; omega),?_⟩))
          have hrr := ro1.trans ((d1.roD (.cells [.str (didText d),xa,xc,xm,.o (b1.length + 4) 1] 34 true)).app [.cells [.int .i64 u.k,.str u.t,u.xk,u.xi] 25 true,canR (servM d ju).types,canR (servM d ju).ends,.own [.str (servM d ju).id,canS (b1.length + 1) (servM d ju).types,canS (b1.length + 2) (servM d ju).ends] 46 3 1 true,.own [.str (servM d ju).id,canS (b1.length + 1) (servM d ju).types,canS (b1.length + 2) (servM d ju).ends] 46 3 1 true])
          refine ⟨⟨1,_,[⟨servM d ju,canS (b1.length + 1) (servM d ju).types,canS (b1.length + 2) (servM d ju).ends⟩],by omega,rfl,by rw [hfo]; exact (d1.setD _).app _,hxaT.ro hrr,hxcT.ro hrr,by simp; omega,?_,by rw [hsn]; simp,?_,.inr ⟨_,by omega,rfl,by omega,?_⟩⟩,?_⟩
          · rcases hxm1 with h | ⟨q,h0,h1,h2,h3,h4⟩
            · exact .inl h
            · exact .inr ⟨q,h0,h1,h2,h3,at_old (get_setN h4 (by omega) _) _⟩
          · intro x hx
            rw [List.mem_singleton.1 hx]
            exact ⟨canS_rs (by rw [app_atL (by simp)]; rfl),canS_rs (by rw [app_atL (by simp)]; rfl)⟩
          · rw [app_atL (by simp)]; rfl
          · rw [lkI_eq (show lk 77 _ = some (.int .i64 ((1 : Nat) : Int)) from rfl)]; omega
        · have hql := (List.getElem?_eq_some_iff.1 hbq).1
          have hsq : ∀ (l : List Res) X,(b1 ++ l).set q X = b1.set q X ++ l := fun l X => app_setL hql l X
          have hs4 : ∀ (l : List Res) Y X,(b1.set q Y ++ l).set (bs.length + 3) X = (b1.set q Y).set (bs.length + 3) X ++ l := fun l Y X => app_setL (by simpa using g3l) l X
          have g4 := fun Y => at_old (get_setN g3 (show q ≠ bs.length + 3 by omega) Y)
          simp only [lawG,↓Xn,↓Xo,↓Xg,↓Xd,↓Xe,↓Xf,Tryz.VΓ,Tryz.Γs,Xp,Xi,Nat.reduceAdd,Nat.reduceSub,Nat.reduceLT,Nat.reduceLeDiff,reduceIte,reduceCtorEq,Nat.reduceEqDiff,implies_true,forall_const,lawV,lawA,beq_self_eq_true,bne_self_eq_false,Int.reduceBEq,Int.reduceBNe,Int.reduceLT,Int.reduceLE,l1,l2,l4,l5,l75,l76,l77,at_old g3,at_old hbq,g4,hsq,hxaO,hxcO,hxmO,hs3,hs4,c1,c2]
          (repeat (refine ⟨by first | omega | (unfold maxLen; omega),?_⟩))
          have z5 : ∀ i,(b1.length + i = q) = False := fun i => eq_false (by omega)
          have z6 : (b1.length = q) = False := z5 0
          have z7 : (q = bs.length + 2) = False := eq_false (by omega)
          have z8 : (q = bs.length + 3) = False := eq_false (by omega)
          have z9 : (bs.length + 3 = q) = False := eq_false (by omega)
          refine ⟨?_,?_⟩
          · refine OkD_ren (fun x => if x = bs.length + 2 then 0 else if x = bs.length + 3 then 1 else if x = q then 2 else x - b1.length + 3) ?_
            simp only [List.map_cons,List.map_nil,renRk,renT,Nat.add_sub_cancel_left,Nat.sub_self,z0,z1,z2,z3,z4,z5,z6,z7,z8,z9,if_true,if_false]
            exact OkD_fast (by kernel_rfl)
          (repeat (refine ⟨by first | omega | (unfold maxLen; omega),?_⟩))
          have d4 := d1.setQ (show bs.length + 3 < q by omega) .gone
          have hrr := ro1.trans ((((Ro.refl b1).setT hbq .gone).trans (d4.roD (.cells [.str (didText d),xa,xc,xm,.o (b1.length + 4) (k + 1)] 34 true))).app [.cells [.int .i64 u.k,.str u.t,u.xk,u.xi] 25 true,canR (servM d ju).types,canR (servM d ju).ends,.own [.str (servM d ju).id,canS (b1.length + 1) (servM d ju).types,canS (b1.length + 2) (servM d ju).ends] 46 3 1 true,.own (Q.flatMap sqc ++ [.str (servM d ju).id,canS (b1.length + 1) (servM d ju).types,canS (b1.length + 2) (servM d ju).ends]) 46 3 (k + 1) true])
          refine ⟨⟨k + 1,_,Q ++ [⟨servM d ju,canS (b1.length + 1) (servM d ju).types,canS (b1.length + 2) (servM d ju).ends⟩],by omega,rfl,by rw [hfo]; exact (d4.setD _).app _,hxaT.ro hrr,hxcT.ro hrr,by simp; omega,?_,by rw [hsn,List.map_append,hQm]; rfl,?_,.inr ⟨_,by omega,rfl,by omega,?_⟩⟩,?_⟩
          · rcases hxm1 with h | ⟨q',h0,h1,h2,h3,h4⟩
            · exact .inl h
            · exact .inr ⟨q',h0,h1,h2,h3,at_old (get_setN (get_setN h4 (by omega) _) (by omega) _) _⟩
          · intro x hx
            rcases List.mem_append.1 hx with hx | hx
            · exact (hQ x hx).ro hrr
            · rw [List.mem_singleton.1 hx]
              exact ⟨canS_rs (by rw [app_atL (by simp)]; rfl),canS_rs (by rw [app_atL (by simp)]; rfl)⟩
          · rw [app_atL (by simp),rows_snoc]; rfl
          · rw [lkI_eq (show lk 77 _ = some (.int .i64 ((k + 1 : Nat) : Int)) from rfl)]; omega
      · have hlt2 : decide ((k : Int) < Lv.length) = false := decide_eq_false (by omega)
        have hkl : LS.take k = LS := List.take_of_length_le (by omega)
        rw [hkl] at dT hQm
        have g2 := dT.2.2.2.1
        unfold dec at g2
        have hEE : foldE (servE d) E2 LS = docE d j := by rw [hLS,hE2,hLM,hE1]; rfl
        rw [hEE] at g2 dT
        have g1l := (List.getElem?_eq_some_iff.1 dT.2.2.1).1
        have hs1 : ∀ X,(b.set (bs.length + 1) X)[bs.length + 1]? = some X := fun X => List.getElem?_set_self g1l
        have hs2 := fun X => get_setN g2 (show bs.length + 1 ≠ bs.length + 2 by omega) X
        by_cases hz : docE d j = 0
        · have hb : (docE d j != 0) = false := by rw [hz]; rfl
          simp only [lawG,↓Xn,↓Xo,↓Xg,↓Xd,↓Xe,↓Xf,Tryz.VΓ,Tryz.Γs,Xp,Xi,Nat.reduceAdd,Nat.reduceSub,Nat.reduceLT,Nat.reduceLeDiff,reduceIte,reduceCtorEq,Nat.reduceEqDiff,implies_true,forall_const,lawV,lawA,beq_self_eq_true,bne_self_eq_false,Int.reduceBEq,Int.reduceBNe,Int.reduceLT,Int.reduceLE,l1,l2,l4,l5,l75,l76,l77,hlt2,g2,dT.2.2.1,dT.2.2.2.2,hb,hxaO,hxcO,hxmO,hxsO,hs1]
          rw [hdoc,if_pos hz]
          have hle : bs.length ≤ (b.set (bs.length + 1) (.cells [.str (didText d),xa,xc,xm,xs] 34 true)).length := by rw [List.length_set]; exact dT.1.1
          have hrr := (ro_box dT.2.2.1 (.cells [.str (didText d),xa,xc,xm,xs] 34 true)).trans (dimB_dim hle).ro
          refine ⟨hle,_,rfl,(dT.1.set (by omega) _).dimB,xa,xc,xm,xs,Q,rfl,hxaT.ro hrr,hxcT.ro hrr,?_,?_,fun q hq => (hQ q hq).ro hrr,by rw [hQm,hLS]; rfl⟩
          · rcases hxm with ⟨rfl,h2⟩ | ⟨q,h0,rfl,h2,h3,h4⟩
            · exact .inl ⟨rfl,by show (listL j ([118,101,114,105,102,105,99,97,116,105,111,110,77,101,116,104,111,100] : List UInt8)).map (methM d) = []; rw [← hLM,h2]; rfl⟩
            · refine .inr ⟨q,by show _ = SV.o q ((listL j ([118,101,114,105,102,105,99,97,116,105,111,110,77,101,116,104,111,100] : List UInt8)).map (methM d)).length; rw [← hLM,List.length_map],?_⟩
              rw [dimB_at (by omega) (get_setN h4 (show bs.length + 1 ≠ q by omega) _)]
              have hml : (docM d j,(0 : Int)).1.methods.length = LM.length := by show ((listL j ([118,101,114,105,102,105,99,97,116,105,111,110,77,101,116,104,111,100] : List UInt8)).map (methM d)).length = _; rw [← hLM,List.length_map]
              show _ = some (Res.own (((listL j ([118,101,114,105,102,105,99,97,116,105,111,110,77,101,116,104,111,100] : List UInt8)).map (methM d)).flatMap mc) _ _ _ _)
              rw [← hLM,hml]; rfl
          · have hQl : Q.length = LS.length := by have := congrArg List.length hQm; simpa using this
            rcases hxs with ⟨rfl,h2⟩ | ⟨q,h0,rfl,h2,h3⟩
            · exact .inl ⟨rfl,List.length_eq_zero_iff.1 (by omega)⟩
            · obtain rfl : k = Q.length := by omega
              refine .inr ⟨q,rfl,?_⟩
              rw [dimB_at (by omega) (get_setN h3 (show bs.length + 1 ≠ q by omega) _)]
              rfl
        · have hb : (docE d j != 0) = true := bne_iff_ne.2 hz
          simp only [lawG,↓Xn,↓Xo,↓Xg,↓Xd,↓Xe,↓Xf,Tryz.VΓ,Tryz.Γs,Xp,Xi,Nat.reduceAdd,Nat.reduceSub,Nat.reduceLT,Nat.reduceLeDiff,reduceIte,reduceCtorEq,Nat.reduceEqDiff,implies_true,forall_const,lawV,lawA,beq_self_eq_true,bne_self_eq_false,Int.reduceBEq,Int.reduceBNe,Int.reduceLT,Int.reduceLE,l1,l2,l4,l5,l75,l76,l77,hlt2,g2,dT.2.2.1,dT.2.2.2.2,hb,hs1,hs2]
          rw [hdoc,if_neg hz]
          exact ⟨by (refine OkD_ren (fun n => n - bs.length) ?_; simp only [List.map_cons,List.map_nil,renRk,renT,Nat.add_sub_cancel_left,Nat.sub_self,if_true]; exact OkD_fast (by kernel_rfl)),by rw [List.length_set]; exact dT.1.1,_,rfl,(dT.1.set (by omega) _).dimB,DocR.none _⟩
end Go.Proofs.YtejfjmcjicpodaaGreatDoor
/- The walks of ref01.Same and ref17.Same at equal documents. -/
set_option linter.all false
set_option maxRecDepth 20000
namespace Go.Proofs.YtejfjmcjicpodaaGreatDoor
open Go Vc Go.RowKit Wf
set_option linter.unusedSimpArgs false
theorem mc_at (L : List Mtm) (k : Nat) (h : k < L.length) : ((L.flatMap mc).drop (k * 3)).take 3 = mc L[k] := rows_at mc 3 (fun _ => rfl) L k h
theorem mc_len (L : List Mtm) : (L.flatMap mc).length = L.length * 3 := rows_len mc 3 (fun _ => rfl) L
theorem sqc_at (L : List Sq) (k : Nat) (h : k < L.length) : ((L.flatMap sqc).drop (k * 3)).take 3 = sqc L[k] := rows_at sqc 3 (fun _ => rfl) L k h
theorem sqc_len (L : List Sq) : (L.flatMap sqc).length = L.length * 3 := rows_len sqc 3 (fun _ => rfl) L
theorem Rm.len {b : List Res} {x : SV} {L : List Mtm} (h : Rm b x L) (e : TypeId) : lenS (.slice e) x = some (.int .i64 L.length) := by
  rcases h with ⟨rfl,rfl⟩ | ⟨j,rfl,-⟩ <;> rfl
theorem Rq.len {b : List Res} {x : SV} {L : List Sq} (h : Rq b x L) (e : TypeId) : lenS (.slice e) x = some (.int .i64 L.length) := by
  rcases h with ⟨rfl,rfl⟩ | ⟨j,rfl,-⟩ <;> rfl
theorem Rm.within {b : List Res} {x : SV} {L : List Mtm} (h : Rm b x L) : Vc.within b.length x = true := by
  rcases h with ⟨rfl,-⟩ | ⟨j,rfl,h2⟩
  · rfl
  · have := (List.getElem?_eq_some_iff.1 h2).1
    simp [Vc.within,this]
theorem Rq.within {b : List Res} {x : SV} {L : List Sq} (h : Rq b x L) : Vc.within b.length x = true := by
  rcases h with ⟨rfl,-⟩ | ⟨j,rfl,h2⟩
  · rfl
  · have := (List.getElem?_eq_some_iff.1 h2).1
    simp [Vc.within,this]
end Go.Proofs.YtejfjmcjicpodaaGreatDoor
/- Calls with one outcome: where each call has one,the whole walk has one. -/
set_option linter.all false
namespace Vc
open Go Go.RowKit Wf
def SU (V : Cx) (f : FuncId) (args : List SV) (bs : List Res) (R : SV → List Res → Prop) : Prop := ∃ x b,R x b ∧ SC V f args bs (fun r b' => r = x ∧ b' = b)
section
variable {V : Cx} {f : FuncId} {args : List SV} {bs : List Res} {R R' : SV → List Res → Prop}
theorem SU.of {x : SV} {b : List Res} (h : SC V f args bs (fun r b' => r = x ∧ b' = b)) (k : R x b) : SU V f args bs R := ⟨x,b,k,h⟩
end
inductive DItem where
  | dops (ops : Array Oper) (l : List Oper) (rs : List Rk)
  | code (c : Code)
  | ops (ops : Array Oper) (l : List Oper)
  | endb (id : Nat)
  | dl (I : St → Prop) (μ : St → Nat) (m : Nat) (P : SV × List Res → St → Prop)
def base : List DItem → List Item
  | [] => []
  | .dops ops l rs :: k => .dops ops l rs :: base k
  | .code c :: k => .code c :: base k
  | .ops ops l :: k => .ops ops l :: base k
  | .endb id :: k => .endb id :: base k
  | .dl I μ m _ :: k => .endl I μ m :: base k
def inst (o : SV × List Res) : List DItem → List Item
  | [] => []
  | .dops ops l rs :: k => .dops ops l rs :: inst o k
  | .code c :: k => .code c :: inst o k
  | .ops ops l :: k => .ops ops l :: inst o k
  | .endb id :: k => .endb id :: inst o k
  | .dl _ μ m P :: k => .endl (P o) μ m :: inst o k
def okI (E : Fin) (D : List DItem) : Prop := ∀ I μ m P,DItem.dl I μ m P ∈ D → ∀ σ,I σ → μ σ < m → ∃ o : SV × List Res,E.K o.1 o.2 ∧ P o σ
def Eo (E : Fin) (o : SV × List Res) : Fin := ⟨E.rs,fun r b => r = o.1 ∧ b = o.2,E.how,E.uni⟩
inductive LeI : List Item → List Item → Prop where
  | nil : LeI [] []
  | same (i : Item) {k k' : List Item} (h : LeI k k') : LeI (i :: k) (i :: k')
  | endl {I I' : St → Prop} (μ : St → Nat) (m : Nat) {k k' : List Item} (hI : ∀ σ,I σ → I' σ) (h : LeI k k') : LeI (.endl I μ m :: k) (.endl I' μ m :: k')
theorem LeI.refl : ∀ k,LeI k k
  | [] => .nil
  | i :: k => .same i (LeI.refl k)
theorem LeI.exit {id : Nat} : ∀ {k k' q : List Item},LeI k k' → XE id k = some q → ∃ q',XE id k' = some q' ∧ LeI q q'
  | _,_,q,.nil,h => by simp [XE] at h
  | _,_,q,.same i h,e => by
    cases i
    case endb id' =>
      simp only [XE] at e ⊢
      split at e
      · cases e
        rename_i hh
        rw [if_pos hh]
        exact ⟨_,rfl,h⟩
      · rename_i hh
        rw [if_neg hh]
        exact LeI.exit h e
    all_goals
      simp only [XE] at e ⊢
      exact LeI.exit h e
  | _,_,q,.endl μ m hI h,e => by
    simp only [XE] at e ⊢
    exact LeI.exit h e
section
variable {V : Cx} {n : Nat}
theorem contV_map {E : Fin} {f : Nat} {ops : Array Oper} {r : List Oper} {k k' : List Item} (H : ∀ σ,vcS V n E f (.ops ops r :: k) σ → vcS V n E f (.ops ops r :: k') σ) {s : StepR} (h : Yc V n E f ops r k s) : Yc V n E f ops r k' s := by
  cases s <;> simp only [Yc] at h ⊢
  · exact ⟨h.1,H _ h.2⟩
  · unfold callV at h ⊢
    rcases h with ⟨x,h1,h2⟩ | ⟨R,h1,h3,h2⟩
    · exact .inl ⟨x,h1,H _ h2⟩
    · exact .inr ⟨R,h1,h3,fun x b hR => H _ (h2 x b hR)⟩
theorem contD_map {E : Fin} {f : Nat} {ops : Array Oper} {r : List Oper} {rs : List Rk} {k k' : List Item} (H : ∀ rs σ,vcS V n E f (.dops ops r rs :: k) σ → vcS V n E f (.dops ops r rs :: k') σ) {dst : Option Tmp} {σ : St} {s : StepD} (h : Yg V n E f ops r rs k dst σ s) : Yg V n E f ops r rs k' dst σ s := by
  cases s with
  | bad => simp only [Yg] at h
  | val c r =>
    obtain ⟨x,nb,all,rd,wr⟩ := r
    cases nb <;> simp only [Yg] at h ⊢ <;> exact ⟨h.1,H _ _ h.2⟩
  | call g args =>
    simp only [Yg] at h ⊢
    unfold callD at h ⊢
    rcases h with ⟨x,h1,h2⟩ | ⟨x,b,h1,h2⟩ | ⟨x,b,W,h1,h2,h3⟩
    · exact .inl ⟨x,h1,H _ _ h2⟩
    · exact .inr (.inl ⟨x,b,h1,H _ _ h2⟩)
    · exact .inr (.inr ⟨x,b,W,h1,h2,H _ _ h3⟩)
theorem vcS_le {E : Fin} : ∀ (f : Nat) {k k' : List Item} {σ : St},E.uni = true → LeI k k' → (∀ i ∈ k,(∃ J,i = .cut J) ∨ (∃ a b c,i = .aops a b c) → False) → vcS V n E f k σ → vcS V n E f k' σ
  | 0,k,k',σ,_,_,_,h => by cases k <;> simp [vcS] at h
  | f + 1,_,_,σ,_,.nil,_,h => h
  | f + 1,_,_,σ,_,.endl μ m hI hk,_,h => by
    simp only [vcS] at h ⊢
    exact ⟨hI _ h.1,h.2⟩
  | f + 1,_,_,σ,hu,.same (k := k) (k' := k') i hk,hno,h => by
    have hno' : ∀ i ∈ k,(∃ J,i = .cut J) ∨ (∃ a b c,i = .aops a b c) → False := fun i hi => hno i (List.mem_cons_of_mem _ hi)
    have H0 : ∀ σ,vcS V n E f k σ → vcS V n E f k' σ := fun σ h => vcS_le f hu hk hno' h
    have H1 : ∀ i σ,((∃ J,i = .cut J) ∨ (∃ a b c,i = .aops a b c) → False) → vcS V n E f (i :: k) σ → vcS V n E f (i :: k') σ := fun i σ hi h => vcS_le f hu (.same i hk) (by
      intro j hj
      rcases List.mem_cons.1 hj with rfl | hj
      · exact hi
      · exact hno' j hj) h
    have H2 : ∀ i j σ,((∃ J,i = .cut J) ∨ (∃ a b c,i = .aops a b c) → False) → ((∃ J,j = .cut J) ∨ (∃ a b c,j = .aops a b c) → False) → vcS V n E f (i :: j :: k) σ → vcS V n E f (i :: j :: k') σ := fun i j σ hi hj h => vcS_le f hu (.same i (.same j hk)) (by
      intro q hq
      rcases List.mem_cons.1 hq with rfl | hq
      · exact hi
      · rcases List.mem_cons.1 hq with rfl | hq
        · exact hj
        · exact hno' q hq) h
    cases i with
    | aops a b c => exact (hno _ List.mem_cons_self (.inr ⟨a,b,c,rfl⟩)).elim
    | cut J => exact (hno _ List.mem_cons_self (.inl ⟨J,rfl⟩)).elim
    | endb id => simp only [vcS] at h ⊢; exact H0 _ h
    | endl I μ m => simp only [vcS] at h ⊢; exact h
    | ops ops l =>
      match l with
      | [] => simp only [vcS] at h ⊢; exact H0 _ h
      | ⟨dst,op,ty,pos,after,none⟩ :: r =>
        simp only [vcS] at h ⊢
        exact ⟨h.1,contV_map (fun σ h => H1 _ _ (by rintro (⟨_,h⟩ | ⟨_,_,_,h⟩) <;> cases h) h) h.2⟩
      | ⟨dst,op,ty,pos,after,some (j,want)⟩ :: r =>
        simp only [vcS] at h ⊢
        refine ⟨h.1,?_⟩
        have h := h.2
        have HC : ∀ σ,vcS V n E f (.ops ops r :: k) σ → vcS V n E f (.ops ops r :: k') σ := fun σ h => H1 _ _ (by rintro (⟨_,h⟩ | ⟨_,_,_,h⟩) <;> cases h) h
        cases hg : Yk σ.t (gdst ops.toList j) with
        | some p =>
          obtain ⟨d,b⟩ := p
          rw [hg] at h
          simp only [XA,XG] at h ⊢
          exact ⟨h.1,fun e => contV_map HC (h.2.1 e),fun e => HC _ (h.2.2 e)⟩
        | none =>
          rw [hg] at h
          cases hgu : gvU σ.t (gdst ops.toList j) with
          | true => rw [hgu] at h; simp only [XA] at h ⊢; exact HC _ h
          | false => rw [hgu] at h; simp [XA] at h
    | dops ops l rs =>
      match l with
      | [] => simp only [vcS] at h ⊢; exact ⟨h.1,H0 _ h.2⟩
      | ⟨dst,op,ty,pos,after,none⟩ :: r =>
        simp only [vcS] at h ⊢
        exact ⟨h.1,contD_map (fun rs σ h => H1 _ _ (by rintro (⟨_,h⟩ | ⟨_,_,_,h⟩) <;> cases h) h) h.2⟩
      | ⟨dst,op,ty,pos,after,some (j,want)⟩ :: r =>
        simp only [vcS] at h ⊢
        refine ⟨h.1,?_⟩
        have h := h.2
        have HC : ∀ rs σ,vcS V n E f (.dops ops r rs :: k) σ → vcS V n E f (.dops ops r rs :: k') σ := fun rs σ h => H1 _ _ (by rintro (⟨_,h⟩ | ⟨_,_,_,h⟩) <;> cases h) h
        cases hg : Yk σ.t (gdst ops.toList j) with
        | some p =>
          obtain ⟨d,b⟩ := p
          rw [hg] at h
          simp only [Xy,XG] at h ⊢
          exact ⟨h.1,fun e => contD_map HC (h.2.1 e),fun e => HC _ _ (h.2.2 e)⟩
        | none =>
          rw [hg] at h
          cases hgu : gvU σ.t (gdst ops.toList j) with
          | true => rw [hgu] at h; simp only [Xy] at h ⊢; exact HC _ _ h
          | false => rw [hgu] at h; simp [Xy] at h
    | code c =>
      have nc : ∀ c : Code,((∃ J,Item.code c = .cut J) ∨ (∃ a b d,Item.code c = .aops a b d) → False) := by
        rintro c (⟨_,h⟩ | ⟨_,_,_,h⟩) <;> cases h
      cases c with
      | skip => simp only [vcS] at h ⊢; exact H0 _ h
      | region id ops draw =>
        cases draw
        · simp only [vcS] at h ⊢
          exact H1 _ _ (by rintro (⟨_,h⟩ | ⟨_,_,_,h⟩) <;> cases h) h
        · simp only [vcS] at h ⊢
          cases hw : E.how id with
          | all t => rw [hw] at h; simp only [regV,hu] at h; exact absurd h.1 (by simp)
          | ord p =>
            rw [hw] at h
            simp only [regV] at h ⊢
            exact ⟨h.1,H1 _ _ (by rintro (⟨_,h⟩ | ⟨_,_,_,h⟩) <;> cases h) h.2⟩
      | seq x y => simp only [vcS] at h ⊢; exact H2 _ _ _ (nc _) (nc _) h
      | cond c x y =>
        simp only [vcS] at h ⊢
        cases hb : ev σ.t c with
        | none => rw [hb] at h; simp [XN] at h
        | some v =>
          rw [hb] at h
          cases v <;> simp only [XN,XQ] at h ⊢
          exact ⟨fun e => H1 _ _ (nc _) (h.1 e),fun e => H1 _ _ (nc _) (h.2 e)⟩
      | block id x => simp only [vcS] at h ⊢; exact H2 _ _ _ (nc _) (by rintro (⟨_,h⟩ | ⟨_,_,_,h⟩) <;> cases h) h
      | loop x =>
        simp only [vcS,loopV] at h ⊢
        obtain ⟨I,μ,h0,h1⟩ := h
        exact ⟨I,μ,h0,fun σ' hi => H2 _ _ _ (nc _) (by rintro (⟨_,h⟩ | ⟨_,_,_,h⟩) <;> cases h) (h1 σ' hi)⟩
      | exit id =>
        simp only [vcS] at h ⊢
        cases hx : XE id k with
        | none => rw [hx] at h; simp [XO] at h
        | some q =>
          obtain ⟨q',hq,hle⟩ := hk.exit hx
          rw [hx] at h
          rw [hq]
          simp only [XO] at h ⊢
          refine vcS_le f hu hle (fun i hi => hno' i ?_) h
          exact exit_mem hx i hi
      | ret => simp only [vcS] at h ⊢; exact h
      | _ => simp [vcS] at h
where exit_mem {id : Nat} : ∀ {k q : List Item},XE id k = some q → ∀ i ∈ q,i ∈ k
  | [],_,h => by simp [XE] at h
  | i :: k,q,h => by
    cases i
    case endb id' =>
      simp only [XE] at h
      split at h
      · cases h; exact fun i hi => List.mem_cons_of_mem _ hi
      · exact fun i hi => List.mem_cons_of_mem _ (exit_mem h i hi)
    all_goals
      simp only [XE] at h
      exact fun i hi => List.mem_cons_of_mem _ (exit_mem h i hi)
theorem okI.cons {E : Fin} {D : List DItem} (h : okI E D) (i : DItem) (hi : ∀ I μ m P,i ≠ .dl I μ m P) : okI E (i :: D) := fun I μ m P hm => by
  rcases List.mem_cons.1 hm with e | hm
  · exact absurd e.symm (hi _ _ _ _)
  · exact h I μ m P hm
theorem okI.tail {E : Fin} {D : List DItem} {i : DItem} (h : okI E (i :: D)) : okI E D := fun I μ m P hm => h I μ m P (List.mem_cons_of_mem _ hm)
theorem inst_no (o : SV × List Res) : ∀ (D : List DItem),∀ i ∈ inst o D,(∃ J,i = Item.cut J) ∨ (∃ a b c,i = .aops a b c) → False
  | [],i,h => by simp [inst] at h
  | d :: D,i,h => by
    cases d <;> simp only [inst] at h <;> (
      rcases List.mem_cons.1 h with e0 | h0
      · subst e0
        rintro (⟨_,e⟩ | ⟨_,_,_,e⟩) <;> cases e
      · exact inst_no o D i h0)
theorem exit_base {id : Nat} : ∀ {D : List DItem} {q : List Item},XE id (base D) = some q → ∃ D',q = base D' ∧ (∀ o,XE id (inst o D) = some (inst o D')) ∧ ∀ i ∈ D',i ∈ D
  | [],_,h => by simp [base,XE] at h
  | d :: D,q,h => by
    cases d
    case endb id' =>
      simp only [base,XE] at h
      split at h
      · rename_i hh
        cases h
        exact ⟨D,rfl,fun o => by simp [inst,XE,hh],fun i hi => List.mem_cons_of_mem _ hi⟩
      · rename_i hh
        obtain ⟨D',h1,h2,h3⟩ := exit_base h
        exact ⟨D',h1,fun o => by simp only [inst,XE,if_neg hh]; exact h2 o,fun i hi => List.mem_cons_of_mem _ (h3 i hi)⟩
    all_goals
      simp only [base,XE] at h
      obtain ⟨D',h1,h2,h3⟩ := exit_base h
      exact ⟨D',h1,fun o => by simp only [inst,XE]; exact h2 o,fun i hi => List.mem_cons_of_mem _ (h3 i hi)⟩
def Gets (V : Cx) (n : Nat) (E : Fin) (f : Nat) (D : List DItem) (σ : St) : Prop := ∃ o : SV × List Res,E.K o.1 o.2 ∧ vcS V n (Eo E o) f (inst o D) σ
theorem contV_one {E : Fin} (hu : E.uni = true) {f : Nat} {ops : Array Oper} {r : List Oper} {D : List DItem} (H : ∀ σ,vcS V n E f (.ops ops r :: base D) σ → Gets V n E f (.ops ops r :: D) σ) {s : StepR} (h : Yc V n E f ops r (base D) s) :
    ∃ o : SV × List Res,E.K o.1 o.2 ∧ Yc V n (Eo E o) f ops r (inst o D) s := by
  cases s <;> simp only [Yc] at h ⊢
  · obtain ⟨o,h1,h2⟩ := H _ h.2
    exact ⟨o,h1,h.1,h2⟩
  · unfold callV at h
    rcases h with ⟨x,h1,h2⟩ | ⟨R,h1,h3,h2⟩
    · obtain ⟨o,k1,k2⟩ := H _ h2
      exact ⟨o,k1,by unfold callV; exact .inl ⟨x,h1,k2⟩⟩
    · obtain ⟨x,b,hR,h4⟩ := h3 hu
      obtain ⟨o,k1,k2⟩ := H _ (h2 x b hR)
      exact ⟨o,k1,by unfold callV; exact .inr ⟨_,h4,fun _ => ⟨x,b,⟨rfl,rfl⟩,h4⟩,by rintro _ _ ⟨rfl,rfl⟩; exact k2⟩⟩
theorem contD_one {E : Fin} {f : Nat} {ops : Array Oper} {r : List Oper} {rs : List Rk} {D : List DItem} (H : ∀ rs σ,vcS V n E f (.dops ops r rs :: base D) σ → Gets V n E f (.dops ops r rs :: D) σ) {dst : Option Tmp} {σ : St} {s : StepD} (h : Yg V n E f ops r rs (base D) dst σ s) :
    ∃ o : SV × List Res,E.K o.1 o.2 ∧ Yg V n (Eo E o) f ops r rs (inst o D) dst σ s := by
  cases s with
  | bad => simp only [Yg] at h
  | val c r =>
    obtain ⟨x,nb,all,rd,wr⟩ := r
    cases nb <;> simp only [Yg] at h ⊢ <;> obtain ⟨o,k1,k2⟩ := H _ _ h.2 <;> exact ⟨o,k1,h.1,k2⟩
  | call g args =>
    simp only [Yg] at h ⊢
    unfold callD at h
    rcases h with ⟨x,h1,h2⟩ | ⟨x,b,h1,h2⟩ | ⟨x,b,W,h1,h2,h3⟩
    · obtain ⟨o,k1,k2⟩ := H _ _ h2
      exact ⟨o,k1,by unfold callD; exact .inl ⟨x,h1,k2⟩⟩
    · obtain ⟨o,k1,k2⟩ := H _ _ h2
      exact ⟨o,k1,by unfold callD; exact .inr (.inl ⟨x,b,h1,k2⟩)⟩
    · obtain ⟨o,k1,k2⟩ := H _ _ h3
      exact ⟨o,k1,by unfold callD; exact .inr (.inr ⟨x,b,W,h1,h2,k2⟩)⟩
theorem vc_one {E : Fin} (hu : E.uni = true) : ∀ (f : Nat) (D : List DItem) (σ : St),okI E D → vcS V n E f (base D) σ → Gets V n E f D σ
  | 0,D,σ,_,h => by cases hD : base D <;> rw [hD] at h <;> simp [vcS] at h
  | f + 1,D,σ,hok,h => by
    have ih := vc_one hu f
    match D,hok,h with
    | [],hok,h =>
      simp only [base,vcS] at h
      cases hl : XT V σ E.rs with
      | none => rw [hl] at h; simp [endV] at h
      | some l =>
        rw [hl] at h
        refine ⟨(tupS l,σ.b),h,?_⟩
        simp only [inst,vcS,Eo,hl,endV]
        first | exact ⟨rfl,rfl⟩ | exact ⟨trivial,trivial⟩
    | .endb id :: D,hok,h =>
      simp only [base,vcS] at h
      obtain ⟨o,k1,k2⟩ := ih D σ hok.tail h
      exact ⟨o,k1,by simp only [inst,vcS]; exact k2⟩
    | .dl I μ m P :: D,hok,h =>
      simp only [base,vcS] at h
      obtain ⟨o,k1,k2⟩ := hok I μ m P List.mem_cons_self σ h.1 h.2
      exact ⟨o,k1,by simp only [inst,vcS]; exact ⟨k2,h.2⟩⟩
    | .ops ops l :: D,hok,h =>
      have hok2 := hok.tail
      have HC : ∀ r σ,vcS V n E f (.ops ops r :: base D) σ → Gets V n E f (.ops ops r :: D) σ := fun r σ h => ih (.ops ops r :: D) σ (hok2.cons _ (by intros; intro e; cases e)) h
      match l with
      | [] =>
        simp only [base,vcS] at h
        obtain ⟨o,k1,k2⟩ := ih D σ hok2 h
        exact ⟨o,k1,by simp only [inst,vcS]; exact k2⟩
      | ⟨dst,op,ty,pos,after,none⟩ :: r =>
        simp only [base,vcS] at h
        obtain ⟨o,k1,k2⟩ := contV_one hu (HC r) h.2
        exact ⟨o,k1,by simp only [inst,vcS]; exact ⟨h.1,k2⟩⟩
      | ⟨dst,op,ty,pos,after,some (j,want)⟩ :: r =>
        simp only [base,vcS] at h
        have hfit := h.1
        have h := h.2
        suffices hs : ∃ o : SV × List Res,E.K o.1 o.2 ∧ XA V n (Eo E o) f ops dst op want r (inst o D) σ (Yk σ.t (gdst ops.toList j)) (gvU σ.t (gdst ops.toList j)) by
          obtain ⟨o,k1,k2⟩ := hs
          exact ⟨o,k1,by simp only [inst,vcS]; exact ⟨hfit,k2⟩⟩
        cases hg : Yk σ.t (gdst ops.toList j) with
        | some p =>
          obtain ⟨d,b⟩ := p
          rw [hg] at h
          simp only [XA,XG] at h ⊢
          by_cases hb : b = want
          · obtain ⟨o,k1,k2⟩ := contV_one hu (HC r) (h.2.1 hb)
            exact ⟨o,k1,h.1,fun _ => k2,fun e => by rw [hb] at e; cases want <;> cases e⟩
          · have hb' : b = !want := by cases b <;> cases want <;> simp at hb ⊢
            obtain ⟨o,k1,k2⟩ := HC r _ (h.2.2 hb')
            exact ⟨o,k1,h.1,fun e => absurd e hb,fun _ => k2⟩
        | none =>
          rw [hg] at h
          cases hgu : gvU σ.t (gdst ops.toList j) with
          | true => rw [hgu] at h; simp only [XA] at h ⊢; exact HC r _ h
          | false => rw [hgu] at h; simp [XA] at h
    | .dops ops l rs :: D,hok,h =>
      have hok2 := hok.tail
      have HC : ∀ r rs σ,vcS V n E f (.dops ops r rs :: base D) σ → Gets V n E f (.dops ops r rs :: D) σ := fun r rs σ h => ih (.dops ops r rs :: D) σ (hok2.cons _ (by intros; intro e; cases e)) h
      match l with
      | [] =>
        simp only [base,vcS] at h
        obtain ⟨o,k1,k2⟩ := ih D σ hok2 h.2
        exact ⟨o,k1,by simp only [inst,vcS]; exact ⟨h.1,k2⟩⟩
      | ⟨dst,op,ty,pos,after,none⟩ :: r =>
        simp only [base,vcS] at h
        obtain ⟨o,k1,k2⟩ := contD_one (HC r) h.2
        exact ⟨o,k1,by simp only [inst,vcS]; exact ⟨h.1,k2⟩⟩
      | ⟨dst,op,ty,pos,after,some (j,want)⟩ :: r =>
        simp only [base,vcS] at h
        have hfit := h.1
        have h := h.2
        suffices hs : ∃ o : SV × List Res,E.K o.1 o.2 ∧ Xy V n (Eo E o) f ops dst op want r rs (inst o D) σ (Yk σ.t (gdst ops.toList j)) (gvU σ.t (gdst ops.toList j)) by
          obtain ⟨o,k1,k2⟩ := hs
          exact ⟨o,k1,by simp only [inst,vcS]; exact ⟨hfit,k2⟩⟩
        cases hg : Yk σ.t (gdst ops.toList j) with
        | some p =>
          obtain ⟨d,b⟩ := p
          rw [hg] at h
          simp only [Xy,XG] at h ⊢
          by_cases hb : b = want
          · obtain ⟨o,k1,k2⟩ := contD_one (HC r) (h.2.1 hb)
            exact ⟨o,k1,h.1,fun _ => k2,fun e => by rw [hb] at e; cases want <;> cases e⟩
          · have hb' : b = !want := by cases b <;> cases want <;> simp at hb ⊢
            obtain ⟨o,k1,k2⟩ := HC r _ _ (h.2.2 hb')
            exact ⟨o,k1,h.1,fun e => absurd e hb,fun _ => k2⟩
        | none =>
          rw [hg] at h
          cases hgu : gvU σ.t (gdst ops.toList j) with
          | true => rw [hgu] at h; simp only [Xy] at h ⊢; exact HC r _ _ h
          | false => rw [hgu] at h; simp [Xy] at h
    | .code c :: D,hok,h =>
      have hok2 := hok.tail
      have HC : ∀ c σ,vcS V n E f (.code c :: base D) σ → Gets V n E f (.code c :: D) σ := fun c σ h => ih (.code c :: D) σ (hok2.cons _ (by intros; intro e; cases e)) h
      cases c with
      | skip =>
        simp only [base,vcS] at h
        obtain ⟨o,k1,k2⟩ := ih D σ hok2 h
        exact ⟨o,k1,by simp only [inst,vcS]; exact k2⟩
      | region id ops draw =>
        cases draw
        · simp only [base,vcS] at h
          obtain ⟨o,k1,k2⟩ := ih (.ops ops ops.toList :: D) σ (hok2.cons _ (by intros; intro e; cases e)) h
          exact ⟨o,k1,by simp only [inst,vcS]; exact k2⟩
        · simp only [base,vcS] at h
          cases hw : E.how id with
          | all t => rw [hw] at h; simp only [regV,hu] at h; exact absurd h.1 (by simp)
          | ord p =>
            rw [hw] at h
            simp only [regV] at h
            obtain ⟨o,k1,k2⟩ := ih (.dops (permD ops p) (permD ops p).toList [] :: D) σ (hok2.cons _ (by intros; intro e; cases e)) h.2
            refine ⟨o,k1,?_⟩
            simp only [inst,vcS,Eo,hw,regV]
            exact ⟨h.1,k2⟩
      | seq x y =>
        simp only [base,vcS] at h
        obtain ⟨o,k1,k2⟩ := ih (.code x :: .code y :: D) σ ((hok2.cons _ (by intros; intro e; cases e)).cons _ (by intros; intro e; cases e)) h
        exact ⟨o,k1,by simp only [inst,vcS]; exact k2⟩
      | cond c x y =>
        simp only [base,vcS] at h
        suffices hs : ∃ o : SV × List Res,E.K o.1 o.2 ∧ XN V n (Eo E o) f x y (inst o D) σ (ev σ.t c) by
          obtain ⟨o,k1,k2⟩ := hs
          exact ⟨o,k1,by simp only [inst,vcS]; exact k2⟩
        cases hb : ev σ.t c with
        | none => rw [hb] at h; simp [XN] at h
        | some v =>
          rw [hb] at h
          cases v <;> simp only [XN,XQ] at h ⊢
          rename_i b
          cases b
          · obtain ⟨o,k1,k2⟩ := HC y σ (h.2 rfl)
            exact ⟨o,k1,fun e => (by cases e),fun _ => k2⟩
          · obtain ⟨o,k1,k2⟩ := HC x σ (h.1 rfl)
            exact ⟨o,k1,fun _ => k2,fun e => (by cases e)⟩
      | block id x =>
        simp only [base,vcS] at h
        obtain ⟨o,k1,k2⟩ := ih (.code x :: .endb id :: D) σ ((hok2.cons _ (by intros; intro e; cases e)).cons _ (by intros; intro e; cases e)) h
        exact ⟨o,k1,by simp only [inst,vcS]; exact k2⟩
      | loop x =>
        simp only [base,vcS,loopV] at h
        obtain ⟨I,μ,h0,h1⟩ := h
        let H : SV × List Res → St → Prop := fun o σ => ∃ S : St → Prop,S σ ∧ ∀ σ',S σ' → vcS V n (Eo E o) f (.code x :: .endl S μ (μ σ') :: inst o D) σ'
        have key : ∀ m σ,μ σ = m → I σ → ∃ o : SV × List Res,E.K o.1 o.2 ∧ H o σ := by
          intro m
          induction m using Nat.strongRecOn with
          | _ m ihm =>
          intro σ hm hi
          obtain ⟨o,k1,k2⟩ := ih (.code x :: .dl I μ (μ σ) (fun o σ2 => I σ2 ∧ H o σ2) :: D) σ (by
            refine okI.cons (fun I' μ' m' P hmem => ?_) _ (by intros; intro e; cases e)
            rcases List.mem_cons.1 hmem with e | hmem
            · cases e
              intro σ2 hi2 hlt
              obtain ⟨o,k1,k2⟩ := ihm (μ σ2) (by omega) σ2 rfl hi2
              exact ⟨o,k1,hi2,k2⟩
            · exact hok2 I' μ' m' P hmem) (h1 σ hi)
          have hno : ∀ (S : St → Prop) m,∀ i ∈ (.code x :: .endl S μ m :: inst o D : List Item),(∃ J,i = Item.cut J) ∨ (∃ a b c,i = .aops a b c) → False := fun S m i hi => by
            rcases List.mem_cons.1 hi with rfl | hi
            · rintro (⟨_,e⟩ | ⟨_,_,_,e⟩) <;> cases e
            · rcases List.mem_cons.1 hi with rfl | hi
              · rintro (⟨_,e⟩ | ⟨_,_,_,e⟩) <;> cases e
              · exact inst_no o D i hi
          refine ⟨o,k1,fun σ' => σ' = σ ∨ H o σ',.inl rfl,?_⟩
          rintro σ' (rfl | ⟨S,hS,hall⟩)
          · exact vcS_le f (E := Eo E o) hu (.same _ (.endl μ _ (fun σ2 h2 => .inr h2.2) (LeI.refl _))) (hno _ _) k2
          · exact vcS_le f (E := Eo E o) hu (.same _ (.endl μ _ (fun σ2 h2 => .inr ⟨S,h2,hall⟩) (LeI.refl _))) (hno _ _) (hall σ' hS)
        obtain ⟨o,k1,S,k2,k3⟩ := key _ σ rfl h0
        exact ⟨o,k1,by simp only [inst,vcS,loopV]; exact ⟨S,μ,k2,k3⟩⟩
      | exit id =>
        simp only [base,vcS] at h
        cases hx : XE id (base D) with
        | none => rw [hx] at h; simp [XO] at h
        | some q =>
          obtain ⟨D',rfl,h2,h3⟩ := exit_base hx
          rw [hx] at h
          simp only [XO] at h
          obtain ⟨o,k1,k2⟩ := ih D' σ (fun I μ m P hm => hok2 I μ m P (h3 _ hm)) h
          exact ⟨o,k1,by simp only [inst,vcS,h2 o,XO]; exact k2⟩
      | ret =>
        simp only [base,vcS] at h
        cases hl : XT V σ E.rs with
        | none => rw [hl] at h; simp [endV] at h
        | some l =>
          rw [hl] at h
          refine ⟨(tupS l,σ.b),h,?_⟩
          simp only [inst,vcS,Eo,hl,endV]
          first | exact ⟨rfl,rfl⟩ | exact ⟨trivial,trivial⟩
      | _ => simp [base,vcS] at h
theorem su_ofP (how : Nat → How) {f : FuncId} {fn : Func} {c : Code} {args : List SV} {bs : List Res} {R : SV → List Res → Prop} {n : Nat} {rs : Array ResultVar} (fuel : Nat) (hf : V.P.funcs[f]? = some fn) (hb : fn.body = some c) (hn : fn.ntmps = n) (hr : fn.results = rs) (hent : Enters V f)
    (hlen : args.length ≤ n) (hsc : ∀ β β',Agr bs.length β β' → concL β args = concL β' args) (h : vcS V n ⟨rs.toList,R,how,true⟩ fuel [.code c] ⟨Yj 0 args,bs⟩) : SU V f args bs R := by
  obtain ⟨o,k1,k2⟩ := vc_one (E := ⟨rs.toList,R,how,true⟩) rfl fuel [.code c] ⟨Yj 0 args,bs⟩ (fun I μ m P hm => by simp at hm) h
  exact ⟨o.1,o.2,k1,sc_ofU true how fuel hf hb hn hr hent hlen hsc k2⟩
theorem su_of {f : FuncId} {fn : Func} {c : Code} {args : List SV} {bs : List Res} {R : SV → List Res → Prop} {n : Nat} {rs : Array ResultVar} (fuel : Nat) (hf : V.P.funcs[f]? = some fn) (hb : fn.body = some c) (hn : fn.ntmps = n) (hr : fn.results = rs) (hent : Enters V f)
    (hlen : args.length ≤ n) (hsc : ∀ β β',Agr bs.length β β' → concL β args = concL β' args) (h : vcS V n ⟨rs.toList,R,fun _ => .ord [],true⟩ fuel [.code c] ⟨Yj 0 args,bs⟩) : SU V f args bs R :=
  su_ofP (fun _ => .ord []) fuel hf hb hn hr hent hlen hsc h
theorem vcS_cutS {E : Fin} {f : Nat} {A B : Code} {k : List Item} {σ0 : St} (g : Nat) (J : St → Prop) (h1 : ∀ m σ,J σ → vcS V n E (m + g) (.code B :: k) σ) (h2 : ∀ k',(∀ m σ,J σ → vcS V n E (m + g) k' σ) → vcS V n E f (.code A :: k') σ0) : vcS V n E (f + 1) (.code (.seq A B) :: k) σ0 := by
  simp only [vcS]
  exact h2 _ h1
theorem pc_some {f : FuncId} {args : List SV} {R : SV → Prop} (fa : flat.flatL args = true) (h : SU V f args [] (fun r _ => flat r = true ∧ R r)) : ∃ r,PC V f args r ∧ R r := by
  obtain ⟨x,b,⟨h1,h2⟩,h3⟩ := h
  exact ⟨x,pc_of_sc fa h1 (h3.mono fun _ _ e => e.1),h2⟩
theorem px_of {f : FuncId} {fn : Func} {c : Code} {args : List SV} {R : SV → Prop} {n : Nat} {rs : Array ResultVar} (fuel : Nat) (hf : V.P.funcs[f]? = some fn) (hb : fn.body = some c) (hn : fn.ntmps = n) (hr : fn.results = rs) (hent : Enters V f)
    (hlen : args.length ≤ n) (fa : flat.flatL args = true) (h : vcS V n ⟨rs.toList,fun r _ => flat r = true ∧ R r,fun _ => .ord [],true⟩ fuel [.code c] ⟨Yj 0 args,[]⟩) : ∃ r,PC V f args r ∧ R r :=
  pc_some fa (su_of fuel hf hb hn hr hent hlen (fun β β' _ => concL_flat args fa β β') h)
end
end Vc
/- ref14.Same of one tree with itself. -/
set_option linter.all false
set_option maxRecDepth 20000
namespace Go.Proofs.YtejfjmcjicpodaaGreatDoor
open Go Vc Go.RowKit Wf
set_option linter.unusedSimpArgs false
theorem szJ {j x : Jv} (h : x ∈ j.L) : SizeOf.sizeOf x < SizeOf.sizeOf j := by
  cases j with
  | mk k t K L =>
    have := List.sizeOf_lt_of_mem (show x ∈ L from h)
    simp only [Jv.mk.sizeOf_spec]
    omega
set_option maxHeartbeats 16000000 in
theorem sc_r14_SameN : ∀ (N : Nat) {bs : List Res} {j : Jv} {v v' : Tv},SizeOf.sizeOf j < N → TJ bs j v → TJ bs j v' → SC Tryz.V 15 [.agg (tv v),.agg (tv v')] bs (fun r b => r = .bool true ∧ b = bs)
  | 0,_,_,_,_,h,_,_ => by omega
  | N + 1,bs,j,v,v',hN,h,h' => by
    refine sc_forget (by simp [flat]) ?_
    have ih := fun (x : Jv) (hx : x ∈ j.L) (X : List Res) (y y' : Tv) (hy : TJ bs x y) (hy' : TJ bs x y') => sc_r14_SameN N (bs := bs ++ X) (by have := szJ hx; omega) (hy.ro ((Ro.refl bs).app X)) (hy'.ro ((Ro.refl bs).app X))
    obtain ⟨v1,v2,v3,v4⟩ := h.tin
    obtain ⟨w1,w2,w3,w4⟩ := h'.tin
    have ho : (one v.xk && one v.xi) = true := by rw [v3,v4]; rfl
    have ho' : (one v'.xk && one v'.xi) = true := by rw [w3,w4]; rfl
    obtain ⟨e1,e2,-,e4,e5,-,e7,Ls,e8,e9⟩ := h.un
    obtain ⟨d1,d2,-,d4,-,-,-,Ms,d8,d9⟩ := h'.un
    have hL := e9.len
    have hM := d9.len
    have n1 := e4.len'
    have n2 := d4.len'
    have n3 := e8.len
    have n4 := d8.len
    rw [hL] at n3
    rw [hM] at n4
    refine sc_of 3000 Tryz.func15 rfl Tryz.ntmps15 Tryz.results15 Tryz.call15 (by simp) (fun β β' hb => concL_within bs.length _ (by simp [within,within.withinL,tv,v1,v2,w1,w2]) β β' hb) ?_
    unfold tv
    rw [e1,e2,d1,d2]
    refine vcS_cutS 2900 (fun σ => lk 2 σ.t = some (.p bs.length 0) ∧ lk 3 σ.t = some (.p (bs.length + 1) 0) ∧ σ.b = bs ++ [.cells [.int .i64 j.k,.str j.t,v.xk,v.xi] 25 true,.cells [.int .i64 j.k,.str j.t,v'.xk,v'.xi] 25 true]) ?_ (fun k' hk' => ?_)
    rotate_left
    · simp only [lawG,↓Xn,↓Xo,↓Xg,↓Xd,↓Xe,↓Xf,Tryz.VΓ,Tryz.Γs,Xp,Xi,Nat.reduceAdd,Nat.reduceSub,Nat.reduceLT,Nat.reduceLeDiff,reduceIte,reduceCtorEq,Nat.reduceEqDiff,implies_true,forall_const,lawV,lawA,beq_self_eq_true,bne_self_eq_false,Int.reduceBEq,Int.reduceBNe,Int.reduceLT,Int.reduceLE,ho,ho']
      exact hk' _ _ ⟨rfl,rfl,rfl⟩
    rintro m ⟨t,b⟩ ⟨h2,h3,rfl⟩
    simp only at h2 h3
    refine vcS_cutS 2800 (fun σ => lk 2 σ.t = some (.p bs.length 0) ∧ lk 3 σ.t = some (.p (bs.length + 1) 0) ∧ σ.b = bs ++ [.cells [.int .i64 j.k,.str j.t,v.xk,v.xi] 25 true,.cells [.int .i64 j.k,.str j.t,v'.xk,v'.xi] 25 true]) ?_ (fun k' hk' => ?_)
    rotate_left
    · simp only [lawG,↓Xn,↓Xo,↓Xg,↓Xd,↓Xe,↓Xf,Tryz.VΓ,Tryz.Γs,Xp,Xi,Nat.reduceAdd,Nat.reduceSub,Nat.reduceLT,Nat.reduceLeDiff,reduceIte,reduceCtorEq,Nat.reduceEqDiff,implies_true,forall_const,lawV,lawA,beq_self_eq_true,bne_self_eq_false,Int.reduceBEq,Int.reduceBNe,Int.reduceLT,Int.reduceLE,h2,h3,v3,v4,w3,w4,n1,n2,n3,n4]
      exact hk' _ _ ⟨by simp [lk,h2],by simp [lk,h3],rfl⟩
    rintro m ⟨t,b⟩ ⟨h2,h3,rfl⟩
    simp only at h2 h3
    refine vcS_cutS 2700 (fun σ => lk 2 σ.t = some (.p bs.length 0) ∧ lk 3 σ.t = some (.p (bs.length + 1) 0) ∧ σ.b = bs ++ [.cells [.int .i64 j.k,.str j.t,v.xk,v.xi] 25 true,.cells [.int .i64 j.k,.str j.t,v'.xk,v'.xi] 25 true]) ?_ (fun k' hk' => ?_)
    rotate_left
    · simp only [lawG,↓Xn,↓Xo,↓Xg,↓Xd,↓Xe,↓Xf,Tryz.VΓ,Tryz.Γs,Xp,Xi,Nat.reduceAdd,Nat.reduceSub,Nat.reduceLT,Nat.reduceLeDiff,reduceIte,reduceCtorEq,Nat.reduceEqDiff,implies_true,forall_const,lawV,lawA,beq_self_eq_true,bne_self_eq_false,Int.reduceBEq,Int.reduceBNe,Int.reduceLT,Int.reduceLE,h2,h3,v4,n3]
      refine loopV_mk (fun σ => ∃ k : Nat,k ≤ j.L.length ∧ lk 2 σ.t = some (.p bs.length 0) ∧ lk 3 σ.t = some (.p (bs.length + 1) 0) ∧ lk 39 σ.t = some (.int .i64 j.L.length) ∧ lk 40 σ.t = some (.int .i64 k) ∧ σ.b = bs ++ [.cells [.int .i64 j.k,.str j.t,v.xk,v.xi] 25 true,.cells [.int .i64 j.k,.str j.t,v'.xk,v'.xi] 25 true]) (fun σ => j.L.length - lkI 40 σ) ⟨0,by omega,by simp [lk,h2],by simp [lk,h3],rfl,rfl,rfl⟩ ?_
      rintro ⟨t,b⟩ ⟨k,hk,h2,h3,h39,h40,hb⟩
      simp only at h2 h3 h39 h40 hb
      subst hb
      rw [lkI_eq h40]
      by_cases hlt : k < j.L.length
      · have hlt2 : decide ((k : Int) < j.L.length) = true := decide_eq_true (by omega)
        rcases e8 with ⟨-,hx0⟩ | ⟨i,hi1,hi⟩
        · rw [hx0] at hL; simp at hL; omega
        rcases d8 with ⟨-,hx0⟩ | ⟨q,hq1,hq⟩
        · rw [hx0] at hM; simp at hM; omega
        have k1 : k < Ls.length := by omega
        have k2 : k < Ms.length := by omega
        have hu : List.take 4 (List.drop (k * 4) (Ls.flatMap tv)) = [.int .i64 Ls[k].k,.str Ls[k].t,Ls[k].xk,Ls[k].xi] := tv_at Ls k k1
        have hu' : List.take 4 (List.drop (k * 4) (Ms.flatMap tv)) = [.int .i64 Ms[k].k,.str Ms[k].t,Ms[k].xk,Ms[k].xi] := tv_at Ms k k2
        have hul := tv_len Ls
        have hul' := tv_len Ms
        obtain ⟨-,-,x3,x4⟩ := e9.tin Ls[k] (List.getElem_mem k1)
        obtain ⟨-,-,y3,y4⟩ := d9.tin Ms[k] (List.getElem_mem k2)
        have hxo : (one Ls[k].xk && one Ls[k].xi) = true := by rw [x3,x4]; rfl
        have hyo : (one Ms[k].xk && one Ms[k].xi) = true := by rw [y3,y4]; rfl
        have hc := fun X => ih j.L[k] (List.getElem_mem hlt) X _ _ (e9.at k hlt k1) (d9.at k hlt k2)
        unfold tv at hc
        rw [hi1,hq1] at *
        simp only [lawG,↓Xn,↓Xo,↓Xg,↓Xd,↓Xe,↓Xf,Tryz.VΓ,Tryz.Γs,Xp,Xi,Nat.reduceAdd,Nat.reduceSub,Nat.reduceLT,Nat.reduceLeDiff,reduceIte,reduceCtorEq,Nat.reduceEqDiff,implies_true,forall_const,lawV,lawA,beq_self_eq_true,bne_self_eq_false,Int.reduceBEq,Int.reduceBNe,Int.reduceLT,Int.reduceLE,h2,h3,h39,h40,hlt2,v4,w4,at_old hi,at_old hq,hu,hu',hul,hul',hxo,hyo]
        (repeat (refine ⟨by first | omega | (unfold maxLen; omega),?_⟩))
        refine callD_scw [] (hc _) (fun _ _ _ => rfl) ?_
        simp only [lawG,↓Xn,↓Xo,↓Xg,↓Xd,↓Xe,↓Xf,Tryz.VΓ,Tryz.Γs,Xp,Xi,Nat.reduceAdd,Nat.reduceSub,Nat.reduceLT,Nat.reduceLeDiff,reduceIte,reduceCtorEq,Nat.reduceEqDiff,implies_true,forall_const,lawV,lawA,beq_self_eq_true,bne_self_eq_false,Int.reduceBEq,Int.reduceBNe,Int.reduceLT,Int.reduceLE,h2,h3,h39,h40,Bool.not_true]
        refine ⟨(OkD_fast (by kernel_rfl)),?_⟩
        (repeat (refine ⟨by first | omega | (unfold maxLen; omega),?_⟩))
        refine ⟨⟨k + 1,by omega,rfl⟩,?_⟩
        rw [lkI_eq (k := .i64) (n := (k : Int) + 1) rfl]; omega
      · have hlt2 : decide ((k : Int) < j.L.length) = false := decide_eq_false (by omega)
        simp only [lawG,↓Xn,↓Xo,↓Xg,↓Xd,↓Xe,↓Xf,Tryz.VΓ,Tryz.Γs,Xp,Xi,Nat.reduceAdd,Nat.reduceSub,Nat.reduceLT,Nat.reduceLeDiff,reduceIte,reduceCtorEq,Nat.reduceEqDiff,implies_true,forall_const,lawV,lawA,beq_self_eq_true,bne_self_eq_false,Int.reduceBEq,Int.reduceBNe,Int.reduceLT,Int.reduceLE,h2,h3,h39,h40,hlt2]
        exact hk' _ _ ⟨by simp [lk,h2],by simp [lk,h3],rfl⟩
    rintro m ⟨t,b⟩ ⟨h2,h3,rfl⟩
    simp only at h2 h3
    refine vcS_cutS 2600 (fun σ => Kp bs σ.b) ?_ (fun k' hk' => ?_)
    rotate_left
    · simp only [lawG,↓Xn,↓Xo,↓Xg,↓Xd,↓Xe,↓Xf,Tryz.VΓ,Tryz.Γs,Xp,Xi,Nat.reduceAdd,Nat.reduceSub,Nat.reduceLT,Nat.reduceLeDiff,reduceIte,reduceCtorEq,Nat.reduceEqDiff,implies_true,forall_const,lawV,lawA,beq_self_eq_true,bne_self_eq_false,Int.reduceBEq,Int.reduceBNe,Int.reduceLT,Int.reduceLE,h2,h3,v3,n1]
      refine loopV_mk (fun σ => ∃ k : Nat,k ≤ j.K.length ∧ lk 2 σ.t = some (.p bs.length 0) ∧ lk 3 σ.t = some (.p (bs.length + 1) 0) ∧ lk 58 σ.t = some (.int .i64 j.K.length) ∧ lk 59 σ.t = some (.int .i64 k) ∧ σ.b = bs ++ [.cells [.int .i64 j.k,.str j.t,v.xk,v.xi] 25 true,.cells [.int .i64 j.k,.str j.t,v'.xk,v'.xi] 25 true]) (fun σ => j.K.length - lkI 59 σ) ⟨0,by omega,by simp [lk,h2],by simp [lk,h3],rfl,rfl,rfl⟩ ?_
      rintro ⟨t,b⟩ ⟨k,hk,h2,h3,h58,h59,hb⟩
      simp only at h2 h3 h58 h59 hb
      subst hb
      rw [lkI_eq h59]
      by_cases hlt : k < j.K.length
      · have hlt2 : decide ((k : Int) < j.K.length) = true := decide_eq_true (by omega)
        rcases e4 with ⟨-,hx0⟩ | ⟨i,hi1,hi⟩
        · rw [hx0] at hlt; exact absurd hlt (by simp)
        rcases d4 with ⟨-,hx0⟩ | ⟨q,hq1,hq⟩
        · rw [hx0] at hlt; exact absurd hlt (by simp)
        have hkt : (j.K.map SV.str)[k * 1]? = some (.str j.K[k]) := by simp [hlt]
        have hkl : (j.K.map SV.str).length = j.K.length := List.length_map ..
        rw [hi1,hq1] at *
        simp only [lawG,↓Xn,↓Xo,↓Xg,↓Xd,↓Xe,↓Xf,Tryz.VΓ,Tryz.Γs,Xp,Xi,Nat.reduceAdd,Nat.reduceSub,Nat.reduceLT,Nat.reduceLeDiff,reduceIte,reduceCtorEq,Nat.reduceEqDiff,implies_true,forall_const,lawV,lawA,beq_self_eq_true,bne_self_eq_false,Int.reduceBEq,Int.reduceBNe,Int.reduceLT,Int.reduceLE,h2,h3,h58,h59,hlt2,v3,w3,at_old hi,at_old hq,hkt,hkl]
        (repeat (refine ⟨by first | omega | (unfold maxLen; omega),?_⟩))
        refine ⟨(OkD_fast (by kernel_rfl)),?_⟩
        (repeat (refine ⟨by first | omega | (unfold maxLen; omega),?_⟩))
        refine ⟨⟨k + 1,by omega,rfl⟩,?_⟩
        rw [lkI_eq (k := .i64) (n := (k : Int) + 1) rfl]; omega
      · have hlt2 : decide ((k : Int) < j.K.length) = false := decide_eq_false (by omega)
        simp only [lawG,↓Xn,↓Xo,↓Xg,↓Xd,↓Xe,↓Xf,Tryz.VΓ,Tryz.Γs,Xp,Xi,Nat.reduceAdd,Nat.reduceSub,Nat.reduceLT,Nat.reduceLeDiff,reduceIte,reduceCtorEq,Nat.reduceEqDiff,implies_true,forall_const,lawV,lawA,beq_self_eq_true,bne_self_eq_false,Int.reduceBEq,Int.reduceBNe,Int.reduceLT,Int.reduceLE,h2,h3,h58,h59,hlt2]
        exact hk' _ _ ((Kp.refl bs).app _)
    rintro m ⟨t,b⟩ hkp
    simp only [lawG,↓Xn,↓Xo,↓Xg,↓Xd,↓Xe,↓Xf,Tryz.VΓ,Tryz.Γs,Xp,Xi,Nat.reduceAdd,Nat.reduceSub,Nat.reduceLT,Nat.reduceLeDiff,reduceIte,reduceCtorEq,Nat.reduceEqDiff,implies_true,forall_const,lawV,lawA,beq_self_eq_true,bne_self_eq_false,Int.reduceBEq,Int.reduceBNe,Int.reduceLT,Int.reduceLE]
    exact hkp
theorem sc_r14_Same {bs : List Res} {j : Jv} {v v' : Tv} (h : TJ bs j v) (h' : TJ bs j v') : SC Tryz.V 15 [.agg (tv v),.agg (tv v')] bs (fun r b => r = .bool true ∧ b = bs) :=
  sc_r14_SameN _ (Nat.lt_succ_self _) h h'
end Go.Proofs.YtejfjmcjicpodaaGreatDoor
/- ref02: some exact results: Encode,value,Decode. -/
set_option linter.all false
set_option maxRecDepth 20000
namespace Go.Proofs.YtejfjmcjicpodaaGreatDoor
open Go Vc Go.RowKit Wf
set_option linter.unusedSimpArgs false
def pointB (r : Int) : Bool := decide (0 ≤ r) && (decide (r ≤ 1114111) && (decide (r < 55296) || decide (57343 < r)))
theorem p_r2_point (r : Int) : PC Tryz.V 134 [.int .i64 r] (.bool (pointB r)) := by
  unfold pointB
  refine pc_of 3000 Tryz.func134 rfl Tryz.ntmps134 Tryz.results134 Tryz.call134 (by simp) (by simp [flat,flat.flatL]) (by simp [flat,flat.flatL]) ?_
  cases h1 : decide (0 ≤ r)
  · simp only [lawG,↓Xn,↓Xo,↓Xg,↓Xd,↓Xe,↓Xf,Tryz.VΓ,Tryz.Γs,Xp,Xi,Nat.reduceAdd,Nat.reduceSub,Nat.reduceLT,Nat.reduceLeDiff,reduceIte,reduceCtorEq,Nat.reduceEqDiff,implies_true,forall_const,lawV,lawA,beq_self_eq_true,bne_self_eq_false,Int.reduceBEq,Int.reduceBNe,Int.reduceLT,Int.reduceLE,h1,Bool.false_and]
  cases h2 : decide (r ≤ 1114111)
  · simp only [lawG,↓Xn,↓Xo,↓Xg,↓Xd,↓Xe,↓Xf,Tryz.VΓ,Tryz.Γs,Xp,Xi,Nat.reduceAdd,Nat.reduceSub,Nat.reduceLT,Nat.reduceLeDiff,reduceIte,reduceCtorEq,Nat.reduceEqDiff,implies_true,forall_const,lawV,lawA,beq_self_eq_true,bne_self_eq_false,Int.reduceBEq,Int.reduceBNe,Int.reduceLT,Int.reduceLE,h1,h2,Bool.false_and,Bool.true_and]
  cases h3 : decide (r < 55296)
  · simp only [lawG,↓Xn,↓Xo,↓Xg,↓Xd,↓Xe,↓Xf,Tryz.VΓ,Tryz.Γs,Xp,Xi,Nat.reduceAdd,Nat.reduceSub,Nat.reduceLT,Nat.reduceLeDiff,reduceIte,reduceCtorEq,Nat.reduceEqDiff,implies_true,forall_const,lawV,lawA,beq_self_eq_true,bne_self_eq_false,Int.reduceBEq,Int.reduceBNe,Int.reduceLT,Int.reduceLE,h1,h2,h3,Bool.false_or,Bool.true_and]
  · simp only [lawG,↓Xn,↓Xo,↓Xg,↓Xd,↓Xe,↓Xf,Tryz.VΓ,Tryz.Γs,Xp,Xi,Nat.reduceAdd,Nat.reduceSub,Nat.reduceLT,Nat.reduceLeDiff,reduceIte,reduceCtorEq,Nat.reduceEqDiff,implies_true,forall_const,lawV,lawA,beq_self_eq_true,bne_self_eq_false,Int.reduceBEq,Int.reduceBNe,Int.reduceLT,Int.reduceLE,h1,h2,h3,Bool.true_or,Bool.true_and]
theorem isU8_wrap (x : Int) : isU8 (.int .u8 (IntKind.u8.wrap x)) = true := by
  have h : IntKind.u8.wrap x = x % 256 := rfl
  rw [h]
  simp only [isU8,Bool.and_eq_true,decide_eq_true_eq]
  omega
set_option maxHeartbeats 4000000 in
theorem px_r2_Encode (r : Int) : ∃ x,PC Tryz.V 118 [.int .i64 r] x ∧ ∃ s e,x = .tup [.str s,.int .i64 e] ∧ s.length ≤ 4 := by
  have p1 := p_r2_point r
  refine px_of 3000 Tryz.func118 rfl Tryz.ntmps118 Tryz.results118 Tryz.call118 (by simp) (by simp [flat,flat.flatL]) ?_
  simp only [lawG,↓Xn,↓Xo,↓Xg,↓Xd,↓Xe,↓Xf,Tryz.VΓ,Tryz.Γs,Xp,Xi,Nat.reduceAdd,Nat.reduceSub,Nat.reduceLT,Nat.reduceLeDiff,reduceIte,reduceCtorEq,Nat.reduceEqDiff,implies_true,forall_const,lawV,lawA,beq_self_eq_true,bne_self_eq_false,Int.reduceBEq,Int.reduceBNe,Int.reduceLT,Int.reduceLE]
  (refine callV_pc (p1) ?_; simp only [lawG,↓Xn,↓Xo,↓Xg,↓Xd,↓Xe,↓Xf,Tryz.VΓ,Tryz.Γs,Xp,Xi,Nat.reduceAdd,Nat.reduceSub,Nat.reduceLT,Nat.reduceLeDiff,reduceIte,reduceCtorEq,Nat.reduceEqDiff,implies_true,forall_const,lawV,lawA,beq_self_eq_true,bne_self_eq_false,Int.reduceBEq,Int.reduceBNe,Int.reduceLT,Int.reduceLE])
  cases hp : pointB r
  · simp only [lawG,↓Xn,↓Xo,↓Xg,↓Xd,↓Xe,↓Xf,Tryz.VΓ,Tryz.Γs,Xp,Xi,Nat.reduceAdd,Nat.reduceSub,Nat.reduceLT,Nat.reduceLeDiff,reduceIte,reduceCtorEq,Nat.reduceEqDiff,implies_true,forall_const,lawV,lawA,beq_self_eq_true,bne_self_eq_false,Int.reduceBEq,Int.reduceBNe,Int.reduceLT,Int.reduceLE,hp,Bool.not_false]
    exact ⟨rfl,_,_,rfl,by simp⟩
  · simp only [lawG,↓Xn,↓Xo,↓Xg,↓Xd,↓Xe,↓Xf,Tryz.VΓ,Tryz.Γs,Xp,Xi,Nat.reduceAdd,Nat.reduceSub,Nat.reduceLT,Nat.reduceLeDiff,reduceIte,reduceCtorEq,Nat.reduceEqDiff,implies_true,forall_const,lawV,lawA,beq_self_eq_true,bne_self_eq_false,Int.reduceBEq,Int.reduceBNe,Int.reduceLT,Int.reduceLE,hp,Bool.not_true,isU8_wrap,Bool.and_self]
    exact ⟨fun _ => ⟨by omega,rfl,_,_,rfl,by simp⟩,fun _ => ⟨fun _ => ⟨by omega,rfl,_,_,rfl,by simp⟩,fun _ => ⟨fun _ => ⟨by omega,rfl,_,_,rfl,by simp⟩,fun _ => ⟨by omega,rfl,_,_,rfl,by simp⟩⟩⟩⟩
set_option maxHeartbeats 4000000 in
theorem px_r2_value (s : Bytes) (h0 : 0 < s.length) (h4 : s.length ≤ 4) : ∃ x,PC Tryz.V 119 [.str s] x ∧ ∃ n,x = .int .i64 n := by
  refine px_of 3000 Tryz.func119 rfl Tryz.ntmps119 Tryz.results119 Tryz.call119 (by simp) (by simp [flat,flat.flatL]) ?_
  obtain ⟨c,hc⟩ : ∃ c,s[0]? = some c := ⟨s[0],List.getElem?_eq_getElem h0⟩
  by_cases h1 : s.length = 1
  · have e1 : ((s.length : Int) == 1) = true := by rw [h1]; rfl
    simp only [lawG,↓Xn,↓Xo,↓Xg,↓Xd,↓Xe,↓Xf,Tryz.VΓ,Tryz.Γs,Xp,Xi,Nat.reduceAdd,Nat.reduceSub,Nat.reduceLT,Nat.reduceLeDiff,reduceIte,reduceCtorEq,Nat.reduceEqDiff,implies_true,forall_const,lawV,lawA,beq_self_eq_true,bne_self_eq_false,Int.reduceBEq,Int.reduceBNe,Int.reduceLT,Int.reduceLE,e1,hc]
    exact ⟨by omega,rfl,_,rfl⟩
  · have e1 : ((s.length : Int) == 1) = false := by simp; omega
    simp only [lawG,↓Xn,↓Xo,↓Xg,↓Xd,↓Xe,↓Xf,Tryz.VΓ,Tryz.Γs,Xp,Xi,Nat.reduceAdd,Nat.reduceSub,Nat.reduceLT,Nat.reduceLeDiff,reduceIte,reduceCtorEq,Nat.reduceEqDiff,implies_true,forall_const,lawV,lawA,beq_self_eq_true,bne_self_eq_false,Int.reduceBEq,Int.reduceBNe,Int.reduceLT,Int.reduceLE,e1,hc]
    have hsh : shI .shl .i64 1 (7 - (s.length : Int)) = 32 ∨ shI .shl .i64 1 (7 - (s.length : Int)) = 16 ∨ shI .shl .i64 1 (7 - (s.length : Int)) = 8 := by
      have : s.length = 2 ∨ s.length = 3 ∨ s.length = 4 := by omega
      rcases this with h | h | h <;> rw [h]
      · exact .inl rfl
      · exact .inr (.inl rfl)
      · exact .inr (.inr rfl)
    refine ⟨by omega,by omega,by omega,by omega,(OkD_fast (by kernel_rfl)),?_⟩
    refine loopV_mk (fun σ => ∃ (k : Nat) (r : Int),k ≤ s.length ∧ lk 0 σ.t = some (.str s) ∧ lk 3 σ.t = some (.int .i64 r) ∧ lk 4 σ.t = some (.int .i64 k)) (fun σ => s.length - lkI 4 σ) ⟨1,_,by omega,rfl,rfl,rfl⟩ ?_
    rintro ⟨t,b⟩ ⟨k,r,hk,h0,h3,h4⟩
    simp only at h0 h3 h4
    rw [lkI_eq h4]
    by_cases hlt : k < s.length
    · have hlt2 : decide ((k : Int) < s.length) = true := decide_eq_true (by omega)
      simp only [lawG,↓Xn,↓Xo,↓Xg,↓Xd,↓Xe,↓Xf,Tryz.VΓ,Tryz.Γs,Xp,Xi,Nat.reduceAdd,Nat.reduceSub,Nat.reduceLT,Nat.reduceLeDiff,reduceIte,reduceCtorEq,Nat.reduceEqDiff,implies_true,forall_const,lawV,lawA,beq_self_eq_true,bne_self_eq_false,Int.reduceBEq,Int.reduceBNe,Int.reduceLT,Int.reduceLE,h0,h3,h4,hlt2]
      refine ⟨by omega,by omega,⟨k + 1,_,by omega,rfl,rfl⟩,?_⟩
      rw [lkI_eq (k := .i64) (n := (k : Int) + 1) rfl]; omega
    · have hlt2 : decide ((k : Int) < s.length) = false := decide_eq_false (by omega)
      simp only [lawG,↓Xn,↓Xo,↓Xg,↓Xd,↓Xe,↓Xf,Tryz.VΓ,Tryz.Γs,Xp,Xi,Nat.reduceAdd,Nat.reduceSub,Nat.reduceLT,Nat.reduceLeDiff,reduceIte,reduceCtorEq,Nat.reduceEqDiff,implies_true,forall_const,lawV,lawA,beq_self_eq_true,bne_self_eq_false,Int.reduceBEq,Int.reduceBNe,Int.reduceLT,Int.reduceLE,h0,h3,h4,hlt2]
      exact ⟨rfl,_,rfl⟩
set_option maxHeartbeats 4000000 in
theorem px_r2_Decode (s : Bytes) (hs : s.length ≤ 2000000) (at' : Nat) : ∃ x,PC Tryz.V 105 [.str s,.int .i64 at'] x ∧ ∃ r q e : Int,x = .tup [.int .i64 r,.int .i64 q,.int .i64 e] ∧ (e = 0 → (at' : Int) < q ∧ q ≤ s.length) := by
  refine px_of 3000 Tryz.func105 rfl Tryz.ntmps105 Tryz.results105 Tryz.call105 (by simp) (by simp [flat,flat.flatL]) ?_
  have e0 : decide ((at' : Int) < 0) = false := decide_eq_false (by omega)
  by_cases hl : at' < s.length
  · have e1 : decide ((s.length : Int) ≤ at') = false := decide_eq_false (by omega)
    simp only [lawG,↓Xn,↓Xo,↓Xg,↓Xd,↓Xe,↓Xf,Tryz.VΓ,Tryz.Γs,Xp,Xi,Nat.reduceAdd,Nat.reduceSub,Nat.reduceLT,Nat.reduceLeDiff,reduceIte,reduceCtorEq,Nat.reduceEqDiff,implies_true,forall_const,lawV,lawA,beq_self_eq_true,bne_self_eq_false,Int.reduceBEq,Int.reduceBNe,Int.reduceLT,Int.reduceLE,e0,e1]
    refine loopV_mk (fun σ => ∃ (n : Nat),1 ≤ n ∧ n ≤ 5 ∧ lk 0 σ.t = some (.str s) ∧ lk 1 σ.t = some (.int .i64 at') ∧ lk 7 σ.t = some (.int .i64 n)) (fun σ => 5 - lkI 7 σ) ⟨1,by omega,by omega,rfl,rfl,rfl⟩ ?_
    rintro ⟨t,b⟩ ⟨n,hn1,hn5,h0,h1,h7⟩
    simp only at h0 h1 h7
    rw [lkI_eq h7]
    by_cases hn4 : n ≤ 4
    · have c1 : decide ((n : Int) ≤ 4) = true := decide_eq_true (by omega)
      by_cases hfit : at' + n ≤ s.length
      · have c2 : decide ((at' : Int) + n ≤ s.length) = true := decide_eq_true (by omega)
        simp only [lawG,↓Xn,↓Xo,↓Xg,↓Xd,↓Xe,↓Xf,Tryz.VΓ,Tryz.Γs,Xp,Xi,Nat.reduceAdd,Nat.reduceSub,Nat.reduceLT,Nat.reduceLeDiff,reduceIte,reduceCtorEq,Nat.reduceEqDiff,implies_true,forall_const,lawV,lawA,beq_self_eq_true,bne_self_eq_false,Int.reduceBEq,Int.reduceBNe,Int.reduceLT,Int.reduceLE,h0,h1,h7,c1,c2]
        have hl : (s.take ((at' : Int) + n).toNat |>.drop at').length = n := by
          rw [List.length_drop,List.length_take]; omega
        obtain ⟨x,p1,r,rfl⟩ := px_r2_value ((s.take ((at' : Int) + n).toNat).drop at') (by omega) (by omega)
        refine ⟨by omega,by omega,by omega,?_⟩
        (refine callV_pc (p1) ?_; simp only [lawG,↓Xn,↓Xo,↓Xg,↓Xd,↓Xe,↓Xf,Tryz.VΓ,Tryz.Γs,Xp,Xi,Nat.reduceAdd,Nat.reduceSub,Nat.reduceLT,Nat.reduceLeDiff,reduceIte,reduceCtorEq,Nat.reduceEqDiff,implies_true,forall_const,lawV,lawA,beq_self_eq_true,bne_self_eq_false,Int.reduceBEq,Int.reduceBNe,Int.reduceLT,Int.reduceLE,h0,h1,h7])
        obtain ⟨x,p2,u,e,rfl,hu⟩ := px_r2_Encode r
        (refine callV_pc (p2) ?_; simp only [lawG,↓Xn,↓Xo,↓Xg,↓Xd,↓Xe,↓Xf,Tryz.VΓ,Tryz.Γs,Xp,Xi,Nat.reduceAdd,Nat.reduceSub,Nat.reduceLT,Nat.reduceLeDiff,reduceIte,reduceCtorEq,Nat.reduceEqDiff,implies_true,forall_const,lawV,lawA,beq_self_eq_true,bne_self_eq_false,Int.reduceBEq,Int.reduceBNe,Int.reduceLT,Int.reduceLE,h0,h1,h7])
        cases he : e == 0
        · simp only [lawG,↓Xn,↓Xo,↓Xg,↓Xd,↓Xe,↓Xf,Tryz.VΓ,Tryz.Γs,Xp,Xi,Nat.reduceAdd,Nat.reduceSub,Nat.reduceLT,Nat.reduceLeDiff,reduceIte,reduceCtorEq,Nat.reduceEqDiff,implies_true,forall_const,lawV,lawA,beq_self_eq_true,bne_self_eq_false,Int.reduceBEq,Int.reduceBNe,Int.reduceLT,Int.reduceLE,h0,h1,h7,he]
          refine ⟨by omega,⟨n + 1,by omega,by omega,rfl⟩,?_⟩
          rw [lkI_eq (k := .i64) (n := (n : Int) + 1) rfl]; omega
        · simp only [lawG,↓Xn,↓Xo,↓Xg,↓Xd,↓Xe,↓Xf,Tryz.VΓ,Tryz.Γs,Xp,Xi,Nat.reduceAdd,Nat.reduceSub,Nat.reduceLT,Nat.reduceLeDiff,reduceIte,reduceCtorEq,Nat.reduceEqDiff,implies_true,forall_const,lawV,lawA,beq_self_eq_true,bne_self_eq_false,Int.reduceBEq,Int.reduceBNe,Int.reduceLT,Int.reduceLE,h0,h1,h7,he]
          refine ⟨by omega,by omega,fun _ => ⟨by omega,rfl,_,_,_,rfl,fun _ => ⟨by omega,by omega⟩⟩,fun _ => ⟨by omega,⟨n + 1,by omega,by omega,rfl⟩,?_⟩⟩
          rw [lkI_eq (k := .i64) (n := (n : Int) + 1) rfl]; omega
      · have c2 : decide ((at' : Int) + n ≤ s.length) = false := decide_eq_false (by omega)
        simp only [lawG,↓Xn,↓Xo,↓Xg,↓Xd,↓Xe,↓Xf,Tryz.VΓ,Tryz.Γs,Xp,Xi,Nat.reduceAdd,Nat.reduceSub,Nat.reduceLT,Nat.reduceLeDiff,reduceIte,reduceCtorEq,Nat.reduceEqDiff,implies_true,forall_const,lawV,lawA,beq_self_eq_true,bne_self_eq_false,Int.reduceBEq,Int.reduceBNe,Int.reduceLT,Int.reduceLE,h0,h1,h7,c1,c2]
        exact ⟨by omega,rfl,_,_,_,rfl,fun h => by simp at h⟩
    · have c1 : decide ((n : Int) ≤ 4) = false := decide_eq_false (by omega)
      simp only [lawG,↓Xn,↓Xo,↓Xg,↓Xd,↓Xe,↓Xf,Tryz.VΓ,Tryz.Γs,Xp,Xi,Nat.reduceAdd,Nat.reduceSub,Nat.reduceLT,Nat.reduceLeDiff,reduceIte,reduceCtorEq,Nat.reduceEqDiff,implies_true,forall_const,lawV,lawA,beq_self_eq_true,bne_self_eq_false,Int.reduceBEq,Int.reduceBNe,Int.reduceLT,Int.reduceLE,h0,h1,h7,c1]
      exact ⟨rfl,_,_,_,rfl,fun h => by simp at h⟩
  · have e1 : decide ((s.length : Int) ≤ at') = true := decide_eq_true (by omega)
    simp only [lawG,↓Xn,↓Xo,↓Xg,↓Xd,↓Xe,↓Xf,Tryz.VΓ,Tryz.Γs,Xp,Xi,Nat.reduceAdd,Nat.reduceSub,Nat.reduceLT,Nat.reduceLeDiff,reduceIte,reduceCtorEq,Nat.reduceEqDiff,implies_true,forall_const,lawV,lawA,beq_self_eq_true,bne_self_eq_false,Int.reduceBEq,Int.reduceBNe,Int.reduceLT,Int.reduceLE,e0,e1]
    exact ⟨rfl,_,_,_,rfl,fun h => by simp at h⟩
end Go.Proofs.YtejfjmcjicpodaaGreatDoor
/- The walks of ref04: parse,Parse,Hex. -/
set_option linter.all false
set_option maxRecDepth 20000
namespace Go.Proofs.YtejfjmcjicpodaaGreatDoor
open Go Vc Go.RowKit Wf
set_option linter.unusedSimpArgs false
theorem gD {s : Bytes} {q : Nat} (h : q < s.length) : s.getD q 0 = s[q] := by simp [List.getD,h]
theorem all_take {p : UInt8 → Bool} {s : Bytes} {q : Nat} (h : q < s.length) (h1 : (s.take q).all p = true) (h2 : p s[q] = true) : (s.take (q + 1)).all p = true := by
  rw [List.take_succ_eq_append_getElem h,List.all_append,h1]
  simp [h2]
theorem w64 (n : Int) (h0 : 0 ≤ n) (h1 : n < 18446744073709551616) : IntKind.u64.wrap n = n := by
  simp only [IntKind.wrap,IntKind.bits,IntKind.signed]
  simp
  omega
theorem quo_n (x y : Nat) (hx : x ≤ 4611686018427387904) : divI .quo .u64 (x : Int) (y : Int) = ((x / y : Nat) : Int) := by
  show IntKind.u64.wrap ((x : Int).tdiv (y : Int)) = _
  have h1 : ((x : Int).tdiv (y : Int)) = ((x / y : Nat) : Int) := by simp [Int.tdiv]
  rw [h1]
  have := Nat.div_le_self x y
  generalize x / y = z at this
  exact w64 _ (by omega) (by omega)
theorem hex_dig {c : UInt8} (h : isHex c = true) (h2 : c.toNat ≤ 57) : IntKind.u64.wrap (IntKind.u8.wrap ((c.toNat : Int) - 48)) = hexVal c := by
  have := all256 (p := fun c => !isHex c || !decide (c.toNat ≤ 57) || decide (IntKind.u64.wrap (IntKind.u8.wrap ((c.toNat : Int) - 48)) = hexVal c)) (by decide +kernel) c
  simpa [h,h2] using this
theorem hex_let {c : UInt8} (h : isHex c = true) (h2 : ¬ c.toNat ≤ 57) : IntKind.u64.wrap (IntKind.u64.wrap (IntKind.u64.wrap (bitI .or .u8 (c.toNat : Int) 32) - 97) + 10) = hexVal c := by
  have := all256 (p := fun c => !isHex c || decide (c.toNat ≤ 57) || decide (IntKind.u64.wrap (IntKind.u64.wrap (IntKind.u64.wrap (bitI .or .u8 (c.toNat : Int) 32) - 97) + 10) = hexVal c)) (by decide +kernel) c
  simpa [h,h2] using this
theorem dig_hex {c : UInt8} (h : isDigit c = true) : isHex c = true ∧ c.toNat ≤ 57 := by
  simp [isDigit] at h
  simp [isHex,h]
theorem num_fits {b m n d : Nat} (hb : 0 < b) (hd : d ≤ m) : m < n * b + d ↔ (m / b < n ∨ m - d < n * b) := by
  constructor
  · intro h; right; omega
  · rintro (h | h)
    · have h1 : m < (m / b + 1) * b := by
        have := Nat.lt_mul_div_succ m hb
        rw [Nat.mul_comm] at this; exact this
      have h2 : (m / b + 1) * b ≤ n * b := Nat.mul_le_mul_right _ h
      omega
    · omega
set_option maxHeartbeats 8000000 in
theorem p_r4_parse16 (s : Bytes) (m : Nat) (hs : s.length ≤ 9223372036854775807) (hm : m ≤ 4611686018427387904) (hm2 : 15 ≤ m) : PC Tryz.V 142 [.str s,.int .u64 16,.int .u64 m] (.tup [.int .u64 (numParse isHex 16 m s).1,.int .i64 (numParse isHex 16 m s).2]) := by
  refine pc_of 3000 Tryz.func142 rfl Tryz.ntmps142 Tryz.results142 Tryz.call142 (by simp) (by simp [flat,flat.flatL]) (by simp [flat,flat.flatL]) ?_
  by_cases hs0 : s = []
  · subst hs0
    simp only [lawG,↓Xn,↓Xo,↓Xg,↓Xd,↓Xe,↓Xf,Tryz.VΓ,Tryz.Γs,Xp,Xi,Nat.reduceAdd,Nat.reduceSub,Nat.reduceLT,Nat.reduceLeDiff,reduceIte,reduceCtorEq,Nat.reduceEqDiff,implies_true,forall_const,lawV,beq_self_eq_true,bne_self_eq_false,Int.reduceBEq,Int.reduceBNe,Int.reduceLT,Int.reduceLE]
    rfl
  have hb : (s == ([] : Bytes)) = false := beq_eq_false_iff_ne.2 hs0
  have hne : s.isEmpty = false := by cases s; exact absurd rfl hs0; rfl
  simp only [lawG,↓Xn,↓Xo,↓Xg,↓Xd,↓Xe,↓Xf,Tryz.VΓ,Tryz.Γs,Xp,Xi,Nat.reduceAdd,Nat.reduceSub,Nat.reduceLT,Nat.reduceLeDiff,reduceIte,reduceCtorEq,Nat.reduceEqDiff,implies_true,forall_const,lawV,hb,beq_self_eq_true,bne_self_eq_false,Int.reduceBEq,Int.reduceBNe,Int.reduceLT,Int.reduceLE]
  refine loopV_mk (fun σ => ∃ q : Nat,q ≤ s.length ∧ lk 0 σ.t = some (.str s) ∧ lk 1 σ.t = some (.int .u64 16) ∧ lk 2 σ.t = some (.int .u64 m) ∧ lk 8 σ.t = some (.int .i64 q) ∧ (s.take q).all isHex = true) (fun σ => s.length - lkI 8 σ) ⟨0,by omega,rfl,rfl,rfl,rfl,by simp⟩ ?_
  rintro ⟨t,b⟩ ⟨q,hq,h0,h1,h2,h8,hok⟩
  simp only at h0 h1 h2 h8
  rw [lkI_eq h8]
  by_cases hlt : q < s.length
  · have hlt2 : decide ((q : Int) < s.length) = true := decide_eq_true (by omega)
    have hg := gD hlt
    have ht := fun h => all_take (p := isHex) hlt hok h
    have hn := fun h => all_not (p := isHex) hlt h
    generalize s[q] = c at hg ht hn
    have p1 := p_r1_IsHex c
    simp only [lawG,↓Xn,↓Xo,↓Xg,↓Xd,↓Xe,↓Xf,Tryz.VΓ,Tryz.Γs,Xp,Xi,Nat.reduceAdd,Nat.reduceSub,Nat.reduceLT,Nat.reduceLeDiff,reduceIte,reduceCtorEq,Nat.reduceEqDiff,implies_true,forall_const,lawV,h0,h1,h2,h8,hlt2,hg,Int.toNat_natCast,beq_self_eq_true,bne_self_eq_false,Int.reduceBEq,Int.reduceBNe,Int.reduceLT,Int.reduceLE]
    refine ⟨⟨by omega,by omega⟩,?_⟩
    cases hc : isHex c
    · rw [hc] at p1
      (refine callV_pc (p1) ?_; simp only [lawG,↓Xn,↓Xo,↓Xg,↓Xd,↓Xe,↓Xf,Tryz.VΓ,Tryz.Γs,Xp,Xi,Nat.reduceAdd,Nat.reduceSub,Nat.reduceLT,Nat.reduceLeDiff,reduceIte,reduceCtorEq,Nat.reduceEqDiff,implies_true,forall_const,lawV,h0,h1,h2,h8,hlt2,hg,beq_self_eq_true,bne_self_eq_false,Int.reduceBEq,Int.reduceBNe,Int.reduceLT,Int.reduceLE])
      unfold numParse; rw [hne,hn hc]; rfl
    · rw [hc] at p1
      (refine callV_pc (p1) ?_; simp only [lawG,↓Xn,↓Xo,↓Xg,↓Xd,↓Xe,↓Xf,Tryz.VΓ,Tryz.Γs,Xp,Xi,Nat.reduceAdd,Nat.reduceSub,Nat.reduceLT,Nat.reduceLeDiff,reduceIte,reduceCtorEq,Nat.reduceEqDiff,implies_true,forall_const,lawV,h0,h1,h2,h8,hlt2,hg,beq_self_eq_true,bne_self_eq_false,Int.reduceBEq,Int.reduceBNe,Int.reduceLT,Int.reduceLE])
      refine ⟨⟨by omega,by omega⟩,⟨q + 1,by omega,rfl,ht hc⟩,?_⟩
      rw [lkI_eq (k := .i64) (n := (q : Int) + 1) rfl]; omega
  · have hie : q = s.length := by omega
    subst hie
    have hlt2 : decide ((s.length : Int) < s.length) = false := by simp
    rw [List.take_length] at hok
    simp only [lawG,↓Xn,↓Xo,↓Xg,↓Xd,↓Xe,↓Xf,Tryz.VΓ,Tryz.Γs,Xp,Xi,Nat.reduceAdd,Nat.reduceSub,Nat.reduceLT,Nat.reduceLeDiff,reduceIte,reduceCtorEq,Nat.reduceEqDiff,implies_true,forall_const,lawV,h0,h1,h2,h8,hlt2]
    refine loopV_mk (fun σ => ∃ q n : Nat,q ≤ s.length ∧ n ≤ m ∧ lk 0 σ.t = some (.str s) ∧ lk 1 σ.t = some (.int .u64 16) ∧ lk 2 σ.t = some (.int .u64 m) ∧ lk 9 σ.t = some (.int .u64 n) ∧ lk 10 σ.t = some (.int .i64 q) ∧ numGo 16 m n (s.drop q) = numGo 16 m 0 s) (fun σ => s.length - lkI 10 σ) ⟨0,0,by omega,by omega,h0,h1,h2,rfl,rfl,rfl⟩ ?_
    clear h0 h1 h2 h8
    clear t b
    rintro ⟨t,b⟩ ⟨q,n,hq,hnm,h0,h1,h2,h9,h10,hgo⟩
    simp only at h0 h1 h2 h9 h10
    rw [lkI_eq h10]
    by_cases hlt : q < s.length
    · have hlt2 : decide ((q : Int) < s.length) = true := decide_eq_true (by omega)
      have hg := gD hlt
      have hcl := all_get hok hlt
      have herr := fun h => numParse_err (cls := isHex) hne hok hgo hlt h
      have hnext := fun h => numParse_next hgo hlt h
      generalize s[q] = c at hg hcl herr hnext
      have hx : isHex c = true := by first | exact hcl | exact (dig_hex hcl).1
      have hv := hexVal_le hx
      have qn : divI .quo .u64 (m : Int) 16 = ((m / 16 : Nat) : Int) := quo_n m 16 hm
      have wn : IntKind.u64.wrap ((m : Int) - hexVal c) = (m : Int) - hexVal c := w64 _ (by omega) (by omega)
      have dm : decide ((m : Int) < hexVal c) = false := decide_eq_false (by omega)
      have fits := num_fits (b := 16) (m := m) (n := n) (d := hexVal c) (by omega) (by omega)
      have fin : ¬ m < n * 16 + hexVal c → ∃ q' n' : Nat,q' ≤ s.length ∧ n' ≤ m ∧ IntKind.u64.wrap (IntKind.u64.wrap ((n : Int) * 16) + hexVal c) = n' ∧ (q : Int) + 1 = q' ∧ numGo 16 m n' (s.drop q') = numGo 16 m 0 s := fun h => ⟨q + 1,n * 16 + hexVal c,by omega,by omega,by rw [w64 ((n : Int) * 16) (by omega) (by omega),w64 _ (by omega) (by omega)]; push_cast; rfl,rfl,hnext h⟩
      have hz : ∀ c' : UInt8,c' = c → True := fun _ _ => trivial
      by_cases h57 : c.toNat ≤ 57
      · have d57 : decide ((57 : Int) < c.toNat) = false := decide_eq_false (by omega)
        have hd := hex_dig hx h57
        simp only [lawG,↓Xn,↓Xo,↓Xg,↓Xd,↓Xe,↓Xf,Tryz.VΓ,Tryz.Γs,Xp,Xi,Nat.reduceAdd,Nat.reduceSub,Nat.reduceLT,Nat.reduceLeDiff,reduceIte,reduceCtorEq,Nat.reduceEqDiff,implies_true,forall_const,lawV,h0,h1,h2,h9,h10,hlt2,hg,hd,d57,qn,wn,dm,Int.toNat_natCast,beq_self_eq_true,bne_self_eq_false,Int.reduceBEq,Int.reduceBNe,Int.reduceLT,Int.reduceLE]
        repeat refine ⟨⟨by omega,by omega⟩,?_⟩
        refine ⟨by omega,fun k1 => ?_,fun k1 => ?_⟩
        · have k1 := of_decide_eq_false k1
          have wf : IntKind.u64.wrap ((n : Int) * 16) = (n : Int) * 16 := w64 _ (by omega) (by omega)
          rw [wf]
          refine ⟨fun k2 => ?_,fun k2 => ?_⟩
          · have k2 := of_decide_eq_false k2
            obtain ⟨q',n',f1,f2,f3,f4,f5⟩ := fin (by rw [fits]; omega)
            rw [wf] at f3
            refine ⟨⟨by omega,by omega⟩,⟨q',n',f1,f2,by rw [f3],by rw [f4],f5⟩,?_⟩
            rw [lkI_eq (k := .i64) (n := (q : Int) + 1) rfl]; omega
          · have k2 := of_decide_eq_true k2
            rw [← herr (fits.2 (by omega))]; rfl
        · have k1 := of_decide_eq_true k1
          rw [← herr (fits.2 (by omega))]; rfl
      · have d57 : decide ((57 : Int) < c.toNat) = true := decide_eq_true (by omega)
        have hd := hex_let hx h57
        simp only [lawG,↓Xn,↓Xo,↓Xg,↓Xd,↓Xe,↓Xf,Tryz.VΓ,Tryz.Γs,Xp,Xi,Nat.reduceAdd,Nat.reduceSub,Nat.reduceLT,Nat.reduceLeDiff,reduceIte,reduceCtorEq,Nat.reduceEqDiff,implies_true,forall_const,lawV,h0,h1,h2,h9,h10,hlt2,hg,hd,d57,qn,wn,dm,Int.toNat_natCast,beq_self_eq_true,bne_self_eq_false,Int.reduceBEq,Int.reduceBNe,Int.reduceLT,Int.reduceLE]
        repeat refine ⟨⟨by omega,by omega⟩,?_⟩
        refine ⟨by omega,fun k1 => ?_,fun k1 => ?_⟩
        · have k1 := of_decide_eq_false k1
          have wf : IntKind.u64.wrap ((n : Int) * 16) = (n : Int) * 16 := w64 _ (by omega) (by omega)
          rw [wf]
          refine ⟨fun k2 => ?_,fun k2 => ?_⟩
          · have k2 := of_decide_eq_false k2
            obtain ⟨q',n',f1,f2,f3,f4,f5⟩ := fin (by rw [fits]; omega)
            rw [wf] at f3
            refine ⟨⟨by omega,by omega⟩,⟨q',n',f1,f2,by rw [f3],by rw [f4],f5⟩,?_⟩
            rw [lkI_eq (k := .i64) (n := (q : Int) + 1) rfl]; omega
          · have k2 := of_decide_eq_true k2
            rw [← herr (fits.2 (by omega))]; rfl
        · have k1 := of_decide_eq_true k1
          rw [← herr (fits.2 (by omega))]; rfl
    · have hlt2 : decide ((q : Int) < s.length) = false := decide_eq_false (by omega)
      have hfin := numParse_done (cls := isHex) hne hok hgo hlt
      simp only [lawG,↓Xn,↓Xo,↓Xg,↓Xd,↓Xe,↓Xf,Tryz.VΓ,Tryz.Γs,Xp,Xi,Nat.reduceAdd,Nat.reduceSub,Nat.reduceLT,Nat.reduceLeDiff,reduceIte,reduceCtorEq,Nat.reduceEqDiff,implies_true,forall_const,lawV,h0,h1,h2,h9,h10,hlt2]
      rw [← hfin]
theorem p_r4_Hex (s : Bytes) (m : Nat) (hs : s.length ≤ 9223372036854775807) (hm : m ≤ 4611686018427387904) (hm2 : 15 ≤ m) : PC Tryz.V 133 [.str s,.int .u64 m] (.tup [.int .u64 (numParse isHex 16 m s).1,.int .i64 (numParse isHex 16 m s).2]) := by
  refine pc_of 3000 Tryz.func133 rfl Tryz.ntmps133 Tryz.results133 Tryz.call133 (by simp) (by simp [flat,flat.flatL]) (by simp [flat,flat.flatL]) ?_
  simp only [lawG,↓Xn,↓Xo,↓Xg,↓Xd,↓Xe,↓Xf,Tryz.VΓ,Tryz.Γs,Xp,Xi,Nat.reduceAdd,Nat.reduceSub,Nat.reduceLT,Nat.reduceLeDiff,reduceIte,reduceCtorEq,Nat.reduceEqDiff,implies_true,forall_const,lawV,beq_self_eq_true,bne_self_eq_false,Int.reduceBEq,Int.reduceBNe,Int.reduceLT,Int.reduceLE]
  (refine callV_pc (p_r4_parse16 s m hs hm hm2) ?_; simp only [lawG,↓Xn,↓Xo,↓Xg,↓Xd,↓Xe,↓Xf,Tryz.VΓ,Tryz.Γs,Xp,Xi,Nat.reduceAdd,Nat.reduceSub,Nat.reduceLT,Nat.reduceLeDiff,reduceIte,reduceCtorEq,Nat.reduceEqDiff,implies_true,forall_const,lawV,beq_self_eq_true,bne_self_eq_false,Int.reduceBEq,Int.reduceBNe,Int.reduceLT,Int.reduceLE])
end Go.Proofs.YtejfjmcjicpodaaGreatDoor
/- ref13: some exact results: white,tail,run,numeral,exponent,unit. -/
set_option linter.all false
set_option maxRecDepth 20000
namespace Go.Proofs.YtejfjmcjicpodaaGreatDoor
open Go Vc Go.RowKit Wf
set_option linter.unusedSimpArgs false
theorem p_r13_white (c : UInt8) : PC Tryz.V 85 [.int .u8 c.toNat] (.bool (([32,9,10,13] : Bytes).contains c)) := by
  have p1 := p_r1_In c [32,9,10,13] (by simp)
  refine pc_of 3000 Tryz.func85 rfl Tryz.ntmps85 Tryz.results85 Tryz.call85 (by simp) (by simp [flat,flat.flatL]) (by simp [flat,flat.flatL]) ?_
  simp only [lawG,↓Xn,↓Xo,↓Xg,↓Xd,↓Xe,↓Xf,Tryz.VΓ,Tryz.Γs,Xp,Xi,Nat.reduceAdd,Nat.reduceSub,Nat.reduceLT,Nat.reduceLeDiff,reduceIte,reduceCtorEq,Nat.reduceEqDiff,implies_true,forall_const,lawV]
  (refine callV_pc (p1) ?_; simp only [lawG,↓Xn,↓Xo,↓Xg,↓Xd,↓Xe,↓Xf,Tryz.VΓ,Tryz.Γs,Xp,Xi,Nat.reduceAdd,Nat.reduceSub,Nat.reduceLT,Nat.reduceLeDiff,reduceIte,reduceCtorEq,Nat.reduceEqDiff,implies_true,forall_const,lawV,lawA,beq_self_eq_true,bne_self_eq_false,Int.reduceBEq,Int.reduceBNe,Int.reduceLT,Int.reduceLE])
theorem p_r13_tail (s : Bytes) (hs : s.length ≤ 2000000) (a : Nat) : PC Tryz.V 83 [.str s,.int .i64 a] (.str (s.drop a)) := by
  refine pc_of 3000 Tryz.func83 rfl Tryz.ntmps83 Tryz.results83 Tryz.call83 (by simp) (by simp [flat,flat.flatL]) (by simp [flat,flat.flatL]) ?_
  by_cases h : s.length ≤ a
  · have h1 : decide ((s.length : Int) ≤ a) = true := decide_eq_true (by omega)
    have h2 : s.drop a = [] := List.drop_eq_nil_of_le h
    simp only [lawG,↓Xn,↓Xo,↓Xg,↓Xd,↓Xe,↓Xf,Tryz.VΓ,Tryz.Γs,Xp,Xi,Nat.reduceAdd,Nat.reduceSub,Nat.reduceLT,Nat.reduceLeDiff,reduceIte,reduceCtorEq,Nat.reduceEqDiff,implies_true,forall_const,lawV,lawA,beq_self_eq_true,bne_self_eq_false,Int.reduceBEq,Int.reduceBNe,Int.reduceLT,Int.reduceLE,h1]
    rw [h2]
  · have h1 : decide ((s.length : Int) ≤ a) = false := decide_eq_false (by omega)
    simp only [lawG,↓Xn,↓Xo,↓Xg,↓Xd,↓Xe,↓Xf,Tryz.VΓ,Tryz.Γs,Xp,Xi,Nat.reduceAdd,Nat.reduceSub,Nat.reduceLT,Nat.reduceLeDiff,reduceIte,reduceCtorEq,Nat.reduceEqDiff,implies_true,forall_const,lawV,lawA,beq_self_eq_true,bne_self_eq_false,Int.reduceBEq,Int.reduceBNe,Int.reduceLT,Int.reduceLE,h1]
    exact ⟨by omega,by omega⟩
theorem px_r13_run (s : Bytes) (hs : s.length ≤ 2000000) : ∃ x,PC Tryz.V 103 [.str s] x ∧ ∃ n : Nat,x = .int .i64 n ∧ n ≤ s.length := by
  refine px_of 3000 Tryz.func103 rfl Tryz.ntmps103 Tryz.results103 Tryz.call103 (by simp) (by simp [flat,flat.flatL]) ?_
  simp only [lawG,↓Xn,↓Xo,↓Xg,↓Xd,↓Xe,↓Xf,Tryz.VΓ,Tryz.Γs,Xp,Xi,Nat.reduceAdd,Nat.reduceSub,Nat.reduceLT,Nat.reduceLeDiff,reduceIte,reduceCtorEq,Nat.reduceEqDiff,implies_true,forall_const,lawV,lawA,beq_self_eq_true,bne_self_eq_false,Int.reduceBEq,Int.reduceBNe,Int.reduceLT,Int.reduceLE]
  refine loopV_mk (fun σ => ∃ k : Nat,k ≤ s.length ∧ lk 0 σ.t = some (.str s) ∧ lk 3 σ.t = some (.int .i64 k)) (fun σ => s.length - lkI 3 σ) ⟨0,by omega,rfl,rfl⟩ ?_
  rintro ⟨t,b⟩ ⟨k,hk,h0,h3⟩
  simp only at h0 h3
  rw [lkI_eq h3]
  by_cases hlt : k < s.length
  · have hlt2 : decide ((k : Int) < s.length) = true := decide_eq_true (by omega)
    have p1 := p_r1_IsDigit (s.getD k 0)
    simp only [lawG,↓Xn,↓Xo,↓Xg,↓Xd,↓Xe,↓Xf,Tryz.VΓ,Tryz.Γs,Xp,Xi,Nat.reduceAdd,Nat.reduceSub,Nat.reduceLT,Nat.reduceLeDiff,reduceIte,reduceCtorEq,Nat.reduceEqDiff,implies_true,forall_const,lawV,lawA,beq_self_eq_true,bne_self_eq_false,Int.reduceBEq,Int.reduceBNe,Int.reduceLT,Int.reduceLE,h0,h3,hlt2]
    refine ⟨by omega,?_⟩
    (refine callV_pc (p1) ?_; simp only [lawG,↓Xn,↓Xo,↓Xg,↓Xd,↓Xe,↓Xf,Tryz.VΓ,Tryz.Γs,Xp,Xi,Nat.reduceAdd,Nat.reduceSub,Nat.reduceLT,Nat.reduceLeDiff,reduceIte,reduceCtorEq,Nat.reduceEqDiff,implies_true,forall_const,lawV,lawA,beq_self_eq_true,bne_self_eq_false,Int.reduceBEq,Int.reduceBNe,Int.reduceLT,Int.reduceLE,h0,h3])
    cases hd : isDigit (s.getD k 0)
    · simp only [lawG,↓Xn,↓Xo,↓Xg,↓Xd,↓Xe,↓Xf,Tryz.VΓ,Tryz.Γs,Xp,Xi,Nat.reduceAdd,Nat.reduceSub,Nat.reduceLT,Nat.reduceLeDiff,reduceIte,reduceCtorEq,Nat.reduceEqDiff,implies_true,forall_const,lawV,lawA,beq_self_eq_true,bne_self_eq_false,Int.reduceBEq,Int.reduceBNe,Int.reduceLT,Int.reduceLE,h0,h3,hd]
      exact ⟨rfl,k,rfl,hk⟩
    · simp only [lawG,↓Xn,↓Xo,↓Xg,↓Xd,↓Xe,↓Xf,Tryz.VΓ,Tryz.Γs,Xp,Xi,Nat.reduceAdd,Nat.reduceSub,Nat.reduceLT,Nat.reduceLeDiff,reduceIte,reduceCtorEq,Nat.reduceEqDiff,implies_true,forall_const,lawV,lawA,beq_self_eq_true,bne_self_eq_false,Int.reduceBEq,Int.reduceBNe,Int.reduceLT,Int.reduceLE,h0,h3,hd]
      refine ⟨by omega,⟨k + 1,by omega,rfl⟩,?_⟩
      rw [lkI_eq (k := .i64) (n := (k : Int) + 1) rfl]; omega
  · have hlt2 : decide ((k : Int) < s.length) = false := decide_eq_false (by omega)
    simp only [lawG,↓Xn,↓Xo,↓Xg,↓Xd,↓Xe,↓Xf,Tryz.VΓ,Tryz.Γs,Xp,Xi,Nat.reduceAdd,Nat.reduceSub,Nat.reduceLT,Nat.reduceLeDiff,reduceIte,reduceCtorEq,Nat.reduceEqDiff,implies_true,forall_const,lawV,lawA,beq_self_eq_true,bne_self_eq_false,Int.reduceBEq,Int.reduceBNe,Int.reduceLT,Int.reduceLE,h0,h3,hlt2]
    exact ⟨rfl,k,rfl,hk⟩
theorem w_dig (x : Int) : 0 ≤ IntKind.i64.wrap (IntKind.u8.wrap x) ∧ IntKind.i64.wrap (IntKind.u8.wrap x) < 256 := by
  have e : IntKind.u8.wrap x = x % 256 := rfl
  rw [e]
  simp only [IntKind.wrap,IntKind.bits,IntKind.signed]
  simp
  omega
set_option maxHeartbeats 4000000 in
theorem px_r13_exponent (s : Bytes) (hs : s.length ≤ 2000000) : ∃ x,PC Tryz.V 82 [.str s] x ∧ ∃ n : Int,x = .int .i64 n ∧ -1073741824 ≤ n ∧ n ≤ 1073741824 := by
  refine px_of 3000 Tryz.func82 rfl Tryz.ntmps82 Tryz.results82 Tryz.call82 (by simp) (by simp [flat,flat.flatL]) ?_
  simp only [lawG,↓Xn,↓Xo,↓Xg,↓Xd,↓Xe,↓Xf,Tryz.VΓ,Tryz.Γs,Xp,Xi,Nat.reduceAdd,Nat.reduceSub,Nat.reduceLT,Nat.reduceLeDiff,reduceIte,reduceCtorEq,Nat.reduceEqDiff,implies_true,forall_const,lawV,lawA,beq_self_eq_true,bne_self_eq_false,Int.reduceBEq,Int.reduceBNe,Int.reduceLT,Int.reduceLE]
  refine ⟨fun h => ?_,fun h => ?_⟩
  · have hl : 0 < s.length := by
      cases s with
      | nil => simp at h
      | cons a l => simp
    refine ⟨by omega,fun _ => ⟨by omega,?_⟩,fun h2 => (by rw [h] at h2; cases h2)⟩
    have p1 := p_r1_In (s.getD 0 0) [43,45] (by simp)
    refine callV_pc p1 ?_
    cases hc : ([43,45] : Bytes).contains (s.getD 0 0)
    · simp only [lawG,↓Xn,↓Xo,↓Xg,↓Xd,↓Xe,↓Xf,Tryz.VΓ,Tryz.Γs,Xp,Xi,Nat.reduceAdd,Nat.reduceSub,Nat.reduceLT,Nat.reduceLeDiff,reduceIte,reduceCtorEq,Nat.reduceEqDiff,implies_true,forall_const,lawV,lawA,beq_self_eq_true,bne_self_eq_false,Int.reduceBEq,Int.reduceBNe,Int.reduceLT,Int.reduceLE]
      (refine loopV_mk (fun σ => ∃ (k : Nat) (n : Int),k ≤ (s).length ∧ 0 ≤ n ∧ n ≤ 1073741824 ∧ lk 0 σ.t = some (.str (s)) ∧ lk 3 σ.t = some (.bool (((s.getD 0 0).toNat : Int) == 45)) ∧ lk 4 σ.t = some (.int .i64 n) ∧ lk 5 σ.t = some (.int .i64 k)) (fun σ => (s).length - lkI 5 σ) ⟨0,0,by omega,by omega,by omega,rfl,rfl,rfl,rfl⟩ ?_
       rintro ⟨t,b⟩ ⟨k,n,hk,hn0,hn1,h0,h3,h4,h5⟩
       simp only at h0 h3 h4 h5
       rw [lkI_eq h5]
       by_cases hlt : k < (s).length
       · have hlt2 : decide ((k : Int) < (s).length) = true := decide_eq_true (by omega)
         have hu := w_dig (((s).getD k 0).toNat - 48 : Int)
         simp only [lawG,↓Xn,↓Xo,↓Xg,↓Xd,↓Xe,↓Xf,Tryz.VΓ,Tryz.Γs,Xp,Xi,Nat.reduceAdd,Nat.reduceSub,Nat.reduceLT,Nat.reduceLeDiff,reduceIte,reduceCtorEq,Nat.reduceEqDiff,implies_true,forall_const,lawV,lawA,beq_self_eq_true,bne_self_eq_false,Int.reduceBEq,Int.reduceBNe,Int.reduceLT,Int.reduceLE,h0,h3,h4,h5,hlt2]
         generalize IntKind.i64.wrap (IntKind.u8.wrap (((s).getD k 0).toNat - 48 : Int)) = d at *
         refine ⟨by omega,by omega,by omega,by omega,⟨k + 1,if 1073741824 < n * 10 + d then 1073741824 else n * 10 + d,by omega,by split <;> omega,by split <;> omega,rfl,rfl⟩,?_⟩
         rw [lkI_eq (k := .i64) (n := (k : Int) + 1) rfl]; omega
       · have hlt2 : decide ((k : Int) < (s).length) = false := decide_eq_false (by omega)
         cases hb : (((s.getD 0 0).toNat : Int) == 45) <;> rw [hb] at h3
         · simp only [lawG,↓Xn,↓Xo,↓Xg,↓Xd,↓Xe,↓Xf,Tryz.VΓ,Tryz.Γs,Xp,Xi,Nat.reduceAdd,Nat.reduceSub,Nat.reduceLT,Nat.reduceLeDiff,reduceIte,reduceCtorEq,Nat.reduceEqDiff,implies_true,forall_const,lawV,lawA,beq_self_eq_true,bne_self_eq_false,Int.reduceBEq,Int.reduceBNe,Int.reduceLT,Int.reduceLE,h0,h3,h4,h5,hlt2]
           exact ⟨rfl,_,rfl,by omega,by omega⟩
         · first
           | exact absurd hb (by decide)
           | (simp only [lawG,↓Xn,↓Xo,↓Xg,↓Xd,↓Xe,↓Xf,Tryz.VΓ,Tryz.Γs,Xp,Xi,Nat.reduceAdd,Nat.reduceSub,Nat.reduceLT,Nat.reduceLeDiff,reduceIte,reduceCtorEq,Nat.reduceEqDiff,implies_true,forall_const,lawV,lawA,beq_self_eq_true,bne_self_eq_false,Int.reduceBEq,Int.reduceBNe,Int.reduceLT,Int.reduceLE,h0,h3,h4,h5,hlt2]; exact ⟨by omega,rfl,_,rfl,by omega,by omega⟩))
    · simp only [lawG,↓Xn,↓Xo,↓Xg,↓Xd,↓Xe,↓Xf,Tryz.VΓ,Tryz.Γs,Xp,Xi,Nat.reduceAdd,Nat.reduceSub,Nat.reduceLT,Nat.reduceLeDiff,reduceIte,reduceCtorEq,Nat.reduceEqDiff,implies_true,forall_const,lawV,lawA,beq_self_eq_true,bne_self_eq_false,Int.reduceBEq,Int.reduceBNe,Int.reduceLT,Int.reduceLE]
      have hl1 : (s.drop 1).length ≤ 2000000 := by rw [List.length_drop]; omega
      refine ⟨by omega,?_⟩
      (refine loopV_mk (fun σ => ∃ (k : Nat) (n : Int),k ≤ (s.drop 1).length ∧ 0 ≤ n ∧ n ≤ 1073741824 ∧ lk 0 σ.t = some (.str (s.drop 1)) ∧ lk 3 σ.t = some (.bool (((s.getD 0 0).toNat : Int) == 45)) ∧ lk 4 σ.t = some (.int .i64 n) ∧ lk 5 σ.t = some (.int .i64 k)) (fun σ => (s.drop 1).length - lkI 5 σ) ⟨0,0,by omega,by omega,by omega,rfl,rfl,rfl,rfl⟩ ?_
       rintro ⟨t,b⟩ ⟨k,n,hk,hn0,hn1,h0,h3,h4,h5⟩
       simp only at h0 h3 h4 h5
       rw [lkI_eq h5]
       by_cases hlt : k < (s.drop 1).length
       · have hlt2 : decide ((k : Int) < (s.drop 1).length) = true := decide_eq_true (by omega)
         have hu := w_dig (((s.drop 1).getD k 0).toNat - 48 : Int)
         simp only [lawG,↓Xn,↓Xo,↓Xg,↓Xd,↓Xe,↓Xf,Tryz.VΓ,Tryz.Γs,Xp,Xi,Nat.reduceAdd,Nat.reduceSub,Nat.reduceLT,Nat.reduceLeDiff,reduceIte,reduceCtorEq,Nat.reduceEqDiff,implies_true,forall_const,lawV,lawA,beq_self_eq_true,bne_self_eq_false,Int.reduceBEq,Int.reduceBNe,Int.reduceLT,Int.reduceLE,h0,h3,h4,h5,hlt2]
         generalize IntKind.i64.wrap (IntKind.u8.wrap (((s.drop 1).getD k 0).toNat - 48 : Int)) = d at *
         refine ⟨by omega,by omega,by omega,by omega,⟨k + 1,if 1073741824 < n * 10 + d then 1073741824 else n * 10 + d,by omega,by split <;> omega,by split <;> omega,rfl,rfl⟩,?_⟩
         rw [lkI_eq (k := .i64) (n := (k : Int) + 1) rfl]; omega
       · have hlt2 : decide ((k : Int) < (s.drop 1).length) = false := decide_eq_false (by omega)
         cases hb : (((s.getD 0 0).toNat : Int) == 45) <;> rw [hb] at h3
         · simp only [lawG,↓Xn,↓Xo,↓Xg,↓Xd,↓Xe,↓Xf,Tryz.VΓ,Tryz.Γs,Xp,Xi,Nat.reduceAdd,Nat.reduceSub,Nat.reduceLT,Nat.reduceLeDiff,reduceIte,reduceCtorEq,Nat.reduceEqDiff,implies_true,forall_const,lawV,lawA,beq_self_eq_true,bne_self_eq_false,Int.reduceBEq,Int.reduceBNe,Int.reduceLT,Int.reduceLE,h0,h3,h4,h5,hlt2]
           exact ⟨rfl,_,rfl,by omega,by omega⟩
         · first
           | exact absurd hb (by decide)
           | (simp only [lawG,↓Xn,↓Xo,↓Xg,↓Xd,↓Xe,↓Xf,Tryz.VΓ,Tryz.Γs,Xp,Xi,Nat.reduceAdd,Nat.reduceSub,Nat.reduceLT,Nat.reduceLeDiff,reduceIte,reduceCtorEq,Nat.reduceEqDiff,implies_true,forall_const,lawV,lawA,beq_self_eq_true,bne_self_eq_false,Int.reduceBEq,Int.reduceBNe,Int.reduceLT,Int.reduceLE,h0,h3,h4,h5,hlt2]; exact ⟨by omega,rfl,_,rfl,by omega,by omega⟩))
  · refine ⟨fun h2 => (by rw [h] at h2; cases h2),fun _ => ?_⟩
    (refine loopV_mk (fun σ => ∃ (k : Nat) (n : Int),k ≤ (s).length ∧ 0 ≤ n ∧ n ≤ 1073741824 ∧ lk 0 σ.t = some (.str (s)) ∧ lk 3 σ.t = some (.bool (false)) ∧ lk 4 σ.t = some (.int .i64 n) ∧ lk 5 σ.t = some (.int .i64 k)) (fun σ => (s).length - lkI 5 σ) ⟨0,0,by omega,by omega,by omega,rfl,rfl,rfl,rfl⟩ ?_
     rintro ⟨t,b⟩ ⟨k,n,hk,hn0,hn1,h0,h3,h4,h5⟩
     simp only at h0 h3 h4 h5
     rw [lkI_eq h5]
     by_cases hlt : k < (s).length
     · have hlt2 : decide ((k : Int) < (s).length) = true := decide_eq_true (by omega)
       have hu := w_dig (((s).getD k 0).toNat - 48 : Int)
       simp only [lawG,↓Xn,↓Xo,↓Xg,↓Xd,↓Xe,↓Xf,Tryz.VΓ,Tryz.Γs,Xp,Xi,Nat.reduceAdd,Nat.reduceSub,Nat.reduceLT,Nat.reduceLeDiff,reduceIte,reduceCtorEq,Nat.reduceEqDiff,implies_true,forall_const,lawV,lawA,beq_self_eq_true,bne_self_eq_false,Int.reduceBEq,Int.reduceBNe,Int.reduceLT,Int.reduceLE,h0,h3,h4,h5,hlt2]
       generalize IntKind.i64.wrap (IntKind.u8.wrap (((s).getD k 0).toNat - 48 : Int)) = d at *
       refine ⟨by omega,by omega,by omega,by omega,⟨k + 1,if 1073741824 < n * 10 + d then 1073741824 else n * 10 + d,by omega,by split <;> omega,by split <;> omega,rfl,rfl⟩,?_⟩
       rw [lkI_eq (k := .i64) (n := (k : Int) + 1) rfl]; omega
     · have hlt2 : decide ((k : Int) < (s).length) = false := decide_eq_false (by omega)
       cases hb : (false) <;> rw [hb] at h3
       · simp only [lawG,↓Xn,↓Xo,↓Xg,↓Xd,↓Xe,↓Xf,Tryz.VΓ,Tryz.Γs,Xp,Xi,Nat.reduceAdd,Nat.reduceSub,Nat.reduceLT,Nat.reduceLeDiff,reduceIte,reduceCtorEq,Nat.reduceEqDiff,implies_true,forall_const,lawV,lawA,beq_self_eq_true,bne_self_eq_false,Int.reduceBEq,Int.reduceBNe,Int.reduceLT,Int.reduceLE,h0,h3,h4,h5,hlt2]
         exact ⟨rfl,_,rfl,by omega,by omega⟩
       · first
         | exact absurd hb (by decide)
         | (simp only [lawG,↓Xn,↓Xo,↓Xg,↓Xd,↓Xe,↓Xf,Tryz.VΓ,Tryz.Γs,Xp,Xi,Nat.reduceAdd,Nat.reduceSub,Nat.reduceLT,Nat.reduceLeDiff,reduceIte,reduceCtorEq,Nat.reduceEqDiff,implies_true,forall_const,lawV,lawA,beq_self_eq_true,bne_self_eq_false,Int.reduceBEq,Int.reduceBNe,Int.reduceLT,Int.reduceLE,h0,h3,h4,h5,hlt2]; exact ⟨by omega,rfl,_,rfl,by omega,by omega⟩))
end Go.Proofs.YtejfjmcjicpodaaGreatDoor
/- ref13: some exact results: numeral,unit,Number; ref04.Format. -/
set_option linter.all false
set_option maxRecDepth 20000
namespace Go.Proofs.YtejfjmcjicpodaaGreatDoor
open Go Vc Go.RowKit Wf
set_option linter.unusedSimpArgs false
theorem wi64 (n : Nat) (h : n ≤ 4611686018427387904) : IntKind.i64.wrap (n : Int) = n := by
  simp only [IntKind.wrap,IntKind.bits,IntKind.signed]
  simp
  omega
set_option maxHeartbeats 4000000 in
theorem px_r13_unit (s : Bytes) (hs : s.length ≤ 2000000) (a : Nat) (ha : a ≤ 2000010) : ∃ x,PC Tryz.V 117 [.str s,.int .i64 a] x ∧ ∃ (n : Nat) (ok : Bool),x = .tup [.int .i64 n,.bool ok] ∧ n ≤ 65535 ∧ (ok = true → a + 6 ≤ s.length) := by
  refine px_of 3000 Tryz.func117 rfl Tryz.ntmps117 Tryz.results117 Tryz.call117 (by simp) (by simp [flat,flat.flatL]) ?_
  by_cases h : s.length < a + 6
  · have h1 : decide ((s.length : Int) < (a : Int) + 6) = true := decide_eq_true (by omega)
    simp only [lawG,↓Xn,↓Xo,↓Xg,↓Xd,↓Xe,↓Xf,Tryz.VΓ,Tryz.Γs,Xp,Xi,Nat.reduceAdd,Nat.reduceSub,Nat.reduceLT,Nat.reduceLeDiff,reduceIte,reduceCtorEq,Nat.reduceEqDiff,implies_true,forall_const,lawV,lawA,beq_self_eq_true,bne_self_eq_false,Int.reduceBEq,Int.reduceBNe,Int.reduceLT,Int.reduceLE,h1]
    exact ⟨by omega,rfl,0,false,rfl,by omega,by simp⟩
  · have h1 : decide ((s.length : Int) < (a : Int) + 6) = false := decide_eq_false (by omega)
    have hl : ((s.take ((a : Int) + 6).toNat).drop (a + 2)).length = 4 := by
      rw [List.length_drop,List.length_take]; omega
    have p1 := p_r4_Hex ((s.take ((a : Int) + 6).toNat).drop (a + 2)) 65535 (by omega) (by omega) (by omega)
    have hn := numParse_le isHex 16 65535 ((s.take ((a : Int) + 6).toNat).drop (a + 2))
    simp only [lawG,↓Xn,↓Xo,↓Xg,↓Xd,↓Xe,↓Xf,Tryz.VΓ,Tryz.Γs,Xp,Xi,Nat.reduceAdd,Nat.reduceSub,Nat.reduceLT,Nat.reduceLeDiff,reduceIte,reduceCtorEq,Nat.reduceEqDiff,implies_true,forall_const,lawV,lawA,beq_self_eq_true,bne_self_eq_false,Int.reduceBEq,Int.reduceBNe,Int.reduceLT,Int.reduceLE,h1]
    refine ⟨by omega,by omega,fun _ => ⟨by omega,by omega,fun _ => ⟨rfl,0,false,rfl,by omega,by simp⟩,fun _ => ⟨by omega,by omega,by omega,?_⟩⟩,fun _ => ⟨rfl,0,false,rfl,by omega,by simp⟩⟩
    (refine callV_pc (p1) ?_; simp only [lawG,↓Xn,↓Xo,↓Xg,↓Xd,↓Xe,↓Xf,Tryz.VΓ,Tryz.Γs,Xp,Xi,Nat.reduceAdd,Nat.reduceSub,Nat.reduceLT,Nat.reduceLeDiff,reduceIte,reduceCtorEq,Nat.reduceEqDiff,implies_true,forall_const,lawV,lawA,beq_self_eq_true,bne_self_eq_false,Int.reduceBEq,Int.reduceBNe,Int.reduceLT,Int.reduceLE])
    rw [wi64 _ (by omega)]
    exact ⟨rfl,_,_,rfl,hn,fun _ => by omega⟩
def NumJ (s : Bytes) (σ : St) : Prop := ∃ i : Nat,i ≤ s.length ∧ lk 0 σ.t = some (.str s) ∧ lk 3 σ.t = some (.int .i64 i)
def NumK (s : Bytes) (σ : St) : Prop := ∃ i : Nat,i < s.length ∧ lk 0 σ.t = some (.str s) ∧ lk 3 σ.t = some (.int .i64 i)
set_option maxHeartbeats 4000000 in
theorem px_r13_numeral (s : Bytes) (hs : s.length ≤ 2000000) : ∃ x,PC Tryz.V 81 [.str s] x ∧ ∃ n : Nat,x = .int .i64 n ∧ n ≤ s.length := by
  refine px_of 3000 Tryz.func81 rfl Tryz.ntmps81 Tryz.results81 Tryz.call81 (by simp) (by simp [flat,flat.flatL]) ?_
  refine vcS_cutS 2900 (fun σ => lk 0 σ.t = some (.str s)) ?_ (fun k' hk' => ?_)
  rotate_left
  · simp only [lawG,↓Xn,↓Xo,↓Xg,↓Xd,↓Xe,↓Xf,Tryz.VΓ,Tryz.Γs,Xp,Xi,Nat.reduceAdd,Nat.reduceSub,Nat.reduceLT,Nat.reduceLeDiff,reduceIte,reduceCtorEq,Nat.reduceEqDiff,implies_true,forall_const,lawV,lawA,beq_self_eq_true,bne_self_eq_false,Int.reduceBEq,Int.reduceBNe,Int.reduceLT,Int.reduceLE]
    exact hk' _ _ rfl
  rintro m ⟨t,b⟩ h0
  simp only at h0
  refine vcS_cutS 2800 (NumJ s) ?_ (fun k' hk' => ?_)
  rotate_left
  · simp only [lawG,↓Xn,↓Xo,↓Xg,↓Xd,↓Xe,↓Xf,Tryz.VΓ,Tryz.Γs,Xp,Xi,Nat.reduceAdd,Nat.reduceSub,Nat.reduceLT,Nat.reduceLeDiff,reduceIte,reduceCtorEq,Nat.reduceEqDiff,implies_true,forall_const,lawV,lawA,beq_self_eq_true,bne_self_eq_false,Int.reduceBEq,Int.reduceBNe,Int.reduceLT,Int.reduceLE,h0]
    exact hk' _ _ ⟨0,by omega,by simp [lk,h0],rfl⟩
  rintro m ⟨t,b⟩ ⟨i,hi,h0,h3⟩
  simp only at h0 h3
  refine vcS_cutS 2700 (NumJ s) ?_ (fun k' hk' => ?_)
  rotate_left
  · simp only [lawG,↓Xn,↓Xo,↓Xg,↓Xd,↓Xe,↓Xf,Tryz.VΓ,Tryz.Γs,Xp,Xi,Nat.reduceAdd,Nat.reduceSub,Nat.reduceLT,Nat.reduceLeDiff,reduceIte,reduceCtorEq,Nat.reduceEqDiff,implies_true,forall_const,lawV,lawA,beq_self_eq_true,bne_self_eq_false,Int.reduceBEq,Int.reduceBNe,Int.reduceLT,Int.reduceLE,h0,h3]
    refine ⟨fun h => ⟨by simp at h; omega,fun _ => ⟨by omega,hk' _ _ ⟨i + 1,by simp at h; omega,by simp [lk,h0],rfl⟩⟩,fun _ => hk' _ _ ⟨i,hi,by simp [lk,h0],by simp [lk,h3]⟩⟩,fun _ => hk' _ _ ⟨i,hi,by simp [lk,h0],by simp [lk,h3]⟩⟩
  rintro m ⟨t,b⟩ ⟨i,hi,h0,h3⟩
  simp only at h0 h3
  refine vcS_cutS 2600 (NumK s) ?_ (fun k' hk' => ?_)
  rotate_left
  · simp only [lawG,↓Xn,↓Xo,↓Xg,↓Xd,↓Xe,↓Xf,Tryz.VΓ,Tryz.Γs,Xp,Xi,Nat.reduceAdd,Nat.reduceSub,Nat.reduceLT,Nat.reduceLeDiff,reduceIte,reduceCtorEq,Nat.reduceEqDiff,implies_true,forall_const,lawV,lawA,beq_self_eq_true,bne_self_eq_false,Int.reduceBEq,Int.reduceBNe,Int.reduceLT,Int.reduceLE,h0,h3]
    refine ⟨fun h => ⟨by simp at h; omega,?_⟩,fun _ => ⟨rfl,0,rfl,by omega⟩⟩
    have p1 := p_r1_IsDigit (s.getD i 0)
    refine callV_pc p1 ?_
    cases hd : isDigit (s.getD i 0)
    · simp only [lawG,↓Xn,↓Xo,↓Xg,↓Xd,↓Xe,↓Xf,Tryz.VΓ,Tryz.Γs,Xp,Xi,Nat.reduceAdd,Nat.reduceSub,Nat.reduceLT,Nat.reduceLeDiff,reduceIte,reduceCtorEq,Nat.reduceEqDiff,implies_true,forall_const,lawV,lawA,beq_self_eq_true,bne_self_eq_false,Int.reduceBEq,Int.reduceBNe,Int.reduceLT,Int.reduceLE,h0,h3,hd]
      exact ⟨rfl,0,rfl,by omega⟩
    · simp only [lawG,↓Xn,↓Xo,↓Xg,↓Xd,↓Xe,↓Xf,Tryz.VΓ,Tryz.Γs,Xp,Xi,Nat.reduceAdd,Nat.reduceSub,Nat.reduceLT,Nat.reduceLeDiff,reduceIte,reduceCtorEq,Nat.reduceEqDiff,implies_true,forall_const,lawV,lawA,beq_self_eq_true,bne_self_eq_false,Int.reduceBEq,Int.reduceBNe,Int.reduceLT,Int.reduceLE,h0,h3,hd]
      exact hk' _ _ ⟨i,by simp at h; omega,by simp [lk,h0],by simp [lk,h3]⟩
  rintro m ⟨t,b⟩ ⟨i,hi,h0,h3⟩
  simp only at h0 h3
  refine vcS_cutS 2500 (NumJ s) ?_ (fun k' hk' => ?_)
  rotate_left
  · simp only [lawG,↓Xn,↓Xo,↓Xg,↓Xd,↓Xe,↓Xf,Tryz.VΓ,Tryz.Γs,Xp,Xi,Nat.reduceAdd,Nat.reduceSub,Nat.reduceLT,Nat.reduceLeDiff,reduceIte,reduceCtorEq,Nat.reduceEqDiff,implies_true,forall_const,lawV,lawA,beq_self_eq_true,bne_self_eq_false,Int.reduceBEq,Int.reduceBNe,Int.reduceLT,Int.reduceLE,h0,h3]
    obtain ⟨_,p1,n,rfl,hn⟩ := px_r13_run (s.drop i) (by rw [List.length_drop]; omega)
    rw [List.length_drop] at hn
    refine ⟨by omega,fun _ => ⟨by omega,hk' _ _ ⟨i + 1,by omega,by simp [lk,h0],rfl⟩⟩,fun _ => ⟨by omega,?_⟩⟩
    (refine callV_pc (p1) ?_; simp only [lawG,↓Xn,↓Xo,↓Xg,↓Xd,↓Xe,↓Xf,Tryz.VΓ,Tryz.Γs,Xp,Xi,Nat.reduceAdd,Nat.reduceSub,Nat.reduceLT,Nat.reduceLeDiff,reduceIte,reduceCtorEq,Nat.reduceEqDiff,implies_true,forall_const,lawV,lawA,beq_self_eq_true,bne_self_eq_false,Int.reduceBEq,Int.reduceBNe,Int.reduceLT,Int.reduceLE,h0,h3])
    exact ⟨by omega,hk' _ _ ⟨i + n,by omega,by simp [lk,h0],rfl⟩⟩
  rintro m ⟨t,b⟩ ⟨i,hi,h0,h3⟩
  simp only at h0 h3
  refine vcS_cutS 2400 (NumJ s) ?_ (fun k' hk' => ?_)
  rotate_left
  · simp only [lawG,↓Xn,↓Xo,↓Xg,↓Xd,↓Xe,↓Xf,Tryz.VΓ,Tryz.Γs,Xp,Xi,Nat.reduceAdd,Nat.reduceSub,Nat.reduceLT,Nat.reduceLeDiff,reduceIte,reduceCtorEq,Nat.reduceEqDiff,implies_true,forall_const,lawV,lawA,beq_self_eq_true,bne_self_eq_false,Int.reduceBEq,Int.reduceBNe,Int.reduceLT,Int.reduceLE,h0,h3]
    have p1 := p_r13_tail s hs (i + 1)
    obtain ⟨_,p2,n,rfl,hn⟩ := px_r13_run (s.drop (i + 1)) (by rw [List.length_drop]; omega)
    rw [List.length_drop] at hn
    refine ⟨by omega,callV_pc p1 ?_⟩
    simp only [lawG,↓Xn,↓Xo,↓Xg,↓Xd,↓Xe,↓Xf,Tryz.VΓ,Tryz.Γs,Xp,Xi,Nat.reduceAdd,Nat.reduceSub,Nat.reduceLT,Nat.reduceLeDiff,reduceIte,reduceCtorEq,Nat.reduceEqDiff,implies_true,forall_const,lawV,lawA,beq_self_eq_true,bne_self_eq_false,Int.reduceBEq,Int.reduceBNe,Int.reduceLT,Int.reduceLE,h0,h3]
    (refine callV_pc (p2) ?_; simp only [lawG,↓Xn,↓Xo,↓Xg,↓Xd,↓Xe,↓Xf,Tryz.VΓ,Tryz.Γs,Xp,Xi,Nat.reduceAdd,Nat.reduceSub,Nat.reduceLT,Nat.reduceLeDiff,reduceIte,reduceCtorEq,Nat.reduceEqDiff,implies_true,forall_const,lawV,lawA,beq_self_eq_true,bne_self_eq_false,Int.reduceBEq,Int.reduceBNe,Int.reduceLT,Int.reduceLE,h0,h3])
    by_cases hlt : i < s.length
    · have hlt2 : decide ((i : Int) < s.length) = true := decide_eq_true (by omega)
      cases h46 : ((s.getD i 0).toNat : Int) == 46
      · simp only [lawG,↓Xn,↓Xo,↓Xg,↓Xd,↓Xe,↓Xf,Tryz.VΓ,Tryz.Γs,Xp,Xi,Nat.reduceAdd,Nat.reduceSub,Nat.reduceLT,Nat.reduceLeDiff,reduceIte,reduceCtorEq,Nat.reduceEqDiff,implies_true,forall_const,lawV,lawA,beq_self_eq_true,bne_self_eq_false,Int.reduceBEq,Int.reduceBNe,Int.reduceLT,Int.reduceLE,h0,h3,hlt2,h46]
        exact ⟨by omega,hk' _ _ ⟨i,hi,by simp [lk,h0],by simp [lk,h3]⟩⟩
      · simp only [lawG,↓Xn,↓Xo,↓Xg,↓Xd,↓Xe,↓Xf,Tryz.VΓ,Tryz.Γs,Xp,Xi,Nat.reduceAdd,Nat.reduceSub,Nat.reduceLT,Nat.reduceLeDiff,reduceIte,reduceCtorEq,Nat.reduceEqDiff,implies_true,forall_const,lawV,lawA,beq_self_eq_true,bne_self_eq_false,Int.reduceBEq,Int.reduceBNe,Int.reduceLT,Int.reduceLE,h0,h3,hlt2,h46]
        exact ⟨by omega,fun h => ⟨by omega,by omega,hk' _ _ ⟨i + (1 + n),by simp at h; omega,by simp [lk,h0],rfl⟩⟩,fun _ => hk' _ _ ⟨i,hi,by simp [lk,h0],by simp [lk,h3]⟩⟩
    · have hlt2 : decide ((i : Int) < s.length) = false := decide_eq_false (by omega)
      simp only [lawG,↓Xn,↓Xo,↓Xg,↓Xd,↓Xe,↓Xf,Tryz.VΓ,Tryz.Γs,Xp,Xi,Nat.reduceAdd,Nat.reduceSub,Nat.reduceLT,Nat.reduceLeDiff,reduceIte,reduceCtorEq,Nat.reduceEqDiff,implies_true,forall_const,lawV,lawA,beq_self_eq_true,bne_self_eq_false,Int.reduceBEq,Int.reduceBNe,Int.reduceLT,Int.reduceLE,h0,h3,hlt2]
      exact hk' _ _ ⟨i,hi,by simp [lk,h0],by simp [lk,h3]⟩
  rintro m ⟨t,b⟩ ⟨i,hi,h0,h3⟩
  simp only at h0 h3
  refine vcS_cutS 2300 (NumJ s) ?_ (fun k' hk' => ?_)
  rotate_left
  · by_cases hlt : i < s.length
    · have hlt2 : decide ((i : Int) < s.length) = true := decide_eq_true (by omega)
      have p1 := p_r1_In (s.getD i 0) [101,69] (by simp)
      simp only [lawG,↓Xn,↓Xo,↓Xg,↓Xd,↓Xe,↓Xf,Tryz.VΓ,Tryz.Γs,Xp,Xi,Nat.reduceAdd,Nat.reduceSub,Nat.reduceLT,Nat.reduceLeDiff,reduceIte,reduceCtorEq,Nat.reduceEqDiff,implies_true,forall_const,lawV,lawA,beq_self_eq_true,bne_self_eq_false,Int.reduceBEq,Int.reduceBNe,Int.reduceLT,Int.reduceLE,h0,h3,hlt2]
      refine ⟨by omega,callV_pc p1 ?_⟩
      cases hc : ([101,69] : Bytes).contains (s.getD i 0)
      · simp only [lawG,↓Xn,↓Xo,↓Xg,↓Xd,↓Xe,↓Xf,Tryz.VΓ,Tryz.Γs,Xp,Xi,Nat.reduceAdd,Nat.reduceSub,Nat.reduceLT,Nat.reduceLeDiff,reduceIte,reduceCtorEq,Nat.reduceEqDiff,implies_true,forall_const,lawV,lawA,beq_self_eq_true,bne_self_eq_false,Int.reduceBEq,Int.reduceBNe,Int.reduceLT,Int.reduceLE,h0,h3]
        exact hk' _ _ ⟨i,hi,by simp [lk,h0],by simp [lk,h3]⟩
      · simp only [lawG,↓Xn,↓Xo,↓Xg,↓Xd,↓Xe,↓Xf,Tryz.VΓ,Tryz.Γs,Xp,Xi,Nat.reduceAdd,Nat.reduceSub,Nat.reduceLT,Nat.reduceLeDiff,reduceIte,reduceCtorEq,Nat.reduceEqDiff,implies_true,forall_const,lawV,lawA,beq_self_eq_true,bne_self_eq_false,Int.reduceBEq,Int.reduceBNe,Int.reduceLT,Int.reduceLE,h0,h3]
        refine ⟨by omega,fun h => ⟨by simp at h; omega,?_⟩,fun _ => ?_⟩
        · have p2 := p_r1_In (s.getD (i + 1) 0) [43,45] (by simp)
          refine callV_pc p2 ?_
          cases hc : ([43,45] : Bytes).contains (s.getD (i + 1) 0)
          · simp only [lawG,↓Xn,↓Xo,↓Xg,↓Xd,↓Xe,↓Xf,Tryz.VΓ,Tryz.Γs,Xp,Xi,Nat.reduceAdd,Nat.reduceSub,Nat.reduceLT,Nat.reduceLeDiff,reduceIte,reduceCtorEq,Nat.reduceEqDiff,implies_true,forall_const,lawV,lawA,beq_self_eq_true,bne_self_eq_false,Int.reduceBEq,Int.reduceBNe,Int.reduceLT,Int.reduceLE,h0,h3]
            (have p3 := p_r13_tail s hs (i + 1)
             obtain ⟨_,p4,n,rfl,hn⟩ := px_r13_run (s.drop (i + 1)) (by rw [List.length_drop]; omega)
             rw [List.length_drop] at hn
             refine callV_pc p3 ?_
             simp only [lawG,↓Xn,↓Xo,↓Xg,↓Xd,↓Xe,↓Xf,Tryz.VΓ,Tryz.Γs,Xp,Xi,Nat.reduceAdd,Nat.reduceSub,Nat.reduceLT,Nat.reduceLeDiff,reduceIte,reduceCtorEq,Nat.reduceEqDiff,implies_true,forall_const,lawV,lawA,beq_self_eq_true,bne_self_eq_false,Int.reduceBEq,Int.reduceBNe,Int.reduceLT,Int.reduceLE,h0,h3]
             (refine callV_pc (p4) ?_; simp only [lawG,↓Xn,↓Xo,↓Xg,↓Xd,↓Xe,↓Xf,Tryz.VΓ,Tryz.Γs,Xp,Xi,Nat.reduceAdd,Nat.reduceSub,Nat.reduceLT,Nat.reduceLeDiff,reduceIte,reduceCtorEq,Nat.reduceEqDiff,implies_true,forall_const,lawV,lawA,beq_self_eq_true,bne_self_eq_false,Int.reduceBEq,Int.reduceBNe,Int.reduceLT,Int.reduceLE,h0,h3])
             exact ⟨fun h => ⟨by omega,hk' _ _ ⟨i + 1 + n,by simp at h; omega,by simp [lk,h0],rfl⟩⟩,fun _ => hk' _ _ ⟨i,by omega,by simp [lk,h0],by simp [lk,h3]⟩⟩)
          · simp only [lawG,↓Xn,↓Xo,↓Xg,↓Xd,↓Xe,↓Xf,Tryz.VΓ,Tryz.Γs,Xp,Xi,Nat.reduceAdd,Nat.reduceSub,Nat.reduceLT,Nat.reduceLeDiff,reduceIte,reduceCtorEq,Nat.reduceEqDiff,implies_true,forall_const,lawV,lawA,beq_self_eq_true,bne_self_eq_false,Int.reduceBEq,Int.reduceBNe,Int.reduceLT,Int.reduceLE,h0,h3]
            refine ⟨by omega,?_⟩
            (have p3 := p_r13_tail s hs (i + 1 + 1)
             obtain ⟨_,p4,n,rfl,hn⟩ := px_r13_run (s.drop (i + 1 + 1)) (by rw [List.length_drop]; omega)
             rw [List.length_drop] at hn
             refine callV_pc p3 ?_
             simp only [lawG,↓Xn,↓Xo,↓Xg,↓Xd,↓Xe,↓Xf,Tryz.VΓ,Tryz.Γs,Xp,Xi,Nat.reduceAdd,Nat.reduceSub,Nat.reduceLT,Nat.reduceLeDiff,reduceIte,reduceCtorEq,Nat.reduceEqDiff,implies_true,forall_const,lawV,lawA,beq_self_eq_true,bne_self_eq_false,Int.reduceBEq,Int.reduceBNe,Int.reduceLT,Int.reduceLE,h0,h3]
             (refine callV_pc (p4) ?_; simp only [lawG,↓Xn,↓Xo,↓Xg,↓Xd,↓Xe,↓Xf,Tryz.VΓ,Tryz.Γs,Xp,Xi,Nat.reduceAdd,Nat.reduceSub,Nat.reduceLT,Nat.reduceLeDiff,reduceIte,reduceCtorEq,Nat.reduceEqDiff,implies_true,forall_const,lawV,lawA,beq_self_eq_true,bne_self_eq_false,Int.reduceBEq,Int.reduceBNe,Int.reduceLT,Int.reduceLE,h0,h3])
             exact ⟨fun h => ⟨by omega,hk' _ _ ⟨i + 1 + 1 + n,by simp at h; omega,by simp [lk,h0],rfl⟩⟩,fun _ => hk' _ _ ⟨i,by omega,by simp [lk,h0],by simp [lk,h3]⟩⟩)
        · skip
          (have p3 := p_r13_tail s hs (i + 1)
           obtain ⟨_,p4,n,rfl,hn⟩ := px_r13_run (s.drop (i + 1)) (by rw [List.length_drop]; omega)
           rw [List.length_drop] at hn
           refine callV_pc p3 ?_
           simp only [lawG,↓Xn,↓Xo,↓Xg,↓Xd,↓Xe,↓Xf,Tryz.VΓ,Tryz.Γs,Xp,Xi,Nat.reduceAdd,Nat.reduceSub,Nat.reduceLT,Nat.reduceLeDiff,reduceIte,reduceCtorEq,Nat.reduceEqDiff,implies_true,forall_const,lawV,lawA,beq_self_eq_true,bne_self_eq_false,Int.reduceBEq,Int.reduceBNe,Int.reduceLT,Int.reduceLE,h0,h3]
           (refine callV_pc (p4) ?_; simp only [lawG,↓Xn,↓Xo,↓Xg,↓Xd,↓Xe,↓Xf,Tryz.VΓ,Tryz.Γs,Xp,Xi,Nat.reduceAdd,Nat.reduceSub,Nat.reduceLT,Nat.reduceLeDiff,reduceIte,reduceCtorEq,Nat.reduceEqDiff,implies_true,forall_const,lawV,lawA,beq_self_eq_true,bne_self_eq_false,Int.reduceBEq,Int.reduceBNe,Int.reduceLT,Int.reduceLE,h0,h3])
           exact ⟨fun h => ⟨by omega,hk' _ _ ⟨i + 1 + n,by simp at h; omega,by simp [lk,h0],rfl⟩⟩,fun _ => hk' _ _ ⟨i,by omega,by simp [lk,h0],by simp [lk,h3]⟩⟩)
    · have hlt2 : decide ((i : Int) < s.length) = false := decide_eq_false (by omega)
      simp only [lawG,↓Xn,↓Xo,↓Xg,↓Xd,↓Xe,↓Xf,Tryz.VΓ,Tryz.Γs,Xp,Xi,Nat.reduceAdd,Nat.reduceSub,Nat.reduceLT,Nat.reduceLeDiff,reduceIte,reduceCtorEq,Nat.reduceEqDiff,implies_true,forall_const,lawV,lawA,beq_self_eq_true,bne_self_eq_false,Int.reduceBEq,Int.reduceBNe,Int.reduceLT,Int.reduceLE,h0,h3,hlt2]
      exact hk' _ _ ⟨i,hi,by simp [lk,h0],by simp [lk,h3]⟩
  rintro m ⟨t,b⟩ ⟨i,hi,h0,h3⟩
  simp only at h0 h3
  simp only [lawG,↓Xn,↓Xo,↓Xg,↓Xd,↓Xe,↓Xf,Tryz.VΓ,Tryz.Γs,Xp,Xi,Nat.reduceAdd,Nat.reduceSub,Nat.reduceLT,Nat.reduceLeDiff,reduceIte,reduceCtorEq,Nat.reduceEqDiff,implies_true,forall_const,lawV,lawA,beq_self_eq_true,bne_self_eq_false,Int.reduceBEq,Int.reduceBNe,Int.reduceLT,Int.reduceLE,h0,h3]
  exact ⟨rfl,i,rfl,hi⟩
theorem quo10 (n : Nat) (hn : n ≤ 4611686018427387904) : divI .quo .u64 (n : Int) 10 = ((n / 10 : Nat) : Int) := quo_n n 10 hn
set_option maxHeartbeats 4000000 in
theorem px_r4_Format (n : Nat) (hn : n ≤ 1000000) : ∃ x,PC Tryz.V 84 [.int .u64 n] x ∧ ∃ s : Bytes,x = .str s ∧ s.length ≤ n + 1 := by
  refine px_of 3000 Tryz.func84 rfl Tryz.ntmps84 Tryz.results84 Tryz.call84 (by simp) (by simp [flat,flat.flatL]) ?_
  simp only [lawG,↓Xn,↓Xo,↓Xg,↓Xd,↓Xe,↓Xf,Tryz.VΓ,Tryz.Γs,Xp,Xi,Nat.reduceAdd,Nat.reduceSub,Nat.reduceLT,Nat.reduceLeDiff,reduceIte,reduceCtorEq,Nat.reduceEqDiff,implies_true,forall_const,lawV,lawA,beq_self_eq_true,bne_self_eq_false,Int.reduceBEq,Int.reduceBNe,Int.reduceLT,Int.reduceLE]
  refine loopV_mk (fun σ => ∃ (k : Nat) (s : Bytes),s.length + k ≤ n ∧ lk 0 σ.t = some (.int .u64 k) ∧ lk 3 σ.t = some (.str s)) (fun σ => lkI 0 σ) ⟨n,[],by simp,rfl,rfl⟩ ?_
  rintro ⟨t,b⟩ ⟨k,s,hk,h0,h3⟩
  simp only at h0 h3
  have hq := quo10 k (by omega)
  rw [lkI_eq h0]
  simp only [lawG,↓Xn,↓Xo,↓Xg,↓Xd,↓Xe,↓Xf,Tryz.VΓ,Tryz.Γs,Xp,Xi,Nat.reduceAdd,Nat.reduceSub,Nat.reduceLT,Nat.reduceLeDiff,reduceIte,reduceCtorEq,Nat.reduceEqDiff,implies_true,forall_const,lawV,lawA,beq_self_eq_true,bne_self_eq_false,Int.reduceBEq,Int.reduceBNe,Int.reduceLT,Int.reduceLE,h0,h3,isU8_wrap,Bool.and_self,hq]
  refine ⟨by omega,by omega,by omega,by omega,fun _ => ⟨rfl,_,rfl,by simp; omega⟩,fun h => ?_⟩
  have hk0 : k / 10 ≠ 0 := by intro e; rw [e] at h; simp at h
  refine ⟨⟨k / 10,_,by simp; omega,rfl,rfl⟩,?_⟩
  rw [lkI_eq (k := .u64) (n := ((k / 10 : Nat) : Int)) rfl]; omega
set_option maxHeartbeats 4000000 in
theorem px_r13_Number (s : Bytes) (hs : s.length ≤ 1000000) : ∃ x,PC Tryz.V 55 [.str s] x ∧ ∃ (u : Bytes) (e : Int),x = .tup [.str u,.int .i64 e] ∧ u.length ≤ s.length + 410 := by
  refine px_of 3000 Tryz.func55 rfl Tryz.ntmps55 Tryz.results55 Tryz.call55 (by simp) (by simp [flat,flat.flatL]) ?_
  refine vcS_cutS 2900 (fun σ => lk 0 σ.t = some (.str s)) ?_ (fun k' hk' => ?_)
  rotate_left
  · simp only [lawG,↓Xn,↓Xo,↓Xg,↓Xd,↓Xe,↓Xf,Tryz.VΓ,Tryz.Γs,Xp,Xi,Nat.reduceAdd,Nat.reduceSub,Nat.reduceLT,Nat.reduceLeDiff,reduceIte,reduceCtorEq,Nat.reduceEqDiff,implies_true,forall_const,lawV,lawA,beq_self_eq_true,bne_self_eq_false,Int.reduceBEq,Int.reduceBNe,Int.reduceLT,Int.reduceLE]
    exact hk' _ _ rfl
  rintro m ⟨t,b⟩ h0
  simp only at h0
  refine vcS_cutS 2800 (fun σ => 0 < s.length ∧ lk 0 σ.t = some (.str s)) ?_ (fun k' hk' => ?_)
  rotate_left
  · by_cases he : s.length = 0
    · have he2 : (s == []) = true := by simp [List.length_eq_zero_iff.1 he]
      simp only [lawG,↓Xn,↓Xo,↓Xg,↓Xd,↓Xe,↓Xf,Tryz.VΓ,Tryz.Γs,Xp,Xi,Nat.reduceAdd,Nat.reduceSub,Nat.reduceLT,Nat.reduceLeDiff,reduceIte,reduceCtorEq,Nat.reduceEqDiff,implies_true,forall_const,lawV,lawA,beq_self_eq_true,bne_self_eq_false,Int.reduceBEq,Int.reduceBNe,Int.reduceLT,Int.reduceLE,h0,he2]
      exact ⟨rfl,[],130,rfl,by simp⟩
    · have he2 : (s == []) = false := by cases s <;> simp at he ⊢
      obtain ⟨_,p1,n,rfl,hn⟩ := px_r13_numeral s (by omega)
      simp only [lawG,↓Xn,↓Xo,↓Xg,↓Xd,↓Xe,↓Xf,Tryz.VΓ,Tryz.Γs,Xp,Xi,Nat.reduceAdd,Nat.reduceSub,Nat.reduceLT,Nat.reduceLeDiff,reduceIte,reduceCtorEq,Nat.reduceEqDiff,implies_true,forall_const,lawV,lawA,beq_self_eq_true,bne_self_eq_false,Int.reduceBEq,Int.reduceBNe,Int.reduceLT,Int.reduceLE,h0,he2]
      (refine callV_pc (p1) ?_; simp only [lawG,↓Xn,↓Xo,↓Xg,↓Xd,↓Xe,↓Xf,Tryz.VΓ,Tryz.Γs,Xp,Xi,Nat.reduceAdd,Nat.reduceSub,Nat.reduceLT,Nat.reduceLeDiff,reduceIte,reduceCtorEq,Nat.reduceEqDiff,implies_true,forall_const,lawV,lawA,beq_self_eq_true,bne_self_eq_false,Int.reduceBEq,Int.reduceBNe,Int.reduceLT,Int.reduceLE,h0])
      exact ⟨fun _ => ⟨rfl,[],130,rfl,by simp⟩,fun _ => hk' _ _ ⟨by omega,by simp [lk,h0]⟩⟩
  rintro m ⟨t,b⟩ ⟨hp,h0⟩
  simp only at h0
  refine vcS_cutS 2700 (fun σ => lk 0 σ.t = some (.str s) ∧ lk 4 σ.t = some (.str [])) ?_ (fun k' hk' => ?_)
  rotate_left
  · simp only [lawG,↓Xn,↓Xo,↓Xg,↓Xd,↓Xe,↓Xf,Tryz.VΓ,Tryz.Γs,Xp,Xi,Nat.reduceAdd,Nat.reduceSub,Nat.reduceLT,Nat.reduceLeDiff,reduceIte,reduceCtorEq,Nat.reduceEqDiff,implies_true,forall_const,lawV,lawA,beq_self_eq_true,bne_self_eq_false,Int.reduceBEq,Int.reduceBNe,Int.reduceLT,Int.reduceLE,h0]
    exact hk' _ _ ⟨by simp [lk,h0],rfl⟩
  rintro m ⟨t,b⟩ ⟨h0,h4⟩
  simp only at h0 h4
  refine vcS_cutS 2600 (fun σ => ∃ u g : Bytes,u.length ≤ s.length ∧ g.length ≤ 1 ∧ lk 0 σ.t = some (.str u) ∧ lk 4 σ.t = some (.str g)) ?_ (fun k' hk' => ?_)
  rotate_left
  · simp only [lawG,↓Xn,↓Xo,↓Xg,↓Xd,↓Xe,↓Xf,Tryz.VΓ,Tryz.Γs,Xp,Xi,Nat.reduceAdd,Nat.reduceSub,Nat.reduceLT,Nat.reduceLeDiff,reduceIte,reduceCtorEq,Nat.reduceEqDiff,implies_true,forall_const,lawV,lawA,beq_self_eq_true,bne_self_eq_false,Int.reduceBEq,Int.reduceBNe,Int.reduceLT,Int.reduceLE,h0,h4]
    exact ⟨by omega,fun _ => ⟨by omega,(OkD_fast (by kernel_rfl)),hk' _ _ ⟨s.drop 1,[45],by simp,by simp,rfl,rfl⟩⟩,fun _ => hk' _ _ ⟨s,[],by omega,by simp,by simp [lk,h0],by simp [lk,h4]⟩⟩
  rintro m ⟨t,b⟩ ⟨u,g,hu,hg,h0,h4⟩
  simp only at h0 h4
  have hpk := pre_le (([101,69] : Bytes).contains ·) u
  refine vcS_cutS 2500 (fun σ => lk 0 σ.t = some (.str u) ∧ lk 4 σ.t = some (.str g) ∧ lk 5 σ.t = some (.int .i64 (pre (([101,69] : Bytes).contains ·) u))) ?_ (fun k' hk' => ?_)
  rotate_left
  · have p1 := p_r1_Index u [101,69] (by omega) (by simp)
    simp only [lawG,↓Xn,↓Xo,↓Xg,↓Xd,↓Xe,↓Xf,Tryz.VΓ,Tryz.Γs,Xp,Xi,Nat.reduceAdd,Nat.reduceSub,Nat.reduceLT,Nat.reduceLeDiff,reduceIte,reduceCtorEq,Nat.reduceEqDiff,implies_true,forall_const,lawV,lawA,beq_self_eq_true,bne_self_eq_false,Int.reduceBEq,Int.reduceBNe,Int.reduceLT,Int.reduceLE,h0,h4]
    (refine callV_pc (p1) ?_; simp only [lawG,↓Xn,↓Xo,↓Xg,↓Xd,↓Xe,↓Xf,Tryz.VΓ,Tryz.Γs,Xp,Xi,Nat.reduceAdd,Nat.reduceSub,Nat.reduceLT,Nat.reduceLeDiff,reduceIte,reduceCtorEq,Nat.reduceEqDiff,implies_true,forall_const,lawV,lawA,beq_self_eq_true,bne_self_eq_false,Int.reduceBEq,Int.reduceBNe,Int.reduceLT,Int.reduceLE,h0,h4])
    exact hk' _ _ ⟨by simp [lk,h0],by simp [lk,h4],rfl⟩
  generalize pre (([101,69] : Bytes).contains ·) u = k at hpk
  rintro m ⟨t,b⟩ ⟨h0,h4,h5⟩
  simp only at h0 h4 h5
  refine vcS_cutS 2400 (fun σ => ∃ (x : Int) (mm : Bytes),-1073741824 ≤ x ∧ x ≤ 1073741824 ∧ mm.length ≤ s.length ∧ lk 4 σ.t = some (.str g) ∧ lk 6 σ.t = some (.int .i64 x) ∧ lk 7 σ.t = some (.str mm)) ?_ (fun k' hk' => ?_)
  rotate_left
  · have p1 := p_r13_tail u (by omega) (k + 1)
    obtain ⟨_,p2,x,rfl,hx0,hx1⟩ := px_r13_exponent (u.drop (k + 1)) (by rw [List.length_drop]; omega)
    simp only [lawG,↓Xn,↓Xo,↓Xg,↓Xd,↓Xe,↓Xf,Tryz.VΓ,Tryz.Γs,Xp,Xi,Nat.reduceAdd,Nat.reduceSub,Nat.reduceLT,Nat.reduceLeDiff,reduceIte,reduceCtorEq,Nat.reduceEqDiff,implies_true,forall_const,lawV,lawA,beq_self_eq_true,bne_self_eq_false,Int.reduceBEq,Int.reduceBNe,Int.reduceLT,Int.reduceLE,h0,h4,h5]
    refine ⟨by omega,callD_pc p1 ?_⟩
    simp only [lawG,↓Xn,↓Xo,↓Xg,↓Xd,↓Xe,↓Xf,Tryz.VΓ,Tryz.Γs,Xp,Xi,Nat.reduceAdd,Nat.reduceSub,Nat.reduceLT,Nat.reduceLeDiff,reduceIte,reduceCtorEq,Nat.reduceEqDiff,implies_true,forall_const,lawV,lawA,beq_self_eq_true,bne_self_eq_false,Int.reduceBEq,Int.reduceBNe,Int.reduceLT,Int.reduceLE,h0,h4,h5]
    (refine callD_pc (p2) ?_; simp only [lawG,↓Xn,↓Xo,↓Xg,↓Xd,↓Xe,↓Xf,Tryz.VΓ,Tryz.Γs,Xp,Xi,Nat.reduceAdd,Nat.reduceSub,Nat.reduceLT,Nat.reduceLeDiff,reduceIte,reduceCtorEq,Nat.reduceEqDiff,implies_true,forall_const,lawV,lawA,beq_self_eq_true,bne_self_eq_false,Int.reduceBEq,Int.reduceBNe,Int.reduceLT,Int.reduceLE,h0,h4,h5])
    exact ⟨by omega,(OkD_fast (by kernel_rfl)),hk' _ _ ⟨x,u.take k,hx0,hx1,by rw [List.length_take]; omega,by simp [lk,h4],rfl,rfl⟩⟩
  rintro m ⟨t,b⟩ ⟨x,mm,hx0,hx1,hmm,h4,h6,h7⟩
  simp only at h4 h6 h7
  refine vcS_cutS 2300 (fun σ => ∃ (x : Int) (mm : Bytes),-1083741824 ≤ x ∧ x ≤ 1083741824 ∧ mm.length ≤ s.length ∧ lk 4 σ.t = some (.str g) ∧ lk 6 σ.t = some (.int .i64 x) ∧ lk 7 σ.t = some (.str mm)) ?_ (fun k' hk' => ?_)
  rotate_left
  · have hpm := pre_le (([46] : Bytes).contains ·) mm
    have p1 := p_r1_Index mm [46] (by omega) (by simp)
    simp only [lawG,↓Xn,↓Xo,↓Xg,↓Xd,↓Xe,↓Xf,Tryz.VΓ,Tryz.Γs,Xp,Xi,Nat.reduceAdd,Nat.reduceSub,Nat.reduceLT,Nat.reduceLeDiff,reduceIte,reduceCtorEq,Nat.reduceEqDiff,implies_true,forall_const,lawV,lawA,beq_self_eq_true,bne_self_eq_false,Int.reduceBEq,Int.reduceBNe,Int.reduceLT,Int.reduceLE,h4,h6,h7]
    refine callV_pc p1 ?_
    generalize pre (([46] : Bytes).contains ·) mm = q at hpm
    simp only [lawG,↓Xn,↓Xo,↓Xg,↓Xd,↓Xe,↓Xf,Tryz.VΓ,Tryz.Γs,Xp,Xi,Nat.reduceAdd,Nat.reduceSub,Nat.reduceLT,Nat.reduceLeDiff,reduceIte,reduceCtorEq,Nat.reduceEqDiff,implies_true,forall_const,lawV,lawA,beq_self_eq_true,bne_self_eq_false,Int.reduceBEq,Int.reduceBNe,Int.reduceLT,Int.reduceLE,h4,h6,h7]
    refine ⟨fun h => ?_,fun _ => hk' _ _ ⟨x,mm,by omega,by omega,hmm,by simp [lk,h4],by simp [lk,h6],by simp [lk,h7]⟩⟩
    have h' : q < mm.length := by simp at h; omega
    exact ⟨by omega,by omega,by omega,by omega,by omega,by omega,by (rw [List.length_take,List.length_drop]; omega),(OkD_fast (by kernel_rfl)),hk' _ _ ⟨x - ((mm.length : Int) - q - 1),mm.take q ++ mm.drop (q + 1),by omega,by omega,by rw [List.length_append,List.length_take,List.length_drop]; omega,by simp [lk,h4],rfl,rfl⟩⟩
  rintro m ⟨t,b⟩ ⟨x,mm,hx0,hx1,hmm,h4,h6,h7⟩
  simp only at h4 h6 h7
  refine vcS_cutS 2200 (fun σ => ∃ mm : Bytes,mm.length ≤ s.length ∧ (mm = [] ∨ ((mm.getD 0 0).toNat : Int) ≠ 48) ∧ lk 4 σ.t = some (.str g) ∧ lk 6 σ.t = some (.int .i64 x) ∧ lk 7 σ.t = some (.str mm)) ?_ (fun k' hk' => ?_)
  rotate_left
  · simp only [lawG,↓Xn,↓Xo,↓Xg,↓Xd,↓Xe,↓Xf,Tryz.VΓ,Tryz.Γs,Xp,Xi,Nat.reduceAdd,Nat.reduceSub,Nat.reduceLT,Nat.reduceLeDiff,reduceIte,reduceCtorEq,Nat.reduceEqDiff,implies_true,forall_const,lawV,lawA,beq_self_eq_true,bne_self_eq_false,Int.reduceBEq,Int.reduceBNe,Int.reduceLT,Int.reduceLE,h4,h6,h7]
    refine loopV_mk (fun σ => ∃ mm : Bytes,mm.length ≤ s.length ∧ lk 4 σ.t = some (.str g) ∧ lk 6 σ.t = some (.int .i64 x) ∧ lk 7 σ.t = some (.str mm)) (fun σ => match lk 7 σ.t with | some (.str l) => l.length | _ => 0) ⟨mm,hmm,h4,h6,h7⟩ ?_
    rintro ⟨t,b⟩ ⟨mm,hmm,h4,h6,h7⟩
    simp only at h4 h6 h7
    simp only [h7]
    by_cases hz : mm.length = 0
    · obtain rfl := List.length_eq_zero_iff.1 hz
      have hz2 : decide ((0 : Int) < ((0 : Nat) : Int)) = false := rfl
      simp only [lawG,↓Xn,↓Xo,↓Xg,↓Xd,↓Xe,↓Xf,Tryz.VΓ,Tryz.Γs,Xp,Xi,Nat.reduceAdd,Nat.reduceSub,Nat.reduceLT,Nat.reduceLeDiff,reduceIte,reduceCtorEq,Nat.reduceEqDiff,implies_true,forall_const,lawV,lawA,beq_self_eq_true,bne_self_eq_false,Int.reduceBEq,Int.reduceBNe,Int.reduceLT,Int.reduceLE,h4,h6,h7,hz2]
      exact hk' _ _ ⟨[],by simp,.inl rfl,by simp [lk,h4],by simp [lk,h6],by simp [lk,h7]⟩
    · have hz2 : decide ((0 : Int) < mm.length) = true := decide_eq_true (by omega)
      simp only [lawG,↓Xn,↓Xo,↓Xg,↓Xd,↓Xe,↓Xf,Tryz.VΓ,Tryz.Γs,Xp,Xi,Nat.reduceAdd,Nat.reduceSub,Nat.reduceLT,Nat.reduceLeDiff,reduceIte,reduceCtorEq,Nat.reduceEqDiff,implies_true,forall_const,lawV,lawA,beq_self_eq_true,bne_self_eq_false,Int.reduceBEq,Int.reduceBNe,Int.reduceLT,Int.reduceLE,h4,h6,h7,hz2]
      refine ⟨by omega,fun h => ⟨by omega,⟨_,by rw [List.length_drop]; omega,rfl⟩,by rw [List.length_drop]; simp; omega⟩,fun h => hk' _ _ ⟨mm,hmm,.inr ?_,by simp [lk,h4],by simp [lk,h6],by simp [lk,h7]⟩⟩
      intro e
      have h2 : (((mm.getD 0 0).toNat : Int) == 48) = false := h
      rw [e] at h2
      simp at h2
  rintro m ⟨t,b⟩ ⟨mm,hmm,hd,h4,h6,h7⟩
  simp only at h4 h6 h7
  refine vcS_cutS 2100 (fun σ => 0 < mm.length ∧ ((mm.getD 0 0).toNat : Int) ≠ 48 ∧ lk 4 σ.t = some (.str g) ∧ lk 6 σ.t = some (.int .i64 x) ∧ lk 7 σ.t = some (.str mm)) ?_ (fun k' hk' => ?_)
  rotate_left
  · by_cases hz : mm.length = 0
    · obtain rfl := List.length_eq_zero_iff.1 hz
      simp only [lawG,↓Xn,↓Xo,↓Xg,↓Xd,↓Xe,↓Xf,Tryz.VΓ,Tryz.Γs,Xp,Xi,Nat.reduceAdd,Nat.reduceSub,Nat.reduceLT,Nat.reduceLeDiff,reduceIte,reduceCtorEq,Nat.reduceEqDiff,implies_true,forall_const,lawV,lawA,beq_self_eq_true,bne_self_eq_false,Int.reduceBEq,Int.reduceBNe,Int.reduceLT,Int.reduceLE,h4,h6,h7]
      exact ⟨rfl,[48],0,rfl,by simp⟩
    · have hz2 : (mm == []) = false := by cases mm <;> simp at hz ⊢
      simp only [lawG,↓Xn,↓Xo,↓Xg,↓Xd,↓Xe,↓Xf,Tryz.VΓ,Tryz.Γs,Xp,Xi,Nat.reduceAdd,Nat.reduceSub,Nat.reduceLT,Nat.reduceLeDiff,reduceIte,reduceCtorEq,Nat.reduceEqDiff,implies_true,forall_const,lawV,lawA,beq_self_eq_true,bne_self_eq_false,Int.reduceBEq,Int.reduceBNe,Int.reduceLT,Int.reduceLE,h4,h6,h7,hz2]
      exact hk' _ _ ⟨by omega,hd.resolve_left (by rintro rfl; simp at hz),by simp [lk,h4],by simp [lk,h6],by simp [lk,h7]⟩
  rintro m ⟨t,b⟩ ⟨hpos,hd,h4,h6,h7⟩
  simp only at h4 h6 h7
  refine vcS_cutS 2000 (fun σ => ∃ (x : Int) (mm : Bytes),-1083741824 ≤ x ∧ x ≤ 1093741824 ∧ mm.length ≤ s.length ∧ lk 4 σ.t = some (.str g) ∧ lk 6 σ.t = some (.int .i64 x) ∧ lk 7 σ.t = some (.str mm)) ?_ (fun k' hk' => ?_)
  rotate_left
  · simp only [lawG,↓Xn,↓Xo,↓Xg,↓Xd,↓Xe,↓Xf,Tryz.VΓ,Tryz.Γs,Xp,Xi,Nat.reduceAdd,Nat.reduceSub,Nat.reduceLT,Nat.reduceLeDiff,reduceIte,reduceCtorEq,Nat.reduceEqDiff,implies_true,forall_const,lawV,lawA,beq_self_eq_true,bne_self_eq_false,Int.reduceBEq,Int.reduceBNe,Int.reduceLT,Int.reduceLE,h4,h6,h7]
    refine loopV_mk (fun σ => ∃ (x : Int) (mm : Bytes),-1083741824 ≤ x ∧ x + mm.length ≤ 1083741824 + s.length ∧ mm.length ≤ s.length ∧ 0 < mm.length ∧ ((mm.getD 0 0).toNat : Int) ≠ 48 ∧ lk 4 σ.t = some (.str g) ∧ lk 6 σ.t = some (.int .i64 x) ∧ lk 7 σ.t = some (.str mm)) (fun σ => match lk 7 σ.t with | some (.str l) => l.length | _ => 0) ⟨x,mm,hx0,by omega,hmm,hpos,hd,h4,h6,h7⟩ ?_
    rintro ⟨t,b⟩ ⟨x,mm,hx0,hx1,hmm,hpos,hd,h4,h6,h7⟩
    simp only at h4 h6 h7
    simp only [h7]
    have e1 : ((mm.length : Int) - 1).toNat = mm.length - 1 := by omega
    simp only [lawG,↓Xn,↓Xo,↓Xg,↓Xd,↓Xe,↓Xf,Tryz.VΓ,Tryz.Γs,Xp,Xi,Nat.reduceAdd,Nat.reduceSub,Nat.reduceLT,Nat.reduceLeDiff,reduceIte,reduceCtorEq,Nat.reduceEqDiff,implies_true,forall_const,lawV,lawA,beq_self_eq_true,bne_self_eq_false,Int.reduceBEq,Int.reduceBNe,Int.reduceLT,Int.reduceLE,h4,h6,h7,e1]
    refine ⟨by omega,by omega,fun h => ?_,fun _ => hk' _ _ ⟨x,mm,hx0,by omega,hmm,by simp [lk,h4],by simp [lk,h6],by simp [lk,h7]⟩⟩
    have h2 : 1 < mm.length := by
      rcases Nat.lt_or_ge 1 mm.length with h1 | h1
      · exact h1
      · have e2 : mm.length - 1 = 0 := by omega
        rw [e2] at h
        exact absurd (by simpa using h) hd
    have hg : (mm.take (mm.length - 1)).getD 0 0 = mm.getD 0 0 := by
      have : 0 < mm.length - 1 := by omega
      rw [List.getD_eq_getElem?_getD,List.getD_eq_getElem?_getD,List.getElem?_take_of_lt this]
    exact ⟨by omega,by omega,by omega,⟨x + 1,mm.take (mm.length - 1),by omega,by rw [List.length_take]; omega,by rw [List.length_take]; omega,by rw [List.length_take]; omega,by rw [hg]; exact hd,rfl,rfl⟩,by rw [List.length_take]; omega⟩
  rintro m ⟨t,b⟩ ⟨x,mm,hx0,hx1,hmm,h4,h6,h7⟩
  simp only at h4 h6 h7
  refine vcS_cutS 1900 (fun σ => lk 4 σ.t = some (.str g) ∧ lk 7 σ.t = some (.str mm)) ?_ (fun k' hk' => ?_)
  rotate_left
  · cases hm40 : decide ((40 : Int) < mm.length)
    rotate_left
    · simp only [lawG,↓Xn,↓Xo,↓Xg,↓Xd,↓Xe,↓Xf,Tryz.VΓ,Tryz.Γs,Xp,Xi,Nat.reduceAdd,Nat.reduceSub,Nat.reduceLT,Nat.reduceLeDiff,reduceIte,reduceCtorEq,Nat.reduceEqDiff,implies_true,forall_const,lawV,lawA,beq_self_eq_true,bne_self_eq_false,Int.reduceBEq,Int.reduceBNe,Int.reduceLT,Int.reduceLE,h4,h6,h7,hm40]
      exact ⟨rfl,[],144,rfl,by simp⟩
    cases hx4 : decide ((400 : Int) < x)
    rotate_left
    · simp only [lawG,↓Xn,↓Xo,↓Xg,↓Xd,↓Xe,↓Xf,Tryz.VΓ,Tryz.Γs,Xp,Xi,Nat.reduceAdd,Nat.reduceSub,Nat.reduceLT,Nat.reduceLeDiff,reduceIte,reduceCtorEq,Nat.reduceEqDiff,implies_true,forall_const,lawV,lawA,beq_self_eq_true,bne_self_eq_false,Int.reduceBEq,Int.reduceBNe,Int.reduceLT,Int.reduceLE,h4,h6,h7,hm40,hx4]
      exact ⟨rfl,[],144,rfl,by simp⟩
    cases hx5 : decide (x < -400)
    rotate_left
    · simp only [lawG,↓Xn,↓Xo,↓Xg,↓Xd,↓Xe,↓Xf,Tryz.VΓ,Tryz.Γs,Xp,Xi,Nat.reduceAdd,Nat.reduceSub,Nat.reduceLT,Nat.reduceLeDiff,reduceIte,reduceCtorEq,Nat.reduceEqDiff,implies_true,forall_const,lawV,lawA,beq_self_eq_true,bne_self_eq_false,Int.reduceBEq,Int.reduceBNe,Int.reduceLT,Int.reduceLE,h4,h6,h7,hm40,hx4,hx5]
      exact ⟨rfl,[],144,rfl,by simp⟩
    have a4 : ¬ (400 : Int) < x := of_decide_eq_false hx4
    have a5 : ¬ x < -400 := of_decide_eq_false hx5
    cases hx6 : decide (x < 0)
    · have a6 : ¬ x < 0 := of_decide_eq_false hx6
      cases hx7 : decide (0 < x)
      · simp only [lawG,↓Xn,↓Xo,↓Xg,↓Xd,↓Xe,↓Xf,Tryz.VΓ,Tryz.Γs,Xp,Xi,Nat.reduceAdd,Nat.reduceSub,Nat.reduceLT,Nat.reduceLeDiff,reduceIte,reduceCtorEq,Nat.reduceEqDiff,implies_true,forall_const,lawV,lawA,beq_self_eq_true,bne_self_eq_false,Int.reduceBEq,Int.reduceBNe,Int.reduceLT,Int.reduceLE,h4,h6,h7,hm40,hx4,hx5,hx6,hx7]
        exact hk' _ _ ⟨by simp [lk,h4],by simp [lk,h7]⟩
      · obtain ⟨n,rfl⟩ : ∃ n : Nat,x = n := ⟨x.toNat,by omega⟩
        have hw : IntKind.u64.wrap (n : Int) = n := w64 n (by omega) (by omega)
        obtain ⟨_,p1,u,rfl,hu⟩ := px_r4_Format n (by omega)
        simp only [lawG,↓Xn,↓Xo,↓Xg,↓Xd,↓Xe,↓Xf,Tryz.VΓ,Tryz.Γs,Xp,Xi,Nat.reduceAdd,Nat.reduceSub,Nat.reduceLT,Nat.reduceLeDiff,reduceIte,reduceCtorEq,Nat.reduceEqDiff,implies_true,forall_const,lawV,lawA,beq_self_eq_true,bne_self_eq_false,Int.reduceBEq,Int.reduceBNe,Int.reduceLT,Int.reduceLE,h4,h6,h7,hm40,hx4,hx5,hx6,hx7,hw]
        refine ⟨by omega,by omega,?_⟩
        (refine callV_pc (p1) ?_; simp only [lawG,↓Xn,↓Xo,↓Xg,↓Xd,↓Xe,↓Xf,Tryz.VΓ,Tryz.Γs,Xp,Xi,Nat.reduceAdd,Nat.reduceSub,Nat.reduceLT,Nat.reduceLeDiff,reduceIte,reduceCtorEq,Nat.reduceEqDiff,implies_true,forall_const,lawV,lawA,beq_self_eq_true,bne_self_eq_false,Int.reduceBEq,Int.reduceBNe,Int.reduceLT,Int.reduceLE,h4,h6,h7])
        exact ⟨by omega,rfl,_,_,rfl,by simp; omega⟩
    · have a6 : x < 0 := of_decide_eq_true hx6
      obtain ⟨n,hn⟩ : ∃ n : Nat,0 - x = n := ⟨(0 - x).toNat,by omega⟩
      have hw : IntKind.u64.wrap (n : Int) = n := w64 n (by omega) (by omega)
      obtain ⟨_,p1,u,rfl,hu⟩ := px_r4_Format n (by omega)
      simp only [lawG,↓Xn,↓Xo,↓Xg,↓Xd,↓Xe,↓Xf,Tryz.VΓ,Tryz.Γs,Xp,Xi,Nat.reduceAdd,Nat.reduceSub,Nat.reduceLT,Nat.reduceLeDiff,reduceIte,reduceCtorEq,Nat.reduceEqDiff,implies_true,forall_const,lawV,lawA,beq_self_eq_true,bne_self_eq_false,Int.reduceBEq,Int.reduceBNe,Int.reduceLT,Int.reduceLE,h4,h6,h7,hm40,hx4,hx5,hx6,hn,hw]
      refine ⟨by omega,by omega,by omega,?_⟩
      (refine callV_pc (p1) ?_; simp only [lawG,↓Xn,↓Xo,↓Xg,↓Xd,↓Xe,↓Xf,Tryz.VΓ,Tryz.Γs,Xp,Xi,Nat.reduceAdd,Nat.reduceSub,Nat.reduceLT,Nat.reduceLeDiff,reduceIte,reduceCtorEq,Nat.reduceEqDiff,implies_true,forall_const,lawV,lawA,beq_self_eq_true,bne_self_eq_false,Int.reduceBEq,Int.reduceBNe,Int.reduceLT,Int.reduceLE,h4,h6,h7])
      exact ⟨by omega,rfl,_,_,rfl,by simp; omega⟩
  rintro m ⟨t,b⟩ ⟨h4,h7⟩
  simp only at h4 h7
  simp only [lawG,↓Xn,↓Xo,↓Xg,↓Xd,↓Xe,↓Xf,Tryz.VΓ,Tryz.Γs,Xp,Xi,Nat.reduceAdd,Nat.reduceSub,Nat.reduceLT,Nat.reduceLeDiff,reduceIte,reduceCtorEq,Nat.reduceEqDiff,implies_true,forall_const,lawV,lawA,beq_self_eq_true,bne_self_eq_false,Int.reduceBEq,Int.reduceBNe,Int.reduceLT,Int.reduceLE,h4,h7]
  exact ⟨by omega,rfl,_,_,rfl,by simp; omega⟩
end Go.Proofs.YtejfjmcjicpodaaGreatDoor
/- ref13: some exact results: escape,text. -/
set_option linter.all false
set_option maxRecDepth 20000
namespace Go.Proofs.YtejfjmcjicpodaaGreatDoor
open Go Vc Go.RowKit Wf
set_option linter.unusedSimpArgs false
def codesB : Bytes := [34,92,47,98,102,110,114,116]
theorem codes_lt : ∀ k,k < 8 → (codesB.getD k 0).toNat < 128 := by decide
def EscF (s : Bytes) (a : Nat) (x : SV) : Prop := ∃ (u : Bytes) (q e : Int),x = .tup [.str u,.int .i64 q,.int .i64 e] ∧ (e = 0 → ∃ q' : Nat,q = q' ∧ a < q' ∧ q' ≤ s.length ∧ u.length + a ≤ q')
theorem EscF.err {s : Bytes} {a : Nat} {q e : Int} (h : e ≠ 0) : EscF s a (.tup [.str [],.int .i64 q,.int .i64 e]) := ⟨_,_,_,rfl,fun h2 => absurd h2 h⟩
set_option maxHeartbeats 8000000 in
theorem px_r13_escape (s : Bytes) (hs : s.length ≤ 2000000) (a : Nat) (ha : a < s.length) : ∃ x,PC Tryz.V 104 [.str s,.int .i64 a] x ∧ EscF s a x := by
  refine px_of 3000 Tryz.func104 rfl Tryz.ntmps104 Tryz.results104 Tryz.call104 (by simp) (by simp [flat,flat.flatL]) ?_
  refine vcS_cutS 2900 (fun σ => lk 0 σ.t = some (.str s) ∧ lk 1 σ.t = some (.int .i64 a) ∧ σ.b = []) ?_ (fun k' hk' => ?_)
  rotate_left
  · simp only [lawG,↓Xn,↓Xo,↓Xg,↓Xd,↓Xe,↓Xf,Tryz.VΓ,Tryz.Γs,Xp,Xi,Nat.reduceAdd,Nat.reduceSub,Nat.reduceLT,Nat.reduceLeDiff,reduceIte,reduceCtorEq,Nat.reduceEqDiff,implies_true,forall_const,lawV,lawA,beq_self_eq_true,bne_self_eq_false,Int.reduceBEq,Int.reduceBNe,Int.reduceLT,Int.reduceLE]
    exact hk' _ _ ⟨rfl,rfl,rfl⟩
  rintro m ⟨t,b⟩ ⟨h0,h1,rfl⟩
  simp only at h0 h1
  refine vcS_cutS 2800 (fun σ => lk 0 σ.t = some (.str s) ∧ lk 1 σ.t = some (.int .i64 a)) ?_ (fun k' hk' => ?_)
  rotate_left
  · by_cases hlt : a + 1 < s.length
    · have hlt2 : decide ((a : Int) + 1 < s.length) = true := decide_eq_true (by omega)
      simp only [lawG,↓Xn,↓Xo,↓Xg,↓Xd,↓Xe,↓Xf,Tryz.VΓ,Tryz.Γs,Xp,Xi,Nat.reduceAdd,Nat.reduceSub,Nat.reduceLT,Nat.reduceLeDiff,reduceIte,reduceCtorEq,Nat.reduceEqDiff,implies_true,forall_const,lawV,lawA,beq_self_eq_true,bne_self_eq_false,Int.reduceBEq,Int.reduceBNe,Int.reduceLT,Int.reduceLE,h0,h1,hlt2]
      refine ⟨by omega,loopV_mk (fun σ => ∃ k : Nat,k ≤ 8 ∧ lk 0 σ.t = some (.str s) ∧ lk 1 σ.t = some (.int .i64 a) ∧ lk 20 σ.t = some (.p 0 0) ∧ σ.b = [.ext (iterR codesB k)]) (fun σ => match itOf σ.b[0]? with | some (_,p) => 8 - p | none => 0) ⟨0,by omega,by simp [lk,h0],by simp [lk,h1],rfl,rfl⟩ ?_⟩
      rintro ⟨t,b⟩ ⟨k,hk,h0,h1,h20,rfl⟩
      simp only at h0 h1 h20
      have hL : codesB.length = 8 := rfl
      by_cases hk8 : k < 8
      · have hk2 : decide (k < 8) = true := decide_eq_true hk8
        have hc := codes_lt k hk8
        simp only [lawG,↓Xn,↓Xo,↓Xg,↓Xd,↓Xe,↓Xf,Tryz.VΓ,Tryz.Γs,Xp,Xi,Nat.reduceAdd,Nat.reduceSub,Nat.reduceLT,Nat.reduceLeDiff,reduceIte,reduceCtorEq,Nat.reduceEqDiff,implies_true,forall_const,lawV,lawA,beq_self_eq_true,bne_self_eq_false,Int.reduceBEq,Int.reduceBNe,Int.reduceLT,Int.reduceLE,h0,h1,h20,hL,hk2]
        exact ⟨hc,by omega,by omega,by omega,(OkD_fast (by kernel_rfl)),fun _ => ⟨by omega,by omega,by omega,rfl,_,_,_,rfl,fun _ => ⟨a + 2,rfl,by omega,by omega,by simp; omega⟩⟩,fun _ => ⟨⟨k + 1,by omega,rfl⟩,by omega⟩⟩
      · have hk2 : decide (k < 8) = false := decide_eq_false hk8
        simp only [lawG,↓Xn,↓Xo,↓Xg,↓Xd,↓Xe,↓Xf,Tryz.VΓ,Tryz.Γs,Xp,Xi,Nat.reduceAdd,Nat.reduceSub,Nat.reduceLT,Nat.reduceLeDiff,reduceIte,reduceCtorEq,Nat.reduceEqDiff,implies_true,forall_const,lawV,lawA,beq_self_eq_true,bne_self_eq_false,Int.reduceBEq,Int.reduceBNe,Int.reduceLT,Int.reduceLE,h0,h1,h20,hL,hk2]
        exact hk' _ _ ⟨by simp [lk,h0],by simp [lk,h1]⟩
    · have hlt2 : decide ((a : Int) + 1 < s.length) = false := decide_eq_false (by omega)
      simp only [lawG,↓Xn,↓Xo,↓Xg,↓Xd,↓Xe,↓Xf,Tryz.VΓ,Tryz.Γs,Xp,Xi,Nat.reduceAdd,Nat.reduceSub,Nat.reduceLT,Nat.reduceLeDiff,reduceIte,reduceCtorEq,Nat.reduceEqDiff,implies_true,forall_const,lawV,lawA,beq_self_eq_true,bne_self_eq_false,Int.reduceBEq,Int.reduceBNe,Int.reduceLT,Int.reduceLE,h0,h1,hlt2]
      exact ⟨by omega,hk' _ _ ⟨by simp [lk,h0],by simp [lk,h1]⟩⟩
  rintro m ⟨t,b⟩ ⟨h0,h1⟩
  simp only at h0 h1
  refine vcS_cutS 2700 (fun σ => ∃ (n : Nat) (ok : Bool),n ≤ 65535 ∧ (ok = true → a + 6 ≤ s.length) ∧ lk 0 σ.t = some (.str s) ∧ lk 1 σ.t = some (.int .i64 a) ∧ lk 8 σ.t = some (.int .i64 n) ∧ lk 9 σ.t = some (.bool ok)) ?_ (fun k' hk' => ?_)
  rotate_left
  · obtain ⟨_,p1,n,ok,rfl,hn,hok⟩ := px_r13_unit s hs a (by omega)
    simp only [lawG,↓Xn,↓Xo,↓Xg,↓Xd,↓Xe,↓Xf,Tryz.VΓ,Tryz.Γs,Xp,Xi,Nat.reduceAdd,Nat.reduceSub,Nat.reduceLT,Nat.reduceLeDiff,reduceIte,reduceCtorEq,Nat.reduceEqDiff,implies_true,forall_const,lawV,lawA,beq_self_eq_true,bne_self_eq_false,Int.reduceBEq,Int.reduceBNe,Int.reduceLT,Int.reduceLE,h0,h1]
    (refine callV_pc (p1) ?_; simp only [lawG,↓Xn,↓Xo,↓Xg,↓Xd,↓Xe,↓Xf,Tryz.VΓ,Tryz.Γs,Xp,Xi,Nat.reduceAdd,Nat.reduceSub,Nat.reduceLT,Nat.reduceLeDiff,reduceIte,reduceCtorEq,Nat.reduceEqDiff,implies_true,forall_const,lawV,lawA,beq_self_eq_true,bne_self_eq_false,Int.reduceBEq,Int.reduceBNe,Int.reduceLT,Int.reduceLE,h0,h1])
    exact hk' _ _ ⟨n,ok,hn,hok,by simp [lk,h0],by simp [lk,h1],rfl,rfl⟩
  rintro m ⟨t,b⟩ ⟨n,ok,hn,hok,h0,h1,h8,h9⟩
  simp only at h0 h1 h8 h9
  cases hb : ok
  · subst hb
    simp only [lawG,↓Xn,↓Xo,↓Xg,↓Xd,↓Xe,↓Xf,Tryz.VΓ,Tryz.Γs,Xp,Xi,Nat.reduceAdd,Nat.reduceSub,Nat.reduceLT,Nat.reduceLeDiff,reduceIte,reduceCtorEq,Nat.reduceEqDiff,implies_true,forall_const,lawV,lawA,beq_self_eq_true,bne_self_eq_false,Int.reduceBEq,Int.reduceBNe,Int.reduceLT,Int.reduceLE,h0,h1,h8,h9]
    exact ⟨rfl,EscF.err (by decide)⟩
  have h6 := hok hb
  subst hb
  refine vcS_cutS 2600 (fun σ => lk 0 σ.t = some (.str s) ∧ lk 1 σ.t = some (.int .i64 a) ∧ lk 8 σ.t = some (.int .i64 n)) ?_ (fun k' hk' => ?_)
  rotate_left
  · simp only [lawG,↓Xn,↓Xo,↓Xg,↓Xd,↓Xe,↓Xf,Tryz.VΓ,Tryz.Γs,Xp,Xi,Nat.reduceAdd,Nat.reduceSub,Nat.reduceLT,Nat.reduceLeDiff,reduceIte,reduceCtorEq,Nat.reduceEqDiff,implies_true,forall_const,lawV,lawA,beq_self_eq_true,bne_self_eq_false,Int.reduceBEq,Int.reduceBNe,Int.reduceLT,Int.reduceLE,h0,h1,h8,h9]
    exact hk' _ _ ⟨by simp [lk,h0],by simp [lk,h1],by simp [lk,h8]⟩
  rintro m ⟨t,b⟩ ⟨h0,h1,h8⟩
  simp only at h0 h1 h8
  refine vcS_cutS 2500 (fun σ => lk 0 σ.t = some (.str s) ∧ lk 1 σ.t = some (.int .i64 a) ∧ lk 8 σ.t = some (.int .i64 n)) ?_ (fun k' hk' => ?_)
  rotate_left
  · obtain ⟨_,p1,u,e,rfl,hu⟩ := px_r2_Encode n
    cases hn1 : decide ((n : Int) < 55296)
    · cases hn2 : decide ((57343 : Int) < n)
      · simp only [lawG,↓Xn,↓Xo,↓Xg,↓Xd,↓Xe,↓Xf,Tryz.VΓ,Tryz.Γs,Xp,Xi,Nat.reduceAdd,Nat.reduceSub,Nat.reduceLT,Nat.reduceLeDiff,reduceIte,reduceCtorEq,Nat.reduceEqDiff,implies_true,forall_const,lawV,lawA,beq_self_eq_true,bne_self_eq_false,Int.reduceBEq,Int.reduceBNe,Int.reduceLT,Int.reduceLE,h0,h1,h8,hn1,hn2]
        exact hk' _ _ ⟨by simp [lk,h0],by simp [lk,h1],by simp [lk,h8]⟩
      · simp only [lawG,↓Xn,↓Xo,↓Xg,↓Xd,↓Xe,↓Xf,Tryz.VΓ,Tryz.Γs,Xp,Xi,Nat.reduceAdd,Nat.reduceSub,Nat.reduceLT,Nat.reduceLeDiff,reduceIte,reduceCtorEq,Nat.reduceEqDiff,implies_true,forall_const,lawV,lawA,beq_self_eq_true,bne_self_eq_false,Int.reduceBEq,Int.reduceBNe,Int.reduceLT,Int.reduceLE,h0,h1,h8,hn1,hn2]
        (refine callV_pc (p1) ?_; simp only [lawG,↓Xn,↓Xo,↓Xg,↓Xd,↓Xe,↓Xf,Tryz.VΓ,Tryz.Γs,Xp,Xi,Nat.reduceAdd,Nat.reduceSub,Nat.reduceLT,Nat.reduceLeDiff,reduceIte,reduceCtorEq,Nat.reduceEqDiff,implies_true,forall_const,lawV,lawA,beq_self_eq_true,bne_self_eq_false,Int.reduceBEq,Int.reduceBNe,Int.reduceLT,Int.reduceLE,h0,h1,h8])
        exact ⟨by omega,rfl,_,_,_,rfl,fun _ => ⟨a + 6,rfl,by omega,h6,by omega⟩⟩
    · simp only [lawG,↓Xn,↓Xo,↓Xg,↓Xd,↓Xe,↓Xf,Tryz.VΓ,Tryz.Γs,Xp,Xi,Nat.reduceAdd,Nat.reduceSub,Nat.reduceLT,Nat.reduceLeDiff,reduceIte,reduceCtorEq,Nat.reduceEqDiff,implies_true,forall_const,lawV,lawA,beq_self_eq_true,bne_self_eq_false,Int.reduceBEq,Int.reduceBNe,Int.reduceLT,Int.reduceLE,h0,h1,h8,hn1]
      (refine callV_pc (p1) ?_; simp only [lawG,↓Xn,↓Xo,↓Xg,↓Xd,↓Xe,↓Xf,Tryz.VΓ,Tryz.Γs,Xp,Xi,Nat.reduceAdd,Nat.reduceSub,Nat.reduceLT,Nat.reduceLeDiff,reduceIte,reduceCtorEq,Nat.reduceEqDiff,implies_true,forall_const,lawV,lawA,beq_self_eq_true,bne_self_eq_false,Int.reduceBEq,Int.reduceBNe,Int.reduceLT,Int.reduceLE,h0,h1,h8])
      exact ⟨by omega,rfl,_,_,_,rfl,fun _ => ⟨a + 6,rfl,by omega,h6,by omega⟩⟩
  rintro m ⟨t,b⟩ ⟨h0,h1,h8⟩
  simp only at h0 h1 h8
  refine vcS_cutS 2400 (fun σ => ∃ (m : Nat) (ok : Bool),m ≤ 65535 ∧ (ok = true → a + 6 + 6 ≤ s.length) ∧ lk 1 σ.t = some (.int .i64 a) ∧ lk 8 σ.t = some (.int .i64 n) ∧ lk 12 σ.t = some (.int .i64 m) ∧ lk 9 σ.t = some (.bool ok)) ?_ (fun k' hk' => ?_)
  rotate_left
  · obtain ⟨_,p1,m,ok,rfl,hm,hok⟩ := px_r13_unit s hs (a + 6) (by omega)
    simp only [lawG,↓Xn,↓Xo,↓Xg,↓Xd,↓Xe,↓Xf,Tryz.VΓ,Tryz.Γs,Xp,Xi,Nat.reduceAdd,Nat.reduceSub,Nat.reduceLT,Nat.reduceLeDiff,reduceIte,reduceCtorEq,Nat.reduceEqDiff,implies_true,forall_const,lawV,lawA,beq_self_eq_true,bne_self_eq_false,Int.reduceBEq,Int.reduceBNe,Int.reduceLT,Int.reduceLE,h0,h1,h8]
    refine ⟨by omega,?_⟩
    (refine callV_pc (p1) ?_; simp only [lawG,↓Xn,↓Xo,↓Xg,↓Xd,↓Xe,↓Xf,Tryz.VΓ,Tryz.Γs,Xp,Xi,Nat.reduceAdd,Nat.reduceSub,Nat.reduceLT,Nat.reduceLeDiff,reduceIte,reduceCtorEq,Nat.reduceEqDiff,implies_true,forall_const,lawV,lawA,beq_self_eq_true,bne_self_eq_false,Int.reduceBEq,Int.reduceBNe,Int.reduceLT,Int.reduceLE,h0,h1,h8])
    exact hk' _ _ ⟨m,ok,hm,hok,by simp [lk,h1],by simp [lk,h8],rfl,rfl⟩
  rintro m ⟨t,b⟩ ⟨m',ok,hm,hok,h1,h8,h12,h9⟩
  simp only at h1 h8 h12 h9
  cases hb : ok
  · subst hb
    cases hn3 : decide ((56319 : Int) < n)
    · simp only [lawG,↓Xn,↓Xo,↓Xg,↓Xd,↓Xe,↓Xf,Tryz.VΓ,Tryz.Γs,Xp,Xi,Nat.reduceAdd,Nat.reduceSub,Nat.reduceLT,Nat.reduceLeDiff,reduceIte,reduceCtorEq,Nat.reduceEqDiff,implies_true,forall_const,lawV,lawA,beq_self_eq_true,bne_self_eq_false,Int.reduceBEq,Int.reduceBNe,Int.reduceLT,Int.reduceLE,h1,h8,h12,h9,hn3]
      exact ⟨rfl,EscF.err (by decide)⟩
    · simp only [lawG,↓Xn,↓Xo,↓Xg,↓Xd,↓Xe,↓Xf,Tryz.VΓ,Tryz.Γs,Xp,Xi,Nat.reduceAdd,Nat.reduceSub,Nat.reduceLT,Nat.reduceLeDiff,reduceIte,reduceCtorEq,Nat.reduceEqDiff,implies_true,forall_const,lawV,lawA,beq_self_eq_true,bne_self_eq_false,Int.reduceBEq,Int.reduceBNe,Int.reduceLT,Int.reduceLE,h1,h8,h12,h9,hn3]
      exact ⟨rfl,EscF.err (by decide)⟩
  have h12' := hok hb
  subst hb
  refine vcS_cutS 2300 (fun σ => lk 1 σ.t = some (.int .i64 a) ∧ lk 8 σ.t = some (.int .i64 n) ∧ lk 12 σ.t = some (.int .i64 m')) ?_ (fun k' hk' => ?_)
  rotate_left
  · simp only [lawG,↓Xn,↓Xo,↓Xg,↓Xd,↓Xe,↓Xf,Tryz.VΓ,Tryz.Γs,Xp,Xi,Nat.reduceAdd,Nat.reduceSub,Nat.reduceLT,Nat.reduceLeDiff,reduceIte,reduceCtorEq,Nat.reduceEqDiff,implies_true,forall_const,lawV,lawA,beq_self_eq_true,bne_self_eq_false,Int.reduceBEq,Int.reduceBNe,Int.reduceLT,Int.reduceLE,h1,h8,h12,h9]
    have hr : EscF s a (.tup [.str [],.int .i64 0,.int .i64 7]) := EscF.err (by decide)
    exact ⟨fun _ => ⟨fun _ => ⟨fun _ => ⟨rfl,hr⟩,fun _ => hk' _ _ ⟨by simp [lk,h1],by simp [lk,h8],by simp [lk,h12]⟩⟩,fun _ => ⟨rfl,hr⟩⟩,fun _ => ⟨rfl,hr⟩⟩
  rintro m ⟨t,b⟩ ⟨h1,h8,h12⟩
  simp only at h1 h8 h12
  obtain ⟨_,p1,u,e,rfl,hu⟩ := px_r2_Encode (65536 + ((n : Int) - 55296) * 1024 + m' - 56320)
  simp only [lawG,↓Xn,↓Xo,↓Xg,↓Xd,↓Xe,↓Xf,Tryz.VΓ,Tryz.Γs,Xp,Xi,Nat.reduceAdd,Nat.reduceSub,Nat.reduceLT,Nat.reduceLeDiff,reduceIte,reduceCtorEq,Nat.reduceEqDiff,implies_true,forall_const,lawV,lawA,beq_self_eq_true,bne_self_eq_false,Int.reduceBEq,Int.reduceBNe,Int.reduceLT,Int.reduceLE,h1,h8,h12]
  refine ⟨by omega,by omega,by omega,by omega,by omega,?_⟩
  (refine callV_pc (p1) ?_; simp only [lawG,↓Xn,↓Xo,↓Xg,↓Xd,↓Xe,↓Xf,Tryz.VΓ,Tryz.Γs,Xp,Xi,Nat.reduceAdd,Nat.reduceSub,Nat.reduceLT,Nat.reduceLeDiff,reduceIte,reduceCtorEq,Nat.reduceEqDiff,implies_true,forall_const,lawV,lawA,beq_self_eq_true,bne_self_eq_false,Int.reduceBEq,Int.reduceBNe,Int.reduceLT,Int.reduceLE,h1,h8,h12])
  exact ⟨by omega,rfl,_,_,_,rfl,fun _ => ⟨a + 12,rfl,by omega,by omega,by omega⟩⟩
def TxtF (s : Bytes) (a : Nat) (x : SV) : Prop := ∃ (u : Bytes) (q e : Int),x = .tup [.str u,.int .i64 q,.int .i64 e] ∧ (e = 0 → ∃ q' : Nat,q = q' ∧ a < q' ∧ q' ≤ s.length ∧ u.length ≤ s.length)
set_option maxHeartbeats 8000000 in
theorem px_r13_text (s : Bytes) (hs : s.length ≤ 2000000) (a : Nat) (ha : a < s.length) : ∃ x,PC Tryz.V 86 [.str s,.int .i64 a] x ∧ TxtF s a x := by
  refine px_of 3000 Tryz.func86 rfl Tryz.ntmps86 Tryz.results86 Tryz.call86 (by simp) (by simp [flat,flat.flatL]) ?_
  simp only [lawG,↓Xn,↓Xo,↓Xg,↓Xd,↓Xe,↓Xf,Tryz.VΓ,Tryz.Γs,Xp,Xi,Nat.reduceAdd,Nat.reduceSub,Nat.reduceLT,Nat.reduceLeDiff,reduceIte,reduceCtorEq,Nat.reduceEqDiff,implies_true,forall_const,lawV,lawA,beq_self_eq_true,bne_self_eq_false,Int.reduceBEq,Int.reduceBNe,Int.reduceLT,Int.reduceLE]
  refine ⟨by omega,loopV_mk (fun σ => ∃ (i : Nat) (u : Bytes),a < i ∧ i ≤ s.length ∧ u.length + a + 1 ≤ i ∧ lk 0 σ.t = some (.str s) ∧ lk 7 σ.t = some (.str u) ∧ lk 8 σ.t = some (.int .i64 i)) (fun σ => s.length - lkI 8 σ) ⟨a + 1,[],by omega,by omega,by simp,rfl,rfl,rfl⟩ ?_⟩
  rintro ⟨t,b⟩ ⟨i,u,hai,hi,hu,h0,h7,h8⟩
  simp only at h0 h7 h8
  rw [lkI_eq h8]
  by_cases hlt : i < s.length
  · have hlt2 : decide ((i : Int) < s.length) = true := decide_eq_true (by omega)
    cases c1 : ((s.getD i 0).toNat : Int) == 34
    rotate_left
    · simp only [lawG,↓Xn,↓Xo,↓Xg,↓Xd,↓Xe,↓Xf,Tryz.VΓ,Tryz.Γs,Xp,Xi,Nat.reduceAdd,Nat.reduceSub,Nat.reduceLT,Nat.reduceLeDiff,reduceIte,reduceCtorEq,Nat.reduceEqDiff,implies_true,forall_const,lawV,lawA,beq_self_eq_true,bne_self_eq_false,Int.reduceBEq,Int.reduceBNe,Int.reduceLT,Int.reduceLE,h0,h7,h8,hlt2,c1]
      exact ⟨by omega,by omega,rfl,_,_,_,rfl,fun _ => ⟨i + 1,rfl,by omega,by omega,by omega⟩⟩
    cases c2 : ((s.getD i 0).toNat : Int) == 92
    rotate_left
    · obtain ⟨_,p1,v,q,e,rfl,he⟩ := px_r13_escape s hs i hlt
      simp only [lawG,↓Xn,↓Xo,↓Xg,↓Xd,↓Xe,↓Xf,Tryz.VΓ,Tryz.Γs,Xp,Xi,Nat.reduceAdd,Nat.reduceSub,Nat.reduceLT,Nat.reduceLeDiff,reduceIte,reduceCtorEq,Nat.reduceEqDiff,implies_true,forall_const,lawV,lawA,beq_self_eq_true,bne_self_eq_false,Int.reduceBEq,Int.reduceBNe,Int.reduceLT,Int.reduceLE,h0,h7,h8,hlt2,c1,c2]
      refine ⟨by omega,by omega,?_⟩
      refine callV_pc p1 ?_
      cases c3 : e != 0
      · obtain ⟨q',rfl,k1,k2,k3⟩ := he (by simpa using c3)
        simp only [lawG,↓Xn,↓Xo,↓Xg,↓Xd,↓Xe,↓Xf,Tryz.VΓ,Tryz.Γs,Xp,Xi,Nat.reduceAdd,Nat.reduceSub,Nat.reduceLT,Nat.reduceLeDiff,reduceIte,reduceCtorEq,Nat.reduceEqDiff,implies_true,forall_const,lawV,lawA,beq_self_eq_true,bne_self_eq_false,Int.reduceBEq,Int.reduceBNe,Int.reduceLT,Int.reduceLE,h0,h7,h8,c3]
        refine ⟨by omega,⟨q',u ++ v,by omega,k2,by simp; omega,rfl,rfl⟩,?_⟩
        rw [lkI_eq (k := .i64) (n := (q' : Int)) rfl]; omega
      · simp only [lawG,↓Xn,↓Xo,↓Xg,↓Xd,↓Xe,↓Xf,Tryz.VΓ,Tryz.Γs,Xp,Xi,Nat.reduceAdd,Nat.reduceSub,Nat.reduceLT,Nat.reduceLeDiff,reduceIte,reduceCtorEq,Nat.reduceEqDiff,implies_true,forall_const,lawV,lawA,beq_self_eq_true,bne_self_eq_false,Int.reduceBEq,Int.reduceBNe,Int.reduceLT,Int.reduceLE,h0,h7,h8,c3]
        exact ⟨rfl,[],0,e,rfl,fun h => by rw [h] at c3; simp at c3⟩
    cases c3 : decide (((s.getD i 0).toNat : Int) < 32)
    rotate_left
    · simp only [lawG,↓Xn,↓Xo,↓Xg,↓Xd,↓Xe,↓Xf,Tryz.VΓ,Tryz.Γs,Xp,Xi,Nat.reduceAdd,Nat.reduceSub,Nat.reduceLT,Nat.reduceLeDiff,reduceIte,reduceCtorEq,Nat.reduceEqDiff,implies_true,forall_const,lawV,lawA,beq_self_eq_true,bne_self_eq_false,Int.reduceBEq,Int.reduceBNe,Int.reduceLT,Int.reduceLE,h0,h7,h8,hlt2,c1,c2,c3]
      exact ⟨by omega,by omega,by omega,rfl,_,_,_,rfl,fun h => by simp at h⟩
    obtain ⟨_,p1,r,q,e,rfl,he⟩ := px_r2_Decode s hs i
    simp only [lawG,↓Xn,↓Xo,↓Xg,↓Xd,↓Xe,↓Xf,Tryz.VΓ,Tryz.Γs,Xp,Xi,Nat.reduceAdd,Nat.reduceSub,Nat.reduceLT,Nat.reduceLeDiff,reduceIte,reduceCtorEq,Nat.reduceEqDiff,implies_true,forall_const,lawV,lawA,beq_self_eq_true,bne_self_eq_false,Int.reduceBEq,Int.reduceBNe,Int.reduceLT,Int.reduceLE,h0,h7,h8,hlt2,c1,c2,c3]
    refine ⟨by omega,by omega,by omega,?_⟩
    refine callV_pc p1 ?_
    cases c4 : e != 0
    · obtain ⟨k1,k2⟩ := he (by simpa using c4)
      obtain ⟨q',rfl⟩ : ∃ q' : Nat,q = q' := ⟨q.toNat,by omega⟩
      simp only [lawG,↓Xn,↓Xo,↓Xg,↓Xd,↓Xe,↓Xf,Tryz.VΓ,Tryz.Γs,Xp,Xi,Nat.reduceAdd,Nat.reduceSub,Nat.reduceLT,Nat.reduceLeDiff,reduceIte,reduceCtorEq,Nat.reduceEqDiff,implies_true,forall_const,lawV,lawA,beq_self_eq_true,bne_self_eq_false,Int.reduceBEq,Int.reduceBNe,Int.reduceLT,Int.reduceLE,h0,h7,h8,c4]
      have hl : ((s.take q').drop i).length = q' - i := by rw [List.length_drop,List.length_take]; omega
      refine ⟨by omega,by omega,⟨q',u ++ (s.take q').drop i,by omega,by omega,by rw [List.length_append]; omega,rfl,rfl⟩,?_⟩
      rw [lkI_eq (k := .i64) (n := (q' : Int)) rfl]; omega
    · simp only [lawG,↓Xn,↓Xo,↓Xg,↓Xd,↓Xe,↓Xf,Tryz.VΓ,Tryz.Γs,Xp,Xi,Nat.reduceAdd,Nat.reduceSub,Nat.reduceLT,Nat.reduceLeDiff,reduceIte,reduceCtorEq,Nat.reduceEqDiff,implies_true,forall_const,lawV,lawA,beq_self_eq_true,bne_self_eq_false,Int.reduceBEq,Int.reduceBNe,Int.reduceLT,Int.reduceLE,h0,h7,h8,c4]
      exact ⟨rfl,[],0,e,rfl,fun h => by rw [h] at c4; simp at c4⟩
  · have hlt2 : decide ((i : Int) < s.length) = false := decide_eq_false (by omega)
    simp only [lawG,↓Xn,↓Xo,↓Xg,↓Xd,↓Xe,↓Xf,Tryz.VΓ,Tryz.Γs,Xp,Xi,Nat.reduceAdd,Nat.reduceSub,Nat.reduceLT,Nat.reduceLeDiff,reduceIte,reduceCtorEq,Nat.reduceEqDiff,implies_true,forall_const,lawV,lawA,beq_self_eq_true,bne_self_eq_false,Int.reduceBEq,Int.reduceBNe,Int.reduceLT,Int.reduceLE,h0,h7,h8,hlt2]
    exact ⟨rfl,_,_,_,rfl,fun h => by simp at h⟩
end Go.Proofs.YtejfjmcjicpodaaGreatDoor
/- ref13: some exact result of Next. -/
set_option linter.all false
set_option maxRecDepth 20000
namespace Go.Proofs.YtejfjmcjicpodaaGreatDoor
open Go Vc Go.RowKit Wf
set_option linter.unusedSimpArgs false
def NexF (s : Bytes) (a : Nat) (x : SV) : Prop := ∃ (k : Int) (u : Bytes) (p q e : Int),x = .tup [.agg [.int .i64 k,.str u,.int .i64 p],.int .i64 q,.int .i64 e] ∧ (e = 0 → ∃ q' : Nat,q = q' ∧ a ≤ q' ∧ q' ≤ s.length ∧ u.length ≤ s.length ∧ (k = 1 ∨ a < q'))
theorem NexF.err {s : Bytes} {a : Nat} {q e : Int} (h : e ≠ 0) : NexF s a (.tup [.agg [.int .i64 0,.str [],.int .i64 0],.int .i64 q,.int .i64 e]) := ⟨_,_,_,_,_,rfl,fun h2 => absurd h2 h⟩
theorem NexF.ok {s : Bytes} {a : Nat} {k p : Int} {u : Bytes} {q : Nat} (h1 : a ≤ q) (h2 : q ≤ s.length) (h3 : u.length ≤ s.length) (h4 : k = 1 ∨ a < q) : NexF s a (.tup [.agg [.int .i64 k,.str u,.int .i64 p],.int .i64 q,.int .i64 0]) := ⟨_,_,_,_,_,rfl,fun _ => ⟨q,rfl,h1,h2,h3,h4⟩⟩
def ZT : Res := .cells [.int .i64 0,.str [],.int .i64 0] 56 true
theorem sl_len {s : Bytes} {p q : Nat} (h : p ≤ q) (hq : q ≤ s.length) : ((s.take q).drop p).length = q - p := by rw [List.length_drop,List.length_take]; omega
set_option maxHeartbeats 8000000 in
theorem px_r13_Next (s : Bytes) (hs : s.length ≤ 2000000) (a : Nat) (ha : a ≤ s.length) : ∃ x,PC Tryz.V 59 [.str s,.int .i64 a] x ∧ NexF s a x := by
  refine px_of 3000 Tryz.func59 rfl Tryz.ntmps59 Tryz.results59 Tryz.call59 (by simp) (by simp [flat,flat.flatL]) ?_
  refine vcS_cutS 2900 (fun σ => lk 0 σ.t = some (.str s) ∧ lk 1 σ.t = some (.int .i64 a) ∧ lk 4 σ.t = some (.p 0 0) ∧ σ.b = [ZT]) ?_ (fun k' hk' => ?_)
  rotate_left
  · simp only [lawG,↓Xn,↓Xo,↓Xg,↓Xd,↓Xe,↓Xf,Tryz.VΓ,Tryz.Γs,Xp,Xi,Nat.reduceAdd,Nat.reduceSub,Nat.reduceLT,Nat.reduceLeDiff,reduceIte,reduceCtorEq,Nat.reduceEqDiff,implies_true,forall_const,lawV,lawA,beq_self_eq_true,bne_self_eq_false,Int.reduceBEq,Int.reduceBNe,Int.reduceLT,Int.reduceLE]
    exact hk' _ _ ⟨rfl,rfl,rfl,rfl⟩
  rintro m ⟨t,b⟩ ⟨h0,h1,h4,rfl⟩
  simp only at h0 h1 h4
  refine vcS_cutS 2800 (fun σ => lk 0 σ.t = some (.str s) ∧ lk 1 σ.t = some (.int .i64 a) ∧ lk 4 σ.t = some (.p 0 0) ∧ σ.b = [ZT]) ?_ (fun k' hk' => ?_)
  rotate_left
  · have e0 : decide ((a : Int) < 0) = false := decide_eq_false (by omega)
    have e1 : decide ((s.length : Int) < a) = false := decide_eq_false (by omega)
    simp only [lawG,↓Xn,↓Xo,↓Xg,↓Xd,↓Xe,↓Xf,Tryz.VΓ,Tryz.Γs,Xp,Xi,Nat.reduceAdd,Nat.reduceSub,Nat.reduceLT,Nat.reduceLeDiff,reduceIte,reduceCtorEq,Nat.reduceEqDiff,implies_true,forall_const,lawV,lawA,beq_self_eq_true,bne_self_eq_false,Int.reduceBEq,Int.reduceBNe,Int.reduceLT,Int.reduceLE,h0,h1,h4,e0,e1]
    exact hk' _ _ ⟨by simp [lk,h0],by simp [lk,h1],by simp [lk,h4],rfl⟩
  rintro m ⟨t,b⟩ ⟨h0,h1,h4,rfl⟩
  simp only at h0 h1 h4
  refine vcS_cutS 2700 (fun σ => ∃ p : Nat,a ≤ p ∧ p ≤ s.length ∧ lk 0 σ.t = some (.str s) ∧ lk 1 σ.t = some (.int .i64 p) ∧ lk 4 σ.t = some (.p 0 0) ∧ σ.b = [ZT]) ?_ (fun k' hk' => ?_)
  rotate_left
  · simp only [lawG,↓Xn,↓Xo,↓Xg,↓Xd,↓Xe,↓Xf,Tryz.VΓ,Tryz.Γs,Xp,Xi,Nat.reduceAdd,Nat.reduceSub,Nat.reduceLT,Nat.reduceLeDiff,reduceIte,reduceCtorEq,Nat.reduceEqDiff,implies_true,forall_const,lawV,lawA,beq_self_eq_true,bne_self_eq_false,Int.reduceBEq,Int.reduceBNe,Int.reduceLT,Int.reduceLE,h0,h1,h4]
    refine loopV_mk (fun σ => ∃ p : Nat,a ≤ p ∧ p ≤ s.length ∧ lk 0 σ.t = some (.str s) ∧ lk 1 σ.t = some (.int .i64 p) ∧ lk 4 σ.t = some (.p 0 0) ∧ σ.b = [ZT]) (fun σ => s.length - lkI 1 σ) ⟨a,by omega,ha,h0,h1,h4,rfl⟩ ?_
    rintro ⟨t,b⟩ ⟨p,hap,hp,h0,h1,h4,rfl⟩
    simp only at h0 h1 h4
    rw [lkI_eq h1]
    by_cases hlt : p < s.length
    · have hlt2 : decide ((p : Int) < s.length) = true := decide_eq_true (by omega)
      have p1 := p_r13_white (s.getD p 0)
      simp only [lawG,↓Xn,↓Xo,↓Xg,↓Xd,↓Xe,↓Xf,Tryz.VΓ,Tryz.Γs,Xp,Xi,Nat.reduceAdd,Nat.reduceSub,Nat.reduceLT,Nat.reduceLeDiff,reduceIte,reduceCtorEq,Nat.reduceEqDiff,implies_true,forall_const,lawV,lawA,beq_self_eq_true,bne_self_eq_false,Int.reduceBEq,Int.reduceBNe,Int.reduceLT,Int.reduceLE,h0,h1,h4,hlt2]
      refine ⟨by omega,callV_pc p1 ?_⟩
      cases hc : ([32,9,10,13] : Bytes).contains (s.getD p 0)
      · simp only [lawG,↓Xn,↓Xo,↓Xg,↓Xd,↓Xe,↓Xf,Tryz.VΓ,Tryz.Γs,Xp,Xi,Nat.reduceAdd,Nat.reduceSub,Nat.reduceLT,Nat.reduceLeDiff,reduceIte,reduceCtorEq,Nat.reduceEqDiff,implies_true,forall_const,lawV,lawA,beq_self_eq_true,bne_self_eq_false,Int.reduceBEq,Int.reduceBNe,Int.reduceLT,Int.reduceLE,h0,h1,h4]
        exact hk' _ _ ⟨p,hap,hp,by simp [lk,h0],by simp [lk,h1],by simp [lk,h4],rfl⟩
      · simp only [lawG,↓Xn,↓Xo,↓Xg,↓Xd,↓Xe,↓Xf,Tryz.VΓ,Tryz.Γs,Xp,Xi,Nat.reduceAdd,Nat.reduceSub,Nat.reduceLT,Nat.reduceLeDiff,reduceIte,reduceCtorEq,Nat.reduceEqDiff,implies_true,forall_const,lawV,lawA,beq_self_eq_true,bne_self_eq_false,Int.reduceBEq,Int.reduceBNe,Int.reduceLT,Int.reduceLE,h0,h1,h4]
        refine ⟨by omega,⟨p + 1,by omega,by omega,rfl⟩,?_⟩
        rw [lkI_eq (k := .i64) (n := (p : Int) + 1) rfl]; omega
    · have hlt2 : decide ((p : Int) < s.length) = false := decide_eq_false (by omega)
      simp only [lawG,↓Xn,↓Xo,↓Xg,↓Xd,↓Xe,↓Xf,Tryz.VΓ,Tryz.Γs,Xp,Xi,Nat.reduceAdd,Nat.reduceSub,Nat.reduceLT,Nat.reduceLeDiff,reduceIte,reduceCtorEq,Nat.reduceEqDiff,implies_true,forall_const,lawV,lawA,beq_self_eq_true,bne_self_eq_false,Int.reduceBEq,Int.reduceBNe,Int.reduceLT,Int.reduceLE,h0,h1,h4,hlt2]
      exact hk' _ _ ⟨p,hap,hp,by simp [lk,h0],by simp [lk,h1],by simp [lk,h4],rfl⟩
  rintro m ⟨t,b⟩ ⟨p,hap,hp,h0,h1,h4,rfl⟩
  simp only at h0 h1 h4
  refine vcS_cutS 2600 (fun σ => p < s.length ∧ lk 0 σ.t = some (.str s) ∧ lk 1 σ.t = some (.int .i64 p) ∧ lk 4 σ.t = some (.p 0 0) ∧ σ.b = [ZT]) ?_ (fun k' hk' => ?_)
  rotate_left
  · cases he : ((p : Int) == s.length)
    · simp only [lawG,↓Xn,↓Xo,↓Xg,↓Xd,↓Xe,↓Xf,Tryz.VΓ,Tryz.Γs,Xp,Xi,Nat.reduceAdd,Nat.reduceSub,Nat.reduceLT,Nat.reduceLeDiff,reduceIte,reduceCtorEq,Nat.reduceEqDiff,implies_true,forall_const,lawV,lawA,beq_self_eq_true,bne_self_eq_false,Int.reduceBEq,Int.reduceBNe,Int.reduceLT,Int.reduceLE,h0,h1,h4,he]
      exact hk' _ _ ⟨by simp at he; omega,by simp [lk,h0],by simp [lk,h1],by simp [lk,h4],rfl⟩
    · simp only [lawG,↓Xn,↓Xo,↓Xg,↓Xd,↓Xe,↓Xf,Tryz.VΓ,Tryz.Γs,Xp,Xi,Nat.reduceAdd,Nat.reduceSub,Nat.reduceLT,Nat.reduceLeDiff,reduceIte,reduceCtorEq,Nat.reduceEqDiff,implies_true,forall_const,lawV,lawA,beq_self_eq_true,bne_self_eq_false,Int.reduceBEq,Int.reduceBNe,Int.reduceLT,Int.reduceLE,h0,h1,h4,he,ZT]
      exact ⟨rfl,NexF.ok hap hp (by simp) (.inl rfl)⟩
  rintro m ⟨t,b⟩ ⟨hlt,h0,h1,h4,rfl⟩
  simp only at h0 h1 h4
  refine vcS_cutS 2500 (fun σ => lk 0 σ.t = some (.str s) ∧ lk 1 σ.t = some (.int .i64 p) ∧ lk 4 σ.t = some (.p 0 0) ∧ σ.b = [ZT]) ?_ (fun k' hk' => ?_)
  rotate_left
  · have p1 := p_r1_In (s.getD p 0) [123,125,91,93,58,44] (by simp)
    simp only [lawG,↓Xn,↓Xo,↓Xg,↓Xd,↓Xe,↓Xf,Tryz.VΓ,Tryz.Γs,Xp,Xi,Nat.reduceAdd,Nat.reduceSub,Nat.reduceLT,Nat.reduceLeDiff,reduceIte,reduceCtorEq,Nat.reduceEqDiff,implies_true,forall_const,lawV,lawA,beq_self_eq_true,bne_self_eq_false,Int.reduceBEq,Int.reduceBNe,Int.reduceLT,Int.reduceLE,h0,h1,h4]
    refine ⟨by omega,callV_pc p1 ?_⟩
    cases hc : ([123,125,91,93,58,44] : Bytes).contains (s.getD p 0)
    rotate_left
    · simp only [lawG,↓Xn,↓Xo,↓Xg,↓Xd,↓Xe,↓Xf,Tryz.VΓ,Tryz.Γs,Xp,Xi,Nat.reduceAdd,Nat.reduceSub,Nat.reduceLT,Nat.reduceLeDiff,reduceIte,reduceCtorEq,Nat.reduceEqDiff,implies_true,forall_const,lawV,lawA,beq_self_eq_true,bne_self_eq_false,Int.reduceBEq,Int.reduceBNe,Int.reduceLT,Int.reduceLE,h0,h1,h4,ZT]
      exact ⟨by omega,by omega,by omega,rfl,NexF.ok (q := p + 1) (by omega) (by omega) (by rw [List.length_drop,List.length_take]; omega) (.inr (by omega))⟩
    cases c1 : ((s.getD p 0).toNat : Int) == 34
    rotate_left
    · obtain ⟨_,p2,u,q,e,rfl,he⟩ := px_r13_text s hs p hlt
      simp only [lawG,↓Xn,↓Xo,↓Xg,↓Xd,↓Xe,↓Xf,Tryz.VΓ,Tryz.Γs,Xp,Xi,Nat.reduceAdd,Nat.reduceSub,Nat.reduceLT,Nat.reduceLeDiff,reduceIte,reduceCtorEq,Nat.reduceEqDiff,implies_true,forall_const,lawV,lawA,beq_self_eq_true,bne_self_eq_false,Int.reduceBEq,Int.reduceBNe,Int.reduceLT,Int.reduceLE,h0,h1,h4,c1]
      refine callV_pc p2 ?_
      cases c3 : e != 0
      · obtain ⟨q',rfl,k1,k2,k3⟩ := he (by simpa using c3)
        have e0 : e = 0 := by simpa using c3
        subst e0
        simp only [lawG,↓Xn,↓Xo,↓Xg,↓Xd,↓Xe,↓Xf,Tryz.VΓ,Tryz.Γs,Xp,Xi,Nat.reduceAdd,Nat.reduceSub,Nat.reduceLT,Nat.reduceLeDiff,reduceIte,reduceCtorEq,Nat.reduceEqDiff,implies_true,forall_const,lawV,lawA,beq_self_eq_true,bne_self_eq_false,Int.reduceBEq,Int.reduceBNe,Int.reduceLT,Int.reduceLE,h0,h1,h4,c3,ZT]
        exact ⟨rfl,NexF.ok (by omega) (by omega) k3 (.inr (by omega))⟩
      · simp only [lawG,↓Xn,↓Xo,↓Xg,↓Xd,↓Xe,↓Xf,Tryz.VΓ,Tryz.Γs,Xp,Xi,Nat.reduceAdd,Nat.reduceSub,Nat.reduceLT,Nat.reduceLeDiff,reduceIte,reduceCtorEq,Nat.reduceEqDiff,implies_true,forall_const,lawV,lawA,beq_self_eq_true,bne_self_eq_false,Int.reduceBEq,Int.reduceBNe,Int.reduceLT,Int.reduceLE,h0,h1,h4,c3,ZT]
        exact ⟨rfl,NexF.err (by intro h; rw [h] at c3; simp at c3)⟩
    have p3 := p_r1_IsDigit (s.getD p 0)
    obtain ⟨_,p4,n,rfl,hn⟩ := px_r13_numeral (s.drop p) (by rw [List.length_drop]; omega)
    rw [List.length_drop] at hn
    cases c2 : ((s.getD p 0).toNat : Int) == 45
    · simp only [lawG,↓Xn,↓Xo,↓Xg,↓Xd,↓Xe,↓Xf,Tryz.VΓ,Tryz.Γs,Xp,Xi,Nat.reduceAdd,Nat.reduceSub,Nat.reduceLT,Nat.reduceLeDiff,reduceIte,reduceCtorEq,Nat.reduceEqDiff,implies_true,forall_const,lawV,lawA,beq_self_eq_true,bne_self_eq_false,Int.reduceBEq,Int.reduceBNe,Int.reduceLT,Int.reduceLE,h0,h1,h4,c1,c2]
      refine callV_pc p3 ?_
      cases c4 : isDigit (s.getD p 0)
      · simp only [lawG,↓Xn,↓Xo,↓Xg,↓Xd,↓Xe,↓Xf,Tryz.VΓ,Tryz.Γs,Xp,Xi,Nat.reduceAdd,Nat.reduceSub,Nat.reduceLT,Nat.reduceLeDiff,reduceIte,reduceCtorEq,Nat.reduceEqDiff,implies_true,forall_const,lawV,lawA,beq_self_eq_true,bne_self_eq_false,Int.reduceBEq,Int.reduceBNe,Int.reduceLT,Int.reduceLE,h0,h1,h4]
        exact hk' _ _ ⟨by simp [lk,h0],by simp [lk,h1],by simp [lk,h4],rfl⟩
      · simp only [lawG,↓Xn,↓Xo,↓Xg,↓Xd,↓Xe,↓Xf,Tryz.VΓ,Tryz.Γs,Xp,Xi,Nat.reduceAdd,Nat.reduceSub,Nat.reduceLT,Nat.reduceLeDiff,reduceIte,reduceCtorEq,Nat.reduceEqDiff,implies_true,forall_const,lawV,lawA,beq_self_eq_true,bne_self_eq_false,Int.reduceBEq,Int.reduceBNe,Int.reduceLT,Int.reduceLE,h0,h1,h4]
        (refine ⟨by omega,callV_pc p4 ?_⟩
         cases c5 : ((n : Int) == 0)
         · have hn0 : 0 < n := by simp at c5; omega
           simp only [lawG,↓Xn,↓Xo,↓Xg,↓Xd,↓Xe,↓Xf,Tryz.VΓ,Tryz.Γs,Xp,Xi,Nat.reduceAdd,Nat.reduceSub,Nat.reduceLT,Nat.reduceLeDiff,reduceIte,reduceCtorEq,Nat.reduceEqDiff,implies_true,forall_const,lawV,lawA,beq_self_eq_true,bne_self_eq_false,Int.reduceBEq,Int.reduceBNe,Int.reduceLT,Int.reduceLE,h0,h1,h4,c5,ZT]
           exact ⟨by omega,by omega,by omega,rfl,NexF.ok (q := p + n) (by omega) (by omega) (by rw [List.length_drop,List.length_take]; omega) (.inr (by omega))⟩
         · simp only [lawG,↓Xn,↓Xo,↓Xg,↓Xd,↓Xe,↓Xf,Tryz.VΓ,Tryz.Γs,Xp,Xi,Nat.reduceAdd,Nat.reduceSub,Nat.reduceLT,Nat.reduceLeDiff,reduceIte,reduceCtorEq,Nat.reduceEqDiff,implies_true,forall_const,lawV,lawA,beq_self_eq_true,bne_self_eq_false,Int.reduceBEq,Int.reduceBNe,Int.reduceLT,Int.reduceLE,h0,h1,h4,c5,ZT]
           exact ⟨rfl,NexF.err (by decide)⟩)
    · simp only [lawG,↓Xn,↓Xo,↓Xg,↓Xd,↓Xe,↓Xf,Tryz.VΓ,Tryz.Γs,Xp,Xi,Nat.reduceAdd,Nat.reduceSub,Nat.reduceLT,Nat.reduceLeDiff,reduceIte,reduceCtorEq,Nat.reduceEqDiff,implies_true,forall_const,lawV,lawA,beq_self_eq_true,bne_self_eq_false,Int.reduceBEq,Int.reduceBNe,Int.reduceLT,Int.reduceLE,h0,h1,h4,c1,c2]
      (refine ⟨by omega,callV_pc p4 ?_⟩
       cases c5 : ((n : Int) == 0)
       · have hn0 : 0 < n := by simp at c5; omega
         simp only [lawG,↓Xn,↓Xo,↓Xg,↓Xd,↓Xe,↓Xf,Tryz.VΓ,Tryz.Γs,Xp,Xi,Nat.reduceAdd,Nat.reduceSub,Nat.reduceLT,Nat.reduceLeDiff,reduceIte,reduceCtorEq,Nat.reduceEqDiff,implies_true,forall_const,lawV,lawA,beq_self_eq_true,bne_self_eq_false,Int.reduceBEq,Int.reduceBNe,Int.reduceLT,Int.reduceLE,h0,h1,h4,c5,ZT]
         exact ⟨by omega,by omega,by omega,rfl,NexF.ok (q := p + n) (by omega) (by omega) (by rw [List.length_drop,List.length_take]; omega) (.inr (by omega))⟩
       · simp only [lawG,↓Xn,↓Xo,↓Xg,↓Xd,↓Xe,↓Xf,Tryz.VΓ,Tryz.Γs,Xp,Xi,Nat.reduceAdd,Nat.reduceSub,Nat.reduceLT,Nat.reduceLeDiff,reduceIte,reduceCtorEq,Nat.reduceEqDiff,implies_true,forall_const,lawV,lawA,beq_self_eq_true,bne_self_eq_false,Int.reduceBEq,Int.reduceBNe,Int.reduceLT,Int.reduceLE,h0,h1,h4,c5,ZT]
         exact ⟨rfl,NexF.err (by decide)⟩)
  rintro m ⟨t,b⟩ ⟨h0,h1,h4,rfl⟩
  simp only at h0 h1 h4
  refine vcS_cutS 2400 (fun σ => lk 0 σ.t = some (.str s) ∧ lk 1 σ.t = some (.int .i64 p) ∧ lk 12 σ.t = some (.int .i64 0) ∧ lk 4 σ.t = some (.p 0 0) ∧ σ.b = [ZT]) ?_ (fun k' hk' => ?_)
  rotate_left
  · simp only [lawG,↓Xn,↓Xo,↓Xg,↓Xd,↓Xe,↓Xf,Tryz.VΓ,Tryz.Γs,Xp,Xi,Nat.reduceAdd,Nat.reduceSub,Nat.reduceLT,Nat.reduceLeDiff,reduceIte,reduceCtorEq,Nat.reduceEqDiff,implies_true,forall_const,lawV,lawA,beq_self_eq_true,bne_self_eq_false,Int.reduceBEq,Int.reduceBNe,Int.reduceLT,Int.reduceLE,h0,h1,h4]
    exact hk' _ _ ⟨by simp [lk,h0],by simp [lk,h1],rfl,by simp [lk,h4],rfl⟩
  rintro m ⟨t,b⟩ ⟨h0,h1,h12,h4,rfl⟩
  simp only at h0 h1 h12 h4
  refine vcS_cutS 2300 (fun σ => ∃ n : Nat,p + n ≤ s.length ∧ lk 0 σ.t = some (.str s) ∧ lk 1 σ.t = some (.int .i64 p) ∧ lk 12 σ.t = some (.int .i64 n) ∧ lk 4 σ.t = some (.p 0 0) ∧ σ.b = [ZT]) ?_ (fun k' hk' => ?_)
  rotate_left
  · simp only [lawG,↓Xn,↓Xo,↓Xg,↓Xd,↓Xe,↓Xf,Tryz.VΓ,Tryz.Γs,Xp,Xi,Nat.reduceAdd,Nat.reduceSub,Nat.reduceLT,Nat.reduceLeDiff,reduceIte,reduceCtorEq,Nat.reduceEqDiff,implies_true,forall_const,lawV,lawA,beq_self_eq_true,bne_self_eq_false,Int.reduceBEq,Int.reduceBNe,Int.reduceLT,Int.reduceLE,h0,h1,h12,h4]
    refine loopV_mk (fun σ => ∃ n : Nat,p + n ≤ s.length ∧ lk 0 σ.t = some (.str s) ∧ lk 1 σ.t = some (.int .i64 p) ∧ lk 12 σ.t = some (.int .i64 n) ∧ lk 4 σ.t = some (.p 0 0) ∧ σ.b = [ZT]) (fun σ => s.length - lkI 12 σ) ⟨0,by omega,h0,h1,h12,h4,rfl⟩ ?_
    rintro ⟨t,b⟩ ⟨n,hn,h0,h1,h12,h4,rfl⟩
    simp only at h0 h1 h12 h4
    rw [lkI_eq h12]
    by_cases hln : p + n < s.length
    · have hlt2 : decide ((p : Int) + n < s.length) = true := decide_eq_true (by omega)
      have e1 : ((p : Int) + n).toNat = p + n := by omega
      have p1 := p_r1_IsAlpha (s.getD (p + n) 0)
      simp only [lawG,↓Xn,↓Xo,↓Xg,↓Xd,↓Xe,↓Xf,Tryz.VΓ,Tryz.Γs,Xp,Xi,Nat.reduceAdd,Nat.reduceSub,Nat.reduceLT,Nat.reduceLeDiff,reduceIte,reduceCtorEq,Nat.reduceEqDiff,implies_true,forall_const,lawV,lawA,beq_self_eq_true,bne_self_eq_false,Int.reduceBEq,Int.reduceBNe,Int.reduceLT,Int.reduceLE,h0,h1,h12,h4,hlt2]
      refine ⟨by omega,by omega,by omega,callV_pc p1 ?_⟩
      cases hc : isAlpha (s.getD (p + n) 0)
      · simp only [lawG,↓Xn,↓Xo,↓Xg,↓Xd,↓Xe,↓Xf,Tryz.VΓ,Tryz.Γs,Xp,Xi,Nat.reduceAdd,Nat.reduceSub,Nat.reduceLT,Nat.reduceLeDiff,reduceIte,reduceCtorEq,Nat.reduceEqDiff,implies_true,forall_const,lawV,lawA,beq_self_eq_true,bne_self_eq_false,Int.reduceBEq,Int.reduceBNe,Int.reduceLT,Int.reduceLE,h0,h1,h12,h4]
        exact hk' _ _ ⟨n,hn,by simp [lk,h0],by simp [lk,h1],by simp [lk,h12],by simp [lk,h4],rfl⟩
      · simp only [lawG,↓Xn,↓Xo,↓Xg,↓Xd,↓Xe,↓Xf,Tryz.VΓ,Tryz.Γs,Xp,Xi,Nat.reduceAdd,Nat.reduceSub,Nat.reduceLT,Nat.reduceLeDiff,reduceIte,reduceCtorEq,Nat.reduceEqDiff,implies_true,forall_const,lawV,lawA,beq_self_eq_true,bne_self_eq_false,Int.reduceBEq,Int.reduceBNe,Int.reduceLT,Int.reduceLE,h0,h1,h12,h4]
        refine ⟨by omega,⟨n + 1,by omega,rfl⟩,?_⟩
        rw [lkI_eq (k := .i64) (n := (n : Int) + 1) rfl]; omega
    · have hlt2 : decide ((p : Int) + n < s.length) = false := decide_eq_false (by omega)
      simp only [lawG,↓Xn,↓Xo,↓Xg,↓Xd,↓Xe,↓Xf,Tryz.VΓ,Tryz.Γs,Xp,Xi,Nat.reduceAdd,Nat.reduceSub,Nat.reduceLT,Nat.reduceLeDiff,reduceIte,reduceCtorEq,Nat.reduceEqDiff,implies_true,forall_const,lawV,lawA,beq_self_eq_true,bne_self_eq_false,Int.reduceBEq,Int.reduceBNe,Int.reduceLT,Int.reduceLE,h0,h1,h12,h4,hlt2]
      exact ⟨by omega,hk' _ _ ⟨n,hn,by simp [lk,h0],by simp [lk,h1],by simp [lk,h12],by simp [lk,h4],rfl⟩⟩
  rintro m ⟨t,b⟩ ⟨n,hn,h0,h1,h12,h4,rfl⟩
  simp only at h0 h1 h12 h4
  refine vcS_cutS 2200 (fun σ => lk 0 σ.t = some (.str s) ∧ lk 1 σ.t = some (.int .i64 p) ∧ lk 12 σ.t = some (.int .i64 n) ∧ lk 4 σ.t = some (.p 0 0) ∧ σ.b = [ZT]) ?_ (fun k' hk' => ?_)
  rotate_left
  · have wl : ∀ w : Bytes,w.length = 4 ∨ w.length = 5 → ((s.take (p + n)).drop p == w) = true → 0 < n := by
      intro w hw h
      have h2 := congrArg List.length (eq_of_beq h)
      rw [sl_len (by omega) hn] at h2
      omega
    have e1 : ((p : Int) + n).toNat = p + n := by omega
    have hl := sl_len (s := s) (p := p) (q := p + n) (by omega) hn
    simp only [lawG,↓Xn,↓Xo,↓Xg,↓Xd,↓Xe,↓Xf,Tryz.VΓ,Tryz.Γs,Xp,Xi,Nat.reduceAdd,Nat.reduceSub,Nat.reduceLT,Nat.reduceLeDiff,reduceIte,reduceCtorEq,Nat.reduceEqDiff,implies_true,forall_const,lawV,lawA,beq_self_eq_true,bne_self_eq_false,Int.reduceBEq,Int.reduceBNe,Int.reduceLT,Int.reduceLE,h0,h1,h12,h4,ZT,e1]
    have ok : ∀ w : Bytes,w.length = 4 ∨ w.length = 5 → ((s.take (p + n)).drop p == w) = true → NexF s a (.tup [.agg [.int .i64 5,.str ((s.take (p + n)).drop p),.int .i64 p],.int .i64 ((p : Int) + n),.int .i64 0]) := fun w hw h =>
      NexF.ok (q := p + n) (by omega) (by omega) (by omega) (.inr (by have := wl w hw h; omega))
    exact ⟨by omega,by omega,fun _ => ⟨fun _ => ⟨fun h => ⟨by omega,rfl,ok _ (by decide) h⟩,fun _ => hk' _ _ ⟨by simp [lk,h0],by simp [lk,h1],by simp [lk,h12],by simp [lk,h4],rfl⟩⟩,fun h => ⟨by omega,rfl,ok _ (by decide) h⟩⟩,fun h => ⟨by omega,rfl,ok _ (by decide) h⟩⟩
  rintro m ⟨t,b⟩ ⟨h0,h1,h12,h4,rfl⟩
  simp only at h0 h1 h12 h4
  simp only [lawG,↓Xn,↓Xo,↓Xg,↓Xd,↓Xe,↓Xf,Tryz.VΓ,Tryz.Γs,Xp,Xi,Nat.reduceAdd,Nat.reduceSub,Nat.reduceLT,Nat.reduceLeDiff,reduceIte,reduceCtorEq,Nat.reduceEqDiff,implies_true,forall_const,lawV,lawA,beq_self_eq_true,bne_self_eq_false,Int.reduceBEq,Int.reduceBNe,Int.reduceLT,Int.reduceLE,h0,h1,h12,h4,ZT]
  exact ⟨rfl,NexF.err (by decide)⟩
end Go.Proofs.YtejfjmcjicpodaaGreatDoor
