/- Texts of this claim,laid together: EncB,EncC,EncP,PjB,PjC,EncD,EncE,DocL,SelD,EncF,PjD,PjG,PjE,PjF. -/
import Derived.Test.YtejfjmcjicpodaaGreatDoorB4
/- diddoc.texts. -/
set_option linter.all false
set_option maxRecDepth 20000
namespace Go.Proofs.YtejfjmcjicpodaaGreatDoor
open Go Vc Go.RowKit Wf
set_option linter.unusedSimpArgs false
def txd (s : Bytes) : Tv := ⟨5,s,.nils,.nils⟩
def TxsR (bs : List Res) (L : List Bytes) (r : SV) (b : List Res) : Prop := ∃ y,Kp bs b ∧ r = .agg (tv ⟨6,[],.nils,y⟩) ∧ ((y = .nils ∧ L = []) ∨ ∃ q m,0 < L.length ∧ y = .o q L.length ∧ bs.length ≤ q ∧ b[q]? = some (.own ((L.map txd).flatMap tv) 25 4 L.length m))
theorem txd_snoc {L : List Bytes} {k : Nat} (h : k < L.length) : ((L.take (k + 1)).map txd).flatMap tv = ((L.take k).map txd).flatMap tv ++ [.int .i64 5,.str L[k],.nils,.nils] := by
  rw [List.take_succ_eq_append_getElem h,List.map_append,List.flatMap_append]
  rfl
set_option maxHeartbeats 4000000 in
theorem sc_dd_textsR {bs : List Res} {x : SV} {L : List Bytes} (hx : Rs bs x L) (hL : L.length ≤ 1100000) : SC Tryz.V 49 [x] bs (TxsR bs L) := by
  have hxw := hx.within
  have p1 := p_dd_text
  refine sc_of 3000 Tryz.func49 rfl Tryz.ntmps49 Tryz.results49 Tryz.call49 (by simp) (fun β β' hb => concL_within bs.length _ (by simp [within,within.withinL,hxw]) β β' hb) ?_
  unfold tv at p1
  rcases hx with ⟨rfl,rfl⟩ | ⟨j,rfl,hj⟩
  · simp only [lawG,↓Xn,↓Xo,↓Xg,↓Xd,↓Xe,↓Xf,Tryz.VΓ,Tryz.Γs,Xp,Xi,Nat.reduceAdd,Nat.reduceSub,Nat.reduceLT,Nat.reduceLeDiff,reduceIte,reduceCtorEq,Nat.reduceEqDiff,implies_true,forall_const,lawV,lawA,beq_self_eq_true,bne_self_eq_false,Int.reduceBEq,Int.reduceBNe,Int.reduceLT,Int.reduceLE]
    refine loopV_mk (fun σ => lk 8 σ.t = some (.int .i64 0) ∧ lk 9 σ.t = some (.int .i64 0) ∧ lk 2 σ.t = some (.p bs.length 0) ∧ lk 3 σ.t = some (.p (bs.length + 1) 0) ∧ σ.b = bs ++ [.cells [.int .i64 0,.str [],.nils,.nils] 25 true,.cells [.int .i64 6,.str [],.nils,.nils] 25 true]) (fun _ => 1) ⟨rfl,rfl,rfl,rfl,rfl⟩ ?_
    rintro ⟨t,b⟩ ⟨h8,h9,h2,h3,hb⟩
    simp only at h8 h9 h2 h3 hb
    subst hb
    simp only [lawG,↓Xn,↓Xo,↓Xg,↓Xd,↓Xe,↓Xf,Tryz.VΓ,Tryz.Γs,Xp,Xi,Nat.reduceAdd,Nat.reduceSub,Nat.reduceLT,Nat.reduceLeDiff,reduceIte,reduceCtorEq,Nat.reduceEqDiff,implies_true,forall_const,lawV,lawA,beq_self_eq_true,bne_self_eq_false,Int.reduceBEq,Int.reduceBNe,Int.reduceLT,Int.reduceLE,h8,h9,h2,h3]
    exact ⟨.nils,(Kp.refl bs).app _,rfl,.inl ⟨rfl,rfl⟩⟩
  · have hjl := (List.getElem?_eq_some_iff.1 hj).1
    simp only [lawG,↓Xn,↓Xo,↓Xg,↓Xd,↓Xe,↓Xf,Tryz.VΓ,Tryz.Γs,Xp,Xi,Nat.reduceAdd,Nat.reduceSub,Nat.reduceLT,Nat.reduceLeDiff,reduceIte,reduceCtorEq,Nat.reduceEqDiff,implies_true,forall_const,lawV,lawA,beq_self_eq_true,bne_self_eq_false,Int.reduceBEq,Int.reduceBNe,Int.reduceLT,Int.reduceLE]
    refine loopV_mk (fun σ => ∃ (k : Nat) (y : SV),k ≤ L.length ∧ lk 7 σ.t = some (.o j L.length) ∧ lk 8 σ.t = some (.int .i64 L.length) ∧ lk 9 σ.t = some (.int .i64 k) ∧ lk 2 σ.t = some (.p bs.length 0) ∧ lk 3 σ.t = some (.p (bs.length + 1) 0) ∧ Kp bs σ.b ∧ σ.b[bs.length]? = some (.cells [.int .i64 0,.str [],.nils,.nils] 25 true) ∧ σ.b[bs.length + 1]? = some (.cells [.int .i64 6,.str [],.nils,y] 25 true) ∧
      ((y = .nils ∧ k = 0) ∨ ∃ q,0 < k ∧ y = .o q k ∧ bs.length + 1 < q ∧ σ.b[q]? = some (.own (((L.take k).map txd).flatMap tv) 25 4 k true))) (fun σ => L.length - lkI 9 σ) ⟨0,.nils,by omega,rfl,rfl,rfl,rfl,rfl,(Kp.refl bs).app _,app_at0 _ _,app_at _ _ 1,.inl ⟨rfl,rfl⟩⟩ ?_
    rintro ⟨t,b⟩ ⟨k,y,hk,h7,h8,h9,h2,h3,hkp,hb0,hb1,hy⟩
    simp only at h7 h8 h9 h2 h3 hkp hb0 hb1 hy
    rw [lkI_eq h9]
    have hb1l := (List.getElem?_eq_some_iff.1 hb1).1
    have hbj := hkp.at hj
    by_cases hlt : k < L.length
    · have hlt2 : decide ((k : Int) < L.length) = true := decide_eq_true (by omega)
      have hkt : (L.map SV.str)[k * 1]? = some (.str L[k]) := by simp [hlt]
      have hset : ∀ (l : List Res) X,(b ++ l).set (bs.length + 1) X = b.set (bs.length + 1) X ++ l := fun l X => app_setL hb1l l X
      have hsn := txd_snoc hlt
      rcases hy with ⟨rfl,rfl⟩ | ⟨q,hk0,rfl,hq,hbq⟩
      · simp only [lawG,↓Xn,↓Xo,↓Xg,↓Xd,↓Xe,↓Xf,Tryz.VΓ,Tryz.Γs,Xp,Xi,Nat.reduceAdd,Nat.reduceSub,Nat.reduceLT,Nat.reduceLeDiff,reduceIte,reduceCtorEq,Nat.reduceEqDiff,implies_true,forall_const,lawV,lawA,beq_self_eq_true,bne_self_eq_false,Int.reduceBEq,Int.reduceBNe,Int.reduceLT,Int.reduceLE,h7,h8,h9,h2,h3,hbj,hb1,at_old hb1,hkt,hlt2,hset]
        refine ⟨by omega,by simp; omega,?_⟩
        (refine callD_pc (p1 _) ?_; simp only [lawG,↓Xn,↓Xo,↓Xg,↓Xd,↓Xe,↓Xf,Tryz.VΓ,Tryz.Γs,Xp,Xi,Nat.reduceAdd,Nat.reduceSub,Nat.reduceLT,Nat.reduceLeDiff,reduceIte,reduceCtorEq,Nat.reduceEqDiff,implies_true,forall_const,lawV,lawA,beq_self_eq_true,bne_self_eq_false,Int.reduceBEq,Int.reduceBNe,Int.reduceLT,Int.reduceLE,h7,h8,h9,h2,h3,at_old hb1,hset])
        have z1 : (b.length = bs.length + 1) = False := eq_false (by omega)
        have z2 : (b.length + 1 = bs.length + 1) = False := eq_false (by omega)
        refine ⟨by omega,⟨by unfold maxLen; omega,by omega⟩,?_,by omega,⟨1,.o (b.length + 1) 1,by omega,rfl,(hkp.set (by omega) _).app _,at_old (get_setN hb0 (by omega) _) _,get_setS hb1l _ _,.inr ⟨b.length + 1,by omega,rfl,by omega,?_⟩⟩,?_⟩
        · refine OkD_ren (fun n => if n = bs.length + 1 then 0 else n - b.length + 2) ?_
          simp only [List.map_cons,List.map_nil,renRk,renT,Nat.add_sub_cancel_left,Nat.sub_self,z1,z2,eq_self,if_true,if_false]
          exact OkD_fast (by kernel_rfl)
        · rw [app_atL (by simp),hsn]; rfl
        · rw [lkI_eq (show lk 9 _ = some (.int .i64 ((1 : Nat) : Int)) from rfl)]; omega
      · have hql := (List.getElem?_eq_some_iff.1 hbq).1
        have hsq : ∀ (l : List Res) X,(b ++ l).set q X = b.set q X ++ l := fun l X => app_setL hql l X
        simp only [lawG,↓Xn,↓Xo,↓Xg,↓Xd,↓Xe,↓Xf,Tryz.VΓ,Tryz.Γs,Xp,Xi,Nat.reduceAdd,Nat.reduceSub,Nat.reduceLT,Nat.reduceLeDiff,reduceIte,reduceCtorEq,Nat.reduceEqDiff,implies_true,forall_const,lawV,lawA,beq_self_eq_true,bne_self_eq_false,Int.reduceBEq,Int.reduceBNe,Int.reduceLT,Int.reduceLE,h7,h8,h9,h2,h3,hbj,hb1,at_old hb1,at_old hbq,hkt,hlt2,hset,hsq]
        refine ⟨by omega,by simp; omega,?_⟩
        have hq1 : q ≠ bs.length + 1 := by omega
        have hset2 : ∀ (l : List Res) Y X,(b.set q Y ++ l).set (bs.length + 1) X = (b.set q Y).set (bs.length + 1) X ++ l := fun l Y X => app_setL (by simpa using hb1l) l X
        have hbq1 := fun Y => at_old (get_setN hb1 hq1 Y)
        (refine callD_pc (p1 _) ?_; simp only [lawG,↓Xn,↓Xo,↓Xg,↓Xd,↓Xe,↓Xf,Tryz.VΓ,Tryz.Γs,Xp,Xi,Nat.reduceAdd,Nat.reduceSub,Nat.reduceLT,Nat.reduceLeDiff,reduceIte,reduceCtorEq,Nat.reduceEqDiff,implies_true,forall_const,lawV,lawA,beq_self_eq_true,bne_self_eq_false,Int.reduceBEq,Int.reduceBNe,Int.reduceLT,Int.reduceLE,h7,h8,h9,h2,h3,at_old hb1,at_old hbq,hset,hsq,hset2,hbq1])
        have z1 : (b.length = bs.length + 1) = False := eq_false (by omega)
        have z2 : (b.length + 1 = bs.length + 1) = False := eq_false (by omega)
        have z3 : (q = bs.length + 1) = False := eq_false (by omega)
        have z4 : (b.length = q) = False := eq_false (by omega)
        have z5 : (b.length + 1 = q) = False := eq_false (by omega)
        refine ⟨by omega,⟨by unfold maxLen; omega,by omega⟩,?_,by omega,⟨k + 1,.o (b.length + 1) (k + 1),by omega,rfl,((hkp.set (by omega) _).set (by omega) _).app _,at_old (get_setN (get_setN hb0 (by omega) _) (by omega) _) _,get_setS (by simpa using hb1l) _ _,.inr ⟨b.length + 1,by omega,rfl,by omega,?_⟩⟩,?_⟩
        · refine OkD_ren (fun n => if n = bs.length + 1 then 0 else if n = q then 1 else n - b.length + 2) ?_
          simp only [List.map_cons,List.map_nil,renRk,renT,Nat.add_sub_cancel_left,Nat.sub_self,z1,z2,z3,z4,z5,eq_self,if_true,if_false]
          exact OkD_fast (by kernel_rfl)
        · rw [app_atL (by simp),hsn]; rfl
        · rw [lkI_eq (show lk 9 _ = some (.int .i64 ((k + 1 : Nat) : Int)) from rfl)]; omega
    · have hlt2 : decide ((k : Int) < L.length) = false := decide_eq_false (by omega)
      have hb0l := (List.getElem?_eq_some_iff.1 hb0).1
      have hs0 : ∀ X,(b.set bs.length X)[bs.length]? = some X := fun X => List.getElem?_set_self hb0l
      have hyo : one y = true := by rcases hy with ⟨rfl,-⟩ | ⟨q,-,rfl,-⟩ <;> rfl
      obtain rfl : k = L.length := by omega
      simp only [lawG,↓Xn,↓Xo,↓Xg,↓Xd,↓Xe,↓Xf,Tryz.VΓ,Tryz.Γs,Xp,Xi,Nat.reduceAdd,Nat.reduceSub,Nat.reduceLT,Nat.reduceLeDiff,reduceIte,reduceCtorEq,Nat.reduceEqDiff,implies_true,forall_const,lawV,lawA,beq_self_eq_true,bne_self_eq_false,Int.reduceBEq,Int.reduceBNe,Int.reduceLT,Int.reduceLE,h8,h9,h2,h3,hlt2,hb0,hb1,hs0,hyo]
      refine ⟨y,hkp.set (Nat.le_refl _) _,rfl,?_⟩
      rcases hy with ⟨rfl,h0⟩ | ⟨q,hk0,rfl,hq,hbq⟩
      · exact .inl ⟨rfl,List.length_eq_zero_iff.1 h0⟩
      · rw [List.take_length] at hbq
        exact .inr ⟨q,true,hk0,rfl,by omega,get_setN hbq (by omega) _⟩
theorem gone_pick' {bs b : List Res} {r : SV} (hk : Kp bs b) (hr : within bs.length r = true) (n : Nat) {P : SV → List Res → Prop} (hP : P r (bs ++ List.replicate n .gone)) :
    ∃ (ρ : Nat → Nat) (Xs : List Res) (r2 : SV),Kp bs b ∧ (∀ k,k < bs.length → ρ k = k) ∧ (∀ q X,Xs[q]? = some X → Kept bs b ρ (bs.length + Xs.length) (bs.length + q) X) ∧ r = ren ρ r2 ∧ within (bs.length + Xs.length) r2 = true ∧ P r2 (bs ++ Xs) :=
  ⟨id,List.replicate n .gone,r,hk,fun _ _ => rfl,fun q X h => .inl (by
    have := (List.getElem?_eq_some_iff.1 h)
    obtain ⟨h1,h2⟩ := this
    rw [List.getElem_replicate] at h2
    exact h2.symm),(ren_within (fun _ _ => rfl) _ hr).symm,within_up (by omega) hr,hP⟩
theorem txds (b : List Res) : ∀ {L : List Bytes},(∀ s ∈ L,s.length ≤ 140737488355328) → TJs b (L.map Jv.str) (L.map txd)
  | [],_ => by simp [TJs]
  | s :: L,h => by
    rw [List.map_cons,List.map_cons,TJs]
    exact ⟨txd s,L.map txd,rfl,TJ.text b s (h s (by simp)),txds b fun x hx => h x (by simp [hx])⟩
theorem ar_dd_texts {bs : List Res} {x : SV} {L : List Bytes} (hx : Rs bs x L) (hL : L.length ≤ 1100000) (hs : ∀ s ∈ L,s.length ≤ 140737488355328) : ∃ v' A,TJ (bs ++ [A]) (.mk 6 [] [] (L.map Jv.str)) v' ∧ SC Tryz.V 49 [x] bs (fun r b => r = .agg (tv v') ∧ b = bs ++ [A]) := by
  by_cases h0 : L = []
  · subst h0
    refine ⟨⟨6,[],.nils,.nils⟩,.gone,TJ.mk' rfl rfl (by simp [Jv.t]) (.inl ⟨rfl,rfl⟩) (by simp [Jv.K]) (by simp [Jv.K]) (by simp [Jv.L]) ⟨[],.inl ⟨rfl,rfl⟩,by simp [Jv.L,TJs]⟩,SC.pick ((sc_dd_textsR hx (by omega)).mono ?_)⟩
    rintro r b ⟨y,hk,rfl,⟨rfl,-⟩ | ⟨q,m,h0,-⟩⟩
    · exact gone_pick' (P := fun r b => r = .agg (tv ⟨6,[],.nils,.nils⟩) ∧ b = bs ++ [.gone]) hk (by simp [within,within.withinL,tv]) 1 ⟨rfl,rfl⟩
    · exact absurd h0 (by simp)
  · refine ⟨⟨6,[],.nils,.o bs.length L.length⟩,.own ((L.map txd).flatMap tv) 25 4 L.length false,TJ.mk' rfl rfl (by simp [Jv.t]) (.inl ⟨rfl,rfl⟩) (by simp [Jv.K]) (by simp [Jv.K]) (by simp only [Jv.L,List.length_map]; omega) ⟨L.map txd,.inr ⟨bs.length,by simp,by rw [app_at0]; simp⟩,txds _ hs⟩,SC.pick ((sc_dd_textsR hx (by omega)).mono ?_)⟩
    · rintro r b ⟨y,hk,rfl,⟨-,hn⟩ | ⟨q,m,h0,rfl,hq,hbq⟩⟩
      · exact absurd hn h0
      · have hρ : ∀ k,k < bs.length → (fun i => if i = bs.length then q else i) k = k := fun k hk => by
          show (if k = bs.length then q else k) = k
          rw [if_neg (by omega)]
        have w2 : ∀ m,within.withinL m ((L.map txd).flatMap tv) = true := fun m => TvIn.all (fun y hy => by
          obtain ⟨s,h1,rfl⟩ := List.mem_map.1 hy
          exact ⟨rfl,rfl,rfl,rfl⟩)
        refine ⟨fun i => if i = bs.length then q else i,[.own ((L.map txd).flatMap tv) 25 4 L.length false],_,hk,hρ,?_,?_,?_,rfl,rfl⟩
        · rintro p X hp
          match p,hp with
          | 0,hp =>
            cases hp
            refine .inr ⟨_,_,_,_,m,rfl,?_,?_,w2 _⟩
            · simpa using hq
            · rw [renL_within hρ _ (w2 _)]; simpa using hbq
        · simp [ren,renL,tv]
        · simp [within,within.withinL,tv]
end Go.Proofs.YtejfjmcjicpodaaGreatDoor
/- diddoc.Encode's closure: one member more. -/
set_option linter.all false
set_option maxRecDepth 20000
namespace Go.Proofs.YtejfjmcjicpodaaGreatDoor
open Go Vc Go.RowKit Wf
set_option linter.unusedSimpArgs false
def KpQ (q qk qi : Nat) (bs b : List Res) : Prop := bs.length ≤ b.length ∧ ∀ i r,bs[i]? = some r → i ≠ q → i ≠ qk → i ≠ qi → b[i]? = some r
structure OB (b : List Res) (q qk qi : Nat) (Ks : List Bytes) (Ls : List Tv) : Prop where
  bq : b[q]? = some (.cells [.int .i64 7,.str [],.o qk Ks.length,.o qi Ls.length] 25 true)
  bk : b[qk]? = some (.own (Ks.map SV.str) 9 1 Ks.length true)
  bi : b[qi]? = some (.own (Ls.flatMap tv) 25 4 Ls.length true)
set_option maxHeartbeats 8000000 in
theorem sc_dd_put {bs : List Res} {q qk qi : Nat} {Ks : List Bytes} {Ls : List Tv} (h : OB bs q qk qi Ks Ls) (hKl : Ks.length ≤ 1000) (hLl : Ls.length ≤ 1000) (key : Bytes) {v : Tv} (hv : TvIn bs.length v) {n : Nat} (hn : ∀ e,lenS (.slice e) v.xi = some (.int .i64 n)) (hn0 : 0 < n) :
    SC Tryz.V 48 [.str key,.agg (tv v),.p q 0] bs (fun r b => r = .tup [] ∧ ∃ qk' qi',bs.length ≤ qk' ∧ bs.length ≤ qi' ∧ OB b q qk' qi' (Ks ++ [key]) (Ls ++ [v]) ∧ KpQ q qk qi bs b) := by
  obtain ⟨bq,bk,bi⟩ := h
  obtain ⟨v1,v2,v3,v4⟩ := hv
  have ho : (one v.xk && one v.xi) = true := by rw [v3,v4]; rfl
  have hql := (List.getElem?_eq_some_iff.1 bq).1
  have hkl := (List.getElem?_eq_some_iff.1 bk).1
  have hil := (List.getElem?_eq_some_iff.1 bi).1
  have hki : qk ≠ qi := by rintro rfl; rw [bk] at bi; simp at bi
  have hkq : qk ≠ q := by rintro rfl; rw [bk] at bq; cases bq
  have hiq : qi ≠ q := by rintro rfl; rw [bi] at bq; cases bq
  have hc : decide ((0 : Int) < n) = true := decide_eq_true (by omega)
  refine sc_of 3000 Tryz.func48 rfl Tryz.ntmps48 Tryz.results48 Tryz.call48 (by simp) (fun β β' hb => concL_within bs.length _ (by simp [within,within.withinL,tv,v1,v2,hql]) β β' hb) ?_
  have c0 := at_old bq
  have c1 : ∀ (l : List Res) X,(bs ++ l).set qk X = bs.set qk X ++ l := fun l X => app_setL hkl l X
  have c2 := fun Y => at_old (get_setN bi hki Y)
  have c3 : ∀ (l : List Res) Y X,(bs.set qk Y ++ l).set qi X = (bs.set qk Y).set qi X ++ l := fun l Y X => app_setL (by simpa using hil) l X
  have c4 := fun Y => at_old (get_setN bq hkq Y)
  have c6 := fun Y Z => at_old (get_setN (get_setN bq hkq Y) hiq Z)
  have c7 : ∀ (l : List Res) Y Z X,((bs.set qk Y).set qi Z ++ l).set q X = ((bs.set qk Y).set qi Z).set q X ++ l := fun l Y Z X => app_setL (by simpa using hql) l X
  have c8 : ∀ (Y : Res) (l : List Res),(bs.set qk Y ++ l)[bs.length]? = l[0]? := fun Y l => by rw [show bs.length = (bs.set qk Y).length by simp,app_at0]
  have hgs : ∀ Y Z X (l : List Res),(((bs.set qk Y).set qi Z).set q X ++ l)[q]? = some X := fun Y Z X l => get_setS (by simpa using hql) X l
  have hss : ∀ Y Z X X' (l : List Res),(((bs.set qk Y).set qi Z).set q X ++ l).set q X' = ((bs.set qk Y).set qi Z).set q X' ++ l := fun Y Z X X' l => by rw [app_setL (by simpa using hql),List.set_set]
  unfold tv
  simp only [lawG,↓Xn,↓Xo,↓Xg,↓Xd,↓Xe,↓Xf,Tryz.VΓ,Tryz.Γs,Xp,Xi,Nat.reduceAdd,Nat.reduceSub,Nat.reduceLT,Nat.reduceLeDiff,reduceIte,reduceCtorEq,Nat.reduceEqDiff,implies_true,forall_const,lawV,lawA,beq_self_eq_true,bne_self_eq_false,Int.reduceBEq,Int.reduceBNe,Int.reduceLT,Int.reduceLE,ho,hn,hc,v4,bq,c0,at_old bk,c1,c2,c3,c4,c6,c7,c8,hgs,hss]
  simp only [List.length_set]
  have hKK : (Ks ++ [key]).length = Ks.length + 1 := by simp
  have hLL : (Ls ++ [v]).length = Ls.length + 1 := by simp
  refine ⟨by omega,⟨by unfold maxLen; omega,by omega⟩,by omega,⟨v3,by unfold maxLen; omega,by omega⟩,?_,bs.length + 2,bs.length + 4,by omega,by omega,⟨?_,?_,?_⟩,by simp,fun i r hi h1 h2 h3 => at_old (get_setN (get_setN (get_setN hi (Ne.symm h2) _) (Ne.symm h3) _) (Ne.symm h1) _) _⟩
  · have z1 : (bs.length = q) = False := eq_false (by omega)
    have z2 : (bs.length + 1 = q) = False := eq_false (by omega)
    have z3 : (bs.length + 2 = q) = False := eq_false (by omega)
    have z4 : (bs.length + 3 = q) = False := eq_false (by omega)
    have z5 : (bs.length + 4 = q) = False := eq_false (by omega)
    have y1 : (bs.length = qk) = False := eq_false (by omega)
    have y2 : (bs.length + 1 = qk) = False := eq_false (by omega)
    have y3 : (bs.length + 2 = qk) = False := eq_false (by omega)
    have y4 : (bs.length + 3 = qk) = False := eq_false (by omega)
    have y5 : (bs.length + 4 = qk) = False := eq_false (by omega)
    have x1 : (bs.length = qi) = False := eq_false (by omega)
    have x2 : (bs.length + 1 = qi) = False := eq_false (by omega)
    have x3 : (bs.length + 2 = qi) = False := eq_false (by omega)
    have x4 : (bs.length + 3 = qi) = False := eq_false (by omega)
    have x5 : (bs.length + 4 = qi) = False := eq_false (by omega)
    have w1 : (qk = q) = False := eq_false hkq
    have w2 : (qi = q) = False := eq_false hiq
    have w3 : (qi = qk) = False := eq_false (fun e => hki e.symm)
    refine OkD_ren (fun n => if n = q then 0 else if n = qk then 1 else if n = qi then 2 else n - bs.length + 3) ?_
    have e0 : bs.length + 3 - bs.length = 3 := by omega
    have e1 : bs.length + 4 - bs.length = 4 := by omega
    have e2 : bs.length + 2 - bs.length = 2 := by omega
    have e3 : bs.length + 1 - bs.length = 1 := by omega
    simp only [List.map_cons,List.map_nil,renRk,renT,Nat.sub_self,z1,z2,z3,z4,z5,y1,y2,y3,y4,y5,x1,x2,x3,x4,x5,w1,w2,w3,e0,e1,e2,e3,eq_self,if_true,if_false]
    exact OkD_fast (by kernel_rfl)
  · rw [hKK,hLL]; exact get_setS (by simpa using hql) _ _
  · rw [app_atL (by simp),hKK]; simp
  · rw [app_atL (by simp),hLL]; simp [tv]
end Go.Proofs.YtejfjmcjicpodaaGreatDoor
/- What the encoding of a document is; it comes back. -/
set_option linter.all false
set_option maxRecDepth 20000
namespace Go.Proofs.YtejfjmcjicpodaaGreatDoor
open Go Vc Go.RowKit Wf
set_option linter.unusedSimpArgs false
def arrS (L : List Bytes) : Jv := .mk 6 [] [] (L.map Jv.str)
def methJ (m : Mtm) : Jv := .mk 7 [] [([105,100] : List UInt8),([116,121,112,101] : List UInt8),([99,111,110,116,114,111,108,108,101,114] : List UInt8)] [Jv.str m.id,Jv.str m.type,Jv.str m.ctrl]
def servJ (s : Svm) : Jv := .mk 7 [] [([105,100] : List UInt8),([116,121,112,101] : List UInt8),([115,101,114,118,105,99,101,69,110,100,112,111,105,110,116] : List UInt8)] [Jv.str s.id,arrS s.types,arrS s.ends]
def memK (key : Bytes) (L : List Jv) : List Bytes := if L.length = 0 then [] else [key]
def memI (L : List Jv) : List Jv := if L.length = 0 then [] else [.mk 6 [] [] L]
def encM (D : Docm) : Jv := .mk 7 []
  ([([105,100] : List UInt8)] ++ memK ([97,108,115,111,75,110,111,119,110,65,115] : List UInt8) (D.also.map Jv.str) ++ memK ([99,111,110,116,114,111,108,108,101,114] : List UInt8) (D.ctrl.map Jv.str) ++ memK ([118,101,114,105,102,105,99,97,116,105,111,110,77,101,116,104,111,100] : List UInt8) (D.methods.map methJ) ++ memK ([115,101,114,118,105,99,101] : List UInt8) (D.services.map servJ))
  ([Jv.str D.id] ++ memI (D.also.map Jv.str) ++ memI (D.ctrl.map Jv.str) ++ memI (D.methods.map methJ) ++ memI (D.services.map servJ))
theorem get_methJ (m : Mtm) : (methJ m).at ([105,100] : List UInt8) = Jv.str m.id ∧ (methJ m).at ([116,121,112,101] : List UInt8) = Jv.str m.type ∧ (methJ m).at ([99,111,110,116,114,111,108,108,101,114] : List UInt8) = Jv.str m.ctrl := by
  refine ⟨?_,?_,?_⟩ <;> simp [Jv.at,Jv.get,methJ,Jv.k,Jv.K,Jv.L,getK]
theorem get_servJ (s : Svm) : (servJ s).at ([105,100] : List UInt8) = Jv.str s.id ∧ (servJ s).at ([116,121,112,101] : List UInt8) = arrS s.types ∧ (servJ s).at ([115,101,114,118,105,99,101,69,110,100,112,111,105,110,116] : List UInt8) = arrS s.ends := by
  refine ⟨?_,?_,?_⟩ <;> simp [Jv.at,Jv.get,servJ,Jv.k,Jv.K,Jv.L,getK]
theorem get_encM (D : Docm) : (encM D).get ([105,100] : List UInt8) = some (Jv.str D.id) ∧
    (encM D).get ([97,108,115,111,75,110,111,119,110,65,115] : List UInt8) = (if D.also.length = 0 then none else some (.mk 6 [] [] (D.also.map Jv.str))) ∧
    (encM D).get ([99,111,110,116,114,111,108,108,101,114] : List UInt8) = (if D.ctrl.length = 0 then none else some (.mk 6 [] [] (D.ctrl.map Jv.str))) ∧
    (encM D).get ([118,101,114,105,102,105,99,97,116,105,111,110,77,101,116,104,111,100] : List UInt8) = (if D.methods.length = 0 then none else some (.mk 6 [] [] (D.methods.map methJ))) ∧
    (encM D).get ([115,101,114,118,105,99,101] : List UInt8) = (if D.services.length = 0 then none else some (.mk 6 [] [] (D.services.map servJ))) := by
  unfold encM
  refine ⟨?_,?_,?_,?_,?_⟩ <;>
    (by_cases h1 : D.also.length = 0 <;> by_cases h2 : D.ctrl.length = 0 <;> by_cases h3 : D.methods.length = 0 <;> by_cases h4 : D.services.length = 0 <;>
      simp [Jv.get,Jv.k,Jv.K,Jv.L,getK,memK,memI,h1,h2,h3,h4])
theorem more_arrS {L : List Bytes} (h : L.length ≤ 64) : moreE 0 (arrS L) = 0 ∧ moreL (arrS L) = L := by
  have h6 : (arrS L).k = 6 := rfl
  have hL : (arrS L).L = L.map Jv.str := rfl
  refine ⟨?_,?_⟩
  · unfold moreE
    rw [if_neg (by rw [h6]; decide)]
    unfold arrE arrL
    rw [if_pos h6,if_pos h6,hL,List.length_map,if_neg (by omega),if_neg (by omega),textsE_z]
    exact ⟨rfl,fun x hx => by obtain ⟨s,-,rfl⟩ := List.mem_map.1 hx; rfl⟩
  · unfold moreL
    rw [if_neg (by rw [h6]; decide)]
    unfold arrL
    rw [if_pos h6,hL,List.length_map,if_neg (by omega),List.map_map]
    exact List.map_id'' (fun x => rfl) L
def IdOk (d : Did) (t : Bytes) : Prop := (didResolve d t).2 = 0 ∧ didUrlText (didResolve d t).1 = t
theorem idE_str {d : Did} {t : Bytes} (h : IdOk d t) {x : Jv} (hx : x.at ([105,100] : List UInt8) = Jv.str t) : idE d 0 x = 0 ∧ idT d x = t := by
  have ht : (Jv.str t).t = t := rfl
  unfold idE idT
  rw [hx,ht,if_pos h.1,if_pos h.1,textsE_z]
  exact ⟨⟨rfl,by simp [Jv.str,Jv.k]⟩,h.2⟩
theorem methE_J {d : Did} {m : Mtm} (h : IdOk d m.id) : methE d 0 (methJ m) = 0 ∧ methM d (methJ m) = m := by
  obtain ⟨g1,g2,g3⟩ := get_methJ m
  obtain ⟨i1,i2⟩ := idE_str h g1
  unfold methE methM
  rw [i1,i2,g2,g3,textsE_z,textsE_z]
  exact ⟨⟨⟨rfl,by simp [Jv.str,Jv.k]⟩,by simp [Jv.str,Jv.k]⟩,rfl⟩
theorem servE_J {d : Did} {s : Svm} (h : IdOk d s.id) (ht : s.types.length ≤ 64) (he : s.ends.length ≤ 64) : servE d 0 (servJ s) = 0 ∧ servM d (servJ s) = s := by
  obtain ⟨g1,g2,g3⟩ := get_servJ s
  obtain ⟨i1,i2⟩ := idE_str h g1
  obtain ⟨t1,t2⟩ := more_arrS ht
  obtain ⟨e1,e2⟩ := more_arrS he
  have h7 : ¬ (arrS s.ends).k = 7 := by simp [arrS,Jv.k]
  unfold servE servM
  rw [g2,g3,if_neg h7,if_neg h7,i1,i2,t1,t2,e1,e2]
  exact ⟨rfl,rfl⟩
theorem foldE_all {g : Int → Jv → Int} : ∀ {L : List Jv},(∀ x ∈ L,g 0 x = 0) → foldE g 0 L = 0
  | [],_ => rfl
  | x :: L,h => by
    show foldE g (g 0 x) L = 0
    rw [h x (by simp)]
    exact foldE_all fun y hy => h y (by simp [hy])
structure DocFine (D : Docm) (d : Did) : Prop where
  id : didParse D.id = (d,0)
  idt : didText d = D.id
  also : D.also.length ≤ 64
  ctrl : D.ctrl.length ≤ 64
  ml : D.methods.length ≤ 64
  sl : D.services.length ≤ 64
  m : ∀ x ∈ D.methods,IdOk d x.id
  s : ∀ x ∈ D.services,IdOk d x.id ∧ x.types.length ≤ 64 ∧ x.ends.length ≤ 64
theorem list_enc {v : Jv} {key : Bytes} {L : List Jv} (hL : L.length ≤ 64) (h : v.get key = (if L.length = 0 then none else some (.mk 6 [] [] L))) : listE 0 v key = 0 ∧ listL v key = L := by
  unfold listE listL
  rw [h]
  by_cases h0 : L.length = 0
  · rw [if_pos h0]
    exact ⟨rfl,(List.length_eq_zero_iff.1 h0).symm⟩
  · rw [if_neg h0]
    have h64 : ¬ 64 < L.length := by omega
    simp [arrE,arrL,Jv.k,Jv.L,h64]
theorem doc_back {D : Docm} {d : Did} (h : DocFine D d) : docOf (encM D) = (D,0) := by
  obtain ⟨g1,g2,g3,g4,g5⟩ := get_encM D
  have hat : (encM D).at ([105,100] : List UInt8) = Jv.str D.id := by unfold Jv.at; rw [g1]; rfl
  have h7 : (encM D).k = 7 := rfl
  have ht : (Jv.str D.id).t = D.id := rfl
  have h5 : (Jv.str D.id).k = 5 := rfl
  obtain ⟨a1,a2⟩ := list_enc (L := D.also.map Jv.str) (by simpa using h.also) (by simpa using g2)
  obtain ⟨m1,m2⟩ := list_enc (L := D.methods.map methJ) (by simpa using h.ml) (by simpa using g4)
  obtain ⟨s1,s2⟩ := list_enc (L := D.services.map servJ) (by simpa using h.sl) (by simpa using g5)
  have hc : ctrlE 0 (encM D) = 0 ∧ ctrlL (encM D) = D.ctrl := by
    unfold ctrlE ctrlL
    rw [g3]
    by_cases h0 : D.ctrl.length = 0
    · rw [if_pos h0]; exact ⟨rfl,(List.length_eq_zero_iff.1 h0).symm⟩
    · rw [if_neg h0]; exact more_arrS h.ctrl
  have ha : alsoE 0 (encM D) = 0 ∧ alsoL (encM D) = D.also := by
    unfold alsoE alsoL
    rw [a1,a2,textsE_z,List.map_map]
    exact ⟨⟨rfl,fun x hx => by obtain ⟨s,-,rfl⟩ := List.mem_map.1 hx; rfl⟩,List.map_id'' (fun x => rfl) _⟩
  have hm : methsE d 0 (encM D) = 0 := by
    unfold methsE
    rw [m1,m2]
    exact foldE_all fun x hx => by obtain ⟨y,hy,rfl⟩ := List.mem_map.1 hx; exact (methE_J (h.m y hy)).1
  have hse : servsE d 0 (encM D) = 0 := by
    unfold servsE
    rw [s1,s2]
    exact foldE_all fun x hx => by obtain ⟨y,hy,rfl⟩ := List.mem_map.1 hx; exact (servE_J (h.s y hy).1 (h.s y hy).2.1 (h.s y hy).2.2).1
  have hE : docE d (encM D) = 0 := by unfold docE; rw [ha.1,hc.1,hm,hse]
  have hM : docM d (encM D) = D := by
    unfold docM
    rw [ha.2,hc.2,m2,s2,h.idt,List.map_map,List.map_map]
    have e1 : D.methods.map (methM d ∘ methJ) = D.methods := by
      conv => rhs; rw [← List.map_id D.methods]
      exact List.map_congr_left fun x hx => (methE_J (h.m x hx)).2
    have e2 : D.services.map (servM d ∘ servJ) = D.services := by
      conv => rhs; rw [← List.map_id D.services]
      exact List.map_congr_left fun x hx => (servE_J (h.s x hx).1 (h.s x hx).2.1 (h.s x hx).2.2).2
    rw [e1,e2]
  unfold docOf
  rw [if_pos h7,hat,ht,h.id,if_pos ⟨h5,rfl⟩,if_pos hE,hM]
theorem resolve_back {d : Did} {r : Bytes} (h : (didResolve d r).2 = 0) : IdOk d (didUrlText (didResolve d r).1) := by
  obtain ⟨s,hs⟩ := resolve_can h
  obtain ⟨b1,-⟩ := didUrl_back hs
  generalize (didResolve d r).1 = u at *
  have hp : didS.isPrefixOf (didUrlText u) = true := rfl
  have e : didResolve d (didUrlText u) = (u,0) := by
    unfold didResolve
    rw [if_pos hp,b1]
  unfold IdOk
  rw [e]
  exact ⟨rfl,rfl⟩
theorem arr64 {e : Int} {m : Jv} (h : arrE e m = 0) : e = 0 ∧ (arrL m).length ≤ 64 := by
  have he : e = 0 := by
    by_cases he : e = 0
    · exact he
    · rw [arrE_ne he] at h; exact h
  subst he
  refine ⟨rfl,?_⟩
  unfold arrL
  split
  · split
    · simp
    · omega
  · simp
theorem more64 {e : Int} {m : Jv} (h : moreE e m = 0) : e = 0 ∧ (moreL m).length ≤ 64 := by
  have he : e = 0 := by
    by_cases he : e = 0
    · exact he
    · rw [moreE_ne he] at h; exact h
  subst he
  refine ⟨rfl,?_⟩
  unfold moreE at h
  unfold moreL
  split
  · simp
  · rename_i h5
    rw [if_neg h5] at h
    rw [List.length_map]
    exact (arr64 (textsE_z.1 h).1).2
theorem list64 {e : Int} {v : Jv} {key : Bytes} (h : listE e v key = 0) : e = 0 ∧ (listL v key).length ≤ 64 := by
  unfold listE at h
  unfold listL
  cases hg : v.get key with
  | none => rw [hg] at h; exact ⟨h,by simp⟩
  | some m => rw [hg] at h; exact arr64 h
theorem idT_ok {d : Did} {x : Jv} (h : (didResolve d (x.at ([105,100] : List UInt8)).t).2 = 0) : IdOk d (idT d x) := by
  unfold idT
  rw [if_pos h]
  exact resolve_back h
theorem doc_fine {j : Jv} (h : (docOf j).2 = 0) : DocFine (docOf j).1 (didParse (j.at ([105,100] : List UInt8)).t).1 := by
  obtain ⟨o1,o2,o3,o4,o5,o6⟩ := doc_ok h
  obtain ⟨hcan,hcl,hc4,-⟩ := did_can (s := (j.at ([105,100] : List UInt8)).t) (d := (didParse (j.at ([105,100] : List UInt8)).t).1) (by rw [← o1])
  have hE : docE (didParse (j.at ([105,100] : List UInt8)).t).1 j = 0 := by
    unfold docOf at h
    split at h
    · split at h
      · split at h
        · assumption
        · exact absurd h (by assumption)
      · simp at h
    · simp at h
  rw [o2]
  generalize (didParse (j.at ([105,100] : List UInt8)).t).1 = d at *
  unfold docE servsE at hE
  obtain ⟨s1,s2⟩ := fold_z (fun e v he => servE_ne he) _ hE
  obtain ⟨m0,sl⟩ := list64 s1
  unfold methsE at m0
  obtain ⟨m1,m2⟩ := fold_z (fun e v he => methE_ne he) _ m0
  obtain ⟨c0,ml⟩ := list64 m1
  have hcc : alsoE 0 j = 0 ∧ (ctrlL j).length ≤ 64 := by
    unfold ctrlE at c0
    unfold ctrlL
    cases hg : j.get ([99,111,110,116,114,111,108,108,101,114] : List UInt8) with
    | none => rw [hg] at c0; exact ⟨c0,by simp⟩
    | some m => rw [hg] at c0; exact more64 c0
  have hal : (alsoL j).length ≤ 64 := by
    have := hcc.1
    unfold alsoE at this
    unfold alsoL
    rw [List.length_map]
    exact (list64 (textsE_z.1 this).1).2
  refine ⟨did_read hcan (by omega),rfl,hal,hcc.2,by simpa [docM] using ml,by simpa [docM] using sl,?_,?_⟩
  · intro x hx
    simp only [docM,List.mem_map] at hx
    obtain ⟨y,hy,rfl⟩ := hx
    rw [o3] at hy
    exact idT_ok (o5 y hy).2
  · intro x hx
    simp only [docM,List.mem_map] at hx
    obtain ⟨y,hy,rfl⟩ := hx
    have hz := s2 y hy
    rw [o4] at hy
    refine ⟨idT_ok (o6 y hy).2,?_,?_⟩
    · unfold servE at hz
      split at hz
      · exact (more64 hz).2
      · exact (more64 (more64 hz).1).2
    · unfold servE at hz
      simp only [servM]
      split at hz
      · rename_i h7; rw [if_pos h7]; simp
      · rename_i h7; rw [if_neg h7]; exact (more64 hz).2
theorem doc_again {j : Jv} (h : (docOf j).2 = 0) : docOf (encM (docOf j).1) = ((docOf j).1,0) := doc_back (doc_fine h)
theorem selF_some {d : Did} {L : List Jv} {y : Jv} (hy : y ∈ L) : (selF d (idT d y) L).isSome = true := by
  unfold selF
  rw [List.find?_isSome]
  exact ⟨y,hy,by simp⟩
theorem sel_method {j : Jv} (h : (docOf j).2 = 0) {m : Mtm} (hm : m ∈ (docOf j).1.methods) : (selM j m.id).isSome = true := by
  obtain ⟨o1,o2,o3,o4,o5,o6⟩ := doc_ok h
  rw [o2] at hm
  simp only [docM,List.mem_map,o3] at hm
  obtain ⟨y,hy,rfl⟩ := hm
  have k := selF_some (d := (didParse (j.at ([105,100] : List UInt8)).t).1) hy
  unfold selM
  rw [if_pos h]
  simp only [methM]
  cases hf : selF (didParse (j.at ([105,100] : List UInt8)).t).1 (idT (didParse (j.at ([105,100] : List UInt8)).t).1 y) (j.at ([118,101,114,105,102,105,99,97,116,105,111,110,77,101,116,104,111,100] : List UInt8)).L with
  | none => rw [hf] at k; cases k
  | some x => rfl
theorem sel_service {j : Jv} (h : (docOf j).2 = 0) {s : Svm} (hs : s ∈ (docOf j).1.services) : (selM j s.id).isSome = true := by
  obtain ⟨o1,o2,o3,o4,o5,o6⟩ := doc_ok h
  rw [o2] at hs
  simp only [docM,List.mem_map,o4] at hs
  obtain ⟨y,hy,rfl⟩ := hs
  have k := selF_some (d := (didParse (j.at ([105,100] : List UInt8)).t).1) hy
  unfold selM
  rw [if_pos h]
  simp only [servM]
  cases hf : selF (didParse (j.at ([105,100] : List UInt8)).t).1 (idT (didParse (j.at ([105,100] : List UInt8)).t).1 y) (j.at ([118,101,114,105,102,105,99,97,116,105,111,110,77,101,116,104,111,100] : List UInt8)).L with
  | none => simpa [hf] using k
  | some x => rfl
end Go.Proofs.YtejfjmcjicpodaaGreatDoor
/- ref14's parser: value,where array and object keep their word. -/
set_option linter.all false
set_option maxRecDepth 20000
namespace Go.Proofs.YtejfjmcjicpodaaGreatDoor
open Go Vc Go.RowKit Wf
set_option linter.unusedSimpArgs false
def POut (s : Bytes) (p a : Nat) (f : Int) (bs : List Res) (r : SV) (b : List Res) : Prop := ∃ (a' n' : Nat) (f' w' : Int),a ≤ a' ∧ a' ≤ s.length ∧ n' ≤ 20001 ∧ (f' = 0 → n' ≤ 20000 ∧ f = 0) ∧ KpP p (pcl s a' n' f' w') 53 true bs b ∧ ∃ j v,r = .agg (tv v) ∧ TJ b j v ∧ JB (s.length + 410) j
def RdOK (s : Bytes) (g : FuncId) (d : Nat) : Prop := ∀ (bs : List Res) (p a n : Nat) (f w : Int),bs[p]? = some (pbox s a n f w) → a ≤ s.length → n ≤ 20001 → (f = 0 → n ≤ 20000) → SC Tryz.V g [.p p 0,.int .i64 d] bs (POut s p a f bs)
def VlOK (s : Bytes) (d : Nat) : Prop := ∀ (bs : List Res) (p a n : Nat) (f w : Int) (k : Int) (u : Bytes) (pos : Int),bs[p]? = some (pbox s a n f w) → a ≤ s.length → n ≤ 20001 → (f = 0 → n ≤ 20000) → u.length ≤ s.length → SC Tryz.V 20 [.p p 0,.agg (tok k u pos),.int .i64 d] bs (POut s p a f bs)
def zv : List SV := [.int .i64 0,.str [],.nils,.nils]
def VJ (s : Bytes) (bs : List Res) (p d : Nat) (k : Int) (u : Bytes) (pos : Int) (a n : Nat) (f w : Int) (σ : St) : Prop := lk 0 σ.t = some (.p p 0) ∧ lk 2 σ.t = some (.int .i64 d) ∧ lk 4 σ.t = some (.p bs.length 0) ∧ lk 6 σ.t = some (.p (bs.length + 1) 0) ∧
  KpP p (pcl s a n f w) 53 true bs σ.b ∧ σ.b[bs.length]? = some (.cells (tok k u pos) 56 true) ∧ σ.b[bs.length + 1]? = some (.cells zv 25 true)
def VK (s : Bytes) (bs : List Res) (p d : Nat) (k : Int) (u : Bytes) (pos : Int) (a n : Nat) (f w k' : Int) (u' : Bytes) (σ : St) : Prop := VJ s bs p d k u pos a n f w σ ∧ ∃ q,bs.length + 1 < q ∧ lk 8 σ.t = some (.p q 0) ∧ σ.b[q]? = some (.cells [.int .i64 k',.str u',.nils,.nils] 25 true)
theorem POut.leaf {s : Bytes} {p a : Nat} {f : Int} {bs b : List Res} {a' n' : Nat} {f' w' : Int} (h1 : a ≤ a') (h2 : a' ≤ s.length) (h3 : n' ≤ 20001) (h4 : f' = 0 → n' ≤ 20000 ∧ f = 0) (hk : KpP p (pcl s a' n' f' w') 53 true bs b) (k : Int) {u : Bytes} (hu : u.length ≤ s.length + 410) (hs : s.length ≤ 1000000) : POut s p a f bs (.agg [.int .i64 k,.str u,.nils,.nils]) b :=
  ⟨a',n',f',w',h1,h2,h3,h4,hk,.mk k u [] [],⟨k,u,.nils,.nils⟩,rfl,TJ.leaf _ _ _ (by omega),JB.leaf _ hu⟩
theorem stF_ne {f e : Int} (he : e ≠ 0) : stF f e ≠ 0 := by unfold stF; split <;> simp_all
end Go.Proofs.YtejfjmcjicpodaaGreatDoor
namespace Vc
open Go.Proofs.YtejfjmcjicpodaaGreatDoor
open Go Vc Go.RowKit Wf
theorem KpP.pb {p : Nat} {s : Bytes} {a n : Nat} {f w : Int} {bs b : List Res} (h : KpP p (pcl s a n f w) 53 true bs b) : b[p]? = some (pbox s a n f w) := h.2.2
end Vc
namespace Go.Proofs.YtejfjmcjicpodaaGreatDoor
open Go Vc Go.RowKit Wf
set_option maxHeartbeats 16000000 in
theorem sc_r14_value {s : Bytes} (hs : s.length ≤ 1000000) {d : Nat} (hd : d ≤ 64) (hA : d < 64 → RdOK s 57 (d + 1)) (hO : d < 64 → RdOK s 58 (d + 1)) : VlOK s d := by
  intro bs p a n f w k u pos hp ha hn hfn hu
  have hpl := (List.getElem?_eq_some_iff.1 hp).1
  have hk0 := KpP.of (p := p) hp (Kp.refl bs)
  refine sc_of 3000 Tryz.func20 rfl Tryz.ntmps20 Tryz.results20 Tryz.call20 (by simp) (fun β β' hb => concL_within bs.length _ (by simp [within,within.withinL,tok,hpl]) β β' hb) ?_
  refine vcS_cutS 2900 (VJ s bs p d k u pos a n f w) ?_ (fun k' hk' => ?_)
  rotate_left
  · unfold tok
    simp only [lawG,↓Xn,↓Xo,↓Xg,↓Xd,↓Xe,↓Xf,Tryz.VΓ,Tryz.Γs,Xp,Xi,Nat.reduceAdd,Nat.reduceSub,Nat.reduceLT,Nat.reduceLeDiff,reduceIte,reduceCtorEq,Nat.reduceEqDiff,implies_true,forall_const,lawV,lawA,beq_self_eq_true,bne_self_eq_false,Int.reduceBEq,Int.reduceBNe,Int.reduceLT,Int.reduceLE]
    exact hk' _ _ ⟨rfl,rfl,rfl,rfl,hk0.app _,app_at0 _ _,app_at _ _ 1⟩
  rintro m ⟨t,b⟩ ⟨h0,h2,h4,h6,hkp,hb0,hb1⟩
  simp only at h0 h2 h4 h6 hkp hb0 hb1
  refine vcS_cutS 2800 (fun σ => VJ s bs p d k u pos a n f w σ ∧ ∃ g : Bool,lk 7 σ.t = some (.bool g)) ?_ (fun k' hk' => ?_)
  rotate_left
  · have i1 := p_r14_is k u pos [91]
    have i2 := p_r14_is k u pos [123]
    unfold tok at hb0 i1 i2
    cases k3 : k == 3
    rotate_left
    · simp only [lawG,↓Xn,↓Xo,↓Xg,↓Xd,↓Xe,↓Xf,Tryz.VΓ,Tryz.Γs,Xp,Xi,Nat.reduceAdd,Nat.reduceSub,Nat.reduceLT,Nat.reduceLeDiff,reduceIte,reduceCtorEq,Nat.reduceEqDiff,implies_true,forall_const,lawV,lawA,beq_self_eq_true,bne_self_eq_false,Int.reduceBEq,Int.reduceBNe,Int.reduceLT,Int.reduceLE,h0,h2,h4,h6,hb0,k3]
      exact hk' _ _ ⟨⟨by simp [lk,h0],by simp [lk,h2],by simp [lk,h4],by simp [lk,h6],hkp,hb0,hb1⟩,true,rfl⟩
    cases k4 : k == 4
    rotate_left
    · simp only [lawG,↓Xn,↓Xo,↓Xg,↓Xd,↓Xe,↓Xf,Tryz.VΓ,Tryz.Γs,Xp,Xi,Nat.reduceAdd,Nat.reduceSub,Nat.reduceLT,Nat.reduceLeDiff,reduceIte,reduceCtorEq,Nat.reduceEqDiff,implies_true,forall_const,lawV,lawA,beq_self_eq_true,bne_self_eq_false,Int.reduceBEq,Int.reduceBNe,Int.reduceLT,Int.reduceLE,h0,h2,h4,h6,hb0,k3,k4]
      exact hk' _ _ ⟨⟨by simp [lk,h0],by simp [lk,h2],by simp [lk,h4],by simp [lk,h6],hkp,hb0,hb1⟩,true,rfl⟩
    cases k5 : k == 5
    rotate_left
    · simp only [lawG,↓Xn,↓Xo,↓Xg,↓Xd,↓Xe,↓Xf,Tryz.VΓ,Tryz.Γs,Xp,Xi,Nat.reduceAdd,Nat.reduceSub,Nat.reduceLT,Nat.reduceLeDiff,reduceIte,reduceCtorEq,Nat.reduceEqDiff,implies_true,forall_const,lawV,lawA,beq_self_eq_true,bne_self_eq_false,Int.reduceBEq,Int.reduceBNe,Int.reduceLT,Int.reduceLE,h0,h2,h4,h6,hb0,k3,k4,k5]
      exact hk' _ _ ⟨⟨by simp [lk,h0],by simp [lk,h2],by simp [lk,h4],by simp [lk,h6],hkp,hb0,hb1⟩,true,rfl⟩
    simp only [lawG,↓Xn,↓Xo,↓Xg,↓Xd,↓Xe,↓Xf,Tryz.VΓ,Tryz.Γs,Xp,Xi,Nat.reduceAdd,Nat.reduceSub,Nat.reduceLT,Nat.reduceLeDiff,reduceIte,reduceCtorEq,Nat.reduceEqDiff,implies_true,forall_const,lawV,lawA,beq_self_eq_true,bne_self_eq_false,Int.reduceBEq,Int.reduceBNe,Int.reduceLT,Int.reduceLE,h0,h2,h4,h6,hb0,k3,k4,k5]
    refine callV_pc i1 ?_
    cases c1 : (k == 2 && u == [91])
    · simp only [lawG,↓Xn,↓Xo,↓Xg,↓Xd,↓Xe,↓Xf,Tryz.VΓ,Tryz.Γs,Xp,Xi,Nat.reduceAdd,Nat.reduceSub,Nat.reduceLT,Nat.reduceLeDiff,reduceIte,reduceCtorEq,Nat.reduceEqDiff,implies_true,forall_const,lawV,lawA,beq_self_eq_true,bne_self_eq_false,Int.reduceBEq,Int.reduceBNe,Int.reduceLT,Int.reduceLE,h0,h2,h4,h6,hb0]
      refine callV_pc i2 ?_
      simp only [lawG,↓Xn,↓Xo,↓Xg,↓Xd,↓Xe,↓Xf,Tryz.VΓ,Tryz.Γs,Xp,Xi,Nat.reduceAdd,Nat.reduceSub,Nat.reduceLT,Nat.reduceLeDiff,reduceIte,reduceCtorEq,Nat.reduceEqDiff,implies_true,forall_const,lawV,lawA,beq_self_eq_true,bne_self_eq_false,Int.reduceBEq,Int.reduceBNe,Int.reduceLT,Int.reduceLE,h0,h2,h4,h6,hb0]
      exact hk' _ _ ⟨⟨by simp [lk,h0],by simp [lk,h2],by simp [lk,h4],by simp [lk,h6],hkp,hb0,hb1⟩,_,rfl⟩
    · simp only [lawG,↓Xn,↓Xo,↓Xg,↓Xd,↓Xe,↓Xf,Tryz.VΓ,Tryz.Γs,Xp,Xi,Nat.reduceAdd,Nat.reduceSub,Nat.reduceLT,Nat.reduceLeDiff,reduceIte,reduceCtorEq,Nat.reduceEqDiff,implies_true,forall_const,lawV,lawA,beq_self_eq_true,bne_self_eq_false,Int.reduceBEq,Int.reduceBNe,Int.reduceLT,Int.reduceLE,h0,h2,h4,h6,hb0]
      exact hk' _ _ ⟨⟨by simp [lk,h0],by simp [lk,h2],by simp [lk,h4],by simp [lk,h6],hkp,hb0,hb1⟩,true,rfl⟩
  rintro m ⟨t,b⟩ ⟨⟨h0,h2,h4,h6,hkp,hb0,hb1⟩,g,h7⟩
  simp only at h0 h2 h4 h6 h7 hkp hb0 hb1
  refine vcS_cutS 2700 (fun σ => f = 0 ∧ VJ s bs p d k u pos a n f w σ ∧ lk 7 σ.t = some (.bool g)) ?_ (fun k' hk' => ?_)
  rotate_left
  · have hbp := hkp.2.2
    unfold pcl at hbp
    unfold zv at hb1
    cases hf : f != 0
    · simp only [lawG,↓Xn,↓Xo,↓Xg,↓Xd,↓Xe,↓Xf,Tryz.VΓ,Tryz.Γs,Xp,Xi,Nat.reduceAdd,Nat.reduceSub,Nat.reduceLT,Nat.reduceLeDiff,reduceIte,reduceCtorEq,Nat.reduceEqDiff,implies_true,forall_const,lawV,lawA,beq_self_eq_true,bne_self_eq_false,Int.reduceBEq,Int.reduceBNe,Int.reduceLT,Int.reduceLE,h0,h2,h4,h6,h7,hbp,hf]
      exact hk' _ _ ⟨by simpa using hf,⟨by simp [lk,h0],by simp [lk,h2],by simp [lk,h4],by simp [lk,h6],hkp,hb0,hb1⟩,by simp [lk,h7]⟩
    · have hl1 := (List.getElem?_eq_some_iff.1 hb1).1
      have hg1 : ∀ X,(b.set (bs.length + 1) X)[bs.length + 1]? = some X := fun X => List.getElem?_set_self hl1
      simp only [lawG,↓Xn,↓Xo,↓Xg,↓Xd,↓Xe,↓Xf,Tryz.VΓ,Tryz.Γs,Xp,Xi,Nat.reduceAdd,Nat.reduceSub,Nat.reduceLT,Nat.reduceLeDiff,reduceIte,reduceCtorEq,Nat.reduceEqDiff,implies_true,forall_const,lawV,lawA,beq_self_eq_true,bne_self_eq_false,Int.reduceBEq,Int.reduceBNe,Int.reduceLT,Int.reduceLE,h0,h2,h4,h6,h7,hbp,hb1,hf,hg1]
      exact POut.leaf (Nat.le_refl _) ha hn (fun h => by rw [h] at hf; simp at hf) (hkp.setN (by omega) (by omega) _) 0 (by simp) hs
  rintro m ⟨t,b⟩ ⟨rfl,⟨h0,h2,h4,h6,hkp,hb0,hb1⟩,h7⟩
  simp only at h0 h2 h4 h6 h7 hkp hb0 hb1
  have hn0 := hfn rfl
  refine vcS_cutS 2600 (VJ s bs p d k u pos a n 0 w) ?_ (fun k' hk' => ?_)
  rotate_left
  · cases g
    · have hst := sc_r14_stop hkp.pb pos 140
      unfold tok at hb0
      simp only [lawG,↓Xn,↓Xo,↓Xg,↓Xd,↓Xe,↓Xf,Tryz.VΓ,Tryz.Γs,Xp,Xi,Nat.reduceAdd,Nat.reduceSub,Nat.reduceLT,Nat.reduceLeDiff,reduceIte,reduceCtorEq,Nat.reduceEqDiff,implies_true,forall_const,lawV,lawA,beq_self_eq_true,bne_self_eq_false,Int.reduceBEq,Int.reduceBNe,Int.reduceLT,Int.reduceLE,h0,h2,h4,h6,h7,hb0]
      refine callV_sc hst ?_
      rintro r b' ⟨rfl,rfl⟩
      (have hkp' := hkp.set (pcl s a n (stF 0 140) (stW 0 w pos)) 53 true
       have hb1' := get_setN hb1 (show p ≠ bs.length + 1 by omega) (pbox s a n (stF 0 140) (stW 0 w pos))
       unfold pbox at hb1' ⊢
       generalize b.set p (.cells (pcl s a n (stF 0 140) (stW 0 w pos)) 53 true) = b' at hkp' hb1' ⊢
       have hl1 := (List.getElem?_eq_some_iff.1 hb1').1
       have hg1 : ∀ X,(b'.set (bs.length + 1) X)[bs.length + 1]? = some X := fun X => List.getElem?_set_self hl1
       unfold zv at hb1'
       simp only [lawG,↓Xn,↓Xo,↓Xg,↓Xd,↓Xe,↓Xf,Tryz.VΓ,Tryz.Γs,Xp,Xi,Nat.reduceAdd,Nat.reduceSub,Nat.reduceLT,Nat.reduceLeDiff,reduceIte,reduceCtorEq,Nat.reduceEqDiff,implies_true,forall_const,lawV,lawA,beq_self_eq_true,bne_self_eq_false,Int.reduceBEq,Int.reduceBNe,Int.reduceLT,Int.reduceLE,h0,h2,h4,h6,hb1',hg1]
       exact POut.leaf (Nat.le_refl _) ha hn (fun h => absurd h (stF_ne (by decide))) (hkp'.setN (by omega) (by omega) _) 0 (by simp) hs)
    · simp only [lawG,↓Xn,↓Xo,↓Xg,↓Xd,↓Xe,↓Xf,Tryz.VΓ,Tryz.Γs,Xp,Xi,Nat.reduceAdd,Nat.reduceSub,Nat.reduceLT,Nat.reduceLeDiff,reduceIte,reduceCtorEq,Nat.reduceEqDiff,implies_true,forall_const,lawV,lawA,beq_self_eq_true,bne_self_eq_false,Int.reduceBEq,Int.reduceBNe,Int.reduceLT,Int.reduceLE,h0,h2,h4,h6,h7]
      exact hk' _ _ ⟨by simp [lk,h0],by simp [lk,h2],by simp [lk,h4],by simp [lk,h6],hkp,hb0,hb1⟩
  clear h7
  rintro m ⟨t,b⟩ ⟨h0,h2,h4,h6,hkp,hb0,hb1⟩
  simp only at h0 h2 h4 h6 hkp hb0 hb1
  refine vcS_cutS 2500 (fun σ => VJ s bs p d k u pos a n 0 w σ ∧ ((k == 2) = true → d < 64)) ?_ (fun k' hk' => ?_)
  rotate_left
  · have hst := sc_r14_stop hkp.pb pos 141
    have hb0' := hb0
    unfold tok at hb0
    cases k2 : k == 2
    · simp only [lawG,↓Xn,↓Xo,↓Xg,↓Xd,↓Xe,↓Xf,Tryz.VΓ,Tryz.Γs,Xp,Xi,Nat.reduceAdd,Nat.reduceSub,Nat.reduceLT,Nat.reduceLeDiff,reduceIte,reduceCtorEq,Nat.reduceEqDiff,implies_true,forall_const,lawV,lawA,beq_self_eq_true,bne_self_eq_false,Int.reduceBEq,Int.reduceBNe,Int.reduceLT,Int.reduceLE,h0,h2,h4,h6,hb0,k2]
      exact hk' _ _ ⟨⟨by simp [lk,h0],by simp [lk,h2],by simp [lk,h4],by simp [lk,h6],hkp,hb0',hb1⟩,fun h => by rw [k2] at h; cases h⟩
    · cases kd : (d : Int) == 64
      · simp only [lawG,↓Xn,↓Xo,↓Xg,↓Xd,↓Xe,↓Xf,Tryz.VΓ,Tryz.Γs,Xp,Xi,Nat.reduceAdd,Nat.reduceSub,Nat.reduceLT,Nat.reduceLeDiff,reduceIte,reduceCtorEq,Nat.reduceEqDiff,implies_true,forall_const,lawV,lawA,beq_self_eq_true,bne_self_eq_false,Int.reduceBEq,Int.reduceBNe,Int.reduceLT,Int.reduceLE,h0,h2,h4,h6,hb0,k2,kd]
        exact hk' _ _ ⟨⟨by simp [lk,h0],by simp [lk,h2],by simp [lk,h4],by simp [lk,h6],hkp,hb0',hb1⟩,fun _ => by simp at kd; omega⟩
      · simp only [lawG,↓Xn,↓Xo,↓Xg,↓Xd,↓Xe,↓Xf,Tryz.VΓ,Tryz.Γs,Xp,Xi,Nat.reduceAdd,Nat.reduceSub,Nat.reduceLT,Nat.reduceLeDiff,reduceIte,reduceCtorEq,Nat.reduceEqDiff,implies_true,forall_const,lawV,lawA,beq_self_eq_true,bne_self_eq_false,Int.reduceBEq,Int.reduceBNe,Int.reduceLT,Int.reduceLE,h0,h2,h4,h6,hb0,k2,kd]
        refine callV_sc hst ?_
        rintro r b' ⟨rfl,rfl⟩
        (have hkp' := hkp.set (pcl s a n (stF 0 141) (stW 0 w pos)) 53 true
         have hb1' := get_setN hb1 (show p ≠ bs.length + 1 by omega) (pbox s a n (stF 0 141) (stW 0 w pos))
         unfold pbox at hb1' ⊢
         generalize b.set p (.cells (pcl s a n (stF 0 141) (stW 0 w pos)) 53 true) = b' at hkp' hb1' ⊢
         have hl1 := (List.getElem?_eq_some_iff.1 hb1').1
         have hg1 : ∀ X,(b'.set (bs.length + 1) X)[bs.length + 1]? = some X := fun X => List.getElem?_set_self hl1
         unfold zv at hb1'
         simp only [lawG,↓Xn,↓Xo,↓Xg,↓Xd,↓Xe,↓Xf,Tryz.VΓ,Tryz.Γs,Xp,Xi,Nat.reduceAdd,Nat.reduceSub,Nat.reduceLT,Nat.reduceLeDiff,reduceIte,reduceCtorEq,Nat.reduceEqDiff,implies_true,forall_const,lawV,lawA,beq_self_eq_true,bne_self_eq_false,Int.reduceBEq,Int.reduceBNe,Int.reduceLT,Int.reduceLE,h0,h2,h4,h6,hb1',hg1]
         exact POut.leaf (Nat.le_refl _) ha hn (fun h => absurd h (stF_ne (by decide))) (hkp'.setN (by omega) (by omega) _) 0 (by simp) hs)
  rintro m ⟨t,b⟩ ⟨⟨h0,h2,h4,h6,hkp,hb0,hb1⟩,hkd⟩
  simp only at h0 h2 h4 h6 hkp hb0 hb1
  refine vcS_cutS 2400 (VK s bs p d k u pos a n 0 w 5 u) ?_ (fun k' hk' => ?_)
  rotate_left
  · have hb0' := hb0
    unfold tok at hb0
    simp only [lawG,↓Xn,↓Xo,↓Xg,↓Xd,↓Xe,↓Xf,Tryz.VΓ,Tryz.Γs,Xp,Xi,Nat.reduceAdd,Nat.reduceSub,Nat.reduceLT,Nat.reduceLeDiff,reduceIte,reduceCtorEq,Nat.reduceEqDiff,implies_true,forall_const,lawV,lawA,beq_self_eq_true,bne_self_eq_false,Int.reduceBEq,Int.reduceBNe,Int.reduceLT,Int.reduceLE,h0,h2,h4,h6,hb0]
    exact hk' _ _ ⟨⟨by simp [lk,h0],by simp [lk,h2],by simp [lk,h4],by simp [lk,h6],hkp.app _,at_old hb0' _,at_old hb1 _⟩,b.length,(List.getElem?_eq_some_iff.1 hb1).1,rfl,app_at0 _ _⟩
  rintro m ⟨t,b⟩ ⟨⟨h0,h2,h4,h6,hkp,hb0,hb1⟩,q,hq,h8,hbq⟩
  simp only at h0 h2 h4 h6 h8 hkp hb0 hb1 hbq
  refine vcS_cutS 2300 (fun σ => ∃ (kk : Int) (u' : Bytes) (f' w' : Int),u'.length ≤ s.length + 410 ∧ VK s bs p d k u pos a n f' w' kk u' σ) ?_ (fun k' hk' => ?_)
  rotate_left
  · have hb0' := hb0
    have hqp : p ≠ q := by omega
    have hql := (List.getElem?_eq_some_iff.1 hbq).1
    unfold tok at hb0
    cases k4 : k == 4
    · simp only [lawG,↓Xn,↓Xo,↓Xg,↓Xd,↓Xe,↓Xf,Tryz.VΓ,Tryz.Γs,Xp,Xi,Nat.reduceAdd,Nat.reduceSub,Nat.reduceLT,Nat.reduceLeDiff,reduceIte,reduceCtorEq,Nat.reduceEqDiff,implies_true,forall_const,lawV,lawA,beq_self_eq_true,bne_self_eq_false,Int.reduceBEq,Int.reduceBNe,Int.reduceLT,Int.reduceLE,h0,h2,h4,h6,h8,hb0,k4]
      exact hk' _ _ ⟨5,u,0,w,by omega,⟨by simp [lk,h0],by simp [lk,h2],by simp [lk,h4],by simp [lk,h6],hkp,hb0',hb1⟩,q,hq,by simp [lk,h8],hbq⟩
    · obtain ⟨_,p1,u',e,rfl,hu'⟩ := px_r13_Number u (by omega)
      simp only [lawG,↓Xn,↓Xo,↓Xg,↓Xd,↓Xe,↓Xf,Tryz.VΓ,Tryz.Γs,Xp,Xi,Nat.reduceAdd,Nat.reduceSub,Nat.reduceLT,Nat.reduceLeDiff,reduceIte,reduceCtorEq,Nat.reduceEqDiff,implies_true,forall_const,lawV,lawA,beq_self_eq_true,bne_self_eq_false,Int.reduceBEq,Int.reduceBNe,Int.reduceLT,Int.reduceLE,h0,h2,h4,h6,h8,hb0,k4]
      refine callV_pc p1 ?_
      cases he : e != 0
      · simp only [lawG,↓Xn,↓Xo,↓Xg,↓Xd,↓Xe,↓Xf,Tryz.VΓ,Tryz.Γs,Xp,Xi,Nat.reduceAdd,Nat.reduceSub,Nat.reduceLT,Nat.reduceLeDiff,reduceIte,reduceCtorEq,Nat.reduceEqDiff,implies_true,forall_const,lawV,lawA,beq_self_eq_true,bne_self_eq_false,Int.reduceBEq,Int.reduceBNe,Int.reduceLT,Int.reduceLE,h0,h2,h4,h6,h8,hb0,hbq,he]
        exact hk' _ _ ⟨4,u',0,w,by omega,⟨by simp [lk,h0],by simp [lk,h2],by simp [lk,h4],by simp [lk,h6],hkp.setN (by omega) (by omega) _,get_setN hb0' (by omega) _,get_setN hb1 (by omega) _⟩,q,hq,by simp [lk,h8],List.getElem?_set_self hql⟩
      · have hst := sc_r14_stop hkp.pb pos e
        simp only [lawG,↓Xn,↓Xo,↓Xg,↓Xd,↓Xe,↓Xf,Tryz.VΓ,Tryz.Γs,Xp,Xi,Nat.reduceAdd,Nat.reduceSub,Nat.reduceLT,Nat.reduceLeDiff,reduceIte,reduceCtorEq,Nat.reduceEqDiff,implies_true,forall_const,lawV,lawA,beq_self_eq_true,bne_self_eq_false,Int.reduceBEq,Int.reduceBNe,Int.reduceLT,Int.reduceLE,h0,h2,h4,h6,h8,hb0,he]
        refine callV_sc hst ?_
        rintro r b' ⟨rfl,rfl⟩
        have hkp' := hkp.set (pcl s a n (stF 0 e) (stW 0 w pos)) 53 true
        have hb0'' := get_setN hb0' (show p ≠ bs.length by omega) (pbox s a n (stF 0 e) (stW 0 w pos))
        have hb1' := get_setN hb1 (show p ≠ bs.length + 1 by omega) (pbox s a n (stF 0 e) (stW 0 w pos))
        have hbq' := get_setN hbq hqp (pbox s a n (stF 0 e) (stW 0 w pos))
        unfold pbox at hb0'' hb1' hbq' ⊢
        generalize b.set p (.cells (pcl s a n (stF 0 e) (stW 0 w pos)) 53 true) = b' at hkp' hb0'' hb1' hbq' ⊢
        simp only [lawG,↓Xn,↓Xo,↓Xg,↓Xd,↓Xe,↓Xf,Tryz.VΓ,Tryz.Γs,Xp,Xi,Nat.reduceAdd,Nat.reduceSub,Nat.reduceLT,Nat.reduceLeDiff,reduceIte,reduceCtorEq,Nat.reduceEqDiff,implies_true,forall_const,lawV,lawA,beq_self_eq_true,bne_self_eq_false,Int.reduceBEq,Int.reduceBNe,Int.reduceLT,Int.reduceLE,h0,h2,h4,h6,h8,hbq']
        exact hk' _ _ ⟨4,u',_,_,by omega,⟨by simp [lk,h0],by simp [lk,h2],by simp [lk,h4],by simp [lk,h6],hkp'.setN (by omega) (by omega) _,get_setN hb0'' (by omega) _,get_setN hb1' (by omega) _⟩,q,hq,by simp [lk,h8],List.getElem?_set_self (List.getElem?_eq_some_iff.1 hbq').1⟩
  clear h8 hbq hq
  rintro m ⟨t,b⟩ ⟨kk,u',f',w',hu',⟨h0,h2,h4,h6,hkp,hb0,hb1⟩,q,hq,h8,hbq⟩
  simp only at h0 h2 h4 h6 h8 hkp hb0 hb1 hbq
  refine vcS_cutS 2200 (fun σ => ∃ (f' w' : Int),(f' = 0 → n + 1 ≤ 20000) ∧ VK s bs p d k u pos a (n + 1) f' w' kk u' σ) ?_ (fun k' hk' => ?_)
  rotate_left
  · have hqp : p ≠ q := by omega
    refine vcS_cutS 2250 (VK s bs p d k u pos a (n + 1) f' w' kk u') ?_ (fun k' hk' => ?_)
    rotate_left
    · have hbp := hkp.2.2
      unfold pcl at hbp
      simp only [lawG,↓Xn,↓Xo,↓Xg,↓Xd,↓Xe,↓Xf,Tryz.VΓ,Tryz.Γs,Xp,Xi,Nat.reduceAdd,Nat.reduceSub,Nat.reduceLT,Nat.reduceLeDiff,reduceIte,reduceCtorEq,Nat.reduceEqDiff,implies_true,forall_const,lawV,lawA,beq_self_eq_true,bne_self_eq_false,Int.reduceBEq,Int.reduceBNe,Int.reduceLT,Int.reduceLE,h0,h2,h4,h6,h8,hbp]
      exact ⟨by omega,hk' _ _ ⟨⟨by simp [lk,h0],by simp [lk,h2],by simp [lk,h4],by simp [lk,h6],hkp.set (pcl s a (n + 1) f' w') _ _,get_setN hb0 (by omega) _,get_setN hb1 (by omega) _⟩,q,hq,by simp [lk,h8],get_setN hbq hqp _⟩⟩
    clear h0 h2 h4 h6 h8 hbq hb0 hb1 hkp hq
    rintro m ⟨t,b⟩ ⟨⟨h0,h2,h4,h6,hkp,hb0,hb1⟩,q,hq,h8,hbq⟩
    simp only at h0 h2 h4 h6 h8 hkp hb0 hb1 hbq
    have hqp : p ≠ q := by omega
    have hbp := hkp.2.2
    have hb0' := hb0
    unfold pcl at hbp
    unfold tok at hb0'
    cases hc : decide ((20000 : Int) < ((n + 1 : Nat) : Int))
    · simp only [lawG,↓Xn,↓Xo,↓Xg,↓Xd,↓Xe,↓Xf,Tryz.VΓ,Tryz.Γs,Xp,Xi,Nat.reduceAdd,Nat.reduceSub,Nat.reduceLT,Nat.reduceLeDiff,reduceIte,reduceCtorEq,Nat.reduceEqDiff,implies_true,forall_const,lawV,lawA,beq_self_eq_true,bne_self_eq_false,Int.reduceBEq,Int.reduceBNe,Int.reduceLT,Int.reduceLE,h0,h2,h4,h6,h8,hbp,hc]
      exact hk' _ _ ⟨f',w',fun _ => by simp at hc; omega,⟨by simp [lk,h0],by simp [lk,h2],by simp [lk,h4],by simp [lk,h6],hkp,hb0,hb1⟩,q,hq,by simp [lk,h8],hbq⟩
    · have hst := sc_r14_stop hkp.pb pos 142
      simp only [lawG,↓Xn,↓Xo,↓Xg,↓Xd,↓Xe,↓Xf,Tryz.VΓ,Tryz.Γs,Xp,Xi,Nat.reduceAdd,Nat.reduceSub,Nat.reduceLT,Nat.reduceLeDiff,reduceIte,reduceCtorEq,Nat.reduceEqDiff,implies_true,forall_const,lawV,lawA,beq_self_eq_true,bne_self_eq_false,Int.reduceBEq,Int.reduceBNe,Int.reduceLT,Int.reduceLE,h0,h2,h4,h6,h8,hbp,hb0',hc]
      refine callV_sc hst ?_
      rintro r b' ⟨rfl,rfl⟩
      simp only [lawG,↓Xn,↓Xo,↓Xg,↓Xd,↓Xe,↓Xf,Tryz.VΓ,Tryz.Γs,Xp,Xi,Nat.reduceAdd,Nat.reduceSub,Nat.reduceLT,Nat.reduceLeDiff,reduceIte,reduceCtorEq,Nat.reduceEqDiff,implies_true,forall_const,lawV,lawA,beq_self_eq_true,bne_self_eq_false,Int.reduceBEq,Int.reduceBNe,Int.reduceLT,Int.reduceLE,h0,h2,h4,h6,h8]
      exact hk' _ _ ⟨stF f' 142,stW f' w' pos,fun h => absurd h (stF_ne (by decide)),⟨by simp [lk,h0],by simp [lk,h2],by simp [lk,h4],by simp [lk,h6],hkp.set _ _ _,get_setN hb0 (by omega) _,get_setN hb1 (by omega) _⟩,q,hq,by simp [lk,h8],get_setN hbq hqp _⟩
  clear h0 h2 h4 h6 h8 hbq hb0 hb1 hkp hq
  rintro m ⟨t,b⟩ ⟨f',w',hn1,⟨h0,h2,h4,h6,hkp,hb0,hb1⟩,q,hq,h8,hbq⟩
  simp only at h0 h2 h4 h6 h8 hkp hb0 hb1 hbq
  have hl1 := (List.getElem?_eq_some_iff.1 hb1).1
  have hg1 : ∀ X,(b.set (bs.length + 1) X)[bs.length + 1]? = some X := fun X => List.getElem?_set_self hl1
  have hbq0 := hbq
  have hb1' := hb1
  unfold zv at hb1
  refine vcS_cutS 2100 (VK s bs p d k u pos a (n + 1) f' w' kk u') ?_ (fun k' hk' => ?_)
  rotate_left
  · have hb0' := hb0
    have i1 := p_r14_is k u pos [91]
    have i2 := p_r14_is k u pos [123]
    unfold tok at hb0' i1 i2
    cases k5 : k == 5
    rotate_left
    · obtain ⟨_,p1,x,rfl⟩ := px_r14_word u
      simp only [lawG,↓Xn,↓Xo,↓Xg,↓Xd,↓Xe,↓Xf,Tryz.VΓ,Tryz.Γs,Xp,Xi,Nat.reduceAdd,Nat.reduceSub,Nat.reduceLT,Nat.reduceLeDiff,reduceIte,reduceCtorEq,Nat.reduceEqDiff,implies_true,forall_const,lawV,lawA,beq_self_eq_true,bne_self_eq_false,Int.reduceBEq,Int.reduceBNe,Int.reduceLT,Int.reduceLE,h0,h2,h4,h6,h8,hb0',k5]
      (refine callV_pc (p1) ?_; simp only [lawG,↓Xn,↓Xo,↓Xg,↓Xd,↓Xe,↓Xf,Tryz.VΓ,Tryz.Γs,Xp,Xi,Nat.reduceAdd,Nat.reduceSub,Nat.reduceLT,Nat.reduceLeDiff,reduceIte,reduceCtorEq,Nat.reduceEqDiff,implies_true,forall_const,lawV,lawA,beq_self_eq_true,bne_self_eq_false,Int.reduceBEq,Int.reduceBNe,Int.reduceLT,Int.reduceLE,h0,h2,h4,h6,h8,hb1,hg1])
      exact POut.leaf (Nat.le_refl _) ha (by omega) (fun h => ⟨hn1 h,rfl⟩) (hkp.setN (by omega) (by omega) _) x (by simp) hs
    simp only [lawG,↓Xn,↓Xo,↓Xg,↓Xd,↓Xe,↓Xf,Tryz.VΓ,Tryz.Γs,Xp,Xi,Nat.reduceAdd,Nat.reduceSub,Nat.reduceLT,Nat.reduceLeDiff,reduceIte,reduceCtorEq,Nat.reduceEqDiff,implies_true,forall_const,lawV,lawA,beq_self_eq_true,bne_self_eq_false,Int.reduceBEq,Int.reduceBNe,Int.reduceLT,Int.reduceLE,h0,h2,h4,h6,h8,hb0',k5]
    refine callV_pc i1 ?_
    cases c1 : (k == 2 && u == [91])
    rotate_left
    · simp only [Bool.and_eq_true] at c1
      have hcall := hA (hkd c1.1) b p a (n + 1) f' w' hkp.pb ha (by omega) hn1
      simp only [lawG,↓Xn,↓Xo,↓Xg,↓Xd,↓Xe,↓Xf,Tryz.VΓ,Tryz.Γs,Xp,Xi,Nat.reduceAdd,Nat.reduceSub,Nat.reduceLT,Nat.reduceLeDiff,reduceIte,reduceCtorEq,Nat.reduceEqDiff,implies_true,forall_const,lawV,lawA,beq_self_eq_true,bne_self_eq_false,Int.reduceBEq,Int.reduceBNe,Int.reduceLT,Int.reduceLE,h0,h2,h4,h6,h8]
      (refine ⟨by omega,callV_sc hcall ?_⟩
       rintro r b' ⟨a1,n1,f1,w1,g1,g2,g3,g4,gk,j,v,rfl,hj,hjb⟩
       have hb1'' := gk.at hb1 (by omega)
       have hl1' := (List.getElem?_eq_some_iff.1 hb1'').1
       have hg1' : ∀ X,(b'.set (bs.length + 1) X)[bs.length + 1]? = some X := fun X => List.getElem?_set_self hl1'
       obtain ⟨v1,v2,v3,v4⟩ := hj.tin
       have ho : (one v.xk && one v.xi) = true := by rw [v3,v4]; rfl
       unfold tv
       simp only [lawG,↓Xn,↓Xo,↓Xg,↓Xd,↓Xe,↓Xf,Tryz.VΓ,Tryz.Γs,Xp,Xi,Nat.reduceAdd,Nat.reduceSub,Nat.reduceLT,Nat.reduceLeDiff,reduceIte,reduceCtorEq,Nat.reduceEqDiff,implies_true,forall_const,lawV,lawA,beq_self_eq_true,bne_self_eq_false,Int.reduceBEq,Int.reduceBNe,Int.reduceLT,Int.reduceLE,h0,h2,h4,h6,h8,hb1'',hg1',ho]
       exact ⟨a1,n1,f1,w1,g1,g2,g3,fun h => ⟨(g4 h).1,rfl⟩,(hkp.trans gk).setN (by omega) (by omega) _,j,v,rfl,hj.ro ((Ro.refl _).set (fun c e s n hx => by rw [hb1''] at hx; cases hx) _),hjb⟩)
    simp only [lawG,↓Xn,↓Xo,↓Xg,↓Xd,↓Xe,↓Xf,Tryz.VΓ,Tryz.Γs,Xp,Xi,Nat.reduceAdd,Nat.reduceSub,Nat.reduceLT,Nat.reduceLeDiff,reduceIte,reduceCtorEq,Nat.reduceEqDiff,implies_true,forall_const,lawV,lawA,beq_self_eq_true,bne_self_eq_false,Int.reduceBEq,Int.reduceBNe,Int.reduceLT,Int.reduceLE,h0,h2,h4,h6,h8,hb0']
    refine callV_pc i2 ?_
    cases c2 : (k == 2 && u == [123])
    rotate_left
    · simp only [Bool.and_eq_true] at c2
      have hcall := hO (hkd c2.1) b p a (n + 1) f' w' hkp.pb ha (by omega) hn1
      simp only [lawG,↓Xn,↓Xo,↓Xg,↓Xd,↓Xe,↓Xf,Tryz.VΓ,Tryz.Γs,Xp,Xi,Nat.reduceAdd,Nat.reduceSub,Nat.reduceLT,Nat.reduceLeDiff,reduceIte,reduceCtorEq,Nat.reduceEqDiff,implies_true,forall_const,lawV,lawA,beq_self_eq_true,bne_self_eq_false,Int.reduceBEq,Int.reduceBNe,Int.reduceLT,Int.reduceLE,h0,h2,h4,h6,h8]
      (refine ⟨by omega,callV_sc hcall ?_⟩
       rintro r b' ⟨a1,n1,f1,w1,g1,g2,g3,g4,gk,j,v,rfl,hj,hjb⟩
       have hb1'' := gk.at hb1 (by omega)
       have hl1' := (List.getElem?_eq_some_iff.1 hb1'').1
       have hg1' : ∀ X,(b'.set (bs.length + 1) X)[bs.length + 1]? = some X := fun X => List.getElem?_set_self hl1'
       obtain ⟨v1,v2,v3,v4⟩ := hj.tin
       have ho : (one v.xk && one v.xi) = true := by rw [v3,v4]; rfl
       unfold tv
       simp only [lawG,↓Xn,↓Xo,↓Xg,↓Xd,↓Xe,↓Xf,Tryz.VΓ,Tryz.Γs,Xp,Xi,Nat.reduceAdd,Nat.reduceSub,Nat.reduceLT,Nat.reduceLeDiff,reduceIte,reduceCtorEq,Nat.reduceEqDiff,implies_true,forall_const,lawV,lawA,beq_self_eq_true,bne_self_eq_false,Int.reduceBEq,Int.reduceBNe,Int.reduceLT,Int.reduceLE,h0,h2,h4,h6,h8,hb1'',hg1',ho]
       exact ⟨a1,n1,f1,w1,g1,g2,g3,fun h => ⟨(g4 h).1,rfl⟩,(hkp.trans gk).setN (by omega) (by omega) _,j,v,rfl,hj.ro ((Ro.refl _).set (fun c e s n hx => by rw [hb1''] at hx; cases hx) _),hjb⟩)
    simp only [lawG,↓Xn,↓Xo,↓Xg,↓Xd,↓Xe,↓Xf,Tryz.VΓ,Tryz.Γs,Xp,Xi,Nat.reduceAdd,Nat.reduceSub,Nat.reduceLT,Nat.reduceLeDiff,reduceIte,reduceCtorEq,Nat.reduceEqDiff,implies_true,forall_const,lawV,lawA,beq_self_eq_true,bne_self_eq_false,Int.reduceBEq,Int.reduceBNe,Int.reduceLT,Int.reduceLE,h0,h2,h4,h6,h8]
    exact hk' _ _ ⟨⟨by simp [lk,h0],by simp [lk,h2],by simp [lk,h4],by simp [lk,h6],hkp,hb0,hb1'⟩,q,hq,by simp [lk,h8],hbq⟩
  clear h0 h2 h4 h6 h8 hbq hbq0 hb0 hb1 hb1' hkp hq hl1 hg1
  rintro m ⟨t,b⟩ ⟨⟨h0,h2,h4,h6,hkp,hb0,hb1⟩,q,hq,h8,hbq⟩
  simp only at h0 h2 h4 h6 h8 hkp hb0 hb1 hbq
  have hl1 := (List.getElem?_eq_some_iff.1 hb1).1
  have hg1 : ∀ X,(b.set (bs.length + 1) X)[bs.length + 1]? = some X := fun X => List.getElem?_set_self hl1
  unfold zv at hb1
  simp only [lawG,↓Xn,↓Xo,↓Xg,↓Xd,↓Xe,↓Xf,Tryz.VΓ,Tryz.Γs,Xp,Xi,Nat.reduceAdd,Nat.reduceSub,Nat.reduceLT,Nat.reduceLeDiff,reduceIte,reduceCtorEq,Nat.reduceEqDiff,implies_true,forall_const,lawV,lawA,beq_self_eq_true,bne_self_eq_false,Int.reduceBEq,Int.reduceBNe,Int.reduceLT,Int.reduceLE,h0,h2,h4,h6,h8,hbq,hb1,hg1]
  exact POut.leaf (Nat.le_refl _) ha (by omega) (fun h => ⟨hn1 h,rfl⟩) (hkp.setN (by omega) (by omega) _) kk hu' hs
end Go.Proofs.YtejfjmcjicpodaaGreatDoor
/- ref14's parser: the state of array and object. -/
set_option linter.all false
set_option maxRecDepth 20000
namespace Go.Proofs.YtejfjmcjicpodaaGreatDoor
open Go Vc Go.RowKit Wf
set_option linter.unusedSimpArgs false
structure AS (K : Int) (s : Bytes) (bs : List Res) (p d : Nat) (a n : Nat) (f w k : Int) (u : Bytes) (pos : Int) (yk y : SV) (Ks : List Bytes) (Ls : List Tv) (Js : List Jv) (t : List (Nat × SV)) (b : List Res) : Prop where
  l0 : lk 0 t = some (.p p 0)
  l1 : lk 1 t = some (.int .i64 d)
  l4 : lk 4 t = some (.p bs.length 0)
  l5 : lk 5 t = some (.p (bs.length + 1) 0)
  l6 : lk 6 t = some (.p (bs.length + 2) 0)
  pl : p < bs.length
  kp : KpP p (pcl s a n f w) 53 true bs b
  b0 : b[bs.length]? = some (.cells zv 25 true)
  b1 : b[bs.length + 1]? = some (.cells [.int .i64 K,.str [],yk,y] 25 true)
  b2 : b[bs.length + 2]? = some (.cells (tok k u pos) 56 true)
  rk : (yk = .nils ∧ Ks = []) ∨ ∃ q,0 < Ks.length ∧ yk = .o q Ks.length ∧ bs.length + 2 < q ∧ b[q]? = some (.own (Ks.map SV.str) 9 1 Ks.length true)
  ri : (y = .nils ∧ Ls = []) ∨ ∃ q,0 < Ls.length ∧ y = .o q Ls.length ∧ bs.length + 2 < q ∧ b[q]? = some (.own (Ls.flatMap tv) 25 4 Ls.length true)
  js : TJs b Js Ls
  jb : JBs (s.length + 410) Js
  kb : ∀ x ∈ Ks,x.length ≤ s.length + 410
  ul : u.length ≤ s.length
section
variable {K : Int} {s : Bytes} {bs : List Res} {p d : Nat} {a n : Nat} {f w k : Int} {u : Bytes} {pos : Int} {yk y : SV} {Ks : List Bytes} {Ls : List Tv} {Js : List Jv} {t t' : List (Nat × SV)} {b : List Res}
def SL (t t' : List (Nat × SV)) : Prop := lk 0 t' = lk 0 t ∧ lk 1 t' = lk 1 t ∧ lk 4 t' = lk 4 t ∧ lk 5 t' = lk 5 t ∧ lk 6 t' = lk 6 t
theorem AS.mv (h : AS K s bs p d a n f w k u pos yk y Ks Ls Js t b) (e : SL t t') : AS K s bs p d a n f w k u pos yk y Ks Ls Js t' b :=
  { h with l0 := e.1.trans h.l0,l1 := e.2.1.trans h.l1,l4 := e.2.2.1.trans h.l4,l5 := e.2.2.2.1.trans h.l5,l6 := e.2.2.2.2.trans h.l6 }
theorem AS.pp (h : AS K s bs p d a n f w k u pos yk y Ks Ls Js t b) : b[p]? = some (pbox s a n f w) := h.kp.2.2
theorem AS.setp (h : AS K s bs p d a n f w k u pos yk y Ks Ls Js t b) (a' n' : Nat) (f' w' : Int) : AS K s bs p d a' n' f' w' k u pos yk y Ks Ls Js t (b.set p (pbox s a' n' f' w')) := by
  have hpl := h.pl
  refine { h with kp := h.kp.set _ _ _,b0 := get_setN h.b0 (by omega) _,b1 := get_setN h.b1 (by omega) _,b2 := get_setN h.b2 (by omega) _,rk := ?_,ri := ?_,js := h.js.ro (ro_p h.pp _) }
  · rcases h.rk with e | ⟨q,h1,h2,h3,h4⟩
    · exact .inl e
    · exact .inr ⟨q,h1,h2,h3,get_setN h4 (by omega) _⟩
  · rcases h.ri with e | ⟨q,h1,h2,h3,h4⟩
    · exact .inl e
    · exact .inr ⟨q,h1,h2,h3,get_setN h4 (by omega) _⟩
where ro_p {b : List Res} {p : Nat} {c : List SV} {T : TypeId} {m : Bool} (hp : b[p]? = some (.cells c T m)) (X : Res) : Ro b (b.set p X) := (Ro.refl b).set (fun c e s n hx => by rw [hp] at hx; cases hx) X
theorem AS.setk (h : AS K s bs p d a n f w k u pos yk y Ks Ls Js t b) (k' : Int) {u' : Bytes} (pos' : Int) (hu : u'.length ≤ s.length) : AS K s bs p d a n f w k' u' pos' yk y Ks Ls Js t (b.set (bs.length + 2) (.cells (tok k' u' pos') 56 true)) := by
  have hpl := h.pl
  refine { h with kp := h.kp.setN (by omega) (by omega) _,b0 := get_setN h.b0 (by omega) _,b1 := get_setN h.b1 (by omega) _,b2 := List.getElem?_set_self (List.getElem?_eq_some_iff.1 h.b2).1,rk := ?_,ri := ?_,js := h.js.ro (AS.setp.ro_p h.b2 _),ul := hu }
  · rcases h.rk with e | ⟨q,h1,h2,h3,h4⟩
    · exact .inl e
    · exact .inr ⟨q,h1,h2,h3,get_setN h4 (by omega) _⟩
  · rcases h.ri with e | ⟨q,h1,h2,h3,h4⟩
    · exact .inl e
    · exact .inr ⟨q,h1,h2,h3,get_setN h4 (by omega) _⟩
theorem AS.app (h : AS K s bs p d a n f w k u pos yk y Ks Ls Js t b) (X : List Res) : AS K s bs p d a n f w k u pos yk y Ks Ls Js t (b ++ X) := by
  refine { h with kp := h.kp.app _,b0 := at_old h.b0 _,b1 := at_old h.b1 _,b2 := at_old h.b2 _,rk := ?_,ri := ?_,js := h.js.ro ((Ro.refl _).app _) }
  · rcases h.rk with e | ⟨q,h1,h2,h3,h4⟩
    · exact .inl e
    · exact .inr ⟨q,h1,h2,h3,at_old h4 _⟩
  · rcases h.ri with e | ⟨q,h1,h2,h3,h4⟩
    · exact .inl e
    · exact .inr ⟨q,h1,h2,h3,at_old h4 _⟩
theorem AS.call (h : AS K s bs p d a n f w k u pos yk y Ks Ls Js t b) {a' n' : Nat} {f' w' : Int} {b' : List Res} (g : KpP p (pcl s a' n' f' w') 53 true b b') : AS K s bs p d a' n' f' w' k u pos yk y Ks Ls Js t b' := by
  have hpl := h.pl
  refine { h with kp := h.kp.trans g,b0 := g.at h.b0 (by omega),b1 := g.at h.b1 (by omega),b2 := g.at h.b2 (by omega),rk := ?_,ri := ?_,js := h.js.ro (g.ro h.pp) }
  · rcases h.rk with e | ⟨q,h1,h2,h3,h4⟩
    · exact .inl e
    · exact .inr ⟨q,h1,h2,h3,g.at h4 (by omega)⟩
  · rcases h.ri with e | ⟨q,h1,h2,h3,h4⟩
    · exact .inl e
    · exact .inr ⟨q,h1,h2,h3,g.at h4 (by omega)⟩
theorem AS.out {a0 : Nat} {f0 : Int} (h : AS K s bs p d a n f w k u pos yk y Ks Ls Js t b) (h1 : a0 ≤ a) (h2 : a ≤ s.length) (h3 : n ≤ 20001) (h4 : f = 0 → n ≤ 20000 ∧ f0 = 0) (hs : s.length ≤ 1000000) (hL : Js.length ≤ s.length + 410) (hK : Ks.length ≤ s.length + 410) (X : Res) :
    bs.length ≤ (b.set bs.length X).length ∧ POut s p a0 f0 bs (.agg [.int .i64 K,.str [],yk,y]) (dimB bs.length (b.set bs.length X)) := by
  have hpl := h.pl
  have hkp := h.kp.setN (i := bs.length) (by omega) (by omega) X
  have hro : Ro b (dimB bs.length (b.set bs.length X)) := (AS.setp.ro_p h.b0 X).trans (dimB_dim hkp.1).ro
  have hLL := h.js.len
  refine ⟨hkp.1,a,n,f,w,h1,h2,h3,h4,hkp.dimB hpl,.mk K [] Ks Js,⟨K,[],yk,y⟩,rfl,TJ.mk' rfl rfl (by simp [Jv.t]) ?_ (by simp only [Jv.K]; omega) (fun x hx => by have := h.kb x hx; omega) (by simp only [Jv.L]; omega) ⟨Ls,?_,h.js.ro hro⟩,?_⟩
  · rcases h.rk with ⟨rfl,rfl⟩ | ⟨q,g1,rfl,g3,g4⟩
    · exact .inl ⟨rfl,rfl⟩
    · exact .inr ⟨q,rfl,by rw [dimB_at (by omega) (get_setN g4 (by omega) _)]; rfl⟩
  · rcases h.ri with ⟨rfl,rfl⟩ | ⟨q,g1,rfl,g3,g4⟩
    · exact .inl ⟨rfl,rfl⟩
    · exact .inr ⟨q,rfl,by rw [dimB_at (by omega) (get_setN g4 (by omega) _)]; rfl⟩
  · rw [JB]
    exact ⟨by simp,hK,h.kb,hL,h.jb⟩
theorem AS.ones (h : AS K s bs p d a n f w k u pos yk y Ks Ls Js t b) : (one yk && one y) = true := by
  rcases h.rk with ⟨rfl,-⟩ | ⟨q,-,rfl,-⟩ <;> rcases h.ri with ⟨rfl,-⟩ | ⟨q,-,rfl,-⟩ <;> rfl
theorem AS.oney (h : AS K s bs p d a n f w k u pos yk y Ks Ls Js t b) : one y = true := by
  rcases h.ri with ⟨rfl,-⟩ | ⟨q,-,rfl,-⟩ <;> rfl
theorem AS.onek (h : AS K s bs p d a n f w k u pos yk y Ks Ls Js t b) : one yk = true := by
  rcases h.rk with ⟨rfl,-⟩ | ⟨q,-,rfl,-⟩ <;> rfl
theorem ro_tt {b : List Res} {q : Nat} {c : List SV} {e z n : Nat} (hq : b[q]? = some (.own c e z n true)) (X : Res) : Ro b (b.set q X) := (Ro.refl b).setT hq X
theorem AS.addN (h : AS K s bs p d a n f w k u pos yk .nils Ks [] Js t b) {j : Jv} {v : Tv} (hj : TJ b j v) (hjb : JB (s.length + 410) j) (X : Res) : AS K s bs p d a n f w k u pos yk (.o (b.length + 1) 1) Ks [v] (Js ++ [j]) t (b.set (bs.length + 1) (.cells [.int .i64 K,.str [],yk,.o (b.length + 1) 1] 25 true) ++ [X,.own (tv v) 25 4 1 true]) := by
  have hpl := h.pl
  have hl1 := (List.getElem?_eq_some_iff.1 h.b1).1
  have hro := (AS.setp.ro_p h.b1 (.cells [.int .i64 K,.str [],yk,.o (b.length + 1) 1] 25 true)).app [X,.own (tv v) 25 4 1 true]
  refine { h with kp := (h.kp.setN (by omega) (by omega) _).app _,b0 := at_old (get_setN h.b0 (by omega) _) _,b1 := get_setS hl1 _ _,b2 := at_old (get_setN h.b2 (by omega) _) _,rk := ?_,ri := .inr ⟨b.length + 1,by simp,rfl,by omega,?_⟩,js := ?_,jb := JBs.snoc hjb h.jb }
  · rcases h.rk with e | ⟨q,h1,h2,h3,h4⟩
    · exact .inl e
    · exact .inr ⟨q,h1,h2,h3,at_old (get_setN h4 (by omega) _) _⟩
  · rw [app_atL (by simp)]; simp
  · refine (h.js.ro hro).app (L2 := [j]) (Ls2 := [v]) ?_
    rw [TJs]
    exact ⟨v,[],rfl,hj.ro hro,by rw [TJs]⟩
theorem AS.addQ {q : Nat} (h : AS K s bs p d a n f w k u pos yk (.o q Ls.length) Ks Ls Js t b) (hq : bs.length + 2 < q) (hL : 0 < Ls.length) (hbq : b[q]? = some (.own (Ls.flatMap tv) 25 4 Ls.length true)) {j : Jv} {v : Tv} (hj : TJ b j v) (hjb : JB (s.length + 410) j) (X : Res) : AS K s bs p d a n f w k u pos yk (.o (b.length + 1) (Ls.length + 1)) Ks (Ls ++ [v]) (Js ++ [j]) t ((b.set q .gone).set (bs.length + 1) (.cells [.int .i64 K,.str [],yk,.o (b.length + 1) (Ls.length + 1)] 25 true) ++ [X,.own (Ls.flatMap tv ++ tv v) 25 4 (Ls.length + 1) true]) := by
  have hpl := h.pl
  have hb1 := get_setN h.b1 (show q ≠ bs.length + 1 by omega) .gone
  have hl1 := (List.getElem?_eq_some_iff.1 hb1).1
  have hl2 := (List.getElem?_eq_some_iff.1 h.b1).1
  have hro := ((ro_tt hbq .gone).trans (AS.setp.ro_p hb1 (.cells [.int .i64 K,.str [],yk,.o (b.length + 1) (Ls.length + 1)] 25 true))).app [X,.own (Ls.flatMap tv ++ tv v) 25 4 (Ls.length + 1) true]
  refine { h with kp := ((h.kp.setN (by omega) (by omega) _).setN (by omega) (by omega) _).app _,b0 := at_old (get_setN (get_setN h.b0 (by omega) _) (by omega) _) _,b1 := get_setS hl1 _ _,b2 := at_old (get_setN (get_setN h.b2 (by omega) _) (by omega) _) _,rk := ?_,ri := .inr ⟨b.length + 1,by simp,by simp,by omega,?_⟩,js := ?_,jb := JBs.snoc hjb h.jb }
  · rcases h.rk with e | ⟨q',h1,h2,h3,h4⟩
    · exact .inl e
    · refine .inr ⟨q',h1,h2,h3,at_old (get_setN (get_setN h4 ?_ _) (by omega) _) _⟩
      rintro rfl
      rw [h4] at hbq
      simp at hbq
  · rw [app_atL (by simp)]; simp
  · refine (h.js.ro hro).app (L2 := [j]) (Ls2 := [v]) ?_
    rw [TJs]
    exact ⟨v,[],rfl,hj.ro hro,by rw [TJs]⟩
theorem AS.init {a0 n0 : Nat} {f0 w0 : Int} (hp : bs[p]? = some (pbox s a0 n0 f0 w0)) (hu : u.length ≤ s.length) (h0 : lk 0 t = some (.p p 0)) (h1 : lk 1 t = some (.int .i64 d)) (h4 : lk 4 t = some (.p bs.length 0)) (h5 : lk 5 t = some (.p (bs.length + 1) 0)) (h6 : lk 6 t = some (.p (bs.length + 2) 0)) :
    AS K s bs p d a n f w k u pos .nils .nils [] [] [] t ((bs ++ ([.cells zv 25 true,.cells [.int .i64 K,.str [],.nils,.nils] 25 true] : List Res)).set p (pbox s a n f w) ++ [.cells (tok k u pos) 56 true]) := by
  have hpl := (List.getElem?_eq_some_iff.1 hp).1
  have hk0 := KpP.of (p := p) hp (Kp.refl bs)
  refine ⟨h0,h1,h4,h5,h6,hpl,((hk0.app _).set _ _ _).app _,at_old (get_setN (app_at0 _ _) (by omega) _) _,at_old (get_setN (app_at _ _ 1) (by omega) _) _,?_,.inl ⟨rfl,rfl⟩,.inl ⟨rfl,rfl⟩,by rw [TJs],by rw [JBs]; trivial,by simp,hu⟩
  exact app_atL (n := bs.length + 2) (by simp) _ 0
def muP (p : Nat) (σ : St) : Nat := match σ.b[p]? with
  | some (.cells [.str s,.int _ a,_,.int _ f,_] _ _) => if f = 0 then s.length - a.toNat + 1 else 0
  | _ => 0
theorem AS.mu (h : AS K s bs p d a n f w k u pos yk y Ks Ls Js t b) : muP p ⟨t',b⟩ = if f = 0 then s.length - a + 1 else 0 := by
  have := h.pp
  unfold pbox pcl at this
  simp [muP,this]
end
end Go.Proofs.YtejfjmcjicpodaaGreatDoor
/- diddoc.Encode: the lemmas of its walk. -/
set_option linter.all false
set_option maxRecDepth 20000
namespace Go.Proofs.YtejfjmcjicpodaaGreatDoor
open Go Vc Go.RowKit Wf
set_option linter.unusedSimpArgs false
theorem sc_dd_put0 {bs : List Res} {q : Nat} (key : Bytes) {v : Tv} (hv : TvIn bs.length v) (hq : q < bs.length) (hn : ∀ e,lenS (.slice e) v.xi = some (.int .i64 0)) :
    SC Tryz.V 48 [.str key,.agg (tv v),.p q 0] bs (fun r b => r = .tup [] ∧ Kp bs b) := by
  obtain ⟨v1,v2,v3,v4⟩ := hv
  have ho : (one v.xk && one v.xi) = true := by rw [v3,v4]; rfl
  refine sc_of 3000 Tryz.func48 rfl Tryz.ntmps48 Tryz.results48 Tryz.call48 (by simp) (fun β β' hb => concL_within bs.length _ (by simp [within,within.withinL,tv,v1,v2,hq]) β β' hb) ?_
  unfold tv
  simp only [lawG,↓Xn,↓Xo,↓Xg,↓Xd,↓Xe,↓Xf,Tryz.VΓ,Tryz.Γs,Xp,Xi,Nat.reduceAdd,Nat.reduceSub,Nat.reduceLT,Nat.reduceLeDiff,reduceIte,reduceCtorEq,Nat.reduceEqDiff,implies_true,forall_const,lawV,lawA,beq_self_eq_true,bne_self_eq_false,Int.reduceBEq,Int.reduceBNe,Int.reduceLT,Int.reduceLE,ho,hn,v4]
  exact (Kp.refl bs).app _
theorem OB.ro {b b' : List Res} {q qk qi : Nat} {Ks : List Bytes} {Ls : List Tv} (h : OB b q qk qi Ks Ls) (g : KpQ q qk qi b b') : Ro b b' := fun i c e s n hi => g.2 i _ hi (by rintro rfl; rw [h.bq] at hi; cases hi) (by rintro rfl; rw [h.bk] at hi; cases hi) (by rintro rfl; rw [h.bi] at hi; cases hi)
end Go.Proofs.YtejfjmcjicpodaaGreatDoor
namespace Vc
open Go.Proofs.YtejfjmcjicpodaaGreatDoor
open Go Vc Go.RowKit Wf
theorem Kp.kpQ {bs b : List Res} (h : Kp bs b) (q qk qi : Nat) : KpQ q qk qi bs b := ⟨h.1,fun _ _ hi _ _ _ => h.at hi⟩
end Vc
namespace Go.Proofs.YtejfjmcjicpodaaGreatDoor
open Go Vc Go.RowKit Wf
theorem OB.kp {b b' : List Res} {q qk qi : Nat} {Ks : List Bytes} {Ls : List Tv} (h : OB b q qk qi Ks Ls) (g : Kp b b') : OB b' q qk qi Ks Ls := ⟨g.at h.bq,g.at h.bk,g.at h.bi⟩
theorem sc_dd_putJ {bs : List Res} {q qk qi : Nat} {Ks : List Bytes} {Ls : List Tv} {Js : List Jv} (h : OB bs q qk qi Ks Ls) (hj : TJs bs Js Ls) (hKl : Ks.length ≤ 1000) (hLl : Ls.length ≤ 1000) (key : Bytes) {jl : List Jv} {v : Tv} (hv : TJ bs (.mk 6 [] [] jl) v) :
    SC Tryz.V 48 [.str key,.agg (tv v),.p q 0] bs (fun r b => r = .tup [] ∧ ∃ qk' qi' Ls',(qk' = qk ∨ bs.length ≤ qk') ∧ (qi' = qi ∨ bs.length ≤ qi') ∧ OB b q qk' qi' (Ks ++ memK key jl) Ls' ∧ TJs b (Js ++ memI jl) Ls' ∧ KpQ q qk qi bs b) := by
  obtain ⟨-,-,-,-,-,-,-,Li,hri,hti⟩ := hv.un
  have hLi := hti.len
  simp only [Jv.L] at hLi
  have hn : ∀ e,lenS (.slice e) v.xi = some (.int .i64 jl.length) := fun e => by
    rw [← hLi]
    rcases hri with ⟨h1,rfl⟩ | ⟨_,h1,-⟩ <;> rw [h1] <;> rfl
  have hql := (List.getElem?_eq_some_iff.1 h.bq).1
  by_cases h0 : jl.length = 0
  · rw [h0] at hn
    refine (sc_dd_put0 key hv.tin hql hn).mono ?_
    rintro r b ⟨rfl,hk⟩
    refine ⟨rfl,qk,qi,Ls,.inl rfl,.inl rfl,?_,?_,hk.kpQ _ _ _⟩
    · unfold memK; rw [if_pos h0,List.append_nil]; exact h.kp hk
    · unfold memI; rw [if_pos h0,List.append_nil]; exact hj.ro hk.ro
  · refine (sc_dd_put h hKl hLl key hv.tin hn (by omega)).mono ?_
    rintro r b ⟨rfl,qk',qi',g1,g2,g3,g4⟩
    refine ⟨rfl,qk',qi',Ls ++ [v],.inr g1,.inr g2,?_,?_,g4⟩
    · unfold memK; rw [if_neg h0]; exact g3
    · unfold memI; rw [if_neg h0]
      exact (hj.ro (h.ro g4)).app (by rw [TJs]; exact ⟨v,[],rfl,hv.ro (h.ro g4),by rw [TJs]⟩)
structure ES (bs : List Res) (dc : List SV) (qk qi : Nat) (Ks : List Bytes) (Ls : List Tv) (Js : List Jv) (t : List (Nat × SV)) (b : List Res) : Prop where
  l1 : lk 1 t = some (.p bs.length 0)
  l2 : lk 2 t = some (.p (bs.length + 1) 0)
  l3 : lk 3 t = some (.p (bs.length + 4) 0)
  kp : Kp bs b
  b0 : b[bs.length]? = some (.cells dc 34 true)
  b1 : b[bs.length + 1]? = some (.cells [.int .i64 0,.str [],.nils,.nils] 25 true)
  ob : OB b (bs.length + 4) qk qi Ks Ls
  hk : bs.length + 1 < qk
  hi : bs.length + 1 < qi
  js : TJs b Js Ls
def SE (t t' : List (Nat × SV)) : Prop := lk 1 t' = lk 1 t ∧ lk 2 t' = lk 2 t ∧ lk 3 t' = lk 3 t
section
variable {bs : List Res} {dc : List SV} {qk qi : Nat} {Ks : List Bytes} {Ls : List Tv} {Js : List Jv} {t t' : List (Nat × SV)} {b b' : List Res}
theorem ES.mv (h : ES bs dc qk qi Ks Ls Js t b) (e : SE t t') : ES bs dc qk qi Ks Ls Js t' b := { h with l1 := e.1.trans h.l1,l2 := e.2.1.trans h.l2,l3 := e.2.2.trans h.l3 }
theorem ES.kpp (h : ES bs dc qk qi Ks Ls Js t b) (g : Kp b b') : ES bs dc qk qi Ks Ls Js t b' := { h with kp := h.kp.trans g,b0 := g.at h.b0,b1 := g.at h.b1,ob := h.ob.kp g,js := h.js.ro g.ro }
theorem ES.put (h : ES bs dc qk qi Ks Ls Js t b) {qk' qi' : Nat} {Ks' : List Bytes} {Ls' : List Tv} {Js' : List Jv} (h1 : qk' = qk ∨ b.length ≤ qk') (h2 : qi' = qi ∨ b.length ≤ qi') (h3 : OB b' (bs.length + 4) qk' qi' Ks' Ls') (h4 : TJs b' Js' Ls') (g : KpQ (bs.length + 4) qk qi b b') : ES bs dc qk' qi' Ks' Ls' Js' t b' := by
  have hk := h.hk
  have hi := h.hi
  have hl := (List.getElem?_eq_some_iff.1 h.ob.bq).1
  refine { h with kp := ⟨Nat.le_trans h.kp.1 g.1,fun i hx => ?_⟩,b0 := g.2 _ _ h.b0 (by omega) (by omega) (by omega),b1 := g.2 _ _ h.b1 (by omega) (by omega) (by omega),ob := h3,hk := by omega,hi := by omega,js := h4 }
  have e := h.kp.2 i hx
  rw [List.getElem?_eq_getElem hx] at e ⊢
  exact g.2 i _ e (by omega) (by omega) (by omega)
theorem ES.row (h : ES bs dc qk qi Ks Ls Js t b) {q : Nat} {c : List SV} {e s n : Nat} (hq : b[q]? = some (.own c e s n true)) (hqi : q ≠ qi) (hqk : q ≠ qk) (hb : bs.length ≤ q) (X : Res) : ES bs dc qk qi Ks Ls Js t (b.set q X) := by
  have h0 : q ≠ bs.length := by rintro rfl; rw [h.b0] at hq; cases hq
  have h1 : q ≠ bs.length + 1 := by rintro rfl; rw [h.b1] at hq; cases hq
  have h4 : q ≠ bs.length + 4 := by rintro rfl; rw [h.ob.bq] at hq; cases hq
  exact { h with kp := kp_set1 h.kp hb _,b0 := get_setN h.b0 h0 _,b1 := get_setN h.b1 h1 _,ob := ⟨get_setN h.ob.bq h4 _,get_setN h.ob.bk hqk _,get_setN h.ob.bi hqi _⟩,js := h.js.ro ((Ro.refl b).setT hq X) }
end
def RW (n qk qi : Nat) (b : List Res) (y : SV) (Ms : List Tv) : Prop := (y = .nils ∧ Ms = []) ∨ ∃ q,0 < Ms.length ∧ y = .o q Ms.length ∧ q ≠ qi ∧ q ≠ qk ∧ n < q ∧ b[q]? = some (.own (Ms.flatMap tv) 25 4 Ms.length true)
theorem RW.kp {n qk qi : Nat} {b b' : List Res} {y : SV} {Ms : List Tv} (h : RW n qk qi b y Ms) (g : Kp b b') : RW n qk qi b' y Ms := by
  rcases h with h | ⟨q,h1,h2,h3,h4,h5,h6⟩
  · exact .inl h
  · exact .inr ⟨q,h1,h2,h3,h4,h5,g.at h6⟩
theorem RW.one {n qk qi : Nat} {b : List Res} {y : SV} {Ms : List Tv} (h : RW n qk qi b y Ms) : Vc.one y = true := by
  rcases h with ⟨rfl,-⟩ | ⟨q,-,rfl,-⟩ <;> rfl
theorem outs_sets (i j : Nat) (b : List Res) (X Y : Res) : Outs [(i,0,0),(j,0,0)] ((b.set i X).set j Y) b := outs_of (fun k hk => by
  rw [List.getElem?_set_ne (hk (j,0,0) (by simp)),List.getElem?_set_ne (hk (i,0,0) (by simp))]) (by simp)
structure DocB (D : Docm) : Prop where
  id : D.id.length ≤ 140737488355328
  also : D.also.length ≤ 1100000 ∧ ∀ s ∈ D.also,s.length ≤ 140737488355328
  ctrl : D.ctrl.length ≤ 1100000 ∧ ∀ s ∈ D.ctrl,s.length ≤ 140737488355328
  ml : D.methods.length ≤ 1100000
  sl : D.services.length ≤ 1100000
  m : ∀ x ∈ D.methods,x.id.length ≤ 140737488355328 ∧ x.type.length ≤ 140737488355328 ∧ x.ctrl.length ≤ 140737488355328
  s : ∀ x ∈ D.services,x.id.length ≤ 140737488355328 ∧ (x.types.length ≤ 1100000 ∧ ∀ s ∈ x.types,s.length ≤ 140737488355328) ∧ (x.ends.length ≤ 1100000 ∧ ∀ s ∈ x.ends,s.length ≤ 140737488355328)
theorem DocR.onesB {b : List Res} {xa xc xm xs : SV} {A C : List Bytes} {M : List Mtm} {Q : List Sq} (h1 : Rs b xa A) (h2 : Rs b xc C) (h3 : Rm b xm M) (h4 : Rq b xs Q) : (Vc.one xa && (Vc.one xc && (Vc.one xm && Vc.one xs))) = true := by rw [h1.one,h2.one,h3.one,h4.one]; rfl
end Go.Proofs.YtejfjmcjicpodaaGreatDoor
/- diddoc.Encode,walked. -/
set_option linter.all false
set_option maxRecDepth 20000
namespace Go.Proofs.YtejfjmcjicpodaaGreatDoor
open Go Vc Go.RowKit Wf
set_option linter.unusedSimpArgs false
theorem rm_len {b : List Res} {x : SV} {M : List Mtm} (h : Rm b x M) (e : TypeId) : lenS (.slice e) x = some (.int .i64 M.length) := by
  rcases h with ⟨rfl,rfl⟩ | ⟨j,rfl,-⟩ <;> rfl
theorem rq_len {b : List Res} {x : SV} {M : List Sq} (h : Rq b x M) (e : TypeId) : lenS (.slice e) x = some (.int .i64 M.length) := by
  rcases h with ⟨rfl,rfl⟩ | ⟨j,rfl,-⟩ <;> rfl
structure EL (bs : List Res) (dc : List SV) (qk qi : Nat) (Ks : List Bytes) (Ls : List Tv) (Js : List Jv) (q5 q6 : Nat) (y5 y6 : SV) (M5 M6 : List Tv) (t : List (Nat × SV)) (b : List Res) : Prop where
  es : ES bs dc qk qi Ks Ls Js t b
  l4 : lk 4 t = some (.fn (.func 48) [.p (bs.length + 4) 0])
  l5 : lk 5 t = some (.p q5 0)
  l6 : lk 6 t = some (.p q6 0)
  h5 : bs.length + 4 < q5
  h6 : q5 < q6
  b5 : b[q5]? = some (.cells [.int .i64 6,.str [],.nils,y5] 25 true)
  b6 : b[q6]? = some (.cells [.int .i64 6,.str [],.nils,y6] 25 true)
  r5 : RW (bs.length + 1) qk qi b y5 M5
  r6 : RW (bs.length + 1) qk qi b y6 M6
  ne : ∀ i n m,y5 = .o i n → y6 ≠ .o i m
def SL4 (t t' : List (Nat × SV)) : Prop := SE t t' ∧ lk 4 t' = lk 4 t ∧ lk 5 t' = lk 5 t ∧ lk 6 t' = lk 6 t
section
variable {bs : List Res} {dc : List SV} {qk qi : Nat} {Ks : List Bytes} {Ls : List Tv} {Js : List Jv} {q5 q6 : Nat} {y5 y6 : SV} {M5 M6 : List Tv} {t t' : List (Nat × SV)} {b b' : List Res}
theorem EL.mv (h : EL bs dc qk qi Ks Ls Js q5 q6 y5 y6 M5 M6 t b) (e : SL4 t t') : EL bs dc qk qi Ks Ls Js q5 q6 y5 y6 M5 M6 t' b := { h with es := h.es.mv e.1,l4 := e.2.1.trans h.l4,l5 := e.2.2.1.trans h.l5,l6 := e.2.2.2.trans h.l6 }
theorem RW.ne {n : Nat} {y : SV} {M : List Tv} (h : RW n qk qi b y M) {i k : Nat} (e : y = .o i k) : i ≠ qi ∧ i ≠ qk ∧ n < i ∧ ∃ c e s z,b[i]? = some (.own c e s z true) := by
  rcases h with ⟨rfl,-⟩ | ⟨q,h1,rfl,h3,h4,h5,h6⟩
  · cases e
  · cases e; exact ⟨h3,h4,h5,_,_,_,_,h6⟩
theorem RW.nec {n : Nat} {y : SV} {M : List Tv} (h : RW n qk qi b y M) {i : Nat} {c : List SV} {T : TypeId} {m : Bool} (hi : b[i]? = some (.cells c T m)) (k : Nat) : y ≠ .o i k := fun e => by
  obtain ⟨-,-,-,_,_,_,_,h1⟩ := h.ne e
  rw [hi] at h1; cases h1
theorem RW.ro {n : Nat} {y : SV} {M : List Tv} (h : RW n qk qi b y M) {q5 : Nat} {c : List SV} {T : TypeId} {m : Bool} (h5 : b[q5]? = some (.cells c T m)) (hkeep : ∀ i r,b[i]? = some r → i ≠ q5 → (∀ n,y ≠ .o i n) → b'[i]? = some r) : Ro b b' := fun i c e s n hi => hkeep i _ hi (by rintro rfl; rw [h5] at hi; cases hi) (fun k e => by
  obtain ⟨-,-,-,_,_,_,_,h1⟩ := h.ne e
  rw [hi] at h1; cases h1)
theorem ES.re {n : Nat} (h : ES bs dc qk qi Ks Ls Js t b) {y : SV} {M : List Tv} (hy : RW (bs.length + 1) qk qi b y M) {q5 : Nat} {c : List SV} {T : TypeId} {m : Bool} (h5 : b[q5]? = some (.cells c T m)) (hq5 : bs.length + 4 < q5) (hl : b.length ≤ b'.length) (hkeep : ∀ i r,b[i]? = some r → i ≠ q5 → (∀ n,y ≠ .o i n) → b'[i]? = some r) : ES bs dc qk qi Ks Ls Js t b' := by
  have hqk : qk ≠ q5 := by rintro rfl; rw [h.ob.bk] at h5; cases h5
  have hqi : qi ≠ q5 := by rintro rfl; rw [h.ob.bi] at h5; cases h5
  refine { h with kp := ⟨Nat.le_trans h.kp.1 hl,fun i hx => ?_⟩,b0 := hkeep _ _ h.b0 (by omega) (hy.nec h.b0),b1 := hkeep _ _ h.b1 (by omega) (hy.nec h.b1),ob := ⟨hkeep _ _ h.ob.bq (by omega) (hy.nec h.ob.bq),hkeep _ _ h.ob.bk hqk (fun k e => (hy.ne e).2.1 rfl),hkeep _ _ h.ob.bi hqi (fun k e => (hy.ne e).1 rfl)⟩,js := h.js.ro (hy.ro h5 hkeep) }
  have e := h.kp.2 i hx
  rw [List.getElem?_eq_getElem hx] at e ⊢
  exact hkeep i _ e (by omega) (fun k e => by have := (hy.ne e).2.2.1; omega)
theorem EL.re5 (h : EL bs dc qk qi Ks Ls Js q5 q6 y5 .nils M5 [] t b) (hl : b.length ≤ b'.length) (hkeep : ∀ i r,b[i]? = some r → i ≠ q5 → (∀ n,y5 ≠ .o i n) → b'[i]? = some r) {y : SV} {M : List Tv} (hb : b'[q5]? = some (.cells [.int .i64 6,.str [],.nils,y] 25 true)) (hr : RW (bs.length + 1) qk qi b' y M) : EL bs dc qk qi Ks Ls Js q5 q6 y .nils M [] t b' :=
  { h with es := ES.re (n := 0) h.es h.r5 h.b5 h.h5 hl hkeep,b5 := hb,b6 := hkeep _ _ h.b6 (by have := h.h6; omega) (h.r5.nec h.b6),r5 := hr,r6 := .inl ⟨rfl,rfl⟩,ne := fun i n m _ => by intro e; cases e }
theorem EL.re6 (h : EL bs dc qk qi Ks Ls Js q5 q6 y5 y6 M5 M6 t b) (hl : b.length ≤ b'.length) (hkeep : ∀ i r,b[i]? = some r → i ≠ q6 → (∀ n,y6 ≠ .o i n) → b'[i]? = some r) {y : SV} {M : List Tv} (hb : b'[q6]? = some (.cells [.int .i64 6,.str [],.nils,y] 25 true)) (hr : RW (bs.length + 1) qk qi b' y M) (hne : ∀ i n,y = .o i n → b.length ≤ i) : EL bs dc qk qi Ks Ls Js q5 q6 y5 y M5 M t b' := by
  have h6 := h.h6
  refine { h with es := ES.re (n := 0) h.es h.r6 h.b6 (by have := h.h5; omega) hl hkeep,b5 := hkeep _ _ h.b5 (by omega) (h.r6.nec h.b5),b6 := hb,r5 := ?_,r6 := hr,ne := fun i n m e e2 => ?_ }
  · rcases h.r5 with e | ⟨q,g1,rfl,g3,g4,g5,g6⟩
    · exact .inl e
    · exact .inr ⟨q,g1,rfl,g3,g4,g5,hkeep _ _ g6 (by rintro rfl; rw [h.b6] at g6; cases g6) (h.ne q _ · rfl)⟩
  · obtain ⟨-,-,-,_,_,_,_,h1⟩ := h.r5.ne e
    have := (List.getElem?_eq_some_iff.1 h1).1
    have := hne i m e2
    omega
end
theorem tjs_cons {b : List Res} {j : Jv} {v : Tv} {J : List Jv} {L : List Tv} (h : TJ b j v) (k : TJs b J L) : TJs b (j :: J) (v :: L) := by rw [TJs]; exact ⟨v,L,rfl,h,k⟩
theorem tjs_nil (b : List Res) : TJs b [] [] := by rw [TJs]
theorem keys_app {K : List Bytes} {key : Bytes} {L : List Jv} (h : ∀ s ∈ K,s.length ≤ 140737488355328) (hk : key.length ≤ 140737488355328) : ∀ s ∈ K ++ memK key L,s.length ≤ 140737488355328 := fun s hs => by
  rcases List.mem_append.1 hs with hs | hs
  · exact h s hs
  · unfold memK at hs
    split at hs
    · cases hs
    · rw [List.mem_singleton] at hs; rw [hs]; exact hk
theorem Ro.preD {b b' : List Res} (h : Ro b b') (hl : b'.length = b.length) (l l2 : List Res) : Ro (b ++ l) (b' ++ (l ++ l2)) := fun j c e s n hj => by
  rcases Nat.lt_or_ge j b.length with h1 | h1
  · rw [List.getElem?_append_left h1] at hj
    exact at_old (h _ _ _ _ _ hj) _
  · rw [List.getElem?_append_right h1] at hj
    rw [List.getElem?_append_right (by omega),hl,List.getElem?_append_left (List.getElem?_eq_some_iff.1 hj).1]
    exact hj
theorem ES.dull {bs : List Res} {dc : List SV} {qk qi : Nat} {Ks : List Bytes} {Ls : List Tv} {Js : List Jv} {t : List (Nat × SV)} {b : List Res} (h : ES bs dc qk qi Ks Ls Js t b) {y : SV} {M : List Tv} (hy : RW (bs.length + 1) qk qi b y M) {J : List Jv} (hJ : TJs b J M) (hl : M.length ≤ 1100000) :
    ∃ b1,(∀ f args R,SC Tryz.V f args b1 R → SC Tryz.V f args b R) ∧ ES bs dc qk qi Ks Ls Js t b1 ∧ TJ b1 (.mk 6 [] [] J) ⟨6,[],.nils,y⟩ ∧ b1.length = b.length ∧ ∀ i r,b[i]? = some r → (∀ n,y ≠ .o i n) → b1[i]? = some r := by
  have hlen := hJ.len
  rcases hy with ⟨rfl,rfl⟩ | ⟨q,g1,rfl,g3,g4,g5,g6⟩
  · obtain rfl : J = [] := List.length_eq_zero_iff.1 (by simpa using hlen.symm)
    exact ⟨b,fun _ _ _ h => h,h,TJ.mk' rfl rfl (by simp [Jv.t]) (.inl ⟨rfl,rfl⟩) (by simp [Jv.K]) (by simp [Jv.K]) (by simp [Jv.L]) ⟨[],.inl ⟨rfl,rfl⟩,tjs_nil b⟩,rfl,fun _ _ h _ => h⟩
  · refine ⟨b.set q (.own (M.flatMap tv) 25 4 M.length false),fun _ _ _ h => sc_dull g6 h,h.row g6 g3 g4 (by omega) _,TJ.mk' rfl rfl (by simp [Jv.t]) (.inl ⟨rfl,rfl⟩) (by simp [Jv.K]) (by simp [Jv.K]) (by simp only [Jv.L]; omega) ⟨M,.inr ⟨q,rfl,List.getElem?_set_self (List.getElem?_eq_some_iff.1 g6).1⟩,hJ.ro ((Ro.refl b).setT g6 _)⟩,by simp,fun i r hi hn => get_setN hi (fun e => hn M.length (by rw [e])) _⟩
theorem TJ.three {b : List Res} {p q : Nat} {K : List Bytes} {Js : List Jv} {Ls : List Tv} (hK : b[p]? = some (.own (K.map SV.str) 9 1 3 false)) (hK3 : K.length = 3) (hKs : ∀ s ∈ K,s.length ≤ 140737488355328) (hL : b[q]? = some (.own (Ls.flatMap tv) 25 4 3 false)) (hJ3 : Js.length = 3) (hj : TJs b Js Ls) : TJ b (.mk 7 [] K Js) ⟨7,[],.o p 3,.o q 3⟩ :=
  TJ.mk' rfl rfl (by simp [Jv.t]) (.inr ⟨p,by simp only [Jv.K,hK3],by simp only [Jv.K,hK3]; exact hK⟩) (by simp only [Jv.K,hK3]; omega) hKs (by simp only [Jv.L,hJ3]; omega) ⟨Ls,.inr ⟨q,by rw [hj.len,hJ3],by rw [hj.len,hJ3]; exact hL⟩,hj⟩
set_option maxHeartbeats 16000000 in
theorem sc_dd_Encode {bs : List Res} {dc : List SV} {D : Docm} (hD : DocR bs dc D) (hB : DocB D) : SC Tryz.V 17 [.agg dc] bs (fun r b => ∃ v,r = .agg (tv v) ∧ Kp bs b ∧ TJ b (encM D) v) := by
  refine SC.dimAll ?_
  obtain ⟨xa,xc,xm,xs,Q,rfl,d1,d2,d3,d4,d5,d6⟩ := hD
  have hone := DocR.onesB d1 d2 d3 d4
  have w1 := d1.within
  have w2 := d2.within
  have w3 : Vc.within bs.length xm = true := by
    rcases d3 with ⟨rfl,-⟩ | ⟨j,rfl,h2⟩
    · rfl
    · have := (List.getElem?_eq_some_iff.1 h2).1
      simp [Vc.within,this]
  have w4 : Vc.within bs.length xs = true := by
    rcases d4 with ⟨rfl,-⟩ | ⟨j,rfl,h2⟩
    · rfl
    · have := (List.getElem?_eq_some_iff.1 h2).1
      simp [Vc.within,this]
  have c1 := d1.one
  have c2 := d2.one
  have c3 := d3.one
  have c4 := d4.one
  refine sc_ofP (fun n => if n = 14 then .ord [0,1,3,4,5,6,7,8,9,10,11,2,12,13,14,15,16,17] else .ord []) 3000 Tryz.func17 rfl Tryz.ntmps17 Tryz.results17 Tryz.call17 (by simp) (fun β β' hb => concL_within bs.length _ (by simp [within,within.withinL,w1,w2,w3,w4]) β β' hb) ?_
  refine vcS_cutS 2900 (fun σ => lk 1 σ.t = some (.p bs.length 0) ∧ lk 2 σ.t = some (.p (bs.length + 1) 0) ∧ σ.b = bs ++ [.cells [.str D.id,xa,xc,xm,xs] 34 true,.cells [.int .i64 0,.str [],.nils,.nils] 25 true]) ?_ (fun k' hk' => ?_)
  rotate_left
  · simp only [lawG,↓Xn,↓Xo,↓Xg,↓Xd,↓Xe,↓Xf,Tryz.VΓ,Tryz.Γs,Xp,Xi,Nat.reduceAdd,Nat.reduceSub,Nat.reduceLT,Nat.reduceLeDiff,reduceIte,reduceCtorEq,Nat.reduceEqDiff,implies_true,forall_const,lawV,lawA,beq_self_eq_true,bne_self_eq_false,Int.reduceBEq,Int.reduceBNe,Int.reduceLT,Int.reduceLE,hone]
    exact hk' _ _ ⟨rfl,rfl,rfl⟩
  rintro m ⟨t,b⟩ ⟨h1,h2,rfl⟩
  simp only at h1 h2
  refine vcS_cutS 2800 (fun σ => ∃ Ls,ES bs [.str D.id,xa,xc,xm,xs] (bs.length + 2) (bs.length + 3) [([105,100] : List UInt8)] Ls [Jv.str D.id] σ.t σ.b) ?_ (fun k' hk' => ?_)
  rotate_left
  · have p1 := p_dd_text D.id
    simp only [lawG,↓Xn,↓Xo,↓Xg,↓Xd,↓Xe,↓Xf,Tryz.VΓ,Tryz.Γs,Xp,Xi,Nat.reduceAdd,Nat.reduceSub,Nat.reduceLT,Nat.reduceLeDiff,reduceIte,reduceCtorEq,Nat.reduceEqDiff,implies_true,forall_const,lawV,lawA,beq_self_eq_true,bne_self_eq_false,Int.reduceBEq,Int.reduceBNe,Int.reduceLT,Int.reduceLE,h1,h2,hone]
    refine ⟨by decide,callV_pc p1 ?_⟩
    simp only [lawG,↓Xn,↓Xo,↓Xg,↓Xd,↓Xe,↓Xf,Tryz.VΓ,Tryz.Γs,Xp,Xi,Nat.reduceAdd,Nat.reduceSub,Nat.reduceLT,Nat.reduceLeDiff,reduceIte,reduceCtorEq,Nat.reduceEqDiff,implies_true,forall_const,lawV,lawA,beq_self_eq_true,bne_self_eq_false,Int.reduceBEq,Int.reduceBNe,Int.reduceLT,Int.reduceLE]
    refine ⟨by decide,callV_sc (keepW (bs := bs ++ [_,_,_,_]) (x := .agg [.int .i64 7,.str [],.o (bs.length + 2) 1,.o (bs.length + 3) 1]) (by simp [within,within.withinL]) (sc_dd_object (by simp [within]) (by simp [within]) rfl rfl)) ?_⟩
    rintro r b ⟨rfl,rfl⟩
    simp only [lawG,↓Xn,↓Xo,↓Xg,↓Xd,↓Xe,↓Xf,Tryz.VΓ,Tryz.Γs,Xp,Xi,Nat.reduceAdd,Nat.reduceSub,Nat.reduceLT,Nat.reduceLeDiff,reduceIte,reduceCtorEq,Nat.reduceEqDiff,implies_true,forall_const,lawV,lawA,beq_self_eq_true,bne_self_eq_false,Int.reduceBEq,Int.reduceBNe,Int.reduceLT,Int.reduceLE]
    exact hk' _ _ ⟨[⟨5,D.id,.nils,.nils⟩],by simp [lk,h1],by simp [lk,h2],rfl,(Kp.refl bs).app _,app_at0 _ _,app_at _ _ 1,⟨app_at _ _ 4,app_at _ _ 2,app_at _ _ 3⟩,by omega,by omega,by rw [TJs]; exact ⟨_,[],rfl,TJ.text _ _ hB.id,by rw [TJs]⟩⟩
  clear h1 h2
  rintro m ⟨t,b⟩ ⟨Ls,h⟩
  simp only at h
  refine vcS_cutS 2700 (fun σ => ES bs [.str D.id,xa,xc,xm,xs] (bs.length + 2) (bs.length + 3) [([105,100] : List UInt8)] Ls [Jv.str D.id] σ.t σ.b ∧ lk 4 σ.t = some (.fn (.func 48) [.p (bs.length + 4) 0])) ?_ (fun k' hk' => ?_)
  rotate_left
  · have m3 := h.l3
    simp only [lawG,↓Xn,↓Xo,↓Xg,↓Xd,↓Xe,↓Xf,Tryz.VΓ,Tryz.Γs,Xp,Xi,Nat.reduceAdd,Nat.reduceSub,Nat.reduceLT,Nat.reduceLeDiff,reduceIte,reduceCtorEq,Nat.reduceEqDiff,implies_true,forall_const,lawV,lawA,beq_self_eq_true,bne_self_eq_false,Int.reduceBEq,Int.reduceBNe,Int.reduceLT,Int.reduceLE,m3]
    exact hk' _ _ ⟨h.mv (by simp [SE,lk]),rfl⟩
  clear h
  rintro m ⟨t,b⟩ ⟨h,h4⟩
  simp only at h h4
  have hLl := h.js.len
  simp only [List.length_cons,List.length_nil] at hLl
  have e0 : bs.length + 2 = bs.length + 2 := rfl
  generalize bs.length + 2 = qk at h e0
  clear e0
  have e0 : bs.length + 3 = bs.length + 3 := rfl
  generalize bs.length + 3 = qi at h e0
  clear e0
  refine vcS_cutS 2600 (fun σ => ∃ qk qi Ls,ES bs [.str D.id,xa,xc,xm,xs] qk qi ([([105,100] : List UInt8)] ++ memK ([97,108,115,111,75,110,111,119,110,65,115] : List UInt8) (D.also.map Jv.str)) Ls ([Jv.str D.id] ++ memI (D.also.map Jv.str)) σ.t σ.b ∧ lk 4 σ.t = some (.fn (.func 48) [.p (bs.length + 4) 0])) ?_ (fun k' hk' => ?_)
  rotate_left
  · obtain ⟨v,A,hj,hsc⟩ := ar_dd_texts (d1.ro h.kp.ro) hB.also.1 hB.also.2
    have hA := h.kpp ((Kp.refl b).app [A])
    have m1 := h.l1
    have hb0 := h.b0
    have hput := sc_dd_putJ hA.ob hA.js (by simp) (by omega) ([97,108,115,111,75,110,111,119,110,65,115] : List UInt8) hj
    unfold tv at hsc hput
    simp only [lawG,↓Xn,↓Xo,↓Xg,↓Xd,↓Xe,↓Xf,Tryz.VΓ,Tryz.Γs,Xp,Xi,Nat.reduceAdd,Nat.reduceSub,Nat.reduceLT,Nat.reduceLeDiff,reduceIte,reduceCtorEq,Nat.reduceEqDiff,implies_true,forall_const,lawV,lawA,beq_self_eq_true,bne_self_eq_false,Int.reduceBEq,Int.reduceBNe,Int.reduceLT,Int.reduceLE,m1,h4,hb0,c1]
    refine callV_sc hsc ?_
    rintro r b ⟨rfl,rfl⟩
    simp only [lawG,↓Xn,↓Xo,↓Xg,↓Xd,↓Xe,↓Xf,Tryz.VΓ,Tryz.Γs,Xp,Xi,Nat.reduceAdd,Nat.reduceSub,Nat.reduceLT,Nat.reduceLeDiff,reduceIte,reduceCtorEq,Nat.reduceEqDiff,implies_true,forall_const,lawV,lawA,beq_self_eq_true,bne_self_eq_false,Int.reduceBEq,Int.reduceBNe,Int.reduceLT,Int.reduceLE,h4]
    refine callV_sc hput ?_
    rintro r b ⟨rfl,qk',qi',Ls',g1,g2,g3,g4,g5⟩
    simp only [lawG,↓Xn,↓Xo,↓Xg,↓Xd,↓Xe,↓Xf,Tryz.VΓ,Tryz.Γs,Xp,Xi,Nat.reduceAdd,Nat.reduceSub,Nat.reduceLT,Nat.reduceLeDiff,reduceIte,reduceCtorEq,Nat.reduceEqDiff,implies_true,forall_const,lawV,lawA,beq_self_eq_true,bne_self_eq_false,Int.reduceBEq,Int.reduceBNe,Int.reduceLT,Int.reduceLE]
    exact hk' _ _ ⟨qk',qi',Ls',(hA.put g1 g2 g3 g4 g5).mv (by simp [SE,lk]),by simp [lk,h4]⟩
  clear h h4 hLl
  rintro m ⟨t,b⟩ ⟨qk,qi,Ls,h,h4⟩
  simp only at h h4
  have hKl : ([([105,100] : List UInt8)] ++ memK ([97,108,115,111,75,110,111,119,110,65,115] : List UInt8) (D.also.map Jv.str)).length ≤ 2 := by unfold memK; split <;> simp
  have hJl : ([Jv.str D.id] ++ memI (D.also.map Jv.str)).length ≤ 2 := by unfold memI; split <;> simp
  have hLl := h.js.len
  refine vcS_cutS 2500 (fun σ => ∃ qk qi Ls,ES bs [.str D.id,xa,xc,xm,xs] qk qi ([([105,100] : List UInt8)] ++ memK ([97,108,115,111,75,110,111,119,110,65,115] : List UInt8) (D.also.map Jv.str) ++ memK ([99,111,110,116,114,111,108,108,101,114] : List UInt8) (D.ctrl.map Jv.str)) Ls ([Jv.str D.id] ++ memI (D.also.map Jv.str) ++ memI (D.ctrl.map Jv.str)) σ.t σ.b ∧ lk 4 σ.t = some (.fn (.func 48) [.p (bs.length + 4) 0])) ?_ (fun k' hk' => ?_)
  rotate_left
  · obtain ⟨v,A,hj,hsc⟩ := ar_dd_texts (d2.ro h.kp.ro) hB.ctrl.1 hB.ctrl.2
    have hA := h.kpp ((Kp.refl b).app [A])
    have m1 := h.l1
    have hb0 := h.b0
    have hput := sc_dd_putJ hA.ob hA.js (by omega) (by omega) ([99,111,110,116,114,111,108,108,101,114] : List UInt8) hj
    unfold tv at hsc hput
    simp only [lawG,↓Xn,↓Xo,↓Xg,↓Xd,↓Xe,↓Xf,Tryz.VΓ,Tryz.Γs,Xp,Xi,Nat.reduceAdd,Nat.reduceSub,Nat.reduceLT,Nat.reduceLeDiff,reduceIte,reduceCtorEq,Nat.reduceEqDiff,implies_true,forall_const,lawV,lawA,beq_self_eq_true,bne_self_eq_false,Int.reduceBEq,Int.reduceBNe,Int.reduceLT,Int.reduceLE,m1,h4,hb0,c2]
    refine callV_sc hsc ?_
    rintro r b ⟨rfl,rfl⟩
    simp only [lawG,↓Xn,↓Xo,↓Xg,↓Xd,↓Xe,↓Xf,Tryz.VΓ,Tryz.Γs,Xp,Xi,Nat.reduceAdd,Nat.reduceSub,Nat.reduceLT,Nat.reduceLeDiff,reduceIte,reduceCtorEq,Nat.reduceEqDiff,implies_true,forall_const,lawV,lawA,beq_self_eq_true,bne_self_eq_false,Int.reduceBEq,Int.reduceBNe,Int.reduceLT,Int.reduceLE,h4]
    refine callV_sc hput ?_
    rintro r b ⟨rfl,qk',qi',Ls',g1,g2,g3,g4,g5⟩
    simp only [lawG,↓Xn,↓Xo,↓Xg,↓Xd,↓Xe,↓Xf,Tryz.VΓ,Tryz.Γs,Xp,Xi,Nat.reduceAdd,Nat.reduceSub,Nat.reduceLT,Nat.reduceLeDiff,reduceIte,reduceCtorEq,Nat.reduceEqDiff,implies_true,forall_const,lawV,lawA,beq_self_eq_true,bne_self_eq_false,Int.reduceBEq,Int.reduceBNe,Int.reduceLT,Int.reduceLE]
    exact hk' _ _ ⟨qk',qi',Ls',(hA.put g1 g2 g3 g4 g5).mv (by simp [SE,lk]),by simp [lk,h4]⟩
  clear h h4 hLl
  rintro m ⟨t,b⟩ ⟨qk,qi,Ls,h,h4⟩
  simp only at h h4
  have hKl : ([([105,100] : List UInt8)] ++ memK ([97,108,115,111,75,110,111,119,110,65,115] : List UInt8) (D.also.map Jv.str) ++ memK ([99,111,110,116,114,111,108,108,101,114] : List UInt8) (D.ctrl.map Jv.str)).length ≤ 3 := by
    rw [List.length_append]
    have : (memK ([99,111,110,116,114,111,108,108,101,114] : List UInt8) (D.ctrl.map Jv.str)).length ≤ 1 := by unfold memK; split <;> simp
    omega
  have hJl : ([Jv.str D.id] ++ memI (D.also.map Jv.str) ++ memI (D.ctrl.map Jv.str)).length ≤ 3 := by
    rw [List.length_append]
    have : (memI (D.ctrl.map Jv.str)).length ≤ 1 := by unfold memI; split <;> simp
    omega
  have hE : encM D = .mk 7 [] ([([105,100] : List UInt8)] ++ memK ([97,108,115,111,75,110,111,119,110,65,115] : List UInt8) (D.also.map Jv.str) ++ memK ([99,111,110,116,114,111,108,108,101,114] : List UInt8) (D.ctrl.map Jv.str) ++ memK ([118,101,114,105,102,105,99,97,116,105,111,110,77,101,116,104,111,100] : List UInt8) (D.methods.map methJ) ++ memK ([115,101,114,118,105,99,101] : List UInt8) (D.services.map servJ)) ([Jv.str D.id] ++ memI (D.also.map Jv.str) ++ memI (D.ctrl.map Jv.str) ++ memI (D.methods.map methJ) ++ memI (D.services.map servJ)) := rfl
  have hKs0 : ∀ s ∈ [([105,100] : List UInt8)] ++ memK ([97,108,115,111,75,110,111,119,110,65,115] : List UInt8) (D.also.map Jv.str) ++ memK ([99,111,110,116,114,111,108,108,101,114] : List UInt8) (D.ctrl.map Jv.str),s.length ≤ 140737488355328 := keys_app (keys_app (fun s hs => by rw [List.mem_singleton] at hs; rw [hs]; decide) (by decide)) (by decide)
  generalize encM D = JE at hE ⊢
  generalize [([105,100] : List UInt8)] ++ memK ([97,108,115,111,75,110,111,119,110,65,115] : List UInt8) (D.also.map Jv.str) ++ memK ([99,111,110,116,114,111,108,108,101,114] : List UInt8) (D.ctrl.map Jv.str) = Ks at h hKl hE hKs0
  generalize [Jv.str D.id] ++ memI (D.also.map Jv.str) ++ memI (D.ctrl.map Jv.str) = Js at h hJl hE
  have hLl := h.js.len
  refine vcS_cutS 2400 (fun σ => ∃ q5 q6,EL bs [.str D.id,xa,xc,xm,xs] qk qi Ks Ls Js q5 q6 .nils .nils [] [] σ.t σ.b) ?_ (fun k' hk' => ?_)
  rotate_left
  · simp only [lawG,↓Xn,↓Xo,↓Xg,↓Xd,↓Xe,↓Xf,Tryz.VΓ,Tryz.Γs,Xp,Xi,Nat.reduceAdd,Nat.reduceSub,Nat.reduceLT,Nat.reduceLeDiff,reduceIte,reduceCtorEq,Nat.reduceEqDiff,implies_true,forall_const,lawV,lawA,beq_self_eq_true,bne_self_eq_false,Int.reduceBEq,Int.reduceBNe,Int.reduceLT,Int.reduceLE]
    have hbl := (List.getElem?_eq_some_iff.1 h.ob.bq).1
    refine hk' _ _ ?_
    exact ⟨b.length,b.length + 1,(h.kpp ((Kp.refl b).app [_,_])).mv ⟨rfl,rfl,rfl⟩,h4,rfl,rfl,by omega,by omega,app_at0 _ _,app_at _ _ 1,.inl ⟨rfl,rfl⟩,.inl ⟨rfl,rfl⟩,fun _ _ _ e => by cases e⟩
  clear h h4
  rintro m ⟨t,b⟩ ⟨q5,q6,h⟩
  simp only at h
  refine vcS_cutS 2300 (fun σ => ∃ y Ms,EL bs [.str D.id,xa,xc,xm,xs] qk qi Ks Ls Js q5 q6 y .nils Ms [] σ.t σ.b ∧ TJs σ.b (D.methods.map methJ) Ms) ?_ (fun k' hk' => ?_)
  rotate_left
  · have m1 := h.es.l1
    have hb0 := h.es.b0
    have hM := rm_len d3
    simp only [lawG,↓Xn,↓Xo,↓Xg,↓Xd,↓Xe,↓Xf,Tryz.VΓ,Tryz.Γs,Xp,Xi,Nat.reduceAdd,Nat.reduceSub,Nat.reduceLT,Nat.reduceLeDiff,reduceIte,reduceCtorEq,Nat.reduceEqDiff,implies_true,forall_const,lawV,lawA,beq_self_eq_true,bne_self_eq_false,Int.reduceBEq,Int.reduceBNe,Int.reduceLT,Int.reduceLE,m1,hb0,c3,hM]
    refine loopV_mk (fun σ => ∃ (k : Nat) (y : SV) (Ms : List Tv),k ≤ D.methods.length ∧ EL bs [.str D.id,xa,xc,xm,xs] qk qi Ks Ls Js q5 q6 y .nils Ms [] σ.t σ.b ∧ lk 31 σ.t = some xm ∧ lk 32 σ.t = some (.int .i64 D.methods.length) ∧ lk 33 σ.t = some (.int .i64 k) ∧ Ms.length = k ∧ TJs σ.b ((D.methods.take k).map methJ) Ms) (fun σ => D.methods.length - lkI 33 σ) ⟨0,.nils,[],by omega,h.mv ⟨⟨rfl,rfl,rfl⟩,rfl,rfl,rfl⟩,rfl,rfl,rfl,rfl,by simp [TJs]⟩ ?_
    clear h m1 hb0
    rintro ⟨t,b⟩ ⟨k,y,Ms,hk,h,h31,h32,h33,hMl,hT⟩
    simp only at h h31 h32 h33 hT
    rw [lkI_eq h33]
    by_cases hlt : k < D.methods.length
    rotate_left
    · have hlt2 : decide ((k : Int) < D.methods.length) = false := decide_eq_false (by omega)
      simp only [lawG,↓Xn,↓Xo,↓Xg,↓Xd,↓Xe,↓Xf,Tryz.VΓ,Tryz.Γs,Xp,Xi,Nat.reduceAdd,Nat.reduceSub,Nat.reduceLT,Nat.reduceLeDiff,reduceIte,reduceCtorEq,Nat.reduceEqDiff,implies_true,forall_const,lawV,lawA,beq_self_eq_true,bne_self_eq_false,Int.reduceBEq,Int.reduceBNe,Int.reduceLT,Int.reduceLE,h31,h32,h33,hlt2]
      obtain rfl : k = D.methods.length := by omega
      rw [List.take_length] at hT
      refine hk' _ _ ?_
      exact ⟨y,Ms,h.mv ⟨⟨rfl,rfl,rfl⟩,rfl,rfl,rfl⟩,hT⟩
    have hlt2 : decide ((k : Int) < D.methods.length) = true := decide_eq_true (by omega)
    rcases d3 with ⟨-,hx0⟩ | ⟨i,rfl,hi⟩
    · rw [hx0] at hlt; simp at hlt
    have hbi := h.es.kp.at hi
    have hu : List.take 3 (List.drop (k * 3) (D.methods.flatMap mc)) = [.str D.methods[k].id,.str D.methods[k].type,.str D.methods[k].ctrl] := by rw [mc_at _ k hlt]; rfl
    have hul := mc_len D.methods
    obtain ⟨n1,n2,n3⟩ := hB.m _ (List.getElem_mem hlt)
    have hT2 : (D.methods.take (k + 1)).map methJ = (D.methods.take k).map methJ ++ [methJ D.methods[k]] := by rw [List.take_succ_eq_append_getElem hlt,List.map_append]; rfl
    have hml := hB.ml
    generalize D.methods[k] = x at hu n1 n2 n3 hT2
    have p1 := p_dd_text x.id
    have p2 := p_dd_text x.type
    have p3 := p_dd_text x.ctrl
    have m5 := h.l5
    have hb5 := h.b5
    have hb5l := (List.getElem?_eq_some_iff.1 hb5).1
    have hset : ∀ (l : List Res) X,(b ++ l).set q5 X = b.set q5 X ++ l := fun l X => app_setL hb5l l X
    have hob := sc_dd_objectX (bs := b ++ [.cells [.str x.id,.str x.type,.str x.ctrl] 48 true,.own [.str ([105,100] : List UInt8),.str ([116,121,112,101] : List UInt8),.str ([99,111,110,116,114,111,108,108,101,114] : List UInt8)] 9 1 3 true,.own [.int .i64 5,.str x.id,.nils,.nils,.int .i64 5,.str x.type,.nils,.nils,.int .i64 5,.str x.ctrl,.nils,.nils] 25 4 3 true]) (qx := b.length + 1) (qy := b.length + 2) (by omega) (app_at _ _ 1) (app_at _ _ 2)
    rcases h.r5 with ⟨rfl,rfl⟩ | ⟨q,hq0,rfl,hqi,hqk,hqb,hbq⟩
    · obtain rfl : k = 0 := by simpa using hMl.symm
      simp only [lawG,↓Xn,↓Xo,↓Xg,↓Xd,↓Xe,↓Xf,Tryz.VΓ,Tryz.Γs,Xp,Xi,Nat.reduceAdd,Nat.reduceSub,Nat.reduceLT,Nat.reduceLeDiff,reduceIte,reduceCtorEq,Nat.reduceEqDiff,implies_true,forall_const,lawV,lawA,beq_self_eq_true,bne_self_eq_false,Int.reduceBEq,Int.reduceBNe,Int.reduceLT,Int.reduceLE,m5,h31,h32,h33,hlt2,hbi,hu,hul,hb5,at_old hb5,hset]
      refine ⟨⟨by omega,by omega⟩,by omega,by decide,?_⟩
      (refine callD_pc (p1) ?_; simp only [lawG,↓Xn,↓Xo,↓Xg,↓Xd,↓Xe,↓Xf,Tryz.VΓ,Tryz.Γs,Xp,Xi,Nat.reduceAdd,Nat.reduceSub,Nat.reduceLT,Nat.reduceLeDiff,reduceIte,reduceCtorEq,Nat.reduceEqDiff,implies_true,forall_const,lawV,lawA,beq_self_eq_true,bne_self_eq_false,Int.reduceBEq,Int.reduceBNe,Int.reduceLT,Int.reduceLE,at_old hb5,hset])
      (refine callD_pc (p2) ?_; simp only [lawG,↓Xn,↓Xo,↓Xg,↓Xd,↓Xe,↓Xf,Tryz.VΓ,Tryz.Γs,Xp,Xi,Nat.reduceAdd,Nat.reduceSub,Nat.reduceLT,Nat.reduceLeDiff,reduceIte,reduceCtorEq,Nat.reduceEqDiff,implies_true,forall_const,lawV,lawA,beq_self_eq_true,bne_self_eq_false,Int.reduceBEq,Int.reduceBNe,Int.reduceLT,Int.reduceLE,at_old hb5,hset])
      (refine callD_pc (p3) ?_; simp only [lawG,↓Xn,↓Xo,↓Xg,↓Xd,↓Xe,↓Xf,Tryz.VΓ,Tryz.Γs,Xp,Xi,Nat.reduceAdd,Nat.reduceSub,Nat.reduceLT,Nat.reduceLeDiff,reduceIte,reduceCtorEq,Nat.reduceEqDiff,implies_true,forall_const,lawV,lawA,beq_self_eq_true,bne_self_eq_false,Int.reduceBEq,Int.reduceBNe,Int.reduceLT,Int.reduceLE,at_old hb5,hset])
      refine ⟨by decide,callD_scw [(b.length + 1,0,0),(b.length + 2,0,0)] hob (outs_sets _ _ _ _ _) ?_⟩
      simp only [lawG,↓Xn,↓Xo,↓Xg,↓Xd,↓Xe,↓Xf,Tryz.VΓ,Tryz.Γs,Xp,Xi,Nat.reduceAdd,Nat.reduceSub,Nat.reduceLT,Nat.reduceLeDiff,reduceIte,reduceCtorEq,Nat.reduceEqDiff,implies_true,forall_const,lawV,lawA,beq_self_eq_true,bne_self_eq_false,Int.reduceBEq,Int.reduceBNe,Int.reduceLT,Int.reduceLE,m5,h31,h32,h33,at_old hb5,hset]
      have z0 : ∀ m,(b.length + m = q5) = False := fun m => eq_false (by omega)
      have z1 : (b.length = q5) = False := eq_false (by omega)
      have hql := (List.getElem?_eq_some_iff.1 h.es.ob.bi).1
      have hql2 := (List.getElem?_eq_some_iff.1 h.es.ob.bk).1
      have hk4 := h.es.kp.1
      refine ⟨by decide,⟨by decide,by decide⟩,?_,⟨by omega,by omega⟩,⟨1,.o (b.length + 4) 1,[⟨7,[],.o (b.length + 1) 3,.o (b.length + 2) 3⟩],by omega,EL.mv (EL.re5 h (by simp) (fun i r hi hn _ => at_old (get_setN hi (Ne.symm hn) _) _) (get_setS hb5l _ _) (.inr ⟨b.length + 4,by simp,rfl,by omega,by omega,by omega,app_atL (by simp) _ 4⟩)) ⟨⟨rfl,rfl,rfl⟩,rfl,rfl,rfl⟩,rfl,rfl,?_⟩,?_⟩
      · refine OkD_ren (fun n => if n = q5 then 100 else n - b.length) ?_
        simp only [List.map_cons,List.map_nil,renRk,renT,Nat.add_sub_cancel_left,Nat.sub_self,z0,z1,eq_self,if_true,if_false]
        exact OkD_fast (by kernel_rfl)
      · rw [hT2]
        exact tjs_cons (TJ.three (K := [([105,100] : List UInt8),([116,121,112,101] : List UInt8),([99,111,110,116,114,111,108,108,101,114] : List UInt8)]) (Ls := [⟨5,x.id,.nils,.nils⟩,⟨5,x.type,.nils,.nils⟩,⟨5,x.ctrl,.nils,.nils⟩]) (app_atL (by simp) _ 1) rfl (by decide) (app_atL (by simp) _ 2) rfl (tjs_cons (TJ.text _ _ n1) (tjs_cons (TJ.text _ _ n2) (tjs_cons (TJ.text _ _ n3) (tjs_nil _))))) (tjs_nil _)
      · rw [lkI_eq (show lk 33 _ = some (.int .i64 ((1 : Nat) : Int)) from rfl)]; omega
    · have hql := (List.getElem?_eq_some_iff.1 hbq).1
      have hsq : ∀ (l : List Res) X,(b ++ l).set q X = b.set q X ++ l := fun l X => app_setL hql l X
      have hset2 : ∀ (l : List Res) Y X,(b.set q Y ++ l).set q5 X = (b.set q Y).set q5 X ++ l := fun l Y X => app_setL (by simpa using hb5l) l X
      have hq5 : q ≠ q5 := by rintro rfl; rw [hb5] at hbq; cases hbq
      have hbq1 := fun Y => at_old (get_setN hb5 hq5 Y)
      have hq0' : 0 < k := by omega
      rw [hMl] at hbq
      simp only [lawG,↓Xn,↓Xo,↓Xg,↓Xd,↓Xe,↓Xf,Tryz.VΓ,Tryz.Γs,Xp,Xi,Nat.reduceAdd,Nat.reduceSub,Nat.reduceLT,Nat.reduceLeDiff,reduceIte,reduceCtorEq,Nat.reduceEqDiff,implies_true,forall_const,lawV,lawA,beq_self_eq_true,bne_self_eq_false,Int.reduceBEq,Int.reduceBNe,Int.reduceLT,Int.reduceLE,hMl,m5,h31,h32,h33,hlt2,hbi,hu,hul,hb5,at_old hb5,hset]
      refine ⟨⟨by omega,by omega⟩,by omega,by decide,?_⟩
      (refine callD_pc (p1) ?_; simp only [lawG,↓Xn,↓Xo,↓Xg,↓Xd,↓Xe,↓Xf,Tryz.VΓ,Tryz.Γs,Xp,Xi,Nat.reduceAdd,Nat.reduceSub,Nat.reduceLT,Nat.reduceLeDiff,reduceIte,reduceCtorEq,Nat.reduceEqDiff,implies_true,forall_const,lawV,lawA,beq_self_eq_true,bne_self_eq_false,Int.reduceBEq,Int.reduceBNe,Int.reduceLT,Int.reduceLE,at_old hb5,hset])
      (refine callD_pc (p2) ?_; simp only [lawG,↓Xn,↓Xo,↓Xg,↓Xd,↓Xe,↓Xf,Tryz.VΓ,Tryz.Γs,Xp,Xi,Nat.reduceAdd,Nat.reduceSub,Nat.reduceLT,Nat.reduceLeDiff,reduceIte,reduceCtorEq,Nat.reduceEqDiff,implies_true,forall_const,lawV,lawA,beq_self_eq_true,bne_self_eq_false,Int.reduceBEq,Int.reduceBNe,Int.reduceLT,Int.reduceLE,at_old hb5,hset])
      (refine callD_pc (p3) ?_; simp only [lawG,↓Xn,↓Xo,↓Xg,↓Xd,↓Xe,↓Xf,Tryz.VΓ,Tryz.Γs,Xp,Xi,Nat.reduceAdd,Nat.reduceSub,Nat.reduceLT,Nat.reduceLeDiff,reduceIte,reduceCtorEq,Nat.reduceEqDiff,implies_true,forall_const,lawV,lawA,beq_self_eq_true,bne_self_eq_false,Int.reduceBEq,Int.reduceBNe,Int.reduceLT,Int.reduceLE,at_old hb5,hset])
      refine ⟨by decide,callD_scw [(b.length + 1,0,0),(b.length + 2,0,0)] hob (outs_sets _ _ _ _ _) ?_⟩
      simp only [lawG,↓Xn,↓Xo,↓Xg,↓Xd,↓Xe,↓Xf,Tryz.VΓ,Tryz.Γs,Xp,Xi,Nat.reduceAdd,Nat.reduceSub,Nat.reduceLT,Nat.reduceLeDiff,reduceIte,reduceCtorEq,Nat.reduceEqDiff,implies_true,forall_const,lawV,lawA,beq_self_eq_true,bne_self_eq_false,Int.reduceBEq,Int.reduceBNe,Int.reduceLT,Int.reduceLE,m5,h31,h32,h33,at_old hb5,at_old hbq,hset,hsq,hset2,hbq1]
      have z0 : ∀ m,(b.length + m = q5) = False := fun m => eq_false (by omega)
      have z1 : (b.length = q5) = False := eq_false (by omega)
      have z2 : ∀ m,(b.length + m = q) = False := fun m => eq_false (by omega)
      have z3 : (b.length = q) = False := eq_false (by omega)
      have z4 : (q = q5) = False := eq_false hq5
      have hkeep : ∀ (X : Res) (l : List Res) i r,b[i]? = some r → i ≠ q5 → (∀ n,SV.o q k ≠ .o i n) → ((b.set q .gone).set q5 X ++ l)[i]? = some r := fun X l i r hi hn hq => at_old (get_setN (get_setN hi (fun e => hq k (by rw [e])) _) (Ne.symm hn) _) _
      have hyl := (List.getElem?_eq_some_iff.1 h.es.ob.bi).1
      have hyl2 := (List.getElem?_eq_some_iff.1 h.es.ob.bk).1
      have hk4 := h.es.kp.1
      rw [hMl] at h
      refine ⟨by decide,⟨by unfold maxLen; omega,by omega⟩,?_,⟨by omega,by omega⟩,⟨k + 1,.o (b.length + 4) (k + 1),Ms ++ [⟨7,[],.o (b.length + 1) 3,.o (b.length + 2) 3⟩],by omega,EL.mv (EL.re5 h (by simp) (hkeep _ _) (get_setS (by simpa using hb5l) _ _) (.inr ⟨b.length + 4,by simp,by simp [hMl],by omega,by omega,by omega,?_⟩)) ⟨⟨rfl,rfl,rfl⟩,rfl,rfl,rfl⟩,rfl,by simp [hMl],?_⟩,?_⟩
      · refine OkD_ren (fun n => if n = q5 then 100 else if n = q then 101 else n - b.length) ?_
        simp only [List.map_cons,List.map_nil,renRk,renT,Nat.add_sub_cancel_left,Nat.sub_self,z0,z1,z2,z3,z4,eq_self,if_true,if_false]
        exact OkD_fast (by kernel_rfl)
      · rw [app_atL (by simp),List.flatMap_append]; simp [hMl,tv]
      · rw [hT2]
        exact (hT.ro (h.r5.ro hb5 (hkeep _ _))).app (tjs_cons (TJ.three (K := [([105,100] : List UInt8),([116,121,112,101] : List UInt8),([99,111,110,116,114,111,108,108,101,114] : List UInt8)]) (Ls := [⟨5,x.id,.nils,.nils⟩,⟨5,x.type,.nils,.nils⟩,⟨5,x.ctrl,.nils,.nils⟩]) (app_atL (by simp) _ 1) rfl (by decide) (app_atL (by simp) _ 2) rfl (tjs_cons (TJ.text _ _ n1) (tjs_cons (TJ.text _ _ n2) (tjs_cons (TJ.text _ _ n3) (tjs_nil _))))) (tjs_nil _))
      · rw [lkI_eq (show lk 33 _ = some (.int .i64 ((k + 1 : Nat) : Int)) from rfl)]; omega
  clear h
  rintro m ⟨t,b⟩ ⟨y,Ms,h,hT⟩
  simp only at h hT
  refine vcS_cutS 2200 (fun σ => ∃ y6 M6,EL bs [.str D.id,xa,xc,xm,xs] qk qi Ks Ls Js q5 q6 y y6 Ms M6 σ.t σ.b ∧ TJs σ.b (D.methods.map methJ) Ms ∧ TJs σ.b (D.services.map servJ) M6) ?_ (fun k' hk' => ?_)
  rotate_left
  · have m1 := h.es.l1
    have hb0 := h.es.b0
    have hM := rq_len d4
    have hQl : Q.length = D.services.length := by rw [← d6,List.length_map]
    simp only [lawG,↓Xn,↓Xo,↓Xg,↓Xd,↓Xe,↓Xf,Tryz.VΓ,Tryz.Γs,Xp,Xi,Nat.reduceAdd,Nat.reduceSub,Nat.reduceLT,Nat.reduceLeDiff,reduceIte,reduceCtorEq,Nat.reduceEqDiff,implies_true,forall_const,lawV,lawA,beq_self_eq_true,bne_self_eq_false,Int.reduceBEq,Int.reduceBNe,Int.reduceLT,Int.reduceLE,m1,hb0,c4,hM]
    refine loopV_mk (fun σ => ∃ (k : Nat) (y6 : SV) (M6 : List Tv),k ≤ Q.length ∧ EL bs [.str D.id,xa,xc,xm,xs] qk qi Ks Ls Js q5 q6 y y6 Ms M6 σ.t σ.b ∧ lk 56 σ.t = some xs ∧ lk 57 σ.t = some (.int .i64 Q.length) ∧ lk 58 σ.t = some (.int .i64 k) ∧ M6.length = k ∧ TJs σ.b (D.methods.map methJ) Ms ∧ TJs σ.b ((D.services.take k).map servJ) M6) (fun σ => Q.length - lkI 58 σ) ⟨0,.nils,[],by omega,h.mv ⟨⟨rfl,rfl,rfl⟩,rfl,rfl,rfl⟩,rfl,rfl,rfl,rfl,hT,by simp [TJs]⟩ ?_
    clear h m1 hb0 hT
    rintro ⟨t,b⟩ ⟨k,y6,M6,hk,h,h31,h32,h33,hMl,hTm,hT⟩
    simp only at h h31 h32 h33 hT hTm
    rw [lkI_eq h33]
    by_cases hlt : k < Q.length
    rotate_left
    · have hlt2 : decide ((k : Int) < Q.length) = false := decide_eq_false (by omega)
      simp only [lawG,↓Xn,↓Xo,↓Xg,↓Xd,↓Xe,↓Xf,Tryz.VΓ,Tryz.Γs,Xp,Xi,Nat.reduceAdd,Nat.reduceSub,Nat.reduceLT,Nat.reduceLeDiff,reduceIte,reduceCtorEq,Nat.reduceEqDiff,implies_true,forall_const,lawV,lawA,beq_self_eq_true,bne_self_eq_false,Int.reduceBEq,Int.reduceBNe,Int.reduceLT,Int.reduceLE,h31,h32,h33,hlt2]
      rw [List.take_of_length_le (by omega)] at hT
      refine hk' _ _ ?_
      exact ⟨y6,M6,h.mv ⟨⟨rfl,rfl,rfl⟩,rfl,rfl,rfl⟩,hTm,hT⟩
    have hlt2 : decide ((k : Int) < Q.length) = true := decide_eq_true (by omega)
    rcases d4 with ⟨-,hx0⟩ | ⟨i,rfl,hi⟩
    · rw [hx0] at hlt; simp at hlt
    have hbi := h.es.kp.at hi
    have hu : List.take 3 (List.drop (k * 3) (Q.flatMap sqc)) = [.str Q[k].m.id,Q[k].y1,Q[k].y2] := by rw [sqc_at _ k hlt]; rfl
    have hul := sqc_len Q
    have hltS : k < D.services.length := by omega
    have hqs : Q[k].m = D.services[k] := by
      have : (Q.map Sq.m)[k]'(by simpa using hlt) = D.services[k] := by simp only [d6]
      simpa using this
    obtain ⟨n1,⟨n2,n3⟩,n4,n5⟩ := hB.s _ (List.getElem_mem hltS)
    have hT2 : (D.services.take (k + 1)).map servJ = (D.services.take k).map servJ ++ [servJ D.services[k]] := by rw [List.take_succ_eq_append_getElem hltS,List.map_append]; rfl
    have hml := hB.sl
    obtain ⟨s1,s2⟩ := d5 _ (List.getElem_mem hlt)
    rw [← hqs] at n1 n2 n3 n4 n5 hT2
    generalize Q[k] = x at hu n1 n2 n3 n4 n5 hT2 s1 s2
    have p1 := p_dd_text x.m.id
    have u1 := s1.one
    have u2 := s2.one
    have hone2 : (Vc.one x.y1 && Vc.one x.y2) = true := by rw [u1,u2]; rfl
    have m5 := h.l6
    have hb5 := h.b6
    have hb5l := (List.getElem?_eq_some_iff.1 hb5).1
    have hset : ∀ (l : List Res) X,(b ++ l).set q6 X = b.set q6 X ++ l := fun l X => app_setL hb5l l X
    obtain ⟨v1,A1,hj1,t1⟩ := ar_dd_texts ((s1.ro h.es.kp.ro).ro ((Ro.refl b).app [.cells [.str x.m.id,x.y1,x.y2] 46 true])) n2 n3
    obtain ⟨v2,A2,hj2,t2⟩ := ar_dd_texts ((s2.ro h.es.kp.ro).ro ((Ro.refl b).app [.cells [.str x.m.id,x.y1,x.y2] 46 true,A1])) n4 n5
    obtain ⟨-,-,v13,v14⟩ := hj1.tin
    obtain ⟨-,-,v23,v24⟩ := hj2.tin
    have hob := sc_dd_objectX (bs := b ++ [.cells [.str x.m.id,x.y1,x.y2] 46 true,A1,A2,.own [.str ([105,100] : List UInt8),.str ([116,121,112,101] : List UInt8),.str ([115,101,114,118,105,99,101,69,110,100,112,111,105,110,116] : List UInt8)] 9 1 3 true,.own [.int .i64 5,.str x.m.id,.nils,.nils,.int .i64 v1.k,.str v1.t,v1.xk,v1.xi,.int .i64 v2.k,.str v2.t,v2.xk,v2.xi] 25 4 3 true]) (qx := b.length + 3) (qy := b.length + 4) (by omega) (app_at _ _ 3) (app_at _ _ 4)
    simp only [List.append_assoc,List.cons_append,List.nil_append] at t1 t2 hj1 hj2
    unfold tv at t1 t2
    rcases h.r6 with ⟨rfl,rfl⟩ | ⟨q,hq0,rfl,hqi,hqk,hqb,hbq⟩
    · obtain rfl : k = 0 := by simpa using hMl.symm
      simp only [lawG,↓Xn,↓Xo,↓Xg,↓Xd,↓Xe,↓Xf,Tryz.VΓ,Tryz.Γs,Xp,Xi,Nat.reduceAdd,Nat.reduceSub,Nat.reduceLT,Nat.reduceLeDiff,reduceIte,reduceCtorEq,Nat.reduceEqDiff,implies_true,forall_const,lawV,lawA,beq_self_eq_true,bne_self_eq_false,Int.reduceBEq,Int.reduceBNe,Int.reduceLT,Int.reduceLE,m5,h31,h32,h33,hlt2,hbi,hu,hul,hb5,at_old hb5,hset,u1,u2,hone2]
      refine ⟨⟨by omega,by omega⟩,by omega,permB_mk (by kernel_rfl),?_⟩
      (refine callD_pc (p1) ?_; simp only [lawG,↓Xn,↓Xo,↓Xg,↓Xd,↓Xe,↓Xf,Tryz.VΓ,Tryz.Γs,Xp,Xi,Nat.reduceAdd,Nat.reduceSub,Nat.reduceLT,Nat.reduceLeDiff,reduceIte,reduceCtorEq,Nat.reduceEqDiff,implies_true,forall_const,lawV,lawA,beq_self_eq_true,bne_self_eq_false,Int.reduceBEq,Int.reduceBNe,Int.reduceLT,Int.reduceLE,at_old hb5,hset,u1,u2])
      refine callD_scw [(b.length + 1,0,0)] t1 (outs1L [_] rfl _) ?_
      simp only [lawG,↓Xn,↓Xo,↓Xg,↓Xd,↓Xe,↓Xf,Tryz.VΓ,Tryz.Γs,Xp,Xi,Nat.reduceAdd,Nat.reduceSub,Nat.reduceLT,Nat.reduceLeDiff,reduceIte,reduceCtorEq,Nat.reduceEqDiff,implies_true,forall_const,lawV,lawA,beq_self_eq_true,bne_self_eq_false,Int.reduceBEq,Int.reduceBNe,Int.reduceLT,Int.reduceLE,m5,at_old hb5,hset,u1,u2]
      refine callD_scw [(b.length + 2,0,0)] t2 (outs1L [_,_] rfl _) ?_
      simp only [lawG,↓Xn,↓Xo,↓Xg,↓Xd,↓Xe,↓Xf,Tryz.VΓ,Tryz.Γs,Xp,Xi,Nat.reduceAdd,Nat.reduceSub,Nat.reduceLT,Nat.reduceLeDiff,reduceIte,reduceCtorEq,Nat.reduceEqDiff,implies_true,forall_const,lawV,lawA,beq_self_eq_true,bne_self_eq_false,Int.reduceBEq,Int.reduceBNe,Int.reduceLT,Int.reduceLE,m5,at_old hb5,hset,u1,u2,v13,v14,v23,v24]
      refine ⟨by decide,by decide,callD_scw [(b.length + 3,0,0),(b.length + 4,0,0)] hob (outs_sets _ _ _ _ _) ?_⟩
      simp only [lawG,↓Xn,↓Xo,↓Xg,↓Xd,↓Xe,↓Xf,Tryz.VΓ,Tryz.Γs,Xp,Xi,Nat.reduceAdd,Nat.reduceSub,Nat.reduceLT,Nat.reduceLeDiff,reduceIte,reduceCtorEq,Nat.reduceEqDiff,implies_true,forall_const,lawV,lawA,beq_self_eq_true,bne_self_eq_false,Int.reduceBEq,Int.reduceBNe,Int.reduceLT,Int.reduceLE,m5,h31,h32,h33,at_old hb5,hset]
      have z0 : ∀ m,(b.length + m = q6) = False := fun m => eq_false (by omega)
      have z1 : (b.length = q6) = False := eq_false (by omega)
      have hql := (List.getElem?_eq_some_iff.1 h.es.ob.bi).1
      have hql2 := (List.getElem?_eq_some_iff.1 h.es.ob.bk).1
      have hk4 := h.es.kp.1
      have hkeep : ∀ (X : Res) (l : List Res) i r,b[i]? = some r → i ≠ q6 → (∀ n,SV.nils ≠ .o i n) → (b.set q6 X ++ l)[i]? = some r := fun X l i r hi hn _ => at_old (get_setN hi (Ne.symm hn) _) _
      have hro : Ro b (b.set q6 (.cells [.int .i64 6,.str [],.nils,.o (b.length + 6) 1] 25 true)) := AS.setp.ro_p hb5 _
      refine ⟨by decide,⟨by decide,by decide⟩,?_,⟨by omega,by omega⟩,⟨1,.o (b.length + 6) 1,[⟨7,[],.o (b.length + 3) 3,.o (b.length + 4) 3⟩],by omega,EL.mv (EL.re6 h (by simp) (hkeep _ _) (get_setS hb5l _ _) (.inr ⟨b.length + 6,by simp,rfl,by omega,by omega,by omega,app_atL (by simp) _ 6⟩) (fun i n e => by cases e; omega)) ⟨⟨rfl,rfl,rfl⟩,rfl,rfl,rfl⟩,rfl,rfl,hTm.ro (h.r6.ro hb5 (hkeep _ _)),?_⟩,?_⟩
      · refine OkD_ren (fun n => if n = q6 then 100 else n - b.length) ?_
        simp only [List.map_cons,List.map_nil,renRk,renT,Nat.add_sub_cancel_left,Nat.sub_self,z0,z1,eq_self,if_true,if_false]
        exact OkD_fast (by kernel_rfl)
      · rw [hT2]
        exact tjs_cons (TJ.three (K := [([105,100] : List UInt8),([116,121,112,101] : List UInt8),([115,101,114,118,105,99,101,69,110,100,112,111,105,110,116] : List UInt8)]) (Ls := [⟨5,x.m.id,.nils,.nils⟩,v1,v2]) (app_atL (by simp) _ 3) rfl (by decide) (app_atL (by simp) _ 4) rfl (tjs_cons (TJ.text _ _ n1) (tjs_cons (hj1.ro (Ro.preD hro (by simp) [_,_] [_,_,_,_,_])) (tjs_cons (hj2.ro (Ro.preD hro (by simp) [_,_,_] [_,_,_,_])) (tjs_nil _))))) (tjs_nil _)
      · rw [lkI_eq (show lk 58 _ = some (.int .i64 ((1 : Nat) : Int)) from rfl)]; omega
    · have hql := (List.getElem?_eq_some_iff.1 hbq).1
      have hsq : ∀ (l : List Res) X,(b ++ l).set q X = b.set q X ++ l := fun l X => app_setL hql l X
      have hset2 : ∀ (l : List Res) Y X,(b.set q Y ++ l).set q6 X = (b.set q Y).set q6 X ++ l := fun l Y X => app_setL (by simpa using hb5l) l X
      have hq5 : q ≠ q6 := by rintro rfl; rw [hb5] at hbq; cases hbq
      have hbq1 := fun Y => at_old (get_setN hb5 hq5 Y)
      rw [hMl] at hbq
      simp only [lawG,↓Xn,↓Xo,↓Xg,↓Xd,↓Xe,↓Xf,Tryz.VΓ,Tryz.Γs,Xp,Xi,Nat.reduceAdd,Nat.reduceSub,Nat.reduceLT,Nat.reduceLeDiff,reduceIte,reduceCtorEq,Nat.reduceEqDiff,implies_true,forall_const,lawV,lawA,beq_self_eq_true,bne_self_eq_false,Int.reduceBEq,Int.reduceBNe,Int.reduceLT,Int.reduceLE,hMl,m5,h31,h32,h33,hlt2,hbi,hu,hul,hb5,at_old hb5,hset,u1,u2,hone2]
      refine ⟨⟨by omega,by omega⟩,by omega,permB_mk (by kernel_rfl),?_⟩
      (refine callD_pc (p1) ?_; simp only [lawG,↓Xn,↓Xo,↓Xg,↓Xd,↓Xe,↓Xf,Tryz.VΓ,Tryz.Γs,Xp,Xi,Nat.reduceAdd,Nat.reduceSub,Nat.reduceLT,Nat.reduceLeDiff,reduceIte,reduceCtorEq,Nat.reduceEqDiff,implies_true,forall_const,lawV,lawA,beq_self_eq_true,bne_self_eq_false,Int.reduceBEq,Int.reduceBNe,Int.reduceLT,Int.reduceLE,at_old hb5,hset,u1,u2])
      refine callD_scw [(b.length + 1,0,0)] t1 (outs1L [_] rfl _) ?_
      simp only [lawG,↓Xn,↓Xo,↓Xg,↓Xd,↓Xe,↓Xf,Tryz.VΓ,Tryz.Γs,Xp,Xi,Nat.reduceAdd,Nat.reduceSub,Nat.reduceLT,Nat.reduceLeDiff,reduceIte,reduceCtorEq,Nat.reduceEqDiff,implies_true,forall_const,lawV,lawA,beq_self_eq_true,bne_self_eq_false,Int.reduceBEq,Int.reduceBNe,Int.reduceLT,Int.reduceLE,m5,at_old hb5,hset,u1,u2]
      refine callD_scw [(b.length + 2,0,0)] t2 (outs1L [_,_] rfl _) ?_
      simp only [lawG,↓Xn,↓Xo,↓Xg,↓Xd,↓Xe,↓Xf,Tryz.VΓ,Tryz.Γs,Xp,Xi,Nat.reduceAdd,Nat.reduceSub,Nat.reduceLT,Nat.reduceLeDiff,reduceIte,reduceCtorEq,Nat.reduceEqDiff,implies_true,forall_const,lawV,lawA,beq_self_eq_true,bne_self_eq_false,Int.reduceBEq,Int.reduceBNe,Int.reduceLT,Int.reduceLE,m5,at_old hb5,hset,u1,u2,v13,v14,v23,v24]
      refine ⟨by decide,by decide,callD_scw [(b.length + 3,0,0),(b.length + 4,0,0)] hob (outs_sets _ _ _ _ _) ?_⟩
      simp only [lawG,↓Xn,↓Xo,↓Xg,↓Xd,↓Xe,↓Xf,Tryz.VΓ,Tryz.Γs,Xp,Xi,Nat.reduceAdd,Nat.reduceSub,Nat.reduceLT,Nat.reduceLeDiff,reduceIte,reduceCtorEq,Nat.reduceEqDiff,implies_true,forall_const,lawV,lawA,beq_self_eq_true,bne_self_eq_false,Int.reduceBEq,Int.reduceBNe,Int.reduceLT,Int.reduceLE,m5,h31,h32,h33,at_old hb5,at_old hbq,hset,hsq,hset2,hbq1]
      have z0 : ∀ m,(b.length + m = q6) = False := fun m => eq_false (by omega)
      have z1 : (b.length = q6) = False := eq_false (by omega)
      have z2 : ∀ m,(b.length + m = q) = False := fun m => eq_false (by omega)
      have z3 : (b.length = q) = False := eq_false (by omega)
      have z4 : (q = q6) = False := eq_false hq5
      have hkeep : ∀ (X : Res) (l : List Res) i r,b[i]? = some r → i ≠ q6 → (∀ n,SV.o q k ≠ .o i n) → ((b.set q .gone).set q6 X ++ l)[i]? = some r := fun X l i r hi hn hq => at_old (get_setN (get_setN hi (fun e => hq k (by rw [e])) _) (Ne.symm hn) _) _
      have hyl := (List.getElem?_eq_some_iff.1 h.es.ob.bi).1
      have hyl2 := (List.getElem?_eq_some_iff.1 h.es.ob.bk).1
      have hk4 := h.es.kp.1
      have hro : Ro b ((b.set q .gone).set q6 (.cells [.int .i64 6,.str [],.nils,.o (b.length + 6) (k + 1)] 25 true)) := ((Ro.refl b).setT hbq .gone).trans (AS.setp.ro_p (get_setN hb5 hq5 _) _)
      rw [hMl] at h
      refine ⟨by decide,⟨by unfold maxLen; omega,by omega⟩,?_,⟨by omega,by omega⟩,⟨k + 1,.o (b.length + 6) (k + 1),M6 ++ [⟨7,[],.o (b.length + 3) 3,.o (b.length + 4) 3⟩],by omega,EL.mv (EL.re6 h (by simp) (hkeep _ _) (get_setS (by simpa using hb5l) _ _) (.inr ⟨b.length + 6,by simp,by simp [hMl],by omega,by omega,by omega,?_⟩) (fun i n e => by cases e; omega)) ⟨⟨rfl,rfl,rfl⟩,rfl,rfl,rfl⟩,rfl,by simp [hMl],hTm.ro (h.r6.ro hb5 (hkeep _ _)),?_⟩,?_⟩
      · refine OkD_ren (fun n => if n = q6 then 100 else if n = q then 101 else n - b.length) ?_
        simp only [List.map_cons,List.map_nil,renRk,renT,Nat.add_sub_cancel_left,Nat.sub_self,z0,z1,z2,z3,z4,eq_self,if_true,if_false]
        exact OkD_fast (by kernel_rfl)
      · rw [app_atL (by simp),List.flatMap_append]; simp [hMl,tv]
      · rw [hT2]
        exact (hT.ro (h.r6.ro hb5 (hkeep _ _))).app (tjs_cons (TJ.three (K := [([105,100] : List UInt8),([116,121,112,101] : List UInt8),([115,101,114,118,105,99,101,69,110,100,112,111,105,110,116] : List UInt8)]) (Ls := [⟨5,x.m.id,.nils,.nils⟩,v1,v2]) (app_atL (by simp) _ 3) rfl (by decide) (app_atL (by simp) _ 4) rfl (tjs_cons (TJ.text _ _ n1) (tjs_cons (hj1.ro (Ro.preD hro (by simp) [_,_] [_,_,_,_,_])) (tjs_cons (hj2.ro (Ro.preD hro (by simp) [_,_,_] [_,_,_,_])) (tjs_nil _))))) (tjs_nil _))
      · rw [lkI_eq (show lk 58 _ = some (.int .i64 ((k + 1 : Nat) : Int)) from rfl)]; omega
  clear h hT
  rintro m ⟨t,b⟩ ⟨y6,M6,h,hTm,hTs⟩
  simp only at h hTm hTs
  have hMl := hTm.len
  have hM6 := hTs.len
  simp only [List.length_map] at hMl hM6
  have hml := hB.ml
  have hsl := hB.sl
  refine vcS_cutS 2100 (fun σ => ∃ qk qi Ls,ES bs [.str D.id,xa,xc,xm,xs] qk qi (Ks ++ memK ([118,101,114,105,102,105,99,97,116,105,111,110,77,101,116,104,111,100] : List UInt8) (D.methods.map methJ)) Ls (Js ++ memI (D.methods.map methJ)) σ.t σ.b ∧ lk 4 σ.t = some (.fn (.func 48) [.p (bs.length + 4) 0]) ∧ lk 6 σ.t = some (.p q6 0) ∧ σ.b[q6]? = some (.cells [.int .i64 6,.str [],.nils,y6] 25 true) ∧ RW (bs.length + 1) qk qi σ.b y6 M6 ∧ TJs σ.b (D.services.map servJ) M6) ?_ (fun k' hk' => ?_)
  rotate_left
  · have m4 := h.l4
    have m5 := h.l5
    have hb5 := h.b5
    have o5 := h.r5.one
    obtain ⟨b1,hsc,h1,hj,hl1,hk1⟩ := h.es.dull h.r5 hTm (by omega)
    have hLl1 := h1.js.len
    have hput := hsc _ _ _ (sc_dd_putJ h1.ob h1.js (by omega) (by omega) ([118,101,114,105,102,105,99,97,116,105,111,110,77,101,116,104,111,100] : List UInt8) hj)
    have hro1 := h.r5.ro h.b5 (b' := b1) (fun i r hi _ hn => hk1 i r hi hn)
    unfold tv at hput
    simp only [lawG,↓Xn,↓Xo,↓Xg,↓Xd,↓Xe,↓Xf,Tryz.VΓ,Tryz.Γs,Xp,Xi,Nat.reduceAdd,Nat.reduceSub,Nat.reduceLT,Nat.reduceLeDiff,reduceIte,reduceCtorEq,Nat.reduceEqDiff,implies_true,forall_const,lawV,lawA,beq_self_eq_true,bne_self_eq_false,Int.reduceBEq,Int.reduceBNe,Int.reduceLT,Int.reduceLE,m4,m5,hb5,o5]
    refine callV_sc hput ?_
    rintro r b2 ⟨rfl,qk',qi',Ls',g1,g2,g3,g4,g5⟩
    simp only [lawG,↓Xn,↓Xo,↓Xg,↓Xd,↓Xe,↓Xf,Tryz.VΓ,Tryz.Γs,Xp,Xi,Nat.reduceAdd,Nat.reduceSub,Nat.reduceLT,Nat.reduceLeDiff,reduceIte,reduceCtorEq,Nat.reduceEqDiff,implies_true,forall_const,lawV,lawA,beq_self_eq_true,bne_self_eq_false,Int.reduceBEq,Int.reduceBNe,Int.reduceLT,Int.reduceLE]
    have h61 := hk1 _ _ h.b6 (h.r5.nec h.b6)
    have hne : ∀ {c T m},b1[q6]? = some (.cells c T m) → q6 ≠ qk ∧ q6 ≠ qi := fun hc => ⟨(by rintro rfl; rw [h1.ob.bk] at hc; cases hc),(by rintro rfl; rw [h1.ob.bi] at hc; cases hc)⟩
    have h56 := h.h5
    have h566 := h.h6
    have h62 := g5.2 _ _ h61 (by omega) (hne h61).1 (hne h61).2
    refine hk' _ _ ?_
    refine ⟨qk',qi',Ls',(h1.put g1 g2 g3 g4 g5).mv ⟨rfl,rfl,rfl⟩,m4,h.l6,h62,?_,(hTs.ro hro1).ro (h1.ob.ro g5)⟩
    rcases h.r6 with e | ⟨q,e1,rfl,e3,e4,e5,e6⟩
    · exact .inl e
    · have e61 := hk1 _ _ e6 (fun n e => h.ne q n M6.length e rfl)
      have hql := (List.getElem?_eq_some_iff.1 e61).1
      have hq4 : q ≠ bs.length + 4 := by rintro rfl; rw [h1.ob.bq] at e61; cases e61
      exact .inr ⟨q,e1,rfl,by omega,by omega,e5,g5.2 _ _ e61 hq4 e4 e3⟩
  clear h hTm hTs hMl
  rintro m ⟨t,b⟩ ⟨qk,qi,Ls,h,h4,h6,hb6,hr6,hTs⟩
  simp only at h h4 h6 hb6 hr6 hTs
  have hKl1 : (memK ([118,101,114,105,102,105,99,97,116,105,111,110,77,101,116,104,111,100] : List UInt8) (D.methods.map methJ)).length ≤ 1 := by unfold memK; split <;> simp
  have hJl1 : (memI (D.methods.map methJ)).length ≤ 1 := by unfold memI; split <;> simp
  have hKl' : (Ks ++ memK ([118,101,114,105,102,105,99,97,116,105,111,110,77,101,116,104,111,100] : List UInt8) (D.methods.map methJ)).length ≤ 4 := by rw [List.length_append]; omega
  have hJl' : (Js ++ memI (D.methods.map methJ)).length ≤ 4 := by rw [List.length_append]; omega
  have hKs1 := keys_app (K := Ks) (key := ([118,101,114,105,102,105,99,97,116,105,111,110,77,101,116,104,111,100] : List UInt8)) (L := D.methods.map methJ) hKs0 (by decide)
  generalize Ks ++ memK ([118,101,114,105,102,105,99,97,116,105,111,110,77,101,116,104,111,100] : List UInt8) (D.methods.map methJ) = Ks at h hKl' hE hKs1
  generalize Js ++ memI (D.methods.map methJ) = Js at h hJl' hE
  refine vcS_cutS 2000 (fun σ => ∃ qk qi Ls,ES bs [.str D.id,xa,xc,xm,xs] qk qi (Ks ++ memK ([115,101,114,118,105,99,101] : List UInt8) (D.services.map servJ)) Ls (Js ++ memI (D.services.map servJ)) σ.t σ.b) ?_ (fun k' hk' => ?_)
  rotate_left
  · have o5 := hr6.one
    obtain ⟨b1,hsc,h1,hj,hl1,hk1⟩ := h.dull hr6 hTs (by omega)
    have hLl1 := h1.js.len
    have hput := hsc _ _ _ (sc_dd_putJ h1.ob h1.js (by omega) (by omega) ([115,101,114,118,105,99,101] : List UInt8) hj)
    unfold tv at hput
    simp only [lawG,↓Xn,↓Xo,↓Xg,↓Xd,↓Xe,↓Xf,Tryz.VΓ,Tryz.Γs,Xp,Xi,Nat.reduceAdd,Nat.reduceSub,Nat.reduceLT,Nat.reduceLeDiff,reduceIte,reduceCtorEq,Nat.reduceEqDiff,implies_true,forall_const,lawV,lawA,beq_self_eq_true,bne_self_eq_false,Int.reduceBEq,Int.reduceBNe,Int.reduceLT,Int.reduceLE,h4,h6,hb6,o5]
    refine callV_sc hput ?_
    rintro r b2 ⟨rfl,qk',qi',Ls',g1,g2,g3,g4,g5⟩
    simp only [lawG,↓Xn,↓Xo,↓Xg,↓Xd,↓Xe,↓Xf,Tryz.VΓ,Tryz.Γs,Xp,Xi,Nat.reduceAdd,Nat.reduceSub,Nat.reduceLT,Nat.reduceLeDiff,reduceIte,reduceCtorEq,Nat.reduceEqDiff,implies_true,forall_const,lawV,lawA,beq_self_eq_true,bne_self_eq_false,Int.reduceBEq,Int.reduceBNe,Int.reduceLT,Int.reduceLE]
    refine hk' _ _ ?_
    exact ⟨qk',qi',Ls',(h1.put g1 g2 g3 g4 g5).mv ⟨rfl,rfl,rfl⟩⟩
  clear h h4 h6 hb6 hr6 hTs
  rintro m ⟨t,b⟩ ⟨qk,qi,Ls,h⟩
  simp only at h
  have hKl2 : (memK ([115,101,114,118,105,99,101] : List UInt8) (D.services.map servJ)).length ≤ 1 := by unfold memK; split <;> simp
  have hJl2 : (memI (D.services.map servJ)).length ≤ 1 := by unfold memI; split <;> simp
  have hKl3 : (Ks ++ memK ([115,101,114,118,105,99,101] : List UInt8) (D.services.map servJ)).length ≤ 5 := by rw [List.length_append]; omega
  have hJl3 : (Js ++ memI (D.services.map servJ)).length ≤ 5 := by rw [List.length_append]; omega
  have hKs3 := keys_app (K := Ks) (key := ([115,101,114,118,105,99,101] : List UInt8)) (L := D.services.map servJ) hKs1 (by decide)
  generalize Ks ++ memK ([115,101,114,118,105,99,101] : List UInt8) (D.services.map servJ) = Ks at h hKl3 hE hKs3
  generalize Js ++ memI (D.services.map servJ) = Js at h hJl3 hE
  have m2 := h.l2
  have m3 := h.l3
  have hb1 := h.b1
  have hbq := h.ob.bq
  have hl1 := (List.getElem?_eq_some_iff.1 hb1).1
  have hg1 : ∀ X,(b.set (bs.length + 1) X)[bs.length + 1]? = some X := fun X => List.getElem?_set_self hl1
  simp only [lawG,↓Xn,↓Xo,↓Xg,↓Xd,↓Xe,↓Xf,Tryz.VΓ,Tryz.Γs,Xp,Xi,Nat.reduceAdd,Nat.reduceSub,Nat.reduceLT,Nat.reduceLeDiff,reduceIte,reduceCtorEq,Nat.reduceEqDiff,implies_true,forall_const,lawV,lawA,beq_self_eq_true,bne_self_eq_false,Int.reduceBEq,Int.reduceBNe,Int.reduceLT,Int.reduceLE,m2,m3,hb1,hbq,hg1]
  have hkp := kp_set1 h.kp (i := bs.length + 1) (by omega) (.cells [.int .i64 7,.str [],.o qk Ks.length,.o qi Ls.length] 25 true)
  have hro := (AS.setp.ro_p hb1 (.cells [.int .i64 7,.str [],.o qk Ks.length,.o qi Ls.length] 25 true)).trans (dimB_dim hkp.1).ro
  have hLl := h.js.len
  have hk4 := h.hk
  have hi4 := h.hi
  refine ⟨hkp.1,⟨7,[],.o qk Ks.length,.o qi Ls.length⟩,rfl,hkp.dimB,?_⟩
  rw [hE]
  refine TJ.mk' rfl rfl (by simp [Jv.t]) (.inr ⟨qk,rfl,?_⟩) (by simp only [Jv.K]; omega) hKs3 (by simp only [Jv.L]; omega) ⟨Ls,.inr ⟨qi,rfl,?_⟩,h.js.ro hro⟩
  · rw [dimB_at (by omega) (get_setN h.ob.bk (by omega) _)]; rfl
  · rw [dimB_at (by omega) (get_setN h.ob.bi (by omega) _)]; rfl
end Go.Proofs.YtejfjmcjicpodaaGreatDoor
/- What decoding gives is short. -/
set_option linter.all false
namespace Go.Proofs.YtejfjmcjicpodaaGreatDoor
open Go Vc Go.RowKit Wf
set_option linter.unusedSimpArgs false
theorem docOf_none {j : Jv} (h : (docOf j).2 ≠ 0) : (docOf j).1 = Docm.none := by
  unfold docOf at h ⊢
  split
  · split
    · split
      · rename_i h1 h2 h3
        rw [if_pos h1,if_pos h2,if_pos h3] at h
        exact absurd rfl h
      · rfl
    · rfl
  · rfl
theorem fine_le {D : Docm} {d : Did} (h : DocFine D d) : DocLe D := ⟨by have := h.also; omega,by have := h.ctrl; omega,by have := h.ml; omega,by have := h.sl; omega,fun s hs => by have := (h.s s hs).2; omega⟩
theorem docOf_le (j : Jv) : DocLe (docOf j).1 := by
  by_cases h : (docOf j).2 = 0
  · exact fine_le (doc_fine h)
  · rw [docOf_none h]
    exact ⟨by simp [Docm.none],by simp [Docm.none],by simp [Docm.none],by simp [Docm.none],by simp [Docm.none]⟩
end Go.Proofs.YtejfjmcjicpodaaGreatDoor
/- diddoc.Select. -/
set_option linter.all false
set_option maxRecDepth 20000
namespace Go.Proofs.YtejfjmcjicpodaaGreatDoor
open Go Vc Go.RowKit Wf
set_option linter.unusedSimpArgs false
def SelR (bs : List Res) (o : Option Jv) (r : SV) (b : List Res) : Prop := ∃ x,r = .tup [.agg (tv x),.bool o.isSome] ∧ Kp bs b ∧ TJ b (o.getD Jv.zero) x
structure DS (bs : List Res) (v : Tv) (id : Bytes) (q6 : Nat) (c : List SV) (t : List (Nat × SV)) (b : List Res) : Prop where
  l1 : lk 1 t = some (.str id)
  l4 : lk 4 t = some (.p (bs.length + 1) 0)
  l6 : lk 6 t = some (.p q6 0)
  kp : Kp bs b
  b0 : b[bs.length]? = some (.cells (tv v) 25 true)
  b1 : b[bs.length + 1]? = some (.cells [.int .i64 0,.str [],.nils,.nils] 25 true)
  hq : bs.length + 1 < q6
  b6 : b[q6]? = some (.cells c 34 true)
theorem JB.at' {B : Nat} {j : Jv} (hB : JB B j) (key : Bytes) : JB B (j.at key) := by
  unfold Jv.at
  cases hg : j.get key with
  | none => exact JB.leaf 0 (by simp)
  | some m =>
    obtain ⟨k,hk,e⟩ := List.mem_iff_getElem.1 (Jv.get_mem hg)
    show JB B m
    rw [← e]
    exact JBs.get hB.items hk
theorem DocR.ro' {a b : List Res} {c : List SV} {D : Docm} (h : DocR a c D) (k : Ro a b) : DocR b c D := by
  obtain ⟨xa,xc,xm,xs,Q,e,g1,g2,g3,g4,g5,g6⟩ := h
  exact ⟨xa,xc,xm,xs,Q,e,g1.ro k,g2.ro k,g3.ro k,g4.ro k,fun q hq => (g5 q hq).ro k,g6⟩
set_option maxHeartbeats 16000000 in
theorem sc_dd_Select {bs : List Res} {j : Jv} {v : Tv} (hv : TJ bs j v) (hB : JB 1000000 j) (id : Bytes) :
    SC Tryz.V 13 [.agg (tv v),.str id] bs (SelR bs (selM j id)) := by
  obtain ⟨v1,v2,v3,v4⟩ := hv.tin
  have ho : (one v.xk && one v.xi) = true := by rw [v3,v4]; rfl
  have hdec := fun X => sc_dd_Decode (hv.ro ((Ro.refl bs).app X))
  unfold tv at hdec
  refine sc_of 3000 Tryz.func13 rfl Tryz.ntmps13 Tryz.results13 Tryz.call13 (by simp) (fun β β' hb => concL_within bs.length _ (by simp [within,within.withinL,tv,v1,v2]) β β' hb) ?_
  unfold tv
  refine vcS_cutS 2900 (fun σ => lk 1 σ.t = some (.str id) ∧ lk 2 σ.t = some (.p bs.length 0) ∧ lk 4 σ.t = some (.p (bs.length + 1) 0) ∧ σ.b = bs ++ [.cells (tv v) 25 true,.cells [.int .i64 0,.str [],.nils,.nils] 25 true]) ?_ (fun k' hk' => ?_)
  rotate_left
  · simp only [lawG,↓Xn,↓Xo,↓Xg,↓Xd,↓Xe,↓Xf,Tryz.VΓ,Tryz.Γs,Xp,Xi,Nat.reduceAdd,Nat.reduceSub,Nat.reduceLT,Nat.reduceLeDiff,reduceIte,reduceCtorEq,Nat.reduceEqDiff,implies_true,forall_const,lawV,lawA,beq_self_eq_true,bne_self_eq_false,Int.reduceBEq,Int.reduceBNe,Int.reduceLT,Int.reduceLE,ho]
    exact hk' _ _ ⟨rfl,rfl,rfl,rfl⟩
  rintro m ⟨t,b⟩ ⟨h1,h2,h4,rfl⟩
  simp only at h1 h2 h4
  refine vcS_cutS 2800 (fun σ => ∃ q6 c,DS bs v id q6 c σ.t σ.b ∧ lk 2 σ.t = some (.p bs.length 0) ∧ lk 7 σ.t = some (.int .i64 (docOf j).2) ∧ DocR σ.b c (docOf j).1) ?_ (fun k' hk' => ?_)
  rotate_left
  · unfold tv
    simp only [lawG,↓Xn,↓Xo,↓Xg,↓Xd,↓Xe,↓Xf,Tryz.VΓ,Tryz.Γs,Xp,Xi,Nat.reduceAdd,Nat.reduceSub,Nat.reduceLT,Nat.reduceLeDiff,reduceIte,reduceCtorEq,Nat.reduceEqDiff,implies_true,forall_const,lawV,lawA,beq_self_eq_true,bne_self_eq_false,Int.reduceBEq,Int.reduceBNe,Int.reduceLT,Int.reduceLE,h1,h2,h4,ho]
    refine callV_sc (hdec _) ?_
    rintro r b ⟨c,rfl,hkk,hD⟩
    have hD' := hD
    obtain ⟨xa,xc,xm,xs,Q,rfl,d1,d2,d3,d4,d5,d6⟩ := hD
    have c1 := d1.one
    have c2 := d2.one
    have c3 := d3.one
    have c4 := d4.one
    have hl := hkk.1
    simp only [List.length_append,List.length_cons,List.length_nil] at hl
    simp only [lawG,↓Xn,↓Xo,↓Xg,↓Xd,↓Xe,↓Xf,Tryz.VΓ,Tryz.Γs,Xp,Xi,Nat.reduceAdd,Nat.reduceSub,Nat.reduceLT,Nat.reduceLeDiff,reduceIte,reduceCtorEq,Nat.reduceEqDiff,implies_true,forall_const,lawV,lawA,beq_self_eq_true,bne_self_eq_false,Int.reduceBEq,Int.reduceBNe,Int.reduceLT,Int.reduceLE,c1,c2,c3,c4,Bool.and_self]
    exact hk' _ _ ⟨b.length,_,⟨by simp [lk,h1],by simp [lk,h4],rfl,(((Kp.refl bs).app _).trans hkk).app _,at_old (hkk.at (app_at0 _ _)) _,at_old (hkk.at (app_at _ _ 1)) _,by omega,app_at0 _ _⟩,by simp [lk,h2],rfl,DocR.ro' hD' ((Ro.refl _).app _)⟩
  clear h1 h2 h4
  rintro m ⟨t,b⟩ ⟨q6,c,h,h2,h7,hD⟩
  simp only at h h2 h7 hD
  have fin : ∀ (b : List Res),Kp bs b → b[bs.length + 1]? = some (.cells [.int .i64 0,.str [],.nils,.nils] 25 true) → selM j id = none → SelR bs (selM j id) (.tup [.agg [.int .i64 0,.str [],.nils,.nils],.bool false]) (b.set (bs.length + 1) (.cells [.int .i64 0,.str [],.nils,.nils] 25 true)) := fun b hk hb hn => by
    rw [hn]
    exact ⟨⟨0,[],.nils,.nils⟩,rfl,kp_set1 hk (by omega) _,TJ.zero _⟩
  by_cases he : (docOf j).2 = 0
  rotate_left
  · have hb : ((docOf j).2 != 0) = true := by simp [he]
    have hb1 := h.b1
    have hl1 := (List.getElem?_eq_some_iff.1 hb1).1
    have hg1 : ∀ X,(b.set (bs.length + 1) X)[bs.length + 1]? = some X := fun X => List.getElem?_set_self hl1
    have m4 := h.l4
    simp only [lawG,↓Xn,↓Xo,↓Xg,↓Xd,↓Xe,↓Xf,Tryz.VΓ,Tryz.Γs,Xp,Xi,Nat.reduceAdd,Nat.reduceSub,Nat.reduceLT,Nat.reduceLeDiff,reduceIte,reduceCtorEq,Nat.reduceEqDiff,implies_true,forall_const,lawV,lawA,beq_self_eq_true,bne_self_eq_false,Int.reduceBEq,Int.reduceBNe,Int.reduceLT,Int.reduceLE,h7,hb,m4,hb1,hg1]
    exact fin b h.kp hb1 (by unfold selM; rw [if_neg he])
  obtain ⟨o1,o2,o3,o4,o5,o6⟩ := doc_ok he
  rw [o2] at hD
  rw [he] at h7
  obtain ⟨xa,xc,xm,xs,Q,rfl,d1,d2,d3,d4,d5,d6⟩ := hD
  simp only [docM] at d3 d6
  rw [o3] at d3
  rw [o4] at d6
  have hsel : selM j id = (match selF (didParse (j.at ([105,100] : List UInt8)).t).1 id (j.at ([118,101,114,105,102,105,99,97,116,105,111,110,77,101,116,104,111,100] : List UInt8)).L with
    | some x => some x
    | none => selF (didParse (j.at ([105,100] : List UInt8)).t).1 id (j.at ([115,101,114,118,105,99,101] : List UInt8)).L) := by
    unfold selM
    rw [if_pos he]
    first | done | (cases selF (didParse (j.at ([105,100] : List UInt8)).t).1 id (j.at ([118,101,114,105,102,105,99,97,116,105,111,110,77,101,116,104,111,100] : List UInt8)).L <;> rfl)
  generalize (didParse (j.at ([105,100] : List UInt8)).t).1 = d at *
  generalize hc : ([.str (docM d j).id,xa,xc,xm,xs] : List SV) = c at h
  have hvb := hv.ro h.kp.ro
  have hBm := (JB.at' hB ([118,101,114,105,102,105,99,97,116,105,111,110,77,101,116,104,111,100] : List UInt8)).keys.2.2.2
  have hBs := (JB.at' hB ([115,101,114,118,105,99,101] : List UInt8)).keys.2.2.2
  have hb0b := h.b0
  have hb1b := h.b1
  have hb6b := h.b6
  have hq6 := h.hq
  have hkb := h.kp
  refine vcS_cutS 2700 (fun σ => lk 1 σ.t = some (.str id) ∧ lk 2 σ.t = some (.p bs.length 0) ∧ lk 4 σ.t = some (.p (bs.length + 1) 0) ∧ lk 6 σ.t = some (.p q6 0) ∧ σ.b = b) ?_ (fun k' hk' => ?_)
  rotate_left
  · simp only [lawG,↓Xn,↓Xo,↓Xg,↓Xd,↓Xe,↓Xf,Tryz.VΓ,Tryz.Γs,Xp,Xi,Nat.reduceAdd,Nat.reduceSub,Nat.reduceLT,Nat.reduceLeDiff,reduceIte,reduceCtorEq,Nat.reduceEqDiff,implies_true,forall_const,lawV,lawA,beq_self_eq_true,bne_self_eq_false,Int.reduceBEq,Int.reduceBNe,Int.reduceLT,Int.reduceLE,h7]
    exact hk' _ _ ⟨by simp [lk,h.l1],by simp [lk,h2],by simp [lk,h.l4],by simp [lk,h.l6],rfl⟩
  clear h h2 h7
  rintro m ⟨t,b⟩ ⟨h1,h2,h4,h6,rfl⟩
  simp only at h1 h2 h4 h6
  refine vcS_cutS 2600 (fun σ => lk 1 σ.t = some (.str id) ∧ lk 4 σ.t = some (.p (bs.length + 1) 0) ∧ lk 6 σ.t = some (.p q6 0) ∧ lk 8 σ.t = some (.fn (.func 40) [.p bs.length 0]) ∧ σ.b = b) ?_ (fun k' hk' => ?_)
  rotate_left
  · simp only [lawG,↓Xn,↓Xo,↓Xg,↓Xd,↓Xe,↓Xf,Tryz.VΓ,Tryz.Γs,Xp,Xi,Nat.reduceAdd,Nat.reduceSub,Nat.reduceLT,Nat.reduceLeDiff,reduceIte,reduceCtorEq,Nat.reduceEqDiff,implies_true,forall_const,lawV,lawA,beq_self_eq_true,bne_self_eq_false,Int.reduceBEq,Int.reduceBNe,Int.reduceLT,Int.reduceLE,h2]
    exact hk' _ _ ⟨by simp [lk,h1],by simp [lk,h4],by simp [lk,h6],rfl,rfl⟩
  clear h1 h2 h4 h6
  rintro m ⟨t,b⟩ ⟨h1,h4,h6,h8,rfl⟩
  simp only at h1 h4 h6 h8
  subst hc
  have hM3 := d3.len
  simp only [List.length_map] at hM3
  have c1 := d1.one
  have c2 := d2.one
  have c3 := d3.one
  have c4 := d4.one
  refine vcS_cutS 2500 (fun σ => lk 1 σ.t = some (.str id) ∧ lk 4 σ.t = some (.p (bs.length + 1) 0) ∧ lk 6 σ.t = some (.p q6 0) ∧ lk 8 σ.t = some (.fn (.func 40) [.p bs.length 0]) ∧ Kp b σ.b ∧ ∀ (q : Nat) (hq : q < (j.at ([118,101,114,105,102,105,99,97,116,105,111,110,77,101,116,104,111,100] : List UInt8)).L.length),idT d (j.at ([118,101,114,105,102,105,99,97,116,105,111,110,77,101,116,104,111,100] : List UInt8)).L[q] ≠ id) ?_ (fun k' hk' => ?_)
  rotate_left
  · simp only [lawG,↓Xn,↓Xo,↓Xg,↓Xd,↓Xe,↓Xf,Tryz.VΓ,Tryz.Γs,Xp,Xi,Nat.reduceAdd,Nat.reduceSub,Nat.reduceLT,Nat.reduceLeDiff,reduceIte,reduceCtorEq,Nat.reduceEqDiff,implies_true,forall_const,lawV,lawA,beq_self_eq_true,bne_self_eq_false,Int.reduceBEq,Int.reduceBNe,Int.reduceLT,Int.reduceLE,h6,hb6b,c3,hM3]
    refine loopV_mk (fun σ => ∃ k : Nat,k ≤ (j.at ([118,101,114,105,102,105,99,97,116,105,111,110,77,101,116,104,111,100] : List UInt8)).L.length ∧ lk 1 σ.t = some (.str id) ∧ lk 4 σ.t = some (.p (bs.length + 1) 0) ∧ lk 6 σ.t = some (.p q6 0) ∧ lk 8 σ.t = some (.fn (.func 40) [.p bs.length 0]) ∧ lk 23 σ.t = some xm ∧ lk 24 σ.t = some (.int .i64 (j.at ([118,101,114,105,102,105,99,97,116,105,111,110,77,101,116,104,111,100] : List UInt8)).L.length) ∧ lk 25 σ.t = some (.int .i64 k) ∧ Kp b σ.b ∧ ∀ (q : Nat) (hq : q < (j.at ([118,101,114,105,102,105,99,97,116,105,111,110,77,101,116,104,111,100] : List UInt8)).L.length),q < k → idT d (j.at ([118,101,114,105,102,105,99,97,116,105,111,110,77,101,116,104,111,100] : List UInt8)).L[q] ≠ id) (fun σ => (j.at ([118,101,114,105,102,105,99,97,116,105,111,110,77,101,116,104,111,100] : List UInt8)).L.length - lkI 25 σ) ⟨0,by omega,by simp [lk,h1],by simp [lk,h4],by simp [lk,h6],by simp [lk,h8],rfl,rfl,rfl,Kp.refl _,fun q _ h => absurd h (by omega)⟩ ?_
    clear h1 h4 h6 h8
    rintro ⟨t,b'⟩ ⟨k,hk,h1,h4,h6,h8,h23,h24,h25,hkk,hn⟩
    simp only at h1 h4 h6 h8 h23 h24 h25 hkk
    rw [lkI_eq h25]
    by_cases hlt : k < (j.at ([118,101,114,105,102,105,99,97,116,105,111,110,77,101,116,104,111,100] : List UInt8)).L.length
    rotate_left
    · have hlt2 : decide ((k : Int) < (j.at ([118,101,114,105,102,105,99,97,116,105,111,110,77,101,116,104,111,100] : List UInt8)).L.length) = false := decide_eq_false (by omega)
      simp only [lawG,↓Xn,↓Xo,↓Xg,↓Xd,↓Xe,↓Xf,Tryz.VΓ,Tryz.Γs,Xp,Xi,Nat.reduceAdd,Nat.reduceSub,Nat.reduceLT,Nat.reduceLeDiff,reduceIte,reduceCtorEq,Nat.reduceEqDiff,implies_true,forall_const,lawV,lawA,beq_self_eq_true,bne_self_eq_false,Int.reduceBEq,Int.reduceBNe,Int.reduceLT,Int.reduceLE,h23,h24,h25,hlt2]
      exact hk' _ _ ⟨by simp [lk,h1],by simp [lk,h4],by simp [lk,h6],by simp [lk,h8],hkk,fun q hq => hn q hq (by omega)⟩
    have hlt2 : decide ((k : Int) < (j.at ([118,101,114,105,102,105,99,97,116,105,111,110,77,101,116,104,111,100] : List UInt8)).L.length) = true := decide_eq_true (by omega)
    rcases d3 with ⟨-,hx0⟩ | ⟨i,hi1,hi⟩
    · simp at hx0; rw [hx0] at hlt; simp at hlt
    have hbi := hkk.at hi
    have hMl : k < ((j.at ([118,101,114,105,102,105,99,97,116,105,111,110,77,101,116,104,111,100] : List UInt8)).L.map (methM d)).length := by simpa using hlt
    have hu : List.take 3 (List.drop (k * 3) (((j.at ([118,101,114,105,102,105,99,97,116,105,111,110,77,101,116,104,111,100] : List UInt8)).L.map (methM d)).flatMap mc)) = [.str (idT d (j.at ([118,101,114,105,102,105,99,97,116,105,111,110,77,101,116,104,111,100] : List UInt8)).L[k]),.str ((j.at ([118,101,114,105,102,105,99,97,116,105,111,110,77,101,116,104,111,100] : List UInt8)).L[k].at ([116,121,112,101] : List UInt8)).t,.str ((j.at ([118,101,114,105,102,105,99,97,116,105,111,110,77,101,116,104,111,100] : List UInt8)).L[k].at ([99,111,110,116,114,111,108,108,101,114] : List UInt8)).t] := by
      rw [mc_at _ k hMl]; simp [methM,mc]
    have hul := mc_len ((j.at ([118,101,114,105,102,105,99,97,116,105,111,110,77,101,116,104,111,100] : List UInt8)).L.map (methM d))
    simp only [List.length_map] at hul hi1
    rw [hi1] at h23
    cases hid : idT d (j.at ([118,101,114,105,102,105,99,97,116,105,111,110,77,101,116,104,111,100] : List UInt8)).L[k] == id
    · simp only [lawG,↓Xn,↓Xo,↓Xg,↓Xd,↓Xe,↓Xf,Tryz.VΓ,Tryz.Γs,Xp,Xi,Nat.reduceAdd,Nat.reduceSub,Nat.reduceLT,Nat.reduceLeDiff,reduceIte,reduceCtorEq,Nat.reduceEqDiff,implies_true,forall_const,lawV,lawA,beq_self_eq_true,bne_self_eq_false,Int.reduceBEq,Int.reduceBNe,Int.reduceLT,Int.reduceLE,h1,h23,h24,h25,hlt2,hbi,hu,hul,hid]
      refine ⟨⟨List.length_map ..,by omega,by omega⟩,by omega,by omega,⟨k + 1,by omega,h4,h6,h8,hi1.symm,rfl,hkk.app _,fun q hq hqk => ?_⟩,?_⟩
      · by_cases hqe : q = k
        · subst hqe
          intro e; rw [e] at hid; simp at hid
        · exact hn q hq (by omega)
      · rw [lkI_eq (k := .i64) (n := (k : Int) + 1) rfl]; omega
    · have hsome : selM j id = some (j.at ([118,101,114,105,102,105,99,97,116,105,111,110,77,101,116,104,111,100] : List UInt8)).L[k] := by
        rw [hsel,selF_at hlt (fun q hq => hn q (by omega) hq) (by simpa using hid)]
      simp only [lawG,↓Xn,↓Xo,↓Xg,↓Xd,↓Xe,↓Xf,Tryz.VΓ,Tryz.Γs,Xp,Xi,Nat.reduceAdd,Nat.reduceSub,Nat.reduceLT,Nat.reduceLeDiff,reduceIte,reduceCtorEq,Nat.reduceEqDiff,implies_true,forall_const,lawV,lawA,beq_self_eq_true,bne_self_eq_false,Int.reduceBEq,Int.reduceBNe,Int.reduceLT,Int.reduceLE,h1,h8,h23,h24,h25,hlt2,hbi,hu,hul,hid]
      refine ⟨⟨List.length_map ..,by omega,by omega⟩,by omega,callV_sc (sc_dd_place (hvb.ro (hkk.ro.app _)) hB (at_old (hkk.at hb0b) _) ([118,101,114,105,102,105,99,97,116,105,111,110,77,101,116,104,111,100] : List UInt8) hlt) ?_⟩
      rintro r b2 ⟨x,rfl,hk2,hjx⟩
      have hb1'' := hk2.at (at_old (hkk.at hb1b) [.cells [.str (idT d (j.at ([118,101,114,105,102,105,99,97,116,105,111,110,77,101,116,104,111,100] : List UInt8)).L[k]),.str ((j.at ([118,101,114,105,102,105,99,97,116,105,111,110,77,101,116,104,111,100] : List UInt8)).L[k].at ([116,121,112,101] : List UInt8)).t,.str ((j.at ([118,101,114,105,102,105,99,97,116,105,111,110,77,101,116,104,111,100] : List UInt8)).L[k].at ([99,111,110,116,114,111,108,108,101,114] : List UInt8)).t] 48 true])
      have hl1 := (List.getElem?_eq_some_iff.1 hb1'').1
      have hg1 : ∀ X,(b2.set (bs.length + 1) X)[bs.length + 1]? = some X := fun X => List.getElem?_set_self hl1
      obtain ⟨-,-,z3,z4⟩ := hjx.tin
      have hzo : (one x.xk && one x.xi) = true := by rw [z3,z4]; rfl
      unfold tv
      simp only [lawG,↓Xn,↓Xo,↓Xg,↓Xd,↓Xe,↓Xf,Tryz.VΓ,Tryz.Γs,Xp,Xi,Nat.reduceAdd,Nat.reduceSub,Nat.reduceLT,Nat.reduceLeDiff,reduceIte,reduceCtorEq,Nat.reduceEqDiff,implies_true,forall_const,lawV,lawA,beq_self_eq_true,bne_self_eq_false,Int.reduceBEq,Int.reduceBNe,Int.reduceLT,Int.reduceLE,h4,hb1'',hg1,hzo]
      rw [hsome]
      exact ⟨x,rfl,kp_set1 (((hkb.trans hkk).app _).trans hk2) (by omega) _,hjx.ro ((Ro.refl b2).set (fun c e z n hx => by rw [hb1''] at hx; cases hx) _)⟩
  clear h1 h4 h6 h8 d3 hM3
  rintro m ⟨t,b'⟩ ⟨h1,h4,h6,h8,hkk,hnm⟩
  simp only at h1 h4 h6 h8 hkk
  have hselS : selM j id = selF d id (j.at ([115,101,114,118,105,99,101] : List UInt8)).L := by
    rw [hsel,selF_none hnm]
  have hvb' := hvb.ro hkk.ro
  have hb0b' := hkk.at hb0b
  have hb1b' := hkk.at hb1b
  have hb6b' := hkk.at hb6b
  have hkb' := hkb.trans hkk
  have d4' := d4.ro hkk.ro
  clear hkk hvb hb0b hb1b hb6b hkb d4 d1 d2
  have hS3 := d4'.len
  have hQl : Q.length = (j.at ([115,101,114,118,105,99,101] : List UInt8)).L.length := by rw [← List.length_map (f := Sq.m),d6,List.length_map]
  rw [hQl] at hS3
  refine vcS_cutS 2400 (fun σ => lk 4 σ.t = some (.p (bs.length + 1) 0) ∧ Kp b' σ.b ∧ ∀ (q : Nat) (hq : q < (j.at ([115,101,114,118,105,99,101] : List UInt8)).L.length),idT d (j.at ([115,101,114,118,105,99,101] : List UInt8)).L[q] ≠ id) ?_ (fun k' hk' => ?_)
  rotate_left
  · simp only [lawG,↓Xn,↓Xo,↓Xg,↓Xd,↓Xe,↓Xf,Tryz.VΓ,Tryz.Γs,Xp,Xi,Nat.reduceAdd,Nat.reduceSub,Nat.reduceLT,Nat.reduceLeDiff,reduceIte,reduceCtorEq,Nat.reduceEqDiff,implies_true,forall_const,lawV,lawA,beq_self_eq_true,bne_self_eq_false,Int.reduceBEq,Int.reduceBNe,Int.reduceLT,Int.reduceLE,h6,hb6b',c4,hS3]
    refine loopV_mk (fun σ => ∃ k : Nat,k ≤ (j.at ([115,101,114,118,105,99,101] : List UInt8)).L.length ∧ lk 1 σ.t = some (.str id) ∧ lk 4 σ.t = some (.p (bs.length + 1) 0) ∧ lk 8 σ.t = some (.fn (.func 40) [.p bs.length 0]) ∧ lk 41 σ.t = some xs ∧ lk 42 σ.t = some (.int .i64 (j.at ([115,101,114,118,105,99,101] : List UInt8)).L.length) ∧ lk 43 σ.t = some (.int .i64 k) ∧ Kp b' σ.b ∧ ∀ (q : Nat) (hq : q < (j.at ([115,101,114,118,105,99,101] : List UInt8)).L.length),q < k → idT d (j.at ([115,101,114,118,105,99,101] : List UInt8)).L[q] ≠ id) (fun σ => (j.at ([115,101,114,118,105,99,101] : List UInt8)).L.length - lkI 43 σ) ⟨0,by omega,by simp [lk,h1],by simp [lk,h4],by simp [lk,h8],rfl,rfl,rfl,Kp.refl _,fun q _ h => absurd h (by omega)⟩ ?_
    clear h1 h4 h6 h8
    rintro ⟨t,b2⟩ ⟨k,hk,h1,h4,h8,h41,h42,h43,hkk,hn⟩
    simp only at h1 h4 h8 h41 h42 h43 hkk
    rw [lkI_eq h43]
    by_cases hlt : k < (j.at ([115,101,114,118,105,99,101] : List UInt8)).L.length
    rotate_left
    · have hlt2 : decide ((k : Int) < (j.at ([115,101,114,118,105,99,101] : List UInt8)).L.length) = false := decide_eq_false (by omega)
      simp only [lawG,↓Xn,↓Xo,↓Xg,↓Xd,↓Xe,↓Xf,Tryz.VΓ,Tryz.Γs,Xp,Xi,Nat.reduceAdd,Nat.reduceSub,Nat.reduceLT,Nat.reduceLeDiff,reduceIte,reduceCtorEq,Nat.reduceEqDiff,implies_true,forall_const,lawV,lawA,beq_self_eq_true,bne_self_eq_false,Int.reduceBEq,Int.reduceBNe,Int.reduceLT,Int.reduceLE,h41,h42,h43,hlt2]
      exact hk' _ _ ⟨by simp [lk,h4],hkk,fun q hq => hn q hq (by omega)⟩
    have hlt2 : decide ((k : Int) < (j.at ([115,101,114,118,105,99,101] : List UInt8)).L.length) = true := decide_eq_true (by omega)
    rcases d4' with ⟨-,hx0⟩ | ⟨i,hi1,hi⟩
    · rw [hx0] at hQl; simp at hQl; omega
    have hbi := hkk.at hi
    have hkQ : k < Q.length := by omega
    have hidQ : Q[k].m.id = idT d (j.at ([115,101,114,118,105,99,101] : List UInt8)).L[k] := by
      have : (Q.map Sq.m)[k]'(by simpa using hkQ) = ((j.at ([115,101,114,118,105,99,101] : List UInt8)).L.map (servM d))[k]'(by simpa using hlt) := by simp only [d6]
      simp only [List.getElem_map] at this
      rw [this]; rfl
    have hu : List.take 3 (List.drop (k * 3) (Q.flatMap sqc)) = [.str (idT d (j.at ([115,101,114,118,105,99,101] : List UInt8)).L[k]),Q[k].y1,Q[k].y2] := by
      rw [sqc_at _ k hkQ,sqc,hidQ]
    have hul := sqc_len Q
    rw [hi1,hQl] at h41
    rw [hQl] at hul
    have ones : one Q[k].y1 = true ∧ one Q[k].y2 = true := by
      obtain ⟨g1,g2⟩ := d5 _ (List.getElem_mem hkQ)
      exact ⟨g1.one,g2.one⟩
    have hoq : (one Q[k].y1 && one Q[k].y2) = true := by rw [ones.1,ones.2]; rfl
    cases hid : idT d (j.at ([115,101,114,118,105,99,101] : List UInt8)).L[k] == id
    · simp only [lawG,↓Xn,↓Xo,↓Xg,↓Xd,↓Xe,↓Xf,Tryz.VΓ,Tryz.Γs,Xp,Xi,Nat.reduceAdd,Nat.reduceSub,Nat.reduceLT,Nat.reduceLeDiff,reduceIte,reduceCtorEq,Nat.reduceEqDiff,implies_true,forall_const,lawV,lawA,beq_self_eq_true,bne_self_eq_false,Int.reduceBEq,Int.reduceBNe,Int.reduceLT,Int.reduceLE,h1,h41,h42,h43,hlt2,hbi,hu,hul,hid,hoq]
      refine ⟨⟨hQl,by omega,by omega⟩,by omega,by omega,⟨k + 1,by omega,h4,h8,by rw [hi1,hQl],rfl,hkk.app _,fun q hq hqk => ?_⟩,?_⟩
      · by_cases hqe : q = k
        · subst hqe
          intro e; rw [e] at hid; simp at hid
        · exact hn q hq (by omega)
      · rw [lkI_eq (k := .i64) (n := (k : Int) + 1) rfl]; omega
    · have hsome : selM j id = some (j.at ([115,101,114,118,105,99,101] : List UInt8)).L[k] := by
        rw [hselS,selF_at hlt (fun q hq => hn q (by omega) hq) (by simpa using hid)]
      simp only [lawG,↓Xn,↓Xo,↓Xg,↓Xd,↓Xe,↓Xf,Tryz.VΓ,Tryz.Γs,Xp,Xi,Nat.reduceAdd,Nat.reduceSub,Nat.reduceLT,Nat.reduceLeDiff,reduceIte,reduceCtorEq,Nat.reduceEqDiff,implies_true,forall_const,lawV,lawA,beq_self_eq_true,bne_self_eq_false,Int.reduceBEq,Int.reduceBNe,Int.reduceLT,Int.reduceLE,h1,h8,h41,h42,h43,hlt2,hbi,hu,hul,hid,hoq]
      refine ⟨⟨hQl,by omega,by omega⟩,by omega,callV_sc (sc_dd_place (hvb'.ro (hkk.ro.app _)) hB (at_old (hkk.at hb0b') _) ([115,101,114,118,105,99,101] : List UInt8) hlt) ?_⟩
      rintro r b3 ⟨x,rfl,hk2,hjx⟩
      have hb1'' := hk2.at (at_old (hkk.at hb1b') [.cells [.str (idT d (j.at ([115,101,114,118,105,99,101] : List UInt8)).L[k]),Q[k].y1,Q[k].y2] 46 true])
      have hl1 := (List.getElem?_eq_some_iff.1 hb1'').1
      have hg1 : ∀ X,(b3.set (bs.length + 1) X)[bs.length + 1]? = some X := fun X => List.getElem?_set_self hl1
      obtain ⟨-,-,z3,z4⟩ := hjx.tin
      have hzo : (one x.xk && one x.xi) = true := by rw [z3,z4]; rfl
      unfold tv
      simp only [lawG,↓Xn,↓Xo,↓Xg,↓Xd,↓Xe,↓Xf,Tryz.VΓ,Tryz.Γs,Xp,Xi,Nat.reduceAdd,Nat.reduceSub,Nat.reduceLT,Nat.reduceLeDiff,reduceIte,reduceCtorEq,Nat.reduceEqDiff,implies_true,forall_const,lawV,lawA,beq_self_eq_true,bne_self_eq_false,Int.reduceBEq,Int.reduceBNe,Int.reduceLT,Int.reduceLE,h4,hb1'',hg1,hzo]
      rw [hsome]
      exact ⟨x,rfl,kp_set1 (((hkb'.trans hkk).app _).trans hk2) (by omega) _,hjx.ro ((Ro.refl b3).set (fun c e z n hx => by rw [hb1''] at hx; cases hx) _)⟩
  rintro m ⟨t,b2⟩ ⟨h4,hkk,hns⟩
  simp only at h4 hkk
  have hb1'' := hkk.at hb1b'
  have hl1 := (List.getElem?_eq_some_iff.1 hb1'').1
  have hg1 : ∀ X,(b2.set (bs.length + 1) X)[bs.length + 1]? = some X := fun X => List.getElem?_set_self hl1
  simp only [lawG,↓Xn,↓Xo,↓Xg,↓Xd,↓Xe,↓Xf,Tryz.VΓ,Tryz.Γs,Xp,Xi,Nat.reduceAdd,Nat.reduceSub,Nat.reduceLT,Nat.reduceLeDiff,reduceIte,reduceCtorEq,Nat.reduceEqDiff,implies_true,forall_const,lawV,lawA,beq_self_eq_true,bne_self_eq_false,Int.reduceBEq,Int.reduceBNe,Int.reduceLT,Int.reduceLE,h4,hb1'',hg1]
  exact fin b2 (hkb'.trans hkk) hb1'' (by rw [hselS,selF_none hns])
end Go.Proofs.YtejfjmcjicpodaaGreatDoor
/- Bounds on decoded documents. -/
set_option linter.all false
set_option maxRecDepth 20000
namespace Go.Proofs.YtejfjmcjicpodaaGreatDoor
open Go Vc Go.RowKit Wf
set_option linter.unusedSimpArgs false
theorem arrL_mem {m x : Jv} (h : x ∈ arrL m) : x ∈ m.L := by
  unfold arrL at h
  split at h
  · split at h
    · cases h
    · exact h
  · cases h
theorem JBs.mem {B : Nat} {L : List Jv} (h : JBs B L) {x : Jv} (hx : x ∈ L) : JB B x := by
  obtain ⟨k,hk,rfl⟩ := List.mem_iff_getElem.1 hx
  exact JBs.get h hk
theorem JB.get_ {B : Nat} {j m : Jv} (h : JB B j) {key : Bytes} (hg : j.get key = some m) : JB B m := h.items.mem (Jv.get_mem hg)
theorem JB.more {B : Nat} {m : Jv} (h : JB B m) : ∀ s ∈ moreL m,s.length ≤ B := fun s hs => by
  unfold moreL at hs
  split at hs
  · rw [List.mem_singleton] at hs; rw [hs]; exact h.keys.1
  · obtain ⟨x,hx,rfl⟩ := List.mem_map.1 hs
    exact (h.items.mem (arrL_mem hx)).keys.1
theorem JB.list {B : Nat} {v x : Jv} (h : JB B v) {key : Bytes} (hx : x ∈ listL v key) : JB B x := by
  unfold listL at hx
  cases hg : v.get key with
  | none => rw [hg] at hx; cases hx
  | some m => rw [hg] at hx; exact (h.get_ hg).items.mem (arrL_mem hx)
theorem idT_len (d : Did) (x : Jv) : (idT d x).length ≤ 4096 := by
  unfold idT
  split
  · rename_i h
    obtain ⟨s,hs⟩ := resolve_can h
    have := didUrl_can hs
    omega
  · simp
theorem doc_b {j : Jv} (h : (docOf j).2 = 0) (hB : JB 1000000 j) : DocB (docOf j).1 := by
  have hf := doc_fine h
  obtain ⟨o1,o2,o3,o4,o5,o6⟩ := doc_ok h
  obtain ⟨-,hcl,hc4,-⟩ := did_can (s := (j.at ([105,100] : List UInt8)).t) (d := (didParse (j.at ([105,100] : List UInt8)).t).1) (by rw [← o1])
  rw [o2] at hf ⊢
  generalize (didParse (j.at ([105,100] : List UInt8)).t).1 = d at *
  refine ⟨?_,⟨by have := hf.also; omega,?_⟩,⟨by have := hf.ctrl; omega,?_⟩,by have := hf.ml; omega,by have := hf.sl; omega,?_,?_⟩
  · show (didText d).length ≤ _
    omega
  · intro s hs
    obtain ⟨x,hx,rfl⟩ := List.mem_map.1 (show s ∈ (listL j ([97,108,115,111,75,110,111,119,110,65,115] : List UInt8)).map Jv.t from hs)
    have := (hB.list hx).keys.1
    omega
  · intro s hs
    have hs : s ∈ ctrlL j := hs
    unfold ctrlL at hs
    cases hg : j.get ([99,111,110,116,114,111,108,108,101,114] : List UInt8) with
    | none => rw [hg] at hs; cases hs
    | some m =>
      rw [hg] at hs
      have := (hB.get_ hg).more s hs
      omega
  · intro x hx
    obtain ⟨y,hy,rfl⟩ := List.mem_map.1 (show x ∈ (listL j ([118,101,114,105,102,105,99,97,116,105,111,110,77,101,116,104,111,100] : List UInt8)).map (methM d) from hx)
    have h1 := idT_len d y
    have h2 := ((hB.list hy).at' ([116,121,112,101] : List UInt8)).keys.1
    have h3 := ((hB.list hy).at' ([99,111,110,116,114,111,108,108,101,114] : List UInt8)).keys.1
    simp only [methM]
    omega
  · intro x hx
    have h5 := (hf.s x hx).2
    obtain ⟨y,hy,rfl⟩ := List.mem_map.1 (show x ∈ (listL j ([115,101,114,118,105,99,101] : List UInt8)).map (servM d) from hx)
    have h1 := idT_len d y
    refine ⟨by simp only [servM]; omega,⟨by omega,fun s hs => ?_⟩,by omega,fun s hs => ?_⟩
    · have := ((hB.list hy).at' ([116,121,112,101] : List UInt8)).more s hs
      omega
    · simp only [servM] at hs
      split at hs
      · cases hs
      · have := ((hB.list hy).at' ([115,101,114,118,105,99,101,69,110,100,112,111,105,110,116] : List UInt8)).more s hs
        omega
end Go.Proofs.YtejfjmcjicpodaaGreatDoor
/- ref14's parser: array. -/
set_option linter.all false
set_option maxRecDepth 20000
namespace Go.Proofs.YtejfjmcjicpodaaGreatDoor
open Go Vc Go.RowKit Wf
set_option linter.unusedSimpArgs false
def arrT6 : OT := (.pur 0 (.pur 2 (.pur 4 (.alt (.one 1 (.one 3 (.one 5 (.one 6 (.one 7 (.pur 8 (.one 9 .leaf))))))) (.one 3 (.alt (.one 1 (.one 5 (.one 6 (.one 7 (.pur 8 (.one 9 .leaf)))))) (.one 5 (.alt (.one 1 (.one 6 (.one 7 (.pur 8 (.one 9 .leaf))))) (.one 6 (.one 1 (.one 7 (.pur 8 (.one 9 .leaf)))))))))))))
def AI (s : Bytes) (bs : List Res) (p d a0 : Nat) (f0 : Int) (σ : St) : Prop := ∃ (a n : Nat) (f w k : Int) (u : Bytes) (pos : Int) (y : SV) (Ls : List Tv) (Js : List Jv),AS 6 s bs p d a n f w k u pos .nils y [] Ls Js σ.t σ.b ∧ a0 ≤ a ∧ a ≤ s.length ∧ n ≤ 20001 ∧ (f = 0 → n ≤ 20000 ∧ f0 = 0) ∧ Js.length + (if f = 0 then s.length - a + 1 else 0) ≤ s.length + 1
set_option maxHeartbeats 16000000 in
theorem sc_r14_array {s : Bytes} (hs : s.length ≤ 1000000) {d : Nat} (hV : VlOK s d) : RdOK s 57 d := by
  intro bs p a0 n0 f0 w0 hp ha hn hfn
  refine SC.dimAll ?_
  have hpl := (List.getElem?_eq_some_iff.1 hp).1
  have hk0 := KpP.of (p := p) hp (Kp.refl bs)
  refine sc_ofP (fun n => if n = 6 then .all arrT6 else .ord []) 3000 Tryz.func57 rfl Tryz.ntmps57 Tryz.results57 Tryz.call57 (by simp) (fun β β' hb => concL_within bs.length _ (by simp [within,within.withinL,hpl]) β β' hb) ?_
  obtain ⟨k,u,pos,a,f,w,g1,g2,g3,g4,hnx⟩ := sx_r14_next s (by omega) a0 n0 f0 w0 ha
  refine vcS_cutS 2900 (fun σ => lk 0 σ.t = some (.p p 0) ∧ lk 1 σ.t = some (.int .i64 d) ∧ lk 4 σ.t = some (.p bs.length 0) ∧ σ.b = bs ++ [.cells zv 25 true]) ?_ (fun k' hk' => ?_)
  rotate_left
  · simp only [lawG,↓Xn,↓Xo,↓Xg,↓Xd,↓Xe,↓Xf,Tryz.VΓ,Tryz.Γs,Xp,Xi,Nat.reduceAdd,Nat.reduceSub,Nat.reduceLT,Nat.reduceLeDiff,reduceIte,reduceCtorEq,Nat.reduceEqDiff,implies_true,forall_const,lawV,lawA,beq_self_eq_true,bne_self_eq_false,Int.reduceBEq,Int.reduceBNe,Int.reduceLT,Int.reduceLE]
    exact hk' _ _ ⟨rfl,rfl,rfl,rfl⟩
  rintro m ⟨t,b⟩ ⟨h0,h1,h4,rfl⟩
  simp only at h0 h1 h4
  refine vcS_cutS 2800 (fun σ => lk 0 σ.t = some (.p p 0) ∧ lk 1 σ.t = some (.int .i64 d) ∧ lk 4 σ.t = some (.p bs.length 0) ∧ lk 5 σ.t = some (.p (bs.length + 1) 0) ∧ σ.b = bs ++ [.cells zv 25 true,.cells [.int .i64 6,.str [],.nils,.nils] 25 true]) ?_ (fun k' hk' => ?_)
  rotate_left
  · simp only [lawG,↓Xn,↓Xo,↓Xg,↓Xd,↓Xe,↓Xf,Tryz.VΓ,Tryz.Γs,Xp,Xi,Nat.reduceAdd,Nat.reduceSub,Nat.reduceLT,Nat.reduceLeDiff,reduceIte,reduceCtorEq,Nat.reduceEqDiff,implies_true,forall_const,lawV,lawA,beq_self_eq_true,bne_self_eq_false,Int.reduceBEq,Int.reduceBNe,Int.reduceLT,Int.reduceLE,h0,h1,h4]
    exact hk' _ _ ⟨by simp [lk,h0],by simp [lk,h1],by simp [lk,h4],rfl,rfl⟩
  rintro m ⟨t,b⟩ ⟨h0,h1,h4,h5,rfl⟩
  simp only at h0 h1 h4 h5
  refine vcS_cutS 2700 (fun σ => AS 6 s bs p d a n0 f w k u pos .nils .nils [] [] [] σ.t σ.b) ?_ (fun k' hk' => ?_)
  rotate_left
  · have hn' := hnx (bs ++ [.cells zv 25 true,.cells [.int .i64 6,.str [],.nils,.nils] 25 true]) p (at_old hp _)
    simp only [lawG,↓Xn,↓Xo,↓Xg,↓Xd,↓Xe,↓Xf,Tryz.VΓ,Tryz.Γs,Xp,Xi,Nat.reduceAdd,Nat.reduceSub,Nat.reduceLT,Nat.reduceLeDiff,reduceIte,reduceCtorEq,Nat.reduceEqDiff,implies_true,forall_const,lawV,lawA,beq_self_eq_true,bne_self_eq_false,Int.reduceBEq,Int.reduceBNe,Int.reduceLT,Int.reduceLE,h0,h1,h4,h5]
    refine callV_sc hn' ?_
    rintro r b ⟨rfl,rfl⟩
    unfold tok
    simp only [lawG,↓Xn,↓Xo,↓Xg,↓Xd,↓Xe,↓Xf,Tryz.VΓ,Tryz.Γs,Xp,Xi,Nat.reduceAdd,Nat.reduceSub,Nat.reduceLT,Nat.reduceLeDiff,reduceIte,reduceCtorEq,Nat.reduceEqDiff,implies_true,forall_const,lawV,lawA,beq_self_eq_true,bne_self_eq_false,Int.reduceBEq,Int.reduceBNe,Int.reduceLT,Int.reduceLE,h0,h1,h4,h5]
    exact hk' _ _ (AS.init hp g3 (by simp [lk,h0]) (by simp [lk,h1]) (by simp [lk,h4]) (by simp [lk,h5]) (by simp [lk]))
  clear h0 h1 h4 h5
  rintro m ⟨t,b⟩ h
  simp only at h
  refine vcS_cutS 2600 (fun σ => AS 6 s bs p d a n0 f w k u pos .nils .nils [] [] [] σ.t σ.b) ?_ (fun k' hk' => ?_)
  rotate_left
  · have i1 := p_r14_is k u pos [93]
    have hb2 := h.b2
    (have hones := (h).oney
     have hb0 := (h).b0
     have hb1 := (h).b1
     have hl0 := (List.getElem?_eq_some_iff.1 hb0).1
     have hg0 : ∀ X,(b.set bs.length X)[bs.length]? = some X := fun X => List.getElem?_set_self hl0
     have m0 := (h).l0
     have m4 := (h).l4
     have m5 := (h).l5
     have m6 := (h).l6
     unfold zv at hb0)
    unfold tok at i1 hb2
    simp only [lawG,↓Xn,↓Xo,↓Xg,↓Xd,↓Xe,↓Xf,Tryz.VΓ,Tryz.Γs,Xp,Xi,Nat.reduceAdd,Nat.reduceSub,Nat.reduceLT,Nat.reduceLeDiff,reduceIte,reduceCtorEq,Nat.reduceEqDiff,implies_true,forall_const,lawV,lawA,beq_self_eq_true,bne_self_eq_false,Int.reduceBEq,Int.reduceBNe,Int.reduceLT,Int.reduceLE,m6,hb2]
    refine callV_pc i1 ?_
    cases c1 : (k == 2 && u == [93])
    · simp only [lawG,↓Xn,↓Xo,↓Xg,↓Xd,↓Xe,↓Xf,Tryz.VΓ,Tryz.Γs,Xp,Xi,Nat.reduceAdd,Nat.reduceSub,Nat.reduceLT,Nat.reduceLeDiff,reduceIte,reduceCtorEq,Nat.reduceEqDiff,implies_true,forall_const,lawV,lawA,beq_self_eq_true,bne_self_eq_false,Int.reduceBEq,Int.reduceBNe,Int.reduceLT,Int.reduceLE]
      exact hk' _ _ (h.mv (by simp [SL,lk]))
    · simp only [lawG,↓Xn,↓Xo,↓Xg,↓Xd,↓Xe,↓Xf,Tryz.VΓ,Tryz.Γs,Xp,Xi,Nat.reduceAdd,Nat.reduceSub,Nat.reduceLT,Nat.reduceLeDiff,reduceIte,reduceCtorEq,Nat.reduceEqDiff,implies_true,forall_const,lawV,lawA,beq_self_eq_true,bne_self_eq_false,Int.reduceBEq,Int.reduceBNe,Int.reduceLT,Int.reduceLE,m0,m4,m5,m6,hb1,hg0,hb0,hones]
      exact h.out g1 g2 hn (fun e => ⟨hfn (g4 e).1,(g4 e).1⟩) hs (by simp) (by simp) _
  clear h
  rintro m ⟨t,b⟩ h
  simp only at h
  refine vcS_cutS 2500 (AI s bs p d a0 f0) ?_ (fun k' hk' => ?_)
  rotate_left
  · have h0' : AI s bs p d a0 f0 ⟨t,b⟩ := ⟨a,n0,f,w,k,u,pos,.nils,[],[],h,g1,g2,hn,fun e => ⟨hfn (g4 e).1,(g4 e).1⟩,by simp; split <;> omega⟩
    simp only [lawG,↓Xn,↓Xo,↓Xg,↓Xd,↓Xe,↓Xf,Tryz.VΓ,Tryz.Γs,Xp,Xi,Nat.reduceAdd,Nat.reduceSub,Nat.reduceLT,Nat.reduceLeDiff,reduceIte,reduceCtorEq,Nat.reduceEqDiff,implies_true,forall_const,lawV,lawA,beq_self_eq_true,bne_self_eq_false,Int.reduceBEq,Int.reduceBNe,Int.reduceLT,Int.reduceLE]
    refine loopV_mk (AI s bs p d a0 f0) (muP p) h0' ?_
    clear h h0' g1 g2 g3 g4 hnx
    clear a f w k u pos
    rintro ⟨t,b⟩ ⟨a,n,f,w,k,u,pos,y,Ls,Js,h,e1,e2,e3,e4,e5⟩
    simp only at h
    rw [h.mu]
    have hbp := h.pp
    have hb2 := h.b2
    (have hones := (h).oney
     have hb0 := (h).b0
     have hb1 := (h).b1
     have hl0 := (List.getElem?_eq_some_iff.1 hb0).1
     have hg0 : ∀ X,(b.set bs.length X)[bs.length]? = some X := fun X => List.getElem?_set_self hl0
     have m0 := (h).l0
     have m4 := (h).l4
     have m5 := (h).l5
     have m6 := (h).l6
     unfold zv at hb0)
    unfold pbox pcl at hbp
    by_cases hf : f = 0
    rotate_left
    · have hb : (f == 0) = false := by simp [hf]
      simp only [lawG,↓Xn,↓Xo,↓Xg,↓Xd,↓Xe,↓Xf,Tryz.VΓ,Tryz.Γs,Xp,Xi,Nat.reduceAdd,Nat.reduceSub,Nat.reduceLT,Nat.reduceLeDiff,reduceIte,reduceCtorEq,Nat.reduceEqDiff,implies_true,forall_const,lawV,lawA,beq_self_eq_true,bne_self_eq_false,Int.reduceBEq,Int.reduceBNe,Int.reduceLT,Int.reduceLE,m0,m4,m5,m6,hbp,hb]
      exact hk' _ _ ⟨a,n,f,w,k,u,pos,y,Ls,Js,h.mv (by simp [SL,lk]),e1,e2,e3,e4,e5⟩
    subst hf
    have m1 := h.l1
    simp only [lawG,↓Xn,↓Xo,↓Xg,↓Xd,↓Xe,↓Xf,Tryz.VΓ,Tryz.Γs,Xp,Xi,Nat.reduceAdd,Nat.reduceSub,Nat.reduceLT,Nat.reduceLeDiff,reduceIte,reduceCtorEq,Nat.reduceEqDiff,implies_true,forall_const,lawV,lawA,beq_self_eq_true,bne_self_eq_false,Int.reduceBEq,Int.reduceBNe,Int.reduceLT,Int.reduceLE,m0,m4,m5,m6,hbp]
    refine regV_mkG (fun σ => ∃ (a1 n1 : Nat) (f1 w1 : Int) (y' : SV) (Ls' : List Tv) (Js' : List Jv),AS 6 s bs p d a1 n1 f1 w1 k u pos .nils y' [] Ls' Js' σ.t σ.b ∧ a ≤ a1 ∧ a1 ≤ s.length ∧ n1 ≤ 20001 ∧ (f1 = 0 → n1 ≤ 20000) ∧ Js'.length = Js.length + 1) (by kernel_rfl) (fun E' k' => ?_) ?_
    · have hcall := hV b p a n 0 w k u pos h.pp e2 e3 (fun e => (e4 e).1) h.ul
      unfold tok at hb2 hcall
      simp only [lawG,↓Xn,↓Xo,↓Xg,↓Xd,↓Xe,↓Xf,Tryz.VΓ,Tryz.Γs,Xp,Xi,Nat.reduceAdd,Nat.reduceSub,Nat.reduceLT,Nat.reduceLeDiff,reduceIte,reduceCtorEq,Nat.reduceEqDiff,implies_true,forall_const,lawV,lawA,beq_self_eq_true,bne_self_eq_false,Int.reduceBEq,Int.reduceBNe,Int.reduceLT,Int.reduceLE,arrT6,m0,m1,m4,m5,m6,hbp,hb1,hb2]
      refine ⟨?_,?_,?_⟩
      all_goals
        refine callV_sc hcall ?_
        rintro r b' ⟨a1,n1,f1,w1,q1,q2,q3,q4,gk,j,v,rfl,hj,hjb⟩
        have h' := h.call gk
        have hb1' := h'.b1
        have hl1' := (List.getElem?_eq_some_iff.1 hb1').1
        obtain ⟨-,-,v3,v4⟩ := hj.tin
        have ho : (one v.xk && one v.xi) = true := by rw [v3,v4]; rfl
        have hset : ∀ (l : List Res) X,(b' ++ l).set (bs.length + 1) X = b'.set (bs.length + 1) X ++ l := fun l X => app_setL hl1' l X
        unfold tv
        rcases h'.ri with ⟨rfl,rfl⟩ | ⟨q,hL0,rfl,hq,hbq⟩
        · simp only [lawG,↓Xn,↓Xo,↓Xg,↓Xd,↓Xe,↓Xf,Tryz.VΓ,Tryz.Γs,Xp,Xi,Nat.reduceAdd,Nat.reduceSub,Nat.reduceLT,Nat.reduceLeDiff,reduceIte,reduceCtorEq,Nat.reduceEqDiff,implies_true,forall_const,lawV,lawA,beq_self_eq_true,bne_self_eq_false,Int.reduceBEq,Int.reduceBNe,Int.reduceLT,Int.reduceLE,hb1',at_old hb1',hset,m0,m4,m5,m6,ho]
          have hA := h'.addN hj hjb (.own (tv v) 25 4 1 true)
          have hlen : (Js ++ [j]).length = Js.length + 1 := by simp
          repeat' first
            | exact ⟨by omega,⟨by unfold maxLen; omega,by omega⟩,a1,n1,f1,w1,_,_,_,hA.mv (by simp [SL,lk]),q1,q2,q3,fun e => (q4 e).1,hlen⟩
            | refine And.intro ?_ ?_
        · have hsq : ∀ (l : List Res) X,(b' ++ l).set q X = b'.set q X ++ l := fun l X => app_setL (List.getElem?_eq_some_iff.1 hbq).1 l X
          have hset2 : ∀ (l : List Res) Y X,(b'.set q Y ++ l).set (bs.length + 1) X = (b'.set q Y).set (bs.length + 1) X ++ l := fun l Y X => app_setL (by simpa using hl1') l X
          have hbq1 := fun Y => at_old (get_setN hb1' (show q ≠ bs.length + 1 by omega) Y)
          simp only [lawG,↓Xn,↓Xo,↓Xg,↓Xd,↓Xe,↓Xf,Tryz.VΓ,Tryz.Γs,Xp,Xi,Nat.reduceAdd,Nat.reduceSub,Nat.reduceLT,Nat.reduceLeDiff,reduceIte,reduceCtorEq,Nat.reduceEqDiff,implies_true,forall_const,lawV,lawA,beq_self_eq_true,bne_self_eq_false,Int.reduceBEq,Int.reduceBNe,Int.reduceLT,Int.reduceLE,hb1',at_old hb1',at_old hbq,hset,hsq,hset2,hbq1,m0,m4,m5,m6,ho]
          have hA := h'.addQ hq hL0 hbq hj hjb (.own (tv v) 25 4 1 true)
          have hlen : (Js ++ [j]).length = Js.length + 1 := by simp
          have hLJ := h'.js.len
          repeat' first
            | exact ⟨by omega,⟨by unfold maxLen; omega,by omega⟩,a1,n1,f1,w1,_,_,_,hA.mv (by simp [SL,lk]),q1,q2,q3,fun e => (q4 e).1,hlen⟩
            | refine And.intro ?_ ?_
    clear h hb2 hbp hones hb0 hb1 hl0 hg0 m0 m1 m4 m5 m6
    rintro ⟨t,b⟩ ⟨a1,n1,f1,w1,y',Ls',Js',h,q1,q2,q3,q4,q5⟩
    simp only at h
    have e4' : f1 = 0 → f0 = 0 := fun _ => (e4 rfl).2
    clear e4
    have e5' : Js'.length + (s.length - a) ≤ s.length + 1 := by simp at e5; omega
    obtain ⟨k2,u2,pos2,a2,f2,w2,r1,r2,r3,r4,hnx⟩ := sx_r14_next s (by omega) a1 n1 f1 w1 q2
    refine vcS_cutS 2400 (fun σ => AS 6 s bs p d a2 n1 f2 w2 k2 u2 pos2 .nils y' [] Ls' Js' σ.t σ.b) ?_ (fun k' hk' => ?_)
    rotate_left
    · have hn' := hnx b p h.pp
      have h2 := h.setp a2 n1 f2 w2
      have hb2 := h2.b2
      have hA := h2.setk k2 pos2 r3
      (have hones := (h).oney
       have hb0 := (h).b0
       have hb1 := (h).b1
       have hl0 := (List.getElem?_eq_some_iff.1 hb0).1
       have hg0 : ∀ X,(b.set bs.length X)[bs.length]? = some X := fun X => List.getElem?_set_self hl0
       have m0 := (h).l0
       have m4 := (h).l4
       have m5 := (h).l5
       have m6 := (h).l6
       unfold zv at hb0)
      unfold tok at hn' hb2 hA
      simp only [lawG,↓Xn,↓Xo,↓Xg,↓Xd,↓Xe,↓Xf,Tryz.VΓ,Tryz.Γs,Xp,Xi,Nat.reduceAdd,Nat.reduceSub,Nat.reduceLT,Nat.reduceLeDiff,reduceIte,reduceCtorEq,Nat.reduceEqDiff,implies_true,forall_const,lawV,lawA,beq_self_eq_true,bne_self_eq_false,Int.reduceBEq,Int.reduceBNe,Int.reduceLT,Int.reduceLE,m0,m4,m5,m6]
      refine callV_sc hn' ?_
      rintro r b' ⟨rfl,rfl⟩
      simp only [lawG,↓Xn,↓Xo,↓Xg,↓Xd,↓Xe,↓Xf,Tryz.VΓ,Tryz.Γs,Xp,Xi,Nat.reduceAdd,Nat.reduceSub,Nat.reduceLT,Nat.reduceLeDiff,reduceIte,reduceCtorEq,Nat.reduceEqDiff,implies_true,forall_const,lawV,lawA,beq_self_eq_true,bne_self_eq_false,Int.reduceBEq,Int.reduceBNe,Int.reduceLT,Int.reduceLE,m0,m4,m5,m6,hb2]
      exact hk' _ _ (hA.mv (by simp [SL,lk]))
    clear h
    rintro m ⟨t,b⟩ h
    simp only at h
    refine vcS_cutS 2300 (fun σ => AS 6 s bs p d a2 n1 f2 w2 k2 u2 pos2 .nils y' [] Ls' Js' σ.t σ.b) ?_ (fun k' hk' => ?_)
    rotate_left
    · have i1 := p_r14_is k2 u2 pos2 [93]
      have hb2 := h.b2
      (have hones := (h).oney
       have hb0 := (h).b0
       have hb1 := (h).b1
       have hl0 := (List.getElem?_eq_some_iff.1 hb0).1
       have hg0 : ∀ X,(b.set bs.length X)[bs.length]? = some X := fun X => List.getElem?_set_self hl0
       have m0 := (h).l0
       have m4 := (h).l4
       have m5 := (h).l5
       have m6 := (h).l6
       unfold zv at hb0)
      unfold tok at i1 hb2
      simp only [lawG,↓Xn,↓Xo,↓Xg,↓Xd,↓Xe,↓Xf,Tryz.VΓ,Tryz.Γs,Xp,Xi,Nat.reduceAdd,Nat.reduceSub,Nat.reduceLT,Nat.reduceLeDiff,reduceIte,reduceCtorEq,Nat.reduceEqDiff,implies_true,forall_const,lawV,lawA,beq_self_eq_true,bne_self_eq_false,Int.reduceBEq,Int.reduceBNe,Int.reduceLT,Int.reduceLE,m6,hb2]
      refine callV_pc i1 ?_
      cases c1 : (k2 == 2 && u2 == [93])
      · simp only [lawG,↓Xn,↓Xo,↓Xg,↓Xd,↓Xe,↓Xf,Tryz.VΓ,Tryz.Γs,Xp,Xi,Nat.reduceAdd,Nat.reduceSub,Nat.reduceLT,Nat.reduceLeDiff,reduceIte,reduceCtorEq,Nat.reduceEqDiff,implies_true,forall_const,lawV,lawA,beq_self_eq_true,bne_self_eq_false,Int.reduceBEq,Int.reduceBNe,Int.reduceLT,Int.reduceLE]
        exact hk' _ _ (h.mv (by simp [SL,lk]))
      · simp only [lawG,↓Xn,↓Xo,↓Xg,↓Xd,↓Xe,↓Xf,Tryz.VΓ,Tryz.Γs,Xp,Xi,Nat.reduceAdd,Nat.reduceSub,Nat.reduceLT,Nat.reduceLeDiff,reduceIte,reduceCtorEq,Nat.reduceEqDiff,implies_true,forall_const,lawV,lawA,beq_self_eq_true,bne_self_eq_false,Int.reduceBEq,Int.reduceBNe,Int.reduceLT,Int.reduceLE,m0,m4,m5,m6,hb1,hg0,hb0,hones]
        exact h.out (by omega) r2 q3 (fun e => ⟨q4 (r4 e).1,e4' (r4 e).1⟩) hs (by omega) (by simp) _
    clear h
    rintro m ⟨t,b⟩ h
    simp only at h
    refine vcS_cutS 2200 (fun σ => ∃ f3 w3 : Int,AS 6 s bs p d a2 n1 f3 w3 k2 u2 pos2 .nils y' [] Ls' Js' σ.t σ.b ∧ (f3 = 0 → f2 = 0 ∧ k2 = 2)) ?_ (fun k' hk' => ?_)
    rotate_left
    · have i1 := p_r14_is k2 u2 pos2 [44]
      have hb2 := h.b2
      have hbp := h.pp
      (have hones := (h).oney
       have hb0 := (h).b0
       have hb1 := (h).b1
       have hl0 := (List.getElem?_eq_some_iff.1 hb0).1
       have hg0 : ∀ X,(b.set bs.length X)[bs.length]? = some X := fun X => List.getElem?_set_self hl0
       have m0 := (h).l0
       have m4 := (h).l4
       have m5 := (h).l5
       have m6 := (h).l6
       unfold zv at hb0)
      unfold tok at i1 hb2
      have hst := sc_r14_stop h.pp pos2 140
      have hA := h.setp a2 n1 (stF f2 140) (stW f2 w2 pos2)
      unfold pbox pcl at hbp
      cases c0 : f2 == 0
      · simp only [lawG,↓Xn,↓Xo,↓Xg,↓Xd,↓Xe,↓Xf,Tryz.VΓ,Tryz.Γs,Xp,Xi,Nat.reduceAdd,Nat.reduceSub,Nat.reduceLT,Nat.reduceLeDiff,reduceIte,reduceCtorEq,Nat.reduceEqDiff,implies_true,forall_const,lawV,lawA,beq_self_eq_true,bne_self_eq_false,Int.reduceBEq,Int.reduceBNe,Int.reduceLT,Int.reduceLE,m0,m6,hb2,hbp,c0]
        exact hk' _ _ ⟨f2,w2,h.mv (by simp [SL,lk]),fun e => by rw [e] at c0; simp at c0⟩
      · simp only [lawG,↓Xn,↓Xo,↓Xg,↓Xd,↓Xe,↓Xf,Tryz.VΓ,Tryz.Γs,Xp,Xi,Nat.reduceAdd,Nat.reduceSub,Nat.reduceLT,Nat.reduceLeDiff,reduceIte,reduceCtorEq,Nat.reduceEqDiff,implies_true,forall_const,lawV,lawA,beq_self_eq_true,bne_self_eq_false,Int.reduceBEq,Int.reduceBNe,Int.reduceLT,Int.reduceLE,m0,m6,hb2,hbp,c0]
        refine callV_pc i1 ?_
        cases c1 : (k2 == 2 && u2 == [44])
        · simp only [lawG,↓Xn,↓Xo,↓Xg,↓Xd,↓Xe,↓Xf,Tryz.VΓ,Tryz.Γs,Xp,Xi,Nat.reduceAdd,Nat.reduceSub,Nat.reduceLT,Nat.reduceLeDiff,reduceIte,reduceCtorEq,Nat.reduceEqDiff,implies_true,forall_const,lawV,lawA,beq_self_eq_true,bne_self_eq_false,Int.reduceBEq,Int.reduceBNe,Int.reduceLT,Int.reduceLE,m0,m6,hb2,Bool.not_false]
          refine callV_sc hst ?_
          rintro r b' ⟨rfl,rfl⟩
          simp only [lawG,↓Xn,↓Xo,↓Xg,↓Xd,↓Xe,↓Xf,Tryz.VΓ,Tryz.Γs,Xp,Xi,Nat.reduceAdd,Nat.reduceSub,Nat.reduceLT,Nat.reduceLeDiff,reduceIte,reduceCtorEq,Nat.reduceEqDiff,implies_true,forall_const,lawV,lawA,beq_self_eq_true,bne_self_eq_false,Int.reduceBEq,Int.reduceBNe,Int.reduceLT,Int.reduceLE]
          exact hk' _ _ ⟨_,_,hA.mv (by simp [SL,lk]),fun e => absurd e (stF_ne (by decide))⟩
        · simp only [lawG,↓Xn,↓Xo,↓Xg,↓Xd,↓Xe,↓Xf,Tryz.VΓ,Tryz.Γs,Xp,Xi,Nat.reduceAdd,Nat.reduceSub,Nat.reduceLT,Nat.reduceLeDiff,reduceIte,reduceCtorEq,Nat.reduceEqDiff,implies_true,forall_const,lawV,lawA,beq_self_eq_true,bne_self_eq_false,Int.reduceBEq,Int.reduceBNe,Int.reduceLT,Int.reduceLE,m0,m6,hb2,Bool.not_true]
          simp only [Bool.and_eq_true] at c1
          exact hk' _ _ ⟨f2,w2,h.mv (by simp [SL,lk]),fun e => ⟨e,by simpa using c1.1⟩⟩
    clear h
    rintro m ⟨t,b⟩ ⟨f3,w3,h,r5⟩
    simp only at h
    obtain ⟨k4,u4,pos4,a4,f4,w4,z1,z2,z3,z4,hnx4⟩ := sx_r14_next s (by omega) a2 n1 f3 w3 r2
    have hn' := hnx4 b p h.pp
    have h2 := h.setp a4 n1 f4 w4
    have hb2 := h2.b2
    have hA := h2.setk k4 pos4 z3
    (have hones := (h).oney
     have hb0 := (h).b0
     have hb1 := (h).b1
     have hl0 := (List.getElem?_eq_some_iff.1 hb0).1
     have hg0 : ∀ X,(b.set bs.length X)[bs.length]? = some X := fun X => List.getElem?_set_self hl0
     have m0 := (h).l0
     have m4 := (h).l4
     have m5 := (h).l5
     have m6 := (h).l6
     unfold zv at hb0)
    unfold tok at hn' hb2 hA
    simp only [lawG,↓Xn,↓Xo,↓Xg,↓Xd,↓Xe,↓Xf,Tryz.VΓ,Tryz.Γs,Xp,Xi,Nat.reduceAdd,Nat.reduceSub,Nat.reduceLT,Nat.reduceLeDiff,reduceIte,reduceCtorEq,Nat.reduceEqDiff,implies_true,forall_const,lawV,lawA,beq_self_eq_true,bne_self_eq_false,Int.reduceBEq,Int.reduceBNe,Int.reduceLT,Int.reduceLE,m0,m4,m5,m6]
    refine callV_sc hn' ?_
    rintro r b' ⟨rfl,rfl⟩
    simp only [lawG,↓Xn,↓Xo,↓Xg,↓Xd,↓Xe,↓Xf,Tryz.VΓ,Tryz.Γs,Xp,Xi,Nat.reduceAdd,Nat.reduceSub,Nat.reduceLT,Nat.reduceLeDiff,reduceIte,reduceCtorEq,Nat.reduceEqDiff,implies_true,forall_const,lawV,lawA,beq_self_eq_true,bne_self_eq_false,Int.reduceBEq,Int.reduceBNe,Int.reduceLT,Int.reduceLE,m0,m4,m5,m6,hb2]
    have hprog : f4 = 0 → a < a4 := fun e => by
      have h1 := z4 e
      have h2 := r5 h1.1
      have h3 := r4 h2.1
      rcases h3.2 with h4 | h4
      · rw [h2.2] at h4; cases h4
      · omega
    have key : ∀ t',SL t t' → AI s bs p d a0 f0 ⟨t',(b.set p (pbox s a4 n1 f4 w4)).set (bs.length + 2) (.cells [.int .i64 k4,.str u4,.int .i64 pos4] 56 true)⟩ ∧ muP p ⟨t',(b.set p (pbox s a4 n1 f4 w4)).set (bs.length + 2) (.cells [.int .i64 k4,.str u4,.int .i64 pos4] 56 true)⟩ < s.length - a + 1 := by
      intro t' e
      rw [hA.mu]
      by_cases h4 : f4 = 0
      · have := hprog h4
        rw [if_pos h4]
        exact ⟨⟨a4,n1,f4,w4,k4,u4,pos4,y',Ls',Js',hA.mv e,by omega,z2,q3,fun e => ⟨q4 (r4 (r5 (z4 e).1).1).1,e4' (r4 (r5 (z4 e).1).1).1⟩,by rw [if_pos h4]; omega⟩,by omega⟩
      · rw [if_neg h4]
        exact ⟨⟨a4,n1,f4,w4,k4,u4,pos4,y',Ls',Js',hA.mv e,by omega,z2,q3,fun e => absurd e h4,by rw [if_neg h4]; omega⟩,by omega⟩
    exact key _ (by simp [SL,lk])
  clear h
  rintro m ⟨t,b⟩ ⟨a,n,f,w,k,u,pos,y,Ls,Js,h,e1,e2,e3,e4,e5⟩
  simp only at h
  (have hones := (h).oney
   have hb0 := (h).b0
   have hb1 := (h).b1
   have hl0 := (List.getElem?_eq_some_iff.1 hb0).1
   have hg0 : ∀ X,(b.set bs.length X)[bs.length]? = some X := fun X => List.getElem?_set_self hl0
   have m0 := (h).l0
   have m4 := (h).l4
   have m5 := (h).l5
   have m6 := (h).l6
   unfold zv at hb0)
  simp only [lawG,↓Xn,↓Xo,↓Xg,↓Xd,↓Xe,↓Xf,Tryz.VΓ,Tryz.Γs,Xp,Xi,Nat.reduceAdd,Nat.reduceSub,Nat.reduceLT,Nat.reduceLeDiff,reduceIte,reduceCtorEq,Nat.reduceEqDiff,implies_true,forall_const,lawV,lawA,beq_self_eq_true,bne_self_eq_false,Int.reduceBEq,Int.reduceBNe,Int.reduceLT,Int.reduceLE,m0,m4,m5,m6,hb1,hg0,hb0,hones]
  exact h.out e1 e2 e3 e4 hs (by omega) (by simp) _
end Go.Proofs.YtejfjmcjicpodaaGreatDoor
/- ref14.Get where the rows are still being made. -/
set_option linter.all false
set_option maxRecDepth 20000
namespace Go.Proofs.YtejfjmcjicpodaaGreatDoor
open Go Vc Go.RowKit Wf
set_option linter.unusedSimpArgs false
set_option maxHeartbeats 4000000 in
theorem sc_r14_GetR {bs : List Res} {yk y : SV} {Ks : List Bytes} {Ls : List Tv} {key : Bytes}
    (hk : (yk = .nils ∧ Ks = []) ∨ ∃ q,0 < Ks.length ∧ yk = .o q Ks.length ∧ bs[q]? = some (.own (Ks.map SV.str) 9 1 Ks.length true))
    (hi : (y = .nils ∧ Ls = []) ∨ ∃ q,0 < Ls.length ∧ y = .o q Ls.length ∧ bs[q]? = some (.own (Ls.flatMap tv) 25 4 Ls.length true))
    (hL : ∀ v ∈ Ls,TvIn bs.length v) (hKl : Ks.length ≤ 2000000) (hLl : Ls.length ≤ 2000000) :
    SC Tryz.V 42 [.agg [.int .i64 7,.str [],yk,y],.str key] bs (fun r b => ∃ (x : Tv) (ok : Bool),r = .tup [.agg (tv x),.bool ok] ∧ TvIn bs.length x ∧ Kp bs b) := by
  have hz : TvIn bs.length ⟨0,[],.nils,.nils⟩ := ⟨rfl,rfl,rfl,rfl⟩
  have v1 : within bs.length yk = true := by
    rcases hk with ⟨rfl,-⟩ | ⟨q,-,rfl,h⟩
    · rfl
    · have := (List.getElem?_eq_some_iff.1 h).1
      simp [within,this]
  have v2 : within bs.length y = true := by
    rcases hi with ⟨rfl,-⟩ | ⟨q,-,rfl,h⟩
    · rfl
    · have := (List.getElem?_eq_some_iff.1 h).1
      simp [within,this]
  have v3 : one yk = true := by rcases hk with ⟨rfl,-⟩ | ⟨q,-,rfl,-⟩ <;> rfl
  have v4 : one y = true := by rcases hi with ⟨rfl,-⟩ | ⟨q,-,rfl,-⟩ <;> rfl
  have hlk : ∀ e,lenS (.slice e) yk = some (.int .i64 Ks.length) := fun e => by
    rcases hk with ⟨rfl,rfl⟩ | ⟨q,-,rfl,h⟩ <;> rfl
  have hli : ∀ e,lenS (.slice e) y = some (.int .i64 Ls.length) := fun e => by
    rcases hi with ⟨rfl,rfl⟩ | ⟨q,-,rfl,h⟩ <;> rfl
  refine sc_of 3000 Tryz.func42 rfl Tryz.ntmps42 Tryz.results42 Tryz.call42 (by simp) (fun β β' hb => concL_within bs.length _ (by simp [within,within.withinL,v1,v2]) β β' hb) ?_
  simp only [lawG,↓Xn,↓Xo,↓Xg,↓Xd,↓Xe,↓Xf,Tryz.VΓ,Tryz.Γs,Xp,Xi,Nat.reduceAdd,Nat.reduceSub,Nat.reduceLT,Nat.reduceLeDiff,reduceIte,reduceCtorEq,Nat.reduceEqDiff,implies_true,forall_const,lawV,lawA,beq_self_eq_true,bne_self_eq_false,Int.reduceBEq,Int.reduceBNe,Int.reduceLT,Int.reduceLE,v3,v4,hlk]
  refine loopV_mk (fun σ => ∃ k : Nat,k ≤ Ks.length ∧ lk 1 σ.t = some (.str key) ∧ lk 2 σ.t = some (.p bs.length 0) ∧ lk 4 σ.t = some (.p (bs.length + 1) 0) ∧ lk 13 σ.t = some (.int .i64 Ks.length) ∧ lk 14 σ.t = some (.int .i64 k) ∧ σ.b = bs ++ [.cells [.int .i64 7,.str [],yk,y] 25 true,.cells [.int .i64 0,.str [],.nils,.nils] 25 true]) (fun σ => Ks.length - lkI 14 σ) ⟨0,by omega,rfl,rfl,rfl,rfl,rfl,rfl⟩ ?_
  rintro ⟨t,b⟩ ⟨k,hkk,h1,h2,h4,h13,h14,hb⟩
  simp only at h1 h2 h4 h13 h14 hb
  subst hb
  rw [lkI_eq h14]
  by_cases hlt : k < Ks.length
  · have hlt2 : decide ((k : Int) < Ks.length) = true := decide_eq_true (by omega)
    rcases hk with ⟨-,e40⟩ | ⟨i,-,rfl,hi1⟩
    · rw [e40] at hlt; exact absurd hlt (by simp)
    have hkt : (Ks.map SV.str)[k * 1]? = some (.str Ks[k]) := by simp [hlt]
    have hkl : (Ks.map SV.str).length = Ks.length := List.length_map ..
    cases hbe : Ks[k] == key
    rotate_left
    · by_cases hltL : k < Ls.length
      · have hlt3 : decide ((k : Int) < Ls.length) = true := decide_eq_true (by omega)
        rcases hi with ⟨-,e80⟩ | ⟨q,-,rfl,hq⟩
        · rw [e80] at hltL; simp at hltL
        have hu : List.take 4 (List.drop (k * 4) (Ls.flatMap tv)) = [.int .i64 Ls[k].k,.str Ls[k].t,Ls[k].xk,Ls[k].xi] := tv_at Ls k hltL
        have hul := tv_len Ls
        obtain ⟨x1,x2,x3,x4⟩ := hL Ls[k] (List.getElem_mem hltL)
        have hxo : (one Ls[k].xk && one Ls[k].xi) = true := by rw [x3,x4]; rfl
        simp only [lawG,↓Xn,↓Xo,↓Xg,↓Xd,↓Xe,↓Xf,Tryz.VΓ,Tryz.Γs,Xp,Xi,Nat.reduceAdd,Nat.reduceSub,Nat.reduceLT,Nat.reduceLeDiff,reduceIte,reduceCtorEq,Nat.reduceEqDiff,implies_true,forall_const,lawV,lawA,beq_self_eq_true,bne_self_eq_false,Int.reduceBEq,Int.reduceBNe,Int.reduceLT,Int.reduceLE,h1,h2,h4,h13,h14,hlt2,hlt3,at_old hi1,at_old hq,hkt,hu,hul,hxo,hli,hlk,hbe,Bool.and_true,Bool.and_self]
        (repeat (refine ⟨by first | omega | (unfold maxLen; omega),?_⟩))
        exact ⟨Ls[k],true,rfl,hL _ (List.getElem_mem hltL),(Kp.refl bs).app _⟩
      · have hlt3 : decide ((k : Int) < Ls.length) = false := decide_eq_false (by omega)
        simp only [lawG,↓Xn,↓Xo,↓Xg,↓Xd,↓Xe,↓Xf,Tryz.VΓ,Tryz.Γs,Xp,Xi,Nat.reduceAdd,Nat.reduceSub,Nat.reduceLT,Nat.reduceLeDiff,reduceIte,reduceCtorEq,Nat.reduceEqDiff,implies_true,forall_const,lawV,lawA,beq_self_eq_true,bne_self_eq_false,Int.reduceBEq,Int.reduceBNe,Int.reduceLT,Int.reduceLE,h1,h2,h4,h13,h14,hlt2,hlt3,at_old hi1,hkt,hli,hlk,hbe,Bool.and_true,Bool.and_self]
        (repeat (refine ⟨by first | omega | (unfold maxLen; omega),?_⟩))
        refine ⟨⟨k + 1,by omega,rfl⟩,?_⟩
        rw [lkI_eq (k := .i64) (n := (k : Int) + 1) rfl]; omega
    · simp only [lawG,↓Xn,↓Xo,↓Xg,↓Xd,↓Xe,↓Xf,Tryz.VΓ,Tryz.Γs,Xp,Xi,Nat.reduceAdd,Nat.reduceSub,Nat.reduceLT,Nat.reduceLeDiff,reduceIte,reduceCtorEq,Nat.reduceEqDiff,implies_true,forall_const,lawV,lawA,beq_self_eq_true,bne_self_eq_false,Int.reduceBEq,Int.reduceBNe,Int.reduceLT,Int.reduceLE,h1,h2,h4,h13,h14,hlt2,at_old hi1,hkt,hli,hlk,hbe,Bool.and_true,Bool.and_self]
      (repeat (refine ⟨by first | omega | (unfold maxLen; omega),?_⟩))
      refine ⟨⟨k + 1,by omega,rfl⟩,?_⟩
      rw [lkI_eq (k := .i64) (n := (k : Int) + 1) rfl]; omega
  · have hlt2 : decide ((k : Int) < Ks.length) = false := decide_eq_false (by omega)
    simp only [lawG,↓Xn,↓Xo,↓Xg,↓Xd,↓Xe,↓Xf,Tryz.VΓ,Tryz.Γs,Xp,Xi,Nat.reduceAdd,Nat.reduceSub,Nat.reduceLT,Nat.reduceLeDiff,reduceIte,reduceCtorEq,Nat.reduceEqDiff,implies_true,forall_const,lawV,lawA,beq_self_eq_true,bne_self_eq_false,Int.reduceBEq,Int.reduceBNe,Int.reduceLT,Int.reduceLE,h1,h2,h4,h13,h14,hlt2]
    exact ⟨⟨0,[],.nils,.nils⟩,false,rfl,hz,(Kp.refl bs).app _⟩
end Go.Proofs.YtejfjmcjicpodaaGreatDoor
/- ref14's parser: object. -/
set_option linter.all false
set_option maxRecDepth 20000
namespace Go.Proofs.YtejfjmcjicpodaaGreatDoor
open Go Vc Go.RowKit Wf
set_option linter.unusedSimpArgs false
def OI (s : Bytes) (bs : List Res) (p d a0 : Nat) (f0 : Int) (σ : St) : Prop := ∃ (a n : Nat) (f w k : Int) (u : Bytes) (pos : Int) (yk y : SV) (Ks : List Bytes) (Ls : List Tv) (Js : List Jv),AS 7 s bs p d a n f w k u pos yk y Ks Ls Js σ.t σ.b ∧ Ks.length = Js.length ∧ a0 ≤ a ∧ a ≤ s.length ∧ n ≤ 20001 ∧ (f = 0 → n ≤ 20000 ∧ f0 = 0) ∧ Js.length + (if f = 0 then s.length - a + 1 else 0) ≤ s.length + 1
theorem AS.re {K : Int} {s : Bytes} {bs : List Res} {p d a n : Nat} {f w k : Int} {u : Bytes} {pos : Int} {yk y : SV} {Ks : List Bytes} {Ls : List Tv} {Js : List Jv} {t : List (Nat × SV)} {b : List Res} (h : AS K s bs p d a n f w k u pos yk y Ks Ls Js t b) {b' : List Res}
    (hkeep : ∀ i r,b[i]? = some r → i ≠ bs.length + 1 → (i ≤ bs.length + 2 ∨ ∀ c e z n,r ≠ .own c e z n true) → b'[i]? = some r) (hl : b.length ≤ b'.length)
    {yk' y' : SV} {Ks' : List Bytes} {Ls' : List Tv} {Js' : List Jv} (hb1 : b'[bs.length + 1]? = some (.cells [.int .i64 K,.str [],yk',y'] 25 true))
    (hrk : (yk' = .nils ∧ Ks' = []) ∨ ∃ q,0 < Ks'.length ∧ yk' = .o q Ks'.length ∧ bs.length + 2 < q ∧ b'[q]? = some (.own (Ks'.map SV.str) 9 1 Ks'.length true))
    (hri : (y' = .nils ∧ Ls' = []) ∨ ∃ q,0 < Ls'.length ∧ y' = .o q Ls'.length ∧ bs.length + 2 < q ∧ b'[q]? = some (.own (Ls'.flatMap tv) 25 4 Ls'.length true))
    (hjs : Ro b b' → TJs b' Js' Ls') (hjb : JBs (s.length + 410) Js') (hkb : ∀ x ∈ Ks',x.length ≤ s.length + 410) : AS K s bs p d a n f w k u pos yk' y' Ks' Ls' Js' t b' := by
  have hpl := h.pl
  refine { h with kp := ⟨Nat.le_trans h.kp.1 hl,fun i hi hn => ?_,hkeep p _ h.kp.2.2 (by omega) (.inl (by omega))⟩,b0 := hkeep _ _ h.b0 (by omega) (.inl (by omega)),b1 := hb1,b2 := hkeep _ _ h.b2 (by omega) (.inl (by omega)),rk := hrk,ri := hri,js := hjs ?_,jb := hjb,kb := hkb }
  · have e := h.kp.2.1 i hi hn
    have hbi := List.getElem?_eq_getElem hi
    rw [hbi] at e ⊢
    exact hkeep i _ e (by omega) (.inl (by omega))
  · intro i c e z n' hi
    refine hkeep i _ hi ?_ (.inr (by intro _ _ _ _ e; cases e))
    rintro rfl
    rw [h.b1] at hi; cases hi
theorem tjs_snoc {b : List Res} {j : Jv} {v : Tv} {Js : List Jv} {Ls : List Tv} (h : TJs b Js Ls) (hj : TJ b j v) : TJs b (Js ++ [j]) (Ls ++ [v]) := by
  refine h.app (L2 := [j]) (Ls2 := [v]) ?_
  rw [TJs]
  exact ⟨v,[],rfl,hj,by rw [TJs]⟩
theorem vcS_block {V : Cx} {n : Nat} {E : Fin} {f id : Nat} {x : Code} {k : List Vc.Item} {σ : St} (h : vcS V n E f (.code x :: .endb id :: k) σ) : vcS V n E (f + 1) (.code (.block id x) :: k) σ := by
  simp only [vcS]
  exact h
set_option maxHeartbeats 32000000 in
theorem sc_r14_object {s : Bytes} (hs : s.length ≤ 1000000) {d : Nat} (hV : VlOK s d) : RdOK s 58 d := by
  intro bs p a0 n0 f0 w0 hp ha hn hfn
  refine SC.dimAll ?_
  have hpl := (List.getElem?_eq_some_iff.1 hp).1
  have hk0 := KpP.of (p := p) hp (Kp.refl bs)
  refine sc_of 3000 Tryz.func58 rfl Tryz.ntmps58 Tryz.results58 Tryz.call58 (by simp) (fun β β' hb => concL_within bs.length _ (by simp [within,within.withinL,hpl]) β β' hb) ?_
  obtain ⟨k,u,pos,a,f,w,g1,g2,g3,g4,hnx⟩ := sx_r14_next s (by omega) a0 n0 f0 w0 ha
  refine vcS_cutS 2900 (fun σ => lk 0 σ.t = some (.p p 0) ∧ lk 1 σ.t = some (.int .i64 d) ∧ lk 4 σ.t = some (.p bs.length 0) ∧ σ.b = bs ++ [.cells zv 25 true]) ?_ (fun k' hk' => ?_)
  rotate_left
  · simp only [lawG,↓Xn,↓Xo,↓Xg,↓Xd,↓Xe,↓Xf,Tryz.VΓ,Tryz.Γs,Xp,Xi,Nat.reduceAdd,Nat.reduceSub,Nat.reduceLT,Nat.reduceLeDiff,reduceIte,reduceCtorEq,Nat.reduceEqDiff,implies_true,forall_const,lawV,lawA,beq_self_eq_true,bne_self_eq_false,Int.reduceBEq,Int.reduceBNe,Int.reduceLT,Int.reduceLE]
    exact hk' _ _ ⟨rfl,rfl,rfl,rfl⟩
  rintro m ⟨t,b⟩ ⟨h0,h1,h4,rfl⟩
  simp only at h0 h1 h4
  refine vcS_cutS 2800 (fun σ => lk 0 σ.t = some (.p p 0) ∧ lk 1 σ.t = some (.int .i64 d) ∧ lk 4 σ.t = some (.p bs.length 0) ∧ lk 5 σ.t = some (.p (bs.length + 1) 0) ∧ σ.b = bs ++ [.cells zv 25 true,.cells [.int .i64 7,.str [],.nils,.nils] 25 true]) ?_ (fun k' hk' => ?_)
  rotate_left
  · simp only [lawG,↓Xn,↓Xo,↓Xg,↓Xd,↓Xe,↓Xf,Tryz.VΓ,Tryz.Γs,Xp,Xi,Nat.reduceAdd,Nat.reduceSub,Nat.reduceLT,Nat.reduceLeDiff,reduceIte,reduceCtorEq,Nat.reduceEqDiff,implies_true,forall_const,lawV,lawA,beq_self_eq_true,bne_self_eq_false,Int.reduceBEq,Int.reduceBNe,Int.reduceLT,Int.reduceLE,h0,h1,h4]
    exact hk' _ _ ⟨by simp [lk,h0],by simp [lk,h1],by simp [lk,h4],rfl,rfl⟩
  rintro m ⟨t,b⟩ ⟨h0,h1,h4,h5,rfl⟩
  simp only at h0 h1 h4 h5
  refine vcS_cutS 2700 (fun σ => AS 7 s bs p d a n0 f w k u pos .nils .nils [] [] [] σ.t σ.b) ?_ (fun k' hk' => ?_)
  rotate_left
  · have hn' := hnx (bs ++ [.cells zv 25 true,.cells [.int .i64 7,.str [],.nils,.nils] 25 true]) p (at_old hp _)
    simp only [lawG,↓Xn,↓Xo,↓Xg,↓Xd,↓Xe,↓Xf,Tryz.VΓ,Tryz.Γs,Xp,Xi,Nat.reduceAdd,Nat.reduceSub,Nat.reduceLT,Nat.reduceLeDiff,reduceIte,reduceCtorEq,Nat.reduceEqDiff,implies_true,forall_const,lawV,lawA,beq_self_eq_true,bne_self_eq_false,Int.reduceBEq,Int.reduceBNe,Int.reduceLT,Int.reduceLE,h0,h1,h4,h5]
    refine callV_sc hn' ?_
    rintro r b ⟨rfl,rfl⟩
    unfold tok
    simp only [lawG,↓Xn,↓Xo,↓Xg,↓Xd,↓Xe,↓Xf,Tryz.VΓ,Tryz.Γs,Xp,Xi,Nat.reduceAdd,Nat.reduceSub,Nat.reduceLT,Nat.reduceLeDiff,reduceIte,reduceCtorEq,Nat.reduceEqDiff,implies_true,forall_const,lawV,lawA,beq_self_eq_true,bne_self_eq_false,Int.reduceBEq,Int.reduceBNe,Int.reduceLT,Int.reduceLE,h0,h1,h4,h5]
    exact hk' _ _ (AS.init hp g3 (by simp [lk,h0]) (by simp [lk,h1]) (by simp [lk,h4]) (by simp [lk,h5]) (by simp [lk]))
  clear h0 h1 h4 h5
  rintro m ⟨t,b⟩ h
  simp only at h
  refine vcS_cutS 2600 (fun σ => AS 7 s bs p d a n0 f w k u pos .nils .nils [] [] [] σ.t σ.b) ?_ (fun k' hk' => ?_)
  rotate_left
  · have i1 := p_r14_is k u pos [125]
    have hb2 := h.b2
    (have hones : (one _ && one _) = true := (h).ones
     have hb0 := (h).b0
     have hb1 := (h).b1
     have hl0 := (List.getElem?_eq_some_iff.1 hb0).1
     have hg0 : ∀ X,(b.set bs.length X)[bs.length]? = some X := fun X => List.getElem?_set_self hl0
     have m0 := (h).l0
     have m4 := (h).l4
     have m5 := (h).l5
     have m6 := (h).l6
     unfold zv at hb0)
    unfold tok at i1 hb2
    simp only [lawG,↓Xn,↓Xo,↓Xg,↓Xd,↓Xe,↓Xf,Tryz.VΓ,Tryz.Γs,Xp,Xi,Nat.reduceAdd,Nat.reduceSub,Nat.reduceLT,Nat.reduceLeDiff,reduceIte,reduceCtorEq,Nat.reduceEqDiff,implies_true,forall_const,lawV,lawA,beq_self_eq_true,bne_self_eq_false,Int.reduceBEq,Int.reduceBNe,Int.reduceLT,Int.reduceLE,m6,hb2]
    refine callV_pc i1 ?_
    cases c1 : (k == 2 && u == [125])
    · simp only [lawG,↓Xn,↓Xo,↓Xg,↓Xd,↓Xe,↓Xf,Tryz.VΓ,Tryz.Γs,Xp,Xi,Nat.reduceAdd,Nat.reduceSub,Nat.reduceLT,Nat.reduceLeDiff,reduceIte,reduceCtorEq,Nat.reduceEqDiff,implies_true,forall_const,lawV,lawA,beq_self_eq_true,bne_self_eq_false,Int.reduceBEq,Int.reduceBNe,Int.reduceLT,Int.reduceLE]
      exact hk' _ _ (h.mv (by simp [SL,lk]))
    · simp only [lawG,↓Xn,↓Xo,↓Xg,↓Xd,↓Xe,↓Xf,Tryz.VΓ,Tryz.Γs,Xp,Xi,Nat.reduceAdd,Nat.reduceSub,Nat.reduceLT,Nat.reduceLeDiff,reduceIte,reduceCtorEq,Nat.reduceEqDiff,implies_true,forall_const,lawV,lawA,beq_self_eq_true,bne_self_eq_false,Int.reduceBEq,Int.reduceBNe,Int.reduceLT,Int.reduceLE,m0,m4,m5,m6,hb1,hg0,hb0]
      exact h.out g1 g2 hn (fun e => ⟨hfn (g4 e).1,(g4 e).1⟩) hs (by simp) (by simp) _
  clear h
  rintro m ⟨t,b⟩ h
  simp only at h
  refine vcS_cutS 2500 (OI s bs p d a0 f0) ?_ (fun k' hk' => ?_)
  rotate_left
  · have h0' : OI s bs p d a0 f0 ⟨t,b⟩ := ⟨a,n0,f,w,k,u,pos,.nils,.nils,[],[],[],h,rfl,g1,g2,hn,fun e => ⟨hfn (g4 e).1,(g4 e).1⟩,by simp; split <;> omega⟩
    simp only [lawG,↓Xn,↓Xo,↓Xg,↓Xd,↓Xe,↓Xf,Tryz.VΓ,Tryz.Γs,Xp,Xi,Nat.reduceAdd,Nat.reduceSub,Nat.reduceLT,Nat.reduceLeDiff,reduceIte,reduceCtorEq,Nat.reduceEqDiff,implies_true,forall_const,lawV,lawA,beq_self_eq_true,bne_self_eq_false,Int.reduceBEq,Int.reduceBNe,Int.reduceLT,Int.reduceLE]
    refine loopV_mk (OI s bs p d a0 f0) (muP p) h0' ?_
    clear h h0' g1 g2 g3 g4 hnx
    clear a f w k u pos
    rintro ⟨t,b⟩ ⟨a,n,f,w,k,u,pos,yk,y,Ks,Ls,Js,h,hKJ,e1,e2,e3,e4,e5⟩
    simp only at h
    rw [h.mu]
    have hbp := h.pp
    unfold pbox pcl at hbp
    have m0 := h.l0
    by_cases hf : f = 0
    rotate_left
    · have hb : (f == 0) = false := by simp [hf]
      simp only [lawG,↓Xn,↓Xo,↓Xg,↓Xd,↓Xe,↓Xf,Tryz.VΓ,Tryz.Γs,Xp,Xi,Nat.reduceAdd,Nat.reduceSub,Nat.reduceLT,Nat.reduceLeDiff,reduceIte,reduceCtorEq,Nat.reduceEqDiff,implies_true,forall_const,lawV,lawA,beq_self_eq_true,bne_self_eq_false,Int.reduceBEq,Int.reduceBNe,Int.reduceLT,Int.reduceLE,m0,hbp,hb]
      exact hk' _ _ ⟨a,n,f,w,k,u,pos,yk,y,Ks,Ls,Js,h.mv (by simp [SL,lk]),hKJ,e1,e2,e3,e4,e5⟩
    subst hf
    obtain ⟨hn20,hf0⟩ := e4 rfl
    have e5' : Js.length + 1 + (s.length - a) ≤ s.length + 1 := by simp at e5; omega
    clear e4 e5 hfn
    have hLJ := h.js.len
    refine vcS_cutS 2450 (fun σ => AS 7 s bs p d a n 0 w k u pos yk y Ks Ls Js σ.t σ.b) ?_ (fun k' hk' => ?_)
    rotate_left
    · simp only [lawG,↓Xn,↓Xo,↓Xg,↓Xd,↓Xe,↓Xf,Tryz.VΓ,Tryz.Γs,Xp,Xi,Nat.reduceAdd,Nat.reduceSub,Nat.reduceLT,Nat.reduceLeDiff,reduceIte,reduceCtorEq,Nat.reduceEqDiff,implies_true,forall_const,lawV,lawA,beq_self_eq_true,bne_self_eq_false,Int.reduceBEq,Int.reduceBNe,Int.reduceLT,Int.reduceLE,m0,hbp]
      exact hk' _ _ (h.mv (by simp [SL,lk]))
    clear h hbp m0
    rintro m ⟨t,b⟩ h
    simp only at h
    refine vcS_block ?_
    refine vcS_cutS 2400 (fun σ => ∃ f1 w1 : Int,AS 7 s bs p d a n f1 w1 k u pos yk y Ks Ls Js σ.t σ.b) ?_ (fun k' hk' => ?_)
    rotate_left
    · have hb2 := h.b2
      unfold tok at hb2
      have m0 := h.l0
      have m6 := h.l6
      have hst := sc_r14_stop h.pp pos 140
      have hA := h.setp a n (stF 0 140) (stW 0 w pos)
      cases k3 : k != 3
      · simp only [lawG,↓Xn,↓Xo,↓Xg,↓Xd,↓Xe,↓Xf,Tryz.VΓ,Tryz.Γs,Xp,Xi,Nat.reduceAdd,Nat.reduceSub,Nat.reduceLT,Nat.reduceLeDiff,reduceIte,reduceCtorEq,Nat.reduceEqDiff,implies_true,forall_const,lawV,lawA,beq_self_eq_true,bne_self_eq_false,Int.reduceBEq,Int.reduceBNe,Int.reduceLT,Int.reduceLE,m0,m6,hb2,k3]
        exact hk' _ _ ⟨_,_,h.mv (by simp [SL,lk])⟩
      · simp only [lawG,↓Xn,↓Xo,↓Xg,↓Xd,↓Xe,↓Xf,Tryz.VΓ,Tryz.Γs,Xp,Xi,Nat.reduceAdd,Nat.reduceSub,Nat.reduceLT,Nat.reduceLeDiff,reduceIte,reduceCtorEq,Nat.reduceEqDiff,implies_true,forall_const,lawV,lawA,beq_self_eq_true,bne_self_eq_false,Int.reduceBEq,Int.reduceBNe,Int.reduceLT,Int.reduceLE,m0,m6,hb2,k3]
        refine callV_sc hst ?_
        rintro r b' ⟨rfl,rfl⟩
        simp only [lawG,↓Xn,↓Xo,↓Xg,↓Xd,↓Xe,↓Xf,Tryz.VΓ,Tryz.Γs,Xp,Xi,Nat.reduceAdd,Nat.reduceSub,Nat.reduceLT,Nat.reduceLeDiff,reduceIte,reduceCtorEq,Nat.reduceEqDiff,implies_true,forall_const,lawV,lawA,beq_self_eq_true,bne_self_eq_false,Int.reduceBEq,Int.reduceBNe,Int.reduceLT,Int.reduceLE]
        exact hk' _ _ ⟨_,_,hA.mv (by simp [SL,lk])⟩
    clear h
    rintro m ⟨t,b⟩ ⟨f1,w1,h⟩
    simp only at h
    refine vcS_cutS 2350 (fun σ => ∃ f1 w1 : Int,AS 7 s bs p d a n f1 w1 k u pos yk y Ks Ls Js σ.t σ.b) ?_ (fun k' hk' => ?_)
    rotate_left
    · have hb2 := h.b2
      have hb1 := h.b1
      unfold tok at hb2
      have m0 := h.l0
      have m5 := h.l5
      have m6 := h.l6
      have v3 := h.onek
      have v4 := h.oney
      have hget := sc_r14_GetR (key := u) (by rcases h.rk with e | ⟨q,z1,z2,z3,z4⟩; exact .inl e; exact .inr ⟨q,z1,z2,z4⟩) (by rcases h.ri with e | ⟨q,z1,z2,z3,z4⟩; exact .inl e; exact .inr ⟨q,z1,z2,z4⟩) h.js.tin (by omega) (by omega)
      simp only [lawG,↓Xn,↓Xo,↓Xg,↓Xd,↓Xe,↓Xf,Tryz.VΓ,Tryz.Γs,Xp,Xi,Nat.reduceAdd,Nat.reduceSub,Nat.reduceLT,Nat.reduceLeDiff,reduceIte,reduceCtorEq,Nat.reduceEqDiff,implies_true,forall_const,lawV,lawA,beq_self_eq_true,bne_self_eq_false,Int.reduceBEq,Int.reduceBNe,Int.reduceLT,Int.reduceLE,m0,m5,m6,hb1,hb2,v3,v4]
      refine callV_sc hget ?_
      rintro r b' ⟨x,ok,rfl,hx,hkk⟩
      obtain ⟨-,-,x3,x4⟩ := hx
      have hxo : (one x.xk && one x.xi) = true := by rw [x3,x4]; rfl
      have h2 := h.call (KpP.of h.pp hkk)
      have hA := h2.app [.cells (tv x) 25 true]
      unfold tv at hA ⊢
      cases ok
      · simp only [lawG,↓Xn,↓Xo,↓Xg,↓Xd,↓Xe,↓Xf,Tryz.VΓ,Tryz.Γs,Xp,Xi,Nat.reduceAdd,Nat.reduceSub,Nat.reduceLT,Nat.reduceLeDiff,reduceIte,reduceCtorEq,Nat.reduceEqDiff,implies_true,forall_const,lawV,lawA,beq_self_eq_true,bne_self_eq_false,Int.reduceBEq,Int.reduceBNe,Int.reduceLT,Int.reduceLE,hxo]
        exact hk' _ _ ⟨_,_,hA.mv (by simp [SL,lk])⟩
      · have hb2' := hA.b2
        unfold tok at hb2'
        have hst := sc_r14_stop hA.pp pos 143
        have hA2 := hA.setp a n (stF f1 143) (stW f1 w1 pos)
        simp only [lawG,↓Xn,↓Xo,↓Xg,↓Xd,↓Xe,↓Xf,Tryz.VΓ,Tryz.Γs,Xp,Xi,Nat.reduceAdd,Nat.reduceSub,Nat.reduceLT,Nat.reduceLeDiff,reduceIte,reduceCtorEq,Nat.reduceEqDiff,implies_true,forall_const,lawV,lawA,beq_self_eq_true,bne_self_eq_false,Int.reduceBEq,Int.reduceBNe,Int.reduceLT,Int.reduceLE,hxo,m0,m6,hb2']
        refine callV_sc hst ?_
        rintro r b' ⟨rfl,rfl⟩
        simp only [lawG,↓Xn,↓Xo,↓Xg,↓Xd,↓Xe,↓Xf,Tryz.VΓ,Tryz.Γs,Xp,Xi,Nat.reduceAdd,Nat.reduceSub,Nat.reduceLT,Nat.reduceLeDiff,reduceIte,reduceCtorEq,Nat.reduceEqDiff,implies_true,forall_const,lawV,lawA,beq_self_eq_true,bne_self_eq_false,Int.reduceBEq,Int.reduceBNe,Int.reduceLT,Int.reduceLE]
        exact hk' _ _ ⟨_,_,hA2.mv (by simp [SL,lk])⟩
    clear h f1 w1
    rintro m ⟨t,b⟩ ⟨f1,w1,h⟩
    simp only at h
    refine vcS_cutS 2300 (fun σ => AS 7 s bs p d a n f1 w1 k u pos yk y Ks Ls Js σ.t σ.b ∧ lk 9 σ.t = some (.str u)) ?_ (fun k' hk' => ?_)
    rotate_left
    · have hb2 := h.b2
      unfold tok at hb2
      have m6 := h.l6
      simp only [lawG,↓Xn,↓Xo,↓Xg,↓Xd,↓Xe,↓Xf,Tryz.VΓ,Tryz.Γs,Xp,Xi,Nat.reduceAdd,Nat.reduceSub,Nat.reduceLT,Nat.reduceLeDiff,reduceIte,reduceCtorEq,Nat.reduceEqDiff,implies_true,forall_const,lawV,lawA,beq_self_eq_true,bne_self_eq_false,Int.reduceBEq,Int.reduceBNe,Int.reduceLT,Int.reduceLE,m6,hb2]
      exact hk' _ _ ⟨h.mv (by simp [SL,lk]),rfl⟩
    have hul := h.ul
    clear h
    rintro m ⟨t,b⟩ ⟨h,h9⟩
    simp only at h h9
    obtain ⟨k2,u2,pos2,a2,f2,w2,r1,r2,r3,r4,hnx⟩ := sx_r14_next s (by omega) a n f1 w1 e2
    refine vcS_cutS 2250 (fun σ => ∃ f3 w3 : Int,AS 7 s bs p d a2 n f3 w3 k2 u2 pos2 yk y Ks Ls Js σ.t σ.b ∧ lk 9 σ.t = some (.str u)) ?_ (fun k' hk' => ?_)
    rotate_left
    · refine vcS_cutS 2270 (fun σ => AS 7 s bs p d a2 n f2 w2 k2 u2 pos2 yk y Ks Ls Js σ.t σ.b ∧ lk 9 σ.t = some (.str u)) ?_ (fun k' hk' => ?_)
      rotate_left
      · have hn' := hnx b p h.pp
        have h2 := h.setp a2 n f2 w2
        have hb2 := h2.b2
        have hA := h2.setk k2 pos2 r3
        have m0 := h.l0
        have m6 := h.l6
        unfold tok at hn' hb2 hA
        simp only [lawG,↓Xn,↓Xo,↓Xg,↓Xd,↓Xe,↓Xf,Tryz.VΓ,Tryz.Γs,Xp,Xi,Nat.reduceAdd,Nat.reduceSub,Nat.reduceLT,Nat.reduceLeDiff,reduceIte,reduceCtorEq,Nat.reduceEqDiff,implies_true,forall_const,lawV,lawA,beq_self_eq_true,bne_self_eq_false,Int.reduceBEq,Int.reduceBNe,Int.reduceLT,Int.reduceLE,m0,m6]
        refine callV_sc hn' ?_
        rintro r b' ⟨rfl,rfl⟩
        simp only [lawG,↓Xn,↓Xo,↓Xg,↓Xd,↓Xe,↓Xf,Tryz.VΓ,Tryz.Γs,Xp,Xi,Nat.reduceAdd,Nat.reduceSub,Nat.reduceLT,Nat.reduceLeDiff,reduceIte,reduceCtorEq,Nat.reduceEqDiff,implies_true,forall_const,lawV,lawA,beq_self_eq_true,bne_self_eq_false,Int.reduceBEq,Int.reduceBNe,Int.reduceLT,Int.reduceLE,m0,m6,hb2]
        exact hk' _ _ ⟨hA.mv (by simp [SL,lk]),by simp [lk,h9]⟩
      clear h h9
      rintro m ⟨t,b⟩ ⟨h,h9⟩
      simp only at h h9
      have i1 := p_r14_is k2 u2 pos2 [58]
      have hb2 := h.b2
      have hbp := h.pp
      have m0 := h.l0
      have m6 := h.l6
      unfold tok at i1 hb2
      have hst := sc_r14_stop h.pp pos2 140
      have hA := h.setp a2 n (stF f2 140) (stW f2 w2 pos2)
      unfold pbox pcl at hbp
      cases c0 : f2 == 0
      · simp only [lawG,↓Xn,↓Xo,↓Xg,↓Xd,↓Xe,↓Xf,Tryz.VΓ,Tryz.Γs,Xp,Xi,Nat.reduceAdd,Nat.reduceSub,Nat.reduceLT,Nat.reduceLeDiff,reduceIte,reduceCtorEq,Nat.reduceEqDiff,implies_true,forall_const,lawV,lawA,beq_self_eq_true,bne_self_eq_false,Int.reduceBEq,Int.reduceBNe,Int.reduceLT,Int.reduceLE,m0,m6,hb2,hbp,c0]
        exact hk' _ _ ⟨f2,w2,h.mv (by simp [SL,lk]),by simp [lk,h9]⟩
      · simp only [lawG,↓Xn,↓Xo,↓Xg,↓Xd,↓Xe,↓Xf,Tryz.VΓ,Tryz.Γs,Xp,Xi,Nat.reduceAdd,Nat.reduceSub,Nat.reduceLT,Nat.reduceLeDiff,reduceIte,reduceCtorEq,Nat.reduceEqDiff,implies_true,forall_const,lawV,lawA,beq_self_eq_true,bne_self_eq_false,Int.reduceBEq,Int.reduceBNe,Int.reduceLT,Int.reduceLE,m0,m6,hb2,hbp,c0]
        refine callV_pc i1 ?_
        cases c1 : (k2 == 2 && u2 == [58])
        · simp only [lawG,↓Xn,↓Xo,↓Xg,↓Xd,↓Xe,↓Xf,Tryz.VΓ,Tryz.Γs,Xp,Xi,Nat.reduceAdd,Nat.reduceSub,Nat.reduceLT,Nat.reduceLeDiff,reduceIte,reduceCtorEq,Nat.reduceEqDiff,implies_true,forall_const,lawV,lawA,beq_self_eq_true,bne_self_eq_false,Int.reduceBEq,Int.reduceBNe,Int.reduceLT,Int.reduceLE,m0,m6,hb2,Bool.not_false]
          refine callV_sc hst ?_
          rintro r b' ⟨rfl,rfl⟩
          simp only [lawG,↓Xn,↓Xo,↓Xg,↓Xd,↓Xe,↓Xf,Tryz.VΓ,Tryz.Γs,Xp,Xi,Nat.reduceAdd,Nat.reduceSub,Nat.reduceLT,Nat.reduceLeDiff,reduceIte,reduceCtorEq,Nat.reduceEqDiff,implies_true,forall_const,lawV,lawA,beq_self_eq_true,bne_self_eq_false,Int.reduceBEq,Int.reduceBNe,Int.reduceLT,Int.reduceLE]
          exact hk' _ _ ⟨_,_,hA.mv (by simp [SL,lk]),by simp [lk,h9]⟩
        · simp only [lawG,↓Xn,↓Xo,↓Xg,↓Xd,↓Xe,↓Xf,Tryz.VΓ,Tryz.Γs,Xp,Xi,Nat.reduceAdd,Nat.reduceSub,Nat.reduceLT,Nat.reduceLeDiff,reduceIte,reduceCtorEq,Nat.reduceEqDiff,implies_true,forall_const,lawV,lawA,beq_self_eq_true,bne_self_eq_false,Int.reduceBEq,Int.reduceBNe,Int.reduceLT,Int.reduceLE,m0,m6,hb2,Bool.not_true]
          exact hk' _ _ ⟨f2,w2,h.mv (by simp [SL,lk]),by simp [lk,h9]⟩
    clear h h9
    rintro m ⟨t,b⟩ ⟨f3,w3,h,h9⟩
    simp only at h h9
    obtain ⟨k4,u4,pos4,a4,f4,w4,x1,x2,x3,x4,hnx4⟩ := sx_r14_next s (by omega) a2 n f3 w3 r2
    refine vcS_cutS 2200 (fun σ => ∃ (a5 n5 : Nat) (f5 w5 : Int) (j : Jv) (v : Tv) (q : Nat),AS 7 s bs p d a5 n5 f5 w5 k2 u2 pos2 yk y Ks Ls Js σ.t σ.b ∧ a4 ≤ a5 ∧ a5 ≤ s.length ∧ n5 ≤ 20001 ∧ (f5 = 0 → n5 ≤ 20000) ∧ lk 9 σ.t = some (.str u) ∧ lk 10 σ.t = some (.p q 0) ∧ bs.length + 2 < q ∧ σ.b[q]? = some (.cells (tv v) 25 true) ∧ TJ σ.b j v ∧ JB (s.length + 410) j) ?_ (fun k' hk' => ?_)
    rotate_left
    · have hn' := hnx4 b p h.pp
      have h2 := h.setp a4 n f4 w4
      have hcall := hV _ p a4 n f4 w4 k4 u4 pos4 h2.pp x2 (by omega) (fun _ => hn20) x3
      have m0 := h.l0
      have m1 := h.l1
      simp only [lawG,↓Xn,↓Xo,↓Xg,↓Xd,↓Xe,↓Xf,Tryz.VΓ,Tryz.Γs,Xp,Xi,Nat.reduceAdd,Nat.reduceSub,Nat.reduceLT,Nat.reduceLeDiff,reduceIte,reduceCtorEq,Nat.reduceEqDiff,implies_true,forall_const,lawV,lawA,beq_self_eq_true,bne_self_eq_false,Int.reduceBEq,Int.reduceBNe,Int.reduceLT,Int.reduceLE,m0,m1]
      refine callV_sc hn' ?_
      rintro r b' ⟨rfl,rfl⟩
      simp only [lawG,↓Xn,↓Xo,↓Xg,↓Xd,↓Xe,↓Xf,Tryz.VΓ,Tryz.Γs,Xp,Xi,Nat.reduceAdd,Nat.reduceSub,Nat.reduceLT,Nat.reduceLeDiff,reduceIte,reduceCtorEq,Nat.reduceEqDiff,implies_true,forall_const,lawV,lawA,beq_self_eq_true,bne_self_eq_false,Int.reduceBEq,Int.reduceBNe,Int.reduceLT,Int.reduceLE,m0,m1]
      refine callV_sc hcall ?_
      rintro r b' ⟨a5,n5,f5,w5,q1,q2,q3,q4,gk,j,v,rfl,hj,hjb⟩
      have h3 := h2.call gk
      have hA := h3.app [.cells (tv v) 25 true]
      obtain ⟨-,-,v3,v4⟩ := hj.tin
      have ho : (one v.xk && one v.xi) = true := by rw [v3,v4]; rfl
      unfold tv at hA ⊢
      simp only [lawG,↓Xn,↓Xo,↓Xg,↓Xd,↓Xe,↓Xf,Tryz.VΓ,Tryz.Γs,Xp,Xi,Nat.reduceAdd,Nat.reduceSub,Nat.reduceLT,Nat.reduceLeDiff,reduceIte,reduceCtorEq,Nat.reduceEqDiff,implies_true,forall_const,lawV,lawA,beq_self_eq_true,bne_self_eq_false,Int.reduceBEq,Int.reduceBNe,Int.reduceLT,Int.reduceLE,ho]
      exact hk' _ _ ⟨a5,n5,f5,w5,j,v,b'.length,hA.mv (by simp [SL,lk]),q1,q2,q3,fun e => (q4 e).1,by simp [lk,h9],rfl,(List.getElem?_eq_some_iff.1 h3.b2).1,app_at0 _ _,hj.ro ((Ro.refl _).app _),hjb⟩
    clear h h9
    rintro m ⟨t,b⟩ ⟨a5,n5,f5,w5,j,v,q,h,q1,q2,q3,q4,h9,h10,hq,hbq,hj,hjb⟩
    simp only at h h9 h10 hbq hj
    refine vcS_cutS 2150 (fun σ => ∃ (yk' y' : SV),AS 7 s bs p d a5 n5 f5 w5 k2 u2 pos2 yk' y' (Ks ++ [u]) (Ls ++ [v]) (Js ++ [j]) σ.t σ.b) ?_ (fun k' hk' => ?_)
    rotate_left
    · have m5 := h.l5
      have hb1 := h.b1
      have hl1 := (List.getElem?_eq_some_iff.1 hb1).1
      obtain ⟨-,-,v3,v4⟩ := hj.tin
      have ho : (one v.xk && one v.xi) = true := by rw [v3,v4]; rfl
      unfold tv at hbq
      have hset : ∀ (l : List Res) X,(b ++ l).set (bs.length + 1) X = b.set (bs.length + 1) X ++ l := fun l X => app_setL hl1 l X
      rcases h.rk with ⟨rfl,rfl⟩ | ⟨qk,hk0,rfl,hqk,hbk⟩
      · have hJ0 : Js = [] := List.length_eq_zero_iff.1 hKJ.symm
        subst hJ0
        have hL0 : Ls = [] := List.length_eq_zero_iff.1 hLJ
        subst hL0
        obtain ⟨rfl,-⟩ : y = .nils ∧ True := by
          rcases h.ri with ⟨rfl,-⟩ | ⟨_,h0,-⟩
          · exact ⟨rfl,trivial⟩
          · exact absurd h0 (by simp)
        have hgs : ∀ X (l : List Res),(b.set (bs.length + 1) X ++ l)[bs.length + 1]? = some X := fun X l => get_setS hl1 X l
        have hss : ∀ X Y (l : List Res),(b.set (bs.length + 1) X ++ l).set (bs.length + 1) Y = b.set (bs.length + 1) Y ++ l := fun X Y l => by rw [app_setL (by simpa using hl1),List.set_set]
        have z1 : (b.length = bs.length + 1) = False := eq_false (by omega)
        have z2 : (b.length + 1 = bs.length + 1) = False := eq_false (by omega)
        have z3 : (b.length + 2 = bs.length + 1) = False := eq_false (by omega)
        have z4 : (b.length + 3 = bs.length + 1) = False := eq_false (by omega)
        have hqb := (List.getElem?_eq_some_iff.1 hbq).1
        have z5 : (q = bs.length + 1) = False := eq_false (by omega)
        have z6 : (b.length = q) = False := eq_false (by omega)
        have z7 : (b.length + 1 = q) = False := eq_false (by omega)
        have z8 : (b.length + 2 = q) = False := eq_false (by omega)
        have z9 : (b.length + 3 = q) = False := eq_false (by omega)
        have e2' : b.length + 2 - b.length = 2 := by omega
        have e3' : b.length + 3 - b.length = 3 := by omega
        simp only [lawG,↓Xn,↓Xo,↓Xg,↓Xd,↓Xe,↓Xf,Tryz.VΓ,Tryz.Γs,Xp,Xi,Nat.reduceAdd,Nat.reduceSub,Nat.reduceLT,Nat.reduceLeDiff,reduceIte,reduceCtorEq,Nat.reduceEqDiff,implies_true,forall_const,lawV,lawA,beq_self_eq_true,bne_self_eq_false,Int.reduceBEq,Int.reduceBNe,Int.reduceLT,Int.reduceLE,m5,h9,h10,hb1,hbq,at_old hb1,at_old hbq,hset,ho,hgs,hss]
        refine ⟨by omega,⟨by unfold maxLen; omega,by omega⟩,by omega,⟨by unfold maxLen; omega,by omega⟩,?_,hk' _ _ ⟨_,_,AS.mv (AS.re h (b' := b.set (bs.length + 1) (.cells [.int .i64 7,.str [],.o (b.length + 1) 1,.o (b.length + 3) 1] 25 true) ++ [_,.own [.str u] 9 1 1 true,_,.own (tv v) 25 4 1 true]) ?_ (by simp) (get_setS hl1 _ _) (.inr ⟨b.length + 1,by simp,rfl,by omega,?_⟩) (.inr ⟨b.length + 3,by simp,rfl,by omega,?_⟩) (fun hro => tjs_snoc (h.js.ro hro) (hj.ro hro)) (JBs.snoc hjb h.jb) ?_) (by simp [SL,lk])⟩⟩
        · refine OkD_ren (fun n => if n = bs.length + 1 then 0 else if n = q then 1 else n - b.length + 2) ?_
          simp only [List.map_cons,List.map_nil,renRk,renT,Nat.add_sub_cancel_left,Nat.sub_self,z1,z2,z3,z4,z5,z6,z7,z8,z9,e2',e3',eq_self,if_true,if_false]
          exact OkD_fast (by kernel_rfl)
        · intro i r hi hne _
          exact at_old (get_setN hi (by omega) _) _
        · rw [app_atL (by simp)]; simp
        · rw [app_atL (by simp)]; simp
        · intro x hx
          rw [List.nil_append,List.mem_singleton] at hx
          rw [hx]; omega
      · obtain ⟨qi,hi0,rfl,hqi,hbi⟩ : ∃ qi,0 < Ls.length ∧ y = .o qi Ls.length ∧ bs.length + 2 < qi ∧ b[qi]? = some (.own (Ls.flatMap tv) 25 4 Ls.length true) := by
          rcases h.ri with ⟨-,e⟩ | e
          · rw [e] at hLJ; simp at hLJ; omega
          · exact e
        have hki : qk ≠ qi := by
          rintro rfl
          rw [hbk] at hbi; simp at hbi
        have hqqk : qk ≠ q := by rintro rfl; rw [hbk] at hbq; cases hbq
        have hqqi : qi ≠ q := by rintro rfl; rw [hbi] at hbq; cases hbq
        have hkl := (List.getElem?_eq_some_iff.1 hbk).1
        have hil := (List.getElem?_eq_some_iff.1 hbi).1
        have hqb := (List.getElem?_eq_some_iff.1 hbq).1
        have c1 : ∀ (l : List Res) X,(b ++ l).set qk X = b.set qk X ++ l := fun l X => app_setL hkl l X
        have c2 := fun Y => at_old (get_setN hbi hki Y)
        have c3 : ∀ (l : List Res) Y X,(b.set qk Y ++ l).set qi X = (b.set qk Y).set qi X ++ l := fun l Y X => app_setL (by simpa using hil) l X
        have c4 := fun Y => at_old (get_setN hb1 (show qk ≠ bs.length + 1 by omega) Y)
        have c5 := fun Y => at_old (get_setN hbq hqqk Y)
        have c6 := fun Y Z => at_old (get_setN (get_setN hb1 (show qk ≠ bs.length + 1 by omega) Y) (show qi ≠ bs.length + 1 by omega) Z)
        have c7 : ∀ (l : List Res) Y Z X,((b.set qk Y).set qi Z ++ l).set (bs.length + 1) X = ((b.set qk Y).set qi Z).set (bs.length + 1) X ++ l := fun l Y Z X => app_setL (by simpa using hl1) l X
        have hgs : ∀ Y Z X (l : List Res),(((b.set qk Y).set qi Z).set (bs.length + 1) X ++ l)[bs.length + 1]? = some X := fun Y Z X l => get_setS (by simpa using hl1) X l
        have hss : ∀ Y Z X X' (l : List Res),(((b.set qk Y).set qi Z).set (bs.length + 1) X ++ l).set (bs.length + 1) X' = ((b.set qk Y).set qi Z).set (bs.length + 1) X' ++ l := fun Y Z X X' l => by rw [app_setL (by simpa using hl1),List.set_set]
        have z1 : (b.length = bs.length + 1) = False := eq_false (by omega)
        have z2 : (b.length + 1 = bs.length + 1) = False := eq_false (by omega)
        have z3 : (b.length + 2 = bs.length + 1) = False := eq_false (by omega)
        have z4 : (b.length + 3 = bs.length + 1) = False := eq_false (by omega)
        have z5 : (q = bs.length + 1) = False := eq_false (by omega)
        have z6 : (b.length = q) = False := eq_false (by omega)
        have z7 : (b.length + 1 = q) = False := eq_false (by omega)
        have z8 : (b.length + 2 = q) = False := eq_false (by omega)
        have z9 : (b.length + 3 = q) = False := eq_false (by omega)
        have y1 : (qk = bs.length + 1) = False := eq_false (by omega)
        have y2 : (qi = bs.length + 1) = False := eq_false (by omega)
        have y3 : (qk = q) = False := eq_false hqqk
        have y4 : (qi = q) = False := eq_false hqqi
        have y5 : (qi = qk) = False := eq_false (fun e => hki e.symm)
        have y6 : (b.length = qk) = False := eq_false (by omega)
        have y7 : (b.length + 1 = qk) = False := eq_false (by omega)
        have y8 : (b.length + 2 = qk) = False := eq_false (by omega)
        have y9 : (b.length + 3 = qk) = False := eq_false (by omega)
        have x6 : (b.length = qi) = False := eq_false (by omega)
        have x7 : (b.length + 1 = qi) = False := eq_false (by omega)
        have x8 : (b.length + 2 = qi) = False := eq_false (by omega)
        have x9 : (b.length + 3 = qi) = False := eq_false (by omega)
        have e2' : b.length + 2 - b.length = 2 := by omega
        have e3' : b.length + 3 - b.length = 3 := by omega
        have hKK : (Ks ++ [u]).length = Ks.length + 1 := by simp
        have hLL' : (Ls ++ [v]).length = Ls.length + 1 := by simp
        simp only [lawG,↓Xn,↓Xo,↓Xg,↓Xd,↓Xe,↓Xf,Tryz.VΓ,Tryz.Γs,Xp,Xi,Nat.reduceAdd,Nat.reduceSub,Nat.reduceLT,Nat.reduceLeDiff,reduceIte,reduceCtorEq,Nat.reduceEqDiff,implies_true,forall_const,lawV,lawA,beq_self_eq_true,bne_self_eq_false,Int.reduceBEq,Int.reduceBNe,Int.reduceLT,Int.reduceLE,m5,h9,h10,hb1,hbq,at_old hb1,at_old hbq,at_old hbk,hset,ho,c1,c2,c3,c4,c5,c6,c7,hgs,hss]
        simp only [List.length_set]
        refine ⟨by omega,⟨by unfold maxLen; omega,by omega⟩,by omega,⟨by unfold maxLen; omega,by omega⟩,?_,hk' _ _ ⟨_,_,AS.mv (AS.re h (b' := ((b.set qk .gone).set qi .gone).set (bs.length + 1) (.cells [.int .i64 7,.str [],.o (b.length + 1) (Ks.length + 1),.o (b.length + 3) (Ls.length + 1)] 25 true) ++ [_,.own (Ks.map SV.str ++ [.str u]) 9 1 (Ks.length + 1) true,_,.own (Ls.flatMap tv ++ tv v) 25 4 (Ls.length + 1) true]) ?_ (by simp) (get_setS (by simpa using hl1) _ _) (.inr ⟨b.length + 1,by simp,by rw [hKK],by omega,?_⟩) (.inr ⟨b.length + 3,by simp,by rw [hLL'],by omega,?_⟩) (fun hro => tjs_snoc (h.js.ro hro) (hj.ro hro)) (JBs.snoc hjb h.jb) ?_) (by simp [SL,lk])⟩⟩
        · refine OkD_ren (fun n => if n = bs.length + 1 then 0 else if n = q then 1 else if n = qk then 2 else if n = qi then 3 else n - b.length + 4) ?_
          simp only [List.map_cons,List.map_nil,renRk,renT,Nat.add_sub_cancel_left,Nat.sub_self,z1,z2,z3,z4,z5,z6,z7,z8,z9,y1,y2,y3,y4,y5,y6,y7,y8,y9,x6,x7,x8,x9,e2',e3',eq_self,if_true,if_false]
          exact OkD_fast (by kernel_rfl)
        · intro i r hi hne hor
          have hik : qk ≠ i := by
            rintro rfl
            rw [hbk] at hi
            cases hi
            rcases hor with e | e
            · omega
            · exact e _ _ _ _ rfl
          have hii : qi ≠ i := by
            rintro rfl
            rw [hbi] at hi
            cases hi
            rcases hor with e | e
            · omega
            · exact e _ _ _ _ rfl
          exact at_old (get_setN (get_setN (get_setN hi hik _) hii _) (by omega) _) _
        · rw [app_atL (by simp),hKK]; simp
        · rw [app_atL (by simp),hLL']; simp
        · intro x hx
          rcases List.mem_append.1 hx with hx | hx
          · exact h.kb x hx
          · rw [List.mem_singleton] at hx
            rw [hx]; omega
    clear h hj hbq h9 h10 hLJ
    have hKJ' : (Ks ++ [u]).length = (Js ++ [j]).length := by simp [hKJ]
    have e5'' : (Js ++ [j]).length + (s.length - a) ≤ s.length + 1 := by simp; omega
    have e2'' : a ≤ a5 := by omega
    generalize Ks ++ [u] = Ks' at hKJ'
    generalize Ls ++ [v] = Ls'
    generalize Js ++ [j] = Js' at hKJ' e5''
    rintro m ⟨t,b⟩ ⟨yk',y',h⟩
    simp only at h
    clear hjb hq q v x1 x2 x3 x4 hnx4 r1 r2 r3 r4 hnx
    obtain ⟨k6,u6,pos6,a6,f6,w6,r1,r2,r3,r4,hnx⟩ := sx_r14_next s (by omega) a5 n5 f5 w5 q2
    refine vcS_cutS 2100 (fun σ => AS 7 s bs p d a6 n5 f6 w6 k6 u6 pos6 yk' y' Ks' Ls' Js' σ.t σ.b) ?_ (fun k' hk' => ?_)
    rotate_left
    · have hn' := hnx b p h.pp
      have h2 := h.setp a6 n5 f6 w6
      have hb2 := h2.b2
      have hA := h2.setk k6 pos6 r3
      have m0 := h.l0
      have m6 := h.l6
      unfold tok at hn' hb2 hA
      simp only [lawG,↓Xn,↓Xo,↓Xg,↓Xd,↓Xe,↓Xf,Tryz.VΓ,Tryz.Γs,Xp,Xi,Nat.reduceAdd,Nat.reduceSub,Nat.reduceLT,Nat.reduceLeDiff,reduceIte,reduceCtorEq,Nat.reduceEqDiff,implies_true,forall_const,lawV,lawA,beq_self_eq_true,bne_self_eq_false,Int.reduceBEq,Int.reduceBNe,Int.reduceLT,Int.reduceLE,m0,m6]
      refine callV_sc hn' ?_
      rintro r b' ⟨rfl,rfl⟩
      simp only [lawG,↓Xn,↓Xo,↓Xg,↓Xd,↓Xe,↓Xf,Tryz.VΓ,Tryz.Γs,Xp,Xi,Nat.reduceAdd,Nat.reduceSub,Nat.reduceLT,Nat.reduceLeDiff,reduceIte,reduceCtorEq,Nat.reduceEqDiff,implies_true,forall_const,lawV,lawA,beq_self_eq_true,bne_self_eq_false,Int.reduceBEq,Int.reduceBNe,Int.reduceLT,Int.reduceLE,m0,m6,hb2]
      exact hk' _ _ (hA.mv (by simp [SL,lk]))
    clear h
    rintro m ⟨t,b⟩ h
    simp only at h
    refine vcS_cutS 2050 (fun σ => AS 7 s bs p d a6 n5 f6 w6 k6 u6 pos6 yk' y' Ks' Ls' Js' σ.t σ.b) ?_ (fun k' hk' => ?_)
    rotate_left
    · have i1 := p_r14_is k6 u6 pos6 [125]
      have hb2 := h.b2
      (have hones : (one _ && one _) = true := (h).ones
       have hb0 := (h).b0
       have hb1 := (h).b1
       have hl0 := (List.getElem?_eq_some_iff.1 hb0).1
       have hg0 : ∀ X,(b.set bs.length X)[bs.length]? = some X := fun X => List.getElem?_set_self hl0
       have m0 := (h).l0
       have m4 := (h).l4
       have m5 := (h).l5
       have m6 := (h).l6
       unfold zv at hb0)
      unfold tok at i1 hb2
      simp only [lawG,↓Xn,↓Xo,↓Xg,↓Xd,↓Xe,↓Xf,Tryz.VΓ,Tryz.Γs,Xp,Xi,Nat.reduceAdd,Nat.reduceSub,Nat.reduceLT,Nat.reduceLeDiff,reduceIte,reduceCtorEq,Nat.reduceEqDiff,implies_true,forall_const,lawV,lawA,beq_self_eq_true,bne_self_eq_false,Int.reduceBEq,Int.reduceBNe,Int.reduceLT,Int.reduceLE,m6,hb2]
      refine callV_pc i1 ?_
      cases c1 : (k6 == 2 && u6 == [125])
      · simp only [lawG,↓Xn,↓Xo,↓Xg,↓Xd,↓Xe,↓Xf,Tryz.VΓ,Tryz.Γs,Xp,Xi,Nat.reduceAdd,Nat.reduceSub,Nat.reduceLT,Nat.reduceLeDiff,reduceIte,reduceCtorEq,Nat.reduceEqDiff,implies_true,forall_const,lawV,lawA,beq_self_eq_true,bne_self_eq_false,Int.reduceBEq,Int.reduceBNe,Int.reduceLT,Int.reduceLE]
        exact hk' _ _ (h.mv (by simp [SL,lk]))
      · simp only [lawG,↓Xn,↓Xo,↓Xg,↓Xd,↓Xe,↓Xf,Tryz.VΓ,Tryz.Γs,Xp,Xi,Nat.reduceAdd,Nat.reduceSub,Nat.reduceLT,Nat.reduceLeDiff,reduceIte,reduceCtorEq,Nat.reduceEqDiff,implies_true,forall_const,lawV,lawA,beq_self_eq_true,bne_self_eq_false,Int.reduceBEq,Int.reduceBNe,Int.reduceLT,Int.reduceLE,m0,m4,m5,m6,hb1,hg0,hb0,hones]
        exact h.out (by omega) r2 q3 (fun e => ⟨q4 (r4 e).1,hf0⟩) hs (by omega) (by omega) _
    clear h
    rintro m ⟨t,b⟩ h
    simp only at h
    refine vcS_cutS 2000 (fun σ => ∃ f3 w3 : Int,AS 7 s bs p d a6 n5 f3 w3 k6 u6 pos6 yk' y' Ks' Ls' Js' σ.t σ.b ∧ (f3 = 0 → f6 = 0 ∧ k6 = 2)) ?_ (fun k' hk' => ?_)
    rotate_left
    · have i1 := p_r14_is k6 u6 pos6 [44]
      have hb2 := h.b2
      have hbp := h.pp
      have m0 := h.l0
      have m6 := h.l6
      unfold tok at i1 hb2
      have hst := sc_r14_stop h.pp pos6 140
      have hA := h.setp a6 n5 (stF f6 140) (stW f6 w6 pos6)
      unfold pbox pcl at hbp
      cases c0 : f6 == 0
      · simp only [lawG,↓Xn,↓Xo,↓Xg,↓Xd,↓Xe,↓Xf,Tryz.VΓ,Tryz.Γs,Xp,Xi,Nat.reduceAdd,Nat.reduceSub,Nat.reduceLT,Nat.reduceLeDiff,reduceIte,reduceCtorEq,Nat.reduceEqDiff,implies_true,forall_const,lawV,lawA,beq_self_eq_true,bne_self_eq_false,Int.reduceBEq,Int.reduceBNe,Int.reduceLT,Int.reduceLE,m0,m6,hb2,hbp,c0]
        exact hk' _ _ ⟨f6,w6,h.mv (by simp [SL,lk]),fun e => by rw [e] at c0; simp at c0⟩
      · simp only [lawG,↓Xn,↓Xo,↓Xg,↓Xd,↓Xe,↓Xf,Tryz.VΓ,Tryz.Γs,Xp,Xi,Nat.reduceAdd,Nat.reduceSub,Nat.reduceLT,Nat.reduceLeDiff,reduceIte,reduceCtorEq,Nat.reduceEqDiff,implies_true,forall_const,lawV,lawA,beq_self_eq_true,bne_self_eq_false,Int.reduceBEq,Int.reduceBNe,Int.reduceLT,Int.reduceLE,m0,m6,hb2,hbp,c0]
        refine callV_pc i1 ?_
        cases c1 : (k6 == 2 && u6 == [44])
        · simp only [lawG,↓Xn,↓Xo,↓Xg,↓Xd,↓Xe,↓Xf,Tryz.VΓ,Tryz.Γs,Xp,Xi,Nat.reduceAdd,Nat.reduceSub,Nat.reduceLT,Nat.reduceLeDiff,reduceIte,reduceCtorEq,Nat.reduceEqDiff,implies_true,forall_const,lawV,lawA,beq_self_eq_true,bne_self_eq_false,Int.reduceBEq,Int.reduceBNe,Int.reduceLT,Int.reduceLE,m0,m6,hb2,Bool.not_false]
          refine callV_sc hst ?_
          rintro r b' ⟨rfl,rfl⟩
          simp only [lawG,↓Xn,↓Xo,↓Xg,↓Xd,↓Xe,↓Xf,Tryz.VΓ,Tryz.Γs,Xp,Xi,Nat.reduceAdd,Nat.reduceSub,Nat.reduceLT,Nat.reduceLeDiff,reduceIte,reduceCtorEq,Nat.reduceEqDiff,implies_true,forall_const,lawV,lawA,beq_self_eq_true,bne_self_eq_false,Int.reduceBEq,Int.reduceBNe,Int.reduceLT,Int.reduceLE]
          exact hk' _ _ ⟨_,_,hA.mv (by simp [SL,lk]),fun e => absurd e (stF_ne (by decide))⟩
        · simp only [lawG,↓Xn,↓Xo,↓Xg,↓Xd,↓Xe,↓Xf,Tryz.VΓ,Tryz.Γs,Xp,Xi,Nat.reduceAdd,Nat.reduceSub,Nat.reduceLT,Nat.reduceLeDiff,reduceIte,reduceCtorEq,Nat.reduceEqDiff,implies_true,forall_const,lawV,lawA,beq_self_eq_true,bne_self_eq_false,Int.reduceBEq,Int.reduceBNe,Int.reduceLT,Int.reduceLE,m0,m6,hb2,Bool.not_true]
          simp only [Bool.and_eq_true] at c1
          exact hk' _ _ ⟨f6,w6,h.mv (by simp [SL,lk]),fun e => ⟨e,by simpa using c1.1⟩⟩
    clear h
    rintro m ⟨t,b⟩ ⟨f3,w3,h,r5⟩
    simp only at h
    obtain ⟨k4,u4,pos4,a4,f4,w4,z1,z2,z3,z4,hnx4⟩ := sx_r14_next s (by omega) a6 n5 f3 w3 r2
    have hn' := hnx4 b p h.pp
    have h2 := h.setp a4 n5 f4 w4
    have hb2 := h2.b2
    have hA := h2.setk k4 pos4 z3
    have m0 := h.l0
    have m6 := h.l6
    unfold tok at hn' hb2 hA
    simp only [lawG,↓Xn,↓Xo,↓Xg,↓Xd,↓Xe,↓Xf,Tryz.VΓ,Tryz.Γs,Xp,Xi,Nat.reduceAdd,Nat.reduceSub,Nat.reduceLT,Nat.reduceLeDiff,reduceIte,reduceCtorEq,Nat.reduceEqDiff,implies_true,forall_const,lawV,lawA,beq_self_eq_true,bne_self_eq_false,Int.reduceBEq,Int.reduceBNe,Int.reduceLT,Int.reduceLE,m0,m6]
    refine callV_sc hn' ?_
    rintro r b' ⟨rfl,rfl⟩
    simp only [lawG,↓Xn,↓Xo,↓Xg,↓Xd,↓Xe,↓Xf,Tryz.VΓ,Tryz.Γs,Xp,Xi,Nat.reduceAdd,Nat.reduceSub,Nat.reduceLT,Nat.reduceLeDiff,reduceIte,reduceCtorEq,Nat.reduceEqDiff,implies_true,forall_const,lawV,lawA,beq_self_eq_true,bne_self_eq_false,Int.reduceBEq,Int.reduceBNe,Int.reduceLT,Int.reduceLE,m0,m6,hb2]
    have hprog : f4 = 0 → a < a4 := fun e => by
      have h1 := z4 e
      have h2 := r5 h1.1
      have h3 := r4 h2.1
      rcases h3.2 with h4 | h4
      · rw [h2.2] at h4; cases h4
      · omega
    have key : ∀ t',SL t t' → OI s bs p d a0 f0 ⟨t',(b.set p (pbox s a4 n5 f4 w4)).set (bs.length + 2) (.cells [.int .i64 k4,.str u4,.int .i64 pos4] 56 true)⟩ ∧ muP p ⟨t',(b.set p (pbox s a4 n5 f4 w4)).set (bs.length + 2) (.cells [.int .i64 k4,.str u4,.int .i64 pos4] 56 true)⟩ < s.length - a + 1 := by
      intro t' e
      rw [hA.mu]
      by_cases h4 : f4 = 0
      · have := hprog h4
        rw [if_pos h4]
        exact ⟨⟨a4,n5,f4,w4,k4,u4,pos4,yk',y',Ks',Ls',Js',hA.mv e,hKJ',by omega,z2,q3,fun e => ⟨q4 (r4 (r5 (z4 e).1).1).1,hf0⟩,by rw [if_pos h4]; omega⟩,by omega⟩
      · rw [if_neg h4]
        exact ⟨⟨a4,n5,f4,w4,k4,u4,pos4,yk',y',Ks',Ls',Js',hA.mv e,hKJ',by omega,z2,q3,fun e => absurd e h4,by rw [if_neg h4]; omega⟩,by omega⟩
    exact key _ (by simp [SL,lk])
  clear h
  rintro m ⟨t,b⟩ ⟨a,n,f,w,k,u,pos,yk,y,Ks,Ls,Js,h,hKJ,e1,e2,e3,e4,e5⟩
  simp only at h
  (have hones : (one _ && one _) = true := (h).ones
   have hb0 := (h).b0
   have hb1 := (h).b1
   have hl0 := (List.getElem?_eq_some_iff.1 hb0).1
   have hg0 : ∀ X,(b.set bs.length X)[bs.length]? = some X := fun X => List.getElem?_set_self hl0
   have m0 := (h).l0
   have m4 := (h).l4
   have m5 := (h).l5
   have m6 := (h).l6
   unfold zv at hb0)
  simp only [lawG,↓Xn,↓Xo,↓Xg,↓Xd,↓Xe,↓Xf,Tryz.VΓ,Tryz.Γs,Xp,Xi,Nat.reduceAdd,Nat.reduceSub,Nat.reduceLT,Nat.reduceLeDiff,reduceIte,reduceCtorEq,Nat.reduceEqDiff,implies_true,forall_const,lawV,lawA,beq_self_eq_true,bne_self_eq_false,Int.reduceBEq,Int.reduceBNe,Int.reduceLT,Int.reduceLE,m0,m4,m5,m6,hb1,hg0,hb0,hones]
  exact h.out e1 e2 e3 e4 hs (by omega) (by omega) _
end Go.Proofs.YtejfjmcjicpodaaGreatDoor
/- ref14.Parse: some tree,short. -/
set_option linter.all false
set_option maxRecDepth 20000
namespace Go.Proofs.YtejfjmcjicpodaaGreatDoor
open Go Vc Go.RowKit Wf
set_option linter.unusedSimpArgs false
theorem value_all {s : Bytes} (hs : s.length ≤ 1000000) : ∀ (e d : Nat),d + e = 64 → VlOK s d
  | 0,d,h => sc_r14_value hs (by omega) (fun h => by omega) (fun h => by omega)
  | e + 1,d,h => by
    have ih := value_all hs e (d + 1) (by omega)
    exact sc_r14_value hs (by omega) (fun _ => sc_r14_array hs ih) (fun _ => sc_r14_object hs ih)
structure PS (s : Bytes) (bs : List Res) (a n : Nat) (f w : Int) (t : List (Nat × SV)) (b : List Res) : Prop where
  l0 : lk 0 t = some (.str s)
  l2 : lk 2 t = some (.p bs.length 0)
  l5 : lk 5 t = some (.p (bs.length + 1) 0)
  kp : Kp bs b
  b0 : b[bs.length]? = some (.cells zv 25 true)
  b1 : b[bs.length + 1]? = some (pbox s a n f w)
def SP (t t' : List (Nat × SV)) : Prop := lk 0 t' = lk 0 t ∧ lk 2 t' = lk 2 t ∧ lk 5 t' = lk 5 t
section
variable {s : Bytes} {bs : List Res} {a n : Nat} {f w : Int} {t t' : List (Nat × SV)} {b : List Res}
theorem PS.mv (h : PS s bs a n f w t b) (e : SP t t') : PS s bs a n f w t' b := { h with l0 := e.1.trans h.l0,l2 := e.2.1.trans h.l2,l5 := e.2.2.trans h.l5 }
theorem kp_set {bs b : List Res} (h : Kp bs b) {i : Nat} (hi : bs.length ≤ i) (X : Res) : Kp bs (b.set i X) := ⟨by simpa using h.1,fun k hk => by rw [List.getElem?_set_ne (by omega)]; exact h.2 k hk⟩
theorem PS.setp (h : PS s bs a n f w t b) (a' n' : Nat) (f' w' : Int) : PS s bs a' n' f' w' t (b.set (bs.length + 1) (pbox s a' n' f' w')) :=
  { h with kp := kp_set h.kp (by omega) _,b0 := get_setN h.b0 (by omega) _,b1 := List.getElem?_set_self (List.getElem?_eq_some_iff.1 h.b1).1 }
theorem PS.app (h : PS s bs a n f w t b) (X : List Res) : PS s bs a n f w t (b ++ X) := { h with kp := h.kp.app _,b0 := at_old h.b0 _,b1 := at_old h.b1 _ }
theorem PS.call (h : PS s bs a n f w t b) {a' n' : Nat} {f' w' : Int} {b' : List Res} (g : KpP (bs.length + 1) (pcl s a' n' f' w') 53 true b b') : PS s bs a' n' f' w' t b' :=
  { h with kp := ⟨Nat.le_trans h.kp.1 g.1,fun k hk => (g.2.1 k (by have := h.kp.1; omega) (by omega)).trans (h.kp.2 k hk)⟩,b0 := g.at h.b0 (by omega),b1 := g.2.2 }
end
def ParR (s : Bytes) (bs : List Res) (r : SV) (b : List Res) : Prop := ∃ (j : Jv) (v : Tv) (w e : Int),r = .tup [.agg (tv v),.int .i64 w,.int .i64 e] ∧ Kp bs b ∧ TJ b j v ∧ JB (s.length + 410) j ∧ (e ≠ 0 → j = Jv.zero)
set_option maxHeartbeats 16000000 in
theorem sc_r14_Parse {bs : List Res} (s : Bytes) (hs : s.length ≤ 1000000) : SC Tryz.V 9 [.str s] bs (ParR s bs) := by
  refine sc_of 3000 Tryz.func9 rfl Tryz.ntmps9 Tryz.results9 Tryz.call9 (by simp) (fun β β' hb => concL_within bs.length _ (by simp [within,within.withinL]) β β' hb) ?_
  refine vcS_cutS 2900 (fun σ => lk 0 σ.t = some (.str s) ∧ lk 2 σ.t = some (.p bs.length 0) ∧ σ.b = bs ++ [.cells zv 25 true]) ?_ (fun k' hk' => ?_)
  rotate_left
  · simp only [lawG,↓Xn,↓Xo,↓Xg,↓Xd,↓Xe,↓Xf,Tryz.VΓ,Tryz.Γs,Xp,Xi,Nat.reduceAdd,Nat.reduceSub,Nat.reduceLT,Nat.reduceLeDiff,reduceIte,reduceCtorEq,Nat.reduceEqDiff,implies_true,forall_const,lawV,lawA,beq_self_eq_true,bne_self_eq_false,Int.reduceBEq,Int.reduceBNe,Int.reduceLT,Int.reduceLE]
    exact hk' _ _ ⟨rfl,rfl,rfl⟩
  rintro m ⟨t,b⟩ ⟨h0,h2,rfl⟩
  simp only at h0 h2
  refine vcS_cutS 2800 (fun σ => lk 0 σ.t = some (.str s) ∧ lk 2 σ.t = some (.p bs.length 0) ∧ σ.b = bs ++ [.cells zv 25 true]) ?_ (fun k' hk' => ?_)
  rotate_left
  · have hc : decide ((1048576 : Int) < s.length) = false := decide_eq_false (by omega)
    simp only [lawG,↓Xn,↓Xo,↓Xg,↓Xd,↓Xe,↓Xf,Tryz.VΓ,Tryz.Γs,Xp,Xi,Nat.reduceAdd,Nat.reduceSub,Nat.reduceLT,Nat.reduceLeDiff,reduceIte,reduceCtorEq,Nat.reduceEqDiff,implies_true,forall_const,lawV,lawA,beq_self_eq_true,bne_self_eq_false,Int.reduceBEq,Int.reduceBNe,Int.reduceLT,Int.reduceLE,h0,h2,hc]
    exact hk' _ _ ⟨by simp [lk,h0],by simp [lk,h2],rfl⟩
  rintro m ⟨t,b⟩ ⟨h0,h2,rfl⟩
  simp only at h0 h2
  refine vcS_cutS 2700 (fun σ => PS s bs 0 0 0 0 σ.t σ.b) ?_ (fun k' hk' => ?_)
  rotate_left
  · simp only [lawG,↓Xn,↓Xo,↓Xg,↓Xd,↓Xe,↓Xf,Tryz.VΓ,Tryz.Γs,Xp,Xi,Nat.reduceAdd,Nat.reduceSub,Nat.reduceLT,Nat.reduceLeDiff,reduceIte,reduceCtorEq,Nat.reduceEqDiff,implies_true,forall_const,lawV,lawA,beq_self_eq_true,bne_self_eq_false,Int.reduceBEq,Int.reduceBNe,Int.reduceLT,Int.reduceLE,h0,h2]
    exact hk' _ _ ⟨by simp [lk,h0],by simp [lk,h2],by simp [lk],(Kp.refl bs).app _,app_at0 _ _,app_at _ _ 1⟩
  clear h0 h2
  rintro m ⟨t,b⟩ h
  simp only at h
  obtain ⟨k,u,pos,a,f,w,g1,g2,g3,g4,hnx⟩ := sx_r14_next s (by omega) 0 0 0 0 (by omega)
  refine vcS_cutS 2600 (fun σ => ∃ (a n : Nat) (f w : Int) (q : Nat) (j : Jv) (v : Tv),PS s bs a n f w σ.t σ.b ∧ a ≤ s.length ∧ lk 6 σ.t = some (.p q 0) ∧ bs.length + 1 < q ∧ σ.b[q]? = some (.cells (tv v) 25 true) ∧ TJ σ.b j v ∧ JB (s.length + 410) j) ?_ (fun k' hk' => ?_)
  rotate_left
  · have hn' := hnx b _ h.b1
    have h2 := h.setp a 0 f w
    have hcall := value_all hs 64 0 rfl _ _ a 0 f w k u pos h2.b1 g2 (by omega) (fun _ => by omega) g3
    have m5 := h.l5
    simp only [lawG,↓Xn,↓Xo,↓Xg,↓Xd,↓Xe,↓Xf,Tryz.VΓ,Tryz.Γs,Xp,Xi,Nat.reduceAdd,Nat.reduceSub,Nat.reduceLT,Nat.reduceLeDiff,reduceIte,reduceCtorEq,Nat.reduceEqDiff,implies_true,forall_const,lawV,lawA,beq_self_eq_true,bne_self_eq_false,Int.reduceBEq,Int.reduceBNe,Int.reduceLT,Int.reduceLE,m5]
    refine callV_sc hn' ?_
    rintro r b' ⟨rfl,rfl⟩
    simp only [lawG,↓Xn,↓Xo,↓Xg,↓Xd,↓Xe,↓Xf,Tryz.VΓ,Tryz.Γs,Xp,Xi,Nat.reduceAdd,Nat.reduceSub,Nat.reduceLT,Nat.reduceLeDiff,reduceIte,reduceCtorEq,Nat.reduceEqDiff,implies_true,forall_const,lawV,lawA,beq_self_eq_true,bne_self_eq_false,Int.reduceBEq,Int.reduceBNe,Int.reduceLT,Int.reduceLE,m5]
    refine callV_sc hcall ?_
    rintro r b' ⟨a5,n5,f5,w5,q1,q2,q3,q4,gk,j,v,rfl,hj,hjb⟩
    have h3 := h2.call gk
    have hA := h3.app [.cells (tv v) 25 true]
    obtain ⟨-,-,v3,v4⟩ := hj.tin
    have ho : (one v.xk && one v.xi) = true := by rw [v3,v4]; rfl
    unfold tv at hA ⊢
    simp only [lawG,↓Xn,↓Xo,↓Xg,↓Xd,↓Xe,↓Xf,Tryz.VΓ,Tryz.Γs,Xp,Xi,Nat.reduceAdd,Nat.reduceSub,Nat.reduceLT,Nat.reduceLeDiff,reduceIte,reduceCtorEq,Nat.reduceEqDiff,implies_true,forall_const,lawV,lawA,beq_self_eq_true,bne_self_eq_false,Int.reduceBEq,Int.reduceBNe,Int.reduceLT,Int.reduceLE,ho]
    exact hk' _ _ ⟨a5,n5,f5,w5,b'.length,j,v,hA.mv (by simp [SP,lk]),q2,rfl,(List.getElem?_eq_some_iff.1 h3.b1).1,app_at0 _ _,hj.ro ((Ro.refl _).app _),hjb⟩
  clear h hnx g1 g2 g3 g4 k u pos a f w
  rintro m ⟨t,b⟩ ⟨a,n,f,w,q,j,v,h,ha,h6,hq,hbq,hj,hjb⟩
  simp only at h h6 hbq hj
  obtain ⟨k,u,pos,a2,f2,w2,g1,g2,g3,g4,hnx⟩ := sx_r14_next s (by omega) a n f w ha
  refine vcS_cutS 2500 (fun σ => ∃ (f w : Int),PS s bs a2 n f w σ.t σ.b ∧ lk 6 σ.t = some (.p q 0) ∧ σ.b[q]? = some (.cells (tv v) 25 true) ∧ TJ σ.b j v) ?_ (fun k' hk' => ?_)
  rotate_left
  · refine vcS_cutS 2550 (fun σ => ∃ qt,bs.length + 1 < qt ∧ PS s bs a2 n f2 w2 σ.t σ.b ∧ lk 6 σ.t = some (.p q 0) ∧ lk 7 σ.t = some (.p qt 0) ∧ σ.b[qt]? = some (.cells (tok k u pos) 56 true) ∧ σ.b[q]? = some (.cells (tv v) 25 true) ∧ TJ σ.b j v) ?_ (fun k' hk' => ?_)
    rotate_left
    · have hn' := hnx b _ h.b1
      have h2 := (h.setp a2 n f2 w2).app [.cells (tok k u pos) 56 true]
      have m5 := h.l5
      have hbq2 := at_old (get_setN hbq (show bs.length + 1 ≠ q by omega) (pbox s a2 n f2 w2)) [.cells (tok k u pos) 56 true]
      have hj2 := hj.ro ((AS.setp.ro_p h.b1 (pbox s a2 n f2 w2)).app [.cells (tok k u pos) 56 true])
      have hl := (List.getElem?_eq_some_iff.1 h.b1).1
      simp only [lawG,↓Xn,↓Xo,↓Xg,↓Xd,↓Xe,↓Xf,Tryz.VΓ,Tryz.Γs,Xp,Xi,Nat.reduceAdd,Nat.reduceSub,Nat.reduceLT,Nat.reduceLeDiff,reduceIte,reduceCtorEq,Nat.reduceEqDiff,implies_true,forall_const,lawV,lawA,beq_self_eq_true,bne_self_eq_false,Int.reduceBEq,Int.reduceBNe,Int.reduceLT,Int.reduceLE,m5]
      refine callV_sc hn' ?_
      rintro r b' ⟨rfl,rfl⟩
      unfold tok
      simp only [lawG,↓Xn,↓Xo,↓Xg,↓Xd,↓Xe,↓Xf,Tryz.VΓ,Tryz.Γs,Xp,Xi,Nat.reduceAdd,Nat.reduceSub,Nat.reduceLT,Nat.reduceLeDiff,reduceIte,reduceCtorEq,Nat.reduceEqDiff,implies_true,forall_const,lawV,lawA,beq_self_eq_true,bne_self_eq_false,Int.reduceBEq,Int.reduceBNe,Int.reduceLT,Int.reduceLE,m5]
      exact hk' _ _ ⟨_,by rw [List.length_set]; exact hl,h2.mv (by simp [SP,lk]),by simp [lk,h6],rfl,app_at0 _ _,hbq2,hj2⟩
    clear h h6 hbq hj
    rintro m ⟨t,b⟩ ⟨qt,hqt,h,h6,h7,hbk,hbq,hj⟩
    simp only at h h6 h7 hbk hbq hj
    have hbp := h.b1
    have m5 := h.l5
    have hst := sc_r14_stop h.b1 pos 140
    have h4 := h.setp a2 n (stF f2 140) (stW f2 w2 pos)
    unfold tok at hbk
    unfold pbox pcl at hbp
    cases c0 : f2 == 0
    · simp only [lawG,↓Xn,↓Xo,↓Xg,↓Xd,↓Xe,↓Xf,Tryz.VΓ,Tryz.Γs,Xp,Xi,Nat.reduceAdd,Nat.reduceSub,Nat.reduceLT,Nat.reduceLeDiff,reduceIte,reduceCtorEq,Nat.reduceEqDiff,implies_true,forall_const,lawV,lawA,beq_self_eq_true,bne_self_eq_false,Int.reduceBEq,Int.reduceBNe,Int.reduceLT,Int.reduceLE,m5,h7,hbp,c0]
      exact hk' _ _ ⟨f2,w2,h.mv (by simp [SP,lk]),by simp [lk,h6],hbq,hj⟩
    · cases c1 : k != 1
      · simp only [lawG,↓Xn,↓Xo,↓Xg,↓Xd,↓Xe,↓Xf,Tryz.VΓ,Tryz.Γs,Xp,Xi,Nat.reduceAdd,Nat.reduceSub,Nat.reduceLT,Nat.reduceLeDiff,reduceIte,reduceCtorEq,Nat.reduceEqDiff,implies_true,forall_const,lawV,lawA,beq_self_eq_true,bne_self_eq_false,Int.reduceBEq,Int.reduceBNe,Int.reduceLT,Int.reduceLE,m5,h7,hbp,hbk,c0,c1]
        exact hk' _ _ ⟨f2,w2,h.mv (by simp [SP,lk]),by simp [lk,h6],hbq,hj⟩
      · simp only [lawG,↓Xn,↓Xo,↓Xg,↓Xd,↓Xe,↓Xf,Tryz.VΓ,Tryz.Γs,Xp,Xi,Nat.reduceAdd,Nat.reduceSub,Nat.reduceLT,Nat.reduceLeDiff,reduceIte,reduceCtorEq,Nat.reduceEqDiff,implies_true,forall_const,lawV,lawA,beq_self_eq_true,bne_self_eq_false,Int.reduceBEq,Int.reduceBNe,Int.reduceLT,Int.reduceLE,m5,h7,hbp,hbk,c0,c1]
        refine callV_sc hst ?_
        rintro r b' ⟨rfl,rfl⟩
        simp only [lawG,↓Xn,↓Xo,↓Xg,↓Xd,↓Xe,↓Xf,Tryz.VΓ,Tryz.Γs,Xp,Xi,Nat.reduceAdd,Nat.reduceSub,Nat.reduceLT,Nat.reduceLeDiff,reduceIte,reduceCtorEq,Nat.reduceEqDiff,implies_true,forall_const,lawV,lawA,beq_self_eq_true,bne_self_eq_false,Int.reduceBEq,Int.reduceBNe,Int.reduceLT,Int.reduceLE]
        exact hk' _ _ ⟨_,_,h4.mv (by simp [SP,lk]),by simp [lk,h6],get_setN hbq (by omega) _,hj.ro (AS.setp.ro_p h.b1 _)⟩
  clear h h6 hbq hj
  rintro m ⟨t,b⟩ ⟨f,w,h,h6,hbq,hj⟩
  simp only at h h6 hbq hj
  have hl0 := (List.getElem?_eq_some_iff.1 h.b0).1
  have hg0 : ∀ X,(b.set bs.length X)[bs.length]? = some X := fun X => List.getElem?_set_self hl0
  have hb0 := h.b0
  have hbp := h.b1
  have m0 := h.l0
  have m2 := h.l2
  have m5 := h.l5
  obtain ⟨-,-,v3,v4⟩ := hj.tin
  have ho : (one v.xk && one v.xi) = true := by rw [v3,v4]; rfl
  unfold zv at hb0
  unfold pbox pcl at hbp
  unfold tv at hbq
  cases c0 : f != 0
  · simp only [lawG,↓Xn,↓Xo,↓Xg,↓Xd,↓Xe,↓Xf,Tryz.VΓ,Tryz.Γs,Xp,Xi,Nat.reduceAdd,Nat.reduceSub,Nat.reduceLT,Nat.reduceLeDiff,reduceIte,reduceCtorEq,Nat.reduceEqDiff,implies_true,forall_const,lawV,lawA,beq_self_eq_true,bne_self_eq_false,Int.reduceBEq,Int.reduceBNe,Int.reduceLT,Int.reduceLE,m0,m2,m5,h6,hbp,hb0,hbq,hg0,c0,ho]
    exact ⟨j,v,_,_,rfl,kp_set h.kp (Nat.le_refl _) _,hj.ro (AS.setp.ro_p h.b0 _),hjb,fun h => absurd rfl h⟩
  · simp only [lawG,↓Xn,↓Xo,↓Xg,↓Xd,↓Xe,↓Xf,Tryz.VΓ,Tryz.Γs,Xp,Xi,Nat.reduceAdd,Nat.reduceSub,Nat.reduceLT,Nat.reduceLeDiff,reduceIte,reduceCtorEq,Nat.reduceEqDiff,implies_true,forall_const,lawV,lawA,beq_self_eq_true,bne_self_eq_false,Int.reduceBEq,Int.reduceBNe,Int.reduceLT,Int.reduceLE,m0,m2,m5,hbp,hb0,hg0,c0]
    refine ⟨?_,Jv.zero,⟨0,[],.nils,.nils⟩,_,_,rfl,kp_set h.kp (Nat.le_refl _) _,TJ.zero _,JB.leaf 0 (by simp),fun _ => rfl⟩
    refine OkD_ren (fun n => if n = bs.length then 0 else 1) ?_
    have z1 : (bs.length + 1 = bs.length) = False := eq_false (by omega)
    simp only [List.map_cons,List.map_nil,renRk,renT,z1,eq_self,if_true,if_false]
    exact OkD_fast (by kernel_rfl)
end Go.Proofs.YtejfjmcjicpodaaGreatDoor
