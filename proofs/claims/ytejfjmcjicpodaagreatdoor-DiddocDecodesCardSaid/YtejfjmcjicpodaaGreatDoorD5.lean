/- Texts of this claim,laid together: DocD,One,Px1,RfH,Px2,Px3,Px4,Px5,PjA,OpenV,DocS,SelA,SelB,KeepV,RefUri3,MailV,MailR. -/
import Derived.Test.YtejfjmcjicpodaaGreatDoorD4
/- The walk of diddoc.Decode. -/
set_option linter.all false
set_option maxRecDepth 20000
namespace Go.Proofs.YtejfjmcjicpodaaGreatDoor
open Go Vc Go.RowKit Wf
set_option linter.unusedSimpArgs false
def mc (m : Mtm) : List SV := [.str m.id,.str m.type,.str m.ctrl]
structure Sq where
  m : Svm
  y1 : SV
  y2 : SV
def sqc (q : Sq) : List SV := [.str q.m.id,q.y1,q.y2]
def SqOk (b : List Res) (q : Sq) : Prop := Rs b q.y1 q.m.types ∧ Rs b q.y2 q.m.ends
theorem SqOk.ro {a b : List Res} {q : Sq} (h : SqOk a q) (k : Ro a b) : SqOk b q := ⟨h.1.ro k,h.2.ro k⟩
def Rm (b : List Res) (x : SV) (M : List Mtm) : Prop := (x = .nils ∧ M = []) ∨ ∃ j,x = .o j M.length ∧ b[j]? = some (.own (M.flatMap mc) 48 3 M.length false)
def Rq (b : List Res) (x : SV) (Q : List Sq) : Prop := (x = .nils ∧ Q = []) ∨ ∃ j,x = .o j Q.length ∧ b[j]? = some (.own (Q.flatMap sqc) 46 3 Q.length false)
theorem Rm.ro {a b : List Res} {x : SV} {M : List Mtm} (h : Rm a x M) (k : Ro a b) : Rm b x M := by
  rcases h with h | ⟨j,h1,h2⟩
  · exact .inl h
  · exact .inr ⟨j,h1,k _ _ _ _ _ h2⟩
theorem Rq.ro {a b : List Res} {x : SV} {Q : List Sq} (h : Rq a x Q) (k : Ro a b) : Rq b x Q := by
  rcases h with h | ⟨j,h1,h2⟩
  · exact .inl h
  · exact .inr ⟨j,h1,k _ _ _ _ _ h2⟩
theorem Rm.one {b : List Res} {x : SV} {M : List Mtm} (h : Rm b x M) : Vc.one x = true := by
  rcases h with ⟨rfl,-⟩ | ⟨j,rfl,-⟩ <;> rfl
theorem Rq.one {b : List Res} {x : SV} {Q : List Sq} (h : Rq b x Q) : Vc.one x = true := by
  rcases h with ⟨rfl,-⟩ | ⟨j,rfl,-⟩ <;> rfl
def DocR (b : List Res) (c : List SV) (D : Docm) : Prop := ∃ xa xc xm xs Q,c = [.str D.id,xa,xc,xm,xs] ∧ Rs b xa D.also ∧ Rs b xc D.ctrl ∧ Rm b xm D.methods ∧ Rq b xs Q ∧ (∀ q ∈ Q,SqOk b q) ∧ Q.map Sq.m = D.services
theorem DocR.none (b : List Res) : DocR b [.str [],.nils,.nils,.nils,.nils] Docm.none := ⟨.nils,.nils,.nils,.nils,[],rfl,.inl ⟨rfl,rfl⟩,.inl ⟨rfl,rfl⟩,.inl ⟨rfl,rfl⟩,.inl ⟨rfl,rfl⟩,by simp,rfl⟩
theorem Rs.cells {b : List Res} {x : SV} {T : List Bytes} (h : Rs b x T) : Vc.cells x = [x] := by
  rcases h with ⟨rfl,-⟩ | ⟨q,rfl,-⟩ <;> rfl
theorem did_fits {s : Bytes} (h : (didParse s).2 = 0) : DidFits (didParse s).1 := by
  obtain ⟨-,h1,h2,-⟩ := did_can (s := s) (d := (didParse s).1) (by rw [← h])
  unfold didText at h1
  simp only [List.length_append] at h1
  exact ⟨by omega,by omega⟩
end Go.Proofs.YtejfjmcjicpodaaGreatDoor
namespace Vc
open Go.Proofs.YtejfjmcjicpodaaGreatDoor
open Go Vc Go.RowKit Wf
theorem Kp.kpP {p : Nat} {c : List SV} {T : TypeId} {m : Bool} {bs b b' : List Res} (h : Kp bs b) (k : KpP p c T m b b') (hp : bs.length ≤ p) : Kp bs b' := ⟨Nat.le_trans h.1 k.1,fun q hq => (k.2.1 q (Nat.lt_of_lt_of_le hq h.1) (by omega)).trans (h.2 q hq)⟩
end Vc
namespace Go.Proofs.YtejfjmcjicpodaaGreatDoor
open Go Vc Go.RowKit Wf
def DI (bs b : List Res) (v : Tv) (d : Did) (e : Int) (D : List SV) : Prop := Kp bs b ∧ b[bs.length]? = some (.cells [.int .i64 v.k,.str v.t,v.xk,v.xi] 25 true) ∧ b[bs.length + 1]? = some (.cells [.str [],.nils,.nils,.nils,.nils] 34 true) ∧
  b[bs.length + 2]? = some (.cells (dec d e) 62 true) ∧ b[bs.length + 3]? = some (.cells D 34 true)
theorem DI.setE {bs b : List Res} {v : Tv} {d : Did} {e : Int} {D : List SV} (h : DI bs b v d e D) (e' : Int) : DI bs (b.set (bs.length + 2) (.cells (dec d e') 62 true)) v d e' D :=
  ⟨h.1.set (by omega) _,get_setN h.2.1 (by omega) _,get_setN h.2.2.1 (by omega) _,List.getElem?_set_self (List.getElem?_eq_some_iff.1 h.2.2.2.1).1,get_setN h.2.2.2.2 (by omega) _⟩
theorem DI.setD {bs b : List Res} {v : Tv} {d : Did} {e : Int} {D : List SV} (h : DI bs b v d e D) (D' : List SV) : DI bs (b.set (bs.length + 3) (.cells D' 34 true)) v d e D' :=
  ⟨h.1.set (by omega) _,get_setN h.2.1 (by omega) _,get_setN h.2.2.1 (by omega) _,get_setN h.2.2.2.1 (by omega) _,List.getElem?_set_self (List.getElem?_eq_some_iff.1 h.2.2.2.2).1⟩
theorem DI.setQ {bs b : List Res} {v : Tv} {d : Did} {e : Int} {D : List SV} (h : DI bs b v d e D) {q : Nat} (hq : bs.length + 3 < q) (X : Res) : DI bs (b.set q X) v d e D :=
  ⟨h.1.set (by omega) _,get_setN h.2.1 (by omega) _,get_setN h.2.2.1 (by omega) _,get_setN h.2.2.2.1 (by omega) _,get_setN h.2.2.2.2 (by omega) _⟩
theorem DI.app {bs b : List Res} {v : Tv} {d : Did} {e : Int} {D : List SV} (h : DI bs b v d e D) (X : List Res) : DI bs (b ++ X) v d e D :=
  ⟨h.1.app _,at_old h.2.1 _,at_old h.2.2.1 _,at_old h.2.2.2.1 _,at_old h.2.2.2.2 _⟩
theorem DI.lt {bs b : List Res} {v : Tv} {d : Did} {e : Int} {D : List SV} (h : DI bs b v d e D) : bs.length + 3 < b.length := (List.getElem?_eq_some_iff.1 h.2.2.2.2).1
theorem DI.roE {bs b : List Res} {v : Tv} {d : Did} {e : Int} {D : List SV} (h : DI bs b v d e D) (X : Res) : Ro b (b.set (bs.length + 2) X) := ro_box h.2.2.2.1 X
theorem DI.roD {bs b : List Res} {v : Tv} {d : Did} {e : Int} {D : List SV} (h : DI bs b v d e D) (X : Res) : Ro b (b.set (bs.length + 3) X) := ro_box h.2.2.2.2 X
theorem outs_set (i : Nat) (b : List Res) (X : Res) : Outs [(i,0,0)] (b.set i X) b := outs_of (fun j hj => List.getElem?_set_ne (hj (i,0,0) (by simp))) (by simp)
theorem outs_set2 {i n m : Nat} {b : List Res} (hn : n = b.length) (hm : m = b.length + 1) (X Y Z : Res) : Outs [(i,0,0),(n,0,0),(m,0,0)] (b.set i X ++ [Y,Z]) b := outs_of (fun j hj => by
  have h1 := hj (i,0,0) (by simp)
  have h2 := hj (n,0,0) (by simp)
  have h3 := hj (m,0,0) (by simp)
  simp only at h1 h2 h3
  rcases Nat.lt_or_ge j b.length with h | h
  · rw [List.getElem?_append_left (by simpa using h),List.getElem?_set_ne h1]
  · rw [List.getElem?_eq_none (by simp; omega),List.getElem?_eq_none h]) (by simp)
theorem canS_rs {b : List Res} {i : Nat} {T : List Bytes} (h : b[i]? = some (canR T)) : Rs b (canS i T) T := by
  by_cases hT : T = []
  · exact .inl ⟨by simp [canS,hT],hT⟩
  · rw [show canR T = .own (T.map SV.str) 9 1 T.length false from if_neg hT] at h
    exact .inr ⟨i,by simp [canS,hT],h⟩
set_option maxHeartbeats 16000000 in
theorem sc_dd_Decode {bs : List Res} {j : Jv} {v : Tv} (hv : TJ bs j v) :
    SC Tryz.V 10 [.agg (tv v)] bs (fun r b => ∃ c,r = .tup [.agg c,.int .i64 (docOf j).2] ∧ Kp bs b ∧ DocR b c (docOf j).1) := by
  refine SC.dimAll ?_
  obtain ⟨v1,v2,v3,v4⟩ := hv.tin
  have ho : (one v.xk && one v.xi) = true := by rw [v3,v4]; rfl
  obtain ⟨e1,-⟩ := hv.un
  refine sc_of 3000 Tryz.func10 rfl Tryz.ntmps10 Tryz.results10 Tryz.call10 (by simp) (fun β β' hb => concL_within bs.length _ (by simp [within,within.withinL,tv,v1,v2]) β β' hb) ?_
  by_cases h7 : j.k = 7
  rotate_left
  · have hb7 : (v.k != 7) = true := by rw [e1]; exact bne_iff_ne.2 h7
    unfold tv
    simp only [lawG,↓Xn,↓Xo,↓Xg,↓Xd,↓Xe,↓Xf,Tryz.VΓ,Tryz.Γs,Xp,Xi,Nat.reduceAdd,Nat.reduceSub,Nat.reduceLT,Nat.reduceLeDiff,reduceIte,reduceCtorEq,Nat.reduceEqDiff,implies_true,forall_const,lawV,lawA,beq_self_eq_true,bne_self_eq_false,Int.reduceBEq,Int.reduceBNe,Int.reduceLT,Int.reduceLE,ho,hb7]
    have : docOf j = (Docm.none,160) := by unfold docOf; rw [if_neg h7]
    rw [this]
    exact ⟨by simp,_,rfl,((Kp.refl bs).app _).dimB,DocR.none _⟩
  have hb7 : (v.k != 7) = false := by rw [e1,h7]; rfl
  have hm := fun X => sc_dd_member (hv.ro ((Ro.refl bs).app X)) ([105,100] : List UInt8) (p := bs.length + 2) (d := Did.none) (e := 0)
  obtain ⟨x0,hx0,-⟩ := jd_Get hv ([105,100] : List UInt8)
  obtain ⟨-,-,hlen,-⟩ := hx0.un
  have pp := p_did_ParseDID (j.at ([105,100] : List UInt8)).t
  unfold tv at hm ⊢
  unfold dsv at pp
  simp only [lawG,↓Xn,↓Xo,↓Xg,↓Xd,↓Xe,↓Xf,Tryz.VΓ,Tryz.Γs,Xp,Xi,Nat.reduceAdd,Nat.reduceSub,Nat.reduceLT,Nat.reduceLeDiff,reduceIte,reduceCtorEq,Nat.reduceEqDiff,implies_true,forall_const,lawV,lawA,beq_self_eq_true,bne_self_eq_false,Int.reduceBEq,Int.reduceBNe,Int.reduceLT,Int.reduceLE,ho,hb7]
  refine callV_sc (hm _ (app_at _ _ 2)) ?_
  rintro r b1 ⟨rfl,rfl⟩
  unfold dec
  simp only [lawG,↓Xn,↓Xo,↓Xg,↓Xd,↓Xe,↓Xf,Tryz.VΓ,Tryz.Γs,Xp,Xi,Nat.reduceAdd,Nat.reduceSub,Nat.reduceLT,Nat.reduceLeDiff,reduceIte,reduceCtorEq,Nat.reduceEqDiff,implies_true,forall_const,lawV,lawA,beq_self_eq_true,bne_self_eq_false,Int.reduceBEq,Int.reduceBNe,Int.reduceLT,Int.reduceLE]
  (refine callV_pc (pp) ?_; simp only [lawG,↓Xn,↓Xo,↓Xg,↓Xd,↓Xe,↓Xf,Tryz.VΓ,Tryz.Γs,Xp,Xi,Nat.reduceAdd,Nat.reduceSub,Nat.reduceLT,Nat.reduceLeDiff,reduceIte,reduceCtorEq,Nat.reduceEqDiff,implies_true,forall_const,lawV,lawA,beq_self_eq_true,bne_self_eq_false,Int.reduceBEq,Int.reduceBNe,Int.reduceLT,Int.reduceLE])
  by_cases hE : (j.at ([105,100] : List UInt8)).k = 5 ∧ (didParse (j.at ([105,100] : List UInt8)).t).2 = 0
  rotate_left
  · have hdoc : docOf j = (Docm.none,160) := by unfold docOf; rw [if_pos h7,if_neg hE]
    by_cases h5 : (j.at ([105,100] : List UInt8)).k = 5
    · have hb1 : (textsE 0 [j.at ([105,100] : List UInt8)] != 0) = false := by simp [textsE,h5]
      have hb2 : ((didParse (j.at ([105,100] : List UInt8)).t).2 != 0) = true := bne_iff_ne.2 fun h => hE ⟨h5,h⟩
      simp only [lawG,↓Xn,↓Xo,↓Xg,↓Xd,↓Xe,↓Xf,Tryz.VΓ,Tryz.Γs,Xp,Xi,Nat.reduceAdd,Nat.reduceSub,Nat.reduceLT,Nat.reduceLeDiff,reduceIte,reduceCtorEq,Nat.reduceEqDiff,implies_true,forall_const,lawV,lawA,beq_self_eq_true,bne_self_eq_false,Int.reduceBEq,Int.reduceBNe,Int.reduceLT,Int.reduceLE,hb1,hb2]
      rw [hdoc]
      exact ⟨by simp,_,rfl,((Kp.refl bs).app _).dimB,DocR.none _⟩
    · have hb1 : (textsE 0 [j.at ([105,100] : List UInt8)] != 0) = true := by simp [textsE,h5,failE]
      simp only [lawG,↓Xn,↓Xo,↓Xg,↓Xd,↓Xe,↓Xf,Tryz.VΓ,Tryz.Γs,Xp,Xi,Nat.reduceAdd,Nat.reduceSub,Nat.reduceLT,Nat.reduceLeDiff,reduceIte,reduceCtorEq,Nat.reduceEqDiff,implies_true,forall_const,lawV,lawA,beq_self_eq_true,bne_self_eq_false,Int.reduceBEq,Int.reduceBNe,Int.reduceLT,Int.reduceLE,hb1]
      rw [hdoc]
      exact ⟨by simp,_,rfl,((Kp.refl bs).app _).dimB,DocR.none _⟩
  obtain ⟨h5,hp0⟩ := hE
  have hb1 : (textsE 0 [j.at ([105,100] : List UInt8)] != 0) = false := by simp [textsE,h5]
  have hb2 : ((didParse (j.at ([105,100] : List UInt8)).t).2 != 0) = false := by rw [hp0]; rfl
  have ht0 : textsE 0 [j.at ([105,100] : List UInt8)] = 0 := by simp [textsE,h5]
  have hfit := did_fits hp0
  have pf := p_did_FormatDID _ hfit
  obtain ⟨d,hd⟩ : ∃ d,d = (didParse (j.at ([105,100] : List UInt8)).t).1 := ⟨_,rfl⟩
  have hdoc : docOf j = if docE d j = 0 then (docM d j,0) else (Docm.none,docE d j) := by unfold docOf; rw [if_pos h7,if_pos ⟨h5,hp0⟩,hd]
  unfold dsv at pf
  rw [← hd] at pf hfit
  simp only [lawG,↓Xn,↓Xo,↓Xg,↓Xd,↓Xe,↓Xf,Tryz.VΓ,Tryz.Γs,Xp,Xi,Nat.reduceAdd,Nat.reduceSub,Nat.reduceLT,Nat.reduceLeDiff,reduceIte,reduceCtorEq,Nat.reduceEqDiff,implies_true,forall_const,lawV,lawA,beq_self_eq_true,bne_self_eq_false,Int.reduceBEq,Int.reduceBNe,Int.reduceLT,Int.reduceLE,hb1,hb2]
  rw [← hd,ht0]
  (refine callD_pc (pf) ?_; simp only [lawG,↓Xn,↓Xo,↓Xg,↓Xd,↓Xe,↓Xf,Tryz.VΓ,Tryz.Γs,Xp,Xi,Nat.reduceAdd,Nat.reduceSub,Nat.reduceLT,Nat.reduceLeDiff,reduceIte,reduceCtorEq,Nat.reduceEqDiff,implies_true,forall_const,lawV,lawA,beq_self_eq_true,bne_self_eq_false,Int.reduceBEq,Int.reduceBNe,Int.reduceLT,Int.reduceLE])
  refine ⟨by (refine OkD_ren (fun n => n - bs.length) ?_; simp only [List.map_cons,List.map_nil,renRk,renT,Nat.add_sub_cancel_left,Nat.sub_self,if_true]; exact OkD_fast (by kernel_rfl)),?_⟩
  -- alsoKnownAs
  obtain ⟨ya,La,hya,hLa,hla⟩ := sc_dd_list hv ([97,108,115,111,75,110,111,119,110,65,115] : List UInt8)
  have hll : ∀ key,(listL j key).length ≤ 1000 := fun key => by
    unfold listL; split
    · unfold arrL; split <;> (try split) <;> first | omega | simp
    · simp
  unfold tv at hla
  refine callV_sc (hla _ (bs.length + 2) d 0 ((Ro.refl bs).app _) (app_at _ _ 2) (within_up (by simp) hya.within)) ?_
  rintro r b1 ⟨rfl,rfl⟩
  have hyo := hya.one
  unfold dec
  simp only [lawG,↓Xn,↓Xo,↓Xg,↓Xd,↓Xe,↓Xf,Tryz.VΓ,Tryz.Γs,Xp,Xi,Nat.reduceAdd,Nat.reduceSub,Nat.reduceLT,Nat.reduceLeDiff,reduceIte,reduceCtorEq,Nat.reduceEqDiff,implies_true,forall_const,lawV,lawA,beq_self_eq_true,bne_self_eq_false,Int.reduceBEq,Int.reduceBNe,Int.reduceLT,Int.reduceLE,hyo]
  refine callV_sc (sc_dd_texts (d := d) (e := listE 0 j ([97,108,115,111,75,110,111,119,110,65,115] : List UInt8)) (app_at _ _ 2) (hya.ro ((Ro.refl bs).app _)) (TJs.ro ((Ro.refl bs).app _) hLa) (hll _)) ?_
  rintro xa b9 ⟨hk9,hxa⟩
  have kp9 := ((Kp.refl bs).app _).kpP hk9 (by omega)
  have f0 := hk9.at (app_at0 _ _) (by omega)
  have f1 := hk9.at (app_at _ _ 1) (by omega)
  have f2 := hk9.2.2
  have f3 := hk9.at (app_at _ _ 3) (by omega)
  have hxao := hxa.one
  have hxac := hxa.cells
  have hxa := hxa.rs
  clear hk9
  have hE9 : textsE (listE 0 j ([97,108,115,111,75,110,111,119,110,65,115] : List UInt8)) (listL j ([97,108,115,111,75,110,111,119,110,65,115] : List UInt8)) = alsoE 0 j := rfl
  have hL9 : (listL j ([97,108,115,111,75,110,111,119,110,65,115] : List UInt8)).map Jv.t = alsoL j := rfl
  rw [hE9] at f2
  rw [hL9] at hxa
  have f0s := fun X => get_setN f0 (show bs.length + 3 ≠ bs.length by omega) X
  simp only [lawG,↓Xn,↓Xo,↓Xg,↓Xd,↓Xe,↓Xf,Tryz.VΓ,Tryz.Γs,Xp,Xi,Nat.reduceAdd,Nat.reduceSub,Nat.reduceLT,Nat.reduceLeDiff,reduceIte,reduceCtorEq,Nat.reduceEqDiff,implies_true,forall_const,lawV,lawA,beq_self_eq_true,bne_self_eq_false,Int.reduceBEq,Int.reduceBNe,Int.reduceLT,Int.reduceLE,f3,hxao,hxac,f0s,ho]
  have kpA : Kp bs (b9.set (bs.length + 3) (.cells [.str (didText d),xa,.nils,.nils,.nils] 34 true)) := kp9.set (by omega) _
  have g0 := f0s (.cells [.str (didText d),xa,.nils,.nils,.nils] 34 true)
  have g1 := get_setN f1 (show bs.length + 3 ≠ bs.length + 1 by omega) (.cells [.str (didText d),xa,.nils,.nils,.nils] 34 true)
  have g2 := get_setN f2 (show bs.length + 3 ≠ bs.length + 2 by omega) (.cells [.str (didText d),xa,.nils,.nils,.nils] 34 true)
  have g3 : (b9.set (bs.length + 3) (.cells [.str (didText d),xa,.nils,.nils,.nils] 34 true))[bs.length + 3]? = _ := List.getElem?_set_self (List.getElem?_eq_some_iff.1 f3).1
  have hxaA := hxa.ro (ro_box f3 (.cells [.str (didText d),xa,.nils,.nils,.nils] 34 true))
  generalize b9.set (bs.length + 3) (.cells [.str (didText d),xa,.nils,.nils,.nils] 34 true) = bA at kpA g0 g1 g2 g3 hxaA
  clear kp9 f0 f1 f2 f3 f0s hxa hla hm
  obtain ⟨xv,hxv,hgc⟩ := jd_Get hv ([99,111,110,116,114,111,108,108,101,114] : List UInt8)
  obtain ⟨q1,q2,q3,q4⟩ := hxv.tin
  have hxvo : (one xv.xk && one xv.xi) = true := by rw [q3,q4]; rfl
  unfold tv at hgc
  refine callV_sc (hgc _ kpA.ro) ?_
  rintro r bA ⟨rfl,rfl⟩
  obtain ⟨ym,Lm,hym,hLm,hlm⟩ := sc_dd_list hv ([118,101,114,105,102,105,99,97,116,105,111,110,77,101,116,104,111,100] : List UInt8)
  obtain ⟨ys,Lv,hys,hLv,hls⟩ := sc_dd_list hv ([115,101,114,118,105,99,101] : List UInt8)
  have hymo := hym.one
  have hyso := hys.one
  have hyml := hym.len
  have hysl := hys.len
  have hLml := hLm.len
  have hLvl := hLv.len
  have hm64 := hll ([118,101,114,105,102,105,99,97,116,105,111,110,77,101,116,104,111,100] : List UInt8)
  have hv64 := hll ([115,101,114,118,105,99,101] : List UInt8)
  unfold tv at hlm hls
  -- the two roads meet
  rcases hg : j.get ([99,111,110,116,114,111,108,108,101,114] : List UInt8) with _ | m
  have hcE : ctrlE (alsoE 0 j) j = alsoE 0 j := by unfold ctrlE; rw [hg]
  have hcL : ctrlL j = [] := by unfold ctrlL; rw [hg]
  simp only [lawG,↓Xn,↓Xo,↓Xg,↓Xd,↓Xe,↓Xf,Tryz.VΓ,Tryz.Γs,Xp,Xi,Nat.reduceAdd,Nat.reduceSub,Nat.reduceLT,Nat.reduceLeDiff,reduceIte,reduceCtorEq,Nat.reduceEqDiff,implies_true,forall_const,lawV,lawA,beq_self_eq_true,bne_self_eq_false,Int.reduceBEq,Int.reduceBNe,Int.reduceLT,Int.reduceLE,hxvo,hg,Option.isSome_none,at_old g0,ho]
  obtain ⟨xc,hxc⟩ : ∃ xc,xc = SV.nils := ⟨_,rfl⟩
  have hxcS : Rs (bA ++ [Res.cells [.int .i64 xv.k,.str xv.t,xv.xk,xv.xi] 25 true]) xc (ctrlL j) := .inl ⟨hxc,hcL⟩
  have hxco : one xc = true := by rw [hxc]; rfl
  have kpS := kpA.app [Res.cells [.int .i64 xv.k,.str xv.t,xv.xk,xv.xi] 25 true]
  have s0 := at_old g0 [Res.cells [.int .i64 xv.k,.str xv.t,xv.xk,xv.xi] 25 true]
  have s1 := at_old g1 [Res.cells [.int .i64 xv.k,.str xv.t,xv.xk,xv.xi] 25 true]
  have s2 := at_old g2 [Res.cells [.int .i64 xv.k,.str xv.t,xv.xk,xv.xi] 25 true]
  have s3 : (bA ++ [Res.cells [.int .i64 xv.k,.str xv.t,xv.xk,xv.xi] 25 true])[bs.length + 3]? = some (.cells [.str (didText d),xa,xc,.nils,.nils] 34 true) := by rw [hxc]; exact at_old g3 _
  rw [← hcE] at s2
  have hxaS := hxaA.ro ((Ro.refl bA).app [Res.cells [.int .i64 xv.k,.str xv.t,xv.xk,xv.xi] 25 true])
  generalize bA ++ [Res.cells [.int .i64 xv.k,.str xv.t,xv.xk,xv.xi] 25 true] = S at hxcS kpS s0 s1 s2 s3 hxaS
  clear hg hgc hcE hcL hxc
  rotate_left
  have hcE : ctrlE (alsoE 0 j) j = moreE (alsoE 0 j) m := by unfold ctrlE; rw [hg]
  have hcL : ctrlL j = moreL m := by unfold ctrlL; rw [hg]
  have hat : j.at ([99,111,110,116,114,111,108,108,101,114] : List UInt8) = m := by unfold Jv.at; rw [hg]; rfl
  simp only [lawG,↓Xn,↓Xo,↓Xg,↓Xd,↓Xe,↓Xf,Tryz.VΓ,Tryz.Γs,Xp,Xi,Nat.reduceAdd,Nat.reduceSub,Nat.reduceLT,Nat.reduceLeDiff,reduceIte,reduceCtorEq,Nat.reduceEqDiff,implies_true,forall_const,lawV,lawA,beq_self_eq_true,bne_self_eq_false,Int.reduceBEq,Int.reduceBNe,Int.reduceLT,Int.reduceLE,hxvo,hg,Option.isSome_some]
  rw [hat] at hxv
  have hmo := sc_dd_more (hxv.ro (kpA.ro.app [.cells [.int .i64 xv.k,.str xv.t,xv.xk,xv.xi] 25 true])) (at_old g2 _)
  unfold tv at hmo
  refine callV_sc hmo ?_
  rintro xc bB ⟨hkB,hxc⟩
  have kpB := (kpA.app _).kpP hkB (by omega)
  have f0 := hkB.at (at_old g0 _) (by omega)
  have f1 := hkB.at (at_old g1 _) (by omega)
  have f2 := hkB.2.2
  have f3 := hkB.at (at_old g3 _) (by omega)
  have hxaB := hxaA.ro (((Ro.refl bA).app _).trans (hkB.ro (at_old g2 _)))
  have hxco := hxc.one
  have hxcc := hxc.cells
  have hxc := hxc.rs
  rw [← hcE] at f2
  rw [← hcL] at hxc
  have f0s := fun X => get_setN f0 (show bs.length + 3 ≠ bs.length by omega) X
  simp only [lawG,↓Xn,↓Xo,↓Xg,↓Xd,↓Xe,↓Xf,Tryz.VΓ,Tryz.Γs,Xp,Xi,Nat.reduceAdd,Nat.reduceSub,Nat.reduceLT,Nat.reduceLeDiff,reduceIte,reduceCtorEq,Nat.reduceEqDiff,implies_true,forall_const,lawV,lawA,beq_self_eq_true,bne_self_eq_false,Int.reduceBEq,Int.reduceBNe,Int.reduceLT,Int.reduceLE,f3,hxco,hxcc,hxao,f0s,ho]
  have kpS : Kp bs (bB.set (bs.length + 3) (.cells [.str (didText d),xa,xc,.nils,.nils] 34 true)) := kpB.set (by omega) _
  have s0 := f0s (.cells [.str (didText d),xa,xc,.nils,.nils] 34 true)
  have s1 := get_setN f1 (show bs.length + 3 ≠ bs.length + 1 by omega) (.cells [.str (didText d),xa,xc,.nils,.nils] 34 true)
  have s2 := get_setN f2 (show bs.length + 3 ≠ bs.length + 2 by omega) (.cells [.str (didText d),xa,xc,.nils,.nils] 34 true)
  have s3 : (bB.set (bs.length + 3) (.cells [.str (didText d),xa,xc,.nils,.nils] 34 true))[bs.length + 3]? = _ := List.getElem?_set_self (List.getElem?_eq_some_iff.1 f3).1
  have hxaS := hxaB.ro (ro_box f3 (.cells [.str (didText d),xa,xc,.nils,.nils] 34 true))
  have hxcS := hxc.ro (ro_box f3 (.cells [.str (didText d),xa,xc,.nils,.nils] 34 true))
  generalize bB.set (bs.length + 3) (.cells [.str (didText d),xa,xc,.nils,.nils] 34 true) = S at kpS s0 s1 s2 s3 hxaS hxcS
  clear hg hgc hcE hcL kpB f0 f1 f2 f3 f0s hxaB hmo hkB
  rotate_left
  all_goals
    refine callV_sc (hlm _ (bs.length + 2) d _ kpS.ro s2 (within_up kpS.1 hym.within)) ?_
    rintro ym b1 ⟨rfl,rfl⟩
    obtain ⟨E1,hE1⟩ : ∃ E1,E1 = listE (ctrlE (alsoE 0 j) j) j ([118,101,114,105,102,105,99,97,116,105,111,110,77,101,116,104,111,100] : List UInt8) := ⟨_,rfl⟩
    rw [← hE1]
    have dS : DI bs S v d _ _ := ⟨kpS,s0,s1,s2,s3⟩
    have dT := dS.setE E1
    have hxaT := hxaS.ro (dS.roE (.cells (dec d E1) 62 true))
    have hxcT := hxcS.ro (dS.roE (.cells (dec d E1) 62 true))
    generalize S.set (bs.length + 2) (.cells (dec d E1) 62 true) = T at dT hxaT hxcT
    clear s0 s1 s2 s3 kpS hxaS hxcS dS
    simp only [lawG,↓Xn,↓Xo,↓Xg,↓Xd,↓Xe,↓Xf,Tryz.VΓ,Tryz.Γs,Xp,Xi,Nat.reduceAdd,Nat.reduceSub,Nat.reduceLT,Nat.reduceLeDiff,reduceIte,reduceCtorEq,Nat.reduceEqDiff,implies_true,forall_const,lawV,lawA,beq_self_eq_true,bne_self_eq_false,Int.reduceBEq,Int.reduceBNe,Int.reduceLT,Int.reduceLE,hyml]
    obtain ⟨LM,hLM⟩ : ∃ LM,LM = listL j ([118,101,114,105,102,105,99,97,116,105,111,110,77,101,116,104,111,100] : List UInt8) := ⟨_,rfl⟩
    rw [← hLM] at hLm hLml hm64
    refine loopV_mk (fun σ => ∃ (k : Nat) (xm : SV),k ≤ Lm.length ∧ lk 1 σ.t = some (.p bs.length 0) ∧ lk 2 σ.t = some (.p (bs.length + 1) 0) ∧ lk 4 σ.t = some (.p (bs.length + 2) 0) ∧ lk 5 σ.t = some (.p (bs.length + 3) 0) ∧ lk 52 σ.t = some ym ∧ lk 53 σ.t = some (.int .i64 Lm.length) ∧ lk 54 σ.t = some (.int .i64 k) ∧
      DI bs σ.b v d (foldE (methE d) E1 (LM.take k)) [.str (didText d),xa,xc,xm,.nils] ∧ Rs σ.b xa (alsoL j) ∧ Rs σ.b xc (ctrlL j) ∧
      ((xm = .nils ∧ k = 0) ∨ ∃ q,0 < k ∧ xm = .o q k ∧ bs.length + 3 < q ∧ σ.b[q]? = some (.own (((LM.take k).map (methM d)).flatMap mc) 48 3 k true))) (fun σ => Lm.length - lkI 54 σ)
      ⟨0,.nils,by omega,rfl,rfl,rfl,rfl,rfl,rfl,rfl,dT,hxaT,hxcT,.inl ⟨rfl,rfl⟩⟩ ?_
    clear dT hxaT hxcT
    clear T
    rintro ⟨t,b⟩ ⟨k,xm,hk,l1,l2,l4,l5,l52,l53,l54,dT,hxaT,hxcT,hxm⟩
    simp only at l1 l2 l4 l5 l52 l53 l54 dT hxaT hxcT hxm
    rw [lkI_eq l54]
    have hxmo : one xm = true := by rcases hxm with ⟨rfl,-⟩ | ⟨q,-,rfl,-⟩ <;> rfl
    have hxaO := hxaT.one
    have hxcO := hxcT.one
    by_cases hlt : k < Lm.length
    · have hlt2 : decide ((k : Int) < Lm.length) = true := decide_eq_true (by omega)
      have hltL : k < LM.length := by omega
      rcases hym with ⟨-,hx0⟩ | ⟨i,rfl,hi⟩
      · rw [hx0] at hlt; exact absurd hlt (by simp)
      have hbi := dT.1.at hi
      have hu : List.take 4 (List.drop (k * 4) (Lm.flatMap tv)) = [.int .i64 Lm[k].k,.str Lm[k].t,Lm[k].xk,Lm[k].xi] := tv_at Lm k hlt
      have hul := tv_len Lm
      have hel := hLm.at k hltL hlt
      obtain ⟨u1,u2,u3,u4⟩ := hel.tin
      have hfo : foldE (methE d) E1 (LM.take (k + 1)) = methE d (foldE (methE d) E1 (LM.take k)) LM[k] := by
        unfold foldE; rw [List.take_succ_eq_append_getElem hltL,List.foldl_append]; rfl
      have hsn : ((LM.take (k + 1)).map (methM d)).flatMap mc = ((LM.take k).map (methM d)).flatMap mc ++ mc (methM d LM[k]) := by
        rw [List.take_succ_eq_append_getElem hltL,List.map_append,List.flatMap_append]; simp
      have huo : (one Lm[k].xk && one Lm[k].xi) = true := by rw [u3,u4]; rfl
      generalize Lm[k] = u at hu hel huo
      generalize LM[k] = ju at hel hfo hsn
      have hid := sc_dd_id (hel.ro (dT.1.ro.app [.cells (tv u) 25 true])) hfit (dT.app _).2.2.2.1
      unfold tv at hid
      simp only [lawG,↓Xn,↓Xo,↓Xg,↓Xd,↓Xe,↓Xf,Tryz.VΓ,Tryz.Γs,Xp,Xi,Nat.reduceAdd,Nat.reduceSub,Nat.reduceLT,Nat.reduceLeDiff,reduceIte,reduceCtorEq,Nat.reduceEqDiff,implies_true,forall_const,lawV,lawA,beq_self_eq_true,bne_self_eq_false,Int.reduceBEq,Int.reduceBNe,Int.reduceLT,Int.reduceLE,l1,l2,l4,l5,l52,l53,l54,hlt2,hbi,hu,huo]
      (repeat (refine ⟨by first | omega | (unfold maxLen; omega),?_⟩))
      refine callV_sc hid ?_
      rintro r b1 ⟨rfl,rfl⟩
      rw [app_setL (by have := dT.lt; omega)]
      have d1 := dT.setE (idE d (foldE (methE d) E1 (LM.take k)) ju)
      have ro1 := dT.roE (.cells (dec d (idE d (foldE (methE d) E1 (LM.take k)) ju)) 62 true)
      have hl1 : (b.set (bs.length + 2) (.cells (dec d (idE d (foldE (methE d) E1 (LM.take k)) ju)) 62 true)).length = b.length := List.length_set
      have hxm1 : (xm = .nils ∧ k = 0) ∨ ∃ q,0 < k ∧ xm = .o q k ∧ bs.length + 3 < q ∧ (b.set (bs.length + 2) (.cells (dec d (idE d (foldE (methE d) E1 (LM.take k)) ju)) 62 true))[q]? = some (.own (((LM.take k).map (methM d)).flatMap mc) 48 3 k true) := by
        rcases hxm with h | ⟨q,h0,h1,h2,h3⟩
        · exact .inl h
        · exact .inr ⟨q,h0,h1,h2,get_setN h3 (by omega) _⟩
      generalize b.set (bs.length + 2) (.cells (dec d (idE d (foldE (methE d) E1 (LM.take k)) ju)) 62 true) = b1 at d1 ro1 hl1 hxm1
      rw [← hl1]
      simp only [lawG,↓Xn,↓Xo,↓Xg,↓Xd,↓Xe,↓Xf,Tryz.VΓ,Tryz.Γs,Xp,Xi,Nat.reduceAdd,Nat.reduceSub,Nat.reduceLT,Nat.reduceLeDiff,reduceIte,reduceCtorEq,Nat.reduceEqDiff,implies_true,forall_const,lawV,lawA,beq_self_eq_true,bne_self_eq_false,Int.reduceBEq,Int.reduceBNe,Int.reduceLT,Int.reduceLE,l1,l2,l4,l5]
      have hm1 := sc_dd_member (hel.ro (d1.1.ro.app [.cells (tv u) 25 true,.cells [.str (idT d ju),.str [],.str []] 48 true])) ([116,121,112,101] : List UInt8) (d1.app _).2.2.2.1
      unfold tv at hm1
      refine callD_scw [(bs.length + 2,0,0)] hm1 (outs_set _ _ _) ?_
      rw [app_setL (by have := d1.lt; omega)]
      have d2 := d1.setE (textsE (idE d (foldE (methE d) E1 (LM.take k)) ju) [ju.at ([116,121,112,101] : List UInt8)])
      have ro2 := d1.roE (.cells (dec d (textsE (idE d (foldE (methE d) E1 (LM.take k)) ju) [ju.at ([116,121,112,101] : List UInt8)])) 62 true)
      have hl2 : (b1.set (bs.length + 2) (.cells (dec d (textsE (idE d (foldE (methE d) E1 (LM.take k)) ju) [ju.at ([116,121,112,101] : List UInt8)])) 62 true)).length = b1.length := List.length_set
      have hxm2 : (xm = .nils ∧ k = 0) ∨ ∃ q,0 < k ∧ xm = .o q k ∧ bs.length + 3 < q ∧ (b1.set (bs.length + 2) (.cells (dec d (textsE (idE d (foldE (methE d) E1 (LM.take k)) ju) [ju.at ([116,121,112,101] : List UInt8)])) 62 true))[q]? = some (.own (((LM.take k).map (methM d)).flatMap mc) 48 3 k true) := by
        rcases hxm1 with h | ⟨q,h0,h1,h2,h3⟩
        · exact .inl h
        · exact .inr ⟨q,h0,h1,h2,get_setN h3 (by omega) _⟩
      generalize b1.set (bs.length + 2) (.cells (dec d (textsE (idE d (foldE (methE d) E1 (LM.take k)) ju) [ju.at ([116,121,112,101] : List UInt8)])) 62 true) = b2 at d2 ro2 hl2 hxm2
      rw [← hl2]
      simp only [lawG,↓Xn,↓Xo,↓Xg,↓Xd,↓Xe,↓Xf,Tryz.VΓ,Tryz.Γs,Xp,Xi,Nat.reduceAdd,Nat.reduceSub,Nat.reduceLT,Nat.reduceLeDiff,reduceIte,reduceCtorEq,Nat.reduceEqDiff,implies_true,forall_const,lawV,lawA,beq_self_eq_true,bne_self_eq_false,Int.reduceBEq,Int.reduceBNe,Int.reduceLT,Int.reduceLE,l1,l2,l4,l5]
      have hm2 := sc_dd_member (hel.ro (d2.1.ro.app [.cells (tv u) 25 true,.cells [.str (idT d ju),.str [],.str []] 48 true])) ([99,111,110,116,114,111,108,108,101,114] : List UInt8) (d2.app _).2.2.2.1
      unfold tv at hm2
      refine callD_scw [(bs.length + 2,0,0)] hm2 (outs_set _ _ _) ?_
      rw [app_setL (by have := d2.lt; omega)]
      have d3 := d2.setE (textsE (textsE (idE d (foldE (methE d) E1 (LM.take k)) ju) [ju.at ([116,121,112,101] : List UInt8)]) [ju.at ([99,111,110,116,114,111,108,108,101,114] : List UInt8)])
      have ro3 := d2.roE (.cells (dec d (textsE (textsE (idE d (foldE (methE d) E1 (LM.take k)) ju) [ju.at ([116,121,112,101] : List UInt8)]) [ju.at ([99,111,110,116,114,111,108,108,101,114] : List UInt8)])) 62 true)
      have hl3 : (b2.set (bs.length + 2) (.cells (dec d (textsE (textsE (idE d (foldE (methE d) E1 (LM.take k)) ju) [ju.at ([116,121,112,101] : List UInt8)]) [ju.at ([99,111,110,116,114,111,108,108,101,114] : List UInt8)])) 62 true)).length = b2.length := List.length_set
      have hxm3 : (xm = .nils ∧ k = 0) ∨ ∃ q,0 < k ∧ xm = .o q k ∧ bs.length + 3 < q ∧ (b2.set (bs.length + 2) (.cells (dec d (textsE (textsE (idE d (foldE (methE d) E1 (LM.take k)) ju) [ju.at ([116,121,112,101] : List UInt8)]) [ju.at ([99,111,110,116,114,111,108,108,101,114] : List UInt8)])) 62 true))[q]? = some (.own (((LM.take k).map (methM d)).flatMap mc) 48 3 k true) := by
        rcases hxm2 with h | ⟨q,h0,h1,h2,h3⟩
        · exact .inl h
        · exact .inr ⟨q,h0,h1,h2,get_setN h3 (by omega) _⟩
      generalize b2.set (bs.length + 2) (.cells (dec d (textsE (textsE (idE d (foldE (methE d) E1 (LM.take k)) ju) [ju.at ([116,121,112,101] : List UInt8)]) [ju.at ([99,111,110,116,114,111,108,108,101,114] : List UInt8)])) 62 true) = b3 at d3 ro3 hl3 hxm3
      rw [← hl3]
      have z1 : (b3.length = bs.length + 2) = False := eq_false (by have := d3.lt; omega)
      have z2 : (b3.length + 1 = bs.length + 2) = False := eq_false (by have := d3.lt; omega)
      have g3 := d3.2.2.2.2
      have g3l := (List.getElem?_eq_some_iff.1 g3).1
      have hs3 : ∀ (l : List Res) X,(b3 ++ l).set (bs.length + 3) X = b3.set (bs.length + 3) X ++ l := fun l X => app_setL g3l l X
      have ro3 := ((ro1.trans ro2).trans ro3)
      rcases hxm3 with ⟨rfl,rfl⟩ | ⟨q,hk0,rfl,hq,hbq⟩
      · simp only [lawG,↓Xn,↓Xo,↓Xg,↓Xd,↓Xe,↓Xf,Tryz.VΓ,Tryz.Γs,Xp,Xi,Nat.reduceAdd,Nat.reduceSub,Nat.reduceLT,Nat.reduceLeDiff,reduceIte,reduceCtorEq,Nat.reduceEqDiff,implies_true,forall_const,lawV,lawA,beq_self_eq_true,bne_self_eq_false,Int.reduceBEq,Int.reduceBNe,Int.reduceLT,Int.reduceLE,l1,l2,l4,l5,l52,l53,l54,at_old g3,hxaO,hxcO,hs3]
        refine ⟨?_,?_⟩
        · refine OkD_ren (fun q => if q = bs.length + 2 then 0 else q - b3.length + 1) ?_
          simp only [List.map_cons,List.map_nil,renRk,renT,Nat.add_sub_cancel_left,Nat.sub_self,z1,z2,if_true,if_false]
          exact OkD_fast (by kernel_rfl)
        (repeat (refine ⟨by first | omega | (unfold maxLen; omega),?_⟩))
        have hrr := ro3.trans ((d3.roD (.cells [.str (didText d),xa,xc,.o (b3.length + 3) 1,.nils] 34 true)).app [.cells [.int .i64 u.k,.str u.t,u.xk,u.xi] 25 true,.cells [.str (idT d ju),.str (ju.at ([116,121,112,101] : List UInt8)).t,.str (ju.at ([99,111,110,116,114,111,108,108,101,114] : List UInt8)).t] 48 true,.own [.str (idT d ju),.str (ju.at ([116,121,112,101] : List UInt8)).t,.str (ju.at ([99,111,110,116,114,111,108,108,101,114] : List UInt8)).t] 48 3 1 true,.own [.str (idT d ju),.str (ju.at ([116,121,112,101] : List UInt8)).t,.str (ju.at ([99,111,110,116,114,111,108,108,101,114] : List UInt8)).t] 48 3 1 true])
        refine ⟨⟨1,_,by omega,rfl,by rw [hfo]; exact (d3.setD _).app _,hxaT.ro hrr,hxcT.ro hrr,.inr ⟨_,by omega,rfl,by have := d3.lt; omega,?_⟩⟩,?_⟩
        · rw [app_atL (by simp),hsn]; rfl
        · rw [lkI_eq (show lk 54 _ = some (.int .i64 ((1 : Nat) : Int)) from rfl)]; omega
      · have hql := (List.getElem?_eq_some_iff.1 hbq).1
        have hsq : ∀ (l : List Res) X,(b3 ++ l).set q X = b3.set q X ++ l := fun l X => app_setL hql l X
        have hs4 : ∀ (l : List Res) Y X,(b3.set q Y ++ l).set (bs.length + 3) X = (b3.set q Y).set (bs.length + 3) X ++ l := fun l Y X => app_setL (by simpa using g3l) l X
        have g4 := fun Y => at_old (get_setN g3 (show q ≠ bs.length + 3 by omega) Y)
        simp only [lawG,↓Xn,↓Xo,↓Xg,↓Xd,↓Xe,↓Xf,Tryz.VΓ,Tryz.Γs,Xp,Xi,Nat.reduceAdd,Nat.reduceSub,Nat.reduceLT,Nat.reduceLeDiff,reduceIte,reduceCtorEq,Nat.reduceEqDiff,implies_true,forall_const,lawV,lawA,beq_self_eq_true,bne_self_eq_false,Int.reduceBEq,Int.reduceBNe,Int.reduceLT,Int.reduceLE,l1,l2,l4,l5,l52,l53,l54,at_old g3,at_old hbq,g4,hsq,hxaO,hxcO,hs3,hs4]
        refine ⟨?_,?_⟩
        · refine OkD_ren (fun q => if q = bs.length + 2 then 0 else q - b3.length + 1) ?_
          simp only [List.map_cons,List.map_nil,renRk,renT,Nat.add_sub_cancel_left,Nat.sub_self,z1,z2,if_true,if_false]
          exact OkD_fast (by kernel_rfl)
        (repeat (refine ⟨by first | omega | (unfold maxLen; omega),?_⟩))
        have d4 := d3.setQ hq .gone
        have hrr := ro3.trans ((((Ro.refl b3).setT hbq .gone).trans (d4.roD (.cells [.str (didText d),xa,xc,.o (b3.length + 3) (k + 1),.nils] 34 true))).app [.cells [.int .i64 u.k,.str u.t,u.xk,u.xi] 25 true,.cells [.str (idT d ju),.str (ju.at ([116,121,112,101] : List UInt8)).t,.str (ju.at ([99,111,110,116,114,111,108,108,101,114] : List UInt8)).t] 48 true,.own [.str (idT d ju),.str (ju.at ([116,121,112,101] : List UInt8)).t,.str (ju.at ([99,111,110,116,114,111,108,108,101,114] : List UInt8)).t] 48 3 1 true,.own ((((LM.take k).map (methM d)).flatMap mc) ++ [.str (idT d ju),.str (ju.at ([116,121,112,101] : List UInt8)).t,.str (ju.at ([99,111,110,116,114,111,108,108,101,114] : List UInt8)).t]) 48 3 (k + 1) true])
        refine ⟨⟨k + 1,_,by omega,rfl,by rw [hfo]; exact (d4.setD _).app _,hxaT.ro hrr,hxcT.ro hrr,.inr ⟨_,by omega,rfl,by have := d3.lt; omega,?_⟩⟩,?_⟩
        · rw [app_atL (by simp),hsn]; rfl
        · rw [lkI_eq (show lk 54 _ = some (.int .i64 ((k + 1 : Nat) : Int)) from rfl)]; omega
    · have hlt2 : decide ((k : Int) < Lm.length) = false := decide_eq_false (by omega)
      have hkl : LM.take k = LM := List.take_of_length_le (by omega)
      rw [hkl] at dT hxm
      simp only [lawG,↓Xn,↓Xo,↓Xg,↓Xd,↓Xe,↓Xf,Tryz.VΓ,Tryz.Γs,Xp,Xi,Nat.reduceAdd,Nat.reduceSub,Nat.reduceLT,Nat.reduceLeDiff,reduceIte,reduceCtorEq,Nat.reduceEqDiff,implies_true,forall_const,lawV,lawA,beq_self_eq_true,bne_self_eq_false,Int.reduceBEq,Int.reduceBNe,Int.reduceLT,Int.reduceLE,l1,l2,l4,l5,l52,l53,l54,hlt2,dT.2.1,ho]
      refine callV_sc (hls _ (bs.length + 2) d _ dT.1.ro dT.2.2.2.1 (within_up dT.1.1 hys.within)) ?_
      rintro ys b1 ⟨rfl,rfl⟩
      obtain ⟨E2,hE2⟩ : ∃ E2,E2 = listE (foldE (methE d) E1 LM) j ([115,101,114,118,105,99,101] : List UInt8) := ⟨_,rfl⟩
      rw [← hE2]
      have dU := dT.setE E2
      have hxaU := hxaT.ro (dT.roE (.cells (dec d E2) 62 true))
      have hxcU := hxcT.ro (dT.roE (.cells (dec d E2) 62 true))
      have hlU : (b.set (bs.length + 2) (.cells (dec d E2) 62 true)).length = b.length := List.length_set
      have hxmU : (xm = .nils ∧ LM = []) ∨ ∃ q,0 < LM.length ∧ xm = .o q LM.length ∧ bs.length + 3 < q ∧ q < b.length ∧ (b.set (bs.length + 2) (.cells (dec d E2) 62 true))[q]? = some (.own ((LM.map (methM d)).flatMap mc) 48 3 LM.length true) := by
        rcases hxm with ⟨h1,h2⟩ | ⟨q,h0,h1,h2,h3⟩
        · exact .inl ⟨h1,List.length_eq_zero_iff.1 (by omega)⟩
        · obtain rfl : k = LM.length := by omega
          exact .inr ⟨q,h0,h1,h2,(List.getElem?_eq_some_iff.1 h3).1,get_setN h3 (by omega) _⟩
      generalize b.set (bs.length + 2) (.cells (dec d E2) 62 true) = U at dU hxaU hxcU hlU hxmU
      obtain ⟨N,hN⟩ : ∃ N,N = b.length := ⟨_,rfl⟩
      rw [← hN] at hxmU hlU
      obtain ⟨LS,hLS⟩ : ∃ LS,LS = listL j ([115,101,114,118,105,99,101] : List UInt8) := ⟨_,rfl⟩
      rw [← hLS] at hLv hLvl hv64
      clear dT hxaT hxcT hxm
      simp only [lawG,↓Xn,↓Xo,↓Xg,↓Xd,↓Xe,↓Xf,Tryz.VΓ,Tryz.Γs,Xp,Xi,Nat.reduceAdd,Nat.reduceSub,Nat.reduceLT,Nat.reduceLeDiff,reduceIte,reduceCtorEq,Nat.reduceEqDiff,implies_true,forall_const,lawV,lawA,beq_self_eq_true,bne_self_eq_false,Int.reduceBEq,Int.reduceBNe,Int.reduceLT,Int.reduceLE,l1,l2,l4,l5,hysl]
      refine loopV_mk (fun σ => ∃ (k : Nat) (xs : SV) (Q : List Sq),k ≤ Lv.length ∧ lk 1 σ.t = some (.p bs.length 0) ∧ lk 2 σ.t = some (.p (bs.length + 1) 0) ∧ lk 4 σ.t = some (.p (bs.length + 2) 0) ∧ lk 5 σ.t = some (.p (bs.length + 3) 0) ∧ lk 75 σ.t = some ys ∧ lk 76 σ.t = some (.int .i64 Lv.length) ∧ lk 77 σ.t = some (.int .i64 k) ∧
        DI bs σ.b v d (foldE (servE d) E2 (LS.take k)) [.str (didText d),xa,xc,xm,xs] ∧ Rs σ.b xa (alsoL j) ∧ Rs σ.b xc (ctrlL j) ∧ N ≤ σ.b.length ∧
        ((xm = .nils ∧ LM = []) ∨ ∃ q,0 < LM.length ∧ xm = .o q LM.length ∧ bs.length + 3 < q ∧ q < N ∧ σ.b[q]? = some (.own ((LM.map (methM d)).flatMap mc) 48 3 LM.length true)) ∧
        Q.map Sq.m = (LS.take k).map (servM d) ∧ (∀ q ∈ Q,SqOk σ.b q) ∧
        ((xs = .nils ∧ k = 0) ∨ ∃ q,0 < k ∧ xs = .o q k ∧ N ≤ q ∧ σ.b[q]? = some (.own (Q.flatMap sqc) 46 3 k true))) (fun σ => Lv.length - lkI 77 σ)
        ⟨0,.nils,[],by omega,by assumption,by assumption,by assumption,by assumption,rfl,rfl,rfl,dU,hxaU,hxcU,Nat.le_of_eq hlU.symm,hxmU,rfl,by simp,.inl ⟨rfl,rfl⟩⟩ ?_
      have hNn : bs.length + 3 < N := by have := dU.lt; omega
      clear dU hxaU hxcU hlU hxmU l1 l2 l4 l5 l52 l53 l54 hN
      clear U
      rintro ⟨t,b⟩ ⟨k,xs,Q,hk,l1,l2,l4,l5,l75,l76,l77,dT,hxaT,hxcT,hNb,hxm,hQm,hQ,hxs⟩
      simp only at l1 l2 l4 l5 l75 l76 l77 dT hxaT hxcT hNb hxm hQ hxs
      rw [lkI_eq l77]
      have hxaO := hxaT.one
      have hxcO := hxcT.one
      have hxmO : one xm = true := by rcases hxm with ⟨rfl,-⟩ | ⟨q,-,rfl,-⟩ <;> rfl
      have hxsO : one xs = true := by rcases hxs with ⟨rfl,-⟩ | ⟨q,-,rfl,-⟩ <;> rfl
      by_cases hlt : k < Lv.length
      · have hlt2 : decide ((k : Int) < Lv.length) = true := decide_eq_true (by omega)
        have hltL : k < LS.length := by omega
        rcases hys with ⟨-,hx0⟩ | ⟨i,rfl,hi⟩
        · rw [hx0] at hlt; exact absurd hlt (by simp)
        have hbi := dT.1.at hi
        have hu : List.take 4 (List.drop (k * 4) (Lv.flatMap tv)) = [.int .i64 Lv[k].k,.str Lv[k].t,Lv[k].xk,Lv[k].xi] := tv_at Lv k hlt
        have hul := tv_len Lv
        have hel := hLv.at k hltL hlt
        obtain ⟨u1,u2,u3,u4⟩ := hel.tin
        have hfo : foldE (servE d) E2 (LS.take (k + 1)) = servE d (foldE (servE d) E2 (LS.take k)) LS[k] := by
          unfold foldE; rw [List.take_succ_eq_append_getElem hltL,List.foldl_append]; rfl
        have hsn : (LS.take (k + 1)).map (servM d) = (LS.take k).map (servM d) ++ [servM d LS[k]] := by
          rw [List.take_succ_eq_append_getElem hltL,List.map_append]; rfl
        have huo : (one Lv[k].xk && one Lv[k].xi) = true := by rw [u3,u4]; rfl
        generalize Lv[k] = u at hu hel huo
        generalize LS[k] = ju at hel hfo hsn
        have hsv := sc_dd_service (hel.ro (dT.1.ro.app [.cells (tv u) 25 true])) hfit (dT.app _).2.2.2.1
        unfold tv at hsv
        have g3 := dT.2.2.2.2
        simp only [lawG,↓Xn,↓Xo,↓Xg,↓Xd,↓Xe,↓Xf,Tryz.VΓ,Tryz.Γs,Xp,Xi,Nat.reduceAdd,Nat.reduceSub,Nat.reduceLT,Nat.reduceLeDiff,reduceIte,reduceCtorEq,Nat.reduceEqDiff,implies_true,forall_const,lawV,lawA,beq_self_eq_true,bne_self_eq_false,Int.reduceBEq,Int.reduceBNe,Int.reduceLT,Int.reduceLE,l1,l2,l4,l5,l75,l76,l77,hlt2,hbi,hu,huo,at_old g3]
        (repeat (refine ⟨by first | omega | (unfold maxLen; omega),?_⟩))
        refine callD_scw [(bs.length + 2,0,0),(b.length + 1,0,0),(b.length + 2,0,0)] hsv (outs_set2 (by simp) (by simp) _ _ _) ?_
        rw [app_setL (by have := dT.lt; omega),List.append_assoc]
        have d1 := dT.setE (servE d (foldE (servE d) E2 (LS.take k)) ju)
        have ro1 := dT.roE (.cells (dec d (servE d (foldE (servE d) E2 (LS.take k)) ju)) 62 true)
        have hl1 : (b.set (bs.length + 2) (.cells (dec d (servE d (foldE (servE d) E2 (LS.take k)) ju)) 62 true)).length = b.length := List.length_set
        have hxs1 : (xs = .nils ∧ k = 0) ∨ ∃ q,0 < k ∧ xs = .o q k ∧ N ≤ q ∧ (b.set (bs.length + 2) (.cells (dec d (servE d (foldE (servE d) E2 (LS.take k)) ju)) 62 true))[q]? = some (.own (Q.flatMap sqc) 46 3 k true) := by
          rcases hxs with h | ⟨q,h0,h1,h2,h3⟩
          · exact .inl h
          · exact .inr ⟨q,h0,h1,h2,get_setN h3 (by omega) _⟩
        have hxm1 : (xm = .nils ∧ LM = []) ∨ ∃ q,0 < LM.length ∧ xm = .o q LM.length ∧ bs.length + 3 < q ∧ q < N ∧ (b.set (bs.length + 2) (.cells (dec d (servE d (foldE (servE d) E2 (LS.take k)) ju)) 62 true))[q]? = some (.own ((LM.map (methM d)).flatMap mc) 48 3 LM.length true) := by
          rcases hxm with h | ⟨q,h0,h1,h2,h3,h4⟩
          · exact .inl h
          · exact .inr ⟨q,h0,h1,h2,h3,get_setN h4 (by omega) _⟩
        generalize b.set (bs.length + 2) (.cells (dec d (servE d (foldE (servE d) E2 (LS.take k)) ju)) 62 true) = b1 at d1 ro1 hl1 hxs1 hxm1
        have g3 := d1.2.2.2.2
        have g3l := (List.getElem?_eq_some_iff.1 g3).1
        have hs3 : ∀ (l : List Res) X,(b1 ++ l).set (bs.length + 3) X = b1.set (bs.length + 3) X ++ l := fun l X => app_setL g3l l X
        have c1 := canS_one (b.length + 1) (servM d ju).types
        have c2 := canS_one (b.length + 2) (servM d ju).ends
        simp only [List.length_append,List.length_cons,List.length_nil,Nat.add_assoc]
        rw [← hl1] at c1 c2 ⊢
        have hdl := d1.lt
        have z0 : (bs.length + 3 = bs.length + 2) = False := eq_false (by omega)
        have z1 : ∀ i,(b1.length + i = bs.length + 2) = False := fun i => eq_false (by omega)
        have z2 : ∀ i,(b1.length + i = bs.length + 3) = False := fun i => eq_false (by omega)
        have z3 : (b1.length = bs.length + 2) = False := z1 0
        have z4 : (b1.length = bs.length + 3) = False := z2 0
        rcases hxs1 with ⟨rfl,rfl⟩ | ⟨q,hk0,rfl,hq,hbq⟩
        · obtain rfl : Q = [] := List.map_eq_nil_iff.1 (by rw [hQm]; simp)
          simp only [lawG,↓Xn,↓Xo,↓Xg,↓Xd,↓Xe,↓Xf,Tryz.VΓ,Tryz.Γs,Xp,Xi,Nat.reduceAdd,Nat.reduceSub,Nat.reduceLT,Nat.reduceLeDiff,reduceIte,reduceCtorEq,Nat.reduceEqDiff,implies_true,forall_const,lawV,lawA,beq_self_eq_true,bne_self_eq_false,Int.reduceBEq,Int.reduceBNe,Int.reduceLT,Int.reduceLE,l1,l2,l4,l5,l75,l76,l77,at_old g3,hxaO,hxcO,hxmO,hs3,c1,c2]
          (repeat (refine ⟨by first | omega | (unfold maxLen; omega),?_⟩))
          refine ⟨?_,?_⟩
          · refine OkD_ren (fun x => if x = bs.length + 2 then 0 else if x = bs.length + 3 then 1 else x - b1.length + 3) ?_
            simp only [List.map_cons,List.map_nil,renRk,renT,Nat.add_sub_cancel_left,Nat.sub_self,z0,z1,z2,z3,z4,if_true,if_false]
            exact OkD_fast (by kernel_rfl)
          (repeat (refine ⟨by first | omega | (unfold maxLen; omega),?_⟩))
          have hrr := ro1.trans ((d1.roD (.cells [.str (didText d),xa,xc,xm,.o (b1.length + 4) 1] 34 true)).app [.cells [.int .i64 u.k,.str u.t,u.xk,u.xi] 25 true,canR (servM d ju).types,canR (servM d ju).ends,.own [.str (servM d ju).id,canS (b1.length + 1) (servM d ju).types,canS (b1.length + 2) (servM d ju).ends] 46 3 1 true,.own [.str (servM d ju).id,canS (b1.length + 1) (servM d ju).types,canS (b1.length + 2) (servM d ju).ends] 46 3 1 true])
          refine ⟨⟨1,_,[⟨servM d ju,canS (b1.length + 1) (servM d ju).types,canS (b1.length + 2) (servM d ju).ends⟩],by omega,rfl,by rw [hfo]; exact (d1.setD _).app _,hxaT.ro hrr,hxcT.ro hrr,by simp; omega,?_,by rw [hsn]; simp,?_,.inr ⟨_,by omega,rfl,by omega,?_⟩⟩,?_⟩
          · rcases hxm1 with h | ⟨q,h0,h1,h2,h3,h4⟩
            · exact .inl h
            · exact .inr ⟨q,h0,h1,h2,h3,at_old (get_setN h4 (by omega) _) _⟩
          · intro x hx
            rw [List.mem_singleton.1 hx]
            exact ⟨canS_rs (by rw [app_atL (by simp)]; rfl),canS_rs (by rw [app_atL (by simp)]; rfl)⟩
          · rw [app_atL (by simp)]; rfl
          · rw [lkI_eq (show lk 77 _ = some (.int .i64 ((1 : Nat) : Int)) from rfl)]; omega
        · have hql := (List.getElem?_eq_some_iff.1 hbq).1
          have hsq : ∀ (l : List Res) X,(b1 ++ l).set q X = b1.set q X ++ l := fun l X => app_setL hql l X
          have hs4 : ∀ (l : List Res) Y X,(b1.set q Y ++ l).set (bs.length + 3) X = (b1.set q Y).set (bs.length + 3) X ++ l := fun l Y X => app_setL (by simpa using g3l) l X
          have g4 := fun Y => at_old (get_setN g3 (show q ≠ bs.length + 3 by omega) Y)
          simp only [lawG,↓Xn,↓Xo,↓Xg,↓Xd,↓Xe,↓Xf,Tryz.VΓ,Tryz.Γs,Xp,Xi,Nat.reduceAdd,Nat.reduceSub,Nat.reduceLT,Nat.reduceLeDiff,reduceIte,reduceCtorEq,Nat.reduceEqDiff,implies_true,forall_const,lawV,lawA,beq_self_eq_true,bne_self_eq_false,Int.reduceBEq,Int.reduceBNe,Int.reduceLT,Int.reduceLE,l1,l2,l4,l5,l75,l76,l77,at_old g3,at_old hbq,g4,hsq,hxaO,hxcO,hxmO,hs3,hs4,c1,c2]
          (repeat (refine ⟨by first | omega | (unfold maxLen; omega),?_⟩))
          have z5 : ∀ i,(b1.length + i = q) = False := fun i => eq_false (by omega)
          have z6 : (b1.length = q) = False := z5 0
          have z7 : (q = bs.length + 2) = False := eq_false (by omega)
          have z8 : (q = bs.length + 3) = False := eq_false (by omega)
          have z9 : (bs.length + 3 = q) = False := eq_false (by omega)
          refine ⟨?_,?_⟩
          · refine OkD_ren (fun x => if x = bs.length + 2 then 0 else if x = bs.length + 3 then 1 else if x = q then 2 else x - b1.length + 3) ?_
            simp only [List.map_cons,List.map_nil,renRk,renT,Nat.add_sub_cancel_left,Nat.sub_self,z0,z1,z2,z3,z4,z5,z6,z7,z8,z9,if_true,if_false]
            exact OkD_fast (by kernel_rfl)
          (repeat (refine ⟨by first | omega | (unfold maxLen; omega),?_⟩))
          have d4 := d1.setQ (show bs.length + 3 < q by omega) .gone
          have hrr := ro1.trans ((((Ro.refl b1).setT hbq .gone).trans (d4.roD (.cells [.str (didText d),xa,xc,xm,.o (b1.length + 4) (k + 1)] 34 true))).app [.cells [.int .i64 u.k,.str u.t,u.xk,u.xi] 25 true,canR (servM d ju).types,canR (servM d ju).ends,.own [.str (servM d ju).id,canS (b1.length + 1) (servM d ju).types,canS (b1.length + 2) (servM d ju).ends] 46 3 1 true,.own (Q.flatMap sqc ++ [.str (servM d ju).id,canS (b1.length + 1) (servM d ju).types,canS (b1.length + 2) (servM d ju).ends]) 46 3 (k + 1) true])
          refine ⟨⟨k + 1,_,Q ++ [⟨servM d ju,canS (b1.length + 1) (servM d ju).types,canS (b1.length + 2) (servM d ju).ends⟩],by omega,rfl,by rw [hfo]; exact (d4.setD _).app _,hxaT.ro hrr,hxcT.ro hrr,by simp; omega,?_,by rw [hsn,List.map_append,hQm]; rfl,?_,.inr ⟨_,by omega,rfl,by omega,?_⟩⟩,?_⟩
          · rcases hxm1 with h | ⟨q',h0,h1,h2,h3,h4⟩
            · exact .inl h
            · exact .inr ⟨q',h0,h1,h2,h3,at_old (get_setN (get_setN h4 (by omega) _) (by omega) _) _⟩
          · intro x hx
            rcases List.mem_append.1 hx with hx | hx
            · exact (hQ x hx).ro hrr
            · rw [List.mem_singleton.1 hx]
              exact ⟨canS_rs (by rw [app_atL (by simp)]; rfl),canS_rs (by rw [app_atL (by simp)]; rfl)⟩
          · rw [app_atL (by simp),rows_snoc]; rfl
          · rw [lkI_eq (show lk 77 _ = some (.int .i64 ((k + 1 : Nat) : Int)) from rfl)]; omega
      · have hlt2 : decide ((k : Int) < Lv.length) = false := decide_eq_false (by omega)
        have hkl : LS.take k = LS := List.take_of_length_le (by omega)
        rw [hkl] at dT hQm
        have g2 := dT.2.2.2.1
        unfold dec at g2
        have hEE : foldE (servE d) E2 LS = docE d j := by rw [hLS,hE2,hLM,hE1]; rfl
        rw [hEE] at g2 dT
        have g1l := (List.getElem?_eq_some_iff.1 dT.2.2.1).1
        have hs1 : ∀ X,(b.set (bs.length + 1) X)[bs.length + 1]? = some X := fun X => List.getElem?_set_self g1l
        have hs2 := fun X => get_setN g2 (show bs.length + 1 ≠ bs.length + 2 by omega) X
        by_cases hz : docE d j = 0
        · have hb : (docE d j != 0) = false := by rw [hz]; rfl
          simp only [lawG,↓Xn,↓Xo,↓Xg,↓Xd,↓Xe,↓Xf,Tryz.VΓ,Tryz.Γs,Xp,Xi,Nat.reduceAdd,Nat.reduceSub,Nat.reduceLT,Nat.reduceLeDiff,reduceIte,reduceCtorEq,Nat.reduceEqDiff,implies_true,forall_const,lawV,lawA,beq_self_eq_true,bne_self_eq_false,Int.reduceBEq,Int.reduceBNe,Int.reduceLT,Int.reduceLE,l1,l2,l4,l5,l75,l76,l77,hlt2,g2,dT.2.2.1,dT.2.2.2.2,hb,hxaO,hxcO,hxmO,hxsO,hs1]
          rw [hdoc,if_pos hz]
          have hle : bs.length ≤ (b.set (bs.length + 1) (.cells [.str (didText d),xa,xc,xm,xs] 34 true)).length := by rw [List.length_set]; exact dT.1.1
          have hrr := (ro_box dT.2.2.1 (.cells [.str (didText d),xa,xc,xm,xs] 34 true)).trans (dimB_dim hle).ro
          refine ⟨hle,_,rfl,(dT.1.set (by omega) _).dimB,xa,xc,xm,xs,Q,rfl,hxaT.ro hrr,hxcT.ro hrr,?_,?_,fun q hq => (hQ q hq).ro hrr,by rw [hQm,hLS]; rfl⟩
          · rcases hxm with ⟨rfl,h2⟩ | ⟨q,h0,rfl,h2,h3,h4⟩
            · exact .inl ⟨rfl,by show (listL j ([118,101,114,105,102,105,99,97,116,105,111,110,77,101,116,104,111,100] : List UInt8)).map (methM d) = []; rw [← hLM,h2]; rfl⟩
            · refine .inr ⟨q,by show _ = SV.o q ((listL j ([118,101,114,105,102,105,99,97,116,105,111,110,77,101,116,104,111,100] : List UInt8)).map (methM d)).length; rw [← hLM,List.length_map],?_⟩
              rw [dimB_at (by omega) (get_setN h4 (show bs.length + 1 ≠ q by omega) _)]
              have hml : (docM d j,(0 : Int)).1.methods.length = LM.length := by show ((listL j ([118,101,114,105,102,105,99,97,116,105,111,110,77,101,116,104,111,100] : List UInt8)).map (methM d)).length = _; rw [← hLM,List.length_map]
              show _ = some (Res.own (((listL j ([118,101,114,105,102,105,99,97,116,105,111,110,77,101,116,104,111,100] : List UInt8)).map (methM d)).flatMap mc) _ _ _ _)
              rw [← hLM,hml]; rfl
          · have hQl : Q.length = LS.length := by have := congrArg List.length hQm; simpa using this
            rcases hxs with ⟨rfl,h2⟩ | ⟨q,h0,rfl,h2,h3⟩
            · exact .inl ⟨rfl,List.length_eq_zero_iff.1 (by omega)⟩
            · obtain rfl : k = Q.length := by omega
              refine .inr ⟨q,rfl,?_⟩
              rw [dimB_at (by omega) (get_setN h3 (show bs.length + 1 ≠ q by omega) _)]
              rfl
        · have hb : (docE d j != 0) = true := bne_iff_ne.2 hz
          simp only [lawG,↓Xn,↓Xo,↓Xg,↓Xd,↓Xe,↓Xf,Tryz.VΓ,Tryz.Γs,Xp,Xi,Nat.reduceAdd,Nat.reduceSub,Nat.reduceLT,Nat.reduceLeDiff,reduceIte,reduceCtorEq,Nat.reduceEqDiff,implies_true,forall_const,lawV,lawA,beq_self_eq_true,bne_self_eq_false,Int.reduceBEq,Int.reduceBNe,Int.reduceLT,Int.reduceLE,l1,l2,l4,l5,l75,l76,l77,hlt2,g2,dT.2.2.1,dT.2.2.2.2,hb,hs1,hs2]
          rw [hdoc,if_neg hz]
          exact ⟨by (refine OkD_ren (fun n => n - bs.length) ?_; simp only [List.map_cons,List.map_nil,renRk,renT,Nat.add_sub_cancel_left,Nat.sub_self,if_true]; exact OkD_fast (by kernel_rfl)),by rw [List.length_set]; exact dT.1.1,_,rfl,(dT.1.set (by omega) _).dimB,DocR.none _⟩
end Go.Proofs.YtejfjmcjicpodaaGreatDoor
/- Calls with one outcome: where each call has one,the whole walk has one. -/
set_option linter.all false
namespace Vc
open Go Go.RowKit Wf
def SU (V : Cx) (f : FuncId) (args : List SV) (bs : List Res) (R : SV → List Res → Prop) : Prop := ∃ x b,R x b ∧ SC V f args bs (fun r b' => r = x ∧ b' = b)
section
variable {V : Cx} {f : FuncId} {args : List SV} {bs : List Res} {R R' : SV → List Res → Prop}
theorem SU.of {x : SV} {b : List Res} (h : SC V f args bs (fun r b' => r = x ∧ b' = b)) (k : R x b) : SU V f args bs R := ⟨x,b,k,h⟩
end
inductive DItem where
  | dops (ops : Array Oper) (l : List Oper) (rs : List Rk)
  | code (c : Code)
  | ops (ops : Array Oper) (l : List Oper)
  | endb (id : Nat)
  | dl (I : St → Prop) (μ : St → Nat) (m : Nat) (P : SV × List Res → St → Prop)
def base : List DItem → List Item
  | [] => []
  | .dops ops l rs :: k => .dops ops l rs :: base k
  | .code c :: k => .code c :: base k
  | .ops ops l :: k => .ops ops l :: base k
  | .endb id :: k => .endb id :: base k
  | .dl I μ m _ :: k => .endl I μ m :: base k
def inst (o : SV × List Res) : List DItem → List Item
  | [] => []
  | .dops ops l rs :: k => .dops ops l rs :: inst o k
  | .code c :: k => .code c :: inst o k
  | .ops ops l :: k => .ops ops l :: inst o k
  | .endb id :: k => .endb id :: inst o k
  | .dl _ μ m P :: k => .endl (P o) μ m :: inst o k
def okI (E : Fin) (D : List DItem) : Prop := ∀ I μ m P,DItem.dl I μ m P ∈ D → ∀ σ,I σ → μ σ < m → ∃ o : SV × List Res,E.K o.1 o.2 ∧ P o σ
def Eo (E : Fin) (o : SV × List Res) : Fin := ⟨E.rs,fun r b => r = o.1 ∧ b = o.2,E.how,E.uni⟩
inductive LeI : List Item → List Item → Prop where
  | nil : LeI [] []
  | same (i : Item) {k k' : List Item} (h : LeI k k') : LeI (i :: k) (i :: k')
  | endl {I I' : St → Prop} (μ : St → Nat) (m : Nat) {k k' : List Item} (hI : ∀ σ,I σ → I' σ) (h : LeI k k') : LeI (.endl I μ m :: k) (.endl I' μ m :: k')
theorem LeI.refl : ∀ k,LeI k k
  | [] => .nil
  | i :: k => .same i (LeI.refl k)
theorem LeI.exit {id : Nat} : ∀ {k k' q : List Item},LeI k k' → XE id k = some q → ∃ q',XE id k' = some q' ∧ LeI q q'
  | _,_,q,.nil,h => by simp [XE] at h
  | _,_,q,.same i h,e => by
    cases i
    case endb id' =>
      simp only [XE] at e ⊢
      split at e
      · cases e
        rename_i hh
        rw [if_pos hh]
        exact ⟨_,rfl,h⟩
      · rename_i hh
        rw [if_neg hh]
        exact LeI.exit h e
    all_goals
      simp only [XE] at e ⊢
      exact LeI.exit h e
  | _,_,q,.endl μ m hI h,e => by
    simp only [XE] at e ⊢
    exact LeI.exit h e
section
variable {V : Cx} {n : Nat}
theorem contV_map {E : Fin} {f : Nat} {ops : Array Oper} {r : List Oper} {k k' : List Item} (H : ∀ σ,vcS V n E f (.ops ops r :: k) σ → vcS V n E f (.ops ops r :: k') σ) {s : StepR} (h : Yc V n E f ops r k s) : Yc V n E f ops r k' s := by
  cases s <;> simp only [Yc] at h ⊢
  · exact ⟨h.1,H _ h.2⟩
  · unfold callV at h ⊢
    rcases h with ⟨x,h1,h2⟩ | ⟨R,h1,h3,h2⟩
    · exact .inl ⟨x,h1,H _ h2⟩
    · exact .inr ⟨R,h1,h3,fun x b hR => H _ (h2 x b hR)⟩
theorem contD_map {E : Fin} {f : Nat} {ops : Array Oper} {r : List Oper} {rs : List Rk} {k k' : List Item} (H : ∀ rs σ,vcS V n E f (.dops ops r rs :: k) σ → vcS V n E f (.dops ops r rs :: k') σ) {dst : Option Tmp} {σ : St} {s : StepD} (h : Yg V n E f ops r rs k dst σ s) : Yg V n E f ops r rs k' dst σ s := by
  cases s with
  | bad => simp only [Yg] at h
  | val c r =>
    obtain ⟨x,nb,all,rd,wr⟩ := r
    cases nb <;> simp only [Yg] at h ⊢ <;> exact ⟨h.1,H _ _ h.2⟩
  | call g args =>
    simp only [Yg] at h ⊢
    unfold callD at h ⊢
    rcases h with ⟨x,h1,h2⟩ | ⟨x,b,h1,h2⟩ | ⟨x,b,W,h1,h2,h3⟩
    · exact .inl ⟨x,h1,H _ _ h2⟩
    · exact .inr (.inl ⟨x,b,h1,H _ _ h2⟩)
    · exact .inr (.inr ⟨x,b,W,h1,h2,H _ _ h3⟩)
theorem vcS_le {E : Fin} : ∀ (f : Nat) {k k' : List Item} {σ : St},E.uni = true → LeI k k' → (∀ i ∈ k,(∃ J,i = .cut J) ∨ (∃ a b c,i = .aops a b c) → False) → vcS V n E f k σ → vcS V n E f k' σ
  | 0,k,k',σ,_,_,_,h => by cases k <;> simp [vcS] at h
  | f + 1,_,_,σ,_,.nil,_,h => h
  | f + 1,_,_,σ,_,.endl μ m hI hk,_,h => by
    simp only [vcS] at h ⊢
    exact ⟨hI _ h.1,h.2⟩
  | f + 1,_,_,σ,hu,.same (k := k) (k' := k') i hk,hno,h => by
    have hno' : ∀ i ∈ k,(∃ J,i = .cut J) ∨ (∃ a b c,i = .aops a b c) → False := fun i hi => hno i (List.mem_cons_of_mem _ hi)
    have H0 : ∀ σ,vcS V n E f k σ → vcS V n E f k' σ := fun σ h => vcS_le f hu hk hno' h
    have H1 : ∀ i σ,((∃ J,i = .cut J) ∨ (∃ a b c,i = .aops a b c) → False) → vcS V n E f (i :: k) σ → vcS V n E f (i :: k') σ := fun i σ hi h => vcS_le f hu (.same i hk) (by
      intro j hj
      rcases List.mem_cons.1 hj with rfl | hj
      · exact hi
      · exact hno' j hj) h
    have H2 : ∀ i j σ,((∃ J,i = .cut J) ∨ (∃ a b c,i = .aops a b c) → False) → ((∃ J,j = .cut J) ∨ (∃ a b c,j = .aops a b c) → False) → vcS V n E f (i :: j :: k) σ → vcS V n E f (i :: j :: k') σ := fun i j σ hi hj h => vcS_le f hu (.same i (.same j hk)) (by
      intro q hq
      rcases List.mem_cons.1 hq with rfl | hq
      · exact hi
      · rcases List.mem_cons.1 hq with rfl | hq
        · exact hj
        · exact hno' q hq) h
    cases i with
    | aops a b c => exact (hno _ List.mem_cons_self (.inr ⟨a,b,c,rfl⟩)).elim
    | cut J => exact (hno _ List.mem_cons_self (.inl ⟨J,rfl⟩)).elim
    | endb id => simp only [vcS] at h ⊢; exact H0 _ h
    | endl I μ m => simp only [vcS] at h ⊢; exact h
    | ops ops l =>
      match l with
      | [] => simp only [vcS] at h ⊢; exact H0 _ h
      | ⟨dst,op,ty,pos,after,none⟩ :: r =>
        simp only [vcS] at h ⊢
        exact ⟨h.1,contV_map (fun σ h => H1 _ _ (by rintro (⟨_,h⟩ | ⟨_,_,_,h⟩) <;> cases h) h) h.2⟩
      | ⟨dst,op,ty,pos,after,some (j,want)⟩ :: r =>
        simp only [vcS] at h ⊢
        refine ⟨h.1,?_⟩
        have h := h.2
        have HC : ∀ σ,vcS V n E f (.ops ops r :: k) σ → vcS V n E f (.ops ops r :: k') σ := fun σ h => H1 _ _ (by rintro (⟨_,h⟩ | ⟨_,_,_,h⟩) <;> cases h) h
        cases hg : Yk σ.t (gdst ops.toList j) with
        | some p =>
          obtain ⟨d,b⟩ := p
          rw [hg] at h
          simp only [XA,XG] at h ⊢
          exact ⟨h.1,fun e => contV_map HC (h.2.1 e),fun e => HC _ (h.2.2 e)⟩
        | none =>
          rw [hg] at h
          cases hgu : gvU σ.t (gdst ops.toList j) with
          | true => rw [hgu] at h; simp only [XA] at h ⊢; exact HC _ h
          | false => rw [hgu] at h; simp [XA] at h
    | dops ops l rs =>
      match l with
      | [] => simp only [vcS] at h ⊢; exact ⟨h.1,H0 _ h.2⟩
      | ⟨dst,op,ty,pos,after,none⟩ :: r =>
        simp only [vcS] at h ⊢
        exact ⟨h.1,contD_map (fun rs σ h => H1 _ _ (by rintro (⟨_,h⟩ | ⟨_,_,_,h⟩) <;> cases h) h) h.2⟩
      | ⟨dst,op,ty,pos,after,some (j,want)⟩ :: r =>
        simp only [vcS] at h ⊢
        refine ⟨h.1,?_⟩
        have h := h.2
        have HC : ∀ rs σ,vcS V n E f (.dops ops r rs :: k) σ → vcS V n E f (.dops ops r rs :: k') σ := fun rs σ h => H1 _ _ (by rintro (⟨_,h⟩ | ⟨_,_,_,h⟩) <;> cases h) h
        cases hg : Yk σ.t (gdst ops.toList j) with
        | some p =>
          obtain ⟨d,b⟩ := p
          rw [hg] at h
          simp only [Xy,XG] at h ⊢
          exact ⟨h.1,fun e => contD_map HC (h.2.1 e),fun e => HC _ _ (h.2.2 e)⟩
        | none =>
          rw [hg] at h
          cases hgu : gvU σ.t (gdst ops.toList j) with
          | true => rw [hgu] at h; simp only [Xy] at h ⊢; exact HC _ _ h
          | false => rw [hgu] at h; simp [Xy] at h
    | code c =>
      have nc : ∀ c : Code,((∃ J,Item.code c = .cut J) ∨ (∃ a b d,Item.code c = .aops a b d) → False) := by
        rintro c (⟨_,h⟩ | ⟨_,_,_,h⟩) <;> cases h
      cases c with
      | skip => simp only [vcS] at h ⊢; exact H0 _ h
      | region id ops draw =>
        cases draw
        · simp only [vcS] at h ⊢
          exact H1 _ _ (by rintro (⟨_,h⟩ | ⟨_,_,_,h⟩) <;> cases h) h
        · simp only [vcS] at h ⊢
          cases hw : E.how id with
          | all t => rw [hw] at h; simp only [regV,hu] at h; exact absurd h.1 (by simp)
          | ord p =>
            rw [hw] at h
            simp only [regV] at h ⊢
            exact ⟨h.1,H1 _ _ (by rintro (⟨_,h⟩ | ⟨_,_,_,h⟩) <;> cases h) h.2⟩
      | seq x y => simp only [vcS] at h ⊢; exact H2 _ _ _ (nc _) (nc _) h
      | cond c x y =>
        simp only [vcS] at h ⊢
        cases hb : ev σ.t c with
        | none => rw [hb] at h; simp [XN] at h
        | some v =>
          rw [hb] at h
          cases v <;> simp only [XN,XQ] at h ⊢
          exact ⟨fun e => H1 _ _ (nc _) (h.1 e),fun e => H1 _ _ (nc _) (h.2 e)⟩
      | block id x => simp only [vcS] at h ⊢; exact H2 _ _ _ (nc _) (by rintro (⟨_,h⟩ | ⟨_,_,_,h⟩) <;> cases h) h
      | loop x =>
        simp only [vcS,loopV] at h ⊢
        obtain ⟨I,μ,h0,h1⟩ := h
        exact ⟨I,μ,h0,fun σ' hi => H2 _ _ _ (nc _) (by rintro (⟨_,h⟩ | ⟨_,_,_,h⟩) <;> cases h) (h1 σ' hi)⟩
      | exit id =>
        simp only [vcS] at h ⊢
        cases hx : XE id k with
        | none => rw [hx] at h; simp [XO] at h
        | some q =>
          obtain ⟨q',hq,hle⟩ := hk.exit hx
          rw [hx] at h
          rw [hq]
          simp only [XO] at h ⊢
          refine vcS_le f hu hle (fun i hi => hno' i ?_) h
          exact exit_mem hx i hi
      | ret => simp only [vcS] at h ⊢; exact h
      | _ => simp [vcS] at h
where exit_mem {id : Nat} : ∀ {k q : List Item},XE id k = some q → ∀ i ∈ q,i ∈ k
  | [],_,h => by simp [XE] at h
  | i :: k,q,h => by
    cases i
    case endb id' =>
      simp only [XE] at h
      split at h
      · cases h; exact fun i hi => List.mem_cons_of_mem _ hi
      · exact fun i hi => List.mem_cons_of_mem _ (exit_mem h i hi)
    all_goals
      simp only [XE] at h
      exact fun i hi => List.mem_cons_of_mem _ (exit_mem h i hi)
theorem okI.cons {E : Fin} {D : List DItem} (h : okI E D) (i : DItem) (hi : ∀ I μ m P,i ≠ .dl I μ m P) : okI E (i :: D) := fun I μ m P hm => by
  rcases List.mem_cons.1 hm with e | hm
  · exact absurd e.symm (hi _ _ _ _)
  · exact h I μ m P hm
theorem okI.tail {E : Fin} {D : List DItem} {i : DItem} (h : okI E (i :: D)) : okI E D := fun I μ m P hm => h I μ m P (List.mem_cons_of_mem _ hm)
theorem inst_no (o : SV × List Res) : ∀ (D : List DItem),∀ i ∈ inst o D,(∃ J,i = Item.cut J) ∨ (∃ a b c,i = .aops a b c) → False
  | [],i,h => by simp [inst] at h
  | d :: D,i,h => by
    cases d <;> simp only [inst] at h <;> (
      rcases List.mem_cons.1 h with e0 | h0
      · subst e0
        rintro (⟨_,e⟩ | ⟨_,_,_,e⟩) <;> cases e
      · exact inst_no o D i h0)
theorem exit_base {id : Nat} : ∀ {D : List DItem} {q : List Item},XE id (base D) = some q → ∃ D',q = base D' ∧ (∀ o,XE id (inst o D) = some (inst o D')) ∧ ∀ i ∈ D',i ∈ D
  | [],_,h => by simp [base,XE] at h
  | d :: D,q,h => by
    cases d
    case endb id' =>
      simp only [base,XE] at h
      split at h
      · rename_i hh
        cases h
        exact ⟨D,rfl,fun o => by simp [inst,XE,hh],fun i hi => List.mem_cons_of_mem _ hi⟩
      · rename_i hh
        obtain ⟨D',h1,h2,h3⟩ := exit_base h
        exact ⟨D',h1,fun o => by simp only [inst,XE,if_neg hh]; exact h2 o,fun i hi => List.mem_cons_of_mem _ (h3 i hi)⟩
    all_goals
      simp only [base,XE] at h
      obtain ⟨D',h1,h2,h3⟩ := exit_base h
      exact ⟨D',h1,fun o => by simp only [inst,XE]; exact h2 o,fun i hi => List.mem_cons_of_mem _ (h3 i hi)⟩
def Gets (V : Cx) (n : Nat) (E : Fin) (f : Nat) (D : List DItem) (σ : St) : Prop := ∃ o : SV × List Res,E.K o.1 o.2 ∧ vcS V n (Eo E o) f (inst o D) σ
theorem contV_one {E : Fin} (hu : E.uni = true) {f : Nat} {ops : Array Oper} {r : List Oper} {D : List DItem} (H : ∀ σ,vcS V n E f (.ops ops r :: base D) σ → Gets V n E f (.ops ops r :: D) σ) {s : StepR} (h : Yc V n E f ops r (base D) s) :
    ∃ o : SV × List Res,E.K o.1 o.2 ∧ Yc V n (Eo E o) f ops r (inst o D) s := by
  cases s <;> simp only [Yc] at h ⊢
  · obtain ⟨o,h1,h2⟩ := H _ h.2
    exact ⟨o,h1,h.1,h2⟩
  · unfold callV at h
    rcases h with ⟨x,h1,h2⟩ | ⟨R,h1,h3,h2⟩
    · obtain ⟨o,k1,k2⟩ := H _ h2
      exact ⟨o,k1,by unfold callV; exact .inl ⟨x,h1,k2⟩⟩
    · obtain ⟨x,b,hR,h4⟩ := h3 hu
      obtain ⟨o,k1,k2⟩ := H _ (h2 x b hR)
      exact ⟨o,k1,by unfold callV; exact .inr ⟨_,h4,fun _ => ⟨x,b,⟨rfl,rfl⟩,h4⟩,by rintro _ _ ⟨rfl,rfl⟩; exact k2⟩⟩
theorem contD_one {E : Fin} {f : Nat} {ops : Array Oper} {r : List Oper} {rs : List Rk} {D : List DItem} (H : ∀ rs σ,vcS V n E f (.dops ops r rs :: base D) σ → Gets V n E f (.dops ops r rs :: D) σ) {dst : Option Tmp} {σ : St} {s : StepD} (h : Yg V n E f ops r rs (base D) dst σ s) :
    ∃ o : SV × List Res,E.K o.1 o.2 ∧ Yg V n (Eo E o) f ops r rs (inst o D) dst σ s := by
  cases s with
  | bad => simp only [Yg] at h
  | val c r =>
    obtain ⟨x,nb,all,rd,wr⟩ := r
    cases nb <;> simp only [Yg] at h ⊢ <;> obtain ⟨o,k1,k2⟩ := H _ _ h.2 <;> exact ⟨o,k1,h.1,k2⟩
  | call g args =>
    simp only [Yg] at h ⊢
    unfold callD at h
    rcases h with ⟨x,h1,h2⟩ | ⟨x,b,h1,h2⟩ | ⟨x,b,W,h1,h2,h3⟩
    · obtain ⟨o,k1,k2⟩ := H _ _ h2
      exact ⟨o,k1,by unfold callD; exact .inl ⟨x,h1,k2⟩⟩
    · obtain ⟨o,k1,k2⟩ := H _ _ h2
      exact ⟨o,k1,by unfold callD; exact .inr (.inl ⟨x,b,h1,k2⟩)⟩
    · obtain ⟨o,k1,k2⟩ := H _ _ h3
      exact ⟨o,k1,by unfold callD; exact .inr (.inr ⟨x,b,W,h1,h2,k2⟩)⟩
theorem vc_one {E : Fin} (hu : E.uni = true) : ∀ (f : Nat) (D : List DItem) (σ : St),okI E D → vcS V n E f (base D) σ → Gets V n E f D σ
  | 0,D,σ,_,h => by cases hD : base D <;> rw [hD] at h <;> simp [vcS] at h
  | f + 1,D,σ,hok,h => by
    have ih := vc_one hu f
    match D,hok,h with
    | [],hok,h =>
      simp only [base,vcS] at h
      cases hl : XT V σ E.rs with
      | none => rw [hl] at h; simp [endV] at h
      | some l =>
        rw [hl] at h
        refine ⟨(tupS l,σ.b),h,?_⟩
        simp only [inst,vcS,Eo,hl,endV]
        first | exact ⟨rfl,rfl⟩ | exact ⟨trivial,trivial⟩
    | .endb id :: D,hok,h =>
      simp only [base,vcS] at h
      obtain ⟨o,k1,k2⟩ := ih D σ hok.tail h
      exact ⟨o,k1,by simp only [inst,vcS]; exact k2⟩
    | .dl I μ m P :: D,hok,h =>
      simp only [base,vcS] at h
      obtain ⟨o,k1,k2⟩ := hok I μ m P List.mem_cons_self σ h.1 h.2
      exact ⟨o,k1,by simp only [inst,vcS]; exact ⟨k2,h.2⟩⟩
    | .ops ops l :: D,hok,h =>
      have hok2 := hok.tail
      have HC : ∀ r σ,vcS V n E f (.ops ops r :: base D) σ → Gets V n E f (.ops ops r :: D) σ := fun r σ h => ih (.ops ops r :: D) σ (hok2.cons _ (by intros; intro e; cases e)) h
      match l with
      | [] =>
        simp only [base,vcS] at h
        obtain ⟨o,k1,k2⟩ := ih D σ hok2 h
        exact ⟨o,k1,by simp only [inst,vcS]; exact k2⟩
      | ⟨dst,op,ty,pos,after,none⟩ :: r =>
        simp only [base,vcS] at h
        obtain ⟨o,k1,k2⟩ := contV_one hu (HC r) h.2
        exact ⟨o,k1,by simp only [inst,vcS]; exact ⟨h.1,k2⟩⟩
      | ⟨dst,op,ty,pos,after,some (j,want)⟩ :: r =>
        simp only [base,vcS] at h
        have hfit := h.1
        have h := h.2
        suffices hs : ∃ o : SV × List Res,E.K o.1 o.2 ∧ XA V n (Eo E o) f ops dst op want r (inst o D) σ (Yk σ.t (gdst ops.toList j)) (gvU σ.t (gdst ops.toList j)) by
          obtain ⟨o,k1,k2⟩ := hs
          exact ⟨o,k1,by simp only [inst,vcS]; exact ⟨hfit,k2⟩⟩
        cases hg : Yk σ.t (gdst ops.toList j) with
        | some p =>
          obtain ⟨d,b⟩ := p
          rw [hg] at h
          simp only [XA,XG] at h ⊢
          by_cases hb : b = want
          · obtain ⟨o,k1,k2⟩ := contV_one hu (HC r) (h.2.1 hb)
            exact ⟨o,k1,h.1,fun _ => k2,fun e => by rw [hb] at e; cases want <;> cases e⟩
          · have hb' : b = !want := by cases b <;> cases want <;> simp at hb ⊢
            obtain ⟨o,k1,k2⟩ := HC r _ (h.2.2 hb')
            exact ⟨o,k1,h.1,fun e => absurd e hb,fun _ => k2⟩
        | none =>
          rw [hg] at h
          cases hgu : gvU σ.t (gdst ops.toList j) with
          | true => rw [hgu] at h; simp only [XA] at h ⊢; exact HC r _ h
          | false => rw [hgu] at h; simp [XA] at h
    | .dops ops l rs :: D,hok,h =>
      have hok2 := hok.tail
      have HC : ∀ r rs σ,vcS V n E f (.dops ops r rs :: base D) σ → Gets V n E f (.dops ops r rs :: D) σ := fun r rs σ h => ih (.dops ops r rs :: D) σ (hok2.cons _ (by intros; intro e; cases e)) h
      match l with
      | [] =>
        simp only [base,vcS] at h
        obtain ⟨o,k1,k2⟩ := ih D σ hok2 h.2
        exact ⟨o,k1,by simp only [inst,vcS]; exact ⟨h.1,k2⟩⟩
      | ⟨dst,op,ty,pos,after,none⟩ :: r =>
        simp only [base,vcS] at h
        obtain ⟨o,k1,k2⟩ := contD_one (HC r) h.2
        exact ⟨o,k1,by simp only [inst,vcS]; exact ⟨h.1,k2⟩⟩
      | ⟨dst,op,ty,pos,after,some (j,want)⟩ :: r =>
        simp only [base,vcS] at h
        have hfit := h.1
        have h := h.2
        suffices hs : ∃ o : SV × List Res,E.K o.1 o.2 ∧ Xy V n (Eo E o) f ops dst op want r rs (inst o D) σ (Yk σ.t (gdst ops.toList j)) (gvU σ.t (gdst ops.toList j)) by
          obtain ⟨o,k1,k2⟩ := hs
          exact ⟨o,k1,by simp only [inst,vcS]; exact ⟨hfit,k2⟩⟩
        cases hg : Yk σ.t (gdst ops.toList j) with
        | some p =>
          obtain ⟨d,b⟩ := p
          rw [hg] at h
          simp only [Xy,XG] at h ⊢
          by_cases hb : b = want
          · obtain ⟨o,k1,k2⟩ := contD_one (HC r) (h.2.1 hb)
            exact ⟨o,k1,h.1,fun _ => k2,fun e => by rw [hb] at e; cases want <;> cases e⟩
          · have hb' : b = !want := by cases b <;> cases want <;> simp at hb ⊢
            obtain ⟨o,k1,k2⟩ := HC r _ _ (h.2.2 hb')
            exact ⟨o,k1,h.1,fun e => absurd e hb,fun _ => k2⟩
        | none =>
          rw [hg] at h
          cases hgu : gvU σ.t (gdst ops.toList j) with
          | true => rw [hgu] at h; simp only [Xy] at h ⊢; exact HC r _ _ h
          | false => rw [hgu] at h; simp [Xy] at h
    | .code c :: D,hok,h =>
      have hok2 := hok.tail
      have HC : ∀ c σ,vcS V n E f (.code c :: base D) σ → Gets V n E f (.code c :: D) σ := fun c σ h => ih (.code c :: D) σ (hok2.cons _ (by intros; intro e; cases e)) h
      cases c with
      | skip =>
        simp only [base,vcS] at h
        obtain ⟨o,k1,k2⟩ := ih D σ hok2 h
        exact ⟨o,k1,by simp only [inst,vcS]; exact k2⟩
      | region id ops draw =>
        cases draw
        · simp only [base,vcS] at h
          obtain ⟨o,k1,k2⟩ := ih (.ops ops ops.toList :: D) σ (hok2.cons _ (by intros; intro e; cases e)) h
          exact ⟨o,k1,by simp only [inst,vcS]; exact k2⟩
        · simp only [base,vcS] at h
          cases hw : E.how id with
          | all t => rw [hw] at h; simp only [regV,hu] at h; exact absurd h.1 (by simp)
          | ord p =>
            rw [hw] at h
            simp only [regV] at h
            obtain ⟨o,k1,k2⟩ := ih (.dops (permD ops p) (permD ops p).toList [] :: D) σ (hok2.cons _ (by intros; intro e; cases e)) h.2
            refine ⟨o,k1,?_⟩
            simp only [inst,vcS,Eo,hw,regV]
            exact ⟨h.1,k2⟩
      | seq x y =>
        simp only [base,vcS] at h
        obtain ⟨o,k1,k2⟩ := ih (.code x :: .code y :: D) σ ((hok2.cons _ (by intros; intro e; cases e)).cons _ (by intros; intro e; cases e)) h
        exact ⟨o,k1,by simp only [inst,vcS]; exact k2⟩
      | cond c x y =>
        simp only [base,vcS] at h
        suffices hs : ∃ o : SV × List Res,E.K o.1 o.2 ∧ XN V n (Eo E o) f x y (inst o D) σ (ev σ.t c) by
          obtain ⟨o,k1,k2⟩ := hs
          exact ⟨o,k1,by simp only [inst,vcS]; exact k2⟩
        cases hb : ev σ.t c with
        | none => rw [hb] at h; simp [XN] at h
        | some v =>
          rw [hb] at h
          cases v <;> simp only [XN,XQ] at h ⊢
          rename_i b
          cases b
          · obtain ⟨o,k1,k2⟩ := HC y σ (h.2 rfl)
            exact ⟨o,k1,fun e => (by cases e),fun _ => k2⟩
          · obtain ⟨o,k1,k2⟩ := HC x σ (h.1 rfl)
            exact ⟨o,k1,fun _ => k2,fun e => (by cases e)⟩
      | block id x =>
        simp only [base,vcS] at h
        obtain ⟨o,k1,k2⟩ := ih (.code x :: .endb id :: D) σ ((hok2.cons _ (by intros; intro e; cases e)).cons _ (by intros; intro e; cases e)) h
        exact ⟨o,k1,by simp only [inst,vcS]; exact k2⟩
      | loop x =>
        simp only [base,vcS,loopV] at h
        obtain ⟨I,μ,h0,h1⟩ := h
        let H : SV × List Res → St → Prop := fun o σ => ∃ S : St → Prop,S σ ∧ ∀ σ',S σ' → vcS V n (Eo E o) f (.code x :: .endl S μ (μ σ') :: inst o D) σ'
        have key : ∀ m σ,μ σ = m → I σ → ∃ o : SV × List Res,E.K o.1 o.2 ∧ H o σ := by
          intro m
          induction m using Nat.strongRecOn with
          | _ m ihm =>
          intro σ hm hi
          obtain ⟨o,k1,k2⟩ := ih (.code x :: .dl I μ (μ σ) (fun o σ2 => I σ2 ∧ H o σ2) :: D) σ (by
            refine okI.cons (fun I' μ' m' P hmem => ?_) _ (by intros; intro e; cases e)
            rcases List.mem_cons.1 hmem with e | hmem
            · cases e
              intro σ2 hi2 hlt
              obtain ⟨o,k1,k2⟩ := ihm (μ σ2) (by omega) σ2 rfl hi2
              exact ⟨o,k1,hi2,k2⟩
            · exact hok2 I' μ' m' P hmem) (h1 σ hi)
          have hno : ∀ (S : St → Prop) m,∀ i ∈ (.code x :: .endl S μ m :: inst o D : List Item),(∃ J,i = Item.cut J) ∨ (∃ a b c,i = .aops a b c) → False := fun S m i hi => by
            rcases List.mem_cons.1 hi with rfl | hi
            · rintro (⟨_,e⟩ | ⟨_,_,_,e⟩) <;> cases e
            · rcases List.mem_cons.1 hi with rfl | hi
              · rintro (⟨_,e⟩ | ⟨_,_,_,e⟩) <;> cases e
              · exact inst_no o D i hi
          refine ⟨o,k1,fun σ' => σ' = σ ∨ H o σ',.inl rfl,?_⟩
          rintro σ' (rfl | ⟨S,hS,hall⟩)
          · exact vcS_le f (E := Eo E o) hu (.same _ (.endl μ _ (fun σ2 h2 => .inr h2.2) (LeI.refl _))) (hno _ _) k2
          · exact vcS_le f (E := Eo E o) hu (.same _ (.endl μ _ (fun σ2 h2 => .inr ⟨S,h2,hall⟩) (LeI.refl _))) (hno _ _) (hall σ' hS)
        obtain ⟨o,k1,S,k2,k3⟩ := key _ σ rfl h0
        exact ⟨o,k1,by simp only [inst,vcS,loopV]; exact ⟨S,μ,k2,k3⟩⟩
      | exit id =>
        simp only [base,vcS] at h
        cases hx : XE id (base D) with
        | none => rw [hx] at h; simp [XO] at h
        | some q =>
          obtain ⟨D',rfl,h2,h3⟩ := exit_base hx
          rw [hx] at h
          simp only [XO] at h
          obtain ⟨o,k1,k2⟩ := ih D' σ (fun I μ m P hm => hok2 I μ m P (h3 _ hm)) h
          exact ⟨o,k1,by simp only [inst,vcS,h2 o,XO]; exact k2⟩
      | ret =>
        simp only [base,vcS] at h
        cases hl : XT V σ E.rs with
        | none => rw [hl] at h; simp [endV] at h
        | some l =>
          rw [hl] at h
          refine ⟨(tupS l,σ.b),h,?_⟩
          simp only [inst,vcS,Eo,hl,endV]
          first | exact ⟨rfl,rfl⟩ | exact ⟨trivial,trivial⟩
      | _ => simp [base,vcS] at h
theorem su_ofP (how : Nat → How) {f : FuncId} {fn : Func} {c : Code} {args : List SV} {bs : List Res} {R : SV → List Res → Prop} {n : Nat} {rs : Array ResultVar} (fuel : Nat) (hf : V.P.funcs[f]? = some fn) (hb : fn.body = some c) (hn : fn.ntmps = n) (hr : fn.results = rs) (hent : Enters V f)
    (hlen : args.length ≤ n) (hsc : ∀ β β',Agr bs.length β β' → concL β args = concL β' args) (h : vcS V n ⟨rs.toList,R,how,true⟩ fuel [.code c] ⟨Yj 0 args,bs⟩) : SU V f args bs R := by
  obtain ⟨o,k1,k2⟩ := vc_one (E := ⟨rs.toList,R,how,true⟩) rfl fuel [.code c] ⟨Yj 0 args,bs⟩ (fun I μ m P hm => by simp at hm) h
  exact ⟨o.1,o.2,k1,sc_ofU true how fuel hf hb hn hr hent hlen hsc k2⟩
theorem su_of {f : FuncId} {fn : Func} {c : Code} {args : List SV} {bs : List Res} {R : SV → List Res → Prop} {n : Nat} {rs : Array ResultVar} (fuel : Nat) (hf : V.P.funcs[f]? = some fn) (hb : fn.body = some c) (hn : fn.ntmps = n) (hr : fn.results = rs) (hent : Enters V f)
    (hlen : args.length ≤ n) (hsc : ∀ β β',Agr bs.length β β' → concL β args = concL β' args) (h : vcS V n ⟨rs.toList,R,fun _ => .ord [],true⟩ fuel [.code c] ⟨Yj 0 args,bs⟩) : SU V f args bs R :=
  su_ofP (fun _ => .ord []) fuel hf hb hn hr hent hlen hsc h
theorem vcS_cutS {E : Fin} {f : Nat} {A B : Code} {k : List Item} {σ0 : St} (g : Nat) (J : St → Prop) (h1 : ∀ m σ,J σ → vcS V n E (m + g) (.code B :: k) σ) (h2 : ∀ k',(∀ m σ,J σ → vcS V n E (m + g) k' σ) → vcS V n E f (.code A :: k') σ0) : vcS V n E (f + 1) (.code (.seq A B) :: k) σ0 := by
  simp only [vcS]
  exact h2 _ h1
theorem pc_some {f : FuncId} {args : List SV} {R : SV → Prop} (fa : flat.flatL args = true) (h : SU V f args [] (fun r _ => flat r = true ∧ R r)) : ∃ r,PC V f args r ∧ R r := by
  obtain ⟨x,b,⟨h1,h2⟩,h3⟩ := h
  exact ⟨x,pc_of_sc fa h1 (h3.mono fun _ _ e => e.1),h2⟩
theorem px_of {f : FuncId} {fn : Func} {c : Code} {args : List SV} {R : SV → Prop} {n : Nat} {rs : Array ResultVar} (fuel : Nat) (hf : V.P.funcs[f]? = some fn) (hb : fn.body = some c) (hn : fn.ntmps = n) (hr : fn.results = rs) (hent : Enters V f)
    (hlen : args.length ≤ n) (fa : flat.flatL args = true) (h : vcS V n ⟨rs.toList,fun r _ => flat r = true ∧ R r,fun _ => .ord [],true⟩ fuel [.code c] ⟨Yj 0 args,[]⟩) : ∃ r,PC V f args r ∧ R r :=
  pc_some fa (su_of fuel hf hb hn hr hent hlen (fun β β' _ => concL_flat args fa β β') h)
end
end Vc
/- ref02: some exact results: Encode,value,Decode. -/
set_option linter.all false
set_option maxRecDepth 20000
namespace Go.Proofs.YtejfjmcjicpodaaGreatDoor
open Go Vc Go.RowKit Wf
set_option linter.unusedSimpArgs false
def pointB (r : Int) : Bool := decide (0 ≤ r) && (decide (r ≤ 1114111) && (decide (r < 55296) || decide (57343 < r)))
theorem p_r2_point (r : Int) : PC Tryz.V 134 [.int .i64 r] (.bool (pointB r)) := by
  unfold pointB
  refine pc_of 3000 Tryz.func134 rfl Tryz.ntmps134 Tryz.results134 Tryz.call134 (by simp) (by simp [flat,flat.flatL]) (by simp [flat,flat.flatL]) ?_
  cases h1 : decide (0 ≤ r)
  · simp only [lawG,↓Xn,↓Xo,↓Xg,↓Xd,↓Xe,↓Xf,Tryz.VΓ,Tryz.Γs,Xp,Xi,Nat.reduceAdd,Nat.reduceSub,Nat.reduceLT,Nat.reduceLeDiff,reduceIte,reduceCtorEq,Nat.reduceEqDiff,implies_true,forall_const,lawV,lawA,beq_self_eq_true,bne_self_eq_false,Int.reduceBEq,Int.reduceBNe,Int.reduceLT,Int.reduceLE,h1,Bool.false_and]
  cases h2 : decide (r ≤ 1114111)
  · simp only [lawG,↓Xn,↓Xo,↓Xg,↓Xd,↓Xe,↓Xf,Tryz.VΓ,Tryz.Γs,Xp,Xi,Nat.reduceAdd,Nat.reduceSub,Nat.reduceLT,Nat.reduceLeDiff,reduceIte,reduceCtorEq,Nat.reduceEqDiff,implies_true,forall_const,lawV,lawA,beq_self_eq_true,bne_self_eq_false,Int.reduceBEq,Int.reduceBNe,Int.reduceLT,Int.reduceLE,h1,h2,Bool.false_and,Bool.true_and]
  cases h3 : decide (r < 55296)
  · simp only [lawG,↓Xn,↓Xo,↓Xg,↓Xd,↓Xe,↓Xf,Tryz.VΓ,Tryz.Γs,Xp,Xi,Nat.reduceAdd,Nat.reduceSub,Nat.reduceLT,Nat.reduceLeDiff,reduceIte,reduceCtorEq,Nat.reduceEqDiff,implies_true,forall_const,lawV,lawA,beq_self_eq_true,bne_self_eq_false,Int.reduceBEq,Int.reduceBNe,Int.reduceLT,Int.reduceLE,h1,h2,h3,Bool.false_or,Bool.true_and]
  · simp only [lawG,↓Xn,↓Xo,↓Xg,↓Xd,↓Xe,↓Xf,Tryz.VΓ,Tryz.Γs,Xp,Xi,Nat.reduceAdd,Nat.reduceSub,Nat.reduceLT,Nat.reduceLeDiff,reduceIte,reduceCtorEq,Nat.reduceEqDiff,implies_true,forall_const,lawV,lawA,beq_self_eq_true,bne_self_eq_false,Int.reduceBEq,Int.reduceBNe,Int.reduceLT,Int.reduceLE,h1,h2,h3,Bool.true_or,Bool.true_and]
theorem isU8_wrap (x : Int) : isU8 (.int .u8 (IntKind.u8.wrap x)) = true := by
  have h : IntKind.u8.wrap x = x % 256 := rfl
  rw [h]
  simp only [isU8,Bool.and_eq_true,decide_eq_true_eq]
  omega
set_option maxHeartbeats 4000000 in
theorem px_r2_Encode (r : Int) : ∃ x,PC Tryz.V 118 [.int .i64 r] x ∧ ∃ s e,x = .tup [.str s,.int .i64 e] ∧ s.length ≤ 4 := by
  have p1 := p_r2_point r
  refine px_of 3000 Tryz.func118 rfl Tryz.ntmps118 Tryz.results118 Tryz.call118 (by simp) (by simp [flat,flat.flatL]) ?_
  simp only [lawG,↓Xn,↓Xo,↓Xg,↓Xd,↓Xe,↓Xf,Tryz.VΓ,Tryz.Γs,Xp,Xi,Nat.reduceAdd,Nat.reduceSub,Nat.reduceLT,Nat.reduceLeDiff,reduceIte,reduceCtorEq,Nat.reduceEqDiff,implies_true,forall_const,lawV,lawA,beq_self_eq_true,bne_self_eq_false,Int.reduceBEq,Int.reduceBNe,Int.reduceLT,Int.reduceLE]
  (refine callV_pc (p1) ?_; simp only [lawG,↓Xn,↓Xo,↓Xg,↓Xd,↓Xe,↓Xf,Tryz.VΓ,Tryz.Γs,Xp,Xi,Nat.reduceAdd,Nat.reduceSub,Nat.reduceLT,Nat.reduceLeDiff,reduceIte,reduceCtorEq,Nat.reduceEqDiff,implies_true,forall_const,lawV,lawA,beq_self_eq_true,bne_self_eq_false,Int.reduceBEq,Int.reduceBNe,Int.reduceLT,Int.reduceLE])
  cases hp : pointB r
  · simp only [lawG,↓Xn,↓Xo,↓Xg,↓Xd,↓Xe,↓Xf,Tryz.VΓ,Tryz.Γs,Xp,Xi,Nat.reduceAdd,Nat.reduceSub,Nat.reduceLT,Nat.reduceLeDiff,reduceIte,reduceCtorEq,Nat.reduceEqDiff,implies_true,forall_const,lawV,lawA,beq_self_eq_true,bne_self_eq_false,Int.reduceBEq,Int.reduceBNe,Int.reduceLT,Int.reduceLE,hp,Bool.not_false]
    exact ⟨rfl,_,_,rfl,by simp⟩
  · simp only [lawG,↓Xn,↓Xo,↓Xg,↓Xd,↓Xe,↓Xf,Tryz.VΓ,Tryz.Γs,Xp,Xi,Nat.reduceAdd,Nat.reduceSub,Nat.reduceLT,Nat.reduceLeDiff,reduceIte,reduceCtorEq,Nat.reduceEqDiff,implies_true,forall_const,lawV,lawA,beq_self_eq_true,bne_self_eq_false,Int.reduceBEq,Int.reduceBNe,Int.reduceLT,Int.reduceLE,hp,Bool.not_true,isU8_wrap,Bool.and_self]
    exact ⟨fun _ => ⟨by omega,rfl,_,_,rfl,by simp⟩,fun _ => ⟨fun _ => ⟨by omega,rfl,_,_,rfl,by simp⟩,fun _ => ⟨fun _ => ⟨by omega,rfl,_,_,rfl,by simp⟩,fun _ => ⟨by omega,rfl,_,_,rfl,by simp⟩⟩⟩⟩
set_option maxHeartbeats 4000000 in
theorem px_r2_value (s : Bytes) (h0 : 0 < s.length) (h4 : s.length ≤ 4) : ∃ x,PC Tryz.V 119 [.str s] x ∧ ∃ n,x = .int .i64 n := by
  refine px_of 3000 Tryz.func119 rfl Tryz.ntmps119 Tryz.results119 Tryz.call119 (by simp) (by simp [flat,flat.flatL]) ?_
  obtain ⟨c,hc⟩ : ∃ c,s[0]? = some c := ⟨s[0],List.getElem?_eq_getElem h0⟩
  by_cases h1 : s.length = 1
  · have e1 : ((s.length : Int) == 1) = true := by rw [h1]; rfl
    simp only [lawG,↓Xn,↓Xo,↓Xg,↓Xd,↓Xe,↓Xf,Tryz.VΓ,Tryz.Γs,Xp,Xi,Nat.reduceAdd,Nat.reduceSub,Nat.reduceLT,Nat.reduceLeDiff,reduceIte,reduceCtorEq,Nat.reduceEqDiff,implies_true,forall_const,lawV,lawA,beq_self_eq_true,bne_self_eq_false,Int.reduceBEq,Int.reduceBNe,Int.reduceLT,Int.reduceLE,e1,hc]
    exact ⟨by omega,rfl,_,rfl⟩
  · have e1 : ((s.length : Int) == 1) = false := by simp; omega
    simp only [lawG,↓Xn,↓Xo,↓Xg,↓Xd,↓Xe,↓Xf,Tryz.VΓ,Tryz.Γs,Xp,Xi,Nat.reduceAdd,Nat.reduceSub,Nat.reduceLT,Nat.reduceLeDiff,reduceIte,reduceCtorEq,Nat.reduceEqDiff,implies_true,forall_const,lawV,lawA,beq_self_eq_true,bne_self_eq_false,Int.reduceBEq,Int.reduceBNe,Int.reduceLT,Int.reduceLE,e1,hc]
    have hsh : shI .shl .i64 1 (7 - (s.length : Int)) = 32 ∨ shI .shl .i64 1 (7 - (s.length : Int)) = 16 ∨ shI .shl .i64 1 (7 - (s.length : Int)) = 8 := by
      have : s.length = 2 ∨ s.length = 3 ∨ s.length = 4 := by omega
      rcases this with h | h | h <;> rw [h]
      · exact .inl rfl
      · exact .inr (.inl rfl)
      · exact .inr (.inr rfl)
    refine ⟨by omega,by omega,by omega,by omega,(OkD_fast (by kernel_rfl)),?_⟩
    refine loopV_mk (fun σ => ∃ (k : Nat) (r : Int),k ≤ s.length ∧ lk 0 σ.t = some (.str s) ∧ lk 3 σ.t = some (.int .i64 r) ∧ lk 4 σ.t = some (.int .i64 k)) (fun σ => s.length - lkI 4 σ) ⟨1,_,by omega,rfl,rfl,rfl⟩ ?_
    rintro ⟨t,b⟩ ⟨k,r,hk,h0,h3,h4⟩
    simp only at h0 h3 h4
    rw [lkI_eq h4]
    by_cases hlt : k < s.length
    · have hlt2 : decide ((k : Int) < s.length) = true := decide_eq_true (by omega)
      simp only [lawG,↓Xn,↓Xo,↓Xg,↓Xd,↓Xe,↓Xf,Tryz.VΓ,Tryz.Γs,Xp,Xi,Nat.reduceAdd,Nat.reduceSub,Nat.reduceLT,Nat.reduceLeDiff,reduceIte,reduceCtorEq,Nat.reduceEqDiff,implies_true,forall_const,lawV,lawA,beq_self_eq_true,bne_self_eq_false,Int.reduceBEq,Int.reduceBNe,Int.reduceLT,Int.reduceLE,h0,h3,h4,hlt2]
      refine ⟨by omega,by omega,⟨k + 1,_,by omega,rfl,rfl⟩,?_⟩
      rw [lkI_eq (k := .i64) (n := (k : Int) + 1) rfl]; omega
    · have hlt2 : decide ((k : Int) < s.length) = false := decide_eq_false (by omega)
      simp only [lawG,↓Xn,↓Xo,↓Xg,↓Xd,↓Xe,↓Xf,Tryz.VΓ,Tryz.Γs,Xp,Xi,Nat.reduceAdd,Nat.reduceSub,Nat.reduceLT,Nat.reduceLeDiff,reduceIte,reduceCtorEq,Nat.reduceEqDiff,implies_true,forall_const,lawV,lawA,beq_self_eq_true,bne_self_eq_false,Int.reduceBEq,Int.reduceBNe,Int.reduceLT,Int.reduceLE,h0,h3,h4,hlt2]
      exact ⟨rfl,_,rfl⟩
set_option maxHeartbeats 4000000 in
theorem px_r2_Decode (s : Bytes) (hs : s.length ≤ 2000000) (at' : Nat) : ∃ x,PC Tryz.V 105 [.str s,.int .i64 at'] x ∧ ∃ r q e : Int,x = .tup [.int .i64 r,.int .i64 q,.int .i64 e] ∧ (e = 0 → (at' : Int) < q ∧ q ≤ s.length) := by
  refine px_of 3000 Tryz.func105 rfl Tryz.ntmps105 Tryz.results105 Tryz.call105 (by simp) (by simp [flat,flat.flatL]) ?_
  have e0 : decide ((at' : Int) < 0) = false := decide_eq_false (by omega)
  by_cases hl : at' < s.length
  · have e1 : decide ((s.length : Int) ≤ at') = false := decide_eq_false (by omega)
    simp only [lawG,↓Xn,↓Xo,↓Xg,↓Xd,↓Xe,↓Xf,Tryz.VΓ,Tryz.Γs,Xp,Xi,Nat.reduceAdd,Nat.reduceSub,Nat.reduceLT,Nat.reduceLeDiff,reduceIte,reduceCtorEq,Nat.reduceEqDiff,implies_true,forall_const,lawV,lawA,beq_self_eq_true,bne_self_eq_false,Int.reduceBEq,Int.reduceBNe,Int.reduceLT,Int.reduceLE,e0,e1]
    refine loopV_mk (fun σ => ∃ (n : Nat),1 ≤ n ∧ n ≤ 5 ∧ lk 0 σ.t = some (.str s) ∧ lk 1 σ.t = some (.int .i64 at') ∧ lk 7 σ.t = some (.int .i64 n)) (fun σ => 5 - lkI 7 σ) ⟨1,by omega,by omega,rfl,rfl,rfl⟩ ?_
    rintro ⟨t,b⟩ ⟨n,hn1,hn5,h0,h1,h7⟩
    simp only at h0 h1 h7
    rw [lkI_eq h7]
    by_cases hn4 : n ≤ 4
    · have c1 : decide ((n : Int) ≤ 4) = true := decide_eq_true (by omega)
      by_cases hfit : at' + n ≤ s.length
      · have c2 : decide ((at' : Int) + n ≤ s.length) = true := decide_eq_true (by omega)
        simp only [lawG,↓Xn,↓Xo,↓Xg,↓Xd,↓Xe,↓Xf,Tryz.VΓ,Tryz.Γs,Xp,Xi,Nat.reduceAdd,Nat.reduceSub,Nat.reduceLT,Nat.reduceLeDiff,reduceIte,reduceCtorEq,Nat.reduceEqDiff,implies_true,forall_const,lawV,lawA,beq_self_eq_true,bne_self_eq_false,Int.reduceBEq,Int.reduceBNe,Int.reduceLT,Int.reduceLE,h0,h1,h7,c1,c2]
        have hl : (s.take ((at' : Int) + n).toNat |>.drop at').length = n := by
          rw [List.length_drop,List.length_take]; omega
        obtain ⟨x,p1,r,rfl⟩ := px_r2_value ((s.take ((at' : Int) + n).toNat).drop at') (by omega) (by omega)
        refine ⟨by omega,by omega,by omega,?_⟩
        (refine callV_pc (p1) ?_; simp only [lawG,↓Xn,↓Xo,↓Xg,↓Xd,↓Xe,↓Xf,Tryz.VΓ,Tryz.Γs,Xp,Xi,Nat.reduceAdd,Nat.reduceSub,Nat.reduceLT,Nat.reduceLeDiff,reduceIte,reduceCtorEq,Nat.reduceEqDiff,implies_true,forall_const,lawV,lawA,beq_self_eq_true,bne_self_eq_false,Int.reduceBEq,Int.reduceBNe,Int.reduceLT,Int.reduceLE,h0,h1,h7])
        obtain ⟨x,p2,u,e,rfl,hu⟩ := px_r2_Encode r
        (refine callV_pc (p2) ?_; simp only [lawG,↓Xn,↓Xo,↓Xg,↓Xd,↓Xe,↓Xf,Tryz.VΓ,Tryz.Γs,Xp,Xi,Nat.reduceAdd,Nat.reduceSub,Nat.reduceLT,Nat.reduceLeDiff,reduceIte,reduceCtorEq,Nat.reduceEqDiff,implies_true,forall_const,lawV,lawA,beq_self_eq_true,bne_self_eq_false,Int.reduceBEq,Int.reduceBNe,Int.reduceLT,Int.reduceLE,h0,h1,h7])
        cases he : e == 0
        · simp only [lawG,↓Xn,↓Xo,↓Xg,↓Xd,↓Xe,↓Xf,Tryz.VΓ,Tryz.Γs,Xp,Xi,Nat.reduceAdd,Nat.reduceSub,Nat.reduceLT,Nat.reduceLeDiff,reduceIte,reduceCtorEq,Nat.reduceEqDiff,implies_true,forall_const,lawV,lawA,beq_self_eq_true,bne_self_eq_false,Int.reduceBEq,Int.reduceBNe,Int.reduceLT,Int.reduceLE,h0,h1,h7,he]
          refine ⟨by omega,⟨n + 1,by omega,by omega,rfl⟩,?_⟩
          rw [lkI_eq (k := .i64) (n := (n : Int) + 1) rfl]; omega
        · simp only [lawG,↓Xn,↓Xo,↓Xg,↓Xd,↓Xe,↓Xf,Tryz.VΓ,Tryz.Γs,Xp,Xi,Nat.reduceAdd,Nat.reduceSub,Nat.reduceLT,Nat.reduceLeDiff,reduceIte,reduceCtorEq,Nat.reduceEqDiff,implies_true,forall_const,lawV,lawA,beq_self_eq_true,bne_self_eq_false,Int.reduceBEq,Int.reduceBNe,Int.reduceLT,Int.reduceLE,h0,h1,h7,he]
          refine ⟨by omega,by omega,fun _ => ⟨by omega,rfl,_,_,_,rfl,fun _ => ⟨by omega,by omega⟩⟩,fun _ => ⟨by omega,⟨n + 1,by omega,by omega,rfl⟩,?_⟩⟩
          rw [lkI_eq (k := .i64) (n := (n : Int) + 1) rfl]; omega
      · have c2 : decide ((at' : Int) + n ≤ s.length) = false := decide_eq_false (by omega)
        simp only [lawG,↓Xn,↓Xo,↓Xg,↓Xd,↓Xe,↓Xf,Tryz.VΓ,Tryz.Γs,Xp,Xi,Nat.reduceAdd,Nat.reduceSub,Nat.reduceLT,Nat.reduceLeDiff,reduceIte,reduceCtorEq,Nat.reduceEqDiff,implies_true,forall_const,lawV,lawA,beq_self_eq_true,bne_self_eq_false,Int.reduceBEq,Int.reduceBNe,Int.reduceLT,Int.reduceLE,h0,h1,h7,c1,c2]
        exact ⟨by omega,rfl,_,_,_,rfl,fun h => by simp at h⟩
    · have c1 : decide ((n : Int) ≤ 4) = false := decide_eq_false (by omega)
      simp only [lawG,↓Xn,↓Xo,↓Xg,↓Xd,↓Xe,↓Xf,Tryz.VΓ,Tryz.Γs,Xp,Xi,Nat.reduceAdd,Nat.reduceSub,Nat.reduceLT,Nat.reduceLeDiff,reduceIte,reduceCtorEq,Nat.reduceEqDiff,implies_true,forall_const,lawV,lawA,beq_self_eq_true,bne_self_eq_false,Int.reduceBEq,Int.reduceBNe,Int.reduceLT,Int.reduceLE,h0,h1,h7,c1]
      exact ⟨rfl,_,_,_,rfl,fun h => by simp at h⟩
  · have e1 : decide ((s.length : Int) ≤ at') = true := decide_eq_true (by omega)
    simp only [lawG,↓Xn,↓Xo,↓Xg,↓Xd,↓Xe,↓Xf,Tryz.VΓ,Tryz.Γs,Xp,Xi,Nat.reduceAdd,Nat.reduceSub,Nat.reduceLT,Nat.reduceLeDiff,reduceIte,reduceCtorEq,Nat.reduceEqDiff,implies_true,forall_const,lawV,lawA,beq_self_eq_true,bne_self_eq_false,Int.reduceBEq,Int.reduceBNe,Int.reduceLT,Int.reduceLE,e0,e1]
    exact ⟨rfl,_,_,_,rfl,fun h => by simp at h⟩
end Go.Proofs.YtejfjmcjicpodaaGreatDoor
/- The walks of ref04: parse,Parse,Hex. -/
set_option linter.all false
set_option maxRecDepth 20000
namespace Go.Proofs.YtejfjmcjicpodaaGreatDoor
open Go Vc Go.RowKit Wf
set_option linter.unusedSimpArgs false
theorem gD {s : Bytes} {q : Nat} (h : q < s.length) : s.getD q 0 = s[q] := by simp [List.getD,h]
theorem all_take {p : UInt8 → Bool} {s : Bytes} {q : Nat} (h : q < s.length) (h1 : (s.take q).all p = true) (h2 : p s[q] = true) : (s.take (q + 1)).all p = true := by
  rw [List.take_succ_eq_append_getElem h,List.all_append,h1]
  simp [h2]
theorem w64 (n : Int) (h0 : 0 ≤ n) (h1 : n < 18446744073709551616) : IntKind.u64.wrap n = n := by
  simp only [IntKind.wrap,IntKind.bits,IntKind.signed]
  simp
  omega
theorem quo_n (x y : Nat) (hx : x ≤ 4611686018427387904) : divI .quo .u64 (x : Int) (y : Int) = ((x / y : Nat) : Int) := by
  show IntKind.u64.wrap ((x : Int).tdiv (y : Int)) = _
  have h1 : ((x : Int).tdiv (y : Int)) = ((x / y : Nat) : Int) := by simp [Int.tdiv]
  rw [h1]
  have := Nat.div_le_self x y
  generalize x / y = z at this
  exact w64 _ (by omega) (by omega)
theorem hex_dig {c : UInt8} (h : isHex c = true) (h2 : c.toNat ≤ 57) : IntKind.u64.wrap (IntKind.u8.wrap ((c.toNat : Int) - 48)) = hexVal c := by
  have := all256 (p := fun c => !isHex c || !decide (c.toNat ≤ 57) || decide (IntKind.u64.wrap (IntKind.u8.wrap ((c.toNat : Int) - 48)) = hexVal c)) (by decide +kernel) c
  simpa [h,h2] using this
theorem hex_let {c : UInt8} (h : isHex c = true) (h2 : ¬ c.toNat ≤ 57) : IntKind.u64.wrap (IntKind.u64.wrap (IntKind.u64.wrap (bitI .or .u8 (c.toNat : Int) 32) - 97) + 10) = hexVal c := by
  have := all256 (p := fun c => !isHex c || decide (c.toNat ≤ 57) || decide (IntKind.u64.wrap (IntKind.u64.wrap (IntKind.u64.wrap (bitI .or .u8 (c.toNat : Int) 32) - 97) + 10) = hexVal c)) (by decide +kernel) c
  simpa [h,h2] using this
theorem dig_hex {c : UInt8} (h : isDigit c = true) : isHex c = true ∧ c.toNat ≤ 57 := by
  simp [isDigit] at h
  simp [isHex,h]
theorem num_fits {b m n d : Nat} (hb : 0 < b) (hd : d ≤ m) : m < n * b + d ↔ (m / b < n ∨ m - d < n * b) := by
  constructor
  · intro h; right; omega
  · rintro (h | h)
    · have h1 : m < (m / b + 1) * b := by
        have := Nat.lt_mul_div_succ m hb
        rw [Nat.mul_comm] at this; exact this
      have h2 : (m / b + 1) * b ≤ n * b := Nat.mul_le_mul_right _ h
      omega
    · omega
set_option maxHeartbeats 8000000 in
theorem p_r4_parse16 (s : Bytes) (m : Nat) (hs : s.length ≤ 9223372036854775807) (hm : m ≤ 4611686018427387904) (hm2 : 15 ≤ m) : PC Tryz.V 142 [.str s,.int .u64 16,.int .u64 m] (.tup [.int .u64 (numParse isHex 16 m s).1,.int .i64 (numParse isHex 16 m s).2]) := by
  refine pc_of 3000 Tryz.func142 rfl Tryz.ntmps142 Tryz.results142 Tryz.call142 (by simp) (by simp [flat,flat.flatL]) (by simp [flat,flat.flatL]) ?_
  by_cases hs0 : s = []
  · subst hs0
    simp only [lawG,↓Xn,↓Xo,↓Xg,↓Xd,↓Xe,↓Xf,Tryz.VΓ,Tryz.Γs,Xp,Xi,Nat.reduceAdd,Nat.reduceSub,Nat.reduceLT,Nat.reduceLeDiff,reduceIte,reduceCtorEq,Nat.reduceEqDiff,implies_true,forall_const,lawV,beq_self_eq_true,bne_self_eq_false,Int.reduceBEq,Int.reduceBNe,Int.reduceLT,Int.reduceLE]
    rfl
  have hb : (s == ([] : Bytes)) = false := beq_eq_false_iff_ne.2 hs0
  have hne : s.isEmpty = false := by cases s; exact absurd rfl hs0; rfl
  simp only [lawG,↓Xn,↓Xo,↓Xg,↓Xd,↓Xe,↓Xf,Tryz.VΓ,Tryz.Γs,Xp,Xi,Nat.reduceAdd,Nat.reduceSub,Nat.reduceLT,Nat.reduceLeDiff,reduceIte,reduceCtorEq,Nat.reduceEqDiff,implies_true,forall_const,lawV,hb,beq_self_eq_true,bne_self_eq_false,Int.reduceBEq,Int.reduceBNe,Int.reduceLT,Int.reduceLE]
  refine loopV_mk (fun σ => ∃ q : Nat,q ≤ s.length ∧ lk 0 σ.t = some (.str s) ∧ lk 1 σ.t = some (.int .u64 16) ∧ lk 2 σ.t = some (.int .u64 m) ∧ lk 8 σ.t = some (.int .i64 q) ∧ (s.take q).all isHex = true) (fun σ => s.length - lkI 8 σ) ⟨0,by omega,rfl,rfl,rfl,rfl,by simp⟩ ?_
  rintro ⟨t,b⟩ ⟨q,hq,h0,h1,h2,h8,hok⟩
  simp only at h0 h1 h2 h8
  rw [lkI_eq h8]
  by_cases hlt : q < s.length
  · have hlt2 : decide ((q : Int) < s.length) = true := decide_eq_true (by omega)
    have hg := gD hlt
    have ht := fun h => all_take (p := isHex) hlt hok h
    have hn := fun h => all_not (p := isHex) hlt h
    generalize s[q] = c at hg ht hn
    have p1 := p_r1_IsHex c
    simp only [lawG,↓Xn,↓Xo,↓Xg,↓Xd,↓Xe,↓Xf,Tryz.VΓ,Tryz.Γs,Xp,Xi,Nat.reduceAdd,Nat.reduceSub,Nat.reduceLT,Nat.reduceLeDiff,reduceIte,reduceCtorEq,Nat.reduceEqDiff,implies_true,forall_const,lawV,h0,h1,h2,h8,hlt2,hg,Int.toNat_natCast,beq_self_eq_true,bne_self_eq_false,Int.reduceBEq,Int.reduceBNe,Int.reduceLT,Int.reduceLE]
    refine ⟨⟨by omega,by omega⟩,?_⟩
    cases hc : isHex c
    · rw [hc] at p1
      (refine callV_pc (p1) ?_; simp only [lawG,↓Xn,↓Xo,↓Xg,↓Xd,↓Xe,↓Xf,Tryz.VΓ,Tryz.Γs,Xp,Xi,Nat.reduceAdd,Nat.reduceSub,Nat.reduceLT,Nat.reduceLeDiff,reduceIte,reduceCtorEq,Nat.reduceEqDiff,implies_true,forall_const,lawV,h0,h1,h2,h8,hlt2,hg,beq_self_eq_true,bne_self_eq_false,Int.reduceBEq,Int.reduceBNe,Int.reduceLT,Int.reduceLE])
      unfold numParse; rw [hne,hn hc]; rfl
    · rw [hc] at p1
      (refine callV_pc (p1) ?_; simp only [lawG,↓Xn,↓Xo,↓Xg,↓Xd,↓Xe,↓Xf,Tryz.VΓ,Tryz.Γs,Xp,Xi,Nat.reduceAdd,Nat.reduceSub,Nat.reduceLT,Nat.reduceLeDiff,reduceIte,reduceCtorEq,Nat.reduceEqDiff,implies_true,forall_const,lawV,h0,h1,h2,h8,hlt2,hg,beq_self_eq_true,bne_self_eq_false,Int.reduceBEq,Int.reduceBNe,Int.reduceLT,Int.reduceLE])
      refine ⟨⟨by omega,by omega⟩,⟨q + 1,by omega,rfl,ht hc⟩,?_⟩
      rw [lkI_eq (k := .i64) (n := (q : Int) + 1) rfl]; omega
  · have hie : q = s.length := by omega
    subst hie
    have hlt2 : decide ((s.length : Int) < s.length) = false := by simp
    rw [List.take_length] at hok
    simp only [lawG,↓Xn,↓Xo,↓Xg,↓Xd,↓Xe,↓Xf,Tryz.VΓ,Tryz.Γs,Xp,Xi,Nat.reduceAdd,Nat.reduceSub,Nat.reduceLT,Nat.reduceLeDiff,reduceIte,reduceCtorEq,Nat.reduceEqDiff,implies_true,forall_const,lawV,h0,h1,h2,h8,hlt2]
    refine loopV_mk (fun σ => ∃ q n : Nat,q ≤ s.length ∧ n ≤ m ∧ lk 0 σ.t = some (.str s) ∧ lk 1 σ.t = some (.int .u64 16) ∧ lk 2 σ.t = some (.int .u64 m) ∧ lk 9 σ.t = some (.int .u64 n) ∧ lk 10 σ.t = some (.int .i64 q) ∧ numGo 16 m n (s.drop q) = numGo 16 m 0 s) (fun σ => s.length - lkI 10 σ) ⟨0,0,by omega,by omega,h0,h1,h2,rfl,rfl,rfl⟩ ?_
    clear h0 h1 h2 h8
    clear t b
    rintro ⟨t,b⟩ ⟨q,n,hq,hnm,h0,h1,h2,h9,h10,hgo⟩
    simp only at h0 h1 h2 h9 h10
    rw [lkI_eq h10]
    by_cases hlt : q < s.length
    · have hlt2 : decide ((q : Int) < s.length) = true := decide_eq_true (by omega)
      have hg := gD hlt
      have hcl := all_get hok hlt
      have herr := fun h => numParse_err (cls := isHex) hne hok hgo hlt h
      have hnext := fun h => numParse_next hgo hlt h
      generalize s[q] = c at hg hcl herr hnext
      have hx : isHex c = true := by first | exact hcl | exact (dig_hex hcl).1
      have hv := hexVal_le hx
      have qn : divI .quo .u64 (m : Int) 16 = ((m / 16 : Nat) : Int) := quo_n m 16 hm
      have wn : IntKind.u64.wrap ((m : Int) - hexVal c) = (m : Int) - hexVal c := w64 _ (by omega) (by omega)
      have dm : decide ((m : Int) < hexVal c) = false := decide_eq_false (by omega)
      have fits := num_fits (b := 16) (m := m) (n := n) (d := hexVal c) (by omega) (by omega)
      have fin : ¬ m < n * 16 + hexVal c → ∃ q' n' : Nat,q' ≤ s.length ∧ n' ≤ m ∧ IntKind.u64.wrap (IntKind.u64.wrap ((n : Int) * 16) + hexVal c) = n' ∧ (q : Int) + 1 = q' ∧ numGo 16 m n' (s.drop q') = numGo 16 m 0 s := fun h => ⟨q + 1,n * 16 + hexVal c,by omega,by omega,by rw [w64 ((n : Int) * 16) (by omega) (by omega),w64 _ (by omega) (by omega)]; push_cast; rfl,rfl,hnext h⟩
      have hz : ∀ c' : UInt8,c' = c → True := fun _ _ => trivial
      by_cases h57 : c.toNat ≤ 57
      · have d57 : decide ((57 : Int) < c.toNat) = false := decide_eq_false (by omega)
        have hd := hex_dig hx h57
        simp only [lawG,↓Xn,↓Xo,↓Xg,↓Xd,↓Xe,↓Xf,Tryz.VΓ,Tryz.Γs,Xp,Xi,Nat.reduceAdd,Nat.reduceSub,Nat.reduceLT,Nat.reduceLeDiff,reduceIte,reduceCtorEq,Nat.reduceEqDiff,implies_true,forall_const,lawV,h0,h1,h2,h9,h10,hlt2,hg,hd,d57,qn,wn,dm,Int.toNat_natCast,beq_self_eq_true,bne_self_eq_false,Int.reduceBEq,Int.reduceBNe,Int.reduceLT,Int.reduceLE]
        repeat refine ⟨⟨by omega,by omega⟩,?_⟩
        refine ⟨by omega,fun k1 => ?_,fun k1 => ?_⟩
        · have k1 := of_decide_eq_false k1
          have wf : IntKind.u64.wrap ((n : Int) * 16) = (n : Int) * 16 := w64 _ (by omega) (by omega)
          rw [wf]
          refine ⟨fun k2 => ?_,fun k2 => ?_⟩
          · have k2 := of_decide_eq_false k2
            obtain ⟨q',n',f1,f2,f3,f4,f5⟩ := fin (by rw [fits]; omega)
            rw [wf] at f3
            refine ⟨⟨by omega,by omega⟩,⟨q',n',f1,f2,by rw [f3],by rw [f4],f5⟩,?_⟩
            rw [lkI_eq (k := .i64) (n := (q : Int) + 1) rfl]; omega
          · have k2 := of_decide_eq_true k2
            rw [← herr (fits.2 (by omega))]; rfl
        · have k1 := of_decide_eq_true k1
          rw [← herr (fits.2 (by omega))]; rfl
      · have d57 : decide ((57 : Int) < c.toNat) = true := decide_eq_true (by omega)
        have hd := hex_let hx h57
        simp only [lawG,↓Xn,↓Xo,↓Xg,↓Xd,↓Xe,↓Xf,Tryz.VΓ,Tryz.Γs,Xp,Xi,Nat.reduceAdd,Nat.reduceSub,Nat.reduceLT,Nat.reduceLeDiff,reduceIte,reduceCtorEq,Nat.reduceEqDiff,implies_true,forall_const,lawV,h0,h1,h2,h9,h10,hlt2,hg,hd,d57,qn,wn,dm,Int.toNat_natCast,beq_self_eq_true,bne_self_eq_false,Int.reduceBEq,Int.reduceBNe,Int.reduceLT,Int.reduceLE]
        repeat refine ⟨⟨by omega,by omega⟩,?_⟩
        refine ⟨by omega,fun k1 => ?_,fun k1 => ?_⟩
        · have k1 := of_decide_eq_false k1
          have wf : IntKind.u64.wrap ((n : Int) * 16) = (n : Int) * 16 := w64 _ (by omega) (by omega)
          rw [wf]
          refine ⟨fun k2 => ?_,fun k2 => ?_⟩
          · have k2 := of_decide_eq_false k2
            obtain ⟨q',n',f1,f2,f3,f4,f5⟩ := fin (by rw [fits]; omega)
            rw [wf] at f3
            refine ⟨⟨by omega,by omega⟩,⟨q',n',f1,f2,by rw [f3],by rw [f4],f5⟩,?_⟩
            rw [lkI_eq (k := .i64) (n := (q : Int) + 1) rfl]; omega
          · have k2 := of_decide_eq_true k2
            rw [← herr (fits.2 (by omega))]; rfl
        · have k1 := of_decide_eq_true k1
          rw [← herr (fits.2 (by omega))]; rfl
    · have hlt2 : decide ((q : Int) < s.length) = false := decide_eq_false (by omega)
      have hfin := numParse_done (cls := isHex) hne hok hgo hlt
      simp only [lawG,↓Xn,↓Xo,↓Xg,↓Xd,↓Xe,↓Xf,Tryz.VΓ,Tryz.Γs,Xp,Xi,Nat.reduceAdd,Nat.reduceSub,Nat.reduceLT,Nat.reduceLeDiff,reduceIte,reduceCtorEq,Nat.reduceEqDiff,implies_true,forall_const,lawV,h0,h1,h2,h9,h10,hlt2]
      rw [← hfin]
theorem p_r4_Hex (s : Bytes) (m : Nat) (hs : s.length ≤ 9223372036854775807) (hm : m ≤ 4611686018427387904) (hm2 : 15 ≤ m) : PC Tryz.V 133 [.str s,.int .u64 m] (.tup [.int .u64 (numParse isHex 16 m s).1,.int .i64 (numParse isHex 16 m s).2]) := by
  refine pc_of 3000 Tryz.func133 rfl Tryz.ntmps133 Tryz.results133 Tryz.call133 (by simp) (by simp [flat,flat.flatL]) (by simp [flat,flat.flatL]) ?_
  simp only [lawG,↓Xn,↓Xo,↓Xg,↓Xd,↓Xe,↓Xf,Tryz.VΓ,Tryz.Γs,Xp,Xi,Nat.reduceAdd,Nat.reduceSub,Nat.reduceLT,Nat.reduceLeDiff,reduceIte,reduceCtorEq,Nat.reduceEqDiff,implies_true,forall_const,lawV,beq_self_eq_true,bne_self_eq_false,Int.reduceBEq,Int.reduceBNe,Int.reduceLT,Int.reduceLE]
  (refine callV_pc (p_r4_parse16 s m hs hm hm2) ?_; simp only [lawG,↓Xn,↓Xo,↓Xg,↓Xd,↓Xe,↓Xf,Tryz.VΓ,Tryz.Γs,Xp,Xi,Nat.reduceAdd,Nat.reduceSub,Nat.reduceLT,Nat.reduceLeDiff,reduceIte,reduceCtorEq,Nat.reduceEqDiff,implies_true,forall_const,lawV,beq_self_eq_true,bne_self_eq_false,Int.reduceBEq,Int.reduceBNe,Int.reduceLT,Int.reduceLE])
end Go.Proofs.YtejfjmcjicpodaaGreatDoor
/- ref13: some exact results: white,tail,run,numeral,exponent,unit. -/
set_option linter.all false
set_option maxRecDepth 20000
namespace Go.Proofs.YtejfjmcjicpodaaGreatDoor
open Go Vc Go.RowKit Wf
set_option linter.unusedSimpArgs false
theorem p_r13_white (c : UInt8) : PC Tryz.V 85 [.int .u8 c.toNat] (.bool (([32,9,10,13] : Bytes).contains c)) := by
  have p1 := p_r1_In c [32,9,10,13] (by simp)
  refine pc_of 3000 Tryz.func85 rfl Tryz.ntmps85 Tryz.results85 Tryz.call85 (by simp) (by simp [flat,flat.flatL]) (by simp [flat,flat.flatL]) ?_
  simp only [lawG,↓Xn,↓Xo,↓Xg,↓Xd,↓Xe,↓Xf,Tryz.VΓ,Tryz.Γs,Xp,Xi,Nat.reduceAdd,Nat.reduceSub,Nat.reduceLT,Nat.reduceLeDiff,reduceIte,reduceCtorEq,Nat.reduceEqDiff,implies_true,forall_const,lawV]
  (refine callV_pc (p1) ?_; simp only [lawG,↓Xn,↓Xo,↓Xg,↓Xd,↓Xe,↓Xf,Tryz.VΓ,Tryz.Γs,Xp,Xi,Nat.reduceAdd,Nat.reduceSub,Nat.reduceLT,Nat.reduceLeDiff,reduceIte,reduceCtorEq,Nat.reduceEqDiff,implies_true,forall_const,lawV,lawA,beq_self_eq_true,bne_self_eq_false,Int.reduceBEq,Int.reduceBNe,Int.reduceLT,Int.reduceLE])
theorem p_r13_tail (s : Bytes) (hs : s.length ≤ 2000000) (a : Nat) : PC Tryz.V 83 [.str s,.int .i64 a] (.str (s.drop a)) := by
  refine pc_of 3000 Tryz.func83 rfl Tryz.ntmps83 Tryz.results83 Tryz.call83 (by simp) (by simp [flat,flat.flatL]) (by simp [flat,flat.flatL]) ?_
  by_cases h : s.length ≤ a
  · have h1 : decide ((s.length : Int) ≤ a) = true := decide_eq_true (by omega)
    have h2 : s.drop a = [] := List.drop_eq_nil_of_le h
    simp only [lawG,↓Xn,↓Xo,↓Xg,↓Xd,↓Xe,↓Xf,Tryz.VΓ,Tryz.Γs,Xp,Xi,Nat.reduceAdd,Nat.reduceSub,Nat.reduceLT,Nat.reduceLeDiff,reduceIte,reduceCtorEq,Nat.reduceEqDiff,implies_true,forall_const,lawV,lawA,beq_self_eq_true,bne_self_eq_false,Int.reduceBEq,Int.reduceBNe,Int.reduceLT,Int.reduceLE,h1]
    rw [h2]
  · have h1 : decide ((s.length : Int) ≤ a) = false := decide_eq_false (by omega)
    simp only [lawG,↓Xn,↓Xo,↓Xg,↓Xd,↓Xe,↓Xf,Tryz.VΓ,Tryz.Γs,Xp,Xi,Nat.reduceAdd,Nat.reduceSub,Nat.reduceLT,Nat.reduceLeDiff,reduceIte,reduceCtorEq,Nat.reduceEqDiff,implies_true,forall_const,lawV,lawA,beq_self_eq_true,bne_self_eq_false,Int.reduceBEq,Int.reduceBNe,Int.reduceLT,Int.reduceLE,h1]
    exact ⟨by omega,by omega⟩
theorem px_r13_run (s : Bytes) (hs : s.length ≤ 2000000) : ∃ x,PC Tryz.V 103 [.str s] x ∧ ∃ n : Nat,x = .int .i64 n ∧ n ≤ s.length := by
  refine px_of 3000 Tryz.func103 rfl Tryz.ntmps103 Tryz.results103 Tryz.call103 (by simp) (by simp [flat,flat.flatL]) ?_
  simp only [lawG,↓Xn,↓Xo,↓Xg,↓Xd,↓Xe,↓Xf,Tryz.VΓ,Tryz.Γs,Xp,Xi,Nat.reduceAdd,Nat.reduceSub,Nat.reduceLT,Nat.reduceLeDiff,reduceIte,reduceCtorEq,Nat.reduceEqDiff,implies_true,forall_const,lawV,lawA,beq_self_eq_true,bne_self_eq_false,Int.reduceBEq,Int.reduceBNe,Int.reduceLT,Int.reduceLE]
  refine loopV_mk (fun σ => ∃ k : Nat,k ≤ s.length ∧ lk 0 σ.t = some (.str s) ∧ lk 3 σ.t = some (.int .i64 k)) (fun σ => s.length - lkI 3 σ) ⟨0,by omega,rfl,rfl⟩ ?_
  rintro ⟨t,b⟩ ⟨k,hk,h0,h3⟩
  simp only at h0 h3
  rw [lkI_eq h3]
  by_cases hlt : k < s.length
  · have hlt2 : decide ((k : Int) < s.length) = true := decide_eq_true (by omega)
    have p1 := p_r1_IsDigit (s.getD k 0)
    simp only [lawG,↓Xn,↓Xo,↓Xg,↓Xd,↓Xe,↓Xf,Tryz.VΓ,Tryz.Γs,Xp,Xi,Nat.reduceAdd,Nat.reduceSub,Nat.reduceLT,Nat.reduceLeDiff,reduceIte,reduceCtorEq,Nat.reduceEqDiff,implies_true,forall_const,lawV,lawA,beq_self_eq_true,bne_self_eq_false,Int.reduceBEq,Int.reduceBNe,Int.reduceLT,Int.reduceLE,h0,h3,hlt2]
    refine ⟨by omega,?_⟩
    (refine callV_pc (p1) ?_; simp only [lawG,↓Xn,↓Xo,↓Xg,↓Xd,↓Xe,↓Xf,Tryz.VΓ,Tryz.Γs,Xp,Xi,Nat.reduceAdd,Nat.reduceSub,Nat.reduceLT,Nat.reduceLeDiff,reduceIte,reduceCtorEq,Nat.reduceEqDiff,implies_true,forall_const,lawV,lawA,beq_self_eq_true,bne_self_eq_false,Int.reduceBEq,Int.reduceBNe,Int.reduceLT,Int.reduceLE,h0,h3])
    cases hd : isDigit (s.getD k 0)
    · simp only [lawG,↓Xn,↓Xo,↓Xg,↓Xd,↓Xe,↓Xf,Tryz.VΓ,Tryz.Γs,Xp,Xi,Nat.reduceAdd,Nat.reduceSub,Nat.reduceLT,Nat.reduceLeDiff,reduceIte,reduceCtorEq,Nat.reduceEqDiff,implies_true,forall_const,lawV,lawA,beq_self_eq_true,bne_self_eq_false,Int.reduceBEq,Int.reduceBNe,Int.reduceLT,Int.reduceLE,h0,h3,hd]
      exact ⟨rfl,k,rfl,hk⟩
    · simp only [lawG,↓Xn,↓Xo,↓Xg,↓Xd,↓Xe,↓Xf,Tryz.VΓ,Tryz.Γs,Xp,Xi,Nat.reduceAdd,Nat.reduceSub,Nat.reduceLT,Nat.reduceLeDiff,reduceIte,reduceCtorEq,Nat.reduceEqDiff,implies_true,forall_const,lawV,lawA,beq_self_eq_true,bne_self_eq_false,Int.reduceBEq,Int.reduceBNe,Int.reduceLT,Int.reduceLE,h0,h3,hd]
      refine ⟨by omega,⟨k + 1,by omega,rfl⟩,?_⟩
      rw [lkI_eq (k := .i64) (n := (k : Int) + 1) rfl]; omega
  · have hlt2 : decide ((k : Int) < s.length) = false := decide_eq_false (by omega)
    simp only [lawG,↓Xn,↓Xo,↓Xg,↓Xd,↓Xe,↓Xf,Tryz.VΓ,Tryz.Γs,Xp,Xi,Nat.reduceAdd,Nat.reduceSub,Nat.reduceLT,Nat.reduceLeDiff,reduceIte,reduceCtorEq,Nat.reduceEqDiff,implies_true,forall_const,lawV,lawA,beq_self_eq_true,bne_self_eq_false,Int.reduceBEq,Int.reduceBNe,Int.reduceLT,Int.reduceLE,h0,h3,hlt2]
    exact ⟨rfl,k,rfl,hk⟩
theorem w_dig (x : Int) : 0 ≤ IntKind.i64.wrap (IntKind.u8.wrap x) ∧ IntKind.i64.wrap (IntKind.u8.wrap x) < 256 := by
  have e : IntKind.u8.wrap x = x % 256 := rfl
  rw [e]
  simp only [IntKind.wrap,IntKind.bits,IntKind.signed]
  simp
  omega
set_option maxHeartbeats 4000000 in
theorem px_r13_exponent (s : Bytes) (hs : s.length ≤ 2000000) : ∃ x,PC Tryz.V 82 [.str s] x ∧ ∃ n : Int,x = .int .i64 n ∧ -1073741824 ≤ n ∧ n ≤ 1073741824 := by
  refine px_of 3000 Tryz.func82 rfl Tryz.ntmps82 Tryz.results82 Tryz.call82 (by simp) (by simp [flat,flat.flatL]) ?_
  simp only [lawG,↓Xn,↓Xo,↓Xg,↓Xd,↓Xe,↓Xf,Tryz.VΓ,Tryz.Γs,Xp,Xi,Nat.reduceAdd,Nat.reduceSub,Nat.reduceLT,Nat.reduceLeDiff,reduceIte,reduceCtorEq,Nat.reduceEqDiff,implies_true,forall_const,lawV,lawA,beq_self_eq_true,bne_self_eq_false,Int.reduceBEq,Int.reduceBNe,Int.reduceLT,Int.reduceLE]
  refine ⟨fun h => ?_,fun h => ?_⟩
  · have hl : 0 < s.length := by
      cases s with
      | nil => simp at h
      | cons a l => simp
    refine ⟨by omega,fun _ => ⟨by omega,?_⟩,fun h2 => (by rw [h] at h2; cases h2)⟩
    have p1 := p_r1_In (s.getD 0 0) [43,45] (by simp)
    refine callV_pc p1 ?_
    cases hc : ([43,45] : Bytes).contains (s.getD 0 0)
    · simp only [lawG,↓Xn,↓Xo,↓Xg,↓Xd,↓Xe,↓Xf,Tryz.VΓ,Tryz.Γs,Xp,Xi,Nat.reduceAdd,Nat.reduceSub,Nat.reduceLT,Nat.reduceLeDiff,reduceIte,reduceCtorEq,Nat.reduceEqDiff,implies_true,forall_const,lawV,lawA,beq_self_eq_true,bne_self_eq_false,Int.reduceBEq,Int.reduceBNe,Int.reduceLT,Int.reduceLE]
      (refine loopV_mk (fun σ => ∃ (k : Nat) (n : Int),k ≤ (s).length ∧ 0 ≤ n ∧ n ≤ 1073741824 ∧ lk 0 σ.t = some (.str (s)) ∧ lk 3 σ.t = some (.bool (((s.getD 0 0).toNat : Int) == 45)) ∧ lk 4 σ.t = some (.int .i64 n) ∧ lk 5 σ.t = some (.int .i64 k)) (fun σ => (s).length - lkI 5 σ) ⟨0,0,by omega,by omega,by omega,rfl,rfl,rfl,rfl⟩ ?_
       rintro ⟨t,b⟩ ⟨k,n,hk,hn0,hn1,h0,h3,h4,h5⟩
       simp only at h0 h3 h4 h5
       rw [lkI_eq h5]
       by_cases hlt : k < (s).length
       · have hlt2 : decide ((k : Int) < (s).length) = true := decide_eq_true (by omega)
         have hu := w_dig (((s).getD k 0).toNat - 48 : Int)
         simp only [lawG,↓Xn,↓Xo,↓Xg,↓Xd,↓Xe,↓Xf,Tryz.VΓ,Tryz.Γs,Xp,Xi,Nat.reduceAdd,Nat.reduceSub,Nat.reduceLT,Nat.reduceLeDiff,reduceIte,reduceCtorEq,Nat.reduceEqDiff,implies_true,forall_const,lawV,lawA,beq_self_eq_true,bne_self_eq_false,Int.reduceBEq,Int.reduceBNe,Int.reduceLT,Int.reduceLE,h0,h3,h4,h5,hlt2]
         generalize IntKind.i64.wrap (IntKind.u8.wrap (((s).getD k 0).toNat - 48 : Int)) = d at *
         refine ⟨by omega,by omega,by omega,by omega,⟨k + 1,if 1073741824 < n * 10 + d then 1073741824 else n * 10 + d,by omega,by split <;> omega,by split <;> omega,rfl,rfl⟩,?_⟩
         rw [lkI_eq (k := .i64) (n := (k : Int) + 1) rfl]; omega
       · have hlt2 : decide ((k : Int) < (s).length) = false := decide_eq_false (by omega)
         cases hb : (((s.getD 0 0).toNat : Int) == 45) <;> rw [hb] at h3
         · simp only [lawG,↓Xn,↓Xo,↓Xg,↓Xd,↓Xe,↓Xf,Tryz.VΓ,Tryz.Γs,Xp,Xi,Nat.reduceAdd,Nat.reduceSub,Nat.reduceLT,Nat.reduceLeDiff,reduceIte,reduceCtorEq,Nat.reduceEqDiff,implies_true,forall_const,lawV,lawA,beq_self_eq_true,bne_self_eq_false,Int.reduceBEq,Int.reduceBNe,Int.reduceLT,Int.reduceLE,h0,h3,h4,h5,hlt2]
           exact ⟨rfl,_,rfl,by omega,by omega⟩
         · first
           | exact absurd hb (by decide)
           | (simp only [lawG,↓Xn,↓Xo,↓Xg,↓Xd,↓Xe,↓Xf,Tryz.VΓ,Tryz.Γs,Xp,Xi,Nat.reduceAdd,Nat.reduceSub,Nat.reduceLT,Nat.reduceLeDiff,reduceIte,reduceCtorEq,Nat.reduceEqDiff,implies_true,forall_const,lawV,lawA,beq_self_eq_true,bne_self_eq_false,Int.reduceBEq,Int.reduceBNe,Int.reduceLT,Int.reduceLE,h0,h3,h4,h5,hlt2]; exact ⟨by omega,rfl,_,rfl,by omega,by omega⟩))
    · simp only [lawG,↓Xn,↓Xo,↓Xg,↓Xd,↓Xe,↓Xf,Tryz.VΓ,Tryz.Γs,Xp,Xi,Nat.reduceAdd,Nat.reduceSub,Nat.reduceLT,Nat.reduceLeDiff,reduceIte,reduceCtorEq,Nat.reduceEqDiff,implies_true,forall_const,lawV,lawA,beq_self_eq_true,bne_self_eq_false,Int.reduceBEq,Int.reduceBNe,Int.reduceLT,Int.reduceLE]
      have hl1 : (s.drop 1).length ≤ 2000000 := by rw [List.length_drop]; omega
      refine ⟨by omega,?_⟩
      (refine loopV_mk (fun σ => ∃ (k : Nat) (n : Int),k ≤ (s.drop 1).length ∧ 0 ≤ n ∧ n ≤ 1073741824 ∧ lk 0 σ.t = some (.str (s.drop 1)) ∧ lk 3 σ.t = some (.bool (((s.getD 0 0).toNat : Int) == 45)) ∧ lk 4 σ.t = some (.int .i64 n) ∧ lk 5 σ.t = some (.int .i64 k)) (fun σ => (s.drop 1).length - lkI 5 σ) ⟨0,0,by omega,by omega,by omega,rfl,rfl,rfl,rfl⟩ ?_
       rintro ⟨t,b⟩ ⟨k,n,hk,hn0,hn1,h0,h3,h4,h5⟩
       simp only at h0 h3 h4 h5
       rw [lkI_eq h5]
       by_cases hlt : k < (s.drop 1).length
       · have hlt2 : decide ((k : Int) < (s.drop 1).length) = true := decide_eq_true (by omega)
         have hu := w_dig (((s.drop 1).getD k 0).toNat - 48 : Int)
         simp only [lawG,↓Xn,↓Xo,↓Xg,↓Xd,↓Xe,↓Xf,Tryz.VΓ,Tryz.Γs,Xp,Xi,Nat.reduceAdd,Nat.reduceSub,Nat.reduceLT,Nat.reduceLeDiff,reduceIte,reduceCtorEq,Nat.reduceEqDiff,implies_true,forall_const,lawV,lawA,beq_self_eq_true,bne_self_eq_false,Int.reduceBEq,Int.reduceBNe,Int.reduceLT,Int.reduceLE,h0,h3,h4,h5,hlt2]
         generalize IntKind.i64.wrap (IntKind.u8.wrap (((s.drop 1).getD k 0).toNat - 48 : Int)) = d at *
         refine ⟨by omega,by omega,by omega,by omega,⟨k + 1,if 1073741824 < n * 10 + d then 1073741824 else n * 10 + d,by omega,by split <;> omega,by split <;> omega,rfl,rfl⟩,?_⟩
         rw [lkI_eq (k := .i64) (n := (k : Int) + 1) rfl]; omega
       · have hlt2 : decide ((k : Int) < (s.drop 1).length) = false := decide_eq_false (by omega)
         cases hb : (((s.getD 0 0).toNat : Int) == 45) <;> rw [hb] at h3
         · simp only [lawG,↓Xn,↓Xo,↓Xg,↓Xd,↓Xe,↓Xf,Tryz.VΓ,Tryz.Γs,Xp,Xi,Nat.reduceAdd,Nat.reduceSub,Nat.reduceLT,Nat.reduceLeDiff,reduceIte,reduceCtorEq,Nat.reduceEqDiff,implies_true,forall_const,lawV,lawA,beq_self_eq_true,bne_self_eq_false,Int.reduceBEq,Int.reduceBNe,Int.reduceLT,Int.reduceLE,h0,h3,h4,h5,hlt2]
           exact ⟨rfl,_,rfl,by omega,by omega⟩
         · first
           | exact absurd hb (by decide)
           | (simp only [lawG,↓Xn,↓Xo,↓Xg,↓Xd,↓Xe,↓Xf,Tryz.VΓ,Tryz.Γs,Xp,Xi,Nat.reduceAdd,Nat.reduceSub,Nat.reduceLT,Nat.reduceLeDiff,reduceIte,reduceCtorEq,Nat.reduceEqDiff,implies_true,forall_const,lawV,lawA,beq_self_eq_true,bne_self_eq_false,Int.reduceBEq,Int.reduceBNe,Int.reduceLT,Int.reduceLE,h0,h3,h4,h5,hlt2]; exact ⟨by omega,rfl,_,rfl,by omega,by omega⟩))
  · refine ⟨fun h2 => (by rw [h] at h2; cases h2),fun _ => ?_⟩
    (refine loopV_mk (fun σ => ∃ (k : Nat) (n : Int),k ≤ (s).length ∧ 0 ≤ n ∧ n ≤ 1073741824 ∧ lk 0 σ.t = some (.str (s)) ∧ lk 3 σ.t = some (.bool (false)) ∧ lk 4 σ.t = some (.int .i64 n) ∧ lk 5 σ.t = some (.int .i64 k)) (fun σ => (s).length - lkI 5 σ) ⟨0,0,by omega,by omega,by omega,rfl,rfl,rfl,rfl⟩ ?_
     rintro ⟨t,b⟩ ⟨k,n,hk,hn0,hn1,h0,h3,h4,h5⟩
     simp only at h0 h3 h4 h5
     rw [lkI_eq h5]
     by_cases hlt : k < (s).length
     · have hlt2 : decide ((k : Int) < (s).length) = true := decide_eq_true (by omega)
       have hu := w_dig (((s).getD k 0).toNat - 48 : Int)
       simp only [lawG,↓Xn,↓Xo,↓Xg,↓Xd,↓Xe,↓Xf,Tryz.VΓ,Tryz.Γs,Xp,Xi,Nat.reduceAdd,Nat.reduceSub,Nat.reduceLT,Nat.reduceLeDiff,reduceIte,reduceCtorEq,Nat.reduceEqDiff,implies_true,forall_const,lawV,lawA,beq_self_eq_true,bne_self_eq_false,Int.reduceBEq,Int.reduceBNe,Int.reduceLT,Int.reduceLE,h0,h3,h4,h5,hlt2]
       generalize IntKind.i64.wrap (IntKind.u8.wrap (((s).getD k 0).toNat - 48 : Int)) = d at *
       refine ⟨by omega,by omega,by omega,by omega,⟨k + 1,if 1073741824 < n * 10 + d then 1073741824 else n * 10 + d,by omega,by split <;> omega,by split <;> omega,rfl,rfl⟩,?_⟩
       rw [lkI_eq (k := .i64) (n := (k : Int) + 1) rfl]; omega
     · have hlt2 : decide ((k : Int) < (s).length) = false := decide_eq_false (by omega)
       cases hb : (false) <;> rw [hb] at h3
       · simp only [lawG,↓Xn,↓Xo,↓Xg,↓Xd,↓Xe,↓Xf,Tryz.VΓ,Tryz.Γs,Xp,Xi,Nat.reduceAdd,Nat.reduceSub,Nat.reduceLT,Nat.reduceLeDiff,reduceIte,reduceCtorEq,Nat.reduceEqDiff,implies_true,forall_const,lawV,lawA,beq_self_eq_true,bne_self_eq_false,Int.reduceBEq,Int.reduceBNe,Int.reduceLT,Int.reduceLE,h0,h3,h4,h5,hlt2]
         exact ⟨rfl,_,rfl,by omega,by omega⟩
       · first
         | exact absurd hb (by decide)
         | (simp only [lawG,↓Xn,↓Xo,↓Xg,↓Xd,↓Xe,↓Xf,Tryz.VΓ,Tryz.Γs,Xp,Xi,Nat.reduceAdd,Nat.reduceSub,Nat.reduceLT,Nat.reduceLeDiff,reduceIte,reduceCtorEq,Nat.reduceEqDiff,implies_true,forall_const,lawV,lawA,beq_self_eq_true,bne_self_eq_false,Int.reduceBEq,Int.reduceBNe,Int.reduceLT,Int.reduceLE,h0,h3,h4,h5,hlt2]; exact ⟨by omega,rfl,_,rfl,by omega,by omega⟩))
end Go.Proofs.YtejfjmcjicpodaaGreatDoor
/- ref13: some exact results: numeral,unit,Number; ref04.Format. -/
set_option linter.all false
set_option maxRecDepth 20000
namespace Go.Proofs.YtejfjmcjicpodaaGreatDoor
open Go Vc Go.RowKit Wf
set_option linter.unusedSimpArgs false
theorem wi64 (n : Nat) (h : n ≤ 4611686018427387904) : IntKind.i64.wrap (n : Int) = n := by
  simp only [IntKind.wrap,IntKind.bits,IntKind.signed]
  simp
  omega
set_option maxHeartbeats 4000000 in
theorem px_r13_unit (s : Bytes) (hs : s.length ≤ 2000000) (a : Nat) (ha : a ≤ 2000010) : ∃ x,PC Tryz.V 117 [.str s,.int .i64 a] x ∧ ∃ (n : Nat) (ok : Bool),x = .tup [.int .i64 n,.bool ok] ∧ n ≤ 65535 ∧ (ok = true → a + 6 ≤ s.length) := by
  refine px_of 3000 Tryz.func117 rfl Tryz.ntmps117 Tryz.results117 Tryz.call117 (by simp) (by simp [flat,flat.flatL]) ?_
  by_cases h : s.length < a + 6
  · have h1 : decide ((s.length : Int) < (a : Int) + 6) = true := decide_eq_true (by omega)
    simp only [lawG,↓Xn,↓Xo,↓Xg,↓Xd,↓Xe,↓Xf,Tryz.VΓ,Tryz.Γs,Xp,Xi,Nat.reduceAdd,Nat.reduceSub,Nat.reduceLT,Nat.reduceLeDiff,reduceIte,reduceCtorEq,Nat.reduceEqDiff,implies_true,forall_const,lawV,lawA,beq_self_eq_true,bne_self_eq_false,Int.reduceBEq,Int.reduceBNe,Int.reduceLT,Int.reduceLE,h1]
    exact ⟨by omega,rfl,0,false,rfl,by omega,by simp⟩
  · have h1 : decide ((s.length : Int) < (a : Int) + 6) = false := decide_eq_false (by omega)
    have hl : ((s.take ((a : Int) + 6).toNat).drop (a + 2)).length = 4 := by
      rw [List.length_drop,List.length_take]; omega
    have p1 := p_r4_Hex ((s.take ((a : Int) + 6).toNat).drop (a + 2)) 65535 (by omega) (by omega) (by omega)
    have hn := numParse_le isHex 16 65535 ((s.take ((a : Int) + 6).toNat).drop (a + 2))
    simp only [lawG,↓Xn,↓Xo,↓Xg,↓Xd,↓Xe,↓Xf,Tryz.VΓ,Tryz.Γs,Xp,Xi,Nat.reduceAdd,Nat.reduceSub,Nat.reduceLT,Nat.reduceLeDiff,reduceIte,reduceCtorEq,Nat.reduceEqDiff,implies_true,forall_const,lawV,lawA,beq_self_eq_true,bne_self_eq_false,Int.reduceBEq,Int.reduceBNe,Int.reduceLT,Int.reduceLE,h1]
    refine ⟨by omega,by omega,fun _ => ⟨by omega,by omega,fun _ => ⟨rfl,0,false,rfl,by omega,by simp⟩,fun _ => ⟨by omega,by omega,by omega,?_⟩⟩,fun _ => ⟨rfl,0,false,rfl,by omega,by simp⟩⟩
    (refine callV_pc (p1) ?_; simp only [lawG,↓Xn,↓Xo,↓Xg,↓Xd,↓Xe,↓Xf,Tryz.VΓ,Tryz.Γs,Xp,Xi,Nat.reduceAdd,Nat.reduceSub,Nat.reduceLT,Nat.reduceLeDiff,reduceIte,reduceCtorEq,Nat.reduceEqDiff,implies_true,forall_const,lawV,lawA,beq_self_eq_true,bne_self_eq_false,Int.reduceBEq,Int.reduceBNe,Int.reduceLT,Int.reduceLE])
    rw [wi64 _ (by omega)]
    exact ⟨rfl,_,_,rfl,hn,fun _ => by omega⟩
def NumJ (s : Bytes) (σ : St) : Prop := ∃ i : Nat,i ≤ s.length ∧ lk 0 σ.t = some (.str s) ∧ lk 3 σ.t = some (.int .i64 i)
def NumK (s : Bytes) (σ : St) : Prop := ∃ i : Nat,i < s.length ∧ lk 0 σ.t = some (.str s) ∧ lk 3 σ.t = some (.int .i64 i)
set_option maxHeartbeats 4000000 in
theorem px_r13_numeral (s : Bytes) (hs : s.length ≤ 2000000) : ∃ x,PC Tryz.V 81 [.str s] x ∧ ∃ n : Nat,x = .int .i64 n ∧ n ≤ s.length := by
  refine px_of 3000 Tryz.func81 rfl Tryz.ntmps81 Tryz.results81 Tryz.call81 (by simp) (by simp [flat,flat.flatL]) ?_
  refine vcS_cutS 2900 (fun σ => lk 0 σ.t = some (.str s)) ?_ (fun k' hk' => ?_)
  rotate_left
  · simp only [lawG,↓Xn,↓Xo,↓Xg,↓Xd,↓Xe,↓Xf,Tryz.VΓ,Tryz.Γs,Xp,Xi,Nat.reduceAdd,Nat.reduceSub,Nat.reduceLT,Nat.reduceLeDiff,reduceIte,reduceCtorEq,Nat.reduceEqDiff,implies_true,forall_const,lawV,lawA,beq_self_eq_true,bne_self_eq_false,Int.reduceBEq,Int.reduceBNe,Int.reduceLT,Int.reduceLE]
    exact hk' _ _ rfl
  rintro m ⟨t,b⟩ h0
  simp only at h0
  refine vcS_cutS 2800 (NumJ s) ?_ (fun k' hk' => ?_)
  rotate_left
  · simp only [lawG,↓Xn,↓Xo,↓Xg,↓Xd,↓Xe,↓Xf,Tryz.VΓ,Tryz.Γs,Xp,Xi,Nat.reduceAdd,Nat.reduceSub,Nat.reduceLT,Nat.reduceLeDiff,reduceIte,reduceCtorEq,Nat.reduceEqDiff,implies_true,forall_const,lawV,lawA,beq_self_eq_true,bne_self_eq_false,Int.reduceBEq,Int.reduceBNe,Int.reduceLT,Int.reduceLE,h0]
    exact hk' _ _ ⟨0,by omega,by simp [lk,h0],rfl⟩
  rintro m ⟨t,b⟩ ⟨i,hi,h0,h3⟩
  simp only at h0 h3
  refine vcS_cutS 2700 (NumJ s) ?_ (fun k' hk' => ?_)
  rotate_left
  · simp only [lawG,↓Xn,↓Xo,↓Xg,↓Xd,↓Xe,↓Xf,Tryz.VΓ,Tryz.Γs,Xp,Xi,Nat.reduceAdd,Nat.reduceSub,Nat.reduceLT,Nat.reduceLeDiff,reduceIte,reduceCtorEq,Nat.reduceEqDiff,implies_true,forall_const,lawV,lawA,beq_self_eq_true,bne_self_eq_false,Int.reduceBEq,Int.reduceBNe,Int.reduceLT,Int.reduceLE,h0,h3]
    refine ⟨fun h => ⟨by simp at h; omega,fun _ => ⟨by omega,hk' _ _ ⟨i + 1,by simp at h; omega,by simp [lk,h0],rfl⟩⟩,fun _ => hk' _ _ ⟨i,hi,by simp [lk,h0],by simp [lk,h3]⟩⟩,fun _ => hk' _ _ ⟨i,hi,by simp [lk,h0],by simp [lk,h3]⟩⟩
  rintro m ⟨t,b⟩ ⟨i,hi,h0,h3⟩
  simp only at h0 h3
  refine vcS_cutS 2600 (NumK s) ?_ (fun k' hk' => ?_)
  rotate_left
  · simp only [lawG,↓Xn,↓Xo,↓Xg,↓Xd,↓Xe,↓Xf,Tryz.VΓ,Tryz.Γs,Xp,Xi,Nat.reduceAdd,Nat.reduceSub,Nat.reduceLT,Nat.reduceLeDiff,reduceIte,reduceCtorEq,Nat.reduceEqDiff,implies_true,forall_const,lawV,lawA,beq_self_eq_true,bne_self_eq_false,Int.reduceBEq,Int.reduceBNe,Int.reduceLT,Int.reduceLE,h0,h3]
    refine ⟨fun h => ⟨by simp at h; omega,?_⟩,fun _ => ⟨rfl,0,rfl,by omega⟩⟩
    have p1 := p_r1_IsDigit (s.getD i 0)
    refine callV_pc p1 ?_
    cases hd : isDigit (s.getD i 0)
    · simp only [lawG,↓Xn,↓Xo,↓Xg,↓Xd,↓Xe,↓Xf,Tryz.VΓ,Tryz.Γs,Xp,Xi,Nat.reduceAdd,Nat.reduceSub,Nat.reduceLT,Nat.reduceLeDiff,reduceIte,reduceCtorEq,Nat.reduceEqDiff,implies_true,forall_const,lawV,lawA,beq_self_eq_true,bne_self_eq_false,Int.reduceBEq,Int.reduceBNe,Int.reduceLT,Int.reduceLE,h0,h3,hd]
      exact ⟨rfl,0,rfl,by omega⟩
    · simp only [lawG,↓Xn,↓Xo,↓Xg,↓Xd,↓Xe,↓Xf,Tryz.VΓ,Tryz.Γs,Xp,Xi,Nat.reduceAdd,Nat.reduceSub,Nat.reduceLT,Nat.reduceLeDiff,reduceIte,reduceCtorEq,Nat.reduceEqDiff,implies_true,forall_const,lawV,lawA,beq_self_eq_true,bne_self_eq_false,Int.reduceBEq,Int.reduceBNe,Int.reduceLT,Int.reduceLE,h0,h3,hd]
      exact hk' _ _ ⟨i,by simp at h; omega,by simp [lk,h0],by simp [lk,h3]⟩
  rintro m ⟨t,b⟩ ⟨i,hi,h0,h3⟩
  simp only at h0 h3
  refine vcS_cutS 2500 (NumJ s) ?_ (fun k' hk' => ?_)
  rotate_left
  · simp only [lawG,↓Xn,↓Xo,↓Xg,↓Xd,↓Xe,↓Xf,Tryz.VΓ,Tryz.Γs,Xp,Xi,Nat.reduceAdd,Nat.reduceSub,Nat.reduceLT,Nat.reduceLeDiff,reduceIte,reduceCtorEq,Nat.reduceEqDiff,implies_true,forall_const,lawV,lawA,beq_self_eq_true,bne_self_eq_false,Int.reduceBEq,Int.reduceBNe,Int.reduceLT,Int.reduceLE,h0,h3]
    obtain ⟨_,p1,n,rfl,hn⟩ := px_r13_run (s.drop i) (by rw [List.length_drop]; omega)
    rw [List.length_drop] at hn
    refine ⟨by omega,fun _ => ⟨by omega,hk' _ _ ⟨i + 1,by omega,by simp [lk,h0],rfl⟩⟩,fun _ => ⟨by omega,?_⟩⟩
    (refine callV_pc (p1) ?_; simp only [lawG,↓Xn,↓Xo,↓Xg,↓Xd,↓Xe,↓Xf,Tryz.VΓ,Tryz.Γs,Xp,Xi,Nat.reduceAdd,Nat.reduceSub,Nat.reduceLT,Nat.reduceLeDiff,reduceIte,reduceCtorEq,Nat.reduceEqDiff,implies_true,forall_const,lawV,lawA,beq_self_eq_true,bne_self_eq_false,Int.reduceBEq,Int.reduceBNe,Int.reduceLT,Int.reduceLE,h0,h3])
    exact ⟨by omega,hk' _ _ ⟨i + n,by omega,by simp [lk,h0],rfl⟩⟩
  rintro m ⟨t,b⟩ ⟨i,hi,h0,h3⟩
  simp only at h0 h3
  refine vcS_cutS 2400 (NumJ s) ?_ (fun k' hk' => ?_)
  rotate_left
  · simp only [lawG,↓Xn,↓Xo,↓Xg,↓Xd,↓Xe,↓Xf,Tryz.VΓ,Tryz.Γs,Xp,Xi,Nat.reduceAdd,Nat.reduceSub,Nat.reduceLT,Nat.reduceLeDiff,reduceIte,reduceCtorEq,Nat.reduceEqDiff,implies_true,forall_const,lawV,lawA,beq_self_eq_true,bne_self_eq_false,Int.reduceBEq,Int.reduceBNe,Int.reduceLT,Int.reduceLE,h0,h3]
    have p1 := p_r13_tail s hs (i + 1)
    obtain ⟨_,p2,n,rfl,hn⟩ := px_r13_run (s.drop (i + 1)) (by rw [List.length_drop]; omega)
    rw [List.length_drop] at hn
    refine ⟨by omega,callV_pc p1 ?_⟩
    simp only [lawG,↓Xn,↓Xo,↓Xg,↓Xd,↓Xe,↓Xf,Tryz.VΓ,Tryz.Γs,Xp,Xi,Nat.reduceAdd,Nat.reduceSub,Nat.reduceLT,Nat.reduceLeDiff,reduceIte,reduceCtorEq,Nat.reduceEqDiff,implies_true,forall_const,lawV,lawA,beq_self_eq_true,bne_self_eq_false,Int.reduceBEq,Int.reduceBNe,Int.reduceLT,Int.reduceLE,h0,h3]
    (refine callV_pc (p2) ?_; simp only [lawG,↓Xn,↓Xo,↓Xg,↓Xd,↓Xe,↓Xf,Tryz.VΓ,Tryz.Γs,Xp,Xi,Nat.reduceAdd,Nat.reduceSub,Nat.reduceLT,Nat.reduceLeDiff,reduceIte,reduceCtorEq,Nat.reduceEqDiff,implies_true,forall_const,lawV,lawA,beq_self_eq_true,bne_self_eq_false,Int.reduceBEq,Int.reduceBNe,Int.reduceLT,Int.reduceLE,h0,h3])
    by_cases hlt : i < s.length
    · have hlt2 : decide ((i : Int) < s.length) = true := decide_eq_true (by omega)
      cases h46 : ((s.getD i 0).toNat : Int) == 46
      · simp only [lawG,↓Xn,↓Xo,↓Xg,↓Xd,↓Xe,↓Xf,Tryz.VΓ,Tryz.Γs,Xp,Xi,Nat.reduceAdd,Nat.reduceSub,Nat.reduceLT,Nat.reduceLeDiff,reduceIte,reduceCtorEq,Nat.reduceEqDiff,implies_true,forall_const,lawV,lawA,beq_self_eq_true,bne_self_eq_false,Int.reduceBEq,Int.reduceBNe,Int.reduceLT,Int.reduceLE,h0,h3,hlt2,h46]
        exact ⟨by omega,hk' _ _ ⟨i,hi,by simp [lk,h0],by simp [lk,h3]⟩⟩
      · simp only [lawG,↓Xn,↓Xo,↓Xg,↓Xd,↓Xe,↓Xf,Tryz.VΓ,Tryz.Γs,Xp,Xi,Nat.reduceAdd,Nat.reduceSub,Nat.reduceLT,Nat.reduceLeDiff,reduceIte,reduceCtorEq,Nat.reduceEqDiff,implies_true,forall_const,lawV,lawA,beq_self_eq_true,bne_self_eq_false,Int.reduceBEq,Int.reduceBNe,Int.reduceLT,Int.reduceLE,h0,h3,hlt2,h46]
        exact ⟨by omega,fun h => ⟨by omega,by omega,hk' _ _ ⟨i + (1 + n),by simp at h; omega,by simp [lk,h0],rfl⟩⟩,fun _ => hk' _ _ ⟨i,hi,by simp [lk,h0],by simp [lk,h3]⟩⟩
    · have hlt2 : decide ((i : Int) < s.length) = false := decide_eq_false (by omega)
      simp only [lawG,↓Xn,↓Xo,↓Xg,↓Xd,↓Xe,↓Xf,Tryz.VΓ,Tryz.Γs,Xp,Xi,Nat.reduceAdd,Nat.reduceSub,Nat.reduceLT,Nat.reduceLeDiff,reduceIte,reduceCtorEq,Nat.reduceEqDiff,implies_true,forall_const,lawV,lawA,beq_self_eq_true,bne_self_eq_false,Int.reduceBEq,Int.reduceBNe,Int.reduceLT,Int.reduceLE,h0,h3,hlt2]
      exact hk' _ _ ⟨i,hi,by simp [lk,h0],by simp [lk,h3]⟩
  rintro m ⟨t,b⟩ ⟨i,hi,h0,h3⟩
  simp only at h0 h3
  refine vcS_cutS 2300 (NumJ s) ?_ (fun k' hk' => ?_)
  rotate_left
  · by_cases hlt : i < s.length
    · have hlt2 : decide ((i : Int) < s.length) = true := decide_eq_true (by omega)
      have p1 := p_r1_In (s.getD i 0) [101,69] (by simp)
      simp only [lawG,↓Xn,↓Xo,↓Xg,↓Xd,↓Xe,↓Xf,Tryz.VΓ,Tryz.Γs,Xp,Xi,Nat.reduceAdd,Nat.reduceSub,Nat.reduceLT,Nat.reduceLeDiff,reduceIte,reduceCtorEq,Nat.reduceEqDiff,implies_true,forall_const,lawV,lawA,beq_self_eq_true,bne_self_eq_false,Int.reduceBEq,Int.reduceBNe,Int.reduceLT,Int.reduceLE,h0,h3,hlt2]
      refine ⟨by omega,callV_pc p1 ?_⟩
      cases hc : ([101,69] : Bytes).contains (s.getD i 0)
      · simp only [lawG,↓Xn,↓Xo,↓Xg,↓Xd,↓Xe,↓Xf,Tryz.VΓ,Tryz.Γs,Xp,Xi,Nat.reduceAdd,Nat.reduceSub,Nat.reduceLT,Nat.reduceLeDiff,reduceIte,reduceCtorEq,Nat.reduceEqDiff,implies_true,forall_const,lawV,lawA,beq_self_eq_true,bne_self_eq_false,Int.reduceBEq,Int.reduceBNe,Int.reduceLT,Int.reduceLE,h0,h3]
        exact hk' _ _ ⟨i,hi,by simp [lk,h0],by simp [lk,h3]⟩
      · simp only [lawG,↓Xn,↓Xo,↓Xg,↓Xd,↓Xe,↓Xf,Tryz.VΓ,Tryz.Γs,Xp,Xi,Nat.reduceAdd,Nat.reduceSub,Nat.reduceLT,Nat.reduceLeDiff,reduceIte,reduceCtorEq,Nat.reduceEqDiff,implies_true,forall_const,lawV,lawA,beq_self_eq_true,bne_self_eq_false,Int.reduceBEq,Int.reduceBNe,Int.reduceLT,Int.reduceLE,h0,h3]
        refine ⟨by omega,fun h => ⟨by simp at h; omega,?_⟩,fun _ => ?_⟩
        · have p2 := p_r1_In (s.getD (i + 1) 0) [43,45] (by simp)
          refine callV_pc p2 ?_
          cases hc : ([43,45] : Bytes).contains (s.getD (i + 1) 0)
          · simp only [lawG,↓Xn,↓Xo,↓Xg,↓Xd,↓Xe,↓Xf,Tryz.VΓ,Tryz.Γs,Xp,Xi,Nat.reduceAdd,Nat.reduceSub,Nat.reduceLT,Nat.reduceLeDiff,reduceIte,reduceCtorEq,Nat.reduceEqDiff,implies_true,forall_const,lawV,lawA,beq_self_eq_true,bne_self_eq_false,Int.reduceBEq,Int.reduceBNe,Int.reduceLT,Int.reduceLE,h0,h3]
            (have p3 := p_r13_tail s hs (i + 1)
             obtain ⟨_,p4,n,rfl,hn⟩ := px_r13_run (s.drop (i + 1)) (by rw [List.length_drop]; omega)
             rw [List.length_drop] at hn
             refine callV_pc p3 ?_
             simp only [lawG,↓Xn,↓Xo,↓Xg,↓Xd,↓Xe,↓Xf,Tryz.VΓ,Tryz.Γs,Xp,Xi,Nat.reduceAdd,Nat.reduceSub,Nat.reduceLT,Nat.reduceLeDiff,reduceIte,reduceCtorEq,Nat.reduceEqDiff,implies_true,forall_const,lawV,lawA,beq_self_eq_true,bne_self_eq_false,Int.reduceBEq,Int.reduceBNe,Int.reduceLT,Int.reduceLE,h0,h3]
             (refine callV_pc (p4) ?_; simp only [lawG,↓Xn,↓Xo,↓Xg,↓Xd,↓Xe,↓Xf,Tryz.VΓ,Tryz.Γs,Xp,Xi,Nat.reduceAdd,Nat.reduceSub,Nat.reduceLT,Nat.reduceLeDiff,reduceIte,reduceCtorEq,Nat.reduceEqDiff,implies_true,forall_const,lawV,lawA,beq_self_eq_true,bne_self_eq_false,Int.reduceBEq,Int.reduceBNe,Int.reduceLT,Int.reduceLE,h0,h3])
             exact ⟨fun h => ⟨by omega,hk' _ _ ⟨i + 1 + n,by simp at h; omega,by simp [lk,h0],rfl⟩⟩,fun _ => hk' _ _ ⟨i,by omega,by simp [lk,h0],by simp [lk,h3]⟩⟩)
          · simp only [lawG,↓Xn,↓Xo,↓Xg,↓Xd,↓Xe,↓Xf,Tryz.VΓ,Tryz.Γs,Xp,Xi,Nat.reduceAdd,Nat.reduceSub,Nat.reduceLT,Nat.reduceLeDiff,reduceIte,reduceCtorEq,Nat.reduceEqDiff,implies_true,forall_const,lawV,lawA,beq_self_eq_true,bne_self_eq_false,Int.reduceBEq,Int.reduceBNe,Int.reduceLT,Int.reduceLE,h0,h3]
            refine ⟨by omega,?_⟩
            (have p3 := p_r13_tail s hs (i + 1 + 1)
             obtain ⟨_,p4,n,rfl,hn⟩ := px_r13_run (s.drop (i + 1 + 1)) (by rw [List.length_drop]; omega)
             rw [List.length_drop] at hn
             refine callV_pc p3 ?_
             simp only [lawG,↓Xn,↓Xo,↓Xg,↓Xd,↓Xe,↓Xf,Tryz.VΓ,Tryz.Γs,Xp,Xi,Nat.reduceAdd,Nat.reduceSub,Nat.reduceLT,Nat.reduceLeDiff,reduceIte,reduceCtorEq,Nat.reduceEqDiff,implies_true,forall_const,lawV,lawA,beq_self_eq_true,bne_self_eq_false,Int.reduceBEq,Int.reduceBNe,Int.reduceLT,Int.reduceLE,h0,h3]
             (refine callV_pc (p4) ?_; simp only [lawG,↓Xn,↓Xo,↓Xg,↓Xd,↓Xe,↓Xf,Tryz.VΓ,Tryz.Γs,Xp,Xi,Nat.reduceAdd,Nat.reduceSub,Nat.reduceLT,Nat.reduceLeDiff,reduceIte,reduceCtorEq,Nat.reduceEqDiff,implies_true,forall_const,lawV,lawA,beq_self_eq_true,bne_self_eq_false,Int.reduceBEq,Int.reduceBNe,Int.reduceLT,Int.reduceLE,h0,h3])
             exact ⟨fun h => ⟨by omega,hk' _ _ ⟨i + 1 + 1 + n,by simp at h; omega,by simp [lk,h0],rfl⟩⟩,fun _ => hk' _ _ ⟨i,by omega,by simp [lk,h0],by simp [lk,h3]⟩⟩)
        · skip
          (have p3 := p_r13_tail s hs (i + 1)
           obtain ⟨_,p4,n,rfl,hn⟩ := px_r13_run (s.drop (i + 1)) (by rw [List.length_drop]; omega)
           rw [List.length_drop] at hn
           refine callV_pc p3 ?_
           simp only [lawG,↓Xn,↓Xo,↓Xg,↓Xd,↓Xe,↓Xf,Tryz.VΓ,Tryz.Γs,Xp,Xi,Nat.reduceAdd,Nat.reduceSub,Nat.reduceLT,Nat.reduceLeDiff,reduceIte,reduceCtorEq,Nat.reduceEqDiff,implies_true,forall_const,lawV,lawA,beq_self_eq_true,bne_self_eq_false,Int.reduceBEq,Int.reduceBNe,Int.reduceLT,Int.reduceLE,h0,h3]
           (refine callV_pc (p4) ?_; simp only [lawG,↓Xn,↓Xo,↓Xg,↓Xd,↓Xe,↓Xf,Tryz.VΓ,Tryz.Γs,Xp,Xi,Nat.reduceAdd,Nat.reduceSub,Nat.reduceLT,Nat.reduceLeDiff,reduceIte,reduceCtorEq,Nat.reduceEqDiff,implies_true,forall_const,lawV,lawA,beq_self_eq_true,bne_self_eq_false,Int.reduceBEq,Int.reduceBNe,Int.reduceLT,Int.reduceLE,h0,h3])
           exact ⟨fun h => ⟨by omega,hk' _ _ ⟨i + 1 + n,by simp at h; omega,by simp [lk,h0],rfl⟩⟩,fun _ => hk' _ _ ⟨i,by omega,by simp [lk,h0],by simp [lk,h3]⟩⟩)
    · have hlt2 : decide ((i : Int) < s.length) = false := decide_eq_false (by omega)
      simp only [lawG,↓Xn,↓Xo,↓Xg,↓Xd,↓Xe,↓Xf,Tryz.VΓ,Tryz.Γs,Xp,Xi,Nat.reduceAdd,Nat.reduceSub,Nat.reduceLT,Nat.reduceLeDiff,reduceIte,reduceCtorEq,Nat.reduceEqDiff,implies_true,forall_const,lawV,lawA,beq_self_eq_true,bne_self_eq_false,Int.reduceBEq,Int.reduceBNe,Int.reduceLT,Int.reduceLE,h0,h3,hlt2]
      exact hk' _ _ ⟨i,hi,by simp [lk,h0],by simp [lk,h3]⟩
  rintro m ⟨t,b⟩ ⟨i,hi,h0,h3⟩
  simp only at h0 h3
  simp only [lawG,↓Xn,↓Xo,↓Xg,↓Xd,↓Xe,↓Xf,Tryz.VΓ,Tryz.Γs,Xp,Xi,Nat.reduceAdd,Nat.reduceSub,Nat.reduceLT,Nat.reduceLeDiff,reduceIte,reduceCtorEq,Nat.reduceEqDiff,implies_true,forall_const,lawV,lawA,beq_self_eq_true,bne_self_eq_false,Int.reduceBEq,Int.reduceBNe,Int.reduceLT,Int.reduceLE,h0,h3]
  exact ⟨rfl,i,rfl,hi⟩
theorem quo10 (n : Nat) (hn : n ≤ 4611686018427387904) : divI .quo .u64 (n : Int) 10 = ((n / 10 : Nat) : Int) := quo_n n 10 hn
set_option maxHeartbeats 4000000 in
theorem px_r4_Format (n : Nat) (hn : n ≤ 1000000) : ∃ x,PC Tryz.V 84 [.int .u64 n] x ∧ ∃ s : Bytes,x = .str s ∧ s.length ≤ n + 1 := by
  refine px_of 3000 Tryz.func84 rfl Tryz.ntmps84 Tryz.results84 Tryz.call84 (by simp) (by simp [flat,flat.flatL]) ?_
  simp only [lawG,↓Xn,↓Xo,↓Xg,↓Xd,↓Xe,↓Xf,Tryz.VΓ,Tryz.Γs,Xp,Xi,Nat.reduceAdd,Nat.reduceSub,Nat.reduceLT,Nat.reduceLeDiff,reduceIte,reduceCtorEq,Nat.reduceEqDiff,implies_true,forall_const,lawV,lawA,beq_self_eq_true,bne_self_eq_false,Int.reduceBEq,Int.reduceBNe,Int.reduceLT,Int.reduceLE]
  refine loopV_mk (fun σ => ∃ (k : Nat) (s : Bytes),s.length + k ≤ n ∧ lk 0 σ.t = some (.int .u64 k) ∧ lk 3 σ.t = some (.str s)) (fun σ => lkI 0 σ) ⟨n,[],by simp,rfl,rfl⟩ ?_
  rintro ⟨t,b⟩ ⟨k,s,hk,h0,h3⟩
  simp only at h0 h3
  have hq := quo10 k (by omega)
  rw [lkI_eq h0]
  simp only [lawG,↓Xn,↓Xo,↓Xg,↓Xd,↓Xe,↓Xf,Tryz.VΓ,Tryz.Γs,Xp,Xi,Nat.reduceAdd,Nat.reduceSub,Nat.reduceLT,Nat.reduceLeDiff,reduceIte,reduceCtorEq,Nat.reduceEqDiff,implies_true,forall_const,lawV,lawA,beq_self_eq_true,bne_self_eq_false,Int.reduceBEq,Int.reduceBNe,Int.reduceLT,Int.reduceLE,h0,h3,isU8_wrap,Bool.and_self,hq]
  refine ⟨by omega,by omega,by omega,by omega,fun _ => ⟨rfl,_,rfl,by simp; omega⟩,fun h => ?_⟩
  have hk0 : k / 10 ≠ 0 := by intro e; rw [e] at h; simp at h
  refine ⟨⟨k / 10,_,by simp; omega,rfl,rfl⟩,?_⟩
  rw [lkI_eq (k := .u64) (n := ((k / 10 : Nat) : Int)) rfl]; omega
set_option maxHeartbeats 4000000 in
theorem px_r13_Number (s : Bytes) (hs : s.length ≤ 1000000) : ∃ x,PC Tryz.V 55 [.str s] x ∧ ∃ (u : Bytes) (e : Int),x = .tup [.str u,.int .i64 e] ∧ u.length ≤ s.length + 410 := by
  refine px_of 3000 Tryz.func55 rfl Tryz.ntmps55 Tryz.results55 Tryz.call55 (by simp) (by simp [flat,flat.flatL]) ?_
  refine vcS_cutS 2900 (fun σ => lk 0 σ.t = some (.str s)) ?_ (fun k' hk' => ?_)
  rotate_left
  · simp only [lawG,↓Xn,↓Xo,↓Xg,↓Xd,↓Xe,↓Xf,Tryz.VΓ,Tryz.Γs,Xp,Xi,Nat.reduceAdd,Nat.reduceSub,Nat.reduceLT,Nat.reduceLeDiff,reduceIte,reduceCtorEq,Nat.reduceEqDiff,implies_true,forall_const,lawV,lawA,beq_self_eq_true,bne_self_eq_false,Int.reduceBEq,Int.reduceBNe,Int.reduceLT,Int.reduceLE]
    exact hk' _ _ rfl
  rintro m ⟨t,b⟩ h0
  simp only at h0
  refine vcS_cutS 2800 (fun σ => 0 < s.length ∧ lk 0 σ.t = some (.str s)) ?_ (fun k' hk' => ?_)
  rotate_left
  · by_cases he : s.length = 0
    · have he2 : (s == []) = true := by simp [List.length_eq_zero_iff.1 he]
      simp only [lawG,↓Xn,↓Xo,↓Xg,↓Xd,↓Xe,↓Xf,Tryz.VΓ,Tryz.Γs,Xp,Xi,Nat.reduceAdd,Nat.reduceSub,Nat.reduceLT,Nat.reduceLeDiff,reduceIte,reduceCtorEq,Nat.reduceEqDiff,implies_true,forall_const,lawV,lawA,beq_self_eq_true,bne_self_eq_false,Int.reduceBEq,Int.reduceBNe,Int.reduceLT,Int.reduceLE,h0,he2]
      exact ⟨rfl,[],130,rfl,by simp⟩
    · have he2 : (s == []) = false := by cases s <;> simp at he ⊢
      obtain ⟨_,p1,n,rfl,hn⟩ := px_r13_numeral s (by omega)
      simp only [lawG,↓Xn,↓Xo,↓Xg,↓Xd,↓Xe,↓Xf,Tryz.VΓ,Tryz.Γs,Xp,Xi,Nat.reduceAdd,Nat.reduceSub,Nat.reduceLT,Nat.reduceLeDiff,reduceIte,reduceCtorEq,Nat.reduceEqDiff,implies_true,forall_const,lawV,lawA,beq_self_eq_true,bne_self_eq_false,Int.reduceBEq,Int.reduceBNe,Int.reduceLT,Int.reduceLE,h0,he2]
      (refine callV_pc (p1) ?_; simp only [lawG,↓Xn,↓Xo,↓Xg,↓Xd,↓Xe,↓Xf,Tryz.VΓ,Tryz.Γs,Xp,Xi,Nat.reduceAdd,Nat.reduceSub,Nat.reduceLT,Nat.reduceLeDiff,reduceIte,reduceCtorEq,Nat.reduceEqDiff,implies_true,forall_const,lawV,lawA,beq_self_eq_true,bne_self_eq_false,Int.reduceBEq,Int.reduceBNe,Int.reduceLT,Int.reduceLE,h0])
      exact ⟨fun _ => ⟨rfl,[],130,rfl,by simp⟩,fun _ => hk' _ _ ⟨by omega,by simp [lk,h0]⟩⟩
  rintro m ⟨t,b⟩ ⟨hp,h0⟩
  simp only at h0
  refine vcS_cutS 2700 (fun σ => lk 0 σ.t = some (.str s) ∧ lk 4 σ.t = some (.str [])) ?_ (fun k' hk' => ?_)
  rotate_left
  · simp only [lawG,↓Xn,↓Xo,↓Xg,↓Xd,↓Xe,↓Xf,Tryz.VΓ,Tryz.Γs,Xp,Xi,Nat.reduceAdd,Nat.reduceSub,Nat.reduceLT,Nat.reduceLeDiff,reduceIte,reduceCtorEq,Nat.reduceEqDiff,implies_true,forall_const,lawV,lawA,beq_self_eq_true,bne_self_eq_false,Int.reduceBEq,Int.reduceBNe,Int.reduceLT,Int.reduceLE,h0]
    exact hk' _ _ ⟨by simp [lk,h0],rfl⟩
  rintro m ⟨t,b⟩ ⟨h0,h4⟩
  simp only at h0 h4
  refine vcS_cutS 2600 (fun σ => ∃ u g : Bytes,u.length ≤ s.length ∧ g.length ≤ 1 ∧ lk 0 σ.t = some (.str u) ∧ lk 4 σ.t = some (.str g)) ?_ (fun k' hk' => ?_)
  rotate_left
  · simp only [lawG,↓Xn,↓Xo,↓Xg,↓Xd,↓Xe,↓Xf,Tryz.VΓ,Tryz.Γs,Xp,Xi,Nat.reduceAdd,Nat.reduceSub,Nat.reduceLT,Nat.reduceLeDiff,reduceIte,reduceCtorEq,Nat.reduceEqDiff,implies_true,forall_const,lawV,lawA,beq_self_eq_true,bne_self_eq_false,Int.reduceBEq,Int.reduceBNe,Int.reduceLT,Int.reduceLE,h0,h4]
    exact ⟨by omega,fun _ => ⟨by omega,(OkD_fast (by kernel_rfl)),hk' _ _ ⟨s.drop 1,[45],by simp,by simp,rfl,rfl⟩⟩,fun _ => hk' _ _ ⟨s,[],by omega,by simp,by simp [lk,h0],by simp [lk,h4]⟩⟩
  rintro m ⟨t,b⟩ ⟨u,g,hu,hg,h0,h4⟩
  simp only at h0 h4
  have hpk := pre_le (([101,69] : Bytes).contains ·) u
  refine vcS_cutS 2500 (fun σ => lk 0 σ.t = some (.str u) ∧ lk 4 σ.t = some (.str g) ∧ lk 5 σ.t = some (.int .i64 (pre (([101,69] : Bytes).contains ·) u))) ?_ (fun k' hk' => ?_)
  rotate_left
  · have p1 := p_r1_Index u [101,69] (by omega) (by simp)
    simp only [lawG,↓Xn,↓Xo,↓Xg,↓Xd,↓Xe,↓Xf,Tryz.VΓ,Tryz.Γs,Xp,Xi,Nat.reduceAdd,Nat.reduceSub,Nat.reduceLT,Nat.reduceLeDiff,reduceIte,reduceCtorEq,Nat.reduceEqDiff,implies_true,forall_const,lawV,lawA,beq_self_eq_true,bne_self_eq_false,Int.reduceBEq,Int.reduceBNe,Int.reduceLT,Int.reduceLE,h0,h4]
    (refine callV_pc (p1) ?_; simp only [lawG,↓Xn,↓Xo,↓Xg,↓Xd,↓Xe,↓Xf,Tryz.VΓ,Tryz.Γs,Xp,Xi,Nat.reduceAdd,Nat.reduceSub,Nat.reduceLT,Nat.reduceLeDiff,reduceIte,reduceCtorEq,Nat.reduceEqDiff,implies_true,forall_const,lawV,lawA,beq_self_eq_true,bne_self_eq_false,Int.reduceBEq,Int.reduceBNe,Int.reduceLT,Int.reduceLE,h0,h4])
    exact hk' _ _ ⟨by simp [lk,h0],by simp [lk,h4],rfl⟩
  generalize pre (([101,69] : Bytes).contains ·) u = k at hpk
  rintro m ⟨t,b⟩ ⟨h0,h4,h5⟩
  simp only at h0 h4 h5
  refine vcS_cutS 2400 (fun σ => ∃ (x : Int) (mm : Bytes),-1073741824 ≤ x ∧ x ≤ 1073741824 ∧ mm.length ≤ s.length ∧ lk 4 σ.t = some (.str g) ∧ lk 6 σ.t = some (.int .i64 x) ∧ lk 7 σ.t = some (.str mm)) ?_ (fun k' hk' => ?_)
  rotate_left
  · have p1 := p_r13_tail u (by omega) (k + 1)
    obtain ⟨_,p2,x,rfl,hx0,hx1⟩ := px_r13_exponent (u.drop (k + 1)) (by rw [List.length_drop]; omega)
    simp only [lawG,↓Xn,↓Xo,↓Xg,↓Xd,↓Xe,↓Xf,Tryz.VΓ,Tryz.Γs,Xp,Xi,Nat.reduceAdd,Nat.reduceSub,Nat.reduceLT,Nat.reduceLeDiff,reduceIte,reduceCtorEq,Nat.reduceEqDiff,implies_true,forall_const,lawV,lawA,beq_self_eq_true,bne_self_eq_false,Int.reduceBEq,Int.reduceBNe,Int.reduceLT,Int.reduceLE,h0,h4,h5]
    refine ⟨by omega,callD_pc p1 ?_⟩
    simp only [lawG,↓Xn,↓Xo,↓Xg,↓Xd,↓Xe,↓Xf,Tryz.VΓ,Tryz.Γs,Xp,Xi,Nat.reduceAdd,Nat.reduceSub,Nat.reduceLT,Nat.reduceLeDiff,reduceIte,reduceCtorEq,Nat.reduceEqDiff,implies_true,forall_const,lawV,lawA,beq_self_eq_true,bne_self_eq_false,Int.reduceBEq,Int.reduceBNe,Int.reduceLT,Int.reduceLE,h0,h4,h5]
    (refine callD_pc (p2) ?_; simp only [lawG,↓Xn,↓Xo,↓Xg,↓Xd,↓Xe,↓Xf,Tryz.VΓ,Tryz.Γs,Xp,Xi,Nat.reduceAdd,Nat.reduceSub,Nat.reduceLT,Nat.reduceLeDiff,reduceIte,reduceCtorEq,Nat.reduceEqDiff,implies_true,forall_const,lawV,lawA,beq_self_eq_true,bne_self_eq_false,Int.reduceBEq,Int.reduceBNe,Int.reduceLT,Int.reduceLE,h0,h4,h5])
    exact ⟨by omega,(OkD_fast (by kernel_rfl)),hk' _ _ ⟨x,u.take k,hx0,hx1,by rw [List.length_take]; omega,by simp [lk,h4],rfl,rfl⟩⟩
  rintro m ⟨t,b⟩ ⟨x,mm,hx0,hx1,hmm,h4,h6,h7⟩
  simp only at h4 h6 h7
  refine vcS_cutS 2300 (fun σ => ∃ (x : Int) (mm : Bytes),-1083741824 ≤ x ∧ x ≤ 1083741824 ∧ mm.length ≤ s.length ∧ lk 4 σ.t = some (.str g) ∧ lk 6 σ.t = some (.int .i64 x) ∧ lk 7 σ.t = some (.str mm)) ?_ (fun k' hk' => ?_)
  rotate_left
  · have hpm := pre_le (([46] : Bytes).contains ·) mm
    have p1 := p_r1_Index mm [46] (by omega) (by simp)
    simp only [lawG,↓Xn,↓Xo,↓Xg,↓Xd,↓Xe,↓Xf,Tryz.VΓ,Tryz.Γs,Xp,Xi,Nat.reduceAdd,Nat.reduceSub,Nat.reduceLT,Nat.reduceLeDiff,reduceIte,reduceCtorEq,Nat.reduceEqDiff,implies_true,forall_const,lawV,lawA,beq_self_eq_true,bne_self_eq_false,Int.reduceBEq,Int.reduceBNe,Int.reduceLT,Int.reduceLE,h4,h6,h7]
    refine callV_pc p1 ?_
    generalize pre (([46] : Bytes).contains ·) mm = q at hpm
    simp only [lawG,↓Xn,↓Xo,↓Xg,↓Xd,↓Xe,↓Xf,Tryz.VΓ,Tryz.Γs,Xp,Xi,Nat.reduceAdd,Nat.reduceSub,Nat.reduceLT,Nat.reduceLeDiff,reduceIte,reduceCtorEq,Nat.reduceEqDiff,implies_true,forall_const,lawV,lawA,beq_self_eq_true,bne_self_eq_false,Int.reduceBEq,Int.reduceBNe,Int.reduceLT,Int.reduceLE,h4,h6,h7]
    refine ⟨fun h => ?_,fun _ => hk' _ _ ⟨x,mm,by omega,by omega,hmm,by simp [lk,h4],by simp [lk,h6],by simp [lk,h7]⟩⟩
    have h' : q < mm.length := by simp at h; omega
    exact ⟨by omega,by omega,by omega,by omega,by omega,by omega,by (rw [List.length_take,List.length_drop]; omega),(OkD_fast (by kernel_rfl)),hk' _ _ ⟨x - ((mm.length : Int) - q - 1),mm.take q ++ mm.drop (q + 1),by omega,by omega,by rw [List.length_append,List.length_take,List.length_drop]; omega,by simp [lk,h4],rfl,rfl⟩⟩
  rintro m ⟨t,b⟩ ⟨x,mm,hx0,hx1,hmm,h4,h6,h7⟩
  simp only at h4 h6 h7
  refine vcS_cutS 2200 (fun σ => ∃ mm : Bytes,mm.length ≤ s.length ∧ (mm = [] ∨ ((mm.getD 0 0).toNat : Int) ≠ 48) ∧ lk 4 σ.t = some (.str g) ∧ lk 6 σ.t = some (.int .i64 x) ∧ lk 7 σ.t = some (.str mm)) ?_ (fun k' hk' => ?_)
  rotate_left
  · simp only [lawG,↓Xn,↓Xo,↓Xg,↓Xd,↓Xe,↓Xf,Tryz.VΓ,Tryz.Γs,Xp,Xi,Nat.reduceAdd,Nat.reduceSub,Nat.reduceLT,Nat.reduceLeDiff,reduceIte,reduceCtorEq,Nat.reduceEqDiff,implies_true,forall_const,lawV,lawA,beq_self_eq_true,bne_self_eq_false,Int.reduceBEq,Int.reduceBNe,Int.reduceLT,Int.reduceLE,h4,h6,h7]
    refine loopV_mk (fun σ => ∃ mm : Bytes,mm.length ≤ s.length ∧ lk 4 σ.t = some (.str g) ∧ lk 6 σ.t = some (.int .i64 x) ∧ lk 7 σ.t = some (.str mm)) (fun σ => match lk 7 σ.t with | some (.str l) => l.length | _ => 0) ⟨mm,hmm,h4,h6,h7⟩ ?_
    rintro ⟨t,b⟩ ⟨mm,hmm,h4,h6,h7⟩
    simp only at h4 h6 h7
    simp only [h7]
    by_cases hz : mm.length = 0
    · obtain rfl := List.length_eq_zero_iff.1 hz
      have hz2 : decide ((0 : Int) < ((0 : Nat) : Int)) = false := rfl
      simp only [lawG,↓Xn,↓Xo,↓Xg,↓Xd,↓Xe,↓Xf,Tryz.VΓ,Tryz.Γs,Xp,Xi,Nat.reduceAdd,Nat.reduceSub,Nat.reduceLT,Nat.reduceLeDiff,reduceIte,reduceCtorEq,Nat.reduceEqDiff,implies_true,forall_const,lawV,lawA,beq_self_eq_true,bne_self_eq_false,Int.reduceBEq,Int.reduceBNe,Int.reduceLT,Int.reduceLE,h4,h6,h7,hz2]
      exact hk' _ _ ⟨[],by simp,.inl rfl,by simp [lk,h4],by simp [lk,h6],by simp [lk,h7]⟩
    · have hz2 : decide ((0 : Int) < mm.length) = true := decide_eq_true (by omega)
      simp only [lawG,↓Xn,↓Xo,↓Xg,↓Xd,↓Xe,↓Xf,Tryz.VΓ,Tryz.Γs,Xp,Xi,Nat.reduceAdd,Nat.reduceSub,Nat.reduceLT,Nat.reduceLeDiff,reduceIte,reduceCtorEq,Nat.reduceEqDiff,implies_true,forall_const,lawV,lawA,beq_self_eq_true,bne_self_eq_false,Int.reduceBEq,Int.reduceBNe,Int.reduceLT,Int.reduceLE,h4,h6,h7,hz2]
      refine ⟨by omega,fun h => ⟨by omega,⟨_,by rw [List.length_drop]; omega,rfl⟩,by rw [List.length_drop]; simp; omega⟩,fun h => hk' _ _ ⟨mm,hmm,.inr ?_,by simp [lk,h4],by simp [lk,h6],by simp [lk,h7]⟩⟩
      intro e
      have h2 : (((mm.getD 0 0).toNat : Int) == 48) = false := h
      rw [e] at h2
      simp at h2
  rintro m ⟨t,b⟩ ⟨mm,hmm,hd,h4,h6,h7⟩
  simp only at h4 h6 h7
  refine vcS_cutS 2100 (fun σ => 0 < mm.length ∧ ((mm.getD 0 0).toNat : Int) ≠ 48 ∧ lk 4 σ.t = some (.str g) ∧ lk 6 σ.t = some (.int .i64 x) ∧ lk 7 σ.t = some (.str mm)) ?_ (fun k' hk' => ?_)
  rotate_left
  · by_cases hz : mm.length = 0
    · obtain rfl := List.length_eq_zero_iff.1 hz
      simp only [lawG,↓Xn,↓Xo,↓Xg,↓Xd,↓Xe,↓Xf,Tryz.VΓ,Tryz.Γs,Xp,Xi,Nat.reduceAdd,Nat.reduceSub,Nat.reduceLT,Nat.reduceLeDiff,reduceIte,reduceCtorEq,Nat.reduceEqDiff,implies_true,forall_const,lawV,lawA,beq_self_eq_true,bne_self_eq_false,Int.reduceBEq,Int.reduceBNe,Int.reduceLT,Int.reduceLE,h4,h6,h7]
      exact ⟨rfl,[48],0,rfl,by simp⟩
    · have hz2 : (mm == []) = false := by cases mm <;> simp at hz ⊢
      simp only [lawG,↓Xn,↓Xo,↓Xg,↓Xd,↓Xe,↓Xf,Tryz.VΓ,Tryz.Γs,Xp,Xi,Nat.reduceAdd,Nat.reduceSub,Nat.reduceLT,Nat.reduceLeDiff,reduceIte,reduceCtorEq,Nat.reduceEqDiff,implies_true,forall_const,lawV,lawA,beq_self_eq_true,bne_self_eq_false,Int.reduceBEq,Int.reduceBNe,Int.reduceLT,Int.reduceLE,h4,h6,h7,hz2]
      exact hk' _ _ ⟨by omega,hd.resolve_left (by rintro rfl; simp at hz),by simp [lk,h4],by simp [lk,h6],by simp [lk,h7]⟩
  rintro m ⟨t,b⟩ ⟨hpos,hd,h4,h6,h7⟩
  simp only at h4 h6 h7
  refine vcS_cutS 2000 (fun σ => ∃ (x : Int) (mm : Bytes),-1083741824 ≤ x ∧ x ≤ 1093741824 ∧ mm.length ≤ s.length ∧ lk 4 σ.t = some (.str g) ∧ lk 6 σ.t = some (.int .i64 x) ∧ lk 7 σ.t = some (.str mm)) ?_ (fun k' hk' => ?_)
  rotate_left
  · simp only [lawG,↓Xn,↓Xo,↓Xg,↓Xd,↓Xe,↓Xf,Tryz.VΓ,Tryz.Γs,Xp,Xi,Nat.reduceAdd,Nat.reduceSub,Nat.reduceLT,Nat.reduceLeDiff,reduceIte,reduceCtorEq,Nat.reduceEqDiff,implies_true,forall_const,lawV,lawA,beq_self_eq_true,bne_self_eq_false,Int.reduceBEq,Int.reduceBNe,Int.reduceLT,Int.reduceLE,h4,h6,h7]
    refine loopV_mk (fun σ => ∃ (x : Int) (mm : Bytes),-1083741824 ≤ x ∧ x + mm.length ≤ 1083741824 + s.length ∧ mm.length ≤ s.length ∧ 0 < mm.length ∧ ((mm.getD 0 0).toNat : Int) ≠ 48 ∧ lk 4 σ.t = some (.str g) ∧ lk 6 σ.t = some (.int .i64 x) ∧ lk 7 σ.t = some (.str mm)) (fun σ => match lk 7 σ.t with | some (.str l) => l.length | _ => 0) ⟨x,mm,hx0,by omega,hmm,hpos,hd,h4,h6,h7⟩ ?_
    rintro ⟨t,b⟩ ⟨x,mm,hx0,hx1,hmm,hpos,hd,h4,h6,h7⟩
    simp only at h4 h6 h7
    simp only [h7]
    have e1 : ((mm.length : Int) - 1).toNat = mm.length - 1 := by omega
    simp only [lawG,↓Xn,↓Xo,↓Xg,↓Xd,↓Xe,↓Xf,Tryz.VΓ,Tryz.Γs,Xp,Xi,Nat.reduceAdd,Nat.reduceSub,Nat.reduceLT,Nat.reduceLeDiff,reduceIte,reduceCtorEq,Nat.reduceEqDiff,implies_true,forall_const,lawV,lawA,beq_self_eq_true,bne_self_eq_false,Int.reduceBEq,Int.reduceBNe,Int.reduceLT,Int.reduceLE,h4,h6,h7,e1]
    refine ⟨by omega,by omega,fun h => ?_,fun _ => hk' _ _ ⟨x,mm,hx0,by omega,hmm,by simp [lk,h4],by simp [lk,h6],by simp [lk,h7]⟩⟩
    have h2 : 1 < mm.length := by
      rcases Nat.lt_or_ge 1 mm.length with h1 | h1
      · exact h1
      · have e2 : mm.length - 1 = 0 := by omega
        rw [e2] at h
        exact absurd (by simpa using h) hd
    have hg : (mm.take (mm.length - 1)).getD 0 0 = mm.getD 0 0 := by
      have : 0 < mm.length - 1 := by omega
      rw [List.getD_eq_getElem?_getD,List.getD_eq_getElem?_getD,List.getElem?_take_of_lt this]
    exact ⟨by omega,by omega,by omega,⟨x + 1,mm.take (mm.length - 1),by omega,by rw [List.length_take]; omega,by rw [List.length_take]; omega,by rw [List.length_take]; omega,by rw [hg]; exact hd,rfl,rfl⟩,by rw [List.length_take]; omega⟩
  rintro m ⟨t,b⟩ ⟨x,mm,hx0,hx1,hmm,h4,h6,h7⟩
  simp only at h4 h6 h7
  refine vcS_cutS 1900 (fun σ => lk 4 σ.t = some (.str g) ∧ lk 7 σ.t = some (.str mm)) ?_ (fun k' hk' => ?_)
  rotate_left
  · cases hm40 : decide ((40 : Int) < mm.length)
    rotate_left
    · simp only [lawG,↓Xn,↓Xo,↓Xg,↓Xd,↓Xe,↓Xf,Tryz.VΓ,Tryz.Γs,Xp,Xi,Nat.reduceAdd,Nat.reduceSub,Nat.reduceLT,Nat.reduceLeDiff,reduceIte,reduceCtorEq,Nat.reduceEqDiff,implies_true,forall_const,lawV,lawA,beq_self_eq_true,bne_self_eq_false,Int.reduceBEq,Int.reduceBNe,Int.reduceLT,Int.reduceLE,h4,h6,h7,hm40]
      exact ⟨rfl,[],144,rfl,by simp⟩
    cases hx4 : decide ((400 : Int) < x)
    rotate_left
    · simp only [lawG,↓Xn,↓Xo,↓Xg,↓Xd,↓Xe,↓Xf,Tryz.VΓ,Tryz.Γs,Xp,Xi,Nat.reduceAdd,Nat.reduceSub,Nat.reduceLT,Nat.reduceLeDiff,reduceIte,reduceCtorEq,Nat.reduceEqDiff,implies_true,forall_const,lawV,lawA,beq_self_eq_true,bne_self_eq_false,Int.reduceBEq,Int.reduceBNe,Int.reduceLT,Int.reduceLE,h4,h6,h7,hm40,hx4]
      exact ⟨rfl,[],144,rfl,by simp⟩
    cases hx5 : decide (x < -400)
    rotate_left
    · simp only [lawG,↓Xn,↓Xo,↓Xg,↓Xd,↓Xe,↓Xf,Tryz.VΓ,Tryz.Γs,Xp,Xi,Nat.reduceAdd,Nat.reduceSub,Nat.reduceLT,Nat.reduceLeDiff,reduceIte,reduceCtorEq,Nat.reduceEqDiff,implies_true,forall_const,lawV,lawA,beq_self_eq_true,bne_self_eq_false,Int.reduceBEq,Int.reduceBNe,Int.reduceLT,Int.reduceLE,h4,h6,h7,hm40,hx4,hx5]
      exact ⟨rfl,[],144,rfl,by simp⟩
    have a4 : ¬ (400 : Int) < x := of_decide_eq_false hx4
    have a5 : ¬ x < -400 := of_decide_eq_false hx5
    cases hx6 : decide (x < 0)
    · have a6 : ¬ x < 0 := of_decide_eq_false hx6
      cases hx7 : decide (0 < x)
      · simp only [lawG,↓Xn,↓Xo,↓Xg,↓Xd,↓Xe,↓Xf,Tryz.VΓ,Tryz.Γs,Xp,Xi,Nat.reduceAdd,Nat.reduceSub,Nat.reduceLT,Nat.reduceLeDiff,reduceIte,reduceCtorEq,Nat.reduceEqDiff,implies_true,forall_const,lawV,lawA,beq_self_eq_true,bne_self_eq_false,Int.reduceBEq,Int.reduceBNe,Int.reduceLT,Int.reduceLE,h4,h6,h7,hm40,hx4,hx5,hx6,hx7]
        exact hk' _ _ ⟨by simp [lk,h4],by simp [lk,h7]⟩
      · obtain ⟨n,rfl⟩ : ∃ n : Nat,x = n := ⟨x.toNat,by omega⟩
        have hw : IntKind.u64.wrap (n : Int) = n := w64 n (by omega) (by omega)
        obtain ⟨_,p1,u,rfl,hu⟩ := px_r4_Format n (by omega)
        simp only [lawG,↓Xn,↓Xo,↓Xg,↓Xd,↓Xe,↓Xf,Tryz.VΓ,Tryz.Γs,Xp,Xi,Nat.reduceAdd,Nat.reduceSub,Nat.reduceLT,Nat.reduceLeDiff,reduceIte,reduceCtorEq,Nat.reduceEqDiff,implies_true,forall_const,lawV,lawA,beq_self_eq_true,bne_self_eq_false,Int.reduceBEq,Int.reduceBNe,Int.reduceLT,Int.reduceLE,h4,h6,h7,hm40,hx4,hx5,hx6,hx7,hw]
        refine ⟨by omega,by omega,?_⟩
        (refine callV_pc (p1) ?_; simp only [lawG,↓Xn,↓Xo,↓Xg,↓Xd,↓Xe,↓Xf,Tryz.VΓ,Tryz.Γs,Xp,Xi,Nat.reduceAdd,Nat.reduceSub,Nat.reduceLT,Nat.reduceLeDiff,reduceIte,reduceCtorEq,Nat.reduceEqDiff,implies_true,forall_const,lawV,lawA,beq_self_eq_true,bne_self_eq_false,Int.reduceBEq,Int.reduceBNe,Int.reduceLT,Int.reduceLE,h4,h6,h7])
        exact ⟨by omega,rfl,_,_,rfl,by simp; omega⟩
    · have a6 : x < 0 := of_decide_eq_true hx6
      obtain ⟨n,hn⟩ : ∃ n : Nat,0 - x = n := ⟨(0 - x).toNat,by omega⟩
      have hw : IntKind.u64.wrap (n : Int) = n := w64 n (by omega) (by omega)
      obtain ⟨_,p1,u,rfl,hu⟩ := px_r4_Format n (by omega)
      simp only [lawG,↓Xn,↓Xo,↓Xg,↓Xd,↓Xe,↓Xf,Tryz.VΓ,Tryz.Γs,Xp,Xi,Nat.reduceAdd,Nat.reduceSub,Nat.reduceLT,Nat.reduceLeDiff,reduceIte,reduceCtorEq,Nat.reduceEqDiff,implies_true,forall_const,lawV,lawA,beq_self_eq_true,bne_self_eq_false,Int.reduceBEq,Int.reduceBNe,Int.reduceLT,Int.reduceLE,h4,h6,h7,hm40,hx4,hx5,hx6,hn,hw]
      refine ⟨by omega,by omega,by omega,?_⟩
      (refine callV_pc (p1) ?_; simp only [lawG,↓Xn,↓Xo,↓Xg,↓Xd,↓Xe,↓Xf,Tryz.VΓ,Tryz.Γs,Xp,Xi,Nat.reduceAdd,Nat.reduceSub,Nat.reduceLT,Nat.reduceLeDiff,reduceIte,reduceCtorEq,Nat.reduceEqDiff,implies_true,forall_const,lawV,lawA,beq_self_eq_true,bne_self_eq_false,Int.reduceBEq,Int.reduceBNe,Int.reduceLT,Int.reduceLE,h4,h6,h7])
      exact ⟨by omega,rfl,_,_,rfl,by simp; omega⟩
  rintro m ⟨t,b⟩ ⟨h4,h7⟩
  simp only at h4 h7
  simp only [lawG,↓Xn,↓Xo,↓Xg,↓Xd,↓Xe,↓Xf,Tryz.VΓ,Tryz.Γs,Xp,Xi,Nat.reduceAdd,Nat.reduceSub,Nat.reduceLT,Nat.reduceLeDiff,reduceIte,reduceCtorEq,Nat.reduceEqDiff,implies_true,forall_const,lawV,lawA,beq_self_eq_true,bne_self_eq_false,Int.reduceBEq,Int.reduceBNe,Int.reduceLT,Int.reduceLE,h4,h7]
  exact ⟨by omega,rfl,_,_,rfl,by simp; omega⟩
end Go.Proofs.YtejfjmcjicpodaaGreatDoor
/- ref13: some exact results: escape,text. -/
set_option linter.all false
set_option maxRecDepth 20000
namespace Go.Proofs.YtejfjmcjicpodaaGreatDoor
open Go Vc Go.RowKit Wf
set_option linter.unusedSimpArgs false
def codesB : Bytes := [34,92,47,98,102,110,114,116]
theorem codes_lt : ∀ k,k < 8 → (codesB.getD k 0).toNat < 128 := by decide
def EscF (s : Bytes) (a : Nat) (x : SV) : Prop := ∃ (u : Bytes) (q e : Int),x = .tup [.str u,.int .i64 q,.int .i64 e] ∧ (e = 0 → ∃ q' : Nat,q = q' ∧ a < q' ∧ q' ≤ s.length ∧ u.length + a ≤ q')
theorem EscF.err {s : Bytes} {a : Nat} {q e : Int} (h : e ≠ 0) : EscF s a (.tup [.str [],.int .i64 q,.int .i64 e]) := ⟨_,_,_,rfl,fun h2 => absurd h2 h⟩
set_option maxHeartbeats 8000000 in
theorem px_r13_escape (s : Bytes) (hs : s.length ≤ 2000000) (a : Nat) (ha : a < s.length) : ∃ x,PC Tryz.V 104 [.str s,.int .i64 a] x ∧ EscF s a x := by
  refine px_of 3000 Tryz.func104 rfl Tryz.ntmps104 Tryz.results104 Tryz.call104 (by simp) (by simp [flat,flat.flatL]) ?_
  refine vcS_cutS 2900 (fun σ => lk 0 σ.t = some (.str s) ∧ lk 1 σ.t = some (.int .i64 a) ∧ σ.b = []) ?_ (fun k' hk' => ?_)
  rotate_left
  · simp only [lawG,↓Xn,↓Xo,↓Xg,↓Xd,↓Xe,↓Xf,Tryz.VΓ,Tryz.Γs,Xp,Xi,Nat.reduceAdd,Nat.reduceSub,Nat.reduceLT,Nat.reduceLeDiff,reduceIte,reduceCtorEq,Nat.reduceEqDiff,implies_true,forall_const,lawV,lawA,beq_self_eq_true,bne_self_eq_false,Int.reduceBEq,Int.reduceBNe,Int.reduceLT,Int.reduceLE]
    exact hk' _ _ ⟨rfl,rfl,rfl⟩
  rintro m ⟨t,b⟩ ⟨h0,h1,rfl⟩
  simp only at h0 h1
  refine vcS_cutS 2800 (fun σ => lk 0 σ.t = some (.str s) ∧ lk 1 σ.t = some (.int .i64 a)) ?_ (fun k' hk' => ?_)
  rotate_left
  · by_cases hlt : a + 1 < s.length
    · have hlt2 : decide ((a : Int) + 1 < s.length) = true := decide_eq_true (by omega)
      simp only [lawG,↓Xn,↓Xo,↓Xg,↓Xd,↓Xe,↓Xf,Tryz.VΓ,Tryz.Γs,Xp,Xi,Nat.reduceAdd,Nat.reduceSub,Nat.reduceLT,Nat.reduceLeDiff,reduceIte,reduceCtorEq,Nat.reduceEqDiff,implies_true,forall_const,lawV,lawA,beq_self_eq_true,bne_self_eq_false,Int.reduceBEq,Int.reduceBNe,Int.reduceLT,Int.reduceLE,h0,h1,hlt2]
      refine ⟨by omega,loopV_mk (fun σ => ∃ k : Nat,k ≤ 8 ∧ lk 0 σ.t = some (.str s) ∧ lk 1 σ.t = some (.int .i64 a) ∧ lk 20 σ.t = some (.p 0 0) ∧ σ.b = [.ext (iterR codesB k)]) (fun σ => match itOf σ.b[0]? with | some (_,p) => 8 - p | none => 0) ⟨0,by omega,by simp [lk,h0],by simp [lk,h1],rfl,rfl⟩ ?_⟩
      rintro ⟨t,b⟩ ⟨k,hk,h0,h1,h20,rfl⟩
      simp only at h0 h1 h20
      have hL : codesB.length = 8 := rfl
      by_cases hk8 : k < 8
      · have hk2 : decide (k < 8) = true := decide_eq_true hk8
        have hc := codes_lt k hk8
        simp only [lawG,↓Xn,↓Xo,↓Xg,↓Xd,↓Xe,↓Xf,Tryz.VΓ,Tryz.Γs,Xp,Xi,Nat.reduceAdd,Nat.reduceSub,Nat.reduceLT,Nat.reduceLeDiff,reduceIte,reduceCtorEq,Nat.reduceEqDiff,implies_true,forall_const,lawV,lawA,beq_self_eq_true,bne_self_eq_false,Int.reduceBEq,Int.reduceBNe,Int.reduceLT,Int.reduceLE,h0,h1,h20,hL,hk2]
        exact ⟨hc,by omega,by omega,by omega,(OkD_fast (by kernel_rfl)),fun _ => ⟨by omega,by omega,by omega,rfl,_,_,_,rfl,fun _ => ⟨a + 2,rfl,by omega,by omega,by simp; omega⟩⟩,fun _ => ⟨⟨k + 1,by omega,rfl⟩,by omega⟩⟩
      · have hk2 : decide (k < 8) = false := decide_eq_false hk8
        simp only [lawG,↓Xn,↓Xo,↓Xg,↓Xd,↓Xe,↓Xf,Tryz.VΓ,Tryz.Γs,Xp,Xi,Nat.reduceAdd,Nat.reduceSub,Nat.reduceLT,Nat.reduceLeDiff,reduceIte,reduceCtorEq,Nat.reduceEqDiff,implies_true,forall_const,lawV,lawA,beq_self_eq_true,bne_self_eq_false,Int.reduceBEq,Int.reduceBNe,Int.reduceLT,Int.reduceLE,h0,h1,h20,hL,hk2]
        exact hk' _ _ ⟨by simp [lk,h0],by simp [lk,h1]⟩
    · have hlt2 : decide ((a : Int) + 1 < s.length) = false := decide_eq_false (by omega)
      simp only [lawG,↓Xn,↓Xo,↓Xg,↓Xd,↓Xe,↓Xf,Tryz.VΓ,Tryz.Γs,Xp,Xi,Nat.reduceAdd,Nat.reduceSub,Nat.reduceLT,Nat.reduceLeDiff,reduceIte,reduceCtorEq,Nat.reduceEqDiff,implies_true,forall_const,lawV,lawA,beq_self_eq_true,bne_self_eq_false,Int.reduceBEq,Int.reduceBNe,Int.reduceLT,Int.reduceLE,h0,h1,hlt2]
      exact ⟨by omega,hk' _ _ ⟨by simp [lk,h0],by simp [lk,h1]⟩⟩
  rintro m ⟨t,b⟩ ⟨h0,h1⟩
  simp only at h0 h1
  refine vcS_cutS 2700 (fun σ => ∃ (n : Nat) (ok : Bool),n ≤ 65535 ∧ (ok = true → a + 6 ≤ s.length) ∧ lk 0 σ.t = some (.str s) ∧ lk 1 σ.t = some (.int .i64 a) ∧ lk 8 σ.t = some (.int .i64 n) ∧ lk 9 σ.t = some (.bool ok)) ?_ (fun k' hk' => ?_)
  rotate_left
  · obtain ⟨_,p1,n,ok,rfl,hn,hok⟩ := px_r13_unit s hs a (by omega)
    simp only [lawG,↓Xn,↓Xo,↓Xg,↓Xd,↓Xe,↓Xf,Tryz.VΓ,Tryz.Γs,Xp,Xi,Nat.reduceAdd,Nat.reduceSub,Nat.reduceLT,Nat.reduceLeDiff,reduceIte,reduceCtorEq,Nat.reduceEqDiff,implies_true,forall_const,lawV,lawA,beq_self_eq_true,bne_self_eq_false,Int.reduceBEq,Int.reduceBNe,Int.reduceLT,Int.reduceLE,h0,h1]
    (refine callV_pc (p1) ?_; simp only [lawG,↓Xn,↓Xo,↓Xg,↓Xd,↓Xe,↓Xf,Tryz.VΓ,Tryz.Γs,Xp,Xi,Nat.reduceAdd,Nat.reduceSub,Nat.reduceLT,Nat.reduceLeDiff,reduceIte,reduceCtorEq,Nat.reduceEqDiff,implies_true,forall_const,lawV,lawA,beq_self_eq_true,bne_self_eq_false,Int.reduceBEq,Int.reduceBNe,Int.reduceLT,Int.reduceLE,h0,h1])
    exact hk' _ _ ⟨n,ok,hn,hok,by simp [lk,h0],by simp [lk,h1],rfl,rfl⟩
  rintro m ⟨t,b⟩ ⟨n,ok,hn,hok,h0,h1,h8,h9⟩
  simp only at h0 h1 h8 h9
  cases hb : ok
  · subst hb
    simp only [lawG,↓Xn,↓Xo,↓Xg,↓Xd,↓Xe,↓Xf,Tryz.VΓ,Tryz.Γs,Xp,Xi,Nat.reduceAdd,Nat.reduceSub,Nat.reduceLT,Nat.reduceLeDiff,reduceIte,reduceCtorEq,Nat.reduceEqDiff,implies_true,forall_const,lawV,lawA,beq_self_eq_true,bne_self_eq_false,Int.reduceBEq,Int.reduceBNe,Int.reduceLT,Int.reduceLE,h0,h1,h8,h9]
    exact ⟨rfl,EscF.err (by decide)⟩
  have h6 := hok hb
  subst hb
  refine vcS_cutS 2600 (fun σ => lk 0 σ.t = some (.str s) ∧ lk 1 σ.t = some (.int .i64 a) ∧ lk 8 σ.t = some (.int .i64 n)) ?_ (fun k' hk' => ?_)
  rotate_left
  · simp only [lawG,↓Xn,↓Xo,↓Xg,↓Xd,↓Xe,↓Xf,Tryz.VΓ,Tryz.Γs,Xp,Xi,Nat.reduceAdd,Nat.reduceSub,Nat.reduceLT,Nat.reduceLeDiff,reduceIte,reduceCtorEq,Nat.reduceEqDiff,implies_true,forall_const,lawV,lawA,beq_self_eq_true,bne_self_eq_false,Int.reduceBEq,Int.reduceBNe,Int.reduceLT,Int.reduceLE,h0,h1,h8,h9]
    exact hk' _ _ ⟨by simp [lk,h0],by simp [lk,h1],by simp [lk,h8]⟩
  rintro m ⟨t,b⟩ ⟨h0,h1,h8⟩
  simp only at h0 h1 h8
  refine vcS_cutS 2500 (fun σ => lk 0 σ.t = some (.str s) ∧ lk 1 σ.t = some (.int .i64 a) ∧ lk 8 σ.t = some (.int .i64 n)) ?_ (fun k' hk' => ?_)
  rotate_left
  · obtain ⟨_,p1,u,e,rfl,hu⟩ := px_r2_Encode n
    cases hn1 : decide ((n : Int) < 55296)
    · cases hn2 : decide ((57343 : Int) < n)
      · simp only [lawG,↓Xn,↓Xo,↓Xg,↓Xd,↓Xe,↓Xf,Tryz.VΓ,Tryz.Γs,Xp,Xi,Nat.reduceAdd,Nat.reduceSub,Nat.reduceLT,Nat.reduceLeDiff,reduceIte,reduceCtorEq,Nat.reduceEqDiff,implies_true,forall_const,lawV,lawA,beq_self_eq_true,bne_self_eq_false,Int.reduceBEq,Int.reduceBNe,Int.reduceLT,Int.reduceLE,h0,h1,h8,hn1,hn2]
        exact hk' _ _ ⟨by simp [lk,h0],by simp [lk,h1],by simp [lk,h8]⟩
      · simp only [lawG,↓Xn,↓Xo,↓Xg,↓Xd,↓Xe,↓Xf,Tryz.VΓ,Tryz.Γs,Xp,Xi,Nat.reduceAdd,Nat.reduceSub,Nat.reduceLT,Nat.reduceLeDiff,reduceIte,reduceCtorEq,Nat.reduceEqDiff,implies_true,forall_const,lawV,lawA,beq_self_eq_true,bne_self_eq_false,Int.reduceBEq,Int.reduceBNe,Int.reduceLT,Int.reduceLE,h0,h1,h8,hn1,hn2]
        (refine callV_pc (p1) ?_; simp only [lawG,↓Xn,↓Xo,↓Xg,↓Xd,↓Xe,↓Xf,Tryz.VΓ,Tryz.Γs,Xp,Xi,Nat.reduceAdd,Nat.reduceSub,Nat.reduceLT,Nat.reduceLeDiff,reduceIte,reduceCtorEq,Nat.reduceEqDiff,implies_true,forall_const,lawV,lawA,beq_self_eq_true,bne_self_eq_false,Int.reduceBEq,Int.reduceBNe,Int.reduceLT,Int.reduceLE,h0,h1,h8])
        exact ⟨by omega,rfl,_,_,_,rfl,fun _ => ⟨a + 6,rfl,by omega,h6,by omega⟩⟩
    · simp only [lawG,↓Xn,↓Xo,↓Xg,↓Xd,↓Xe,↓Xf,Tryz.VΓ,Tryz.Γs,Xp,Xi,Nat.reduceAdd,Nat.reduceSub,Nat.reduceLT,Nat.reduceLeDiff,reduceIte,reduceCtorEq,Nat.reduceEqDiff,implies_true,forall_const,lawV,lawA,beq_self_eq_true,bne_self_eq_false,Int.reduceBEq,Int.reduceBNe,Int.reduceLT,Int.reduceLE,h0,h1,h8,hn1]
      (refine callV_pc (p1) ?_; simp only [lawG,↓Xn,↓Xo,↓Xg,↓Xd,↓Xe,↓Xf,Tryz.VΓ,Tryz.Γs,Xp,Xi,Nat.reduceAdd,Nat.reduceSub,Nat.reduceLT,Nat.reduceLeDiff,reduceIte,reduceCtorEq,Nat.reduceEqDiff,implies_true,forall_const,lawV,lawA,beq_self_eq_true,bne_self_eq_false,Int.reduceBEq,Int.reduceBNe,Int.reduceLT,Int.reduceLE,h0,h1,h8])
      exact ⟨by omega,rfl,_,_,_,rfl,fun _ => ⟨a + 6,rfl,by omega,h6,by omega⟩⟩
  rintro m ⟨t,b⟩ ⟨h0,h1,h8⟩
  simp only at h0 h1 h8
  refine vcS_cutS 2400 (fun σ => ∃ (m : Nat) (ok : Bool),m ≤ 65535 ∧ (ok = true → a + 6 + 6 ≤ s.length) ∧ lk 1 σ.t = some (.int .i64 a) ∧ lk 8 σ.t = some (.int .i64 n) ∧ lk 12 σ.t = some (.int .i64 m) ∧ lk 9 σ.t = some (.bool ok)) ?_ (fun k' hk' => ?_)
  rotate_left
  · obtain ⟨_,p1,m,ok,rfl,hm,hok⟩ := px_r13_unit s hs (a + 6) (by omega)
    simp only [lawG,↓Xn,↓Xo,↓Xg,↓Xd,↓Xe,↓Xf,Tryz.VΓ,Tryz.Γs,Xp,Xi,Nat.reduceAdd,Nat.reduceSub,Nat.reduceLT,Nat.reduceLeDiff,reduceIte,reduceCtorEq,Nat.reduceEqDiff,implies_true,forall_const,lawV,lawA,beq_self_eq_true,bne_self_eq_false,Int.reduceBEq,Int.reduceBNe,Int.reduceLT,Int.reduceLE,h0,h1,h8]
    refine ⟨by omega,?_⟩
    (refine callV_pc (p1) ?_; simp only [lawG,↓Xn,↓Xo,↓Xg,↓Xd,↓Xe,↓Xf,Tryz.VΓ,Tryz.Γs,Xp,Xi,Nat.reduceAdd,Nat.reduceSub,Nat.reduceLT,Nat.reduceLeDiff,reduceIte,reduceCtorEq,Nat.reduceEqDiff,implies_true,forall_const,lawV,lawA,beq_self_eq_true,bne_self_eq_false,Int.reduceBEq,Int.reduceBNe,Int.reduceLT,Int.reduceLE,h0,h1,h8])
    exact hk' _ _ ⟨m,ok,hm,hok,by simp [lk,h1],by simp [lk,h8],rfl,rfl⟩
  rintro m ⟨t,b⟩ ⟨m',ok,hm,hok,h1,h8,h12,h9⟩
  simp only at h1 h8 h12 h9
  cases hb : ok
  · subst hb
    cases hn3 : decide ((56319 : Int) < n)
    · simp only [lawG,↓Xn,↓Xo,↓Xg,↓Xd,↓Xe,↓Xf,Tryz.VΓ,Tryz.Γs,Xp,Xi,Nat.reduceAdd,Nat.reduceSub,Nat.reduceLT,Nat.reduceLeDiff,reduceIte,reduceCtorEq,Nat.reduceEqDiff,implies_true,forall_const,lawV,lawA,beq_self_eq_true,bne_self_eq_false,Int.reduceBEq,Int.reduceBNe,Int.reduceLT,Int.reduceLE,h1,h8,h12,h9,hn3]
      exact ⟨rfl,EscF.err (by decide)⟩
    · simp only [lawG,↓Xn,↓Xo,↓Xg,↓Xd,↓Xe,↓Xf,Tryz.VΓ,Tryz.Γs,Xp,Xi,Nat.reduceAdd,Nat.reduceSub,Nat.reduceLT,Nat.reduceLeDiff,reduceIte,reduceCtorEq,Nat.reduceEqDiff,implies_true,forall_const,lawV,lawA,beq_self_eq_true,bne_self_eq_false,Int.reduceBEq,Int.reduceBNe,Int.reduceLT,Int.reduceLE,h1,h8,h12,h9,hn3]
      exact ⟨rfl,EscF.err (by decide)⟩
  have h12' := hok hb
  subst hb
  refine vcS_cutS 2300 (fun σ => lk 1 σ.t = some (.int .i64 a) ∧ lk 8 σ.t = some (.int .i64 n) ∧ lk 12 σ.t = some (.int .i64 m')) ?_ (fun k' hk' => ?_)
  rotate_left
  · simp only [lawG,↓Xn,↓Xo,↓Xg,↓Xd,↓Xe,↓Xf,Tryz.VΓ,Tryz.Γs,Xp,Xi,Nat.reduceAdd,Nat.reduceSub,Nat.reduceLT,Nat.reduceLeDiff,reduceIte,reduceCtorEq,Nat.reduceEqDiff,implies_true,forall_const,lawV,lawA,beq_self_eq_true,bne_self_eq_false,Int.reduceBEq,Int.reduceBNe,Int.reduceLT,Int.reduceLE,h1,h8,h12,h9]
    have hr : EscF s a (.tup [.str [],.int .i64 0,.int .i64 7]) := EscF.err (by decide)
    exact ⟨fun _ => ⟨fun _ => ⟨fun _ => ⟨rfl,hr⟩,fun _ => hk' _ _ ⟨by simp [lk,h1],by simp [lk,h8],by simp [lk,h12]⟩⟩,fun _ => ⟨rfl,hr⟩⟩,fun _ => ⟨rfl,hr⟩⟩
  rintro m ⟨t,b⟩ ⟨h1,h8,h12⟩
  simp only at h1 h8 h12
  obtain ⟨_,p1,u,e,rfl,hu⟩ := px_r2_Encode (65536 + ((n : Int) - 55296) * 1024 + m' - 56320)
  simp only [lawG,↓Xn,↓Xo,↓Xg,↓Xd,↓Xe,↓Xf,Tryz.VΓ,Tryz.Γs,Xp,Xi,Nat.reduceAdd,Nat.reduceSub,Nat.reduceLT,Nat.reduceLeDiff,reduceIte,reduceCtorEq,Nat.reduceEqDiff,implies_true,forall_const,lawV,lawA,beq_self_eq_true,bne_self_eq_false,Int.reduceBEq,Int.reduceBNe,Int.reduceLT,Int.reduceLE,h1,h8,h12]
  refine ⟨by omega,by omega,by omega,by omega,by omega,?_⟩
  (refine callV_pc (p1) ?_; simp only [lawG,↓Xn,↓Xo,↓Xg,↓Xd,↓Xe,↓Xf,Tryz.VΓ,Tryz.Γs,Xp,Xi,Nat.reduceAdd,Nat.reduceSub,Nat.reduceLT,Nat.reduceLeDiff,reduceIte,reduceCtorEq,Nat.reduceEqDiff,implies_true,forall_const,lawV,lawA,beq_self_eq_true,bne_self_eq_false,Int.reduceBEq,Int.reduceBNe,Int.reduceLT,Int.reduceLE,h1,h8,h12])
  exact ⟨by omega,rfl,_,_,_,rfl,fun _ => ⟨a + 12,rfl,by omega,by omega,by omega⟩⟩
def TxtF (s : Bytes) (a : Nat) (x : SV) : Prop := ∃ (u : Bytes) (q e : Int),x = .tup [.str u,.int .i64 q,.int .i64 e] ∧ (e = 0 → ∃ q' : Nat,q = q' ∧ a < q' ∧ q' ≤ s.length ∧ u.length ≤ s.length)
set_option maxHeartbeats 8000000 in
theorem px_r13_text (s : Bytes) (hs : s.length ≤ 2000000) (a : Nat) (ha : a < s.length) : ∃ x,PC Tryz.V 86 [.str s,.int .i64 a] x ∧ TxtF s a x := by
  refine px_of 3000 Tryz.func86 rfl Tryz.ntmps86 Tryz.results86 Tryz.call86 (by simp) (by simp [flat,flat.flatL]) ?_
  simp only [lawG,↓Xn,↓Xo,↓Xg,↓Xd,↓Xe,↓Xf,Tryz.VΓ,Tryz.Γs,Xp,Xi,Nat.reduceAdd,Nat.reduceSub,Nat.reduceLT,Nat.reduceLeDiff,reduceIte,reduceCtorEq,Nat.reduceEqDiff,implies_true,forall_const,lawV,lawA,beq_self_eq_true,bne_self_eq_false,Int.reduceBEq,Int.reduceBNe,Int.reduceLT,Int.reduceLE]
  refine ⟨by omega,loopV_mk (fun σ => ∃ (i : Nat) (u : Bytes),a < i ∧ i ≤ s.length ∧ u.length + a + 1 ≤ i ∧ lk 0 σ.t = some (.str s) ∧ lk 7 σ.t = some (.str u) ∧ lk 8 σ.t = some (.int .i64 i)) (fun σ => s.length - lkI 8 σ) ⟨a + 1,[],by omega,by omega,by simp,rfl,rfl,rfl⟩ ?_⟩
  rintro ⟨t,b⟩ ⟨i,u,hai,hi,hu,h0,h7,h8⟩
  simp only at h0 h7 h8
  rw [lkI_eq h8]
  by_cases hlt : i < s.length
  · have hlt2 : decide ((i : Int) < s.length) = true := decide_eq_true (by omega)
    cases c1 : ((s.getD i 0).toNat : Int) == 34
    rotate_left
    · simp only [lawG,↓Xn,↓Xo,↓Xg,↓Xd,↓Xe,↓Xf,Tryz.VΓ,Tryz.Γs,Xp,Xi,Nat.reduceAdd,Nat.reduceSub,Nat.reduceLT,Nat.reduceLeDiff,reduceIte,reduceCtorEq,Nat.reduceEqDiff,implies_true,forall_const,lawV,lawA,beq_self_eq_true,bne_self_eq_false,Int.reduceBEq,Int.reduceBNe,Int.reduceLT,Int.reduceLE,h0,h7,h8,hlt2,c1]
      exact ⟨by omega,by omega,rfl,_,_,_,rfl,fun _ => ⟨i + 1,rfl,by omega,by omega,by omega⟩⟩
    cases c2 : ((s.getD i 0).toNat : Int) == 92
    rotate_left
    · obtain ⟨_,p1,v,q,e,rfl,he⟩ := px_r13_escape s hs i hlt
      simp only [lawG,↓Xn,↓Xo,↓Xg,↓Xd,↓Xe,↓Xf,Tryz.VΓ,Tryz.Γs,Xp,Xi,Nat.reduceAdd,Nat.reduceSub,Nat.reduceLT,Nat.reduceLeDiff,reduceIte,reduceCtorEq,Nat.reduceEqDiff,implies_true,forall_const,lawV,lawA,beq_self_eq_true,bne_self_eq_false,Int.reduceBEq,Int.reduceBNe,Int.reduceLT,Int.reduceLE,h0,h7,h8,hlt2,c1,c2]
      refine ⟨by omega,by omega,?_⟩
      refine callV_pc p1 ?_
      cases c3 : e != 0
      · obtain ⟨q',rfl,k1,k2,k3⟩ := he (by simpa using c3)
        simp only [lawG,↓Xn,↓Xo,↓Xg,↓Xd,↓Xe,↓Xf,Tryz.VΓ,Tryz.Γs,Xp,Xi,Nat.reduceAdd,Nat.reduceSub,Nat.reduceLT,Nat.reduceLeDiff,reduceIte,reduceCtorEq,Nat.reduceEqDiff,implies_true,forall_const,lawV,lawA,beq_self_eq_true,bne_self_eq_false,Int.reduceBEq,Int.reduceBNe,Int.reduceLT,Int.reduceLE,h0,h7,h8,c3]
        refine ⟨by omega,⟨q',u ++ v,by omega,k2,by simp; omega,rfl,rfl⟩,?_⟩
        rw [lkI_eq (k := .i64) (n := (q' : Int)) rfl]; omega
      · simp only [lawG,↓Xn,↓Xo,↓Xg,↓Xd,↓Xe,↓Xf,Tryz.VΓ,Tryz.Γs,Xp,Xi,Nat.reduceAdd,Nat.reduceSub,Nat.reduceLT,Nat.reduceLeDiff,reduceIte,reduceCtorEq,Nat.reduceEqDiff,implies_true,forall_const,lawV,lawA,beq_self_eq_true,bne_self_eq_false,Int.reduceBEq,Int.reduceBNe,Int.reduceLT,Int.reduceLE,h0,h7,h8,c3]
        exact ⟨rfl,[],0,e,rfl,fun h => by rw [h] at c3; simp at c3⟩
    cases c3 : decide (((s.getD i 0).toNat : Int) < 32)
    rotate_left
    · simp only [lawG,↓Xn,↓Xo,↓Xg,↓Xd,↓Xe,↓Xf,Tryz.VΓ,Tryz.Γs,Xp,Xi,Nat.reduceAdd,Nat.reduceSub,Nat.reduceLT,Nat.reduceLeDiff,reduceIte,reduceCtorEq,Nat.reduceEqDiff,implies_true,forall_const,lawV,lawA,beq_self_eq_true,bne_self_eq_false,Int.reduceBEq,Int.reduceBNe,Int.reduceLT,Int.reduceLE,h0,h7,h8,hlt2,c1,c2,c3]
      exact ⟨by omega,by omega,by omega,rfl,_,_,_,rfl,fun h => by simp at h⟩
    obtain ⟨_,p1,r,q,e,rfl,he⟩ := px_r2_Decode s hs i
    simp only [lawG,↓Xn,↓Xo,↓Xg,↓Xd,↓Xe,↓Xf,Tryz.VΓ,Tryz.Γs,Xp,Xi,Nat.reduceAdd,Nat.reduceSub,Nat.reduceLT,Nat.reduceLeDiff,reduceIte,reduceCtorEq,Nat.reduceEqDiff,implies_true,forall_const,lawV,lawA,beq_self_eq_true,bne_self_eq_false,Int.reduceBEq,Int.reduceBNe,Int.reduceLT,Int.reduceLE,h0,h7,h8,hlt2,c1,c2,c3]
    refine ⟨by omega,by omega,by omega,?_⟩
    refine callV_pc p1 ?_
    cases c4 : e != 0
    · obtain ⟨k1,k2⟩ := he (by simpa using c4)
      obtain ⟨q',rfl⟩ : ∃ q' : Nat,q = q' := ⟨q.toNat,by omega⟩
      simp only [lawG,↓Xn,↓Xo,↓Xg,↓Xd,↓Xe,↓Xf,Tryz.VΓ,Tryz.Γs,Xp,Xi,Nat.reduceAdd,Nat.reduceSub,Nat.reduceLT,Nat.reduceLeDiff,reduceIte,reduceCtorEq,Nat.reduceEqDiff,implies_true,forall_const,lawV,lawA,beq_self_eq_true,bne_self_eq_false,Int.reduceBEq,Int.reduceBNe,Int.reduceLT,Int.reduceLE,h0,h7,h8,c4]
      have hl : ((s.take q').drop i).length = q' - i := by rw [List.length_drop,List.length_take]; omega
      refine ⟨by omega,by omega,⟨q',u ++ (s.take q').drop i,by omega,by omega,by rw [List.length_append]; omega,rfl,rfl⟩,?_⟩
      rw [lkI_eq (k := .i64) (n := (q' : Int)) rfl]; omega
    · simp only [lawG,↓Xn,↓Xo,↓Xg,↓Xd,↓Xe,↓Xf,Tryz.VΓ,Tryz.Γs,Xp,Xi,Nat.reduceAdd,Nat.reduceSub,Nat.reduceLT,Nat.reduceLeDiff,reduceIte,reduceCtorEq,Nat.reduceEqDiff,implies_true,forall_const,lawV,lawA,beq_self_eq_true,bne_self_eq_false,Int.reduceBEq,Int.reduceBNe,Int.reduceLT,Int.reduceLE,h0,h7,h8,c4]
      exact ⟨rfl,[],0,e,rfl,fun h => by rw [h] at c4; simp at c4⟩
  · have hlt2 : decide ((i : Int) < s.length) = false := decide_eq_false (by omega)
    simp only [lawG,↓Xn,↓Xo,↓Xg,↓Xd,↓Xe,↓Xf,Tryz.VΓ,Tryz.Γs,Xp,Xi,Nat.reduceAdd,Nat.reduceSub,Nat.reduceLT,Nat.reduceLeDiff,reduceIte,reduceCtorEq,Nat.reduceEqDiff,implies_true,forall_const,lawV,lawA,beq_self_eq_true,bne_self_eq_false,Int.reduceBEq,Int.reduceBNe,Int.reduceLT,Int.reduceLE,h0,h7,h8,hlt2]
    exact ⟨rfl,_,_,_,rfl,fun h => by simp at h⟩
end Go.Proofs.YtejfjmcjicpodaaGreatDoor
/- ref13: some exact result of Next. -/
set_option linter.all false
set_option maxRecDepth 20000
namespace Go.Proofs.YtejfjmcjicpodaaGreatDoor
open Go Vc Go.RowKit Wf
set_option linter.unusedSimpArgs false
def NexF (s : Bytes) (a : Nat) (x : SV) : Prop := ∃ (k : Int) (u : Bytes) (p q e : Int),x = .tup [.agg [.int .i64 k,.str u,.int .i64 p],.int .i64 q,.int .i64 e] ∧ (e = 0 → ∃ q' : Nat,q = q' ∧ a ≤ q' ∧ q' ≤ s.length ∧ u.length ≤ s.length ∧ (k = 1 ∨ a < q'))
theorem NexF.err {s : Bytes} {a : Nat} {q e : Int} (h : e ≠ 0) : NexF s a (.tup [.agg [.int .i64 0,.str [],.int .i64 0],.int .i64 q,.int .i64 e]) := ⟨_,_,_,_,_,rfl,fun h2 => absurd h2 h⟩
theorem NexF.ok {s : Bytes} {a : Nat} {k p : Int} {u : Bytes} {q : Nat} (h1 : a ≤ q) (h2 : q ≤ s.length) (h3 : u.length ≤ s.length) (h4 : k = 1 ∨ a < q) : NexF s a (.tup [.agg [.int .i64 k,.str u,.int .i64 p],.int .i64 q,.int .i64 0]) := ⟨_,_,_,_,_,rfl,fun _ => ⟨q,rfl,h1,h2,h3,h4⟩⟩
def ZT : Res := .cells [.int .i64 0,.str [],.int .i64 0] 56 true
theorem sl_len {s : Bytes} {p q : Nat} (h : p ≤ q) (hq : q ≤ s.length) : ((s.take q).drop p).length = q - p := by rw [List.length_drop,List.length_take]; omega
set_option maxHeartbeats 8000000 in
theorem px_r13_Next (s : Bytes) (hs : s.length ≤ 2000000) (a : Nat) (ha : a ≤ s.length) : ∃ x,PC Tryz.V 59 [.str s,.int .i64 a] x ∧ NexF s a x := by
  refine px_of 3000 Tryz.func59 rfl Tryz.ntmps59 Tryz.results59 Tryz.call59 (by simp) (by simp [flat,flat.flatL]) ?_
  refine vcS_cutS 2900 (fun σ => lk 0 σ.t = some (.str s) ∧ lk 1 σ.t = some (.int .i64 a) ∧ lk 4 σ.t = some (.p 0 0) ∧ σ.b = [ZT]) ?_ (fun k' hk' => ?_)
  rotate_left
  · simp only [lawG,↓Xn,↓Xo,↓Xg,↓Xd,↓Xe,↓Xf,Tryz.VΓ,Tryz.Γs,Xp,Xi,Nat.reduceAdd,Nat.reduceSub,Nat.reduceLT,Nat.reduceLeDiff,reduceIte,reduceCtorEq,Nat.reduceEqDiff,implies_true,forall_const,lawV,lawA,beq_self_eq_true,bne_self_eq_false,Int.reduceBEq,Int.reduceBNe,Int.reduceLT,Int.reduceLE]
    exact hk' _ _ ⟨rfl,rfl,rfl,rfl⟩
  rintro m ⟨t,b⟩ ⟨h0,h1,h4,rfl⟩
  simp only at h0 h1 h4
  refine vcS_cutS 2800 (fun σ => lk 0 σ.t = some (.str s) ∧ lk 1 σ.t = some (.int .i64 a) ∧ lk 4 σ.t = some (.p 0 0) ∧ σ.b = [ZT]) ?_ (fun k' hk' => ?_)
  rotate_left
  · have e0 : decide ((a : Int) < 0) = false := decide_eq_false (by omega)
    have e1 : decide ((s.length : Int) < a) = false := decide_eq_false (by omega)
    simp only [lawG,↓Xn,↓Xo,↓Xg,↓Xd,↓Xe,↓Xf,Tryz.VΓ,Tryz.Γs,Xp,Xi,Nat.reduceAdd,Nat.reduceSub,Nat.reduceLT,Nat.reduceLeDiff,reduceIte,reduceCtorEq,Nat.reduceEqDiff,implies_true,forall_const,lawV,lawA,beq_self_eq_true,bne_self_eq_false,Int.reduceBEq,Int.reduceBNe,Int.reduceLT,Int.reduceLE,h0,h1,h4,e0,e1]
    exact hk' _ _ ⟨by simp [lk,h0],by simp [lk,h1],by simp [lk,h4],rfl⟩
  rintro m ⟨t,b⟩ ⟨h0,h1,h4,rfl⟩
  simp only at h0 h1 h4
  refine vcS_cutS 2700 (fun σ => ∃ p : Nat,a ≤ p ∧ p ≤ s.length ∧ lk 0 σ.t = some (.str s) ∧ lk 1 σ.t = some (.int .i64 p) ∧ lk 4 σ.t = some (.p 0 0) ∧ σ.b = [ZT]) ?_ (fun k' hk' => ?_)
  rotate_left
  · simp only [lawG,↓Xn,↓Xo,↓Xg,↓Xd,↓Xe,↓Xf,Tryz.VΓ,Tryz.Γs,Xp,Xi,Nat.reduceAdd,Nat.reduceSub,Nat.reduceLT,Nat.reduceLeDiff,reduceIte,reduceCtorEq,Nat.reduceEqDiff,implies_true,forall_const,lawV,lawA,beq_self_eq_true,bne_self_eq_false,Int.reduceBEq,Int.reduceBNe,Int.reduceLT,Int.reduceLE,h0,h1,h4]
    refine loopV_mk (fun σ => ∃ p : Nat,a ≤ p ∧ p ≤ s.length ∧ lk 0 σ.t = some (.str s) ∧ lk 1 σ.t = some (.int .i64 p) ∧ lk 4 σ.t = some (.p 0 0) ∧ σ.b = [ZT]) (fun σ => s.length - lkI 1 σ) ⟨a,by omega,ha,h0,h1,h4,rfl⟩ ?_
    rintro ⟨t,b⟩ ⟨p,hap,hp,h0,h1,h4,rfl⟩
    simp only at h0 h1 h4
    rw [lkI_eq h1]
    by_cases hlt : p < s.length
    · have hlt2 : decide ((p : Int) < s.length) = true := decide_eq_true (by omega)
      have p1 := p_r13_white (s.getD p 0)
      simp only [lawG,↓Xn,↓Xo,↓Xg,↓Xd,↓Xe,↓Xf,Tryz.VΓ,Tryz.Γs,Xp,Xi,Nat.reduceAdd,Nat.reduceSub,Nat.reduceLT,Nat.reduceLeDiff,reduceIte,reduceCtorEq,Nat.reduceEqDiff,implies_true,forall_const,lawV,lawA,beq_self_eq_true,bne_self_eq_false,Int.reduceBEq,Int.reduceBNe,Int.reduceLT,Int.reduceLE,h0,h1,h4,hlt2]
      refine ⟨by omega,callV_pc p1 ?_⟩
      cases hc : ([32,9,10,13] : Bytes).contains (s.getD p 0)
      · simp only [lawG,↓Xn,↓Xo,↓Xg,↓Xd,↓Xe,↓Xf,Tryz.VΓ,Tryz.Γs,Xp,Xi,Nat.reduceAdd,Nat.reduceSub,Nat.reduceLT,Nat.reduceLeDiff,reduceIte,reduceCtorEq,Nat.reduceEqDiff,implies_true,forall_const,lawV,lawA,beq_self_eq_true,bne_self_eq_false,Int.reduceBEq,Int.reduceBNe,Int.reduceLT,Int.reduceLE,h0,h1,h4]
        exact hk' _ _ ⟨p,hap,hp,by simp [lk,h0],by simp [lk,h1],by simp [lk,h4],rfl⟩
      · simp only [lawG,↓Xn,↓Xo,↓Xg,↓Xd,↓Xe,↓Xf,Tryz.VΓ,Tryz.Γs,Xp,Xi,Nat.reduceAdd,Nat.reduceSub,Nat.reduceLT,Nat.reduceLeDiff,reduceIte,reduceCtorEq,Nat.reduceEqDiff,implies_true,forall_const,lawV,lawA,beq_self_eq_true,bne_self_eq_false,Int.reduceBEq,Int.reduceBNe,Int.reduceLT,Int.reduceLE,h0,h1,h4]
        refine ⟨by omega,⟨p + 1,by omega,by omega,rfl⟩,?_⟩
        rw [lkI_eq (k := .i64) (n := (p : Int) + 1) rfl]; omega
    · have hlt2 : decide ((p : Int) < s.length) = false := decide_eq_false (by omega)
      simp only [lawG,↓Xn,↓Xo,↓Xg,↓Xd,↓Xe,↓Xf,Tryz.VΓ,Tryz.Γs,Xp,Xi,Nat.reduceAdd,Nat.reduceSub,Nat.reduceLT,Nat.reduceLeDiff,reduceIte,reduceCtorEq,Nat.reduceEqDiff,implies_true,forall_const,lawV,lawA,beq_self_eq_true,bne_self_eq_false,Int.reduceBEq,Int.reduceBNe,Int.reduceLT,Int.reduceLE,h0,h1,h4,hlt2]
      exact hk' _ _ ⟨p,hap,hp,by simp [lk,h0],by simp [lk,h1],by simp [lk,h4],rfl⟩
  rintro m ⟨t,b⟩ ⟨p,hap,hp,h0,h1,h4,rfl⟩
  simp only at h0 h1 h4
  refine vcS_cutS 2600 (fun σ => p < s.length ∧ lk 0 σ.t = some (.str s) ∧ lk 1 σ.t = some (.int .i64 p) ∧ lk 4 σ.t = some (.p 0 0) ∧ σ.b = [ZT]) ?_ (fun k' hk' => ?_)
  rotate_left
  · cases he : ((p : Int) == s.length)
    · simp only [lawG,↓Xn,↓Xo,↓Xg,↓Xd,↓Xe,↓Xf,Tryz.VΓ,Tryz.Γs,Xp,Xi,Nat.reduceAdd,Nat.reduceSub,Nat.reduceLT,Nat.reduceLeDiff,reduceIte,reduceCtorEq,Nat.reduceEqDiff,implies_true,forall_const,lawV,lawA,beq_self_eq_true,bne_self_eq_false,Int.reduceBEq,Int.reduceBNe,Int.reduceLT,Int.reduceLE,h0,h1,h4,he]
      exact hk' _ _ ⟨by simp at he; omega,by simp [lk,h0],by simp [lk,h1],by simp [lk,h4],rfl⟩
    · simp only [lawG,↓Xn,↓Xo,↓Xg,↓Xd,↓Xe,↓Xf,Tryz.VΓ,Tryz.Γs,Xp,Xi,Nat.reduceAdd,Nat.reduceSub,Nat.reduceLT,Nat.reduceLeDiff,reduceIte,reduceCtorEq,Nat.reduceEqDiff,implies_true,forall_const,lawV,lawA,beq_self_eq_true,bne_self_eq_false,Int.reduceBEq,Int.reduceBNe,Int.reduceLT,Int.reduceLE,h0,h1,h4,he,ZT]
      exact ⟨rfl,NexF.ok hap hp (by simp) (.inl rfl)⟩
  rintro m ⟨t,b⟩ ⟨hlt,h0,h1,h4,rfl⟩
  simp only at h0 h1 h4
  refine vcS_cutS 2500 (fun σ => lk 0 σ.t = some (.str s) ∧ lk 1 σ.t = some (.int .i64 p) ∧ lk 4 σ.t = some (.p 0 0) ∧ σ.b = [ZT]) ?_ (fun k' hk' => ?_)
  rotate_left
  · have p1 := p_r1_In (s.getD p 0) [123,125,91,93,58,44] (by simp)
    simp only [lawG,↓Xn,↓Xo,↓Xg,↓Xd,↓Xe,↓Xf,Tryz.VΓ,Tryz.Γs,Xp,Xi,Nat.reduceAdd,Nat.reduceSub,Nat.reduceLT,Nat.reduceLeDiff,reduceIte,reduceCtorEq,Nat.reduceEqDiff,implies_true,forall_const,lawV,lawA,beq_self_eq_true,bne_self_eq_false,Int.reduceBEq,Int.reduceBNe,Int.reduceLT,Int.reduceLE,h0,h1,h4]
    refine ⟨by omega,callV_pc p1 ?_⟩
    cases hc : ([123,125,91,93,58,44] : Bytes).contains (s.getD p 0)
    rotate_left
    · simp only [lawG,↓Xn,↓Xo,↓Xg,↓Xd,↓Xe,↓Xf,Tryz.VΓ,Tryz.Γs,Xp,Xi,Nat.reduceAdd,Nat.reduceSub,Nat.reduceLT,Nat.reduceLeDiff,reduceIte,reduceCtorEq,Nat.reduceEqDiff,implies_true,forall_const,lawV,lawA,beq_self_eq_true,bne_self_eq_false,Int.reduceBEq,Int.reduceBNe,Int.reduceLT,Int.reduceLE,h0,h1,h4,ZT]
      exact ⟨by omega,by omega,by omega,rfl,NexF.ok (q := p + 1) (by omega) (by omega) (by rw [List.length_drop,List.length_take]; omega) (.inr (by omega))⟩
    cases c1 : ((s.getD p 0).toNat : Int) == 34
    rotate_left
    · obtain ⟨_,p2,u,q,e,rfl,he⟩ := px_r13_text s hs p hlt
      simp only [lawG,↓Xn,↓Xo,↓Xg,↓Xd,↓Xe,↓Xf,Tryz.VΓ,Tryz.Γs,Xp,Xi,Nat.reduceAdd,Nat.reduceSub,Nat.reduceLT,Nat.reduceLeDiff,reduceIte,reduceCtorEq,Nat.reduceEqDiff,implies_true,forall_const,lawV,lawA,beq_self_eq_true,bne_self_eq_false,Int.reduceBEq,Int.reduceBNe,Int.reduceLT,Int.reduceLE,h0,h1,h4,c1]
      refine callV_pc p2 ?_
      cases c3 : e != 0
      · obtain ⟨q',rfl,k1,k2,k3⟩ := he (by simpa using c3)
        have e0 : e = 0 := by simpa using c3
        subst e0
        simp only [lawG,↓Xn,↓Xo,↓Xg,↓Xd,↓Xe,↓Xf,Tryz.VΓ,Tryz.Γs,Xp,Xi,Nat.reduceAdd,Nat.reduceSub,Nat.reduceLT,Nat.reduceLeDiff,reduceIte,reduceCtorEq,Nat.reduceEqDiff,implies_true,forall_const,lawV,lawA,beq_self_eq_true,bne_self_eq_false,Int.reduceBEq,Int.reduceBNe,Int.reduceLT,Int.reduceLE,h0,h1,h4,c3,ZT]
        exact ⟨rfl,NexF.ok (by omega) (by omega) k3 (.inr (by omega))⟩
      · simp only [lawG,↓Xn,↓Xo,↓Xg,↓Xd,↓Xe,↓Xf,Tryz.VΓ,Tryz.Γs,Xp,Xi,Nat.reduceAdd,Nat.reduceSub,Nat.reduceLT,Nat.reduceLeDiff,reduceIte,reduceCtorEq,Nat.reduceEqDiff,implies_true,forall_const,lawV,lawA,beq_self_eq_true,bne_self_eq_false,Int.reduceBEq,Int.reduceBNe,Int.reduceLT,Int.reduceLE,h0,h1,h4,c3,ZT]
        exact ⟨rfl,NexF.err (by intro h; rw [h] at c3; simp at c3)⟩
    have p3 := p_r1_IsDigit (s.getD p 0)
    obtain ⟨_,p4,n,rfl,hn⟩ := px_r13_numeral (s.drop p) (by rw [List.length_drop]; omega)
    rw [List.length_drop] at hn
    cases c2 : ((s.getD p 0).toNat : Int) == 45
    · simp only [lawG,↓Xn,↓Xo,↓Xg,↓Xd,↓Xe,↓Xf,Tryz.VΓ,Tryz.Γs,Xp,Xi,Nat.reduceAdd,Nat.reduceSub,Nat.reduceLT,Nat.reduceLeDiff,reduceIte,reduceCtorEq,Nat.reduceEqDiff,implies_true,forall_const,lawV,lawA,beq_self_eq_true,bne_self_eq_false,Int.reduceBEq,Int.reduceBNe,Int.reduceLT,Int.reduceLE,h0,h1,h4,c1,c2]
      refine callV_pc p3 ?_
      cases c4 : isDigit (s.getD p 0)
      · simp only [lawG,↓Xn,↓Xo,↓Xg,↓Xd,↓Xe,↓Xf,Tryz.VΓ,Tryz.Γs,Xp,Xi,Nat.reduceAdd,Nat.reduceSub,Nat.reduceLT,Nat.reduceLeDiff,reduceIte,reduceCtorEq,Nat.reduceEqDiff,implies_true,forall_const,lawV,lawA,beq_self_eq_true,bne_self_eq_false,Int.reduceBEq,Int.reduceBNe,Int.reduceLT,Int.reduceLE,h0,h1,h4]
        exact hk' _ _ ⟨by simp [lk,h0],by simp [lk,h1],by simp [lk,h4],rfl⟩
      · simp only [lawG,↓Xn,↓Xo,↓Xg,↓Xd,↓Xe,↓Xf,Tryz.VΓ,Tryz.Γs,Xp,Xi,Nat.reduceAdd,Nat.reduceSub,Nat.reduceLT,Nat.reduceLeDiff,reduceIte,reduceCtorEq,Nat.reduceEqDiff,implies_true,forall_const,lawV,lawA,beq_self_eq_true,bne_self_eq_false,Int.reduceBEq,Int.reduceBNe,Int.reduceLT,Int.reduceLE,h0,h1,h4]
        (refine ⟨by omega,callV_pc p4 ?_⟩
         cases c5 : ((n : Int) == 0)
         · have hn0 : 0 < n := by simp at c5; omega
           simp only [lawG,↓Xn,↓Xo,↓Xg,↓Xd,↓Xe,↓Xf,Tryz.VΓ,Tryz.Γs,Xp,Xi,Nat.reduceAdd,Nat.reduceSub,Nat.reduceLT,Nat.reduceLeDiff,reduceIte,reduceCtorEq,Nat.reduceEqDiff,implies_true,forall_const,lawV,lawA,beq_self_eq_true,bne_self_eq_false,Int.reduceBEq,Int.reduceBNe,Int.reduceLT,Int.reduceLE,h0,h1,h4,c5,ZT]
           exact ⟨by omega,by omega,by omega,rfl,NexF.ok (q := p + n) (by omega) (by omega) (by rw [List.length_drop,List.length_take]; omega) (.inr (by omega))⟩
         · simp only [lawG,↓Xn,↓Xo,↓Xg,↓Xd,↓Xe,↓Xf,Tryz.VΓ,Tryz.Γs,Xp,Xi,Nat.reduceAdd,Nat.reduceSub,Nat.reduceLT,Nat.reduceLeDiff,reduceIte,reduceCtorEq,Nat.reduceEqDiff,implies_true,forall_const,lawV,lawA,beq_self_eq_true,bne_self_eq_false,Int.reduceBEq,Int.reduceBNe,Int.reduceLT,Int.reduceLE,h0,h1,h4,c5,ZT]
           exact ⟨rfl,NexF.err (by decide)⟩)
    · simp only [lawG,↓Xn,↓Xo,↓Xg,↓Xd,↓Xe,↓Xf,Tryz.VΓ,Tryz.Γs,Xp,Xi,Nat.reduceAdd,Nat.reduceSub,Nat.reduceLT,Nat.reduceLeDiff,reduceIte,reduceCtorEq,Nat.reduceEqDiff,implies_true,forall_const,lawV,lawA,beq_self_eq_true,bne_self_eq_false,Int.reduceBEq,Int.reduceBNe,Int.reduceLT,Int.reduceLE,h0,h1,h4,c1,c2]
      (refine ⟨by omega,callV_pc p4 ?_⟩
       cases c5 : ((n : Int) == 0)
       · have hn0 : 0 < n := by simp at c5; omega
         simp only [lawG,↓Xn,↓Xo,↓Xg,↓Xd,↓Xe,↓Xf,Tryz.VΓ,Tryz.Γs,Xp,Xi,Nat.reduceAdd,Nat.reduceSub,Nat.reduceLT,Nat.reduceLeDiff,reduceIte,reduceCtorEq,Nat.reduceEqDiff,implies_true,forall_const,lawV,lawA,beq_self_eq_true,bne_self_eq_false,Int.reduceBEq,Int.reduceBNe,Int.reduceLT,Int.reduceLE,h0,h1,h4,c5,ZT]
         exact ⟨by omega,by omega,by omega,rfl,NexF.ok (q := p + n) (by omega) (by omega) (by rw [List.length_drop,List.length_take]; omega) (.inr (by omega))⟩
       · simp only [lawG,↓Xn,↓Xo,↓Xg,↓Xd,↓Xe,↓Xf,Tryz.VΓ,Tryz.Γs,Xp,Xi,Nat.reduceAdd,Nat.reduceSub,Nat.reduceLT,Nat.reduceLeDiff,reduceIte,reduceCtorEq,Nat.reduceEqDiff,implies_true,forall_const,lawV,lawA,beq_self_eq_true,bne_self_eq_false,Int.reduceBEq,Int.reduceBNe,Int.reduceLT,Int.reduceLE,h0,h1,h4,c5,ZT]
         exact ⟨rfl,NexF.err (by decide)⟩)
  rintro m ⟨t,b⟩ ⟨h0,h1,h4,rfl⟩
  simp only at h0 h1 h4
  refine vcS_cutS 2400 (fun σ => lk 0 σ.t = some (.str s) ∧ lk 1 σ.t = some (.int .i64 p) ∧ lk 12 σ.t = some (.int .i64 0) ∧ lk 4 σ.t = some (.p 0 0) ∧ σ.b = [ZT]) ?_ (fun k' hk' => ?_)
  rotate_left
  · simp only [lawG,↓Xn,↓Xo,↓Xg,↓Xd,↓Xe,↓Xf,Tryz.VΓ,Tryz.Γs,Xp,Xi,Nat.reduceAdd,Nat.reduceSub,Nat.reduceLT,Nat.reduceLeDiff,reduceIte,reduceCtorEq,Nat.reduceEqDiff,implies_true,forall_const,lawV,lawA,beq_self_eq_true,bne_self_eq_false,Int.reduceBEq,Int.reduceBNe,Int.reduceLT,Int.reduceLE,h0,h1,h4]
    exact hk' _ _ ⟨by simp [lk,h0],by simp [lk,h1],rfl,by simp [lk,h4],rfl⟩
  rintro m ⟨t,b⟩ ⟨h0,h1,h12,h4,rfl⟩
  simp only at h0 h1 h12 h4
  refine vcS_cutS 2300 (fun σ => ∃ n : Nat,p + n ≤ s.length ∧ lk 0 σ.t = some (.str s) ∧ lk 1 σ.t = some (.int .i64 p) ∧ lk 12 σ.t = some (.int .i64 n) ∧ lk 4 σ.t = some (.p 0 0) ∧ σ.b = [ZT]) ?_ (fun k' hk' => ?_)
  rotate_left
  · simp only [lawG,↓Xn,↓Xo,↓Xg,↓Xd,↓Xe,↓Xf,Tryz.VΓ,Tryz.Γs,Xp,Xi,Nat.reduceAdd,Nat.reduceSub,Nat.reduceLT,Nat.reduceLeDiff,reduceIte,reduceCtorEq,Nat.reduceEqDiff,implies_true,forall_const,lawV,lawA,beq_self_eq_true,bne_self_eq_false,Int.reduceBEq,Int.reduceBNe,Int.reduceLT,Int.reduceLE,h0,h1,h12,h4]
    refine loopV_mk (fun σ => ∃ n : Nat,p + n ≤ s.length ∧ lk 0 σ.t = some (.str s) ∧ lk 1 σ.t = some (.int .i64 p) ∧ lk 12 σ.t = some (.int .i64 n) ∧ lk 4 σ.t = some (.p 0 0) ∧ σ.b = [ZT]) (fun σ => s.length - lkI 12 σ) ⟨0,by omega,h0,h1,h12,h4,rfl⟩ ?_
    rintro ⟨t,b⟩ ⟨n,hn,h0,h1,h12,h4,rfl⟩
    simp only at h0 h1 h12 h4
    rw [lkI_eq h12]
    by_cases hln : p + n < s.length
    · have hlt2 : decide ((p : Int) + n < s.length) = true := decide_eq_true (by omega)
      have e1 : ((p : Int) + n).toNat = p + n := by omega
      have p1 := p_r1_IsAlpha (s.getD (p + n) 0)
      simp only [lawG,↓Xn,↓Xo,↓Xg,↓Xd,↓Xe,↓Xf,Tryz.VΓ,Tryz.Γs,Xp,Xi,Nat.reduceAdd,Nat.reduceSub,Nat.reduceLT,Nat.reduceLeDiff,reduceIte,reduceCtorEq,Nat.reduceEqDiff,implies_true,forall_const,lawV,lawA,beq_self_eq_true,bne_self_eq_false,Int.reduceBEq,Int.reduceBNe,Int.reduceLT,Int.reduceLE,h0,h1,h12,h4,hlt2]
      refine ⟨by omega,by omega,by omega,callV_pc p1 ?_⟩
      cases hc : isAlpha (s.getD (p + n) 0)
      · simp only [lawG,↓Xn,↓Xo,↓Xg,↓Xd,↓Xe,↓Xf,Tryz.VΓ,Tryz.Γs,Xp,Xi,Nat.reduceAdd,Nat.reduceSub,Nat.reduceLT,Nat.reduceLeDiff,reduceIte,reduceCtorEq,Nat.reduceEqDiff,implies_true,forall_const,lawV,lawA,beq_self_eq_true,bne_self_eq_false,Int.reduceBEq,Int.reduceBNe,Int.reduceLT,Int.reduceLE,h0,h1,h12,h4]
        exact hk' _ _ ⟨n,hn,by simp [lk,h0],by simp [lk,h1],by simp [lk,h12],by simp [lk,h4],rfl⟩
      · simp only [lawG,↓Xn,↓Xo,↓Xg,↓Xd,↓Xe,↓Xf,Tryz.VΓ,Tryz.Γs,Xp,Xi,Nat.reduceAdd,Nat.reduceSub,Nat.reduceLT,Nat.reduceLeDiff,reduceIte,reduceCtorEq,Nat.reduceEqDiff,implies_true,forall_const,lawV,lawA,beq_self_eq_true,bne_self_eq_false,Int.reduceBEq,Int.reduceBNe,Int.reduceLT,Int.reduceLE,h0,h1,h12,h4]
        refine ⟨by omega,⟨n + 1,by omega,rfl⟩,?_⟩
        rw [lkI_eq (k := .i64) (n := (n : Int) + 1) rfl]; omega
    · have hlt2 : decide ((p : Int) + n < s.length) = false := decide_eq_false (by omega)
      simp only [lawG,↓Xn,↓Xo,↓Xg,↓Xd,↓Xe,↓Xf,Tryz.VΓ,Tryz.Γs,Xp,Xi,Nat.reduceAdd,Nat.reduceSub,Nat.reduceLT,Nat.reduceLeDiff,reduceIte,reduceCtorEq,Nat.reduceEqDiff,implies_true,forall_const,lawV,lawA,beq_self_eq_true,bne_self_eq_false,Int.reduceBEq,Int.reduceBNe,Int.reduceLT,Int.reduceLE,h0,h1,h12,h4,hlt2]
      exact ⟨by omega,hk' _ _ ⟨n,hn,by simp [lk,h0],by simp [lk,h1],by simp [lk,h12],by simp [lk,h4],rfl⟩⟩
  rintro m ⟨t,b⟩ ⟨n,hn,h0,h1,h12,h4,rfl⟩
  simp only at h0 h1 h12 h4
  refine vcS_cutS 2200 (fun σ => lk 0 σ.t = some (.str s) ∧ lk 1 σ.t = some (.int .i64 p) ∧ lk 12 σ.t = some (.int .i64 n) ∧ lk 4 σ.t = some (.p 0 0) ∧ σ.b = [ZT]) ?_ (fun k' hk' => ?_)
  rotate_left
  · have wl : ∀ w : Bytes,w.length = 4 ∨ w.length = 5 → ((s.take (p + n)).drop p == w) = true → 0 < n := by
      intro w hw h
      have h2 := congrArg List.length (eq_of_beq h)
      rw [sl_len (by omega) hn] at h2
      omega
    have e1 : ((p : Int) + n).toNat = p + n := by omega
    have hl := sl_len (s := s) (p := p) (q := p + n) (by omega) hn
    simp only [lawG,↓Xn,↓Xo,↓Xg,↓Xd,↓Xe,↓Xf,Tryz.VΓ,Tryz.Γs,Xp,Xi,Nat.reduceAdd,Nat.reduceSub,Nat.reduceLT,Nat.reduceLeDiff,reduceIte,reduceCtorEq,Nat.reduceEqDiff,implies_true,forall_const,lawV,lawA,beq_self_eq_true,bne_self_eq_false,Int.reduceBEq,Int.reduceBNe,Int.reduceLT,Int.reduceLE,h0,h1,h12,h4,ZT,e1]
    have ok : ∀ w : Bytes,w.length = 4 ∨ w.length = 5 → ((s.take (p + n)).drop p == w) = true → NexF s a (.tup [.agg [.int .i64 5,.str ((s.take (p + n)).drop p),.int .i64 p],.int .i64 ((p : Int) + n),.int .i64 0]) := fun w hw h =>
      NexF.ok (q := p + n) (by omega) (by omega) (by omega) (.inr (by have := wl w hw h; omega))
    exact ⟨by omega,by omega,fun _ => ⟨fun _ => ⟨fun h => ⟨by omega,rfl,ok _ (by decide) h⟩,fun _ => hk' _ _ ⟨by simp [lk,h0],by simp [lk,h1],by simp [lk,h12],by simp [lk,h4],rfl⟩⟩,fun h => ⟨by omega,rfl,ok _ (by decide) h⟩⟩,fun h => ⟨by omega,rfl,ok _ (by decide) h⟩⟩
  rintro m ⟨t,b⟩ ⟨h0,h1,h12,h4,rfl⟩
  simp only at h0 h1 h12 h4
  simp only [lawG,↓Xn,↓Xo,↓Xg,↓Xd,↓Xe,↓Xf,Tryz.VΓ,Tryz.Γs,Xp,Xi,Nat.reduceAdd,Nat.reduceSub,Nat.reduceLT,Nat.reduceLeDiff,reduceIte,reduceCtorEq,Nat.reduceEqDiff,implies_true,forall_const,lawV,lawA,beq_self_eq_true,bne_self_eq_false,Int.reduceBEq,Int.reduceBNe,Int.reduceLT,Int.reduceLE,h0,h1,h12,h4,ZT]
  exact ⟨rfl,NexF.err (by decide)⟩
end Go.Proofs.YtejfjmcjicpodaaGreatDoor
/- ref14's parser: stop,next,is,word; the bounds of trees. -/
set_option linter.all false
set_option maxRecDepth 20000
namespace Go.Proofs.YtejfjmcjicpodaaGreatDoor
open Go Vc Go.RowKit Wf
set_option linter.unusedSimpArgs false
mutual
def JB (B : Nat) : Jv → Prop
  | .mk _ t K L => t.length ≤ B ∧ K.length ≤ B ∧ (∀ s ∈ K,s.length ≤ B) ∧ L.length ≤ B ∧ JBs B L
def JBs (B : Nat) : List Jv → Prop
  | [] => True
  | j :: L => JB B j ∧ JBs B L
end
theorem JBs.snoc {B : Nat} {j : Jv} (hj : JB B j) : ∀ {L : List Jv},JBs B L → JBs B (L ++ [j])
  | [],_ => by rw [List.nil_append,JBs,JBs]; exact ⟨hj,trivial⟩
  | i :: L,h => by
    rw [JBs] at h
    rw [List.cons_append,JBs]
    exact ⟨h.1,JBs.snoc hj h.2⟩
theorem JB.leaf {B : Nat} (k : Int) {t : Bytes} (h : t.length ≤ B) : JB B (.mk k t [] []) := by
  rw [JB,JBs]; exact ⟨h,by simp,by simp,by simp,trivial⟩
theorem TJ.leaf (b : List Res) (k : Int) (s : Bytes) (hs : s.length ≤ 140737488355328) : TJ b (.mk k s [] []) ⟨k,s,.nils,.nils⟩ := TJ.mk' rfl rfl hs (.inl ⟨rfl,rfl⟩) (by simp [Jv.K]) (by simp [Jv.K]) (by simp [Jv.L]) ⟨[],.inl ⟨rfl,rfl⟩,by rw [Jv.L,TJs]⟩
def pcl (s : Bytes) (a n : Nat) (f w : Int) : List SV := [.str s,.int .i64 a,.int .i64 n,.int .i64 f,.int .i64 w]
def tok (k : Int) (u : Bytes) (p : Int) : List SV := [.int .i64 k,.str u,.int .i64 p]
theorem pcl_flat (s : Bytes) (a n : Nat) (f w : Int) : flat.flatL (pcl s a n f w) = true := rfl
def pbox (s : Bytes) (a n : Nat) (f w : Int) : Res := .cells (pcl s a n f w) 53 true
def stF (f e : Int) : Int := if f = 0 then e else f
def stW (f w a : Int) : Int := if f = 0 then a else w
theorem sc_r14_stop {bs : List Res} {p : Nat} {s : Bytes} {a n : Nat} {f w : Int} (hp : bs[p]? = some (pbox s a n f w)) (x e : Int) :
    SC Tryz.V 22 [.p p 0,.int .i64 x,.int .i64 e] bs (fun r b => r = .tup [] ∧ b = bs.set p (pbox s a n (stF f e) (stW f w x))) := by
  have hpl := (List.getElem?_eq_some_iff.1 hp).1
  have hsame := set_same hp
  unfold pbox pcl at hp hsame ⊢
  refine sc_of 3000 Tryz.func22 rfl Tryz.ntmps22 Tryz.results22 Tryz.call22 (by simp) (fun β β' hb => concL_within bs.length _ (by simp [within,within.withinL,hpl]) β β' hb) ?_
  by_cases he : f = 0
  · have hb : (f == 0) = true := by simp [he]
    have hss : ∀ X Y,(bs.set p X).set p Y = bs.set p Y := fun X Y => List.set_set ..
    have hg : ∀ X,(bs.set p X)[p]? = some X := fun X => List.getElem?_set_self hpl
    simp only [lawG,↓Xn,↓Xo,↓Xg,↓Xd,↓Xe,↓Xf,Tryz.VΓ,Tryz.Γs,Xp,Xi,Nat.reduceAdd,Nat.reduceSub,Nat.reduceLT,Nat.reduceLeDiff,reduceIte,reduceCtorEq,Nat.reduceEqDiff,implies_true,forall_const,lawV,lawA,beq_self_eq_true,bne_self_eq_false,Int.reduceBEq,Int.reduceBNe,Int.reduceLT,Int.reduceLE,hp,hb,hg,hss]
    simp [stF,stW,he]
  · have hb : (f == 0) = false := by simp [he]
    simp only [lawG,↓Xn,↓Xo,↓Xg,↓Xd,↓Xe,↓Xf,Tryz.VΓ,Tryz.Γs,Xp,Xi,Nat.reduceAdd,Nat.reduceSub,Nat.reduceLT,Nat.reduceLeDiff,reduceIte,reduceCtorEq,Nat.reduceEqDiff,implies_true,forall_const,lawV,lawA,beq_self_eq_true,bne_self_eq_false,Int.reduceBEq,Int.reduceBNe,Int.reduceLT,Int.reduceLE,hp,hb]
    simp [stF,stW,he,hsame]
theorem p_r14_is (k : Int) (u : Bytes) (pos : Int) (c : Bytes) : PC Tryz.V 54 [.agg (tok k u pos),.str c] (.bool (k == 2 && u == c)) := by
  unfold tok
  refine pc_of 3000 Tryz.func54 rfl Tryz.ntmps54 Tryz.results54 Tryz.call54 (by simp) (by simp [flat,flat.flatL]) (by simp [flat,flat.flatL]) ?_
  cases hk : k == 2
  · simp only [lawG,↓Xn,↓Xo,↓Xg,↓Xd,↓Xe,↓Xf,Tryz.VΓ,Tryz.Γs,Xp,Xi,Nat.reduceAdd,Nat.reduceSub,Nat.reduceLT,Nat.reduceLeDiff,reduceIte,reduceCtorEq,Nat.reduceEqDiff,implies_true,forall_const,lawV,lawA,beq_self_eq_true,bne_self_eq_false,Int.reduceBEq,Int.reduceBNe,Int.reduceLT,Int.reduceLE,hk,Bool.false_and]
  · simp only [lawG,↓Xn,↓Xo,↓Xg,↓Xd,↓Xe,↓Xf,Tryz.VΓ,Tryz.Γs,Xp,Xi,Nat.reduceAdd,Nat.reduceSub,Nat.reduceLT,Nat.reduceLeDiff,reduceIte,reduceCtorEq,Nat.reduceEqDiff,implies_true,forall_const,lawV,lawA,beq_self_eq_true,bne_self_eq_false,Int.reduceBEq,Int.reduceBNe,Int.reduceLT,Int.reduceLE,hk,Bool.true_and]
theorem px_r14_word (s : Bytes) : ∃ x,PC Tryz.V 56 [.str s] x ∧ ∃ n : Int,x = .int .i64 n := by
  refine px_of 3000 Tryz.func56 rfl Tryz.ntmps56 Tryz.results56 Tryz.call56 (by simp) (by simp [flat,flat.flatL]) ?_
  cases h1 : s == [116,114,117,101]
  · cases h2 : s == [102,97,108,115,101]
    · simp only [lawG,↓Xn,↓Xo,↓Xg,↓Xd,↓Xe,↓Xf,Tryz.VΓ,Tryz.Γs,Xp,Xi,Nat.reduceAdd,Nat.reduceSub,Nat.reduceLT,Nat.reduceLeDiff,reduceIte,reduceCtorEq,Nat.reduceEqDiff,implies_true,forall_const,lawV,lawA,beq_self_eq_true,bne_self_eq_false,Int.reduceBEq,Int.reduceBNe,Int.reduceLT,Int.reduceLE,h1,h2]
      exact ⟨rfl,_,rfl⟩
    · simp only [lawG,↓Xn,↓Xo,↓Xg,↓Xd,↓Xe,↓Xf,Tryz.VΓ,Tryz.Γs,Xp,Xi,Nat.reduceAdd,Nat.reduceSub,Nat.reduceLT,Nat.reduceLeDiff,reduceIte,reduceCtorEq,Nat.reduceEqDiff,implies_true,forall_const,lawV,lawA,beq_self_eq_true,bne_self_eq_false,Int.reduceBEq,Int.reduceBNe,Int.reduceLT,Int.reduceLE,h1,h2]
      exact ⟨rfl,_,rfl⟩
  · simp only [lawG,↓Xn,↓Xo,↓Xg,↓Xd,↓Xe,↓Xf,Tryz.VΓ,Tryz.Γs,Xp,Xi,Nat.reduceAdd,Nat.reduceSub,Nat.reduceLT,Nat.reduceLeDiff,reduceIte,reduceCtorEq,Nat.reduceEqDiff,implies_true,forall_const,lawV,lawA,beq_self_eq_true,bne_self_eq_false,Int.reduceBEq,Int.reduceBNe,Int.reduceLT,Int.reduceLE,h1]
    exact ⟨rfl,_,rfl⟩
theorem sp_at {bs : List Res} (p : Nat) (X : Res) (l : List Res) (k : Nat) : (bs.set p X ++ l)[bs.length + k]? = l[k]? := app_atL List.length_set l k
theorem sp_at0 {bs : List Res} (p : Nat) (X : Res) (l : List Res) : (bs.set p X ++ l)[bs.length]? = l[0]? := sp_at p X l 0
theorem sp_set0 {bs : List Res} (p : Nat) (X : Res) (l : List Res) (Y : Res) : (bs.set p X ++ l).set bs.length Y = bs.set p X ++ l.set 0 Y := by
  rw [List.set_append_right _ _ (by simp)]; simp
theorem sp_set {bs : List Res} {p : Nat} (hp : p < bs.length) (X : Res) (l : List Res) : (bs ++ l).set p X = bs.set p X ++ l := app_setL hp l X
theorem app_set0 (b l : List Res) (Y : Res) : (b ++ l).set b.length Y = b ++ l.set 0 Y := by
  rw [List.set_append_right _ _ (by simp)]; simp
set_option maxHeartbeats 8000000 in
theorem sx_r14_next (s : Bytes) (hs : s.length ≤ 2000000) (a n : Nat) (f w : Int) (ha : a ≤ s.length) : ∃ (k : Int) (u : Bytes) (pos : Int) (a' : Nat) (f' w' : Int),a ≤ a' ∧ a' ≤ s.length ∧ u.length ≤ s.length ∧ (f' = 0 → f = 0 ∧ (k = 1 ∨ a < a')) ∧
    ∀ (bs : List Res) (p : Nat),bs[p]? = some (pbox s a n f w) → SC Tryz.V 21 [.p p 0] bs (fun r b => r = .agg (tok k u pos) ∧ b = bs.set p (pbox s a' n f' w')) := by
  by_cases hf : f = 0
  rotate_left
  · refine ⟨0,[],0,a,f,w,Nat.le_refl _,ha,by simp,fun h => absurd h hf,fun bs p hp => ?_⟩
    have hpl := (List.getElem?_eq_some_iff.1 hp).1
    refine sc_keepP hpl rfl (pcl_flat _ _ _ _ _) ?_
    have hb : (f != 0) = true := by simp [hf]
    have hk0 := KpP.of hp (Kp.refl bs)
    unfold pbox pcl at hp
    refine sc_of 3000 Tryz.func21 rfl Tryz.ntmps21 Tryz.results21 Tryz.call21 (by simp) (fun β β' hb => concL_within bs.length _ (by simp [within,within.withinL,hpl]) β β' hb) ?_
    simp only [lawG,↓Xn,↓Xo,↓Xg,↓Xd,↓Xe,↓Xf,Tryz.VΓ,Tryz.Γs,Xp,Xi,Nat.reduceAdd,Nat.reduceSub,Nat.reduceLT,Nat.reduceLeDiff,reduceIte,reduceCtorEq,Nat.reduceEqDiff,implies_true,forall_const,lawV,lawA,beq_self_eq_true,bne_self_eq_false,Int.reduceBEq,Int.reduceBNe,Int.reduceLT,Int.reduceLE,at_old hp,hb]
    exact ⟨rfl,hk0.app _⟩
  subst hf
  obtain ⟨_,p1,k,u,pos,q,e,rfl,he⟩ := px_r13_Next s hs a ha
  by_cases h0 : e = 0
  · obtain ⟨q',rfl,k1,k2,k3,k4⟩ := he h0
    subst h0
    refine ⟨k,u,pos,q',0,w,k1,k2,k3,fun _ => ⟨rfl,k4⟩,fun bs p hp => ?_⟩
    have hpl := (List.getElem?_eq_some_iff.1 hp).1
    refine sc_keepP hpl (by simp [tok,within,within.withinL]) (pcl_flat _ _ _ _ _) ?_
    have hk0 := KpP.of hp (Kp.refl bs)
    unfold pbox pcl at hp
    refine sc_of 3000 Tryz.func21 rfl Tryz.ntmps21 Tryz.results21 Tryz.call21 (by simp) (fun β β' hb => concL_within bs.length _ (by simp [within,within.withinL,hpl]) β β' hb) ?_
    have z1 : (bs.length + 1 = p) = False := eq_false (by omega)
    simp only [lawG,↓Xn,↓Xo,↓Xg,↓Xd,↓Xe,↓Xf,Tryz.VΓ,Tryz.Γs,Xp,Xi,Nat.reduceAdd,Nat.reduceSub,Nat.reduceLT,Nat.reduceLeDiff,reduceIte,reduceCtorEq,Nat.reduceEqDiff,implies_true,forall_const,lawV,lawA,beq_self_eq_true,bne_self_eq_false,Int.reduceBEq,Int.reduceBNe,Int.reduceLT,Int.reduceLE,at_old hp]
    (refine callD_pc (p1) ?_; simp only [lawG,↓Xn,↓Xo,↓Xg,↓Xd,↓Xe,↓Xf,Tryz.VΓ,Tryz.Γs,Xp,Xi,Nat.reduceAdd,Nat.reduceSub,Nat.reduceLT,Nat.reduceLeDiff,reduceIte,reduceCtorEq,Nat.reduceEqDiff,implies_true,forall_const,lawV,lawA,beq_self_eq_true,bne_self_eq_false,Int.reduceBEq,Int.reduceBNe,Int.reduceLT,Int.reduceLE,at_old hp,sp_set hpl,sp_at,sp_at0,sp_set0])
    refine ⟨?_,?_⟩
    · refine OkD_ren (fun n => if n = p then 0 else 1) ?_
      simp only [List.map_cons,List.map_nil,renRk,renT,z1,eq_self,if_true,if_false]
      exact OkD_fast (by kernel_rfl)
    exact ⟨rfl,(hk0.set _ _ _).app _⟩
  · refine ⟨0,[],0,a,e,a,Nat.le_refl _,ha,by simp,fun h => absurd h h0,fun bs p hp => ?_⟩
    have hpl := (List.getElem?_eq_some_iff.1 hp).1
    refine sc_keepP hpl rfl (pcl_flat _ _ _ _ _) ?_
    have hb : (e != 0) = true := by simp [h0]
    have hk0 := KpP.of hp (Kp.refl bs)
    have hst := fun X => sc_r14_stop (at_old hp X) a e
    unfold pbox pcl at hp
    refine sc_of 3000 Tryz.func21 rfl Tryz.ntmps21 Tryz.results21 Tryz.call21 (by simp) (fun β β' hb => concL_within bs.length _ (by simp [within,within.withinL,hpl]) β β' hb) ?_
    simp only [lawG,↓Xn,↓Xo,↓Xg,↓Xd,↓Xe,↓Xf,Tryz.VΓ,Tryz.Γs,Xp,Xi,Nat.reduceAdd,Nat.reduceSub,Nat.reduceLT,Nat.reduceLeDiff,reduceIte,reduceCtorEq,Nat.reduceEqDiff,implies_true,forall_const,lawV,lawA,beq_self_eq_true,bne_self_eq_false,Int.reduceBEq,Int.reduceBNe,Int.reduceLT,Int.reduceLE,at_old hp,hb]
    (refine callD_pc (p1) ?_; simp only [lawG,↓Xn,↓Xo,↓Xg,↓Xd,↓Xe,↓Xf,Tryz.VΓ,Tryz.Γs,Xp,Xi,Nat.reduceAdd,Nat.reduceSub,Nat.reduceLT,Nat.reduceLeDiff,reduceIte,reduceCtorEq,Nat.reduceEqDiff,implies_true,forall_const,lawV,lawA,beq_self_eq_true,bne_self_eq_false,Int.reduceBEq,Int.reduceBNe,Int.reduceLT,Int.reduceLE,at_old hp,hb])
    have z1 : (bs.length + 1 = p) = False := eq_false (by omega)
    refine ⟨?_,callV_sc (hst _) ?_⟩
    · refine OkD_ren (fun n => if n = p then 0 else 1) ?_
      simp only [List.map_cons,List.map_nil,renRk,renT,z1,eq_self,if_true,if_false]
      exact OkD_fast (by kernel_rfl)
    rintro r b ⟨rfl,rfl⟩
    simp only [lawG,↓Xn,↓Xo,↓Xg,↓Xd,↓Xe,↓Xf,Tryz.VΓ,Tryz.Γs,Xp,Xi,Nat.reduceAdd,Nat.reduceSub,Nat.reduceLT,Nat.reduceLeDiff,reduceIte,reduceCtorEq,Nat.reduceEqDiff,implies_true,forall_const,lawV,lawA,beq_self_eq_true,bne_self_eq_false,Int.reduceBEq,Int.reduceBNe,Int.reduceLT,Int.reduceLE,sp_set hpl,sp_at,sp_at0,sp_set0]
    exact ⟨rfl,(hk0.set _ _ _).app _⟩
end Go.Proofs.YtejfjmcjicpodaaGreatDoor
/- JSON values and DID documents among the arguments. -/
set_option linter.all false
namespace Go.Proofs.YtejfjmcjicpodaaGreatDoor
open Go Vc Go.RowKit Wf
open Go.ChangeShapes Go.WideShapes Go.ChangeAt
open Go.WideMaps Go.WideElems
section
variable {H : Type} {enc : TypeId × Value → H} {w : World} {held : Bool}
abbrev bsL (l : List (Bt × Res)) : List Res := l.map (·.2)
def WOk (t : TypeId) (d : DataW H) : Prop := ∀ k ∈ d.weights Tryz.prog t,k ≤ reachBytes
theorem WOk.elem {t e : TypeId} (ht : Tryz.prog.underlying t = some (.slice e)) {L sp : List (DataW H)} (h : WOk t (.slice L sp)) : ∀ d ∈ L,WOk e d := fun d hd k hk => h k (by
  simp only [DataW.weights,ht,List.mem_cons,List.mem_append]
  right; left
  clear h
  induction L with
  | nil => cases hd
  | cons q L ih =>
    simp only [DataW.weightsAll,List.mem_append]
    rcases List.mem_cons.1 hd with rfl | hd
    · exact .inl hk
    · exact .inr (ih hd))
theorem WOk.len {t e : TypeId} (ht : Tryz.prog.underlying t = some (.slice e)) (he : 0 < Tryz.prog.bytesOf e) {ρ : Type} {L : List ρ} {d : DataW H} (h : WOk t d) (hL : L = [] ∨ ∃ Le sp,d = .slice Le sp ∧ Le.length = L.length) : L.length ≤ 140737488355328 := by
  rcases hL with rfl | ⟨Le,sp,rfl,hl⟩
  · simp
  · have h1 := h ((Le.length + sp.length) * Tryz.prog.bytesOf e) (by simp [DataW.weights,ht])
    have h2 : (Le.length + sp.length) * 1 ≤ (Le.length + sp.length) * Tryz.prog.bytesOf e := Nat.mul_le_mul_left _ he
    have h3 : reachBytes ≤ 140737488355328 := by decide
    omega
theorem WOk.field {t u : TypeId} {fs : Array Field} (ht : Tryz.prog.underlying t = some (.struct fs)) {parts : List (DataW H)} (h : WOk t (.agg parts)) {j : Nat} {d : DataW H} (hj : (fs.toList.map (·.type))[j]? = some u) (hd : parts[j]? = some d) : WOk u d := fun k hk => h k (weights_field ht hj hd hk)
theorem WOk.str {s : List UInt8} {t : TypeId} (h : WOk (H := H) t (.lit (.string s))) : s.length ≤ 140737488355328 := Nat.le_trans (h _ (by simp [DataW.weights])) (by decide)
theorem bsL_ro (l m : List (Bt × Res)) : Ro (bsL l) (bsL (l ++ m)) := fun j c e s n h => by
  unfold bsL at h ⊢
  rw [List.map_append,List.getElem?_append_left (List.getElem?_eq_some_iff.1 h).1]; exact h
theorem open_strs {l : List (Bt × Res)} (hl : OpenL w l) {c : Value} {x : DataW H × List MemPlace} {M : Nat} (h : DataW.trod enc Tryz.prog w 0 (fun _ => true) held M 22 [c] = some x) (hW : WOk 22 x.1) :
    ∃ ls y L,OpenL w (l ++ ls) ∧ (∀ β,Ext β (l ++ ls) → c = conc β y) ∧ Rs (bsL (l ++ ls)) y L ∧ L.length ≤ 140737488355328 ∧ ∀ s ∈ L,s.length ≤ 140737488355328 := by
  obtain ⟨ls,y,L,g1,g2,g3,g4,g5,g6⟩ := open_rowsN (ρ := Bytes) (fun s => [SV.str s]) (fun _ s => s.length ≤ 140737488355328) (fun _ _ _ h => h) (s := 1) (m := M) (by omega) Tryz.underlying22 (by kernel_rfl) (WOk 9) (fun l hl cs x hx hw => by
    obtain ⟨⟨⟨a⟩⟩,rfl,rfl,-⟩ := DataW.trod_string Tryz.underlying9 hx
    exact ⟨[],a,by rw [List.append_nil]; exact hl,fun β _ => by simp [conc],hw.str⟩) hl (Nat.le_succ M) h (fun L sp e => by rw [e] at hW; exact hW.elem Tryz.underlying22)
  refine ⟨ls,y,L,g1,g3,?_,hW.len Tryz.underlying22 (of_decide_eq_true (by kernel_rfl)) g6,g5⟩
  rcases g4 with g4 | ⟨i,h1,h2⟩
  · exact .inl g4
  · refine .inr ⟨i,h1,?_⟩
    rw [show L.map SV.str = L.flatMap (fun s => [SV.str s]) from by rw [List.map_eq_flatMap]]
    exact h2
theorem TJ.bs {l m : List (Bt × Res)} {j : Jv} {v : Tv} (h : TJ (bsL l) j v) : TJ (bsL (l ++ m)) j v := h.ro (bsL_ro l m)
theorem tjs_of {b : List Res} : ∀ {R : List (Jv × Tv)},(∀ r ∈ R,TJ b r.1 r.2) → TJs b (R.map Prod.fst) (R.map Prod.snd)
  | [],_ => by simp [TJs]
  | r :: R,h => by
    rw [List.map_cons,List.map_cons,TJs]
    exact ⟨r.2,R.map Prod.snd,rfl,h r (by simp),tjs_of fun x hx => h x (by simp [hx])⟩
theorem jbs_of {B : Nat} : ∀ {R : List (Jv × Tv)},(∀ r ∈ R,JB B r.1) → JBs B (R.map Prod.fst)
  | [],_ => by rw [List.map_nil,JBs]; trivial
  | r :: R,h => by
    rw [List.map_cons,JBs]
    exact ⟨h r (by simp),jbs_of fun x hx => h x (by simp [hx])⟩
set_option maxRecDepth 20000 in
theorem open_value : ∀ (M : Nat) {l : List (Bt × Res)},OpenL w l → ∀ (cs : List Value) (x : DataW H × List MemPlace),DataW.trod enc Tryz.prog w 0 (fun _ => true) held M 25 cs = some x → WOk 25 x.1 →
    ∃ (ls : List (Bt × Res)) (r : Jv × Tv),OpenL w (l ++ ls) ∧ (∀ β,Ext β (l ++ ls) → cs = (tv r.2).map (conc β)) ∧ TJ (bsL (l ++ ls)) r.1 r.2 ∧ JB 140737488355328 r.1 := by
  intro M
  induction M using Nat.strongRecOn with
  | _ M ih =>
  intro l hl cs x h hW
  obtain ⟨xs,n,rfl,rfl,hlen,hxl,hf⟩ := DataW.trod_struct Tryz.underlying25 h
  have hC : Tryz.prog.cellsOf 25 = 4 := by kernel_rfl
  rw [hC] at hlen
  obtain ⟨c0,c1,c2,c3,rfl⟩ : ∃ c0 c1 c2 c3,cs = [c0,c1,c2,c3] := by
    match cs,hlen with
    | [c0,c1,c2,c3],_ => exact ⟨c0,c1,c2,c3,rfl⟩
  obtain ⟨y0,y1,y2,y3,rfl⟩ : ∃ y0 y1 y2 y3,xs = [y0,y1,y2,y3] := by
    match xs,hxl with
    | [y0,y1,y2,y3],_ => exact ⟨y0,y1,y2,y3,rfl⟩
  have e0 : DataW.trod enc Tryz.prog w 0 (fun _ => true) held n 3 [c0] = some y0 := hf 0 _ rfl
  have e1 : DataW.trod enc Tryz.prog w 0 (fun _ => true) held n 9 [c1] = some y1 := hf 1 _ rfl
  have e2 : DataW.trod enc Tryz.prog w 0 (fun _ => true) held n 22 [c2] = some y2 := hf 2 _ rfl
  have e3 : DataW.trod enc Tryz.prog w 0 (fun _ => true) held n 23 [c3] = some y3 := hf 3 _ rfl
  have w1 : WOk 9 y1.1 := hW.field Tryz.underlying25 (j := 1) rfl rfl
  have w2 : WOk 22 y2.1 := hW.field Tryz.underlying25 (j := 2) rfl rfl
  have w3 : WOk 23 y3.1 := hW.field Tryz.underlying25 (j := 3) rfl rfl
  obtain ⟨k,q0,rfl,-⟩ := DataW.trod_int Tryz.underlying3 e0
  obtain rfl := (List.cons.inj q0).1
  obtain ⟨⟨⟨t⟩⟩,q1,rfl,-⟩ := DataW.trod_string Tryz.underlying9 e1
  obtain rfl := (List.cons.inj q1).1
  obtain ⟨ls,xk,K,g1,g2,g3,g4,g5⟩ := open_strs hl e2 w2
  cases n with
  | zero => simp [DataW.trod] at e3
  | succ n =>
  obtain ⟨ls',xi,R,k1,k2,k3,k4,k5,k6⟩ := open_rowsN (ρ := Jv × Tv) (fun r => tv r.2) (fun l r => TJ (bsL l) r.1 r.2 ∧ JB 140737488355328 r.1) (fun _ _ _ h => ⟨h.1.bs,h.2⟩) (s := 4) (m := n) (by omega) Tryz.underlying23 hC (WOk 25) (fun l hl cs x hx hw => ih n (by omega) hl cs x hx hw) g1 (Nat.le_refl _) e3 (fun L sp e => by rw [e] at w3; exact w3.elem Tryz.underlying23)
  rw [List.append_assoc] at k1 k3 k4 k5
  refine ⟨ls ++ ls',(.mk k t K (R.map Prod.fst),⟨k,t,xk,xi⟩),k1,fun β hβ => ?_,TJ.mk' rfl rfl w1.str ?_ (by simp only [Jv.K]; omega) g5 (by simpa [Jv.L] using k2) ⟨R.map Prod.snd,?_,tjs_of fun r hr => (k5 r hr).1⟩,?_⟩
  · rw [g2 β (by rw [← List.append_assoc] at hβ; exact hβ.left),k3 β hβ]
    simp [tv,conc]
  · rw [← List.append_assoc]; exact g3.ro (bsL_ro _ _)
  · rcases k4 with ⟨h1,h2⟩ | ⟨i,h1,h2⟩
    · exact .inl ⟨h1,by simp [h2]⟩
    · refine .inr ⟨i,by simpa using h1,?_⟩
      rw [List.flatMap_map,List.length_map]
      exact h2
  · rw [JB]
    exact ⟨w1.str,g4,g5,by rw [List.length_map]; exact w3.len Tryz.underlying23 (of_decide_eq_true (by kernel_rfl)) k6,jbs_of fun r hr => (k5 r hr).2⟩
end
end Go.Proofs.YtejfjmcjicpodaaGreatDoor
/- The walks of ref01.Same and ref17.Same at equal documents. -/
set_option linter.all false
set_option maxRecDepth 20000
namespace Go.Proofs.YtejfjmcjicpodaaGreatDoor
open Go Vc Go.RowKit Wf
set_option linter.unusedSimpArgs false
set_option maxHeartbeats 4000000 in
theorem sc_r1_Same {bs : List Res} {x y : SV} {L : List Bytes} (hx : Rs bs x L) (hy : Rs bs y L) (hL : L.length ≤ 1000000) :
    SC Tryz.V 39 [x,y] bs (fun r b => r = .bool true ∧ b = bs) := by
  refine sc_forget (by simp [flat]) ?_
  have hxw := hx.within
  have hyw := hy.within
  have hlx := hx.len'
  have hly := hy.len'
  refine sc_of 3000 Tryz.func39 rfl Tryz.ntmps39 Tryz.results39 Tryz.call39 (by simp) (fun β β' hb => concL_within bs.length _ (by simp [within,within.withinL,hxw,hyw]) β β' hb) ?_
  simp only [lawG,↓Xn,↓Xo,↓Xg,↓Xd,↓Xe,↓Xf,Tryz.VΓ,Tryz.Γs,Xp,Xi,Nat.reduceAdd,Nat.reduceSub,Nat.reduceLT,Nat.reduceLeDiff,reduceIte,reduceCtorEq,Nat.reduceEqDiff,implies_true,forall_const,lawV,lawB,beq_self_eq_true,bne_self_eq_false,Int.reduceBEq,Int.reduceBNe,Int.reduceLT,Int.reduceLE,hlx,hly]
  refine loopV_mk (fun σ => ∃ q : Nat,q ≤ L.length ∧ lk 0 σ.t = some x ∧ lk 1 σ.t = some y ∧ lk 12 σ.t = some (.int .i64 L.length) ∧ lk 13 σ.t = some (.int .i64 q) ∧ σ.b = bs) (fun σ => L.length - lkI 13 σ) ⟨0,by omega,rfl,rfl,rfl,rfl,rfl⟩ ?_
  rintro ⟨t,b⟩ ⟨q,hq,h0,h1,h12,h13,hb⟩
  simp only at h0 h1 h12 h13 hb
  subst hb
  rw [lkI_eq h13]
  by_cases hlt : q < L.length
  · have hlt2 : decide ((q : Int) < L.length) = true := decide_eq_true (by omega)
    rcases hx with ⟨-,hx0⟩ | ⟨i,rfl,hi⟩
    · rw [hx0] at hlt; exact absurd hlt (by simp)
    rcases hy with ⟨-,hy0⟩ | ⟨j,rfl,hj⟩
    · rw [hy0] at hlt; exact absurd hlt (by simp)
    have hkt : (L.map SV.str)[q * 1]? = some (.str L[q]) := by simp [hlt]
    have hkl : (L.map SV.str).length = L.length := List.length_map ..
    simp only [lawG,↓Xn,↓Xo,↓Xg,↓Xd,↓Xe,↓Xf,Tryz.VΓ,Tryz.Γs,Xp,Xi,Nat.reduceAdd,Nat.reduceSub,Nat.reduceLT,Nat.reduceLeDiff,reduceIte,reduceCtorEq,Nat.reduceEqDiff,implies_true,forall_const,lawV,h0,h1,h12,h13,hj,hi,hkt,hlt2,lawB,beq_self_eq_true,bne_self_eq_false,Int.reduceBEq,Int.reduceBNe,Int.reduceLT,Int.reduceLE,Int.toNat_natCast]
    (repeat (refine ⟨by first | omega | (unfold maxLen; omega),?_⟩))
    refine ⟨(OkD_fast (by kernel_rfl)),?_⟩
    (repeat (refine ⟨by first | omega | (unfold maxLen; omega),?_⟩))
    refine ⟨⟨q + 1,by omega,rfl⟩,?_⟩
    rw [lkI_eq (k := .i64) (n := (q : Int) + 1) rfl]; omega
  · have hlt2 : decide ((q : Int) < L.length) = false := decide_eq_false (by omega)
    simp only [lawG,↓Xn,↓Xo,↓Xg,↓Xd,↓Xe,↓Xf,Tryz.VΓ,Tryz.Γs,Xp,Xi,Nat.reduceAdd,Nat.reduceSub,Nat.reduceLT,Nat.reduceLeDiff,reduceIte,reduceCtorEq,Nat.reduceEqDiff,implies_true,forall_const,lawV,h0,h1,h12,h13,hlt2,beq_self_eq_true,bne_self_eq_false,Int.reduceBEq,Int.reduceBNe,Int.reduceLT,Int.reduceLE]
    exact Kp.refl _
theorem mc_at (L : List Mtm) (k : Nat) (h : k < L.length) : ((L.flatMap mc).drop (k * 3)).take 3 = mc L[k] := rows_at mc 3 (fun _ => rfl) L k h
theorem mc_len (L : List Mtm) : (L.flatMap mc).length = L.length * 3 := rows_len mc 3 (fun _ => rfl) L
theorem sqc_at (L : List Sq) (k : Nat) (h : k < L.length) : ((L.flatMap sqc).drop (k * 3)).take 3 = sqc L[k] := rows_at sqc 3 (fun _ => rfl) L k h
theorem sqc_len (L : List Sq) : (L.flatMap sqc).length = L.length * 3 := rows_len sqc 3 (fun _ => rfl) L
theorem Rm.len {b : List Res} {x : SV} {L : List Mtm} (h : Rm b x L) (e : TypeId) : lenS (.slice e) x = some (.int .i64 L.length) := by
  rcases h with ⟨rfl,rfl⟩ | ⟨j,rfl,-⟩ <;> rfl
theorem Rq.len {b : List Res} {x : SV} {L : List Sq} (h : Rq b x L) (e : TypeId) : lenS (.slice e) x = some (.int .i64 L.length) := by
  rcases h with ⟨rfl,rfl⟩ | ⟨j,rfl,-⟩ <;> rfl
theorem Rm.within {b : List Res} {x : SV} {L : List Mtm} (h : Rm b x L) : Vc.within b.length x = true := by
  rcases h with ⟨rfl,-⟩ | ⟨j,rfl,h2⟩
  · rfl
  · have := (List.getElem?_eq_some_iff.1 h2).1
    simp [Vc.within,this]
theorem Rq.within {b : List Res} {x : SV} {L : List Sq} (h : Rq b x L) : Vc.within b.length x = true := by
  rcases h with ⟨rfl,-⟩ | ⟨j,rfl,h2⟩
  · rfl
  · have := (List.getElem?_eq_some_iff.1 h2).1
    simp [Vc.within,this]
theorem part_at {c l : List SV} {n s : Nat} (h : List.take s (List.drop n c) = l) (i : Nat) (hi : i < l.length) : c[n + i]? = l[i]? := by
  subst h
  rw [List.getElem?_take,List.getElem?_drop]
  simp at hi
  rw [if_pos (by omega)]
def DocLe (D : Docm) : Prop := D.also.length ≤ 1000000 ∧ D.ctrl.length ≤ 1000000 ∧ D.methods.length ≤ 1000000 ∧ D.services.length ≤ 1000000 ∧ ∀ s ∈ D.services,s.types.length ≤ 1000000 ∧ s.ends.length ≤ 1000000
set_option maxHeartbeats 16000000 in
theorem sc_r17_Same {bs : List Res} {c c' : List SV} {D : Docm} (h : DocR bs c D) (h' : DocR bs c' D) (hD : DocLe D) :
    SC Tryz.V 12 [.agg c,.agg c'] bs (fun r b => r = .bool true ∧ b = bs) := by
  refine sc_forget (by simp [flat]) ?_
  obtain ⟨xa,xc,xm,xs,Q,rfl,g1,g2,g3,g4,g5,g6⟩ := h
  obtain ⟨ya,yc,ym,ys,Q',rfl,k1,k2,k3,k4,k5,k6⟩ := h'
  obtain ⟨l1,l2,l3,l4,l5⟩ := hD
  have w1 := g1.within
  have w2 := g2.within
  have w3 := g3.within
  have w4 := g4.within
  have w5 := k1.within
  have w6 := k2.within
  have w7 := k3.within
  have w8 := k4.within
  have o1 := g1.one
  have o2 := g2.one
  have o3 := g3.one
  have o4 := g4.one
  have o5 := k1.one
  have o6 := k2.one
  have o7 := k3.one
  have o8 := k4.one
  have m1 := g3.len
  have m2 := k3.len
  have m3 := g4.len
  have m4 := k4.len
  have hQ : Q.length = D.services.length := by rw [← g6,List.length_map]
  have hQ' : Q'.length = D.services.length := by rw [← k6,List.length_map]
  rw [hQ] at m3
  rw [hQ'] at m4
  have s1 := fun X => sc_r1_Same (g1.ro ((Ro.refl bs).app X)) (k1.ro ((Ro.refl bs).app X)) l1
  have s2 := fun X => sc_r1_Same (g2.ro ((Ro.refl bs).app X)) (k2.ro ((Ro.refl bs).app X)) l2
  refine sc_of 3000 Tryz.func12 rfl Tryz.ntmps12 Tryz.results12 Tryz.call12 (by simp) (fun β β' hb => concL_within bs.length _ (by simp [within,within.withinL,w1,w2,w3,w4,w5,w6,w7,w8]) β β' hb) ?_
  simp only [lawG,↓Xn,↓Xo,↓Xg,↓Xd,↓Xe,↓Xf,Tryz.VΓ,Tryz.Γs,Xp,Xi,Nat.reduceAdd,Nat.reduceSub,Nat.reduceLT,Nat.reduceLeDiff,reduceIte,reduceCtorEq,Nat.reduceEqDiff,implies_true,forall_const,lawV,lawA,beq_self_eq_true,bne_self_eq_false,Int.reduceBEq,Int.reduceBNe,Int.reduceLT,Int.reduceLE,o1,o2,o3,o4,o5,o6,o7,o8,Bool.and_self]
  refine callV_sc (s1 _) ?_
  rintro r b ⟨rfl,rfl⟩
  simp only [lawG,↓Xn,↓Xo,↓Xg,↓Xd,↓Xe,↓Xf,Tryz.VΓ,Tryz.Γs,Xp,Xi,Nat.reduceAdd,Nat.reduceSub,Nat.reduceLT,Nat.reduceLeDiff,reduceIte,reduceCtorEq,Nat.reduceEqDiff,implies_true,forall_const,lawV,lawA,beq_self_eq_true,bne_self_eq_false,Int.reduceBEq,Int.reduceBNe,Int.reduceLT,Int.reduceLE,o1,o2,o3,o4,o5,o6,o7,o8,Bool.not_true]
  refine callV_sc (s2 _) ?_
  rintro r b ⟨rfl,rfl⟩
  simp only [lawG,↓Xn,↓Xo,↓Xg,↓Xd,↓Xe,↓Xf,Tryz.VΓ,Tryz.Γs,Xp,Xi,Nat.reduceAdd,Nat.reduceSub,Nat.reduceLT,Nat.reduceLeDiff,reduceIte,reduceCtorEq,Nat.reduceEqDiff,implies_true,forall_const,lawV,lawA,beq_self_eq_true,bne_self_eq_false,Int.reduceBEq,Int.reduceBNe,Int.reduceLT,Int.reduceLE,o1,o2,o3,o4,o5,o6,o7,o8,Bool.not_true,m1,m2,m3,m4]
  refine loopV_mk (fun σ => ∃ k : Nat,k ≤ D.methods.length ∧ lk 2 σ.t = some (.p bs.length 0) ∧ lk 3 σ.t = some (.p (bs.length + 1) 0) ∧ lk 48 σ.t = some (.int .i64 D.methods.length) ∧ lk 49 σ.t = some (.int .i64 k) ∧ σ.b = bs ++ [.cells [.str D.id,xa,xc,xm,xs] 34 true,.cells [.str D.id,ya,yc,ym,ys] 34 true]) (fun σ => D.methods.length - lkI 49 σ) ⟨0,by omega,rfl,rfl,rfl,rfl,rfl⟩ ?_
  rintro ⟨t,b⟩ ⟨k,hk,j2,j3,j48,j49,hb⟩
  simp only at j2 j3 j48 j49 hb
  subst hb
  rw [lkI_eq j49]
  by_cases hlt : k < D.methods.length
  · have hlt2 : decide ((k : Int) < D.methods.length) = true := decide_eq_true (by omega)
    rcases g3 with ⟨-,hx0⟩ | ⟨i,rfl,hi⟩
    · rw [hx0] at hlt; exact absurd hlt (by simp)
    rcases k3 with ⟨-,hx0⟩ | ⟨j,rfl,hj⟩
    · rw [hx0] at hlt; exact absurd hlt (by simp)
    have hu : List.take 3 (List.drop (k * 3) (D.methods.flatMap mc)) = [.str D.methods[k].id,.str D.methods[k].type,.str D.methods[k].ctrl] := mc_at D.methods k hlt
    have hul := mc_len D.methods
    simp only [lawG,↓Xn,↓Xo,↓Xg,↓Xd,↓Xe,↓Xf,Tryz.VΓ,Tryz.Γs,Xp,Xi,Nat.reduceAdd,Nat.reduceSub,Nat.reduceLT,Nat.reduceLeDiff,reduceIte,reduceCtorEq,Nat.reduceEqDiff,implies_true,forall_const,lawV,lawA,beq_self_eq_true,bne_self_eq_false,Int.reduceBEq,Int.reduceBNe,Int.reduceLT,Int.reduceLE,j2,j3,j48,j49,hlt2,at_old hi,at_old hj,hu,Bool.and_self]
    (repeat (refine ⟨by first | omega | (unfold maxLen; omega),?_⟩))
    refine ⟨(OkD_fast (by kernel_rfl)),?_⟩
    (repeat (refine ⟨by first | omega | (unfold maxLen; omega),?_⟩))
    refine ⟨⟨k + 1,by omega,rfl⟩,?_⟩
    rw [lkI_eq (k := .i64) (n := (k : Int) + 1) rfl]; omega
  · have hlt2 : decide ((k : Int) < D.methods.length) = false := decide_eq_false (by omega)
    simp only [lawG,↓Xn,↓Xo,↓Xg,↓Xd,↓Xe,↓Xf,Tryz.VΓ,Tryz.Γs,Xp,Xi,Nat.reduceAdd,Nat.reduceSub,Nat.reduceLT,Nat.reduceLeDiff,reduceIte,reduceCtorEq,Nat.reduceEqDiff,implies_true,forall_const,lawV,lawA,beq_self_eq_true,bne_self_eq_false,Int.reduceBEq,Int.reduceBNe,Int.reduceLT,Int.reduceLE,j2,j3,j48,j49,hlt2,m3]
    refine loopV_mk (fun σ => ∃ k : Nat,k ≤ D.services.length ∧ lk 2 σ.t = some (.p bs.length 0) ∧ lk 3 σ.t = some (.p (bs.length + 1) 0) ∧ lk 66 σ.t = some (.int .i64 D.services.length) ∧ lk 67 σ.t = some (.int .i64 k) ∧ σ.b = bs ++ [.cells [.str D.id,xa,xc,xm,xs] 34 true,.cells [.str D.id,ya,yc,ym,ys] 34 true]) (fun σ => D.services.length - lkI 67 σ) ⟨0,by omega,j2,j3,rfl,rfl,rfl⟩ ?_
    clear j2 j3 j48 j49 hlt hlt2 hk
    clear k t
    rintro ⟨t,b⟩ ⟨k,hk,j2,j3,j48,j49,hb⟩
    simp only at j2 j3 j48 j49 hb
    subst hb
    rw [lkI_eq j49]
    by_cases hlt : k < D.services.length
    · have hlt2 : decide ((k : Int) < D.services.length) = true := decide_eq_true (by omega)
      rcases g4 with ⟨-,hx0⟩ | ⟨i,rfl,hi⟩
      · rw [hx0] at hQ; simp at hQ; omega
      rcases k4 with ⟨-,hx0⟩ | ⟨j,rfl,hj⟩
      · rw [hx0] at hQ'; simp at hQ'; omega
      have h1 : k < Q.length := by omega
      have h2 : k < Q'.length := by omega
      have hu : List.take 3 (List.drop (k * 3) (Q.flatMap sqc)) = [.str Q[k].m.id,Q[k].y1,Q[k].y2] := sqc_at Q k h1
      have hu' : List.take 3 (List.drop (k * 3) (Q'.flatMap sqc)) = [.str Q'[k].m.id,Q'[k].y1,Q'[k].y2] := sqc_at Q' k h2
      have hul := sqc_len Q
      have hul' := sqc_len Q'
      have hm : Q[k].m = Q'[k].m := by
        have e1 : (Q.map Sq.m)[k]'(by simpa using h1) = (Q'.map Sq.m)[k]'(by simpa using h2) := by
          have : Q.map Sq.m = Q'.map Sq.m := by rw [g6,k6]
          simp only [this]
        simpa using e1
      have q1 := g5 Q[k] (List.getElem_mem h1)
      have q2 := k5 Q'[k] (List.getElem_mem h2)
      have hle := l5 Q[k].m (by rw [← g6]; exact List.mem_map_of_mem (List.getElem_mem h1))
      have hc1 : (Q.flatMap sqc)[k * 3]? = some (.str Q[k].m.id) := part_at hu 0 (by simp)
      have hc2 : (Q.flatMap sqc)[k * 3 + 1]? = some Q[k].y1 := part_at hu 1 (by simp)
      have hc3 : (Q.flatMap sqc)[k * 3 + 2]? = some Q[k].y2 := part_at hu 2 (by simp)
      have hd1 : (Q'.flatMap sqc)[k * 3]? = some (.str Q'[k].m.id) := part_at hu' 0 (by simp)
      have hd2 : (Q'.flatMap sqc)[k * 3 + 1]? = some Q'[k].y1 := part_at hu' 1 (by simp)
      have hd3 : (Q'.flatMap sqc)[k * 3 + 2]? = some Q'[k].y2 := part_at hu' 2 (by simp)
      generalize Q[k] = q at hm q1 hle hc1 hc2 hc3
      generalize Q'[k] = q' at hm q2 hd1 hd2 hd3
      rw [← hm] at hd1
      unfold SqOk at q1 q2
      rw [← hm] at q2
      have t1 := fun X => sc_r1_Same (q1.1.ro ((Ro.refl bs).app X)) (q2.1.ro ((Ro.refl bs).app X)) hle.1
      have t2 := fun X => sc_r1_Same (q1.2.ro ((Ro.refl bs).app X)) (q2.2.ro ((Ro.refl bs).app X)) hle.2
      simp only [lawG,↓Xn,↓Xo,↓Xg,↓Xd,↓Xe,↓Xf,Tryz.VΓ,Tryz.Γs,Xp,Xi,Nat.reduceAdd,Nat.reduceSub,Nat.reduceLT,Nat.reduceLeDiff,reduceIte,reduceCtorEq,Nat.reduceEqDiff,implies_true,forall_const,lawV,lawA,beq_self_eq_true,bne_self_eq_false,Int.reduceBEq,Int.reduceBNe,Int.reduceLT,Int.reduceLE,j2,j3,j48,j49,hlt2,at_old hi,at_old hj,hc1,hc2,hc3,hd1,hd2,hd3]
      (repeat (refine ⟨by first | omega | (unfold maxLen; omega),?_⟩))
      refine callD_scw [] (t1 _) (fun _ _ _ => rfl) ?_
      simp only [lawG,↓Xn,↓Xo,↓Xg,↓Xd,↓Xe,↓Xf,Tryz.VΓ,Tryz.Γs,Xp,Xi,Nat.reduceAdd,Nat.reduceSub,Nat.reduceLT,Nat.reduceLeDiff,reduceIte,reduceCtorEq,Nat.reduceEqDiff,implies_true,forall_const,lawV,lawA,beq_self_eq_true,bne_self_eq_false,Int.reduceBEq,Int.reduceBNe,Int.reduceLT,Int.reduceLE,j2,j3,j48,j49,hlt2,at_old hi,at_old hj,hc1,hc2,hc3,hd1,hd2,hd3,Bool.not_true]
      (repeat (refine ⟨by first | omega | (unfold maxLen; omega),?_⟩))
      refine callD_scw [] (t2 _) (fun _ _ _ => rfl) ?_
      simp only [lawG,↓Xn,↓Xo,↓Xg,↓Xd,↓Xe,↓Xf,Tryz.VΓ,Tryz.Γs,Xp,Xi,Nat.reduceAdd,Nat.reduceSub,Nat.reduceLT,Nat.reduceLeDiff,reduceIte,reduceCtorEq,Nat.reduceEqDiff,implies_true,forall_const,lawV,lawA,beq_self_eq_true,bne_self_eq_false,Int.reduceBEq,Int.reduceBNe,Int.reduceLT,Int.reduceLE,j2,j3,j48,j49,hlt2,Bool.not_true]
      refine ⟨(OkD_fast (by kernel_rfl)),?_⟩
      (repeat (refine ⟨by first | omega | (unfold maxLen; omega),?_⟩))
      refine ⟨⟨k + 1,by omega,rfl⟩,?_⟩
      rw [lkI_eq (k := .i64) (n := (k : Int) + 1) rfl]; omega
    · have hlt2 : decide ((k : Int) < D.services.length) = false := decide_eq_false (by omega)
      simp only [lawG,↓Xn,↓Xo,↓Xg,↓Xd,↓Xe,↓Xf,Tryz.VΓ,Tryz.Γs,Xp,Xi,Nat.reduceAdd,Nat.reduceSub,Nat.reduceLT,Nat.reduceLeDiff,reduceIte,reduceCtorEq,Nat.reduceEqDiff,implies_true,forall_const,lawV,lawA,beq_self_eq_true,bne_self_eq_false,Int.reduceBEq,Int.reduceBNe,Int.reduceLT,Int.reduceLE,j2,j3,j48,j49,hlt2]
      exact (Kp.refl bs).app _
end Go.Proofs.YtejfjmcjicpodaaGreatDoor
/- ref14.Same of one tree with itself. -/
set_option linter.all false
set_option maxRecDepth 20000
namespace Go.Proofs.YtejfjmcjicpodaaGreatDoor
open Go Vc Go.RowKit Wf
set_option linter.unusedSimpArgs false
end Go.Proofs.YtejfjmcjicpodaaGreatDoor
/- diddoc.copied: a tree in memory of its own. -/
set_option linter.all false
set_option maxRecDepth 20000
namespace Go.Proofs.YtejfjmcjicpodaaGreatDoor
open Go Vc Go.RowKit Wf
set_option linter.unusedSimpArgs false
section
variable {bs : List Res} {q3 : Nat} {j : Jv} {v : Tv} {k : Nat} {yk y : SV} {Ls : List Tv} {t t' : List (Nat × SV)} {b : List Res}
end
theorem JB.items {B : Nat} {j : Jv} (h : JB B j) : JBs B j.L := by
  cases j; rw [JB] at h; exact h.2.2.2.2
theorem JB.keys {B : Nat} {j : Jv} (h : JB B j) : j.t.length ≤ B ∧ j.K.length ≤ B ∧ (∀ s ∈ j.K,s.length ≤ B) ∧ j.L.length ≤ B := by
  cases j; rw [JB] at h; exact ⟨h.1,h.2.1,h.2.2.1,h.2.2.2.1⟩
theorem JBs.get {B : Nat} : ∀ {L : List Jv} {k : Nat} (_ : JBs B L) (h : k < L.length),JB B L[k]
  | [],_,_,h => by simp at h
  | _ :: _,0,h,_ => by rw [JBs] at h; exact h.1
  | _ :: L,k + 1,h,hk => by rw [JBs] at h; exact JBs.get h.2 (by simpa using hk)
end Go.Proofs.YtejfjmcjicpodaaGreatDoor
/- keep.Value: it answers. -/
set_option linter.all false
set_option maxRecDepth 20000
namespace Go.Proofs.YtejfjmcjicpodaaGreatDoor
open Go Vc Go.RowKit Wf
set_option linter.unusedSimpArgs false
structure KZ (bs : List Res) (c : List SV) (deep : Int) (t : List (Nat × SV)) (b : List Res) : Prop where
  l2 : lk 2 t = some (.int .i64 deep)
  l3 : lk 3 t = some (.p bs.length 0)
  kp : Kp bs b
  b0 : b[bs.length]? = some (.cells c 25 true)
  l1 : ∃ l : Int,lk 1 t = some (.int .i64 l) ∧ -1 ≤ l ∧ l ≤ 1000
def KZR (bs : List Res) (r : SV) (b : List Res) : Prop := ∃ m : Int,r = .int .i64 m ∧ -1 ≤ m ∧ m ≤ 1000 ∧ Kp bs b
set_option maxHeartbeats 16000000 in
theorem sc_keep_size : ∀ (n : Nat) {bs : List Res} {j : Jv} {v : Tv} (hv : TJ bs j v) (hB : JB 140737488355328 j) (left deep : Int) (h1 : -1 ≤ left) (h2 : left ≤ 1000) (h3 : -1 ≤ deep) (h4 : deep ≤ n) (h5 : deep ≤ 1000),
    SC Tryz.V 19 [.agg (tv v),.int .i64 left,.int .i64 deep] bs (KZR bs) := by
  intro n
  induction n with
  | zero =>
    intro bs j v hv hB left deep h1 h2 h3 h4 h5
    obtain ⟨v1,v2,v3,v4⟩ := hv.tin
    have ho : (one v.xk && one v.xi) = true := by rw [v3,v4]; rfl
    refine sc_of 3000 Tryz.func19 rfl Tryz.ntmps19 Tryz.results19 Tryz.call19 (by simp) (fun β β' hb => concL_within bs.length _ (by simp [within,within.withinL,tv,v1,v2]) β β' hb) ?_
    have hd : decide (deep ≤ 0) = true := decide_eq_true (by omega)
    unfold tv
    cases hl : decide (left ≤ 0)
    · simp only [lawG,↓Xn,↓Xo,↓Xg,↓Xd,↓Xe,↓Xf,Tryz.VΓ,Tryz.Γs,Xp,Xi,Nat.reduceAdd,Nat.reduceSub,Nat.reduceLT,Nat.reduceLeDiff,reduceIte,reduceCtorEq,Nat.reduceEqDiff,implies_true,forall_const,lawV,lawA,beq_self_eq_true,bne_self_eq_false,Int.reduceBEq,Int.reduceBNe,Int.reduceLT,Int.reduceLE,ho,hd,hl]
      exact ⟨-1,rfl,by omega,by omega,(Kp.refl bs).app _⟩
    · simp only [lawG,↓Xn,↓Xo,↓Xg,↓Xd,↓Xe,↓Xf,Tryz.VΓ,Tryz.Γs,Xp,Xi,Nat.reduceAdd,Nat.reduceSub,Nat.reduceLT,Nat.reduceLeDiff,reduceIte,reduceCtorEq,Nat.reduceEqDiff,implies_true,forall_const,lawV,lawA,beq_self_eq_true,bne_self_eq_false,Int.reduceBEq,Int.reduceBNe,Int.reduceLT,Int.reduceLE,ho,hd,hl]
      exact ⟨-1,rfl,by omega,by omega,(Kp.refl bs).app _⟩
  | succ n ih =>
    intro bs j v hv hB left deep h1 h2 h3 h4 h5
    obtain ⟨v1,v2,v3,v4⟩ := hv.tin
    have ho : (one v.xk && one v.xi) = true := by rw [v3,v4]; rfl
    obtain ⟨e1,e2,e3,e4,e5,e6,e7,Ls,e8,e9⟩ := hv.un
    obtain ⟨g1,g2,g3,g4⟩ := hB.keys
    have hL := e9.len
    have n1 := e4.len'
    have n2 := e8.len
    rw [hL] at n2
    refine sc_of 3000 Tryz.func19 rfl Tryz.ntmps19 Tryz.results19 Tryz.call19 (by simp) (fun β β' hb => concL_within bs.length _ (by simp [within,within.withinL,tv,v1,v2]) β β' hb) ?_
    unfold tv
    rw [e1,e2]
    generalize hcc : ([.int .i64 j.k,.str j.t,v.xk,v.xi] : List SV) = c
    refine vcS_cutS 2900 (fun σ => lk 1 σ.t = some (.int .i64 left) ∧ lk 2 σ.t = some (.int .i64 deep) ∧ lk 3 σ.t = some (.p bs.length 0) ∧ σ.b = bs ++ [.cells c 25 true]) ?_ (fun k' hk' => ?_)
    rotate_left
    · subst hcc
      simp only [lawG,↓Xn,↓Xo,↓Xg,↓Xd,↓Xe,↓Xf,Tryz.VΓ,Tryz.Γs,Xp,Xi,Nat.reduceAdd,Nat.reduceSub,Nat.reduceLT,Nat.reduceLeDiff,reduceIte,reduceCtorEq,Nat.reduceEqDiff,implies_true,forall_const,lawV,lawA,beq_self_eq_true,bne_self_eq_false,Int.reduceBEq,Int.reduceBNe,Int.reduceLT,Int.reduceLE,ho]
      exact hk' _ _ ⟨rfl,rfl,rfl,rfl⟩
    rintro m ⟨t,b⟩ ⟨l1,l2,l3,rfl⟩
    simp only at l1 l2 l3
    refine vcS_cutS 2800 (fun σ => lk 1 σ.t = some (.int .i64 left) ∧ lk 2 σ.t = some (.int .i64 deep) ∧ lk 3 σ.t = some (.p bs.length 0) ∧ σ.b = bs ++ [.cells c 25 true] ∧ 0 < left ∧ 0 < deep) ?_ (fun k' hk' => ?_)
    rotate_left
    · subst hcc
      cases c1 : decide (left ≤ 0)
      rotate_left
      · simp only [lawG,↓Xn,↓Xo,↓Xg,↓Xd,↓Xe,↓Xf,Tryz.VΓ,Tryz.Γs,Xp,Xi,Nat.reduceAdd,Nat.reduceSub,Nat.reduceLT,Nat.reduceLeDiff,reduceIte,reduceCtorEq,Nat.reduceEqDiff,implies_true,forall_const,lawV,lawA,beq_self_eq_true,bne_self_eq_false,Int.reduceBEq,Int.reduceBNe,Int.reduceLT,Int.reduceLE,l1,l2,l3,c1]
        exact ⟨-1,rfl,by omega,by omega,(Kp.refl bs).app _⟩
      cases c2 : decide (deep ≤ 0)
      rotate_left
      · simp only [lawG,↓Xn,↓Xo,↓Xg,↓Xd,↓Xe,↓Xf,Tryz.VΓ,Tryz.Γs,Xp,Xi,Nat.reduceAdd,Nat.reduceSub,Nat.reduceLT,Nat.reduceLeDiff,reduceIte,reduceCtorEq,Nat.reduceEqDiff,implies_true,forall_const,lawV,lawA,beq_self_eq_true,bne_self_eq_false,Int.reduceBEq,Int.reduceBNe,Int.reduceLT,Int.reduceLE,l1,l2,l3,c1,c2]
        exact ⟨-1,rfl,by omega,by omega,(Kp.refl bs).app _⟩
      cases c3 : decide ((300 : Int) < j.t.length)
      rotate_left
      · simp only [lawG,↓Xn,↓Xo,↓Xg,↓Xd,↓Xe,↓Xf,Tryz.VΓ,Tryz.Γs,Xp,Xi,Nat.reduceAdd,Nat.reduceSub,Nat.reduceLT,Nat.reduceLeDiff,reduceIte,reduceCtorEq,Nat.reduceEqDiff,implies_true,forall_const,lawV,lawA,beq_self_eq_true,bne_self_eq_false,Int.reduceBEq,Int.reduceBNe,Int.reduceLT,Int.reduceLE,l1,l2,l3,c1,c2,c3]
        exact ⟨-1,rfl,by omega,by omega,(Kp.refl bs).app _⟩
      cases c4 : decide ((j.L.length : Int) + 4 < j.K.length)
      rotate_left
      · simp only [lawG,↓Xn,↓Xo,↓Xg,↓Xd,↓Xe,↓Xf,Tryz.VΓ,Tryz.Γs,Xp,Xi,Nat.reduceAdd,Nat.reduceSub,Nat.reduceLT,Nat.reduceLeDiff,reduceIte,reduceCtorEq,Nat.reduceEqDiff,implies_true,forall_const,lawV,lawA,beq_self_eq_true,bne_self_eq_false,Int.reduceBEq,Int.reduceBNe,Int.reduceLT,Int.reduceLE,l1,l2,l3,c1,c2,c3,v3,v4,n1,n2,c4]
        exact ⟨⟨by omega,by omega⟩,-1,rfl,by omega,by omega,(Kp.refl bs).app _⟩
      cases c5 : decide (left < (j.L.length : Int))
      rotate_left
      · simp only [lawG,↓Xn,↓Xo,↓Xg,↓Xd,↓Xe,↓Xf,Tryz.VΓ,Tryz.Γs,Xp,Xi,Nat.reduceAdd,Nat.reduceSub,Nat.reduceLT,Nat.reduceLeDiff,reduceIte,reduceCtorEq,Nat.reduceEqDiff,implies_true,forall_const,lawV,lawA,beq_self_eq_true,bne_self_eq_false,Int.reduceBEq,Int.reduceBNe,Int.reduceLT,Int.reduceLE,l1,l2,l3,c1,c2,c3,v3,v4,n1,n2,c4,c5]
        exact ⟨⟨by omega,by omega⟩,-1,rfl,by omega,by omega,(Kp.refl bs).app _⟩
      simp only [lawG,↓Xn,↓Xo,↓Xg,↓Xd,↓Xe,↓Xf,Tryz.VΓ,Tryz.Γs,Xp,Xi,Nat.reduceAdd,Nat.reduceSub,Nat.reduceLT,Nat.reduceLeDiff,reduceIte,reduceCtorEq,Nat.reduceEqDiff,implies_true,forall_const,lawV,lawA,beq_self_eq_true,bne_self_eq_false,Int.reduceBEq,Int.reduceBNe,Int.reduceLT,Int.reduceLE,l1,l2,l3,c1,c2,c3,v3,v4,n1,n2,c4,c5]
      refine ⟨⟨by omega,by omega⟩,hk' _ _ ?_⟩
      exact ⟨l1,l2,l3,rfl,by simp at c1; omega,by simp at c2; omega⟩
    clear l1 l2 l3
    rintro m ⟨t,b⟩ ⟨l1,l2,l3,rfl,p1,p2⟩
    simp only at l1 l2 l3
    refine vcS_cutS 2700 (fun σ => KZ bs c deep σ.t σ.b) ?_ (fun k' hk' => ?_)
    rotate_left
    · simp only [lawG,↓Xn,↓Xo,↓Xg,↓Xd,↓Xe,↓Xf,Tryz.VΓ,Tryz.Γs,Xp,Xi,Nat.reduceAdd,Nat.reduceSub,Nat.reduceLT,Nat.reduceLeDiff,reduceIte,reduceCtorEq,Nat.reduceEqDiff,implies_true,forall_const,lawV,lawA,beq_self_eq_true,bne_self_eq_false,Int.reduceBEq,Int.reduceBNe,Int.reduceLT,Int.reduceLE,l1,l2,l3]
      refine ⟨⟨by omega,by omega⟩,hk' _ _ ?_⟩
      exact ⟨l2,l3,(Kp.refl bs).app _,app_at0 _ _,left - 1,rfl,by omega,by omega⟩
    clear l1 l2 l3
    rintro m ⟨t,b⟩ h
    simp only at h
    refine vcS_cutS 2600 (fun σ => KZ bs c deep σ.t σ.b) ?_ (fun k' hk' => ?_)
    rotate_left
    · have m3 := h.l3
      have hb0 := h.b0
      rw [← hcc] at hb0
      simp only [lawG,↓Xn,↓Xo,↓Xg,↓Xd,↓Xe,↓Xf,Tryz.VΓ,Tryz.Γs,Xp,Xi,Nat.reduceAdd,Nat.reduceSub,Nat.reduceLT,Nat.reduceLeDiff,reduceIte,reduceCtorEq,Nat.reduceEqDiff,implies_true,forall_const,lawV,lawA,beq_self_eq_true,bne_self_eq_false,Int.reduceBEq,Int.reduceBNe,Int.reduceLT,Int.reduceLE,m3,hb0,v3,n1]
      refine loopV_mk (fun σ => ∃ k : Nat,k ≤ j.K.length ∧ KZ bs c deep σ.t σ.b ∧ lk 43 σ.t = some v.xk ∧ lk 44 σ.t = some (.int .i64 j.K.length) ∧ lk 45 σ.t = some (.int .i64 k)) (fun σ => j.K.length - lkI 45 σ) ⟨0,by omega,{ h with },rfl,rfl,rfl⟩ ?_
      clear h m3 hb0
      rintro ⟨t,b⟩ ⟨k,hk,h,l43,l44,l45⟩
      simp only at h l43 l44 l45
      rw [lkI_eq l45]
      by_cases hlt : k < j.K.length
      rotate_left
      · have hlt2 : decide ((k : Int) < j.K.length) = false := decide_eq_false (by omega)
        simp only [lawG,↓Xn,↓Xo,↓Xg,↓Xd,↓Xe,↓Xf,Tryz.VΓ,Tryz.Γs,Xp,Xi,Nat.reduceAdd,Nat.reduceSub,Nat.reduceLT,Nat.reduceLeDiff,reduceIte,reduceCtorEq,Nat.reduceEqDiff,implies_true,forall_const,lawV,lawA,beq_self_eq_true,bne_self_eq_false,Int.reduceBEq,Int.reduceBNe,Int.reduceLT,Int.reduceLE,l43,l44,l45,hlt2]
        refine hk' _ _ ?_
        exact { h with }
      have hlt2 : decide ((k : Int) < j.K.length) = true := decide_eq_true (by omega)
      rcases e4 with ⟨-,hx0⟩ | ⟨i,hxi,hi⟩
      · rw [hx0] at hlt; simp at hlt
      rw [hxi] at l43
      have hbi := h.kp.at hi
      have hkt : (j.K.map SV.str)[k * 1]? = some (.str j.K[k]) := by simp [hlt]
      cases c6 : decide ((300 : Int) < j.K[k].length)
      rotate_left
      · simp only [lawG,↓Xn,↓Xo,↓Xg,↓Xd,↓Xe,↓Xf,Tryz.VΓ,Tryz.Γs,Xp,Xi,Nat.reduceAdd,Nat.reduceSub,Nat.reduceLT,Nat.reduceLeDiff,reduceIte,reduceCtorEq,Nat.reduceEqDiff,implies_true,forall_const,lawV,lawA,beq_self_eq_true,bne_self_eq_false,Int.reduceBEq,Int.reduceBNe,Int.reduceLT,Int.reduceLE,l43,l44,l45,hlt2,hbi,hkt,c6]
        exact ⟨⟨by omega,by omega⟩,by simp; omega,-1,rfl,by omega,by omega,h.kp⟩
      · simp only [lawG,↓Xn,↓Xo,↓Xg,↓Xd,↓Xe,↓Xf,Tryz.VΓ,Tryz.Γs,Xp,Xi,Nat.reduceAdd,Nat.reduceSub,Nat.reduceLT,Nat.reduceLeDiff,reduceIte,reduceCtorEq,Nat.reduceEqDiff,implies_true,forall_const,lawV,lawA,beq_self_eq_true,bne_self_eq_false,Int.reduceBEq,Int.reduceBNe,Int.reduceLT,Int.reduceLE,l43,l44,l45,hlt2,hbi,hkt,c6]
        refine ⟨⟨by omega,by omega⟩,by simp; omega,⟨by omega,by omega⟩,⟨k + 1,by omega,{ h with },hxi.symm,rfl⟩,?_⟩
        rw [lkI_eq (show lk 45 _ = some (.int .i64 ((k + 1 : Nat) : Int)) from rfl)]; omega
    clear h
    rintro m ⟨t,b⟩ h
    simp only at h
    refine vcS_cutS 2500 (fun σ => KZ bs c deep σ.t σ.b) ?_ (fun k' hk' => ?_)
    rotate_left
    · have m3 := h.l3
      have hb0 := h.b0
      rw [← hcc] at hb0
      simp only [lawG,↓Xn,↓Xo,↓Xg,↓Xd,↓Xe,↓Xf,Tryz.VΓ,Tryz.Γs,Xp,Xi,Nat.reduceAdd,Nat.reduceSub,Nat.reduceLT,Nat.reduceLeDiff,reduceIte,reduceCtorEq,Nat.reduceEqDiff,implies_true,forall_const,lawV,lawA,beq_self_eq_true,bne_self_eq_false,Int.reduceBEq,Int.reduceBNe,Int.reduceLT,Int.reduceLE,m3,hb0,v4,n2]
      refine loopV_mk (fun σ => ∃ k : Nat,k ≤ j.L.length ∧ KZ bs c deep σ.t σ.b ∧ lk 54 σ.t = some v.xi ∧ lk 55 σ.t = some (.int .i64 j.L.length) ∧ lk 56 σ.t = some (.int .i64 k)) (fun σ => j.L.length - lkI 56 σ) ⟨0,by omega,{ h with },rfl,rfl,rfl⟩ ?_
      clear h m3 hb0
      rintro ⟨t,b⟩ ⟨k,hk,h,l43,l44,l45⟩
      simp only at h l43 l44 l45
      rw [lkI_eq l45]
      by_cases hlt : k < j.L.length
      rotate_left
      · have hlt2 : decide ((k : Int) < j.L.length) = false := decide_eq_false (by omega)
        simp only [lawG,↓Xn,↓Xo,↓Xg,↓Xd,↓Xe,↓Xf,Tryz.VΓ,Tryz.Γs,Xp,Xi,Nat.reduceAdd,Nat.reduceSub,Nat.reduceLT,Nat.reduceLeDiff,reduceIte,reduceCtorEq,Nat.reduceEqDiff,implies_true,forall_const,lawV,lawA,beq_self_eq_true,bne_self_eq_false,Int.reduceBEq,Int.reduceBNe,Int.reduceLT,Int.reduceLE,l43,l44,l45,hlt2]
        refine hk' _ _ ?_
        exact { h with }
      have hlt2 : decide ((k : Int) < j.L.length) = true := decide_eq_true (by omega)
      rcases e8 with ⟨-,hx0⟩ | ⟨i,hxi,hi⟩
      · rw [hx0] at hL; simp at hL; omega
      rw [hL] at hxi
      rw [hxi] at l43
      have hbi := h.kp.at hi
      have hLk : k < Ls.length := by omega
      have hjk := e9.at k hlt hLk
      have hBk := JBs.get hB.items hlt
      have hu : List.take 4 (List.drop (k * 4) (Ls.flatMap tv)) = [.int .i64 Ls[k].k,.str Ls[k].t,Ls[k].xk,Ls[k].xi] := tv_at Ls k hLk
      have hul := tv_len Ls
      obtain ⟨l,l1,l6,l7⟩ := h.l1
      have m2 := h.l2
      generalize Ls[k] = x at hu hjk
      have hrec := fun X => ih ((hjk.ro h.kp.ro).ro ((Ro.refl b).app X)) hBk l (deep - 1) l6 l7 (by omega) (by omega) (by omega)
      obtain ⟨-,-,x3,x4⟩ := hjk.tin
      have hxo : (one x.xk && one x.xi) = true := by rw [x3,x4]; rfl
      unfold tv at hrec
      simp only [lawG,↓Xn,↓Xo,↓Xg,↓Xd,↓Xe,↓Xf,Tryz.VΓ,Tryz.Γs,Xp,Xi,Nat.reduceAdd,Nat.reduceSub,Nat.reduceLT,Nat.reduceLeDiff,reduceIte,reduceCtorEq,Nat.reduceEqDiff,implies_true,forall_const,lawV,lawA,beq_self_eq_true,bne_self_eq_false,Int.reduceBEq,Int.reduceBNe,Int.reduceLT,Int.reduceLE,l43,l44,l45,l1,m2,hlt2,hbi,hu,hul,hL,hxo]
      refine ⟨⟨by omega,by omega⟩,by omega,⟨by omega,by omega⟩,callV_sc (hrec _) ?_⟩
      rintro r b2 ⟨mm,rfl,q1,q2,hk2⟩
      cases c7 : decide (mm < 0)
      rotate_left
      · simp only [lawG,↓Xn,↓Xo,↓Xg,↓Xd,↓Xe,↓Xf,Tryz.VΓ,Tryz.Γs,Xp,Xi,Nat.reduceAdd,Nat.reduceSub,Nat.reduceLT,Nat.reduceLeDiff,reduceIte,reduceCtorEq,Nat.reduceEqDiff,implies_true,forall_const,lawV,lawA,beq_self_eq_true,bne_self_eq_false,Int.reduceBEq,Int.reduceBNe,Int.reduceLT,Int.reduceLE,c7]
        exact ⟨-1,rfl,by omega,by omega,(h.kp.app _).trans hk2⟩
      · simp only [lawG,↓Xn,↓Xo,↓Xg,↓Xd,↓Xe,↓Xf,Tryz.VΓ,Tryz.Γs,Xp,Xi,Nat.reduceAdd,Nat.reduceSub,Nat.reduceLT,Nat.reduceLeDiff,reduceIte,reduceCtorEq,Nat.reduceEqDiff,implies_true,forall_const,lawV,lawA,beq_self_eq_true,bne_self_eq_false,Int.reduceBEq,Int.reduceBNe,Int.reduceLT,Int.reduceLE,l43,l44,l45,c7]
        refine ⟨⟨by omega,by omega⟩,⟨k + 1,by omega,⟨m2,h.l3,(h.kp.app _).trans hk2,hk2.at (at_old h.b0 _),mm,rfl,q1,q2⟩,hxi.symm,rfl⟩,?_⟩
        rw [lkI_eq (show lk 56 _ = some (.int .i64 ((k + 1 : Nat) : Int)) from rfl)]; omega
    clear h
    rintro m ⟨t,b⟩ h
    simp only at h
    obtain ⟨l,l1,l6,l7⟩ := h.l1
    simp only [lawG,↓Xn,↓Xo,↓Xg,↓Xd,↓Xe,↓Xf,Tryz.VΓ,Tryz.Γs,Xp,Xi,Nat.reduceAdd,Nat.reduceSub,Nat.reduceLT,Nat.reduceLeDiff,reduceIte,reduceCtorEq,Nat.reduceEqDiff,implies_true,forall_const,lawV,lawA,beq_self_eq_true,bne_self_eq_false,Int.reduceBEq,Int.reduceBNe,Int.reduceLT,Int.reduceLE,l1]
    exact ⟨l,rfl,l6,l7,h.kp⟩
theorem sc_keep_Value {bs : List Res} {j : Jv} {v : Tv} (hv : TJ bs j v) (hB : JB 140737488355328 j) (n : Int) (h1 : -1 ≤ n) (h2 : n ≤ 1000) :
    SC Tryz.V 8 [.agg (tv v),.int .i64 n] bs (fun r b => (∃ B,r = .bool B) ∧ Kp bs b) := by
  obtain ⟨v1,v2,v3,v4⟩ := hv.tin
  have ho : (one v.xk && one v.xi) = true := by rw [v3,v4]; rfl
  refine sc_of 3000 Tryz.func8 rfl Tryz.ntmps8 Tryz.results8 Tryz.call8 (by simp) (fun β β' hb => concL_within bs.length _ (by simp [within,within.withinL,tv,v1,v2]) β β' hb) ?_
  have hs := fun X => sc_keep_size 70 (hv.ro ((Ro.refl bs).app X)) hB n 70 h1 h2 (by omega) (by omega) (by omega)
  unfold tv at hs ⊢
  simp only [lawG,↓Xn,↓Xo,↓Xg,↓Xd,↓Xe,↓Xf,Tryz.VΓ,Tryz.Γs,Xp,Xi,Nat.reduceAdd,Nat.reduceSub,Nat.reduceLT,Nat.reduceLeDiff,reduceIte,reduceCtorEq,Nat.reduceEqDiff,implies_true,forall_const,lawV,lawA,beq_self_eq_true,bne_self_eq_false,Int.reduceBEq,Int.reduceBNe,Int.reduceLT,Int.reduceLE,ho]
  refine callV_sc (hs _) ?_
  rintro r b ⟨m,rfl,q1,q2,hk⟩
  simp only [lawG,↓Xn,↓Xo,↓Xg,↓Xd,↓Xe,↓Xf,Tryz.VΓ,Tryz.Γs,Xp,Xi,Nat.reduceAdd,Nat.reduceSub,Nat.reduceLT,Nat.reduceLeDiff,reduceIte,reduceCtorEq,Nat.reduceEqDiff,implies_true,forall_const,lawV,lawA,beq_self_eq_true,bne_self_eq_false,Int.reduceBEq,Int.reduceBNe,Int.reduceLT,Int.reduceLE]
  exact ⟨⟨_,rfl⟩,((Kp.refl bs).app _).trans hk⟩
end Go.Proofs.YtejfjmcjicpodaaGreatDoor
/- The walks of reference 06: Split,Join. -/
set_option linter.all false
set_option maxRecDepth 20000
namespace Go.Proofs.YtejfjmcjicpodaaGreatDoor
open Go Vc Go.RowKit Wf
set_option linter.unusedSimpArgs false
theorem pre_one (c : UInt8) (s : Bytes) : pre (([c] : Bytes).contains ·) s = pre (· == c) s := by
  congr 1
  funext x
  by_cases h : x = c
  · subst h; simp
  · simp [h]
end Go.Proofs.YtejfjmcjicpodaaGreatDoor
/- The walks of mail.Parse and Format,and of the reference's. -/
set_option linter.all false
set_option maxRecDepth 20000
namespace Go.Proofs.YtejfjmcjicpodaaGreatDoor
open Go Vc Go.RowKit Wf
end Go.Proofs.YtejfjmcjicpodaaGreatDoor
/- The walk of the reference's Parse of mail addresses. -/
set_option linter.all false
set_option maxRecDepth 20000
namespace Go.Proofs.YtejfjmcjicpodaaGreatDoor
open Go Vc Go.RowKit Wf
end Go.Proofs.YtejfjmcjicpodaaGreatDoor
