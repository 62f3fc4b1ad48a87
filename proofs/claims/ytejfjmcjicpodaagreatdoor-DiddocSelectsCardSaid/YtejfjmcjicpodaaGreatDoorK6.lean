/- Texts of this claim,laid together: PjB,PjC,PjD,PjG,PjE,PjF,Ex,ExB,ExS,Sane17,Law17s. -/
import Derived.Test.YtejfjmcjicpodaaGreatDoorK5
/- ref14's parser: value,where array and object keep their word. -/
set_option linter.all false
set_option maxRecDepth 20000
namespace Go.Proofs.YtejfjmcjicpodaaGreatDoor
open Go Vc Go.RowKit Wf
set_option linter.unusedSimpArgs false
def POut (s : Bytes) (p a : Nat) (f : Int) (bs : List Res) (r : SV) (b : List Res) : Prop := ∃ (a' n' : Nat) (f' w' : Int),a ≤ a' ∧ a' ≤ s.length ∧ n' ≤ 20001 ∧ (f' = 0 → n' ≤ 20000 ∧ f = 0) ∧ KpP p (pcl s a' n' f' w') 53 true bs b ∧ ∃ j v,r = .agg (tv v) ∧ TJ b j v ∧ JB (s.length + 410) j
def RdOK (s : Bytes) (g : FuncId) (d : Nat) : Prop := ∀ (bs : List Res) (p a n : Nat) (f w : Int),bs[p]? = some (pbox s a n f w) → a ≤ s.length → n ≤ 20001 → (f = 0 → n ≤ 20000) → SC Tryz.V g [.p p 0,.int .i64 d] bs (POut s p a f bs)
def VlOK (s : Bytes) (d : Nat) : Prop := ∀ (bs : List Res) (p a n : Nat) (f w : Int) (k : Int) (u : Bytes) (pos : Int),bs[p]? = some (pbox s a n f w) → a ≤ s.length → n ≤ 20001 → (f = 0 → n ≤ 20000) → u.length ≤ s.length → SC Tryz.V 20 [.p p 0,.agg (tok k u pos),.int .i64 d] bs (POut s p a f bs)
def zv : List SV := [.int .i64 0,.str [],.nils,.nils]
def VJ (s : Bytes) (bs : List Res) (p d : Nat) (k : Int) (u : Bytes) (pos : Int) (a n : Nat) (f w : Int) (σ : St) : Prop := lk 0 σ.t = some (.p p 0) ∧ lk 2 σ.t = some (.int .i64 d) ∧ lk 4 σ.t = some (.p bs.length 0) ∧ lk 6 σ.t = some (.p (bs.length + 1) 0) ∧
  KpP p (pcl s a n f w) 53 true bs σ.b ∧ σ.b[bs.length]? = some (.cells (tok k u pos) 56 true) ∧ σ.b[bs.length + 1]? = some (.cells zv 25 true)
def VK (s : Bytes) (bs : List Res) (p d : Nat) (k : Int) (u : Bytes) (pos : Int) (a n : Nat) (f w k' : Int) (u' : Bytes) (σ : St) : Prop := VJ s bs p d k u pos a n f w σ ∧ ∃ q,bs.length + 1 < q ∧ lk 8 σ.t = some (.p q 0) ∧ σ.b[q]? = some (.cells [.int .i64 k',.str u',.nils,.nils] 25 true)
theorem POut.leaf {s : Bytes} {p a : Nat} {f : Int} {bs b : List Res} {a' n' : Nat} {f' w' : Int} (h1 : a ≤ a') (h2 : a' ≤ s.length) (h3 : n' ≤ 20001) (h4 : f' = 0 → n' ≤ 20000 ∧ f = 0) (hk : KpP p (pcl s a' n' f' w') 53 true bs b) (k : Int) {u : Bytes} (hu : u.length ≤ s.length + 410) (hs : s.length ≤ 1000000) : POut s p a f bs (.agg [.int .i64 k,.str u,.nils,.nils]) b :=
  ⟨a',n',f',w',h1,h2,h3,h4,hk,.mk k u [] [],⟨k,u,.nils,.nils⟩,rfl,TJ.leaf _ _ _ (by omega),JB.leaf _ hu⟩
theorem stF_ne {f e : Int} (he : e ≠ 0) : stF f e ≠ 0 := by unfold stF; split <;> simp_all
end Go.Proofs.YtejfjmcjicpodaaGreatDoor
namespace Vc
open Go.Proofs.YtejfjmcjicpodaaGreatDoor
open Go Vc Go.RowKit Wf
theorem KpP.pb {p : Nat} {s : Bytes} {a n : Nat} {f w : Int} {bs b : List Res} (h : KpP p (pcl s a n f w) 53 true bs b) : b[p]? = some (pbox s a n f w) := h.2.2
end Vc
namespace Go.Proofs.YtejfjmcjicpodaaGreatDoor
open Go Vc Go.RowKit Wf
set_option maxHeartbeats 16000000 in
theorem sc_r14_value {s : Bytes} (hs : s.length ≤ 1000000) {d : Nat} (hd : d ≤ 64) (hA : d < 64 → RdOK s 57 (d + 1)) (hO : d < 64 → RdOK s 58 (d + 1)) : VlOK s d := by
  intro bs p a n f w k u pos hp ha hn hfn hu
  have hpl := (List.getElem?_eq_some_iff.1 hp).1
  have hk0 := KpP.of (p := p) hp (Kp.refl bs)
  refine sc_of 3000 Tryz.func20 rfl Tryz.ntmps20 Tryz.results20 Tryz.call20 (by simp) (fun β β' hb => concL_within bs.length _ (by simp [within,within.withinL,tok,hpl]) β β' hb) ?_
  refine vcS_cutS 2900 (VJ s bs p d k u pos a n f w) ?_ (fun k' hk' => ?_)
  rotate_left
  · unfold tok
    simp only [lawG,↓Xn,↓Xo,↓Xg,↓Xd,↓Xe,↓Xf,Tryz.VΓ,Tryz.Γs,Xp,Xi,Nat.reduceAdd,Nat.reduceSub,Nat.reduceLT,Nat.reduceLeDiff,reduceIte,reduceCtorEq,Nat.reduceEqDiff,implies_true,forall_const,lawV,lawA,beq_self_eq_true,bne_self_eq_false,Int.reduceBEq,Int.reduceBNe,Int.reduceLT,Int.reduceLE]
    exact hk' _ _ ⟨rfl,rfl,rfl,rfl,hk0.app _,app_at0 _ _,app_at _ _ 1⟩
  rintro m ⟨t,b⟩ ⟨h0,h2,h4,h6,hkp,hb0,hb1⟩
  simp only at h0 h2 h4 h6 hkp hb0 hb1
  refine vcS_cutS 2800 (fun σ => VJ s bs p d k u pos a n f w σ ∧ ∃ g : Bool,lk 7 σ.t = some (.bool g)) ?_ (fun k' hk' => ?_)
  rotate_left
  · have i1 := p_r14_is k u pos [91]
    have i2 := p_r14_is k u pos [123]
    unfold tok at hb0 i1 i2
    cases k3 : k == 3
    rotate_left
    · simp only [lawG,↓Xn,↓Xo,↓Xg,↓Xd,↓Xe,↓Xf,Tryz.VΓ,Tryz.Γs,Xp,Xi,Nat.reduceAdd,Nat.reduceSub,Nat.reduceLT,Nat.reduceLeDiff,reduceIte,reduceCtorEq,Nat.reduceEqDiff,implies_true,forall_const,lawV,lawA,beq_self_eq_true,bne_self_eq_false,Int.reduceBEq,Int.reduceBNe,Int.reduceLT,Int.reduceLE,h0,h2,h4,h6,hb0,k3]
      exact hk' _ _ ⟨⟨by simp [lk,h0],by simp [lk,h2],by simp [lk,h4],by simp [lk,h6],hkp,hb0,hb1⟩,true,rfl⟩
    cases k4 : k == 4
    rotate_left
    · simp only [lawG,↓Xn,↓Xo,↓Xg,↓Xd,↓Xe,↓Xf,Tryz.VΓ,Tryz.Γs,Xp,Xi,Nat.reduceAdd,Nat.reduceSub,Nat.reduceLT,Nat.reduceLeDiff,reduceIte,reduceCtorEq,Nat.reduceEqDiff,implies_true,forall_const,lawV,lawA,beq_self_eq_true,bne_self_eq_false,Int.reduceBEq,Int.reduceBNe,Int.reduceLT,Int.reduceLE,h0,h2,h4,h6,hb0,k3,k4]
      exact hk' _ _ ⟨⟨by simp [lk,h0],by simp [lk,h2],by simp [lk,h4],by simp [lk,h6],hkp,hb0,hb1⟩,true,rfl⟩
    cases k5 : k == 5
    rotate_left
    · simp only [lawG,↓Xn,↓Xo,↓Xg,↓Xd,↓Xe,↓Xf,Tryz.VΓ,Tryz.Γs,Xp,Xi,Nat.reduceAdd,Nat.reduceSub,Nat.reduceLT,Nat.reduceLeDiff,reduceIte,reduceCtorEq,Nat.reduceEqDiff,implies_true,forall_const,lawV,lawA,beq_self_eq_true,bne_self_eq_false,Int.reduceBEq,Int.reduceBNe,Int.reduceLT,Int.reduceLE,h0,h2,h4,h6,hb0,k3,k4,k5]
      exact hk' _ _ ⟨⟨by simp [lk,h0],by simp [lk,h2],by simp [lk,h4],by simp [lk,h6],hkp,hb0,hb1⟩,true,rfl⟩
    simp only [lawG,↓Xn,↓Xo,↓Xg,↓Xd,↓Xe,↓Xf,Tryz.VΓ,Tryz.Γs,Xp,Xi,Nat.reduceAdd,Nat.reduceSub,Nat.reduceLT,Nat.reduceLeDiff,reduceIte,reduceCtorEq,Nat.reduceEqDiff,implies_true,forall_const,lawV,lawA,beq_self_eq_true,bne_self_eq_false,Int.reduceBEq,Int.reduceBNe,Int.reduceLT,Int.reduceLE,h0,h2,h4,h6,hb0,k3,k4,k5]
    refine callV_pc i1 ?_
    cases c1 : (k == 2 && u == [91])
    · simp only [lawG,↓Xn,↓Xo,↓Xg,↓Xd,↓Xe,↓Xf,Tryz.VΓ,Tryz.Γs,Xp,Xi,Nat.reduceAdd,Nat.reduceSub,Nat.reduceLT,Nat.reduceLeDiff,reduceIte,reduceCtorEq,Nat.reduceEqDiff,implies_true,forall_const,lawV,lawA,beq_self_eq_true,bne_self_eq_false,Int.reduceBEq,Int.reduceBNe,Int.reduceLT,Int.reduceLE,h0,h2,h4,h6,hb0]
      refine callV_pc i2 ?_
      simp only [lawG,↓Xn,↓Xo,↓Xg,↓Xd,↓Xe,↓Xf,Tryz.VΓ,Tryz.Γs,Xp,Xi,Nat.reduceAdd,Nat.reduceSub,Nat.reduceLT,Nat.reduceLeDiff,reduceIte,reduceCtorEq,Nat.reduceEqDiff,implies_true,forall_const,lawV,lawA,beq_self_eq_true,bne_self_eq_false,Int.reduceBEq,Int.reduceBNe,Int.reduceLT,Int.reduceLE,h0,h2,h4,h6,hb0]
      exact hk' _ _ ⟨⟨by simp [lk,h0],by simp [lk,h2],by simp [lk,h4],by simp [lk,h6],hkp,hb0,hb1⟩,_,rfl⟩
    · simp only [lawG,↓Xn,↓Xo,↓Xg,↓Xd,↓Xe,↓Xf,Tryz.VΓ,Tryz.Γs,Xp,Xi,Nat.reduceAdd,Nat.reduceSub,Nat.reduceLT,Nat.reduceLeDiff,reduceIte,reduceCtorEq,Nat.reduceEqDiff,implies_true,forall_const,lawV,lawA,beq_self_eq_true,bne_self_eq_false,Int.reduceBEq,Int.reduceBNe,Int.reduceLT,Int.reduceLE,h0,h2,h4,h6,hb0]
      exact hk' _ _ ⟨⟨by simp [lk,h0],by simp [lk,h2],by simp [lk,h4],by simp [lk,h6],hkp,hb0,hb1⟩,true,rfl⟩
  rintro m ⟨t,b⟩ ⟨⟨h0,h2,h4,h6,hkp,hb0,hb1⟩,g,h7⟩
  simp only at h0 h2 h4 h6 h7 hkp hb0 hb1
  refine vcS_cutS 2700 (fun σ => f = 0 ∧ VJ s bs p d k u pos a n f w σ ∧ lk 7 σ.t = some (.bool g)) ?_ (fun k' hk' => ?_)
  rotate_left
  · have hbp := hkp.2.2
    unfold pcl at hbp
    unfold zv at hb1
    cases hf : f != 0
    · simp only [lawG,↓Xn,↓Xo,↓Xg,↓Xd,↓Xe,↓Xf,Tryz.VΓ,Tryz.Γs,Xp,Xi,Nat.reduceAdd,Nat.reduceSub,Nat.reduceLT,Nat.reduceLeDiff,reduceIte,reduceCtorEq,Nat.reduceEqDiff,implies_true,forall_const,lawV,lawA,beq_self_eq_true,bne_self_eq_false,Int.reduceBEq,Int.reduceBNe,Int.reduceLT,Int.reduceLE,h0,h2,h4,h6,h7,hbp,hf]
      exact hk' _ _ ⟨by simpa using hf,⟨by simp [lk,h0],by simp [lk,h2],by simp [lk,h4],by simp [lk,h6],hkp,hb0,hb1⟩,by simp [lk,h7]⟩
    · have hl1 := (List.getElem?_eq_some_iff.1 hb1).1
      have hg1 : ∀ X,(b.set (bs.length + 1) X)[bs.length + 1]? = some X := fun X => List.getElem?_set_self hl1
      simp only [lawG,↓Xn,↓Xo,↓Xg,↓Xd,↓Xe,↓Xf,Tryz.VΓ,Tryz.Γs,Xp,Xi,Nat.reduceAdd,Nat.reduceSub,Nat.reduceLT,Nat.reduceLeDiff,reduceIte,reduceCtorEq,Nat.reduceEqDiff,implies_true,forall_const,lawV,lawA,beq_self_eq_true,bne_self_eq_false,Int.reduceBEq,Int.reduceBNe,Int.reduceLT,Int.reduceLE,h0,h2,h4,h6,h7,hbp,hb1,hf,hg1]
      exact POut.leaf (Nat.le_refl _) ha hn (fun h => by rw [h] at hf; simp at hf) (hkp.setN (by omega) (by omega) _) 0 (by simp) hs
  rintro m ⟨t,b⟩ ⟨rfl,⟨h0,h2,h4,h6,hkp,hb0,hb1⟩,h7⟩
  simp only at h0 h2 h4 h6 h7 hkp hb0 hb1
  have hn0 := hfn rfl
  refine vcS_cutS 2600 (VJ s bs p d k u pos a n 0 w) ?_ (fun k' hk' => ?_)
  rotate_left
  · cases g
    · have hst := sc_r14_stop hkp.pb pos 140
      unfold tok at hb0
      simp only [lawG,↓Xn,↓Xo,↓Xg,↓Xd,↓Xe,↓Xf,Tryz.VΓ,Tryz.Γs,Xp,Xi,Nat.reduceAdd,Nat.reduceSub,Nat.reduceLT,Nat.reduceLeDiff,reduceIte,reduceCtorEq,Nat.reduceEqDiff,implies_true,forall_const,lawV,lawA,beq_self_eq_true,bne_self_eq_false,Int.reduceBEq,Int.reduceBNe,Int.reduceLT,Int.reduceLE,h0,h2,h4,h6,h7,hb0]
      refine callV_sc hst ?_
      rintro r b' ⟨rfl,rfl⟩
      (have hkp' := hkp.set (pcl s a n (stF 0 140) (stW 0 w pos)) 53 true
       have hb1' := get_setN hb1 (show p ≠ bs.length + 1 by omega) (pbox s a n (stF 0 140) (stW 0 w pos))
       unfold pbox at hb1' ⊢
       generalize b.set p (.cells (pcl s a n (stF 0 140) (stW 0 w pos)) 53 true) = b' at hkp' hb1' ⊢
       have hl1 := (List.getElem?_eq_some_iff.1 hb1').1
       have hg1 : ∀ X,(b'.set (bs.length + 1) X)[bs.length + 1]? = some X := fun X => List.getElem?_set_self hl1
       unfold zv at hb1'
       simp only [lawG,↓Xn,↓Xo,↓Xg,↓Xd,↓Xe,↓Xf,Tryz.VΓ,Tryz.Γs,Xp,Xi,Nat.reduceAdd,Nat.reduceSub,Nat.reduceLT,Nat.reduceLeDiff,reduceIte,reduceCtorEq,Nat.reduceEqDiff,implies_true,forall_const,lawV,lawA,beq_self_eq_true,bne_self_eq_false,Int.reduceBEq,Int.reduceBNe,Int.reduceLT,Int.reduceLE,h0,h2,h4,h6,hb1',hg1]
       exact POut.leaf (Nat.le_refl _) ha hn (fun h => absurd h (stF_ne (by decide))) (hkp'.setN (by omega) (by omega) _) 0 (by simp) hs)
    · simp only [lawG,↓Xn,↓Xo,↓Xg,↓Xd,↓Xe,↓Xf,Tryz.VΓ,Tryz.Γs,Xp,Xi,Nat.reduceAdd,Nat.reduceSub,Nat.reduceLT,Nat.reduceLeDiff,reduceIte,reduceCtorEq,Nat.reduceEqDiff,implies_true,forall_const,lawV,lawA,beq_self_eq_true,bne_self_eq_false,Int.reduceBEq,Int.reduceBNe,Int.reduceLT,Int.reduceLE,h0,h2,h4,h6,h7]
      exact hk' _ _ ⟨by simp [lk,h0],by simp [lk,h2],by simp [lk,h4],by simp [lk,h6],hkp,hb0,hb1⟩
  clear h7
  rintro m ⟨t,b⟩ ⟨h0,h2,h4,h6,hkp,hb0,hb1⟩
  simp only at h0 h2 h4 h6 hkp hb0 hb1
  refine vcS_cutS 2500 (fun σ => VJ s bs p d k u pos a n 0 w σ ∧ ((k == 2) = true → d < 64)) ?_ (fun k' hk' => ?_)
  rotate_left
  · have hst := sc_r14_stop hkp.pb pos 141
    have hb0' := hb0
    unfold tok at hb0
    cases k2 : k == 2
    · simp only [lawG,↓Xn,↓Xo,↓Xg,↓Xd,↓Xe,↓Xf,Tryz.VΓ,Tryz.Γs,Xp,Xi,Nat.reduceAdd,Nat.reduceSub,Nat.reduceLT,Nat.reduceLeDiff,reduceIte,reduceCtorEq,Nat.reduceEqDiff,implies_true,forall_const,lawV,lawA,beq_self_eq_true,bne_self_eq_false,Int.reduceBEq,Int.reduceBNe,Int.reduceLT,Int.reduceLE,h0,h2,h4,h6,hb0,k2]
      exact hk' _ _ ⟨⟨by simp [lk,h0],by simp [lk,h2],by simp [lk,h4],by simp [lk,h6],hkp,hb0',hb1⟩,fun h => by rw [k2] at h; cases h⟩
    · cases kd : (d : Int) == 64
      · simp only [lawG,↓Xn,↓Xo,↓Xg,↓Xd,↓Xe,↓Xf,Tryz.VΓ,Tryz.Γs,Xp,Xi,Nat.reduceAdd,Nat.reduceSub,Nat.reduceLT,Nat.reduceLeDiff,reduceIte,reduceCtorEq,Nat.reduceEqDiff,implies_true,forall_const,lawV,lawA,beq_self_eq_true,bne_self_eq_false,Int.reduceBEq,Int.reduceBNe,Int.reduceLT,Int.reduceLE,h0,h2,h4,h6,hb0,k2,kd]
        exact hk' _ _ ⟨⟨by simp [lk,h0],by simp [lk,h2],by simp [lk,h4],by simp [lk,h6],hkp,hb0',hb1⟩,fun _ => by simp at kd; omega⟩
      · simp only [lawG,↓Xn,↓Xo,↓Xg,↓Xd,↓Xe,↓Xf,Tryz.VΓ,Tryz.Γs,Xp,Xi,Nat.reduceAdd,Nat.reduceSub,Nat.reduceLT,Nat.reduceLeDiff,reduceIte,reduceCtorEq,Nat.reduceEqDiff,implies_true,forall_const,lawV,lawA,beq_self_eq_true,bne_self_eq_false,Int.reduceBEq,Int.reduceBNe,Int.reduceLT,Int.reduceLE,h0,h2,h4,h6,hb0,k2,kd]
        refine callV_sc hst ?_
        rintro r b' ⟨rfl,rfl⟩
        (have hkp' := hkp.set (pcl s a n (stF 0 141) (stW 0 w pos)) 53 true
         have hb1' := get_setN hb1 (show p ≠ bs.length + 1 by omega) (pbox s a n (stF 0 141) (stW 0 w pos))
         unfold pbox at hb1' ⊢
         generalize b.set p (.cells (pcl s a n (stF 0 141) (stW 0 w pos)) 53 true) = b' at hkp' hb1' ⊢
         have hl1 := (List.getElem?_eq_some_iff.1 hb1').1
         have hg1 : ∀ X,(b'.set (bs.length + 1) X)[bs.length + 1]? = some X := fun X => List.getElem?_set_self hl1
         unfold zv at hb1'
         simp only [lawG,↓Xn,↓Xo,↓Xg,↓Xd,↓Xe,↓Xf,Tryz.VΓ,Tryz.Γs,Xp,Xi,Nat.reduceAdd,Nat.reduceSub,Nat.reduceLT,Nat.reduceLeDiff,reduceIte,reduceCtorEq,Nat.reduceEqDiff,implies_true,forall_const,lawV,lawA,beq_self_eq_true,bne_self_eq_false,Int.reduceBEq,Int.reduceBNe,Int.reduceLT,Int.reduceLE,h0,h2,h4,h6,hb1',hg1]
         exact POut.leaf (Nat.le_refl _) ha hn (fun h => absurd h (stF_ne (by decide))) (hkp'.setN (by omega) (by omega) _) 0 (by simp) hs)
  rintro m ⟨t,b⟩ ⟨⟨h0,h2,h4,h6,hkp,hb0,hb1⟩,hkd⟩
  simp only at h0 h2 h4 h6 hkp hb0 hb1
  refine vcS_cutS 2400 (VK s bs p d k u pos a n 0 w 5 u) ?_ (fun k' hk' => ?_)
  rotate_left
  · have hb0' := hb0
    unfold tok at hb0
    simp only [lawG,↓Xn,↓Xo,↓Xg,↓Xd,↓Xe,↓Xf,Tryz.VΓ,Tryz.Γs,Xp,Xi,Nat.reduceAdd,Nat.reduceSub,Nat.reduceLT,Nat.reduceLeDiff,reduceIte,reduceCtorEq,Nat.reduceEqDiff,implies_true,forall_const,lawV,lawA,beq_self_eq_true,bne_self_eq_false,Int.reduceBEq,Int.reduceBNe,Int.reduceLT,Int.reduceLE,h0,h2,h4,h6,hb0]
    exact hk' _ _ ⟨⟨by simp [lk,h0],by simp [lk,h2],by simp [lk,h4],by simp [lk,h6],hkp.app _,at_old hb0' _,at_old hb1 _⟩,b.length,(List.getElem?_eq_some_iff.1 hb1).1,rfl,app_at0 _ _⟩
  rintro m ⟨t,b⟩ ⟨⟨h0,h2,h4,h6,hkp,hb0,hb1⟩,q,hq,h8,hbq⟩
  simp only at h0 h2 h4 h6 h8 hkp hb0 hb1 hbq
  refine vcS_cutS 2300 (fun σ => ∃ (kk : Int) (u' : Bytes) (f' w' : Int),u'.length ≤ s.length + 410 ∧ VK s bs p d k u pos a n f' w' kk u' σ) ?_ (fun k' hk' => ?_)
  rotate_left
  · have hb0' := hb0
    have hqp : p ≠ q := by omega
    have hql := (List.getElem?_eq_some_iff.1 hbq).1
    unfold tok at hb0
    cases k4 : k == 4
    · simp only [lawG,↓Xn,↓Xo,↓Xg,↓Xd,↓Xe,↓Xf,Tryz.VΓ,Tryz.Γs,Xp,Xi,Nat.reduceAdd,Nat.reduceSub,Nat.reduceLT,Nat.reduceLeDiff,reduceIte,reduceCtorEq,Nat.reduceEqDiff,implies_true,forall_const,lawV,lawA,beq_self_eq_true,bne_self_eq_false,Int.reduceBEq,Int.reduceBNe,Int.reduceLT,Int.reduceLE,h0,h2,h4,h6,h8,hb0,k4]
      exact hk' _ _ ⟨5,u,0,w,by omega,⟨by simp [lk,h0],by simp [lk,h2],by simp [lk,h4],by simp [lk,h6],hkp,hb0',hb1⟩,q,hq,by simp [lk,h8],hbq⟩
    · obtain ⟨_,p1,u',e,rfl,hu'⟩ := px_r13_Number u (by omega)
      simp only [lawG,↓Xn,↓Xo,↓Xg,↓Xd,↓Xe,↓Xf,Tryz.VΓ,Tryz.Γs,Xp,Xi,Nat.reduceAdd,Nat.reduceSub,Nat.reduceLT,Nat.reduceLeDiff,reduceIte,reduceCtorEq,Nat.reduceEqDiff,implies_true,forall_const,lawV,lawA,beq_self_eq_true,bne_self_eq_false,Int.reduceBEq,Int.reduceBNe,Int.reduceLT,Int.reduceLE,h0,h2,h4,h6,h8,hb0,k4]
      refine callV_pc p1 ?_
      cases he : e != 0
      · simp only [lawG,↓Xn,↓Xo,↓Xg,↓Xd,↓Xe,↓Xf,Tryz.VΓ,Tryz.Γs,Xp,Xi,Nat.reduceAdd,Nat.reduceSub,Nat.reduceLT,Nat.reduceLeDiff,reduceIte,reduceCtorEq,Nat.reduceEqDiff,implies_true,forall_const,lawV,lawA,beq_self_eq_true,bne_self_eq_false,Int.reduceBEq,Int.reduceBNe,Int.reduceLT,Int.reduceLE,h0,h2,h4,h6,h8,hb0,hbq,he]
        exact hk' _ _ ⟨4,u',0,w,by omega,⟨by simp [lk,h0],by simp [lk,h2],by simp [lk,h4],by simp [lk,h6],hkp.setN (by omega) (by omega) _,get_setN hb0' (by omega) _,get_setN hb1 (by omega) _⟩,q,hq,by simp [lk,h8],List.getElem?_set_self hql⟩
      · have hst := sc_r14_stop hkp.pb pos e
        simp only [lawG,↓Xn,↓Xo,↓Xg,↓Xd,↓Xe,↓Xf,Tryz.VΓ,Tryz.Γs,Xp,Xi,Nat.reduceAdd,Nat.reduceSub,Nat.reduceLT,Nat.reduceLeDiff,reduceIte,reduceCtorEq,Nat.reduceEqDiff,implies_true,forall_const,lawV,lawA,beq_self_eq_true,bne_self_eq_false,Int.reduceBEq,Int.reduceBNe,Int.reduceLT,Int.reduceLE,h0,h2,h4,h6,h8,hb0,he]
        refine callV_sc hst ?_
        rintro r b' ⟨rfl,rfl⟩
        have hkp' := hkp.set (pcl s a n (stF 0 e) (stW 0 w pos)) 53 true
        have hb0'' := get_setN hb0' (show p ≠ bs.length by omega) (pbox s a n (stF 0 e) (stW 0 w pos))
        have hb1' := get_setN hb1 (show p ≠ bs.length + 1 by omega) (pbox s a n (stF 0 e) (stW 0 w pos))
        have hbq' := get_setN hbq hqp (pbox s a n (stF 0 e) (stW 0 w pos))
        unfold pbox at hb0'' hb1' hbq' ⊢
        generalize b.set p (.cells (pcl s a n (stF 0 e) (stW 0 w pos)) 53 true) = b' at hkp' hb0'' hb1' hbq' ⊢
        simp only [lawG,↓Xn,↓Xo,↓Xg,↓Xd,↓Xe,↓Xf,Tryz.VΓ,Tryz.Γs,Xp,Xi,Nat.reduceAdd,Nat.reduceSub,Nat.reduceLT,Nat.reduceLeDiff,reduceIte,reduceCtorEq,Nat.reduceEqDiff,implies_true,forall_const,lawV,lawA,beq_self_eq_true,bne_self_eq_false,Int.reduceBEq,Int.reduceBNe,Int.reduceLT,Int.reduceLE,h0,h2,h4,h6,h8,hbq']
        exact hk' _ _ ⟨4,u',_,_,by omega,⟨by simp [lk,h0],by simp [lk,h2],by simp [lk,h4],by simp [lk,h6],hkp'.setN (by omega) (by omega) _,get_setN hb0'' (by omega) _,get_setN hb1' (by omega) _⟩,q,hq,by simp [lk,h8],List.getElem?_set_self (List.getElem?_eq_some_iff.1 hbq').1⟩
  clear h8 hbq hq
  rintro m ⟨t,b⟩ ⟨kk,u',f',w',hu',⟨h0,h2,h4,h6,hkp,hb0,hb1⟩,q,hq,h8,hbq⟩
  simp only at h0 h2 h4 h6 h8 hkp hb0 hb1 hbq
  refine vcS_cutS 2200 (fun σ => ∃ (f' w' : Int),(f' = 0 → n + 1 ≤ 20000) ∧ VK s bs p d k u pos a (n + 1) f' w' kk u' σ) ?_ (fun k' hk' => ?_)
  rotate_left
  · have hqp : p ≠ q := by omega
    refine vcS_cutS 2250 (VK s bs p d k u pos a (n + 1) f' w' kk u') ?_ (fun k' hk' => ?_)
    rotate_left
    · have hbp := hkp.2.2
      unfold pcl at hbp
      simp only [lawG,↓Xn,↓Xo,↓Xg,↓Xd,↓Xe,↓Xf,Tryz.VΓ,Tryz.Γs,Xp,Xi,Nat.reduceAdd,Nat.reduceSub,Nat.reduceLT,Nat.reduceLeDiff,reduceIte,reduceCtorEq,Nat.reduceEqDiff,implies_true,forall_const,lawV,lawA,beq_self_eq_true,bne_self_eq_false,Int.reduceBEq,Int.reduceBNe,Int.reduceLT,Int.reduceLE,h0,h2,h4,h6,h8,hbp]
      exact ⟨by omega,hk' _ _ ⟨⟨by simp [lk,h0],by simp [lk,h2],by simp [lk,h4],by simp [lk,h6],hkp.set (pcl s a (n + 1) f' w') _ _,get_setN hb0 (by omega) _,get_setN hb1 (by omega) _⟩,q,hq,by simp [lk,h8],get_setN hbq hqp _⟩⟩
    clear h0 h2 h4 h6 h8 hbq hb0 hb1 hkp hq
    rintro m ⟨t,b⟩ ⟨⟨h0,h2,h4,h6,hkp,hb0,hb1⟩,q,hq,h8,hbq⟩
    simp only at h0 h2 h4 h6 h8 hkp hb0 hb1 hbq
    have hqp : p ≠ q := by omega
    have hbp := hkp.2.2
    have hb0' := hb0
    unfold pcl at hbp
    unfold tok at hb0'
    cases hc : decide ((20000 : Int) < ((n + 1 : Nat) : Int))
    · simp only [lawG,↓Xn,↓Xo,↓Xg,↓Xd,↓Xe,↓Xf,Tryz.VΓ,Tryz.Γs,Xp,Xi,Nat.reduceAdd,Nat.reduceSub,Nat.reduceLT,Nat.reduceLeDiff,reduceIte,reduceCtorEq,Nat.reduceEqDiff,implies_true,forall_const,lawV,lawA,beq_self_eq_true,bne_self_eq_false,Int.reduceBEq,Int.reduceBNe,Int.reduceLT,Int.reduceLE,h0,h2,h4,h6,h8,hbp,hc]
      exact hk' _ _ ⟨f',w',fun _ => by simp at hc; omega,⟨by simp [lk,h0],by simp [lk,h2],by simp [lk,h4],by simp [lk,h6],hkp,hb0,hb1⟩,q,hq,by simp [lk,h8],hbq⟩
    · have hst := sc_r14_stop hkp.pb pos 142
      simp only [lawG,↓Xn,↓Xo,↓Xg,↓Xd,↓Xe,↓Xf,Tryz.VΓ,Tryz.Γs,Xp,Xi,Nat.reduceAdd,Nat.reduceSub,Nat.reduceLT,Nat.reduceLeDiff,reduceIte,reduceCtorEq,Nat.reduceEqDiff,implies_true,forall_const,lawV,lawA,beq_self_eq_true,bne_self_eq_false,Int.reduceBEq,Int.reduceBNe,Int.reduceLT,Int.reduceLE,h0,h2,h4,h6,h8,hbp,hb0',hc]
      refine callV_sc hst ?_
      rintro r b' ⟨rfl,rfl⟩
      simp only [lawG,↓Xn,↓Xo,↓Xg,↓Xd,↓Xe,↓Xf,Tryz.VΓ,Tryz.Γs,Xp,Xi,Nat.reduceAdd,Nat.reduceSub,Nat.reduceLT,Nat.reduceLeDiff,reduceIte,reduceCtorEq,Nat.reduceEqDiff,implies_true,forall_const,lawV,lawA,beq_self_eq_true,bne_self_eq_false,Int.reduceBEq,Int.reduceBNe,Int.reduceLT,Int.reduceLE,h0,h2,h4,h6,h8]
      exact hk' _ _ ⟨stF f' 142,stW f' w' pos,fun h => absurd h (stF_ne (by decide)),⟨by simp [lk,h0],by simp [lk,h2],by simp [lk,h4],by simp [lk,h6],hkp.set _ _ _,get_setN hb0 (by omega) _,get_setN hb1 (by omega) _⟩,q,hq,by simp [lk,h8],get_setN hbq hqp _⟩
  clear h0 h2 h4 h6 h8 hbq hb0 hb1 hkp hq
  rintro m ⟨t,b⟩ ⟨f',w',hn1,⟨h0,h2,h4,h6,hkp,hb0,hb1⟩,q,hq,h8,hbq⟩
  simp only at h0 h2 h4 h6 h8 hkp hb0 hb1 hbq
  have hl1 := (List.getElem?_eq_some_iff.1 hb1).1
  have hg1 : ∀ X,(b.set (bs.length + 1) X)[bs.length + 1]? = some X := fun X => List.getElem?_set_self hl1
  have hbq0 := hbq
  have hb1' := hb1
  unfold zv at hb1
  refine vcS_cutS 2100 (VK s bs p d k u pos a (n + 1) f' w' kk u') ?_ (fun k' hk' => ?_)
  rotate_left
  · have hb0' := hb0
    have i1 := p_r14_is k u pos [91]
    have i2 := p_r14_is k u pos [123]
    unfold tok at hb0' i1 i2
    cases k5 : k == 5
    rotate_left
    · obtain ⟨_,p1,x,rfl⟩ := px_r14_word u
      simp only [lawG,↓Xn,↓Xo,↓Xg,↓Xd,↓Xe,↓Xf,Tryz.VΓ,Tryz.Γs,Xp,Xi,Nat.reduceAdd,Nat.reduceSub,Nat.reduceLT,Nat.reduceLeDiff,reduceIte,reduceCtorEq,Nat.reduceEqDiff,implies_true,forall_const,lawV,lawA,beq_self_eq_true,bne_self_eq_false,Int.reduceBEq,Int.reduceBNe,Int.reduceLT,Int.reduceLE,h0,h2,h4,h6,h8,hb0',k5]
      (refine callV_pc (p1) ?_; simp only [lawG,↓Xn,↓Xo,↓Xg,↓Xd,↓Xe,↓Xf,Tryz.VΓ,Tryz.Γs,Xp,Xi,Nat.reduceAdd,Nat.reduceSub,Nat.reduceLT,Nat.reduceLeDiff,reduceIte,reduceCtorEq,Nat.reduceEqDiff,implies_true,forall_const,lawV,lawA,beq_self_eq_true,bne_self_eq_false,Int.reduceBEq,Int.reduceBNe,Int.reduceLT,Int.reduceLE,h0,h2,h4,h6,h8,hb1,hg1])
      exact POut.leaf (Nat.le_refl _) ha (by omega) (fun h => ⟨hn1 h,rfl⟩) (hkp.setN (by omega) (by omega) _) x (by simp) hs
    simp only [lawG,↓Xn,↓Xo,↓Xg,↓Xd,↓Xe,↓Xf,Tryz.VΓ,Tryz.Γs,Xp,Xi,Nat.reduceAdd,Nat.reduceSub,Nat.reduceLT,Nat.reduceLeDiff,reduceIte,reduceCtorEq,Nat.reduceEqDiff,implies_true,forall_const,lawV,lawA,beq_self_eq_true,bne_self_eq_false,Int.reduceBEq,Int.reduceBNe,Int.reduceLT,Int.reduceLE,h0,h2,h4,h6,h8,hb0',k5]
    refine callV_pc i1 ?_
    cases c1 : (k == 2 && u == [91])
    rotate_left
    · simp only [Bool.and_eq_true] at c1
      have hcall := hA (hkd c1.1) b p a (n + 1) f' w' hkp.pb ha (by omega) hn1
      simp only [lawG,↓Xn,↓Xo,↓Xg,↓Xd,↓Xe,↓Xf,Tryz.VΓ,Tryz.Γs,Xp,Xi,Nat.reduceAdd,Nat.reduceSub,Nat.reduceLT,Nat.reduceLeDiff,reduceIte,reduceCtorEq,Nat.reduceEqDiff,implies_true,forall_const,lawV,lawA,beq_self_eq_true,bne_self_eq_false,Int.reduceBEq,Int.reduceBNe,Int.reduceLT,Int.reduceLE,h0,h2,h4,h6,h8]
      (refine ⟨by omega,callV_sc hcall ?_⟩
       rintro r b' ⟨a1,n1,f1,w1,g1,g2,g3,g4,gk,j,v,rfl,hj,hjb⟩
       have hb1'' := gk.at hb1 (by omega)
       have hl1' := (List.getElem?_eq_some_iff.1 hb1'').1
       have hg1' : ∀ X,(b'.set (bs.length + 1) X)[bs.length + 1]? = some X := fun X => List.getElem?_set_self hl1'
       obtain ⟨v1,v2,v3,v4⟩ := hj.tin
       have ho : (one v.xk && one v.xi) = true := by rw [v3,v4]; rfl
       unfold tv
       simp only [lawG,↓Xn,↓Xo,↓Xg,↓Xd,↓Xe,↓Xf,Tryz.VΓ,Tryz.Γs,Xp,Xi,Nat.reduceAdd,Nat.reduceSub,Nat.reduceLT,Nat.reduceLeDiff,reduceIte,reduceCtorEq,Nat.reduceEqDiff,implies_true,forall_const,lawV,lawA,beq_self_eq_true,bne_self_eq_false,Int.reduceBEq,Int.reduceBNe,Int.reduceLT,Int.reduceLE,h0,h2,h4,h6,h8,hb1'',hg1',ho]
       exact ⟨a1,n1,f1,w1,g1,g2,g3,fun h => ⟨(g4 h).1,rfl⟩,(hkp.trans gk).setN (by omega) (by omega) _,j,v,rfl,hj.ro ((Ro.refl _).set (fun c e s n hx => by rw [hb1''] at hx; cases hx) _),hjb⟩)
    simp only [lawG,↓Xn,↓Xo,↓Xg,↓Xd,↓Xe,↓Xf,Tryz.VΓ,Tryz.Γs,Xp,Xi,Nat.reduceAdd,Nat.reduceSub,Nat.reduceLT,Nat.reduceLeDiff,reduceIte,reduceCtorEq,Nat.reduceEqDiff,implies_true,forall_const,lawV,lawA,beq_self_eq_true,bne_self_eq_false,Int.reduceBEq,Int.reduceBNe,Int.reduceLT,Int.reduceLE,h0,h2,h4,h6,h8,hb0']
    refine callV_pc i2 ?_
    cases c2 : (k == 2 && u == [123])
    rotate_left
    · simp only [Bool.and_eq_true] at c2
      have hcall := hO (hkd c2.1) b p a (n + 1) f' w' hkp.pb ha (by omega) hn1
      simp only [lawG,↓Xn,↓Xo,↓Xg,↓Xd,↓Xe,↓Xf,Tryz.VΓ,Tryz.Γs,Xp,Xi,Nat.reduceAdd,Nat.reduceSub,Nat.reduceLT,Nat.reduceLeDiff,reduceIte,reduceCtorEq,Nat.reduceEqDiff,implies_true,forall_const,lawV,lawA,beq_self_eq_true,bne_self_eq_false,Int.reduceBEq,Int.reduceBNe,Int.reduceLT,Int.reduceLE,h0,h2,h4,h6,h8]
      (refine ⟨by omega,callV_sc hcall ?_⟩
       rintro r b' ⟨a1,n1,f1,w1,g1,g2,g3,g4,gk,j,v,rfl,hj,hjb⟩
       have hb1'' := gk.at hb1 (by omega)
       have hl1' := (List.getElem?_eq_some_iff.1 hb1'').1
       have hg1' : ∀ X,(b'.set (bs.length + 1) X)[bs.length + 1]? = some X := fun X => List.getElem?_set_self hl1'
       obtain ⟨v1,v2,v3,v4⟩ := hj.tin
       have ho : (one v.xk && one v.xi) = true := by rw [v3,v4]; rfl
       unfold tv
       simp only [lawG,↓Xn,↓Xo,↓Xg,↓Xd,↓Xe,↓Xf,Tryz.VΓ,Tryz.Γs,Xp,Xi,Nat.reduceAdd,Nat.reduceSub,Nat.reduceLT,Nat.reduceLeDiff,reduceIte,reduceCtorEq,Nat.reduceEqDiff,implies_true,forall_const,lawV,lawA,beq_self_eq_true,bne_self_eq_false,Int.reduceBEq,Int.reduceBNe,Int.reduceLT,Int.reduceLE,h0,h2,h4,h6,h8,hb1'',hg1',ho]
       exact ⟨a1,n1,f1,w1,g1,g2,g3,fun h => ⟨(g4 h).1,rfl⟩,(hkp.trans gk).setN (by omega) (by omega) _,j,v,rfl,hj.ro ((Ro.refl _).set (fun c e s n hx => by rw [hb1''] at hx; cases hx) _),hjb⟩)
    simp only [lawG,↓Xn,↓Xo,↓Xg,↓Xd,↓Xe,↓Xf,Tryz.VΓ,Tryz.Γs,Xp,Xi,Nat.reduceAdd,Nat.reduceSub,Nat.reduceLT,Nat.reduceLeDiff,reduceIte,reduceCtorEq,Nat.reduceEqDiff,implies_true,forall_const,lawV,lawA,beq_self_eq_true,bne_self_eq_false,Int.reduceBEq,Int.reduceBNe,Int.reduceLT,Int.reduceLE,h0,h2,h4,h6,h8]
    exact hk' _ _ ⟨⟨by simp [lk,h0],by simp [lk,h2],by simp [lk,h4],by simp [lk,h6],hkp,hb0,hb1'⟩,q,hq,by simp [lk,h8],hbq⟩
  clear h0 h2 h4 h6 h8 hbq hbq0 hb0 hb1 hb1' hkp hq hl1 hg1
  rintro m ⟨t,b⟩ ⟨⟨h0,h2,h4,h6,hkp,hb0,hb1⟩,q,hq,h8,hbq⟩
  simp only at h0 h2 h4 h6 h8 hkp hb0 hb1 hbq
  have hl1 := (List.getElem?_eq_some_iff.1 hb1).1
  have hg1 : ∀ X,(b.set (bs.length + 1) X)[bs.length + 1]? = some X := fun X => List.getElem?_set_self hl1
  unfold zv at hb1
  simp only [lawG,↓Xn,↓Xo,↓Xg,↓Xd,↓Xe,↓Xf,Tryz.VΓ,Tryz.Γs,Xp,Xi,Nat.reduceAdd,Nat.reduceSub,Nat.reduceLT,Nat.reduceLeDiff,reduceIte,reduceCtorEq,Nat.reduceEqDiff,implies_true,forall_const,lawV,lawA,beq_self_eq_true,bne_self_eq_false,Int.reduceBEq,Int.reduceBNe,Int.reduceLT,Int.reduceLE,h0,h2,h4,h6,h8,hbq,hb1,hg1]
  exact POut.leaf (Nat.le_refl _) ha (by omega) (fun h => ⟨hn1 h,rfl⟩) (hkp.setN (by omega) (by omega) _) kk hu' hs
end Go.Proofs.YtejfjmcjicpodaaGreatDoor
/- ref14's parser: the state of array and object. -/
set_option linter.all false
set_option maxRecDepth 20000
namespace Go.Proofs.YtejfjmcjicpodaaGreatDoor
open Go Vc Go.RowKit Wf
set_option linter.unusedSimpArgs false
structure AS (K : Int) (s : Bytes) (bs : List Res) (p d : Nat) (a n : Nat) (f w k : Int) (u : Bytes) (pos : Int) (yk y : SV) (Ks : List Bytes) (Ls : List Tv) (Js : List Jv) (t : List (Nat × SV)) (b : List Res) : Prop where
  l0 : lk 0 t = some (.p p 0)
  l1 : lk 1 t = some (.int .i64 d)
  l4 : lk 4 t = some (.p bs.length 0)
  l5 : lk 5 t = some (.p (bs.length + 1) 0)
  l6 : lk 6 t = some (.p (bs.length + 2) 0)
  pl : p < bs.length
  kp : KpP p (pcl s a n f w) 53 true bs b
  b0 : b[bs.length]? = some (.cells zv 25 true)
  b1 : b[bs.length + 1]? = some (.cells [.int .i64 K,.str [],yk,y] 25 true)
  b2 : b[bs.length + 2]? = some (.cells (tok k u pos) 56 true)
  rk : (yk = .nils ∧ Ks = []) ∨ ∃ q,0 < Ks.length ∧ yk = .o q Ks.length ∧ bs.length + 2 < q ∧ b[q]? = some (.own (Ks.map SV.str) 9 1 Ks.length true)
  ri : (y = .nils ∧ Ls = []) ∨ ∃ q,0 < Ls.length ∧ y = .o q Ls.length ∧ bs.length + 2 < q ∧ b[q]? = some (.own (Ls.flatMap tv) 25 4 Ls.length true)
  js : TJs b Js Ls
  jb : JBs (s.length + 410) Js
  kb : ∀ x ∈ Ks,x.length ≤ s.length + 410
  ul : u.length ≤ s.length
section
variable {K : Int} {s : Bytes} {bs : List Res} {p d : Nat} {a n : Nat} {f w k : Int} {u : Bytes} {pos : Int} {yk y : SV} {Ks : List Bytes} {Ls : List Tv} {Js : List Jv} {t t' : List (Nat × SV)} {b : List Res}
def SL (t t' : List (Nat × SV)) : Prop := lk 0 t' = lk 0 t ∧ lk 1 t' = lk 1 t ∧ lk 4 t' = lk 4 t ∧ lk 5 t' = lk 5 t ∧ lk 6 t' = lk 6 t
theorem AS.mv (h : AS K s bs p d a n f w k u pos yk y Ks Ls Js t b) (e : SL t t') : AS K s bs p d a n f w k u pos yk y Ks Ls Js t' b :=
  { h with l0 := e.1.trans h.l0,l1 := e.2.1.trans h.l1,l4 := e.2.2.1.trans h.l4,l5 := e.2.2.2.1.trans h.l5,l6 := e.2.2.2.2.trans h.l6 }
theorem AS.pp (h : AS K s bs p d a n f w k u pos yk y Ks Ls Js t b) : b[p]? = some (pbox s a n f w) := h.kp.2.2
theorem AS.setp (h : AS K s bs p d a n f w k u pos yk y Ks Ls Js t b) (a' n' : Nat) (f' w' : Int) : AS K s bs p d a' n' f' w' k u pos yk y Ks Ls Js t (b.set p (pbox s a' n' f' w')) := by
  have hpl := h.pl
  refine { h with kp := h.kp.set _ _ _,b0 := get_setN h.b0 (by omega) _,b1 := get_setN h.b1 (by omega) _,b2 := get_setN h.b2 (by omega) _,rk := ?_,ri := ?_,js := h.js.ro (ro_p h.pp _) }
  · rcases h.rk with e | ⟨q,h1,h2,h3,h4⟩
    · exact .inl e
    · exact .inr ⟨q,h1,h2,h3,get_setN h4 (by omega) _⟩
  · rcases h.ri with e | ⟨q,h1,h2,h3,h4⟩
    · exact .inl e
    · exact .inr ⟨q,h1,h2,h3,get_setN h4 (by omega) _⟩
where ro_p {b : List Res} {p : Nat} {c : List SV} {T : TypeId} {m : Bool} (hp : b[p]? = some (.cells c T m)) (X : Res) : Ro b (b.set p X) := (Ro.refl b).set (fun c e s n hx => by rw [hp] at hx; cases hx) X
theorem AS.setk (h : AS K s bs p d a n f w k u pos yk y Ks Ls Js t b) (k' : Int) {u' : Bytes} (pos' : Int) (hu : u'.length ≤ s.length) : AS K s bs p d a n f w k' u' pos' yk y Ks Ls Js t (b.set (bs.length + 2) (.cells (tok k' u' pos') 56 true)) := by
  have hpl := h.pl
  refine { h with kp := h.kp.setN (by omega) (by omega) _,b0 := get_setN h.b0 (by omega) _,b1 := get_setN h.b1 (by omega) _,b2 := List.getElem?_set_self (List.getElem?_eq_some_iff.1 h.b2).1,rk := ?_,ri := ?_,js := h.js.ro (AS.setp.ro_p h.b2 _),ul := hu }
  · rcases h.rk with e | ⟨q,h1,h2,h3,h4⟩
    · exact .inl e
    · exact .inr ⟨q,h1,h2,h3,get_setN h4 (by omega) _⟩
  · rcases h.ri with e | ⟨q,h1,h2,h3,h4⟩
    · exact .inl e
    · exact .inr ⟨q,h1,h2,h3,get_setN h4 (by omega) _⟩
theorem AS.app (h : AS K s bs p d a n f w k u pos yk y Ks Ls Js t b) (X : List Res) : AS K s bs p d a n f w k u pos yk y Ks Ls Js t (b ++ X) := by
  refine { h with kp := h.kp.app _,b0 := at_old h.b0 _,b1 := at_old h.b1 _,b2 := at_old h.b2 _,rk := ?_,ri := ?_,js := h.js.ro ((Ro.refl _).app _) }
  · rcases h.rk with e | ⟨q,h1,h2,h3,h4⟩
    · exact .inl e
    · exact .inr ⟨q,h1,h2,h3,at_old h4 _⟩
  · rcases h.ri with e | ⟨q,h1,h2,h3,h4⟩
    · exact .inl e
    · exact .inr ⟨q,h1,h2,h3,at_old h4 _⟩
theorem AS.call (h : AS K s bs p d a n f w k u pos yk y Ks Ls Js t b) {a' n' : Nat} {f' w' : Int} {b' : List Res} (g : KpP p (pcl s a' n' f' w') 53 true b b') : AS K s bs p d a' n' f' w' k u pos yk y Ks Ls Js t b' := by
  have hpl := h.pl
  refine { h with kp := h.kp.trans g,b0 := g.at h.b0 (by omega),b1 := g.at h.b1 (by omega),b2 := g.at h.b2 (by omega),rk := ?_,ri := ?_,js := h.js.ro (g.ro h.pp) }
  · rcases h.rk with e | ⟨q,h1,h2,h3,h4⟩
    · exact .inl e
    · exact .inr ⟨q,h1,h2,h3,g.at h4 (by omega)⟩
  · rcases h.ri with e | ⟨q,h1,h2,h3,h4⟩
    · exact .inl e
    · exact .inr ⟨q,h1,h2,h3,g.at h4 (by omega)⟩
theorem AS.out {a0 : Nat} {f0 : Int} (h : AS K s bs p d a n f w k u pos yk y Ks Ls Js t b) (h1 : a0 ≤ a) (h2 : a ≤ s.length) (h3 : n ≤ 20001) (h4 : f = 0 → n ≤ 20000 ∧ f0 = 0) (hs : s.length ≤ 1000000) (hL : Js.length ≤ s.length + 410) (hK : Ks.length ≤ s.length + 410) (X : Res) :
    bs.length ≤ (b.set bs.length X).length ∧ POut s p a0 f0 bs (.agg [.int .i64 K,.str [],yk,y]) (dimB bs.length (b.set bs.length X)) := by
  have hpl := h.pl
  have hkp := h.kp.setN (i := bs.length) (by omega) (by omega) X
  have hro : Ro b (dimB bs.length (b.set bs.length X)) := (AS.setp.ro_p h.b0 X).trans (dimB_dim hkp.1).ro
  have hLL := h.js.len
  refine ⟨hkp.1,a,n,f,w,h1,h2,h3,h4,hkp.dimB hpl,.mk K [] Ks Js,⟨K,[],yk,y⟩,rfl,TJ.mk' rfl rfl (by simp [Jv.t]) ?_ (by simp only [Jv.K]; omega) (fun x hx => by have := h.kb x hx; omega) (by simp only [Jv.L]; omega) ⟨Ls,?_,h.js.ro hro⟩,?_⟩
  · rcases h.rk with ⟨rfl,rfl⟩ | ⟨q,g1,rfl,g3,g4⟩
    · exact .inl ⟨rfl,rfl⟩
    · exact .inr ⟨q,rfl,by rw [dimB_at (by omega) (get_setN g4 (by omega) _)]; rfl⟩
  · rcases h.ri with ⟨rfl,rfl⟩ | ⟨q,g1,rfl,g3,g4⟩
    · exact .inl ⟨rfl,rfl⟩
    · exact .inr ⟨q,rfl,by rw [dimB_at (by omega) (get_setN g4 (by omega) _)]; rfl⟩
  · rw [JB]
    exact ⟨by simp,hK,h.kb,hL,h.jb⟩
theorem AS.ones (h : AS K s bs p d a n f w k u pos yk y Ks Ls Js t b) : (one yk && one y) = true := by
  rcases h.rk with ⟨rfl,-⟩ | ⟨q,-,rfl,-⟩ <;> rcases h.ri with ⟨rfl,-⟩ | ⟨q,-,rfl,-⟩ <;> rfl
theorem AS.oney (h : AS K s bs p d a n f w k u pos yk y Ks Ls Js t b) : one y = true := by
  rcases h.ri with ⟨rfl,-⟩ | ⟨q,-,rfl,-⟩ <;> rfl
theorem AS.onek (h : AS K s bs p d a n f w k u pos yk y Ks Ls Js t b) : one yk = true := by
  rcases h.rk with ⟨rfl,-⟩ | ⟨q,-,rfl,-⟩ <;> rfl
theorem ro_tt {b : List Res} {q : Nat} {c : List SV} {e z n : Nat} (hq : b[q]? = some (.own c e z n true)) (X : Res) : Ro b (b.set q X) := (Ro.refl b).setT hq X
theorem AS.addN (h : AS K s bs p d a n f w k u pos yk .nils Ks [] Js t b) {j : Jv} {v : Tv} (hj : TJ b j v) (hjb : JB (s.length + 410) j) (X : Res) : AS K s bs p d a n f w k u pos yk (.o (b.length + 1) 1) Ks [v] (Js ++ [j]) t (b.set (bs.length + 1) (.cells [.int .i64 K,.str [],yk,.o (b.length + 1) 1] 25 true) ++ [X,.own (tv v) 25 4 1 true]) := by
  have hpl := h.pl
  have hl1 := (List.getElem?_eq_some_iff.1 h.b1).1
  have hro := (AS.setp.ro_p h.b1 (.cells [.int .i64 K,.str [],yk,.o (b.length + 1) 1] 25 true)).app [X,.own (tv v) 25 4 1 true]
  refine { h with kp := (h.kp.setN (by omega) (by omega) _).app _,b0 := at_old (get_setN h.b0 (by omega) _) _,b1 := get_setS hl1 _ _,b2 := at_old (get_setN h.b2 (by omega) _) _,rk := ?_,ri := .inr ⟨b.length + 1,by simp,rfl,by omega,?_⟩,js := ?_,jb := JBs.snoc hjb h.jb }
  · rcases h.rk with e | ⟨q,h1,h2,h3,h4⟩
    · exact .inl e
    · exact .inr ⟨q,h1,h2,h3,at_old (get_setN h4 (by omega) _) _⟩
  · rw [app_atL (by simp)]; simp
  · refine (h.js.ro hro).app (L2 := [j]) (Ls2 := [v]) ?_
    rw [TJs]
    exact ⟨v,[],rfl,hj.ro hro,by rw [TJs]⟩
theorem AS.addQ {q : Nat} (h : AS K s bs p d a n f w k u pos yk (.o q Ls.length) Ks Ls Js t b) (hq : bs.length + 2 < q) (hL : 0 < Ls.length) (hbq : b[q]? = some (.own (Ls.flatMap tv) 25 4 Ls.length true)) {j : Jv} {v : Tv} (hj : TJ b j v) (hjb : JB (s.length + 410) j) (X : Res) : AS K s bs p d a n f w k u pos yk (.o (b.length + 1) (Ls.length + 1)) Ks (Ls ++ [v]) (Js ++ [j]) t ((b.set q .gone).set (bs.length + 1) (.cells [.int .i64 K,.str [],yk,.o (b.length + 1) (Ls.length + 1)] 25 true) ++ [X,.own (Ls.flatMap tv ++ tv v) 25 4 (Ls.length + 1) true]) := by
  have hpl := h.pl
  have hb1 := get_setN h.b1 (show q ≠ bs.length + 1 by omega) .gone
  have hl1 := (List.getElem?_eq_some_iff.1 hb1).1
  have hl2 := (List.getElem?_eq_some_iff.1 h.b1).1
  have hro := ((ro_tt hbq .gone).trans (AS.setp.ro_p hb1 (.cells [.int .i64 K,.str [],yk,.o (b.length + 1) (Ls.length + 1)] 25 true))).app [X,.own (Ls.flatMap tv ++ tv v) 25 4 (Ls.length + 1) true]
  refine { h with kp := ((h.kp.setN (by omega) (by omega) _).setN (by omega) (by omega) _).app _,b0 := at_old (get_setN (get_setN h.b0 (by omega) _) (by omega) _) _,b1 := get_setS hl1 _ _,b2 := at_old (get_setN (get_setN h.b2 (by omega) _) (by omega) _) _,rk := ?_,ri := .inr ⟨b.length + 1,by simp,by simp,by omega,?_⟩,js := ?_,jb := JBs.snoc hjb h.jb }
  · rcases h.rk with e | ⟨q',h1,h2,h3,h4⟩
    · exact .inl e
    · refine .inr ⟨q',h1,h2,h3,at_old (get_setN (get_setN h4 ?_ _) (by omega) _) _⟩
      rintro rfl
      rw [h4] at hbq
      simp at hbq
  · rw [app_atL (by simp)]; simp
  · refine (h.js.ro hro).app (L2 := [j]) (Ls2 := [v]) ?_
    rw [TJs]
    exact ⟨v,[],rfl,hj.ro hro,by rw [TJs]⟩
theorem AS.init {a0 n0 : Nat} {f0 w0 : Int} (hp : bs[p]? = some (pbox s a0 n0 f0 w0)) (hu : u.length ≤ s.length) (h0 : lk 0 t = some (.p p 0)) (h1 : lk 1 t = some (.int .i64 d)) (h4 : lk 4 t = some (.p bs.length 0)) (h5 : lk 5 t = some (.p (bs.length + 1) 0)) (h6 : lk 6 t = some (.p (bs.length + 2) 0)) :
    AS K s bs p d a n f w k u pos .nils .nils [] [] [] t ((bs ++ ([.cells zv 25 true,.cells [.int .i64 K,.str [],.nils,.nils] 25 true] : List Res)).set p (pbox s a n f w) ++ [.cells (tok k u pos) 56 true]) := by
  have hpl := (List.getElem?_eq_some_iff.1 hp).1
  have hk0 := KpP.of (p := p) hp (Kp.refl bs)
  refine ⟨h0,h1,h4,h5,h6,hpl,((hk0.app _).set _ _ _).app _,at_old (get_setN (app_at0 _ _) (by omega) _) _,at_old (get_setN (app_at _ _ 1) (by omega) _) _,?_,.inl ⟨rfl,rfl⟩,.inl ⟨rfl,rfl⟩,by rw [TJs],by rw [JBs]; trivial,by simp,hu⟩
  exact app_atL (n := bs.length + 2) (by simp) _ 0
def muP (p : Nat) (σ : St) : Nat := match σ.b[p]? with
  | some (.cells [.str s,.int _ a,_,.int _ f,_] _ _) => if f = 0 then s.length - a.toNat + 1 else 0
  | _ => 0
theorem AS.mu (h : AS K s bs p d a n f w k u pos yk y Ks Ls Js t b) : muP p ⟨t',b⟩ = if f = 0 then s.length - a + 1 else 0 := by
  have := h.pp
  unfold pbox pcl at this
  simp [muP,this]
end
end Go.Proofs.YtejfjmcjicpodaaGreatDoor
/- ref14's parser: array. -/
set_option linter.all false
set_option maxRecDepth 20000
namespace Go.Proofs.YtejfjmcjicpodaaGreatDoor
open Go Vc Go.RowKit Wf
set_option linter.unusedSimpArgs false
def arrT6 : OT := (.pur 0 (.pur 2 (.pur 4 (.alt (.one 1 (.one 3 (.one 5 (.one 6 (.one 7 (.pur 8 (.one 9 .leaf))))))) (.one 3 (.alt (.one 1 (.one 5 (.one 6 (.one 7 (.pur 8 (.one 9 .leaf)))))) (.one 5 (.alt (.one 1 (.one 6 (.one 7 (.pur 8 (.one 9 .leaf))))) (.one 6 (.one 1 (.one 7 (.pur 8 (.one 9 .leaf)))))))))))))
def AI (s : Bytes) (bs : List Res) (p d a0 : Nat) (f0 : Int) (σ : St) : Prop := ∃ (a n : Nat) (f w k : Int) (u : Bytes) (pos : Int) (y : SV) (Ls : List Tv) (Js : List Jv),AS 6 s bs p d a n f w k u pos .nils y [] Ls Js σ.t σ.b ∧ a0 ≤ a ∧ a ≤ s.length ∧ n ≤ 20001 ∧ (f = 0 → n ≤ 20000 ∧ f0 = 0) ∧ Js.length + (if f = 0 then s.length - a + 1 else 0) ≤ s.length + 1
set_option maxHeartbeats 16000000 in
theorem sc_r14_array {s : Bytes} (hs : s.length ≤ 1000000) {d : Nat} (hV : VlOK s d) : RdOK s 57 d := by
  intro bs p a0 n0 f0 w0 hp ha hn hfn
  refine SC.dimAll ?_
  have hpl := (List.getElem?_eq_some_iff.1 hp).1
  have hk0 := KpP.of (p := p) hp (Kp.refl bs)
  refine sc_ofP (fun n => if n = 6 then .all arrT6 else .ord []) 3000 Tryz.func57 rfl Tryz.ntmps57 Tryz.results57 Tryz.call57 (by simp) (fun β β' hb => concL_within bs.length _ (by simp [within,within.withinL,hpl]) β β' hb) ?_
  obtain ⟨k,u,pos,a,f,w,g1,g2,g3,g4,hnx⟩ := sx_r14_next s (by omega) a0 n0 f0 w0 ha
  refine vcS_cutS 2900 (fun σ => lk 0 σ.t = some (.p p 0) ∧ lk 1 σ.t = some (.int .i64 d) ∧ lk 4 σ.t = some (.p bs.length 0) ∧ σ.b = bs ++ [.cells zv 25 true]) ?_ (fun k' hk' => ?_)
  rotate_left
  · simp only [lawG,↓Xn,↓Xo,↓Xg,↓Xd,↓Xe,↓Xf,Tryz.VΓ,Tryz.Γs,Xp,Xi,Nat.reduceAdd,Nat.reduceSub,Nat.reduceLT,Nat.reduceLeDiff,reduceIte,reduceCtorEq,Nat.reduceEqDiff,implies_true,forall_const,lawV,lawA,beq_self_eq_true,bne_self_eq_false,Int.reduceBEq,Int.reduceBNe,Int.reduceLT,Int.reduceLE]
    exact hk' _ _ ⟨rfl,rfl,rfl,rfl⟩
  rintro m ⟨t,b⟩ ⟨h0,h1,h4,rfl⟩
  simp only at h0 h1 h4
  refine vcS_cutS 2800 (fun σ => lk 0 σ.t = some (.p p 0) ∧ lk 1 σ.t = some (.int .i64 d) ∧ lk 4 σ.t = some (.p bs.length 0) ∧ lk 5 σ.t = some (.p (bs.length + 1) 0) ∧ σ.b = bs ++ [.cells zv 25 true,.cells [.int .i64 6,.str [],.nils,.nils] 25 true]) ?_ (fun k' hk' => ?_)
  rotate_left
  · simp only [lawG,↓Xn,↓Xo,↓Xg,↓Xd,↓Xe,↓Xf,Tryz.VΓ,Tryz.Γs,Xp,Xi,Nat.reduceAdd,Nat.reduceSub,Nat.reduceLT,Nat.reduceLeDiff,reduceIte,reduceCtorEq,Nat.reduceEqDiff,implies_true,forall_const,lawV,lawA,beq_self_eq_true,bne_self_eq_false,Int.reduceBEq,Int.reduceBNe,Int.reduceLT,Int.reduceLE,h0,h1,h4]
    exact hk' _ _ ⟨by simp [lk,h0],by simp [lk,h1],by simp [lk,h4],rfl,rfl⟩
  rintro m ⟨t,b⟩ ⟨h0,h1,h4,h5,rfl⟩
  simp only at h0 h1 h4 h5
  refine vcS_cutS 2700 (fun σ => AS 6 s bs p d a n0 f w k u pos .nils .nils [] [] [] σ.t σ.b) ?_ (fun k' hk' => ?_)
  rotate_left
  · have hn' := hnx (bs ++ [.cells zv 25 true,.cells [.int .i64 6,.str [],.nils,.nils] 25 true]) p (at_old hp _)
    simp only [lawG,↓Xn,↓Xo,↓Xg,↓Xd,↓Xe,↓Xf,Tryz.VΓ,Tryz.Γs,Xp,Xi,Nat.reduceAdd,Nat.reduceSub,Nat.reduceLT,Nat.reduceLeDiff,reduceIte,reduceCtorEq,Nat.reduceEqDiff,implies_true,forall_const,lawV,lawA,beq_self_eq_true,bne_self_eq_false,Int.reduceBEq,Int.reduceBNe,Int.reduceLT,Int.reduceLE,h0,h1,h4,h5]
    refine callV_sc hn' ?_
    rintro r b ⟨rfl,rfl⟩
    unfold tok
    simp only [lawG,↓Xn,↓Xo,↓Xg,↓Xd,↓Xe,↓Xf,Tryz.VΓ,Tryz.Γs,Xp,Xi,Nat.reduceAdd,Nat.reduceSub,Nat.reduceLT,Nat.reduceLeDiff,reduceIte,reduceCtorEq,Nat.reduceEqDiff,implies_true,forall_const,lawV,lawA,beq_self_eq_true,bne_self_eq_false,Int.reduceBEq,Int.reduceBNe,Int.reduceLT,Int.reduceLE,h0,h1,h4,h5]
    exact hk' _ _ (AS.init hp g3 (by simp [lk,h0]) (by simp [lk,h1]) (by simp [lk,h4]) (by simp [lk,h5]) (by simp [lk]))
  clear h0 h1 h4 h5
  rintro m ⟨t,b⟩ h
  simp only at h
  refine vcS_cutS 2600 (fun σ => AS 6 s bs p d a n0 f w k u pos .nils .nils [] [] [] σ.t σ.b) ?_ (fun k' hk' => ?_)
  rotate_left
  · have i1 := p_r14_is k u pos [93]
    have hb2 := h.b2
    (have hones := (h).oney
     have hb0 := (h).b0
     have hb1 := (h).b1
     have hl0 := (List.getElem?_eq_some_iff.1 hb0).1
     have hg0 : ∀ X,(b.set bs.length X)[bs.length]? = some X := fun X => List.getElem?_set_self hl0
     have m0 := (h).l0
     have m4 := (h).l4
     have m5 := (h).l5
     have m6 := (h).l6
     unfold zv at hb0)
    unfold tok at i1 hb2
    simp only [lawG,↓Xn,↓Xo,↓Xg,↓Xd,↓Xe,↓Xf,Tryz.VΓ,Tryz.Γs,Xp,Xi,Nat.reduceAdd,Nat.reduceSub,Nat.reduceLT,Nat.reduceLeDiff,reduceIte,reduceCtorEq,Nat.reduceEqDiff,implies_true,forall_const,lawV,lawA,beq_self_eq_true,bne_self_eq_false,Int.reduceBEq,Int.reduceBNe,Int.reduceLT,Int.reduceLE,m6,hb2]
    refine callV_pc i1 ?_
    cases c1 : (k == 2 && u == [93])
    · simp only [lawG,↓Xn,↓Xo,↓Xg,↓Xd,↓Xe,↓Xf,Tryz.VΓ,Tryz.Γs,Xp,Xi,Nat.reduceAdd,Nat.reduceSub,Nat.reduceLT,Nat.reduceLeDiff,reduceIte,reduceCtorEq,Nat.reduceEqDiff,implies_true,forall_const,lawV,lawA,beq_self_eq_true,bne_self_eq_false,Int.reduceBEq,Int.reduceBNe,Int.reduceLT,Int.reduceLE]
      exact hk' _ _ (h.mv (by simp [SL,lk]))
    · simp only [lawG,↓Xn,↓Xo,↓Xg,↓Xd,↓Xe,↓Xf,Tryz.VΓ,Tryz.Γs,Xp,Xi,Nat.reduceAdd,Nat.reduceSub,Nat.reduceLT,Nat.reduceLeDiff,reduceIte,reduceCtorEq,Nat.reduceEqDiff,implies_true,forall_const,lawV,lawA,beq_self_eq_true,bne_self_eq_false,Int.reduceBEq,Int.reduceBNe,Int.reduceLT,Int.reduceLE,m0,m4,m5,m6,hb1,hg0,hb0,hones]
      exact h.out g1 g2 hn (fun e => ⟨hfn (g4 e).1,(g4 e).1⟩) hs (by simp) (by simp) _
  clear h
  rintro m ⟨t,b⟩ h
  simp only at h
  refine vcS_cutS 2500 (AI s bs p d a0 f0) ?_ (fun k' hk' => ?_)
  rotate_left
  · have h0' : AI s bs p d a0 f0 ⟨t,b⟩ := ⟨a,n0,f,w,k,u,pos,.nils,[],[],h,g1,g2,hn,fun e => ⟨hfn (g4 e).1,(g4 e).1⟩,by simp; split <;> omega⟩
    simp only [lawG,↓Xn,↓Xo,↓Xg,↓Xd,↓Xe,↓Xf,Tryz.VΓ,Tryz.Γs,Xp,Xi,Nat.reduceAdd,Nat.reduceSub,Nat.reduceLT,Nat.reduceLeDiff,reduceIte,reduceCtorEq,Nat.reduceEqDiff,implies_true,forall_const,lawV,lawA,beq_self_eq_true,bne_self_eq_false,Int.reduceBEq,Int.reduceBNe,Int.reduceLT,Int.reduceLE]
    refine loopV_mk (AI s bs p d a0 f0) (muP p) h0' ?_
    clear h h0' g1 g2 g3 g4 hnx
    clear a f w k u pos
    rintro ⟨t,b⟩ ⟨a,n,f,w,k,u,pos,y,Ls,Js,h,e1,e2,e3,e4,e5⟩
    simp only at h
    rw [h.mu]
    have hbp := h.pp
    have hb2 := h.b2
    (have hones := (h).oney
     have hb0 := (h).b0
     have hb1 := (h).b1
     have hl0 := (List.getElem?_eq_some_iff.1 hb0).1
     have hg0 : ∀ X,(b.set bs.length X)[bs.length]? = some X := fun X => List.getElem?_set_self hl0
     have m0 := (h).l0
     have m4 := (h).l4
     have m5 := (h).l5
     have m6 := (h).l6
     unfold zv at hb0)
    unfold pbox pcl at hbp
    by_cases hf : f = 0
    rotate_left
    · have hb : (f == 0) = false := by simp [hf]
      simp only [lawG,↓Xn,↓Xo,↓Xg,↓Xd,↓Xe,↓Xf,Tryz.VΓ,Tryz.Γs,Xp,Xi,Nat.reduceAdd,Nat.reduceSub,Nat.reduceLT,Nat.reduceLeDiff,reduceIte,reduceCtorEq,Nat.reduceEqDiff,implies_true,forall_const,lawV,lawA,beq_self_eq_true,bne_self_eq_false,Int.reduceBEq,Int.reduceBNe,Int.reduceLT,Int.reduceLE,m0,m4,m5,m6,hbp,hb]
      exact hk' _ _ ⟨a,n,f,w,k,u,pos,y,Ls,Js,h.mv (by simp [SL,lk]),e1,e2,e3,e4,e5⟩
    subst hf
    have m1 := h.l1
    simp only [lawG,↓Xn,↓Xo,↓Xg,↓Xd,↓Xe,↓Xf,Tryz.VΓ,Tryz.Γs,Xp,Xi,Nat.reduceAdd,Nat.reduceSub,Nat.reduceLT,Nat.reduceLeDiff,reduceIte,reduceCtorEq,Nat.reduceEqDiff,implies_true,forall_const,lawV,lawA,beq_self_eq_true,bne_self_eq_false,Int.reduceBEq,Int.reduceBNe,Int.reduceLT,Int.reduceLE,m0,m4,m5,m6,hbp]
    refine regV_mkG (fun σ => ∃ (a1 n1 : Nat) (f1 w1 : Int) (y' : SV) (Ls' : List Tv) (Js' : List Jv),AS 6 s bs p d a1 n1 f1 w1 k u pos .nils y' [] Ls' Js' σ.t σ.b ∧ a ≤ a1 ∧ a1 ≤ s.length ∧ n1 ≤ 20001 ∧ (f1 = 0 → n1 ≤ 20000) ∧ Js'.length = Js.length + 1) (by kernel_rfl) (fun E' k' => ?_) ?_
    · have hcall := hV b p a n 0 w k u pos h.pp e2 e3 (fun e => (e4 e).1) h.ul
      unfold tok at hb2 hcall
      simp only [lawG,↓Xn,↓Xo,↓Xg,↓Xd,↓Xe,↓Xf,Tryz.VΓ,Tryz.Γs,Xp,Xi,Nat.reduceAdd,Nat.reduceSub,Nat.reduceLT,Nat.reduceLeDiff,reduceIte,reduceCtorEq,Nat.reduceEqDiff,implies_true,forall_const,lawV,lawA,beq_self_eq_true,bne_self_eq_false,Int.reduceBEq,Int.reduceBNe,Int.reduceLT,Int.reduceLE,arrT6,m0,m1,m4,m5,m6,hbp,hb1,hb2]
      refine ⟨?_,?_,?_⟩
      all_goals
        refine callV_sc hcall ?_
        rintro r b' ⟨a1,n1,f1,w1,q1,q2,q3,q4,gk,j,v,rfl,hj,hjb⟩
        have h' := h.call gk
        have hb1' := h'.b1
        have hl1' := (List.getElem?_eq_some_iff.1 hb1').1
        obtain ⟨-,-,v3,v4⟩ := hj.tin
        have ho : (one v.xk && one v.xi) = true := by rw [v3,v4]; rfl
        have hset : ∀ (l : List Res) X,(b' ++ l).set (bs.length + 1) X = b'.set (bs.length + 1) X ++ l := fun l X => app_setL hl1' l X
        unfold tv
        rcases h'.ri with ⟨rfl,rfl⟩ | ⟨q,hL0,rfl,hq,hbq⟩
        · simp only [lawG,↓Xn,↓Xo,↓Xg,↓Xd,↓Xe,↓Xf,Tryz.VΓ,Tryz.Γs,Xp,Xi,Nat.reduceAdd,Nat.reduceSub,Nat.reduceLT,Nat.reduceLeDiff,reduceIte,reduceCtorEq,Nat.reduceEqDiff,implies_true,forall_const,lawV,lawA,beq_self_eq_true,bne_self_eq_false,Int.reduceBEq,Int.reduceBNe,Int.reduceLT,Int.reduceLE,hb1',at_old hb1',hset,m0,m4,m5,m6,ho]
          have hA := h'.addN hj hjb (.own (tv v) 25 4 1 true)
          have hlen : (Js ++ [j]).length = Js.length + 1 := by simp
          repeat' first
            | exact ⟨by omega,⟨by unfold maxLen; omega,by omega⟩,a1,n1,f1,w1,_,_,_,hA.mv (by simp [SL,lk]),q1,q2,q3,fun e => (q4 e).1,hlen⟩
            | refine And.intro ?_ ?_
        · have hsq : ∀ (l : List Res) X,(b' ++ l).set q X = b'.set q X ++ l := fun l X => app_setL (List.getElem?_eq_some_iff.1 hbq).1 l X
          have hset2 : ∀ (l : List Res) Y X,(b'.set q Y ++ l).set (bs.length + 1) X = (b'.set q Y).set (bs.length + 1) X ++ l := fun l Y X => app_setL (by simpa using hl1') l X
          have hbq1 := fun Y => at_old (get_setN hb1' (show q ≠ bs.length + 1 by omega) Y)
          simp only [lawG,↓Xn,↓Xo,↓Xg,↓Xd,↓Xe,↓Xf,Tryz.VΓ,Tryz.Γs,Xp,Xi,Nat.reduceAdd,Nat.reduceSub,Nat.reduceLT,Nat.reduceLeDiff,reduceIte,reduceCtorEq,Nat.reduceEqDiff,implies_true,forall_const,lawV,lawA,beq_self_eq_true,bne_self_eq_false,Int.reduceBEq,Int.reduceBNe,Int.reduceLT,Int.reduceLE,hb1',at_old hb1',at_old hbq,hset,hsq,hset2,hbq1,m0,m4,m5,m6,ho]
          have hA := h'.addQ hq hL0 hbq hj hjb (.own (tv v) 25 4 1 true)
          have hlen : (Js ++ [j]).length = Js.length + 1 := by simp
          have hLJ := h'.js.len
          repeat' first
            | exact ⟨by omega,⟨by unfold maxLen; omega,by omega⟩,a1,n1,f1,w1,_,_,_,hA.mv (by simp [SL,lk]),q1,q2,q3,fun e => (q4 e).1,hlen⟩
            | refine And.intro ?_ ?_
    clear h hb2 hbp hones hb0 hb1 hl0 hg0 m0 m1 m4 m5 m6
    rintro ⟨t,b⟩ ⟨a1,n1,f1,w1,y',Ls',Js',h,q1,q2,q3,q4,q5⟩
    simp only at h
    have e4' : f1 = 0 → f0 = 0 := fun _ => (e4 rfl).2
    clear e4
    have e5' : Js'.length + (s.length - a) ≤ s.length + 1 := by simp at e5; omega
    obtain ⟨k2,u2,pos2,a2,f2,w2,r1,r2,r3,r4,hnx⟩ := sx_r14_next s (by omega) a1 n1 f1 w1 q2
    refine vcS_cutS 2400 (fun σ => AS 6 s bs p d a2 n1 f2 w2 k2 u2 pos2 .nils y' [] Ls' Js' σ.t σ.b) ?_ (fun k' hk' => ?_)
    rotate_left
    · have hn' := hnx b p h.pp
      have h2 := h.setp a2 n1 f2 w2
      have hb2 := h2.b2
      have hA := h2.setk k2 pos2 r3
      (have hones := (h).oney
       have hb0 := (h).b0
       have hb1 := (h).b1
       have hl0 := (List.getElem?_eq_some_iff.1 hb0).1
       have hg0 : ∀ X,(b.set bs.length X)[bs.length]? = some X := fun X => List.getElem?_set_self hl0
       have m0 := (h).l0
       have m4 := (h).l4
       have m5 := (h).l5
       have m6 := (h).l6
       unfold zv at hb0)
      unfold tok at hn' hb2 hA
      simp only [lawG,↓Xn,↓Xo,↓Xg,↓Xd,↓Xe,↓Xf,Tryz.VΓ,Tryz.Γs,Xp,Xi,Nat.reduceAdd,Nat.reduceSub,Nat.reduceLT,Nat.reduceLeDiff,reduceIte,reduceCtorEq,Nat.reduceEqDiff,implies_true,forall_const,lawV,lawA,beq_self_eq_true,bne_self_eq_false,Int.reduceBEq,Int.reduceBNe,Int.reduceLT,Int.reduceLE,m0,m4,m5,m6]
      refine callV_sc hn' ?_
      rintro r b' ⟨rfl,rfl⟩
      simp only [lawG,↓Xn,↓Xo,↓Xg,↓Xd,↓Xe,↓Xf,Tryz.VΓ,Tryz.Γs,Xp,Xi,Nat.reduceAdd,Nat.reduceSub,Nat.reduceLT,Nat.reduceLeDiff,reduceIte,reduceCtorEq,Nat.reduceEqDiff,implies_true,forall_const,lawV,lawA,beq_self_eq_true,bne_self_eq_false,Int.reduceBEq,Int.reduceBNe,Int.reduceLT,Int.reduceLE,m0,m4,m5,m6,hb2]
      exact hk' _ _ (hA.mv (by simp [SL,lk]))
    clear h
    rintro m ⟨t,b⟩ h
    simp only at h
    refine vcS_cutS 2300 (fun σ => AS 6 s bs p d a2 n1 f2 w2 k2 u2 pos2 .nils y' [] Ls' Js' σ.t σ.b) ?_ (fun k' hk' => ?_)
    rotate_left
    · have i1 := p_r14_is k2 u2 pos2 [93]
      have hb2 := h.b2
      (have hones := (h).oney
       have hb0 := (h).b0
       have hb1 := (h).b1
       have hl0 := (List.getElem?_eq_some_iff.1 hb0).1
       have hg0 : ∀ X,(b.set bs.length X)[bs.length]? = some X := fun X => List.getElem?_set_self hl0
       have m0 := (h).l0
       have m4 := (h).l4
       have m5 := (h).l5
       have m6 := (h).l6
       unfold zv at hb0)
      unfold tok at i1 hb2
      simp only [lawG,↓Xn,↓Xo,↓Xg,↓Xd,↓Xe,↓Xf,Tryz.VΓ,Tryz.Γs,Xp,Xi,Nat.reduceAdd,Nat.reduceSub,Nat.reduceLT,Nat.reduceLeDiff,reduceIte,reduceCtorEq,Nat.reduceEqDiff,implies_true,forall_const,lawV,lawA,beq_self_eq_true,bne_self_eq_false,Int.reduceBEq,Int.reduceBNe,Int.reduceLT,Int.reduceLE,m6,hb2]
      refine callV_pc i1 ?_
      cases c1 : (k2 == 2 && u2 == [93])
      · simp only [lawG,↓Xn,↓Xo,↓Xg,↓Xd,↓Xe,↓Xf,Tryz.VΓ,Tryz.Γs,Xp,Xi,Nat.reduceAdd,Nat.reduceSub,Nat.reduceLT,Nat.reduceLeDiff,reduceIte,reduceCtorEq,Nat.reduceEqDiff,implies_true,forall_const,lawV,lawA,beq_self_eq_true,bne_self_eq_false,Int.reduceBEq,Int.reduceBNe,Int.reduceLT,Int.reduceLE]
        exact hk' _ _ (h.mv (by simp [SL,lk]))
      · simp only [lawG,↓Xn,↓Xo,↓Xg,↓Xd,↓Xe,↓Xf,Tryz.VΓ,Tryz.Γs,Xp,Xi,Nat.reduceAdd,Nat.reduceSub,Nat.reduceLT,Nat.reduceLeDiff,reduceIte,reduceCtorEq,Nat.reduceEqDiff,implies_true,forall_const,lawV,lawA,beq_self_eq_true,bne_self_eq_false,Int.reduceBEq,Int.reduceBNe,Int.reduceLT,Int.reduceLE,m0,m4,m5,m6,hb1,hg0,hb0,hones]
        exact h.out (by omega) r2 q3 (fun e => ⟨q4 (r4 e).1,e4' (r4 e).1⟩) hs (by omega) (by simp) _
    clear h
    rintro m ⟨t,b⟩ h
    simp only at h
    refine vcS_cutS 2200 (fun σ => ∃ f3 w3 : Int,AS 6 s bs p d a2 n1 f3 w3 k2 u2 pos2 .nils y' [] Ls' Js' σ.t σ.b ∧ (f3 = 0 → f2 = 0 ∧ k2 = 2)) ?_ (fun k' hk' => ?_)
    rotate_left
    · have i1 := p_r14_is k2 u2 pos2 [44]
      have hb2 := h.b2
      have hbp := h.pp
      (have hones := (h).oney
       have hb0 := (h).b0
       have hb1 := (h).b1
       have hl0 := (List.getElem?_eq_some_iff.1 hb0).1
       have hg0 : ∀ X,(b.set bs.length X)[bs.length]? = some X := fun X => List.getElem?_set_self hl0
       have m0 := (h).l0
       have m4 := (h).l4
       have m5 := (h).l5
       have m6 := (h).l6
       unfold zv at hb0)
      unfold tok at i1 hb2
      have hst := sc_r14_stop h.pp pos2 140
      have hA := h.setp a2 n1 (stF f2 140) (stW f2 w2 pos2)
      unfold pbox pcl at hbp
      cases c0 : f2 == 0
      · simp only [lawG,↓Xn,↓Xo,↓Xg,↓Xd,↓Xe,↓Xf,Tryz.VΓ,Tryz.Γs,Xp,Xi,Nat.reduceAdd,Nat.reduceSub,Nat.reduceLT,Nat.reduceLeDiff,reduceIte,reduceCtorEq,Nat.reduceEqDiff,implies_true,forall_const,lawV,lawA,beq_self_eq_true,bne_self_eq_false,Int.reduceBEq,Int.reduceBNe,Int.reduceLT,Int.reduceLE,m0,m6,hb2,hbp,c0]
        exact hk' _ _ ⟨f2,w2,h.mv (by simp [SL,lk]),fun e => by rw [e] at c0; simp at c0⟩
      · simp only [lawG,↓Xn,↓Xo,↓Xg,↓Xd,↓Xe,↓Xf,Tryz.VΓ,Tryz.Γs,Xp,Xi,Nat.reduceAdd,Nat.reduceSub,Nat.reduceLT,Nat.reduceLeDiff,reduceIte,reduceCtorEq,Nat.reduceEqDiff,implies_true,forall_const,lawV,lawA,beq_self_eq_true,bne_self_eq_false,Int.reduceBEq,Int.reduceBNe,Int.reduceLT,Int.reduceLE,m0,m6,hb2,hbp,c0]
        refine callV_pc i1 ?_
        cases c1 : (k2 == 2 && u2 == [44])
        · simp only [lawG,↓Xn,↓Xo,↓Xg,↓Xd,↓Xe,↓Xf,Tryz.VΓ,Tryz.Γs,Xp,Xi,Nat.reduceAdd,Nat.reduceSub,Nat.reduceLT,Nat.reduceLeDiff,reduceIte,reduceCtorEq,Nat.reduceEqDiff,implies_true,forall_const,lawV,lawA,beq_self_eq_true,bne_self_eq_false,Int.reduceBEq,Int.reduceBNe,Int.reduceLT,Int.reduceLE,m0,m6,hb2,Bool.not_false]
          refine callV_sc hst ?_
          rintro r b' ⟨rfl,rfl⟩
          simp only [lawG,↓Xn,↓Xo,↓Xg,↓Xd,↓Xe,↓Xf,Tryz.VΓ,Tryz.Γs,Xp,Xi,Nat.reduceAdd,Nat.reduceSub,Nat.reduceLT,Nat.reduceLeDiff,reduceIte,reduceCtorEq,Nat.reduceEqDiff,implies_true,forall_const,lawV,lawA,beq_self_eq_true,bne_self_eq_false,Int.reduceBEq,Int.reduceBNe,Int.reduceLT,Int.reduceLE]
          exact hk' _ _ ⟨_,_,hA.mv (by simp [SL,lk]),fun e => absurd e (stF_ne (by decide))⟩
        · simp only [lawG,↓Xn,↓Xo,↓Xg,↓Xd,↓Xe,↓Xf,Tryz.VΓ,Tryz.Γs,Xp,Xi,Nat.reduceAdd,Nat.reduceSub,Nat.reduceLT,Nat.reduceLeDiff,reduceIte,reduceCtorEq,Nat.reduceEqDiff,implies_true,forall_const,lawV,lawA,beq_self_eq_true,bne_self_eq_false,Int.reduceBEq,Int.reduceBNe,Int.reduceLT,Int.reduceLE,m0,m6,hb2,Bool.not_true]
          simp only [Bool.and_eq_true] at c1
          exact hk' _ _ ⟨f2,w2,h.mv (by simp [SL,lk]),fun e => ⟨e,by simpa using c1.1⟩⟩
    clear h
    rintro m ⟨t,b⟩ ⟨f3,w3,h,r5⟩
    simp only at h
    obtain ⟨k4,u4,pos4,a4,f4,w4,z1,z2,z3,z4,hnx4⟩ := sx_r14_next s (by omega) a2 n1 f3 w3 r2
    have hn' := hnx4 b p h.pp
    have h2 := h.setp a4 n1 f4 w4
    have hb2 := h2.b2
    have hA := h2.setk k4 pos4 z3
    (have hones := (h).oney
     have hb0 := (h).b0
     have hb1 := (h).b1
     have hl0 := (List.getElem?_eq_some_iff.1 hb0).1
     have hg0 : ∀ X,(b.set bs.length X)[bs.length]? = some X := fun X => List.getElem?_set_self hl0
     have m0 := (h).l0
     have m4 := (h).l4
     have m5 := (h).l5
     have m6 := (h).l6
     unfold zv at hb0)
    unfold tok at hn' hb2 hA
    simp only [lawG,↓Xn,↓Xo,↓Xg,↓Xd,↓Xe,↓Xf,Tryz.VΓ,Tryz.Γs,Xp,Xi,Nat.reduceAdd,Nat.reduceSub,Nat.reduceLT,Nat.reduceLeDiff,reduceIte,reduceCtorEq,Nat.reduceEqDiff,implies_true,forall_const,lawV,lawA,beq_self_eq_true,bne_self_eq_false,Int.reduceBEq,Int.reduceBNe,Int.reduceLT,Int.reduceLE,m0,m4,m5,m6]
    refine callV_sc hn' ?_
    rintro r b' ⟨rfl,rfl⟩
    simp only [lawG,↓Xn,↓Xo,↓Xg,↓Xd,↓Xe,↓Xf,Tryz.VΓ,Tryz.Γs,Xp,Xi,Nat.reduceAdd,Nat.reduceSub,Nat.reduceLT,Nat.reduceLeDiff,reduceIte,reduceCtorEq,Nat.reduceEqDiff,implies_true,forall_const,lawV,lawA,beq_self_eq_true,bne_self_eq_false,Int.reduceBEq,Int.reduceBNe,Int.reduceLT,Int.reduceLE,m0,m4,m5,m6,hb2]
    have hprog : f4 = 0 → a < a4 := fun e => by
      have h1 := z4 e
      have h2 := r5 h1.1
      have h3 := r4 h2.1
      rcases h3.2 with h4 | h4
      · rw [h2.2] at h4; cases h4
      · omega
    have key : ∀ t',SL t t' → AI s bs p d a0 f0 ⟨t',(b.set p (pbox s a4 n1 f4 w4)).set (bs.length + 2) (.cells [.int .i64 k4,.str u4,.int .i64 pos4] 56 true)⟩ ∧ muP p ⟨t',(b.set p (pbox s a4 n1 f4 w4)).set (bs.length + 2) (.cells [.int .i64 k4,.str u4,.int .i64 pos4] 56 true)⟩ < s.length - a + 1 := by
      intro t' e
      rw [hA.mu]
      by_cases h4 : f4 = 0
      · have := hprog h4
        rw [if_pos h4]
        exact ⟨⟨a4,n1,f4,w4,k4,u4,pos4,y',Ls',Js',hA.mv e,by omega,z2,q3,fun e => ⟨q4 (r4 (r5 (z4 e).1).1).1,e4' (r4 (r5 (z4 e).1).1).1⟩,by rw [if_pos h4]; omega⟩,by omega⟩
      · rw [if_neg h4]
        exact ⟨⟨a4,n1,f4,w4,k4,u4,pos4,y',Ls',Js',hA.mv e,by omega,z2,q3,fun e => absurd e h4,by rw [if_neg h4]; omega⟩,by omega⟩
    exact key _ (by simp [SL,lk])
  clear h
  rintro m ⟨t,b⟩ ⟨a,n,f,w,k,u,pos,y,Ls,Js,h,e1,e2,e3,e4,e5⟩
  simp only at h
  (have hones := (h).oney
   have hb0 := (h).b0
   have hb1 := (h).b1
   have hl0 := (List.getElem?_eq_some_iff.1 hb0).1
   have hg0 : ∀ X,(b.set bs.length X)[bs.length]? = some X := fun X => List.getElem?_set_self hl0
   have m0 := (h).l0
   have m4 := (h).l4
   have m5 := (h).l5
   have m6 := (h).l6
   unfold zv at hb0)
  simp only [lawG,↓Xn,↓Xo,↓Xg,↓Xd,↓Xe,↓Xf,Tryz.VΓ,Tryz.Γs,Xp,Xi,Nat.reduceAdd,Nat.reduceSub,Nat.reduceLT,Nat.reduceLeDiff,reduceIte,reduceCtorEq,Nat.reduceEqDiff,implies_true,forall_const,lawV,lawA,beq_self_eq_true,bne_self_eq_false,Int.reduceBEq,Int.reduceBNe,Int.reduceLT,Int.reduceLE,m0,m4,m5,m6,hb1,hg0,hb0,hones]
  exact h.out e1 e2 e3 e4 hs (by omega) (by simp) _
end Go.Proofs.YtejfjmcjicpodaaGreatDoor
/- ref14.Get where the rows are still being made. -/
set_option linter.all false
set_option maxRecDepth 20000
namespace Go.Proofs.YtejfjmcjicpodaaGreatDoor
open Go Vc Go.RowKit Wf
set_option linter.unusedSimpArgs false
set_option maxHeartbeats 4000000 in
theorem sc_r14_GetR {bs : List Res} {yk y : SV} {Ks : List Bytes} {Ls : List Tv} {key : Bytes}
    (hk : (yk = .nils ∧ Ks = []) ∨ ∃ q,0 < Ks.length ∧ yk = .o q Ks.length ∧ bs[q]? = some (.own (Ks.map SV.str) 9 1 Ks.length true))
    (hi : (y = .nils ∧ Ls = []) ∨ ∃ q,0 < Ls.length ∧ y = .o q Ls.length ∧ bs[q]? = some (.own (Ls.flatMap tv) 25 4 Ls.length true))
    (hL : ∀ v ∈ Ls,TvIn bs.length v) (hKl : Ks.length ≤ 2000000) (hLl : Ls.length ≤ 2000000) :
    SC Tryz.V 42 [.agg [.int .i64 7,.str [],yk,y],.str key] bs (fun r b => ∃ (x : Tv) (ok : Bool),r = .tup [.agg (tv x),.bool ok] ∧ TvIn bs.length x ∧ Kp bs b) := by
  have hz : TvIn bs.length ⟨0,[],.nils,.nils⟩ := ⟨rfl,rfl,rfl,rfl⟩
  have v1 : within bs.length yk = true := by
    rcases hk with ⟨rfl,-⟩ | ⟨q,-,rfl,h⟩
    · rfl
    · have := (List.getElem?_eq_some_iff.1 h).1
      simp [within,this]
  have v2 : within bs.length y = true := by
    rcases hi with ⟨rfl,-⟩ | ⟨q,-,rfl,h⟩
    · rfl
    · have := (List.getElem?_eq_some_iff.1 h).1
      simp [within,this]
  have v3 : one yk = true := by rcases hk with ⟨rfl,-⟩ | ⟨q,-,rfl,-⟩ <;> rfl
  have v4 : one y = true := by rcases hi with ⟨rfl,-⟩ | ⟨q,-,rfl,-⟩ <;> rfl
  have hlk : ∀ e,lenS (.slice e) yk = some (.int .i64 Ks.length) := fun e => by
    rcases hk with ⟨rfl,rfl⟩ | ⟨q,-,rfl,h⟩ <;> rfl
  have hli : ∀ e,lenS (.slice e) y = some (.int .i64 Ls.length) := fun e => by
    rcases hi with ⟨rfl,rfl⟩ | ⟨q,-,rfl,h⟩ <;> rfl
  refine sc_of 3000 Tryz.func42 rfl Tryz.ntmps42 Tryz.results42 Tryz.call42 (by simp) (fun β β' hb => concL_within bs.length _ (by simp [within,within.withinL,v1,v2]) β β' hb) ?_
  simp only [lawG,↓Xn,↓Xo,↓Xg,↓Xd,↓Xe,↓Xf,Tryz.VΓ,Tryz.Γs,Xp,Xi,Nat.reduceAdd,Nat.reduceSub,Nat.reduceLT,Nat.reduceLeDiff,reduceIte,reduceCtorEq,Nat.reduceEqDiff,implies_true,forall_const,lawV,lawA,beq_self_eq_true,bne_self_eq_false,Int.reduceBEq,Int.reduceBNe,Int.reduceLT,Int.reduceLE,v3,v4,hlk]
  refine loopV_mk (fun σ => ∃ k : Nat,k ≤ Ks.length ∧ lk 1 σ.t = some (.str key) ∧ lk 2 σ.t = some (.p bs.length 0) ∧ lk 4 σ.t = some (.p (bs.length + 1) 0) ∧ lk 13 σ.t = some (.int .i64 Ks.length) ∧ lk 14 σ.t = some (.int .i64 k) ∧ σ.b = bs ++ [.cells [.int .i64 7,.str [],yk,y] 25 true,.cells [.int .i64 0,.str [],.nils,.nils] 25 true]) (fun σ => Ks.length - lkI 14 σ) ⟨0,by omega,rfl,rfl,rfl,rfl,rfl,rfl⟩ ?_
  rintro ⟨t,b⟩ ⟨k,hkk,h1,h2,h4,h13,h14,hb⟩
  simp only at h1 h2 h4 h13 h14 hb
  subst hb
  rw [lkI_eq h14]
  by_cases hlt : k < Ks.length
  · have hlt2 : decide ((k : Int) < Ks.length) = true := decide_eq_true (by omega)
    rcases hk with ⟨-,e40⟩ | ⟨i,-,rfl,hi1⟩
    · rw [e40] at hlt; exact absurd hlt (by simp)
    have hkt : (Ks.map SV.str)[k * 1]? = some (.str Ks[k]) := by simp [hlt]
    have hkl : (Ks.map SV.str).length = Ks.length := List.length_map ..
    cases hbe : Ks[k] == key
    rotate_left
    · by_cases hltL : k < Ls.length
      · have hlt3 : decide ((k : Int) < Ls.length) = true := decide_eq_true (by omega)
        rcases hi with ⟨-,e80⟩ | ⟨q,-,rfl,hq⟩
        · rw [e80] at hltL; simp at hltL
        have hu : List.take 4 (List.drop (k * 4) (Ls.flatMap tv)) = [.int .i64 Ls[k].k,.str Ls[k].t,Ls[k].xk,Ls[k].xi] := tv_at Ls k hltL
        have hul := tv_len Ls
        obtain ⟨x1,x2,x3,x4⟩ := hL Ls[k] (List.getElem_mem hltL)
        have hxo : (one Ls[k].xk && one Ls[k].xi) = true := by rw [x3,x4]; rfl
        simp only [lawG,↓Xn,↓Xo,↓Xg,↓Xd,↓Xe,↓Xf,Tryz.VΓ,Tryz.Γs,Xp,Xi,Nat.reduceAdd,Nat.reduceSub,Nat.reduceLT,Nat.reduceLeDiff,reduceIte,reduceCtorEq,Nat.reduceEqDiff,implies_true,forall_const,lawV,lawA,beq_self_eq_true,bne_self_eq_false,Int.reduceBEq,Int.reduceBNe,Int.reduceLT,Int.reduceLE,h1,h2,h4,h13,h14,hlt2,hlt3,at_old hi1,at_old hq,hkt,hu,hul,hxo,hli,hlk,hbe,Bool.and_true,Bool.and_self]
        (repeat (refine ⟨by first | omega | (unfold maxLen; omega),?_⟩))
        exact ⟨Ls[k],true,rfl,hL _ (List.getElem_mem hltL),(Kp.refl bs).app _⟩
      · have hlt3 : decide ((k : Int) < Ls.length) = false := decide_eq_false (by omega)
        simp only [lawG,↓Xn,↓Xo,↓Xg,↓Xd,↓Xe,↓Xf,Tryz.VΓ,Tryz.Γs,Xp,Xi,Nat.reduceAdd,Nat.reduceSub,Nat.reduceLT,Nat.reduceLeDiff,reduceIte,reduceCtorEq,Nat.reduceEqDiff,implies_true,forall_const,lawV,lawA,beq_self_eq_true,bne_self_eq_false,Int.reduceBEq,Int.reduceBNe,Int.reduceLT,Int.reduceLE,h1,h2,h4,h13,h14,hlt2,hlt3,at_old hi1,hkt,hli,hlk,hbe,Bool.and_true,Bool.and_self]
        (repeat (refine ⟨by first | omega | (unfold maxLen; omega),?_⟩))
        refine ⟨⟨k + 1,by omega,rfl⟩,?_⟩
        rw [lkI_eq (k := .i64) (n := (k : Int) + 1) rfl]; omega
    · simp only [lawG,↓Xn,↓Xo,↓Xg,↓Xd,↓Xe,↓Xf,Tryz.VΓ,Tryz.Γs,Xp,Xi,Nat.reduceAdd,Nat.reduceSub,Nat.reduceLT,Nat.reduceLeDiff,reduceIte,reduceCtorEq,Nat.reduceEqDiff,implies_true,forall_const,lawV,lawA,beq_self_eq_true,bne_self_eq_false,Int.reduceBEq,Int.reduceBNe,Int.reduceLT,Int.reduceLE,h1,h2,h4,h13,h14,hlt2,at_old hi1,hkt,hli,hlk,hbe,Bool.and_true,Bool.and_self]
      (repeat (refine ⟨by first | omega | (unfold maxLen; omega),?_⟩))
      refine ⟨⟨k + 1,by omega,rfl⟩,?_⟩
      rw [lkI_eq (k := .i64) (n := (k : Int) + 1) rfl]; omega
  · have hlt2 : decide ((k : Int) < Ks.length) = false := decide_eq_false (by omega)
    simp only [lawG,↓Xn,↓Xo,↓Xg,↓Xd,↓Xe,↓Xf,Tryz.VΓ,Tryz.Γs,Xp,Xi,Nat.reduceAdd,Nat.reduceSub,Nat.reduceLT,Nat.reduceLeDiff,reduceIte,reduceCtorEq,Nat.reduceEqDiff,implies_true,forall_const,lawV,lawA,beq_self_eq_true,bne_self_eq_false,Int.reduceBEq,Int.reduceBNe,Int.reduceLT,Int.reduceLE,h1,h2,h4,h13,h14,hlt2]
    exact ⟨⟨0,[],.nils,.nils⟩,false,rfl,hz,(Kp.refl bs).app _⟩
end Go.Proofs.YtejfjmcjicpodaaGreatDoor
/- ref14's parser: object. -/
set_option linter.all false
set_option maxRecDepth 20000
namespace Go.Proofs.YtejfjmcjicpodaaGreatDoor
open Go Vc Go.RowKit Wf
set_option linter.unusedSimpArgs false
def OI (s : Bytes) (bs : List Res) (p d a0 : Nat) (f0 : Int) (σ : St) : Prop := ∃ (a n : Nat) (f w k : Int) (u : Bytes) (pos : Int) (yk y : SV) (Ks : List Bytes) (Ls : List Tv) (Js : List Jv),AS 7 s bs p d a n f w k u pos yk y Ks Ls Js σ.t σ.b ∧ Ks.length = Js.length ∧ a0 ≤ a ∧ a ≤ s.length ∧ n ≤ 20001 ∧ (f = 0 → n ≤ 20000 ∧ f0 = 0) ∧ Js.length + (if f = 0 then s.length - a + 1 else 0) ≤ s.length + 1
theorem AS.re {K : Int} {s : Bytes} {bs : List Res} {p d a n : Nat} {f w k : Int} {u : Bytes} {pos : Int} {yk y : SV} {Ks : List Bytes} {Ls : List Tv} {Js : List Jv} {t : List (Nat × SV)} {b : List Res} (h : AS K s bs p d a n f w k u pos yk y Ks Ls Js t b) {b' : List Res}
    (hkeep : ∀ i r,b[i]? = some r → i ≠ bs.length + 1 → (i ≤ bs.length + 2 ∨ ∀ c e z n,r ≠ .own c e z n true) → b'[i]? = some r) (hl : b.length ≤ b'.length)
    {yk' y' : SV} {Ks' : List Bytes} {Ls' : List Tv} {Js' : List Jv} (hb1 : b'[bs.length + 1]? = some (.cells [.int .i64 K,.str [],yk',y'] 25 true))
    (hrk : (yk' = .nils ∧ Ks' = []) ∨ ∃ q,0 < Ks'.length ∧ yk' = .o q Ks'.length ∧ bs.length + 2 < q ∧ b'[q]? = some (.own (Ks'.map SV.str) 9 1 Ks'.length true))
    (hri : (y' = .nils ∧ Ls' = []) ∨ ∃ q,0 < Ls'.length ∧ y' = .o q Ls'.length ∧ bs.length + 2 < q ∧ b'[q]? = some (.own (Ls'.flatMap tv) 25 4 Ls'.length true))
    (hjs : Ro b b' → TJs b' Js' Ls') (hjb : JBs (s.length + 410) Js') (hkb : ∀ x ∈ Ks',x.length ≤ s.length + 410) : AS K s bs p d a n f w k u pos yk' y' Ks' Ls' Js' t b' := by
  have hpl := h.pl
  refine { h with kp := ⟨Nat.le_trans h.kp.1 hl,fun i hi hn => ?_,hkeep p _ h.kp.2.2 (by omega) (.inl (by omega))⟩,b0 := hkeep _ _ h.b0 (by omega) (.inl (by omega)),b1 := hb1,b2 := hkeep _ _ h.b2 (by omega) (.inl (by omega)),rk := hrk,ri := hri,js := hjs ?_,jb := hjb,kb := hkb }
  · have e := h.kp.2.1 i hi hn
    have hbi := List.getElem?_eq_getElem hi
    rw [hbi] at e ⊢
    exact hkeep i _ e (by omega) (.inl (by omega))
  · intro i c e z n' hi
    refine hkeep i _ hi ?_ (.inr (by intro _ _ _ _ e; cases e))
    rintro rfl
    rw [h.b1] at hi; cases hi
theorem tjs_snoc {b : List Res} {j : Jv} {v : Tv} {Js : List Jv} {Ls : List Tv} (h : TJs b Js Ls) (hj : TJ b j v) : TJs b (Js ++ [j]) (Ls ++ [v]) := by
  refine h.app (L2 := [j]) (Ls2 := [v]) ?_
  rw [TJs]
  exact ⟨v,[],rfl,hj,by rw [TJs]⟩
theorem vcS_block {V : Cx} {n : Nat} {E : Fin} {f id : Nat} {x : Code} {k : List Vc.Item} {σ : St} (h : vcS V n E f (.code x :: .endb id :: k) σ) : vcS V n E (f + 1) (.code (.block id x) :: k) σ := by
  simp only [vcS]
  exact h
set_option maxHeartbeats 32000000 in
theorem sc_r14_object {s : Bytes} (hs : s.length ≤ 1000000) {d : Nat} (hV : VlOK s d) : RdOK s 58 d := by
  intro bs p a0 n0 f0 w0 hp ha hn hfn
  refine SC.dimAll ?_
  have hpl := (List.getElem?_eq_some_iff.1 hp).1
  have hk0 := KpP.of (p := p) hp (Kp.refl bs)
  refine sc_of 3000 Tryz.func58 rfl Tryz.ntmps58 Tryz.results58 Tryz.call58 (by simp) (fun β β' hb => concL_within bs.length _ (by simp [within,within.withinL,hpl]) β β' hb) ?_
  obtain ⟨k,u,pos,a,f,w,g1,g2,g3,g4,hnx⟩ := sx_r14_next s (by omega) a0 n0 f0 w0 ha
  refine vcS_cutS 2900 (fun σ => lk 0 σ.t = some (.p p 0) ∧ lk 1 σ.t = some (.int .i64 d) ∧ lk 4 σ.t = some (.p bs.length 0) ∧ σ.b = bs ++ [.cells zv 25 true]) ?_ (fun k' hk' => ?_)
  rotate_left
  · simp only [lawG,↓Xn,↓Xo,↓Xg,↓Xd,↓Xe,↓Xf,Tryz.VΓ,Tryz.Γs,Xp,Xi,Nat.reduceAdd,Nat.reduceSub,Nat.reduceLT,Nat.reduceLeDiff,reduceIte,reduceCtorEq,Nat.reduceEqDiff,implies_true,forall_const,lawV,lawA,beq_self_eq_true,bne_self_eq_false,Int.reduceBEq,Int.reduceBNe,Int.reduceLT,Int.reduceLE]
    exact hk' _ _ ⟨rfl,rfl,rfl,rfl⟩
  rintro m ⟨t,b⟩ ⟨h0,h1,h4,rfl⟩
  simp only at h0 h1 h4
  refine vcS_cutS 2800 (fun σ => lk 0 σ.t = some (.p p 0) ∧ lk 1 σ.t = some (.int .i64 d) ∧ lk 4 σ.t = some (.p bs.length 0) ∧ lk 5 σ.t = some (.p (bs.length + 1) 0) ∧ σ.b = bs ++ [.cells zv 25 true,.cells [.int .i64 7,.str [],.nils,.nils] 25 true]) ?_ (fun k' hk' => ?_)
  rotate_left
  · simp only [lawG,↓Xn,↓Xo,↓Xg,↓Xd,↓Xe,↓Xf,Tryz.VΓ,Tryz.Γs,Xp,Xi,Nat.reduceAdd,Nat.reduceSub,Nat.reduceLT,Nat.reduceLeDiff,reduceIte,reduceCtorEq,Nat.reduceEqDiff,implies_true,forall_const,lawV,lawA,beq_self_eq_true,bne_self_eq_false,Int.reduceBEq,Int.reduceBNe,Int.reduceLT,Int.reduceLE,h0,h1,h4]
    exact hk' _ _ ⟨by simp [lk,h0],by simp [lk,h1],by simp [lk,h4],rfl,rfl⟩
  rintro m ⟨t,b⟩ ⟨h0,h1,h4,h5,rfl⟩
  simp only at h0 h1 h4 h5
  refine vcS_cutS 2700 (fun σ => AS 7 s bs p d a n0 f w k u pos .nils .nils [] [] [] σ.t σ.b) ?_ (fun k' hk' => ?_)
  rotate_left
  · have hn' := hnx (bs ++ [.cells zv 25 true,.cells [.int .i64 7,.str [],.nils,.nils] 25 true]) p (at_old hp _)
    simp only [lawG,↓Xn,↓Xo,↓Xg,↓Xd,↓Xe,↓Xf,Tryz.VΓ,Tryz.Γs,Xp,Xi,Nat.reduceAdd,Nat.reduceSub,Nat.reduceLT,Nat.reduceLeDiff,reduceIte,reduceCtorEq,Nat.reduceEqDiff,implies_true,forall_const,lawV,lawA,beq_self_eq_true,bne_self_eq_false,Int.reduceBEq,Int.reduceBNe,Int.reduceLT,Int.reduceLE,h0,h1,h4,h5]
    refine callV_sc hn' ?_
    rintro r b ⟨rfl,rfl⟩
    unfold tok
    simp only [lawG,↓Xn,↓Xo,↓Xg,↓Xd,↓Xe,↓Xf,Tryz.VΓ,Tryz.Γs,Xp,Xi,Nat.reduceAdd,Nat.reduceSub,Nat.reduceLT,Nat.reduceLeDiff,reduceIte,reduceCtorEq,Nat.reduceEqDiff,implies_true,forall_const,lawV,lawA,beq_self_eq_true,bne_self_eq_false,Int.reduceBEq,Int.reduceBNe,Int.reduceLT,Int.reduceLE,h0,h1,h4,h5]
    exact hk' _ _ (AS.init hp g3 (by simp [lk,h0]) (by simp [lk,h1]) (by simp [lk,h4]) (by simp [lk,h5]) (by simp [lk]))
  clear h0 h1 h4 h5
  rintro m ⟨t,b⟩ h
  simp only at h
  refine vcS_cutS 2600 (fun σ => AS 7 s bs p d a n0 f w k u pos .nils .nils [] [] [] σ.t σ.b) ?_ (fun k' hk' => ?_)
  rotate_left
  · have i1 := p_r14_is k u pos [125]
    have hb2 := h.b2
    (have hones : (one _ && one _) = true := (h).ones
     have hb0 := (h).b0
     have hb1 := (h).b1
     have hl0 := (List.getElem?_eq_some_iff.1 hb0).1
     have hg0 : ∀ X,(b.set bs.length X)[bs.length]? = some X := fun X => List.getElem?_set_self hl0
     have m0 := (h).l0
     have m4 := (h).l4
     have m5 := (h).l5
     have m6 := (h).l6
     unfold zv at hb0)
    unfold tok at i1 hb2
    simp only [lawG,↓Xn,↓Xo,↓Xg,↓Xd,↓Xe,↓Xf,Tryz.VΓ,Tryz.Γs,Xp,Xi,Nat.reduceAdd,Nat.reduceSub,Nat.reduceLT,Nat.reduceLeDiff,reduceIte,reduceCtorEq,Nat.reduceEqDiff,implies_true,forall_const,lawV,lawA,beq_self_eq_true,bne_self_eq_false,Int.reduceBEq,Int.reduceBNe,Int.reduceLT,Int.reduceLE,m6,hb2]
    refine callV_pc i1 ?_
    cases c1 : (k == 2 && u == [125])
    · simp only [lawG,↓Xn,↓Xo,↓Xg,↓Xd,↓Xe,↓Xf,Tryz.VΓ,Tryz.Γs,Xp,Xi,Nat.reduceAdd,Nat.reduceSub,Nat.reduceLT,Nat.reduceLeDiff,reduceIte,reduceCtorEq,Nat.reduceEqDiff,implies_true,forall_const,lawV,lawA,beq_self_eq_true,bne_self_eq_false,Int.reduceBEq,Int.reduceBNe,Int.reduceLT,Int.reduceLE]
      exact hk' _ _ (h.mv (by simp [SL,lk]))
    · simp only [lawG,↓Xn,↓Xo,↓Xg,↓Xd,↓Xe,↓Xf,Tryz.VΓ,Tryz.Γs,Xp,Xi,Nat.reduceAdd,Nat.reduceSub,Nat.reduceLT,Nat.reduceLeDiff,reduceIte,reduceCtorEq,Nat.reduceEqDiff,implies_true,forall_const,lawV,lawA,beq_self_eq_true,bne_self_eq_false,Int.reduceBEq,Int.reduceBNe,Int.reduceLT,Int.reduceLE,m0,m4,m5,m6,hb1,hg0,hb0]
      exact h.out g1 g2 hn (fun e => ⟨hfn (g4 e).1,(g4 e).1⟩) hs (by simp) (by simp) _
  clear h
  rintro m ⟨t,b⟩ h
  simp only at h
  refine vcS_cutS 2500 (OI s bs p d a0 f0) ?_ (fun k' hk' => ?_)
  rotate_left
  · have h0' : OI s bs p d a0 f0 ⟨t,b⟩ := ⟨a,n0,f,w,k,u,pos,.nils,.nils,[],[],[],h,rfl,g1,g2,hn,fun e => ⟨hfn (g4 e).1,(g4 e).1⟩,by simp; split <;> omega⟩
    simp only [lawG,↓Xn,↓Xo,↓Xg,↓Xd,↓Xe,↓Xf,Tryz.VΓ,Tryz.Γs,Xp,Xi,Nat.reduceAdd,Nat.reduceSub,Nat.reduceLT,Nat.reduceLeDiff,reduceIte,reduceCtorEq,Nat.reduceEqDiff,implies_true,forall_const,lawV,lawA,beq_self_eq_true,bne_self_eq_false,Int.reduceBEq,Int.reduceBNe,Int.reduceLT,Int.reduceLE]
    refine loopV_mk (OI s bs p d a0 f0) (muP p) h0' ?_
    clear h h0' g1 g2 g3 g4 hnx
    clear a f w k u pos
    rintro ⟨t,b⟩ ⟨a,n,f,w,k,u,pos,yk,y,Ks,Ls,Js,h,hKJ,e1,e2,e3,e4,e5⟩
    simp only at h
    rw [h.mu]
    have hbp := h.pp
    unfold pbox pcl at hbp
    have m0 := h.l0
    by_cases hf : f = 0
    rotate_left
    · have hb : (f == 0) = false := by simp [hf]
      simp only [lawG,↓Xn,↓Xo,↓Xg,↓Xd,↓Xe,↓Xf,Tryz.VΓ,Tryz.Γs,Xp,Xi,Nat.reduceAdd,Nat.reduceSub,Nat.reduceLT,Nat.reduceLeDiff,reduceIte,reduceCtorEq,Nat.reduceEqDiff,implies_true,forall_const,lawV,lawA,beq_self_eq_true,bne_self_eq_false,Int.reduceBEq,Int.reduceBNe,Int.reduceLT,Int.reduceLE,m0,hbp,hb]
      exact hk' _ _ ⟨a,n,f,w,k,u,pos,yk,y,Ks,Ls,Js,h.mv (by simp [SL,lk]),hKJ,e1,e2,e3,e4,e5⟩
    subst hf
    obtain ⟨hn20,hf0⟩ := e4 rfl
    have e5' : Js.length + 1 + (s.length - a) ≤ s.length + 1 := by simp at e5; omega
    clear e4 e5 hfn
    have hLJ := h.js.len
    refine vcS_cutS 2450 (fun σ => AS 7 s bs p d a n 0 w k u pos yk y Ks Ls Js σ.t σ.b) ?_ (fun k' hk' => ?_)
    rotate_left
    · simp only [lawG,↓Xn,↓Xo,↓Xg,↓Xd,↓Xe,↓Xf,Tryz.VΓ,Tryz.Γs,Xp,Xi,Nat.reduceAdd,Nat.reduceSub,Nat.reduceLT,Nat.reduceLeDiff,reduceIte,reduceCtorEq,Nat.reduceEqDiff,implies_true,forall_const,lawV,lawA,beq_self_eq_true,bne_self_eq_false,Int.reduceBEq,Int.reduceBNe,Int.reduceLT,Int.reduceLE,m0,hbp]
      exact hk' _ _ (h.mv (by simp [SL,lk]))
    clear h hbp m0
    rintro m ⟨t,b⟩ h
    simp only at h
    refine vcS_block ?_
    refine vcS_cutS 2400 (fun σ => ∃ f1 w1 : Int,AS 7 s bs p d a n f1 w1 k u pos yk y Ks Ls Js σ.t σ.b) ?_ (fun k' hk' => ?_)
    rotate_left
    · have hb2 := h.b2
      unfold tok at hb2
      have m0 := h.l0
      have m6 := h.l6
      have hst := sc_r14_stop h.pp pos 140
      have hA := h.setp a n (stF 0 140) (stW 0 w pos)
      cases k3 : k != 3
      · simp only [lawG,↓Xn,↓Xo,↓Xg,↓Xd,↓Xe,↓Xf,Tryz.VΓ,Tryz.Γs,Xp,Xi,Nat.reduceAdd,Nat.reduceSub,Nat.reduceLT,Nat.reduceLeDiff,reduceIte,reduceCtorEq,Nat.reduceEqDiff,implies_true,forall_const,lawV,lawA,beq_self_eq_true,bne_self_eq_false,Int.reduceBEq,Int.reduceBNe,Int.reduceLT,Int.reduceLE,m0,m6,hb2,k3]
        exact hk' _ _ ⟨_,_,h.mv (by simp [SL,lk])⟩
      · simp only [lawG,↓Xn,↓Xo,↓Xg,↓Xd,↓Xe,↓Xf,Tryz.VΓ,Tryz.Γs,Xp,Xi,Nat.reduceAdd,Nat.reduceSub,Nat.reduceLT,Nat.reduceLeDiff,reduceIte,reduceCtorEq,Nat.reduceEqDiff,implies_true,forall_const,lawV,lawA,beq_self_eq_true,bne_self_eq_false,Int.reduceBEq,Int.reduceBNe,Int.reduceLT,Int.reduceLE,m0,m6,hb2,k3]
        refine callV_sc hst ?_
        rintro r b' ⟨rfl,rfl⟩
        simp only [lawG,↓Xn,↓Xo,↓Xg,↓Xd,↓Xe,↓Xf,Tryz.VΓ,Tryz.Γs,Xp,Xi,Nat.reduceAdd,Nat.reduceSub,Nat.reduceLT,Nat.reduceLeDiff,reduceIte,reduceCtorEq,Nat.reduceEqDiff,implies_true,forall_const,lawV,lawA,beq_self_eq_true,bne_self_eq_false,Int.reduceBEq,Int.reduceBNe,Int.reduceLT,Int.reduceLE]
        exact hk' _ _ ⟨_,_,hA.mv (by simp [SL,lk])⟩
    clear h
    rintro m ⟨t,b⟩ ⟨f1,w1,h⟩
    simp only at h
    refine vcS_cutS 2350 (fun σ => ∃ f1 w1 : Int,AS 7 s bs p d a n f1 w1 k u pos yk y Ks Ls Js σ.t σ.b) ?_ (fun k' hk' => ?_)
    rotate_left
    · have hb2 := h.b2
      have hb1 := h.b1
      unfold tok at hb2
      have m0 := h.l0
      have m5 := h.l5
      have m6 := h.l6
      have v3 := h.onek
      have v4 := h.oney
      have hget := sc_r14_GetR (key := u) (by rcases h.rk with e | ⟨q,z1,z2,z3,z4⟩; exact .inl e; exact .inr ⟨q,z1,z2,z4⟩) (by rcases h.ri with e | ⟨q,z1,z2,z3,z4⟩; exact .inl e; exact .inr ⟨q,z1,z2,z4⟩) h.js.tin (by omega) (by omega)
      simp only [lawG,↓Xn,↓Xo,↓Xg,↓Xd,↓Xe,↓Xf,Tryz.VΓ,Tryz.Γs,Xp,Xi,Nat.reduceAdd,Nat.reduceSub,Nat.reduceLT,Nat.reduceLeDiff,reduceIte,reduceCtorEq,Nat.reduceEqDiff,implies_true,forall_const,lawV,lawA,beq_self_eq_true,bne_self_eq_false,Int.reduceBEq,Int.reduceBNe,Int.reduceLT,Int.reduceLE,m0,m5,m6,hb1,hb2,v3,v4]
      refine callV_sc hget ?_
      rintro r b' ⟨x,ok,rfl,hx,hkk⟩
      obtain ⟨-,-,x3,x4⟩ := hx
      have hxo : (one x.xk && one x.xi) = true := by rw [x3,x4]; rfl
      have h2 := h.call (KpP.of h.pp hkk)
      have hA := h2.app [.cells (tv x) 25 true]
      unfold tv at hA ⊢
      cases ok
      · simp only [lawG,↓Xn,↓Xo,↓Xg,↓Xd,↓Xe,↓Xf,Tryz.VΓ,Tryz.Γs,Xp,Xi,Nat.reduceAdd,Nat.reduceSub,Nat.reduceLT,Nat.reduceLeDiff,reduceIte,reduceCtorEq,Nat.reduceEqDiff,implies_true,forall_const,lawV,lawA,beq_self_eq_true,bne_self_eq_false,Int.reduceBEq,Int.reduceBNe,Int.reduceLT,Int.reduceLE,hxo]
        exact hk' _ _ ⟨_,_,hA.mv (by simp [SL,lk])⟩
      · have hb2' := hA.b2
        unfold tok at hb2'
        have hst := sc_r14_stop hA.pp pos 143
        have hA2 := hA.setp a n (stF f1 143) (stW f1 w1 pos)
        simp only [lawG,↓Xn,↓Xo,↓Xg,↓Xd,↓Xe,↓Xf,Tryz.VΓ,Tryz.Γs,Xp,Xi,Nat.reduceAdd,Nat.reduceSub,Nat.reduceLT,Nat.reduceLeDiff,reduceIte,reduceCtorEq,Nat.reduceEqDiff,implies_true,forall_const,lawV,lawA,beq_self_eq_true,bne_self_eq_false,Int.reduceBEq,Int.reduceBNe,Int.reduceLT,Int.reduceLE,hxo,m0,m6,hb2']
        refine callV_sc hst ?_
        rintro r b' ⟨rfl,rfl⟩
        simp only [lawG,↓Xn,↓Xo,↓Xg,↓Xd,↓Xe,↓Xf,Tryz.VΓ,Tryz.Γs,Xp,Xi,Nat.reduceAdd,Nat.reduceSub,Nat.reduceLT,Nat.reduceLeDiff,reduceIte,reduceCtorEq,Nat.reduceEqDiff,implies_true,forall_const,lawV,lawA,beq_self_eq_true,bne_self_eq_false,Int.reduceBEq,Int.reduceBNe,Int.reduceLT,Int.reduceLE]
        exact hk' _ _ ⟨_,_,hA2.mv (by simp [SL,lk])⟩
    clear h f1 w1
    rintro m ⟨t,b⟩ ⟨f1,w1,h⟩
    simp only at h
    refine vcS_cutS 2300 (fun σ => AS 7 s bs p d a n f1 w1 k u pos yk y Ks Ls Js σ.t σ.b ∧ lk 9 σ.t = some (.str u)) ?_ (fun k' hk' => ?_)
    rotate_left
    · have hb2 := h.b2
      unfold tok at hb2
      have m6 := h.l6
      simp only [lawG,↓Xn,↓Xo,↓Xg,↓Xd,↓Xe,↓Xf,Tryz.VΓ,Tryz.Γs,Xp,Xi,Nat.reduceAdd,Nat.reduceSub,Nat.reduceLT,Nat.reduceLeDiff,reduceIte,reduceCtorEq,Nat.reduceEqDiff,implies_true,forall_const,lawV,lawA,beq_self_eq_true,bne_self_eq_false,Int.reduceBEq,Int.reduceBNe,Int.reduceLT,Int.reduceLE,m6,hb2]
      exact hk' _ _ ⟨h.mv (by simp [SL,lk]),rfl⟩
    have hul := h.ul
    clear h
    rintro m ⟨t,b⟩ ⟨h,h9⟩
    simp only at h h9
    obtain ⟨k2,u2,pos2,a2,f2,w2,r1,r2,r3,r4,hnx⟩ := sx_r14_next s (by omega) a n f1 w1 e2
    refine vcS_cutS 2250 (fun σ => ∃ f3 w3 : Int,AS 7 s bs p d a2 n f3 w3 k2 u2 pos2 yk y Ks Ls Js σ.t σ.b ∧ lk 9 σ.t = some (.str u)) ?_ (fun k' hk' => ?_)
    rotate_left
    · refine vcS_cutS 2270 (fun σ => AS 7 s bs p d a2 n f2 w2 k2 u2 pos2 yk y Ks Ls Js σ.t σ.b ∧ lk 9 σ.t = some (.str u)) ?_ (fun k' hk' => ?_)
      rotate_left
      · have hn' := hnx b p h.pp
        have h2 := h.setp a2 n f2 w2
        have hb2 := h2.b2
        have hA := h2.setk k2 pos2 r3
        have m0 := h.l0
        have m6 := h.l6
        unfold tok at hn' hb2 hA
        simp only [lawG,↓Xn,↓Xo,↓Xg,↓Xd,↓Xe,↓Xf,Tryz.VΓ,Tryz.Γs,Xp,Xi,Nat.reduceAdd,Nat.reduceSub,Nat.reduceLT,Nat.reduceLeDiff,reduceIte,reduceCtorEq,Nat.reduceEqDiff,implies_true,forall_const,lawV,lawA,beq_self_eq_true,bne_self_eq_false,Int.reduceBEq,Int.reduceBNe,Int.reduceLT,Int.reduceLE,m0,m6]
        refine callV_sc hn' ?_
        rintro r b' ⟨rfl,rfl⟩
        simp only [lawG,↓Xn,↓Xo,↓Xg,↓Xd,↓Xe,↓Xf,Tryz.VΓ,Tryz.Γs,Xp,Xi,Nat.reduceAdd,Nat.reduceSub,Nat.reduceLT,Nat.reduceLeDiff,reduceIte,reduceCtorEq,Nat.reduceEqDiff,implies_true,forall_const,lawV,lawA,beq_self_eq_true,bne_self_eq_false,Int.reduceBEq,Int.reduceBNe,Int.reduceLT,Int.reduceLE,m0,m6,hb2]
        exact hk' _ _ ⟨hA.mv (by simp [SL,lk]),by simp [lk,h9]⟩
      clear h h9
      rintro m ⟨t,b⟩ ⟨h,h9⟩
      simp only at h h9
      have i1 := p_r14_is k2 u2 pos2 [58]
      have hb2 := h.b2
      have hbp := h.pp
      have m0 := h.l0
      have m6 := h.l6
      unfold tok at i1 hb2
      have hst := sc_r14_stop h.pp pos2 140
      have hA := h.setp a2 n (stF f2 140) (stW f2 w2 pos2)
      unfold pbox pcl at hbp
      cases c0 : f2 == 0
      · simp only [lawG,↓Xn,↓Xo,↓Xg,↓Xd,↓Xe,↓Xf,Tryz.VΓ,Tryz.Γs,Xp,Xi,Nat.reduceAdd,Nat.reduceSub,Nat.reduceLT,Nat.reduceLeDiff,reduceIte,reduceCtorEq,Nat.reduceEqDiff,implies_true,forall_const,lawV,lawA,beq_self_eq_true,bne_self_eq_false,Int.reduceBEq,Int.reduceBNe,Int.reduceLT,Int.reduceLE,m0,m6,hb2,hbp,c0]
        exact hk' _ _ ⟨f2,w2,h.mv (by simp [SL,lk]),by simp [lk,h9]⟩
      · simp only [lawG,↓Xn,↓Xo,↓Xg,↓Xd,↓Xe,↓Xf,Tryz.VΓ,Tryz.Γs,Xp,Xi,Nat.reduceAdd,Nat.reduceSub,Nat.reduceLT,Nat.reduceLeDiff,reduceIte,reduceCtorEq,Nat.reduceEqDiff,implies_true,forall_const,lawV,lawA,beq_self_eq_true,bne_self_eq_false,Int.reduceBEq,Int.reduceBNe,Int.reduceLT,Int.reduceLE,m0,m6,hb2,hbp,c0]
        refine callV_pc i1 ?_
        cases c1 : (k2 == 2 && u2 == [58])
        · simp only [lawG,↓Xn,↓Xo,↓Xg,↓Xd,↓Xe,↓Xf,Tryz.VΓ,Tryz.Γs,Xp,Xi,Nat.reduceAdd,Nat.reduceSub,Nat.reduceLT,Nat.reduceLeDiff,reduceIte,reduceCtorEq,Nat.reduceEqDiff,implies_true,forall_const,lawV,lawA,beq_self_eq_true,bne_self_eq_false,Int.reduceBEq,Int.reduceBNe,Int.reduceLT,Int.reduceLE,m0,m6,hb2,Bool.not_false]
          refine callV_sc hst ?_
          rintro r b' ⟨rfl,rfl⟩
          simp only [lawG,↓Xn,↓Xo,↓Xg,↓Xd,↓Xe,↓Xf,Tryz.VΓ,Tryz.Γs,Xp,Xi,Nat.reduceAdd,Nat.reduceSub,Nat.reduceLT,Nat.reduceLeDiff,reduceIte,reduceCtorEq,Nat.reduceEqDiff,implies_true,forall_const,lawV,lawA,beq_self_eq_true,bne_self_eq_false,Int.reduceBEq,Int.reduceBNe,Int.reduceLT,Int.reduceLE]
          exact hk' _ _ ⟨_,_,hA.mv (by simp [SL,lk]),by simp [lk,h9]⟩
        · simp only [lawG,↓Xn,↓Xo,↓Xg,↓Xd,↓Xe,↓Xf,Tryz.VΓ,Tryz.Γs,Xp,Xi,Nat.reduceAdd,Nat.reduceSub,Nat.reduceLT,Nat.reduceLeDiff,reduceIte,reduceCtorEq,Nat.reduceEqDiff,implies_true,forall_const,lawV,lawA,beq_self_eq_true,bne_self_eq_false,Int.reduceBEq,Int.reduceBNe,Int.reduceLT,Int.reduceLE,m0,m6,hb2,Bool.not_true]
          exact hk' _ _ ⟨f2,w2,h.mv (by simp [SL,lk]),by simp [lk,h9]⟩
    clear h h9
    rintro m ⟨t,b⟩ ⟨f3,w3,h,h9⟩
    simp only at h h9
    obtain ⟨k4,u4,pos4,a4,f4,w4,x1,x2,x3,x4,hnx4⟩ := sx_r14_next s (by omega) a2 n f3 w3 r2
    refine vcS_cutS 2200 (fun σ => ∃ (a5 n5 : Nat) (f5 w5 : Int) (j : Jv) (v : Tv) (q : Nat),AS 7 s bs p d a5 n5 f5 w5 k2 u2 pos2 yk y Ks Ls Js σ.t σ.b ∧ a4 ≤ a5 ∧ a5 ≤ s.length ∧ n5 ≤ 20001 ∧ (f5 = 0 → n5 ≤ 20000) ∧ lk 9 σ.t = some (.str u) ∧ lk 10 σ.t = some (.p q 0) ∧ bs.length + 2 < q ∧ σ.b[q]? = some (.cells (tv v) 25 true) ∧ TJ σ.b j v ∧ JB (s.length + 410) j) ?_ (fun k' hk' => ?_)
    rotate_left
    · have hn' := hnx4 b p h.pp
      have h2 := h.setp a4 n f4 w4
      have hcall := hV _ p a4 n f4 w4 k4 u4 pos4 h2.pp x2 (by omega) (fun _ => hn20) x3
      have m0 := h.l0
      have m1 := h.l1
      simp only [lawG,↓Xn,↓Xo,↓Xg,↓Xd,↓Xe,↓Xf,Tryz.VΓ,Tryz.Γs,Xp,Xi,Nat.reduceAdd,Nat.reduceSub,Nat.reduceLT,Nat.reduceLeDiff,reduceIte,reduceCtorEq,Nat.reduceEqDiff,implies_true,forall_const,lawV,lawA,beq_self_eq_true,bne_self_eq_false,Int.reduceBEq,Int.reduceBNe,Int.reduceLT,Int.reduceLE,m0,m1]
      refine callV_sc hn' ?_
      rintro r b' ⟨rfl,rfl⟩
      simp only [lawG,↓Xn,↓Xo,↓Xg,↓Xd,↓Xe,↓Xf,Tryz.VΓ,Tryz.Γs,Xp,Xi,Nat.reduceAdd,Nat.reduceSub,Nat.reduceLT,Nat.reduceLeDiff,reduceIte,reduceCtorEq,Nat.reduceEqDiff,implies_true,forall_const,lawV,lawA,beq_self_eq_true,bne_self_eq_false,Int.reduceBEq,Int.reduceBNe,Int.reduceLT,Int.reduceLE,m0,m1]
      refine callV_sc hcall ?_
      rintro r b' ⟨a5,n5,f5,w5,q1,q2,q3,q4,gk,j,v,rfl,hj,hjb⟩
      have h3 := h2.call gk
      have hA := h3.app [.cells (tv v) 25 true]
      obtain ⟨-,-,v3,v4⟩ := hj.tin
      have ho : (one v.xk && one v.xi) = true := by rw [v3,v4]; rfl
      unfold tv at hA ⊢
      simp only [lawG,↓Xn,↓Xo,↓Xg,↓Xd,↓Xe,↓Xf,Tryz.VΓ,Tryz.Γs,Xp,Xi,Nat.reduceAdd,Nat.reduceSub,Nat.reduceLT,Nat.reduceLeDiff,reduceIte,reduceCtorEq,Nat.reduceEqDiff,implies_true,forall_const,lawV,lawA,beq_self_eq_true,bne_self_eq_false,Int.reduceBEq,Int.reduceBNe,Int.reduceLT,Int.reduceLE,ho]
      exact hk' _ _ ⟨a5,n5,f5,w5,j,v,b'.length,hA.mv (by simp [SL,lk]),q1,q2,q3,fun e => (q4 e).1,by simp [lk,h9],rfl,(List.getElem?_eq_some_iff.1 h3.b2).1,app_at0 _ _,hj.ro ((Ro.refl _).app _),hjb⟩
    clear h h9
    rintro m ⟨t,b⟩ ⟨a5,n5,f5,w5,j,v,q,h,q1,q2,q3,q4,h9,h10,hq,hbq,hj,hjb⟩
    simp only at h h9 h10 hbq hj
    refine vcS_cutS 2150 (fun σ => ∃ (yk' y' : SV),AS 7 s bs p d a5 n5 f5 w5 k2 u2 pos2 yk' y' (Ks ++ [u]) (Ls ++ [v]) (Js ++ [j]) σ.t σ.b) ?_ (fun k' hk' => ?_)
    rotate_left
    · have m5 := h.l5
      have hb1 := h.b1
      have hl1 := (List.getElem?_eq_some_iff.1 hb1).1
      obtain ⟨-,-,v3,v4⟩ := hj.tin
      have ho : (one v.xk && one v.xi) = true := by rw [v3,v4]; rfl
      unfold tv at hbq
      have hset : ∀ (l : List Res) X,(b ++ l).set (bs.length + 1) X = b.set (bs.length + 1) X ++ l := fun l X => app_setL hl1 l X
      rcases h.rk with ⟨rfl,rfl⟩ | ⟨qk,hk0,rfl,hqk,hbk⟩
      · have hJ0 : Js = [] := List.length_eq_zero_iff.1 hKJ.symm
        subst hJ0
        have hL0 : Ls = [] := List.length_eq_zero_iff.1 hLJ
        subst hL0
        obtain ⟨rfl,-⟩ : y = .nils ∧ True := by
          rcases h.ri with ⟨rfl,-⟩ | ⟨_,h0,-⟩
          · exact ⟨rfl,trivial⟩
          · exact absurd h0 (by simp)
        have hgs : ∀ X (l : List Res),(b.set (bs.length + 1) X ++ l)[bs.length + 1]? = some X := fun X l => get_setS hl1 X l
        have hss : ∀ X Y (l : List Res),(b.set (bs.length + 1) X ++ l).set (bs.length + 1) Y = b.set (bs.length + 1) Y ++ l := fun X Y l => by rw [app_setL (by simpa using hl1),List.set_set]
        have z1 : (b.length = bs.length + 1) = False := eq_false (by omega)
        have z2 : (b.length + 1 = bs.length + 1) = False := eq_false (by omega)
        have z3 : (b.length + 2 = bs.length + 1) = False := eq_false (by omega)
        have z4 : (b.length + 3 = bs.length + 1) = False := eq_false (by omega)
        have hqb := (List.getElem?_eq_some_iff.1 hbq).1
        have z5 : (q = bs.length + 1) = False := eq_false (by omega)
        have z6 : (b.length = q) = False := eq_false (by omega)
        have z7 : (b.length + 1 = q) = False := eq_false (by omega)
        have z8 : (b.length + 2 = q) = False := eq_false (by omega)
        have z9 : (b.length + 3 = q) = False := eq_false (by omega)
        have e2' : b.length + 2 - b.length = 2 := by omega
        have e3' : b.length + 3 - b.length = 3 := by omega
        simp only [lawG,↓Xn,↓Xo,↓Xg,↓Xd,↓Xe,↓Xf,Tryz.VΓ,Tryz.Γs,Xp,Xi,Nat.reduceAdd,Nat.reduceSub,Nat.reduceLT,Nat.reduceLeDiff,reduceIte,reduceCtorEq,Nat.reduceEqDiff,implies_true,forall_const,lawV,lawA,beq_self_eq_true,bne_self_eq_false,Int.reduceBEq,Int.reduceBNe,Int.reduceLT,Int.reduceLE,m5,h9,h10,hb1,hbq,at_old hb1,at_old hbq,hset,ho,hgs,hss]
        refine ⟨by omega,⟨by unfold maxLen; omega,by omega⟩,by omega,⟨by unfold maxLen; omega,by omega⟩,?_,hk' _ _ ⟨_,_,AS.mv (AS.re h (b' := b.set (bs.length + 1) (.cells [.int .i64 7,.str [],.o (b.length + 1) 1,.o (b.length + 3) 1] 25 true) ++ [_,.own [.str u] 9 1 1 true,_,.own (tv v) 25 4 1 true]) ?_ (by simp) (get_setS hl1 _ _) (.inr ⟨b.length + 1,by simp,rfl,by omega,?_⟩) (.inr ⟨b.length + 3,by simp,rfl,by omega,?_⟩) (fun hro => tjs_snoc (h.js.ro hro) (hj.ro hro)) (JBs.snoc hjb h.jb) ?_) (by simp [SL,lk])⟩⟩
        · refine OkD_ren (fun n => if n = bs.length + 1 then 0 else if n = q then 1 else n - b.length + 2) ?_
          simp only [List.map_cons,List.map_nil,renRk,renT,Nat.add_sub_cancel_left,Nat.sub_self,z1,z2,z3,z4,z5,z6,z7,z8,z9,e2',e3',eq_self,if_true,if_false]
          exact OkD_fast (by kernel_rfl)
        · intro i r hi hne _
          exact at_old (get_setN hi (by omega) _) _
        · rw [app_atL (by simp)]; simp
        · rw [app_atL (by simp)]; simp
        · intro x hx
          rw [List.nil_append,List.mem_singleton] at hx
          rw [hx]; omega
      · obtain ⟨qi,hi0,rfl,hqi,hbi⟩ : ∃ qi,0 < Ls.length ∧ y = .o qi Ls.length ∧ bs.length + 2 < qi ∧ b[qi]? = some (.own (Ls.flatMap tv) 25 4 Ls.length true) := by
          rcases h.ri with ⟨-,e⟩ | e
          · rw [e] at hLJ; simp at hLJ; omega
          · exact e
        have hki : qk ≠ qi := by
          rintro rfl
          rw [hbk] at hbi; simp at hbi
        have hqqk : qk ≠ q := by rintro rfl; rw [hbk] at hbq; cases hbq
        have hqqi : qi ≠ q := by rintro rfl; rw [hbi] at hbq; cases hbq
        have hkl := (List.getElem?_eq_some_iff.1 hbk).1
        have hil := (List.getElem?_eq_some_iff.1 hbi).1
        have hqb := (List.getElem?_eq_some_iff.1 hbq).1
        have c1 : ∀ (l : List Res) X,(b ++ l).set qk X = b.set qk X ++ l := fun l X => app_setL hkl l X
        have c2 := fun Y => at_old (get_setN hbi hki Y)
        have c3 : ∀ (l : List Res) Y X,(b.set qk Y ++ l).set qi X = (b.set qk Y).set qi X ++ l := fun l Y X => app_setL (by simpa using hil) l X
        have c4 := fun Y => at_old (get_setN hb1 (show qk ≠ bs.length + 1 by omega) Y)
        have c5 := fun Y => at_old (get_setN hbq hqqk Y)
        have c6 := fun Y Z => at_old (get_setN (get_setN hb1 (show qk ≠ bs.length + 1 by omega) Y) (show qi ≠ bs.length + 1 by omega) Z)
        have c7 : ∀ (l : List Res) Y Z X,((b.set qk Y).set qi Z ++ l).set (bs.length + 1) X = ((b.set qk Y).set qi Z).set (bs.length + 1) X ++ l := fun l Y Z X => app_setL (by simpa using hl1) l X
        have hgs : ∀ Y Z X (l : List Res),(((b.set qk Y).set qi Z).set (bs.length + 1) X ++ l)[bs.length + 1]? = some X := fun Y Z X l => get_setS (by simpa using hl1) X l
        have hss : ∀ Y Z X X' (l : List Res),(((b.set qk Y).set qi Z).set (bs.length + 1) X ++ l).set (bs.length + 1) X' = ((b.set qk Y).set qi Z).set (bs.length + 1) X' ++ l := fun Y Z X X' l => by rw [app_setL (by simpa using hl1),List.set_set]
        have z1 : (b.length = bs.length + 1) = False := eq_false (by omega)
        have z2 : (b.length + 1 = bs.length + 1) = False := eq_false (by omega)
        have z3 : (b.length + 2 = bs.length + 1) = False := eq_false (by omega)
        have z4 : (b.length + 3 = bs.length + 1) = False := eq_false (by omega)
        have z5 : (q = bs.length + 1) = False := eq_false (by omega)
        have z6 : (b.length = q) = False := eq_false (by omega)
        have z7 : (b.length + 1 = q) = False := eq_false (by omega)
        have z8 : (b.length + 2 = q) = False := eq_false (by omega)
        have z9 : (b.length + 3 = q) = False := eq_false (by omega)
        have y1 : (qk = bs.length + 1) = False := eq_false (by omega)
        have y2 : (qi = bs.length + 1) = False := eq_false (by omega)
        have y3 : (qk = q) = False := eq_false hqqk
        have y4 : (qi = q) = False := eq_false hqqi
        have y5 : (qi = qk) = False := eq_false (fun e => hki e.symm)
        have y6 : (b.length = qk) = False := eq_false (by omega)
        have y7 : (b.length + 1 = qk) = False := eq_false (by omega)
        have y8 : (b.length + 2 = qk) = False := eq_false (by omega)
        have y9 : (b.length + 3 = qk) = False := eq_false (by omega)
        have x6 : (b.length = qi) = False := eq_false (by omega)
        have x7 : (b.length + 1 = qi) = False := eq_false (by omega)
        have x8 : (b.length + 2 = qi) = False := eq_false (by omega)
        have x9 : (b.length + 3 = qi) = False := eq_false (by omega)
        have e2' : b.length + 2 - b.length = 2 := by omega
        have e3' : b.length + 3 - b.length = 3 := by omega
        have hKK : (Ks ++ [u]).length = Ks.length + 1 := by simp
        have hLL' : (Ls ++ [v]).length = Ls.length + 1 := by simp
        simp only [lawG,↓Xn,↓Xo,↓Xg,↓Xd,↓Xe,↓Xf,Tryz.VΓ,Tryz.Γs,Xp,Xi,Nat.reduceAdd,Nat.reduceSub,Nat.reduceLT,Nat.reduceLeDiff,reduceIte,reduceCtorEq,Nat.reduceEqDiff,implies_true,forall_const,lawV,lawA,beq_self_eq_true,bne_self_eq_false,Int.reduceBEq,Int.reduceBNe,Int.reduceLT,Int.reduceLE,m5,h9,h10,hb1,hbq,at_old hb1,at_old hbq,at_old hbk,hset,ho,c1,c2,c3,c4,c5,c6,c7,hgs,hss]
        simp only [List.length_set]
        refine ⟨by omega,⟨by unfold maxLen; omega,by omega⟩,by omega,⟨by unfold maxLen; omega,by omega⟩,?_,hk' _ _ ⟨_,_,AS.mv (AS.re h (b' := ((b.set qk .gone).set qi .gone).set (bs.length + 1) (.cells [.int .i64 7,.str [],.o (b.length + 1) (Ks.length + 1),.o (b.length + 3) (Ls.length + 1)] 25 true) ++ [_,.own (Ks.map SV.str ++ [.str u]) 9 1 (Ks.length + 1) true,_,.own (Ls.flatMap tv ++ tv v) 25 4 (Ls.length + 1) true]) ?_ (by simp) (get_setS (by simpa using hl1) _ _) (.inr ⟨b.length + 1,by simp,by rw [hKK],by omega,?_⟩) (.inr ⟨b.length + 3,by simp,by rw [hLL'],by omega,?_⟩) (fun hro => tjs_snoc (h.js.ro hro) (hj.ro hro)) (JBs.snoc hjb h.jb) ?_) (by simp [SL,lk])⟩⟩
        · refine OkD_ren (fun n => if n = bs.length + 1 then 0 else if n = q then 1 else if n = qk then 2 else if n = qi then 3 else n - b.length + 4) ?_
          simp only [List.map_cons,List.map_nil,renRk,renT,Nat.add_sub_cancel_left,Nat.sub_self,z1,z2,z3,z4,z5,z6,z7,z8,z9,y1,y2,y3,y4,y5,y6,y7,y8,y9,x6,x7,x8,x9,e2',e3',eq_self,if_true,if_false]
          exact OkD_fast (by kernel_rfl)
        · intro i r hi hne hor
          have hik : qk ≠ i := by
            rintro rfl
            rw [hbk] at hi
            cases hi
            rcases hor with e | e
            · omega
            · exact e _ _ _ _ rfl
          have hii : qi ≠ i := by
            rintro rfl
            rw [hbi] at hi
            cases hi
            rcases hor with e | e
            · omega
            · exact e _ _ _ _ rfl
          exact at_old (get_setN (get_setN (get_setN hi hik _) hii _) (by omega) _) _
        · rw [app_atL (by simp),hKK]; simp
        · rw [app_atL (by simp),hLL']; simp
        · intro x hx
          rcases List.mem_append.1 hx with hx | hx
          · exact h.kb x hx
          · rw [List.mem_singleton] at hx
            rw [hx]; omega
    clear h hj hbq h9 h10 hLJ
    have hKJ' : (Ks ++ [u]).length = (Js ++ [j]).length := by simp [hKJ]
    have e5'' : (Js ++ [j]).length + (s.length - a) ≤ s.length + 1 := by simp; omega
    have e2'' : a ≤ a5 := by omega
    generalize Ks ++ [u] = Ks' at hKJ'
    generalize Ls ++ [v] = Ls'
    generalize Js ++ [j] = Js' at hKJ' e5''
    rintro m ⟨t,b⟩ ⟨yk',y',h⟩
    simp only at h
    clear hjb hq q v x1 x2 x3 x4 hnx4 r1 r2 r3 r4 hnx
    obtain ⟨k6,u6,pos6,a6,f6,w6,r1,r2,r3,r4,hnx⟩ := sx_r14_next s (by omega) a5 n5 f5 w5 q2
    refine vcS_cutS 2100 (fun σ => AS 7 s bs p d a6 n5 f6 w6 k6 u6 pos6 yk' y' Ks' Ls' Js' σ.t σ.b) ?_ (fun k' hk' => ?_)
    rotate_left
    · have hn' := hnx b p h.pp
      have h2 := h.setp a6 n5 f6 w6
      have hb2 := h2.b2
      have hA := h2.setk k6 pos6 r3
      have m0 := h.l0
      have m6 := h.l6
      unfold tok at hn' hb2 hA
      simp only [lawG,↓Xn,↓Xo,↓Xg,↓Xd,↓Xe,↓Xf,Tryz.VΓ,Tryz.Γs,Xp,Xi,Nat.reduceAdd,Nat.reduceSub,Nat.reduceLT,Nat.reduceLeDiff,reduceIte,reduceCtorEq,Nat.reduceEqDiff,implies_true,forall_const,lawV,lawA,beq_self_eq_true,bne_self_eq_false,Int.reduceBEq,Int.reduceBNe,Int.reduceLT,Int.reduceLE,m0,m6]
      refine callV_sc hn' ?_
      rintro r b' ⟨rfl,rfl⟩
      simp only [lawG,↓Xn,↓Xo,↓Xg,↓Xd,↓Xe,↓Xf,Tryz.VΓ,Tryz.Γs,Xp,Xi,Nat.reduceAdd,Nat.reduceSub,Nat.reduceLT,Nat.reduceLeDiff,reduceIte,reduceCtorEq,Nat.reduceEqDiff,implies_true,forall_const,lawV,lawA,beq_self_eq_true,bne_self_eq_false,Int.reduceBEq,Int.reduceBNe,Int.reduceLT,Int.reduceLE,m0,m6,hb2]
      exact hk' _ _ (hA.mv (by simp [SL,lk]))
    clear h
    rintro m ⟨t,b⟩ h
    simp only at h
    refine vcS_cutS 2050 (fun σ => AS 7 s bs p d a6 n5 f6 w6 k6 u6 pos6 yk' y' Ks' Ls' Js' σ.t σ.b) ?_ (fun k' hk' => ?_)
    rotate_left
    · have i1 := p_r14_is k6 u6 pos6 [125]
      have hb2 := h.b2
      (have hones : (one _ && one _) = true := (h).ones
       have hb0 := (h).b0
       have hb1 := (h).b1
       have hl0 := (List.getElem?_eq_some_iff.1 hb0).1
       have hg0 : ∀ X,(b.set bs.length X)[bs.length]? = some X := fun X => List.getElem?_set_self hl0
       have m0 := (h).l0
       have m4 := (h).l4
       have m5 := (h).l5
       have m6 := (h).l6
       unfold zv at hb0)
      unfold tok at i1 hb2
      simp only [lawG,↓Xn,↓Xo,↓Xg,↓Xd,↓Xe,↓Xf,Tryz.VΓ,Tryz.Γs,Xp,Xi,Nat.reduceAdd,Nat.reduceSub,Nat.reduceLT,Nat.reduceLeDiff,reduceIte,reduceCtorEq,Nat.reduceEqDiff,implies_true,forall_const,lawV,lawA,beq_self_eq_true,bne_self_eq_false,Int.reduceBEq,Int.reduceBNe,Int.reduceLT,Int.reduceLE,m6,hb2]
      refine callV_pc i1 ?_
      cases c1 : (k6 == 2 && u6 == [125])
      · simp only [lawG,↓Xn,↓Xo,↓Xg,↓Xd,↓Xe,↓Xf,Tryz.VΓ,Tryz.Γs,Xp,Xi,Nat.reduceAdd,Nat.reduceSub,Nat.reduceLT,Nat.reduceLeDiff,reduceIte,reduceCtorEq,Nat.reduceEqDiff,implies_true,forall_const,lawV,lawA,beq_self_eq_true,bne_self_eq_false,Int.reduceBEq,Int.reduceBNe,Int.reduceLT,Int.reduceLE]
        exact hk' _ _ (h.mv (by simp [SL,lk]))
      · simp only [lawG,↓Xn,↓Xo,↓Xg,↓Xd,↓Xe,↓Xf,Tryz.VΓ,Tryz.Γs,Xp,Xi,Nat.reduceAdd,Nat.reduceSub,Nat.reduceLT,Nat.reduceLeDiff,reduceIte,reduceCtorEq,Nat.reduceEqDiff,implies_true,forall_const,lawV,lawA,beq_self_eq_true,bne_self_eq_false,Int.reduceBEq,Int.reduceBNe,Int.reduceLT,Int.reduceLE,m0,m4,m5,m6,hb1,hg0,hb0,hones]
        exact h.out (by omega) r2 q3 (fun e => ⟨q4 (r4 e).1,hf0⟩) hs (by omega) (by omega) _
    clear h
    rintro m ⟨t,b⟩ h
    simp only at h
    refine vcS_cutS 2000 (fun σ => ∃ f3 w3 : Int,AS 7 s bs p d a6 n5 f3 w3 k6 u6 pos6 yk' y' Ks' Ls' Js' σ.t σ.b ∧ (f3 = 0 → f6 = 0 ∧ k6 = 2)) ?_ (fun k' hk' => ?_)
    rotate_left
    · have i1 := p_r14_is k6 u6 pos6 [44]
      have hb2 := h.b2
      have hbp := h.pp
      have m0 := h.l0
      have m6 := h.l6
      unfold tok at i1 hb2
      have hst := sc_r14_stop h.pp pos6 140
      have hA := h.setp a6 n5 (stF f6 140) (stW f6 w6 pos6)
      unfold pbox pcl at hbp
      cases c0 : f6 == 0
      · simp only [lawG,↓Xn,↓Xo,↓Xg,↓Xd,↓Xe,↓Xf,Tryz.VΓ,Tryz.Γs,Xp,Xi,Nat.reduceAdd,Nat.reduceSub,Nat.reduceLT,Nat.reduceLeDiff,reduceIte,reduceCtorEq,Nat.reduceEqDiff,implies_true,forall_const,lawV,lawA,beq_self_eq_true,bne_self_eq_false,Int.reduceBEq,Int.reduceBNe,Int.reduceLT,Int.reduceLE,m0,m6,hb2,hbp,c0]
        exact hk' _ _ ⟨f6,w6,h.mv (by simp [SL,lk]),fun e => by rw [e] at c0; simp at c0⟩
      · simp only [lawG,↓Xn,↓Xo,↓Xg,↓Xd,↓Xe,↓Xf,Tryz.VΓ,Tryz.Γs,Xp,Xi,Nat.reduceAdd,Nat.reduceSub,Nat.reduceLT,Nat.reduceLeDiff,reduceIte,reduceCtorEq,Nat.reduceEqDiff,implies_true,forall_const,lawV,lawA,beq_self_eq_true,bne_self_eq_false,Int.reduceBEq,Int.reduceBNe,Int.reduceLT,Int.reduceLE,m0,m6,hb2,hbp,c0]
        refine callV_pc i1 ?_
        cases c1 : (k6 == 2 && u6 == [44])
        · simp only [lawG,↓Xn,↓Xo,↓Xg,↓Xd,↓Xe,↓Xf,Tryz.VΓ,Tryz.Γs,Xp,Xi,Nat.reduceAdd,Nat.reduceSub,Nat.reduceLT,Nat.reduceLeDiff,reduceIte,reduceCtorEq,Nat.reduceEqDiff,implies_true,forall_const,lawV,lawA,beq_self_eq_true,bne_self_eq_false,Int.reduceBEq,Int.reduceBNe,Int.reduceLT,Int.reduceLE,m0,m6,hb2,Bool.not_false]
          refine callV_sc hst ?_
          rintro r b' ⟨rfl,rfl⟩
          simp only [lawG,↓Xn,↓Xo,↓Xg,↓Xd,↓Xe,↓Xf,Tryz.VΓ,Tryz.Γs,Xp,Xi,Nat.reduceAdd,Nat.reduceSub,Nat.reduceLT,Nat.reduceLeDiff,reduceIte,reduceCtorEq,Nat.reduceEqDiff,implies_true,forall_const,lawV,lawA,beq_self_eq_true,bne_self_eq_false,Int.reduceBEq,Int.reduceBNe,Int.reduceLT,Int.reduceLE]
          exact hk' _ _ ⟨_,_,hA.mv (by simp [SL,lk]),fun e => absurd e (stF_ne (by decide))⟩
        · simp only [lawG,↓Xn,↓Xo,↓Xg,↓Xd,↓Xe,↓Xf,Tryz.VΓ,Tryz.Γs,Xp,Xi,Nat.reduceAdd,Nat.reduceSub,Nat.reduceLT,Nat.reduceLeDiff,reduceIte,reduceCtorEq,Nat.reduceEqDiff,implies_true,forall_const,lawV,lawA,beq_self_eq_true,bne_self_eq_false,Int.reduceBEq,Int.reduceBNe,Int.reduceLT,Int.reduceLE,m0,m6,hb2,Bool.not_true]
          simp only [Bool.and_eq_true] at c1
          exact hk' _ _ ⟨f6,w6,h.mv (by simp [SL,lk]),fun e => ⟨e,by simpa using c1.1⟩⟩
    clear h
    rintro m ⟨t,b⟩ ⟨f3,w3,h,r5⟩
    simp only at h
    obtain ⟨k4,u4,pos4,a4,f4,w4,z1,z2,z3,z4,hnx4⟩ := sx_r14_next s (by omega) a6 n5 f3 w3 r2
    have hn' := hnx4 b p h.pp
    have h2 := h.setp a4 n5 f4 w4
    have hb2 := h2.b2
    have hA := h2.setk k4 pos4 z3
    have m0 := h.l0
    have m6 := h.l6
    unfold tok at hn' hb2 hA
    simp only [lawG,↓Xn,↓Xo,↓Xg,↓Xd,↓Xe,↓Xf,Tryz.VΓ,Tryz.Γs,Xp,Xi,Nat.reduceAdd,Nat.reduceSub,Nat.reduceLT,Nat.reduceLeDiff,reduceIte,reduceCtorEq,Nat.reduceEqDiff,implies_true,forall_const,lawV,lawA,beq_self_eq_true,bne_self_eq_false,Int.reduceBEq,Int.reduceBNe,Int.reduceLT,Int.reduceLE,m0,m6]
    refine callV_sc hn' ?_
    rintro r b' ⟨rfl,rfl⟩
    simp only [lawG,↓Xn,↓Xo,↓Xg,↓Xd,↓Xe,↓Xf,Tryz.VΓ,Tryz.Γs,Xp,Xi,Nat.reduceAdd,Nat.reduceSub,Nat.reduceLT,Nat.reduceLeDiff,reduceIte,reduceCtorEq,Nat.reduceEqDiff,implies_true,forall_const,lawV,lawA,beq_self_eq_true,bne_self_eq_false,Int.reduceBEq,Int.reduceBNe,Int.reduceLT,Int.reduceLE,m0,m6,hb2]
    have hprog : f4 = 0 → a < a4 := fun e => by
      have h1 := z4 e
      have h2 := r5 h1.1
      have h3 := r4 h2.1
      rcases h3.2 with h4 | h4
      · rw [h2.2] at h4; cases h4
      · omega
    have key : ∀ t',SL t t' → OI s bs p d a0 f0 ⟨t',(b.set p (pbox s a4 n5 f4 w4)).set (bs.length + 2) (.cells [.int .i64 k4,.str u4,.int .i64 pos4] 56 true)⟩ ∧ muP p ⟨t',(b.set p (pbox s a4 n5 f4 w4)).set (bs.length + 2) (.cells [.int .i64 k4,.str u4,.int .i64 pos4] 56 true)⟩ < s.length - a + 1 := by
      intro t' e
      rw [hA.mu]
      by_cases h4 : f4 = 0
      · have := hprog h4
        rw [if_pos h4]
        exact ⟨⟨a4,n5,f4,w4,k4,u4,pos4,yk',y',Ks',Ls',Js',hA.mv e,hKJ',by omega,z2,q3,fun e => ⟨q4 (r4 (r5 (z4 e).1).1).1,hf0⟩,by rw [if_pos h4]; omega⟩,by omega⟩
      · rw [if_neg h4]
        exact ⟨⟨a4,n5,f4,w4,k4,u4,pos4,yk',y',Ks',Ls',Js',hA.mv e,hKJ',by omega,z2,q3,fun e => absurd e h4,by rw [if_neg h4]; omega⟩,by omega⟩
    exact key _ (by simp [SL,lk])
  clear h
  rintro m ⟨t,b⟩ ⟨a,n,f,w,k,u,pos,yk,y,Ks,Ls,Js,h,hKJ,e1,e2,e3,e4,e5⟩
  simp only at h
  (have hones : (one _ && one _) = true := (h).ones
   have hb0 := (h).b0
   have hb1 := (h).b1
   have hl0 := (List.getElem?_eq_some_iff.1 hb0).1
   have hg0 : ∀ X,(b.set bs.length X)[bs.length]? = some X := fun X => List.getElem?_set_self hl0
   have m0 := (h).l0
   have m4 := (h).l4
   have m5 := (h).l5
   have m6 := (h).l6
   unfold zv at hb0)
  simp only [lawG,↓Xn,↓Xo,↓Xg,↓Xd,↓Xe,↓Xf,Tryz.VΓ,Tryz.Γs,Xp,Xi,Nat.reduceAdd,Nat.reduceSub,Nat.reduceLT,Nat.reduceLeDiff,reduceIte,reduceCtorEq,Nat.reduceEqDiff,implies_true,forall_const,lawV,lawA,beq_self_eq_true,bne_self_eq_false,Int.reduceBEq,Int.reduceBNe,Int.reduceLT,Int.reduceLE,m0,m4,m5,m6,hb1,hg0,hb0,hones]
  exact h.out e1 e2 e3 e4 hs (by omega) (by omega) _
end Go.Proofs.YtejfjmcjicpodaaGreatDoor
/- ref14.Parse: some tree,short. -/
set_option linter.all false
set_option maxRecDepth 20000
namespace Go.Proofs.YtejfjmcjicpodaaGreatDoor
open Go Vc Go.RowKit Wf
set_option linter.unusedSimpArgs false
theorem value_all {s : Bytes} (hs : s.length ≤ 1000000) : ∀ (e d : Nat),d + e = 64 → VlOK s d
  | 0,d,h => sc_r14_value hs (by omega) (fun h => by omega) (fun h => by omega)
  | e + 1,d,h => by
    have ih := value_all hs e (d + 1) (by omega)
    exact sc_r14_value hs (by omega) (fun _ => sc_r14_array hs ih) (fun _ => sc_r14_object hs ih)
structure PS (s : Bytes) (bs : List Res) (a n : Nat) (f w : Int) (t : List (Nat × SV)) (b : List Res) : Prop where
  l0 : lk 0 t = some (.str s)
  l2 : lk 2 t = some (.p bs.length 0)
  l5 : lk 5 t = some (.p (bs.length + 1) 0)
  kp : Kp bs b
  b0 : b[bs.length]? = some (.cells zv 25 true)
  b1 : b[bs.length + 1]? = some (pbox s a n f w)
def SP (t t' : List (Nat × SV)) : Prop := lk 0 t' = lk 0 t ∧ lk 2 t' = lk 2 t ∧ lk 5 t' = lk 5 t
section
variable {s : Bytes} {bs : List Res} {a n : Nat} {f w : Int} {t t' : List (Nat × SV)} {b : List Res}
theorem PS.mv (h : PS s bs a n f w t b) (e : SP t t') : PS s bs a n f w t' b := { h with l0 := e.1.trans h.l0,l2 := e.2.1.trans h.l2,l5 := e.2.2.trans h.l5 }
theorem kp_set {bs b : List Res} (h : Kp bs b) {i : Nat} (hi : bs.length ≤ i) (X : Res) : Kp bs (b.set i X) := ⟨by simpa using h.1,fun k hk => by rw [List.getElem?_set_ne (by omega)]; exact h.2 k hk⟩
theorem PS.setp (h : PS s bs a n f w t b) (a' n' : Nat) (f' w' : Int) : PS s bs a' n' f' w' t (b.set (bs.length + 1) (pbox s a' n' f' w')) :=
  { h with kp := kp_set h.kp (by omega) _,b0 := get_setN h.b0 (by omega) _,b1 := List.getElem?_set_self (List.getElem?_eq_some_iff.1 h.b1).1 }
theorem PS.app (h : PS s bs a n f w t b) (X : List Res) : PS s bs a n f w t (b ++ X) := { h with kp := h.kp.app _,b0 := at_old h.b0 _,b1 := at_old h.b1 _ }
theorem PS.call (h : PS s bs a n f w t b) {a' n' : Nat} {f' w' : Int} {b' : List Res} (g : KpP (bs.length + 1) (pcl s a' n' f' w') 53 true b b') : PS s bs a' n' f' w' t b' :=
  { h with kp := ⟨Nat.le_trans h.kp.1 g.1,fun k hk => (g.2.1 k (by have := h.kp.1; omega) (by omega)).trans (h.kp.2 k hk)⟩,b0 := g.at h.b0 (by omega),b1 := g.2.2 }
end
def ParR (s : Bytes) (bs : List Res) (r : SV) (b : List Res) : Prop := ∃ (j : Jv) (v : Tv) (w e : Int),r = .tup [.agg (tv v),.int .i64 w,.int .i64 e] ∧ Kp bs b ∧ TJ b j v ∧ JB (s.length + 410) j ∧ (e ≠ 0 → j = Jv.zero)
set_option maxHeartbeats 16000000 in
theorem sc_r14_Parse {bs : List Res} (s : Bytes) (hs : s.length ≤ 1000000) : SC Tryz.V 9 [.str s] bs (ParR s bs) := by
  refine sc_of 3000 Tryz.func9 rfl Tryz.ntmps9 Tryz.results9 Tryz.call9 (by simp) (fun β β' hb => concL_within bs.length _ (by simp [within,within.withinL]) β β' hb) ?_
  refine vcS_cutS 2900 (fun σ => lk 0 σ.t = some (.str s) ∧ lk 2 σ.t = some (.p bs.length 0) ∧ σ.b = bs ++ [.cells zv 25 true]) ?_ (fun k' hk' => ?_)
  rotate_left
  · simp only [lawG,↓Xn,↓Xo,↓Xg,↓Xd,↓Xe,↓Xf,Tryz.VΓ,Tryz.Γs,Xp,Xi,Nat.reduceAdd,Nat.reduceSub,Nat.reduceLT,Nat.reduceLeDiff,reduceIte,reduceCtorEq,Nat.reduceEqDiff,implies_true,forall_const,lawV,lawA,beq_self_eq_true,bne_self_eq_false,Int.reduceBEq,Int.reduceBNe,Int.reduceLT,Int.reduceLE]
    exact hk' _ _ ⟨rfl,rfl,rfl⟩
  rintro m ⟨t,b⟩ ⟨h0,h2,rfl⟩
  simp only at h0 h2
  refine vcS_cutS 2800 (fun σ => lk 0 σ.t = some (.str s) ∧ lk 2 σ.t = some (.p bs.length 0) ∧ σ.b = bs ++ [.cells zv 25 true]) ?_ (fun k' hk' => ?_)
  rotate_left
  · have hc : decide ((1048576 : Int) < s.length) = false := decide_eq_false (by omega)
    simp only [lawG,↓Xn,↓Xo,↓Xg,↓Xd,↓Xe,↓Xf,Tryz.VΓ,Tryz.Γs,Xp,Xi,Nat.reduceAdd,Nat.reduceSub,Nat.reduceLT,Nat.reduceLeDiff,reduceIte,reduceCtorEq,Nat.reduceEqDiff,implies_true,forall_const,lawV,lawA,beq_self_eq_true,bne_self_eq_false,Int.reduceBEq,Int.reduceBNe,Int.reduceLT,Int.reduceLE,h0,h2,hc]
    exact hk' _ _ ⟨by simp [lk,h0],by simp [lk,h2],rfl⟩
  rintro m ⟨t,b⟩ ⟨h0,h2,rfl⟩
  simp only at h0 h2
  refine vcS_cutS 2700 (fun σ => PS s bs 0 0 0 0 σ.t σ.b) ?_ (fun k' hk' => ?_)
  rotate_left
  · simp only [lawG,↓Xn,↓Xo,↓Xg,↓Xd,↓Xe,↓Xf,Tryz.VΓ,Tryz.Γs,Xp,Xi,Nat.reduceAdd,Nat.reduceSub,Nat.reduceLT,Nat.reduceLeDiff,reduceIte,reduceCtorEq,Nat.reduceEqDiff,implies_true,forall_const,lawV,lawA,beq_self_eq_true,bne_self_eq_false,Int.reduceBEq,Int.reduceBNe,Int.reduceLT,Int.reduceLE,h0,h2]
    exact hk' _ _ ⟨by simp [lk,h0],by simp [lk,h2],by simp [lk],(Kp.refl bs).app _,app_at0 _ _,app_at _ _ 1⟩
  clear h0 h2
  rintro m ⟨t,b⟩ h
  simp only at h
  obtain ⟨k,u,pos,a,f,w,g1,g2,g3,g4,hnx⟩ := sx_r14_next s (by omega) 0 0 0 0 (by omega)
  refine vcS_cutS 2600 (fun σ => ∃ (a n : Nat) (f w : Int) (q : Nat) (j : Jv) (v : Tv),PS s bs a n f w σ.t σ.b ∧ a ≤ s.length ∧ lk 6 σ.t = some (.p q 0) ∧ bs.length + 1 < q ∧ σ.b[q]? = some (.cells (tv v) 25 true) ∧ TJ σ.b j v ∧ JB (s.length + 410) j) ?_ (fun k' hk' => ?_)
  rotate_left
  · have hn' := hnx b _ h.b1
    have h2 := h.setp a 0 f w
    have hcall := value_all hs 64 0 rfl _ _ a 0 f w k u pos h2.b1 g2 (by omega) (fun _ => by omega) g3
    have m5 := h.l5
    simp only [lawG,↓Xn,↓Xo,↓Xg,↓Xd,↓Xe,↓Xf,Tryz.VΓ,Tryz.Γs,Xp,Xi,Nat.reduceAdd,Nat.reduceSub,Nat.reduceLT,Nat.reduceLeDiff,reduceIte,reduceCtorEq,Nat.reduceEqDiff,implies_true,forall_const,lawV,lawA,beq_self_eq_true,bne_self_eq_false,Int.reduceBEq,Int.reduceBNe,Int.reduceLT,Int.reduceLE,m5]
    refine callV_sc hn' ?_
    rintro r b' ⟨rfl,rfl⟩
    simp only [lawG,↓Xn,↓Xo,↓Xg,↓Xd,↓Xe,↓Xf,Tryz.VΓ,Tryz.Γs,Xp,Xi,Nat.reduceAdd,Nat.reduceSub,Nat.reduceLT,Nat.reduceLeDiff,reduceIte,reduceCtorEq,Nat.reduceEqDiff,implies_true,forall_const,lawV,lawA,beq_self_eq_true,bne_self_eq_false,Int.reduceBEq,Int.reduceBNe,Int.reduceLT,Int.reduceLE,m5]
    refine callV_sc hcall ?_
    rintro r b' ⟨a5,n5,f5,w5,q1,q2,q3,q4,gk,j,v,rfl,hj,hjb⟩
    have h3 := h2.call gk
    have hA := h3.app [.cells (tv v) 25 true]
    obtain ⟨-,-,v3,v4⟩ := hj.tin
    have ho : (one v.xk && one v.xi) = true := by rw [v3,v4]; rfl
    unfold tv at hA ⊢
    simp only [lawG,↓Xn,↓Xo,↓Xg,↓Xd,↓Xe,↓Xf,Tryz.VΓ,Tryz.Γs,Xp,Xi,Nat.reduceAdd,Nat.reduceSub,Nat.reduceLT,Nat.reduceLeDiff,reduceIte,reduceCtorEq,Nat.reduceEqDiff,implies_true,forall_const,lawV,lawA,beq_self_eq_true,bne_self_eq_false,Int.reduceBEq,Int.reduceBNe,Int.reduceLT,Int.reduceLE,ho]
    exact hk' _ _ ⟨a5,n5,f5,w5,b'.length,j,v,hA.mv (by simp [SP,lk]),q2,rfl,(List.getElem?_eq_some_iff.1 h3.b1).1,app_at0 _ _,hj.ro ((Ro.refl _).app _),hjb⟩
  clear h hnx g1 g2 g3 g4 k u pos a f w
  rintro m ⟨t,b⟩ ⟨a,n,f,w,q,j,v,h,ha,h6,hq,hbq,hj,hjb⟩
  simp only at h h6 hbq hj
  obtain ⟨k,u,pos,a2,f2,w2,g1,g2,g3,g4,hnx⟩ := sx_r14_next s (by omega) a n f w ha
  refine vcS_cutS 2500 (fun σ => ∃ (f w : Int),PS s bs a2 n f w σ.t σ.b ∧ lk 6 σ.t = some (.p q 0) ∧ σ.b[q]? = some (.cells (tv v) 25 true) ∧ TJ σ.b j v) ?_ (fun k' hk' => ?_)
  rotate_left
  · refine vcS_cutS 2550 (fun σ => ∃ qt,bs.length + 1 < qt ∧ PS s bs a2 n f2 w2 σ.t σ.b ∧ lk 6 σ.t = some (.p q 0) ∧ lk 7 σ.t = some (.p qt 0) ∧ σ.b[qt]? = some (.cells (tok k u pos) 56 true) ∧ σ.b[q]? = some (.cells (tv v) 25 true) ∧ TJ σ.b j v) ?_ (fun k' hk' => ?_)
    rotate_left
    · have hn' := hnx b _ h.b1
      have h2 := (h.setp a2 n f2 w2).app [.cells (tok k u pos) 56 true]
      have m5 := h.l5
      have hbq2 := at_old (get_setN hbq (show bs.length + 1 ≠ q by omega) (pbox s a2 n f2 w2)) [.cells (tok k u pos) 56 true]
      have hj2 := hj.ro ((AS.setp.ro_p h.b1 (pbox s a2 n f2 w2)).app [.cells (tok k u pos) 56 true])
      have hl := (List.getElem?_eq_some_iff.1 h.b1).1
      simp only [lawG,↓Xn,↓Xo,↓Xg,↓Xd,↓Xe,↓Xf,Tryz.VΓ,Tryz.Γs,Xp,Xi,Nat.reduceAdd,Nat.reduceSub,Nat.reduceLT,Nat.reduceLeDiff,reduceIte,reduceCtorEq,Nat.reduceEqDiff,implies_true,forall_const,lawV,lawA,beq_self_eq_true,bne_self_eq_false,Int.reduceBEq,Int.reduceBNe,Int.reduceLT,Int.reduceLE,m5]
      refine callV_sc hn' ?_
      rintro r b' ⟨rfl,rfl⟩
      unfold tok
      simp only [lawG,↓Xn,↓Xo,↓Xg,↓Xd,↓Xe,↓Xf,Tryz.VΓ,Tryz.Γs,Xp,Xi,Nat.reduceAdd,Nat.reduceSub,Nat.reduceLT,Nat.reduceLeDiff,reduceIte,reduceCtorEq,Nat.reduceEqDiff,implies_true,forall_const,lawV,lawA,beq_self_eq_true,bne_self_eq_false,Int.reduceBEq,Int.reduceBNe,Int.reduceLT,Int.reduceLE,m5]
      exact hk' _ _ ⟨_,by rw [List.length_set]; exact hl,h2.mv (by simp [SP,lk]),by simp [lk,h6],rfl,app_at0 _ _,hbq2,hj2⟩
    clear h h6 hbq hj
    rintro m ⟨t,b⟩ ⟨qt,hqt,h,h6,h7,hbk,hbq,hj⟩
    simp only at h h6 h7 hbk hbq hj
    have hbp := h.b1
    have m5 := h.l5
    have hst := sc_r14_stop h.b1 pos 140
    have h4 := h.setp a2 n (stF f2 140) (stW f2 w2 pos)
    unfold tok at hbk
    unfold pbox pcl at hbp
    cases c0 : f2 == 0
    · simp only [lawG,↓Xn,↓Xo,↓Xg,↓Xd,↓Xe,↓Xf,Tryz.VΓ,Tryz.Γs,Xp,Xi,Nat.reduceAdd,Nat.reduceSub,Nat.reduceLT,Nat.reduceLeDiff,reduceIte,reduceCtorEq,Nat.reduceEqDiff,implies_true,forall_const,lawV,lawA,beq_self_eq_true,bne_self_eq_false,Int.reduceBEq,Int.reduceBNe,Int.reduceLT,Int.reduceLE,m5,h7,hbp,c0]
      exact hk' _ _ ⟨f2,w2,h.mv (by simp [SP,lk]),by simp [lk,h6],hbq,hj⟩
    · cases c1 : k != 1
      · simp only [lawG,↓Xn,↓Xo,↓Xg,↓Xd,↓Xe,↓Xf,Tryz.VΓ,Tryz.Γs,Xp,Xi,Nat.reduceAdd,Nat.reduceSub,Nat.reduceLT,Nat.reduceLeDiff,reduceIte,reduceCtorEq,Nat.reduceEqDiff,implies_true,forall_const,lawV,lawA,beq_self_eq_true,bne_self_eq_false,Int.reduceBEq,Int.reduceBNe,Int.reduceLT,Int.reduceLE,m5,h7,hbp,hbk,c0,c1]
        exact hk' _ _ ⟨f2,w2,h.mv (by simp [SP,lk]),by simp [lk,h6],hbq,hj⟩
      · simp only [lawG,↓Xn,↓Xo,↓Xg,↓Xd,↓Xe,↓Xf,Tryz.VΓ,Tryz.Γs,Xp,Xi,Nat.reduceAdd,Nat.reduceSub,Nat.reduceLT,Nat.reduceLeDiff,reduceIte,reduceCtorEq,Nat.reduceEqDiff,implies_true,forall_const,lawV,lawA,beq_self_eq_true,bne_self_eq_false,Int.reduceBEq,Int.reduceBNe,Int.reduceLT,Int.reduceLE,m5,h7,hbp,hbk,c0,c1]
        refine callV_sc hst ?_
        rintro r b' ⟨rfl,rfl⟩
        simp only [lawG,↓Xn,↓Xo,↓Xg,↓Xd,↓Xe,↓Xf,Tryz.VΓ,Tryz.Γs,Xp,Xi,Nat.reduceAdd,Nat.reduceSub,Nat.reduceLT,Nat.reduceLeDiff,reduceIte,reduceCtorEq,Nat.reduceEqDiff,implies_true,forall_const,lawV,lawA,beq_self_eq_true,bne_self_eq_false,Int.reduceBEq,Int.reduceBNe,Int.reduceLT,Int.reduceLE]
        exact hk' _ _ ⟨_,_,h4.mv (by simp [SP,lk]),by simp [lk,h6],get_setN hbq (by omega) _,hj.ro (AS.setp.ro_p h.b1 _)⟩
  clear h h6 hbq hj
  rintro m ⟨t,b⟩ ⟨f,w,h,h6,hbq,hj⟩
  simp only at h h6 hbq hj
  have hl0 := (List.getElem?_eq_some_iff.1 h.b0).1
  have hg0 : ∀ X,(b.set bs.length X)[bs.length]? = some X := fun X => List.getElem?_set_self hl0
  have hb0 := h.b0
  have hbp := h.b1
  have m0 := h.l0
  have m2 := h.l2
  have m5 := h.l5
  obtain ⟨-,-,v3,v4⟩ := hj.tin
  have ho : (one v.xk && one v.xi) = true := by rw [v3,v4]; rfl
  unfold zv at hb0
  unfold pbox pcl at hbp
  unfold tv at hbq
  cases c0 : f != 0
  · simp only [lawG,↓Xn,↓Xo,↓Xg,↓Xd,↓Xe,↓Xf,Tryz.VΓ,Tryz.Γs,Xp,Xi,Nat.reduceAdd,Nat.reduceSub,Nat.reduceLT,Nat.reduceLeDiff,reduceIte,reduceCtorEq,Nat.reduceEqDiff,implies_true,forall_const,lawV,lawA,beq_self_eq_true,bne_self_eq_false,Int.reduceBEq,Int.reduceBNe,Int.reduceLT,Int.reduceLE,m0,m2,m5,h6,hbp,hb0,hbq,hg0,c0,ho]
    exact ⟨j,v,_,_,rfl,kp_set h.kp (Nat.le_refl _) _,hj.ro (AS.setp.ro_p h.b0 _),hjb,fun h => absurd rfl h⟩
  · simp only [lawG,↓Xn,↓Xo,↓Xg,↓Xd,↓Xe,↓Xf,Tryz.VΓ,Tryz.Γs,Xp,Xi,Nat.reduceAdd,Nat.reduceSub,Nat.reduceLT,Nat.reduceLeDiff,reduceIte,reduceCtorEq,Nat.reduceEqDiff,implies_true,forall_const,lawV,lawA,beq_self_eq_true,bne_self_eq_false,Int.reduceBEq,Int.reduceBNe,Int.reduceLT,Int.reduceLE,m0,m2,m5,hbp,hb0,hg0,c0]
    refine ⟨?_,Jv.zero,⟨0,[],.nils,.nils⟩,_,_,rfl,kp_set h.kp (Nat.le_refl _) _,TJ.zero _,JB.leaf 0 (by simp),fun _ => rfl⟩
    refine OkD_ren (fun n => if n = bs.length then 0 else 1) ?_
    have z1 : (bs.length + 1 = bs.length) = False := eq_false (by omega)
    simp only [List.map_cons,List.map_nil,renRk,renT,z1,eq_self,if_true,if_false]
    exact OkD_fast (by kernel_rfl)
end Go.Proofs.YtejfjmcjicpodaaGreatDoor
/- An executable reckoning of closed calls,and its soundness. -/
set_option linter.all false
namespace Vc
open Go Go.RowKit Wf
section
variable {β : Type}
def forceI (n : Int) (f : Int → β) : β := match n with
  | .ofNat m => forceN m fun m => f (.ofNat m)
  | .negSucc m => forceN m fun m => f (.negSucc m)
theorem forceI_eq (n : Int) (f : Int → β) : forceI n f = f n := by cases n <;> simp [forceI,forceN_eq]
noncomputable def forceL (l : List UInt8) : (List UInt8 → β) → β := List.rec (motive := fun _ => (List UInt8 → β) → β) (fun f => f []) (fun x _ ih f => forceN x.toNat fun m => ih fun r => f (UInt8.ofNat m :: r)) l
theorem forceL_eq : ∀ (l : List UInt8) (f : List UInt8 → β),forceL l f = f l
  | [],_ => rfl
  | x :: r,f => by
    show forceN x.toNat (fun m => forceL r fun r => f (UInt8.ofNat m :: r)) = _
    rw [forceN_eq,forceL_eq r,UInt8.ofNat_toNat]
noncomputable def forceP {α : Type} (l : List α) : (List α → β) → β := List.rec (motive := fun _ => (List α → β) → β) (fun f => f []) (fun x _ ih f => ih fun r => f (x :: r)) l
theorem forceP_eq {α : Type} : ∀ (l : List α) (f : List α → β),forceP l f = f l
  | [],_ => rfl
  | x :: r,f => by
    show forceP r (fun r => f (x :: r)) = _
    rw [forceP_eq r]
def forceW (x : SV) (f : SV → β) : β := match x with
  | .bool b => match b with
    | true => f (.bool true)
    | false => f (.bool false)
  | .int k n => f (.int k n)
  | .str l => f (.str l)
  | .p i o => f (.p i o)
  | .o i n => f (.o i n)
  | .f i n => f (.f i n)
  | .nils => f .nils
  | .agg l => f (.agg l)
  | .tup l => f (.tup l)
  | .fn g l => f (.fn g l)
  | .mv g l => f (.mv g l)
  | .ifc t x => f (.ifc t x)
  | .v x => f (.v x)
theorem forceW_eq (x : SV) (f : SV → β) : forceW x f = f x := by
  cases x <;> try rfl
  rename_i b; cases b <;> rfl
noncomputable def forceSL (l : List SV) : (List SV → β) → β := List.rec (motive := fun _ => (List SV → β) → β) (fun f => f []) (fun x _ ih f => forceW x fun x => ih fun r => f (x :: r)) l
theorem forceSL_eq : ∀ (l : List SV) (f : List SV → β),forceSL l f = f l
  | [],_ => rfl
  | x :: r,f => by
    show forceW x (fun x => forceSL r fun r => f (x :: r)) = _
    rw [forceW_eq,forceSL_eq r]
noncomputable def forceS (x : SV) (f : SV → β) : β := match x with
  | .int k n => forceI n fun n => f (.int k n)
  | .str l => forceL l fun l => f (.str l)
  | .p i o => forceN i fun i => forceN o fun o => f (.p i o)
  | .o i n => forceN i fun i => forceN n fun n => f (.o i n)
  | .f i n => forceN i fun i => forceN n fun n => f (.f i n)
  | .agg l => forceSL l fun l => f (.agg l)
  | .tup l => forceSL l fun l => f (.tup l)
  | .fn g l => forceSL l fun l => f (.fn g l)
  | .mv g l => forceSL l fun l => f (.mv g l)
  | x => forceW x f
theorem forceS_eq (x : SV) (f : SV → β) : forceS x f = f x := by
  cases x <;> simp [forceS,forceI_eq,forceL_eq,forceN_eq,forceSL_eq,forceW_eq]
noncomputable def forceQ (x : SV) (f : SV → β) : β := match x with
  | .int k n => forceI n fun n => f (.int k n)
  | .str l => forceP l fun l => f (.str l)
  | .agg l => forceSL l fun l => f (.agg l)
  | .tup l => forceSL l fun l => f (.tup l)
  | x => forceW x f
theorem forceQ_eq (x : SV) (f : SV → β) : forceQ x f = f x := by
  cases x <;> simp [forceQ,forceI_eq,forceP_eq,forceSL_eq,forceW_eq]
def forceR (x : Res) (f : Res → β) : β := match x with
  | .cells c T m => f (.cells c T m)
  | .own c e s n m => f (.own c e s n m)
  | .ext R => f (.ext R)
  | .gone => f .gone
theorem forceR_eq (x : Res) (f : Res → β) : forceR x f = f x := by cases x <;> rfl
noncomputable def forceB (l : List Res) : (List Res → β) → β := List.rec (motive := fun _ => (List Res → β) → β) (fun f => f []) (fun x _ ih f => forceR x fun x => ih fun r => f (x :: r)) l
theorem forceB_eq : ∀ (l : List Res) (f : List Res → β),forceB l f = f l
  | [],_ => rfl
  | x :: r,f => by
    show forceR x (fun x => forceB r fun r => f (x :: r)) = _
    rw [forceR_eq,forceB_eq r]
noncomputable def forceT (t : List (Nat × SV)) (f : List (Nat × SV) → β) : β := match t with
  | [] => f []
  | (d,x) :: r => forceS x fun x => f ((d,x) :: r)
theorem forceT_eq (t : List (Nat × SV)) (f : List (Nat × SV) → β) : forceT t f = f t := by
  cases t with
  | nil => rfl
  | cons p r => rw [forceT,forceS_eq]
end
/-! the conditions -/
def okIdx (op : BinOp) (k : IntKind) (a b : Int) : Bool := match op with
  | .shl => decide (0 ≤ b)
  | .shr => decide (0 ≤ b)
  | .add => inR k (a + b)
  | .sub => inR k (a - b)
  | .mul => inR k (a * b)
  | .quo => decide (b ≠ 0)
  | .rem => decide (b ≠ 0)
  | _ => true
where inR (k : IntKind) (n : Int) : Bool := match k with
  | .i64 => decide (-9223372036854775808 ≤ n) && decide (n ≤ 9223372036854775807)
  | _ => true
theorem inR_ok {k : IntKind} {n : Int} {c : Prop} {x : SV} (h : ar k n = (c,x)) (ho : okIdx.inR k n = true) : c := by
  unfold ar at h
  unfold okIdx.inR at ho
  split at h
  · simp only [Bool.and_eq_true,decide_eq_true_eq] at ho
    have := (Prod.mk.inj h).1
    rw [← this]; exact ho
  · have := (Prod.mk.inj h).1
    rw [← this]; trivial
theorem binI_ok {op : BinOp} {k k' : IntKind} {a b : Int} {c : Prop} {x : SV} (h : binI op k k' a b = some (c,x)) (ho : okIdx op k a b = true) : c := by
  unfold binI at h
  split at h <;> first
    | (obtain ⟨rfl,-⟩ := Prod.mk.inj (Option.some.inj h); simpa [okIdx] using ho)
    | (have h2 := (ifK_ok h).2; first
        | exact inR_ok h2 (by simpa [okIdx] using ho)
        | (obtain ⟨rfl,-⟩ := Prod.mk.inj h2; first | trivial | simpa [okIdx] using ho))
def okBn (len : Nat) (lo hi : Option SV) : Bool := match hi,lo with
  | none,none => true
  | none,some (.int _ l) => decide (0 ≤ l) && decide (l ≤ len)
  | some (.int _ h),none => decide (0 ≤ h) && decide (h ≤ len)
  | some (.int _ h),some (.int _ l) => decide (0 ≤ l) && decide (l ≤ h) && decide (h ≤ len)
  | _,_ => false
theorem okBn_ok {len : Nat} {lo hi : Option SV} {c : Prop} {r : Nat × Nat} (h : bnds len lo hi = some (c,r)) (ho : okBn len lo hi = true) : c := by
  unfold bnds at h
  unfold okBn at ho
  split at h
  · obtain ⟨rfl,-⟩ := Prod.mk.inj (Option.some.inj h); trivial
  · obtain ⟨rfl,-⟩ := Prod.mk.inj (Option.some.inj h); simpa using ho
  · obtain ⟨rfl,-⟩ := Prod.mk.inj (Option.some.inj h); simpa using ho
  · obtain ⟨rfl,-⟩ := Prod.mk.inj (Option.some.inj h); simpa [and_assoc] using ho
  · cases h
def okBin (t : List (Nat × SV)) (op : BinOp) (x y : Operand) : Bool := match ev t x with
  | some (.int k a) => match ev t y with
    | some (.int _ b) => okIdx op k a b
    | _ => true
  | some (.str a) => match ev t y with
    | some (.str b) => decide (a.length + b.length ≤ 9223372036854775807)
    | _ => true
  | _ => true
def okSl (V : Cx) (x : Operand) (lo hi : Option Operand) (σ : St) : Bool := match ev σ.t x with
  | some (.str l) => match optE σ.t lo with
    | some lo => match optE σ.t hi with
      | some hi => okBn l.length lo hi
      | none => true
    | none => true
  | some (.o i n) => match σ.b[i]? with
    | some (.own _ _ s n' _) => match optE σ.t lo with
      | some lo => match optE σ.t hi with
        | some hi => okBn n lo hi && (n' == n) && decide (0 < s)
        | none => true
      | none => true
    | _ => true
  | _ => true
def okO (V : Cx) : Op → St → Bool
  | .binOp op _ x y _,σ => okBin σ.t op x y
  | .next _ _,_ => false
  | .unOp .neg _ _,_ => false
  | .slice T x lo hi none,σ => okSl V x lo hi σ && (match sz V.Γ (match kd V.Γ T with | some (.slice e) => e | _ => 0) with
      | some s => (match ev σ.t x with
        | some (.o i _) => (match σ.b[i]? with
          | some (.own _ _ s' _ _) => s' == s
          | _ => false)
        | _ => true)
      | none => true)
  | .slice T x none (some hi) (some mx),σ => (match ev σ.t hi with
    | some (.int _ hi) => (match ev σ.t mx with
      | some (.int _ mx) => (match ev σ.t x with
        | some (.o i n) => (match σ.b[i]? with
          | some (.own _ _ s' n' _) => (n' == n) && decide (hi = (n : Int)) && decide (mx = (n : Int)) && (match sz V.Γ (match kd V.Γ T with | some (.slice e) => e | _ => 0) with | some s => s' == s | none => true)
          | _ => true)
        | _ => decide (hi = 0) && decide (mx = 0))
      | _ => true)
    | _ => true)
  | .index _ x i,σ => (match ev σ.t x with
    | some (.str l) => (match ev σ.t i with
      | some (.int _ n) => decide (0 ≤ n) && decide (n < l.length)
      | _ => true)
    | _ => true)
  | .indexAddr T x i,σ => (match ev σ.t i with
    | some (.int _ k) => decide (0 ≤ k) && (match kd V.Γ T with
      | some (.arr n e) => decide (k < n) && (match sz V.Γ e with | some s => decide (0 < s) | none => true)
      | some (.slice e) => (match ev σ.t x with
        | some (.o i n) => decide (k < n) && (match σ.b[i]? with
          | some (.own _ _ s n' _) => (n' == n) && decide (0 < s) && (match sz V.Γ e with | some s' => s == s' | none => true)
          | _ => true)
        | _ => true)
      | _ => true)
    | _ => true)
  | .call ⟨.builtin .append,args,ts⟩,σ => (match args.toList with
    | [s,x] => (match ts.toList with
      | [t,u] => (match kd V.Γ t with
        | some (.slice e) => (match kd V.Γ u with
          | some ku => (match V.Γ e with
            | some ti => (match ev σ.t s with
              | some s => (match ev σ.t x with
                | some x => (match dstS σ.b e ti.size s with
                  | some (n,_,_) => (match srcS σ.b ti.size x with
                    | some (m,xs) => (!capB s || decide (0 < m)) && XP ku && decide (0 < ti.size) && xs.all one && decide (n + m ≤ maxLen) && decide ((n + m) * ti.bytes ≤ 140737488355328)
                    | none => true)
                  | none => true)
                | none => true)
              | none => true)
            | none => true)
          | none => true)
        | _ => true)
      | _ => true)
    | _ => true)
  | .makeSlice t l c,σ => (match kd V.Γ t with
    | some (.slice e) => (match V.Γ e with
      | some ti => (match ev σ.t l with
        | some (.int _ l) => (match ev σ.t c with
          | some (.int _ c) => decide (0 ≤ l) && decide (l ≤ c) && decide ((ti.bytes : Int) * c ≤ 281474976710656) && decide (c ≤ 9223372036854775807) && decide (0 < ti.size)
          | _ => true)
        | _ => true)
      | none => true)
    | _ => true)
  | .buildSlice t n ps,σ => (match kd V.Γ t with
    | some (.slice e) => (match V.Γ e with
      | some ti => (match Xl σ.t ps.toList with
        | some ps => (ps.length == n) && decide (n * ti.size ≤ 16777216) && decide (0 < ti.size)
        | none => true)
      | none => true)
    | _ => true)
  | .convert _ _ x,σ => (match ev σ.t x with
    | some (.str l) => decide (l.length ≤ maxLen)
    | some (.o i n) => (match σ.b[i]? with
      | some (.own c _ s n' _) => (n' == n) && (s == 1) && c.all isU8
      | _ => true)
    | _ => true)
  | .box _ x,σ => (match ev σ.t x with
    | some x => !isV x
    | none => true)
  | .load T x,σ => (match ev σ.t x with
    | some (.p i off) => (match getB σ.b i with
      | some (c,_,_) => (match V.Γ T with
        | some ti => decide (off + ti.size ≤ c.length) && decide (0 < ti.size)
        | none => true)
      | none => true)
    | _ => true)
  | .store T x y,σ => (match ev σ.t x with
    | some (.p i off) => (match ev σ.t y with
      | some y => (match getB σ.b i with
        | some (c,_,m) => (match sz V.Γ T with
          | some s => m && (cells y).all one && ((cells y).length == s) && decide (off + s ≤ c.length) && decide (0 < s)
          | none => true)
        | none => true)
      | none => true)
    | _ => true)
  | .nilCheck x,σ => (match ev σ.t x with
    | some (.fn f _) => Xt f
    | _ => true)
  | _,_ => true
variable {V : Cx}
theorem pv_c {op : Op} {σ : St} {c : Prop} {x : SV} (h : pv V.Γ σ.t op = some (c,x)) (ho : okO V op σ = true) : c := by
  unfold pv at h
  split at h
  case h_6 op T x y z =>
    simp only [okO] at ho
    unfold oBin at h
    unfold okBin at ho
    split at h
    · rename_i a ha
      rw [ha] at ho
      split at h
      · rename_i b hb
        rw [hb] at ho
        split at h
        · rename_i r hr
          cases h
          cases a <;> cases b <;> simp only [bin] at hr <;> try cases hr
          · exact binI_ok hr ho
          · unfold binS at hr
            split at hr <;> try cases hr
            all_goals first | trivial | simpa using ho
        · split at h
          · rename_i k hk
            cases he : eqB V.Γ T k op a b with
            | none => rw [he] at h; cases h
            | some v => rw [he] at h; cases h; trivial
          · cases h
      · cases h
    · cases h
  case h_9 T x lo hi =>
    simp only [okO,Bool.and_eq_true] at ho
    have ho := ho.1
    unfold Xw at h
    unfold okSl at ho
    (repeat' split at h) <;> try cases h
    simp_all
    obtain ⟨p,q,r,h1,h2,-⟩ := h
    rw [← h2]
    exact okBn_ok h1 ho
  case h_10 T x i =>
    simp only [okO] at ho
    unfold Xx at h
    (repeat' split at h) <;> try cases h
    simp_all
  case h_15 T x i =>
    simp only [okO] at ho
    unfold XS at h
    (repeat' split at h) <;> try cases h
    simp_all
  all_goals
    first
      | cases h; done
      | (simp only [XX,Ya,Xb,Xu,oUn,Ye,Xh,oLen,Yh,Xk,oIface,oAssert] at h
         (repeat' split at h) <;> simp_all <;> (try (obtain ⟨_,_,h1,_⟩ := h; rw [← h1]; trivial)) <;> (try (obtain ⟨_,h1,_⟩ := h; rw [← h1]; trivial)) <;> (try (rw [← h.1]; trivial)) <;> (try (simp [okO] at ho; done)))
theorem stepN_c {dst : Option Tmp} {op : Op} {σ σ' : St} {c : Prop} (h : Yl V dst op σ = some (c,σ')) (ho : okO V op σ = true) : c := by
  unfold Yl at h
  split at h
  · rename_i args ts
    simp only [okO] at ho
    unfold Xm at h
    (repeat' split at h) <;> try cases h
    simp_all
    exact fun hc => ho.1.1.1.1.1.resolve_left (by simp [hc])
  · unfold Xq at h
    (repeat' split at h) <;> try cases h
    simp_all
    obtain ⟨_,_,h1,_⟩ := h; exact h1
  · unfold Xq at h
    (repeat' split at h) <;> try cases h
    simp_all
    obtain ⟨_,_,h1,_⟩ := h; exact h1
  · simp only [okO] at ho
    unfold Yn at h
    (repeat' split at h) <;> try cases h
    simp_all
  · simp only [okO] at ho
    unfold Xa at h
    (repeat' split at h) <;> try cases h
    simp_all
  · rename_i T x i
    simp only [okO] at ho
    unfold Xc at h
    (repeat' split at h) <;> try cases h
    rename_i ha
    unfold Ym at ha
    (repeat' split at ha) <;> try cases ha
    unfold Xc.sizeIs
    simp_all
    omega
  · rename_i T x lo hi
    simp only [okO,Bool.and_eq_true] at ho
    unfold Xj at h
    (repeat' split at h) <;> try cases h
    rename_i hr
    unfold reS at hr
    unfold okSl at ho
    (repeat' split at hr) <;> try cases hr
    all_goals
      simp only [Xc.sizeIs]
      simp_all
      rename_i hb
      exact ⟨okBn_ok hb ho.1.1.1,by omega⟩
  · rename_i T x hi mx
    simp only [okO] at ho
    unfold nCap at h
    (repeat' split at h) <;> try cases h
    rename_i hc
    unfold capS at hc
    (repeat' split at hc) <;> try cases hc
    all_goals simp_all
  · simp only [okO] at ho
    unfold Yb at h
    (repeat' split at h) <;> try cases h
    all_goals simp_all
  · cases h
theorem stepM_c {dst : Option Tmp} {op : Op} {σ σ' : St} {c : Prop} (h : Yd V dst op σ = .go c σ') (ho : okO V op σ = true) : c := by
  unfold Yd at h
  split at h
  · unfold XC at h
    (repeat' split at h) <;> try cases h
    trivial
  · simp only [okO] at ho
    unfold sBox at h
    (repeat' split at h) <;> try cases h
    simp_all
  · simp only [okO] at ho
    unfold XU at h
    (repeat' split at h) <;> try cases h
    simp_all
  · simp only [okO] at ho
    unfold XH at h
    (repeat' split at h) <;> try cases h
    simp_all
  · unfold Xr at h
    (repeat' split at h) <;> try cases h
    trivial
  · simp only [okO] at ho
    unfold sNil at h
    (repeat' split at h) <;> try cases h
    all_goals simp_all
  · unfold XL at h
    (repeat' split at h) <;> cases h
  · unfold sInvoke at h
    (repeat' split at h) <;> cases h
  · unfold sRange at h
    (repeat' split at h) <;> try cases h
    trivial
  · simp only [okO] at ho
    cases ho
  · cases h
theorem stepO_c {dst : Option Tmp} {op : Op} {σ σ' : St} {c : Prop} (h : XR V dst op σ = .go c σ') (ho : okO V op σ = true) : c := by
  unfold XR at h
  cases hp : pv V.Γ σ.t op with
  | some p => rw [hp] at h; obtain ⟨c',x⟩ := p; cases h; exact pv_c hp ho
  | none =>
    rw [hp] at h
    simp only [goR] at h
    cases hn : Yl V dst op σ with
    | some p => rw [hn] at h; obtain ⟨c',x⟩ := p; cases h; exact stepN_c hn ho
    | none => rw [hn] at h; exact stepM_c h ho
theorem stepDM_c {op : Op} {σ : St} {c : Prop} {r : RecE} (h : Xv V op σ = .val c r) (ho : okO V op σ = true) : c := by
  unfold Xv at h
  split at h
  · unfold XD at h
    (repeat' split at h) <;> try cases h
    trivial
  · simp only [okO] at ho
    unfold dBox at h
    (repeat' split at h) <;> try cases h
    simp_all
  · simp only [okO] at ho
    unfold XI at h
    (repeat' split at h) <;> try cases h
    simp_all
  · simp only [okO] at ho
    unfold XF at h
    (repeat' split at h) <;> try cases h
    simp_all
  · unfold XB valD at h
    (repeat' split at h) <;> try cases h
    trivial
  · simp only [okO] at ho
    unfold dNil valD at h
    (repeat' split at h) <;> try cases h
    all_goals simp_all
  · unfold XK at h
    (repeat' split at h) <;> cases h
  · cases h
theorem stepD_c {op : Op} {σ : St} {c : Prop} {r : RecE} (h : XV V op σ = .val c r) (ho : okO V op σ = true) : c := by
  unfold XV at h
  cases hp : pv V.Γ σ.t op with
  | some p => rw [hp] at h; obtain ⟨c',x⟩ := p; cases h; exact pv_c hp ho
  | none =>
    rw [hp] at h
    simp only [goD] at h
    cases hn : Yl V (some 0) op σ with
    | some p =>
      rw [hn] at h; obtain ⟨c',x⟩ := p
      have hc := stepN_c hn
      simp only [dN] at h
      split at h
      · split at h <;> (cases h; exact hc ho)
      · cases h
    | none => rw [hn] at h; exact stepDM_c h ho
/-! quick steps -/
noncomputable def lkB (d : Nat) (t : List (Nat × SV)) : Option SV := List.rec (motive := fun _ => Option SV) none (fun p _ ih => Bool.rec (motive := fun _ => Option SV) ih (some p.2) (Nat.beq d p.1)) t
theorem lkB_eq (d : Nat) : ∀ t,lkB d t = lk d t
  | [] => rfl
  | (e,x) :: r => by
    show Bool.rec (motive := fun _ => Option SV) (lkB d r) (some x) (Nat.beq d e) = _
    rw [lk,lkB_eq d r]
    by_cases h : d = e
    · subst h; rw [if_pos rfl,Nat.beq_refl]
    · rw [if_neg h]
      cases hb : Nat.beq d e
      · rfl
      · exact absurd (Nat.eq_of_beq_eq_true hb) h
noncomputable def evB (t : List (Nat × SV)) : Operand → Option SV
  | .tmp d => lkB d t
  | .const v => some (ofV v)
  | .global g => some (.v (.pointer (some ⟨g,0,none⟩)))
  | .func f => some (.fn (.func f) [])
theorem evB_eq (t : List (Nat × SV)) (o : Operand) : evB t o = ev t o := by cases o <;> simp only [evB,ev,lkB_eq]
noncomputable def lenB {α : Type} (l : List α) : Nat → Nat := List.rec (motive := fun _ => Nat → Nat) (fun n => n) (fun _ _ ih n => ih (Nat.add n 1)) l
theorem lenB_eq {α : Type} : ∀ (l : List α) (n : Nat),lenB l n = n + l.length
  | [],_ => rfl
  | _ :: r,n => by show lenB r (n + 1) = _; rw [lenB_eq r]; simp; omega
noncomputable def appB {α : Type} (a b : List α) : List α := List.rec (motive := fun _ => List α) b (fun x _ ih => x :: ih) a
theorem appB_eq {α : Type} (b : List α) : ∀ a : List α,appB a b = a ++ b
  | [] => rfl
  | x :: r => by show x :: appB r b = _; rw [appB_eq b r]; rfl
noncomputable def takeB {α : Type} (l : List α) : Nat → List α := List.rec (motive := fun _ => Nat → List α) (fun _ => []) (fun x _ ih n => Nat.rec (motive := fun _ => List α) [] (fun m _ => x :: ih m) n) l
theorem takeB_eq {α : Type} : ∀ (l : List α) (n : Nat),takeB l n = l.take n
  | [],n => by simp [takeB]
  | x :: r,0 => rfl
  | x :: r,n + 1 => by show x :: takeB r n = _; rw [takeB_eq r n]; rfl
noncomputable def dropB {α : Type} (l : List α) : Nat → List α := List.rec (motive := fun _ => Nat → List α) (fun _ => []) (fun x r ih n => Nat.rec (motive := fun _ => List α) (x :: r) (fun m _ => ih m) n) l
theorem dropB_eq {α : Type} : ∀ (l : List α) (n : Nat),dropB l n = l.drop n
  | [],n => by simp [dropB]
  | x :: r,0 => rfl
  | x :: r,n + 1 => by show dropB r n = _; rw [dropB_eq r n]; rfl
noncomputable def nthB {α : Type} (d : α) (l : List α) : Nat → α := List.rec (motive := fun _ => Nat → α) (fun _ => d) (fun x _ ih n => Nat.rec (motive := fun _ => α) x (fun m _ => ih m) n) l
theorem nthB_eq {α : Type} (d : α) : ∀ (l : List α) (n : Nat),nthB d l n = l.getD n d
  | [],n => by simp [nthB]
  | x :: r,0 => rfl
  | x :: r,n + 1 => by show nthB d r n = _; rw [nthB_eq d r n]; simp
noncomputable def sameB (a : List UInt8) : List UInt8 → Bool := List.rec (motive := fun _ => List UInt8 → Bool) (fun b => List.rec (motive := fun _ => Bool) true (fun _ _ _ => false) b) (fun x _ ih b => List.rec (motive := fun _ => Bool) false (fun y r _ => Bool.rec (motive := fun _ => Bool) false (ih r) (Nat.beq x.toNat y.toNat)) b) a
theorem sameB_eq : ∀ (a b : List UInt8),sameB a b = (a == b)
  | [],[] => rfl
  | [],_ :: _ => rfl
  | _ :: _,[] => rfl
  | x :: r,y :: q => by
    show Bool.rec (motive := fun _ => Bool) false (sameB r q) (Nat.beq x.toNat y.toNat) = _
    rw [sameB_eq r q]
    cases h : Nat.beq x.toNat y.toNat
    · have hne : x ≠ y := fun e => by subst e; rw [Nat.beq_refl] at h; cases h
      have : (x :: r == y :: q) = false := beq_eq_false_iff_ne.2 (fun e => hne (List.cons.inj e).1)
      rw [this]
    · have he : x = y := UInt8.toNat_inj.1 (Nat.eq_of_beq_eq_true h)
      subst he
      simp
def okV : Bool → Option (Prop × SV) → Option SV
  | true,some (_,x) => some x
  | _,_ => none
def qIntS (op : BinOp) (k k' : IntKind) (a b : Int) : Option SV := okV (okIdx op k a b) (binI op k k' a b)
def kN : IntKind → Nat
  | .i8 => 0
  | .i16 => 1
  | .i32 => 2
  | .i64 => 3
  | .u8 => 4
  | .u16 => 5
  | .u32 => 6
  | .u64 => 7
def kSame (k k' : IntKind) : Bool := Nat.beq (kN k) (kN k')
theorem kSame_ok {k k' : IntKind} (h : kSame k k' = true) : k = k' := by
  have := Nat.eq_of_beq_eq_true h
  cases k <;> cases k' <;> first | rfl | (simp [kN] at this)
def qAdd (k : IntKind) (m n : Nat) : Option SV := match k with
  | .i64 => match Nat.ble (Nat.add m n) 9223372036854775807 with
    | true => some (.int .i64 (.ofNat (Nat.add m n)))
    | false => none
  | k => qIntS .add k k (.ofNat m) (.ofNat n)
def qSub (k : IntKind) (m n : Nat) : Option SV := match k with
  | .i64 => match Nat.ble n m with
    | true => match Nat.ble m 9223372036854775807 with
      | true => some (.int .i64 (.ofNat (Nat.sub m n)))
      | false => none
    | false => qIntS .sub .i64 .i64 (.ofNat m) (.ofNat n)
  | k => qIntS .sub k k (.ofNat m) (.ofNat n)
def notB : Bool → Bool
  | true => false
  | false => true
def qNat (op : BinOp) (k : IntKind) (m n : Nat) : Option SV := match op with
  | .add => qAdd k m n
  | .sub => qSub k m n
  | .eql => some (.bool (Nat.beq m n))
  | .neq => some (.bool (notB (Nat.beq m n)))
  | .lss => some (.bool (Nat.ble (Nat.add m 1) n))
  | .leq => some (.bool (Nat.ble m n))
  | .gtr => some (.bool (Nat.ble (Nat.add n 1) m))
  | .geq => some (.bool (Nat.ble n m))
  | op => qIntS op k k (.ofNat m) (.ofNat n)
def qInt (op : BinOp) (k k' : IntKind) (a b : Int) : Option SV := match a,b with
  | .ofNat m,.ofNat n => match kSame k k' with
    | true => qNat op k m n
    | false => qIntS op k k' (.ofNat m) (.ofNat n)
  | a,b => qIntS op k k' a b
noncomputable def qStr (op : BinOp) (a b : List UInt8) : Option SV := match op with
  | .eql => some (.bool (sameB a b))
  | .neq => some (.bool (notB (sameB a b)))
  | .add => match Nat.ble (lenB a (lenB b 0)) 9223372036854775807 with
    | true => some (.str (appB a b))
    | false => none
  | _ => none
noncomputable def qBin (op : BinOp) : Option SV → Option SV → Option SV
  | some (.int k a),some (.int k' b) => qInt op k k' a b
  | some (.str a),some (.str b) => qStr op a b
  | _,_ => none
def qExt (i : Nat) : Option SV → Option SV
  | some (.tup l) => l[i]?
  | _ => none
def qNot (op : UnOp) : Option SV → Option SV
  | some (.bool b) => match op with
    | .not => some (.bool (!b))
    | _ => none
  | _ => none
def qPick : Option SV → Option SV → Option SV → Option SV
  | some c,a,b => XJ c a b
  | none,_,_ => none
def isStr (Γ : TypeId → Option TI) (T : TypeId) : Bool := match kd Γ T with
  | some .str => true
  | _ => false
noncomputable def qIdx (l : List UInt8) (n : Int) : Option SV := match n with
  | .ofNat m => match Nat.blt m (lenB l 0) with
    | true => some (.int .u8 (.ofNat (nthB 0 l m).toNat))
    | false => none
  | _ => none
noncomputable def qCut (l : List UInt8) (f u : Nat) : Option SV := match Nat.ble f u && Nat.ble u (lenB l 0) with
  | true => some (.str (dropB (takeB l u) f))
  | false => none
noncomputable def qSl (l : List UInt8) : Option (Option SV) → Option (Option SV) → Option SV
  | some none,some none => qCut l 0 (lenB l 0)
  | some (some (.int _ (.ofNat f))),some none => qCut l f (lenB l 0)
  | some none,some (some (.int _ (.ofNat u))) => qCut l 0 u
  | some (some (.int _ (.ofNat f))),some (some (.int _ (.ofNat u))) => qCut l f u
  | _,_ => none
noncomputable def optB (t : List (Nat × SV)) : Option Operand → Option (Option SV)
  | none => some none
  | some o => (evB t o).map some
theorem optB_eq (t : List (Nat × SV)) (o : Option Operand) : optB t o = optE t o := by cases o <;> simp only [optB,optE,evB_eq]
noncomputable def qSlice (t : List (Nat × SV)) (lo hi : Option Operand) : Bool → Option SV → Option SV
  | true,some (.str l) => qSl l (optB t lo) (optB t hi)
  | _,_ => none
noncomputable def qIndex : Bool → Option SV → Option SV → Option SV
  | true,some (.str l),some (.int _ n) => qIdx l n
  | _,_,_ => none
noncomputable def qLenV (Γ : TypeId → Option TI) (T : TypeId) : Option SV → Option SV
  | some (.str l) => match isStr Γ T with
    | true => some (.int .i64 (lenB l 0 : Nat))
    | false => none
  | _ => none
noncomputable def qLen (Γ : TypeId → Option TI) (t : List (Nat × SV)) : List Operand → List TypeId → Option SV
  | [x],[T] => qLenV Γ T (evB t x)
  | _,_ => none
noncomputable def qCall (Γ : TypeId → Option TI) (t : List (Nat × SV)) (args : List Operand) (ts : List TypeId) : Callee → Option SV
  | .builtin .len => qLen Γ t args ts
  | _ => none
noncomputable def qOp (Γ : TypeId → Option TI) (t : List (Nat × SV)) : Op → Option SV
  | .move x => evB t x
  | .assign x => evB t x
  | .binOp op _ x y _ => qBin op (evB t x) (evB t y)
  | .extract x i => qExt i (evB t x)
  | .unOp op _ x => qNot op (evB t x)
  | .pick c a b => qPick (evB t c) (evB t a) (evB t b)
  | .index T x i => qIndex (isStr Γ T) (evB t x) (evB t i)
  | .slice T x lo hi none => qSlice t lo hi (isStr Γ T) (evB t x)
  | .call c => qCall Γ t c.args.toList c.argTypes.toList c.callee
  | _ => none
theorem okV_ok {b : Bool} {o : Option (Prop × SV)} {x : SV} (h : okV b o = some x) : b = true ∧ ∃ c,o = some (c,x) := by
  cases b <;> cases o <;> simp [okV] at h
  rename_i p
  obtain ⟨c,y⟩ := p
  simp at h
  exact ⟨rfl,c,by rw [h]⟩
theorem notB_eq (b : Bool) : notB b = !b := by cases b <;> rfl
theorem qIntS_ok {op : BinOp} {k k' : IntKind} {a b : Int} {x : SV} (h : qIntS op k k' a b = some x) : ∃ c,binI op k k' a b = some (c,x) ∧ c := by
  obtain ⟨h1,c,h2⟩ := okV_ok h
  exact ⟨c,h2,binI_ok h2 h1⟩
theorem qAdd_ok {k : IntKind} {m n : Nat} {x : SV} (h : qAdd k m n = some x) : ∃ c,binI .add k k (.ofNat m) (.ofNat n) = some (c,x) ∧ c := by
  unfold qAdd at h
  split at h
  · split at h
    · rename_i hc
      cases h
      simp only [Nat.ble_eq] at hc
      exact ⟨_,rfl,by constructor <;> (simp only [Int.ofNat_eq_natCast]; show _ ≤ _; have : (Nat.add m n) = m + n := rfl; omega)⟩
    · cases h
  · exact qIntS_ok h
theorem qSub_ok {k : IntKind} {m n : Nat} {x : SV} (h : qSub k m n = some x) : ∃ c,binI .sub k k (.ofNat m) (.ofNat n) = some (c,x) ∧ c := by
  unfold qSub at h
  split at h
  · split at h
    · rename_i hc
      split at h
      · rename_i hd
        cases h
        simp only [Nat.ble_eq] at hc hd
        have e : (Int.ofNat m - Int.ofNat n) = Int.ofNat (Nat.sub m n) := by
          show (m : Int) - (n : Int) = ((m - n : Nat) : Int)
          omega
        refine ⟨-9223372036854775808 ≤ Int.ofNat (Nat.sub m n) ∧ Int.ofNat (Nat.sub m n) ≤ 9223372036854775807,?_,?_⟩
        · simp only [binI,ifK,if_pos,ar,e]
        show _ ≤ ((m - n : Nat) : Int) ∧ ((m - n : Nat) : Int) ≤ _
        omega
      · cases h
    · exact qIntS_ok h
  · exact qIntS_ok h
theorem qNat_ok {op : BinOp} {k : IntKind} {m n : Nat} {x : SV} (h : qNat op k m n = some x) : ∃ c,binI op k k (.ofNat m) (.ofNat n) = some (c,x) ∧ c := by
  unfold qNat at h
  split at h
  · exact qAdd_ok h
  · exact qSub_ok h
  · cases h
    refine ⟨True,?_,trivial⟩
    have : (Int.ofNat m == Int.ofNat n) = Nat.beq m n := by
      rw [Bool.eq_iff_iff]; simp [Nat.beq_eq]; omega
    simp only [binI,ifK,if_pos,this]
  · cases h
    refine ⟨True,?_,trivial⟩
    have : (Int.ofNat m != Int.ofNat n) = notB (Nat.beq m n) := by
      have h2 : (Int.ofNat m == Int.ofNat n) = Nat.beq m n := by
        rw [Bool.eq_iff_iff]; simp [Nat.beq_eq]; omega
      rw [notB_eq,← h2]; rfl
    simp only [binI,ifK,if_pos,this]
  · cases h
    refine ⟨True,?_,trivial⟩
    have : decide (Int.ofNat m < Int.ofNat n) = Nat.ble (Nat.add m 1) n := by
      rw [Bool.eq_iff_iff]; simp [Nat.ble_eq]; rfl
    simp only [binI,ifK,if_pos,this]
  · cases h
    refine ⟨True,?_,trivial⟩
    have : decide (Int.ofNat m ≤ Int.ofNat n) = Nat.ble m n := by
      rw [Bool.eq_iff_iff]; simp [Nat.ble_eq]
    simp only [binI,ifK,if_pos,this]
  · cases h
    refine ⟨True,?_,trivial⟩
    have : decide (Int.ofNat n < Int.ofNat m) = Nat.ble (Nat.add n 1) m := by
      rw [Bool.eq_iff_iff]; simp [Nat.ble_eq]; rfl
    simp only [binI,ifK,if_pos,this]
  · cases h
    refine ⟨True,?_,trivial⟩
    have : decide (Int.ofNat n ≤ Int.ofNat m) = Nat.ble n m := by
      rw [Bool.eq_iff_iff]; simp [Nat.ble_eq]
    simp only [binI,ifK,if_pos,this]
  · exact qIntS_ok h
theorem qInt_ok {op : BinOp} {k k' : IntKind} {a b : Int} {x : SV} (h : qInt op k k' a b = some x) : ∃ c,binI op k k' a b = some (c,x) ∧ c := by
  unfold qInt at h
  split at h
  · split at h
    · rename_i hk
      have := kSame_ok hk
      subst this
      exact qNat_ok h
    · exact qIntS_ok h
  · exact qIntS_ok h
theorem qOp_ok {Γ : TypeId → Option TI} {t : List (Nat × SV)} {op : Op} {x : SV} (h : qOp Γ t op = some x) : ∃ c,pv Γ t op = some (c,x) ∧ c := by
  cases op <;> try (simp only [qOp,evB_eq] at h)
  all_goals try (cases h; done)
  case slice T a lo hi mx =>
    cases mx with
    | some _ => simp [qOp] at h
    | none =>
    simp only [qOp,evB_eq] at h
    unfold qSlice at h
    split at h
    · rename_i l h1 h2
      simp only [optB_eq] at h
      have hk : kd Γ T = some .str := by
        unfold isStr at h1
        split at h1
        · assumption
        · cases h1
      have key : ∀ f u,qCut l f u = some x → x = .str ((l.take u).drop f) ∧ f ≤ u ∧ u ≤ l.length := fun f u h => by
        unfold qCut at h
        split at h
        · rename_i hc
          cases h
          simp only [Bool.and_eq_true,Nat.ble_eq,lenB_eq,Nat.zero_add] at hc
          exact ⟨by rw [dropB_eq,takeB_eq],hc⟩
        · cases h
      unfold qSl at h
      split at h
      · rename_i e1 e2
        obtain ⟨rfl,h3,h4⟩ := key _ _ h
        refine ⟨True,?_,trivial⟩
        simp only [pv,Xw,hk,h2,e1,e2,bnds,Option.map_some,lenB_eq,Nat.zero_add]
      · rename_i e1 e2
        obtain ⟨rfl,h3,h4⟩ := key _ _ h
        rw [lenB_eq,Nat.zero_add] at h3
        refine ⟨_,by simp only [pv,Xw,hk,h2,e1,e2,bnds,Option.map_some,lenB_eq,Nat.zero_add,Int.ofNat_eq_natCast,Int.toNat_natCast]; rfl,?_⟩
        constructor <;> omega
      · rename_i e1 e2
        obtain ⟨rfl,h3,h4⟩ := key _ _ h
        refine ⟨_,by simp only [pv,Xw,hk,h2,e1,e2,bnds,Option.map_some,Int.ofNat_eq_natCast,Int.toNat_natCast]; rfl,?_⟩
        constructor <;> omega
      · rename_i e1 e2
        obtain ⟨rfl,h3,h4⟩ := key _ _ h
        refine ⟨_,by simp only [pv,Xw,hk,h2,e1,e2,bnds,Option.map_some,Int.ofNat_eq_natCast,Int.toNat_natCast]; rfl,?_⟩
        refine ⟨?_,?_,?_⟩ <;> omega
      · cases h
    · cases h
  case move o => exact ⟨True,by simp only [pv,XX,h]; rfl,trivial⟩
  case assign o => exact ⟨True,by simp only [pv,XX,h]; rfl,trivial⟩
  case binOp op T a b p =>
    simp only [pv,oBin]
    cases ha : ev t a with
    | none => rw [ha] at h; simp [qBin] at h
    | some a =>
    cases hb : ev t b with
    | none => rw [ha,hb] at h; cases a <;> simp [qBin] at h
    | some b =>
    rw [ha,hb] at h
    cases a <;> cases b <;> simp only [qBin] at h <;> try cases h
    · obtain ⟨c,h2,hc⟩ := qInt_ok h
      simp only [bin,h2]
      exact ⟨c,rfl,hc⟩
    · unfold qStr at h
      split at h
      · cases h; simp only [bin,binS,sameB_eq]; exact ⟨True,rfl,trivial⟩
      · cases h; simp only [bin,binS,sameB_eq,notB_eq]; exact ⟨True,rfl,trivial⟩
      · split at h
        · rename_i hc
          cases h
          simp only [bin,binS,appB_eq]
          simp only [Nat.ble_eq,lenB_eq,Nat.zero_add] at hc
          exact ⟨_,rfl,by omega⟩
        · cases h
      · cases h
  case extract o i =>
    unfold qExt at h
    split at h
    · rename_i l hl
      exact ⟨True,by simp only [pv,Xh,hl,h]; rfl,trivial⟩
    · cases h
  case unOp op T o =>
    unfold qNot at h
    split at h
    · rename_i b hl
      split at h
      · cases h; exact ⟨True,by simp only [pv,oUn,hl],trivial⟩
      · cases h
    · cases h
  case pick c a b =>
    unfold qPick at h
    split at h
    · rename_i y hc
      exact ⟨True,by simp only [pv,Ya,hc,h]; rfl,trivial⟩
    · cases h
  case index T a i =>
    unfold qIndex at h
    split at h
    · rename_i l k n h1 h2 h3
      unfold isStr at h1
      split at h1
      · rename_i hk
        unfold qIdx at h
        split at h
        · rename_i m
          split at h
          · rename_i hd
            cases h
            have hd : m < l.length := by have := hd; simp [Nat.blt,lenB_eq] at this; omega
            exact ⟨0 ≤ Int.ofNat m ∧ Int.ofNat m < l.length,by simp only [pv,Xx,hk,h2,h3,nthB_eq]; rfl,by constructor <;> simp <;> omega⟩
          · cases h
        · cases h
      · cases h1
    · cases h
  case call c =>
    obtain ⟨callee,args,ts⟩ := c
    unfold qCall at h
    split at h
    · rename_i hc
      simp only at hc
      subst hc
      unfold qLen at h
      split at h
      · rename_i o T ha ht
        simp only at ha ht
        simp only [evB_eq] at h
        unfold qLenV at h
        split at h
        · rename_i l hl
          unfold isStr at h
          cases hk : kd Γ T with
          | none => rw [hk] at h; cases h
          | some k =>
            rw [hk] at h
            cases k <;> simp only at h <;> cases h
            exact ⟨True,by simp only [pv,oLen,ha,ht,hk,hl,lenS,lenB_eq,Nat.zero_add]; rfl,trivial⟩
        · cases h
      · cases h
    · cases h
end Vc
/- An executable reckoning of closed calls: the runner. -/
set_option linter.all false
namespace Vc
open Go Go.RowKit Wf
inductive EItem where
  | code (c : Code)
  | ops (ops : Array Oper) (l : List Oper)
  | dops (ops : Array Oper) (l : List Oper) (rs : List Rk)
  | endb (id : Nat)
  | endx (x : Code)
def exitX (id : Nat) : List EItem → Option (List EItem)
  | [] => none
  | .endb id' :: k => if id' = id then some k else exitX id k
  | _ :: k => exitX id k
def seenB (m d : Nat) : Bool := Nat.beq 1 (Nat.land 1 (Nat.shiftRight m d))
noncomputable def ddM {β : Type} (t : List (Nat × SV)) : Nat → (List (Nat × SV) → β) → β := List.rec (motive := fun _ => Nat → (List (Nat × SV) → β) → β) (fun _ f => f []) (fun p _ ih m f => Bool.rec (motive := fun _ => β) (forceN p.1 fun d => forceW p.2 fun x => forceN (Nat.lor m (Nat.shiftLeft 1 d)) fun m => ih m fun r => f ((d,x) :: r)) (ih m f) (seenB m p.1)) t
def ddP : List (Nat × SV) → Nat → List (Nat × SV)
  | [],_ => []
  | (d,x) :: r,m => match seenB m d with
    | true => ddP r m
    | false => (d,x) :: ddP r (Nat.lor m (Nat.shiftLeft 1 d))
theorem ddM_eq {β : Type} : ∀ (t : List (Nat × SV)) (m : Nat) (f : List (Nat × SV) → β),ddM t m f = f (ddP t m)
  | [],_,_ => rfl
  | (d,x) :: r,m,f => by
    show Bool.rec (motive := fun _ => β) (forceN d fun d => forceW x fun x => forceN (Nat.lor m (Nat.shiftLeft 1 d)) fun m => ddM r m fun r => f ((d,x) :: r)) (ddM r m f) (seenB m d) = _
    rw [ddP]
    cases seenB m d
    · simp only [forceN_eq,forceW_eq]
      rw [ddM_eq r]
    · exact ddM_eq r m f
inductive FT where
  | nil
  | node (l : FT) (k : FuncId) (pu : Bool) (fn : Func) (how : Nat → List Nat) (r : FT)
noncomputable def FT.get (g : FuncId) (t : FT) : Option (Bool × Func × (Nat → List Nat)) := FT.rec (motive := fun _ => Option (Bool × Func × (Nat → List Nat))) none (fun _ k pu fn how _ il ir => Bool.rec (motive := fun _ => Option (Bool × Func × (Nat → List Nat))) (Bool.rec (motive := fun _ => Option (Bool × Func × (Nat → List Nat))) ir (some (pu,fn,how)) (Nat.beq g k)) il (Nat.ble (Nat.add g 1) k)) t
def FT.ok (V : Cx) : FT → Prop
  | .nil => True
  | .node l k _ fn _ r => V.P.funcs[k]? = some fn ∧ Enters V k ∧ l.ok V ∧ r.ok V
theorem FT.get_ok {V : Cx} {g : FuncId} : ∀ {t : FT} {pu : Bool} {fn : Func} {how : Nat → List Nat},t.ok V → t.get g = some (pu,fn,how) → V.P.funcs[g]? = some fn ∧ Enters V g
  | .nil,_,_,_,_,h => by cases h
  | .node l k pu' fn' how' r,pu,fn,how,⟨h1,h2,h3,h4⟩,h => by
    have h : Bool.rec (motive := fun _ => Option (Bool × Func × (Nat → List Nat))) (Bool.rec (motive := fun _ => Option (Bool × Func × (Nat → List Nat))) (r.get g) (some (pu',fn',how')) (Nat.beq g k)) (l.get g) (Nat.ble (Nat.add g 1) k) = some (pu,fn,how) := h
    cases hb : Nat.ble (Nat.add g 1) k
    · rw [hb] at h
      cases he : Nat.beq g k
      · rw [he] at h
        exact FT.get_ok h4 h
      · rw [he] at h
        cases h
        have := Nat.eq_of_beq_eq_true he
        subst this
        exact ⟨h1,h2⟩
    · rw [hb] at h
      exact FT.get_ok h3 h
structure EPar (V : Cx) where
  tbl : FT
  prim : FuncId → List SV → List Res → Option (SV × List Res)
structure EFun where
  n : Nat
  rs : List ResultVar
  how : Nat → List Nat
inductive EOut where
  | ok (x : SV × List Res)
  | no (k g : Nat)
/-! which things a call changed -/
def sameI : Int → Int → Bool
  | .ofNat m,.ofNat n => Nat.beq m n
  | .negSucc m,.negSucc n => Nat.beq m n
  | _,_ => false
theorem sameI_ok {a b : Int} (h : sameI a b = true) : a = b := by
  unfold sameI at h
  split at h
  · rw [Nat.eq_of_beq_eq_true h]
  · rw [Nat.eq_of_beq_eq_true h]
  · cases h
noncomputable def sameS (x y : SV) : Bool := match x,y with
  | .bool true,.bool true => true
  | .bool false,.bool false => true
  | .int k n,.int k' n' => kSame k k' && sameI n n'
  | .str a,.str b => sameB a b
  | .p i o,.p i' o' => Nat.beq i i' && Nat.beq o o'
  | .o i n,.o i' n' => Nat.beq i i' && Nat.beq n n'
  | .nils,.nils => true
  | _,_ => false
theorem sameS_ok {x y : SV} (h : sameS x y = true) : x = y := by
  unfold sameS at h
  split at h <;> try simp only [Bool.and_eq_true] at h
  · rfl
  · rfl
  · rw [kSame_ok h.1,sameI_ok h.2]
  · rw [sameB_eq] at h; rw [eq_of_beq h]
  · rw [Nat.eq_of_beq_eq_true h.1,Nat.eq_of_beq_eq_true h.2]
  · rw [Nat.eq_of_beq_eq_true h.1,Nat.eq_of_beq_eq_true h.2]
  · rfl
  · cases h
noncomputable def sameC (a : List SV) : List SV → Bool := List.rec (motive := fun _ => List SV → Bool) (fun b => List.rec (motive := fun _ => Bool) true (fun _ _ _ => false) b) (fun x _ ih b => List.rec (motive := fun _ => Bool) false (fun y r _ => Bool.rec (motive := fun _ => Bool) false (ih r) (sameS x y)) b) a
theorem sameC_ok : ∀ {a b : List SV},sameC a b = true → a = b
  | [],[],_ => rfl
  | [],_ :: _,h => by cases h
  | _ :: _,[],h => by cases h
  | x :: r,y :: q,h => by
    have h : Bool.rec (motive := fun _ => Bool) false (sameC r q) (sameS x y) = true := h
    cases hs : sameS x y
    · rw [hs] at h; cases h
    · rw [hs] at h
      rw [sameS_ok hs,sameC_ok (a := r) (b := q) h]
def sameM : Bool → Bool → Bool
  | true,true => true
  | false,false => true
  | _,_ => false
theorem sameM_ok {a b : Bool} (h : sameM a b = true) : a = b := by cases a <;> cases b <;> first | rfl | cases h
noncomputable def sameR (x y : Res) : Bool := match x,y with
  | .cells c T m,.cells c' T' m' => sameM m m' && Nat.beq T T' && sameC c c'
  | .own c e s n m,.own c' e' s' n' m' => sameM m m' && Nat.beq e e' && Nat.beq s s' && Nat.beq n n' && sameC c c'
  | .gone,.gone => true
  | _,_ => false
theorem sameR_ok {x y : Res} (h : sameR x y = true) : x = y := by
  unfold sameR at h
  split at h <;> try simp only [Bool.and_eq_true] at h
  · obtain ⟨⟨h1,h2⟩,h3⟩ := h
    rw [sameM_ok h1,Nat.eq_of_beq_eq_true h2,sameC_ok h3]
  · obtain ⟨⟨⟨⟨h1,h2⟩,h3⟩,h4⟩,h5⟩ := h
    rw [sameM_ok h1,Nat.eq_of_beq_eq_true h2,Nat.eq_of_beq_eq_true h3,Nat.eq_of_beq_eq_true h4,sameC_ok h5]
  · rfl
  · cases h
noncomputable def newW (b : List Res) : Nat → List (Nat × Nat × Nat) := List.rec (motive := fun _ => Nat → List (Nat × Nat × Nat)) (fun _ => []) (fun _ _ ih i => forceN i fun i => (i,0,0) :: ih (Nat.add i 1)) b
noncomputable def diffW (a : List Res) : List Res → Nat → List (Nat × Nat × Nat) := List.rec (motive := fun _ => List Res → Nat → List (Nat × Nat × Nat)) newW (fun x _ ih b i => forceN i fun i => List.rec (motive := fun _ => List (Nat × Nat × Nat)) ((i,0,0) :: ih [] (Nat.add i 1)) (fun y q _ => Bool.rec (motive := fun _ => List (Nat × Nat × Nat)) ((i,0,0) :: ih q (Nat.add i 1)) (ih q (Nat.add i 1)) (sameR x y)) b) a
theorem newW_nil (i : Nat) : newW [] i = [] := rfl
theorem newW_cons (z : Res) (r : List Res) (i : Nat) : newW (z :: r) i = (i,0,0) :: newW r (i + 1) := by
  show forceN i (fun i => (i,0,0) :: newW r (Nat.add i 1)) = _
  rw [forceN_eq]
theorem diffW_cn (x : Res) (r : List Res) (i : Nat) : diffW (x :: r) [] i = (i,0,0) :: diffW r [] (i + 1) := by
  show forceN i (fun i => (i,0,0) :: diffW r [] (Nat.add i 1)) = _
  rw [forceN_eq]
theorem diffW_cc (x z : Res) (r q : List Res) (i : Nat) : diffW (x :: r) (z :: q) i = if sameR x z = true then diffW r q (i + 1) else (i,0,0) :: diffW r q (i + 1) := by
  show forceN i (fun i => Bool.rec (motive := fun _ => List (Nat × Nat × Nat)) ((i,0,0) :: diffW r q (Nat.add i 1)) (diffW r q (Nat.add i 1)) (sameR x z)) = _
  rw [forceN_eq]
  cases sameR x z <;> rfl
theorem newW_z : ∀ (b : List Res) (i : Nat),∀ y ∈ newW b i,y.2.2 = 0
  | [],i,y,h => by rw [newW_nil] at h; cases h
  | _ :: r,i,y,h => by
    rw [newW_cons] at h
    rcases List.mem_cons.1 h with rfl | h
    · rfl
    · exact newW_z r _ y h
theorem diffW_z : ∀ (a b : List Res) (i : Nat),∀ y ∈ diffW a b i,y.2.2 = 0
  | [],b,i,y,h => newW_z b i y h
  | _ :: r,[],i,y,h => by
    rw [diffW_cn] at h
    rcases List.mem_cons.1 h with rfl | h
    · rfl
    · exact diffW_z r [] _ y h
  | x :: r,z :: q,i,y,h => by
    rw [diffW_cc] at h
    split at h
    · exact diffW_z r q _ y h
    · rcases List.mem_cons.1 h with rfl | h
      · rfl
      · exact diffW_z r q _ y h
theorem newW_at : ∀ (b : List Res) (i j : Nat),(∀ y ∈ newW b i,y.1 ≠ i + j) → none = b[j]?
  | [],_,_,_ => by simp
  | z :: r,i,0,h => by
    rw [newW_cons] at h
    exact absurd rfl (h _ (List.mem_cons_self ..))
  | z :: r,i,j + 1,h => by
    rw [newW_cons] at h
    have := newW_at r (i + 1) j (fun y hy e => h y (List.mem_cons_of_mem _ hy) (by rw [e]; omega))
    simpa using this
theorem diffW_at : ∀ (a b : List Res) (i j : Nat),(∀ y ∈ diffW a b i,y.1 ≠ i + j) → a[j]? = b[j]?
  | [],b,i,j,h => by simpa using newW_at b i j h
  | x :: r,[],i,0,h => by
    rw [diffW_cn] at h
    exact absurd rfl (h _ (List.mem_cons_self ..))
  | x :: r,[],i,j + 1,h => by
    rw [diffW_cn] at h
    have := diffW_at r [] (i + 1) j (fun y hy e => h y (List.mem_cons_of_mem _ hy) (by rw [e]; omega))
    simpa using this
  | x :: r,z :: q,i,0,h => by
    rw [diffW_cc] at h
    split at h
    · rename_i hs; simp [sameR_ok hs]
    · exact absurd rfl (h _ (List.mem_cons_self ..))
  | x :: r,z :: q,i,j + 1,h => by
    rw [diffW_cc] at h
    have := diffW_at r q (i + 1) j (fun y hy e => h y (by split <;> first | exact hy | exact List.mem_cons_of_mem _ hy) (by rw [e]; omega))
    simpa using this
theorem diffW_outs (a b : List Res) : Outs (diffW a b 0) a b := outs_of (fun j h => diffW_at a b 0 j (fun y hy => by rw [Nat.zero_add]; exact h y hy)) (diffW_z a b 0)
inductive CallX where
  | pure (r : SV)
  | some (r : SV) (b : List Res)
  | bad (k g : Nat)
noncomputable def endX (V : Cx) (rs : List ResultVar) (σ : St) : EOut := match XT V σ rs with
  | some l => .ok (tupS l,σ.b)
  | none => .no 1 0
section
variable (V : Cx) (X : EPar V) (ih : EFun → List EItem → St → EOut)
noncomputable def callB (g : FuncId) (args : List SV) (b : List Res) (fn : Func) (how : Nat → List Nat) (c : Code) : Bool → CallX
  | true => match flat.flatL args with
    | true => match ih ⟨fn.ntmps,fn.results.toList,how⟩ [.code c] ⟨Yj 0 args,[]⟩ with
      | .ok (r,_) => match flat r with
        | true => .pure r
        | false => .bad 5 g
      | .no k g' => .bad k (g' * 1000 + g)
    | false => .bad 6 g
  | false => match within.withinL b.length args with
    | true => match ih ⟨fn.ntmps,fn.results.toList,how⟩ [.code c] ⟨Yj 0 args,b⟩ with
      | .ok (r,b') => .some r b'
      | .no k g' => .bad k (g' * 1000 + g)
    | false => .bad 7 g
noncomputable def callF (g : FuncId) (args : List SV) (b : List Res) : Option (Bool × Func × (Nat → List Nat)) → CallX
  | none => .bad 2 g
  | some (pu,fn,how) => match X.prim g args b with
    | some (r,b') => .some r b'
    | none => match fn.body with
      | none => .bad 3 g
      | some c => match Nat.ble (lenB args 0) fn.ntmps with
        | false => .bad 4 g
        | true => callB ih g args b fn how c pu
noncomputable def callX (g : FuncId) (args : List SV) (b : List Res) : CallX := forceSL args fun args => callF V X ih g args b (X.tbl.get g)
noncomputable def nextX (F : EFun) (k : List EItem) (t : List (Nat × SV)) (b : List Res) : EOut := forceT t fun t => ih F k ⟨t,b⟩
noncomputable def putX (F : EFun) (l : List EItem) (t : List (Nat × SV)) (b : List Res) (x : SV) : Option Tmp → EOut
  | some d => ih F l ⟨(d,x) :: t,b⟩
  | none => ih F l ⟨t,b⟩
noncomputable def goC (F : EFun) (ops : Array Oper) (dst : Option Tmp) (r : List Oper) (k : List EItem) (t : List (Nat × SV)) (b : List Res) : CallX → EOut
  | .pure x => forceQ x fun x => putX ih F (.ops ops r :: k) t b x dst
  | .some x b' => forceB b' fun b' => forceQ x fun x => putX ih F (.ops ops r :: k) t b' x dst
  | .bad k g => .no k g
noncomputable def goS (F : EFun) (ops : Array Oper) (dst : Option Tmp) (r : List Oper) (k : List EItem) (t : List (Nat × SV)) (b : List Res) : StepR → EOut
  | .go _ ⟨t',b'⟩ => forceB b' fun b' => nextX ih F (.ops ops r :: k) t' b'
  | .call g args _ _ => goC ih F ops dst r k t b (callX V X ih g args b)
  | .bad => .no 8 0
noncomputable def slowX (F : EFun) (ops : Array Oper) (dst : Option Tmp) (op : Op) (r : List Oper) (k : List EItem) (t : List (Nat × SV)) (b : List Res) : Bool → EOut
  | true => goS V X ih F ops dst r k t b (XR V dst op ⟨t,b⟩)
  | false => .no 9 0
def handB : Op → Bool
  | .move _ => true
  | .assign _ => true
  | .pick _ _ _ => true
  | .extract _ _ => true
  | _ => false
noncomputable def qGo (F : EFun) (l : List EItem) (dst : Option Tmp) (t : List (Nat × SV)) (b : List Res) (x : SV) : Bool → EOut
  | true => forceW x fun x => putX ih F l t b x dst
  | false => forceQ x fun x => putX ih F l t b x dst
noncomputable def stepX (F : EFun) (ops : Array Oper) (dst : Option Tmp) (op : Op) (r : List Oper) (k : List EItem) (t : List (Nat × SV)) (b : List Res) : Option SV → EOut
  | some x => qGo ih F (.ops ops r :: k) dst t b x (handB op)
  | none => slowX V X ih F ops dst op r k t b (okO V op ⟨t,b⟩)
noncomputable def go1D (F : EFun) (ops : Array Oper) (dst : Option Tmp) (r : List Oper) (rs : List Rk) (k : List EItem) (t : List (Nat × SV)) (b b' : List Res) (y : Rk) (x : SV) : EOut := nextX ih F (.dops ops r (rs ++ [y]) :: k) (put dst x t) b'
noncomputable def goCD (F : EFun) (ops : Array Oper) (dst : Option Tmp) (r : List Oper) (rs : List Rk) (k : List EItem) (t : List (Nat × SV)) (b : List Res) : CallX → EOut
  | .pure x => forceQ x fun x => putX ih F (.dops ops r (rs ++ [⟨false,false,[],[]⟩]) :: k) t b x dst
  | .some x b' => forceB b' fun b' => forceQ x fun x => putX ih F (.dops ops r (rs ++ [⟨true,false,[],diffW b' b 0⟩]) :: k) t b' x dst
  | .bad k g => .no k g
noncomputable def goSD (F : EFun) (ops : Array Oper) (dst : Option Tmp) (r : List Oper) (rs : List Rk) (k : List EItem) (t : List (Nat × SV)) (b : List Res) : StepD → EOut
  | .val _ ⟨x,none,all,rd,wr⟩ => go1D ih F ops dst r rs k t b b ⟨false,all,rd,wr⟩ x
  | .val _ ⟨x,some b',all,rd,wr⟩ => forceB b' fun b' => go1D ih F ops dst r rs k t b b' ⟨true,all,rd,wr⟩ x
  | .call g args => goCD ih F ops dst r rs k t b (callX V X ih g args b)
  | .bad => .no 10 0
noncomputable def slowXD (F : EFun) (ops : Array Oper) (dst : Option Tmp) (op : Op) (r : List Oper) (rs : List Rk) (k : List EItem) (t : List (Nat × SV)) (b : List Res) : Bool → EOut
  | true => goSD V X ih F ops dst r rs k t b (XV V op ⟨t,b⟩)
  | false => .no 11 0
noncomputable def stepXD (F : EFun) (ops : Array Oper) (dst : Option Tmp) (op : Op) (r : List Oper) (rs : List Rk) (k : List EItem) (t : List (Nat × SV)) (b : List Res) : Option SV → EOut
  | some x => qGo ih F (.dops ops r (rs ++ [⟨false,false,[],[]⟩]) :: k) dst t b x (handB op)
  | none => slowXD V X ih F ops dst op r rs k t b (okO V op ⟨t,b⟩)
noncomputable def doX (F : EFun) (ops : Array Oper) (dst : Option Tmp) (op : Op) (r : List Oper) (k : List EItem) (t : List (Nat × SV)) (b : List Res) : Bool → EOut
  | true => stepX V X ih F ops dst op r k t b (qOp V.Γ t op)
  | false => .no 12 0
noncomputable def doXD (F : EFun) (ops : Array Oper) (dst : Option Tmp) (op : Op) (r : List Oper) (rs : List Rk) (k : List EItem) (t : List (Nat × SV)) (b : List Res) : Bool → EOut
  | true => stepXD V X ih F ops dst op r rs k t b (qOp V.Γ t op)
  | false => .no 12 0
noncomputable def skipX (F : EFun) (ops : Array Oper) (r : List Oper) (k : List EItem) (t : List (Nat × SV)) (b : List Res) : Bool → EOut
  | true => ih F (.ops ops r :: k) ⟨t,b⟩
  | false => .no 13 0
noncomputable def skipXD (F : EFun) (ops : Array Oper) (r : List Oper) (rs : List Rk) (k : List EItem) (t : List (Nat × SV)) (b : List Res) : Bool → EOut
  | true => ih F (.dops ops r (rs ++ [⟨false,false,[],[]⟩]) :: k) ⟨t,b⟩
  | false => .no 13 0
noncomputable def grdW (F : EFun) (ops : Array Oper) (dst : Option Tmp) (op : Op) (r : List Oper) (k : List EItem) (want : Bool) (d : Nat) (t : List (Nat × SV)) (b : List Res) : Bool → EOut
  | true => doX V X ih F ops dst op r k ((d,.bool want) :: t) b (fits F.n dst && fits F.n (some d))
  | false => skipX ih F ops r k (put dst (.v undef) ((d,.bool (!want)) :: t)) b (fits F.n dst && fits F.n (some d))
noncomputable def grdX (F : EFun) (ops : Array Oper) (dst : Option Tmp) (op : Op) (r : List Oper) (k : List EItem) (want : Bool) (t : List (Nat × SV)) (b : List Res) (g : Option Tmp) : Option (Nat × Bool) → EOut
  | some (d,x) => grdW V X ih F ops dst op r k want d t b (x == want)
  | none => skipX ih F ops r k (put dst (.v undef) t) b (fits F.n dst && gvU t g)
noncomputable def grdWD (F : EFun) (ops : Array Oper) (dst : Option Tmp) (op : Op) (r : List Oper) (rs : List Rk) (k : List EItem) (want : Bool) (d : Nat) (t : List (Nat × SV)) (b : List Res) : Bool → EOut
  | true => doXD V X ih F ops dst op r rs k ((d,.bool want) :: t) b (fits F.n dst && fits F.n (some d))
  | false => skipXD ih F ops r rs k (put dst (.v undef) ((d,.bool (!want)) :: t)) b (fits F.n dst && fits F.n (some d))
noncomputable def grdXD (F : EFun) (ops : Array Oper) (dst : Option Tmp) (op : Op) (r : List Oper) (rs : List Rk) (k : List EItem) (want : Bool) (t : List (Nat × SV)) (b : List Res) (g : Option Tmp) : Option (Nat × Bool) → EOut
  | some (d,x) => grdWD V X ih F ops dst op r rs k want d t b (x == want)
  | none => skipXD ih F ops r rs k (put dst (.v undef) t) b (fits F.n dst && gvU t g)
noncomputable def qGuard (t : List (Nat × SV)) : Option Tmp → Option (Nat × Bool)
  | some d => match lkB d t with
    | some (.bool b) => some (d,b)
    | _ => none
  | none => none
theorem qGuard_eq (t : List (Nat × SV)) (o : Option Tmp) : qGuard t o = Yk t o := by
  cases o with
  | none => rfl
  | some d => simp only [qGuard,Yk,lkB_eq]; split <;> simp_all
noncomputable def operX (F : EFun) (ops : Array Oper) (r : List Oper) (k : List EItem) (t : List (Nat × SV)) (b : List Res) : Oper → EOut
  | ⟨dst,op,_,_,_,none⟩ => doX V X ih F ops dst op r k t b (fits F.n dst)
  | ⟨dst,op,_,_,_,some (j,want)⟩ => grdX V X ih F ops dst op r k want t b (gdst ops.toList j) (qGuard t (gdst ops.toList j))
noncomputable def operXD (F : EFun) (ops : Array Oper) (r : List Oper) (rs : List Rk) (k : List EItem) (t : List (Nat × SV)) (b : List Res) : Oper → EOut
  | ⟨dst,op,_,_,_,none⟩ => doXD V X ih F ops dst op r rs k t b (fits F.n dst)
  | ⟨dst,op,_,_,_,some (j,want)⟩ => grdXD V X ih F ops dst op r rs k want t b (gdst ops.toList j) (qGuard t (gdst ops.toList j))
noncomputable def opsX (F : EFun) (ops : Array Oper) (k : List EItem) (t : List (Nat × SV)) (b : List Res) : List Oper → EOut
  | [] => ih F k ⟨t,b⟩
  | o :: r => operX V X ih F ops r k t b o
noncomputable def dendX (F : EFun) (k : List EItem) (t : List (Nat × SV)) (b : List Res) : Bool → EOut
  | true => ih F k ⟨t,b⟩
  | false => .no 14 0
noncomputable def dopsX (F : EFun) (ops : Array Oper) (rs : List Rk) (k : List EItem) (t : List (Nat × SV)) (b : List Res) : List Oper → EOut
  | [] => dendX ih F k t b (okF ops rs)
  | o :: r => operXD V X ih F ops r rs k t b o
noncomputable def condX (F : EFun) (x y : Code) (k : List EItem) (t : List (Nat × SV)) (b : List Res) : Option SV → EOut
  | some (.bool true) => ih F (.code x :: k) ⟨t,b⟩
  | some (.bool false) => ih F (.code y :: k) ⟨t,b⟩
  | _ => .no 15 0
noncomputable def permX (F : EFun) (ops : Array Oper) (p : List Nat) (k : List EItem) (t : List (Nat × SV)) (b : List Res) : Bool → EOut
  | true => ih F (.dops (permD ops p) (permD ops p).toList [] :: k) ⟨t,b⟩
  | false => .no 16 0
noncomputable def drawX (F : EFun) (ops : Array Oper) (k : List EItem) (t : List (Nat × SV)) (b : List Res) : List Nat → EOut
  | [] => ih F (.dops ops ops.toList [] :: k) ⟨t,b⟩
  | x :: p => permX ih F ops (x :: p) k t b (permBb ops (x :: p))
noncomputable def regX (F : EFun) (id : Nat) (ops : Array Oper) (k : List EItem) (t : List (Nat × SV)) (b : List Res) : Bool → EOut
  | false => ih F (.ops ops ops.toList :: k) ⟨t,b⟩
  | true => drawX ih F ops k t b (F.how id)
noncomputable def exitO (F : EFun) (t : List (Nat × SV)) (b : List Res) : Option (List EItem) → EOut
  | some k => ih F k ⟨t,b⟩
  | none => .no 17 0
noncomputable def codeX (F : EFun) (k : List EItem) (t : List (Nat × SV)) (b : List Res) : Code → EOut
  | .skip => ih F k ⟨t,b⟩
  | .region id ops dr => regX ih F id ops k t b dr
  | .seq x y => ih F (.code x :: .code y :: k) ⟨t,b⟩
  | .cond c x y => condX ih F x y k t b (evB t c)
  | .block id x => ih F (.code x :: .endb id :: k) ⟨t,b⟩
  | .loop x => ih F (.code x :: .endx x :: k) ⟨t,b⟩
  | .exit id => exitO ih F t b (exitX id k)
  | .ret => endX V F.rs ⟨t,b⟩
  | _ => .no 18 0
noncomputable def itemX (F : EFun) (k : List EItem) (t : List (Nat × SV)) (b : List Res) : EItem → EOut
  | .code c => codeX V ih F k t b c
  | .ops ops l => opsX V X ih F ops k t b l
  | .dops ops l rs => dopsX V X ih F ops rs k t b l
  | .endb _ => ih F k ⟨t,b⟩
  | .endx x => ddM t 0 fun t => ih F (.code (.loop x) :: k) ⟨t,b⟩
noncomputable def listX (F : EFun) (t : List (Nat × SV)) (b : List Res) : List EItem → EOut
  | [] => endX V F.rs ⟨t,b⟩
  | i :: k => itemX V X ih F k t b i
noncomputable def exB (F : EFun) (l : List EItem) (σ : St) : EOut := match σ with
  | ⟨t,b⟩ => listX V X ih F t b l
end
noncomputable def ex (V : Cx) (X : EPar V) (f : Nat) : EFun → List EItem → St → EOut := Nat.rec (motive := fun _ => EFun → List EItem → St → EOut) (fun _ _ _ => .no 19 0) (fun _ ih => exB V X ih) f
noncomputable def exC (V : Cx) (X : EPar V) (f : Nat) (g : FuncId) (args : List SV) (b : List Res) : CallX := callX V X (ex V X f) g args b
end Vc
/- The executable reckoning is sound: what it gives is what the calls give. -/
set_option linter.all false
namespace Vc
open Go Go.RowKit Wf
def EqT (t t' : List (Nat × SV)) : Prop := ∀ d,lk d t = lk d t'
theorem EqT.refl (t : List (Nat × SV)) : EqT t t := fun _ => rfl
theorem EqT.symm {t t' : List (Nat × SV)} (h : EqT t t') : EqT t' t := fun d => (h d).symm
theorem EqT.trans {a b c : List (Nat × SV)} (h : EqT a b) (k : EqT b c) : EqT a c := fun d => (h d).trans (k d)
theorem EqT.cons {t t' : List (Nat × SV)} (h : EqT t t') (d : Nat) (x : SV) : EqT ((d,x) :: t) ((d,x) :: t') := fun e => by
  simp only [lk]; split
  · rfl
  · exact h e
theorem EqT.put {t t' : List (Nat × SV)} (h : EqT t t') (dst : Option Tmp) (x : SV) : EqT (put dst x t) (put dst x t') := by
  cases dst with
  | none => exact h
  | some d => exact h.cons d x
theorem EqT.ev {t t' : List (Nat × SV)} (h : EqT t t') : ev t = ev t' := by
  funext o
  cases o <;> simp only [Vc.ev]
  exact h _
theorem seenB_eq (m d : Nat) : seenB m d = m.testBit d := by
  unfold seenB
  show Nat.beq 1 (1 &&& (m >>> d)) = _
  rw [Nat.testBit]
  rw [Bool.eq_iff_iff,Nat.beq_eq]
  have : 1 &&& (m >>> d) = (m >>> d) % 2 := by rw [Nat.and_comm]; exact Nat.and_one_is_mod _
  rw [this]
  simp [Nat.and_comm]
  omega
theorem ddP_lk (e : Nat) : ∀ (t : List (Nat × SV)) (m : Nat),lk e (ddP t m) = if m.testBit e then none else lk e t
  | [],m => by simp [ddP,lk]
  | (d,x) :: r,m => by
    rw [ddP,lk]
    split
    · rename_i hs
      rw [seenB_eq] at hs
      rw [ddP_lk e r m]
      by_cases h : e = d
      · subst h; rw [hs]; rfl
      · rw [if_neg h]
    · rename_i hs
      rw [seenB_eq] at hs
      rw [lk,ddP_lk e r]
      have hb : (Nat.lor m (Nat.shiftLeft 1 d)).testBit e = (m.testBit e || decide (e = d)) := by
        show (m ||| (1 <<< d)).testBit e = _
        rw [Nat.testBit_or,Nat.testBit_shiftLeft]
        by_cases h : e = d
        · subst h; simp
        · by_cases h2 : d ≤ e
          · obtain ⟨k,hk⟩ : ∃ k,e - d = k + 1 := ⟨e - d - 1,by omega⟩
            have : Nat.testBit 1 (e - d) = false := by rw [hk,Nat.testBit_succ]; simp
            simp [h,h2,this]
          · simp [h,h2]
      rw [hb]
      by_cases h : e = d
      · subst h; rw [if_pos rfl,if_pos rfl]
        have : m.testBit e = false := by simpa using hs
        rw [this]; rfl
      · rw [if_neg h,if_neg h]; simp [h]
theorem ddP_eq (t : List (Nat × SV)) : EqT (ddP t 0) t := fun d => by rw [ddP_lk]; simp
section
variable {V : Cx} {t t' : List (Nat × SV)}
theorem xoptE_congr (h : EqT t t') (o : Option Operand) : optE t o = optE t' o := by cases o <;> simp only [optE,h.ev]
theorem xevs_congr (h : EqT t t') (l : List Operand) : evs t l = evs t' l := by unfold evs; rw [h.ev]
theorem xevParts_congr (h : EqT t t') : ∀ l : List (Nat × Operand),Xl t l = Xl t' l
  | [] => rfl
  | (i,o) :: r => by simp only [Xl,h.ev,xevParts_congr h r]
theorem xpv_congr {Γ : TypeId → Option TI} (h : EqT t t') (op : Op) : pv Γ t op = pv Γ t' op := by
  unfold pv
  split <;> simp only [XX,Ya,Xb,Xu,oBin,oUn,Ye,Xw,Xx,Xh,oLen,Yh,Xk,XS,oIface,oAssert,xoptE_congr h,xevs_congr h,xevParts_congr h,h.ev]
inductive AlikeN (dst : Option Tmp) (t t' : List (Nat × SV)) : Option (Prop × St) → Option (Prop × St) → Prop
  | none : AlikeN dst t t' none none
  | some (c : Prop) (x : SV) (b : List Res) : AlikeN dst t t' (some (c,⟨put dst x t,b⟩)) (some (c,⟨put dst x t',b⟩))
theorem xstepN_congr (h : EqT t t') (dst : Option Tmp) (op : Op) (b : List Res) : AlikeN dst t t' (Yl V dst op ⟨t,b⟩) (Yl V dst op ⟨t',b⟩) := by
  unfold Yl
  split
  · simp only [Xm,h.ev]
    (repeat' split) <;> first | exact .none | exact .some _ _ _
  · simp only [Xq,h.ev]
    (repeat' split) <;> first | exact .none | skip
    rename_i x hx y hy
    cases mmS true _ _ <;> first | exact .none | exact .some _ _ _
  · simp only [Xq,h.ev]
    (repeat' split) <;> first | exact .none | skip
    rename_i x hx y hy
    cases mmS false _ _ <;> first | exact .none | exact .some _ _ _
  · simp only [Yn,h.ev]
    (repeat' split) <;> first | exact .none | exact .some _ _ _
  · simp only [Xa,xevParts_congr h]
    (repeat' split) <;> first | exact .none | exact .some _ _ _
  · simp only [Xc,h.ev]
    (repeat' split) <;> first | exact .none | exact .some _ _ _
  · simp only [Xj,h.ev,xoptE_congr h]
    (repeat' split) <;> first | exact .none | exact .some _ _ _
  · simp only [nCap,h.ev]
    (repeat' split) <;> first | exact .none | exact .some _ _ _
  · simp only [Yb,h.ev]
    (repeat' split) <;> first | exact .none | exact .some _ _ _
  · exact .none
inductive AlikeR (dst : Option Tmp) (t t' : List (Nat × SV)) (b : List Res) : StepR → StepR → Prop
  | bad : AlikeR dst t t' b .bad .bad
  | go (c : Prop) (x : SV) (b' : List Res) : AlikeR dst t t' b (.go c ⟨put dst x t,b'⟩) (.go c ⟨put dst x t',b'⟩)
  | call (f : FuncId) (args : List SV) : AlikeR dst t t' b (.call f args dst ⟨t,b⟩) (.call f args dst ⟨t',b⟩)
theorem xstepM_congr (h : EqT t t') (dst : Option Tmp) (op : Op) (b : List Res) : AlikeR dst t t' b (Yd V dst op ⟨t,b⟩) (Yd V dst op ⟨t',b⟩) := by
  unfold Yd
  split
  · simp only [XC]
    (repeat' split) <;> first | exact .bad | exact .go _ _ _
  · simp only [sBox,h.ev]
    (repeat' split) <;> first | exact .bad | exact .go _ _ _
  · simp only [XU,h.ev]
    (repeat' split) <;> first | exact .bad | exact .go _ _ _
  · simp only [XH,h.ev]
    (repeat' split) <;> first | exact .bad | exact .go _ _ _
  · simp only [Xr,xevParts_congr h]
    (repeat' split) <;> first | exact .bad | exact .go _ _ _
  · simp only [sNil,h.ev]
    (repeat' split) <;> first | exact .bad | exact .go _ _ _
  · simp only [XL,h.ev,xevs_congr h]
    (repeat' split) <;> first | exact .bad | exact .call _ _
  · simp only [sInvoke,h.ev,xevs_congr h]
    (repeat' split) <;> first | exact .bad | exact .call _ _
  · simp only [sRange,h.ev]
    (repeat' split) <;> first | exact .bad | exact .go _ _ _
  · simp only [sNext,h.ev]
    (repeat' split) <;> first | exact .bad | (unfold nextV; (repeat' split) <;> exact .go _ _ _)
  · exact .bad
theorem xstepO_congr (h : EqT t t') (dst : Option Tmp) (op : Op) (b : List Res) : AlikeR dst t t' b (XR V dst op ⟨t,b⟩) (XR V dst op ⟨t',b⟩) := by
  unfold XR
  simp only [xpv_congr h]
  cases hp : pv V.Γ t' op with
  | some p => obtain ⟨c,x⟩ := p; exact .go _ _ _
  | none =>
    simp only [goR]
    have h2 := xstepN_congr (V := V) h dst op b
    generalize Yl V dst op ⟨t,b⟩ = A at h2
    generalize Yl V dst op ⟨t',b⟩ = B at h2
    cases h2 with
    | none => exact xstepM_congr h dst op b
    | some c x b' => exact .go _ _ _
theorem xstepDM_congr (h : EqT t t') (op : Op) (b : List Res) : Xv V op ⟨t,b⟩ = Xv V op ⟨t',b⟩ := by
  unfold Xv
  split <;> simp only [XD,dBox,XI,XF,XB,dNil,XK,xevParts_congr h,xevs_congr h,h.ev]
theorem xstepD_congr (h : EqT t t') (op : Op) (b : List Res) : XV V op ⟨t,b⟩ = XV V op ⟨t',b⟩ := by
  unfold XV
  simp only [xpv_congr h,xstepDM_congr h]
  cases hp : pv V.Γ t' op with
  | some p => obtain ⟨c,x⟩ := p; rfl
  | none =>
    simp only [goD]
    have h2 := xstepN_congr (V := V) h (some 0) op b
    generalize Yl V (some 0) op ⟨t,b⟩ = A at h2
    generalize Yl V (some 0) op ⟨t',b⟩ = B at h2
    cases h2 with
    | none => rfl
    | some c x b' => simp only [dN,put,h.ev]
theorem xresS_congr (h : EqT t t') (b : List Res) (r : ResultVar) : resS V ⟨t,b⟩ r = resS V ⟨t',b⟩ r := by
  cases r <;> simp only [resS,h _]
theorem xressS_congr (h : EqT t t') (b : List Res) : ∀ rs : List ResultVar,XT V ⟨t,b⟩ rs = XT V ⟨t',b⟩ rs
  | [] => rfl
  | r :: rs => by simp only [XT,xresS_congr h,xressS_congr h b rs]
theorem xgvalD_congr (h : EqT t t') (o : Option Tmp) : Yk t o = Yk t' o := by
  cases o <;> simp only [Yk,h _]
theorem xgvU_congr (h : EqT t t') (o : Option Tmp) : gvU t o = gvU t' o := by
  cases o <;> simp only [gvU,h _]
end
inductive ItR (V : Cx) (X : EPar V) (F : EFun) (out : SV × List Res) (N : Nat) : List EItem → List Item → Prop
  | nil : ItR V X F out N [] []
  | code {k k'} (c : Code) : ItR V X F out N k k' → ItR V X F out N (.code c :: k) (.code c :: k')
  | ops {k k'} (ops : Array Oper) (l : List Oper) : ItR V X F out N k k' → ItR V X F out N (.ops ops l :: k) (.ops ops l :: k')
  | dops {k k'} (ops : Array Oper) (l : List Oper) (rs : List Rk) : ItR V X F out N k k' → ItR V X F out N (.dops ops l rs :: k) (.dops ops l rs :: k')
  | endb {k k'} (id : Nat) : ItR V X F out N k k' → ItR V X F out N (.endb id :: k) (.endb id :: k')
  | endx {k k'} (x : Code) (I : St → Prop) (μ : St → Nat) (m : Nat) : ItR V X F out N k k' → N ≤ m → (∀ i,i < m → ∀ tX σ,EqT tX σ.t → ex V X i F (.code (.loop x) :: k) ⟨tX,σ.b⟩ = .ok out → I σ ∧ μ σ < m) → ItR V X F out N (.endx x :: k) (.endl I μ m :: k')
theorem ItR.mono {V : Cx} {X : EPar V} {F : EFun} {out : SV × List Res} {N M : Nat} (hM : M ≤ N) {l : List EItem} {l' : List Item} (h : ItR V X F out N l l') : ItR V X F out M l l' := by
  induction h with
  | nil => exact .nil
  | code c _ ih => exact .code c ih
  | ops o l _ ih => exact .ops o l ih
  | dops o l rs _ ih => exact .dops o l rs ih
  | endb id _ ih => exact .endb id ih
  | endx x I μ m _ h1 h2 ih => exact .endx x I μ m ih (Nat.le_trans hM h1) h2
theorem exit_rel {V : Cx} {X : EPar V} {F : EFun} {out : SV × List Res} {N : Nat} {id : Nat} {l : List EItem} {l' : List Item} (h : ItR V X F out N l l') : ∀ {k},exitX id l = some k → ∃ k',XE id l' = some k' ∧ ItR V X F out N k k' := by
  induction h with
  | nil => intro k hk; cases hk
  | code c _ ih => intro k hk; simp only [exitX] at hk; simp only [XE]; exact ih hk
  | ops o l _ ih => intro k hk; simp only [exitX] at hk; simp only [XE]; exact ih hk
  | dops o l rs _ ih => intro k hk; simp only [exitX] at hk; simp only [XE]; exact ih hk
  | endb id' h ih =>
    intro k hk
    simp only [exitX] at hk
    simp only [XE]
    split at hk
    · rename_i e; cases hk; rw [if_pos e]; exact ⟨_,rfl,h⟩
    · rename_i e; rw [if_neg e]; exact ih hk
  | endx x I μ m _ _ _ ih => intro k hk; simp only [exitX] at hk; simp only [XE]; exact ih hk
section
variable {V : Cx} {X : EPar V}
def CallOk (V : Cx) (g : FuncId) (args : List SV) (b : List Res) : CallX → Prop
  | .pure r => PC V g args r
  | .some r b' => SC V g args b (fun r' b2 => r' = r ∧ b2 = b')
  | .bad _ _ => True
def finE (F : EFun) (out : SV × List Res) : Fin := ⟨F.rs,fun r b => r = out.1 ∧ b = out.2,fun id => .ord (F.how id),false⟩
def RunOk (V : Cx) (X : EPar V) (j : Nat) : Prop := ∀ (F : EFun) (out : SV × List Res) (m : Nat) (l : List EItem) (l' : List Item) (tX : List (Nat × SV)) (σ : St),j ≤ m → ItR V X F out j l l' → EqT tX σ.t → ex V X j F l ⟨tX,σ.b⟩ = .ok out → vcS V F.n (finE F out) m l' σ
theorem putX_eq (ih : EFun → List EItem → St → EOut) (F : EFun) (l : List EItem) (t : List (Nat × SV)) (b : List Res) (x : SV) (dst : Option Tmp) : putX ih F l t b x dst = ih F l ⟨put dst x t,b⟩ := by cases dst <;> rfl
theorem call_ok {j : Nat} (hent : X.tbl.ok V) (hprim : ∀ g args b r b',X.prim g args b = some (r,b') → SC V g args b (fun r' b2 => r' = r ∧ b2 = b')) (H : RunOk V X j) (g : FuncId) (args : List SV) (b : List Res) : CallOk V g args b (callX V X (ex V X j) g args b) := by
  have body : ∀ (fn : Func) (how : Nat → List Nat) (c : Code) (b : List Res) (r : SV) (b' : List Res),Enters V g → V.P.funcs[g]? = some fn → fn.body = some c → args.length ≤ fn.ntmps → (∀ β β',Agr b.length β β' → concL β args = concL β' args) → ex V X j ⟨fn.ntmps,fn.results.toList,how⟩ [.code c] ⟨Yj 0 args,b⟩ = .ok (r,b') → SC V g args b (fun r' b2 => r' = r ∧ b2 = b') := fun fn how c b r b' he hf hb hl hw hx =>
    sc_ofP (fun id => .ord (how id)) j hf hb rfl rfl he hl hw (H ⟨fn.ntmps,fn.results.toList,how⟩ (r,b') j [.code c] [.code c] (Yj 0 args) ⟨Yj 0 args,b⟩ (Nat.le_refl _) (.code c .nil) (EqT.refl _) hx)
  unfold callX
  rw [forceSL_eq]
  unfold callF
  split
  · trivial
  rename_i pu fn how hg
  obtain ⟨hf,he⟩ := FT.get_ok hent hg
  split
  · rename_i r b' hp
    exact hprim _ _ _ _ _ hp
  split
  · trivial
  rename_i c hb
  split
  · trivial
  rename_i hl
  rw [lenB_eq,Nat.zero_add] at hl
  have hl := Nat.le_of_ble_eq_true hl
  unfold callB
  split
  · split
    · rename_i fa
      split
      · rename_i r b1 hx
        have h0 := body fn how c [] r b1 he hf hb hl (fun β β' _ => concL_flat args fa β β') hx
        split
        · rename_i fr
          exact pc_of_sc fa fr (h0.mono fun r' b2 h => h.1)
        · trivial
      · trivial
    · trivial
  · split
    · rename_i hw
      split
      · rename_i r b' hx
        exact body fn how c b r b' he hf hb hl (fun β β' hag => concL_within _ _ hw β β' hag) hx
      · trivial
    · trivial
section
variable {j m : Nat} {F : EFun} {out : SV × List Res} (hent : X.tbl.ok V) (hprim : ∀ g args b r b',X.prim g args b = some (r,b') → SC V g args b (fun r' b2 => r' = r ∧ b2 = b')) (H : RunOk V X j) (hjm : j ≤ m)
include hent hprim H hjm
theorem do_ok {ops : Array Oper} {dst : Option Tmp} {op : Op} {r : List Oper} {k : List EItem} {k' : List Item} {tX : List (Nat × SV)} {σ : St} {c : Bool} (hI : ItR V X F out j k k') (hT : EqT tX σ.t) (h : doX V X (ex V X j) F ops dst op r k tX σ.b c = .ok out) : c = true ∧ Yc V F.n (finE F out) m ops r k' (XR V dst op σ) := by
  cases c
  · cases h
  refine ⟨rfl,?_⟩
  have IH : ∀ (t : List (Nat × SV)) (t' : List (Nat × SV)) (b : List Res),EqT t t' → ex V X j F (.ops ops r :: k) ⟨t,b⟩ = .ok out → vcS V F.n (finE F out) m (.ops ops r :: k') ⟨t',b⟩ := fun t t' b ht hx => H F out m _ _ t ⟨t',b⟩ hjm (.ops ops r hI) ht hx
  obtain ⟨t,b⟩ := σ
  simp only at hT h
  simp only [doX] at h
  cases hq : qOp V.Γ tX op with
  | some x =>
    rw [hq] at h
    obtain ⟨c,hp,hc⟩ := qOp_ok hq
    rw [xpv_congr hT] at hp
    have h2 : ex V X j F (.ops ops r :: k) ⟨put dst x tX,b⟩ = .ok out := by
      simp only [stepX] at h
      cases hh : handB op <;> rw [hh] at h <;> simp only [qGo,forceQ_eq,forceW_eq] at h <;> cases dst <;> exact h
    simp only [XR,hp,goR,Yc]
    exact ⟨hc,IH _ _ _ (hT.put dst x) h2⟩
  | none =>
    rw [hq] at h
    simp only [stepX] at h
    cases ho : okO V op ⟨tX,b⟩
    · rw [ho] at h; cases h
    rw [ho] at h
    simp only [slowX] at h
    have hs := xstepO_congr (V := V) hT dst op b
    generalize hA : XR V dst op ⟨tX,b⟩ = A at hs h
    generalize XR V dst op ⟨t,b⟩ = B at hs ⊢
    cases hs with
    | bad => cases h
    | go c x b' =>
      simp only [goS,forceB_eq,nextX,forceT_eq] at h
      simp only [Yc]
      exact ⟨stepO_c hA ho,IH _ _ _ (hT.put dst x) h⟩
    | call g args =>
      simp only [goS] at h
      have hc := call_ok hent hprim H g args b
      cases hx : callX V X (ex V X j) g args b with
      | pure x =>
        rw [hx] at h hc
        simp only [goC,forceQ_eq,putX_eq] at h
        simp only [Yc,callV]
        exact .inl ⟨x,hc,IH _ _ _ (hT.put dst x) h⟩
      | some x b' =>
        rw [hx] at h hc
        simp only [goC,forceQ_eq,putX_eq,forceB_eq] at h
        simp only [Yc,callV]
        refine .inr ⟨_,hc,fun _ => ⟨_,_,⟨rfl,rfl⟩,hc⟩,?_⟩
        rintro x2 b2 ⟨rfl,rfl⟩
        exact IH _ _ _ (hT.put dst _) h
      | bad _ _ => rw [hx] at h; cases h
theorem doD_ok {ops : Array Oper} {dst : Option Tmp} {op : Op} {r : List Oper} {rs : List Rk} {k : List EItem} {k' : List Item} {tX : List (Nat × SV)} {σ : St} {c : Bool} (hI : ItR V X F out j k k') (hT : EqT tX σ.t) (h : doXD V X (ex V X j) F ops dst op r rs k tX σ.b c = .ok out) : c = true ∧ Yg V F.n (finE F out) m ops r rs k' dst σ (XV V op σ) := by
  cases c
  · cases h
  refine ⟨rfl,?_⟩
  have IH : ∀ (y : Rk) (t : List (Nat × SV)) (t' : List (Nat × SV)) (b : List Res),EqT t t' → ex V X j F (.dops ops r (rs ++ [y]) :: k) ⟨t,b⟩ = .ok out → vcS V F.n (finE F out) m (.dops ops r (rs ++ [y]) :: k') ⟨t',b⟩ := fun y t t' b ht hx => H F out m _ _ t ⟨t',b⟩ hjm (.dops ops r _ hI) ht hx
  obtain ⟨t,b⟩ := σ
  simp only at hT h
  simp only [doXD] at h
  cases hq : qOp V.Γ tX op with
  | some x =>
    rw [hq] at h
    obtain ⟨c,hp,hc⟩ := qOp_ok hq
    rw [xpv_congr hT] at hp
    have h2 : ex V X j F (.dops ops r (rs ++ [⟨false,false,[],[]⟩]) :: k) ⟨put dst x tX,b⟩ = .ok out := by
      simp only [stepXD] at h
      cases hh : handB op <;> rw [hh] at h <;> simp only [qGo,forceQ_eq,forceW_eq] at h <;> cases dst <;> exact h
    simp only [XV,hp,goD,valD,Yg]
    exact ⟨hc,IH _ _ _ _ (hT.put dst x) h2⟩
  | none =>
    rw [hq] at h
    simp only [stepXD] at h
    cases ho : okO V op ⟨tX,b⟩
    · rw [ho] at h; cases h
    rw [ho] at h
    simp only [slowXD] at h
    rw [← xstepD_congr (V := V) hT op b]
    cases hA : XV V op ⟨tX,b⟩ with
    | bad => rw [hA] at h; cases h
    | val c r' =>
      rw [hA] at h
      have hc := stepD_c hA ho
      obtain ⟨x,nb,all,rd,wr⟩ := r'
      cases nb with
      | none =>
        simp only [goSD,go1D,nextX,forceT_eq] at h
        simp only [Yg]
        exact ⟨hc,IH _ _ _ _ (hT.put dst x) h⟩
      | some b' =>
        simp only [goSD,go1D,nextX,forceT_eq,forceB_eq] at h
        simp only [Yg]
        exact ⟨hc,IH _ _ _ _ (hT.put dst x) h⟩
    | call g args =>
      rw [hA] at h
      simp only [goSD] at h
      have hc := call_ok hent hprim H g args b
      cases hx : callX V X (ex V X j) g args b with
      | pure x =>
        rw [hx] at h hc
        simp only [goCD,forceQ_eq,putX_eq] at h
        simp only [Yg,callD]
        exact .inl ⟨x,hc,IH _ _ _ _ (hT.put dst x) h⟩
      | some x b' =>
        rw [hx] at h hc
        simp only [goCD,forceQ_eq,putX_eq,forceB_eq] at h
        simp only [Yg,callD]
        exact .inr (.inr ⟨x,b',_,hc,diffW_outs b' b,IH _ _ _ _ (hT.put dst x) h⟩)
      | bad _ _ => rw [hx] at h; cases h
end
theorem run_ok (hent : X.tbl.ok V) (hprim : ∀ g args b r b',X.prim g args b = some (r,b') → SC V g args b (fun r' b2 => r' = r ∧ b2 = b')) : ∀ i,RunOk V X i := by
  intro i
  induction i using Nat.strongRecOn with
  | _ i ih =>
  intro F out m l l' tX σ him hI hT h
  cases i with
  | zero => cases h
  | succ j =>
  cases m with
  | zero => exact absurd him (by omega)
  | succ m =>
  have hjm : j ≤ m := by omega
  have H := ih j (by omega)
  obtain ⟨t,b⟩ := σ
  simp only at hT h
  have h : listX V X (ex V X j) F tX b l = .ok out := h
  have go : ∀ (l : List EItem) (l' : List Item) (tX t : List (Nat × SV)) (b : List Res),ItR V X F out j l l' → EqT tX t → ex V X j F l ⟨tX,b⟩ = .ok out → vcS V F.n (finE F out) m l' ⟨t,b⟩ := fun l l' tX t b h1 h2 h3 => H F out m l l' tX ⟨t,b⟩ hjm h1 h2 h3
  have fin : endX V F.rs ⟨tX,b⟩ = .ok out → endV V (finE F out) ⟨t,b⟩ (XT V ⟨t,b⟩ F.rs) := fun h => by
    unfold endX at h
    rw [xressS_congr hT] at h
    cases hr : XT V ⟨t,b⟩ F.rs with
    | none => rw [hr] at h; cases h
    | some l => rw [hr] at h; cases h; exact ⟨rfl,rfl⟩
  cases hI with
  | nil => simp only [vcS]; exact fin h
  | endb id hk => simp only [vcS]; exact go _ _ _ _ _ (hk.mono (by omega)) hT h
  | endx x I μ m' hk hm hi =>
    simp only [listX,itemX,ddM_eq] at h
    simp only [vcS]
    exact hi j (by omega) _ ⟨t,b⟩ ((ddP_eq tX).trans hT) h
  | ops ops l hk =>
    have hk := hk.mono (Nat.le_succ j)
    cases l with
    | nil => simp only [vcS]; exact go _ _ _ _ _ hk hT h
    | cons o r =>
      obtain ⟨dst,op,i1,i2,i3,g⟩ := o
      cases g with
      | none => simp only [vcS]; exact do_ok hent hprim H hjm (σ := ⟨t,b⟩) hk hT h
      | some g =>
        obtain ⟨q,want⟩ := g
        simp only [listX,itemX,opsX,operX] at h
        rw [qGuard_eq,xgvalD_congr hT] at h
        simp only [vcS]
        generalize gdst ops.toList q = gd at h ⊢
        cases hg : Yk t gd with
        | none =>
          rw [hg] at h
          simp only [grdX,skipX] at h
          rw [xgvU_congr hT] at h
          cases hf : fits F.n dst <;> cases hu : gvU t gd <;> rw [hf,hu] at h <;> try (cases h; done)
          simp only [XA]
          exact ⟨trivial,go _ _ _ _ _ (.ops _ _ hk) (hT.put _ _) h⟩
        | some p =>
          obtain ⟨d,x⟩ := p
          rw [hg] at h
          simp only [grdX] at h
          simp only [XA]
          cases hx : x == want
          · rw [hx] at h
            simp only [grdW] at h
            cases hf : fits F.n dst <;> cases hu : fits F.n (some d) <;> rw [hf,hu] at h <;> try (cases h; done)
            refine ⟨rfl,rfl,fun e => ?_,fun e => go _ _ _ _ _ (.ops _ _ hk) ((hT.cons _ _).put _ _) h⟩
            subst e; simp at hx
          · rw [hx] at h
            simp only [grdW] at h
            obtain ⟨h1,h2⟩ := do_ok hent hprim H hjm (σ := ⟨(d,.bool want) :: t,b⟩) hk (hT.cons _ _) h
            simp only [Bool.and_eq_true] at h1
            refine ⟨h1.1,h1.2,fun _ => h2,fun e => ?_⟩
            subst e; cases want <;> simp at hx
  | dops ops l rs hk =>
    have hk := hk.mono (Nat.le_succ j)
    cases l with
    | nil =>
      simp only [listX,itemX,dopsX] at h
      cases ho : okF ops rs
      · rw [ho] at h; cases h
      rw [ho] at h
      simp only [vcS]
      exact ⟨OkD_fast ho,go _ _ _ _ _ hk hT h⟩
    | cons o r =>
      obtain ⟨dst,op,i1,i2,i3,g⟩ := o
      cases g with
      | none => simp only [vcS]; exact doD_ok hent hprim H hjm (σ := ⟨t,b⟩) hk hT h
      | some g =>
        obtain ⟨q,want⟩ := g
        simp only [listX,itemX,dopsX,operXD] at h
        rw [qGuard_eq,xgvalD_congr hT] at h
        simp only [vcS]
        generalize gdst ops.toList q = gd at h ⊢
        cases hg : Yk t gd with
        | none =>
          rw [hg] at h
          simp only [grdXD,skipXD] at h
          rw [xgvU_congr hT] at h
          cases hf : fits F.n dst <;> cases hu : gvU t gd <;> rw [hf,hu] at h <;> try (cases h; done)
          simp only [Xy]
          exact ⟨trivial,go _ _ _ _ _ (.dops _ _ _ hk) (hT.put _ _) h⟩
        | some p =>
          obtain ⟨d,x⟩ := p
          rw [hg] at h
          simp only [grdXD] at h
          simp only [Xy]
          cases hx : x == want
          · rw [hx] at h
            simp only [grdWD] at h
            cases hf : fits F.n dst <;> cases hu : fits F.n (some d) <;> rw [hf,hu] at h <;> try (cases h; done)
            refine ⟨rfl,rfl,fun e => ?_,fun e => go _ _ _ _ _ (.dops _ _ _ hk) ((hT.cons _ _).put _ _) h⟩
            subst e; simp at hx
          · rw [hx] at h
            simp only [grdWD] at h
            obtain ⟨h1,h2⟩ := doD_ok hent hprim H hjm (σ := ⟨(d,.bool want) :: t,b⟩) hk (hT.cons _ _) h
            simp only [Bool.and_eq_true] at h1
            refine ⟨h1.1,h1.2,fun _ => h2,fun e => ?_⟩
            subst e; cases want <;> simp at hx
  | @code k k' c hk =>
    have hk1 := hk
    replace hk := hk.mono (Nat.le_succ j)
    cases c with
    | skip => simp only [vcS]; exact go _ _ _ _ _ hk hT h
    | ret => simp only [vcS]; exact fin h
    | seq x y => simp only [vcS]; exact go _ _ _ _ _ (.code x (.code y hk)) hT h
    | block id x => simp only [vcS]; exact go _ _ _ _ _ (.code x (.endb id hk)) hT h
    | region id ops dr =>
      cases dr
      · simp only [vcS]; exact go _ _ _ _ _ (.ops _ _ hk) hT h
      · simp only [listX,itemX,codeX,regX] at h
        simp only [vcS,finE]
        generalize F.how id = p at h
        cases p with
        | nil => simp only [regV]; exact ⟨trivial,go _ _ _ _ _ (.dops _ _ _ hk) hT h⟩
        | cons x p =>
          simp only [drawX] at h
          cases hb : permBb ops (x :: p)
          · rw [hb] at h; cases h
          rw [hb] at h
          simp only [regV]; exact ⟨hb,go _ _ _ _ _ (.dops _ _ _ hk) hT h⟩
    | cond c x y =>
      simp only [listX,itemX,codeX,evB_eq,hT.ev] at h
      simp only [vcS]
      cases he : ev t c with
      | none => rw [he] at h; cases h
      | some v =>
        rw [he] at h
        cases v <;> try (cases h; done)
        rename_i q
        cases q
        · simp only [XN]; exact ⟨fun e => (by cases e),fun _ => go _ _ _ _ _ (.code y hk) hT h⟩
        · simp only [XN]; exact ⟨fun _ => go _ _ _ _ _ (.code x hk) hT h,fun e => (by cases e)⟩
    | exit id =>
      simp only [listX,itemX,codeX] at h
      simp only [vcS]
      cases he : exitX id k with
      | none => rw [he] at h; cases h
      | some kk =>
        rw [he] at h
        obtain ⟨kk',h1,h2⟩ := exit_rel hk he
        rw [h1]; simp only [XO]
        exact go _ _ _ _ _ h2 hT h
    | loop x =>
      let P : St → Nat → Prop := fun σ n => n ≤ j + 1 ∧ ∃ tX,EqT tX σ.t ∧ ex V X n F (.code (.loop x) :: k) ⟨tX,σ.b⟩ = .ok out
      obtain ⟨μ,hμ⟩ : ∃ μ : St → Nat,∀ σ,(∃ n,P σ n) → P σ (μ σ) ∧ ∀ n,P σ n → μ σ ≤ n := by
        classical
        refine ⟨fun σ => if hn : ∃ n,P σ n then Classical.choose (least hn) else 0,fun σ hn => ?_⟩
        simp only
        rw [dif_pos hn]
        exact Classical.choose_spec (least hn)
      simp only [vcS,loopV]
      refine ⟨fun σ => ∃ n,P σ n,μ,⟨j + 1,Nat.le_refl _,tX,hT,h⟩,?_⟩
      intro σ' hn
      obtain ⟨⟨hle,tX',hT',hx⟩,hmin⟩ := hμ σ' hn
      generalize μ σ' = n0 at hle hx hmin ⊢
      cases n0 with
      | zero => cases hx
      | succ j0 =>
      have hx : ex V X j0 F (.code x :: .endx x :: k) ⟨tX',σ'.b⟩ = .ok out := hx
      refine ih j0 (by omega) F out m _ _ tX' σ' (by omega) (.code x (.endx x _ _ _ (hk1.mono (by omega)) (by omega) ?_)) hT' hx
      intro i2 hi2 t2 σ2 hT2 hx2
      have hp2 : P σ2 i2 := ⟨by omega,t2,hT2,hx2⟩
      have := (hμ σ2 ⟨i2,hp2⟩).2 i2 hp2
      exact ⟨⟨i2,hp2⟩,by omega⟩
    | _ => cases h
theorem exC_ok (hent : X.tbl.ok V) (hprim : ∀ g args b r b',X.prim g args b = some (r,b') → SC V g args b (fun r' b2 => r' = r ∧ b2 = b')) (f : Nat) (g : FuncId) (args : List SV) (b : List Res) : CallOk V g args b (exC V X f g args b) := call_ok hent hprim (run_ok hent hprim f) g args b
end
end Vc
/- The check of chapter 17 answers true: the program is run by the kernel. -/
set_option linter.all false
namespace Vc
open Go Go.RowKit Wf
theorem PC.sc {V : Cx} {f : FuncId} {args : List SV} {bs : List Res} {x : SV} (h : PC V f args x) : SC V f args bs (fun r b => r = x ∧ b = bs) := by
  refine ⟨h.enters,fun β fp w hbx hG hE => ?_⟩
  rw [concL_flat args h.fa β bt0]
  refine (h.calls w hE).mono ?_
  rintro e w' ⟨he,hb⟩
  have hb0 := hbx β (Agr.refl _ _)
  refine ⟨x,bs,β,fp,⟨rfl,rfl⟩,Agr.refl _ _,Nat.le_refl _,fun β' hβ => ⟨by rw [he,conc_flat x h.fr bt0 β'],⟨fun i r hi => ((hbx β' hβ).holds i r hi).stays (fun k hk => hb.block k (hb0.lt i r hi k hk)),fun i r hi k hk => Nat.lt_of_lt_of_le (hb0.lt i r hi k hk) hb.size,hb0.sep⟩⟩,FrW.of_below hb,fun i r hi hm k hk => .inr ⟨i,r,hi,hm,hk⟩,fun i r hi k hk => .inr ⟨i,r,hi,hk⟩⟩
end Vc
namespace Go.Proofs.YtejfjmcjicpodaaGreatDoor
open Go Vc Go.RowKit Wf
set_option maxRecDepth 100000
noncomputable def ftSane : FT := (.node (.node (.node (.node (.node (.node .nil 7 false Tryz.f7 (fun _ => []) .nil) 9 false Tryz.f9 (fun _ => []) .nil) 10 false Tryz.f10 (fun _ => []) (.node .nil 13 false Tryz.f13 (fun _ => []) .nil)) 20 false Tryz.f20 (fun _ => []) (.node (.node (.node .nil 21 false Tryz.f21 (fun _ => []) .nil) 22 false Tryz.f22 (fun _ => []) .nil) 23 true Tryz.f23 (fun _ => []) (.node .nil 24 false Tryz.f24 (fun _ => []) .nil))) 25 true Tryz.f25 (fun _ => []) (.node (.node (.node (.node .nil 26 false Tryz.f26 (fun _ => []) .nil) 27 false Tryz.f27 (fun _ => []) .nil) 28 false Tryz.f28 (fun _ => []) (.node .nil 29 false Tryz.f29 (fun _ => []) .nil)) 30 false Tryz.f30 (fun _ => []) (.node (.node (.node .nil 31 false Tryz.f31 (fun _ => []) .nil) 40 false Tryz.f40 (fun _ => []) .nil) 41 false Tryz.f41 (fun _ => []) (.node .nil 42 false Tryz.f42 (fun _ => []) .nil)))) 54 true Tryz.f54 (fun _ => []) (.node (.node (.node (.node (.node .nil 55 true Tryz.f55 (fun _ => []) .nil) 56 true Tryz.f56 (fun _ => []) .nil) 57 false Tryz.f57 (fun _ => []) (.node .nil 58 false Tryz.f58 (fun _ => []) .nil)) 59 true Tryz.f59 (fun _ => []) (.node (.node (.node .nil 65 false Tryz.f65 (fun _ => []) .nil) 66 false Tryz.f66 (fun _ => []) .nil) 67 true Tryz.f67 (fun _ => []) (.node .nil 68 true Tryz.f68 (fun _ => []) .nil))) 79 true Tryz.f79 (fun _ => []) (.node (.node (.node (.node .nil 85 true Tryz.f85 (fun _ => []) .nil) 86 true Tryz.f86 (fun _ => []) .nil) 87 true Tryz.f87 (fun _ => []) (.node .nil 88 true Tryz.f88 (fun _ => []) .nil)) 104 true Tryz.f104 (fun _ => []) (.node (.node (.node .nil 105 true Tryz.f105 (fun _ => []) .nil) 118 true Tryz.f118 (fun _ => []) .nil) 119 true Tryz.f119 (fun _ => []) (.node .nil 134 true Tryz.f134 (fun _ => []) .nil)))))
theorem ftSane_ok : ftSane.ok Tryz.V := ⟨Tryz.func54,Tryz.call54,⟨Tryz.func25,Tryz.call25,⟨Tryz.func20,Tryz.call20,⟨Tryz.func10,Tryz.call10,⟨Tryz.func9,Tryz.call9,⟨Tryz.func7,Tryz.call7,trivial,trivial⟩,trivial⟩,⟨Tryz.func13,Tryz.call13,trivial,trivial⟩⟩,⟨Tryz.func23,Tryz.call23,⟨Tryz.func22,Tryz.call22,⟨Tryz.func21,Tryz.call21,trivial,trivial⟩,trivial⟩,⟨Tryz.func24,Tryz.call24,trivial,trivial⟩⟩⟩,⟨Tryz.func30,Tryz.call30,⟨Tryz.func28,Tryz.call28,⟨Tryz.func27,Tryz.call27,⟨Tryz.func26,Tryz.call26,trivial,trivial⟩,trivial⟩,⟨Tryz.func29,Tryz.call29,trivial,trivial⟩⟩,⟨Tryz.func41,Tryz.call41,⟨Tryz.func40,Tryz.call40,⟨Tryz.func31,Tryz.call31,trivial,trivial⟩,trivial⟩,⟨Tryz.func42,Tryz.call42,trivial,trivial⟩⟩⟩⟩,⟨Tryz.func79,Tryz.call79,⟨Tryz.func59,Tryz.call59,⟨Tryz.func57,Tryz.call57,⟨Tryz.func56,Tryz.call56,⟨Tryz.func55,Tryz.call55,trivial,trivial⟩,trivial⟩,⟨Tryz.func58,Tryz.call58,trivial,trivial⟩⟩,⟨Tryz.func67,Tryz.call67,⟨Tryz.func66,Tryz.call66,⟨Tryz.func65,Tryz.call65,trivial,trivial⟩,trivial⟩,⟨Tryz.func68,Tryz.call68,trivial,trivial⟩⟩⟩,⟨Tryz.func104,Tryz.call104,⟨Tryz.func87,Tryz.call87,⟨Tryz.func86,Tryz.call86,⟨Tryz.func85,Tryz.call85,trivial,trivial⟩,trivial⟩,⟨Tryz.func88,Tryz.call88,trivial,trivial⟩⟩,⟨Tryz.func119,Tryz.call119,⟨Tryz.func118,Tryz.call118,⟨Tryz.func105,Tryz.call105,trivial,trivial⟩,trivial⟩,⟨Tryz.func134,Tryz.call134,trivial,trivial⟩⟩⟩⟩⟩
def sA1 : List SV := [.str ([100,105,100,58,119,101,98,58,97,46,101,120,97,109,112,108,101] : List UInt8)]
def sR1 : SV := .tup [.agg [.str ([119,101,98] : List UInt8),.str ([97,46,101,120,97,109,112,108,101] : List UInt8)],.int .i64 0]
def sR2 : SV := .tup [.agg [.str ([119,101,98] : List UInt8),.str ([97,46,101,120,97,109,112,108,101] : List UInt8),.str [],.str [],.str ([102,105,108,101,115] : List UInt8),.bool false,.bool true],.int .i64 0]
noncomputable def primSane (g : FuncId) (args : List SV) (b : List Res) : Option (SV × List Res) := match Nat.beq g 23 with
  | true => (match sameC args sA1 with
    | true => some (sR1,b)
    | false => none)
  | false => (match Nat.beq g 67 with
    | true => (match args with
      | [.agg a,.str s] => (match sameC a [.str ([119,101,98] : List UInt8),.str ([97,46,101,120,97,109,112,108,101] : List UInt8)] with
        | true => (match sameB s ([35,102,105,108,101,115] : List UInt8) with
          | true => some (sR2,b)
          | false => none)
        | false => none)
      | _ => none)
    | false => none)
theorem s1_is : didParse ([100,105,100,58,119,101,98,58,97,46,101,120,97,109,112,108,101] : List UInt8) = (⟨([119,101,98] : List UInt8),([97,46,101,120,97,109,112,108,101] : List UInt8)⟩,0) := by kernel_rfl
theorem s2_is : didResolve ⟨([119,101,98] : List UInt8),([97,46,101,120,97,109,112,108,101] : List UInt8)⟩ ([35,102,105,108,101,115] : List UInt8) = (⟨⟨([119,101,98] : List UInt8),([97,46,101,120,97,109,112,108,101] : List UInt8)⟩,[],[],([102,105,108,101,115] : List UInt8),false,true⟩,0) := by kernel_rfl
theorem primSane_ok : ∀ g args b r b',primSane g args b = some (r,b') → SC Tryz.V g args b (fun r' b2 => r' = r ∧ b2 = b') := by
  intro g args b r b' h
  unfold primSane at h
  cases h1 : Nat.beq g 23 with
  | true =>
    rw [h1] at h
    obtain rfl := Nat.eq_of_beq_eq_true h1
    cases h2 : sameC args sA1 with
    | true =>
      rw [h2] at h
      simp only [Option.some.injEq,Prod.mk.injEq] at h
      obtain ⟨rfl,rfl⟩ := h
      rw [sameC_ok h2]
      have := p_did_ParseDID ([100,105,100,58,119,101,98,58,97,46,101,120,97,109,112,108,101] : List UInt8)
      rw [s1_is] at this
      exact this.sc
    | false => rw [h2] at h; cases h
  | false =>
    rw [h1] at h
    cases h3 : Nat.beq g 67 with
    | false => rw [h3] at h; cases h
    | true =>
      rw [h3] at h
      obtain rfl := Nat.eq_of_beq_eq_true h3
      simp only at h
      split at h
      · rename_i a s
        cases h4 : sameC a [.str ([119,101,98] : List UInt8),.str ([97,46,101,120,97,109,112,108,101] : List UInt8)] with
        | false => rw [h4] at h; cases h
        | true =>
          rw [h4] at h
          cases h5 : sameB s ([35,102,105,108,101,115] : List UInt8) with
          | false => rw [h5] at h; cases h
          | true =>
            rw [h5] at h
            simp only [Option.some.injEq,Prod.mk.injEq] at h
            obtain ⟨rfl,rfl⟩ := h
            rw [sameB_eq] at h5
            rw [sameC_ok h4,eq_of_beq h5]
            have := p_did_Resolve ⟨([119,101,98] : List UInt8),([97,46,101,120,97,109,112,108,101] : List UInt8)⟩ ([35,102,105,108,101,115] : List UInt8) ⟨by decide,by decide⟩ (by decide)
            rw [s2_is] at this
            exact this.sc
      · cases h
noncomputable def xpSane : EPar Tryz.V := ⟨ftSane,primSane⟩
def chkT : CallX → Bool
  | .some (.bool true) _ => true
  | .pure (.bool true) => true
  | _ => false
theorem chkT_ok {V : Cx} {g : FuncId} {c : CallX} (h : CallOk V g [] [] c) (hc : chkT c = true) : PC V g [] (.bool true) := by
  unfold chkT at hc
  split at hc
  · exact pc_of_sc rfl rfl (SC.mono h fun r b h => h.1)
  · exact h
  · cases hc
theorem saneRun : chkT (exC Tryz.V xpSane 1000000 7 [] []) = true := by kernel_rfl
theorem p_sane17 : PC Tryz.V 7 [] (.bool true) := chkT_ok (exC_ok (X := xpSane) ftSane_ok primSane_ok _ _ _ _) saneRun
end Go.Proofs.YtejfjmcjicpodaaGreatDoor
/- The plain law of DiddocSelects. -/
set_option linter.all false
set_option maxRecDepth 20000
namespace Go.Proofs.YtejfjmcjicpodaaGreatDoor
open Go Vc Go.RowKit Wf
set_option linter.unusedSimpArgs false
mutual
theorem JB.up {B C : Nat} (h : B ≤ C) : ∀ {j : Jv},JB B j → JB C j
  | .mk _ _ _ L,k => by
    rw [JB] at k ⊢
    exact ⟨Nat.le_trans k.1 h,Nat.le_trans k.2.1 h,fun s hs => Nat.le_trans (k.2.2.1 s hs) h,Nat.le_trans k.2.2.2.1 h,JBs.up h k.2.2.2.2⟩
theorem JBs.up {B C : Nat} (h : B ≤ C) : ∀ {L : List Jv},JBs B L → JBs C L
  | [],_ => by rw [JBs]; trivial
  | _ :: _,k => by
    rw [JBs] at k ⊢
    exact ⟨JB.up h k.1,JBs.up h k.2⟩
end
set_option maxHeartbeats 8000000 in
theorem p_law17_DiddocSelects (s id : Bytes) : PC Tryz.V 4 [.str s,.str id] (.bool true) := by
  have p0 := p_sane17
  refine pc_of 3000 Tryz.func4 rfl Tryz.ntmps4 Tryz.results4 Tryz.call4 (by simp) (by simp [flat,flat.flatL]) (by simp [flat,flat.flatL]) ?_
  simp only [lawG,↓Xn,↓Xo,↓Xg,↓Xd,↓Xe,↓Xf,Tryz.VΓ,Tryz.Γs,Xp,Xi,Nat.reduceAdd,Nat.reduceSub,Nat.reduceLT,Nat.reduceLeDiff,reduceIte,reduceCtorEq,Nat.reduceEqDiff,implies_true,forall_const,lawV,lawA,beq_self_eq_true,bne_self_eq_false,Int.reduceBEq,Int.reduceBNe,Int.reduceLT,Int.reduceLE]
  (refine callV_pc (p0) ?_; simp only [lawG,↓Xn,↓Xo,↓Xg,↓Xd,↓Xe,↓Xf,Tryz.VΓ,Tryz.Γs,Xp,Xi,Nat.reduceAdd,Nat.reduceSub,Nat.reduceLT,Nat.reduceLeDiff,reduceIte,reduceCtorEq,Nat.reduceEqDiff,implies_true,forall_const,lawV,lawA,beq_self_eq_true,bne_self_eq_false,Int.reduceBEq,Int.reduceBNe,Int.reduceLT,Int.reduceLE,Bool.not_true])
  cases c1 : decide ((3000 : Int) < s.length)
  rotate_left
  · simp only [lawG,↓Xn,↓Xo,↓Xg,↓Xd,↓Xe,↓Xf,Tryz.VΓ,Tryz.Γs,Xp,Xi,Nat.reduceAdd,Nat.reduceSub,Nat.reduceLT,Nat.reduceLeDiff,reduceIte,reduceCtorEq,Nat.reduceEqDiff,implies_true,forall_const,lawV,lawA,beq_self_eq_true,bne_self_eq_false,Int.reduceBEq,Int.reduceBNe,Int.reduceLT,Int.reduceLE,c1]
  cases c2 : decide ((300 : Int) < id.length)
  rotate_left
  · simp only [lawG,↓Xn,↓Xo,↓Xg,↓Xd,↓Xe,↓Xf,Tryz.VΓ,Tryz.Γs,Xp,Xi,Nat.reduceAdd,Nat.reduceSub,Nat.reduceLT,Nat.reduceLeDiff,reduceIte,reduceCtorEq,Nat.reduceEqDiff,implies_true,forall_const,lawV,lawA,beq_self_eq_true,bne_self_eq_false,Int.reduceBEq,Int.reduceBNe,Int.reduceLT,Int.reduceLE,c1,c2]
  have hs : s.length ≤ 3000 := by simp at c1; omega
  simp only [lawG,↓Xn,↓Xo,↓Xg,↓Xd,↓Xe,↓Xf,Tryz.VΓ,Tryz.Γs,Xp,Xi,Nat.reduceAdd,Nat.reduceSub,Nat.reduceLT,Nat.reduceLeDiff,reduceIte,reduceCtorEq,Nat.reduceEqDiff,implies_true,forall_const,lawV,lawA,beq_self_eq_true,bne_self_eq_false,Int.reduceBEq,Int.reduceBNe,Int.reduceLT,Int.reduceLE,c1,c2]
  refine callV_sc (sc_r14_Parse s (by omega)) ?_
  rintro r b1 ⟨j,v,w,e,rfl,-,hj,hB,-⟩
  have hB := hB.up (show s.length + 410 ≤ 1000000 by omega)
  obtain ⟨-,-,v3,v4⟩ := hj.tin
  have ho : (one v.xk && one v.xi) = true := by rw [v3,v4]; rfl
  have k1 := fun X => sc_dd_Select (hj.ro ((Ro.refl b1).app X)) hB id
  unfold tv at k1 ⊢
  simp only [lawG,↓Xn,↓Xo,↓Xg,↓Xd,↓Xe,↓Xf,Tryz.VΓ,Tryz.Γs,Xp,Xi,Nat.reduceAdd,Nat.reduceSub,Nat.reduceLT,Nat.reduceLeDiff,reduceIte,reduceCtorEq,Nat.reduceEqDiff,implies_true,forall_const,lawV,lawA,beq_self_eq_true,bne_self_eq_false,Int.reduceBEq,Int.reduceBNe,Int.reduceLT,Int.reduceLE,ho]
  refine callV_sc (k1 _) ?_
  rintro r b2 ⟨x,rfl,hk2,hx⟩
  have hb2 := hk2.at (app_at0 b1 [.cells [.int .i64 v.k,.str v.t,v.xk,v.xi] 25 true])
  obtain ⟨-,-,x3,x4⟩ := hx.tin
  have hxo : (one x.xk && one x.xi) = true := by rw [x3,x4]; rfl
  have k2 := fun X => sc_rr_Select ((hj.ro ((Ro.refl b1).app [.cells [.int .i64 v.k,.str v.t,v.xk,v.xi] 25 true])).ro (hk2.ro.app X)) hB id
  unfold tv at k2 ⊢
  simp only [lawG,↓Xn,↓Xo,↓Xg,↓Xd,↓Xe,↓Xf,Tryz.VΓ,Tryz.Γs,Xp,Xi,Nat.reduceAdd,Nat.reduceSub,Nat.reduceLT,Nat.reduceLeDiff,reduceIte,reduceCtorEq,Nat.reduceEqDiff,implies_true,forall_const,lawV,lawA,beq_self_eq_true,bne_self_eq_false,Int.reduceBEq,Int.reduceBNe,Int.reduceLT,Int.reduceLE,hxo,at_old hb2,ho]
  refine callV_sc (k2 _) ?_
  rintro r b3 ⟨y,rfl,hk3,hy⟩
  have hb3 := hk3.at (app_at0 b2 [.cells [.int .i64 x.k,.str x.t,x.xk,x.xi] 25 true])
  obtain ⟨-,-,y3,y4⟩ := hy.tin
  have hyo : (one y.xk && one y.xi) = true := by rw [y3,y4]; rfl
  have k3 := fun X => sc_r14_Same ((hx.ro ((Ro.refl b2).app [.cells [.int .i64 x.k,.str x.t,x.xk,x.xi] 25 true])).ro (hk3.ro.app X)) (hy.ro ((Ro.refl b3).app X))
  unfold tv at k3 ⊢
  simp only [lawG,↓Xn,↓Xo,↓Xg,↓Xd,↓Xe,↓Xf,Tryz.VΓ,Tryz.Γs,Xp,Xi,Nat.reduceAdd,Nat.reduceSub,Nat.reduceLT,Nat.reduceLeDiff,reduceIte,reduceCtorEq,Nat.reduceEqDiff,implies_true,forall_const,lawV,lawA,beq_self_eq_true,bne_self_eq_false,Int.reduceBEq,Int.reduceBNe,Int.reduceLT,Int.reduceLE,hyo,hxo,at_old hb3]
  refine callV_sc (k3 _) ?_
  rintro r b4 ⟨rfl,rfl⟩
  simp only [lawG,↓Xn,↓Xo,↓Xg,↓Xd,↓Xe,↓Xf,Tryz.VΓ,Tryz.Γs,Xp,Xi,Nat.reduceAdd,Nat.reduceSub,Nat.reduceLT,Nat.reduceLeDiff,reduceIte,reduceCtorEq,Nat.reduceEqDiff,implies_true,forall_const,lawV,lawA,beq_self_eq_true,bne_self_eq_false,Int.reduceBEq,Int.reduceBNe,Int.reduceLT,Int.reduceLE]
end Go.Proofs.YtejfjmcjicpodaaGreatDoor
