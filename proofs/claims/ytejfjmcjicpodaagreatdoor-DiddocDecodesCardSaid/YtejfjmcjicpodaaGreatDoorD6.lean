/- Texts of this claim,laid together: DidV,DocE,DocG,DocH,DocI,SelC,EncP,DocL,PjB,PjC,PjD,PjG. -/
import Derived.Test.YtejfjmcjicpodaaGreatDoorD5
/- The walks of the reference for package did. -/
set_option linter.all false
set_option maxRecDepth 20000
namespace Go.Proofs.YtejfjmcjicpodaaGreatDoor
open Go Vc Go.RowKit Wf
set_option linter.unusedSimpArgs false
theorem p_r10_plain (c : UInt8) : PC Tryz.V 74 [.int .u8 c.toNat] (.bool (plainD c)) := by
  refine pc_of 3000 Tryz.func74 rfl Tryz.ntmps74 Tryz.results74 Tryz.call74 (by simp) (by simp [flat,flat.flatL]) (by simp [flat,flat.flatL]) ?_
  simp only [lawG,↓Xn,↓Xo,↓Xg,↓Xd,↓Xe,↓Xf,Tryz.VΓ,Tryz.Γs,Xp,Xi,Nat.reduceAdd,Nat.reduceSub,Nat.reduceLT,Nat.reduceLeDiff,reduceIte,reduceCtorEq,Nat.reduceEqDiff,implies_true,forall_const,lawV]
  (refine callV_pc (p_r1_IsAlpha c) ?_; simp only [lawG,↓Xn,↓Xo,↓Xg,↓Xd,↓Xe,↓Xf,Tryz.VΓ,Tryz.Γs,Xp,Xi,Nat.reduceAdd,Nat.reduceSub,Nat.reduceLT,Nat.reduceLeDiff,reduceIte,reduceCtorEq,Nat.reduceEqDiff,implies_true,forall_const,lawV])
  unfold plainD
  refine ⟨fun h => ?_,fun h => by rw [h]; rfl⟩
  (refine callV_pc (p_r1_IsDigit c) ?_; simp only [lawG,↓Xn,↓Xo,↓Xg,↓Xd,↓Xe,↓Xf,Tryz.VΓ,Tryz.Γs,Xp,Xi,Nat.reduceAdd,Nat.reduceSub,Nat.reduceLT,Nat.reduceLeDiff,reduceIte,reduceCtorEq,Nat.reduceEqDiff,implies_true,forall_const,lawV])
  rw [h]
  refine ⟨fun h2 => ?_,fun h2 => by rw [h2]; rfl⟩
  (refine callV_pc (p_r1_In c [46,45,95] (by decide)) ?_; simp only [lawG,↓Xn,↓Xo,↓Xg,↓Xd,↓Xe,↓Xf,Tryz.VΓ,Tryz.Γs,Xp,Xi,Nat.reduceAdd,Nat.reduceSub,Nat.reduceLT,Nat.reduceLeDiff,reduceIte,reduceCtorEq,Nat.reduceEqDiff,implies_true,forall_const,lawV])
  rw [h2]; rfl
theorem didEsc_take {s : Bytes} {i : Nat} (h : i < s.length) : didEsc (s.take (i + 1)) = didEsc (s.take i) ++ didB s[i] := by
  unfold didEsc
  rw [List.take_succ_eq_append_getElem h,List.flatMap_append,List.flatMap_cons,List.flatMap_nil,List.append_nil]
theorem flatten_le {n m k : Nat} : ∀ {l : List Bytes},l.length ≤ n → (∀ y ∈ l,y.length ≤ m) → n * m ≤ k → l.flatten.length ≤ k := by
  have : ∀ (l : List Bytes),(∀ y ∈ l,y.length ≤ m) → l.flatten.length ≤ l.length * m := by
    intro l
    induction l with
    | nil => simp
    | cons x l ih =>
      intro h
      have h1 := h x List.mem_cons_self
      have h2 := ih (fun y hy => h y (List.mem_cons_of_mem _ hy))
      rw [List.flatten_cons,List.length_append,List.length_cons,Nat.add_mul]
      omega
  intro l h1 h2 h3
  have := this l h2
  exact Nat.le_trans this (Nat.le_trans (Nat.mul_le_mul_right _ h1) h3)
theorem didEsc_len_take (s : Bytes) (i : Nat) : (didEsc (s.take i)).length ≤ 3 * s.length := by
  have := didEsc_len (s.take i)
  have : (s.take i).length ≤ s.length := by simp; omega
  omega
set_option maxHeartbeats 2000000 in
theorem p_r10_Escaped (s : Bytes) (hs : s.length ≤ 1000000) : PC Tryz.V 75 [.str s] (.str (didEsc s)) := by
  refine pc_of 3000 Tryz.func75 rfl Tryz.ntmps75 Tryz.results75 Tryz.call75 (by simp) (by simp [flat,flat.flatL]) (by simp [flat,flat.flatL]) ?_
  simp only [lawG,↓Xn,↓Xo,↓Xg,↓Xd,↓Xe,↓Xf,Tryz.VΓ,Tryz.Γs,Xp,Xi,Nat.reduceAdd,Nat.reduceSub,Nat.reduceLT,Nat.reduceLeDiff,reduceIte,reduceCtorEq,Nat.reduceEqDiff,implies_true,forall_const,lawV]
  refine loopV_mk (fun σ => ∃ i : Nat,i ≤ s.length ∧ lk 0 σ.t = some (.str s) ∧ lk 3 σ.t = some (.str (didEsc (s.take i))) ∧ lk 4 σ.t = some (.int .i64 i)) (fun σ => s.length - lkI 4 σ) ⟨0,by omega,rfl,rfl,rfl⟩ ?_
  rintro ⟨t,b⟩ ⟨i,hi,h0,h3,h4⟩
  simp only at h0 h3 h4
  rw [lkI_eq h4]
  have hel := didEsc_len_take s i
  by_cases hlt : i < s.length
  · have hg : s.getD i 0 = s[i] := by simp [List.getD,hlt]
    have next : ∀ (x : Bytes) (t' : List (Nat × SV)),x = didB s[i] → lk 4 t' = some (.int .i64 ((i : Int) + 1)) →
        (∃ k : Nat,k ≤ s.length ∧ SV.str (didEsc (s.take i) ++ x) = SV.str (didEsc (s.take k)) ∧ SV.int IntKind.i64 ((i : Int) + 1) = SV.int IntKind.i64 (k : Int)) ∧ s.length - lkI 4 ⟨t',b⟩ < s.length - (i : Int).toNat := fun x t' hx k4 =>
      ⟨⟨i + 1,by omega,by rw [didEsc_take hlt,hx],rfl⟩,by rw [lkI_eq (σ := ⟨t',b⟩) k4]; omega⟩
    simp only [lawG,↓Xn,↓Xo,↓Xg,↓Xd,↓Xe,↓Xf,Tryz.VΓ,Tryz.Γs,Xp,Xi,Nat.reduceAdd,Nat.reduceSub,Nat.reduceLT,Nat.reduceLeDiff,reduceIte,reduceCtorEq,Nat.reduceEqDiff,implies_true,forall_const,lawV,h0,h3,h4,hg]
    refine ⟨fun _ => ⟨⟨by omega,by omega⟩,?_⟩,fun h => absurd h (by simp; omega)⟩
    (refine callV_pc (p_r10_plain s[i]) ?_; simp only [lawG,↓Xn,↓Xo,↓Xg,↓Xd,↓Xe,↓Xf,Tryz.VΓ,Tryz.Γs,Xp,Xi,Nat.reduceAdd,Nat.reduceSub,Nat.reduceLT,Nat.reduceLeDiff,reduceIte,reduceCtorEq,Nat.reduceEqDiff,implies_true,forall_const,lawV,h0,h3,h4,hg])
    refine ⟨fun hp => ⟨by omega,⟨by omega,by omega,by omega⟩,by rw [sub_one hlt,List.length_singleton]; omega,⟨by omega,by omega⟩,next _ _ (by rw [sub_one hlt,show didB s[i] = [s[i]] from if_pos hp]) rfl⟩,fun hp => ⟨⟨by omega,by omega⟩,?_⟩⟩
    (refine callV_pc (p_r3_Escape s[i]) ?_; simp only [lawG,↓Xn,↓Xo,↓Xg,↓Xd,↓Xe,↓Xf,Tryz.VΓ,Tryz.Γs,Xp,Xi,Nat.reduceAdd,Nat.reduceSub,Nat.reduceLT,Nat.reduceLeDiff,reduceIte,reduceCtorEq,Nat.reduceEqDiff,implies_true,forall_const,lawV,h0,h3,h4,hg])
    exact ⟨by rw [show (esc s[i]).length = 3 from rfl]; omega,⟨by omega,by omega⟩,next _ _ (by rw [show didB s[i] = esc s[i] from if_neg (by rw [hp]; simp)]) rfl⟩
  · have hie : i = s.length := by omega
    subst hie
    rw [List.take_length] at h3
    simp only [lawG,↓Xn,↓Xo,↓Xg,↓Xd,↓Xe,↓Xf,Tryz.VΓ,Tryz.Γs,Xp,Xi,Nat.reduceAdd,Nat.reduceSub,Nat.reduceLT,Nat.reduceLeDiff,reduceIte,reduceCtorEq,Nat.reduceEqDiff,implies_true,forall_const,lawV,h0,h3,h4]
    exact fun h => absurd h (by simp)
set_option maxHeartbeats 2000000 in
theorem p_r10_method (s : Bytes) (hs : s.length ≤ 1000000) : PC Tryz.V 71 [.str s] (.bool (methodOk s)) := by
  refine pc_of 3000 Tryz.func71 rfl Tryz.ntmps71 Tryz.results71 Tryz.call71 (by simp) (by simp [flat,flat.flatL]) (by simp [flat,flat.flatL]) ?_
  simp only [lawG,↓Xn,↓Xo,↓Xg,↓Xd,↓Xe,↓Xf,Tryz.VΓ,Tryz.Γs,Xp,Xi,Nat.reduceAdd,Nat.reduceSub,Nat.reduceLT,Nat.reduceLeDiff,reduceIte,reduceCtorEq,Nat.reduceEqDiff,implies_true,forall_const,lawV]
  refine loopV_mk (fun σ => ∃ i : Nat,i ≤ s.length ∧ lk 0 σ.t = some (.str s) ∧ lk 3 σ.t = some (.int .i64 i) ∧ (s.take i).all methodC = true) (fun σ => s.length - lkI 3 σ) ⟨0,by omega,rfl,rfl,rfl⟩ ?_
  rintro ⟨t,b⟩ ⟨i,hi,h0,h3,hok⟩
  simp only at h0 h3
  rw [lkI_eq h3]
  by_cases hlt : i < s.length
  · have hg : s.getD i 0 = s[i] := by simp [List.getD,hlt]
    have hbad : methodC s[i] = false → methodOk s = false := fun h => by
      unfold methodOk
      rw [all_not hlt h,Bool.and_false]
    simp only [lawG,↓Xn,↓Xo,↓Xg,↓Xd,↓Xe,↓Xf,Tryz.VΓ,Tryz.Γs,Xp,Xi,Nat.reduceAdd,Nat.reduceSub,Nat.reduceLT,Nat.reduceLeDiff,reduceIte,reduceCtorEq,Nat.reduceEqDiff,implies_true,forall_const,lawV,h0,h3,hg]
    refine ⟨fun _ => ⟨⟨by omega,by omega⟩,?_⟩,fun h => absurd h (by simp; omega)⟩
    (refine callV_pc (p_r1_IsDigit s[i]) ?_; simp only [lawG,↓Xn,↓Xo,↓Xg,↓Xd,↓Xe,↓Xf,Tryz.VΓ,Tryz.Γs,Xp,Xi,Nat.reduceAdd,Nat.reduceSub,Nat.reduceLT,Nat.reduceLeDiff,reduceIte,reduceCtorEq,Nat.reduceEqDiff,implies_true,forall_const,lawV,h0,h3,hg])
    have fin : methodC s[i] = true → ∀ (t' : List (Nat × SV)),lk 3 t' = some (.int .i64 ((i : Int) + 1)) → (∃ k : Nat,k ≤ s.length ∧ SV.int IntKind.i64 ((i : Int) + 1) = SV.int IntKind.i64 (k : Int) ∧ (s.take k).all methodC = true) ∧ s.length - lkI 3 ⟨t',b⟩ < s.length - (i : Int).toNat := fun hm t' k6 =>
      ⟨⟨i + 1,by omega,rfl,all_take_snoc hlt hok hm⟩,by rw [lkI_eq (σ := ⟨t',b⟩) k6]; omega⟩
    cases hd : isDigit s[i]
    · refine ⟨fun _ => ⟨⟨by omega,by omega⟩,fun h1 => ⟨⟨by omega,by omega⟩,fun h2 => ?_,fun h2 => ⟨⟨by omega,by omega⟩,fin ?_ _ rfl⟩⟩,fun h1 => ?_⟩,fun h => (by cases h)⟩
      · rw [hbad (by rw [methodC_is _ hd]; simp at h1 h2 ⊢; omega)]
      · rw [methodC_is _ hd]; simp at h1 h2 ⊢; omega
      · rw [hbad (by rw [methodC_is _ hd]; simp at h1 ⊢; omega)]
    · exact ⟨fun h => (by cases h),fun _ => ⟨⟨by omega,by omega⟩,fin (by unfold methodC; rw [hd]; rfl) _ rfl⟩⟩
  · have hie : i = s.length := by omega
    subst hie
    rw [List.take_length] at hok
    simp only [lawG,↓Xn,↓Xo,↓Xg,↓Xd,↓Xe,↓Xf,Tryz.VΓ,Tryz.Γs,Xp,Xi,Nat.reduceAdd,Nat.reduceSub,Nat.reduceLT,Nat.reduceLeDiff,reduceIte,reduceCtorEq,Nat.reduceEqDiff,implies_true,forall_const,lawV,h0,h3]
    refine ⟨fun h => absurd h (by simp),fun _ => ?_⟩
    unfold methodOk
    rw [hok,Bool.and_true]
    cases s <;> rfl
set_option maxRecDepth 20000 in
set_option maxHeartbeats 4000000 in
theorem p_r10_ParseDID (s : Bytes) : PC Tryz.V 32 [.str s] (.tup [dsv (didParse s).1,.int .i64 (didParse s).2]) := by
  refine pc_of 3000 Tryz.func32 rfl Tryz.ntmps32 Tryz.results32 Tryz.call32 (by simp) (by simp [flat,flat.flatL,dsv,dusv]) (by simp [flat,flat.flatL,dsv,dusv]) ?_
  simp only [lawG,↓Xn,↓Xo,↓Xg,↓Xd,↓Xe,↓Xf,Tryz.VΓ,Tryz.Γs,Xp,Xi,Nat.reduceAdd,Nat.reduceSub,Nat.reduceLT,Nat.reduceLeDiff,reduceIte,reduceCtorEq,Nat.reduceEqDiff,implies_true,forall_const,lawV]
  unfold didParse
  refine ⟨fun h => ?_,fun h => ?_⟩
  · have h : 4096 < s.length := (by simp at h; omega)
    rw [if_pos h]; rfl
  have h : ¬ 4096 < s.length := (by simp at h; omega)
  rw [if_neg h]
  have pp := p_r1_Prefix s didS
  rw [show Lib.hasPrefix s didS = didS.isPrefixOf s from rfl] at pp
  (refine callV_pc pp ?_; simp only [lawG,↓Xn,↓Xo,↓Xg,↓Xd,↓Xe,↓Xf,Tryz.VΓ,Tryz.Γs,Xp,Xi,Nat.reduceAdd,Nat.reduceSub,Nat.reduceLT,Nat.reduceLeDiff,reduceIte,reduceCtorEq,Nat.reduceEqDiff,implies_true,forall_const,lawV])
  refine ⟨fun h2 => (by rw [if_pos (by simpa using h2)]; rfl),fun h2 => ?_⟩
  have h2 : didS.isPrefixOf s = true := by simpa using h2
  rw [if_neg (by rw [h2]; simp),show Int.toNat 4 = 4 from rfl]
  have hS : (s.drop 4).length ≤ 4096 := by simp; omega
  refine ⟨⟨by omega,?_⟩,?_⟩
  · have := (List.isPrefixOf_iff_prefix.1 h2).length_le
    rw [show didS.length = 4 from rfl] at this
    omega
  generalize s.drop 4 = S at hS ⊢
  have pi := p_r1_Index S [58] (by omega) (by decide)
  rw [pre_one] at pi
  (refine callV_pc pi ?_; simp only [lawG,↓Xn,↓Xo,↓Xg,↓Xd,↓Xe,↓Xf,Tryz.VΓ,Tryz.Γs,Xp,Xi,Nat.reduceAdd,Nat.reduceSub,Nat.reduceLT,Nat.reduceLeDiff,reduceIte,reduceCtorEq,Nat.reduceEqDiff,implies_true,forall_const,lawV])
  have hpl := pre_le (· == 58) S
  unfold didRest
  refine ⟨fun h3 => ?_,fun h3 => ?_⟩
  · have h3 : pre (· == 58) S = S.length := by simp at h3; omega
    rw [cutC_none h3,if_pos rfl]; rfl
  have h3 : ¬ pre (· == 58) S = S.length := by simp at h3; omega
  rw [show cutC 58 S = (S.take (pre (· == 58) S),S.drop (pre (· == 58) S + 1),true) from if_pos (by omega)]
  refine ⟨⟨by omega,by omega⟩,?_⟩
  simp only [Int.toNat_natCast]
  have pm := p_r10_method (S.take (pre (· == 58) S)) (by simp; omega)
  (refine callV_pc pm ?_; simp only [lawG,↓Xn,↓Xo,↓Xg,↓Xd,↓Xe,↓Xf,Tryz.VΓ,Tryz.Γs,Xp,Xi,Nat.reduceAdd,Nat.reduceSub,Nat.reduceLT,Nat.reduceLeDiff,reduceIte,reduceCtorEq,Nat.reduceEqDiff,implies_true,forall_const,lawV])
  refine ⟨fun h4 => ?_,fun h4 => ?_⟩
  · rw [if_pos (by simpa using h4)]; rfl
  rw [if_neg (by simpa using h4),didEnd_segs]
  have hM : (S.drop (pre (· == 58) S + 1)).length ≤ 4096 := by simp; omega
  generalize S.drop (pre (· == 58) S + 1) = I at hM ⊢
  refine ⟨⟨by omega,by omega⟩,⟨by omega,by omega⟩,?_⟩
  have hsl := splitC_len 58 I
  have hct := splitC_length 58 I
  have hcc := List.count_le_length (a := (58 : UInt8)) (l := I)
  refine callV_sc (sc_Split I 58 (by omega)) ?_
  rintro r b ⟨j,rfl,hLj,hj,hkp⟩
  generalize splitC 58 I = L at *
  simp only at hLj hj hkp
  have hb0 := hkp.at (j := 0) rfl
  simp only [lawG,↓Xn,↓Xo,↓Xg,↓Xd,↓Xe,↓Xf,Tryz.VΓ,Tryz.Γs,Xp,Xi,Nat.reduceAdd,Nat.reduceSub,Nat.reduceLT,Nat.reduceLeDiff,reduceIte,reduceCtorEq,Nat.reduceEqDiff,implies_true,forall_const,lawV,hj]
  refine loopV_mk (fun σ => ∃ k : Nat,k ≤ L.length ∧ lk 0 σ.t = some (.str S) ∧ lk 2 σ.t = some (.p 0 0) ∧ lk 3 σ.t = some (.int .i64 0) ∧ lk 4 σ.t = some (.int .i64 (pre (· == 58) S)) ∧ lk 5 σ.t = some (.o j L.length) ∧ lk 46 σ.t = some (.o j L.length) ∧ lk 47 σ.t = some (.int .i64 L.length) ∧ lk 48 σ.t = some (.int .i64 k) ∧
    σ.b[0]? = some (.cells [.str [],.str []] 60 true) ∧ σ.b[j]? = some (.own (L.map SV.str) 9 1 L.length true) ∧ ∀ y ∈ L.take k,PU.bad ∉ units y) (fun σ => L.length - lkI 48 σ) ⟨0,by omega,rfl,rfl,rfl,rfl,rfl,rfl,rfl,rfl,hb0,hj,by simp⟩ ?_
  clear hb0 hj hkp
  rintro ⟨t,b⟩ ⟨k,hk,h0,h2,h3,h4,h5,h46,h47,h48,hb0,hj,hok⟩
  simp only at h0 h2 h3 h4 h5 h46 h47 h48 hb0 hj
  rw [lkI_eq h48]
  have hs0 : ∀ X,(b.set 0 X)[0]? = some X := fun X => List.getElem?_set_self (List.getElem?_eq_some_iff.1 hb0).1
  by_cases hlt : k < L.length
  · have hx : (L.map SV.str)[k * 1]? = some (.str L[k]) := by simp [hlt]
    have hxl := hsl L[k] (List.getElem_mem hlt)
    have pd := p_r3_Decode L[k]
    rw [decode_seg (by omega)] at pd
    simp only [lawG,↓Xn,↓Xo,↓Xg,↓Xd,↓Xe,↓Xf,Tryz.VΓ,Tryz.Γs,Xp,Xi,Nat.reduceAdd,Nat.reduceSub,Nat.reduceLT,Nat.reduceLeDiff,reduceIte,reduceCtorEq,Nat.reduceEqDiff,implies_true,forall_const,lawV,h0,h2,h3,h4,h5,h46,h47,h48,hb0,hj,hs0,hx]
    refine ⟨fun _ => ⟨⟨by omega,by omega⟩,by simp; omega,?_⟩,fun h => absurd h (by simp; omega)⟩
    by_cases hbad : PU.bad ∈ units L[k]
    · rw [if_pos hbad] at pd
      rw [if_pos ⟨_,List.getElem_mem hlt,hbad⟩]
      (refine callV_pc pd ?_; simp only [lawG,↓Xn,↓Xo,↓Xg,↓Xd,↓Xe,↓Xf,Tryz.VΓ,Tryz.Γs,Xp,Xi,Nat.reduceAdd,Nat.reduceSub,Nat.reduceLT,Nat.reduceLeDiff,reduceIte,reduceCtorEq,Nat.reduceEqDiff,implies_true,forall_const,lawV,h0,h2,h3,h4,h5,h46,h47,h48,hb0,hj,hs0,hx,beq_self_eq_true,bne_self_eq_false,Int.reduceBEq,Int.reduceBNe,Int.reduceLT,Int.reduceLE])
      rfl
    · rw [if_neg hbad] at pd
      (refine callV_pc pd ?_; simp only [lawG,↓Xn,↓Xo,↓Xg,↓Xd,↓Xe,↓Xf,Tryz.VΓ,Tryz.Γs,Xp,Xi,Nat.reduceAdd,Nat.reduceSub,Nat.reduceLT,Nat.reduceLeDiff,reduceIte,reduceCtorEq,Nat.reduceEqDiff,implies_true,forall_const,lawV,h0,h2,h3,h4,h5,h46,h47,h48,hb0,hj,hs0,hx,beq_self_eq_true,bne_self_eq_false,Int.reduceBEq,Int.reduceBNe,Int.reduceLT,Int.reduceLE])
      refine ⟨⟨by omega,by omega⟩,⟨k + 1,by omega,rfl,fun y hy => ?_⟩,?_⟩
      · rw [List.take_succ_eq_append_getElem hlt] at hy
        rcases List.mem_append.1 hy with hy | hy
        · exact hok y hy
        · rw [List.mem_singleton.1 hy]; exact hbad
      · rw [lkI_eq (k := .i64) (n := (k : Int) + 1) rfl]; omega
  · have hie : k = L.length := by omega
    subst hie
    rw [List.take_length] at hok
    rw [if_neg (fun ⟨y,hy,hb⟩ => hok y hy hb)]
    simp only [lawG,↓Xn,↓Xo,↓Xg,↓Xd,↓Xe,↓Xf,Tryz.VΓ,Tryz.Γs,Xp,Xi,Nat.reduceAdd,Nat.reduceSub,Nat.reduceLT,Nat.reduceLeDiff,reduceIte,reduceCtorEq,Nat.reduceEqDiff,implies_true,forall_const,lawV,h0,h2,h3,h4,h5,h46,h47,h48,hb0,hj,hs0]
    refine ⟨fun h => absurd h (by simp),fun _ => ?_⟩
    have hbad2 : ∀ y ∈ L,PU.bad ∉ units y := hok
    clear hok h46 h47 h48 hlt hk
    refine loopV_mk (fun σ => ∃ k : Nat,k ≤ L.length ∧ lk 0 σ.t = some (.str S) ∧ lk 2 σ.t = some (.p 0 0) ∧ lk 3 σ.t = some (.int .i64 0) ∧ lk 4 σ.t = some (.int .i64 (pre (· == 58) S)) ∧ lk 5 σ.t = some (.o j L.length) ∧ lk 61 σ.t = some (.o j L.length) ∧ lk 62 σ.t = some (.int .i64 L.length) ∧ lk 63 σ.t = some (.int .i64 k) ∧ lk 10 σ.t = some (.str (segsJoin (L.take k))) ∧
      σ.b[0]? = some (.cells [.str [],.str []] 60 true) ∧ σ.b[j]? = some (.own (L.map SV.str) 9 1 L.length true) ∧ (L.take k).all segPlain = true) (fun σ => L.length - lkI 63 σ) ⟨0,by omega,h0,h2,h3,h4,h5,rfl,rfl,rfl,rfl,hb0,hj,rfl⟩ ?_
    clear hb0 hj h0 h2 h3 h4 h5 hs0
    rintro ⟨t,b⟩ ⟨k,hk,h0,h2,h3,h4,h5,h61,h62,h63,h10,hb0,hj,hok⟩
    simp only at h0 h2 h3 h4 h5 h61 h62 h63 h10 hb0 hj
    have hs0 : ∀ X,(b.set 0 X)[0]? = some X := fun X => List.getElem?_set_self (List.getElem?_eq_some_iff.1 hb0).1
    rw [lkI_eq h63]
    by_cases hlt : k < L.length
    · have hx : (L.map SV.str)[k * 1]? = some (.str L[k]) := by simp [hlt]
      have hxl := hsl L[k] (List.getElem_mem hlt)
      have hxb := hbad2 L[k] (List.getElem_mem hlt)
      simp only [lawG,↓Xn,↓Xo,↓Xg,↓Xd,↓Xe,↓Xf,Tryz.VΓ,Tryz.Γs,Xp,Xi,Nat.reduceAdd,Nat.reduceSub,Nat.reduceLT,Nat.reduceLeDiff,reduceIte,reduceCtorEq,Nat.reduceEqDiff,implies_true,forall_const,lawV,h0,h2,h3,h4,h5,h61,h62,h63,h10,hb0,hj,hs0,hx]
      refine ⟨fun _ => ⟨⟨by omega,by omega⟩,by simp; omega,?_⟩,fun h => absurd h (by simp; omega)⟩
      have hidl := segsJoin_len (L.take k)
      have hid2 : (L.take k).flatten.length ≤ 4097 * 4097 := flatten_le (n := 4097) (m := 4097) (by simp; omega) (fun y hy => by have := hsl y (List.mem_of_mem_take hy); omega) (Nat.le_refl _)
      have htl : (L.take k).length ≤ 4097 := by simp; omega
      have hsj := segsJoin_take hlt
      have hxa : segPlain L[k] = false → L.all segPlain = false := fun h => all_not hlt h
      have hxo : segPlain L[k] = true → (L.take (k + 1)).all segPlain = true := fun h => all_take_snoc hlt hok h
      clear hok
      generalize L[k] = x at *
      refine loopV_mk (fun σ => ∃ i : Nat,i ≤ x.length ∧ lk 0 σ.t = some (.str S) ∧ lk 2 σ.t = some (.p 0 0) ∧ lk 3 σ.t = some (.int .i64 0) ∧ lk 4 σ.t = some (.int .i64 (pre (· == 58) S)) ∧ lk 5 σ.t = some (.o j L.length) ∧ lk 61 σ.t = some (.o j L.length) ∧ lk 62 σ.t = some (.int .i64 L.length) ∧ lk 63 σ.t = some (.int .i64 k) ∧ lk 11 σ.t = some (.int .i64 k) ∧ lk 10 σ.t = some (.str (segsJoin (L.take k))) ∧ lk 12 σ.t = some (.str x) ∧ lk 13 σ.t = some (.int .i64 i) ∧
        σ.b[0]? = some (.cells [.str [],.str []] 60 true) ∧ σ.b[j]? = some (.own (L.map SV.str) 9 1 L.length true) ∧ (x.take i).all (fun c => plainD c || c == 37) = true) (fun σ => x.length - lkI 13 σ) ⟨0,by omega,h0,h2,h3,h4,h5,h61,h62,h63,rfl,h10,rfl,rfl,hb0,hj,rfl⟩ ?_
      clear hb0 hj h0 h2 h3 h4 h5 hs0 h61 h62 h63 h10
      rintro ⟨t,b⟩ ⟨i,hi,h0,h2,h3,h4,h5,h61,h62,h63,h11,h10,h12,h13,hb0,hj,hok⟩
      simp only at h0 h2 h3 h4 h5 h61 h62 h63 h11 h10 h12 h13 hb0 hj
      have hs0 : ∀ X,(b.set 0 X)[0]? = some X := fun X => List.getElem?_set_self (List.getElem?_eq_some_iff.1 hb0).1
      rw [lkI_eq h13]
      by_cases hil : i < x.length
      · have hg : x.getD i 0 = x[i] := by simp [List.getD,hil]
        simp only [lawG,↓Xn,↓Xo,↓Xg,↓Xd,↓Xe,↓Xf,Tryz.VΓ,Tryz.Γs,Xp,Xi,Nat.reduceAdd,Nat.reduceSub,Nat.reduceLT,Nat.reduceLeDiff,reduceIte,reduceCtorEq,Nat.reduceEqDiff,implies_true,forall_const,lawV,h0,h2,h3,h4,h5,h61,h62,h63,h10,hb0,hj,hs0,h11,h12,h13,hg]
        refine ⟨fun _ => ⟨⟨by omega,by omega⟩,?_⟩,fun h => absurd h (by simp; omega)⟩
        (refine callV_pc (p_r10_plain x[i]) ?_; simp only [lawG,↓Xn,↓Xo,↓Xg,↓Xd,↓Xe,↓Xf,Tryz.VΓ,Tryz.Γs,Xp,Xi,Nat.reduceAdd,Nat.reduceSub,Nat.reduceLT,Nat.reduceLeDiff,reduceIte,reduceCtorEq,Nat.reduceEqDiff,implies_true,forall_const,lawV,h0,h2,h3,h4,h5,h61,h62,h63,h10,hb0,hj,hs0,h11,h12,h13,hg])
        have hb37 := byte_is hil 37 (n := 37) rfl
        have hb38 : ((x[i].toNat : Int) != 37) = (x[i] != 37) := by
          show (!_) = (!_); rw [← hb37,hg]
        rw [hb38]
        have fin : (plainD x[i] || x[i] == 37) = true → ∀ (t' : List (Nat × SV)),lk 13 t' = some (.int .i64 ((i : Int) + 1)) → (∃ m : Nat,m ≤ x.length ∧ SV.int IntKind.i64 ((i : Int) + 1) = SV.int IntKind.i64 (m : Int) ∧ (x.take m).all (fun c => plainD c || c == 37) = true) ∧ x.length - lkI 13 ⟨t',b⟩ < x.length - (i : Int).toNat := fun hm t' k6 =>
          ⟨⟨i + 1,by omega,rfl,all_take_snoc hil hok hm⟩,by rw [lkI_eq (σ := ⟨t',b⟩) k6]; omega⟩
        refine ⟨fun hp => ⟨⟨by omega,by omega⟩,fun h37 => ?_,fun h37 => ⟨⟨by omega,by omega⟩,fin ?_ _ rfl⟩⟩,fun hp => ⟨⟨by omega,by omega⟩,fin ?_ _ rfl⟩⟩
        · rw [if_pos (hxa (all_not hil (by simp at hp h37 ⊢; exact ⟨hp,h37⟩)))]; rfl
        · simp at h37 ⊢; exact .inr h37
        · simp at hp ⊢; exact .inl hp
      · have hie : i = x.length := by omega
        subst hie
        rw [List.take_length] at hok
        have pd := p_r3_Decode x
        rw [decode_seg (by omega),if_neg hxb] at pd
        simp only at pd
        have pe := p_r10_Escaped (decV x) (by have := decV_len x; omega)
        have hdl := didEsc_len (decV x)
        have hdl2 := decV_len x
        simp only [lawG,↓Xn,↓Xo,↓Xg,↓Xd,↓Xe,↓Xf,Tryz.VΓ,Tryz.Γs,Xp,Xi,Nat.reduceAdd,Nat.reduceSub,Nat.reduceLT,Nat.reduceLeDiff,reduceIte,reduceCtorEq,Nat.reduceEqDiff,implies_true,forall_const,lawV,h0,h2,h3,h4,h5,h61,h62,h63,h10,hb0,hj,hs0,h11,h12,h13]
        refine ⟨fun h => absurd h (by simp),fun _ => ?_⟩
        have hxp : segPlain x = true := hok
        (refine callV_pc pd ?_; simp only [lawG,↓Xn,↓Xo,↓Xg,↓Xd,↓Xe,↓Xf,Tryz.VΓ,Tryz.Γs,Xp,Xi,Nat.reduceAdd,Nat.reduceSub,Nat.reduceLT,Nat.reduceLeDiff,reduceIte,reduceCtorEq,Nat.reduceEqDiff,implies_true,forall_const,lawV,h0,h2,h3,h4,h5,h61,h62,h63,h10,hb0,hj,hs0,h11,h12,h13,beq_self_eq_true,bne_self_eq_false,Int.reduceBEq,Int.reduceBNe,Int.reduceLT,Int.reduceLE])
        refine ⟨fun h0k => ⟨by omega,?_⟩,fun h0k => ?_⟩
        · (refine callV_pc pe ?_; simp only [lawG,↓Xn,↓Xo,↓Xg,↓Xd,↓Xe,↓Xf,Tryz.VΓ,Tryz.Γs,Xp,Xi,Nat.reduceAdd,Nat.reduceSub,Nat.reduceLT,Nat.reduceLeDiff,reduceIte,reduceCtorEq,Nat.reduceEqDiff,implies_true,forall_const,lawV,h0,h2,h3,h4,h5,h61,h62,h63,h10,hb0,hj,hs0,h11,h12,h13])
          refine ⟨by simp; omega,⟨by omega,by omega⟩,⟨k + 1,by omega,rfl,?_,hxo hxp⟩,?_⟩
          · rw [hsj,if_neg (by simp at h0k; omega)]
          · rw [lkI_eq (k := .i64) (n := (k : Int) + 1) rfl]; omega
        · (refine callV_pc pe ?_; simp only [lawG,↓Xn,↓Xo,↓Xg,↓Xd,↓Xe,↓Xf,Tryz.VΓ,Tryz.Γs,Xp,Xi,Nat.reduceAdd,Nat.reduceSub,Nat.reduceLT,Nat.reduceLeDiff,reduceIte,reduceCtorEq,Nat.reduceEqDiff,implies_true,forall_const,lawV,h0,h2,h3,h4,h5,h61,h62,h63,h10,hb0,hj,hs0,h11,h12,h13])
          refine ⟨by omega,⟨by omega,by omega⟩,⟨k + 1,by omega,rfl,?_,hxo hxp⟩,?_⟩
          · rw [hsj,if_pos (by simp at h0k; omega),List.append_nil]
          · rw [lkI_eq (k := .i64) (n := (k : Int) + 1) rfl]; omega
    · have hie : k = L.length := by omega
      subst hie
      rw [List.take_length] at hok h10
      rw [if_neg (by rw [hok]; simp)]
      have hL0 : 0 < L.length := by omega
      have hz : (L.map SV.str)[((L.length : Int) - 1).toNat * 1]? = some (.str (L[L.length - 1]'(by omega))) := by
        rw [show ((L.length : Int) - 1).toNat * 1 = L.length - 1 by omega]
        simp [hL0]
      have hzl : L.getLast? = some (L[L.length - 1]'(by omega)) := by rw [List.getLast?_eq_getElem?]; simp [hL0]
      rw [hzl]
      generalize L[L.length - 1]'(by omega) = z at hz
      simp only [Option.some.injEq]
      have hpl2 := pre_le (· == 58) S
      simp only [lawG,↓Xn,↓Xo,↓Xg,↓Xd,↓Xe,↓Xf,Tryz.VΓ,Tryz.Γs,Xp,Xi,Nat.reduceAdd,Nat.reduceSub,Nat.reduceLT,Nat.reduceLeDiff,reduceIte,reduceCtorEq,Nat.reduceEqDiff,implies_true,forall_const,lawV,h0,h2,h3,h4,h5,h61,h62,h63,h10,hb0,hj,hs0,hz]
      refine ⟨fun h => absurd h (by simp),fun _ => ⟨⟨by omega,by omega⟩,⟨by omega,by omega⟩,by simp; omega,fun h => ?_,fun h => ?_⟩⟩
      · rw [if_pos (by simpa using h)]; rfl
      · rw [if_neg (by simpa using h)]
        exact ⟨⟨by omega,by omega⟩,rfl⟩
set_option maxRecDepth 20000 in
set_option maxHeartbeats 4000000 in
theorem p_r10_Parse (s : Bytes) : PC Tryz.V 78 [.str s] (.tup [dusv (didUrl s).1,.int .i64 (didUrl s).2]) := by
  refine pc_of 3000 Tryz.func78 rfl Tryz.ntmps78 Tryz.results78 Tryz.call78 (by simp) (by simp [flat,flat.flatL,dsv,dusv]) (by simp [flat,flat.flatL,dsv,dusv]) ?_
  simp only [lawG,↓Xn,↓Xo,↓Xg,↓Xd,↓Xe,↓Xf,Tryz.VΓ,Tryz.Γs,Xp,Xi,Nat.reduceAdd,Nat.reduceSub,Nat.reduceLT,Nat.reduceLeDiff,reduceIte,reduceCtorEq,Nat.reduceEqDiff,implies_true,forall_const,lawV]
  unfold didUrl
  refine ⟨fun h => ?_,fun h => ?_⟩
  · have h : 4096 < s.length := (by simp at h; omega)
    rw [if_pos h]; rfl
  have h : ¬ 4096 < s.length := (by simp at h; omega)
  rw [if_neg h,didUrlOf_ref]
  have pi := p_r1_Index s [47,63,35] (by omega) (by decide)
  have hpl : didHead s ≤ s.length := pre_le ([47,63,35].contains ·) s
  rw [show pre (List.contains [47,63,35] ·) s = didHead s from rfl] at pi
  (refine callV_pc pi ?_; simp only [lawG,↓Xn,↓Xo,↓Xg,↓Xd,↓Xe,↓Xf,Tryz.VΓ,Tryz.Γs,Xp,Xi,Nat.reduceAdd,Nat.reduceSub,Nat.reduceLT,Nat.reduceLeDiff,reduceIte,reduceCtorEq,Nat.reduceEqDiff,implies_true,forall_const,lawV])
  refine ⟨⟨by omega,by omega⟩,?_⟩
  have p0 := p_r10_ParseDID (s.take (didHead s))
  have hrl : (s.drop (didHead s)).length ≤ 4096 := by simp; omega
  generalize didParse (s.take (didHead s)) = r1 at p0 ⊢
  obtain ⟨⟨rm,ri⟩,e1⟩ := r1
  unfold dsv at p0
  simp only at p0 ⊢
  unfold didUrlEnd
  (refine callV_pc p0 ?_; simp only [lawG,↓Xn,↓Xo,↓Xg,↓Xd,↓Xe,↓Xf,Tryz.VΓ,Tryz.Γs,Xp,Xi,Nat.reduceAdd,Nat.reduceSub,Nat.reduceLT,Nat.reduceLeDiff,reduceIte,reduceCtorEq,Nat.reduceEqDiff,implies_true,forall_const,lawV])
  refine ⟨fun h0 => (by rw [if_pos (by simpa using h0)]; rfl),fun h0 => ⟨⟨by omega,by omega⟩,?_⟩⟩
  rw [if_neg (by simpa using h0)]
  refine ⟨(OkD_fast (by kernel_rfl)),?_⟩
  generalize s.drop (didHead s) = r at hrl ⊢
  have px := p_r1_Index r [35] (by omega) (by simp)
  rw [pre_one] at px
  (refine callV_pc px ?_; simp only [lawG,↓Xn,↓Xo,↓Xg,↓Xd,↓Xe,↓Xf,Tryz.VΓ,Tryz.Γs,Xp,Xi,Nat.reduceAdd,Nat.reduceSub,Nat.reduceLT,Nat.reduceLeDiff,reduceIte,reduceCtorEq,Nat.reduceEqDiff,implies_true,forall_const,lawV])
  refine ⟨fun hk1 => ?_,fun hk1 => ?_⟩
  · have hk1' : pre (· == 35) r < r.length := by simpa using hk1
    rw [show cutC 35 r = (r.take (pre (· == 35) r),r.drop (pre (· == 35) r + 1),true) from if_pos hk1']
    simp only
    have hl1 : (r.take (pre (· == 35) r)).length ≤ 4096 := by rw [List.length_take]; omega
    refine ⟨by omega,by omega,by omega,(OkD_fast (by kernel_rfl)),?_⟩
    generalize r.take (pre (· == 35) r) = s1 at hl1 ⊢
    generalize r.drop (pre (· == 35) r + 1) = fr
    have px2 := p_r1_Index s1 [63] (by omega) (by simp)
    rw [pre_one] at px2
    (refine callV_pc px2 ?_; simp only [lawG,↓Xn,↓Xo,↓Xg,↓Xd,↓Xe,↓Xf,Tryz.VΓ,Tryz.Γs,Xp,Xi,Nat.reduceAdd,Nat.reduceSub,Nat.reduceLT,Nat.reduceLeDiff,reduceIte,reduceCtorEq,Nat.reduceEqDiff,implies_true,forall_const,lawV])
    refine ⟨fun hk2 => ?_,fun hk2 => ?_⟩
    · have hk2' : pre (· == 63) s1 < s1.length := by simpa using hk2
      rw [show cutC 63 s1 = (s1.take (pre (· == 63) s1),s1.drop (pre (· == 63) s1 + 1),true) from if_pos hk2']
      simp only
      refine ⟨by omega,by omega,by omega,(OkD_fast (by kernel_rfl)),?_⟩
      generalize s1.take (pre (· == 63) s1) = s2
      generalize s1.drop (pre (· == 63) s1 + 1) = qu
      have p1 := p_r3_Normalize s2 inPath (by decide)
      have p2 := p_r3_Normalize (qu) inQuery (by decide)
      have p3 := p_r3_Normalize (fr) inQuery (by decide)
      generalize pctNorm inPath s2 = r2 at p1 ⊢
      generalize pctNorm inQuery (qu) = r3 at p2 p3 ⊢
      generalize pctNorm inQuery (fr) = r4 at p3 ⊢
      obtain ⟨r2,e2⟩ := r2
      obtain ⟨r3,e3⟩ := r3
      obtain ⟨r4,e4⟩ := r4
      simp only at p1 p2 p3 ⊢
      (refine callV_pc p1 ?_; simp only [lawG,↓Xn,↓Xo,↓Xg,↓Xd,↓Xe,↓Xf,Tryz.VΓ,Tryz.Γs,Xp,Xi,Nat.reduceAdd,Nat.reduceSub,Nat.reduceLT,Nat.reduceLeDiff,reduceIte,reduceCtorEq,Nat.reduceEqDiff,implies_true,forall_const,lawV])
      refine ⟨fun h1 => (by rw [if_pos (by simpa using h1)]; rfl),fun h1 => ?_⟩
      rw [if_neg (by simpa using h1)]
      (refine callV_pc p2 ?_; simp only [lawG,↓Xn,↓Xo,↓Xg,↓Xd,↓Xe,↓Xf,Tryz.VΓ,Tryz.Γs,Xp,Xi,Nat.reduceAdd,Nat.reduceSub,Nat.reduceLT,Nat.reduceLeDiff,reduceIte,reduceCtorEq,Nat.reduceEqDiff,implies_true,forall_const,lawV])
      refine ⟨fun h2 => (by rw [if_pos (by simpa using h2)]; rfl),fun h2 => ?_⟩
      rw [if_neg (by simpa using h2)]
      (refine callV_pc p3 ?_; simp only [lawG,↓Xn,↓Xo,↓Xg,↓Xd,↓Xe,↓Xf,Tryz.VΓ,Tryz.Γs,Xp,Xi,Nat.reduceAdd,Nat.reduceSub,Nat.reduceLT,Nat.reduceLeDiff,reduceIte,reduceCtorEq,Nat.reduceEqDiff,implies_true,forall_const,lawV])
      refine ⟨fun h3 => (by rw [if_pos (by simpa using h3)]; rfl),fun h3 => ?_⟩
      rw [if_neg (by simpa using h3)]
      rfl
    · have hk2' : ¬ pre (· == 63) s1 < s1.length := by simpa using hk2
      rw [show cutC 63 s1 = (s1,[],false) from if_neg hk2']
      simp only
      have p1 := p_r3_Normalize s1 inPath (by decide)
      have p2 := p_r3_Normalize (([] : Bytes)) inQuery (by decide)
      have p3 := p_r3_Normalize (fr) inQuery (by decide)
      generalize pctNorm inPath s1 = r2 at p1 ⊢
      generalize pctNorm inQuery (([] : Bytes)) = r3 at p2 p3 ⊢
      generalize pctNorm inQuery (fr) = r4 at p3 ⊢
      obtain ⟨r2,e2⟩ := r2
      obtain ⟨r3,e3⟩ := r3
      obtain ⟨r4,e4⟩ := r4
      simp only at p1 p2 p3 ⊢
      (refine callV_pc p1 ?_; simp only [lawG,↓Xn,↓Xo,↓Xg,↓Xd,↓Xe,↓Xf,Tryz.VΓ,Tryz.Γs,Xp,Xi,Nat.reduceAdd,Nat.reduceSub,Nat.reduceLT,Nat.reduceLeDiff,reduceIte,reduceCtorEq,Nat.reduceEqDiff,implies_true,forall_const,lawV])
      refine ⟨fun h1 => (by rw [if_pos (by simpa using h1)]; rfl),fun h1 => ?_⟩
      rw [if_neg (by simpa using h1)]
      (refine callV_pc p2 ?_; simp only [lawG,↓Xn,↓Xo,↓Xg,↓Xd,↓Xe,↓Xf,Tryz.VΓ,Tryz.Γs,Xp,Xi,Nat.reduceAdd,Nat.reduceSub,Nat.reduceLT,Nat.reduceLeDiff,reduceIte,reduceCtorEq,Nat.reduceEqDiff,implies_true,forall_const,lawV])
      refine ⟨fun h2 => (by rw [if_pos (by simpa using h2)]; rfl),fun h2 => ?_⟩
      rw [if_neg (by simpa using h2)]
      (refine callV_pc p3 ?_; simp only [lawG,↓Xn,↓Xo,↓Xg,↓Xd,↓Xe,↓Xf,Tryz.VΓ,Tryz.Γs,Xp,Xi,Nat.reduceAdd,Nat.reduceSub,Nat.reduceLT,Nat.reduceLeDiff,reduceIte,reduceCtorEq,Nat.reduceEqDiff,implies_true,forall_const,lawV])
      refine ⟨fun h3 => (by rw [if_pos (by simpa using h3)]; rfl),fun h3 => ?_⟩
      rw [if_neg (by simpa using h3)]
      rfl
  · have hk1' : ¬ pre (· == 35) r < r.length := by simpa using hk1
    rw [show cutC 35 r = (r,[],false) from if_neg hk1']
    simp only
    have hl1 := hrl
    have px2 := p_r1_Index r [63] (by omega) (by simp)
    rw [pre_one] at px2
    (refine callV_pc px2 ?_; simp only [lawG,↓Xn,↓Xo,↓Xg,↓Xd,↓Xe,↓Xf,Tryz.VΓ,Tryz.Γs,Xp,Xi,Nat.reduceAdd,Nat.reduceSub,Nat.reduceLT,Nat.reduceLeDiff,reduceIte,reduceCtorEq,Nat.reduceEqDiff,implies_true,forall_const,lawV])
    refine ⟨fun hk2 => ?_,fun hk2 => ?_⟩
    · have hk2' : pre (· == 63) r < r.length := by simpa using hk2
      rw [show cutC 63 r = (r.take (pre (· == 63) r),r.drop (pre (· == 63) r + 1),true) from if_pos hk2']
      simp only
      refine ⟨by omega,by omega,by omega,(OkD_fast (by kernel_rfl)),?_⟩
      generalize r.take (pre (· == 63) r) = s2
      generalize r.drop (pre (· == 63) r + 1) = qu
      have p1 := p_r3_Normalize s2 inPath (by decide)
      have p2 := p_r3_Normalize (qu) inQuery (by decide)
      have p3 := p_r3_Normalize (([] : Bytes)) inQuery (by decide)
      generalize pctNorm inPath s2 = r2 at p1 ⊢
      generalize pctNorm inQuery (qu) = r3 at p2 p3 ⊢
      generalize pctNorm inQuery (([] : Bytes)) = r4 at p3 ⊢
      obtain ⟨r2,e2⟩ := r2
      obtain ⟨r3,e3⟩ := r3
      obtain ⟨r4,e4⟩ := r4
      simp only at p1 p2 p3 ⊢
      (refine callV_pc p1 ?_; simp only [lawG,↓Xn,↓Xo,↓Xg,↓Xd,↓Xe,↓Xf,Tryz.VΓ,Tryz.Γs,Xp,Xi,Nat.reduceAdd,Nat.reduceSub,Nat.reduceLT,Nat.reduceLeDiff,reduceIte,reduceCtorEq,Nat.reduceEqDiff,implies_true,forall_const,lawV])
      refine ⟨fun h1 => (by rw [if_pos (by simpa using h1)]; rfl),fun h1 => ?_⟩
      rw [if_neg (by simpa using h1)]
      (refine callV_pc p2 ?_; simp only [lawG,↓Xn,↓Xo,↓Xg,↓Xd,↓Xe,↓Xf,Tryz.VΓ,Tryz.Γs,Xp,Xi,Nat.reduceAdd,Nat.reduceSub,Nat.reduceLT,Nat.reduceLeDiff,reduceIte,reduceCtorEq,Nat.reduceEqDiff,implies_true,forall_const,lawV])
      refine ⟨fun h2 => (by rw [if_pos (by simpa using h2)]; rfl),fun h2 => ?_⟩
      rw [if_neg (by simpa using h2)]
      (refine callV_pc p3 ?_; simp only [lawG,↓Xn,↓Xo,↓Xg,↓Xd,↓Xe,↓Xf,Tryz.VΓ,Tryz.Γs,Xp,Xi,Nat.reduceAdd,Nat.reduceSub,Nat.reduceLT,Nat.reduceLeDiff,reduceIte,reduceCtorEq,Nat.reduceEqDiff,implies_true,forall_const,lawV])
      refine ⟨fun h3 => (by rw [if_pos (by simpa using h3)]; rfl),fun h3 => ?_⟩
      rw [if_neg (by simpa using h3)]
      rfl
    · have hk2' : ¬ pre (· == 63) r < r.length := by simpa using hk2
      rw [show cutC 63 r = (r,[],false) from if_neg hk2']
      simp only
      have p1 := p_r3_Normalize r inPath (by decide)
      have p2 := p_r3_Normalize (([] : Bytes)) inQuery (by decide)
      have p3 := p_r3_Normalize (([] : Bytes)) inQuery (by decide)
      generalize pctNorm inPath r = r2 at p1 ⊢
      generalize pctNorm inQuery (([] : Bytes)) = r3 at p2 p3 ⊢
      generalize pctNorm inQuery (([] : Bytes)) = r4 at p3 ⊢
      obtain ⟨r2,e2⟩ := r2
      obtain ⟨r3,e3⟩ := r3
      obtain ⟨r4,e4⟩ := r4
      simp only at p1 p2 p3 ⊢
      (refine callV_pc p1 ?_; simp only [lawG,↓Xn,↓Xo,↓Xg,↓Xd,↓Xe,↓Xf,Tryz.VΓ,Tryz.Γs,Xp,Xi,Nat.reduceAdd,Nat.reduceSub,Nat.reduceLT,Nat.reduceLeDiff,reduceIte,reduceCtorEq,Nat.reduceEqDiff,implies_true,forall_const,lawV])
      refine ⟨fun h1 => (by rw [if_pos (by simpa using h1)]; rfl),fun h1 => ?_⟩
      rw [if_neg (by simpa using h1)]
      (refine callV_pc p2 ?_; simp only [lawG,↓Xn,↓Xo,↓Xg,↓Xd,↓Xe,↓Xf,Tryz.VΓ,Tryz.Γs,Xp,Xi,Nat.reduceAdd,Nat.reduceSub,Nat.reduceLT,Nat.reduceLeDiff,reduceIte,reduceCtorEq,Nat.reduceEqDiff,implies_true,forall_const,lawV])
      refine ⟨fun h2 => (by rw [if_pos (by simpa using h2)]; rfl),fun h2 => ?_⟩
      rw [if_neg (by simpa using h2)]
      (refine callV_pc p3 ?_; simp only [lawG,↓Xn,↓Xo,↓Xg,↓Xd,↓Xe,↓Xf,Tryz.VΓ,Tryz.Γs,Xp,Xi,Nat.reduceAdd,Nat.reduceSub,Nat.reduceLT,Nat.reduceLeDiff,reduceIte,reduceCtorEq,Nat.reduceEqDiff,implies_true,forall_const,lawV])
      refine ⟨fun h3 => (by rw [if_pos (by simpa using h3)]; rfl),fun h3 => ?_⟩
      rw [if_neg (by simpa using h3)]
      rfl
theorem p_r10_FormatDID (d : Did) (h : DidFits d) : PC Tryz.V 34 [dsv d] (.str (didText d)) := by
  obtain ⟨m,i⟩ := d
  simp only [DidFits] at h
  refine pc_of 3000 Tryz.func34 rfl Tryz.ntmps34 Tryz.results34 Tryz.call34 (by simp) (by simp [flat,flat.flatL,dsv,dusv]) (by simp [flat,flat.flatL,dsv,dusv]) ?_
  unfold dsv
  simp only [lawG,↓Xn,↓Xo,↓Xg,↓Xd,↓Xe,↓Xf,Tryz.VΓ,Tryz.Γs,Xp,Xi,Nat.reduceAdd,Nat.reduceSub,Nat.reduceLT,Nat.reduceLeDiff,reduceIte,reduceCtorEq,Nat.reduceEqDiff,implies_true,forall_const,lawV]
  simp only [List.length_append,List.length_cons,List.length_nil]
  refine ⟨by omega,by omega,by omega,?_⟩
  simp [didText,didS]
set_option maxHeartbeats 2000000 in
theorem p_r10_Format (u : DidUrl) (h : DidUrlFits u) : PC Tryz.V 44 [dusv u] (.str (didUrlText u)) := by
  obtain ⟨⟨m,i⟩,p,q,f,b,c⟩ := u
  simp only [DidUrlFits,DidFits] at h
  have pf := p_r10_FormatDID ⟨m,i⟩ h.1
  have hl := didText_len ⟨m,i⟩
  unfold dsv at pf
  simp only at pf hl
  refine pc_of 3000 Tryz.func44 rfl Tryz.ntmps44 Tryz.results44 Tryz.call44 (by simp) (by simp [flat,flat.flatL,dsv,dusv]) (by simp [flat,flat.flatL,dsv,dusv]) ?_
  unfold dusv
  simp only [lawG,↓Xn,↓Xo,↓Xg,↓Xd,↓Xe,↓Xf,Tryz.VΓ,Tryz.Γs,Xp,Xi,Nat.reduceAdd,Nat.reduceSub,Nat.reduceLT,Nat.reduceLeDiff,reduceIte,reduceCtorEq,Nat.reduceEqDiff,implies_true,forall_const,lawV]
  (refine callD_pc pf ?_; simp only [lawG,↓Xn,↓Xo,↓Xg,↓Xd,↓Xe,↓Xf,Tryz.VΓ,Tryz.Γs,Xp,Xi,Nat.reduceAdd,Nat.reduceSub,Nat.reduceLT,Nat.reduceLeDiff,reduceIte,reduceCtorEq,Nat.reduceEqDiff,implies_true,forall_const,lawV])
  generalize hT : didText ⟨m,i⟩ = T at hl ⊢
  refine ⟨by omega,(OkD_fast (by kernel_rfl)),?_⟩
  cases b <;> cases c <;> simp [didUrlText,hT] <;> omega
set_option maxHeartbeats 2000000 in
theorem p_r10_Resolve (d : Did) (r : Bytes) (h : DidFits d) (hr : r.length ≤ 140737488355328) : PC Tryz.V 43 [dsv d,.str r] (.tup [dusv (didResolve d r).1,.int .i64 (didResolve d r).2]) := by
  have pp := p_r1_Prefix r didS
  rw [show Lib.hasPrefix r didS = didS.isPrefixOf r from rfl] at pp
  have pf := p_r10_FormatDID d h
  have hl := didText_len d
  obtain ⟨h1,h2⟩ := h
  have pu := p_r10_Parse r
  have pq := p_r10_Parse (didText d ++ r)
  refine pc_of 3000 Tryz.func43 rfl Tryz.ntmps43 Tryz.results43 Tryz.call43 (by simp) (by simp [flat,flat.flatL,dsv,dusv]) (by simp [flat,flat.flatL,dsv,dusv]) ?_
  unfold dsv
  unfold dsv at pf
  unfold dusv at pu pq
  unfold didResolve
  simp only [lawG,↓Xn,↓Xo,↓Xg,↓Xd,↓Xe,↓Xf,Tryz.VΓ,Tryz.Γs,Xp,Xi,Nat.reduceAdd,Nat.reduceSub,Nat.reduceLT,Nat.reduceLeDiff,reduceIte,reduceCtorEq,Nat.reduceEqDiff,implies_true,forall_const,lawV]
  (refine callV_pc pp ?_; simp only [lawG,↓Xn,↓Xo,↓Xg,↓Xd,↓Xe,↓Xf,Tryz.VΓ,Tryz.Γs,Xp,Xi,Nat.reduceAdd,Nat.reduceSub,Nat.reduceLT,Nat.reduceLeDiff,reduceIte,reduceCtorEq,Nat.reduceEqDiff,implies_true,forall_const,lawV])
  refine ⟨fun h3 => ?_,fun h3 => ?_⟩
  · rw [if_pos h3]
    (refine callV_pc pu ?_; simp only [lawG,↓Xn,↓Xo,↓Xg,↓Xd,↓Xe,↓Xf,Tryz.VΓ,Tryz.Γs,Xp,Xi,Nat.reduceAdd,Nat.reduceSub,Nat.reduceLT,Nat.reduceLeDiff,reduceIte,reduceCtorEq,Nat.reduceEqDiff,implies_true,forall_const,lawV])
    rfl
  rw [if_neg (by rw [h3]; simp)]
  cases r with
  | nil =>
    rw [if_pos (.inl rfl)]
    rw [List.append_nil] at pq ⊢
    simp only [lawG,↓Xn,↓Xo,↓Xg,↓Xd,↓Xe,↓Xf,Tryz.VΓ,Tryz.Γs,Xp,Xi,Nat.reduceAdd,Nat.reduceSub,Nat.reduceLT,Nat.reduceLeDiff,reduceIte,reduceCtorEq,Nat.reduceEqDiff,implies_true,forall_const,lawV,beq_self_eq_true,bne_self_eq_false,Int.reduceBEq,Int.reduceBNe,Int.reduceLT,Int.reduceLE]
    (refine callV_pc pf ?_; simp only [lawG,↓Xn,↓Xo,↓Xg,↓Xd,↓Xe,↓Xf,Tryz.VΓ,Tryz.Γs,Xp,Xi,Nat.reduceAdd,Nat.reduceSub,Nat.reduceLT,Nat.reduceLeDiff,reduceIte,reduceCtorEq,Nat.reduceEqDiff,implies_true,forall_const,lawV,beq_self_eq_true,bne_self_eq_false,Int.reduceBEq,Int.reduceBNe,Int.reduceLT,Int.reduceLE])
    refine ⟨by omega,?_⟩
    (refine callV_pc pq ?_; simp only [lawG,↓Xn,↓Xo,↓Xg,↓Xd,↓Xe,↓Xf,Tryz.VΓ,Tryz.Γs,Xp,Xi,Nat.reduceAdd,Nat.reduceSub,Nat.reduceLT,Nat.reduceLeDiff,reduceIte,reduceCtorEq,Nat.reduceEqDiff,implies_true,forall_const,lawV,beq_self_eq_true,bne_self_eq_false,Int.reduceBEq,Int.reduceBNe,Int.reduceLT,Int.reduceLE])
    rfl
  | cons c r =>
    have hg : (c :: r).getD (Int.toNat 0) 0 = c := rfl
    have hc : (c :: r = [] ∨ (c :: r).head? = some 47 ∨ (c :: r).head? = some 63 ∨ (c :: r).head? = some 35) ↔ [47,63,35].contains c = true := by simp
    simp only [List.length_cons] at hr
    rw [hg,ite_congr (propext hc) (fun _ => rfl) (fun _ => rfl)]
    refine ⟨fun _ => ⟨⟨by omega,by simp⟩,?_⟩,fun h => (by simp at h)⟩
    (refine callV_pc (p_r1_In c [47,63,35] (by decide)) ?_; simp only [lawG,↓Xn,↓Xo,↓Xg,↓Xd,↓Xe,↓Xf,Tryz.VΓ,Tryz.Γs,Xp,Xi,Nat.reduceAdd,Nat.reduceSub,Nat.reduceLT,Nat.reduceLeDiff,reduceIte,reduceCtorEq,Nat.reduceEqDiff,implies_true,forall_const,lawV])
    refine ⟨fun h4 => ?_,fun h4 => ?_⟩
    · rw [if_neg (by simp at h4 ⊢; exact h4)]; rfl
    · rw [if_pos (by rw [Bool.not_eq_false'] at h4; exact h4)]
      (refine callV_pc pf ?_; simp only [lawG,↓Xn,↓Xo,↓Xg,↓Xd,↓Xe,↓Xf,Tryz.VΓ,Tryz.Γs,Xp,Xi,Nat.reduceAdd,Nat.reduceSub,Nat.reduceLT,Nat.reduceLeDiff,reduceIte,reduceCtorEq,Nat.reduceEqDiff,implies_true,forall_const,lawV])
      refine ⟨by omega,?_⟩
      (refine callV_pc pq ?_; simp only [lawG,↓Xn,↓Xo,↓Xg,↓Xd,↓Xe,↓Xf,Tryz.VΓ,Tryz.Γs,Xp,Xi,Nat.reduceAdd,Nat.reduceSub,Nat.reduceLT,Nat.reduceLeDiff,reduceIte,reduceCtorEq,Nat.reduceEqDiff,implies_true,forall_const,lawV])
      rfl
end Go.Proofs.YtejfjmcjicpodaaGreatDoor
/- The walks of ref17's reader: stop,text,strings,objects,id. -/
set_option linter.all false
set_option maxRecDepth 20000
namespace Go.Proofs.YtejfjmcjicpodaaGreatDoor
open Go Vc Go.RowKit Wf
set_option linter.unusedSimpArgs false
theorem sc_rr_stop {bs : List Res} {p : Nat} {d : Did} {e : Int} (hp : bs[p]? = some (.cells (dec d e) 74 true)) (x : Int) :
    SC Tryz.V 76 [.p p 0,.int .i64 x] bs (fun r b => r = .tup [] ∧ b = bs.set p (.cells (dec d (failE e x)) 74 true)) := by
  have hpl := (List.getElem?_eq_some_iff.1 hp).1
  have hsame := set_same hp
  refine sc_of 3000 Tryz.func76 rfl Tryz.ntmps76 Tryz.results76 Tryz.call76 (by simp) (fun β β' hb => concL_within bs.length _ (by simp [within,within.withinL,hpl]) β β' hb) ?_
  unfold dec at hp hsame ⊢
  by_cases he : e = 0
  · have hb : (e == 0) = true := by simp [he]
    simp only [lawG,↓Xn,↓Xo,↓Xg,↓Xd,↓Xe,↓Xf,Tryz.VΓ,Tryz.Γs,Xp,Xi,Nat.reduceAdd,Nat.reduceSub,Nat.reduceLT,Nat.reduceLeDiff,reduceIte,reduceCtorEq,Nat.reduceEqDiff,implies_true,forall_const,lawV,lawA,beq_self_eq_true,bne_self_eq_false,Int.reduceBEq,Int.reduceBNe,Int.reduceLT,Int.reduceLE,hp,hb]
    simp [failE,he]
  · have hb : (e == 0) = false := by simp [he]
    simp only [lawG,↓Xn,↓Xo,↓Xg,↓Xd,↓Xe,↓Xf,Tryz.VΓ,Tryz.Γs,Xp,Xi,Nat.reduceAdd,Nat.reduceSub,Nat.reduceLT,Nat.reduceLeDiff,reduceIte,reduceCtorEq,Nat.reduceEqDiff,implies_true,forall_const,lawV,lawA,beq_self_eq_true,bne_self_eq_false,Int.reduceBEq,Int.reduceBNe,Int.reduceLT,Int.reduceLE,hp,hb]
    simp [failE,he,hsame]
theorem textsE_one (e : Int) (j : Jv) : textsE e [j] = if j.k = 5 then e else failE e 160 := by
  unfold textsE
  by_cases h : j.k = 5 <;> simp [h]
set_option maxHeartbeats 4000000 in
theorem sc_rr_text {bs : List Res} {j : Jv} {v : Tv} (hv : TJ bs j v) (key : Bytes) {p : Nat} {d : Did} {e : Int} (hp : bs[p]? = some (.cells (dec d e) 74 true)) :
    SC Tryz.V 33 [.p p 0,.agg (tv v),.str key] bs (fun r b' => r = .str (j.at key).t ∧ b' = bs.set p (.cells (dec d (textsE e [j.at key])) 74 true)) := by
  have hpl := (List.getElem?_eq_some_iff.1 hp).1
  refine sc_keepP hpl rfl (dec_flat _ _) ?_
  obtain ⟨x,hx,hget⟩ := r14_Get hv key
  obtain ⟨u1,u2,-⟩ := hx.un
  obtain ⟨v1,v2,v3,v4⟩ := hv.tin
  have ho : (one v.xk && one v.xi) = true := by rw [v3,v4]; rfl
  obtain ⟨x1,x2,x3,x4⟩ := hx.tin
  have hxo : (one x.xk && one x.xi) = true := by rw [x3,x4]; rfl
  have hfl := fun X => sc_rr_stop (at_old hp X) 160
  unfold tv at hget
  refine sc_of 3000 Tryz.func33 rfl Tryz.ntmps33 Tryz.results33 Tryz.call33 (by simp) (fun β β' hb => concL_within bs.length _ (by simp [within,within.withinL,tv,v1,v2,hpl]) β β' hb) ?_
  unfold tv
  simp only [lawG,↓Xn,↓Xo,↓Xg,↓Xd,↓Xe,↓Xf,Tryz.VΓ,Tryz.Γs,Xp,Xi,Nat.reduceAdd,Nat.reduceSub,Nat.reduceLT,Nat.reduceLeDiff,reduceIte,reduceCtorEq,Nat.reduceEqDiff,implies_true,forall_const,lawV,lawA,beq_self_eq_true,bne_self_eq_false,Int.reduceBEq,Int.reduceBNe,Int.reduceLT,Int.reduceLE,ho]
  refine callV_sc (hget _ ((Ro.refl bs).app _)) ?_
  rintro r b1 ⟨rfl,rfl⟩
  by_cases h5 : (j.at key).k = 5
  · have hb : (x.k != 5) = false := by rw [u1,h5]; rfl
    simp only [lawG,↓Xn,↓Xo,↓Xg,↓Xd,↓Xe,↓Xf,Tryz.VΓ,Tryz.Γs,Xp,Xi,Nat.reduceAdd,Nat.reduceSub,Nat.reduceLT,Nat.reduceLeDiff,reduceIte,reduceCtorEq,Nat.reduceEqDiff,implies_true,forall_const,lawV,lawA,beq_self_eq_true,bne_self_eq_false,Int.reduceBEq,Int.reduceBNe,Int.reduceLT,Int.reduceLE,hxo,hb]
    rw [textsE_one,if_pos h5,u2]
    exact ⟨rfl,(KpP.of hp (Kp.refl bs)).app _⟩
  · have hb : (x.k != 5) = true := by rw [u1]; exact bne_iff_ne.2 h5
    simp only [lawG,↓Xn,↓Xo,↓Xg,↓Xd,↓Xe,↓Xf,Tryz.VΓ,Tryz.Γs,Xp,Xi,Nat.reduceAdd,Nat.reduceSub,Nat.reduceLT,Nat.reduceLeDiff,reduceIte,reduceCtorEq,Nat.reduceEqDiff,implies_true,forall_const,lawV,lawA,beq_self_eq_true,bne_self_eq_false,Int.reduceBEq,Int.reduceBNe,Int.reduceLT,Int.reduceLE,hxo,hb]
    refine callV_sc (hfl _) ?_
    rintro r b2 ⟨rfl,rfl⟩
    have hset : ∀ (l : List Res) X,(bs ++ l).set p X = bs.set p X ++ l := fun l X => app_setL hpl l X
    rw [hset]
    have hk1 := (KpP.of hp (Kp.refl bs)).set (dec d (failE e 160)) 74 true
    have hl1 : (bs.set p (.cells (dec d (failE e 160)) 74 true)).length = bs.length := List.length_set
    generalize bs.set p (.cells (dec d (failE e 160)) 74 true) = b1 at hk1 hl1
    rw [← hl1]
    simp only [lawG,↓Xn,↓Xo,↓Xg,↓Xd,↓Xe,↓Xf,Tryz.VΓ,Tryz.Γs,Xp,Xi,Nat.reduceAdd,Nat.reduceSub,Nat.reduceLT,Nat.reduceLeDiff,reduceIte,reduceCtorEq,Nat.reduceEqDiff,implies_true,forall_const,lawV,lawA,beq_self_eq_true,bne_self_eq_false,Int.reduceBEq,Int.reduceBNe,Int.reduceLT,Int.reduceLE]
    rw [textsE_one,if_neg h5,u2]
    exact ⟨rfl,hk1.app _⟩
set_option maxHeartbeats 4000000 in
theorem sc_rr_id {bs : List Res} {j : Jv} {v : Tv} (hv : TJ bs j v) {p : Nat} {d : Did} {e : Int} (hd : DidFits d) (hp : bs[p]? = some (.cells (dec d e) 74 true)) :
    SC Tryz.V 77 [.p p 0,.agg (tv v)] bs (fun r b' => r = .str (idT d j) ∧ b' = bs.set p (.cells (dec d (idE d e j)) 74 true)) := by
  have hpl := (List.getElem?_eq_some_iff.1 hp).1
  refine sc_keepP hpl rfl (dec_flat _ _) ?_
  obtain ⟨v1,v2,v3,v4⟩ := hv.tin
  have ho : (one v.xk && one v.xi) = true := by rw [v3,v4]; rfl
  obtain ⟨x,hx,-⟩ := r14_Get hv ([105,100] : List UInt8)
  obtain ⟨-,-,hlen,-⟩ := hx.un
  have hm := fun X => sc_rr_text (hv.ro ((Ro.refl bs).app X)) ([105,100] : List UInt8) (at_old hp X)
  have pr := p_r10_Resolve d (j.at ([105,100] : List UInt8)).t hd hlen
  unfold tv at hm
  unfold dsv dusv at pr
  refine sc_of 3000 Tryz.func77 rfl Tryz.ntmps77 Tryz.results77 Tryz.call77 (by simp) (fun β β' hb => concL_within bs.length _ (by simp [within,within.withinL,tv,v1,v2,hpl]) β β' hb) ?_
  unfold tv
  simp only [lawG,↓Xn,↓Xo,↓Xg,↓Xd,↓Xe,↓Xf,Tryz.VΓ,Tryz.Γs,Xp,Xi,Nat.reduceAdd,Nat.reduceSub,Nat.reduceLT,Nat.reduceLeDiff,reduceIte,reduceCtorEq,Nat.reduceEqDiff,implies_true,forall_const,lawV,lawA,beq_self_eq_true,bne_self_eq_false,Int.reduceBEq,Int.reduceBNe,Int.reduceLT,Int.reduceLE,ho]
  refine callV_sc (hm _) ?_
  rintro r b1 ⟨rfl,rfl⟩
  have hset : ∀ (l : List Res) X,(bs ++ l).set p X = bs.set p X ++ l := fun l X => app_setL hpl l X
  rw [hset]
  have hk1 := (KpP.of hp (Kp.refl bs)).set (dec d (textsE e [j.at ([105,100] : List UInt8)])) 74 true
  have hl1 : (bs.set p (.cells (dec d (textsE e [j.at ([105,100] : List UInt8)])) 74 true)).length = bs.length := List.length_set
  generalize bs.set p (.cells (dec d (textsE e [j.at ([105,100] : List UInt8)])) 74 true) = b1 at hk1 hl1
  have hp1 := hk1.2.2
  unfold dec at hp1
  simp only [lawG,↓Xn,↓Xo,↓Xg,↓Xd,↓Xe,↓Xf,Tryz.VΓ,Tryz.Γs,Xp,Xi,Nat.reduceAdd,Nat.reduceSub,Nat.reduceLT,Nat.reduceLeDiff,reduceIte,reduceCtorEq,Nat.reduceEqDiff,implies_true,forall_const,lawV,lawA,beq_self_eq_true,bne_self_eq_false,Int.reduceBEq,Int.reduceBNe,Int.reduceLT,Int.reduceLE,at_old hp1]
  refine callV_pc pr ?_
  by_cases he : (didResolve d (j.at ([105,100] : List UInt8)).t).2 = 0
  · have hb : ((didResolve d (j.at ([105,100] : List UInt8)).t).2 != 0) = false := by rw [he]; rfl
    have pf := p_r10_Format _ (resolve_fits he)
    unfold dusv at pf
    simp only [lawG,↓Xn,↓Xo,↓Xg,↓Xd,↓Xe,↓Xf,Tryz.VΓ,Tryz.Γs,Xp,Xi,Nat.reduceAdd,Nat.reduceSub,Nat.reduceLT,Nat.reduceLeDiff,reduceIte,reduceCtorEq,Nat.reduceEqDiff,implies_true,forall_const,lawV,lawA,beq_self_eq_true,bne_self_eq_false,Int.reduceBEq,Int.reduceBNe,Int.reduceLT,Int.reduceLE,hb]
    (refine callV_pc (pf) ?_; simp only [lawG,↓Xn,↓Xo,↓Xg,↓Xd,↓Xe,↓Xf,Tryz.VΓ,Tryz.Γs,Xp,Xi,Nat.reduceAdd,Nat.reduceSub,Nat.reduceLT,Nat.reduceLeDiff,reduceIte,reduceCtorEq,Nat.reduceEqDiff,implies_true,forall_const,lawV,lawA,beq_self_eq_true,bne_self_eq_false,Int.reduceBEq,Int.reduceBNe,Int.reduceLT,Int.reduceLE])
    have e1 : idT d j = didUrlText (didResolve d (j.at ([105,100] : List UInt8)).t).1 := by unfold idT; rw [if_pos he]
    have e2 : idE d e j = textsE e [j.at ([105,100] : List UInt8)] := by unfold idE; rw [if_pos he]
    rw [e1,e2]
    exact ⟨rfl,hk1.app _⟩
  · have hb : ((didResolve d (j.at ([105,100] : List UInt8)).t).2 != 0) = true := bne_iff_ne.2 he
    have hfl := fun X => sc_rr_stop (at_old hk1.2.2 X) 160
    simp only [lawG,↓Xn,↓Xo,↓Xg,↓Xd,↓Xe,↓Xf,Tryz.VΓ,Tryz.Γs,Xp,Xi,Nat.reduceAdd,Nat.reduceSub,Nat.reduceLT,Nat.reduceLeDiff,reduceIte,reduceCtorEq,Nat.reduceEqDiff,implies_true,forall_const,lawV,lawA,beq_self_eq_true,bne_self_eq_false,Int.reduceBEq,Int.reduceBNe,Int.reduceLT,Int.reduceLE,hb]
    refine callV_sc (hfl _) ?_
    rintro r b2 ⟨rfl,rfl⟩
    simp only [lawG,↓Xn,↓Xo,↓Xg,↓Xd,↓Xe,↓Xf,Tryz.VΓ,Tryz.Γs,Xp,Xi,Nat.reduceAdd,Nat.reduceSub,Nat.reduceLT,Nat.reduceLeDiff,reduceIte,reduceCtorEq,Nat.reduceEqDiff,implies_true,forall_const,lawV,lawA,beq_self_eq_true,bne_self_eq_false,Int.reduceBEq,Int.reduceBNe,Int.reduceLT,Int.reduceLE]
    have e1 : idT d j = [] := by unfold idT; rw [if_neg he]
    have e2 : idE d e j = failE (textsE e [j.at ([105,100] : List UInt8)]) 160 := by unfold idE; rw [if_neg he]
    rw [e1,e2]
    exact ⟨rfl,(hk1.app _).set _ _ _⟩
end Go.Proofs.YtejfjmcjicpodaaGreatDoor
/- The walks of ref17's reader: objects,strings,method,service. -/
set_option linter.all false
set_option maxRecDepth 20000
namespace Go.Proofs.YtejfjmcjicpodaaGreatDoor
open Go Vc Go.RowKit Wf
set_option linter.unusedSimpArgs false
set_option maxHeartbeats 4000000 in
theorem sc_rr_objects {bs : List Res} {j : Jv} {v : Tv} (hv : TJ bs j v) (key : Bytes) : ∃ y Ls,Ri bs y Ls ∧ TJs bs (listL j key) Ls ∧ ∀ (b : List Res) (p : Nat) (d : Did) (e : Int),Ro bs b → b[p]? = some (.cells (dec d e) 74 true) → within b.length y = true →
    SC Tryz.V 36 [.p p 0,.agg (tv v),.str key] b (fun r b' => r = y ∧ b' = b.set p (.cells (dec d (listE e j key)) 74 true)) := by
  obtain ⟨x,hx,hget⟩ := r14_Get hv key
  obtain ⟨e1,-,-,-,-,-,-,Ls,e8,e9⟩ := hx.un
  have hLL := e9.len
  suffices hs : ∃ y Ls',Ri bs y Ls' ∧ TJs bs (listL j key) Ls' ∧ ∀ (b : List Res) (p : Nat) (d : Did) (e : Int),Ro bs b → b[p]? = some (.cells (dec d e) 74 true) →
      SC Tryz.V 36 [.p p 0,.agg (tv v),.str key] b (fun r b' => r = y ∧ KpP p (dec d (listE e j key)) 74 true b b') by
    obtain ⟨y,Ls',h1,h2,h3⟩ := hs
    exact ⟨y,Ls',h1,h2,fun b p d e hro hp hw => sc_keepP (List.getElem?_eq_some_iff.1 hp).1 hw (dec_flat _ _) (h3 b p d e hro hp)⟩
  unfold tv at hget
  cases hg : j.get key with
  | none =>
    rw [hg] at hget
    refine ⟨.nils,[],.inl ⟨rfl,rfl⟩,by unfold listL; rw [hg,TJs],fun b p d e hro hp => ?_⟩
    have hpl := (List.getElem?_eq_some_iff.1 hp).1
    obtain ⟨v1,v2,v3,v4⟩ := (hv.ro hro).tin
    have ho : (one v.xk && one v.xi) = true := by rw [v3,v4]; rfl
    obtain ⟨x1,x2,x3,x4⟩ := (hx.ro hro).tin
    have hxo : (one x.xk && one x.xi) = true := by rw [x3,x4]; rfl
    refine sc_of 3000 Tryz.func36 rfl Tryz.ntmps36 Tryz.results36 Tryz.call36 (by simp) (fun β β' hb => concL_within b.length _ (by simp [within,within.withinL,tv,v1,v2,hpl]) β β' hb) ?_
    unfold tv
    simp only [lawG,↓Xn,↓Xo,↓Xg,↓Xd,↓Xe,↓Xf,Tryz.VΓ,Tryz.Γs,Xp,Xi,Nat.reduceAdd,Nat.reduceSub,Nat.reduceLT,Nat.reduceLeDiff,reduceIte,reduceCtorEq,Nat.reduceEqDiff,implies_true,forall_const,lawV,lawA,beq_self_eq_true,bne_self_eq_false,Int.reduceBEq,Int.reduceBNe,Int.reduceLT,Int.reduceLE,ho]
    refine callV_sc (hget _ (hro.app _)) ?_
    rintro r b1 ⟨rfl,rfl⟩
    simp only [lawG,↓Xn,↓Xo,↓Xg,↓Xd,↓Xe,↓Xf,Tryz.VΓ,Tryz.Γs,Xp,Xi,Nat.reduceAdd,Nat.reduceSub,Nat.reduceLT,Nat.reduceLeDiff,reduceIte,reduceCtorEq,Nat.reduceEqDiff,implies_true,forall_const,lawV,lawA,beq_self_eq_true,bne_self_eq_false,Int.reduceBEq,Int.reduceBNe,Int.reduceLT,Int.reduceLE,hxo,Option.isSome_none]
    have : listE e j key = e := by unfold listE; rw [hg]
    rw [this]
    exact (KpP.of hp (Kp.refl b)).app _
  | some m =>
    have hat : j.at key = m := by unfold Jv.at; rw [hg]; rfl
    rw [hat] at e1 e9
    rw [hat] at hLL
    rw [hg] at hget
    by_cases h6 : m.k = 6
    · have hb6 : (x.k != 6) = false := by rw [e1,h6]; rfl
      by_cases h64 : 64 < m.L.length
      · refine ⟨.nils,[],.inl ⟨rfl,rfl⟩,by unfold listL; rw [hg]; show TJs bs (arrL m) []; unfold arrL; rw [if_pos h6,if_pos h64,TJs],fun b p d e hro hp => ?_⟩
        have hpl := (List.getElem?_eq_some_iff.1 hp).1
        obtain ⟨v1,v2,v3,v4⟩ := (hv.ro hro).tin
        have ho : (one v.xk && one v.xi) = true := by rw [v3,v4]; rfl
        obtain ⟨x1,x2,x3,x4⟩ := (hx.ro hro).tin
        have hxo : (one x.xk && one x.xi) = true := by rw [x3,x4]; rfl
        have hli := (e8.ro hro).len
        have hb64 : decide ((64 : Int) < Ls.length) = true := decide_eq_true (by omega)
        have hfl := fun X => sc_rr_stop (at_old hp X) 161
        refine sc_of 3000 Tryz.func36 rfl Tryz.ntmps36 Tryz.results36 Tryz.call36 (by simp) (fun β β' hb => concL_within b.length _ (by simp [within,within.withinL,tv,v1,v2,hpl]) β β' hb) ?_
        unfold tv
        simp only [lawG,↓Xn,↓Xo,↓Xg,↓Xd,↓Xe,↓Xf,Tryz.VΓ,Tryz.Γs,Xp,Xi,Nat.reduceAdd,Nat.reduceSub,Nat.reduceLT,Nat.reduceLeDiff,reduceIte,reduceCtorEq,Nat.reduceEqDiff,implies_true,forall_const,lawV,lawA,beq_self_eq_true,bne_self_eq_false,Int.reduceBEq,Int.reduceBNe,Int.reduceLT,Int.reduceLE,ho]
        refine callV_sc (hget _ (hro.app _)) ?_
        rintro r b1 ⟨rfl,rfl⟩
        simp only [lawG,↓Xn,↓Xo,↓Xg,↓Xd,↓Xe,↓Xf,Tryz.VΓ,Tryz.Γs,Xp,Xi,Nat.reduceAdd,Nat.reduceSub,Nat.reduceLT,Nat.reduceLeDiff,reduceIte,reduceCtorEq,Nat.reduceEqDiff,implies_true,forall_const,lawV,lawA,beq_self_eq_true,bne_self_eq_false,Int.reduceBEq,Int.reduceBNe,Int.reduceLT,Int.reduceLE,hxo,Option.isSome_some,hb6,hli,hb64]
        refine callV_sc (hfl _) ?_
        rintro r b1 ⟨rfl,rfl⟩
        simp only [lawG,↓Xn,↓Xo,↓Xg,↓Xd,↓Xe,↓Xf,Tryz.VΓ,Tryz.Γs,Xp,Xi,Nat.reduceAdd,Nat.reduceSub,Nat.reduceLT,Nat.reduceLeDiff,reduceIte,reduceCtorEq,Nat.reduceEqDiff,implies_true,forall_const,lawV,lawA,beq_self_eq_true,bne_self_eq_false,Int.reduceBEq,Int.reduceBNe,Int.reduceLT,Int.reduceLE]
        have : listE e j key = failE e 161 := by unfold listE; rw [hg]; show arrE e m = _; unfold arrE; rw [if_pos h6,if_pos h64]
        rw [this]
        exact ((KpP.of hp (Kp.refl b)).app _).set _ _ _
      · refine ⟨x.xi,Ls,e8,by unfold listL; rw [hg]; show TJs bs (arrL m) Ls; unfold arrL; rw [if_pos h6,if_neg h64]; exact e9,fun b p d e hro hp => ?_⟩
        have hpl := (List.getElem?_eq_some_iff.1 hp).1
        obtain ⟨v1,v2,v3,v4⟩ := (hv.ro hro).tin
        have ho : (one v.xk && one v.xi) = true := by rw [v3,v4]; rfl
        obtain ⟨x1,x2,x3,x4⟩ := (hx.ro hro).tin
        have hxo : (one x.xk && one x.xi) = true := by rw [x3,x4]; rfl
        have hli := (e8.ro hro).len
        have hb64 : decide ((64 : Int) < Ls.length) = false := decide_eq_false (by omega)
        refine sc_of 3000 Tryz.func36 rfl Tryz.ntmps36 Tryz.results36 Tryz.call36 (by simp) (fun β β' hb => concL_within b.length _ (by simp [within,within.withinL,tv,v1,v2,hpl]) β β' hb) ?_
        unfold tv
        simp only [lawG,↓Xn,↓Xo,↓Xg,↓Xd,↓Xe,↓Xf,Tryz.VΓ,Tryz.Γs,Xp,Xi,Nat.reduceAdd,Nat.reduceSub,Nat.reduceLT,Nat.reduceLeDiff,reduceIte,reduceCtorEq,Nat.reduceEqDiff,implies_true,forall_const,lawV,lawA,beq_self_eq_true,bne_self_eq_false,Int.reduceBEq,Int.reduceBNe,Int.reduceLT,Int.reduceLE,ho]
        refine callV_sc (hget _ (hro.app _)) ?_
        rintro r b1 ⟨rfl,rfl⟩
        simp only [lawG,↓Xn,↓Xo,↓Xg,↓Xd,↓Xe,↓Xf,Tryz.VΓ,Tryz.Γs,Xp,Xi,Nat.reduceAdd,Nat.reduceSub,Nat.reduceLT,Nat.reduceLeDiff,reduceIte,reduceCtorEq,Nat.reduceEqDiff,implies_true,forall_const,lawV,lawA,beq_self_eq_true,bne_self_eq_false,Int.reduceBEq,Int.reduceBNe,Int.reduceLT,Int.reduceLE,hxo,Option.isSome_some,hb6,hli,hb64]
        have : listE e j key = e := by unfold listE; rw [hg]; show arrE e m = _; unfold arrE; rw [if_pos h6,if_neg h64]
        rw [this]
        exact (KpP.of hp (Kp.refl b)).app _
    · have hb6 : (x.k != 6) = true := by rw [e1]; exact bne_iff_ne.2 h6
      refine ⟨.nils,[],.inl ⟨rfl,rfl⟩,by unfold listL; rw [hg]; show TJs bs (arrL m) []; unfold arrL; rw [if_neg h6,TJs],fun b p d e hro hp => ?_⟩
      have hpl := (List.getElem?_eq_some_iff.1 hp).1
      obtain ⟨v1,v2,v3,v4⟩ := (hv.ro hro).tin
      have ho : (one v.xk && one v.xi) = true := by rw [v3,v4]; rfl
      obtain ⟨x1,x2,x3,x4⟩ := (hx.ro hro).tin
      have hxo : (one x.xk && one x.xi) = true := by rw [x3,x4]; rfl
      have hfl := fun X => sc_rr_stop (at_old hp X) 160
      refine sc_of 3000 Tryz.func36 rfl Tryz.ntmps36 Tryz.results36 Tryz.call36 (by simp) (fun β β' hb => concL_within b.length _ (by simp [within,within.withinL,tv,v1,v2,hpl]) β β' hb) ?_
      unfold tv
      simp only [lawG,↓Xn,↓Xo,↓Xg,↓Xd,↓Xe,↓Xf,Tryz.VΓ,Tryz.Γs,Xp,Xi,Nat.reduceAdd,Nat.reduceSub,Nat.reduceLT,Nat.reduceLeDiff,reduceIte,reduceCtorEq,Nat.reduceEqDiff,implies_true,forall_const,lawV,lawA,beq_self_eq_true,bne_self_eq_false,Int.reduceBEq,Int.reduceBNe,Int.reduceLT,Int.reduceLE,ho]
      refine callV_sc (hget _ (hro.app _)) ?_
      rintro r b1 ⟨rfl,rfl⟩
      simp only [lawG,↓Xn,↓Xo,↓Xg,↓Xd,↓Xe,↓Xf,Tryz.VΓ,Tryz.Γs,Xp,Xi,Nat.reduceAdd,Nat.reduceSub,Nat.reduceLT,Nat.reduceLeDiff,reduceIte,reduceCtorEq,Nat.reduceEqDiff,implies_true,forall_const,lawV,lawA,beq_self_eq_true,bne_self_eq_false,Int.reduceBEq,Int.reduceBNe,Int.reduceLT,Int.reduceLE,hxo,Option.isSome_some,hb6]
      refine callV_sc (hfl _) ?_
      rintro r b1 ⟨rfl,rfl⟩
      simp only [lawG,↓Xn,↓Xo,↓Xg,↓Xd,↓Xe,↓Xf,Tryz.VΓ,Tryz.Γs,Xp,Xi,Nat.reduceAdd,Nat.reduceSub,Nat.reduceLT,Nat.reduceLeDiff,reduceIte,reduceCtorEq,Nat.reduceEqDiff,implies_true,forall_const,lawV,lawA,beq_self_eq_true,bne_self_eq_false,Int.reduceBEq,Int.reduceBNe,Int.reduceLT,Int.reduceLE]
      have : listE e j key = failE e 160 := by unfold listE; rw [hg]; show arrE e m = _; unfold arrE; rw [if_neg h6]
      rw [this]
      exact ((KpP.of hp (Kp.refl b)).app _).set _ _ _
def strsE (e : Int) (v : Jv) (key : Bytes) (single : Bool) : Int := match v.get key with
  | some m => if single = true ∧ m.k = 5 then e else textsE (arrE e m) (arrL m)
  | none => e
def strsL (v : Jv) (key : Bytes) (single : Bool) : List Bytes := match v.get key with
  | some m => if single = true ∧ m.k = 5 then [m.t] else (arrL m).map Jv.t
  | none => []
set_option maxHeartbeats 8000000 in
theorem sc_rr_strings {bs : List Res} {j : Jv} {v : Tv} (hv : TJ bs j v) (key : Bytes) (single : Bool) {p : Nat} {d : Did} {e : Int} (hp : bs[p]? = some (.cells (dec d e) 74 true)) :
    SC Tryz.V 35 [.p p 0,.agg (tv v),.str key,.bool single] bs (fun r b => KpP p (dec d (strsE e j key single)) 74 true bs b ∧ Rn bs.length b r (strsL j key single)) := by
  refine SC.dimAll ?_
  have hpl := (List.getElem?_eq_some_iff.1 hp).1
  refine SC.mono (R := fun r b => KpP p (dec d (strsE e j key single)) 74 true bs b ∧ ((r = .nils ∧ strsL j key single = []) ∨ ∃ q,0 < (strsL j key single).length ∧ r = .o q (strsL j key single).length ∧ bs.length ≤ q ∧ b[q]? = some (.own ((strsL j key single).map SV.str) 9 1 (strsL j key single).length true))) ?_ ?_
  rotate_left
  · rintro r b ⟨h1,h2⟩
    refine ⟨h1.1,h1.dimB hpl,?_⟩
    rcases h2 with h | ⟨q,h0,rfl,hq,hbq⟩
    · exact .inl h
    · exact .inr ⟨q,h0,rfl,hq,by rw [dimB_at hq hbq]; simp [dull]⟩
  obtain ⟨x,hx,hget⟩ := r14_Get hv key
  obtain ⟨e1,e2,-,-,-,-,-,Ls,e8,e9⟩ := hx.un
  have hLL := e9.len
  obtain ⟨v1,v2,v3,v4⟩ := hv.tin
  have ho : (one v.xk && one v.xi) = true := by rw [v3,v4]; rfl
  obtain ⟨x1,x2,x3,x4⟩ := hx.tin
  have hxo : (one x.xk && one x.xi) = true := by rw [x3,x4]; rfl
  have hli := e8.len
  unfold tv at hget
  refine sc_of 3000 Tryz.func35 rfl Tryz.ntmps35 Tryz.results35 Tryz.call35 (by simp) (fun β β' hb => concL_within bs.length _ (by simp [within,within.withinL,tv,v1,v2,hpl]) β β' hb) ?_
  unfold tv
  simp only [lawG,↓Xn,↓Xo,↓Xg,↓Xd,↓Xe,↓Xf,Tryz.VΓ,Tryz.Γs,Xp,Xi,Nat.reduceAdd,Nat.reduceSub,Nat.reduceLT,Nat.reduceLeDiff,reduceIte,reduceCtorEq,Nat.reduceEqDiff,implies_true,forall_const,lawV,lawA,beq_self_eq_true,bne_self_eq_false,Int.reduceBEq,Int.reduceBNe,Int.reduceLT,Int.reduceLE,ho]
  refine callV_sc (hget _ ((Ro.refl bs).app _)) ?_
  rintro r b1 ⟨rfl,rfl⟩
  cases hg : j.get key with
  | none =>
    have hE : strsE e j key single = e := by unfold strsE; rw [hg]
    have hL : strsL j key single = [] := by unfold strsL; rw [hg]
    simp only [lawG,↓Xn,↓Xo,↓Xg,↓Xd,↓Xe,↓Xf,Tryz.VΓ,Tryz.Γs,Xp,Xi,Nat.reduceAdd,Nat.reduceSub,Nat.reduceLT,Nat.reduceLeDiff,reduceIte,reduceCtorEq,Nat.reduceEqDiff,implies_true,forall_const,lawV,lawA,beq_self_eq_true,bne_self_eq_false,Int.reduceBEq,Int.reduceBNe,Int.reduceLT,Int.reduceLE,hxo,Option.isSome_none]
    rw [hE,hL]
    exact ⟨(KpP.of hp (Kp.refl bs)).app _,.inl (by simp)⟩
  | some m =>
    have hat : j.at key = m := by unfold Jv.at; rw [hg]; rfl
    rw [hat] at e1 e2 e9
    rw [hat] at hLL
    by_cases hs5 : single = true ∧ m.k = 5
    · obtain ⟨rfl,h5⟩ := hs5
      have hE : strsE e j key true = e := by unfold strsE; rw [hg]; exact if_pos ⟨rfl,h5⟩
      have hL : strsL j key true = [m.t] := by unfold strsL; rw [hg]; exact if_pos ⟨rfl,h5⟩
      have hb5 : (x.k == 5) = true := by rw [e1,h5]; rfl
      simp only [lawG,↓Xn,↓Xo,↓Xg,↓Xd,↓Xe,↓Xf,Tryz.VΓ,Tryz.Γs,Xp,Xi,Nat.reduceAdd,Nat.reduceSub,Nat.reduceLT,Nat.reduceLeDiff,reduceIte,reduceCtorEq,Nat.reduceEqDiff,implies_true,forall_const,lawV,lawA,beq_self_eq_true,bne_self_eq_false,Int.reduceBEq,Int.reduceBNe,Int.reduceLT,Int.reduceLE,hxo,Option.isSome_some,hb5]
      rw [hE,hL,e2]
      exact ⟨by omega,(KpP.of hp (Kp.refl bs)).app _,.inr ⟨_,by simp,rfl,by omega,by rw [app_at]; rfl⟩⟩
    · have hE : strsE e j key single = textsE (arrE e m) (arrL m) := by unfold strsE; rw [hg]; exact if_neg hs5
      have hL : strsL j key single = (arrL m).map Jv.t := by unfold strsL; rw [hg]; exact if_neg hs5
      have hgo : single = false ∨ single = true ∧ (x.k == 5) = false := by
        cases single
        · exact .inl rfl
        · exact .inr ⟨rfl,by rw [e1]; exact beq_eq_false_iff_ne.2 fun h => hs5 ⟨rfl,h⟩⟩
      rw [hE,hL]
      by_cases h6 : m.k = 6
      · have hb6 : (x.k != 6) = false := by rw [e1,h6]; rfl
        by_cases h64 : 64 < m.L.length
        · have hb64 : decide ((64 : Int) < Ls.length) = true := decide_eq_true (by omega)
          have hfl := fun X => sc_rr_stop (at_old hp X) 161
          have hE2 : textsE (arrE e m) (arrL m) = failE e 161 := by unfold arrE arrL; rw [if_pos h6,if_pos h64,if_pos h6,if_pos h64]; simp [textsE]
          have hL2 : arrL m = [] := by unfold arrL; rw [if_pos h6,if_pos h64]
          rw [hE2,hL2]
          rcases hgo with rfl | ⟨rfl,hb5⟩
          · simp only [lawG,↓Xn,↓Xo,↓Xg,↓Xd,↓Xe,↓Xf,Tryz.VΓ,Tryz.Γs,Xp,Xi,Nat.reduceAdd,Nat.reduceSub,Nat.reduceLT,Nat.reduceLeDiff,reduceIte,reduceCtorEq,Nat.reduceEqDiff,implies_true,forall_const,lawV,lawA,beq_self_eq_true,bne_self_eq_false,Int.reduceBEq,Int.reduceBNe,Int.reduceLT,Int.reduceLE,hxo,Option.isSome_some,hb6,hli,hb64]
            refine callV_sc (hfl _) ?_
            rintro r b2 ⟨rfl,rfl⟩
            simp only [lawG,↓Xn,↓Xo,↓Xg,↓Xd,↓Xe,↓Xf,Tryz.VΓ,Tryz.Γs,Xp,Xi,Nat.reduceAdd,Nat.reduceSub,Nat.reduceLT,Nat.reduceLeDiff,reduceIte,reduceCtorEq,Nat.reduceEqDiff,implies_true,forall_const,lawV,lawA,beq_self_eq_true,bne_self_eq_false,Int.reduceBEq,Int.reduceBNe,Int.reduceLT,Int.reduceLE]
            exact ⟨((KpP.of hp (Kp.refl bs)).app _).set _ _ _,.inl (by simp)⟩
          · simp only [lawG,↓Xn,↓Xo,↓Xg,↓Xd,↓Xe,↓Xf,Tryz.VΓ,Tryz.Γs,Xp,Xi,Nat.reduceAdd,Nat.reduceSub,Nat.reduceLT,Nat.reduceLeDiff,reduceIte,reduceCtorEq,Nat.reduceEqDiff,implies_true,forall_const,lawV,lawA,beq_self_eq_true,bne_self_eq_false,Int.reduceBEq,Int.reduceBNe,Int.reduceLT,Int.reduceLE,hxo,Option.isSome_some,hb5,hb6,hli,hb64]
            refine callV_sc (hfl _) ?_
            rintro r b2 ⟨rfl,rfl⟩
            simp only [lawG,↓Xn,↓Xo,↓Xg,↓Xd,↓Xe,↓Xf,Tryz.VΓ,Tryz.Γs,Xp,Xi,Nat.reduceAdd,Nat.reduceSub,Nat.reduceLT,Nat.reduceLeDiff,reduceIte,reduceCtorEq,Nat.reduceEqDiff,implies_true,forall_const,lawV,lawA,beq_self_eq_true,bne_self_eq_false,Int.reduceBEq,Int.reduceBNe,Int.reduceLT,Int.reduceLE]
            exact ⟨((KpP.of hp (Kp.refl bs)).app _).set _ _ _,.inl (by simp)⟩
        · have hb64 : decide ((64 : Int) < Ls.length) = false := decide_eq_false (by omega)
          have hE2 : arrE e m = e := by unfold arrE; rw [if_pos h6,if_neg h64]
          have hL2 : arrL m = m.L := by unfold arrL; rw [if_pos h6,if_neg h64]
          rw [hE2,hL2]
          rcases hgo with rfl | ⟨rfl,hb5⟩
          rotate_left
          simp only [lawG,↓Xn,↓Xo,↓Xg,↓Xd,↓Xe,↓Xf,Tryz.VΓ,Tryz.Γs,Xp,Xi,Nat.reduceAdd,Nat.reduceSub,Nat.reduceLT,Nat.reduceLeDiff,reduceIte,reduceCtorEq,Nat.reduceEqDiff,implies_true,forall_const,lawV,lawA,beq_self_eq_true,bne_self_eq_false,Int.reduceBEq,Int.reduceBNe,Int.reduceLT,Int.reduceLE,hxo,Option.isSome_some,hb5,hb6,hli,hb64]
          rotate_left
          simp only [lawG,↓Xn,↓Xo,↓Xg,↓Xd,↓Xe,↓Xf,Tryz.VΓ,Tryz.Γs,Xp,Xi,Nat.reduceAdd,Nat.reduceSub,Nat.reduceLT,Nat.reduceLeDiff,reduceIte,reduceCtorEq,Nat.reduceEqDiff,implies_true,forall_const,lawV,lawA,beq_self_eq_true,bne_self_eq_false,Int.reduceBEq,Int.reduceBNe,Int.reduceLT,Int.reduceLE,hxo,Option.isSome_some,hb6,hli,hb64]
          all_goals
            obtain ⟨xi,hxi⟩ : ∃ xi,xi = x.xi := ⟨_,rfl⟩
            rw [← hxi] at e8 ⊢
            refine loopV_mk (fun σ => ∃ (k : Nat) (y : SV),k ≤ Ls.length ∧ lk 0 σ.t = some (.p p 0) ∧ lk 11 σ.t = some y ∧ lk 47 σ.t = some xi ∧ lk 48 σ.t = some (.int .i64 Ls.length) ∧ lk 49 σ.t = some (.int .i64 k) ∧ KpP p (dec d (textsE e (m.L.take k))) 74 true bs σ.b ∧
              ((y = .nils ∧ k = 0) ∨ ∃ q,0 < k ∧ y = .o q k ∧ bs.length ≤ q ∧ σ.b[q]? = some (.own (((m.L.take k).map Jv.t).map SV.str) 9 1 k true))) (fun σ => Ls.length - lkI 49 σ) ⟨0,.nils,by omega,rfl,rfl,rfl,rfl,rfl,(KpP.of hp (Kp.refl bs)).app _,.inl ⟨rfl,rfl⟩⟩ ?_
            rintro ⟨t,b⟩ ⟨k,y,hk,h0,h5,h8,h9,h10,hkp,hy⟩
            simp only at h0 h5 h8 h9 h10 hkp hy
            rw [lkI_eq h10]
            by_cases hlt : k < Ls.length
            · have hlt2 : decide ((k : Int) < Ls.length) = true := decide_eq_true (by omega)
              have hltL : k < m.L.length := by omega
              rcases e8 with ⟨-,hx0⟩ | ⟨j,rfl,hj⟩
              · rw [hx0] at hlt; exact absurd hlt (by simp)
              have hjp : j ≠ p := by rintro rfl; rw [hp] at hj; cases hj
              have hbj := hkp.at hj hjp
              have hbp := hkp.2.2
              have hbpl := (List.getElem?_eq_some_iff.1 hbp).1
              have hbl := hkp.1
              have hu : List.take 4 (List.drop (k * 4) (Ls.flatMap tv)) = [.int .i64 Ls[k].k,.str Ls[k].t,Ls[k].xk,Ls[k].xi] := tv_at Ls k hlt
              have hul := tv_len Ls
              have hel := e9.at k hltL hlt
              obtain ⟨y1,y2,y3,y4⟩ := hel.tin
              obtain ⟨u1,u2,u3,-⟩ := hel.un
              have hyo : (one Ls[k].xk && one Ls[k].xi) = true := by rw [y3,y4]; rfl
              have hsn := strs_snoc hltL
              have htk := textsE_take (e := e) hltL
              generalize hev : Ls[k] = ev at hu u1 u2 hyo
              have hok : ∀ X,KpP p (dec d (textsE e (m.L.take k))) 74 true bs (b ++ X) := fun X => hkp.app X
              by_cases hk5 : m.L[k].k = 5
              · have hb5 : (ev.k != 5) = false := by rw [u1,hk5]; rfl
                rw [if_pos hk5] at htk
                rcases hy with ⟨rfl,rfl⟩ | ⟨q,hk0,rfl,hq,hbq⟩
                · simp only [lawG,↓Xn,↓Xo,↓Xg,↓Xd,↓Xe,↓Xf,Tryz.VΓ,Tryz.Γs,Xp,Xi,Nat.reduceAdd,Nat.reduceSub,Nat.reduceLT,Nat.reduceLeDiff,reduceIte,reduceCtorEq,Nat.reduceEqDiff,implies_true,forall_const,lawV,lawA,beq_self_eq_true,bne_self_eq_false,Int.reduceBEq,Int.reduceBNe,Int.reduceLT,Int.reduceLE,h0,h5,h8,h9,h10,hlt2,hbj,hu,hyo,hb5]
                  (repeat (refine ⟨by first | omega | (unfold maxLen; omega),?_⟩))
                  refine ⟨⟨1,_,by omega,rfl,rfl,by rw [htk]; exact hok _,.inr ⟨_,by omega,rfl,by omega,?_⟩⟩,?_⟩
                  · rw [app_at,hsn,← u2]; rfl
                  · rw [lkI_eq (show lk 49 _ = some (.int .i64 ((1 : Nat) : Int)) from rfl)]; omega
                · have hql := (List.getElem?_eq_some_iff.1 hbq).1
                  have hqp : q ≠ p := by omega
                  have hsq : ∀ (l : List Res) X,(b ++ l).set q X = b.set q X ++ l := fun l X => app_setL hql l X
                  simp only [lawG,↓Xn,↓Xo,↓Xg,↓Xd,↓Xe,↓Xf,Tryz.VΓ,Tryz.Γs,Xp,Xi,Nat.reduceAdd,Nat.reduceSub,Nat.reduceLT,Nat.reduceLeDiff,reduceIte,reduceCtorEq,Nat.reduceEqDiff,implies_true,forall_const,lawV,lawA,beq_self_eq_true,bne_self_eq_false,Int.reduceBEq,Int.reduceBNe,Int.reduceLT,Int.reduceLE,h0,h5,h8,h9,h10,hlt2,hbj,hu,hyo,hb5,at_old hbq,hsq]
                  (repeat (refine ⟨by first | omega | (unfold maxLen; omega),?_⟩))
                  refine ⟨⟨k + 1,_,by omega,rfl,rfl,by rw [htk]; exact (hkp.setN hq hqp _).app _,.inr ⟨_,by omega,rfl,by omega,?_⟩⟩,?_⟩
                  · rw [app_atL (by simp),hsn,← u2]; rfl
                  · rw [lkI_eq (show lk 49 _ = some (.int .i64 ((k + 1 : Nat) : Int)) from rfl)]; omega
              · have hb5 : (ev.k != 5) = true := by rw [u1]; exact bne_iff_ne.2 hk5
                rw [if_neg hk5] at htk
                have hfl := fun X => sc_rr_stop (at_old hbp X) 160
                have hset : ∀ (l : List Res) X,(b ++ l).set p X = b.set p X ++ l := fun l X => app_setL hbpl l X
                have hkf := hkp.set (dec d (failE (textsE e (m.L.take k)) 160)) 74 true
                rw [← htk] at hkf hfl
                rcases hy with ⟨rfl,rfl⟩ | ⟨q,hk0,rfl,hq,hbq⟩
                · simp only [lawG,↓Xn,↓Xo,↓Xg,↓Xd,↓Xe,↓Xf,Tryz.VΓ,Tryz.Γs,Xp,Xi,Nat.reduceAdd,Nat.reduceSub,Nat.reduceLT,Nat.reduceLeDiff,reduceIte,reduceCtorEq,Nat.reduceEqDiff,implies_true,forall_const,lawV,lawA,beq_self_eq_true,bne_self_eq_false,Int.reduceBEq,Int.reduceBNe,Int.reduceLT,Int.reduceLE,h0,h5,h8,h9,h10,hlt2,hbj,hu,hyo,hb5]
                  (repeat (refine ⟨by first | omega | (unfold maxLen; omega),?_⟩))
                  refine callV_sc (hfl _) ?_
                  rintro r b1 ⟨rfl,rfl⟩
                  rw [hset]
                  have hl1 : (b.set p (.cells (dec d (textsE e (m.L.take (0 + 1)))) 74 true)).length = b.length := List.length_set
                  generalize b.set p _ = b1 at hkf hl1
                  have hat : ∀ l : List Res,(b1 ++ l)[b.length]? = l[0]? := fun l => app_atL hl1 l 0
                  simp only [lawG,↓Xn,↓Xo,↓Xg,↓Xd,↓Xe,↓Xf,Tryz.VΓ,Tryz.Γs,Xp,Xi,Nat.reduceAdd,Nat.reduceSub,Nat.reduceLT,Nat.reduceLeDiff,reduceIte,reduceCtorEq,Nat.reduceEqDiff,implies_true,forall_const,lawV,lawA,beq_self_eq_true,bne_self_eq_false,Int.reduceBEq,Int.reduceBNe,Int.reduceLT,Int.reduceLE,h0,h5,h8,h9,h10,hat]
                  (repeat (refine ⟨by first | omega | (unfold maxLen; omega),?_⟩))
                  refine ⟨⟨1,_,by omega,rfl,rfl,hkf.app _,.inr ⟨_,by omega,rfl,by omega,?_⟩⟩,?_⟩
                  · rw [app_at,hsn,← u2]; rfl
                  · rw [lkI_eq (show lk 49 _ = some (.int .i64 ((1 : Nat) : Int)) from rfl)]; omega
                · have hqp : q ≠ p := by omega
                  have hbq1 := fun X => get_setN hbq (fun e => hqp e.symm) X
                  simp only [lawG,↓Xn,↓Xo,↓Xg,↓Xd,↓Xe,↓Xf,Tryz.VΓ,Tryz.Γs,Xp,Xi,Nat.reduceAdd,Nat.reduceSub,Nat.reduceLT,Nat.reduceLeDiff,reduceIte,reduceCtorEq,Nat.reduceEqDiff,implies_true,forall_const,lawV,lawA,beq_self_eq_true,bne_self_eq_false,Int.reduceBEq,Int.reduceBNe,Int.reduceLT,Int.reduceLE,h0,h5,h8,h9,h10,hlt2,hbj,hu,hyo,hb5]
                  (repeat (refine ⟨by first | omega | (unfold maxLen; omega),?_⟩))
                  refine callV_sc (hfl _) ?_
                  rintro r b1 ⟨rfl,rfl⟩
                  rw [hset]
                  have hbq1 := hbq1 (.cells (dec d (textsE e (m.L.take (k + 1)))) 74 true)
                  have hl1 : (b.set p (.cells (dec d (textsE e (m.L.take (k + 1)))) 74 true)).length = b.length := List.length_set
                  generalize b.set p _ = b1 at hkf hbq1 hl1
                  have hat : ∀ l : List Res,(b1 ++ l)[b.length]? = l[0]? := fun l => app_atL hl1 l 0
                  have hql := (List.getElem?_eq_some_iff.1 hbq1).1
                  have hsq : ∀ (l : List Res) X,(b1 ++ l).set q X = b1.set q X ++ l := fun l X => app_setL hql l X
                  simp only [lawG,↓Xn,↓Xo,↓Xg,↓Xd,↓Xe,↓Xf,Tryz.VΓ,Tryz.Γs,Xp,Xi,Nat.reduceAdd,Nat.reduceSub,Nat.reduceLT,Nat.reduceLeDiff,reduceIte,reduceCtorEq,Nat.reduceEqDiff,implies_true,forall_const,lawV,lawA,beq_self_eq_true,bne_self_eq_false,Int.reduceBEq,Int.reduceBNe,Int.reduceLT,Int.reduceLE,h0,h5,h8,h9,h10,at_old hbq1,hsq,hat]
                  (repeat (refine ⟨by first | omega | (unfold maxLen; omega),?_⟩))
                  refine ⟨⟨k + 1,_,by omega,rfl,rfl,(hkf.setN hq hqp _).app _,.inr ⟨_,by omega,rfl,by omega,?_⟩⟩,?_⟩
                  · rw [app_atL (by simp),hsn,← u2]; rfl
                  · rw [lkI_eq (show lk 49 _ = some (.int .i64 ((k + 1 : Nat) : Int)) from rfl)]; omega
            · have hlt2 : decide ((k : Int) < Ls.length) = false := decide_eq_false (by omega)
              simp only [lawG,↓Xn,↓Xo,↓Xg,↓Xd,↓Xe,↓Xf,Tryz.VΓ,Tryz.Γs,Xp,Xi,Nat.reduceAdd,Nat.reduceSub,Nat.reduceLT,Nat.reduceLeDiff,reduceIte,reduceCtorEq,Nat.reduceEqDiff,implies_true,forall_const,lawV,lawA,beq_self_eq_true,bne_self_eq_false,Int.reduceBEq,Int.reduceBNe,Int.reduceLT,Int.reduceLE,h0,h5,h8,h9,h10,hlt2]
              have hkl : m.L.take k = m.L := List.take_of_length_le (by omega)
              rw [hkl] at hkp hy
              refine ⟨hkp,?_⟩
              rcases hy with ⟨rfl,rfl⟩ | ⟨q,hk0,rfl,hq,hbq⟩
              · exact .inl ⟨rfl,by rw [List.length_eq_zero_iff.1 (show m.L.length = 0 by omega)]; rfl⟩
              · obtain rfl : k = m.L.length := by omega
                rw [List.length_map]; exact .inr ⟨q,hk0,rfl,hq,hbq⟩
      · have hb6 : (x.k != 6) = true := by rw [e1]; exact bne_iff_ne.2 h6
        have hfl := fun X => sc_rr_stop (at_old hp X) 160
        have hE2 : textsE (arrE e m) (arrL m) = failE e 160 := by unfold arrE arrL; rw [if_neg h6,if_neg h6]; simp [textsE]
        have hL2 : arrL m = [] := by unfold arrL; rw [if_neg h6]
        rw [hE2,hL2]
        rcases hgo with rfl | ⟨rfl,hb5⟩
        · simp only [lawG,↓Xn,↓Xo,↓Xg,↓Xd,↓Xe,↓Xf,Tryz.VΓ,Tryz.Γs,Xp,Xi,Nat.reduceAdd,Nat.reduceSub,Nat.reduceLT,Nat.reduceLeDiff,reduceIte,reduceCtorEq,Nat.reduceEqDiff,implies_true,forall_const,lawV,lawA,beq_self_eq_true,bne_self_eq_false,Int.reduceBEq,Int.reduceBNe,Int.reduceLT,Int.reduceLE,hxo,Option.isSome_some,hb6]
          refine callV_sc (hfl _) ?_
          rintro r b2 ⟨rfl,rfl⟩
          simp only [lawG,↓Xn,↓Xo,↓Xg,↓Xd,↓Xe,↓Xf,Tryz.VΓ,Tryz.Γs,Xp,Xi,Nat.reduceAdd,Nat.reduceSub,Nat.reduceLT,Nat.reduceLeDiff,reduceIte,reduceCtorEq,Nat.reduceEqDiff,implies_true,forall_const,lawV,lawA,beq_self_eq_true,bne_self_eq_false,Int.reduceBEq,Int.reduceBNe,Int.reduceLT,Int.reduceLE]
          exact ⟨((KpP.of hp (Kp.refl bs)).app _).set _ _ _,.inl (by simp)⟩
        · simp only [lawG,↓Xn,↓Xo,↓Xg,↓Xd,↓Xe,↓Xf,Tryz.VΓ,Tryz.Γs,Xp,Xi,Nat.reduceAdd,Nat.reduceSub,Nat.reduceLT,Nat.reduceLeDiff,reduceIte,reduceCtorEq,Nat.reduceEqDiff,implies_true,forall_const,lawV,lawA,beq_self_eq_true,bne_self_eq_false,Int.reduceBEq,Int.reduceBNe,Int.reduceLT,Int.reduceLE,hxo,Option.isSome_some,hb5,hb6]
          refine callV_sc (hfl _) ?_
          rintro r b2 ⟨rfl,rfl⟩
          simp only [lawG,↓Xn,↓Xo,↓Xg,↓Xd,↓Xe,↓Xf,Tryz.VΓ,Tryz.Γs,Xp,Xi,Nat.reduceAdd,Nat.reduceSub,Nat.reduceLT,Nat.reduceLeDiff,reduceIte,reduceCtorEq,Nat.reduceEqDiff,implies_true,forall_const,lawV,lawA,beq_self_eq_true,bne_self_eq_false,Int.reduceBEq,Int.reduceBNe,Int.reduceLT,Int.reduceLE]
          exact ⟨((KpP.of hp (Kp.refl bs)).app _).set _ _ _,.inl (by simp)⟩
end Go.Proofs.YtejfjmcjicpodaaGreatDoor
/- The walks of ref17's reader: method,service. -/
set_option linter.all false
set_option maxRecDepth 20000
namespace Go.Proofs.YtejfjmcjicpodaaGreatDoor
open Go Vc Go.RowKit Wf
set_option linter.unusedSimpArgs false
theorem failE_160 (e : Int) : failE e 160 ≠ 0 := by unfold failE; split <;> simp_all
theorem failE_idem (e x : Int) (h : failE e x ≠ 0) (y : Int) : failE (failE e x) y = failE e x := failE_ne h
theorem at_none {j : Jv} {key : Bytes} (h : j.get key = none) : j.at key = Jv.zero := by unfold Jv.at; rw [h]; rfl
theorem get_not {j : Jv} (h : j.k ≠ 7) (key : Bytes) : j.get key = none := by unfold Jv.get; rw [if_neg h]
theorem textsE_zero (e : Int) : textsE e [Jv.zero] = failE e 160 := by rw [textsE_one,if_neg (by decide)]
theorem moreE_zero (e : Int) : moreE e Jv.zero = failE e 160 := by
  unfold moreE arrE arrL
  rw [if_neg (by decide),if_neg (by decide),if_neg (by decide)]
  simp [textsE]
theorem idE_not {d : Did} {e : Int} {j : Jv} (h : j.k ≠ 7) : idE d e j = failE e 160 := by
  unfold idE
  rw [at_none (get_not h _),textsE_zero]
  split
  · rfl
  · exact failE_idem _ _ (failE_160 e) _
theorem methE_not {d : Did} {e : Int} {j : Jv} (h : j.k ≠ 7) : methE d e j = failE e 160 := by
  unfold methE
  rw [idE_not h,textsE_ne (failE_160 e),textsE_ne (failE_160 e)]
theorem servE_not {d : Did} {e : Int} {j : Jv} (h : j.k ≠ 7) : servE d e j = failE e 160 := by
  unfold servE
  rw [idE_not h]
  split <;> simp [moreE_ne (failE_160 e)]
def methR (d : Did) (j : Jv) : Mtm := if j.k = 7 then methM d j else ⟨[],[],[]⟩
def servR (d : Did) (j : Jv) : Svm := if j.k = 7 then servM d j else ⟨[],[],[]⟩
set_option maxHeartbeats 4000000 in
theorem sc_rr_method {bs : List Res} {j : Jv} {v : Tv} (hv : TJ bs j v) {p : Nat} {d : Did} {e : Int} (hd : DidFits d) (hp : bs[p]? = some (.cells (dec d e) 74 true)) :
    SC Tryz.V 37 [.p p 0,.agg (tv v)] bs (fun r b' => r = .agg (mc (methR d j)) ∧ b' = bs.set p (.cells (dec d (methE d e j)) 74 true)) := by
  have hpl := (List.getElem?_eq_some_iff.1 hp).1
  refine sc_keepP hpl (by simp [mc,within,within.withinL]) (dec_flat _ _) ?_
  obtain ⟨e1,-⟩ := hv.un
  obtain ⟨v1,v2,v3,v4⟩ := hv.tin
  have ho : (one v.xk && one v.xi) = true := by rw [v3,v4]; rfl
  have hset : ∀ (l : List Res) X,(bs ++ l).set p X = bs.set p X ++ l := fun l X => app_setL hpl l X
  refine sc_of 3000 Tryz.func37 rfl Tryz.ntmps37 Tryz.results37 Tryz.call37 (by simp) (fun β β' hb => concL_within bs.length _ (by simp [within,within.withinL,tv,v1,v2,hpl]) β β' hb) ?_
  by_cases h7 : j.k = 7
  · have hb7 : (v.k != 7) = false := by rw [e1,h7]; rfl
    have hid := fun X => sc_rr_id (hv.ro ((Ro.refl bs).app X)) hd (at_old hp X)
    unfold tv at hid ⊢
    simp only [lawG,↓Xn,↓Xo,↓Xg,↓Xd,↓Xe,↓Xf,Tryz.VΓ,Tryz.Γs,Xp,Xi,Nat.reduceAdd,Nat.reduceSub,Nat.reduceLT,Nat.reduceLeDiff,reduceIte,reduceCtorEq,Nat.reduceEqDiff,implies_true,forall_const,lawV,lawA,beq_self_eq_true,bne_self_eq_false,Int.reduceBEq,Int.reduceBNe,Int.reduceLT,Int.reduceLE,ho,hb7]
    refine callV_sc (hid _) ?_
    rintro r b1 ⟨rfl,rfl⟩
    rw [hset]
    have hk1 := (KpP.of hp (Kp.refl bs)).set (dec d (idE d e j)) 74 true
    have hl1 : (bs.set p (.cells (dec d (idE d e j)) 74 true)).length = bs.length := List.length_set
    generalize bs.set p (.cells (dec d (idE d e j)) 74 true) = b1 at hk1 hl1
    rw [← hl1]
    simp only [lawG,↓Xn,↓Xo,↓Xg,↓Xd,↓Xe,↓Xf,Tryz.VΓ,Tryz.Γs,Xp,Xi,Nat.reduceAdd,Nat.reduceSub,Nat.reduceLT,Nat.reduceLeDiff,reduceIte,reduceCtorEq,Nat.reduceEqDiff,implies_true,forall_const,lawV,lawA,beq_self_eq_true,bne_self_eq_false,Int.reduceBEq,Int.reduceBNe,Int.reduceLT,Int.reduceLE]
    have hp1l := (List.getElem?_eq_some_iff.1 hk1.2.2).1
    have ht1 := fun X => sc_rr_text (hv.ro ((hk1.ro hp).app X)) ([116,121,112,101] : List UInt8) (at_old hk1.2.2 X)
    unfold tv at ht1
    refine callV_sc (ht1 _) ?_
    rintro r b2 ⟨rfl,rfl⟩
    rw [app_setL hp1l]
    have hk2 := hk1.set (dec d (textsE (idE d e j) [j.at ([116,121,112,101] : List UInt8)])) 74 true
    have hl2 : (b1.set p (.cells (dec d (textsE (idE d e j) [j.at ([116,121,112,101] : List UInt8)])) 74 true)).length = b1.length := List.length_set
    generalize b1.set p (.cells (dec d (textsE (idE d e j) [j.at ([116,121,112,101] : List UInt8)])) 74 true) = b2 at hk2 hl2
    rw [← hl2]
    simp only [lawG,↓Xn,↓Xo,↓Xg,↓Xd,↓Xe,↓Xf,Tryz.VΓ,Tryz.Γs,Xp,Xi,Nat.reduceAdd,Nat.reduceSub,Nat.reduceLT,Nat.reduceLeDiff,reduceIte,reduceCtorEq,Nat.reduceEqDiff,implies_true,forall_const,lawV,lawA,beq_self_eq_true,bne_self_eq_false,Int.reduceBEq,Int.reduceBNe,Int.reduceLT,Int.reduceLE]
    have hp2l := (List.getElem?_eq_some_iff.1 hk2.2.2).1
    have ht2 := fun X => sc_rr_text (hv.ro ((hk2.ro hp).app X)) ([99,111,110,116,114,111,108,108,101,114] : List UInt8) (at_old hk2.2.2 X)
    unfold tv at ht2
    refine callV_sc (ht2 _) ?_
    rintro r b3 ⟨rfl,rfl⟩
    rw [app_setL hp2l]
    have hk3 := hk2.set (dec d (textsE (textsE (idE d e j) [j.at ([116,121,112,101] : List UInt8)]) [j.at ([99,111,110,116,114,111,108,108,101,114] : List UInt8)])) 74 true
    have hl3 : (b2.set p (.cells (dec d (textsE (textsE (idE d e j) [j.at ([116,121,112,101] : List UInt8)]) [j.at ([99,111,110,116,114,111,108,108,101,114] : List UInt8)])) 74 true)).length = b2.length := List.length_set
    generalize b2.set p (.cells (dec d (textsE (textsE (idE d e j) [j.at ([116,121,112,101] : List UInt8)]) [j.at ([99,111,110,116,114,111,108,108,101,114] : List UInt8)])) 74 true) = b3 at hk3 hl3
    rw [← hl3]
    simp only [lawG,↓Xn,↓Xo,↓Xg,↓Xd,↓Xe,↓Xf,Tryz.VΓ,Tryz.Γs,Xp,Xi,Nat.reduceAdd,Nat.reduceSub,Nat.reduceLT,Nat.reduceLeDiff,reduceIte,reduceCtorEq,Nat.reduceEqDiff,implies_true,forall_const,lawV,lawA,beq_self_eq_true,bne_self_eq_false,Int.reduceBEq,Int.reduceBNe,Int.reduceLT,Int.reduceLE]
    have hR : methR d j = methM d j := if_pos h7
    rw [hR]
    exact ⟨rfl,hk3.app _⟩
  · have hb7 : (v.k != 7) = true := by rw [e1]; exact bne_iff_ne.2 h7
    have hfl := fun X => sc_rr_stop (at_old hp X) 160
    unfold tv
    simp only [lawG,↓Xn,↓Xo,↓Xg,↓Xd,↓Xe,↓Xf,Tryz.VΓ,Tryz.Γs,Xp,Xi,Nat.reduceAdd,Nat.reduceSub,Nat.reduceLT,Nat.reduceLeDiff,reduceIte,reduceCtorEq,Nat.reduceEqDiff,implies_true,forall_const,lawV,lawA,beq_self_eq_true,bne_self_eq_false,Int.reduceBEq,Int.reduceBNe,Int.reduceLT,Int.reduceLE,ho,hb7]
    refine callV_sc (hfl _) ?_
    rintro r b1 ⟨rfl,rfl⟩
    rw [hset]
    have hk1 := (KpP.of hp (Kp.refl bs)).set (dec d (failE e 160)) 74 true
    have hl1 : (bs.set p (.cells (dec d (failE e 160)) 74 true)).length = bs.length := List.length_set
    generalize bs.set p (.cells (dec d (failE e 160)) 74 true) = b1 at hk1 hl1
    rw [← hl1]
    simp only [lawG,↓Xn,↓Xo,↓Xg,↓Xd,↓Xe,↓Xf,Tryz.VΓ,Tryz.Γs,Xp,Xi,Nat.reduceAdd,Nat.reduceSub,Nat.reduceLT,Nat.reduceLeDiff,reduceIte,reduceCtorEq,Nat.reduceEqDiff,implies_true,forall_const,lawV,lawA,beq_self_eq_true,bne_self_eq_false,Int.reduceBEq,Int.reduceBNe,Int.reduceLT,Int.reduceLE]
    have hR : methR d j = ⟨[],[],[]⟩ := if_neg h7
    rw [hR,methE_not h7]
    exact ⟨rfl,hk1.app _⟩
theorem strs_some {j m : Jv} {key : Bytes} (h : j.get key = some m) (e : Int) : strsE e j key true = moreE e (j.at key) ∧ strsL j key true = moreL (j.at key) := by
  have hat : j.at key = m := by unfold Jv.at; rw [h]; rfl
  rw [hat]
  unfold strsE strsL moreE moreL
  rw [h]
  simp
theorem strs_none {j : Jv} {key : Bytes} (h : j.get key = none) (e : Int) : strsE (failE e 160) j key true = moreE e (j.at key) ∧ strsL j key true = moreL (j.at key) := by
  rw [at_none h,moreE_zero]
  unfold strsE strsL moreL arrL
  rw [h,if_neg (by decide),if_neg (by decide)]
  exact ⟨rfl,rfl⟩
set_option maxHeartbeats 16000000 in
theorem sc_rr_servR {bs : List Res} {j : Jv} {v : Tv} (hv : TJ bs j v) {p : Nat} {d : Did} {e : Int} (hd : DidFits d) (hp : bs[p]? = some (.cells (dec d e) 74 true)) :
    SC Tryz.V 38 [.p p 0,.agg (tv v)] bs (fun r b => ∃ y1 y2,r = .agg [.str (servR d j).id,y1,y2] ∧ KpP p (dec d (servE d e j)) 74 true bs b ∧ Rn bs.length b y1 (servR d j).types ∧ Rn bs.length b y2 (servR d j).ends) := by
  have hpl := (List.getElem?_eq_some_iff.1 hp).1
  obtain ⟨e1,-⟩ := hv.un
  obtain ⟨v1,v2,v3,v4⟩ := hv.tin
  have ho : (one v.xk && one v.xi) = true := by rw [v3,v4]; rfl
  have hset : ∀ (l : List Res) X,(bs ++ l).set p X = bs.set p X ++ l := fun l X => app_setL hpl l X
  refine sc_of 3000 Tryz.func38 rfl Tryz.ntmps38 Tryz.results38 Tryz.call38 (by simp) (fun β β' hb => concL_within bs.length _ (by simp [within,within.withinL,tv,v1,v2,hpl]) β β' hb) ?_
  by_cases h7 : j.k = 7
  rotate_left
  · have hb7 : (v.k != 7) = true := by rw [e1]; exact bne_iff_ne.2 h7
    have hfl := fun X => sc_rr_stop (at_old hp X) 160
    unfold tv
    simp only [lawG,↓Xn,↓Xo,↓Xg,↓Xd,↓Xe,↓Xf,Tryz.VΓ,Tryz.Γs,Xp,Xi,Nat.reduceAdd,Nat.reduceSub,Nat.reduceLT,Nat.reduceLeDiff,reduceIte,reduceCtorEq,Nat.reduceEqDiff,implies_true,forall_const,lawV,lawA,beq_self_eq_true,bne_self_eq_false,Int.reduceBEq,Int.reduceBNe,Int.reduceLT,Int.reduceLE,ho,hb7]
    refine callV_sc (hfl _) ?_
    rintro r b1 ⟨rfl,rfl⟩
    rw [hset]
    have hk1 := (KpP.of hp (Kp.refl bs)).set (dec d (failE e 160)) 74 true
    have hl1 : (bs.set p (.cells (dec d (failE e 160)) 74 true)).length = bs.length := List.length_set
    generalize bs.set p (.cells (dec d (failE e 160)) 74 true) = b1 at hk1 hl1
    rw [← hl1]
    simp only [lawG,↓Xn,↓Xo,↓Xg,↓Xd,↓Xe,↓Xf,Tryz.VΓ,Tryz.Γs,Xp,Xi,Nat.reduceAdd,Nat.reduceSub,Nat.reduceLT,Nat.reduceLeDiff,reduceIte,reduceCtorEq,Nat.reduceEqDiff,implies_true,forall_const,lawV,lawA,beq_self_eq_true,bne_self_eq_false,Int.reduceBEq,Int.reduceBNe,Int.reduceLT,Int.reduceLE]
    have hR : servR d j = ⟨[],[],[]⟩ := if_neg h7
    rw [hR,servE_not h7]
    exact ⟨.nils,.nils,rfl,hk1.app _,.inl ⟨rfl,rfl⟩,.inl ⟨rfl,rfl⟩⟩
  have hR : servR d j = servM d j := if_pos h7
  rw [hR]
  have hb7 : (v.k != 7) = false := by rw [e1,h7]; rfl
  have hid := fun X => sc_rr_id (hv.ro ((Ro.refl bs).app X)) hd (at_old hp X)
  obtain ⟨x1,hx1,hg1⟩ := r14_Get hv ([116,121,112,101] : List UInt8)
  obtain ⟨x2,hx2,hg2⟩ := r14_Get hv ([115,101,114,118,105,99,101,69,110,100,112,111,105,110,116] : List UInt8)
  obtain ⟨-,-,q3,q4⟩ := hx1.tin
  obtain ⟨-,-,r3,r4⟩ := hx2.tin
  obtain ⟨z2,-⟩ := hx2.un
  have ho1 : (one x1.xk && one x1.xi) = true := by rw [q3,q4]; rfl
  have ho2 : (one x2.xk && one x2.xi) = true := by rw [r3,r4]; rfl
  unfold tv at hid hg1 hg2 ⊢
  simp only [lawG,↓Xn,↓Xo,↓Xg,↓Xd,↓Xe,↓Xf,Tryz.VΓ,Tryz.Γs,Xp,Xi,Nat.reduceAdd,Nat.reduceSub,Nat.reduceLT,Nat.reduceLeDiff,reduceIte,reduceCtorEq,Nat.reduceEqDiff,implies_true,forall_const,lawV,lawA,beq_self_eq_true,bne_self_eq_false,Int.reduceBEq,Int.reduceBNe,Int.reduceLT,Int.reduceLE,ho,hb7]
  refine callV_sc (hid _) ?_
  rintro r b1 ⟨rfl,rfl⟩
  rw [hset]
  have hk1 := (KpP.of hp (Kp.refl bs)).set (dec d (idE d e j)) 74 true
  have hl1 : (bs.set p (.cells (dec d (idE d e j)) 74 true)).length = bs.length := List.length_set
  generalize bs.set p (.cells (dec d (idE d e j)) 74 true) = b1 at hk1 hl1
  rw [← hl1]
  simp only [lawG,↓Xn,↓Xo,↓Xg,↓Xd,↓Xe,↓Xf,Tryz.VΓ,Tryz.Γs,Xp,Xi,Nat.reduceAdd,Nat.reduceSub,Nat.reduceLT,Nat.reduceLeDiff,reduceIte,reduceCtorEq,Nat.reduceEqDiff,implies_true,forall_const,lawV,lawA,beq_self_eq_true,bne_self_eq_false,Int.reduceBEq,Int.reduceBNe,Int.reduceLT,Int.reduceLE]
  refine callV_sc (hg1 _ ((hk1.ro hp).app _)) ?_
  rintro r b2 ⟨rfl,rfl⟩
  have hp1l := (List.getElem?_eq_some_iff.1 hk1.2.2).1
  rcases hgt : j.get ([116,121,112,101] : List UInt8) with _ | m1
  simp only [lawG,↓Xn,↓Xo,↓Xg,↓Xd,↓Xe,↓Xf,Tryz.VΓ,Tryz.Γs,Xp,Xi,Nat.reduceAdd,Nat.reduceSub,Nat.reduceLT,Nat.reduceLeDiff,reduceIte,reduceCtorEq,Nat.reduceEqDiff,implies_true,forall_const,lawV,lawA,beq_self_eq_true,bne_self_eq_false,Int.reduceBEq,Int.reduceBNe,Int.reduceLT,Int.reduceLE,ho1,Option.isSome_none]
  have hfl := fun X => sc_rr_stop (at_old hk1.2.2 X) 160
  refine callV_sc (hfl _) ?_
  rintro r b2 ⟨rfl,rfl⟩
  rw [app_setL hp1l]
  have hk2 := hk1.set (dec d (failE (idE d e j) 160)) 74 true
  have hl2 : (b1.set p (.cells (dec d (failE (idE d e j) 160)) 74 true)).length = b1.length := List.length_set
  obtain ⟨hS1,hS2⟩ := strs_none hgt (idE d e j)
  generalize failE (idE d e j) 160 = ei at hk2 hl2 hS1 ⊢
  generalize b1.set p (.cells (dec d ei) 74 true) = b2 at hk2 hl2
  rw [← hl2]
  simp only [lawG,↓Xn,↓Xo,↓Xg,↓Xd,↓Xe,↓Xf,Tryz.VΓ,Tryz.Γs,Xp,Xi,Nat.reduceAdd,Nat.reduceSub,Nat.reduceLT,Nat.reduceLeDiff,reduceIte,reduceCtorEq,Nat.reduceEqDiff,implies_true,forall_const,lawV,lawA,beq_self_eq_true,bne_self_eq_false,Int.reduceBEq,Int.reduceBNe,Int.reduceLT,Int.reduceLE,ho]
  have hl2 := hl2.trans hl1
  clear hk1 hl1 hp1l hfl hg1 hgt hid
  rotate_left
  simp only [lawG,↓Xn,↓Xo,↓Xg,↓Xd,↓Xe,↓Xf,Tryz.VΓ,Tryz.Γs,Xp,Xi,Nat.reduceAdd,Nat.reduceSub,Nat.reduceLT,Nat.reduceLeDiff,reduceIte,reduceCtorEq,Nat.reduceEqDiff,implies_true,forall_const,lawV,lawA,beq_self_eq_true,bne_self_eq_false,Int.reduceBEq,Int.reduceBNe,Int.reduceLT,Int.reduceLE,ho1,ho,Option.isSome_some]
  obtain ⟨b2,hb2⟩ : ∃ b2,b2 = b1 := ⟨_,rfl⟩
  rw [← hb2] at hk1 hl1 ⊢
  have hk2 := hk1
  have hl2 := hl1
  obtain ⟨hS1,hS2⟩ := strs_some hgt (idE d e j)
  obtain ⟨ei,hei⟩ : ∃ ei,ei = idE d e j := ⟨_,rfl⟩
  rw [← hei] at hk2
  have hS1 : strsE ei j ([116,121,112,101] : List UInt8) true = moreE (idE d e j) (j.at ([116,121,112,101] : List UInt8)) := by rw [hei]; exact hS1
  clear hei hk1 hl1 hp1l hg1 hgt hid hb2
  rotate_left
  all_goals
    have hst := fun X => sc_rr_strings (hv.ro ((hk2.ro hp).app X)) ([116,121,112,101] : List UInt8) true (at_old hk2.2.2 X)
    unfold tv at hst
    refine callV_sc (hst _) ?_
    rintro y1 b3 ⟨hk3,hy1⟩
    have k3 := (hk2.app _).trans hk3
    rw [hS1] at k3
    rw [hS2] at hy1
    have c0 := hk3.at (app_at0 _ _) (by omega)
    have c1 := hk3.at (app_at _ _ 1) (by omega)
    have c2 := hk3.at (app_at _ _ 2) (by omega)
    have hro3 := k3.ro hp
    have hyo1 := hy1.one
    have hyc1 := hy1.cells
    have hy1 := hy1.le (lo' := bs.length) (by simp; omega)
    have hb3 := hk3.1
    simp only [List.length_append,List.length_cons,List.length_nil] at hb3
    rw [hl2] at c0 c1 c2 hb3 ⊢
    clear hk3 hst hk2 hl2 hS1 hS2
    have c2l := (List.getElem?_eq_some_iff.1 c2).1
    have c02 := fun X => get_setN c0 (show bs.length + 2 ≠ bs.length by omega) X
    simp only [lawG,↓Xn,↓Xo,↓Xg,↓Xd,↓Xe,↓Xf,Tryz.VΓ,Tryz.Γs,Xp,Xi,Nat.reduceAdd,Nat.reduceSub,Nat.reduceLT,Nat.reduceLeDiff,reduceIte,reduceCtorEq,Nat.reduceEqDiff,implies_true,forall_const,lawV,lawA,beq_self_eq_true,bne_self_eq_false,Int.reduceBEq,Int.reduceBNe,Int.reduceLT,Int.reduceLE,c0,c2,c02,hyo1,hyc1,ho]
    (repeat (refine ⟨by first | omega | (unfold maxLen; omega),?_⟩))
    have hro3 : Ro bs (b3.set (bs.length + 2) (.cells [.str (idT d j),y1,.nils] 46 true)) := hro3.trans (ro_box c2 _)
    refine callV_sc (hg2 _ hro3) ?_
    rintro r b4 ⟨rfl,rfl⟩
    have k4 := k3.setN (i := bs.length + 2) (by omega) (by omega) (.cells [.str (idT d j),y1,.nils] 46 true)
    have d1 := get_setN c1 (show bs.length + 2 ≠ bs.length + 1 by omega) (.cells [.str (idT d j),y1,.nils] 46 true)
    have d2 : (b3.set (bs.length + 2) (.cells [.str (idT d j),y1,.nils] 46 true))[bs.length + 2]? = _ := List.getElem?_set_self c2l
    have d0 := c02 (.cells [.str (idT d j),y1,.nils] 46 true)
    have hy1 := hy1.ro (ro_box c2 (.cells [.str (idT d j),y1,.nils] 46 true))
    generalize b3.set (bs.length + 2) (.cells [.str (idT d j),y1,.nils] 46 true) = b4 at k4 d0 d1 d2 hro3 hy1
    clear k3 c0 c1 c2 c02 c2l hb3
    have d1l := (List.getElem?_eq_some_iff.1 d1).1
    have hp4 := (List.getElem?_eq_some_iff.1 k4.2.2).1
    rcases hge : j.get ([115,101,114,118,105,99,101,69,110,100,112,111,105,110,116] : List UInt8) with _ | m2
    -- there is none
    have hb7e : (x2.k != 7) = true := by rw [z2,at_none hge]; rfl
    have h7e : ¬ (j.at ([115,101,114,118,105,99,101,69,110,100,112,111,105,110,116] : List UInt8)).k = 7 := by rw [at_none hge]; decide
    obtain ⟨hS1,hS2⟩ := strs_none hge (moreE (idE d e j) (j.at ([116,121,112,101] : List UInt8)))
    have hfl := fun X => sc_rr_stop (at_old k4.2.2 X) 160
    simp only [lawG,↓Xn,↓Xo,↓Xg,↓Xd,↓Xe,↓Xf,Tryz.VΓ,Tryz.Γs,Xp,Xi,Nat.reduceAdd,Nat.reduceSub,Nat.reduceLT,Nat.reduceLeDiff,reduceIte,reduceCtorEq,Nat.reduceEqDiff,implies_true,forall_const,lawV,lawA,beq_self_eq_true,bne_self_eq_false,Int.reduceBEq,Int.reduceBNe,Int.reduceLT,Int.reduceLE,ho2,Option.isSome_none]
    refine callV_sc (hfl _) ?_
    rintro r b5 ⟨rfl,rfl⟩
    rw [app_setL hp4]
    have k5 := k4.set (dec d (failE (moreE (idE d e j) (j.at ([116,121,112,101] : List UInt8))) 160)) 74 true
    have l5 : (b4.set p (.cells (dec d (failE (moreE (idE d e j) (j.at ([116,121,112,101] : List UInt8))) 160)) 74 true)).length = b4.length := List.length_set
    have f0 := get_setN d0 (show p ≠ bs.length by omega) (.cells (dec d (failE (moreE (idE d e j) (j.at ([116,121,112,101] : List UInt8))) 160)) 74 true)
    have f1 := get_setN d1 (show p ≠ bs.length + 1 by omega) (.cells (dec d (failE (moreE (idE d e j) (j.at ([116,121,112,101] : List UInt8))) 160)) 74 true)
    have f2 := get_setN d2 (show p ≠ bs.length + 2 by omega) (.cells (dec d (failE (moreE (idE d e j) (j.at ([116,121,112,101] : List UInt8))) 160)) 74 true)
    have hy1 := hy1.ro (ro_box k4.2.2 (.cells (dec d (failE (moreE (idE d e j) (j.at ([116,121,112,101] : List UInt8))) 160)) 74 true))
    generalize failE (moreE (idE d e j) (j.at ([116,121,112,101] : List UInt8))) 160 = ei at k5 l5 hS1 f0 f1 f2 hy1 ⊢
    generalize b4.set p (.cells (dec d ei) 74 true) = b5 at k5 l5 f0 f1 f2 hy1
    rw [← l5]
    simp only [lawG,↓Xn,↓Xo,↓Xg,↓Xd,↓Xe,↓Xf,Tryz.VΓ,Tryz.Γs,Xp,Xi,Nat.reduceAdd,Nat.reduceSub,Nat.reduceLT,Nat.reduceLeDiff,reduceIte,reduceCtorEq,Nat.reduceEqDiff,implies_true,forall_const,lawV,lawA,beq_self_eq_true,bne_self_eq_false,Int.reduceBEq,Int.reduceBNe,Int.reduceLT,Int.reduceLE,hb7e,at_old f0,ho]
    clear k4 d0 d1 d2 d1l hp4 hfl hg2 hge
    rotate_left
    -- there is one
    by_cases h7e : (j.at ([115,101,114,118,105,99,101,69,110,100,112,111,105,110,116] : List UInt8)).k = 7
    · have hb7e : (x2.k != 7) = false := by rw [z2,h7e]; rfl
      have s1 : ∀ (l : List Res) X,(b4 ++ l).set (bs.length + 1) X = b4.set (bs.length + 1) X ++ l := fun l X => app_setL d1l l X
      have s2 := fun X => get_setS d1l X
      simp only [lawG,↓Xn,↓Xo,↓Xg,↓Xd,↓Xe,↓Xf,Tryz.VΓ,Tryz.Γs,Xp,Xi,Nat.reduceAdd,Nat.reduceSub,Nat.reduceLT,Nat.reduceLeDiff,reduceIte,reduceCtorEq,Nat.reduceEqDiff,implies_true,forall_const,lawV,lawA,beq_self_eq_true,bne_self_eq_false,Int.reduceBEq,Int.reduceBNe,Int.reduceLT,Int.reduceLE,ho2,hb7e,Option.isSome_some,at_old d1,at_old d2,s1,s2,hyo1,hyc1]
      refine ⟨y1,.nils,rfl,?_,?_,?_⟩
      · have : servE d e j = moreE (idE d e j) (j.at ([116,121,112,101] : List UInt8)) := by unfold servE; rw [if_pos h7e]
        rw [this]
        exact (k4.setN (by omega) (by omega) _).app _
      · exact hy1.ro ((ro_box d1 _).app _)
      · have : (servM d j).ends = [] := by unfold servM; rw [if_pos h7e]
        rw [this]; exact .inl ⟨rfl,rfl⟩
    have hb7e : (x2.k != 7) = true := by rw [z2]; exact bne_iff_ne.2 h7e
    obtain ⟨hS1,hS2⟩ := strs_some hge (moreE (idE d e j) (j.at ([116,121,112,101] : List UInt8)))
    simp only [lawG,↓Xn,↓Xo,↓Xg,↓Xd,↓Xe,↓Xf,Tryz.VΓ,Tryz.Γs,Xp,Xi,Nat.reduceAdd,Nat.reduceSub,Nat.reduceLT,Nat.reduceLeDiff,reduceIte,reduceCtorEq,Nat.reduceEqDiff,implies_true,forall_const,lawV,lawA,beq_self_eq_true,bne_self_eq_false,Int.reduceBEq,Int.reduceBNe,Int.reduceLT,Int.reduceLE,ho2,hb7e,Option.isSome_some,at_old d0,ho]
    obtain ⟨b5,hb5⟩ : ∃ b5,b5 = b4 := ⟨_,rfl⟩
    obtain ⟨ei,hei⟩ : ∃ ei,ei = moreE (idE d e j) (j.at ([116,121,112,101] : List UInt8)) := ⟨_,rfl⟩
    rw [← hb5] at k4 d0 d1 d2 hy1 ⊢
    have k5 := k4
    rw [← hei] at k5
    have hS1 : strsE ei j ([115,101,114,118,105,99,101,69,110,100,112,111,105,110,116] : List UInt8) true = moreE (moreE (idE d e j) (j.at ([116,121,112,101] : List UInt8))) (j.at ([115,101,114,118,105,99,101,69,110,100,112,111,105,110,116] : List UInt8)) := by rw [hei]; exact hS1
    have f0 := d0
    have f1 := d1
    have f2 := d2
    clear hei k4 d0 d1 d2 hge hg2
    rotate_left
    all_goals
      have hst := fun X => sc_rr_strings (hv.ro ((k5.ro hp).app X)) ([115,101,114,118,105,99,101,69,110,100,112,111,105,110,116] : List UInt8) true (at_old k5.2.2 X)
      unfold tv at hst
      refine callV_sc (hst _) ?_
      rintro y2 b6 ⟨hk6,hy2⟩
      have k6 := (k5.app _).trans hk6
      rw [hS1] at k6
      rw [hS2] at hy2
      have g1 := hk6.at (at_old f1 _) (by omega)
      have g2 := hk6.at (at_old f2 _) (by omega)
      have hyo2 := hy2.one
      have hyc2 := hy2.cells
      have hy1 := hy1.ro (((Ro.refl b5).app _).trans (hk6.ro (at_old k5.2.2 _)))
      have hy2 := hy2.le (lo' := bs.length) (by have := k5.1; simp; omega)
      have g1l := (List.getElem?_eq_some_iff.1 g1).1
      have g2l := (List.getElem?_eq_some_iff.1 g2).1
      have s1 := fun X Y => List.getElem?_set_self (l := b6.set (bs.length + 2) X) (i := bs.length + 1) (a := Y) (by simpa using g1l)
      have s2 := fun X => get_setN g1 (show bs.length + 2 ≠ bs.length + 1 by omega) X
      have s3 : ∀ X,(b6.set (bs.length + 2) X)[bs.length + 2]? = some X := fun X => List.getElem?_set_self g2l
      simp only [lawG,↓Xn,↓Xo,↓Xg,↓Xd,↓Xe,↓Xf,Tryz.VΓ,Tryz.Γs,Xp,Xi,Nat.reduceAdd,Nat.reduceSub,Nat.reduceLT,Nat.reduceLeDiff,reduceIte,reduceCtorEq,Nat.reduceEqDiff,implies_true,forall_const,lawV,lawA,beq_self_eq_true,bne_self_eq_false,Int.reduceBEq,Int.reduceBNe,Int.reduceLT,Int.reduceLE,g1,g2,hyo1,hyo2,hyc1,hyc2,s1,s2,s3]
      refine ⟨y1,y2,rfl,?_,?_,?_⟩
      · have : servE d e j = moreE (moreE (idE d e j) (j.at ([116,121,112,101] : List UInt8))) (j.at ([115,101,114,118,105,99,101,69,110,100,112,111,105,110,116] : List UInt8)) := by unfold servE; rw [if_neg h7e]
        rw [this]
        exact (k6.setN (by omega) (by omega) _).setN (by omega) (by omega) _
      · exact hy1.ro ((ro_box g2 _).trans (ro_box (s2 _) _))
      · have : (servM d j).ends = moreL (j.at ([115,101,114,118,105,99,101,69,110,100,112,111,105,110,116] : List UInt8)) := by unfold servM; rw [if_neg h7e]
        rw [this]; exact hy2.ro ((ro_box g2 _).trans (ro_box (s2 _) _))
theorem sc_rr_service {bs : List Res} {j : Jv} {v : Tv} (hv : TJ bs j v) {p : Nat} {d : Did} {e : Int} (hd : DidFits d) (hp : bs[p]? = some (.cells (dec d e) 74 true)) :
    SC Tryz.V 38 [.p p 0,.agg (tv v)] bs (fun r b => r = .agg [.str (servR d j).id,canS bs.length (servR d j).types,canS (bs.length + 1) (servR d j).ends] ∧ b = bs.set p (.cells (dec d (servE d e j)) 74 true) ++ [canR (servR d j).types,canR (servR d j).ends]) :=
  serv_pick (List.getElem?_eq_some_iff.1 hp).1 (dec_flat d (servE d e j)) (servR d j) (sc_rr_servR hv hd hp)
end Go.Proofs.YtejfjmcjicpodaaGreatDoor
/- The walk of ref17.Decode. -/
set_option linter.all false
set_option maxRecDepth 20000
namespace Go.Proofs.YtejfjmcjicpodaaGreatDoor
open Go Vc Go.RowKit Wf
set_option linter.unusedSimpArgs false
theorem rn_pick {f : FuncId} {args : List SV} {bs : List Res} {p : Nat} {c : List SV} {T : TypeId} {m : Bool} (hpl : p < bs.length) (hc : flat.flatL c = true) (L : List Bytes)
    (h : SC Tryz.V f args bs (fun r b => KpP p c T m bs b ∧ Rn bs.length b r L)) :
    SC Tryz.V f args bs (fun r b => r = canS bs.length L ∧ b = bs.set p (.cells c T m) ++ [canR L]) := by
  refine SC.pickP (T := T) (mb := m) hpl hc (h.mono ?_)
  rintro r b ⟨hk,h1⟩
  obtain ⟨q1,l1,k1⟩ := h1.can bs.length
  obtain ⟨ρ,hρ⟩ : ∃ ρ : Nat → Nat,ρ = fun i => if i = bs.length then q1 else i := ⟨_,rfl⟩
  have r1 : ρ bs.length = q1 := by rw [hρ]; simp
  obtain ⟨a1,b1⟩ := k1 ρ r1
  have hk0 : ∀ k,k < bs.length → ρ k = k := fun k hk => by rw [hρ]; show (if k = bs.length then q1 else k) = k; rw [if_neg (by omega)]
  refine ⟨ρ,[canR L],_,hk,hk0,?_,a1,canS_in (by simp) _,rfl,rfl⟩
  rintro q X hX
  match q,hX with
  | 0,hX =>
    cases hX
    by_cases hT : L = []
    · rw [show canR L = .gone from if_pos hT]; exact .inl rfl
    · rw [show canR L = .own (L.map SV.str) 9 1 L.length false from if_neg hT]
      refine .inr ⟨_,_,_,_,false,rfl,?_,?_,str_in _ _⟩
      · rw [Nat.add_zero,r1]; exact l1 hT
      · rw [Nat.add_zero,r1,renL_within hk0 _ (str_in _ _)]; exact b1 hT
def docEx (d : Did) (e : Int) (v : Jv) : Int := servsE d (methsE d (ctrlE (alsoE e v) v) v) v
theorem docEx_ne {d : Did} {e : Int} {v : Jv} (h : e ≠ 0) : docEx d e v = e := by
  have h1 : alsoE e v = e := by unfold alsoE; rw [listE_ne h,textsE_ne h]
  have h2 : ctrlE e v = e := by unfold ctrlE; split <;> simp [moreE_ne h]
  have h3 : methsE d e v = e := by unfold methsE; rw [listE_ne h]; exact foldE_ne (fun e v h => methE_ne h) h _
  have h4 : servsE d e v = e := by unfold servsE; rw [listE_ne h]; exact foldE_ne (fun e v h => servE_ne h) h _
  unfold docEx
  rw [h1,h2,h3,h4]
theorem foldE_z {g : Int → Jv → Int} (hg : ∀ e v,e ≠ 0 → g e v = e) : ∀ (L : List Jv) (e : Int),foldE g e L = 0 → e = 0 ∧ ∀ x ∈ L,g 0 x = 0
  | [],e,h => ⟨h,by simp⟩
  | x :: L,e,h => by
    have h : foldE g (g e x) L = 0 := h
    obtain ⟨h1,h2⟩ := foldE_z hg L _ h
    have he : e = 0 := by
      by_cases he : e = 0
      · exact he
      · rw [hg e x he] at h1; exact h1
    refine ⟨he,fun y hy => ?_⟩
    rcases List.mem_cons.1 hy with rfl | hy
    · rw [he] at h1; exact h1
    · exact h2 y hy
theorem methR_all {d : Did} {e : Int} {L : List Jv} (h : foldE (methE d) e L = 0) : L.map (methR d) = L.map (methM d) := List.map_congr_left fun x hx => by
  have := (foldE_z (fun e v h => methE_ne h) L e h).2 x hx
  unfold methR
  by_cases h7 : x.k = 7
  · rw [if_pos h7]
  · rw [methE_not h7] at this; exact absurd this (failE_160 0)
theorem servR_all {d : Did} {e : Int} {L : List Jv} (h : foldE (servE d) e L = 0) : L.map (servR d) = L.map (servM d) := List.map_congr_left fun x hx => by
  have := (foldE_z (fun e v h => servE_ne h) L e h).2 x hx
  unfold servR
  by_cases h7 : x.k = 7
  · rw [if_pos h7]
  · rw [servE_not h7] at this; exact absurd this (failE_160 0)
theorem docEx_z {d : Did} {e : Int} {v : Jv} (h : docEx d e v = 0) : (listL v ([118,101,114,105,102,105,99,97,116,105,111,110,77,101,116,104,111,100] : List UInt8)).map (methR d) = (listL v ([118,101,114,105,102,105,99,97,116,105,111,110,77,101,116,104,111,100] : List UInt8)).map (methM d) ∧ (listL v ([115,101,114,118,105,99,101] : List UInt8)).map (servR d) = (listL v ([115,101,114,118,105,99,101] : List UInt8)).map (servM d) := by
  have h1 : foldE (servE d) (listE (methsE d (ctrlE (alsoE e v) v) v) v ([115,101,114,118,105,99,101] : List UInt8)) (listL v ([115,101,114,118,105,99,101] : List UInt8)) = 0 := h
  have h2 := (foldE_z (fun e v h => servE_ne h) _ _ h1).1
  have h3 : methsE d (ctrlE (alsoE e v) v) v = 0 := by
    by_cases h4 : methsE d (ctrlE (alsoE e v) v) v = 0
    · exact h4
    · rw [listE_ne h4] at h2; exact h2
  exact ⟨methR_all h3,servR_all h1⟩
theorem strs_also (e : Int) (j : Jv) : strsE e j ([97,108,115,111,75,110,111,119,110,65,115] : List UInt8) false = alsoE e j ∧ strsL j ([97,108,115,111,75,110,111,119,110,65,115] : List UInt8) false = alsoL j := by
  unfold strsE strsL alsoE alsoL listE listL
  cases j.get ([97,108,115,111,75,110,111,119,110,65,115] : List UInt8) with
  | none => exact ⟨by simp [textsE],rfl⟩
  | some m => simp
theorem strs_ctrl (e : Int) (j : Jv) : strsE e j ([99,111,110,116,114,111,108,108,101,114] : List UInt8) true = ctrlE e j ∧ strsL j ([99,111,110,116,114,111,108,108,101,114] : List UInt8) true = ctrlL j := by
  cases h : j.get ([99,111,110,116,114,111,108,108,101,114] : List UInt8) with
  | none => unfold strsE strsL ctrlE ctrlL; rw [h]; exact ⟨rfl,rfl⟩
  | some m =>
    obtain ⟨h1,h2⟩ := strs_some h e
    have hat : j.at ([99,111,110,116,114,111,108,108,101,114] : List UInt8) = m := by unfold Jv.at; rw [h]; rfl
    rw [hat] at h1 h2
    rw [h1,h2]
    unfold ctrlE ctrlL; rw [h]; exact ⟨rfl,rfl⟩
def DJ (bs b : List Res) (v : Tv) (d : Did) (e : Int) (D : List SV) : Prop := Kp bs b ∧ b[bs.length]? = some (.cells [.int .i64 v.k,.str v.t,v.xk,v.xi] 25 true) ∧ b[bs.length + 1]? = some (.cells [.str [],.nils,.nils,.nils,.nils] 34 true) ∧
  b[bs.length + 2]? = some (.cells (dec d e) 74 true) ∧ b[bs.length + 5]? = some (.cells D 34 true)
theorem DJ.setE {bs b : List Res} {v : Tv} {d : Did} {e : Int} {D : List SV} (h : DJ bs b v d e D) (e' : Int) : DJ bs (b.set (bs.length + 2) (.cells (dec d e') 74 true)) v d e' D :=
  ⟨h.1.set (by omega) _,get_setN h.2.1 (by omega) _,get_setN h.2.2.1 (by omega) _,List.getElem?_set_self (List.getElem?_eq_some_iff.1 h.2.2.2.1).1,get_setN h.2.2.2.2 (by omega) _⟩
theorem DJ.setD {bs b : List Res} {v : Tv} {d : Did} {e : Int} {D : List SV} (h : DJ bs b v d e D) (D' : List SV) : DJ bs (b.set (bs.length + 5) (.cells D' 34 true)) v d e D' :=
  ⟨h.1.set (by omega) _,get_setN h.2.1 (by omega) _,get_setN h.2.2.1 (by omega) _,get_setN h.2.2.2.1 (by omega) _,List.getElem?_set_self (List.getElem?_eq_some_iff.1 h.2.2.2.2).1⟩
theorem DJ.setQ {bs b : List Res} {v : Tv} {d : Did} {e : Int} {D : List SV} (h : DJ bs b v d e D) {q : Nat} (hq : bs.length + 5 < q) (X : Res) : DJ bs (b.set q X) v d e D :=
  ⟨h.1.set (by omega) _,get_setN h.2.1 (by omega) _,get_setN h.2.2.1 (by omega) _,get_setN h.2.2.2.1 (by omega) _,get_setN h.2.2.2.2 (by omega) _⟩
theorem DJ.app {bs b : List Res} {v : Tv} {d : Did} {e : Int} {D : List SV} (h : DJ bs b v d e D) (X : List Res) : DJ bs (b ++ X) v d e D :=
  ⟨h.1.app _,at_old h.2.1 _,at_old h.2.2.1 _,at_old h.2.2.2.1 _,at_old h.2.2.2.2 _⟩
theorem DJ.lt {bs b : List Res} {v : Tv} {d : Did} {e : Int} {D : List SV} (h : DJ bs b v d e D) : bs.length + 5 < b.length := (List.getElem?_eq_some_iff.1 h.2.2.2.2).1
theorem DJ.roE {bs b : List Res} {v : Tv} {d : Did} {e : Int} {D : List SV} (h : DJ bs b v d e D) (X : Res) : Ro b (b.set (bs.length + 2) X) := ro_box h.2.2.2.1 X
theorem DJ.roD {bs b : List Res} {v : Tv} {d : Did} {e : Int} {D : List SV} (h : DJ bs b v d e D) (X : Res) : Ro b (b.set (bs.length + 5) X) := ro_box h.2.2.2.2 X
theorem canS_isV (i : Nat) (T : List Bytes) : isV (canS i T) = false := by unfold canS; split <;> rfl
theorem canS_cells (i : Nat) (T : List Bytes) : cells (canS i T) = [canS i T] := by unfold canS; split <;> rfl
theorem outs_set1 {i n : Nat} {b : List Res} (hn : n = b.length) (X Y : Res) : Outs [(i,0,0),(n,0,0)] (b.set i X ++ [Y]) b := outs_of (fun j hj => by
  have h1 := hj (i,0,0) (by simp)
  have h2 := hj (n,0,0) (by simp)
  simp only at h1 h2
  rcases Nat.lt_or_ge j b.length with h | h
  · rw [List.getElem?_append_left (by simpa using h),List.getElem?_set_ne h1]
  · rw [List.getElem?_eq_none (by simp; omega),List.getElem?_eq_none h]) (by simp)
set_option maxHeartbeats 16000000 in
theorem sc_rr_Decode {bs : List Res} {j : Jv} {v : Tv} (hv : TJ bs j v) :
    SC Tryz.V 11 [.agg (tv v)] bs (fun r b => ∃ c,r = .tup [.agg c,.int .i64 (docOf j).2] ∧ Kp bs b ∧ DocR b c (docOf j).1) := by
  refine SC.dimAll ?_
  obtain ⟨v1,v2,v3,v4⟩ := hv.tin
  have ho : (one v.xk && one v.xi) = true := by rw [v3,v4]; rfl
  obtain ⟨e1,-⟩ := hv.un
  refine sc_of 3000 Tryz.func11 rfl Tryz.ntmps11 Tryz.results11 Tryz.call11 (by simp) (fun β β' hb => concL_within bs.length _ (by simp [within,within.withinL,tv,v1,v2]) β β' hb) ?_
  by_cases h7 : j.k = 7
  rotate_left
  · have hb7 : (v.k != 7) = true := by rw [e1]; exact bne_iff_ne.2 h7
    unfold tv
    simp only [lawG,↓Xn,↓Xo,↓Xg,↓Xd,↓Xe,↓Xf,Tryz.VΓ,Tryz.Γs,Xp,Xi,Nat.reduceAdd,Nat.reduceSub,Nat.reduceLT,Nat.reduceLeDiff,reduceIte,reduceCtorEq,Nat.reduceEqDiff,implies_true,forall_const,lawV,lawA,beq_self_eq_true,bne_self_eq_false,Int.reduceBEq,Int.reduceBNe,Int.reduceLT,Int.reduceLE,ho,hb7]
    have : docOf j = (Docm.none,160) := by unfold docOf; rw [if_neg h7]
    rw [this]
    exact ⟨by simp,_,rfl,((Kp.refl bs).app _).dimB,DocR.none _⟩
  have hb7 : (v.k != 7) = false := by rw [e1,h7]; rfl
  have hm := fun X => sc_rr_text (hv.ro ((Ro.refl bs).app X)) ([105,100] : List UInt8) (p := bs.length + 2) (d := Did.none) (e := 0)
  obtain ⟨x0,hx0,-⟩ := r14_Get hv ([105,100] : List UInt8)
  obtain ⟨-,-,hlen,-⟩ := hx0.un
  have pp := p_r10_ParseDID (j.at ([105,100] : List UInt8)).t
  unfold tv at hm ⊢
  unfold dsv at pp
  simp only [lawG,↓Xn,↓Xo,↓Xg,↓Xd,↓Xe,↓Xf,Tryz.VΓ,Tryz.Γs,Xp,Xi,Nat.reduceAdd,Nat.reduceSub,Nat.reduceLT,Nat.reduceLeDiff,reduceIte,reduceCtorEq,Nat.reduceEqDiff,implies_true,forall_const,lawV,lawA,beq_self_eq_true,bne_self_eq_false,Int.reduceBEq,Int.reduceBNe,Int.reduceLT,Int.reduceLE,ho,hb7]
  refine callV_sc (hm _ (app_at _ _ 2)) ?_
  rintro r b1 ⟨rfl,rfl⟩
  unfold dec
  simp only [lawG,↓Xn,↓Xo,↓Xg,↓Xd,↓Xe,↓Xf,Tryz.VΓ,Tryz.Γs,Xp,Xi,Nat.reduceAdd,Nat.reduceSub,Nat.reduceLT,Nat.reduceLeDiff,reduceIte,reduceCtorEq,Nat.reduceEqDiff,implies_true,forall_const,lawV,lawA,beq_self_eq_true,bne_self_eq_false,Int.reduceBEq,Int.reduceBNe,Int.reduceLT,Int.reduceLE]
  (refine callV_pc (pp) ?_; simp only [lawG,↓Xn,↓Xo,↓Xg,↓Xd,↓Xe,↓Xf,Tryz.VΓ,Tryz.Γs,Xp,Xi,Nat.reduceAdd,Nat.reduceSub,Nat.reduceLT,Nat.reduceLeDiff,reduceIte,reduceCtorEq,Nat.reduceEqDiff,implies_true,forall_const,lawV,lawA,beq_self_eq_true,bne_self_eq_false,Int.reduceBEq,Int.reduceBNe,Int.reduceLT,Int.reduceLE])
  obtain ⟨d,hd⟩ : ∃ d,d = (didParse (j.at ([105,100] : List UInt8)).t).1 := ⟨_,rfl⟩
  by_cases hp0 : (didParse (j.at ([105,100] : List UInt8)).t).2 = 0
  rotate_left
  · have hdoc : docOf j = (Docm.none,160) := by unfold docOf; rw [if_pos h7,if_neg (fun h => hp0 h.2)]
    have hb2 : ((didParse (j.at ([105,100] : List UInt8)).t).2 != 0) = true := bne_iff_ne.2 hp0
    simp only [lawG,↓Xn,↓Xo,↓Xg,↓Xd,↓Xe,↓Xf,Tryz.VΓ,Tryz.Γs,Xp,Xi,Nat.reduceAdd,Nat.reduceSub,Nat.reduceLT,Nat.reduceLeDiff,reduceIte,reduceCtorEq,Nat.reduceEqDiff,implies_true,forall_const,lawV,lawA,beq_self_eq_true,bne_self_eq_false,Int.reduceBEq,Int.reduceBNe,Int.reduceLT,Int.reduceLE,hb2]
    rw [hdoc]
    exact ⟨by simp,_,rfl,((Kp.refl bs).app _).dimB,DocR.none _⟩
  have hb2 : ((didParse (j.at ([105,100] : List UInt8)).t).2 != 0) = false := by rw [hp0]; rfl
  obtain ⟨E0,hE0⟩ : ∃ E0,E0 = textsE 0 [j.at ([105,100] : List UInt8)] := ⟨_,rfl⟩
  have hdoc : docOf j = if docEx d E0 j = 0 then (docM d j,0) else (Docm.none,docEx d E0 j) := by
    unfold docOf
    rw [if_pos h7]
    by_cases h5 : (j.at ([105,100] : List UInt8)).k = 5
    · have : E0 = 0 := by rw [hE0,textsE_one,if_pos h5]
      rw [if_pos ⟨h5,hp0⟩,hd,this]; rfl
    · have : E0 = 160 := by rw [hE0,textsE_one,if_neg h5]; rfl
      rw [if_neg (fun h => h5 h.1),this,docEx_ne (by decide),if_neg (by decide)]
  have hfit := did_fits hp0
  have pf := p_r10_FormatDID _ hfit
  unfold dsv at pf
  rw [← hd] at pf hfit
  simp only [lawG,↓Xn,↓Xo,↓Xg,↓Xd,↓Xe,↓Xf,Tryz.VΓ,Tryz.Γs,Xp,Xi,Nat.reduceAdd,Nat.reduceSub,Nat.reduceLT,Nat.reduceLeDiff,reduceIte,reduceCtorEq,Nat.reduceEqDiff,implies_true,forall_const,lawV,lawA,beq_self_eq_true,bne_self_eq_false,Int.reduceBEq,Int.reduceBNe,Int.reduceLT,Int.reduceLE,hb2]
  rw [← hd,← hE0]
  (refine callD_pc (pf) ?_; simp only [lawG,↓Xn,↓Xo,↓Xg,↓Xd,↓Xe,↓Xf,Tryz.VΓ,Tryz.Γs,Xp,Xi,Nat.reduceAdd,Nat.reduceSub,Nat.reduceLT,Nat.reduceLeDiff,reduceIte,reduceCtorEq,Nat.reduceEqDiff,implies_true,forall_const,lawV,lawA,beq_self_eq_true,bne_self_eq_false,Int.reduceBEq,Int.reduceBNe,Int.reduceLT,Int.reduceLE])
  have hsa := rn_pick (bs := bs ++ [.cells [.int .i64 v.k,.str v.t,v.xk,v.xi] 25 true,.cells [.str [],.nils,.nils,.nils,.nils] 34 true,.cells [.str d.method,.str d.id,.int .i64 E0] 74 true,.cells [.str d.method,.str d.id] 60 true]) (by simp) (dec_flat _ _) _ (sc_rr_strings (hv.ro ((Ro.refl bs).app _)) ([97,108,115,111,75,110,111,119,110,65,115] : List UInt8) false (p := bs.length + 2) (d := d) (e := E0) (app_at _ _ 2))
  unfold tv at hsa
  rw [(strs_also E0 j).1,(strs_also E0 j).2] at hsa
  have hca : ∀ i,one (canS i (alsoL j)) = true := fun i => canS_one i _
  refine callD_scw [(bs.length + 2,0,0),(bs.length + 4,0,0)] hsa (outs_set1 (by simp) _ _) ?_
  unfold dec
  have hci : ∀ i,isV (canS i (alsoL j)) = false := fun i => canS_isV i _
  have hcc : ∀ i,cells (canS i (alsoL j)) = [canS i (alsoL j)] := fun i => canS_cells i _
  simp only [lawG,↓Xn,↓Xo,↓Xg,↓Xd,↓Xe,↓Xf,Tryz.VΓ,Tryz.Γs,Xp,Xi,Nat.reduceAdd,Nat.reduceSub,Nat.reduceLT,Nat.reduceLeDiff,reduceIte,reduceCtorEq,Nat.reduceEqDiff,implies_true,forall_const,lawV,lawA,beq_self_eq_true,bne_self_eq_false,Int.reduceBEq,Int.reduceBNe,Int.reduceLT,Int.reduceLE,hca,hci,hcc]
  refine ⟨by (refine OkD_ren (fun n => n - bs.length) ?_; simp only [List.map_cons,List.map_nil,renRk,renT,Nat.add_sub_cancel_left,Nat.sub_self,if_true]; exact OkD_fast (by kernel_rfl)),?_⟩
  have hxa0 : Rs (bs ++ [.cells [.int .i64 v.k,.str v.t,v.xk,v.xi] 25 true,.cells [.str [],.nils,.nils,.nils,.nils] 34 true,.cells [.str d.method,.str d.id,.int .i64 (alsoE E0 j)] 74 true,.cells [.str d.method,.str d.id] 60 true,canR (alsoL j),.cells [.str (didText d),canS (bs.length + 4) (alsoL j),.nils,.nils,.nils] 34 true]) (canS (bs.length + 4) (alsoL j)) (alsoL j) := canS_rs (app_at _ _ 4)
  obtain ⟨xa,hxa⟩ : ∃ xa,xa = canS (bs.length + 4) (alsoL j) := ⟨_,rfl⟩
  have hxaO := hca (bs.length + 4)
  rw [← hxa] at hxa0 hxaO ⊢
  clear hsa hca hci hcc hxa
  have dS : DJ bs (bs ++ [.cells [.int .i64 v.k,.str v.t,v.xk,v.xi] 25 true,.cells [.str [],.nils,.nils,.nils,.nils] 34 true,.cells [.str d.method,.str d.id,.int .i64 (alsoE E0 j)] 74 true,.cells [.str d.method,.str d.id] 60 true,canR (alsoL j),.cells [.str (didText d),xa,.nils,.nils,.nils] 34 true]) v d (alsoE E0 j) [.str (didText d),xa,.nils,.nils,.nils] :=
    ⟨(Kp.refl bs).app _,app_at0 _ _,app_at _ _ 1,app_at _ _ 2,app_at _ _ 5⟩
  generalize (bs ++ [.cells [.int .i64 v.k,.str v.t,v.xk,v.xi] 25 true,.cells [.str [],.nils,.nils,.nils,.nils] 34 true,.cells [.str d.method,.str d.id,.int .i64 (alsoE E0 j)] 74 true,.cells [.str d.method,.str d.id] 60 true,canR (alsoL j),.cells [.str (didText d),xa,.nils,.nils,.nils] 34 true] : List Res) = S at hxa0 dS ⊢
  have hst := sc_rr_strings (hv.ro dS.1.ro) ([99,111,110,116,114,111,108,108,101,114] : List UInt8) true dS.2.2.2.1
  unfold tv at hst
  refine callV_sc hst ?_
  rintro xc S2 ⟨hk2,hxc⟩
  rw [(strs_ctrl (alsoE E0 j) j).1] at hk2
  rw [(strs_ctrl (alsoE E0 j) j).2] at hxc
  have d2 : DJ bs S2 v d (ctrlE (alsoE E0 j) j) [.str (didText d),xa,.nils,.nils,.nils] := ⟨dS.1.kpP hk2 (by omega),hk2.at dS.2.1 (by omega),hk2.at dS.2.2.1 (by omega),hk2.2.2,hk2.at dS.2.2.2.2 (by omega)⟩
  have hxa2 := hxa0.ro (hk2.ro dS.2.2.2.1)
  have hxcO := hxc.one
  have hxcC := hxc.cells
  have hxc := hxc.rs
  have f0s := fun X => get_setN d2.2.1 (show bs.length + 5 ≠ bs.length by omega) X
  simp only [lawG,↓Xn,↓Xo,↓Xg,↓Xd,↓Xe,↓Xf,Tryz.VΓ,Tryz.Γs,Xp,Xi,Nat.reduceAdd,Nat.reduceSub,Nat.reduceLT,Nat.reduceLeDiff,reduceIte,reduceCtorEq,Nat.reduceEqDiff,implies_true,forall_const,lawV,lawA,beq_self_eq_true,bne_self_eq_false,Int.reduceBEq,Int.reduceBNe,Int.reduceLT,Int.reduceLE,d2.2.2.2.2,hxcO,hxcC,hxaO,f0s,ho]
  have d3 := d2.setD [.str (didText d),xa,xc,.nils,.nils]
  have hxa3 := hxa2.ro (d2.roD (.cells [.str (didText d),xa,xc,.nils,.nils] 34 true))
  have hxc3 := hxc.ro (d2.roD (.cells [.str (didText d),xa,xc,.nils,.nils] 34 true))
  generalize S2.set (bs.length + 5) (.cells [.str (didText d),xa,xc,.nils,.nils] 34 true) = S3 at d3 hxa3 hxc3 ⊢
  clear hst hk2 hxa2 hxc f0s d2
  obtain ⟨ym,Lm,hym,hLm,hlm⟩ := sc_rr_objects hv ([118,101,114,105,102,105,99,97,116,105,111,110,77,101,116,104,111,100] : List UInt8)
  obtain ⟨ys,Lv,hys,hLv,hls⟩ := sc_rr_objects hv ([115,101,114,118,105,99,101] : List UInt8)
  have hll : ∀ key,(listL j key).length ≤ 1000 := fun key => by
    unfold listL; split
    · unfold arrL; split <;> (try split) <;> first | omega | simp
    · simp
  have hymo := hym.one
  have hyso := hys.one
  have hyml := hym.len
  have hysl := hys.len
  have hLml := hLm.len
  have hLvl := hLv.len
  have hm64 := hll ([118,101,114,105,102,105,99,97,116,105,111,110,77,101,116,104,111,100] : List UInt8)
  have hv64 := hll ([115,101,114,118,105,99,101] : List UInt8)
  unfold tv at hlm hls
  refine callV_sc (hlm _ (bs.length + 2) d _ d3.1.ro d3.2.2.2.1 (within_up d3.1.1 hym.within)) ?_
  rintro ym b1 ⟨rfl,rfl⟩
  obtain ⟨E1,hE1⟩ : ∃ E1,E1 = listE (ctrlE (alsoE E0 j) j) j ([118,101,114,105,102,105,99,97,116,105,111,110,77,101,116,104,111,100] : List UInt8) := ⟨_,rfl⟩
  rw [← hE1]
  have dT := d3.setE E1
  have hxaT := hxa3.ro (d3.roE (.cells (dec d E1) 74 true))
  have hxcT := hxc3.ro (d3.roE (.cells (dec d E1) 74 true))
  generalize S3.set (bs.length + 2) (.cells (dec d E1) 74 true) = T at dT hxaT hxcT
  clear d3 hxa3 hxc3 dS hxa0
  simp only [lawG,↓Xn,↓Xo,↓Xg,↓Xd,↓Xe,↓Xf,Tryz.VΓ,Tryz.Γs,Xp,Xi,Nat.reduceAdd,Nat.reduceSub,Nat.reduceLT,Nat.reduceLeDiff,reduceIte,reduceCtorEq,Nat.reduceEqDiff,implies_true,forall_const,lawV,lawA,beq_self_eq_true,bne_self_eq_false,Int.reduceBEq,Int.reduceBNe,Int.reduceLT,Int.reduceLE,hyml]
  obtain ⟨LM,hLM⟩ : ∃ LM,LM = listL j ([118,101,114,105,102,105,99,97,116,105,111,110,77,101,116,104,111,100] : List UInt8) := ⟨_,rfl⟩
  rw [← hLM] at hLm hLml hm64
  refine loopV_mk (fun σ => ∃ (k : Nat) (xm : SV),k ≤ Lm.length ∧ lk 1 σ.t = some (.p bs.length 0) ∧ lk 2 σ.t = some (.p (bs.length + 1) 0) ∧ lk 4 σ.t = some (.p (bs.length + 2) 0) ∧ lk 7 σ.t = some (.p (bs.length + 5) 0) ∧ lk 44 σ.t = some ym ∧ lk 45 σ.t = some (.int .i64 Lm.length) ∧ lk 46 σ.t = some (.int .i64 k) ∧
    DJ bs σ.b v d (foldE (methE d) E1 (LM.take k)) [.str (didText d),xa,xc,xm,.nils] ∧ Rs σ.b xa (alsoL j) ∧ Rs σ.b xc (ctrlL j) ∧
    ((xm = .nils ∧ k = 0) ∨ ∃ q,0 < k ∧ xm = .o q k ∧ bs.length + 5 < q ∧ σ.b[q]? = some (.own (((LM.take k).map (methR d)).flatMap mc) 48 3 k true))) (fun σ => Lm.length - lkI 46 σ)
    ⟨0,.nils,by omega,rfl,rfl,rfl,rfl,rfl,rfl,rfl,dT,hxaT,hxcT,.inl ⟨rfl,rfl⟩⟩ ?_
  clear dT hxaT hxcT
  clear T
  rintro ⟨t,b⟩ ⟨k,xm,hk,l1,l2,l4,l7,l44,l45,l46,dT,hxaT,hxcT,hxm⟩
  simp only at l1 l2 l4 l7 l44 l45 l46 dT hxaT hxcT hxm
  rw [lkI_eq l46]
  have hxmo : one xm = true := by rcases hxm with ⟨rfl,-⟩ | ⟨q,-,rfl,-⟩ <;> rfl
  have hxaO := hxaT.one
  have hxcO := hxcT.one
  by_cases hlt : k < Lm.length
  · have hlt2 : decide ((k : Int) < Lm.length) = true := decide_eq_true (by omega)
    have hltL : k < LM.length := by omega
    rcases hym with ⟨-,hx0⟩ | ⟨i,rfl,hi⟩
    · rw [hx0] at hlt; exact absurd hlt (by simp)
    have hbi := dT.1.at hi
    have hu : List.take 4 (List.drop (k * 4) (Lm.flatMap tv)) = [.int .i64 Lm[k].k,.str Lm[k].t,Lm[k].xk,Lm[k].xi] := tv_at Lm k hlt
    have hul := tv_len Lm
    have hel := hLm.at k hltL hlt
    obtain ⟨u1,u2,u3,u4⟩ := hel.tin
    have hfo : foldE (methE d) E1 (LM.take (k + 1)) = methE d (foldE (methE d) E1 (LM.take k)) LM[k] := by
      unfold foldE; rw [List.take_succ_eq_append_getElem hltL,List.foldl_append]; rfl
    have hsn : ((LM.take (k + 1)).map (methR d)).flatMap mc = ((LM.take k).map (methR d)).flatMap mc ++ mc (methR d LM[k]) := by
      rw [List.take_succ_eq_append_getElem hltL,List.map_append,List.flatMap_append]; simp
    have huo : (one Lm[k].xk && one Lm[k].xi) = true := by rw [u3,u4]; rfl
    generalize Lm[k] = u at hu hel huo
    generalize LM[k] = ju at hel hfo hsn
    have hme := sc_rr_method (hel.ro (dT.1.ro.app [.cells (tv u) 25 true])) hfit (dT.app _).2.2.2.1
    unfold tv mc at hme
    have g3 := dT.2.2.2.2
    simp only [lawG,↓Xn,↓Xo,↓Xg,↓Xd,↓Xe,↓Xf,Tryz.VΓ,Tryz.Γs,Xp,Xi,Nat.reduceAdd,Nat.reduceSub,Nat.reduceLT,Nat.reduceLeDiff,reduceIte,reduceCtorEq,Nat.reduceEqDiff,implies_true,forall_const,lawV,lawA,beq_self_eq_true,bne_self_eq_false,Int.reduceBEq,Int.reduceBNe,Int.reduceLT,Int.reduceLE,l1,l2,l4,l7,l44,l45,l46,hlt2,hbi,hu,huo,at_old g3]
    (repeat (refine ⟨by first | omega | (unfold maxLen; omega),?_⟩))
    refine callD_scw [(bs.length + 2,0,0)] hme (outs_set _ _ _) ?_
    rw [app_setL (by have := dT.lt; omega)]
    have d1 := dT.setE (methE d (foldE (methE d) E1 (LM.take k)) ju)
    have ro1 := dT.roE (.cells (dec d (methE d (foldE (methE d) E1 (LM.take k)) ju)) 74 true)
    have hl1 : (b.set (bs.length + 2) (.cells (dec d (methE d (foldE (methE d) E1 (LM.take k)) ju)) 74 true)).length = b.length := List.length_set
    have hxm1 : (xm = .nils ∧ k = 0) ∨ ∃ q,0 < k ∧ xm = .o q k ∧ bs.length + 5 < q ∧ (b.set (bs.length + 2) (.cells (dec d (methE d (foldE (methE d) E1 (LM.take k)) ju)) 74 true))[q]? = some (.own (((LM.take k).map (methR d)).flatMap mc) 48 3 k true) := by
      rcases hxm with h | ⟨q,h0,h1,h2,h3⟩
      · exact .inl h
      · exact .inr ⟨q,h0,h1,h2,get_setN h3 (by omega) _⟩
    generalize b.set (bs.length + 2) (.cells (dec d (methE d (foldE (methE d) E1 (LM.take k)) ju)) 74 true) = b1 at d1 ro1 hl1 hxm1
    have g3 := d1.2.2.2.2
    have g3l := (List.getElem?_eq_some_iff.1 g3).1
    have hs3 : ∀ (l : List Res) X,(b1 ++ l).set (bs.length + 5) X = b1.set (bs.length + 5) X ++ l := fun l X => app_setL g3l l X
    rw [← hl1]
    have hdl := d1.lt
    have z0 : (bs.length + 5 = bs.length + 2) = False := eq_false (by omega)
    have z1 : ∀ i,(b1.length + i = bs.length + 2) = False := fun i => eq_false (by omega)
    have z2 : ∀ i,(b1.length + i = bs.length + 5) = False := fun i => eq_false (by omega)
    have z3 : (b1.length = bs.length + 2) = False := z1 0
    have z4 : (b1.length = bs.length + 5) = False := z2 0
    rcases hxm1 with ⟨rfl,rfl⟩ | ⟨q,hk0,rfl,hq,hbq⟩
    · simp only [lawG,↓Xn,↓Xo,↓Xg,↓Xd,↓Xe,↓Xf,Tryz.VΓ,Tryz.Γs,Xp,Xi,Nat.reduceAdd,Nat.reduceSub,Nat.reduceLT,Nat.reduceLeDiff,reduceIte,reduceCtorEq,Nat.reduceEqDiff,implies_true,forall_const,lawV,lawA,beq_self_eq_true,bne_self_eq_false,Int.reduceBEq,Int.reduceBNe,Int.reduceLT,Int.reduceLE,l1,l2,l4,l7,l44,l45,l46,at_old g3,hxaO,hxcO,hs3]
      (repeat (refine ⟨by first | omega | (unfold maxLen; omega),?_⟩))
      refine ⟨?_,?_⟩
      · refine OkD_ren (fun x => if x = bs.length + 2 then 0 else if x = bs.length + 5 then 1 else x - b1.length + 3) ?_
        simp only [List.map_cons,List.map_nil,renRk,renT,Nat.add_sub_cancel_left,Nat.sub_self,z0,z1,z2,z3,z4,if_true,if_false]
        exact OkD_fast (by kernel_rfl)
      (repeat (refine ⟨by first | omega | (unfold maxLen; omega),?_⟩))
      have hrr := ro1.trans ((d1.roD (.cells [.str (didText d),xa,xc,.o (b1.length + 2) 1,.nils] 34 true)).app [.cells [.int .i64 u.k,.str u.t,u.xk,u.xi] 25 true,.own [.str (methR d ju).id,.str (methR d ju).type,.str (methR d ju).ctrl] 48 3 1 true,.own [.str (methR d ju).id,.str (methR d ju).type,.str (methR d ju).ctrl] 48 3 1 true])
      refine ⟨⟨1,_,by omega,rfl,by rw [hfo]; exact (d1.setD _).app _,hxaT.ro hrr,hxcT.ro hrr,.inr ⟨_,by omega,rfl,by omega,?_⟩⟩,?_⟩
      · rw [app_atL (by simp),hsn]; rfl
      · rw [lkI_eq (show lk 46 _ = some (.int .i64 ((1 : Nat) : Int)) from rfl)]; omega
    · have hql := (List.getElem?_eq_some_iff.1 hbq).1
      have hsq : ∀ (l : List Res) X,(b1 ++ l).set q X = b1.set q X ++ l := fun l X => app_setL hql l X
      have hs4 : ∀ (l : List Res) Y X,(b1.set q Y ++ l).set (bs.length + 5) X = (b1.set q Y).set (bs.length + 5) X ++ l := fun l Y X => app_setL (by simpa using g3l) l X
      have g4 := fun Y => at_old (get_setN g3 (show q ≠ bs.length + 5 by omega) Y)
      simp only [lawG,↓Xn,↓Xo,↓Xg,↓Xd,↓Xe,↓Xf,Tryz.VΓ,Tryz.Γs,Xp,Xi,Nat.reduceAdd,Nat.reduceSub,Nat.reduceLT,Nat.reduceLeDiff,reduceIte,reduceCtorEq,Nat.reduceEqDiff,implies_true,forall_const,lawV,lawA,beq_self_eq_true,bne_self_eq_false,Int.reduceBEq,Int.reduceBNe,Int.reduceLT,Int.reduceLE,l1,l2,l4,l7,l44,l45,l46,at_old g3,at_old hbq,g4,hsq,hxaO,hxcO,hs3,hs4]
      (repeat (refine ⟨by first | omega | (unfold maxLen; omega),?_⟩))
      have z5 : ∀ i,(b1.length + i = q) = False := fun i => eq_false (by omega)
      have z6 : (b1.length = q) = False := z5 0
      have z7 : (q = bs.length + 2) = False := eq_false (by omega)
      have z8 : (q = bs.length + 5) = False := eq_false (by omega)
      have z9 : (bs.length + 5 = q) = False := eq_false (by omega)
      refine ⟨?_,?_⟩
      · refine OkD_ren (fun x => if x = bs.length + 2 then 0 else if x = bs.length + 5 then 1 else if x = q then 2 else x - b1.length + 3) ?_
        simp only [List.map_cons,List.map_nil,renRk,renT,Nat.add_sub_cancel_left,Nat.sub_self,z0,z1,z2,z3,z4,z5,z6,z7,z8,z9,if_true,if_false]
        exact OkD_fast (by kernel_rfl)
      (repeat (refine ⟨by first | omega | (unfold maxLen; omega),?_⟩))
      have d4 := d1.setQ hq .gone
      have hrr := ro1.trans ((((Ro.refl b1).setT hbq .gone).trans (d4.roD (.cells [.str (didText d),xa,xc,.o (b1.length + 2) (k + 1),.nils] 34 true))).app [.cells [.int .i64 u.k,.str u.t,u.xk,u.xi] 25 true,.own [.str (methR d ju).id,.str (methR d ju).type,.str (methR d ju).ctrl] 48 3 1 true,.own ((((LM.take k).map (methR d)).flatMap mc) ++ [.str (methR d ju).id,.str (methR d ju).type,.str (methR d ju).ctrl]) 48 3 (k + 1) true])
      refine ⟨⟨k + 1,_,by omega,rfl,by rw [hfo]; exact (d4.setD _).app _,hxaT.ro hrr,hxcT.ro hrr,.inr ⟨_,by omega,rfl,by omega,?_⟩⟩,?_⟩
      · rw [app_atL (by simp),hsn]; rfl
      · rw [lkI_eq (show lk 46 _ = some (.int .i64 ((k + 1 : Nat) : Int)) from rfl)]; omega
  · have hlt2 : decide ((k : Int) < Lm.length) = false := decide_eq_false (by omega)
    have hkl : LM.take k = LM := List.take_of_length_le (by omega)
    rw [hkl] at dT hxm
    simp only [lawG,↓Xn,↓Xo,↓Xg,↓Xd,↓Xe,↓Xf,Tryz.VΓ,Tryz.Γs,Xp,Xi,Nat.reduceAdd,Nat.reduceSub,Nat.reduceLT,Nat.reduceLeDiff,reduceIte,reduceCtorEq,Nat.reduceEqDiff,implies_true,forall_const,lawV,lawA,beq_self_eq_true,bne_self_eq_false,Int.reduceBEq,Int.reduceBNe,Int.reduceLT,Int.reduceLE,l1,l2,l4,l7,l44,l45,l46,hlt2,dT.2.1,ho]
    refine callV_sc (hls _ (bs.length + 2) d _ dT.1.ro dT.2.2.2.1 (within_up dT.1.1 hys.within)) ?_
    rintro ys b1 ⟨rfl,rfl⟩
    obtain ⟨E2,hE2⟩ : ∃ E2,E2 = listE (foldE (methE d) E1 LM) j ([115,101,114,118,105,99,101] : List UInt8) := ⟨_,rfl⟩
    rw [← hE2]
    have dU := dT.setE E2
    have hxaU := hxaT.ro (dT.roE (.cells (dec d E2) 74 true))
    have hxcU := hxcT.ro (dT.roE (.cells (dec d E2) 74 true))
    have hlU : (b.set (bs.length + 2) (.cells (dec d E2) 74 true)).length = b.length := List.length_set
    have hxmU : (xm = .nils ∧ LM = []) ∨ ∃ q,0 < LM.length ∧ xm = .o q LM.length ∧ bs.length + 5 < q ∧ q < b.length ∧ (b.set (bs.length + 2) (.cells (dec d E2) 74 true))[q]? = some (.own ((LM.map (methR d)).flatMap mc) 48 3 LM.length true) := by
      rcases hxm with ⟨h1,h2⟩ | ⟨q,h0,h1,h2,h3⟩
      · exact .inl ⟨h1,List.length_eq_zero_iff.1 (by omega)⟩
      · obtain rfl : k = LM.length := by omega
        exact .inr ⟨q,h0,h1,h2,(List.getElem?_eq_some_iff.1 h3).1,get_setN h3 (by omega) _⟩
    generalize b.set (bs.length + 2) (.cells (dec d E2) 74 true) = U at dU hxaU hxcU hlU hxmU
    obtain ⟨N,hN⟩ : ∃ N,N = b.length := ⟨_,rfl⟩
    rw [← hN] at hxmU hlU
    obtain ⟨LS,hLS⟩ : ∃ LS,LS = listL j ([115,101,114,118,105,99,101] : List UInt8) := ⟨_,rfl⟩
    rw [← hLS] at hLv hLvl hv64
    clear dT hxaT hxcT hxm
    simp only [lawG,↓Xn,↓Xo,↓Xg,↓Xd,↓Xe,↓Xf,Tryz.VΓ,Tryz.Γs,Xp,Xi,Nat.reduceAdd,Nat.reduceSub,Nat.reduceLT,Nat.reduceLeDiff,reduceIte,reduceCtorEq,Nat.reduceEqDiff,implies_true,forall_const,lawV,lawA,beq_self_eq_true,bne_self_eq_false,Int.reduceBEq,Int.reduceBNe,Int.reduceLT,Int.reduceLE,l1,l2,l4,l7,hysl]
    refine loopV_mk (fun σ => ∃ (k : Nat) (xs : SV) (Q : List Sq),k ≤ Lv.length ∧ lk 1 σ.t = some (.p bs.length 0) ∧ lk 2 σ.t = some (.p (bs.length + 1) 0) ∧ lk 4 σ.t = some (.p (bs.length + 2) 0) ∧ lk 7 σ.t = some (.p (bs.length + 5) 0) ∧ lk 61 σ.t = some ys ∧ lk 62 σ.t = some (.int .i64 Lv.length) ∧ lk 63 σ.t = some (.int .i64 k) ∧
      DJ bs σ.b v d (foldE (servE d) E2 (LS.take k)) [.str (didText d),xa,xc,xm,xs] ∧ Rs σ.b xa (alsoL j) ∧ Rs σ.b xc (ctrlL j) ∧ N ≤ σ.b.length ∧
      ((xm = .nils ∧ LM = []) ∨ ∃ q,0 < LM.length ∧ xm = .o q LM.length ∧ bs.length + 5 < q ∧ q < N ∧ σ.b[q]? = some (.own ((LM.map (methR d)).flatMap mc) 48 3 LM.length true)) ∧
      Q.map Sq.m = (LS.take k).map (servR d) ∧ (∀ q ∈ Q,SqOk σ.b q) ∧
      ((xs = .nils ∧ k = 0) ∨ ∃ q,0 < k ∧ xs = .o q k ∧ N ≤ q ∧ σ.b[q]? = some (.own (Q.flatMap sqc) 46 3 k true))) (fun σ => Lv.length - lkI 63 σ)
      ⟨0,.nils,[],by omega,by assumption,by assumption,by assumption,by assumption,rfl,rfl,rfl,dU,hxaU,hxcU,Nat.le_of_eq hlU.symm,hxmU,rfl,by simp,.inl ⟨rfl,rfl⟩⟩ ?_
    have hNn : bs.length + 5 < N := by have := dU.lt; omega
    clear dU hxaU hxcU hlU hxmU l1 l2 l4 l7 l44 l45 l46 hN
    clear U
    rintro ⟨t,b⟩ ⟨k,xs,Q,hk,l1,l2,l4,l7,l61,l62,l63,dT,hxaT,hxcT,hNb,hxm,hQm,hQ,hxs⟩
    simp only at l1 l2 l4 l7 l61 l62 l63 dT hxaT hxcT hNb hxm hQ hxs
    rw [lkI_eq l63]
    have hxaO := hxaT.one
    have hxcO := hxcT.one
    have hxmO : one xm = true := by rcases hxm with ⟨rfl,-⟩ | ⟨q,-,rfl,-⟩ <;> rfl
    have hxsO : one xs = true := by rcases hxs with ⟨rfl,-⟩ | ⟨q,-,rfl,-⟩ <;> rfl
    by_cases hlt : k < Lv.length
    · have hlt2 : decide ((k : Int) < Lv.length) = true := decide_eq_true (by omega)
      have hltL : k < LS.length := by omega
      rcases hys with ⟨-,hx0⟩ | ⟨i,rfl,hi⟩
      · rw [hx0] at hlt; exact absurd hlt (by simp)
      have hbi := dT.1.at hi
      have hu : List.take 4 (List.drop (k * 4) (Lv.flatMap tv)) = [.int .i64 Lv[k].k,.str Lv[k].t,Lv[k].xk,Lv[k].xi] := tv_at Lv k hlt
      have hul := tv_len Lv
      have hel := hLv.at k hltL hlt
      obtain ⟨u1,u2,u3,u4⟩ := hel.tin
      have hfo : foldE (servE d) E2 (LS.take (k + 1)) = servE d (foldE (servE d) E2 (LS.take k)) LS[k] := by
        unfold foldE; rw [List.take_succ_eq_append_getElem hltL,List.foldl_append]; rfl
      have hsn : (LS.take (k + 1)).map (servR d) = (LS.take k).map (servR d) ++ [servR d LS[k]] := by
        rw [List.take_succ_eq_append_getElem hltL,List.map_append]; rfl
      have huo : (one Lv[k].xk && one Lv[k].xi) = true := by rw [u3,u4]; rfl
      generalize Lv[k] = u at hu hel huo
      generalize LS[k] = ju at hel hfo hsn
      have hsv := sc_rr_service (hel.ro (dT.1.ro.app [.cells (tv u) 25 true])) hfit (dT.app _).2.2.2.1
      unfold tv at hsv
      have g3 := dT.2.2.2.2
      simp only [lawG,↓Xn,↓Xo,↓Xg,↓Xd,↓Xe,↓Xf,Tryz.VΓ,Tryz.Γs,Xp,Xi,Nat.reduceAdd,Nat.reduceSub,Nat.reduceLT,Nat.reduceLeDiff,reduceIte,reduceCtorEq,Nat.reduceEqDiff,implies_true,forall_const,lawV,lawA,beq_self_eq_true,bne_self_eq_false,Int.reduceBEq,Int.reduceBNe,Int.reduceLT,Int.reduceLE,l1,l2,l4,l7,l61,l62,l63,hlt2,hbi,hu,huo,at_old g3]
      (repeat (refine ⟨by first | omega | (unfold maxLen; omega),?_⟩))
      refine callD_scw [(bs.length + 2,0,0),(b.length + 1,0,0),(b.length + 2,0,0)] hsv (outs_set2 (by simp) (by simp) _ _ _) ?_
      rw [app_setL (by have := dT.lt; omega),List.append_assoc]
      have d1 := dT.setE (servE d (foldE (servE d) E2 (LS.take k)) ju)
      have ro1 := dT.roE (.cells (dec d (servE d (foldE (servE d) E2 (LS.take k)) ju)) 74 true)
      have hl1 : (b.set (bs.length + 2) (.cells (dec d (servE d (foldE (servE d) E2 (LS.take k)) ju)) 74 true)).length = b.length := List.length_set
      have hxs1 : (xs = .nils ∧ k = 0) ∨ ∃ q,0 < k ∧ xs = .o q k ∧ N ≤ q ∧ (b.set (bs.length + 2) (.cells (dec d (servE d (foldE (servE d) E2 (LS.take k)) ju)) 74 true))[q]? = some (.own (Q.flatMap sqc) 46 3 k true) := by
        rcases hxs with h | ⟨q,h0,h1,h2,h3⟩
        · exact .inl h
        · exact .inr ⟨q,h0,h1,h2,get_setN h3 (by omega) _⟩
      have hxm1 : (xm = .nils ∧ LM = []) ∨ ∃ q,0 < LM.length ∧ xm = .o q LM.length ∧ bs.length + 5 < q ∧ q < N ∧ (b.set (bs.length + 2) (.cells (dec d (servE d (foldE (servE d) E2 (LS.take k)) ju)) 74 true))[q]? = some (.own ((LM.map (methR d)).flatMap mc) 48 3 LM.length true) := by
        rcases hxm with h | ⟨q,h0,h1,h2,h3,h4⟩
        · exact .inl h
        · exact .inr ⟨q,h0,h1,h2,h3,get_setN h4 (by omega) _⟩
      generalize b.set (bs.length + 2) (.cells (dec d (servE d (foldE (servE d) E2 (LS.take k)) ju)) 74 true) = b1 at d1 ro1 hl1 hxs1 hxm1
      have g3 := d1.2.2.2.2
      have g3l := (List.getElem?_eq_some_iff.1 g3).1
      have hs3 : ∀ (l : List Res) X,(b1 ++ l).set (bs.length + 5) X = b1.set (bs.length + 5) X ++ l := fun l X => app_setL g3l l X
      have c1 := canS_one (b.length + 1) (servR d ju).types
      have c2 := canS_one (b.length + 2) (servR d ju).ends
      simp only [List.length_append,List.length_cons,List.length_nil,Nat.add_assoc]
      rw [← hl1] at c1 c2 ⊢
      have hdl := d1.lt
      have z0 : (bs.length + 5 = bs.length + 2) = False := eq_false (by omega)
      have z1 : ∀ i,(b1.length + i = bs.length + 2) = False := fun i => eq_false (by omega)
      have z2 : ∀ i,(b1.length + i = bs.length + 5) = False := fun i => eq_false (by omega)
      have z3 : (b1.length = bs.length + 2) = False := z1 0
      have z4 : (b1.length = bs.length + 5) = False := z2 0
      rcases hxs1 with ⟨rfl,rfl⟩ | ⟨q,hk0,rfl,hq,hbq⟩
      · obtain rfl : Q = [] := List.map_eq_nil_iff.1 (by rw [hQm]; simp)
        simp only [lawG,↓Xn,↓Xo,↓Xg,↓Xd,↓Xe,↓Xf,Tryz.VΓ,Tryz.Γs,Xp,Xi,Nat.reduceAdd,Nat.reduceSub,Nat.reduceLT,Nat.reduceLeDiff,reduceIte,reduceCtorEq,Nat.reduceEqDiff,implies_true,forall_const,lawV,lawA,beq_self_eq_true,bne_self_eq_false,Int.reduceBEq,Int.reduceBNe,Int.reduceLT,Int.reduceLE,l1,l2,l4,l7,l61,l62,l63,at_old g3,hxaO,hxcO,hxmO,hs3,c1,c2]
        (repeat (refine ⟨by first | omega | (unfold maxLen; omega),?_⟩))
        refine ⟨?_,?_⟩
        · refine OkD_ren (fun x => if x = bs.length + 2 then 0 else if x = bs.length + 5 then 1 else x - b1.length + 3) ?_
          simp only [List.map_cons,List.map_nil,renRk,renT,Nat.add_sub_cancel_left,Nat.sub_self,z0,z1,z2,z3,z4,if_true,if_false]
          exact OkD_fast (by kernel_rfl)
        (repeat (refine ⟨by first | omega | (unfold maxLen; omega),?_⟩))
        have hrr := ro1.trans ((d1.roD (.cells [.str (didText d),xa,xc,xm,.o (b1.length + 4) 1] 34 true)).app [.cells [.int .i64 u.k,.str u.t,u.xk,u.xi] 25 true,canR (servR d ju).types,canR (servR d ju).ends,.own [.str (servR d ju).id,canS (b1.length + 1) (servR d ju).types,canS (b1.length + 2) (servR d ju).ends] 46 3 1 true,.own [.str (servR d ju).id,canS (b1.length + 1) (servR d ju).types,canS (b1.length + 2) (servR d ju).ends] 46 3 1 true])
        refine ⟨⟨1,_,[⟨servR d ju,canS (b1.length + 1) (servR d ju).types,canS (b1.length + 2) (servR d ju).ends⟩],by omega,rfl,by rw [hfo]; exact (d1.setD _).app _,hxaT.ro hrr,hxcT.ro hrr,by simp; omega,?_,by rw [hsn]; simp,?_,.inr ⟨_,by omega,rfl,by omega,?_⟩⟩,?_⟩
        · rcases hxm1 with h | ⟨q,h0,h1,h2,h3,h4⟩
          · exact .inl h
          · exact .inr ⟨q,h0,h1,h2,h3,at_old (get_setN h4 (by omega) _) _⟩
        · intro x hx
          rw [List.mem_singleton.1 hx]
          exact ⟨canS_rs (by rw [app_atL (by simp)]; rfl),canS_rs (by rw [app_atL (by simp)]; rfl)⟩
        · rw [app_atL (by simp)]; rfl
        · rw [lkI_eq (show lk 63 _ = some (.int .i64 ((1 : Nat) : Int)) from rfl)]; omega
      · have hql := (List.getElem?_eq_some_iff.1 hbq).1
        have hsq : ∀ (l : List Res) X,(b1 ++ l).set q X = b1.set q X ++ l := fun l X => app_setL hql l X
        have hs4 : ∀ (l : List Res) Y X,(b1.set q Y ++ l).set (bs.length + 5) X = (b1.set q Y).set (bs.length + 5) X ++ l := fun l Y X => app_setL (by simpa using g3l) l X
        have g4 := fun Y => at_old (get_setN g3 (show q ≠ bs.length + 5 by omega) Y)
        simp only [lawG,↓Xn,↓Xo,↓Xg,↓Xd,↓Xe,↓Xf,Tryz.VΓ,Tryz.Γs,Xp,Xi,Nat.reduceAdd,Nat.reduceSub,Nat.reduceLT,Nat.reduceLeDiff,reduceIte,reduceCtorEq,Nat.reduceEqDiff,implies_true,forall_const,lawV,lawA,beq_self_eq_true,bne_self_eq_false,Int.reduceBEq,Int.reduceBNe,Int.reduceLT,Int.reduceLE,l1,l2,l4,l7,l61,l62,l63,at_old g3,at_old hbq,g4,hsq,hxaO,hxcO,hxmO,hs3,hs4,c1,c2]
        (repeat (refine ⟨by first | omega | (unfold maxLen; omega),?_⟩))
        have z5 : ∀ i,(b1.length + i = q) = False := fun i => eq_false (by omega)
        have z6 : (b1.length = q) = False := z5 0
        have z7 : (q = bs.length + 2) = False := eq_false (by omega)
        have z8 : (q = bs.length + 5) = False := eq_false (by omega)
        have z9 : (bs.length + 5 = q) = False := eq_false (by omega)
        refine ⟨?_,?_⟩
        · refine OkD_ren (fun x => if x = bs.length + 2 then 0 else if x = bs.length + 5 then 1 else if x = q then 2 else x - b1.length + 3) ?_
          simp only [List.map_cons,List.map_nil,renRk,renT,Nat.add_sub_cancel_left,Nat.sub_self,z0,z1,z2,z3,z4,z5,z6,z7,z8,z9,if_true,if_false]
          exact OkD_fast (by kernel_rfl)
        (repeat (refine ⟨by first | omega | (unfold maxLen; omega),?_⟩))
        have d4 := d1.setQ (show bs.length + 5 < q by omega) .gone
        have hrr := ro1.trans ((((Ro.refl b1).setT hbq .gone).trans (d4.roD (.cells [.str (didText d),xa,xc,xm,.o (b1.length + 4) (k + 1)] 34 true))).app [.cells [.int .i64 u.k,.str u.t,u.xk,u.xi] 25 true,canR (servR d ju).types,canR (servR d ju).ends,.own [.str (servR d ju).id,canS (b1.length + 1) (servR d ju).types,canS (b1.length + 2) (servR d ju).ends] 46 3 1 true,.own (Q.flatMap sqc ++ [.str (servR d ju).id,canS (b1.length + 1) (servR d ju).types,canS (b1.length + 2) (servR d ju).ends]) 46 3 (k + 1) true])
        refine ⟨⟨k + 1,_,Q ++ [⟨servR d ju,canS (b1.length + 1) (servR d ju).types,canS (b1.length + 2) (servR d ju).ends⟩],by omega,rfl,by rw [hfo]; exact (d4.setD _).app _,hxaT.ro hrr,hxcT.ro hrr,by simp; omega,?_,by rw [hsn,List.map_append,hQm]; rfl,?_,.inr ⟨_,by omega,rfl,by omega,?_⟩⟩,?_⟩
        · rcases hxm1 with h | ⟨q',h0,h1,h2,h3,h4⟩
          · exact .inl h
          · exact .inr ⟨q',h0,h1,h2,h3,at_old (get_setN (get_setN h4 (by omega) _) (by omega) _) _⟩
        · intro x hx
          rcases List.mem_append.1 hx with hx | hx
          · exact (hQ x hx).ro hrr
          · rw [List.mem_singleton.1 hx]
            exact ⟨canS_rs (by rw [app_atL (by simp)]; rfl),canS_rs (by rw [app_atL (by simp)]; rfl)⟩
        · rw [app_atL (by simp),rows_snoc]; rfl
        · rw [lkI_eq (show lk 63 _ = some (.int .i64 ((k + 1 : Nat) : Int)) from rfl)]; omega
    · have hlt2 : decide ((k : Int) < Lv.length) = false := decide_eq_false (by omega)
      have hkl : LS.take k = LS := List.take_of_length_le (by omega)
      rw [hkl] at dT hQm
      have g2 := dT.2.2.2.1
      unfold dec at g2
      have hEE : foldE (servE d) E2 LS = docEx d E0 j := by rw [hLS,hE2,hLM,hE1]; rfl
      rw [hEE] at g2 dT
      have g1l := (List.getElem?_eq_some_iff.1 dT.2.2.1).1
      have hs1 : ∀ X,(b.set (bs.length + 1) X)[bs.length + 1]? = some X := fun X => List.getElem?_set_self g1l
      have hs2 := fun X => get_setN g2 (show bs.length + 1 ≠ bs.length + 2 by omega) X
      by_cases hz : docEx d E0 j = 0
      · have hb : (docEx d E0 j != 0) = false := by rw [hz]; rfl
        simp only [lawG,↓Xn,↓Xo,↓Xg,↓Xd,↓Xe,↓Xf,Tryz.VΓ,Tryz.Γs,Xp,Xi,Nat.reduceAdd,Nat.reduceSub,Nat.reduceLT,Nat.reduceLeDiff,reduceIte,reduceCtorEq,Nat.reduceEqDiff,implies_true,forall_const,lawV,lawA,beq_self_eq_true,bne_self_eq_false,Int.reduceBEq,Int.reduceBNe,Int.reduceLT,Int.reduceLE,l1,l2,l4,l7,l61,l62,l63,hlt2,g2,dT.2.2.1,dT.2.2.2.2,hb,hxaO,hxcO,hxmO,hxsO,hs1]
        rw [hdoc,if_pos hz]
        obtain ⟨hRm,hRs⟩ := docEx_z hz
        rw [← hLM] at hRm
        rw [← hLS] at hRs
        have hle : bs.length ≤ (b.set (bs.length + 1) (.cells [.str (didText d),xa,xc,xm,xs] 34 true)).length := by rw [List.length_set]; exact dT.1.1
        have hrr := (ro_box dT.2.2.1 (.cells [.str (didText d),xa,xc,xm,xs] 34 true)).trans (dimB_dim hle).ro
        refine ⟨hle,_,rfl,(dT.1.set (by omega) _).dimB,xa,xc,xm,xs,Q,rfl,hxaT.ro hrr,hxcT.ro hrr,?_,?_,fun q hq => (hQ q hq).ro hrr,by rw [hQm,hRs,hLS]; rfl⟩
        · rcases hxm with ⟨rfl,h2⟩ | ⟨q,h0,rfl,h2,h3,h4⟩
          · exact .inl ⟨rfl,by show (listL j ([118,101,114,105,102,105,99,97,116,105,111,110,77,101,116,104,111,100] : List UInt8)).map (methM d) = []; rw [← hLM,h2]; rfl⟩
          · refine .inr ⟨q,by show _ = SV.o q ((listL j ([118,101,114,105,102,105,99,97,116,105,111,110,77,101,116,104,111,100] : List UInt8)).map (methM d)).length; rw [← hLM,List.length_map],?_⟩
            rw [dimB_at (by omega) (get_setN h4 (show bs.length + 1 ≠ q by omega) _)]
            have hml : (docM d j,(0 : Int)).1.methods.length = LM.length := by show ((listL j ([118,101,114,105,102,105,99,97,116,105,111,110,77,101,116,104,111,100] : List UInt8)).map (methM d)).length = _; rw [← hLM,List.length_map]
            show _ = some (Res.own (((listL j ([118,101,114,105,102,105,99,97,116,105,111,110,77,101,116,104,111,100] : List UInt8)).map (methM d)).flatMap mc) _ _ _ _)
            rw [← hLM,hml,hRm]; rfl
        · have hQl : Q.length = LS.length := by have := congrArg List.length hQm; simpa using this
          rcases hxs with ⟨rfl,h2⟩ | ⟨q,h0,rfl,h2,h3⟩
          · exact .inl ⟨rfl,List.length_eq_zero_iff.1 (by omega)⟩
          · obtain rfl : k = Q.length := by omega
            refine .inr ⟨q,rfl,?_⟩
            rw [dimB_at (by omega) (get_setN h3 (show bs.length + 1 ≠ q by omega) _)]
            rfl
      · have hb : (docEx d E0 j != 0) = true := bne_iff_ne.2 hz
        simp only [lawG,↓Xn,↓Xo,↓Xg,↓Xd,↓Xe,↓Xf,Tryz.VΓ,Tryz.Γs,Xp,Xi,Nat.reduceAdd,Nat.reduceSub,Nat.reduceLT,Nat.reduceLeDiff,reduceIte,reduceCtorEq,Nat.reduceEqDiff,implies_true,forall_const,lawV,lawA,beq_self_eq_true,bne_self_eq_false,Int.reduceBEq,Int.reduceBNe,Int.reduceLT,Int.reduceLE,l1,l2,l4,l7,l61,l62,l63,hlt2,g2,dT.2.2.1,dT.2.2.2.2,hb,hs1,hs2]
        rw [hdoc,if_neg hz]
        exact ⟨by (refine OkD_ren (fun n => n - bs.length) ?_; simp only [List.map_cons,List.map_nil,renRk,renT,Nat.add_sub_cancel_left,Nat.sub_self,if_true]; exact OkD_fast (by kernel_rfl)),by rw [List.length_set]; exact dT.1.1,_,rfl,(dT.1.set (by omega) _).dimB,DocR.none _⟩
end Go.Proofs.YtejfjmcjicpodaaGreatDoor
/- diddoc.Select: its plain law,and the walk of its closure. -/
set_option linter.all false
set_option maxRecDepth 20000
namespace Go.Proofs.YtejfjmcjicpodaaGreatDoor
open Go Vc Go.RowKit Wf
set_option linter.unusedSimpArgs false
theorem fold_z {g : Int → Jv → Int} (hg : ∀ e v,e ≠ 0 → g e v = e) : ∀ (L : List Jv) {e : Int},foldE g e L = 0 → e = 0 ∧ ∀ x ∈ L,g 0 x = 0
  | [],e,h => ⟨h,by simp⟩
  | x :: L,e,h => by
    have h2 := fold_z hg L (e := g e x) h
    have he : e = 0 := by
      by_cases he : e = 0
      · exact he
      · rw [hg e x he] at h2; exact absurd h2.1 he
    subst he
    refine ⟨rfl,fun y hy => ?_⟩
    rcases List.mem_cons.1 hy with rfl | hy
    · exact h2.1
    · exact h2.2 y hy
theorem listE_z {j : Jv} {key : Bytes} {e : Int} (h : listE e j key = 0) : e = 0 ∧ listL j key = (j.at key).L := by
  have he : e = 0 := by
    by_cases he : e = 0
    · exact he
    · rw [listE_ne he] at h; exact absurd h he
  subst he
  refine ⟨rfl,?_⟩
  unfold listE at h
  unfold listL Jv.at
  cases hg : j.get key with
  | none => rfl
  | some m =>
    rw [hg] at h
    simp only at h ⊢
    unfold arrE at h
    unfold arrL
    split at h
    · split at h
      · simp [failE] at h
      · rename_i h6 h64
        rw [if_pos h6,if_neg h64]; rfl
    · simp [failE] at h
theorem idE_z {d : Did} {x : Jv} {e : Int} (h : idE d e x = 0) : e = 0 ∧ (x.at ([105,100] : List UInt8)).k = 5 ∧ (didResolve d (x.at ([105,100] : List UInt8)).t).2 = 0 := by
  unfold idE at h
  split at h
  · rename_i hr
    obtain ⟨h1,h2⟩ := textsE_z.1 h
    exact ⟨h1,h2 _ (by simp),hr⟩
  · rw [failE_z (by decide)] at h; exact h.elim
theorem methE_z {d : Did} {x : Jv} {e : Int} (h : methE d e x = 0) : (x.at ([105,100] : List UInt8)).k = 5 ∧ (didResolve d (x.at ([105,100] : List UInt8)).t).2 = 0 := by
  unfold methE at h
  exact (idE_z (textsE_z.1 (textsE_z.1 h).1).1).2
theorem servE_z {d : Did} {x : Jv} {e : Int} (h : servE d e x = 0) : (x.at ([105,100] : List UInt8)).k = 5 ∧ (didResolve d (x.at ([105,100] : List UInt8)).t).2 = 0 := by
  have key : idE d e x = 0 := by
    by_cases hz : idE d e x = 0
    · exact hz
    · unfold servE at h
      split at h
      · rw [moreE_ne hz] at h; exact absurd h hz
      · rw [moreE_ne (by rw [moreE_ne hz]; exact hz),moreE_ne hz] at h; exact absurd h hz
  exact (idE_z key).2
theorem doc_ok {j : Jv} (h : (docOf j).2 = 0) : (didParse (j.at ([105,100] : List UInt8)).t).2 = 0 ∧ (docOf j).1 = docM (didParse (j.at ([105,100] : List UInt8)).t).1 j ∧
    listL j ([118,101,114,105,102,105,99,97,116,105,111,110,77,101,116,104,111,100] : List UInt8) = (j.at ([118,101,114,105,102,105,99,97,116,105,111,110,77,101,116,104,111,100] : List UInt8)).L ∧ listL j ([115,101,114,118,105,99,101] : List UInt8) = (j.at ([115,101,114,118,105,99,101] : List UInt8)).L ∧
    (∀ x ∈ (j.at ([118,101,114,105,102,105,99,97,116,105,111,110,77,101,116,104,111,100] : List UInt8)).L,(x.at ([105,100] : List UInt8)).k = 5 ∧ (didResolve (didParse (j.at ([105,100] : List UInt8)).t).1 (x.at ([105,100] : List UInt8)).t).2 = 0) ∧
    (∀ x ∈ (j.at ([115,101,114,118,105,99,101] : List UInt8)).L,(x.at ([105,100] : List UInt8)).k = 5 ∧ (didResolve (didParse (j.at ([105,100] : List UInt8)).t).1 (x.at ([105,100] : List UInt8)).t).2 = 0) := by
  unfold docOf at h ⊢
  split at h
  · rename_i h7
    rw [if_pos h7]
    split at h
    · rename_i hid
      rw [if_pos hid]
      split at h
      · rename_i hE
        rw [if_pos hE]
        unfold docE servsE at hE
        obtain ⟨s1,s2⟩ := fold_z (fun e v he => servE_ne he) _ hE
        obtain ⟨m0,l2⟩ := listE_z s1
        unfold methsE at m0
        obtain ⟨m1,m2⟩ := fold_z (fun e v he => methE_ne he) _ m0
        obtain ⟨-,l1⟩ := listE_z m1
        rw [l1] at m2
        rw [l2] at s2
        exact ⟨hid.2,rfl,l1,l2,fun x hx => methE_z (m2 x hx),fun x hx => servE_z (s2 x hx)⟩
      · exact absurd h (by assumption)
    · simp at h
  · simp at h
end Go.Proofs.YtejfjmcjicpodaaGreatDoor
/- What the encoding of a document is; it comes back. -/
set_option linter.all false
set_option maxRecDepth 20000
namespace Go.Proofs.YtejfjmcjicpodaaGreatDoor
open Go Vc Go.RowKit Wf
set_option linter.unusedSimpArgs false
def IdOk (d : Did) (t : Bytes) : Prop := (didResolve d t).2 = 0 ∧ didUrlText (didResolve d t).1 = t
structure DocFine (D : Docm) (d : Did) : Prop where
  id : didParse D.id = (d,0)
  idt : didText d = D.id
  also : D.also.length ≤ 64
  ctrl : D.ctrl.length ≤ 64
  ml : D.methods.length ≤ 64
  sl : D.services.length ≤ 64
  m : ∀ x ∈ D.methods,IdOk d x.id
  s : ∀ x ∈ D.services,IdOk d x.id ∧ x.types.length ≤ 64 ∧ x.ends.length ≤ 64
theorem resolve_back {d : Did} {r : Bytes} (h : (didResolve d r).2 = 0) : IdOk d (didUrlText (didResolve d r).1) := by
  obtain ⟨s,hs⟩ := resolve_can h
  obtain ⟨b1,-⟩ := didUrl_back hs
  generalize (didResolve d r).1 = u at *
  have hp : didS.isPrefixOf (didUrlText u) = true := rfl
  have e : didResolve d (didUrlText u) = (u,0) := by
    unfold didResolve
    rw [if_pos hp,b1]
  unfold IdOk
  rw [e]
  exact ⟨rfl,rfl⟩
theorem arr64 {e : Int} {m : Jv} (h : arrE e m = 0) : e = 0 ∧ (arrL m).length ≤ 64 := by
  have he : e = 0 := by
    by_cases he : e = 0
    · exact he
    · rw [arrE_ne he] at h; exact h
  subst he
  refine ⟨rfl,?_⟩
  unfold arrL
  split
  · split
    · simp
    · omega
  · simp
theorem more64 {e : Int} {m : Jv} (h : moreE e m = 0) : e = 0 ∧ (moreL m).length ≤ 64 := by
  have he : e = 0 := by
    by_cases he : e = 0
    · exact he
    · rw [moreE_ne he] at h; exact h
  subst he
  refine ⟨rfl,?_⟩
  unfold moreE at h
  unfold moreL
  split
  · simp
  · rename_i h5
    rw [if_neg h5] at h
    rw [List.length_map]
    exact (arr64 (textsE_z.1 h).1).2
theorem list64 {e : Int} {v : Jv} {key : Bytes} (h : listE e v key = 0) : e = 0 ∧ (listL v key).length ≤ 64 := by
  unfold listE at h
  unfold listL
  cases hg : v.get key with
  | none => rw [hg] at h; exact ⟨h,by simp⟩
  | some m => rw [hg] at h; exact arr64 h
theorem idT_ok {d : Did} {x : Jv} (h : (didResolve d (x.at ([105,100] : List UInt8)).t).2 = 0) : IdOk d (idT d x) := by
  unfold idT
  rw [if_pos h]
  exact resolve_back h
theorem doc_fine {j : Jv} (h : (docOf j).2 = 0) : DocFine (docOf j).1 (didParse (j.at ([105,100] : List UInt8)).t).1 := by
  obtain ⟨o1,o2,o3,o4,o5,o6⟩ := doc_ok h
  obtain ⟨hcan,hcl,hc4,-⟩ := did_can (s := (j.at ([105,100] : List UInt8)).t) (d := (didParse (j.at ([105,100] : List UInt8)).t).1) (by rw [← o1])
  have hE : docE (didParse (j.at ([105,100] : List UInt8)).t).1 j = 0 := by
    unfold docOf at h
    split at h
    · split at h
      · split at h
        · assumption
        · exact absurd h (by assumption)
      · simp at h
    · simp at h
  rw [o2]
  generalize (didParse (j.at ([105,100] : List UInt8)).t).1 = d at *
  unfold docE servsE at hE
  obtain ⟨s1,s2⟩ := fold_z (fun e v he => servE_ne he) _ hE
  obtain ⟨m0,sl⟩ := list64 s1
  unfold methsE at m0
  obtain ⟨m1,m2⟩ := fold_z (fun e v he => methE_ne he) _ m0
  obtain ⟨c0,ml⟩ := list64 m1
  have hcc : alsoE 0 j = 0 ∧ (ctrlL j).length ≤ 64 := by
    unfold ctrlE at c0
    unfold ctrlL
    cases hg : j.get ([99,111,110,116,114,111,108,108,101,114] : List UInt8) with
    | none => rw [hg] at c0; exact ⟨c0,by simp⟩
    | some m => rw [hg] at c0; exact more64 c0
  have hal : (alsoL j).length ≤ 64 := by
    have := hcc.1
    unfold alsoE at this
    unfold alsoL
    rw [List.length_map]
    exact (list64 (textsE_z.1 this).1).2
  refine ⟨did_read hcan (by omega),rfl,hal,hcc.2,by simpa [docM] using ml,by simpa [docM] using sl,?_,?_⟩
  · intro x hx
    simp only [docM,List.mem_map] at hx
    obtain ⟨y,hy,rfl⟩ := hx
    rw [o3] at hy
    exact idT_ok (o5 y hy).2
  · intro x hx
    simp only [docM,List.mem_map] at hx
    obtain ⟨y,hy,rfl⟩ := hx
    have hz := s2 y hy
    rw [o4] at hy
    refine ⟨idT_ok (o6 y hy).2,?_,?_⟩
    · unfold servE at hz
      split at hz
      · exact (more64 hz).2
      · exact (more64 (more64 hz).1).2
    · unfold servE at hz
      simp only [servM]
      split at hz
      · rename_i h7; rw [if_pos h7]; simp
      · rename_i h7; rw [if_neg h7]; exact (more64 hz).2
end Go.Proofs.YtejfjmcjicpodaaGreatDoor
/- What decoding gives is short. -/
set_option linter.all false
namespace Go.Proofs.YtejfjmcjicpodaaGreatDoor
open Go Vc Go.RowKit Wf
set_option linter.unusedSimpArgs false
theorem docOf_none {j : Jv} (h : (docOf j).2 ≠ 0) : (docOf j).1 = Docm.none := by
  unfold docOf at h ⊢
  split
  · split
    · split
      · rename_i h1 h2 h3
        rw [if_pos h1,if_pos h2,if_pos h3] at h
        exact absurd rfl h
      · rfl
    · rfl
  · rfl
theorem fine_le {D : Docm} {d : Did} (h : DocFine D d) : DocLe D := ⟨by have := h.also; omega,by have := h.ctrl; omega,by have := h.ml; omega,by have := h.sl; omega,fun s hs => by have := (h.s s hs).2; omega⟩
theorem docOf_le (j : Jv) : DocLe (docOf j).1 := by
  by_cases h : (docOf j).2 = 0
  · exact fine_le (doc_fine h)
  · rw [docOf_none h]
    exact ⟨by simp [Docm.none],by simp [Docm.none],by simp [Docm.none],by simp [Docm.none],by simp [Docm.none]⟩
theorem docR_ro {a b : List Res} {c : List SV} {D : Docm} (k : Ro a b) : DocR a c D → DocR b c D := by
  rintro ⟨xa,xc,xm,xs,Q,e,g1,g2,g3,g4,g5,g6⟩
  exact ⟨xa,xc,xm,xs,Q,e,g1.ro k,g2.ro k,g3.ro k,g4.ro k,fun q hq => (g5 q hq).ro k,g6⟩
end Go.Proofs.YtejfjmcjicpodaaGreatDoor
/- ref14's parser: value,where array and object keep their word. -/
set_option linter.all false
set_option maxRecDepth 20000
namespace Go.Proofs.YtejfjmcjicpodaaGreatDoor
open Go Vc Go.RowKit Wf
set_option linter.unusedSimpArgs false
def POut (s : Bytes) (p a : Nat) (f : Int) (bs : List Res) (r : SV) (b : List Res) : Prop := ∃ (a' n' : Nat) (f' w' : Int),a ≤ a' ∧ a' ≤ s.length ∧ n' ≤ 20001 ∧ (f' = 0 → n' ≤ 20000 ∧ f = 0) ∧ KpP p (pcl s a' n' f' w') 53 true bs b ∧ ∃ j v,r = .agg (tv v) ∧ TJ b j v ∧ JB (s.length + 410) j
def RdOK (s : Bytes) (g : FuncId) (d : Nat) : Prop := ∀ (bs : List Res) (p a n : Nat) (f w : Int),bs[p]? = some (pbox s a n f w) → a ≤ s.length → n ≤ 20001 → (f = 0 → n ≤ 20000) → SC Tryz.V g [.p p 0,.int .i64 d] bs (POut s p a f bs)
def VlOK (s : Bytes) (d : Nat) : Prop := ∀ (bs : List Res) (p a n : Nat) (f w : Int) (k : Int) (u : Bytes) (pos : Int),bs[p]? = some (pbox s a n f w) → a ≤ s.length → n ≤ 20001 → (f = 0 → n ≤ 20000) → u.length ≤ s.length → SC Tryz.V 20 [.p p 0,.agg (tok k u pos),.int .i64 d] bs (POut s p a f bs)
def zv : List SV := [.int .i64 0,.str [],.nils,.nils]
def VJ (s : Bytes) (bs : List Res) (p d : Nat) (k : Int) (u : Bytes) (pos : Int) (a n : Nat) (f w : Int) (σ : St) : Prop := lk 0 σ.t = some (.p p 0) ∧ lk 2 σ.t = some (.int .i64 d) ∧ lk 4 σ.t = some (.p bs.length 0) ∧ lk 6 σ.t = some (.p (bs.length + 1) 0) ∧
  KpP p (pcl s a n f w) 53 true bs σ.b ∧ σ.b[bs.length]? = some (.cells (tok k u pos) 56 true) ∧ σ.b[bs.length + 1]? = some (.cells zv 25 true)
def VK (s : Bytes) (bs : List Res) (p d : Nat) (k : Int) (u : Bytes) (pos : Int) (a n : Nat) (f w k' : Int) (u' : Bytes) (σ : St) : Prop := VJ s bs p d k u pos a n f w σ ∧ ∃ q,bs.length + 1 < q ∧ lk 8 σ.t = some (.p q 0) ∧ σ.b[q]? = some (.cells [.int .i64 k',.str u',.nils,.nils] 25 true)
theorem POut.leaf {s : Bytes} {p a : Nat} {f : Int} {bs b : List Res} {a' n' : Nat} {f' w' : Int} (h1 : a ≤ a') (h2 : a' ≤ s.length) (h3 : n' ≤ 20001) (h4 : f' = 0 → n' ≤ 20000 ∧ f = 0) (hk : KpP p (pcl s a' n' f' w') 53 true bs b) (k : Int) {u : Bytes} (hu : u.length ≤ s.length + 410) (hs : s.length ≤ 1000000) : POut s p a f bs (.agg [.int .i64 k,.str u,.nils,.nils]) b :=
  ⟨a',n',f',w',h1,h2,h3,h4,hk,.mk k u [] [],⟨k,u,.nils,.nils⟩,rfl,TJ.leaf _ _ _ (by omega),JB.leaf _ hu⟩
theorem stF_ne {f e : Int} (he : e ≠ 0) : stF f e ≠ 0 := by unfold stF; split <;> simp_all
end Go.Proofs.YtejfjmcjicpodaaGreatDoor
namespace Vc
open Go.Proofs.YtejfjmcjicpodaaGreatDoor
open Go Vc Go.RowKit Wf
theorem KpP.pb {p : Nat} {s : Bytes} {a n : Nat} {f w : Int} {bs b : List Res} (h : KpP p (pcl s a n f w) 53 true bs b) : b[p]? = some (pbox s a n f w) := h.2.2
end Vc
namespace Go.Proofs.YtejfjmcjicpodaaGreatDoor
open Go Vc Go.RowKit Wf
set_option maxHeartbeats 16000000 in
theorem sc_r14_value {s : Bytes} (hs : s.length ≤ 1000000) {d : Nat} (hd : d ≤ 64) (hA : d < 64 → RdOK s 57 (d + 1)) (hO : d < 64 → RdOK s 58 (d + 1)) : VlOK s d := by
  intro bs p a n f w k u pos hp ha hn hfn hu
  have hpl := (List.getElem?_eq_some_iff.1 hp).1
  have hk0 := KpP.of (p := p) hp (Kp.refl bs)
  refine sc_of 3000 Tryz.func20 rfl Tryz.ntmps20 Tryz.results20 Tryz.call20 (by simp) (fun β β' hb => concL_within bs.length _ (by simp [within,within.withinL,tok,hpl]) β β' hb) ?_
  refine vcS_cutS 2900 (VJ s bs p d k u pos a n f w) ?_ (fun k' hk' => ?_)
  rotate_left
  · unfold tok
    simp only [lawG,↓Xn,↓Xo,↓Xg,↓Xd,↓Xe,↓Xf,Tryz.VΓ,Tryz.Γs,Xp,Xi,Nat.reduceAdd,Nat.reduceSub,Nat.reduceLT,Nat.reduceLeDiff,reduceIte,reduceCtorEq,Nat.reduceEqDiff,implies_true,forall_const,lawV,lawA,beq_self_eq_true,bne_self_eq_false,Int.reduceBEq,Int.reduceBNe,Int.reduceLT,Int.reduceLE]
    exact hk' _ _ ⟨rfl,rfl,rfl,rfl,hk0.app _,app_at0 _ _,app_at _ _ 1⟩
  rintro m ⟨t,b⟩ ⟨h0,h2,h4,h6,hkp,hb0,hb1⟩
  simp only at h0 h2 h4 h6 hkp hb0 hb1
  refine vcS_cutS 2800 (fun σ => VJ s bs p d k u pos a n f w σ ∧ ∃ g : Bool,lk 7 σ.t = some (.bool g)) ?_ (fun k' hk' => ?_)
  rotate_left
  · have i1 := p_r14_is k u pos [91]
    have i2 := p_r14_is k u pos [123]
    unfold tok at hb0 i1 i2
    cases k3 : k == 3
    rotate_left
    · simp only [lawG,↓Xn,↓Xo,↓Xg,↓Xd,↓Xe,↓Xf,Tryz.VΓ,Tryz.Γs,Xp,Xi,Nat.reduceAdd,Nat.reduceSub,Nat.reduceLT,Nat.reduceLeDiff,reduceIte,reduceCtorEq,Nat.reduceEqDiff,implies_true,forall_const,lawV,lawA,beq_self_eq_true,bne_self_eq_false,Int.reduceBEq,Int.reduceBNe,Int.reduceLT,Int.reduceLE,h0,h2,h4,h6,hb0,k3]
      exact hk' _ _ ⟨⟨by simp [lk,h0],by simp [lk,h2],by simp [lk,h4],by simp [lk,h6],hkp,hb0,hb1⟩,true,rfl⟩
    cases k4 : k == 4
    rotate_left
    · simp only [lawG,↓Xn,↓Xo,↓Xg,↓Xd,↓Xe,↓Xf,Tryz.VΓ,Tryz.Γs,Xp,Xi,Nat.reduceAdd,Nat.reduceSub,Nat.reduceLT,Nat.reduceLeDiff,reduceIte,reduceCtorEq,Nat.reduceEqDiff,implies_true,forall_const,lawV,lawA,beq_self_eq_true,bne_self_eq_false,Int.reduceBEq,Int.reduceBNe,Int.reduceLT,Int.reduceLE,h0,h2,h4,h6,hb0,k3,k4]
      exact hk' _ _ ⟨⟨by simp [lk,h0],by simp [lk,h2],by simp [lk,h4],by simp [lk,h6],hkp,hb0,hb1⟩,true,rfl⟩
    cases k5 : k == 5
    rotate_left
    · simp only [lawG,↓Xn,↓Xo,↓Xg,↓Xd,↓Xe,↓Xf,Tryz.VΓ,Tryz.Γs,Xp,Xi,Nat.reduceAdd,Nat.reduceSub,Nat.reduceLT,Nat.reduceLeDiff,reduceIte,reduceCtorEq,Nat.reduceEqDiff,implies_true,forall_const,lawV,lawA,beq_self_eq_true,bne_self_eq_false,Int.reduceBEq,Int.reduceBNe,Int.reduceLT,Int.reduceLE,h0,h2,h4,h6,hb0,k3,k4,k5]
      exact hk' _ _ ⟨⟨by simp [lk,h0],by simp [lk,h2],by simp [lk,h4],by simp [lk,h6],hkp,hb0,hb1⟩,true,rfl⟩
    simp only [lawG,↓Xn,↓Xo,↓Xg,↓Xd,↓Xe,↓Xf,Tryz.VΓ,Tryz.Γs,Xp,Xi,Nat.reduceAdd,Nat.reduceSub,Nat.reduceLT,Nat.reduceLeDiff,reduceIte,reduceCtorEq,Nat.reduceEqDiff,implies_true,forall_const,lawV,lawA,beq_self_eq_true,bne_self_eq_false,Int.reduceBEq,Int.reduceBNe,Int.reduceLT,Int.reduceLE,h0,h2,h4,h6,hb0,k3,k4,k5]
    refine callV_pc i1 ?_
    cases c1 : (k == 2 && u == [91])
    · simp only [lawG,↓Xn,↓Xo,↓Xg,↓Xd,↓Xe,↓Xf,Tryz.VΓ,Tryz.Γs,Xp,Xi,Nat.reduceAdd,Nat.reduceSub,Nat.reduceLT,Nat.reduceLeDiff,reduceIte,reduceCtorEq,Nat.reduceEqDiff,implies_true,forall_const,lawV,lawA,beq_self_eq_true,bne_self_eq_false,Int.reduceBEq,Int.reduceBNe,Int.reduceLT,Int.reduceLE,h0,h2,h4,h6,hb0]
      refine callV_pc i2 ?_
      simp only [lawG,↓Xn,↓Xo,↓Xg,↓Xd,↓Xe,↓Xf,Tryz.VΓ,Tryz.Γs,Xp,Xi,Nat.reduceAdd,Nat.reduceSub,Nat.reduceLT,Nat.reduceLeDiff,reduceIte,reduceCtorEq,Nat.reduceEqDiff,implies_true,forall_const,lawV,lawA,beq_self_eq_true,bne_self_eq_false,Int.reduceBEq,Int.reduceBNe,Int.reduceLT,Int.reduceLE,h0,h2,h4,h6,hb0]
      exact hk' _ _ ⟨⟨by simp [lk,h0],by simp [lk,h2],by simp [lk,h4],by simp [lk,h6],hkp,hb0,hb1⟩,_,rfl⟩
    · simp only [lawG,↓Xn,↓Xo,↓Xg,↓Xd,↓Xe,↓Xf,Tryz.VΓ,Tryz.Γs,Xp,Xi,Nat.reduceAdd,Nat.reduceSub,Nat.reduceLT,Nat.reduceLeDiff,reduceIte,reduceCtorEq,Nat.reduceEqDiff,implies_true,forall_const,lawV,lawA,beq_self_eq_true,bne_self_eq_false,Int.reduceBEq,Int.reduceBNe,Int.reduceLT,Int.reduceLE,h0,h2,h4,h6,hb0]
      exact hk' _ _ ⟨⟨by simp [lk,h0],by simp [lk,h2],by simp [lk,h4],by simp [lk,h6],hkp,hb0,hb1⟩,true,rfl⟩
  rintro m ⟨t,b⟩ ⟨⟨h0,h2,h4,h6,hkp,hb0,hb1⟩,g,h7⟩
  simp only at h0 h2 h4 h6 h7 hkp hb0 hb1
  refine vcS_cutS 2700 (fun σ => f = 0 ∧ VJ s bs p d k u pos a n f w σ ∧ lk 7 σ.t = some (.bool g)) ?_ (fun k' hk' => ?_)
  rotate_left
  · have hbp := hkp.2.2
    unfold pcl at hbp
    unfold zv at hb1
    cases hf : f != 0
    · simp only [lawG,↓Xn,↓Xo,↓Xg,↓Xd,↓Xe,↓Xf,Tryz.VΓ,Tryz.Γs,Xp,Xi,Nat.reduceAdd,Nat.reduceSub,Nat.reduceLT,Nat.reduceLeDiff,reduceIte,reduceCtorEq,Nat.reduceEqDiff,implies_true,forall_const,lawV,lawA,beq_self_eq_true,bne_self_eq_false,Int.reduceBEq,Int.reduceBNe,Int.reduceLT,Int.reduceLE,h0,h2,h4,h6,h7,hbp,hf]
      exact hk' _ _ ⟨by simpa using hf,⟨by simp [lk,h0],by simp [lk,h2],by simp [lk,h4],by simp [lk,h6],hkp,hb0,hb1⟩,by simp [lk,h7]⟩
    · have hl1 := (List.getElem?_eq_some_iff.1 hb1).1
      have hg1 : ∀ X,(b.set (bs.length + 1) X)[bs.length + 1]? = some X := fun X => List.getElem?_set_self hl1
      simp only [lawG,↓Xn,↓Xo,↓Xg,↓Xd,↓Xe,↓Xf,Tryz.VΓ,Tryz.Γs,Xp,Xi,Nat.reduceAdd,Nat.reduceSub,Nat.reduceLT,Nat.reduceLeDiff,reduceIte,reduceCtorEq,Nat.reduceEqDiff,implies_true,forall_const,lawV,lawA,beq_self_eq_true,bne_self_eq_false,Int.reduceBEq,Int.reduceBNe,Int.reduceLT,Int.reduceLE,h0,h2,h4,h6,h7,hbp,hb1,hf,hg1]
      exact POut.leaf (Nat.le_refl _) ha hn (fun h => by rw [h] at hf; simp at hf) (hkp.setN (by omega) (by omega) _) 0 (by simp) hs
  rintro m ⟨t,b⟩ ⟨rfl,⟨h0,h2,h4,h6,hkp,hb0,hb1⟩,h7⟩
  simp only at h0 h2 h4 h6 h7 hkp hb0 hb1
  have hn0 := hfn rfl
  refine vcS_cutS 2600 (VJ s bs p d k u pos a n 0 w) ?_ (fun k' hk' => ?_)
  rotate_left
  · cases g
    · have hst := sc_r14_stop hkp.pb pos 140
      unfold tok at hb0
      simp only [lawG,↓Xn,↓Xo,↓Xg,↓Xd,↓Xe,↓Xf,Tryz.VΓ,Tryz.Γs,Xp,Xi,Nat.reduceAdd,Nat.reduceSub,Nat.reduceLT,Nat.reduceLeDiff,reduceIte,reduceCtorEq,Nat.reduceEqDiff,implies_true,forall_const,lawV,lawA,beq_self_eq_true,bne_self_eq_false,Int.reduceBEq,Int.reduceBNe,Int.reduceLT,Int.reduceLE,h0,h2,h4,h6,h7,hb0]
      refine callV_sc hst ?_
      rintro r b' ⟨rfl,rfl⟩
      (have hkp' := hkp.set (pcl s a n (stF 0 140) (stW 0 w pos)) 53 true
       have hb1' := get_setN hb1 (show p ≠ bs.length + 1 by omega) (pbox s a n (stF 0 140) (stW 0 w pos))
       unfold pbox at hb1' ⊢
       generalize b.set p (.cells (pcl s a n (stF 0 140) (stW 0 w pos)) 53 true) = b' at hkp' hb1' ⊢
       have hl1 := (List.getElem?_eq_some_iff.1 hb1').1
       have hg1 : ∀ X,(b'.set (bs.length + 1) X)[bs.length + 1]? = some X := fun X => List.getElem?_set_self hl1
       unfold zv at hb1'
       simp only [lawG,↓Xn,↓Xo,↓Xg,↓Xd,↓Xe,↓Xf,Tryz.VΓ,Tryz.Γs,Xp,Xi,Nat.reduceAdd,Nat.reduceSub,Nat.reduceLT,Nat.reduceLeDiff,reduceIte,reduceCtorEq,Nat.reduceEqDiff,implies_true,forall_const,lawV,lawA,beq_self_eq_true,bne_self_eq_false,Int.reduceBEq,Int.reduceBNe,Int.reduceLT,Int.reduceLE,h0,h2,h4,h6,hb1',hg1]
       exact POut.leaf (Nat.le_refl _) ha hn (fun h => absurd h (stF_ne (by decide))) (hkp'.setN (by omega) (by omega) _) 0 (by simp) hs)
    · simp only [lawG,↓Xn,↓Xo,↓Xg,↓Xd,↓Xe,↓Xf,Tryz.VΓ,Tryz.Γs,Xp,Xi,Nat.reduceAdd,Nat.reduceSub,Nat.reduceLT,Nat.reduceLeDiff,reduceIte,reduceCtorEq,Nat.reduceEqDiff,implies_true,forall_const,lawV,lawA,beq_self_eq_true,bne_self_eq_false,Int.reduceBEq,Int.reduceBNe,Int.reduceLT,Int.reduceLE,h0,h2,h4,h6,h7]
      exact hk' _ _ ⟨by simp [lk,h0],by simp [lk,h2],by simp [lk,h4],by simp [lk,h6],hkp,hb0,hb1⟩
  clear h7
  rintro m ⟨t,b⟩ ⟨h0,h2,h4,h6,hkp,hb0,hb1⟩
  simp only at h0 h2 h4 h6 hkp hb0 hb1
  refine vcS_cutS 2500 (fun σ => VJ s bs p d k u pos a n 0 w σ ∧ ((k == 2) = true → d < 64)) ?_ (fun k' hk' => ?_)
  rotate_left
  · have hst := sc_r14_stop hkp.pb pos 141
    have hb0' := hb0
    unfold tok at hb0
    cases k2 : k == 2
    · simp only [lawG,↓Xn,↓Xo,↓Xg,↓Xd,↓Xe,↓Xf,Tryz.VΓ,Tryz.Γs,Xp,Xi,Nat.reduceAdd,Nat.reduceSub,Nat.reduceLT,Nat.reduceLeDiff,reduceIte,reduceCtorEq,Nat.reduceEqDiff,implies_true,forall_const,lawV,lawA,beq_self_eq_true,bne_self_eq_false,Int.reduceBEq,Int.reduceBNe,Int.reduceLT,Int.reduceLE,h0,h2,h4,h6,hb0,k2]
      exact hk' _ _ ⟨⟨by simp [lk,h0],by simp [lk,h2],by simp [lk,h4],by simp [lk,h6],hkp,hb0',hb1⟩,fun h => by rw [k2] at h; cases h⟩
    · cases kd : (d : Int) == 64
      · simp only [lawG,↓Xn,↓Xo,↓Xg,↓Xd,↓Xe,↓Xf,Tryz.VΓ,Tryz.Γs,Xp,Xi,Nat.reduceAdd,Nat.reduceSub,Nat.reduceLT,Nat.reduceLeDiff,reduceIte,reduceCtorEq,Nat.reduceEqDiff,implies_true,forall_const,lawV,lawA,beq_self_eq_true,bne_self_eq_false,Int.reduceBEq,Int.reduceBNe,Int.reduceLT,Int.reduceLE,h0,h2,h4,h6,hb0,k2,kd]
        exact hk' _ _ ⟨⟨by simp [lk,h0],by simp [lk,h2],by simp [lk,h4],by simp [lk,h6],hkp,hb0',hb1⟩,fun _ => by simp at kd; omega⟩
      · simp only [lawG,↓Xn,↓Xo,↓Xg,↓Xd,↓Xe,↓Xf,Tryz.VΓ,Tryz.Γs,Xp,Xi,Nat.reduceAdd,Nat.reduceSub,Nat.reduceLT,Nat.reduceLeDiff,reduceIte,reduceCtorEq,Nat.reduceEqDiff,implies_true,forall_const,lawV,lawA,beq_self_eq_true,bne_self_eq_false,Int.reduceBEq,Int.reduceBNe,Int.reduceLT,Int.reduceLE,h0,h2,h4,h6,hb0,k2,kd]
        refine callV_sc hst ?_
        rintro r b' ⟨rfl,rfl⟩
        (have hkp' := hkp.set (pcl s a n (stF 0 141) (stW 0 w pos)) 53 true
         have hb1' := get_setN hb1 (show p ≠ bs.length + 1 by omega) (pbox s a n (stF 0 141) (stW 0 w pos))
         unfold pbox at hb1' ⊢
         generalize b.set p (.cells (pcl s a n (stF 0 141) (stW 0 w pos)) 53 true) = b' at hkp' hb1' ⊢
         have hl1 := (List.getElem?_eq_some_iff.1 hb1').1
         have hg1 : ∀ X,(b'.set (bs.length + 1) X)[bs.length + 1]? = some X := fun X => List.getElem?_set_self hl1
         unfold zv at hb1'
         simp only [lawG,↓Xn,↓Xo,↓Xg,↓Xd,↓Xe,↓Xf,Tryz.VΓ,Tryz.Γs,Xp,Xi,Nat.reduceAdd,Nat.reduceSub,Nat.reduceLT,Nat.reduceLeDiff,reduceIte,reduceCtorEq,Nat.reduceEqDiff,implies_true,forall_const,lawV,lawA,beq_self_eq_true,bne_self_eq_false,Int.reduceBEq,Int.reduceBNe,Int.reduceLT,Int.reduceLE,h0,h2,h4,h6,hb1',hg1]
         exact POut.leaf (Nat.le_refl _) ha hn (fun h => absurd h (stF_ne (by decide))) (hkp'.setN (by omega) (by omega) _) 0 (by simp) hs)
  rintro m ⟨t,b⟩ ⟨⟨h0,h2,h4,h6,hkp,hb0,hb1⟩,hkd⟩
  simp only at h0 h2 h4 h6 hkp hb0 hb1
  refine vcS_cutS 2400 (VK s bs p d k u pos a n 0 w 5 u) ?_ (fun k' hk' => ?_)
  rotate_left
  · have hb0' := hb0
    unfold tok at hb0
    simp only [lawG,↓Xn,↓Xo,↓Xg,↓Xd,↓Xe,↓Xf,Tryz.VΓ,Tryz.Γs,Xp,Xi,Nat.reduceAdd,Nat.reduceSub,Nat.reduceLT,Nat.reduceLeDiff,reduceIte,reduceCtorEq,Nat.reduceEqDiff,implies_true,forall_const,lawV,lawA,beq_self_eq_true,bne_self_eq_false,Int.reduceBEq,Int.reduceBNe,Int.reduceLT,Int.reduceLE,h0,h2,h4,h6,hb0]
    exact hk' _ _ ⟨⟨by simp [lk,h0],by simp [lk,h2],by simp [lk,h4],by simp [lk,h6],hkp.app _,at_old hb0' _,at_old hb1 _⟩,b.length,(List.getElem?_eq_some_iff.1 hb1).1,rfl,app_at0 _ _⟩
  rintro m ⟨t,b⟩ ⟨⟨h0,h2,h4,h6,hkp,hb0,hb1⟩,q,hq,h8,hbq⟩
  simp only at h0 h2 h4 h6 h8 hkp hb0 hb1 hbq
  refine vcS_cutS 2300 (fun σ => ∃ (kk : Int) (u' : Bytes) (f' w' : Int),u'.length ≤ s.length + 410 ∧ VK s bs p d k u pos a n f' w' kk u' σ) ?_ (fun k' hk' => ?_)
  rotate_left
  · have hb0' := hb0
    have hqp : p ≠ q := by omega
    have hql := (List.getElem?_eq_some_iff.1 hbq).1
    unfold tok at hb0
    cases k4 : k == 4
    · simp only [lawG,↓Xn,↓Xo,↓Xg,↓Xd,↓Xe,↓Xf,Tryz.VΓ,Tryz.Γs,Xp,Xi,Nat.reduceAdd,Nat.reduceSub,Nat.reduceLT,Nat.reduceLeDiff,reduceIte,reduceCtorEq,Nat.reduceEqDiff,implies_true,forall_const,lawV,lawA,beq_self_eq_true,bne_self_eq_false,Int.reduceBEq,Int.reduceBNe,Int.reduceLT,Int.reduceLE,h0,h2,h4,h6,h8,hb0,k4]
      exact hk' _ _ ⟨5,u,0,w,by omega,⟨by simp [lk,h0],by simp [lk,h2],by simp [lk,h4],by simp [lk,h6],hkp,hb0',hb1⟩,q,hq,by simp [lk,h8],hbq⟩
    · obtain ⟨_,p1,u',e,rfl,hu'⟩ := px_r13_Number u (by omega)
      simp only [lawG,↓Xn,↓Xo,↓Xg,↓Xd,↓Xe,↓Xf,Tryz.VΓ,Tryz.Γs,Xp,Xi,Nat.reduceAdd,Nat.reduceSub,Nat.reduceLT,Nat.reduceLeDiff,reduceIte,reduceCtorEq,Nat.reduceEqDiff,implies_true,forall_const,lawV,lawA,beq_self_eq_true,bne_self_eq_false,Int.reduceBEq,Int.reduceBNe,Int.reduceLT,Int.reduceLE,h0,h2,h4,h6,h8,hb0,k4]
      refine callV_pc p1 ?_
      cases he : e != 0
      · simp only [lawG,↓Xn,↓Xo,↓Xg,↓Xd,↓Xe,↓Xf,Tryz.VΓ,Tryz.Γs,Xp,Xi,Nat.reduceAdd,Nat.reduceSub,Nat.reduceLT,Nat.reduceLeDiff,reduceIte,reduceCtorEq,Nat.reduceEqDiff,implies_true,forall_const,lawV,lawA,beq_self_eq_true,bne_self_eq_false,Int.reduceBEq,Int.reduceBNe,Int.reduceLT,Int.reduceLE,h0,h2,h4,h6,h8,hb0,hbq,he]
        exact hk' _ _ ⟨4,u',0,w,by omega,⟨by simp [lk,h0],by simp [lk,h2],by simp [lk,h4],by simp [lk,h6],hkp.setN (by omega) (by omega) _,get_setN hb0' (by omega) _,get_setN hb1 (by omega) _⟩,q,hq,by simp [lk,h8],List.getElem?_set_self hql⟩
      · have hst := sc_r14_stop hkp.pb pos e
        simp only [lawG,↓Xn,↓Xo,↓Xg,↓Xd,↓Xe,↓Xf,Tryz.VΓ,Tryz.Γs,Xp,Xi,Nat.reduceAdd,Nat.reduceSub,Nat.reduceLT,Nat.reduceLeDiff,reduceIte,reduceCtorEq,Nat.reduceEqDiff,implies_true,forall_const,lawV,lawA,beq_self_eq_true,bne_self_eq_false,Int.reduceBEq,Int.reduceBNe,Int.reduceLT,Int.reduceLE,h0,h2,h4,h6,h8,hb0,he]
        refine callV_sc hst ?_
        rintro r b' ⟨rfl,rfl⟩
        have hkp' := hkp.set (pcl s a n (stF 0 e) (stW 0 w pos)) 53 true
        have hb0'' := get_setN hb0' (show p ≠ bs.length by omega) (pbox s a n (stF 0 e) (stW 0 w pos))
        have hb1' := get_setN hb1 (show p ≠ bs.length + 1 by omega) (pbox s a n (stF 0 e) (stW 0 w pos))
        have hbq' := get_setN hbq hqp (pbox s a n (stF 0 e) (stW 0 w pos))
        unfold pbox at hb0'' hb1' hbq' ⊢
        generalize b.set p (.cells (pcl s a n (stF 0 e) (stW 0 w pos)) 53 true) = b' at hkp' hb0'' hb1' hbq' ⊢
        simp only [lawG,↓Xn,↓Xo,↓Xg,↓Xd,↓Xe,↓Xf,Tryz.VΓ,Tryz.Γs,Xp,Xi,Nat.reduceAdd,Nat.reduceSub,Nat.reduceLT,Nat.reduceLeDiff,reduceIte,reduceCtorEq,Nat.reduceEqDiff,implies_true,forall_const,lawV,lawA,beq_self_eq_true,bne_self_eq_false,Int.reduceBEq,Int.reduceBNe,Int.reduceLT,Int.reduceLE,h0,h2,h4,h6,h8,hbq']
        exact hk' _ _ ⟨4,u',_,_,by omega,⟨by simp [lk,h0],by simp [lk,h2],by simp [lk,h4],by simp [lk,h6],hkp'.setN (by omega) (by omega) _,get_setN hb0'' (by omega) _,get_setN hb1' (by omega) _⟩,q,hq,by simp [lk,h8],List.getElem?_set_self (List.getElem?_eq_some_iff.1 hbq').1⟩
  clear h8 hbq hq
  rintro m ⟨t,b⟩ ⟨kk,u',f',w',hu',⟨h0,h2,h4,h6,hkp,hb0,hb1⟩,q,hq,h8,hbq⟩
  simp only at h0 h2 h4 h6 h8 hkp hb0 hb1 hbq
  refine vcS_cutS 2200 (fun σ => ∃ (f' w' : Int),(f' = 0 → n + 1 ≤ 20000) ∧ VK s bs p d k u pos a (n + 1) f' w' kk u' σ) ?_ (fun k' hk' => ?_)
  rotate_left
  · have hqp : p ≠ q := by omega
    refine vcS_cutS 2250 (VK s bs p d k u pos a (n + 1) f' w' kk u') ?_ (fun k' hk' => ?_)
    rotate_left
    · have hbp := hkp.2.2
      unfold pcl at hbp
      simp only [lawG,↓Xn,↓Xo,↓Xg,↓Xd,↓Xe,↓Xf,Tryz.VΓ,Tryz.Γs,Xp,Xi,Nat.reduceAdd,Nat.reduceSub,Nat.reduceLT,Nat.reduceLeDiff,reduceIte,reduceCtorEq,Nat.reduceEqDiff,implies_true,forall_const,lawV,lawA,beq_self_eq_true,bne_self_eq_false,Int.reduceBEq,Int.reduceBNe,Int.reduceLT,Int.reduceLE,h0,h2,h4,h6,h8,hbp]
      exact ⟨by omega,hk' _ _ ⟨⟨by simp [lk,h0],by simp [lk,h2],by simp [lk,h4],by simp [lk,h6],hkp.set (pcl s a (n + 1) f' w') _ _,get_setN hb0 (by omega) _,get_setN hb1 (by omega) _⟩,q,hq,by simp [lk,h8],get_setN hbq hqp _⟩⟩
    clear h0 h2 h4 h6 h8 hbq hb0 hb1 hkp hq
    rintro m ⟨t,b⟩ ⟨⟨h0,h2,h4,h6,hkp,hb0,hb1⟩,q,hq,h8,hbq⟩
    simp only at h0 h2 h4 h6 h8 hkp hb0 hb1 hbq
    have hqp : p ≠ q := by omega
    have hbp := hkp.2.2
    have hb0' := hb0
    unfold pcl at hbp
    unfold tok at hb0'
    cases hc : decide ((20000 : Int) < ((n + 1 : Nat) : Int))
    · simp only [lawG,↓Xn,↓Xo,↓Xg,↓Xd,↓Xe,↓Xf,Tryz.VΓ,Tryz.Γs,Xp,Xi,Nat.reduceAdd,Nat.reduceSub,Nat.reduceLT,Nat.reduceLeDiff,reduceIte,reduceCtorEq,Nat.reduceEqDiff,implies_true,forall_const,lawV,lawA,beq_self_eq_true,bne_self_eq_false,Int.reduceBEq,Int.reduceBNe,Int.reduceLT,Int.reduceLE,h0,h2,h4,h6,h8,hbp,hc]
      exact hk' _ _ ⟨f',w',fun _ => by simp at hc; omega,⟨by simp [lk,h0],by simp [lk,h2],by simp [lk,h4],by simp [lk,h6],hkp,hb0,hb1⟩,q,hq,by simp [lk,h8],hbq⟩
    · have hst := sc_r14_stop hkp.pb pos 142
      simp only [lawG,↓Xn,↓Xo,↓Xg,↓Xd,↓Xe,↓Xf,Tryz.VΓ,Tryz.Γs,Xp,Xi,Nat.reduceAdd,Nat.reduceSub,Nat.reduceLT,Nat.reduceLeDiff,reduceIte,reduceCtorEq,Nat.reduceEqDiff,implies_true,forall_const,lawV,lawA,beq_self_eq_true,bne_self_eq_false,Int.reduceBEq,Int.reduceBNe,Int.reduceLT,Int.reduceLE,h0,h2,h4,h6,h8,hbp,hb0',hc]
      refine callV_sc hst ?_
      rintro r b' ⟨rfl,rfl⟩
      simp only [lawG,↓Xn,↓Xo,↓Xg,↓Xd,↓Xe,↓Xf,Tryz.VΓ,Tryz.Γs,Xp,Xi,Nat.reduceAdd,Nat.reduceSub,Nat.reduceLT,Nat.reduceLeDiff,reduceIte,reduceCtorEq,Nat.reduceEqDiff,implies_true,forall_const,lawV,lawA,beq_self_eq_true,bne_self_eq_false,Int.reduceBEq,Int.reduceBNe,Int.reduceLT,Int.reduceLE,h0,h2,h4,h6,h8]
      exact hk' _ _ ⟨stF f' 142,stW f' w' pos,fun h => absurd h (stF_ne (by decide)),⟨by simp [lk,h0],by simp [lk,h2],by simp [lk,h4],by simp [lk,h6],hkp.set _ _ _,get_setN hb0 (by omega) _,get_setN hb1 (by omega) _⟩,q,hq,by simp [lk,h8],get_setN hbq hqp _⟩
  clear h0 h2 h4 h6 h8 hbq hb0 hb1 hkp hq
  rintro m ⟨t,b⟩ ⟨f',w',hn1,⟨h0,h2,h4,h6,hkp,hb0,hb1⟩,q,hq,h8,hbq⟩
  simp only at h0 h2 h4 h6 h8 hkp hb0 hb1 hbq
  have hl1 := (List.getElem?_eq_some_iff.1 hb1).1
  have hg1 : ∀ X,(b.set (bs.length + 1) X)[bs.length + 1]? = some X := fun X => List.getElem?_set_self hl1
  have hbq0 := hbq
  have hb1' := hb1
  unfold zv at hb1
  refine vcS_cutS 2100 (VK s bs p d k u pos a (n + 1) f' w' kk u') ?_ (fun k' hk' => ?_)
  rotate_left
  · have hb0' := hb0
    have i1 := p_r14_is k u pos [91]
    have i2 := p_r14_is k u pos [123]
    unfold tok at hb0' i1 i2
    cases k5 : k == 5
    rotate_left
    · obtain ⟨_,p1,x,rfl⟩ := px_r14_word u
      simp only [lawG,↓Xn,↓Xo,↓Xg,↓Xd,↓Xe,↓Xf,Tryz.VΓ,Tryz.Γs,Xp,Xi,Nat.reduceAdd,Nat.reduceSub,Nat.reduceLT,Nat.reduceLeDiff,reduceIte,reduceCtorEq,Nat.reduceEqDiff,implies_true,forall_const,lawV,lawA,beq_self_eq_true,bne_self_eq_false,Int.reduceBEq,Int.reduceBNe,Int.reduceLT,Int.reduceLE,h0,h2,h4,h6,h8,hb0',k5]
      (refine callV_pc (p1) ?_; simp only [lawG,↓Xn,↓Xo,↓Xg,↓Xd,↓Xe,↓Xf,Tryz.VΓ,Tryz.Γs,Xp,Xi,Nat.reduceAdd,Nat.reduceSub,Nat.reduceLT,Nat.reduceLeDiff,reduceIte,reduceCtorEq,Nat.reduceEqDiff,implies_true,forall_const,lawV,lawA,beq_self_eq_true,bne_self_eq_false,Int.reduceBEq,Int.reduceBNe,Int.reduceLT,Int.reduceLE,h0,h2,h4,h6,h8,hb1,hg1])
      exact POut.leaf (Nat.le_refl _) ha (by omega) (fun h => ⟨hn1 h,rfl⟩) (hkp.setN (by omega) (by omega) _) x (by simp) hs
    simp only [lawG,↓Xn,↓Xo,↓Xg,↓Xd,↓Xe,↓Xf,Tryz.VΓ,Tryz.Γs,Xp,Xi,Nat.reduceAdd,Nat.reduceSub,Nat.reduceLT,Nat.reduceLeDiff,reduceIte,reduceCtorEq,Nat.reduceEqDiff,implies_true,forall_const,lawV,lawA,beq_self_eq_true,bne_self_eq_false,Int.reduceBEq,Int.reduceBNe,Int.reduceLT,Int.reduceLE,h0,h2,h4,h6,h8,hb0',k5]
    refine callV_pc i1 ?_
    cases c1 : (k == 2 && u == [91])
    rotate_left
    · simp only [Bool.and_eq_true] at c1
      have hcall := hA (hkd c1.1) b p a (n + 1) f' w' hkp.pb ha (by omega) hn1
      simp only [lawG,↓Xn,↓Xo,↓Xg,↓Xd,↓Xe,↓Xf,Tryz.VΓ,Tryz.Γs,Xp,Xi,Nat.reduceAdd,Nat.reduceSub,Nat.reduceLT,Nat.reduceLeDiff,reduceIte,reduceCtorEq,Nat.reduceEqDiff,implies_true,forall_const,lawV,lawA,beq_self_eq_true,bne_self_eq_false,Int.reduceBEq,Int.reduceBNe,Int.reduceLT,Int.reduceLE,h0,h2,h4,h6,h8]
      (refine ⟨by omega,callV_sc hcall ?_⟩
       rintro r b' ⟨a1,n1,f1,w1,g1,g2,g3,g4,gk,j,v,rfl,hj,hjb⟩
       have hb1'' := gk.at hb1 (by omega)
       have hl1' := (List.getElem?_eq_some_iff.1 hb1'').1
       have hg1' : ∀ X,(b'.set (bs.length + 1) X)[bs.length + 1]? = some X := fun X => List.getElem?_set_self hl1'
       obtain ⟨v1,v2,v3,v4⟩ := hj.tin
       have ho : (one v.xk && one v.xi) = true := by rw [v3,v4]; rfl
       unfold tv
       simp only [lawG,↓Xn,↓Xo,↓Xg,↓Xd,↓Xe,↓Xf,Tryz.VΓ,Tryz.Γs,Xp,Xi,Nat.reduceAdd,Nat.reduceSub,Nat.reduceLT,Nat.reduceLeDiff,reduceIte,reduceCtorEq,Nat.reduceEqDiff,implies_true,forall_const,lawV,lawA,beq_self_eq_true,bne_self_eq_false,Int.reduceBEq,Int.reduceBNe,Int.reduceLT,Int.reduceLE,h0,h2,h4,h6,h8,hb1'',hg1',ho]
       exact ⟨a1,n1,f1,w1,g1,g2,g3,fun h => ⟨(g4 h).1,rfl⟩,(hkp.trans gk).setN (by omega) (by omega) _,j,v,rfl,hj.ro ((Ro.refl _).set (fun c e s n hx => by rw [hb1''] at hx; cases hx) _),hjb⟩)
    simp only [lawG,↓Xn,↓Xo,↓Xg,↓Xd,↓Xe,↓Xf,Tryz.VΓ,Tryz.Γs,Xp,Xi,Nat.reduceAdd,Nat.reduceSub,Nat.reduceLT,Nat.reduceLeDiff,reduceIte,reduceCtorEq,Nat.reduceEqDiff,implies_true,forall_const,lawV,lawA,beq_self_eq_true,bne_self_eq_false,Int.reduceBEq,Int.reduceBNe,Int.reduceLT,Int.reduceLE,h0,h2,h4,h6,h8,hb0']
    refine callV_pc i2 ?_
    cases c2 : (k == 2 && u == [123])
    rotate_left
    · simp only [Bool.and_eq_true] at c2
      have hcall := hO (hkd c2.1) b p a (n + 1) f' w' hkp.pb ha (by omega) hn1
      simp only [lawG,↓Xn,↓Xo,↓Xg,↓Xd,↓Xe,↓Xf,Tryz.VΓ,Tryz.Γs,Xp,Xi,Nat.reduceAdd,Nat.reduceSub,Nat.reduceLT,Nat.reduceLeDiff,reduceIte,reduceCtorEq,Nat.reduceEqDiff,implies_true,forall_const,lawV,lawA,beq_self_eq_true,bne_self_eq_false,Int.reduceBEq,Int.reduceBNe,Int.reduceLT,Int.reduceLE,h0,h2,h4,h6,h8]
      (refine ⟨by omega,callV_sc hcall ?_⟩
       rintro r b' ⟨a1,n1,f1,w1,g1,g2,g3,g4,gk,j,v,rfl,hj,hjb⟩
       have hb1'' := gk.at hb1 (by omega)
       have hl1' := (List.getElem?_eq_some_iff.1 hb1'').1
       have hg1' : ∀ X,(b'.set (bs.length + 1) X)[bs.length + 1]? = some X := fun X => List.getElem?_set_self hl1'
       obtain ⟨v1,v2,v3,v4⟩ := hj.tin
       have ho : (one v.xk && one v.xi) = true := by rw [v3,v4]; rfl
       unfold tv
       simp only [lawG,↓Xn,↓Xo,↓Xg,↓Xd,↓Xe,↓Xf,Tryz.VΓ,Tryz.Γs,Xp,Xi,Nat.reduceAdd,Nat.reduceSub,Nat.reduceLT,Nat.reduceLeDiff,reduceIte,reduceCtorEq,Nat.reduceEqDiff,implies_true,forall_const,lawV,lawA,beq_self_eq_true,bne_self_eq_false,Int.reduceBEq,Int.reduceBNe,Int.reduceLT,Int.reduceLE,h0,h2,h4,h6,h8,hb1'',hg1',ho]
       exact ⟨a1,n1,f1,w1,g1,g2,g3,fun h => ⟨(g4 h).1,rfl⟩,(hkp.trans gk).setN (by omega) (by omega) _,j,v,rfl,hj.ro ((Ro.refl _).set (fun c e s n hx => by rw [hb1''] at hx; cases hx) _),hjb⟩)
    simp only [lawG,↓Xn,↓Xo,↓Xg,↓Xd,↓Xe,↓Xf,Tryz.VΓ,Tryz.Γs,Xp,Xi,Nat.reduceAdd,Nat.reduceSub,Nat.reduceLT,Nat.reduceLeDiff,reduceIte,reduceCtorEq,Nat.reduceEqDiff,implies_true,forall_const,lawV,lawA,beq_self_eq_true,bne_self_eq_false,Int.reduceBEq,Int.reduceBNe,Int.reduceLT,Int.reduceLE,h0,h2,h4,h6,h8]
    exact hk' _ _ ⟨⟨by simp [lk,h0],by simp [lk,h2],by simp [lk,h4],by simp [lk,h6],hkp,hb0,hb1'⟩,q,hq,by simp [lk,h8],hbq⟩
  clear h0 h2 h4 h6 h8 hbq hbq0 hb0 hb1 hb1' hkp hq hl1 hg1
  rintro m ⟨t,b⟩ ⟨⟨h0,h2,h4,h6,hkp,hb0,hb1⟩,q,hq,h8,hbq⟩
  simp only at h0 h2 h4 h6 h8 hkp hb0 hb1 hbq
  have hl1 := (List.getElem?_eq_some_iff.1 hb1).1
  have hg1 : ∀ X,(b.set (bs.length + 1) X)[bs.length + 1]? = some X := fun X => List.getElem?_set_self hl1
  unfold zv at hb1
  simp only [lawG,↓Xn,↓Xo,↓Xg,↓Xd,↓Xe,↓Xf,Tryz.VΓ,Tryz.Γs,Xp,Xi,Nat.reduceAdd,Nat.reduceSub,Nat.reduceLT,Nat.reduceLeDiff,reduceIte,reduceCtorEq,Nat.reduceEqDiff,implies_true,forall_const,lawV,lawA,beq_self_eq_true,bne_self_eq_false,Int.reduceBEq,Int.reduceBNe,Int.reduceLT,Int.reduceLE,h0,h2,h4,h6,h8,hbq,hb1,hg1]
  exact POut.leaf (Nat.le_refl _) ha (by omega) (fun h => ⟨hn1 h,rfl⟩) (hkp.setN (by omega) (by omega) _) kk hu' hs
end Go.Proofs.YtejfjmcjicpodaaGreatDoor
/- ref14's parser: the state of array and object. -/
set_option linter.all false
set_option maxRecDepth 20000
namespace Go.Proofs.YtejfjmcjicpodaaGreatDoor
open Go Vc Go.RowKit Wf
set_option linter.unusedSimpArgs false
structure AS (K : Int) (s : Bytes) (bs : List Res) (p d : Nat) (a n : Nat) (f w k : Int) (u : Bytes) (pos : Int) (yk y : SV) (Ks : List Bytes) (Ls : List Tv) (Js : List Jv) (t : List (Nat × SV)) (b : List Res) : Prop where
  l0 : lk 0 t = some (.p p 0)
  l1 : lk 1 t = some (.int .i64 d)
  l4 : lk 4 t = some (.p bs.length 0)
  l5 : lk 5 t = some (.p (bs.length + 1) 0)
  l6 : lk 6 t = some (.p (bs.length + 2) 0)
  pl : p < bs.length
  kp : KpP p (pcl s a n f w) 53 true bs b
  b0 : b[bs.length]? = some (.cells zv 25 true)
  b1 : b[bs.length + 1]? = some (.cells [.int .i64 K,.str [],yk,y] 25 true)
  b2 : b[bs.length + 2]? = some (.cells (tok k u pos) 56 true)
  rk : (yk = .nils ∧ Ks = []) ∨ ∃ q,0 < Ks.length ∧ yk = .o q Ks.length ∧ bs.length + 2 < q ∧ b[q]? = some (.own (Ks.map SV.str) 9 1 Ks.length true)
  ri : (y = .nils ∧ Ls = []) ∨ ∃ q,0 < Ls.length ∧ y = .o q Ls.length ∧ bs.length + 2 < q ∧ b[q]? = some (.own (Ls.flatMap tv) 25 4 Ls.length true)
  js : TJs b Js Ls
  jb : JBs (s.length + 410) Js
  kb : ∀ x ∈ Ks,x.length ≤ s.length + 410
  ul : u.length ≤ s.length
section
variable {K : Int} {s : Bytes} {bs : List Res} {p d : Nat} {a n : Nat} {f w k : Int} {u : Bytes} {pos : Int} {yk y : SV} {Ks : List Bytes} {Ls : List Tv} {Js : List Jv} {t t' : List (Nat × SV)} {b : List Res}
def SL (t t' : List (Nat × SV)) : Prop := lk 0 t' = lk 0 t ∧ lk 1 t' = lk 1 t ∧ lk 4 t' = lk 4 t ∧ lk 5 t' = lk 5 t ∧ lk 6 t' = lk 6 t
theorem AS.mv (h : AS K s bs p d a n f w k u pos yk y Ks Ls Js t b) (e : SL t t') : AS K s bs p d a n f w k u pos yk y Ks Ls Js t' b :=
  { h with l0 := e.1.trans h.l0,l1 := e.2.1.trans h.l1,l4 := e.2.2.1.trans h.l4,l5 := e.2.2.2.1.trans h.l5,l6 := e.2.2.2.2.trans h.l6 }
theorem AS.pp (h : AS K s bs p d a n f w k u pos yk y Ks Ls Js t b) : b[p]? = some (pbox s a n f w) := h.kp.2.2
theorem AS.setp (h : AS K s bs p d a n f w k u pos yk y Ks Ls Js t b) (a' n' : Nat) (f' w' : Int) : AS K s bs p d a' n' f' w' k u pos yk y Ks Ls Js t (b.set p (pbox s a' n' f' w')) := by
  have hpl := h.pl
  refine { h with kp := h.kp.set _ _ _,b0 := get_setN h.b0 (by omega) _,b1 := get_setN h.b1 (by omega) _,b2 := get_setN h.b2 (by omega) _,rk := ?_,ri := ?_,js := h.js.ro (ro_p h.pp _) }
  · rcases h.rk with e | ⟨q,h1,h2,h3,h4⟩
    · exact .inl e
    · exact .inr ⟨q,h1,h2,h3,get_setN h4 (by omega) _⟩
  · rcases h.ri with e | ⟨q,h1,h2,h3,h4⟩
    · exact .inl e
    · exact .inr ⟨q,h1,h2,h3,get_setN h4 (by omega) _⟩
where ro_p {b : List Res} {p : Nat} {c : List SV} {T : TypeId} {m : Bool} (hp : b[p]? = some (.cells c T m)) (X : Res) : Ro b (b.set p X) := (Ro.refl b).set (fun c e s n hx => by rw [hp] at hx; cases hx) X
theorem AS.setk (h : AS K s bs p d a n f w k u pos yk y Ks Ls Js t b) (k' : Int) {u' : Bytes} (pos' : Int) (hu : u'.length ≤ s.length) : AS K s bs p d a n f w k' u' pos' yk y Ks Ls Js t (b.set (bs.length + 2) (.cells (tok k' u' pos') 56 true)) := by
  have hpl := h.pl
  refine { h with kp := h.kp.setN (by omega) (by omega) _,b0 := get_setN h.b0 (by omega) _,b1 := get_setN h.b1 (by omega) _,b2 := List.getElem?_set_self (List.getElem?_eq_some_iff.1 h.b2).1,rk := ?_,ri := ?_,js := h.js.ro (AS.setp.ro_p h.b2 _),ul := hu }
  · rcases h.rk with e | ⟨q,h1,h2,h3,h4⟩
    · exact .inl e
    · exact .inr ⟨q,h1,h2,h3,get_setN h4 (by omega) _⟩
  · rcases h.ri with e | ⟨q,h1,h2,h3,h4⟩
    · exact .inl e
    · exact .inr ⟨q,h1,h2,h3,get_setN h4 (by omega) _⟩
theorem AS.app (h : AS K s bs p d a n f w k u pos yk y Ks Ls Js t b) (X : List Res) : AS K s bs p d a n f w k u pos yk y Ks Ls Js t (b ++ X) := by
  refine { h with kp := h.kp.app _,b0 := at_old h.b0 _,b1 := at_old h.b1 _,b2 := at_old h.b2 _,rk := ?_,ri := ?_,js := h.js.ro ((Ro.refl _).app _) }
  · rcases h.rk with e | ⟨q,h1,h2,h3,h4⟩
    · exact .inl e
    · exact .inr ⟨q,h1,h2,h3,at_old h4 _⟩
  · rcases h.ri with e | ⟨q,h1,h2,h3,h4⟩
    · exact .inl e
    · exact .inr ⟨q,h1,h2,h3,at_old h4 _⟩
theorem AS.call (h : AS K s bs p d a n f w k u pos yk y Ks Ls Js t b) {a' n' : Nat} {f' w' : Int} {b' : List Res} (g : KpP p (pcl s a' n' f' w') 53 true b b') : AS K s bs p d a' n' f' w' k u pos yk y Ks Ls Js t b' := by
  have hpl := h.pl
  refine { h with kp := h.kp.trans g,b0 := g.at h.b0 (by omega),b1 := g.at h.b1 (by omega),b2 := g.at h.b2 (by omega),rk := ?_,ri := ?_,js := h.js.ro (g.ro h.pp) }
  · rcases h.rk with e | ⟨q,h1,h2,h3,h4⟩
    · exact .inl e
    · exact .inr ⟨q,h1,h2,h3,g.at h4 (by omega)⟩
  · rcases h.ri with e | ⟨q,h1,h2,h3,h4⟩
    · exact .inl e
    · exact .inr ⟨q,h1,h2,h3,g.at h4 (by omega)⟩
theorem AS.out {a0 : Nat} {f0 : Int} (h : AS K s bs p d a n f w k u pos yk y Ks Ls Js t b) (h1 : a0 ≤ a) (h2 : a ≤ s.length) (h3 : n ≤ 20001) (h4 : f = 0 → n ≤ 20000 ∧ f0 = 0) (hs : s.length ≤ 1000000) (hL : Js.length ≤ s.length + 410) (hK : Ks.length ≤ s.length + 410) (X : Res) :
    bs.length ≤ (b.set bs.length X).length ∧ POut s p a0 f0 bs (.agg [.int .i64 K,.str [],yk,y]) (dimB bs.length (b.set bs.length X)) := by
  have hpl := h.pl
  have hkp := h.kp.setN (i := bs.length) (by omega) (by omega) X
  have hro : Ro b (dimB bs.length (b.set bs.length X)) := (AS.setp.ro_p h.b0 X).trans (dimB_dim hkp.1).ro
  have hLL := h.js.len
  refine ⟨hkp.1,a,n,f,w,h1,h2,h3,h4,hkp.dimB hpl,.mk K [] Ks Js,⟨K,[],yk,y⟩,rfl,TJ.mk' rfl rfl (by simp [Jv.t]) ?_ (by simp only [Jv.K]; omega) (fun x hx => by have := h.kb x hx; omega) (by simp only [Jv.L]; omega) ⟨Ls,?_,h.js.ro hro⟩,?_⟩
  · rcases h.rk with ⟨rfl,rfl⟩ | ⟨q,g1,rfl,g3,g4⟩
    · exact .inl ⟨rfl,rfl⟩
    · exact .inr ⟨q,rfl,by rw [dimB_at (by omega) (get_setN g4 (by omega) _)]; rfl⟩
  · rcases h.ri with ⟨rfl,rfl⟩ | ⟨q,g1,rfl,g3,g4⟩
    · exact .inl ⟨rfl,rfl⟩
    · exact .inr ⟨q,rfl,by rw [dimB_at (by omega) (get_setN g4 (by omega) _)]; rfl⟩
  · rw [JB]
    exact ⟨by simp,hK,h.kb,hL,h.jb⟩
theorem AS.ones (h : AS K s bs p d a n f w k u pos yk y Ks Ls Js t b) : (one yk && one y) = true := by
  rcases h.rk with ⟨rfl,-⟩ | ⟨q,-,rfl,-⟩ <;> rcases h.ri with ⟨rfl,-⟩ | ⟨q,-,rfl,-⟩ <;> rfl
theorem AS.oney (h : AS K s bs p d a n f w k u pos yk y Ks Ls Js t b) : one y = true := by
  rcases h.ri with ⟨rfl,-⟩ | ⟨q,-,rfl,-⟩ <;> rfl
theorem AS.onek (h : AS K s bs p d a n f w k u pos yk y Ks Ls Js t b) : one yk = true := by
  rcases h.rk with ⟨rfl,-⟩ | ⟨q,-,rfl,-⟩ <;> rfl
theorem ro_tt {b : List Res} {q : Nat} {c : List SV} {e z n : Nat} (hq : b[q]? = some (.own c e z n true)) (X : Res) : Ro b (b.set q X) := (Ro.refl b).setT hq X
theorem AS.addN (h : AS K s bs p d a n f w k u pos yk .nils Ks [] Js t b) {j : Jv} {v : Tv} (hj : TJ b j v) (hjb : JB (s.length + 410) j) (X : Res) : AS K s bs p d a n f w k u pos yk (.o (b.length + 1) 1) Ks [v] (Js ++ [j]) t (b.set (bs.length + 1) (.cells [.int .i64 K,.str [],yk,.o (b.length + 1) 1] 25 true) ++ [X,.own (tv v) 25 4 1 true]) := by
  have hpl := h.pl
  have hl1 := (List.getElem?_eq_some_iff.1 h.b1).1
  have hro := (AS.setp.ro_p h.b1 (.cells [.int .i64 K,.str [],yk,.o (b.length + 1) 1] 25 true)).app [X,.own (tv v) 25 4 1 true]
  refine { h with kp := (h.kp.setN (by omega) (by omega) _).app _,b0 := at_old (get_setN h.b0 (by omega) _) _,b1 := get_setS hl1 _ _,b2 := at_old (get_setN h.b2 (by omega) _) _,rk := ?_,ri := .inr ⟨b.length + 1,by simp,rfl,by omega,?_⟩,js := ?_,jb := JBs.snoc hjb h.jb }
  · rcases h.rk with e | ⟨q,h1,h2,h3,h4⟩
    · exact .inl e
    · exact .inr ⟨q,h1,h2,h3,at_old (get_setN h4 (by omega) _) _⟩
  · rw [app_atL (by simp)]; simp
  · refine (h.js.ro hro).app (L2 := [j]) (Ls2 := [v]) ?_
    rw [TJs]
    exact ⟨v,[],rfl,hj.ro hro,by rw [TJs]⟩
theorem AS.addQ {q : Nat} (h : AS K s bs p d a n f w k u pos yk (.o q Ls.length) Ks Ls Js t b) (hq : bs.length + 2 < q) (hL : 0 < Ls.length) (hbq : b[q]? = some (.own (Ls.flatMap tv) 25 4 Ls.length true)) {j : Jv} {v : Tv} (hj : TJ b j v) (hjb : JB (s.length + 410) j) (X : Res) : AS K s bs p d a n f w k u pos yk (.o (b.length + 1) (Ls.length + 1)) Ks (Ls ++ [v]) (Js ++ [j]) t ((b.set q .gone).set (bs.length + 1) (.cells [.int .i64 K,.str [],yk,.o (b.length + 1) (Ls.length + 1)] 25 true) ++ [X,.own (Ls.flatMap tv ++ tv v) 25 4 (Ls.length + 1) true]) := by
  have hpl := h.pl
  have hb1 := get_setN h.b1 (show q ≠ bs.length + 1 by omega) .gone
  have hl1 := (List.getElem?_eq_some_iff.1 hb1).1
  have hl2 := (List.getElem?_eq_some_iff.1 h.b1).1
  have hro := ((ro_tt hbq .gone).trans (AS.setp.ro_p hb1 (.cells [.int .i64 K,.str [],yk,.o (b.length + 1) (Ls.length + 1)] 25 true))).app [X,.own (Ls.flatMap tv ++ tv v) 25 4 (Ls.length + 1) true]
  refine { h with kp := ((h.kp.setN (by omega) (by omega) _).setN (by omega) (by omega) _).app _,b0 := at_old (get_setN (get_setN h.b0 (by omega) _) (by omega) _) _,b1 := get_setS hl1 _ _,b2 := at_old (get_setN (get_setN h.b2 (by omega) _) (by omega) _) _,rk := ?_,ri := .inr ⟨b.length + 1,by simp,by simp,by omega,?_⟩,js := ?_,jb := JBs.snoc hjb h.jb }
  · rcases h.rk with e | ⟨q',h1,h2,h3,h4⟩
    · exact .inl e
    · refine .inr ⟨q',h1,h2,h3,at_old (get_setN (get_setN h4 ?_ _) (by omega) _) _⟩
      rintro rfl
      rw [h4] at hbq
      simp at hbq
  · rw [app_atL (by simp)]; simp
  · refine (h.js.ro hro).app (L2 := [j]) (Ls2 := [v]) ?_
    rw [TJs]
    exact ⟨v,[],rfl,hj.ro hro,by rw [TJs]⟩
theorem AS.init {a0 n0 : Nat} {f0 w0 : Int} (hp : bs[p]? = some (pbox s a0 n0 f0 w0)) (hu : u.length ≤ s.length) (h0 : lk 0 t = some (.p p 0)) (h1 : lk 1 t = some (.int .i64 d)) (h4 : lk 4 t = some (.p bs.length 0)) (h5 : lk 5 t = some (.p (bs.length + 1) 0)) (h6 : lk 6 t = some (.p (bs.length + 2) 0)) :
    AS K s bs p d a n f w k u pos .nils .nils [] [] [] t ((bs ++ ([.cells zv 25 true,.cells [.int .i64 K,.str [],.nils,.nils] 25 true] : List Res)).set p (pbox s a n f w) ++ [.cells (tok k u pos) 56 true]) := by
  have hpl := (List.getElem?_eq_some_iff.1 hp).1
  have hk0 := KpP.of (p := p) hp (Kp.refl bs)
  refine ⟨h0,h1,h4,h5,h6,hpl,((hk0.app _).set _ _ _).app _,at_old (get_setN (app_at0 _ _) (by omega) _) _,at_old (get_setN (app_at _ _ 1) (by omega) _) _,?_,.inl ⟨rfl,rfl⟩,.inl ⟨rfl,rfl⟩,by rw [TJs],by rw [JBs]; trivial,by simp,hu⟩
  exact app_atL (n := bs.length + 2) (by simp) _ 0
def muP (p : Nat) (σ : St) : Nat := match σ.b[p]? with
  | some (.cells [.str s,.int _ a,_,.int _ f,_] _ _) => if f = 0 then s.length - a.toNat + 1 else 0
  | _ => 0
theorem AS.mu (h : AS K s bs p d a n f w k u pos yk y Ks Ls Js t b) : muP p ⟨t',b⟩ = if f = 0 then s.length - a + 1 else 0 := by
  have := h.pp
  unfold pbox pcl at this
  simp [muP,this]
end
end Go.Proofs.YtejfjmcjicpodaaGreatDoor
/- ref14's parser: array. -/
set_option linter.all false
set_option maxRecDepth 20000
namespace Go.Proofs.YtejfjmcjicpodaaGreatDoor
open Go Vc Go.RowKit Wf
set_option linter.unusedSimpArgs false
def arrT6 : OT := (.pur 0 (.pur 2 (.pur 4 (.alt (.one 1 (.one 3 (.one 5 (.one 6 (.one 7 (.pur 8 (.one 9 .leaf))))))) (.one 3 (.alt (.one 1 (.one 5 (.one 6 (.one 7 (.pur 8 (.one 9 .leaf)))))) (.one 5 (.alt (.one 1 (.one 6 (.one 7 (.pur 8 (.one 9 .leaf))))) (.one 6 (.one 1 (.one 7 (.pur 8 (.one 9 .leaf)))))))))))))
def AI (s : Bytes) (bs : List Res) (p d a0 : Nat) (f0 : Int) (σ : St) : Prop := ∃ (a n : Nat) (f w k : Int) (u : Bytes) (pos : Int) (y : SV) (Ls : List Tv) (Js : List Jv),AS 6 s bs p d a n f w k u pos .nils y [] Ls Js σ.t σ.b ∧ a0 ≤ a ∧ a ≤ s.length ∧ n ≤ 20001 ∧ (f = 0 → n ≤ 20000 ∧ f0 = 0) ∧ Js.length + (if f = 0 then s.length - a + 1 else 0) ≤ s.length + 1
set_option maxHeartbeats 16000000 in
theorem sc_r14_array {s : Bytes} (hs : s.length ≤ 1000000) {d : Nat} (hV : VlOK s d) : RdOK s 57 d := by
  intro bs p a0 n0 f0 w0 hp ha hn hfn
  refine SC.dimAll ?_
  have hpl := (List.getElem?_eq_some_iff.1 hp).1
  have hk0 := KpP.of (p := p) hp (Kp.refl bs)
  refine sc_ofP (fun n => if n = 6 then .all arrT6 else .ord []) 3000 Tryz.func57 rfl Tryz.ntmps57 Tryz.results57 Tryz.call57 (by simp) (fun β β' hb => concL_within bs.length _ (by simp [within,within.withinL,hpl]) β β' hb) ?_
  obtain ⟨k,u,pos,a,f,w,g1,g2,g3,g4,hnx⟩ := sx_r14_next s (by omega) a0 n0 f0 w0 ha
  refine vcS_cutS 2900 (fun σ => lk 0 σ.t = some (.p p 0) ∧ lk 1 σ.t = some (.int .i64 d) ∧ lk 4 σ.t = some (.p bs.length 0) ∧ σ.b = bs ++ [.cells zv 25 true]) ?_ (fun k' hk' => ?_)
  rotate_left
  · simp only [lawG,↓Xn,↓Xo,↓Xg,↓Xd,↓Xe,↓Xf,Tryz.VΓ,Tryz.Γs,Xp,Xi,Nat.reduceAdd,Nat.reduceSub,Nat.reduceLT,Nat.reduceLeDiff,reduceIte,reduceCtorEq,Nat.reduceEqDiff,implies_true,forall_const,lawV,lawA,beq_self_eq_true,bne_self_eq_false,Int.reduceBEq,Int.reduceBNe,Int.reduceLT,Int.reduceLE]
    exact hk' _ _ ⟨rfl,rfl,rfl,rfl⟩
  rintro m ⟨t,b⟩ ⟨h0,h1,h4,rfl⟩
  simp only at h0 h1 h4
  refine vcS_cutS 2800 (fun σ => lk 0 σ.t = some (.p p 0) ∧ lk 1 σ.t = some (.int .i64 d) ∧ lk 4 σ.t = some (.p bs.length 0) ∧ lk 5 σ.t = some (.p (bs.length + 1) 0) ∧ σ.b = bs ++ [.cells zv 25 true,.cells [.int .i64 6,.str [],.nils,.nils] 25 true]) ?_ (fun k' hk' => ?_)
  rotate_left
  · simp only [lawG,↓Xn,↓Xo,↓Xg,↓Xd,↓Xe,↓Xf,Tryz.VΓ,Tryz.Γs,Xp,Xi,Nat.reduceAdd,Nat.reduceSub,Nat.reduceLT,Nat.reduceLeDiff,reduceIte,reduceCtorEq,Nat.reduceEqDiff,implies_true,forall_const,lawV,lawA,beq_self_eq_true,bne_self_eq_false,Int.reduceBEq,Int.reduceBNe,Int.reduceLT,Int.reduceLE,h0,h1,h4]
    exact hk' _ _ ⟨by simp [lk,h0],by simp [lk,h1],by simp [lk,h4],rfl,rfl⟩
  rintro m ⟨t,b⟩ ⟨h0,h1,h4,h5,rfl⟩
  simp only at h0 h1 h4 h5
  refine vcS_cutS 2700 (fun σ => AS 6 s bs p d a n0 f w k u pos .nils .nils [] [] [] σ.t σ.b) ?_ (fun k' hk' => ?_)
  rotate_left
  · have hn' := hnx (bs ++ [.cells zv 25 true,.cells [.int .i64 6,.str [],.nils,.nils] 25 true]) p (at_old hp _)
    simp only [lawG,↓Xn,↓Xo,↓Xg,↓Xd,↓Xe,↓Xf,Tryz.VΓ,Tryz.Γs,Xp,Xi,Nat.reduceAdd,Nat.reduceSub,Nat.reduceLT,Nat.reduceLeDiff,reduceIte,reduceCtorEq,Nat.reduceEqDiff,implies_true,forall_const,lawV,lawA,beq_self_eq_true,bne_self_eq_false,Int.reduceBEq,Int.reduceBNe,Int.reduceLT,Int.reduceLE,h0,h1,h4,h5]
    refine callV_sc hn' ?_
    rintro r b ⟨rfl,rfl⟩
    unfold tok
    simp only [lawG,↓Xn,↓Xo,↓Xg,↓Xd,↓Xe,↓Xf,Tryz.VΓ,Tryz.Γs,Xp,Xi,Nat.reduceAdd,Nat.reduceSub,Nat.reduceLT,Nat.reduceLeDiff,reduceIte,reduceCtorEq,Nat.reduceEqDiff,implies_true,forall_const,lawV,lawA,beq_self_eq_true,bne_self_eq_false,Int.reduceBEq,Int.reduceBNe,Int.reduceLT,Int.reduceLE,h0,h1,h4,h5]
    exact hk' _ _ (AS.init hp g3 (by simp [lk,h0]) (by simp [lk,h1]) (by simp [lk,h4]) (by simp [lk,h5]) (by simp [lk]))
  clear h0 h1 h4 h5
  rintro m ⟨t,b⟩ h
  simp only at h
  refine vcS_cutS 2600 (fun σ => AS 6 s bs p d a n0 f w k u pos .nils .nils [] [] [] σ.t σ.b) ?_ (fun k' hk' => ?_)
  rotate_left
  · have i1 := p_r14_is k u pos [93]
    have hb2 := h.b2
    (have hones := (h).oney
     have hb0 := (h).b0
     have hb1 := (h).b1
     have hl0 := (List.getElem?_eq_some_iff.1 hb0).1
     have hg0 : ∀ X,(b.set bs.length X)[bs.length]? = some X := fun X => List.getElem?_set_self hl0
     have m0 := (h).l0
     have m4 := (h).l4
     have m5 := (h).l5
     have m6 := (h).l6
     unfold zv at hb0)
    unfold tok at i1 hb2
    simp only [lawG,↓Xn,↓Xo,↓Xg,↓Xd,↓Xe,↓Xf,Tryz.VΓ,Tryz.Γs,Xp,Xi,Nat.reduceAdd,Nat.reduceSub,Nat.reduceLT,Nat.reduceLeDiff,reduceIte,reduceCtorEq,Nat.reduceEqDiff,implies_true,forall_const,lawV,lawA,beq_self_eq_true,bne_self_eq_false,Int.reduceBEq,Int.reduceBNe,Int.reduceLT,Int.reduceLE,m6,hb2]
    refine callV_pc i1 ?_
    cases c1 : (k == 2 && u == [93])
    · simp only [lawG,↓Xn,↓Xo,↓Xg,↓Xd,↓Xe,↓Xf,Tryz.VΓ,Tryz.Γs,Xp,Xi,Nat.reduceAdd,Nat.reduceSub,Nat.reduceLT,Nat.reduceLeDiff,reduceIte,reduceCtorEq,Nat.reduceEqDiff,implies_true,forall_const,lawV,lawA,beq_self_eq_true,bne_self_eq_false,Int.reduceBEq,Int.reduceBNe,Int.reduceLT,Int.reduceLE]
      exact hk' _ _ (h.mv (by simp [SL,lk]))
    · simp only [lawG,↓Xn,↓Xo,↓Xg,↓Xd,↓Xe,↓Xf,Tryz.VΓ,Tryz.Γs,Xp,Xi,Nat.reduceAdd,Nat.reduceSub,Nat.reduceLT,Nat.reduceLeDiff,reduceIte,reduceCtorEq,Nat.reduceEqDiff,implies_true,forall_const,lawV,lawA,beq_self_eq_true,bne_self_eq_false,Int.reduceBEq,Int.reduceBNe,Int.reduceLT,Int.reduceLE,m0,m4,m5,m6,hb1,hg0,hb0,hones]
      exact h.out g1 g2 hn (fun e => ⟨hfn (g4 e).1,(g4 e).1⟩) hs (by simp) (by simp) _
  clear h
  rintro m ⟨t,b⟩ h
  simp only at h
  refine vcS_cutS 2500 (AI s bs p d a0 f0) ?_ (fun k' hk' => ?_)
  rotate_left
  · have h0' : AI s bs p d a0 f0 ⟨t,b⟩ := ⟨a,n0,f,w,k,u,pos,.nils,[],[],h,g1,g2,hn,fun e => ⟨hfn (g4 e).1,(g4 e).1⟩,by simp; split <;> omega⟩
    simp only [lawG,↓Xn,↓Xo,↓Xg,↓Xd,↓Xe,↓Xf,Tryz.VΓ,Tryz.Γs,Xp,Xi,Nat.reduceAdd,Nat.reduceSub,Nat.reduceLT,Nat.reduceLeDiff,reduceIte,reduceCtorEq,Nat.reduceEqDiff,implies_true,forall_const,lawV,lawA,beq_self_eq_true,bne_self_eq_false,Int.reduceBEq,Int.reduceBNe,Int.reduceLT,Int.reduceLE]
    refine loopV_mk (AI s bs p d a0 f0) (muP p) h0' ?_
    clear h h0' g1 g2 g3 g4 hnx
    clear a f w k u pos
    rintro ⟨t,b⟩ ⟨a,n,f,w,k,u,pos,y,Ls,Js,h,e1,e2,e3,e4,e5⟩
    simp only at h
    rw [h.mu]
    have hbp := h.pp
    have hb2 := h.b2
    (have hones := (h).oney
     have hb0 := (h).b0
     have hb1 := (h).b1
     have hl0 := (List.getElem?_eq_some_iff.1 hb0).1
     have hg0 : ∀ X,(b.set bs.length X)[bs.length]? = some X := fun X => List.getElem?_set_self hl0
     have m0 := (h).l0
     have m4 := (h).l4
     have m5 := (h).l5
     have m6 := (h).l6
     unfold zv at hb0)
    unfold pbox pcl at hbp
    by_cases hf : f = 0
    rotate_left
    · have hb : (f == 0) = false := by simp [hf]
      simp only [lawG,↓Xn,↓Xo,↓Xg,↓Xd,↓Xe,↓Xf,Tryz.VΓ,Tryz.Γs,Xp,Xi,Nat.reduceAdd,Nat.reduceSub,Nat.reduceLT,Nat.reduceLeDiff,reduceIte,reduceCtorEq,Nat.reduceEqDiff,implies_true,forall_const,lawV,lawA,beq_self_eq_true,bne_self_eq_false,Int.reduceBEq,Int.reduceBNe,Int.reduceLT,Int.reduceLE,m0,m4,m5,m6,hbp,hb]
      exact hk' _ _ ⟨a,n,f,w,k,u,pos,y,Ls,Js,h.mv (by simp [SL,lk]),e1,e2,e3,e4,e5⟩
    subst hf
    have m1 := h.l1
    simp only [lawG,↓Xn,↓Xo,↓Xg,↓Xd,↓Xe,↓Xf,Tryz.VΓ,Tryz.Γs,Xp,Xi,Nat.reduceAdd,Nat.reduceSub,Nat.reduceLT,Nat.reduceLeDiff,reduceIte,reduceCtorEq,Nat.reduceEqDiff,implies_true,forall_const,lawV,lawA,beq_self_eq_true,bne_self_eq_false,Int.reduceBEq,Int.reduceBNe,Int.reduceLT,Int.reduceLE,m0,m4,m5,m6,hbp]
    refine regV_mkG (fun σ => ∃ (a1 n1 : Nat) (f1 w1 : Int) (y' : SV) (Ls' : List Tv) (Js' : List Jv),AS 6 s bs p d a1 n1 f1 w1 k u pos .nils y' [] Ls' Js' σ.t σ.b ∧ a ≤ a1 ∧ a1 ≤ s.length ∧ n1 ≤ 20001 ∧ (f1 = 0 → n1 ≤ 20000) ∧ Js'.length = Js.length + 1) (by kernel_rfl) (fun E' k' => ?_) ?_
    · have hcall := hV b p a n 0 w k u pos h.pp e2 e3 (fun e => (e4 e).1) h.ul
      unfold tok at hb2 hcall
      simp only [lawG,↓Xn,↓Xo,↓Xg,↓Xd,↓Xe,↓Xf,Tryz.VΓ,Tryz.Γs,Xp,Xi,Nat.reduceAdd,Nat.reduceSub,Nat.reduceLT,Nat.reduceLeDiff,reduceIte,reduceCtorEq,Nat.reduceEqDiff,implies_true,forall_const,lawV,lawA,beq_self_eq_true,bne_self_eq_false,Int.reduceBEq,Int.reduceBNe,Int.reduceLT,Int.reduceLE,arrT6,m0,m1,m4,m5,m6,hbp,hb1,hb2]
      refine ⟨?_,?_,?_⟩
      all_goals
        refine callV_sc hcall ?_
        rintro r b' ⟨a1,n1,f1,w1,q1,q2,q3,q4,gk,j,v,rfl,hj,hjb⟩
        have h' := h.call gk
        have hb1' := h'.b1
        have hl1' := (List.getElem?_eq_some_iff.1 hb1').1
        obtain ⟨-,-,v3,v4⟩ := hj.tin
        have ho : (one v.xk && one v.xi) = true := by rw [v3,v4]; rfl
        have hset : ∀ (l : List Res) X,(b' ++ l).set (bs.length + 1) X = b'.set (bs.length + 1) X ++ l := fun l X => app_setL hl1' l X
        unfold tv
        rcases h'.ri with ⟨rfl,rfl⟩ | ⟨q,hL0,rfl,hq,hbq⟩
        · simp only [lawG,↓Xn,↓Xo,↓Xg,↓Xd,↓Xe,↓Xf,Tryz.VΓ,Tryz.Γs,Xp,Xi,Nat.reduceAdd,Nat.reduceSub,Nat.reduceLT,Nat.reduceLeDiff,reduceIte,reduceCtorEq,Nat.reduceEqDiff,implies_true,forall_const,lawV,lawA,beq_self_eq_true,bne_self_eq_false,Int.reduceBEq,Int.reduceBNe,Int.reduceLT,Int.reduceLE,hb1',at_old hb1',hset,m0,m4,m5,m6,ho]
          have hA := h'.addN hj hjb (.own (tv v) 25 4 1 true)
          have hlen : (Js ++ [j]).length = Js.length + 1 := by simp
          repeat' first
            | exact ⟨by omega,⟨by unfold maxLen; omega,by omega⟩,a1,n1,f1,w1,_,_,_,hA.mv (by simp [SL,lk]),q1,q2,q3,fun e => (q4 e).1,hlen⟩
            | refine And.intro ?_ ?_
        · have hsq : ∀ (l : List Res) X,(b' ++ l).set q X = b'.set q X ++ l := fun l X => app_setL (List.getElem?_eq_some_iff.1 hbq).1 l X
          have hset2 : ∀ (l : List Res) Y X,(b'.set q Y ++ l).set (bs.length + 1) X = (b'.set q Y).set (bs.length + 1) X ++ l := fun l Y X => app_setL (by simpa using hl1') l X
          have hbq1 := fun Y => at_old (get_setN hb1' (show q ≠ bs.length + 1 by omega) Y)
          simp only [lawG,↓Xn,↓Xo,↓Xg,↓Xd,↓Xe,↓Xf,Tryz.VΓ,Tryz.Γs,Xp,Xi,Nat.reduceAdd,Nat.reduceSub,Nat.reduceLT,Nat.reduceLeDiff,reduceIte,reduceCtorEq,Nat.reduceEqDiff,implies_true,forall_const,lawV,lawA,beq_self_eq_true,bne_self_eq_false,Int.reduceBEq,Int.reduceBNe,Int.reduceLT,Int.reduceLE,hb1',at_old hb1',at_old hbq,hset,hsq,hset2,hbq1,m0,m4,m5,m6,ho]
          have hA := h'.addQ hq hL0 hbq hj hjb (.own (tv v) 25 4 1 true)
          have hlen : (Js ++ [j]).length = Js.length + 1 := by simp
          have hLJ := h'.js.len
          repeat' first
            | exact ⟨by omega,⟨by unfold maxLen; omega,by omega⟩,a1,n1,f1,w1,_,_,_,hA.mv (by simp [SL,lk]),q1,q2,q3,fun e => (q4 e).1,hlen⟩
            | refine And.intro ?_ ?_
    clear h hb2 hbp hones hb0 hb1 hl0 hg0 m0 m1 m4 m5 m6
    rintro ⟨t,b⟩ ⟨a1,n1,f1,w1,y',Ls',Js',h,q1,q2,q3,q4,q5⟩
    simp only at h
    have e4' : f1 = 0 → f0 = 0 := fun _ => (e4 rfl).2
    clear e4
    have e5' : Js'.length + (s.length - a) ≤ s.length + 1 := by simp at e5; omega
    obtain ⟨k2,u2,pos2,a2,f2,w2,r1,r2,r3,r4,hnx⟩ := sx_r14_next s (by omega) a1 n1 f1 w1 q2
    refine vcS_cutS 2400 (fun σ => AS 6 s bs p d a2 n1 f2 w2 k2 u2 pos2 .nils y' [] Ls' Js' σ.t σ.b) ?_ (fun k' hk' => ?_)
    rotate_left
    · have hn' := hnx b p h.pp
      have h2 := h.setp a2 n1 f2 w2
      have hb2 := h2.b2
      have hA := h2.setk k2 pos2 r3
      (have hones := (h).oney
       have hb0 := (h).b0
       have hb1 := (h).b1
       have hl0 := (List.getElem?_eq_some_iff.1 hb0).1
       have hg0 : ∀ X,(b.set bs.length X)[bs.length]? = some X := fun X => List.getElem?_set_self hl0
       have m0 := (h).l0
       have m4 := (h).l4
       have m5 := (h).l5
       have m6 := (h).l6
       unfold zv at hb0)
      unfold tok at hn' hb2 hA
      simp only [lawG,↓Xn,↓Xo,↓Xg,↓Xd,↓Xe,↓Xf,Tryz.VΓ,Tryz.Γs,Xp,Xi,Nat.reduceAdd,Nat.reduceSub,Nat.reduceLT,Nat.reduceLeDiff,reduceIte,reduceCtorEq,Nat.reduceEqDiff,implies_true,forall_const,lawV,lawA,beq_self_eq_true,bne_self_eq_false,Int.reduceBEq,Int.reduceBNe,Int.reduceLT,Int.reduceLE,m0,m4,m5,m6]
      refine callV_sc hn' ?_
      rintro r b' ⟨rfl,rfl⟩
      simp only [lawG,↓Xn,↓Xo,↓Xg,↓Xd,↓Xe,↓Xf,Tryz.VΓ,Tryz.Γs,Xp,Xi,Nat.reduceAdd,Nat.reduceSub,Nat.reduceLT,Nat.reduceLeDiff,reduceIte,reduceCtorEq,Nat.reduceEqDiff,implies_true,forall_const,lawV,lawA,beq_self_eq_true,bne_self_eq_false,Int.reduceBEq,Int.reduceBNe,Int.reduceLT,Int.reduceLE,m0,m4,m5,m6,hb2]
      exact hk' _ _ (hA.mv (by simp [SL,lk]))
    clear h
    rintro m ⟨t,b⟩ h
    simp only at h
    refine vcS_cutS 2300 (fun σ => AS 6 s bs p d a2 n1 f2 w2 k2 u2 pos2 .nils y' [] Ls' Js' σ.t σ.b) ?_ (fun k' hk' => ?_)
    rotate_left
    · have i1 := p_r14_is k2 u2 pos2 [93]
      have hb2 := h.b2
      (have hones := (h).oney
       have hb0 := (h).b0
       have hb1 := (h).b1
       have hl0 := (List.getElem?_eq_some_iff.1 hb0).1
       have hg0 : ∀ X,(b.set bs.length X)[bs.length]? = some X := fun X => List.getElem?_set_self hl0
       have m0 := (h).l0
       have m4 := (h).l4
       have m5 := (h).l5
       have m6 := (h).l6
       unfold zv at hb0)
      unfold tok at i1 hb2
      simp only [lawG,↓Xn,↓Xo,↓Xg,↓Xd,↓Xe,↓Xf,Tryz.VΓ,Tryz.Γs,Xp,Xi,Nat.reduceAdd,Nat.reduceSub,Nat.reduceLT,Nat.reduceLeDiff,reduceIte,reduceCtorEq,Nat.reduceEqDiff,implies_true,forall_const,lawV,lawA,beq_self_eq_true,bne_self_eq_false,Int.reduceBEq,Int.reduceBNe,Int.reduceLT,Int.reduceLE,m6,hb2]
      refine callV_pc i1 ?_
      cases c1 : (k2 == 2 && u2 == [93])
      · simp only [lawG,↓Xn,↓Xo,↓Xg,↓Xd,↓Xe,↓Xf,Tryz.VΓ,Tryz.Γs,Xp,Xi,Nat.reduceAdd,Nat.reduceSub,Nat.reduceLT,Nat.reduceLeDiff,reduceIte,reduceCtorEq,Nat.reduceEqDiff,implies_true,forall_const,lawV,lawA,beq_self_eq_true,bne_self_eq_false,Int.reduceBEq,Int.reduceBNe,Int.reduceLT,Int.reduceLE]
        exact hk' _ _ (h.mv (by simp [SL,lk]))
      · simp only [lawG,↓Xn,↓Xo,↓Xg,↓Xd,↓Xe,↓Xf,Tryz.VΓ,Tryz.Γs,Xp,Xi,Nat.reduceAdd,Nat.reduceSub,Nat.reduceLT,Nat.reduceLeDiff,reduceIte,reduceCtorEq,Nat.reduceEqDiff,implies_true,forall_const,lawV,lawA,beq_self_eq_true,bne_self_eq_false,Int.reduceBEq,Int.reduceBNe,Int.reduceLT,Int.reduceLE,m0,m4,m5,m6,hb1,hg0,hb0,hones]
        exact h.out (by omega) r2 q3 (fun e => ⟨q4 (r4 e).1,e4' (r4 e).1⟩) hs (by omega) (by simp) _
    clear h
    rintro m ⟨t,b⟩ h
    simp only at h
    refine vcS_cutS 2200 (fun σ => ∃ f3 w3 : Int,AS 6 s bs p d a2 n1 f3 w3 k2 u2 pos2 .nils y' [] Ls' Js' σ.t σ.b ∧ (f3 = 0 → f2 = 0 ∧ k2 = 2)) ?_ (fun k' hk' => ?_)
    rotate_left
    · have i1 := p_r14_is k2 u2 pos2 [44]
      have hb2 := h.b2
      have hbp := h.pp
      (have hones := (h).oney
       have hb0 := (h).b0
       have hb1 := (h).b1
       have hl0 := (List.getElem?_eq_some_iff.1 hb0).1
       have hg0 : ∀ X,(b.set bs.length X)[bs.length]? = some X := fun X => List.getElem?_set_self hl0
       have m0 := (h).l0
       have m4 := (h).l4
       have m5 := (h).l5
       have m6 := (h).l6
       unfold zv at hb0)
      unfold tok at i1 hb2
      have hst := sc_r14_stop h.pp pos2 140
      have hA := h.setp a2 n1 (stF f2 140) (stW f2 w2 pos2)
      unfold pbox pcl at hbp
      cases c0 : f2 == 0
      · simp only [lawG,↓Xn,↓Xo,↓Xg,↓Xd,↓Xe,↓Xf,Tryz.VΓ,Tryz.Γs,Xp,Xi,Nat.reduceAdd,Nat.reduceSub,Nat.reduceLT,Nat.reduceLeDiff,reduceIte,reduceCtorEq,Nat.reduceEqDiff,implies_true,forall_const,lawV,lawA,beq_self_eq_true,bne_self_eq_false,Int.reduceBEq,Int.reduceBNe,Int.reduceLT,Int.reduceLE,m0,m6,hb2,hbp,c0]
        exact hk' _ _ ⟨f2,w2,h.mv (by simp [SL,lk]),fun e => by rw [e] at c0; simp at c0⟩
      · simp only [lawG,↓Xn,↓Xo,↓Xg,↓Xd,↓Xe,↓Xf,Tryz.VΓ,Tryz.Γs,Xp,Xi,Nat.reduceAdd,Nat.reduceSub,Nat.reduceLT,Nat.reduceLeDiff,reduceIte,reduceCtorEq,Nat.reduceEqDiff,implies_true,forall_const,lawV,lawA,beq_self_eq_true,bne_self_eq_false,Int.reduceBEq,Int.reduceBNe,Int.reduceLT,Int.reduceLE,m0,m6,hb2,hbp,c0]
        refine callV_pc i1 ?_
        cases c1 : (k2 == 2 && u2 == [44])
        · simp only [lawG,↓Xn,↓Xo,↓Xg,↓Xd,↓Xe,↓Xf,Tryz.VΓ,Tryz.Γs,Xp,Xi,Nat.reduceAdd,Nat.reduceSub,Nat.reduceLT,Nat.reduceLeDiff,reduceIte,reduceCtorEq,Nat.reduceEqDiff,implies_true,forall_const,lawV,lawA,beq_self_eq_true,bne_self_eq_false,Int.reduceBEq,Int.reduceBNe,Int.reduceLT,Int.reduceLE,m0,m6,hb2,Bool.not_false]
          refine callV_sc hst ?_
          rintro r b' ⟨rfl,rfl⟩
          simp only [lawG,↓Xn,↓Xo,↓Xg,↓Xd,↓Xe,↓Xf,Tryz.VΓ,Tryz.Γs,Xp,Xi,Nat.reduceAdd,Nat.reduceSub,Nat.reduceLT,Nat.reduceLeDiff,reduceIte,reduceCtorEq,Nat.reduceEqDiff,implies_true,forall_const,lawV,lawA,beq_self_eq_true,bne_self_eq_false,Int.reduceBEq,Int.reduceBNe,Int.reduceLT,Int.reduceLE]
          exact hk' _ _ ⟨_,_,hA.mv (by simp [SL,lk]),fun e => absurd e (stF_ne (by decide))⟩
        · simp only [lawG,↓Xn,↓Xo,↓Xg,↓Xd,↓Xe,↓Xf,Tryz.VΓ,Tryz.Γs,Xp,Xi,Nat.reduceAdd,Nat.reduceSub,Nat.reduceLT,Nat.reduceLeDiff,reduceIte,reduceCtorEq,Nat.reduceEqDiff,implies_true,forall_const,lawV,lawA,beq_self_eq_true,bne_self_eq_false,Int.reduceBEq,Int.reduceBNe,Int.reduceLT,Int.reduceLE,m0,m6,hb2,Bool.not_true]
          simp only [Bool.and_eq_true] at c1
          exact hk' _ _ ⟨f2,w2,h.mv (by simp [SL,lk]),fun e => ⟨e,by simpa using c1.1⟩⟩
    clear h
    rintro m ⟨t,b⟩ ⟨f3,w3,h,r5⟩
    simp only at h
    obtain ⟨k4,u4,pos4,a4,f4,w4,z1,z2,z3,z4,hnx4⟩ := sx_r14_next s (by omega) a2 n1 f3 w3 r2
    have hn' := hnx4 b p h.pp
    have h2 := h.setp a4 n1 f4 w4
    have hb2 := h2.b2
    have hA := h2.setk k4 pos4 z3
    (have hones := (h).oney
     have hb0 := (h).b0
     have hb1 := (h).b1
     have hl0 := (List.getElem?_eq_some_iff.1 hb0).1
     have hg0 : ∀ X,(b.set bs.length X)[bs.length]? = some X := fun X => List.getElem?_set_self hl0
     have m0 := (h).l0
     have m4 := (h).l4
     have m5 := (h).l5
     have m6 := (h).l6
     unfold zv at hb0)
    unfold tok at hn' hb2 hA
    simp only [lawG,↓Xn,↓Xo,↓Xg,↓Xd,↓Xe,↓Xf,Tryz.VΓ,Tryz.Γs,Xp,Xi,Nat.reduceAdd,Nat.reduceSub,Nat.reduceLT,Nat.reduceLeDiff,reduceIte,reduceCtorEq,Nat.reduceEqDiff,implies_true,forall_const,lawV,lawA,beq_self_eq_true,bne_self_eq_false,Int.reduceBEq,Int.reduceBNe,Int.reduceLT,Int.reduceLE,m0,m4,m5,m6]
    refine callV_sc hn' ?_
    rintro r b' ⟨rfl,rfl⟩
    simp only [lawG,↓Xn,↓Xo,↓Xg,↓Xd,↓Xe,↓Xf,Tryz.VΓ,Tryz.Γs,Xp,Xi,Nat.reduceAdd,Nat.reduceSub,Nat.reduceLT,Nat.reduceLeDiff,reduceIte,reduceCtorEq,Nat.reduceEqDiff,implies_true,forall_const,lawV,lawA,beq_self_eq_true,bne_self_eq_false,Int.reduceBEq,Int.reduceBNe,Int.reduceLT,Int.reduceLE,m0,m4,m5,m6,hb2]
    have hprog : f4 = 0 → a < a4 := fun e => by
      have h1 := z4 e
      have h2 := r5 h1.1
      have h3 := r4 h2.1
      rcases h3.2 with h4 | h4
      · rw [h2.2] at h4; cases h4
      · omega
    have key : ∀ t',SL t t' → AI s bs p d a0 f0 ⟨t',(b.set p (pbox s a4 n1 f4 w4)).set (bs.length + 2) (.cells [.int .i64 k4,.str u4,.int .i64 pos4] 56 true)⟩ ∧ muP p ⟨t',(b.set p (pbox s a4 n1 f4 w4)).set (bs.length + 2) (.cells [.int .i64 k4,.str u4,.int .i64 pos4] 56 true)⟩ < s.length - a + 1 := by
      intro t' e
      rw [hA.mu]
      by_cases h4 : f4 = 0
      · have := hprog h4
        rw [if_pos h4]
        exact ⟨⟨a4,n1,f4,w4,k4,u4,pos4,y',Ls',Js',hA.mv e,by omega,z2,q3,fun e => ⟨q4 (r4 (r5 (z4 e).1).1).1,e4' (r4 (r5 (z4 e).1).1).1⟩,by rw [if_pos h4]; omega⟩,by omega⟩
      · rw [if_neg h4]
        exact ⟨⟨a4,n1,f4,w4,k4,u4,pos4,y',Ls',Js',hA.mv e,by omega,z2,q3,fun e => absurd e h4,by rw [if_neg h4]; omega⟩,by omega⟩
    exact key _ (by simp [SL,lk])
  clear h
  rintro m ⟨t,b⟩ ⟨a,n,f,w,k,u,pos,y,Ls,Js,h,e1,e2,e3,e4,e5⟩
  simp only at h
  (have hones := (h).oney
   have hb0 := (h).b0
   have hb1 := (h).b1
   have hl0 := (List.getElem?_eq_some_iff.1 hb0).1
   have hg0 : ∀ X,(b.set bs.length X)[bs.length]? = some X := fun X => List.getElem?_set_self hl0
   have m0 := (h).l0
   have m4 := (h).l4
   have m5 := (h).l5
   have m6 := (h).l6
   unfold zv at hb0)
  simp only [lawG,↓Xn,↓Xo,↓Xg,↓Xd,↓Xe,↓Xf,Tryz.VΓ,Tryz.Γs,Xp,Xi,Nat.reduceAdd,Nat.reduceSub,Nat.reduceLT,Nat.reduceLeDiff,reduceIte,reduceCtorEq,Nat.reduceEqDiff,implies_true,forall_const,lawV,lawA,beq_self_eq_true,bne_self_eq_false,Int.reduceBEq,Int.reduceBNe,Int.reduceLT,Int.reduceLE,m0,m4,m5,m6,hb1,hg0,hb0,hones]
  exact h.out e1 e2 e3 e4 hs (by omega) (by simp) _
end Go.Proofs.YtejfjmcjicpodaaGreatDoor
/- ref14.Get where the rows are still being made. -/
set_option linter.all false
set_option maxRecDepth 20000
namespace Go.Proofs.YtejfjmcjicpodaaGreatDoor
open Go Vc Go.RowKit Wf
set_option linter.unusedSimpArgs false
set_option maxHeartbeats 4000000 in
theorem sc_r14_GetR {bs : List Res} {yk y : SV} {Ks : List Bytes} {Ls : List Tv} {key : Bytes}
    (hk : (yk = .nils ∧ Ks = []) ∨ ∃ q,0 < Ks.length ∧ yk = .o q Ks.length ∧ bs[q]? = some (.own (Ks.map SV.str) 9 1 Ks.length true))
    (hi : (y = .nils ∧ Ls = []) ∨ ∃ q,0 < Ls.length ∧ y = .o q Ls.length ∧ bs[q]? = some (.own (Ls.flatMap tv) 25 4 Ls.length true))
    (hL : ∀ v ∈ Ls,TvIn bs.length v) (hKl : Ks.length ≤ 2000000) (hLl : Ls.length ≤ 2000000) :
    SC Tryz.V 42 [.agg [.int .i64 7,.str [],yk,y],.str key] bs (fun r b => ∃ (x : Tv) (ok : Bool),r = .tup [.agg (tv x),.bool ok] ∧ TvIn bs.length x ∧ Kp bs b) := by
  have hz : TvIn bs.length ⟨0,[],.nils,.nils⟩ := ⟨rfl,rfl,rfl,rfl⟩
  have v1 : within bs.length yk = true := by
    rcases hk with ⟨rfl,-⟩ | ⟨q,-,rfl,h⟩
    · rfl
    · have := (List.getElem?_eq_some_iff.1 h).1
      simp [within,this]
  have v2 : within bs.length y = true := by
    rcases hi with ⟨rfl,-⟩ | ⟨q,-,rfl,h⟩
    · rfl
    · have := (List.getElem?_eq_some_iff.1 h).1
      simp [within,this]
  have v3 : one yk = true := by rcases hk with ⟨rfl,-⟩ | ⟨q,-,rfl,-⟩ <;> rfl
  have v4 : one y = true := by rcases hi with ⟨rfl,-⟩ | ⟨q,-,rfl,-⟩ <;> rfl
  have hlk : ∀ e,lenS (.slice e) yk = some (.int .i64 Ks.length) := fun e => by
    rcases hk with ⟨rfl,rfl⟩ | ⟨q,-,rfl,h⟩ <;> rfl
  have hli : ∀ e,lenS (.slice e) y = some (.int .i64 Ls.length) := fun e => by
    rcases hi with ⟨rfl,rfl⟩ | ⟨q,-,rfl,h⟩ <;> rfl
  refine sc_of 3000 Tryz.func42 rfl Tryz.ntmps42 Tryz.results42 Tryz.call42 (by simp) (fun β β' hb => concL_within bs.length _ (by simp [within,within.withinL,v1,v2]) β β' hb) ?_
  simp only [lawG,↓Xn,↓Xo,↓Xg,↓Xd,↓Xe,↓Xf,Tryz.VΓ,Tryz.Γs,Xp,Xi,Nat.reduceAdd,Nat.reduceSub,Nat.reduceLT,Nat.reduceLeDiff,reduceIte,reduceCtorEq,Nat.reduceEqDiff,implies_true,forall_const,lawV,lawA,beq_self_eq_true,bne_self_eq_false,Int.reduceBEq,Int.reduceBNe,Int.reduceLT,Int.reduceLE,v3,v4,hlk]
  refine loopV_mk (fun σ => ∃ k : Nat,k ≤ Ks.length ∧ lk 1 σ.t = some (.str key) ∧ lk 2 σ.t = some (.p bs.length 0) ∧ lk 4 σ.t = some (.p (bs.length + 1) 0) ∧ lk 13 σ.t = some (.int .i64 Ks.length) ∧ lk 14 σ.t = some (.int .i64 k) ∧ σ.b = bs ++ [.cells [.int .i64 7,.str [],yk,y] 25 true,.cells [.int .i64 0,.str [],.nils,.nils] 25 true]) (fun σ => Ks.length - lkI 14 σ) ⟨0,by omega,rfl,rfl,rfl,rfl,rfl,rfl⟩ ?_
  rintro ⟨t,b⟩ ⟨k,hkk,h1,h2,h4,h13,h14,hb⟩
  simp only at h1 h2 h4 h13 h14 hb
  subst hb
  rw [lkI_eq h14]
  by_cases hlt : k < Ks.length
  · have hlt2 : decide ((k : Int) < Ks.length) = true := decide_eq_true (by omega)
    rcases hk with ⟨-,e40⟩ | ⟨i,-,rfl,hi1⟩
    · rw [e40] at hlt; exact absurd hlt (by simp)
    have hkt : (Ks.map SV.str)[k * 1]? = some (.str Ks[k]) := by simp [hlt]
    have hkl : (Ks.map SV.str).length = Ks.length := List.length_map ..
    cases hbe : Ks[k] == key
    rotate_left
    · by_cases hltL : k < Ls.length
      · have hlt3 : decide ((k : Int) < Ls.length) = true := decide_eq_true (by omega)
        rcases hi with ⟨-,e80⟩ | ⟨q,-,rfl,hq⟩
        · rw [e80] at hltL; simp at hltL
        have hu : List.take 4 (List.drop (k * 4) (Ls.flatMap tv)) = [.int .i64 Ls[k].k,.str Ls[k].t,Ls[k].xk,Ls[k].xi] := tv_at Ls k hltL
        have hul := tv_len Ls
        obtain ⟨x1,x2,x3,x4⟩ := hL Ls[k] (List.getElem_mem hltL)
        have hxo : (one Ls[k].xk && one Ls[k].xi) = true := by rw [x3,x4]; rfl
        simp only [lawG,↓Xn,↓Xo,↓Xg,↓Xd,↓Xe,↓Xf,Tryz.VΓ,Tryz.Γs,Xp,Xi,Nat.reduceAdd,Nat.reduceSub,Nat.reduceLT,Nat.reduceLeDiff,reduceIte,reduceCtorEq,Nat.reduceEqDiff,implies_true,forall_const,lawV,lawA,beq_self_eq_true,bne_self_eq_false,Int.reduceBEq,Int.reduceBNe,Int.reduceLT,Int.reduceLE,h1,h2,h4,h13,h14,hlt2,hlt3,at_old hi1,at_old hq,hkt,hu,hul,hxo,hli,hlk,hbe,Bool.and_true,Bool.and_self]
        (repeat (refine ⟨by first | omega | (unfold maxLen; omega),?_⟩))
        exact ⟨Ls[k],true,rfl,hL _ (List.getElem_mem hltL),(Kp.refl bs).app _⟩
      · have hlt3 : decide ((k : Int) < Ls.length) = false := decide_eq_false (by omega)
        simp only [lawG,↓Xn,↓Xo,↓Xg,↓Xd,↓Xe,↓Xf,Tryz.VΓ,Tryz.Γs,Xp,Xi,Nat.reduceAdd,Nat.reduceSub,Nat.reduceLT,Nat.reduceLeDiff,reduceIte,reduceCtorEq,Nat.reduceEqDiff,implies_true,forall_const,lawV,lawA,beq_self_eq_true,bne_self_eq_false,Int.reduceBEq,Int.reduceBNe,Int.reduceLT,Int.reduceLE,h1,h2,h4,h13,h14,hlt2,hlt3,at_old hi1,hkt,hli,hlk,hbe,Bool.and_true,Bool.and_self]
        (repeat (refine ⟨by first | omega | (unfold maxLen; omega),?_⟩))
        refine ⟨⟨k + 1,by omega,rfl⟩,?_⟩
        rw [lkI_eq (k := .i64) (n := (k : Int) + 1) rfl]; omega
    · simp only [lawG,↓Xn,↓Xo,↓Xg,↓Xd,↓Xe,↓Xf,Tryz.VΓ,Tryz.Γs,Xp,Xi,Nat.reduceAdd,Nat.reduceSub,Nat.reduceLT,Nat.reduceLeDiff,reduceIte,reduceCtorEq,Nat.reduceEqDiff,implies_true,forall_const,lawV,lawA,beq_self_eq_true,bne_self_eq_false,Int.reduceBEq,Int.reduceBNe,Int.reduceLT,Int.reduceLE,h1,h2,h4,h13,h14,hlt2,at_old hi1,hkt,hli,hlk,hbe,Bool.and_true,Bool.and_self]
      (repeat (refine ⟨by first | omega | (unfold maxLen; omega),?_⟩))
      refine ⟨⟨k + 1,by omega,rfl⟩,?_⟩
      rw [lkI_eq (k := .i64) (n := (k : Int) + 1) rfl]; omega
  · have hlt2 : decide ((k : Int) < Ks.length) = false := decide_eq_false (by omega)
    simp only [lawG,↓Xn,↓Xo,↓Xg,↓Xd,↓Xe,↓Xf,Tryz.VΓ,Tryz.Γs,Xp,Xi,Nat.reduceAdd,Nat.reduceSub,Nat.reduceLT,Nat.reduceLeDiff,reduceIte,reduceCtorEq,Nat.reduceEqDiff,implies_true,forall_const,lawV,lawA,beq_self_eq_true,bne_self_eq_false,Int.reduceBEq,Int.reduceBNe,Int.reduceLT,Int.reduceLE,h1,h2,h4,h13,h14,hlt2]
    exact ⟨⟨0,[],.nils,.nils⟩,false,rfl,hz,(Kp.refl bs).app _⟩
end Go.Proofs.YtejfjmcjicpodaaGreatDoor
