/- Texts of this claim, laid together: LnkB, LnkC, Fing, LnkD, TplP, TplQ, TplW, LnkE, AboutA, About, WorldM, WorldN, HeadW2, FetchW, FetchW2, FetchW3. -/
import Derived.Lib.IndexMore
import Derived.Lib.CountLaws
import Derived.Lib.Split
import Derived.Test.YtnmlimehgifadaaGreatDoorQ8
open And renaming intro → zTi
open List renaming getElem?_set_ne → zTj, getElem?_eq_some_iff → zTk, getElem?_set_self → zTl, length_nil → zTm, length_cons → zTn, length_append → zTu, nil_append → zTw, cons_append → zTx, flatMap_cons → zTA, map_cons → zTC, map_nil → zTD, mem_singleton → zTE, length_eq_zero_iff → zTF, mem_append → zTG, mem_cons → zTH
open Bool renaming not_true → zTo, false_eq_true → zTp, not_false → zTq, true_eq_false → zTs
open Int renaming cast_ofNat_Int → zTt
open Nat renaming le_refl → zTz, add_comm → zTJ, zero_add → zTK
open True renaming intro → zTL
set_option linter.all false
set_option maxHeartbeats 16000000
set_option maxRecDepth 20000
namespace Go.Proofs.YtnmlimehgifadaaGreatDoor
open Go Vc Go.RowKit Wf
def wS1:av:=.own [.str ([108,114,100,100]:List UInt8)] 9 1 1 true
def wS3:av:=.own [.str ([120]:List UInt8)] 9 1 1 true
def wS4:av:=.own [.str ([108,114,100,100]:List UInt8),.str ([120]:List UInt8)] 9 1 2 true
theorem MK {bs:List av}:SC Tryz.V 245 [.str ([108,114,100,100,32,120]:List UInt8)] bs (fun r b=>r=.o (bs.length+3) 2∧b=bs++[wS1,.gone,wS3,wS4]):=by
 have s0:PC Tryz.V 198 [.str ([108,114,100,100,32,120]:List UInt8),.int .i64 0] (.int .i64 0):=fO (a:=0) (b:=0) (jz.of (by decide)) (by simp)
 have s4:PC Tryz.V 198 [.str ([108,114,100,100,32,120]:List UInt8),.int .i64 4] (.int .i64 5):=fO (a:=4) (b:=5) (jz.of (by decide)) (by simp)
 have s6:PC Tryz.V 198 [.str ([108,114,100,100,32,120]:List UInt8),.int .i64 6] (.int .i64 6):=fO (a:=6) (b:=6) (jz.of (by decide)) (by simp)
 have k1:dS 32=true:=rfl
 have k2:dS 108=false:=rfl
 have k3:dS 114=false:=rfl
 have k4:dS 100=false:=rfl
 have k5:dS 120=false:=rfl
 have c6:((6:Nat):Int)=6:=rfl
 have bl:=sL
 have lw1:=jE ([108,114,100,100]:List UInt8) (by simp)
 have lw2:=jE ([120]:List UInt8) (by simp)
 rw[show lower ([108,114,100,100]:List UInt8)=([108,114,100,100]:List UInt8) by decide]at lw1
 rw[show lower ([120]:List UInt8)=([120]:List UInt8) by decide]at lw2
 refine bo 3000 Tryz.func245 rfl Tryz.ntmps245 Tryz.results245 Tryz.call245 (by simp) (ah bs.length _ (by simp[within,within.ax])) ?_
 refine dV ?_
 (refine aa (s0) ?_;refine dV ?_)
 refine az (fun σ=>lk 0 σ.t=some (.str ([108,114,100,100,32,120]:List UInt8))∧((lk 3 σ.t=some .aj∧lk 4 σ.t=some (.int .i64 0)∧σ.b=bs)∨(lk 3 σ.t=some (.o (bs.length+1) 1)∧lk 4 σ.t=some (.int .i64 5)∧σ.b=bs++[wS1,wS1])∨(lk 3 σ.t=some (.o (bs.length+3) 2)∧lk 4 σ.t=some (.int .i64 6)∧σ.b=bs++[wS1,.gone,wS3,wS4]))) (fun σ=>7 - fX 4 σ) ⟨rfl,.inl ⟨rfl,rfl,rfl⟩⟩ ?_
 rintro⟨t,b⟩ ⟨h0,⟨h3,h4,hb⟩|⟨h3,h4,hb⟩|⟨h3,h4,hb⟩⟩ <;> simp only at h0 h3 h4 hb <;> subst hb <;> rw[ao h4]
 ·simp only[cz,↓Xn,↓Xo,↓Xg,↓Xd,↓Xe,↓Xf,Tryz.VΓ,Tryz.Γs,Xp,Xi,Nat.reduceAdd,Nat.reduceSub,Nat.reduceLT,Nat.reduceLeDiff,reduceIte,reduceCtorEq,Nat.reduceEqDiff,implies_true,forall_const,cw,eb,h0,h3,h4,beq_self_eq_true,bne_self_eq_false,Int.reduceBEq,Int.reduceBNe,Int.reduceLT,Int.reduceLE,zTn,zTm,c6,decide_true,decide_false,zTs,zTp]
  (refine az (fun σ=>∃ k:Nat,0≤k∧k≤4∧lk 0 σ.t=some (.str ([108,114,100,100,32,120]:List UInt8))∧lk 3 σ.t=some .aj∧lk 4 σ.t=some (.int .i64 0)∧lk 5 σ.t=some (.int .i64 k)∧σ.b=b) (fun σ=>4 - fX 5 σ) ⟨0,by omega,by omega,h0,h3,h4,rfl,rfl⟩ ?_
   rintro⟨t2,b2⟩ ⟨k,hk,kg,h0,h3,h4,h5,hb⟩
   simp only at h0 h3 h4 h5 hb
   subst hb
   rw[ao h5])
  by_cases hke:k=4
  ·subst hke
   simp only[cz,↓Xn,↓Xo,↓Xg,↓Xd,↓Xe,↓Xf,Tryz.VΓ,Tryz.Γs,Xp,Xi,Nat.reduceAdd,Nat.reduceSub,Nat.reduceLT,Nat.reduceLeDiff,reduceIte,reduceCtorEq,Nat.reduceEqDiff,implies_true,forall_const,cw,eb,beq_self_eq_true,bne_self_eq_false,Int.reduceBEq,Int.reduceBNe,Int.reduceLT,Int.reduceLE,zTn,zTm,Nat.reduceAdd,zTt,decide_true,decide_false,zTs,zTp,Int.reduceLT,Int.reduceToNat,h0,h3,h4,h5]
   (refine aa (bl _) ?_;simp only[cz,↓Xn,↓Xo,↓Xg,↓Xd,↓Xe,↓Xf,Tryz.VΓ,Tryz.Γs,Xp,Xi,Nat.reduceAdd,Nat.reduceSub,Nat.reduceLT,Nat.reduceLeDiff,reduceIte,reduceCtorEq,Nat.reduceEqDiff,implies_true,forall_const,cw,eb,beq_self_eq_true,bne_self_eq_false,Int.reduceBEq,Int.reduceBNe,Int.reduceLT,Int.reduceLE,zTn,zTm,Nat.reduceAdd,zTt,decide_true,decide_false,zTs,zTp,Int.reduceLT,Int.reduceToNat,h0,h3,h4,h5,k1,zTo,List.take_succ_cons,List.take_zero,List.drop_zero])
   (refine aa (lw1) ?_;simp only[cz,↓Xn,↓Xo,↓Xg,↓Xd,↓Xe,↓Xf,Tryz.VΓ,Tryz.Γs,Xp,Xi,Nat.reduceAdd,Nat.reduceSub,Nat.reduceLT,Nat.reduceLeDiff,reduceIte,reduceCtorEq,Nat.reduceEqDiff,implies_true,forall_const,cw,eb,beq_self_eq_true,bne_self_eq_false,Int.reduceBEq,Int.reduceBNe,Int.reduceLT,Int.reduceLE,zTn,zTm,Nat.reduceAdd,zTt,decide_true,decide_false,zTs,zTp,Int.reduceLT,Int.reduceToNat,h0,h3,h4,h5])
   refine⟨by omega,⟨by unfold maxLen;omega,by omega⟩,?_⟩
   (refine aa (s4) ?_;simp only[cz,↓Xn,↓Xo,↓Xg,↓Xd,↓Xe,↓Xf,Tryz.VΓ,Tryz.Γs,Xp,Xi,Nat.reduceAdd,Nat.reduceSub,Nat.reduceLT,Nat.reduceLeDiff,reduceIte,reduceCtorEq,Nat.reduceEqDiff,implies_true,forall_const,cw,eb,beq_self_eq_true,bne_self_eq_false,Int.reduceBEq,Int.reduceBNe,Int.reduceLT,Int.reduceLE,zTn,zTm,Nat.reduceAdd,zTt,decide_true,decide_false,zTs,zTp,Int.reduceLT,Int.reduceToNat,h0,h3,h4,h5])
   exact⟨by(first|rfl|exact .inl rfl|exact .inr rfl|exact .inr (.inl rfl) | exact .inr (.inr rfl)),by rw[ao (k:=.i64) (n:=5) rfl];omega⟩
  ·obtain rfl|rfl|rfl|rfl:k=0∨k=1∨k=2∨k=3:=by omega
   all_goals
    simp only[cz,↓Xn,↓Xo,↓Xg,↓Xd,↓Xe,↓Xf,Tryz.VΓ,Tryz.Γs,Xp,Xi,Nat.reduceAdd,Nat.reduceSub,Nat.reduceLT,Nat.reduceLeDiff,reduceIte,reduceCtorEq,Nat.reduceEqDiff,implies_true,forall_const,cw,eb,beq_self_eq_true,bne_self_eq_false,Int.reduceBEq,Int.reduceBNe,Int.reduceLT,Int.reduceLE,zTn,zTm,Nat.reduceAdd,zTt,decide_true,decide_false,zTs,zTp,Int.reduceLT,Int.reduceToNat,h0,h3,h4,h5]
    (refine aa (bl _) ?_;simp only[cz,↓Xn,↓Xo,↓Xg,↓Xd,↓Xe,↓Xf,Tryz.VΓ,Tryz.Γs,Xp,Xi,Nat.reduceAdd,Nat.reduceSub,Nat.reduceLT,Nat.reduceLeDiff,reduceIte,reduceCtorEq,Nat.reduceEqDiff,implies_true,forall_const,cw,eb,beq_self_eq_true,bne_self_eq_false,Int.reduceBEq,Int.reduceBNe,Int.reduceLT,Int.reduceLE,zTn,zTm,Nat.reduceAdd,zTt,decide_true,decide_false,zTs,zTp,Int.reduceLT,Int.reduceToNat,h0,h3,h4,h5,k2,k3,k4,k5,zTq,Int.reduceAdd])
    first
     | exact⟨⟨1,by omega,by omega,rfl⟩,by rw[ao (k:=.i64) (n:=1) rfl];omega⟩
     | exact⟨⟨2,by omega,by omega,rfl⟩,by rw[ao (k:=.i64) (n:=2) rfl];omega⟩
     | exact⟨⟨3,by omega,by omega,rfl⟩,by rw[ao (k:=.i64) (n:=3) rfl];omega⟩
     | exact⟨⟨4,by omega,by omega,rfl⟩,by rw[ao (k:=.i64) (n:=4) rfl];omega⟩
 ·simp only[cz,↓Xn,↓Xo,↓Xg,↓Xd,↓Xe,↓Xf,Tryz.VΓ,Tryz.Γs,Xp,Xi,Nat.reduceAdd,Nat.reduceSub,Nat.reduceLT,Nat.reduceLeDiff,reduceIte,reduceCtorEq,Nat.reduceEqDiff,implies_true,forall_const,cw,eb,beq_self_eq_true,bne_self_eq_false,Int.reduceBEq,Int.reduceBNe,Int.reduceLT,Int.reduceLE,zTn,zTm,Nat.reduceAdd,zTt,decide_true,decide_false,zTs,zTp,Int.reduceLT,Int.reduceToNat,h0,h3,h4]
  (refine az (fun σ=>∃ k:Nat,5≤k∧k≤6∧lk 0 σ.t=some (.str ([108,114,100,100,32,120]:List UInt8))∧lk 3 σ.t=some (.o (bs.length+1) 1)∧lk 4 σ.t=some (.int .i64 5)∧lk 5 σ.t=some (.int .i64 k)∧σ.b=bs++[wS1,wS1]) (fun σ=>6 - fX 5 σ) ⟨5,by omega,by omega,h0,h3,h4,rfl,rfl⟩ ?_
   rintro⟨t2,b2⟩ ⟨k,hk,kg,h0,h3,h4,h5,hb⟩
   simp only at h0 h3 h4 h5 hb
   subst hb
   rw[ao h5])
  by_cases hke:k=6
  ·subst hke
   simp only[cz,↓Xn,↓Xo,↓Xg,↓Xd,↓Xe,↓Xf,Tryz.VΓ,Tryz.Γs,Xp,Xi,Nat.reduceAdd,Nat.reduceSub,Nat.reduceLT,Nat.reduceLeDiff,reduceIte,reduceCtorEq,Nat.reduceEqDiff,implies_true,forall_const,cw,eb,beq_self_eq_true,bne_self_eq_false,Int.reduceBEq,Int.reduceBNe,Int.reduceLT,Int.reduceLE,zTn,zTm,Nat.reduceAdd,zTt,decide_true,decide_false,zTs,zTp,Int.reduceLT,Int.reduceToNat,h0,h3,h4,h5,List.take_succ_cons,List.take_zero,List.drop_zero,wS1]
   (refine aa (lw2) ?_;simp only[cz,↓Xn,↓Xo,↓Xg,↓Xd,↓Xe,↓Xf,Tryz.VΓ,Tryz.Γs,Xp,Xi,Nat.reduceAdd,Nat.reduceSub,Nat.reduceLT,Nat.reduceLeDiff,reduceIte,reduceCtorEq,Nat.reduceEqDiff,implies_true,forall_const,cw,eb,beq_self_eq_true,bne_self_eq_false,Int.reduceBEq,Int.reduceBNe,Int.reduceLT,Int.reduceLE,zTn,zTm,Nat.reduceAdd,zTt,decide_true,decide_false,zTs,zTp,Int.reduceLT,Int.reduceToNat,h0,h3,h4,h5,wS1])
   refine⟨by omega,⟨by unfold maxLen;omega,by omega⟩,?_⟩
   (refine aa (s6) ?_;simp only[cz,↓Xn,↓Xo,↓Xg,↓Xd,↓Xe,↓Xf,Tryz.VΓ,Tryz.Γs,Xp,Xi,Nat.reduceAdd,Nat.reduceSub,Nat.reduceLT,Nat.reduceLeDiff,reduceIte,reduceCtorEq,Nat.reduceEqDiff,implies_true,forall_const,cw,eb,beq_self_eq_true,bne_self_eq_false,Int.reduceBEq,Int.reduceBNe,Int.reduceLT,Int.reduceLE,zTn,zTm,Nat.reduceAdd,zTt,decide_true,decide_false,zTs,zTp,Int.reduceLT,Int.reduceToNat,h0,h3,h4,h5])
   exact⟨by(first|rfl|exact .inl rfl|exact .inr rfl|exact .inr (.inl rfl) | exact .inr (.inr rfl)),by rw[ao (k:=.i64) (n:=6) rfl];omega⟩
  ·obtain rfl:k=5:=by omega
   simp only[cz,↓Xn,↓Xo,↓Xg,↓Xd,↓Xe,↓Xf,Tryz.VΓ,Tryz.Γs,Xp,Xi,Nat.reduceAdd,Nat.reduceSub,Nat.reduceLT,Nat.reduceLeDiff,reduceIte,reduceCtorEq,Nat.reduceEqDiff,implies_true,forall_const,cw,eb,beq_self_eq_true,bne_self_eq_false,Int.reduceBEq,Int.reduceBNe,Int.reduceLT,Int.reduceLE,zTn,zTm,Nat.reduceAdd,zTt,decide_true,decide_false,zTs,zTp,Int.reduceLT,Int.reduceToNat,h0,h3,h4,h5]
   (refine aa (bl _) ?_;simp only[cz,↓Xn,↓Xo,↓Xg,↓Xd,↓Xe,↓Xf,Tryz.VΓ,Tryz.Γs,Xp,Xi,Nat.reduceAdd,Nat.reduceSub,Nat.reduceLT,Nat.reduceLeDiff,reduceIte,reduceCtorEq,Nat.reduceEqDiff,implies_true,forall_const,cw,eb,beq_self_eq_true,bne_self_eq_false,Int.reduceBEq,Int.reduceBNe,Int.reduceLT,Int.reduceLE,zTn,zTm,Nat.reduceAdd,zTt,decide_true,decide_false,zTs,zTp,Int.reduceLT,Int.reduceToNat,h0,h3,h4,h5,k2,k3,k4,k5,zTq,Int.reduceAdd])
   exact⟨⟨6,by omega,by omega,rfl⟩,by rw[ao (k:=.i64) (n:=6) rfl];omega⟩
 ·simp only[cz,↓Xn,↓Xo,↓Xg,↓Xd,↓Xe,↓Xf,Tryz.VΓ,Tryz.Γs,Xp,Xi,Nat.reduceAdd,Nat.reduceSub,Nat.reduceLT,Nat.reduceLeDiff,reduceIte,reduceCtorEq,Nat.reduceEqDiff,implies_true,forall_const,cw,eb,beq_self_eq_true,bne_self_eq_false,Int.reduceBEq,Int.reduceBNe,Int.reduceLT,Int.reduceLE,zTn,zTm,Nat.reduceAdd,zTt,decide_true,decide_false,zTs,zTp,Int.reduceLT,Int.reduceToNat,h0,h3,h4]
structure WL (s t:Bytes) (n:Nat):Prop where
 len:s.length=n+16
 tn:n≤100
 g0:s.getD 0 0=60
 pr:jz (fun c=>fN c&&c != 62) s 1 (n+1)
 g1:s.getD (n+1) 0=62
 tk:(s.take (n+1)).drop 1=t
 g2:s.getD (n+2) 0=59
 sk0:jz dS s 0 0
 sk2:jz dS s (n+2) (n+2)
 sk3:jz dS s (n+3) (n+4)
 tok:jz vj s (n+4) (n+7)
 tokT:(s.take (n+7)).drop (n+4)=([114,101,108]:List UInt8)
 sk7:jz dS s (n+7) (n+7)
 g7:s.getD (n+7) 0=61
 sk8:jz dS s (n+8) (n+8)
 g8:s.getD (n+8) 0=34
 q:jz Dm s (n+8+1) (n+15)
 qT:(s.take (n+15)).drop (n+8+1)=([108,114,100,100,32,120]:List UInt8)
 g15:s.getD (n+15) 0=34
 sk16:jz dS s (n+16) (n+16)
def wlT (t:Bytes):Bytes:=[60]++t++([62,59,32,114,101,108,61,34,108,114,100,100,32,120,34]:List UInt8)
theorem WL.of {t:Bytes}(ht:t=([104,116,116,112,115,58,47,47,101,46,101,120,97,109,112,108,101,47,108,105,110,107]:List UInt8)∨t=([47,104,101,114,101]:List UInt8)∨t=([120,63,121]:List UInt8)∨t=([104,116,116,112,58,47,47,101,46,101,120,97,109,112,108,101,47]:List UInt8)):WL (wlT t) t t.length:=by
 rcases ht with rfl|rfl|rfl|rfl <;> exact⟨rfl,by decide,rfl,.of (by decide),rfl,rfl,rfl,.of (by decide),.of (by decide),.of (by decide),.of (by decide),rfl,.of (by decide),rfl,.of (by decide),rfl,.of (by decide),rfl,rfl,.of (by decide)⟩
theorem Fz {s t:Bytes}{n:Nat}(h:WL s t n):PC Tryz.V 244 [.str s,.int .i64 ((n+4:Nat):Int)] (.eW [.agg [.str ([114,101,108]:List UInt8),.str ([108,114,100,100,32,120]:List UInt8)],.int .i64 ((n+16:Nat):Int),.bool true]):=by
 have hl:s.length≤4294967281:=by rw[h.len];have:=h.tn;omega
 have pT:=FA h.tok (by omega) hl
 rw[h.tokT]at pT
 have s7:=fO h.sk7 hl
 have s8:=fO h.sk8 hl
 have pV:=Du h.g8 h.q (by rw[h.len];omega) h.g15 hl
 rw[h.qT,show (((n+15:Nat):Int)+1)=((n+16:Nat):Int) by omega]at pV
 have pL:=jE ([114,101,108]:List UInt8) (by simp)
 rw[show lower ([114,101,108]:List UInt8)=([114,101,108]:List UInt8) by decide]at pL
 have e8:((n+7:Nat):Int)+1=((n+8:Nat):Int):=by omega
 have d7:decide (((n+7:Nat):Int)<(s.length:Int))=true:=decide_eq_true (by rw[h.len];omega)
 have g7:(((s.getD (n+7) 0).toNat:Int)==61)=true:=by rw[h.g7];rfl
 have l7:n+7<s.length:=by rw[h.len];omega
 refine aZ 3000 Tryz.func244 rfl Tryz.ntmps244 Tryz.results244 Tryz.call244 (by simp) (by simp[flat,flat.ai]) (by simp[flat,flat.ai]) ?_
 generalize hn7:n+7=n7 at pT s7 e8 d7 g7 l7 ⊢
 generalize hn8:n+8=n8 at pV s8 e8 ⊢
 generalize hn4:n+4=n4 at pT ⊢
 generalize hn16:n+16=n16 at pV ⊢
 have tn:=h.tn
 refine dV ?_
 (refine aa (pT) ?_;refine gA zTo ?_)
 (refine aa (pL) ?_;refine gA zTo ?_)
 (refine aa (s7) ?_;refine gA (zTi zTo (zTi d7 (zTi g7 e8))) ?_)
 refine⟨⟨by omega,by omega⟩,?_⟩
 refine⟨⟨by omega,by omega⟩,?_⟩
 (refine aa (s8) ?_;refine gA (zTi zTo e8) ?_)
 (refine aa (pV) ?_;exact gA zTo zTL)
def Mr:av:=.own [.str ([108,114,100,100]:List UInt8),.str ([120]:List UInt8)] 9 1 2 true
def wPar:av:=.own [.str ([114,101,108]:List UInt8),.str ([108,114,100,100,32,120]:List UInt8)] 100 2 1 true
theorem sc_link {bs:List av}{s t:Bytes}{n:Nat}(h:WL s t n):SC Tryz.V 199 [.str s,.int .i64 0] bs (fun r b=>∃ q1 q2,r=.eW [.agg [.str t,.o q1 2,.o q2 1],.int .i64 ((n+16:Nat):Int),.bool true]∧Kp bs b∧bs.length≤q1∧bs.length≤q2∧b[q1]? = some Mr∧b[q2]? = some wPar):=by
 have hl:s.length≤4294967281:=by rw[h.len];have:=h.tn;omega
 have tn:=h.tn
 have len:=h.len
 have s2:=fO h.sk2 hl
 have s3:=fO h.sk3 hl
 have s16:=fO h.sk16 hl
 have pP:=Fz h
 have e2:((n+1:Nat):Int)+1=((n+2:Nat):Int):=by omega
 have e3:((n+2:Nat):Int)+1=((n+3:Nat):Int):=by omega
 have g1:(((s.getD (n+1) 0).toNat:Int) != 62)=false:=by rw[h.g1];rfl
 have g2:(((s.getD (n+2) 0).toNat:Int)==59)=true:=by rw[h.g2];rfl
 have d1:decide (((n+1:Nat):Int)<(s.length:Int))=true:=decide_eq_true (by omega)
 have d2:decide (((n+2:Nat):Int)<(s.length:Int))=true:=decide_eq_true (by omega)
 have d16:decide (((n+16:Nat):Int)<(s.length:Int))=false:=decide_eq_false (by omega)
 have ne1:(((n+1:Nat):Int)==(s.length:Int))=false:=beq_eq_false_iff_ne.2 (by omega)
 have tk:=h.tk
 obtain⟨-,-,pr,-⟩:=h.pr
 refine bo 3000 Tryz.func199 rfl Tryz.ntmps199 Tryz.results199 Tryz.call199 (by simp) (ah bs.length _ (by simp[within,within.ax])) ?_
 simp only[cz,↓Xn,↓Xo,↓Xg,↓Xd,↓Xe,↓Xf,Tryz.VΓ,Tryz.Γs,Xp,Xi,Nat.reduceAdd,Nat.reduceSub,Nat.reduceLT,Nat.reduceLeDiff,reduceIte,reduceCtorEq,Nat.reduceEqDiff,implies_true,forall_const,cw,eb,beq_self_eq_true,bne_self_eq_false,Int.reduceBEq,Int.reduceBNe,Int.reduceLT,Int.reduceLE,Int.reduceAdd]
 refine az (fun σ=>∃ k:Nat,1≤k∧k≤n+1∧lk 0 σ.t=some (.str s)∧lk 1 σ.t=some (.int .i64 0)∧lk 4 σ.t=some (.p bs.length 0)∧lk 7 σ.t=some (.int .i64 k)∧σ.b=bs++[.cells [.str [],.aj,.aj] 237 true]) (fun σ=>n+1 - fX 7 σ) ⟨1,by omega,by omega,rfl,rfl,rfl,rfl,rfl⟩ ?_
 rintro⟨t1,b1⟩ ⟨k,hk,kg,h0,h1,h4,h7,hb⟩
 simp only at h0 h1 h4 h7 hb
 subst hb
 rw[ao h7]
 by_cases hke:k=n+1
 ·subst hke
  have hle:n+1≤s.length:=by omega
  generalize oK:n+1=N1 at g1 d1 ne1 tk e2 hle h7 ⊢
  simp only[cz,↓Xn,↓Xo,↓Xg,↓Xd,↓Xe,↓Xf,Tryz.VΓ,Tryz.Γs,Xp,Xi,Nat.reduceAdd,Nat.reduceSub,Nat.reduceLT,Nat.reduceLeDiff,reduceIte,reduceCtorEq,Nat.reduceEqDiff,implies_true,forall_const,cw,eb,beq_self_eq_true,bne_self_eq_false,Int.reduceBEq,Int.reduceBNe,Int.reduceLT,Int.reduceLE,h0,h1,h4,h7,d1,g1,ne1,e2,Int.reduceAdd,Int.reduceToNat,tk]
  have e2':(N1:Int)+1=((n+2:Nat):Int):=by omega
  refine⟨by omega,by omega,by omega,?_⟩
  (refine aa (s2) ?_;refine gA (zTi h0 (zTi h1 (zTi h4 h7))) ?_)
  refine az (fun σ=>lk 0 σ.t=some (.str s)∧lk 4 σ.t=some (.p bs.length 0)∧lk 8 σ.t=some (.p (bs.length+1) 0)∧((lk 1 σ.t=some (.int .i64 ((n+2:Nat):Int))∧lk 9 σ.t=some (.bool false)∧σ.b=bs++[.cells [.str [],.aj,.aj] 237 true,.cells [.str t,.aj,.aj] 237 true])∨(lk 1 σ.t=some (.int .i64 ((n+16:Nat):Int))∧∃ q1 q2,Kp bs σ.b∧σ.b[bs.length]? = some (.cells [.str [],.aj,.aj] 237 true)∧σ.b[bs.length+1]? = some (.cells [.str t,.o q1 2,.o q2 1] 237 true)∧bs.length+1<q1∧bs.length+1<q2∧σ.b[q1]? = some Mr∧σ.b[q2]? = some wPar))) (fun σ=>n+17 - fX 1 σ) ⟨h0,h4,rfl,.inl ⟨rfl,rfl,rfl⟩⟩ ?_
  rintro⟨t2,b2⟩ ⟨h0,h4,h8,⟨h1,h9,hb⟩|⟨h1,q1,q2,bc,dL,eX,l1,l2,jS,nC⟩⟩
  ·simp only at h0 h4 h8 h1 h9 hb
   subst hb
   rw[ao h1]
   refine gA (zTi h0 (zTi h1 (zTi h4 (zTi h8 (zTi h9 (zTi d2 (zTi g2 e3))))))) ?_
   refine⟨⟨by omega,by omega⟩,⟨by omega,by omega⟩,?_⟩
   (refine aa (s3) ?_;refine gA (zTi h0 (zTi h1 (zTi h4 (zTi h8 h9)))) ?_)
   (refine aa (pP) ?_;refine gA (zTi h0 (zTi h1 (zTi h4 (zTi h8 (zTi h9 (zTi zTo zTq)))))) ?_)
   refine ae (MK) ?_
   rintro r b ⟨rfl,rfl⟩
   refine gA (zTi h0 (zTi h1 (zTi h4 (zTi h8 h9)))) ?_
   refine⟨by omega,⟨by unfold maxLen;omega,by omega⟩,?_⟩
   (refine aa (s16) ?_;refine gA (zTi h0 (zTi h1 (zTi h4 (zTi h8 h9)))) ?_)
   exact⟨.inr ⟨bs.length+6,bs.length+8,(Kp.refl bs).app _,rfl,by omega,by omega,aU _ _ 6,aU _ _ 8⟩,by rw[ao (k:=.i64) (n:=((n+16:Nat):Int)) rfl];omega⟩
  ·simp only at h0 h4 h8 h1 bc dL eX jS nC
   rw[ao h1]
   have oe:=fun X=>(zTl (zTk.1 dL).1:(b2.set bs.length X)[bs.length]? = some X)
   refine gA (zTi h0 (zTi h1 (zTi h4 (zTi h8 (zTi d16 (zTi dL (zTi eX oe))))))) ?_
   exact⟨q1,q2,rfl,bc.set (zTz _) _,by omega,by omega,aw jS (by omega) _,aw nC (by omega) _⟩
 ·have hp:(fN (s.getD k 0)&&s.getD k 0 != 62)=true:=pr k hk (by omega)
  have hd:decide ((k:Int)<(s.length:Int))=true:=decide_eq_true (by omega)
  have Ma:(!(fN (s.getD k 0)&&s.getD k 0 != 62)||(decide ((((s.getD k 0).toNat:Int) != 62)=true)&&fN (s.getD k 0)))=true:=dz (p:=fun c=>!(fN c&&c != 62)||(decide (((c.toNat:Int) != 62)=true)&&fN c)) (by decide +kernel) (s.getD k 0)
  rw[hp]at Ma
  simp only[zTo,Bool.false_or,Bool.and_eq_true,decide_eq_true_eq]at Ma
  obtain⟨g3,g4⟩:=Ma
  refine gA (zTi h0 (zTi h1 (zTi h4 (zTi h7 (zTi hd g3))))) ?_
  refine⟨⟨by omega,by omega⟩,⟨by omega,by omega⟩,?_⟩
  (refine aa (o6 (s.getD k 0)) ?_;refine gA (zTi h0 (zTi h1 (zTi h4 (zTi h7 (zTi g4 zTo))))) ?_)
  exact⟨by omega,⟨k+1,by omega,by omega,rfl⟩,by rw[ao (k:=.i64) (n:=(k:Int)+1) rfl];omega⟩
def wLk (t:Bytes)(q1 q2:Nat):List SV:=[.str t,.o q1 2,.o q2 1]
theorem CX {bs:List av}{s t:Bytes}{n:Nat}(h:WL s t n):SC Tryz.V 144 [.str s] bs (fun r b=>∃ q q1 q2,r=.eW [.o q 1,.int .i64 0]∧Kp bs b∧b[q]? = some (.own (wLk t q1 q2) 237 3 1 true)∧b[q1]? = some Mr):=by
 have hl:s.length≤4294967281:=by rw[h.len];have:=h.tn;omega
 have tn:=h.tn
 have len:=h.len
 have s0:PC Tryz.V 198 [.str s,.int .i64 0] (.int .i64 0):=fO (a:=0) (b:=0) h.sk0 hl
 have g0:(((s.getD 0 0).toNat:Int)==60)=true:=by rw[h.g0];rfl
 have d0:decide ((0:Int)<(s.length:Int))=true:=decide_eq_true (by omega)
 have e16:(((n+16:Nat):Int)==(s.length:Int))=true:=beq_iff_eq.2 (by omega)
 refine bo 3000 Tryz.func144 rfl Tryz.ntmps144 Tryz.results144 Tryz.call144 (by simp) (ah bs.length _ (by simp[within,within.ax])) ?_
 refine dV ?_
 refine az (fun σ=>lk 0 σ.t=some (.str s)∧lk 4 σ.t=some .aj∧lk 5 σ.t=some (.int .i64 0)∧σ.b=bs) (fun σ=>1) ⟨rfl,rfl,rfl,rfl⟩ ?_
 rintro⟨t1,b1⟩ ⟨h0,h4,h5,hb⟩
 simp only at h0 h4 h5 hb
 subst hb
 refine gA (zTi h0 (zTi h4 h5)) ?_
 (refine aa (s0) ?_;simp only[cz,↓Xn,↓Xo,↓Xg,↓Xd,↓Xe,↓Xf,Tryz.VΓ,Tryz.Γs,Xp,Xi,Nat.reduceAdd,Nat.reduceSub,Nat.reduceLT,Nat.reduceLeDiff,reduceIte,reduceCtorEq,Nat.reduceEqDiff,implies_true,forall_const,cw,eb,beq_self_eq_true,bne_self_eq_false,Int.reduceBEq,Int.reduceBNe,Int.reduceLT,Int.reduceLE,h0,h4,h5,d0,g0,Int.reduceToNat,decide_false,decide_true,zTp])
 refine⟨by omega,ae (sc_link h) ?_⟩
 rintro r b ⟨q1,q2,rfl,hk,l1,l2,jS,nC⟩
 refine gA (zTi h0 (zTi h4 (zTi h5 (zTi e16 zTo)))) ?_
 refine⟨by omega,⟨by unfold maxLen;omega,by omega⟩,?_⟩
 exact⟨_,_,_,rfl,hk.app _,aU _ _ 2,ad jS _⟩
theorem EY {bs:List av}{t:Bytes}{q q1 q2:Nat}(hq:bs[q]? = some (.own (wLk t q1 q2) 237 3 1 true))(jS:bs[q1]? = some Mr):SC Tryz.V 145 [.o q 1,.str ([108,114,100,100]:List UInt8)] bs (fun r b=>r=.eW [.str t,.bool true]∧Kp bs b):=by
 have pE:=jF ([108,114,100,100]:List UInt8) ([108,114,100,100]:List UInt8) (by simp) (by simp)
 rw[show (lower ([108,114,100,100]:List UInt8)==lower ([108,114,100,100]:List UInt8))=true by decide]at pE
 have ql:=(zTk.1 hq).1
 unfold wLk at hq
 unfold Mr at jS
 refine bo 3000 Tryz.func145 rfl Tryz.ntmps145 Tryz.results145 Tryz.call145 (by simp) (ah bs.length _ (by simp[within,within.ax,ql])) ?_
 refine dV ?_
 refine az (fun σ=>lk 1 σ.t=some (.str ([108,114,100,100]:List UInt8))∧lk 10 σ.t=some (.o q 1)∧lk 11 σ.t=some (.int .i64 1)∧lk 12 σ.t=some (.int .i64 0)∧σ.b=bs) (fun σ=>1) ⟨rfl,rfl,rfl,rfl,rfl⟩ ?_
 rintro⟨t1,b1⟩ ⟨h1,de,eJ,iN,hb⟩
 simp only at h1 de eJ iN hb
 subst hb
 refine gL (zTi h1 (zTi de (zTi eJ (zTi iN hq)))) ?_
 refine az (fun σ=>lk 1 σ.t=some (.str ([108,114,100,100]:List UInt8))∧lk 7 σ.t=some (.p b1.length 0)∧lk 17 σ.t=some (.o q1 2)∧lk 18 σ.t=some (.int .i64 2)∧lk 19 σ.t=some (.int .i64 0)∧σ.b=b1++[.cells [.str t,.o q1 2,.o q2 1] 237 true]) (fun σ=>1) ⟨h1,rfl,rfl,rfl,rfl,rfl⟩ ?_
 rintro⟨t2,b2⟩ ⟨h1,h7,h17,h18,AI,hb⟩
 simp only at h1 h7 h17 h18 AI hb
 subst hb
 refine gL (zTi h1 (zTi h7 (zTi h17 (zTi h18 (zTi AI (ad jS)))))) ?_
 (refine aa (pE) ?_;simp only[cz,↓Xn,↓Xo,↓Xg,↓Xd,↓Xe,↓Xf,Tryz.VΓ,Tryz.Γs,Xp,Xi,Nat.reduceAdd,Nat.reduceSub,Nat.reduceLT,Nat.reduceLeDiff,reduceIte,reduceCtorEq,Nat.reduceEqDiff,implies_true,forall_const,cw,eb,beq_self_eq_true,bne_self_eq_false,Int.reduceBEq,Int.reduceBNe,Int.reduceLT,Int.reduceLE,zTn,zTm,Nat.reduceAdd,zTt,decide_true,decide_false,zTs,zTp,Int.reduceLT,Int.reduceToNat,h1,h7,h17,h18,AI])
 exact(Kp.refl _).app _
def IdB (i:kT):Prop:=i.text.length≤4096∧i.host.length≤1000∧-9223372036854775808≤i.port∧i.port≤9223372036854775807
def pz (i:kT)(path:Bytes):bM:=if mJ i then⟨i.host,i.port,path,[],[],false,false⟩ else⟨[],0,[],[],[],false,false⟩
theorem xu {i:kT}(hi:IdB i){path:Bytes}(hp:path.length≤1000):Small (pz i path):=by
 unfold pz
 split
 ·exact⟨by have:=hi.2.1;simp only[zTm];omega,hi.2.2⟩
 ·exact Small.Hg (by simp)
theorem yV (i:kT)(path:Bytes):PC Tryz.V 131 [kt i,.str path] (.eW [cQ (pz i path),.int .i64 (if mJ i then 0 else 8)]):=by
 have p1:=FB mF i
 refine aZ 3000 Tryz.func131 rfl Tryz.ntmps131 Tryz.results131 Tryz.call131 (by simp) (by simp[flat,flat.ai,kt]) (by simp[flat,flat.ai,cQ]) ?_
 unfold kt at p1 ⊢
 unfold cQ pz
 refine dV ?_
 (refine aa (p1) ?_;refine dV ?_)
 cases hv:mJ i
 ·exact gA zTq zTL
 ·exact gA zTo zTL
theorem yW (i:kT):PC Tryz.V 74 [kt i] (.eW [cQ (pz i ([47,46,119,101,108,108,45,107,110,111,119,110,47,104,111,115,116,45,109,101,116,97,46,106,115,111,110]:List UInt8)),.int .i64 (if mJ i then 0 else 8)]):=by
 have p1:=yV i ([47,46,119,101,108,108,45,107,110,111,119,110,47,104,111,115,116,45,109,101,116,97,46,106,115,111,110]:List UInt8)
 refine aZ 3000 Tryz.func74 rfl Tryz.ntmps74 Tryz.results74 Tryz.call74 (by simp) (by simp[flat,flat.ai,kt]) (by simp[flat,flat.ai,cQ]) ?_
 unfold kt cQ at p1
 unfold kt cQ
 refine dV ?_
 (refine aa (p1) ?_;exact dV zTL)
theorem Ib (i:kT):PC Tryz.V 75 [kt i] (.eW [cQ (pz i ([47]:List UInt8)),.int .i64 (if mJ i then 0 else 8)]):=by
 have p1:=yV i ([47]:List UInt8)
 refine aZ 3000 Tryz.func75 rfl Tryz.ntmps75 Tryz.results75 Tryz.call75 (by simp) (by simp[flat,flat.ai,kt]) (by simp[flat,flat.ai,cQ]) ?_
 unfold kt cQ at p1
 unfold kt cQ
 refine dV ?_
 (refine aa (p1) ?_;exact dV zTL)
theorem Fy (i:kT)(hi:IdB i):∃ u e,Small u∧PC Tryz.V 73 [kt i] (.eW [cQ u,.int .i64 e]):=by
 have p1:=yV i ([47,46,119,101,108,108,45,107,110,111,119,110,47,119,101,98,102,105,110,103,101,114]:List UInt8)
 have gU:=eO [] i.text
 have pe:=mE i.text [] (by have:=hi.1;omega) (by simp)
 have h1:=hi.1
 have h2:=hi.2.1
 cases hv:mJ i
 ·refine⟨⟨[],0,[],[],[],false,false⟩,8,Small.Hg (by simp),?_⟩
  rw[hv]at p1
  simp only[pz,hv,zTp,if_false]at p1
  refine aZ 3000 Tryz.func73 rfl Tryz.ntmps73 Tryz.results73 Tryz.call73 (by simp) (by simp[flat,flat.ai,kt]) (by simp[flat,flat.ai,cQ]) ?_
  unfold kt cQ at p1
  unfold kt cQ
  refine dV ?_
  (refine aa (p1) ?_;exact dV zTL)
 ·have hF:Fair ⟨i.host,i.port,([47,46,119,101,108,108,45,107,110,111,119,110,47,119,101,98,102,105,110,103,101,114]:List UInt8),([114,101,115,111,117,114,99,101,61]:List UInt8)++aH [] i.text,[],true,false⟩:=⟨by simp;omega,hi.2.2⟩
  have hT:=(iI ⟨i.host,i.port,([47,46,119,101,108,108,45,107,110,111,119,110,47,119,101,98,102,105,110,103,101,114]:List UInt8),([114,101,115,111,117,114,99,101,61]:List UInt8)++aH [] i.text,[],true,false⟩).2.1 rfl
  have pF:=fM _ hF
  rw[hv]at p1
  simp only[pz,hv,if_true]at p1
  by_cases hl:4096<(aX ⟨i.host,i.port,([47,46,119,101,108,108,45,107,110,111,119,110,47,119,101,98,102,105,110,103,101,114]:List UInt8),([114,101,115,111,117,114,99,101,61]:List UInt8)++aH [] i.text,[],true,false⟩).length
  ·refine⟨⟨[],0,[],[],[],false,false⟩,5,Small.Hg (by simp),?_⟩
   have hd:decide ((4096:Int)<(aX ⟨i.host,i.port,([47,46,119,101,108,108,45,107,110,111,119,110,47,119,101,98,102,105,110,103,101,114]:List UInt8),([114,101,115,111,117,114,99,101,61]:List UInt8)++aH [] i.text,[],true,false⟩).length)=true:=decide_eq_true (by omega)
   generalize aX _=T at hd pF hl
   refine aZ 3000 Tryz.func73 rfl Tryz.ntmps73 Tryz.results73 Tryz.call73 (by simp) (by simp[flat,flat.ai,kt]) (by simp[flat,flat.ai,cQ]) ?_
   unfold kt cQ at p1
   unfold cQ at pF
   simp only[zTx,zTw]at pF
   unfold kt cQ
   refine dV ?_
   (refine aa (p1) ?_;refine dV ?_)
   (refine aa (pe) ?_;refine dV ?_)
   refine⟨by omega,?_⟩
   (refine aa (pF) ?_;exact gA hd zTL)
  ·have hS:Small ⟨i.host,i.port,([47,46,119,101,108,108,45,107,110,111,119,110,47,119,101,98,102,105,110,103,101,114]:List UInt8),([114,101,115,111,117,114,99,101,61]:List UInt8)++aH [] i.text,[],true,false⟩:=⟨by simp only[zTu,zTn,zTm]at hT ⊢;omega,hi.2.2⟩
   refine⟨_,0,hS,?_⟩
   have hd:decide ((4096:Int)<(aX ⟨i.host,i.port,([47,46,119,101,108,108,45,107,110,111,119,110,47,119,101,98,102,105,110,103,101,114]:List UInt8),([114,101,115,111,117,114,99,101,61]:List UInt8)++aH [] i.text,[],true,false⟩).length)=false:=decide_eq_false (by omega)
   generalize aX _=T at hd pF hl
   refine aZ 3000 Tryz.func73 rfl Tryz.ntmps73 Tryz.results73 Tryz.call73 (by simp) (by simp[flat,flat.ai,kt]) (by simp[flat,flat.ai,cQ]) ?_
   unfold kt cQ at p1
   unfold cQ at pF
   simp only[zTx,zTw]at pF
   unfold kt cQ
   refine dV ?_
   (refine aa (p1) ?_;refine dV ?_)
   (refine aa (pe) ?_;refine dV ?_)
   refine⟨by omega,?_⟩
   (refine aa (pF) ?_;exact gA hd zTL)
theorem wA (u:bM)(hq:u.aD=false→u.query=[])(hf:u.aP=false→u.fragment=[]):u.path.length+u.query.length+u.fragment.length≤(aX u).length:=by
 unfold aX bT
 split <;> split <;> simp_all <;> omega
theorem qv (s:Bytes):Small (bz s).1:=by
 by_cases h:(bz s).2=0
 ·have hc:=jo (s:=s) (u:=(bz s).1) (by rw[← h])
  have h1:=cR hc.host
  have h2:=wA (bz s).1 hc.noq hc.nof
  have h3:=hc.len
  exact⟨by omega,by omega,by omega⟩
 ·rw[CG s h];exact Small.Hg (by simp)
theorem yL (u:bM)(r:Bytes):Small (cG u r).1:=by
 unfold cG
 split
 ·exact Small.Hg (by simp)
 split
 ·exact Small.Hg (by simp)
 split
 ·exact Small.Hg (by simp)
 ·exact qv _
theorem yB {bs:List av}{n v:Bytes}{q:Nat}{m:Bool}(hn:n.length≤1000)(hv:v.length≤1000)(hq:bs[q]? = some (.own [.str n,.str v] 100 2 1 m)):SC Tryz.V 166 [.agg [.int .i64 0,.int .i64 0,.o q 1],.str n] bs (fun r b=>∃ q1,r=.o q1 1∧Kp bs b∧b[q1]? = some (.own [.str v] 9 1 1 true)):=by
 have pE:=jF n n (by omega) (by omega)
 rw[show (lower n==lower n)=true by simp]at pE
 have ql:=(zTk.1 hq).1
 refine bo 3000 Tryz.func166 rfl Tryz.ntmps166 Tryz.results166 Tryz.call166 (by simp) (ah bs.length _ (by simp[within,within.ax,ql])) ?_
 refine gL0 ?_
 refine az (fun σ=>lk 1 σ.t=some (.str n)∧lk 9 σ.t=some (.o q 1)∧lk 10 σ.t=some (.int .i64 1)∧((lk 11 σ.t=some (.int .i64 0)∧lk 5 σ.t=some .aj∧σ.b=bs++[.cells [.int .i64 0,.int .i64 0,.o q 1] 48 true])∨(lk 11 σ.t=some (.int .i64 1)∧∃ q1,lk 5 σ.t=some (.o q1 1)∧Kp bs σ.b∧σ.b[q1]? = some (.own [.str v] 9 1 1 true)))) (fun σ=>1 - fX 11 σ) ⟨rfl,rfl,rfl,.inl ⟨rfl,rfl,rfl⟩⟩ ?_
 rintro⟨t1,b1⟩ ⟨h1,h9,de,⟨eJ,h5,hb⟩|⟨eJ,q1,h5,bc,jS⟩⟩
 ·simp only at h1 h9 de eJ h5 hb
  subst hb
  rw[ao eJ]
  refine gL (zTi h1 (zTi h9 (zTi de (zTi eJ (zTi h5 (ad hq)))))) ?_
  (refine aa (pE) ?_;refine gL (zTi h1 (zTi h9 (zTi de (zTi eJ h5)))) ?_)
  exact⟨by omega,⟨by unfold maxLen;omega,by omega⟩,by omega,.inr ⟨rfl,bs.length+3,rfl,(Kp.refl bs).app _,aU _ _ 3⟩,by rw[ao (k:=.i64) (n:=(0:Int)+1) rfl];omega⟩
 ·simp only at h1 h9 de eJ h5 bc jS
  rw[ao eJ]
  refine gL (zTi h1 (zTi h9 (zTi de (zTi eJ h5)))) ?_
  exact⟨q1,rfl,bc,jS⟩
theorem E0 {bs:List av}{n v:Bytes}{q:Nat}{m:Bool}(hn:n.length≤1000)(hv:v.length≤1000)(hq:bs[q]? = some (.own [.str n,.str v] 100 2 1 m)):SC Tryz.V 143 [.agg [.int .i64 0,.int .i64 0,.o q 1],.str n] bs (fun r b=>r=.eW [.str v,.bool true]∧Kp bs b):=by
 have ql:=(zTk.1 hq).1
 have gt:decide ((0:Int)<1)=true:=rfl
 have gf:decide ((0:Int)<0)=false:=rfl
 refine bo 3000 Tryz.func143 rfl Tryz.ntmps143 Tryz.results143 Tryz.call143 (by simp) (ah bs.length _ (by simp[within,within.ax,ql])) ?_
 refine gL0 ?_
 refine ae (yB hn hv (ad hq _)) ?_
 rintro r b ⟨q1,rfl,hk,jS⟩
 have bJ:=((Kp.refl bs).app [.cells [.int .i64 0,.int .i64 0,.o q 1] 48 true]).trans hk
 refine gL0 ?_
 refine az (fun σ=>lk 6 σ.t=some (.o q1 1)∧lk 13 σ.t=some (.o q1 1)∧lk 14 σ.t=some (.int .i64 1)∧((lk 15 σ.t=some (.int .i64 0)∧lk 7 σ.t=some (.str []))∨(lk 15 σ.t=some (.int .i64 1)∧lk 7 σ.t=some (.str v)))∧σ.b=b) (fun σ=>1 - fX 15 σ) ⟨rfl,rfl,rfl,.inl ⟨rfl,rfl⟩,rfl⟩ ?_
 rintro⟨t1,b1⟩ ⟨h6,gy,kN,⟨AJ,h7⟩|⟨AJ,h7⟩,hb⟩ <;> simp only at h6 gy kN AJ h7 hb <;> subst hb <;> rw[ao AJ]
 ·simp only[cz,↓Xn,↓Xo,↓Xg,↓Xd,↓Xe,↓Xf,Tryz.VΓ,Tryz.Γs,Xp,Xi,Nat.reduceAdd,Nat.reduceSub,Nat.reduceLT,Nat.reduceLeDiff,reduceIte,reduceCtorEq,Nat.reduceEqDiff,implies_true,forall_const,cw,eb,beq_self_eq_true,bne_self_eq_false,Int.reduceBEq,Int.reduceBNe,Int.reduceLT,Int.reduceLE,zTn,zTm,Nat.reduceAdd,zTt,decide_true,decide_false,zTs,zTp,Int.reduceLT,Int.reduceToNat,Nat.zero_mul,h6,gy,kN,AJ,h7,jS,zTw,gf]
  exact⟨by omega,by omega,.inr rfl,by rw[ao (k:=.i64) (n:=(0:Int)+1) rfl];omega⟩
 ·refine gL (zTi h6 (zTi gy (zTi kN (zTi AJ (zTi h7 (zTi jS gt)))))) ?_
  exact bJ
theorem AO {bs:List av}{u:bM}(hu:Small u){s t:Bytes}{n q:Nat}{m:Bool}(hw:WL s t n)(hq:bs[q]? = some (.own [.str ([108,105,110,107]:List UInt8),.str s] 100 2 1 m)):SC Tryz.V 81 [cQ u,.agg [.int .i64 0,.int .i64 0,.o q 1]] bs (fun r b=>∃ (v:bM) (e:Int),Small v∧r=.eW [cQ v,.int .i64 e]∧Kp bs b):=by
 have ql:=(zTk.1 hq).1
 have hl:=hw.len
 have tn:=hw.tn
 have pR:=AZ u t hu.fair
 have hs:=yL u t
 generalize cG u t=z at pR hs
 obtain⟨v,e⟩:=z
 simp only at pR hs
 unfold cQ at pR
 refine bo 3000 Tryz.func81 rfl Tryz.ntmps81 Tryz.results81 Tryz.call81 (by simp) (ah bs.length _ (by simp[within,within.ax,ql,cQ])) ?_
 unfold cQ
 refine gL0 ?_
 refine ae (E0 (v:=s) (by simp) (by omega) (ad hq _)) ?_
 rintro r b ⟨rfl,hk⟩
 have bJ:=((Kp.refl bs).app [.cells [.str u.host,.int .i64 u.port,.str u.path,.str u.query,.str u.fragment,.bool u.aD,.bool u.aP] 35 true,.cells [.int .i64 0,.int .i64 0,.o q 1] 48 true,.cells [.str [],.int .i64 0,.str [],.str [],.str [],.bool false,.bool false] 35 true]).trans hk
 refine gL0 ?_
 refine ae (CX hw) ?_
 rintro r b2 ⟨p,q1,q2,rfl,eF,hp,jS⟩
 have mf:=bJ.trans eF
 refine gL0 ?_
 refine ae (EY hp jS) ?_
 rintro r b3 ⟨rfl,rK⟩
 have lJ:=mf.trans rK
 have f0:=(hk.trans (eF.trans rK)).at (aI bs _)
 have f2:=(hk.trans (eF.trans rK)).at (aU bs _ 2)
 have hf2l:=(zTk.1 f2).1
 have fA:∀ (l:List av) X,(b3++l).set (bs.length+2) X=b3.set (bs.length+2) X++l:=fun l X=>aO hf2l l X
 have Em:=fun X l=>cA hf2l X l
 have hkS:=fun X l=>(lJ.set (j:=bs.length+2) (by omega) X).app l
 refine gL (zTi zTo f0) ?_
 cases he:(e != 0)
 ·(refine aa (pR) ?_;refine gL (zTi zTo (zTi f0 (zTi he (zTi (ad f2) (zTi fA Em))))) ?_)
  exact⟨v,0,hs,rfl,hkS _ _⟩
 ·(refine aa (pR) ?_;refine gL (zTi zTo (zTi f0 (zTi he (zTi (ad f2) (zTi fA Em))))) ?_)
  exact⟨bM.none,_,Small.Hg (by simp),rfl,hkS _ _⟩
end Go.Proofs.YtnmlimehgifadaaGreatDoor
namespace Wf
open Go Go.RowKit
def dO:Bytes:=[123,117,114,105,125]
def pw (c:UInt8):Bool:=c==123||c==125
def gZ:Nat→Bytes→Bytes→Option (List Bytes)
 | _,cur,[]=>some [cur]
 | k+1,cur,_::r=>gZ k cur r
 | 0,cur,c::r=>if dO.isPrefixOf (c::r) then(gZ 4 [] r).map (cur::·) else if pw c then none else gZ 0 (cur++[c]) r
def BL (t:Bytes):Option (List Bytes):=gZ 0 [] t
theorem BJ (k:Nat)(cur:Bytes):gZ k cur []=some [cur]:=by cases k <;> rfl
theorem yn:∀ (k:Nat)(cur t:Bytes),gZ k cur t=gZ 0 cur (t.drop k)
 | 0,_,_=>rfl
 | k+1,cur,[]=>by simp[BJ]
 | k+1,cur,c::r=>by rw[gZ,yn k cur r];rfl
theorem BK (cur r:Bytes):gZ 0 cur (dO++r)=(BL r).map (cur::·):=by
 show gZ 0 cur (123::([117,114,105,125]++r))=_
 rw[gZ,if_pos (by simp[dO]),yn 4]
 rfl
theorem vg:∀ (t cur:Bytes),(Lib.index t dO=-1→gZ 0 cur t=if t.any pw then none else some [cur++t])∧(∀ k:Nat,Lib.index t dO=k→gZ 0 cur t=if (t.take k).any pw then none else(BL (t.drop (k+5))).map ((cur++t.take k)::·))
 | [],cur=>⟨fun _=>by simp[gZ],fun k h=>by
    unfold Lib.index at h
    rw[if_neg (by decide)]at h
    omega⟩
 | c::r,cur=>by
   obtain⟨h1,h2⟩:=vg r (cur++[c])
   by_cases hp:dO.isPrefixOf (c::r)=true
   ·constructor
    ·intro h;unfold Lib.index at h;rw[if_pos hp]at h;omega
    ·intro k h
     unfold Lib.index at h
     rw[if_pos hp]at h
     obtain rfl:k=0:=by omega
     obtain⟨q,hq⟩:=List.isPrefixOf_iff_prefix.1 hp
     rw[← hq,BK]
     simp[dO]
   ·have JB:gZ 0 cur (c::r)=if pw c then none else gZ 0 (cur++[c]) r:=by rw[gZ,if_neg hp]
    constructor
    ·intro h
     unfold Lib.index at h
     rw[if_neg hp]at h
     split at h
     ·rename_i h'
      rw[JB,h1 (by simpa using h')]
      cases hc:pw c <;> simp[hc]
     ·rename_i h'
      have:=Lib.index_ge r dO
      simp at h';omega
    ·intro k h
     unfold Lib.index at h
     rw[if_neg hp]at h
     split at h
     ·omega
     ·rename_i h'
      have:=Lib.index_ge r dO
      simp at h'
      obtain⟨k,rfl⟩:∃ j,k=j+1:=⟨k - 1,by omega⟩
      rw[JB,h2 k (by omega)]
      cases hc:pw c <;> simp[hc,show k+1+5=k+5+1 by omega]
theorem BI:∀ (n:Nat)(t:Bytes),Lib.count t dO=n→BL t=if (Lib.splitK dO 0 n t).any (·.any pw) then none else some (Lib.splitK dO 0 n t)
 | 0,t,h=>by
   have hm:Lib.index t dO=-1:=by
    by_cases hm:Lib.index t dO=-1
    ·exact hm
    ·have qL:=Lib.index_ge t dO
     have:=Lib.count_hit (s:=t) (sub:=dO) (i:=(Lib.index t dO).toNat) (by decide) (by omega)
     omega
   unfold BL
   rw[(vg t []).1 hm]
   simp[Lib.splitK]
 | n+1,t,h=>by
   have hm:Lib.index t dO≠-1:=fun hm=>by rw[Lib.count_miss hm]at h;omega
   have qL:=Lib.index_ge t dO
   obtain⟨k,hk⟩:∃ k:Nat,Lib.index t dO=k:=⟨(Lib.index t dO).toNat,by omega⟩
   have hc:=Lib.count_hit (s:=t) (sub:=dO) (i:=k) (by decide) hk
   rw[show dO.length=5 from rfl]at hc
   have ih:=BI n (t.drop (k+5)) (by omega)
   unfold BL
   rw[(vg t []).2 k hk,ih,Lib.splitK,if_neg (show ¬ (Lib.index t dO==-1)=true by simpa using hm),hk]
   simp only[Int.toNat_natCast,Nat.add_zero,zTw,List.any_cons,show dO.length=5 from rfl]
   cases (t.take k).any pw
   ·cases (Lib.splitK dO 0 n (t.drop (k+5))).any (·.any pw) <;> simp
   ·simp
def tE (t:Bytes):Bool:=match BL t with
 | some (_::_::_)=>true
 | _=>false
def ez (e:Bytes):List Bytes→Bytes
 | []=>[]
 | x::r=>x++r.flatMap (e++·)
def jC (t uri:Bytes):Bytes × Int :=
 if 4096<t.length then([],5)
 else if tE t=false then([],230)
 else if 4096<(ez (aH [] uri) ((BL t).getD [])).length then([],5)
 else(ez (aH [] uri) ((BL t).getD []),0)
open Go Go.RowKit
def j8 (t:Bytes):List Bytes:=Lib.splitK dO 0 (Lib.count t dO) t
theorem oq {t:Bytes}(h:Lib.index t dO=-1):j8 t=[t]:=by
 unfold j8
 rw[Lib.count_miss h];rfl
theorem wE {t:Bytes}{k:Nat}(h:Lib.index t dO=k):j8 t=t.take k::j8 (t.drop (k+5)):=by
 have hc:=Lib.count_hit (s:=t) (sub:=dO) (i:=k) (by decide) h
 rw[show dO.length=5 from rfl]at hc
 unfold j8
 rw[hc,zTJ 1,Lib.splitK,if_neg (by rw[h];simp <;> omega),h]
 simp[dO]
theorem tpl_all (t:Bytes):BL t=if (j8 t).any (·.any pw) then none else some (j8 t):=BI _ t rfl
theorem CM (e x:Bytes)(l:List Bytes):ez e (l++[x])=ez e l++(if l=[] then [] else e)++x:=by
 cases l with
 | nil=>simp[ez]
 | cons y r=>simp[ez]
theorem CL {e:Bytes}{l:List Bytes}{k:Nat}(h:k<l.length):ez e (l.take (k+1))=ez e (l.take k)++(if k=0 then [] else e)++l[k]:=by
 rw[List.take_succ_eq_append_getElem h,CM]
 congr 2
 cases k with
 | zero=>simp
 | succ k=>cases l with
   | nil=>simp at h
   | cons x l=>simp
theorem ED (e:Bytes)(l:List Bytes)(k:Nat)(h:k<l.length)(h0:k≠0):(ez e (l.take k)).length+e.length+l[k].length≤(ez e l).length:=by
 have h1:∀ m:List Bytes,m≠[]→∀ r:List Bytes,ez e (m++r)=ez e m++r.flatMap (e++·):=by
  intro m hm r
  cases m with
  | nil=>exact absurd rfl hm
  | cons x m=>simp[ez]
 have e2:l=l.take k++l[k]::l.drop (k+1):=by
  rw[← List.drop_eq_getElem_cons h,List.take_append_drop]
 conv=>rhs;rw[e2]
 rw[h1 _ (fun hq=>(List.take_eq_nil_iff.1 hq).elim h0 (fun hq=>(by rw[hq]at h;simp at h)))]
 simp only[zTu,zTA]
 omega
theorem HC (t:Bytes):∀ x∈j8 t,x.length≤t.length:=by
 have:∀ (n:Nat) (t:Bytes),t.length≤n→∀ x∈j8 t,x.length≤t.length:=by
  intro n
  induction n with
  | zero =>
    intro t h x hx
    by_cases hi:Lib.index t dO=-1
    ·rw[oq hi]at hx;rw[zTE.1 hx];omega
    ·have hg:=Lib.index_ge t dO
     have:=Lib.index_room t dO (by omega)
     rw[show dO.length=5 from rfl]at this
     omega
  | succ n ih =>
    intro t h x hx
    by_cases hi:Lib.index t dO=-1
    ·rw[oq hi]at hx;rw[zTE.1 hx];omega
    ·have hg:=Lib.index_ge t dO
     have hr:=Lib.index_room t dO (by omega)
     rw[show dO.length=5 from rfl]at hr
     rw[wE (k:=(Lib.index t dO).toNat) (by omega)]at hx
     rcases zTH.1 hx with rfl|hx
     ·simp;omega
     ·have:=ih _ (by simp;omega) x hx
      simp at this;omega
 exact this _ t (zTz _)
theorem HD (t:Bytes):(j8 t).length≤t.length+1:=by
 have:∀ (n:Nat) (t:Bytes),t.length≤n→(j8 t).length≤t.length+1:=by
  intro n
  induction n with
  | zero =>
    intro t h
    by_cases hi:Lib.index t dO=-1
    ·rw[oq hi];simp
    ·have hg:=Lib.index_ge t dO
     have:=Lib.index_room t dO (by omega)
     rw[show dO.length=5 from rfl]at this
     omega
  | succ n ih =>
    intro t h
    by_cases hi:Lib.index t dO=-1
    ·rw[oq hi];simp
    ·have hg:=Lib.index_ge t dO
     have hr:=Lib.index_room t dO (by omega)
     rw[show dO.length=5 from rfl]at hr
     rw[wE (k:=(Lib.index t dO).toNat) (by omega)]
     have:=ih (t.drop ((Lib.index t dO).toNat+5)) (by simp;omega)
     simp at this ⊢;omega
 exact this _ t (zTz _)
theorem Ka {cur r:Bytes}(h:Lib.hasPrefix r dO=true):gZ 0 cur r=(BL (r.drop 5)).map (cur::·):=by
 obtain⟨q,rfl⟩:=List.isPrefixOf_iff_prefix.1 h
 rw[BK];rfl
theorem Mx {cur:Bytes}{c:UInt8}{r:Bytes}(h:Lib.hasPrefix (c::r) dO=false):gZ 0 cur (c::r)=if pw c then none else gZ 0 (cur++[c]) r:=by
 rw[gZ,if_neg (by unfold Lib.hasPrefix at h;simp[h])]
end Wf
namespace Go.Proofs.YtnmlimehgifadaaGreatDoor
open Go Vc Go.RowKit Wf
def PtI (bs:List av)(t:Bytes)(σ:St):Prop:=∃ (i a:Nat) (x:SV) (dn:List Bytes),lk 0 σ.t=some (.str t)∧lk 2 σ.t=some .aj∧lk 3 σ.t=some (.bool false)∧lk 4 σ.t=some x∧lk 5 σ.t=some (.int .i64 a)∧lk 6 σ.t=some (.int .i64 i) ∧
 a≤i∧i≤t.length∧dn.length≤a∧BL t=(gZ 0 ((t.take i).drop a) (t.drop i)).map (dn++·)∧Sl 9 1 bs.length x σ.b (dn.map SV.str) dn.length∧Kp bs σ.b
theorem CW {bs:List av}(t:Bytes)(ht:t.length≤1100000):SC Tryz.V 197 [.str t] bs (fun r b=>Kp bs b∧match BL t with
 | none=>r=.eW [.aj,.bool false]
 | some L=>∃ j,bs.length≤j∧b[j]? = some (.own (L.map SV.str) 9 1 L.length true)∧r=.eW [.o j L.length,.bool (decide (1<L.length))]):=by
 refine bo 3000 Tryz.func197 rfl Tryz.ntmps197 Tryz.results197 Tryz.call197 (by simp) (ah bs.length _ (by simp[within,within.ax])) ?_
 refine bC ?_
 refine az (PtI bs t) (fun σ=>t.length - fX 6 σ) ⟨0,0,.aj,[],rfl,rfl,rfl,rfl,rfl,rfl,by omega,by omega,by simp,by simp[BL],.inl ⟨rfl,rfl,rfl⟩,Kp.refl _⟩ ?_
 rintro⟨tt,b⟩ ⟨i,a,x,dn,h0,h2,h3,h4,h5,h6,hai,hit,hda,jL,fD,bc⟩
 simp only at h0 h2 h3 h4 h5 h6 fD bc
 rw[ao h6]
 by_cases aA:i<t.length
 ·have hg:t.getD i 0=t[i]:=by simp[List.getD,aA]
  have pp:=cB (t.drop i) dO
  have hde:=List.drop_eq_getElem_cons aA
  refine gN (zTi h0 (zTi h2 (zTi h3 (zTi h4 (zTi h5 h6))))) ?_
  refine⟨fun _=>⟨⟨by omega,by omega⟩,?_⟩,fun h=>absurd h (by simp;omega)⟩
  cases hp:Lib.hasPrefix (t.drop i) dO
  ·rw[hp]at pp
   rw[hde]at hp jL
   rw[Mx hp]at jL
   have hcur:(t.take (i+1)).drop a=(t.take i).drop a++[t[i]]:=by
    rw[List.take_succ_eq_append_getElem aA,List.drop_append_of_le_length (by simp;omega)]
   have hb:pw t[i]=(((t[i].toNat:Int)==123)||((t[i].toNat:Int)==125)):=by
    have e1:=dw aA 123 (n:=123) rfl
    have e2:=dw aA 125 (n:=125) rfl
    rw[hg]at e1 e2
    rw[e1,e2];rfl
   rw[hb]at jL
   have fin:((t[i].toNat:Int)==123)=false→((t[i].toNat:Int)==125)=false→∀ (t':List (Nat × SV)),lk 0 t'=some (.str t)→lk 2 t'=some .aj→lk 3 t'=some (.bool false)→lk 4 t'=some x→lk 5 t'=some (.int .i64 a)→lk 6 t'=some (.int .i64 ((i:Int)+1)) →
    PtI bs t ⟨t',b⟩∧t.length - fX 6 ⟨t',b⟩<t.length - (i:Int).toNat:=fun g1 g2 t' k0 k2 k3 k4 k5 k6 =>
    ⟨⟨i+1,a,x,dn,k0,k2,k3,k4,k5,k6,by omega,by omega,hda,by rw[jL,g1,g2,hcur];rfl,fD,bc⟩,by rw[ao (σ:=⟨t',b⟩) k6];omega⟩
   have bad:(((t[i].toNat:Int)==123)||((t[i].toNat:Int)==125))=true→BL t=none:=fun h=>by rw[jL,h];rfl
   (refine aa pp ?_;refine gN (zTi h0 (zTi h2 (zTi h3 (zTi h4 (zTi h5 (zTi h6 hg)))))) ?_)
   refine⟨⟨by omega,by omega⟩,fun g1=>⟨⟨by omega,by omega⟩,fun g2=>?_,fun g2=>⟨⟨by omega,by omega⟩,fin g1 g2 _ h0 h2 h3 h4 h5 rfl⟩⟩,fun g1=>?_⟩
   ·rw[bad (by rw[g2];simp)];exact⟨bc,trivial⟩
   ·rw[bad (by rw[g1];simp)];exact⟨bc,trivial⟩
  ·rw[hp]at pp
   rw[Ka hp,List.drop_drop]at jL
   have gU:=fG hp
   rw[show dO.length=5 from rfl,List.length_drop]at gU
   rcases fD with⟨rfl,jT,hda0⟩|⟨j,rfl,nU,hj⟩
   ·obtain rfl:dn=[]:=by simpa using jT
    (refine aa pp ?_;refine gN (zTi h0 (zTi h2 (zTi h3 (zTi h4 (zTi h5 (zTi h6 @aC)))))) ?_)
    refine⟨⟨by omega,by omega,by omega⟩,by omega,⟨by unfold maxLen;omega,by omega⟩,⟨by omega,by omega⟩,⟨by omega,by omega⟩,⟨by omega,by omega⟩,
     ⟨i+5,i+5,_,[(t.take i).drop a],h0,h2,h3,rfl,rfl,rfl,by omega,by omega,by simp,?_,.inr ⟨(b++[av.own [.str ((t.take i).drop a)] 9 1 1 true]).length,rfl,?_,aC _ _⟩,(bc.app _).app _⟩,?_⟩
    ·rw[jL,show (t.take (i+5)).drop (i+5)=[] by simp]
     cases h:BL (t.drop (i+5)) <;> simp[BL]at h ⊢ <;> rw[h] <;> rfl
    ·have:=bc.1;simp;omega
    ·rw[ao (k:=.i64) (n:=(i:Int)+4+1) rfl];omega
   ·have ho:∀ X,(b++[X])[j]? = some (.own (dn.map SV.str) 9 1 dn.length true):=fun X=>ad hj [X]
    (refine aa pp ?_;refine gN (zTi h0 (zTi h2 (zTi h3 (zTi h4 (zTi h5 (zTi h6 (zTi @aC ho))))))) ?_)
    have gw:j<b.length:=(zTk.1 hj).1
    refine⟨⟨by omega,by omega,by omega⟩,by omega,⟨by unfold maxLen;omega,by omega⟩,⟨by omega,by omega⟩,⟨by omega,by omega⟩,⟨by omega,by omega⟩,
     ⟨i+5,i+5,_,dn++[(t.take i).drop a],h0,h2,h3,rfl,rfl,rfl,by omega,by omega,by simp;omega,?_,.inr ⟨(b++[av.own [.str ((t.take i).drop a)] 9 1 1 true]).length,by simp,?_,?_⟩,((bc.app _).set nU _).app _⟩,?_⟩
    ·rw[jL,show (t.take (i+5)).drop (i+5)=[] by simp]
     cases h:BL (t.drop (i+5)) <;> simp[BL]at h ⊢ <;> rw[h] <;> simp
    ·have:=bc.1;simp;omega
    ·rw[List.getElem?_append_right (by simp)];simp
    ·rw[ao (k:=.i64) (n:=(i:Int)+4+1) rfl];omega
 ·have js:i=t.length:=by omega
  subst js
  rw[List.drop_length,BJ,List.take_length]at jL
  rw[jL]
  simp only[Option.map_some]
  rcases fD with⟨rfl,jT,hda0⟩|⟨j,rfl,nU,hj⟩
  ·obtain rfl:dn=[]:=by simpa using jT
   refine gN (zTi h0 (zTi h2 (zTi h3 (zTi h4 (zTi h5 (zTi h6 @aC)))))) ?_
   refine⟨fun h=>absurd h (by simp),fun _=>⟨⟨by omega,by omega⟩,by omega,⟨by unfold maxLen;omega,by omega⟩,(bc.app _).app _,(b++[av.own [.str (t.drop a)] 9 1 1 true]).length,?_,aC _ _,rfl⟩⟩
   have:=bc.1;simp;omega
  ·have ho:∀ X,(b++[X])[j]? = some (.own (dn.map SV.str) 9 1 dn.length true):=fun X=>ad hj [X]
   refine gN (zTi h0 (zTi h2 (zTi h3 (zTi h4 (zTi h5 (zTi h6 (zTi @aC ho))))))) ?_
   have gw:j<b.length:=(zTk.1 hj).1
   refine⟨fun h=>absurd h (by simp),fun _=>⟨⟨by omega,by omega⟩,by omega,⟨by unfold maxLen;omega,by omega⟩,((bc.app _).set nU _).app _,(b++[av.own [.str (t.drop a)] 9 1 1 true]).length,?_,?_,?_⟩⟩
   ·have:=bc.1;simp;omega
   ·rw[List.getElem?_append_right (by simp)];simp
   ·simp only[zTu,zTn,zTm]
    rw[show decide ((0:Int)<dn.length)=decide (1<dn.length+(0+1)) from decide_eq_decide.2 ⟨fun h=>by omega,fun h=>by omega⟩]
theorem CK {t:Bytes}{L:List Bytes}(h:BL t=some L):tE t=decide (1<L.length):=by
 unfold tE
 rw[h]
 match L with
 | []=>rfl
 | [_]=>rfl
 | _::_::_=>simp
theorem Dt (t uri:Bytes)(hu:uri.length≤300000):PC Tryz.V 142 [.str t,.str uri] (.eW [.str (jC t uri).1,.int .i64 (jC t uri).2]):=by
 have pe:=mE uri [] (by omega) (by simp)
 have vV:=eO [] uri
 unfold jC
 generalize aH [] uri=E at pe vV ⊢
 refine aZ 3000 Tryz.func142 rfl Tryz.ntmps142 Tryz.results142 Tryz.call142 (by simp) (by simp[flat,flat.ai]) (by simp[flat,flat.ai]) ?_
 refine bC ?_
 refine⟨fun h=>?_,fun h=>?_⟩
 ·have h:4096<t.length:=(by simp at h;omega)
  rw[if_pos h]
 have h:¬ 4096<t.length:=(by simp at h;omega)
 rw[if_neg h]
 refine ae (CW t (by omega)) ?_
 rintro r b ⟨bc,hr⟩
 cases hq:BL t with
 | none =>
   rw[hq]at hr
   subst hr
   refine se ?_
   rw[if_pos (by unfold tE;rw[hq])]
 | some L =>
   rw[hq]at hr
   obtain⟨j,nU,hj,rfl⟩:=hr
   rw[CK hq]
   refine bC ?_
   refine⟨fun h2=>(by rw[if_pos (by simpa using h2)]),fun h2=>?_⟩
   rw[if_neg (by simpa using h2)]
   have hLa:L=j8 t:=by
    rw[tpl_all]at hq
    split at hq
    ·cases hq
    ·exact(Option.some.inj hq).symm
   have hLl:∀ x∈L,x.length≤t.length:=by rw[hLa];exact HC t
   have hLc:L.length≤t.length+1:=by rw[hLa];exact HD t
   clear hLa hq bc h2
   refine az (fun σ=>∃ k:Nat,k≤L.length∧lk 1 σ.t=some (.str uri)∧lk 4 σ.t=some (.str [])∧lk 5 σ.t=some (.int .i64 0)∧lk 8 σ.t=some (.str (ez E (L.take k)))∧lk 21 σ.t=some (.o j L.length)∧lk 22 σ.t=some (.int .i64 L.length)∧lk 23 σ.t=some (.int .i64 k) ∧
    σ.b[j]? = some (.own (L.map SV.str) 9 1 L.length true)∧(ez E (L.take k)).length≤8192) (fun σ=>L.length - fX 23 σ) ⟨0,by omega,rfl,rfl,rfl,rfl,rfl,rfl,rfl,hj,by simp[ez]⟩ ?_
   clear hj
   rintro⟨tt,b⟩ ⟨k,hk,h1,h4,h5,h8,uG,h22,h23,hj,gw⟩
   simp only at h1 h4 h5 h8 uG h22 h23 hj
   rw[ao h23]
   by_cases aA:k<L.length
   ·have hx:(L.map SV.str)[k * 1]? = some (.str L[k]):=by simp[aA]
    have od:=hLl L[k] (List.getElem_mem aA)
    have KY:=CL (e:=E) aA
    have fj:=ED E L k aA
    refine gN (zTi h1 (zTi h4 (zTi h5 (zTi h8 (zTi uG (zTi h22 (zTi h23 (zTi hj hx)))))))) ?_
    refine⟨fun _=>⟨⟨by omega,by omega⟩,by simp;omega,fun h0=>?_,fun h0=>?_⟩,fun h=>absurd h (by simp;omega)⟩
    ·have h0:¬ k=0:=by simp at h0;omega
     have fj:=fj h0
     rw[if_neg h0]at KY
     (refine aa pe ?_;refine gN (zTi h1 (zTi h4 (zTi h5 (zTi h8 (zTi uG (zTi h22 (zTi h23 hj))))))) ?_)
     refine⟨by omega,fun hl=>?_,fun hl=>⟨?_,⟨by omega,by omega⟩,⟨k+1,by omega,by rw[KY],rfl,?_⟩,?_⟩⟩
     ·have hl:4096<(ez E (L.take k)++E).length:=by simp only[decide_eq_true_eq]at hl;omega
      rw[zTu]at hl
      rw[if_pos (by omega)]
     ·have hl:(ez E (L.take k)++E).length≤4096:=(by simp only[decide_eq_true_eq,decide_eq_false_iff_not]at hl;omega)
      omega
     ·have hl:(ez E (L.take k)++E).length≤4096:=(by simp only[decide_eq_true_eq,decide_eq_false_iff_not]at hl;omega)
      rw[KY,zTu];omega
     ·rw[ao (k:=.i64) (n:=(k:Int)+1) rfl];omega
    ·have h0:k=0:=by simp at h0;omega
     rw[if_pos h0,List.append_nil]at KY
     refine⟨by omega,⟨by omega,by omega⟩,⟨k+1,by omega,by rw[KY],rfl,?_⟩,?_⟩
     ·rw[KY,zTu,show (ez E (L.take k)).length=0 by rw[h0];rfl];omega
     ·rw[ao (k:=.i64) (n:=(k:Int)+1) rfl];omega
   ·have js:k=L.length:=by omega
    subst js
    rw[List.take_length]at h8 gw
    refine gN (zTi h1 (zTi h4 (zTi h5 (zTi h8 (zTi uG (zTi h22 (zTi h23 hj))))))) ?_
    refine⟨fun h=>absurd h (by simp),fun _=>⟨fun hl=>?_,fun hl=>?_⟩⟩
    ·rw[if_pos (by simp only[decide_eq_true_eq]at hl;omega)]
    ·rw[if_neg (by simp only[decide_eq_false_iff_not]at hl;omega)]
def lkS (r t:Bytes):List SV:=[.str r,.str [],.str [],.str t,.aj,.aj]
def Mw (a t:Bytes):List SV:=[.str ([111,116,104,101,114]:List UInt8),.str [],.str [],.str a,.aj,.aj,.str ([108,114,100,100]:List UInt8),.str [],.str [],.str t,.aj,.aj]
theorem E1 {bs:List av}{a t:Bytes}{q:Nat}{m:Bool}(hq:bs[q]? = some (.own (Mw a t) 132 6 2 m)):SC Tryz.V 141 [.agg [.str [],.aj,.aj,.o q 2],.str ([108,114,100,100]:List UInt8)] bs (fun r b=>∃ q1,r=.o q1 1∧Kp bs b∧b[q1]? = some (.own (lkS ([108,114,100,100]:List UInt8) t) 132 6 1 true)):=by
 have ql:=(zTk.1 hq).1
 unfold Mw at hq
 have e1:((([111,116,104,101,114]:List UInt8):Bytes)==([108,114,100,100]:List UInt8))=false:=by decide
 have e2:((([108,114,100,100]:List UInt8):Bytes)==([108,114,100,100]:List UInt8))=true:=by decide
 refine bo 3000 Tryz.func141 rfl Tryz.ntmps141 Tryz.results141 Tryz.call141 (by simp) (ah bs.length _ (by simp[within,within.ax,ql])) ?_
 refine gL0 ?_
 refine az (fun σ=>lk 1 σ.t=some (.str ([108,114,100,100]:List UInt8))∧lk 9 σ.t=some (.o q 2)∧lk 10 σ.t=some (.int .i64 2)∧((lk 11 σ.t=some (.int .i64 0)∧lk 5 σ.t=some .aj∧σ.b=bs++[.cells [.str [],.aj,.aj,.o q 2] 135 true])∨(lk 11 σ.t=some (.int .i64 1)∧lk 5 σ.t=some .aj∧Kp bs σ.b)∨(lk 11 σ.t=some (.int .i64 2)∧∃ q1,lk 5 σ.t=some (.o q1 1)∧Kp bs σ.b∧σ.b[q1]? = some (.own (lkS ([108,114,100,100]:List UInt8) t) 132 6 1 true)))) (fun σ=>2 - fX 11 σ) ⟨rfl,rfl,rfl,.inl ⟨rfl,rfl,rfl⟩⟩ ?_
 rintro⟨t1,b1⟩ ⟨h1,h9,de,⟨eJ,h5,hb⟩|⟨eJ,h5,bc⟩|⟨eJ,q1,h5,bc,jS⟩⟩
 ·simp only at h1 h9 de eJ h5 hb
  subst hb
  rw[ao eJ]
  refine gL (zTi h1 (zTi h9 (zTi de (zTi eJ (zTi h5 (zTi (ad hq) e1)))))) ?_
  exact⟨by omega,.inr (.inl ⟨rfl,(Kp.refl bs).app _⟩),by rw[ao (k:=.i64) (n:=(0:Int)+1) rfl];omega⟩
 ·simp only at h1 h9 de eJ h5 bc
  have cE:=bc.at hq
  rw[ao eJ]
  simp only[cz,↓Xn,↓Xo,↓Xg,↓Xd,↓Xe,↓Xf,Tryz.VΓ,Tryz.Γs,Xp,Xi,Nat.reduceAdd,Nat.reduceSub,Nat.reduceLT,Nat.reduceLeDiff,reduceIte,reduceCtorEq,Nat.reduceEqDiff,implies_true,forall_const,cw,eb,beq_self_eq_true,bne_self_eq_false,Int.reduceBEq,Int.reduceBNe,Int.reduceLT,Int.reduceLE,zTn,zTm,Nat.reduceAdd,zTt,decide_true,decide_false,zTs,zTp,Int.reduceLT,Int.reduceToNat,Nat.zero_mul,h1,h9,de,eJ,h5,cE,e2,Nat.one_mul,Int.reduceAdd]
  exact⟨by unfold maxLen;omega,.inr (.inr ⟨_,rfl,bc.app _,aU _ _ 2⟩),by rw[ao (k:=.i64) (n:=(2:Int)) rfl];omega⟩
 ·simp only at h1 h9 de eJ h5 bc jS
  rw[ao eJ]
  refine gL (zTi h1 (zTi h9 (zTi de (zTi eJ h5)))) ?_
  exact⟨q1,rfl,bc,jS⟩
theorem xz {bs:List av}{a t uri:Bytes}(hu:uri.length≤300000){q:Nat}{m:Bool}(hq:bs[q]? = some (.own (Mw a t) 132 6 2 m)):SC Tryz.V 79 [.agg [.str [],.aj,.aj,.o q 2],.str uri] bs (fun r b=>∃ (v:bM) (e:Int),Small v∧r=.eW [cQ v,.int .i64 e]∧Kp bs b):=by
 have ql:=(zTk.1 hq).1
 have pX:=Dt t uri hu
 have pP:=lD (jC t uri).1
 have hs:=qv (jC t uri).1
 generalize bz (jC t uri).1=z at pP hs
 generalize jC t uri=y at pX pP
 obtain⟨v,f⟩:=z
 obtain⟨x,e⟩:=y
 simp only at pX pP hs
 unfold cQ at pP
 refine bo 3000 Tryz.func79 rfl Tryz.ntmps79 Tryz.results79 Tryz.call79 (by simp) (ah bs.length _ (by simp[within,within.ax,ql])) ?_
 unfold cQ
 refine gL0 ?_
 refine ae (E1 (ad hq _)) ?_
 rintro r b ⟨q1,rfl,hk,jS⟩
 have bJ:=((Kp.refl bs).app [.cells [.str [],.aj,.aj,.o q 2] 135 true,.cells [.str [],.int .i64 0,.str [],.str [],.str [],.bool false,.bool false] 35 true]).trans hk
 have f1:=hk.at (aU bs _ 1)
 have hf1l:=(zTk.1 f1).1
 refine gL0 ?_
 refine az (fun σ=>lk 1 σ.t=some (.str uri)∧lk 4 σ.t=some (.p (bs.length+1) 0)∧lk 13 σ.t=some (.o q1 1)∧lk 14 σ.t=some (.int .i64 1)∧(lk 15 σ.t=some (.int .i64 0)∧σ.b=b∨lk 15 σ.t=some (.int .i64 1)∧Kp b σ.b)) (fun σ=>1 - fX 15 σ) ⟨rfl,rfl,rfl,rfl,.inl ⟨rfl,rfl⟩⟩ ?_
 rintro⟨t1,b1⟩ ⟨h1,h4,gy,kN,⟨AJ,hb⟩|⟨AJ,kg⟩⟩
 ·simp only at h1 h4 gy kN AJ hb
  subst hb
  rw[ao AJ]
  unfold lkS at jS
  have fA:∀ (l:List av) X,(b1++l).set (bs.length+1) X=b1.set (bs.length+1) X++l:=fun l X=>aO hf1l l X
  have Em:=fun X l=>cA hf1l X l
  have hkS:=fun X l=>(bJ.set (j:=bs.length+1) (by omega) X).app l
  cases ht:(t==[])
  ·refine gL (zTi h1 (zTi h4 (zTi gy (zTi kN (zTi AJ (zTi jS ht)))))) ?_
   (refine aa (pX) ?_;refine gL (zTi h1 (zTi h4 (zTi gy (zTi kN (zTi AJ (zTi jS ht)))))) ?_)
   cases he:(e != 0) <;> cases hf:(f != 0)
   ·(refine aa (pP) ?_;refine gL (zTi h1 (zTi h4 (zTi gy (zTi kN (zTi AJ (zTi jS (zTi ht (zTi he (zTi hf (zTi (ad f1) (zTi fA Em))))))))))) ?_)
    exact⟨v,0,hs,rfl,hkS _ _⟩
   all_goals
    (refine aa (pP) ?_;refine gL (zTi h1 (zTi h4 (zTi gy (zTi kN (zTi AJ (zTi jS (zTi ht (zTi he (zTi hf (zTi (ad f1) (zTi fA Em))))))))))) ?_)
    exact⟨bM.none,_,Small.Hg (by simp),rfl,hkS _ _⟩
  ·refine gL (zTi h1 (zTi h4 (zTi gy (zTi kN (zTi AJ (zTi jS ht)))))) ?_
   exact⟨by omega,.inr ⟨rfl,(Kp.refl _).app _⟩,by rw[ao (k:=.i64) (n:=(0:Int)+1) rfl];omega⟩
 ·simp only at h1 h4 gy kN AJ kg
  rw[ao AJ]
  have f1':=kg.at f1
  have l8:=(zTk.1 f1').1
  have hsX:∀ X,(b1.set (bs.length+1) X)[bs.length+1]? = some X:=fun X=>zTl l8
  refine gL (zTi h1 (zTi h4 (zTi gy (zTi kN (zTi AJ (zTi f1' hsX)))))) ?_
  exact⟨bM.none,_,Small.Hg (by simp),rfl,(bJ.trans kg).set (by omega) _⟩
theorem xn:∀ (m:Nat)(s:Bytes),s.length≤m→(encode 50 s).length≤2 * s.length+20
 | 0,s,h=>by rw[zTF.1 (Nat.le_zero.1 h),iE];simp
 | m+1,s,h=>by
   by_cases hs:s=[]
   ·rw[hs,iE];simp
   ·have h1:=kQ (size:=50) hs
    have h3:=xn m (s.drop (cZ 50 s)) (by simp;omega)
    rw[rA hs]
    simp only[zTu,List.length_drop,List.length_take]at h3 ⊢
    have hc:crlf.length=2:=rfl
    by_cases hl:50≤s.length
    ·have e:cZ 50 s=50:=by unfold cZ;omega
     have e2:(nv 50).length=2:=by rw[nS (by omega),nS (by omega),jM];rfl
     rw[e]at h3 ⊢
     rw[e2]
     omega
    ·have e:cZ 50 s=s.length:=by unfold cZ;omega
     have h2:(nv s.length).length≤2:=by
      by_cases h0:s.length=0
      ·rw[h0,jM];simp
      ·rw[nS (by omega)]
       by_cases h1:s.length / 16=0
       ·rw[h1,jM];simp
       ·rw[nS (by omega),show s.length / 16 / 16=0 by omega,jM];simp
     rw[e]at h3 ⊢
     rw[List.drop_length,iE]
     simp only[zTn,zTm]
     omega
theorem Ji {st:Nat}(hY:st≤1000000000)(kd:Bytes)(fs:List (Bytes × Bytes))(body:Bytes)(hb:body.length≤1000000000)(ch:Bool):(Ky st kd fs body ch).length≤kd.length+cF fs+4 * fs.length+2 * body.length+400:=by
 have key:∀ fs:List (Bytes × Bytes),(eH st fs body ch).length≤cF fs+4 * fs.length+2 * body.length+300:=fun fs=>by
  cases ch
  ·have:=lC hY fs body hb
   omega
  ·have h1:=iL st hY (fs++[(xx,Er)])
   have h2:=xn _ body (zTz _)
   rw[gh]at h1
   simp only[cF,zTu,zTn,zTm]at h1
   have iU:xx.length=17:=rfl
   have hcl2:Er.length=7:=rfl
   unfold eH
   simp only[if_true,zTu]
   omega
 unfold Ky
 split
 ·have:=key fs;omega
 ·have:=key ((([99,111,110,116,101,110,116,45,116,121,112,101]:List UInt8),kd)::fs)
  simp only[cF,zTn,zTm]at this
  omega
theorem EE (d:iz):Small (gq d).1:=by
 unfold gq
 split
 ·exact Small.Hg (by simp)
 rename_i h
 split
 ·exact Small.Hg (by simp)
 unfold nJ
 split
 ·exact Small.Hg (by simp)
 rename_i h2
 have h1:=cR (Ag (d:=d) (by simpa using h)).1
 have h3:=wA ⟨(bV d).1.1,(bV d).1.2,ou (aF 58 d.id).tail,[],[],false,false⟩ (fun _=>rfl) (fun _=>rfl)
 simp only[zTm]at h3
 exact⟨by simp only[zTm];omega,by simp only;omega,by simp only;omega⟩
theorem vE (s:Bytes):IdB (cX s).1:=by
 by_cases h:(cX s).2=0
 ·have hk:=Nt (s:=s) (i:=(cX s).1) (by rw[← h])
  have h1:=cR hk.2.1
  have h2:(cX s).1.text.length≤4096:=by
   apply Nat.le_of_not_lt
   intro hl
   have h1:=hk.1
   rw[show cX (cX s).1.text=(kT.none,5) from if_pos hl]at h1
   simp at h1
  exact⟨h2,by omega,by omega,by omega⟩
 ·rw[F7 s h];exact⟨by simp[kT.none],by simp[kT.none],by simp[kT.none],by simp[kT.none]⟩
theorem lU (L:List fK):(L.flatMap ac).all Vc.one=true:=by
 induction L with
 | nil=>rfl
 | cons a L ih=>rw[zTA,List.all_append,ih];rfl
def G3:OT:=(.cH 3 (.cH 5 (.alt (.one 0 (.alt (.one 1 (.alt (.one 2 (.alt (.one 4 (.one 6 (.one 7 (.one 8 (.cH 9 .leaf))))) (.one 6 (.one 4 (.one 7 (.one 8 (.cH 9 .leaf))))))) (.alt (.one 4 (.alt (.one 2 (.one 6 (.one 7 (.one 8 (.cH 9 .leaf))))) (.one 6 (.alt (.one 2 (.one 7 (.one 8 (.cH 9 .leaf)))) (.one 7 (.one 2 (.one 8 (.cH 9 .leaf)))))))) (.one 6 (.alt (.one 2 (.one 4 (.one 7 (.one 8 (.cH 9 .leaf))))) (.one 4 (.alt (.one 2 (.one 7 (.one 8 (.cH 9 .leaf)))) (.one 7 (.one 2 (.one 8 (.cH 9 .leaf))))))))))) (.one 4 (.one 1 (.alt (.one 2 (.one 6 (.one 7 (.one 8 (.cH 9 .leaf))))) (.one 6 (.alt (.one 2 (.one 7 (.one 8 (.cH 9 .leaf)))) (.one 7 (.one 2 (.one 8 (.cH 9 .leaf))))))))))) (.one 4 (.one 0 (.one 1 (.alt (.one 2 (.one 6 (.one 7 (.one 8 (.cH 9 .leaf))))) (.one 6 (.alt (.one 2 (.one 7 (.one 8 (.cH 9 .leaf)))) (.one 7 (.one 2 (.one 8 (.cH 9 .leaf)))))))))))))
def AnsR (bs:List av)(i:Nat)(n:Nat)(r:SV)(b:List av):Prop:=∃ (A:List fK) (L':List Int) (q:Nat),r=.o q A.length∧0<A.length∧A.length≤n∧bs.length≤q∧b[q]? = some (.own (A.flatMap ac) 33 7 A.length true)∧(∀ a∈A,ra a)∧aW b i L'∧fI i bs b
theorem sc_jrd {bs:List av}{a t:Bytes}{q:Nat}(hq:bs[q]? = some (.own (Mw a t) 132 6 2 true))(ha:a.length≤20000)(ht:t.length≤20000):SC Tryz.V 77 [.agg [.str [],.aj,.aj,.o q 2]] bs (fun r b=>∃ v,r=.agg (tv v)∧Kp (bs.set q (.own (Mw a t) 132 6 2 false)) b∧Tr b 4 v) :=
 mz hq (ic (L:=[⟨([111,116,104,101,114]:List UInt8),[],[],a⟩,⟨([108,114,100,100]:List UInt8),[],[],t⟩]) [] (by simp) (.inl ⟨rfl,rfl⟩) (by simp) (by simp) (.inr ⟨q,rfl,zTl (zTk.1 hq).1⟩) (by simp) (fun l hl=>by
  rcases zTH.1 hl with rfl|hl
  ·exact⟨by simp,by simp,by simp,ha⟩
  ·rw[zTE.1 hl];exact⟨by simp,by simp,by simp,ht⟩))
theorem E4 {bs:List av}{i:Nat}{L:List Int}(h:aW bs i L)(id:kT)(hid:IdB id){x0:SV}{N:List Bytes}(hx0:Rs bs x0 N)(hN:N.length≤8)(Gt:Le 4096 N):SC Tryz.V 31 [.p i 0,kt id,x0] bs (AnsR bs i 30):=by
 have dF:i<bs.length:=by obtain⟨x,hi,-⟩:=h;exact(zTk.1 hi).1
 have zD:=hx0.within
 refine sC (fun n=>if n=20 then .all G3 else if n=28 then .ord [0,1,2,3,5,6,7,8,4,9,10,11] else .ord []) 3000 Tryz.func31 rfl Tryz.ntmps31 Tryz.results31 Tryz.call31 (by simp) (ah bs.length _ (by simp[within,within.ax,kt,dF,zD])) ?_
 have sDoc:=fun X=>E2 (bs:=bs++X) (h.app X) id hid.1 (hx0.ro ((Ro.refl bs).app X)) hN Gt
 have pQ:=Fy id hid
 have pM:=yW id
 have pH:=Ib id
 have hM:Small (pz id ([47,46,119,101,108,108,45,107,110,111,119,110,47,104,111,115,116,45,109,101,116,97,46,106,115,111,110]:List UInt8)):=xu hid (by simp)
 have hH:Small (pz id ([47]:List UInt8)):=xu hid (by simp)
 generalize pz id _=um at pM hM
 generalize pz id _=uh at pH hH
 have pD:=lF id.text
 have pT:=wS (bE id.text).1 (F4 id.text)
 have hT:=EE (bE id.text).1
 generalize gq (bE id.text).1=zt at pT hT
 generalize bE id.text=zd at pD pT
 obtain⟨d,ed⟩:=zd
 obtain⟨ut,et⟩:=zt
 obtain⟨uq,eq,hQ,pQ⟩:=pQ
 simp only at pD pT hT
 unfold kt at sDoc pQ pM pH
 unfold cQ at pQ pM pH pT
 unfold pk at pD pT
 unfold kt
 refine dV ?_
 refine ae (sDoc _) ?_
 rintro r b ⟨body,kd,L1,rfl,mh,NR,Br,cP⟩
 have p7:=cP.at (aI bs _) (by omega)
 have Lr:=((fI.refl i bs).app _).trans cP
 clear sDoc
 refine dV ?_
 refine ae (HT Br) ?_
 rintro r b2 ⟨fs,L2,q,rfl,Bo,p6,hfs,hq,cE,Lt,bJ⟩
 have p7:=bJ.at p7 (by omega)
 replace hq:b.length≤q:=hq
 have hK2:=Lr.trans bJ
 have Oh:=Lr.1
 refine dV ?_
 refine ae (eA Lt 3 (by omega)) ?_
 rintro r b3 ⟨v,L3,rfl,hv,vY,eF⟩
 have p7:=eF.at p7 (by omega)
 have xL:=hK2.trans eF
 have cE:=eF.at cE (by omega)
 refine dV ?_
 refine ae (tN (bs:=b3) (x:=.o q fs.length) (fs:=fs) (.inr ⟨q,true,rfl,Bo,cE⟩) (by omega) (by omega) 200 (by omega) kd (by omega) body (by omega) (v==0)) ?_
 rintro r b4 ⟨rfl,rfl⟩
 have vQ:=Ji (st:=200) (by omega) kd fs body (by omega) (v==0)
 generalize Ky 200 kd fs body (v==0)=raw at vQ ⊢
 replace vQ:raw.length≤3000000:=by omega
 clear cE mh NR cP bJ eF Lr hK2 Br Lt hfs Bo p6 hv
 have hbl3:=xL.1
 have wk:(id.kind==4)=true∨(id.kind==4)=false:=by cases id.kind==4 <;> simp
 rcases wk with wk|wk
 ·refine gA (zTi p7 wk) ?_
  (refine aa (pD) ?_;refine dV ?_)
  (refine aa (pT) ?_;refine dV ?_)
  refine ae (eA (vY.app _) 12 (by omega)) ?_
  rintro r b5 ⟨v5,L5,rfl,hv5,r8,rK⟩
  have nE:=(xL.app _).trans rK
  have hbu:=rK.at (aU b4 _ 1) (by omega)
  cases w5:(v5==1)
  ·refine gA (zTi w5 hbu) ?_
   refine ae (jD r8 ut hT raw vQ) ?_
   rintro r b6 ⟨A,L6,q,rfl,h0,h1,hq,cE,hA,Mm,lJ⟩
   refine dV ?_
   exact⟨A,L6,q,rfl,h0,by omega,by have:=nE.1;omega,cE,hA,Mm,nE.trans lJ⟩
  ·refine gA (zTi w5 hbu) ?_
   refine ae (yD r8 ut hT) ?_
   rintro r b6 ⟨a,L6,rfl,hA,Mm,lJ⟩
   have Mk:=nE.trans lJ
   unfold ac
   refine dV ?_
   exact⟨by omega,[a],L6,_,rfl,by simp,by simp,by have:=Mk.1;omega,aI _ _,(fun x hx=>by rw[zTE.1 hx];exact hA),Mm.app _,Mk.app _⟩
 refine gA (zTi p7 wk) ?_
 (refine aa (pQ) ?_;refine gA (ad p7) ?_)
 (refine aa (pM) ?_;refine gA (ad p7) ?_)
 (refine aa (pH) ?_;refine gA (ad p7) ?_)
 refine ae (eA (vY.app _) 8 (by omega)) ?_
 rintro r b5 ⟨v5,L5,rfl,hv5,r8,rK⟩
 have nE:=(xL.app _).trans rK
 have hbi5:=rK.at (ad p7 _) (by omega)
 have IF:=rK.at (aI b4 _) (by omega)
 have hbm5:=rK.at (aU b4 _ 1) (by omega)
 have hbh5:=rK.at (aU b4 _ 2) (by omega)
 have hbl5:=rK.1
 simp only[zTu,zTn,zTm,zTK]at hbl5
 clear rK p7 vY xL
 have w1:(v5==1)=true∨(v5==1)=false:=by cases v5==1 <;> simp
 have w2:(v5==2)=true∨(v5==2)=false:=by cases v5==2 <;> simp
 have w3:(v5==3)=true∨(v5==3)=false:=by cases v5==3 <;> simp
 have w4:(v5==4)=true∨(v5==4)=false:=by cases v5==4 <;> simp
 rcases w1 with w1|w1
 ·refine gA (zTi w1 IF) ?_
  refine ae (yD r8 uq hQ) ?_
  rintro r b6 ⟨a,L6,rfl,hA,Mm,lJ⟩
  have Mk:=nE.trans lJ
  unfold ac
  refine dV ?_
  exact⟨by omega,[a],L6,_,rfl,by simp,by simp,by have:=Mk.1;omega,aI _ _,(fun x hx=>by rw[zTE.1 hx];exact hA),Mm.app _,Mk.app _⟩
 have w23:((v5==2)=true∨((v5==2)=false∧(v5==3)=true))∨((v5==2)=false∧(v5==3)=false):=by cases v5==2 <;> cases v5==3 <;> simp
 rcases w23 with w23|⟨w2,w3⟩
 ·rcases w23 with w2|⟨w2,w3⟩
  rotate_left
  refine gA (zTi w1 (zTi w2 w3)) ?_
  rotate_left
  have w3:(v5==3)=false:=by simp at w2 ⊢;omega
  refine gA (zTi w1 w2) ?_
  all_goals
   refine⟨by omega,ae (iB r8 [([104,116,116,112,115,58,47,47,101,46,101,120,97,109,112,108,101,47,108,114,100,100,63,114,61,123,117,114,105,125]:List UInt8),([104,116,116,112,115,58,47,47,97,46,101,120,97,109,112,108,101,47,123,117,114,105,125]:List UInt8),([104,116,116,112,58,47,47,101,46,101,120,97,109,112,108,101,47,123,117,114,105,125]:List UInt8),([104,116,116,112,115,58,47,47,101,46,101,120,97,109,112,108,101,47,123,120,125]:List UInt8),([]:List UInt8)] (n:=5) (m:=100) rfl (by omega) (by decide) rfl) ?_⟩
   rintro r b6 ⟨t,L6,rfl,ht,Mm,lJ⟩
   have Mk:=nE.trans lJ
   have hbi6:=lJ.at hbi5 (by omega)
   have hbq6:=lJ.at IF (by omega)
   have hbm6:=lJ.at hbm5 (by omega)
   have hbl6:=lJ.1
   clear lJ hbi5 IF hbm5 hbh5
   refine dV ?_
   have htl:t.length≤20000:=by omega
   refine⟨by omega,ae (sc_jrd (aI b6 _) (by simp) htl) ?_⟩
   rintro r b7 ⟨tr,rfl,Ld,hT7⟩
   simp only[n9,List.set_cons_zero]at Ld
   have hj7:=Ld.at (aU b6 _ 1)
   have hl7:=Ld.at (aI b6 _)
   have hbi7:=Ld.at (ad hbi6 _)
   have hbq7:=Ld.at (ad hbq6 _)
   have hbm7:=Ld.at (ad hbm6 _)
   have hK7:=(Mk.app _).trans (fI.of Ld)
   have hD7:aW b7 i L6:=(Mm.app _).ro (Ld.2 i (by have:=Mk.1;simp;omega)) Ld.ro
   have hbl7:=Ld.1
   simp only[zTu,zTn,zTm,zTK]at hbl7
   obtain⟨-,-,t3,t4⟩:=hT7.nK
   have Gc:(one tr.xk&&one tr.xi)=true:=by rw[t3,t4];rfl
   have sW:=iX (by omega) hT7
   clear Ld hbi6 hbq6 hbm6 Mm t3 t4
   unfold tv at sW ⊢
   refine gA Gc ?_
   refine ae sW ?_
   rintro r b8 ⟨s,e,rfl,hs,hk8⟩
   have hj8:=hk8.at hj7
   have hl8:=hk8.at hl7
   have Ln:=hk8.at hbi7
   have Ll:=hk8.at hbq7
   have Lm:=hk8.at hbm7
   have hK8:=hK7.trans (fI.of hk8)
   have hD8:aW b8 i L6:=hD7.ro (hk8.2 i (by have:=hK7.1;omega)) hk8.ro
   have hbl8:=hk8.1
   clear sW hk8 hj7 hl7 hbi7 hbq7 hbm7 hD7 hT7 Gc
   refine dV ?_
   have pMi:=fun B=>o5 (bs:=B) uq hQ.fair
   have NN:=hQ.Mn (raw:=eH 404 [] [] false) (by have:=lC (st:=404) (by omega) [] [] (by simp);simp[cF]at this;omega)
   have pRw:=fun B=>tN (bs:=B) (x:=.aj) (fs:=[]) (.inl ⟨rfl,rfl,rfl⟩) (by simp) (by simp[cF]) 200 (by omega) ([97,112,112,108,105,99,97,116,105,111,110,47,106,114,100,43,106,115,111,110]:List UInt8) (by simp) s (by omega) false
   have hrw:=Ji (st:=200) (by omega) ([97,112,112,108,105,99,97,116,105,111,110,47,106,114,100,43,106,115,111,110]:List UInt8) [] s (by omega) false
   generalize Ky 200 ([97,112,112,108,105,99,97,116,105,111,110,47,106,114,100,43,106,115,111,110]:List UInt8) [] s false=rj at pRw hrw
   replace hrw:rj.length≤3000000:=by simp[cF]at hrw;omega
   generalize dj uq (eH 404 [] [] false)=mi at pMi NN
   refine ly (fun σ=>lk 0 σ.t=some (.p i 0)∧lk 4 σ.t=some (.p bs.length 0)∧lk 9 σ.t=some (.str raw)∧lk 21 σ.t=some (.p (b6.length+1) 0)∧σ.b[bs.length]? = b8[bs.length]? ∧ σ.b[b6.length]? = b8[b6.length]? ∧ σ.b[b6.length+1]? = b8[b6.length+1]? ∧ ∃ (A:List fK) (L':List Int) (q:Nat),lk 24 σ.t=some (.o q A.length)∧0<A.length∧A.length≤12∧b8.length≤q∧σ.b[q]? = some (.own (A.flatMap ac) 33 7 A.length true)∧(∀ a∈A,ra a)∧aW σ.b i L'∧fI i bs σ.b) (by kernel_rfl) (fun E' k'=>?_) ?_
   ·simp only[cz,↓Xn,↓Xo,↓Xg,↓Xd,↓Xe,↓Xf,Tryz.VΓ,Tryz.Γs,Xp,Xi,Nat.reduceAdd,Nat.reduceSub,Nat.reduceLT,Nat.reduceLeDiff,reduceIte,reduceCtorEq,Nat.reduceEqDiff,implies_true,forall_const,cw,eb,beq_self_eq_true,bne_self_eq_false,Int.reduceBEq,Int.reduceBNe,Int.reduceLT,Int.reduceLE,G3,Ll,Lm]
    repeat' first
     | (refine ae (pMi _) ?_
        rintro r B ⟨rfl,hB⟩
        cases hB.symm
        unfold ac
        refine gA (zTi Ll (zTi Lm (zTi (ad Ll) (ad Lm)))) ?_)
     | (refine ae (pRw _) ?_
        rintro r B ⟨rfl,hB⟩
        cases hB.symm
        refine gA (zTi Ll (zTi Lm (zTi (ad Ll) (ad Lm)))) ?_)
     | refine zTi ?_ ?_
    all_goals first
     | omega
     | (refine ae (jD hD8 um hM rj hrw) ?_
        rintro r b9 ⟨A,L9,q,rfl,mb,Cn,hq,cE,nF,Ls,zQ⟩
        have hal:=ep A
        refine gA (zTi (ad cE) hal) ?_
        refine⟨by omega,⟨lU A,by unfold maxLen;omega,by omega⟩,(ad (zQ.at Ln (by omega)) _).trans Ln.symm,(ad (zQ.at hl8 (by omega)) _).trans hl8.symm,(ad (zQ.at hj8 (by omega)) _).trans hj8.symm,mi::A,L9,b9.length+1,by simp[zTJ],by simp,by simp;omega,by have:=zQ.1;omega,?_,?_,Ls.app _,(hK8.trans zQ).app _⟩
        ·rw[aU];simp[ac,zTJ] <;> rfl
        ·intro a ha
         rcases zTH.1 ha with rfl|ha
         ·exact NN
         ·exact nF a ha)
     | (refine ae (jD (hD8.app _) um hM rj hrw) ?_
        rintro r b9 ⟨A,L9,q,rfl,mb,Cn,hq,cE,nF,Ls,zQ⟩
        have hal:=ep A
        have aA:=zQ.at (aI b8 _) (by have:=hK8.1;omega)
        refine gA (zTi cE (zTi aA hal)) ?_
        have hbl9:=zQ.1
        simp only[zTu,zTn,zTm,zTK]at hbl9
        have o9:=(hK8.app _).trans zQ
        refine⟨⟨lU A,by unfold maxLen;omega,by omega⟩,(ad (aw (zQ.at (ad Ln _) (by omega)) (by omega) _) _).trans Ln.symm,(ad (aw (zQ.at (ad hl8 _) (by omega)) (by omega) _) _).trans hl8.symm,(ad (aw (zQ.at (ad hj8 _) (by omega)) (by omega) _) _).trans hj8.symm,mi::A,L9,b9.length,by simp[zTJ],by simp,by simp;omega,by omega,?_,?_,(Ls.set (by omega) aA _).app _,(o9.gT (by omega) _).app _⟩
        ·rw[show b9.length=(b9.set b8.length .gone).length by simp,aI];simp[ac,zTJ] <;> rfl
        ·intro a ha
         rcases zTH.1 ha with rfl|ha
         ·exact NN
         ·exact nF a ha)
   ·rintro⟨tt,bb⟩ ⟨h0,h4,h9,uG,e1,e2,e3,A,L',q,sd,mb,hA12,hq,cE,nF,hD,hK⟩
    simp only at h0 h4 h9 uG e1 e2 e3 sd cE hD hK
    rw[Ln]at e1
    rw[hl8]at e2
    rw[hj8]at e3
    have hK8':=hK8.1
    clear Ln hl8 hj8 pMi pRw Ll Lm hD8 hK8
    refine gA (zTi h0 (zTi h4 (zTi h9 (zTi uG (zTi sd (zTi e1 e3)))))) ?_
    refine ae (xz (a:=([104,116,116,112,115,58,47,47,122,46,101,120,97,109,112,108,101,47,123,117,114,105,125]:List UInt8)) (t:=t) (by have:=hid.1;omega) e2) ?_
    rintro r b9 ⟨v,e,hv,rfl,zQ⟩
    have Of:=zQ.at cE
    have Om:=hK.trans (fI.of zQ)
    have Ls:aW b9 i L':=hD.ro (zQ.2 i (by have:=hK.1;simp only;omega)) zQ.ro
    unfold cQ
    have we:(e==0)=true∨(e==0)=false:=by cases e==0 <;> simp
    have hal:=ep A
    rcases we with we|we
    ·refine gA (zTi h0 (zTi h4 (zTi h9 (zTi uG (zTi sd we))))) ?_
     refine ae (jD (Ls.app _) v hv raw vQ) ?_
     rintro r b10 ⟨A2,L10,q2,rfl,Lw,Lv,nC,iD,vZ,hD10,IB⟩
     have Gs:=IB.at (ad Of _) (by have:=hK.1;omega)
     have hal2:=ep A2
     refine gA (zTi h0 (zTi h4 (zTi h9 (zTi uG (zTi sd (zTi Gs (zTi iD (zTi hal hal2)))))))) ?_
     refine⟨⟨lU A2,by unfold maxLen;omega,by omega⟩,A++A2,L10,b10.length,by simp,by simp;omega,by simp;omega,by have:=(Om.app [.cells [.str v.host,.int .i64 v.port,.str v.path,.str v.query,.str v.fragment,.bool v.aD,.bool v.aP] 35 true]).1;have:=IB.1;omega,?_,?_,(hD10.set (by have:=hK.1;omega) Gs _).app _,((((Om.app _).trans IB).gT (by have:=hK8';omega) _).app _)⟩
     ·rw[show b10.length=(b10.set q .gone).length by simp,aI];simp
     ·intro a ha
      rcases zTG.1 ha with ha|ha
      ·exact nF a ha
      ·exact vZ a ha
    ·refine gA (zTi h0 (zTi h4 (zTi h9 (zTi uG (zTi sd we))))) ?_
     exact⟨A,L',q,rfl,mb,by omega,by omega,ad Of _,nF,Ls.app _,Om.app _⟩
 ·rcases w4 with w4|w4
  ·obtain⟨nB,Mm,lJ,sO⟩:=Ah (r8.app [.own (([([104,116,116,112,115,58,47,47,101,46,101,120,97,109,112,108,101,47,108,105,110,107]:List UInt8),([47,104,101,114,101]:List UInt8),([120,63,121]:List UInt8),([104,116,116,112,58,47,47,101,46,101,120,97,109,112,108,101,47]:List UInt8)]:List Bytes).map .str) 9 1 4 true]) (m:=4) (by omega) rfl (aI b5 _) (by omega)
   have oL:=DD (T:=[([104,116,116,112,115,58,47,47,101,46,101,120,97,109,112,108,101,47,108,105,110,107]:List UInt8),([47,104,101,114,101]:List UInt8),([120,63,121]:List UInt8),([104,116,116,112,58,47,47,101,46,101,120,97,109,112,108,101,47]:List UInt8)]) (L:=L5) (by simp)
   rw[show ([([104,116,116,112,115,58,47,47,101,46,101,120,97,109,112,108,101,47,108,105,110,107]:List UInt8),([47,104,101,114,101]:List UInt8),([120,63,121]:List UInt8),([104,116,116,112,58,47,47,101,46,101,120,97,109,112,108,101,47]:List UInt8)]:List Bytes).length=4 from rfl]at oL
   generalize ([([104,116,116,112,115,58,47,47,101,46,101,120,97,109,112,108,101,47,108,105,110,107]:List UInt8),([47,104,101,114,101]:List UInt8),([120,63,121]:List UInt8),([104,116,116,112,58,47,47,101,46,101,120,97,109,112,108,101,47]:List UInt8)]:List Bytes).getD _ _=t at sO oL
   have Mk:=(nE.app _).trans lJ
   have hbi6:=lJ.at (ad hbi5 _) (by omega)
   have hbq6:=lJ.at (ad IF _) (by omega)
   have hbm6:=lJ.at (ad hbm5 _) (by omega)
   have hbh6:=lJ.at (ad hbh5 _) (by omega)
   have hbl6:=lJ.1
   have hw:=WL.of (t:=t) (by simpa using oL)
   have htl:t.length≤100:=hw.tn
   simp only[zTu,zTn,zTm,zTK]at hbl6
   clear lJ hbi5 IF hbm5 hbh5
   refine gA (zTi w1 (zTi w2 (zTi w3 w4))) ?_
   refine⟨by omega,ae sO ?_⟩
   rintro r b6 ⟨rfl,hB⟩
   cases hB.symm
   have pMi:=fun B u hu=>o5 (bs:=B) u hu
   have NN:=fun(u:bM) (hu:Small u)=>hu.Mn (raw:=eH 404 [] [] false) (by have:=lC (st:=404) (by omega) [] [] (by simp);simp[cF]at this;omega)
   unfold wlT at hw
   simp only[zTx,zTw]at hw
   refine dV ?_
   refine⟨by omega,by omega,by omega,Fk (by kernel_rfl),?_⟩
   have hwl:=hw.len
   generalize (60::(t++[62,59,32,114,101,108,61,34,108,114,100,100,32,120,34]):Bytes)=wt at hw hwl ⊢
   have hrw:=lC (st:=200) (by omega) [(([108,105,110,107]:List UInt8),wt)] [] (by simp)
   simp only[cF,zTn,zTm]at hrw
   have pR:=fun B (hB:B[nB.length]? = _)=>e9 (bs:=B) (x:=.o nB.length 1) (fs:=[(([108,105,110,107]:List UInt8),wt)]) (.inr ⟨nB.length,true,rfl,by simp,hB⟩) (by simp) (by simp[cF];omega) 200 (by omega) [] (by simp) false
   have pA:=eP uh hH.fair (eH 200 [(([108,105,110,107]:List UInt8),wt)] [] false)
   have hA2:=hH.Mn (raw:=eH 200 [(([108,105,110,107]:List UInt8),wt)] [] false) (by omega)
   generalize eH 200 [(([108,105,110,107]:List UInt8),wt)] [] false=rw at pR pA hA2
   generalize hmq:dj uq (eH 404 [] [] false)=mq
   generalize jJ:dj um (eH 404 [] [] false)=mm
   have hmq2:=NN uq hQ
   have hmm2:=NN um hM
   have pMq:=fun B=>pMi B uq hQ.fair
   have pMm:=fun B=>pMi B um hM.fair
   rw[hmq]at hmq2 pMq
   rw[jJ]at hmm2 pMm
   clear NN pMi
   generalize dj uh rw=ma at pA hA2
   unfold uc ac at pA
   refine gA (ad hbq6) ?_
   refine bG [] (pMq _) (fun _ _ _=>rfl) ?_
   unfold ac
   refine gA (ad hbm6) ?_
   refine bG [] (pMm _) (fun _ _ _=>rfl) ?_
   unfold ac
   refine gA (ad hbh6) ?_
   refine bG [] (pR _ (aI nB _)) (fun _ _ _=>rfl) ?_
   refine dV ?_
   (refine aY (pA) ?_;refine gA (ad hbh6) ?_)
   have z:∀ j k,j≤2→(b4.length+j=nB.length+k)=False:=fun j k hj=>eq_false (by omega)
   have z1:=fun k=>z 1 k (by omega)
   have z2:=fun k=>z 2 k (by omega)
   have z0:∀ k,(b4.length=nB.length+k)=False:=fun k=>eq_false (by omega)
   refine⟨by omega,by omega,⟨by unfold maxLen;omega,by omega⟩,?_,ae (AO hH hw (aI nB _)) ?_⟩
   ·refine bO (fun n=>if n=nB.length+1 then 1 else if n=nB.length+2 then 2 else if n=nB.length+3 then 3 else 0) ?_
    simp only[zTC,zTD,cW,eS,z0,z1,z2,eq_self,if_true,if_false,Nat.add_left_cancel_iff,Nat.reduceEqDiff]
    exact aq (by kernel_rfl)
   rintro r b9 ⟨v,e,hv,rfl,zQ⟩
   have Of:=zQ.at (aU nB _ 3)
   have Om:=(Mk.app _).trans (fI.of zQ)
   have Ls:aW b9 i _:=(Mm.app _).ro (zQ.2 i (by have:=Mk.1;simp;omega)) zQ.ro
   have hbl9:=zQ.1
   simp only[zTu,zTn,zTm,zTK]at hbl9
   have JP:∀ a∈[mq,mm,ma],ra a:=fun a ha=>by
    simp only[zTH,List.not_mem_nil,or_false]at ha
    rcases ha with rfl|rfl|rfl
    ·exact hmq2
    ·exact hmm2
    ·exact hA2
   unfold cQ
   have we:(e==0)=true∨(e==0)=false:=by cases e==0 <;> simp
   rcases we with we|we
   ·refine gA we ?_
    refine ae (jD (Ls.app _) v hv raw vQ) ?_
    rintro r b10 ⟨A2,L10,q2,rfl,Lw,Lv,nC,iD,vZ,hD10,IB⟩
    have Gs:=IB.at (ad Of _) (by have:=Mk.1;omega)
    have hal2:=ep A2
    have hbl10:=IB.1
    simp only[zTu,zTn,zTm,zTK]at hbl10
    refine gA (zTi Gs (zTi iD hal2)) ?_
    refine⟨⟨lU A2,by unfold maxLen;omega,by omega⟩,[mq,mm,ma]++A2,L10,b10.length,by(simp[zTJ];omega),by simp,by simp;omega,by omega,?_,?_,(hD10.set (by omega) Gs _).app _,((((Om.app _).trans IB).gT (by omega) _).app _)⟩
    ·rw[show b10.length=(b10.set (nB.length+3) .gone).length by simp,aI];simp[ac,zTJ];omega
    ·intro a ha
     rcases zTG.1 ha with ha|ha
     ·exact JP a ha
     ·exact vZ a ha
   ·refine gA we ?_
    exact⟨[mq,mm,ma],_,nB.length+3,rfl,by simp,by simp,by omega,ad Of _,JP,Ls.app _,Om.app _⟩
  ·refine gA (zTi w1 (zTi w2 (zTi w3 (zTi w4 IF)))) ?_
   refine ae (jD r8 uq hQ raw vQ) ?_
   rintro r b6 ⟨A,L6,q,rfl,h0,h1,hq,cE,hA,Mm,lJ⟩
   refine dV ?_
   exact⟨A,L6,q,rfl,h0,by omega,by have:=nE.1;omega,cE,hA,Mm,nE.trans lJ⟩
def nG:OT:=(.cH 0 (.cH 1 (.cH 3 (.cH 5 (.cH 7 (.alt (.one 2 (.alt (.one 4 (.one 6 (.one 8 (.one 9 (.cH 10 (.cH 11 .leaf)))))) (.one 6 (.one 4 (.one 8 (.one 9 (.cH 10 (.cH 11 .leaf)))))))) (.one 6 (.one 2 (.one 4 (.one 8 (.one 9 (.cH 10 (.cH 11 .leaf)))))))))))))
theorem aW.il {b:List av}{i:Nat}{L:List Int}(h:aW b i L):i<b.length:=by obtain⟨x,hi,-⟩:=h;exact(zTk.1 hi).1
def Et (b:List av)(lo:Nat)(x:SV)(N:List Bytes):Prop:=(x=.aj∧N=[])∨∃ q,x=.o q N.length∧lo≤q∧b[q]? = some (.own (N.map SV.str) 9 1 N.length true)
theorem gj {bs:List av}{i lo:Nat}{L:List Int}(h:aW bs i L)(id:kT)(hid:IdB id){x0:SV}{N:List Bytes}(hx:Et bs lo x0 N)(hl:i<lo)(hN:N.length≤8)(Gt:Le 4096 N):SC Tryz.V 31 [.p i 0,kt id,x0] bs (fun r b=>∃ bs':List av,bs'.length=bs.length∧(∀ k,(∀ n,x0≠.o k n)→bs'[k]? = bs[k]?)∧AnsR bs' i 30 r b):=by
 rcases hx with⟨rfl,rfl⟩|⟨q,rfl,hq,cE⟩
 ·exact(E4 h id hid (.inl ⟨rfl,rfl⟩) hN Gt).mono fun r b hr=>⟨bs,rfl,fun _ _=>rfl,hr⟩
 ·refine mz cE ((E4 (h.set (by omega) cE _) id hid (.inr ⟨q,rfl,zTl (zTk.1 cE).1⟩) hN Gt).mono fun r b hr=>⟨bs.set q _,by simp,fun k hk=>?_,hr⟩)
  refine zTj ?_
  rintro rfl
  exact hk _ rfl
theorem fI.dul {i:Nat}{a S S':List av}{x:SV}(h:fI i a S)(hl:S'.length=S.length)(hk:∀ k,(∀ n,x≠.o k n)→S'[k]? = S[k]?)(hx:∀ q n,x=.o q n→a.length≤q):fI i a S':=⟨by rw[hl];exact h.1,fun k x9 bK=>(hk k fun n e=>by have:=hx k n e;omega).trans (h.2 k x9 bK)⟩
theorem Et.low {b:List av}{lo:Nat}{x:SV}{N:List Bytes}(h:Et b lo x N):∀ q n,x=.o q n→lo≤q:=by
 rintro q n rfl
 rcases h with⟨h,-⟩|⟨p,h1,h2,-⟩
 ·cases h
 ·cases h1;exact h2
theorem Et.after {S S' b4:List av}{i lo:Nat}{x y:SV}{M:List Bytes}(hy:Et S lo y M)(Cf:∀ q n m,x=.o q n→y=.o q m→False)(hk:∀ k,(∀ n,x≠.o k n)→S'[k]? = S[k]?)(hK:fI i S' b4)(hi:i<lo):Et b4 lo y M:=by
 rcases hy with h|⟨q,h1,h2,h3⟩
 ·exact .inl h
 ·exact .inr ⟨q,h1,h2,hK.at ((hk q fun n e=>Cf q n _ e h1).trans h3) (by omega)⟩
theorem Et.lt {S:List av}{lo:Nat}{y:SV}{M:List Bytes}(hy:Et S lo y M):∀ q n,y=.o q n→q<S.length:=by
 rintro q n rfl
 rcases hy with⟨h,-⟩|⟨p,h1,-,h3⟩
 ·cases h
 ·cases h1;exact(zTk.1 h3).1
theorem MN {bs:List av}{i:Nat}{L:List Int}(h:aW bs i L):SC Tryz.V 9 [.p i 0] bs (fun r b=>∃ (s:Bytes) (A:List fK) (L':List Int) (q:Nat),r=.eW [.str s,.o q A.length]∧s.length≤100∧0<A.length∧A.length≤60∧bs.length≤q∧b[q]? = some (.own (A.flatMap ac) 33 7 A.length true)∧(∀ a∈A,ra a)∧aW b i L'∧fI i bs b):=by
 have dF:i<bs.length:=by obtain⟨x,hi,-⟩:=h;exact(zTk.1 hi).1
 refine sC (fun n=>if n=16 then .all nG else .ord []) 3000 Tryz.func9 rfl Tryz.ntmps9 Tryz.results9 Tryz.call9 (by simp) (ah bs.length _ (by simp[within,within.ax,dF])) ?_
 refine dV ?_
 refine ae (Cv h) ?_
 rintro r b1 ⟨s,L1,rfl,hs,Br,cP⟩
 refine dV ?_
 refine ae (Cv Br) ?_
 rintro r b2 ⟨t,L2,rfl,ht,Lt,bJ⟩
 have hK2:fI i bs b2:=cP.trans bJ
 have p1:=mF s
 have p2:=mF t
 have p3:=mF ([104,116,116,112,115,58,47,47,100,46,101,120,97,109,112,108,101,47,109,101]:List UInt8)
 have i1:=vE s
 have i2:=vE t
 have i3:=vE ([104,116,116,112,115,58,47,47,100,46,101,120,97,109,112,108,101,47,109,101]:List UInt8)
 generalize cX s=z1 at p1 i1
 generalize cX t=z2 at p2 i2
 generalize cX ([104,116,116,112,115,58,47,47,100,46,101,120,97,109,112,108,101,47,109,101]:List UInt8)=z3 at p3 i3
 obtain⟨id,e1⟩:=z1
 obtain⟨pf,e2⟩:=z2
 obtain⟨p3',e3⟩:=z3
 simp only at p1 p2 p3 i1 i2 i3
 unfold kt at p1 p2 p3
 refine dV ?_
 (refine aa (p1) ?_;refine dV ?_)
 (refine aa (p2) ?_;refine dV ?_)
 have bK:∀ P:kT,IdB P→Le 4096 [P.text]:=fun P hP s hs=>by rw[zTE.1 hs];exact hP.1
 refine⟨fun hc=>?_,fun hc=>?_⟩
 (refine aa (p3) ?_;refine dV ?_)
 clear hc p1 p2 p3 i2
 generalize p3'=P at i3 ⊢
 have iP:=i3
 rotate_left
 clear hc p1 p2 p3 i3
 generalize pf=P at i2 ⊢
 have iP:=i2
 all_goals
  refine⟨by omega,by omega,?_,ae (eA (Lt.app _) 10 (by omega)) ?_⟩
  ·(refine bO (fun n=>n - List.length b2) ?_;simp only[zTC,zTD,cW,eS,Nat.add_sub_cancel_left,Nat.sub_self,Nat.add_sub_cancel_left];exact aq (by kernel_rfl))
  rintro r b3 ⟨v,L3,rfl,hv,vY,eF⟩
  have qN:bs.length≤b2.length:=hK2.1
  have xL:=(hK2.app _).trans eF
  have f0:=eF.at (aI b2 _) (by omega)
  have f1:=eF.at (aU b2 _ 1) (by omega)
  have f2:=eF.at (aU b2 _ 2) (by omega)
  have f3:=eF.at (aU b2 _ 3) (by omega)
  have hbl3:=eF.1
  simp only[zTu,zTn,zTm,zTK]at hbl3
  clear eF Lt
  have hw:(v==1)=true∨(v==1)=false∧(v==2)=true∨(v==1)=false∧(v==2)=false∧(v==3)=true∨(v==1)=false∧(v==2)=false∧(v==3)=false∧(v==4)=true∨(v==1)=false∧(v==2)=false∧(v==3)=false∧(v==4)=false:=by
   cases v==1 <;> cases v==2 <;> cases v==3 <;> cases v==4 <;> simp
  rcases hw with w1|⟨w1,w2⟩|⟨w1,w2,w3⟩|⟨w1,w2,w3,w4⟩|⟨w1,w2,w3,w4⟩
  ·refine gA (zTi w1 (zTi f0 (ad f2))) ?_
   refine⟨by omega,⟨by unfold maxLen;omega,by omega⟩,?_⟩
   have hx:Et (b3++[.gone,.own [.str ([110,111,110,115,101,110,115,101]:List UInt8),.str id.text,.str P.text] 9 1 3 true]) (b2.length+2) (.o (b3.length+1) 3) [([110,111,110,115,101,110,115,101]:List UInt8),id.text,P.text]:=.inr ⟨b3.length+1,rfl,by omega,aU b3 _ 1⟩
   have hN:([([110,111,110,115,101,110,115,101]:List UInt8),id.text,P.text]:List Bytes).length≤8:=by simp
   have Gt:Le 4096 [([110,111,110,115,101,110,115,101]:List UInt8),id.text,P.text]:=fun s hs=>by
    simp only[zTH,List.not_mem_nil,or_false]at hs
    rcases hs with rfl|rfl|rfl
    ·simp
    ·exact i1.1
    ·exact iP.1
   have hy:Et (b3++[.gone,.own [.str ([110,111,110,115,101,110,115,101]:List UInt8),.str id.text,.str P.text] 9 1 3 true]) (b2.length+2) (.o (b2.length+3) 1) [id.text]:=.inr ⟨_,rfl,by omega,ad f3 _⟩
   have hM:([id.text]:List Bytes).length≤8:=by simp
   have Mj:=bK id i1
   have Cf:∀ q n m,SV.o (b3.length+1) 3=.o q n→SV.o (b2.length+3) 1=.o q m→False:=fun q n m h1 h2=>by cases h1;injection h2 with h2;omega
   have DV:=vY.app [.gone,.own [.str ([110,111,110,115,101,110,115,101]:List UInt8),.str id.text,.str P.text] 9 1 3 true]
   have JN:=xL.app [.gone,.own [.str ([110,111,110,115,101,110,115,101]:List UInt8),.str id.text,.str P.text] 9 1 3 true]
   refine ly (fun σ=>lk 2 σ.t=some (.str s)∧∃ (A:List fK) (L':List Int) (q:Nat),lk 3 σ.t=some (.o q A.length)∧0<A.length∧A.length≤60∧bs.length≤q∧σ.b[q]? = some (.own (A.flatMap ac) 33 7 A.length true)∧(∀ a∈A,ra a)∧aW σ.b i L'∧fI i bs σ.b) (by kernel_rfl) (fun E' k'=>?_) ?_
   ·simp only[cz,↓Xn,↓Xo,↓Xg,↓Xd,↓Xe,↓Xf,Tryz.VΓ,Tryz.Γs,Xp,Xi,Nat.reduceAdd,Nat.reduceSub,Nat.reduceLT,Nat.reduceLeDiff,reduceIte,reduceCtorEq,Nat.reduceEqDiff,implies_true,forall_const,cw,eb,beq_self_eq_true,bne_self_eq_false,Int.reduceBEq,Int.reduceBNe,Int.reduceLT,Int.reduceLE,nG,ad f0,ad f1]
    refine⟨⟨?_,?_⟩,?_⟩
    all_goals
     refine ae (gj DV id i1 hx (by omega) hN Gt) ?_
     rintro r b4 ⟨b3',Md,mf,A1,L4,q1,rfl,hA10,hA11,jS,ju,DW,Cm,rM⟩
     have od:=hx.low
     have g1:=rM.at ((mf (b2.length+1) fun n e=>by have:=od _ n e;omega).trans (show _=some (.cells [.int .i64 P.kind,.str P.text,.str P.host,.int .i64 P.port] 73 true) from by first|exact f1|exact ad f1 _)) (by omega)
     have hy':=hy.after Cf mf rM (by omega)
     have Iu:=hy.lt
     have DT:=(JN.dul Md mf (fun q n e=>by have:=od q n e;omega)).trans rM
     refine gA g1 ?_
     refine ae (gj Cm P iP hy' (by omega) hM Mj) ?_
     rintro r b5 ⟨b4',AF,rK,A2,L5,q2,rfl,Lw,Lv,nC,iD,vZ,r8,nE⟩
     have hbq1':=nE.at ((rK q1 fun n e=>by have:=Iu _ n e;omega).trans ju) (by have:=DV.il;omega)
     have ha1:=ep A1
     have ha2:=ep A2
     have uF:=(DT.dul AF rK (fun q n e=>by have:=hy'.low q n e;omega)).trans nE
     refine gA (zTi hbq1' (zTi iD (zTi ha1 ha2))) ?_
     have hil':=DV.il
     have hSl:=JN.1
     have h5l:=uF.1
     refine⟨⟨lU A2,by unfold maxLen;omega,by omega⟩,A1++A2,L5,b5.length,by simp,by simp;omega,by simp;omega,h5l,?_,?_,(r8.set (by omega) hbq1' _).app _,(uF.gT (by omega) _).app _⟩
     ·rw[show b5.length=(b5.set q1 .gone).length by simp,aI];simp
     ·intro a ha
      rcases zTG.1 ha with ha|ha
      ·exact DW a ha
      ·exact vZ a ha
   ·rintro⟨tt,bb⟩ ⟨h2,A,L',q,h3,mb,Cn,hq,cE,nF,hD,hK⟩
    simp only at h2 h3 cE hD hK
    refine gA (zTi h2 h3) ?_
    exact⟨s,A,L',q,rfl,hs,mb,Cn,hq,cE,nF,hD,hK⟩
  ·refine gA (zTi w1 w2) ?_
   have hx:Et b3 (b2.length+2) .aj []:=.inl ⟨rfl,rfl⟩
   have hN:([]:List Bytes).length≤8:=by simp
   have Gt:Le 4096 []:=fun s hs=>by cases hs
   have hy:Et b3 (b2.length+2) (.o (b2.length+3) 1) [id.text]:=.inr ⟨_,rfl,by omega,f3⟩
   have hM:([id.text]:List Bytes).length≤8:=by simp
   have Mj:=bK id i1
   have Cf:∀ q n m,SV.aj=.o q n→SV.o (b2.length+3) 1=.o q m→False:=fun q n m h1 h2=>by cases h1
   have DV:=vY
   have JN:=xL
   refine ly (fun σ=>lk 2 σ.t=some (.str s)∧∃ (A:List fK) (L':List Int) (q:Nat),lk 3 σ.t=some (.o q A.length)∧0<A.length∧A.length≤60∧bs.length≤q∧σ.b[q]? = some (.own (A.flatMap ac) 33 7 A.length true)∧(∀ a∈A,ra a)∧aW σ.b i L'∧fI i bs σ.b) (by kernel_rfl) (fun E' k'=>?_) ?_
   ·simp only[cz,↓Xn,↓Xo,↓Xg,↓Xd,↓Xe,↓Xf,Tryz.VΓ,Tryz.Γs,Xp,Xi,Nat.reduceAdd,Nat.reduceSub,Nat.reduceLT,Nat.reduceLeDiff,reduceIte,reduceCtorEq,Nat.reduceEqDiff,implies_true,forall_const,cw,eb,beq_self_eq_true,bne_self_eq_false,Int.reduceBEq,Int.reduceBNe,Int.reduceLT,Int.reduceLE,nG,f0,f1]
    refine⟨⟨?_,?_⟩,?_⟩
    all_goals
     refine ae (gj DV id i1 hx (by omega) hN Gt) ?_
     rintro r b4 ⟨b3',Md,mf,A1,L4,q1,rfl,hA10,hA11,jS,ju,DW,Cm,rM⟩
     have od:=hx.low
     have g1:=rM.at ((mf (b2.length+1) fun n e=>by have:=od _ n e;omega).trans (show _=some (.cells [.int .i64 P.kind,.str P.text,.str P.host,.int .i64 P.port] 73 true) from by first|exact f1|exact ad f1 _)) (by omega)
     have hy':=hy.after Cf mf rM (by omega)
     have Iu:=hy.lt
     have DT:=(JN.dul Md mf (fun q n e=>by have:=od q n e;omega)).trans rM
     refine gA g1 ?_
     refine ae (gj Cm P iP hy' (by omega) hM Mj) ?_
     rintro r b5 ⟨b4',AF,rK,A2,L5,q2,rfl,Lw,Lv,nC,iD,vZ,r8,nE⟩
     have hbq1':=nE.at ((rK q1 fun n e=>by have:=Iu _ n e;omega).trans ju) (by have:=DV.il;omega)
     have ha1:=ep A1
     have ha2:=ep A2
     have uF:=(DT.dul AF rK (fun q n e=>by have:=hy'.low q n e;omega)).trans nE
     refine gA (zTi hbq1' (zTi iD (zTi ha1 ha2))) ?_
     have hil':=DV.il
     have hSl:=JN.1
     have h5l:=uF.1
     refine⟨⟨lU A2,by unfold maxLen;omega,by omega⟩,A1++A2,L5,b5.length,by simp,by simp;omega,by simp;omega,h5l,?_,?_,(r8.set (by omega) hbq1' _).app _,(uF.gT (by omega) _).app _⟩
     ·rw[show b5.length=(b5.set q1 .gone).length by simp,aI];simp
     ·intro a ha
      rcases zTG.1 ha with ha|ha
      ·exact DW a ha
      ·exact vZ a ha
   ·rintro⟨tt,bb⟩ ⟨h2,A,L',q,h3,mb,Cn,hq,cE,nF,hD,hK⟩
    simp only at h2 h3 cE hD hK
    refine gA (zTi h2 h3) ?_
    exact⟨s,A,L',q,rfl,hs,mb,Cn,hq,cE,nF,hD,hK⟩
  ·refine gA (zTi w1 (zTi w2 w3)) ?_
   refine⟨by omega,?_⟩
   have hx:Et (b3++[.own [.str ([97,99,99,116,58,113,64,97,46,101,120,97,109,112,108,101]:List UInt8)] 9 1 1 true]) (b2.length+2) (.o (b2.length+2) 1) [P.text]:=.inr ⟨_,rfl,by omega,ad f2 _⟩
   have hN:([P.text]:List Bytes).length≤8:=by simp
   have Gt:=bK P iP
   have hy:Et (b3++[.own [.str ([97,99,99,116,58,113,64,97,46,101,120,97,109,112,108,101]:List UInt8)] 9 1 1 true]) (b2.length+2) (.o b3.length 1) [([97,99,99,116,58,113,64,97,46,101,120,97,109,112,108,101]:List UInt8)]:=.inr ⟨_,rfl,by omega,aI b3 _⟩
   have hM:([([97,99,99,116,58,113,64,97,46,101,120,97,109,112,108,101]:List UInt8)]:List Bytes).length≤8:=by simp
   have Mj:Le 4096 [([97,99,99,116,58,113,64,97,46,101,120,97,109,112,108,101]:List UInt8)]:=fun s hs=>by rw[zTE.1 hs];simp
   have Cf:∀ q n m,SV.o (b2.length+2) 1=.o q n→SV.o b3.length 1=.o q m→False:=fun q n m h1 h2=>by cases h1;injection h2 with h2;omega
   have DV:=vY.app [.own [.str ([97,99,99,116,58,113,64,97,46,101,120,97,109,112,108,101]:List UInt8)] 9 1 1 true]
   have JN:=xL.app [.own [.str ([97,99,99,116,58,113,64,97,46,101,120,97,109,112,108,101]:List UInt8)] 9 1 1 true]
   refine ly (fun σ=>lk 2 σ.t=some (.str s)∧∃ (A:List fK) (L':List Int) (q:Nat),lk 3 σ.t=some (.o q A.length)∧0<A.length∧A.length≤60∧bs.length≤q∧σ.b[q]? = some (.own (A.flatMap ac) 33 7 A.length true)∧(∀ a∈A,ra a)∧aW σ.b i L'∧fI i bs σ.b) (by kernel_rfl) (fun E' k'=>?_) ?_
   ·simp only[cz,↓Xn,↓Xo,↓Xg,↓Xd,↓Xe,↓Xf,Tryz.VΓ,Tryz.Γs,Xp,Xi,Nat.reduceAdd,Nat.reduceSub,Nat.reduceLT,Nat.reduceLeDiff,reduceIte,reduceCtorEq,Nat.reduceEqDiff,implies_true,forall_const,cw,eb,beq_self_eq_true,bne_self_eq_false,Int.reduceBEq,Int.reduceBNe,Int.reduceLT,Int.reduceLE,nG,ad f0,ad f1]
    refine⟨⟨?_,?_⟩,?_⟩
    all_goals
     refine ae (gj DV id i1 hx (by omega) hN Gt) ?_
     rintro r b4 ⟨b3',Md,mf,A1,L4,q1,rfl,hA10,hA11,jS,ju,DW,Cm,rM⟩
     have od:=hx.low
     have g1:=rM.at ((mf (b2.length+1) fun n e=>by have:=od _ n e;omega).trans (show _=some (.cells [.int .i64 P.kind,.str P.text,.str P.host,.int .i64 P.port] 73 true) from by first|exact f1|exact ad f1 _)) (by omega)
     have hy':=hy.after Cf mf rM (by omega)
     have Iu:=hy.lt
     have DT:=(JN.dul Md mf (fun q n e=>by have:=od q n e;omega)).trans rM
     refine gA g1 ?_
     refine ae (gj Cm P iP hy' (by omega) hM Mj) ?_
     rintro r b5 ⟨b4',AF,rK,A2,L5,q2,rfl,Lw,Lv,nC,iD,vZ,r8,nE⟩
     have hbq1':=nE.at ((rK q1 fun n e=>by have:=Iu _ n e;omega).trans ju) (by have:=DV.il;omega)
     have ha1:=ep A1
     have ha2:=ep A2
     have uF:=(DT.dul AF rK (fun q n e=>by have:=hy'.low q n e;omega)).trans nE
     refine gA (zTi hbq1' (zTi iD (zTi ha1 ha2))) ?_
     have hil':=DV.il
     have hSl:=JN.1
     have h5l:=uF.1
     refine⟨⟨lU A2,by unfold maxLen;omega,by omega⟩,A1++A2,L5,b5.length,by simp,by simp;omega,by simp;omega,h5l,?_,?_,(r8.set (by omega) hbq1' _).app _,(uF.gT (by omega) _).app _⟩
     ·rw[show b5.length=(b5.set q1 .gone).length by simp,aI];simp
     ·intro a ha
      rcases zTG.1 ha with ha|ha
      ·exact DW a ha
      ·exact vZ a ha
   ·rintro⟨tt,bb⟩ ⟨h2,A,L',q,h3,mb,Cn,hq,cE,nF,hD,hK⟩
    simp only at h2 h3 cE hD hK
    refine gA (zTi h2 h3) ?_
    exact⟨s,A,L',q,rfl,hs,mb,Cn,hq,cE,nF,hD,hK⟩
  ·refine gA (zTi w1 (zTi w2 (zTi w3 (zTi w4 (zTi f1 (ad f3)))))) ?_
   refine⟨by omega,⟨by unfold maxLen;omega,by omega⟩,?_⟩
   have hx:Et (b3++[.gone,.own [.str ([104,116,116,112,115,58,47,47,113,46,101,120,97,109,112,108,101,47]:List UInt8),.str id.text] 9 1 2 true]) (b2.length+2) (.o (b2.length+2) 1) [P.text]:=.inr ⟨_,rfl,by omega,ad f2 _⟩
   have hN:([P.text]:List Bytes).length≤8:=by simp
   have Gt:=bK P iP
   have hy:Et (b3++[.gone,.own [.str ([104,116,116,112,115,58,47,47,113,46,101,120,97,109,112,108,101,47]:List UInt8),.str id.text] 9 1 2 true]) (b2.length+2) (.o (b3.length+1) 2) [([104,116,116,112,115,58,47,47,113,46,101,120,97,109,112,108,101,47]:List UInt8),id.text]:=.inr ⟨_,rfl,by omega,aU b3 _ 1⟩
   have hM:([([104,116,116,112,115,58,47,47,113,46,101,120,97,109,112,108,101,47]:List UInt8),id.text]:List Bytes).length≤8:=by simp
   have Mj:Le 4096 [([104,116,116,112,115,58,47,47,113,46,101,120,97,109,112,108,101,47]:List UInt8),id.text]:=fun s hs=>by
    simp only[zTH,List.not_mem_nil,or_false]at hs
    rcases hs with rfl|rfl
    ·simp
    ·exact i1.1
   have Cf:∀ q n m,SV.o (b2.length+2) 1=.o q n→SV.o (b3.length+1) 2=.o q m→False:=fun q n m h1 h2=>by cases h1;injection h2 with h2;omega
   have DV:=vY.app [.gone,.own [.str ([104,116,116,112,115,58,47,47,113,46,101,120,97,109,112,108,101,47]:List UInt8),.str id.text] 9 1 2 true]
   have JN:=xL.app [.gone,.own [.str ([104,116,116,112,115,58,47,47,113,46,101,120,97,109,112,108,101,47]:List UInt8),.str id.text] 9 1 2 true]
   refine ly (fun σ=>lk 2 σ.t=some (.str s)∧∃ (A:List fK) (L':List Int) (q:Nat),lk 3 σ.t=some (.o q A.length)∧0<A.length∧A.length≤60∧bs.length≤q∧σ.b[q]? = some (.own (A.flatMap ac) 33 7 A.length true)∧(∀ a∈A,ra a)∧aW σ.b i L'∧fI i bs σ.b) (by kernel_rfl) (fun E' k'=>?_) ?_
   ·simp only[cz,↓Xn,↓Xo,↓Xg,↓Xd,↓Xe,↓Xf,Tryz.VΓ,Tryz.Γs,Xp,Xi,Nat.reduceAdd,Nat.reduceSub,Nat.reduceLT,Nat.reduceLeDiff,reduceIte,reduceCtorEq,Nat.reduceEqDiff,implies_true,forall_const,cw,eb,beq_self_eq_true,bne_self_eq_false,Int.reduceBEq,Int.reduceBNe,Int.reduceLT,Int.reduceLE,nG,ad f0,ad f1]
    refine⟨⟨?_,?_⟩,?_⟩
    all_goals
     refine ae (gj DV id i1 hx (by omega) hN Gt) ?_
     rintro r b4 ⟨b3',Md,mf,A1,L4,q1,rfl,hA10,hA11,jS,ju,DW,Cm,rM⟩
     have od:=hx.low
     have g1:=rM.at ((mf (b2.length+1) fun n e=>by have:=od _ n e;omega).trans (show _=some (.cells [.int .i64 P.kind,.str P.text,.str P.host,.int .i64 P.port] 73 true) from by first|exact f1|exact ad f1 _)) (by omega)
     have hy':=hy.after Cf mf rM (by omega)
     have Iu:=hy.lt
     have DT:=(JN.dul Md mf (fun q n e=>by have:=od q n e;omega)).trans rM
     refine gA g1 ?_
     refine ae (gj Cm P iP hy' (by omega) hM Mj) ?_
     rintro r b5 ⟨b4',AF,rK,A2,L5,q2,rfl,Lw,Lv,nC,iD,vZ,r8,nE⟩
     have hbq1':=nE.at ((rK q1 fun n e=>by have:=Iu _ n e;omega).trans ju) (by have:=DV.il;omega)
     have ha1:=ep A1
     have ha2:=ep A2
     have uF:=(DT.dul AF rK (fun q n e=>by have:=hy'.low q n e;omega)).trans nE
     refine gA (zTi hbq1' (zTi iD (zTi ha1 ha2))) ?_
     have hil':=DV.il
     have hSl:=JN.1
     have h5l:=uF.1
     refine⟨⟨lU A2,by unfold maxLen;omega,by omega⟩,A1++A2,L5,b5.length,by simp,by simp;omega,by simp;omega,h5l,?_,?_,(r8.set (by omega) hbq1' _).app _,(uF.gT (by omega) _).app _⟩
     ·rw[show b5.length=(b5.set q1 .gone).length by simp,aI];simp
     ·intro a ha
      rcases zTG.1 ha with ha|ha
      ·exact DW a ha
      ·exact vZ a ha
   ·rintro⟨tt,bb⟩ ⟨h2,A,L',q,h3,mb,Cn,hq,cE,nF,hD,hK⟩
    simp only at h2 h3 cE hD hK
    refine gA (zTi h2 h3) ?_
    exact⟨s,A,L',q,rfl,hs,mb,Cn,hq,cE,nF,hD,hK⟩
  ·refine gA (zTi w1 (zTi w2 (zTi w3 w4))) ?_
   have hx:Et b3 (b2.length+2) (.o (b2.length+2) 1) [P.text]:=.inr ⟨_,rfl,by omega,f2⟩
   have hN:([P.text]:List Bytes).length≤8:=by simp
   have Gt:=bK P iP
   have hy:Et b3 (b2.length+2) (.o (b2.length+3) 1) [id.text]:=.inr ⟨_,rfl,by omega,f3⟩
   have hM:([id.text]:List Bytes).length≤8:=by simp
   have Mj:=bK id i1
   have Cf:∀ q n m,SV.o (b2.length+2) 1=.o q n→SV.o (b2.length+3) 1=.o q m→False:=fun q n m h1 h2=>by cases h1;injection h2 with h2;omega
   have DV:=vY
   have JN:=xL
   refine ly (fun σ=>lk 2 σ.t=some (.str s)∧∃ (A:List fK) (L':List Int) (q:Nat),lk 3 σ.t=some (.o q A.length)∧0<A.length∧A.length≤60∧bs.length≤q∧σ.b[q]? = some (.own (A.flatMap ac) 33 7 A.length true)∧(∀ a∈A,ra a)∧aW σ.b i L'∧fI i bs σ.b) (by kernel_rfl) (fun E' k'=>?_) ?_
   ·simp only[cz,↓Xn,↓Xo,↓Xg,↓Xd,↓Xe,↓Xf,Tryz.VΓ,Tryz.Γs,Xp,Xi,Nat.reduceAdd,Nat.reduceSub,Nat.reduceLT,Nat.reduceLeDiff,reduceIte,reduceCtorEq,Nat.reduceEqDiff,implies_true,forall_const,cw,eb,beq_self_eq_true,bne_self_eq_false,Int.reduceBEq,Int.reduceBNe,Int.reduceLT,Int.reduceLE,nG,f0,f1]
    refine⟨⟨?_,?_⟩,?_⟩
    all_goals
     refine ae (gj DV id i1 hx (by omega) hN Gt) ?_
     rintro r b4 ⟨b3',Md,mf,A1,L4,q1,rfl,hA10,hA11,jS,ju,DW,Cm,rM⟩
     have od:=hx.low
     have g1:=rM.at ((mf (b2.length+1) fun n e=>by have:=od _ n e;omega).trans (show _=some (.cells [.int .i64 P.kind,.str P.text,.str P.host,.int .i64 P.port] 73 true) from by first|exact f1|exact ad f1 _)) (by omega)
     have hy':=hy.after Cf mf rM (by omega)
     have Iu:=hy.lt
     have DT:=(JN.dul Md mf (fun q n e=>by have:=od q n e;omega)).trans rM
     refine gA g1 ?_
     refine ae (gj Cm P iP hy' (by omega) hM Mj) ?_
     rintro r b5 ⟨b4',AF,rK,A2,L5,q2,rfl,Lw,Lv,nC,iD,vZ,r8,nE⟩
     have hbq1':=nE.at ((rK q1 fun n e=>by have:=Iu _ n e;omega).trans ju) (by have:=DV.il;omega)
     have ha1:=ep A1
     have ha2:=ep A2
     have uF:=(DT.dul AF rK (fun q n e=>by have:=hy'.low q n e;omega)).trans nE
     refine gA (zTi hbq1' (zTi iD (zTi ha1 ha2))) ?_
     have hil':=DV.il
     have hSl:=JN.1
     have h5l:=uF.1
     refine⟨⟨lU A2,by unfold maxLen;omega,by omega⟩,A1++A2,L5,b5.length,by simp,by simp;omega,by simp;omega,h5l,?_,?_,(r8.set (by omega) hbq1' _).app _,(uF.gT (by omega) _).app _⟩
     ·rw[show b5.length=(b5.set q1 .gone).length by simp,aI];simp
     ·intro a ha
      rcases zTG.1 ha with ha|ha
      ·exact DW a ha
      ·exact vZ a ha
   ·rintro⟨tt,bb⟩ ⟨h2,A,L',q,h3,mb,Cn,hq,cE,nF,hD,hK⟩
    simp only at h2 h3 cE hD hK
    refine gA (zTi h2 h3) ?_
    exact⟨s,A,L',q,rfl,hs,mb,Cn,hq,cE,nF,hD,hK⟩
theorem MQ (L:List Int)(n:Nat):(L.flatMap rp).take (n * 1)=(L.take n).flatMap rp:=by
 induction L generalizing n with
 | nil=>simp
 | cons a L ih =>
   cases n with
   | zero=>simp
   | succ n =>
     rw[List.take_succ_cons,zTA,zTA,← ih]
     rfl
end Go.Proofs.YtnmlimehgifadaaGreatDoor
namespace Vc
open Go.Proofs.YtnmlimehgifadaaGreatDoor
open Go Vc Go.RowKit Wf
theorem Kp.after {bs b1 b2:List av}{k:Nat}(h:Kp bs b1)(hE:fI k b1 b2)(hk:bs.length≤k):Kp bs b2:=⟨Nat.le_trans h.1 hE.1,fun q hq=>(hE.2 q (Nat.lt_of_lt_of_le hq h.1) (by omega)).trans (h.2 q hq)⟩
end Vc
namespace Go.Proofs.YtnmlimehgifadaaGreatDoor
open Go Vc Go.RowKit Wf
theorem sc_New {bs:List av}{j:Nat}{L:List Int}(hj:bs[j]? = some (.own (L.flatMap rp) 5 1 L.length false))(hr:∀ r∈L,0≤r∧r≤255)(hL:L.length≤9223372036854775807):SC Tryz.V 10 [.o j L.length] bs (fun r b=>∃ k L',r=.p k 0∧bs.length≤k∧Kp bs b∧aW b k L'):=by
 have gw:=(zTk.1 hj).1
 refine bo 3000 Tryz.func10 rfl Tryz.ntmps10 Tryz.results10 Tryz.call10 (by simp) (ah bs.length _ (by simp[within,within.ax,gw])) ?_
 refine gA hj ?_
 obtain⟨n,hn,sY⟩:∃ n:Nat,(if (200:Int)<L.length then 200 else(L.length:Int))=n∧n≤L.length:=by
  split
  ·exact⟨200,rfl,by omega⟩
  ·exact⟨_,rfl,zTz _⟩
 rw[hn,Int.toNat_natCast,MQ]
 refine⟨⟨by omega,by omega⟩,bs.length+1,L.take n,rfl,by omega,(Kp.refl bs).app _,.o bs.length n,aU bs _ 1,.inr ⟨bs.length,by simp[sY],by omega,?_⟩,fun r h=>hr r (List.mem_of_mem_take h)⟩
 rw[aI]
 simp[sY]
theorem sA {bs:List av}{j:Nat}{L:List Int}(hj:bs[j]? = some (.own (L.flatMap rp) 5 1 L.length false))(hr:∀ r∈L,0≤r∧r≤255)(hL:L.length≤9223372036854775807)(n:Int)(hn:0≤n∧n≤255):SC Tryz.V 15 [.o j L.length,.int .u8 n] bs (fun r b=>∃ (A:List fK) (q:Nat) (u:bM),r=.eW [.o q A.length,.agg (uc u)]∧0<A.length∧A.length≤60∧bs.length≤q∧b[q]? = some (.own (A.flatMap ac) 33 7 A.length true)∧(∀ a∈A,ra a)∧Small u∧Kp bs b):=by
 have gw:=(zTk.1 hj).1
 refine bo 3000 Tryz.func15 rfl Tryz.ntmps15 Tryz.results15 Tryz.call15 (by simp) (ah bs.length _ (by simp[within,within.ax,gw])) ?_
 refine dV ?_
 refine ae (sc_New (ad hj _) hr hL) ?_
 rintro r b1 ⟨k,L1,rfl,hk,cP,Br⟩
 have jK:Kp bs b1:=((Kp.refl bs).app _).trans cP
 have hu1:=cP.at (aI bs _)
 replace hk:bs.length+1≤k:=by simpa using hk
 refine dV ?_
 refine ae (MN Br) ?_
 rintro r b2 ⟨s,A,L2,q,rfl,hs,mb,Cn,hq,cE,nF,Lt,bJ⟩
 have fg:Kp bs b2:=jK.after bJ (Nat.le_of_succ_le hk)
 have zE:=bJ.at hu1 (by omega)
 have Oh:=jK.1
 replace hq:b1.length≤q:=hq
 have qN:=fg.1
 have nC:=(zTk.1 cE).1
 have hA2:((A.length:Int)==0)=false:=beq_eq_false_iff_ne.2 (by omega)
 obtain⟨m,hm,hml⟩:∃ m:Nat,kP .rem .i64 (IntKind.i64.wrap n) A.length=m∧m<A.length:=by
  have hw:IntKind.i64.wrap n=n:=by simp[IntKind.wrap,IntKind.bits,IntKind.signed];omega
  have h:kP .rem .i64 n A.length=n % A.length:=Int.tmod_eq_emod_of_nonneg hn.1
  have h1:=Int.emod_nonneg n (show (A.length:Int)≠0 by omega)
  have h2:=Int.emod_lt_of_pos n (show (0:Int)<A.length by omega)
  rw[hw,h]
  exact⟨(n % A.length).toNat,by omega,by omega⟩
 have eK:List.take 7 (List.drop (m * 7) (A.flatMap ac))=[.str A[m].host,.int .i64 A[m].port,.str A[m].target,.str A[m].raw,.int .i64 A[m].fail,.int .u64 A[m].since,.int .u64 A[m].yo]:=CF A m hml
 have hal:=ep A
 obtain⟨a1,a2,a3,a4,a5,-⟩:=nF A[m] (List.getElem_mem hml)
 have pP:=lD (([104,116,116,112,115,58,47,47]:List UInt8)++A[m].host++A[m].target)
 have hP:=qv (([104,116,116,112,115,58,47,47]:List UInt8)++A[m].host++A[m].target)
 simp only[zTx,zTw,List.append_assoc]at pP hP
 generalize A[m]=a at eK a1 a2 a3 a4 a5 pP hP
 generalize bz _=z at pP hP
 obtain⟨u,e⟩:=z
 unfold cQ at pP
 simp only at pP hP
 refine gA (zTi hA2 (zTi cE (zTi hm (zTi Int.toNat_natCast (zTi eK (zTi (ad zE) hal)))))) ?_
 refine⟨by omega,⟨by omega,by omega⟩,by omega,by omega,by omega,?_⟩
 have oI:=(zTk.1 zE).1
 have eg:∀ (l:List av) X,(b2++l).set bs.length X=b2.set bs.length X++l:=fun l X=>aO oI l X
 have hgs:=fun X l=>cA oI X l
 (refine aa (pP) ?_;refine gA (zTi (ad zE) (zTi eg hgs)) ?_)
 have hu3:Small ⟨u.host,a.port,u.path,u.query,u.fragment,u.aD,u.aP⟩:=⟨hP.1,a4,a5⟩
 refine⟨?_,A,q,_,rfl,mb,Cn,by omega,ad (aw cE (by rintro rfl;have:=(zTk.1 (cP.at (aI bs _))).1;omega) _) _,nF,hu3,(fg.set (by omega) _).app _⟩
 refine bO (fun n=>if n=bs.length then 0 else 1) ?_
 have z:(b2.length+1=bs.length)=False:=eq_false (by omega)
 simp only[zTC,zTD,cW,eS,reduceIte,z]
 exact aq (by kernel_rfl)
def Pf (bs:List av)(T:(Int × Int × List (Bytes × Bytes)) × Int × Int)(r:SV)(b:List av):Prop :=
 Kp bs b∧∃ x,r=.eW [.agg [.int .i64 T.1.1,.int .i64 T.1.2.1,x],.int .i64 T.2.1,.int .i64 T.2.2]∧jW 100 2 bs.length x b (T.1.2.2.flatMap fc) T.1.2.2.length
theorem Pf.err {bs b:List av}{T:(Int × Int × List (Bytes × Bytes)) × Int × Int}{e:Int}(hT:T=((0,0,[]),0,e))(hk:Kp bs b):Pf bs T (.eW [.agg [.int .i64 0,.int .i64 0,.aj],.int .i64 0,.int .i64 e]) b:=by
 subst hT
 exact⟨hk,.aj,rfl,.inl ⟨rfl,rfl,rfl⟩⟩
def boxed (σ:St)(i:Nat):Nat:=match σ.b[i]? with
 | some (.cells [.str r,.bool true] _ _)=>r.length+1
 | _=>0
theorem AT {bs:List av}(s:Bytes)(hs:s.length≤4000000):SC Tryz.V 108 [.str s] bs (Pf bs (bU s)):=by
 have ht:s.take (if (16384:Int)<(s.length:Int) then(16384:Int) else s.length).toNat=s.take 16384:=by
  split
  ·rfl
  ·rw[List.take_of_length_le (by omega),List.take_of_length_le (by omega)]
 have p1:=Nd (s.take 16384) [13,10,13,10] (by simp;omega)
 have oK:=Lib.index_ge (s.take 16384) [13,10,13,10]
 have jI:=nP (s.take 16384) [13,10,13,10]
 rw[List.length_take]at jI
 generalize hT:bU s=T
 unfold bU at hT
 generalize Lib.index (s.take 16384) [13,10,13,10]=n at p1 oK jI hT
 simp only[zTn,zTm]at jI
 have e1:n<0→T=((0,0,[]),0,if 16384<s.length then 142 else 191):=fun h=>by rw[← hT,if_pos h]
 have e2:¬ n<0→T=_:=fun h=>by rw[← hT,if_neg h]
 clear hT
 refine bo 3000 Tryz.func108 rfl Tryz.ntmps108 Tryz.results108 Tryz.call108 (by simp) (ah bs.length _ (by simp[within,within.ax])) ?_
 refine mc ?_
 refine⟨by split <;> omega,?_⟩
 rw[ht]
 (refine aa (p1) ?_;refine mc ?_)
 have l6:=(Kp.refl bs).app [.cells [.int .i64 0,.int .i64 0,.aj] 48 true]
 refine⟨fun q1=>?_,fun q1=>?_⟩
 ·have q1:=of_decide_eq_true q1
  have e1:=e1 q1
  refine⟨fun q2=>Pf.err (by rw[e1,if_pos (by have:=of_decide_eq_true q2;omega)]) l6,fun q2=>⟨fun _=>Pf.err (by rw[e1,if_neg (by have:=of_decide_eq_false q2;omega)]) l6,fun q3=>absurd q1 (of_decide_eq_false q3)⟩⟩
 have q1:=of_decide_eq_false q1
 have e2:=e2 q1
 clear e1
 have uA:=jI (by omega)
 refine⟨fun h=>absurd (of_decide_eq_true h) q1,fun _=>⟨⟨by omega,by omega⟩,?_⟩⟩
 have NQ:(s.take n.toNat).length≤s.length:=by simp;omega
 have iU:=O2 (s.take n.toNat) [13,10]
 have Mh:=fun h=>O1 (r:=s.take n.toNat) (p:=[13,10]) h
 have N8:=fun h=>O0 (r:=s.take n.toNat) (p:=[13,10]) h
 have p2:=A9 (Lib.cut (s.take n.toNat) [13,10]).1 (by omega)
 refine ae (rT (aC _ _) (by omega)) ?_
 rintro r b ⟨rfl,rfl⟩
 generalize Lib.cut (s.take n.toNat) [13,10]=c at p2 e2 iU Mh N8 ⊢
 obtain⟨line,rest,more⟩:=c
 simp only[zTn,zTm]at p2 e2 iU Mh N8 ⊢
 generalize qh line=st at p2 e2
 cases st with
 | none =>
   unfold Kg at p2
   simp only at e2 p2
   refine mc ?_
   (refine aa (p2) ?_;refine mc ?_)
   exact Pf.err e2 ((l6.app _).app _)
 | some mk =>
   obtain⟨m0,k0⟩:=mk
   unfold Kg at p2
   simp only at e2 p2
   refine mc ?_
   (refine aa (p2) ?_;refine mc ?_)
   have hrest:rest.length+(if more=true then 2 else 1)≤s.length+1:=by
    cases more
    ·have:=N8 rfl
     subst this
     simp
    ·have:=Mh rfl;simp;omega
   have hr4:rest.length≤4000000:=by
    cases more
    ·rw[N8 rfl];simp
    ·have:=Mh rfl;omega
   generalize hG:gp (s.length+1) rest more []=G at e2
   have dF:(bs++[av.cells [.int .i64 0,.int .i64 0,.aj] 48 true]).length=bs.length+1:=by simp
   have hih:(bs++[av.cells [.int .i64 0,.int .i64 0,.aj] 48 true]++[av.cells [.str rest,.bool more] 212 true]).length=bs.length+2:=by simp
   have b0:(bs++[av.cells [.int .i64 0,.int .i64 0,.aj] 48 true]++[av.cells [.str rest,.bool more] 212 true]++[av.cells [.int .i64 m0,.int .i64 k0,.aj] 48 true])[bs.length]? = some (.cells [.int .i64 0,.int .i64 0,.aj] 48 true):=ad (ad (aC _ _) _) _
   have b1:(bs++[av.cells [.int .i64 0,.int .i64 0,.aj] 48 true]++[av.cells [.str rest,.bool more] 212 true]++[av.cells [.int .i64 m0,.int .i64 k0,.aj] 48 true])[bs.length+1]? = some (.cells [.str rest,.bool more] 212 true):=by
    rw[← dF];exact ad (aC _ _) _
   have b2:(bs++[av.cells [.int .i64 0,.int .i64 0,.aj] 48 true]++[av.cells [.str rest,.bool more] 212 true]++[av.cells [.int .i64 m0,.int .i64 k0,.aj] 48 true])[bs.length+2]? = some (.cells [.int .i64 m0,.int .i64 k0,.aj] 48 true):=by
    rw[← hih];exact aC _ _
   rw[dF,hih]
   refine az (fun σ=>∃ (rest:Bytes) (more:Bool) (fs:List (Bytes × Bytes)) (x:SV) (F:Nat),
    lk 2 σ.t=some (.p bs.length 0)∧lk 5 σ.t=some (.int .i64 n)∧lk 6 σ.t=some (.p (bs.length+1) 0)∧lk 7 σ.t=some (.p (bs.length+2) 0) ∧
    σ.b[bs.length]? = some (.cells [.int .i64 0,.int .i64 0,.aj] 48 true)∧σ.b[bs.length+1]? = some (.cells [.str rest,.bool more] 212 true)∧σ.b[bs.length+2]? = some (.cells [.int .i64 m0,.int .i64 k0,x] 48 true) ∧
    Kp bs σ.b∧jW 100 2 bs.length x σ.b (fs.flatMap fc) fs.length∧fs.length≤64∧rest.length≤4000000∧rest.length+(if more=true then 2 else 1)≤F∧gp F rest more fs=G) (fun σ=>boxed σ (bs.length+1))
    ⟨rest,more,[],.aj,s.length+1,rfl,rfl,rfl,rfl,b0,b1,b2,(l6.app _).app _,.inl ⟨rfl,rfl,rfl⟩,by simp,hr4,hrest,hG⟩ ?_
   clear b0 b1 b2 dF hih hrest hr4 hG iU Mh N8 p1 p2
   rintro⟨t,b⟩ ⟨rest,more,fs,x,F,g2,g5,g6,g7,b0,b1,b2,bc,fD,h64,hr4,hF,hG⟩
   simp only at g2 g5 g6 g7 b0 b1 b2 bc fD
   have mh:bs.length+2<b.length:=(zTk.1 b2).1
   cases more
   ·obtain⟨F,rfl⟩:∃ f,F=f+1:=⟨F - 1,by simp at hF;omega⟩
    rw[zV]at hG
    rw[← hG]at e2
    simp only[if_true]at e2
    have s0:∀ X,(b.set bs.length X)[bs.length]? = some X:=fun X=>zTl (by omega)
    have ho:Vc.one x=true:=by rcases fD with⟨rfl,-⟩|⟨j,rfl,-⟩ <;> rfl
    refine gB (zTi g2 (zTi g5 (zTi g6 (zTi g7 (zTi b0 (zTi b1 (zTi b2 s0))))))) ?_
    refine⟨⟨by omega,by omega⟩,ho,bc.set (zTz _) _,x,by rw[e2],?_⟩
    rw[e2]
    rcases fD with h|⟨j,rfl,hl,nU,hj⟩
    ·exact .inl h
    ·exact .inr ⟨j,rfl,hl,nU,by rw[zTj (by rintro rfl;rw[b0]at hj;cases hj)];exact hj⟩
   ·obtain⟨F,rfl⟩:∃ f,F=f+1:=⟨F - 1,by simp at hF;omega⟩
    simp only[if_true]at hF
    have cF:=D8 rest [13,10]
    have hclt:=fun h=>O1 (r:=rest) (p:=[13,10]) h
    have DR:=fun h=>O0 (r:=rest) (p:=[13,10]) h
    have nx:=rT b1 (by omega)
    have hmany:=fun h=>xh F rest (fs:=fs) h
    have fU:=fun h=>zW F (r:=rest) (fs:=fs) h
    have jw:=fun h x=>xg F (r:=rest) (fs:=fs) h (x:=x)
    rw[hG]at hmany fU jw
    generalize Lib.cut rest [13,10]=c at nx cF hclt DR fU jw
    obtain⟨line,rest',more'⟩:=c
    simp only[zTn,zTm]at nx cF hclt DR fU jw
    have d1:=Jq line 58 (by omega)
    have NW:oR line=if (aN 58 line).2.2&&zj (aN 58 line).1&&mV (aN 58 line).2.1 then some (lower (aN 58 line).1,trimB (aN 58 line).2.1) else none:=rfl
    have kf:=GM 58 line
    generalize aN 58 line=q at d1 NW kf
    obtain⟨key,v,ok⟩:=q
    simp only at d1 NW kf
    rw[NW]at fU jw
    have d2:=FD key (by omega)
    have d3:=ua v (by omega)
    have d4:=xR key (by omega)
    have d5:=DA v (by omega)
    have s0:∀ X,(b.set bs.length X)[bs.length]? = some X:=fun X=>zTl (by omega)
    have hF':rest'.length+(if more'=true then 2 else 1)≤F:=by
     cases more'
     ·rw[DR rfl];simp;omega
     ·have:=hclt rfl;simp;omega
    have hms:boxed ⟨t,b⟩ (bs.length+1)=rest.length+1:=by unfold boxed;simp only[b1]
    rw[hms]
    have hme:∀ σ:St,σ.b[bs.length+1]? = some (.cells [.str rest',.bool more'] 212 true)→boxed σ (bs.length+1)<rest.length+1:=by
     rintro⟨t',b'⟩ h
     unfold boxed
     simp only at h ⊢
     rw[h]
     cases more'
     ·simp
     ·have:=hclt rfl;simp;omega
    generalize hbb:b.set (bs.length+1) (.cells [.str rest',.bool more'] 212 true)=bb at nx
    have c0:bb[bs.length]? = some (.cells [.int .i64 0,.int .i64 0,.aj] 48 true):=by rw[← hbb,zTj (by omega)];exact b0
    have c1:bb[bs.length+1]? = some (.cells [.str rest',.bool more'] 212 true):=by rw[← hbb,zTl (by omega)]
    have c2:bb[bs.length+2]? = some (.cells [.int .i64 m0,.int .i64 k0,x] 48 true):=by rw[← hbb,zTj (by omega)];exact b2
    have cl:bb.length=b.length:=by rw[← hbb];simp
    have ckp:Kp bs bb:=by rw[← hbb];exact bc.set (by omega) _
    have t0:∀ X,(bb.set bs.length X)[bs.length]? = some X:=fun X=>zTl (by omega)
    rcases fD with⟨rfl,hc,hl⟩|⟨j,rfl,hl,nU,hj⟩
    ·obtain rfl:fs=[]:=zTF.1 hl
     have fU:=fU (by simp)
     have jw:=jw (by simp)
     refine gB (zTi g2 (zTi g5 (zTi g6 (zTi g7 (zTi b0 (zTi b1 b2)))))) ?_
     refine ae nx ?_
     rintro r b' ⟨rfl,rfl⟩
     have u0:=fun X=>ad c0 [X]
     have u1:=fun X=>ad c1 [X]
     have u2:=fun X=>ad c2 [X]
     refine gB (zTi g2 (zTi g5 (zTi g6 (zTi g7 (zTi c0 (zTi c1 c2)))))) ?_
     have zz:G=([],180)→Pf bs T (.eW [.agg [.int .i64 0,.int .i64 0,.aj],.int .i64 0,.int .i64 180]) (b'.set bs.length (.cells [.int .i64 0,.int .i64 0,.aj] 48 true)):=fun h=>Pf.err (by rw[e2,h];rfl) (ckp.set (zTz _) _)
     cases ok
     ·(refine aa (d1) ?_;refine gB (zTi g2 (zTi g5 (zTi g6 (zTi g7 (zTi c0 (zTi c1 (zTi c2 (zTi t0 (zTi zTo zTq))))))))) ?_)
      exact zz (fU rfl)
     ·generalize hn:zj key=nb at d2 fU jw
      cases nb
      ·(refine aa (d1) ?_;refine gB (zTi g2 (zTi g5 (zTi g6 (zTi g7 (zTi c0 (zTi c1 (zTi c2 (zTi t0 (zTi zTo zTq))))))))) ?_)
       (refine aa (d2) ?_;refine gB (zTi g2 (zTi g5 (zTi g6 (zTi g7 (zTi c0 (zTi c1 (zTi c2 (zTi t0 (zTi zTo zTq))))))))) ?_)
       exact zz (fU rfl)
      ·generalize hv:mV v=vb at d3 fU jw
       cases vb
       ·(refine aa (d1) ?_;refine gB (zTi g2 (zTi g5 (zTi g6 (zTi g7 (zTi c0 (zTi c1 (zTi c2 (zTi t0 (zTi zTo zTq))))))))) ?_)
        (refine aa (d2) ?_;refine gB (zTi g2 (zTi g5 (zTi g6 (zTi g7 (zTi c0 (zTi c1 (zTi c2 (zTi t0 (zTi zTo zTq))))))))) ?_)
        (refine aa (d3) ?_;refine gB (zTi g2 (zTi g5 (zTi g6 (zTi g7 (zTi c0 (zTi c1 (zTi c2 (zTi t0 (zTi zTo zTq))))))))) ?_)
        exact zz (fU rfl)
       ·have jw:=jw _ rfl
        (refine aa (d1) ?_;refine gB (zTi g2 (zTi g5 (zTi g6 (zTi g7 (zTi c0 (zTi c1 (zTi c2 (zTi t0 (zTi zTo zTq))))))))) ?_)
        (refine aa (d2) ?_;refine gB (zTi g2 (zTi g5 (zTi g6 (zTi g7 (zTi c0 (zTi c1 (zTi c2 (zTi t0 (zTi zTo zTq))))))))) ?_)
        (refine aa (d3) ?_;refine gB (zTi g2 (zTi g5 (zTi g6 (zTi g7 (zTi c0 (zTi c1 (zTi c2 (zTi t0 (zTi zTo zTq))))))))) ?_)
        (refine aY (d4) ?_;refine gB (zTi g2 (zTi g5 (zTi g6 (zTi g7 (zTi c0 (zTi c1 (zTi c2 (zTi t0 (zTi u0 (zTi u1 u2)))))))))) ?_)
        have v0:∀ X Y Z,((b'++[X]++[Y]).set (bs.length+2) Z)[bs.length]? = some (.cells [.int .i64 0,.int .i64 0,.aj] 48 true):=fun X Y Z=>by rw[zTj (by omega)];exact ad (ad c0 _) _
        have v1:∀ X Y Z,((b'++[X]++[Y]).set (bs.length+2) Z)[bs.length+1]? = some (.cells [.str rest',.bool more'] 212 true):=fun X Y Z=>by rw[zTj (by omega)];exact ad (ad c1 _) _
        have v2:∀ X Y,(b'++[X]++[Y])[bs.length+2]? = some (.cells [.int .i64 m0,.int .i64 k0,.aj] 48 true):=fun X Y=>ad (ad c2 _) _
        have v3:∀ X Y Z,((b'++[X]++[Y]).set (bs.length+2) Z)[bs.length+2]? = some Z:=fun X Y Z=>zTl (by simp;omega)
        have z1:(b'.length=bs.length+2)=False:=by simp;omega
        have z2:∀ X,((b'++[X]).length=bs.length+2)=False:=fun X=>by simp;omega
        (refine aY (d5) ?_;refine gB (zTi g2 (zTi g5 (zTi g6 (zTi g7 (zTi c0 (zTi c1 (zTi c2 (zTi t0 (zTi u0 (zTi u1 (zTi u2 v2))))))))))) ?_)
        refine⟨by omega,⟨by unfold maxLen;omega,by omega⟩,(by
         refine bO (fun n=>if n=bs.length+2 then 0 else 1) ?_
         simp only[zTC,zTD,cW,eS,reduceIte,z1,z2]
         exact aq (by kernel_rfl)),?_⟩
        refine⟨⟨rest',more',[(lower key,trimB v)],_,F,v0 _ _ _,v1 _ _ _,v3 _ _ _,((ckp.app _).app _).set (by omega) _,?_,by simp,by omega,hF',jw.symm⟩,hme _ (v1 _ _ _)⟩
        exact .inr ⟨_,rfl,by simp,by simp;omega,by rw[zTj (by simp;omega),aC];rfl⟩
    ·have hjn:j≠bs.length+1:=by rintro rfl;rw[b1]at hj;cases hj
     have cj:bb[j]? = some (.own (fs.flatMap fc) 100 2 fs.length true):=by rw[← hbb,zTj (by omega)];exact hj
     refine gB (zTi g2 (zTi g5 (zTi g6 (zTi g7 (zTi b0 (zTi b1 (zTi b2 (zTi hj s0)))))))) ?_
     refine⟨fun h=>Pf.err (by rw[e2,hmany (by have:=of_decide_eq_true h;omega)];rfl) (bc.set (zTz _) _),fun h=>?_⟩
     have h65:¬ 64≤fs.length:=by have:=of_decide_eq_false h;omega
     have fU:=fU h65
     have jw:=jw h65
     have lH:=DZ fs
     refine ae nx ?_
     rintro r b' ⟨rfl,rfl⟩
     have u0:=fun X=>ad c0 [X]
     have u1:=fun X=>ad c1 [X]
     have u2:=fun X=>ad c2 [X]
     have uj:=fun X=>ad cj [X]
     refine gB (zTi g2 (zTi g5 (zTi g6 (zTi g7 (zTi c0 (zTi c1 (zTi c2 cj))))))) ?_
     have zz:G=([],180)→Pf bs T (.eW [.agg [.int .i64 0,.int .i64 0,.aj],.int .i64 0,.int .i64 180]) (b'.set bs.length (.cells [.int .i64 0,.int .i64 0,.aj] 48 true)):=fun h=>Pf.err (by rw[e2,h];rfl) (ckp.set (zTz _) _)
     cases ok
     ·(refine aa (d1) ?_;refine gB (zTi g2 (zTi g5 (zTi g6 (zTi g7 (zTi c0 (zTi c1 (zTi c2 (zTi t0 (zTi zTo zTq))))))))) ?_)
      exact zz (fU rfl)
     ·generalize hn:zj key=nb at d2 fU jw
      cases nb
      ·(refine aa (d1) ?_;refine gB (zTi g2 (zTi g5 (zTi g6 (zTi g7 (zTi c0 (zTi c1 (zTi c2 (zTi t0 (zTi zTo zTq))))))))) ?_)
       (refine aa (d2) ?_;refine gB (zTi g2 (zTi g5 (zTi g6 (zTi g7 (zTi c0 (zTi c1 (zTi c2 (zTi t0 (zTi zTo zTq))))))))) ?_)
       exact zz (fU rfl)
      ·generalize hv:mV v=vb at d3 fU jw
       cases vb
       ·(refine aa (d1) ?_;refine gB (zTi g2 (zTi g5 (zTi g6 (zTi g7 (zTi c0 (zTi c1 (zTi c2 (zTi t0 (zTi zTo zTq))))))))) ?_)
        (refine aa (d2) ?_;refine gB (zTi g2 (zTi g5 (zTi g6 (zTi g7 (zTi c0 (zTi c1 (zTi c2 (zTi t0 (zTi zTo zTq))))))))) ?_)
        (refine aa (d3) ?_;refine gB (zTi g2 (zTi g5 (zTi g6 (zTi g7 (zTi c0 (zTi c1 (zTi c2 (zTi t0 (zTi zTo zTq))))))))) ?_)
        exact zz (fU rfl)
       ·have jw:=jw _ rfl
        (refine aa (d1) ?_;refine gB (zTi g2 (zTi g5 (zTi g6 (zTi g7 (zTi c0 (zTi c1 (zTi c2 (zTi t0 (zTi zTo zTq))))))))) ?_)
        (refine aa (d2) ?_;refine gB (zTi g2 (zTi g5 (zTi g6 (zTi g7 (zTi c0 (zTi c1 (zTi c2 (zTi t0 (zTi zTo zTq))))))))) ?_)
        (refine aa (d3) ?_;refine gB (zTi g2 (zTi g5 (zTi g6 (zTi g7 (zTi c0 (zTi c1 (zTi c2 (zTi cj (zTi t0 (zTi zTo zTq)))))))))) ?_)
        (refine aY (d4) ?_;refine gB (zTi g2 (zTi g5 (zTi g6 (zTi g7 (zTi c0 (zTi c1 (zTi c2 (zTi cj (zTi t0 (zTi u0 (zTi u1 (zTi u2 uj)))))))))))) ?_)
        have hjn2:j≠bs.length+2:=by rintro rfl;rw[c2]at cj;cases cj
        have hjn0:j≠bs.length:=by rintro rfl;rw[c0]at cj;cases cj
        have gw:j<b'.length:=(zTk.1 cj).1
        have v0:∀ X Y Z,(((b'++[X]).set j .gone++[Y]).set (bs.length+2) Z)[bs.length]? = some (.cells [.int .i64 0,.int .i64 0,.aj] 48 true):=fun X Y Z=>by
         rw[zTj (by omega),List.getElem?_append_left (by simp;omega),zTj (by omega)];exact ad c0 _
        have v1:∀ X Y Z,(((b'++[X]).set j .gone++[Y]).set (bs.length+2) Z)[bs.length+1]? = some (.cells [.str rest',.bool more'] 212 true):=fun X Y Z=>by
         rw[zTj (by omega),List.getElem?_append_left (by simp;omega),zTj (by omega)];exact ad c1 _
        have v2:∀ X Y,((b'++[X]).set j .gone++[Y])[bs.length+2]? = some (.cells [.int .i64 m0,.int .i64 k0,.o j fs.length] 48 true):=fun X Y=>by
         rw[List.getElem?_append_left (by simp;omega),zTj (by omega)];exact ad c2 _
        have v3:∀ X Y Z,(((b'++[X]).set j .gone++[Y]).set (bs.length+2) Z)[bs.length+2]? = some Z:=fun X Y Z=>zTl (by simp;omega)
        have v4:∀ X Y Z A,(((b'++[X]).set j .gone++[Y]).set (bs.length+2) Z)[(b'++[A]).length]? = some Y:=fun X Y Z A=>by
         rw[zTj (by simp;omega),show (b'++[A]).length=((b'++[X]).set j .gone).length by simp];exact aC _ _
        have z1:(b'.length=bs.length+2)=False:=by simp;omega
        have z2:∀ X,((b'++[X]).length=bs.length+2)=False:=fun X=>by simp;omega
        have z3:(j=bs.length+2)=False:=by simp;omega
        (refine aY (d5) ?_;refine gB (zTi g2 (zTi g5 (zTi g6 (zTi g7 (zTi c0 (zTi c1 (zTi c2 (zTi cj (zTi t0 (zTi u0 (zTi u1 (zTi u2 (zTi uj v2))))))))))))) ?_)
        refine⟨by omega,⟨by unfold maxLen;omega,by omega⟩,(by
         refine bO (fun n=>if n=bs.length+2 then 0 else 1) ?_
         simp only[zTC,zTD,cW,eS,reduceIte,z1,z2,z3]
         exact aq (by kernel_rfl)),?_⟩
        refine⟨⟨rest',more',fs++[(lower key,trimB v)],_,F,v0 _ _ _,v1 _ _ _,v3 _ _ _,(((ckp.app _).set nU _).app _).set (by omega) _,?_,by simp;omega,by omega,hF',jw.symm⟩,hme _ (v1 _ _ _)⟩
        have xG:(fs++[(lower key,trimB v)]).length=fs.length+1:=by simp
        rw[xG]
        exact .inr ⟨_,rfl,by omega,by simp;omega,by rw[v4,List.flatMap_append];rfl⟩
def dy (r:gY)(xf xt:SV):List SV:=uc r.url++[.int .i64 r.minor,.int .i64 r.status,xf,.str r.body,xt]
def ec (t:bM × Int × Int):List SV:=uc t.1++[.int .i64 t.2.1,.int .i64 t.2.2]
theorem Cu (L:List (bM × Int × Int))(k:Nat)(h:k<L.length):((L.flatMap ec).drop (k * 9)).take 9=ec L[k]:=kz ec 9 (fun _=>rfl) L k h
theorem D5 (L:List (bM × Int × Int)):(L.flatMap ec).length=L.length * 9:=ie ec 9 (fun _=>rfl) L
def eL (f:iH)(xs xt xf:SV):List SV:=uc f.next++[.int .i64 f.fk,.bool f.done,.int .i64 f.err]++dy f.dE xf xt++[xs]
theorem jW.fy {e s L i:Nat}{x:SV}{b:List av}{c cs:List SV}{n T:Nat}{m:Bool}(h:jW e s L x b c n)(hi:b[i]? = some (.cells cs T m))(Z:av):jW e s L x (b.set i Z) c n:=by
 rcases h with h|⟨j,h1,h0,h2,h3⟩
 ·exact .inl h
 ·exact .inr ⟨j,h1,h0,h2,by rw[zTj (by rintro rfl;rw[hi]at h3;cases h3)];exact h3⟩
theorem jW.app {e s L:Nat}{x:SV}{b:List av}{c:List SV}{n:Nat}(h:jW e s L x b c n)(X:List av):jW e s L x (b++X) c n:=h.kp ((Kp.refl b).app X)
theorem ask_raw {L:List fK}{u:bM}{now:Int}{M:Nat}(h:∀ a∈L,a.raw.length≤M):(bw L u now).1.length≤M:=by
 unfold bw
 split
 ·simp
 ·unfold xw
  cases hf:L.find? (kS u.host u.port (bT u) now) with
  | none=>simp
  | some a =>
    have:=h a (List.mem_of_find?_eq_some hf)
    simp only
    unfold Az
    repeat' split
    all_goals first|exact this|simp
theorem AU {bs:List av}{x:SV}{fs:List (Bytes × Bytes)}(hx:Sx 100 2 x bs (fs.flatMap fc) fs.length)(hn:fs.length≤64)(hl:cF fs≤16384)(a st:Int)(rest:Bytes)(most:Int)(hr:rest.length≤4000000)(x7:-9223372036854775808≤most)(hm2:most≤9223372036854775807) :
 SC Tryz.V 109 [.agg [.int .i64 a,.int .i64 st,x],.str rest,.int .i64 most] bs (fun r b=>r=.eW [.str (jq st fs rest most).1,.int .i64 (jq st fs rest most).2]∧Kp bs b):=by
 have h1:=Cd fs xx
 have h2:=Cd fs yd
 have h3:∀ f∈fs,f.1.length≤9223372036854775807:=fun f hf=>by have:=zG f hf;omega
 rcases hx with⟨rfl,hc,h0⟩|⟨j,m,rfl,h0,hj⟩
 ·obtain rfl:fs=[]:=zTF.1 h0
  refine yC (args':=[.agg [.int .i64 a,.int .i64 st,.o bs.length 0],.str rest,.int .i64 most]) (e:=100) (s:=2) (m:=false) ((tO (fs:=[]) (m:=false) (aC _ _) (by simp) h3 a st rest most hr x7 hm2 (by omega) (by omega)).mono fun r b h=>⟨h.1,Kp.BF h.2⟩) (fun β=>?_)
  simp[a8,ak,re,oV]
 ·exact tO hj (by omega) h3 a st rest most hr x7 hm2 (by omega) (by omega)
theorem EV {bs:List av}{j:Nat}{L:List fK}{m:Bool}(hj:bs[j]? = some (.own (L.flatMap ac) 33 7 L.length m))(hL:L.length≤1000000)(hr:∀ a∈L,a.raw.length≤4000000)(now:Int)(u:bM)(hu:Fair u) :
 SC Tryz.V 51 [.o j L.length,.int .u64 now,.agg (uc u)] bs (fun r b=>Kp bs b∧∃ x,r=.eW [.agg (dy (bN L now u).1 x .aj),.int .i64 (bN L now u).2.1,.int .i64 (bN L now u).2.2]∧jW 100 2 bs.length x b ((bN L now u).1.fields.flatMap fc) (bN L now u).1.fields.length):=by
 have gw:j<bs.length:=(zTk.1 hj).1
 have dF:Vc.within.ax bs.length (uc u)=true:=by simp[uc,within,within.ax]
 have hra:=ask_raw (u:=u) (now:=now) hr
 refine bo 3000 Tryz.func51 rfl Tryz.ntmps51 Tryz.results51 Tryz.call51 (by simp) (ah bs.length _ (by simp[within,within.ax,gw,dF])) ?_
 have s1:=fun X Y=>db (by simp[flat,flat.ai]) (CS (bs:=bs++[X]++[Y]) (ad (ad hj _) _) (by omega) u hu now)
 generalize hT:bN L now u=T
 unfold bN at hT
 unfold cQ at s1
 generalize bw L u now=A at s1 hra hT
 obtain⟨raw,e⟩:=A
 simp only at s1 hra hT
 have gU:=oM raw
 have sh:=fun X Y=>AT (bs:=bs++[X]++[Y]) raw hra
 generalize bU raw=H at gU sh hT
 obtain⟨⟨m0,st,fs⟩,n,e2⟩:=H
 simp only at gU sh hT
 unfold uc
 refine mc ?_
 have hn6:(bs++[av.cells [.str u.host,.int .i64 u.port,.str u.path,.str u.query,.str u.fragment,.bool u.aD,.bool u.aP] 35 true]).length=bs.length+1:=by simp
 have t0:∀ X Y Z,((bs++[X]++[Y]).set (bs.length+1) Z)[bs.length+1]? = some Z:=fun X Y Z=>zTl (by simp)
 have t00:∀ X Y,(bs++[X]++[Y])[bs.length+1]? = some Y:=fun X Y=>by
  have:=aC (bs++[X]) Y
  rwa [show (bs++[X]).length=bs.length+1 by simp]at this
 refine ae (s1 _ _) ?_
 rintro r b ⟨rfl,rfl⟩
 rw[hn6]
 refine gB (zTi t0 t00) ?_
 refine⟨fun q=>?_,fun q=>?_⟩
 ·have q:e≠0:=by simpa using q
  rw[if_pos q]at hT
  subst hT
  exact⟨((((Kp.refl bs).app _).app _).set (by omega) _),.aj,rfl,.inl ⟨rfl,rfl,rfl⟩⟩
 have q:e=0:=by simpa using q
 rw[if_neg (by omega)]at hT
 refine ae (sh _ _) ?_
 rintro r b ⟨hk,x,rfl,fD⟩
 replace fD:=fD.low (L':=bs.length) (by simp)
 have k5:=hk.at (ad (aC _ _) _)
 have k6:=hk.at (aC _ _)
 rw[hn6]at k6
 have kg:=(((Kp.refl bs).app _).app _).trans hk
 have mh:bs.length+1<b.length:=(zTk.1 k6).1
 have t1:∀ Z,(b.set (bs.length+1) Z)[bs.length+1]? = some Z:=fun Z=>zTl mh
 simp only at fD
 have u5:=fun X=>ad k5 [X]
 have u6:=fun X=>ad k6 [X]
 have v5:=fun X Y=>ad (u5 X) [Y]
 have v6:=fun X Y=>ad (u6 X) [Y]
 have t2:∀ X Z,((b++[X]).set (bs.length+1) Z)[bs.length+1]? = some Z:=fun X Z=>zTl (by simp;omega)
 have t3:∀ X Y Z,((b++[X]++[Y]).set (bs.length+1) Z)[bs.length+1]? = some Z:=fun X Y Z=>zTl (by simp;omega)
 have p2:=yS st
 have ho:Vc.one x=true:=by rcases fD with⟨rfl,-⟩|⟨j,rfl,-⟩ <;> rfl
 refine gB (zTi t1 (zTi k5 (zTi k6 (zTi u5 (zTi u6 (zTi t2 (zTi v5 (zTi v6 t3)))))))) ?_
 refine⟨ho,fun q=>?_,fun q=>?_⟩
 ·have q:e2≠0:=by simpa using q
  rw[if_pos q]at hT
  subst hT
  exact⟨(kg.app _).set (by omega) _,.aj,rfl,.inl ⟨rfl,rfl,rfl⟩⟩
 have q:e2=0:=by simpa using q
 rw[if_neg (by omega)]at hT
 generalize K1:iv st=rd at p2 hT
 have w1:∀ X X' Y,(b++[X]++[Y])[(b++[X']).length]? = some Y:=fun X X' Y=>by
  rw[show (b++[X']).length=(b++[X]).length by simp];exact aC _ _
 have w2:∀ X,((b++[X]).length=bs.length+1)=False:=fun X=>by simp;omega
 have w0:(b.length=bs.length+1)=False:=by simp;omega
 refine⟨ho,?_⟩
 cases rd
 ·have s3:=fun X Y=>db (by simp[flat,flat.ai]) (AU (bs:=b++[X]++[Y]) ((fD.sx.app _).app _) gU.1 gU.2.1 m0 st (raw.drop n.toNat) 1048576 (by simp;omega) (by omega) (by omega))
  generalize jq st fs (raw.drop n.toNat) 1048576=B at s3 hT
  obtain⟨bd,e3⟩:=B
  simp only at s3
  have w3:∀ X X' Y Z,((b++[X]++[Y]).set (b++[X']).length Z)[(b++[X']).length]? = some Z:=fun X X' Y Z=>zTl (by simp)
  have w4:∀ X X' Y Z,((b++[X]++[Y]).set (b++[X']).length Z)[bs.length+1]? = some (.cells [.str [],.int .i64 0,.str [],.str [],.str [],.bool false,.bool false,.int .i64 0,.int .i64 0,.aj,.str [],.aj] 51 true):=fun X X' Y Z=>by
   rw[zTj (by simp;omega)];exact v6 _ _
  have w5:∀ X X' Y Z W,(((b++[X]++[Y]).set (b++[X']).length Z).set (bs.length+1) W)[bs.length+1]? = some W:=fun X X' Y Z W=>zTl (by simp;omega)
  (refine aa (p2) ?_;refine gB (zTi u5 (zTi u6 (zTi v5 (zTi v6 (zTi t3 (zTi w1 zTq)))))) ?_)
  refine⟨⟨by omega,by omega⟩,?_⟩
  refine bG [] (s3 _ _) (fun _ _ _=>rfl) ?_
  refine gB (zTi u5 (zTi u6 (zTi v5 (zTi v6 (zTi t3 (zTi w1 (zTi w3 (zTi w4 w5)))))))) ?_
  have w6:∀ X,((b++[X]).length=b.length)=False:=fun X=>by simp
  simp only[zTp,if_false]at hT
  subst hT
  exact⟨(by
   refine bO (fun n=>if n=b.length then 0 else 1) ?_
   simp only[zTC,zTD,cW,eS,reduceIte,w6]
   exact aq (by kernel_rfl)),ho,(by
   refine bO (fun n=>if n=bs.length+1 then 0 else 1) ?_
   simp only[zTC,zTD,cW,eS,reduceIte,w2,w0]
   exact aq (by kernel_rfl)),((kg.app _).app _).set (by omega) _,x,rfl,((fD.app _).app _).fy (v6 _ _) _⟩
 ·(refine aa (p2) ?_;refine gB (zTi u5 (zTi u6 (zTi v5 (zTi v6 (zTi t3 (zTi w1 zTo)))))) ?_)
  simp only[if_true]at hT
  subst hT
  subst q
  exact⟨ho,(by
   refine bO (fun n=>if n=bs.length+1 then 0 else 1) ?_
   simp only[zTC,zTD,cW,eS,reduceIte,w2,w0]
   exact aq (by kernel_rfl)),((kg.app _).app _).set (by omega) _,x,rfl,((fD.app _).app _).fy (v6 _ _) _⟩
theorem ec_flat (L:List (bM × Int × Int)):flat.ai (L.flatMap ec)=true:=by
 induction L with
 | nil=>rfl
 | cons a L ih=>rw[zTA];simp[ec,uc,flat.ai,flat,ih]
theorem ec_one (L:List (bM × Int × Int)):(L.flatMap ec).all Vc.one=true:=by
 induction L with
 | nil=>rfl
 | cons a L ih=>rw[zTA,List.all_append,ih];rfl
theorem uc_flat (L:List bM):flat.ai (L.flatMap uc)=true:=by
 induction L with
 | nil=>rfl
 | cons a L ih=>rw[zTA];simp[uc,flat.ai,flat,ih]
theorem uc_one (L:List bM):(L.flatMap uc).all Vc.one=true:=by
 induction L with
 | nil=>rfl
 | cons a L ih=>rw[zTA,List.all_append,ih];rfl
theorem fc_flat (L:List (Bytes × Bytes)):flat.ai (L.flatMap fc)=true:=by
 induction L with
 | nil=>rfl
 | cons a L ih=>rw[zTA];simp[fc,flat.ai,flat,ih]
theorem MA (e s:Nat)(bs:List av)(c:List SV)(n:Nat):Kp bs (qf e s bs c n):=by
 unfold qf
 split
 ·exact Kp.refl _
 ·exact(Kp.refl _).app _
theorem tidy_sl (e s:Nat)(bs:List av)(c:List SV)(n:Nat)(h:n=0→c=[]):jW e s bs.length (ln bs n) (qf e s bs c n) c n:=by
 unfold ln qf
 by_cases hn:n=0
 ·rw[if_pos hn,if_pos hn];exact .inl ⟨rfl,h hn,hn⟩
 ·rw[if_neg hn,if_neg hn];exact .inr ⟨_,rfl,by omega,zTz _,aC _ _⟩
theorem Sx.fy {e s i:Nat}{x:SV}{b:List av}{c cs:List SV}{n T:Nat}{m:Bool}(h:Sx e s x b c n)(hi:b[i]? = some (.cells cs T m))(Z:av):Sx e s x (b.set i Z) c n:=by
 rcases h with h|⟨j,m',h1,h0,h3⟩
 ·exact .inl h
 ·exact .inr ⟨j,m',h1,h0,by rw[zTj (by rintro rfl;rw[hi]at h3;cases h3)];exact h3⟩
theorem HJ {V:Cx}{f:FuncId}{args:List SV}{bs:List av}{e s n:Nat}{c:List SV}(h0:n=0→c=[])(h:SC V f args bs (fun r b=>r=ln bs n∧b=qf e s bs c n)):SC V f args bs (fun r b=>Kp bs b∧jW e s bs.length r b c n) :=
 h.mono fun r b ⟨h1,h2⟩=>by subst h1 h2;exact⟨MA _ _ _ _ _,tidy_sl _ _ _ _ _ h0⟩
theorem jW.one {e s L:Nat}{x:SV}{b:List av}{c:List SV}{n:Nat}(h:jW e s L x b c n):Vc.one x=true:=by rcases h with⟨rfl,-⟩|⟨j,rfl,-⟩ <;> rfl
theorem jW.cells {e s L:Nat}{x:SV}{b:List av}{c:List SV}{n:Nat}(h:jW e s L x b c n):Vc.cells x=[x]:=by rcases h with⟨rfl,-⟩|⟨j,rfl,-⟩ <;> rfl
theorem OC {ρ:Type}(cl:ρ→List SV)(L:List ρ)(h:L.length=0):L.flatMap cl=[]:=by rw[zTF.1 h];rfl
theorem Kr {bs:List av}(f:iH){xs xt xf:SV}(hs:Sx 35 7 xs bs (f.seen.flatMap uc) f.seen.length)(ht:Sx 62 9 xt bs (f.trace.flatMap ec) f.trace.length)(hf:Sx 100 2 xf bs (f.dE.fields.flatMap fc) f.dE.fields.length)
 (l1:f.seen.length≤1000) (l2:f.trace.length≤1000) (l3:f.dE.fields.length≤1000) :
 SC Tryz.V 50 [.agg (eL f xs xt xf)] bs (fun r b=>Kp bs b∧∃ ys yt yf,r=.agg (eL f ys yt yf)∧jW 35 7 bs.length ys b (f.seen.flatMap uc) f.seen.length∧jW 62 9 bs.length yt b (f.trace.flatMap ec) f.trace.length∧jW 100 2 bs.length yf b (f.dE.fields.flatMap fc) f.dE.fields.length):=by
 have iT:=hs.within
 have gx:=ht.within
 have KW:=hf.within
 have dF:Vc.within.ax bs.length (eL f xs xt xf)=true:=by simp[eL,dy,uc,within,within.ax,iT,gx,KW]
 have k1:=Ms f.seen
 have k2:=D5 f.trace
 have k3:=D0 f.dE.fields
 refine bo 3000 Tryz.func50 rfl Tryz.ntmps50 Tryz.results50 Tryz.call50 (by simp) (ah bs.length _ (by simp[within,within.ax,dF])) ?_
 have c1:=fun(B:List av) (h:Sx 35 7 xs B (f.seen.flatMap uc) f.seen.length)=>HJ (OC uc f.seen) (Kt h (uc_flat _) (uc_one _) k1 (by omega))
 have c2:=fun(B:List av) (h:Sx 62 9 xt B (f.trace.flatMap ec) f.trace.length)=>HJ (OC ec f.trace) (Kv h (ec_flat _) (ec_one _) k2 (by omega))
 have c3:=fun(B:List av) (h:Sx 100 2 xf B (f.dE.fields.flatMap fc) f.dE.fields.length)=>HJ (OC fc f.dE.fields) (Ku h (fc_flat _) (DZ _) k3 (by omega))
 generalize f.seen.flatMap uc=C1 at c1 hs ⊢
 generalize f.trace.flatMap ec=C2 at c2 ht ⊢
 generalize f.dE.fields.flatMap fc=C3 at c3 hf ⊢
 generalize f.seen.length=N1 at c1 hs ⊢
 generalize f.trace.length=N2 at c2 ht ⊢
 generalize f.dE.fields.length=N3 at c3 hf ⊢
 unfold eL dy uc
 simp only[zTx,zTw]
 refine mc ?_
 refine ae (c1 _ ((hs.app _).app _)) ?_
 rintro ys b ⟨cP,pG⟩
 replace pG:=pG.low (L':=bs.length) (by simp)
 have a0:=cP.at (ad (aC _ _) _)
 have a1:=cP.at (aC _ _)
 have kb1:=(((Kp.refl bs).app _).app _).trans cP
 rw[show ∀ X:av,(bs++[X]).length=bs.length+1 from fun X=>by simp]at a1 ⊢
 have mh:bs.length+1<b.length:=(zTk.1 a1).1
 have vR:=pG.one
 have he1:=pG.cells
 have t0:∀ X,(b.set bs.length X)[bs.length]? = some X:=fun X=>zTl (by omega)
 simp only[cz,↓Xn,↓Xo,↓Xg,↓Xd,↓Xe,↓Xf,Tryz.VΓ,Tryz.Γs,Xp,Xi,Nat.reduceAdd,Nat.reduceSub,Nat.reduceLT,Nat.reduceLeDiff,reduceIte,reduceCtorEq,Nat.reduceEqDiff,implies_true,forall_const,cw,nO,beq_self_eq_true,bne_self_eq_false,Int.reduceBEq,Int.reduceBNe,Int.reduceLT,Int.reduceLE,a0,a1,t0,vR,he1,zTx,zTw]
 refine ae (c2 _ (((ht.kp kb1)).fy a0 _)) ?_
 rintro yt b2 ⟨bJ,qH⟩
 replace qH:=qH.low (L':=bs.length) (by simp;omega)
 have a20:=bJ.at (t0 _)
 have a21:=bJ.at ((zTj (by omega)).trans a1)
 have kb2:=(kb1.set (zTz _) _).trans bJ
 replace pG:=(pG.fy a0 _).kp bJ
 clear bJ
 have qN:bs.length+1<b2.length:=(zTk.1 a21).1
 have pJ:=qH.one
 have he2:=qH.cells
 have t20:∀ X,(b2.set bs.length X)[bs.length]? = some X:=fun X=>zTl (by omega)
 simp only[cz,↓Xn,↓Xo,↓Xg,↓Xd,↓Xe,↓Xf,Tryz.VΓ,Tryz.Γs,Xp,Xi,Nat.reduceAdd,Nat.reduceSub,Nat.reduceLT,Nat.reduceLeDiff,reduceIte,reduceCtorEq,Nat.reduceEqDiff,implies_true,forall_const,cw,nO,beq_self_eq_true,bne_self_eq_false,Int.reduceBEq,Int.reduceBNe,Int.reduceLT,Int.reduceLE,a20,a21,t20,pJ,he2,zTx,zTw]
 refine ae (c3 _ (((hf.kp kb2)).fy a20 _)) ?_
 rintro yf b3 ⟨eF,zH⟩
 replace zH:=zH.low (L':=bs.length) (by simp;omega)
 have a30:=eF.at (t20 _)
 have a31:=eF.at ((zTj (by omega)).trans a21)
 have kb3:=(kb2.set (zTz _) _).trans eF
 replace pG:=(pG.fy a20 _).kp eF
 replace qH:=(qH.fy a20 _).kp eF
 clear eF
 have hbl3:bs.length+1<b3.length:=(zTk.1 a31).1
 have La:=zH.one
 have N4:=zH.cells
 have t30:∀ X,(b3.set bs.length X)[bs.length]? = some X:=fun X=>zTl (by omega)
 have v31:=fun X=>(zTj (l:=b3) (i:=bs.length) (j:=bs.length+1) (a:=X) (by omega)).trans a31
 have v32:∀ X Y,((b3.set bs.length X).set (bs.length+1) Y)[bs.length+1]? = some Y:=fun X Y=>zTl (by simp;omega)
 simp only[cz,↓Xn,↓Xo,↓Xg,↓Xd,↓Xe,↓Xf,Tryz.VΓ,Tryz.Γs,Xp,Xi,Nat.reduceAdd,Nat.reduceSub,Nat.reduceLT,Nat.reduceLeDiff,reduceIte,reduceCtorEq,Nat.reduceEqDiff,implies_true,forall_const,cw,nO,beq_self_eq_true,bne_self_eq_false,Int.reduceBEq,Int.reduceBNe,Int.reduceLT,Int.reduceLE,a30,a31,t30,v31,v32,vR,pJ,La,N4,zTx,zTw]
 exact⟨(kb3.set (zTz _) _).set (by omega) _,ys,yt,yf,rfl,(pG.fy a30 _).fy (v31 _) _,(qH.fy a30 _).fy (v31 _) _,(zH.fy a30 _).fy (v31 _) _⟩
theorem Bz {n:Nat}{f:iH}{xs xt xf:SV}(h1:Vc.within n xs=true)(h2:Vc.within n xt=true)(h3:Vc.within n xf=true):Vc.within.ax n (eL f xs xt xf)=true:=by simp[eL,dy,uc,within,within.ax,h1,h2,h3]
theorem qn {bs:List av}(u:bM)(hu:Fair u) :
 SC Tryz.V 19 [.agg (uc u)] bs (fun r b=>Kp bs b∧∃ ys,r=.agg (eL (bF u) ys .aj .aj)∧jW 35 7 bs.length ys b ((bF u).seen.flatMap uc) (bF u).seen.length):=by
 have p1:=qw u hu
 refine bo 3000 Tryz.func19 rfl Tryz.ntmps19 Tryz.results19 Tryz.call19 (by simp) (ah bs.length _ (by simp[within,within.ax,uc])) ?_
 unfold cQ at p1
 unfold uc
 generalize hT:bF u=T
 unfold bF at hT
 cases hv:bQ u
 ·rw[hv]at p1 hT
  simp only[if_true]at hT
  refine mc ?_
  (refine aa (p1) ?_;refine gB zTq ?_)
  subst hT
  exact⟨((Kp.refl _).app _).app _,.aj,rfl,.inl ⟨rfl,rfl,rfl⟩⟩
 ·rw[hv]at p1 hT
  simp only[zTs,if_false]at hT
  refine mc ?_
  have w1:∀ X X' Y Z,(bs++[X]++[Y]++[Z])[(bs++[X']).length]? = some Y:=fun X X' Y Z=>by
   rw[show (bs++[X']).length=(bs++[X]).length by simp];exact ad (aC _ _) _
  have w2:∀ X X' Y Z W,((bs++[X]++[Y]++[Z]).set (bs++[X']).length W)[(bs++[X']).length]? = some W:=fun X X' Y Z W=>zTl (by simp)
  have w3:∀ X X' Y Z W A B,((bs++[X]++[Y]++[Z]).set (bs++[X']).length W)[(bs++[A]++[B]).length]? = some Z:=fun X X' Y Z W A B=>by
   rw[zTj (by simp),show (bs++[A]++[B]).length=(bs++[X]++[Y]).length by simp];exact aC _ _
  have z1:∀ X,((bs++[X]).length=bs.length)=False:=fun X=>by simp
  have z2:∀ X Y,((bs++[X]++[Y]).length=bs.length)=False:=fun X Y=>by simp
  (refine aa (p1) ?_;refine gB (zTi zTo (zTi w1 w2)) ?_)
  subst hT
  exact⟨by omega,((((Kp.refl _).app _).app _).app _).set (by simp) _,_,rfl,.inr ⟨_,rfl,by simp,by simp,w3 _ _ _ _ _ _ _⟩⟩
def FsR (lo:Nat)(T:iH)(r:SV)(b:List av):Prop:=∃ ys yt yf,r=.agg (eL T ys yt yf)∧jW 35 7 lo ys b (T.seen.flatMap uc) T.seen.length∧jW 62 9 lo yt b (T.trace.flatMap ec) T.trace.length∧jW 100 2 lo yf b (T.dE.fields.flatMap fc) T.dE.fields.length
theorem JY {e s lo n:Nat}{x:SV}{b:List av}{c:List SV}(h:jW e s lo x b c n):∃ D:av→av→List av,∀ X Y,uJ (b++[X]++[Y]) e s x=some (n,c,D X Y)∧(D X Y).length=b.length+2 ∧
 (∀ (k:Nat) r,(b++[X]++[Y])[k]? = some r→(∀ c' n' m',r≠.own c' e s n' m')→(D X Y)[k]? = some r)∧(∀ bs:List av,bs.length=lo→Kp bs b→Kp bs (D X Y)):=by
 rcases h with⟨rfl,rfl,rfl⟩|⟨j,rfl,h0,hl,hj⟩
 ·exact⟨fun X Y=>b++[X]++[Y],fun X Y=>⟨rfl,by simp,fun k r h _=>h,fun bs _ h=>(h.app _).app _⟩⟩
 ·refine⟨fun X Y=>(b++[X]++[Y]).set j .gone,fun X Y=>⟨by simp only[uJ,ad (ad hj [X]) [Y],and_self,if_true],by simp,fun k r h hn=>?_,fun bs hb h=>((h.app _).app _).set (by omega) _⟩⟩
  rw[zTj]
  ·exact h
  ·rintro rfl
   rw[ad (ad hj [X]) [Y]]at h
   exact hn _ _ _ (Option.some.inj h).symm
theorem jW.GP {e s lo n:Nat}{x:SV}{b:List av}{c:List SV}(h:jW e s lo x b c n):Vc.GP x=false:=by
 rcases h with⟨rfl,-⟩|⟨j,rfl,-⟩ <;> rfl
theorem jW.via {e s lo n:Nat}{x:SV}{b b':List av}{c:List SV}(h:jW e s lo x b c n)(k:∀ (k:Nat) r,b[k]? = some r→(∃ c' n' m',r=.own c' e s n' m')→b'[k]? = some r):jW e s lo x b' c n:=by
 rcases h with h|⟨j,h1,h0,h2,h3⟩
 ·exact .inl h
 ·exact .inr ⟨j,h1,h0,h2,k _ _ h3 ⟨_,_,_,rfl⟩⟩
theorem Sx.sq {e s n:Nat}{x:SV}{b:List av}{c:List SV}(h:Sx e s x b c n):Sq e s x b c n:=by
 rcases h with h|⟨j,m,h1,h0,h3⟩
 ·exact .inl h
 ·exact .inr ⟨j,m,h1,h3⟩
theorem yA {bs:List av}{x:SV}{fs:List (Bytes × Bytes)}(hx:Sx 100 2 x bs (fs.flatMap fc) fs.length)(hn:fs.length≤64)(hl:cF fs≤16384)(a c:Int)
 {sn:SV} {L:List bM} (hi:Sx 35 7 sn bs (L.flatMap uc) L.length) (hL:L.length≤1000000) (u:bM) (fu:Fair u) (fk:Int) :
 SC Tryz.V 53 [cQ u,.agg [.int .i64 a,.int .i64 c,x],sn,.int .i64 fk] bs (fun r b=>r=.eW [cQ (dK u fs L fk).1,.int .i64 (dK u fs L fk).2]∧Kp bs b):=by
 have h3:∀ f∈fs,f.1.length≤9223372036854775807:=fun f hf=>by have:=zG f hf;omega
 rcases hx with⟨rfl,hc,h0⟩|⟨j,m,rfl,h0,hj⟩
 ·obtain rfl:fs=[]:=zTF.1 h0
  refine yC (args':=[cQ u,.agg [.int .i64 a,.int .i64 c,.o bs.length 0],sn,.int .i64 fk]) (e:=100) (s:=2) (m:=false) ((rS (fs:=[]) (m:=false) (aC _ _) (by simp) h3 a c (hi.app _).sq hL u fu fk).mono fun r b h=>⟨h.1,Kp.BF h.2⟩) (fun β=>?_)
  rcases hi with⟨rfl,-⟩|⟨j,m,rfl,-,hj⟩
  ·simp[a8,ak,re,oV,cQ]
  ·have:=(zTk.1 hj).1
   simp[a8,ak,re,oV,cQ,Nat.ne_of_lt this]
 ·exact rS hj (by omega) h3 a c hi.sq hL u fu fk
theorem MW (L:List fK)(now:Int)(u:bM):(bN L now u).1.fields.length≤64∧cF (bN L now u).1.fields≤16384:=by
 unfold bN
 have:=oM (bw L u now).1
 have h0:gY.none.fields.length≤64∧cF gY.none.fields≤16384:=⟨by decide,by decide⟩
 repeat' split
 ·exact h0
 ·exact h0
 ·exact⟨this.1,this.2.1⟩
 ·exact⟨this.1,this.2.1⟩
theorem rU {bs:List av}{j:Nat}{L:List fK}{m:Bool}(hj:bs[j]? = some (.own (L.flatMap ac) 33 7 L.length m))(hL:L.length≤1000000)(hr:∀ a∈L,a.raw.length≤4000000)(now:Int)(f:iH)(hu:f.done=false→Fair f.next)(hh:-9223372036854775808≤f.fk∧f.fk≤1000)
 {xs xt xf:SV} (hs:Sx 35 7 xs bs (f.seen.flatMap uc) f.seen.length) (ht:Sx 62 9 xt bs (f.trace.flatMap ec) f.trace.length) (hf:Sx 100 2 xf bs (f.dE.fields.flatMap fc) f.dE.fields.length)
 (l1:f.seen.length≤900) (l2:f.trace.length≤900) (l3:f.dE.fields.length≤900) :
 SC Tryz.V 20 [.o j L.length,.int .u64 now,.agg (eL f xs xt xf)] bs (fun r b=>Kp bs b∧FsR bs.length (cL L now f) r b):=by
 have gw:j<bs.length:=(zTk.1 hj).1
 have dF:=Bz (f:=f) hs.within ht.within hf.within
 have c1:=fun(B:List av) h1 h2 h3=>Kr (bs:=B) f (xs:=xs) (xt:=xt) (xf:=xf) h1 h2 h3 (by omega) (by omega) (by omega)
 have r1:=fun(B:List av) (h:B[j]? = some (.own (L.flatMap ac) 33 7 L.length m)) (q:f.done=false)=>EV h hL hr now f.next (hu q)
 generalize hT:cL L now f=T
 unfold cL at hT
 refine bo 3000 Tryz.func20 rfl Tryz.ntmps20 Tryz.results20 Tryz.call20 (by simp) (ah bs.length _ (by simp[within,within.ax,gw,dF])) ?_
 unfold eL dy at c1 ⊢
 unfold uc at c1 r1 ⊢
 simp only[zTx,zTw]at c1 r1 ⊢
 refine mc ?_
 refine ae (c1 _ ((hs.app _).app _) ((ht.app _).app _) ((hf.app _).app _)) ?_
 rintro r b ⟨hk,ys,yt,yf,rfl,pG,qH,zH⟩
 replace pG:=pG.low (L':=bs.length) (by simp)
 replace qH:=qH.low (L':=bs.length) (by simp)
 replace zH:=zH.low (L':=bs.length) (by simp)
 have a0:=hk.at (ad (aC _ _) _)
 have a1:=hk.at (aC _ _)
 have kb:=(((Kp.refl bs).app _).app _).trans hk
 rw[show ∀ X:av,(bs++[X]).length=bs.length+1 from fun X=>by simp]at a1 ⊢
 clear hk c1
 have mh:bs.length+1<b.length:=(zTk.1 a1).1
 have vR:=pG.one
 have pJ:=qH.one
 have La:=zH.one
 have t0:∀ X,(b.set bs.length X)[bs.length]? = some X:=fun X=>zTl (by omega)
 have v1:=fun X=>(zTj (l:=b) (i:=bs.length) (j:=bs.length+1) (a:=X) (by omega)).trans a1
 have v2:∀ X Y,((b.set bs.length X).set (bs.length+1) Y)[bs.length+1]? = some Y:=fun X Y=>zTl (by simp;omega)
 refine gB (zTi a0 (zTi a1 (zTi t0 (zTi v1 (zTi v2 (zTi vR (zTi pJ La))))))) ?_
 refine⟨fun q=>?_,fun q=>?_⟩
 ·rw[if_pos q]at hT
  subst hT
  exact⟨(kb.set (zTz _) _).set (by omega) _,ys,yt,yf,rfl,(pG.fy a0 _).fy (v1 _) _,(qH.fy a0 _).fy (v1 _) _,(zH.fy a0 _).fy (v1 _) _⟩
 rw[if_neg (by rw[q];simp)]at hT
 have hu:=hu q
 refine ae (r1 _ ((kb.set (zTz _) _).at hj) q) ?_
 rintro r b2 ⟨hk,x,rfl,Iv⟩
 have b0:=hk.at (t0 _)
 have b1:=hk.at (v1 _)
 have kb2:=(kb.set (zTz _) _).trans hk
 replace pG:=(pG.fy a0 _).kp hk
 replace qH:=(qH.fy a0 _).kp hk
 replace Iv:=Iv.low (L':=bs.length) (by simp;omega)
 clear hk r1 t0 v1 v2 zH La
 have hrs:=MW L now f.next
 have hru:=BQ L now f.next
 generalize bN L now f.next=R at Iv hT hrs hru ⊢
 obtain⟨R,st,e⟩:=R
 simp only at Iv hT hrs hru ⊢
 have qN:bs.length+1<b2.length:=(zTk.1 b1).1
 have La:=Iv.one
 have p1:=yS st
 unfold dy uc
 simp only[zTx,zTw]
 obtain⟨D,hD⟩:=JY qH
 have hcb:=qH.GP
 have hd:=fun X Y=>(hD X Y).1
 have pK:=fun X Y=>(hD X Y).2.1
 have d0:∀ X Y Z,(D X Y++[Z])[bs.length]? = _:=fun X Y Z=>ad ((hD X Y).2.2.1 _ _ (ad (ad b0 [X]) [Y]) (by simp)) _
 have d1:∀ X Y Z,(D X Y++[Z])[bs.length+1]? = _:=fun X Y Z=>ad ((hD X Y).2.2.1 _ _ (ad (ad b1 [X]) [Y]) (by simp)) _
 have t0:∀ X Y Z W,((D X Y++[Z]).set bs.length W)[bs.length]? = some W:=fun X Y Z W=>zTl (by simp[pK];omega)
 have c0:=fun X=>ad b0 [X]
 have c1:=fun X=>ad b1 [X]
 have cc0:=fun X Y=>ad (c0 X) [Y]
 refine gB (zTi b0 (zTi b1 (zTi c0 (zTi c1 (zTi t0 (zTi d0 (zTi d1 (zTi cc0 (zTi hd (zTi hcb (zTi vR (zTi pJ La)))))))))))) ?_
 have hnT:∀ X Y,(b2++[X]++[Y]).length=b2.length+2:=fun X Y=>by simp
 rw[hnT]
 generalize hB:(D _ _++[_]).set bs.length _=B
 have g0:=(congrArg (fun l=>l[bs.length]?) hB).symm.trans (t0 _ _ _ _)
 have g1:=(congrArg (fun l=>l[bs.length+1]?) hB).symm.trans ((zTj (by omega)).trans (d1 _ _ _))
 have g2:=(congrArg (fun l=>l[b2.length]?) hB).symm.trans ((zTj (by omega)).trans (ad ((hD _ _).2.2.1 _ _ (ad (aC _ _) _) (by simp)) _))
 have d3:∀ X Y Z,(D X Y++[Z])[b2.length+2]? = some Z:=fun X Y Z=>by rw[← pK X Y];exact aC _ _
 have g3:=(congrArg (fun l=>l[b2.length+2]?) hB).symm.trans ((zTj (by omega)).trans (d3 _ _ _))
 have gl:B.length=b2.length+3:=by rw[← hB];simp[pK]
 have gk:Kp bs B:=by rw[← hB];exact(((hD _ _).2.2.2 _ rfl kb2).app _).set (zTz _) _
 have s1:jW 35 7 bs.length ys B (f.seen.flatMap uc) f.seen.length:=by
  refine pG.via (fun k r hk ⟨c',n',m',hr⟩=>?_)
  subst hr
  rw[← hB,zTj (by rintro rfl;rw[b0]at hk;cases hk)]
  exact ad ((hD _ _).2.2.1 _ _ (ad (ad hk _) _) (by simp)) _
 have s2:jW 100 2 bs.length x B (R.fields.flatMap fc) R.fields.length:=by
  refine Iv.via (fun k r hk ⟨c',n',m',hr⟩=>?_)
  subst hr
  rw[← hB,zTj (by rintro rfl;rw[b0]at hk;cases hk)]
  exact ad ((hD _ _).2.2.1 _ _ (ad (ad hk _) _) (by simp)) _
 clear hB d0 d1 d3 t0 c0 c1 cc0 hd pK hD D b0 b1 pG qH Iv a0 a1 kb mh
 have hnq:bs.length+1<b2.length:=qN
 have s00:∀ X,(B.set bs.length X)[bs.length]? = some X:=fun X=>zTl (by omega)
 have s01:=fun X=>(zTj (l:=B) (i:=bs.length) (j:=bs.length+1) (a:=X) (by omega)).trans g1
 have s02:=fun X=>(zTj (l:=B) (i:=bs.length) (j:=b2.length) (a:=X) (by omega)).trans g2
 have s03:=fun X=>(zTj (l:=B) (i:=bs.length) (j:=b2.length+2) (a:=X) (by omega)).trans g3
 have s11:∀ X Y,((B.set bs.length X).set (bs.length+1) Y)[bs.length+1]? = some Y:=fun X Y=>zTl (by simp;omega)
 have s13:=fun X Y=>(zTj (l:=B.set bs.length X) (i:=bs.length+1) (j:=b2.length+2) (a:=Y) (by omega)).trans (s03 X)
 have p0:=fun X Y=>(zTj (l:=B.set bs.length X) (i:=b2.length) (j:=bs.length) (a:=Y) (by omega)).trans (s00 X)
 have pq:∀ X Y,((B.set bs.length X).set b2.length Y)[b2.length]? = some Y:=fun X Y=>zTl (by simp;omega)
 have p01:=fun X Y=>(zTj (l:=B.set bs.length X) (i:=b2.length) (j:=bs.length+1) (a:=Y) (by omega)).trans (s01 X)
 have p03:=fun X Y=>(zTj (l:=B.set bs.length X) (i:=b2.length) (j:=b2.length+2) (a:=Y) (by omega)).trans (s03 X)
 have q00:∀ X Y Z,(((B.set bs.length X).set b2.length Y).set bs.length Z)[bs.length]? = some Z:=fun X Y Z=>zTl (by simp;omega)
 have q01:=fun X Y Z=>(zTj (l:=(B.set bs.length X).set b2.length Y) (i:=bs.length) (j:=bs.length+1) (a:=Z) (by omega)).trans (p01 X Y)
 have q03:=fun X Y Z=>(zTj (l:=(B.set bs.length X).set b2.length Y) (i:=bs.length) (j:=b2.length+2) (a:=Z) (by omega)).trans (p03 X Y)
 have q11:∀ X Y Z W,((((B.set bs.length X).set b2.length Y).set bs.length Z).set (bs.length+1) W)[bs.length+1]? = some W:=fun X Y Z W=>zTl (by simp;omega)
 have q13:=fun X Y Z W=>(zTj (l:=((B.set bs.length X).set b2.length Y).set bs.length Z) (i:=bs.length+1) (j:=b2.length+2) (a:=W) (by omega)).trans (q03 X Y Z)
 have eK:f.trace.flatMap ec++ec (f.next,st,e)=(f.trace++[(f.next,st,e)]).flatMap ec:=by rw[List.flatMap_append];simp
 have zK:(f.trace++[(f.next,st,e)]).length=f.trace.length+1:=by simp
 have kL:∀ b',b'[b2.length+2]? = B[b2.length+2]? → jW 62 9 bs.length (.o (b2.length+2) (f.trace.length+1)) b' ((f.trace++[(f.next,st,e)]).flatMap ec) (f.trace++[(f.next,st,e)]).length:=fun b' h=>by
  rw[zK]
  exact .inr ⟨_,rfl,by omega,by omega,by rw[h,g3,← eK];rfl⟩
 refine⟨by omega,⟨by unfold maxLen;omega,by omega⟩,fun q1=>?_,fun q1=>?_⟩
 ·obtain rfl:e=0:=by simpa using q1
  simp only[true_and,ne_eq,not_true,if_false]at hT
  refine aa p1 ?_
  cases K1:iv st
  ·rw[K1]at hT
   simp only[zTp,if_false]at hT
   subst hT
   simp only[cz,↓Xn,↓Xo,↓Xg,↓Xd,↓Xe,↓Xf,Tryz.VΓ,Tryz.Γs,Xp,Xi,Nat.reduceAdd,Nat.reduceSub,Nat.reduceLT,Nat.reduceLeDiff,reduceIte,reduceCtorEq,Nat.reduceEqDiff,implies_true,forall_const,cw,nO,beq_self_eq_true,bne_self_eq_false,Int.reduceBEq,Int.reduceBNe,Int.reduceLT,Int.reduceLE,g0,g1,g2,g3,s00,s01,s02,s11,p0,pq,p01,q00,q01,q11,vR,pJ,La,List.set_set]
   exact⟨(((gk.set (zTz _) _).set (by omega) _).set (zTz _) _).set (by omega) _,ys,_,x,rfl,(((s1.fy g0 _).fy (s02 _) _).fy (p0 _ _) _).fy (q01 _ _ _) _,kL _ ((q13 _ _ _ _).trans g3.symm),(((s2.fy g0 _).fy (s02 _) _).fy (p0 _ _) _).fy (q01 _ _ _) _⟩
  ·rw[K1]at hT
   simp only[if_true]at hT
   have m0:=fun X=>ad g0 [X]
   have m1:=fun X=>ad g1 [X]
   have m2:=fun X=>ad g2 [X]
   have n1:=fun X=>db (by simp[flat,flat.ai,cQ]) (yA (bs:=B++[X]) (s2.app _).sx hrs.1 hrs.2 R.minor R.status (s1.app _).sx (by omega) f.next hu f.fk)
   generalize dK f.next R.fields f.seen f.fk=N at n1 hT
   obtain⟨v,e3⟩:=N
   simp only at n1 hT
   unfold cQ at n1
   have m3:∀ X Y,((B++[X]).set B.length Y)[B.length]? = some Y:=fun X Y=>zTl (by simp)
   have m4:∀ X Y,((B++[X]).set B.length Y)[bs.length]? = _:=fun X Y=>(zTj (by omega)).trans (m0 X)
   have m5:∀ X Y,((B++[X]).set B.length Y)[bs.length+1]? = _:=fun X Y=>(zTj (by omega)).trans (m1 X)
   refine gB (zTi g0 (zTi g1 (zTi g2 (zTi g3 (zTi m0 (zTi m1 (zTi m2 (zTi m3 (zTi m4 (zTi m5 (zTi vR (zTi pJ La)))))))))))) ?_
   have sa:∀ X Y,(B++[X]).set B.length Y=B++[Y]:=fun X Y=>by simp
   have ma:∀ X,(B++[X])[B.length]? = some X:=fun X=>aC _ _
   refine ae (n1 _) ?_
   rintro r b' ⟨rfl,rfl⟩
   obtain⟨D,hD⟩:=JY s1
   have hcb:=s1.GP
   have hd:=fun X Y=>(hD X Y).1
   have pK:=fun X Y=>(hD X Y).2.1
   have e0:∀ X Y Z,(D X Y++[Z])[bs.length]? = _:=fun X Y Z=>ad ((hD X Y).2.2.1 _ _ (ad (ad g0 [X]) [Y]) (by simp)) _
   have e1:∀ X Y Z,(D X Y++[Z])[bs.length+1]? = _:=fun X Y Z=>ad ((hD X Y).2.2.1 _ _ (ad (ad g1 [X]) [Y]) (by simp)) _
   have f0:∀ X Y Z W,((D X Y++[Z]).set bs.length W)[bs.length]? = some W:=fun X Y Z W=>zTl (by simp[pK];omega)
   have f1:=fun X Y Z W=>(zTj (l:=D X Y++[Z]) (i:=bs.length) (j:=bs.length+1) (a:=W) (by omega)).trans (e1 X Y Z)
   have f2:∀ X Y Z W V,(((D X Y++[Z]).set bs.length W).set (bs.length+1) V)[bs.length+1]? = some V:=fun X Y Z W V=>zTl (by simp[pK];omega)
   have mm0:=fun X Y=>ad (m0 X) [Y]
   have u11:∀ X W V,(((B++[X]).set bs.length W).set (bs.length+1) V)[bs.length+1]? = some V:=fun X W V=>zTl (by simp;omega)
   have u10:∀ X W,((B++[X]).set bs.length W)[bs.length]? = some W:=fun X W=>zTl (by simp;omega)
   have u01:=fun X W=>(zTj (l:=B++[X]) (i:=bs.length) (j:=bs.length+1) (a:=W) (by omega)).trans (m1 X)
   simp only[cz,↓Xn,↓Xo,↓Xg,↓Xd,↓Xe,↓Xf,Tryz.VΓ,Tryz.Γs,Xp,Xi,Nat.reduceAdd,Nat.reduceSub,Nat.reduceLT,Nat.reduceLeDiff,reduceIte,reduceCtorEq,Nat.reduceEqDiff,implies_true,forall_const,cw,nO,beq_self_eq_true,bne_self_eq_false,Int.reduceBEq,Int.reduceBNe,Int.reduceLT,Int.reduceLE,g0,g1,g2,g3,m0,m1,m2,ma,sa,mm0,e0,e1,f0,f1,f2,u11,u10,u01,hd,hcb,vR,pJ,La,List.set_set]
   have z1:(B.length=bs.length)=False:=by simp;omega
   have z2:∀ X,((B++[X]).length=bs.length)=False:=fun X=>by simp;omega
   have z3:∀ X Y,((B++[X]++[Y]).length=bs.length)=False:=fun X Y=>by simp;omega
   have z4:∀ X,((B++[X]).length=B.length)=False:=fun X=>by simp
   have z5:∀ X Y,((B++[X]++[Y]).length=B.length)=False:=fun X Y=>by simp
   refine⟨fun q3=>⟨by omega,⟨by unfold maxLen;omega,by omega⟩,⟨by omega,by omega⟩,?_,?_,?_⟩,fun q3=>?_⟩
   ·refine bO (fun n=>if n=bs.length then 0 else if n=B.length then 1 else 2) ?_
    rcases s1 with⟨rfl,-⟩|⟨jj,rfl,-,-,hjj⟩
    ·simp only[idxs,zTC,zTD,cW,eS,reduceIte,z1,z2,z3,z4,z5]
     exact aq (by kernel_rfl)
    ·have z6:(jj=bs.length)=False:=by
      simp only[eq_iff_iff,iff_false]
      rintro rfl;rw[g0]at hjj;cases hjj
     have z7:(jj=B.length)=False:=by
      have:=(zTk.1 hjj).1
      simp only[eq_iff_iff,iff_false]
      omega
     simp only[idxs,zTC,zTD,cW,eS,reduceIte,z1,z2,z3,z4,z5,z6,z7]
     exact aq (by kernel_rfl)
   ·exact((((hD _ _).2.2.2 _ rfl gk).app _).set (zTz _) _).set (by omega) _
   ·obtain rfl:e3=0:=by simpa using q3
    rw[if_pos rfl]at hT
    subst hT
    have hy:∀ X Y Z W V X' Y',(((D X Y++[Z]).set bs.length W).set (bs.length+1) V)[(B++[X']++[Y']).length]? = some Z:=fun X Y Z W V X' Y'=>by
     have e:(B++[X']++[Y']).length=(D X Y).length:=by rw[pK];simp
     rw[e,zTj (by rw[pK];omega),zTj (by rw[pK];omega)]
     exact aC _ _
    have hz:∀ X Y Z W V,(((D X Y++[Z]).set bs.length W).set (bs.length+1) V)[b2.length+2]? = B[b2.length+2]? := fun X Y Z W V=>by
     rw[zTj (by omega),zTj (by omega),g3]
     exact ad ((hD X Y).2.2.1 _ _ (ad (ad g3 _) _) (by simp)) _
    refine⟨_,_,.aj,by rw[q];rfl,?_,kL _ (hz _ _ _ _ _),.inl ⟨rfl,rfl,rfl⟩⟩
    rw[show (f.seen++[v]).length=f.seen.length+1 by simp]
    exact .inr ⟨_,rfl,by omega,by simp;omega,by rw[hy,List.flatMap_append];simp[uc]⟩
   ·have q3:e3≠0:=by simpa using q3
    rw[if_neg q3]at hT
    subst hT
    have hz:∀ X W V,(((B++[X]).set bs.length W).set (bs.length+1) V)[b2.length+2]? = B[b2.length+2]? := fun X W V=>by
     rw[zTj (by omega),zTj (by omega),g3]
     exact ad g3 _
    exact⟨fun _=>⟨((gk.app _).set (zTz _) _).set (by omega) _,ys,_,.aj,rfl,((s1.app _).fy (m0 _) _).fy (u01 _ _) _,kL _ (hz _ _ _),.inl ⟨rfl,rfl,rfl⟩⟩,fun h=>absurd h (by simpa using q3)⟩
 ·have q1:e≠0:=by simpa using q1
  rw[if_neg (fun h=>q1 h.1),if_pos q1]at hT
  subst hT
  simp only[cz,↓Xn,↓Xo,↓Xg,↓Xd,↓Xe,↓Xf,Tryz.VΓ,Tryz.Γs,Xp,Xi,Nat.reduceAdd,Nat.reduceSub,Nat.reduceLT,Nat.reduceLeDiff,reduceIte,reduceCtorEq,Nat.reduceEqDiff,implies_true,forall_const,cw,nO,beq_self_eq_true,bne_self_eq_false,Int.reduceBEq,Int.reduceBNe,Int.reduceLT,Int.reduceLE,g0,g1,g2,g3,s00,s01,s02,s11,p0,pq,p01,q00,q01,q11,vR,pJ,La,List.set_set]
  exact⟨fun _=>⟨(gk.set (zTz _) _).set (by omega) _,ys,_,.aj,rfl,(s1.fy g0 _).fy (s01 _) _,kL _ ((s13 _ _).trans g3.symm),.inl ⟨rfl,rfl,rfl⟩⟩,fun h=>absurd h (by simpa using q1)⟩
theorem CA {u:bM}(hc:fJ u):Fair u:=by
 have h1:=cR hc.host
 have h2:=iI u
 have h3:=hc.len
 have h4:u.query.length≤4096:=by
  cases hq:u.aD
  ·rw[hc.noq hq];simp
  ·have:=h2.2.1 hq;omega
 have h5:u.fragment.length≤4096:=by
  cases hq:u.aP
  ·rw[hc.nof hq];simp
  ·have:=h2.2.2 hq;omega
 exact⟨by omega,by omega,by omega⟩
theorem E9 (L:List fK)(now:Int){u:bM}{k:Nat}(h:(af L now u k).done=false):k≤5∧Fair (af L now u k).next∧(af L now u k).fk=k∧(af L now u k).seen.length=k+1∧(af L now u k).trace.length=k∧(af L now u k).dE=gY.none:=by
 cases hv:bQ u with
 | false =>
   have h0:(af L now u 0).done=true:=by unfold af bF;rw[if_pos hv]
   rw[dJ L now u h0 k (by omega),h0]at h
   cases h
 | true =>
   rcases tq L now hv k with⟨h1,h2⟩|⟨k',h1,h2,-,-⟩
   ·have h3:=h1.le
    refine⟨by omega,CA (nH (h1.valid _ (by rw[h1.seen];simp))),by rw[h1.fk,h2],?_,h2,h1.dE⟩
    rw[h1.seen];simp[h2]
   ·rw[dJ L now u h2.done k h1,h2.done]at h
    cases h
theorem MV (L:List fK)(now:Int){u:bM}{k:Nat}(hk:k≤6)(h:(af L now u k).done=true):af L now u k=af L now u 6:=(dJ L now u h 6 hk).symm
def runM (i:Nat)(σ:St):Nat:=match σ.b[i]? with
 | some (.cells c _ _)=>match c[7]?,c[8]? with
   | some (SV.int _ h),some (SV.bool false)=>7 - h.toNat
   | _,_=>0
 | _=>0
theorem gP {bs:List av}{j:Nat}{L:List fK}{m:Bool}(hj:bs[j]? = some (.own (L.flatMap ac) 33 7 L.length m))(hL:L.length≤1000000)(hr:∀ a∈L,a.raw.length≤4000000)(now:Int)(u:bM)(hu:Fair u) :
 SC Tryz.V 16 [.o j L.length,.int .u64 now,.agg (uc u)] bs (fun r b=>Kp bs b∧∃ yt yf,r=.eW [.agg (dy (af L now u 6).dE yf yt),.int .i64 (af L now u 6).err]∧jW 62 9 bs.length yt b ((af L now u 6).trace.flatMap ec) (af L now u 6).trace.length∧jW 100 2 bs.length yf b ((af L now u 6).dE.fields.flatMap fc) (af L now u 6).dE.fields.length):=by
 have gw:j<bs.length:=(zTk.1 hj).1
 have s1:=fun X Y=>qn (bs:=bs++[X]++[Y]) u hu
 refine bo 3000 Tryz.func16 rfl Tryz.ntmps16 Tryz.results16 Tryz.call16 (by simp) (ah bs.length _ (by simp[within,within.ax,gw,uc])) ?_
 have mb:af L now u 0=bF u:=rfl
 have JO:∀ k,af L now u (k+1)=cL L now (af L now u k):=fun _=>rfl
 have ro:=fun k=>E9 L now (u:=u) (k:=k)
 have rl:=fun k=>MV L now (u:=u) (k:=k)
 generalize af L now u=A at mb JO ro rl ⊢
 generalize hF:A 6=F
 unfold uc at s1 ⊢
 refine mc ?_
 refine ae (s1 _ _) ?_
 rintro r b ⟨hk,ys,rfl,fD⟩
 replace fD:=fD.low (L':=bs.length) (by simp)
 have a1:=hk.at (aC _ _)
 have kb:=(((Kp.refl bs).app _).app _).trans hk
 rw[show ∀ X:av,(bs++[X]).length=bs.length+1 from fun X=>by simp]at a1 ⊢
 have mh:bs.length+1<b.length:=(zTk.1 a1).1
 clear hk s1
 have vR:=fD.one
 unfold eL dy uc
 simp only[zTx,zTw]
 refine gB vR ?_
 have hY:(bF u).trace=[]∧(bF u).dE=gY.none:=by unfold bF;split <;> exact⟨rfl,rfl⟩
 have u1:=fun X=>ad a1 [X]
 have kf:bs.length+2≤b.length:=mh
 have b8:=fun X=>aC b X
 have kbx:=fun X=>kb.app [X]
 have hsx:=fun X=>fD.app [X]
 generalize hq:b.length=q at b8 kf ⊢
 refine az (fun σ=>∃ (k:Nat) (xs xt xf:SV),k≤6∧lk 0 σ.t=some (.o j L.length)∧lk 1 σ.t=some (.int .u64 now)∧lk 6 σ.t=some (.p (bs.length+1) 0)∧lk 8 σ.t=some (.p q 0) ∧
  σ.b[bs.length+1]? = some (.cells [.str [],.int .i64 0,.str [],.str [],.str [],.bool false,.bool false,.int .i64 0,.int .i64 0,.aj,.str [],.aj] 51 true) ∧
  σ.b[q]? = some (.cells (eL (A k) xs xt xf) 58 true)∧Kp bs σ.b ∧
  jW 35 7 bs.length xs σ.b ((A k).seen.flatMap uc) (A k).seen.length∧jW 62 9 bs.length xt σ.b ((A k).trace.flatMap ec) (A k).trace.length∧jW 100 2 bs.length xf σ.b ((A k).dE.fields.flatMap fc) (A k).dE.fields.length)
  (fun σ=>runM q σ) ⟨0,ys,.aj,.aj,by omega,rfl,rfl,rfl,rfl,u1 _,by rw[mb];exact b8 _,kbx _,by rw[mb];exact hsx _,.inl ⟨rfl,by rw[mb,hY.1];rfl,by rw[mb,hY.1];rfl⟩,.inl ⟨rfl,by rw[mb,hY.2];rfl,by rw[mb,hY.2];rfl⟩⟩ ?_
 clear hY u1 b8 kbx hsx hq kb fD a1 mh vR
 clear b
 rintro⟨t,b⟩ ⟨k,xs,xt,xf,lJ,h0,h1,h6,h8,b1,b8,kb,xF,fA,Ch⟩
 simp only at h0 h1 h6 h8 b1 b8 kb xF fA Ch
 have hqb:q<b.length:=(zTk.1 b8).1
 have vR:=xF.one
 have pJ:=fA.one
 have La:=Ch.one
 cases hd:(A k).done
 ·obtain⟨g1,g2,g3,g4,g5,g6⟩:=ro _ hd
  have st:=rU (kb.at hj) hL hr now (A k) (fun _=>g2) (by omega) xF.sx fA.sx Ch.sx (by omega) (by omega) (by rw[g6];simp[gY.none])
  rw[← JO]at st
  have hm:runM q ⟨t,b⟩=7 - k:=by
   unfold runM
   simp only[b8,eL,dy,uc,zTx,zTw,List.getElem?_cons_succ,List.getElem?_cons_zero,hd,g3]
   simp
  rw[hm]
  have hmn:∀ (σ:St) (xs xt xf:SV),σ.b[q]? = some (.cells (eL (A (k+1)) xs xt xf) 58 true)→runM q σ<7 - k:=by
   rintro⟨t',b'⟩ xs xt xf h
   unfold runM
   simp only at h ⊢
   simp only[h,eL,dy,uc,zTx,zTw,List.getElem?_cons_succ,List.getElem?_cons_zero]
   cases AG:(A (k+1)).done
   ·have:=(ro _ AG).2.2.1
    simp only[this]
    omega
   ·simp only
    omega
  unfold eL dy uc at b8 st
  simp only[zTx,zTw,hd]at b8 st
  refine gB (zTi h0 (zTi h1 (zTi h6 (zTi h8 (zTi b1 (zTi b8 (zTi hd zTq))))))) ?_
  refine ae st ?_
  rintro r b' ⟨hk',ys,yt,yf,rfl,oK,jI,uA⟩
  have c8:=hk'.at b8
  have c1:=hk'.at b1
  have hqb':q<b'.length:=(zTk.1 c8).1
  have t8:∀ X,(b'.set q X)[q]? = some X:=fun X=>zTl hqb'
  have t1:=fun X=>(zTj (l:=b') (i:=q) (j:=bs.length+1) (a:=X) (by omega)).trans c1
  have i1:=oK.one
  have i2:=jI.one
  have i3:=uA.one
  have m1:=(oK.low (L':=bs.length) (by have:=kb.1;omega)).fy c8
  have m2:=(jI.low (L':=bs.length) (by have:=kb.1;omega)).fy c8
  have m3:=(uA.low (L':=bs.length) (by have:=kb.1;omega)).fy c8
  have kb':=(kb.trans hk')
  unfold eL dy uc
  simp only[zTx,zTw]
  refine gB (zTi h0 (zTi h1 (zTi h6 (zTi h8 (zTi c1 (zTi c8 (zTi t8 (zTi t1 (zTi i1 (zTi i2 i3)))))))))) ?_
  exact⟨⟨k+1,ys,yt,yf,by omega,rfl,kb'.set (by omega) _,m1 _,m2 _,m3 _⟩,hmn _ ys yt yf (t8 _)⟩
 ·have hfe:=rl _ lJ hd
  rw[hF]at hfe
  rw[hfe]at b8 fA Ch
  have t1:∀ X,(b.set (bs.length+1) X)[bs.length+1]? = some X:=fun X=>zTl (by omega)
  unfold eL dy uc at b8
  simp only[zTx,zTw]at b8
  rw[hfe]at hd
  refine gB (zTi h0 (zTi h1 (zTi h6 (zTi h8 (zTi b1 (zTi b8 (zTi hd (zTi zTo (zTi t1 (zTi vR (zTi pJ La))))))))))) ?_
  have hql2:(q=bs.length+1)=False:=by simp;omega
  exact⟨(by
   refine bO (fun n=>if n=bs.length+1 then 0 else 1) ?_
   simp only[zTC,zTD,cW,eS,reduceIte,hql2]
   exact aq (by kernel_rfl)),kb.set (by omega) _,xt,xf,rfl,fA.fy b1 _,Ch.fy b1 _⟩
end Go.Proofs.YtnmlimehgifadaaGreatDoor
