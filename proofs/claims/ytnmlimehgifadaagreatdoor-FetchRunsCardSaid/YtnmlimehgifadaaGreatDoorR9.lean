/- R9 -/
import Derived.Lib.IndexMore
import Derived.Lib.CountLaws
import Derived.Lib.Split
import Derived.Test.YtnmlimehgifadaaGreatDoorR8
open And renaming intro→zUs
open List renaming getElem?_set_ne→zUt,getElem?_eq_some_iff→zUu,getElem?_set_self→zUv,length_nil→zUw,length_cons→zUx,length_append→zUD,nil_append→zUE,cons_append→zUF,flatMap_cons→zUH,map_cons→zUI,map_nil→zUJ,mem_singleton→zUK,length_eq_zero_iff→zUL,mem_append→zUM,mem_cons→zUN
open Bool renaming not_true→zUy,false_eq_true→zUz,not_false→zUA,true_eq_false→zUB
open Int renaming cast_ofNat_Int→zUC
open Nat renaming le_refl→zUG,add_comm→zUO,zero_add→zUP
open True renaming intro→zUQ
open Go.Proofs.Tryz
set_option linter.all false
set_option maxHeartbeats 16000000
set_option maxRecDepth 20000
namespace Go.Proofs.YtnmlimehgifadaaGreatDoor
open Go Vc Go.RowKit Wf
def wS1:aq:=.own [.str ([108,114,100,100]:List UInt8)] 9 1 1 true
def wS3:aq:=.own [.str ([120]:List UInt8)] 9 1 1 true
def wS4:aq:=.own [.str ([108,114,100,100]:List UInt8),.str ([120]:List UInt8)] 9 1 2 true
theorem NU {bs:List aq}:SC QH 245 [.str ([108,114,100,100,32,120]:List UInt8)] bs (fun r b=>r=.o (bs.length+3) 2∧b=bs++[wS1,.gone,wS3,wS4]):=by
 have s0:PC QH 198 [.str ([108,114,100,100,32,120]:List UInt8),.int .i64 0] (.int .i64 0):=ga (a:=0) (b:=0) (jN.of QD) QB;have s4:PC QH 198 [.str ([108,114,100,100,32,120]:List UInt8),.int .i64 4] (.int .i64 5):=ga (a:=4) (b:=5) (jN.of QD) QB;have s6:PC QH 198 [.str ([108,114,100,100,32,120]:List UInt8),.int .i64 6] (.int .i64 6):=ga (a:=6) (b:=6) (jN.of QD) QB;have k1:bA 32=true:=rfl;have k2:bA 108=false:=rfl;have k3:bA 114=false:=rfl;have k4:bA 100=false:=rfl;have k5:bA 120=false:=rfl;have c6:((6:Nat):Int)=6:=rfl;have bl:=jS;have lw1:=gU ([108,114,100,100]:List UInt8) QB;have lw2:=gU ([120]:List UInt8) QB;rw[show lower ([108,114,100,100]:List UInt8)=([108,114,100,100]:List UInt8) by decide]at lw1;rw[show lower ([120]:List UInt8)=([120]:List UInt8) by decide]at lw2;refine bp 3000 func245 rfl ntmps245 results245 call245 QB (af bs.length _ (by simp[within,within.av])) ?_;refine dY ?_
 (refine aa (s0) ?_;refine dY ?_)
 refine ax (fun σ=>lk 0 σ.t=some (.str ([108,114,100,100,32,120]:List UInt8))∧((lk 3 σ.t=some .ai∧lk 4 σ.t=some (.int .i64 0)∧σ.b=bs)∨(lk 3 σ.t=some (.o (bs.length+1) 1)∧lk 4 σ.t=some (.int .i64 5)∧σ.b=bs++[wS1,wS1])∨(lk 3 σ.t=some (.o (bs.length+3) 2)∧lk 4 σ.t=some (.int .i64 6)∧σ.b=bs++[wS1,.gone,wS3,wS4]))) (fun σ=>7 - fA 4 σ) ⟨rfl,.inl ⟨rfl,rfl,rfl⟩⟩ ?_;rintro⟨t,b⟩ ⟨h0,⟨h3,h4,hb⟩|⟨h3,h4,hb⟩|⟨h3,h4,hb⟩⟩ <;> simp only at h0 h3 h4 hb <;> subst hb <;> rw[ak h4]
 ·simp only[bJ,↓Xn,↓Xo,↓Xg,↓Xd,↓Xe,↓Xf,Tryz.VΓ,Tryz.Γs,Xp,Xi,Nat.reduceAdd,Nat.reduceSub,Nat.reduceLT,Nat.reduceLeDiff,reduceIte,reduceCtorEq,Nat.reduceEqDiff,implies_true,forall_const,bI,di,h0,h3,h4,beq_self_eq_true,bne_self_eq_false,Int.reduceBEq,Int.reduceBNe,Int.reduceLT,Int.reduceLE,zUx,zUw,c6,decide_true,decide_false,zUB,zUz]
  (refine ax (fun σ=>∃ k:Nat,0≤k∧k≤4∧lk 0 σ.t=some (.str ([108,114,100,100,32,120]:List UInt8))∧lk 3 σ.t=some .ai∧lk 4 σ.t=some (.int .i64 0)∧lk 5 σ.t=some (.int .i64 k)∧σ.b=b) (fun σ=>4 - fA 5 σ) ⟨0,QA,QA,h0,h3,h4,rfl,rfl⟩ ?_
   rintro⟨t2,b2⟩ ⟨k,hk,gp,h0,h3,h4,h5,hb⟩;simp only at h0 h3 h4 h5 hb;subst hb;rw[ak h5])
  by_cases hke:k=4
  ·subst hke
   simp only[bJ,↓Xn,↓Xo,↓Xg,↓Xd,↓Xe,↓Xf,Tryz.VΓ,Tryz.Γs,Xp,Xi,Nat.reduceAdd,Nat.reduceSub,Nat.reduceLT,Nat.reduceLeDiff,reduceIte,reduceCtorEq,Nat.reduceEqDiff,implies_true,forall_const,bI,di,beq_self_eq_true,bne_self_eq_false,Int.reduceBEq,Int.reduceBNe,Int.reduceLT,Int.reduceLE,zUx,zUw,Nat.reduceAdd,zUC,decide_true,decide_false,zUB,zUz,Int.reduceLT,Int.reduceToNat,h0,h3,h4,h5]
   (refine aa (bl _) ?_;simp only[bJ,↓Xn,↓Xo,↓Xg,↓Xd,↓Xe,↓Xf,Tryz.VΓ,Tryz.Γs,Xp,Xi,Nat.reduceAdd,Nat.reduceSub,Nat.reduceLT,Nat.reduceLeDiff,reduceIte,reduceCtorEq,Nat.reduceEqDiff,implies_true,forall_const,bI,di,beq_self_eq_true,bne_self_eq_false,Int.reduceBEq,Int.reduceBNe,Int.reduceLT,Int.reduceLE,zUx,zUw,Nat.reduceAdd,zUC,decide_true,decide_false,zUB,zUz,Int.reduceLT,Int.reduceToNat,h0,h3,h4,h5,k1,zUy,List.take_succ_cons,List.take_zero,List.drop_zero])
   (refine aa (lw1) ?_;simp only[bJ,↓Xn,↓Xo,↓Xg,↓Xd,↓Xe,↓Xf,Tryz.VΓ,Tryz.Γs,Xp,Xi,Nat.reduceAdd,Nat.reduceSub,Nat.reduceLT,Nat.reduceLeDiff,reduceIte,reduceCtorEq,Nat.reduceEqDiff,implies_true,forall_const,bI,di,beq_self_eq_true,bne_self_eq_false,Int.reduceBEq,Int.reduceBNe,Int.reduceLT,Int.reduceLE,zUx,zUw,Nat.reduceAdd,zUC,decide_true,decide_false,zUB,zUz,Int.reduceLT,Int.reduceToNat,h0,h3,h4,h5])
   refine⟨QA,⟨by unfold maxLen;omega,QA⟩,?_⟩
   (refine aa (s4) ?_;simp only[bJ,↓Xn,↓Xo,↓Xg,↓Xd,↓Xe,↓Xf,Tryz.VΓ,Tryz.Γs,Xp,Xi,Nat.reduceAdd,Nat.reduceSub,Nat.reduceLT,Nat.reduceLeDiff,reduceIte,reduceCtorEq,Nat.reduceEqDiff,implies_true,forall_const,bI,di,beq_self_eq_true,bne_self_eq_false,Int.reduceBEq,Int.reduceBNe,Int.reduceLT,Int.reduceLE,zUx,zUw,Nat.reduceAdd,zUC,decide_true,decide_false,zUB,zUz,Int.reduceLT,Int.reduceToNat,h0,h3,h4,h5])
   exact⟨by(first|rfl|exact .inl rfl|exact .inr rfl|exact .inr (.inl rfl) | exact .inr (.inr rfl)),by rw[ak (k:=.i64) (n:=5) rfl];omega⟩
  ·obtain rfl|rfl|rfl|rfl:k=0∨k=1∨k=2∨k=3:=QA
   all_goals
    simp only[bJ,↓Xn,↓Xo,↓Xg,↓Xd,↓Xe,↓Xf,Tryz.VΓ,Tryz.Γs,Xp,Xi,Nat.reduceAdd,Nat.reduceSub,Nat.reduceLT,Nat.reduceLeDiff,reduceIte,reduceCtorEq,Nat.reduceEqDiff,implies_true,forall_const,bI,di,beq_self_eq_true,bne_self_eq_false,Int.reduceBEq,Int.reduceBNe,Int.reduceLT,Int.reduceLE,zUx,zUw,Nat.reduceAdd,zUC,decide_true,decide_false,zUB,zUz,Int.reduceLT,Int.reduceToNat,h0,h3,h4,h5]
    (refine aa (bl _) ?_;simp only[bJ,↓Xn,↓Xo,↓Xg,↓Xd,↓Xe,↓Xf,Tryz.VΓ,Tryz.Γs,Xp,Xi,Nat.reduceAdd,Nat.reduceSub,Nat.reduceLT,Nat.reduceLeDiff,reduceIte,reduceCtorEq,Nat.reduceEqDiff,implies_true,forall_const,bI,di,beq_self_eq_true,bne_self_eq_false,Int.reduceBEq,Int.reduceBNe,Int.reduceLT,Int.reduceLE,zUx,zUw,Nat.reduceAdd,zUC,decide_true,decide_false,zUB,zUz,Int.reduceLT,Int.reduceToNat,h0,h3,h4,h5,k2,k3,k4,k5,zUA,Int.reduceAdd])
    first
     | exact⟨⟨1,QA,QA,rfl⟩,by rw[ak (k:=.i64) (n:=1) rfl];omega⟩
     | exact⟨⟨2,QA,QA,rfl⟩,by rw[ak (k:=.i64) (n:=2) rfl];omega⟩
     | exact⟨⟨3,QA,QA,rfl⟩,by rw[ak (k:=.i64) (n:=3) rfl];omega⟩
     | exact⟨⟨4,QA,QA,rfl⟩,by rw[ak (k:=.i64) (n:=4) rfl];omega⟩
 ·simp only[bJ,↓Xn,↓Xo,↓Xg,↓Xd,↓Xe,↓Xf,Tryz.VΓ,Tryz.Γs,Xp,Xi,Nat.reduceAdd,Nat.reduceSub,Nat.reduceLT,Nat.reduceLeDiff,reduceIte,reduceCtorEq,Nat.reduceEqDiff,implies_true,forall_const,bI,di,beq_self_eq_true,bne_self_eq_false,Int.reduceBEq,Int.reduceBNe,Int.reduceLT,Int.reduceLE,zUx,zUw,Nat.reduceAdd,zUC,decide_true,decide_false,zUB,zUz,Int.reduceLT,Int.reduceToNat,h0,h3,h4]
  (refine ax (fun σ=>∃ k:Nat,5≤k∧k≤6∧lk 0 σ.t=some (.str ([108,114,100,100,32,120]:List UInt8))∧lk 3 σ.t=some (.o (bs.length+1) 1)∧lk 4 σ.t=some (.int .i64 5)∧lk 5 σ.t=some (.int .i64 k)∧σ.b=bs++[wS1,wS1]) (fun σ=>6 - fA 5 σ) ⟨5,QA,QA,h0,h3,h4,rfl,rfl⟩ ?_
   rintro⟨t2,b2⟩ ⟨k,hk,gp,h0,h3,h4,h5,hb⟩;simp only at h0 h3 h4 h5 hb;subst hb;rw[ak h5])
  by_cases hke:k=6
  ·subst hke
   simp only[bJ,↓Xn,↓Xo,↓Xg,↓Xd,↓Xe,↓Xf,Tryz.VΓ,Tryz.Γs,Xp,Xi,Nat.reduceAdd,Nat.reduceSub,Nat.reduceLT,Nat.reduceLeDiff,reduceIte,reduceCtorEq,Nat.reduceEqDiff,implies_true,forall_const,bI,di,beq_self_eq_true,bne_self_eq_false,Int.reduceBEq,Int.reduceBNe,Int.reduceLT,Int.reduceLE,zUx,zUw,Nat.reduceAdd,zUC,decide_true,decide_false,zUB,zUz,Int.reduceLT,Int.reduceToNat,h0,h3,h4,h5,List.take_succ_cons,List.take_zero,List.drop_zero,wS1]
   (refine aa (lw2) ?_;simp only[bJ,↓Xn,↓Xo,↓Xg,↓Xd,↓Xe,↓Xf,Tryz.VΓ,Tryz.Γs,Xp,Xi,Nat.reduceAdd,Nat.reduceSub,Nat.reduceLT,Nat.reduceLeDiff,reduceIte,reduceCtorEq,Nat.reduceEqDiff,implies_true,forall_const,bI,di,beq_self_eq_true,bne_self_eq_false,Int.reduceBEq,Int.reduceBNe,Int.reduceLT,Int.reduceLE,zUx,zUw,Nat.reduceAdd,zUC,decide_true,decide_false,zUB,zUz,Int.reduceLT,Int.reduceToNat,h0,h3,h4,h5,wS1])
   refine⟨QA,⟨by unfold maxLen;omega,QA⟩,?_⟩
   (refine aa (s6) ?_;simp only[bJ,↓Xn,↓Xo,↓Xg,↓Xd,↓Xe,↓Xf,Tryz.VΓ,Tryz.Γs,Xp,Xi,Nat.reduceAdd,Nat.reduceSub,Nat.reduceLT,Nat.reduceLeDiff,reduceIte,reduceCtorEq,Nat.reduceEqDiff,implies_true,forall_const,bI,di,beq_self_eq_true,bne_self_eq_false,Int.reduceBEq,Int.reduceBNe,Int.reduceLT,Int.reduceLE,zUx,zUw,Nat.reduceAdd,zUC,decide_true,decide_false,zUB,zUz,Int.reduceLT,Int.reduceToNat,h0,h3,h4,h5])
   exact⟨by(first|rfl|exact .inl rfl|exact .inr rfl|exact .inr (.inl rfl) | exact .inr (.inr rfl)),by rw[ak (k:=.i64) (n:=6) rfl];omega⟩
  ·obtain rfl:k=5:=QA
   simp only[bJ,↓Xn,↓Xo,↓Xg,↓Xd,↓Xe,↓Xf,Tryz.VΓ,Tryz.Γs,Xp,Xi,Nat.reduceAdd,Nat.reduceSub,Nat.reduceLT,Nat.reduceLeDiff,reduceIte,reduceCtorEq,Nat.reduceEqDiff,implies_true,forall_const,bI,di,beq_self_eq_true,bne_self_eq_false,Int.reduceBEq,Int.reduceBNe,Int.reduceLT,Int.reduceLE,zUx,zUw,Nat.reduceAdd,zUC,decide_true,decide_false,zUB,zUz,Int.reduceLT,Int.reduceToNat,h0,h3,h4,h5]
   (refine aa (bl _) ?_;simp only[bJ,↓Xn,↓Xo,↓Xg,↓Xd,↓Xe,↓Xf,Tryz.VΓ,Tryz.Γs,Xp,Xi,Nat.reduceAdd,Nat.reduceSub,Nat.reduceLT,Nat.reduceLeDiff,reduceIte,reduceCtorEq,Nat.reduceEqDiff,implies_true,forall_const,bI,di,beq_self_eq_true,bne_self_eq_false,Int.reduceBEq,Int.reduceBNe,Int.reduceLT,Int.reduceLE,zUx,zUw,Nat.reduceAdd,zUC,decide_true,decide_false,zUB,zUz,Int.reduceLT,Int.reduceToNat,h0,h3,h4,h5,k2,k3,k4,k5,zUA,Int.reduceAdd])
   exact⟨⟨6,QA,QA,rfl⟩,by rw[ak (k:=.i64) (n:=6) rfl];omega⟩
 ·simp only[bJ,↓Xn,↓Xo,↓Xg,↓Xd,↓Xe,↓Xf,Tryz.VΓ,Tryz.Γs,Xp,Xi,Nat.reduceAdd,Nat.reduceSub,Nat.reduceLT,Nat.reduceLeDiff,reduceIte,reduceCtorEq,Nat.reduceEqDiff,implies_true,forall_const,bI,di,beq_self_eq_true,bne_self_eq_false,Int.reduceBEq,Int.reduceBNe,Int.reduceLT,Int.reduceLE,zUx,zUw,Nat.reduceAdd,zUC,decide_true,decide_false,zUB,zUz,Int.reduceLT,Int.reduceToNat,h0,h3,h4]
structure WL (s t:Bytes) (n:Nat):Prop where
 len:s.length=n+16
 tn:n≤100
 g0:s.getD 0 0=60
 pr:jN (fun c=>e7 c&&c != 62) s 1 (n+1)
 g1:s.getD (n+1) 0=62
 tk:(s.take (n+1)).drop 1=t
 g2:s.getD (n+2) 0=59
 sk0:jN bA s 0 0
 sk2:jN bA s (n+2) (n+2)
 sk3:jN bA s (n+3) (n+4)
 tok:jN rU s (n+4) (n+7)
 tokT:(s.take (n+7)).drop (n+4)=([114,101,108]:List UInt8)
 sk7:jN bA s (n+7) (n+7)
 g7:s.getD (n+7) 0=61
 sk8:jN bA s (n+8) (n+8)
 g8:s.getD (n+8) 0=34
 q:jN DV s (n+8+1) (n+15)
 qT:(s.take (n+15)).drop (n+8+1)=([108,114,100,100,32,120]:List UInt8)
 g15:s.getD (n+15) 0=34
 sk16:jN bA s (n+16) (n+16)
def wlT (t:Bytes):Bytes:=[60]++t++([62,59,32,114,101,108,61,34,108,114,100,100,32,120,34]:List UInt8)
theorem WL.of {t:Bytes}(ht:t=([104,116,116,112,115,58,47,47,101,46,101,120,97,109,112,108,101,47,108,105,110,107]:List UInt8)∨t=([47,104,101,114,101]:List UInt8)∨t=([120,63,121]:List UInt8)∨t=([104,116,116,112,58,47,47,101,46,101,120,97,109,112,108,101,47]:List UInt8)):WL (wlT t) t t.length:=by
 rcases ht with rfl|rfl|rfl|rfl <;> exact⟨rfl,by decide,rfl,.of QD,rfl,rfl,rfl,.of QD,.of QD,.of QD,.of QD,rfl,.of QD,rfl,.of QD,rfl,.of QD,rfl,rfl,.of QD⟩
theorem Gn {s t:Bytes}{n:Nat}(h:WL s t n):PC QH 244 [.str s,.int .i64 ((n+4:Nat):Int)] (.eh [.agg [.str ([114,101,108]:List UInt8),.str ([108,114,100,100,32,120]:List UInt8)],.int .i64 ((n+16:Nat):Int),.bool true]):=by
 have hl:s.length≤4294967281:=by rw[h.len];have:=h.tn;omega
 have pT:=Gp h.tok QA hl;rw[h.tokT]at pT;have s7:=ga h.sk7 hl;have s8:=ga h.sk8 hl;have pV:=D5 h.g8 h.q (by rw[h.len];omega) h.g15 hl;rw[h.qT,show (((n+15:Nat):Int)+1)=((n+16:Nat):Int) by omega]at pV;have pL:=gU ([114,101,108]:List UInt8) QB;rw[show lower ([114,101,108]:List UInt8)=([114,101,108]:List UInt8) by decide]at pL;have e8:((n+7:Nat):Int)+1=((n+8:Nat):Int):=QA;have d7:decide (((n+7:Nat):Int)<(s.length:Int))=true:=decide_eq_true (by rw[h.len];omega);have g7:(((s.getD (n+7) 0).toNat:Int)==61)=true:=by rw[h.g7];rfl
 have l7:n+7<s.length:=by rw[h.len];omega
 refine aU 3000 func244 rfl ntmps244 results244 call244 QB (by simp[flat,flat.ah]) (by simp[flat,flat.ah]) ?_;generalize hn7:n+7=n7 at pT s7 e8 d7 g7 l7 ⊢;generalize Hg:n+8=n8 at pV s8 e8 ⊢;generalize hn4:n+4=n4 at pT ⊢;generalize hn16:n+16=n16 at pV ⊢;have tn:=h.tn;refine dY ?_
 (refine aa (pT) ?_;refine gA zUy ?_)
 (refine aa (pL) ?_;refine gA zUy ?_)
 (refine aa (s7) ?_;refine gA (zUs zUy (zUs d7 (zUs g7 e8))) ?_)
 refine⟨⟨QA,QA⟩,?_⟩;refine⟨⟨QA,QA⟩,?_⟩
 (refine aa (s8) ?_;refine gA (zUs zUy e8) ?_)
 (refine aa (pV) ?_;exact gA zUy zUQ)
def Ny:aq:=.own [.str ([108,114,100,100]:List UInt8),.str ([120]:List UInt8)] 9 1 2 true
def wPar:aq:=.own [.str ([114,101,108]:List UInt8),.str ([108,114,100,100,32,120]:List UInt8)] 100 2 1 true
theorem sc_link {bs:List aq}{s t:Bytes}{n:Nat}(h:WL s t n):SC QH 199 [.str s,.int .i64 0] bs (fun r b=>∃ q1 q2,r=.eh [.agg [.str t,.o q1 2,.o q2 1],.int .i64 ((n+16:Nat):Int),.bool true]∧Kp bs b∧bs.length≤q1∧bs.length≤q2∧b[q1]? = some Ny∧b[q2]? = some wPar):=by
 have hl:s.length≤4294967281:=by rw[h.len];have:=h.tn;omega
 have tn:=h.tn;have len:=h.len;have s2:=ga h.sk2 hl;have s3:=ga h.sk3 hl;have s16:=ga h.sk16 hl;have pP:=Gn h;have e2:((n+1:Nat):Int)+1=((n+2:Nat):Int):=QA;have e3:((n+2:Nat):Int)+1=((n+3:Nat):Int):=QA;have g1:(((s.getD (n+1) 0).toNat:Int) != 62)=false:=by rw[h.g1];rfl
 have g2:(((s.getD (n+2) 0).toNat:Int)==59)=true:=by rw[h.g2];rfl
 have d1:decide (((n+1:Nat):Int)<(s.length:Int))=true:=QF;have d2:decide (((n+2:Nat):Int)<(s.length:Int))=true:=QF;have d16:decide (((n+16:Nat):Int)<(s.length:Int))=false:=QG;have ne1:(((n+1:Nat):Int)==(s.length:Int))=false:=beq_eq_false_iff_ne.2 QA;have tk:=h.tk;obtain⟨-,-,pr,-⟩:=h.pr;refine bp 3000 func199 rfl ntmps199 results199 call199 QB (af bs.length _ (by simp[within,within.av])) ?_;simp only[bJ,↓Xn,↓Xo,↓Xg,↓Xd,↓Xe,↓Xf,Tryz.VΓ,Tryz.Γs,Xp,Xi,Nat.reduceAdd,Nat.reduceSub,Nat.reduceLT,Nat.reduceLeDiff,reduceIte,reduceCtorEq,Nat.reduceEqDiff,implies_true,forall_const,bI,di,beq_self_eq_true,bne_self_eq_false,Int.reduceBEq,Int.reduceBNe,Int.reduceLT,Int.reduceLE,Int.reduceAdd];refine ax (fun σ=>∃ k:Nat,1≤k∧k≤n+1∧lk 0 σ.t=some (.str s)∧lk 1 σ.t=some (.int .i64 0)∧lk 4 σ.t=some (.p bs.length 0)∧lk 7 σ.t=some (.int .i64 k)∧σ.b=bs++[.cells [.str [],.ai,.ai] 237 true]) (fun σ=>n+1 - fA 7 σ) ⟨1,QA,QA,rfl,rfl,rfl,rfl,rfl⟩ ?_;rintro⟨t1,b1⟩ ⟨k,hk,gp,h0,h1,h4,h7,hb⟩;simp only at h0 h1 h4 h7 hb;subst hb;rw[ak h7];by_cases hke:k=n+1
 ·subst hke
  have hle:n+1≤s.length:=QA;generalize uZ:n+1=N1 at g1 d1 ne1 tk e2 hle h7 ⊢;simp only[bJ,↓Xn,↓Xo,↓Xg,↓Xd,↓Xe,↓Xf,Tryz.VΓ,Tryz.Γs,Xp,Xi,Nat.reduceAdd,Nat.reduceSub,Nat.reduceLT,Nat.reduceLeDiff,reduceIte,reduceCtorEq,Nat.reduceEqDiff,implies_true,forall_const,bI,di,beq_self_eq_true,bne_self_eq_false,Int.reduceBEq,Int.reduceBNe,Int.reduceLT,Int.reduceLE,h0,h1,h4,h7,d1,g1,ne1,e2,Int.reduceAdd,Int.reduceToNat,tk];have e2':(N1:Int)+1=((n+2:Nat):Int):=QA;refine⟨QA,QA,QA,?_⟩
  (refine aa (s2) ?_;refine gA (zUs h0 (zUs h1 (zUs h4 h7))) ?_)
  refine ax (fun σ=>lk 0 σ.t=some (.str s)∧lk 4 σ.t=some (.p bs.length 0)∧lk 8 σ.t=some (.p (bs.length+1) 0)∧((lk 1 σ.t=some (.int .i64 ((n+2:Nat):Int))∧lk 9 σ.t=some (.bool false)∧σ.b=bs++[.cells [.str [],.ai,.ai] 237 true,.cells [.str t,.ai,.ai] 237 true])∨(lk 1 σ.t=some (.int .i64 ((n+16:Nat):Int))∧∃ q1 q2,Kp bs σ.b∧σ.b[bs.length]? = some (.cells [.str [],.ai,.ai] 237 true)∧σ.b[bs.length+1]? = some (.cells [.str t,.o q1 2,.o q2 1] 237 true)∧bs.length+1<q1∧bs.length+1<q2∧σ.b[q1]? = some Ny∧σ.b[q2]? = some wPar))) (fun σ=>n+17 - fA 1 σ) ⟨h0,h4,rfl,.inl ⟨rfl,rfl,rfl⟩⟩ ?_;rintro⟨t2,b2⟩ ⟨h0,h4,h8,⟨h1,h9,hb⟩|⟨h1,q1,q2,bm,dK,eZ,l1,l2,jK,p7⟩⟩
  ·simp only at h0 h4 h8 h1 h9 hb
   subst hb;rw[ak h1];refine gA (zUs h0 (zUs h1 (zUs h4 (zUs h8 (zUs h9 (zUs d2 (zUs g2 e3))))))) ?_;refine⟨⟨QA,QA⟩,⟨QA,QA⟩,?_⟩
   (refine aa (s3) ?_;refine gA (zUs h0 (zUs h1 (zUs h4 (zUs h8 h9)))) ?_)
   (refine aa (pP) ?_;refine gA (zUs h0 (zUs h1 (zUs h4 (zUs h8 (zUs h9 (zUs zUy zUA)))))) ?_)
   refine ae (NU) ?_;rintro r b ⟨rfl,rfl⟩;refine gA (zUs h0 (zUs h1 (zUs h4 (zUs h8 h9)))) ?_;refine⟨QA,⟨by unfold maxLen;omega,QA⟩,?_⟩
   (refine aa (s16) ?_;refine gA (zUs h0 (zUs h1 (zUs h4 (zUs h8 h9)))) ?_)
   exact⟨.inr ⟨bs.length+6,bs.length+8,(Kp.refl bs).app _,rfl,QA,QA,aY _ _ 6,aY _ _ 8⟩,by rw[ak (k:=.i64) (n:=((n+16:Nat):Int)) rfl];omega⟩
  ·simp only at h0 h4 h8 h1 bm dK eZ jK p7
   rw[ak h1];have kN:=fun X=>(zUv (zUu.1 dK).1:(b2.set bs.length X)[bs.length]? = some X)
   refine gA (zUs h0 (zUs h1 (zUs h4 (zUs h8 (zUs d16 (zUs dK (zUs eZ kN))))))) ?_;exact⟨q1,q2,rfl,bm.set (zUG _) _,QA,QA,aw jK QA _,aw p7 QA _⟩
 ·have hp:(e7 (s.getD k 0)&&s.getD k 0 != 62)=true:=pr k hk QA
  have hd:decide ((k:Int)<(s.length:Int))=true:=QF;have Ni:(!(e7 (s.getD k 0)&&s.getD k 0 != 62)||(decide ((((s.getD k 0).toNat:Int) != 62)=true)&&e7 (s.getD k 0)))=true:=du (p:=fun c=>!(e7 c&&c != 62)||(decide (((c.toNat:Int) != 62)=true)&&e7 c)) (by decide +kernel) (s.getD k 0);rw[hp]at Ni;simp only[zUy,Bool.false_or,Bool.and_eq_true,decide_eq_true_eq]at Ni;obtain⟨g3,g4⟩:=Ni;refine gA (zUs h0 (zUs h1 (zUs h4 (zUs h7 (zUs hd g3))))) ?_;refine⟨⟨QA,QA⟩,⟨QA,QA⟩,?_⟩
  (refine aa (kA (s.getD k 0)) ?_;refine gA (zUs h0 (zUs h1 (zUs h4 (zUs h7 (zUs g4 zUy))))) ?_)
  exact⟨QA,⟨k+1,QA,QA,rfl⟩,by rw[ak (k:=.i64) (n:=(k:Int)+1) rfl];omega⟩
def wLk (t:Bytes)(q1 q2:Nat):List SV:=[.str t,.o q1 2,.o q2 1]
theorem Dz {bs:List aq}{s t:Bytes}{n:Nat}(h:WL s t n):SC QH 144 [.str s] bs (fun r b=>∃ q q1 q2,r=.eh [.o q 1,.int .i64 0]∧Kp bs b∧b[q]? = some (.own (wLk t q1 q2) 237 3 1 true)∧b[q1]? = some Ny):=by
 have hl:s.length≤4294967281:=by rw[h.len];have:=h.tn;omega
 have tn:=h.tn;have len:=h.len;have s0:PC QH 198 [.str s,.int .i64 0] (.int .i64 0):=ga (a:=0) (b:=0) h.sk0 hl;have g0:(((s.getD 0 0).toNat:Int)==60)=true:=by rw[h.g0];rfl
 have d0:decide ((0:Int)<(s.length:Int))=true:=QF;have e16:(((n+16:Nat):Int)==(s.length:Int))=true:=beq_iff_eq.2 QA;refine bp 3000 func144 rfl ntmps144 results144 call144 QB (af bs.length _ (by simp[within,within.av])) ?_;refine dY ?_;refine ax (fun σ=>lk 0 σ.t=some (.str s)∧lk 4 σ.t=some .ai∧lk 5 σ.t=some (.int .i64 0)∧σ.b=bs) (fun σ=>1) ⟨rfl,rfl,rfl,rfl⟩ ?_;rintro⟨t1,b1⟩ ⟨h0,h4,h5,hb⟩;simp only at h0 h4 h5 hb;subst hb;refine gA (zUs h0 (zUs h4 h5)) ?_
 (refine aa (s0) ?_;simp only[bJ,↓Xn,↓Xo,↓Xg,↓Xd,↓Xe,↓Xf,Tryz.VΓ,Tryz.Γs,Xp,Xi,Nat.reduceAdd,Nat.reduceSub,Nat.reduceLT,Nat.reduceLeDiff,reduceIte,reduceCtorEq,Nat.reduceEqDiff,implies_true,forall_const,bI,di,beq_self_eq_true,bne_self_eq_false,Int.reduceBEq,Int.reduceBNe,Int.reduceLT,Int.reduceLE,h0,h4,h5,d0,g0,Int.reduceToNat,decide_false,decide_true,zUz])
 refine⟨QA,ae (sc_link h) ?_⟩;rintro r b ⟨q1,q2,rfl,hk,l1,l2,jK,p7⟩;refine gA (zUs h0 (zUs h4 (zUs h5 (zUs e16 zUy)))) ?_;refine⟨QA,⟨by unfold maxLen;omega,QA⟩,?_⟩;exact⟨_,_,_,rfl,hk.app _,aY _ _ 2,ad jK _⟩
theorem FN {bs:List aq}{t:Bytes}{q q1 q2:Nat}(hq:bs[q]? = some (.own (wLk t q1 q2) 237 3 1 true))(jK:bs[q1]? = some Ny):SC QH 145 [.o q 1,.str ([108,114,100,100]:List UInt8)] bs (fun r b=>r=.eh [.str t,.bool true]∧Kp bs b):=by
 have pE:=iN ([108,114,100,100]:List UInt8) ([108,114,100,100]:List UInt8) QB QB;rw[show (lower ([108,114,100,100]:List UInt8)==lower ([108,114,100,100]:List UInt8))=true by decide]at pE;have ql:=(zUu.1 hq).1;unfold wLk at hq;unfold Ny at jK;refine bp 3000 func145 rfl ntmps145 results145 call145 QB (af bs.length _ (by simp[within,within.av,ql])) ?_;refine dY ?_;refine ax (fun σ=>lk 1 σ.t=some (.str ([108,114,100,100]:List UInt8))∧lk 10 σ.t=some (.o q 1)∧lk 11 σ.t=some (.int .i64 1)∧lk 12 σ.t=some (.int .i64 0)∧σ.b=bs) (fun σ=>1) ⟨rfl,rfl,rfl,rfl,rfl⟩ ?_;rintro⟨t1,b1⟩ ⟨h1,eB,fM,qq,hb⟩;simp only at h1 eB fM qq hb;subst hb;refine gL (zUs h1 (zUs eB (zUs fM (zUs qq hq)))) ?_;refine ax (fun σ=>lk 1 σ.t=some (.str ([108,114,100,100]:List UInt8))∧lk 7 σ.t=some (.p b1.length 0)∧lk 17 σ.t=some (.o q1 2)∧lk 18 σ.t=some (.int .i64 2)∧lk 19 σ.t=some (.int .i64 0)∧σ.b=b1++[.cells [.str t,.o q1 2,.o q2 1] 237 true]) (fun σ=>1) ⟨h1,rfl,rfl,rfl,rfl,rfl⟩ ?_;rintro⟨t2,b2⟩ ⟨h1,h7,h17,h18,Bd,hb⟩;simp only at h1 h7 h17 h18 Bd hb;subst hb;refine gL (zUs h1 (zUs h7 (zUs h17 (zUs h18 (zUs Bd (ad jK)))))) ?_
 (refine aa (pE) ?_;simp only[bJ,↓Xn,↓Xo,↓Xg,↓Xd,↓Xe,↓Xf,Tryz.VΓ,Tryz.Γs,Xp,Xi,Nat.reduceAdd,Nat.reduceSub,Nat.reduceLT,Nat.reduceLeDiff,reduceIte,reduceCtorEq,Nat.reduceEqDiff,implies_true,forall_const,bI,di,beq_self_eq_true,bne_self_eq_false,Int.reduceBEq,Int.reduceBNe,Int.reduceLT,Int.reduceLE,zUx,zUw,Nat.reduceAdd,zUC,decide_true,decide_false,zUB,zUz,Int.reduceLT,Int.reduceToNat,h1,h7,h17,h18,Bd])
 exact(Kp.refl _).app _
def IdB (i:ln):Prop:=i.text.length≤4096∧i.host.length≤1000∧-9223372036854775808≤i.port∧i.port≤9223372036854775807
def qe (i:ln)(path:Bytes):bN:=if nf i then⟨i.host,i.port,path,[],[],false,false⟩ else⟨[],0,[],[],[],false,false⟩
theorem x9 {i:ln}(hi:IdB i){path:Bytes}(hp:path.length≤1000):Small (qe i path):=by
 unfold qe;split
 ·exact⟨by have:=hi.2.1;simp only[zUw];omega,hi.2.2⟩
 ·exact Small.Io QB
theorem zx (i:ln)(path:Bytes):PC QH 131 [kM i,.str path] (.eh [cA (qe i path),.int .i64 (if nf i then 0 else 8)]):=by
 have p1:=Gr mX i;refine aU 3000 func131 rfl ntmps131 results131 call131 QB (by simp[flat,flat.ah,kM]) (by simp[flat,flat.ah,cA]) ?_;unfold kM at p1 ⊢;unfold cA qe;refine dY ?_
 (refine aa (p1) ?_;refine dY ?_)
 cases hv:nf i
 ·exact gA zUA zUQ
 ·exact gA zUy zUQ
theorem zy (i:ln):PC QH 74 [kM i] (.eh [cA (qe i ([47,46,119,101,108,108,45,107,110,111,119,110,47,104,111,115,116,45,109,101,116,97,46,106,115,111,110]:List UInt8)),.int .i64 (if nf i then 0 else 8)]):=by
 have p1:=zx i ([47,46,119,101,108,108,45,107,110,111,119,110,47,104,111,115,116,45,109,101,116,97,46,106,115,111,110]:List UInt8);refine aU 3000 func74 rfl ntmps74 results74 call74 QB (by simp[flat,flat.ah,kM]) (by simp[flat,flat.ah,cA]) ?_;unfold kM cA at p1;unfold kM cA;refine dY ?_
 (refine aa (p1) ?_;exact dY zUQ)
theorem Jf (i:ln):PC QH 75 [kM i] (.eh [cA (qe i ([47]:List UInt8)),.int .i64 (if nf i then 0 else 8)]):=by
 have p1:=zx i ([47]:List UInt8);refine aU 3000 func75 rfl ntmps75 results75 call75 QB (by simp[flat,flat.ah,kM]) (by simp[flat,flat.ah,cA]) ?_;unfold kM cA at p1;unfold kM cA;refine dY ?_
 (refine aa (p1) ?_;exact dY zUQ)
theorem Gm (i:ln)(hi:IdB i):∃ u e,Small u∧PC QH 73 [kM i] (.eh [cA u,.int .i64 e]):=by
 have p1:=zx i ([47,46,119,101,108,108,45,107,110,111,119,110,47,119,101,98,102,105,110,103,101,114]:List UInt8);have gz:=eO [] i.text;have pe:=mW i.text [] (by have:=hi.1;omega) QB;have h1:=hi.1;have h2:=hi.2.1;cases hv:nf i
 ·refine⟨⟨[],0,[],[],[],false,false⟩,8,Small.Io QB,?_⟩
  rw[hv]at p1;simp only[qe,hv,zUz,if_false]at p1;refine aU 3000 func73 rfl ntmps73 results73 call73 QB (by simp[flat,flat.ah,kM]) (by simp[flat,flat.ah,cA]) ?_;unfold kM cA at p1;unfold kM cA;refine dY ?_
  (refine aa (p1) ?_;exact dY zUQ)
 ·have hF:Fair ⟨i.host,i.port,([47,46,119,101,108,108,45,107,110,111,119,110,47,119,101,98,102,105,110,103,101,114]:List UInt8),([114,101,115,111,117,114,99,101,61]:List UInt8)++aH [] i.text,[],true,false⟩:=⟨QC,hi.2.2⟩
  have hT:=(iV ⟨i.host,i.port,([47,46,119,101,108,108,45,107,110,111,119,110,47,119,101,98,102,105,110,103,101,114]:List UInt8),([114,101,115,111,117,114,99,101,61]:List UInt8)++aH [] i.text,[],true,false⟩).2.1 rfl;have pF:=fX _ hF;rw[hv]at p1;simp only[qe,hv,if_true]at p1;by_cases hl:4096<(bh ⟨i.host,i.port,([47,46,119,101,108,108,45,107,110,111,119,110,47,119,101,98,102,105,110,103,101,114]:List UInt8),([114,101,115,111,117,114,99,101,61]:List UInt8)++aH [] i.text,[],true,false⟩).length
  ·refine⟨⟨[],0,[],[],[],false,false⟩,5,Small.Io QB,?_⟩
   have hd:decide ((4096:Int)<(bh ⟨i.host,i.port,([47,46,119,101,108,108,45,107,110,111,119,110,47,119,101,98,102,105,110,103,101,114]:List UInt8),([114,101,115,111,117,114,99,101,61]:List UInt8)++aH [] i.text,[],true,false⟩).length)=true:=QF;generalize bh _=T at hd pF hl;refine aU 3000 func73 rfl ntmps73 results73 call73 QB (by simp[flat,flat.ah,kM]) (by simp[flat,flat.ah,cA]) ?_;unfold kM cA at p1;unfold cA at pF;simp only[zUF,zUE]at pF;unfold kM cA;refine dY ?_
   (refine aa (p1) ?_;refine dY ?_)
   (refine aa (pe) ?_;refine dY ?_)
   refine⟨QA,?_⟩
   (refine aa (pF) ?_;exact gA hd zUQ)
  ·have hS:Small ⟨i.host,i.port,([47,46,119,101,108,108,45,107,110,111,119,110,47,119,101,98,102,105,110,103,101,114]:List UInt8),([114,101,115,111,117,114,99,101,61]:List UInt8)++aH [] i.text,[],true,false⟩:=⟨by simp only[zUD,zUx,zUw]at hT ⊢;omega,hi.2.2⟩
   refine⟨_,0,hS,?_⟩;have hd:decide ((4096:Int)<(bh ⟨i.host,i.port,([47,46,119,101,108,108,45,107,110,111,119,110,47,119,101,98,102,105,110,103,101,114]:List UInt8),([114,101,115,111,117,114,99,101,61]:List UInt8)++aH [] i.text,[],true,false⟩).length)=false:=QG;generalize bh _=T at hd pF hl;refine aU 3000 func73 rfl ntmps73 results73 call73 QB (by simp[flat,flat.ah,kM]) (by simp[flat,flat.ah,cA]) ?_;unfold kM cA at p1;unfold cA at pF;simp only[zUF,zUE]at pF;unfold kM cA;refine dY ?_
   (refine aa (p1) ?_;refine dY ?_)
   (refine aa (pe) ?_;refine dY ?_)
   refine⟨QA,?_⟩
   (refine aa (pF) ?_;exact gA hd zUQ)
theorem xg (u:bN)(hq:u.aJ=false→u.query=[])(hf:u.a8=false→u.fragment=[]):u.path.length+u.query.length+u.fragment.length≤(bh u).length:=by
 unfold bh bK;split <;> split <;> simp_all <;> omega
theorem qO (s:Bytes):Small (bz s).1:=by
 by_cases h:(bz s).2=0
 ·have hc:=jC (s:=s) (u:=(bz s).1) (by rw[← h])
  have h1:=cS hc.host;have h2:=xg (bz s).1 hc.noq hc.nof;have h3:=hc.len;exact⟨QA,QA,QA⟩
 ·rw[De s h];exact Small.Io QB
theorem zj (u:bN)(r:Bytes):Small (cC u r).1:=by
 unfold cC;split
 ·exact Small.Io QB
 split
 ·exact Small.Io QB
 split
 ·exact Small.Io QB
 ·exact qO _
theorem y7 {bs:List aq}{n v:Bytes}{q:Nat}{m:Bool}(hn:n.length≤1000)(hv:v.length≤1000)(hq:bs[q]? = some (.own [.str n,.str v] 100 2 1 m)):SC QH 166 [.agg [.int .i64 0,.int .i64 0,.o q 1],.str n] bs (fun r b=>∃ q1,r=.o q1 1∧Kp bs b∧b[q1]? = some (.own [.str v] 9 1 1 true)):=by
 have pE:=iN n n QA QA;rw[show (lower n==lower n)=true by simp]at pE;have ql:=(zUu.1 hq).1;refine bp 3000 func166 rfl ntmps166 results166 call166 QB (af bs.length _ (by simp[within,within.av,ql])) ?_;refine gL0 ?_;refine ax (fun σ=>lk 1 σ.t=some (.str n)∧lk 9 σ.t=some (.o q 1)∧lk 10 σ.t=some (.int .i64 1)∧((lk 11 σ.t=some (.int .i64 0)∧lk 5 σ.t=some .ai∧σ.b=bs++[.cells [.int .i64 0,.int .i64 0,.o q 1] 48 true])∨(lk 11 σ.t=some (.int .i64 1)∧∃ q1,lk 5 σ.t=some (.o q1 1)∧Kp bs σ.b∧σ.b[q1]? = some (.own [.str v] 9 1 1 true)))) (fun σ=>1 - fA 11 σ) ⟨rfl,rfl,rfl,.inl ⟨rfl,rfl,rfl⟩⟩ ?_;rintro⟨t1,b1⟩ ⟨h1,h9,eB,⟨fM,h5,hb⟩|⟨fM,q1,h5,bm,jK⟩⟩
 ·simp only at h1 h9 eB fM h5 hb
  subst hb;rw[ak fM];refine gL (zUs h1 (zUs h9 (zUs eB (zUs fM (zUs h5 (ad hq)))))) ?_
  (refine aa (pE) ?_;refine gL (zUs h1 (zUs h9 (zUs eB (zUs fM h5)))) ?_)
  exact⟨QA,⟨by unfold maxLen;omega,QA⟩,QA,.inr ⟨rfl,bs.length+3,rfl,(Kp.refl bs).app _,aY _ _ 3⟩,by rw[ak (k:=.i64) (n:=(0:Int)+1) rfl];omega⟩
 ·simp only at h1 h9 eB fM h5 bm jK
  rw[ak fM];refine gL (zUs h1 (zUs h9 (zUs eB (zUs fM h5)))) ?_;exact⟨q1,rfl,bm,jK⟩
theorem FP {bs:List aq}{n v:Bytes}{q:Nat}{m:Bool}(hn:n.length≤1000)(hv:v.length≤1000)(hq:bs[q]? = some (.own [.str n,.str v] 100 2 1 m)):SC QH 143 [.agg [.int .i64 0,.int .i64 0,.o q 1],.str n] bs (fun r b=>r=.eh [.str v,.bool true]∧Kp bs b):=by
 have ql:=(zUu.1 hq).1;have gt:decide ((0:Int)<1)=true:=rfl;have gf:decide ((0:Int)<0)=false:=rfl;refine bp 3000 func143 rfl ntmps143 results143 call143 QB (af bs.length _ (by simp[within,within.av,ql])) ?_;refine gL0 ?_;refine ae (y7 hn hv (ad hq _)) ?_;rintro r b ⟨q1,rfl,hk,jK⟩;have bS:=((Kp.refl bs).app [.cells [.int .i64 0,.int .i64 0,.o q 1] 48 true]).trans hk;refine gL0 ?_;refine ax (fun σ=>lk 6 σ.t=some (.o q1 1)∧lk 13 σ.t=some (.o q1 1)∧lk 14 σ.t=some (.int .i64 1)∧((lk 15 σ.t=some (.int .i64 0)∧lk 7 σ.t=some (.str []))∨(lk 15 σ.t=some (.int .i64 1)∧lk 7 σ.t=some (.str v)))∧σ.b=b) (fun σ=>1 - fA 15 σ) ⟨rfl,rfl,rfl,.inl ⟨rfl,rfl⟩,rfl⟩ ?_;rintro⟨t1,b1⟩ ⟨h6,gO,oE,⟨qp,h7⟩|⟨qp,h7⟩,hb⟩ <;> simp only at h6 gO oE qp h7 hb <;> subst hb <;> rw[ak qp]
 ·simp only[bJ,↓Xn,↓Xo,↓Xg,↓Xd,↓Xe,↓Xf,Tryz.VΓ,Tryz.Γs,Xp,Xi,Nat.reduceAdd,Nat.reduceSub,Nat.reduceLT,Nat.reduceLeDiff,reduceIte,reduceCtorEq,Nat.reduceEqDiff,implies_true,forall_const,bI,di,beq_self_eq_true,bne_self_eq_false,Int.reduceBEq,Int.reduceBNe,Int.reduceLT,Int.reduceLE,zUx,zUw,Nat.reduceAdd,zUC,decide_true,decide_false,zUB,zUz,Int.reduceLT,Int.reduceToNat,Nat.zero_mul,h6,gO,oE,qp,h7,jK,zUE,gf]
  exact⟨QA,QA,.inr rfl,by rw[ak (k:=.i64) (n:=(0:Int)+1) rfl];omega⟩
 ·refine gL (zUs h6 (zUs gO (zUs oE (zUs qp (zUs h7 (zUs jK gt)))))) ?_
  exact bS
theorem Bi {bs:List aq}{u:bN}(hu:Small u){s t:Bytes}{n q:Nat}{m:Bool}(hw:WL s t n)(hq:bs[q]? = some (.own [.str ([108,105,110,107]:List UInt8),.str s] 100 2 1 m)):SC QH 81 [cA u,.agg [.int .i64 0,.int .i64 0,.o q 1]] bs (fun r b=>∃ (v:bN) (e:Int),Small v∧r=.eh [cA v,.int .i64 e]∧Kp bs b):=by
 have ql:=(zUu.1 hq).1;have hl:=hw.len;have tn:=hw.tn;have pR:=sG u t hu.fair;have hs:=zj u t;generalize cC u t=z at pR hs;obtain⟨v,e⟩:=z;simp only at pR hs;unfold cA at pR;refine bp 3000 func81 rfl ntmps81 results81 call81 QB (af bs.length _ (by simp[within,within.av,ql,cA])) ?_;unfold cA;refine gL0 ?_;refine ae (FP (v:=s) QB QA (ad hq _)) ?_;rintro r b ⟨rfl,hk⟩;have bS:=((Kp.refl bs).app [.cells [.str u.host,.int .i64 u.port,.str u.path,.str u.query,.str u.fragment,.bool u.aJ,.bool u.a8] 35 true,.cells [.int .i64 0,.int .i64 0,.o q 1] 48 true,.cells [.str [],.int .i64 0,.str [],.str [],.str [],.bool false,.bool false] 35 true]).trans hk;refine gL0 ?_;refine ae (Dz hw) ?_;rintro r b2 ⟨p,q1,q2,rfl,eL,hp,jK⟩;have mJ:=bS.trans eL;refine gL0 ?_;refine ae (FN hp jK) ?_;rintro r b3 ⟨rfl,r8⟩;have lx:=mJ.trans r8;have f0:=(hk.trans (eL.trans r8)).at (aM bs _);have f2:=(hk.trans (eL.trans r8)).at (aY bs _ 2);have hf2l:=(zUu.1 f2).1;have fI:∀ (l:List aq) X,(b3++l).set (bs.length+2) X=b3.set (bs.length+2) X++l:=fun l X=>aQ hf2l l X
 have E4:=fun X l=>bV hf2l X l
 have hkS:=fun X l=>(lx.set (j:=bs.length+2) QA X).app l
 refine gL (zUs zUy f0) ?_;cases he:(e != 0)
 ·(refine aa (pR) ?_;refine gL (zUs zUy (zUs f0 (zUs he (zUs (ad f2) (zUs fI E4))))) ?_)
  exact⟨v,0,hs,rfl,hkS _ _⟩
 ·(refine aa (pR) ?_;refine gL (zUs zUy (zUs f0 (zUs he (zUs (ad f2) (zUs fI E4))))) ?_)
  exact⟨bN.none,_,Small.Io QB,rfl,hkS _ _⟩
end Go.Proofs.YtnmlimehgifadaaGreatDoor
namespace Wf
open Go Go.RowKit
def dR:Bytes:=[123,117,114,105,125]
def qd (c:UInt8):Bool:=c==123||c==125
def ir:Nat→Bytes→Bytes→Option (List Bytes)
 | _,cur,[]=>some [cur]
 | k+1,cur,_::r=>ir k cur r
 | 0,cur,c::r=>if dR.isPrefixOf (c::r) then(ir 4 [] r).map (cur::·) else if qd c then none else ir 0 (cur++[c]) r
def Cj (t:Bytes):Option (List Bytes):=ir 0 [] t
theorem Ch (k:Nat)(cur:Bytes):ir k cur []=some [cur]:=by cases k <;> rfl
theorem yS:∀ (k:Nat)(cur t:Bytes),ir k cur t=ir 0 cur (t.drop k)
 | 0,_,_=>rfl
 | k+1,cur,[]=>by simp[Ch]
 | k+1,cur,c::r=>by rw[ir,yS k cur r];rfl
theorem Ci (cur r:Bytes):ir 0 cur (dR++r)=(Cj r).map (cur::·):=by
 show ir 0 cur (123::([117,114,105,125]++r))=_
 rw[ir,if_pos (by simp[dR]),yS 4];rfl
theorem vR:∀ (t cur:Bytes),(Lib.index t dR=-1→ir 0 cur t=if t.any qd then none else some [cur++t])∧(∀ k:Nat,Lib.index t dR=k→ir 0 cur t=if (t.take k).any qd then none else(Cj (t.drop (k+5))).map ((cur++t.take k)::·))
 | [],cur=>⟨fun _=>by simp[ir],fun k h=>by
    unfold Lib.index at h;rw[if_neg QD]at h;omega⟩
 | c::r,cur=>by
   obtain⟨h1,h2⟩:=vR r (cur++[c]);by_cases hp:dR.isPrefixOf (c::r)=true
   ·constructor
    ·intro h;unfold Lib.index at h;rw[if_pos hp]at h;omega
    ·intro k h
     unfold Lib.index at h;rw[if_pos hp]at h;obtain rfl:k=0:=QA;obtain⟨q,hq⟩:=List.isPrefixOf_iff_prefix.1 hp;rw[← hq,Ci];simp[dR]
   ·have KL:ir 0 cur (c::r)=if qd c then none else ir 0 (cur++[c]) r:=by rw[ir,if_neg hp]
    constructor
    ·intro h
     unfold Lib.index at h;rw[if_neg hp]at h;split at h
     ·rename_i h'
      rw[KL,h1 (by simpa using h')];cases hc:qd c <;> simp[hc]
     ·rename_i h'
      have:=Lib.index_ge r dR
      simp at h';omega
    ·intro k h
     unfold Lib.index at h;rw[if_neg hp]at h;split at h
     ·omega
     ·rename_i h'
      have:=Lib.index_ge r dR
      simp at h'
      obtain⟨k,rfl⟩:∃ j,k=j+1:=⟨k - 1,QA⟩;rw[KL,h2 k QA];cases hc:qd c <;> simp[hc,show k+1+5=k+5+1 by omega]
theorem Cg:∀ (n:Nat)(t:Bytes),Lib.count t dR=n→Cj t=if (Lib.splitK dR 0 n t).any (·.any qd) then none else some (Lib.splitK dR 0 n t)
 | 0,t,h=>by
   have hm:Lib.index t dR=-1:=by
    by_cases hm:Lib.index t dR=-1
    ·exact hm
    ·have sL:=Lib.index_ge t dR
     have:=Lib.count_hit (s:=t) (sub:=dR) (i:=(Lib.index t dR).toNat) QD QA
     omega
   unfold Cj;rw[(vR t []).1 hm];simp[Lib.splitK]
 | n+1,t,h=>by
   have hm:Lib.index t dR≠-1:=fun hm=>by rw[Lib.count_miss hm]at h;omega
   have sL:=Lib.index_ge t dR;obtain⟨k,hk⟩:∃ k:Nat,Lib.index t dR=k:=⟨(Lib.index t dR).toNat,QA⟩;have hc:=Lib.count_hit (s:=t) (sub:=dR) (i:=k) QD hk;rw[show dR.length=5 from rfl]at hc;have ih:=Cg n (t.drop (k+5)) QA;unfold Cj;rw[(vR t []).2 k hk,ih,Lib.splitK,if_neg (show ¬ (Lib.index t dR==-1)=true by simpa using hm),hk];simp only[Int.toNat_natCast,Nat.add_zero,zUE,List.any_cons,show dR.length=5 from rfl];cases (t.take k).any qd
   ·cases (Lib.splitK dR 0 n (t.drop (k+5))).any (·.any qd) <;> simp
   ·simp
def ub (t:Bytes):Bool:=match Cj t with
 | some (_::_::_)=>true
 | _=>false
def eE (e:Bytes):List Bytes→Bytes
 | []=>[]
 | x::r=>x++r.flatMap (e++·)
def jQ (t uri:Bytes):Bytes × Int :=
 if 4096<t.length then([],5)
 else if ub t=false then([],230)
 else if 4096<(eE (aH [] uri) ((Cj t).getD [])).length then([],5)
 else(eE (aH [] uri) ((Cj t).getD []),0)
open Go Go.RowKit
def kx (t:Bytes):List Bytes:=Lib.splitK dR 0 (Lib.count t dR) t
theorem oJ {t:Bytes}(h:Lib.index t dR=-1):kx t=[t]:=by
 unfold kx;rw[Lib.count_miss h];rfl
theorem xm {t:Bytes}{k:Nat}(h:Lib.index t dR=k):kx t=t.take k::kx (t.drop (k+5)):=by
 have hc:=Lib.count_hit (s:=t) (sub:=dR) (i:=k) QD h;rw[show dR.length=5 from rfl]at hc;unfold kx;rw[hc,zUO 1,Lib.splitK,if_neg (by rw[h];simp <;> omega),h];simp[dR]
theorem tpl_all (t:Bytes):Cj t=if (kx t).any (·.any qd) then none else some (kx t):=Cg _ t rfl
theorem Dk (e x:Bytes)(l:List Bytes):eE e (l++[x])=eE e l++(if l=[] then [] else e)++x:=by
 cases l with
 | nil=>simp[eE]
 | cons y r=>simp[eE]
theorem Dj {e:Bytes}{l:List Bytes}{k:Nat}(h:k<l.length):eE e (l.take (k+1))=eE e (l.take k)++(if k=0 then [] else e)++l[k]:=by
 rw[List.take_succ_eq_append_getElem h,Dk];congr 2
 cases k with
 | zero=>simp
 | succ k=>cases l with
   | nil=>simp at h
   | cons x l=>simp
theorem Fl (e:Bytes)(l:List Bytes)(k:Nat)(h:k<l.length)(h0:k≠0):(eE e (l.take k)).length+e.length+l[k].length≤(eE e l).length:=by
 have h1:∀ m:List Bytes,m≠[]→∀ r:List Bytes,eE e (m++r)=eE e m++r.flatMap (e++·):=by
  intro m hm r;cases m with
  | nil=>exact absurd rfl hm
  | cons x m=>simp[eE]
 have e2:l=l.take k++l[k]::l.drop (k+1):=by
  rw[← List.drop_eq_getElem_cons h,List.take_append_drop]
 conv=>rhs;rw[e2]
 rw[h1 _ (fun hq=>(List.take_eq_nil_iff.1 hq).elim h0 (fun hq=>(by rw[hq]at h;simp at h)))];simp only[zUD,zUH];omega
theorem IE (t:Bytes):∀ x∈kx t,x.length≤t.length:=by
 have:∀ (n:Nat) (t:Bytes),t.length≤n→∀ x∈kx t,x.length≤t.length:=by
  intro n;induction n with
  | zero =>
    intro t h x hx;by_cases hi:Lib.index t dR=-1
    ·rw[oJ hi]at hx;rw[zUK.1 hx];omega
    ·have hg:=Lib.index_ge t dR
     have:=Lib.index_room t dR QA
     rw[show dR.length=5 from rfl]at this;omega
  | succ n ih =>
    intro t h x hx;by_cases hi:Lib.index t dR=-1
    ·rw[oJ hi]at hx;rw[zUK.1 hx];omega
    ·have hg:=Lib.index_ge t dR
     have hr:=Lib.index_room t dR QA;rw[show dR.length=5 from rfl]at hr;rw[xm (k:=(Lib.index t dR).toNat) QA]at hx;rcases zUN.1 hx with rfl|hx
     ·simp;omega
     ·have:=ih _ QC x hx
      simp at this;omega
 exact this _ t (zUG _)
theorem IF (t:Bytes):(kx t).length≤t.length+1:=by
 have:∀ (n:Nat) (t:Bytes),t.length≤n→(kx t).length≤t.length+1:=by
  intro n;induction n with
  | zero =>
    intro t h;by_cases hi:Lib.index t dR=-1
    ·rw[oJ hi];simp
    ·have hg:=Lib.index_ge t dR
     have:=Lib.index_room t dR QA
     rw[show dR.length=5 from rfl]at this;omega
  | succ n ih =>
    intro t h;by_cases hi:Lib.index t dR=-1
    ·rw[oJ hi];simp
    ·have hg:=Lib.index_ge t dR
     have hr:=Lib.index_room t dR QA;rw[show dR.length=5 from rfl]at hr;rw[xm (k:=(Lib.index t dR).toNat) QA];have:=ih (t.drop ((Lib.index t dR).toNat+5)) QC
     simp at this ⊢;omega
 exact this _ t (zUG _)
theorem Lp {cur r:Bytes}(h:Lib.hasPrefix r dR=true):ir 0 cur r=(Cj (r.drop 5)).map (cur::·):=by
 obtain⟨q,rfl⟩:=List.isPrefixOf_iff_prefix.1 h;rw[Ci];rfl
theorem NF {cur:Bytes}{c:UInt8}{r:Bytes}(h:Lib.hasPrefix (c::r) dR=false):ir 0 cur (c::r)=if qd c then none else ir 0 (cur++[c]) r:=by
 rw[ir,if_neg (by unfold Lib.hasPrefix at h;simp[h])]
end Wf
namespace Go.Proofs.YtnmlimehgifadaaGreatDoor
open Go Vc Go.RowKit Wf
def PtI (bs:List aq)(t:Bytes)(σ:St):Prop:=∃ (i a:Nat) (x:SV) (dn:List Bytes),lk 0 σ.t=some (.str t)∧lk 2 σ.t=some .ai∧lk 3 σ.t=some (.bool false)∧lk 4 σ.t=some x∧lk 5 σ.t=some (.int .i64 a)∧lk 6 σ.t=some (.int .i64 i) ∧
 a≤i∧i≤t.length∧dn.length≤a∧Cj t=(ir 0 ((t.take i).drop a) (t.drop i)).map (dn++·)∧Sl 9 1 bs.length x σ.b (dn.map SV.str) dn.length∧Kp bs σ.b
theorem Dy {bs:List aq}(t:Bytes)(ht:t.length≤1100000):SC QH 197 [.str t] bs (fun r b=>Kp bs b∧match Cj t with
 | none=>r=.eh [.ai,.bool false]
 | some L=>∃ j,bs.length≤j∧b[j]? = some (.own (L.map SV.str) 9 1 L.length true)∧r=.eh [.o j L.length,.bool (decide (1<L.length))]):=by
 refine bp 3000 func197 rfl ntmps197 results197 call197 QB (af bs.length _ (by simp[within,within.av])) ?_;refine bw ?_;refine ax (PtI bs t) (fun σ=>t.length - fA 6 σ) ⟨0,0,.ai,[],rfl,rfl,rfl,rfl,rfl,rfl,QA,QA,QB,by simp[Cj],.inl ⟨rfl,rfl,rfl⟩,Kp.refl _⟩ ?_;rintro⟨tt,b⟩ ⟨i,a,x,dn,h0,h2,h3,h4,h5,h6,hai,hit,hda,iR,fH,bm⟩;simp only at h0 h2 h3 h4 h5 h6 fH bm;rw[ak h6];by_cases az:i<t.length
 ·have hg:t.getD i 0=t[i]:=by simp[List.getD,az]
  have pp:=cD (t.drop i) dR;have hde:=List.drop_eq_getElem_cons az;refine gN (zUs h0 (zUs h2 (zUs h3 (zUs h4 (zUs h5 h6))))) ?_;refine⟨fun _=>⟨⟨QA,QA⟩,?_⟩,fun h=>absurd h QC⟩;cases hp:Lib.hasPrefix (t.drop i) dR
  ·rw[hp]at pp
   rw[hde]at hp iR;rw[NF hp]at iR;have hcur:(t.take (i+1)).drop a=(t.take i).drop a++[t[i]]:=by
    rw[List.take_succ_eq_append_getElem az,List.drop_append_of_le_length QC]
   have hb:qd t[i]=(((t[i].toNat:Int)==123)||((t[i].toNat:Int)==125)):=by
    have e1:=dG az 123 (n:=123) rfl;have e2:=dG az 125 (n:=125) rfl;rw[hg]at e1 e2;rw[e1,e2];rfl
   rw[hb]at iR;have fin:((t[i].toNat:Int)==123)=false→((t[i].toNat:Int)==125)=false→∀ (t':List (Nat × SV)),lk 0 t'=some (.str t)→lk 2 t'=some .ai→lk 3 t'=some (.bool false)→lk 4 t'=some x→lk 5 t'=some (.int .i64 a)→lk 6 t'=some (.int .i64 ((i:Int)+1)) →
    PtI bs t ⟨t',b⟩∧t.length - fA 6 ⟨t',b⟩<t.length - (i:Int).toNat:=fun g1 g2 t' k0 k2 k3 k4 k5 k6 =>
    ⟨⟨i+1,a,x,dn,k0,k2,k3,k4,k5,k6,QA,QA,hda,by rw[iR,g1,g2,hcur];rfl,fH,bm⟩,by rw[ak (σ:=⟨t',b⟩) k6];omega⟩
   have bad:(((t[i].toNat:Int)==123)||((t[i].toNat:Int)==125))=true→Cj t=none:=fun h=>by rw[iR,h];rfl
   (refine aa pp ?_;refine gN (zUs h0 (zUs h2 (zUs h3 (zUs h4 (zUs h5 (zUs h6 hg)))))) ?_)
   refine⟨⟨QA,QA⟩,fun g1=>⟨⟨QA,QA⟩,fun g2=>?_,fun g2=>⟨⟨QA,QA⟩,fin g1 g2 _ h0 h2 h3 h4 h5 rfl⟩⟩,fun g1=>?_⟩
   ·rw[bad (by rw[g2];simp)];exact⟨bm,trivial⟩
   ·rw[bad (by rw[g1];simp)];exact⟨bm,trivial⟩
  ·rw[hp]at pp
   rw[Lp hp,List.drop_drop]at iR;have gz:=fP hp;rw[show dR.length=5 from rfl,List.length_drop]at gz;rcases fH with⟨rfl,kn,hda0⟩|⟨j,rfl,mG,hj⟩
   ·obtain rfl:dn=[]:=by simpa using kn
    (refine aa pp ?_;refine gN (zUs h0 (zUs h2 (zUs h3 (zUs h4 (zUs h5 (zUs h6 @aB)))))) ?_)
    refine⟨⟨QA,QA,QA⟩,QA,⟨by unfold maxLen;omega,QA⟩,⟨QA,QA⟩,⟨QA,QA⟩,⟨QA,QA⟩,
     ⟨i+5,i+5,_,[(t.take i).drop a],h0,h2,h3,rfl,rfl,rfl,QA,QA,QB,?_,.inr ⟨(b++[aq.own [.str ((t.take i).drop a)] 9 1 1 true]).length,rfl,?_,aB _ _⟩,(bm.app _).app _⟩,?_⟩
    ·rw[iR,show (t.take (i+5)).drop (i+5)=[] by simp]
     cases h:Cj (t.drop (i+5)) <;> simp[Cj]at h ⊢ <;> rw[h] <;> rfl
    ·have:=bm.1;simp;omega
    ·rw[ak (k:=.i64) (n:=(i:Int)+4+1) rfl];omega
   ·have ho:∀ X,(b++[X])[j]? = some (.own (dn.map SV.str) 9 1 dn.length true):=fun X=>ad hj [X]
    (refine aa pp ?_;refine gN (zUs h0 (zUs h2 (zUs h3 (zUs h4 (zUs h5 (zUs h6 (zUs @aB ho))))))) ?_)
    have e9:j<b.length:=(zUu.1 hj).1;refine⟨⟨QA,QA,QA⟩,QA,⟨by unfold maxLen;omega,QA⟩,⟨QA,QA⟩,⟨QA,QA⟩,⟨QA,QA⟩,
     ⟨i+5,i+5,_,dn++[(t.take i).drop a],h0,h2,h3,rfl,rfl,rfl,QA,QA,QC,?_,.inr ⟨(b++[aq.own [.str ((t.take i).drop a)] 9 1 1 true]).length,QB,?_,?_⟩,((bm.app _).set mG _).app _⟩,?_⟩
    ·rw[iR,show (t.take (i+5)).drop (i+5)=[] by simp]
     cases h:Cj (t.drop (i+5)) <;> simp[Cj]at h ⊢ <;> rw[h] <;> simp
    ·have:=bm.1;simp;omega
    ·rw[List.getElem?_append_right QB];simp
    ·rw[ak (k:=.i64) (n:=(i:Int)+4+1) rfl];omega
 ·have hU:i=t.length:=QA
  subst hU;rw[List.drop_length,Ch,List.take_length]at iR;rw[iR];simp only[Option.map_some];rcases fH with⟨rfl,kn,hda0⟩|⟨j,rfl,mG,hj⟩
  ·obtain rfl:dn=[]:=by simpa using kn
   refine gN (zUs h0 (zUs h2 (zUs h3 (zUs h4 (zUs h5 (zUs h6 @aB)))))) ?_;refine⟨fun h=>absurd h QB,fun _=>⟨⟨QA,QA⟩,QA,⟨by unfold maxLen;omega,QA⟩,(bm.app _).app _,(b++[aq.own [.str (t.drop a)] 9 1 1 true]).length,?_,aB _ _,rfl⟩⟩;have:=bm.1;simp;omega
  ·have ho:∀ X,(b++[X])[j]? = some (.own (dn.map SV.str) 9 1 dn.length true):=fun X=>ad hj [X]
   refine gN (zUs h0 (zUs h2 (zUs h3 (zUs h4 (zUs h5 (zUs h6 (zUs @aB ho))))))) ?_;have e9:j<b.length:=(zUu.1 hj).1;refine⟨fun h=>absurd h QB,fun _=>⟨⟨QA,QA⟩,QA,⟨by unfold maxLen;omega,QA⟩,((bm.app _).set mG _).app _,(b++[aq.own [.str (t.drop a)] 9 1 1 true]).length,?_,?_,?_⟩⟩
   ·have:=bm.1;simp;omega
   ·rw[List.getElem?_append_right QB];simp
   ·simp only[zUD,zUx,zUw]
    rw[show decide ((0:Int)<dn.length)=decide (1<dn.length+(0+1)) from decide_eq_decide.2 ⟨fun h=>QA,fun h=>QA⟩]
theorem Di {t:Bytes}{L:List Bytes}(h:Cj t=some L):ub t=decide (1<L.length):=by
 unfold ub;rw[h];match L with
 | []=>rfl
 | [_]=>rfl
 | _::_::_=>simp
theorem D4 (t uri:Bytes)(hu:uri.length≤300000):PC QH 142 [.str t,.str uri] (.eh [.str (jQ t uri).1,.int .i64 (jQ t uri).2]):=by
 have pe:=mW uri [] QA QB;have Iy:=eO [] uri;unfold jQ;generalize aH [] uri=E at pe Iy ⊢;refine aU 3000 func142 rfl ntmps142 results142 call142 QB (by simp[flat,flat.ah]) (by simp[flat,flat.ah]) ?_;refine bw ?_;refine⟨fun h=>?_,fun h=>?_⟩
 ·have h:4096<t.length:=(by simp at h;omega)
  rw[if_pos h]
 have h:¬ 4096<t.length:=(by simp at h;omega);rw[if_neg h];refine ae (Dy t QA) ?_;rintro r b ⟨bm,hr⟩;cases hq:Cj t with
 | none =>
   rw[hq]at hr;subst hr;refine ly ?_;rw[if_pos (by unfold ub;rw[hq])]
 | some L =>
   rw[hq]at hr;obtain⟨j,mG,hj,rfl⟩:=hr;rw[Di hq];refine bw ?_;refine⟨fun h2=>(by rw[if_pos (by simpa using h2)]),fun h2=>?_⟩;rw[if_neg (by simpa using h2)];have hLa:L=kx t:=by
    rw[tpl_all]at hq;split at hq
    ·cases hq
    ·exact(Option.some.inj hq).symm
   have hLl:∀ x∈L,x.length≤t.length:=by rw[hLa];exact IE t
   have hLc:L.length≤t.length+1:=by rw[hLa];exact IF t
   clear hLa hq bm h2;refine ax (fun σ=>∃ k:Nat,k≤L.length∧lk 1 σ.t=some (.str uri)∧lk 4 σ.t=some (.str [])∧lk 5 σ.t=some (.int .i64 0)∧lk 8 σ.t=some (.str (eE E (L.take k)))∧lk 21 σ.t=some (.o j L.length)∧lk 22 σ.t=some (.int .i64 L.length)∧lk 23 σ.t=some (.int .i64 k) ∧
    σ.b[j]? = some (.own (L.map SV.str) 9 1 L.length true)∧(eE E (L.take k)).length≤8192) (fun σ=>L.length - fA 23 σ) ⟨0,QA,rfl,rfl,rfl,rfl,rfl,rfl,rfl,hj,by simp[eE]⟩ ?_
   clear hj;rintro⟨tt,b⟩ ⟨k,hk,h1,h4,h5,h8,vn,h22,h23,hj,e9⟩;simp only at h1 h4 h5 h8 vn h22 h23 hj;rw[ak h23];by_cases az:k<L.length
   ·have hx:(L.map SV.str)[k * 1]? = some (.str L[k]):=by simp[az]
    have o6:=hLl L[k] (List.getElem_mem az);have G4:=Dj (e:=E) az;have fD:=Fl E L k az;refine gN (zUs h1 (zUs h4 (zUs h5 (zUs h8 (zUs vn (zUs h22 (zUs h23 (zUs hj hx)))))))) ?_;refine⟨fun _=>⟨⟨QA,QA⟩,QC,fun h0=>?_,fun h0=>?_⟩,fun h=>absurd h QC⟩
    ·have h0:¬ k=0:=by simp at h0;omega
     have fD:=fD h0;rw[if_neg h0]at G4
     (refine aa pe ?_;refine gN (zUs h1 (zUs h4 (zUs h5 (zUs h8 (zUs vn (zUs h22 (zUs h23 hj))))))) ?_)
     refine⟨QA,fun hl=>?_,fun hl=>⟨?_,⟨QA,QA⟩,⟨k+1,QA,by rw[G4],rfl,?_⟩,?_⟩⟩
     ·have hl:4096<(eE E (L.take k)++E).length:=by simp only[decide_eq_true_eq]at hl;omega
      rw[zUD]at hl;rw[if_pos QA]
     ·have hl:(eE E (L.take k)++E).length≤4096:=(by simp only[decide_eq_true_eq,decide_eq_false_iff_not]at hl;omega)
      omega
     ·have hl:(eE E (L.take k)++E).length≤4096:=(by simp only[decide_eq_true_eq,decide_eq_false_iff_not]at hl;omega)
      rw[G4,zUD];omega
     ·rw[ak (k:=.i64) (n:=(k:Int)+1) rfl];omega
    ·have h0:k=0:=by simp at h0;omega
     rw[if_pos h0,List.append_nil]at G4;refine⟨QA,⟨QA,QA⟩,⟨k+1,QA,by rw[G4],rfl,?_⟩,?_⟩
     ·rw[G4,zUD,show (eE E (L.take k)).length=0 by rw[h0];rfl];omega
     ·rw[ak (k:=.i64) (n:=(k:Int)+1) rfl];omega
   ·have hU:k=L.length:=QA
    subst hU;rw[List.take_length]at h8 e9;refine gN (zUs h1 (zUs h4 (zUs h5 (zUs h8 (zUs vn (zUs h22 (zUs h23 hj))))))) ?_;refine⟨fun h=>absurd h QB,fun _=>⟨fun hl=>?_,fun hl=>?_⟩⟩
    ·rw[if_pos (by simp only[decide_eq_true_eq]at hl;omega)]
    ·rw[if_neg (by simp only[decide_eq_false_iff_not]at hl;omega)]
def lkS (r t:Bytes):List SV:=[.str r,.str [],.str [],.str t,.ai,.ai]
def NC (a t:Bytes):List SV:=[.str ([111,116,104,101,114]:List UInt8),.str [],.str [],.str a,.ai,.ai,.str ([108,114,100,100]:List UInt8),.str [],.str [],.str t,.ai,.ai]
theorem FQ {bs:List aq}{a t:Bytes}{q:Nat}{m:Bool}(hq:bs[q]? = some (.own (NC a t) 132 6 2 m)):SC QH 141 [.agg [.str [],.ai,.ai,.o q 2],.str ([108,114,100,100]:List UInt8)] bs (fun r b=>∃ q1,r=.o q1 1∧Kp bs b∧b[q1]? = some (.own (lkS ([108,114,100,100]:List UInt8) t) 132 6 1 true)):=by
 have ql:=(zUu.1 hq).1;unfold NC at hq;have e1:((([111,116,104,101,114]:List UInt8):Bytes)==([108,114,100,100]:List UInt8))=false:=by decide
 have e2:((([108,114,100,100]:List UInt8):Bytes)==([108,114,100,100]:List UInt8))=true:=by decide
 refine bp 3000 func141 rfl ntmps141 results141 call141 QB (af bs.length _ (by simp[within,within.av,ql])) ?_;refine gL0 ?_;refine ax (fun σ=>lk 1 σ.t=some (.str ([108,114,100,100]:List UInt8))∧lk 9 σ.t=some (.o q 2)∧lk 10 σ.t=some (.int .i64 2)∧((lk 11 σ.t=some (.int .i64 0)∧lk 5 σ.t=some .ai∧σ.b=bs++[.cells [.str [],.ai,.ai,.o q 2] 135 true])∨(lk 11 σ.t=some (.int .i64 1)∧lk 5 σ.t=some .ai∧Kp bs σ.b)∨(lk 11 σ.t=some (.int .i64 2)∧∃ q1,lk 5 σ.t=some (.o q1 1)∧Kp bs σ.b∧σ.b[q1]? = some (.own (lkS ([108,114,100,100]:List UInt8) t) 132 6 1 true)))) (fun σ=>2 - fA 11 σ) ⟨rfl,rfl,rfl,.inl ⟨rfl,rfl,rfl⟩⟩ ?_;rintro⟨t1,b1⟩ ⟨h1,h9,eB,⟨fM,h5,hb⟩|⟨fM,h5,bm⟩|⟨fM,q1,h5,bm,jK⟩⟩
 ·simp only at h1 h9 eB fM h5 hb
  subst hb;rw[ak fM];refine gL (zUs h1 (zUs h9 (zUs eB (zUs fM (zUs h5 (zUs (ad hq) e1)))))) ?_;exact⟨QA,.inr (.inl ⟨rfl,(Kp.refl bs).app _⟩),by rw[ak (k:=.i64) (n:=(0:Int)+1) rfl];omega⟩
 ·simp only at h1 h9 eB fM h5 bm
  have cM:=bm.at hq;rw[ak fM];simp only[bJ,↓Xn,↓Xo,↓Xg,↓Xd,↓Xe,↓Xf,Tryz.VΓ,Tryz.Γs,Xp,Xi,Nat.reduceAdd,Nat.reduceSub,Nat.reduceLT,Nat.reduceLeDiff,reduceIte,reduceCtorEq,Nat.reduceEqDiff,implies_true,forall_const,bI,di,beq_self_eq_true,bne_self_eq_false,Int.reduceBEq,Int.reduceBNe,Int.reduceLT,Int.reduceLE,zUx,zUw,Nat.reduceAdd,zUC,decide_true,decide_false,zUB,zUz,Int.reduceLT,Int.reduceToNat,Nat.zero_mul,h1,h9,eB,fM,h5,cM,e2,Nat.one_mul,Int.reduceAdd];exact⟨by unfold maxLen;omega,.inr (.inr ⟨_,rfl,bm.app _,aY _ _ 2⟩),by rw[ak (k:=.i64) (n:=(2:Int)) rfl];omega⟩
 ·simp only at h1 h9 eB fM h5 bm jK
  rw[ak fM];refine gL (zUs h1 (zUs h9 (zUs eB (zUs fM h5)))) ?_;exact⟨q1,rfl,bm,jK⟩
theorem yb {bs:List aq}{a t uri:Bytes}(hu:uri.length≤300000){q:Nat}{m:Bool}(hq:bs[q]? = some (.own (NC a t) 132 6 2 m)):SC QH 79 [.agg [.str [],.ai,.ai,.o q 2],.str uri] bs (fun r b=>∃ (v:bN) (e:Int),Small v∧r=.eh [cA v,.int .i64 e]∧Kp bs b):=by
 have ql:=(zUu.1 hq).1;have pX:=D4 t uri hu;have pP:=lW (jQ t uri).1;have hs:=qO (jQ t uri).1;generalize bz (jQ t uri).1=z at pP hs;generalize jQ t uri=y at pX pP;obtain⟨v,f⟩:=z;obtain⟨x,e⟩:=y;simp only at pX pP hs;unfold cA at pP;refine bp 3000 func79 rfl ntmps79 results79 call79 QB (af bs.length _ (by simp[within,within.av,ql])) ?_;unfold cA;refine gL0 ?_;refine ae (FQ (ad hq _)) ?_;rintro r b ⟨q1,rfl,hk,jK⟩;have bS:=((Kp.refl bs).app [.cells [.str [],.ai,.ai,.o q 2] 135 true,.cells [.str [],.int .i64 0,.str [],.str [],.str [],.bool false,.bool false] 35 true]).trans hk;have f1:=hk.at (aY bs _ 1);have hf1l:=(zUu.1 f1).1;refine gL0 ?_;refine ax (fun σ=>lk 1 σ.t=some (.str uri)∧lk 4 σ.t=some (.p (bs.length+1) 0)∧lk 13 σ.t=some (.o q1 1)∧lk 14 σ.t=some (.int .i64 1)∧(lk 15 σ.t=some (.int .i64 0)∧σ.b=b∨lk 15 σ.t=some (.int .i64 1)∧Kp b σ.b)) (fun σ=>1 - fA 15 σ) ⟨rfl,rfl,rfl,rfl,.inl ⟨rfl,rfl⟩⟩ ?_;rintro⟨t1,b1⟩ ⟨h1,h4,gO,oE,⟨qp,hb⟩|⟨qp,gp⟩⟩
 ·simp only at h1 h4 gO oE qp hb
  subst hb;rw[ak qp];unfold lkS at jK;have fI:∀ (l:List aq) X,(b1++l).set (bs.length+1) X=b1.set (bs.length+1) X++l:=fun l X=>aQ hf1l l X
  have E4:=fun X l=>bV hf1l X l
  have hkS:=fun X l=>(bS.set (j:=bs.length+1) QA X).app l
  cases ht:(t==[])
  ·refine gL (zUs h1 (zUs h4 (zUs gO (zUs oE (zUs qp (zUs jK ht)))))) ?_
   (refine aa (pX) ?_;refine gL (zUs h1 (zUs h4 (zUs gO (zUs oE (zUs qp (zUs jK ht)))))) ?_)
   cases he:(e != 0) <;> cases hf:(f != 0)
   ·(refine aa (pP) ?_;refine gL (zUs h1 (zUs h4 (zUs gO (zUs oE (zUs qp (zUs jK (zUs ht (zUs he (zUs hf (zUs (ad f1) (zUs fI E4))))))))))) ?_)
    exact⟨v,0,hs,rfl,hkS _ _⟩
   all_goals
    (refine aa (pP) ?_;refine gL (zUs h1 (zUs h4 (zUs gO (zUs oE (zUs qp (zUs jK (zUs ht (zUs he (zUs hf (zUs (ad f1) (zUs fI E4))))))))))) ?_)
    exact⟨bN.none,_,Small.Io QB,rfl,hkS _ _⟩
  ·refine gL (zUs h1 (zUs h4 (zUs gO (zUs oE (zUs qp (zUs jK ht)))))) ?_
   exact⟨QA,.inr ⟨rfl,(Kp.refl _).app _⟩,by rw[ak (k:=.i64) (n:=(0:Int)+1) rfl];omega⟩
 ·simp only at h1 h4 gO oE qp gp
  rw[ak qp];have f1':=gp.at f1;have nT:=(zUu.1 f1').1;have hsX:∀ X,(b1.set (bs.length+1) X)[bs.length+1]? = some X:=fun X=>zUv nT
  refine gL (zUs h1 (zUs h4 (zUs gO (zUs oE (zUs qp (zUs f1' hsX)))))) ?_;exact⟨bN.none,_,Small.Io QB,rfl,(bS.trans gp).set QA _⟩
theorem xX:∀ (m:Nat)(s:Bytes),s.length≤m→(encode 50 s).length≤2 * s.length+20
 | 0,s,h=>by rw[zUL.1 (Nat.le_zero.1 h),iS];simp
 | m+1,s,h=>by
   by_cases hs:s=[]
   ·rw[hs,iS];simp
   ·have h1:=lj (size:=50) hs
    have h3:=xX m (s.drop (df 50 s)) QC;rw[rS hs];simp only[zUD,List.length_drop,List.length_take]at h3 ⊢;have hc:crlf.length=2:=rfl;by_cases hl:50≤s.length
    ·have e:df 50 s=50:=by unfold df;omega
     have e2:(nO 50).length=2:=by rw[oq QA,oq QA,jY];rfl
     rw[e]at h3 ⊢;rw[e2];omega
    ·have e:df 50 s=s.length:=by unfold df;omega
     have h2:(nO s.length).length≤2:=by
      by_cases h0:s.length=0
      ·rw[h0,jY];simp
      ·rw[oq QA]
       by_cases h1:s.length / 16=0
       ·rw[h1,jY];simp
       ·rw[oq QA,show s.length / 16 / 16=0 by omega,jY];simp
     rw[e]at h3 ⊢;rw[List.drop_length,iS];simp only[zUx,zUw];omega
theorem Kq {st:Nat}(jg:st≤1000000000)(kd:Bytes)(fs:List (Bytes × Bytes))(body:Bytes)(hb:body.length≤1000000000)(ch:Bool):(LM st kd fs body ch).length≤kd.length+cF fs+4 * fs.length+2 * body.length+400:=by
 have key:∀ fs:List (Bytes × Bytes),(eJ st fs body ch).length≤cF fs+4 * fs.length+2 * body.length+300:=fun fs=>by
  cases ch
  ·have:=lV jg fs body hb
   omega
  ·have h1:=iZ st jg (fs++[(so,Ca)])
   have h2:=xX _ body (zUG _);rw[gy]at h1;simp only[cF,zUD,zUx,zUw]at h1;have fY:so.length=17:=rfl;have hcl2:Ca.length=7:=rfl;unfold eJ;simp only[if_true,zUD];omega
 unfold LM;split
 ·have:=key fs;omega
 ·have:=key ((([99,111,110,116,101,110,116,45,116,121,112,101]:List UInt8),kd)::fs)
  simp only[cF,zUx,zUw]at this;omega
theorem Fo (d:iJ):Small (gI d).1:=by
 unfold gI;split
 ·exact Small.Io QB
 rename_i h
 split
 ·exact Small.Io QB
 unfold oa;split
 ·exact Small.Io QB
 rename_i h2
 have h1:=cS (AB (d:=d) (by simpa using h)).1;have h3:=xg ⟨(bZ d).1.1,(bZ d).1.2,oK (aD 58 d.id).tail,[],[],false,false⟩ (fun _=>rfl) (fun _=>rfl);simp only[zUw]at h3;exact⟨by simp only[zUw];omega,by simp only;omega,by simp only;omega⟩
theorem wu (s:Bytes):IdB (da s).1:=by
 by_cases h:(da s).2=0
 ·have hk:=OK (s:=s) (i:=(da s).1) (by rw[← h])
  have h1:=cS hk.2.1;have h2:(da s).1.text.length≤4096:=by
   apply Nat.le_of_not_lt
   intro hl;have h1:=hk.1;rw[show da (da s).1.text=(ln.none,5) from if_pos hl]at h1;simp at h1
  exact⟨h2,QA,QA,QA⟩
 ·rw[G0 s h];exact⟨by simp[ln.none],by simp[ln.none],by simp[ln.none],by simp[ln.none]⟩
theorem pS (L:List jD):(L.flatMap ac).all Vc.one=true:=by
 induction L with
 | nil=>rfl
 | cons a L ih=>rw[zUH,List.all_append,ih];rfl
def Ic:OT:=(.cI 3 (.cI 5 (.alt (.one 0 (.alt (.one 1 (.alt (.one 2 (.alt (.one 4 (.one 6 (.one 7 (.one 8 (.cI 9 .leaf))))) (.one 6 (.one 4 (.one 7 (.one 8 (.cI 9 .leaf))))))) (.alt (.one 4 (.alt (.one 2 (.one 6 (.one 7 (.one 8 (.cI 9 .leaf))))) (.one 6 (.alt (.one 2 (.one 7 (.one 8 (.cI 9 .leaf)))) (.one 7 (.one 2 (.one 8 (.cI 9 .leaf)))))))) (.one 6 (.alt (.one 2 (.one 4 (.one 7 (.one 8 (.cI 9 .leaf))))) (.one 4 (.alt (.one 2 (.one 7 (.one 8 (.cI 9 .leaf)))) (.one 7 (.one 2 (.one 8 (.cI 9 .leaf))))))))))) (.one 4 (.one 1 (.alt (.one 2 (.one 6 (.one 7 (.one 8 (.cI 9 .leaf))))) (.one 6 (.alt (.one 2 (.one 7 (.one 8 (.cI 9 .leaf)))) (.one 7 (.one 2 (.one 8 (.cI 9 .leaf))))))))))) (.one 4 (.one 0 (.one 1 (.alt (.one 2 (.one 6 (.one 7 (.one 8 (.cI 9 .leaf))))) (.one 6 (.alt (.one 2 (.one 7 (.one 8 (.cI 9 .leaf)))) (.one 7 (.one 2 (.one 8 (.cI 9 .leaf)))))))))))))
def AnsR (bs:List aq)(i:Nat)(n:Nat)(r:SV)(b:List aq):Prop:=∃ (A:List jD) (L':List Int) (q:Nat),r=.o q A.length∧0<A.length∧A.length≤n∧bs.length≤q∧b[q]? = some (.own (A.flatMap ac) 33 7 A.length true)∧(∀ a∈A,rG a)∧bg b i L'∧fS i bs b
theorem sc_jrd {bs:List aq}{a t:Bytes}{q:Nat}(hq:bs[q]? = some (.own (NC a t) 132 6 2 true))(ha:a.length≤20000)(ht:t.length≤20000):SC QH 77 [.agg [.str [],.ai,.ai,.o q 2]] bs (fun r b=>∃ v,r=.agg (tv v)∧Kp (bs.set q (.own (NC a t) 132 6 2 false)) b∧Tr b 4 v) :=
 mP hq (iv (L:=[⟨([111,116,104,101,114]:List UInt8),[],[],a⟩,⟨([108,114,100,100]:List UInt8),[],[],t⟩]) [] QB (.inl ⟨rfl,rfl⟩) QB QB (.inr ⟨q,rfl,zUv (zUu.1 hq).1⟩) QB (fun l hl=>by
  rcases zUN.1 hl with rfl|hl
  ·exact⟨QB,QB,QB,ha⟩
  ·rw[zUK.1 hl];exact⟨QB,QB,QB,ht⟩))
theorem FU {bs:List aq}{i:Nat}{L:List Int}(h:bg bs i L)(id:ln)(hid:IdB id){x0:SV}{N:List Bytes}(KK:Rs bs x0 N)(hN:N.length≤8)(HD:Le 4096 N):SC QH 31 [.p i 0,kM id,x0] bs (AnsR bs i 30):=by
 have dJ:i<bs.length:=by obtain⟨x,hi,-⟩:=h;exact(zUu.1 hi).1
 have Aa:=KK.within;refine tg (fun n=>if n=20 then .all Ic else if n=28 then .ord [0,1,2,3,5,6,7,8,4,9,10,11] else .ord []) 3000 func31 rfl ntmps31 results31 call31 QB (af bs.length _ (by simp[within,within.av,kM,dJ,Aa])) ?_;have sDoc:=fun X=>FR (bs:=bs++X) (h.app X) id hid.1 (KK.ro ((Ro.refl bs).app X)) hN HD
 have pQ:=Gm id hid;have pM:=zy id;have pH:=Jf id;have hM:Small (qe id ([47,46,119,101,108,108,45,107,110,111,119,110,47,104,111,115,116,45,109,101,116,97,46,106,115,111,110]:List UInt8)):=x9 hid QB;have hH:Small (qe id ([47]:List UInt8)):=x9 hid QB;generalize qe id _=um at pM hM;generalize qe id _=uh at pH hH;have pD:=lY id.text;have pT:=xE (bC id.text).1 (GX id.text);have hT:=Fo (bC id.text).1;generalize gI (bC id.text).1=zt at pT hT;generalize bC id.text=zd at pD pT;obtain⟨d,ed⟩:=zd;obtain⟨ut,et⟩:=zt;obtain⟨uq,eq,hQ,pQ⟩:=pQ;simp only at pD pT hT;unfold kM at sDoc pQ pM pH;unfold cA at pQ pM pH pT;unfold qc at pD pT;unfold kM;refine dY ?_;refine ae (sDoc _) ?_;rintro r b ⟨body,kd,L1,rfl,jF,O6,BV,cV⟩;have pc:=cV.at (aM bs _) QA;have MG:=((fS.refl i bs).app _).trans cV;clear sDoc;refine dY ?_;refine ae (I0 BV) ?_;rintro r b2 ⟨fs,L2,q,rfl,JL,qk,hfs,hq,cM,MI,bS⟩;have pc:=bS.at pc QA;replace hq:b.length≤q:=hq;have hK2:=MG.trans bS;have Pq:=MG.1;refine dY ?_;refine ae (eF MI 3 QA) ?_;rintro r b3 ⟨v,L3,rfl,hv,wO,eL⟩;have pc:=eL.at pc QA;have yp:=hK2.trans eL;have cM:=eL.at cM QA;refine dY ?_;refine ae (uz (bs:=b3) (x:=.o q fs.length) (fs:=fs) (.inr ⟨q,true,rfl,JL,cM⟩) QA QA 200 QA kd QA body QA (v==0)) ?_;rintro r b4 ⟨rfl,rfl⟩;have Er:=Kq (st:=200) QA kd fs body QA (v==0);generalize LM 200 kd fs body (v==0)=raw at Er ⊢;replace Er:raw.length≤3000000:=QA;clear cM jF O6 cV bS eL MG hK2 BV MI hfs JL qk hv;have hbl3:=yp.1;have wk:(id.kind==4)=true∨(id.kind==4)=false:=by cases id.kind==4 <;> simp
 rcases wk with wk|wk
 ·refine gA (zUs pc wk) ?_
  (refine aa (pD) ?_;refine dY ?_)
  (refine aa (pT) ?_;refine dY ?_)
  refine ae (eF (wO.app _) 12 QA) ?_;rintro r b5 ⟨v5,L5,rfl,hv5,sM,r8⟩;have nV:=(yp.app _).trans r8;have hbu:=r8.at (aY b4 _ 1) QA;cases w5:(v5==1)
  ·refine gA (zUs w5 hbu) ?_
   refine ae (jR sM ut hT raw Er) ?_;rintro r b6 ⟨A,L6,q,rfl,h0,h1,hq,cM,hA,Nt,lx⟩;refine dY ?_;exact⟨A,L6,q,rfl,h0,QA,by have:=nV.1;omega,cM,hA,Nt,nV.trans lx⟩
  ·refine gA (zUs w5 hbu) ?_
   refine ae (za sM ut hT) ?_;rintro r b6 ⟨a,L6,rfl,hA,Nt,lx⟩;have Nr:=nV.trans lx;unfold ac;refine dY ?_;exact⟨QA,[a],L6,_,rfl,QB,QB,by have:=Nr.1;omega,aM _ _,(fun x hx=>by rw[zUK.1 hx];exact hA),Nt.app _,Nr.app _⟩
 refine gA (zUs pc wk) ?_
 (refine aa (pQ) ?_;refine gA (ad pc) ?_)
 (refine aa (pM) ?_;refine gA (ad pc) ?_)
 (refine aa (pH) ?_;refine gA (ad pc) ?_)
 refine ae (eF (wO.app _) 8 QA) ?_;rintro r b5 ⟨v5,L5,rfl,hv5,sM,r8⟩;have nV:=(yp.app _).trans r8;have hbi5:=r8.at (ad pc _) QA;have JN:=r8.at (aM b4 _) QA;have hbm5:=r8.at (aY b4 _ 1) QA;have hbh5:=r8.at (aY b4 _ 2) QA;have hbl5:=r8.1;simp only[zUD,zUx,zUw,zUP]at hbl5;clear r8 pc wO yp;have w1:(v5==1)=true∨(v5==1)=false:=by cases v5==1 <;> simp
 have w2:(v5==2)=true∨(v5==2)=false:=by cases v5==2 <;> simp
 have w3:(v5==3)=true∨(v5==3)=false:=by cases v5==3 <;> simp
 have w4:(v5==4)=true∨(v5==4)=false:=by cases v5==4 <;> simp
 rcases w1 with w1|w1
 ·refine gA (zUs w1 JN) ?_
  refine ae (za sM uq hQ) ?_;rintro r b6 ⟨a,L6,rfl,hA,Nt,lx⟩;have Nr:=nV.trans lx;unfold ac;refine dY ?_;exact⟨QA,[a],L6,_,rfl,QB,QB,by have:=Nr.1;omega,aM _ _,(fun x hx=>by rw[zUK.1 hx];exact hA),Nt.app _,Nr.app _⟩
 have w23:((v5==2)=true∨((v5==2)=false∧(v5==3)=true))∨((v5==2)=false∧(v5==3)=false):=by cases v5==2 <;> cases v5==3 <;> simp
 rcases w23 with w23|⟨w2,w3⟩
 ·rcases w23 with w2|⟨w2,w3⟩
  rotate_left
  refine gA (zUs w1 (zUs w2 w3)) ?_;rotate_left
  have w3:(v5==3)=false:=by simp at w2 ⊢;omega
  refine gA (zUs w1 w2) ?_;all_goals
   refine⟨QA,ae (iL sM [([104,116,116,112,115,58,47,47,101,46,101,120,97,109,112,108,101,47,108,114,100,100,63,114,61,123,117,114,105,125]:List UInt8),([104,116,116,112,115,58,47,47,97,46,101,120,97,109,112,108,101,47,123,117,114,105,125]:List UInt8),([104,116,116,112,58,47,47,101,46,101,120,97,109,112,108,101,47,123,117,114,105,125]:List UInt8),([104,116,116,112,115,58,47,47,101,46,101,120,97,109,112,108,101,47,123,120,125]:List UInt8),([]:List UInt8)] (n:=5) (m:=100) rfl QA QD rfl) ?_⟩;rintro r b6 ⟨t,L6,rfl,ht,Nt,lx⟩;have Nr:=nV.trans lx;have hbi6:=lx.at hbi5 QA;have hbq6:=lx.at JN QA;have hbm6:=lx.at hbm5 QA;have hbl6:=lx.1;clear lx hbi5 JN hbm5 hbh5;refine dY ?_;have htl:t.length≤20000:=QA;refine⟨QA,ae (sc_jrd (aM b6 _) QB htl) ?_⟩;rintro r b7 ⟨tr,rfl,Ms,hT7⟩;simp only[oB,List.set_cons_zero]at Ms;have hj7:=Ms.at (aY b6 _ 1);have hl7:=Ms.at (aM b6 _);have hbi7:=Ms.at (ad hbi6 _);have hbq7:=Ms.at (ad hbq6 _);have hbm7:=Ms.at (ad hbm6 _);have hK7:=(Nr.app _).trans (fS.of Ms);have hD7:bg b7 i L6:=(Nt.app _).ro (Ms.2 i (by have:=Nr.1;simp;omega)) Ms.ro;have hbl7:=Ms.1;simp only[zUD,zUx,zUw,zUP]at hbl7;obtain⟨-,-,t3,t4⟩:=hT7.oc;have yH:(one tr.xk&&one tr.xi)=true:=by rw[t3,t4];rfl
   have sW:=jn QA hT7;clear Ms hbi6 hbq6 hbm6 Nt t3 t4;unfold tv at sW ⊢;refine gA yH ?_;refine ae sW ?_;rintro r b8 ⟨s,e,rfl,hs,hk8⟩;have hj8:=hk8.at hj7;have hl8:=hk8.at hl7;have MC:=hk8.at hbi7;have MA:=hk8.at hbq7;have MB:=hk8.at hbm7;have hK8:=hK7.trans (fS.of hk8);have hD8:bg b8 i L6:=hD7.ro (hk8.2 i (by have:=hK7.1;omega)) hk8.ro;have hbl8:=hk8.1;clear sW hk8 hj7 hl7 hbi7 hbq7 hbm7 hD7 hT7 yH;refine dY ?_;have pMi:=fun B=>pW (bs:=B) uq hQ.fair
   have O4:=hQ.Nu (raw:=eJ 404 [] [] false) (by have:=lV (st:=404) QA [] [] QB;simp[cF]at this;omega);have pRw:=fun B=>uz (bs:=B) (x:=.ai) (fs:=[]) (.inl ⟨rfl,rfl,rfl⟩) QB (by simp[cF]) 200 QA ([97,112,112,108,105,99,97,116,105,111,110,47,106,114,100,43,106,115,111,110]:List UInt8) QB s QA false
   have hrw:=Kq (st:=200) QA ([97,112,112,108,105,99,97,116,105,111,110,47,106,114,100,43,106,115,111,110]:List UInt8) [] s QA false;generalize LM 200 ([97,112,112,108,105,99,97,116,105,111,110,47,106,114,100,43,106,115,111,110]:List UInt8) [] s false=rj at pRw hrw;replace hrw:rj.length≤3000000:=by simp[cF]at hrw;omega
   generalize dB uq (eJ 404 [] [] false)=mi at pMi O4;refine lT (fun σ=>lk 0 σ.t=some (.p i 0)∧lk 4 σ.t=some (.p bs.length 0)∧lk 9 σ.t=some (.str raw)∧lk 21 σ.t=some (.p (b6.length+1) 0)∧σ.b[bs.length]? = b8[bs.length]? ∧ σ.b[b6.length]? = b8[b6.length]? ∧ σ.b[b6.length+1]? = b8[b6.length+1]? ∧ ∃ (A:List jD) (L':List Int) (q:Nat),lk 24 σ.t=some (.o q A.length)∧0<A.length∧A.length≤12∧b8.length≤q∧σ.b[q]? = some (.own (A.flatMap ac) 33 7 A.length true)∧(∀ a∈A,rG a)∧bg σ.b i L'∧fS i bs σ.b) QE (fun E' k'=>?_) ?_
   ·simp only[bJ,↓Xn,↓Xo,↓Xg,↓Xd,↓Xe,↓Xf,Tryz.VΓ,Tryz.Γs,Xp,Xi,Nat.reduceAdd,Nat.reduceSub,Nat.reduceLT,Nat.reduceLeDiff,reduceIte,reduceCtorEq,Nat.reduceEqDiff,implies_true,forall_const,bI,di,beq_self_eq_true,bne_self_eq_false,Int.reduceBEq,Int.reduceBNe,Int.reduceLT,Int.reduceLE,Ic,MA,MB]
    repeat' first
     | (refine ae (pMi _) ?_
        rintro r B ⟨rfl,hB⟩;cases hB.symm
        unfold ac;refine gA (zUs MA (zUs MB (zUs (ad MA) (ad MB)))) ?_)
     | (refine ae (pRw _) ?_
        rintro r B ⟨rfl,hB⟩;cases hB.symm
        refine gA (zUs MA (zUs MB (zUs (ad MA) (ad MB)))) ?_)
     | refine zUs ?_ ?_
    all_goals first
     | omega
     | (refine ae (jR hD8 um hM rj hrw) ?_
        rintro r b9 ⟨A,L9,q,rfl,mH,E7,hq,cM,rp,MH,Al⟩;have hal:=fF A;refine gA (zUs (ad cM) hal) ?_;refine⟨QA,⟨pS A,by unfold maxLen;omega,QA⟩,(ad (Al.at MC QA) _).trans MC.symm,(ad (Al.at hl8 QA) _).trans hl8.symm,(ad (Al.at hj8 QA) _).trans hj8.symm,mi::A,L9,b9.length+1,by simp[zUO],QB,QC,by have:=Al.1;omega,?_,?_,MH.app _,(hK8.trans Al).app _⟩
        ·rw[aY];simp[ac,zUO] <;> rfl
        ·intro a ha
         rcases zUN.1 ha with rfl|ha
         ·exact O4
         ·exact rp a ha)
     | (refine ae (jR (hD8.app _) um hM rj hrw) ?_
        rintro r b9 ⟨A,L9,q,rfl,mH,E7,hq,cM,rp,MH,Al⟩;have hal:=fF A;have az:=Al.at (aM b8 _) (by have:=hK8.1;omega);refine gA (zUs cM (zUs az hal)) ?_;have hbl9:=Al.1;simp only[zUD,zUx,zUw,zUP]at hbl9;have nL:=(hK8.app _).trans Al;refine⟨⟨pS A,by unfold maxLen;omega,QA⟩,(ad (aw (Al.at (ad MC _) QA) QA _) _).trans MC.symm,(ad (aw (Al.at (ad hl8 _) QA) QA _) _).trans hl8.symm,(ad (aw (Al.at (ad hj8 _) QA) QA _) _).trans hj8.symm,mi::A,L9,b9.length,by simp[zUO],QB,QC,QA,?_,?_,(MH.set QA az _).app _,(nL.ic QA _).app _⟩
        ·rw[show b9.length=(b9.set b8.length .gone).length by simp,aM];simp[ac,zUO] <;> rfl
        ·intro a ha
         rcases zUN.1 ha with rfl|ha
         ·exact O4
         ·exact rp a ha)
   ·rintro⟨tt,bb⟩ ⟨h0,h4,h9,vn,e1,e2,e3,A,L',q,sN,mH,hA12,hq,cM,rp,hD,hK⟩
    simp only at h0 h4 h9 vn e1 e2 e3 sN cM hD hK;rw[MC]at e1;rw[hl8]at e2;rw[hj8]at e3;have hK8':=hK8.1;clear MC hl8 hj8 pMi pRw MA MB hD8 hK8;refine gA (zUs h0 (zUs h4 (zUs h9 (zUs vn (zUs sN (zUs e1 e3)))))) ?_;refine ae (yb (a:=([104,116,116,112,115,58,47,47,122,46,101,120,97,109,112,108,101,47,123,117,114,105,125]:List UInt8)) (t:=t) (by have:=hid.1;omega) e2) ?_;rintro r b9 ⟨v,e,hv,rfl,Al⟩;have Po:=Al.at cM;have Pw:=hK.trans (fS.of Al);have MH:bg b9 i L':=hD.ro (Al.2 i (by have:=hK.1;simp only;omega)) Al.ro;unfold cA;have we:(e==0)=true∨(e==0)=false:=by cases e==0 <;> simp
    have hal:=fF A;rcases we with we|we
    ·refine gA (zUs h0 (zUs h4 (zUs h9 (zUs vn (zUs sN we))))) ?_
     refine ae (jR (MH.app _) v hv raw Er) ?_;rintro r b10 ⟨A2,L10,q2,rfl,MK,MJ,p7,jZ,wP,hD10,JH⟩;have HC:=JH.at (ad Po _) (by have:=hK.1;omega);have hal2:=fF A2;refine gA (zUs h0 (zUs h4 (zUs h9 (zUs vn (zUs sN (zUs HC (zUs jZ (zUs hal hal2)))))))) ?_;refine⟨⟨pS A2,by unfold maxLen;omega,QA⟩,A++A2,L10,b10.length,QB,QC,QC,by have:=(Pw.app [.cells [.str v.host,.int .i64 v.port,.str v.path,.str v.query,.str v.fragment,.bool v.aJ,.bool v.a8] 35 true]).1;have:=JH.1;omega,?_,?_,(hD10.set (by have:=hK.1;omega) HC _).app _,((((Pw.app _).trans JH).ic (by have:=hK8';omega) _).app _)⟩
     ·rw[show b10.length=(b10.set q .gone).length by simp,aM];simp
     ·intro a ha
      rcases zUM.1 ha with ha|ha
      ·exact rp a ha
      ·exact wP a ha
    ·refine gA (zUs h0 (zUs h4 (zUs h9 (zUs vn (zUs sN we))))) ?_
     exact⟨A,L',q,rfl,mH,QA,QA,ad Po _,rp,MH.app _,Pw.app _⟩
 ·rcases w4 with w4|w4
  ·obtain⟨nB,Nt,lx,sO⟩:=AD (sM.app [.own (([([104,116,116,112,115,58,47,47,101,46,101,120,97,109,112,108,101,47,108,105,110,107]:List UInt8),([47,104,101,114,101]:List UInt8),([120,63,121]:List UInt8),([104,116,116,112,58,47,47,101,46,101,120,97,109,112,108,101,47]:List UInt8)]:List Bytes).map .str) 9 1 4 true]) (m:=4) QA rfl (aM b5 _) QA
   have o8:=Ef (T:=[([104,116,116,112,115,58,47,47,101,46,101,120,97,109,112,108,101,47,108,105,110,107]:List UInt8),([47,104,101,114,101]:List UInt8),([120,63,121]:List UInt8),([104,116,116,112,58,47,47,101,46,101,120,97,109,112,108,101,47]:List UInt8)]) (L:=L5) QB;rw[show ([([104,116,116,112,115,58,47,47,101,46,101,120,97,109,112,108,101,47,108,105,110,107]:List UInt8),([47,104,101,114,101]:List UInt8),([120,63,121]:List UInt8),([104,116,116,112,58,47,47,101,46,101,120,97,109,112,108,101,47]:List UInt8)]:List Bytes).length=4 from rfl]at o8;generalize ([([104,116,116,112,115,58,47,47,101,46,101,120,97,109,112,108,101,47,108,105,110,107]:List UInt8),([47,104,101,114,101]:List UInt8),([120,63,121]:List UInt8),([104,116,116,112,58,47,47,101,46,101,120,97,109,112,108,101,47]:List UInt8)]:List Bytes).getD _ _=t at sO o8;have Nr:=(nV.app _).trans lx;have hbi6:=lx.at (ad hbi5 _) QA;have hbq6:=lx.at (ad JN _) QA;have hbm6:=lx.at (ad hbm5 _) QA;have hbh6:=lx.at (ad hbh5 _) QA;have hbl6:=lx.1;have hw:=WL.of (t:=t) (by simpa using o8);have htl:t.length≤100:=hw.tn;simp only[zUD,zUx,zUw,zUP]at hbl6;clear lx hbi5 JN hbm5 hbh5;refine gA (zUs w1 (zUs w2 (zUs w3 w4))) ?_;refine⟨QA,ae sO ?_⟩;rintro r b6 ⟨rfl,hB⟩;cases hB.symm
   have pMi:=fun B u hu=>pW (bs:=B) u hu
   have O4:=fun(u:bN) (hu:Small u)=>hu.Nu (raw:=eJ 404 [] [] false) (by have:=lV (st:=404) QA [] [] QB;simp[cF]at this;omega)
   unfold wlT at hw;simp only[zUF,zUE]at hw;refine dY ?_;refine⟨QA,QA,QA,Gc QE,?_⟩;have hwl:=hw.len;generalize (60::(t++[62,59,32,114,101,108,61,34,108,114,100,100,32,120,34]):Bytes)=wt at hw hwl ⊢;have hrw:=lV (st:=200) QA [(([108,105,110,107]:List UInt8),wt)] [] QB;simp only[cF,zUx,zUw]at hrw;have pR:=fun B (hB:B[nB.length]? = _)=>fj (bs:=B) (x:=.o nB.length 1) (fs:=[(([108,105,110,107]:List UInt8),wt)]) (.inr ⟨nB.length,true,rfl,QB,hB⟩) QB (by simp[cF];omega) 200 QA [] QB false
   have pA:=eP uh hH.fair (eJ 200 [(([108,105,110,107]:List UInt8),wt)] [] false);have hA2:=hH.Nu (raw:=eJ 200 [(([108,105,110,107]:List UInt8),wt)] [] false) QA;generalize eJ 200 [(([108,105,110,107]:List UInt8),wt)] [] false=rw at pR pA hA2;generalize hmq:dB uq (eJ 404 [] [] false)=mq;generalize jW:dB um (eJ 404 [] [] false)=mm;have hmq2:=O4 uq hQ;have hmm2:=O4 um hM;have pMq:=fun B=>pMi B uq hQ.fair
   have pMm:=fun B=>pMi B um hM.fair
   rw[hmq]at hmq2 pMq;rw[jW]at hmm2 pMm;clear O4 pMi;generalize dB uh rw=ma at pA hA2;unfold uc ac at pA;refine gA (ad hbq6) ?_;refine bE [] (pMq _) (fun _ _ _=>rfl) ?_;unfold ac;refine gA (ad hbm6) ?_;refine bE [] (pMm _) (fun _ _ _=>rfl) ?_;unfold ac;refine gA (ad hbh6) ?_;refine bE [] (pR _ (aM nB _)) (fun _ _ _=>rfl) ?_;refine dY ?_
   (refine aW (pA) ?_;refine gA (ad hbh6) ?_)
   have z:∀ j k,j≤2→(b4.length+j=nB.length+k)=False:=fun j k hj=>eq_false QA
   have z1:=fun k=>z 1 k QA
   have z2:=fun k=>z 2 k QA
   have z0:∀ k,(b4.length=nB.length+k)=False:=fun k=>eq_false QA
   refine⟨QA,QA,⟨by unfold maxLen;omega,QA⟩,?_,ae (Bi hH hw (aM nB _)) ?_⟩
   ·refine bt (fun n=>if n=nB.length+1 then 1 else if n=nB.length+2 then 2 else if n=nB.length+3 then 3 else 0) ?_
    simp only[zUI,zUJ,cz,dW,z0,z1,z2,eq_self,if_true,if_false,Nat.add_left_cancel_iff,Nat.reduceEqDiff];exact ao QE
   rintro r b9 ⟨v,e,hv,rfl,Al⟩;have Po:=Al.at (aY nB _ 3);have Pw:=(Nr.app _).trans (fS.of Al);have MH:bg b9 i _:=(Nt.app _).ro (Al.2 i (by have:=Nr.1;simp;omega)) Al.ro;have hbl9:=Al.1;simp only[zUD,zUx,zUw,zUP]at hbl9;have K0:∀ a∈[mq,mm,ma],rG a:=fun a ha=>by
    simp only[zUN,List.not_mem_nil,or_false]at ha;rcases ha with rfl|rfl|rfl
    ·exact hmq2
    ·exact hmm2
    ·exact hA2
   unfold cA;have we:(e==0)=true∨(e==0)=false:=by cases e==0 <;> simp
   rcases we with we|we
   ·refine gA we ?_
    refine ae (jR (MH.app _) v hv raw Er) ?_;rintro r b10 ⟨A2,L10,q2,rfl,MK,MJ,p7,jZ,wP,hD10,JH⟩;have HC:=JH.at (ad Po _) (by have:=Nr.1;omega);have hal2:=fF A2;have hbl10:=JH.1;simp only[zUD,zUx,zUw,zUP]at hbl10;refine gA (zUs HC (zUs jZ hal2)) ?_;refine⟨⟨pS A2,by unfold maxLen;omega,QA⟩,[mq,mm,ma]++A2,L10,b10.length,by(simp[zUO];omega),QB,QC,QA,?_,?_,(hD10.set QA HC _).app _,((((Pw.app _).trans JH).ic QA _).app _)⟩
    ·rw[show b10.length=(b10.set (nB.length+3) .gone).length by simp,aM];simp[ac,zUO];omega
    ·intro a ha
     rcases zUM.1 ha with ha|ha
     ·exact K0 a ha
     ·exact wP a ha
   ·refine gA we ?_
    exact⟨[mq,mm,ma],_,nB.length+3,rfl,QB,QB,QA,ad Po _,K0,MH.app _,Pw.app _⟩
  ·refine gA (zUs w1 (zUs w2 (zUs w3 (zUs w4 JN)))) ?_
   refine ae (jR sM uq hQ raw Er) ?_;rintro r b6 ⟨A,L6,q,rfl,h0,h1,hq,cM,hA,Nt,lx⟩;refine dY ?_;exact⟨A,L6,q,rfl,h0,QA,by have:=nV.1;omega,cM,hA,Nt,nV.trans lx⟩
def nY:OT:=(.cI 0 (.cI 1 (.cI 3 (.cI 5 (.cI 7 (.alt (.one 2 (.alt (.one 4 (.one 6 (.one 8 (.one 9 (.cI 10 (.cI 11 .leaf)))))) (.one 6 (.one 4 (.one 8 (.one 9 (.cI 10 (.cI 11 .leaf)))))))) (.one 6 (.one 2 (.one 4 (.one 8 (.one 9 (.cI 10 (.cI 11 .leaf)))))))))))))
theorem bg.il {b:List aq}{i:Nat}{L:List Int}(h:bg b i L):i<b.length:=by obtain⟨x,hi,-⟩:=h;exact(zUu.1 hi).1
def E9 (b:List aq)(lo:Nat)(x:SV)(N:List Bytes):Prop:=(x=.ai∧N=[])∨∃ q,x=.o q N.length∧lo≤q∧b[q]? = some (.own (N.map SV.str) 9 1 N.length true)
theorem gG {bs:List aq}{i lo:Nat}{L:List Int}(h:bg bs i L)(id:ln)(hid:IdB id){x0:SV}{N:List Bytes}(hx:E9 bs lo x0 N)(hl:i<lo)(hN:N.length≤8)(HD:Le 4096 N):SC QH 31 [.p i 0,kM id,x0] bs (fun r b=>∃ bs':List aq,bs'.length=bs.length∧(∀ k,(∀ n,x0≠.o k n)→bs'[k]? = bs[k]?)∧AnsR bs' i 30 r b):=by
 rcases hx with⟨rfl,rfl⟩|⟨q,rfl,hq,cM⟩
 ·exact(FU h id hid (.inl ⟨rfl,rfl⟩) hN HD).mono fun r b hr=>⟨bs,rfl,fun _ _=>rfl,hr⟩
 ·refine mP cM ((FU (h.set QA cM _) id hid (.inr ⟨q,rfl,zUv (zUu.1 cM).1⟩) hN HD).mono fun r b hr=>⟨bs.set q _,QB,fun k hk=>?_,hr⟩)
  refine zUt ?_;rintro rfl;exact hk _ rfl
theorem fS.dul {i:Nat}{a S S':List aq}{x:SV}(h:fS i a S)(hl:S'.length=S.length)(hk:∀ k,(∀ n,x≠.o k n)→S'[k]? = S[k]?)(hx:∀ q n,x=.o q n→a.length≤q):fS i a S':=⟨by rw[hl];exact h.1,fun k u9 bF=>(hk k fun n e=>by have:=hx k n e;omega).trans (h.2 k u9 bF)⟩
theorem E9.low {b:List aq}{lo:Nat}{x:SV}{N:List Bytes}(h:E9 b lo x N):∀ q n,x=.o q n→lo≤q:=by
 rintro q n rfl;rcases h with⟨h,-⟩|⟨p,h1,h2,-⟩
 ·cases h
 ·cases h1;exact h2
theorem E9.after {S S' b4:List aq}{i lo:Nat}{x y:SV}{M:List Bytes}(hy:E9 S lo y M)(xO:∀ q n m,x=.o q n→y=.o q m→False)(hk:∀ k,(∀ n,x≠.o k n)→S'[k]? = S[k]?)(hK:fS i S' b4)(hi:i<lo):E9 b4 lo y M:=by
 rcases hy with h|⟨q,h1,h2,h3⟩
 ·exact .inl h
 ·exact .inr ⟨q,h1,h2,hK.at ((hk q fun n e=>xO q n _ e h1).trans h3) QA⟩
theorem E9.lt {S:List aq}{lo:Nat}{y:SV}{M:List Bytes}(hy:E9 S lo y M):∀ q n,y=.o q n→q<S.length:=by
 rintro q n rfl;rcases hy with⟨h,-⟩|⟨p,h1,-,h3⟩
 ·cases h
 ·cases h1;exact(zUu.1 h3).1
theorem NW {bs:List aq}{i:Nat}{L:List Int}(h:bg bs i L):SC QH 9 [.p i 0] bs (fun r b=>∃ (s:Bytes) (A:List jD) (L':List Int) (q:Nat),r=.eh [.str s,.o q A.length]∧s.length≤100∧0<A.length∧A.length≤60∧bs.length≤q∧b[q]? = some (.own (A.flatMap ac) 33 7 A.length true)∧(∀ a∈A,rG a)∧bg b i L'∧fS i bs b):=by
 have dJ:i<bs.length:=by obtain⟨x,hi,-⟩:=h;exact(zUu.1 hi).1
 refine tg (fun n=>if n=16 then .all nY else .ord []) 3000 func9 rfl ntmps9 results9 call9 QB (af bs.length _ (by simp[within,within.av,dJ])) ?_;refine dY ?_;refine ae (C7 h) ?_;rintro r b1 ⟨s,L1,rfl,hs,BV,cV⟩;refine dY ?_;refine ae (C7 BV) ?_;rintro r b2 ⟨t,L2,rfl,ht,MI,bS⟩;have hK2:fS i bs b2:=cV.trans bS;have p1:=mX s;have p2:=mX t;have p3:=mX ([104,116,116,112,115,58,47,47,100,46,101,120,97,109,112,108,101,47,109,101]:List UInt8);have i1:=wu s;have i2:=wu t;have i3:=wu ([104,116,116,112,115,58,47,47,100,46,101,120,97,109,112,108,101,47,109,101]:List UInt8);generalize da s=z1 at p1 i1;generalize da t=z2 at p2 i2;generalize da ([104,116,116,112,115,58,47,47,100,46,101,120,97,109,112,108,101,47,109,101]:List UInt8)=z3 at p3 i3;obtain⟨id,e1⟩:=z1;obtain⟨pf,e2⟩:=z2;obtain⟨p3',e3⟩:=z3;simp only at p1 p2 p3 i1 i2 i3;unfold kM at p1 p2 p3;refine dY ?_
 (refine aa (p1) ?_;refine dY ?_)
 (refine aa (p2) ?_;refine dY ?_)
 have bF:∀ P:ln,IdB P→Le 4096 [P.text]:=fun P hP s hs=>by rw[zUK.1 hs];exact hP.1
 refine⟨fun hc=>?_,fun hc=>?_⟩
 (refine aa (p3) ?_;refine dY ?_)
 clear hc p1 p2 p3 i2;generalize p3'=P at i3 ⊢;have iP:=i3;rotate_left
 clear hc p1 p2 p3 i3;generalize pf=P at i2 ⊢;have iP:=i2;all_goals
  refine⟨QA,QA,?_,ae (eF (MI.app _) 10 QA) ?_⟩
  ·(refine bt (fun n=>n - List.length b2) ?_;simp only[zUI,zUJ,cz,dW,Nat.add_sub_cancel_left,Nat.sub_self,Nat.add_sub_cancel_left];exact ao QE)
  rintro r b3 ⟨v,L3,rfl,hv,wO,eL⟩;have vf:bs.length≤b2.length:=hK2.1;have yp:=(hK2.app _).trans eL;have f0:=eL.at (aM b2 _) QA;have f1:=eL.at (aY b2 _ 1) QA;have f2:=eL.at (aY b2 _ 2) QA;have f3:=eL.at (aY b2 _ 3) QA;have hbl3:=eL.1;simp only[zUD,zUx,zUw,zUP]at hbl3;clear eL MI;have hw:(v==1)=true∨(v==1)=false∧(v==2)=true∨(v==1)=false∧(v==2)=false∧(v==3)=true∨(v==1)=false∧(v==2)=false∧(v==3)=false∧(v==4)=true∨(v==1)=false∧(v==2)=false∧(v==3)=false∧(v==4)=false:=by
   cases v==1 <;> cases v==2 <;> cases v==3 <;> cases v==4 <;> simp
  rcases hw with w1|⟨w1,w2⟩|⟨w1,w2,w3⟩|⟨w1,w2,w3,w4⟩|⟨w1,w2,w3,w4⟩
  ·refine gA (zUs w1 (zUs f0 (ad f2))) ?_
   refine⟨QA,⟨by unfold maxLen;omega,QA⟩,?_⟩;have hx:E9 (b3++[.gone,.own [.str ([110,111,110,115,101,110,115,101]:List UInt8),.str id.text,.str P.text] 9 1 3 true]) (b2.length+2) (.o (b3.length+1) 3) [([110,111,110,115,101,110,115,101]:List UInt8),id.text,P.text]:=.inr ⟨b3.length+1,rfl,QA,aY b3 _ 1⟩;have hN:([([110,111,110,115,101,110,115,101]:List UInt8),id.text,P.text]:List Bytes).length≤8:=by simp
   have HD:Le 4096 [([110,111,110,115,101,110,115,101]:List UInt8),id.text,P.text]:=fun s hs=>by
    simp only[zUN,List.not_mem_nil,or_false]at hs;rcases hs with rfl|rfl|rfl
    ·simp
    ·exact i1.1
    ·exact iP.1
   have hy:E9 (b3++[.gone,.own [.str ([110,111,110,115,101,110,115,101]:List UInt8),.str id.text,.str P.text] 9 1 3 true]) (b2.length+2) (.o (b2.length+3) 1) [id.text]:=.inr ⟨_,rfl,QA,ad f3 _⟩;have hM:([id.text]:List Bytes).length≤8:=by simp
   have hMs:=bF id i1;have xO:∀ q n m,SV.o (b3.length+1) 3=.o q n→SV.o (b2.length+3) 1=.o q m→False:=fun q n m h1 h2=>by cases h1;injection h2 with h2;omega
   have EC:=wO.app [.gone,.own [.str ([110,111,110,115,101,110,115,101]:List UInt8),.str id.text,.str P.text] 9 1 3 true];have KY:=yp.app [.gone,.own [.str ([110,111,110,115,101,110,115,101]:List UInt8),.str id.text,.str P.text] 9 1 3 true];refine lT (fun σ=>lk 2 σ.t=some (.str s)∧∃ (A:List jD) (L':List Int) (q:Nat),lk 3 σ.t=some (.o q A.length)∧0<A.length∧A.length≤60∧bs.length≤q∧σ.b[q]? = some (.own (A.flatMap ac) 33 7 A.length true)∧(∀ a∈A,rG a)∧bg σ.b i L'∧fS i bs σ.b) QE (fun E' k'=>?_) ?_
   ·simp only[bJ,↓Xn,↓Xo,↓Xg,↓Xd,↓Xe,↓Xf,Tryz.VΓ,Tryz.Γs,Xp,Xi,Nat.reduceAdd,Nat.reduceSub,Nat.reduceLT,Nat.reduceLeDiff,reduceIte,reduceCtorEq,Nat.reduceEqDiff,implies_true,forall_const,bI,di,beq_self_eq_true,bne_self_eq_false,Int.reduceBEq,Int.reduceBNe,Int.reduceLT,Int.reduceLE,nY,ad f0,ad f1]
    refine⟨⟨?_,?_⟩,?_⟩;all_goals
     refine ae (gG EC id i1 hx QA hN HD) ?_;rintro r b4 ⟨b3',Nk,mJ,A1,L4,q1,rfl,hA10,hA11,jK,jI,ED,CV,sb⟩;have o6:=hx.low;have g1:=sb.at ((mJ (b2.length+1) fun n e=>by have:=o6 _ n e;omega).trans (show _=some (.cells [.int .i64 P.kind,.str P.text,.str P.host,.int .i64 P.port] 73 true) from by first|exact f1|exact ad f1 _)) QA;have hy':=hy.after xO mJ sb QA;have Nf:=hy.lt;have EA:=(KY.dul Nk mJ (fun q n e=>by have:=o6 q n e;omega)).trans sb;refine gA g1 ?_;refine ae (gG CV P iP hy' QA hM hMs) ?_;rintro r b5 ⟨b4',Bb,r8,A2,L5,q2,rfl,MK,MJ,p7,jZ,wP,sM,nV⟩;have hbq1':=nV.at ((r8 q1 fun n e=>by have:=Nf _ n e;omega).trans jI) (by have:=EC.il;omega);have ha1:=fF A1;have ha2:=fF A2;have vk:=(EA.dul Bb r8 (fun q n e=>by have:=hy'.low q n e;omega)).trans nV;refine gA (zUs hbq1' (zUs jZ (zUs ha1 ha2))) ?_;have hil':=EC.il;have hSl:=KY.1;have h5l:=vk.1;refine⟨⟨pS A2,by unfold maxLen;omega,QA⟩,A1++A2,L5,b5.length,QB,QC,QC,h5l,?_,?_,(sM.set QA hbq1' _).app _,(vk.ic QA _).app _⟩
     ·rw[show b5.length=(b5.set q1 .gone).length by simp,aM];simp
     ·intro a ha
      rcases zUM.1 ha with ha|ha
      ·exact ED a ha
      ·exact wP a ha
   ·rintro⟨tt,bb⟩ ⟨h2,A,L',q,h3,mH,E7,hq,cM,rp,hD,hK⟩
    simp only at h2 h3 cM hD hK;refine gA (zUs h2 h3) ?_;exact⟨s,A,L',q,rfl,hs,mH,E7,hq,cM,rp,hD,hK⟩
  ·refine gA (zUs w1 w2) ?_
   have hx:E9 b3 (b2.length+2) .ai []:=.inl ⟨rfl,rfl⟩;have hN:([]:List Bytes).length≤8:=by simp
   have HD:Le 4096 []:=fun s hs=>by cases hs
   have hy:E9 b3 (b2.length+2) (.o (b2.length+3) 1) [id.text]:=.inr ⟨_,rfl,QA,f3⟩;have hM:([id.text]:List Bytes).length≤8:=by simp
   have hMs:=bF id i1;have xO:∀ q n m,SV.ai=.o q n→SV.o (b2.length+3) 1=.o q m→False:=fun q n m h1 h2=>by cases h1
   have EC:=wO;have KY:=yp;refine lT (fun σ=>lk 2 σ.t=some (.str s)∧∃ (A:List jD) (L':List Int) (q:Nat),lk 3 σ.t=some (.o q A.length)∧0<A.length∧A.length≤60∧bs.length≤q∧σ.b[q]? = some (.own (A.flatMap ac) 33 7 A.length true)∧(∀ a∈A,rG a)∧bg σ.b i L'∧fS i bs σ.b) QE (fun E' k'=>?_) ?_
   ·simp only[bJ,↓Xn,↓Xo,↓Xg,↓Xd,↓Xe,↓Xf,Tryz.VΓ,Tryz.Γs,Xp,Xi,Nat.reduceAdd,Nat.reduceSub,Nat.reduceLT,Nat.reduceLeDiff,reduceIte,reduceCtorEq,Nat.reduceEqDiff,implies_true,forall_const,bI,di,beq_self_eq_true,bne_self_eq_false,Int.reduceBEq,Int.reduceBNe,Int.reduceLT,Int.reduceLE,nY,f0,f1]
    refine⟨⟨?_,?_⟩,?_⟩;all_goals
     refine ae (gG EC id i1 hx QA hN HD) ?_;rintro r b4 ⟨b3',Nk,mJ,A1,L4,q1,rfl,hA10,hA11,jK,jI,ED,CV,sb⟩;have o6:=hx.low;have g1:=sb.at ((mJ (b2.length+1) fun n e=>by have:=o6 _ n e;omega).trans (show _=some (.cells [.int .i64 P.kind,.str P.text,.str P.host,.int .i64 P.port] 73 true) from by first|exact f1|exact ad f1 _)) QA;have hy':=hy.after xO mJ sb QA;have Nf:=hy.lt;have EA:=(KY.dul Nk mJ (fun q n e=>by have:=o6 q n e;omega)).trans sb;refine gA g1 ?_;refine ae (gG CV P iP hy' QA hM hMs) ?_;rintro r b5 ⟨b4',Bb,r8,A2,L5,q2,rfl,MK,MJ,p7,jZ,wP,sM,nV⟩;have hbq1':=nV.at ((r8 q1 fun n e=>by have:=Nf _ n e;omega).trans jI) (by have:=EC.il;omega);have ha1:=fF A1;have ha2:=fF A2;have vk:=(EA.dul Bb r8 (fun q n e=>by have:=hy'.low q n e;omega)).trans nV;refine gA (zUs hbq1' (zUs jZ (zUs ha1 ha2))) ?_;have hil':=EC.il;have hSl:=KY.1;have h5l:=vk.1;refine⟨⟨pS A2,by unfold maxLen;omega,QA⟩,A1++A2,L5,b5.length,QB,QC,QC,h5l,?_,?_,(sM.set QA hbq1' _).app _,(vk.ic QA _).app _⟩
     ·rw[show b5.length=(b5.set q1 .gone).length by simp,aM];simp
     ·intro a ha
      rcases zUM.1 ha with ha|ha
      ·exact ED a ha
      ·exact wP a ha
   ·rintro⟨tt,bb⟩ ⟨h2,A,L',q,h3,mH,E7,hq,cM,rp,hD,hK⟩
    simp only at h2 h3 cM hD hK;refine gA (zUs h2 h3) ?_;exact⟨s,A,L',q,rfl,hs,mH,E7,hq,cM,rp,hD,hK⟩
  ·refine gA (zUs w1 (zUs w2 w3)) ?_
   refine⟨QA,?_⟩;have hx:E9 (b3++[.own [.str ([97,99,99,116,58,113,64,97,46,101,120,97,109,112,108,101]:List UInt8)] 9 1 1 true]) (b2.length+2) (.o (b2.length+2) 1) [P.text]:=.inr ⟨_,rfl,QA,ad f2 _⟩;have hN:([P.text]:List Bytes).length≤8:=by simp
   have HD:=bF P iP;have hy:E9 (b3++[.own [.str ([97,99,99,116,58,113,64,97,46,101,120,97,109,112,108,101]:List UInt8)] 9 1 1 true]) (b2.length+2) (.o b3.length 1) [([97,99,99,116,58,113,64,97,46,101,120,97,109,112,108,101]:List UInt8)]:=.inr ⟨_,rfl,QA,aM b3 _⟩;have hM:([([97,99,99,116,58,113,64,97,46,101,120,97,109,112,108,101]:List UInt8)]:List Bytes).length≤8:=by simp
   have hMs:Le 4096 [([97,99,99,116,58,113,64,97,46,101,120,97,109,112,108,101]:List UInt8)]:=fun s hs=>by rw[zUK.1 hs];simp
   have xO:∀ q n m,SV.o (b2.length+2) 1=.o q n→SV.o b3.length 1=.o q m→False:=fun q n m h1 h2=>by cases h1;injection h2 with h2;omega
   have EC:=wO.app [.own [.str ([97,99,99,116,58,113,64,97,46,101,120,97,109,112,108,101]:List UInt8)] 9 1 1 true];have KY:=yp.app [.own [.str ([97,99,99,116,58,113,64,97,46,101,120,97,109,112,108,101]:List UInt8)] 9 1 1 true];refine lT (fun σ=>lk 2 σ.t=some (.str s)∧∃ (A:List jD) (L':List Int) (q:Nat),lk 3 σ.t=some (.o q A.length)∧0<A.length∧A.length≤60∧bs.length≤q∧σ.b[q]? = some (.own (A.flatMap ac) 33 7 A.length true)∧(∀ a∈A,rG a)∧bg σ.b i L'∧fS i bs σ.b) QE (fun E' k'=>?_) ?_
   ·simp only[bJ,↓Xn,↓Xo,↓Xg,↓Xd,↓Xe,↓Xf,Tryz.VΓ,Tryz.Γs,Xp,Xi,Nat.reduceAdd,Nat.reduceSub,Nat.reduceLT,Nat.reduceLeDiff,reduceIte,reduceCtorEq,Nat.reduceEqDiff,implies_true,forall_const,bI,di,beq_self_eq_true,bne_self_eq_false,Int.reduceBEq,Int.reduceBNe,Int.reduceLT,Int.reduceLE,nY,ad f0,ad f1]
    refine⟨⟨?_,?_⟩,?_⟩;all_goals
     refine ae (gG EC id i1 hx QA hN HD) ?_;rintro r b4 ⟨b3',Nk,mJ,A1,L4,q1,rfl,hA10,hA11,jK,jI,ED,CV,sb⟩;have o6:=hx.low;have g1:=sb.at ((mJ (b2.length+1) fun n e=>by have:=o6 _ n e;omega).trans (show _=some (.cells [.int .i64 P.kind,.str P.text,.str P.host,.int .i64 P.port] 73 true) from by first|exact f1|exact ad f1 _)) QA;have hy':=hy.after xO mJ sb QA;have Nf:=hy.lt;have EA:=(KY.dul Nk mJ (fun q n e=>by have:=o6 q n e;omega)).trans sb;refine gA g1 ?_;refine ae (gG CV P iP hy' QA hM hMs) ?_;rintro r b5 ⟨b4',Bb,r8,A2,L5,q2,rfl,MK,MJ,p7,jZ,wP,sM,nV⟩;have hbq1':=nV.at ((r8 q1 fun n e=>by have:=Nf _ n e;omega).trans jI) (by have:=EC.il;omega);have ha1:=fF A1;have ha2:=fF A2;have vk:=(EA.dul Bb r8 (fun q n e=>by have:=hy'.low q n e;omega)).trans nV;refine gA (zUs hbq1' (zUs jZ (zUs ha1 ha2))) ?_;have hil':=EC.il;have hSl:=KY.1;have h5l:=vk.1;refine⟨⟨pS A2,by unfold maxLen;omega,QA⟩,A1++A2,L5,b5.length,QB,QC,QC,h5l,?_,?_,(sM.set QA hbq1' _).app _,(vk.ic QA _).app _⟩
     ·rw[show b5.length=(b5.set q1 .gone).length by simp,aM];simp
     ·intro a ha
      rcases zUM.1 ha with ha|ha
      ·exact ED a ha
      ·exact wP a ha
   ·rintro⟨tt,bb⟩ ⟨h2,A,L',q,h3,mH,E7,hq,cM,rp,hD,hK⟩
    simp only at h2 h3 cM hD hK;refine gA (zUs h2 h3) ?_;exact⟨s,A,L',q,rfl,hs,mH,E7,hq,cM,rp,hD,hK⟩
  ·refine gA (zUs w1 (zUs w2 (zUs w3 (zUs w4 (zUs f1 (ad f3)))))) ?_
   refine⟨QA,⟨by unfold maxLen;omega,QA⟩,?_⟩;have hx:E9 (b3++[.gone,.own [.str ([104,116,116,112,115,58,47,47,113,46,101,120,97,109,112,108,101,47]:List UInt8),.str id.text] 9 1 2 true]) (b2.length+2) (.o (b2.length+2) 1) [P.text]:=.inr ⟨_,rfl,QA,ad f2 _⟩;have hN:([P.text]:List Bytes).length≤8:=by simp
   have HD:=bF P iP;have hy:E9 (b3++[.gone,.own [.str ([104,116,116,112,115,58,47,47,113,46,101,120,97,109,112,108,101,47]:List UInt8),.str id.text] 9 1 2 true]) (b2.length+2) (.o (b3.length+1) 2) [([104,116,116,112,115,58,47,47,113,46,101,120,97,109,112,108,101,47]:List UInt8),id.text]:=.inr ⟨_,rfl,QA,aY b3 _ 1⟩;have hM:([([104,116,116,112,115,58,47,47,113,46,101,120,97,109,112,108,101,47]:List UInt8),id.text]:List Bytes).length≤8:=by simp
   have hMs:Le 4096 [([104,116,116,112,115,58,47,47,113,46,101,120,97,109,112,108,101,47]:List UInt8),id.text]:=fun s hs=>by
    simp only[zUN,List.not_mem_nil,or_false]at hs;rcases hs with rfl|rfl
    ·simp
    ·exact i1.1
   have xO:∀ q n m,SV.o (b2.length+2) 1=.o q n→SV.o (b3.length+1) 2=.o q m→False:=fun q n m h1 h2=>by cases h1;injection h2 with h2;omega
   have EC:=wO.app [.gone,.own [.str ([104,116,116,112,115,58,47,47,113,46,101,120,97,109,112,108,101,47]:List UInt8),.str id.text] 9 1 2 true];have KY:=yp.app [.gone,.own [.str ([104,116,116,112,115,58,47,47,113,46,101,120,97,109,112,108,101,47]:List UInt8),.str id.text] 9 1 2 true];refine lT (fun σ=>lk 2 σ.t=some (.str s)∧∃ (A:List jD) (L':List Int) (q:Nat),lk 3 σ.t=some (.o q A.length)∧0<A.length∧A.length≤60∧bs.length≤q∧σ.b[q]? = some (.own (A.flatMap ac) 33 7 A.length true)∧(∀ a∈A,rG a)∧bg σ.b i L'∧fS i bs σ.b) QE (fun E' k'=>?_) ?_
   ·simp only[bJ,↓Xn,↓Xo,↓Xg,↓Xd,↓Xe,↓Xf,Tryz.VΓ,Tryz.Γs,Xp,Xi,Nat.reduceAdd,Nat.reduceSub,Nat.reduceLT,Nat.reduceLeDiff,reduceIte,reduceCtorEq,Nat.reduceEqDiff,implies_true,forall_const,bI,di,beq_self_eq_true,bne_self_eq_false,Int.reduceBEq,Int.reduceBNe,Int.reduceLT,Int.reduceLE,nY,ad f0,ad f1]
    refine⟨⟨?_,?_⟩,?_⟩;all_goals
     refine ae (gG EC id i1 hx QA hN HD) ?_;rintro r b4 ⟨b3',Nk,mJ,A1,L4,q1,rfl,hA10,hA11,jK,jI,ED,CV,sb⟩;have o6:=hx.low;have g1:=sb.at ((mJ (b2.length+1) fun n e=>by have:=o6 _ n e;omega).trans (show _=some (.cells [.int .i64 P.kind,.str P.text,.str P.host,.int .i64 P.port] 73 true) from by first|exact f1|exact ad f1 _)) QA;have hy':=hy.after xO mJ sb QA;have Nf:=hy.lt;have EA:=(KY.dul Nk mJ (fun q n e=>by have:=o6 q n e;omega)).trans sb;refine gA g1 ?_;refine ae (gG CV P iP hy' QA hM hMs) ?_;rintro r b5 ⟨b4',Bb,r8,A2,L5,q2,rfl,MK,MJ,p7,jZ,wP,sM,nV⟩;have hbq1':=nV.at ((r8 q1 fun n e=>by have:=Nf _ n e;omega).trans jI) (by have:=EC.il;omega);have ha1:=fF A1;have ha2:=fF A2;have vk:=(EA.dul Bb r8 (fun q n e=>by have:=hy'.low q n e;omega)).trans nV;refine gA (zUs hbq1' (zUs jZ (zUs ha1 ha2))) ?_;have hil':=EC.il;have hSl:=KY.1;have h5l:=vk.1;refine⟨⟨pS A2,by unfold maxLen;omega,QA⟩,A1++A2,L5,b5.length,QB,QC,QC,h5l,?_,?_,(sM.set QA hbq1' _).app _,(vk.ic QA _).app _⟩
     ·rw[show b5.length=(b5.set q1 .gone).length by simp,aM];simp
     ·intro a ha
      rcases zUM.1 ha with ha|ha
      ·exact ED a ha
      ·exact wP a ha
   ·rintro⟨tt,bb⟩ ⟨h2,A,L',q,h3,mH,E7,hq,cM,rp,hD,hK⟩
    simp only at h2 h3 cM hD hK;refine gA (zUs h2 h3) ?_;exact⟨s,A,L',q,rfl,hs,mH,E7,hq,cM,rp,hD,hK⟩
  ·refine gA (zUs w1 (zUs w2 (zUs w3 w4))) ?_
   have hx:E9 b3 (b2.length+2) (.o (b2.length+2) 1) [P.text]:=.inr ⟨_,rfl,QA,f2⟩;have hN:([P.text]:List Bytes).length≤8:=by simp
   have HD:=bF P iP;have hy:E9 b3 (b2.length+2) (.o (b2.length+3) 1) [id.text]:=.inr ⟨_,rfl,QA,f3⟩;have hM:([id.text]:List Bytes).length≤8:=by simp
   have hMs:=bF id i1;have xO:∀ q n m,SV.o (b2.length+2) 1=.o q n→SV.o (b2.length+3) 1=.o q m→False:=fun q n m h1 h2=>by cases h1;injection h2 with h2;omega
   have EC:=wO;have KY:=yp;refine lT (fun σ=>lk 2 σ.t=some (.str s)∧∃ (A:List jD) (L':List Int) (q:Nat),lk 3 σ.t=some (.o q A.length)∧0<A.length∧A.length≤60∧bs.length≤q∧σ.b[q]? = some (.own (A.flatMap ac) 33 7 A.length true)∧(∀ a∈A,rG a)∧bg σ.b i L'∧fS i bs σ.b) QE (fun E' k'=>?_) ?_
   ·simp only[bJ,↓Xn,↓Xo,↓Xg,↓Xd,↓Xe,↓Xf,Tryz.VΓ,Tryz.Γs,Xp,Xi,Nat.reduceAdd,Nat.reduceSub,Nat.reduceLT,Nat.reduceLeDiff,reduceIte,reduceCtorEq,Nat.reduceEqDiff,implies_true,forall_const,bI,di,beq_self_eq_true,bne_self_eq_false,Int.reduceBEq,Int.reduceBNe,Int.reduceLT,Int.reduceLE,nY,f0,f1]
    refine⟨⟨?_,?_⟩,?_⟩;all_goals
     refine ae (gG EC id i1 hx QA hN HD) ?_;rintro r b4 ⟨b3',Nk,mJ,A1,L4,q1,rfl,hA10,hA11,jK,jI,ED,CV,sb⟩;have o6:=hx.low;have g1:=sb.at ((mJ (b2.length+1) fun n e=>by have:=o6 _ n e;omega).trans (show _=some (.cells [.int .i64 P.kind,.str P.text,.str P.host,.int .i64 P.port] 73 true) from by first|exact f1|exact ad f1 _)) QA;have hy':=hy.after xO mJ sb QA;have Nf:=hy.lt;have EA:=(KY.dul Nk mJ (fun q n e=>by have:=o6 q n e;omega)).trans sb;refine gA g1 ?_;refine ae (gG CV P iP hy' QA hM hMs) ?_;rintro r b5 ⟨b4',Bb,r8,A2,L5,q2,rfl,MK,MJ,p7,jZ,wP,sM,nV⟩;have hbq1':=nV.at ((r8 q1 fun n e=>by have:=Nf _ n e;omega).trans jI) (by have:=EC.il;omega);have ha1:=fF A1;have ha2:=fF A2;have vk:=(EA.dul Bb r8 (fun q n e=>by have:=hy'.low q n e;omega)).trans nV;refine gA (zUs hbq1' (zUs jZ (zUs ha1 ha2))) ?_;have hil':=EC.il;have hSl:=KY.1;have h5l:=vk.1;refine⟨⟨pS A2,by unfold maxLen;omega,QA⟩,A1++A2,L5,b5.length,QB,QC,QC,h5l,?_,?_,(sM.set QA hbq1' _).app _,(vk.ic QA _).app _⟩
     ·rw[show b5.length=(b5.set q1 .gone).length by simp,aM];simp
     ·intro a ha
      rcases zUM.1 ha with ha|ha
      ·exact ED a ha
      ·exact wP a ha
   ·rintro⟨tt,bb⟩ ⟨h2,A,L',q,h3,mH,E7,hq,cM,rp,hD,hK⟩
    simp only at h2 h3 cM hD hK;refine gA (zUs h2 h3) ?_;exact⟨s,A,L',q,rfl,hs,mH,E7,hq,cM,rp,hD,hK⟩
theorem NZ (L:List Int)(n:Nat):(L.flatMap DE).take (n * 1)=(L.take n).flatMap DE:=by
 induction L generalizing n with
 | nil=>simp
 | cons a L ih =>
   cases n with
   | zero=>simp
   | succ n =>
     rw[List.take_succ_cons,zUH,zUH,← ih];rfl
end Go.Proofs.YtnmlimehgifadaaGreatDoor
namespace Vc
open Go.Proofs.YtnmlimehgifadaaGreatDoor
open Go Vc Go.RowKit Wf
theorem Kp.after {bs b1 b2:List aq}{k:Nat}(h:Kp bs b1)(hE:fS k b1 b2)(hk:bs.length≤k):Kp bs b2:=⟨Nat.le_trans h.1 hE.1,fun q hq=>(hE.2 q (Nat.lt_of_lt_of_le hq h.1) QA).trans (h.2 q hq)⟩
end Vc
namespace Go.Proofs.YtnmlimehgifadaaGreatDoor
open Go Vc Go.RowKit Wf
theorem sc_New {bs:List aq}{j:Nat}{L:List Int}(hj:bs[j]? = some (.own (L.flatMap DE) 5 1 L.length false))(hr:∀ r∈L,0≤r∧r≤255)(hL:L.length≤9223372036854775807):SC QH 10 [.o j L.length] bs (fun r b=>∃ k L',r=.p k 0∧bs.length≤k∧Kp bs b∧bg b k L'):=by
 have e9:=(zUu.1 hj).1;refine bp 3000 func10 rfl ntmps10 results10 call10 QB (af bs.length _ (by simp[within,within.av,e9])) ?_;refine gA hj ?_;obtain⟨n,hn,tF⟩:∃ n:Nat,(if (200:Int)<L.length then 200 else(L.length:Int))=n∧n≤L.length:=by
  split
  ·exact⟨200,rfl,QA⟩
  ·exact⟨_,rfl,zUG _⟩
 rw[hn,Int.toNat_natCast,NZ];refine⟨⟨QA,QA⟩,bs.length+1,L.take n,rfl,QA,(Kp.refl bs).app _,.o bs.length n,aY bs _ 1,.inr ⟨bs.length,by simp[tF],QA,?_⟩,fun r h=>hr r (List.mem_of_mem_take h)⟩;rw[aM];simp[tF]
theorem IW {bs:List aq}{j:Nat}{L:List Int}(hj:bs[j]? = some (.own (L.flatMap DE) 5 1 L.length false))(hr:∀ r∈L,0≤r∧r≤255)(hL:L.length≤9223372036854775807)(n:Int)(hn:0≤n∧n≤255):SC QH 15 [.o j L.length,.int .u8 n] bs (fun r b=>∃ (A:List jD) (q:Nat) (u:bN),r=.eh [.o q A.length,.agg (uc u)]∧0<A.length∧A.length≤60∧bs.length≤q∧b[q]? = some (.own (A.flatMap ac) 33 7 A.length true)∧(∀ a∈A,rG a)∧Small u∧Kp bs b):=by
 have e9:=(zUu.1 hj).1;refine bp 3000 func15 rfl ntmps15 results15 call15 QB (af bs.length _ (by simp[within,within.av,e9])) ?_;refine dY ?_;refine ae (sc_New (ad hj _) hr hL) ?_;rintro r b1 ⟨k,L1,rfl,hk,cV,BV⟩;have jX:Kp bs b1:=((Kp.refl bs).app _).trans cV;have hu1:=cV.at (aM bs _);replace hk:bs.length+1≤k:=by simpa using hk
 refine dY ?_;refine ae (NW BV) ?_;rintro r b2 ⟨s,A,L2,q,rfl,hs,mH,E7,hq,cM,rp,MI,bS⟩;have eA:Kp bs b2:=jX.after bS (Nat.le_of_succ_le hk);have E3:=bS.at hu1 QA;have Pq:=jX.1;replace hq:b1.length≤q:=hq;have vf:=eA.1;have p7:=(zUu.1 cM).1;have hA2:((A.length:Int)==0)=false:=beq_eq_false_iff_ne.2 QA;obtain⟨m,hm,hml⟩:∃ m:Nat,j0 .rem .i64 (IntKind.i64.wrap n) A.length=m∧m<A.length:=by
  have hw:IntKind.i64.wrap n=n:=by simp[IntKind.wrap,IntKind.bits,IntKind.signed];omega
  have h:j0 .rem .i64 n A.length=n % A.length:=Int.tmod_eq_emod_of_nonneg hn.1;have h1:=Int.emod_nonneg n (show (A.length:Int)≠0 by omega);have h2:=Int.emod_lt_of_pos n (show (0:Int)<A.length by omega);rw[hw,h];exact⟨(n % A.length).toNat,QA,QA⟩
 have iO:List.take 7 (List.drop (m * 7) (A.flatMap ac))=[.str A[m].host,.int .i64 A[m].port,.str A[m].target,.str A[m].raw,.int .i64 A[m].fail,.int .u64 A[m].since,.int .u64 A[m].Lq]:=Lh A m hml;have hal:=fF A;obtain⟨a1,a2,a3,a4,a5,-⟩:=rp A[m] (List.getElem_mem hml);have pP:=lW (([104,116,116,112,115,58,47,47]:List UInt8)++A[m].host++A[m].target);have hP:=qO (([104,116,116,112,115,58,47,47]:List UInt8)++A[m].host++A[m].target);simp only[zUF,zUE,List.append_assoc]at pP hP;generalize A[m]=a at iO a1 a2 a3 a4 a5 pP hP;generalize bz _=z at pP hP;obtain⟨u,e⟩:=z;unfold cA at pP;simp only at pP hP;refine gA (zUs hA2 (zUs cM (zUs hm (zUs Int.toNat_natCast (zUs iO (zUs (ad E3) hal)))))) ?_;refine⟨QA,⟨QA,QA⟩,QA,QA,QA,?_⟩;have mI:=(zUu.1 E3).1;have eU:∀ (l:List aq) X,(b2++l).set bs.length X=b2.set bs.length X++l:=fun l X=>aQ mI l X
 have hgs:=fun X l=>bV mI X l
 (refine aa (pP) ?_;refine gA (zUs (ad E3) (zUs eU hgs)) ?_)
 have hu3:Small ⟨u.host,a.port,u.path,u.query,u.fragment,u.aJ,u.a8⟩:=⟨hP.1,a4,a5⟩;refine⟨?_,A,q,_,rfl,mH,E7,QA,ad (aw cM (by rintro rfl;have:=(zUu.1 (cV.at (aM bs _))).1;omega) _) _,rp,hu3,(eA.set QA _).app _⟩;refine bt (fun n=>if n=bs.length then 0 else 1) ?_;have z:(b2.length+1=bs.length)=False:=eq_false QA;simp only[zUI,zUJ,cz,dW,reduceIte,z];exact ao QE
def EY (bs:List aq)(T:(Int × Int × List (Bytes × Bytes)) × Int × Int)(r:SV)(b:List aq):Prop :=
 Kp bs b∧∃ x,r=.eh [.agg [.int .i64 T.1.1,.int .i64 T.1.2.1,x],.int .i64 T.2.1,.int .i64 T.2.2]∧mB 100 2 bs.length x b (T.1.2.2.flatMap fc) T.1.2.2.length
theorem EY.err {bs b:List aq}{T:(Int × Int × List (Bytes × Bytes)) × Int × Int}{e:Int}(hT:T=((0,0,[]),0,e))(hk:Kp bs b):EY bs T (.eh [.agg [.int .i64 0,.int .i64 0,.ai],.int .i64 0,.int .i64 e]) b:=by
 subst hT;exact⟨hk,.ai,rfl,.inl ⟨rfl,rfl,rfl⟩⟩
def boxed (σ:St)(i:Nat):Nat:=match σ.b[i]? with
 | some (.cells [.str r,.bool true] _ _)=>r.length+1
 | _=>0
theorem Bn {bs:List aq}(s:Bytes)(hs:s.length≤4000000):SC QH 108 [.str s] bs (EY bs (bL s)):=by
 have ht:s.take (if (16384:Int)<(s.length:Int) then(16384:Int) else s.length).toNat=s.take 16384:=by
  split
  ·rfl
  ·rw[List.take_of_length_le QA,List.take_of_length_le QA]
 have p1:=Oq (s.take 16384) [13,10,13,10] QC;have uZ:=Lib.index_ge (s.take 16384) [13,10,13,10];have jG:=ie (s.take 16384) [13,10,13,10];rw[List.length_take]at jG;generalize hT:bL s=T;unfold bL at hT;generalize Lib.index (s.take 16384) [13,10,13,10]=n at p1 uZ jG hT;simp only[zUx,zUw]at jG;have e1:n<0→T=((0,0,[]),0,if 16384<s.length then 142 else 191):=fun h=>by rw[← hT,if_pos h]
 have e2:¬ n<0→T=_:=fun h=>by rw[← hT,if_neg h]
 clear hT;refine bp 3000 func108 rfl ntmps108 results108 call108 QB (af bs.length _ (by simp[within,within.av])) ?_;refine iC ?_;refine⟨by split <;> omega,?_⟩;rw[ht]
 (refine aa (p1) ?_;refine iC ?_)
 have kD:=(Kp.refl bs).app [.cells [.int .i64 0,.int .i64 0,.ai] 48 true];refine⟨fun q1=>?_,fun q1=>?_⟩
 ·have q1:=of_decide_eq_true q1
  have e1:=e1 q1;refine⟨fun q2=>EY.err (by rw[e1,if_pos (by have:=of_decide_eq_true q2;omega)]) kD,fun q2=>⟨fun _=>EY.err (by rw[e1,if_neg (by have:=of_decide_eq_false q2;omega)]) kD,fun q3=>absurd q1 (of_decide_eq_false q3)⟩⟩
 have q1:=of_decide_eq_false q1;have e2:=e2 q1;clear e1;have tT:=jG QA;refine⟨fun h=>absurd (of_decide_eq_true h) q1,fun _=>⟨⟨QA,QA⟩,?_⟩⟩;have hl0:(s.take n.toNat).length≤s.length:=by simp;omega
 have fY:=AI (s.take n.toNat) [13,10];have E5:=fun h=>EM (r:=s.take n.toNat) (p:=[13,10]) h
 have Aq:=fun h=>EL (r:=s.take n.toNat) (p:=[13,10]) h
 have p2:=Bz (Lib.cut (s.take n.toNat) [13,10]).1 QA;refine ae (sB (aB _ _) QA) ?_;rintro r b ⟨rfl,rfl⟩;generalize Lib.cut (s.take n.toNat) [13,10]=c at p2 e2 fY E5 Aq ⊢;obtain⟨line,rest,more⟩:=c;simp only[zUx,zUw]at p2 e2 fY E5 Aq ⊢;generalize lN line=st at p2 e2;cases st with
 | none =>
   unfold Lv at p2;simp only at e2 p2;refine iC ?_
   (refine aa (p2) ?_;refine iC ?_)
   exact EY.err e2 ((kD.app _).app _)
 | some mk =>
   obtain⟨m0,k0⟩:=mk;unfold Lv at p2;simp only at e2 p2;refine iC ?_
   (refine aa (p2) ?_;refine iC ?_)
   have G6:rest.length+(if more=true then 2 else 1)≤s.length+1:=by
    cases more
    ·have:=Aq rfl
     subst this;simp
    ·have:=E5 rfl;simp;omega
   have hr4:rest.length≤4000000:=by
    cases more
    ·rw[Aq rfl];simp
    ·have:=E5 rfl;omega
   generalize hG:fQ (s.length+1) rest more []=G at e2;have dJ:(bs++[aq.cells [.int .i64 0,.int .i64 0,.ai] 48 true]).length=bs.length+1:=by simp
   have hih:(bs++[aq.cells [.int .i64 0,.int .i64 0,.ai] 48 true]++[aq.cells [.str rest,.bool more] 212 true]).length=bs.length+2:=by simp
   have b0:(bs++[aq.cells [.int .i64 0,.int .i64 0,.ai] 48 true]++[aq.cells [.str rest,.bool more] 212 true]++[aq.cells [.int .i64 m0,.int .i64 k0,.ai] 48 true])[bs.length]? = some (.cells [.int .i64 0,.int .i64 0,.ai] 48 true):=ad (ad (aB _ _) _) _;have b1:(bs++[aq.cells [.int .i64 0,.int .i64 0,.ai] 48 true]++[aq.cells [.str rest,.bool more] 212 true]++[aq.cells [.int .i64 m0,.int .i64 k0,.ai] 48 true])[bs.length+1]? = some (.cells [.str rest,.bool more] 212 true):=by
    rw[← dJ];exact ad (aB _ _) _
   have b2:(bs++[aq.cells [.int .i64 0,.int .i64 0,.ai] 48 true]++[aq.cells [.str rest,.bool more] 212 true]++[aq.cells [.int .i64 m0,.int .i64 k0,.ai] 48 true])[bs.length+2]? = some (.cells [.int .i64 m0,.int .i64 k0,.ai] 48 true):=by
    rw[← hih];exact aB _ _
   rw[dJ,hih];refine ax (fun σ=>∃ (rest:Bytes) (more:Bool) (fs:List (Bytes × Bytes)) (x:SV) (F:Nat),
    lk 2 σ.t=some (.p bs.length 0)∧lk 5 σ.t=some (.int .i64 n)∧lk 6 σ.t=some (.p (bs.length+1) 0)∧lk 7 σ.t=some (.p (bs.length+2) 0) ∧
    σ.b[bs.length]? = some (.cells [.int .i64 0,.int .i64 0,.ai] 48 true)∧σ.b[bs.length+1]? = some (.cells [.str rest,.bool more] 212 true)∧σ.b[bs.length+2]? = some (.cells [.int .i64 m0,.int .i64 k0,x] 48 true) ∧
    Kp bs σ.b∧mB 100 2 bs.length x σ.b (fs.flatMap fc) fs.length∧fs.length≤64∧rest.length≤4000000∧rest.length+(if more=true then 2 else 1)≤F∧fQ F rest more fs=G) (fun σ=>boxed σ (bs.length+1))
    ⟨rest,more,[],.ai,s.length+1,rfl,rfl,rfl,rfl,b0,b1,b2,(kD.app _).app _,.inl ⟨rfl,rfl,rfl⟩,QB,hr4,G6,hG⟩ ?_
   clear b0 b1 b2 dJ hih G6 hr4 hG fY E5 Aq p1 p2;rintro⟨t,b⟩ ⟨rest,more,fs,x,F,g2,g5,g6,g7,b0,b1,b2,bm,fH,h64,hr4,hF,hG⟩;simp only at g2 g5 g6 g7 b0 b1 b2 bm fH;have jF:bs.length+2<b.length:=(zUu.1 b2).1;cases more
   ·obtain⟨F,rfl⟩:∃ f,F=f+1:=⟨F - 1,by simp at hF;omega⟩
    rw[tI]at hG;rw[← hG]at e2;simp only[if_true]at e2;have s0:∀ X,(b.set bs.length X)[bs.length]? = some X:=fun X=>zUv QA
    have ho:Vc.one x=true:=by rcases fH with⟨rfl,-⟩|⟨j,rfl,-⟩ <;> rfl
    refine gB (zUs g2 (zUs g5 (zUs g6 (zUs g7 (zUs b0 (zUs b1 (zUs b2 s0))))))) ?_;refine⟨⟨QA,QA⟩,ho,bm.set (zUG _) _,x,by rw[e2],?_⟩;rw[e2];rcases fH with h|⟨j,rfl,hl,mG,hj⟩
    ·exact .inl h
    ·exact .inr ⟨j,rfl,hl,mG,by rw[zUt (by rintro rfl;rw[b0]at hj;cases hj)];exact hj⟩
   ·obtain⟨F,rfl⟩:∃ f,F=f+1:=⟨F - 1,by simp at hF;omega⟩
    simp only[if_true]at hF;have cF:=EK rest [13,10];have BR:=fun h=>EM (r:=rest) (p:=[13,10]) h
    have Hz:=fun h=>EL (r:=rest) (p:=[13,10]) h
    have nx:=sB b1 QA;have CR:=fun h=>rm F rest (fs:=fs) h
    have dc:=fun h=>tJ F (r:=rest) (fs:=fs) h
    have dQ:=fun h x=>rh F (r:=rest) (fs:=fs) h (x:=x)
    rw[hG]at CR dc dQ;generalize Lib.cut rest [13,10]=c at nx cF BR Hz dc dQ;obtain⟨line,rest',more'⟩:=c;simp only[zUx,zUw]at nx cF BR Hz dc dQ;have d1:=Ky line 58 QA;have vJ:lh line=if (aL 58 line).2.2&&oh (aL 58 line).1&&fB (aL 58 line).2.1 then some (lower (aL 58 line).1,trimB (aL 58 line).2.1) else none:=rfl
    have jV:=HV 58 line;generalize aL 58 line=q at d1 vJ jV;obtain⟨key,v,ok⟩:=q;simp only at d1 vJ jV;rw[vJ]at dc dQ;have d2:=Gt key QA;have d3:=uK v QA;have d4:=yx key QA;have d5:=Ec v QA;have s0:∀ X,(b.set bs.length X)[bs.length]? = some X:=fun X=>zUv QA
    have hF':rest'.length+(if more'=true then 2 else 1)≤F:=by
     cases more'
     ·rw[Hz rfl];simp;omega
     ·have:=BR rfl;simp;omega
    have hms:boxed ⟨t,b⟩ (bs.length+1)=rest.length+1:=by unfold boxed;simp only[b1]
    rw[hms];have hme:∀ σ:St,σ.b[bs.length+1]? = some (.cells [.str rest',.bool more'] 212 true)→boxed σ (bs.length+1)<rest.length+1:=by
     rintro⟨t',b'⟩ h;unfold boxed;simp only at h ⊢;rw[h];cases more'
     ·simp
     ·have:=BR rfl;simp;omega
    generalize hbb:b.set (bs.length+1) (.cells [.str rest',.bool more'] 212 true)=bb at nx;have c0:bb[bs.length]? = some (.cells [.int .i64 0,.int .i64 0,.ai] 48 true):=by rw[← hbb,zUt QA];exact b0
    have c1:bb[bs.length+1]? = some (.cells [.str rest',.bool more'] 212 true):=by rw[← hbb,zUv QA]
    have c2:bb[bs.length+2]? = some (.cells [.int .i64 m0,.int .i64 k0,x] 48 true):=by rw[← hbb,zUt QA];exact b2
    have cl:bb.length=b.length:=by rw[← hbb];simp
    have ckp:Kp bs bb:=by rw[← hbb];exact bm.set QA _
    have t0:∀ X,(bb.set bs.length X)[bs.length]? = some X:=fun X=>zUv QA
    rcases fH with⟨rfl,hc,hl⟩|⟨j,rfl,hl,mG,hj⟩
    ·obtain rfl:fs=[]:=zUL.1 hl
     have dc:=dc QB;have dQ:=dQ QB;refine gB (zUs g2 (zUs g5 (zUs g6 (zUs g7 (zUs b0 (zUs b1 b2)))))) ?_;refine ae nx ?_;rintro r b' ⟨rfl,rfl⟩;have u0:=fun X=>ad c0 [X]
     have u1:=fun X=>ad c1 [X]
     have u2:=fun X=>ad c2 [X]
     refine gB (zUs g2 (zUs g5 (zUs g6 (zUs g7 (zUs c0 (zUs c1 c2)))))) ?_;have zz:G=([],180)→EY bs T (.eh [.agg [.int .i64 0,.int .i64 0,.ai],.int .i64 0,.int .i64 180]) (b'.set bs.length (.cells [.int .i64 0,.int .i64 0,.ai] 48 true)):=fun h=>EY.err (by rw[e2,h];rfl) (ckp.set (zUG _) _)
     cases ok
     ·(refine aa (d1) ?_;refine gB (zUs g2 (zUs g5 (zUs g6 (zUs g7 (zUs c0 (zUs c1 (zUs c2 (zUs t0 (zUs zUy zUA))))))))) ?_)
      exact zz (dc rfl)
     ·generalize hn:oh key=nb at d2 dc dQ
      cases nb
      ·(refine aa (d1) ?_;refine gB (zUs g2 (zUs g5 (zUs g6 (zUs g7 (zUs c0 (zUs c1 (zUs c2 (zUs t0 (zUs zUy zUA))))))))) ?_)
       (refine aa (d2) ?_;refine gB (zUs g2 (zUs g5 (zUs g6 (zUs g7 (zUs c0 (zUs c1 (zUs c2 (zUs t0 (zUs zUy zUA))))))))) ?_)
       exact zz (dc rfl)
      ·generalize hv:fB v=vb at d3 dc dQ
       cases vb
       ·(refine aa (d1) ?_;refine gB (zUs g2 (zUs g5 (zUs g6 (zUs g7 (zUs c0 (zUs c1 (zUs c2 (zUs t0 (zUs zUy zUA))))))))) ?_)
        (refine aa (d2) ?_;refine gB (zUs g2 (zUs g5 (zUs g6 (zUs g7 (zUs c0 (zUs c1 (zUs c2 (zUs t0 (zUs zUy zUA))))))))) ?_)
        (refine aa (d3) ?_;refine gB (zUs g2 (zUs g5 (zUs g6 (zUs g7 (zUs c0 (zUs c1 (zUs c2 (zUs t0 (zUs zUy zUA))))))))) ?_)
        exact zz (dc rfl)
       ·have dQ:=dQ _ rfl
        (refine aa (d1) ?_;refine gB (zUs g2 (zUs g5 (zUs g6 (zUs g7 (zUs c0 (zUs c1 (zUs c2 (zUs t0 (zUs zUy zUA))))))))) ?_)
        (refine aa (d2) ?_;refine gB (zUs g2 (zUs g5 (zUs g6 (zUs g7 (zUs c0 (zUs c1 (zUs c2 (zUs t0 (zUs zUy zUA))))))))) ?_)
        (refine aa (d3) ?_;refine gB (zUs g2 (zUs g5 (zUs g6 (zUs g7 (zUs c0 (zUs c1 (zUs c2 (zUs t0 (zUs zUy zUA))))))))) ?_)
        (refine aW (d4) ?_;refine gB (zUs g2 (zUs g5 (zUs g6 (zUs g7 (zUs c0 (zUs c1 (zUs c2 (zUs t0 (zUs u0 (zUs u1 u2)))))))))) ?_)
        have v0:∀ X Y Z,((b'++[X]++[Y]).set (bs.length+2) Z)[bs.length]? = some (.cells [.int .i64 0,.int .i64 0,.ai] 48 true):=fun X Y Z=>by rw[zUt QA];exact ad (ad c0 _) _
        have v1:∀ X Y Z,((b'++[X]++[Y]).set (bs.length+2) Z)[bs.length+1]? = some (.cells [.str rest',.bool more'] 212 true):=fun X Y Z=>by rw[zUt QA];exact ad (ad c1 _) _
        have v2:∀ X Y,(b'++[X]++[Y])[bs.length+2]? = some (.cells [.int .i64 m0,.int .i64 k0,.ai] 48 true):=fun X Y=>ad (ad c2 _) _
        have v3:∀ X Y Z,((b'++[X]++[Y]).set (bs.length+2) Z)[bs.length+2]? = some Z:=fun X Y Z=>zUv QC
        have z1:(b'.length=bs.length+2)=False:=by simp;omega
        have z2:∀ X,((b'++[X]).length=bs.length+2)=False:=fun X=>QC
        (refine aW (d5) ?_;refine gB (zUs g2 (zUs g5 (zUs g6 (zUs g7 (zUs c0 (zUs c1 (zUs c2 (zUs t0 (zUs u0 (zUs u1 (zUs u2 v2))))))))))) ?_)
        refine⟨QA,⟨by unfold maxLen;omega,QA⟩,(by
         refine bt (fun n=>if n=bs.length+2 then 0 else 1) ?_;simp only[zUI,zUJ,cz,dW,reduceIte,z1,z2];exact ao QE),?_⟩
        refine⟨⟨rest',more',[(lower key,trimB v)],_,F,v0 _ _ _,v1 _ _ _,v3 _ _ _,((ckp.app _).app _).set QA _,?_,QB,QA,hF',dQ.symm⟩,hme _ (v1 _ _ _)⟩;exact .inr ⟨_,rfl,QB,QC,by rw[zUt QC,aB];rfl⟩
    ·have hjn:j≠bs.length+1:=by rintro rfl;rw[b1]at hj;cases hj
     have cj:bb[j]? = some (.own (fs.flatMap fc) 100 2 fs.length true):=by rw[← hbb,zUt QA];exact hj
     refine gB (zUs g2 (zUs g5 (zUs g6 (zUs g7 (zUs b0 (zUs b1 (zUs b2 (zUs hj s0)))))))) ?_;refine⟨fun h=>EY.err (by rw[e2,CR (by have:=of_decide_eq_true h;omega)];rfl) (bm.set (zUG _) _),fun h=>?_⟩;have h65:¬ 64≤fs.length:=by have:=of_decide_eq_false h;omega
     have dc:=dc h65;have dQ:=dQ h65;have ld:=Av fs;refine ae nx ?_;rintro r b' ⟨rfl,rfl⟩;have u0:=fun X=>ad c0 [X]
     have u1:=fun X=>ad c1 [X]
     have u2:=fun X=>ad c2 [X]
     have uj:=fun X=>ad cj [X]
     refine gB (zUs g2 (zUs g5 (zUs g6 (zUs g7 (zUs c0 (zUs c1 (zUs c2 cj))))))) ?_;have zz:G=([],180)→EY bs T (.eh [.agg [.int .i64 0,.int .i64 0,.ai],.int .i64 0,.int .i64 180]) (b'.set bs.length (.cells [.int .i64 0,.int .i64 0,.ai] 48 true)):=fun h=>EY.err (by rw[e2,h];rfl) (ckp.set (zUG _) _)
     cases ok
     ·(refine aa (d1) ?_;refine gB (zUs g2 (zUs g5 (zUs g6 (zUs g7 (zUs c0 (zUs c1 (zUs c2 (zUs t0 (zUs zUy zUA))))))))) ?_)
      exact zz (dc rfl)
     ·generalize hn:oh key=nb at d2 dc dQ
      cases nb
      ·(refine aa (d1) ?_;refine gB (zUs g2 (zUs g5 (zUs g6 (zUs g7 (zUs c0 (zUs c1 (zUs c2 (zUs t0 (zUs zUy zUA))))))))) ?_)
       (refine aa (d2) ?_;refine gB (zUs g2 (zUs g5 (zUs g6 (zUs g7 (zUs c0 (zUs c1 (zUs c2 (zUs t0 (zUs zUy zUA))))))))) ?_)
       exact zz (dc rfl)
      ·generalize hv:fB v=vb at d3 dc dQ
       cases vb
       ·(refine aa (d1) ?_;refine gB (zUs g2 (zUs g5 (zUs g6 (zUs g7 (zUs c0 (zUs c1 (zUs c2 (zUs t0 (zUs zUy zUA))))))))) ?_)
        (refine aa (d2) ?_;refine gB (zUs g2 (zUs g5 (zUs g6 (zUs g7 (zUs c0 (zUs c1 (zUs c2 (zUs t0 (zUs zUy zUA))))))))) ?_)
        (refine aa (d3) ?_;refine gB (zUs g2 (zUs g5 (zUs g6 (zUs g7 (zUs c0 (zUs c1 (zUs c2 (zUs t0 (zUs zUy zUA))))))))) ?_)
        exact zz (dc rfl)
       ·have dQ:=dQ _ rfl
        (refine aa (d1) ?_;refine gB (zUs g2 (zUs g5 (zUs g6 (zUs g7 (zUs c0 (zUs c1 (zUs c2 (zUs t0 (zUs zUy zUA))))))))) ?_)
        (refine aa (d2) ?_;refine gB (zUs g2 (zUs g5 (zUs g6 (zUs g7 (zUs c0 (zUs c1 (zUs c2 (zUs t0 (zUs zUy zUA))))))))) ?_)
        (refine aa (d3) ?_;refine gB (zUs g2 (zUs g5 (zUs g6 (zUs g7 (zUs c0 (zUs c1 (zUs c2 (zUs cj (zUs t0 (zUs zUy zUA)))))))))) ?_)
        (refine aW (d4) ?_;refine gB (zUs g2 (zUs g5 (zUs g6 (zUs g7 (zUs c0 (zUs c1 (zUs c2 (zUs cj (zUs t0 (zUs u0 (zUs u1 (zUs u2 uj)))))))))))) ?_)
        have hjn2:j≠bs.length+2:=by rintro rfl;rw[c2]at cj;cases cj
        have hjn0:j≠bs.length:=by rintro rfl;rw[c0]at cj;cases cj
        have e9:j<b'.length:=(zUu.1 cj).1;have v0:∀ X Y Z,(((b'++[X]).set j .gone++[Y]).set (bs.length+2) Z)[bs.length]? = some (.cells [.int .i64 0,.int .i64 0,.ai] 48 true):=fun X Y Z=>by
         rw[zUt QA,List.getElem?_append_left QC,zUt QA];exact ad c0 _
        have v1:∀ X Y Z,(((b'++[X]).set j .gone++[Y]).set (bs.length+2) Z)[bs.length+1]? = some (.cells [.str rest',.bool more'] 212 true):=fun X Y Z=>by
         rw[zUt QA,List.getElem?_append_left QC,zUt QA];exact ad c1 _
        have v2:∀ X Y,((b'++[X]).set j .gone++[Y])[bs.length+2]? = some (.cells [.int .i64 m0,.int .i64 k0,.o j fs.length] 48 true):=fun X Y=>by
         rw[List.getElem?_append_left QC,zUt QA];exact ad c2 _
        have v3:∀ X Y Z,(((b'++[X]).set j .gone++[Y]).set (bs.length+2) Z)[bs.length+2]? = some Z:=fun X Y Z=>zUv QC
        have v4:∀ X Y Z A,(((b'++[X]).set j .gone++[Y]).set (bs.length+2) Z)[(b'++[A]).length]? = some Y:=fun X Y Z A=>by
         rw[zUt QC,show (b'++[A]).length=((b'++[X]).set j .gone).length by simp];exact aB _ _
        have z1:(b'.length=bs.length+2)=False:=by simp;omega
        have z2:∀ X,((b'++[X]).length=bs.length+2)=False:=fun X=>QC
        have z3:(j=bs.length+2)=False:=by simp;omega
        (refine aW (d5) ?_;refine gB (zUs g2 (zUs g5 (zUs g6 (zUs g7 (zUs c0 (zUs c1 (zUs c2 (zUs cj (zUs t0 (zUs u0 (zUs u1 (zUs u2 (zUs uj v2))))))))))))) ?_)
        refine⟨QA,⟨by unfold maxLen;omega,QA⟩,(by
         refine bt (fun n=>if n=bs.length+2 then 0 else 1) ?_;simp only[zUI,zUJ,cz,dW,reduceIte,z1,z2,z3];exact ao QE),?_⟩
        refine⟨⟨rest',more',fs++[(lower key,trimB v)],_,F,v0 _ _ _,v1 _ _ _,v3 _ _ _,(((ckp.app _).set mG _).app _).set QA _,?_,QC,QA,hF',dQ.symm⟩,hme _ (v1 _ _ _)⟩;have u3:(fs++[(lower key,trimB v)]).length=fs.length+1:=by simp
        rw[u3];exact .inr ⟨_,rfl,QA,QC,by rw[v4,List.flatMap_append];rfl⟩
def cR (r:fJ)(xf xt:SV):List SV:=uc r.url++[.int .i64 r.minor,.int .i64 r.status,xf,.str r.body,xt]
def ec (t:bN × Int × Int):List SV:=uc t.1++[.int .i64 t.2.1,.int .i64 t.2.2]
theorem ec_at (L:List (bN × Int × Int))(k:Nat)(h:k<L.length):((L.flatMap ec).drop (k * 9)).take 9=ec L[k]:=mQ ec 9 (fun _=>rfl) L k h
theorem PX (L:List (bN × Int × Int)):(L.flatMap ec).length=L.length * 9:=jq ec 9 (fun _=>rfl) L
def cB (f:fb)(xs xt xf:SV):List SV:=uc f.next++[.int .i64 f.dj,.bool f.done,.int .i64 f.err]++cR f.fC xf xt++[xs]
theorem mB.dv {e s L i:Nat}{x:SV}{b:List aq}{c cs:List SV}{n T:Nat}{m:Bool}(h:mB e s L x b c n)(hi:b[i]? = some (.cells cs T m))(Z:aq):mB e s L x (b.set i Z) c n:=by
 rcases h with h|⟨j,h1,h0,h2,h3⟩
 ·exact .inl h
 ·exact .inr ⟨j,h1,h0,h2,by rw[zUt (by rintro rfl;rw[hi]at h3;cases h3)];exact h3⟩
theorem mB.app {e s L:Nat}{x:SV}{b:List aq}{c:List SV}{n:Nat}(h:mB e s L x b c n)(X:List aq):mB e s L x (b++X) c n:=h.kp ((Kp.refl b).app X)
theorem Lg {L:List jD}{u:bN}{now:Int}{M:Nat}(h:∀ a∈L,a.raw.length≤M):(bH L u now).1.length≤M:=by
 unfold bH;split
 ·simp
 ·unfold nz
  cases hf:L.find? (im u.host u.port (bK u) now) with
  | none=>simp
  | some a =>
    have:=h a (List.mem_of_find?_eq_some hf)
    simp only;unfold qf;repeat' split
    all_goals first|exact this|simp
theorem Bp {bs:List aq}{x:SV}{fs:List (Bytes × Bytes)}(hx:Sx 100 2 x bs (fs.flatMap fc) fs.length)(hn:fs.length≤64)(hl:cF fs≤16384)(a st:Int)(rest:Bytes)(most:Int)(hr:rest.length≤4000000)(tU:-9223372036854775808≤most)(CS:most≤9223372036854775807) :
 SC QH 109 [.agg [.int .i64 a,.int .i64 st,x],.str rest,.int .i64 most] bs (fun r b=>r=.eh [.str (fw st fs rest most).1,.int .i64 (fw st fs rest most).2]∧Kp bs b):=by
 have h1:=rP fs so;have h2:=rP fs tQ;have h3:∀ f∈fs,f.1.length≤9223372036854775807:=fun f hf=>by have:=q7 f hf;omega
 rcases hx with⟨rfl,hc,h0⟩|⟨j,m,rfl,h0,hj⟩
 ·obtain rfl:fs=[]:=zUL.1 h0
  refine oQ (args':=[.agg [.int .i64 a,.int .i64 st,.o bs.length 0],.str rest,.int .i64 most]) (e:=100) (s:=2) (m:=false) ((uA (fs:=[]) (m:=false) (aB _ _) QB h3 a st rest most hr tU CS QA QA).mono fun r b h=>⟨h.1,Kp.rI h.2⟩) (fun β=>?_);simp[aZ,aj,qh,oV]
 ·exact uA hj QA h3 a st rest most hr tU CS QA QA
theorem FI {bs:List aq}{j:Nat}{L:List jD}{m:Bool}(hj:bs[j]? = some (.own (L.flatMap ac) 33 7 L.length m))(hL:L.length≤1000000)(hr:∀ a∈L,a.raw.length≤4000000)(now:Int)(u:bN)(hu:Fair u) :
 SC QH 51 [.o j L.length,.int .u64 now,.agg (uc u)] bs (fun r b=>Kp bs b∧∃ x,r=.eh [.agg (cR (bO L now u).1 x .ai),.int .i64 (bO L now u).2.1,.int .i64 (bO L now u).2.2]∧mB 100 2 bs.length x b ((bO L now u).1.fields.flatMap fc) (bO L now u).1.fields.length):=by
 have e9:j<bs.length:=(zUu.1 hj).1;have dJ:Vc.within.av bs.length (uc u)=true:=by simp[uc,within,within.av]
 have hra:=Lg (u:=u) (now:=now) hr;refine bp 3000 func51 rfl ntmps51 results51 call51 QB (af bs.length _ (by simp[within,within.av,e9,dJ])) ?_;have s1:=fun X Y=>cY (by simp[flat,flat.ah]) (Dr (bs:=bs++[X]++[Y]) (ad (ad hj _) _) QA u hu now)
 generalize hT:bO L now u=T;unfold bO at hT;unfold cA at s1;generalize bH L u now=A at s1 hra hT;obtain⟨raw,e⟩:=A;simp only at s1 hra hT;have gz:=lf raw;have sh:=fun X Y=>Bn (bs:=bs++[X]++[Y]) raw hra
 generalize bL raw=H at gz sh hT;obtain⟨⟨m0,st,fs⟩,n,e2⟩:=H;simp only at gz sh hT;unfold uc;refine iC ?_;have hn6:(bs++[aq.cells [.str u.host,.int .i64 u.port,.str u.path,.str u.query,.str u.fragment,.bool u.aJ,.bool u.a8] 35 true]).length=bs.length+1:=by simp
 have t0:∀ X Y Z,((bs++[X]++[Y]).set (bs.length+1) Z)[bs.length+1]? = some Z:=fun X Y Z=>zUv QB
 have t00:∀ X Y,(bs++[X]++[Y])[bs.length+1]? = some Y:=fun X Y=>by
  have:=aB (bs++[X]) Y
  rwa [show (bs++[X]).length=bs.length+1 by simp]at this
 refine ae (s1 _ _) ?_;rintro r b ⟨rfl,rfl⟩;rw[hn6];refine gB (zUs t0 t00) ?_;refine⟨fun q=>?_,fun q=>?_⟩
 ·have q:e≠0:=by simpa using q
  rw[if_pos q]at hT;subst hT;exact⟨((((Kp.refl bs).app _).app _).set QA _),.ai,rfl,.inl ⟨rfl,rfl,rfl⟩⟩
 have q:e=0:=by simpa using q
 rw[if_neg QA]at hT;refine ae (sh _ _) ?_;rintro r b ⟨hk,x,rfl,fH⟩;replace fH:=fH.low (L':=bs.length) QB;have k5:=hk.at (ad (aB _ _) _);have k6:=hk.at (aB _ _);rw[hn6]at k6;have gp:=(((Kp.refl bs).app _).app _).trans hk;have jF:bs.length+1<b.length:=(zUu.1 k6).1;have t1:∀ Z,(b.set (bs.length+1) Z)[bs.length+1]? = some Z:=fun Z=>zUv jF
 simp only at fH;have u5:=fun X=>ad k5 [X]
 have u6:=fun X=>ad k6 [X]
 have v5:=fun X Y=>ad (u5 X) [Y]
 have v6:=fun X Y=>ad (u6 X) [Y]
 have t2:∀ X Z,((b++[X]).set (bs.length+1) Z)[bs.length+1]? = some Z:=fun X Z=>zUv QC
 have t3:∀ X Y Z,((b++[X]++[Y]).set (bs.length+1) Z)[bs.length+1]? = some Z:=fun X Y Z=>zUv QC
 have p2:=zs st;have ho:Vc.one x=true:=by rcases fH with⟨rfl,-⟩|⟨j,rfl,-⟩ <;> rfl
 refine gB (zUs t1 (zUs k5 (zUs k6 (zUs u5 (zUs u6 (zUs t2 (zUs @v5 (zUs v6 t3)))))))) ?_;refine⟨ho,fun q=>?_,fun q=>?_⟩
 ·have q:e2≠0:=by simpa using q
  rw[if_pos q]at hT;subst hT;exact⟨(gp.app _).set QA _,.ai,rfl,.inl ⟨rfl,rfl,rfl⟩⟩
 have q:e2=0:=by simpa using q
 rw[if_neg QA]at hT;generalize Ep:fZ st=rd at p2 hT;have w1:∀ X X' Y,(b++[X]++[Y])[(b++[X']).length]? = some Y:=fun X X' Y=>by
  rw[show (b++[X']).length=(b++[X]).length by simp];exact aB _ _
 have w2:∀ X,((b++[X]).length=bs.length+1)=False:=fun X=>QC
 have w0:(b.length=bs.length+1)=False:=by simp;omega
 refine⟨ho,?_⟩;cases rd
 ·have s3:=fun X Y=>cY (by simp[flat,flat.ah]) (Bp (bs:=b++[X]++[Y]) ((fH.sx.app _).app _) gz.1 gz.2.1 m0 st (raw.drop n.toNat) 1048576 QC QA QA)
  generalize fw st fs (raw.drop n.toNat) 1048576=B at s3 hT;obtain⟨bd,e3⟩:=B;simp only at s3;have w3:∀ X X' Y Z,((b++[X]++[Y]).set (b++[X']).length Z)[(b++[X']).length]? = some Z:=fun X X' Y Z=>zUv QB
  have w4:∀ X X' Y Z,((b++[X]++[Y]).set (b++[X']).length Z)[bs.length+1]? = some (.cells [.str [],.int .i64 0,.str [],.str [],.str [],.bool false,.bool false,.int .i64 0,.int .i64 0,.ai,.str [],.ai] 51 true):=fun X X' Y Z=>by
   rw[zUt QC];exact v6 _ _
  have w5:∀ X X' Y Z W,(((b++[X]++[Y]).set (b++[X']).length Z).set (bs.length+1) W)[bs.length+1]? = some W:=fun X X' Y Z W=>zUv QC
  (refine aa (p2) ?_;refine gB (zUs u5 (zUs u6 (zUs @v5 (zUs v6 (zUs t3 (zUs w1 zUA)))))) ?_)
  refine⟨⟨QA,QA⟩,?_⟩;refine bE [] (s3 _ _) (fun _ _ _=>rfl) ?_;refine gB (zUs u5 (zUs u6 (zUs @v5 (zUs v6 (zUs t3 (zUs w1 (zUs w3 (zUs w4 w5)))))))) ?_;have w6:∀ X,((b++[X]).length=b.length)=False:=fun X=>QB
  simp only[zUz,if_false]at hT;subst hT;exact⟨(by
   refine bt (fun n=>if n=b.length then 0 else 1) ?_;simp only[zUI,zUJ,cz,dW,reduceIte,w6];exact ao QE),ho,(by
   refine bt (fun n=>if n=bs.length+1 then 0 else 1) ?_;simp only[zUI,zUJ,cz,dW,reduceIte,w2,w0];exact ao QE),((gp.app _).app _).set QA _,x,rfl,((fH.app _).app _).dv (v6 _ _) _⟩
 ·(refine aa (p2) ?_;refine gB (zUs u5 (zUs u6 (zUs @v5 (zUs v6 (zUs t3 (zUs w1 zUy)))))) ?_)
  simp only[if_true]at hT;subst hT;subst q;exact⟨ho,(by
   refine bt (fun n=>if n=bs.length+1 then 0 else 1) ?_;simp only[zUI,zUJ,cz,dW,reduceIte,w2,w0];exact ao QE),((gp.app _).app _).set QA _,x,rfl,((fH.app _).app _).dv (v6 _ _) _⟩
theorem ec_flat (L:List (bN × Int × Int)):flat.ah (L.flatMap ec)=true:=by
 induction L with
 | nil=>rfl
 | cons a L ih=>rw[zUH];simp[ec,uc,flat.ah,flat,ih]
theorem ec_one (L:List (bN × Int × Int)):(L.flatMap ec).all Vc.one=true:=by
 induction L with
 | nil=>rfl
 | cons a L ih=>rw[zUH,List.all_append,ih];rfl
theorem uc_flat (L:List bN):flat.ah (L.flatMap uc)=true:=by
 induction L with
 | nil=>rfl
 | cons a L ih=>rw[zUH];simp[uc,flat.ah,flat,ih]
theorem uc_one (L:List bN):(L.flatMap uc).all Vc.one=true:=by
 induction L with
 | nil=>rfl
 | cons a L ih=>rw[zUH,List.all_append,ih];rfl
theorem fc_flat (L:List (Bytes × Bytes)):flat.ah (L.flatMap fc)=true:=by
 induction L with
 | nil=>rfl
 | cons a L ih=>rw[zUH];simp[fc,flat.ah,flat,ih]
theorem NI (e s:Nat)(bs:List aq)(c:List SV)(n:Nat):Kp bs (qD e s bs c n):=by
 unfold qD;split
 ·exact Kp.refl _
 ·exact(Kp.refl _).app _
theorem tidy_sl (e s:Nat)(bs:List aq)(c:List SV)(n:Nat)(h:n=0→c=[]):mB e s bs.length (lI bs n) (qD e s bs c n) c n:=by
 unfold lI qD;by_cases hn:n=0
 ·rw[if_pos hn,if_pos hn];exact .inl ⟨rfl,h hn,hn⟩
 ·rw[if_neg hn,if_neg hn];exact .inr ⟨_,rfl,QA,zUG _,aB _ _⟩
theorem Sx.dv {e s i:Nat}{x:SV}{b:List aq}{c cs:List SV}{n T:Nat}{m:Bool}(h:Sx e s x b c n)(hi:b[i]? = some (.cells cs T m))(Z:aq):Sx e s x (b.set i Z) c n:=by
 rcases h with h|⟨j,m',h1,h0,h3⟩
 ·exact .inl h
 ·exact .inr ⟨j,m',h1,h0,by rw[zUt (by rintro rfl;rw[hi]at h3;cases h3)];exact h3⟩
theorem IK {V:Cx}{f:FuncId}{args:List SV}{bs:List aq}{e s n:Nat}{c:List SV}(h0:n=0→c=[])(h:SC V f args bs (fun r b=>r=lI bs n∧b=qD e s bs c n)):SC V f args bs (fun r b=>Kp bs b∧mB e s bs.length r b c n) :=
 h.mono fun r b ⟨h1,h2⟩=>by subst h1 h2;exact⟨NI _ _ _ _ _,tidy_sl _ _ _ _ _ h0⟩
theorem mB.one {e s L:Nat}{x:SV}{b:List aq}{c:List SV}{n:Nat}(h:mB e s L x b c n):Vc.one x=true:=by rcases h with⟨rfl,-⟩|⟨j,rfl,-⟩ <;> rfl
theorem mB.cells {e s L:Nat}{x:SV}{b:List aq}{c:List SV}{n:Nat}(h:mB e s L x b c n):Vc.cells x=[x]:=by rcases h with⟨rfl,-⟩|⟨j,rfl,-⟩ <;> rfl
theorem PI {ρ:Type}(cl:ρ→List SV)(L:List ρ)(h:L.length=0):L.flatMap cl=[]:=by rw[zUL.1 h];rfl
theorem LF {bs:List aq}(f:fb){xs xt xf:SV}(hs:Sx 35 7 xs bs (f.seen.flatMap uc) f.seen.length)(ht:Sx 62 9 xt bs (f.trace.flatMap ec) f.trace.length)(hf:Sx 100 2 xf bs (f.fC.fields.flatMap fc) f.fC.fields.length)
 (l1:f.seen.length≤1000) (l2:f.trace.length≤1000) (l3:f.fC.fields.length≤1000) :
 SC QH 50 [.agg (cB f xs xt xf)] bs (fun r b=>Kp bs b∧∃ ys yt yf,r=.agg (cB f ys yt yf)∧mB 35 7 bs.length ys b (f.seen.flatMap uc) f.seen.length∧mB 62 9 bs.length yt b (f.trace.flatMap ec) f.trace.length∧mB 100 2 bs.length yf b (f.fC.fields.flatMap fc) f.fC.fields.length):=by
 have jE:=hs.within;have gQ:=ht.within;have Mk:=hf.within;have dJ:Vc.within.av bs.length (cB f xs xt xf)=true:=by simp[cB,cR,uc,within,within.av,jE,gQ,Mk]
 have k1:=ID f.seen;have k2:=PX f.trace;have k3:=Aw f.fC.fields;refine bp 3000 func50 rfl ntmps50 results50 call50 QB (af bs.length _ (by simp[within,within.av,dJ])) ?_;have c1:=fun(B:List aq) (h:Sx 35 7 xs B (f.seen.flatMap uc) f.seen.length)=>IK (PI uc f.seen) (LH h (uc_flat _) (uc_one _) k1 QA)
 have c2:=fun(B:List aq) (h:Sx 62 9 xt B (f.trace.flatMap ec) f.trace.length)=>IK (PI ec f.trace) (LJ h (ec_flat _) (ec_one _) k2 QA)
 have c3:=fun(B:List aq) (h:Sx 100 2 xf B (f.fC.fields.flatMap fc) f.fC.fields.length)=>IK (PI fc f.fC.fields) (LI h (fc_flat _) (Av _) k3 QA)
 generalize f.seen.flatMap uc=C1 at c1 hs ⊢;generalize f.trace.flatMap ec=C2 at c2 ht ⊢;generalize f.fC.fields.flatMap fc=C3 at c3 hf ⊢;generalize f.seen.length=N1 at c1 hs ⊢;generalize f.trace.length=N2 at c2 ht ⊢;generalize f.fC.fields.length=N3 at c3 hf ⊢;unfold cB cR uc;simp only[zUF,zUE];refine iC ?_;refine ae (c1 _ ((hs.app _).app _)) ?_;rintro ys b ⟨cV,qi⟩;replace qi:=qi.low (L':=bs.length) QB;have a0:=cV.at (ad (aB _ _) _);have a1:=cV.at (aB _ _);have kb1:=(((Kp.refl bs).app _).app _).trans cV;rw[show ∀ X:aq,(bs++[X]).length=bs.length+1 from fun X=>by simp]at a1 ⊢;have jF:bs.length+1<b.length:=(zUu.1 a1).1;have vI:=qi.one;have he1:=qi.cells;have t0:∀ X,(b.set bs.length X)[bs.length]? = some X:=fun X=>zUv QA
 simp only[bJ,↓Xn,↓Xo,↓Xg,↓Xd,↓Xe,↓Xf,Tryz.VΓ,Tryz.Γs,Xp,Xi,Nat.reduceAdd,Nat.reduceSub,Nat.reduceLT,Nat.reduceLeDiff,reduceIte,reduceCtorEq,Nat.reduceEqDiff,implies_true,forall_const,bI,kC,beq_self_eq_true,bne_self_eq_false,Int.reduceBEq,Int.reduceBNe,Int.reduceLT,Int.reduceLE,a0,a1,t0,vI,he1,zUF,zUE];refine ae (c2 _ (((ht.kp kb1)).dv a0 _)) ?_;rintro yt b2 ⟨bS,q9⟩;replace q9:=q9.low (L':=bs.length) QC;have a20:=bS.at (t0 _);have a21:=bS.at ((zUt QA).trans a1);have kb2:=(kb1.set (zUG _) _).trans bS;replace qi:=(qi.dv a0 _).kp bS;clear bS;have vf:bs.length+1<b2.length:=(zUu.1 a21).1;have p8:=q9.one;have he2:=q9.cells;have t20:∀ X,(b2.set bs.length X)[bs.length]? = some X:=fun X=>zUv QA
 simp only[bJ,↓Xn,↓Xo,↓Xg,↓Xd,↓Xe,↓Xf,Tryz.VΓ,Tryz.Γs,Xp,Xi,Nat.reduceAdd,Nat.reduceSub,Nat.reduceLT,Nat.reduceLeDiff,reduceIte,reduceCtorEq,Nat.reduceEqDiff,implies_true,forall_const,bI,kC,beq_self_eq_true,bne_self_eq_false,Int.reduceBEq,Int.reduceBNe,Int.reduceLT,Int.reduceLE,a20,a21,t20,p8,he2,zUF,zUE];refine ae (c3 _ (((hf.kp kb2)).dv a20 _)) ?_;rintro yf b3 ⟨eL,Ac⟩;replace Ac:=Ac.low (L':=bs.length) QC;have a30:=eL.at (t20 _);have a31:=eL.at ((zUt QA).trans a21);have kb3:=(kb2.set (zUG _) _).trans eL;replace qi:=(qi.dv a20 _).kp eL;replace q9:=(q9.dv a20 _).kp eL;clear eL;have hbl3:bs.length+1<b3.length:=(zUu.1 a31).1;have KR:=Ac.one;have Pe:=Ac.cells;have t30:∀ X,(b3.set bs.length X)[bs.length]? = some X:=fun X=>zUv QA
 have v31:=fun X=>(zUt (l:=b3) (i:=bs.length) (j:=bs.length+1) (a:=X) QA).trans a31
 have v32:∀ X Y,((b3.set bs.length X).set (bs.length+1) Y)[bs.length+1]? = some Y:=fun X Y=>zUv QC
 simp only[bJ,↓Xn,↓Xo,↓Xg,↓Xd,↓Xe,↓Xf,Tryz.VΓ,Tryz.Γs,Xp,Xi,Nat.reduceAdd,Nat.reduceSub,Nat.reduceLT,Nat.reduceLeDiff,reduceIte,reduceCtorEq,Nat.reduceEqDiff,implies_true,forall_const,bI,kC,beq_self_eq_true,bne_self_eq_false,Int.reduceBEq,Int.reduceBNe,Int.reduceLT,Int.reduceLE,a30,a31,t30,v31,v32,vI,p8,KR,Pe,zUF,zUE];exact⟨(kb3.set (zUG _) _).set QA _,ys,yt,yf,rfl,(qi.dv a30 _).dv (v31 _) _,(q9.dv a30 _).dv (v31 _) _,(Ac.dv a30 _).dv (v31 _) _⟩
theorem sP {n:Nat}{f:fb}{xs xt xf:SV}(h1:Vc.within n xs=true)(h2:Vc.within n xt=true)(h3:Vc.within n xf=true):Vc.within.av n (cB f xs xt xf)=true:=by simp[cB,cR,uc,within,within.av,h1,h2,h3]
theorem y9 {bs:List aq}(u:bN)(hu:Fair u) :
 SC QH 19 [.agg (uc u)] bs (fun r b=>Kp bs b∧∃ ys,r=.agg (cB (bD u) ys .ai .ai)∧mB 35 7 bs.length ys b ((bD u).seen.flatMap uc) (bD u).seen.length):=by
 have p1:=qP u hu;refine bp 3000 func19 rfl ntmps19 results19 call19 QB (af bs.length _ (by simp[within,within.av,uc])) ?_;unfold cA at p1;unfold uc;generalize hT:bD u=T;unfold bD at hT;cases hv:bX u
 ·rw[hv]at p1 hT
  simp only[if_true]at hT;refine iC ?_
  (refine aa (p1) ?_;refine gB zUA ?_)
  subst hT;exact⟨((Kp.refl _).app _).app _,.ai,rfl,.inl ⟨rfl,rfl,rfl⟩⟩
 ·rw[hv]at p1 hT
  simp only[zUB,if_false]at hT;refine iC ?_;have w1:∀ X X' Y Z,(bs++[X]++[Y]++[Z])[(bs++[X']).length]? = some Y:=fun X X' Y Z=>by
   rw[show (bs++[X']).length=(bs++[X]).length by simp];exact ad (aB _ _) _
  have w2:∀ X X' Y Z W,((bs++[X]++[Y]++[Z]).set (bs++[X']).length W)[(bs++[X']).length]? = some W:=fun X X' Y Z W=>zUv QB
  have w3:∀ X X' Y Z W A B,((bs++[X]++[Y]++[Z]).set (bs++[X']).length W)[(bs++[A]++[B]).length]? = some Z:=fun X X' Y Z W A B=>by
   rw[zUt QB,show (bs++[A]++[B]).length=(bs++[X]++[Y]).length by simp];exact aB _ _
  have z1:∀ X,((bs++[X]).length=bs.length)=False:=fun X=>QB
  have z2:∀ X Y,((bs++[X]++[Y]).length=bs.length)=False:=fun X Y=>QB
  (refine aa (p1) ?_;refine gB (zUs zUy (zUs w1 w2)) ?_)
  subst hT;exact⟨QA,((((Kp.refl _).app _).app _).app _).set QB _,_,rfl,.inr ⟨_,rfl,QB,QB,w3 _ _ _ _ _ _ _⟩⟩
def FsR (lo:Nat)(T:fb)(r:SV)(b:List aq):Prop:=∃ ys yt yf,r=.agg (cB T ys yt yf)∧mB 35 7 lo ys b (T.seen.flatMap uc) T.seen.length∧mB 62 9 lo yt b (T.trace.flatMap ec) T.trace.length∧mB 100 2 lo yf b (T.fC.fields.flatMap fc) T.fC.fields.length
theorem Lc {e s lo n:Nat}{x:SV}{b:List aq}{c:List SV}(h:mB e s lo x b c n):∃ D:aq→aq→List aq,∀ X Y,vq (b++[X]++[Y]) e s x=some (n,c,D X Y)∧(D X Y).length=b.length+2 ∧
 (∀ (k:Nat) r,(b++[X]++[Y])[k]? = some r→(∀ c' n' m',r≠.own c' e s n' m')→(D X Y)[k]? = some r)∧(∀ bs:List aq,bs.length=lo→Kp bs b→Kp bs (D X Y)):=by
 rcases h with⟨rfl,rfl,rfl⟩|⟨j,rfl,h0,hl,hj⟩
 ·exact⟨fun X Y=>b++[X]++[Y],fun X Y=>⟨rfl,QB,fun k r h _=>h,fun bs _ h=>(h.app _).app _⟩⟩
 ·refine⟨fun X Y=>(b++[X]++[Y]).set j .gone,fun X Y=>⟨by simp only[vq,ad (ad hj [X]) [Y],and_self,if_true],QB,fun k r h hn=>?_,fun bs hb h=>((h.app _).app _).set QA _⟩⟩
  rw[zUt]
  ·exact h
  ·rintro rfl
   rw[ad (ad hj [X]) [Y]]at h;exact hn _ _ _ (Option.some.inj h).symm
theorem mB.HY {e s lo n:Nat}{x:SV}{b:List aq}{c:List SV}(h:mB e s lo x b c n):Vc.HY x=false:=by
 rcases h with⟨rfl,-⟩|⟨j,rfl,-⟩ <;> rfl
theorem mB.via {e s lo n:Nat}{x:SV}{b b':List aq}{c:List SV}(h:mB e s lo x b c n)(k:∀ (k:Nat) r,b[k]? = some r→(∃ c' n' m',r=.own c' e s n' m')→b'[k]? = some r):mB e s lo x b' c n:=by
 rcases h with h|⟨j,h1,h0,h2,h3⟩
 ·exact .inl h
 ·exact .inr ⟨j,h1,h0,h2,k _ _ h3 ⟨_,_,_,rfl⟩⟩
theorem Sx.sq {e s n:Nat}{x:SV}{b:List aq}{c:List SV}(h:Sx e s x b c n):Sq e s x b c n:=by
 rcases h with h|⟨j,m,h1,h0,h3⟩
 ·exact .inl h
 ·exact .inr ⟨j,m,h1,h3⟩
theorem y6 {bs:List aq}{x:SV}{fs:List (Bytes × Bytes)}(hx:Sx 100 2 x bs (fs.flatMap fc) fs.length)(hn:fs.length≤64)(hl:cF fs≤16384)(a c:Int)
 {sn:SV} {L:List bN} (hi:Sx 35 7 sn bs (L.flatMap uc) L.length) (hL:L.length≤1000000) (u:bN) (fu:Fair u) (dj:Int) :
 SC QH 53 [cA u,.agg [.int .i64 a,.int .i64 c,x],sn,.int .i64 dj] bs (fun r b=>r=.eh [cA (bT u fs L dj).1,.int .i64 (bT u fs L dj).2]∧Kp bs b):=by
 have h3:∀ f∈fs,f.1.length≤9223372036854775807:=fun f hf=>by have:=q7 f hf;omega
 rcases hx with⟨rfl,hc,h0⟩|⟨j,m,rfl,h0,hj⟩
 ·obtain rfl:fs=[]:=zUL.1 h0
  refine oQ (args':=[cA u,.agg [.int .i64 a,.int .i64 c,.o bs.length 0],sn,.int .i64 dj]) (e:=100) (s:=2) (m:=false) ((sw (fs:=[]) (m:=false) (aB _ _) QB h3 a c (hi.app _).sq hL u fu dj).mono fun r b h=>⟨h.1,Kp.rI h.2⟩) (fun β=>?_);rcases hi with⟨rfl,-⟩|⟨j,m,rfl,-,hj⟩
  ·simp[aZ,aj,qh,oV,cA]
  ·have:=(zUu.1 hj).1
   simp[aZ,aj,qh,oV,cA,Nat.ne_of_lt this]
 ·exact sw hj QA h3 a c hi.sq hL u fu dj
theorem N8 (L:List jD)(now:Int)(u:bN):(bO L now u).1.fields.length≤64∧cF (bO L now u).1.fields≤16384:=by
 unfold bO;have:=lf (bH L u now).1
 have h0:fJ.none.fields.length≤64∧cF fJ.none.fields≤16384:=⟨by decide,by decide⟩;repeat' split
 ·exact h0
 ·exact h0
 ·exact⟨this.1,this.2.1⟩
 ·exact⟨this.1,this.2.1⟩
theorem Bo {bs:List aq}{j:Nat}{L:List jD}{m:Bool}(hj:bs[j]? = some (.own (L.flatMap ac) 33 7 L.length m))(hL:L.length≤1000000)(hr:∀ a∈L,a.raw.length≤4000000)(now:Int)(f:fb)(hu:f.done=false→Fair f.next)(hh:-9223372036854775808≤f.dj∧f.dj≤1000)
 {xs xt xf:SV} (hs:Sx 35 7 xs bs (f.seen.flatMap uc) f.seen.length) (ht:Sx 62 9 xt bs (f.trace.flatMap ec) f.trace.length) (hf:Sx 100 2 xf bs (f.fC.fields.flatMap fc) f.fC.fields.length)
 (l1:f.seen.length≤900) (l2:f.trace.length≤900) (l3:f.fC.fields.length≤900) :
 SC QH 20 [.o j L.length,.int .u64 now,.agg (cB f xs xt xf)] bs (fun r b=>Kp bs b∧FsR bs.length (bP L now f) r b):=by
 have e9:j<bs.length:=(zUu.1 hj).1;have dJ:=sP (f:=f) hs.within ht.within hf.within;have c1:=fun(B:List aq) h1 h2 h3=>LF (bs:=B) f (xs:=xs) (xt:=xt) (xf:=xf) h1 h2 h3 QA QA QA
 have r1:=fun(B:List aq) (h:B[j]? = some (.own (L.flatMap ac) 33 7 L.length m)) (q:f.done=false)=>FI h hL hr now f.next (hu q)
 generalize hT:bP L now f=T;unfold bP at hT;refine bp 3000 func20 rfl ntmps20 results20 call20 QB (af bs.length _ (by simp[within,within.av,e9,dJ])) ?_;unfold cB cR at c1 ⊢;unfold uc at c1 r1 ⊢;simp only[zUF,zUE]at c1 r1 ⊢;refine iC ?_;refine ae (c1 _ ((hs.app _).app _) ((ht.app _).app _) ((hf.app _).app _)) ?_;rintro r b ⟨hk,ys,yt,yf,rfl,qi,q9,Ac⟩;replace qi:=qi.low (L':=bs.length) QB;replace q9:=q9.low (L':=bs.length) QB;replace Ac:=Ac.low (L':=bs.length) QB;have a0:=hk.at (ad (aB _ _) _);have a1:=hk.at (aB _ _);have kb:=(((Kp.refl bs).app _).app _).trans hk;rw[show ∀ X:aq,(bs++[X]).length=bs.length+1 from fun X=>by simp]at a1 ⊢;clear hk c1;have jF:bs.length+1<b.length:=(zUu.1 a1).1;have vI:=qi.one;have p8:=q9.one;have KR:=Ac.one;have t0:∀ X,(b.set bs.length X)[bs.length]? = some X:=fun X=>zUv QA
 have v1:=fun X=>(zUt (l:=b) (i:=bs.length) (j:=bs.length+1) (a:=X) QA).trans a1
 have v2:∀ X Y,((b.set bs.length X).set (bs.length+1) Y)[bs.length+1]? = some Y:=fun X Y=>zUv QC
 refine gB (zUs a0 (zUs a1 (zUs t0 (zUs @v1 (zUs v2 (zUs vI (zUs p8 KR))))))) ?_;refine⟨fun q=>?_,fun q=>?_⟩
 ·rw[if_pos q]at hT
  subst hT;exact⟨(kb.set (zUG _) _).set QA _,ys,yt,yf,rfl,(qi.dv a0 _).dv (v1 _) _,(q9.dv a0 _).dv (v1 _) _,(Ac.dv a0 _).dv (v1 _) _⟩
 rw[if_neg (by rw[q];simp)]at hT;have hu:=hu q;refine ae (r1 _ ((kb.set (zUG _) _).at hj) q) ?_;rintro r b2 ⟨hk,x,rfl,Jz⟩;have b0:=hk.at (t0 _);have b1:=hk.at (v1 _);have kb2:=(kb.set (zUG _) _).trans hk;replace qi:=(qi.dv a0 _).kp hk;replace q9:=(q9.dv a0 _).kp hk;replace Jz:=Jz.low (L':=bs.length) QC;clear hk r1 t0 v1 v2 Ac KR;have hrs:=N8 L now f.next;have hru:=Cq L now f.next;generalize bO L now f.next=R at Jz hT hrs hru ⊢;obtain⟨R,st,e⟩:=R;simp only at Jz hT hrs hru ⊢;have vf:bs.length+1<b2.length:=(zUu.1 b1).1;have KR:=Jz.one;have p1:=zs st;unfold cR uc;simp only[zUF,zUE];obtain⟨D,hD⟩:=Lc q9;have hcb:=q9.HY;have hd:=fun X Y=>(hD X Y).1
 have nr:=fun X Y=>(hD X Y).2.1
 have d0:∀ X Y Z,(D X Y++[Z])[bs.length]? = _:=fun X Y Z=>ad ((hD X Y).2.2.1 _ _ (ad (ad b0 [X]) [Y]) QB) _
 have d1:∀ X Y Z,(D X Y++[Z])[bs.length+1]? = _:=fun X Y Z=>ad ((hD X Y).2.2.1 _ _ (ad (ad b1 [X]) [Y]) QB) _
 have t0:∀ X Y Z W,((D X Y++[Z]).set bs.length W)[bs.length]? = some W:=fun X Y Z W=>zUv (by simp[nr];omega)
 have c0:=fun X=>ad b0 [X]
 have c1:=fun X=>ad b1 [X]
 have cc0:=fun X Y=>ad (c0 X) [Y]
 refine gB (zUs b0 (zUs b1 (zUs c0 (zUs c1 (zUs t0 (zUs d0 (zUs d1 (zUs cc0 (zUs hd (zUs hcb (zUs vI (zUs p8 KR)))))))))))) ?_;have hnT:∀ X Y,(b2++[X]++[Y]).length=b2.length+2:=fun X Y=>QB
 rw[hnT];generalize hB:(D _ _++[_]).set bs.length _=B;have g0:=(congrArg (fun l=>l[bs.length]?) hB).symm.trans (t0 _ _ _ _);have g1:=(congrArg (fun l=>l[bs.length+1]?) hB).symm.trans ((zUt QA).trans (d1 _ _ _));have g2:=(congrArg (fun l=>l[b2.length]?) hB).symm.trans ((zUt QA).trans (ad ((hD _ _).2.2.1 _ _ (ad (aB _ _) _) QB) _));have d3:∀ X Y Z,(D X Y++[Z])[b2.length+2]? = some Z:=fun X Y Z=>by rw[← nr X Y];exact aB _ _
 have g3:=(congrArg (fun l=>l[b2.length+2]?) hB).symm.trans ((zUt QA).trans (d3 _ _ _));have gl:B.length=b2.length+3:=by rw[← hB];simp[nr]
 have gk:Kp bs B:=by rw[← hB];exact(((hD _ _).2.2.2 _ rfl kb2).app _).set (zUG _) _
 have s1:mB 35 7 bs.length ys B (f.seen.flatMap uc) f.seen.length:=by
  refine qi.via (fun k r hk ⟨c',n',m',hr⟩=>?_);subst hr;rw[← hB,zUt (by rintro rfl;rw[b0]at hk;cases hk)];exact ad ((hD _ _).2.2.1 _ _ (ad (ad hk _) _) QB) _
 have s2:mB 100 2 bs.length x B (R.fields.flatMap fc) R.fields.length:=by
  refine Jz.via (fun k r hk ⟨c',n',m',hr⟩=>?_);subst hr;rw[← hB,zUt (by rintro rfl;rw[b0]at hk;cases hk)];exact ad ((hD _ _).2.2.1 _ _ (ad (ad hk _) _) QB) _
 clear hB d0 d1 d3 t0 c0 c1 cc0 hd nr hD D b0 b1 qi q9 Jz a0 a1 kb jF;have hnq:bs.length+1<b2.length:=vf;have s00:∀ X,(B.set bs.length X)[bs.length]? = some X:=fun X=>zUv QA
 have s01:=fun X=>(zUt (l:=B) (i:=bs.length) (j:=bs.length+1) (a:=X) QA).trans g1
 have s02:=fun X=>(zUt (l:=B) (i:=bs.length) (j:=b2.length) (a:=X) QA).trans g2
 have s03:=fun X=>(zUt (l:=B) (i:=bs.length) (j:=b2.length+2) (a:=X) QA).trans g3
 have s11:∀ X Y,((B.set bs.length X).set (bs.length+1) Y)[bs.length+1]? = some Y:=fun X Y=>zUv QC
 have s13:=fun X Y=>(zUt (l:=B.set bs.length X) (i:=bs.length+1) (j:=b2.length+2) (a:=Y) QA).trans (s03 X)
 have p0:=fun X Y=>(zUt (l:=B.set bs.length X) (i:=b2.length) (j:=bs.length) (a:=Y) QA).trans (s00 X)
 have pq:∀ X Y,((B.set bs.length X).set b2.length Y)[b2.length]? = some Y:=fun X Y=>zUv QC
 have p01:=fun X Y=>(zUt (l:=B.set bs.length X) (i:=b2.length) (j:=bs.length+1) (a:=Y) QA).trans (s01 X)
 have p03:=fun X Y=>(zUt (l:=B.set bs.length X) (i:=b2.length) (j:=b2.length+2) (a:=Y) QA).trans (s03 X)
 have q00:∀ X Y Z,(((B.set bs.length X).set b2.length Y).set bs.length Z)[bs.length]? = some Z:=fun X Y Z=>zUv QC
 have q01:=fun X Y Z=>(zUt (l:=(B.set bs.length X).set b2.length Y) (i:=bs.length) (j:=bs.length+1) (a:=Z) QA).trans (p01 X Y)
 have q03:=fun X Y Z=>(zUt (l:=(B.set bs.length X).set b2.length Y) (i:=bs.length) (j:=b2.length+2) (a:=Z) QA).trans (p03 X Y)
 have q11:∀ X Y Z W,((((B.set bs.length X).set b2.length Y).set bs.length Z).set (bs.length+1) W)[bs.length+1]? = some W:=fun X Y Z W=>zUv QC
 have q13:=fun X Y Z W=>(zUt (l:=((B.set bs.length X).set b2.length Y).set bs.length Z) (i:=bs.length+1) (j:=b2.length+2) (a:=W) QA).trans (q03 X Y Z)
 have iO:f.trace.flatMap ec++ec (f.next,st,e)=(f.trace++[(f.next,st,e)]).flatMap ec:=by rw[List.flatMap_append];simp
 have BL:(f.trace++[(f.next,st,e)]).length=f.trace.length+1:=by simp
 have kE:∀ b',b'[b2.length+2]? = B[b2.length+2]? → mB 62 9 bs.length (.o (b2.length+2) (f.trace.length+1)) b' ((f.trace++[(f.next,st,e)]).flatMap ec) (f.trace++[(f.next,st,e)]).length:=fun b' h=>by
  rw[BL];exact .inr ⟨_,rfl,QA,QA,by rw[h,g3,← iO];rfl⟩
 refine⟨QA,⟨by unfold maxLen;omega,QA⟩,fun q1=>?_,fun q1=>?_⟩
 ·obtain rfl:e=0:=by simpa using q1
  simp only[true_and,ne_eq,not_true,if_false]at hT;refine aa p1 ?_;cases Ep:fZ st
  ·rw[Ep]at hT
   simp only[zUz,if_false]at hT;subst hT;simp only[bJ,↓Xn,↓Xo,↓Xg,↓Xd,↓Xe,↓Xf,Tryz.VΓ,Tryz.Γs,Xp,Xi,Nat.reduceAdd,Nat.reduceSub,Nat.reduceLT,Nat.reduceLeDiff,reduceIte,reduceCtorEq,Nat.reduceEqDiff,implies_true,forall_const,bI,kC,beq_self_eq_true,bne_self_eq_false,Int.reduceBEq,Int.reduceBNe,Int.reduceLT,Int.reduceLE,g0,g1,g2,g3,s00,s01,s02,s11,p0,pq,p01,q00,q01,q11,vI,p8,KR,List.set_set];exact⟨(((gk.set (zUG _) _).set QA _).set (zUG _) _).set QA _,ys,_,x,rfl,(((s1.dv g0 _).dv (s02 _) _).dv (p0 _ _) _).dv (q01 _ _ _) _,kE _ ((q13 _ _ _ _).trans g3.symm),(((s2.dv g0 _).dv (s02 _) _).dv (p0 _ _) _).dv (q01 _ _ _) _⟩
  ·rw[Ep]at hT
   simp only[if_true]at hT;have m0:=fun X=>ad g0 [X]
   have m1:=fun X=>ad g1 [X]
   have m2:=fun X=>ad g2 [X]
   have n1:=fun X=>cY (by simp[flat,flat.ah,cA]) (y6 (bs:=B++[X]) (s2.app _).sx hrs.1 hrs.2 R.minor R.status (s1.app _).sx QA f.next hu f.dj)
   generalize bT f.next R.fields f.seen f.dj=N at n1 hT;obtain⟨v,e3⟩:=N;simp only at n1 hT;unfold cA at n1;have m3:∀ X Y,((B++[X]).set B.length Y)[B.length]? = some Y:=fun X Y=>zUv QB
   have m4:∀ X Y,((B++[X]).set B.length Y)[bs.length]? = _:=fun X Y=>(zUt QA).trans (m0 X)
   have m5:∀ X Y,((B++[X]).set B.length Y)[bs.length+1]? = _:=fun X Y=>(zUt QA).trans (m1 X)
   refine gB (zUs g0 (zUs g1 (zUs g2 (zUs g3 (zUs m0 (zUs m1 (zUs m2 (zUs m3 (zUs m4 (zUs m5 (zUs vI (zUs p8 KR)))))))))))) ?_;have sa:∀ X Y,(B++[X]).set B.length Y=B++[Y]:=fun X Y=>QB
   have ma:∀ X,(B++[X])[B.length]? = some X:=fun X=>aB _ _
   refine ae (n1 _) ?_;rintro r b' ⟨rfl,rfl⟩;obtain⟨D,hD⟩:=Lc s1;have hcb:=s1.HY;have hd:=fun X Y=>(hD X Y).1
   have nr:=fun X Y=>(hD X Y).2.1
   have e0:∀ X Y Z,(D X Y++[Z])[bs.length]? = _:=fun X Y Z=>ad ((hD X Y).2.2.1 _ _ (ad (ad g0 [X]) [Y]) QB) _
   have e1:∀ X Y Z,(D X Y++[Z])[bs.length+1]? = _:=fun X Y Z=>ad ((hD X Y).2.2.1 _ _ (ad (ad g1 [X]) [Y]) QB) _
   have f0:∀ X Y Z W,((D X Y++[Z]).set bs.length W)[bs.length]? = some W:=fun X Y Z W=>zUv (by simp[nr];omega)
   have f1:=fun X Y Z W=>(zUt (l:=D X Y++[Z]) (i:=bs.length) (j:=bs.length+1) (a:=W) QA).trans (e1 X Y Z)
   have f2:∀ X Y Z W V,(((D X Y++[Z]).set bs.length W).set (bs.length+1) V)[bs.length+1]? = some V:=fun X Y Z W V=>zUv (by simp[nr];omega)
   have mm0:=fun X Y=>ad (m0 X) [Y]
   have u11:∀ X W V,(((B++[X]).set bs.length W).set (bs.length+1) V)[bs.length+1]? = some V:=fun X W V=>zUv QC
   have u10:∀ X W,((B++[X]).set bs.length W)[bs.length]? = some W:=fun X W=>zUv QC
   have u01:=fun X W=>(zUt (l:=B++[X]) (i:=bs.length) (j:=bs.length+1) (a:=W) QA).trans (m1 X)
   simp only[bJ,↓Xn,↓Xo,↓Xg,↓Xd,↓Xe,↓Xf,Tryz.VΓ,Tryz.Γs,Xp,Xi,Nat.reduceAdd,Nat.reduceSub,Nat.reduceLT,Nat.reduceLeDiff,reduceIte,reduceCtorEq,Nat.reduceEqDiff,implies_true,forall_const,bI,kC,beq_self_eq_true,bne_self_eq_false,Int.reduceBEq,Int.reduceBNe,Int.reduceLT,Int.reduceLE,g0,g1,g2,g3,m0,m1,m2,ma,sa,mm0,e0,e1,f0,f1,f2,u11,u10,u01,hd,hcb,vI,p8,KR,List.set_set];have z1:(B.length=bs.length)=False:=by simp;omega
   have z2:∀ X,((B++[X]).length=bs.length)=False:=fun X=>QC
   have z3:∀ X Y,((B++[X]++[Y]).length=bs.length)=False:=fun X Y=>QC
   have z4:∀ X,((B++[X]).length=B.length)=False:=fun X=>QB
   have z5:∀ X Y,((B++[X]++[Y]).length=B.length)=False:=fun X Y=>QB
   refine⟨fun q3=>⟨QA,⟨by unfold maxLen;omega,QA⟩,⟨QA,QA⟩,?_,?_,?_⟩,fun q3=>?_⟩
   ·refine bt (fun n=>if n=bs.length then 0 else if n=B.length then 1 else 2) ?_
    rcases s1 with⟨rfl,-⟩|⟨jj,rfl,-,-,hjj⟩
    ·simp only[idxs,zUI,zUJ,cz,dW,reduceIte,z1,z2,z3,z4,z5]
     exact ao QE
    ·have z6:(jj=bs.length)=False:=by
      simp only[eq_iff_iff,iff_false];rintro rfl;rw[g0]at hjj;cases hjj
     have z7:(jj=B.length)=False:=by
      have:=(zUu.1 hjj).1
      simp only[eq_iff_iff,iff_false];omega
     simp only[idxs,zUI,zUJ,cz,dW,reduceIte,z1,z2,z3,z4,z5,z6,z7];exact ao QE
   ·exact((((hD _ _).2.2.2 _ rfl gk).app _).set (zUG _) _).set QA _
   ·obtain rfl:e3=0:=by simpa using q3
    rw[if_pos rfl]at hT;subst hT;have hy:∀ X Y Z W V X' Y',(((D X Y++[Z]).set bs.length W).set (bs.length+1) V)[(B++[X']++[Y']).length]? = some Z:=fun X Y Z W V X' Y'=>by
     have e:(B++[X']++[Y']).length=(D X Y).length:=by rw[nr];simp
     rw[e,zUt (by rw[nr];omega),zUt (by rw[nr];omega)];exact aB _ _
    have hz:∀ X Y Z W V,(((D X Y++[Z]).set bs.length W).set (bs.length+1) V)[b2.length+2]? = B[b2.length+2]? := fun X Y Z W V=>by
     rw[zUt QA,zUt QA,g3];exact ad ((hD X Y).2.2.1 _ _ (ad (ad g3 _) _) QB) _
    refine⟨_,_,.ai,by rw[q];rfl,?_,kE _ (hz _ _ _ _ _),.inl ⟨rfl,rfl,rfl⟩⟩;rw[show (f.seen++[v]).length=f.seen.length+1 by simp];exact .inr ⟨_,rfl,QA,QC,by rw[hy,List.flatMap_append];simp[uc]⟩
   ·have q3:e3≠0:=by simpa using q3
    rw[if_neg q3]at hT;subst hT;have hz:∀ X W V,(((B++[X]).set bs.length W).set (bs.length+1) V)[b2.length+2]? = B[b2.length+2]? := fun X W V=>by
     rw[zUt QA,zUt QA,g3];exact ad g3 _
    exact⟨fun _=>⟨((gk.app _).set (zUG _) _).set QA _,ys,_,.ai,rfl,((s1.app _).dv (m0 _) _).dv (u01 _ _) _,kE _ (hz _ _ _),.inl ⟨rfl,rfl,rfl⟩⟩,fun h=>absurd h (by simpa using q3)⟩
 ·have q1:e≠0:=by simpa using q1
  rw[if_neg (fun h=>q1 h.1),if_pos q1]at hT;subst hT;simp only[bJ,↓Xn,↓Xo,↓Xg,↓Xd,↓Xe,↓Xf,Tryz.VΓ,Tryz.Γs,Xp,Xi,Nat.reduceAdd,Nat.reduceSub,Nat.reduceLT,Nat.reduceLeDiff,reduceIte,reduceCtorEq,Nat.reduceEqDiff,implies_true,forall_const,bI,kC,beq_self_eq_true,bne_self_eq_false,Int.reduceBEq,Int.reduceBNe,Int.reduceLT,Int.reduceLE,g0,g1,g2,g3,s00,s01,s02,s11,p0,pq,p01,q00,q01,q11,vI,p8,KR,List.set_set];exact⟨fun _=>⟨(gk.set (zUG _) _).set QA _,ys,_,.ai,rfl,(s1.dv g0 _).dv (s01 _) _,kE _ ((s13 _ _).trans g3.symm),.inl ⟨rfl,rfl,rfl⟩⟩,fun h=>absurd h (by simpa using q1)⟩
theorem M4 {u:bN}(hc:fT u):Fair u:=by
 have h1:=cS hc.host;have h2:=iV u;have h3:=hc.len;have h4:u.query.length≤4096:=by
  cases hq:u.aJ
  ·rw[hc.noq hq];simp
  ·have:=h2.2.1 hq;omega
 have h5:u.fragment.length≤4096:=by
  cases hq:u.a8
  ·rw[hc.nof hq];simp
  ·have:=h2.2.2 hq;omega
 exact⟨QA,QA,QA⟩
theorem F0 (L:List jD)(now:Int){u:bN}{k:Nat}(h:(aA L now u k).done=false):k≤5∧Fair (aA L now u k).next∧(aA L now u k).dj=k∧(aA L now u k).seen.length=k+1∧(aA L now u k).trace.length=k∧(aA L now u k).fC=fJ.none:=by
 cases hv:bX u with
 | false =>
   have h0:(aA L now u 0).done=true:=by unfold aA bD;rw[if_pos hv]
   rw[j3 L now u h0 k QA,h0]at h;cases h
 | true =>
   rcases AY L now hv k with⟨h1,h2⟩|⟨k',h1,h2,-,-⟩
   ·have h3:=h1.le
    refine⟨QA,M4 (rH (h1.valid _ (by rw[h1.seen];simp))),by rw[h1.dj,h2],?_,h2,h1.fC⟩;rw[h1.seen];simp[h2]
   ·rw[j3 L now u h2.done k h1,h2.done]at h
    cases h
theorem F1 (L:List jD)(now:Int){u:bN}{k:Nat}(hk:k≤6)(h:(aA L now u k).done=true):aA L now u k=aA L now u 6:=(j3 L now u h 6 hk).symm
def runM (i:Nat)(σ:St):Nat:=match σ.b[i]? with
 | some (.cells c _ _)=>match c[7]?,c[8]? with
   | some (SV.int _ h),some (SV.bool false)=>7 - h.toNat
   | _,_=>0
 | _=>0
theorem oS {bs:List aq}{j:Nat}{L:List jD}{m:Bool}(hj:bs[j]? = some (.own (L.flatMap ac) 33 7 L.length m))(hL:L.length≤1000000)(hr:∀ a∈L,a.raw.length≤4000000)(now:Int)(u:bN)(hu:Fair u) :
 SC QH 16 [.o j L.length,.int .u64 now,.agg (uc u)] bs (fun r b=>Kp bs b∧∃ yt yf,r=.eh [.agg (cR (aA L now u 6).fC yf yt),.int .i64 (aA L now u 6).err]∧mB 62 9 bs.length yt b ((aA L now u 6).trace.flatMap ec) (aA L now u 6).trace.length∧mB 100 2 bs.length yf b ((aA L now u 6).fC.fields.flatMap fc) (aA L now u 6).fC.fields.length):=by
 have e9:j<bs.length:=(zUu.1 hj).1;have s1:=fun X Y=>y9 (bs:=bs++[X]++[Y]) u hu
 refine bp 3000 func16 rfl ntmps16 results16 call16 QB (af bs.length _ (by simp[within,within.av,e9,uc])) ?_;have mH:aA L now u 0=bD u:=rfl;have KZ:∀ k,aA L now u (k+1)=bP L now (aA L now u k):=fun _=>rfl
 have ro:=fun k=>F0 L now (u:=u) (k:=k)
 have rl:=fun k=>F1 L now (u:=u) (k:=k)
 generalize aA L now u=A at mH KZ ro rl ⊢;generalize hF:A 6=F;unfold uc at s1 ⊢;refine iC ?_;refine ae (s1 _ _) ?_;rintro r b ⟨hk,ys,rfl,fH⟩;replace fH:=fH.low (L':=bs.length) QB;have a1:=hk.at (aB _ _);have kb:=(((Kp.refl bs).app _).app _).trans hk;rw[show ∀ X:aq,(bs++[X]).length=bs.length+1 from fun X=>by simp]at a1 ⊢;have jF:bs.length+1<b.length:=(zUu.1 a1).1;clear hk s1;have vI:=fH.one;unfold cB cR uc;simp only[zUF,zUE];refine gB vI ?_;have jg:(bD u).trace=[]∧(bD u).fC=fJ.none:=by unfold bD;split <;> exact⟨rfl,rfl⟩
 have u1:=fun X=>ad a1 [X]
 have jV:bs.length+2≤b.length:=jF;have b8:=fun X=>aB b X
 have kbx:=fun X=>kb.app [X]
 have hsx:=fun X=>fH.app [X]
 generalize hq:b.length=q at b8 jV ⊢;refine ax (fun σ=>∃ (k:Nat) (xs xt xf:SV),k≤6∧lk 0 σ.t=some (.o j L.length)∧lk 1 σ.t=some (.int .u64 now)∧lk 6 σ.t=some (.p (bs.length+1) 0)∧lk 8 σ.t=some (.p q 0) ∧
  σ.b[bs.length+1]? = some (.cells [.str [],.int .i64 0,.str [],.str [],.str [],.bool false,.bool false,.int .i64 0,.int .i64 0,.ai,.str [],.ai] 51 true) ∧
  σ.b[q]? = some (.cells (cB (A k) xs xt xf) 58 true)∧Kp bs σ.b ∧
  mB 35 7 bs.length xs σ.b ((A k).seen.flatMap uc) (A k).seen.length∧mB 62 9 bs.length xt σ.b ((A k).trace.flatMap ec) (A k).trace.length∧mB 100 2 bs.length xf σ.b ((A k).fC.fields.flatMap fc) (A k).fC.fields.length)
  (fun σ=>runM q σ) ⟨0,ys,.ai,.ai,QA,rfl,rfl,rfl,rfl,u1 _,by rw[mH];exact b8 _,kbx _,by rw[mH];exact hsx _,.inl ⟨rfl,by rw[mH,jg.1];rfl,by rw[mH,jg.1];rfl⟩,.inl ⟨rfl,by rw[mH,jg.2];rfl,by rw[mH,jg.2];rfl⟩⟩ ?_
 clear jg u1 b8 kbx hsx hq kb fH a1 jF vI;clear b;rintro⟨t,b⟩ ⟨k,xs,xt,xf,lx,h0,h1,h6,h8,b1,b8,kb,uY,fI,CO⟩;simp only at h0 h1 h6 h8 b1 b8 kb uY fI CO;have hqb:q<b.length:=(zUu.1 b8).1;have vI:=uY.one;have p8:=fI.one;have KR:=CO.one;cases hd:(A k).done
 ·obtain⟨g1,g2,g3,g4,g5,g6⟩:=ro _ hd
  have st:=Bo (kb.at hj) hL hr now (A k) (fun _=>g2) QA uY.sx fI.sx CO.sx QA QA (by rw[g6];simp[fJ.none]);rw[← KZ]at st;have hm:runM q ⟨t,b⟩=7 - k:=by
   unfold runM;simp only[b8,cB,cR,uc,zUF,zUE,List.getElem?_cons_succ,List.getElem?_cons_zero,hd,g3];simp
  rw[hm];have hmn:∀ (σ:St) (xs xt xf:SV),σ.b[q]? = some (.cells (cB (A (k+1)) xs xt xf) 58 true)→runM q σ<7 - k:=by
   rintro⟨t',b'⟩ xs xt xf h;unfold runM;simp only at h ⊢;simp only[h,cB,cR,uc,zUF,zUE,List.getElem?_cons_succ,List.getElem?_cons_zero];cases vK:(A (k+1)).done
   ·have:=(ro _ vK).2.2.1
    simp only[this];omega
   ·simp only
    omega
  unfold cB cR uc at b8 st;simp only[zUF,zUE,hd]at b8 st;refine gB (zUs h0 (zUs h1 (zUs h6 (zUs h8 (zUs b1 (zUs b8 (zUs hd zUA))))))) ?_;refine ae st ?_;rintro r b' ⟨hk',ys,yt,yf,rfl,uZ,jG,tT⟩;have c8:=hk'.at b8;have c1:=hk'.at b1;have hqb':q<b'.length:=(zUu.1 c8).1;have t8:∀ X,(b'.set q X)[q]? = some X:=fun X=>zUv hqb'
  have t1:=fun X=>(zUt (l:=b') (i:=q) (j:=bs.length+1) (a:=X) QA).trans c1
  have i1:=uZ.one;have i2:=jG.one;have i3:=tT.one;have m1:=(uZ.low (L':=bs.length) (by have:=kb.1;omega)).dv c8;have m2:=(jG.low (L':=bs.length) (by have:=kb.1;omega)).dv c8;have m3:=(tT.low (L':=bs.length) (by have:=kb.1;omega)).dv c8;have kb':=(kb.trans hk');unfold cB cR uc;simp only[zUF,zUE];refine gB (zUs h0 (zUs h1 (zUs h6 (zUs h8 (zUs c1 (zUs c8 (zUs t8 (zUs t1 (zUs i1 (zUs i2 i3)))))))))) ?_;exact⟨⟨k+1,ys,yt,yf,QA,rfl,kb'.set QA _,m1 _,m2 _,m3 _⟩,hmn _ ys yt yf (t8 _)⟩
 ·have hfe:=rl _ lx hd
  rw[hF]at hfe;rw[hfe]at b8 fI CO;have t1:∀ X,(b.set (bs.length+1) X)[bs.length+1]? = some X:=fun X=>zUv QA
  unfold cB cR uc at b8;simp only[zUF,zUE]at b8;rw[hfe]at hd;refine gB (zUs h0 (zUs h1 (zUs h6 (zUs h8 (zUs b1 (zUs b8 (zUs hd (zUs zUy (zUs t1 (zUs vI (zUs p8 KR))))))))))) ?_;have hql2:(q=bs.length+1)=False:=by simp;omega
  exact⟨(by
   refine bt (fun n=>if n=bs.length+1 then 0 else 1) ?_;simp only[zUI,zUJ,cz,dW,reduceIte,hql2];exact ao QE),kb.set QA _,xt,xf,rfl,fI.dv b1 _,CO.dv b1 _⟩
end Go.Proofs.YtnmlimehgifadaaGreatDoor
