/- Texts of this claim, laid together: RefUri2, RefPct, RefPct2, PctD, MailP, Number, Host, Host2, Own, RefHost, RefHost2, HostPC, RefSplit, MailW, UrlW, DidW, RefUri3, MailV, MailR. -/
import Derived.Lib.QuietBelow
import Derived.Deep.QuietTactic
import Derived.BigQuiet
import Derived.Lib.FrozenHead
import Derived.Test.YteipdaijbncgeaaGreatDoorU4
open List renaming toArray → zMy, length_drop → zMz, getElem?_eq_getElem → zMA, length_cons → zMB, length_nil → zMD, getElem?_append_right → zME, getElem?_eq_some_iff → zMF, take_of_length_le → zMG, length_take → zMH, getD → zMI, head?_drop → zMK, getElem_mem → zML, length_append → zMM, take_length → zMN, nil_append → zMO, drop_of_length_le → zMP, all_eq_true → zMQ
open Option renaming some → zMC
open Nat renaming le_refl → zMJ
set_option linter.all false
set_option maxHeartbeats 16000000
set_option maxRecDepth 20000
namespace Go.Proofs.YteipdaijbncgeaaGreatDoor
open Go Vc Go.RowKit Wf
theorem jr (c:UInt8):PC Tryz.V 93 [.int .u8 c.toNat] (.bool (isAlpha c)):=by
 refine aQ 3000 Tryz.func93 rfl Tryz.ntmps93 Tryz.results93 Tryz.call93 (by simp) (by simp[flat,flat.ai]) (by simp[flat,flat.ai]) ?_
 simp only[ad,↓Xn,↓Xo,↓Xg,↓Xd,↓Xe,↓Xf,Tryz.VΓ,Tryz.Γs,Xp,Xi,Nat.reduceAdd,Nat.reduceSub,Nat.reduceLT,Nat.reduceLeDiff,reduceIte,reduceCtorEq,Nat.reduceEqDiff,implies_true,forall_const,aa]
 unfold isAlpha
 by_cases h1:65≤c.toNat <;> by_cases h2:c.toNat≤90 <;> by_cases h3:97≤c.toNat <;> by_cases h4:c.toNat≤122 <;> simp[h1,h2,h3,h4] <;> omega
theorem gP (c:UInt8):PC Tryz.V 94 [.int .u8 c.toNat] (.bool (isDigit c)):=by
 refine aQ 3000 Tryz.func94 rfl Tryz.ntmps94 Tryz.results94 Tryz.call94 (by simp) (by simp[flat,flat.ai]) (by simp[flat,flat.ai]) ?_
 simp only[ad,↓Xn,↓Xo,↓Xg,↓Xd,↓Xe,↓Xf,Tryz.VΓ,Tryz.Γs,Xp,Xi,Nat.reduceAdd,Nat.reduceSub,Nat.reduceLT,Nat.reduceLeDiff,reduceIte,reduceCtorEq,Nat.reduceEqDiff,implies_true,forall_const,aa]
 unfold isDigit
 by_cases h1:48≤c.toNat <;> by_cases h2:c.toNat≤57 <;> simp[h1,h2] <;> omega
theorem nm {s:Bytes}{k:Nat}(hk:k<s.length)(hr:k=0∨cK (s.take k)=true)(hc:isAlpha s[k]=true∨(0<k∧eZ s[k]=true)):k+1=0∨cK (s.take (k+1))=true:=by
 right
 rcases Nat.eq_zero_or_pos k with h0|h0
 ·subst h0
  rcases hc with hc|⟨hc,-⟩
  ·exact pB hk hc
  ·omega
 ·refine kg h0 hk (hr.resolve_left (by omega)) ?_
  rcases hc with hc|⟨-,hc⟩
  ·simp[eZ,hc]
  ·exact hc
theorem qz {b:Bool}(h:(!b)=true):b=false:=by cases b <;> simp at h ⊢
theorem qA {b:Bool}(h:(!b)=false):b=true:=by cases b <;> simp at h ⊢
theorem ks (s:Bytes)(hs:s.length≤4294967281):PC Tryz.V 129 [.str s] (.bool (cK s)):=by
 refine aQ 3000 Tryz.func129 rfl Tryz.ntmps129 Tryz.results129 Tryz.call129 (by simp) (by simp[flat,flat.ai]) (by simp[flat,flat.ai]) ?_
 simp only[ad,↓Xn,↓Xo,↓Xg,↓Xd,↓Xe,↓Xf,Tryz.VΓ,Tryz.Γs,Xp,Xi,Nat.reduceAdd,Nat.reduceSub,Nat.reduceLT,Nat.reduceLeDiff,reduceIte,reduceCtorEq,Nat.reduceEqDiff,implies_true,forall_const,aa]
 refine aM (fun σ=>∃ k:Nat,k≤s.length∧(k=0∨cK (s.take k)=true)∧lk 0 σ.t=some (.str s)∧lk 3 σ.t=some (.int .i64 k)) (fun σ=>s.length - ja 3 σ) ⟨0,by omega,.inl rfl,rfl,rfl⟩ ?_
 rintro⟨t,b⟩ ⟨k,hk,hr,h0,h3⟩
 simp only at h0 h3
 rw[az h3]
 simp only[ad,↓Xn,↓Xo,↓Xg,↓Xd,↓Xe,↓Xf,Tryz.VΓ,Tryz.Γs,Xp,Xi,Nat.reduceAdd,Nat.reduceSub,Nat.reduceLT,Nat.reduceLeDiff,reduceIte,reduceCtorEq,Nat.reduceEqDiff,implies_true,forall_const,aa,h0,h3]
 refine⟨fun h=>⟨by simpa using h,?_⟩,fun h=>?_⟩
 ·have hk':k<s.length:=by simpa using h
  rw[show s.getD k 0=s[k] by simp[zMI,hk']]
  (refine ae (jr s[k]) ?_;simp only[ad,↓Xn,↓Xo,↓Xg,↓Xd,↓Xe,↓Xf,Tryz.VΓ,Tryz.Γs,Xp,Xi,Nat.reduceAdd,Nat.reduceSub,Nat.reduceLT,Nat.reduceLeDiff,reduceIte,reduceCtorEq,Nat.reduceEqDiff,implies_true,forall_const,aa,h0,h3])
  refine⟨fun ca=>⟨fun c0=>?_,fun c0=>?_⟩,fun ca=>⟨by omega,⟨k+1,by omega,nm hk' hr (.inl (qA ca)),by simp⟩,by rw[az rfl];omega⟩⟩
  ·rw[show s.getD k 0=s[k] by simp[zMI,hk']]
   refine⟨by omega,?_⟩
   (refine ae (gP s[k]) ?_;simp only[ad,↓Xn,↓Xo,↓Xg,↓Xd,↓Xe,↓Xf,Tryz.VΓ,Tryz.Γs,Xp,Xi,Nat.reduceAdd,Nat.reduceSub,Nat.reduceLT,Nat.reduceLeDiff,reduceIte,reduceCtorEq,Nat.reduceEqDiff,implies_true,forall_const,aa,h0,h3])
   refine⟨fun cd=>⟨by omega,?_⟩,fun cd=>?_⟩
   ·rw[show s.getD k 0=s[k] by simp[zMI,hk']]
    (refine ae (kx s[k] [43,45,46] (by simp)) ?_;simp only[ad,↓Xn,↓Xo,↓Xg,↓Xd,↓Xe,↓Xf,Tryz.VΓ,Tryz.Γs,Xp,Xi,Nat.reduceAdd,Nat.reduceSub,Nat.reduceLT,Nat.reduceLeDiff,reduceIte,reduceCtorEq,Nat.reduceEqDiff,implies_true,forall_const,aa,h0,h3])
    refine⟨fun ci=>?_,fun ci=>⟨by omega,⟨k+1,by omega,nm hk' hr (.inr ⟨by simp at c0;omega,by unfold eZ;rw[qA ci];simp⟩),by simp⟩,by rw[az rfl];omega⟩⟩
    rw[xy (by simp at c0;omega) hk' (by unfold eZ;rw[qz ca,qz cd,qz ci];rfl)]
   ·exact⟨by omega,⟨k+1,by omega,nm hk' hr (.inr ⟨by simp at c0;omega,by unfold eZ;rw[qA cd];simp⟩),by simp⟩,by rw[az rfl];omega⟩
  ·have wk:k=0:=by simp at c0;omega
   subst wk
   rw[oR hk' (by simpa using ca)]
 ·rcases hr with hr|hr
  ·have:s=[]:=List.eq_nil_of_length_eq_zero (by simp at h;omega)
   subst this;rfl
  ·rw[zMG (by simp at h;omega)]at hr
   rw[hr]
   cases s with
   | nil=>simp[cK]at hr
   | cons=>rfl
theorem uz (c:UInt8):PC Tryz.V 124 [.int .u8 c.toNat] (.bool (bp c)) :=
 ⟨Tryz.call124,by simp[flat,flat.ai],by simp[flat,flat.ai],fun w _=>(A0 c w).mono fun _ _ ⟨h,k⟩=>⟨h,cV k⟩⟩
theorem dh (c:UInt8):PC Tryz.V 71 [.int .u8 c.toNat] (.bool (eY c)):=by
 refine aQ 3000 Tryz.func71 rfl Tryz.ntmps71 Tryz.results71 Tryz.call71 (by simp) (by simp[flat,flat.ai]) (by simp[flat,flat.ai]) ?_
 simp only[ad,↓Xn,↓Xo,↓Xg,↓Xd,↓Xe,↓Xf,Tryz.VΓ,Tryz.Γs,Xp,Xi,Nat.reduceAdd,Nat.reduceSub,Nat.reduceLT,Nat.reduceLeDiff,reduceIte,reduceCtorEq,Nat.reduceEqDiff,implies_true,forall_const,aa]
 (refine ae (jr c) ?_;simp only[ad,↓Xn,↓Xo,↓Xg,↓Xd,↓Xe,↓Xf,Tryz.VΓ,Tryz.Γs,Xp,Xi,Nat.reduceAdd,Nat.reduceSub,Nat.reduceLT,Nat.reduceLeDiff,reduceIte,reduceCtorEq,Nat.reduceEqDiff,implies_true,forall_const,aa])
 refine⟨fun h=>?_,fun h=>?_⟩
 ·(refine ae (gP c) ?_;simp only[ad,↓Xn,↓Xo,↓Xg,↓Xd,↓Xe,↓Xf,Tryz.VΓ,Tryz.Γs,Xp,Xi,Nat.reduceAdd,Nat.reduceSub,Nat.reduceLT,Nat.reduceLeDiff,reduceIte,reduceCtorEq,Nat.reduceEqDiff,implies_true,forall_const,aa])
  refine⟨fun h2=>?_,fun h2=>?_⟩
  ·(refine ae (kx c [45,46,95,126] (by simp)) ?_;simp only[ad,↓Xn,↓Xo,↓Xg,↓Xd,↓Xe,↓Xf,Tryz.VΓ,Tryz.Γs,Xp,Xi,Nat.reduceAdd,Nat.reduceSub,Nat.reduceLT,Nat.reduceLeDiff,reduceIte,reduceCtorEq,Nat.reduceEqDiff,implies_true,forall_const,aa])
   unfold eY;rw[h,h2];rfl
  ·unfold eY;rw[h,h2];rfl
 ·unfold eY;rw[h];rfl
theorem uy (c:UInt8)(hc:bp c=true):PC Tryz.V 125 [.int .u8 c.toNat] (.int .u8 (cB c)):=by
 have key:=dA (p:=fun c=>!bp c||(decide ((c.toNat≤57→IntKind.u8.wrap ((c.toNat:Int) - 48)=cB c)∧(57<c.toNat→c.toNat≤70→IntKind.u8.wrap (IntKind.u8.wrap ((c.toNat:Int) - 65)+10)=cB c)∧(70<c.toNat→IntKind.u8.wrap (IntKind.u8.wrap ((c.toNat:Int) - 97)+10)=cB c)))) (by decide +kernel) c
 simp only[hc,Bool.not_true,Bool.false_or,decide_eq_true_eq]at key
 obtain⟨k1,k2,k3⟩:=key
 refine aQ 3000 Tryz.func125 rfl Tryz.ntmps125 Tryz.results125 Tryz.call125 (by simp) (by simp[flat,flat.ai]) (by simp[flat,flat.ai]) ?_
 simp only[ad,↓Xn,↓Xo,↓Xg,↓Xd,↓Xe,↓Xf,Tryz.VΓ,Tryz.Γs,Xp,Xi,Nat.reduceAdd,Nat.reduceSub,Nat.reduceLT,Nat.reduceLeDiff,reduceIte,reduceCtorEq,Nat.reduceEqDiff,implies_true,forall_const,aa]
 refine⟨fun h=>?_,fun h=>⟨fun h2=>?_,fun h2=>?_⟩⟩
 ·rw[k1 (by simp at h;omega)]
 ·rw[k2 (by simp at h;omega) (by simp at h2;omega)]
 ·rw[k3 (by simp at h2;omega)]
theorem Ar (a b:UInt8)(ha:bp a=true)(hb:bp b=true):IntKind.u8.wrap (IntKind.u8.wrap (16 * (cB a:Int))+cB b)=((unhex a b).toNat:Int):=by
 have h1:=lu ha
 have h2:=lu hb
 have:∀ x,x<16→∀ y,y<16→IntKind.u8.wrap (IntKind.u8.wrap (16 * ((x:Nat):Int))+(y:Nat))=(((x * 16+y).toUInt8).toNat:Int):=by decide +kernel
 exact this _ (by omega) _ (by omega)
theorem sG (s:Bytes)(i:Nat)(hi:i<s.length)(hp:s[i]=37)(hs:s.length≤4294967281):PC Tryz.V 90 [.str s,.int .i64 i] (.eS [.int .u8 (((jl s i).getD 0).toNat:Int),.bool (jl s i).isSome]):=by
 have hg:((s.getD i 0).toNat:Int)=37:=by rw[show s.getD i 0=37 by rw[← hp];simp[zMI,hi]];rfl
 refine aQ 3000 Tryz.func90 rfl Tryz.ntmps90 Tryz.results90 Tryz.call90 (by simp) (by simp[flat,flat.ai]) (by simp[flat,flat.ai]) ?_
 simp (config := { maxSteps := 2000000 }) only[ad,↓Xn,↓Xo,↓Xg,↓Xd,↓Xe,↓Xf,Tryz.VΓ,Tryz.Γs,Xp,Xi,Nat.reduceAdd,Nat.reduceSub,Nat.reduceLT,Nat.reduceLeDiff,reduceIte,reduceCtorEq,Nat.reduceEqDiff,implies_true,forall_const,aa,hg,Int.toNat_natCast,beq_self_eq_true,bne_self_eq_false,Int.reduceBEq,Int.reduceBNe,Int.reduceLT,Int.reduceLE]
 unfold jl
 rw[qP]
 refine⟨⟨by omega,by omega⟩,fun hl=>?_,fun hl=>?_⟩
 ·have hl:i+2<s.length:=(by simp at hl;omega)
  rw[if_pos hl]
  refine⟨⟨by omega,by omega⟩,⟨by omega,by omega⟩,⟨by omega,by omega⟩,?_⟩
  ·skip
   (refine ae (uz _) ?_;simp only[ad,↓Xn,↓Xo,↓Xg,↓Xd,↓Xe,↓Xf,Tryz.VΓ,Tryz.Γs,Xp,Xi,Nat.reduceAdd,Nat.reduceSub,Nat.reduceLT,Nat.reduceLeDiff,reduceIte,reduceCtorEq,Nat.reduceEqDiff,implies_true,forall_const,aa])
   refine⟨fun ha=>⟨⟨by omega,by omega⟩,⟨by omega,by omega⟩,?_⟩,fun ha=>?_⟩
   ·have ha:bp (s.getD (i+1) 0)=true:=by simpa using ha
    (refine ae (uz _) ?_;simp only[ad,↓Xn,↓Xo,↓Xg,↓Xd,↓Xe,↓Xf,Tryz.VΓ,Tryz.Γs,Xp,Xi,Nat.reduceAdd,Nat.reduceSub,Nat.reduceLT,Nat.reduceLeDiff,reduceIte,reduceCtorEq,Nat.reduceEqDiff,implies_true,forall_const,aa])
    refine⟨fun hb=>?_,fun hb=>⟨⟨by omega,by omega⟩,⟨by omega,by omega⟩,?_⟩⟩
    ·have hb:bp (s.getD (i+2) 0)=false:=by simpa using hb
     rw[ha,hb];rfl
    ·have hb:bp (s.getD (i+2) 0)=true:=by simpa using hb
     (refine aU (uy _ ha) ?_;simp only[ad,↓Xn,↓Xo,↓Xg,↓Xd,↓Xe,↓Xf,Tryz.VΓ,Tryz.Γs,Xp,Xi,Nat.reduceAdd,Nat.reduceSub,Nat.reduceLT,Nat.reduceLeDiff,reduceIte,reduceCtorEq,Nat.reduceEqDiff,implies_true,forall_const,aa])
     refine⟨⟨by omega,by omega⟩,⟨by omega,by omega⟩,?_⟩
     (refine aU (uy _ hb) ?_;simp only[ad,↓Xn,↓Xo,↓Xg,↓Xd,↓Xe,↓Xf,Tryz.VΓ,Tryz.Γs,Xp,Xi,Nat.reduceAdd,Nat.reduceSub,Nat.reduceLT,Nat.reduceLeDiff,reduceIte,reduceCtorEq,Nat.reduceEqDiff,implies_true,forall_const,aa])
     refine⟨(aq (by kernel_rfl)),?_⟩
     rw[Ar _ _ ha hb,ha,hb];rfl
   ·have ha:bp (s.getD (i+1) 0)=false:=by simpa using ha
    rw[ha];rfl
 ·have hl:¬ i+2<s.length:=(by simp at hl;omega)
  rw[if_neg hl];rfl
theorem kv (c:UInt8):PC Tryz.V 91 [.int .u8 c.toNat] (.str (ka c)):=by
 have hc:=c.toNat_lt
 have d1:=tQ (c.toNat / 16) (by omega)
 have d2:=tQ (c.toNat % 16) (by omega)
 have key:=dA (p:=fun c=>decide (vF .quo .u8 (c.toNat:Int) 16=((c.toNat / 16:Nat):Int)∧vF .rem .u8 (c.toNat:Int) 16=((c.toNat % 16:Nat):Int))) (by decide +kernel) c
 obtain⟨s1,s2⟩:=of_decide_eq_true key
 have ec:=yv c
 have e1:([.int .u8 37,.int .u8 ((ib (c.toNat / 16)).toNat:Int),.int .u8 ((ib (c.toNat % 16)).toNat:Int)]:List SV).map wy=ka c:=by rw[← ec,gI]
 refine aQ 3000 Tryz.func91 rfl Tryz.ntmps91 Tryz.results91 Tryz.call91 (by simp) (by simp[flat,flat.ai]) (by simp[flat,flat.ai]) ?_
 simp only[ad,↓Xn,↓Xo,↓Xg,↓Xd,↓Xe,↓Xf,Tryz.VΓ,Tryz.Γs,Xp,Xi,Nat.reduceAdd,Nat.reduceSub,Nat.reduceLT,Nat.reduceLeDiff,reduceIte,reduceCtorEq,Nat.reduceEqDiff,implies_true,forall_const,aa,s1,s2,Int.toNat_natCast,d1,d2]
 have e2:([.int .u8 37,.int .u8 ((ib (c.toNat / 16)).toNat:Int),.int .u8 ((ib (c.toNat % 16)).toNat:Int)]:List SV).all DY=true:=by rw[← ec,gS]
 simp only[List.map_cons,List.map_nil]at e1
 simp only[List.all_cons,List.all_nil,Bool.and_true]at e2
 exact⟨by decide,⟨by omega,by omega⟩,by decide,⟨by omega,by omega⟩,by omega,e2,(aq (by kernel_rfl)),by rw[e1]⟩
def RnI (also s:Bytes)(σ:St):Prop:=∃ (i:Nat) (x:SV) (d:Bytes),lk 0 σ.t=some (.str s)∧lk 1 σ.t=some (.str also)∧lk 6 σ.t=some x∧lk 7 σ.t=some (.int .i64 i)∧i≤s.length∧d.length≤3 * i∧Sl 5 1 0 x σ.b (d.map da) d.length∧comb d (bD also (aA (s.drop i)))=bD also (aA s)
theorem sC {also s:Bytes}{t:List (Nat × SV)}{b:List ax}{i i':Nat}{x:SV}{d:Bytes}(h0:lk 0 t=some (.str s))(h1:lk 1 t=some (.str also))(h6:lk 6 t=some x)(h7:lk 7 t=some (.int .i64 i'))(h:i'≤s.length∧d.length≤3 * i')(ht:Sl 5 1 0 x b (d.map da) d.length)
 (hn:comb d (bD also (aA (s.drop i')))=bD also (aA s)) (aB:i<i'):RnI also s ⟨t,b⟩∧NoM s ⟨t,b⟩<s.length - i :=
 ⟨⟨i',x,d,h0,h1,h6,h7,h.1,h.2,ht,hn⟩,by rw[zZ h7];omega⟩
theorem gO (s also:Bytes)(ha:also.length≤1000):PC Tryz.V 69 [.str s,.str also] (.eS [.str (aX also s).1,.int .i64 (aX also s).2]):=by
 refine aQ 3000 Tryz.func69 rfl Tryz.ntmps69 Tryz.results69 Tryz.call69 (by simp) (by simp[flat,flat.ai]) (by simp[flat,flat.ai]) ?_
 simp only[ad,↓Xn,↓Xo,↓Xg,↓Xd,↓Xe,↓Xf,Tryz.VΓ,Tryz.Γs,Xp,Xi,Nat.reduceAdd,Nat.reduceSub,Nat.reduceLT,Nat.reduceLeDiff,reduceIte,reduceCtorEq,Nat.reduceEqDiff,implies_true,forall_const,aa]
 unfold aX
 refine⟨fun hl=>?_,fun hl=>?_⟩
 ·have hl:16384<s.length:=(by simp at hl;omega)
  rw[if_pos hl]
 have hl:s.length≤16384:=(by simp at hl;omega)
 rw[if_neg (by omega)]
 refine aM (RnI also s) (NoM s) ⟨0,.aE,[],rfl,rfl,rfl,rfl,by omega,by simp,.inl ⟨rfl,rfl,rfl⟩,qW _ (xQ also _)⟩ ?_
 rintro⟨t,b⟩ ⟨i,x,d,h0,h1,h6,h7,hi,hd,ht,hn⟩
 simp only at h0 h1 h6 h7 ht
 rw[zZ h7]
 by_cases aB:i<s.length
 ·have hu:=lO aB
  have hg:s.getD i 0=s[i]:=by simp[zMI,aB]
  simp only[ad,↓Xn,↓Xo,↓Xg,↓Xd,↓Xe,↓Xf,Tryz.VΓ,Tryz.Γs,Xp,Xi,Nat.reduceAdd,Nat.reduceSub,Nat.reduceLT,Nat.reduceLeDiff,reduceIte,reduceCtorEq,Nat.reduceEqDiff,implies_true,forall_const,aa,h0,h1,h6,h7]
  refine⟨fun _=>⟨⟨by omega,by omega⟩,fun hc=>⟨⟨by omega,by omega⟩,?_⟩,fun hc=>?_⟩,fun h=>absurd h (by simp;omega)⟩
  ·have hc:¬ s[i]=37:=by
    intro e
    rw[hg,e]at hc
    simp at hc
   rw[if_neg hc]at hu
   rw[hu,bD]at hn
   rw[hg]
   have tx:dm also s[i]=true→comb (d++[s[i]]) (bD also (aA (s.drop (i+1))))=bD also (aA s):=fun hk=>by
    rw[← hn,if_pos hk,gA]
   (refine ae (dh s[i]) ?_;simp only[ad,↓Xn,↓Xo,↓Xg,↓Xd,↓Xe,↓Xf,Tryz.VΓ,Tryz.Γs,Xp,Xi,Nat.reduceAdd,Nat.reduceSub,Nat.reduceLT,Nat.reduceLeDiff,reduceIte,reduceCtorEq,Nat.reduceEqDiff,implies_true,forall_const,aa,h0,h1,h6,h7,hg])
   refine⟨fun hq=>⟨⟨by omega,by omega⟩,?_⟩,fun hq=>⟨⟨by omega,by omega⟩,?_⟩⟩
   ·have hq:=qz hq
    (refine ae (kx s[i] also (by omega)) ?_;simp only[ad,↓Xn,↓Xo,↓Xg,↓Xd,↓Xe,↓Xf,Tryz.VΓ,Tryz.Γs,Xp,Xi,Nat.reduceAdd,Nat.reduceSub,Nat.reduceLT,Nat.reduceLeDiff,reduceIte,reduceCtorEq,Nat.reduceEqDiff,implies_true,forall_const,aa,h0,h1,h6,h7,hg])
    refine⟨fun pN=>?_,fun pN=>⟨⟨by omega,by omega⟩,?_⟩⟩
    ·have pN:=qz pN
     have hk:¬ dm also s[i]=true:=by unfold dm;rw[hq,pN];simp
     rw[if_neg hk]at hn
     have kO:bD also (aA s)=([],1):=by rw[← hn];rfl
     rw[kO]
    ·have pN:=qA pN
     have hk:dm also s[i]=true:=by unfold dm;rw[pN];simp
     (rcases ht with⟨rfl,fR,yk⟩|⟨j,rfl,lN,hj⟩
      ·obtain rfl:d=[]:=by simpa using fR
       simp only[ad,↓Xn,↓Xo,↓Xg,↓Xd,↓Xe,↓Xf,Tryz.VΓ,Tryz.Γs,Xp,Xi,Nat.reduceAdd,Nat.reduceSub,Nat.reduceLT,Nat.reduceLeDiff,reduceIte,reduceCtorEq,Nat.reduceEqDiff,implies_true,forall_const,aa,h0,h1,h6,h7,hg,aW]
       refine⟨by omega,⟨by unfold maxLen;omega,by omega⟩,⟨by omega,by omega⟩,sC (i':=i+1) (x:=.o (b++[ax.own [da (s[i])] 5 1 1 true]).length 1) (d:=[]++[s[i]]) h0 h1 rfl (by simp only[lk,reduceIte,zMC.injEq,SV.int.injEq,true_and];omega) ⟨by omega,by simp;omega⟩ (.inr ⟨_,rfl,by omega,aW _ _⟩) (tx hk) (by omega)⟩
      ·have mU:j<b.length:=(zMF.1 hj).1
       have ho:∀ X,(b++[X])[j]? = some (.own (d.map da) 5 1 d.length true):=fun X=>af hj [X]
       simp only[ad,↓Xn,↓Xo,↓Xg,↓Xd,↓Xe,↓Xf,Tryz.VΓ,Tryz.Γs,Xp,Xi,Nat.reduceAdd,Nat.reduceSub,Nat.reduceLT,Nat.reduceLeDiff,reduceIte,reduceCtorEq,Nat.reduceEqDiff,implies_true,forall_const,aa,h0,h1,h6,h7,hg,aW,ho]
       refine⟨by omega,⟨by unfold maxLen;omega,by omega⟩,⟨by omega,by omega⟩,sC (i':=i+1) (x:=.o (b++[ax.own [da (s[i])] 5 1 1 true]).length (d.length+1)) (d:=d++[s[i]]) h0 h1 rfl (by simp only[lk,reduceIte,zMC.injEq,SV.int.injEq,true_and];omega) ⟨by omega,by simp;omega⟩ (.inr ⟨(b++[ax.own [da (s[i])] 5 1 1 true]).length,by simp,by omega,by rw[zME (by simp)];simp[da]⟩) (tx hk) (by omega)⟩)
   ·have hq:=qA hq
    have hk:dm also s[i]=true:=by unfold dm;rw[hq];simp
    (rcases ht with⟨rfl,fR,yk⟩|⟨j,rfl,lN,hj⟩
     ·obtain rfl:d=[]:=by simpa using fR
      simp only[ad,↓Xn,↓Xo,↓Xg,↓Xd,↓Xe,↓Xf,Tryz.VΓ,Tryz.Γs,Xp,Xi,Nat.reduceAdd,Nat.reduceSub,Nat.reduceLT,Nat.reduceLeDiff,reduceIte,reduceCtorEq,Nat.reduceEqDiff,implies_true,forall_const,aa,h0,h1,h6,h7,hg,aW]
      refine⟨by omega,⟨by unfold maxLen;omega,by omega⟩,⟨by omega,by omega⟩,sC (i':=i+1) (x:=.o (b++[ax.own [da (s[i])] 5 1 1 true]).length 1) (d:=[]++[s[i]]) h0 h1 rfl (by simp only[lk,reduceIte,zMC.injEq,SV.int.injEq,true_and];omega) ⟨by omega,by simp;omega⟩ (.inr ⟨_,rfl,by omega,aW _ _⟩) (tx hk) (by omega)⟩
     ·have mU:j<b.length:=(zMF.1 hj).1
      have ho:∀ X,(b++[X])[j]? = some (.own (d.map da) 5 1 d.length true):=fun X=>af hj [X]
      simp only[ad,↓Xn,↓Xo,↓Xg,↓Xd,↓Xe,↓Xf,Tryz.VΓ,Tryz.Γs,Xp,Xi,Nat.reduceAdd,Nat.reduceSub,Nat.reduceLT,Nat.reduceLeDiff,reduceIte,reduceCtorEq,Nat.reduceEqDiff,implies_true,forall_const,aa,h0,h1,h6,h7,hg,aW,ho]
      refine⟨by omega,⟨by unfold maxLen;omega,by omega⟩,⟨by omega,by omega⟩,sC (i':=i+1) (x:=.o (b++[ax.own [da (s[i])] 5 1 1 true]).length (d.length+1)) (d:=d++[s[i]]) h0 h1 rfl (by simp only[lk,reduceIte,zMC.injEq,SV.int.injEq,true_and];omega) ⟨by omega,by simp;omega⟩ (.inr ⟨(b++[ax.own [da (s[i])] 5 1 1 true]).length,by simp,by omega,by rw[zME (by simp)];simp[da]⟩) (tx hk) (by omega)⟩)
  ·have hc:s[i]=37:=by
    have:s.getD i 0=37:=by
     rw[← UInt8.toNat_inj]
     have e37:(37:UInt8).toNat=37:=rfl
     have h2:=bne_eq_false_iff_eq.1 hc
     omega
    rw[← hg];exact this
   rw[if_pos hc]at hu
   have pe:=sG s i aB hc (by omega)
   cases he:jl s i with
   | none =>
     rw[he]at pe hu
     simp only at hu
     rw[hu]at hn
     have kO:bD also (aA s)=([],2):=by rw[← hn];rfl
     rw[kO]
     (refine ae pe ?_;simp only[ad,↓Xn,↓Xo,↓Xg,↓Xd,↓Xe,↓Xf,Tryz.VΓ,Tryz.Γs,Xp,Xi,Nat.reduceAdd,Nat.reduceSub,Nat.reduceLT,Nat.reduceLeDiff,reduceIte,reduceCtorEq,Nat.reduceEqDiff,implies_true,forall_const,aa,h0,h1,h6,h7,Option.isSome_none])
   | some v =>
     rw[he]at pe hu
     have hx:=he
     unfold jl at hx
     obtain⟨⟨a,bb,r⟩,hp,hv⟩:=Option.map_eq_some_iff.1 hx
     simp only at hv
     rw[hp]at hu
     simp only at hu
     have hi3:i+3≤s.length:=by
      obtain⟨h1,-,-⟩:=cU hp
      have:=congrArg List.length h1
      simp at this
      omega
     have tx:comb (d++kZ v) (bD also (aA (s.drop (i+2+1))))=bD also (aA s):=by
      rw[← hn,hu,bD,gA,hv]
     simp only[Option.getD_some,Option.isSome_some]at pe
     (refine ae pe ?_;simp only[ad,↓Xn,↓Xo,↓Xg,↓Xd,↓Xe,↓Xf,Tryz.VΓ,Tryz.Γs,Xp,Xi,Nat.reduceAdd,Nat.reduceSub,Nat.reduceLT,Nat.reduceLeDiff,reduceIte,reduceCtorEq,Nat.reduceEqDiff,implies_true,forall_const,aa,h0,h1,h6,h7])
     (refine ae (dh v) ?_;simp only[ad,↓Xn,↓Xo,↓Xg,↓Xd,↓Xe,↓Xf,Tryz.VΓ,Tryz.Γs,Xp,Xi,Nat.reduceAdd,Nat.reduceSub,Nat.reduceLT,Nat.reduceLeDiff,reduceIte,reduceCtorEq,Nat.reduceEqDiff,implies_true,forall_const,aa,h0,h1,h6,h7])
     refine⟨fun hq=>?_,fun hq=>?_⟩
     ·have GC:comb (d++[v]) (bD also (aA (s.drop (i+2+1))))=bD also (aA s):=by
       rw[← tx];unfold kZ;rw[if_pos hq]
      (rcases ht with⟨rfl,fR,yk⟩|⟨j,rfl,lN,hj⟩
       ·obtain rfl:d=[]:=by simpa using fR
        simp only[ad,↓Xn,↓Xo,↓Xg,↓Xd,↓Xe,↓Xf,Tryz.VΓ,Tryz.Γs,Xp,Xi,Nat.reduceAdd,Nat.reduceSub,Nat.reduceLT,Nat.reduceLeDiff,reduceIte,reduceCtorEq,Nat.reduceEqDiff,implies_true,forall_const,aa,h0,h1,h6,h7,hg,aW]
        refine⟨by omega,⟨by unfold maxLen;omega,by omega⟩,⟨by omega,by omega⟩,⟨by omega,by omega⟩,sC (i':=i+2+1) (x:=.o (b++[ax.own [da (v)] 5 1 1 true]).length 1) (d:=[]++[v]) h0 h1 rfl (by simp only[lk,reduceIte,zMC.injEq,SV.int.injEq,true_and];omega) ⟨by omega,by simp;omega⟩ (.inr ⟨_,rfl,by omega,aW _ _⟩) (GC) (by omega)⟩
       ·have mU:j<b.length:=(zMF.1 hj).1
        have ho:∀ X,(b++[X])[j]? = some (.own (d.map da) 5 1 d.length true):=fun X=>af hj [X]
        simp only[ad,↓Xn,↓Xo,↓Xg,↓Xd,↓Xe,↓Xf,Tryz.VΓ,Tryz.Γs,Xp,Xi,Nat.reduceAdd,Nat.reduceSub,Nat.reduceLT,Nat.reduceLeDiff,reduceIte,reduceCtorEq,Nat.reduceEqDiff,implies_true,forall_const,aa,h0,h1,h6,h7,hg,aW,ho]
        refine⟨by omega,⟨by unfold maxLen;omega,by omega⟩,⟨by omega,by omega⟩,⟨by omega,by omega⟩,sC (i':=i+2+1) (x:=.o (b++[ax.own [da (v)] 5 1 1 true]).length (d.length+1)) (d:=d++[v]) h0 h1 rfl (by simp only[lk,reduceIte,zMC.injEq,SV.int.injEq,true_and];omega) ⟨by omega,by simp;omega⟩ (.inr ⟨(b++[ax.own [da (v)] 5 1 1 true]).length,by simp,by omega,by rw[zME (by simp)];simp[da]⟩) (GC) (by omega)⟩)
     ·have GC:comb (d++ka v) (bD also (aA (s.drop (i+2+1))))=bD also (aA s):=by
       rw[← tx];unfold kZ;rw[if_neg (by simp[hq])]
      (refine ae (kv v) ?_;simp only[ad,↓Xn,↓Xo,↓Xg,↓Xd,↓Xe,↓Xf,Tryz.VΓ,Tryz.Γs,Xp,Xi,Nat.reduceAdd,Nat.reduceSub,Nat.reduceLT,Nat.reduceLeDiff,reduceIte,reduceCtorEq,Nat.reduceEqDiff,implies_true,forall_const,aa,h0,h1,h6,h7])
      rcases ht with⟨rfl,fR,yk⟩|⟨j,rfl,lN,hj⟩
      ·obtain rfl:d=[]:=by simpa using fR
       simp only[ad,↓Xn,↓Xo,↓Xg,↓Xd,↓Xe,↓Xf,Tryz.VΓ,Tryz.Γs,Xp,Xi,Nat.reduceAdd,Nat.reduceSub,Nat.reduceLT,Nat.reduceLeDiff,reduceIte,reduceCtorEq,Nat.reduceEqDiff,implies_true,forall_const,aa,h0,h1,h6,h7]
       exact⟨⟨uI _,by simp[ka];unfold maxLen;omega,by simp[ka]⟩,⟨by omega,by omega⟩,⟨by omega,by omega⟩,sC (i':=i+2+1) (d:=[]++ka v) h0 h1 rfl (by simp only[lk,reduceIte,zMC.injEq,SV.int.injEq,true_and];omega) ⟨by omega,by simp[ka];omega⟩ (.inr ⟨b.length,rfl,by omega,aW _ _⟩) GC (by omega)⟩
      ·simp only[ad,↓Xn,↓Xo,↓Xg,↓Xd,↓Xe,↓Xf,Tryz.VΓ,Tryz.Γs,Xp,Xi,Nat.reduceAdd,Nat.reduceSub,Nat.reduceLT,Nat.reduceLeDiff,reduceIte,reduceCtorEq,Nat.reduceEqDiff,implies_true,forall_const,aa,h0,h1,h6,h7,hj]
       exact⟨⟨uI _,by simp[ka];unfold maxLen;omega,by simp[ka];omega⟩,⟨by omega,by omega⟩,⟨by omega,by omega⟩,sC (i':=i+2+1) (d:=d++ka v) h0 h1 rfl (by simp only[lk,reduceIte,zMC.injEq,SV.int.injEq,true_and];omega) ⟨by omega,by simp[ka];omega⟩ (.inr ⟨b.length,by simp,by omega,by rw[zME (by simp)];simp⟩) GC (by omega)⟩
 ·have jv:i=s.length:=by omega
  subst jv
  rw[List.drop_length,dZ]at hn
  have kO:bD also (aA s)=(d,0):=by rw[← hn];simp[bD,comb]
  rw[kO]
  rcases ht with⟨rfl,fR,yk⟩|⟨j,rfl,lN,hj⟩
  ·obtain rfl:d=[]:=by simpa using fR
   simp only[ad,↓Xn,↓Xo,↓Xg,↓Xd,↓Xe,↓Xf,Tryz.VΓ,Tryz.Γs,Xp,Xi,Nat.reduceAdd,Nat.reduceSub,Nat.reduceLT,Nat.reduceLeDiff,reduceIte,reduceCtorEq,Nat.reduceEqDiff,implies_true,forall_const,aa,h0,h1,h6,h7]
   exact fun h=>absurd h (by simp)
  ·simp only[ad,↓Xn,↓Xo,↓Xg,↓Xd,↓Xe,↓Xf,Tryz.VΓ,Tryz.Γs,Xp,Xi,Nat.reduceAdd,Nat.reduceSub,Nat.reduceLT,Nat.reduceLeDiff,reduceIte,reduceCtorEq,Nat.reduceEqDiff,implies_true,forall_const,aa,h0,h1,h6,h7,hj]
   refine⟨fun h=>absurd h (by simp),fun _=>⟨gS d,?_⟩⟩
   rw[gI]
def dU:List PU→Bytes × Int
 | []=>([],0)
 | .bad::_=>([],2)
 | .lit c::r=>comb [c] (dU r)
 | .hex a b::r=>comb [unhex a b] (dU r)
theorem og:∀ l:List PU,dU l=if PU.bad∈l then([],2) else(l.map PU.val,0)
 | []=>rfl
 | .bad::r=>by simp[dU]
 | .lit c::r=>by
   rw[dU,og r]
   by_cases h:PU.bad∈r
   ·simp[h,comb]
   ·simp[h,comb,PU.val]
 | .hex a b::r=>by
   rw[dU,og r]
   by_cases h:PU.bad∈r
   ·simp[h,comb]
   ·simp[h,comb,PU.val]
theorem yx (l:List PU):(dU l).2≠0→(dU l).1=[]:=by
 rw[og]
 split
 ·intro _;rfl
 ·intro h;exact absurd rfl h
def DcI (s:Bytes)(σ:St):Prop:=∃ (i:Nat) (x:SV) (d:Bytes),lk 0 σ.t=some (.str s)∧lk 4 σ.t=some x∧lk 5 σ.t=some (.int .i64 i)∧i≤s.length∧d.length≤i∧Sl 5 1 0 x σ.b (d.map da) d.length∧comb d (dU (aA (s.drop i)))=dU (aA s)
def DcM (s:Bytes)(σ:St):Nat:=match lk 5 σ.t with
 | some (.int _ k)=>s.length - k.toNat
 | _=>0
theorem EC {s:Bytes}{σ:St}{k:Nat}(h:lk 5 σ.t=some (.int .i64 k)):DcM s σ=s.length - k:=by simp[DcM,h]
theorem sZ {s:Bytes}{t:List (Nat × SV)}{b:List ax}{i i':Nat}{x:SV}{d:Bytes}(h0:lk 0 t=some (.str s))(h4:lk 4 t=some x)(h5:lk 5 t=some (.int .i64 i'))(h:i'≤s.length∧d.length≤i')(ht:Sl 5 1 0 x b (d.map da) d.length)
 (hn:comb d (dU (aA (s.drop i')))=dU (aA s)) (aB:i<i'):DcI s ⟨t,b⟩∧DcM s ⟨t,b⟩<s.length - i :=
 ⟨⟨i',x,d,h0,h4,h5,h.1,h.2,ht,hn⟩,by rw[EC h5];omega⟩
theorem nF (s:Bytes):PC Tryz.V 145 [.str s] (.eS [.str (aj s).1,.int .i64 (aj s).2]):=by
 have hpd:aj s=if 16384<s.length then([],5) else dU (aA s):=by unfold aj;rw[og]
 rw[hpd]
 refine aQ 3000 Tryz.func145 rfl Tryz.ntmps145 Tryz.results145 Tryz.call145 (by simp) (by simp[flat,flat.ai]) (by simp[flat,flat.ai]) ?_
 simp only[ad,↓Xn,↓Xo,↓Xg,↓Xd,↓Xe,↓Xf,Tryz.VΓ,Tryz.Γs,Xp,Xi,Nat.reduceAdd,Nat.reduceSub,Nat.reduceLT,Nat.reduceLeDiff,reduceIte,reduceCtorEq,Nat.reduceEqDiff,implies_true,forall_const,aa]
 refine⟨fun hl=>?_,fun hl=>?_⟩
 ·have hl:16384<s.length:=(by simp at hl;omega)
  rw[if_pos hl]
 have hl:s.length≤16384:=(by simp at hl;omega)
 rw[if_neg (by omega)]
 refine aM (DcI s) (DcM s) ⟨0,.aE,[],rfl,rfl,rfl,by omega,by simp,.inl ⟨rfl,rfl,rfl⟩,qW _ (yx _)⟩ ?_
 rintro⟨t,b⟩ ⟨i,x,d,h0,h4,h5,hi,hd,ht,hn⟩
 simp only at h0 h4 h5 ht
 rw[EC h5]
 by_cases aB:i<s.length
 ·have hu:=lO aB
  have hg:s.getD i 0=s[i]:=by simp[zMI,aB]
  simp only[ad,↓Xn,↓Xo,↓Xg,↓Xd,↓Xe,↓Xf,Tryz.VΓ,Tryz.Γs,Xp,Xi,Nat.reduceAdd,Nat.reduceSub,Nat.reduceLT,Nat.reduceLeDiff,reduceIte,reduceCtorEq,Nat.reduceEqDiff,implies_true,forall_const,aa,h0,h4,h5]
  refine⟨fun _=>⟨⟨by omega,by omega⟩,fun hc=>?_,fun hc=>?_⟩,fun h=>absurd h (by simp;omega)⟩
  ·have hc:s[i]=37:=by
    rw[cH (n:=37) aB 37 rfl]at hc
    simpa using hc
   rw[if_pos hc]at hu
   have pe:=xN s i aB (by omega)
   cases he:jl s i with
   | none =>
     rw[he]at pe hu
     simp only at hu
     rw[hu]at hn
     have kO:dU (aA s)=([],2):=by rw[← hn];rfl
     rw[kO]
     (refine ae pe ?_;simp only[ad,↓Xn,↓Xo,↓Xg,↓Xd,↓Xe,↓Xf,Tryz.VΓ,Tryz.Γs,Xp,Xi,Nat.reduceAdd,Nat.reduceSub,Nat.reduceLT,Nat.reduceLeDiff,reduceIte,reduceCtorEq,Nat.reduceEqDiff,implies_true,forall_const,aa,h0,h4,h5,Option.isSome_none])
   | some v =>
     rw[he]at pe hu
     have hx:=he
     unfold jl at hx
     obtain⟨⟨a,bb,r⟩,hp,hv⟩:=Option.map_eq_some_iff.1 hx
     simp only at hv
     rw[hp]at hu
     simp only at hu
     have hi3:i+3≤s.length:=by
      obtain⟨h1,-,-⟩:=cU hp
      have:=congrArg List.length h1
      simp at this
      omega
     have tx:comb (d++[v]) (dU (aA (s.drop (i+2+1))))=dU (aA s):=by
      rw[← hn,hu,dU,gA,hv]
     simp only[Option.getD_some,Option.isSome_some]at pe
     (refine ae pe ?_;simp only[ad,↓Xn,↓Xo,↓Xg,↓Xd,↓Xe,↓Xf,Tryz.VΓ,Tryz.Γs,Xp,Xi,Nat.reduceAdd,Nat.reduceSub,Nat.reduceLT,Nat.reduceLeDiff,reduceIte,reduceCtorEq,Nat.reduceEqDiff,implies_true,forall_const,aa,h0,h4,h5])
     (rcases ht with⟨rfl,fR,yk⟩|⟨j,rfl,lN,hj⟩
      ·obtain rfl:d=[]:=by simpa using fR
       simp only[ad,↓Xn,↓Xo,↓Xg,↓Xd,↓Xe,↓Xf,Tryz.VΓ,Tryz.Γs,Xp,Xi,Nat.reduceAdd,Nat.reduceSub,Nat.reduceLT,Nat.reduceLeDiff,reduceIte,reduceCtorEq,Nat.reduceEqDiff,implies_true,forall_const,aa,h0,h4,h5,hg,aW]
       refine⟨⟨by omega,by omega⟩,by omega,⟨by unfold maxLen;omega,by omega⟩,⟨by omega,by omega⟩,sZ (i':=i+2+1) (x:=.o (b++[ax.own [da (v)] 5 1 1 true]).length 1) (d:=[]++[v]) h0 rfl (by simp only[lk,reduceIte,zMC.injEq,SV.int.injEq,true_and];omega) ⟨by omega,by simp only[zMO,zMB,zMD];omega⟩ (.inr ⟨_,rfl,by omega,aW _ _⟩) (tx) (by omega)⟩
      ·have mU:j<b.length:=(zMF.1 hj).1
       have ho:∀ X,(b++[X])[j]? = some (.own (d.map da) 5 1 d.length true):=fun X=>af hj [X]
       simp only[ad,↓Xn,↓Xo,↓Xg,↓Xd,↓Xe,↓Xf,Tryz.VΓ,Tryz.Γs,Xp,Xi,Nat.reduceAdd,Nat.reduceSub,Nat.reduceLT,Nat.reduceLeDiff,reduceIte,reduceCtorEq,Nat.reduceEqDiff,implies_true,forall_const,aa,h0,h4,h5,hg,aW,ho]
       refine⟨⟨by omega,by omega⟩,by omega,⟨by unfold maxLen;omega,by omega⟩,⟨by omega,by omega⟩,sZ (i':=i+2+1) (x:=.o (b++[ax.own [da (v)] 5 1 1 true]).length (d.length+1)) (d:=d++[v]) h0 rfl (by simp only[lk,reduceIte,zMC.injEq,SV.int.injEq,true_and];omega) ⟨by omega,by simp;omega⟩ (.inr ⟨(b++[ax.own [da (v)] 5 1 1 true]).length,by simp,by omega,by rw[zME (by simp)];simp[da]⟩) (tx) (by omega)⟩)
  ·have hc:¬ s[i]=37:=by
    rw[cH (n:=37) aB 37 rfl]at hc
    simpa using hc
   rw[if_neg hc]at hu
   rw[hu,dU,gA]at hn
   rw[hg]
   (rcases ht with⟨rfl,fR,yk⟩|⟨j,rfl,lN,hj⟩
    ·obtain rfl:d=[]:=by simpa using fR
     simp only[ad,↓Xn,↓Xo,↓Xg,↓Xd,↓Xe,↓Xf,Tryz.VΓ,Tryz.Γs,Xp,Xi,Nat.reduceAdd,Nat.reduceSub,Nat.reduceLT,Nat.reduceLeDiff,reduceIte,reduceCtorEq,Nat.reduceEqDiff,implies_true,forall_const,aa,h0,h4,h5,hg,aW]
     refine⟨ by omega,⟨by unfold maxLen;omega,by omega⟩,⟨by omega,by omega⟩,sZ (i':=i+1) (x:=.o (b++[ax.own [da (s[i])] 5 1 1 true]).length 1) (d:=[]++[s[i]]) h0 rfl (by simp only[lk,reduceIte,zMC.injEq,SV.int.injEq,true_and];omega) ⟨by omega,by simp only[zMO,zMB,zMD];omega⟩ (.inr ⟨_,rfl,by omega,aW _ _⟩) (hn) (by omega)⟩
    ·have mU:j<b.length:=(zMF.1 hj).1
     have ho:∀ X,(b++[X])[j]? = some (.own (d.map da) 5 1 d.length true):=fun X=>af hj [X]
     simp only[ad,↓Xn,↓Xo,↓Xg,↓Xd,↓Xe,↓Xf,Tryz.VΓ,Tryz.Γs,Xp,Xi,Nat.reduceAdd,Nat.reduceSub,Nat.reduceLT,Nat.reduceLeDiff,reduceIte,reduceCtorEq,Nat.reduceEqDiff,implies_true,forall_const,aa,h0,h4,h5,hg,aW,ho]
     refine⟨ by omega,⟨by unfold maxLen;omega,by omega⟩,⟨by omega,by omega⟩,sZ (i':=i+1) (x:=.o (b++[ax.own [da (s[i])] 5 1 1 true]).length (d.length+1)) (d:=d++[s[i]]) h0 rfl (by simp only[lk,reduceIte,zMC.injEq,SV.int.injEq,true_and];omega) ⟨by omega,by simp;omega⟩ (.inr ⟨(b++[ax.own [da (s[i])] 5 1 1 true]).length,by simp,by omega,by rw[zME (by simp)];simp[da]⟩) (hn) (by omega)⟩)
 ·have jv:i=s.length:=by omega
  subst jv
  rw[List.drop_length,dZ]at hn
  have kO:dU (aA s)=(d,0):=by rw[← hn];simp[dU,comb]
  rw[kO]
  rcases ht with⟨rfl,fR,yk⟩|⟨j,rfl,lN,hj⟩
  ·obtain rfl:d=[]:=by simpa using fR
   simp only[ad,↓Xn,↓Xo,↓Xg,↓Xd,↓Xe,↓Xf,Tryz.VΓ,Tryz.Γs,Xp,Xi,Nat.reduceAdd,Nat.reduceSub,Nat.reduceLT,Nat.reduceLeDiff,reduceIte,reduceCtorEq,Nat.reduceEqDiff,implies_true,forall_const,aa,h0,h4,h5]
   exact fun h=>absurd h (by simp)
  ·simp only[ad,↓Xn,↓Xo,↓Xg,↓Xd,↓Xe,↓Xf,Tryz.VΓ,Tryz.Γs,Xp,Xi,Nat.reduceAdd,Nat.reduceSub,Nat.reduceLT,Nat.reduceLeDiff,reduceIte,reduceCtorEq,Nat.reduceEqDiff,implies_true,forall_const,aa,h0,h4,h5,hj]
   refine⟨fun h=>absurd h (by simp),fun _=>⟨gS d,?_⟩⟩
   rw[gI]
theorem fk (s:Bytes):PC Tryz.V 72 [.str s] (.eS [.str (aj s).1,.int .i64 (aj s).2]):=by
 have hpd:aj s=if 16384<s.length then([],5) else dU (aA s):=by unfold aj;rw[og]
 rw[hpd]
 refine aQ 3000 Tryz.func72 rfl Tryz.ntmps72 Tryz.results72 Tryz.call72 (by simp) (by simp[flat,flat.ai]) (by simp[flat,flat.ai]) ?_
 simp only[ad,↓Xn,↓Xo,↓Xg,↓Xd,↓Xe,↓Xf,Tryz.VΓ,Tryz.Γs,Xp,Xi,Nat.reduceAdd,Nat.reduceSub,Nat.reduceLT,Nat.reduceLeDiff,reduceIte,reduceCtorEq,Nat.reduceEqDiff,implies_true,forall_const,aa]
 refine⟨fun hl=>?_,fun hl=>?_⟩
 ·have hl:16384<s.length:=(by simp at hl;omega)
  rw[if_pos hl]
 have hl:s.length≤16384:=(by simp at hl;omega)
 rw[if_neg (by omega)]
 refine aM (DcI s) (DcM s) ⟨0,.aE,[],rfl,rfl,rfl,by omega,by simp,.inl ⟨rfl,rfl,rfl⟩,qW _ (yx _)⟩ ?_
 rintro⟨t,b⟩ ⟨i,x,d,h0,h4,h5,hi,hd,ht,hn⟩
 simp only at h0 h4 h5 ht
 rw[EC h5]
 by_cases aB:i<s.length
 ·have hu:=lO aB
  have hg:s.getD i 0=s[i]:=by simp[zMI,aB]
  simp only[ad,↓Xn,↓Xo,↓Xg,↓Xd,↓Xe,↓Xf,Tryz.VΓ,Tryz.Γs,Xp,Xi,Nat.reduceAdd,Nat.reduceSub,Nat.reduceLT,Nat.reduceLeDiff,reduceIte,reduceCtorEq,Nat.reduceEqDiff,implies_true,forall_const,aa,h0,h4,h5]
  refine⟨fun _=>⟨⟨by omega,by omega⟩,fun hc=>?_,fun hc=>?_⟩,fun h=>absurd h (by simp;omega)⟩
  ·have hc:s[i]=37:=by
    rw[cH (n:=37) aB 37 rfl]at hc
    simpa using hc
   rw[if_pos hc]at hu
   have pe:=sG s i aB hc (by omega)
   cases he:jl s i with
   | none =>
     rw[he]at pe hu
     simp only at hu
     rw[hu]at hn
     have kO:dU (aA s)=([],2):=by rw[← hn];rfl
     rw[kO]
     (refine ae pe ?_;simp only[ad,↓Xn,↓Xo,↓Xg,↓Xd,↓Xe,↓Xf,Tryz.VΓ,Tryz.Γs,Xp,Xi,Nat.reduceAdd,Nat.reduceSub,Nat.reduceLT,Nat.reduceLeDiff,reduceIte,reduceCtorEq,Nat.reduceEqDiff,implies_true,forall_const,aa,h0,h4,h5,Option.isSome_none])
   | some v =>
     rw[he]at pe hu
     have hx:=he
     unfold jl at hx
     obtain⟨⟨a,bb,r⟩,hp,hv⟩:=Option.map_eq_some_iff.1 hx
     simp only at hv
     rw[hp]at hu
     simp only at hu
     have hi3:i+3≤s.length:=by
      obtain⟨h1,-,-⟩:=cU hp
      have:=congrArg List.length h1
      simp at this
      omega
     have tx:comb (d++[v]) (dU (aA (s.drop (i+2+1))))=dU (aA s):=by
      rw[← hn,hu,dU,gA,hv]
     simp only[Option.getD_some,Option.isSome_some]at pe
     (refine ae pe ?_;simp only[ad,↓Xn,↓Xo,↓Xg,↓Xd,↓Xe,↓Xf,Tryz.VΓ,Tryz.Γs,Xp,Xi,Nat.reduceAdd,Nat.reduceSub,Nat.reduceLT,Nat.reduceLeDiff,reduceIte,reduceCtorEq,Nat.reduceEqDiff,implies_true,forall_const,aa,h0,h4,h5])
     (rcases ht with⟨rfl,fR,yk⟩|⟨j,rfl,lN,hj⟩
      ·obtain rfl:d=[]:=by simpa using fR
       simp only[ad,↓Xn,↓Xo,↓Xg,↓Xd,↓Xe,↓Xf,Tryz.VΓ,Tryz.Γs,Xp,Xi,Nat.reduceAdd,Nat.reduceSub,Nat.reduceLT,Nat.reduceLeDiff,reduceIte,reduceCtorEq,Nat.reduceEqDiff,implies_true,forall_const,aa,h0,h4,h5,hg,aW]
       refine⟨⟨by omega,by omega⟩,by omega,⟨by unfold maxLen;omega,by omega⟩,⟨by omega,by omega⟩,sZ (i':=i+2+1) (x:=.o (b++[ax.own [da (v)] 5 1 1 true]).length 1) (d:=[]++[v]) h0 rfl (by simp only[lk,reduceIte,zMC.injEq,SV.int.injEq,true_and];omega) ⟨by omega,by simp only[zMO,zMB,zMD];omega⟩ (.inr ⟨_,rfl,by omega,aW _ _⟩) (tx) (by omega)⟩
      ·have mU:j<b.length:=(zMF.1 hj).1
       have ho:∀ X,(b++[X])[j]? = some (.own (d.map da) 5 1 d.length true):=fun X=>af hj [X]
       simp only[ad,↓Xn,↓Xo,↓Xg,↓Xd,↓Xe,↓Xf,Tryz.VΓ,Tryz.Γs,Xp,Xi,Nat.reduceAdd,Nat.reduceSub,Nat.reduceLT,Nat.reduceLeDiff,reduceIte,reduceCtorEq,Nat.reduceEqDiff,implies_true,forall_const,aa,h0,h4,h5,hg,aW,ho]
       refine⟨⟨by omega,by omega⟩,by omega,⟨by unfold maxLen;omega,by omega⟩,⟨by omega,by omega⟩,sZ (i':=i+2+1) (x:=.o (b++[ax.own [da (v)] 5 1 1 true]).length (d.length+1)) (d:=d++[v]) h0 rfl (by simp only[lk,reduceIte,zMC.injEq,SV.int.injEq,true_and];omega) ⟨by omega,by simp;omega⟩ (.inr ⟨(b++[ax.own [da (v)] 5 1 1 true]).length,by simp,by omega,by rw[zME (by simp)];simp[da]⟩) (tx) (by omega)⟩)
  ·have hc:¬ s[i]=37:=by
    rw[cH (n:=37) aB 37 rfl]at hc
    simpa using hc
   rw[if_neg hc]at hu
   rw[hu,dU,gA]at hn
   rw[hg]
   (rcases ht with⟨rfl,fR,yk⟩|⟨j,rfl,lN,hj⟩
    ·obtain rfl:d=[]:=by simpa using fR
     simp only[ad,↓Xn,↓Xo,↓Xg,↓Xd,↓Xe,↓Xf,Tryz.VΓ,Tryz.Γs,Xp,Xi,Nat.reduceAdd,Nat.reduceSub,Nat.reduceLT,Nat.reduceLeDiff,reduceIte,reduceCtorEq,Nat.reduceEqDiff,implies_true,forall_const,aa,h0,h4,h5,hg,aW]
     refine⟨ by omega,⟨by unfold maxLen;omega,by omega⟩,⟨by omega,by omega⟩,sZ (i':=i+1) (x:=.o (b++[ax.own [da (s[i])] 5 1 1 true]).length 1) (d:=[]++[s[i]]) h0 rfl (by simp only[lk,reduceIte,zMC.injEq,SV.int.injEq,true_and];omega) ⟨by omega,by simp only[zMO,zMB,zMD];omega⟩ (.inr ⟨_,rfl,by omega,aW _ _⟩) (hn) (by omega)⟩
    ·have mU:j<b.length:=(zMF.1 hj).1
     have ho:∀ X,(b++[X])[j]? = some (.own (d.map da) 5 1 d.length true):=fun X=>af hj [X]
     simp only[ad,↓Xn,↓Xo,↓Xg,↓Xd,↓Xe,↓Xf,Tryz.VΓ,Tryz.Γs,Xp,Xi,Nat.reduceAdd,Nat.reduceSub,Nat.reduceLT,Nat.reduceLeDiff,reduceIte,reduceCtorEq,Nat.reduceEqDiff,implies_true,forall_const,aa,h0,h4,h5,hg,aW,ho]
     refine⟨ by omega,⟨by unfold maxLen;omega,by omega⟩,⟨by omega,by omega⟩,sZ (i':=i+1) (x:=.o (b++[ax.own [da (s[i])] 5 1 1 true]).length (d.length+1)) (d:=d++[s[i]]) h0 rfl (by simp only[lk,reduceIte,zMC.injEq,SV.int.injEq,true_and];omega) ⟨by omega,by simp;omega⟩ (.inr ⟨(b++[ax.own [da (s[i])] 5 1 1 true]).length,by simp,by omega,by rw[zME (by simp)];simp[da]⟩) (hn) (by omega)⟩)
 ·have jv:i=s.length:=by omega
  subst jv
  rw[List.drop_length,dZ]at hn
  have kO:dU (aA s)=(d,0):=by rw[← hn];simp[dU,comb]
  rw[kO]
  rcases ht with⟨rfl,fR,yk⟩|⟨j,rfl,lN,hj⟩
  ·obtain rfl:d=[]:=by simpa using fR
   simp only[ad,↓Xn,↓Xo,↓Xg,↓Xd,↓Xe,↓Xf,Tryz.VΓ,Tryz.Γs,Xp,Xi,Nat.reduceAdd,Nat.reduceSub,Nat.reduceLT,Nat.reduceLeDiff,reduceIte,reduceCtorEq,Nat.reduceEqDiff,implies_true,forall_const,aa,h0,h4,h5]
   exact fun h=>absurd h (by simp)
  ·simp only[ad,↓Xn,↓Xo,↓Xg,↓Xd,↓Xe,↓Xf,Tryz.VΓ,Tryz.Γs,Xp,Xi,Nat.reduceAdd,Nat.reduceSub,Nat.reduceLT,Nat.reduceLeDiff,reduceIte,reduceCtorEq,Nat.reduceEqDiff,implies_true,forall_const,aa,h0,h4,h5,hj]
   refine⟨fun h=>absurd h (by simp),fun _=>⟨gS d,?_⟩⟩
   rw[gI]
theorem Cy {bW s:Bytes}{i:Nat}(h:i<s.length):aF bW (s.take (i+1))=aF bW (s.take i)++iF bW s[i]:=by
 unfold aF
 rw[List.take_succ_eq_append_getElem h,List.flatMap_append,List.flatMap_cons,List.flatMap_nil,List.append_nil]
theorem sub_one {s:Bytes}{i:Nat}(h:i<s.length):(s.take (i+1)).drop i=[s[i]]:=by
 rw[List.take_succ_eq_append_getElem h]
 exact List.drop_left' (by simp;omega)
def ReI (bW s:Bytes)(σ:St):Prop:=∃ i:Nat,i≤s.length∧lk 0 σ.t=some (.str s)∧lk 1 σ.t=some (.str bW)∧lk 5 σ.t=some (.str (aF bW (s.take i)))∧lk 6 σ.t=some (.int .i64 i)
def ReM (s:Bytes)(σ:St):Nat:=match lk 6 σ.t with
 | some (.int _ k)=>s.length - k.toNat
 | _=>0
theorem Kc {s:Bytes}{σ:St}{k:Nat}(h:lk 6 σ.t=some (.int .i64 k)):ReM s σ=s.length - k:=by simp[ReM,h]
theorem qU (bW s:Bytes)(i:Nat):(aF bW (s.take i)).length≤3 * s.length:=by
 have:=dQ bW (s.take i)
 have:(s.take i).length≤s.length:=by simp;omega
 omega
theorem ER {bW s:Bytes}{t:List (Nat × SV)}{b:List ax}{i:Nat}(hi:i<s.length)(h0:lk 0 t=some (.str s))(h1:lk 1 t=some (.str bW))(h5:lk 5 t=some (.str (aF bW (s.take i)++iF bW s[i])))(h6:lk 6 t=some (.int .i64 (i+1:Nat))):ReI bW s ⟨t,b⟩∧ReM s ⟨t,b⟩<s.length - i :=
 ⟨⟨i+1,by omega,h0,h1,by rw[Cy hi];exact h5,h6⟩,by rw[Kc h6];omega⟩
theorem sH (s bW:Bytes)(hs:s.length≤1000000)(hk:bW.length≤1000):PC Tryz.V 75 [.str s,.str bW] (.str (aF bW s)):=by
 refine aQ 3000 Tryz.func75 rfl Tryz.ntmps75 Tryz.results75 Tryz.call75 (by simp) (by simp[flat,flat.ai]) (by simp[flat,flat.ai]) ?_
 simp only[ad,↓Xn,↓Xo,↓Xg,↓Xd,↓Xe,↓Xf,Tryz.VΓ,Tryz.Γs,Xp,Xi,Nat.reduceAdd,Nat.reduceSub,Nat.reduceLT,Nat.reduceLeDiff,reduceIte,reduceCtorEq,Nat.reduceEqDiff,implies_true,forall_const,aa]
 refine aM (ReI bW s) (ReM s) ⟨0,by omega,rfl,rfl,rfl,rfl⟩ ?_
 rintro⟨t,b⟩ ⟨i,hi,h0,h1,h5,h6⟩
 simp only at h0 h1 h5 h6
 rw[Kc h6]
 have mJ:=qU bW s i
 by_cases aB:i<s.length
 ·have hg:s.getD i 0=s[i]:=by simp[zMI,aB]
  have Jd:((s[i].toNat:Int) != 37)=(s[i] != 37):=by
   have h:=cH (s:=s) aB 37 (n:=37) rfl
   rw[hg]at h
   show (!((s[i].toNat:Int)==37))=!(s[i]==37)
   rw[h]
  have hb:iF bW s[i]=if eY s[i]||(s[i] != 37&&bW.contains s[i]) then [s[i]] else ka s[i]:=rfl
  simp only[ad,↓Xn,↓Xo,↓Xg,↓Xd,↓Xe,↓Xf,Tryz.VΓ,Tryz.Γs,Xp,Xi,Nat.reduceAdd,Nat.reduceSub,Nat.reduceLT,Nat.reduceLeDiff,reduceIte,reduceCtorEq,Nat.reduceEqDiff,implies_true,forall_const,aa,h0,h1,h5,h6]
  refine⟨fun _=>⟨⟨by omega,by omega⟩,?_⟩,fun h=>absurd h (by simp;omega)⟩
  rw[hg]
  (refine ae (dh s[i]) ?_;simp only[ad,↓Xn,↓Xo,↓Xg,↓Xd,↓Xe,↓Xf,Tryz.VΓ,Tryz.Γs,Xp,Xi,Nat.reduceAdd,Nat.reduceSub,Nat.reduceLT,Nat.reduceLeDiff,reduceIte,reduceCtorEq,Nat.reduceEqDiff,implies_true,forall_const,aa,h0,h1,h5,h6,hg])
  refine⟨fun hq=>⟨⟨by omega,by omega⟩,fun wu=>⟨⟨by omega,by omega⟩,?_⟩,fun wu=>⟨⟨by omega,by omega⟩,?_⟩⟩,fun hq=>?_⟩
  ·have e2:List.contains bW s[i]=false→iF bW s[i]=ka s[i]:=fun nW=>by rw[hb,hq,nW];simp
   have e1:List.contains bW s[i]=true→iF bW s[i]=(s.take (i+1)).drop i:=fun nW=>by rw[hb,nW,← Jd,wu,sub_one aB];simp
   (refine ae (kx s[i] bW (by omega)) ?_;simp only[ad,↓Xn,↓Xo,↓Xg,↓Xd,↓Xe,↓Xf,Tryz.VΓ,Tryz.Γs,Xp,Xi,Nat.reduceAdd,Nat.reduceSub,Nat.reduceLT,Nat.reduceLeDiff,reduceIte,reduceCtorEq,Nat.reduceEqDiff,implies_true,forall_const,aa,h0,h1,h5,h6,hg])
   refine⟨fun nW=>⟨⟨by omega,by omega⟩,⟨by omega,by omega,by omega⟩,by rw[sub_one aB,List.length_singleton];omega,⟨by omega,by omega⟩,ER aB h0 h1 (by rw[e1 nW];rfl) (by simp only[lk,reduceIte,zMC.injEq,SV.int.injEq,true_and];omega)⟩,fun nW=>⟨⟨by omega,by omega⟩,?_⟩⟩
   (refine ae (kv s[i]) ?_;simp only[ad,↓Xn,↓Xo,↓Xg,↓Xd,↓Xe,↓Xf,Tryz.VΓ,Tryz.Γs,Xp,Xi,Nat.reduceAdd,Nat.reduceSub,Nat.reduceLT,Nat.reduceLeDiff,reduceIte,reduceCtorEq,Nat.reduceEqDiff,implies_true,forall_const,aa,h0,h1,h5,h6,hg])
   exact⟨by rw[show (ka s[i]).length=3 from rfl];omega,⟨by omega,by omega⟩,ER aB h0 h1 (by rw[e2 nW];rfl) (by simp only[lk,reduceIte,zMC.injEq,SV.int.injEq,true_and];omega)⟩
  ·have e2:iF bW s[i]=ka s[i]:=by rw[hb,hq,← Jd,wu];simp
   (refine ae (kv s[i]) ?_;simp only[ad,↓Xn,↓Xo,↓Xg,↓Xd,↓Xe,↓Xf,Tryz.VΓ,Tryz.Γs,Xp,Xi,Nat.reduceAdd,Nat.reduceSub,Nat.reduceLT,Nat.reduceLeDiff,reduceIte,reduceCtorEq,Nat.reduceEqDiff,implies_true,forall_const,aa,h0,h1,h5,h6,hg])
   exact⟨by rw[show (ka s[i]).length=3 from rfl];omega,⟨by omega,by omega⟩,ER aB h0 h1 (by rw[e2];rfl) (by simp only[lk,reduceIte,zMC.injEq,SV.int.injEq,true_and];omega)⟩
  ·have e1:iF bW s[i]=(s.take (i+1)).drop i:=by rw[hb,hq,sub_one aB];simp
   exact⟨⟨by omega,by omega⟩,⟨by omega,by omega,by omega⟩,by rw[sub_one aB,List.length_singleton];omega,⟨by omega,by omega⟩,ER aB h0 h1 (by rw[e1];rfl) (by simp only[lk,reduceIte,zMC.injEq,SV.int.injEq,true_and];omega)⟩
 ·have jv:i=s.length:=by omega
  subst jv
  rw[zMN]at h5
  simp only[ad,↓Xn,↓Xo,↓Xg,↓Xd,↓Xe,↓Xf,Tryz.VΓ,Tryz.Γs,Xp,Xi,Nat.reduceAdd,Nat.reduceSub,Nat.reduceLT,Nat.reduceLeDiff,reduceIte,reduceCtorEq,Nat.reduceEqDiff,implies_true,forall_const,aa,h0,h1,h5,h6]
  exact fun h=>absurd h (by simp)
def PeI (bW s:Bytes)(σ:St):Prop:=∃ (i:Nat) (x:SV),i≤s.length∧lk 0 σ.t=some (.str s)∧lk 1 σ.t=some (.str bW)∧lk 5 σ.t=some (.p 0 0)∧lk 9 σ.t=some (.int .i64 s.length)∧lk 10 σ.t=some (.int .i64 i)∧1≤σ.b.length∧tE σ.b 0 1 x (aF bW (s.take i))
def PeM (s:Bytes)(σ:St):Nat:=match lk 10 σ.t with
 | some (.int _ k)=>s.length - k.toNat
 | _=>0
theorem Kf {s:Bytes}{σ:St}{k:Nat}(h:lk 10 σ.t=some (.int .i64 k)):PeM s σ=s.length - k:=by simp[PeM,h]
theorem xJ {bW s:Bytes}{t:List (Nat × SV)}{b:List ax}{i:Nat}{x:SV}(hi:i<s.length)(h0:lk 0 t=some (.str s))(h1:lk 1 t=some (.str bW))(h5:lk 5 t=some (.p 0 0))(h9:lk 9 t=some (.int .i64 s.length))(fy:lk 10 t=some (.int .i64 (i+1:Nat)))(hb:1≤b.length)(ht:tE b 0 1 x (aF bW (s.take i)++iF bW s[i])):PeI bW s ⟨t,b⟩∧PeM s ⟨t,b⟩<s.length - i :=
 ⟨⟨i+1,x,by omega,h0,h1,h5,h9,fy,hb,by rw[Cy hi];exact ht⟩,by rw[Kf fy];omega⟩
theorem uC (s bW:Bytes)(hs:s.length≤300000):PC Tryz.V 148 [.str s,.str bW] (.str (aF bW s)):=by
 refine aQ 3000 Tryz.func148 rfl Tryz.ntmps148 Tryz.results148 Tryz.call148 (by simp) (by simp[flat,flat.ai]) (by simp[flat,flat.ai]) ?_
 simp only[ad,↓Xn,↓Xo,↓Xg,↓Xd,↓Xe,↓Xf,Tryz.VΓ,Tryz.Γs,Xp,Xi,Nat.reduceAdd,Nat.reduceSub,Nat.reduceLT,Nat.reduceLeDiff,reduceIte,reduceCtorEq,Nat.reduceEqDiff,implies_true,forall_const,aa]
 refine aM (PeI bW s) (PeM s) ⟨0,.aE,by omega,rfl,rfl,rfl,rfl,rfl,by simp,⟨rfl,.inl ⟨rfl,rfl,rfl⟩,by omega⟩⟩ ?_
 rintro⟨t,b⟩ ⟨i,x,hi,h0,h1,h5,h9,fy,mQ,ht⟩
 simp only at h0 h1 h5 h9 fy mQ ht
 rw[Kf fy]
 have mJ:=qU bW s i
 have gG:=ht.box
 by_cases aB:i<s.length
 ·have hg:s.getD i 0=s[i]:=by simp[zMI,aB]
  have Jd:((s[i].toNat:Int) != 37)=(s[i] != 37):=by
   have h:=cH (s:=s) aB 37 (n:=37) rfl
   rw[hg]at h
   show (!((s[i].toNat:Int)==37))=!(s[i]==37)
   rw[h]
  have hb:iF bW s[i]=if eY s[i]||(s[i] != 37&&bW.contains s[i]) then [s[i]] else ka s[i]:=rfl
  simp only[ad,↓Xn,↓Xo,↓Xg,↓Xd,↓Xe,↓Xf,Tryz.VΓ,Tryz.Γs,Xp,Xi,Nat.reduceAdd,Nat.reduceSub,Nat.reduceLT,Nat.reduceLeDiff,reduceIte,reduceCtorEq,Nat.reduceEqDiff,implies_true,forall_const,aa,h0,h1,h5,h9,fy]
  refine⟨fun _=>⟨⟨by omega,by omega⟩,?_⟩,fun h=>absurd h (by simp;omega)⟩
  rw[hg]
  (refine ae (fm s[i]) ?_;simp only[ad,↓Xn,↓Xo,↓Xg,↓Xd,↓Xe,↓Xf,Tryz.VΓ,Tryz.Γs,Xp,Xi,Nat.reduceAdd,Nat.reduceSub,Nat.reduceLT,Nat.reduceLeDiff,reduceIte,reduceCtorEq,Nat.reduceEqDiff,implies_true,forall_const,aa,h0,h1,h5,h9,fy,hg])
  refine⟨fun hq=>⟨fun wu=>?_,fun wu=>?_⟩,fun hq=>?_⟩
  ·(refine ae (dI bW s[i]) ?_;simp only[ad,↓Xn,↓Xo,↓Xg,↓Xd,↓Xe,↓Xf,Tryz.VΓ,Tryz.Γs,Xp,Xi,Nat.reduceAdd,Nat.reduceSub,Nat.reduceLT,Nat.reduceLeDiff,reduceIte,reduceCtorEq,Nat.reduceEqDiff,implies_true,forall_const,aa,h0,h1,h5,h9,fy,hg])
   rw[qG]
   refine⟨fun nW=>?_,fun nW=>?_⟩
   ·have e1:iF bW s[i]=[s[i]]:=by rw[hb,nW,← Jd,wu];simp
    (rcases ht.sl with⟨rfl,fR,yk⟩|⟨j,rfl,lN,hj⟩
     ·have ho:∀ X,(b++[X])[0]? = some (.cells [.aE] 174 true):=fun X=>af gG [X]
      have kU:∀ X Y,(b++[X]++[Y])[0]? = some (.cells [.aE] 174 true):=fun X Y=>af (ho X) [Y]
      simp only[ad,↓Xn,↓Xo,↓Xg,↓Xd,↓Xe,↓Xf,Tryz.VΓ,Tryz.Γs,Xp,Xi,Nat.reduceAdd,Nat.reduceSub,Nat.reduceLT,Nat.reduceLeDiff,reduceIte,reduceCtorEq,Nat.reduceEqDiff,implies_true,forall_const,aa,h0,h1,h5,h9,fy,gG,aW,ho,kU]
      exact⟨by omega,⟨by unfold maxLen;omega,by omega⟩,⟨by omega,by omega⟩,xJ (x:=.o (b++[ax.own [da s[i]] 5 1 1 true]).length 1) aB h0 h1 h5 h9 (by simp only[lk,reduceIte,zMC.injEq,SV.int.injEq,true_and];omega) (by simp) (by rw[e1];exact qa ht mQ s[i] rfl)⟩
     ·have ho:∀ X,(b++[X])[j]? = some (.own ((aF bW (s.take i)).map da) 5 1 (aF bW (s.take i)).length true):=fun X=>af hj [X]
      have kU:∀ X Y,((b++[X]).set j .gone++[Y])[0]? = some (.cells [.o j (aF bW (s.take i)).length] 174 true):=fun X Y=>by
       rw[List.getElem?_append_left (by simp),List.getElem?_set_ne (by omega)];exact af gG [X]
      simp only[ad,↓Xn,↓Xo,↓Xg,↓Xd,↓Xe,↓Xf,Tryz.VΓ,Tryz.Γs,Xp,Xi,Nat.reduceAdd,Nat.reduceSub,Nat.reduceLT,Nat.reduceLeDiff,reduceIte,reduceCtorEq,Nat.reduceEqDiff,implies_true,forall_const,aa,h0,h1,h5,h9,fy,gG,aW,ho,kU]
      exact⟨by omega,⟨by unfold maxLen;omega,by omega⟩,⟨by omega,by omega⟩,xJ (x:=.o (b++[ax.own [da s[i]] 5 1 1 true]).length ((aF bW (s.take i)).length+1)) aB h0 h1 h5 h9 (by simp only[lk,reduceIte,zMC.injEq,SV.int.injEq,true_and];omega) (by simp) (by rw[e1];exact ni ht mQ s[i] lN)⟩)
   ·have e2:iF bW s[i]=ka s[i]:=by rw[hb,hq,nW];simp
    (refine aJ (rE ht mQ (by omega) s[i]) ?_
     rintro r b' ⟨rfl,x',ht',hbl',-⟩
     simp only[ad,↓Xn,↓Xo,↓Xg,↓Xd,↓Xe,↓Xf,Tryz.VΓ,Tryz.Γs,Xp,Xi,Nat.reduceAdd,Nat.reduceSub,Nat.reduceLT,Nat.reduceLeDiff,reduceIte,reduceCtorEq,Nat.reduceEqDiff,implies_true,forall_const,aa,h0,h1,h5,h9,fy]
     exact⟨⟨by omega,by omega⟩,xJ aB h0 h1 h5 h9 (by simp only[lk,reduceIte,zMC.injEq,SV.int.injEq,true_and];omega) (by omega) (by rw[e2];exact ht')⟩)
  ·have e2:iF bW s[i]=ka s[i]:=by rw[hb,hq,← Jd,wu];simp
   (refine aJ (rE ht mQ (by omega) s[i]) ?_
    rintro r b' ⟨rfl,x',ht',hbl',-⟩
    simp only[ad,↓Xn,↓Xo,↓Xg,↓Xd,↓Xe,↓Xf,Tryz.VΓ,Tryz.Γs,Xp,Xi,Nat.reduceAdd,Nat.reduceSub,Nat.reduceLT,Nat.reduceLeDiff,reduceIte,reduceCtorEq,Nat.reduceEqDiff,implies_true,forall_const,aa,h0,h1,h5,h9,fy]
    exact⟨⟨by omega,by omega⟩,xJ aB h0 h1 h5 h9 (by simp only[lk,reduceIte,zMC.injEq,SV.int.injEq,true_and];omega) (by omega) (by rw[e2];exact ht')⟩)
  ·have e1:iF bW s[i]=[s[i]]:=by rw[hb,hq];simp
   (rcases ht.sl with⟨rfl,fR,yk⟩|⟨j,rfl,lN,hj⟩
    ·have ho:∀ X,(b++[X])[0]? = some (.cells [.aE] 174 true):=fun X=>af gG [X]
     have kU:∀ X Y,(b++[X]++[Y])[0]? = some (.cells [.aE] 174 true):=fun X Y=>af (ho X) [Y]
     simp only[ad,↓Xn,↓Xo,↓Xg,↓Xd,↓Xe,↓Xf,Tryz.VΓ,Tryz.Γs,Xp,Xi,Nat.reduceAdd,Nat.reduceSub,Nat.reduceLT,Nat.reduceLeDiff,reduceIte,reduceCtorEq,Nat.reduceEqDiff,implies_true,forall_const,aa,h0,h1,h5,h9,fy,gG,aW,ho,kU]
     exact⟨by omega,⟨by unfold maxLen;omega,by omega⟩,⟨by omega,by omega⟩,xJ (x:=.o (b++[ax.own [da s[i]] 5 1 1 true]).length 1) aB h0 h1 h5 h9 (by simp only[lk,reduceIte,zMC.injEq,SV.int.injEq,true_and];omega) (by simp) (by rw[e1];exact qa ht mQ s[i] rfl)⟩
    ·have ho:∀ X,(b++[X])[j]? = some (.own ((aF bW (s.take i)).map da) 5 1 (aF bW (s.take i)).length true):=fun X=>af hj [X]
     have kU:∀ X Y,((b++[X]).set j .gone++[Y])[0]? = some (.cells [.o j (aF bW (s.take i)).length] 174 true):=fun X Y=>by
      rw[List.getElem?_append_left (by simp),List.getElem?_set_ne (by omega)];exact af gG [X]
     simp only[ad,↓Xn,↓Xo,↓Xg,↓Xd,↓Xe,↓Xf,Tryz.VΓ,Tryz.Γs,Xp,Xi,Nat.reduceAdd,Nat.reduceSub,Nat.reduceLT,Nat.reduceLeDiff,reduceIte,reduceCtorEq,Nat.reduceEqDiff,implies_true,forall_const,aa,h0,h1,h5,h9,fy,gG,aW,ho,kU]
     exact⟨by omega,⟨by unfold maxLen;omega,by omega⟩,⟨by omega,by omega⟩,xJ (x:=.o (b++[ax.own [da s[i]] 5 1 1 true]).length ((aF bW (s.take i)).length+1)) aB h0 h1 h5 h9 (by simp only[lk,reduceIte,zMC.injEq,SV.int.injEq,true_and];omega) (by simp) (by rw[e1];exact ni ht mQ s[i] lN)⟩)
 ·have jv:i=s.length:=by omega
  subst jv
  rw[zMN]at ht
  rcases ht.sl with⟨rfl,fR,yk⟩|⟨j,rfl,lN,hj⟩
  ·have hd:aF bW s=[]:=by simpa using fR
   simp only[ad,↓Xn,↓Xo,↓Xg,↓Xd,↓Xe,↓Xf,Tryz.VΓ,Tryz.Γs,Xp,Xi,Nat.reduceAdd,Nat.reduceSub,Nat.reduceLT,Nat.reduceLeDiff,reduceIte,reduceCtorEq,Nat.reduceEqDiff,implies_true,forall_const,aa,h0,h1,h5,h9,fy,gG]
   exact⟨fun h=>absurd h (by simp),fun _=>by rw[hd]⟩
  ·simp only[ad,↓Xn,↓Xo,↓Xg,↓Xd,↓Xe,↓Xf,Tryz.VΓ,Tryz.Γs,Xp,Xi,Nat.reduceAdd,Nat.reduceSub,Nat.reduceLT,Nat.reduceLeDiff,reduceIte,reduceCtorEq,Nat.reduceEqDiff,implies_true,forall_const,aa,h0,h1,h5,h9,fy,gG,hj]
   exact⟨fun h=>absurd h (by simp),fun _=>⟨gS _,by rw[gI]⟩⟩
end Go.Proofs.YteipdaijbncgeaaGreatDoor
namespace Wf
open Go Go.RowKit
structure mC where
 loc:Bytes
 host:Bytes
 deriving DecidableEq
def mC.none:mC:=⟨[],[]⟩
def J5:Bytes:=[33,35,36,37,38,39,42,43,45,47,61,63,94,95,96,123,124,125,126]
def mL (c:UInt8):Bool:=isAlpha c||isDigit c||J5.contains c
def gg (s:Bytes):Bool:=!s.isEmpty&&s.all mL
def jt (s:Bytes):Bool:=(aC 46 s).all gg&&decide (s.length≤64)
def la:Bytes:=[109,97,105,108,116,111,58]
def BN:Bytes:=[33,36,39,42,43]
def fO:Bytes:=[37,33,36,39,42,43]
def iw (c:UInt8):Bool:=eY c||fO.contains c
def zx (l:Bytes × Int)(h:Bytes × Int):mC × Int :=
 if l.2≠0 then(mC.none,l.2)
 else if jt l.1=false then(mC.none,80)
 else if h.2≠0 then(mC.none,h.2)
 else if ipv4 h.1=true then(mC.none,50)
 else(⟨l.1,h.1⟩,0)
def qC (s:Bytes):mC × Int :=
 if (aL 64 s).2.2=false∨(63:UInt8)∈s∨(35:UInt8)∈s then(mC.none,6)
 else if (aL 64 s).1.all iw=false then(mC.none,1)
 else zx (aj (aL 64 s).1) (bB (aL 64 s).2.1)
def bT (s:Bytes):mC × Int :=
 if 4096<s.length then(mC.none,5)
 else if s.length<7∨lower (s.take 7)≠la then(mC.none,60)
 else qC (s.drop 7)
def nL (m:mC):Bytes:=la++aF BN m.loc++[64]++m.host
theorem Bw {s:Bytes}(h:jt s=true):s.length≤64:=by
 unfold jt at h
 simp only[Bool.and_eq_true,decide_eq_true_eq]at h
 exact h.2
structure CanMail (m:mC):Prop where
 loc:jt m.loc=true
 host:bB m.host=(m.host,0)
 no:ipv4 m.host=false
theorem Iy {s:Bytes}{m:mC}(h:bT s=(m,0)):CanMail m:=by
 unfold bT at h
 split at h
 ·simp at h
 split at h
 ·simp at h
 unfold qC at h
 split at h
 ·simp at h
 split at h
 ·simp at h
 unfold zx at h
 split at h
 ·rename_i h5;exact absurd (Prod.mk.inj h).2 h5
 split at h
 ·simp at h
 rename_i h6
 split at h
 ·rename_i h5;exact absurd (Prod.mk.inj h).2 h5
 split at h
 ·simp at h
 rename_i h7 h8
 simp only[Prod.mk.injEq,and_true]at h
 subst h
 have e:bB (aL 64 (s.drop 7)).2.1=((bB (aL 64 (s.drop 7)).2.1).1,0):=by
  have:(bB (aL 64 (s.drop 7)).2.1).2=0:=by simpa using h7
  rw[← this]
 exact⟨by simpa using h6,(nT e).2.2,by simpa using h8⟩
def lf:Bool→Bytes→Bool
 | dot,[]=>!dot
 | dot,c::r=>if (c != 46&&!mL c)||(c==46&&dot) then false else lf (c==46) r
theorem FJ {c:UInt8}(h:mL c=true):c≠46:=by rintro rfl;revert h;decide
theorem nM:∀ (s cur:Bytes),cur.all mL=true→lf cur.isEmpty s=(aC 46 (cur++s)).all gg
 | [],cur,h=>by
   have hn:(46:UInt8) ∉ cur:=fun k=>FJ (zMQ.1 h _ k) rfl
   rw[List.append_nil,ch (by rw[eL hn];omega)]
   simp[lf,gg,h]
 | c::r,cur,h=>by
   have hn:(46:UInt8) ∉ cur:=fun k=>FJ (zMQ.1 h _ k) rfl
   rw[lf]
   by_cases hc:c=46
   ·subst hc
    have hp:pre (·==46) (cur++46::r)=cur.length:=tJ (eL hn) 46 r (by decide)
    rw[cJ (by rw[hp];simp),hp,List.take_left,← List.drop_drop,List.drop_left,List.drop_succ_cons,List.drop_zero,List.all_cons]
    have ih:=nM r [] rfl
    rw[zMO]at ih
    rw[← ih]
    have ha:gg cur=!cur.isEmpty:=by simp[gg,h]
    rw[ha]
    cases cur <;> simp
   ·by_cases ha:mL c=true
    ·rw[if_neg (by simp[hc,ha])]
     have ih:=nM r (cur++[c]) (by simp[h,ha])
     rw[List.append_assoc,List.singleton_append]at ih
     rw[← ih]
     have:(c==46)=false:=by simpa using hc
     rw[this]
     cases cur <;> rfl
    ·rw[if_pos (by simp[hc,ha])]
     symm
     rw[← Bool.not_eq_true]
     intro aR
     rcases pI 46 _ (cur++c::r) (zMJ _) c (by simp) with h1|⟨x,h1,h2⟩
     ·exact hc h1
     ·have:=zMQ.1 aR x h1
      unfold gg at this
      simp only[Bool.and_eq_true]at this
      exact ha (zMQ.1 this.2 c h2)
theorem DV (s:Bytes):jt s=(lf true s&&decide (s.length≤64)):=by
 have:=nM s [] rfl
 rw[zMO]at this
 unfold jt
 rw[← this];rfl
end Wf
namespace Go.Proofs.YteipdaijbncgeaaGreatDoor
open Go.RowKit Wf
attribute [local go_sem] fJ eQ get_list
theorem zv (c:UInt8)(w:World)(h:bp c=true):Calls Tryz.prog 216 #[.int .u8 c.toNat] w fun e w'=>e=.returned (.int .u64 (cB c))∧w=w':=by
 cases hd:isDigit c
 all_goals
  go_enter Tryz.func216,Tryz.ntmps216
  go_wp2_with (go_at_call 182;refine(bG _ _).mono ?_;rintro e w' ⟨rfl,rfl⟩)
  go_ret
  refine⟨tI ?_,rfl⟩
  have hb:=DQ c
  simp[bp,isDigit]at h hd
  unfold cB
  split <;> (try split) <;> omega
theorem uJ (s:Bytes)(m:Nat)(w:World)(hs:s.length≤9223372036854775807)(hm:m≤4611686018427387904) :
 Calls Tryz.prog 210 #[(Value.string ⟨zMy (s)⟩),.int .u64 10,.int .u64 m,.func (.func 182) #[] #[]] w fun e w'=>e=.returned (.tuple #[.int .u64 (bM isDigit 10 m s).1,.int .i64 (bM isDigit 10 m s).2])∧w=w':=by
 cases bn:s.isEmpty
 ·go_enter Tryz.func210,Tryz.ntmps210
  go_wp2_with fail
  go_loop [18] (fun i=>∃ k:Nat,k≤s.length∧i=.int .i64 k∧(s.take k).all isDigit=true) (fun i=>s.length - (intOf i).toNat)
  case atStart=>exact⟨0,by omega,rfl,rfl⟩
  case round =>
   obtain⟨k,hk,rfl,aR⟩:=hrel
   have Hall:=hid aR
   clear aR
   by_cases aB:k<s.length
   ·cases hc:isDigit s[k]
    ·go_wp2_with (go_at_call 182;refine(bG _ _).mono ?_;rintro e w' ⟨rfl,rfl⟩)
     go_ret2
     exact⟨nu (by simp[bM,bn,cW aB hc]),rfl⟩
    ·go_wp2_with (go_at_call 182;refine(bG _ _).mono ?_;rintro e w' ⟨rfl,rfl⟩)
     go_round
     case rel=>exact⟨k+1,by omega,by go_num,aP aB Hall.out hc⟩
     case measure=>simp[intOf];omega
   ·have aR:s.all isDigit=true:=by have:=Hall.out;rwa [zMG (by omega)]at this
    clear Hall
    have Hall:=hid aR
    clear aR
    go_wp2_with fail
    go_loop [11,30] (fun n i=>∃ k a:Nat,k≤s.length∧i=.int .i64 k∧a≤m∧n=.int .u64 a∧di 10 m a (s.drop k)=di 10 m 0 s) (fun _ i=>s.length - (intOf i).toNat)
    case atStart=>exact⟨0,0,by omega,rfl,by omega,rfl,rfl⟩
    case round =>
     obtain⟨j,a,hj,rfl,ha,rfl,heq⟩:=hrel
     have Heq:=hid heq
     clear heq
     by_cases C6:j<s.length
     ·have hv:=lu (show bp s[j]=true by have:=zW Hall.out C6;first|exact this | (simp[isDigit,bp]at this ⊢;omega))
      go_wp2_with (go_at_call 216;refine(zv _ _ (by have:=zW Hall.out C6;first|exact this | (simp[isDigit,bp]at this ⊢;omega))).mono ?_;rintro e w' ⟨rfl,rfl⟩)
      all_goals first
       | (go_ret2;exact⟨nu (qy bn Hall.out Heq.out C6 (by omega)),rfl⟩)
       | (go_round
          case rel=>exact⟨j+1,a * 10+cB s[j],by omega,by go_num,by omega,by go_num,oU Heq.out C6 (by omega)⟩
          case measure=>simp[intOf];omega)
     ·go_wp2_with fail
      go_ret2
      exact⟨nu (oW bn Hall.out Heq.out C6),rfl⟩
 ·go_enter Tryz.func210,Tryz.ntmps210
  go_wp2_with fail
  go_ret2
  exact⟨nu (by simp[bM,bn]),rfl⟩
theorem lY (s:Bytes)(m:Nat)(w:World)(hs:s.length≤9223372036854775807)(hm:m≤4611686018427387904) :
 Calls Tryz.prog 199 #[(Value.string ⟨zMy (s)⟩),.int .u64 m] w fun e w'=>e=.returned (.tuple #[.int .u64 (bM isDigit 10 m s).1,.int .i64 (bM isDigit 10 m s).2])∧w=w':=by
 go_enter Tryz.func199,Tryz.ntmps199
 go_wp2_with (go_at_call 210;refine(uJ _ _ _ hs hm).mono ?_;rintro e w' ⟨rfl,rfl⟩)
 go_ret2
 exact⟨rfl,rfl⟩
theorem kK (s:Bytes)(m:Nat)(w:World)(hs:s.length≤9223372036854775807)(hm:m≤4611686018427387904) :
 Calls Tryz.prog 173 #[(Value.string ⟨zMy (s)⟩),.int .u64 m] w fun e w'=>e=.returned (.tuple #[.int .u64 (aV m s).1,.int .i64 (aV m s).2])∧w=w':=by
 by_cases hd:cn s=true
 ·by_cases h1:1<s.length
  ·by_cases h0:s[0]=48
   ·have Hq:=hid (show aV m s=(0,6) from if_pos ⟨hd,h1,by rw[ly (by omega),h0]⟩)
    have hx:((s[0].toNat:Int)==48)=true:=by simp[h0]
    clear h0
    go_enter Tryz.func173,Tryz.ntmps173
    go_wp2_with (go_at_call 192;refine(gY _ _ hs).mono ?_;rintro e w' ⟨rfl,rfl⟩)
    go_ret2
    rw[Hq.out]
    exact⟨rfl,rfl⟩
   ·have Hq:=hid (show aV m s=bM isDigit 10 m s from if_neg (by rintro⟨_,_,h⟩;rw[ly (by omega)]at h;exact h0 (by simpa using h)))
    have hx:((s[0].toNat:Int)==48)=false:=At h0
    clear h0
    go_enter Tryz.func173,Tryz.ntmps173
    go_wp2_with (first
     | (go_at_call 192;refine(gY _ _ hs).mono ?_;rintro e w' ⟨rfl,rfl⟩)
     | (go_at_call 199;refine(lY _ _ _ hs hm).mono ?_;rintro e w' ⟨rfl,rfl⟩))
    go_ret2
    rw[Hq.out]
    exact⟨rfl,rfl⟩
  ·have Hq:=hid (show aV m s=bM isDigit 10 m s from if_neg (by rintro⟨_,h,_⟩;exact h1 h))
   go_enter Tryz.func173,Tryz.ntmps173
   go_wp2_with (first
    | (go_at_call 192;refine(gY _ _ hs).mono ?_;rintro e w' ⟨rfl,rfl⟩)
    | (go_at_call 199;refine(lY _ _ _ hs hm).mono ?_;rintro e w' ⟨rfl,rfl⟩))
   go_ret2
   rw[Hq.out]
   exact⟨rfl,rfl⟩
 ·have Hq:=hid (show aV m s=bM isDigit 10 m s from if_neg (by rintro⟨h,_,_⟩;exact hd h))
  have nY:cn s=false:=by simpa using hd
  clear hd
  go_enter Tryz.func173,Tryz.ntmps173
  go_wp2_with (first
   | (go_at_call 192;refine(gY _ _ hs).mono ?_;rintro e w' ⟨rfl,rfl⟩)
   | (go_at_call 199;refine(lY _ _ _ hs hm).mono ?_;rintro e w' ⟨rfl,rfl⟩))
  go_ret2
  rw[Hq.out]
  exact⟨rfl,rfl⟩
theorem wH (s:Bytes)(m:Nat)(w:World)(hs:s.length≤9223372036854775807)(hm:m≤4611686018427387904) :
 Calls Tryz.prog 128 #[(Value.string ⟨zMy (s)⟩),.int .u64 10,.int .u64 m] w fun e w'=>e=.returned (.tuple #[.int .u64 (bM isDigit 10 m s).1,.int .i64 (bM isDigit 10 m s).2])∧w=w':=by
 cases bn:s.isEmpty
 ·go_enter Tryz.func128,Tryz.ntmps128
  go_wp2_with fail
  go_loop [8] (fun i=>∃ k:Nat,k≤s.length∧i=.int .i64 k∧(s.take k).all isDigit=true) (fun i=>s.length - (intOf i).toNat)
  case atStart=>exact⟨0,by omega,rfl,rfl⟩
  case round =>
   obtain⟨k,hk,rfl,aR⟩:=hrel
   have Hall:=hid aR
   clear aR
   by_cases aB:k<s.length
   ·cases hc:isDigit s[k]
    ·have Ha:=hid (cW aB hc)
     go_wp2_with (go_at_call 94;refine(dv _ _).mono ?_;rintro e w' ⟨rfl,rfl⟩)
     go_ret2
     exact⟨nu (by simp[bM,bn,Ha.out]),rfl⟩
    ·go_wp2_with (go_at_call 94;refine(dv _ _).mono ?_;rintro e w' ⟨rfl,rfl⟩)
     go_round
     case rel=>exact⟨k+1,by omega,by go_num,aP aB Hall.out hc⟩
     case measure=>simp[intOf];omega
   ·have aR:s.all isDigit=true:=by have:=Hall.out;rwa [zMG (by omega)]at this
    clear Hall
    have Hall:=hid aR
    clear aR
    go_wp2_with fail
    go_loop [9,10] (fun n i=>∃ k a:Nat,k≤s.length∧i=.int .i64 k∧a≤m∧n=.int .u64 a∧di 10 m a (s.drop k)=di 10 m 0 s) (fun _ i=>s.length - (intOf i).toNat)
    case atStart=>exact⟨0,0,by omega,rfl,by omega,rfl,rfl⟩
    case round =>
     obtain⟨j,a,hj,rfl,ha,rfl,heq⟩:=hrel
     have Heq:=hid heq
     clear heq
     by_cases C6:j<s.length
     ·have hdg:=zW Hall.out C6
      simp[isDigit]at hdg
      obtain⟨lM,nY⟩:=hdg
      have Hv:=hid (show (cB s[j]:Int)=s[j].toNat - 48 by unfold cB;rw[if_pos nY];omega)
      go_wp2_with fail
      all_goals
       have hu:=HH ((m:Int) - (s[j].toNat - 48)) (by omega) (by omega)
       have hv:=Hv.out
       first
       | (go_ret2;exact⟨nu (qy bn Hall.out Heq.out C6 (by omega)),rfl⟩)
       | (go_round
          case rel=>exact⟨j+1,a * 10+cB s[j],by omega,by go_num,by omega,congrArg (Value.int .u64) (by omega),oU Heq.out C6 (by omega)⟩
          case measure=>simp[intOf];omega)
     ·go_wp2_with fail
      go_ret2
      exact⟨nu (oW bn Hall.out Heq.out C6),rfl⟩
 ·go_enter Tryz.func128,Tryz.ntmps128
  go_wp2_with fail
  go_ret2
  exact⟨nu (by simp[bM,bn]),rfl⟩
theorem lX (s:Bytes)(m:Nat)(w:World)(hs:s.length≤9223372036854775807)(hm:m≤4611686018427387904) :
 Calls Tryz.prog 97 #[(Value.string ⟨zMy (s)⟩),.int .u64 m] w fun e w'=>e=.returned (.tuple #[.int .u64 (aV m s).1,.int .i64 (aV m s).2])∧w=w':=by
 have hq:aV m s=if cn s=true∧1<s.length∧s.head? = some 48 then(0,6) else bM isDigit 10 m s:=rfl
 have he:=kY m s
 have hc:=wH s m w hs hm
 generalize bM isDigit 10 m s=np at hq he hc
 obtain⟨n,e⟩:=np
 simp only at hq he hc
 have Hc:=hid hc
 clear hc
 by_cases hd:cn s=true
 ·rw[hd]at he
  simp only[iff_true]at he
  have hg:(e==0||e==4)=true:=by simp;omega
  by_cases h1:1<s.length
  ·by_cases h0:s[0]=48
   ·rw[if_pos ⟨hd,h1,by rw[ly (by omega),h0]⟩]at hq
    have Hq:=hid hq
    have hx:((s[0].toNat:Int)==48)=true:=by simp[h0]
    clear h0 hq
    rcases he with rfl|rfl
    all_goals
     go_enter Tryz.func97,Tryz.ntmps97
     go_wp2_with fail
     refine Hc.out.mono ?_
     rintro e w' ⟨rfl,rfl⟩
     go_wp2_with fail
     go_ret2
     rw[Hq.out]
     exact⟨rfl,rfl⟩
   ·rw[if_neg (by rintro⟨_,_,h⟩;rw[ly (by omega)]at h;exact h0 (by simpa using h))]at hq
    have Hq:=hid hq
    have hx:((s[0].toNat:Int)==48)=false:=At h0
    clear h0 hq
    rcases he with rfl|rfl
    all_goals
     go_enter Tryz.func97,Tryz.ntmps97
     go_wp2_with fail
     refine Hc.out.mono ?_
     rintro e w' ⟨rfl,rfl⟩
     go_wp2_with fail
     go_ret2
     rw[Hq.out]
     exact⟨rfl,rfl⟩
  ·rw[if_neg (by rintro⟨_,h,_⟩;exact h1 h)]at hq
   have Hq:=hid hq
   clear hq
   rcases he with rfl|rfl
   all_goals
    go_enter Tryz.func97,Tryz.ntmps97
    go_wp2_with fail
    refine Hc.out.mono ?_
    rintro e w' ⟨rfl,rfl⟩
    go_wp2_with fail
    go_ret2
    rw[Hq.out]
    exact⟨rfl,rfl⟩
 ·rw[if_neg (by rintro⟨h,_,_⟩;exact hd h)]at hq
  have nY:cn s=false:=by simpa using hd
  rw[nY]at he
  have h1:(e==0)=false:=by simp;intro h;simp[h]at he
  have h2:(e==4)=false:=by simp;intro h;simp[h]at he
  have Hq:=hid hq
  clear hd he hq
  go_enter Tryz.func97,Tryz.ntmps97
  go_wp2_with fail
  refine Hc.out.mono ?_
  rintro e w' ⟨rfl,rfl⟩
  go_wp2_with fail
  go_ret2
  rw[Hq.out]
  exact⟨rfl,rfl⟩
open Go.RowKit Wf
attribute [local go_sem] fJ eQ get_list
theorem uT (s:Bytes)(h1:s.isEmpty=false)(h2:s.length≤63)(h3:¬ s[0]? = some 45)(h4:¬ s[s.length - 1]? = some 45):bz s=s.all we:=by
 unfold bz
 rw[List.getLast?_eq_getElem?,List.head?_eq_getElem?]
 simp[h1,h2,h3,h4]
theorem vj (s:Bytes)(w:World)(hs:s.length≤9223372036854775807) :
 Calls Tryz.prog 191 #[(Value.string ⟨zMy (s)⟩)] w fun e w'=>e=.returned (.bool (bz s))∧w=w':=by
 cases h1:s.isEmpty
 ·by_cases h2:63<s.length
  ·have Hq:=hid (show bz s=false by unfold bz;simp;omega)
   go_enter Tryz.func191,Tryz.ntmps191
   go_wp2_with fail
   go_ret
   exact⟨bc Hq.out.symm,rfl⟩
  ·have hl:0<s.length:=by cases s <;> simp at h1 ⊢
   by_cases h3:s[0]=45
   ·have Hq:=hid (show bz s=false by unfold bz;rw[ly hl,h3];simp)
    have hx:((s[0].toNat:Int)==45)=true:=by simp[h3]
    clear h3
    go_enter Tryz.func191,Tryz.ntmps191
    go_wp2_with fail
    go_ret
    exact⟨bc Hq.out.symm,rfl⟩
   ·have hx:((s[0].toNat:Int)==45)=false:=At h3
    by_cases h4:s[s.length - 1]=45
    ·have Hq:=hid (show bz s=false by
      unfold bz
      rw[List.getLast?_eq_getElem?,zMA (by omega),h4];simp)
     have hy:((s[s.length - 1].toNat:Int)==45)=true:=by simp[h4]
     clear h4 h3
     go_enter Tryz.func191,Tryz.ntmps191
     go_wp2_with fail
     go_ret
     exact⟨bc Hq.out.symm,rfl⟩
    ·have hy:((s[s.length - 1].toNat:Int)==45)=false:=At h4
     have Hq:=hid (uT s h1 (by omega) (by rw[zMA hl];simpa using h3) (by rw[zMA (by omega)];simpa using h4))
     have Cg:decide (63<(s.length:Int))=false:=decide_eq_false (by omega)
     clear h3 h4
     go_enter Tryz.func191,Tryz.ntmps191
     go_wp2_with fail
     go_loop [26] (fun i=>∃ k:Nat,k≤s.length∧i=.int .i64 k∧(s.take k).all we=true) (fun i=>s.length - (intOf i).toNat)
     case atStart=>exact⟨0,by omega,rfl,rfl⟩
     case round=>(
      obtain⟨k,hk,rfl,aR⟩:=hrel
      have Hall:=hid aR
      clear aR
      by_cases aB:k<s.length
      ·cases hc:we s[k]
       ·have Ha:=hid (cW aB hc)
        have hc':=hc
        unfold we at hc'
        simp only[Bool.or_eq_false_iff]at hc'
        obtain⟨⟨c1,c2⟩,c3⟩:=hc'
        have c4:((s[k].toNat:Int) != 45)=true:=by
         have:s[k]≠45:=by simpa using c3
         rw[bne_iff_ne]
         intro h
         exact this (UInt8.toNat_inj.1 (by simp;omega))
        clear c3 hc
        go_wp2_with (first
         | (go_at_call 197;refine(cR _ _).mono ?_;rintro e w' ⟨rfl,rfl⟩)
         | (go_at_call 182;refine(bG _ _).mono ?_;rintro e w' ⟨rfl,rfl⟩))
        go_ret
        exact⟨bc (by rw[Hq.out,Ha.out]),rfl⟩
       ·have Hc:=hid (aP aB Hall.out hc)
        unfold we at hc
        simp only[Bool.or_eq_true,beq_iff_eq]at hc
        rcases hc with(hc|hc) | hc
        ·go_wp2_with (first
         | (go_at_call 197;refine(cR _ _).mono ?_;rintro e w' ⟨rfl,rfl⟩)
         | (go_at_call 182;refine(bG _ _).mono ?_;rintro e w' ⟨rfl,rfl⟩))
         go_round
         case rel=>exact⟨k+1,by omega,by go_num,Hc.out⟩
         case measure=>simp[intOf];omega
        ·cases hca:isAlpha s[k]
         all_goals
          go_wp2_with (first
           | (go_at_call 197;refine(cR _ _).mono ?_;rintro e w' ⟨rfl,rfl⟩)
           | (go_at_call 182;refine(bG _ _).mono ?_;rintro e w' ⟨rfl,rfl⟩))
          go_round
          case rel=>exact⟨k+1,by omega,by go_num,Hc.out⟩
          case measure=>simp[intOf];omega
        ·have c4:((s[k].toNat:Int) != 45)=false:=by simp[hc]
         clear hc
         cases hca:isAlpha s[k] <;> cases rn:isDigit s[k]
         all_goals
          go_wp2_with (first
           | (go_at_call 197;refine(cR _ _).mono ?_;rintro e w' ⟨rfl,rfl⟩)
           | (go_at_call 182;refine(bG _ _).mono ?_;rintro e w' ⟨rfl,rfl⟩))
          go_round
          case rel=>exact⟨k+1,by omega,by go_num,Hc.out⟩
          case measure=>simp[intOf];omega
      ·have aR:=Hall.out
       rw[zMG (by omega)]at aR
       have Ha:=hid aR
       clear aR Hall
       go_wp2_with fail
       go_ret
       exact⟨bc (by rw[Hq.out,Ha.out]),rfl⟩)
 ·have Hq:=hid (show bz s=false by unfold bz;simp[h1])
  go_enter Tryz.func191,Tryz.ntmps191
  go_wp2_with fail
  go_ret
  exact⟨bc Hq.out.symm,rfl⟩
theorem yf (s:Bytes)(w:World)(hE:Env w)(hs:s.length<4294967281) :
 Calls Tryz.prog 167 #[(Value.string ⟨zMy (s)⟩)] w fun e w'=>e=.returned (.bool (eA s))∧Below w.heap.size w w':=by
 go_enter Tryz.func167,Tryz.ntmps167
 go_wp2_with fail
 go_loopw [0] (fun v wr=>∃ r:Bytes,v=(Value.string ⟨zMy (r)⟩)∧r.length≤s.length∧Below w.heap.size w wr∧eA r=eA s) (fun v _=>jd v)
 case atStart=>exact⟨s,rfl,by omega,Below.refl _ _,rfl⟩
 case round =>
  obtain⟨r,rfl,hr,hw,heq⟩:=hrel
  have Hw:=hid hw
  have HE:=hid (hE.below hw)
  have Heq:=hid heq
  clear hw heq
  by_cases hp:pre (·==46) r<r.length
  ·have hcut:=hid (show aL 46 r=(r.take (pre (·==46) r),r.drop (pre (·==46) r+1),true) from if_pos hp)
   have sR:eA r=(bz (r.take (pre (·==46) r))&&eA (r.drop (pre (·==46) r+1))):=by
    unfold eA
    rw[cJ hp]
    have:=rD 46 (r.drop (pre (·==46) r+1))
    cases nS:aC 46 (r.drop (pre (·==46) r+1)) with
    | nil=>exact absurd nS this
    | cons y l=>rfl
   cases hl:bz (r.take (pre (·==46) r))
   all_goals
    rw[hl]at sR
    have Hnl:=hid (sR.symm.trans Heq.out)
    clear sR
    go_wp2_with fail
    refine(EO r 46 wr HE.out (by omega)).mono ?_
    rintro e w2 ⟨rfl,n,eD⟩
    rw[hcut.out]
    have Hw2:Hid (Below w.heap.size w w2):=hid (by rw[eD];exact below_drewN Hw.out _)
    clear eD
    go_wp2_with (go_at_call 191;refine(vj _ _ (by simp;omega)).mono ?_;rintro e w' ⟨rfl,rfl⟩)
   ·go_ret
    exact⟨bc Hnl.out,Hw2.out⟩
   ·go_roundw
    case rel=>exact⟨_,rfl,by simp;omega,Hw2.out,Hnl.out⟩
    case measure=>simp[sLen_mk];omega
  ·have hcut:=hid (show aL 46 r=(r,[],false) from if_neg hp)
   have sR:eA r=(bz r&&!cn r):=by unfold eA;rw[ch hp];rfl
   have Hnl:=hid (sR.symm.trans Heq.out)
   clear sR
   cases hl:bz r
   all_goals
    rw[hl]at Hnl
    go_wp2_with fail
    refine(EO r 46 wr HE.out (by omega)).mono ?_
    rintro e w2 ⟨rfl,n,eD⟩
    rw[hcut.out]
    have Hw2:Hid (Below w.heap.size w w2):=hid (by rw[eD];exact below_drewN Hw.out _)
    clear eD
    go_wp2_with (first
     | (go_at_call 191;refine(vj _ _ (by omega)).mono ?_;rintro e w' ⟨rfl,rfl⟩)
     | (go_at_call 192;refine(gY _ _ (by omega)).mono ?_;rintro e w' ⟨rfl,rfl⟩))
    go_ret
    exact⟨bc (by have:=Hnl.out;simpa using this),Hw2.out⟩
theorem kB (s:Bytes)(w:World)(hE:Env w)(hs:s.length<4294967281) :
 Calls Tryz.prog 147 #[(Value.string ⟨zMy (s)⟩)] w fun e w'=>e=.returned (.bool (ipv4 s))∧Below w.heap.size w w':=by
 have hq:ipv4 s=((aC 46 s).length==4&&(aC 46 s).all fb):=rfl
 have nS:=s_Split s 46 w hE hs
 have hlen:∀ x∈aC 46 s,x.length≤s.length:=im 46 s
 generalize aC 46 s=parts at hq nS hlen
 have Hq:=hid hq
 have Hsp:=hid nS
 have Hlen:=hid hlen
 clear hq nS hlen
 by_cases h4:parts.length=4
 ·have hx:((parts.length:Int) != 4)=false:=by simp[h4]
  go_enter Tryz.func147,Tryz.ntmps147
  go_wp2_with fail
  refine Hsp.out.mono ?_
  rintro e w1 ⟨rfl,fH⟩
  have Hrow:Hid (zY w1 w.heap.size parts):=hid (by rw[fH];have:=zY.alloc w parts [] 9;simpa using this)
  have Hw1:Hid (Below w.heap.size w w1):=hid (by rw[fH];exact(Below.refl _ _).alloc (zMJ _) _)
  clear fH
  go_wp2_with fail
  go_loop [15] (fun i=>∃ k:Nat,k≤4∧i=.int .i64 k∧(parts.take k).all fb=true) (fun i=>4 - (intOf i).toNat)
  case atStart=>exact⟨0,by omega,rfl,rfl⟩
  case round =>
   obtain⟨k,hk,rfl,aR⟩:=hrel
   have Hall:=hid aR
   clear aR
   by_cases aB:k<4
   ·have ym:k<parts.length:=by omega
    have eo:=Hrow.out k ym
    have hln:=Hlen.out parts[k] (zML ym)
    have GB:fb parts[k]=((aV 255 parts[k]).2==0):=rfl
    cases hc:fb parts[k]
    ·have Ha:=hid (cW ym hc)
     have hn:((aV 255 parts[k]).2 != 0)=true:=by rw[hc]at GB;simp only[bne];rw[← GB];rfl
     clear GB
     go_wp2_with (go_at_call 173;refine(kK _ 255 _ (by omega) (by omega)).mono ?_;rintro e w' ⟨rfl,rfl⟩)
     go_ret
     exact⟨bc (by rw[Hq.out,Ha.out];simp),Hw1.out⟩
    ·have Hn:=hid (aP ym Hall.out hc)
     have hn:((aV 255 parts[k]).2 != 0)=false:=by rw[hc]at GB;simp only[bne];rw[← GB];rfl
     clear GB
     go_wp2_with (go_at_call 173;refine(kK _ 255 _ (by omega) (by omega)).mono ?_;rintro e w' ⟨rfl,rfl⟩)
     go_round
     case rel=>exact⟨k+1,by omega,by go_num,Hn.out⟩
     case measure=>simp[intOf];omega
   ·have aR:=Hall.out
    rw[zMG (by omega)]at aR
    have Ha:=hid aR
    clear aR Hall
    go_wp2_with fail
    go_ret
    exact⟨bc (by rw[Hq.out,Ha.out,h4];rfl),Hw1.out⟩
 ·have hx:((parts.length:Int) != 4)=true:=by simp;omega
  go_enter Tryz.func147,Tryz.ntmps147
  go_wp2_with fail
  refine Hsp.out.mono ?_
  rintro e w1 ⟨rfl,fH⟩
  have Hw1:Hid (Below w.heap.size w w1):=hid (by rw[fH];exact(Below.refl _ _).alloc (zMJ _) _)
  clear fH
  go_wp2_with fail
  go_ret
  exact⟨bc (by rw[Hq.out];simp[h4]),Hw1.out⟩
theorem yg (s:Bytes)(w:World)(hE:Env w)(hs:s.length<4294967281) :
 Calls Tryz.prog 140 #[(Value.string ⟨zMy (s)⟩)] w fun e w'=>e=.returned (.tuple #[(Value.string ⟨zMy ((bB s).1)⟩),.int .i64 (bB s).2])∧Below w.heap.size w w':=by
 cases h1:s.isEmpty
 ·by_cases h2:253<s.length
  ·have Hq:=hid (show bB s=([],5) by unfold bB;simp[h1,h2])
   go_enter Tryz.func140,Tryz.ntmps140
   go_wp2_with fail
   go_ret2
   rw[Hq.out]
   exact⟨rfl,Below.refl _ _⟩
  ·cases h3:ipv4 s
   ·cases h4:eA s
    ·have Hq:=hid (show bB s=([],50) by unfold bB;simp[h1,h2,h3,h4])
     go_enter Tryz.func140,Tryz.ntmps140
     go_wp2_with (first
      | (go_at_call 147;refine(kB _ _ hE hs).mono ?_;rintro e w1 ⟨rfl,fH⟩)
      | (go_at_call 167;refine(yf _ _ (hE.below ‹_›) hs).mono ?_;rintro e w2 ⟨rfl,eD⟩))
     go_ret2
     rw[Hq.out]
     exact⟨rfl,bo ‹_› ‹_›⟩
    ·have Hq:=hid (show bB s=(lower s,0) by unfold bB;simp[h1,h2,h3,h4])
     go_enter Tryz.func140,Tryz.ntmps140
     go_wp2_with (first
      | (go_at_call 147;refine(kB _ _ hE hs).mono ?_;rintro e w1 ⟨rfl,fH⟩)
      | (go_at_call 167;refine(yf _ _ (hE.below fH) hs).mono ?_;rintro e w2 ⟨rfl,eD⟩)
      | (go_at_call 66;refine(ou _ _ (by omega)).mono ?_;rintro e w3 ⟨rfl,wV⟩))
     go_ret2
     rw[Hq.out]
     exact⟨rfl,bo (bo fH eD) wV⟩
   ·have Hq:=hid (show bB s=(lower s,0) by unfold bB;simp[h1,h2,h3])
    go_enter Tryz.func140,Tryz.ntmps140
    go_wp2_with (first
     | (go_at_call 147;refine(kB _ _ hE hs).mono ?_;rintro e w1 ⟨rfl,fH⟩)
     | (go_at_call 66;refine(ou _ _ (by omega)).mono ?_;rintro e w3 ⟨rfl,wV⟩))
    go_ret2
    rw[Hq.out]
    exact⟨rfl,bo fH wV⟩
 ·have Hq:=hid (show bB s=([],3) by unfold bB;simp[h1])
  go_enter Tryz.func140,Tryz.ntmps140
  go_wp2_with fail
  go_ret2
  rw[Hq.out]
  exact⟨rfl,Below.refl _ _⟩
open Go.RowKit Go.Sort Wf
attribute [local go_sem] fJ eQ get_list
theorem Gz (s:Bytes)(w:World)(hs:s.length≤9223372036854775807) :
 Calls Tryz.prog 176 #[(Value.string ⟨zMy (s)⟩)] w fun e w'=>e=.returned (.tuple #[.int .i64 (ji s).1,.int .i64 (ji s).2])∧w=w':=by
 have hle:=lZ 65535 s
 have hq:ji s=if (aV 65535 s).2≠0∨(aV 65535 s).1=0 then(0,51) else(((aV 65535 s).1:Int),0):=rfl
 have hc:=kK s 65535 w (by omega) (by omega)
 generalize aV 65535 s=np at hle hq hc
 obtain⟨n,e⟩:=np
 simp only at hle hq hc
 have Hc:=hid hc
 clear hc
 by_cases he:e=0
 ·subst he
  by_cases hn:n=0
  ·rw[if_pos (Or.inr hn)]at hq
   have Hq:=hid hq
   have hx:((n:Int)==0)=true:=by simp[hn]
   clear hq hn
   go_enter Tryz.func176,Tryz.ntmps176
   go_wp2_with fail
   refine Hc.out.mono ?_
   rintro e w' ⟨rfl,rfl⟩
   go_wp2_with fail
   go_ret2
   rw[Hq.out]
   exact⟨rfl,rfl⟩
  ·rw[if_neg (by simp[hn])]at hq
   have Hq:=hid hq
   have hx:((n:Int)==0)=false:=by simp[hn]
   clear hq hn
   go_enter Tryz.func176,Tryz.ntmps176
   go_wp2_with fail
   refine Hc.out.mono ?_
   rintro e w' ⟨rfl,rfl⟩
   go_wp2_with fail
   go_ret2
   rw[Hq.out]
   exact⟨rfl,rfl⟩
 ·rw[if_pos (Or.inl he)]at hq
  have Hq:=hid hq
  have hx:(e != 0)=true:=by simp[he]
  clear hq
  go_enter Tryz.func176,Tryz.ntmps176
  go_wp2_with fail
  refine Hc.out.mono ?_
  rintro e w' ⟨rfl,rfl⟩
  go_wp2_with fail
  go_ret2
  rw[Hq.out]
  exact⟨rfl,rfl⟩
theorem Ec (s:Bytes)(w:World)(hE:Env w)(hs:s.length<4294967281) :
 Calls Tryz.prog 151 #[(Value.string ⟨zMy (s)⟩)] w fun e w'=>e=.returned (.tuple #[.agg #[(Value.string ⟨zMy ((aH s).1.1)⟩),.int .i64 (aH s).1.2],.int .i64 (aH s).2])∧Below w.heap.size w w':=by
 have dB:=eg 58 s
 have hct:=fun w hE=>EO s 58 w hE hs
 have hq:aH s=cy (bB (aL 58 s).1) (aL 58 s).2.2 (ji (aL 58 s).2.1):=rfl
 generalize aL 58 s=C at dB hct hq
 obtain⟨first,rest,colon⟩:=C
 simp only at dB hct hq
 have hh:=fun w hE=>yg first w hE (by omega)
 have hp:=fun w=>Gz rest w (by omega)
 generalize bB first=H at hq hh
 generalize ji rest=P at hq hp
 obtain⟨h,e⟩:=H
 obtain⟨p,f⟩:=P
 simp only at hh hp
 have Hct:=hid hct
 have Hh:=hid hh
 have Hp:=hid hp
 clear hct hh hp dB
 have ha:=cC w (.cells #[(Value.string ⟨zMy ([])⟩),.int .i64 0] 128)
 have zL:Below w.heap.size w (w.alloc (.cells #[(Value.string ⟨zMy ([])⟩),.int .i64 0] 128)):=(Below.refl _ _).alloc (zMJ _) _
 generalize Fb:w.alloc (.cells #[(Value.string ⟨zMy ([])⟩),.int .i64 0] 128)=wa at ha zL
 have Ha:=hid ha
 have Hba:=hid zL
 have Hwa:=hid Fb
 clear ha zL Fb
 by_cases he:e=0
 ·subst he
  cases colon
  ·have Hq:=hid (show aH s=((h,0),0) from hq)
   clear hq
   go_enter Tryz.func151,Tryz.ntmps151
   go_wp2_with fail
   rw[Hwa.out]
   refine(Hct.out _ (hE.below Hba.out)).mono ?_
   rintro e w1 ⟨rfl,n,fH⟩
   have Hw1:Hid (Below w.heap.size w w1):=hid (by rw[fH];exact below_drewN Hba.out _)
   have Ha1:Hid (w1.heap[w.heap.size]? = some (.cells #[(Value.string ⟨zMy ([])⟩),.int .i64 0] 128 (0,0))):=hid (by rw[fH];exact Ha.out)
   clear fH
   go_wp2_with fail
   refine(Hh.out _ (hE.below Hw1.out)).mono ?_
   rintro e w2 ⟨rfl,eD⟩
   have Ha2:=hid ((eD.block _ (bQ Ha1.out)).trans Ha1.out)
   have Hw2:=hid (bo Hw1.out eD)
   clear eD
   have aB:=bQ Ha2.out
   have c0:=Lib.cell_of_heap Ha2.out 0
   have c1:=Lib.cell_of_heap Ha2.out 1
   have z0:=Lib.frozen_of_heap Ha2.out 0
   have z1:=Lib.frozen_of_heap Ha2.out 1
   go_wp2_with fail
   refine bodyPost_ret (v:=.tuple #[.agg #[(Value.string ⟨zMy (h)⟩),.int .i64 0],.int .i64 0]) (by simp[results,Tryz.results151,go_sem,c0,c1,aB]) rfl ⟨?_,?_⟩
   ·rw[Hq.out]
   ·repeat (first|exact Hw2.out | (refine Below.setCell (p:=⟨_,_,none⟩) ?_ (by simp <;> omega) _) | (refine Below.alloc ?_ (by simp <;> omega) _) | refine Below.drew ?_)
  ·by_cases hf:f=0
   ·subst hf
    by_cases mR:p=443
    ·have Hq:=hid (show aH s=((h,0),0) by rw[hq];unfold cy;simp[mR])
     have hx:(p==443)=true:=by simp[mR]
     clear hq mR
     go_enter Tryz.func151,Tryz.ntmps151
     go_wp2_with fail
     rw[Hwa.out]
     refine(Hct.out _ (hE.below Hba.out)).mono ?_
     rintro e w1 ⟨rfl,n,fH⟩
     have Hw1:Hid (Below w.heap.size w w1):=hid (by rw[fH];exact below_drewN Hba.out _)
     have Ha1:Hid (w1.heap[w.heap.size]? = some (.cells #[(Value.string ⟨zMy ([])⟩),.int .i64 0] 128 (0,0))):=hid (by rw[fH];exact Ha.out)
     clear fH
     go_wp2_with fail
     refine(Hh.out _ (hE.below Hw1.out)).mono ?_
     rintro e w2 ⟨rfl,eD⟩
     have Ha2:=hid ((eD.block _ (bQ Ha1.out)).trans Ha1.out)
     have Hw2:=hid (bo Hw1.out eD)
     clear eD
     have aB:=bQ Ha2.out
     have c0:=Lib.cell_of_heap Ha2.out 0
     have c1:=Lib.cell_of_heap Ha2.out 1
     have z0:=Lib.frozen_of_heap Ha2.out 0
     have z1:=Lib.frozen_of_heap Ha2.out 1
     go_wp2_with (go_at_call 176;refine(Hp.out _).mono ?_;rintro e w3 ⟨rfl,rfl⟩)
     refine bodyPost_ret (v:=.tuple #[.agg #[(Value.string ⟨zMy (h)⟩),.int .i64 0],.int .i64 0]) (by simp[results,Tryz.results151,go_sem,c0,c1,aB]) rfl ⟨?_,?_⟩
     ·rw[Hq.out]
     ·repeat (first|exact Hw2.out | (refine Below.setCell (p:=⟨_,_,none⟩) ?_ (by simp <;> omega) _) | (refine Below.alloc ?_ (by simp <;> omega) _) | refine Below.drew ?_)
    ·have Hq:=hid (show aH s=((h,p),0) by rw[hq];unfold cy;simp[mR])
     have hx:(p==443)=false:=by simp[mR]
     clear hq mR
     go_enter Tryz.func151,Tryz.ntmps151
     go_wp2_with fail
     rw[Hwa.out]
     refine(Hct.out _ (hE.below Hba.out)).mono ?_
     rintro e w1 ⟨rfl,n,fH⟩
     have Hw1:Hid (Below w.heap.size w w1):=hid (by rw[fH];exact below_drewN Hba.out _)
     have Ha1:Hid (w1.heap[w.heap.size]? = some (.cells #[(Value.string ⟨zMy ([])⟩),.int .i64 0] 128 (0,0))):=hid (by rw[fH];exact Ha.out)
     clear fH
     go_wp2_with fail
     refine(Hh.out _ (hE.below Hw1.out)).mono ?_
     rintro e w2 ⟨rfl,eD⟩
     have Ha2:=hid ((eD.block _ (bQ Ha1.out)).trans Ha1.out)
     have Hw2:=hid (bo Hw1.out eD)
     clear eD
     have aB:=bQ Ha2.out
     have c0:=Lib.cell_of_heap Ha2.out 0
     have c1:=Lib.cell_of_heap Ha2.out 1
     have z0:=Lib.frozen_of_heap Ha2.out 0
     have z1:=Lib.frozen_of_heap Ha2.out 1
     go_wp2_with (go_at_call 176;refine(Hp.out _).mono ?_;rintro e w3 ⟨rfl,rfl⟩)
     refine bodyPost_ret (v:=.tuple #[.agg #[(Value.string ⟨zMy (h)⟩),.int .i64 p],.int .i64 0]) (by simp[results,Tryz.results151,go_sem,c0,c1,aB]) rfl ⟨?_,?_⟩
     ·rw[Hq.out]
     ·repeat (first|exact Hw2.out | (refine Below.setCell (p:=⟨_,_,none⟩) ?_ (by simp <;> omega) _) | (refine Below.alloc ?_ (by simp <;> omega) _) | refine Below.drew ?_)
   ·have Hq:=hid (show aH s=(([],0),f) by rw[hq];unfold cy;simp[hf])
    have hx:(f != 0)=true:=by simp[hf]
    clear hq hf
    go_enter Tryz.func151,Tryz.ntmps151
    go_wp2_with fail
    rw[Hwa.out]
    refine(Hct.out _ (hE.below Hba.out)).mono ?_
    rintro e w1 ⟨rfl,n,fH⟩
    have Hw1:Hid (Below w.heap.size w w1):=hid (by rw[fH];exact below_drewN Hba.out _)
    have Ha1:Hid (w1.heap[w.heap.size]? = some (.cells #[(Value.string ⟨zMy ([])⟩),.int .i64 0] 128 (0,0))):=hid (by rw[fH];exact Ha.out)
    clear fH
    go_wp2_with fail
    refine(Hh.out _ (hE.below Hw1.out)).mono ?_
    rintro e w2 ⟨rfl,eD⟩
    have Ha2:=hid ((eD.block _ (bQ Ha1.out)).trans Ha1.out)
    have Hw2:=hid (bo Hw1.out eD)
    clear eD
    have aB:=bQ Ha2.out
    have c0:=Lib.cell_of_heap Ha2.out 0
    have c1:=Lib.cell_of_heap Ha2.out 1
    have z0:=Lib.frozen_of_heap Ha2.out 0
    have z1:=Lib.frozen_of_heap Ha2.out 1
    go_wp2_with (go_at_call 176;refine(Hp.out _).mono ?_;rintro e w3 ⟨rfl,rfl⟩)
    refine bodyPost_ret (v:=.tuple #[.agg #[(Value.string ⟨zMy ([])⟩),.int .i64 0],.int .i64 f]) (by simp[results,Tryz.results151,go_sem,c0,c1,aB]) rfl ⟨?_,?_⟩
    ·rw[Hq.out]
    ·repeat (first|exact Hw2.out | (refine Below.setCell (p:=⟨_,_,none⟩) ?_ (by simp <;> omega) _) | (refine Below.alloc ?_ (by simp <;> omega) _) | refine Below.drew ?_)
 ·have hx:(e != 0)=true:=by simp[he]
  have Hq:=hid (show aH s=(([],0),e) by rw[hq];unfold cy;rw[if_pos he])
  clear hq he
  go_enter Tryz.func151,Tryz.ntmps151
  go_wp2_with fail
  rw[Hwa.out]
  refine(Hct.out _ (hE.below Hba.out)).mono ?_
  rintro e w1 ⟨rfl,n,fH⟩
  have Hw1:Hid (Below w.heap.size w w1):=hid (by rw[fH];exact below_drewN Hba.out _)
  have Ha1:Hid (w1.heap[w.heap.size]? = some (.cells #[(Value.string ⟨zMy ([])⟩),.int .i64 0] 128 (0,0))):=hid (by rw[fH];exact Ha.out)
  clear fH
  go_wp2_with fail
  refine(Hh.out _ (hE.below Hw1.out)).mono ?_
  rintro e w2 ⟨rfl,eD⟩
  have Ha2:=hid ((eD.block _ (bQ Ha1.out)).trans Ha1.out)
  have Hw2:=hid (bo Hw1.out eD)
  clear eD
  have aB:=bQ Ha2.out
  have c0:=Lib.cell_of_heap Ha2.out 0
  have c1:=Lib.cell_of_heap Ha2.out 1
  have z0:=Lib.frozen_of_heap Ha2.out 0
  have z1:=Lib.frozen_of_heap Ha2.out 1
  go_wp2_with fail
  refine bodyPost_ret (v:=.tuple #[.agg #[(Value.string ⟨zMy ([])⟩),.int .i64 0],.int .i64 e]) (by simp[results,Tryz.results151,go_sem,c0,c1]) rfl ⟨?_,?_⟩
  ·rw[Hq.out]
  ·repeat (first|exact Hw2.out | (refine Below.setCell (p:=⟨_,_,none⟩) ?_ (by simp <;> omega) _) | (refine Below.alloc ?_ (by simp <;> omega) _) | refine Below.drew ?_)
theorem F1 (B a:Nat)(ha:a≤19)(W:World):(Instr.sliceAt 189 (.pointer (some ⟨B,0,none⟩)) (some (.int .i64 a)) none none).run Tryz.prog W=.ok (.slice (some ⟨B,a,none⟩) (20 - a) (20 - a)) W:=by
 have h20:Tryz.prog.arrayLen 189=20:=by kernel_rfl
 have he:Tryz.prog.elem 189=5:=by kernel_rfl
 have hu:Tryz.prog.underlying 189=some (.array (Tryz.prog.arrayLen 189) (Tryz.prog.elem 189)):=by kernel_rfl
 rw[run_sliceAt_array_l W _ ⟨B,0,none⟩ hu .i64 a (by omega) (by rw[h20];omega),he,h20,Tryz.sizeOf5]
 have:¬ (20=a):=by omega
 simp[Result.andThen,slicedAt,CS,this]
theorem kL (n:Nat)(w:World)(hn:n≤18446744073709551615) :
 Calls Tryz.prog 180 #[.int .u64 n] w fun e w'=>e=.returned (Value.string ⟨zMy (cM n)⟩)∧Below w.heap.size w w':=by
 have hlen:(cM n).length≤20:=dO 19 n (by omega)
 go_enter Tryz.func180,Tryz.ntmps180
 go_wp2_with fail
 go_loopw [0,4] (fun v i wr=>∃ (k a:Nat) (x ds:Bytes),v=.int .u64 k∧i=.int .i64 a∧k≤18446744073709551615∧a≤19∧jm wr w.heap.size (x++ds)∧x.length=a+1∧ds.length=19 - a∧cM k++ds=cM n∧(cM k).length≤a+1∧Below w.heap.size w wr) (fun v _ _=>(intOf v).toNat)
 case atStart =>
  refine⟨n,19,List.replicate 20 0,[],rfl,rfl,hn,by omega,?_,by simp,rfl,by simp,hlen,(Below.refl _ _).alloc (zMJ _) _⟩
  exact⟨[],_,(0,0),cC _ _,Or.inr (by simp)⟩
 case round =>
  obtain⟨k,a,x,ds,rfl,rfl,hk,ha,fI,hx,hds,heq,hl,hw⟩:=hrel
  obtain⟨y,z,rfl,hy⟩:=snoc_of hx
  have e:y++[z]++ds=y++z::ds:=by simp
  rw[e]at fI
  obtain⟨cv,eo⟩:∃ q:Int,wr.cell? ⟨w.heap.size,a,none⟩=some (.int .u8 q):=⟨_,fI.cell (k:=a) (by simp;omega)⟩
  have wo:=fI.frozen (k:=a) (by simp;omega)
  have Hrow:=hid fI
  have Heq:=hid heq
  have Hw:=hid hw
  have Hy:=hid hy
  have Hds:=hid hds
  clear fI heq hw hy hds hx e
  by_cases fy:k<10
  ·have oL:=Hrow.out.set (k:=a) (by have:=Hy.out;simp;omega) (sW k)
   have gE:(y++z::ds).set a (sW k)=y++(sW k)::ds:=by rw[← Hy.out];exact EJ y z _ ds
   rw[gE,oe fy]at oL
   have jk:=fun cap=>oL.backAt Hy.out cap
   have pQ:((sW k)::ds).length=20 - a:=by have:=Hds.out;simp;omega
   rw[pQ]at jk
   have Hds2:=hid (show cM n=(sW k)::ds by rw[← Heq.out,gn fy];rfl)
   have ye:=F1 w.heap.size a ha
   clear oL gE pQ
   go_wp2_with fail
   go_ret
   exact⟨lW Hds2.out.symm,Hw.out.setCell (p:=⟨w.heap.size,a,none⟩) (zMJ _) _⟩
  ·have oL:=Hrow.out.set (k:=a) (by have:=Hy.out;simp;omega) (sW (k % 10))
   have gE:(y++z::ds).set a (sW (k % 10))=y++(sW (k % 10))::ds:=by rw[← Hy.out];exact EJ y z _ ds
   rw[gE,oe (show k % 10<10 by omega)]at oL
   have Hst:=hid oL
   have Heq2:=hid (show cM (k / 10)++(sW (k % 10))::ds=cM n by rw[← Heq.out,lF fy];simp)
   have gF:=mK fy
   have hp2:=vJ (k / 10)
   have Hl2:=hid gF
   clear oL gE gF
   go_wp2_with fail
   have h1:=Hl2.out
   refine⟨⟨k / 10,a - 1,y,_,congrArg (Value.int .u64) (by omega),congrArg (Value.int .i64) (by omega),by omega,by omega,Hst.out,by have:=Hy.out;omega,by have:=Hds.out;simp;omega,Heq2.out,by omega,Hw.out.setCell (p:=⟨w.heap.size,a,none⟩) (zMJ _) _⟩,?_⟩
   simp[intOf];omega
theorem neg_u64 (p:Int)(h:p<0)(h1:-9223372036854775808≤p):IntKind.u64.wrap (-(IntKind.u64.wrap p))=(p.natAbs:Int):=by
 simp only[IntKind.wrap,IntKind.signed,IntKind.bits]
 simp
 omega
theorem B5 (h:Bytes)(p:Int)(w:World)(hh:h.length≤4611686018427387904)(h1:-9223372036854775808≤p)(h2:p≤9223372036854775807) :
 Calls Tryz.prog 153 #[.agg #[(Value.string ⟨zMy (h)⟩),.int .i64 p]] w fun e w'=>e=.returned (Value.string ⟨zMy (bg h p)⟩)∧Below w.heap.size w w':=by
 have ha:=cC w (.cells #[(Value.string ⟨zMy (h)⟩),.int .i64 p] 128)
 have zL:Below w.heap.size w (w.alloc (.cells #[(Value.string ⟨zMy (h)⟩),.int .i64 p] 128)):=(Below.refl _ _).alloc (zMJ _) _
 generalize Fb:w.alloc (.cells #[(Value.string ⟨zMy (h)⟩),.int .i64 p] 128)=wa at ha zL
 have aB:=bQ ha
 have c0:wa.cell? ⟨w.heap.size,0,none⟩=some (Value.string ⟨zMy (h)⟩):=Lib.cell_of_heap ha 0
 have c1:wa.cell? ⟨w.heap.size,1,none⟩=some (.int .i64 p):=Lib.cell_of_heap ha 1
 have Hba:=hid zL
 have Hwa:=hid Fb
 clear ha zL Fb
 by_cases h0:p=0
 ·subst h0
  have Hq:=hid (show bg h 0=h from if_pos rfl)
  go_enter Tryz.func153,Tryz.ntmps153
  go_wp2_with fail
  rw[Hwa.out]
  go_wp2_with fail
  go_ret
  exact⟨lW Hq.out.symm,Hba.out⟩
 ·have hx:(p==0)=false:=by simp[h0]
  by_cases Ed:p<0
  ·have Hq:=hid (show bg h p=h++[58,45]++cM p.natAbs by unfold bg;rw[if_neg h0,if_pos Ed])
   clear h0
   go_enter Tryz.func153,Tryz.ntmps153
   go_wp2_with fail
   rw[Hwa.out]
   go_wp2_with fail
   have hd:=dO 19 p.natAbs (by omega)
   have hu:=neg_u64 p Ed h1
   have n1:¬ 9223372036854775807<h.length+2:=by omega
   have n2:¬ 9223372036854775807<h.length+2+(cM p.natAbs).length:=by omega
   have Gx:p.natAbs≤18446744073709551615:=by omega
   have k0:=cell_regrown c0
   have k1:=cell_regrown c1
   clear c0 c1 hx
   refine wp_region_quiet_below (by kernel_rfl) (by kernel_rfl) ?_
   repeat (quiet_step ((go_at_call 180;exact Calls.regrown_of (kL _ _ Gx))))
   refine wpQuiet_nil ?_
   intro _ hw'
   obtain⟨⟨dq,osq⟩,hw''⟩:=hw'
   subst hw''
   have Ag:=below_regrown wa dq osq
   generalize grow (redrawn wa dq) osq=wq at Ag ⊢
   clear hu n1 n2 k0 k1
   go_wp2_with fail
   go_ret
   exact⟨lW (by rw[Hq.out];simp),bo Hba.out Ag⟩
  ·have Hq:=hid (show bg h p=h++[58]++cM p.natAbs by unfold bg;rw[if_neg h0,if_neg Ed])
   clear h0
   go_enter Tryz.func153,Tryz.ntmps153
   go_wp2_with fail
   rw[Hwa.out]
   go_wp2_with fail
   have hd:=dO 19 p.natAbs (by omega)
   have hu:IntKind.u64.wrap p=(p.natAbs:Int):=(u64_in (show 0≤p by omega) h2).trans (by omega)
   have n1:¬ 9223372036854775807<h.length+1:=by omega
   have n2:¬ 9223372036854775807<h.length+1+(cM p.natAbs).length:=by omega
   have Gx:p.natAbs≤18446744073709551615:=by omega
   have k0:=cell_regrown c0
   have k1:=cell_regrown c1
   clear c0 c1 hx
   refine wp_region_quiet_below (by kernel_rfl) (by kernel_rfl) ?_
   repeat (quiet_step ((go_at_call 180;exact Calls.regrown_of (kL _ _ Gx))))
   refine wpQuiet_nil ?_
   intro _ hw'
   obtain⟨⟨dq,osq⟩,hw''⟩:=hw'
   subst hw''
   have Ag:=below_regrown wa dq osq
   generalize grow (redrawn wa dq) osq=wq at Ag ⊢
   clear hu n1 n2 k0 k1
   go_wp2_with fail
   go_ret
   exact⟨lW (by rw[Hq.out];simp),bo Hba.out Ag⟩
end Go.Proofs.YteipdaijbncgeaaGreatDoor
namespace Wf
open Go Go.RowKit
theorem owns_lt {w:World}{base:Nat}{e:TypeId}{size:Nat}{v:Value}{n:Nat}{xs:List Value}(h:w.ownsRow base e size v n xs):∀ k,v.ownBlock=some k→base≤k∧k<w.heap.size :=
 (World.ownsRowF_of h).lt
theorem wp_append_one {P:Program}{ops:Array Oper}{rest:List Oper}{o:Oper}{a:Act}{Q:Exit→Act→World→Prop}{w0:World}(hgd:o.guard=none)(s x:Operand)(t:TypeId)
 (ho:o.op=.call { callee:=.builtin .append,args:=#[s,x],argTypes:=#[t,t] }) (e:TypeId) (z:Value) (bytes:Nat) (ht:P.underlying t=some (.slice e))
 (hinfo:(P.info? e).map (fun i=>(i.zero,i.size,i.bytes))=some (some z,1,bytes)) (rm:z.cells.size=1)
 (B:Nat) (v:Value) (n:Nat) (xs:List Value) (hs:a.eval s=v) (ln:w0.ownsRow B e 1 v n xs) (u:Value) (T:TypeId)
 (hx:a.eval x=.slice (some ⟨w0.heap.size,0,none⟩) 1 1) (h1:u.oneCell'=true) (tB:n+1≤maxLen) (rY:(n+1) * bytes≤140737488355328) (hB:B≤w0.heap.size)
 (h:∀ v' w',w'.ownsRow B e 1 v' (n+1) (xs++[u])→Below B w0 w'→wpList P ops Q rest (a.put o.dst v') w'):wpList P ops Q (o::rest) a (w0.alloc (.cells #[u] T)):=by
 obtain⟨i,hi,wh,mN,hz2⟩:=info_parts hinfo
 refine wpList_append_own _ hgd s x t ho B e i z 1 bytes ht hi wh mN hz2 rm (by decide) v n xs hs (ln.alloc _) ⟨w0.heap.size,0,none⟩ 1 1 [u] hx rfl ?_ ?_ tB rY (by simp;omega) ?_
 ·intro j y hy
  rcases j with _|j
  ·simp at hy;subst hy
   exact Go.Lib.cell_of_heap (cC _ _) 0
  ·simp at hy
 ·intro y hy;simp at hy;subst hy;exact h1
 ·intro v' w' h2 h3 _
  exact h v' w' h2 (((Below.refl B w0).alloc hB _).grown h3 (by simp;omega) (fun k hk=>(owns_lt ln k hk).1))
theorem uF {w:World}{B:Nat}{e:TypeId}{v:Value}{n:Nat}{xs:List Value}(h:w.ownsRow B e 1 v n xs)(hn:0<n) :
 ∃ g cap,v=.slice (some ⟨g,0,none⟩) n cap∧B≤g∧g<w.heap.size∧n≤cap∧cap≤maxLen∧xs.length=n∧∀ j,j<n→w.cell? ⟨g,j,none⟩=xs[j]? := by
 obtain⟨h1,h2⟩:=h
 rcases h2 with⟨_,h0⟩|⟨g,cap,cur,rfl,hg,hh,hc,hm,jZ,ht⟩
 ·omega
 ·refine⟨g,cap,rfl,hg,(Array.getElem?_eq_some_iff.1 hh).1,hc,hm,by simpa using h1,fun j hj=>?_⟩
  have:=World.ownsRow.cellAt (w:=w) (base:=B) (e:=e) (size:=1) (g:=g) (n:=n) (cap:=cap) (xs:=xs) ⟨h1,.inr ⟨g,cap,cur,rfl,hg,hh,hc,hm,jZ,ht⟩⟩ j (by omega)
  exact this
theorem HF {a b:UInt8}(h:a≠b):((a.toNat:Int) != (b.toNat:Int))=true:=by
 rw[bne_iff_ne];intro e;exact h (UInt8.toNat_inj.1 (by omega))
end Wf
namespace Go.Proofs.YteipdaijbncgeaaGreatDoor
open Go.RowKit Go.Sort Wf
attribute [local go_sem] fJ eQ get_list
def RetStrs (w:World)(l:List Bytes)(e:Ending)(w':World):Prop:=∃ v,e=.returned v∧w'.ownsRow w.heap.size 9 1 v l.length (l.map lS)∧Below w.heap.size w w'
theorem Tryz.E6:(Tryz.prog.info? 9).map (fun i=>(i.zero,i.size,i.bytes))=some (some (Value.string ⟨zMy ([])⟩),1,16):=by kernel_rfl
theorem sE (s:Bytes)(c:UInt8)(w:World)(hs:s.length≤1000000000) :
 Calls Tryz.prog 95 #[(Value.string ⟨zMy (s)⟩),.int .u8 c.toNat] w (RetStrs w (aC c s)):=by
 go_enter Tryz.func95,Tryz.ntmps95
 go_wp2_with fail
 go_loopw [5,6,7] (fun v f i wr=>∃ (L:List Bytes) (a k:Nat),f=.int .i64 a∧i=.int .i64 k∧a≤k∧k≤s.length∧k - a≤pre (·==c) (s.drop a)∧wr.ownsRow w.heap.size 9 1 v L.length (L.map lS)∧L.length≤a∧L++aC c (s.drop a)=aC c s∧Below w.heap.size w wr) (fun _ _ i _=>s.length - (intOf i).toNat)
 case atStart=>exact⟨[],0,0,rfl,rfl,by omega,by omega,by omega,World.ownsRow_nil _ _ _ _,by simp,rfl,Below.refl _ _⟩
 case round =>
  obtain⟨L,a,k,rfl,rfl,hak,hks,dK,ln,hLa,heq,hw⟩:=hrel
  have Hown:=hid ln
  have Heq:=hid heq
  have Hw:=hid hw
  have Hpre:=hid dK
  clear ln heq hw dK
  by_cases aB:k<s.length
  ·have pQ:(s.drop a).length=s.length - a:=by simp
   by_cases hc:s[k]=c
   ·have hx:=u8_eq hc
    have hp:pre (·==c) (s.drop a)=k - a:=by
     have h1:=Hpre.out
     rcases Nat.lt_or_ge (k - a) (pre (·==c) (s.drop a)) with h|h
     ·have:=gM h (by omega)
      rw[List.getElem_drop]at this
      simp only[show a+(k - a)=k by omega]at this
      rw[hc]at this
      simp at this
     ·omega
    have hh:aC c (s.drop a)=(s.drop a).take (k - a)::aC c (s.drop (k+1)):=by
     have:=cJ (c:=c) (s:=s.drop a) (by omega)
     rw[hp,List.drop_drop,show a+(k - a+1)=k+1 by omega]at this
     exact this
    have ye:List.drop a (List.take k s)=(s.drop a).take (k - a):=by rw[List.drop_take]
    have Hn:Hid ((L++[List.drop a (List.take k s)])++aC c (s.drop (k+1))=aC c s):=hid (by rw[← Heq.out,hh,ye];simp)
    clear hc hp hh ye pQ
    have hwl:=hid (Hw.out.size)
    go_wp2_with (at_builtin;refine wp_append_one rfl _ _ 142 rfl 9 (Value.string ⟨zMy ([])⟩) 16 Tryz.underlying142 Tryz.E6 rfl w.heap.size _ L.length (L.map lS) rfl Hown.out (lS (List.drop a (List.take k s))) _ rfl rfl (by unfold maxLen;omega) (by omega) hwl.out ?_;intro v' w' hown' hb')
    go_roundw
    case rel=>exact⟨L++[List.drop a (List.take k s)],k+1,k+1,by go_num,by go_num,by omega,by omega,by omega,by simpa using hown',by simp;omega,Hn.out,Hw.out.trans hb'⟩
    case measure=>simp[intOf];omega
   ·have hx:=At hc
    have Hp:Hid (k+1 - a≤pre (·==c) (s.drop a)):=hid (by
     have h1:=Hpre.out
     rcases Nat.lt_or_ge (k - a) (pre (·==c) (s.drop a)) with h|h
     ·omega
     ·have hq:pre (·==c) (s.drop a)=k - a:=by omega
      have:=gi (p:=(·==c)) (l:=s.drop a) (by omega)
      simp only[hq,List.getElem_drop,show a+(k - a)=k by omega]at this
      exact absurd (by simpa using this) hc)
    clear hc pQ
    go_wp2_with fail
    go_roundw
    case rel=>exact⟨L,a,k+1,rfl,by go_num,by omega,by omega,Hp.out,Hown.out,by omega,Heq.out,Hw.out⟩
    case measure=>simp[intOf];omega
  ·have hm:=ch (c:=c) (s:=s.drop a) (by have:=Hpre.out;simp;omega)
   have Hn:Hid (L++[s.drop a]=aC c s):=hid (by rw[← Heq.out,hm])
   clear hm
   have hwl:=hid (Hw.out.size)
   go_wp2_with (at_builtin;refine wp_append_one rfl _ _ 142 rfl 9 (Value.string ⟨zMy ([])⟩) 16 Tryz.underlying142 Tryz.E6 rfl w.heap.size _ L.length (L.map lS) rfl Hown.out (lS (s.drop a)) _ rfl rfl (by unfold maxLen;omega) (by omega) hwl.out ?_;intro v' w' hown' hb')
   go_ret
   exact⟨v',rfl,by rw[← Hn.out];simpa using hown',Hw.out.trans hb'⟩
theorem sD (s:Bytes)(w:World)(hs:s.length≤9223372036854775807) :
 Calls Tryz.prog 126 #[(Value.string ⟨zMy (s)⟩)] w fun e w'=>e=.returned (.bool (bz s))∧w=w':=by
 go_enter Tryz.func126,Tryz.ntmps126
 go_wp2_with fail
 go_loop [3] (fun i=>∃ k:Nat,k≤s.length∧i=.int .i64 k∧(s.take k).all we=true) (fun i=>s.length - (intOf i).toNat)
 case atStart=>exact⟨0,by omega,rfl,rfl⟩
 case round =>
  obtain⟨k,hk,rfl,aR⟩:=hrel
  have Hall:=hid aR
  clear aR
  by_cases aB:k<s.length
  ·cases hc:we s[k]
   ·have Ha:=hid (show bz s=false by unfold bz;rw[cW aB hc];simp)
    have hc':=hc
    unfold we at hc'
    simp only[Bool.or_eq_false_iff]at hc'
    obtain⟨⟨c1,c2⟩,c3⟩:=hc'
    have c4:((s[k].toNat:Int) != 45)=true:=by
     have:s[k]≠45:=by simpa using c3
     rw[bne_iff_ne]
     intro h
     exact this (UInt8.toNat_inj.1 (by simp;omega))
    clear c3 hc
    go_wp2_with (first
     | (go_at_call 93;refine(iJ _ _).mono ?_;rintro e w' ⟨rfl,rfl⟩)
     | (go_at_call 94;refine(dv _ _).mono ?_;rintro e w' ⟨rfl,rfl⟩))
    go_ret
    exact⟨bc Ha.out.symm,rfl⟩
   ·have Hc:=hid (aP aB Hall.out hc)
    unfold we at hc
    simp only[Bool.or_eq_true,beq_iff_eq]at hc
    rcases hc with(hc|hc) | hc
    ·go_wp2_with (first
     | (go_at_call 93;refine(iJ _ _).mono ?_;rintro e w' ⟨rfl,rfl⟩)
     | (go_at_call 94;refine(dv _ _).mono ?_;rintro e w' ⟨rfl,rfl⟩))
     go_round
     case rel=>exact⟨k+1,by omega,by go_num,Hc.out⟩
     case measure=>simp[intOf];omega
    ·cases hca:isAlpha s[k]
     all_goals
      go_wp2_with (first
       | (go_at_call 93;refine(iJ _ _).mono ?_;rintro e w' ⟨rfl,rfl⟩)
       | (go_at_call 94;refine(dv _ _).mono ?_;rintro e w' ⟨rfl,rfl⟩))
      go_round
      case rel=>exact⟨k+1,by omega,by go_num,Hc.out⟩
      case measure=>simp[intOf];omega
    ·have c4:((s[k].toNat:Int) != 45)=false:=by simp[hc]
     clear hc
     cases hca:isAlpha s[k] <;> cases rn:isDigit s[k]
     all_goals
      go_wp2_with (first
       | (go_at_call 93;refine(iJ _ _).mono ?_;rintro e w' ⟨rfl,rfl⟩)
       | (go_at_call 94;refine(dv _ _).mono ?_;rintro e w' ⟨rfl,rfl⟩))
      go_round
      case rel=>exact⟨k+1,by omega,by go_num,Hc.out⟩
      case measure=>simp[intOf];omega
  ·have aR:=Hall.out
   rw[zMG (by omega)]at aR
   have Ha:=hid aR
   clear aR Hall
   cases h1:s.isEmpty
   ·by_cases h2:63<s.length
    ·have Hq:=hid (show bz s=false by unfold bz;simp;omega)
     go_wp2_with fail
     go_ret
     exact⟨bc Hq.out.symm,rfl⟩
    ·have hl:0<s.length:=by cases s <;> simp at h1 ⊢
     have h2':s.length≤63:=by omega
     by_cases h3:s[0]=45
     ·have Hq:=hid (show bz s=false by unfold bz;rw[ly hl,h3];simp)
      have hx:((s[0].toNat:Int) != 45)=false:=by simp[h3]
      clear h3
      go_wp2_with fail
      go_ret
      exact⟨bc Hq.out.symm,rfl⟩
     ·have hx:((s[0].toNat:Int) != 45)=true:=HF h3
      by_cases h4:s[s.length - 1]=45
      ·have Hq:=hid (show bz s=false by
        unfold bz
        rw[List.getLast?_eq_getElem?,zMA (by omega),h4];simp)
       have hy:((s[s.length - 1].toNat:Int) != 45)=false:=by simp[h4]
       clear h4 h3
       go_wp2_with fail
       go_ret
       exact⟨bc Hq.out.symm,rfl⟩
      ·have hy:((s[s.length - 1].toNat:Int) != 45)=true:=HF h4
       have Hq:=hid ((uT s h1 (by omega) (by rw[zMA hl];simpa using h3) (by rw[zMA (by omega)];simpa using h4)).trans Ha.out)
       clear h3 h4
       go_wp2_with fail
       go_ret
       exact⟨bc Hq.out.symm,rfl⟩
   ·have Hq:=hid (show bz s=false by unfold bz;simp[h1])
    go_wp2_with fail
    go_ret
    exact⟨bc Hq.out.symm,rfl⟩
theorem jq (s:Bytes)(w:World)(hs:s.length≤1000000000) :
 Calls Tryz.prog 74 #[(Value.string ⟨zMy (s)⟩)] w fun e w'=>e=.returned (.bool (ipv4 s))∧Below w.heap.size w w':=by
 have hq:ipv4 s=((aC 46 s).length==4&&(aC 46 s).all fb):=rfl
 have nS:=sE s 46 w hs
 have hlen:∀ x∈aC 46 s,x.length≤s.length:=im 46 s
 have bn:=rD 46 s
 generalize aC 46 s=parts at hq nS hlen bn
 have D9:=List.length_pos_iff.2 bn
 have Hq:=hid hq
 have Hsp:=hid nS
 have Hlen:=hid hlen
 clear hq nS hlen bn
 go_enter Tryz.func74,Tryz.ntmps74
 go_wp2_with fail
 refine Hsp.out.mono ?_
 rintro e w1 ⟨v,rfl,ln,fH⟩
 obtain⟨g,cap,rfl,hg,hgl,kQ,vu,_,gj⟩:=uF ln D9
 have Hw1:=hid fH
 have Hcells:=hid gj
 unfold maxLen at vu
 clear fH gj ln
 go_wp2_with fail
 go_loop [12] (fun i=>∃ k:Nat,k≤parts.length∧i=.int .i64 k∧(parts.take k).all fb=true) (fun i=>parts.length - (intOf i).toNat)
 case atStart=>exact⟨0,by omega,rfl,rfl⟩
 case round =>
  obtain⟨k,hk,rfl,aR⟩:=hrel
  have Hall:=hid aR
  clear aR
  by_cases aB:k<parts.length
  ·have eo:w1.cell? ⟨g,k,none⟩=some (Value.string ⟨zMy (parts[k])⟩):=by
    rw[Hcells.out k aB]
    simp[aB,lS]
   have hln:=Hlen.out parts[k] (zML aB)
   have GB:fb parts[k]=((aV 255 parts[k]).2==0):=rfl
   cases hc:fb parts[k]
   ·have Ha:=hid (cW aB hc)
    have hn:((aV 255 parts[k]).2 != 0)=true:=by rw[hc]at GB;simp only[bne];rw[← GB];rfl
    clear GB
    go_wp2_with (go_at_call 97;refine(lX _ 255 _ (by omega) (by omega)).mono ?_;rintro e w' ⟨rfl,rfl⟩)
    go_ret
    exact⟨bc (by rw[Hq.out,Ha.out];simp),Hw1.out⟩
   ·have Hn:=hid (aP aB Hall.out hc)
    have hn:((aV 255 parts[k]).2 != 0)=false:=by rw[hc]at GB;simp only[bne];rw[← GB];rfl
    clear GB
    go_wp2_with (go_at_call 97;refine(lX _ 255 _ (by omega) (by omega)).mono ?_;rintro e w' ⟨rfl,rfl⟩)
    go_round
    case rel=>exact⟨k+1,by omega,by go_num,Hn.out⟩
    case measure=>simp[intOf];omega
  ·have aR:=Hall.out
   rw[zMG (by omega)]at aR
   have Ha:=hid aR
   clear aR Hall
   go_wp2_with fail
   go_ret
   exact⟨bc (by rw[Hq.out,Ha.out,Bool.and_true,Bool.eq_iff_iff];simp;omega),Hw1.out⟩
theorem Gn (l:List Bytes)(h:l≠[]):mF l=(l.all bz&&!cn (l.getLast h)):=by
 induction l with
 | nil=>exact absurd rfl h
 | cons x l ih =>
   cases l with
   | nil=>simp[mF]
   | cons y r =>
     rw[mF,ih (by simp)]
     simp[Bool.and_assoc]
theorem uo (s:Bytes)(w:World)(hs:s.length≤1000000000) :
 Calls Tryz.prog 92 #[(Value.string ⟨zMy (s)⟩)] w fun e w'=>e=.returned (.bool (eA s))∧Below w.heap.size w w':=by
 have bn:=rD 46 s
 have nS:=sE s 46 w hs
 have hlen:∀ x∈aC 46 s,x.length≤s.length:=im 46 s
 obtain⟨parts,Ea⟩:∃ parts,aC 46 s=parts:=⟨_,rfl⟩
 rw[Ea]at nS hlen bn
 have D9:=List.length_pos_iff.2 bn
 have hq:eA s=(parts.all bz&&!cn (parts[parts.length - 1]'(by omega))):=by
  unfold eA
  rw[Ea,Gn _ bn,List.getLast_eq_getElem]
 clear Ea
 have Hq:=hid hq
 have Hsp:=hid nS
 have Hlen:=hid hlen
 clear hq nS hlen
 go_enter Tryz.func92,Tryz.ntmps92
 go_wp2_with fail
 refine Hsp.out.mono ?_
 rintro e w1 ⟨v,rfl,ln,fH⟩
 obtain⟨g,cap,rfl,hg,hgl,kQ,vu,_,gj⟩:=uF ln D9
 have Hw1:=hid fH
 have Hcells:=hid gj
 unfold maxLen at vu
 clear fH gj ln
 go_wp2_with fail
 go_loop [10] (fun i=>∃ k:Nat,k≤parts.length∧i=.int .i64 k∧(parts.take k).all bz=true) (fun i=>parts.length - (intOf i).toNat)
 case atStart=>exact⟨0,by omega,rfl,rfl⟩
 case round =>
  obtain⟨k,hk,rfl,aR⟩:=hrel
  have Hall:=hid aR
  clear aR
  by_cases aB:k<parts.length
  ·have eo:w1.cell? ⟨g,k,none⟩=some (Value.string ⟨zMy (parts[k])⟩):=by
    rw[Hcells.out k aB]
    simp[aB,lS]
   have hln:=Hlen.out parts[k] (zML aB)
   cases hc:bz parts[k]
   ·have Ha:=hid (cW aB hc)
    go_wp2_with (go_at_call 126;refine(sD _ _ (by omega)).mono ?_;rintro e w' ⟨rfl,rfl⟩)
    go_ret
    exact⟨bc (by rw[Hq.out,Ha.out];simp),Hw1.out⟩
   ·have Hn:=hid (aP aB Hall.out hc)
    go_wp2_with (go_at_call 126;refine(sD _ _ (by omega)).mono ?_;rintro e w' ⟨rfl,rfl⟩)
    go_round
    case rel=>exact⟨k+1,by omega,by go_num,Hn.out⟩
    case measure=>simp[intOf];omega
  ·have aR:=Hall.out
   rw[zMG (by omega)]at aR
   have Ha:=hid aR
   clear aR Hall
   have eo:w1.cell? ⟨g,parts.length - 1,none⟩=some (Value.string ⟨zMy (parts[parts.length - 1]'(by omega))⟩):=by
    rw[Hcells.out (parts.length - 1) (by omega)]
    rw[List.getElem?_map,zMA (by omega)]
    rfl
   have hln:=Hlen.out (parts[parts.length - 1]'(by omega)) (zML _)
   have mO:parts.length - 1<parts.length:=by omega
   go_wp2_with (go_at_call 127;refine(yX _ _ (by omega)).mono ?_;rintro e w' ⟨rfl,rfl⟩)
   go_ret
   exact⟨bc (by rw[Hq.out,Ha.out,Bool.true_and]),Hw1.out⟩
open Go.RowKit Go.Sort Wf
attribute [local go_sem] fJ eQ get_list
theorem pE (s:Bytes)(w:World)(hs:s.length≤1000000000) :
 Calls Tryz.prog 70 #[(Value.string ⟨zMy (s)⟩)] w fun e w'=>e=.returned (.tuple #[(Value.string ⟨zMy ((bB s).1)⟩),.int .i64 (bB s).2])∧Below w.heap.size w w':=by
 cases h1:s.isEmpty
 ·by_cases h2:253<s.length
  ·have Hq:=hid (show bB s=([],5) by unfold bB;simp[h1,h2])
   go_enter Tryz.func70,Tryz.ntmps70
   go_wp2_with fail
   go_ret2
   rw[Hq.out]
   exact⟨rfl,Below.refl _ _⟩
  ·cases h3:ipv4 s
   ·cases h4:eA s
    ·have Hq:=hid (show bB s=([],50) by unfold bB;simp[h1,h2,h3,h4])
     go_enter Tryz.func70,Tryz.ntmps70
     go_wp2_with (first
      | (go_at_call 74;refine(jq _ _ hs).mono ?_;rintro e w1 ⟨rfl,fH⟩)
      | (go_at_call 92;refine(uo _ _ hs).mono ?_;rintro e w2 ⟨rfl,eD⟩))
     go_ret2
     rw[Hq.out]
     exact⟨rfl,bo ‹_› ‹_›⟩
    ·have Hq:=hid (show bB s=(lower s,0) by unfold bB;simp[h1,h2,h3,h4])
     go_enter Tryz.func70,Tryz.ntmps70
     go_wp2_with (first
      | (go_at_call 74;refine(jq _ _ hs).mono ?_;rintro e w1 ⟨rfl,fH⟩)
      | (go_at_call 92;refine(uo _ _ hs).mono ?_;rintro e w2 ⟨rfl,eD⟩)
      | (go_at_call 47;refine(ny _ _ (by omega)).mono ?_;rintro e w3 ⟨rfl,wV⟩))
     go_ret2
     rw[Hq.out]
     exact⟨rfl,bo (bo fH eD) wV⟩
   ·have Hq:=hid (show bB s=(lower s,0) by unfold bB;simp[h1,h2,h3])
    go_enter Tryz.func70,Tryz.ntmps70
    go_wp2_with (first
     | (go_at_call 74;refine(jq _ _ hs).mono ?_;rintro e w1 ⟨rfl,fH⟩)
     | (go_at_call 47;refine(ny _ _ (by omega)).mono ?_;rintro e w3 ⟨rfl,wV⟩))
    go_ret2
    rw[Hq.out]
    exact⟨rfl,bo fH wV⟩
 ·have Hq:=hid (show bB s=([],3) by unfold bB;simp[h1])
  go_enter Tryz.func70,Tryz.ntmps70
  go_wp2_with fail
  go_ret2
  rw[Hq.out]
  exact⟨rfl,Below.refl _ _⟩
theorem DB (s:Bytes)(w:World)(hs:s.length≤9223372036854775807) :
 Calls Tryz.prog 130 #[(Value.string ⟨zMy (s)⟩)] w fun e w'=>e=.returned (.tuple #[.int .i64 (ji s).1,.int .i64 (ji s).2])∧w=w':=by
 have hle:=lZ 65535 s
 have hq:ji s=if (aV 65535 s).2≠0∨(aV 65535 s).1=0 then(0,51) else(((aV 65535 s).1:Int),0):=rfl
 have hc:=lX s 65535 w (by omega) (by omega)
 generalize aV 65535 s=np at hle hq hc
 obtain⟨n,e⟩:=np
 simp only at hle hq hc
 have Hc:=hid hc
 clear hc
 by_cases he:e=0
 ·subst he
  by_cases hn:n=0
  ·rw[if_pos (Or.inr hn)]at hq
   have Hq:=hid hq
   have hx:((n:Int)==0)=true:=by simp[hn]
   clear hq hn
   go_enter Tryz.func130,Tryz.ntmps130
   go_wp2_with fail
   refine Hc.out.mono ?_
   rintro e w' ⟨rfl,rfl⟩
   go_wp2_with fail
   go_ret2
   rw[Hq.out]
   exact⟨rfl,rfl⟩
  ·rw[if_neg (by simp[hn])]at hq
   have Hq:=hid hq
   have hx:((n:Int)==0)=false:=by simp[hn]
   clear hq hn
   go_enter Tryz.func130,Tryz.ntmps130
   go_wp2_with fail
   refine Hc.out.mono ?_
   rintro e w' ⟨rfl,rfl⟩
   go_wp2_with fail
   go_ret2
   rw[Hq.out]
   exact⟨rfl,rfl⟩
 ·rw[if_pos (Or.inl he)]at hq
  have Hq:=hid hq
  have hx:(e != 0)=true:=by simp[he]
  clear hq
  go_enter Tryz.func130,Tryz.ntmps130
  go_wp2_with fail
  refine Hc.out.mono ?_
  rintro e w' ⟨rfl,rfl⟩
  go_wp2_with fail
  go_ret2
  rw[Hq.out]
  exact⟨rfl,rfl⟩
theorem AZ (s:Bytes)(w:World)(hs:s.length≤1000000000) :
 Calls Tryz.prog 99 #[(Value.string ⟨zMy (s)⟩)] w fun e w'=>e=.returned (.tuple #[.agg #[(Value.string ⟨zMy ((aH s).1.1)⟩),.int .i64 (aH s).1.2],.int .i64 (aH s).2])∧Below w.heap.size w w':=by
 have dK:pre (has [58] ·) s=pre (·==58) s:=by congr 1;funext c;simp[has];exact(Bool.beq_eq_decide_eq _ _).symm
 have hle:=cx (·==58) s
 have hq:aH s=cy (bB (aL 58 s).1) (aL 58 s).2.2 (ji (aL 58 s).2.1):=rfl
 have ha:=cC w (.cells #[(Value.string ⟨zMy ([])⟩),.int .i64 0] 128)
 have zL:Below w.heap.size w (w.alloc (.cells #[(Value.string ⟨zMy ([])⟩),.int .i64 0] 128)):=(Below.refl _ _).alloc (zMJ _) _
 generalize Fb:w.alloc (.cells #[(Value.string ⟨zMy ([])⟩),.int .i64 0] 128)=wa at ha zL
 have Ha:=hid ha
 have Hba:=hid zL
 have Hwa:=hid Fb
 have Hpre:=hid dK
 clear ha zL Fb dK
 by_cases hp:pre (·==58) s<s.length
 ·have hc:aL 58 s=(s.take (pre (·==58) s),s.drop (pre (·==58) s+1),true):=if_pos hp
  rw[hc]at hq
  simp only at hq
  have hh:=fun w=>pE (s.take (pre (·==58) s)) w (by simp;omega)
  have hpp:=fun w=>DB (s.drop (pre (·==58) s+1)) w (by simp;omega)
  have mO:(s.take (pre (·==58) s)).length≤s.length:=by rw[zMH];omega
  generalize bB (s.take (pre (·==58) s))=H at hq hh
  generalize ji (s.drop (pre (·==58) s+1))=P at hq hpp
  obtain⟨h,e⟩:=H
  obtain⟨p,f⟩:=P
  simp only at hh hpp
  have Hh:=hid hh
  have Hp:=hid hpp
  have hkne:((pre (·==58) s:Int)==(s.length:Int))=false:=beq_eq_false_iff_ne.2 (by omega)
  clear hh hpp hc
  generalize pre (·==58) s=k at Hh Hp hkne hp hle Hpre mO
  by_cases he:e=0
  ·subst he
   by_cases hf:f=0
   ·subst hf
    by_cases mR:p=443
    ·have Hq:=hid (show aH s=((h,0),0) by rw[hq];unfold cy;simp[mR])
     have hx:(p==443)=true:=by simp[mR]
     clear hq mR
     go_enter Tryz.func99,Tryz.ntmps99
     go_wp2_with fail
     rw[Hwa.out]
     go_wp2_with fail
     refine(gu s [58] _ (by omega) (by decide)).mono ?_
     rintro e w1 ⟨rfl,rfl⟩
     rw[Hpre.out]
     go_wp2_with fail
     refine(Hh.out _).mono ?_
     rintro e w2 ⟨rfl,eD⟩
     have Ha2:=hid ((eD.block _ (bQ Ha.out)).trans Ha.out)
     have Hw2:=hid (bo Hba.out eD)
     clear eD
     have aB:=bQ Ha2.out
     have c0:=Lib.cell_of_heap Ha2.out 0
     have c1:=Lib.cell_of_heap Ha2.out 1
     have z0:=Lib.frozen_of_heap Ha2.out 0
     have z1:=Lib.frozen_of_heap Ha2.out 1
     go_wp2_with fail
     go_wp2_with (go_at_call 130;refine(Hp.out _).mono ?_;rintro e w3 ⟨rfl,rfl⟩)
     refine bodyPost_ret (v:=.tuple #[.agg #[(Value.string ⟨zMy (h)⟩),.int .i64 0],.int .i64 0]) (by simp[results,Tryz.results99,go_sem,c0,c1]) rfl ⟨?_,?_⟩
     ·rw[Hq.out]
     ·repeat (first|exact Hw2.out | (refine Below.setCell (p:=⟨_,_,none⟩) ?_ (by simp <;> omega) _) | (refine Below.alloc ?_ (by simp <;> omega) _) | refine Below.drew ?_)
    ·have Hq:=hid (show aH s=((h,p),0) by rw[hq];unfold cy;simp[mR])
     have hx:(p==443)=false:=by simp[mR]
     clear hq mR
     go_enter Tryz.func99,Tryz.ntmps99
     go_wp2_with fail
     rw[Hwa.out]
     go_wp2_with fail
     refine(gu s [58] _ (by omega) (by decide)).mono ?_
     rintro e w1 ⟨rfl,rfl⟩
     rw[Hpre.out]
     go_wp2_with fail
     refine(Hh.out _).mono ?_
     rintro e w2 ⟨rfl,eD⟩
     have Ha2:=hid ((eD.block _ (bQ Ha.out)).trans Ha.out)
     have Hw2:=hid (bo Hba.out eD)
     clear eD
     have aB:=bQ Ha2.out
     have c0:=Lib.cell_of_heap Ha2.out 0
     have c1:=Lib.cell_of_heap Ha2.out 1
     have z0:=Lib.frozen_of_heap Ha2.out 0
     have z1:=Lib.frozen_of_heap Ha2.out 1
     go_wp2_with fail
     go_wp2_with (go_at_call 130;refine(Hp.out _).mono ?_;rintro e w3 ⟨rfl,rfl⟩)
     refine bodyPost_ret (v:=.tuple #[.agg #[(Value.string ⟨zMy (h)⟩),.int .i64 p],.int .i64 0]) (by simp[results,Tryz.results99,go_sem,c0,c1]) rfl ⟨?_,?_⟩
     ·rw[Hq.out]
     ·repeat (first|exact Hw2.out | (refine Below.setCell (p:=⟨_,_,none⟩) ?_ (by simp <;> omega) _) | (refine Below.alloc ?_ (by simp <;> omega) _) | refine Below.drew ?_)
   ·have Hq:=hid (show aH s=(([],0),f) by rw[hq];unfold cy;simp[hf])
    have hx:(f != 0)=true:=by simp[hf]
    clear hq hf
    go_enter Tryz.func99,Tryz.ntmps99
    go_wp2_with fail
    rw[Hwa.out]
    go_wp2_with fail
    refine(gu s [58] _ (by omega) (by decide)).mono ?_
    rintro e w1 ⟨rfl,rfl⟩
    rw[Hpre.out]
    go_wp2_with fail
    refine(Hh.out _).mono ?_
    rintro e w2 ⟨rfl,eD⟩
    have Ha2:=hid ((eD.block _ (bQ Ha.out)).trans Ha.out)
    have Hw2:=hid (bo Hba.out eD)
    clear eD
    have aB:=bQ Ha2.out
    have c0:=Lib.cell_of_heap Ha2.out 0
    have c1:=Lib.cell_of_heap Ha2.out 1
    have z0:=Lib.frozen_of_heap Ha2.out 0
    have z1:=Lib.frozen_of_heap Ha2.out 1
    go_wp2_with fail
    go_wp2_with (go_at_call 130;refine(Hp.out _).mono ?_;rintro e w3 ⟨rfl,rfl⟩)
    refine bodyPost_ret (v:=.tuple #[.agg #[(Value.string ⟨zMy ([])⟩),.int .i64 0],.int .i64 f]) (by simp[results,Tryz.results99,go_sem,c0,c1]) rfl ⟨?_,?_⟩
    ·rw[Hq.out]
    ·repeat (first|exact Hw2.out | (refine Below.setCell (p:=⟨_,_,none⟩) ?_ (by simp <;> omega) _) | (refine Below.alloc ?_ (by simp <;> omega) _) | refine Below.drew ?_)
  ·have hx:(e != 0)=true:=by simp[he]
   have Hq:=hid (show aH s=(([],0),e) by rw[hq];unfold cy;rw[if_pos he])
   clear hq he
   go_enter Tryz.func99,Tryz.ntmps99
   go_wp2_with fail
   rw[Hwa.out]
   go_wp2_with fail
   refine(gu s [58] _ (by omega) (by decide)).mono ?_
   rintro e w1 ⟨rfl,rfl⟩
   rw[Hpre.out]
   go_wp2_with fail
   refine(Hh.out _).mono ?_
   rintro e w2 ⟨rfl,eD⟩
   have Ha2:=hid ((eD.block _ (bQ Ha.out)).trans Ha.out)
   have Hw2:=hid (bo Hba.out eD)
   clear eD
   have aB:=bQ Ha2.out
   have c0:=Lib.cell_of_heap Ha2.out 0
   have c1:=Lib.cell_of_heap Ha2.out 1
   have z0:=Lib.frozen_of_heap Ha2.out 0
   have z1:=Lib.frozen_of_heap Ha2.out 1
   go_wp2_with fail
   refine bodyPost_ret (v:=.tuple #[.agg #[(Value.string ⟨zMy ([])⟩),.int .i64 0],.int .i64 e]) (by simp[results,Tryz.results99,go_sem,c0,c1]) rfl ⟨?_,?_⟩
   ·rw[Hq.out]
   ·repeat (first|exact Hw2.out | (refine Below.setCell (p:=⟨_,_,none⟩) ?_ (by simp <;> omega) _) | (refine Below.alloc ?_ (by simp <;> omega) _) | refine Below.drew ?_)
 ·have hc:aL 58 s=(s,[],false):=if_neg hp
  have hk:pre (·==58) s=s.length:=by omega
  rw[hc]at hq
  simp only at hq
  have hh:=fun w=>pE s w hs
  generalize bB s=H at hq hh
  obtain⟨h,e⟩:=H
  simp only at hh
  have Hh:=hid hh
  have Hpre:=hid (Hpre.out.trans hk)
  clear hh hk hc
  by_cases he:e=0
  ·subst he
   have Hq:=hid (show aH s=((h,0),0) from hq)
   clear hq
   go_enter Tryz.func99,Tryz.ntmps99
   go_wp2_with fail
   rw[Hwa.out]
   go_wp2_with fail
   refine(gu s [58] _ (by omega) (by decide)).mono ?_
   rintro e w1 ⟨rfl,rfl⟩
   rw[Hpre.out]
   go_wp2_with fail
   refine(Hh.out _).mono ?_
   rintro e w2 ⟨rfl,eD⟩
   have Ha2:=hid ((eD.block _ (bQ Ha.out)).trans Ha.out)
   have Hw2:=hid (bo Hba.out eD)
   clear eD
   have aB:=bQ Ha2.out
   have c0:=Lib.cell_of_heap Ha2.out 0
   have c1:=Lib.cell_of_heap Ha2.out 1
   have z0:=Lib.frozen_of_heap Ha2.out 0
   have z1:=Lib.frozen_of_heap Ha2.out 1
   go_wp2_with fail
   refine bodyPost_ret (v:=.tuple #[.agg #[(Value.string ⟨zMy (h)⟩),.int .i64 0],.int .i64 0]) (by simp[results,Tryz.results99,go_sem,c0,c1]) rfl ⟨?_,?_⟩
   ·rw[Hq.out]
   ·repeat (first|exact Hw2.out | (refine Below.setCell (p:=⟨_,_,none⟩) ?_ (by simp <;> omega) _) | (refine Below.alloc ?_ (by simp <;> omega) _) | refine Below.drew ?_)
  ·have hx:(e != 0)=true:=by simp[he]
   have Hq:=hid (show aH s=(([],0),e) by rw[hq];unfold cy;rw[if_pos he])
   clear hq he
   go_enter Tryz.func99,Tryz.ntmps99
   go_wp2_with fail
   rw[Hwa.out]
   go_wp2_with fail
   refine(gu s [58] _ (by omega) (by decide)).mono ?_
   rintro e w1 ⟨rfl,rfl⟩
   rw[Hpre.out]
   go_wp2_with fail
   refine(Hh.out _).mono ?_
   rintro e w2 ⟨rfl,eD⟩
   have Ha2:=hid ((eD.block _ (bQ Ha.out)).trans Ha.out)
   have Hw2:=hid (bo Hba.out eD)
   clear eD
   have aB:=bQ Ha2.out
   have c0:=Lib.cell_of_heap Ha2.out 0
   have c1:=Lib.cell_of_heap Ha2.out 1
   have z0:=Lib.frozen_of_heap Ha2.out 0
   have z1:=Lib.frozen_of_heap Ha2.out 1
   go_wp2_with fail
   refine bodyPost_ret (v:=.tuple #[.agg #[(Value.string ⟨zMy ([])⟩),.int .i64 0],.int .i64 e]) (by simp[results,Tryz.results99,go_sem,c0,c1]) rfl ⟨?_,?_⟩
   ·rw[Hq.out]
   ·repeat (first|exact Hw2.out | (refine Below.setCell (p:=⟨_,_,none⟩) ?_ (by simp <;> omega) _) | (refine Below.alloc ?_ (by simp <;> omega) _) | refine Below.drew ?_)
theorem qm (n:Nat)(w:World)(hn:n≤18446744073709551615) :
 Calls Tryz.prog 162 #[.int .u64 n] w fun e w'=>e=.returned (Value.string ⟨zMy (cM n)⟩)∧Below w.heap.size w w':=by
 have hlen:(cM n).length≤20:=dO 19 n (by omega)
 go_enter Tryz.func162,Tryz.ntmps162
 go_wp2_with fail
 go_loopw [0,3] (fun v o wr=>∃ (k:Nat) (ds:Bytes),v=.int .u64 k∧o=(Value.string ⟨zMy (ds)⟩)∧k≤18446744073709551615∧(cM k).length+ds.length≤20∧cM k++ds=cM n∧Below w.heap.size w wr) (fun v _ _=>(intOf v).toNat)
 case atStart=>exact⟨n,[],rfl,rfl,hn,by simpa using hlen,by simp,Below.refl _ _⟩
 case round =>
  obtain⟨k,ds,rfl,rfl,hk,hl,heq,hw⟩:=hrel
  have fI:∀ T,jm (wr.alloc (.cells #[.int .u8 (48+(k:Int) % 10)] T)) wr.heap.size [sW (k % 10)]:=fun T =>
   ⟨[],T,(0,0),by rw[cC];simp only[List.map_cons,List.map_nil,List.append_nil,u8V,oe (show k % 10<10 by omega)];rfl,Or.inr (by simp)⟩
  have jk:=fun T=>(fI T).back 1
  simp only[zMB,zMD,Nat.zero_add]at jk
  have Heq:=hid heq
  have Hw:=hid hw
  clear heq hw fI
  by_cases fy:k<10
  ·have hz:((k:Int) / 10==0)=true:=by simp;omega
   have hm:k % 10=k:=by omega
   have Hn:=hid (show cM n=sW (k % 10)::ds by rw[← Heq.out,gn fy,hm];rfl)
   have hll:ds.length≤20:=by omega
   clear hm
   go_wp2_with fail
   go_ret
   refine⟨lW (by rw[Hn.out]),?_⟩
   exact Hw.out.alloc Hw.out.size _
  ·have hz:((k:Int) / 10==0)=false:=by simp;omega
   have Hn:=hid (show cM (k / 10)++sW (k % 10)::ds=cM n by rw[← Heq.out,lF fy];simp)
   have gF:=mK fy
   have Hl2:=hid gF
   have hll:ds.length≤20:=by omega
   clear gF
   go_wp2_with fail
   have h1:=Hl2.out
   refine⟨⟨k / 10,sW (k % 10)::ds,congrArg (Value.int .u64) (by omega),rfl,by omega,by simp;omega,Hn.out,Hw.out.alloc Hw.out.size _⟩,?_⟩
   simp[intOf];omega
theorem oS (p:Int)(w:World)(h1:-9223372036854775808≤p)(h2:p≤9223372036854775807) :
 Calls Tryz.prog 132 #[.int .i64 p] w fun e w'=>e=.returned (Value.string ⟨zMy ((if p<0 then [45] else [])++cM p.natAbs)⟩)∧Below w.heap.size w w':=by
 have hd:=dO 19 p.natAbs (by omega)
 by_cases Ed:p<0
 ·rw[if_pos Ed]
  have hp:-(p+1)+1=(p.natAbs:Int):=by omega
  have hnn:p.natAbs≤18446744073709551615:=by omega
  go_enter Tryz.func132,Tryz.ntmps132
  go_wp2_with fail
  clear hp
  go_wp2_with (go_at_call 162;refine(qm _ _ hnn).mono ?_;rintro e w1 ⟨rfl,fH⟩)
  go_ret
  exact⟨rfl,fH⟩
 ·rw[if_neg Ed]
  obtain⟨n,rfl⟩:=Int.eq_ofNat_of_zero_le (show 0≤p by omega)
  go_enter Tryz.func132,Tryz.ntmps132
  go_wp2_with (go_at_call 162;refine(qm _ _ (by omega)).mono ?_;rintro e w1 ⟨rfl,fH⟩)
  go_ret
  exact⟨rfl,fH⟩
theorem yW (h:Bytes)(p:Int)(w:World)(hh:h.length≤4611686018427387904)(h1:-9223372036854775808≤p)(h2:p≤9223372036854775807) :
 Calls Tryz.prog 101 #[.agg #[(Value.string ⟨zMy (h)⟩),.int .i64 p]] w fun e w'=>e=.returned (Value.string ⟨zMy (bg h p)⟩)∧Below w.heap.size w w':=by
 have ha:=cC w (.cells #[(Value.string ⟨zMy (h)⟩),.int .i64 p] 128)
 have zL:Below w.heap.size w (w.alloc (.cells #[(Value.string ⟨zMy (h)⟩),.int .i64 p] 128)):=(Below.refl _ _).alloc (zMJ _) _
 generalize Fb:w.alloc (.cells #[(Value.string ⟨zMy (h)⟩),.int .i64 p] 128)=wa at ha zL
 have aB:=bQ ha
 have c0:wa.cell? ⟨w.heap.size,0,none⟩=some (Value.string ⟨zMy (h)⟩):=Lib.cell_of_heap ha 0
 have c1:wa.cell? ⟨w.heap.size,1,none⟩=some (.int .i64 p):=Lib.cell_of_heap ha 1
 have Hba:=hid zL
 have Hwa:=hid Fb
 clear ha zL Fb
 by_cases h0:p=0
 ·subst h0
  have Hq:=hid (show bg h 0=h from if_pos rfl)
  go_enter Tryz.func101,Tryz.ntmps101
  go_wp2_with fail
  rw[Hwa.out]
  go_wp2_with fail
  go_ret
  exact⟨lW Hq.out.symm,Hba.out⟩
 ·have hx:(p==0)=false:=by simp[h0]
  have hq:bg h p=h++58::((if p<0 then [45] else [])++cM p.natAbs):=by
   unfold bg
   rw[if_neg h0]
   split <;> simp
  have hd:=dO 19 p.natAbs (by omega)
  have pQ:((if p<0 then [45] else [])++cM p.natAbs).length≤21:=by split <;> simp <;> omega
  have hdc:=fun w=>oS p w h1 h2
  generalize (if p<0 then [45] else [])++cM p.natAbs=ds at hq pQ hdc
  have Hq:=hid hq
  have Hdc:=hid hdc
  clear h0 hq hdc hd
  go_enter Tryz.func101,Tryz.ntmps101
  go_wp2_with fail
  rw[Hwa.out]
  go_wp2_with fail
  have n1:¬ 9223372036854775807<h.length+1:=by omega
  have n2:¬ 9223372036854775807<h.length+1+ds.length:=by omega
  have k0:=cell_regrown c0
  have k1:=cell_regrown c1
  clear c0 c1 hx
  refine wp_region_quiet_below (by kernel_rfl) (by kernel_rfl) ?_
  repeat (quiet_step ((go_at_call 132;exact Calls.regrown_of (Hdc.out _))))
  refine wpQuiet_nil ?_
  intro _ hw'
  obtain⟨⟨dq,osq⟩,hw''⟩:=hw'
  subst hw''
  have Ag:=below_regrown wa dq osq
  generalize grow (redrawn wa dq) osq=wq at Ag ⊢
  clear n1 n2 k0 k1
  go_wp2_with fail
  go_ret
  exact⟨lW Hq.out.symm,bo Hba.out Ag⟩
open Go Vc Go.RowKit Wf
theorem sK (s:Bytes)(hs:s.length<4294967281):PC Tryz.V 140 [.str s] (.eS [.str (bB s).1,.int .i64 (bB s).2]) :=
 ⟨Tryz.call140,by simp[flat,flat.ai],by simp[flat,flat.ai],fun w hE=>(yg s w hE hs).mono fun _ _ ⟨h,k⟩=>⟨h,k⟩⟩
theorem qs (s:Bytes)(hs:s.length<4294967281):PC Tryz.V 151 [.str s] (.eS [.agg [.str (aH s).1.1,.int .i64 (aH s).1.2],.int .i64 (aH s).2]) :=
 ⟨Tryz.call151,by simp[flat,flat.ai],by simp[flat,flat.ai],fun w hE=>(Ec s w hE hs).mono fun _ _ ⟨h,k⟩=>⟨h,k⟩⟩
theorem wN (h:Bytes)(p:Int)(hh:h.length≤4611686018427387904)(h1:-9223372036854775808≤p)(h2:p≤9223372036854775807):PC Tryz.V 153 [.agg [.str h,.int .i64 p]] (.str (bg h p)) :=
 ⟨Tryz.call153,by simp[flat,flat.ai],by simp[flat,flat.ai],fun w hE=>(B5 h p w hh h1 h2).mono fun _ _ ⟨h,k⟩=>⟨h,k⟩⟩
theorem xK (s:Bytes)(hs:s.length≤1000000000):PC Tryz.V 70 [.str s] (.eS [.str (bB s).1,.int .i64 (bB s).2]) :=
 ⟨Tryz.call70,by simp[flat,flat.ai],by simp[flat,flat.ai],fun w hE=>(pE s w hs).mono fun _ _ ⟨h,k⟩=>⟨h,k⟩⟩
theorem ux (s:Bytes)(hs:s.length≤1000000000):PC Tryz.V 99 [.str s] (.eS [.agg [.str (aH s).1.1,.int .i64 (aH s).1.2],.int .i64 (aH s).2]) :=
 ⟨Tryz.call99,by simp[flat,flat.ai],by simp[flat,flat.ai],fun w hE=>(AZ s w hs).mono fun _ _ ⟨h,k⟩=>⟨h,k⟩⟩
theorem Bh (h:Bytes)(p:Int)(hh:h.length≤4611686018427387904)(h1:-9223372036854775808≤p)(h2:p≤9223372036854775807):PC Tryz.V 101 [.agg [.str h,.int .i64 p]] (.str (bg h p)) :=
 ⟨Tryz.call101,by simp[flat,flat.ai],by simp[flat,flat.ai],fun w hE=>(yW h p w hh h1 h2).mono fun _ _ ⟨h,k⟩=>⟨h,k⟩⟩
theorem zn (s:Bytes)(hs:s.length≤9223372036854775807):PC Tryz.V 66 [.str s] (.str (lower s)) :=
 ⟨Tryz.call66,by simp[flat,flat.ai],by simp[flat,flat.ai],fun w hE=>(ou s w hs).mono fun _ _ ⟨h,k⟩=>⟨h,k⟩⟩
theorem pF (s:Bytes)(hs:s.length≤9223372036854775807):PC Tryz.V 47 [.str s] (.str (lower s)) :=
 ⟨Tryz.call47,by simp[flat,flat.ai],by simp[flat,flat.ai],fun w hE=>(ny s w hs).mono fun _ _ ⟨h,k⟩=>⟨h,k⟩⟩
theorem zo (s t:Bytes)(hs:s.length≤9223372036854775807)(ht:t.length≤9223372036854775807):PC Tryz.V 141 [.str s,.str t] (.bool (lower s==lower t)):=by
 refine aQ 3000 Tryz.func141 rfl Tryz.ntmps141 Tryz.results141 Tryz.call141 (by simp) (by simp[flat,flat.ai]) (by simp[flat,flat.ai]) ?_
 simp only[ad,↓Xn,↓Xo,↓Xg,↓Xd,↓Xe,↓Xf,Tryz.VΓ,Tryz.Γs,Xp,Xi,Nat.reduceAdd,Nat.reduceSub,Nat.reduceLT,Nat.reduceLeDiff,reduceIte,reduceCtorEq,Nat.reduceEqDiff,implies_true,forall_const,aa]
 (refine ae (zn s hs) ?_;simp only[ad,↓Xn,↓Xo,↓Xg,↓Xd,↓Xe,↓Xf,Tryz.VΓ,Tryz.Γs,Xp,Xi,Nat.reduceAdd,Nat.reduceSub,Nat.reduceLT,Nat.reduceLeDiff,reduceIte,reduceCtorEq,Nat.reduceEqDiff,implies_true,forall_const,aa])
 (refine ae (zn t ht) ?_;simp only[ad,↓Xn,↓Xo,↓Xg,↓Xd,↓Xe,↓Xf,Tryz.VΓ,Tryz.Γs,Xp,Xi,Nat.reduceAdd,Nat.reduceSub,Nat.reduceLT,Nat.reduceLeDiff,reduceIte,reduceCtorEq,Nat.reduceEqDiff,implies_true,forall_const,aa])
theorem pG (s t:Bytes)(hs:s.length≤9223372036854775807)(ht:t.length≤9223372036854775807):PC Tryz.V 68 [.str s,.str t] (.bool (lower s==lower t)):=by
 refine aQ 3000 Tryz.func68 rfl Tryz.ntmps68 Tryz.results68 Tryz.call68 (by simp) (by simp[flat,flat.ai]) (by simp[flat,flat.ai]) ?_
 simp only[ad,↓Xn,↓Xo,↓Xg,↓Xd,↓Xe,↓Xf,Tryz.VΓ,Tryz.Γs,Xp,Xi,Nat.reduceAdd,Nat.reduceSub,Nat.reduceLT,Nat.reduceLeDiff,reduceIte,reduceCtorEq,Nat.reduceEqDiff,implies_true,forall_const,aa]
 (refine ae (pF s hs) ?_;simp only[ad,↓Xn,↓Xo,↓Xg,↓Xd,↓Xe,↓Xf,Tryz.VΓ,Tryz.Γs,Xp,Xi,Nat.reduceAdd,Nat.reduceSub,Nat.reduceLT,Nat.reduceLeDiff,reduceIte,reduceCtorEq,Nat.reduceEqDiff,implies_true,forall_const,aa])
 (refine ae (pF t ht) ?_;simp only[ad,↓Xn,↓Xo,↓Xg,↓Xd,↓Xe,↓Xf,Tryz.VΓ,Tryz.Γs,Xp,Xi,Nat.reduceAdd,Nat.reduceSub,Nat.reduceLT,Nat.reduceLeDiff,reduceIte,reduceCtorEq,Nat.reduceEqDiff,implies_true,forall_const,aa])
theorem sw {c:UInt8}{s:Bytes}{a i:Nat}(hi:i<s.length)(ha:a≤i)(hp:i - a≤pre (·==c) (s.drop a))(hc:s[i]=c):aC c (s.drop a)=(s.take i).drop a::aC c (s.drop (i+1)):=by
 have dK:pre (·==c) (s.drop a)=i - a:=by
  apply Nat.le_antisymm _ hp
  apply Nat.le_of_not_lt
  intro aB
  have:=gM (p:=(·==c)) (l:=s.drop a) (k:=i - a) aB (by simp;omega)
  simp[show a+(i - a)=i by omega,hc]at this
 rw[cJ (by rw[dK,zMz];omega),dK,List.drop_drop,List.drop_take,show a+(i - a+1)=i+1 by omega]
theorem xH {c:UInt8}{s:Bytes}{a i:Nat}(hi:i<s.length)(ha:a≤i)(hp:i - a≤pre (·==c) (s.drop a))(hc:s[i]≠c):i+1 - a≤pre (·==c) (s.drop a):=by
 apply Nat.le_of_not_lt
 intro aB
 have dK:pre (·==c) (s.drop a)=i - a:=by omega
 have:=gi (p:=(·==c)) (l:=s.drop a) (by rw[dK,zMz];omega)
 simp[dK,show a+(i - a)=i by omega]at this
 exact hc this
def SplI (bs:List ax)(s:Bytes)(c:UInt8)(σ:St):Prop:=∃ (i a:Nat) (x:SV) (dn:List Bytes),lk 0 σ.t=some (.str s)∧lk 1 σ.t=some (.int .u8 c.toNat)∧lk 5 σ.t=some x∧lk 6 σ.t=some (.int .i64 a)∧lk 7 σ.t=some (.int .i64 i) ∧
 a≤i∧i≤s.length∧dn.length≤a∧i - a≤pre (·==c) (s.drop a)∧dn++aC c (s.drop a)=aC c s∧Sl 9 1 bs.length x σ.b (dn.map SV.str) dn.length∧Kp bs σ.b
def SplM (s:Bytes)(σ:St):Nat:=match lk 7 σ.t with
 | some (.int _ k)=>s.length - k.toNat
 | _=>0
theorem FP {s:Bytes}{σ:St}{k:Nat}(h:lk 7 σ.t=some (.int .i64 k)):SplM s σ=s.length - k:=by simp[SplM,h]
theorem yH {bs b:List ax}{s:Bytes}{c:UInt8}{t:List (Nat × SV)}{i i' a:Nat}{x:SV}{dn:List Bytes}(h0:lk 0 t=some (.str s))(h1:lk 1 t=some (.int .u8 c.toNat))(h5:lk 5 t=some x)(h6:lk 6 t=some (.int .i64 a))(h7:lk 7 t=some (.int .i64 i'))
 (h:a≤i'∧i'≤s.length∧dn.length≤a∧i' - a≤pre (·==c) (s.drop a)) (nS:dn++aC c (s.drop a)=aC c s) (ye:Sl 9 1 bs.length x b (dn.map SV.str) dn.length) (cw:Kp bs b) (aB:i<i'):SplI bs s c ⟨t,b⟩∧SplM s ⟨t,b⟩<s.length - i :=
 ⟨⟨i',a,x,dn,h0,h1,h5,h6,h7,h.1,h.2.1,h.2.2.1,h.2.2.2,nS,ye,cw⟩,by rw[FP h7];omega⟩
theorem qh {bs:List ax}(s:Bytes)(c:UInt8)(hs:s.length≤1000000) :
 SC Tryz.V 95 [.str s,.int .u8 c.toNat] bs (fun r b=>∃ j,r=.o j (aC c s).length∧bs.length≤j∧b[j]? = some (.own ((aC c s).map SV.str) 9 1 (aC c s).length true)∧Kp bs b):=by
 refine cz 3000 Tryz.func95 rfl Tryz.ntmps95 Tryz.results95 Tryz.call95 (by simp) (aw bs.length _ (by simp[within,within.ay])) ?_
 simp only[ad,↓Xn,↓Xo,↓Xg,↓Xd,↓Xe,↓Xf,Tryz.VΓ,Tryz.Γs,Xp,Xi,Nat.reduceAdd,Nat.reduceSub,Nat.reduceLT,Nat.reduceLeDiff,reduceIte,reduceCtorEq,Nat.reduceEqDiff,implies_true,forall_const,aa]
 refine aM (SplI bs s c) (SplM s) ⟨0,0,.aE,[],rfl,rfl,rfl,rfl,rfl,by simp,by simp,by simp,by simp,by simp,.inl ⟨rfl,rfl,rfl⟩,Kp.refl _⟩ ?_
 rintro⟨t,b⟩ ⟨i,a,x,dn,h0,h1,h5,h6,h7,hai,his,hda,hp,nS,ye,cw⟩
 simp only at h0 h1 h5 h6 h7 ye cw
 rw[FP h7]
 rcases ye with⟨rfl,fR,hda0⟩|⟨j,rfl,lN,hj⟩
 ·obtain rfl:dn=[]:=by simpa using fR
  simp only[ad,↓Xn,↓Xo,↓Xg,↓Xd,↓Xe,↓Xf,Tryz.VΓ,Tryz.Γs,Xp,Xi,Nat.reduceAdd,Nat.reduceSub,Nat.reduceLT,Nat.reduceLeDiff,reduceIte,reduceCtorEq,Nat.reduceEqDiff,implies_true,forall_const,aa,h0,h1,h5,h6,h7,aW]
  refine⟨fun hc=>?_,fun hc=>?_⟩
  ·have hi:i<s.length:=by simpa using hc
   refine⟨⟨by omega,by omega⟩,fun hq=>⟨⟨by omega,by omega,by omega⟩,by omega,⟨by unfold maxLen;omega,by omega⟩,⟨by omega,by omega⟩,⟨by omega,by omega⟩,?_⟩,fun hq=>⟨⟨by omega,by omega⟩,?_⟩⟩
   ·rw[cH hi c rfl]at hq
    have oL:=sw hi hai hp (by simpa using hq)
    refine yH (i':=i+1) (a:=i+1) (dn:=[(s.take i).drop a]) h0 h1 (by simp[lk]) rfl rfl ⟨by omega,by omega,by simp,by omega⟩ ?_ (.inr ⟨(b++[ax.own [.str ((s.take i).drop a)] 9 1 1 true]).length,rfl,?_,aW _ _⟩) ((cw.app _).app _) (by omega)
    ·rw[← nS,oL];simp
    ·have:=cw.1;simp;omega
   ·rw[cH hi c rfl]at hq
    exact yH (i':=i+1) (dn:=[]) h0 h1 h5 h6 rfl ⟨by omega,by omega,by simp,xH hi hai hp (by simpa using hq)⟩ nS (.inl ⟨rfl,rfl,rfl⟩) cw (by omega)
  ·have hi:i=s.length:=by simp at hc;omega
   refine⟨⟨by omega,by omega⟩,by omega,⟨by unfold maxLen;omega,by omega⟩,?_⟩
   have hms:aC c s=[s.drop a]:=by
    rw[← nS,ch (by rw[zMz];omega)];rfl
   rw[hms]
   refine⟨(b++[ax.own [.str (s.drop a)] 9 1 1 true]).length,rfl,?_,aW _ _,(cw.app _).app _⟩
   have:=cw.1;simp;omega
 ·have h2:∀ X,(b++[X])[j]? = some (.own (dn.map SV.str) 9 1 dn.length true):=fun X=>af hj _
  simp only[ad,↓Xn,↓Xo,↓Xg,↓Xd,↓Xe,↓Xf,Tryz.VΓ,Tryz.Γs,Xp,Xi,Nat.reduceAdd,Nat.reduceSub,Nat.reduceLT,Nat.reduceLeDiff,reduceIte,reduceCtorEq,Nat.reduceEqDiff,implies_true,forall_const,aa,h0,h1,h5,h6,h7,aW,h2]
  have mU:j<b.length:=(zMF.1 hj).1
  refine⟨fun hc=>?_,fun hc=>?_⟩
  ·have hi:i<s.length:=by simpa using hc
   refine⟨⟨by omega,by omega⟩,fun hq=>⟨⟨by omega,by omega,by omega⟩,by omega,⟨by unfold maxLen;omega,by omega⟩,⟨by omega,by omega⟩,⟨by omega,by omega⟩,?_⟩,fun hq=>⟨⟨by omega,by omega⟩,?_⟩⟩
   ·rw[cH hi c rfl]at hq
    have oL:=sw hi hai hp (by simpa using hq)
    refine yH (i':=i+1) (a:=i+1) (dn:=dn++[(s.take i).drop a]) h0 h1 (by simp[lk];rfl) rfl rfl ⟨by omega,by omega,by simp;omega,by omega⟩ ?_ (.inr ⟨(b++[ax.own [.str ((s.take i).drop a)] 9 1 1 true]).length,by simp,?_,?_⟩) (((cw.app _).set lN _).app _) (by omega)
    ·rw[← nS,oL];simp
    ·have:=cw.1;simp;omega
    ·rw[zME (by simp)];simp
   ·rw[cH hi c rfl]at hq
    exact yH (i':=i+1) (dn:=dn) h0 h1 h5 h6 rfl ⟨by omega,by omega,hda,xH hi hai hp (by simpa using hq)⟩ nS (.inr ⟨j,rfl,lN,hj⟩) cw (by omega)
  ·have hi:i=s.length:=by simp at hc;omega
   refine⟨⟨by omega,by omega⟩,by omega,⟨by unfold maxLen;omega,by omega⟩,?_⟩
   have hms:aC c s=dn++[s.drop a]:=by
    rw[← nS,ch (c:=c) (s:=s.drop a) (by rw[zMz];omega)]
   rw[hms]
   refine⟨(b++[ax.own [.str (s.drop a)] 9 1 1 true]).length,by simp,?_,?_,((cw.app _).set lN _).app _⟩
   ·have:=cw.1;simp;omega
   ·rw[zME (by simp)];simp
def E2 (m:mC):SV:=.agg [.str m.loc,.str m.host]
theorem wM (s:Bytes)(hs:s.length<4294967281):PC Tryz.V 147 [.str s] (.bool (ipv4 s)) :=
 ⟨Tryz.call147,by simp[flat,flat.ai],by simp[flat,flat.ai],fun w hE=>(kB s w hE hs).mono fun _ _ ⟨h,k⟩=>⟨h,k⟩⟩
theorem Bg (s:Bytes)(hs:s.length≤1000000000):PC Tryz.V 74 [.str s] (.bool (ipv4 s)) :=
 ⟨Tryz.call74,by simp[flat,flat.ai],by simp[flat,flat.ai],fun w hE=>(jq s w hs).mono fun _ _ ⟨h,k⟩=>⟨h,k⟩⟩
theorem FN (s:Bytes)(a c:UInt8):decide (0≤Lib.indexAny s [a,c])=decide (a∈s∨c∈s):=by
 rw[mf]
 by_cases h:pre ([a,c].contains ·) s<s.length
 ·rw[if_pos h]
  have h1:=gi h
  have h2:s[pre ([a,c].contains ·) s]∈s:=zML h
  have h3:s[pre ([a,c].contains ·) s]=a∨s[pre ([a,c].contains ·) s]=c:=by simpa using h1
  simp only[Int.natCast_nonneg,decide_true]
  symm
  exact decide_eq_true (by rcases h3 with e|e <;> rw[e]at h2 <;> simp[h2])
 ·rw[if_neg h]
  simp only[show ¬ (0:Int)≤-1 by omega,decide_false]
  symm
  refine decide_eq_false ?_
  intro k
  have hle:=cx ([a,c].contains ·) s
  have:∀ d∈s,[a,c].contains d=false:=by
   intro d hd
   obtain⟨j,hj,rfl⟩:=List.getElem_of_mem hd
   exact gM (p:=([a,c].contains ·)) (k:=j) (by omega) hj
  rcases k with k|k
  ·have:=this _ k;simp at this
  ·have:=this _ k;simp at this
theorem wP (s:Bytes)(a c:UInt8)(ha:a.toNat<128)(hc:c.toNat<128)(hs:s.length<4294967281):PC Tryz.V 142 [.str s,.str [a,c]] (.bool (decide (a∈s∨c∈s))):=by
 have pi:=uB s [a,c] (fun i h=>by
  match i,h with
  | 0,_=>exact ha
  | 1,_=>exact hc) (by simp) (by simp) hs
 refine aQ 3000 Tryz.func142 rfl Tryz.ntmps142 Tryz.results142 Tryz.call142 (by simp) (by simp[flat,flat.ai]) (by simp[flat,flat.ai]) ?_
 simp only[ad,↓Xn,↓Xo,↓Xg,↓Xd,↓Xe,↓Xf,Tryz.VΓ,Tryz.Γs,Xp,Xi,Nat.reduceAdd,Nat.reduceSub,Nat.reduceLT,Nat.reduceLeDiff,reduceIte,reduceCtorEq,Nat.reduceEqDiff,implies_true,forall_const,aa]
 (refine ae (pi) ?_;simp only[ad,↓Xn,↓Xo,↓Xg,↓Xd,↓Xe,↓Xf,Tryz.VΓ,Tryz.Γs,Xp,Xi,Nat.reduceAdd,Nat.reduceSub,Nat.reduceLT,Nat.reduceLeDiff,reduceIte,reduceCtorEq,Nat.reduceEqDiff,implies_true,forall_const,aa])
 rw[FN]
theorem Bl (c:UInt8):PC Tryz.V 171 [.int .u8 c.toNat] (.bool (mL c)):=by
 refine aQ 3000 Tryz.func171 rfl Tryz.ntmps171 Tryz.results171 Tryz.call171 (by simp) (by simp[flat,flat.ai]) (by simp[flat,flat.ai]) ?_
 simp only[ad,↓Xn,↓Xo,↓Xg,↓Xd,↓Xe,↓Xf,Tryz.VΓ,Tryz.Γs,Xp,Xi,Nat.reduceAdd,Nat.reduceSub,Nat.reduceLT,Nat.reduceLeDiff,reduceIte,reduceCtorEq,Nat.reduceEqDiff,implies_true,forall_const,aa]
 (refine ae (xO c) ?_;simp only[ad,↓Xn,↓Xo,↓Xg,↓Xd,↓Xe,↓Xf,Tryz.VΓ,Tryz.Γs,Xp,Xi,Nat.reduceAdd,Nat.reduceSub,Nat.reduceLT,Nat.reduceLeDiff,reduceIte,reduceCtorEq,Nat.reduceEqDiff,implies_true,forall_const,aa])
 unfold mL
 refine⟨fun h=>?_,fun h=>by rw[h];rfl⟩
 (refine ae (oz c) ?_;simp only[ad,↓Xn,↓Xo,↓Xg,↓Xd,↓Xe,↓Xf,Tryz.VΓ,Tryz.Γs,Xp,Xi,Nat.reduceAdd,Nat.reduceSub,Nat.reduceLT,Nat.reduceLeDiff,reduceIte,reduceCtorEq,Nat.reduceEqDiff,implies_true,forall_const,aa])
 rw[h]
 refine⟨fun h2=>?_,fun h2=>by rw[h2];rfl⟩
 (refine ae (dI J5 c) ?_;simp only[ad,↓Xn,↓Xo,↓Xg,↓Xd,↓Xe,↓Xf,Tryz.VΓ,Tryz.Γs,Xp,Xi,Nat.reduceAdd,Nat.reduceSub,Nat.reduceLT,Nat.reduceLeDiff,reduceIte,reduceCtorEq,Nat.reduceEqDiff,implies_true,forall_const,aa])
 rw[qG,h2];rfl
theorem Ge (c:UInt8):PC Tryz.V 96 [.int .u8 c.toNat] (.bool (mL c)):=by
 refine aQ 3000 Tryz.func96 rfl Tryz.ntmps96 Tryz.results96 Tryz.call96 (by simp) (by simp[flat,flat.ai]) (by simp[flat,flat.ai]) ?_
 simp only[ad,↓Xn,↓Xo,↓Xg,↓Xd,↓Xe,↓Xf,Tryz.VΓ,Tryz.Γs,Xp,Xi,Nat.reduceAdd,Nat.reduceSub,Nat.reduceLT,Nat.reduceLeDiff,reduceIte,reduceCtorEq,Nat.reduceEqDiff,implies_true,forall_const,aa]
 (refine ae (jr c) ?_;simp only[ad,↓Xn,↓Xo,↓Xg,↓Xd,↓Xe,↓Xf,Tryz.VΓ,Tryz.Γs,Xp,Xi,Nat.reduceAdd,Nat.reduceSub,Nat.reduceLT,Nat.reduceLeDiff,reduceIte,reduceCtorEq,Nat.reduceEqDiff,implies_true,forall_const,aa])
 unfold mL
 refine⟨fun h=>?_,fun h=>by rw[h];rfl⟩
 (refine ae (gP c) ?_;simp only[ad,↓Xn,↓Xo,↓Xg,↓Xd,↓Xe,↓Xf,Tryz.VΓ,Tryz.Γs,Xp,Xi,Nat.reduceAdd,Nat.reduceSub,Nat.reduceLT,Nat.reduceLeDiff,reduceIte,reduceCtorEq,Nat.reduceEqDiff,implies_true,forall_const,aa])
 rw[h]
 refine⟨fun h2=>?_,fun h2=>by rw[h2];rfl⟩
 (refine ae (kx c J5 (by decide)) ?_;simp only[ad,↓Xn,↓Xo,↓Xg,↓Xd,↓Xe,↓Xf,Tryz.VΓ,Tryz.Γs,Xp,Xi,Nat.reduceAdd,Nat.reduceSub,Nat.reduceLT,Nat.reduceLeDiff,reduceIte,reduceCtorEq,Nat.reduceEqDiff,implies_true,forall_const,aa])
 rw[h2];rfl
def LoI (s:Bytes)(σ:St):Prop:=∃ (i:Nat) (d:Bool),i≤s.length∧lk 0 σ.t=some (.str s)∧lk 3 σ.t=some (.bool d)∧lk 6 σ.t=some (.int .i64 s.length)∧lk 7 σ.t=some (.int .i64 i)∧lf d (s.drop i)=lf true s
def LoM (s:Bytes)(σ:St):Nat:=match lk 7 σ.t with
 | some (.int _ k)=>s.length - k.toNat
 | _=>0
theorem Kh {s:Bytes}{σ:St}{k:Nat}(h:lk 7 σ.t=some (.int .i64 k)):LoM s σ=s.length - k:=by simp[LoM,h]
theorem zj (s:Bytes)(hs:s.length≤4611686018427387904):PC Tryz.V 146 [.str s] (.bool (jt s)):=by
 rw[DV]
 refine aQ 3000 Tryz.func146 rfl Tryz.ntmps146 Tryz.results146 Tryz.call146 (by simp) (by simp[flat,flat.ai]) (by simp[flat,flat.ai]) ?_
 simp only[ad,↓Xn,↓Xo,↓Xg,↓Xd,↓Xe,↓Xf,Tryz.VΓ,Tryz.Γs,Xp,Xi,Nat.reduceAdd,Nat.reduceSub,Nat.reduceLT,Nat.reduceLeDiff,reduceIte,reduceCtorEq,Nat.reduceEqDiff,implies_true,forall_const,aa]
 refine aM (LoI s) (LoM s) ⟨0,true,by omega,rfl,rfl,rfl,rfl,rfl⟩ ?_
 rintro⟨t,b⟩ ⟨i,d,hi,h0,h3,h6,h7,hl⟩
 simp only at h0 h3 h6 h7
 rw[Kh h7]
 by_cases aB:i<s.length
 ·have hg:s.getD i 0=s[i]:=by simp[zMI,aB]
  have eV:=cH (s:=s) aB 46 (n:=46) rfl
  have kR:(((s.getD i 0).toNat:Int) != 46)=(s[i] != 46):=by
   show (!_)=(!_);rw[eV]
  have mk:∀ (t':List (Nat × SV)),lk 0 t'=some (.str s)→lk 3 t'=some (.bool (s[i]==46))→lk 6 t'=some (.int .i64 s.length)→lk 7 t'=some (.int .i64 (i+1:Nat))→lf (s[i]==46) (s.drop (i+1))=lf true s→LoI s ⟨t',b⟩∧LoM s ⟨t',b⟩<s.length - i:=fun t' k0 k3 k6 k7 kl =>
   ⟨⟨i+1,_,by omega,k0,k3,k6,k7,kl⟩,by rw[Kh k7];omega⟩
  rw[List.drop_eq_getElem_cons aB,lf]at hl
  by_cases hc:s[i]=46
  ·have hb:(((s.getD i 0).toNat:Int)==46)=true:=by rw[eV,hc];rfl
   have lA:(((s.getD i 0).toNat:Int) != 46)=false:=by rw[kR,hc];rfl
   have hbt:(s[i]==46)=true:=by rw[hc];rfl
   rw[hbt]at mk
   rw[hc]at hl
   cases d
   ·simp only[ad,↓Xn,↓Xo,↓Xg,↓Xd,↓Xe,↓Xf,Tryz.VΓ,Tryz.Γs,Xp,Xi,Nat.reduceAdd,Nat.reduceSub,Nat.reduceLT,Nat.reduceLeDiff,reduceIte,reduceCtorEq,Nat.reduceEqDiff,implies_true,forall_const,aa,h0,h3,h6,h7,hb,lA]
    refine⟨fun _=>⟨⟨by omega,by omega⟩,⟨by omega,by omega⟩,⟨by omega,by omega⟩,⟨by omega,by omega⟩,mk _ h0 rfl h6 (by simp only[lk,reduceIte,zMC.injEq,SV.int.injEq,true_and];omega) (by simpa using hl)⟩,fun h=>absurd h (by simp;omega)⟩
   ·have hf:lf true s=false:=by rw[← hl];rfl
    rw[hf]
    simp only[ad,↓Xn,↓Xo,↓Xg,↓Xd,↓Xe,↓Xf,Tryz.VΓ,Tryz.Γs,Xp,Xi,Nat.reduceAdd,Nat.reduceSub,Nat.reduceLT,Nat.reduceLeDiff,reduceIte,reduceCtorEq,Nat.reduceEqDiff,implies_true,forall_const,aa,h0,h3,h6,h7,hb,lA]
    exact fun _=>⟨⟨by omega,by omega⟩,by omega,by omega⟩
  ·have hb:((s[i].toNat:Int)==46)=false:=by rw[← hg,eV];simpa using hc
   have lA:((s[i].toNat:Int) != 46)=true:=by rw[← hg,kR];simpa using hc
   have hbt:(s[i]==46)=false:=by simpa using hc
   rw[hbt]at mk
   have hbn:(s[i] != 46)=true:=by simpa using hc
   rw[hbt,hbn]at hl
   simp only[ad,↓Xn,↓Xo,↓Xg,↓Xd,↓Xe,↓Xf,Tryz.VΓ,Tryz.Γs,Xp,Xi,Nat.reduceAdd,Nat.reduceSub,Nat.reduceLT,Nat.reduceLeDiff,reduceIte,reduceCtorEq,Nat.reduceEqDiff,implies_true,forall_const,aa,h0,h3,h6,h7,hg,hb,lA]
   refine⟨fun _=>⟨⟨by omega,by omega⟩,⟨by omega,by omega⟩,?_⟩,fun h=>absurd h (by simp;omega)⟩
   (refine ae (Bl s[i]) ?_;simp only[ad,↓Xn,↓Xo,↓Xg,↓Xd,↓Xe,↓Xf,Tryz.VΓ,Tryz.Γs,Xp,Xi,Nat.reduceAdd,Nat.reduceSub,Nat.reduceLT,Nat.reduceLeDiff,reduceIte,reduceCtorEq,Nat.reduceEqDiff,implies_true,forall_const,aa,h0,h3,h6,h7,hg,hb,lA])
   cases ha:mL s[i]
   ·rw[ha]at hl
    have hf:lf true s=false:=by rw[← hl];rfl
    rw[hf]
    simp only[ad,↓Xn,↓Xo,↓Xg,↓Xd,↓Xe,↓Xf,Tryz.VΓ,Tryz.Γs,Xp,Xi,Nat.reduceAdd,Nat.reduceSub,Nat.reduceLT,Nat.reduceLeDiff,reduceIte,reduceCtorEq,Nat.reduceEqDiff,implies_true,forall_const,aa,h0,h3,h6,h7,hg,hb,lA]
   ·rw[ha]at hl
    simp only[ad,↓Xn,↓Xo,↓Xg,↓Xd,↓Xe,↓Xf,Tryz.VΓ,Tryz.Γs,Xp,Xi,Nat.reduceAdd,Nat.reduceSub,Nat.reduceLT,Nat.reduceLeDiff,reduceIte,reduceCtorEq,Nat.reduceEqDiff,implies_true,forall_const,aa,h0,h3,h6,h7,hg,hb,lA]
    exact⟨⟨by omega,by omega⟩,⟨by omega,by omega⟩,⟨by omega,by omega⟩,mk _ h0 rfl h6 (by simp only[lk,reduceIte,zMC.injEq,SV.int.injEq,true_and];omega) (by simpa using hl)⟩
 ·have jv:i=s.length:=by omega
  subst jv
  rw[List.drop_length,lf]at hl
  simp only[ad,↓Xn,↓Xo,↓Xg,↓Xd,↓Xe,↓Xf,Tryz.VΓ,Tryz.Γs,Xp,Xi,Nat.reduceAdd,Nat.reduceSub,Nat.reduceLT,Nat.reduceLeDiff,reduceIte,reduceCtorEq,Nat.reduceEqDiff,implies_true,forall_const,aa,h0,h3,h6,h7]
  refine⟨fun h=>absurd h (by simp),fun _=>⟨fun h=>?_,fun h=>?_⟩⟩
  ·rw[← hl,h]
   congr 1
   rw[Bool.true_and]
   exact decide_eq_decide.2 ⟨fun h=>by omega,fun h=>by omega⟩
  ·rw[← hl,h];rfl
theorem DF (s:Bytes):PC Tryz.V 73 [.str s] (.bool (jt s)):=by
 refine aQ 3000 Tryz.func73 rfl Tryz.ntmps73 Tryz.results73 Tryz.call73 (by simp) (by simp[flat,flat.ai]) (by simp[flat,flat.ai]) ?_
 simp only[ad,↓Xn,↓Xo,↓Xg,↓Xd,↓Xe,↓Xf,Tryz.VΓ,Tryz.Γs,Xp,Xi,Nat.reduceAdd,Nat.reduceSub,Nat.reduceLT,Nat.reduceLeDiff,reduceIte,reduceCtorEq,Nat.reduceEqDiff,implies_true,forall_const,aa]
 unfold jt
 refine⟨fun bn=>⟨fun hl=>?_,fun hl=>?_⟩,fun bn=>?_⟩
 ·have hl:¬ s.length≤64:=(by simp at hl;omega)
  rw[decide_eq_false hl,Bool.and_false]
 ·have hl:s.length≤64:=(by simp at hl;omega)
  rw[decide_eq_true hl,Bool.and_true]
  have ye:=im 46 s
  refine aJ (qh s 46 (by omega)) ?_
  rintro r b ⟨j,rfl,lN,hj,cw⟩
  have hct:=iI 46 s
  have hcc:=List.count_le_length (a:=(46:UInt8)) (l:=s)
  generalize aC 46 s=L at *
  simp only at lN hj cw
  simp only[ad,↓Xn,↓Xo,↓Xg,↓Xd,↓Xe,↓Xf,Tryz.VΓ,Tryz.Γs,Xp,Xi,Nat.reduceAdd,Nat.reduceSub,Nat.reduceLT,Nat.reduceLeDiff,reduceIte,reduceCtorEq,Nat.reduceEqDiff,implies_true,forall_const,aa,hj]
  refine aM (fun σ=>∃ k:Nat,k≤L.length∧lk 14 σ.t=some (.o j L.length)∧lk 15 σ.t=some (.int .i64 L.length)∧lk 16 σ.t=some (.int .i64 k)∧σ.b[j]? = some (.own (L.map SV.str) 9 1 L.length true)∧(L.take k).all gg=true) (fun σ=>L.length - ja 16 σ) ⟨0,by omega,rfl,rfl,rfl,hj,rfl⟩ ?_
  rintro⟨t,b⟩ ⟨k,hk,h14,h15,h16,hb,bZ⟩
  simp only at h14 h15 h16 hb
  rw[az h16]
  by_cases aB:k<L.length
  ·have h33:(L.map SV.str)[k * 1]? = some (.str L[k]):=by simp[aB]
   have D6:=ye L[k] (zML aB)
   generalize hx:L[k]=x at *
   have rV:gg x=false→L.all gg=false:=fun h=>by
    rw[← Bool.not_eq_true]
    intro h2
    have:=zMQ.1 h2 x (hx ▸ zML aB)
    rw[h]at this;cases this
   simp only[ad,↓Xn,↓Xo,↓Xg,↓Xd,↓Xe,↓Xf,Tryz.VΓ,Tryz.Γs,Xp,Xi,Nat.reduceAdd,Nat.reduceSub,Nat.reduceLT,Nat.reduceLeDiff,reduceIte,reduceCtorEq,Nat.reduceEqDiff,implies_true,forall_const,aa,h14,h15,h16,hb,h33]
   refine⟨fun _=>⟨⟨by omega,by omega⟩,by simp;omega,fun hn=>?_,fun hn=>?_⟩,fun h=>absurd h (by simp;omega)⟩
   ·have hn:x=[]:=by simpa using hn
    rw[rV (by rw[hn];rfl)]
   have hn:x.isEmpty=false:=by cases x <;> simp at hn ⊢
   refine aM (fun σ=>∃ i:Nat,i≤x.length∧lk 4 σ.t=some (.str x)∧lk 5 σ.t=some (.int .i64 i)∧lk 14 σ.t=some (.o j L.length)∧lk 15 σ.t=some (.int .i64 L.length)∧lk 16 σ.t=some (.int .i64 k)∧σ.b[j]? = some (.own (L.map SV.str) 9 1 L.length true)∧(x.take i).all mL=true) (fun σ=>x.length - ja 5 σ) ⟨0,by omega,rfl,rfl,h14,h15,h16,hb,rfl⟩ ?_
   rintro⟨t',b'⟩ ⟨i,hi,g4,g5,g14,g15,g16,gb,gH⟩
   simp only at g4 g5 g14 g15 g16 gb
   rw[az g5]
   by_cases eh:i<x.length
   ·have hg:x.getD i 0=x[i]:=by simp[zMI,eh]
    simp only[ad,↓Xn,↓Xo,↓Xg,↓Xd,↓Xe,↓Xf,Tryz.VΓ,Tryz.Γs,Xp,Xi,Nat.reduceAdd,Nat.reduceSub,Nat.reduceLT,Nat.reduceLeDiff,reduceIte,reduceCtorEq,Nat.reduceEqDiff,implies_true,forall_const,aa,g4,g5,g14,g15,g16,gb,hg]
    refine⟨fun _=>⟨⟨by omega,by omega⟩,?_⟩,fun h=>absurd h (by simp;omega)⟩
    (refine ae (Ge x[i]) ?_;simp only[ad,↓Xn,↓Xo,↓Xg,↓Xd,↓Xe,↓Xf,Tryz.VΓ,Tryz.Γs,Xp,Xi,Nat.reduceAdd,Nat.reduceSub,Nat.reduceLT,Nat.reduceLeDiff,reduceIte,reduceCtorEq,Nat.reduceEqDiff,implies_true,forall_const,aa,g4,g5,g14,g15,g16,gb,hg])
    refine⟨fun ha=>?_,fun ha=>⟨⟨by omega,by omega⟩,⟨i+1,by omega,rfl,aP eh gH (by simpa using ha)⟩,?_⟩⟩
    ·have ha:mL x[i]=false:=by simpa using ha
     rw[rV (by unfold gg;rw[cW eh ha,Bool.and_false])]
    ·rw[az (k:=.i64) (n:=(i:Int)+1) rfl];omega
   ·have jv:i=x.length:=by omega
    subst jv
    rw[zMN]at gH
    have hax:gg x=true:=by unfold gg;rw[hn,gH];rfl
    simp only[ad,↓Xn,↓Xo,↓Xg,↓Xd,↓Xe,↓Xf,Tryz.VΓ,Tryz.Γs,Xp,Xi,Nat.reduceAdd,Nat.reduceSub,Nat.reduceLT,Nat.reduceLeDiff,reduceIte,reduceCtorEq,Nat.reduceEqDiff,implies_true,forall_const,aa,g4,g5,g14,g15,g16,gb]
    refine⟨fun h=>absurd h (by simp),fun _=>⟨⟨by omega,by omega⟩,⟨k+1,by omega,rfl,aP aB bZ (by rw[hx];exact hax)⟩,?_⟩⟩
    rw[az (k:=.i64) (n:=(k:Int)+1) rfl];omega
  ·have jv:k=L.length:=by omega
   subst jv
   rw[zMN]at bZ
   simp only[ad,↓Xn,↓Xo,↓Xg,↓Xd,↓Xe,↓Xf,Tryz.VΓ,Tryz.Γs,Xp,Xi,Nat.reduceAdd,Nat.reduceSub,Nat.reduceLT,Nat.reduceLeDiff,reduceIte,reduceCtorEq,Nat.reduceEqDiff,implies_true,forall_const,aa,h14,h15,h16,hb]
   exact⟨fun h=>absurd h (by simp),fun _=>by rw[bZ]⟩
 ·have bn:s=[]:=by simpa using bn
  subst bn;rfl
def ey (u:fe):SV:=.agg [.str u.host,.int .i64 u.port,.str u.path,.str u.query,.str u.fragment,.bool u.bm,.bool u.bF]
def Fair (u:fe):Prop:=u.host.length+u.path.length+u.query.length+u.fragment.length≤1000000∧-9223372036854775808≤u.port∧u.port≤9223372036854775807
theorem oY (x:Bytes){p:Int}(h0:-9223372036854775808≤p)(h1:p≤9223372036854775807):(bg x p).length≤x.length+22:=by
 have:=dO 19 p.natAbs (by omega)
 unfold bg
 split
 ·omega
 ·split <;> simp <;> omega
theorem oO (u:fe):(eR u).length≤u.path.length+u.query.length+1:=by
 unfold eR
 split
 ·simp;omega
 ·omega
theorem zc (u:fe)(hk:Fair u):PC Tryz.V 155 [ey u] (.str (eR u)):=by
 obtain⟨hk,-⟩:=hk
 (refine aQ 3000 Tryz.func155 rfl Tryz.ntmps155 Tryz.results155 Tryz.call155 (by simp) (by simp[flat,flat.ai,ey]) (by simp[flat,flat.ai,ey]) ?_
  unfold ey
  simp only[ad,↓Xn,↓Xo,↓Xg,↓Xd,↓Xe,↓Xf,Tryz.VΓ,Tryz.Γs,Xp,Xi,Nat.reduceAdd,Nat.reduceSub,Nat.reduceLT,Nat.reduceLeDiff,reduceIte,reduceCtorEq,Nat.reduceEqDiff,implies_true,forall_const,aa])
 unfold eR
 refine⟨fun h=>?_,fun h=>?_⟩
 ·simp[h]
  refine⟨by omega,by omega⟩
 ·simp[h]
theorem zd (u:fe):PC Tryz.V 154 [ey u] (.agg [.str u.host,.int .i64 u.port]):=by
 (refine aQ 3000 Tryz.func154 rfl Tryz.ntmps154 Tryz.results154 Tryz.call154 (by simp) (by simp[flat,flat.ai,ey]) (by simp[flat,flat.ai,ey]) ?_
  unfold ey
  simp only[ad,↓Xn,↓Xo,↓Xg,↓Xd,↓Xe,↓Xf,Tryz.VΓ,Tryz.Γs,Xp,Xi,Nat.reduceAdd,Nat.reduceSub,Nat.reduceLT,Nat.reduceLeDiff,reduceIte,reduceCtorEq,Nat.reduceEqDiff,implies_true,forall_const,aa])
theorem gN (u:fe)(hk:Fair u):PC Tryz.V 119 [ey u] (.str (cF u)):=by
 have hl:=hk.1
 have hx:=oY u.host hk.2.1 hk.2.2
 have ht:=oO u
 have pt:=zc u hk
 have po:=zd u
 have pf:=wN u.host u.port (by omega) hk.2.1 hk.2.2
 (refine aQ 3000 Tryz.func119 rfl Tryz.ntmps119 Tryz.results119 Tryz.call119 (by simp) (by simp[flat,flat.ai,ey]) (by simp[flat,flat.ai,ey]) ?_
  unfold ey
  simp only[ad,↓Xn,↓Xo,↓Xg,↓Xd,↓Xe,↓Xf,Tryz.VΓ,Tryz.Γs,Xp,Xi,Nat.reduceAdd,Nat.reduceSub,Nat.reduceLT,Nat.reduceLeDiff,reduceIte,reduceCtorEq,Nat.reduceEqDiff,implies_true,forall_const,aa])
 unfold ey at pt po
 (refine aU (po) ?_;simp only[ad,↓Xn,↓Xo,↓Xg,↓Xd,↓Xe,↓Xf,Tryz.VΓ,Tryz.Γs,Xp,Xi,Nat.reduceAdd,Nat.reduceSub,Nat.reduceLT,Nat.reduceLeDiff,reduceIte,reduceCtorEq,Nat.reduceEqDiff,implies_true,forall_const,aa])
 (refine aU (pf) ?_;simp only[ad,↓Xn,↓Xo,↓Xg,↓Xd,↓Xe,↓Xf,Tryz.VΓ,Tryz.Γs,Xp,Xi,Nat.reduceAdd,Nat.reduceSub,Nat.reduceLT,Nat.reduceLeDiff,reduceIte,reduceCtorEq,Nat.reduceEqDiff,implies_true,forall_const,aa])
 refine⟨by omega,?_⟩
 (refine aU (pt) ?_;simp only[ad,↓Xn,↓Xo,↓Xg,↓Xd,↓Xe,↓Xf,Tryz.VΓ,Tryz.Γs,Xp,Xi,Nat.reduceAdd,Nat.reduceSub,Nat.reduceLT,Nat.reduceLeDiff,reduceIte,reduceCtorEq,Nat.reduceEqDiff,implies_true,forall_const,aa])
 unfold cF
 refine⟨by omega,(aq (by kernel_rfl)),fun h=>⟨by omega,by simp only[zMM];omega,?_⟩,fun h=>?_⟩
 ·rw[if_pos h];simp
 ·rw[if_neg (by simp[h])];simp
theorem Be (u:fe)(hk:Fair u):PC Tryz.V 103 [ey u] (.str (eR u)):=by
 obtain⟨hk,-⟩:=hk
 (refine aQ 3000 Tryz.func103 rfl Tryz.ntmps103 Tryz.results103 Tryz.call103 (by simp) (by simp[flat,flat.ai,ey]) (by simp[flat,flat.ai,ey]) ?_
  unfold ey
  simp only[ad,↓Xn,↓Xo,↓Xg,↓Xd,↓Xe,↓Xf,Tryz.VΓ,Tryz.Γs,Xp,Xi,Nat.reduceAdd,Nat.reduceSub,Nat.reduceLT,Nat.reduceLeDiff,reduceIte,reduceCtorEq,Nat.reduceEqDiff,implies_true,forall_const,aa])
 unfold eR
 refine⟨fun h=>?_,fun h=>?_⟩
 ·simp[h]
  refine⟨by omega,by omega⟩
 ·simp[h]
theorem Bf (u:fe):PC Tryz.V 102 [ey u] (.agg [.str u.host,.int .i64 u.port]):=by
 (refine aQ 3000 Tryz.func102 rfl Tryz.ntmps102 Tryz.results102 Tryz.call102 (by simp) (by simp[flat,flat.ai,ey]) (by simp[flat,flat.ai,ey]) ?_
  unfold ey
  simp only[ad,↓Xn,↓Xo,↓Xg,↓Xd,↓Xe,↓Xf,Tryz.VΓ,Tryz.Γs,Xp,Xi,Nat.reduceAdd,Nat.reduceSub,Nat.reduceLT,Nat.reduceLeDiff,reduceIte,reduceCtorEq,Nat.reduceEqDiff,implies_true,forall_const,aa])
theorem kr (u:fe)(hk:Fair u):PC Tryz.V 77 [ey u] (.str (cF u)):=by
 have hl:=hk.1
 have hx:=oY u.host hk.2.1 hk.2.2
 have ht:=oO u
 have pt:=Be u hk
 have po:=Bf u
 have pf:=Bh u.host u.port (by omega) hk.2.1 hk.2.2
 (refine aQ 3000 Tryz.func77 rfl Tryz.ntmps77 Tryz.results77 Tryz.call77 (by simp) (by simp[flat,flat.ai,ey]) (by simp[flat,flat.ai,ey]) ?_
  unfold ey
  simp only[ad,↓Xn,↓Xo,↓Xg,↓Xd,↓Xe,↓Xf,Tryz.VΓ,Tryz.Γs,Xp,Xi,Nat.reduceAdd,Nat.reduceSub,Nat.reduceLT,Nat.reduceLeDiff,reduceIte,reduceCtorEq,Nat.reduceEqDiff,implies_true,forall_const,aa])
 unfold ey at pt po
 (refine aU (po) ?_;simp only[ad,↓Xn,↓Xo,↓Xg,↓Xd,↓Xe,↓Xf,Tryz.VΓ,Tryz.Γs,Xp,Xi,Nat.reduceAdd,Nat.reduceSub,Nat.reduceLT,Nat.reduceLeDiff,reduceIte,reduceCtorEq,Nat.reduceEqDiff,implies_true,forall_const,aa])
 (refine aU (pf) ?_;simp only[ad,↓Xn,↓Xo,↓Xg,↓Xd,↓Xe,↓Xf,Tryz.VΓ,Tryz.Γs,Xp,Xi,Nat.reduceAdd,Nat.reduceSub,Nat.reduceLT,Nat.reduceLeDiff,reduceIte,reduceCtorEq,Nat.reduceEqDiff,implies_true,forall_const,aa])
 refine⟨by omega,?_⟩
 (refine aU (pt) ?_;simp only[ad,↓Xn,↓Xo,↓Xg,↓Xd,↓Xe,↓Xf,Tryz.VΓ,Tryz.Γs,Xp,Xi,Nat.reduceAdd,Nat.reduceSub,Nat.reduceLT,Nat.reduceLeDiff,reduceIte,reduceCtorEq,Nat.reduceEqDiff,implies_true,forall_const,aa])
 unfold cF
 refine⟨by omega,(aq (by kernel_rfl)),fun h=>⟨by omega,by simp only[zMM];omega,?_⟩,fun h=>?_⟩
 ·rw[if_pos h];simp
 ·rw[if_neg (by simp[h])];simp
theorem yZ (l:Bytes)(c:UInt8):pre (·==c) l<l.length↔c∈l:=by
 induction l with
 | nil=>simp[pre]
 | cons x l ih =>
   rw[ck]
   by_cases h:x=c
   ·simp[h]
   ·rw[if_neg (by simpa using h)]
    simp only[zMB,Nat.add_lt_add_iff_right,ih,List.mem_cons]
    exact⟨.inr,fun k=>k.resolve_left fun e=>h e.symm⟩
theorem zQ (l:Bytes)(c:UInt8):decide (0≤Lib.indexByte l c)=decide (c∈l):=by
 rw[cY]
 by_cases h:c∈l
 ·rw[if_pos ((yZ l c).2 h)];simp[h]
 ·rw[if_neg (fun k=>h ((yZ l c).1 k))];simp[h]
theorem uE (l:Bytes)(c:UInt8):PC Tryz.V 150 [.str l,.str [c]] (.bool (decide (c∈l))) :=
 ⟨Tryz.call150,by simp[flat,flat.ai],by simp[flat,flat.ai],fun w hE=>(Tryz.strings_Contains_one ⟨zMy l⟩ c w).mono fun _ _ ⟨h,k⟩=>⟨by
  rw[h]
  have e:decide (0≤Lib.indexByte l c)=decide (c∈l):=zQ l c
  rw[← e];rfl,cV k.symm⟩⟩
def fj (d:fU):SV:=.agg [.str d.method,.str d.id]
def dusv (u:DidUrl):SV:=.agg [.str u.did.method,.str u.did.id,.str u.path,.str u.query,.str u.fragment,.bool u.bm,.bool u.bF]
theorem qv (s:Bytes)(c:UInt8)(new:Bytes)(bn:([c]==new)=false)(hs:s.length≤1000000)(hn:new.length≤1000):PC Tryz.V 183 [.str s,.str [c],.str new] (.str (s.flatMap (nv c new))) :=
 ⟨Tryz.call183,by simp[flat,flat.ai],by simp[flat,flat.ai],fun w ⟨m,hm⟩=>by
  have hc:Lib.countB ⟨zMy s⟩ ⟨#[c]⟩≤s.length+1:=Lib.count_le s [c]
  have hm2:Lib.countB ⟨zMy s⟩ ⟨#[c]⟩ * new.length≤1000001 * 1000:=Nat.mul_le_mul (by omega) hn
  refine(Tryz.strings_ReplaceAll ⟨zMy s⟩ ⟨#[c]⟩ ⟨zMy new⟩ m w (show s.length<4294967281 by omega) hm (zMJ 1) (show s.length+Lib.countB ⟨zMy s⟩ ⟨#[c]⟩ * new.length≤140737488355328 by omega)).mono fun _ _ ⟨h,k⟩=>⟨?_,k⟩
  rw[h,← ui c new s bn]
  rfl⟩
theorem Bo (s:Bytes)(c:UInt8)(hs:s.length≤1000000):PC Tryz.V 159 [.str s,.str [c]] (.bool (decide (s.getLast? = some c))) :=
 ⟨Tryz.call159,by simp[flat,flat.ai],by simp[flat,flat.ai],fun w _=>(Tryz.strings_HasSuffix ⟨zMy s⟩ ⟨#[c]⟩ w (show s.length≤9223372036854775807 by omega)).mono fun _ _ ⟨h,k⟩=>⟨by
  rw[h]
  have e:Lib.hasSuffix s [c]=decide (s.getLast? = some c):=by
   unfold Lib.hasSuffix
   rcases List.eq_nil_or_concat s with rfl|⟨a,d,rfl⟩
   ·rfl
   ·rw[List.concat_eq_append,Bool.eq_iff_iff,List.isSuffixOf_iff_suffix,decide_eq_true_eq,List.getLast?_concat,zMC.injEq]
    constructor
    ·rintro⟨t,ht⟩
     have:=congrArg List.getLast? ht
     simpa using this.symm
    ·rintro rfl;exact⟨a,rfl⟩
  rw[← e];rfl,cV k.symm⟩⟩
theorem iv (c:UInt8)(h:isDigit c=false):fc c=(decide (97≤c.toNat)&&decide (c.toNat≤122)):=by
 unfold fc;rw[h];simp[Bool.decide_and]
theorem zk (s:Bytes)(hs:s.length≤1000000):PC Tryz.V 157 [.str s] (.bool (dJ s)):=by
 refine aQ 3000 Tryz.func157 rfl Tryz.ntmps157 Tryz.results157 Tryz.call157 (by simp) (by simp[flat,flat.ai]) (by simp[flat,flat.ai]) ?_
 simp only[ad,↓Xn,↓Xo,↓Xg,↓Xd,↓Xe,↓Xf,Tryz.VΓ,Tryz.Γs,Xp,Xi,Nat.reduceAdd,Nat.reduceSub,Nat.reduceLT,Nat.reduceLeDiff,reduceIte,reduceCtorEq,Nat.reduceEqDiff,implies_true,forall_const,aa]
 refine aM (fun σ=>∃ i:Nat,i≤s.length∧lk 0 σ.t=some (.str s)∧lk 4 σ.t=some (.str s)∧lk 5 σ.t=some (.int .i64 s.length)∧lk 6 σ.t=some (.int .i64 i)∧(s.take i).all fc=true) (fun σ=>s.length - ja 6 σ) ⟨0,by omega,rfl,rfl,rfl,rfl,rfl⟩ ?_
 rintro⟨t,b⟩ ⟨i,hi,h0,h4,h5,h6,bZ⟩
 simp only at h0 h4 h5 h6
 rw[az h6]
 by_cases aB:i<s.length
 ·have hg:s.getD i 0=s[i]:=by simp[zMI,aB]
  have jO:fc s[i]=false→dJ s=false:=fun h=>by
   unfold dJ
   rw[cW aB h,Bool.and_false]
  simp only[ad,↓Xn,↓Xo,↓Xg,↓Xd,↓Xe,↓Xf,Tryz.VΓ,Tryz.Γs,Xp,Xi,Nat.reduceAdd,Nat.reduceSub,Nat.reduceLT,Nat.reduceLeDiff,reduceIte,reduceCtorEq,Nat.reduceEqDiff,implies_true,forall_const,aa,h0,h4,h5,h6,hg]
  refine⟨fun _=>⟨⟨by omega,by omega⟩,?_⟩,fun h=>absurd h (by simp;omega)⟩
  (refine ae (oz s[i]) ?_;simp only[ad,↓Xn,↓Xo,↓Xg,↓Xd,↓Xe,↓Xf,Tryz.VΓ,Tryz.Γs,Xp,Xi,Nat.reduceAdd,Nat.reduceSub,Nat.reduceLT,Nat.reduceLeDiff,reduceIte,reduceCtorEq,Nat.reduceEqDiff,implies_true,forall_const,aa,h0,h4,h5,h6,hg])
  have fin:fc s[i]=true→∀ (t':List (Nat × SV)),lk 6 t'=some (.int .i64 ((i:Int)+1))→(∃ k:Nat,k≤s.length∧SV.int IntKind.i64 ((i:Int)+1)=SV.int IntKind.i64 (k:Int)∧(s.take k).all fc=true)∧s.length - ja 6 ⟨t',b⟩<s.length - (i:Int).toNat:=fun hm t' k6 =>
   ⟨⟨i+1,by omega,rfl,aP aB bZ hm⟩,by rw[az (σ:=⟨t',b⟩) k6];omega⟩
  cases hd:isDigit s[i]
  ·refine⟨fun _=>⟨⟨by omega,by omega⟩,fun h1=>⟨⟨by omega,by omega⟩,fun h2=>?_,fun h2=>⟨⟨by omega,by omega⟩,fin ?_ _ rfl⟩⟩,fun h1=>?_⟩,fun h=>(by cases h)⟩
   ·rw[jO (by rw[iv _ hd];simp at h1 h2 ⊢;omega)]
   ·rw[iv _ hd];simp at h1 h2 ⊢;omega
   ·rw[jO (by rw[iv _ hd];simp at h1 ⊢;omega)]
  ·exact⟨fun h=>(by cases h),fun _=>⟨⟨by omega,by omega⟩,fin (by unfold fc;rw[hd];rfl) _ rfl⟩⟩
 ·have jv:i=s.length:=by omega
  subst jv
  rw[zMN]at bZ
  simp only[ad,↓Xn,↓Xo,↓Xg,↓Xd,↓Xe,↓Xf,Tryz.VΓ,Tryz.Γs,Xp,Xi,Nat.reduceAdd,Nat.reduceSub,Nat.reduceLT,Nat.reduceLeDiff,reduceIte,reduceCtorEq,Nat.reduceEqDiff,implies_true,forall_const,aa,h0,h4,h5,h6]
  refine⟨fun h=>absurd h (by simp),fun _=>?_⟩
  unfold dJ
  rw[bZ,Bool.and_true]
  cases s <;> rfl
theorem tq (s:Bytes)(hs:s.length≤4096):PC Tryz.V 158 [.str s] (.eS [.str (eU s).1,.int .i64 (eU s).2]):=by
 have pn:=iS s [58] (by decide)
 have pd:=nF s
 have pc:=uE s 126
 have pr:=qv (aX [58] s).1 126 [37,55,69] (by decide) (by have:=dH [58] s;omega) (by decide)
 unfold eU
 generalize aX [58] s=n at *
 generalize aj s=d at *
 obtain⟨n,e⟩:=n
 obtain⟨d,f⟩:=d
 simp only at pn pd pr ⊢
 refine aQ 3000 Tryz.func158 rfl Tryz.ntmps158 Tryz.results158 Tryz.call158 (by simp) (by simp[flat,flat.ai]) (by simp[flat,flat.ai]) ?_
 simp only[ad,↓Xn,↓Xo,↓Xg,↓Xd,↓Xe,↓Xf,Tryz.VΓ,Tryz.Γs,Xp,Xi,Nat.reduceAdd,Nat.reduceSub,Nat.reduceLT,Nat.reduceLeDiff,reduceIte,reduceCtorEq,Nat.reduceEqDiff,implies_true,forall_const,aa]
 (refine ae (pn) ?_;simp only[ad,↓Xn,↓Xo,↓Xg,↓Xd,↓Xe,↓Xf,Tryz.VΓ,Tryz.Γs,Xp,Xi,Nat.reduceAdd,Nat.reduceSub,Nat.reduceLT,Nat.reduceLeDiff,reduceIte,reduceCtorEq,Nat.reduceEqDiff,implies_true,forall_const,aa])
 (refine ae (pd) ?_;simp only[ad,↓Xn,↓Xo,↓Xg,↓Xd,↓Xe,↓Xf,Tryz.VΓ,Tryz.Γs,Xp,Xi,Nat.reduceAdd,Nat.reduceSub,Nat.reduceLT,Nat.reduceLeDiff,reduceIte,reduceCtorEq,Nat.reduceEqDiff,implies_true,forall_const,aa])
 refine⟨fun h1=>?_,fun h1=>?_⟩
 ·rw[if_pos (by simpa using h1)]
 rw[if_neg (by simpa using h1)]
 refine⟨fun h2=>?_,fun h2=>?_⟩
 ·have h2:e=0:=by simpa using h2
  (refine ae pc ?_;simp only[ad,↓Xn,↓Xo,↓Xg,↓Xd,↓Xe,↓Xf,Tryz.VΓ,Tryz.Γs,Xp,Xi,Nat.reduceAdd,Nat.reduceSub,Nat.reduceLT,Nat.reduceLeDiff,reduceIte,reduceCtorEq,Nat.reduceEqDiff,implies_true,forall_const,aa])
  refine⟨fun h3=>?_,fun h3=>?_⟩
  ·(refine ae pr ?_;simp only[ad,↓Xn,↓Xo,↓Xg,↓Xd,↓Xe,↓Xf,Tryz.VΓ,Tryz.Γs,Xp,Xi,Nat.reduceAdd,Nat.reduceSub,Nat.reduceLT,Nat.reduceLeDiff,reduceIte,reduceCtorEq,Nat.reduceEqDiff,implies_true,forall_const,aa])
   rw[if_pos ⟨h2,of_decide_eq_true h3⟩]
  ·(refine ae pr ?_;simp only[ad,↓Xn,↓Xo,↓Xg,↓Xd,↓Xe,↓Xf,Tryz.VΓ,Tryz.Γs,Xp,Xi,Nat.reduceAdd,Nat.reduceSub,Nat.reduceLT,Nat.reduceLeDiff,reduceIte,reduceCtorEq,Nat.reduceEqDiff,implies_true,forall_const,aa])
   rw[if_neg (fun k=>of_decide_eq_false h3 k.2)]
 ·have h2:¬ e=0:=by simpa using h2
  (refine ae pr ?_;simp only[ad,↓Xn,↓Xo,↓Xg,↓Xd,↓Xe,↓Xf,Tryz.VΓ,Tryz.Γs,Xp,Xi,Nat.reduceAdd,Nat.reduceSub,Nat.reduceLT,Nat.reduceLeDiff,reduceIte,reduceCtorEq,Nat.reduceEqDiff,implies_true,forall_const,aa])
  rw[if_neg (fun k=>h2 k.1)]
theorem progEnd (m s:Bytes)(hs:s.length≤4096):jR m (eU s)=jR m (cD s):=by
 have h:=yY s (by omega)
 unfold jR
 rw[h.1]
 by_cases k:(cD s).2=0
 ·rw[h.2 k]
 ·rw[if_pos k,if_pos k]
theorem wI (s:Bytes):(eU s).1.length≤9 * s.length:=by
 unfold eU
 split
 ·simp
 ·have h1:=dH [58] s
  have h2:∀ l:Bytes,(l.flatMap (nv 126 [37,55,69])).length≤3 * l.length:=by
   intro l
   induction l with
   | nil=>simp
   | cons c l ih =>
     rw[List.flatMap_cons,zMM,zMB]
     have:(nv 126 [37,55,69] c).length≤3:=by unfold nv;split <;> simp
     omega
  have:=h2 (aX [58] s).1
  simp only
  omega
theorem nE (s:Bytes):PC Tryz.V 120 [.str s] (.eS [fj (aY s).1,.int .i64 (aY s).2]):=by
 refine aQ 3000 Tryz.func120 rfl Tryz.ntmps120 Tryz.results120 Tryz.call120 (by simp) (by simp[flat,flat.ai,fj,dusv]) (by simp[flat,flat.ai,fj,dusv]) ?_
 simp only[ad,↓Xn,↓Xo,↓Xg,↓Xd,↓Xe,↓Xf,Tryz.VΓ,Tryz.Γs,Xp,Xi,Nat.reduceAdd,Nat.reduceSub,Nat.reduceLT,Nat.reduceLeDiff,reduceIte,reduceCtorEq,Nat.reduceEqDiff,implies_true,forall_const,aa]
 unfold aY
 refine⟨fun h=>?_,fun h=>?_⟩
 ·have h:4096<s.length:=(by simp at h;omega)
  rw[if_pos h];rfl
 have h:¬ 4096<s.length:=(by simp at h;omega)
 rw[if_neg h]
 have pp:=kz s kb
 have hT:kb.isPrefixOf s=true→Lib.trimPrefix s kb=s.drop 4:=fun k=>if_pos k
 rw[show Lib.hasPrefix s kb=kb.isPrefixOf s from rfl]at pp
 (refine ae pp ?_;simp only[ad,↓Xn,↓Xo,↓Xg,↓Xd,↓Xe,↓Xf,Tryz.VΓ,Tryz.Γs,Xp,Xi,Nat.reduceAdd,Nat.reduceSub,Nat.reduceLT,Nat.reduceLeDiff,reduceIte,reduceCtorEq,Nat.reduceEqDiff,implies_true,forall_const,aa])
 refine⟨fun h2=>?_,fun h2=>?_⟩
 ·rw[if_pos (by simpa using h2)];rfl
 rw[if_neg (by simpa using h2)]
 rw[hT (by simpa using h2)]
 have hS:(s.drop 4).length≤4096:=by simp;omega
 generalize s.drop 4=S at hS ⊢
 have pc:=uD S 58 (by omega)
 have dB:=eg 58 S
 unfold mo
 generalize aL 58 S=x at pc dB ⊢
 obtain⟨m,i,ok⟩:=x
 simp only at pc dB ⊢
 (refine ae pc ?_;simp only[ad,↓Xn,↓Xo,↓Xg,↓Xd,↓Xe,↓Xf,Tryz.VΓ,Tryz.Γs,Xp,Xi,Nat.reduceAdd,Nat.reduceSub,Nat.reduceLT,Nat.reduceLeDiff,reduceIte,reduceCtorEq,Nat.reduceEqDiff,implies_true,forall_const,aa])
 refine⟨fun h3=>?_,fun h3=>?_⟩
 ·rw[if_pos (by simpa using h3)];rfl
 rw[if_neg (by simpa using h3)]
 (refine ae (zk m (by omega)) ?_;simp only[ad,↓Xn,↓Xo,↓Xg,↓Xd,↓Xe,↓Xf,Tryz.VΓ,Tryz.Γs,Xp,Xi,Nat.reduceAdd,Nat.reduceSub,Nat.reduceLT,Nat.reduceLeDiff,reduceIte,reduceCtorEq,Nat.reduceEqDiff,implies_true,forall_const,aa])
 refine⟨fun h4=>?_,fun h4=>?_⟩
 ·rw[if_pos (by simpa using h4)];rfl
 rw[if_neg (by simpa using h4)]
 have hi:i.length≤4096:=by omega
 rw[← progEnd m i hi]
 have pk:=tq i hi
 have ym:=wI i
 generalize eU i=k at *
 obtain⟨k,e⟩:=k
 simp only at pk ym
 have ps:=Bo k 58 (by omega)
 unfold jR
 simp only
 (refine ae pk ?_;simp only[ad,↓Xn,↓Xo,↓Xg,↓Xd,↓Xe,↓Xf,Tryz.VΓ,Tryz.Γs,Xp,Xi,Nat.reduceAdd,Nat.reduceSub,Nat.reduceLT,Nat.reduceLeDiff,reduceIte,reduceCtorEq,Nat.reduceEqDiff,implies_true,forall_const,aa])
 refine⟨fun h5=>?_,fun h5=>?_⟩
 ·rw[if_pos (by simpa using h5)];rfl
 rw[if_neg (by simpa using h5)]
 refine⟨fun h6=>?_,fun h6=>?_⟩
 ·(refine ae ps ?_;simp only[ad,↓Xn,↓Xo,↓Xg,↓Xd,↓Xe,↓Xf,Tryz.VΓ,Tryz.Γs,Xp,Xi,Nat.reduceAdd,Nat.reduceSub,Nat.reduceLT,Nat.reduceLeDiff,reduceIte,reduceCtorEq,Nat.reduceEqDiff,implies_true,forall_const,aa])
  refine⟨fun h7=>?_,fun h7=>?_⟩
  ·rw[if_pos (.inr (of_decide_eq_true h7))];rfl
  ·rw[if_neg (by simp only[not_or];exact⟨by simpa using h6,of_decide_eq_false h7⟩)];rfl
 ·rw[if_pos (.inl (by simpa using h6))];rfl
def eG (d:fU):Prop:=d.method.length≤140737488355328∧d.id.length≤140737488355328
theorem sX (d:fU):(bA d).length=d.method.length+d.id.length+5:=by simp[bA,kb];omega
theorem dD (d:fU)(h:eG d):PC Tryz.V 123 [fj d] (.str (bA d)):=by
 obtain⟨m,i⟩:=d
 simp only[eG]at h
 refine aQ 3000 Tryz.func123 rfl Tryz.ntmps123 Tryz.results123 Tryz.call123 (by simp) (by simp[flat,flat.ai,fj,dusv]) (by simp[flat,flat.ai,fj,dusv]) ?_
 unfold fj
 simp only[ad,↓Xn,↓Xo,↓Xg,↓Xd,↓Xe,↓Xf,Tryz.VΓ,Tryz.Γs,Xp,Xi,Nat.reduceAdd,Nat.reduceSub,Nat.reduceLT,Nat.reduceLeDiff,reduceIte,reduceCtorEq,Nat.reduceEqDiff,implies_true,forall_const,aa]
 simp only[zMM,zMB,zMD]
 refine⟨by omega,by omega,by omega,?_⟩
 simp[bA,kb]
theorem dY (c:UInt8)(s:Bytes):pre (([c]:Bytes).contains ·) s=pre (·==c) s:=by
 congr 1
 funext x
 by_cases h:x=c
 ·subst h;simp
 ·simp[h]
theorem cI {s:Bytes}(h:Lib.hasPrefix s [47,47]=true):aD s=((s.take (2+pre (·==47) (s.drop 2))).drop 2,true,s.drop (2+pre (·==47) (s.drop 2))):=by
 rw[jx h]
 have e:Lib.trimPrefix s [47,47]=s.drop 2:=by unfold Lib.trimPrefix;rw[if_pos h];rfl
 rw[e,List.drop_take,List.drop_drop]
 simp
theorem DI (s:Bytes):PC Tryz.V 98 [.str s] (.eS [usv (bf s).1,.int .i64 (bf s).2]):=by
 (refine aQ 3000 Tryz.func98 rfl Tryz.ntmps98 Tryz.results98 Tryz.call98 (by simp) (by simp[flat,flat.ai,usv]) (by simp[flat,flat.ai,usv]) ?_
  simp only[ad,↓Xn,↓Xo,↓Xg,↓Xd,↓Xe,↓Xf,Tryz.VΓ,Tryz.Γs,Xp,Xi,Nat.reduceAdd,Nat.reduceSub,Nat.reduceLT,Nat.reduceLeDiff,reduceIte,reduceCtorEq,Nat.reduceEqDiff,implies_true,forall_const,aa])
 refine⟨fun h=>?_,fun h=>?_⟩
 ·have:bf s=(Uri.none,5):=if_pos (by simp at h;omega)
  rw[this];rfl
 ·have hq:bf s=aK (aL 63 (aL 35 s).1).1 (aL 35 s).2.1 (aL 63 (aL 35 s).1).2.1 (aL 35 s).2.2 (aL 63 (aL 35 s).1).2.2:=if_neg (by simp at h;omega)
  rw[hq]
  have hs:s.length≤4294967281:=by simp at h;omega
  have px:=bl s [35] hs (by simp)
  rw[dY]at px
  (refine ae (px) ?_;simp only[ad,↓Xn,↓Xo,↓Xg,↓Xd,↓Xe,↓Xf,Tryz.VΓ,Tryz.Γs,Xp,Xi,Nat.reduceAdd,Nat.reduceSub,Nat.reduceLT,Nat.reduceLeDiff,reduceIte,reduceCtorEq,Nat.reduceEqDiff,implies_true,forall_const,aa])
  refine⟨fun hO=>?_,fun hO=>?_⟩
  ·have hk1':pre (·==35) s<s.length:=by simpa using hO
   rw[show aL 35 s=(s.take (pre (·==35) s),s.drop (pre (·==35) s+1),true) from if_pos hk1']
   simp only
   have mO:(s.take (pre (·==35) s)).length≤4294967281:=by rw[zMH];omega
   refine⟨by omega,by omega,by omega,(aq (by kernel_rfl)),?_⟩
   generalize s.take (pre (·==35) s)=s1 at mO ⊢
   generalize s.drop (pre (·==35) s+1)=fr
   (
    have px2:=bl s1 [63] (by omega) (by simp)
    rw[dY]at px2
    (refine ae (px2) ?_;simp only[ad,↓Xn,↓Xo,↓Xg,↓Xd,↓Xe,↓Xf,Tryz.VΓ,Tryz.Γs,Xp,Xi,Nat.reduceAdd,Nat.reduceSub,Nat.reduceLT,Nat.reduceLeDiff,reduceIte,reduceCtorEq,Nat.reduceEqDiff,implies_true,forall_const,aa])
    refine⟨fun eW=>?_,fun eW=>?_⟩
    ·have hk2':pre (·==63) s1<s1.length:=by simpa using eW
     rw[show aL 63 s1=(s1.take (pre (·==63) s1),s1.drop (pre (·==63) s1+1),true) from if_pos hk2']
     simp only
     have gF:(s1.take (pre (·==63) s1)).length≤4294967281:=by rw[zMH];omega
     refine⟨by omega,by omega,by omega,(aq (by kernel_rfl)),?_⟩
     generalize s1.take (pre (·==63) s1)=s2 at gF ⊢
     generalize s1.drop (pre (·==63) s1+1)=qu
     (
      have px3:=bl s2 [58,47] (by omega) (by simp)
      rw[show pre (([58,47]:Bytes).contains ·) s2=pre ak s2 from rfl]at px3
      (refine ae (px3) ?_;simp only[ad,↓Xn,↓Xo,↓Xg,↓Xd,↓Xe,↓Xf,Tryz.VΓ,Tryz.Γs,Xp,Xi,Nat.reduceAdd,Nat.reduceSub,Nat.reduceLT,Nat.reduceLeDiff,reduceIte,reduceCtorEq,Nat.reduceEqDiff,implies_true,forall_const,aa])
      refine⟨fun mG=>?_,fun mG=>?_⟩
      ·have hp:pre ak s2<s2.length:=by simpa using mG
       rw[cH (n:=58) hp 58 rfl]
       refine⟨by omega,fun h1=>⟨by omega,?_⟩,fun h1=>?_⟩
       ·have hh:(s2.drop (pre ak s2)).head? = some 58:=by
         rw[zMK,zMA hp,beq_iff_eq.1 h1]
        (refine ae (ks _ (by rw[zMH];omega)) ?_;simp only[ad,↓Xn,↓Xo,↓Xg,↓Xd,↓Xe,↓Xf,Tryz.VΓ,Tryz.Γs,Xp,Xi,Nat.reduceAdd,Nat.reduceSub,Nat.reduceLT,Nat.reduceLeDiff,reduceIte,reduceCtorEq,Nat.reduceEqDiff,implies_true,forall_const,aa])
        refine⟨fun h2=>?_,fun h2=>?_⟩
        ·have fY:∀ (f q:Bytes) (hf hq:Bool),aK s2 f q hf hq=(Uri.none,6):=fun f q hf hq=>by
          unfold aK
          rw[if_pos hh,if_neg (by rw[qz h2];simp)]
         rw[fY];rfl
        ·have fY:∀ (f q:Bytes) (hf hq:Bool),aK s2 f q hf hq=(⟨s2.take (pre ak s2),(aD (s2.drop (pre ak s2+1))).1,(aD (s2.drop (pre ak s2+1))).2.2,q,f,true,(aD (s2.drop (pre ak s2+1))).2.1,hq,hf⟩,0):=fun f q hf hq=>by
          unfold aK
          rw[if_pos hh,if_pos (qA h2)]
         have Hj:(s2.drop (pre ak s2+1)).length≤4294967281:=by rw[zMz];omega
         refine⟨by omega,by omega,by omega,(aq (by kernel_rfl)),?_⟩
         (
          (refine ae (bR (s2.drop (pre ak s2+1)) [47,47]) ?_;simp only[ad,↓Xn,↓Xo,↓Xg,↓Xd,↓Xe,↓Xf,Tryz.VΓ,Tryz.Γs,Xp,Xi,Nat.reduceAdd,Nat.reduceSub,Nat.reduceLT,Nat.reduceLeDiff,reduceIte,reduceCtorEq,Nat.reduceEqDiff,implies_true,forall_const,aa])
          cases gT:Lib.hasPrefix (s2.drop (pre ak s2+1)) [47,47]
          ·refine⟨fun h=>(by cases h),fun _=>?_⟩
           rw[fY,cq gT];rfl
          ·refine⟨fun _=>?_,fun h=>(by cases h)⟩
           rw[fY,cI gT]
           have vo:=eE gT
           simp only[zMB,zMD]at vo
           have px4:=bl ((s2.drop (pre ak s2+1)).drop 2) [47] (by rw[zMz];omega) (by simp)
           rw[dY]at px4
           have gd:=cx (·==47) ((s2.drop (pre ak s2+1)).drop 2)
           rw[zMz]at gd
           generalize pre (·==47) ((s2.drop (pre ak s2+1)).drop 2)=q at px4 gd ⊢
           refine⟨by omega,?_⟩
           (refine ae (px4) ?_;simp only[ad,↓Xn,↓Xo,↓Xg,↓Xd,↓Xe,↓Xf,Tryz.VΓ,Tryz.Γs,Xp,Xi,Nat.reduceAdd,Nat.reduceSub,Nat.reduceLT,Nat.reduceLeDiff,reduceIte,reduceCtorEq,Nat.reduceEqDiff,implies_true,forall_const,aa])
           rw[show (2+(q:Int)).toNat=2+q by omega]
           exact⟨by omega,by omega,by omega,(aq (by kernel_rfl)),rfl⟩)
       ·have fY:∀ (f q:Bytes) (hf hq:Bool),aK s2 f q hf hq=(⟨[],(aD s2).1,(aD s2).2.2,q,f,false,(aD s2).2.1,hq,hf⟩,0):=fun f q hf hq=>by
         unfold aK
         rw[if_neg (by rw[zMK,zMA hp];simpa using h1)]
        have Hj:=gF
        (
         (refine ae (bR (s2) [47,47]) ?_;simp only[ad,↓Xn,↓Xo,↓Xg,↓Xd,↓Xe,↓Xf,Tryz.VΓ,Tryz.Γs,Xp,Xi,Nat.reduceAdd,Nat.reduceSub,Nat.reduceLT,Nat.reduceLeDiff,reduceIte,reduceCtorEq,Nat.reduceEqDiff,implies_true,forall_const,aa])
         cases gT:Lib.hasPrefix (s2) [47,47]
         ·refine⟨fun h=>(by cases h),fun _=>?_⟩
          rw[fY,cq gT];rfl
         ·refine⟨fun _=>?_,fun h=>(by cases h)⟩
          rw[fY,cI gT]
          have vo:=eE gT
          simp only[zMB,zMD]at vo
          have px4:=bl ((s2).drop 2) [47] (by rw[zMz];omega) (by simp)
          rw[dY]at px4
          have gd:=cx (·==47) ((s2).drop 2)
          rw[zMz]at gd
          generalize pre (·==47) ((s2).drop 2)=q at px4 gd ⊢
          refine⟨by omega,?_⟩
          (refine ae (px4) ?_;simp only[ad,↓Xn,↓Xo,↓Xg,↓Xd,↓Xe,↓Xf,Tryz.VΓ,Tryz.Γs,Xp,Xi,Nat.reduceAdd,Nat.reduceSub,Nat.reduceLT,Nat.reduceLeDiff,reduceIte,reduceCtorEq,Nat.reduceEqDiff,implies_true,forall_const,aa])
          rw[show (2+(q:Int)).toNat=2+q by omega]
          exact⟨by omega,by omega,by omega,(aq (by kernel_rfl)),rfl⟩)
      ·have fY:∀ (f q:Bytes) (hf hq:Bool),aK s2 f q hf hq=(⟨[],(aD s2).1,(aD s2).2.2,q,f,false,(aD s2).2.1,hq,hf⟩,0):=fun f q hf hq=>by
        unfold aK
        rw[if_neg (by rw[zMP (by simp at mG;omega)];simp)]
       have Hj:=gF
       (
        (refine ae (bR (s2) [47,47]) ?_;simp only[ad,↓Xn,↓Xo,↓Xg,↓Xd,↓Xe,↓Xf,Tryz.VΓ,Tryz.Γs,Xp,Xi,Nat.reduceAdd,Nat.reduceSub,Nat.reduceLT,Nat.reduceLeDiff,reduceIte,reduceCtorEq,Nat.reduceEqDiff,implies_true,forall_const,aa])
        cases gT:Lib.hasPrefix (s2) [47,47]
        ·refine⟨fun h=>(by cases h),fun _=>?_⟩
         rw[fY,cq gT];rfl
        ·refine⟨fun _=>?_,fun h=>(by cases h)⟩
         rw[fY,cI gT]
         have vo:=eE gT
         simp only[zMB,zMD]at vo
         have px4:=bl ((s2).drop 2) [47] (by rw[zMz];omega) (by simp)
         rw[dY]at px4
         have gd:=cx (·==47) ((s2).drop 2)
         rw[zMz]at gd
         generalize pre (·==47) ((s2).drop 2)=q at px4 gd ⊢
         refine⟨by omega,?_⟩
         (refine ae (px4) ?_;simp only[ad,↓Xn,↓Xo,↓Xg,↓Xd,↓Xe,↓Xf,Tryz.VΓ,Tryz.Γs,Xp,Xi,Nat.reduceAdd,Nat.reduceSub,Nat.reduceLT,Nat.reduceLeDiff,reduceIte,reduceCtorEq,Nat.reduceEqDiff,implies_true,forall_const,aa])
         rw[show (2+(q:Int)).toNat=2+q by omega]
         exact⟨by omega,by omega,by omega,(aq (by kernel_rfl)),rfl⟩))
    ·have hk2':¬ pre (·==63) s1<s1.length:=by simpa using eW
     rw[show aL 63 s1=(s1,[],false) from if_neg hk2']
     simp only
     have gF:s1.length≤4294967281:=mO
     generalize s1=s2 at gF ⊢
     (
      have px3:=bl s2 [58,47] (by omega) (by simp)
      rw[show pre (([58,47]:Bytes).contains ·) s2=pre ak s2 from rfl]at px3
      (refine ae (px3) ?_;simp only[ad,↓Xn,↓Xo,↓Xg,↓Xd,↓Xe,↓Xf,Tryz.VΓ,Tryz.Γs,Xp,Xi,Nat.reduceAdd,Nat.reduceSub,Nat.reduceLT,Nat.reduceLeDiff,reduceIte,reduceCtorEq,Nat.reduceEqDiff,implies_true,forall_const,aa])
      refine⟨fun mG=>?_,fun mG=>?_⟩
      ·have hp:pre ak s2<s2.length:=by simpa using mG
       rw[cH (n:=58) hp 58 rfl]
       refine⟨by omega,fun h1=>⟨by omega,?_⟩,fun h1=>?_⟩
       ·have hh:(s2.drop (pre ak s2)).head? = some 58:=by
         rw[zMK,zMA hp,beq_iff_eq.1 h1]
        (refine ae (ks _ (by rw[zMH];omega)) ?_;simp only[ad,↓Xn,↓Xo,↓Xg,↓Xd,↓Xe,↓Xf,Tryz.VΓ,Tryz.Γs,Xp,Xi,Nat.reduceAdd,Nat.reduceSub,Nat.reduceLT,Nat.reduceLeDiff,reduceIte,reduceCtorEq,Nat.reduceEqDiff,implies_true,forall_const,aa])
        refine⟨fun h2=>?_,fun h2=>?_⟩
        ·have fY:∀ (f q:Bytes) (hf hq:Bool),aK s2 f q hf hq=(Uri.none,6):=fun f q hf hq=>by
          unfold aK
          rw[if_pos hh,if_neg (by rw[qz h2];simp)]
         rw[fY];rfl
        ·have fY:∀ (f q:Bytes) (hf hq:Bool),aK s2 f q hf hq=(⟨s2.take (pre ak s2),(aD (s2.drop (pre ak s2+1))).1,(aD (s2.drop (pre ak s2+1))).2.2,q,f,true,(aD (s2.drop (pre ak s2+1))).2.1,hq,hf⟩,0):=fun f q hf hq=>by
          unfold aK
          rw[if_pos hh,if_pos (qA h2)]
         have Hj:(s2.drop (pre ak s2+1)).length≤4294967281:=by rw[zMz];omega
         refine⟨by omega,by omega,by omega,(aq (by kernel_rfl)),?_⟩
         (
          (refine ae (bR (s2.drop (pre ak s2+1)) [47,47]) ?_;simp only[ad,↓Xn,↓Xo,↓Xg,↓Xd,↓Xe,↓Xf,Tryz.VΓ,Tryz.Γs,Xp,Xi,Nat.reduceAdd,Nat.reduceSub,Nat.reduceLT,Nat.reduceLeDiff,reduceIte,reduceCtorEq,Nat.reduceEqDiff,implies_true,forall_const,aa])
          cases gT:Lib.hasPrefix (s2.drop (pre ak s2+1)) [47,47]
          ·refine⟨fun h=>(by cases h),fun _=>?_⟩
           rw[fY,cq gT];rfl
          ·refine⟨fun _=>?_,fun h=>(by cases h)⟩
           rw[fY,cI gT]
           have vo:=eE gT
           simp only[zMB,zMD]at vo
           have px4:=bl ((s2.drop (pre ak s2+1)).drop 2) [47] (by rw[zMz];omega) (by simp)
           rw[dY]at px4
           have gd:=cx (·==47) ((s2.drop (pre ak s2+1)).drop 2)
           rw[zMz]at gd
           generalize pre (·==47) ((s2.drop (pre ak s2+1)).drop 2)=q at px4 gd ⊢
           refine⟨by omega,?_⟩
           (refine ae (px4) ?_;simp only[ad,↓Xn,↓Xo,↓Xg,↓Xd,↓Xe,↓Xf,Tryz.VΓ,Tryz.Γs,Xp,Xi,Nat.reduceAdd,Nat.reduceSub,Nat.reduceLT,Nat.reduceLeDiff,reduceIte,reduceCtorEq,Nat.reduceEqDiff,implies_true,forall_const,aa])
           rw[show (2+(q:Int)).toNat=2+q by omega]
           exact⟨by omega,by omega,by omega,(aq (by kernel_rfl)),rfl⟩)
       ·have fY:∀ (f q:Bytes) (hf hq:Bool),aK s2 f q hf hq=(⟨[],(aD s2).1,(aD s2).2.2,q,f,false,(aD s2).2.1,hq,hf⟩,0):=fun f q hf hq=>by
         unfold aK
         rw[if_neg (by rw[zMK,zMA hp];simpa using h1)]
        have Hj:=gF
        (
         (refine ae (bR (s2) [47,47]) ?_;simp only[ad,↓Xn,↓Xo,↓Xg,↓Xd,↓Xe,↓Xf,Tryz.VΓ,Tryz.Γs,Xp,Xi,Nat.reduceAdd,Nat.reduceSub,Nat.reduceLT,Nat.reduceLeDiff,reduceIte,reduceCtorEq,Nat.reduceEqDiff,implies_true,forall_const,aa])
         cases gT:Lib.hasPrefix (s2) [47,47]
         ·refine⟨fun h=>(by cases h),fun _=>?_⟩
          rw[fY,cq gT];rfl
         ·refine⟨fun _=>?_,fun h=>(by cases h)⟩
          rw[fY,cI gT]
          have vo:=eE gT
          simp only[zMB,zMD]at vo
          have px4:=bl ((s2).drop 2) [47] (by rw[zMz];omega) (by simp)
          rw[dY]at px4
          have gd:=cx (·==47) ((s2).drop 2)
          rw[zMz]at gd
          generalize pre (·==47) ((s2).drop 2)=q at px4 gd ⊢
          refine⟨by omega,?_⟩
          (refine ae (px4) ?_;simp only[ad,↓Xn,↓Xo,↓Xg,↓Xd,↓Xe,↓Xf,Tryz.VΓ,Tryz.Γs,Xp,Xi,Nat.reduceAdd,Nat.reduceSub,Nat.reduceLT,Nat.reduceLeDiff,reduceIte,reduceCtorEq,Nat.reduceEqDiff,implies_true,forall_const,aa])
          rw[show (2+(q:Int)).toNat=2+q by omega]
          exact⟨by omega,by omega,by omega,(aq (by kernel_rfl)),rfl⟩)
      ·have fY:∀ (f q:Bytes) (hf hq:Bool),aK s2 f q hf hq=(⟨[],(aD s2).1,(aD s2).2.2,q,f,false,(aD s2).2.1,hq,hf⟩,0):=fun f q hf hq=>by
        unfold aK
        rw[if_neg (by rw[zMP (by simp at mG;omega)];simp)]
       have Hj:=gF
       (
        (refine ae (bR (s2) [47,47]) ?_;simp only[ad,↓Xn,↓Xo,↓Xg,↓Xd,↓Xe,↓Xf,Tryz.VΓ,Tryz.Γs,Xp,Xi,Nat.reduceAdd,Nat.reduceSub,Nat.reduceLT,Nat.reduceLeDiff,reduceIte,reduceCtorEq,Nat.reduceEqDiff,implies_true,forall_const,aa])
        cases gT:Lib.hasPrefix (s2) [47,47]
        ·refine⟨fun h=>(by cases h),fun _=>?_⟩
         rw[fY,cq gT];rfl
        ·refine⟨fun _=>?_,fun h=>(by cases h)⟩
         rw[fY,cI gT]
         have vo:=eE gT
         simp only[zMB,zMD]at vo
         have px4:=bl ((s2).drop 2) [47] (by rw[zMz];omega) (by simp)
         rw[dY]at px4
         have gd:=cx (·==47) ((s2).drop 2)
         rw[zMz]at gd
         generalize pre (·==47) ((s2).drop 2)=q at px4 gd ⊢
         refine⟨by omega,?_⟩
         (refine ae (px4) ?_;simp only[ad,↓Xn,↓Xo,↓Xg,↓Xd,↓Xe,↓Xf,Tryz.VΓ,Tryz.Γs,Xp,Xi,Nat.reduceAdd,Nat.reduceSub,Nat.reduceLT,Nat.reduceLeDiff,reduceIte,reduceCtorEq,Nat.reduceEqDiff,implies_true,forall_const,aa])
         rw[show (2+(q:Int)).toNat=2+q by omega]
         exact⟨by omega,by omega,by omega,(aq (by kernel_rfl)),rfl⟩)))
  ·have hk1':¬ pre (·==35) s<s.length:=by simpa using hO
   rw[show aL 35 s=(s,[],false) from if_neg hk1']
   simp only
   have mO:s.length≤4294967281:=hs
   generalize s=s1 at mO ⊢
   (
    have px2:=bl s1 [63] (by omega) (by simp)
    rw[dY]at px2
    (refine ae (px2) ?_;simp only[ad,↓Xn,↓Xo,↓Xg,↓Xd,↓Xe,↓Xf,Tryz.VΓ,Tryz.Γs,Xp,Xi,Nat.reduceAdd,Nat.reduceSub,Nat.reduceLT,Nat.reduceLeDiff,reduceIte,reduceCtorEq,Nat.reduceEqDiff,implies_true,forall_const,aa])
    refine⟨fun eW=>?_,fun eW=>?_⟩
    ·have hk2':pre (·==63) s1<s1.length:=by simpa using eW
     rw[show aL 63 s1=(s1.take (pre (·==63) s1),s1.drop (pre (·==63) s1+1),true) from if_pos hk2']
     simp only
     have gF:(s1.take (pre (·==63) s1)).length≤4294967281:=by rw[zMH];omega
     refine⟨by omega,by omega,by omega,(aq (by kernel_rfl)),?_⟩
     generalize s1.take (pre (·==63) s1)=s2 at gF ⊢
     generalize s1.drop (pre (·==63) s1+1)=qu
     (
      have px3:=bl s2 [58,47] (by omega) (by simp)
      rw[show pre (([58,47]:Bytes).contains ·) s2=pre ak s2 from rfl]at px3
      (refine ae (px3) ?_;simp only[ad,↓Xn,↓Xo,↓Xg,↓Xd,↓Xe,↓Xf,Tryz.VΓ,Tryz.Γs,Xp,Xi,Nat.reduceAdd,Nat.reduceSub,Nat.reduceLT,Nat.reduceLeDiff,reduceIte,reduceCtorEq,Nat.reduceEqDiff,implies_true,forall_const,aa])
      refine⟨fun mG=>?_,fun mG=>?_⟩
      ·have hp:pre ak s2<s2.length:=by simpa using mG
       rw[cH (n:=58) hp 58 rfl]
       refine⟨by omega,fun h1=>⟨by omega,?_⟩,fun h1=>?_⟩
       ·have hh:(s2.drop (pre ak s2)).head? = some 58:=by
         rw[zMK,zMA hp,beq_iff_eq.1 h1]
        (refine ae (ks _ (by rw[zMH];omega)) ?_;simp only[ad,↓Xn,↓Xo,↓Xg,↓Xd,↓Xe,↓Xf,Tryz.VΓ,Tryz.Γs,Xp,Xi,Nat.reduceAdd,Nat.reduceSub,Nat.reduceLT,Nat.reduceLeDiff,reduceIte,reduceCtorEq,Nat.reduceEqDiff,implies_true,forall_const,aa])
        refine⟨fun h2=>?_,fun h2=>?_⟩
        ·have fY:∀ (f q:Bytes) (hf hq:Bool),aK s2 f q hf hq=(Uri.none,6):=fun f q hf hq=>by
          unfold aK
          rw[if_pos hh,if_neg (by rw[qz h2];simp)]
         rw[fY];rfl
        ·have fY:∀ (f q:Bytes) (hf hq:Bool),aK s2 f q hf hq=(⟨s2.take (pre ak s2),(aD (s2.drop (pre ak s2+1))).1,(aD (s2.drop (pre ak s2+1))).2.2,q,f,true,(aD (s2.drop (pre ak s2+1))).2.1,hq,hf⟩,0):=fun f q hf hq=>by
          unfold aK
          rw[if_pos hh,if_pos (qA h2)]
         have Hj:(s2.drop (pre ak s2+1)).length≤4294967281:=by rw[zMz];omega
         refine⟨by omega,by omega,by omega,(aq (by kernel_rfl)),?_⟩
         (
          (refine ae (bR (s2.drop (pre ak s2+1)) [47,47]) ?_;simp only[ad,↓Xn,↓Xo,↓Xg,↓Xd,↓Xe,↓Xf,Tryz.VΓ,Tryz.Γs,Xp,Xi,Nat.reduceAdd,Nat.reduceSub,Nat.reduceLT,Nat.reduceLeDiff,reduceIte,reduceCtorEq,Nat.reduceEqDiff,implies_true,forall_const,aa])
          cases gT:Lib.hasPrefix (s2.drop (pre ak s2+1)) [47,47]
          ·refine⟨fun h=>(by cases h),fun _=>?_⟩
           rw[fY,cq gT];rfl
          ·refine⟨fun _=>?_,fun h=>(by cases h)⟩
           rw[fY,cI gT]
           have vo:=eE gT
           simp only[zMB,zMD]at vo
           have px4:=bl ((s2.drop (pre ak s2+1)).drop 2) [47] (by rw[zMz];omega) (by simp)
           rw[dY]at px4
           have gd:=cx (·==47) ((s2.drop (pre ak s2+1)).drop 2)
           rw[zMz]at gd
           generalize pre (·==47) ((s2.drop (pre ak s2+1)).drop 2)=q at px4 gd ⊢
           refine⟨by omega,?_⟩
           (refine ae (px4) ?_;simp only[ad,↓Xn,↓Xo,↓Xg,↓Xd,↓Xe,↓Xf,Tryz.VΓ,Tryz.Γs,Xp,Xi,Nat.reduceAdd,Nat.reduceSub,Nat.reduceLT,Nat.reduceLeDiff,reduceIte,reduceCtorEq,Nat.reduceEqDiff,implies_true,forall_const,aa])
           rw[show (2+(q:Int)).toNat=2+q by omega]
           exact⟨by omega,by omega,by omega,(aq (by kernel_rfl)),rfl⟩)
       ·have fY:∀ (f q:Bytes) (hf hq:Bool),aK s2 f q hf hq=(⟨[],(aD s2).1,(aD s2).2.2,q,f,false,(aD s2).2.1,hq,hf⟩,0):=fun f q hf hq=>by
         unfold aK
         rw[if_neg (by rw[zMK,zMA hp];simpa using h1)]
        have Hj:=gF
        (
         (refine ae (bR (s2) [47,47]) ?_;simp only[ad,↓Xn,↓Xo,↓Xg,↓Xd,↓Xe,↓Xf,Tryz.VΓ,Tryz.Γs,Xp,Xi,Nat.reduceAdd,Nat.reduceSub,Nat.reduceLT,Nat.reduceLeDiff,reduceIte,reduceCtorEq,Nat.reduceEqDiff,implies_true,forall_const,aa])
         cases gT:Lib.hasPrefix (s2) [47,47]
         ·refine⟨fun h=>(by cases h),fun _=>?_⟩
          rw[fY,cq gT];rfl
         ·refine⟨fun _=>?_,fun h=>(by cases h)⟩
          rw[fY,cI gT]
          have vo:=eE gT
          simp only[zMB,zMD]at vo
          have px4:=bl ((s2).drop 2) [47] (by rw[zMz];omega) (by simp)
          rw[dY]at px4
          have gd:=cx (·==47) ((s2).drop 2)
          rw[zMz]at gd
          generalize pre (·==47) ((s2).drop 2)=q at px4 gd ⊢
          refine⟨by omega,?_⟩
          (refine ae (px4) ?_;simp only[ad,↓Xn,↓Xo,↓Xg,↓Xd,↓Xe,↓Xf,Tryz.VΓ,Tryz.Γs,Xp,Xi,Nat.reduceAdd,Nat.reduceSub,Nat.reduceLT,Nat.reduceLeDiff,reduceIte,reduceCtorEq,Nat.reduceEqDiff,implies_true,forall_const,aa])
          rw[show (2+(q:Int)).toNat=2+q by omega]
          exact⟨by omega,by omega,by omega,(aq (by kernel_rfl)),rfl⟩)
      ·have fY:∀ (f q:Bytes) (hf hq:Bool),aK s2 f q hf hq=(⟨[],(aD s2).1,(aD s2).2.2,q,f,false,(aD s2).2.1,hq,hf⟩,0):=fun f q hf hq=>by
        unfold aK
        rw[if_neg (by rw[zMP (by simp at mG;omega)];simp)]
       have Hj:=gF
       (
        (refine ae (bR (s2) [47,47]) ?_;simp only[ad,↓Xn,↓Xo,↓Xg,↓Xd,↓Xe,↓Xf,Tryz.VΓ,Tryz.Γs,Xp,Xi,Nat.reduceAdd,Nat.reduceSub,Nat.reduceLT,Nat.reduceLeDiff,reduceIte,reduceCtorEq,Nat.reduceEqDiff,implies_true,forall_const,aa])
        cases gT:Lib.hasPrefix (s2) [47,47]
        ·refine⟨fun h=>(by cases h),fun _=>?_⟩
         rw[fY,cq gT];rfl
        ·refine⟨fun _=>?_,fun h=>(by cases h)⟩
         rw[fY,cI gT]
         have vo:=eE gT
         simp only[zMB,zMD]at vo
         have px4:=bl ((s2).drop 2) [47] (by rw[zMz];omega) (by simp)
         rw[dY]at px4
         have gd:=cx (·==47) ((s2).drop 2)
         rw[zMz]at gd
         generalize pre (·==47) ((s2).drop 2)=q at px4 gd ⊢
         refine⟨by omega,?_⟩
         (refine ae (px4) ?_;simp only[ad,↓Xn,↓Xo,↓Xg,↓Xd,↓Xe,↓Xf,Tryz.VΓ,Tryz.Γs,Xp,Xi,Nat.reduceAdd,Nat.reduceSub,Nat.reduceLT,Nat.reduceLeDiff,reduceIte,reduceCtorEq,Nat.reduceEqDiff,implies_true,forall_const,aa])
         rw[show (2+(q:Int)).toNat=2+q by omega]
         exact⟨by omega,by omega,by omega,(aq (by kernel_rfl)),rfl⟩))
    ·have hk2':¬ pre (·==63) s1<s1.length:=by simpa using eW
     rw[show aL 63 s1=(s1,[],false) from if_neg hk2']
     simp only
     have gF:s1.length≤4294967281:=mO
     generalize s1=s2 at gF ⊢
     (
      have px3:=bl s2 [58,47] (by omega) (by simp)
      rw[show pre (([58,47]:Bytes).contains ·) s2=pre ak s2 from rfl]at px3
      (refine ae (px3) ?_;simp only[ad,↓Xn,↓Xo,↓Xg,↓Xd,↓Xe,↓Xf,Tryz.VΓ,Tryz.Γs,Xp,Xi,Nat.reduceAdd,Nat.reduceSub,Nat.reduceLT,Nat.reduceLeDiff,reduceIte,reduceCtorEq,Nat.reduceEqDiff,implies_true,forall_const,aa])
      refine⟨fun mG=>?_,fun mG=>?_⟩
      ·have hp:pre ak s2<s2.length:=by simpa using mG
       rw[cH (n:=58) hp 58 rfl]
       refine⟨by omega,fun h1=>⟨by omega,?_⟩,fun h1=>?_⟩
       ·have hh:(s2.drop (pre ak s2)).head? = some 58:=by
         rw[zMK,zMA hp,beq_iff_eq.1 h1]
        (refine ae (ks _ (by rw[zMH];omega)) ?_;simp only[ad,↓Xn,↓Xo,↓Xg,↓Xd,↓Xe,↓Xf,Tryz.VΓ,Tryz.Γs,Xp,Xi,Nat.reduceAdd,Nat.reduceSub,Nat.reduceLT,Nat.reduceLeDiff,reduceIte,reduceCtorEq,Nat.reduceEqDiff,implies_true,forall_const,aa])
        refine⟨fun h2=>?_,fun h2=>?_⟩
        ·have fY:∀ (f q:Bytes) (hf hq:Bool),aK s2 f q hf hq=(Uri.none,6):=fun f q hf hq=>by
          unfold aK
          rw[if_pos hh,if_neg (by rw[qz h2];simp)]
         rw[fY];rfl
        ·have fY:∀ (f q:Bytes) (hf hq:Bool),aK s2 f q hf hq=(⟨s2.take (pre ak s2),(aD (s2.drop (pre ak s2+1))).1,(aD (s2.drop (pre ak s2+1))).2.2,q,f,true,(aD (s2.drop (pre ak s2+1))).2.1,hq,hf⟩,0):=fun f q hf hq=>by
          unfold aK
          rw[if_pos hh,if_pos (qA h2)]
         have Hj:(s2.drop (pre ak s2+1)).length≤4294967281:=by rw[zMz];omega
         refine⟨by omega,by omega,by omega,(aq (by kernel_rfl)),?_⟩
         (
          (refine ae (bR (s2.drop (pre ak s2+1)) [47,47]) ?_;simp only[ad,↓Xn,↓Xo,↓Xg,↓Xd,↓Xe,↓Xf,Tryz.VΓ,Tryz.Γs,Xp,Xi,Nat.reduceAdd,Nat.reduceSub,Nat.reduceLT,Nat.reduceLeDiff,reduceIte,reduceCtorEq,Nat.reduceEqDiff,implies_true,forall_const,aa])
          cases gT:Lib.hasPrefix (s2.drop (pre ak s2+1)) [47,47]
          ·refine⟨fun h=>(by cases h),fun _=>?_⟩
           rw[fY,cq gT];rfl
          ·refine⟨fun _=>?_,fun h=>(by cases h)⟩
           rw[fY,cI gT]
           have vo:=eE gT
           simp only[zMB,zMD]at vo
           have px4:=bl ((s2.drop (pre ak s2+1)).drop 2) [47] (by rw[zMz];omega) (by simp)
           rw[dY]at px4
           have gd:=cx (·==47) ((s2.drop (pre ak s2+1)).drop 2)
           rw[zMz]at gd
           generalize pre (·==47) ((s2.drop (pre ak s2+1)).drop 2)=q at px4 gd ⊢
           refine⟨by omega,?_⟩
           (refine ae (px4) ?_;simp only[ad,↓Xn,↓Xo,↓Xg,↓Xd,↓Xe,↓Xf,Tryz.VΓ,Tryz.Γs,Xp,Xi,Nat.reduceAdd,Nat.reduceSub,Nat.reduceLT,Nat.reduceLeDiff,reduceIte,reduceCtorEq,Nat.reduceEqDiff,implies_true,forall_const,aa])
           rw[show (2+(q:Int)).toNat=2+q by omega]
           exact⟨by omega,by omega,by omega,(aq (by kernel_rfl)),rfl⟩)
       ·have fY:∀ (f q:Bytes) (hf hq:Bool),aK s2 f q hf hq=(⟨[],(aD s2).1,(aD s2).2.2,q,f,false,(aD s2).2.1,hq,hf⟩,0):=fun f q hf hq=>by
         unfold aK
         rw[if_neg (by rw[zMK,zMA hp];simpa using h1)]
        have Hj:=gF
        (
         (refine ae (bR (s2) [47,47]) ?_;simp only[ad,↓Xn,↓Xo,↓Xg,↓Xd,↓Xe,↓Xf,Tryz.VΓ,Tryz.Γs,Xp,Xi,Nat.reduceAdd,Nat.reduceSub,Nat.reduceLT,Nat.reduceLeDiff,reduceIte,reduceCtorEq,Nat.reduceEqDiff,implies_true,forall_const,aa])
         cases gT:Lib.hasPrefix (s2) [47,47]
         ·refine⟨fun h=>(by cases h),fun _=>?_⟩
          rw[fY,cq gT];rfl
         ·refine⟨fun _=>?_,fun h=>(by cases h)⟩
          rw[fY,cI gT]
          have vo:=eE gT
          simp only[zMB,zMD]at vo
          have px4:=bl ((s2).drop 2) [47] (by rw[zMz];omega) (by simp)
          rw[dY]at px4
          have gd:=cx (·==47) ((s2).drop 2)
          rw[zMz]at gd
          generalize pre (·==47) ((s2).drop 2)=q at px4 gd ⊢
          refine⟨by omega,?_⟩
          (refine ae (px4) ?_;simp only[ad,↓Xn,↓Xo,↓Xg,↓Xd,↓Xe,↓Xf,Tryz.VΓ,Tryz.Γs,Xp,Xi,Nat.reduceAdd,Nat.reduceSub,Nat.reduceLT,Nat.reduceLeDiff,reduceIte,reduceCtorEq,Nat.reduceEqDiff,implies_true,forall_const,aa])
          rw[show (2+(q:Int)).toNat=2+q by omega]
          exact⟨by omega,by omega,by omega,(aq (by kernel_rfl)),rfl⟩)
      ·have fY:∀ (f q:Bytes) (hf hq:Bool),aK s2 f q hf hq=(⟨[],(aD s2).1,(aD s2).2.2,q,f,false,(aD s2).2.1,hq,hf⟩,0):=fun f q hf hq=>by
        unfold aK
        rw[if_neg (by rw[zMP (by simp at mG;omega)];simp)]
       have Hj:=gF
       (
        (refine ae (bR (s2) [47,47]) ?_;simp only[ad,↓Xn,↓Xo,↓Xg,↓Xd,↓Xe,↓Xf,Tryz.VΓ,Tryz.Γs,Xp,Xi,Nat.reduceAdd,Nat.reduceSub,Nat.reduceLT,Nat.reduceLeDiff,reduceIte,reduceCtorEq,Nat.reduceEqDiff,implies_true,forall_const,aa])
        cases gT:Lib.hasPrefix (s2) [47,47]
        ·refine⟨fun h=>(by cases h),fun _=>?_⟩
         rw[fY,cq gT];rfl
        ·refine⟨fun _=>?_,fun h=>(by cases h)⟩
         rw[fY,cI gT]
         have vo:=eE gT
         simp only[zMB,zMD]at vo
         have px4:=bl ((s2).drop 2) [47] (by rw[zMz];omega) (by simp)
         rw[dY]at px4
         have gd:=cx (·==47) ((s2).drop 2)
         rw[zMz]at gd
         generalize pre (·==47) ((s2).drop 2)=q at px4 gd ⊢
         refine⟨by omega,?_⟩
         (refine ae (px4) ?_;simp only[ad,↓Xn,↓Xo,↓Xg,↓Xd,↓Xe,↓Xf,Tryz.VΓ,Tryz.Γs,Xp,Xi,Nat.reduceAdd,Nat.reduceSub,Nat.reduceLT,Nat.reduceLeDiff,reduceIte,reduceCtorEq,Nat.reduceEqDiff,implies_true,forall_const,aa])
         rw[show (2+(q:Int)).toNat=2+q by omega]
         exact⟨by omega,by omega,by omega,(aq (by kernel_rfl)),rfl⟩)))
theorem kI:∀ (f:Nat)(s:Bytes),(bI f s).length≤f
 | 0,_=>by simp[bI]
 | f+1,[]=>by simp[bI]
 | f+1,c::r=>by
   rw[bI]
   split
   ·split
    ·have:=kI f (by assumption);simp;omega
    ·simp
   ·have:=kI f r;simp;omega
theorem yh (s:Bytes):(bB s).1.length≤s.length:=by
 unfold bB
 split
 ·simp
 split
 ·simp
 split
 ·simp
 ·simp only[fF];omega
theorem FF (s:Bytes):(aj s).1.length≤s.length:=by
 unfold aj
 split
 ·simp
 split
 ·simp
 ·have:=kI s.length s
  simpa[aA] using this
theorem idx_lt (set:Bytes)(c:UInt8):decide (Lib.indexByte set c<0)=!set.contains c:=by
 rw[← qG]
 by_cases h:0≤Lib.indexByte set c
 ·rw[decide_eq_true h,decide_eq_false (by omega)];rfl
 ·rw[decide_eq_false h,decide_eq_true (by omega)];rfl
theorem wL (m:mC)(h:m.loc.length≤300000∧m.host.length≤140737488355328):PC Tryz.V 117 [E2 m] (.str (nL m)):=by
 have pe:=uC m.loc BN h.1
 have hl:=dQ BN m.loc
 refine aQ 3000 Tryz.func117 rfl Tryz.ntmps117 Tryz.results117 Tryz.call117 (by simp) (by simp[flat,flat.ai,E2]) (by simp[flat,flat.ai,E2]) ?_
 unfold E2
 simp only[ad,↓Xn,↓Xo,↓Xg,↓Xd,↓Xe,↓Xf,Tryz.VΓ,Tryz.Γs,Xp,Xi,Nat.reduceAdd,Nat.reduceSub,Nat.reduceLT,Nat.reduceLeDiff,reduceIte,reduceCtorEq,Nat.reduceEqDiff,implies_true,forall_const,aa]
 (refine aU (pe) ?_;simp only[ad,↓Xn,↓Xo,↓Xg,↓Xd,↓Xe,↓Xf,Tryz.VΓ,Tryz.Γs,Xp,Xi,Nat.reduceAdd,Nat.reduceSub,Nat.reduceLT,Nat.reduceLeDiff,reduceIte,reduceCtorEq,Nat.reduceEqDiff,implies_true,forall_const,aa])
 exact⟨by omega,by omega,by simp only[zMM,zMB,zMD];omega,(aq (by kernel_rfl)),by simp[nL,la]⟩
theorem Bc (m:mC)(h:m.loc.length≤300000∧m.host.length≤140737488355328):PC Tryz.V 51 [E2 m] (.str (nL m)):=by
 have pe:=sH m.loc BN (by omega) (by decide)
 have hl:=dQ BN m.loc
 refine aQ 3000 Tryz.func51 rfl Tryz.ntmps51 Tryz.results51 Tryz.call51 (by simp) (by simp[flat,flat.ai,E2]) (by simp[flat,flat.ai,E2]) ?_
 unfold E2
 simp only[ad,↓Xn,↓Xo,↓Xg,↓Xd,↓Xe,↓Xf,Tryz.VΓ,Tryz.Γs,Xp,Xi,Nat.reduceAdd,Nat.reduceSub,Nat.reduceLT,Nat.reduceLeDiff,reduceIte,reduceCtorEq,Nat.reduceEqDiff,implies_true,forall_const,aa]
 (refine aU (pe) ?_;simp only[ad,↓Xn,↓Xo,↓Xg,↓Xd,↓Xe,↓Xf,Tryz.VΓ,Tryz.Γs,Xp,Xi,Nat.reduceAdd,Nat.reduceSub,Nat.reduceLT,Nat.reduceLeDiff,reduceIte,reduceCtorEq,Nat.reduceEqDiff,implies_true,forall_const,aa])
 exact⟨by omega,by omega,by simp only[zMM,zMB,zMD];omega,(aq (by kernel_rfl)),by simp[nL,la]⟩
theorem zi (s:Bytes):PC Tryz.V 116 [.str s] (.eS [E2 (bT s).1,.int .i64 (bT s).2]):=by
 have pe:=zo (s.take 7) la (by simp;omega) (by decide)
 rw[show lower la=la by decide]at pe
 refine aQ 3000 Tryz.func116 rfl Tryz.ntmps116 Tryz.results116 Tryz.call116 (by simp) (by simp[flat,flat.ai]) (by simp[flat,flat.ai,E2]) ?_
 simp only[ad,↓Xn,↓Xo,↓Xg,↓Xd,↓Xe,↓Xf,Tryz.VΓ,Tryz.Γs,Xp,Xi,Nat.reduceAdd,Nat.reduceSub,Nat.reduceLT,Nat.reduceLeDiff,reduceIte,reduceCtorEq,Nat.reduceEqDiff,implies_true,forall_const,aa]
 unfold bT
 refine⟨fun h=>?_,fun h=>⟨fun h2=>⟨⟨by omega,(by simp at h2;omega)⟩,?_⟩,fun h2=>?_⟩⟩
 ·have h:4096<s.length:=(by simp at h;omega)
  rw[if_pos h];rfl
 ·have h:¬ 4096<s.length:=(by simp at h;omega)
  have h2:¬ s.length<7:=(by simp at h2;omega)
  rw[if_neg h]
  (refine ae pe ?_;simp only[ad,↓Xn,↓Xo,↓Xg,↓Xd,↓Xe,↓Xf,Tryz.VΓ,Tryz.Γs,Xp,Xi,Nat.reduceAdd,Nat.reduceSub,Nat.reduceLT,Nat.reduceLeDiff,reduceIte,reduceCtorEq,Nat.reduceEqDiff,implies_true,forall_const,aa,Int.reduceToNat])
  refine⟨fun h3=>?_,fun h3=>⟨⟨by omega,by omega⟩,?_⟩⟩
  ·rw[if_pos (.inr (by simpa using h3))];rfl
  have h3:lower (s.take 7)=la:=by simpa using h3
  rw[if_neg (by simp only[not_or];exact⟨h2,by simpa using h3⟩)]
  have gx:∀ c:UInt8,cu c ∉ la→(c∈s↔c∈s.drop 7):=fun c hc=>by
   conv=>lhs;rw[← List.take_append_drop 7 s,List.mem_append]
   constructor
   ·rintro(h|h)
    ·exfalso
     apply hc
     rw[← h3]
     exact List.mem_map.2 ⟨c,h,rfl⟩
    ·exact h
   ·exact .inr
  have n1:=gx 63 (by decide)
  have n2:=gx 35 (by decide)
  have pa:=wP s 63 35 (by decide) (by decide) (by omega)
  rw[show decide ((63:UInt8)∈s∨(35:UInt8)∈s)=decide ((63:UInt8)∈s.drop 7∨(35:UInt8)∈s.drop 7) from decide_eq_decide.2 (by rw[n1,n2])]at pa
  have hS:(s.drop 7).length≤4096:=by simp;omega
  have pc:=uD (s.drop 7) 64 (by omega)
  generalize s.drop 7=S at hS pc pa ⊢
  have dB:=eg 64 S
  unfold qC
  generalize aL 64 S=x at pc dB ⊢
  obtain⟨l,p,ok⟩:=x
  simp only at pc dB ⊢
  (refine ae pc ?_;simp only[ad,↓Xn,↓Xo,↓Xg,↓Xd,↓Xe,↓Xf,Tryz.VΓ,Tryz.Γs,Xp,Xi,Nat.reduceAdd,Nat.reduceSub,Nat.reduceLT,Nat.reduceLeDiff,reduceIte,reduceCtorEq,Nat.reduceEqDiff,implies_true,forall_const,aa])
  refine⟨fun bZ=>?_,fun bZ=>(by rw[if_pos (.inl (by simpa using bZ))];rfl)⟩
  have bZ:ok=true:=by simpa using bZ
  subst bZ
  (refine ae pa ?_;simp only[ad,↓Xn,↓Xo,↓Xg,↓Xd,↓Xe,↓Xf,Tryz.VΓ,Tryz.Γs,Xp,Xi,Nat.reduceAdd,Nat.reduceSub,Nat.reduceLT,Nat.reduceLeDiff,reduceIte,reduceCtorEq,Nat.reduceEqDiff,implies_true,forall_const,aa])
  refine⟨fun hq=>?_,fun hq=>?_⟩
  ·rw[if_pos (.inr (of_decide_eq_true hq))];rfl
  rw[if_neg (by simp only[Bool.true_eq_false,false_or];exact of_decide_eq_false hq)]
  have hl:l.length≤4096:=by omega
  have hp:p.length≤4096:=by omega
  clear pa pc pe n1 n2 gx dB h3
  refine aM (fun σ=>∃ i:Nat,i≤l.length∧lk 2 σ.t=some (.p 0 0)∧lk 3 σ.t=some (.int .i64 0)∧lk 4 σ.t=some (.str l)∧lk 5 σ.t=some (.str p)∧lk 40 σ.t=some (.int .i64 l.length)∧lk 41 σ.t=some (.int .i64 i)∧σ.b=[.cells [.str [],.str []] 85 true]∧(l.take i).all iw=true) (fun σ=>l.length - ja 41 σ) ⟨0,by omega,rfl,rfl,rfl,rfl,rfl,rfl,rfl,rfl⟩ ?_
  rintro⟨t,b⟩ ⟨i,hi,g2,g3,g4,g5,g40,g41,rfl,gH⟩
  simp only at g2 g3 g4 g5 g40 g41
  rw[az g41]
  by_cases aB:i<l.length
  ·have hg:l.getD i 0=l[i]:=by simp[zMI,aB]
   have rV:iw l[i]=false→l.all iw=false:=fun h=>cW aB h
   simp only[ad,↓Xn,↓Xo,↓Xg,↓Xd,↓Xe,↓Xf,Tryz.VΓ,Tryz.Γs,Xp,Xi,Nat.reduceAdd,Nat.reduceSub,Nat.reduceLT,Nat.reduceLeDiff,reduceIte,reduceCtorEq,Nat.reduceEqDiff,implies_true,forall_const,aa,g2,g3,g4,g5,g40,g41,hg]
   refine⟨fun _=>⟨⟨by omega,by omega⟩,?_⟩,fun h=>absurd h (by simp;omega)⟩
   (refine ae (fm l[i]) ?_;simp only[ad,↓Xn,↓Xo,↓Xg,↓Xd,↓Xe,↓Xf,Tryz.VΓ,Tryz.Γs,Xp,Xi,Nat.reduceAdd,Nat.reduceSub,Nat.reduceLT,Nat.reduceLeDiff,reduceIte,reduceCtorEq,Nat.reduceEqDiff,implies_true,forall_const,aa,g2,g3,g4,g5,g40,g41,hg])
   refine⟨fun hu=>?_,fun hu=>⟨⟨by omega,by omega⟩,⟨i+1,by omega,rfl,aP aB gH (by unfold iw;rw[show eY l[i]=true by simpa using hu];rfl)⟩,by rw[az (k:=.i64) (n:=(i:Int)+1) rfl];omega⟩⟩
   have hu:eY l[i]=false:=by simpa using hu
   (refine ae (dI fO l[i]) ?_;simp only[ad,↓Xn,↓Xo,↓Xg,↓Xd,↓Xe,↓Xf,Tryz.VΓ,Tryz.Γs,Xp,Xi,Nat.reduceAdd,Nat.reduceSub,Nat.reduceLT,Nat.reduceLeDiff,reduceIte,reduceCtorEq,Nat.reduceEqDiff,implies_true,forall_const,aa,g2,g3,g4,g5,g40,g41,hg])
   rw[idx_lt]
   refine⟨fun hk=>?_,fun hk=>⟨⟨by omega,by omega⟩,⟨i+1,by omega,rfl,aP aB gH (by unfold iw;rw[show fO.contains l[i]=true by simpa using hk];simp)⟩,by rw[az (k:=.i64) (n:=(i:Int)+1) rfl];omega⟩⟩
   rw[if_pos (rV (by unfold iw;rw[hu,show fO.contains l[i]=false by simpa using hk];rfl))]
   rfl
  ·have jv:i=l.length:=by omega
   subst jv
   rw[zMN]at gH
   rw[gH]
   have pd:=nF l
   have pQ:=FF l
   generalize aj l=dd at pd pQ ⊢
   obtain⟨d,e1⟩:=dd
   have ph:=sK p (by omega)
   have hhl:=yh p
   generalize bB p=hh at ph hhl ⊢
   obtain⟨hh,e2⟩:=hh
   simp only at pd ph pQ hhl
   simp only[Bool.true_eq_false,if_false]
   unfold zx
   simp only[ad,↓Xn,↓Xo,↓Xg,↓Xd,↓Xe,↓Xf,Tryz.VΓ,Tryz.Γs,Xp,Xi,Nat.reduceAdd,Nat.reduceSub,Nat.reduceLT,Nat.reduceLeDiff,reduceIte,reduceCtorEq,Nat.reduceEqDiff,implies_true,forall_const,aa,g2,g3,g4,g5,g40,g41]
   refine⟨fun h=>absurd h (by simp),fun _=>?_⟩
   (refine ae pd ?_;simp only[ad,↓Xn,↓Xo,↓Xg,↓Xd,↓Xe,↓Xf,Tryz.VΓ,Tryz.Γs,Xp,Xi,Nat.reduceAdd,Nat.reduceSub,Nat.reduceLT,Nat.reduceLeDiff,reduceIte,reduceCtorEq,Nat.reduceEqDiff,implies_true,forall_const,aa,g2,g3,g4,g5,g40,g41])
   refine⟨fun h1=>(by rw[if_pos (by simpa using h1)];rfl),fun h1=>?_⟩
   rw[if_neg (by simpa using h1)]
   (refine ae (zj d (by omega)) ?_;simp only[ad,↓Xn,↓Xo,↓Xg,↓Xd,↓Xe,↓Xf,Tryz.VΓ,Tryz.Γs,Xp,Xi,Nat.reduceAdd,Nat.reduceSub,Nat.reduceLT,Nat.reduceLeDiff,reduceIte,reduceCtorEq,Nat.reduceEqDiff,implies_true,forall_const,aa,g2,g3,g4,g5,g40,g41])
   refine⟨fun h2=>?_,fun h2=>?_⟩
   ·rw[if_pos (by simpa using h2)];rfl
   ·rw[if_neg (by simpa using h2)]
    (refine ae ph ?_;simp only[ad,↓Xn,↓Xo,↓Xg,↓Xd,↓Xe,↓Xf,Tryz.VΓ,Tryz.Γs,Xp,Xi,Nat.reduceAdd,Nat.reduceSub,Nat.reduceLT,Nat.reduceLeDiff,reduceIte,reduceCtorEq,Nat.reduceEqDiff,implies_true,forall_const,aa,g2,g3,g4,g5,g40,g41])
    refine⟨fun h3=>(by rw[if_pos (by simpa using h3)];rfl),fun h3=>?_⟩
    rw[if_neg (by simpa using h3)]
    (refine ae (wM hh (by omega)) ?_;simp only[ad,↓Xn,↓Xo,↓Xg,↓Xd,↓Xe,↓Xf,Tryz.VΓ,Tryz.Γs,Xp,Xi,Nat.reduceAdd,Nat.reduceSub,Nat.reduceLT,Nat.reduceLeDiff,reduceIte,reduceCtorEq,Nat.reduceEqDiff,implies_true,forall_const,aa,g2,g3,g4,g5,g40,g41])
    refine⟨fun h4=>?_,fun h4=>?_⟩
    ·rw[if_pos (by simpa using h4)];rfl
    ·rw[if_neg (by simpa using h4)];rfl
 ·have h:¬ 4096<s.length:=(by simp at h;omega)
  have h2:s.length<7:=(by simp at h2;omega)
  rw[if_neg h,if_pos (.inl h2)];rfl
theorem pre_set (s:Bytes):pre ([63,35].contains ·) s<s.length↔((63:UInt8)∈s∨(35:UInt8)∈s):=by
 have h:=FN s 63 35
 rw[mf]at h
 by_cases k:pre ([63,35].contains ·) s<s.length
 ·rw[if_pos k]at h
  have:decide ((63:UInt8)∈s∨(35:UInt8)∈s)=true:=by rw[← h];simp
  exact⟨fun _=>of_decide_eq_true this,fun _=>k⟩
 ·rw[if_neg k]at h
  have:decide ((63:UInt8)∈s∨(35:UInt8)∈s)=false:=by rw[← h];rfl
  exact⟨fun h=>absurd h k,fun h=>absurd h (of_decide_eq_false this)⟩
theorem DE (s:Bytes):PC Tryz.V 50 [.str s] (.eS [E2 (bT s).1,.int .i64 (bT s).2]):=by
 have pe:=pG (s.take 7) la (by simp;omega) (by decide)
 rw[show lower la=la by decide]at pe
 refine aQ 3000 Tryz.func50 rfl Tryz.ntmps50 Tryz.results50 Tryz.call50 (by simp) (by simp[flat,flat.ai]) (by simp[flat,flat.ai,E2]) ?_
 simp only[ad,↓Xn,↓Xo,↓Xg,↓Xd,↓Xe,↓Xf,Tryz.VΓ,Tryz.Γs,Xp,Xi,Nat.reduceAdd,Nat.reduceSub,Nat.reduceLT,Nat.reduceLeDiff,reduceIte,reduceCtorEq,Nat.reduceEqDiff,implies_true,forall_const,aa]
 unfold bT
 refine⟨fun h=>?_,fun h=>⟨fun h2=>⟨⟨by omega,(by simp at h2;omega)⟩,?_⟩,fun h2=>?_⟩⟩
 ·have h:4096<s.length:=(by simp at h;omega)
  rw[if_pos h];rfl
 ·have h:¬ 4096<s.length:=(by simp at h;omega)
  have h2:¬ s.length<7:=(by simp at h2;omega)
  rw[if_neg h]
  (refine ae pe ?_;simp only[ad,↓Xn,↓Xo,↓Xg,↓Xd,↓Xe,↓Xf,Tryz.VΓ,Tryz.Γs,Xp,Xi,Nat.reduceAdd,Nat.reduceSub,Nat.reduceLT,Nat.reduceLeDiff,reduceIte,reduceCtorEq,Nat.reduceEqDiff,implies_true,forall_const,aa,Int.reduceToNat])
  refine⟨fun h3=>?_,fun h3=>⟨⟨by omega,by omega⟩,?_⟩⟩
  ·rw[if_pos (.inr (by simpa using h3))];rfl
  have h3:lower (s.take 7)=la:=by simpa using h3
  rw[if_neg (by simp only[not_or];exact⟨h2,by simpa using h3⟩)]
  have hS:(s.drop 7).length≤4096:=by simp;omega
  generalize s.drop 7=S at hS ⊢
  have pi:=bl S [64] (by omega) (by decide)
  rw[show (List.contains [64] ·:UInt8→Bool)=(·==64) from by funext c;simp;exact(Bool.beq_eq_decide_eq _ _).symm]at pi
  have pj:=bl S [63,35] (by omega) (by decide)
  have hq:=pre_set S
  have gd:=cx (·==64) S
  have hpq:=cx ([63,35].contains ·) S
  unfold qC
  (refine ae pi ?_;simp only[ad,↓Xn,↓Xo,↓Xg,↓Xd,↓Xe,↓Xf,Tryz.VΓ,Tryz.Γs,Xp,Xi,Nat.reduceAdd,Nat.reduceSub,Nat.reduceLT,Nat.reduceLeDiff,reduceIte,reduceCtorEq,Nat.reduceEqDiff,implies_true,forall_const,aa])
  refine⟨fun h4=>?_,fun h4=>?_⟩
  ·have h4:pre (·==64) S<S.length:=by
    have:=beq_eq_false_iff_ne.1 h4
    omega
   rw[show aL 64 S=(S.take (pre (·==64) S),S.drop (pre (·==64) S+1),true) from if_pos h4]
   generalize hk:pre (·==64) S=k at *
   simp only[Bool.true_eq_false,false_or]
   (refine ae pj ?_;simp only[ad,↓Xn,↓Xo,↓Xg,↓Xd,↓Xe,↓Xf,Tryz.VΓ,Tryz.Γs,Xp,Xi,Nat.reduceAdd,Nat.reduceSub,Nat.reduceLT,Nat.reduceLeDiff,reduceIte,reduceCtorEq,Nat.reduceEqDiff,implies_true,forall_const,aa])
   refine⟨fun h5=>?_,fun h5=>?_⟩
   ·rw[if_pos (hq.1 (by have:=of_decide_eq_true h5;omega))];rfl
   rw[if_neg (fun h=>absurd (hq.2 h) (by have:=of_decide_eq_false h5;omega))]
   clear hq hpq pj pi pe hk h5
   refine aM (fun σ=>∃ i:Nat,i≤k∧lk 0 σ.t=some (.str S)∧lk 2 σ.t=some (.p 0 0)∧lk 3 σ.t=some (.int .i64 0)∧lk 4 σ.t=some (.int .i64 k)∧lk 5 σ.t=some (.int .i64 i)∧σ.b=[.cells [.str [],.str []] 85 true]∧(S.take i).all iw=true) (fun σ=>k - ja 5 σ) ⟨0,by omega,rfl,rfl,rfl,rfl,rfl,rfl,rfl⟩ ?_
   rintro⟨t,b⟩ ⟨i,hi,g0,g2,g3,g4,g5,rfl,gH⟩
   simp only at g0 g2 g3 g4 g5
   rw[az g5]
   by_cases aB:i<k
   ·have eh:i<S.length:=by omega
    have hg:S.getD i 0=S[i]:=by simp[zMI,eh]
    have rV:iw S[i]=false→(S.take k).all iw=false:=fun h=>by
     have e:(S.take k)[i]'(by simp;omega)=S[i]:=by simp
     exact cW (s:=S.take k) (k:=i) (by simp;omega) (by rw[e];exact h)
    simp only[ad,↓Xn,↓Xo,↓Xg,↓Xd,↓Xe,↓Xf,Tryz.VΓ,Tryz.Γs,Xp,Xi,Nat.reduceAdd,Nat.reduceSub,Nat.reduceLT,Nat.reduceLeDiff,reduceIte,reduceCtorEq,Nat.reduceEqDiff,implies_true,forall_const,aa,g0,g2,g3,g4,g5,hg]
    refine⟨fun _=>⟨⟨by omega,by omega⟩,?_⟩,fun h=>absurd h (by simp;omega)⟩
    (refine ae (dh S[i]) ?_;simp only[ad,↓Xn,↓Xo,↓Xg,↓Xd,↓Xe,↓Xf,Tryz.VΓ,Tryz.Γs,Xp,Xi,Nat.reduceAdd,Nat.reduceSub,Nat.reduceLT,Nat.reduceLeDiff,reduceIte,reduceCtorEq,Nat.reduceEqDiff,implies_true,forall_const,aa,g0,g2,g3,g4,g5,hg])
    refine⟨fun hu=>⟨⟨by omega,by omega⟩,?_⟩,fun hu=>⟨⟨by omega,by omega⟩,⟨i+1,by omega,rfl,aP eh gH (by unfold iw;rw[show eY S[i]=true by simpa using hu];rfl)⟩,by rw[az (k:=.i64) (n:=(i:Int)+1) rfl];omega⟩⟩
    have hu:eY S[i]=false:=by simpa using hu
    (refine ae (kx S[i] fO (by decide)) ?_;simp only[ad,↓Xn,↓Xo,↓Xg,↓Xd,↓Xe,↓Xf,Tryz.VΓ,Tryz.Γs,Xp,Xi,Nat.reduceAdd,Nat.reduceSub,Nat.reduceLT,Nat.reduceLeDiff,reduceIte,reduceCtorEq,Nat.reduceEqDiff,implies_true,forall_const,aa,g0,g2,g3,g4,g5,hg])
    refine⟨fun hk=>?_,fun hk=>⟨⟨by omega,by omega⟩,⟨i+1,by omega,rfl,aP eh gH (by unfold iw;rw[show fO.contains S[i]=true by simpa using hk];simp)⟩,by rw[az (k:=.i64) (n:=(i:Int)+1) rfl];omega⟩⟩
    rw[if_pos (rV (by unfold iw;rw[hu,show fO.contains S[i]=false by simpa using hk];rfl))]
    rfl
   ·have jv:i=k:=by omega
    subst jv
    rw[gH]
    have pd:=fk (S.take i)
    have pQ:=FF (S.take i)
    generalize aj (S.take i)=dd at pd pQ ⊢
    obtain⟨d,e1⟩:=dd
    have ph:=xK (S.drop (i+1)) (by simp;omega)
    have hhl:=yh (S.drop (i+1))
    generalize bB (S.drop (i+1))=hh at ph hhl ⊢
    obtain⟨hh,e2⟩:=hh
    simp only at pd ph pQ hhl
    have pQ:d.length≤4096:=by simp at pQ;omega
    have hhl:hh.length≤4096:=by simp at hhl;omega
    simp only[Bool.true_eq_false,if_false]
    unfold zx
    simp only[ad,↓Xn,↓Xo,↓Xg,↓Xd,↓Xe,↓Xf,Tryz.VΓ,Tryz.Γs,Xp,Xi,Nat.reduceAdd,Nat.reduceSub,Nat.reduceLT,Nat.reduceLeDiff,reduceIte,reduceCtorEq,Nat.reduceEqDiff,implies_true,forall_const,aa,g0,g2,g3,g4,g5]
    refine⟨fun h=>absurd h (by simp),fun _=>⟨⟨by omega,by omega⟩,?_⟩⟩
    (refine ae pd ?_;simp only[ad,↓Xn,↓Xo,↓Xg,↓Xd,↓Xe,↓Xf,Tryz.VΓ,Tryz.Γs,Xp,Xi,Nat.reduceAdd,Nat.reduceSub,Nat.reduceLT,Nat.reduceLeDiff,reduceIte,reduceCtorEq,Nat.reduceEqDiff,implies_true,forall_const,aa,g0,g2,g3,g4,g5])
    refine⟨fun h1=>(by rw[if_pos (by simpa using h1)];rfl),fun h1=>?_⟩
    rw[if_neg (by simpa using h1)]
    (refine ae (DF d) ?_;simp only[ad,↓Xn,↓Xo,↓Xg,↓Xd,↓Xe,↓Xf,Tryz.VΓ,Tryz.Γs,Xp,Xi,Nat.reduceAdd,Nat.reduceSub,Nat.reduceLT,Nat.reduceLeDiff,reduceIte,reduceCtorEq,Nat.reduceEqDiff,implies_true,forall_const,aa,g0,g2,g3,g4,g5])
    refine⟨fun h2=>(by rw[if_pos (by simpa using h2)];rfl),fun h2=>⟨⟨by omega,by omega⟩,⟨by omega,by omega⟩,?_⟩⟩
    rw[if_neg (by simpa using h2)]
    (refine ae ph ?_;simp only[ad,↓Xn,↓Xo,↓Xg,↓Xd,↓Xe,↓Xf,Tryz.VΓ,Tryz.Γs,Xp,Xi,Nat.reduceAdd,Nat.reduceSub,Nat.reduceLT,Nat.reduceLeDiff,reduceIte,reduceCtorEq,Nat.reduceEqDiff,implies_true,forall_const,aa,g0,g2,g3,g4,g5])
    refine⟨fun h3=>(by rw[if_pos (by simpa using h3)];rfl),fun h3=>?_⟩
    rw[if_neg (by simpa using h3)]
    (refine ae (Bg hh (by omega)) ?_;simp only[ad,↓Xn,↓Xo,↓Xg,↓Xd,↓Xe,↓Xf,Tryz.VΓ,Tryz.Γs,Xp,Xi,Nat.reduceAdd,Nat.reduceSub,Nat.reduceLT,Nat.reduceLeDiff,reduceIte,reduceCtorEq,Nat.reduceEqDiff,implies_true,forall_const,aa,g0,g2,g3,g4,g5])
    refine⟨fun h4=>?_,fun h4=>?_⟩
    ·rw[if_pos (by simpa using h4)];rfl
    ·rw[if_neg (by simpa using h4)];rfl
  ·have h4:=beq_iff_eq.1 h4
   rw[fK (by omega)];rfl
 ·have h:¬ 4096<s.length:=(by simp at h;omega)
  have h2:s.length<7:=(by simp at h2;omega)
  rw[if_neg h,if_pos (.inl h2)];rfl
end Go.Proofs.YteipdaijbncgeaaGreatDoor
