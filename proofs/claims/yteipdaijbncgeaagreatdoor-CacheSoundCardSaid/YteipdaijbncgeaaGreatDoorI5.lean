/- Texts of this claim, laid together: RefUri2, RefPct, RefPct2, PctD, MailP, Number, Host, Host2, Own, RefHost, RefHost2, HostPC, RefSplit, MailW, UrlW, DidW, RefUri3, MailV, MailR. -/
import Derived.Lib.QuietBelow
import Derived.Deep.QuietTactic
import Derived.BigQuiet
import Derived.Lib.FrozenHead
import Derived.Test.YteipdaijbncgeaaGreatDoorI4
open List renaming toArray → zLp, length_drop → zLq, getElem?_eq_getElem → zLr, length_cons → zLs, length_nil → zLu, getElem?_append_right → zLv, getElem?_eq_some_iff → zLw, take_of_length_le → zLx, length_take → zLy, getD → zLA, head?_drop → zLC, getElem_mem → zLD, length_append → zLF, take_length → zLG, nil_append → zLH, drop_of_length_le → zLI, all_eq_true → zLJ
open Option renaming some → zLt
open Nat renaming le_refl → zLB
set_option linter.all false
set_option maxHeartbeats 16000000
set_option maxRecDepth 20000
namespace Go.Proofs.YteipdaijbncgeaaGreatDoor
open Go Vc Go.RowKit Wf
theorem je (c:UInt8):PC Tryz.V 93 [.int .u8 c.toNat] (.bool (isAlpha c)):=by
 refine aQ 3000 Tryz.func93 rfl Tryz.ntmps93 Tryz.results93 Tryz.call93 (by simp) (by simp[flat,flat.ai]) (by simp[flat,flat.ai]) ?_
 simp only[ae,↓Xn,↓Xo,↓Xg,↓Xd,↓Xe,↓Xf,Tryz.VΓ,Tryz.Γs,Xp,Xi,Nat.reduceAdd,Nat.reduceSub,Nat.reduceLT,Nat.reduceLeDiff,reduceIte,reduceCtorEq,Nat.reduceEqDiff,implies_true,forall_const,ad]
 unfold isAlpha
 by_cases h1:65≤c.toNat <;> by_cases h2:c.toNat≤90 <;> by_cases h3:97≤c.toNat <;> by_cases h4:c.toNat≤122 <;> simp[h1,h2,h3,h4] <;> omega
theorem gK (c:UInt8):PC Tryz.V 94 [.int .u8 c.toNat] (.bool (isDigit c)):=by
 refine aQ 3000 Tryz.func94 rfl Tryz.ntmps94 Tryz.results94 Tryz.call94 (by simp) (by simp[flat,flat.ai]) (by simp[flat,flat.ai]) ?_
 simp only[ae,↓Xn,↓Xo,↓Xg,↓Xd,↓Xe,↓Xf,Tryz.VΓ,Tryz.Γs,Xp,Xi,Nat.reduceAdd,Nat.reduceSub,Nat.reduceLT,Nat.reduceLeDiff,reduceIte,reduceCtorEq,Nat.reduceEqDiff,implies_true,forall_const,ad]
 unfold isDigit
 by_cases h1:48≤c.toNat <;> by_cases h2:c.toNat≤57 <;> simp[h1,h2] <;> omega
theorem mT {s:Bytes}{k:Nat}(hk:k<s.length)(hr:k=0∨cH (s.take k)=true)(hc:isAlpha s[k]=true∨(0<k∧eY s[k]=true)):k+1=0∨cH (s.take (k+1))=true:=by
 right
 rcases Nat.eq_zero_or_pos k with h0|h0
 ·subst h0
  rcases hc with hc|⟨hc,-⟩
  ·exact oJ hk hc
  ·omega
 ·refine jS h0 hk (hr.resolve_left (by omega)) ?_
  rcases hc with hc|⟨-,hc⟩
  ·simp[eY,hc]
  ·exact hc
theorem pV {b:Bool}(h:(!b)=true):b=false:=by cases b <;> simp at h ⊢
theorem pW {b:Bool}(h:(!b)=false):b=true:=by cases b <;> simp at h ⊢
theorem jX (s:Bytes)(hs:s.length≤4294967281):PC Tryz.V 129 [.str s] (.bool (cH s)):=by
 refine aQ 3000 Tryz.func129 rfl Tryz.ntmps129 Tryz.results129 Tryz.call129 (by simp) (by simp[flat,flat.ai]) (by simp[flat,flat.ai]) ?_
 simp only[ae,↓Xn,↓Xo,↓Xg,↓Xd,↓Xe,↓Xf,Tryz.VΓ,Tryz.Γs,Xp,Xi,Nat.reduceAdd,Nat.reduceSub,Nat.reduceLT,Nat.reduceLeDiff,reduceIte,reduceCtorEq,Nat.reduceEqDiff,implies_true,forall_const,ad]
 refine aL (fun σ=>∃ k:Nat,k≤s.length∧(k=0∨cH (s.take k)=true)∧lk 0 σ.t=some (.str s)∧lk 3 σ.t=some (.int .i64 k)) (fun σ=>s.length - ji 3 σ) ⟨0,by omega,.inl rfl,rfl,rfl⟩ ?_
 rintro⟨t,b⟩ ⟨k,hk,hr,h0,h3⟩
 simp only at h0 h3
 rw[az h3]
 simp only[ae,↓Xn,↓Xo,↓Xg,↓Xd,↓Xe,↓Xf,Tryz.VΓ,Tryz.Γs,Xp,Xi,Nat.reduceAdd,Nat.reduceSub,Nat.reduceLT,Nat.reduceLeDiff,reduceIte,reduceCtorEq,Nat.reduceEqDiff,implies_true,forall_const,ad,h0,h3]
 refine⟨fun h=>⟨by simpa using h,?_⟩,fun h=>?_⟩
 ·have hk':k<s.length:=by simpa using h
  rw[show s.getD k 0=s[k] by simp[zLA,hk']]
  (refine aa (je s[k]) ?_;simp only[ae,↓Xn,↓Xo,↓Xg,↓Xd,↓Xe,↓Xf,Tryz.VΓ,Tryz.Γs,Xp,Xi,Nat.reduceAdd,Nat.reduceSub,Nat.reduceLT,Nat.reduceLeDiff,reduceIte,reduceCtorEq,Nat.reduceEqDiff,implies_true,forall_const,ad,h0,h3])
  refine⟨fun ca=>⟨fun c0=>?_,fun c0=>?_⟩,fun ca=>⟨by omega,⟨k+1,by omega,mT hk' hr (.inl (pW ca)),by simp⟩,by rw[az rfl];omega⟩⟩
  ·rw[show s.getD k 0=s[k] by simp[zLA,hk']]
   refine⟨by omega,?_⟩
   (refine aa (gK s[k]) ?_;simp only[ae,↓Xn,↓Xo,↓Xg,↓Xd,↓Xe,↓Xf,Tryz.VΓ,Tryz.Γs,Xp,Xi,Nat.reduceAdd,Nat.reduceSub,Nat.reduceLT,Nat.reduceLeDiff,reduceIte,reduceCtorEq,Nat.reduceEqDiff,implies_true,forall_const,ad,h0,h3])
   refine⟨fun cd=>⟨by omega,?_⟩,fun cd=>?_⟩
   ·rw[show s.getD k 0=s[k] by simp[zLA,hk']]
    (refine aa (jZ s[k] [43,45,46] (by simp)) ?_;simp only[ae,↓Xn,↓Xo,↓Xg,↓Xd,↓Xe,↓Xf,Tryz.VΓ,Tryz.Γs,Xp,Xi,Nat.reduceAdd,Nat.reduceSub,Nat.reduceLT,Nat.reduceLeDiff,reduceIte,reduceCtorEq,Nat.reduceEqDiff,implies_true,forall_const,ad,h0,h3])
    refine⟨fun ci=>?_,fun ci=>⟨by omega,⟨k+1,by omega,mT hk' hr (.inr ⟨by simp at c0;omega,by unfold eY;rw[pW ci];simp⟩),by simp⟩,by rw[az rfl];omega⟩⟩
    rw[wU (by simp at c0;omega) hk' (by unfold eY;rw[pV ca,pV cd,pV ci];rfl)]
   ·exact⟨by omega,⟨k+1,by omega,mT hk' hr (.inr ⟨by simp at c0;omega,by unfold eY;rw[pW cd];simp⟩),by simp⟩,by rw[az rfl];omega⟩
  ·have sW:k=0:=by simp at c0;omega
   subst sW
   rw[ot hk' (by simpa using ca)]
 ·rcases hr with hr|hr
  ·have:s=[]:=List.eq_nil_of_length_eq_zero (by simp at h;omega)
   subst this;rfl
  ·rw[zLx (by simp at h;omega)]at hr
   rw[hr]
   cases s with
   | nil=>simp[cH]at hr
   | cons=>rfl
theorem ub (c:UInt8):PC Tryz.V 124 [.int .u8 c.toNat] (.bool (bt c)) :=
 ⟨Tryz.call124,by simp[flat,flat.ai],by simp[flat,flat.ai],fun w _=>(Av c w).mono fun _ _ ⟨h,k⟩=>⟨h,cT k⟩⟩
theorem dg (c:UInt8):PC Tryz.V 71 [.int .u8 c.toNat] (.bool (eX c)):=by
 refine aQ 3000 Tryz.func71 rfl Tryz.ntmps71 Tryz.results71 Tryz.call71 (by simp) (by simp[flat,flat.ai]) (by simp[flat,flat.ai]) ?_
 simp only[ae,↓Xn,↓Xo,↓Xg,↓Xd,↓Xe,↓Xf,Tryz.VΓ,Tryz.Γs,Xp,Xi,Nat.reduceAdd,Nat.reduceSub,Nat.reduceLT,Nat.reduceLeDiff,reduceIte,reduceCtorEq,Nat.reduceEqDiff,implies_true,forall_const,ad]
 (refine aa (je c) ?_;simp only[ae,↓Xn,↓Xo,↓Xg,↓Xd,↓Xe,↓Xf,Tryz.VΓ,Tryz.Γs,Xp,Xi,Nat.reduceAdd,Nat.reduceSub,Nat.reduceLT,Nat.reduceLeDiff,reduceIte,reduceCtorEq,Nat.reduceEqDiff,implies_true,forall_const,ad])
 refine⟨fun h=>?_,fun h=>?_⟩
 ·(refine aa (gK c) ?_;simp only[ae,↓Xn,↓Xo,↓Xg,↓Xd,↓Xe,↓Xf,Tryz.VΓ,Tryz.Γs,Xp,Xi,Nat.reduceAdd,Nat.reduceSub,Nat.reduceLT,Nat.reduceLeDiff,reduceIte,reduceCtorEq,Nat.reduceEqDiff,implies_true,forall_const,ad])
  refine⟨fun h2=>?_,fun h2=>?_⟩
  ·(refine aa (jZ c [45,46,95,126] (by simp)) ?_;simp only[ae,↓Xn,↓Xo,↓Xg,↓Xd,↓Xe,↓Xf,Tryz.VΓ,Tryz.Γs,Xp,Xi,Nat.reduceAdd,Nat.reduceSub,Nat.reduceLT,Nat.reduceLeDiff,reduceIte,reduceCtorEq,Nat.reduceEqDiff,implies_true,forall_const,ad])
   unfold eX;rw[h,h2];rfl
  ·unfold eX;rw[h,h2];rfl
 ·unfold eX;rw[h];rfl
theorem ua (c:UInt8)(hc:bt c=true):PC Tryz.V 125 [.int .u8 c.toNat] (.int .u8 (cw c)):=by
 have key:=dy (p:=fun c=>!bt c||(decide ((c.toNat≤57→IntKind.u8.wrap ((c.toNat:Int) - 48)=cw c)∧(57<c.toNat→c.toNat≤70→IntKind.u8.wrap (IntKind.u8.wrap ((c.toNat:Int) - 65)+10)=cw c)∧(70<c.toNat→IntKind.u8.wrap (IntKind.u8.wrap ((c.toNat:Int) - 97)+10)=cw c)))) (by decide +kernel) c
 simp only[hc,Bool.not_true,Bool.false_or,decide_eq_true_eq]at key
 obtain⟨k1,k2,k3⟩:=key
 refine aQ 3000 Tryz.func125 rfl Tryz.ntmps125 Tryz.results125 Tryz.call125 (by simp) (by simp[flat,flat.ai]) (by simp[flat,flat.ai]) ?_
 simp only[ae,↓Xn,↓Xo,↓Xg,↓Xd,↓Xe,↓Xf,Tryz.VΓ,Tryz.Γs,Xp,Xi,Nat.reduceAdd,Nat.reduceSub,Nat.reduceLT,Nat.reduceLeDiff,reduceIte,reduceCtorEq,Nat.reduceEqDiff,implies_true,forall_const,ad]
 refine⟨fun h=>?_,fun h=>⟨fun h2=>?_,fun h2=>?_⟩⟩
 ·rw[k1 (by simp at h;omega)]
 ·rw[k2 (by simp at h;omega) (by simp at h2;omega)]
 ·rw[k3 (by simp at h2;omega)]
theorem zN (a b:UInt8)(ha:bt a=true)(hb:bt b=true):IntKind.u8.wrap (IntKind.u8.wrap (16 * (cw a:Int))+cw b)=((unhex a b).toNat:Int):=by
 have h1:=kX ha
 have h2:=kX hb
 have:∀ x,x<16→∀ y,y<16→IntKind.u8.wrap (IntKind.u8.wrap (16 * ((x:Nat):Int))+(y:Nat))=(((x * 16+y).toUInt8).toNat:Int):=by decide +kernel
 exact this _ (by omega) _ (by omega)
theorem si (s:Bytes)(i:Nat)(hi:i<s.length)(hp:s[i]=37)(hs:s.length≤4294967281):PC Tryz.V 90 [.str s,.int .i64 i] (.eR [.int .u8 (((ja s i).getD 0).toNat:Int),.bool (ja s i).isSome]):=by
 have hg:((s.getD i 0).toNat:Int)=37:=by rw[show s.getD i 0=37 by rw[← hp];simp[zLA,hi]];rfl
 refine aQ 3000 Tryz.func90 rfl Tryz.ntmps90 Tryz.results90 Tryz.call90 (by simp) (by simp[flat,flat.ai]) (by simp[flat,flat.ai]) ?_
 simp (config := { maxSteps := 2000000 }) only[ae,↓Xn,↓Xo,↓Xg,↓Xd,↓Xe,↓Xf,Tryz.VΓ,Tryz.Γs,Xp,Xi,Nat.reduceAdd,Nat.reduceSub,Nat.reduceLT,Nat.reduceLeDiff,reduceIte,reduceCtorEq,Nat.reduceEqDiff,implies_true,forall_const,ad,hg,Int.toNat_natCast,beq_self_eq_true,bne_self_eq_false,Int.reduceBEq,Int.reduceBNe,Int.reduceLT,Int.reduceLE]
 unfold ja
 rw[qt]
 refine⟨⟨by omega,by omega⟩,fun hl=>?_,fun hl=>?_⟩
 ·have hl:i+2<s.length:=(by simp at hl;omega)
  rw[if_pos hl]
  refine⟨⟨by omega,by omega⟩,⟨by omega,by omega⟩,⟨by omega,by omega⟩,?_⟩
  ·skip
   (refine aa (ub _) ?_;simp only[ae,↓Xn,↓Xo,↓Xg,↓Xd,↓Xe,↓Xf,Tryz.VΓ,Tryz.Γs,Xp,Xi,Nat.reduceAdd,Nat.reduceSub,Nat.reduceLT,Nat.reduceLeDiff,reduceIte,reduceCtorEq,Nat.reduceEqDiff,implies_true,forall_const,ad])
   refine⟨fun ha=>⟨⟨by omega,by omega⟩,⟨by omega,by omega⟩,?_⟩,fun ha=>?_⟩
   ·have ha:bt (s.getD (i+1) 0)=true:=by simpa using ha
    (refine aa (ub _) ?_;simp only[ae,↓Xn,↓Xo,↓Xg,↓Xd,↓Xe,↓Xf,Tryz.VΓ,Tryz.Γs,Xp,Xi,Nat.reduceAdd,Nat.reduceSub,Nat.reduceLT,Nat.reduceLeDiff,reduceIte,reduceCtorEq,Nat.reduceEqDiff,implies_true,forall_const,ad])
    refine⟨fun hb=>?_,fun hb=>⟨⟨by omega,by omega⟩,⟨by omega,by omega⟩,?_⟩⟩
    ·have hb:bt (s.getD (i+2) 0)=false:=by simpa using hb
     rw[ha,hb];rfl
    ·have hb:bt (s.getD (i+2) 0)=true:=by simpa using hb
     (refine aR (ua _ ha) ?_;simp only[ae,↓Xn,↓Xo,↓Xg,↓Xd,↓Xe,↓Xf,Tryz.VΓ,Tryz.Γs,Xp,Xi,Nat.reduceAdd,Nat.reduceSub,Nat.reduceLT,Nat.reduceLeDiff,reduceIte,reduceCtorEq,Nat.reduceEqDiff,implies_true,forall_const,ad])
     refine⟨⟨by omega,by omega⟩,⟨by omega,by omega⟩,?_⟩
     (refine aR (ua _ hb) ?_;simp only[ae,↓Xn,↓Xo,↓Xg,↓Xd,↓Xe,↓Xf,Tryz.VΓ,Tryz.Γs,Xp,Xi,Nat.reduceAdd,Nat.reduceSub,Nat.reduceLT,Nat.reduceLeDiff,reduceIte,reduceCtorEq,Nat.reduceEqDiff,implies_true,forall_const,ad])
     refine⟨(aj (by kernel_rfl)),?_⟩
     rw[zN _ _ ha hb,ha,hb];rfl
   ·have ha:bt (s.getD (i+1) 0)=false:=by simpa using ha
    rw[ha];rfl
 ·have hl:¬ i+2<s.length:=(by simp at hl;omega)
  rw[if_neg hl];rfl
theorem jY (c:UInt8):PC Tryz.V 91 [.int .u8 c.toNat] (.str (jQ c)):=by
 have hc:=c.toNat_lt
 have d1:=tC (c.toNat / 16) (by omega)
 have d2:=tC (c.toNat % 16) (by omega)
 have key:=dy (p:=fun c=>decide (rN .quo .u8 (c.toNat:Int) 16=((c.toNat / 16:Nat):Int)∧rN .rem .u8 (c.toNat:Int) 16=((c.toNat % 16:Nat):Int))) (by decide +kernel) c
 obtain⟨s1,s2⟩:=of_decide_eq_true key
 have ec:=xR c
 have e1:([.int .u8 37,.int .u8 ((gY (c.toNat / 16)).toNat:Int),.int .u8 ((gY (c.toNat % 16)).toNat:Int)]:List SV).map vM=jQ c:=by rw[← ec,gD]
 refine aQ 3000 Tryz.func91 rfl Tryz.ntmps91 Tryz.results91 Tryz.call91 (by simp) (by simp[flat,flat.ai]) (by simp[flat,flat.ai]) ?_
 simp only[ae,↓Xn,↓Xo,↓Xg,↓Xd,↓Xe,↓Xf,Tryz.VΓ,Tryz.Γs,Xp,Xi,Nat.reduceAdd,Nat.reduceSub,Nat.reduceLT,Nat.reduceLeDiff,reduceIte,reduceCtorEq,Nat.reduceEqDiff,implies_true,forall_const,ad,s1,s2,Int.toNat_natCast,d1,d2]
 have e2:([.int .u8 37,.int .u8 ((gY (c.toNat / 16)).toNat:Int),.int .u8 ((gY (c.toNat % 16)).toNat:Int)]:List SV).all Dk=true:=by rw[← ec,gN]
 simp only[List.map_cons,List.map_nil]at e1
 simp only[List.all_cons,List.all_nil,Bool.and_true]at e2
 exact⟨by decide,⟨by omega,by omega⟩,by decide,⟨by omega,by omega⟩,by omega,e2,(aj (by kernel_rfl)),by rw[e1]⟩
def RnI (also s:Bytes)(σ:St):Prop:=∃ (i:Nat) (x:SV) (d:Bytes),lk 0 σ.t=some (.str s)∧lk 1 σ.t=some (.str also)∧lk 6 σ.t=some x∧lk 7 σ.t=some (.int .i64 i)∧i≤s.length∧d.length≤3 * i∧Sl 5 1 0 x σ.b (d.map da) d.length∧comb d (bD also (ay (s.drop i)))=bD also (ay s)
theorem sb {also s:Bytes}{t:List (Nat × SV)}{b:List aw}{i i':Nat}{x:SV}{d:Bytes}(h0:lk 0 t=some (.str s))(h1:lk 1 t=some (.str also))(h6:lk 6 t=some x)(h7:lk 7 t=some (.int .i64 i'))(h:i'≤s.length∧d.length≤3 * i')(ht:Sl 5 1 0 x b (d.map da) d.length)
 (hn:comb d (bD also (ay (s.drop i')))=bD also (ay s)) (aC:i<i'):RnI also s ⟨t,b⟩∧NoM s ⟨t,b⟩<s.length - i :=
 ⟨⟨i',x,d,h0,h1,h6,h7,h.1,h.2,ht,hn⟩,by rw[zv h7];omega⟩
theorem gJ (s also:Bytes)(ha:also.length≤1000):PC Tryz.V 69 [.str s,.str also] (.eR [.str (aX also s).1,.int .i64 (aX also s).2]):=by
 refine aQ 3000 Tryz.func69 rfl Tryz.ntmps69 Tryz.results69 Tryz.call69 (by simp) (by simp[flat,flat.ai]) (by simp[flat,flat.ai]) ?_
 simp only[ae,↓Xn,↓Xo,↓Xg,↓Xd,↓Xe,↓Xf,Tryz.VΓ,Tryz.Γs,Xp,Xi,Nat.reduceAdd,Nat.reduceSub,Nat.reduceLT,Nat.reduceLeDiff,reduceIte,reduceCtorEq,Nat.reduceEqDiff,implies_true,forall_const,ad]
 unfold aX
 refine⟨fun hl=>?_,fun hl=>?_⟩
 ·have hl:16384<s.length:=(by simp at hl;omega)
  rw[if_pos hl]
 have hl:s.length≤16384:=(by simp at hl;omega)
 rw[if_neg (by omega)]
 refine aL (RnI also s) (NoM s) ⟨0,.aI,[],rfl,rfl,rfl,rfl,by omega,by simp,.inl ⟨rfl,rfl,rfl⟩,qC _ (xq also _)⟩ ?_
 rintro⟨t,b⟩ ⟨i,x,d,h0,h1,h6,h7,hi,hd,ht,hn⟩
 simp only at h0 h1 h6 h7 ht
 rw[zv h7]
 by_cases aC:i<s.length
 ·have hu:=lB aC
  have hg:s.getD i 0=s[i]:=by simp[zLA,aC]
  simp only[ae,↓Xn,↓Xo,↓Xg,↓Xd,↓Xe,↓Xf,Tryz.VΓ,Tryz.Γs,Xp,Xi,Nat.reduceAdd,Nat.reduceSub,Nat.reduceLT,Nat.reduceLeDiff,reduceIte,reduceCtorEq,Nat.reduceEqDiff,implies_true,forall_const,ad,h0,h1,h6,h7]
  refine⟨fun _=>⟨⟨by omega,by omega⟩,fun hc=>⟨⟨by omega,by omega⟩,?_⟩,fun hc=>?_⟩,fun h=>absurd h (by simp;omega)⟩
  ·have hc:¬ s[i]=37:=by
    intro e
    rw[hg,e]at hc
    simp at hc
   rw[if_neg hc]at hu
   rw[hu,bD]at hn
   rw[hg]
   have tw:dp also s[i]=true→comb (d++[s[i]]) (bD also (ay (s.drop (i+1))))=bD also (ay s):=fun hk=>by
    rw[← hn,if_pos hk,gv]
   (refine aa (dg s[i]) ?_;simp only[ae,↓Xn,↓Xo,↓Xg,↓Xd,↓Xe,↓Xf,Tryz.VΓ,Tryz.Γs,Xp,Xi,Nat.reduceAdd,Nat.reduceSub,Nat.reduceLT,Nat.reduceLeDiff,reduceIte,reduceCtorEq,Nat.reduceEqDiff,implies_true,forall_const,ad,h0,h1,h6,h7,hg])
   refine⟨fun hq=>⟨⟨by omega,by omega⟩,?_⟩,fun hq=>⟨⟨by omega,by omega⟩,?_⟩⟩
   ·have hq:=pV hq
    (refine aa (jZ s[i] also (by omega)) ?_;simp only[ae,↓Xn,↓Xo,↓Xg,↓Xd,↓Xe,↓Xf,Tryz.VΓ,Tryz.Γs,Xp,Xi,Nat.reduceAdd,Nat.reduceSub,Nat.reduceLT,Nat.reduceLeDiff,reduceIte,reduceCtorEq,Nat.reduceEqDiff,implies_true,forall_const,ad,h0,h1,h6,h7,hg])
    refine⟨fun rA=>?_,fun rA=>⟨⟨by omega,by omega⟩,?_⟩⟩
    ·have rA:=pV rA
     have hk:¬ dp also s[i]=true:=by unfold dp;rw[hq,rA];simp
     rw[if_neg hk]at hn
     have kB:bD also (ay s)=([],1):=by rw[← hn];rfl
     rw[kB]
    ·have rA:=pW rA
     have hk:dp also s[i]=true:=by unfold dp;rw[rA];simp
     (rcases ht with⟨rfl,fG,xJ⟩|⟨j,rfl,lA,hj⟩
      ·obtain rfl:d=[]:=by simpa using fG
       simp only[ae,↓Xn,↓Xo,↓Xg,↓Xd,↓Xe,↓Xf,Tryz.VΓ,Tryz.Γs,Xp,Xi,Nat.reduceAdd,Nat.reduceSub,Nat.reduceLT,Nat.reduceLeDiff,reduceIte,reduceCtorEq,Nat.reduceEqDiff,implies_true,forall_const,ad,h0,h1,h6,h7,hg,aW]
       refine⟨by omega,⟨by unfold maxLen;omega,by omega⟩,⟨by omega,by omega⟩,sb (i':=i+1) (x:=.o (b++[aw.own [da (s[i])] 5 1 1 true]).length 1) (d:=[]++[s[i]]) h0 h1 rfl (by simp only[lk,reduceIte,zLt.injEq,SV.int.injEq,true_and];omega) ⟨by omega,by simp;omega⟩ (.inr ⟨_,rfl,by omega,aW _ _⟩) (tw hk) (by omega)⟩
      ·have mG:j<b.length:=(zLw.1 hj).1
       have ho:∀ X,(b++[X])[j]? = some (.own (d.map da) 5 1 d.length true):=fun X=>af hj [X]
       simp only[ae,↓Xn,↓Xo,↓Xg,↓Xd,↓Xe,↓Xf,Tryz.VΓ,Tryz.Γs,Xp,Xi,Nat.reduceAdd,Nat.reduceSub,Nat.reduceLT,Nat.reduceLeDiff,reduceIte,reduceCtorEq,Nat.reduceEqDiff,implies_true,forall_const,ad,h0,h1,h6,h7,hg,aW,ho]
       refine⟨by omega,⟨by unfold maxLen;omega,by omega⟩,⟨by omega,by omega⟩,sb (i':=i+1) (x:=.o (b++[aw.own [da (s[i])] 5 1 1 true]).length (d.length+1)) (d:=d++[s[i]]) h0 h1 rfl (by simp only[lk,reduceIte,zLt.injEq,SV.int.injEq,true_and];omega) ⟨by omega,by simp;omega⟩ (.inr ⟨(b++[aw.own [da (s[i])] 5 1 1 true]).length,by simp,by omega,by rw[zLv (by simp)];simp[da]⟩) (tw hk) (by omega)⟩)
   ·have hq:=pW hq
    have hk:dp also s[i]=true:=by unfold dp;rw[hq];simp
    (rcases ht with⟨rfl,fG,xJ⟩|⟨j,rfl,lA,hj⟩
     ·obtain rfl:d=[]:=by simpa using fG
      simp only[ae,↓Xn,↓Xo,↓Xg,↓Xd,↓Xe,↓Xf,Tryz.VΓ,Tryz.Γs,Xp,Xi,Nat.reduceAdd,Nat.reduceSub,Nat.reduceLT,Nat.reduceLeDiff,reduceIte,reduceCtorEq,Nat.reduceEqDiff,implies_true,forall_const,ad,h0,h1,h6,h7,hg,aW]
      refine⟨by omega,⟨by unfold maxLen;omega,by omega⟩,⟨by omega,by omega⟩,sb (i':=i+1) (x:=.o (b++[aw.own [da (s[i])] 5 1 1 true]).length 1) (d:=[]++[s[i]]) h0 h1 rfl (by simp only[lk,reduceIte,zLt.injEq,SV.int.injEq,true_and];omega) ⟨by omega,by simp;omega⟩ (.inr ⟨_,rfl,by omega,aW _ _⟩) (tw hk) (by omega)⟩
     ·have mG:j<b.length:=(zLw.1 hj).1
      have ho:∀ X,(b++[X])[j]? = some (.own (d.map da) 5 1 d.length true):=fun X=>af hj [X]
      simp only[ae,↓Xn,↓Xo,↓Xg,↓Xd,↓Xe,↓Xf,Tryz.VΓ,Tryz.Γs,Xp,Xi,Nat.reduceAdd,Nat.reduceSub,Nat.reduceLT,Nat.reduceLeDiff,reduceIte,reduceCtorEq,Nat.reduceEqDiff,implies_true,forall_const,ad,h0,h1,h6,h7,hg,aW,ho]
      refine⟨by omega,⟨by unfold maxLen;omega,by omega⟩,⟨by omega,by omega⟩,sb (i':=i+1) (x:=.o (b++[aw.own [da (s[i])] 5 1 1 true]).length (d.length+1)) (d:=d++[s[i]]) h0 h1 rfl (by simp only[lk,reduceIte,zLt.injEq,SV.int.injEq,true_and];omega) ⟨by omega,by simp;omega⟩ (.inr ⟨(b++[aw.own [da (s[i])] 5 1 1 true]).length,by simp,by omega,by rw[zLv (by simp)];simp[da]⟩) (tw hk) (by omega)⟩)
  ·have hc:s[i]=37:=by
    have:s.getD i 0=37:=by
     rw[← UInt8.toNat_inj]
     have e37:(37:UInt8).toNat=37:=rfl
     have h2:=bne_eq_false_iff_eq.1 hc
     omega
    rw[← hg];exact this
   rw[if_pos hc]at hu
   have pe:=si s i aC hc (by omega)
   cases he:ja s i with
   | none =>
     rw[he]at pe hu
     simp only at hu
     rw[hu]at hn
     have kB:bD also (ay s)=([],2):=by rw[← hn];rfl
     rw[kB]
     (refine aa pe ?_;simp only[ae,↓Xn,↓Xo,↓Xg,↓Xd,↓Xe,↓Xf,Tryz.VΓ,Tryz.Γs,Xp,Xi,Nat.reduceAdd,Nat.reduceSub,Nat.reduceLT,Nat.reduceLeDiff,reduceIte,reduceCtorEq,Nat.reduceEqDiff,implies_true,forall_const,ad,h0,h1,h6,h7,Option.isSome_none])
   | some v =>
     rw[he]at pe hu
     have hx:=he
     unfold ja at hx
     obtain⟨⟨a,bb,r⟩,hp,hv⟩:=Option.map_eq_some_iff.1 hx
     simp only at hv
     rw[hp]at hu
     simp only at hu
     have hi3:i+3≤s.length:=by
      obtain⟨h1,-,-⟩:=cS hp
      have:=congrArg List.length h1
      simp at this
      omega
     have tw:comb (d++kM v) (bD also (ay (s.drop (i+2+1))))=bD also (ay s):=by
      rw[← hn,hu,bD,gv,hv]
     simp only[Option.getD_some,Option.isSome_some]at pe
     (refine aa pe ?_;simp only[ae,↓Xn,↓Xo,↓Xg,↓Xd,↓Xe,↓Xf,Tryz.VΓ,Tryz.Γs,Xp,Xi,Nat.reduceAdd,Nat.reduceSub,Nat.reduceLT,Nat.reduceLeDiff,reduceIte,reduceCtorEq,Nat.reduceEqDiff,implies_true,forall_const,ad,h0,h1,h6,h7])
     (refine aa (dg v) ?_;simp only[ae,↓Xn,↓Xo,↓Xg,↓Xd,↓Xe,↓Xf,Tryz.VΓ,Tryz.Γs,Xp,Xi,Nat.reduceAdd,Nat.reduceSub,Nat.reduceLT,Nat.reduceLeDiff,reduceIte,reduceCtorEq,Nat.reduceEqDiff,implies_true,forall_const,ad,h0,h1,h6,h7])
     refine⟨fun hq=>?_,fun hq=>?_⟩
     ·have FL:comb (d++[v]) (bD also (ay (s.drop (i+2+1))))=bD also (ay s):=by
       rw[← tw];unfold kM;rw[if_pos hq]
      (rcases ht with⟨rfl,fG,xJ⟩|⟨j,rfl,lA,hj⟩
       ·obtain rfl:d=[]:=by simpa using fG
        simp only[ae,↓Xn,↓Xo,↓Xg,↓Xd,↓Xe,↓Xf,Tryz.VΓ,Tryz.Γs,Xp,Xi,Nat.reduceAdd,Nat.reduceSub,Nat.reduceLT,Nat.reduceLeDiff,reduceIte,reduceCtorEq,Nat.reduceEqDiff,implies_true,forall_const,ad,h0,h1,h6,h7,hg,aW]
        refine⟨by omega,⟨by unfold maxLen;omega,by omega⟩,⟨by omega,by omega⟩,⟨by omega,by omega⟩,sb (i':=i+2+1) (x:=.o (b++[aw.own [da (v)] 5 1 1 true]).length 1) (d:=[]++[v]) h0 h1 rfl (by simp only[lk,reduceIte,zLt.injEq,SV.int.injEq,true_and];omega) ⟨by omega,by simp;omega⟩ (.inr ⟨_,rfl,by omega,aW _ _⟩) (FL) (by omega)⟩
       ·have mG:j<b.length:=(zLw.1 hj).1
        have ho:∀ X,(b++[X])[j]? = some (.own (d.map da) 5 1 d.length true):=fun X=>af hj [X]
        simp only[ae,↓Xn,↓Xo,↓Xg,↓Xd,↓Xe,↓Xf,Tryz.VΓ,Tryz.Γs,Xp,Xi,Nat.reduceAdd,Nat.reduceSub,Nat.reduceLT,Nat.reduceLeDiff,reduceIte,reduceCtorEq,Nat.reduceEqDiff,implies_true,forall_const,ad,h0,h1,h6,h7,hg,aW,ho]
        refine⟨by omega,⟨by unfold maxLen;omega,by omega⟩,⟨by omega,by omega⟩,⟨by omega,by omega⟩,sb (i':=i+2+1) (x:=.o (b++[aw.own [da (v)] 5 1 1 true]).length (d.length+1)) (d:=d++[v]) h0 h1 rfl (by simp only[lk,reduceIte,zLt.injEq,SV.int.injEq,true_and];omega) ⟨by omega,by simp;omega⟩ (.inr ⟨(b++[aw.own [da (v)] 5 1 1 true]).length,by simp,by omega,by rw[zLv (by simp)];simp[da]⟩) (FL) (by omega)⟩)
     ·have FL:comb (d++jQ v) (bD also (ay (s.drop (i+2+1))))=bD also (ay s):=by
       rw[← tw];unfold kM;rw[if_neg (by simp[hq])]
      (refine aa (jY v) ?_;simp only[ae,↓Xn,↓Xo,↓Xg,↓Xd,↓Xe,↓Xf,Tryz.VΓ,Tryz.Γs,Xp,Xi,Nat.reduceAdd,Nat.reduceSub,Nat.reduceLT,Nat.reduceLeDiff,reduceIte,reduceCtorEq,Nat.reduceEqDiff,implies_true,forall_const,ad,h0,h1,h6,h7])
      rcases ht with⟨rfl,fG,xJ⟩|⟨j,rfl,lA,hj⟩
      ·obtain rfl:d=[]:=by simpa using fG
       simp only[ae,↓Xn,↓Xo,↓Xg,↓Xd,↓Xe,↓Xf,Tryz.VΓ,Tryz.Γs,Xp,Xi,Nat.reduceAdd,Nat.reduceSub,Nat.reduceLT,Nat.reduceLeDiff,reduceIte,reduceCtorEq,Nat.reduceEqDiff,implies_true,forall_const,ad,h0,h1,h6,h7]
       exact⟨⟨um _,by simp[jQ];unfold maxLen;omega,by simp[jQ]⟩,⟨by omega,by omega⟩,⟨by omega,by omega⟩,sb (i':=i+2+1) (d:=[]++jQ v) h0 h1 rfl (by simp only[lk,reduceIte,zLt.injEq,SV.int.injEq,true_and];omega) ⟨by omega,by simp[jQ];omega⟩ (.inr ⟨b.length,rfl,by omega,aW _ _⟩) FL (by omega)⟩
      ·simp only[ae,↓Xn,↓Xo,↓Xg,↓Xd,↓Xe,↓Xf,Tryz.VΓ,Tryz.Γs,Xp,Xi,Nat.reduceAdd,Nat.reduceSub,Nat.reduceLT,Nat.reduceLeDiff,reduceIte,reduceCtorEq,Nat.reduceEqDiff,implies_true,forall_const,ad,h0,h1,h6,h7,hj]
       exact⟨⟨um _,by simp[jQ];unfold maxLen;omega,by simp[jQ];omega⟩,⟨by omega,by omega⟩,⟨by omega,by omega⟩,sb (i':=i+2+1) (d:=d++jQ v) h0 h1 rfl (by simp only[lk,reduceIte,zLt.injEq,SV.int.injEq,true_and];omega) ⟨by omega,by simp[jQ];omega⟩ (.inr ⟨b.length,by simp,by omega,by rw[zLv (by simp)];simp⟩) FL (by omega)⟩
 ·have jk:i=s.length:=by omega
  subst jk
  rw[List.drop_length,dU]at hn
  have kB:bD also (ay s)=(d,0):=by rw[← hn];simp[bD,comb]
  rw[kB]
  rcases ht with⟨rfl,fG,xJ⟩|⟨j,rfl,lA,hj⟩
  ·obtain rfl:d=[]:=by simpa using fG
   simp only[ae,↓Xn,↓Xo,↓Xg,↓Xd,↓Xe,↓Xf,Tryz.VΓ,Tryz.Γs,Xp,Xi,Nat.reduceAdd,Nat.reduceSub,Nat.reduceLT,Nat.reduceLeDiff,reduceIte,reduceCtorEq,Nat.reduceEqDiff,implies_true,forall_const,ad,h0,h1,h6,h7]
   exact fun h=>absurd h (by simp)
  ·simp only[ae,↓Xn,↓Xo,↓Xg,↓Xd,↓Xe,↓Xf,Tryz.VΓ,Tryz.Γs,Xp,Xi,Nat.reduceAdd,Nat.reduceSub,Nat.reduceLT,Nat.reduceLeDiff,reduceIte,reduceCtorEq,Nat.reduceEqDiff,implies_true,forall_const,ad,h0,h1,h6,h7,hj]
   refine⟨fun h=>absurd h (by simp),fun _=>⟨gN d,?_⟩⟩
   rw[gD]
def dO:List PU→Bytes × Int
 | []=>([],0)
 | .bad::_=>([],2)
 | .lit c::r=>comb [c] (dO r)
 | .hex a b::r=>comb [unhex a b] (dO r)
theorem nH:∀ l:List PU,dO l=if PU.bad∈l then([],2) else(l.map PU.val,0)
 | []=>rfl
 | .bad::r=>by simp[dO]
 | .lit c::r=>by
   rw[dO,nH r]
   by_cases h:PU.bad∈r
   ·simp[h,comb]
   ·simp[h,comb,PU.val]
 | .hex a b::r=>by
   rw[dO,nH r]
   by_cases h:PU.bad∈r
   ·simp[h,comb]
   ·simp[h,comb,PU.val]
theorem xT (l:List PU):(dO l).2≠0→(dO l).1=[]:=by
 rw[nH]
 split
 ·intro _;rfl
 ·intro h;exact absurd rfl h
def DcI (s:Bytes)(σ:St):Prop:=∃ (i:Nat) (x:SV) (d:Bytes),lk 0 σ.t=some (.str s)∧lk 4 σ.t=some x∧lk 5 σ.t=some (.int .i64 i)∧i≤s.length∧d.length≤i∧Sl 5 1 0 x σ.b (d.map da) d.length∧comb d (dO (ay (s.drop i)))=dO (ay s)
def DcM (s:Bytes)(σ:St):Nat:=match lk 5 σ.t with
 | some (.int _ k)=>s.length - k.toNat
 | _=>0
theorem DS {s:Bytes}{σ:St}{k:Nat}(h:lk 5 σ.t=some (.int .i64 k)):DcM s σ=s.length - k:=by simp[DcM,h]
theorem sH {s:Bytes}{t:List (Nat × SV)}{b:List aw}{i i':Nat}{x:SV}{d:Bytes}(h0:lk 0 t=some (.str s))(h4:lk 4 t=some x)(h5:lk 5 t=some (.int .i64 i'))(h:i'≤s.length∧d.length≤i')(ht:Sl 5 1 0 x b (d.map da) d.length)
 (hn:comb d (dO (ay (s.drop i')))=dO (ay s)) (aC:i<i'):DcI s ⟨t,b⟩∧DcM s ⟨t,b⟩<s.length - i :=
 ⟨⟨i',x,d,h0,h4,h5,h.1,h.2,ht,hn⟩,by rw[DS h5];omega⟩
theorem nh (s:Bytes):PC Tryz.V 145 [.str s] (.eR [.str (ak s).1,.int .i64 (ak s).2]):=by
 have hpd:ak s=if 16384<s.length then([],5) else dO (ay s):=by unfold ak;rw[nH]
 rw[hpd]
 refine aQ 3000 Tryz.func145 rfl Tryz.ntmps145 Tryz.results145 Tryz.call145 (by simp) (by simp[flat,flat.ai]) (by simp[flat,flat.ai]) ?_
 simp only[ae,↓Xn,↓Xo,↓Xg,↓Xd,↓Xe,↓Xf,Tryz.VΓ,Tryz.Γs,Xp,Xi,Nat.reduceAdd,Nat.reduceSub,Nat.reduceLT,Nat.reduceLeDiff,reduceIte,reduceCtorEq,Nat.reduceEqDiff,implies_true,forall_const,ad]
 refine⟨fun hl=>?_,fun hl=>?_⟩
 ·have hl:16384<s.length:=(by simp at hl;omega)
  rw[if_pos hl]
 have hl:s.length≤16384:=(by simp at hl;omega)
 rw[if_neg (by omega)]
 refine aL (DcI s) (DcM s) ⟨0,.aI,[],rfl,rfl,rfl,by omega,by simp,.inl ⟨rfl,rfl,rfl⟩,qC _ (xT _)⟩ ?_
 rintro⟨t,b⟩ ⟨i,x,d,h0,h4,h5,hi,hd,ht,hn⟩
 simp only at h0 h4 h5 ht
 rw[DS h5]
 by_cases aC:i<s.length
 ·have hu:=lB aC
  have hg:s.getD i 0=s[i]:=by simp[zLA,aC]
  simp only[ae,↓Xn,↓Xo,↓Xg,↓Xd,↓Xe,↓Xf,Tryz.VΓ,Tryz.Γs,Xp,Xi,Nat.reduceAdd,Nat.reduceSub,Nat.reduceLT,Nat.reduceLeDiff,reduceIte,reduceCtorEq,Nat.reduceEqDiff,implies_true,forall_const,ad,h0,h4,h5]
  refine⟨fun _=>⟨⟨by omega,by omega⟩,fun hc=>?_,fun hc=>?_⟩,fun h=>absurd h (by simp;omega)⟩
  ·have hc:s[i]=37:=by
    rw[cE (n:=37) aC 37 rfl]at hc
    simpa using hc
   rw[if_pos hc]at hu
   have pe:=xk s i aC (by omega)
   cases he:ja s i with
   | none =>
     rw[he]at pe hu
     simp only at hu
     rw[hu]at hn
     have kB:dO (ay s)=([],2):=by rw[← hn];rfl
     rw[kB]
     (refine aa pe ?_;simp only[ae,↓Xn,↓Xo,↓Xg,↓Xd,↓Xe,↓Xf,Tryz.VΓ,Tryz.Γs,Xp,Xi,Nat.reduceAdd,Nat.reduceSub,Nat.reduceLT,Nat.reduceLeDiff,reduceIte,reduceCtorEq,Nat.reduceEqDiff,implies_true,forall_const,ad,h0,h4,h5,Option.isSome_none])
   | some v =>
     rw[he]at pe hu
     have hx:=he
     unfold ja at hx
     obtain⟨⟨a,bb,r⟩,hp,hv⟩:=Option.map_eq_some_iff.1 hx
     simp only at hv
     rw[hp]at hu
     simp only at hu
     have hi3:i+3≤s.length:=by
      obtain⟨h1,-,-⟩:=cS hp
      have:=congrArg List.length h1
      simp at this
      omega
     have tw:comb (d++[v]) (dO (ay (s.drop (i+2+1))))=dO (ay s):=by
      rw[← hn,hu,dO,gv,hv]
     simp only[Option.getD_some,Option.isSome_some]at pe
     (refine aa pe ?_;simp only[ae,↓Xn,↓Xo,↓Xg,↓Xd,↓Xe,↓Xf,Tryz.VΓ,Tryz.Γs,Xp,Xi,Nat.reduceAdd,Nat.reduceSub,Nat.reduceLT,Nat.reduceLeDiff,reduceIte,reduceCtorEq,Nat.reduceEqDiff,implies_true,forall_const,ad,h0,h4,h5])
     (rcases ht with⟨rfl,fG,xJ⟩|⟨j,rfl,lA,hj⟩
      ·obtain rfl:d=[]:=by simpa using fG
       simp only[ae,↓Xn,↓Xo,↓Xg,↓Xd,↓Xe,↓Xf,Tryz.VΓ,Tryz.Γs,Xp,Xi,Nat.reduceAdd,Nat.reduceSub,Nat.reduceLT,Nat.reduceLeDiff,reduceIte,reduceCtorEq,Nat.reduceEqDiff,implies_true,forall_const,ad,h0,h4,h5,hg,aW]
       refine⟨⟨by omega,by omega⟩,by omega,⟨by unfold maxLen;omega,by omega⟩,⟨by omega,by omega⟩,sH (i':=i+2+1) (x:=.o (b++[aw.own [da (v)] 5 1 1 true]).length 1) (d:=[]++[v]) h0 rfl (by simp only[lk,reduceIte,zLt.injEq,SV.int.injEq,true_and];omega) ⟨by omega,by simp only[zLH,zLs,zLu];omega⟩ (.inr ⟨_,rfl,by omega,aW _ _⟩) (tw) (by omega)⟩
      ·have mG:j<b.length:=(zLw.1 hj).1
       have ho:∀ X,(b++[X])[j]? = some (.own (d.map da) 5 1 d.length true):=fun X=>af hj [X]
       simp only[ae,↓Xn,↓Xo,↓Xg,↓Xd,↓Xe,↓Xf,Tryz.VΓ,Tryz.Γs,Xp,Xi,Nat.reduceAdd,Nat.reduceSub,Nat.reduceLT,Nat.reduceLeDiff,reduceIte,reduceCtorEq,Nat.reduceEqDiff,implies_true,forall_const,ad,h0,h4,h5,hg,aW,ho]
       refine⟨⟨by omega,by omega⟩,by omega,⟨by unfold maxLen;omega,by omega⟩,⟨by omega,by omega⟩,sH (i':=i+2+1) (x:=.o (b++[aw.own [da (v)] 5 1 1 true]).length (d.length+1)) (d:=d++[v]) h0 rfl (by simp only[lk,reduceIte,zLt.injEq,SV.int.injEq,true_and];omega) ⟨by omega,by simp;omega⟩ (.inr ⟨(b++[aw.own [da (v)] 5 1 1 true]).length,by simp,by omega,by rw[zLv (by simp)];simp[da]⟩) (tw) (by omega)⟩)
  ·have hc:¬ s[i]=37:=by
    rw[cE (n:=37) aC 37 rfl]at hc
    simpa using hc
   rw[if_neg hc]at hu
   rw[hu,dO,gv]at hn
   rw[hg]
   (rcases ht with⟨rfl,fG,xJ⟩|⟨j,rfl,lA,hj⟩
    ·obtain rfl:d=[]:=by simpa using fG
     simp only[ae,↓Xn,↓Xo,↓Xg,↓Xd,↓Xe,↓Xf,Tryz.VΓ,Tryz.Γs,Xp,Xi,Nat.reduceAdd,Nat.reduceSub,Nat.reduceLT,Nat.reduceLeDiff,reduceIte,reduceCtorEq,Nat.reduceEqDiff,implies_true,forall_const,ad,h0,h4,h5,hg,aW]
     refine⟨ by omega,⟨by unfold maxLen;omega,by omega⟩,⟨by omega,by omega⟩,sH (i':=i+1) (x:=.o (b++[aw.own [da (s[i])] 5 1 1 true]).length 1) (d:=[]++[s[i]]) h0 rfl (by simp only[lk,reduceIte,zLt.injEq,SV.int.injEq,true_and];omega) ⟨by omega,by simp only[zLH,zLs,zLu];omega⟩ (.inr ⟨_,rfl,by omega,aW _ _⟩) (hn) (by omega)⟩
    ·have mG:j<b.length:=(zLw.1 hj).1
     have ho:∀ X,(b++[X])[j]? = some (.own (d.map da) 5 1 d.length true):=fun X=>af hj [X]
     simp only[ae,↓Xn,↓Xo,↓Xg,↓Xd,↓Xe,↓Xf,Tryz.VΓ,Tryz.Γs,Xp,Xi,Nat.reduceAdd,Nat.reduceSub,Nat.reduceLT,Nat.reduceLeDiff,reduceIte,reduceCtorEq,Nat.reduceEqDiff,implies_true,forall_const,ad,h0,h4,h5,hg,aW,ho]
     refine⟨ by omega,⟨by unfold maxLen;omega,by omega⟩,⟨by omega,by omega⟩,sH (i':=i+1) (x:=.o (b++[aw.own [da (s[i])] 5 1 1 true]).length (d.length+1)) (d:=d++[s[i]]) h0 rfl (by simp only[lk,reduceIte,zLt.injEq,SV.int.injEq,true_and];omega) ⟨by omega,by simp;omega⟩ (.inr ⟨(b++[aw.own [da (s[i])] 5 1 1 true]).length,by simp,by omega,by rw[zLv (by simp)];simp[da]⟩) (hn) (by omega)⟩)
 ·have jk:i=s.length:=by omega
  subst jk
  rw[List.drop_length,dU]at hn
  have kB:dO (ay s)=(d,0):=by rw[← hn];simp[dO,comb]
  rw[kB]
  rcases ht with⟨rfl,fG,xJ⟩|⟨j,rfl,lA,hj⟩
  ·obtain rfl:d=[]:=by simpa using fG
   simp only[ae,↓Xn,↓Xo,↓Xg,↓Xd,↓Xe,↓Xf,Tryz.VΓ,Tryz.Γs,Xp,Xi,Nat.reduceAdd,Nat.reduceSub,Nat.reduceLT,Nat.reduceLeDiff,reduceIte,reduceCtorEq,Nat.reduceEqDiff,implies_true,forall_const,ad,h0,h4,h5]
   exact fun h=>absurd h (by simp)
  ·simp only[ae,↓Xn,↓Xo,↓Xg,↓Xd,↓Xe,↓Xf,Tryz.VΓ,Tryz.Γs,Xp,Xi,Nat.reduceAdd,Nat.reduceSub,Nat.reduceLT,Nat.reduceLeDiff,reduceIte,reduceCtorEq,Nat.reduceEqDiff,implies_true,forall_const,ad,h0,h4,h5,hj]
   refine⟨fun h=>absurd h (by simp),fun _=>⟨gN d,?_⟩⟩
   rw[gD]
theorem fh (s:Bytes):PC Tryz.V 72 [.str s] (.eR [.str (ak s).1,.int .i64 (ak s).2]):=by
 have hpd:ak s=if 16384<s.length then([],5) else dO (ay s):=by unfold ak;rw[nH]
 rw[hpd]
 refine aQ 3000 Tryz.func72 rfl Tryz.ntmps72 Tryz.results72 Tryz.call72 (by simp) (by simp[flat,flat.ai]) (by simp[flat,flat.ai]) ?_
 simp only[ae,↓Xn,↓Xo,↓Xg,↓Xd,↓Xe,↓Xf,Tryz.VΓ,Tryz.Γs,Xp,Xi,Nat.reduceAdd,Nat.reduceSub,Nat.reduceLT,Nat.reduceLeDiff,reduceIte,reduceCtorEq,Nat.reduceEqDiff,implies_true,forall_const,ad]
 refine⟨fun hl=>?_,fun hl=>?_⟩
 ·have hl:16384<s.length:=(by simp at hl;omega)
  rw[if_pos hl]
 have hl:s.length≤16384:=(by simp at hl;omega)
 rw[if_neg (by omega)]
 refine aL (DcI s) (DcM s) ⟨0,.aI,[],rfl,rfl,rfl,by omega,by simp,.inl ⟨rfl,rfl,rfl⟩,qC _ (xT _)⟩ ?_
 rintro⟨t,b⟩ ⟨i,x,d,h0,h4,h5,hi,hd,ht,hn⟩
 simp only at h0 h4 h5 ht
 rw[DS h5]
 by_cases aC:i<s.length
 ·have hu:=lB aC
  have hg:s.getD i 0=s[i]:=by simp[zLA,aC]
  simp only[ae,↓Xn,↓Xo,↓Xg,↓Xd,↓Xe,↓Xf,Tryz.VΓ,Tryz.Γs,Xp,Xi,Nat.reduceAdd,Nat.reduceSub,Nat.reduceLT,Nat.reduceLeDiff,reduceIte,reduceCtorEq,Nat.reduceEqDiff,implies_true,forall_const,ad,h0,h4,h5]
  refine⟨fun _=>⟨⟨by omega,by omega⟩,fun hc=>?_,fun hc=>?_⟩,fun h=>absurd h (by simp;omega)⟩
  ·have hc:s[i]=37:=by
    rw[cE (n:=37) aC 37 rfl]at hc
    simpa using hc
   rw[if_pos hc]at hu
   have pe:=si s i aC hc (by omega)
   cases he:ja s i with
   | none =>
     rw[he]at pe hu
     simp only at hu
     rw[hu]at hn
     have kB:dO (ay s)=([],2):=by rw[← hn];rfl
     rw[kB]
     (refine aa pe ?_;simp only[ae,↓Xn,↓Xo,↓Xg,↓Xd,↓Xe,↓Xf,Tryz.VΓ,Tryz.Γs,Xp,Xi,Nat.reduceAdd,Nat.reduceSub,Nat.reduceLT,Nat.reduceLeDiff,reduceIte,reduceCtorEq,Nat.reduceEqDiff,implies_true,forall_const,ad,h0,h4,h5,Option.isSome_none])
   | some v =>
     rw[he]at pe hu
     have hx:=he
     unfold ja at hx
     obtain⟨⟨a,bb,r⟩,hp,hv⟩:=Option.map_eq_some_iff.1 hx
     simp only at hv
     rw[hp]at hu
     simp only at hu
     have hi3:i+3≤s.length:=by
      obtain⟨h1,-,-⟩:=cS hp
      have:=congrArg List.length h1
      simp at this
      omega
     have tw:comb (d++[v]) (dO (ay (s.drop (i+2+1))))=dO (ay s):=by
      rw[← hn,hu,dO,gv,hv]
     simp only[Option.getD_some,Option.isSome_some]at pe
     (refine aa pe ?_;simp only[ae,↓Xn,↓Xo,↓Xg,↓Xd,↓Xe,↓Xf,Tryz.VΓ,Tryz.Γs,Xp,Xi,Nat.reduceAdd,Nat.reduceSub,Nat.reduceLT,Nat.reduceLeDiff,reduceIte,reduceCtorEq,Nat.reduceEqDiff,implies_true,forall_const,ad,h0,h4,h5])
     (rcases ht with⟨rfl,fG,xJ⟩|⟨j,rfl,lA,hj⟩
      ·obtain rfl:d=[]:=by simpa using fG
       simp only[ae,↓Xn,↓Xo,↓Xg,↓Xd,↓Xe,↓Xf,Tryz.VΓ,Tryz.Γs,Xp,Xi,Nat.reduceAdd,Nat.reduceSub,Nat.reduceLT,Nat.reduceLeDiff,reduceIte,reduceCtorEq,Nat.reduceEqDiff,implies_true,forall_const,ad,h0,h4,h5,hg,aW]
       refine⟨⟨by omega,by omega⟩,by omega,⟨by unfold maxLen;omega,by omega⟩,⟨by omega,by omega⟩,sH (i':=i+2+1) (x:=.o (b++[aw.own [da (v)] 5 1 1 true]).length 1) (d:=[]++[v]) h0 rfl (by simp only[lk,reduceIte,zLt.injEq,SV.int.injEq,true_and];omega) ⟨by omega,by simp only[zLH,zLs,zLu];omega⟩ (.inr ⟨_,rfl,by omega,aW _ _⟩) (tw) (by omega)⟩
      ·have mG:j<b.length:=(zLw.1 hj).1
       have ho:∀ X,(b++[X])[j]? = some (.own (d.map da) 5 1 d.length true):=fun X=>af hj [X]
       simp only[ae,↓Xn,↓Xo,↓Xg,↓Xd,↓Xe,↓Xf,Tryz.VΓ,Tryz.Γs,Xp,Xi,Nat.reduceAdd,Nat.reduceSub,Nat.reduceLT,Nat.reduceLeDiff,reduceIte,reduceCtorEq,Nat.reduceEqDiff,implies_true,forall_const,ad,h0,h4,h5,hg,aW,ho]
       refine⟨⟨by omega,by omega⟩,by omega,⟨by unfold maxLen;omega,by omega⟩,⟨by omega,by omega⟩,sH (i':=i+2+1) (x:=.o (b++[aw.own [da (v)] 5 1 1 true]).length (d.length+1)) (d:=d++[v]) h0 rfl (by simp only[lk,reduceIte,zLt.injEq,SV.int.injEq,true_and];omega) ⟨by omega,by simp;omega⟩ (.inr ⟨(b++[aw.own [da (v)] 5 1 1 true]).length,by simp,by omega,by rw[zLv (by simp)];simp[da]⟩) (tw) (by omega)⟩)
  ·have hc:¬ s[i]=37:=by
    rw[cE (n:=37) aC 37 rfl]at hc
    simpa using hc
   rw[if_neg hc]at hu
   rw[hu,dO,gv]at hn
   rw[hg]
   (rcases ht with⟨rfl,fG,xJ⟩|⟨j,rfl,lA,hj⟩
    ·obtain rfl:d=[]:=by simpa using fG
     simp only[ae,↓Xn,↓Xo,↓Xg,↓Xd,↓Xe,↓Xf,Tryz.VΓ,Tryz.Γs,Xp,Xi,Nat.reduceAdd,Nat.reduceSub,Nat.reduceLT,Nat.reduceLeDiff,reduceIte,reduceCtorEq,Nat.reduceEqDiff,implies_true,forall_const,ad,h0,h4,h5,hg,aW]
     refine⟨ by omega,⟨by unfold maxLen;omega,by omega⟩,⟨by omega,by omega⟩,sH (i':=i+1) (x:=.o (b++[aw.own [da (s[i])] 5 1 1 true]).length 1) (d:=[]++[s[i]]) h0 rfl (by simp only[lk,reduceIte,zLt.injEq,SV.int.injEq,true_and];omega) ⟨by omega,by simp only[zLH,zLs,zLu];omega⟩ (.inr ⟨_,rfl,by omega,aW _ _⟩) (hn) (by omega)⟩
    ·have mG:j<b.length:=(zLw.1 hj).1
     have ho:∀ X,(b++[X])[j]? = some (.own (d.map da) 5 1 d.length true):=fun X=>af hj [X]
     simp only[ae,↓Xn,↓Xo,↓Xg,↓Xd,↓Xe,↓Xf,Tryz.VΓ,Tryz.Γs,Xp,Xi,Nat.reduceAdd,Nat.reduceSub,Nat.reduceLT,Nat.reduceLeDiff,reduceIte,reduceCtorEq,Nat.reduceEqDiff,implies_true,forall_const,ad,h0,h4,h5,hg,aW,ho]
     refine⟨ by omega,⟨by unfold maxLen;omega,by omega⟩,⟨by omega,by omega⟩,sH (i':=i+1) (x:=.o (b++[aw.own [da (s[i])] 5 1 1 true]).length (d.length+1)) (d:=d++[s[i]]) h0 rfl (by simp only[lk,reduceIte,zLt.injEq,SV.int.injEq,true_and];omega) ⟨by omega,by simp;omega⟩ (.inr ⟨(b++[aw.own [da (s[i])] 5 1 1 true]).length,by simp,by omega,by rw[zLv (by simp)];simp[da]⟩) (hn) (by omega)⟩)
 ·have jk:i=s.length:=by omega
  subst jk
  rw[List.drop_length,dU]at hn
  have kB:dO (ay s)=(d,0):=by rw[← hn];simp[dO,comb]
  rw[kB]
  rcases ht with⟨rfl,fG,xJ⟩|⟨j,rfl,lA,hj⟩
  ·obtain rfl:d=[]:=by simpa using fG
   simp only[ae,↓Xn,↓Xo,↓Xg,↓Xd,↓Xe,↓Xf,Tryz.VΓ,Tryz.Γs,Xp,Xi,Nat.reduceAdd,Nat.reduceSub,Nat.reduceLT,Nat.reduceLeDiff,reduceIte,reduceCtorEq,Nat.reduceEqDiff,implies_true,forall_const,ad,h0,h4,h5]
   exact fun h=>absurd h (by simp)
  ·simp only[ae,↓Xn,↓Xo,↓Xg,↓Xd,↓Xe,↓Xf,Tryz.VΓ,Tryz.Γs,Xp,Xi,Nat.reduceAdd,Nat.reduceSub,Nat.reduceLT,Nat.reduceLeDiff,reduceIte,reduceCtorEq,Nat.reduceEqDiff,implies_true,forall_const,ad,h0,h4,h5,hj]
   refine⟨fun h=>absurd h (by simp),fun _=>⟨gN d,?_⟩⟩
   rw[gD]
theorem BV {keep s:Bytes}{i:Nat}(h:i<s.length):aD keep (s.take (i+1))=aD keep (s.take i)++iu keep s[i]:=by
 unfold aD
 rw[List.take_succ_eq_append_getElem h,List.flatMap_append,List.flatMap_cons,List.flatMap_nil,List.append_nil]
theorem sub_one {s:Bytes}{i:Nat}(h:i<s.length):(s.take (i+1)).drop i=[s[i]]:=by
 rw[List.take_succ_eq_append_getElem h]
 exact List.drop_left' (by simp;omega)
def ReI (keep s:Bytes)(σ:St):Prop:=∃ i:Nat,i≤s.length∧lk 0 σ.t=some (.str s)∧lk 1 σ.t=some (.str keep)∧lk 5 σ.t=some (.str (aD keep (s.take i)))∧lk 6 σ.t=some (.int .i64 i)
def ReM (s:Bytes)(σ:St):Nat:=match lk 6 σ.t with
 | some (.int _ k)=>s.length - k.toNat
 | _=>0
theorem Jb {s:Bytes}{σ:St}{k:Nat}(h:lk 6 σ.t=some (.int .i64 k)):ReM s σ=s.length - k:=by simp[ReM,h]
theorem qA (keep s:Bytes)(i:Nat):(aD keep (s.take i)).length≤3 * s.length:=by
 have:=dM keep (s.take i)
 have:(s.take i).length≤s.length:=by simp;omega
 omega
theorem D7 {keep s:Bytes}{t:List (Nat × SV)}{b:List aw}{i:Nat}(hi:i<s.length)(h0:lk 0 t=some (.str s))(h1:lk 1 t=some (.str keep))(h5:lk 5 t=some (.str (aD keep (s.take i)++iu keep s[i])))(h6:lk 6 t=some (.int .i64 (i+1:Nat))):ReI keep s ⟨t,b⟩∧ReM s ⟨t,b⟩<s.length - i :=
 ⟨⟨i+1,by omega,h0,h1,by rw[BV hi];exact h5,h6⟩,by rw[Jb h6];omega⟩
theorem sj (s keep:Bytes)(hs:s.length≤1000000)(hk:keep.length≤1000):PC Tryz.V 75 [.str s,.str keep] (.str (aD keep s)):=by
 refine aQ 3000 Tryz.func75 rfl Tryz.ntmps75 Tryz.results75 Tryz.call75 (by simp) (by simp[flat,flat.ai]) (by simp[flat,flat.ai]) ?_
 simp only[ae,↓Xn,↓Xo,↓Xg,↓Xd,↓Xe,↓Xf,Tryz.VΓ,Tryz.Γs,Xp,Xi,Nat.reduceAdd,Nat.reduceSub,Nat.reduceLT,Nat.reduceLeDiff,reduceIte,reduceCtorEq,Nat.reduceEqDiff,implies_true,forall_const,ad]
 refine aL (ReI keep s) (ReM s) ⟨0,by omega,rfl,rfl,rfl,rfl⟩ ?_
 rintro⟨t,b⟩ ⟨i,hi,h0,h1,h5,h6⟩
 simp only at h0 h1 h5 h6
 rw[Jb h6]
 have jN:=qA keep s i
 by_cases aC:i<s.length
 ·have hg:s.getD i 0=s[i]:=by simp[zLA,aC]
  have Ib:((s[i].toNat:Int) != 37)=(s[i] != 37):=by
   have h:=cE (s:=s) aC 37 (n:=37) rfl
   rw[hg]at h
   show (!((s[i].toNat:Int)==37))=!(s[i]==37)
   rw[h]
  have hb:iu keep s[i]=if eX s[i]||(s[i] != 37&&keep.contains s[i]) then [s[i]] else jQ s[i]:=rfl
  simp only[ae,↓Xn,↓Xo,↓Xg,↓Xd,↓Xe,↓Xf,Tryz.VΓ,Tryz.Γs,Xp,Xi,Nat.reduceAdd,Nat.reduceSub,Nat.reduceLT,Nat.reduceLeDiff,reduceIte,reduceCtorEq,Nat.reduceEqDiff,implies_true,forall_const,ad,h0,h1,h5,h6]
  refine⟨fun _=>⟨⟨by omega,by omega⟩,?_⟩,fun h=>absurd h (by simp;omega)⟩
  rw[hg]
  (refine aa (dg s[i]) ?_;simp only[ae,↓Xn,↓Xo,↓Xg,↓Xd,↓Xe,↓Xf,Tryz.VΓ,Tryz.Γs,Xp,Xi,Nat.reduceAdd,Nat.reduceSub,Nat.reduceLT,Nat.reduceLeDiff,reduceIte,reduceCtorEq,Nat.reduceEqDiff,implies_true,forall_const,ad,h0,h1,h5,h6,hg])
  refine⟨fun hq=>⟨⟨by omega,by omega⟩,fun vI=>⟨⟨by omega,by omega⟩,?_⟩,fun vI=>⟨⟨by omega,by omega⟩,?_⟩⟩,fun hq=>?_⟩
  ·have e2:List.contains keep s[i]=false→iu keep s[i]=jQ s[i]:=fun nz=>by rw[hb,hq,nz];simp
   have e1:List.contains keep s[i]=true→iu keep s[i]=(s.take (i+1)).drop i:=fun nz=>by rw[hb,nz,← Ib,vI,sub_one aC];simp
   (refine aa (jZ s[i] keep (by omega)) ?_;simp only[ae,↓Xn,↓Xo,↓Xg,↓Xd,↓Xe,↓Xf,Tryz.VΓ,Tryz.Γs,Xp,Xi,Nat.reduceAdd,Nat.reduceSub,Nat.reduceLT,Nat.reduceLeDiff,reduceIte,reduceCtorEq,Nat.reduceEqDiff,implies_true,forall_const,ad,h0,h1,h5,h6,hg])
   refine⟨fun nz=>⟨⟨by omega,by omega⟩,⟨by omega,by omega,by omega⟩,by rw[sub_one aC,List.length_singleton];omega,⟨by omega,by omega⟩,D7 aC h0 h1 (by rw[e1 nz];rfl) (by simp only[lk,reduceIte,zLt.injEq,SV.int.injEq,true_and];omega)⟩,fun nz=>⟨⟨by omega,by omega⟩,?_⟩⟩
   (refine aa (jY s[i]) ?_;simp only[ae,↓Xn,↓Xo,↓Xg,↓Xd,↓Xe,↓Xf,Tryz.VΓ,Tryz.Γs,Xp,Xi,Nat.reduceAdd,Nat.reduceSub,Nat.reduceLT,Nat.reduceLeDiff,reduceIte,reduceCtorEq,Nat.reduceEqDiff,implies_true,forall_const,ad,h0,h1,h5,h6,hg])
   exact⟨by rw[show (jQ s[i]).length=3 from rfl];omega,⟨by omega,by omega⟩,D7 aC h0 h1 (by rw[e2 nz];rfl) (by simp only[lk,reduceIte,zLt.injEq,SV.int.injEq,true_and];omega)⟩
  ·have e2:iu keep s[i]=jQ s[i]:=by rw[hb,hq,← Ib,vI];simp
   (refine aa (jY s[i]) ?_;simp only[ae,↓Xn,↓Xo,↓Xg,↓Xd,↓Xe,↓Xf,Tryz.VΓ,Tryz.Γs,Xp,Xi,Nat.reduceAdd,Nat.reduceSub,Nat.reduceLT,Nat.reduceLeDiff,reduceIte,reduceCtorEq,Nat.reduceEqDiff,implies_true,forall_const,ad,h0,h1,h5,h6,hg])
   exact⟨by rw[show (jQ s[i]).length=3 from rfl];omega,⟨by omega,by omega⟩,D7 aC h0 h1 (by rw[e2];rfl) (by simp only[lk,reduceIte,zLt.injEq,SV.int.injEq,true_and];omega)⟩
  ·have e1:iu keep s[i]=(s.take (i+1)).drop i:=by rw[hb,hq,sub_one aC];simp
   exact⟨⟨by omega,by omega⟩,⟨by omega,by omega,by omega⟩,by rw[sub_one aC,List.length_singleton];omega,⟨by omega,by omega⟩,D7 aC h0 h1 (by rw[e1];rfl) (by simp only[lk,reduceIte,zLt.injEq,SV.int.injEq,true_and];omega)⟩
 ·have jk:i=s.length:=by omega
  subst jk
  rw[zLG]at h5
  simp only[ae,↓Xn,↓Xo,↓Xg,↓Xd,↓Xe,↓Xf,Tryz.VΓ,Tryz.Γs,Xp,Xi,Nat.reduceAdd,Nat.reduceSub,Nat.reduceLT,Nat.reduceLeDiff,reduceIte,reduceCtorEq,Nat.reduceEqDiff,implies_true,forall_const,ad,h0,h1,h5,h6]
  exact fun h=>absurd h (by simp)
def PeI (keep s:Bytes)(σ:St):Prop:=∃ (i:Nat) (x:SV),i≤s.length∧lk 0 σ.t=some (.str s)∧lk 1 σ.t=some (.str keep)∧lk 5 σ.t=some (.p 0 0)∧lk 9 σ.t=some (.int .i64 s.length)∧lk 10 σ.t=some (.int .i64 i)∧1≤σ.b.length∧th σ.b 0 1 x (aD keep (s.take i))
def PeM (s:Bytes)(σ:St):Nat:=match lk 10 σ.t with
 | some (.int _ k)=>s.length - k.toNat
 | _=>0
theorem Jd {s:Bytes}{σ:St}{k:Nat}(h:lk 10 σ.t=some (.int .i64 k)):PeM s σ=s.length - k:=by simp[PeM,h]
theorem xf {keep s:Bytes}{t:List (Nat × SV)}{b:List aw}{i:Nat}{x:SV}(hi:i<s.length)(h0:lk 0 t=some (.str s))(h1:lk 1 t=some (.str keep))(h5:lk 5 t=some (.p 0 0))(h9:lk 9 t=some (.int .i64 s.length))(fm:lk 10 t=some (.int .i64 (i+1:Nat)))(hb:1≤b.length)(ht:th b 0 1 x (aD keep (s.take i)++iu keep s[i])):PeI keep s ⟨t,b⟩∧PeM s ⟨t,b⟩<s.length - i :=
 ⟨⟨i+1,x,by omega,h0,h1,h5,h9,fm,hb,by rw[BV hi];exact ht⟩,by rw[Jd fm];omega⟩
theorem ue (s keep:Bytes)(hs:s.length≤300000):PC Tryz.V 148 [.str s,.str keep] (.str (aD keep s)):=by
 refine aQ 3000 Tryz.func148 rfl Tryz.ntmps148 Tryz.results148 Tryz.call148 (by simp) (by simp[flat,flat.ai]) (by simp[flat,flat.ai]) ?_
 simp only[ae,↓Xn,↓Xo,↓Xg,↓Xd,↓Xe,↓Xf,Tryz.VΓ,Tryz.Γs,Xp,Xi,Nat.reduceAdd,Nat.reduceSub,Nat.reduceLT,Nat.reduceLeDiff,reduceIte,reduceCtorEq,Nat.reduceEqDiff,implies_true,forall_const,ad]
 refine aL (PeI keep s) (PeM s) ⟨0,.aI,by omega,rfl,rfl,rfl,rfl,rfl,by simp,⟨rfl,.inl ⟨rfl,rfl,rfl⟩,by omega⟩⟩ ?_
 rintro⟨t,b⟩ ⟨i,x,hi,h0,h1,h5,h9,fm,mu,ht⟩
 simp only at h0 h1 h5 h9 fm mu ht
 rw[Jd fm]
 have jN:=qA keep s i
 have gB:=ht.box
 by_cases aC:i<s.length
 ·have hg:s.getD i 0=s[i]:=by simp[zLA,aC]
  have Ib:((s[i].toNat:Int) != 37)=(s[i] != 37):=by
   have h:=cE (s:=s) aC 37 (n:=37) rfl
   rw[hg]at h
   show (!((s[i].toNat:Int)==37))=!(s[i]==37)
   rw[h]
  have hb:iu keep s[i]=if eX s[i]||(s[i] != 37&&keep.contains s[i]) then [s[i]] else jQ s[i]:=rfl
  simp only[ae,↓Xn,↓Xo,↓Xg,↓Xd,↓Xe,↓Xf,Tryz.VΓ,Tryz.Γs,Xp,Xi,Nat.reduceAdd,Nat.reduceSub,Nat.reduceLT,Nat.reduceLeDiff,reduceIte,reduceCtorEq,Nat.reduceEqDiff,implies_true,forall_const,ad,h0,h1,h5,h9,fm]
  refine⟨fun _=>⟨⟨by omega,by omega⟩,?_⟩,fun h=>absurd h (by simp;omega)⟩
  rw[hg]
  (refine aa (fj s[i]) ?_;simp only[ae,↓Xn,↓Xo,↓Xg,↓Xd,↓Xe,↓Xf,Tryz.VΓ,Tryz.Γs,Xp,Xi,Nat.reduceAdd,Nat.reduceSub,Nat.reduceLT,Nat.reduceLeDiff,reduceIte,reduceCtorEq,Nat.reduceEqDiff,implies_true,forall_const,ad,h0,h1,h5,h9,fm,hg])
  refine⟨fun hq=>⟨fun vI=>?_,fun vI=>?_⟩,fun hq=>?_⟩
  ·(refine aa (dG keep s[i]) ?_;simp only[ae,↓Xn,↓Xo,↓Xg,↓Xd,↓Xe,↓Xf,Tryz.VΓ,Tryz.Γs,Xp,Xi,Nat.reduceAdd,Nat.reduceSub,Nat.reduceLT,Nat.reduceLeDiff,reduceIte,reduceCtorEq,Nat.reduceEqDiff,implies_true,forall_const,ad,h0,h1,h5,h9,fm,hg])
   rw[qg]
   refine⟨fun nz=>?_,fun nz=>?_⟩
   ·have e1:iu keep s[i]=[s[i]]:=by rw[hb,nz,← Ib,vI];simp
    (rcases ht.sl with⟨rfl,fG,xJ⟩|⟨j,rfl,lA,hj⟩
     ·have ho:∀ X,(b++[X])[0]? = some (.cells [.aI] 174 true):=fun X=>af gB [X]
      have lz:∀ X Y,(b++[X]++[Y])[0]? = some (.cells [.aI] 174 true):=fun X Y=>af (ho X) [Y]
      simp only[ae,↓Xn,↓Xo,↓Xg,↓Xd,↓Xe,↓Xf,Tryz.VΓ,Tryz.Γs,Xp,Xi,Nat.reduceAdd,Nat.reduceSub,Nat.reduceLT,Nat.reduceLeDiff,reduceIte,reduceCtorEq,Nat.reduceEqDiff,implies_true,forall_const,ad,h0,h1,h5,h9,fm,gB,aW,ho,lz]
      exact⟨by omega,⟨by unfold maxLen;omega,by omega⟩,⟨by omega,by omega⟩,xf (x:=.o (b++[aw.own [da s[i]] 5 1 1 true]).length 1) aC h0 h1 h5 h9 (by simp only[lk,reduceIte,zLt.injEq,SV.int.injEq,true_and];omega) (by simp) (by rw[e1];exact pB ht mu s[i] rfl)⟩
     ·have ho:∀ X,(b++[X])[j]? = some (.own ((aD keep (s.take i)).map da) 5 1 (aD keep (s.take i)).length true):=fun X=>af hj [X]
      have lz:∀ X Y,((b++[X]).set j .gone++[Y])[0]? = some (.cells [.o j (aD keep (s.take i)).length] 174 true):=fun X Y=>by
       rw[List.getElem?_append_left (by simp),List.getElem?_set_ne (by omega)];exact af gB [X]
      simp only[ae,↓Xn,↓Xo,↓Xg,↓Xd,↓Xe,↓Xf,Tryz.VΓ,Tryz.Γs,Xp,Xi,Nat.reduceAdd,Nat.reduceSub,Nat.reduceLT,Nat.reduceLeDiff,reduceIte,reduceCtorEq,Nat.reduceEqDiff,implies_true,forall_const,ad,h0,h1,h5,h9,fm,gB,aW,ho,lz]
      exact⟨by omega,⟨by unfold maxLen;omega,by omega⟩,⟨by omega,by omega⟩,xf (x:=.o (b++[aw.own [da s[i]] 5 1 1 true]).length ((aD keep (s.take i)).length+1)) aC h0 h1 h5 h9 (by simp only[lk,reduceIte,zLt.injEq,SV.int.injEq,true_and];omega) (by simp) (by rw[e1];exact mQ ht mu s[i] lA)⟩)
   ·have e2:iu keep s[i]=jQ s[i]:=by rw[hb,hq,nz];simp
    (refine aT (rb ht mu (by omega) s[i]) ?_
     rintro r b' ⟨rfl,x',ht',hbl',-⟩
     simp only[ae,↓Xn,↓Xo,↓Xg,↓Xd,↓Xe,↓Xf,Tryz.VΓ,Tryz.Γs,Xp,Xi,Nat.reduceAdd,Nat.reduceSub,Nat.reduceLT,Nat.reduceLeDiff,reduceIte,reduceCtorEq,Nat.reduceEqDiff,implies_true,forall_const,ad,h0,h1,h5,h9,fm]
     exact⟨⟨by omega,by omega⟩,xf aC h0 h1 h5 h9 (by simp only[lk,reduceIte,zLt.injEq,SV.int.injEq,true_and];omega) (by omega) (by rw[e2];exact ht')⟩)
  ·have e2:iu keep s[i]=jQ s[i]:=by rw[hb,hq,← Ib,vI];simp
   (refine aT (rb ht mu (by omega) s[i]) ?_
    rintro r b' ⟨rfl,x',ht',hbl',-⟩
    simp only[ae,↓Xn,↓Xo,↓Xg,↓Xd,↓Xe,↓Xf,Tryz.VΓ,Tryz.Γs,Xp,Xi,Nat.reduceAdd,Nat.reduceSub,Nat.reduceLT,Nat.reduceLeDiff,reduceIte,reduceCtorEq,Nat.reduceEqDiff,implies_true,forall_const,ad,h0,h1,h5,h9,fm]
    exact⟨⟨by omega,by omega⟩,xf aC h0 h1 h5 h9 (by simp only[lk,reduceIte,zLt.injEq,SV.int.injEq,true_and];omega) (by omega) (by rw[e2];exact ht')⟩)
  ·have e1:iu keep s[i]=[s[i]]:=by rw[hb,hq];simp
   (rcases ht.sl with⟨rfl,fG,xJ⟩|⟨j,rfl,lA,hj⟩
    ·have ho:∀ X,(b++[X])[0]? = some (.cells [.aI] 174 true):=fun X=>af gB [X]
     have lz:∀ X Y,(b++[X]++[Y])[0]? = some (.cells [.aI] 174 true):=fun X Y=>af (ho X) [Y]
     simp only[ae,↓Xn,↓Xo,↓Xg,↓Xd,↓Xe,↓Xf,Tryz.VΓ,Tryz.Γs,Xp,Xi,Nat.reduceAdd,Nat.reduceSub,Nat.reduceLT,Nat.reduceLeDiff,reduceIte,reduceCtorEq,Nat.reduceEqDiff,implies_true,forall_const,ad,h0,h1,h5,h9,fm,gB,aW,ho,lz]
     exact⟨by omega,⟨by unfold maxLen;omega,by omega⟩,⟨by omega,by omega⟩,xf (x:=.o (b++[aw.own [da s[i]] 5 1 1 true]).length 1) aC h0 h1 h5 h9 (by simp only[lk,reduceIte,zLt.injEq,SV.int.injEq,true_and];omega) (by simp) (by rw[e1];exact pB ht mu s[i] rfl)⟩
    ·have ho:∀ X,(b++[X])[j]? = some (.own ((aD keep (s.take i)).map da) 5 1 (aD keep (s.take i)).length true):=fun X=>af hj [X]
     have lz:∀ X Y,((b++[X]).set j .gone++[Y])[0]? = some (.cells [.o j (aD keep (s.take i)).length] 174 true):=fun X Y=>by
      rw[List.getElem?_append_left (by simp),List.getElem?_set_ne (by omega)];exact af gB [X]
     simp only[ae,↓Xn,↓Xo,↓Xg,↓Xd,↓Xe,↓Xf,Tryz.VΓ,Tryz.Γs,Xp,Xi,Nat.reduceAdd,Nat.reduceSub,Nat.reduceLT,Nat.reduceLeDiff,reduceIte,reduceCtorEq,Nat.reduceEqDiff,implies_true,forall_const,ad,h0,h1,h5,h9,fm,gB,aW,ho,lz]
     exact⟨by omega,⟨by unfold maxLen;omega,by omega⟩,⟨by omega,by omega⟩,xf (x:=.o (b++[aw.own [da s[i]] 5 1 1 true]).length ((aD keep (s.take i)).length+1)) aC h0 h1 h5 h9 (by simp only[lk,reduceIte,zLt.injEq,SV.int.injEq,true_and];omega) (by simp) (by rw[e1];exact mQ ht mu s[i] lA)⟩)
 ·have jk:i=s.length:=by omega
  subst jk
  rw[zLG]at ht
  rcases ht.sl with⟨rfl,fG,xJ⟩|⟨j,rfl,lA,hj⟩
  ·have hd:aD keep s=[]:=by simpa using fG
   simp only[ae,↓Xn,↓Xo,↓Xg,↓Xd,↓Xe,↓Xf,Tryz.VΓ,Tryz.Γs,Xp,Xi,Nat.reduceAdd,Nat.reduceSub,Nat.reduceLT,Nat.reduceLeDiff,reduceIte,reduceCtorEq,Nat.reduceEqDiff,implies_true,forall_const,ad,h0,h1,h5,h9,fm,gB]
   exact⟨fun h=>absurd h (by simp),fun _=>by rw[hd]⟩
  ·simp only[ae,↓Xn,↓Xo,↓Xg,↓Xd,↓Xe,↓Xf,Tryz.VΓ,Tryz.Γs,Xp,Xi,Nat.reduceAdd,Nat.reduceSub,Nat.reduceLT,Nat.reduceLeDiff,reduceIte,reduceCtorEq,Nat.reduceEqDiff,implies_true,forall_const,ad,h0,h1,h5,h9,fm,gB,hj]
   exact⟨fun h=>absurd h (by simp),fun _=>⟨gN _,by rw[gD]⟩⟩
end Go.Proofs.YteipdaijbncgeaaGreatDoor
namespace Wf
open Go Go.RowKit
structure mi where
 loc:Bytes
 host:Bytes
 deriving DecidableEq
def mi.none:mi:=⟨[],[]⟩
def I5:Bytes:=[33,35,36,37,38,39,42,43,45,47,61,63,94,95,96,123,124,125,126]
def my (c:UInt8):Bool:=isAlpha c||isDigit c||I5.contains c
def fY (s:Bytes):Bool:=!s.isEmpty&&s.all my
def jg (s:Bytes):Bool:=(aA 46 s).all fY&&decide (s.length≤64)
def kN:Bytes:=[109,97,105,108,116,111,58]
def Bg:Bytes:=[33,36,39,42,43]
def fP:Bytes:=[37,33,36,39,42,43]
def ie (c:UInt8):Bool:=eX c||fP.contains c
def yU (l:Bytes × Int)(h:Bytes × Int):mi × Int :=
 if l.2≠0 then(mi.none,l.2)
 else if jg l.1=false then(mi.none,80)
 else if h.2≠0 then(mi.none,h.2)
 else if ipv4 h.1=true then(mi.none,50)
 else(⟨l.1,h.1⟩,0)
def qa (s:Bytes):mi × Int :=
 if (aG 64 s).2.2=false∨(63:UInt8)∈s∨(35:UInt8)∈s then(mi.none,6)
 else if (aG 64 s).1.all ie=false then(mi.none,1)
 else yU (ak (aG 64 s).1) (bB (aG 64 s).2.1)
def bS (s:Bytes):mi × Int :=
 if 4096<s.length then(mi.none,5)
 else if s.length<7∨lower (s.take 7)≠kN then(mi.none,60)
 else qa (s.drop 7)
def nm (m:mi):Bytes:=kN++aD Bg m.loc++[64]++m.host
theorem A0 {s:Bytes}(h:jg s=true):s.length≤64:=by
 unfold jg at h
 simp only[Bool.and_eq_true,decide_eq_true_eq]at h
 exact h.2
structure CanMail (m:mi):Prop where
 loc:jg m.loc=true
 host:bB m.host=(m.host,0)
 no:ipv4 m.host=false
theorem Hl {s:Bytes}{m:mi}(h:bS s=(m,0)):CanMail m:=by
 unfold bS at h
 split at h
 ·simp at h
 split at h
 ·simp at h
 unfold qa at h
 split at h
 ·simp at h
 split at h
 ·simp at h
 unfold yU at h
 split at h
 ·rename_i h5;exact absurd (Prod.mk.inj h).2 h5
 split at h
 ·simp at h
 rename_i h6
 split at h
 ·rename_i h5;exact absurd (Prod.mk.inj h).2 h5
 split at h
 ·simp at h
 rename_i h7 h8
 simp only[Prod.mk.injEq,and_true]at h
 subst h
 have e:bB (aG 64 (s.drop 7)).2.1=((bB (aG 64 (s.drop 7)).2.1).1,0):=by
  have:(bB (aG 64 (s.drop 7)).2.1).2=0:=by simpa using h7
  rw[← this]
 exact⟨by simpa using h6,(nx e).2.2,by simpa using h8⟩
def kO:Bool→Bytes→Bool
 | dot,[]=>!dot
 | dot,c::r=>if (c != 46&&!my c)||(c==46&&dot) then false else kO (c==46) r
theorem ET {c:UInt8}(h:my c=true):c≠46:=by rintro rfl;revert h;decide
theorem nr:∀ (s cur:Bytes),cur.all my=true→kO cur.isEmpty s=(aA 46 (cur++s)).all fY
 | [],cur,h=>by
   have hn:(46:UInt8) ∉ cur:=fun k=>ET (zLJ.1 h _ k) rfl
   rw[List.append_nil,bZ (by rw[eM hn];omega)]
   simp[kO,fY,h]
 | c::r,cur,h=>by
   have hn:(46:UInt8) ∉ cur:=fun k=>ET (zLJ.1 h _ k) rfl
   rw[kO]
   by_cases hc:c=46
   ·subst hc
    have hp:pre (·==46) (cur++46::r)=cur.length:=tm (eM hn) 46 r (by decide)
    rw[cG (by rw[hp];simp),hp,List.take_left,← List.drop_drop,List.drop_left,List.drop_succ_cons,List.drop_zero,List.all_cons]
    have ih:=nr r [] rfl
    rw[zLH]at ih
    rw[← ih]
    have ha:fY cur=!cur.isEmpty:=by simp[fY,h]
    rw[ha]
    cases cur <;> simp
   ·by_cases ha:my c=true
    ·rw[if_neg (by simp[hc,ha])]
     have ih:=nr r (cur++[c]) (by simp[h,ha])
     rw[List.append_assoc,List.singleton_append]at ih
     rw[← ih]
     have:(c==46)=false:=by simpa using hc
     rw[this]
     cases cur <;> rfl
    ·rw[if_pos (by simp[hc,ha])]
     symm
     rw[← Bool.not_eq_true]
     intro aP
     rcases oP 46 _ (cur++c::r) (zLB _) c (by simp) with h1|⟨x,h1,h2⟩
     ·exact hc h1
     ·have:=zLJ.1 aP x h1
      unfold fY at this
      simp only[Bool.and_eq_true]at this
      exact ha (zLJ.1 this.2 c h2)
theorem Dh (s:Bytes):jg s=(kO true s&&decide (s.length≤64)):=by
 have:=nr s [] rfl
 rw[zLH]at this
 unfold jg
 rw[← this];rfl
end Wf
namespace Go.Proofs.YteipdaijbncgeaaGreatDoor
open Go.RowKit Wf
attribute [local go_sem] fH eP get_list
theorem yS (c:UInt8)(w:World)(h:bt c=true):Calls Tryz.prog 216 #[.int .u8 c.toNat] w fun e w'=>e=.returned (.int .u64 (cw c))∧w=w':=by
 cases hd:isDigit c
 all_goals
  go_enter Tryz.func216,Tryz.ntmps216
  go_wp2_with (go_at_call 182;refine(bF _ _).mono ?_;rintro e w' ⟨rfl,rfl⟩)
  go_ret
  refine⟨tl ?_,rfl⟩
  have hb:=C9 c
  simp[bt,isDigit]at h hd
  unfold cw
  split <;> (try split) <;> omega
theorem uo (s:Bytes)(m:Nat)(w:World)(hs:s.length≤9223372036854775807)(hm:m≤4611686018427387904) :
 Calls Tryz.prog 210 #[(Value.string ⟨zLp (s)⟩),.int .u64 10,.int .u64 m,.func (.func 182) #[] #[]] w fun e w'=>e=.returned (.tuple #[.int .u64 (bK isDigit 10 m s).1,.int .i64 (bK isDigit 10 m s).2])∧w=w':=by
 cases bp:s.isEmpty
 ·go_enter Tryz.func210,Tryz.ntmps210
  go_wp2_with fail
  go_loop [18] (fun i=>∃ k:Nat,k≤s.length∧i=.int .i64 k∧(s.take k).all isDigit=true) (fun i=>s.length - (intOf i).toNat)
  case atStart=>exact⟨0,by omega,rfl,rfl⟩
  case round =>
   obtain⟨k,hk,rfl,aP⟩:=hrel
   have Hall:=hid aP
   clear aP
   by_cases aC:k<s.length
   ·cases hc:isDigit s[k]
    ·go_wp2_with (go_at_call 182;refine(bF _ _).mono ?_;rintro e w' ⟨rfl,rfl⟩)
     go_ret2
     exact⟨mV (by simp[bK,bp,cU aC hc]),rfl⟩
    ·go_wp2_with (go_at_call 182;refine(bF _ _).mono ?_;rintro e w' ⟨rfl,rfl⟩)
     go_round
     case rel=>exact⟨k+1,by omega,by go_num,aO aC Hall.out hc⟩
     case measure=>simp[intOf];omega
   ·have aP:s.all isDigit=true:=by have:=Hall.out;rwa [zLx (by omega)]at this
    clear Hall
    have Hall:=hid aP
    clear aP
    go_wp2_with fail
    go_loop [11,30] (fun n i=>∃ k a:Nat,k≤s.length∧i=.int .i64 k∧a≤m∧n=.int .u64 a∧dh 10 m a (s.drop k)=dh 10 m 0 s) (fun _ i=>s.length - (intOf i).toNat)
    case atStart=>exact⟨0,0,by omega,rfl,by omega,rfl,rfl⟩
    case round =>
     obtain⟨j,a,hj,rfl,ha,rfl,heq⟩:=hrel
     have Heq:=hid heq
     clear heq
     by_cases Cs:j<s.length
     ·have hv:=kX (show bt s[j]=true by have:=zq Hall.out Cs;first|exact this | (simp[isDigit,bt]at this ⊢;omega))
      go_wp2_with (go_at_call 216;refine(yS _ _ (by have:=zq Hall.out Cs;first|exact this | (simp[isDigit,bt]at this ⊢;omega))).mono ?_;rintro e w' ⟨rfl,rfl⟩)
      all_goals first
       | (go_ret2;exact⟨mV (pU bp Hall.out Heq.out Cs (by omega)),rfl⟩)
       | (go_round
          case rel=>exact⟨j+1,a * 10+cw s[j],by omega,by go_num,by omega,by go_num,ow Heq.out Cs (by omega)⟩
          case measure=>simp[intOf];omega)
     ·go_wp2_with fail
      go_ret2
      exact⟨mV (ox bp Hall.out Heq.out Cs),rfl⟩
 ·go_enter Tryz.func210,Tryz.ntmps210
  go_wp2_with fail
  go_ret2
  exact⟨mV (by simp[bK,bp]),rfl⟩
theorem lL (s:Bytes)(m:Nat)(w:World)(hs:s.length≤9223372036854775807)(hm:m≤4611686018427387904) :
 Calls Tryz.prog 199 #[(Value.string ⟨zLp (s)⟩),.int .u64 m] w fun e w'=>e=.returned (.tuple #[.int .u64 (bK isDigit 10 m s).1,.int .i64 (bK isDigit 10 m s).2])∧w=w':=by
 go_enter Tryz.func199,Tryz.ntmps199
 go_wp2_with (go_at_call 210;refine(uo _ _ _ hs hm).mono ?_;rintro e w' ⟨rfl,rfl⟩)
 go_ret2
 exact⟨rfl,rfl⟩
theorem kv (s:Bytes)(m:Nat)(w:World)(hs:s.length≤9223372036854775807)(hm:m≤4611686018427387904) :
 Calls Tryz.prog 173 #[(Value.string ⟨zLp (s)⟩),.int .u64 m] w fun e w'=>e=.returned (.tuple #[.int .u64 (aV m s).1,.int .i64 (aV m s).2])∧w=w':=by
 by_cases hd:cg s=true
 ·by_cases h1:1<s.length
  ·by_cases h0:s[0]=48
   ·have Hq:=hid (show aV m s=(0,6) from if_pos ⟨hd,h1,by rw[la (by omega),h0]⟩)
    have hx:((s[0].toNat:Int)==48)=true:=by simp[h0]
    clear h0
    go_enter Tryz.func173,Tryz.ntmps173
    go_wp2_with (go_at_call 192;refine(gU _ _ hs).mono ?_;rintro e w' ⟨rfl,rfl⟩)
    go_ret2
    rw[Hq.out]
    exact⟨rfl,rfl⟩
   ·have Hq:=hid (show aV m s=bK isDigit 10 m s from if_neg (by rintro⟨_,_,h⟩;rw[la (by omega)]at h;exact h0 (by simpa using h)))
    have hx:((s[0].toNat:Int)==48)=false:=zP h0
    clear h0
    go_enter Tryz.func173,Tryz.ntmps173
    go_wp2_with (first
     | (go_at_call 192;refine(gU _ _ hs).mono ?_;rintro e w' ⟨rfl,rfl⟩)
     | (go_at_call 199;refine(lL _ _ _ hs hm).mono ?_;rintro e w' ⟨rfl,rfl⟩))
    go_ret2
    rw[Hq.out]
    exact⟨rfl,rfl⟩
  ·have Hq:=hid (show aV m s=bK isDigit 10 m s from if_neg (by rintro⟨_,h,_⟩;exact h1 h))
   go_enter Tryz.func173,Tryz.ntmps173
   go_wp2_with (first
    | (go_at_call 192;refine(gU _ _ hs).mono ?_;rintro e w' ⟨rfl,rfl⟩)
    | (go_at_call 199;refine(lL _ _ _ hs hm).mono ?_;rintro e w' ⟨rfl,rfl⟩))
   go_ret2
   rw[Hq.out]
   exact⟨rfl,rfl⟩
 ·have Hq:=hid (show aV m s=bK isDigit 10 m s from if_neg (by rintro⟨h,_,_⟩;exact hd h))
  have oe:cg s=false:=by simpa using hd
  clear hd
  go_enter Tryz.func173,Tryz.ntmps173
  go_wp2_with (first
   | (go_at_call 192;refine(gU _ _ hs).mono ?_;rintro e w' ⟨rfl,rfl⟩)
   | (go_at_call 199;refine(lL _ _ _ hs hm).mono ?_;rintro e w' ⟨rfl,rfl⟩))
  go_ret2
  rw[Hq.out]
  exact⟨rfl,rfl⟩
theorem vX (s:Bytes)(m:Nat)(w:World)(hs:s.length≤9223372036854775807)(hm:m≤4611686018427387904) :
 Calls Tryz.prog 128 #[(Value.string ⟨zLp (s)⟩),.int .u64 10,.int .u64 m] w fun e w'=>e=.returned (.tuple #[.int .u64 (bK isDigit 10 m s).1,.int .i64 (bK isDigit 10 m s).2])∧w=w':=by
 cases bp:s.isEmpty
 ·go_enter Tryz.func128,Tryz.ntmps128
  go_wp2_with fail
  go_loop [8] (fun i=>∃ k:Nat,k≤s.length∧i=.int .i64 k∧(s.take k).all isDigit=true) (fun i=>s.length - (intOf i).toNat)
  case atStart=>exact⟨0,by omega,rfl,rfl⟩
  case round =>
   obtain⟨k,hk,rfl,aP⟩:=hrel
   have Hall:=hid aP
   clear aP
   by_cases aC:k<s.length
   ·cases hc:isDigit s[k]
    ·have Ha:=hid (cU aC hc)
     go_wp2_with (go_at_call 94;refine(dr _ _).mono ?_;rintro e w' ⟨rfl,rfl⟩)
     go_ret2
     exact⟨mV (by simp[bK,bp,Ha.out]),rfl⟩
    ·go_wp2_with (go_at_call 94;refine(dr _ _).mono ?_;rintro e w' ⟨rfl,rfl⟩)
     go_round
     case rel=>exact⟨k+1,by omega,by go_num,aO aC Hall.out hc⟩
     case measure=>simp[intOf];omega
   ·have aP:s.all isDigit=true:=by have:=Hall.out;rwa [zLx (by omega)]at this
    clear Hall
    have Hall:=hid aP
    clear aP
    go_wp2_with fail
    go_loop [9,10] (fun n i=>∃ k a:Nat,k≤s.length∧i=.int .i64 k∧a≤m∧n=.int .u64 a∧dh 10 m a (s.drop k)=dh 10 m 0 s) (fun _ i=>s.length - (intOf i).toNat)
    case atStart=>exact⟨0,0,by omega,rfl,by omega,rfl,rfl⟩
    case round =>
     obtain⟨j,a,hj,rfl,ha,rfl,heq⟩:=hrel
     have Heq:=hid heq
     clear heq
     by_cases Cs:j<s.length
     ·have hdg:=zq Hall.out Cs
      simp[isDigit]at hdg
      obtain⟨qv,oe⟩:=hdg
      have Hv:=hid (show (cw s[j]:Int)=s[j].toNat - 48 by unfold cw;rw[if_pos oe];omega)
      go_wp2_with fail
      all_goals
       have hu:=Gz ((m:Int) - (s[j].toNat - 48)) (by omega) (by omega)
       have hv:=Hv.out
       first
       | (go_ret2;exact⟨mV (pU bp Hall.out Heq.out Cs (by omega)),rfl⟩)
       | (go_round
          case rel=>exact⟨j+1,a * 10+cw s[j],by omega,by go_num,by omega,congrArg (Value.int .u64) (by omega),ow Heq.out Cs (by omega)⟩
          case measure=>simp[intOf];omega)
     ·go_wp2_with fail
      go_ret2
      exact⟨mV (ox bp Hall.out Heq.out Cs),rfl⟩
 ·go_enter Tryz.func128,Tryz.ntmps128
  go_wp2_with fail
  go_ret2
  exact⟨mV (by simp[bK,bp]),rfl⟩
theorem lK (s:Bytes)(m:Nat)(w:World)(hs:s.length≤9223372036854775807)(hm:m≤4611686018427387904) :
 Calls Tryz.prog 97 #[(Value.string ⟨zLp (s)⟩),.int .u64 m] w fun e w'=>e=.returned (.tuple #[.int .u64 (aV m s).1,.int .i64 (aV m s).2])∧w=w':=by
 have hq:aV m s=if cg s=true∧1<s.length∧s.head? = some 48 then(0,6) else bK isDigit 10 m s:=rfl
 have he:=kL m s
 have hc:=vX s m w hs hm
 generalize bK isDigit 10 m s=np at hq he hc
 obtain⟨n,e⟩:=np
 simp only at hq he hc
 have Hc:=hid hc
 clear hc
 by_cases hd:cg s=true
 ·rw[hd]at he
  simp only[iff_true]at he
  have hg:(e==0||e==4)=true:=by simp;omega
  by_cases h1:1<s.length
  ·by_cases h0:s[0]=48
   ·rw[if_pos ⟨hd,h1,by rw[la (by omega),h0]⟩]at hq
    have Hq:=hid hq
    have hx:((s[0].toNat:Int)==48)=true:=by simp[h0]
    clear h0 hq
    rcases he with rfl|rfl
    all_goals
     go_enter Tryz.func97,Tryz.ntmps97
     go_wp2_with fail
     refine Hc.out.mono ?_
     rintro e w' ⟨rfl,rfl⟩
     go_wp2_with fail
     go_ret2
     rw[Hq.out]
     exact⟨rfl,rfl⟩
   ·rw[if_neg (by rintro⟨_,_,h⟩;rw[la (by omega)]at h;exact h0 (by simpa using h))]at hq
    have Hq:=hid hq
    have hx:((s[0].toNat:Int)==48)=false:=zP h0
    clear h0 hq
    rcases he with rfl|rfl
    all_goals
     go_enter Tryz.func97,Tryz.ntmps97
     go_wp2_with fail
     refine Hc.out.mono ?_
     rintro e w' ⟨rfl,rfl⟩
     go_wp2_with fail
     go_ret2
     rw[Hq.out]
     exact⟨rfl,rfl⟩
  ·rw[if_neg (by rintro⟨_,h,_⟩;exact h1 h)]at hq
   have Hq:=hid hq
   clear hq
   rcases he with rfl|rfl
   all_goals
    go_enter Tryz.func97,Tryz.ntmps97
    go_wp2_with fail
    refine Hc.out.mono ?_
    rintro e w' ⟨rfl,rfl⟩
    go_wp2_with fail
    go_ret2
    rw[Hq.out]
    exact⟨rfl,rfl⟩
 ·rw[if_neg (by rintro⟨h,_,_⟩;exact hd h)]at hq
  have oe:cg s=false:=by simpa using hd
  rw[oe]at he
  have h1:(e==0)=false:=by simp;intro h;simp[h]at he
  have h2:(e==4)=false:=by simp;intro h;simp[h]at he
  have Hq:=hid hq
  clear hd he hq
  go_enter Tryz.func97,Tryz.ntmps97
  go_wp2_with fail
  refine Hc.out.mono ?_
  rintro e w' ⟨rfl,rfl⟩
  go_wp2_with fail
  go_ret2
  rw[Hq.out]
  exact⟨rfl,rfl⟩
open Go.RowKit Wf
attribute [local go_sem] fH eP get_list
theorem uA (s:Bytes)(h1:s.isEmpty=false)(h2:s.length≤63)(h3:¬ s[0]? = some 45)(h4:¬ s[s.length - 1]? = some 45):bz s=s.all vF:=by
 unfold bz
 rw[List.getLast?_eq_getElem?,List.head?_eq_getElem?]
 simp[h1,h2,h3,h4]
theorem uN (s:Bytes)(w:World)(hs:s.length≤9223372036854775807) :
 Calls Tryz.prog 191 #[(Value.string ⟨zLp (s)⟩)] w fun e w'=>e=.returned (.bool (bz s))∧w=w':=by
 cases h1:s.isEmpty
 ·by_cases h2:63<s.length
  ·have Hq:=hid (show bz s=false by unfold bz;simp;omega)
   go_enter Tryz.func191,Tryz.ntmps191
   go_wp2_with fail
   go_ret
   exact⟨aZ Hq.out.symm,rfl⟩
  ·have hl:0<s.length:=by cases s <;> simp at h1 ⊢
   by_cases h3:s[0]=45
   ·have Hq:=hid (show bz s=false by unfold bz;rw[la hl,h3];simp)
    have hx:((s[0].toNat:Int)==45)=true:=by simp[h3]
    clear h3
    go_enter Tryz.func191,Tryz.ntmps191
    go_wp2_with fail
    go_ret
    exact⟨aZ Hq.out.symm,rfl⟩
   ·have hx:((s[0].toNat:Int)==45)=false:=zP h3
    by_cases h4:s[s.length - 1]=45
    ·have Hq:=hid (show bz s=false by
      unfold bz
      rw[List.getLast?_eq_getElem?,zLr (by omega),h4];simp)
     have hy:((s[s.length - 1].toNat:Int)==45)=true:=by simp[h4]
     clear h4 h3
     go_enter Tryz.func191,Tryz.ntmps191
     go_wp2_with fail
     go_ret
     exact⟨aZ Hq.out.symm,rfl⟩
    ·have hy:((s[s.length - 1].toNat:Int)==45)=false:=zP h4
     have Hq:=hid (uA s h1 (by omega) (by rw[zLr hl];simpa using h3) (by rw[zLr (by omega)];simpa using h4))
     have BI:decide (63<(s.length:Int))=false:=decide_eq_false (by omega)
     clear h3 h4
     go_enter Tryz.func191,Tryz.ntmps191
     go_wp2_with fail
     go_loop [26] (fun i=>∃ k:Nat,k≤s.length∧i=.int .i64 k∧(s.take k).all vF=true) (fun i=>s.length - (intOf i).toNat)
     case atStart=>exact⟨0,by omega,rfl,rfl⟩
     case round=>(
      obtain⟨k,hk,rfl,aP⟩:=hrel
      have Hall:=hid aP
      clear aP
      by_cases aC:k<s.length
      ·cases hc:vF s[k]
       ·have Ha:=hid (cU aC hc)
        have hc':=hc
        unfold vF at hc'
        simp only[Bool.or_eq_false_iff]at hc'
        obtain⟨⟨c1,c2⟩,c3⟩:=hc'
        have c4:((s[k].toNat:Int) != 45)=true:=by
         have:s[k]≠45:=by simpa using c3
         rw[bne_iff_ne]
         intro h
         exact this (UInt8.toNat_inj.1 (by simp;omega))
        clear c3 hc
        go_wp2_with (first
         | (go_at_call 197;refine(cO _ _).mono ?_;rintro e w' ⟨rfl,rfl⟩)
         | (go_at_call 182;refine(bF _ _).mono ?_;rintro e w' ⟨rfl,rfl⟩))
        go_ret
        exact⟨aZ (by rw[Hq.out,Ha.out]),rfl⟩
       ·have Hc:=hid (aO aC Hall.out hc)
        unfold vF at hc
        simp only[Bool.or_eq_true,beq_iff_eq]at hc
        rcases hc with(hc|hc) | hc
        ·go_wp2_with (first
         | (go_at_call 197;refine(cO _ _).mono ?_;rintro e w' ⟨rfl,rfl⟩)
         | (go_at_call 182;refine(bF _ _).mono ?_;rintro e w' ⟨rfl,rfl⟩))
         go_round
         case rel=>exact⟨k+1,by omega,by go_num,Hc.out⟩
         case measure=>simp[intOf];omega
        ·cases hca:isAlpha s[k]
         all_goals
          go_wp2_with (first
           | (go_at_call 197;refine(cO _ _).mono ?_;rintro e w' ⟨rfl,rfl⟩)
           | (go_at_call 182;refine(bF _ _).mono ?_;rintro e w' ⟨rfl,rfl⟩))
          go_round
          case rel=>exact⟨k+1,by omega,by go_num,Hc.out⟩
          case measure=>simp[intOf];omega
        ·have c4:((s[k].toNat:Int) != 45)=false:=by simp[hc]
         clear hc
         cases hca:isAlpha s[k] <;> cases qO:isDigit s[k]
         all_goals
          go_wp2_with (first
           | (go_at_call 197;refine(cO _ _).mono ?_;rintro e w' ⟨rfl,rfl⟩)
           | (go_at_call 182;refine(bF _ _).mono ?_;rintro e w' ⟨rfl,rfl⟩))
          go_round
          case rel=>exact⟨k+1,by omega,by go_num,Hc.out⟩
          case measure=>simp[intOf];omega
      ·have aP:=Hall.out
       rw[zLx (by omega)]at aP
       have Ha:=hid aP
       clear aP Hall
       go_wp2_with fail
       go_ret
       exact⟨aZ (by rw[Hq.out,Ha.out]),rfl⟩)
 ·have Hq:=hid (show bz s=false by unfold bz;simp[h1])
  go_enter Tryz.func191,Tryz.ntmps191
  go_wp2_with fail
  go_ret
  exact⟨aZ Hq.out.symm,rfl⟩
theorem xE (s:Bytes)(w:World)(hE:Env w)(hs:s.length<4294967281) :
 Calls Tryz.prog 167 #[(Value.string ⟨zLp (s)⟩)] w fun e w'=>e=.returned (.bool (eA s))∧Below w.heap.size w w':=by
 go_enter Tryz.func167,Tryz.ntmps167
 go_wp2_with fail
 go_loopw [0] (fun v wr=>∃ r:Bytes,v=(Value.string ⟨zLp (r)⟩)∧r.length≤s.length∧Below w.heap.size w wr∧eA r=eA s) (fun v _=>iR v)
 case atStart=>exact⟨s,rfl,by omega,Below.refl _ _,rfl⟩
 case round =>
  obtain⟨r,rfl,hr,hw,heq⟩:=hrel
  have Hw:=hid hw
  have HE:=hid (hE.below hw)
  have Heq:=hid heq
  clear hw heq
  by_cases hp:pre (·==46) r<r.length
  ·have hcut:=hid (show aG 46 r=(r.take (pre (·==46) r),r.drop (pre (·==46) r+1),true) from if_pos hp)
   have sA:eA r=(bz (r.take (pre (·==46) r))&&eA (r.drop (pre (·==46) r+1))):=by
    unfold eA
    rw[cG hp]
    have:=qZ 46 (r.drop (pre (·==46) r+1))
    cases mr:aA 46 (r.drop (pre (·==46) r+1)) with
    | nil=>exact absurd mr this
    | cons y l=>rfl
   cases hl:bz (r.take (pre (·==46) r))
   all_goals
    rw[hl]at sA
    have Hnl:=hid (sA.symm.trans Heq.out)
    clear sA
    go_wp2_with fail
    refine(D4 r 46 wr HE.out (by omega)).mono ?_
    rintro e w2 ⟨rfl,n,eU⟩
    rw[hcut.out]
    have Hw2:Hid (Below w.heap.size w w2):=hid (by rw[eU];exact below_drewN Hw.out _)
    clear eU
    go_wp2_with (go_at_call 191;refine(uN _ _ (by simp;omega)).mono ?_;rintro e w' ⟨rfl,rfl⟩)
   ·go_ret
    exact⟨aZ Hnl.out,Hw2.out⟩
   ·go_roundw
    case rel=>exact⟨_,rfl,by simp;omega,Hw2.out,Hnl.out⟩
    case measure=>simp[sLen_mk];omega
  ·have hcut:=hid (show aG 46 r=(r,[],false) from if_neg hp)
   have sA:eA r=(bz r&&!cg r):=by unfold eA;rw[bZ hp];rfl
   have Hnl:=hid (sA.symm.trans Heq.out)
   clear sA
   cases hl:bz r
   all_goals
    rw[hl]at Hnl
    go_wp2_with fail
    refine(D4 r 46 wr HE.out (by omega)).mono ?_
    rintro e w2 ⟨rfl,n,eU⟩
    rw[hcut.out]
    have Hw2:Hid (Below w.heap.size w w2):=hid (by rw[eU];exact below_drewN Hw.out _)
    clear eU
    go_wp2_with (first
     | (go_at_call 191;refine(uN _ _ (by omega)).mono ?_;rintro e w' ⟨rfl,rfl⟩)
     | (go_at_call 192;refine(gU _ _ (by omega)).mono ?_;rintro e w' ⟨rfl,rfl⟩))
    go_ret
    exact⟨aZ (by have:=Hnl.out;simpa using this),Hw2.out⟩
theorem kf (s:Bytes)(w:World)(hE:Env w)(hs:s.length<4294967281) :
 Calls Tryz.prog 147 #[(Value.string ⟨zLp (s)⟩)] w fun e w'=>e=.returned (.bool (ipv4 s))∧Below w.heap.size w w':=by
 have hq:ipv4 s=((aA 46 s).length==4&&(aA 46 s).all eZ):=rfl
 have mr:=s_Split s 46 w hE hs
 have hlen:∀ x∈aA 46 s,x.length≤s.length:=ib 46 s
 generalize aA 46 s=parts at hq mr hlen
 have Hq:=hid hq
 have Hsp:=hid mr
 have Hlen:=hid hlen
 clear hq mr hlen
 by_cases h4:parts.length=4
 ·have hx:((parts.length:Int) != 4)=false:=by simp[h4]
  go_enter Tryz.func147,Tryz.ntmps147
  go_wp2_with fail
  refine Hsp.out.mono ?_
  rintro e w1 ⟨rfl,gA⟩
  have Hrow:Hid (zu w1 w.heap.size parts):=hid (by rw[gA];have:=zu.alloc w parts [] 9;simpa using this)
  have Hw1:Hid (Below w.heap.size w w1):=hid (by rw[gA];exact(Below.refl _ _).alloc (zLB _) _)
  clear gA
  go_wp2_with fail
  go_loop [15] (fun i=>∃ k:Nat,k≤4∧i=.int .i64 k∧(parts.take k).all eZ=true) (fun i=>4 - (intOf i).toNat)
  case atStart=>exact⟨0,by omega,rfl,rfl⟩
  case round =>
   obtain⟨k,hk,rfl,aP⟩:=hrel
   have Hall:=hid aP
   clear aP
   by_cases aC:k<4
   ·have Dx:k<parts.length:=by omega
    have gu:=Hrow.out k Dx
    have hln:=Hlen.out parts[k] (zLD Dx)
    have wA:eZ parts[k]=((aV 255 parts[k]).2==0):=rfl
    cases hc:eZ parts[k]
    ·have Ha:=hid (cU Dx hc)
     have hn:((aV 255 parts[k]).2 != 0)=true:=by rw[hc]at wA;simp only[bne];rw[← wA];rfl
     clear wA
     go_wp2_with (go_at_call 173;refine(kv _ 255 _ (by omega) (by omega)).mono ?_;rintro e w' ⟨rfl,rfl⟩)
     go_ret
     exact⟨aZ (by rw[Hq.out,Ha.out];simp),Hw1.out⟩
    ·have Hn:=hid (aO Dx Hall.out hc)
     have hn:((aV 255 parts[k]).2 != 0)=false:=by rw[hc]at wA;simp only[bne];rw[← wA];rfl
     clear wA
     go_wp2_with (go_at_call 173;refine(kv _ 255 _ (by omega) (by omega)).mono ?_;rintro e w' ⟨rfl,rfl⟩)
     go_round
     case rel=>exact⟨k+1,by omega,by go_num,Hn.out⟩
     case measure=>simp[intOf];omega
   ·have aP:=Hall.out
    rw[zLx (by omega)]at aP
    have Ha:=hid aP
    clear aP Hall
    go_wp2_with fail
    go_ret
    exact⟨aZ (by rw[Hq.out,Ha.out,h4];rfl),Hw1.out⟩
 ·have hx:((parts.length:Int) != 4)=true:=by simp;omega
  go_enter Tryz.func147,Tryz.ntmps147
  go_wp2_with fail
  refine Hsp.out.mono ?_
  rintro e w1 ⟨rfl,gA⟩
  have Hw1:Hid (Below w.heap.size w w1):=hid (by rw[gA];exact(Below.refl _ _).alloc (zLB _) _)
  clear gA
  go_wp2_with fail
  go_ret
  exact⟨aZ (by rw[Hq.out];simp[h4]),Hw1.out⟩
theorem xF (s:Bytes)(w:World)(hE:Env w)(hs:s.length<4294967281) :
 Calls Tryz.prog 140 #[(Value.string ⟨zLp (s)⟩)] w fun e w'=>e=.returned (.tuple #[(Value.string ⟨zLp ((bB s).1)⟩),.int .i64 (bB s).2])∧Below w.heap.size w w':=by
 cases h1:s.isEmpty
 ·by_cases h2:253<s.length
  ·have Hq:=hid (show bB s=([],5) by unfold bB;simp[h1,h2])
   go_enter Tryz.func140,Tryz.ntmps140
   go_wp2_with fail
   go_ret2
   rw[Hq.out]
   exact⟨rfl,Below.refl _ _⟩
  ·cases h3:ipv4 s
   ·cases h4:eA s
    ·have Hq:=hid (show bB s=([],50) by unfold bB;simp[h1,h2,h3,h4])
     go_enter Tryz.func140,Tryz.ntmps140
     go_wp2_with (first
      | (go_at_call 147;refine(kf _ _ hE hs).mono ?_;rintro e w1 ⟨rfl,gA⟩)
      | (go_at_call 167;refine(xE _ _ (hE.below ‹_›) hs).mono ?_;rintro e w2 ⟨rfl,eU⟩))
     go_ret2
     rw[Hq.out]
     exact⟨rfl,bo ‹_› ‹_›⟩
    ·have Hq:=hid (show bB s=(lower s,0) by unfold bB;simp[h1,h2,h3,h4])
     go_enter Tryz.func140,Tryz.ntmps140
     go_wp2_with (first
      | (go_at_call 147;refine(kf _ _ hE hs).mono ?_;rintro e w1 ⟨rfl,gA⟩)
      | (go_at_call 167;refine(xE _ _ (hE.below gA) hs).mono ?_;rintro e w2 ⟨rfl,eU⟩)
      | (go_at_call 66;refine(nM _ _ (by omega)).mono ?_;rintro e w3 ⟨rfl,Cp⟩))
     go_ret2
     rw[Hq.out]
     exact⟨rfl,bo (bo gA eU) Cp⟩
   ·have Hq:=hid (show bB s=(lower s,0) by unfold bB;simp[h1,h2,h3])
    go_enter Tryz.func140,Tryz.ntmps140
    go_wp2_with (first
     | (go_at_call 147;refine(kf _ _ hE hs).mono ?_;rintro e w1 ⟨rfl,gA⟩)
     | (go_at_call 66;refine(nM _ _ (by omega)).mono ?_;rintro e w3 ⟨rfl,Cp⟩))
    go_ret2
    rw[Hq.out]
    exact⟨rfl,bo gA Cp⟩
 ·have Hq:=hid (show bB s=([],3) by unfold bB;simp[h1])
  go_enter Tryz.func140,Tryz.ntmps140
  go_wp2_with fail
  go_ret2
  rw[Hq.out]
  exact⟨rfl,Below.refl _ _⟩
open Go.RowKit Go.Sort Wf
attribute [local go_sem] fH eP get_list
theorem FJ (s:Bytes)(w:World)(hs:s.length≤9223372036854775807) :
 Calls Tryz.prog 176 #[(Value.string ⟨zLp (s)⟩)] w fun e w'=>e=.returned (.tuple #[.int .i64 (iX s).1,.int .i64 (iX s).2])∧w=w':=by
 have hle:=lM 65535 s
 have hq:iX s=if (aV 65535 s).2≠0∨(aV 65535 s).1=0 then(0,51) else(((aV 65535 s).1:Int),0):=rfl
 have hc:=kv s 65535 w (by omega) (by omega)
 generalize aV 65535 s=np at hle hq hc
 obtain⟨n,e⟩:=np
 simp only at hle hq hc
 have Hc:=hid hc
 clear hc
 by_cases he:e=0
 ·subst he
  by_cases hn:n=0
  ·rw[if_pos (Or.inr hn)]at hq
   have Hq:=hid hq
   have hx:((n:Int)==0)=true:=by simp[hn]
   clear hq hn
   go_enter Tryz.func176,Tryz.ntmps176
   go_wp2_with fail
   refine Hc.out.mono ?_
   rintro e w' ⟨rfl,rfl⟩
   go_wp2_with fail
   go_ret2
   rw[Hq.out]
   exact⟨rfl,rfl⟩
  ·rw[if_neg (by simp[hn])]at hq
   have Hq:=hid hq
   have hx:((n:Int)==0)=false:=by simp[hn]
   clear hq hn
   go_enter Tryz.func176,Tryz.ntmps176
   go_wp2_with fail
   refine Hc.out.mono ?_
   rintro e w' ⟨rfl,rfl⟩
   go_wp2_with fail
   go_ret2
   rw[Hq.out]
   exact⟨rfl,rfl⟩
 ·rw[if_pos (Or.inl he)]at hq
  have Hq:=hid hq
  have hx:(e != 0)=true:=by simp[he]
  clear hq
  go_enter Tryz.func176,Tryz.ntmps176
  go_wp2_with fail
  refine Hc.out.mono ?_
  rintro e w' ⟨rfl,rfl⟩
  go_wp2_with fail
  go_ret2
  rw[Hq.out]
  exact⟨rfl,rfl⟩
theorem Du (s:Bytes)(w:World)(hE:Env w)(hs:s.length<4294967281) :
 Calls Tryz.prog 151 #[(Value.string ⟨zLp (s)⟩)] w fun e w'=>e=.returned (.tuple #[.agg #[(Value.string ⟨zLp ((aE s).1.1)⟩),.int .i64 (aE s).1.2],.int .i64 (aE s).2])∧Below w.heap.size w w':=by
 have eg:=eb 58 s
 have hct:=fun w hE=>D4 s 58 w hE hs
 have hq:aE s=cr (bB (aG 58 s).1) (aG 58 s).2.2 (iX (aG 58 s).2.1):=rfl
 generalize aG 58 s=C at eg hct hq
 obtain⟨first,rest,colon⟩:=C
 simp only at eg hct hq
 have hh:=fun w hE=>xF first w hE (by omega)
 have hp:=fun w=>FJ rest w (by omega)
 generalize bB first=H at hq hh
 generalize iX rest=P at hq hp
 obtain⟨h,e⟩:=H
 obtain⟨p,f⟩:=P
 simp only at hh hp
 have Hct:=hid hct
 have Hh:=hid hh
 have Hp:=hid hp
 clear hct hh hp eg
 have ha:=cz w (.cells #[(Value.string ⟨zLp ([])⟩),.int .i64 0] 128)
 have zd:Below w.heap.size w (w.alloc (.cells #[(Value.string ⟨zLp ([])⟩),.int .i64 0] 128)):=(Below.refl _ _).alloc (zLB _) _
 generalize Er:w.alloc (.cells #[(Value.string ⟨zLp ([])⟩),.int .i64 0] 128)=wa at ha zd
 have Ha:=hid ha
 have Hba:=hid zd
 have Hwa:=hid Er
 clear ha zd Er
 by_cases he:e=0
 ·subst he
  cases colon
  ·have Hq:=hid (show aE s=((h,0),0) from hq)
   clear hq
   go_enter Tryz.func151,Tryz.ntmps151
   go_wp2_with fail
   rw[Hwa.out]
   refine(Hct.out _ (hE.below Hba.out)).mono ?_
   rintro e w1 ⟨rfl,n,gA⟩
   have Hw1:Hid (Below w.heap.size w w1):=hid (by rw[gA];exact below_drewN Hba.out _)
   have Ha1:Hid (w1.heap[w.heap.size]? = some (.cells #[(Value.string ⟨zLp ([])⟩),.int .i64 0] 128 (0,0))):=hid (by rw[gA];exact Ha.out)
   clear gA
   go_wp2_with fail
   refine(Hh.out _ (hE.below Hw1.out)).mono ?_
   rintro e w2 ⟨rfl,eU⟩
   have Ha2:=hid ((eU.block _ (bQ Ha1.out)).trans Ha1.out)
   have Hw2:=hid (bo Hw1.out eU)
   clear eU
   have aC:=bQ Ha2.out
   have c0:=Lib.cell_of_heap Ha2.out 0
   have c1:=Lib.cell_of_heap Ha2.out 1
   have z0:=Lib.frozen_of_heap Ha2.out 0
   have z1:=Lib.frozen_of_heap Ha2.out 1
   go_wp2_with fail
   refine bodyPost_ret (v:=.tuple #[.agg #[(Value.string ⟨zLp (h)⟩),.int .i64 0],.int .i64 0]) (by simp[results,Tryz.results151,go_sem,c0,c1,aC]) rfl ⟨?_,?_⟩
   ·rw[Hq.out]
   ·repeat (first|exact Hw2.out | (refine Below.setCell (p:=⟨_,_,none⟩) ?_ (by simp <;> omega) _) | (refine Below.alloc ?_ (by simp <;> omega) _) | refine Below.drew ?_)
  ·by_cases hf:f=0
   ·subst hf
    by_cases mD:p=443
    ·have Hq:=hid (show aE s=((h,0),0) by rw[hq];unfold cr;simp[mD])
     have hx:(p==443)=true:=by simp[mD]
     clear hq mD
     go_enter Tryz.func151,Tryz.ntmps151
     go_wp2_with fail
     rw[Hwa.out]
     refine(Hct.out _ (hE.below Hba.out)).mono ?_
     rintro e w1 ⟨rfl,n,gA⟩
     have Hw1:Hid (Below w.heap.size w w1):=hid (by rw[gA];exact below_drewN Hba.out _)
     have Ha1:Hid (w1.heap[w.heap.size]? = some (.cells #[(Value.string ⟨zLp ([])⟩),.int .i64 0] 128 (0,0))):=hid (by rw[gA];exact Ha.out)
     clear gA
     go_wp2_with fail
     refine(Hh.out _ (hE.below Hw1.out)).mono ?_
     rintro e w2 ⟨rfl,eU⟩
     have Ha2:=hid ((eU.block _ (bQ Ha1.out)).trans Ha1.out)
     have Hw2:=hid (bo Hw1.out eU)
     clear eU
     have aC:=bQ Ha2.out
     have c0:=Lib.cell_of_heap Ha2.out 0
     have c1:=Lib.cell_of_heap Ha2.out 1
     have z0:=Lib.frozen_of_heap Ha2.out 0
     have z1:=Lib.frozen_of_heap Ha2.out 1
     go_wp2_with (go_at_call 176;refine(Hp.out _).mono ?_;rintro e w3 ⟨rfl,rfl⟩)
     refine bodyPost_ret (v:=.tuple #[.agg #[(Value.string ⟨zLp (h)⟩),.int .i64 0],.int .i64 0]) (by simp[results,Tryz.results151,go_sem,c0,c1,aC]) rfl ⟨?_,?_⟩
     ·rw[Hq.out]
     ·repeat (first|exact Hw2.out | (refine Below.setCell (p:=⟨_,_,none⟩) ?_ (by simp <;> omega) _) | (refine Below.alloc ?_ (by simp <;> omega) _) | refine Below.drew ?_)
    ·have Hq:=hid (show aE s=((h,p),0) by rw[hq];unfold cr;simp[mD])
     have hx:(p==443)=false:=by simp[mD]
     clear hq mD
     go_enter Tryz.func151,Tryz.ntmps151
     go_wp2_with fail
     rw[Hwa.out]
     refine(Hct.out _ (hE.below Hba.out)).mono ?_
     rintro e w1 ⟨rfl,n,gA⟩
     have Hw1:Hid (Below w.heap.size w w1):=hid (by rw[gA];exact below_drewN Hba.out _)
     have Ha1:Hid (w1.heap[w.heap.size]? = some (.cells #[(Value.string ⟨zLp ([])⟩),.int .i64 0] 128 (0,0))):=hid (by rw[gA];exact Ha.out)
     clear gA
     go_wp2_with fail
     refine(Hh.out _ (hE.below Hw1.out)).mono ?_
     rintro e w2 ⟨rfl,eU⟩
     have Ha2:=hid ((eU.block _ (bQ Ha1.out)).trans Ha1.out)
     have Hw2:=hid (bo Hw1.out eU)
     clear eU
     have aC:=bQ Ha2.out
     have c0:=Lib.cell_of_heap Ha2.out 0
     have c1:=Lib.cell_of_heap Ha2.out 1
     have z0:=Lib.frozen_of_heap Ha2.out 0
     have z1:=Lib.frozen_of_heap Ha2.out 1
     go_wp2_with (go_at_call 176;refine(Hp.out _).mono ?_;rintro e w3 ⟨rfl,rfl⟩)
     refine bodyPost_ret (v:=.tuple #[.agg #[(Value.string ⟨zLp (h)⟩),.int .i64 p],.int .i64 0]) (by simp[results,Tryz.results151,go_sem,c0,c1,aC]) rfl ⟨?_,?_⟩
     ·rw[Hq.out]
     ·repeat (first|exact Hw2.out | (refine Below.setCell (p:=⟨_,_,none⟩) ?_ (by simp <;> omega) _) | (refine Below.alloc ?_ (by simp <;> omega) _) | refine Below.drew ?_)
   ·have Hq:=hid (show aE s=(([],0),f) by rw[hq];unfold cr;simp[hf])
    have hx:(f != 0)=true:=by simp[hf]
    clear hq hf
    go_enter Tryz.func151,Tryz.ntmps151
    go_wp2_with fail
    rw[Hwa.out]
    refine(Hct.out _ (hE.below Hba.out)).mono ?_
    rintro e w1 ⟨rfl,n,gA⟩
    have Hw1:Hid (Below w.heap.size w w1):=hid (by rw[gA];exact below_drewN Hba.out _)
    have Ha1:Hid (w1.heap[w.heap.size]? = some (.cells #[(Value.string ⟨zLp ([])⟩),.int .i64 0] 128 (0,0))):=hid (by rw[gA];exact Ha.out)
    clear gA
    go_wp2_with fail
    refine(Hh.out _ (hE.below Hw1.out)).mono ?_
    rintro e w2 ⟨rfl,eU⟩
    have Ha2:=hid ((eU.block _ (bQ Ha1.out)).trans Ha1.out)
    have Hw2:=hid (bo Hw1.out eU)
    clear eU
    have aC:=bQ Ha2.out
    have c0:=Lib.cell_of_heap Ha2.out 0
    have c1:=Lib.cell_of_heap Ha2.out 1
    have z0:=Lib.frozen_of_heap Ha2.out 0
    have z1:=Lib.frozen_of_heap Ha2.out 1
    go_wp2_with (go_at_call 176;refine(Hp.out _).mono ?_;rintro e w3 ⟨rfl,rfl⟩)
    refine bodyPost_ret (v:=.tuple #[.agg #[(Value.string ⟨zLp ([])⟩),.int .i64 0],.int .i64 f]) (by simp[results,Tryz.results151,go_sem,c0,c1,aC]) rfl ⟨?_,?_⟩
    ·rw[Hq.out]
    ·repeat (first|exact Hw2.out | (refine Below.setCell (p:=⟨_,_,none⟩) ?_ (by simp <;> omega) _) | (refine Below.alloc ?_ (by simp <;> omega) _) | refine Below.drew ?_)
 ·have hx:(e != 0)=true:=by simp[he]
  have Hq:=hid (show aE s=(([],0),e) by rw[hq];unfold cr;rw[if_pos he])
  clear hq he
  go_enter Tryz.func151,Tryz.ntmps151
  go_wp2_with fail
  rw[Hwa.out]
  refine(Hct.out _ (hE.below Hba.out)).mono ?_
  rintro e w1 ⟨rfl,n,gA⟩
  have Hw1:Hid (Below w.heap.size w w1):=hid (by rw[gA];exact below_drewN Hba.out _)
  have Ha1:Hid (w1.heap[w.heap.size]? = some (.cells #[(Value.string ⟨zLp ([])⟩),.int .i64 0] 128 (0,0))):=hid (by rw[gA];exact Ha.out)
  clear gA
  go_wp2_with fail
  refine(Hh.out _ (hE.below Hw1.out)).mono ?_
  rintro e w2 ⟨rfl,eU⟩
  have Ha2:=hid ((eU.block _ (bQ Ha1.out)).trans Ha1.out)
  have Hw2:=hid (bo Hw1.out eU)
  clear eU
  have aC:=bQ Ha2.out
  have c0:=Lib.cell_of_heap Ha2.out 0
  have c1:=Lib.cell_of_heap Ha2.out 1
  have z0:=Lib.frozen_of_heap Ha2.out 0
  have z1:=Lib.frozen_of_heap Ha2.out 1
  go_wp2_with fail
  refine bodyPost_ret (v:=.tuple #[.agg #[(Value.string ⟨zLp ([])⟩),.int .i64 0],.int .i64 e]) (by simp[results,Tryz.results151,go_sem,c0,c1]) rfl ⟨?_,?_⟩
  ·rw[Hq.out]
  ·repeat (first|exact Hw2.out | (refine Below.setCell (p:=⟨_,_,none⟩) ?_ (by simp <;> omega) _) | (refine Below.alloc ?_ (by simp <;> omega) _) | refine Below.drew ?_)
theorem E8 (B a:Nat)(ha:a≤19)(W:World):(Instr.sliceAt 189 (.pointer (some ⟨B,0,none⟩)) (some (.int .i64 a)) none none).run Tryz.prog W=.ok (.slice (some ⟨B,a,none⟩) (20 - a) (20 - a)) W:=by
 have h20:Tryz.prog.arrayLen 189=20:=by kernel_rfl
 have he:Tryz.prog.elem 189=5:=by kernel_rfl
 have hu:Tryz.prog.underlying 189=some (.array (Tryz.prog.arrayLen 189) (Tryz.prog.elem 189)):=by kernel_rfl
 rw[run_sliceAt_array_l W _ ⟨B,0,none⟩ hu .i64 a (by omega) (by rw[h20];omega),he,h20,Tryz.sizeOf5]
 have:¬ (20=a):=by omega
 simp[Result.andThen,slicedAt,Cg,this]
theorem kx (n:Nat)(w:World)(hn:n≤18446744073709551615) :
 Calls Tryz.prog 180 #[.int .u64 n] w fun e w'=>e=.returned (Value.string ⟨zLp (cJ n)⟩)∧Below w.heap.size w w':=by
 have hlen:(cJ n).length≤20:=dJ 19 n (by omega)
 go_enter Tryz.func180,Tryz.ntmps180
 go_wp2_with fail
 go_loopw [0,4] (fun v i wr=>∃ (k a:Nat) (x ds:Bytes),v=.int .u64 k∧i=.int .i64 a∧k≤18446744073709551615∧a≤19∧jb wr w.heap.size (x++ds)∧x.length=a+1∧ds.length=19 - a∧cJ k++ds=cJ n∧(cJ k).length≤a+1∧Below w.heap.size w wr) (fun v _ _=>(intOf v).toNat)
 case atStart =>
  refine⟨n,19,List.replicate 20 0,[],rfl,rfl,hn,by omega,?_,by simp,rfl,by simp,hlen,(Below.refl _ _).alloc (zLB _) _⟩
  exact⟨[],_,(0,0),cz _ _,Or.inr (by simp)⟩
 case round =>
  obtain⟨k,a,x,ds,rfl,rfl,hk,ha,eV,hx,hds,heq,hl,hw⟩:=hrel
  obtain⟨y,z,rfl,hy⟩:=snoc_of hx
  have e:y++[z]++ds=y++z::ds:=by simp
  rw[e]at eV
  obtain⟨cv,gu⟩:∃ q:Int,wr.cell? ⟨w.heap.size,a,none⟩=some (.int .u8 q):=⟨_,eV.cell (k:=a) (by simp;omega)⟩
  have wD:=eV.frozen (k:=a) (by simp;omega)
  have Hrow:=hid eV
  have Heq:=hid heq
  have Hw:=hid hw
  have Hy:=hid hy
  have Hds:=hid hds
  clear eV heq hw hy hds hx e
  by_cases fm:k<10
  ·have oZ:=Hrow.out.set (k:=a) (by have:=Hy.out;simp;omega) (sE k)
   have jD:(y++z::ds).set a (sE k)=y++(sE k)::ds:=by rw[← Hy.out];exact DY y z _ ds
   rw[jD,nG fm]at oZ
   have iZ:=fun cap=>oZ.backAt Hy.out cap
   have oT:((sE k)::ds).length=20 - a:=by have:=Hds.out;simp;omega
   rw[oT]at iZ
   have Hds2:=hid (show cJ n=(sE k)::ds by rw[← Heq.out,gg fm];rfl)
   have zA:=E8 w.heap.size a ha
   clear oZ jD oT
   go_wp2_with fail
   go_ret
   exact⟨lJ Hds2.out.symm,Hw.out.setCell (p:=⟨w.heap.size,a,none⟩) (zLB _) _⟩
  ·have oZ:=Hrow.out.set (k:=a) (by have:=Hy.out;simp;omega) (sE (k % 10))
   have jD:(y++z::ds).set a (sE (k % 10))=y++(sE (k % 10))::ds:=by rw[← Hy.out];exact DY y z _ ds
   rw[jD,nG (show k % 10<10 by omega)]at oZ
   have Hst:=hid oZ
   have Heq2:=hid (show cJ (k / 10)++(sE (k % 10))::ds=cJ n by rw[← Heq.out,lq fm];simp)
   have gW:=mw fm
   have hp2:=vp (k / 10)
   have Hl2:=hid gW
   clear oZ jD gW
   go_wp2_with fail
   have h1:=Hl2.out
   refine⟨⟨k / 10,a - 1,y,_,congrArg (Value.int .u64) (by omega),congrArg (Value.int .i64) (by omega),by omega,by omega,Hst.out,by have:=Hy.out;omega,by have:=Hds.out;simp;omega,Heq2.out,by omega,Hw.out.setCell (p:=⟨w.heap.size,a,none⟩) (zLB _) _⟩,?_⟩
   simp[intOf];omega
theorem neg_u64 (p:Int)(h:p<0)(h1:-9223372036854775808≤p):IntKind.u64.wrap (-(IntKind.u64.wrap p))=(p.natAbs:Int):=by
 simp only[IntKind.wrap,IntKind.signed,IntKind.bits]
 simp
 omega
theorem Bv (h:Bytes)(p:Int)(w:World)(hh:h.length≤4611686018427387904)(h1:-9223372036854775808≤p)(h2:p≤9223372036854775807) :
 Calls Tryz.prog 153 #[.agg #[(Value.string ⟨zLp (h)⟩),.int .i64 p]] w fun e w'=>e=.returned (Value.string ⟨zLp (bf h p)⟩)∧Below w.heap.size w w':=by
 have ha:=cz w (.cells #[(Value.string ⟨zLp (h)⟩),.int .i64 p] 128)
 have zd:Below w.heap.size w (w.alloc (.cells #[(Value.string ⟨zLp (h)⟩),.int .i64 p] 128)):=(Below.refl _ _).alloc (zLB _) _
 generalize Er:w.alloc (.cells #[(Value.string ⟨zLp (h)⟩),.int .i64 p] 128)=wa at ha zd
 have aC:=bQ ha
 have c0:wa.cell? ⟨w.heap.size,0,none⟩=some (Value.string ⟨zLp (h)⟩):=Lib.cell_of_heap ha 0
 have c1:wa.cell? ⟨w.heap.size,1,none⟩=some (.int .i64 p):=Lib.cell_of_heap ha 1
 have Hba:=hid zd
 have Hwa:=hid Er
 clear ha zd Er
 by_cases h0:p=0
 ·subst h0
  have Hq:=hid (show bf h 0=h from if_pos rfl)
  go_enter Tryz.func153,Tryz.ntmps153
  go_wp2_with fail
  rw[Hwa.out]
  go_wp2_with fail
  go_ret
  exact⟨lJ Hq.out.symm,Hba.out⟩
 ·have hx:(p==0)=false:=by simp[h0]
  by_cases Dv:p<0
  ·have Hq:=hid (show bf h p=h++[58,45]++cJ p.natAbs by unfold bf;rw[if_neg h0,if_pos Dv])
   clear h0
   go_enter Tryz.func153,Tryz.ntmps153
   go_wp2_with fail
   rw[Hwa.out]
   go_wp2_with fail
   have hd:=dJ 19 p.natAbs (by omega)
   have hu:=neg_u64 p Dv h1
   have n1:¬ 9223372036854775807<h.length+2:=by omega
   have n2:¬ 9223372036854775807<h.length+2+(cJ p.natAbs).length:=by omega
   have FH:p.natAbs≤18446744073709551615:=by omega
   have k0:=cell_regrown c0
   have k1:=cell_regrown c1
   clear c0 c1 hx
   refine wp_region_quiet_below (by kernel_rfl) (by kernel_rfl) ?_
   repeat (quiet_step ((go_at_call 180;exact Calls.regrown_of (kx _ _ FH))))
   refine wpQuiet_nil ?_
   intro _ hw'
   obtain⟨⟨dq,osq⟩,hw''⟩:=hw'
   subst hw''
   have zC:=below_regrown wa dq osq
   generalize grow (redrawn wa dq) osq=wq at zC ⊢
   clear hu n1 n2 k0 k1
   go_wp2_with fail
   go_ret
   exact⟨lJ (by rw[Hq.out];simp),bo Hba.out zC⟩
  ·have Hq:=hid (show bf h p=h++[58]++cJ p.natAbs by unfold bf;rw[if_neg h0,if_neg Dv])
   clear h0
   go_enter Tryz.func153,Tryz.ntmps153
   go_wp2_with fail
   rw[Hwa.out]
   go_wp2_with fail
   have hd:=dJ 19 p.natAbs (by omega)
   have hu:IntKind.u64.wrap p=(p.natAbs:Int):=(u64_in (show 0≤p by omega) h2).trans (by omega)
   have n1:¬ 9223372036854775807<h.length+1:=by omega
   have n2:¬ 9223372036854775807<h.length+1+(cJ p.natAbs).length:=by omega
   have FH:p.natAbs≤18446744073709551615:=by omega
   have k0:=cell_regrown c0
   have k1:=cell_regrown c1
   clear c0 c1 hx
   refine wp_region_quiet_below (by kernel_rfl) (by kernel_rfl) ?_
   repeat (quiet_step ((go_at_call 180;exact Calls.regrown_of (kx _ _ FH))))
   refine wpQuiet_nil ?_
   intro _ hw'
   obtain⟨⟨dq,osq⟩,hw''⟩:=hw'
   subst hw''
   have zC:=below_regrown wa dq osq
   generalize grow (redrawn wa dq) osq=wq at zC ⊢
   clear hu n1 n2 k0 k1
   go_wp2_with fail
   go_ret
   exact⟨lJ (by rw[Hq.out];simp),bo Hba.out zC⟩
end Go.Proofs.YteipdaijbncgeaaGreatDoor
namespace Wf
open Go Go.RowKit
theorem owns_lt {w:World}{base:Nat}{e:TypeId}{size:Nat}{v:Value}{n:Nat}{xs:List Value}(h:w.ownsRow base e size v n xs):∀ k,v.ownBlock=some k→base≤k∧k<w.heap.size :=
 (World.ownsRowF_of h).lt
theorem wp_append_one {P:Program}{ops:Array Oper}{rest:List Oper}{o:Oper}{a:Act}{Q:Exit→Act→World→Prop}{w0:World}(hgd:o.guard=none)(s x:Operand)(t:TypeId)
 (ho:o.op=.call { callee:=.builtin .append,args:=#[s,x],argTypes:=#[t,t] }) (e:TypeId) (z:Value) (bytes:Nat) (ht:P.underlying t=some (.slice e))
 (hinfo:(P.info? e).map (fun i=>(i.zero,i.size,i.bytes))=some (some z,1,bytes)) (xD:z.cells.size=1)
 (B:Nat) (v:Value) (n:Nat) (xs:List Value) (hs:a.eval s=v) (od:w0.ownsRow B e 1 v n xs) (u:Value) (T:TypeId)
 (hx:a.eval x=.slice (some ⟨w0.heap.size,0,none⟩) 1 1) (h1:u.oneCell'=true) (tc:n+1≤maxLen) (rF:(n+1) * bytes≤140737488355328) (hB:B≤w0.heap.size)
 (h:∀ v' w',w'.ownsRow B e 1 v' (n+1) (xs++[u])→Below B w0 w'→wpList P ops Q rest (a.put o.dst v') w'):wpList P ops Q (o::rest) a (w0.alloc (.cells #[u] T)):=by
 obtain⟨i,hi,Bo,oc,hz2⟩:=info_parts hinfo
 refine wpList_append_own _ hgd s x t ho B e i z 1 bytes ht hi Bo oc hz2 xD (by decide) v n xs hs (od.alloc _) ⟨w0.heap.size,0,none⟩ 1 1 [u] hx rfl ?_ ?_ tc rF (by simp;omega) ?_
 ·intro j y hy
  rcases j with _|j
  ·simp at hy;subst hy
   exact Go.Lib.cell_of_heap (cz _ _) 0
  ·simp at hy
 ·intro y hy;simp at hy;subst hy;exact h1
 ·intro v' w' h2 h3 _
  exact h v' w' h2 (((Below.refl B w0).alloc hB _).grown h3 (by simp;omega) (fun k hk=>(owns_lt od k hk).1))
theorem uh {w:World}{B:Nat}{e:TypeId}{v:Value}{n:Nat}{xs:List Value}(h:w.ownsRow B e 1 v n xs)(hn:0<n) :
 ∃ g cap,v=.slice (some ⟨g,0,none⟩) n cap∧B≤g∧g<w.heap.size∧n≤cap∧cap≤maxLen∧xs.length=n∧∀ j,j<n→w.cell? ⟨g,j,none⟩=xs[j]? := by
 obtain⟨h1,h2⟩:=h
 rcases h2 with⟨_,h0⟩|⟨g,cap,cur,rfl,hg,hh,hc,hm,kS,ht⟩
 ·omega
 ·refine⟨g,cap,rfl,hg,(Array.getElem?_eq_some_iff.1 hh).1,hc,hm,by simpa using h1,fun j hj=>?_⟩
  have:=World.ownsRow.cellAt (w:=w) (base:=B) (e:=e) (size:=1) (g:=g) (n:=n) (cap:=cap) (xs:=xs) ⟨h1,.inr ⟨g,cap,cur,rfl,hg,hh,hc,hm,kS,ht⟩⟩ j (by omega)
  exact this
theorem Gy {a b:UInt8}(h:a≠b):((a.toNat:Int) != (b.toNat:Int))=true:=by
 rw[bne_iff_ne];intro e;exact h (UInt8.toNat_inj.1 (by omega))
end Wf
namespace Go.Proofs.YteipdaijbncgeaaGreatDoor
open Go.RowKit Go.Sort Wf
attribute [local go_sem] fH eP get_list
def RetStrs (w:World)(l:List Bytes)(e:Ending)(w':World):Prop:=∃ v,e=.returned v∧w'.ownsRow w.heap.size 9 1 v l.length (l.map lF)∧Below w.heap.size w w'
theorem Tryz.Ej:(Tryz.prog.info? 9).map (fun i=>(i.zero,i.size,i.bytes))=some (some (Value.string ⟨zLp ([])⟩),1,16):=by kernel_rfl
theorem sg (s:Bytes)(c:UInt8)(w:World)(hs:s.length≤1000000000) :
 Calls Tryz.prog 95 #[(Value.string ⟨zLp (s)⟩),.int .u8 c.toNat] w (RetStrs w (aA c s)):=by
 go_enter Tryz.func95,Tryz.ntmps95
 go_wp2_with fail
 go_loopw [5,6,7] (fun v f i wr=>∃ (L:List Bytes) (a k:Nat),f=.int .i64 a∧i=.int .i64 k∧a≤k∧k≤s.length∧k - a≤pre (·==c) (s.drop a)∧wr.ownsRow w.heap.size 9 1 v L.length (L.map lF)∧L.length≤a∧L++aA c (s.drop a)=aA c s∧Below w.heap.size w wr) (fun _ _ i _=>s.length - (intOf i).toNat)
 case atStart=>exact⟨[],0,0,rfl,rfl,by omega,by omega,by omega,World.ownsRow_nil _ _ _ _,by simp,rfl,Below.refl _ _⟩
 case round =>
  obtain⟨L,a,k,rfl,rfl,hak,hks,eh,od,hLa,heq,hw⟩:=hrel
  have Hown:=hid od
  have Heq:=hid heq
  have Hw:=hid hw
  have Hpre:=hid eh
  clear od heq hw eh
  by_cases aC:k<s.length
  ·have oT:(s.drop a).length=s.length - a:=by simp
   by_cases hc:s[k]=c
   ·have hx:=u8_eq hc
    have hp:pre (·==c) (s.drop a)=k - a:=by
     have h1:=Hpre.out
     rcases Nat.lt_or_ge (k - a) (pre (·==c) (s.drop a)) with h|h
     ·have:=gH h (by omega)
      rw[List.getElem_drop]at this
      simp only[show a+(k - a)=k by omega]at this
      rw[hc]at this
      simp at this
     ·omega
    have hh:aA c (s.drop a)=(s.drop a).take (k - a)::aA c (s.drop (k+1)):=by
     have:=cG (c:=c) (s:=s.drop a) (by omega)
     rw[hp,List.drop_drop,show a+(k - a+1)=k+1 by omega]at this
     exact this
    have zA:List.drop a (List.take k s)=(s.drop a).take (k - a):=by rw[List.drop_take]
    have Hn:Hid ((L++[List.drop a (List.take k s)])++aA c (s.drop (k+1))=aA c s):=hid (by rw[← Heq.out,hh,zA];simp)
    clear hc hp hh zA oT
    have hwl:=hid (Hw.out.size)
    go_wp2_with (at_builtin;refine wp_append_one rfl _ _ 142 rfl 9 (Value.string ⟨zLp ([])⟩) 16 Tryz.underlying142 Tryz.Ej rfl w.heap.size _ L.length (L.map lF) rfl Hown.out (lF (List.drop a (List.take k s))) _ rfl rfl (by unfold maxLen;omega) (by omega) hwl.out ?_;intro v' w' hown' hb')
    go_roundw
    case rel=>exact⟨L++[List.drop a (List.take k s)],k+1,k+1,by go_num,by go_num,by omega,by omega,by omega,by simpa using hown',by simp;omega,Hn.out,Hw.out.trans hb'⟩
    case measure=>simp[intOf];omega
   ·have hx:=zP hc
    have Hp:Hid (k+1 - a≤pre (·==c) (s.drop a)):=hid (by
     have h1:=Hpre.out
     rcases Nat.lt_or_ge (k - a) (pre (·==c) (s.drop a)) with h|h
     ·omega
     ·have hq:pre (·==c) (s.drop a)=k - a:=by omega
      have:=ga (p:=(·==c)) (l:=s.drop a) (by omega)
      simp only[hq,List.getElem_drop,show a+(k - a)=k by omega]at this
      exact absurd (by simpa using this) hc)
    clear hc oT
    go_wp2_with fail
    go_roundw
    case rel=>exact⟨L,a,k+1,rfl,by go_num,by omega,by omega,Hp.out,Hown.out,by omega,Heq.out,Hw.out⟩
    case measure=>simp[intOf];omega
  ·have hm:=bZ (c:=c) (s:=s.drop a) (by have:=Hpre.out;simp;omega)
   have Hn:Hid (L++[s.drop a]=aA c s):=hid (by rw[← Heq.out,hm])
   clear hm
   have hwl:=hid (Hw.out.size)
   go_wp2_with (at_builtin;refine wp_append_one rfl _ _ 142 rfl 9 (Value.string ⟨zLp ([])⟩) 16 Tryz.underlying142 Tryz.Ej rfl w.heap.size _ L.length (L.map lF) rfl Hown.out (lF (s.drop a)) _ rfl rfl (by unfold maxLen;omega) (by omega) hwl.out ?_;intro v' w' hown' hb')
   go_ret
   exact⟨v',rfl,by rw[← Hn.out];simpa using hown',Hw.out.trans hb'⟩
theorem sf (s:Bytes)(w:World)(hs:s.length≤9223372036854775807) :
 Calls Tryz.prog 126 #[(Value.string ⟨zLp (s)⟩)] w fun e w'=>e=.returned (.bool (bz s))∧w=w':=by
 go_enter Tryz.func126,Tryz.ntmps126
 go_wp2_with fail
 go_loop [3] (fun i=>∃ k:Nat,k≤s.length∧i=.int .i64 k∧(s.take k).all vF=true) (fun i=>s.length - (intOf i).toNat)
 case atStart=>exact⟨0,by omega,rfl,rfl⟩
 case round =>
  obtain⟨k,hk,rfl,aP⟩:=hrel
  have Hall:=hid aP
  clear aP
  by_cases aC:k<s.length
  ·cases hc:vF s[k]
   ·have Ha:=hid (show bz s=false by unfold bz;rw[cU aC hc];simp)
    have hc':=hc
    unfold vF at hc'
    simp only[Bool.or_eq_false_iff]at hc'
    obtain⟨⟨c1,c2⟩,c3⟩:=hc'
    have c4:((s[k].toNat:Int) != 45)=true:=by
     have:s[k]≠45:=by simpa using c3
     rw[bne_iff_ne]
     intro h
     exact this (UInt8.toNat_inj.1 (by simp;omega))
    clear c3 hc
    go_wp2_with (first
     | (go_at_call 93;refine(ix _ _).mono ?_;rintro e w' ⟨rfl,rfl⟩)
     | (go_at_call 94;refine(dr _ _).mono ?_;rintro e w' ⟨rfl,rfl⟩))
    go_ret
    exact⟨aZ Ha.out.symm,rfl⟩
   ·have Hc:=hid (aO aC Hall.out hc)
    unfold vF at hc
    simp only[Bool.or_eq_true,beq_iff_eq]at hc
    rcases hc with(hc|hc) | hc
    ·go_wp2_with (first
     | (go_at_call 93;refine(ix _ _).mono ?_;rintro e w' ⟨rfl,rfl⟩)
     | (go_at_call 94;refine(dr _ _).mono ?_;rintro e w' ⟨rfl,rfl⟩))
     go_round
     case rel=>exact⟨k+1,by omega,by go_num,Hc.out⟩
     case measure=>simp[intOf];omega
    ·cases hca:isAlpha s[k]
     all_goals
      go_wp2_with (first
       | (go_at_call 93;refine(ix _ _).mono ?_;rintro e w' ⟨rfl,rfl⟩)
       | (go_at_call 94;refine(dr _ _).mono ?_;rintro e w' ⟨rfl,rfl⟩))
      go_round
      case rel=>exact⟨k+1,by omega,by go_num,Hc.out⟩
      case measure=>simp[intOf];omega
    ·have c4:((s[k].toNat:Int) != 45)=false:=by simp[hc]
     clear hc
     cases hca:isAlpha s[k] <;> cases qO:isDigit s[k]
     all_goals
      go_wp2_with (first
       | (go_at_call 93;refine(ix _ _).mono ?_;rintro e w' ⟨rfl,rfl⟩)
       | (go_at_call 94;refine(dr _ _).mono ?_;rintro e w' ⟨rfl,rfl⟩))
      go_round
      case rel=>exact⟨k+1,by omega,by go_num,Hc.out⟩
      case measure=>simp[intOf];omega
  ·have aP:=Hall.out
   rw[zLx (by omega)]at aP
   have Ha:=hid aP
   clear aP Hall
   cases h1:s.isEmpty
   ·by_cases h2:63<s.length
    ·have Hq:=hid (show bz s=false by unfold bz;simp;omega)
     go_wp2_with fail
     go_ret
     exact⟨aZ Hq.out.symm,rfl⟩
    ·have hl:0<s.length:=by cases s <;> simp at h1 ⊢
     have h2':s.length≤63:=by omega
     by_cases h3:s[0]=45
     ·have Hq:=hid (show bz s=false by unfold bz;rw[la hl,h3];simp)
      have hx:((s[0].toNat:Int) != 45)=false:=by simp[h3]
      clear h3
      go_wp2_with fail
      go_ret
      exact⟨aZ Hq.out.symm,rfl⟩
     ·have hx:((s[0].toNat:Int) != 45)=true:=Gy h3
      by_cases h4:s[s.length - 1]=45
      ·have Hq:=hid (show bz s=false by
        unfold bz
        rw[List.getLast?_eq_getElem?,zLr (by omega),h4];simp)
       have hy:((s[s.length - 1].toNat:Int) != 45)=false:=by simp[h4]
       clear h4 h3
       go_wp2_with fail
       go_ret
       exact⟨aZ Hq.out.symm,rfl⟩
      ·have hy:((s[s.length - 1].toNat:Int) != 45)=true:=Gy h4
       have Hq:=hid ((uA s h1 (by omega) (by rw[zLr hl];simpa using h3) (by rw[zLr (by omega)];simpa using h4)).trans Ha.out)
       clear h3 h4
       go_wp2_with fail
       go_ret
       exact⟨aZ Hq.out.symm,rfl⟩
   ·have Hq:=hid (show bz s=false by unfold bz;simp[h1])
    go_wp2_with fail
    go_ret
    exact⟨aZ Hq.out.symm,rfl⟩
theorem jd (s:Bytes)(w:World)(hs:s.length≤1000000000) :
 Calls Tryz.prog 74 #[(Value.string ⟨zLp (s)⟩)] w fun e w'=>e=.returned (.bool (ipv4 s))∧Below w.heap.size w w':=by
 have hq:ipv4 s=((aA 46 s).length==4&&(aA 46 s).all eZ):=rfl
 have mr:=sg s 46 w hs
 have hlen:∀ x∈aA 46 s,x.length≤s.length:=ib 46 s
 have bp:=qZ 46 s
 generalize aA 46 s=parts at hq mr hlen bp
 have Dr:=List.length_pos_iff.2 bp
 have Hq:=hid hq
 have Hsp:=hid mr
 have Hlen:=hid hlen
 clear hq mr hlen bp
 go_enter Tryz.func74,Tryz.ntmps74
 go_wp2_with fail
 refine Hsp.out.mono ?_
 rintro e w1 ⟨v,rfl,od,gA⟩
 obtain⟨g,cap,rfl,hg,hgl,lg,sY,_,gd⟩:=uh od Dr
 have Hw1:=hid gA
 have Hcells:=hid gd
 unfold maxLen at sY
 clear gA gd od
 go_wp2_with fail
 go_loop [12] (fun i=>∃ k:Nat,k≤parts.length∧i=.int .i64 k∧(parts.take k).all eZ=true) (fun i=>parts.length - (intOf i).toNat)
 case atStart=>exact⟨0,by omega,rfl,rfl⟩
 case round =>
  obtain⟨k,hk,rfl,aP⟩:=hrel
  have Hall:=hid aP
  clear aP
  by_cases aC:k<parts.length
  ·have gu:w1.cell? ⟨g,k,none⟩=some (Value.string ⟨zLp (parts[k])⟩):=by
    rw[Hcells.out k aC]
    simp[aC,lF]
   have hln:=Hlen.out parts[k] (zLD aC)
   have wA:eZ parts[k]=((aV 255 parts[k]).2==0):=rfl
   cases hc:eZ parts[k]
   ·have Ha:=hid (cU aC hc)
    have hn:((aV 255 parts[k]).2 != 0)=true:=by rw[hc]at wA;simp only[bne];rw[← wA];rfl
    clear wA
    go_wp2_with (go_at_call 97;refine(lK _ 255 _ (by omega) (by omega)).mono ?_;rintro e w' ⟨rfl,rfl⟩)
    go_ret
    exact⟨aZ (by rw[Hq.out,Ha.out];simp),Hw1.out⟩
   ·have Hn:=hid (aO aC Hall.out hc)
    have hn:((aV 255 parts[k]).2 != 0)=false:=by rw[hc]at wA;simp only[bne];rw[← wA];rfl
    clear wA
    go_wp2_with (go_at_call 97;refine(lK _ 255 _ (by omega) (by omega)).mono ?_;rintro e w' ⟨rfl,rfl⟩)
    go_round
    case rel=>exact⟨k+1,by omega,by go_num,Hn.out⟩
    case measure=>simp[intOf];omega
  ·have aP:=Hall.out
   rw[zLx (by omega)]at aP
   have Ha:=hid aP
   clear aP Hall
   go_wp2_with fail
   go_ret
   exact⟨aZ (by rw[Hq.out,Ha.out,Bool.and_true,Bool.eq_iff_iff];simp;omega),Hw1.out⟩
theorem FA (l:List Bytes)(h:l≠[]):mq l=(l.all bz&&!cg (l.getLast h)):=by
 induction l with
 | nil=>exact absurd rfl h
 | cons x l ih =>
   cases l with
   | nil=>simp[mq]
   | cons y r =>
     rw[mq,ih (by simp)]
     simp[Bool.and_assoc]
theorem tU (s:Bytes)(w:World)(hs:s.length≤1000000000) :
 Calls Tryz.prog 92 #[(Value.string ⟨zLp (s)⟩)] w fun e w'=>e=.returned (.bool (eA s))∧Below w.heap.size w w':=by
 have bp:=qZ 46 s
 have mr:=sg s 46 w hs
 have hlen:∀ x∈aA 46 s,x.length≤s.length:=ib 46 s
 obtain⟨parts,Ds⟩:∃ parts,aA 46 s=parts:=⟨_,rfl⟩
 rw[Ds]at mr hlen bp
 have Dr:=List.length_pos_iff.2 bp
 have hq:eA s=(parts.all bz&&!cg (parts[parts.length - 1]'(by omega))):=by
  unfold eA
  rw[Ds,FA _ bp,List.getLast_eq_getElem]
 clear Ds
 have Hq:=hid hq
 have Hsp:=hid mr
 have Hlen:=hid hlen
 clear hq mr hlen
 go_enter Tryz.func92,Tryz.ntmps92
 go_wp2_with fail
 refine Hsp.out.mono ?_
 rintro e w1 ⟨v,rfl,od,gA⟩
 obtain⟨g,cap,rfl,hg,hgl,lg,sY,_,gd⟩:=uh od Dr
 have Hw1:=hid gA
 have Hcells:=hid gd
 unfold maxLen at sY
 clear gA gd od
 go_wp2_with fail
 go_loop [10] (fun i=>∃ k:Nat,k≤parts.length∧i=.int .i64 k∧(parts.take k).all bz=true) (fun i=>parts.length - (intOf i).toNat)
 case atStart=>exact⟨0,by omega,rfl,rfl⟩
 case round =>
  obtain⟨k,hk,rfl,aP⟩:=hrel
  have Hall:=hid aP
  clear aP
  by_cases aC:k<parts.length
  ·have gu:w1.cell? ⟨g,k,none⟩=some (Value.string ⟨zLp (parts[k])⟩):=by
    rw[Hcells.out k aC]
    simp[aC,lF]
   have hln:=Hlen.out parts[k] (zLD aC)
   cases hc:bz parts[k]
   ·have Ha:=hid (cU aC hc)
    go_wp2_with (go_at_call 126;refine(sf _ _ (by omega)).mono ?_;rintro e w' ⟨rfl,rfl⟩)
    go_ret
    exact⟨aZ (by rw[Hq.out,Ha.out];simp),Hw1.out⟩
   ·have Hn:=hid (aO aC Hall.out hc)
    go_wp2_with (go_at_call 126;refine(sf _ _ (by omega)).mono ?_;rintro e w' ⟨rfl,rfl⟩)
    go_round
    case rel=>exact⟨k+1,by omega,by go_num,Hn.out⟩
    case measure=>simp[intOf];omega
  ·have aP:=Hall.out
   rw[zLx (by omega)]at aP
   have Ha:=hid aP
   clear aP Hall
   have gu:w1.cell? ⟨g,parts.length - 1,none⟩=some (Value.string ⟨zLp (parts[parts.length - 1]'(by omega))⟩):=by
    rw[Hcells.out (parts.length - 1) (by omega)]
    rw[List.getElem?_map,zLr (by omega)]
    rfl
   have hln:=Hlen.out (parts[parts.length - 1]'(by omega)) (zLD _)
   have ny:parts.length - 1<parts.length:=by omega
   go_wp2_with (go_at_call 127;refine(yv _ _ (by omega)).mono ?_;rintro e w' ⟨rfl,rfl⟩)
   go_ret
   exact⟨aZ (by rw[Hq.out,Ha.out,Bool.true_and]),Hw1.out⟩
open Go.RowKit Go.Sort Wf
attribute [local go_sem] fH eP get_list
theorem oL (s:Bytes)(w:World)(hs:s.length≤1000000000) :
 Calls Tryz.prog 70 #[(Value.string ⟨zLp (s)⟩)] w fun e w'=>e=.returned (.tuple #[(Value.string ⟨zLp ((bB s).1)⟩),.int .i64 (bB s).2])∧Below w.heap.size w w':=by
 cases h1:s.isEmpty
 ·by_cases h2:253<s.length
  ·have Hq:=hid (show bB s=([],5) by unfold bB;simp[h1,h2])
   go_enter Tryz.func70,Tryz.ntmps70
   go_wp2_with fail
   go_ret2
   rw[Hq.out]
   exact⟨rfl,Below.refl _ _⟩
  ·cases h3:ipv4 s
   ·cases h4:eA s
    ·have Hq:=hid (show bB s=([],50) by unfold bB;simp[h1,h2,h3,h4])
     go_enter Tryz.func70,Tryz.ntmps70
     go_wp2_with (first
      | (go_at_call 74;refine(jd _ _ hs).mono ?_;rintro e w1 ⟨rfl,gA⟩)
      | (go_at_call 92;refine(tU _ _ hs).mono ?_;rintro e w2 ⟨rfl,eU⟩))
     go_ret2
     rw[Hq.out]
     exact⟨rfl,bo ‹_› ‹_›⟩
    ·have Hq:=hid (show bB s=(lower s,0) by unfold bB;simp[h1,h2,h3,h4])
     go_enter Tryz.func70,Tryz.ntmps70
     go_wp2_with (first
      | (go_at_call 74;refine(jd _ _ hs).mono ?_;rintro e w1 ⟨rfl,gA⟩)
      | (go_at_call 92;refine(tU _ _ hs).mono ?_;rintro e w2 ⟨rfl,eU⟩)
      | (go_at_call 47;refine(mZ _ _ (by omega)).mono ?_;rintro e w3 ⟨rfl,Cp⟩))
     go_ret2
     rw[Hq.out]
     exact⟨rfl,bo (bo gA eU) Cp⟩
   ·have Hq:=hid (show bB s=(lower s,0) by unfold bB;simp[h1,h2,h3])
    go_enter Tryz.func70,Tryz.ntmps70
    go_wp2_with (first
     | (go_at_call 74;refine(jd _ _ hs).mono ?_;rintro e w1 ⟨rfl,gA⟩)
     | (go_at_call 47;refine(mZ _ _ (by omega)).mono ?_;rintro e w3 ⟨rfl,Cp⟩))
    go_ret2
    rw[Hq.out]
    exact⟨rfl,bo gA Cp⟩
 ·have Hq:=hid (show bB s=([],3) by unfold bB;simp[h1])
  go_enter Tryz.func70,Tryz.ntmps70
  go_wp2_with fail
  go_ret2
  rw[Hq.out]
  exact⟨rfl,Below.refl _ _⟩
theorem CT (s:Bytes)(w:World)(hs:s.length≤9223372036854775807) :
 Calls Tryz.prog 130 #[(Value.string ⟨zLp (s)⟩)] w fun e w'=>e=.returned (.tuple #[.int .i64 (iX s).1,.int .i64 (iX s).2])∧w=w':=by
 have hle:=lM 65535 s
 have hq:iX s=if (aV 65535 s).2≠0∨(aV 65535 s).1=0 then(0,51) else(((aV 65535 s).1:Int),0):=rfl
 have hc:=lK s 65535 w (by omega) (by omega)
 generalize aV 65535 s=np at hle hq hc
 obtain⟨n,e⟩:=np
 simp only at hle hq hc
 have Hc:=hid hc
 clear hc
 by_cases he:e=0
 ·subst he
  by_cases hn:n=0
  ·rw[if_pos (Or.inr hn)]at hq
   have Hq:=hid hq
   have hx:((n:Int)==0)=true:=by simp[hn]
   clear hq hn
   go_enter Tryz.func130,Tryz.ntmps130
   go_wp2_with fail
   refine Hc.out.mono ?_
   rintro e w' ⟨rfl,rfl⟩
   go_wp2_with fail
   go_ret2
   rw[Hq.out]
   exact⟨rfl,rfl⟩
  ·rw[if_neg (by simp[hn])]at hq
   have Hq:=hid hq
   have hx:((n:Int)==0)=false:=by simp[hn]
   clear hq hn
   go_enter Tryz.func130,Tryz.ntmps130
   go_wp2_with fail
   refine Hc.out.mono ?_
   rintro e w' ⟨rfl,rfl⟩
   go_wp2_with fail
   go_ret2
   rw[Hq.out]
   exact⟨rfl,rfl⟩
 ·rw[if_pos (Or.inl he)]at hq
  have Hq:=hid hq
  have hx:(e != 0)=true:=by simp[he]
  clear hq
  go_enter Tryz.func130,Tryz.ntmps130
  go_wp2_with fail
  refine Hc.out.mono ?_
  rintro e w' ⟨rfl,rfl⟩
  go_wp2_with fail
  go_ret2
  rw[Hq.out]
  exact⟨rfl,rfl⟩
theorem Au (s:Bytes)(w:World)(hs:s.length≤1000000000) :
 Calls Tryz.prog 99 #[(Value.string ⟨zLp (s)⟩)] w fun e w'=>e=.returned (.tuple #[.agg #[(Value.string ⟨zLp ((aE s).1.1)⟩),.int .i64 (aE s).1.2],.int .i64 (aE s).2])∧Below w.heap.size w w':=by
 have eh:pre (has [58] ·) s=pre (·==58) s:=by congr 1;funext c;simp[has];exact(Bool.beq_eq_decide_eq _ _).symm
 have hle:=cq (·==58) s
 have hq:aE s=cr (bB (aG 58 s).1) (aG 58 s).2.2 (iX (aG 58 s).2.1):=rfl
 have ha:=cz w (.cells #[(Value.string ⟨zLp ([])⟩),.int .i64 0] 128)
 have zd:Below w.heap.size w (w.alloc (.cells #[(Value.string ⟨zLp ([])⟩),.int .i64 0] 128)):=(Below.refl _ _).alloc (zLB _) _
 generalize Er:w.alloc (.cells #[(Value.string ⟨zLp ([])⟩),.int .i64 0] 128)=wa at ha zd
 have Ha:=hid ha
 have Hba:=hid zd
 have Hwa:=hid Er
 have Hpre:=hid eh
 clear ha zd Er eh
 by_cases hp:pre (·==58) s<s.length
 ·have hc:aG 58 s=(s.take (pre (·==58) s),s.drop (pre (·==58) s+1),true):=if_pos hp
  rw[hc]at hq
  simp only at hq
  have hh:=fun w=>oL (s.take (pre (·==58) s)) w (by simp;omega)
  have hpp:=fun w=>CT (s.drop (pre (·==58) s+1)) w (by simp;omega)
  have ny:(s.take (pre (·==58) s)).length≤s.length:=by rw[zLy];omega
  generalize bB (s.take (pre (·==58) s))=H at hq hh
  generalize iX (s.drop (pre (·==58) s+1))=P at hq hpp
  obtain⟨h,e⟩:=H
  obtain⟨p,f⟩:=P
  simp only at hh hpp
  have Hh:=hid hh
  have Hp:=hid hpp
  have hkne:((pre (·==58) s:Int)==(s.length:Int))=false:=beq_eq_false_iff_ne.2 (by omega)
  clear hh hpp hc
  generalize pre (·==58) s=k at Hh Hp hkne hp hle Hpre ny
  by_cases he:e=0
  ·subst he
   by_cases hf:f=0
   ·subst hf
    by_cases mD:p=443
    ·have Hq:=hid (show aE s=((h,0),0) by rw[hq];unfold cr;simp[mD])
     have hx:(p==443)=true:=by simp[mD]
     clear hq mD
     go_enter Tryz.func99,Tryz.ntmps99
     go_wp2_with fail
     rw[Hwa.out]
     go_wp2_with fail
     refine(gl s [58] _ (by omega) (by decide)).mono ?_
     rintro e w1 ⟨rfl,rfl⟩
     rw[Hpre.out]
     go_wp2_with fail
     refine(Hh.out _).mono ?_
     rintro e w2 ⟨rfl,eU⟩
     have Ha2:=hid ((eU.block _ (bQ Ha.out)).trans Ha.out)
     have Hw2:=hid (bo Hba.out eU)
     clear eU
     have aC:=bQ Ha2.out
     have c0:=Lib.cell_of_heap Ha2.out 0
     have c1:=Lib.cell_of_heap Ha2.out 1
     have z0:=Lib.frozen_of_heap Ha2.out 0
     have z1:=Lib.frozen_of_heap Ha2.out 1
     go_wp2_with fail
     go_wp2_with (go_at_call 130;refine(Hp.out _).mono ?_;rintro e w3 ⟨rfl,rfl⟩)
     refine bodyPost_ret (v:=.tuple #[.agg #[(Value.string ⟨zLp (h)⟩),.int .i64 0],.int .i64 0]) (by simp[results,Tryz.results99,go_sem,c0,c1]) rfl ⟨?_,?_⟩
     ·rw[Hq.out]
     ·repeat (first|exact Hw2.out | (refine Below.setCell (p:=⟨_,_,none⟩) ?_ (by simp <;> omega) _) | (refine Below.alloc ?_ (by simp <;> omega) _) | refine Below.drew ?_)
    ·have Hq:=hid (show aE s=((h,p),0) by rw[hq];unfold cr;simp[mD])
     have hx:(p==443)=false:=by simp[mD]
     clear hq mD
     go_enter Tryz.func99,Tryz.ntmps99
     go_wp2_with fail
     rw[Hwa.out]
     go_wp2_with fail
     refine(gl s [58] _ (by omega) (by decide)).mono ?_
     rintro e w1 ⟨rfl,rfl⟩
     rw[Hpre.out]
     go_wp2_with fail
     refine(Hh.out _).mono ?_
     rintro e w2 ⟨rfl,eU⟩
     have Ha2:=hid ((eU.block _ (bQ Ha.out)).trans Ha.out)
     have Hw2:=hid (bo Hba.out eU)
     clear eU
     have aC:=bQ Ha2.out
     have c0:=Lib.cell_of_heap Ha2.out 0
     have c1:=Lib.cell_of_heap Ha2.out 1
     have z0:=Lib.frozen_of_heap Ha2.out 0
     have z1:=Lib.frozen_of_heap Ha2.out 1
     go_wp2_with fail
     go_wp2_with (go_at_call 130;refine(Hp.out _).mono ?_;rintro e w3 ⟨rfl,rfl⟩)
     refine bodyPost_ret (v:=.tuple #[.agg #[(Value.string ⟨zLp (h)⟩),.int .i64 p],.int .i64 0]) (by simp[results,Tryz.results99,go_sem,c0,c1]) rfl ⟨?_,?_⟩
     ·rw[Hq.out]
     ·repeat (first|exact Hw2.out | (refine Below.setCell (p:=⟨_,_,none⟩) ?_ (by simp <;> omega) _) | (refine Below.alloc ?_ (by simp <;> omega) _) | refine Below.drew ?_)
   ·have Hq:=hid (show aE s=(([],0),f) by rw[hq];unfold cr;simp[hf])
    have hx:(f != 0)=true:=by simp[hf]
    clear hq hf
    go_enter Tryz.func99,Tryz.ntmps99
    go_wp2_with fail
    rw[Hwa.out]
    go_wp2_with fail
    refine(gl s [58] _ (by omega) (by decide)).mono ?_
    rintro e w1 ⟨rfl,rfl⟩
    rw[Hpre.out]
    go_wp2_with fail
    refine(Hh.out _).mono ?_
    rintro e w2 ⟨rfl,eU⟩
    have Ha2:=hid ((eU.block _ (bQ Ha.out)).trans Ha.out)
    have Hw2:=hid (bo Hba.out eU)
    clear eU
    have aC:=bQ Ha2.out
    have c0:=Lib.cell_of_heap Ha2.out 0
    have c1:=Lib.cell_of_heap Ha2.out 1
    have z0:=Lib.frozen_of_heap Ha2.out 0
    have z1:=Lib.frozen_of_heap Ha2.out 1
    go_wp2_with fail
    go_wp2_with (go_at_call 130;refine(Hp.out _).mono ?_;rintro e w3 ⟨rfl,rfl⟩)
    refine bodyPost_ret (v:=.tuple #[.agg #[(Value.string ⟨zLp ([])⟩),.int .i64 0],.int .i64 f]) (by simp[results,Tryz.results99,go_sem,c0,c1]) rfl ⟨?_,?_⟩
    ·rw[Hq.out]
    ·repeat (first|exact Hw2.out | (refine Below.setCell (p:=⟨_,_,none⟩) ?_ (by simp <;> omega) _) | (refine Below.alloc ?_ (by simp <;> omega) _) | refine Below.drew ?_)
  ·have hx:(e != 0)=true:=by simp[he]
   have Hq:=hid (show aE s=(([],0),e) by rw[hq];unfold cr;rw[if_pos he])
   clear hq he
   go_enter Tryz.func99,Tryz.ntmps99
   go_wp2_with fail
   rw[Hwa.out]
   go_wp2_with fail
   refine(gl s [58] _ (by omega) (by decide)).mono ?_
   rintro e w1 ⟨rfl,rfl⟩
   rw[Hpre.out]
   go_wp2_with fail
   refine(Hh.out _).mono ?_
   rintro e w2 ⟨rfl,eU⟩
   have Ha2:=hid ((eU.block _ (bQ Ha.out)).trans Ha.out)
   have Hw2:=hid (bo Hba.out eU)
   clear eU
   have aC:=bQ Ha2.out
   have c0:=Lib.cell_of_heap Ha2.out 0
   have c1:=Lib.cell_of_heap Ha2.out 1
   have z0:=Lib.frozen_of_heap Ha2.out 0
   have z1:=Lib.frozen_of_heap Ha2.out 1
   go_wp2_with fail
   refine bodyPost_ret (v:=.tuple #[.agg #[(Value.string ⟨zLp ([])⟩),.int .i64 0],.int .i64 e]) (by simp[results,Tryz.results99,go_sem,c0,c1]) rfl ⟨?_,?_⟩
   ·rw[Hq.out]
   ·repeat (first|exact Hw2.out | (refine Below.setCell (p:=⟨_,_,none⟩) ?_ (by simp <;> omega) _) | (refine Below.alloc ?_ (by simp <;> omega) _) | refine Below.drew ?_)
 ·have hc:aG 58 s=(s,[],false):=if_neg hp
  have hk:pre (·==58) s=s.length:=by omega
  rw[hc]at hq
  simp only at hq
  have hh:=fun w=>oL s w hs
  generalize bB s=H at hq hh
  obtain⟨h,e⟩:=H
  simp only at hh
  have Hh:=hid hh
  have Hpre:=hid (Hpre.out.trans hk)
  clear hh hk hc
  by_cases he:e=0
  ·subst he
   have Hq:=hid (show aE s=((h,0),0) from hq)
   clear hq
   go_enter Tryz.func99,Tryz.ntmps99
   go_wp2_with fail
   rw[Hwa.out]
   go_wp2_with fail
   refine(gl s [58] _ (by omega) (by decide)).mono ?_
   rintro e w1 ⟨rfl,rfl⟩
   rw[Hpre.out]
   go_wp2_with fail
   refine(Hh.out _).mono ?_
   rintro e w2 ⟨rfl,eU⟩
   have Ha2:=hid ((eU.block _ (bQ Ha.out)).trans Ha.out)
   have Hw2:=hid (bo Hba.out eU)
   clear eU
   have aC:=bQ Ha2.out
   have c0:=Lib.cell_of_heap Ha2.out 0
   have c1:=Lib.cell_of_heap Ha2.out 1
   have z0:=Lib.frozen_of_heap Ha2.out 0
   have z1:=Lib.frozen_of_heap Ha2.out 1
   go_wp2_with fail
   refine bodyPost_ret (v:=.tuple #[.agg #[(Value.string ⟨zLp (h)⟩),.int .i64 0],.int .i64 0]) (by simp[results,Tryz.results99,go_sem,c0,c1]) rfl ⟨?_,?_⟩
   ·rw[Hq.out]
   ·repeat (first|exact Hw2.out | (refine Below.setCell (p:=⟨_,_,none⟩) ?_ (by simp <;> omega) _) | (refine Below.alloc ?_ (by simp <;> omega) _) | refine Below.drew ?_)
  ·have hx:(e != 0)=true:=by simp[he]
   have Hq:=hid (show aE s=(([],0),e) by rw[hq];unfold cr;rw[if_pos he])
   clear hq he
   go_enter Tryz.func99,Tryz.ntmps99
   go_wp2_with fail
   rw[Hwa.out]
   go_wp2_with fail
   refine(gl s [58] _ (by omega) (by decide)).mono ?_
   rintro e w1 ⟨rfl,rfl⟩
   rw[Hpre.out]
   go_wp2_with fail
   refine(Hh.out _).mono ?_
   rintro e w2 ⟨rfl,eU⟩
   have Ha2:=hid ((eU.block _ (bQ Ha.out)).trans Ha.out)
   have Hw2:=hid (bo Hba.out eU)
   clear eU
   have aC:=bQ Ha2.out
   have c0:=Lib.cell_of_heap Ha2.out 0
   have c1:=Lib.cell_of_heap Ha2.out 1
   have z0:=Lib.frozen_of_heap Ha2.out 0
   have z1:=Lib.frozen_of_heap Ha2.out 1
   go_wp2_with fail
   refine bodyPost_ret (v:=.tuple #[.agg #[(Value.string ⟨zLp ([])⟩),.int .i64 0],.int .i64 e]) (by simp[results,Tryz.results99,go_sem,c0,c1]) rfl ⟨?_,?_⟩
   ·rw[Hq.out]
   ·repeat (first|exact Hw2.out | (refine Below.setCell (p:=⟨_,_,none⟩) ?_ (by simp <;> omega) _) | (refine Below.alloc ?_ (by simp <;> omega) _) | refine Below.drew ?_)
theorem pN (n:Nat)(w:World)(hn:n≤18446744073709551615) :
 Calls Tryz.prog 162 #[.int .u64 n] w fun e w'=>e=.returned (Value.string ⟨zLp (cJ n)⟩)∧Below w.heap.size w w':=by
 have hlen:(cJ n).length≤20:=dJ 19 n (by omega)
 go_enter Tryz.func162,Tryz.ntmps162
 go_wp2_with fail
 go_loopw [0,3] (fun v o wr=>∃ (k:Nat) (ds:Bytes),v=.int .u64 k∧o=(Value.string ⟨zLp (ds)⟩)∧k≤18446744073709551615∧(cJ k).length+ds.length≤20∧cJ k++ds=cJ n∧Below w.heap.size w wr) (fun v _ _=>(intOf v).toNat)
 case atStart=>exact⟨n,[],rfl,rfl,hn,by simpa using hlen,by simp,Below.refl _ _⟩
 case round =>
  obtain⟨k,ds,rfl,rfl,hk,hl,heq,hw⟩:=hrel
  have eV:∀ T,jb (wr.alloc (.cells #[.int .u8 (48+(k:Int) % 10)] T)) wr.heap.size [sE (k % 10)]:=fun T =>
   ⟨[],T,(0,0),by rw[cz];simp only[List.map_cons,List.map_nil,List.append_nil,u8V,nG (show k % 10<10 by omega)];rfl,Or.inr (by simp)⟩
  have iZ:=fun T=>(eV T).back 1
  simp only[zLs,zLu,Nat.zero_add]at iZ
  have Heq:=hid heq
  have Hw:=hid hw
  clear heq hw eV
  by_cases fm:k<10
  ·have hz:((k:Int) / 10==0)=true:=by simp;omega
   have hm:k % 10=k:=by omega
   have Hn:=hid (show cJ n=sE (k % 10)::ds by rw[← Heq.out,gg fm,hm];rfl)
   have hll:ds.length≤20:=by omega
   clear hm
   go_wp2_with fail
   go_ret
   refine⟨lJ (by rw[Hn.out]),?_⟩
   exact Hw.out.alloc Hw.out.size _
  ·have hz:((k:Int) / 10==0)=false:=by simp;omega
   have Hn:=hid (show cJ (k / 10)++sE (k % 10)::ds=cJ n by rw[← Heq.out,lq fm];simp)
   have gW:=mw fm
   have Hl2:=hid gW
   have hll:ds.length≤20:=by omega
   clear gW
   go_wp2_with fail
   have h1:=Hl2.out
   refine⟨⟨k / 10,sE (k % 10)::ds,congrArg (Value.int .u64) (by omega),rfl,by omega,by simp;omega,Hn.out,Hw.out.alloc Hw.out.size _⟩,?_⟩
   simp[intOf];omega
theorem ou (p:Int)(w:World)(h1:-9223372036854775808≤p)(h2:p≤9223372036854775807) :
 Calls Tryz.prog 132 #[.int .i64 p] w fun e w'=>e=.returned (Value.string ⟨zLp ((if p<0 then [45] else [])++cJ p.natAbs)⟩)∧Below w.heap.size w w':=by
 have hd:=dJ 19 p.natAbs (by omega)
 by_cases Dv:p<0
 ·rw[if_pos Dv]
  have hp:-(p+1)+1=(p.natAbs:Int):=by omega
  have hnn:p.natAbs≤18446744073709551615:=by omega
  go_enter Tryz.func132,Tryz.ntmps132
  go_wp2_with fail
  clear hp
  go_wp2_with (go_at_call 162;refine(pN _ _ hnn).mono ?_;rintro e w1 ⟨rfl,gA⟩)
  go_ret
  exact⟨rfl,gA⟩
 ·rw[if_neg Dv]
  obtain⟨n,rfl⟩:=Int.eq_ofNat_of_zero_le (show 0≤p by omega)
  go_enter Tryz.func132,Tryz.ntmps132
  go_wp2_with (go_at_call 162;refine(pN _ _ (by omega)).mono ?_;rintro e w1 ⟨rfl,gA⟩)
  go_ret
  exact⟨rfl,gA⟩
theorem yu (h:Bytes)(p:Int)(w:World)(hh:h.length≤4611686018427387904)(h1:-9223372036854775808≤p)(h2:p≤9223372036854775807) :
 Calls Tryz.prog 101 #[.agg #[(Value.string ⟨zLp (h)⟩),.int .i64 p]] w fun e w'=>e=.returned (Value.string ⟨zLp (bf h p)⟩)∧Below w.heap.size w w':=by
 have ha:=cz w (.cells #[(Value.string ⟨zLp (h)⟩),.int .i64 p] 128)
 have zd:Below w.heap.size w (w.alloc (.cells #[(Value.string ⟨zLp (h)⟩),.int .i64 p] 128)):=(Below.refl _ _).alloc (zLB _) _
 generalize Er:w.alloc (.cells #[(Value.string ⟨zLp (h)⟩),.int .i64 p] 128)=wa at ha zd
 have aC:=bQ ha
 have c0:wa.cell? ⟨w.heap.size,0,none⟩=some (Value.string ⟨zLp (h)⟩):=Lib.cell_of_heap ha 0
 have c1:wa.cell? ⟨w.heap.size,1,none⟩=some (.int .i64 p):=Lib.cell_of_heap ha 1
 have Hba:=hid zd
 have Hwa:=hid Er
 clear ha zd Er
 by_cases h0:p=0
 ·subst h0
  have Hq:=hid (show bf h 0=h from if_pos rfl)
  go_enter Tryz.func101,Tryz.ntmps101
  go_wp2_with fail
  rw[Hwa.out]
  go_wp2_with fail
  go_ret
  exact⟨lJ Hq.out.symm,Hba.out⟩
 ·have hx:(p==0)=false:=by simp[h0]
  have hq:bf h p=h++58::((if p<0 then [45] else [])++cJ p.natAbs):=by
   unfold bf
   rw[if_neg h0]
   split <;> simp
  have hd:=dJ 19 p.natAbs (by omega)
  have oT:((if p<0 then [45] else [])++cJ p.natAbs).length≤21:=by split <;> simp <;> omega
  have hdc:=fun w=>ou p w h1 h2
  generalize (if p<0 then [45] else [])++cJ p.natAbs=ds at hq oT hdc
  have Hq:=hid hq
  have Hdc:=hid hdc
  clear h0 hq hdc hd
  go_enter Tryz.func101,Tryz.ntmps101
  go_wp2_with fail
  rw[Hwa.out]
  go_wp2_with fail
  have n1:¬ 9223372036854775807<h.length+1:=by omega
  have n2:¬ 9223372036854775807<h.length+1+ds.length:=by omega
  have k0:=cell_regrown c0
  have k1:=cell_regrown c1
  clear c0 c1 hx
  refine wp_region_quiet_below (by kernel_rfl) (by kernel_rfl) ?_
  repeat (quiet_step ((go_at_call 132;exact Calls.regrown_of (Hdc.out _))))
  refine wpQuiet_nil ?_
  intro _ hw'
  obtain⟨⟨dq,osq⟩,hw''⟩:=hw'
  subst hw''
  have zC:=below_regrown wa dq osq
  generalize grow (redrawn wa dq) osq=wq at zC ⊢
  clear n1 n2 k0 k1
  go_wp2_with fail
  go_ret
  exact⟨lJ Hq.out.symm,bo Hba.out zC⟩
open Go Vc Go.RowKit Wf
theorem so (s:Bytes)(hs:s.length<4294967281):PC Tryz.V 140 [.str s] (.eR [.str (bB s).1,.int .i64 (bB s).2]) :=
 ⟨Tryz.call140,by simp[flat,flat.ai],by simp[flat,flat.ai],fun w hE=>(xF s w hE hs).mono fun _ _ ⟨h,k⟩=>⟨h,k⟩⟩
theorem pQ (s:Bytes)(hs:s.length<4294967281):PC Tryz.V 151 [.str s] (.eR [.agg [.str (aE s).1.1,.int .i64 (aE s).1.2],.int .i64 (aE s).2]) :=
 ⟨Tryz.call151,by simp[flat,flat.ai],by simp[flat,flat.ai],fun w hE=>(Du s w hE hs).mono fun _ _ ⟨h,k⟩=>⟨h,k⟩⟩
theorem wi (h:Bytes)(p:Int)(hh:h.length≤4611686018427387904)(h1:-9223372036854775808≤p)(h2:p≤9223372036854775807):PC Tryz.V 153 [.agg [.str h,.int .i64 p]] (.str (bf h p)) :=
 ⟨Tryz.call153,by simp[flat,flat.ai],by simp[flat,flat.ai],fun w hE=>(Bv h p w hh h1 h2).mono fun _ _ ⟨h,k⟩=>⟨h,k⟩⟩
theorem xh (s:Bytes)(hs:s.length≤1000000000):PC Tryz.V 70 [.str s] (.eR [.str (bB s).1,.int .i64 (bB s).2]) :=
 ⟨Tryz.call70,by simp[flat,flat.ai],by simp[flat,flat.ai],fun w hE=>(oL s w hs).mono fun _ _ ⟨h,k⟩=>⟨h,k⟩⟩
theorem tZ (s:Bytes)(hs:s.length≤1000000000):PC Tryz.V 99 [.str s] (.eR [.agg [.str (aE s).1.1,.int .i64 (aE s).1.2],.int .i64 (aE s).2]) :=
 ⟨Tryz.call99,by simp[flat,flat.ai],by simp[flat,flat.ai],fun w hE=>(Au s w hs).mono fun _ _ ⟨h,k⟩=>⟨h,k⟩⟩
theorem AM (h:Bytes)(p:Int)(hh:h.length≤4611686018427387904)(h1:-9223372036854775808≤p)(h2:p≤9223372036854775807):PC Tryz.V 101 [.agg [.str h,.int .i64 p]] (.str (bf h p)) :=
 ⟨Tryz.call101,by simp[flat,flat.ai],by simp[flat,flat.ai],fun w hE=>(yu h p w hh h1 h2).mono fun _ _ ⟨h,k⟩=>⟨h,k⟩⟩
theorem yK (s:Bytes)(hs:s.length≤9223372036854775807):PC Tryz.V 66 [.str s] (.str (lower s)) :=
 ⟨Tryz.call66,by simp[flat,flat.ai],by simp[flat,flat.ai],fun w hE=>(nM s w hs).mono fun _ _ ⟨h,k⟩=>⟨h,k⟩⟩
theorem oM (s:Bytes)(hs:s.length≤9223372036854775807):PC Tryz.V 47 [.str s] (.str (lower s)) :=
 ⟨Tryz.call47,by simp[flat,flat.ai],by simp[flat,flat.ai],fun w hE=>(mZ s w hs).mono fun _ _ ⟨h,k⟩=>⟨h,k⟩⟩
theorem yL (s t:Bytes)(hs:s.length≤9223372036854775807)(ht:t.length≤9223372036854775807):PC Tryz.V 141 [.str s,.str t] (.bool (lower s==lower t)):=by
 refine aQ 3000 Tryz.func141 rfl Tryz.ntmps141 Tryz.results141 Tryz.call141 (by simp) (by simp[flat,flat.ai]) (by simp[flat,flat.ai]) ?_
 simp only[ae,↓Xn,↓Xo,↓Xg,↓Xd,↓Xe,↓Xf,Tryz.VΓ,Tryz.Γs,Xp,Xi,Nat.reduceAdd,Nat.reduceSub,Nat.reduceLT,Nat.reduceLeDiff,reduceIte,reduceCtorEq,Nat.reduceEqDiff,implies_true,forall_const,ad]
 (refine aa (yK s hs) ?_;simp only[ae,↓Xn,↓Xo,↓Xg,↓Xd,↓Xe,↓Xf,Tryz.VΓ,Tryz.Γs,Xp,Xi,Nat.reduceAdd,Nat.reduceSub,Nat.reduceLT,Nat.reduceLeDiff,reduceIte,reduceCtorEq,Nat.reduceEqDiff,implies_true,forall_const,ad])
 (refine aa (yK t ht) ?_;simp only[ae,↓Xn,↓Xo,↓Xg,↓Xd,↓Xe,↓Xf,Tryz.VΓ,Tryz.Γs,Xp,Xi,Nat.reduceAdd,Nat.reduceSub,Nat.reduceLT,Nat.reduceLeDiff,reduceIte,reduceCtorEq,Nat.reduceEqDiff,implies_true,forall_const,ad])
theorem oN (s t:Bytes)(hs:s.length≤9223372036854775807)(ht:t.length≤9223372036854775807):PC Tryz.V 68 [.str s,.str t] (.bool (lower s==lower t)):=by
 refine aQ 3000 Tryz.func68 rfl Tryz.ntmps68 Tryz.results68 Tryz.call68 (by simp) (by simp[flat,flat.ai]) (by simp[flat,flat.ai]) ?_
 simp only[ae,↓Xn,↓Xo,↓Xg,↓Xd,↓Xe,↓Xf,Tryz.VΓ,Tryz.Γs,Xp,Xi,Nat.reduceAdd,Nat.reduceSub,Nat.reduceLT,Nat.reduceLeDiff,reduceIte,reduceCtorEq,Nat.reduceEqDiff,implies_true,forall_const,ad]
 (refine aa (oM s hs) ?_;simp only[ae,↓Xn,↓Xo,↓Xg,↓Xd,↓Xe,↓Xf,Tryz.VΓ,Tryz.Γs,Xp,Xi,Nat.reduceAdd,Nat.reduceSub,Nat.reduceLT,Nat.reduceLeDiff,reduceIte,reduceCtorEq,Nat.reduceEqDiff,implies_true,forall_const,ad])
 (refine aa (oM t ht) ?_;simp only[ae,↓Xn,↓Xo,↓Xg,↓Xd,↓Xe,↓Xf,Tryz.VΓ,Tryz.Γs,Xp,Xi,Nat.reduceAdd,Nat.reduceSub,Nat.reduceLT,Nat.reduceLeDiff,reduceIte,reduceCtorEq,Nat.reduceEqDiff,implies_true,forall_const,ad])
theorem rX {c:UInt8}{s:Bytes}{a i:Nat}(hi:i<s.length)(ha:a≤i)(hp:i - a≤pre (·==c) (s.drop a))(hc:s[i]=c):aA c (s.drop a)=(s.take i).drop a::aA c (s.drop (i+1)):=by
 have eh:pre (·==c) (s.drop a)=i - a:=by
  apply Nat.le_antisymm _ hp
  apply Nat.le_of_not_lt
  intro aC
  have:=gH (p:=(·==c)) (l:=s.drop a) (k:=i - a) aC (by simp;omega)
  simp[show a+(i - a)=i by omega,hc]at this
 rw[cG (by rw[eh,zLq];omega),eh,List.drop_drop,List.drop_take,show a+(i - a+1)=i+1 by omega]
theorem xb {c:UInt8}{s:Bytes}{a i:Nat}(hi:i<s.length)(ha:a≤i)(hp:i - a≤pre (·==c) (s.drop a))(hc:s[i]≠c):i+1 - a≤pre (·==c) (s.drop a):=by
 apply Nat.le_of_not_lt
 intro aC
 have eh:pre (·==c) (s.drop a)=i - a:=by omega
 have:=ga (p:=(·==c)) (l:=s.drop a) (by rw[eh,zLq];omega)
 simp[eh,show a+(i - a)=i by omega]at this
 exact hc this
def SplI (bs:List aw)(s:Bytes)(c:UInt8)(σ:St):Prop:=∃ (i a:Nat) (x:SV) (dn:List Bytes),lk 0 σ.t=some (.str s)∧lk 1 σ.t=some (.int .u8 c.toNat)∧lk 5 σ.t=some x∧lk 6 σ.t=some (.int .i64 a)∧lk 7 σ.t=some (.int .i64 i) ∧
 a≤i∧i≤s.length∧dn.length≤a∧i - a≤pre (·==c) (s.drop a)∧dn++aA c (s.drop a)=aA c s∧Sl 9 1 bs.length x σ.b (dn.map SV.str) dn.length∧Kp bs σ.b
def SplM (s:Bytes)(σ:St):Nat:=match lk 7 σ.t with
 | some (.int _ k)=>s.length - k.toNat
 | _=>0
theorem EZ {s:Bytes}{σ:St}{k:Nat}(h:lk 7 σ.t=some (.int .i64 k)):SplM s σ=s.length - k:=by simp[SplM,h]
theorem ye {bs b:List aw}{s:Bytes}{c:UInt8}{t:List (Nat × SV)}{i i' a:Nat}{x:SV}{dn:List Bytes}(h0:lk 0 t=some (.str s))(h1:lk 1 t=some (.int .u8 c.toNat))(h5:lk 5 t=some x)(h6:lk 6 t=some (.int .i64 a))(h7:lk 7 t=some (.int .i64 i'))
 (h:a≤i'∧i'≤s.length∧dn.length≤a∧i' - a≤pre (·==c) (s.drop a)) (mr:dn++aA c (s.drop a)=aA c s) (zA:Sl 9 1 bs.length x b (dn.map SV.str) dn.length) (cL:Kp bs b) (aC:i<i'):SplI bs s c ⟨t,b⟩∧SplM s ⟨t,b⟩<s.length - i :=
 ⟨⟨i',a,x,dn,h0,h1,h5,h6,h7,h.1,h.2.1,h.2.2.1,h.2.2.2,mr,zA,cL⟩,by rw[EZ h7];omega⟩
theorem pH {bs:List aw}(s:Bytes)(c:UInt8)(hs:s.length≤1000000) :
 SC Tryz.V 95 [.str s,.int .u8 c.toNat] bs (fun r b=>∃ j,r=.o j (aA c s).length∧bs.length≤j∧b[j]? = some (.own ((aA c s).map SV.str) 9 1 (aA c s).length true)∧Kp bs b):=by
 refine cV 3000 Tryz.func95 rfl Tryz.ntmps95 Tryz.results95 Tryz.call95 (by simp) (ax bs.length _ (by simp[within,within.aS])) ?_
 simp only[ae,↓Xn,↓Xo,↓Xg,↓Xd,↓Xe,↓Xf,Tryz.VΓ,Tryz.Γs,Xp,Xi,Nat.reduceAdd,Nat.reduceSub,Nat.reduceLT,Nat.reduceLeDiff,reduceIte,reduceCtorEq,Nat.reduceEqDiff,implies_true,forall_const,ad]
 refine aL (SplI bs s c) (SplM s) ⟨0,0,.aI,[],rfl,rfl,rfl,rfl,rfl,by simp,by simp,by simp,by simp,by simp,.inl ⟨rfl,rfl,rfl⟩,Kp.refl _⟩ ?_
 rintro⟨t,b⟩ ⟨i,a,x,dn,h0,h1,h5,h6,h7,hai,his,hda,hp,mr,zA,cL⟩
 simp only at h0 h1 h5 h6 h7 zA cL
 rw[EZ h7]
 rcases zA with⟨rfl,fG,hda0⟩|⟨j,rfl,lA,hj⟩
 ·obtain rfl:dn=[]:=by simpa using fG
  simp only[ae,↓Xn,↓Xo,↓Xg,↓Xd,↓Xe,↓Xf,Tryz.VΓ,Tryz.Γs,Xp,Xi,Nat.reduceAdd,Nat.reduceSub,Nat.reduceLT,Nat.reduceLeDiff,reduceIte,reduceCtorEq,Nat.reduceEqDiff,implies_true,forall_const,ad,h0,h1,h5,h6,h7,aW]
  refine⟨fun hc=>?_,fun hc=>?_⟩
  ·have hi:i<s.length:=by simpa using hc
   refine⟨⟨by omega,by omega⟩,fun hq=>⟨⟨by omega,by omega,by omega⟩,by omega,⟨by unfold maxLen;omega,by omega⟩,⟨by omega,by omega⟩,⟨by omega,by omega⟩,?_⟩,fun hq=>⟨⟨by omega,by omega⟩,?_⟩⟩
   ·rw[cE hi c rfl]at hq
    have oZ:=rX hi hai hp (by simpa using hq)
    refine ye (i':=i+1) (a:=i+1) (dn:=[(s.take i).drop a]) h0 h1 (by simp[lk]) rfl rfl ⟨by omega,by omega,by simp,by omega⟩ ?_ (.inr ⟨(b++[aw.own [.str ((s.take i).drop a)] 9 1 1 true]).length,rfl,?_,aW _ _⟩) ((cL.app _).app _) (by omega)
    ·rw[← mr,oZ];simp
    ·have:=cL.1;simp;omega
   ·rw[cE hi c rfl]at hq
    exact ye (i':=i+1) (dn:=[]) h0 h1 h5 h6 rfl ⟨by omega,by omega,by simp,xb hi hai hp (by simpa using hq)⟩ mr (.inl ⟨rfl,rfl,rfl⟩) cL (by omega)
  ·have hi:i=s.length:=by simp at hc;omega
   refine⟨⟨by omega,by omega⟩,by omega,⟨by unfold maxLen;omega,by omega⟩,?_⟩
   have hms:aA c s=[s.drop a]:=by
    rw[← mr,bZ (by rw[zLq];omega)];rfl
   rw[hms]
   refine⟨(b++[aw.own [.str (s.drop a)] 9 1 1 true]).length,rfl,?_,aW _ _,(cL.app _).app _⟩
   have:=cL.1;simp;omega
 ·have h2:∀ X,(b++[X])[j]? = some (.own (dn.map SV.str) 9 1 dn.length true):=fun X=>af hj _
  simp only[ae,↓Xn,↓Xo,↓Xg,↓Xd,↓Xe,↓Xf,Tryz.VΓ,Tryz.Γs,Xp,Xi,Nat.reduceAdd,Nat.reduceSub,Nat.reduceLT,Nat.reduceLeDiff,reduceIte,reduceCtorEq,Nat.reduceEqDiff,implies_true,forall_const,ad,h0,h1,h5,h6,h7,aW,h2]
  have mG:j<b.length:=(zLw.1 hj).1
  refine⟨fun hc=>?_,fun hc=>?_⟩
  ·have hi:i<s.length:=by simpa using hc
   refine⟨⟨by omega,by omega⟩,fun hq=>⟨⟨by omega,by omega,by omega⟩,by omega,⟨by unfold maxLen;omega,by omega⟩,⟨by omega,by omega⟩,⟨by omega,by omega⟩,?_⟩,fun hq=>⟨⟨by omega,by omega⟩,?_⟩⟩
   ·rw[cE hi c rfl]at hq
    have oZ:=rX hi hai hp (by simpa using hq)
    refine ye (i':=i+1) (a:=i+1) (dn:=dn++[(s.take i).drop a]) h0 h1 (by simp[lk];rfl) rfl rfl ⟨by omega,by omega,by simp;omega,by omega⟩ ?_ (.inr ⟨(b++[aw.own [.str ((s.take i).drop a)] 9 1 1 true]).length,by simp,?_,?_⟩) (((cL.app _).set lA _).app _) (by omega)
    ·rw[← mr,oZ];simp
    ·have:=cL.1;simp;omega
    ·rw[zLv (by simp)];simp
   ·rw[cE hi c rfl]at hq
    exact ye (i':=i+1) (dn:=dn) h0 h1 h5 h6 rfl ⟨by omega,by omega,hda,xb hi hai hp (by simpa using hq)⟩ mr (.inr ⟨j,rfl,lA,hj⟩) cL (by omega)
  ·have hi:i=s.length:=by simp at hc;omega
   refine⟨⟨by omega,by omega⟩,by omega,⟨by unfold maxLen;omega,by omega⟩,?_⟩
   have hms:aA c s=dn++[s.drop a]:=by
    rw[← mr,bZ (c:=c) (s:=s.drop a) (by rw[zLq];omega)]
   rw[hms]
   refine⟨(b++[aw.own [.str (s.drop a)] 9 1 1 true]).length,by simp,?_,?_,((cL.app _).set lA _).app _⟩
   ·have:=cL.1;simp;omega
   ·rw[zLv (by simp)];simp
def Ef (m:mi):SV:=.agg [.str m.loc,.str m.host]
theorem wh (s:Bytes)(hs:s.length<4294967281):PC Tryz.V 147 [.str s] (.bool (ipv4 s)) :=
 ⟨Tryz.call147,by simp[flat,flat.ai],by simp[flat,flat.ai],fun w hE=>(kf s w hE hs).mono fun _ _ ⟨h,k⟩=>⟨h,k⟩⟩
theorem AL (s:Bytes)(hs:s.length≤1000000000):PC Tryz.V 74 [.str s] (.bool (ipv4 s)) :=
 ⟨Tryz.call74,by simp[flat,flat.ai],by simp[flat,flat.ai],fun w hE=>(jd s w hs).mono fun _ _ ⟨h,k⟩=>⟨h,k⟩⟩
theorem EX (s:Bytes)(a c:UInt8):decide (0≤Lib.indexAny s [a,c])=decide (a∈s∨c∈s):=by
 rw[lP]
 by_cases h:pre ([a,c].contains ·) s<s.length
 ·rw[if_pos h]
  have h1:=ga h
  have h2:s[pre ([a,c].contains ·) s]∈s:=zLD h
  have h3:s[pre ([a,c].contains ·) s]=a∨s[pre ([a,c].contains ·) s]=c:=by simpa using h1
  simp only[Int.natCast_nonneg,decide_true]
  symm
  exact decide_eq_true (by rcases h3 with e|e <;> rw[e]at h2 <;> simp[h2])
 ·rw[if_neg h]
  simp only[show ¬ (0:Int)≤-1 by omega,decide_false]
  symm
  refine decide_eq_false ?_
  intro k
  have hle:=cq ([a,c].contains ·) s
  have:∀ d∈s,[a,c].contains d=false:=by
   intro d hd
   obtain⟨j,hj,rfl⟩:=List.getElem_of_mem hd
   exact gH (p:=([a,c].contains ·)) (k:=j) (by omega) hj
  rcases k with k|k
  ·have:=this _ k;simp at this
  ·have:=this _ k;simp at this
theorem wk (s:Bytes)(a c:UInt8)(ha:a.toNat<128)(hc:c.toNat<128)(hs:s.length<4294967281):PC Tryz.V 142 [.str s,.str [a,c]] (.bool (decide (a∈s∨c∈s))):=by
 have pi:=ud s [a,c] (fun i h=>by
  match i,h with
  | 0,_=>exact ha
  | 1,_=>exact hc) (by simp) (by simp) hs
 refine aQ 3000 Tryz.func142 rfl Tryz.ntmps142 Tryz.results142 Tryz.call142 (by simp) (by simp[flat,flat.ai]) (by simp[flat,flat.ai]) ?_
 simp only[ae,↓Xn,↓Xo,↓Xg,↓Xd,↓Xe,↓Xf,Tryz.VΓ,Tryz.Γs,Xp,Xi,Nat.reduceAdd,Nat.reduceSub,Nat.reduceLT,Nat.reduceLeDiff,reduceIte,reduceCtorEq,Nat.reduceEqDiff,implies_true,forall_const,ad]
 (refine aa (pi) ?_;simp only[ae,↓Xn,↓Xo,↓Xg,↓Xd,↓Xe,↓Xf,Tryz.VΓ,Tryz.Γs,Xp,Xi,Nat.reduceAdd,Nat.reduceSub,Nat.reduceLT,Nat.reduceLeDiff,reduceIte,reduceCtorEq,Nat.reduceEqDiff,implies_true,forall_const,ad])
 rw[EX]
theorem AQ (c:UInt8):PC Tryz.V 171 [.int .u8 c.toNat] (.bool (my c)):=by
 refine aQ 3000 Tryz.func171 rfl Tryz.ntmps171 Tryz.results171 Tryz.call171 (by simp) (by simp[flat,flat.ai]) (by simp[flat,flat.ai]) ?_
 simp only[ae,↓Xn,↓Xo,↓Xg,↓Xd,↓Xe,↓Xf,Tryz.VΓ,Tryz.Γs,Xp,Xi,Nat.reduceAdd,Nat.reduceSub,Nat.reduceLT,Nat.reduceLeDiff,reduceIte,reduceCtorEq,Nat.reduceEqDiff,implies_true,forall_const,ad]
 (refine aa (xp c) ?_;simp only[ae,↓Xn,↓Xo,↓Xg,↓Xd,↓Xe,↓Xf,Tryz.VΓ,Tryz.Γs,Xp,Xi,Nat.reduceAdd,Nat.reduceSub,Nat.reduceLT,Nat.reduceLeDiff,reduceIte,reduceCtorEq,Nat.reduceEqDiff,implies_true,forall_const,ad])
 unfold my
 refine⟨fun h=>?_,fun h=>by rw[h];rfl⟩
 (refine aa (nR c) ?_;simp only[ae,↓Xn,↓Xo,↓Xg,↓Xd,↓Xe,↓Xf,Tryz.VΓ,Tryz.Γs,Xp,Xi,Nat.reduceAdd,Nat.reduceSub,Nat.reduceLT,Nat.reduceLeDiff,reduceIte,reduceCtorEq,Nat.reduceEqDiff,implies_true,forall_const,ad])
 rw[h]
 refine⟨fun h2=>?_,fun h2=>by rw[h2];rfl⟩
 (refine aa (dG I5 c) ?_;simp only[ae,↓Xn,↓Xo,↓Xg,↓Xd,↓Xe,↓Xf,Tryz.VΓ,Tryz.Γs,Xp,Xi,Nat.reduceAdd,Nat.reduceSub,Nat.reduceLT,Nat.reduceLeDiff,reduceIte,reduceCtorEq,Nat.reduceEqDiff,implies_true,forall_const,ad])
 rw[qg,h2];rfl
theorem Fo (c:UInt8):PC Tryz.V 96 [.int .u8 c.toNat] (.bool (my c)):=by
 refine aQ 3000 Tryz.func96 rfl Tryz.ntmps96 Tryz.results96 Tryz.call96 (by simp) (by simp[flat,flat.ai]) (by simp[flat,flat.ai]) ?_
 simp only[ae,↓Xn,↓Xo,↓Xg,↓Xd,↓Xe,↓Xf,Tryz.VΓ,Tryz.Γs,Xp,Xi,Nat.reduceAdd,Nat.reduceSub,Nat.reduceLT,Nat.reduceLeDiff,reduceIte,reduceCtorEq,Nat.reduceEqDiff,implies_true,forall_const,ad]
 (refine aa (je c) ?_;simp only[ae,↓Xn,↓Xo,↓Xg,↓Xd,↓Xe,↓Xf,Tryz.VΓ,Tryz.Γs,Xp,Xi,Nat.reduceAdd,Nat.reduceSub,Nat.reduceLT,Nat.reduceLeDiff,reduceIte,reduceCtorEq,Nat.reduceEqDiff,implies_true,forall_const,ad])
 unfold my
 refine⟨fun h=>?_,fun h=>by rw[h];rfl⟩
 (refine aa (gK c) ?_;simp only[ae,↓Xn,↓Xo,↓Xg,↓Xd,↓Xe,↓Xf,Tryz.VΓ,Tryz.Γs,Xp,Xi,Nat.reduceAdd,Nat.reduceSub,Nat.reduceLT,Nat.reduceLeDiff,reduceIte,reduceCtorEq,Nat.reduceEqDiff,implies_true,forall_const,ad])
 rw[h]
 refine⟨fun h2=>?_,fun h2=>by rw[h2];rfl⟩
 (refine aa (jZ c I5 (by decide)) ?_;simp only[ae,↓Xn,↓Xo,↓Xg,↓Xd,↓Xe,↓Xf,Tryz.VΓ,Tryz.Γs,Xp,Xi,Nat.reduceAdd,Nat.reduceSub,Nat.reduceLT,Nat.reduceLeDiff,reduceIte,reduceCtorEq,Nat.reduceEqDiff,implies_true,forall_const,ad])
 rw[h2];rfl
def LoI (s:Bytes)(σ:St):Prop:=∃ (i:Nat) (d:Bool),i≤s.length∧lk 0 σ.t=some (.str s)∧lk 3 σ.t=some (.bool d)∧lk 6 σ.t=some (.int .i64 s.length)∧lk 7 σ.t=some (.int .i64 i)∧kO d (s.drop i)=kO true s
def LoM (s:Bytes)(σ:St):Nat:=match lk 7 σ.t with
 | some (.int _ k)=>s.length - k.toNat
 | _=>0
theorem Jf {s:Bytes}{σ:St}{k:Nat}(h:lk 7 σ.t=some (.int .i64 k)):LoM s σ=s.length - k:=by simp[LoM,h]
theorem yH (s:Bytes)(hs:s.length≤4611686018427387904):PC Tryz.V 146 [.str s] (.bool (jg s)):=by
 rw[Dh]
 refine aQ 3000 Tryz.func146 rfl Tryz.ntmps146 Tryz.results146 Tryz.call146 (by simp) (by simp[flat,flat.ai]) (by simp[flat,flat.ai]) ?_
 simp only[ae,↓Xn,↓Xo,↓Xg,↓Xd,↓Xe,↓Xf,Tryz.VΓ,Tryz.Γs,Xp,Xi,Nat.reduceAdd,Nat.reduceSub,Nat.reduceLT,Nat.reduceLeDiff,reduceIte,reduceCtorEq,Nat.reduceEqDiff,implies_true,forall_const,ad]
 refine aL (LoI s) (LoM s) ⟨0,true,by omega,rfl,rfl,rfl,rfl,rfl⟩ ?_
 rintro⟨t,b⟩ ⟨i,d,hi,h0,h3,h6,h7,hl⟩
 simp only at h0 h3 h6 h7
 rw[Jf h7]
 by_cases aC:i<s.length
 ·have hg:s.getD i 0=s[i]:=by simp[zLA,aC]
  have fB:=cE (s:=s) aC 46 (n:=46) rfl
  have kG:(((s.getD i 0).toNat:Int) != 46)=(s[i] != 46):=by
   show (!_)=(!_);rw[fB]
  have mk:∀ (t':List (Nat × SV)),lk 0 t'=some (.str s)→lk 3 t'=some (.bool (s[i]==46))→lk 6 t'=some (.int .i64 s.length)→lk 7 t'=some (.int .i64 (i+1:Nat))→kO (s[i]==46) (s.drop (i+1))=kO true s→LoI s ⟨t',b⟩∧LoM s ⟨t',b⟩<s.length - i:=fun t' k0 k3 k6 k7 kl =>
   ⟨⟨i+1,_,by omega,k0,k3,k6,k7,kl⟩,by rw[Jf k7];omega⟩
  rw[List.drop_eq_getElem_cons aC,kO]at hl
  by_cases hc:s[i]=46
  ·have hb:(((s.getD i 0).toNat:Int)==46)=true:=by rw[fB,hc];rfl
   have oA:(((s.getD i 0).toNat:Int) != 46)=false:=by rw[kG,hc];rfl
   have hbt:(s[i]==46)=true:=by rw[hc];rfl
   rw[hbt]at mk
   rw[hc]at hl
   cases d
   ·simp only[ae,↓Xn,↓Xo,↓Xg,↓Xd,↓Xe,↓Xf,Tryz.VΓ,Tryz.Γs,Xp,Xi,Nat.reduceAdd,Nat.reduceSub,Nat.reduceLT,Nat.reduceLeDiff,reduceIte,reduceCtorEq,Nat.reduceEqDiff,implies_true,forall_const,ad,h0,h3,h6,h7,hb,oA]
    refine⟨fun _=>⟨⟨by omega,by omega⟩,⟨by omega,by omega⟩,⟨by omega,by omega⟩,⟨by omega,by omega⟩,mk _ h0 rfl h6 (by simp only[lk,reduceIte,zLt.injEq,SV.int.injEq,true_and];omega) (by simpa using hl)⟩,fun h=>absurd h (by simp;omega)⟩
   ·have hf:kO true s=false:=by rw[← hl];rfl
    rw[hf]
    simp only[ae,↓Xn,↓Xo,↓Xg,↓Xd,↓Xe,↓Xf,Tryz.VΓ,Tryz.Γs,Xp,Xi,Nat.reduceAdd,Nat.reduceSub,Nat.reduceLT,Nat.reduceLeDiff,reduceIte,reduceCtorEq,Nat.reduceEqDiff,implies_true,forall_const,ad,h0,h3,h6,h7,hb,oA]
    exact fun _=>⟨⟨by omega,by omega⟩,by omega,by omega⟩
  ·have hb:((s[i].toNat:Int)==46)=false:=by rw[← hg,fB];simpa using hc
   have oA:((s[i].toNat:Int) != 46)=true:=by rw[← hg,kG];simpa using hc
   have hbt:(s[i]==46)=false:=by simpa using hc
   rw[hbt]at mk
   have hbn:(s[i] != 46)=true:=by simpa using hc
   rw[hbt,hbn]at hl
   simp only[ae,↓Xn,↓Xo,↓Xg,↓Xd,↓Xe,↓Xf,Tryz.VΓ,Tryz.Γs,Xp,Xi,Nat.reduceAdd,Nat.reduceSub,Nat.reduceLT,Nat.reduceLeDiff,reduceIte,reduceCtorEq,Nat.reduceEqDiff,implies_true,forall_const,ad,h0,h3,h6,h7,hg,hb,oA]
   refine⟨fun _=>⟨⟨by omega,by omega⟩,⟨by omega,by omega⟩,?_⟩,fun h=>absurd h (by simp;omega)⟩
   (refine aa (AQ s[i]) ?_;simp only[ae,↓Xn,↓Xo,↓Xg,↓Xd,↓Xe,↓Xf,Tryz.VΓ,Tryz.Γs,Xp,Xi,Nat.reduceAdd,Nat.reduceSub,Nat.reduceLT,Nat.reduceLeDiff,reduceIte,reduceCtorEq,Nat.reduceEqDiff,implies_true,forall_const,ad,h0,h3,h6,h7,hg,hb,oA])
   cases ha:my s[i]
   ·rw[ha]at hl
    have hf:kO true s=false:=by rw[← hl];rfl
    rw[hf]
    simp only[ae,↓Xn,↓Xo,↓Xg,↓Xd,↓Xe,↓Xf,Tryz.VΓ,Tryz.Γs,Xp,Xi,Nat.reduceAdd,Nat.reduceSub,Nat.reduceLT,Nat.reduceLeDiff,reduceIte,reduceCtorEq,Nat.reduceEqDiff,implies_true,forall_const,ad,h0,h3,h6,h7,hg,hb,oA]
   ·rw[ha]at hl
    simp only[ae,↓Xn,↓Xo,↓Xg,↓Xd,↓Xe,↓Xf,Tryz.VΓ,Tryz.Γs,Xp,Xi,Nat.reduceAdd,Nat.reduceSub,Nat.reduceLT,Nat.reduceLeDiff,reduceIte,reduceCtorEq,Nat.reduceEqDiff,implies_true,forall_const,ad,h0,h3,h6,h7,hg,hb,oA]
    exact⟨⟨by omega,by omega⟩,⟨by omega,by omega⟩,⟨by omega,by omega⟩,mk _ h0 rfl h6 (by simp only[lk,reduceIte,zLt.injEq,SV.int.injEq,true_and];omega) (by simpa using hl)⟩
 ·have jk:i=s.length:=by omega
  subst jk
  rw[List.drop_length,kO]at hl
  simp only[ae,↓Xn,↓Xo,↓Xg,↓Xd,↓Xe,↓Xf,Tryz.VΓ,Tryz.Γs,Xp,Xi,Nat.reduceAdd,Nat.reduceSub,Nat.reduceLT,Nat.reduceLeDiff,reduceIte,reduceCtorEq,Nat.reduceEqDiff,implies_true,forall_const,ad,h0,h3,h6,h7]
  refine⟨fun h=>absurd h (by simp),fun _=>⟨fun h=>?_,fun h=>?_⟩⟩
  ·rw[← hl,h]
   congr 1
   rw[Bool.true_and]
   exact decide_eq_decide.2 ⟨fun h=>by omega,fun h=>by omega⟩
  ·rw[← hl,h];rfl
theorem CX (s:Bytes):PC Tryz.V 73 [.str s] (.bool (jg s)):=by
 refine aQ 3000 Tryz.func73 rfl Tryz.ntmps73 Tryz.results73 Tryz.call73 (by simp) (by simp[flat,flat.ai]) (by simp[flat,flat.ai]) ?_
 simp only[ae,↓Xn,↓Xo,↓Xg,↓Xd,↓Xe,↓Xf,Tryz.VΓ,Tryz.Γs,Xp,Xi,Nat.reduceAdd,Nat.reduceSub,Nat.reduceLT,Nat.reduceLeDiff,reduceIte,reduceCtorEq,Nat.reduceEqDiff,implies_true,forall_const,ad]
 unfold jg
 refine⟨fun bp=>⟨fun hl=>?_,fun hl=>?_⟩,fun bp=>?_⟩
 ·have hl:¬ s.length≤64:=(by simp at hl;omega)
  rw[decide_eq_false hl,Bool.and_false]
 ·have hl:s.length≤64:=(by simp at hl;omega)
  rw[decide_eq_true hl,Bool.and_true]
  have zA:=ib 46 s
  refine aT (pH s 46 (by omega)) ?_
  rintro r b ⟨j,rfl,lA,hj,cL⟩
  have hct:=iw 46 s
  have hcc:=List.count_le_length (a:=(46:UInt8)) (l:=s)
  generalize aA 46 s=L at *
  simp only at lA hj cL
  simp only[ae,↓Xn,↓Xo,↓Xg,↓Xd,↓Xe,↓Xf,Tryz.VΓ,Tryz.Γs,Xp,Xi,Nat.reduceAdd,Nat.reduceSub,Nat.reduceLT,Nat.reduceLeDiff,reduceIte,reduceCtorEq,Nat.reduceEqDiff,implies_true,forall_const,ad,hj]
  refine aL (fun σ=>∃ k:Nat,k≤L.length∧lk 14 σ.t=some (.o j L.length)∧lk 15 σ.t=some (.int .i64 L.length)∧lk 16 σ.t=some (.int .i64 k)∧σ.b[j]? = some (.own (L.map SV.str) 9 1 L.length true)∧(L.take k).all fY=true) (fun σ=>L.length - ji 16 σ) ⟨0,by omega,rfl,rfl,rfl,hj,rfl⟩ ?_
  rintro⟨t,b⟩ ⟨k,hk,h14,h15,h16,hb,bN⟩
  simp only at h14 h15 h16 hb
  rw[az h16]
  by_cases aC:k<L.length
  ·have h33:(L.map SV.str)[k * 1]? = some (.str L[k]):=by simp[aC]
   have zz:=zA L[k] (zLD aC)
   generalize hx:L[k]=x at *
   have rE:fY x=false→L.all fY=false:=fun h=>by
    rw[← Bool.not_eq_true]
    intro h2
    have:=zLJ.1 h2 x (hx ▸ zLD aC)
    rw[h]at this;cases this
   simp only[ae,↓Xn,↓Xo,↓Xg,↓Xd,↓Xe,↓Xf,Tryz.VΓ,Tryz.Γs,Xp,Xi,Nat.reduceAdd,Nat.reduceSub,Nat.reduceLT,Nat.reduceLeDiff,reduceIte,reduceCtorEq,Nat.reduceEqDiff,implies_true,forall_const,ad,h14,h15,h16,hb,h33]
   refine⟨fun _=>⟨⟨by omega,by omega⟩,by simp;omega,fun hn=>?_,fun hn=>?_⟩,fun h=>absurd h (by simp;omega)⟩
   ·have hn:x=[]:=by simpa using hn
    rw[rE (by rw[hn];rfl)]
   have hn:x.isEmpty=false:=by cases x <;> simp at hn ⊢
   refine aL (fun σ=>∃ i:Nat,i≤x.length∧lk 4 σ.t=some (.str x)∧lk 5 σ.t=some (.int .i64 i)∧lk 14 σ.t=some (.o j L.length)∧lk 15 σ.t=some (.int .i64 L.length)∧lk 16 σ.t=some (.int .i64 k)∧σ.b[j]? = some (.own (L.map SV.str) 9 1 L.length true)∧(x.take i).all my=true) (fun σ=>x.length - ji 5 σ) ⟨0,by omega,rfl,rfl,h14,h15,h16,hb,rfl⟩ ?_
   rintro⟨t',b'⟩ ⟨i,hi,g4,g5,g14,g15,g16,gb,gZ⟩
   simp only at g4 g5 g14 g15 g16 gb
   rw[az g5]
   by_cases eF:i<x.length
   ·have hg:x.getD i 0=x[i]:=by simp[zLA,eF]
    simp only[ae,↓Xn,↓Xo,↓Xg,↓Xd,↓Xe,↓Xf,Tryz.VΓ,Tryz.Γs,Xp,Xi,Nat.reduceAdd,Nat.reduceSub,Nat.reduceLT,Nat.reduceLeDiff,reduceIte,reduceCtorEq,Nat.reduceEqDiff,implies_true,forall_const,ad,g4,g5,g14,g15,g16,gb,hg]
    refine⟨fun _=>⟨⟨by omega,by omega⟩,?_⟩,fun h=>absurd h (by simp;omega)⟩
    (refine aa (Fo x[i]) ?_;simp only[ae,↓Xn,↓Xo,↓Xg,↓Xd,↓Xe,↓Xf,Tryz.VΓ,Tryz.Γs,Xp,Xi,Nat.reduceAdd,Nat.reduceSub,Nat.reduceLT,Nat.reduceLeDiff,reduceIte,reduceCtorEq,Nat.reduceEqDiff,implies_true,forall_const,ad,g4,g5,g14,g15,g16,gb,hg])
    refine⟨fun ha=>?_,fun ha=>⟨⟨by omega,by omega⟩,⟨i+1,by omega,rfl,aO eF gZ (by simpa using ha)⟩,?_⟩⟩
    ·have ha:my x[i]=false:=by simpa using ha
     rw[rE (by unfold fY;rw[cU eF ha,Bool.and_false])]
    ·rw[az (k:=.i64) (n:=(i:Int)+1) rfl];omega
   ·have jk:i=x.length:=by omega
    subst jk
    rw[zLG]at gZ
    have hax:fY x=true:=by unfold fY;rw[hn,gZ];rfl
    simp only[ae,↓Xn,↓Xo,↓Xg,↓Xd,↓Xe,↓Xf,Tryz.VΓ,Tryz.Γs,Xp,Xi,Nat.reduceAdd,Nat.reduceSub,Nat.reduceLT,Nat.reduceLeDiff,reduceIte,reduceCtorEq,Nat.reduceEqDiff,implies_true,forall_const,ad,g4,g5,g14,g15,g16,gb]
    refine⟨fun h=>absurd h (by simp),fun _=>⟨⟨by omega,by omega⟩,⟨k+1,by omega,rfl,aO aC bN (by rw[hx];exact hax)⟩,?_⟩⟩
    rw[az (k:=.i64) (n:=(k:Int)+1) rfl];omega
  ·have jk:k=L.length:=by omega
   subst jk
   rw[zLG]at bN
   simp only[ae,↓Xn,↓Xo,↓Xg,↓Xd,↓Xe,↓Xf,Tryz.VΓ,Tryz.Γs,Xp,Xi,Nat.reduceAdd,Nat.reduceSub,Nat.reduceLT,Nat.reduceLeDiff,reduceIte,reduceCtorEq,Nat.reduceEqDiff,implies_true,forall_const,ad,h14,h15,h16,hb]
   exact⟨fun h=>absurd h (by simp),fun _=>by rw[bN]⟩
 ·have bp:s=[]:=by simpa using bp
  subst bp;rfl
def ey (u:fc):SV:=.agg [.str u.host,.int .i64 u.port,.str u.path,.str u.query,.str u.fragment,.bool u.bl,.bool u.bE]
def Fair (u:fc):Prop:=u.host.length+u.path.length+u.query.length+u.fragment.length≤1000000∧-9223372036854775808≤u.port∧u.port≤9223372036854775807
theorem oz (x:Bytes){p:Int}(h0:-9223372036854775808≤p)(h1:p≤9223372036854775807):(bf x p).length≤x.length+22:=by
 have:=dJ 19 p.natAbs (by omega)
 unfold bf
 split
 ·omega
 ·split <;> simp <;> omega
theorem oo (u:fc):(eQ u).length≤u.path.length+u.query.length+1:=by
 unfold eQ
 split
 ·simp;omega
 ·omega
theorem yA (u:fc)(hk:Fair u):PC Tryz.V 155 [ey u] (.str (eQ u)):=by
 obtain⟨hk,-⟩:=hk
 (refine aQ 3000 Tryz.func155 rfl Tryz.ntmps155 Tryz.results155 Tryz.call155 (by simp) (by simp[flat,flat.ai,ey]) (by simp[flat,flat.ai,ey]) ?_
  unfold ey
  simp only[ae,↓Xn,↓Xo,↓Xg,↓Xd,↓Xe,↓Xf,Tryz.VΓ,Tryz.Γs,Xp,Xi,Nat.reduceAdd,Nat.reduceSub,Nat.reduceLT,Nat.reduceLeDiff,reduceIte,reduceCtorEq,Nat.reduceEqDiff,implies_true,forall_const,ad])
 unfold eQ
 refine⟨fun h=>?_,fun h=>?_⟩
 ·simp[h]
  refine⟨by omega,by omega⟩
 ·simp[h]
theorem yB (u:fc):PC Tryz.V 154 [ey u] (.agg [.str u.host,.int .i64 u.port]):=by
 (refine aQ 3000 Tryz.func154 rfl Tryz.ntmps154 Tryz.results154 Tryz.call154 (by simp) (by simp[flat,flat.ai,ey]) (by simp[flat,flat.ai,ey]) ?_
  unfold ey
  simp only[ae,↓Xn,↓Xo,↓Xg,↓Xd,↓Xe,↓Xf,Tryz.VΓ,Tryz.Γs,Xp,Xi,Nat.reduceAdd,Nat.reduceSub,Nat.reduceLT,Nat.reduceLeDiff,reduceIte,reduceCtorEq,Nat.reduceEqDiff,implies_true,forall_const,ad])
theorem gI (u:fc)(hk:Fair u):PC Tryz.V 119 [ey u] (.str (cB u)):=by
 have hl:=hk.1
 have hx:=oz u.host hk.2.1 hk.2.2
 have ht:=oo u
 have pt:=yA u hk
 have po:=yB u
 have pf:=wi u.host u.port (by omega) hk.2.1 hk.2.2
 (refine aQ 3000 Tryz.func119 rfl Tryz.ntmps119 Tryz.results119 Tryz.call119 (by simp) (by simp[flat,flat.ai,ey]) (by simp[flat,flat.ai,ey]) ?_
  unfold ey
  simp only[ae,↓Xn,↓Xo,↓Xg,↓Xd,↓Xe,↓Xf,Tryz.VΓ,Tryz.Γs,Xp,Xi,Nat.reduceAdd,Nat.reduceSub,Nat.reduceLT,Nat.reduceLeDiff,reduceIte,reduceCtorEq,Nat.reduceEqDiff,implies_true,forall_const,ad])
 unfold ey at pt po
 (refine aR (po) ?_;simp only[ae,↓Xn,↓Xo,↓Xg,↓Xd,↓Xe,↓Xf,Tryz.VΓ,Tryz.Γs,Xp,Xi,Nat.reduceAdd,Nat.reduceSub,Nat.reduceLT,Nat.reduceLeDiff,reduceIte,reduceCtorEq,Nat.reduceEqDiff,implies_true,forall_const,ad])
 (refine aR (pf) ?_;simp only[ae,↓Xn,↓Xo,↓Xg,↓Xd,↓Xe,↓Xf,Tryz.VΓ,Tryz.Γs,Xp,Xi,Nat.reduceAdd,Nat.reduceSub,Nat.reduceLT,Nat.reduceLeDiff,reduceIte,reduceCtorEq,Nat.reduceEqDiff,implies_true,forall_const,ad])
 refine⟨by omega,?_⟩
 (refine aR (pt) ?_;simp only[ae,↓Xn,↓Xo,↓Xg,↓Xd,↓Xe,↓Xf,Tryz.VΓ,Tryz.Γs,Xp,Xi,Nat.reduceAdd,Nat.reduceSub,Nat.reduceLT,Nat.reduceLeDiff,reduceIte,reduceCtorEq,Nat.reduceEqDiff,implies_true,forall_const,ad])
 unfold cB
 refine⟨by omega,(aj (by kernel_rfl)),fun h=>⟨by omega,by simp only[zLF];omega,?_⟩,fun h=>?_⟩
 ·rw[if_pos h];simp
 ·rw[if_neg (by simp[h])];simp
theorem AJ (u:fc)(hk:Fair u):PC Tryz.V 103 [ey u] (.str (eQ u)):=by
 obtain⟨hk,-⟩:=hk
 (refine aQ 3000 Tryz.func103 rfl Tryz.ntmps103 Tryz.results103 Tryz.call103 (by simp) (by simp[flat,flat.ai,ey]) (by simp[flat,flat.ai,ey]) ?_
  unfold ey
  simp only[ae,↓Xn,↓Xo,↓Xg,↓Xd,↓Xe,↓Xf,Tryz.VΓ,Tryz.Γs,Xp,Xi,Nat.reduceAdd,Nat.reduceSub,Nat.reduceLT,Nat.reduceLeDiff,reduceIte,reduceCtorEq,Nat.reduceEqDiff,implies_true,forall_const,ad])
 unfold eQ
 refine⟨fun h=>?_,fun h=>?_⟩
 ·simp[h]
  refine⟨by omega,by omega⟩
 ·simp[h]
theorem AK (u:fc):PC Tryz.V 102 [ey u] (.agg [.str u.host,.int .i64 u.port]):=by
 (refine aQ 3000 Tryz.func102 rfl Tryz.ntmps102 Tryz.results102 Tryz.call102 (by simp) (by simp[flat,flat.ai,ey]) (by simp[flat,flat.ai,ey]) ?_
  unfold ey
  simp only[ae,↓Xn,↓Xo,↓Xg,↓Xd,↓Xe,↓Xf,Tryz.VΓ,Tryz.Γs,Xp,Xi,Nat.reduceAdd,Nat.reduceSub,Nat.reduceLT,Nat.reduceLeDiff,reduceIte,reduceCtorEq,Nat.reduceEqDiff,implies_true,forall_const,ad])
theorem jW (u:fc)(hk:Fair u):PC Tryz.V 77 [ey u] (.str (cB u)):=by
 have hl:=hk.1
 have hx:=oz u.host hk.2.1 hk.2.2
 have ht:=oo u
 have pt:=AJ u hk
 have po:=AK u
 have pf:=AM u.host u.port (by omega) hk.2.1 hk.2.2
 (refine aQ 3000 Tryz.func77 rfl Tryz.ntmps77 Tryz.results77 Tryz.call77 (by simp) (by simp[flat,flat.ai,ey]) (by simp[flat,flat.ai,ey]) ?_
  unfold ey
  simp only[ae,↓Xn,↓Xo,↓Xg,↓Xd,↓Xe,↓Xf,Tryz.VΓ,Tryz.Γs,Xp,Xi,Nat.reduceAdd,Nat.reduceSub,Nat.reduceLT,Nat.reduceLeDiff,reduceIte,reduceCtorEq,Nat.reduceEqDiff,implies_true,forall_const,ad])
 unfold ey at pt po
 (refine aR (po) ?_;simp only[ae,↓Xn,↓Xo,↓Xg,↓Xd,↓Xe,↓Xf,Tryz.VΓ,Tryz.Γs,Xp,Xi,Nat.reduceAdd,Nat.reduceSub,Nat.reduceLT,Nat.reduceLeDiff,reduceIte,reduceCtorEq,Nat.reduceEqDiff,implies_true,forall_const,ad])
 (refine aR (pf) ?_;simp only[ae,↓Xn,↓Xo,↓Xg,↓Xd,↓Xe,↓Xf,Tryz.VΓ,Tryz.Γs,Xp,Xi,Nat.reduceAdd,Nat.reduceSub,Nat.reduceLT,Nat.reduceLeDiff,reduceIte,reduceCtorEq,Nat.reduceEqDiff,implies_true,forall_const,ad])
 refine⟨by omega,?_⟩
 (refine aR (pt) ?_;simp only[ae,↓Xn,↓Xo,↓Xg,↓Xd,↓Xe,↓Xf,Tryz.VΓ,Tryz.Γs,Xp,Xi,Nat.reduceAdd,Nat.reduceSub,Nat.reduceLT,Nat.reduceLeDiff,reduceIte,reduceCtorEq,Nat.reduceEqDiff,implies_true,forall_const,ad])
 unfold cB
 refine⟨by omega,(aj (by kernel_rfl)),fun h=>⟨by omega,by simp only[zLF];omega,?_⟩,fun h=>?_⟩
 ·rw[if_pos h];simp
 ·rw[if_neg (by simp[h])];simp
theorem yx (l:Bytes)(c:UInt8):pre (·==c) l<l.length↔c∈l:=by
 induction l with
 | nil=>simp[pre]
 | cons x l ih =>
   rw[cf]
   by_cases h:x=c
   ·simp[h]
   ·rw[if_neg (by simpa using h)]
    simp only[zLs,Nat.add_lt_add_iff_right,ih,List.mem_cons]
    exact⟨.inr,fun k=>k.resolve_left fun e=>h e.symm⟩
theorem zk (l:Bytes)(c:UInt8):decide (0≤Lib.indexByte l c)=decide (c∈l):=by
 rw[cY]
 by_cases h:c∈l
 ·rw[if_pos ((yx l c).2 h)];simp[h]
 ·rw[if_neg (fun k=>h ((yx l c).1 k))];simp[h]
theorem ug (l:Bytes)(c:UInt8):PC Tryz.V 150 [.str l,.str [c]] (.bool (decide (c∈l))) :=
 ⟨Tryz.call150,by simp[flat,flat.ai],by simp[flat,flat.ai],fun w hE=>(Tryz.strings_Contains_one ⟨zLp l⟩ c w).mono fun _ _ ⟨h,k⟩=>⟨by
  rw[h]
  have e:decide (0≤Lib.indexByte l c)=decide (c∈l):=zk l c
  rw[← e];rfl,cT k.symm⟩⟩
def fg (d:fN):SV:=.agg [.str d.method,.str d.id]
def dusv (u:DidUrl):SV:=.agg [.str u.did.method,.str u.did.id,.str u.path,.str u.query,.str u.fragment,.bool u.bl,.bool u.bE]
theorem pS (s:Bytes)(c:UInt8)(new:Bytes)(bp:([c]==new)=false)(hs:s.length≤1000000)(hn:new.length≤1000):PC Tryz.V 183 [.str s,.str [c],.str new] (.str (s.flatMap (mW c new))) :=
 ⟨Tryz.call183,by simp[flat,flat.ai],by simp[flat,flat.ai],fun w ⟨m,hm⟩=>by
  have hc:Lib.countB ⟨zLp s⟩ ⟨#[c]⟩≤s.length+1:=Lib.count_le s [c]
  have hm2:Lib.countB ⟨zLp s⟩ ⟨#[c]⟩ * new.length≤1000001 * 1000:=Nat.mul_le_mul (by omega) hn
  refine(Tryz.strings_ReplaceAll ⟨zLp s⟩ ⟨#[c]⟩ ⟨zLp new⟩ m w (show s.length<4294967281 by omega) hm (zLB 1) (show s.length+Lib.countB ⟨zLp s⟩ ⟨#[c]⟩ * new.length≤140737488355328 by omega)).mono fun _ _ ⟨h,k⟩=>⟨?_,k⟩
  rw[h,← tR c new s bp]
  rfl⟩
theorem AU (s:Bytes)(c:UInt8)(hs:s.length≤1000000):PC Tryz.V 159 [.str s,.str [c]] (.bool (decide (s.getLast? = some c))) :=
 ⟨Tryz.call159,by simp[flat,flat.ai],by simp[flat,flat.ai],fun w _=>(Tryz.strings_HasSuffix ⟨zLp s⟩ ⟨#[c]⟩ w (show s.length≤9223372036854775807 by omega)).mono fun _ _ ⟨h,k⟩=>⟨by
  rw[h]
  have e:Lib.hasSuffix s [c]=decide (s.getLast? = some c):=by
   unfold Lib.hasSuffix
   rcases List.eq_nil_or_concat s with rfl|⟨a,d,rfl⟩
   ·rfl
   ·rw[List.concat_eq_append,Bool.eq_iff_iff,List.isSuffixOf_iff_suffix,decide_eq_true_eq,List.getLast?_concat,zLt.injEq]
    constructor
    ·rintro⟨t,ht⟩
     have:=congrArg List.getLast? ht
     simpa using this.symm
    ·rintro rfl;exact⟨a,rfl⟩
  rw[← e];rfl,cT k.symm⟩⟩
theorem ic (c:UInt8)(h:isDigit c=false):fb c=(decide (97≤c.toNat)&&decide (c.toNat≤122)):=by
 unfold fb;rw[h];simp[Bool.decide_and]
theorem yI (s:Bytes)(hs:s.length≤1000000):PC Tryz.V 157 [.str s] (.bool (dH s)):=by
 refine aQ 3000 Tryz.func157 rfl Tryz.ntmps157 Tryz.results157 Tryz.call157 (by simp) (by simp[flat,flat.ai]) (by simp[flat,flat.ai]) ?_
 simp only[ae,↓Xn,↓Xo,↓Xg,↓Xd,↓Xe,↓Xf,Tryz.VΓ,Tryz.Γs,Xp,Xi,Nat.reduceAdd,Nat.reduceSub,Nat.reduceLT,Nat.reduceLeDiff,reduceIte,reduceCtorEq,Nat.reduceEqDiff,implies_true,forall_const,ad]
 refine aL (fun σ=>∃ i:Nat,i≤s.length∧lk 0 σ.t=some (.str s)∧lk 4 σ.t=some (.str s)∧lk 5 σ.t=some (.int .i64 s.length)∧lk 6 σ.t=some (.int .i64 i)∧(s.take i).all fb=true) (fun σ=>s.length - ji 6 σ) ⟨0,by omega,rfl,rfl,rfl,rfl,rfl⟩ ?_
 rintro⟨t,b⟩ ⟨i,hi,h0,h4,h5,h6,bN⟩
 simp only at h0 h4 h5 h6
 rw[az h6]
 by_cases aC:i<s.length
 ·have hg:s.getD i 0=s[i]:=by simp[zLA,aC]
  have jF:fb s[i]=false→dH s=false:=fun h=>by
   unfold dH
   rw[cU aC h,Bool.and_false]
  simp only[ae,↓Xn,↓Xo,↓Xg,↓Xd,↓Xe,↓Xf,Tryz.VΓ,Tryz.Γs,Xp,Xi,Nat.reduceAdd,Nat.reduceSub,Nat.reduceLT,Nat.reduceLeDiff,reduceIte,reduceCtorEq,Nat.reduceEqDiff,implies_true,forall_const,ad,h0,h4,h5,h6,hg]
  refine⟨fun _=>⟨⟨by omega,by omega⟩,?_⟩,fun h=>absurd h (by simp;omega)⟩
  (refine aa (nR s[i]) ?_;simp only[ae,↓Xn,↓Xo,↓Xg,↓Xd,↓Xe,↓Xf,Tryz.VΓ,Tryz.Γs,Xp,Xi,Nat.reduceAdd,Nat.reduceSub,Nat.reduceLT,Nat.reduceLeDiff,reduceIte,reduceCtorEq,Nat.reduceEqDiff,implies_true,forall_const,ad,h0,h4,h5,h6,hg])
  have fin:fb s[i]=true→∀ (t':List (Nat × SV)),lk 6 t'=some (.int .i64 ((i:Int)+1))→(∃ k:Nat,k≤s.length∧SV.int IntKind.i64 ((i:Int)+1)=SV.int IntKind.i64 (k:Int)∧(s.take k).all fb=true)∧s.length - ji 6 ⟨t',b⟩<s.length - (i:Int).toNat:=fun hm t' k6 =>
   ⟨⟨i+1,by omega,rfl,aO aC bN hm⟩,by rw[az (σ:=⟨t',b⟩) k6];omega⟩
  cases hd:isDigit s[i]
  ·refine⟨fun _=>⟨⟨by omega,by omega⟩,fun h1=>⟨⟨by omega,by omega⟩,fun h2=>?_,fun h2=>⟨⟨by omega,by omega⟩,fin ?_ _ rfl⟩⟩,fun h1=>?_⟩,fun h=>(by cases h)⟩
   ·rw[jF (by rw[ic _ hd];simp at h1 h2 ⊢;omega)]
   ·rw[ic _ hd];simp at h1 h2 ⊢;omega
   ·rw[jF (by rw[ic _ hd];simp at h1 ⊢;omega)]
  ·exact⟨fun h=>(by cases h),fun _=>⟨⟨by omega,by omega⟩,fin (by unfold fb;rw[hd];rfl) _ rfl⟩⟩
 ·have jk:i=s.length:=by omega
  subst jk
  rw[zLG]at bN
  simp only[ae,↓Xn,↓Xo,↓Xg,↓Xd,↓Xe,↓Xf,Tryz.VΓ,Tryz.Γs,Xp,Xi,Nat.reduceAdd,Nat.reduceSub,Nat.reduceLT,Nat.reduceLeDiff,reduceIte,reduceCtorEq,Nat.reduceEqDiff,implies_true,forall_const,ad,h0,h4,h5,h6]
  refine⟨fun h=>absurd h (by simp),fun _=>?_⟩
  unfold dH
  rw[bN,Bool.and_true]
  cases s <;> rfl
theorem sQ (s:Bytes)(hs:s.length≤4096):PC Tryz.V 158 [.str s] (.eR [.str (eT s).1,.int .i64 (eT s).2]):=by
 have pn:=iF s [58] (by decide)
 have pd:=nh s
 have pc:=ug s 126
 have pr:=pS (aX [58] s).1 126 [37,55,69] (by decide) (by have:=dF [58] s;omega) (by decide)
 unfold eT
 generalize aX [58] s=n at *
 generalize ak s=d at *
 obtain⟨n,e⟩:=n
 obtain⟨d,f⟩:=d
 simp only at pn pd pr ⊢
 refine aQ 3000 Tryz.func158 rfl Tryz.ntmps158 Tryz.results158 Tryz.call158 (by simp) (by simp[flat,flat.ai]) (by simp[flat,flat.ai]) ?_
 simp only[ae,↓Xn,↓Xo,↓Xg,↓Xd,↓Xe,↓Xf,Tryz.VΓ,Tryz.Γs,Xp,Xi,Nat.reduceAdd,Nat.reduceSub,Nat.reduceLT,Nat.reduceLeDiff,reduceIte,reduceCtorEq,Nat.reduceEqDiff,implies_true,forall_const,ad]
 (refine aa (pn) ?_;simp only[ae,↓Xn,↓Xo,↓Xg,↓Xd,↓Xe,↓Xf,Tryz.VΓ,Tryz.Γs,Xp,Xi,Nat.reduceAdd,Nat.reduceSub,Nat.reduceLT,Nat.reduceLeDiff,reduceIte,reduceCtorEq,Nat.reduceEqDiff,implies_true,forall_const,ad])
 (refine aa (pd) ?_;simp only[ae,↓Xn,↓Xo,↓Xg,↓Xd,↓Xe,↓Xf,Tryz.VΓ,Tryz.Γs,Xp,Xi,Nat.reduceAdd,Nat.reduceSub,Nat.reduceLT,Nat.reduceLeDiff,reduceIte,reduceCtorEq,Nat.reduceEqDiff,implies_true,forall_const,ad])
 refine⟨fun h1=>?_,fun h1=>?_⟩
 ·rw[if_pos (by simpa using h1)]
 rw[if_neg (by simpa using h1)]
 refine⟨fun h2=>?_,fun h2=>?_⟩
 ·have h2:e=0:=by simpa using h2
  (refine aa pc ?_;simp only[ae,↓Xn,↓Xo,↓Xg,↓Xd,↓Xe,↓Xf,Tryz.VΓ,Tryz.Γs,Xp,Xi,Nat.reduceAdd,Nat.reduceSub,Nat.reduceLT,Nat.reduceLeDiff,reduceIte,reduceCtorEq,Nat.reduceEqDiff,implies_true,forall_const,ad])
  refine⟨fun h3=>?_,fun h3=>?_⟩
  ·(refine aa pr ?_;simp only[ae,↓Xn,↓Xo,↓Xg,↓Xd,↓Xe,↓Xf,Tryz.VΓ,Tryz.Γs,Xp,Xi,Nat.reduceAdd,Nat.reduceSub,Nat.reduceLT,Nat.reduceLeDiff,reduceIte,reduceCtorEq,Nat.reduceEqDiff,implies_true,forall_const,ad])
   rw[if_pos ⟨h2,of_decide_eq_true h3⟩]
  ·(refine aa pr ?_;simp only[ae,↓Xn,↓Xo,↓Xg,↓Xd,↓Xe,↓Xf,Tryz.VΓ,Tryz.Γs,Xp,Xi,Nat.reduceAdd,Nat.reduceSub,Nat.reduceLT,Nat.reduceLeDiff,reduceIte,reduceCtorEq,Nat.reduceEqDiff,implies_true,forall_const,ad])
   rw[if_neg (fun k=>of_decide_eq_false h3 k.2)]
 ·have h2:¬ e=0:=by simpa using h2
  (refine aa pr ?_;simp only[ae,↓Xn,↓Xo,↓Xg,↓Xd,↓Xe,↓Xf,Tryz.VΓ,Tryz.Γs,Xp,Xi,Nat.reduceAdd,Nat.reduceSub,Nat.reduceLT,Nat.reduceLeDiff,reduceIte,reduceCtorEq,Nat.reduceEqDiff,implies_true,forall_const,ad])
  rw[if_neg (fun k=>h2 k.1)]
theorem progEnd (m s:Bytes)(hs:s.length≤4096):jH m (eT s)=jH m (cA s):=by
 have h:=yw s (by omega)
 unfold jH
 rw[h.1]
 by_cases k:(cA s).2=0
 ·rw[h.2 k]
 ·rw[if_pos k,if_pos k]
theorem vY (s:Bytes):(eT s).1.length≤9 * s.length:=by
 unfold eT
 split
 ·simp
 ·have h1:=dF [58] s
  have h2:∀ l:Bytes,(l.flatMap (mW 126 [37,55,69])).length≤3 * l.length:=by
   intro l
   induction l with
   | nil=>simp
   | cons c l ih =>
     rw[List.flatMap_cons,zLF,zLs]
     have:(mW 126 [37,55,69] c).length≤3:=by unfold mW;split <;> simp
     omega
  have:=h2 (aX [58] s).1
  simp only
  omega
theorem ng (s:Bytes):PC Tryz.V 120 [.str s] (.eR [fg (aY s).1,.int .i64 (aY s).2]):=by
 refine aQ 3000 Tryz.func120 rfl Tryz.ntmps120 Tryz.results120 Tryz.call120 (by simp) (by simp[flat,flat.ai,fg,dusv]) (by simp[flat,flat.ai,fg,dusv]) ?_
 simp only[ae,↓Xn,↓Xo,↓Xg,↓Xd,↓Xe,↓Xf,Tryz.VΓ,Tryz.Γs,Xp,Xi,Nat.reduceAdd,Nat.reduceSub,Nat.reduceLT,Nat.reduceLeDiff,reduceIte,reduceCtorEq,Nat.reduceEqDiff,implies_true,forall_const,ad]
 unfold aY
 refine⟨fun h=>?_,fun h=>?_⟩
 ·have h:4096<s.length:=(by simp at h;omega)
  rw[if_pos h];rfl
 have h:¬ 4096<s.length:=(by simp at h;omega)
 rw[if_neg h]
 have pp:=kb s jR
 have hT:jR.isPrefixOf s=true→Lib.trimPrefix s jR=s.drop 4:=fun k=>if_pos k
 rw[show Lib.hasPrefix s jR=jR.isPrefixOf s from rfl]at pp
 (refine aa pp ?_;simp only[ae,↓Xn,↓Xo,↓Xg,↓Xd,↓Xe,↓Xf,Tryz.VΓ,Tryz.Γs,Xp,Xi,Nat.reduceAdd,Nat.reduceSub,Nat.reduceLT,Nat.reduceLeDiff,reduceIte,reduceCtorEq,Nat.reduceEqDiff,implies_true,forall_const,ad])
 refine⟨fun h2=>?_,fun h2=>?_⟩
 ·rw[if_pos (by simpa using h2)];rfl
 rw[if_neg (by simpa using h2)]
 rw[hT (by simpa using h2)]
 have hS:(s.drop 4).length≤4096:=by simp;omega
 generalize s.drop 4=S at hS ⊢
 have pc:=uf S 58 (by omega)
 have eg:=eb 58 S
 unfold lW
 generalize aG 58 S=x at pc eg ⊢
 obtain⟨m,i,ok⟩:=x
 simp only at pc eg ⊢
 (refine aa pc ?_;simp only[ae,↓Xn,↓Xo,↓Xg,↓Xd,↓Xe,↓Xf,Tryz.VΓ,Tryz.Γs,Xp,Xi,Nat.reduceAdd,Nat.reduceSub,Nat.reduceLT,Nat.reduceLeDiff,reduceIte,reduceCtorEq,Nat.reduceEqDiff,implies_true,forall_const,ad])
 refine⟨fun h3=>?_,fun h3=>?_⟩
 ·rw[if_pos (by simpa using h3)];rfl
 rw[if_neg (by simpa using h3)]
 (refine aa (yI m (by omega)) ?_;simp only[ae,↓Xn,↓Xo,↓Xg,↓Xd,↓Xe,↓Xf,Tryz.VΓ,Tryz.Γs,Xp,Xi,Nat.reduceAdd,Nat.reduceSub,Nat.reduceLT,Nat.reduceLeDiff,reduceIte,reduceCtorEq,Nat.reduceEqDiff,implies_true,forall_const,ad])
 refine⟨fun h4=>?_,fun h4=>?_⟩
 ·rw[if_pos (by simpa using h4)];rfl
 rw[if_neg (by simpa using h4)]
 have hi:i.length≤4096:=by omega
 rw[← progEnd m i hi]
 have pk:=sQ i hi
 have Dx:=vY i
 generalize eT i=k at *
 obtain⟨k,e⟩:=k
 simp only at pk Dx
 have ps:=AU k 58 (by omega)
 unfold jH
 simp only
 (refine aa pk ?_;simp only[ae,↓Xn,↓Xo,↓Xg,↓Xd,↓Xe,↓Xf,Tryz.VΓ,Tryz.Γs,Xp,Xi,Nat.reduceAdd,Nat.reduceSub,Nat.reduceLT,Nat.reduceLeDiff,reduceIte,reduceCtorEq,Nat.reduceEqDiff,implies_true,forall_const,ad])
 refine⟨fun h5=>?_,fun h5=>?_⟩
 ·rw[if_pos (by simpa using h5)];rfl
 rw[if_neg (by simpa using h5)]
 refine⟨fun h6=>?_,fun h6=>?_⟩
 ·(refine aa ps ?_;simp only[ae,↓Xn,↓Xo,↓Xg,↓Xd,↓Xe,↓Xf,Tryz.VΓ,Tryz.Γs,Xp,Xi,Nat.reduceAdd,Nat.reduceSub,Nat.reduceLT,Nat.reduceLeDiff,reduceIte,reduceCtorEq,Nat.reduceEqDiff,implies_true,forall_const,ad])
  refine⟨fun h7=>?_,fun h7=>?_⟩
  ·rw[if_pos (.inr (of_decide_eq_true h7))];rfl
  ·rw[if_neg (by simp only[not_or];exact⟨by simpa using h6,of_decide_eq_false h7⟩)];rfl
 ·rw[if_pos (.inl (by simpa using h6))];rfl
def eH (d:fN):Prop:=d.method.length≤140737488355328∧d.id.length≤140737488355328
theorem sF (d:fN):(bA d).length=d.method.length+d.id.length+5:=by simp[bA,jR];omega
theorem dB (d:fN)(h:eH d):PC Tryz.V 123 [fg d] (.str (bA d)):=by
 obtain⟨m,i⟩:=d
 simp only[eH]at h
 refine aQ 3000 Tryz.func123 rfl Tryz.ntmps123 Tryz.results123 Tryz.call123 (by simp) (by simp[flat,flat.ai,fg,dusv]) (by simp[flat,flat.ai,fg,dusv]) ?_
 unfold fg
 simp only[ae,↓Xn,↓Xo,↓Xg,↓Xd,↓Xe,↓Xf,Tryz.VΓ,Tryz.Γs,Xp,Xi,Nat.reduceAdd,Nat.reduceSub,Nat.reduceLT,Nat.reduceLeDiff,reduceIte,reduceCtorEq,Nat.reduceEqDiff,implies_true,forall_const,ad]
 simp only[zLF,zLs,zLu]
 refine⟨by omega,by omega,by omega,?_⟩
 simp[bA,jR]
theorem dS (c:UInt8)(s:Bytes):pre (([c]:Bytes).contains ·) s=pre (·==c) s:=by
 congr 1
 funext x
 by_cases h:x=c
 ·subst h;simp
 ·simp[h]
theorem cF {s:Bytes}(h:Lib.hasPrefix s [47,47]=true):aB s=((s.take (2+pre (·==47) (s.drop 2))).drop 2,true,s.drop (2+pre (·==47) (s.drop 2))):=by
 rw[jm h]
 have e:Lib.trimPrefix s [47,47]=s.drop 2:=by unfold Lib.trimPrefix;rw[if_pos h];rfl
 rw[e,List.drop_take,List.drop_drop]
 simp
theorem C0 (s:Bytes):PC Tryz.V 98 [.str s] (.eR [usv (bd s).1,.int .i64 (bd s).2]):=by
 (refine aQ 3000 Tryz.func98 rfl Tryz.ntmps98 Tryz.results98 Tryz.call98 (by simp) (by simp[flat,flat.ai,usv]) (by simp[flat,flat.ai,usv]) ?_
  simp only[ae,↓Xn,↓Xo,↓Xg,↓Xd,↓Xe,↓Xf,Tryz.VΓ,Tryz.Γs,Xp,Xi,Nat.reduceAdd,Nat.reduceSub,Nat.reduceLT,Nat.reduceLeDiff,reduceIte,reduceCtorEq,Nat.reduceEqDiff,implies_true,forall_const,ad])
 refine⟨fun h=>?_,fun h=>?_⟩
 ·have:bd s=(Uri.none,5):=if_pos (by simp at h;omega)
  rw[this];rfl
 ·have hq:bd s=aF (aG 63 (aG 35 s).1).1 (aG 35 s).2.1 (aG 63 (aG 35 s).1).2.1 (aG 35 s).2.2 (aG 63 (aG 35 s).1).2.2:=if_neg (by simp at h;omega)
  rw[hq]
  have hs:s.length≤4294967281:=by simp at h;omega
  have px:=bk s [35] hs (by simp)
  rw[dS]at px
  (refine aa (px) ?_;simp only[ae,↓Xn,↓Xo,↓Xg,↓Xd,↓Xe,↓Xf,Tryz.VΓ,Tryz.Γs,Xp,Xi,Nat.reduceAdd,Nat.reduceSub,Nat.reduceLT,Nat.reduceLeDiff,reduceIte,reduceCtorEq,Nat.reduceEqDiff,implies_true,forall_const,ad])
  refine⟨fun iB=>?_,fun iB=>?_⟩
  ·have hk1':pre (·==35) s<s.length:=by simpa using iB
   rw[show aG 35 s=(s.take (pre (·==35) s),s.drop (pre (·==35) s+1),true) from if_pos hk1']
   simp only
   have ny:(s.take (pre (·==35) s)).length≤4294967281:=by rw[zLy];omega
   refine⟨by omega,by omega,by omega,(aj (by kernel_rfl)),?_⟩
   generalize s.take (pre (·==35) s)=s1 at ny ⊢
   generalize s.drop (pre (·==35) s+1)=fr
   (
    have px2:=bk s1 [63] (by omega) (by simp)
    rw[dS]at px2
    (refine aa (px2) ?_;simp only[ae,↓Xn,↓Xo,↓Xg,↓Xd,↓Xe,↓Xf,Tryz.VΓ,Tryz.Γs,Xp,Xi,Nat.reduceAdd,Nat.reduceSub,Nat.reduceLT,Nat.reduceLeDiff,reduceIte,reduceCtorEq,Nat.reduceEqDiff,implies_true,forall_const,ad])
    refine⟨fun fQ=>?_,fun fQ=>?_⟩
    ·have hk2':pre (·==63) s1<s1.length:=by simpa using fQ
     rw[show aG 63 s1=(s1.take (pre (·==63) s1),s1.drop (pre (·==63) s1+1),true) from if_pos hk2']
     simp only
     have gW:(s1.take (pre (·==63) s1)).length≤4294967281:=by rw[zLy];omega
     refine⟨by omega,by omega,by omega,(aj (by kernel_rfl)),?_⟩
     generalize s1.take (pre (·==63) s1)=s2 at gW ⊢
     generalize s1.drop (pre (·==63) s1+1)=qu
     (
      have px3:=bk s2 [58,47] (by omega) (by simp)
      rw[show pre (([58,47]:Bytes).contains ·) s2=pre aq s2 from rfl]at px3
      (refine aa (px3) ?_;simp only[ae,↓Xn,↓Xo,↓Xg,↓Xd,↓Xe,↓Xf,Tryz.VΓ,Tryz.Γs,Xp,Xi,Nat.reduceAdd,Nat.reduceSub,Nat.reduceLT,Nat.reduceLeDiff,reduceIte,reduceCtorEq,Nat.reduceEqDiff,implies_true,forall_const,ad])
      refine⟨fun kF=>?_,fun kF=>?_⟩
      ·have hp:pre aq s2<s2.length:=by simpa using kF
       rw[cE (n:=58) hp 58 rfl]
       refine⟨by omega,fun h1=>⟨by omega,?_⟩,fun h1=>?_⟩
       ·have hh:(s2.drop (pre aq s2)).head? = some 58:=by
         rw[zLC,zLr hp,beq_iff_eq.1 h1]
        (refine aa (jX _ (by rw[zLy];omega)) ?_;simp only[ae,↓Xn,↓Xo,↓Xg,↓Xd,↓Xe,↓Xf,Tryz.VΓ,Tryz.Γs,Xp,Xi,Nat.reduceAdd,Nat.reduceSub,Nat.reduceLT,Nat.reduceLeDiff,reduceIte,reduceCtorEq,Nat.reduceEqDiff,implies_true,forall_const,ad])
        refine⟨fun h2=>?_,fun h2=>?_⟩
        ·have fT:∀ (f q:Bytes) (hf hq:Bool),aF s2 f q hf hq=(Uri.none,6):=fun f q hf hq=>by
          unfold aF
          rw[if_pos hh,if_neg (by rw[pV h2];simp)]
         rw[fT];rfl
        ·have fT:∀ (f q:Bytes) (hf hq:Bool),aF s2 f q hf hq=(⟨s2.take (pre aq s2),(aB (s2.drop (pre aq s2+1))).1,(aB (s2.drop (pre aq s2+1))).2.2,q,f,true,(aB (s2.drop (pre aq s2+1))).2.1,hq,hf⟩,0):=fun f q hf hq=>by
          unfold aF
          rw[if_pos hh,if_pos (pW h2)]
         have Gn:(s2.drop (pre aq s2+1)).length≤4294967281:=by rw[zLq];omega
         refine⟨by omega,by omega,by omega,(aj (by kernel_rfl)),?_⟩
         (
          (refine aa (bR (s2.drop (pre aq s2+1)) [47,47]) ?_;simp only[ae,↓Xn,↓Xo,↓Xg,↓Xd,↓Xe,↓Xf,Tryz.VΓ,Tryz.Γs,Xp,Xi,Nat.reduceAdd,Nat.reduceSub,Nat.reduceLT,Nat.reduceLeDiff,reduceIte,reduceCtorEq,Nat.reduceEqDiff,implies_true,forall_const,ad])
          cases gO:Lib.hasPrefix (s2.drop (pre aq s2+1)) [47,47]
          ·refine⟨fun h=>(by cases h),fun _=>?_⟩
           rw[fT,ch gO];rfl
          ·refine⟨fun _=>?_,fun h=>(by cases h)⟩
           rw[fT,cF gO]
           have uO:=eE gO
           simp only[zLs,zLu]at uO
           have px4:=bk ((s2.drop (pre aq s2+1)).drop 2) [47] (by rw[zLq];omega) (by simp)
           rw[dS]at px4
           have fU:=cq (·==47) ((s2.drop (pre aq s2+1)).drop 2)
           rw[zLq]at fU
           generalize pre (·==47) ((s2.drop (pre aq s2+1)).drop 2)=q at px4 fU ⊢
           refine⟨by omega,?_⟩
           (refine aa (px4) ?_;simp only[ae,↓Xn,↓Xo,↓Xg,↓Xd,↓Xe,↓Xf,Tryz.VΓ,Tryz.Γs,Xp,Xi,Nat.reduceAdd,Nat.reduceSub,Nat.reduceLT,Nat.reduceLeDiff,reduceIte,reduceCtorEq,Nat.reduceEqDiff,implies_true,forall_const,ad])
           rw[show (2+(q:Int)).toNat=2+q by omega]
           exact⟨by omega,by omega,by omega,(aj (by kernel_rfl)),rfl⟩)
       ·have fT:∀ (f q:Bytes) (hf hq:Bool),aF s2 f q hf hq=(⟨[],(aB s2).1,(aB s2).2.2,q,f,false,(aB s2).2.1,hq,hf⟩,0):=fun f q hf hq=>by
         unfold aF
         rw[if_neg (by rw[zLC,zLr hp];simpa using h1)]
        have Gn:=gW
        (
         (refine aa (bR (s2) [47,47]) ?_;simp only[ae,↓Xn,↓Xo,↓Xg,↓Xd,↓Xe,↓Xf,Tryz.VΓ,Tryz.Γs,Xp,Xi,Nat.reduceAdd,Nat.reduceSub,Nat.reduceLT,Nat.reduceLeDiff,reduceIte,reduceCtorEq,Nat.reduceEqDiff,implies_true,forall_const,ad])
         cases gO:Lib.hasPrefix (s2) [47,47]
         ·refine⟨fun h=>(by cases h),fun _=>?_⟩
          rw[fT,ch gO];rfl
         ·refine⟨fun _=>?_,fun h=>(by cases h)⟩
          rw[fT,cF gO]
          have uO:=eE gO
          simp only[zLs,zLu]at uO
          have px4:=bk ((s2).drop 2) [47] (by rw[zLq];omega) (by simp)
          rw[dS]at px4
          have fU:=cq (·==47) ((s2).drop 2)
          rw[zLq]at fU
          generalize pre (·==47) ((s2).drop 2)=q at px4 fU ⊢
          refine⟨by omega,?_⟩
          (refine aa (px4) ?_;simp only[ae,↓Xn,↓Xo,↓Xg,↓Xd,↓Xe,↓Xf,Tryz.VΓ,Tryz.Γs,Xp,Xi,Nat.reduceAdd,Nat.reduceSub,Nat.reduceLT,Nat.reduceLeDiff,reduceIte,reduceCtorEq,Nat.reduceEqDiff,implies_true,forall_const,ad])
          rw[show (2+(q:Int)).toNat=2+q by omega]
          exact⟨by omega,by omega,by omega,(aj (by kernel_rfl)),rfl⟩)
      ·have fT:∀ (f q:Bytes) (hf hq:Bool),aF s2 f q hf hq=(⟨[],(aB s2).1,(aB s2).2.2,q,f,false,(aB s2).2.1,hq,hf⟩,0):=fun f q hf hq=>by
        unfold aF
        rw[if_neg (by rw[zLI (by simp at kF;omega)];simp)]
       have Gn:=gW
       (
        (refine aa (bR (s2) [47,47]) ?_;simp only[ae,↓Xn,↓Xo,↓Xg,↓Xd,↓Xe,↓Xf,Tryz.VΓ,Tryz.Γs,Xp,Xi,Nat.reduceAdd,Nat.reduceSub,Nat.reduceLT,Nat.reduceLeDiff,reduceIte,reduceCtorEq,Nat.reduceEqDiff,implies_true,forall_const,ad])
        cases gO:Lib.hasPrefix (s2) [47,47]
        ·refine⟨fun h=>(by cases h),fun _=>?_⟩
         rw[fT,ch gO];rfl
        ·refine⟨fun _=>?_,fun h=>(by cases h)⟩
         rw[fT,cF gO]
         have uO:=eE gO
         simp only[zLs,zLu]at uO
         have px4:=bk ((s2).drop 2) [47] (by rw[zLq];omega) (by simp)
         rw[dS]at px4
         have fU:=cq (·==47) ((s2).drop 2)
         rw[zLq]at fU
         generalize pre (·==47) ((s2).drop 2)=q at px4 fU ⊢
         refine⟨by omega,?_⟩
         (refine aa (px4) ?_;simp only[ae,↓Xn,↓Xo,↓Xg,↓Xd,↓Xe,↓Xf,Tryz.VΓ,Tryz.Γs,Xp,Xi,Nat.reduceAdd,Nat.reduceSub,Nat.reduceLT,Nat.reduceLeDiff,reduceIte,reduceCtorEq,Nat.reduceEqDiff,implies_true,forall_const,ad])
         rw[show (2+(q:Int)).toNat=2+q by omega]
         exact⟨by omega,by omega,by omega,(aj (by kernel_rfl)),rfl⟩))
    ·have hk2':¬ pre (·==63) s1<s1.length:=by simpa using fQ
     rw[show aG 63 s1=(s1,[],false) from if_neg hk2']
     simp only
     have gW:s1.length≤4294967281:=ny
     generalize s1=s2 at gW ⊢
     (
      have px3:=bk s2 [58,47] (by omega) (by simp)
      rw[show pre (([58,47]:Bytes).contains ·) s2=pre aq s2 from rfl]at px3
      (refine aa (px3) ?_;simp only[ae,↓Xn,↓Xo,↓Xg,↓Xd,↓Xe,↓Xf,Tryz.VΓ,Tryz.Γs,Xp,Xi,Nat.reduceAdd,Nat.reduceSub,Nat.reduceLT,Nat.reduceLeDiff,reduceIte,reduceCtorEq,Nat.reduceEqDiff,implies_true,forall_const,ad])
      refine⟨fun kF=>?_,fun kF=>?_⟩
      ·have hp:pre aq s2<s2.length:=by simpa using kF
       rw[cE (n:=58) hp 58 rfl]
       refine⟨by omega,fun h1=>⟨by omega,?_⟩,fun h1=>?_⟩
       ·have hh:(s2.drop (pre aq s2)).head? = some 58:=by
         rw[zLC,zLr hp,beq_iff_eq.1 h1]
        (refine aa (jX _ (by rw[zLy];omega)) ?_;simp only[ae,↓Xn,↓Xo,↓Xg,↓Xd,↓Xe,↓Xf,Tryz.VΓ,Tryz.Γs,Xp,Xi,Nat.reduceAdd,Nat.reduceSub,Nat.reduceLT,Nat.reduceLeDiff,reduceIte,reduceCtorEq,Nat.reduceEqDiff,implies_true,forall_const,ad])
        refine⟨fun h2=>?_,fun h2=>?_⟩
        ·have fT:∀ (f q:Bytes) (hf hq:Bool),aF s2 f q hf hq=(Uri.none,6):=fun f q hf hq=>by
          unfold aF
          rw[if_pos hh,if_neg (by rw[pV h2];simp)]
         rw[fT];rfl
        ·have fT:∀ (f q:Bytes) (hf hq:Bool),aF s2 f q hf hq=(⟨s2.take (pre aq s2),(aB (s2.drop (pre aq s2+1))).1,(aB (s2.drop (pre aq s2+1))).2.2,q,f,true,(aB (s2.drop (pre aq s2+1))).2.1,hq,hf⟩,0):=fun f q hf hq=>by
          unfold aF
          rw[if_pos hh,if_pos (pW h2)]
         have Gn:(s2.drop (pre aq s2+1)).length≤4294967281:=by rw[zLq];omega
         refine⟨by omega,by omega,by omega,(aj (by kernel_rfl)),?_⟩
         (
          (refine aa (bR (s2.drop (pre aq s2+1)) [47,47]) ?_;simp only[ae,↓Xn,↓Xo,↓Xg,↓Xd,↓Xe,↓Xf,Tryz.VΓ,Tryz.Γs,Xp,Xi,Nat.reduceAdd,Nat.reduceSub,Nat.reduceLT,Nat.reduceLeDiff,reduceIte,reduceCtorEq,Nat.reduceEqDiff,implies_true,forall_const,ad])
          cases gO:Lib.hasPrefix (s2.drop (pre aq s2+1)) [47,47]
          ·refine⟨fun h=>(by cases h),fun _=>?_⟩
           rw[fT,ch gO];rfl
          ·refine⟨fun _=>?_,fun h=>(by cases h)⟩
           rw[fT,cF gO]
           have uO:=eE gO
           simp only[zLs,zLu]at uO
           have px4:=bk ((s2.drop (pre aq s2+1)).drop 2) [47] (by rw[zLq];omega) (by simp)
           rw[dS]at px4
           have fU:=cq (·==47) ((s2.drop (pre aq s2+1)).drop 2)
           rw[zLq]at fU
           generalize pre (·==47) ((s2.drop (pre aq s2+1)).drop 2)=q at px4 fU ⊢
           refine⟨by omega,?_⟩
           (refine aa (px4) ?_;simp only[ae,↓Xn,↓Xo,↓Xg,↓Xd,↓Xe,↓Xf,Tryz.VΓ,Tryz.Γs,Xp,Xi,Nat.reduceAdd,Nat.reduceSub,Nat.reduceLT,Nat.reduceLeDiff,reduceIte,reduceCtorEq,Nat.reduceEqDiff,implies_true,forall_const,ad])
           rw[show (2+(q:Int)).toNat=2+q by omega]
           exact⟨by omega,by omega,by omega,(aj (by kernel_rfl)),rfl⟩)
       ·have fT:∀ (f q:Bytes) (hf hq:Bool),aF s2 f q hf hq=(⟨[],(aB s2).1,(aB s2).2.2,q,f,false,(aB s2).2.1,hq,hf⟩,0):=fun f q hf hq=>by
         unfold aF
         rw[if_neg (by rw[zLC,zLr hp];simpa using h1)]
        have Gn:=gW
        (
         (refine aa (bR (s2) [47,47]) ?_;simp only[ae,↓Xn,↓Xo,↓Xg,↓Xd,↓Xe,↓Xf,Tryz.VΓ,Tryz.Γs,Xp,Xi,Nat.reduceAdd,Nat.reduceSub,Nat.reduceLT,Nat.reduceLeDiff,reduceIte,reduceCtorEq,Nat.reduceEqDiff,implies_true,forall_const,ad])
         cases gO:Lib.hasPrefix (s2) [47,47]
         ·refine⟨fun h=>(by cases h),fun _=>?_⟩
          rw[fT,ch gO];rfl
         ·refine⟨fun _=>?_,fun h=>(by cases h)⟩
          rw[fT,cF gO]
          have uO:=eE gO
          simp only[zLs,zLu]at uO
          have px4:=bk ((s2).drop 2) [47] (by rw[zLq];omega) (by simp)
          rw[dS]at px4
          have fU:=cq (·==47) ((s2).drop 2)
          rw[zLq]at fU
          generalize pre (·==47) ((s2).drop 2)=q at px4 fU ⊢
          refine⟨by omega,?_⟩
          (refine aa (px4) ?_;simp only[ae,↓Xn,↓Xo,↓Xg,↓Xd,↓Xe,↓Xf,Tryz.VΓ,Tryz.Γs,Xp,Xi,Nat.reduceAdd,Nat.reduceSub,Nat.reduceLT,Nat.reduceLeDiff,reduceIte,reduceCtorEq,Nat.reduceEqDiff,implies_true,forall_const,ad])
          rw[show (2+(q:Int)).toNat=2+q by omega]
          exact⟨by omega,by omega,by omega,(aj (by kernel_rfl)),rfl⟩)
      ·have fT:∀ (f q:Bytes) (hf hq:Bool),aF s2 f q hf hq=(⟨[],(aB s2).1,(aB s2).2.2,q,f,false,(aB s2).2.1,hq,hf⟩,0):=fun f q hf hq=>by
        unfold aF
        rw[if_neg (by rw[zLI (by simp at kF;omega)];simp)]
       have Gn:=gW
       (
        (refine aa (bR (s2) [47,47]) ?_;simp only[ae,↓Xn,↓Xo,↓Xg,↓Xd,↓Xe,↓Xf,Tryz.VΓ,Tryz.Γs,Xp,Xi,Nat.reduceAdd,Nat.reduceSub,Nat.reduceLT,Nat.reduceLeDiff,reduceIte,reduceCtorEq,Nat.reduceEqDiff,implies_true,forall_const,ad])
        cases gO:Lib.hasPrefix (s2) [47,47]
        ·refine⟨fun h=>(by cases h),fun _=>?_⟩
         rw[fT,ch gO];rfl
        ·refine⟨fun _=>?_,fun h=>(by cases h)⟩
         rw[fT,cF gO]
         have uO:=eE gO
         simp only[zLs,zLu]at uO
         have px4:=bk ((s2).drop 2) [47] (by rw[zLq];omega) (by simp)
         rw[dS]at px4
         have fU:=cq (·==47) ((s2).drop 2)
         rw[zLq]at fU
         generalize pre (·==47) ((s2).drop 2)=q at px4 fU ⊢
         refine⟨by omega,?_⟩
         (refine aa (px4) ?_;simp only[ae,↓Xn,↓Xo,↓Xg,↓Xd,↓Xe,↓Xf,Tryz.VΓ,Tryz.Γs,Xp,Xi,Nat.reduceAdd,Nat.reduceSub,Nat.reduceLT,Nat.reduceLeDiff,reduceIte,reduceCtorEq,Nat.reduceEqDiff,implies_true,forall_const,ad])
         rw[show (2+(q:Int)).toNat=2+q by omega]
         exact⟨by omega,by omega,by omega,(aj (by kernel_rfl)),rfl⟩)))
  ·have hk1':¬ pre (·==35) s<s.length:=by simpa using iB
   rw[show aG 35 s=(s,[],false) from if_neg hk1']
   simp only
   have ny:s.length≤4294967281:=hs
   generalize s=s1 at ny ⊢
   (
    have px2:=bk s1 [63] (by omega) (by simp)
    rw[dS]at px2
    (refine aa (px2) ?_;simp only[ae,↓Xn,↓Xo,↓Xg,↓Xd,↓Xe,↓Xf,Tryz.VΓ,Tryz.Γs,Xp,Xi,Nat.reduceAdd,Nat.reduceSub,Nat.reduceLT,Nat.reduceLeDiff,reduceIte,reduceCtorEq,Nat.reduceEqDiff,implies_true,forall_const,ad])
    refine⟨fun fQ=>?_,fun fQ=>?_⟩
    ·have hk2':pre (·==63) s1<s1.length:=by simpa using fQ
     rw[show aG 63 s1=(s1.take (pre (·==63) s1),s1.drop (pre (·==63) s1+1),true) from if_pos hk2']
     simp only
     have gW:(s1.take (pre (·==63) s1)).length≤4294967281:=by rw[zLy];omega
     refine⟨by omega,by omega,by omega,(aj (by kernel_rfl)),?_⟩
     generalize s1.take (pre (·==63) s1)=s2 at gW ⊢
     generalize s1.drop (pre (·==63) s1+1)=qu
     (
      have px3:=bk s2 [58,47] (by omega) (by simp)
      rw[show pre (([58,47]:Bytes).contains ·) s2=pre aq s2 from rfl]at px3
      (refine aa (px3) ?_;simp only[ae,↓Xn,↓Xo,↓Xg,↓Xd,↓Xe,↓Xf,Tryz.VΓ,Tryz.Γs,Xp,Xi,Nat.reduceAdd,Nat.reduceSub,Nat.reduceLT,Nat.reduceLeDiff,reduceIte,reduceCtorEq,Nat.reduceEqDiff,implies_true,forall_const,ad])
      refine⟨fun kF=>?_,fun kF=>?_⟩
      ·have hp:pre aq s2<s2.length:=by simpa using kF
       rw[cE (n:=58) hp 58 rfl]
       refine⟨by omega,fun h1=>⟨by omega,?_⟩,fun h1=>?_⟩
       ·have hh:(s2.drop (pre aq s2)).head? = some 58:=by
         rw[zLC,zLr hp,beq_iff_eq.1 h1]
        (refine aa (jX _ (by rw[zLy];omega)) ?_;simp only[ae,↓Xn,↓Xo,↓Xg,↓Xd,↓Xe,↓Xf,Tryz.VΓ,Tryz.Γs,Xp,Xi,Nat.reduceAdd,Nat.reduceSub,Nat.reduceLT,Nat.reduceLeDiff,reduceIte,reduceCtorEq,Nat.reduceEqDiff,implies_true,forall_const,ad])
        refine⟨fun h2=>?_,fun h2=>?_⟩
        ·have fT:∀ (f q:Bytes) (hf hq:Bool),aF s2 f q hf hq=(Uri.none,6):=fun f q hf hq=>by
          unfold aF
          rw[if_pos hh,if_neg (by rw[pV h2];simp)]
         rw[fT];rfl
        ·have fT:∀ (f q:Bytes) (hf hq:Bool),aF s2 f q hf hq=(⟨s2.take (pre aq s2),(aB (s2.drop (pre aq s2+1))).1,(aB (s2.drop (pre aq s2+1))).2.2,q,f,true,(aB (s2.drop (pre aq s2+1))).2.1,hq,hf⟩,0):=fun f q hf hq=>by
          unfold aF
          rw[if_pos hh,if_pos (pW h2)]
         have Gn:(s2.drop (pre aq s2+1)).length≤4294967281:=by rw[zLq];omega
         refine⟨by omega,by omega,by omega,(aj (by kernel_rfl)),?_⟩
         (
          (refine aa (bR (s2.drop (pre aq s2+1)) [47,47]) ?_;simp only[ae,↓Xn,↓Xo,↓Xg,↓Xd,↓Xe,↓Xf,Tryz.VΓ,Tryz.Γs,Xp,Xi,Nat.reduceAdd,Nat.reduceSub,Nat.reduceLT,Nat.reduceLeDiff,reduceIte,reduceCtorEq,Nat.reduceEqDiff,implies_true,forall_const,ad])
          cases gO:Lib.hasPrefix (s2.drop (pre aq s2+1)) [47,47]
          ·refine⟨fun h=>(by cases h),fun _=>?_⟩
           rw[fT,ch gO];rfl
          ·refine⟨fun _=>?_,fun h=>(by cases h)⟩
           rw[fT,cF gO]
           have uO:=eE gO
           simp only[zLs,zLu]at uO
           have px4:=bk ((s2.drop (pre aq s2+1)).drop 2) [47] (by rw[zLq];omega) (by simp)
           rw[dS]at px4
           have fU:=cq (·==47) ((s2.drop (pre aq s2+1)).drop 2)
           rw[zLq]at fU
           generalize pre (·==47) ((s2.drop (pre aq s2+1)).drop 2)=q at px4 fU ⊢
           refine⟨by omega,?_⟩
           (refine aa (px4) ?_;simp only[ae,↓Xn,↓Xo,↓Xg,↓Xd,↓Xe,↓Xf,Tryz.VΓ,Tryz.Γs,Xp,Xi,Nat.reduceAdd,Nat.reduceSub,Nat.reduceLT,Nat.reduceLeDiff,reduceIte,reduceCtorEq,Nat.reduceEqDiff,implies_true,forall_const,ad])
           rw[show (2+(q:Int)).toNat=2+q by omega]
           exact⟨by omega,by omega,by omega,(aj (by kernel_rfl)),rfl⟩)
       ·have fT:∀ (f q:Bytes) (hf hq:Bool),aF s2 f q hf hq=(⟨[],(aB s2).1,(aB s2).2.2,q,f,false,(aB s2).2.1,hq,hf⟩,0):=fun f q hf hq=>by
         unfold aF
         rw[if_neg (by rw[zLC,zLr hp];simpa using h1)]
        have Gn:=gW
        (
         (refine aa (bR (s2) [47,47]) ?_;simp only[ae,↓Xn,↓Xo,↓Xg,↓Xd,↓Xe,↓Xf,Tryz.VΓ,Tryz.Γs,Xp,Xi,Nat.reduceAdd,Nat.reduceSub,Nat.reduceLT,Nat.reduceLeDiff,reduceIte,reduceCtorEq,Nat.reduceEqDiff,implies_true,forall_const,ad])
         cases gO:Lib.hasPrefix (s2) [47,47]
         ·refine⟨fun h=>(by cases h),fun _=>?_⟩
          rw[fT,ch gO];rfl
         ·refine⟨fun _=>?_,fun h=>(by cases h)⟩
          rw[fT,cF gO]
          have uO:=eE gO
          simp only[zLs,zLu]at uO
          have px4:=bk ((s2).drop 2) [47] (by rw[zLq];omega) (by simp)
          rw[dS]at px4
          have fU:=cq (·==47) ((s2).drop 2)
          rw[zLq]at fU
          generalize pre (·==47) ((s2).drop 2)=q at px4 fU ⊢
          refine⟨by omega,?_⟩
          (refine aa (px4) ?_;simp only[ae,↓Xn,↓Xo,↓Xg,↓Xd,↓Xe,↓Xf,Tryz.VΓ,Tryz.Γs,Xp,Xi,Nat.reduceAdd,Nat.reduceSub,Nat.reduceLT,Nat.reduceLeDiff,reduceIte,reduceCtorEq,Nat.reduceEqDiff,implies_true,forall_const,ad])
          rw[show (2+(q:Int)).toNat=2+q by omega]
          exact⟨by omega,by omega,by omega,(aj (by kernel_rfl)),rfl⟩)
      ·have fT:∀ (f q:Bytes) (hf hq:Bool),aF s2 f q hf hq=(⟨[],(aB s2).1,(aB s2).2.2,q,f,false,(aB s2).2.1,hq,hf⟩,0):=fun f q hf hq=>by
        unfold aF
        rw[if_neg (by rw[zLI (by simp at kF;omega)];simp)]
       have Gn:=gW
       (
        (refine aa (bR (s2) [47,47]) ?_;simp only[ae,↓Xn,↓Xo,↓Xg,↓Xd,↓Xe,↓Xf,Tryz.VΓ,Tryz.Γs,Xp,Xi,Nat.reduceAdd,Nat.reduceSub,Nat.reduceLT,Nat.reduceLeDiff,reduceIte,reduceCtorEq,Nat.reduceEqDiff,implies_true,forall_const,ad])
        cases gO:Lib.hasPrefix (s2) [47,47]
        ·refine⟨fun h=>(by cases h),fun _=>?_⟩
         rw[fT,ch gO];rfl
        ·refine⟨fun _=>?_,fun h=>(by cases h)⟩
         rw[fT,cF gO]
         have uO:=eE gO
         simp only[zLs,zLu]at uO
         have px4:=bk ((s2).drop 2) [47] (by rw[zLq];omega) (by simp)
         rw[dS]at px4
         have fU:=cq (·==47) ((s2).drop 2)
         rw[zLq]at fU
         generalize pre (·==47) ((s2).drop 2)=q at px4 fU ⊢
         refine⟨by omega,?_⟩
         (refine aa (px4) ?_;simp only[ae,↓Xn,↓Xo,↓Xg,↓Xd,↓Xe,↓Xf,Tryz.VΓ,Tryz.Γs,Xp,Xi,Nat.reduceAdd,Nat.reduceSub,Nat.reduceLT,Nat.reduceLeDiff,reduceIte,reduceCtorEq,Nat.reduceEqDiff,implies_true,forall_const,ad])
         rw[show (2+(q:Int)).toNat=2+q by omega]
         exact⟨by omega,by omega,by omega,(aj (by kernel_rfl)),rfl⟩))
    ·have hk2':¬ pre (·==63) s1<s1.length:=by simpa using fQ
     rw[show aG 63 s1=(s1,[],false) from if_neg hk2']
     simp only
     have gW:s1.length≤4294967281:=ny
     generalize s1=s2 at gW ⊢
     (
      have px3:=bk s2 [58,47] (by omega) (by simp)
      rw[show pre (([58,47]:Bytes).contains ·) s2=pre aq s2 from rfl]at px3
      (refine aa (px3) ?_;simp only[ae,↓Xn,↓Xo,↓Xg,↓Xd,↓Xe,↓Xf,Tryz.VΓ,Tryz.Γs,Xp,Xi,Nat.reduceAdd,Nat.reduceSub,Nat.reduceLT,Nat.reduceLeDiff,reduceIte,reduceCtorEq,Nat.reduceEqDiff,implies_true,forall_const,ad])
      refine⟨fun kF=>?_,fun kF=>?_⟩
      ·have hp:pre aq s2<s2.length:=by simpa using kF
       rw[cE (n:=58) hp 58 rfl]
       refine⟨by omega,fun h1=>⟨by omega,?_⟩,fun h1=>?_⟩
       ·have hh:(s2.drop (pre aq s2)).head? = some 58:=by
         rw[zLC,zLr hp,beq_iff_eq.1 h1]
        (refine aa (jX _ (by rw[zLy];omega)) ?_;simp only[ae,↓Xn,↓Xo,↓Xg,↓Xd,↓Xe,↓Xf,Tryz.VΓ,Tryz.Γs,Xp,Xi,Nat.reduceAdd,Nat.reduceSub,Nat.reduceLT,Nat.reduceLeDiff,reduceIte,reduceCtorEq,Nat.reduceEqDiff,implies_true,forall_const,ad])
        refine⟨fun h2=>?_,fun h2=>?_⟩
        ·have fT:∀ (f q:Bytes) (hf hq:Bool),aF s2 f q hf hq=(Uri.none,6):=fun f q hf hq=>by
          unfold aF
          rw[if_pos hh,if_neg (by rw[pV h2];simp)]
         rw[fT];rfl
        ·have fT:∀ (f q:Bytes) (hf hq:Bool),aF s2 f q hf hq=(⟨s2.take (pre aq s2),(aB (s2.drop (pre aq s2+1))).1,(aB (s2.drop (pre aq s2+1))).2.2,q,f,true,(aB (s2.drop (pre aq s2+1))).2.1,hq,hf⟩,0):=fun f q hf hq=>by
          unfold aF
          rw[if_pos hh,if_pos (pW h2)]
         have Gn:(s2.drop (pre aq s2+1)).length≤4294967281:=by rw[zLq];omega
         refine⟨by omega,by omega,by omega,(aj (by kernel_rfl)),?_⟩
         (
          (refine aa (bR (s2.drop (pre aq s2+1)) [47,47]) ?_;simp only[ae,↓Xn,↓Xo,↓Xg,↓Xd,↓Xe,↓Xf,Tryz.VΓ,Tryz.Γs,Xp,Xi,Nat.reduceAdd,Nat.reduceSub,Nat.reduceLT,Nat.reduceLeDiff,reduceIte,reduceCtorEq,Nat.reduceEqDiff,implies_true,forall_const,ad])
          cases gO:Lib.hasPrefix (s2.drop (pre aq s2+1)) [47,47]
          ·refine⟨fun h=>(by cases h),fun _=>?_⟩
           rw[fT,ch gO];rfl
          ·refine⟨fun _=>?_,fun h=>(by cases h)⟩
           rw[fT,cF gO]
           have uO:=eE gO
           simp only[zLs,zLu]at uO
           have px4:=bk ((s2.drop (pre aq s2+1)).drop 2) [47] (by rw[zLq];omega) (by simp)
           rw[dS]at px4
           have fU:=cq (·==47) ((s2.drop (pre aq s2+1)).drop 2)
           rw[zLq]at fU
           generalize pre (·==47) ((s2.drop (pre aq s2+1)).drop 2)=q at px4 fU ⊢
           refine⟨by omega,?_⟩
           (refine aa (px4) ?_;simp only[ae,↓Xn,↓Xo,↓Xg,↓Xd,↓Xe,↓Xf,Tryz.VΓ,Tryz.Γs,Xp,Xi,Nat.reduceAdd,Nat.reduceSub,Nat.reduceLT,Nat.reduceLeDiff,reduceIte,reduceCtorEq,Nat.reduceEqDiff,implies_true,forall_const,ad])
           rw[show (2+(q:Int)).toNat=2+q by omega]
           exact⟨by omega,by omega,by omega,(aj (by kernel_rfl)),rfl⟩)
       ·have fT:∀ (f q:Bytes) (hf hq:Bool),aF s2 f q hf hq=(⟨[],(aB s2).1,(aB s2).2.2,q,f,false,(aB s2).2.1,hq,hf⟩,0):=fun f q hf hq=>by
         unfold aF
         rw[if_neg (by rw[zLC,zLr hp];simpa using h1)]
        have Gn:=gW
        (
         (refine aa (bR (s2) [47,47]) ?_;simp only[ae,↓Xn,↓Xo,↓Xg,↓Xd,↓Xe,↓Xf,Tryz.VΓ,Tryz.Γs,Xp,Xi,Nat.reduceAdd,Nat.reduceSub,Nat.reduceLT,Nat.reduceLeDiff,reduceIte,reduceCtorEq,Nat.reduceEqDiff,implies_true,forall_const,ad])
         cases gO:Lib.hasPrefix (s2) [47,47]
         ·refine⟨fun h=>(by cases h),fun _=>?_⟩
          rw[fT,ch gO];rfl
         ·refine⟨fun _=>?_,fun h=>(by cases h)⟩
          rw[fT,cF gO]
          have uO:=eE gO
          simp only[zLs,zLu]at uO
          have px4:=bk ((s2).drop 2) [47] (by rw[zLq];omega) (by simp)
          rw[dS]at px4
          have fU:=cq (·==47) ((s2).drop 2)
          rw[zLq]at fU
          generalize pre (·==47) ((s2).drop 2)=q at px4 fU ⊢
          refine⟨by omega,?_⟩
          (refine aa (px4) ?_;simp only[ae,↓Xn,↓Xo,↓Xg,↓Xd,↓Xe,↓Xf,Tryz.VΓ,Tryz.Γs,Xp,Xi,Nat.reduceAdd,Nat.reduceSub,Nat.reduceLT,Nat.reduceLeDiff,reduceIte,reduceCtorEq,Nat.reduceEqDiff,implies_true,forall_const,ad])
          rw[show (2+(q:Int)).toNat=2+q by omega]
          exact⟨by omega,by omega,by omega,(aj (by kernel_rfl)),rfl⟩)
      ·have fT:∀ (f q:Bytes) (hf hq:Bool),aF s2 f q hf hq=(⟨[],(aB s2).1,(aB s2).2.2,q,f,false,(aB s2).2.1,hq,hf⟩,0):=fun f q hf hq=>by
        unfold aF
        rw[if_neg (by rw[zLI (by simp at kF;omega)];simp)]
       have Gn:=gW
       (
        (refine aa (bR (s2) [47,47]) ?_;simp only[ae,↓Xn,↓Xo,↓Xg,↓Xd,↓Xe,↓Xf,Tryz.VΓ,Tryz.Γs,Xp,Xi,Nat.reduceAdd,Nat.reduceSub,Nat.reduceLT,Nat.reduceLeDiff,reduceIte,reduceCtorEq,Nat.reduceEqDiff,implies_true,forall_const,ad])
        cases gO:Lib.hasPrefix (s2) [47,47]
        ·refine⟨fun h=>(by cases h),fun _=>?_⟩
         rw[fT,ch gO];rfl
        ·refine⟨fun _=>?_,fun h=>(by cases h)⟩
         rw[fT,cF gO]
         have uO:=eE gO
         simp only[zLs,zLu]at uO
         have px4:=bk ((s2).drop 2) [47] (by rw[zLq];omega) (by simp)
         rw[dS]at px4
         have fU:=cq (·==47) ((s2).drop 2)
         rw[zLq]at fU
         generalize pre (·==47) ((s2).drop 2)=q at px4 fU ⊢
         refine⟨by omega,?_⟩
         (refine aa (px4) ?_;simp only[ae,↓Xn,↓Xo,↓Xg,↓Xd,↓Xe,↓Xf,Tryz.VΓ,Tryz.Γs,Xp,Xi,Nat.reduceAdd,Nat.reduceSub,Nat.reduceLT,Nat.reduceLeDiff,reduceIte,reduceCtorEq,Nat.reduceEqDiff,implies_true,forall_const,ad])
         rw[show (2+(q:Int)).toNat=2+q by omega]
         exact⟨by omega,by omega,by omega,(aj (by kernel_rfl)),rfl⟩)))
theorem kr:∀ (f:Nat)(s:Bytes),(bH f s).length≤f
 | 0,_=>by simp[bH]
 | f+1,[]=>by simp[bH]
 | f+1,c::r=>by
   rw[bH]
   split
   ·split
    ·have:=kr f (by assumption);simp;omega
    ·simp
   ·have:=kr f r;simp;omega
theorem xG (s:Bytes):(bB s).1.length≤s.length:=by
 unfold bB
 split
 ·simp
 split
 ·simp
 split
 ·simp
 ·simp only[fE];omega
theorem EN (s:Bytes):(ak s).1.length≤s.length:=by
 unfold ak
 split
 ·simp
 split
 ·simp
 ·have:=kr s.length s
  simpa[ay] using this
theorem idx_lt (set:Bytes)(c:UInt8):decide (Lib.indexByte set c<0)=!set.contains c:=by
 rw[← qg]
 by_cases h:0≤Lib.indexByte set c
 ·rw[decide_eq_true h,decide_eq_false (by omega)];rfl
 ·rw[decide_eq_false h,decide_eq_true (by omega)];rfl
theorem we (m:mi)(h:m.loc.length≤300000∧m.host.length≤140737488355328):PC Tryz.V 117 [Ef m] (.str (nm m)):=by
 have pe:=ue m.loc Bg h.1
 have hl:=dM Bg m.loc
 refine aQ 3000 Tryz.func117 rfl Tryz.ntmps117 Tryz.results117 Tryz.call117 (by simp) (by simp[flat,flat.ai,Ef]) (by simp[flat,flat.ai,Ef]) ?_
 unfold Ef
 simp only[ae,↓Xn,↓Xo,↓Xg,↓Xd,↓Xe,↓Xf,Tryz.VΓ,Tryz.Γs,Xp,Xi,Nat.reduceAdd,Nat.reduceSub,Nat.reduceLT,Nat.reduceLeDiff,reduceIte,reduceCtorEq,Nat.reduceEqDiff,implies_true,forall_const,ad]
 (refine aR (pe) ?_;simp only[ae,↓Xn,↓Xo,↓Xg,↓Xd,↓Xe,↓Xf,Tryz.VΓ,Tryz.Γs,Xp,Xi,Nat.reduceAdd,Nat.reduceSub,Nat.reduceLT,Nat.reduceLeDiff,reduceIte,reduceCtorEq,Nat.reduceEqDiff,implies_true,forall_const,ad])
 exact⟨by omega,by omega,by simp only[zLF,zLs,zLu];omega,(aj (by kernel_rfl)),by simp[nm,kN]⟩
theorem AH (m:mi)(h:m.loc.length≤300000∧m.host.length≤140737488355328):PC Tryz.V 51 [Ef m] (.str (nm m)):=by
 have pe:=sj m.loc Bg (by omega) (by decide)
 have hl:=dM Bg m.loc
 refine aQ 3000 Tryz.func51 rfl Tryz.ntmps51 Tryz.results51 Tryz.call51 (by simp) (by simp[flat,flat.ai,Ef]) (by simp[flat,flat.ai,Ef]) ?_
 unfold Ef
 simp only[ae,↓Xn,↓Xo,↓Xg,↓Xd,↓Xe,↓Xf,Tryz.VΓ,Tryz.Γs,Xp,Xi,Nat.reduceAdd,Nat.reduceSub,Nat.reduceLT,Nat.reduceLeDiff,reduceIte,reduceCtorEq,Nat.reduceEqDiff,implies_true,forall_const,ad]
 (refine aR (pe) ?_;simp only[ae,↓Xn,↓Xo,↓Xg,↓Xd,↓Xe,↓Xf,Tryz.VΓ,Tryz.Γs,Xp,Xi,Nat.reduceAdd,Nat.reduceSub,Nat.reduceLT,Nat.reduceLeDiff,reduceIte,reduceCtorEq,Nat.reduceEqDiff,implies_true,forall_const,ad])
 exact⟨by omega,by omega,by simp only[zLF,zLs,zLu];omega,(aj (by kernel_rfl)),by simp[nm,kN]⟩
theorem yG (s:Bytes):PC Tryz.V 116 [.str s] (.eR [Ef (bS s).1,.int .i64 (bS s).2]):=by
 have pe:=yL (s.take 7) kN (by simp;omega) (by decide)
 rw[show lower kN=kN by decide]at pe
 refine aQ 3000 Tryz.func116 rfl Tryz.ntmps116 Tryz.results116 Tryz.call116 (by simp) (by simp[flat,flat.ai]) (by simp[flat,flat.ai,Ef]) ?_
 simp only[ae,↓Xn,↓Xo,↓Xg,↓Xd,↓Xe,↓Xf,Tryz.VΓ,Tryz.Γs,Xp,Xi,Nat.reduceAdd,Nat.reduceSub,Nat.reduceLT,Nat.reduceLeDiff,reduceIte,reduceCtorEq,Nat.reduceEqDiff,implies_true,forall_const,ad]
 unfold bS
 refine⟨fun h=>?_,fun h=>⟨fun h2=>⟨⟨by omega,(by simp at h2;omega)⟩,?_⟩,fun h2=>?_⟩⟩
 ·have h:4096<s.length:=(by simp at h;omega)
  rw[if_pos h];rfl
 ·have h:¬ 4096<s.length:=(by simp at h;omega)
  have h2:¬ s.length<7:=(by simp at h2;omega)
  rw[if_neg h]
  (refine aa pe ?_;simp only[ae,↓Xn,↓Xo,↓Xg,↓Xd,↓Xe,↓Xf,Tryz.VΓ,Tryz.Γs,Xp,Xi,Nat.reduceAdd,Nat.reduceSub,Nat.reduceLT,Nat.reduceLeDiff,reduceIte,reduceCtorEq,Nat.reduceEqDiff,implies_true,forall_const,ad,Int.reduceToNat])
  refine⟨fun h3=>?_,fun h3=>⟨⟨by omega,by omega⟩,?_⟩⟩
  ·rw[if_pos (.inr (by simpa using h3))];rfl
  have h3:lower (s.take 7)=kN:=by simpa using h3
  rw[if_neg (by simp only[not_or];exact⟨h2,by simpa using h3⟩)]
  have iT:∀ c:UInt8,cn c ∉ kN→(c∈s↔c∈s.drop 7):=fun c hc=>by
   conv=>lhs;rw[← List.take_append_drop 7 s,List.mem_append]
   constructor
   ·rintro(h|h)
    ·exfalso
     apply hc
     rw[← h3]
     exact List.mem_map.2 ⟨c,h,rfl⟩
    ·exact h
   ·exact .inr
  have n1:=iT 63 (by decide)
  have n2:=iT 35 (by decide)
  have pa:=wk s 63 35 (by decide) (by decide) (by omega)
  rw[show decide ((63:UInt8)∈s∨(35:UInt8)∈s)=decide ((63:UInt8)∈s.drop 7∨(35:UInt8)∈s.drop 7) from decide_eq_decide.2 (by rw[n1,n2])]at pa
  have hS:(s.drop 7).length≤4096:=by simp;omega
  have pc:=uf (s.drop 7) 64 (by omega)
  generalize s.drop 7=S at hS pc pa ⊢
  have eg:=eb 64 S
  unfold qa
  generalize aG 64 S=x at pc eg ⊢
  obtain⟨l,p,ok⟩:=x
  simp only at pc eg ⊢
  (refine aa pc ?_;simp only[ae,↓Xn,↓Xo,↓Xg,↓Xd,↓Xe,↓Xf,Tryz.VΓ,Tryz.Γs,Xp,Xi,Nat.reduceAdd,Nat.reduceSub,Nat.reduceLT,Nat.reduceLeDiff,reduceIte,reduceCtorEq,Nat.reduceEqDiff,implies_true,forall_const,ad])
  refine⟨fun bN=>?_,fun bN=>(by rw[if_pos (.inl (by simpa using bN))];rfl)⟩
  have bN:ok=true:=by simpa using bN
  subst bN
  (refine aa pa ?_;simp only[ae,↓Xn,↓Xo,↓Xg,↓Xd,↓Xe,↓Xf,Tryz.VΓ,Tryz.Γs,Xp,Xi,Nat.reduceAdd,Nat.reduceSub,Nat.reduceLT,Nat.reduceLeDiff,reduceIte,reduceCtorEq,Nat.reduceEqDiff,implies_true,forall_const,ad])
  refine⟨fun hq=>?_,fun hq=>?_⟩
  ·rw[if_pos (.inr (of_decide_eq_true hq))];rfl
  rw[if_neg (by simp only[Bool.true_eq_false,false_or];exact of_decide_eq_false hq)]
  have hl:l.length≤4096:=by omega
  have hp:p.length≤4096:=by omega
  clear pa pc pe n1 n2 iT eg h3
  refine aL (fun σ=>∃ i:Nat,i≤l.length∧lk 2 σ.t=some (.p 0 0)∧lk 3 σ.t=some (.int .i64 0)∧lk 4 σ.t=some (.str l)∧lk 5 σ.t=some (.str p)∧lk 40 σ.t=some (.int .i64 l.length)∧lk 41 σ.t=some (.int .i64 i)∧σ.b=[.cells [.str [],.str []] 85 true]∧(l.take i).all ie=true) (fun σ=>l.length - ji 41 σ) ⟨0,by omega,rfl,rfl,rfl,rfl,rfl,rfl,rfl,rfl⟩ ?_
  rintro⟨t,b⟩ ⟨i,hi,g2,g3,g4,g5,g40,g41,rfl,gZ⟩
  simp only at g2 g3 g4 g5 g40 g41
  rw[az g41]
  by_cases aC:i<l.length
  ·have hg:l.getD i 0=l[i]:=by simp[zLA,aC]
   have rE:ie l[i]=false→l.all ie=false:=fun h=>cU aC h
   simp only[ae,↓Xn,↓Xo,↓Xg,↓Xd,↓Xe,↓Xf,Tryz.VΓ,Tryz.Γs,Xp,Xi,Nat.reduceAdd,Nat.reduceSub,Nat.reduceLT,Nat.reduceLeDiff,reduceIte,reduceCtorEq,Nat.reduceEqDiff,implies_true,forall_const,ad,g2,g3,g4,g5,g40,g41,hg]
   refine⟨fun _=>⟨⟨by omega,by omega⟩,?_⟩,fun h=>absurd h (by simp;omega)⟩
   (refine aa (fj l[i]) ?_;simp only[ae,↓Xn,↓Xo,↓Xg,↓Xd,↓Xe,↓Xf,Tryz.VΓ,Tryz.Γs,Xp,Xi,Nat.reduceAdd,Nat.reduceSub,Nat.reduceLT,Nat.reduceLeDiff,reduceIte,reduceCtorEq,Nat.reduceEqDiff,implies_true,forall_const,ad,g2,g3,g4,g5,g40,g41,hg])
   refine⟨fun hu=>?_,fun hu=>⟨⟨by omega,by omega⟩,⟨i+1,by omega,rfl,aO aC gZ (by unfold ie;rw[show eX l[i]=true by simpa using hu];rfl)⟩,by rw[az (k:=.i64) (n:=(i:Int)+1) rfl];omega⟩⟩
   have hu:eX l[i]=false:=by simpa using hu
   (refine aa (dG fP l[i]) ?_;simp only[ae,↓Xn,↓Xo,↓Xg,↓Xd,↓Xe,↓Xf,Tryz.VΓ,Tryz.Γs,Xp,Xi,Nat.reduceAdd,Nat.reduceSub,Nat.reduceLT,Nat.reduceLeDiff,reduceIte,reduceCtorEq,Nat.reduceEqDiff,implies_true,forall_const,ad,g2,g3,g4,g5,g40,g41,hg])
   rw[idx_lt]
   refine⟨fun hk=>?_,fun hk=>⟨⟨by omega,by omega⟩,⟨i+1,by omega,rfl,aO aC gZ (by unfold ie;rw[show fP.contains l[i]=true by simpa using hk];simp)⟩,by rw[az (k:=.i64) (n:=(i:Int)+1) rfl];omega⟩⟩
   rw[if_pos (rE (by unfold ie;rw[hu,show fP.contains l[i]=false by simpa using hk];rfl))]
   rfl
  ·have jk:i=l.length:=by omega
   subst jk
   rw[zLG]at gZ
   rw[gZ]
   have pd:=nh l
   have oT:=EN l
   generalize ak l=dd at pd oT ⊢
   obtain⟨d,e1⟩:=dd
   have ph:=so p (by omega)
   have hhl:=xG p
   generalize bB p=hh at ph hhl ⊢
   obtain⟨hh,e2⟩:=hh
   simp only at pd ph oT hhl
   simp only[Bool.true_eq_false,if_false]
   unfold yU
   simp only[ae,↓Xn,↓Xo,↓Xg,↓Xd,↓Xe,↓Xf,Tryz.VΓ,Tryz.Γs,Xp,Xi,Nat.reduceAdd,Nat.reduceSub,Nat.reduceLT,Nat.reduceLeDiff,reduceIte,reduceCtorEq,Nat.reduceEqDiff,implies_true,forall_const,ad,g2,g3,g4,g5,g40,g41]
   refine⟨fun h=>absurd h (by simp),fun _=>?_⟩
   (refine aa pd ?_;simp only[ae,↓Xn,↓Xo,↓Xg,↓Xd,↓Xe,↓Xf,Tryz.VΓ,Tryz.Γs,Xp,Xi,Nat.reduceAdd,Nat.reduceSub,Nat.reduceLT,Nat.reduceLeDiff,reduceIte,reduceCtorEq,Nat.reduceEqDiff,implies_true,forall_const,ad,g2,g3,g4,g5,g40,g41])
   refine⟨fun h1=>(by rw[if_pos (by simpa using h1)];rfl),fun h1=>?_⟩
   rw[if_neg (by simpa using h1)]
   (refine aa (yH d (by omega)) ?_;simp only[ae,↓Xn,↓Xo,↓Xg,↓Xd,↓Xe,↓Xf,Tryz.VΓ,Tryz.Γs,Xp,Xi,Nat.reduceAdd,Nat.reduceSub,Nat.reduceLT,Nat.reduceLeDiff,reduceIte,reduceCtorEq,Nat.reduceEqDiff,implies_true,forall_const,ad,g2,g3,g4,g5,g40,g41])
   refine⟨fun h2=>?_,fun h2=>?_⟩
   ·rw[if_pos (by simpa using h2)];rfl
   ·rw[if_neg (by simpa using h2)]
    (refine aa ph ?_;simp only[ae,↓Xn,↓Xo,↓Xg,↓Xd,↓Xe,↓Xf,Tryz.VΓ,Tryz.Γs,Xp,Xi,Nat.reduceAdd,Nat.reduceSub,Nat.reduceLT,Nat.reduceLeDiff,reduceIte,reduceCtorEq,Nat.reduceEqDiff,implies_true,forall_const,ad,g2,g3,g4,g5,g40,g41])
    refine⟨fun h3=>(by rw[if_pos (by simpa using h3)];rfl),fun h3=>?_⟩
    rw[if_neg (by simpa using h3)]
    (refine aa (wh hh (by omega)) ?_;simp only[ae,↓Xn,↓Xo,↓Xg,↓Xd,↓Xe,↓Xf,Tryz.VΓ,Tryz.Γs,Xp,Xi,Nat.reduceAdd,Nat.reduceSub,Nat.reduceLT,Nat.reduceLeDiff,reduceIte,reduceCtorEq,Nat.reduceEqDiff,implies_true,forall_const,ad,g2,g3,g4,g5,g40,g41])
    refine⟨fun h4=>?_,fun h4=>?_⟩
    ·rw[if_pos (by simpa using h4)];rfl
    ·rw[if_neg (by simpa using h4)];rfl
 ·have h:¬ 4096<s.length:=(by simp at h;omega)
  have h2:s.length<7:=(by simp at h2;omega)
  rw[if_neg h,if_pos (.inl h2)];rfl
theorem pre_set (s:Bytes):pre ([63,35].contains ·) s<s.length↔((63:UInt8)∈s∨(35:UInt8)∈s):=by
 have h:=EX s 63 35
 rw[lP]at h
 by_cases k:pre ([63,35].contains ·) s<s.length
 ·rw[if_pos k]at h
  have:decide ((63:UInt8)∈s∨(35:UInt8)∈s)=true:=by rw[← h];simp
  exact⟨fun _=>of_decide_eq_true this,fun _=>k⟩
 ·rw[if_neg k]at h
  have:decide ((63:UInt8)∈s∨(35:UInt8)∈s)=false:=by rw[← h];rfl
  exact⟨fun h=>absurd h k,fun h=>absurd h (of_decide_eq_false this)⟩
theorem CW (s:Bytes):PC Tryz.V 50 [.str s] (.eR [Ef (bS s).1,.int .i64 (bS s).2]):=by
 have pe:=oN (s.take 7) kN (by simp;omega) (by decide)
 rw[show lower kN=kN by decide]at pe
 refine aQ 3000 Tryz.func50 rfl Tryz.ntmps50 Tryz.results50 Tryz.call50 (by simp) (by simp[flat,flat.ai]) (by simp[flat,flat.ai,Ef]) ?_
 simp only[ae,↓Xn,↓Xo,↓Xg,↓Xd,↓Xe,↓Xf,Tryz.VΓ,Tryz.Γs,Xp,Xi,Nat.reduceAdd,Nat.reduceSub,Nat.reduceLT,Nat.reduceLeDiff,reduceIte,reduceCtorEq,Nat.reduceEqDiff,implies_true,forall_const,ad]
 unfold bS
 refine⟨fun h=>?_,fun h=>⟨fun h2=>⟨⟨by omega,(by simp at h2;omega)⟩,?_⟩,fun h2=>?_⟩⟩
 ·have h:4096<s.length:=(by simp at h;omega)
  rw[if_pos h];rfl
 ·have h:¬ 4096<s.length:=(by simp at h;omega)
  have h2:¬ s.length<7:=(by simp at h2;omega)
  rw[if_neg h]
  (refine aa pe ?_;simp only[ae,↓Xn,↓Xo,↓Xg,↓Xd,↓Xe,↓Xf,Tryz.VΓ,Tryz.Γs,Xp,Xi,Nat.reduceAdd,Nat.reduceSub,Nat.reduceLT,Nat.reduceLeDiff,reduceIte,reduceCtorEq,Nat.reduceEqDiff,implies_true,forall_const,ad,Int.reduceToNat])
  refine⟨fun h3=>?_,fun h3=>⟨⟨by omega,by omega⟩,?_⟩⟩
  ·rw[if_pos (.inr (by simpa using h3))];rfl
  have h3:lower (s.take 7)=kN:=by simpa using h3
  rw[if_neg (by simp only[not_or];exact⟨h2,by simpa using h3⟩)]
  have hS:(s.drop 7).length≤4096:=by simp;omega
  generalize s.drop 7=S at hS ⊢
  have pi:=bk S [64] (by omega) (by decide)
  rw[show (List.contains [64] ·:UInt8→Bool)=(·==64) from by funext c;simp;exact(Bool.beq_eq_decide_eq _ _).symm]at pi
  have pj:=bk S [63,35] (by omega) (by decide)
  have hq:=pre_set S
  have fU:=cq (·==64) S
  have hpq:=cq ([63,35].contains ·) S
  unfold qa
  (refine aa pi ?_;simp only[ae,↓Xn,↓Xo,↓Xg,↓Xd,↓Xe,↓Xf,Tryz.VΓ,Tryz.Γs,Xp,Xi,Nat.reduceAdd,Nat.reduceSub,Nat.reduceLT,Nat.reduceLeDiff,reduceIte,reduceCtorEq,Nat.reduceEqDiff,implies_true,forall_const,ad])
  refine⟨fun h4=>?_,fun h4=>?_⟩
  ·have h4:pre (·==64) S<S.length:=by
    have:=beq_eq_false_iff_ne.1 h4
    omega
   rw[show aG 64 S=(S.take (pre (·==64) S),S.drop (pre (·==64) S+1),true) from if_pos h4]
   generalize hk:pre (·==64) S=k at *
   simp only[Bool.true_eq_false,false_or]
   (refine aa pj ?_;simp only[ae,↓Xn,↓Xo,↓Xg,↓Xd,↓Xe,↓Xf,Tryz.VΓ,Tryz.Γs,Xp,Xi,Nat.reduceAdd,Nat.reduceSub,Nat.reduceLT,Nat.reduceLeDiff,reduceIte,reduceCtorEq,Nat.reduceEqDiff,implies_true,forall_const,ad])
   refine⟨fun h5=>?_,fun h5=>?_⟩
   ·rw[if_pos (hq.1 (by have:=of_decide_eq_true h5;omega))];rfl
   rw[if_neg (fun h=>absurd (hq.2 h) (by have:=of_decide_eq_false h5;omega))]
   clear hq hpq pj pi pe hk h5
   refine aL (fun σ=>∃ i:Nat,i≤k∧lk 0 σ.t=some (.str S)∧lk 2 σ.t=some (.p 0 0)∧lk 3 σ.t=some (.int .i64 0)∧lk 4 σ.t=some (.int .i64 k)∧lk 5 σ.t=some (.int .i64 i)∧σ.b=[.cells [.str [],.str []] 85 true]∧(S.take i).all ie=true) (fun σ=>k - ji 5 σ) ⟨0,by omega,rfl,rfl,rfl,rfl,rfl,rfl,rfl⟩ ?_
   rintro⟨t,b⟩ ⟨i,hi,g0,g2,g3,g4,g5,rfl,gZ⟩
   simp only at g0 g2 g3 g4 g5
   rw[az g5]
   by_cases aC:i<k
   ·have eF:i<S.length:=by omega
    have hg:S.getD i 0=S[i]:=by simp[zLA,eF]
    have rE:ie S[i]=false→(S.take k).all ie=false:=fun h=>by
     have e:(S.take k)[i]'(by simp;omega)=S[i]:=by simp
     exact cU (s:=S.take k) (k:=i) (by simp;omega) (by rw[e];exact h)
    simp only[ae,↓Xn,↓Xo,↓Xg,↓Xd,↓Xe,↓Xf,Tryz.VΓ,Tryz.Γs,Xp,Xi,Nat.reduceAdd,Nat.reduceSub,Nat.reduceLT,Nat.reduceLeDiff,reduceIte,reduceCtorEq,Nat.reduceEqDiff,implies_true,forall_const,ad,g0,g2,g3,g4,g5,hg]
    refine⟨fun _=>⟨⟨by omega,by omega⟩,?_⟩,fun h=>absurd h (by simp;omega)⟩
    (refine aa (dg S[i]) ?_;simp only[ae,↓Xn,↓Xo,↓Xg,↓Xd,↓Xe,↓Xf,Tryz.VΓ,Tryz.Γs,Xp,Xi,Nat.reduceAdd,Nat.reduceSub,Nat.reduceLT,Nat.reduceLeDiff,reduceIte,reduceCtorEq,Nat.reduceEqDiff,implies_true,forall_const,ad,g0,g2,g3,g4,g5,hg])
    refine⟨fun hu=>⟨⟨by omega,by omega⟩,?_⟩,fun hu=>⟨⟨by omega,by omega⟩,⟨i+1,by omega,rfl,aO eF gZ (by unfold ie;rw[show eX S[i]=true by simpa using hu];rfl)⟩,by rw[az (k:=.i64) (n:=(i:Int)+1) rfl];omega⟩⟩
    have hu:eX S[i]=false:=by simpa using hu
    (refine aa (jZ S[i] fP (by decide)) ?_;simp only[ae,↓Xn,↓Xo,↓Xg,↓Xd,↓Xe,↓Xf,Tryz.VΓ,Tryz.Γs,Xp,Xi,Nat.reduceAdd,Nat.reduceSub,Nat.reduceLT,Nat.reduceLeDiff,reduceIte,reduceCtorEq,Nat.reduceEqDiff,implies_true,forall_const,ad,g0,g2,g3,g4,g5,hg])
    refine⟨fun hk=>?_,fun hk=>⟨⟨by omega,by omega⟩,⟨i+1,by omega,rfl,aO eF gZ (by unfold ie;rw[show fP.contains S[i]=true by simpa using hk];simp)⟩,by rw[az (k:=.i64) (n:=(i:Int)+1) rfl];omega⟩⟩
    rw[if_pos (rE (by unfold ie;rw[hu,show fP.contains S[i]=false by simpa using hk];rfl))]
    rfl
   ·have jk:i=k:=by omega
    subst jk
    rw[gZ]
    have pd:=fh (S.take i)
    have oT:=EN (S.take i)
    generalize ak (S.take i)=dd at pd oT ⊢
    obtain⟨d,e1⟩:=dd
    have ph:=xh (S.drop (i+1)) (by simp;omega)
    have hhl:=xG (S.drop (i+1))
    generalize bB (S.drop (i+1))=hh at ph hhl ⊢
    obtain⟨hh,e2⟩:=hh
    simp only at pd ph oT hhl
    have oT:d.length≤4096:=by simp at oT;omega
    have hhl:hh.length≤4096:=by simp at hhl;omega
    simp only[Bool.true_eq_false,if_false]
    unfold yU
    simp only[ae,↓Xn,↓Xo,↓Xg,↓Xd,↓Xe,↓Xf,Tryz.VΓ,Tryz.Γs,Xp,Xi,Nat.reduceAdd,Nat.reduceSub,Nat.reduceLT,Nat.reduceLeDiff,reduceIte,reduceCtorEq,Nat.reduceEqDiff,implies_true,forall_const,ad,g0,g2,g3,g4,g5]
    refine⟨fun h=>absurd h (by simp),fun _=>⟨⟨by omega,by omega⟩,?_⟩⟩
    (refine aa pd ?_;simp only[ae,↓Xn,↓Xo,↓Xg,↓Xd,↓Xe,↓Xf,Tryz.VΓ,Tryz.Γs,Xp,Xi,Nat.reduceAdd,Nat.reduceSub,Nat.reduceLT,Nat.reduceLeDiff,reduceIte,reduceCtorEq,Nat.reduceEqDiff,implies_true,forall_const,ad,g0,g2,g3,g4,g5])
    refine⟨fun h1=>(by rw[if_pos (by simpa using h1)];rfl),fun h1=>?_⟩
    rw[if_neg (by simpa using h1)]
    (refine aa (CX d) ?_;simp only[ae,↓Xn,↓Xo,↓Xg,↓Xd,↓Xe,↓Xf,Tryz.VΓ,Tryz.Γs,Xp,Xi,Nat.reduceAdd,Nat.reduceSub,Nat.reduceLT,Nat.reduceLeDiff,reduceIte,reduceCtorEq,Nat.reduceEqDiff,implies_true,forall_const,ad,g0,g2,g3,g4,g5])
    refine⟨fun h2=>(by rw[if_pos (by simpa using h2)];rfl),fun h2=>⟨⟨by omega,by omega⟩,⟨by omega,by omega⟩,?_⟩⟩
    rw[if_neg (by simpa using h2)]
    (refine aa ph ?_;simp only[ae,↓Xn,↓Xo,↓Xg,↓Xd,↓Xe,↓Xf,Tryz.VΓ,Tryz.Γs,Xp,Xi,Nat.reduceAdd,Nat.reduceSub,Nat.reduceLT,Nat.reduceLeDiff,reduceIte,reduceCtorEq,Nat.reduceEqDiff,implies_true,forall_const,ad,g0,g2,g3,g4,g5])
    refine⟨fun h3=>(by rw[if_pos (by simpa using h3)];rfl),fun h3=>?_⟩
    rw[if_neg (by simpa using h3)]
    (refine aa (AL hh (by omega)) ?_;simp only[ae,↓Xn,↓Xo,↓Xg,↓Xd,↓Xe,↓Xf,Tryz.VΓ,Tryz.Γs,Xp,Xi,Nat.reduceAdd,Nat.reduceSub,Nat.reduceLT,Nat.reduceLeDiff,reduceIte,reduceCtorEq,Nat.reduceEqDiff,implies_true,forall_const,ad,g0,g2,g3,g4,g5])
    refine⟨fun h4=>?_,fun h4=>?_⟩
    ·rw[if_pos (by simpa using h4)];rfl
    ·rw[if_neg (by simpa using h4)];rfl
  ·have h4:=beq_iff_eq.1 h4
   rw[fI (by omega)];rfl
 ·have h:¬ 4096<s.length:=(by simp at h;omega)
  have h2:s.length<7:=(by simp at h2;omega)
  rw[if_neg h,if_pos (.inl h2)];rfl
end Go.Proofs.YteipdaijbncgeaaGreatDoor
