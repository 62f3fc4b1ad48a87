/- Texts of this claim, laid together: RefUri2, RefPct, RefPct2, PctD, MailP, Number, Host, Host2, Own, RefHost, RefHost2, HostPC, RefSplit, MailW, UrlW, DidW, RefUri3, MailV, MailR. -/
import Derived.Lib.QuietBelow
import Derived.Deep.QuietTactic
import Derived.BigQuiet
import Derived.Lib.FrozenHead
import Derived.Test.YteipdaijbncgeaaGreatDoorQ4
open List renaming toArray → zK4, length_drop → zK5, getElem?_eq_getElem → zK6, length_cons → zK7, length_nil → zK9, getElem?_append_right → zLa, getElem?_eq_some_iff → zLb, take_of_length_le → zLc, length_take → zLd, getD → zLe, head?_drop → zLg, getElem_mem → zLh, length_append → zLi, take_length → zLj, nil_append → zLk, drop_of_length_le → zLl, all_eq_true → zLm
open Option renaming some → zK8
open Nat renaming le_refl → zLf
set_option linter.all false
set_option maxHeartbeats 16000000
set_option maxRecDepth 20000
namespace Go.Proofs.YteipdaijbncgeaaGreatDoor
open Go Vc Go.RowKit Wf
theorem jj (c:UInt8):PC Tryz.V 93 [.int .u8 c.toNat] (.bool (isAlpha c)):=by
 refine aU 3000 Tryz.func93 rfl Tryz.ntmps93 Tryz.results93 Tryz.call93 (by simp) (by simp[flat,flat.ai]) (by simp[flat,flat.ai]) ?_
 simp only[ad,↓Xn,↓Xo,↓Xg,↓Xd,↓Xe,↓Xf,Tryz.VΓ,Tryz.Γs,Xp,Xi,Nat.reduceAdd,Nat.reduceSub,Nat.reduceLT,Nat.reduceLeDiff,reduceIte,reduceCtorEq,Nat.reduceEqDiff,implies_true,forall_const,aa]
 unfold isAlpha
 by_cases h1:65≤c.toNat <;> by_cases h2:c.toNat≤90 <;> by_cases h3:97≤c.toNat <;> by_cases h4:c.toNat≤122 <;> simp[h1,h2,h3,h4] <;> omega
theorem gQ (c:UInt8):PC Tryz.V 94 [.int .u8 c.toNat] (.bool (isDigit c)):=by
 refine aU 3000 Tryz.func94 rfl Tryz.ntmps94 Tryz.results94 Tryz.call94 (by simp) (by simp[flat,flat.ai]) (by simp[flat,flat.ai]) ?_
 simp only[ad,↓Xn,↓Xo,↓Xg,↓Xd,↓Xe,↓Xf,Tryz.VΓ,Tryz.Γs,Xp,Xi,Nat.reduceAdd,Nat.reduceSub,Nat.reduceLT,Nat.reduceLeDiff,reduceIte,reduceCtorEq,Nat.reduceEqDiff,implies_true,forall_const,aa]
 unfold isDigit
 by_cases h1:48≤c.toNat <;> by_cases h2:c.toNat≤57 <;> simp[h1,h2] <;> omega
theorem mN {s:Bytes}{k:Nat}(hk:k<s.length)(hr:k=0∨cE (s.take k)=true)(hc:isAlpha s[k]=true∨(0<k∧eO s[k]=true)):k+1=0∨cE (s.take (k+1))=true:=by
 right
 rcases Nat.eq_zero_or_pos k with h0|h0
 ·subst h0
  rcases hc with hc|⟨hc,-⟩
  ·exact oO hk hc
  ·omega
 ·refine j0 h0 hk (hr.resolve_left (by omega)) ?_
  rcases hc with hc|⟨-,hc⟩
  ·simp[eO,hc]
  ·exact hc
theorem pV {b:Bool}(h:(!b)=true):b=false:=by cases b <;> simp at h ⊢
theorem pW {b:Bool}(h:(!b)=false):b=true:=by cases b <;> simp at h ⊢
theorem j7 (s:Bytes)(hs:s.length≤4294967281):PC Tryz.V 129 [.str s] (.bool (cE s)):=by
 refine aU 3000 Tryz.func129 rfl Tryz.ntmps129 Tryz.results129 Tryz.call129 (by simp) (by simp[flat,flat.ai]) (by simp[flat,flat.ai]) ?_
 simp only[ad,↓Xn,↓Xo,↓Xg,↓Xd,↓Xe,↓Xf,Tryz.VΓ,Tryz.Γs,Xp,Xi,Nat.reduceAdd,Nat.reduceSub,Nat.reduceLT,Nat.reduceLeDiff,reduceIte,reduceCtorEq,Nat.reduceEqDiff,implies_true,forall_const,aa]
 refine aJ (fun σ=>∃ k:Nat,k≤s.length∧(k=0∨cE (s.take k)=true)∧lk 0 σ.t=some (.str s)∧lk 3 σ.t=some (.int .i64 k)) (fun σ=>s.length - iH 3 σ) ⟨0,by omega,.inl rfl,rfl,rfl⟩ ?_
 rintro⟨t,b⟩ ⟨k,hk,hr,h0,h3⟩
 simp only at h0 h3
 rw[ax h3]
 simp only[ad,↓Xn,↓Xo,↓Xg,↓Xd,↓Xe,↓Xf,Tryz.VΓ,Tryz.Γs,Xp,Xi,Nat.reduceAdd,Nat.reduceSub,Nat.reduceLT,Nat.reduceLeDiff,reduceIte,reduceCtorEq,Nat.reduceEqDiff,implies_true,forall_const,aa,h0,h3]
 refine⟨fun h=>⟨by simpa using h,?_⟩,fun h=>?_⟩
 ·have hk':k<s.length:=by simpa using h
  rw[show s.getD k 0=s[k] by simp[zLe,hk']]
  (refine ae (jj s[k]) ?_;simp only[ad,↓Xn,↓Xo,↓Xg,↓Xd,↓Xe,↓Xf,Tryz.VΓ,Tryz.Γs,Xp,Xi,Nat.reduceAdd,Nat.reduceSub,Nat.reduceLT,Nat.reduceLeDiff,reduceIte,reduceCtorEq,Nat.reduceEqDiff,implies_true,forall_const,aa,h0,h3])
  refine⟨fun ca=>⟨fun c0=>?_,fun c0=>?_⟩,fun ca=>⟨by omega,⟨k+1,by omega,mN hk' hr (.inl (pW ca)),by simp⟩,by rw[ax rfl];omega⟩⟩
  ·rw[show s.getD k 0=s[k] by simp[zLe,hk']]
   refine⟨by omega,?_⟩
   (refine ae (gQ s[k]) ?_;simp only[ad,↓Xn,↓Xo,↓Xg,↓Xd,↓Xe,↓Xf,Tryz.VΓ,Tryz.Γs,Xp,Xi,Nat.reduceAdd,Nat.reduceSub,Nat.reduceLT,Nat.reduceLeDiff,reduceIte,reduceCtorEq,Nat.reduceEqDiff,implies_true,forall_const,aa,h0,h3])
   refine⟨fun cd=>⟨by omega,?_⟩,fun cd=>?_⟩
   ·rw[show s.getD k 0=s[k] by simp[zLe,hk']]
    (refine ae (j9 s[k] [43,45,46] (by simp)) ?_;simp only[ad,↓Xn,↓Xo,↓Xg,↓Xd,↓Xe,↓Xf,Tryz.VΓ,Tryz.Γs,Xp,Xi,Nat.reduceAdd,Nat.reduceSub,Nat.reduceLT,Nat.reduceLeDiff,reduceIte,reduceCtorEq,Nat.reduceEqDiff,implies_true,forall_const,aa,h0,h3])
    refine⟨fun ci=>?_,fun ci=>⟨by omega,⟨k+1,by omega,mN hk' hr (.inr ⟨by simp at c0;omega,by unfold eO;rw[pW ci];simp⟩),by simp⟩,by rw[ax rfl];omega⟩⟩
    rw[wD (by simp at c0;omega) hk' (by unfold eO;rw[pV ca,pV cd,pV ci];rfl)]
   ·exact⟨by omega,⟨k+1,by omega,mN hk' hr (.inr ⟨by simp at c0;omega,by unfold eO;rw[pW cd];simp⟩),by simp⟩,by rw[ax rfl];omega⟩
  ·have sC:k=0:=by simp at c0;omega
   subst sC
   rw[ow hk' (by simpa using ca)]
 ·rcases hr with hr|hr
  ·have:s=[]:=List.eq_nil_of_length_eq_zero (by simp at h;omega)
   subst this;rfl
  ·rw[zLc (by simp at h;omega)]at hr
   rw[hr]
   cases s with
   | nil=>simp[cE]at hr
   | cons=>rfl
theorem tO (c:UInt8):PC Tryz.V 124 [.int .u8 c.toNat] (.bool (bm c)) :=
 ⟨Tryz.call124,by simp[flat,flat.ai],by simp[flat,flat.ai],fun w _=>(zW c w).mono fun _ _ ⟨h,k⟩=>⟨h,cO k⟩⟩
theorem cX (c:UInt8):PC Tryz.V 71 [.int .u8 c.toNat] (.bool (eM c)):=by
 refine aU 3000 Tryz.func71 rfl Tryz.ntmps71 Tryz.results71 Tryz.call71 (by simp) (by simp[flat,flat.ai]) (by simp[flat,flat.ai]) ?_
 simp only[ad,↓Xn,↓Xo,↓Xg,↓Xd,↓Xe,↓Xf,Tryz.VΓ,Tryz.Γs,Xp,Xi,Nat.reduceAdd,Nat.reduceSub,Nat.reduceLT,Nat.reduceLeDiff,reduceIte,reduceCtorEq,Nat.reduceEqDiff,implies_true,forall_const,aa]
 (refine ae (jj c) ?_;simp only[ad,↓Xn,↓Xo,↓Xg,↓Xd,↓Xe,↓Xf,Tryz.VΓ,Tryz.Γs,Xp,Xi,Nat.reduceAdd,Nat.reduceSub,Nat.reduceLT,Nat.reduceLeDiff,reduceIte,reduceCtorEq,Nat.reduceEqDiff,implies_true,forall_const,aa])
 refine⟨fun h=>?_,fun h=>?_⟩
 ·(refine ae (gQ c) ?_;simp only[ad,↓Xn,↓Xo,↓Xg,↓Xd,↓Xe,↓Xf,Tryz.VΓ,Tryz.Γs,Xp,Xi,Nat.reduceAdd,Nat.reduceSub,Nat.reduceLT,Nat.reduceLeDiff,reduceIte,reduceCtorEq,Nat.reduceEqDiff,implies_true,forall_const,aa])
  refine⟨fun h2=>?_,fun h2=>?_⟩
  ·(refine ae (j9 c [45,46,95,126] (by simp)) ?_;simp only[ad,↓Xn,↓Xo,↓Xg,↓Xd,↓Xe,↓Xf,Tryz.VΓ,Tryz.Γs,Xp,Xi,Nat.reduceAdd,Nat.reduceSub,Nat.reduceLT,Nat.reduceLeDiff,reduceIte,reduceCtorEq,Nat.reduceEqDiff,implies_true,forall_const,aa])
   unfold eM;rw[h,h2];rfl
  ·unfold eM;rw[h,h2];rfl
 ·unfold eM;rw[h];rfl
theorem tN (c:UInt8)(hc:bm c=true):PC Tryz.V 125 [.int .u8 c.toNat] (.int .u8 (cu c)):=by
 have key:=dj (p:=fun c=>!bm c||(decide ((c.toNat≤57→IntKind.u8.wrap ((c.toNat:Int) - 48)=cu c)∧(57<c.toNat→c.toNat≤70→IntKind.u8.wrap (IntKind.u8.wrap ((c.toNat:Int) - 65)+10)=cu c)∧(70<c.toNat→IntKind.u8.wrap (IntKind.u8.wrap ((c.toNat:Int) - 97)+10)=cu c)))) (by decide +kernel) c
 simp only[hc,Bool.not_true,Bool.false_or,decide_eq_true_eq]at key
 obtain⟨k1,k2,k3⟩:=key
 refine aU 3000 Tryz.func125 rfl Tryz.ntmps125 Tryz.results125 Tryz.call125 (by simp) (by simp[flat,flat.ai]) (by simp[flat,flat.ai]) ?_
 simp only[ad,↓Xn,↓Xo,↓Xg,↓Xd,↓Xe,↓Xf,Tryz.VΓ,Tryz.Γs,Xp,Xi,Nat.reduceAdd,Nat.reduceSub,Nat.reduceLT,Nat.reduceLeDiff,reduceIte,reduceCtorEq,Nat.reduceEqDiff,implies_true,forall_const,aa]
 refine⟨fun h=>?_,fun h=>⟨fun h2=>?_,fun h2=>?_⟩⟩
 ·rw[k1 (by simp at h;omega)]
 ·rw[k2 (by simp at h;omega) (by simp at h2;omega)]
 ·rw[k3 (by simp at h2;omega)]
theorem zl (a b:UInt8)(ha:bm a=true)(hb:bm b=true):IntKind.u8.wrap (IntKind.u8.wrap (16 * (cu a:Int))+cu b)=((unhex a b).toNat:Int):=by
 have h1:=kU ha
 have h2:=kU hb
 have:∀ x,x<16→∀ y,y<16→IntKind.u8.wrap (IntKind.u8.wrap (16 * ((x:Nat):Int))+(y:Nat))=(((x * 16+y).toUInt8).toNat:Int):=by decide +kernel
 exact this _ (by omega) _ (by omega)
theorem rS (s:Bytes)(i:Nat)(hi:i<s.length)(hp:s[i]=37)(hs:s.length≤4294967281):PC Tryz.V 90 [.str s,.int .i64 i] (.eN [.int .u8 (((je s i).getD 0).toNat:Int),.bool (je s i).isSome]):=by
 have hg:((s.getD i 0).toNat:Int)=37:=by rw[show s.getD i 0=37 by rw[← hp];simp[zLe,hi]];rfl
 refine aU 3000 Tryz.func90 rfl Tryz.ntmps90 Tryz.results90 Tryz.call90 (by simp) (by simp[flat,flat.ai]) (by simp[flat,flat.ai]) ?_
 simp (config := { maxSteps := 2000000 }) only[ad,↓Xn,↓Xo,↓Xg,↓Xd,↓Xe,↓Xf,Tryz.VΓ,Tryz.Γs,Xp,Xi,Nat.reduceAdd,Nat.reduceSub,Nat.reduceLT,Nat.reduceLeDiff,reduceIte,reduceCtorEq,Nat.reduceEqDiff,implies_true,forall_const,aa,hg,Int.toNat_natCast,beq_self_eq_true,bne_self_eq_false,Int.reduceBEq,Int.reduceBNe,Int.reduceLT,Int.reduceLE]
 unfold je
 rw[qm]
 refine⟨⟨by omega,by omega⟩,fun hl=>?_,fun hl=>?_⟩
 ·have hl:i+2<s.length:=(by simp at hl;omega)
  rw[if_pos hl]
  refine⟨⟨by omega,by omega⟩,⟨by omega,by omega⟩,⟨by omega,by omega⟩,?_⟩
  ·skip
   (refine ae (tO _) ?_;simp only[ad,↓Xn,↓Xo,↓Xg,↓Xd,↓Xe,↓Xf,Tryz.VΓ,Tryz.Γs,Xp,Xi,Nat.reduceAdd,Nat.reduceSub,Nat.reduceLT,Nat.reduceLeDiff,reduceIte,reduceCtorEq,Nat.reduceEqDiff,implies_true,forall_const,aa])
   refine⟨fun ha=>⟨⟨by omega,by omega⟩,⟨by omega,by omega⟩,?_⟩,fun ha=>?_⟩
   ·have ha:bm (s.getD (i+1) 0)=true:=by simpa using ha
    (refine ae (tO _) ?_;simp only[ad,↓Xn,↓Xo,↓Xg,↓Xd,↓Xe,↓Xf,Tryz.VΓ,Tryz.Γs,Xp,Xi,Nat.reduceAdd,Nat.reduceSub,Nat.reduceLT,Nat.reduceLeDiff,reduceIte,reduceCtorEq,Nat.reduceEqDiff,implies_true,forall_const,aa])
    refine⟨fun hb=>?_,fun hb=>⟨⟨by omega,by omega⟩,⟨by omega,by omega⟩,?_⟩⟩
    ·have hb:bm (s.getD (i+2) 0)=false:=by simpa using hb
     rw[ha,hb];rfl
    ·have hb:bm (s.getD (i+2) 0)=true:=by simpa using hb
     (refine aV (tN _ ha) ?_;simp only[ad,↓Xn,↓Xo,↓Xg,↓Xd,↓Xe,↓Xf,Tryz.VΓ,Tryz.Γs,Xp,Xi,Nat.reduceAdd,Nat.reduceSub,Nat.reduceLT,Nat.reduceLeDiff,reduceIte,reduceCtorEq,Nat.reduceEqDiff,implies_true,forall_const,aa])
     refine⟨⟨by omega,by omega⟩,⟨by omega,by omega⟩,?_⟩
     (refine aV (tN _ hb) ?_;simp only[ad,↓Xn,↓Xo,↓Xg,↓Xd,↓Xe,↓Xf,Tryz.VΓ,Tryz.Γs,Xp,Xi,Nat.reduceAdd,Nat.reduceSub,Nat.reduceLT,Nat.reduceLeDiff,reduceIte,reduceCtorEq,Nat.reduceEqDiff,implies_true,forall_const,aa])
     refine⟨(av (by kernel_rfl)),?_⟩
     rw[zl _ _ ha hb,ha,hb];rfl
   ·have ha:bm (s.getD (i+1) 0)=false:=by simpa using ha
    rw[ha];rfl
 ·have hl:¬ i+2<s.length:=(by simp at hl;omega)
  rw[if_neg hl];rfl
theorem j8 (c:UInt8):PC Tryz.V 91 [.int .u8 c.toNat] (.str (jX c)):=by
 have hc:=c.toNat_lt
 have d1:=sZ (c.toNat / 16) (by omega)
 have d2:=sZ (c.toNat % 16) (by omega)
 have key:=dj (p:=fun c=>decide (qv .quo .u8 (c.toNat:Int) 16=((c.toNat / 16:Nat):Int)∧qv .rem .u8 (c.toNat:Int) 16=((c.toNat % 16:Nat):Int))) (by decide +kernel) c
 obtain⟨s1,s2⟩:=of_decide_eq_true key
 have ec:=xw c
 have e1:([.int .u8 37,.int .u8 ((hU (c.toNat / 16)).toNat:Int),.int .u8 ((hU (c.toNat % 16)).toNat:Int)]:List SV).map vD=jX c:=by rw[← ec,gJ]
 refine aU 3000 Tryz.func91 rfl Tryz.ntmps91 Tryz.results91 Tryz.call91 (by simp) (by simp[flat,flat.ai]) (by simp[flat,flat.ai]) ?_
 simp only[ad,↓Xn,↓Xo,↓Xg,↓Xd,↓Xe,↓Xf,Tryz.VΓ,Tryz.Γs,Xp,Xi,Nat.reduceAdd,Nat.reduceSub,Nat.reduceLT,Nat.reduceLeDiff,reduceIte,reduceCtorEq,Nat.reduceEqDiff,implies_true,forall_const,aa,s1,s2,Int.toNat_natCast,d1,d2]
 have e2:([.int .u8 37,.int .u8 ((hU (c.toNat / 16)).toNat:Int),.int .u8 ((hU (c.toNat % 16)).toNat:Int)]:List SV).all CF=true:=by rw[← ec,gT]
 simp only[List.map_cons,List.map_nil]at e1
 simp only[List.all_cons,List.all_nil,Bool.and_true]at e2
 exact⟨by decide,⟨by omega,by omega⟩,by decide,⟨by omega,by omega⟩,by omega,e2,(av (by kernel_rfl)),by rw[e1]⟩
def RnI (also s:Bytes)(σ:St):Prop:=∃ (i:Nat) (x:SV) (d:Bytes),lk 0 σ.t=some (.str s)∧lk 1 σ.t=some (.str also)∧lk 6 σ.t=some x∧lk 7 σ.t=some (.int .i64 i)∧i≤s.length∧d.length≤3 * i∧Sl 5 1 0 x σ.b (d.map cU) d.length∧comb d (bz also (az (s.drop i)))=bz also (az s)
theorem rO {also s:Bytes}{t:List (Nat × SV)}{b:List ay}{i i':Nat}{x:SV}{d:Bytes}(h0:lk 0 t=some (.str s))(h1:lk 1 t=some (.str also))(h6:lk 6 t=some x)(h7:lk 7 t=some (.int .i64 i'))(h:i'≤s.length∧d.length≤3 * i')(ht:Sl 5 1 0 x b (d.map cU) d.length)
 (hn:comb d (bz also (az (s.drop i')))=bz also (az s)) (aA:i<i'):RnI also s ⟨t,b⟩∧NoM s ⟨t,b⟩<s.length - i :=
 ⟨⟨i',x,d,h0,h1,h6,h7,h.1,h.2,ht,hn⟩,by rw[yY h7];omega⟩
theorem gP (s also:Bytes)(ha:also.length≤1000):PC Tryz.V 69 [.str s,.str also] (.eN [.str (aY also s).1,.int .i64 (aY also s).2]):=by
 refine aU 3000 Tryz.func69 rfl Tryz.ntmps69 Tryz.results69 Tryz.call69 (by simp) (by simp[flat,flat.ai]) (by simp[flat,flat.ai]) ?_
 simp only[ad,↓Xn,↓Xo,↓Xg,↓Xd,↓Xe,↓Xf,Tryz.VΓ,Tryz.Γs,Xp,Xi,Nat.reduceAdd,Nat.reduceSub,Nat.reduceLT,Nat.reduceLeDiff,reduceIte,reduceCtorEq,Nat.reduceEqDiff,implies_true,forall_const,aa]
 unfold aY
 refine⟨fun hl=>?_,fun hl=>?_⟩
 ·have hl:16384<s.length:=(by simp at hl;omega)
  rw[if_pos hl]
 have hl:s.length≤16384:=(by simp at hl;omega)
 rw[if_neg (by omega)]
 refine aJ (RnI also s) (NoM s) ⟨0,.aD,[],rfl,rfl,rfl,rfl,by omega,by simp,.inl ⟨rfl,rfl,rfl⟩,qx _ (wR also _)⟩ ?_
 rintro⟨t,b⟩ ⟨i,x,d,h0,h1,h6,h7,hi,hd,ht,hn⟩
 simp only at h0 h1 h6 h7 ht
 rw[yY h7]
 by_cases aA:i<s.length
 ·have hu:=lx aA
  have hg:s.getD i 0=s[i]:=by simp[zLe,aA]
  simp only[ad,↓Xn,↓Xo,↓Xg,↓Xd,↓Xe,↓Xf,Tryz.VΓ,Tryz.Γs,Xp,Xi,Nat.reduceAdd,Nat.reduceSub,Nat.reduceLT,Nat.reduceLeDiff,reduceIte,reduceCtorEq,Nat.reduceEqDiff,implies_true,forall_const,aa,h0,h1,h6,h7]
  refine⟨fun _=>⟨⟨by omega,by omega⟩,fun hc=>⟨⟨by omega,by omega⟩,?_⟩,fun hc=>?_⟩,fun h=>absurd h (by simp;omega)⟩
  ·have hc:¬ s[i]=37:=by
    intro e
    rw[hg,e]at hc
    simp at hc
   rw[if_neg hc]at hu
   rw[hu,bz]at hn
   rw[hg]
   have sU:c9 also s[i]=true→comb (d++[s[i]]) (bz also (az (s.drop (i+1))))=bz also (az s):=fun hk=>by
    rw[← hn,if_pos hk,gy]
   (refine ae (cX s[i]) ?_;simp only[ad,↓Xn,↓Xo,↓Xg,↓Xd,↓Xe,↓Xf,Tryz.VΓ,Tryz.Γs,Xp,Xi,Nat.reduceAdd,Nat.reduceSub,Nat.reduceLT,Nat.reduceLeDiff,reduceIte,reduceCtorEq,Nat.reduceEqDiff,implies_true,forall_const,aa,h0,h1,h6,h7,hg])
   refine⟨fun hq=>⟨⟨by omega,by omega⟩,?_⟩,fun hq=>⟨⟨by omega,by omega⟩,?_⟩⟩
   ·have hq:=pV hq
    (refine ae (j9 s[i] also (by omega)) ?_;simp only[ad,↓Xn,↓Xo,↓Xg,↓Xd,↓Xe,↓Xf,Tryz.VΓ,Tryz.Γs,Xp,Xi,Nat.reduceAdd,Nat.reduceSub,Nat.reduceLT,Nat.reduceLeDiff,reduceIte,reduceCtorEq,Nat.reduceEqDiff,implies_true,forall_const,aa,h0,h1,h6,h7,hg])
    refine⟨fun qi=>?_,fun qi=>⟨⟨by omega,by omega⟩,?_⟩⟩
    ·have qi:=pV qi
     have hk:¬ c9 also s[i]=true:=by unfold c9;rw[hq,qi];simp
     rw[if_neg hk]at hn
     have kD:bz also (az s)=([],1):=by rw[← hn];rfl
     rw[kD]
    ·have qi:=pW qi
     have hk:c9 also s[i]=true:=by unfold c9;rw[qi];simp
     (rcases ht with⟨rfl,fL,xi⟩|⟨j,rfl,lr,hj⟩
      ·obtain rfl:d=[]:=by simpa using fL
       simp only[ad,↓Xn,↓Xo,↓Xg,↓Xd,↓Xe,↓Xf,Tryz.VΓ,Tryz.Γs,Xp,Xi,Nat.reduceAdd,Nat.reduceSub,Nat.reduceLT,Nat.reduceLeDiff,reduceIte,reduceCtorEq,Nat.reduceEqDiff,implies_true,forall_const,aa,h0,h1,h6,h7,hg,aX]
       refine⟨by omega,⟨by unfold maxLen;omega,by omega⟩,⟨by omega,by omega⟩,rO (i':=i+1) (x:=.o (b++[ay.own [cU (s[i])] 5 1 1 true]).length 1) (d:=[]++[s[i]]) h0 h1 rfl (by simp only[lk,reduceIte,zK8.injEq,SV.int.injEq,true_and];omega) ⟨by omega,by simp;omega⟩ (.inr ⟨_,rfl,by omega,aX _ _⟩) (sU hk) (by omega)⟩
      ·have mA:j<b.length:=(zLb.1 hj).1
       have ho:∀ X,(b++[X])[j]? = some (.own (d.map cU) 5 1 d.length true):=fun X=>af hj [X]
       simp only[ad,↓Xn,↓Xo,↓Xg,↓Xd,↓Xe,↓Xf,Tryz.VΓ,Tryz.Γs,Xp,Xi,Nat.reduceAdd,Nat.reduceSub,Nat.reduceLT,Nat.reduceLeDiff,reduceIte,reduceCtorEq,Nat.reduceEqDiff,implies_true,forall_const,aa,h0,h1,h6,h7,hg,aX,ho]
       refine⟨by omega,⟨by unfold maxLen;omega,by omega⟩,⟨by omega,by omega⟩,rO (i':=i+1) (x:=.o (b++[ay.own [cU (s[i])] 5 1 1 true]).length (d.length+1)) (d:=d++[s[i]]) h0 h1 rfl (by simp only[lk,reduceIte,zK8.injEq,SV.int.injEq,true_and];omega) ⟨by omega,by simp;omega⟩ (.inr ⟨(b++[ay.own [cU (s[i])] 5 1 1 true]).length,by simp,by omega,by rw[zLa (by simp)];simp[cU]⟩) (sU hk) (by omega)⟩)
   ·have hq:=pW hq
    have hk:c9 also s[i]=true:=by unfold c9;rw[hq];simp
    (rcases ht with⟨rfl,fL,xi⟩|⟨j,rfl,lr,hj⟩
     ·obtain rfl:d=[]:=by simpa using fL
      simp only[ad,↓Xn,↓Xo,↓Xg,↓Xd,↓Xe,↓Xf,Tryz.VΓ,Tryz.Γs,Xp,Xi,Nat.reduceAdd,Nat.reduceSub,Nat.reduceLT,Nat.reduceLeDiff,reduceIte,reduceCtorEq,Nat.reduceEqDiff,implies_true,forall_const,aa,h0,h1,h6,h7,hg,aX]
      refine⟨by omega,⟨by unfold maxLen;omega,by omega⟩,⟨by omega,by omega⟩,rO (i':=i+1) (x:=.o (b++[ay.own [cU (s[i])] 5 1 1 true]).length 1) (d:=[]++[s[i]]) h0 h1 rfl (by simp only[lk,reduceIte,zK8.injEq,SV.int.injEq,true_and];omega) ⟨by omega,by simp;omega⟩ (.inr ⟨_,rfl,by omega,aX _ _⟩) (sU hk) (by omega)⟩
     ·have mA:j<b.length:=(zLb.1 hj).1
      have ho:∀ X,(b++[X])[j]? = some (.own (d.map cU) 5 1 d.length true):=fun X=>af hj [X]
      simp only[ad,↓Xn,↓Xo,↓Xg,↓Xd,↓Xe,↓Xf,Tryz.VΓ,Tryz.Γs,Xp,Xi,Nat.reduceAdd,Nat.reduceSub,Nat.reduceLT,Nat.reduceLeDiff,reduceIte,reduceCtorEq,Nat.reduceEqDiff,implies_true,forall_const,aa,h0,h1,h6,h7,hg,aX,ho]
      refine⟨by omega,⟨by unfold maxLen;omega,by omega⟩,⟨by omega,by omega⟩,rO (i':=i+1) (x:=.o (b++[ay.own [cU (s[i])] 5 1 1 true]).length (d.length+1)) (d:=d++[s[i]]) h0 h1 rfl (by simp only[lk,reduceIte,zK8.injEq,SV.int.injEq,true_and];omega) ⟨by omega,by simp;omega⟩ (.inr ⟨(b++[ay.own [cU (s[i])] 5 1 1 true]).length,by simp,by omega,by rw[zLa (by simp)];simp[cU]⟩) (sU hk) (by omega)⟩)
  ·have hc:s[i]=37:=by
    have:s.getD i 0=37:=by
     rw[← UInt8.toNat_inj]
     have e37:(37:UInt8).toNat=37:=rfl
     have h2:=bne_eq_false_iff_eq.1 hc
     omega
    rw[← hg];exact this
   rw[if_pos hc]at hu
   have pe:=rS s i aA hc (by omega)
   cases he:je s i with
   | none =>
     rw[he]at pe hu
     simp only at hu
     rw[hu]at hn
     have kD:bz also (az s)=([],2):=by rw[← hn];rfl
     rw[kD]
     (refine ae pe ?_;simp only[ad,↓Xn,↓Xo,↓Xg,↓Xd,↓Xe,↓Xf,Tryz.VΓ,Tryz.Γs,Xp,Xi,Nat.reduceAdd,Nat.reduceSub,Nat.reduceLT,Nat.reduceLeDiff,reduceIte,reduceCtorEq,Nat.reduceEqDiff,implies_true,forall_const,aa,h0,h1,h6,h7,Option.isSome_none])
   | some v =>
     rw[he]at pe hu
     have hx:=he
     unfold je at hx
     obtain⟨⟨a,bb,r⟩,hp,hv⟩:=Option.map_eq_some_iff.1 hx
     simp only at hv
     rw[hp]at hu
     simp only at hu
     have hi3:i+3≤s.length:=by
      obtain⟨h1,-,-⟩:=cN hp
      have:=congrArg List.length h1
      simp at this
      omega
     have sU:comb (d++kM v) (bz also (az (s.drop (i+2+1))))=bz also (az s):=by
      rw[← hn,hu,bz,gy,hv]
     simp only[Option.getD_some,Option.isSome_some]at pe
     (refine ae pe ?_;simp only[ad,↓Xn,↓Xo,↓Xg,↓Xd,↓Xe,↓Xf,Tryz.VΓ,Tryz.Γs,Xp,Xi,Nat.reduceAdd,Nat.reduceSub,Nat.reduceLT,Nat.reduceLeDiff,reduceIte,reduceCtorEq,Nat.reduceEqDiff,implies_true,forall_const,aa,h0,h1,h6,h7])
     (refine ae (cX v) ?_;simp only[ad,↓Xn,↓Xo,↓Xg,↓Xd,↓Xe,↓Xf,Tryz.VΓ,Tryz.Γs,Xp,Xi,Nat.reduceAdd,Nat.reduceSub,Nat.reduceLT,Nat.reduceLeDiff,reduceIte,reduceCtorEq,Nat.reduceEqDiff,implies_true,forall_const,aa,h0,h1,h6,h7])
     refine⟨fun hq=>?_,fun hq=>?_⟩
     ·have Fl:comb (d++[v]) (bz also (az (s.drop (i+2+1))))=bz also (az s):=by
       rw[← sU];unfold kM;rw[if_pos hq]
      (rcases ht with⟨rfl,fL,xi⟩|⟨j,rfl,lr,hj⟩
       ·obtain rfl:d=[]:=by simpa using fL
        simp only[ad,↓Xn,↓Xo,↓Xg,↓Xd,↓Xe,↓Xf,Tryz.VΓ,Tryz.Γs,Xp,Xi,Nat.reduceAdd,Nat.reduceSub,Nat.reduceLT,Nat.reduceLeDiff,reduceIte,reduceCtorEq,Nat.reduceEqDiff,implies_true,forall_const,aa,h0,h1,h6,h7,hg,aX]
        refine⟨by omega,⟨by unfold maxLen;omega,by omega⟩,⟨by omega,by omega⟩,⟨by omega,by omega⟩,rO (i':=i+2+1) (x:=.o (b++[ay.own [cU (v)] 5 1 1 true]).length 1) (d:=[]++[v]) h0 h1 rfl (by simp only[lk,reduceIte,zK8.injEq,SV.int.injEq,true_and];omega) ⟨by omega,by simp;omega⟩ (.inr ⟨_,rfl,by omega,aX _ _⟩) (Fl) (by omega)⟩
       ·have mA:j<b.length:=(zLb.1 hj).1
        have ho:∀ X,(b++[X])[j]? = some (.own (d.map cU) 5 1 d.length true):=fun X=>af hj [X]
        simp only[ad,↓Xn,↓Xo,↓Xg,↓Xd,↓Xe,↓Xf,Tryz.VΓ,Tryz.Γs,Xp,Xi,Nat.reduceAdd,Nat.reduceSub,Nat.reduceLT,Nat.reduceLeDiff,reduceIte,reduceCtorEq,Nat.reduceEqDiff,implies_true,forall_const,aa,h0,h1,h6,h7,hg,aX,ho]
        refine⟨by omega,⟨by unfold maxLen;omega,by omega⟩,⟨by omega,by omega⟩,⟨by omega,by omega⟩,rO (i':=i+2+1) (x:=.o (b++[ay.own [cU (v)] 5 1 1 true]).length (d.length+1)) (d:=d++[v]) h0 h1 rfl (by simp only[lk,reduceIte,zK8.injEq,SV.int.injEq,true_and];omega) ⟨by omega,by simp;omega⟩ (.inr ⟨(b++[ay.own [cU (v)] 5 1 1 true]).length,by simp,by omega,by rw[zLa (by simp)];simp[cU]⟩) (Fl) (by omega)⟩)
     ·have Fl:comb (d++jX v) (bz also (az (s.drop (i+2+1))))=bz also (az s):=by
       rw[← sU];unfold kM;rw[if_neg (by simp[hq])]
      (refine ae (j8 v) ?_;simp only[ad,↓Xn,↓Xo,↓Xg,↓Xd,↓Xe,↓Xf,Tryz.VΓ,Tryz.Γs,Xp,Xi,Nat.reduceAdd,Nat.reduceSub,Nat.reduceLT,Nat.reduceLeDiff,reduceIte,reduceCtorEq,Nat.reduceEqDiff,implies_true,forall_const,aa,h0,h1,h6,h7])
      rcases ht with⟨rfl,fL,xi⟩|⟨j,rfl,lr,hj⟩
      ·obtain rfl:d=[]:=by simpa using fL
       simp only[ad,↓Xn,↓Xo,↓Xg,↓Xd,↓Xe,↓Xf,Tryz.VΓ,Tryz.Γs,Xp,Xi,Nat.reduceAdd,Nat.reduceSub,Nat.reduceLT,Nat.reduceLeDiff,reduceIte,reduceCtorEq,Nat.reduceEqDiff,implies_true,forall_const,aa,h0,h1,h6,h7]
       exact⟨⟨tX _,by simp[jX];unfold maxLen;omega,by simp[jX]⟩,⟨by omega,by omega⟩,⟨by omega,by omega⟩,rO (i':=i+2+1) (d:=[]++jX v) h0 h1 rfl (by simp only[lk,reduceIte,zK8.injEq,SV.int.injEq,true_and];omega) ⟨by omega,by simp[jX];omega⟩ (.inr ⟨b.length,rfl,by omega,aX _ _⟩) Fl (by omega)⟩
      ·simp only[ad,↓Xn,↓Xo,↓Xg,↓Xd,↓Xe,↓Xf,Tryz.VΓ,Tryz.Γs,Xp,Xi,Nat.reduceAdd,Nat.reduceSub,Nat.reduceLT,Nat.reduceLeDiff,reduceIte,reduceCtorEq,Nat.reduceEqDiff,implies_true,forall_const,aa,h0,h1,h6,h7,hj]
       exact⟨⟨tX _,by simp[jX];unfold maxLen;omega,by simp[jX];omega⟩,⟨by omega,by omega⟩,⟨by omega,by omega⟩,rO (i':=i+2+1) (d:=d++jX v) h0 h1 rfl (by simp only[lk,reduceIte,zK8.injEq,SV.int.injEq,true_and];omega) ⟨by omega,by simp[jX];omega⟩ (.inr ⟨b.length,by simp,by omega,by rw[zLa (by simp)];simp⟩) Fl (by omega)⟩
 ·have jq:i=s.length:=by omega
  subst jq
  rw[List.drop_length,dJ]at hn
  have kD:bz also (az s)=(d,0):=by rw[← hn];simp[bz,comb]
  rw[kD]
  rcases ht with⟨rfl,fL,xi⟩|⟨j,rfl,lr,hj⟩
  ·obtain rfl:d=[]:=by simpa using fL
   simp only[ad,↓Xn,↓Xo,↓Xg,↓Xd,↓Xe,↓Xf,Tryz.VΓ,Tryz.Γs,Xp,Xi,Nat.reduceAdd,Nat.reduceSub,Nat.reduceLT,Nat.reduceLeDiff,reduceIte,reduceCtorEq,Nat.reduceEqDiff,implies_true,forall_const,aa,h0,h1,h6,h7]
   exact fun h=>absurd h (by simp)
  ·simp only[ad,↓Xn,↓Xo,↓Xg,↓Xd,↓Xe,↓Xf,Tryz.VΓ,Tryz.Γs,Xp,Xi,Nat.reduceAdd,Nat.reduceSub,Nat.reduceLT,Nat.reduceLeDiff,reduceIte,reduceCtorEq,Nat.reduceEqDiff,implies_true,forall_const,aa,h0,h1,h6,h7,hj]
   refine⟨fun h=>absurd h (by simp),fun _=>⟨gT d,?_⟩⟩
   rw[gJ]
def dG:List PU→Bytes × Int
 | []=>([],0)
 | .bad::_=>([],2)
 | .lit c::r=>comb [c] (dG r)
 | .hex a b::r=>comb [unhex a b] (dG r)
theorem nK:∀ l:List PU,dG l=if PU.bad∈l then([],2) else(l.map PU.val,0)
 | []=>rfl
 | .bad::r=>by simp[dG]
 | .lit c::r=>by
   rw[dG,nK r]
   by_cases h:PU.bad∈r
   ·simp[h,comb]
   ·simp[h,comb,PU.val]
 | .hex a b::r=>by
   rw[dG,nK r]
   by_cases h:PU.bad∈r
   ·simp[h,comb]
   ·simp[h,comb,PU.val]
theorem xy (l:List PU):(dG l).2≠0→(dG l).1=[]:=by
 rw[nK]
 split
 ·intro _;rfl
 ·intro h;exact absurd rfl h
def DcI (s:Bytes)(σ:St):Prop:=∃ (i:Nat) (x:SV) (d:Bytes),lk 0 σ.t=some (.str s)∧lk 4 σ.t=some x∧lk 5 σ.t=some (.int .i64 i)∧i≤s.length∧d.length≤i∧Sl 5 1 0 x σ.b (d.map cU) d.length∧comb d (dG (az (s.drop i)))=dG (az s)
def DcM (s:Bytes)(σ:St):Nat:=match lk 5 σ.t with
 | some (.int _ k)=>s.length - k.toNat
 | _=>0
theorem Dp {s:Bytes}{σ:St}{k:Nat}(h:lk 5 σ.t=some (.int .i64 k)):DcM s σ=s.length - k:=by simp[DcM,h]
theorem sj {s:Bytes}{t:List (Nat × SV)}{b:List ay}{i i':Nat}{x:SV}{d:Bytes}(h0:lk 0 t=some (.str s))(h4:lk 4 t=some x)(h5:lk 5 t=some (.int .i64 i'))(h:i'≤s.length∧d.length≤i')(ht:Sl 5 1 0 x b (d.map cU) d.length)
 (hn:comb d (dG (az (s.drop i')))=dG (az s)) (aA:i<i'):DcI s ⟨t,b⟩∧DcM s ⟨t,b⟩<s.length - i :=
 ⟨⟨i',x,d,h0,h4,h5,h.1,h.2,ht,hn⟩,by rw[Dp h5];omega⟩
theorem na (s:Bytes):PC Tryz.V 145 [.str s] (.eN [.str (aj s).1,.int .i64 (aj s).2]):=by
 have hpd:aj s=if 16384<s.length then([],5) else dG (az s):=by unfold aj;rw[nK]
 rw[hpd]
 refine aU 3000 Tryz.func145 rfl Tryz.ntmps145 Tryz.results145 Tryz.call145 (by simp) (by simp[flat,flat.ai]) (by simp[flat,flat.ai]) ?_
 simp only[ad,↓Xn,↓Xo,↓Xg,↓Xd,↓Xe,↓Xf,Tryz.VΓ,Tryz.Γs,Xp,Xi,Nat.reduceAdd,Nat.reduceSub,Nat.reduceLT,Nat.reduceLeDiff,reduceIte,reduceCtorEq,Nat.reduceEqDiff,implies_true,forall_const,aa]
 refine⟨fun hl=>?_,fun hl=>?_⟩
 ·have hl:16384<s.length:=(by simp at hl;omega)
  rw[if_pos hl]
 have hl:s.length≤16384:=(by simp at hl;omega)
 rw[if_neg (by omega)]
 refine aJ (DcI s) (DcM s) ⟨0,.aD,[],rfl,rfl,rfl,by omega,by simp,.inl ⟨rfl,rfl,rfl⟩,qx _ (xy _)⟩ ?_
 rintro⟨t,b⟩ ⟨i,x,d,h0,h4,h5,hi,hd,ht,hn⟩
 simp only at h0 h4 h5 ht
 rw[Dp h5]
 by_cases aA:i<s.length
 ·have hu:=lx aA
  have hg:s.getD i 0=s[i]:=by simp[zLe,aA]
  simp only[ad,↓Xn,↓Xo,↓Xg,↓Xd,↓Xe,↓Xf,Tryz.VΓ,Tryz.Γs,Xp,Xi,Nat.reduceAdd,Nat.reduceSub,Nat.reduceLT,Nat.reduceLeDiff,reduceIte,reduceCtorEq,Nat.reduceEqDiff,implies_true,forall_const,aa,h0,h4,h5]
  refine⟨fun _=>⟨⟨by omega,by omega⟩,fun hc=>?_,fun hc=>?_⟩,fun h=>absurd h (by simp;omega)⟩
  ·have hc:s[i]=37:=by
    rw[cA (n:=37) aA 37 rfl]at hc
    simpa using hc
   rw[if_pos hc]at hu
   have pe:=wP s i aA (by omega)
   cases he:je s i with
   | none =>
     rw[he]at pe hu
     simp only at hu
     rw[hu]at hn
     have kD:dG (az s)=([],2):=by rw[← hn];rfl
     rw[kD]
     (refine ae pe ?_;simp only[ad,↓Xn,↓Xo,↓Xg,↓Xd,↓Xe,↓Xf,Tryz.VΓ,Tryz.Γs,Xp,Xi,Nat.reduceAdd,Nat.reduceSub,Nat.reduceLT,Nat.reduceLeDiff,reduceIte,reduceCtorEq,Nat.reduceEqDiff,implies_true,forall_const,aa,h0,h4,h5,Option.isSome_none])
   | some v =>
     rw[he]at pe hu
     have hx:=he
     unfold je at hx
     obtain⟨⟨a,bb,r⟩,hp,hv⟩:=Option.map_eq_some_iff.1 hx
     simp only at hv
     rw[hp]at hu
     simp only at hu
     have hi3:i+3≤s.length:=by
      obtain⟨h1,-,-⟩:=cN hp
      have:=congrArg List.length h1
      simp at this
      omega
     have sU:comb (d++[v]) (dG (az (s.drop (i+2+1))))=dG (az s):=by
      rw[← hn,hu,dG,gy,hv]
     simp only[Option.getD_some,Option.isSome_some]at pe
     (refine ae pe ?_;simp only[ad,↓Xn,↓Xo,↓Xg,↓Xd,↓Xe,↓Xf,Tryz.VΓ,Tryz.Γs,Xp,Xi,Nat.reduceAdd,Nat.reduceSub,Nat.reduceLT,Nat.reduceLeDiff,reduceIte,reduceCtorEq,Nat.reduceEqDiff,implies_true,forall_const,aa,h0,h4,h5])
     (rcases ht with⟨rfl,fL,xi⟩|⟨j,rfl,lr,hj⟩
      ·obtain rfl:d=[]:=by simpa using fL
       simp only[ad,↓Xn,↓Xo,↓Xg,↓Xd,↓Xe,↓Xf,Tryz.VΓ,Tryz.Γs,Xp,Xi,Nat.reduceAdd,Nat.reduceSub,Nat.reduceLT,Nat.reduceLeDiff,reduceIte,reduceCtorEq,Nat.reduceEqDiff,implies_true,forall_const,aa,h0,h4,h5,hg,aX]
       refine⟨⟨by omega,by omega⟩,by omega,⟨by unfold maxLen;omega,by omega⟩,⟨by omega,by omega⟩,sj (i':=i+2+1) (x:=.o (b++[ay.own [cU (v)] 5 1 1 true]).length 1) (d:=[]++[v]) h0 rfl (by simp only[lk,reduceIte,zK8.injEq,SV.int.injEq,true_and];omega) ⟨by omega,by simp only[zLk,zK7,zK9];omega⟩ (.inr ⟨_,rfl,by omega,aX _ _⟩) (sU) (by omega)⟩
      ·have mA:j<b.length:=(zLb.1 hj).1
       have ho:∀ X,(b++[X])[j]? = some (.own (d.map cU) 5 1 d.length true):=fun X=>af hj [X]
       simp only[ad,↓Xn,↓Xo,↓Xg,↓Xd,↓Xe,↓Xf,Tryz.VΓ,Tryz.Γs,Xp,Xi,Nat.reduceAdd,Nat.reduceSub,Nat.reduceLT,Nat.reduceLeDiff,reduceIte,reduceCtorEq,Nat.reduceEqDiff,implies_true,forall_const,aa,h0,h4,h5,hg,aX,ho]
       refine⟨⟨by omega,by omega⟩,by omega,⟨by unfold maxLen;omega,by omega⟩,⟨by omega,by omega⟩,sj (i':=i+2+1) (x:=.o (b++[ay.own [cU (v)] 5 1 1 true]).length (d.length+1)) (d:=d++[v]) h0 rfl (by simp only[lk,reduceIte,zK8.injEq,SV.int.injEq,true_and];omega) ⟨by omega,by simp;omega⟩ (.inr ⟨(b++[ay.own [cU (v)] 5 1 1 true]).length,by simp,by omega,by rw[zLa (by simp)];simp[cU]⟩) (sU) (by omega)⟩)
  ·have hc:¬ s[i]=37:=by
    rw[cA (n:=37) aA 37 rfl]at hc
    simpa using hc
   rw[if_neg hc]at hu
   rw[hu,dG,gy]at hn
   rw[hg]
   (rcases ht with⟨rfl,fL,xi⟩|⟨j,rfl,lr,hj⟩
    ·obtain rfl:d=[]:=by simpa using fL
     simp only[ad,↓Xn,↓Xo,↓Xg,↓Xd,↓Xe,↓Xf,Tryz.VΓ,Tryz.Γs,Xp,Xi,Nat.reduceAdd,Nat.reduceSub,Nat.reduceLT,Nat.reduceLeDiff,reduceIte,reduceCtorEq,Nat.reduceEqDiff,implies_true,forall_const,aa,h0,h4,h5,hg,aX]
     refine⟨ by omega,⟨by unfold maxLen;omega,by omega⟩,⟨by omega,by omega⟩,sj (i':=i+1) (x:=.o (b++[ay.own [cU (s[i])] 5 1 1 true]).length 1) (d:=[]++[s[i]]) h0 rfl (by simp only[lk,reduceIte,zK8.injEq,SV.int.injEq,true_and];omega) ⟨by omega,by simp only[zLk,zK7,zK9];omega⟩ (.inr ⟨_,rfl,by omega,aX _ _⟩) (hn) (by omega)⟩
    ·have mA:j<b.length:=(zLb.1 hj).1
     have ho:∀ X,(b++[X])[j]? = some (.own (d.map cU) 5 1 d.length true):=fun X=>af hj [X]
     simp only[ad,↓Xn,↓Xo,↓Xg,↓Xd,↓Xe,↓Xf,Tryz.VΓ,Tryz.Γs,Xp,Xi,Nat.reduceAdd,Nat.reduceSub,Nat.reduceLT,Nat.reduceLeDiff,reduceIte,reduceCtorEq,Nat.reduceEqDiff,implies_true,forall_const,aa,h0,h4,h5,hg,aX,ho]
     refine⟨ by omega,⟨by unfold maxLen;omega,by omega⟩,⟨by omega,by omega⟩,sj (i':=i+1) (x:=.o (b++[ay.own [cU (s[i])] 5 1 1 true]).length (d.length+1)) (d:=d++[s[i]]) h0 rfl (by simp only[lk,reduceIte,zK8.injEq,SV.int.injEq,true_and];omega) ⟨by omega,by simp;omega⟩ (.inr ⟨(b++[ay.own [cU (s[i])] 5 1 1 true]).length,by simp,by omega,by rw[zLa (by simp)];simp[cU]⟩) (hn) (by omega)⟩)
 ·have jq:i=s.length:=by omega
  subst jq
  rw[List.drop_length,dJ]at hn
  have kD:dG (az s)=(d,0):=by rw[← hn];simp[dG,comb]
  rw[kD]
  rcases ht with⟨rfl,fL,xi⟩|⟨j,rfl,lr,hj⟩
  ·obtain rfl:d=[]:=by simpa using fL
   simp only[ad,↓Xn,↓Xo,↓Xg,↓Xd,↓Xe,↓Xf,Tryz.VΓ,Tryz.Γs,Xp,Xi,Nat.reduceAdd,Nat.reduceSub,Nat.reduceLT,Nat.reduceLeDiff,reduceIte,reduceCtorEq,Nat.reduceEqDiff,implies_true,forall_const,aa,h0,h4,h5]
   exact fun h=>absurd h (by simp)
  ·simp only[ad,↓Xn,↓Xo,↓Xg,↓Xd,↓Xe,↓Xf,Tryz.VΓ,Tryz.Γs,Xp,Xi,Nat.reduceAdd,Nat.reduceSub,Nat.reduceLT,Nat.reduceLeDiff,reduceIte,reduceCtorEq,Nat.reduceEqDiff,implies_true,forall_const,aa,h0,h4,h5,hj]
   refine⟨fun h=>absurd h (by simp),fun _=>⟨gT d,?_⟩⟩
   rw[gJ]
theorem eY (s:Bytes):PC Tryz.V 72 [.str s] (.eN [.str (aj s).1,.int .i64 (aj s).2]):=by
 have hpd:aj s=if 16384<s.length then([],5) else dG (az s):=by unfold aj;rw[nK]
 rw[hpd]
 refine aU 3000 Tryz.func72 rfl Tryz.ntmps72 Tryz.results72 Tryz.call72 (by simp) (by simp[flat,flat.ai]) (by simp[flat,flat.ai]) ?_
 simp only[ad,↓Xn,↓Xo,↓Xg,↓Xd,↓Xe,↓Xf,Tryz.VΓ,Tryz.Γs,Xp,Xi,Nat.reduceAdd,Nat.reduceSub,Nat.reduceLT,Nat.reduceLeDiff,reduceIte,reduceCtorEq,Nat.reduceEqDiff,implies_true,forall_const,aa]
 refine⟨fun hl=>?_,fun hl=>?_⟩
 ·have hl:16384<s.length:=(by simp at hl;omega)
  rw[if_pos hl]
 have hl:s.length≤16384:=(by simp at hl;omega)
 rw[if_neg (by omega)]
 refine aJ (DcI s) (DcM s) ⟨0,.aD,[],rfl,rfl,rfl,by omega,by simp,.inl ⟨rfl,rfl,rfl⟩,qx _ (xy _)⟩ ?_
 rintro⟨t,b⟩ ⟨i,x,d,h0,h4,h5,hi,hd,ht,hn⟩
 simp only at h0 h4 h5 ht
 rw[Dp h5]
 by_cases aA:i<s.length
 ·have hu:=lx aA
  have hg:s.getD i 0=s[i]:=by simp[zLe,aA]
  simp only[ad,↓Xn,↓Xo,↓Xg,↓Xd,↓Xe,↓Xf,Tryz.VΓ,Tryz.Γs,Xp,Xi,Nat.reduceAdd,Nat.reduceSub,Nat.reduceLT,Nat.reduceLeDiff,reduceIte,reduceCtorEq,Nat.reduceEqDiff,implies_true,forall_const,aa,h0,h4,h5]
  refine⟨fun _=>⟨⟨by omega,by omega⟩,fun hc=>?_,fun hc=>?_⟩,fun h=>absurd h (by simp;omega)⟩
  ·have hc:s[i]=37:=by
    rw[cA (n:=37) aA 37 rfl]at hc
    simpa using hc
   rw[if_pos hc]at hu
   have pe:=rS s i aA hc (by omega)
   cases he:je s i with
   | none =>
     rw[he]at pe hu
     simp only at hu
     rw[hu]at hn
     have kD:dG (az s)=([],2):=by rw[← hn];rfl
     rw[kD]
     (refine ae pe ?_;simp only[ad,↓Xn,↓Xo,↓Xg,↓Xd,↓Xe,↓Xf,Tryz.VΓ,Tryz.Γs,Xp,Xi,Nat.reduceAdd,Nat.reduceSub,Nat.reduceLT,Nat.reduceLeDiff,reduceIte,reduceCtorEq,Nat.reduceEqDiff,implies_true,forall_const,aa,h0,h4,h5,Option.isSome_none])
   | some v =>
     rw[he]at pe hu
     have hx:=he
     unfold je at hx
     obtain⟨⟨a,bb,r⟩,hp,hv⟩:=Option.map_eq_some_iff.1 hx
     simp only at hv
     rw[hp]at hu
     simp only at hu
     have hi3:i+3≤s.length:=by
      obtain⟨h1,-,-⟩:=cN hp
      have:=congrArg List.length h1
      simp at this
      omega
     have sU:comb (d++[v]) (dG (az (s.drop (i+2+1))))=dG (az s):=by
      rw[← hn,hu,dG,gy,hv]
     simp only[Option.getD_some,Option.isSome_some]at pe
     (refine ae pe ?_;simp only[ad,↓Xn,↓Xo,↓Xg,↓Xd,↓Xe,↓Xf,Tryz.VΓ,Tryz.Γs,Xp,Xi,Nat.reduceAdd,Nat.reduceSub,Nat.reduceLT,Nat.reduceLeDiff,reduceIte,reduceCtorEq,Nat.reduceEqDiff,implies_true,forall_const,aa,h0,h4,h5])
     (rcases ht with⟨rfl,fL,xi⟩|⟨j,rfl,lr,hj⟩
      ·obtain rfl:d=[]:=by simpa using fL
       simp only[ad,↓Xn,↓Xo,↓Xg,↓Xd,↓Xe,↓Xf,Tryz.VΓ,Tryz.Γs,Xp,Xi,Nat.reduceAdd,Nat.reduceSub,Nat.reduceLT,Nat.reduceLeDiff,reduceIte,reduceCtorEq,Nat.reduceEqDiff,implies_true,forall_const,aa,h0,h4,h5,hg,aX]
       refine⟨⟨by omega,by omega⟩,by omega,⟨by unfold maxLen;omega,by omega⟩,⟨by omega,by omega⟩,sj (i':=i+2+1) (x:=.o (b++[ay.own [cU (v)] 5 1 1 true]).length 1) (d:=[]++[v]) h0 rfl (by simp only[lk,reduceIte,zK8.injEq,SV.int.injEq,true_and];omega) ⟨by omega,by simp only[zLk,zK7,zK9];omega⟩ (.inr ⟨_,rfl,by omega,aX _ _⟩) (sU) (by omega)⟩
      ·have mA:j<b.length:=(zLb.1 hj).1
       have ho:∀ X,(b++[X])[j]? = some (.own (d.map cU) 5 1 d.length true):=fun X=>af hj [X]
       simp only[ad,↓Xn,↓Xo,↓Xg,↓Xd,↓Xe,↓Xf,Tryz.VΓ,Tryz.Γs,Xp,Xi,Nat.reduceAdd,Nat.reduceSub,Nat.reduceLT,Nat.reduceLeDiff,reduceIte,reduceCtorEq,Nat.reduceEqDiff,implies_true,forall_const,aa,h0,h4,h5,hg,aX,ho]
       refine⟨⟨by omega,by omega⟩,by omega,⟨by unfold maxLen;omega,by omega⟩,⟨by omega,by omega⟩,sj (i':=i+2+1) (x:=.o (b++[ay.own [cU (v)] 5 1 1 true]).length (d.length+1)) (d:=d++[v]) h0 rfl (by simp only[lk,reduceIte,zK8.injEq,SV.int.injEq,true_and];omega) ⟨by omega,by simp;omega⟩ (.inr ⟨(b++[ay.own [cU (v)] 5 1 1 true]).length,by simp,by omega,by rw[zLa (by simp)];simp[cU]⟩) (sU) (by omega)⟩)
  ·have hc:¬ s[i]=37:=by
    rw[cA (n:=37) aA 37 rfl]at hc
    simpa using hc
   rw[if_neg hc]at hu
   rw[hu,dG,gy]at hn
   rw[hg]
   (rcases ht with⟨rfl,fL,xi⟩|⟨j,rfl,lr,hj⟩
    ·obtain rfl:d=[]:=by simpa using fL
     simp only[ad,↓Xn,↓Xo,↓Xg,↓Xd,↓Xe,↓Xf,Tryz.VΓ,Tryz.Γs,Xp,Xi,Nat.reduceAdd,Nat.reduceSub,Nat.reduceLT,Nat.reduceLeDiff,reduceIte,reduceCtorEq,Nat.reduceEqDiff,implies_true,forall_const,aa,h0,h4,h5,hg,aX]
     refine⟨ by omega,⟨by unfold maxLen;omega,by omega⟩,⟨by omega,by omega⟩,sj (i':=i+1) (x:=.o (b++[ay.own [cU (s[i])] 5 1 1 true]).length 1) (d:=[]++[s[i]]) h0 rfl (by simp only[lk,reduceIte,zK8.injEq,SV.int.injEq,true_and];omega) ⟨by omega,by simp only[zLk,zK7,zK9];omega⟩ (.inr ⟨_,rfl,by omega,aX _ _⟩) (hn) (by omega)⟩
    ·have mA:j<b.length:=(zLb.1 hj).1
     have ho:∀ X,(b++[X])[j]? = some (.own (d.map cU) 5 1 d.length true):=fun X=>af hj [X]
     simp only[ad,↓Xn,↓Xo,↓Xg,↓Xd,↓Xe,↓Xf,Tryz.VΓ,Tryz.Γs,Xp,Xi,Nat.reduceAdd,Nat.reduceSub,Nat.reduceLT,Nat.reduceLeDiff,reduceIte,reduceCtorEq,Nat.reduceEqDiff,implies_true,forall_const,aa,h0,h4,h5,hg,aX,ho]
     refine⟨ by omega,⟨by unfold maxLen;omega,by omega⟩,⟨by omega,by omega⟩,sj (i':=i+1) (x:=.o (b++[ay.own [cU (s[i])] 5 1 1 true]).length (d.length+1)) (d:=d++[s[i]]) h0 rfl (by simp only[lk,reduceIte,zK8.injEq,SV.int.injEq,true_and];omega) ⟨by omega,by simp;omega⟩ (.inr ⟨(b++[ay.own [cU (s[i])] 5 1 1 true]).length,by simp,by omega,by rw[zLa (by simp)];simp[cU]⟩) (hn) (by omega)⟩)
 ·have jq:i=s.length:=by omega
  subst jq
  rw[List.drop_length,dJ]at hn
  have kD:dG (az s)=(d,0):=by rw[← hn];simp[dG,comb]
  rw[kD]
  rcases ht with⟨rfl,fL,xi⟩|⟨j,rfl,lr,hj⟩
  ·obtain rfl:d=[]:=by simpa using fL
   simp only[ad,↓Xn,↓Xo,↓Xg,↓Xd,↓Xe,↓Xf,Tryz.VΓ,Tryz.Γs,Xp,Xi,Nat.reduceAdd,Nat.reduceSub,Nat.reduceLT,Nat.reduceLeDiff,reduceIte,reduceCtorEq,Nat.reduceEqDiff,implies_true,forall_const,aa,h0,h4,h5]
   exact fun h=>absurd h (by simp)
  ·simp only[ad,↓Xn,↓Xo,↓Xg,↓Xd,↓Xe,↓Xf,Tryz.VΓ,Tryz.Γs,Xp,Xi,Nat.reduceAdd,Nat.reduceSub,Nat.reduceLT,Nat.reduceLeDiff,reduceIte,reduceCtorEq,Nat.reduceEqDiff,implies_true,forall_const,aa,h0,h4,h5,hj]
   refine⟨fun h=>absurd h (by simp),fun _=>⟨gT d,?_⟩⟩
   rw[gJ]
theorem Bp {bQ s:Bytes}{i:Nat}(h:i<s.length):aE bQ (s.take (i+1))=aE bQ (s.take i)++iA bQ s[i]:=by
 unfold aE
 rw[List.take_succ_eq_append_getElem h,List.flatMap_append,List.flatMap_cons,List.flatMap_nil,List.append_nil]
theorem sub_one {s:Bytes}{i:Nat}(h:i<s.length):(s.take (i+1)).drop i=[s[i]]:=by
 rw[List.take_succ_eq_append_getElem h]
 exact List.drop_left' (by simp;omega)
def ReI (bQ s:Bytes)(σ:St):Prop:=∃ i:Nat,i≤s.length∧lk 0 σ.t=some (.str s)∧lk 1 σ.t=some (.str bQ)∧lk 5 σ.t=some (.str (aE bQ (s.take i)))∧lk 6 σ.t=some (.int .i64 i)
def ReM (s:Bytes)(σ:St):Nat:=match lk 6 σ.t with
 | some (.int _ k)=>s.length - k.toNat
 | _=>0
theorem IU {s:Bytes}{σ:St}{k:Nat}(h:lk 6 σ.t=some (.int .i64 k)):ReM s σ=s.length - k:=by simp[ReM,h]
theorem qt (bQ s:Bytes)(i:Nat):(aE bQ (s.take i)).length≤3 * s.length:=by
 have:=dD bQ (s.take i)
 have:(s.take i).length≤s.length:=by simp;omega
 omega
theorem DE {bQ s:Bytes}{t:List (Nat × SV)}{b:List ay}{i:Nat}(hi:i<s.length)(h0:lk 0 t=some (.str s))(h1:lk 1 t=some (.str bQ))(h5:lk 5 t=some (.str (aE bQ (s.take i)++iA bQ s[i])))(h6:lk 6 t=some (.int .i64 (i+1:Nat))):ReI bQ s ⟨t,b⟩∧ReM s ⟨t,b⟩<s.length - i :=
 ⟨⟨i+1,by omega,h0,h1,by rw[Bp hi];exact h5,h6⟩,by rw[IU h6];omega⟩
theorem rT (s bQ:Bytes)(hs:s.length≤1000000)(hk:bQ.length≤1000):PC Tryz.V 75 [.str s,.str bQ] (.str (aE bQ s)):=by
 refine aU 3000 Tryz.func75 rfl Tryz.ntmps75 Tryz.results75 Tryz.call75 (by simp) (by simp[flat,flat.ai]) (by simp[flat,flat.ai]) ?_
 simp only[ad,↓Xn,↓Xo,↓Xg,↓Xd,↓Xe,↓Xf,Tryz.VΓ,Tryz.Γs,Xp,Xi,Nat.reduceAdd,Nat.reduceSub,Nat.reduceLT,Nat.reduceLeDiff,reduceIte,reduceCtorEq,Nat.reduceEqDiff,implies_true,forall_const,aa]
 refine aJ (ReI bQ s) (ReM s) ⟨0,by omega,rfl,rfl,rfl,rfl⟩ ?_
 rintro⟨t,b⟩ ⟨i,hi,h0,h1,h5,h6⟩
 simp only at h0 h1 h5 h6
 rw[IU h6]
 have mh:=qt bQ s i
 by_cases aA:i<s.length
 ·have hg:s.getD i 0=s[i]:=by simp[zLe,aA]
  have HO:((s[i].toNat:Int) != 37)=(s[i] != 37):=by
   have h:=cA (s:=s) aA 37 (n:=37) rfl
   rw[hg]at h
   show (!((s[i].toNat:Int)==37))=!(s[i]==37)
   rw[h]
  have hb:iA bQ s[i]=if eM s[i]||(s[i] != 37&&bQ.contains s[i]) then [s[i]] else jX s[i]:=rfl
  simp only[ad,↓Xn,↓Xo,↓Xg,↓Xd,↓Xe,↓Xf,Tryz.VΓ,Tryz.Γs,Xp,Xi,Nat.reduceAdd,Nat.reduceSub,Nat.reduceLT,Nat.reduceLeDiff,reduceIte,reduceCtorEq,Nat.reduceEqDiff,implies_true,forall_const,aa,h0,h1,h5,h6]
  refine⟨fun _=>⟨⟨by omega,by omega⟩,?_⟩,fun h=>absurd h (by simp;omega)⟩
  rw[hg]
  (refine ae (cX s[i]) ?_;simp only[ad,↓Xn,↓Xo,↓Xg,↓Xd,↓Xe,↓Xf,Tryz.VΓ,Tryz.Γs,Xp,Xi,Nat.reduceAdd,Nat.reduceSub,Nat.reduceLT,Nat.reduceLeDiff,reduceIte,reduceCtorEq,Nat.reduceEqDiff,implies_true,forall_const,aa,h0,h1,h5,h6,hg])
  refine⟨fun hq=>⟨⟨by omega,by omega⟩,fun vA=>⟨⟨by omega,by omega⟩,?_⟩,fun vA=>⟨⟨by omega,by omega⟩,?_⟩⟩,fun hq=>?_⟩
  ·have e2:List.contains bQ s[i]=false→iA bQ s[i]=jX s[i]:=fun mr=>by rw[hb,hq,mr];simp
   have e1:List.contains bQ s[i]=true→iA bQ s[i]=(s.take (i+1)).drop i:=fun mr=>by rw[hb,mr,← HO,vA,sub_one aA];simp
   (refine ae (j9 s[i] bQ (by omega)) ?_;simp only[ad,↓Xn,↓Xo,↓Xg,↓Xd,↓Xe,↓Xf,Tryz.VΓ,Tryz.Γs,Xp,Xi,Nat.reduceAdd,Nat.reduceSub,Nat.reduceLT,Nat.reduceLeDiff,reduceIte,reduceCtorEq,Nat.reduceEqDiff,implies_true,forall_const,aa,h0,h1,h5,h6,hg])
   refine⟨fun mr=>⟨⟨by omega,by omega⟩,⟨by omega,by omega,by omega⟩,by rw[sub_one aA,List.length_singleton];omega,⟨by omega,by omega⟩,DE aA h0 h1 (by rw[e1 mr];rfl) (by simp only[lk,reduceIte,zK8.injEq,SV.int.injEq,true_and];omega)⟩,fun mr=>⟨⟨by omega,by omega⟩,?_⟩⟩
   (refine ae (j8 s[i]) ?_;simp only[ad,↓Xn,↓Xo,↓Xg,↓Xd,↓Xe,↓Xf,Tryz.VΓ,Tryz.Γs,Xp,Xi,Nat.reduceAdd,Nat.reduceSub,Nat.reduceLT,Nat.reduceLeDiff,reduceIte,reduceCtorEq,Nat.reduceEqDiff,implies_true,forall_const,aa,h0,h1,h5,h6,hg])
   exact⟨by rw[show (jX s[i]).length=3 from rfl];omega,⟨by omega,by omega⟩,DE aA h0 h1 (by rw[e2 mr];rfl) (by simp only[lk,reduceIte,zK8.injEq,SV.int.injEq,true_and];omega)⟩
  ·have e2:iA bQ s[i]=jX s[i]:=by rw[hb,hq,← HO,vA];simp
   (refine ae (j8 s[i]) ?_;simp only[ad,↓Xn,↓Xo,↓Xg,↓Xd,↓Xe,↓Xf,Tryz.VΓ,Tryz.Γs,Xp,Xi,Nat.reduceAdd,Nat.reduceSub,Nat.reduceLT,Nat.reduceLeDiff,reduceIte,reduceCtorEq,Nat.reduceEqDiff,implies_true,forall_const,aa,h0,h1,h5,h6,hg])
   exact⟨by rw[show (jX s[i]).length=3 from rfl];omega,⟨by omega,by omega⟩,DE aA h0 h1 (by rw[e2];rfl) (by simp only[lk,reduceIte,zK8.injEq,SV.int.injEq,true_and];omega)⟩
  ·have e1:iA bQ s[i]=(s.take (i+1)).drop i:=by rw[hb,hq,sub_one aA];simp
   exact⟨⟨by omega,by omega⟩,⟨by omega,by omega,by omega⟩,by rw[sub_one aA,List.length_singleton];omega,⟨by omega,by omega⟩,DE aA h0 h1 (by rw[e1];rfl) (by simp only[lk,reduceIte,zK8.injEq,SV.int.injEq,true_and];omega)⟩
 ·have jq:i=s.length:=by omega
  subst jq
  rw[zLj]at h5
  simp only[ad,↓Xn,↓Xo,↓Xg,↓Xd,↓Xe,↓Xf,Tryz.VΓ,Tryz.Γs,Xp,Xi,Nat.reduceAdd,Nat.reduceSub,Nat.reduceLT,Nat.reduceLeDiff,reduceIte,reduceCtorEq,Nat.reduceEqDiff,implies_true,forall_const,aa,h0,h1,h5,h6]
  exact fun h=>absurd h (by simp)
def PeI (bQ s:Bytes)(σ:St):Prop:=∃ (i:Nat) (x:SV),i≤s.length∧lk 0 σ.t=some (.str s)∧lk 1 σ.t=some (.str bQ)∧lk 5 σ.t=some (.p 0 0)∧lk 9 σ.t=some (.int .i64 s.length)∧lk 10 σ.t=some (.int .i64 i)∧1≤σ.b.length∧sI σ.b 0 1 x (aE bQ (s.take i))
def PeM (s:Bytes)(σ:St):Nat:=match lk 10 σ.t with
 | some (.int _ k)=>s.length - k.toNat
 | _=>0
theorem IW {s:Bytes}{σ:St}{k:Nat}(h:lk 10 σ.t=some (.int .i64 k)):PeM s σ=s.length - k:=by simp[PeM,h]
theorem wN {bQ s:Bytes}{t:List (Nat × SV)}{b:List ay}{i:Nat}{x:SV}(hi:i<s.length)(h0:lk 0 t=some (.str s))(h1:lk 1 t=some (.str bQ))(h5:lk 5 t=some (.p 0 0))(h9:lk 9 t=some (.int .i64 s.length))(fc:lk 10 t=some (.int .i64 (i+1:Nat)))(hb:1≤b.length)(ht:sI b 0 1 x (aE bQ (s.take i)++iA bQ s[i])):PeI bQ s ⟨t,b⟩∧PeM s ⟨t,b⟩<s.length - i :=
 ⟨⟨i+1,x,by omega,h0,h1,h5,h9,fc,hb,by rw[Bp hi];exact ht⟩,by rw[IW fc];omega⟩
theorem tR (s bQ:Bytes)(hs:s.length≤300000):PC Tryz.V 148 [.str s,.str bQ] (.str (aE bQ s)):=by
 refine aU 3000 Tryz.func148 rfl Tryz.ntmps148 Tryz.results148 Tryz.call148 (by simp) (by simp[flat,flat.ai]) (by simp[flat,flat.ai]) ?_
 simp only[ad,↓Xn,↓Xo,↓Xg,↓Xd,↓Xe,↓Xf,Tryz.VΓ,Tryz.Γs,Xp,Xi,Nat.reduceAdd,Nat.reduceSub,Nat.reduceLT,Nat.reduceLeDiff,reduceIte,reduceCtorEq,Nat.reduceEqDiff,implies_true,forall_const,aa]
 refine aJ (PeI bQ s) (PeM s) ⟨0,.aD,by omega,rfl,rfl,rfl,rfl,rfl,by simp,⟨rfl,.inl ⟨rfl,rfl,rfl⟩,by omega⟩⟩ ?_
 rintro⟨t,b⟩ ⟨i,x,hi,h0,h1,h5,h9,fc,nD,ht⟩
 simp only at h0 h1 h5 h9 fc nD ht
 rw[IW fc]
 have mh:=qt bQ s i
 have gH:=ht.box
 by_cases aA:i<s.length
 ·have hg:s.getD i 0=s[i]:=by simp[zLe,aA]
  have HO:((s[i].toNat:Int) != 37)=(s[i] != 37):=by
   have h:=cA (s:=s) aA 37 (n:=37) rfl
   rw[hg]at h
   show (!((s[i].toNat:Int)==37))=!(s[i]==37)
   rw[h]
  have hb:iA bQ s[i]=if eM s[i]||(s[i] != 37&&bQ.contains s[i]) then [s[i]] else jX s[i]:=rfl
  simp only[ad,↓Xn,↓Xo,↓Xg,↓Xd,↓Xe,↓Xf,Tryz.VΓ,Tryz.Γs,Xp,Xi,Nat.reduceAdd,Nat.reduceSub,Nat.reduceLT,Nat.reduceLeDiff,reduceIte,reduceCtorEq,Nat.reduceEqDiff,implies_true,forall_const,aa,h0,h1,h5,h9,fc]
  refine⟨fun _=>⟨⟨by omega,by omega⟩,?_⟩,fun h=>absurd h (by simp;omega)⟩
  rw[hg]
  (refine ae (eZ s[i]) ?_;simp only[ad,↓Xn,↓Xo,↓Xg,↓Xd,↓Xe,↓Xf,Tryz.VΓ,Tryz.Γs,Xp,Xi,Nat.reduceAdd,Nat.reduceSub,Nat.reduceLT,Nat.reduceLeDiff,reduceIte,reduceCtorEq,Nat.reduceEqDiff,implies_true,forall_const,aa,h0,h1,h5,h9,fc,hg])
  refine⟨fun hq=>⟨fun vA=>?_,fun vA=>?_⟩,fun hq=>?_⟩
  ·(refine ae (dx bQ s[i]) ?_;simp only[ad,↓Xn,↓Xo,↓Xg,↓Xd,↓Xe,↓Xf,Tryz.VΓ,Tryz.Γs,Xp,Xi,Nat.reduceAdd,Nat.reduceSub,Nat.reduceLT,Nat.reduceLeDiff,reduceIte,reduceCtorEq,Nat.reduceEqDiff,implies_true,forall_const,aa,h0,h1,h5,h9,fc,hg])
   rw[qa]
   refine⟨fun mr=>?_,fun mr=>?_⟩
   ·have e1:iA bQ s[i]=[s[i]]:=by rw[hb,mr,← HO,vA];simp
    (rcases ht.sl with⟨rfl,fL,xi⟩|⟨j,rfl,lr,hj⟩
     ·have ho:∀ X,(b++[X])[0]? = some (.cells [.aD] 174 true):=fun X=>af gH [X]
      have jJ:∀ X Y,(b++[X]++[Y])[0]? = some (.cells [.aD] 174 true):=fun X Y=>af (ho X) [Y]
      simp only[ad,↓Xn,↓Xo,↓Xg,↓Xd,↓Xe,↓Xf,Tryz.VΓ,Tryz.Γs,Xp,Xi,Nat.reduceAdd,Nat.reduceSub,Nat.reduceLT,Nat.reduceLeDiff,reduceIte,reduceCtorEq,Nat.reduceEqDiff,implies_true,forall_const,aa,h0,h1,h5,h9,fc,gH,aX,ho,jJ]
      exact⟨by omega,⟨by unfold maxLen;omega,by omega⟩,⟨by omega,by omega⟩,wN (x:=.o (b++[ay.own [cU s[i]] 5 1 1 true]).length 1) aA h0 h1 h5 h9 (by simp only[lk,reduceIte,zK8.injEq,SV.int.injEq,true_and];omega) (by simp) (by rw[e1];exact pD ht nD s[i] rfl)⟩
     ·have ho:∀ X,(b++[X])[j]? = some (.own ((aE bQ (s.take i)).map cU) 5 1 (aE bQ (s.take i)).length true):=fun X=>af hj [X]
      have jJ:∀ X Y,((b++[X]).set j .gone++[Y])[0]? = some (.cells [.o j (aE bQ (s.take i)).length] 174 true):=fun X Y=>by
       rw[List.getElem?_append_left (by simp),List.getElem?_set_ne (by omega)];exact af gH [X]
      simp only[ad,↓Xn,↓Xo,↓Xg,↓Xd,↓Xe,↓Xf,Tryz.VΓ,Tryz.Γs,Xp,Xi,Nat.reduceAdd,Nat.reduceSub,Nat.reduceLT,Nat.reduceLeDiff,reduceIte,reduceCtorEq,Nat.reduceEqDiff,implies_true,forall_const,aa,h0,h1,h5,h9,fc,gH,aX,ho,jJ]
      exact⟨by omega,⟨by unfold maxLen;omega,by omega⟩,⟨by omega,by omega⟩,wN (x:=.o (b++[ay.own [cU s[i]] 5 1 1 true]).length ((aE bQ (s.take i)).length+1)) aA h0 h1 h5 h9 (by simp only[lk,reduceIte,zK8.injEq,SV.int.injEq,true_and];omega) (by simp) (by rw[e1];exact mK ht nD s[i] lr)⟩)
   ·have e2:iA bQ s[i]=jX s[i]:=by rw[hb,hq,mr];simp
    (refine aG (qV ht nD (by omega) s[i]) ?_
     rintro r b' ⟨rfl,x',ht',hbl',-⟩
     simp only[ad,↓Xn,↓Xo,↓Xg,↓Xd,↓Xe,↓Xf,Tryz.VΓ,Tryz.Γs,Xp,Xi,Nat.reduceAdd,Nat.reduceSub,Nat.reduceLT,Nat.reduceLeDiff,reduceIte,reduceCtorEq,Nat.reduceEqDiff,implies_true,forall_const,aa,h0,h1,h5,h9,fc]
     exact⟨⟨by omega,by omega⟩,wN aA h0 h1 h5 h9 (by simp only[lk,reduceIte,zK8.injEq,SV.int.injEq,true_and];omega) (by omega) (by rw[e2];exact ht')⟩)
  ·have e2:iA bQ s[i]=jX s[i]:=by rw[hb,hq,← HO,vA];simp
   (refine aG (qV ht nD (by omega) s[i]) ?_
    rintro r b' ⟨rfl,x',ht',hbl',-⟩
    simp only[ad,↓Xn,↓Xo,↓Xg,↓Xd,↓Xe,↓Xf,Tryz.VΓ,Tryz.Γs,Xp,Xi,Nat.reduceAdd,Nat.reduceSub,Nat.reduceLT,Nat.reduceLeDiff,reduceIte,reduceCtorEq,Nat.reduceEqDiff,implies_true,forall_const,aa,h0,h1,h5,h9,fc]
    exact⟨⟨by omega,by omega⟩,wN aA h0 h1 h5 h9 (by simp only[lk,reduceIte,zK8.injEq,SV.int.injEq,true_and];omega) (by omega) (by rw[e2];exact ht')⟩)
  ·have e1:iA bQ s[i]=[s[i]]:=by rw[hb,hq];simp
   (rcases ht.sl with⟨rfl,fL,xi⟩|⟨j,rfl,lr,hj⟩
    ·have ho:∀ X,(b++[X])[0]? = some (.cells [.aD] 174 true):=fun X=>af gH [X]
     have jJ:∀ X Y,(b++[X]++[Y])[0]? = some (.cells [.aD] 174 true):=fun X Y=>af (ho X) [Y]
     simp only[ad,↓Xn,↓Xo,↓Xg,↓Xd,↓Xe,↓Xf,Tryz.VΓ,Tryz.Γs,Xp,Xi,Nat.reduceAdd,Nat.reduceSub,Nat.reduceLT,Nat.reduceLeDiff,reduceIte,reduceCtorEq,Nat.reduceEqDiff,implies_true,forall_const,aa,h0,h1,h5,h9,fc,gH,aX,ho,jJ]
     exact⟨by omega,⟨by unfold maxLen;omega,by omega⟩,⟨by omega,by omega⟩,wN (x:=.o (b++[ay.own [cU s[i]] 5 1 1 true]).length 1) aA h0 h1 h5 h9 (by simp only[lk,reduceIte,zK8.injEq,SV.int.injEq,true_and];omega) (by simp) (by rw[e1];exact pD ht nD s[i] rfl)⟩
    ·have ho:∀ X,(b++[X])[j]? = some (.own ((aE bQ (s.take i)).map cU) 5 1 (aE bQ (s.take i)).length true):=fun X=>af hj [X]
     have jJ:∀ X Y,((b++[X]).set j .gone++[Y])[0]? = some (.cells [.o j (aE bQ (s.take i)).length] 174 true):=fun X Y=>by
      rw[List.getElem?_append_left (by simp),List.getElem?_set_ne (by omega)];exact af gH [X]
     simp only[ad,↓Xn,↓Xo,↓Xg,↓Xd,↓Xe,↓Xf,Tryz.VΓ,Tryz.Γs,Xp,Xi,Nat.reduceAdd,Nat.reduceSub,Nat.reduceLT,Nat.reduceLeDiff,reduceIte,reduceCtorEq,Nat.reduceEqDiff,implies_true,forall_const,aa,h0,h1,h5,h9,fc,gH,aX,ho,jJ]
     exact⟨by omega,⟨by unfold maxLen;omega,by omega⟩,⟨by omega,by omega⟩,wN (x:=.o (b++[ay.own [cU s[i]] 5 1 1 true]).length ((aE bQ (s.take i)).length+1)) aA h0 h1 h5 h9 (by simp only[lk,reduceIte,zK8.injEq,SV.int.injEq,true_and];omega) (by simp) (by rw[e1];exact mK ht nD s[i] lr)⟩)
 ·have jq:i=s.length:=by omega
  subst jq
  rw[zLj]at ht
  rcases ht.sl with⟨rfl,fL,xi⟩|⟨j,rfl,lr,hj⟩
  ·have hd:aE bQ s=[]:=by simpa using fL
   simp only[ad,↓Xn,↓Xo,↓Xg,↓Xd,↓Xe,↓Xf,Tryz.VΓ,Tryz.Γs,Xp,Xi,Nat.reduceAdd,Nat.reduceSub,Nat.reduceLT,Nat.reduceLeDiff,reduceIte,reduceCtorEq,Nat.reduceEqDiff,implies_true,forall_const,aa,h0,h1,h5,h9,fc,gH]
   exact⟨fun h=>absurd h (by simp),fun _=>by rw[hd]⟩
  ·simp only[ad,↓Xn,↓Xo,↓Xg,↓Xd,↓Xe,↓Xf,Tryz.VΓ,Tryz.Γs,Xp,Xi,Nat.reduceAdd,Nat.reduceSub,Nat.reduceLT,Nat.reduceLeDiff,reduceIte,reduceCtorEq,Nat.reduceEqDiff,implies_true,forall_const,aa,h0,h1,h5,h9,fc,gH,hj]
   exact⟨fun h=>absurd h (by simp),fun _=>⟨gT _,by rw[gJ]⟩⟩
end Go.Proofs.YteipdaijbncgeaaGreatDoor
namespace Wf
open Go Go.RowKit
structure lY where
 loc:Bytes
 host:Bytes
 deriving DecidableEq
def lY.none:lY:=⟨[],[]⟩
def IK:Bytes:=[33,35,36,37,38,39,42,43,45,47,61,63,94,95,96,123,124,125,126]
def ml (c:UInt8):Bool:=isAlpha c||isDigit c||IK.contains c
def fX (s:Bytes):Bool:=!s.isEmpty&&s.all ml
def jl (s:Bytes):Bool:=(aB 46 s).all fX&&decide (s.length≤64)
def kN:Bytes:=[109,97,105,108,116,111,58]
def AN:Bytes:=[33,36,39,42,43]
def fP:Bytes:=[37,33,36,39,42,43]
def iq (c:UInt8):Bool:=eM c||fP.contains c
def yy (l:Bytes × Int)(h:Bytes × Int):lY × Int :=
 if l.2≠0 then(lY.none,l.2)
 else if jl l.1=false then(lY.none,80)
 else if h.2≠0 then(lY.none,h.2)
 else if ipv4 h.1=true then(lY.none,50)
 else(⟨l.1,h.1⟩,0)
def pZ (s:Bytes):lY × Int :=
 if (aM 64 s).2.2=false∨(63:UInt8)∈s∨(35:UInt8)∈s then(lY.none,6)
 else if (aM 64 s).1.all iq=false then(lY.none,1)
 else yy (aj (aM 64 s).1) (bw (aM 64 s).2.1)
def bN (s:Bytes):lY × Int :=
 if 4096<s.length then(lY.none,5)
 else if s.length<7∨lower (s.take 7)≠kN then(lY.none,60)
 else pZ (s.drop 7)
def ni (m:lY):Bytes:=kN++aE AN m.loc++[64]++m.host
theorem Aw {s:Bytes}(h:jl s=true):s.length≤64:=by
 unfold jl at h
 simp only[Bool.and_eq_true,decide_eq_true_eq]at h
 exact h.2
structure CanMail (m:lY):Prop where
 loc:jl m.loc=true
 host:bw m.host=(m.host,0)
 no:ipv4 m.host=false
theorem G2 {s:Bytes}{m:lY}(h:bN s=(m,0)):CanMail m:=by
 unfold bN at h
 split at h
 ·simp at h
 split at h
 ·simp at h
 unfold pZ at h
 split at h
 ·simp at h
 split at h
 ·simp at h
 unfold yy at h
 split at h
 ·rename_i h5;exact absurd (Prod.mk.inj h).2 h5
 split at h
 ·simp at h
 rename_i h6
 split at h
 ·rename_i h5;exact absurd (Prod.mk.inj h).2 h5
 split at h
 ·simp at h
 rename_i h7 h8
 simp only[Prod.mk.injEq,and_true]at h
 subst h
 have e:bw (aM 64 (s.drop 7)).2.1=((bw (aM 64 (s.drop 7)).2.1).1,0):=by
  have:(bw (aM 64 (s.drop 7)).2.1).2=0:=by simpa using h7
  rw[← this]
 exact⟨by simpa using h6,(nw e).2.2,by simpa using h8⟩
def kO:Bool→Bytes→Bool
 | dot,[]=>!dot
 | dot,c::r=>if (c != 46&&!ml c)||(c==46&&dot) then false else kO (c==46) r
theorem Es {c:UInt8}(h:ml c=true):c≠46:=by rintro rfl;revert h;decide
theorem nj:∀ (s cur:Bytes),cur.all ml=true→kO cur.isEmpty s=(aB 46 (cur++s)).all fX
 | [],cur,h=>by
   have hn:(46:UInt8) ∉ cur:=fun k=>Es (zLm.1 h _ k) rfl
   rw[List.append_nil,bW (by rw[eC hn];omega)]
   simp[kO,fX,h]
 | c::r,cur,h=>by
   have hn:(46:UInt8) ∉ cur:=fun k=>Es (zLm.1 h _ k) rfl
   rw[kO]
   by_cases hc:c=46
   ·subst hc
    have hp:pre (·==46) (cur++46::r)=cur.length:=sM (eC hn) 46 r (by decide)
    rw[cD (by rw[hp];simp),hp,List.take_left,← List.drop_drop,List.drop_left,List.drop_succ_cons,List.drop_zero,List.all_cons]
    have ih:=nj r [] rfl
    rw[zLk]at ih
    rw[← ih]
    have ha:fX cur=!cur.isEmpty:=by simp[fX,h]
    rw[ha]
    cases cur <;> simp
   ·by_cases ha:ml c=true
    ·rw[if_neg (by simp[hc,ha])]
     have ih:=nj r (cur++[c]) (by simp[h,ha])
     rw[List.append_assoc,List.singleton_append]at ih
     rw[← ih]
     have:(c==46)=false:=by simpa using hc
     rw[this]
     cases cur <;> rfl
    ·rw[if_pos (by simp[hc,ha])]
     symm
     rw[← Bool.not_eq_true]
     intro aT
     rcases oZ 46 _ (cur++c::r) (zLf _) c (by simp) with h1|⟨x,h1,h2⟩
     ·exact hc h1
     ·have:=zLm.1 aT x h1
      unfold fX at this
      simp only[Bool.and_eq_true]at this
      exact ha (zLm.1 this.2 c h2)
theorem CC (s:Bytes):jl s=(kO true s&&decide (s.length≤64)):=by
 have:=nj s [] rfl
 rw[zLk]at this
 unfold jl
 rw[← this];rfl
end Wf
namespace Go.Proofs.YteipdaijbncgeaaGreatDoor
open Go.RowKit Wf
attribute [local go_sem] fB eF get_list
theorem yw (c:UInt8)(w:World)(h:bm c=true):Calls Tryz.prog 216 #[.int .u8 c.toNat] w fun e w'=>e=.returned (.int .u64 (cu c))∧w=w':=by
 cases hd:isDigit c
 all_goals
  go_enter Tryz.func216,Tryz.ntmps216
  go_wp2_with (go_at_call 182;refine(bB _ _).mono ?_;rintro e w' ⟨rfl,rfl⟩)
  go_ret
  refine⟨sL ?_,rfl⟩
  have hb:=Cw c
  simp[bm,isDigit]at h hd
  unfold cu
  split <;> (try split) <;> omega
theorem tY (s:Bytes)(m:Nat)(w:World)(hs:s.length≤9223372036854775807)(hm:m≤4611686018427387904) :
 Calls Tryz.prog 210 #[(Value.string ⟨zK4 (s)⟩),.int .u64 10,.int .u64 m,.func (.func 182) #[] #[]] w fun e w'=>e=.returned (.tuple #[.int .u64 (bH isDigit 10 m s).1,.int .i64 (bH isDigit 10 m s).2])∧w=w':=by
 cases bk:s.isEmpty
 ·go_enter Tryz.func210,Tryz.ntmps210
  go_wp2_with fail
  go_loop [18] (fun i=>∃ k:Nat,k≤s.length∧i=.int .i64 k∧(s.take k).all isDigit=true) (fun i=>s.length - (intOf i).toNat)
  case atStart=>exact⟨0,by omega,rfl,rfl⟩
  case round =>
   obtain⟨k,hk,rfl,aT⟩:=hrel
   have Hall:=hid aT
   clear aT
   by_cases aA:k<s.length
   ·cases hc:isDigit s[k]
    ·go_wp2_with (go_at_call 182;refine(bB _ _).mono ?_;rintro e w' ⟨rfl,rfl⟩)
     go_ret2
     exact⟨mQ (by simp[bH,bk,cQ aA hc]),rfl⟩
    ·go_wp2_with (go_at_call 182;refine(bB _ _).mono ?_;rintro e w' ⟨rfl,rfl⟩)
     go_round
     case rel=>exact⟨k+1,by omega,by go_num,aS aA Hall.out hc⟩
     case measure=>simp[intOf];omega
   ·have aT:s.all isDigit=true:=by have:=Hall.out;rwa [zLc (by omega)]at this
    clear Hall
    have Hall:=hid aT
    clear aT
    go_wp2_with fail
    go_loop [11,30] (fun n i=>∃ k a:Nat,k≤s.length∧i=.int .i64 k∧a≤m∧n=.int .u64 a∧cY 10 m a (s.drop k)=cY 10 m 0 s) (fun _ i=>s.length - (intOf i).toNat)
    case atStart=>exact⟨0,0,by omega,rfl,by omega,rfl,rfl⟩
    case round =>
     obtain⟨j,a,hj,rfl,ha,rfl,heq⟩:=hrel
     have Heq:=hid heq
     clear heq
     by_cases BU:j<s.length
     ·have hv:=kU (show bm s[j]=true by have:=yV Hall.out BU;first|exact this | (simp[isDigit,bm]at this ⊢;omega))
      go_wp2_with (go_at_call 216;refine(yw _ _ (by have:=yV Hall.out BU;first|exact this | (simp[isDigit,bm]at this ⊢;omega))).mono ?_;rintro e w' ⟨rfl,rfl⟩)
      all_goals first
       | (go_ret2;exact⟨mQ (pU bk Hall.out Heq.out BU (by omega)),rfl⟩)
       | (go_round
          case rel=>exact⟨j+1,a * 10+cu s[j],by omega,by go_num,by omega,by go_num,oz Heq.out BU (by omega)⟩
          case measure=>simp[intOf];omega)
     ·go_wp2_with fail
      go_ret2
      exact⟨mQ (oA bk Hall.out Heq.out BU),rfl⟩
 ·go_enter Tryz.func210,Tryz.ntmps210
  go_wp2_with fail
  go_ret2
  exact⟨mQ (by simp[bH,bk]),rfl⟩
theorem lH (s:Bytes)(m:Nat)(w:World)(hs:s.length≤9223372036854775807)(hm:m≤4611686018427387904) :
 Calls Tryz.prog 199 #[(Value.string ⟨zK4 (s)⟩),.int .u64 m] w fun e w'=>e=.returned (.tuple #[.int .u64 (bH isDigit 10 m s).1,.int .i64 (bH isDigit 10 m s).2])∧w=w':=by
 go_enter Tryz.func199,Tryz.ntmps199
 go_wp2_with (go_at_call 210;refine(tY _ _ _ hs hm).mono ?_;rintro e w' ⟨rfl,rfl⟩)
 go_ret2
 exact⟨rfl,rfl⟩
theorem ky (s:Bytes)(m:Nat)(w:World)(hs:s.length≤9223372036854775807)(hm:m≤4611686018427387904) :
 Calls Tryz.prog 173 #[(Value.string ⟨zK4 (s)⟩),.int .u64 m] w fun e w'=>e=.returned (.tuple #[.int .u64 (aW m s).1,.int .i64 (aW m s).2])∧w=w':=by
 by_cases hd:bY s=true
 ·by_cases h1:1<s.length
  ·by_cases h0:s[0]=48
   ·have Hq:=hid (show aW m s=(0,6) from if_pos ⟨hd,h1,by rw[kX (by omega),h0]⟩)
    have hx:((s[0].toNat:Int)==48)=true:=by simp[h0]
    clear h0
    go_enter Tryz.func173,Tryz.ntmps173
    go_wp2_with (go_at_call 192;refine(gZ _ _ hs).mono ?_;rintro e w' ⟨rfl,rfl⟩)
    go_ret2
    rw[Hq.out]
    exact⟨rfl,rfl⟩
   ·have Hq:=hid (show aW m s=bH isDigit 10 m s from if_neg (by rintro⟨_,_,h⟩;rw[kX (by omega)]at h;exact h0 (by simpa using h)))
    have hx:((s[0].toNat:Int)==48)=false:=zn h0
    clear h0
    go_enter Tryz.func173,Tryz.ntmps173
    go_wp2_with (first
     | (go_at_call 192;refine(gZ _ _ hs).mono ?_;rintro e w' ⟨rfl,rfl⟩)
     | (go_at_call 199;refine(lH _ _ _ hs hm).mono ?_;rintro e w' ⟨rfl,rfl⟩))
    go_ret2
    rw[Hq.out]
    exact⟨rfl,rfl⟩
  ·have Hq:=hid (show aW m s=bH isDigit 10 m s from if_neg (by rintro⟨_,h,_⟩;exact h1 h))
   go_enter Tryz.func173,Tryz.ntmps173
   go_wp2_with (first
    | (go_at_call 192;refine(gZ _ _ hs).mono ?_;rintro e w' ⟨rfl,rfl⟩)
    | (go_at_call 199;refine(lH _ _ _ hs hm).mono ?_;rintro e w' ⟨rfl,rfl⟩))
   go_ret2
   rw[Hq.out]
   exact⟨rfl,rfl⟩
 ·have Hq:=hid (show aW m s=bH isDigit 10 m s from if_neg (by rintro⟨h,_,_⟩;exact hd h))
  have nC:bY s=false:=by simpa using hd
  clear hd
  go_enter Tryz.func173,Tryz.ntmps173
  go_wp2_with (first
   | (go_at_call 192;refine(gZ _ _ hs).mono ?_;rintro e w' ⟨rfl,rfl⟩)
   | (go_at_call 199;refine(lH _ _ _ hs hm).mono ?_;rintro e w' ⟨rfl,rfl⟩))
  go_ret2
  rw[Hq.out]
  exact⟨rfl,rfl⟩
theorem vM (s:Bytes)(m:Nat)(w:World)(hs:s.length≤9223372036854775807)(hm:m≤4611686018427387904) :
 Calls Tryz.prog 128 #[(Value.string ⟨zK4 (s)⟩),.int .u64 10,.int .u64 m] w fun e w'=>e=.returned (.tuple #[.int .u64 (bH isDigit 10 m s).1,.int .i64 (bH isDigit 10 m s).2])∧w=w':=by
 cases bk:s.isEmpty
 ·go_enter Tryz.func128,Tryz.ntmps128
  go_wp2_with fail
  go_loop [8] (fun i=>∃ k:Nat,k≤s.length∧i=.int .i64 k∧(s.take k).all isDigit=true) (fun i=>s.length - (intOf i).toNat)
  case atStart=>exact⟨0,by omega,rfl,rfl⟩
  case round =>
   obtain⟨k,hk,rfl,aT⟩:=hrel
   have Hall:=hid aT
   clear aT
   by_cases aA:k<s.length
   ·cases hc:isDigit s[k]
    ·have Ha:=hid (cQ aA hc)
     go_wp2_with (go_at_call 94;refine(df _ _).mono ?_;rintro e w' ⟨rfl,rfl⟩)
     go_ret2
     exact⟨mQ (by simp[bH,bk,Ha.out]),rfl⟩
    ·go_wp2_with (go_at_call 94;refine(df _ _).mono ?_;rintro e w' ⟨rfl,rfl⟩)
     go_round
     case rel=>exact⟨k+1,by omega,by go_num,aS aA Hall.out hc⟩
     case measure=>simp[intOf];omega
   ·have aT:s.all isDigit=true:=by have:=Hall.out;rwa [zLc (by omega)]at this
    clear Hall
    have Hall:=hid aT
    clear aT
    go_wp2_with fail
    go_loop [9,10] (fun n i=>∃ k a:Nat,k≤s.length∧i=.int .i64 k∧a≤m∧n=.int .u64 a∧cY 10 m a (s.drop k)=cY 10 m 0 s) (fun _ i=>s.length - (intOf i).toNat)
    case atStart=>exact⟨0,0,by omega,rfl,by omega,rfl,rfl⟩
    case round =>
     obtain⟨j,a,hj,rfl,ha,rfl,heq⟩:=hrel
     have Heq:=hid heq
     clear heq
     by_cases BU:j<s.length
     ·have hdg:=yV Hall.out BU
      simp[isDigit]at hdg
      obtain⟨pg,nC⟩:=hdg
      have Hv:=hid (show (cu s[j]:Int)=s[j].toNat - 48 by unfold cu;rw[if_pos nC];omega)
      go_wp2_with fail
      all_goals
       have hu:=Gj ((m:Int) - (s[j].toNat - 48)) (by omega) (by omega)
       have hv:=Hv.out
       first
       | (go_ret2;exact⟨mQ (pU bk Hall.out Heq.out BU (by omega)),rfl⟩)
       | (go_round
          case rel=>exact⟨j+1,a * 10+cu s[j],by omega,by go_num,by omega,congrArg (Value.int .u64) (by omega),oz Heq.out BU (by omega)⟩
          case measure=>simp[intOf];omega)
     ·go_wp2_with fail
      go_ret2
      exact⟨mQ (oA bk Hall.out Heq.out BU),rfl⟩
 ·go_enter Tryz.func128,Tryz.ntmps128
  go_wp2_with fail
  go_ret2
  exact⟨mQ (by simp[bH,bk]),rfl⟩
theorem lG (s:Bytes)(m:Nat)(w:World)(hs:s.length≤9223372036854775807)(hm:m≤4611686018427387904) :
 Calls Tryz.prog 97 #[(Value.string ⟨zK4 (s)⟩),.int .u64 m] w fun e w'=>e=.returned (.tuple #[.int .u64 (aW m s).1,.int .i64 (aW m s).2])∧w=w':=by
 have hq:aW m s=if bY s=true∧1<s.length∧s.head? = some 48 then(0,6) else bH isDigit 10 m s:=rfl
 have he:=kL m s
 have hc:=vM s m w hs hm
 generalize bH isDigit 10 m s=np at hq he hc
 obtain⟨n,e⟩:=np
 simp only at hq he hc
 have Hc:=hid hc
 clear hc
 by_cases hd:bY s=true
 ·rw[hd]at he
  simp only[iff_true]at he
  have hg:(e==0||e==4)=true:=by simp;omega
  by_cases h1:1<s.length
  ·by_cases h0:s[0]=48
   ·rw[if_pos ⟨hd,h1,by rw[kX (by omega),h0]⟩]at hq
    have Hq:=hid hq
    have hx:((s[0].toNat:Int)==48)=true:=by simp[h0]
    clear h0 hq
    rcases he with rfl|rfl
    all_goals
     go_enter Tryz.func97,Tryz.ntmps97
     go_wp2_with fail
     refine Hc.out.mono ?_
     rintro e w' ⟨rfl,rfl⟩
     go_wp2_with fail
     go_ret2
     rw[Hq.out]
     exact⟨rfl,rfl⟩
   ·rw[if_neg (by rintro⟨_,_,h⟩;rw[kX (by omega)]at h;exact h0 (by simpa using h))]at hq
    have Hq:=hid hq
    have hx:((s[0].toNat:Int)==48)=false:=zn h0
    clear h0 hq
    rcases he with rfl|rfl
    all_goals
     go_enter Tryz.func97,Tryz.ntmps97
     go_wp2_with fail
     refine Hc.out.mono ?_
     rintro e w' ⟨rfl,rfl⟩
     go_wp2_with fail
     go_ret2
     rw[Hq.out]
     exact⟨rfl,rfl⟩
  ·rw[if_neg (by rintro⟨_,h,_⟩;exact h1 h)]at hq
   have Hq:=hid hq
   clear hq
   rcases he with rfl|rfl
   all_goals
    go_enter Tryz.func97,Tryz.ntmps97
    go_wp2_with fail
    refine Hc.out.mono ?_
    rintro e w' ⟨rfl,rfl⟩
    go_wp2_with fail
    go_ret2
    rw[Hq.out]
    exact⟨rfl,rfl⟩
 ·rw[if_neg (by rintro⟨h,_,_⟩;exact hd h)]at hq
  have nC:bY s=false:=by simpa using hd
  rw[nC]at he
  have h1:(e==0)=false:=by simp;intro h;simp[h]at he
  have h2:(e==4)=false:=by simp;intro h;simp[h]at he
  have Hq:=hid hq
  clear hd he hq
  go_enter Tryz.func97,Tryz.ntmps97
  go_wp2_with fail
  refine Hc.out.mono ?_
  rintro e w' ⟨rfl,rfl⟩
  go_wp2_with fail
  go_ret2
  rw[Hq.out]
  exact⟨rfl,rfl⟩
open Go.RowKit Wf
attribute [local go_sem] fB eF get_list
theorem uk (s:Bytes)(h1:s.isEmpty=false)(h2:s.length≤63)(h3:¬ s[0]? = some 45)(h4:¬ s[s.length - 1]? = some 45):bt s=s.all vu:=by
 unfold bt
 rw[List.getLast?_eq_getElem?,List.head?_eq_getElem?]
 simp[h1,h2,h3,h4]
theorem uD (s:Bytes)(w:World)(hs:s.length≤9223372036854775807) :
 Calls Tryz.prog 191 #[(Value.string ⟨zK4 (s)⟩)] w fun e w'=>e=.returned (.bool (bt s))∧w=w':=by
 cases h1:s.isEmpty
 ·by_cases h2:63<s.length
  ·have Hq:=hid (show bt s=false by unfold bt;simp;omega)
   go_enter Tryz.func191,Tryz.ntmps191
   go_wp2_with fail
   go_ret
   exact⟨a7 Hq.out.symm,rfl⟩
  ·have hl:0<s.length:=by cases s <;> simp at h1 ⊢
   by_cases h3:s[0]=45
   ·have Hq:=hid (show bt s=false by unfold bt;rw[kX hl,h3];simp)
    have hx:((s[0].toNat:Int)==45)=true:=by simp[h3]
    clear h3
    go_enter Tryz.func191,Tryz.ntmps191
    go_wp2_with fail
    go_ret
    exact⟨a7 Hq.out.symm,rfl⟩
   ·have hx:((s[0].toNat:Int)==45)=false:=zn h3
    by_cases h4:s[s.length - 1]=45
    ·have Hq:=hid (show bt s=false by
      unfold bt
      rw[List.getLast?_eq_getElem?,zK6 (by omega),h4];simp)
     have hy:((s[s.length - 1].toNat:Int)==45)=true:=by simp[h4]
     clear h4 h3
     go_enter Tryz.func191,Tryz.ntmps191
     go_wp2_with fail
     go_ret
     exact⟨a7 Hq.out.symm,rfl⟩
    ·have hy:((s[s.length - 1].toNat:Int)==45)=false:=zn h4
     have Hq:=hid (uk s h1 (by omega) (by rw[zK6 hl];simpa using h3) (by rw[zK6 (by omega)];simpa using h4))
     have Bc:decide (63<(s.length:Int))=false:=decide_eq_false (by omega)
     clear h3 h4
     go_enter Tryz.func191,Tryz.ntmps191
     go_wp2_with fail
     go_loop [26] (fun i=>∃ k:Nat,k≤s.length∧i=.int .i64 k∧(s.take k).all vu=true) (fun i=>s.length - (intOf i).toNat)
     case atStart=>exact⟨0,by omega,rfl,rfl⟩
     case round=>(
      obtain⟨k,hk,rfl,aT⟩:=hrel
      have Hall:=hid aT
      clear aT
      by_cases aA:k<s.length
      ·cases hc:vu s[k]
       ·have Ha:=hid (cQ aA hc)
        have hc':=hc
        unfold vu at hc'
        simp only[Bool.or_eq_false_iff]at hc'
        obtain⟨⟨c1,c2⟩,c3⟩:=hc'
        have c4:((s[k].toNat:Int) != 45)=true:=by
         have:s[k]≠45:=by simpa using c3
         rw[bne_iff_ne]
         intro h
         exact this (UInt8.toNat_inj.1 (by simp;omega))
        clear c3 hc
        go_wp2_with (first
         | (go_at_call 197;refine(cJ _ _).mono ?_;rintro e w' ⟨rfl,rfl⟩)
         | (go_at_call 182;refine(bB _ _).mono ?_;rintro e w' ⟨rfl,rfl⟩))
        go_ret
        exact⟨a7 (by rw[Hq.out,Ha.out]),rfl⟩
       ·have Hc:=hid (aS aA Hall.out hc)
        unfold vu at hc
        simp only[Bool.or_eq_true,beq_iff_eq]at hc
        rcases hc with(hc|hc) | hc
        ·go_wp2_with (first
         | (go_at_call 197;refine(cJ _ _).mono ?_;rintro e w' ⟨rfl,rfl⟩)
         | (go_at_call 182;refine(bB _ _).mono ?_;rintro e w' ⟨rfl,rfl⟩))
         go_round
         case rel=>exact⟨k+1,by omega,by go_num,Hc.out⟩
         case measure=>simp[intOf];omega
        ·cases hca:isAlpha s[k]
         all_goals
          go_wp2_with (first
           | (go_at_call 197;refine(cJ _ _).mono ?_;rintro e w' ⟨rfl,rfl⟩)
           | (go_at_call 182;refine(bB _ _).mono ?_;rintro e w' ⟨rfl,rfl⟩))
          go_round
          case rel=>exact⟨k+1,by omega,by go_num,Hc.out⟩
          case measure=>simp[intOf];omega
        ·have c4:((s[k].toNat:Int) != 45)=false:=by simp[hc]
         clear hc
         cases hca:isAlpha s[k] <;> cases qI:isDigit s[k]
         all_goals
          go_wp2_with (first
           | (go_at_call 197;refine(cJ _ _).mono ?_;rintro e w' ⟨rfl,rfl⟩)
           | (go_at_call 182;refine(bB _ _).mono ?_;rintro e w' ⟨rfl,rfl⟩))
          go_round
          case rel=>exact⟨k+1,by omega,by go_num,Hc.out⟩
          case measure=>simp[intOf];omega
      ·have aT:=Hall.out
       rw[zLc (by omega)]at aT
       have Ha:=hid aT
       clear aT Hall
       go_wp2_with fail
       go_ret
       exact⟨a7 (by rw[Hq.out,Ha.out]),rfl⟩)
 ·have Hq:=hid (show bt s=false by unfold bt;simp[h1])
  go_enter Tryz.func191,Tryz.ntmps191
  go_wp2_with fail
  go_ret
  exact⟨a7 Hq.out.symm,rfl⟩
theorem xb (s:Bytes)(w:World)(hE:Env w)(hs:s.length<4294967281) :
 Calls Tryz.prog 167 #[(Value.string ⟨zK4 (s)⟩)] w fun e w'=>e=.returned (.bool (eb s))∧Below w.heap.size w w':=by
 go_enter Tryz.func167,Tryz.ntmps167
 go_wp2_with fail
 go_loopw [0] (fun v wr=>∃ r:Bytes,v=(Value.string ⟨zK4 (r)⟩)∧r.length≤s.length∧Below w.heap.size w wr∧eb r=eb s) (fun v _=>iX v)
 case atStart=>exact⟨s,rfl,by omega,Below.refl _ _,rfl⟩
 case round =>
  obtain⟨r,rfl,hr,hw,heq⟩:=hrel
  have Hw:=hid hw
  have HE:=hid (hE.below hw)
  have Heq:=hid heq
  clear hw heq
  by_cases hp:pre (·==46) r<r.length
  ·have hcut:=hid (show aM 46 r=(r.take (pre (·==46) r),r.drop (pre (·==46) r+1),true) from if_pos hp)
   have sa:eb r=(bt (r.take (pre (·==46) r))&&eb (r.drop (pre (·==46) r+1))):=by
    unfold eb
    rw[cD hp]
    have:=qT 46 (r.drop (pre (·==46) r+1))
    cases nv:aB 46 (r.drop (pre (·==46) r+1)) with
    | nil=>exact absurd nv this
    | cons y l=>rfl
   cases hl:bt (r.take (pre (·==46) r))
   all_goals
    rw[hl]at sa
    have Hnl:=hid (sa.symm.trans Heq.out)
    clear sa
    go_wp2_with fail
    refine(DC r 46 wr HE.out (by omega)).mono ?_
    rintro e w2 ⟨rfl,n,dF⟩
    rw[hcut.out]
    have Hw2:Hid (Below w.heap.size w w2):=hid (by rw[dF];exact below_drewN Hw.out _)
    clear dF
    go_wp2_with (go_at_call 191;refine(uD _ _ (by simp;omega)).mono ?_;rintro e w' ⟨rfl,rfl⟩)
   ·go_ret
    exact⟨a7 Hnl.out,Hw2.out⟩
   ·go_roundw
    case rel=>exact⟨_,rfl,by simp;omega,Hw2.out,Hnl.out⟩
    case measure=>simp[sLen_mk];omega
  ·have hcut:=hid (show aM 46 r=(r,[],false) from if_neg hp)
   have sa:eb r=(bt r&&!bY r):=by unfold eb;rw[bW hp];rfl
   have Hnl:=hid (sa.symm.trans Heq.out)
   clear sa
   cases hl:bt r
   all_goals
    rw[hl]at Hnl
    go_wp2_with fail
    refine(DC r 46 wr HE.out (by omega)).mono ?_
    rintro e w2 ⟨rfl,n,dF⟩
    rw[hcut.out]
    have Hw2:Hid (Below w.heap.size w w2):=hid (by rw[dF];exact below_drewN Hw.out _)
    clear dF
    go_wp2_with (first
     | (go_at_call 191;refine(uD _ _ (by omega)).mono ?_;rintro e w' ⟨rfl,rfl⟩)
     | (go_at_call 192;refine(gZ _ _ (by omega)).mono ?_;rintro e w' ⟨rfl,rfl⟩))
    go_ret
    exact⟨a7 (by have:=Hnl.out;simpa using this),Hw2.out⟩
theorem kf (s:Bytes)(w:World)(hE:Env w)(hs:s.length<4294967281) :
 Calls Tryz.prog 147 #[(Value.string ⟨zK4 (s)⟩)] w fun e w'=>e=.returned (.bool (ipv4 s))∧Below w.heap.size w w':=by
 have hq:ipv4 s=((aB 46 s).length==4&&(aB 46 s).all eP):=rfl
 have nv:=s_Split s 46 w hE hs
 have hlen:∀ x∈aB 46 s,x.length≤s.length:=ig 46 s
 generalize aB 46 s=parts at hq nv hlen
 have Hq:=hid hq
 have Hsp:=hid nv
 have Hlen:=hid hlen
 clear hq nv hlen
 by_cases h4:parts.length=4
 ·have hx:((parts.length:Int) != 4)=false:=by simp[h4]
  go_enter Tryz.func147,Tryz.ntmps147
  go_wp2_with fail
  refine Hsp.out.mono ?_
  rintro e w1 ⟨rfl,gD⟩
  have Hrow:Hid (yX w1 w.heap.size parts):=hid (by rw[gD];have:=yX.alloc w parts [] 9;simpa using this)
  have Hw1:Hid (Below w.heap.size w w1):=hid (by rw[gD];exact(Below.refl _ _).alloc (zLf _) _)
  clear gD
  go_wp2_with fail
  go_loop [15] (fun i=>∃ k:Nat,k≤4∧i=.int .i64 k∧(parts.take k).all eP=true) (fun i=>4 - (intOf i).toNat)
  case atStart=>exact⟨0,by omega,rfl,rfl⟩
  case round =>
   obtain⟨k,hk,rfl,aT⟩:=hrel
   have Hall:=hid aT
   clear aT
   by_cases aA:k<4
   ·have sV:k<parts.length:=by omega
    have gw:=Hrow.out k sV
    have hln:=Hlen.out parts[k] (zLh sV)
    have D4:eP parts[k]=((aW 255 parts[k]).2==0):=rfl
    cases hc:eP parts[k]
    ·have Ha:=hid (cQ sV hc)
     have hn:((aW 255 parts[k]).2 != 0)=true:=by rw[hc]at D4;simp only[bne];rw[← D4];rfl
     clear D4
     go_wp2_with (go_at_call 173;refine(ky _ 255 _ (by omega) (by omega)).mono ?_;rintro e w' ⟨rfl,rfl⟩)
     go_ret
     exact⟨a7 (by rw[Hq.out,Ha.out];simp),Hw1.out⟩
    ·have Hn:=hid (aS sV Hall.out hc)
     have hn:((aW 255 parts[k]).2 != 0)=false:=by rw[hc]at D4;simp only[bne];rw[← D4];rfl
     clear D4
     go_wp2_with (go_at_call 173;refine(ky _ 255 _ (by omega) (by omega)).mono ?_;rintro e w' ⟨rfl,rfl⟩)
     go_round
     case rel=>exact⟨k+1,by omega,by go_num,Hn.out⟩
     case measure=>simp[intOf];omega
   ·have aT:=Hall.out
    rw[zLc (by omega)]at aT
    have Ha:=hid aT
    clear aT Hall
    go_wp2_with fail
    go_ret
    exact⟨a7 (by rw[Hq.out,Ha.out,h4];rfl),Hw1.out⟩
 ·have hx:((parts.length:Int) != 4)=true:=by simp;omega
  go_enter Tryz.func147,Tryz.ntmps147
  go_wp2_with fail
  refine Hsp.out.mono ?_
  rintro e w1 ⟨rfl,gD⟩
  have Hw1:Hid (Below w.heap.size w w1):=hid (by rw[gD];exact(Below.refl _ _).alloc (zLf _) _)
  clear gD
  go_wp2_with fail
  go_ret
  exact⟨a7 (by rw[Hq.out];simp[h4]),Hw1.out⟩
theorem xd (s:Bytes)(w:World)(hE:Env w)(hs:s.length<4294967281) :
 Calls Tryz.prog 140 #[(Value.string ⟨zK4 (s)⟩)] w fun e w'=>e=.returned (.tuple #[(Value.string ⟨zK4 ((bw s).1)⟩),.int .i64 (bw s).2])∧Below w.heap.size w w':=by
 cases h1:s.isEmpty
 ·by_cases h2:253<s.length
  ·have Hq:=hid (show bw s=([],5) by unfold bw;simp[h1,h2])
   go_enter Tryz.func140,Tryz.ntmps140
   go_wp2_with fail
   go_ret2
   rw[Hq.out]
   exact⟨rfl,Below.refl _ _⟩
  ·cases h3:ipv4 s
   ·cases h4:eb s
    ·have Hq:=hid (show bw s=([],50) by unfold bw;simp[h1,h2,h3,h4])
     go_enter Tryz.func140,Tryz.ntmps140
     go_wp2_with (first
      | (go_at_call 147;refine(kf _ _ hE hs).mono ?_;rintro e w1 ⟨rfl,gD⟩)
      | (go_at_call 167;refine(xb _ _ (hE.below ‹_›) hs).mono ?_;rintro e w2 ⟨rfl,dF⟩))
     go_ret2
     rw[Hq.out]
     exact⟨rfl,bl ‹_› ‹_›⟩
    ·have Hq:=hid (show bw s=(lower s,0) by unfold bw;simp[h1,h2,h3,h4])
     go_enter Tryz.func140,Tryz.ntmps140
     go_wp2_with (first
      | (go_at_call 147;refine(kf _ _ hE hs).mono ?_;rintro e w1 ⟨rfl,gD⟩)
      | (go_at_call 167;refine(xb _ _ (hE.below gD) hs).mono ?_;rintro e w2 ⟨rfl,dF⟩)
      | (go_at_call 66;refine(nP _ _ (by omega)).mono ?_;rintro e w3 ⟨rfl,BR⟩))
     go_ret2
     rw[Hq.out]
     exact⟨rfl,bl (bl gD dF) BR⟩
   ·have Hq:=hid (show bw s=(lower s,0) by unfold bw;simp[h1,h2,h3])
    go_enter Tryz.func140,Tryz.ntmps140
    go_wp2_with (first
     | (go_at_call 147;refine(kf _ _ hE hs).mono ?_;rintro e w1 ⟨rfl,gD⟩)
     | (go_at_call 66;refine(nP _ _ (by omega)).mono ?_;rintro e w3 ⟨rfl,BR⟩))
    go_ret2
    rw[Hq.out]
    exact⟨rfl,bl gD BR⟩
 ·have Hq:=hid (show bw s=([],3) by unfold bw;simp[h1])
  go_enter Tryz.func140,Tryz.ntmps140
  go_wp2_with fail
  go_ret2
  rw[Hq.out]
  exact⟨rfl,Below.refl _ _⟩
open Go.RowKit Go.Sort Wf
attribute [local go_sem] fB eF get_list
theorem Fj (s:Bytes)(w:World)(hs:s.length≤9223372036854775807) :
 Calls Tryz.prog 176 #[(Value.string ⟨zK4 (s)⟩)] w fun e w'=>e=.returned (.tuple #[.int .i64 (jb s).1,.int .i64 (jb s).2])∧w=w':=by
 have hle:=lI 65535 s
 have hq:jb s=if (aW 65535 s).2≠0∨(aW 65535 s).1=0 then(0,51) else(((aW 65535 s).1:Int),0):=rfl
 have hc:=ky s 65535 w (by omega) (by omega)
 generalize aW 65535 s=np at hle hq hc
 obtain⟨n,e⟩:=np
 simp only at hle hq hc
 have Hc:=hid hc
 clear hc
 by_cases he:e=0
 ·subst he
  by_cases hn:n=0
  ·rw[if_pos (Or.inr hn)]at hq
   have Hq:=hid hq
   have hx:((n:Int)==0)=true:=by simp[hn]
   clear hq hn
   go_enter Tryz.func176,Tryz.ntmps176
   go_wp2_with fail
   refine Hc.out.mono ?_
   rintro e w' ⟨rfl,rfl⟩
   go_wp2_with fail
   go_ret2
   rw[Hq.out]
   exact⟨rfl,rfl⟩
  ·rw[if_neg (by simp[hn])]at hq
   have Hq:=hid hq
   have hx:((n:Int)==0)=false:=by simp[hn]
   clear hq hn
   go_enter Tryz.func176,Tryz.ntmps176
   go_wp2_with fail
   refine Hc.out.mono ?_
   rintro e w' ⟨rfl,rfl⟩
   go_wp2_with fail
   go_ret2
   rw[Hq.out]
   exact⟨rfl,rfl⟩
 ·rw[if_pos (Or.inl he)]at hq
  have Hq:=hid hq
  have hx:(e != 0)=true:=by simp[he]
  clear hq
  go_enter Tryz.func176,Tryz.ntmps176
  go_wp2_with fail
  refine Hc.out.mono ?_
  rintro e w' ⟨rfl,rfl⟩
  go_wp2_with fail
  go_ret2
  rw[Hq.out]
  exact⟨rfl,rfl⟩
theorem CS (s:Bytes)(w:World)(hE:Env w)(hs:s.length<4294967281) :
 Calls Tryz.prog 151 #[(Value.string ⟨zK4 (s)⟩)] w fun e w'=>e=.returned (.tuple #[.agg #[(Value.string ⟨zK4 ((aH s).1.1)⟩),.int .i64 (aH s).1.2],.int .i64 (aH s).2])∧Below w.heap.size w w':=by
 have dO:=dQ 58 s
 have hct:=fun w hE=>DC s 58 w hE hs
 have hq:aH s=cr (bw (aM 58 s).1) (aM 58 s).2.2 (jb (aM 58 s).2.1):=rfl
 generalize aM 58 s=C at dO hct hq
 obtain⟨first,rest,colon⟩:=C
 simp only at dO hct hq
 have hh:=fun w hE=>xd first w hE (by omega)
 have hp:=fun w=>Fj rest w (by omega)
 generalize bw first=H at hq hh
 generalize jb rest=P at hq hp
 obtain⟨h,e⟩:=H
 obtain⟨p,f⟩:=P
 simp only at hh hp
 have Hct:=hid hct
 have Hh:=hid hh
 have Hp:=hid hp
 clear hct hh hp dO
 have ha:=cw w (.cells #[(Value.string ⟨zK4 ([])⟩),.int .i64 0] 128)
 have yJ:Below w.heap.size w (w.alloc (.cells #[(Value.string ⟨zK4 ([])⟩),.int .i64 0] 128)):=(Below.refl _ _).alloc (zLf _) _
 generalize DY:w.alloc (.cells #[(Value.string ⟨zK4 ([])⟩),.int .i64 0] 128)=wa at ha yJ
 have Ha:=hid ha
 have Hba:=hid yJ
 have Hwa:=hid DY
 clear ha yJ DY
 by_cases he:e=0
 ·subst he
  cases colon
  ·have Hq:=hid (show aH s=((h,0),0) from hq)
   clear hq
   go_enter Tryz.func151,Tryz.ntmps151
   go_wp2_with fail
   rw[Hwa.out]
   refine(Hct.out _ (hE.below Hba.out)).mono ?_
   rintro e w1 ⟨rfl,n,gD⟩
   have Hw1:Hid (Below w.heap.size w w1):=hid (by rw[gD];exact below_drewN Hba.out _)
   have Ha1:Hid (w1.heap[w.heap.size]? = some (.cells #[(Value.string ⟨zK4 ([])⟩),.int .i64 0] 128 (0,0))):=hid (by rw[gD];exact Ha.out)
   clear gD
   go_wp2_with fail
   refine(Hh.out _ (hE.below Hw1.out)).mono ?_
   rintro e w2 ⟨rfl,dF⟩
   have Ha2:=hid ((dF.block _ (bL Ha1.out)).trans Ha1.out)
   have Hw2:=hid (bl Hw1.out dF)
   clear dF
   have aA:=bL Ha2.out
   have c0:=Lib.cell_of_heap Ha2.out 0
   have c1:=Lib.cell_of_heap Ha2.out 1
   have z0:=Lib.frozen_of_heap Ha2.out 0
   have z1:=Lib.frozen_of_heap Ha2.out 1
   go_wp2_with fail
   refine bodyPost_ret (v:=.tuple #[.agg #[(Value.string ⟨zK4 (h)⟩),.int .i64 0],.int .i64 0]) (by simp[results,Tryz.results151,go_sem,c0,c1,aA]) rfl ⟨?_,?_⟩
   ·rw[Hq.out]
   ·repeat (first|exact Hw2.out | (refine Below.setCell (p:=⟨_,_,none⟩) ?_ (by simp <;> omega) _) | (refine Below.alloc ?_ (by simp <;> omega) _) | refine Below.drew ?_)
  ·by_cases hf:f=0
   ·subst hf
    by_cases my:p=443
    ·have Hq:=hid (show aH s=((h,0),0) by rw[hq];unfold cr;simp[my])
     have hx:(p==443)=true:=by simp[my]
     clear hq my
     go_enter Tryz.func151,Tryz.ntmps151
     go_wp2_with fail
     rw[Hwa.out]
     refine(Hct.out _ (hE.below Hba.out)).mono ?_
     rintro e w1 ⟨rfl,n,gD⟩
     have Hw1:Hid (Below w.heap.size w w1):=hid (by rw[gD];exact below_drewN Hba.out _)
     have Ha1:Hid (w1.heap[w.heap.size]? = some (.cells #[(Value.string ⟨zK4 ([])⟩),.int .i64 0] 128 (0,0))):=hid (by rw[gD];exact Ha.out)
     clear gD
     go_wp2_with fail
     refine(Hh.out _ (hE.below Hw1.out)).mono ?_
     rintro e w2 ⟨rfl,dF⟩
     have Ha2:=hid ((dF.block _ (bL Ha1.out)).trans Ha1.out)
     have Hw2:=hid (bl Hw1.out dF)
     clear dF
     have aA:=bL Ha2.out
     have c0:=Lib.cell_of_heap Ha2.out 0
     have c1:=Lib.cell_of_heap Ha2.out 1
     have z0:=Lib.frozen_of_heap Ha2.out 0
     have z1:=Lib.frozen_of_heap Ha2.out 1
     go_wp2_with (go_at_call 176;refine(Hp.out _).mono ?_;rintro e w3 ⟨rfl,rfl⟩)
     refine bodyPost_ret (v:=.tuple #[.agg #[(Value.string ⟨zK4 (h)⟩),.int .i64 0],.int .i64 0]) (by simp[results,Tryz.results151,go_sem,c0,c1,aA]) rfl ⟨?_,?_⟩
     ·rw[Hq.out]
     ·repeat (first|exact Hw2.out | (refine Below.setCell (p:=⟨_,_,none⟩) ?_ (by simp <;> omega) _) | (refine Below.alloc ?_ (by simp <;> omega) _) | refine Below.drew ?_)
    ·have Hq:=hid (show aH s=((h,p),0) by rw[hq];unfold cr;simp[my])
     have hx:(p==443)=false:=by simp[my]
     clear hq my
     go_enter Tryz.func151,Tryz.ntmps151
     go_wp2_with fail
     rw[Hwa.out]
     refine(Hct.out _ (hE.below Hba.out)).mono ?_
     rintro e w1 ⟨rfl,n,gD⟩
     have Hw1:Hid (Below w.heap.size w w1):=hid (by rw[gD];exact below_drewN Hba.out _)
     have Ha1:Hid (w1.heap[w.heap.size]? = some (.cells #[(Value.string ⟨zK4 ([])⟩),.int .i64 0] 128 (0,0))):=hid (by rw[gD];exact Ha.out)
     clear gD
     go_wp2_with fail
     refine(Hh.out _ (hE.below Hw1.out)).mono ?_
     rintro e w2 ⟨rfl,dF⟩
     have Ha2:=hid ((dF.block _ (bL Ha1.out)).trans Ha1.out)
     have Hw2:=hid (bl Hw1.out dF)
     clear dF
     have aA:=bL Ha2.out
     have c0:=Lib.cell_of_heap Ha2.out 0
     have c1:=Lib.cell_of_heap Ha2.out 1
     have z0:=Lib.frozen_of_heap Ha2.out 0
     have z1:=Lib.frozen_of_heap Ha2.out 1
     go_wp2_with (go_at_call 176;refine(Hp.out _).mono ?_;rintro e w3 ⟨rfl,rfl⟩)
     refine bodyPost_ret (v:=.tuple #[.agg #[(Value.string ⟨zK4 (h)⟩),.int .i64 p],.int .i64 0]) (by simp[results,Tryz.results151,go_sem,c0,c1,aA]) rfl ⟨?_,?_⟩
     ·rw[Hq.out]
     ·repeat (first|exact Hw2.out | (refine Below.setCell (p:=⟨_,_,none⟩) ?_ (by simp <;> omega) _) | (refine Below.alloc ?_ (by simp <;> omega) _) | refine Below.drew ?_)
   ·have Hq:=hid (show aH s=(([],0),f) by rw[hq];unfold cr;simp[hf])
    have hx:(f != 0)=true:=by simp[hf]
    clear hq hf
    go_enter Tryz.func151,Tryz.ntmps151
    go_wp2_with fail
    rw[Hwa.out]
    refine(Hct.out _ (hE.below Hba.out)).mono ?_
    rintro e w1 ⟨rfl,n,gD⟩
    have Hw1:Hid (Below w.heap.size w w1):=hid (by rw[gD];exact below_drewN Hba.out _)
    have Ha1:Hid (w1.heap[w.heap.size]? = some (.cells #[(Value.string ⟨zK4 ([])⟩),.int .i64 0] 128 (0,0))):=hid (by rw[gD];exact Ha.out)
    clear gD
    go_wp2_with fail
    refine(Hh.out _ (hE.below Hw1.out)).mono ?_
    rintro e w2 ⟨rfl,dF⟩
    have Ha2:=hid ((dF.block _ (bL Ha1.out)).trans Ha1.out)
    have Hw2:=hid (bl Hw1.out dF)
    clear dF
    have aA:=bL Ha2.out
    have c0:=Lib.cell_of_heap Ha2.out 0
    have c1:=Lib.cell_of_heap Ha2.out 1
    have z0:=Lib.frozen_of_heap Ha2.out 0
    have z1:=Lib.frozen_of_heap Ha2.out 1
    go_wp2_with (go_at_call 176;refine(Hp.out _).mono ?_;rintro e w3 ⟨rfl,rfl⟩)
    refine bodyPost_ret (v:=.tuple #[.agg #[(Value.string ⟨zK4 ([])⟩),.int .i64 0],.int .i64 f]) (by simp[results,Tryz.results151,go_sem,c0,c1,aA]) rfl ⟨?_,?_⟩
    ·rw[Hq.out]
    ·repeat (first|exact Hw2.out | (refine Below.setCell (p:=⟨_,_,none⟩) ?_ (by simp <;> omega) _) | (refine Below.alloc ?_ (by simp <;> omega) _) | refine Below.drew ?_)
 ·have hx:(e != 0)=true:=by simp[he]
  have Hq:=hid (show aH s=(([],0),e) by rw[hq];unfold cr;rw[if_pos he])
  clear hq he
  go_enter Tryz.func151,Tryz.ntmps151
  go_wp2_with fail
  rw[Hwa.out]
  refine(Hct.out _ (hE.below Hba.out)).mono ?_
  rintro e w1 ⟨rfl,n,gD⟩
  have Hw1:Hid (Below w.heap.size w w1):=hid (by rw[gD];exact below_drewN Hba.out _)
  have Ha1:Hid (w1.heap[w.heap.size]? = some (.cells #[(Value.string ⟨zK4 ([])⟩),.int .i64 0] 128 (0,0))):=hid (by rw[gD];exact Ha.out)
  clear gD
  go_wp2_with fail
  refine(Hh.out _ (hE.below Hw1.out)).mono ?_
  rintro e w2 ⟨rfl,dF⟩
  have Ha2:=hid ((dF.block _ (bL Ha1.out)).trans Ha1.out)
  have Hw2:=hid (bl Hw1.out dF)
  clear dF
  have aA:=bL Ha2.out
  have c0:=Lib.cell_of_heap Ha2.out 0
  have c1:=Lib.cell_of_heap Ha2.out 1
  have z0:=Lib.frozen_of_heap Ha2.out 0
  have z1:=Lib.frozen_of_heap Ha2.out 1
  go_wp2_with fail
  refine bodyPost_ret (v:=.tuple #[.agg #[(Value.string ⟨zK4 ([])⟩),.int .i64 0],.int .i64 e]) (by simp[results,Tryz.results151,go_sem,c0,c1]) rfl ⟨?_,?_⟩
  ·rw[Hq.out]
  ·repeat (first|exact Hw2.out | (refine Below.setCell (p:=⟨_,_,none⟩) ?_ (by simp <;> omega) _) | (refine Below.alloc ?_ (by simp <;> omega) _) | refine Below.drew ?_)
theorem EK (B a:Nat)(ha:a≤19)(W:World):(Instr.sliceAt 189 (.pointer (some ⟨B,0,none⟩)) (some (.int .i64 a)) none none).run Tryz.prog W=.ok (.slice (some ⟨B,a,none⟩) (20 - a) (20 - a)) W:=by
 have h20:Tryz.prog.arrayLen 189=20:=by kernel_rfl
 have he:Tryz.prog.elem 189=5:=by kernel_rfl
 have hu:Tryz.prog.underlying 189=some (.array (Tryz.prog.arrayLen 189) (Tryz.prog.elem 189)):=by kernel_rfl
 rw[run_sliceAt_array_l W _ ⟨B,0,none⟩ hu .i64 a (by omega) (by rw[h20];omega),he,h20,Tryz.sizeOf5]
 have:¬ (20=a):=by omega
 simp[Result.andThen,slicedAt,BJ,this]
theorem kz (n:Nat)(w:World)(hn:n≤18446744073709551615) :
 Calls Tryz.prog 180 #[.int .u64 n] w fun e w'=>e=.returned (Value.string ⟨zK4 (cG n)⟩)∧Below w.heap.size w w':=by
 have hlen:(cG n).length≤20:=dB 19 n (by omega)
 go_enter Tryz.func180,Tryz.ntmps180
 go_wp2_with fail
 go_loopw [0,4] (fun v i wr=>∃ (k a:Nat) (x ds:Bytes),v=.int .u64 k∧i=.int .i64 a∧k≤18446744073709551615∧a≤19∧jf wr w.heap.size (x++ds)∧x.length=a+1∧ds.length=19 - a∧cG k++ds=cG n∧(cG k).length≤a+1∧Below w.heap.size w wr) (fun v _ _=>(intOf v).toNat)
 case atStart =>
  refine⟨n,19,List.replicate 20 0,[],rfl,rfl,hn,by omega,?_,by simp,rfl,by simp,hlen,(Below.refl _ _).alloc (zLf _) _⟩
  exact⟨[],_,(0,0),cw _ _,Or.inr (by simp)⟩
 case round =>
  obtain⟨k,a,x,ds,rfl,rfl,hk,ha,gE,hx,hds,heq,hl,hw⟩:=hrel
  obtain⟨y,z,rfl,hy⟩:=snoc_of hx
  have e:y++[z]++ds=y++z::ds:=by simp
  rw[e]at gE
  obtain⟨cv,gw⟩:∃ q:Int,wr.cell? ⟨w.heap.size,a,none⟩=some (.int .u8 q):=⟨_,gE.cell (k:=a) (by simp;omega)⟩
  have sX:=gE.frozen (k:=a) (by simp;omega)
  have Hrow:=hid gE
  have Heq:=hid heq
  have Hw:=hid hw
  have Hy:=hid hy
  have Hds:=hid hds
  clear gE heq hw hy hds hx e
  by_cases fc:k<10
  ·have om:=Hrow.out.set (k:=a) (by have:=Hy.out;simp;omega) (sg k)
   have iu:(y++z::ds).set a (sg k)=y++(sg k)::ds:=by rw[← Hy.out];exact Dv y z _ ds
   rw[iu,nJ fc]at om
   have jd:=fun cap=>om.backAt Hy.out cap
   have pb:((sg k)::ds).length=20 - a:=by have:=Hds.out;simp;omega
   rw[pb]at jd
   have Hds2:=hid (show cG n=(sg k)::ds by rw[← Heq.out,gg fc];rfl)
   have w9:=EK w.heap.size a ha
   clear om iu pb
   go_wp2_with fail
   go_ret
   exact⟨lF Hds2.out.symm,Hw.out.setCell (p:=⟨w.heap.size,a,none⟩) (zLf _) _⟩
  ·have om:=Hrow.out.set (k:=a) (by have:=Hy.out;simp;omega) (sg (k % 10))
   have iu:(y++z::ds).set a (sg (k % 10))=y++(sg (k % 10))::ds:=by rw[← Hy.out];exact Dv y z _ ds
   rw[iu,nJ (show k % 10<10 by omega)]at om
   have Hst:=hid om
   have Heq2:=hid (show cG (k / 10)++(sg (k % 10))::ds=cG n by rw[← Heq.out,lg fc];simp)
   have gF:=mi fc
   have hp2:=ZZ5 (k / 10)
   have Hl2:=hid gF
   clear om iu gF
   go_wp2_with fail
   have h1:=Hl2.out
   refine⟨⟨k / 10,a - 1,y,_,congrArg (Value.int .u64) (by omega),congrArg (Value.int .i64) (by omega),by omega,by omega,Hst.out,by have:=Hy.out;omega,by have:=Hds.out;simp;omega,Heq2.out,by omega,Hw.out.setCell (p:=⟨w.heap.size,a,none⟩) (zLf _) _⟩,?_⟩
   simp[intOf];omega
theorem neg_u64 (p:Int)(h:p<0)(h1:-9223372036854775808≤p):IntKind.u64.wrap (-(IntKind.u64.wrap p))=(p.natAbs:Int):=by
 simp only[IntKind.wrap,IntKind.signed,IntKind.bits]
 simp
 omega
theorem A2 (h:Bytes)(p:Int)(w:World)(hh:h.length≤4611686018427387904)(h1:-9223372036854775808≤p)(h2:p≤9223372036854775807) :
 Calls Tryz.prog 153 #[.agg #[(Value.string ⟨zK4 (h)⟩),.int .i64 p]] w fun e w'=>e=.returned (Value.string ⟨zK4 (bc h p)⟩)∧Below w.heap.size w w':=by
 have ha:=cw w (.cells #[(Value.string ⟨zK4 (h)⟩),.int .i64 p] 128)
 have yJ:Below w.heap.size w (w.alloc (.cells #[(Value.string ⟨zK4 (h)⟩),.int .i64 p] 128)):=(Below.refl _ _).alloc (zLf _) _
 generalize DY:w.alloc (.cells #[(Value.string ⟨zK4 (h)⟩),.int .i64 p] 128)=wa at ha yJ
 have aA:=bL ha
 have c0:wa.cell? ⟨w.heap.size,0,none⟩=some (Value.string ⟨zK4 (h)⟩):=Lib.cell_of_heap ha 0
 have c1:wa.cell? ⟨w.heap.size,1,none⟩=some (.int .i64 p):=Lib.cell_of_heap ha 1
 have Hba:=hid yJ
 have Hwa:=hid DY
 clear ha yJ DY
 by_cases h0:p=0
 ·subst h0
  have Hq:=hid (show bc h 0=h from if_pos rfl)
  go_enter Tryz.func153,Tryz.ntmps153
  go_wp2_with fail
  rw[Hwa.out]
  go_wp2_with fail
  go_ret
  exact⟨lF Hq.out.symm,Hba.out⟩
 ·have hx:(p==0)=false:=by simp[h0]
  by_cases CU:p<0
  ·have Hq:=hid (show bc h p=h++[58,45]++cG p.natAbs by unfold bc;rw[if_neg h0,if_pos CU])
   clear h0
   go_enter Tryz.func153,Tryz.ntmps153
   go_wp2_with fail
   rw[Hwa.out]
   go_wp2_with fail
   have hd:=dB 19 p.natAbs (by omega)
   have hu:=neg_u64 p CU h1
   have n1:¬ 9223372036854775807<h.length+2:=by omega
   have n2:¬ 9223372036854775807<h.length+2+(cG p.natAbs).length:=by omega
   have Fh:p.natAbs≤18446744073709551615:=by omega
   have k0:=cell_regrown c0
   have k1:=cell_regrown c1
   clear c0 c1 hx
   refine wp_region_quiet_below (by kernel_rfl) (by kernel_rfl) ?_
   repeat (quiet_step ((go_at_call 180;exact Calls.regrown_of (kz _ _ Fh))))
   refine wpQuiet_nil ?_
   intro _ hw'
   obtain⟨⟨dq,osq⟩,hw''⟩:=hw'
   subst hw''
   have y9:=below_regrown wa dq osq
   generalize grow (redrawn wa dq) osq=wq at y9 ⊢
   clear hu n1 n2 k0 k1
   go_wp2_with fail
   go_ret
   exact⟨lF (by rw[Hq.out];simp),bl Hba.out y9⟩
  ·have Hq:=hid (show bc h p=h++[58]++cG p.natAbs by unfold bc;rw[if_neg h0,if_neg CU])
   clear h0
   go_enter Tryz.func153,Tryz.ntmps153
   go_wp2_with fail
   rw[Hwa.out]
   go_wp2_with fail
   have hd:=dB 19 p.natAbs (by omega)
   have hu:IntKind.u64.wrap p=(p.natAbs:Int):=(u64_in (show 0≤p by omega) h2).trans (by omega)
   have n1:¬ 9223372036854775807<h.length+1:=by omega
   have n2:¬ 9223372036854775807<h.length+1+(cG p.natAbs).length:=by omega
   have Fh:p.natAbs≤18446744073709551615:=by omega
   have k0:=cell_regrown c0
   have k1:=cell_regrown c1
   clear c0 c1 hx
   refine wp_region_quiet_below (by kernel_rfl) (by kernel_rfl) ?_
   repeat (quiet_step ((go_at_call 180;exact Calls.regrown_of (kz _ _ Fh))))
   refine wpQuiet_nil ?_
   intro _ hw'
   obtain⟨⟨dq,osq⟩,hw''⟩:=hw'
   subst hw''
   have y9:=below_regrown wa dq osq
   generalize grow (redrawn wa dq) osq=wq at y9 ⊢
   clear hu n1 n2 k0 k1
   go_wp2_with fail
   go_ret
   exact⟨lF (by rw[Hq.out];simp),bl Hba.out y9⟩
end Go.Proofs.YteipdaijbncgeaaGreatDoor
namespace Wf
open Go Go.RowKit
theorem owns_lt {w:World}{base:Nat}{e:TypeId}{size:Nat}{v:Value}{n:Nat}{xs:List Value}(h:w.ownsRow base e size v n xs):∀ k,v.ownBlock=some k→base≤k∧k<w.heap.size :=
 (World.ownsRowF_of h).lt
theorem wp_append_one {P:Program}{ops:Array Oper}{rest:List Oper}{o:Oper}{a:Act}{Q:Exit→Act→World→Prop}{w0:World}(hgd:o.guard=none)(s x:Operand)(t:TypeId)
 (ho:o.op=.call { callee:=.builtin .append,args:=#[s,x],argTypes:=#[t,t] }) (e:TypeId) (z:Value) (bytes:Nat) (ht:P.underlying t=some (.slice e))
 (hinfo:(P.info? e).map (fun i=>(i.zero,i.size,i.bytes))=some (some z,1,bytes)) (uA:z.cells.size=1)
 (B:Nat) (v:Value) (n:Nat) (xs:List Value) (hs:a.eval s=v) (oo:w0.ownsRow B e 1 v n xs) (u:Value) (T:TypeId)
 (hx:a.eval x=.slice (some ⟨w0.heap.size,0,none⟩) 1 1) (h1:u.oneCell'=true) (sF:n+1≤maxLen) (rp:(n+1) * bytes≤140737488355328) (hB:B≤w0.heap.size)
 (h:∀ v' w',w'.ownsRow B e 1 v' (n+1) (xs++[u])→Below B w0 w'→wpList P ops Q rest (a.put o.dst v') w'):wpList P ops Q (o::rest) a (w0.alloc (.cells #[u] T)):=by
 obtain⟨i,hi,AV,lL,FZ⟩:=info_parts hinfo
 refine wpList_append_own _ hgd s x t ho B e i z 1 bytes ht hi AV lL FZ uA (by decide) v n xs hs (oo.alloc _) ⟨w0.heap.size,0,none⟩ 1 1 [u] hx rfl ?_ ?_ sF rp (by simp;omega) ?_
 ·intro j y hy
  rcases j with _|j
  ·simp at hy;subst hy
   exact Go.Lib.cell_of_heap (cw _ _) 0
  ·simp at hy
 ·intro y hy;simp at hy;subst hy;exact h1
 ·intro v' w' h2 h3 _
  exact h v' w' h2 (((Below.refl B w0).alloc hB _).grown h3 (by simp;omega) (fun k hk=>(owns_lt oo k hk).1))
theorem tU {w:World}{B:Nat}{e:TypeId}{v:Value}{n:Nat}{xs:List Value}(h:w.ownsRow B e 1 v n xs)(hn:0<n) :
 ∃ g cap,v=.slice (some ⟨g,0,none⟩) n cap∧B≤g∧g<w.heap.size∧n≤cap∧cap≤maxLen∧xs.length=n∧∀ j,j<n→w.cell? ⟨g,j,none⟩=xs[j]? := by
 obtain⟨h1,h2⟩:=h
 rcases h2 with⟨_,h0⟩|⟨g,cap,cur,rfl,hg,hh,hc,hm,kC,ht⟩
 ·omega
 ·refine⟨g,cap,rfl,hg,(Array.getElem?_eq_some_iff.1 hh).1,hc,hm,by simpa using h1,fun j hj=>?_⟩
  have:=World.ownsRow.cellAt (w:=w) (base:=B) (e:=e) (size:=1) (g:=g) (n:=n) (cap:=cap) (xs:=xs) ⟨h1,.inr ⟨g,cap,cur,rfl,hg,hh,hc,hm,kC,ht⟩⟩ j (by omega)
  exact this
theorem Gh {a b:UInt8}(h:a≠b):((a.toNat:Int) != (b.toNat:Int))=true:=by
 rw[bne_iff_ne];intro e;exact h (UInt8.toNat_inj.1 (by omega))
end Wf
namespace Go.Proofs.YteipdaijbncgeaaGreatDoor
open Go.RowKit Go.Sort Wf
attribute [local go_sem] fB eF get_list
def RetStrs (w:World)(l:List Bytes)(e:Ending)(w':World):Prop:=∃ v,e=.returned v∧w'.ownsRow w.heap.size 9 1 v l.length (l.map lB)∧Below w.heap.size w w'
theorem Tryz.DS:(Tryz.prog.info? 9).map (fun i=>(i.zero,i.size,i.bytes))=some (some (Value.string ⟨zK4 ([])⟩),1,16):=by kernel_rfl
theorem rQ (s:Bytes)(c:UInt8)(w:World)(hs:s.length≤1000000000) :
 Calls Tryz.prog 95 #[(Value.string ⟨zK4 (s)⟩),.int .u8 c.toNat] w (RetStrs w (aB c s)):=by
 go_enter Tryz.func95,Tryz.ntmps95
 go_wp2_with fail
 go_loopw [5,6,7] (fun v f i wr=>∃ (L:List Bytes) (a k:Nat),f=.int .i64 a∧i=.int .i64 k∧a≤k∧k≤s.length∧k - a≤pre (·==c) (s.drop a)∧wr.ownsRow w.heap.size 9 1 v L.length (L.map lB)∧L.length≤a∧L++aB c (s.drop a)=aB c s∧Below w.heap.size w wr) (fun _ _ i _=>s.length - (intOf i).toNat)
 case atStart=>exact⟨[],0,0,rfl,rfl,by omega,by omega,by omega,World.ownsRow_nil _ _ _ _,by simp,rfl,Below.refl _ _⟩
 case round =>
  obtain⟨L,a,k,rfl,rfl,hak,hks,dz,oo,hLa,heq,hw⟩:=hrel
  have Hown:=hid oo
  have Heq:=hid heq
  have Hw:=hid hw
  have Hpre:=hid dz
  clear oo heq hw dz
  by_cases aA:k<s.length
  ·have pb:(s.drop a).length=s.length - a:=by simp
   by_cases hc:s[k]=c
   ·have hx:=u8_eq hc
    have hp:pre (·==c) (s.drop a)=k - a:=by
     have h1:=Hpre.out
     rcases Nat.lt_or_ge (k - a) (pre (·==c) (s.drop a)) with h|h
     ·have:=gN h (by omega)
      rw[List.getElem_drop]at this
      simp only[show a+(k - a)=k by omega]at this
      rw[hc]at this
      simp at this
     ·omega
    have hh:aB c (s.drop a)=(s.drop a).take (k - a)::aB c (s.drop (k+1)):=by
     have:=cD (c:=c) (s:=s.drop a) (by omega)
     rw[hp,List.drop_drop,show a+(k - a+1)=k+1 by omega]at this
     exact this
    have w9:List.drop a (List.take k s)=(s.drop a).take (k - a):=by rw[List.drop_take]
    have Hn:Hid ((L++[List.drop a (List.take k s)])++aB c (s.drop (k+1))=aB c s):=hid (by rw[← Heq.out,hh,w9];simp)
    clear hc hp hh w9 pb
    have hwl:=hid (Hw.out.size)
    go_wp2_with (at_builtin;refine wp_append_one rfl _ _ 142 rfl 9 (Value.string ⟨zK4 ([])⟩) 16 Tryz.underlying142 Tryz.DS rfl w.heap.size _ L.length (L.map lB) rfl Hown.out (lB (List.drop a (List.take k s))) _ rfl rfl (by unfold maxLen;omega) (by omega) hwl.out ?_;intro v' w' hown' hb')
    go_roundw
    case rel=>exact⟨L++[List.drop a (List.take k s)],k+1,k+1,by go_num,by go_num,by omega,by omega,by omega,by simpa using hown',by simp;omega,Hn.out,Hw.out.trans hb'⟩
    case measure=>simp[intOf];omega
   ·have hx:=zn hc
    have Hp:Hid (k+1 - a≤pre (·==c) (s.drop a)):=hid (by
     have h1:=Hpre.out
     rcases Nat.lt_or_ge (k - a) (pre (·==c) (s.drop a)) with h|h
     ·omega
     ·have hq:pre (·==c) (s.drop a)=k - a:=by omega
      have:=fZ (p:=(·==c)) (l:=s.drop a) (by omega)
      simp only[hq,List.getElem_drop,show a+(k - a)=k by omega]at this
      exact absurd (by simpa using this) hc)
    clear hc pb
    go_wp2_with fail
    go_roundw
    case rel=>exact⟨L,a,k+1,rfl,by go_num,by omega,by omega,Hp.out,Hown.out,by omega,Heq.out,Hw.out⟩
    case measure=>simp[intOf];omega
  ·have hm:=bW (c:=c) (s:=s.drop a) (by have:=Hpre.out;simp;omega)
   have Hn:Hid (L++[s.drop a]=aB c s):=hid (by rw[← Heq.out,hm])
   clear hm
   have hwl:=hid (Hw.out.size)
   go_wp2_with (at_builtin;refine wp_append_one rfl _ _ 142 rfl 9 (Value.string ⟨zK4 ([])⟩) 16 Tryz.underlying142 Tryz.DS rfl w.heap.size _ L.length (L.map lB) rfl Hown.out (lB (s.drop a)) _ rfl rfl (by unfold maxLen;omega) (by omega) hwl.out ?_;intro v' w' hown' hb')
   go_ret
   exact⟨v',rfl,by rw[← Hn.out];simpa using hown',Hw.out.trans hb'⟩
theorem rP (s:Bytes)(w:World)(hs:s.length≤9223372036854775807) :
 Calls Tryz.prog 126 #[(Value.string ⟨zK4 (s)⟩)] w fun e w'=>e=.returned (.bool (bt s))∧w=w':=by
 go_enter Tryz.func126,Tryz.ntmps126
 go_wp2_with fail
 go_loop [3] (fun i=>∃ k:Nat,k≤s.length∧i=.int .i64 k∧(s.take k).all vu=true) (fun i=>s.length - (intOf i).toNat)
 case atStart=>exact⟨0,by omega,rfl,rfl⟩
 case round =>
  obtain⟨k,hk,rfl,aT⟩:=hrel
  have Hall:=hid aT
  clear aT
  by_cases aA:k<s.length
  ·cases hc:vu s[k]
   ·have Ha:=hid (show bt s=false by unfold bt;rw[cQ aA hc];simp)
    have hc':=hc
    unfold vu at hc'
    simp only[Bool.or_eq_false_iff]at hc'
    obtain⟨⟨c1,c2⟩,c3⟩:=hc'
    have c4:((s[k].toNat:Int) != 45)=true:=by
     have:s[k]≠45:=by simpa using c3
     rw[bne_iff_ne]
     intro h
     exact this (UInt8.toNat_inj.1 (by simp;omega))
    clear c3 hc
    go_wp2_with (first
     | (go_at_call 93;refine(iE _ _).mono ?_;rintro e w' ⟨rfl,rfl⟩)
     | (go_at_call 94;refine(df _ _).mono ?_;rintro e w' ⟨rfl,rfl⟩))
    go_ret
    exact⟨a7 Ha.out.symm,rfl⟩
   ·have Hc:=hid (aS aA Hall.out hc)
    unfold vu at hc
    simp only[Bool.or_eq_true,beq_iff_eq]at hc
    rcases hc with(hc|hc) | hc
    ·go_wp2_with (first
     | (go_at_call 93;refine(iE _ _).mono ?_;rintro e w' ⟨rfl,rfl⟩)
     | (go_at_call 94;refine(df _ _).mono ?_;rintro e w' ⟨rfl,rfl⟩))
     go_round
     case rel=>exact⟨k+1,by omega,by go_num,Hc.out⟩
     case measure=>simp[intOf];omega
    ·cases hca:isAlpha s[k]
     all_goals
      go_wp2_with (first
       | (go_at_call 93;refine(iE _ _).mono ?_;rintro e w' ⟨rfl,rfl⟩)
       | (go_at_call 94;refine(df _ _).mono ?_;rintro e w' ⟨rfl,rfl⟩))
      go_round
      case rel=>exact⟨k+1,by omega,by go_num,Hc.out⟩
      case measure=>simp[intOf];omega
    ·have c4:((s[k].toNat:Int) != 45)=false:=by simp[hc]
     clear hc
     cases hca:isAlpha s[k] <;> cases qI:isDigit s[k]
     all_goals
      go_wp2_with (first
       | (go_at_call 93;refine(iE _ _).mono ?_;rintro e w' ⟨rfl,rfl⟩)
       | (go_at_call 94;refine(df _ _).mono ?_;rintro e w' ⟨rfl,rfl⟩))
      go_round
      case rel=>exact⟨k+1,by omega,by go_num,Hc.out⟩
      case measure=>simp[intOf];omega
  ·have aT:=Hall.out
   rw[zLc (by omega)]at aT
   have Ha:=hid aT
   clear aT Hall
   cases h1:s.isEmpty
   ·by_cases h2:63<s.length
    ·have Hq:=hid (show bt s=false by unfold bt;simp;omega)
     go_wp2_with fail
     go_ret
     exact⟨a7 Hq.out.symm,rfl⟩
    ·have hl:0<s.length:=by cases s <;> simp at h1 ⊢
     have h2':s.length≤63:=by omega
     by_cases h3:s[0]=45
     ·have Hq:=hid (show bt s=false by unfold bt;rw[kX hl,h3];simp)
      have hx:((s[0].toNat:Int) != 45)=false:=by simp[h3]
      clear h3
      go_wp2_with fail
      go_ret
      exact⟨a7 Hq.out.symm,rfl⟩
     ·have hx:((s[0].toNat:Int) != 45)=true:=Gh h3
      by_cases h4:s[s.length - 1]=45
      ·have Hq:=hid (show bt s=false by
        unfold bt
        rw[List.getLast?_eq_getElem?,zK6 (by omega),h4];simp)
       have hy:((s[s.length - 1].toNat:Int) != 45)=false:=by simp[h4]
       clear h4 h3
       go_wp2_with fail
       go_ret
       exact⟨a7 Hq.out.symm,rfl⟩
      ·have hy:((s[s.length - 1].toNat:Int) != 45)=true:=Gh h4
       have Hq:=hid ((uk s h1 (by omega) (by rw[zK6 hl];simpa using h3) (by rw[zK6 (by omega)];simpa using h4)).trans Ha.out)
       clear h3 h4
       go_wp2_with fail
       go_ret
       exact⟨a7 Hq.out.symm,rfl⟩
   ·have Hq:=hid (show bt s=false by unfold bt;simp[h1])
    go_wp2_with fail
    go_ret
    exact⟨a7 Hq.out.symm,rfl⟩
theorem ji (s:Bytes)(w:World)(hs:s.length≤1000000000) :
 Calls Tryz.prog 74 #[(Value.string ⟨zK4 (s)⟩)] w fun e w'=>e=.returned (.bool (ipv4 s))∧Below w.heap.size w w':=by
 have hq:ipv4 s=((aB 46 s).length==4&&(aB 46 s).all eP):=rfl
 have nv:=rQ s 46 w hs
 have hlen:∀ x∈aB 46 s,x.length≤s.length:=ig 46 s
 have bk:=qT 46 s
 generalize aB 46 s=parts at hq nv hlen bk
 have CP:=List.length_pos_iff.2 bk
 have Hq:=hid hq
 have Hsp:=hid nv
 have Hlen:=hid hlen
 clear hq nv hlen bk
 go_enter Tryz.func74,Tryz.ntmps74
 go_wp2_with fail
 refine Hsp.out.mono ?_
 rintro e w1 ⟨v,rfl,oo,gD⟩
 obtain⟨g,cap,rfl,hg,hgl,kF,vy,_,ga⟩:=tU oo CP
 have Hw1:=hid gD
 have Hcells:=hid ga
 unfold maxLen at vy
 clear gD ga oo
 go_wp2_with fail
 go_loop [12] (fun i=>∃ k:Nat,k≤parts.length∧i=.int .i64 k∧(parts.take k).all eP=true) (fun i=>parts.length - (intOf i).toNat)
 case atStart=>exact⟨0,by omega,rfl,rfl⟩
 case round =>
  obtain⟨k,hk,rfl,aT⟩:=hrel
  have Hall:=hid aT
  clear aT
  by_cases aA:k<parts.length
  ·have gw:w1.cell? ⟨g,k,none⟩=some (Value.string ⟨zK4 (parts[k])⟩):=by
    rw[Hcells.out k aA]
    simp[aA,lB]
   have hln:=Hlen.out parts[k] (zLh aA)
   have D4:eP parts[k]=((aW 255 parts[k]).2==0):=rfl
   cases hc:eP parts[k]
   ·have Ha:=hid (cQ aA hc)
    have hn:((aW 255 parts[k]).2 != 0)=true:=by rw[hc]at D4;simp only[bne];rw[← D4];rfl
    clear D4
    go_wp2_with (go_at_call 97;refine(lG _ 255 _ (by omega) (by omega)).mono ?_;rintro e w' ⟨rfl,rfl⟩)
    go_ret
    exact⟨a7 (by rw[Hq.out,Ha.out];simp),Hw1.out⟩
   ·have Hn:=hid (aS aA Hall.out hc)
    have hn:((aW 255 parts[k]).2 != 0)=false:=by rw[hc]at D4;simp only[bne];rw[← D4];rfl
    clear D4
    go_wp2_with (go_at_call 97;refine(lG _ 255 _ (by omega) (by omega)).mono ?_;rintro e w' ⟨rfl,rfl⟩)
    go_round
    case rel=>exact⟨k+1,by omega,by go_num,Hn.out⟩
    case measure=>simp[intOf];omega
  ·have aT:=Hall.out
   rw[zLc (by omega)]at aT
   have Ha:=hid aT
   clear aT Hall
   go_wp2_with fail
   go_ret
   exact⟨a7 (by rw[Hq.out,Ha.out,Bool.and_true,Bool.eq_iff_iff];simp;omega),Hw1.out⟩
theorem E8 (l:List Bytes)(h:l≠[]):mc l=(l.all bt&&!bY (l.getLast h)):=by
 induction l with
 | nil=>exact absurd rfl h
 | cons x l ih =>
   cases l with
   | nil=>simp[mc]
   | cons y r =>
     rw[mc,ih (by simp)]
     simp[Bool.and_assoc]
theorem tE (s:Bytes)(w:World)(hs:s.length≤1000000000) :
 Calls Tryz.prog 92 #[(Value.string ⟨zK4 (s)⟩)] w fun e w'=>e=.returned (.bool (eb s))∧Below w.heap.size w w':=by
 have bk:=qT 46 s
 have nv:=rQ s 46 w hs
 have hlen:∀ x∈aB 46 s,x.length≤s.length:=ig 46 s
 obtain⟨parts,CQ⟩:∃ parts,aB 46 s=parts:=⟨_,rfl⟩
 rw[CQ]at nv hlen bk
 have CP:=List.length_pos_iff.2 bk
 have hq:eb s=(parts.all bt&&!bY (parts[parts.length - 1]'(by omega))):=by
  unfold eb
  rw[CQ,E8 _ bk,List.getLast_eq_getElem]
 clear CQ
 have Hq:=hid hq
 have Hsp:=hid nv
 have Hlen:=hid hlen
 clear hq nv hlen
 go_enter Tryz.func92,Tryz.ntmps92
 go_wp2_with fail
 refine Hsp.out.mono ?_
 rintro e w1 ⟨v,rfl,oo,gD⟩
 obtain⟨g,cap,rfl,hg,hgl,kF,vy,_,ga⟩:=tU oo CP
 have Hw1:=hid gD
 have Hcells:=hid ga
 unfold maxLen at vy
 clear gD ga oo
 go_wp2_with fail
 go_loop [10] (fun i=>∃ k:Nat,k≤parts.length∧i=.int .i64 k∧(parts.take k).all bt=true) (fun i=>parts.length - (intOf i).toNat)
 case atStart=>exact⟨0,by omega,rfl,rfl⟩
 case round =>
  obtain⟨k,hk,rfl,aT⟩:=hrel
  have Hall:=hid aT
  clear aT
  by_cases aA:k<parts.length
  ·have gw:w1.cell? ⟨g,k,none⟩=some (Value.string ⟨zK4 (parts[k])⟩):=by
    rw[Hcells.out k aA]
    simp[aA,lB]
   have hln:=Hlen.out parts[k] (zLh aA)
   cases hc:bt parts[k]
   ·have Ha:=hid (cQ aA hc)
    go_wp2_with (go_at_call 126;refine(rP _ _ (by omega)).mono ?_;rintro e w' ⟨rfl,rfl⟩)
    go_ret
    exact⟨a7 (by rw[Hq.out,Ha.out];simp),Hw1.out⟩
   ·have Hn:=hid (aS aA Hall.out hc)
    go_wp2_with (go_at_call 126;refine(rP _ _ (by omega)).mono ?_;rintro e w' ⟨rfl,rfl⟩)
    go_round
    case rel=>exact⟨k+1,by omega,by go_num,Hn.out⟩
    case measure=>simp[intOf];omega
  ·have aT:=Hall.out
   rw[zLc (by omega)]at aT
   have Ha:=hid aT
   clear aT Hall
   have gw:w1.cell? ⟨g,parts.length - 1,none⟩=some (Value.string ⟨zK4 (parts[parts.length - 1]'(by omega))⟩):=by
    rw[Hcells.out (parts.length - 1) (by omega)]
    rw[List.getElem?_map,zK6 (by omega)]
    rfl
   have hln:=Hlen.out (parts[parts.length - 1]'(by omega)) (zLh _)
   have ny:parts.length - 1<parts.length:=by omega
   go_wp2_with (go_at_call 127;refine(x4 _ _ (by omega)).mono ?_;rintro e w' ⟨rfl,rfl⟩)
   go_ret
   exact⟨a7 (by rw[Hq.out,Ha.out,Bool.true_and]),Hw1.out⟩
open Go.RowKit Go.Sort Wf
attribute [local go_sem] fB eF get_list
theorem oR (s:Bytes)(w:World)(hs:s.length≤1000000000) :
 Calls Tryz.prog 70 #[(Value.string ⟨zK4 (s)⟩)] w fun e w'=>e=.returned (.tuple #[(Value.string ⟨zK4 ((bw s).1)⟩),.int .i64 (bw s).2])∧Below w.heap.size w w':=by
 cases h1:s.isEmpty
 ·by_cases h2:253<s.length
  ·have Hq:=hid (show bw s=([],5) by unfold bw;simp[h1,h2])
   go_enter Tryz.func70,Tryz.ntmps70
   go_wp2_with fail
   go_ret2
   rw[Hq.out]
   exact⟨rfl,Below.refl _ _⟩
  ·cases h3:ipv4 s
   ·cases h4:eb s
    ·have Hq:=hid (show bw s=([],50) by unfold bw;simp[h1,h2,h3,h4])
     go_enter Tryz.func70,Tryz.ntmps70
     go_wp2_with (first
      | (go_at_call 74;refine(ji _ _ hs).mono ?_;rintro e w1 ⟨rfl,gD⟩)
      | (go_at_call 92;refine(tE _ _ hs).mono ?_;rintro e w2 ⟨rfl,dF⟩))
     go_ret2
     rw[Hq.out]
     exact⟨rfl,bl ‹_› ‹_›⟩
    ·have Hq:=hid (show bw s=(lower s,0) by unfold bw;simp[h1,h2,h3,h4])
     go_enter Tryz.func70,Tryz.ntmps70
     go_wp2_with (first
      | (go_at_call 74;refine(ji _ _ hs).mono ?_;rintro e w1 ⟨rfl,gD⟩)
      | (go_at_call 92;refine(tE _ _ hs).mono ?_;rintro e w2 ⟨rfl,dF⟩)
      | (go_at_call 47;refine(mU _ _ (by omega)).mono ?_;rintro e w3 ⟨rfl,BR⟩))
     go_ret2
     rw[Hq.out]
     exact⟨rfl,bl (bl gD dF) BR⟩
   ·have Hq:=hid (show bw s=(lower s,0) by unfold bw;simp[h1,h2,h3])
    go_enter Tryz.func70,Tryz.ntmps70
    go_wp2_with (first
     | (go_at_call 74;refine(ji _ _ hs).mono ?_;rintro e w1 ⟨rfl,gD⟩)
     | (go_at_call 47;refine(mU _ _ (by omega)).mono ?_;rintro e w3 ⟨rfl,BR⟩))
    go_ret2
    rw[Hq.out]
    exact⟨rfl,bl gD BR⟩
 ·have Hq:=hid (show bw s=([],3) by unfold bw;simp[h1])
  go_enter Tryz.func70,Tryz.ntmps70
  go_wp2_with fail
  go_ret2
  rw[Hq.out]
  exact⟨rfl,Below.refl _ _⟩
theorem Ci (s:Bytes)(w:World)(hs:s.length≤9223372036854775807) :
 Calls Tryz.prog 130 #[(Value.string ⟨zK4 (s)⟩)] w fun e w'=>e=.returned (.tuple #[.int .i64 (jb s).1,.int .i64 (jb s).2])∧w=w':=by
 have hle:=lI 65535 s
 have hq:jb s=if (aW 65535 s).2≠0∨(aW 65535 s).1=0 then(0,51) else(((aW 65535 s).1:Int),0):=rfl
 have hc:=lG s 65535 w (by omega) (by omega)
 generalize aW 65535 s=np at hle hq hc
 obtain⟨n,e⟩:=np
 simp only at hle hq hc
 have Hc:=hid hc
 clear hc
 by_cases he:e=0
 ·subst he
  by_cases hn:n=0
  ·rw[if_pos (Or.inr hn)]at hq
   have Hq:=hid hq
   have hx:((n:Int)==0)=true:=by simp[hn]
   clear hq hn
   go_enter Tryz.func130,Tryz.ntmps130
   go_wp2_with fail
   refine Hc.out.mono ?_
   rintro e w' ⟨rfl,rfl⟩
   go_wp2_with fail
   go_ret2
   rw[Hq.out]
   exact⟨rfl,rfl⟩
  ·rw[if_neg (by simp[hn])]at hq
   have Hq:=hid hq
   have hx:((n:Int)==0)=false:=by simp[hn]
   clear hq hn
   go_enter Tryz.func130,Tryz.ntmps130
   go_wp2_with fail
   refine Hc.out.mono ?_
   rintro e w' ⟨rfl,rfl⟩
   go_wp2_with fail
   go_ret2
   rw[Hq.out]
   exact⟨rfl,rfl⟩
 ·rw[if_pos (Or.inl he)]at hq
  have Hq:=hid hq
  have hx:(e != 0)=true:=by simp[he]
  clear hq
  go_enter Tryz.func130,Tryz.ntmps130
  go_wp2_with fail
  refine Hc.out.mono ?_
  rintro e w' ⟨rfl,rfl⟩
  go_wp2_with fail
  go_ret2
  rw[Hq.out]
  exact⟨rfl,rfl⟩
theorem zV (s:Bytes)(w:World)(hs:s.length≤1000000000) :
 Calls Tryz.prog 99 #[(Value.string ⟨zK4 (s)⟩)] w fun e w'=>e=.returned (.tuple #[.agg #[(Value.string ⟨zK4 ((aH s).1.1)⟩),.int .i64 (aH s).1.2],.int .i64 (aH s).2])∧Below w.heap.size w w':=by
 have dz:pre (has [58] ·) s=pre (·==58) s:=by congr 1;funext c;simp[has];exact(Bool.beq_eq_decide_eq _ _).symm
 have hle:=cq (·==58) s
 have hq:aH s=cr (bw (aM 58 s).1) (aM 58 s).2.2 (jb (aM 58 s).2.1):=rfl
 have ha:=cw w (.cells #[(Value.string ⟨zK4 ([])⟩),.int .i64 0] 128)
 have yJ:Below w.heap.size w (w.alloc (.cells #[(Value.string ⟨zK4 ([])⟩),.int .i64 0] 128)):=(Below.refl _ _).alloc (zLf _) _
 generalize DY:w.alloc (.cells #[(Value.string ⟨zK4 ([])⟩),.int .i64 0] 128)=wa at ha yJ
 have Ha:=hid ha
 have Hba:=hid yJ
 have Hwa:=hid DY
 have Hpre:=hid dz
 clear ha yJ DY dz
 by_cases hp:pre (·==58) s<s.length
 ·have hc:aM 58 s=(s.take (pre (·==58) s),s.drop (pre (·==58) s+1),true):=if_pos hp
  rw[hc]at hq
  simp only at hq
  have hh:=fun w=>oR (s.take (pre (·==58) s)) w (by simp;omega)
  have hpp:=fun w=>Ci (s.drop (pre (·==58) s+1)) w (by simp;omega)
  have ny:(s.take (pre (·==58) s)).length≤s.length:=by rw[zLd];omega
  generalize bw (s.take (pre (·==58) s))=H at hq hh
  generalize jb (s.drop (pre (·==58) s+1))=P at hq hpp
  obtain⟨h,e⟩:=H
  obtain⟨p,f⟩:=P
  simp only at hh hpp
  have Hh:=hid hh
  have Hp:=hid hpp
  have hkne:((pre (·==58) s:Int)==(s.length:Int))=false:=beq_eq_false_iff_ne.2 (by omega)
  clear hh hpp hc
  generalize pre (·==58) s=k at Hh Hp hkne hp hle Hpre ny
  by_cases he:e=0
  ·subst he
   by_cases hf:f=0
   ·subst hf
    by_cases my:p=443
    ·have Hq:=hid (show aH s=((h,0),0) by rw[hq];unfold cr;simp[my])
     have hx:(p==443)=true:=by simp[my]
     clear hq my
     go_enter Tryz.func99,Tryz.ntmps99
     go_wp2_with fail
     rw[Hwa.out]
     go_wp2_with fail
     refine(gl s [58] _ (by omega) (by decide)).mono ?_
     rintro e w1 ⟨rfl,rfl⟩
     rw[Hpre.out]
     go_wp2_with fail
     refine(Hh.out _).mono ?_
     rintro e w2 ⟨rfl,dF⟩
     have Ha2:=hid ((dF.block _ (bL Ha.out)).trans Ha.out)
     have Hw2:=hid (bl Hba.out dF)
     clear dF
     have aA:=bL Ha2.out
     have c0:=Lib.cell_of_heap Ha2.out 0
     have c1:=Lib.cell_of_heap Ha2.out 1
     have z0:=Lib.frozen_of_heap Ha2.out 0
     have z1:=Lib.frozen_of_heap Ha2.out 1
     go_wp2_with fail
     go_wp2_with (go_at_call 130;refine(Hp.out _).mono ?_;rintro e w3 ⟨rfl,rfl⟩)
     refine bodyPost_ret (v:=.tuple #[.agg #[(Value.string ⟨zK4 (h)⟩),.int .i64 0],.int .i64 0]) (by simp[results,Tryz.results99,go_sem,c0,c1]) rfl ⟨?_,?_⟩
     ·rw[Hq.out]
     ·repeat (first|exact Hw2.out | (refine Below.setCell (p:=⟨_,_,none⟩) ?_ (by simp <;> omega) _) | (refine Below.alloc ?_ (by simp <;> omega) _) | refine Below.drew ?_)
    ·have Hq:=hid (show aH s=((h,p),0) by rw[hq];unfold cr;simp[my])
     have hx:(p==443)=false:=by simp[my]
     clear hq my
     go_enter Tryz.func99,Tryz.ntmps99
     go_wp2_with fail
     rw[Hwa.out]
     go_wp2_with fail
     refine(gl s [58] _ (by omega) (by decide)).mono ?_
     rintro e w1 ⟨rfl,rfl⟩
     rw[Hpre.out]
     go_wp2_with fail
     refine(Hh.out _).mono ?_
     rintro e w2 ⟨rfl,dF⟩
     have Ha2:=hid ((dF.block _ (bL Ha.out)).trans Ha.out)
     have Hw2:=hid (bl Hba.out dF)
     clear dF
     have aA:=bL Ha2.out
     have c0:=Lib.cell_of_heap Ha2.out 0
     have c1:=Lib.cell_of_heap Ha2.out 1
     have z0:=Lib.frozen_of_heap Ha2.out 0
     have z1:=Lib.frozen_of_heap Ha2.out 1
     go_wp2_with fail
     go_wp2_with (go_at_call 130;refine(Hp.out _).mono ?_;rintro e w3 ⟨rfl,rfl⟩)
     refine bodyPost_ret (v:=.tuple #[.agg #[(Value.string ⟨zK4 (h)⟩),.int .i64 p],.int .i64 0]) (by simp[results,Tryz.results99,go_sem,c0,c1]) rfl ⟨?_,?_⟩
     ·rw[Hq.out]
     ·repeat (first|exact Hw2.out | (refine Below.setCell (p:=⟨_,_,none⟩) ?_ (by simp <;> omega) _) | (refine Below.alloc ?_ (by simp <;> omega) _) | refine Below.drew ?_)
   ·have Hq:=hid (show aH s=(([],0),f) by rw[hq];unfold cr;simp[hf])
    have hx:(f != 0)=true:=by simp[hf]
    clear hq hf
    go_enter Tryz.func99,Tryz.ntmps99
    go_wp2_with fail
    rw[Hwa.out]
    go_wp2_with fail
    refine(gl s [58] _ (by omega) (by decide)).mono ?_
    rintro e w1 ⟨rfl,rfl⟩
    rw[Hpre.out]
    go_wp2_with fail
    refine(Hh.out _).mono ?_
    rintro e w2 ⟨rfl,dF⟩
    have Ha2:=hid ((dF.block _ (bL Ha.out)).trans Ha.out)
    have Hw2:=hid (bl Hba.out dF)
    clear dF
    have aA:=bL Ha2.out
    have c0:=Lib.cell_of_heap Ha2.out 0
    have c1:=Lib.cell_of_heap Ha2.out 1
    have z0:=Lib.frozen_of_heap Ha2.out 0
    have z1:=Lib.frozen_of_heap Ha2.out 1
    go_wp2_with fail
    go_wp2_with (go_at_call 130;refine(Hp.out _).mono ?_;rintro e w3 ⟨rfl,rfl⟩)
    refine bodyPost_ret (v:=.tuple #[.agg #[(Value.string ⟨zK4 ([])⟩),.int .i64 0],.int .i64 f]) (by simp[results,Tryz.results99,go_sem,c0,c1]) rfl ⟨?_,?_⟩
    ·rw[Hq.out]
    ·repeat (first|exact Hw2.out | (refine Below.setCell (p:=⟨_,_,none⟩) ?_ (by simp <;> omega) _) | (refine Below.alloc ?_ (by simp <;> omega) _) | refine Below.drew ?_)
  ·have hx:(e != 0)=true:=by simp[he]
   have Hq:=hid (show aH s=(([],0),e) by rw[hq];unfold cr;rw[if_pos he])
   clear hq he
   go_enter Tryz.func99,Tryz.ntmps99
   go_wp2_with fail
   rw[Hwa.out]
   go_wp2_with fail
   refine(gl s [58] _ (by omega) (by decide)).mono ?_
   rintro e w1 ⟨rfl,rfl⟩
   rw[Hpre.out]
   go_wp2_with fail
   refine(Hh.out _).mono ?_
   rintro e w2 ⟨rfl,dF⟩
   have Ha2:=hid ((dF.block _ (bL Ha.out)).trans Ha.out)
   have Hw2:=hid (bl Hba.out dF)
   clear dF
   have aA:=bL Ha2.out
   have c0:=Lib.cell_of_heap Ha2.out 0
   have c1:=Lib.cell_of_heap Ha2.out 1
   have z0:=Lib.frozen_of_heap Ha2.out 0
   have z1:=Lib.frozen_of_heap Ha2.out 1
   go_wp2_with fail
   refine bodyPost_ret (v:=.tuple #[.agg #[(Value.string ⟨zK4 ([])⟩),.int .i64 0],.int .i64 e]) (by simp[results,Tryz.results99,go_sem,c0,c1]) rfl ⟨?_,?_⟩
   ·rw[Hq.out]
   ·repeat (first|exact Hw2.out | (refine Below.setCell (p:=⟨_,_,none⟩) ?_ (by simp <;> omega) _) | (refine Below.alloc ?_ (by simp <;> omega) _) | refine Below.drew ?_)
 ·have hc:aM 58 s=(s,[],false):=if_neg hp
  have hk:pre (·==58) s=s.length:=by omega
  rw[hc]at hq
  simp only at hq
  have hh:=fun w=>oR s w hs
  generalize bw s=H at hq hh
  obtain⟨h,e⟩:=H
  simp only at hh
  have Hh:=hid hh
  have Hpre:=hid (Hpre.out.trans hk)
  clear hh hk hc
  by_cases he:e=0
  ·subst he
   have Hq:=hid (show aH s=((h,0),0) from hq)
   clear hq
   go_enter Tryz.func99,Tryz.ntmps99
   go_wp2_with fail
   rw[Hwa.out]
   go_wp2_with fail
   refine(gl s [58] _ (by omega) (by decide)).mono ?_
   rintro e w1 ⟨rfl,rfl⟩
   rw[Hpre.out]
   go_wp2_with fail
   refine(Hh.out _).mono ?_
   rintro e w2 ⟨rfl,dF⟩
   have Ha2:=hid ((dF.block _ (bL Ha.out)).trans Ha.out)
   have Hw2:=hid (bl Hba.out dF)
   clear dF
   have aA:=bL Ha2.out
   have c0:=Lib.cell_of_heap Ha2.out 0
   have c1:=Lib.cell_of_heap Ha2.out 1
   have z0:=Lib.frozen_of_heap Ha2.out 0
   have z1:=Lib.frozen_of_heap Ha2.out 1
   go_wp2_with fail
   refine bodyPost_ret (v:=.tuple #[.agg #[(Value.string ⟨zK4 (h)⟩),.int .i64 0],.int .i64 0]) (by simp[results,Tryz.results99,go_sem,c0,c1]) rfl ⟨?_,?_⟩
   ·rw[Hq.out]
   ·repeat (first|exact Hw2.out | (refine Below.setCell (p:=⟨_,_,none⟩) ?_ (by simp <;> omega) _) | (refine Below.alloc ?_ (by simp <;> omega) _) | refine Below.drew ?_)
  ·have hx:(e != 0)=true:=by simp[he]
   have Hq:=hid (show aH s=(([],0),e) by rw[hq];unfold cr;rw[if_pos he])
   clear hq he
   go_enter Tryz.func99,Tryz.ntmps99
   go_wp2_with fail
   rw[Hwa.out]
   go_wp2_with fail
   refine(gl s [58] _ (by omega) (by decide)).mono ?_
   rintro e w1 ⟨rfl,rfl⟩
   rw[Hpre.out]
   go_wp2_with fail
   refine(Hh.out _).mono ?_
   rintro e w2 ⟨rfl,dF⟩
   have Ha2:=hid ((dF.block _ (bL Ha.out)).trans Ha.out)
   have Hw2:=hid (bl Hba.out dF)
   clear dF
   have aA:=bL Ha2.out
   have c0:=Lib.cell_of_heap Ha2.out 0
   have c1:=Lib.cell_of_heap Ha2.out 1
   have z0:=Lib.frozen_of_heap Ha2.out 0
   have z1:=Lib.frozen_of_heap Ha2.out 1
   go_wp2_with fail
   refine bodyPost_ret (v:=.tuple #[.agg #[(Value.string ⟨zK4 ([])⟩),.int .i64 0],.int .i64 e]) (by simp[results,Tryz.results99,go_sem,c0,c1]) rfl ⟨?_,?_⟩
   ·rw[Hq.out]
   ·repeat (first|exact Hw2.out | (refine Below.setCell (p:=⟨_,_,none⟩) ?_ (by simp <;> omega) _) | (refine Below.alloc ?_ (by simp <;> omega) _) | refine Below.drew ?_)
theorem pN (n:Nat)(w:World)(hn:n≤18446744073709551615) :
 Calls Tryz.prog 162 #[.int .u64 n] w fun e w'=>e=.returned (Value.string ⟨zK4 (cG n)⟩)∧Below w.heap.size w w':=by
 have hlen:(cG n).length≤20:=dB 19 n (by omega)
 go_enter Tryz.func162,Tryz.ntmps162
 go_wp2_with fail
 go_loopw [0,3] (fun v o wr=>∃ (k:Nat) (ds:Bytes),v=.int .u64 k∧o=(Value.string ⟨zK4 (ds)⟩)∧k≤18446744073709551615∧(cG k).length+ds.length≤20∧cG k++ds=cG n∧Below w.heap.size w wr) (fun v _ _=>(intOf v).toNat)
 case atStart=>exact⟨n,[],rfl,rfl,hn,by simpa using hlen,by simp,Below.refl _ _⟩
 case round =>
  obtain⟨k,ds,rfl,rfl,hk,hl,heq,hw⟩:=hrel
  have gE:∀ T,jf (wr.alloc (.cells #[.int .u8 (48+(k:Int) % 10)] T)) wr.heap.size [sg (k % 10)]:=fun T =>
   ⟨[],T,(0,0),by rw[cw];simp only[List.map_cons,List.map_nil,List.append_nil,u8V,nJ (show k % 10<10 by omega)];rfl,Or.inr (by simp)⟩
  have jd:=fun T=>(gE T).back 1
  simp only[zK7,zK9,Nat.zero_add]at jd
  have Heq:=hid heq
  have Hw:=hid hw
  clear heq hw gE
  by_cases fc:k<10
  ·have hz:((k:Int) / 10==0)=true:=by simp;omega
   have hm:k % 10=k:=by omega
   have Hn:=hid (show cG n=sg (k % 10)::ds by rw[← Heq.out,gg fc,hm];rfl)
   have hll:ds.length≤20:=by omega
   clear hm
   go_wp2_with fail
   go_ret
   refine⟨lF (by rw[Hn.out]),?_⟩
   exact Hw.out.alloc Hw.out.size _
  ·have hz:((k:Int) / 10==0)=false:=by simp;omega
   have Hn:=hid (show cG (k / 10)++sg (k % 10)::ds=cG n by rw[← Heq.out,lg fc];simp)
   have gF:=mi fc
   have Hl2:=hid gF
   have hll:ds.length≤20:=by omega
   clear gF
   go_wp2_with fail
   have h1:=Hl2.out
   refine⟨⟨k / 10,sg (k % 10)::ds,congrArg (Value.int .u64) (by omega),rfl,by omega,by simp;omega,Hn.out,Hw.out.alloc Hw.out.size _⟩,?_⟩
   simp[intOf];omega
theorem ox (p:Int)(w:World)(h1:-9223372036854775808≤p)(h2:p≤9223372036854775807) :
 Calls Tryz.prog 132 #[.int .i64 p] w fun e w'=>e=.returned (Value.string ⟨zK4 ((if p<0 then [45] else [])++cG p.natAbs)⟩)∧Below w.heap.size w w':=by
 have hd:=dB 19 p.natAbs (by omega)
 by_cases CU:p<0
 ·rw[if_pos CU]
  have hp:-(p+1)+1=(p.natAbs:Int):=by omega
  have hnn:p.natAbs≤18446744073709551615:=by omega
  go_enter Tryz.func132,Tryz.ntmps132
  go_wp2_with fail
  clear hp
  go_wp2_with (go_at_call 162;refine(pN _ _ hnn).mono ?_;rintro e w1 ⟨rfl,gD⟩)
  go_ret
  exact⟨rfl,gD⟩
 ·rw[if_neg CU]
  obtain⟨n,rfl⟩:=Int.eq_ofNat_of_zero_le (show 0≤p by omega)
  go_enter Tryz.func132,Tryz.ntmps132
  go_wp2_with (go_at_call 162;refine(pN _ _ (by omega)).mono ?_;rintro e w1 ⟨rfl,gD⟩)
  go_ret
  exact⟨rfl,gD⟩
theorem xZ (h:Bytes)(p:Int)(w:World)(hh:h.length≤4611686018427387904)(h1:-9223372036854775808≤p)(h2:p≤9223372036854775807) :
 Calls Tryz.prog 101 #[.agg #[(Value.string ⟨zK4 (h)⟩),.int .i64 p]] w fun e w'=>e=.returned (Value.string ⟨zK4 (bc h p)⟩)∧Below w.heap.size w w':=by
 have ha:=cw w (.cells #[(Value.string ⟨zK4 (h)⟩),.int .i64 p] 128)
 have yJ:Below w.heap.size w (w.alloc (.cells #[(Value.string ⟨zK4 (h)⟩),.int .i64 p] 128)):=(Below.refl _ _).alloc (zLf _) _
 generalize DY:w.alloc (.cells #[(Value.string ⟨zK4 (h)⟩),.int .i64 p] 128)=wa at ha yJ
 have aA:=bL ha
 have c0:wa.cell? ⟨w.heap.size,0,none⟩=some (Value.string ⟨zK4 (h)⟩):=Lib.cell_of_heap ha 0
 have c1:wa.cell? ⟨w.heap.size,1,none⟩=some (.int .i64 p):=Lib.cell_of_heap ha 1
 have Hba:=hid yJ
 have Hwa:=hid DY
 clear ha yJ DY
 by_cases h0:p=0
 ·subst h0
  have Hq:=hid (show bc h 0=h from if_pos rfl)
  go_enter Tryz.func101,Tryz.ntmps101
  go_wp2_with fail
  rw[Hwa.out]
  go_wp2_with fail
  go_ret
  exact⟨lF Hq.out.symm,Hba.out⟩
 ·have hx:(p==0)=false:=by simp[h0]
  have hq:bc h p=h++58::((if p<0 then [45] else [])++cG p.natAbs):=by
   unfold bc
   rw[if_neg h0]
   split <;> simp
  have hd:=dB 19 p.natAbs (by omega)
  have pb:((if p<0 then [45] else [])++cG p.natAbs).length≤21:=by split <;> simp <;> omega
  have hdc:=fun w=>ox p w h1 h2
  generalize (if p<0 then [45] else [])++cG p.natAbs=ds at hq pb hdc
  have Hq:=hid hq
  have Hdc:=hid hdc
  clear h0 hq hdc hd
  go_enter Tryz.func101,Tryz.ntmps101
  go_wp2_with fail
  rw[Hwa.out]
  go_wp2_with fail
  have n1:¬ 9223372036854775807<h.length+1:=by omega
  have n2:¬ 9223372036854775807<h.length+1+ds.length:=by omega
  have k0:=cell_regrown c0
  have k1:=cell_regrown c1
  clear c0 c1 hx
  refine wp_region_quiet_below (by kernel_rfl) (by kernel_rfl) ?_
  repeat (quiet_step ((go_at_call 132;exact Calls.regrown_of (Hdc.out _))))
  refine wpQuiet_nil ?_
  intro _ hw'
  obtain⟨⟨dq,osq⟩,hw''⟩:=hw'
  subst hw''
  have y9:=below_regrown wa dq osq
  generalize grow (redrawn wa dq) osq=wq at y9 ⊢
  clear n1 n2 k0 k1
  go_wp2_with fail
  go_ret
  exact⟨lF Hq.out.symm,bl Hba.out y9⟩
open Go Vc Go.RowKit Wf
theorem rX (s:Bytes)(hs:s.length<4294967281):PC Tryz.V 140 [.str s] (.eN [.str (bw s).1,.int .i64 (bw s).2]) :=
 ⟨Tryz.call140,by simp[flat,flat.ai],by simp[flat,flat.ai],fun w hE=>(xd s w hE hs).mono fun _ _ ⟨h,k⟩=>⟨h,k⟩⟩
theorem pQ (s:Bytes)(hs:s.length<4294967281):PC Tryz.V 151 [.str s] (.eN [.agg [.str (aH s).1.1,.int .i64 (aH s).1.2],.int .i64 (aH s).2]) :=
 ⟨Tryz.call151,by simp[flat,flat.ai],by simp[flat,flat.ai],fun w hE=>(CS s w hE hs).mono fun _ _ ⟨h,k⟩=>⟨h,k⟩⟩
theorem vS (h:Bytes)(p:Int)(hh:h.length≤4611686018427387904)(h1:-9223372036854775808≤p)(h2:p≤9223372036854775807):PC Tryz.V 153 [.agg [.str h,.int .i64 p]] (.str (bc h p)) :=
 ⟨Tryz.call153,by simp[flat,flat.ai],by simp[flat,flat.ai],fun w hE=>(A2 h p w hh h1 h2).mono fun _ _ ⟨h,k⟩=>⟨h,k⟩⟩
theorem wO (s:Bytes)(hs:s.length≤1000000000):PC Tryz.V 70 [.str s] (.eN [.str (bw s).1,.int .i64 (bw s).2]) :=
 ⟨Tryz.call70,by simp[flat,flat.ai],by simp[flat,flat.ai],fun w hE=>(oR s w hs).mono fun _ _ ⟨h,k⟩=>⟨h,k⟩⟩
theorem tM (s:Bytes)(hs:s.length≤1000000000):PC Tryz.V 99 [.str s] (.eN [.agg [.str (aH s).1.1,.int .i64 (aH s).1.2],.int .i64 (aH s).2]) :=
 ⟨Tryz.call99,by simp[flat,flat.ai],by simp[flat,flat.ai],fun w hE=>(zV s w hs).mono fun _ _ ⟨h,k⟩=>⟨h,k⟩⟩
theorem Ai (h:Bytes)(p:Int)(hh:h.length≤4611686018427387904)(h1:-9223372036854775808≤p)(h2:p≤9223372036854775807):PC Tryz.V 101 [.agg [.str h,.int .i64 p]] (.str (bc h p)) :=
 ⟨Tryz.call101,by simp[flat,flat.ai],by simp[flat,flat.ai],fun w hE=>(xZ h p w hh h1 h2).mono fun _ _ ⟨h,k⟩=>⟨h,k⟩⟩
theorem yl (s:Bytes)(hs:s.length≤9223372036854775807):PC Tryz.V 66 [.str s] (.str (lower s)) :=
 ⟨Tryz.call66,by simp[flat,flat.ai],by simp[flat,flat.ai],fun w hE=>(nP s w hs).mono fun _ _ ⟨h,k⟩=>⟨h,k⟩⟩
theorem oU (s:Bytes)(hs:s.length≤9223372036854775807):PC Tryz.V 47 [.str s] (.str (lower s)) :=
 ⟨Tryz.call47,by simp[flat,flat.ai],by simp[flat,flat.ai],fun w hE=>(mU s w hs).mono fun _ _ ⟨h,k⟩=>⟨h,k⟩⟩
theorem ym (s t:Bytes)(hs:s.length≤9223372036854775807)(ht:t.length≤9223372036854775807):PC Tryz.V 141 [.str s,.str t] (.bool (lower s==lower t)):=by
 refine aU 3000 Tryz.func141 rfl Tryz.ntmps141 Tryz.results141 Tryz.call141 (by simp) (by simp[flat,flat.ai]) (by simp[flat,flat.ai]) ?_
 simp only[ad,↓Xn,↓Xo,↓Xg,↓Xd,↓Xe,↓Xf,Tryz.VΓ,Tryz.Γs,Xp,Xi,Nat.reduceAdd,Nat.reduceSub,Nat.reduceLT,Nat.reduceLeDiff,reduceIte,reduceCtorEq,Nat.reduceEqDiff,implies_true,forall_const,aa]
 (refine ae (yl s hs) ?_;simp only[ad,↓Xn,↓Xo,↓Xg,↓Xd,↓Xe,↓Xf,Tryz.VΓ,Tryz.Γs,Xp,Xi,Nat.reduceAdd,Nat.reduceSub,Nat.reduceLT,Nat.reduceLeDiff,reduceIte,reduceCtorEq,Nat.reduceEqDiff,implies_true,forall_const,aa])
 (refine ae (yl t ht) ?_;simp only[ad,↓Xn,↓Xo,↓Xg,↓Xd,↓Xe,↓Xf,Tryz.VΓ,Tryz.Γs,Xp,Xi,Nat.reduceAdd,Nat.reduceSub,Nat.reduceLT,Nat.reduceLeDiff,reduceIte,reduceCtorEq,Nat.reduceEqDiff,implies_true,forall_const,aa])
theorem oW (s t:Bytes)(hs:s.length≤9223372036854775807)(ht:t.length≤9223372036854775807):PC Tryz.V 68 [.str s,.str t] (.bool (lower s==lower t)):=by
 refine aU 3000 Tryz.func68 rfl Tryz.ntmps68 Tryz.results68 Tryz.call68 (by simp) (by simp[flat,flat.ai]) (by simp[flat,flat.ai]) ?_
 simp only[ad,↓Xn,↓Xo,↓Xg,↓Xd,↓Xe,↓Xf,Tryz.VΓ,Tryz.Γs,Xp,Xi,Nat.reduceAdd,Nat.reduceSub,Nat.reduceLT,Nat.reduceLeDiff,reduceIte,reduceCtorEq,Nat.reduceEqDiff,implies_true,forall_const,aa]
 (refine ae (oU s hs) ?_;simp only[ad,↓Xn,↓Xo,↓Xg,↓Xd,↓Xe,↓Xf,Tryz.VΓ,Tryz.Γs,Xp,Xi,Nat.reduceAdd,Nat.reduceSub,Nat.reduceLT,Nat.reduceLeDiff,reduceIte,reduceCtorEq,Nat.reduceEqDiff,implies_true,forall_const,aa])
 (refine ae (oU t ht) ?_;simp only[ad,↓Xn,↓Xo,↓Xg,↓Xd,↓Xe,↓Xf,Tryz.VΓ,Tryz.Γs,Xp,Xi,Nat.reduceAdd,Nat.reduceSub,Nat.reduceLT,Nat.reduceLeDiff,reduceIte,reduceCtorEq,Nat.reduceEqDiff,implies_true,forall_const,aa])
theorem rJ {c:UInt8}{s:Bytes}{a i:Nat}(hi:i<s.length)(ha:a≤i)(hp:i - a≤pre (·==c) (s.drop a))(hc:s[i]=c):aB c (s.drop a)=(s.take i).drop a::aB c (s.drop (i+1)):=by
 have dz:pre (·==c) (s.drop a)=i - a:=by
  apply Nat.le_antisymm _ hp
  apply Nat.le_of_not_lt
  intro aA
  have:=gN (p:=(·==c)) (l:=s.drop a) (k:=i - a) aA (by simp;omega)
  simp[show a+(i - a)=i by omega,hc]at this
 rw[cD (by rw[dz,zK5];omega),dz,List.drop_drop,List.drop_take,show a+(i - a+1)=i+1 by omega]
theorem wL {c:UInt8}{s:Bytes}{a i:Nat}(hi:i<s.length)(ha:a≤i)(hp:i - a≤pre (·==c) (s.drop a))(hc:s[i]≠c):i+1 - a≤pre (·==c) (s.drop a):=by
 apply Nat.le_of_not_lt
 intro aA
 have dz:pre (·==c) (s.drop a)=i - a:=by omega
 have:=fZ (p:=(·==c)) (l:=s.drop a) (by rw[dz,zK5];omega)
 simp[dz,show a+(i - a)=i by omega]at this
 exact hc this
def SplI (bs:List ay)(s:Bytes)(c:UInt8)(σ:St):Prop:=∃ (i a:Nat) (x:SV) (dn:List Bytes),lk 0 σ.t=some (.str s)∧lk 1 σ.t=some (.int .u8 c.toNat)∧lk 5 σ.t=some x∧lk 6 σ.t=some (.int .i64 a)∧lk 7 σ.t=some (.int .i64 i) ∧
 a≤i∧i≤s.length∧dn.length≤a∧i - a≤pre (·==c) (s.drop a)∧dn++aB c (s.drop a)=aB c s∧Sl 9 1 bs.length x σ.b (dn.map SV.str) dn.length∧Kp bs σ.b
def SplM (s:Bytes)(σ:St):Nat:=match lk 7 σ.t with
 | some (.int _ k)=>s.length - k.toNat
 | _=>0
theorem Ez {s:Bytes}{σ:St}{k:Nat}(h:lk 7 σ.t=some (.int .i64 k)):SplM s σ=s.length - k:=by simp[SplM,h]
theorem xK {bs b:List ay}{s:Bytes}{c:UInt8}{t:List (Nat × SV)}{i i' a:Nat}{x:SV}{dn:List Bytes}(h0:lk 0 t=some (.str s))(h1:lk 1 t=some (.int .u8 c.toNat))(h5:lk 5 t=some x)(h6:lk 6 t=some (.int .i64 a))(h7:lk 7 t=some (.int .i64 i'))
 (h:a≤i'∧i'≤s.length∧dn.length≤a∧i' - a≤pre (·==c) (s.drop a)) (nv:dn++aB c (s.drop a)=aB c s) (w9:Sl 9 1 bs.length x b (dn.map SV.str) dn.length) (cg:Kp bs b) (aA:i<i'):SplI bs s c ⟨t,b⟩∧SplM s ⟨t,b⟩<s.length - i :=
 ⟨⟨i',a,x,dn,h0,h1,h5,h6,h7,h.1,h.2.1,h.2.2.1,h.2.2.2,nv,w9,cg⟩,by rw[Ez h7];omega⟩
theorem pI {bs:List ay}(s:Bytes)(c:UInt8)(hs:s.length≤1000000) :
 SC Tryz.V 95 [.str s,.int .u8 c.toNat] bs (fun r b=>∃ j,r=.o j (aB c s).length∧bs.length≤j∧b[j]? = some (.own ((aB c s).map SV.str) 9 1 (aB c s).length true)∧Kp bs b):=by
 refine cK 3000 Tryz.func95 rfl Tryz.ntmps95 Tryz.results95 Tryz.call95 (by simp) (aw bs.length _ (by simp[within,within.aN])) ?_
 simp only[ad,↓Xn,↓Xo,↓Xg,↓Xd,↓Xe,↓Xf,Tryz.VΓ,Tryz.Γs,Xp,Xi,Nat.reduceAdd,Nat.reduceSub,Nat.reduceLT,Nat.reduceLeDiff,reduceIte,reduceCtorEq,Nat.reduceEqDiff,implies_true,forall_const,aa]
 refine aJ (SplI bs s c) (SplM s) ⟨0,0,.aD,[],rfl,rfl,rfl,rfl,rfl,by simp,by simp,by simp,by simp,by simp,.inl ⟨rfl,rfl,rfl⟩,Kp.refl _⟩ ?_
 rintro⟨t,b⟩ ⟨i,a,x,dn,h0,h1,h5,h6,h7,hai,his,hda,hp,nv,w9,cg⟩
 simp only at h0 h1 h5 h6 h7 w9 cg
 rw[Ez h7]
 rcases w9 with⟨rfl,fL,hda0⟩|⟨j,rfl,lr,hj⟩
 ·obtain rfl:dn=[]:=by simpa using fL
  simp only[ad,↓Xn,↓Xo,↓Xg,↓Xd,↓Xe,↓Xf,Tryz.VΓ,Tryz.Γs,Xp,Xi,Nat.reduceAdd,Nat.reduceSub,Nat.reduceLT,Nat.reduceLeDiff,reduceIte,reduceCtorEq,Nat.reduceEqDiff,implies_true,forall_const,aa,h0,h1,h5,h6,h7,aX]
  refine⟨fun hc=>?_,fun hc=>?_⟩
  ·have hi:i<s.length:=by simpa using hc
   refine⟨⟨by omega,by omega⟩,fun hq=>⟨⟨by omega,by omega,by omega⟩,by omega,⟨by unfold maxLen;omega,by omega⟩,⟨by omega,by omega⟩,⟨by omega,by omega⟩,?_⟩,fun hq=>⟨⟨by omega,by omega⟩,?_⟩⟩
   ·rw[cA hi c rfl]at hq
    have om:=rJ hi hai hp (by simpa using hq)
    refine xK (i':=i+1) (a:=i+1) (dn:=[(s.take i).drop a]) h0 h1 (by simp[lk]) rfl rfl ⟨by omega,by omega,by simp,by omega⟩ ?_ (.inr ⟨(b++[ay.own [.str ((s.take i).drop a)] 9 1 1 true]).length,rfl,?_,aX _ _⟩) ((cg.app _).app _) (by omega)
    ·rw[← nv,om];simp
    ·have:=cg.1;simp;omega
   ·rw[cA hi c rfl]at hq
    exact xK (i':=i+1) (dn:=[]) h0 h1 h5 h6 rfl ⟨by omega,by omega,by simp,wL hi hai hp (by simpa using hq)⟩ nv (.inl ⟨rfl,rfl,rfl⟩) cg (by omega)
  ·have hi:i=s.length:=by simp at hc;omega
   refine⟨⟨by omega,by omega⟩,by omega,⟨by unfold maxLen;omega,by omega⟩,?_⟩
   have hms:aB c s=[s.drop a]:=by
    rw[← nv,bW (by rw[zK5];omega)];rfl
   rw[hms]
   refine⟨(b++[ay.own [.str (s.drop a)] 9 1 1 true]).length,rfl,?_,aX _ _,(cg.app _).app _⟩
   have:=cg.1;simp;omega
 ·have h2:∀ X,(b++[X])[j]? = some (.own (dn.map SV.str) 9 1 dn.length true):=fun X=>af hj _
  simp only[ad,↓Xn,↓Xo,↓Xg,↓Xd,↓Xe,↓Xf,Tryz.VΓ,Tryz.Γs,Xp,Xi,Nat.reduceAdd,Nat.reduceSub,Nat.reduceLT,Nat.reduceLeDiff,reduceIte,reduceCtorEq,Nat.reduceEqDiff,implies_true,forall_const,aa,h0,h1,h5,h6,h7,aX,h2]
  have mA:j<b.length:=(zLb.1 hj).1
  refine⟨fun hc=>?_,fun hc=>?_⟩
  ·have hi:i<s.length:=by simpa using hc
   refine⟨⟨by omega,by omega⟩,fun hq=>⟨⟨by omega,by omega,by omega⟩,by omega,⟨by unfold maxLen;omega,by omega⟩,⟨by omega,by omega⟩,⟨by omega,by omega⟩,?_⟩,fun hq=>⟨⟨by omega,by omega⟩,?_⟩⟩
   ·rw[cA hi c rfl]at hq
    have om:=rJ hi hai hp (by simpa using hq)
    refine xK (i':=i+1) (a:=i+1) (dn:=dn++[(s.take i).drop a]) h0 h1 (by simp[lk];rfl) rfl rfl ⟨by omega,by omega,by simp;omega,by omega⟩ ?_ (.inr ⟨(b++[ay.own [.str ((s.take i).drop a)] 9 1 1 true]).length,by simp,?_,?_⟩) (((cg.app _).set lr _).app _) (by omega)
    ·rw[← nv,om];simp
    ·have:=cg.1;simp;omega
    ·rw[zLa (by simp)];simp
   ·rw[cA hi c rfl]at hq
    exact xK (i':=i+1) (dn:=dn) h0 h1 h5 h6 rfl ⟨by omega,by omega,hda,wL hi hai hp (by simpa using hq)⟩ nv (.inr ⟨j,rfl,lr,hj⟩) cg (by omega)
  ·have hi:i=s.length:=by simp at hc;omega
   refine⟨⟨by omega,by omega⟩,by omega,⟨by unfold maxLen;omega,by omega⟩,?_⟩
   have hms:aB c s=dn++[s.drop a]:=by
    rw[← nv,bW (c:=c) (s:=s.drop a) (by rw[zK5];omega)]
   rw[hms]
   refine⟨(b++[ay.own [.str (s.drop a)] 9 1 1 true]).length,by simp,?_,?_,((cg.app _).set lr _).app _⟩
   ·have:=cg.1;simp;omega
   ·rw[zLa (by simp)];simp
def DO (m:lY):SV:=.agg [.str m.loc,.str m.host]
theorem vR (s:Bytes)(hs:s.length<4294967281):PC Tryz.V 147 [.str s] (.bool (ipv4 s)) :=
 ⟨Tryz.call147,by simp[flat,flat.ai],by simp[flat,flat.ai],fun w hE=>(kf s w hE hs).mono fun _ _ ⟨h,k⟩=>⟨h,k⟩⟩
theorem Ah (s:Bytes)(hs:s.length≤1000000000):PC Tryz.V 74 [.str s] (.bool (ipv4 s)) :=
 ⟨Tryz.call74,by simp[flat,flat.ai],by simp[flat,flat.ai],fun w hE=>(ji s w hs).mono fun _ _ ⟨h,k⟩=>⟨h,k⟩⟩
theorem Ex (s:Bytes)(a c:UInt8):decide (0≤Lib.indexAny s [a,c])=decide (a∈s∨c∈s):=by
 rw[lK]
 by_cases h:pre ([a,c].contains ·) s<s.length
 ·rw[if_pos h]
  have h1:=fZ h
  have h2:s[pre ([a,c].contains ·) s]∈s:=zLh h
  have h3:s[pre ([a,c].contains ·) s]=a∨s[pre ([a,c].contains ·) s]=c:=by simpa using h1
  simp only[Int.natCast_nonneg,decide_true]
  symm
  exact decide_eq_true (by rcases h3 with e|e <;> rw[e]at h2 <;> simp[h2])
 ·rw[if_neg h]
  simp only[show ¬ (0:Int)≤-1 by omega,decide_false]
  symm
  refine decide_eq_false ?_
  intro k
  have hle:=cq ([a,c].contains ·) s
  have:∀ d∈s,[a,c].contains d=false:=by
   intro d hd
   obtain⟨j,hj,rfl⟩:=List.getElem_of_mem hd
   exact gN (p:=([a,c].contains ·)) (k:=j) (by omega) hj
  rcases k with k|k
  ·have:=this _ k;simp at this
  ·have:=this _ k;simp at this
theorem vU (s:Bytes)(a c:UInt8)(ha:a.toNat<128)(hc:c.toNat<128)(hs:s.length<4294967281):PC Tryz.V 142 [.str s,.str [a,c]] (.bool (decide (a∈s∨c∈s))):=by
 have pi:=tQ s [a,c] (fun i h=>by
  match i,h with
  | 0,_=>exact ha
  | 1,_=>exact hc) (by simp) (by simp) hs
 refine aU 3000 Tryz.func142 rfl Tryz.ntmps142 Tryz.results142 Tryz.call142 (by simp) (by simp[flat,flat.ai]) (by simp[flat,flat.ai]) ?_
 simp only[ad,↓Xn,↓Xo,↓Xg,↓Xd,↓Xe,↓Xf,Tryz.VΓ,Tryz.Γs,Xp,Xi,Nat.reduceAdd,Nat.reduceSub,Nat.reduceLT,Nat.reduceLeDiff,reduceIte,reduceCtorEq,Nat.reduceEqDiff,implies_true,forall_const,aa]
 (refine ae (pi) ?_;simp only[ad,↓Xn,↓Xo,↓Xg,↓Xd,↓Xe,↓Xf,Tryz.VΓ,Tryz.Γs,Xp,Xi,Nat.reduceAdd,Nat.reduceSub,Nat.reduceLT,Nat.reduceLeDiff,reduceIte,reduceCtorEq,Nat.reduceEqDiff,implies_true,forall_const,aa])
 rw[Ex]
theorem Am (c:UInt8):PC Tryz.V 171 [.int .u8 c.toNat] (.bool (ml c)):=by
 refine aU 3000 Tryz.func171 rfl Tryz.ntmps171 Tryz.results171 Tryz.call171 (by simp) (by simp[flat,flat.ai]) (by simp[flat,flat.ai]) ?_
 simp only[ad,↓Xn,↓Xo,↓Xg,↓Xd,↓Xe,↓Xf,Tryz.VΓ,Tryz.Γs,Xp,Xi,Nat.reduceAdd,Nat.reduceSub,Nat.reduceLT,Nat.reduceLeDiff,reduceIte,reduceCtorEq,Nat.reduceEqDiff,implies_true,forall_const,aa]
 (refine ae (wQ c) ?_;simp only[ad,↓Xn,↓Xo,↓Xg,↓Xd,↓Xe,↓Xf,Tryz.VΓ,Tryz.Γs,Xp,Xi,Nat.reduceAdd,Nat.reduceSub,Nat.reduceLT,Nat.reduceLeDiff,reduceIte,reduceCtorEq,Nat.reduceEqDiff,implies_true,forall_const,aa])
 unfold ml
 refine⟨fun h=>?_,fun h=>by rw[h];rfl⟩
 (refine ae (nW c) ?_;simp only[ad,↓Xn,↓Xo,↓Xg,↓Xd,↓Xe,↓Xf,Tryz.VΓ,Tryz.Γs,Xp,Xi,Nat.reduceAdd,Nat.reduceSub,Nat.reduceLT,Nat.reduceLeDiff,reduceIte,reduceCtorEq,Nat.reduceEqDiff,implies_true,forall_const,aa])
 rw[h]
 refine⟨fun h2=>?_,fun h2=>by rw[h2];rfl⟩
 (refine ae (dx IK c) ?_;simp only[ad,↓Xn,↓Xo,↓Xg,↓Xd,↓Xe,↓Xf,Tryz.VΓ,Tryz.Γs,Xp,Xi,Nat.reduceAdd,Nat.reduceSub,Nat.reduceLT,Nat.reduceLeDiff,reduceIte,reduceCtorEq,Nat.reduceEqDiff,implies_true,forall_const,aa])
 rw[qa,h2];rfl
theorem EY (c:UInt8):PC Tryz.V 96 [.int .u8 c.toNat] (.bool (ml c)):=by
 refine aU 3000 Tryz.func96 rfl Tryz.ntmps96 Tryz.results96 Tryz.call96 (by simp) (by simp[flat,flat.ai]) (by simp[flat,flat.ai]) ?_
 simp only[ad,↓Xn,↓Xo,↓Xg,↓Xd,↓Xe,↓Xf,Tryz.VΓ,Tryz.Γs,Xp,Xi,Nat.reduceAdd,Nat.reduceSub,Nat.reduceLT,Nat.reduceLeDiff,reduceIte,reduceCtorEq,Nat.reduceEqDiff,implies_true,forall_const,aa]
 (refine ae (jj c) ?_;simp only[ad,↓Xn,↓Xo,↓Xg,↓Xd,↓Xe,↓Xf,Tryz.VΓ,Tryz.Γs,Xp,Xi,Nat.reduceAdd,Nat.reduceSub,Nat.reduceLT,Nat.reduceLeDiff,reduceIte,reduceCtorEq,Nat.reduceEqDiff,implies_true,forall_const,aa])
 unfold ml
 refine⟨fun h=>?_,fun h=>by rw[h];rfl⟩
 (refine ae (gQ c) ?_;simp only[ad,↓Xn,↓Xo,↓Xg,↓Xd,↓Xe,↓Xf,Tryz.VΓ,Tryz.Γs,Xp,Xi,Nat.reduceAdd,Nat.reduceSub,Nat.reduceLT,Nat.reduceLeDiff,reduceIte,reduceCtorEq,Nat.reduceEqDiff,implies_true,forall_const,aa])
 rw[h]
 refine⟨fun h2=>?_,fun h2=>by rw[h2];rfl⟩
 (refine ae (j9 c IK (by decide)) ?_;simp only[ad,↓Xn,↓Xo,↓Xg,↓Xd,↓Xe,↓Xf,Tryz.VΓ,Tryz.Γs,Xp,Xi,Nat.reduceAdd,Nat.reduceSub,Nat.reduceLT,Nat.reduceLeDiff,reduceIte,reduceCtorEq,Nat.reduceEqDiff,implies_true,forall_const,aa])
 rw[h2];rfl
def LoI (s:Bytes)(σ:St):Prop:=∃ (i:Nat) (d:Bool),i≤s.length∧lk 0 σ.t=some (.str s)∧lk 3 σ.t=some (.bool d)∧lk 6 σ.t=some (.int .i64 s.length)∧lk 7 σ.t=some (.int .i64 i)∧kO d (s.drop i)=kO true s
def LoM (s:Bytes)(σ:St):Nat:=match lk 7 σ.t with
 | some (.int _ k)=>s.length - k.toNat
 | _=>0
theorem IY {s:Bytes}{σ:St}{k:Nat}(h:lk 7 σ.t=some (.int .i64 k)):LoM s σ=s.length - k:=by simp[LoM,h]
theorem yh (s:Bytes)(hs:s.length≤4611686018427387904):PC Tryz.V 146 [.str s] (.bool (jl s)):=by
 rw[CC]
 refine aU 3000 Tryz.func146 rfl Tryz.ntmps146 Tryz.results146 Tryz.call146 (by simp) (by simp[flat,flat.ai]) (by simp[flat,flat.ai]) ?_
 simp only[ad,↓Xn,↓Xo,↓Xg,↓Xd,↓Xe,↓Xf,Tryz.VΓ,Tryz.Γs,Xp,Xi,Nat.reduceAdd,Nat.reduceSub,Nat.reduceLT,Nat.reduceLeDiff,reduceIte,reduceCtorEq,Nat.reduceEqDiff,implies_true,forall_const,aa]
 refine aJ (LoI s) (LoM s) ⟨0,true,by omega,rfl,rfl,rfl,rfl,rfl⟩ ?_
 rintro⟨t,b⟩ ⟨i,d,hi,h0,h3,h6,h7,hl⟩
 simp only at h0 h3 h6 h7
 rw[IY h7]
 by_cases aA:i<s.length
 ·have hg:s.getD i 0=s[i]:=by simp[zLe,aA]
  have eU:=cA (s:=s) aA 46 (n:=46) rfl
  have mu:(((s.getD i 0).toNat:Int) != 46)=(s[i] != 46):=by
   show (!_)=(!_);rw[eU]
  have mk:∀ (t':List (Nat × SV)),lk 0 t'=some (.str s)→lk 3 t'=some (.bool (s[i]==46))→lk 6 t'=some (.int .i64 s.length)→lk 7 t'=some (.int .i64 (i+1:Nat))→kO (s[i]==46) (s.drop (i+1))=kO true s→LoI s ⟨t',b⟩∧LoM s ⟨t',b⟩<s.length - i:=fun t' k0 k3 k6 k7 kl =>
   ⟨⟨i+1,_,by omega,k0,k3,k6,k7,kl⟩,by rw[IY k7];omega⟩
  rw[List.drop_eq_getElem_cons aA,kO]at hl
  by_cases hc:s[i]=46
  ·have hb:(((s.getD i 0).toNat:Int)==46)=true:=by rw[eU,hc];rfl
   have kY:(((s.getD i 0).toNat:Int) != 46)=false:=by rw[mu,hc];rfl
   have hbt:(s[i]==46)=true:=by rw[hc];rfl
   rw[hbt]at mk
   rw[hc]at hl
   cases d
   ·simp only[ad,↓Xn,↓Xo,↓Xg,↓Xd,↓Xe,↓Xf,Tryz.VΓ,Tryz.Γs,Xp,Xi,Nat.reduceAdd,Nat.reduceSub,Nat.reduceLT,Nat.reduceLeDiff,reduceIte,reduceCtorEq,Nat.reduceEqDiff,implies_true,forall_const,aa,h0,h3,h6,h7,hb,kY]
    refine⟨fun _=>⟨⟨by omega,by omega⟩,⟨by omega,by omega⟩,⟨by omega,by omega⟩,⟨by omega,by omega⟩,mk _ h0 rfl h6 (by simp only[lk,reduceIte,zK8.injEq,SV.int.injEq,true_and];omega) (by simpa using hl)⟩,fun h=>absurd h (by simp;omega)⟩
   ·have hf:kO true s=false:=by rw[← hl];rfl
    rw[hf]
    simp only[ad,↓Xn,↓Xo,↓Xg,↓Xd,↓Xe,↓Xf,Tryz.VΓ,Tryz.Γs,Xp,Xi,Nat.reduceAdd,Nat.reduceSub,Nat.reduceLT,Nat.reduceLeDiff,reduceIte,reduceCtorEq,Nat.reduceEqDiff,implies_true,forall_const,aa,h0,h3,h6,h7,hb,kY]
    exact fun _=>⟨⟨by omega,by omega⟩,by omega,by omega⟩
  ·have hb:((s[i].toNat:Int)==46)=false:=by rw[← hg,eU];simpa using hc
   have kY:((s[i].toNat:Int) != 46)=true:=by rw[← hg,mu];simpa using hc
   have hbt:(s[i]==46)=false:=by simpa using hc
   rw[hbt]at mk
   have hbn:(s[i] != 46)=true:=by simpa using hc
   rw[hbt,hbn]at hl
   simp only[ad,↓Xn,↓Xo,↓Xg,↓Xd,↓Xe,↓Xf,Tryz.VΓ,Tryz.Γs,Xp,Xi,Nat.reduceAdd,Nat.reduceSub,Nat.reduceLT,Nat.reduceLeDiff,reduceIte,reduceCtorEq,Nat.reduceEqDiff,implies_true,forall_const,aa,h0,h3,h6,h7,hg,hb,kY]
   refine⟨fun _=>⟨⟨by omega,by omega⟩,⟨by omega,by omega⟩,?_⟩,fun h=>absurd h (by simp;omega)⟩
   (refine ae (Am s[i]) ?_;simp only[ad,↓Xn,↓Xo,↓Xg,↓Xd,↓Xe,↓Xf,Tryz.VΓ,Tryz.Γs,Xp,Xi,Nat.reduceAdd,Nat.reduceSub,Nat.reduceLT,Nat.reduceLeDiff,reduceIte,reduceCtorEq,Nat.reduceEqDiff,implies_true,forall_const,aa,h0,h3,h6,h7,hg,hb,kY])
   cases ha:ml s[i]
   ·rw[ha]at hl
    have hf:kO true s=false:=by rw[← hl];rfl
    rw[hf]
    simp only[ad,↓Xn,↓Xo,↓Xg,↓Xd,↓Xe,↓Xf,Tryz.VΓ,Tryz.Γs,Xp,Xi,Nat.reduceAdd,Nat.reduceSub,Nat.reduceLT,Nat.reduceLeDiff,reduceIte,reduceCtorEq,Nat.reduceEqDiff,implies_true,forall_const,aa,h0,h3,h6,h7,hg,hb,kY]
   ·rw[ha]at hl
    simp only[ad,↓Xn,↓Xo,↓Xg,↓Xd,↓Xe,↓Xf,Tryz.VΓ,Tryz.Γs,Xp,Xi,Nat.reduceAdd,Nat.reduceSub,Nat.reduceLT,Nat.reduceLeDiff,reduceIte,reduceCtorEq,Nat.reduceEqDiff,implies_true,forall_const,aa,h0,h3,h6,h7,hg,hb,kY]
    exact⟨⟨by omega,by omega⟩,⟨by omega,by omega⟩,⟨by omega,by omega⟩,mk _ h0 rfl h6 (by simp only[lk,reduceIte,zK8.injEq,SV.int.injEq,true_and];omega) (by simpa using hl)⟩
 ·have jq:i=s.length:=by omega
  subst jq
  rw[List.drop_length,kO]at hl
  simp only[ad,↓Xn,↓Xo,↓Xg,↓Xd,↓Xe,↓Xf,Tryz.VΓ,Tryz.Γs,Xp,Xi,Nat.reduceAdd,Nat.reduceSub,Nat.reduceLT,Nat.reduceLeDiff,reduceIte,reduceCtorEq,Nat.reduceEqDiff,implies_true,forall_const,aa,h0,h3,h6,h7]
  refine⟨fun h=>absurd h (by simp),fun _=>⟨fun h=>?_,fun h=>?_⟩⟩
  ·rw[← hl,h]
   congr 1
   rw[Bool.true_and]
   exact decide_eq_decide.2 ⟨fun h=>by omega,fun h=>by omega⟩
  ·rw[← hl,h];rfl
theorem Cm (s:Bytes):PC Tryz.V 73 [.str s] (.bool (jl s)):=by
 refine aU 3000 Tryz.func73 rfl Tryz.ntmps73 Tryz.results73 Tryz.call73 (by simp) (by simp[flat,flat.ai]) (by simp[flat,flat.ai]) ?_
 simp only[ad,↓Xn,↓Xo,↓Xg,↓Xd,↓Xe,↓Xf,Tryz.VΓ,Tryz.Γs,Xp,Xi,Nat.reduceAdd,Nat.reduceSub,Nat.reduceLT,Nat.reduceLeDiff,reduceIte,reduceCtorEq,Nat.reduceEqDiff,implies_true,forall_const,aa]
 unfold jl
 refine⟨fun bk=>⟨fun hl=>?_,fun hl=>?_⟩,fun bk=>?_⟩
 ·have hl:¬ s.length≤64:=(by simp at hl;omega)
  rw[decide_eq_false hl,Bool.and_false]
 ·have hl:s.length≤64:=(by simp at hl;omega)
  rw[decide_eq_true hl,Bool.and_true]
  have w9:=ig 46 s
  refine aG (pI s 46 (by omega)) ?_
  rintro r b ⟨j,rfl,lr,hj,cg⟩
  have hct:=iD 46 s
  have hcc:=List.count_le_length (a:=(46:UInt8)) (l:=s)
  generalize aB 46 s=L at *
  simp only at lr hj cg
  simp only[ad,↓Xn,↓Xo,↓Xg,↓Xd,↓Xe,↓Xf,Tryz.VΓ,Tryz.Γs,Xp,Xi,Nat.reduceAdd,Nat.reduceSub,Nat.reduceLT,Nat.reduceLeDiff,reduceIte,reduceCtorEq,Nat.reduceEqDiff,implies_true,forall_const,aa,hj]
  refine aJ (fun σ=>∃ k:Nat,k≤L.length∧lk 14 σ.t=some (.o j L.length)∧lk 15 σ.t=some (.int .i64 L.length)∧lk 16 σ.t=some (.int .i64 k)∧σ.b[j]? = some (.own (L.map SV.str) 9 1 L.length true)∧(L.take k).all fX=true) (fun σ=>L.length - iH 16 σ) ⟨0,by omega,rfl,rfl,rfl,hj,rfl⟩ ?_
  rintro⟨t,b⟩ ⟨k,hk,h14,h15,h16,hb,bU⟩
  simp only at h14 h15 h16 hb
  rw[ax h16]
  by_cases aA:k<L.length
  ·have h33:(L.map SV.str)[k * 1]? = some (.str L[k]):=by simp[aA]
   have DW:=w9 L[k] (zLh aA)
   generalize hx:L[k]=x at *
   have rn:fX x=false→L.all fX=false:=fun h=>by
    rw[← Bool.not_eq_true]
    intro h2
    have:=zLm.1 h2 x (hx ▸ zLh aA)
    rw[h]at this;cases this
   simp only[ad,↓Xn,↓Xo,↓Xg,↓Xd,↓Xe,↓Xf,Tryz.VΓ,Tryz.Γs,Xp,Xi,Nat.reduceAdd,Nat.reduceSub,Nat.reduceLT,Nat.reduceLeDiff,reduceIte,reduceCtorEq,Nat.reduceEqDiff,implies_true,forall_const,aa,h14,h15,h16,hb,h33]
   refine⟨fun _=>⟨⟨by omega,by omega⟩,by simp;omega,fun hn=>?_,fun hn=>?_⟩,fun h=>absurd h (by simp;omega)⟩
   ·have hn:x=[]:=by simpa using hn
    rw[rn (by rw[hn];rfl)]
   have hn:x.isEmpty=false:=by cases x <;> simp at hn ⊢
   refine aJ (fun σ=>∃ i:Nat,i≤x.length∧lk 4 σ.t=some (.str x)∧lk 5 σ.t=some (.int .i64 i)∧lk 14 σ.t=some (.o j L.length)∧lk 15 σ.t=some (.int .i64 L.length)∧lk 16 σ.t=some (.int .i64 k)∧σ.b[j]? = some (.own (L.map SV.str) 9 1 L.length true)∧(x.take i).all ml=true) (fun σ=>x.length - iH 5 σ) ⟨0,by omega,rfl,rfl,h14,h15,h16,hb,rfl⟩ ?_
   rintro⟨t',b'⟩ ⟨i,hi,g4,g5,g14,g15,g16,gb,gI⟩
   simp only at g4 g5 g14 g15 g16 gb
   rw[ax g5]
   by_cases dR:i<x.length
   ·have hg:x.getD i 0=x[i]:=by simp[zLe,dR]
    simp only[ad,↓Xn,↓Xo,↓Xg,↓Xd,↓Xe,↓Xf,Tryz.VΓ,Tryz.Γs,Xp,Xi,Nat.reduceAdd,Nat.reduceSub,Nat.reduceLT,Nat.reduceLeDiff,reduceIte,reduceCtorEq,Nat.reduceEqDiff,implies_true,forall_const,aa,g4,g5,g14,g15,g16,gb,hg]
    refine⟨fun _=>⟨⟨by omega,by omega⟩,?_⟩,fun h=>absurd h (by simp;omega)⟩
    (refine ae (EY x[i]) ?_;simp only[ad,↓Xn,↓Xo,↓Xg,↓Xd,↓Xe,↓Xf,Tryz.VΓ,Tryz.Γs,Xp,Xi,Nat.reduceAdd,Nat.reduceSub,Nat.reduceLT,Nat.reduceLeDiff,reduceIte,reduceCtorEq,Nat.reduceEqDiff,implies_true,forall_const,aa,g4,g5,g14,g15,g16,gb,hg])
    refine⟨fun ha=>?_,fun ha=>⟨⟨by omega,by omega⟩,⟨i+1,by omega,rfl,aS dR gI (by simpa using ha)⟩,?_⟩⟩
    ·have ha:ml x[i]=false:=by simpa using ha
     rw[rn (by unfold fX;rw[cQ dR ha,Bool.and_false])]
    ·rw[ax (k:=.i64) (n:=(i:Int)+1) rfl];omega
   ·have jq:i=x.length:=by omega
    subst jq
    rw[zLj]at gI
    have hax:fX x=true:=by unfold fX;rw[hn,gI];rfl
    simp only[ad,↓Xn,↓Xo,↓Xg,↓Xd,↓Xe,↓Xf,Tryz.VΓ,Tryz.Γs,Xp,Xi,Nat.reduceAdd,Nat.reduceSub,Nat.reduceLT,Nat.reduceLeDiff,reduceIte,reduceCtorEq,Nat.reduceEqDiff,implies_true,forall_const,aa,g4,g5,g14,g15,g16,gb]
    refine⟨fun h=>absurd h (by simp),fun _=>⟨⟨by omega,by omega⟩,⟨k+1,by omega,rfl,aS aA bU (by rw[hx];exact hax)⟩,?_⟩⟩
    rw[ax (k:=.i64) (n:=(k:Int)+1) rfl];omega
  ·have jq:k=L.length:=by omega
   subst jq
   rw[zLj]at bU
   simp only[ad,↓Xn,↓Xo,↓Xg,↓Xd,↓Xe,↓Xf,Tryz.VΓ,Tryz.Γs,Xp,Xi,Nat.reduceAdd,Nat.reduceSub,Nat.reduceLT,Nat.reduceLeDiff,reduceIte,reduceCtorEq,Nat.reduceEqDiff,implies_true,forall_const,aa,h14,h15,h16,hb]
   exact⟨fun h=>absurd h (by simp),fun _=>by rw[bU]⟩
 ·have bk:s=[]:=by simpa using bk
  subst bk;rfl
def dY (u:eS):SV:=.agg [.str u.host,.int .i64 u.port,.str u.path,.str u.query,.str u.fragment,.bool u.bh,.bool u.bA]
def Fair (u:eS):Prop:=u.host.length+u.path.length+u.query.length+u.fragment.length≤1000000∧-9223372036854775808≤u.port∧u.port≤9223372036854775807
theorem oF (x:Bytes){p:Int}(h0:-9223372036854775808≤p)(h1:p≤9223372036854775807):(bc x p).length≤x.length+22:=by
 have:=dB 19 p.natAbs (by omega)
 unfold bc
 split
 ·omega
 ·split <;> simp <;> omega
theorem ou (u:eS):(eG u).length≤u.path.length+u.query.length+1:=by
 unfold eG
 split
 ·simp;omega
 ·omega
theorem ya (u:eS)(hk:Fair u):PC Tryz.V 155 [dY u] (.str (eG u)):=by
 obtain⟨hk,-⟩:=hk
 (refine aU 3000 Tryz.func155 rfl Tryz.ntmps155 Tryz.results155 Tryz.call155 (by simp) (by simp[flat,flat.ai,dY]) (by simp[flat,flat.ai,dY]) ?_
  unfold dY
  simp only[ad,↓Xn,↓Xo,↓Xg,↓Xd,↓Xe,↓Xf,Tryz.VΓ,Tryz.Γs,Xp,Xi,Nat.reduceAdd,Nat.reduceSub,Nat.reduceLT,Nat.reduceLeDiff,reduceIte,reduceCtorEq,Nat.reduceEqDiff,implies_true,forall_const,aa])
 unfold eG
 refine⟨fun h=>?_,fun h=>?_⟩
 ·simp[h]
  refine⟨by omega,by omega⟩
 ·simp[h]
theorem yb (u:eS):PC Tryz.V 154 [dY u] (.agg [.str u.host,.int .i64 u.port]):=by
 (refine aU 3000 Tryz.func154 rfl Tryz.ntmps154 Tryz.results154 Tryz.call154 (by simp) (by simp[flat,flat.ai,dY]) (by simp[flat,flat.ai,dY]) ?_
  unfold dY
  simp only[ad,↓Xn,↓Xo,↓Xg,↓Xd,↓Xe,↓Xf,Tryz.VΓ,Tryz.Γs,Xp,Xi,Nat.reduceAdd,Nat.reduceSub,Nat.reduceLT,Nat.reduceLeDiff,reduceIte,reduceCtorEq,Nat.reduceEqDiff,implies_true,forall_const,aa])
theorem gO (u:eS)(hk:Fair u):PC Tryz.V 119 [dY u] (.str (cy u)):=by
 have hl:=hk.1
 have hx:=oF u.host hk.2.1 hk.2.2
 have ht:=ou u
 have pt:=ya u hk
 have po:=yb u
 have pf:=vS u.host u.port (by omega) hk.2.1 hk.2.2
 (refine aU 3000 Tryz.func119 rfl Tryz.ntmps119 Tryz.results119 Tryz.call119 (by simp) (by simp[flat,flat.ai,dY]) (by simp[flat,flat.ai,dY]) ?_
  unfold dY
  simp only[ad,↓Xn,↓Xo,↓Xg,↓Xd,↓Xe,↓Xf,Tryz.VΓ,Tryz.Γs,Xp,Xi,Nat.reduceAdd,Nat.reduceSub,Nat.reduceLT,Nat.reduceLeDiff,reduceIte,reduceCtorEq,Nat.reduceEqDiff,implies_true,forall_const,aa])
 unfold dY at pt po
 (refine aV (po) ?_;simp only[ad,↓Xn,↓Xo,↓Xg,↓Xd,↓Xe,↓Xf,Tryz.VΓ,Tryz.Γs,Xp,Xi,Nat.reduceAdd,Nat.reduceSub,Nat.reduceLT,Nat.reduceLeDiff,reduceIte,reduceCtorEq,Nat.reduceEqDiff,implies_true,forall_const,aa])
 (refine aV (pf) ?_;simp only[ad,↓Xn,↓Xo,↓Xg,↓Xd,↓Xe,↓Xf,Tryz.VΓ,Tryz.Γs,Xp,Xi,Nat.reduceAdd,Nat.reduceSub,Nat.reduceLT,Nat.reduceLeDiff,reduceIte,reduceCtorEq,Nat.reduceEqDiff,implies_true,forall_const,aa])
 refine⟨by omega,?_⟩
 (refine aV (pt) ?_;simp only[ad,↓Xn,↓Xo,↓Xg,↓Xd,↓Xe,↓Xf,Tryz.VΓ,Tryz.Γs,Xp,Xi,Nat.reduceAdd,Nat.reduceSub,Nat.reduceLT,Nat.reduceLeDiff,reduceIte,reduceCtorEq,Nat.reduceEqDiff,implies_true,forall_const,aa])
 unfold cy
 refine⟨by omega,(av (by kernel_rfl)),fun h=>⟨by omega,by simp only[zLi];omega,?_⟩,fun h=>?_⟩
 ·rw[if_pos h];simp
 ·rw[if_neg (by simp[h])];simp
theorem Af (u:eS)(hk:Fair u):PC Tryz.V 103 [dY u] (.str (eG u)):=by
 obtain⟨hk,-⟩:=hk
 (refine aU 3000 Tryz.func103 rfl Tryz.ntmps103 Tryz.results103 Tryz.call103 (by simp) (by simp[flat,flat.ai,dY]) (by simp[flat,flat.ai,dY]) ?_
  unfold dY
  simp only[ad,↓Xn,↓Xo,↓Xg,↓Xd,↓Xe,↓Xf,Tryz.VΓ,Tryz.Γs,Xp,Xi,Nat.reduceAdd,Nat.reduceSub,Nat.reduceLT,Nat.reduceLeDiff,reduceIte,reduceCtorEq,Nat.reduceEqDiff,implies_true,forall_const,aa])
 unfold eG
 refine⟨fun h=>?_,fun h=>?_⟩
 ·simp[h]
  refine⟨by omega,by omega⟩
 ·simp[h]
theorem Ag (u:eS):PC Tryz.V 102 [dY u] (.agg [.str u.host,.int .i64 u.port]):=by
 (refine aU 3000 Tryz.func102 rfl Tryz.ntmps102 Tryz.results102 Tryz.call102 (by simp) (by simp[flat,flat.ai,dY]) (by simp[flat,flat.ai,dY]) ?_
  unfold dY
  simp only[ad,↓Xn,↓Xo,↓Xg,↓Xd,↓Xe,↓Xf,Tryz.VΓ,Tryz.Γs,Xp,Xi,Nat.reduceAdd,Nat.reduceSub,Nat.reduceLT,Nat.reduceLeDiff,reduceIte,reduceCtorEq,Nat.reduceEqDiff,implies_true,forall_const,aa])
theorem j6 (u:eS)(hk:Fair u):PC Tryz.V 77 [dY u] (.str (cy u)):=by
 have hl:=hk.1
 have hx:=oF u.host hk.2.1 hk.2.2
 have ht:=ou u
 have pt:=Af u hk
 have po:=Ag u
 have pf:=Ai u.host u.port (by omega) hk.2.1 hk.2.2
 (refine aU 3000 Tryz.func77 rfl Tryz.ntmps77 Tryz.results77 Tryz.call77 (by simp) (by simp[flat,flat.ai,dY]) (by simp[flat,flat.ai,dY]) ?_
  unfold dY
  simp only[ad,↓Xn,↓Xo,↓Xg,↓Xd,↓Xe,↓Xf,Tryz.VΓ,Tryz.Γs,Xp,Xi,Nat.reduceAdd,Nat.reduceSub,Nat.reduceLT,Nat.reduceLeDiff,reduceIte,reduceCtorEq,Nat.reduceEqDiff,implies_true,forall_const,aa])
 unfold dY at pt po
 (refine aV (po) ?_;simp only[ad,↓Xn,↓Xo,↓Xg,↓Xd,↓Xe,↓Xf,Tryz.VΓ,Tryz.Γs,Xp,Xi,Nat.reduceAdd,Nat.reduceSub,Nat.reduceLT,Nat.reduceLeDiff,reduceIte,reduceCtorEq,Nat.reduceEqDiff,implies_true,forall_const,aa])
 (refine aV (pf) ?_;simp only[ad,↓Xn,↓Xo,↓Xg,↓Xd,↓Xe,↓Xf,Tryz.VΓ,Tryz.Γs,Xp,Xi,Nat.reduceAdd,Nat.reduceSub,Nat.reduceLT,Nat.reduceLeDiff,reduceIte,reduceCtorEq,Nat.reduceEqDiff,implies_true,forall_const,aa])
 refine⟨by omega,?_⟩
 (refine aV (pt) ?_;simp only[ad,↓Xn,↓Xo,↓Xg,↓Xd,↓Xe,↓Xf,Tryz.VΓ,Tryz.Γs,Xp,Xi,Nat.reduceAdd,Nat.reduceSub,Nat.reduceLT,Nat.reduceLeDiff,reduceIte,reduceCtorEq,Nat.reduceEqDiff,implies_true,forall_const,aa])
 unfold cy
 refine⟨by omega,(av (by kernel_rfl)),fun h=>⟨by omega,by simp only[zLi];omega,?_⟩,fun h=>?_⟩
 ·rw[if_pos h];simp
 ·rw[if_neg (by simp[h])];simp
theorem x7 (l:Bytes)(c:UInt8):pre (·==c) l<l.length↔c∈l:=by
 induction l with
 | nil=>simp[pre]
 | cons x l ih =>
   rw[bX]
   by_cases h:x=c
   ·simp[h]
   ·rw[if_neg (by simpa using h)]
    simp only[zK7,Nat.add_lt_add_iff_right,ih,List.mem_cons]
    exact⟨.inr,fun k=>k.resolve_left fun e=>h e.symm⟩
theorem yO (l:Bytes)(c:UInt8):decide (0≤Lib.indexByte l c)=decide (c∈l):=by
 rw[cS]
 by_cases h:c∈l
 ·rw[if_pos ((x7 l c).2 h)];simp[h]
 ·rw[if_neg (fun k=>h ((x7 l c).1 k))];simp[h]
theorem tT (l:Bytes)(c:UInt8):PC Tryz.V 150 [.str l,.str [c]] (.bool (decide (c∈l))) :=
 ⟨Tryz.call150,by simp[flat,flat.ai],by simp[flat,flat.ai],fun w hE=>(Tryz.strings_Contains_one ⟨zK4 l⟩ c w).mono fun _ _ ⟨h,k⟩=>⟨by
  rw[h]
  have e:decide (0≤Lib.indexByte l c)=decide (c∈l):=yO l c
  rw[← e];rfl,cO k.symm⟩⟩
def eW (d:fM):SV:=.agg [.str d.method,.str d.id]
def dusv (u:DidUrl):SV:=.agg [.str u.did.method,.str u.did.id,.str u.path,.str u.query,.str u.fragment,.bool u.bh,.bool u.bA]
theorem pS (s:Bytes)(c:UInt8)(new:Bytes)(bk:([c]==new)=false)(hs:s.length≤1000000)(hn:new.length≤1000):PC Tryz.V 183 [.str s,.str [c],.str new] (.str (s.flatMap (mR c new))) :=
 ⟨Tryz.call183,by simp[flat,flat.ai],by simp[flat,flat.ai],fun w ⟨m,hm⟩=>by
  have hc:Lib.countB ⟨zK4 s⟩ ⟨#[c]⟩≤s.length+1:=Lib.count_le s [c]
  have hm2:Lib.countB ⟨zK4 s⟩ ⟨#[c]⟩ * new.length≤1000001 * 1000:=Nat.mul_le_mul (by omega) hn
  refine(Tryz.strings_ReplaceAll ⟨zK4 s⟩ ⟨#[c]⟩ ⟨zK4 new⟩ m w (show s.length<4294967281 by omega) hm (zLf 1) (show s.length+Lib.countB ⟨zK4 s⟩ ⟨#[c]⟩ * new.length≤140737488355328 by omega)).mono fun _ _ ⟨h,k⟩=>⟨?_,k⟩
  rw[h,← tB c new s bk]
  rfl⟩
theorem Ap (s:Bytes)(c:UInt8)(hs:s.length≤1000000):PC Tryz.V 159 [.str s,.str [c]] (.bool (decide (s.getLast? = some c))) :=
 ⟨Tryz.call159,by simp[flat,flat.ai],by simp[flat,flat.ai],fun w _=>(Tryz.strings_HasSuffix ⟨zK4 s⟩ ⟨#[c]⟩ w (show s.length≤9223372036854775807 by omega)).mono fun _ _ ⟨h,k⟩=>⟨by
  rw[h]
  have e:Lib.hasSuffix s [c]=decide (s.getLast? = some c):=by
   unfold Lib.hasSuffix
   rcases List.eq_nil_or_concat s with rfl|⟨a,d,rfl⟩
   ·rfl
   ·rw[List.concat_eq_append,Bool.eq_iff_iff,List.isSuffixOf_iff_suffix,decide_eq_true_eq,List.getLast?_concat,zK8.injEq]
    constructor
    ·rintro⟨t,ht⟩
     have:=congrArg List.getLast? ht
     simpa using this.symm
    ·rintro rfl;exact⟨a,rfl⟩
  rw[← e];rfl,cO k.symm⟩⟩
theorem im (c:UInt8)(h:isDigit c=false):eQ c=(decide (97≤c.toNat)&&decide (c.toNat≤122)):=by
 unfold eQ;rw[h];simp[Bool.decide_and]
theorem yi (s:Bytes)(hs:s.length≤1000000):PC Tryz.V 157 [.str s] (.bool (dy s)):=by
 refine aU 3000 Tryz.func157 rfl Tryz.ntmps157 Tryz.results157 Tryz.call157 (by simp) (by simp[flat,flat.ai]) (by simp[flat,flat.ai]) ?_
 simp only[ad,↓Xn,↓Xo,↓Xg,↓Xd,↓Xe,↓Xf,Tryz.VΓ,Tryz.Γs,Xp,Xi,Nat.reduceAdd,Nat.reduceSub,Nat.reduceLT,Nat.reduceLeDiff,reduceIte,reduceCtorEq,Nat.reduceEqDiff,implies_true,forall_const,aa]
 refine aJ (fun σ=>∃ i:Nat,i≤s.length∧lk 0 σ.t=some (.str s)∧lk 4 σ.t=some (.str s)∧lk 5 σ.t=some (.int .i64 s.length)∧lk 6 σ.t=some (.int .i64 i)∧(s.take i).all eQ=true) (fun σ=>s.length - iH 6 σ) ⟨0,by omega,rfl,rfl,rfl,rfl,rfl⟩ ?_
 rintro⟨t,b⟩ ⟨i,hi,h0,h4,h5,h6,bU⟩
 simp only at h0 h4 h5 h6
 rw[ax h6]
 by_cases aA:i<s.length
 ·have hg:s.getD i 0=s[i]:=by simp[zLe,aA]
  have jL:eQ s[i]=false→dy s=false:=fun h=>by
   unfold dy
   rw[cQ aA h,Bool.and_false]
  simp only[ad,↓Xn,↓Xo,↓Xg,↓Xd,↓Xe,↓Xf,Tryz.VΓ,Tryz.Γs,Xp,Xi,Nat.reduceAdd,Nat.reduceSub,Nat.reduceLT,Nat.reduceLeDiff,reduceIte,reduceCtorEq,Nat.reduceEqDiff,implies_true,forall_const,aa,h0,h4,h5,h6,hg]
  refine⟨fun _=>⟨⟨by omega,by omega⟩,?_⟩,fun h=>absurd h (by simp;omega)⟩
  (refine ae (nW s[i]) ?_;simp only[ad,↓Xn,↓Xo,↓Xg,↓Xd,↓Xe,↓Xf,Tryz.VΓ,Tryz.Γs,Xp,Xi,Nat.reduceAdd,Nat.reduceSub,Nat.reduceLT,Nat.reduceLeDiff,reduceIte,reduceCtorEq,Nat.reduceEqDiff,implies_true,forall_const,aa,h0,h4,h5,h6,hg])
  have fin:eQ s[i]=true→∀ (t':List (Nat × SV)),lk 6 t'=some (.int .i64 ((i:Int)+1))→(∃ k:Nat,k≤s.length∧SV.int IntKind.i64 ((i:Int)+1)=SV.int IntKind.i64 (k:Int)∧(s.take k).all eQ=true)∧s.length - iH 6 ⟨t',b⟩<s.length - (i:Int).toNat:=fun hm t' k6 =>
   ⟨⟨i+1,by omega,rfl,aS aA bU hm⟩,by rw[ax (σ:=⟨t',b⟩) k6];omega⟩
  cases hd:isDigit s[i]
  ·refine⟨fun _=>⟨⟨by omega,by omega⟩,fun h1=>⟨⟨by omega,by omega⟩,fun h2=>?_,fun h2=>⟨⟨by omega,by omega⟩,fin ?_ _ rfl⟩⟩,fun h1=>?_⟩,fun h=>(by cases h)⟩
   ·rw[jL (by rw[im _ hd];simp at h1 h2 ⊢;omega)]
   ·rw[im _ hd];simp at h1 h2 ⊢;omega
   ·rw[jL (by rw[im _ hd];simp at h1 ⊢;omega)]
  ·exact⟨fun h=>(by cases h),fun _=>⟨⟨by omega,by omega⟩,fin (by unfold eQ;rw[hd];rfl) _ rfl⟩⟩
 ·have jq:i=s.length:=by omega
  subst jq
  rw[zLj]at bU
  simp only[ad,↓Xn,↓Xo,↓Xg,↓Xd,↓Xe,↓Xf,Tryz.VΓ,Tryz.Γs,Xp,Xi,Nat.reduceAdd,Nat.reduceSub,Nat.reduceLT,Nat.reduceLeDiff,reduceIte,reduceCtorEq,Nat.reduceEqDiff,implies_true,forall_const,aa,h0,h4,h5,h6]
  refine⟨fun h=>absurd h (by simp),fun _=>?_⟩
  unfold dy
  rw[bU,Bool.and_true]
  cases s <;> rfl
theorem sx (s:Bytes)(hs:s.length≤4096):PC Tryz.V 158 [.str s] (.eN [.str (eI s).1,.int .i64 (eI s).2]):=by
 have pn:=iM s [58] (by decide)
 have pd:=na s
 have pc:=tT s 126
 have pr:=pS (aY [58] s).1 126 [37,55,69] (by decide) (by have:=dw [58] s;omega) (by decide)
 unfold eI
 generalize aY [58] s=n at *
 generalize aj s=d at *
 obtain⟨n,e⟩:=n
 obtain⟨d,f⟩:=d
 simp only at pn pd pr ⊢
 refine aU 3000 Tryz.func158 rfl Tryz.ntmps158 Tryz.results158 Tryz.call158 (by simp) (by simp[flat,flat.ai]) (by simp[flat,flat.ai]) ?_
 simp only[ad,↓Xn,↓Xo,↓Xg,↓Xd,↓Xe,↓Xf,Tryz.VΓ,Tryz.Γs,Xp,Xi,Nat.reduceAdd,Nat.reduceSub,Nat.reduceLT,Nat.reduceLeDiff,reduceIte,reduceCtorEq,Nat.reduceEqDiff,implies_true,forall_const,aa]
 (refine ae (pn) ?_;simp only[ad,↓Xn,↓Xo,↓Xg,↓Xd,↓Xe,↓Xf,Tryz.VΓ,Tryz.Γs,Xp,Xi,Nat.reduceAdd,Nat.reduceSub,Nat.reduceLT,Nat.reduceLeDiff,reduceIte,reduceCtorEq,Nat.reduceEqDiff,implies_true,forall_const,aa])
 (refine ae (pd) ?_;simp only[ad,↓Xn,↓Xo,↓Xg,↓Xd,↓Xe,↓Xf,Tryz.VΓ,Tryz.Γs,Xp,Xi,Nat.reduceAdd,Nat.reduceSub,Nat.reduceLT,Nat.reduceLeDiff,reduceIte,reduceCtorEq,Nat.reduceEqDiff,implies_true,forall_const,aa])
 refine⟨fun h1=>?_,fun h1=>?_⟩
 ·rw[if_pos (by simpa using h1)]
 rw[if_neg (by simpa using h1)]
 refine⟨fun h2=>?_,fun h2=>?_⟩
 ·have h2:e=0:=by simpa using h2
  (refine ae pc ?_;simp only[ad,↓Xn,↓Xo,↓Xg,↓Xd,↓Xe,↓Xf,Tryz.VΓ,Tryz.Γs,Xp,Xi,Nat.reduceAdd,Nat.reduceSub,Nat.reduceLT,Nat.reduceLeDiff,reduceIte,reduceCtorEq,Nat.reduceEqDiff,implies_true,forall_const,aa])
  refine⟨fun h3=>?_,fun h3=>?_⟩
  ·(refine ae pr ?_;simp only[ad,↓Xn,↓Xo,↓Xg,↓Xd,↓Xe,↓Xf,Tryz.VΓ,Tryz.Γs,Xp,Xi,Nat.reduceAdd,Nat.reduceSub,Nat.reduceLT,Nat.reduceLeDiff,reduceIte,reduceCtorEq,Nat.reduceEqDiff,implies_true,forall_const,aa])
   rw[if_pos ⟨h2,of_decide_eq_true h3⟩]
  ·(refine ae pr ?_;simp only[ad,↓Xn,↓Xo,↓Xg,↓Xd,↓Xe,↓Xf,Tryz.VΓ,Tryz.Γs,Xp,Xi,Nat.reduceAdd,Nat.reduceSub,Nat.reduceLT,Nat.reduceLeDiff,reduceIte,reduceCtorEq,Nat.reduceEqDiff,implies_true,forall_const,aa])
   rw[if_neg (fun k=>of_decide_eq_false h3 k.2)]
 ·have h2:¬ e=0:=by simpa using h2
  (refine ae pr ?_;simp only[ad,↓Xn,↓Xo,↓Xg,↓Xd,↓Xe,↓Xf,Tryz.VΓ,Tryz.Γs,Xp,Xi,Nat.reduceAdd,Nat.reduceSub,Nat.reduceLT,Nat.reduceLeDiff,reduceIte,reduceCtorEq,Nat.reduceEqDiff,implies_true,forall_const,aa])
  rw[if_neg (fun k=>h2 k.1)]
theorem progEnd (m s:Bytes)(hs:s.length≤4096):jN m (eI s)=jN m (cx s):=by
 have h:=x5 s (by omega)
 unfold jN
 rw[h.1]
 by_cases k:(cx s).2=0
 ·rw[h.2 k]
 ·rw[if_pos k,if_pos k]
theorem vN (s:Bytes):(eI s).1.length≤9 * s.length:=by
 unfold eI
 split
 ·simp
 ·have h1:=dw [58] s
  have h2:∀ l:Bytes,(l.flatMap (mR 126 [37,55,69])).length≤3 * l.length:=by
   intro l
   induction l with
   | nil=>simp
   | cons c l ih =>
     rw[List.flatMap_cons,zLi,zK7]
     have:(mR 126 [37,55,69] c).length≤3:=by unfold mR;split <;> simp
     omega
  have:=h2 (aY [58] s).1
  simp only
  omega
theorem mZ (s:Bytes):PC Tryz.V 120 [.str s] (.eN [eW (aZ s).1,.int .i64 (aZ s).2]):=by
 refine aU 3000 Tryz.func120 rfl Tryz.ntmps120 Tryz.results120 Tryz.call120 (by simp) (by simp[flat,flat.ai,eW,dusv]) (by simp[flat,flat.ai,eW,dusv]) ?_
 simp only[ad,↓Xn,↓Xo,↓Xg,↓Xd,↓Xe,↓Xf,Tryz.VΓ,Tryz.Γs,Xp,Xi,Nat.reduceAdd,Nat.reduceSub,Nat.reduceLT,Nat.reduceLeDiff,reduceIte,reduceCtorEq,Nat.reduceEqDiff,implies_true,forall_const,aa]
 unfold aZ
 refine⟨fun h=>?_,fun h=>?_⟩
 ·have h:4096<s.length:=(by simp at h;omega)
  rw[if_pos h];rfl
 have h:¬ 4096<s.length:=(by simp at h;omega)
 rw[if_neg h]
 have pp:=kb s jY
 have hT:jY.isPrefixOf s=true→Lib.trimPrefix s jY=s.drop 4:=fun k=>if_pos k
 rw[show Lib.hasPrefix s jY=jY.isPrefixOf s from rfl]at pp
 (refine ae pp ?_;simp only[ad,↓Xn,↓Xo,↓Xg,↓Xd,↓Xe,↓Xf,Tryz.VΓ,Tryz.Γs,Xp,Xi,Nat.reduceAdd,Nat.reduceSub,Nat.reduceLT,Nat.reduceLeDiff,reduceIte,reduceCtorEq,Nat.reduceEqDiff,implies_true,forall_const,aa])
 refine⟨fun h2=>?_,fun h2=>?_⟩
 ·rw[if_pos (by simpa using h2)];rfl
 rw[if_neg (by simpa using h2)]
 rw[hT (by simpa using h2)]
 have hS:(s.drop 4).length≤4096:=by simp;omega
 generalize s.drop 4=S at hS ⊢
 have pc:=tS S 58 (by omega)
 have dO:=dQ 58 S
 unfold lQ
 generalize aM 58 S=x at pc dO ⊢
 obtain⟨m,i,ok⟩:=x
 simp only at pc dO ⊢
 (refine ae pc ?_;simp only[ad,↓Xn,↓Xo,↓Xg,↓Xd,↓Xe,↓Xf,Tryz.VΓ,Tryz.Γs,Xp,Xi,Nat.reduceAdd,Nat.reduceSub,Nat.reduceLT,Nat.reduceLeDiff,reduceIte,reduceCtorEq,Nat.reduceEqDiff,implies_true,forall_const,aa])
 refine⟨fun h3=>?_,fun h3=>?_⟩
 ·rw[if_pos (by simpa using h3)];rfl
 rw[if_neg (by simpa using h3)]
 (refine ae (yi m (by omega)) ?_;simp only[ad,↓Xn,↓Xo,↓Xg,↓Xd,↓Xe,↓Xf,Tryz.VΓ,Tryz.Γs,Xp,Xi,Nat.reduceAdd,Nat.reduceSub,Nat.reduceLT,Nat.reduceLeDiff,reduceIte,reduceCtorEq,Nat.reduceEqDiff,implies_true,forall_const,aa])
 refine⟨fun h4=>?_,fun h4=>?_⟩
 ·rw[if_pos (by simpa using h4)];rfl
 rw[if_neg (by simpa using h4)]
 have hi:i.length≤4096:=by omega
 rw[← progEnd m i hi]
 have pk:=sx i hi
 have sV:=vN i
 generalize eI i=k at *
 obtain⟨k,e⟩:=k
 simp only at pk sV
 have ps:=Ap k 58 (by omega)
 unfold jN
 simp only
 (refine ae pk ?_;simp only[ad,↓Xn,↓Xo,↓Xg,↓Xd,↓Xe,↓Xf,Tryz.VΓ,Tryz.Γs,Xp,Xi,Nat.reduceAdd,Nat.reduceSub,Nat.reduceLT,Nat.reduceLeDiff,reduceIte,reduceCtorEq,Nat.reduceEqDiff,implies_true,forall_const,aa])
 refine⟨fun h5=>?_,fun h5=>?_⟩
 ·rw[if_pos (by simpa using h5)];rfl
 rw[if_neg (by simpa using h5)]
 refine⟨fun h6=>?_,fun h6=>?_⟩
 ·(refine ae ps ?_;simp only[ad,↓Xn,↓Xo,↓Xg,↓Xd,↓Xe,↓Xf,Tryz.VΓ,Tryz.Γs,Xp,Xi,Nat.reduceAdd,Nat.reduceSub,Nat.reduceLT,Nat.reduceLeDiff,reduceIte,reduceCtorEq,Nat.reduceEqDiff,implies_true,forall_const,aa])
  refine⟨fun h7=>?_,fun h7=>?_⟩
  ·rw[if_pos (.inr (of_decide_eq_true h7))];rfl
  ·rw[if_neg (by simp only[not_or];exact⟨by simpa using h6,of_decide_eq_false h7⟩)];rfl
 ·rw[if_pos (.inl (by simpa using h6))];rfl
def er (d:fM):Prop:=d.method.length≤140737488355328∧d.id.length≤140737488355328
theorem sh (d:fM):(bu d).length=d.method.length+d.id.length+5:=by simp[bu,jY];omega
theorem dr (d:fM)(h:er d):PC Tryz.V 123 [eW d] (.str (bu d)):=by
 obtain⟨m,i⟩:=d
 simp only[er]at h
 refine aU 3000 Tryz.func123 rfl Tryz.ntmps123 Tryz.results123 Tryz.call123 (by simp) (by simp[flat,flat.ai,eW,dusv]) (by simp[flat,flat.ai,eW,dusv]) ?_
 unfold eW
 simp only[ad,↓Xn,↓Xo,↓Xg,↓Xd,↓Xe,↓Xf,Tryz.VΓ,Tryz.Γs,Xp,Xi,Nat.reduceAdd,Nat.reduceSub,Nat.reduceLT,Nat.reduceLeDiff,reduceIte,reduceCtorEq,Nat.reduceEqDiff,implies_true,forall_const,aa]
 simp only[zLi,zK7,zK9]
 refine⟨by omega,by omega,by omega,?_⟩
 simp[bu,jY]
theorem dI (c:UInt8)(s:Bytes):pre (([c]:Bytes).contains ·) s=pre (·==c) s:=by
 congr 1
 funext x
 by_cases h:x=c
 ·subst h;simp
 ·simp[h]
theorem cC {s:Bytes}(h:Lib.hasPrefix s [47,47]=true):aC s=((s.take (2+pre (·==47) (s.drop 2))).drop 2,true,s.drop (2+pre (·==47) (s.drop 2))):=by
 rw[jt h]
 have e:Lib.trimPrefix s [47,47]=s.drop 2:=by unfold Lib.trimPrefix;rw[if_pos h];rfl
 rw[e,List.drop_take,List.drop_drop]
 simp
theorem Cp (s:Bytes):PC Tryz.V 98 [.str s] (.eN [usv (a8 s).1,.int .i64 (a8 s).2]):=by
 (refine aU 3000 Tryz.func98 rfl Tryz.ntmps98 Tryz.results98 Tryz.call98 (by simp) (by simp[flat,flat.ai,usv]) (by simp[flat,flat.ai,usv]) ?_
  simp only[ad,↓Xn,↓Xo,↓Xg,↓Xd,↓Xe,↓Xf,Tryz.VΓ,Tryz.Γs,Xp,Xi,Nat.reduceAdd,Nat.reduceSub,Nat.reduceLT,Nat.reduceLeDiff,reduceIte,reduceCtorEq,Nat.reduceEqDiff,implies_true,forall_const,aa])
 refine⟨fun h=>?_,fun h=>?_⟩
 ·have:a8 s=(Uri.none,5):=if_pos (by simp at h;omega)
  rw[this];rfl
 ·have hq:a8 s=aL (aM 63 (aM 35 s).1).1 (aM 35 s).2.1 (aM 63 (aM 35 s).1).2.1 (aM 35 s).2.2 (aM 63 (aM 35 s).1).2.2:=if_neg (by simp at h;omega)
  rw[hq]
  have hs:s.length≤4294967281:=by simp at h;omega
  have px:=bg s [35] hs (by simp)
  rw[dI]at px
  (refine ae (px) ?_;simp only[ad,↓Xn,↓Xo,↓Xg,↓Xd,↓Xe,↓Xf,Tryz.VΓ,Tryz.Γs,Xp,Xi,Nat.reduceAdd,Nat.reduceSub,Nat.reduceLT,Nat.reduceLeDiff,reduceIte,reduceCtorEq,Nat.reduceEqDiff,implies_true,forall_const,aa])
  refine⟨fun iN=>?_,fun iN=>?_⟩
  ·have hk1':pre (·==35) s<s.length:=by simpa using iN
   rw[show aM 35 s=(s.take (pre (·==35) s),s.drop (pre (·==35) s+1),true) from if_pos hk1']
   simp only
   have ny:(s.take (pre (·==35) s)).length≤4294967281:=by rw[zLd];omega
   refine⟨by omega,by omega,by omega,(av (by kernel_rfl)),?_⟩
   generalize s.take (pre (·==35) s)=s1 at ny ⊢
   generalize s.drop (pre (·==35) s+1)=fr
   (
    have px2:=bg s1 [63] (by omega) (by simp)
    rw[dI]at px2
    (refine ae (px2) ?_;simp only[ad,↓Xn,↓Xo,↓Xg,↓Xd,↓Xe,↓Xf,Tryz.VΓ,Tryz.Γs,Xp,Xi,Nat.reduceAdd,Nat.reduceSub,Nat.reduceLT,Nat.reduceLeDiff,reduceIte,reduceCtorEq,Nat.reduceEqDiff,implies_true,forall_const,aa])
    refine⟨fun fH=>?_,fun fH=>?_⟩
    ·have hk2':pre (·==63) s1<s1.length:=by simpa using fH
     rw[show aM 63 s1=(s1.take (pre (·==63) s1),s1.drop (pre (·==63) s1+1),true) from if_pos hk2']
     simp only
     have gF:(s1.take (pre (·==63) s1)).length≤4294967281:=by rw[zLd];omega
     refine⟨by omega,by omega,by omega,(av (by kernel_rfl)),?_⟩
     generalize s1.take (pre (·==63) s1)=s2 at gF ⊢
     generalize s1.drop (pre (·==63) s1+1)=qu
     (
      have px3:=bg s2 [58,47] (by omega) (by simp)
      rw[show pre (([58,47]:Bytes).contains ·) s2=pre aq s2 from rfl]at px3
      (refine ae (px3) ?_;simp only[ad,↓Xn,↓Xo,↓Xg,↓Xd,↓Xe,↓Xf,Tryz.VΓ,Tryz.Γs,Xp,Xi,Nat.reduceAdd,Nat.reduceSub,Nat.reduceLT,Nat.reduceLeDiff,reduceIte,reduceCtorEq,Nat.reduceEqDiff,implies_true,forall_const,aa])
      refine⟨fun oH=>?_,fun oH=>?_⟩
      ·have hp:pre aq s2<s2.length:=by simpa using oH
       rw[cA (n:=58) hp 58 rfl]
       refine⟨by omega,fun h1=>⟨by omega,?_⟩,fun h1=>?_⟩
       ·have hh:(s2.drop (pre aq s2)).head? = some 58:=by
         rw[zLg,zK6 hp,beq_iff_eq.1 h1]
        (refine ae (j7 _ (by rw[zLd];omega)) ?_;simp only[ad,↓Xn,↓Xo,↓Xg,↓Xd,↓Xe,↓Xf,Tryz.VΓ,Tryz.Γs,Xp,Xi,Nat.reduceAdd,Nat.reduceSub,Nat.reduceLT,Nat.reduceLeDiff,reduceIte,reduceCtorEq,Nat.reduceEqDiff,implies_true,forall_const,aa])
        refine⟨fun h2=>?_,fun h2=>?_⟩
        ·have fK:∀ (f q:Bytes) (hf hq:Bool),aL s2 f q hf hq=(Uri.none,6):=fun f q hf hq=>by
          unfold aL
          rw[if_pos hh,if_neg (by rw[pV h2];simp)]
         rw[fK];rfl
        ·have fK:∀ (f q:Bytes) (hf hq:Bool),aL s2 f q hf hq=(⟨s2.take (pre aq s2),(aC (s2.drop (pre aq s2+1))).1,(aC (s2.drop (pre aq s2+1))).2.2,q,f,true,(aC (s2.drop (pre aq s2+1))).2.1,hq,hf⟩,0):=fun f q hf hq=>by
          unfold aL
          rw[if_pos hh,if_pos (pW h2)]
         have F5:(s2.drop (pre aq s2+1)).length≤4294967281:=by rw[zK5];omega
         refine⟨by omega,by omega,by omega,(av (by kernel_rfl)),?_⟩
         (
          (refine ae (bM (s2.drop (pre aq s2+1)) [47,47]) ?_;simp only[ad,↓Xn,↓Xo,↓Xg,↓Xd,↓Xe,↓Xf,Tryz.VΓ,Tryz.Γs,Xp,Xi,Nat.reduceAdd,Nat.reduceSub,Nat.reduceLT,Nat.reduceLeDiff,reduceIte,reduceCtorEq,Nat.reduceEqDiff,implies_true,forall_const,aa])
          cases gU:Lib.hasPrefix (s2.drop (pre aq s2+1)) [47,47]
          ·refine⟨fun h=>(by cases h),fun _=>?_⟩
           rw[fK,bZ gU];rfl
          ·refine⟨fun _=>?_,fun h=>(by cases h)⟩
           rw[fK,cC gU]
           have uH:=en gU
           simp only[zK7,zK9]at uH
           have px4:=bg ((s2.drop (pre aq s2+1)).drop 2) [47] (by rw[zK5];omega) (by simp)
           rw[dI]at px4
           have fT:=cq (·==47) ((s2.drop (pre aq s2+1)).drop 2)
           rw[zK5]at fT
           generalize pre (·==47) ((s2.drop (pre aq s2+1)).drop 2)=q at px4 fT ⊢
           refine⟨by omega,?_⟩
           (refine ae (px4) ?_;simp only[ad,↓Xn,↓Xo,↓Xg,↓Xd,↓Xe,↓Xf,Tryz.VΓ,Tryz.Γs,Xp,Xi,Nat.reduceAdd,Nat.reduceSub,Nat.reduceLT,Nat.reduceLeDiff,reduceIte,reduceCtorEq,Nat.reduceEqDiff,implies_true,forall_const,aa])
           rw[show (2+(q:Int)).toNat=2+q by omega]
           exact⟨by omega,by omega,by omega,(av (by kernel_rfl)),rfl⟩)
       ·have fK:∀ (f q:Bytes) (hf hq:Bool),aL s2 f q hf hq=(⟨[],(aC s2).1,(aC s2).2.2,q,f,false,(aC s2).2.1,hq,hf⟩,0):=fun f q hf hq=>by
         unfold aL
         rw[if_neg (by rw[zLg,zK6 hp];simpa using h1)]
        have F5:=gF
        (
         (refine ae (bM (s2) [47,47]) ?_;simp only[ad,↓Xn,↓Xo,↓Xg,↓Xd,↓Xe,↓Xf,Tryz.VΓ,Tryz.Γs,Xp,Xi,Nat.reduceAdd,Nat.reduceSub,Nat.reduceLT,Nat.reduceLeDiff,reduceIte,reduceCtorEq,Nat.reduceEqDiff,implies_true,forall_const,aa])
         cases gU:Lib.hasPrefix (s2) [47,47]
         ·refine⟨fun h=>(by cases h),fun _=>?_⟩
          rw[fK,bZ gU];rfl
         ·refine⟨fun _=>?_,fun h=>(by cases h)⟩
          rw[fK,cC gU]
          have uH:=en gU
          simp only[zK7,zK9]at uH
          have px4:=bg ((s2).drop 2) [47] (by rw[zK5];omega) (by simp)
          rw[dI]at px4
          have fT:=cq (·==47) ((s2).drop 2)
          rw[zK5]at fT
          generalize pre (·==47) ((s2).drop 2)=q at px4 fT ⊢
          refine⟨by omega,?_⟩
          (refine ae (px4) ?_;simp only[ad,↓Xn,↓Xo,↓Xg,↓Xd,↓Xe,↓Xf,Tryz.VΓ,Tryz.Γs,Xp,Xi,Nat.reduceAdd,Nat.reduceSub,Nat.reduceLT,Nat.reduceLeDiff,reduceIte,reduceCtorEq,Nat.reduceEqDiff,implies_true,forall_const,aa])
          rw[show (2+(q:Int)).toNat=2+q by omega]
          exact⟨by omega,by omega,by omega,(av (by kernel_rfl)),rfl⟩)
      ·have fK:∀ (f q:Bytes) (hf hq:Bool),aL s2 f q hf hq=(⟨[],(aC s2).1,(aC s2).2.2,q,f,false,(aC s2).2.1,hq,hf⟩,0):=fun f q hf hq=>by
        unfold aL
        rw[if_neg (by rw[zLl (by simp at oH;omega)];simp)]
       have F5:=gF
       (
        (refine ae (bM (s2) [47,47]) ?_;simp only[ad,↓Xn,↓Xo,↓Xg,↓Xd,↓Xe,↓Xf,Tryz.VΓ,Tryz.Γs,Xp,Xi,Nat.reduceAdd,Nat.reduceSub,Nat.reduceLT,Nat.reduceLeDiff,reduceIte,reduceCtorEq,Nat.reduceEqDiff,implies_true,forall_const,aa])
        cases gU:Lib.hasPrefix (s2) [47,47]
        ·refine⟨fun h=>(by cases h),fun _=>?_⟩
         rw[fK,bZ gU];rfl
        ·refine⟨fun _=>?_,fun h=>(by cases h)⟩
         rw[fK,cC gU]
         have uH:=en gU
         simp only[zK7,zK9]at uH
         have px4:=bg ((s2).drop 2) [47] (by rw[zK5];omega) (by simp)
         rw[dI]at px4
         have fT:=cq (·==47) ((s2).drop 2)
         rw[zK5]at fT
         generalize pre (·==47) ((s2).drop 2)=q at px4 fT ⊢
         refine⟨by omega,?_⟩
         (refine ae (px4) ?_;simp only[ad,↓Xn,↓Xo,↓Xg,↓Xd,↓Xe,↓Xf,Tryz.VΓ,Tryz.Γs,Xp,Xi,Nat.reduceAdd,Nat.reduceSub,Nat.reduceLT,Nat.reduceLeDiff,reduceIte,reduceCtorEq,Nat.reduceEqDiff,implies_true,forall_const,aa])
         rw[show (2+(q:Int)).toNat=2+q by omega]
         exact⟨by omega,by omega,by omega,(av (by kernel_rfl)),rfl⟩))
    ·have hk2':¬ pre (·==63) s1<s1.length:=by simpa using fH
     rw[show aM 63 s1=(s1,[],false) from if_neg hk2']
     simp only
     have gF:s1.length≤4294967281:=ny
     generalize s1=s2 at gF ⊢
     (
      have px3:=bg s2 [58,47] (by omega) (by simp)
      rw[show pre (([58,47]:Bytes).contains ·) s2=pre aq s2 from rfl]at px3
      (refine ae (px3) ?_;simp only[ad,↓Xn,↓Xo,↓Xg,↓Xd,↓Xe,↓Xf,Tryz.VΓ,Tryz.Γs,Xp,Xi,Nat.reduceAdd,Nat.reduceSub,Nat.reduceLT,Nat.reduceLeDiff,reduceIte,reduceCtorEq,Nat.reduceEqDiff,implies_true,forall_const,aa])
      refine⟨fun oH=>?_,fun oH=>?_⟩
      ·have hp:pre aq s2<s2.length:=by simpa using oH
       rw[cA (n:=58) hp 58 rfl]
       refine⟨by omega,fun h1=>⟨by omega,?_⟩,fun h1=>?_⟩
       ·have hh:(s2.drop (pre aq s2)).head? = some 58:=by
         rw[zLg,zK6 hp,beq_iff_eq.1 h1]
        (refine ae (j7 _ (by rw[zLd];omega)) ?_;simp only[ad,↓Xn,↓Xo,↓Xg,↓Xd,↓Xe,↓Xf,Tryz.VΓ,Tryz.Γs,Xp,Xi,Nat.reduceAdd,Nat.reduceSub,Nat.reduceLT,Nat.reduceLeDiff,reduceIte,reduceCtorEq,Nat.reduceEqDiff,implies_true,forall_const,aa])
        refine⟨fun h2=>?_,fun h2=>?_⟩
        ·have fK:∀ (f q:Bytes) (hf hq:Bool),aL s2 f q hf hq=(Uri.none,6):=fun f q hf hq=>by
          unfold aL
          rw[if_pos hh,if_neg (by rw[pV h2];simp)]
         rw[fK];rfl
        ·have fK:∀ (f q:Bytes) (hf hq:Bool),aL s2 f q hf hq=(⟨s2.take (pre aq s2),(aC (s2.drop (pre aq s2+1))).1,(aC (s2.drop (pre aq s2+1))).2.2,q,f,true,(aC (s2.drop (pre aq s2+1))).2.1,hq,hf⟩,0):=fun f q hf hq=>by
          unfold aL
          rw[if_pos hh,if_pos (pW h2)]
         have F5:(s2.drop (pre aq s2+1)).length≤4294967281:=by rw[zK5];omega
         refine⟨by omega,by omega,by omega,(av (by kernel_rfl)),?_⟩
         (
          (refine ae (bM (s2.drop (pre aq s2+1)) [47,47]) ?_;simp only[ad,↓Xn,↓Xo,↓Xg,↓Xd,↓Xe,↓Xf,Tryz.VΓ,Tryz.Γs,Xp,Xi,Nat.reduceAdd,Nat.reduceSub,Nat.reduceLT,Nat.reduceLeDiff,reduceIte,reduceCtorEq,Nat.reduceEqDiff,implies_true,forall_const,aa])
          cases gU:Lib.hasPrefix (s2.drop (pre aq s2+1)) [47,47]
          ·refine⟨fun h=>(by cases h),fun _=>?_⟩
           rw[fK,bZ gU];rfl
          ·refine⟨fun _=>?_,fun h=>(by cases h)⟩
           rw[fK,cC gU]
           have uH:=en gU
           simp only[zK7,zK9]at uH
           have px4:=bg ((s2.drop (pre aq s2+1)).drop 2) [47] (by rw[zK5];omega) (by simp)
           rw[dI]at px4
           have fT:=cq (·==47) ((s2.drop (pre aq s2+1)).drop 2)
           rw[zK5]at fT
           generalize pre (·==47) ((s2.drop (pre aq s2+1)).drop 2)=q at px4 fT ⊢
           refine⟨by omega,?_⟩
           (refine ae (px4) ?_;simp only[ad,↓Xn,↓Xo,↓Xg,↓Xd,↓Xe,↓Xf,Tryz.VΓ,Tryz.Γs,Xp,Xi,Nat.reduceAdd,Nat.reduceSub,Nat.reduceLT,Nat.reduceLeDiff,reduceIte,reduceCtorEq,Nat.reduceEqDiff,implies_true,forall_const,aa])
           rw[show (2+(q:Int)).toNat=2+q by omega]
           exact⟨by omega,by omega,by omega,(av (by kernel_rfl)),rfl⟩)
       ·have fK:∀ (f q:Bytes) (hf hq:Bool),aL s2 f q hf hq=(⟨[],(aC s2).1,(aC s2).2.2,q,f,false,(aC s2).2.1,hq,hf⟩,0):=fun f q hf hq=>by
         unfold aL
         rw[if_neg (by rw[zLg,zK6 hp];simpa using h1)]
        have F5:=gF
        (
         (refine ae (bM (s2) [47,47]) ?_;simp only[ad,↓Xn,↓Xo,↓Xg,↓Xd,↓Xe,↓Xf,Tryz.VΓ,Tryz.Γs,Xp,Xi,Nat.reduceAdd,Nat.reduceSub,Nat.reduceLT,Nat.reduceLeDiff,reduceIte,reduceCtorEq,Nat.reduceEqDiff,implies_true,forall_const,aa])
         cases gU:Lib.hasPrefix (s2) [47,47]
         ·refine⟨fun h=>(by cases h),fun _=>?_⟩
          rw[fK,bZ gU];rfl
         ·refine⟨fun _=>?_,fun h=>(by cases h)⟩
          rw[fK,cC gU]
          have uH:=en gU
          simp only[zK7,zK9]at uH
          have px4:=bg ((s2).drop 2) [47] (by rw[zK5];omega) (by simp)
          rw[dI]at px4
          have fT:=cq (·==47) ((s2).drop 2)
          rw[zK5]at fT
          generalize pre (·==47) ((s2).drop 2)=q at px4 fT ⊢
          refine⟨by omega,?_⟩
          (refine ae (px4) ?_;simp only[ad,↓Xn,↓Xo,↓Xg,↓Xd,↓Xe,↓Xf,Tryz.VΓ,Tryz.Γs,Xp,Xi,Nat.reduceAdd,Nat.reduceSub,Nat.reduceLT,Nat.reduceLeDiff,reduceIte,reduceCtorEq,Nat.reduceEqDiff,implies_true,forall_const,aa])
          rw[show (2+(q:Int)).toNat=2+q by omega]
          exact⟨by omega,by omega,by omega,(av (by kernel_rfl)),rfl⟩)
      ·have fK:∀ (f q:Bytes) (hf hq:Bool),aL s2 f q hf hq=(⟨[],(aC s2).1,(aC s2).2.2,q,f,false,(aC s2).2.1,hq,hf⟩,0):=fun f q hf hq=>by
        unfold aL
        rw[if_neg (by rw[zLl (by simp at oH;omega)];simp)]
       have F5:=gF
       (
        (refine ae (bM (s2) [47,47]) ?_;simp only[ad,↓Xn,↓Xo,↓Xg,↓Xd,↓Xe,↓Xf,Tryz.VΓ,Tryz.Γs,Xp,Xi,Nat.reduceAdd,Nat.reduceSub,Nat.reduceLT,Nat.reduceLeDiff,reduceIte,reduceCtorEq,Nat.reduceEqDiff,implies_true,forall_const,aa])
        cases gU:Lib.hasPrefix (s2) [47,47]
        ·refine⟨fun h=>(by cases h),fun _=>?_⟩
         rw[fK,bZ gU];rfl
        ·refine⟨fun _=>?_,fun h=>(by cases h)⟩
         rw[fK,cC gU]
         have uH:=en gU
         simp only[zK7,zK9]at uH
         have px4:=bg ((s2).drop 2) [47] (by rw[zK5];omega) (by simp)
         rw[dI]at px4
         have fT:=cq (·==47) ((s2).drop 2)
         rw[zK5]at fT
         generalize pre (·==47) ((s2).drop 2)=q at px4 fT ⊢
         refine⟨by omega,?_⟩
         (refine ae (px4) ?_;simp only[ad,↓Xn,↓Xo,↓Xg,↓Xd,↓Xe,↓Xf,Tryz.VΓ,Tryz.Γs,Xp,Xi,Nat.reduceAdd,Nat.reduceSub,Nat.reduceLT,Nat.reduceLeDiff,reduceIte,reduceCtorEq,Nat.reduceEqDiff,implies_true,forall_const,aa])
         rw[show (2+(q:Int)).toNat=2+q by omega]
         exact⟨by omega,by omega,by omega,(av (by kernel_rfl)),rfl⟩)))
  ·have hk1':¬ pre (·==35) s<s.length:=by simpa using iN
   rw[show aM 35 s=(s,[],false) from if_neg hk1']
   simp only
   have ny:s.length≤4294967281:=hs
   generalize s=s1 at ny ⊢
   (
    have px2:=bg s1 [63] (by omega) (by simp)
    rw[dI]at px2
    (refine ae (px2) ?_;simp only[ad,↓Xn,↓Xo,↓Xg,↓Xd,↓Xe,↓Xf,Tryz.VΓ,Tryz.Γs,Xp,Xi,Nat.reduceAdd,Nat.reduceSub,Nat.reduceLT,Nat.reduceLeDiff,reduceIte,reduceCtorEq,Nat.reduceEqDiff,implies_true,forall_const,aa])
    refine⟨fun fH=>?_,fun fH=>?_⟩
    ·have hk2':pre (·==63) s1<s1.length:=by simpa using fH
     rw[show aM 63 s1=(s1.take (pre (·==63) s1),s1.drop (pre (·==63) s1+1),true) from if_pos hk2']
     simp only
     have gF:(s1.take (pre (·==63) s1)).length≤4294967281:=by rw[zLd];omega
     refine⟨by omega,by omega,by omega,(av (by kernel_rfl)),?_⟩
     generalize s1.take (pre (·==63) s1)=s2 at gF ⊢
     generalize s1.drop (pre (·==63) s1+1)=qu
     (
      have px3:=bg s2 [58,47] (by omega) (by simp)
      rw[show pre (([58,47]:Bytes).contains ·) s2=pre aq s2 from rfl]at px3
      (refine ae (px3) ?_;simp only[ad,↓Xn,↓Xo,↓Xg,↓Xd,↓Xe,↓Xf,Tryz.VΓ,Tryz.Γs,Xp,Xi,Nat.reduceAdd,Nat.reduceSub,Nat.reduceLT,Nat.reduceLeDiff,reduceIte,reduceCtorEq,Nat.reduceEqDiff,implies_true,forall_const,aa])
      refine⟨fun oH=>?_,fun oH=>?_⟩
      ·have hp:pre aq s2<s2.length:=by simpa using oH
       rw[cA (n:=58) hp 58 rfl]
       refine⟨by omega,fun h1=>⟨by omega,?_⟩,fun h1=>?_⟩
       ·have hh:(s2.drop (pre aq s2)).head? = some 58:=by
         rw[zLg,zK6 hp,beq_iff_eq.1 h1]
        (refine ae (j7 _ (by rw[zLd];omega)) ?_;simp only[ad,↓Xn,↓Xo,↓Xg,↓Xd,↓Xe,↓Xf,Tryz.VΓ,Tryz.Γs,Xp,Xi,Nat.reduceAdd,Nat.reduceSub,Nat.reduceLT,Nat.reduceLeDiff,reduceIte,reduceCtorEq,Nat.reduceEqDiff,implies_true,forall_const,aa])
        refine⟨fun h2=>?_,fun h2=>?_⟩
        ·have fK:∀ (f q:Bytes) (hf hq:Bool),aL s2 f q hf hq=(Uri.none,6):=fun f q hf hq=>by
          unfold aL
          rw[if_pos hh,if_neg (by rw[pV h2];simp)]
         rw[fK];rfl
        ·have fK:∀ (f q:Bytes) (hf hq:Bool),aL s2 f q hf hq=(⟨s2.take (pre aq s2),(aC (s2.drop (pre aq s2+1))).1,(aC (s2.drop (pre aq s2+1))).2.2,q,f,true,(aC (s2.drop (pre aq s2+1))).2.1,hq,hf⟩,0):=fun f q hf hq=>by
          unfold aL
          rw[if_pos hh,if_pos (pW h2)]
         have F5:(s2.drop (pre aq s2+1)).length≤4294967281:=by rw[zK5];omega
         refine⟨by omega,by omega,by omega,(av (by kernel_rfl)),?_⟩
         (
          (refine ae (bM (s2.drop (pre aq s2+1)) [47,47]) ?_;simp only[ad,↓Xn,↓Xo,↓Xg,↓Xd,↓Xe,↓Xf,Tryz.VΓ,Tryz.Γs,Xp,Xi,Nat.reduceAdd,Nat.reduceSub,Nat.reduceLT,Nat.reduceLeDiff,reduceIte,reduceCtorEq,Nat.reduceEqDiff,implies_true,forall_const,aa])
          cases gU:Lib.hasPrefix (s2.drop (pre aq s2+1)) [47,47]
          ·refine⟨fun h=>(by cases h),fun _=>?_⟩
           rw[fK,bZ gU];rfl
          ·refine⟨fun _=>?_,fun h=>(by cases h)⟩
           rw[fK,cC gU]
           have uH:=en gU
           simp only[zK7,zK9]at uH
           have px4:=bg ((s2.drop (pre aq s2+1)).drop 2) [47] (by rw[zK5];omega) (by simp)
           rw[dI]at px4
           have fT:=cq (·==47) ((s2.drop (pre aq s2+1)).drop 2)
           rw[zK5]at fT
           generalize pre (·==47) ((s2.drop (pre aq s2+1)).drop 2)=q at px4 fT ⊢
           refine⟨by omega,?_⟩
           (refine ae (px4) ?_;simp only[ad,↓Xn,↓Xo,↓Xg,↓Xd,↓Xe,↓Xf,Tryz.VΓ,Tryz.Γs,Xp,Xi,Nat.reduceAdd,Nat.reduceSub,Nat.reduceLT,Nat.reduceLeDiff,reduceIte,reduceCtorEq,Nat.reduceEqDiff,implies_true,forall_const,aa])
           rw[show (2+(q:Int)).toNat=2+q by omega]
           exact⟨by omega,by omega,by omega,(av (by kernel_rfl)),rfl⟩)
       ·have fK:∀ (f q:Bytes) (hf hq:Bool),aL s2 f q hf hq=(⟨[],(aC s2).1,(aC s2).2.2,q,f,false,(aC s2).2.1,hq,hf⟩,0):=fun f q hf hq=>by
         unfold aL
         rw[if_neg (by rw[zLg,zK6 hp];simpa using h1)]
        have F5:=gF
        (
         (refine ae (bM (s2) [47,47]) ?_;simp only[ad,↓Xn,↓Xo,↓Xg,↓Xd,↓Xe,↓Xf,Tryz.VΓ,Tryz.Γs,Xp,Xi,Nat.reduceAdd,Nat.reduceSub,Nat.reduceLT,Nat.reduceLeDiff,reduceIte,reduceCtorEq,Nat.reduceEqDiff,implies_true,forall_const,aa])
         cases gU:Lib.hasPrefix (s2) [47,47]
         ·refine⟨fun h=>(by cases h),fun _=>?_⟩
          rw[fK,bZ gU];rfl
         ·refine⟨fun _=>?_,fun h=>(by cases h)⟩
          rw[fK,cC gU]
          have uH:=en gU
          simp only[zK7,zK9]at uH
          have px4:=bg ((s2).drop 2) [47] (by rw[zK5];omega) (by simp)
          rw[dI]at px4
          have fT:=cq (·==47) ((s2).drop 2)
          rw[zK5]at fT
          generalize pre (·==47) ((s2).drop 2)=q at px4 fT ⊢
          refine⟨by omega,?_⟩
          (refine ae (px4) ?_;simp only[ad,↓Xn,↓Xo,↓Xg,↓Xd,↓Xe,↓Xf,Tryz.VΓ,Tryz.Γs,Xp,Xi,Nat.reduceAdd,Nat.reduceSub,Nat.reduceLT,Nat.reduceLeDiff,reduceIte,reduceCtorEq,Nat.reduceEqDiff,implies_true,forall_const,aa])
          rw[show (2+(q:Int)).toNat=2+q by omega]
          exact⟨by omega,by omega,by omega,(av (by kernel_rfl)),rfl⟩)
      ·have fK:∀ (f q:Bytes) (hf hq:Bool),aL s2 f q hf hq=(⟨[],(aC s2).1,(aC s2).2.2,q,f,false,(aC s2).2.1,hq,hf⟩,0):=fun f q hf hq=>by
        unfold aL
        rw[if_neg (by rw[zLl (by simp at oH;omega)];simp)]
       have F5:=gF
       (
        (refine ae (bM (s2) [47,47]) ?_;simp only[ad,↓Xn,↓Xo,↓Xg,↓Xd,↓Xe,↓Xf,Tryz.VΓ,Tryz.Γs,Xp,Xi,Nat.reduceAdd,Nat.reduceSub,Nat.reduceLT,Nat.reduceLeDiff,reduceIte,reduceCtorEq,Nat.reduceEqDiff,implies_true,forall_const,aa])
        cases gU:Lib.hasPrefix (s2) [47,47]
        ·refine⟨fun h=>(by cases h),fun _=>?_⟩
         rw[fK,bZ gU];rfl
        ·refine⟨fun _=>?_,fun h=>(by cases h)⟩
         rw[fK,cC gU]
         have uH:=en gU
         simp only[zK7,zK9]at uH
         have px4:=bg ((s2).drop 2) [47] (by rw[zK5];omega) (by simp)
         rw[dI]at px4
         have fT:=cq (·==47) ((s2).drop 2)
         rw[zK5]at fT
         generalize pre (·==47) ((s2).drop 2)=q at px4 fT ⊢
         refine⟨by omega,?_⟩
         (refine ae (px4) ?_;simp only[ad,↓Xn,↓Xo,↓Xg,↓Xd,↓Xe,↓Xf,Tryz.VΓ,Tryz.Γs,Xp,Xi,Nat.reduceAdd,Nat.reduceSub,Nat.reduceLT,Nat.reduceLeDiff,reduceIte,reduceCtorEq,Nat.reduceEqDiff,implies_true,forall_const,aa])
         rw[show (2+(q:Int)).toNat=2+q by omega]
         exact⟨by omega,by omega,by omega,(av (by kernel_rfl)),rfl⟩))
    ·have hk2':¬ pre (·==63) s1<s1.length:=by simpa using fH
     rw[show aM 63 s1=(s1,[],false) from if_neg hk2']
     simp only
     have gF:s1.length≤4294967281:=ny
     generalize s1=s2 at gF ⊢
     (
      have px3:=bg s2 [58,47] (by omega) (by simp)
      rw[show pre (([58,47]:Bytes).contains ·) s2=pre aq s2 from rfl]at px3
      (refine ae (px3) ?_;simp only[ad,↓Xn,↓Xo,↓Xg,↓Xd,↓Xe,↓Xf,Tryz.VΓ,Tryz.Γs,Xp,Xi,Nat.reduceAdd,Nat.reduceSub,Nat.reduceLT,Nat.reduceLeDiff,reduceIte,reduceCtorEq,Nat.reduceEqDiff,implies_true,forall_const,aa])
      refine⟨fun oH=>?_,fun oH=>?_⟩
      ·have hp:pre aq s2<s2.length:=by simpa using oH
       rw[cA (n:=58) hp 58 rfl]
       refine⟨by omega,fun h1=>⟨by omega,?_⟩,fun h1=>?_⟩
       ·have hh:(s2.drop (pre aq s2)).head? = some 58:=by
         rw[zLg,zK6 hp,beq_iff_eq.1 h1]
        (refine ae (j7 _ (by rw[zLd];omega)) ?_;simp only[ad,↓Xn,↓Xo,↓Xg,↓Xd,↓Xe,↓Xf,Tryz.VΓ,Tryz.Γs,Xp,Xi,Nat.reduceAdd,Nat.reduceSub,Nat.reduceLT,Nat.reduceLeDiff,reduceIte,reduceCtorEq,Nat.reduceEqDiff,implies_true,forall_const,aa])
        refine⟨fun h2=>?_,fun h2=>?_⟩
        ·have fK:∀ (f q:Bytes) (hf hq:Bool),aL s2 f q hf hq=(Uri.none,6):=fun f q hf hq=>by
          unfold aL
          rw[if_pos hh,if_neg (by rw[pV h2];simp)]
         rw[fK];rfl
        ·have fK:∀ (f q:Bytes) (hf hq:Bool),aL s2 f q hf hq=(⟨s2.take (pre aq s2),(aC (s2.drop (pre aq s2+1))).1,(aC (s2.drop (pre aq s2+1))).2.2,q,f,true,(aC (s2.drop (pre aq s2+1))).2.1,hq,hf⟩,0):=fun f q hf hq=>by
          unfold aL
          rw[if_pos hh,if_pos (pW h2)]
         have F5:(s2.drop (pre aq s2+1)).length≤4294967281:=by rw[zK5];omega
         refine⟨by omega,by omega,by omega,(av (by kernel_rfl)),?_⟩
         (
          (refine ae (bM (s2.drop (pre aq s2+1)) [47,47]) ?_;simp only[ad,↓Xn,↓Xo,↓Xg,↓Xd,↓Xe,↓Xf,Tryz.VΓ,Tryz.Γs,Xp,Xi,Nat.reduceAdd,Nat.reduceSub,Nat.reduceLT,Nat.reduceLeDiff,reduceIte,reduceCtorEq,Nat.reduceEqDiff,implies_true,forall_const,aa])
          cases gU:Lib.hasPrefix (s2.drop (pre aq s2+1)) [47,47]
          ·refine⟨fun h=>(by cases h),fun _=>?_⟩
           rw[fK,bZ gU];rfl
          ·refine⟨fun _=>?_,fun h=>(by cases h)⟩
           rw[fK,cC gU]
           have uH:=en gU
           simp only[zK7,zK9]at uH
           have px4:=bg ((s2.drop (pre aq s2+1)).drop 2) [47] (by rw[zK5];omega) (by simp)
           rw[dI]at px4
           have fT:=cq (·==47) ((s2.drop (pre aq s2+1)).drop 2)
           rw[zK5]at fT
           generalize pre (·==47) ((s2.drop (pre aq s2+1)).drop 2)=q at px4 fT ⊢
           refine⟨by omega,?_⟩
           (refine ae (px4) ?_;simp only[ad,↓Xn,↓Xo,↓Xg,↓Xd,↓Xe,↓Xf,Tryz.VΓ,Tryz.Γs,Xp,Xi,Nat.reduceAdd,Nat.reduceSub,Nat.reduceLT,Nat.reduceLeDiff,reduceIte,reduceCtorEq,Nat.reduceEqDiff,implies_true,forall_const,aa])
           rw[show (2+(q:Int)).toNat=2+q by omega]
           exact⟨by omega,by omega,by omega,(av (by kernel_rfl)),rfl⟩)
       ·have fK:∀ (f q:Bytes) (hf hq:Bool),aL s2 f q hf hq=(⟨[],(aC s2).1,(aC s2).2.2,q,f,false,(aC s2).2.1,hq,hf⟩,0):=fun f q hf hq=>by
         unfold aL
         rw[if_neg (by rw[zLg,zK6 hp];simpa using h1)]
        have F5:=gF
        (
         (refine ae (bM (s2) [47,47]) ?_;simp only[ad,↓Xn,↓Xo,↓Xg,↓Xd,↓Xe,↓Xf,Tryz.VΓ,Tryz.Γs,Xp,Xi,Nat.reduceAdd,Nat.reduceSub,Nat.reduceLT,Nat.reduceLeDiff,reduceIte,reduceCtorEq,Nat.reduceEqDiff,implies_true,forall_const,aa])
         cases gU:Lib.hasPrefix (s2) [47,47]
         ·refine⟨fun h=>(by cases h),fun _=>?_⟩
          rw[fK,bZ gU];rfl
         ·refine⟨fun _=>?_,fun h=>(by cases h)⟩
          rw[fK,cC gU]
          have uH:=en gU
          simp only[zK7,zK9]at uH
          have px4:=bg ((s2).drop 2) [47] (by rw[zK5];omega) (by simp)
          rw[dI]at px4
          have fT:=cq (·==47) ((s2).drop 2)
          rw[zK5]at fT
          generalize pre (·==47) ((s2).drop 2)=q at px4 fT ⊢
          refine⟨by omega,?_⟩
          (refine ae (px4) ?_;simp only[ad,↓Xn,↓Xo,↓Xg,↓Xd,↓Xe,↓Xf,Tryz.VΓ,Tryz.Γs,Xp,Xi,Nat.reduceAdd,Nat.reduceSub,Nat.reduceLT,Nat.reduceLeDiff,reduceIte,reduceCtorEq,Nat.reduceEqDiff,implies_true,forall_const,aa])
          rw[show (2+(q:Int)).toNat=2+q by omega]
          exact⟨by omega,by omega,by omega,(av (by kernel_rfl)),rfl⟩)
      ·have fK:∀ (f q:Bytes) (hf hq:Bool),aL s2 f q hf hq=(⟨[],(aC s2).1,(aC s2).2.2,q,f,false,(aC s2).2.1,hq,hf⟩,0):=fun f q hf hq=>by
        unfold aL
        rw[if_neg (by rw[zLl (by simp at oH;omega)];simp)]
       have F5:=gF
       (
        (refine ae (bM (s2) [47,47]) ?_;simp only[ad,↓Xn,↓Xo,↓Xg,↓Xd,↓Xe,↓Xf,Tryz.VΓ,Tryz.Γs,Xp,Xi,Nat.reduceAdd,Nat.reduceSub,Nat.reduceLT,Nat.reduceLeDiff,reduceIte,reduceCtorEq,Nat.reduceEqDiff,implies_true,forall_const,aa])
        cases gU:Lib.hasPrefix (s2) [47,47]
        ·refine⟨fun h=>(by cases h),fun _=>?_⟩
         rw[fK,bZ gU];rfl
        ·refine⟨fun _=>?_,fun h=>(by cases h)⟩
         rw[fK,cC gU]
         have uH:=en gU
         simp only[zK7,zK9]at uH
         have px4:=bg ((s2).drop 2) [47] (by rw[zK5];omega) (by simp)
         rw[dI]at px4
         have fT:=cq (·==47) ((s2).drop 2)
         rw[zK5]at fT
         generalize pre (·==47) ((s2).drop 2)=q at px4 fT ⊢
         refine⟨by omega,?_⟩
         (refine ae (px4) ?_;simp only[ad,↓Xn,↓Xo,↓Xg,↓Xd,↓Xe,↓Xf,Tryz.VΓ,Tryz.Γs,Xp,Xi,Nat.reduceAdd,Nat.reduceSub,Nat.reduceLT,Nat.reduceLeDiff,reduceIte,reduceCtorEq,Nat.reduceEqDiff,implies_true,forall_const,aa])
         rw[show (2+(q:Int)).toNat=2+q by omega]
         exact⟨by omega,by omega,by omega,(av (by kernel_rfl)),rfl⟩)))
theorem ks:∀ (f:Nat)(s:Bytes),(bD f s).length≤f
 | 0,_=>by simp[bD]
 | f+1,[]=>by simp[bD]
 | f+1,c::r=>by
   rw[bD]
   split
   ·split
    ·have:=ks f (by assumption);simp;omega
    ·simp
   ·have:=ks f r;simp;omega
theorem xe (s:Bytes):(bw s).1.length≤s.length:=by
 unfold bw
 split
 ·simp
 split
 ·simp
 split
 ·simp
 ·simp only[fw];omega
theorem Ep (s:Bytes):(aj s).1.length≤s.length:=by
 unfold aj
 split
 ·simp
 split
 ·simp
 ·have:=ks s.length s
  simpa[az] using this
theorem idx_lt (set:Bytes)(c:UInt8):decide (Lib.indexByte set c<0)=!set.contains c:=by
 rw[← qa]
 by_cases h:0≤Lib.indexByte set c
 ·rw[decide_eq_true h,decide_eq_false (by omega)];rfl
 ·rw[decide_eq_false h,decide_eq_true (by omega)];rfl
theorem vQ (m:lY)(h:m.loc.length≤300000∧m.host.length≤140737488355328):PC Tryz.V 117 [DO m] (.str (ni m)):=by
 have pe:=tR m.loc AN h.1
 have hl:=dD AN m.loc
 refine aU 3000 Tryz.func117 rfl Tryz.ntmps117 Tryz.results117 Tryz.call117 (by simp) (by simp[flat,flat.ai,DO]) (by simp[flat,flat.ai,DO]) ?_
 unfold DO
 simp only[ad,↓Xn,↓Xo,↓Xg,↓Xd,↓Xe,↓Xf,Tryz.VΓ,Tryz.Γs,Xp,Xi,Nat.reduceAdd,Nat.reduceSub,Nat.reduceLT,Nat.reduceLeDiff,reduceIte,reduceCtorEq,Nat.reduceEqDiff,implies_true,forall_const,aa]
 (refine aV (pe) ?_;simp only[ad,↓Xn,↓Xo,↓Xg,↓Xd,↓Xe,↓Xf,Tryz.VΓ,Tryz.Γs,Xp,Xi,Nat.reduceAdd,Nat.reduceSub,Nat.reduceLT,Nat.reduceLeDiff,reduceIte,reduceCtorEq,Nat.reduceEqDiff,implies_true,forall_const,aa])
 exact⟨by omega,by omega,by simp only[zLi,zK7,zK9];omega,(av (by kernel_rfl)),by simp[ni,kN]⟩
theorem Ad (m:lY)(h:m.loc.length≤300000∧m.host.length≤140737488355328):PC Tryz.V 51 [DO m] (.str (ni m)):=by
 have pe:=rT m.loc AN (by omega) (by decide)
 have hl:=dD AN m.loc
 refine aU 3000 Tryz.func51 rfl Tryz.ntmps51 Tryz.results51 Tryz.call51 (by simp) (by simp[flat,flat.ai,DO]) (by simp[flat,flat.ai,DO]) ?_
 unfold DO
 simp only[ad,↓Xn,↓Xo,↓Xg,↓Xd,↓Xe,↓Xf,Tryz.VΓ,Tryz.Γs,Xp,Xi,Nat.reduceAdd,Nat.reduceSub,Nat.reduceLT,Nat.reduceLeDiff,reduceIte,reduceCtorEq,Nat.reduceEqDiff,implies_true,forall_const,aa]
 (refine aV (pe) ?_;simp only[ad,↓Xn,↓Xo,↓Xg,↓Xd,↓Xe,↓Xf,Tryz.VΓ,Tryz.Γs,Xp,Xi,Nat.reduceAdd,Nat.reduceSub,Nat.reduceLT,Nat.reduceLeDiff,reduceIte,reduceCtorEq,Nat.reduceEqDiff,implies_true,forall_const,aa])
 exact⟨by omega,by omega,by simp only[zLi,zK7,zK9];omega,(av (by kernel_rfl)),by simp[ni,kN]⟩
theorem yg (s:Bytes):PC Tryz.V 116 [.str s] (.eN [DO (bN s).1,.int .i64 (bN s).2]):=by
 have pe:=ym (s.take 7) kN (by simp;omega) (by decide)
 rw[show lower kN=kN by decide]at pe
 refine aU 3000 Tryz.func116 rfl Tryz.ntmps116 Tryz.results116 Tryz.call116 (by simp) (by simp[flat,flat.ai]) (by simp[flat,flat.ai,DO]) ?_
 simp only[ad,↓Xn,↓Xo,↓Xg,↓Xd,↓Xe,↓Xf,Tryz.VΓ,Tryz.Γs,Xp,Xi,Nat.reduceAdd,Nat.reduceSub,Nat.reduceLT,Nat.reduceLeDiff,reduceIte,reduceCtorEq,Nat.reduceEqDiff,implies_true,forall_const,aa]
 unfold bN
 refine⟨fun h=>?_,fun h=>⟨fun h2=>⟨⟨by omega,(by simp at h2;omega)⟩,?_⟩,fun h2=>?_⟩⟩
 ·have h:4096<s.length:=(by simp at h;omega)
  rw[if_pos h];rfl
 ·have h:¬ 4096<s.length:=(by simp at h;omega)
  have h2:¬ s.length<7:=(by simp at h2;omega)
  rw[if_neg h]
  (refine ae pe ?_;simp only[ad,↓Xn,↓Xo,↓Xg,↓Xd,↓Xe,↓Xf,Tryz.VΓ,Tryz.Γs,Xp,Xi,Nat.reduceAdd,Nat.reduceSub,Nat.reduceLT,Nat.reduceLeDiff,reduceIte,reduceCtorEq,Nat.reduceEqDiff,implies_true,forall_const,aa,Int.reduceToNat])
  refine⟨fun h3=>?_,fun h3=>⟨⟨by omega,by omega⟩,?_⟩⟩
  ·rw[if_pos (.inr (by simpa using h3))];rfl
  have h3:lower (s.take 7)=kN:=by simpa using h3
  rw[if_neg (by simp only[not_or];exact⟨h2,by simpa using h3⟩)]
  have fA:∀ c:UInt8,ck c ∉ kN→(c∈s↔c∈s.drop 7):=fun c hc=>by
   conv=>lhs;rw[← List.take_append_drop 7 s,List.mem_append]
   constructor
   ·rintro(h|h)
    ·exfalso
     apply hc
     rw[← h3]
     exact List.mem_map.2 ⟨c,h,rfl⟩
    ·exact h
   ·exact .inr
  have n1:=fA 63 (by decide)
  have n2:=fA 35 (by decide)
  have pa:=vU s 63 35 (by decide) (by decide) (by omega)
  rw[show decide ((63:UInt8)∈s∨(35:UInt8)∈s)=decide ((63:UInt8)∈s.drop 7∨(35:UInt8)∈s.drop 7) from decide_eq_decide.2 (by rw[n1,n2])]at pa
  have hS:(s.drop 7).length≤4096:=by simp;omega
  have pc:=tS (s.drop 7) 64 (by omega)
  generalize s.drop 7=S at hS pc pa ⊢
  have dO:=dQ 64 S
  unfold pZ
  generalize aM 64 S=x at pc dO ⊢
  obtain⟨l,p,ok⟩:=x
  simp only at pc dO ⊢
  (refine ae pc ?_;simp only[ad,↓Xn,↓Xo,↓Xg,↓Xd,↓Xe,↓Xf,Tryz.VΓ,Tryz.Γs,Xp,Xi,Nat.reduceAdd,Nat.reduceSub,Nat.reduceLT,Nat.reduceLeDiff,reduceIte,reduceCtorEq,Nat.reduceEqDiff,implies_true,forall_const,aa])
  refine⟨fun bU=>?_,fun bU=>(by rw[if_pos (.inl (by simpa using bU))];rfl)⟩
  have bU:ok=true:=by simpa using bU
  subst bU
  (refine ae pa ?_;simp only[ad,↓Xn,↓Xo,↓Xg,↓Xd,↓Xe,↓Xf,Tryz.VΓ,Tryz.Γs,Xp,Xi,Nat.reduceAdd,Nat.reduceSub,Nat.reduceLT,Nat.reduceLeDiff,reduceIte,reduceCtorEq,Nat.reduceEqDiff,implies_true,forall_const,aa])
  refine⟨fun hq=>?_,fun hq=>?_⟩
  ·rw[if_pos (.inr (of_decide_eq_true hq))];rfl
  rw[if_neg (by simp only[Bool.true_eq_false,false_or];exact of_decide_eq_false hq)]
  have hl:l.length≤4096:=by omega
  have hp:p.length≤4096:=by omega
  clear pa pc pe n1 n2 fA dO h3
  refine aJ (fun σ=>∃ i:Nat,i≤l.length∧lk 2 σ.t=some (.p 0 0)∧lk 3 σ.t=some (.int .i64 0)∧lk 4 σ.t=some (.str l)∧lk 5 σ.t=some (.str p)∧lk 40 σ.t=some (.int .i64 l.length)∧lk 41 σ.t=some (.int .i64 i)∧σ.b=[.cells [.str [],.str []] 85 true]∧(l.take i).all iq=true) (fun σ=>l.length - iH 41 σ) ⟨0,by omega,rfl,rfl,rfl,rfl,rfl,rfl,rfl,rfl⟩ ?_
  rintro⟨t,b⟩ ⟨i,hi,g2,g3,g4,g5,g40,g41,rfl,gI⟩
  simp only at g2 g3 g4 g5 g40 g41
  rw[ax g41]
  by_cases aA:i<l.length
  ·have hg:l.getD i 0=l[i]:=by simp[zLe,aA]
   have rn:iq l[i]=false→l.all iq=false:=fun h=>cQ aA h
   simp only[ad,↓Xn,↓Xo,↓Xg,↓Xd,↓Xe,↓Xf,Tryz.VΓ,Tryz.Γs,Xp,Xi,Nat.reduceAdd,Nat.reduceSub,Nat.reduceLT,Nat.reduceLeDiff,reduceIte,reduceCtorEq,Nat.reduceEqDiff,implies_true,forall_const,aa,g2,g3,g4,g5,g40,g41,hg]
   refine⟨fun _=>⟨⟨by omega,by omega⟩,?_⟩,fun h=>absurd h (by simp;omega)⟩
   (refine ae (eZ l[i]) ?_;simp only[ad,↓Xn,↓Xo,↓Xg,↓Xd,↓Xe,↓Xf,Tryz.VΓ,Tryz.Γs,Xp,Xi,Nat.reduceAdd,Nat.reduceSub,Nat.reduceLT,Nat.reduceLeDiff,reduceIte,reduceCtorEq,Nat.reduceEqDiff,implies_true,forall_const,aa,g2,g3,g4,g5,g40,g41,hg])
   refine⟨fun hu=>?_,fun hu=>⟨⟨by omega,by omega⟩,⟨i+1,by omega,rfl,aS aA gI (by unfold iq;rw[show eM l[i]=true by simpa using hu];rfl)⟩,by rw[ax (k:=.i64) (n:=(i:Int)+1) rfl];omega⟩⟩
   have hu:eM l[i]=false:=by simpa using hu
   (refine ae (dx fP l[i]) ?_;simp only[ad,↓Xn,↓Xo,↓Xg,↓Xd,↓Xe,↓Xf,Tryz.VΓ,Tryz.Γs,Xp,Xi,Nat.reduceAdd,Nat.reduceSub,Nat.reduceLT,Nat.reduceLeDiff,reduceIte,reduceCtorEq,Nat.reduceEqDiff,implies_true,forall_const,aa,g2,g3,g4,g5,g40,g41,hg])
   rw[idx_lt]
   refine⟨fun hk=>?_,fun hk=>⟨⟨by omega,by omega⟩,⟨i+1,by omega,rfl,aS aA gI (by unfold iq;rw[show fP.contains l[i]=true by simpa using hk];simp)⟩,by rw[ax (k:=.i64) (n:=(i:Int)+1) rfl];omega⟩⟩
   rw[if_pos (rn (by unfold iq;rw[hu,show fP.contains l[i]=false by simpa using hk];rfl))]
   rfl
  ·have jq:i=l.length:=by omega
   subst jq
   rw[zLj]at gI
   rw[gI]
   have pd:=na l
   have pb:=Ep l
   generalize aj l=dd at pd pb ⊢
   obtain⟨d,e1⟩:=dd
   have ph:=rX p (by omega)
   have hhl:=xe p
   generalize bw p=hh at ph hhl ⊢
   obtain⟨hh,e2⟩:=hh
   simp only at pd ph pb hhl
   simp only[Bool.true_eq_false,if_false]
   unfold yy
   simp only[ad,↓Xn,↓Xo,↓Xg,↓Xd,↓Xe,↓Xf,Tryz.VΓ,Tryz.Γs,Xp,Xi,Nat.reduceAdd,Nat.reduceSub,Nat.reduceLT,Nat.reduceLeDiff,reduceIte,reduceCtorEq,Nat.reduceEqDiff,implies_true,forall_const,aa,g2,g3,g4,g5,g40,g41]
   refine⟨fun h=>absurd h (by simp),fun _=>?_⟩
   (refine ae pd ?_;simp only[ad,↓Xn,↓Xo,↓Xg,↓Xd,↓Xe,↓Xf,Tryz.VΓ,Tryz.Γs,Xp,Xi,Nat.reduceAdd,Nat.reduceSub,Nat.reduceLT,Nat.reduceLeDiff,reduceIte,reduceCtorEq,Nat.reduceEqDiff,implies_true,forall_const,aa,g2,g3,g4,g5,g40,g41])
   refine⟨fun h1=>(by rw[if_pos (by simpa using h1)];rfl),fun h1=>?_⟩
   rw[if_neg (by simpa using h1)]
   (refine ae (yh d (by omega)) ?_;simp only[ad,↓Xn,↓Xo,↓Xg,↓Xd,↓Xe,↓Xf,Tryz.VΓ,Tryz.Γs,Xp,Xi,Nat.reduceAdd,Nat.reduceSub,Nat.reduceLT,Nat.reduceLeDiff,reduceIte,reduceCtorEq,Nat.reduceEqDiff,implies_true,forall_const,aa,g2,g3,g4,g5,g40,g41])
   refine⟨fun h2=>?_,fun h2=>?_⟩
   ·rw[if_pos (by simpa using h2)];rfl
   ·rw[if_neg (by simpa using h2)]
    (refine ae ph ?_;simp only[ad,↓Xn,↓Xo,↓Xg,↓Xd,↓Xe,↓Xf,Tryz.VΓ,Tryz.Γs,Xp,Xi,Nat.reduceAdd,Nat.reduceSub,Nat.reduceLT,Nat.reduceLeDiff,reduceIte,reduceCtorEq,Nat.reduceEqDiff,implies_true,forall_const,aa,g2,g3,g4,g5,g40,g41])
    refine⟨fun h3=>(by rw[if_pos (by simpa using h3)];rfl),fun h3=>?_⟩
    rw[if_neg (by simpa using h3)]
    (refine ae (vR hh (by omega)) ?_;simp only[ad,↓Xn,↓Xo,↓Xg,↓Xd,↓Xe,↓Xf,Tryz.VΓ,Tryz.Γs,Xp,Xi,Nat.reduceAdd,Nat.reduceSub,Nat.reduceLT,Nat.reduceLeDiff,reduceIte,reduceCtorEq,Nat.reduceEqDiff,implies_true,forall_const,aa,g2,g3,g4,g5,g40,g41])
    refine⟨fun h4=>?_,fun h4=>?_⟩
    ·rw[if_pos (by simpa using h4)];rfl
    ·rw[if_neg (by simpa using h4)];rfl
 ·have h:¬ 4096<s.length:=(by simp at h;omega)
  have h2:s.length<7:=(by simp at h2;omega)
  rw[if_neg h,if_pos (.inl h2)];rfl
theorem pre_set (s:Bytes):pre ([63,35].contains ·) s<s.length↔((63:UInt8)∈s∨(35:UInt8)∈s):=by
 have h:=Ex s 63 35
 rw[lK]at h
 by_cases k:pre ([63,35].contains ·) s<s.length
 ·rw[if_pos k]at h
  have:decide ((63:UInt8)∈s∨(35:UInt8)∈s)=true:=by rw[← h];simp
  exact⟨fun _=>of_decide_eq_true this,fun _=>k⟩
 ·rw[if_neg k]at h
  have:decide ((63:UInt8)∈s∨(35:UInt8)∈s)=false:=by rw[← h];rfl
  exact⟨fun h=>absurd h k,fun h=>absurd h (of_decide_eq_false this)⟩
theorem Cl (s:Bytes):PC Tryz.V 50 [.str s] (.eN [DO (bN s).1,.int .i64 (bN s).2]):=by
 have pe:=oW (s.take 7) kN (by simp;omega) (by decide)
 rw[show lower kN=kN by decide]at pe
 refine aU 3000 Tryz.func50 rfl Tryz.ntmps50 Tryz.results50 Tryz.call50 (by simp) (by simp[flat,flat.ai]) (by simp[flat,flat.ai,DO]) ?_
 simp only[ad,↓Xn,↓Xo,↓Xg,↓Xd,↓Xe,↓Xf,Tryz.VΓ,Tryz.Γs,Xp,Xi,Nat.reduceAdd,Nat.reduceSub,Nat.reduceLT,Nat.reduceLeDiff,reduceIte,reduceCtorEq,Nat.reduceEqDiff,implies_true,forall_const,aa]
 unfold bN
 refine⟨fun h=>?_,fun h=>⟨fun h2=>⟨⟨by omega,(by simp at h2;omega)⟩,?_⟩,fun h2=>?_⟩⟩
 ·have h:4096<s.length:=(by simp at h;omega)
  rw[if_pos h];rfl
 ·have h:¬ 4096<s.length:=(by simp at h;omega)
  have h2:¬ s.length<7:=(by simp at h2;omega)
  rw[if_neg h]
  (refine ae pe ?_;simp only[ad,↓Xn,↓Xo,↓Xg,↓Xd,↓Xe,↓Xf,Tryz.VΓ,Tryz.Γs,Xp,Xi,Nat.reduceAdd,Nat.reduceSub,Nat.reduceLT,Nat.reduceLeDiff,reduceIte,reduceCtorEq,Nat.reduceEqDiff,implies_true,forall_const,aa,Int.reduceToNat])
  refine⟨fun h3=>?_,fun h3=>⟨⟨by omega,by omega⟩,?_⟩⟩
  ·rw[if_pos (.inr (by simpa using h3))];rfl
  have h3:lower (s.take 7)=kN:=by simpa using h3
  rw[if_neg (by simp only[not_or];exact⟨h2,by simpa using h3⟩)]
  have hS:(s.drop 7).length≤4096:=by simp;omega
  generalize s.drop 7=S at hS ⊢
  have pi:=bg S [64] (by omega) (by decide)
  rw[show (List.contains [64] ·:UInt8→Bool)=(·==64) from by funext c;simp;exact(Bool.beq_eq_decide_eq _ _).symm]at pi
  have pj:=bg S [63,35] (by omega) (by decide)
  have hq:=pre_set S
  have fT:=cq (·==64) S
  have hpq:=cq ([63,35].contains ·) S
  unfold pZ
  (refine ae pi ?_;simp only[ad,↓Xn,↓Xo,↓Xg,↓Xd,↓Xe,↓Xf,Tryz.VΓ,Tryz.Γs,Xp,Xi,Nat.reduceAdd,Nat.reduceSub,Nat.reduceLT,Nat.reduceLeDiff,reduceIte,reduceCtorEq,Nat.reduceEqDiff,implies_true,forall_const,aa])
  refine⟨fun h4=>?_,fun h4=>?_⟩
  ·have h4:pre (·==64) S<S.length:=by
    have:=beq_eq_false_iff_ne.1 h4
    omega
   rw[show aM 64 S=(S.take (pre (·==64) S),S.drop (pre (·==64) S+1),true) from if_pos h4]
   generalize hk:pre (·==64) S=k at *
   simp only[Bool.true_eq_false,false_or]
   (refine ae pj ?_;simp only[ad,↓Xn,↓Xo,↓Xg,↓Xd,↓Xe,↓Xf,Tryz.VΓ,Tryz.Γs,Xp,Xi,Nat.reduceAdd,Nat.reduceSub,Nat.reduceLT,Nat.reduceLeDiff,reduceIte,reduceCtorEq,Nat.reduceEqDiff,implies_true,forall_const,aa])
   refine⟨fun h5=>?_,fun h5=>?_⟩
   ·rw[if_pos (hq.1 (by have:=of_decide_eq_true h5;omega))];rfl
   rw[if_neg (fun h=>absurd (hq.2 h) (by have:=of_decide_eq_false h5;omega))]
   clear hq hpq pj pi pe hk h5
   refine aJ (fun σ=>∃ i:Nat,i≤k∧lk 0 σ.t=some (.str S)∧lk 2 σ.t=some (.p 0 0)∧lk 3 σ.t=some (.int .i64 0)∧lk 4 σ.t=some (.int .i64 k)∧lk 5 σ.t=some (.int .i64 i)∧σ.b=[.cells [.str [],.str []] 85 true]∧(S.take i).all iq=true) (fun σ=>k - iH 5 σ) ⟨0,by omega,rfl,rfl,rfl,rfl,rfl,rfl,rfl⟩ ?_
   rintro⟨t,b⟩ ⟨i,hi,g0,g2,g3,g4,g5,rfl,gI⟩
   simp only at g0 g2 g3 g4 g5
   rw[ax g5]
   by_cases aA:i<k
   ·have dR:i<S.length:=by omega
    have hg:S.getD i 0=S[i]:=by simp[zLe,dR]
    have rn:iq S[i]=false→(S.take k).all iq=false:=fun h=>by
     have e:(S.take k)[i]'(by simp;omega)=S[i]:=by simp
     exact cQ (s:=S.take k) (k:=i) (by simp;omega) (by rw[e];exact h)
    simp only[ad,↓Xn,↓Xo,↓Xg,↓Xd,↓Xe,↓Xf,Tryz.VΓ,Tryz.Γs,Xp,Xi,Nat.reduceAdd,Nat.reduceSub,Nat.reduceLT,Nat.reduceLeDiff,reduceIte,reduceCtorEq,Nat.reduceEqDiff,implies_true,forall_const,aa,g0,g2,g3,g4,g5,hg]
    refine⟨fun _=>⟨⟨by omega,by omega⟩,?_⟩,fun h=>absurd h (by simp;omega)⟩
    (refine ae (cX S[i]) ?_;simp only[ad,↓Xn,↓Xo,↓Xg,↓Xd,↓Xe,↓Xf,Tryz.VΓ,Tryz.Γs,Xp,Xi,Nat.reduceAdd,Nat.reduceSub,Nat.reduceLT,Nat.reduceLeDiff,reduceIte,reduceCtorEq,Nat.reduceEqDiff,implies_true,forall_const,aa,g0,g2,g3,g4,g5,hg])
    refine⟨fun hu=>⟨⟨by omega,by omega⟩,?_⟩,fun hu=>⟨⟨by omega,by omega⟩,⟨i+1,by omega,rfl,aS dR gI (by unfold iq;rw[show eM S[i]=true by simpa using hu];rfl)⟩,by rw[ax (k:=.i64) (n:=(i:Int)+1) rfl];omega⟩⟩
    have hu:eM S[i]=false:=by simpa using hu
    (refine ae (j9 S[i] fP (by decide)) ?_;simp only[ad,↓Xn,↓Xo,↓Xg,↓Xd,↓Xe,↓Xf,Tryz.VΓ,Tryz.Γs,Xp,Xi,Nat.reduceAdd,Nat.reduceSub,Nat.reduceLT,Nat.reduceLeDiff,reduceIte,reduceCtorEq,Nat.reduceEqDiff,implies_true,forall_const,aa,g0,g2,g3,g4,g5,hg])
    refine⟨fun hk=>?_,fun hk=>⟨⟨by omega,by omega⟩,⟨i+1,by omega,rfl,aS dR gI (by unfold iq;rw[show fP.contains S[i]=true by simpa using hk];simp)⟩,by rw[ax (k:=.i64) (n:=(i:Int)+1) rfl];omega⟩⟩
    rw[if_pos (rn (by unfold iq;rw[hu,show fP.contains S[i]=false by simpa using hk];rfl))]
    rfl
   ·have jq:i=k:=by omega
    subst jq
    rw[gI]
    have pd:=eY (S.take i)
    have pb:=Ep (S.take i)
    generalize aj (S.take i)=dd at pd pb ⊢
    obtain⟨d,e1⟩:=dd
    have ph:=wO (S.drop (i+1)) (by simp;omega)
    have hhl:=xe (S.drop (i+1))
    generalize bw (S.drop (i+1))=hh at ph hhl ⊢
    obtain⟨hh,e2⟩:=hh
    simp only at pd ph pb hhl
    have pb:d.length≤4096:=by simp at pb;omega
    have hhl:hh.length≤4096:=by simp at hhl;omega
    simp only[Bool.true_eq_false,if_false]
    unfold yy
    simp only[ad,↓Xn,↓Xo,↓Xg,↓Xd,↓Xe,↓Xf,Tryz.VΓ,Tryz.Γs,Xp,Xi,Nat.reduceAdd,Nat.reduceSub,Nat.reduceLT,Nat.reduceLeDiff,reduceIte,reduceCtorEq,Nat.reduceEqDiff,implies_true,forall_const,aa,g0,g2,g3,g4,g5]
    refine⟨fun h=>absurd h (by simp),fun _=>⟨⟨by omega,by omega⟩,?_⟩⟩
    (refine ae pd ?_;simp only[ad,↓Xn,↓Xo,↓Xg,↓Xd,↓Xe,↓Xf,Tryz.VΓ,Tryz.Γs,Xp,Xi,Nat.reduceAdd,Nat.reduceSub,Nat.reduceLT,Nat.reduceLeDiff,reduceIte,reduceCtorEq,Nat.reduceEqDiff,implies_true,forall_const,aa,g0,g2,g3,g4,g5])
    refine⟨fun h1=>(by rw[if_pos (by simpa using h1)];rfl),fun h1=>?_⟩
    rw[if_neg (by simpa using h1)]
    (refine ae (Cm d) ?_;simp only[ad,↓Xn,↓Xo,↓Xg,↓Xd,↓Xe,↓Xf,Tryz.VΓ,Tryz.Γs,Xp,Xi,Nat.reduceAdd,Nat.reduceSub,Nat.reduceLT,Nat.reduceLeDiff,reduceIte,reduceCtorEq,Nat.reduceEqDiff,implies_true,forall_const,aa,g0,g2,g3,g4,g5])
    refine⟨fun h2=>(by rw[if_pos (by simpa using h2)];rfl),fun h2=>⟨⟨by omega,by omega⟩,⟨by omega,by omega⟩,?_⟩⟩
    rw[if_neg (by simpa using h2)]
    (refine ae ph ?_;simp only[ad,↓Xn,↓Xo,↓Xg,↓Xd,↓Xe,↓Xf,Tryz.VΓ,Tryz.Γs,Xp,Xi,Nat.reduceAdd,Nat.reduceSub,Nat.reduceLT,Nat.reduceLeDiff,reduceIte,reduceCtorEq,Nat.reduceEqDiff,implies_true,forall_const,aa,g0,g2,g3,g4,g5])
    refine⟨fun h3=>(by rw[if_pos (by simpa using h3)];rfl),fun h3=>?_⟩
    rw[if_neg (by simpa using h3)]
    (refine ae (Ah hh (by omega)) ?_;simp only[ad,↓Xn,↓Xo,↓Xg,↓Xd,↓Xe,↓Xf,Tryz.VΓ,Tryz.Γs,Xp,Xi,Nat.reduceAdd,Nat.reduceSub,Nat.reduceLT,Nat.reduceLeDiff,reduceIte,reduceCtorEq,Nat.reduceEqDiff,implies_true,forall_const,aa,g0,g2,g3,g4,g5])
    refine⟨fun h4=>?_,fun h4=>?_⟩
    ·rw[if_pos (by simpa using h4)];rfl
    ·rw[if_neg (by simpa using h4)];rfl
  ·have h4:=beq_iff_eq.1 h4
   rw[fC (by omega)];rfl
 ·have h:¬ 4096<s.length:=(by simp at h;omega)
  have h2:s.length<7:=(by simp at h2;omega)
  rw[if_neg h,if_pos (.inl h2)];rfl
end Go.Proofs.YteipdaijbncgeaaGreatDoor
