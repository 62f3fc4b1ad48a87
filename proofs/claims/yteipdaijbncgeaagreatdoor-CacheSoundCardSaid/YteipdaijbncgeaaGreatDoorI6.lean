/- Texts of this claim, laid together: DidV, UriW3, UriN, UrlW2, RefUrl, UrlW3, UrlW4, WebW, WebV, IdentP, AcctW, IdentW, IdentK, IdentM, IdV, CacheP, Pick, Queue, FindC, RowCall. -/
import Derived.Lib.QuietBelow
import Derived.Deep.QuietTactic
import Derived.BigQuiet
import Derived.MapKept
import Derived.WideKeyElems
import Derived.Test.YteipdaijbncgeaaGreatDoorI5
open List renaming getElem?_eq_some_iff → zLK, length_append → zLL, getElem?_set_self → zLM, length_cons → zLN, getElem?_set_ne → zLO, toArray → zLQ, getElem?_append_left → zLR, getD_eq_getElem?_getD → zLS, length_nil → zLU, take_length → zLV, getElem_mem → zLW, getElem?_append_right → zLX, take_succ_eq_append_getElem → zLY, getElem?_eq_none → zLZ, length_set → zL2, cons_append → zL3, set_cons_succ → zL5, set_cons_zero → zL6, nil_append → zL7, flatten_cons → zMa, filter_cons_of_pos → zMd, filter_cons_of_neg → zMf, append_nil → zMg, take_of_length_le → zMh, length_singleton → zMi, dropLast_eq_take → zMk, mem_cons_of_mem → zMm
open And renaming intro → zL8
open Nat renaming lt_of_lt_of_le → zL9, lt_or_ge → zMj
open Int renaming toNat → zMl
open Bool renaming and_eq_true → zMn
set_option linter.all false
set_option maxHeartbeats 16000000
set_option maxRecDepth 20000
namespace Go.Proofs.YteipdaijbncgeaaGreatDoor
open Go Vc Go.RowKit Wf
theorem sm (c:UInt8):PC Tryz.V 106 [.int .u8 c.toNat] (.bool (bW c)):=by
 refine aQ 3000 Tryz.func106 rfl Tryz.ntmps106 Tryz.results106 Tryz.call106 (by simp) (by simp[flat,flat.ai]) (by simp[flat,flat.ai]) ?_
 simp only[ae,↓Xn,↓Xo,↓Xg,↓Xd,↓Xe,↓Xf,Tryz.VΓ,Tryz.Γs,Xp,Xi,Nat.reduceAdd,Nat.reduceSub,Nat.reduceLT,Nat.reduceLeDiff,reduceIte,reduceCtorEq,Nat.reduceEqDiff,implies_true,forall_const,ad]
 (refine aa (je c) ?_;simp only[ae,↓Xn,↓Xo,↓Xg,↓Xd,↓Xe,↓Xf,Tryz.VΓ,Tryz.Γs,Xp,Xi,Nat.reduceAdd,Nat.reduceSub,Nat.reduceLT,Nat.reduceLeDiff,reduceIte,reduceCtorEq,Nat.reduceEqDiff,implies_true,forall_const,ad])
 unfold bW
 refine⟨fun h=>?_,fun h=>by rw[h];rfl⟩
 (refine aa (gK c) ?_;simp only[ae,↓Xn,↓Xo,↓Xg,↓Xd,↓Xe,↓Xf,Tryz.VΓ,Tryz.Γs,Xp,Xi,Nat.reduceAdd,Nat.reduceSub,Nat.reduceLT,Nat.reduceLeDiff,reduceIte,reduceCtorEq,Nat.reduceEqDiff,implies_true,forall_const,ad])
 rw[h]
 refine⟨fun h2=>?_,fun h2=>by rw[h2];rfl⟩
 (refine aa (jZ c [46,45,95] (by decide)) ?_;simp only[ae,↓Xn,↓Xo,↓Xg,↓Xd,↓Xe,↓Xf,Tryz.VΓ,Tryz.Γs,Xp,Xi,Nat.reduceAdd,Nat.reduceSub,Nat.reduceLT,Nat.reduceLeDiff,reduceIte,reduceCtorEq,Nat.reduceEqDiff,implies_true,forall_const,ad])
 rw[h2];rfl
theorem BZ {s:Bytes}{i:Nat}(h:i<s.length):aK (s.take (i+1))=aK (s.take i)++gS s[i]:=by
 unfold aK
 rw[zLY h,List.flatMap_append,List.flatMap_cons,List.flatMap_nil,zMg]
theorem DG {n m k:Nat}:∀ {l:List Bytes},l.length≤n→(∀ y∈l,y.length≤m)→n * m≤k→l.flatten.length≤k:=by
 have:∀ (l:List Bytes),(∀ y∈l,y.length≤m)→l.flatten.length≤l.length * m:=by
  intro l
  induction l with
  | nil=>simp
  | cons x l ih =>
    intro h
    have h1:=h x List.mem_cons_self
    have h2:=ih (fun y hy=>h y (zMm _ hy))
    rw[zMa,zLL,zLN,Nat.add_mul]
    omega
 intro l h1 h2 h3
 have:=this l h2
 exact Nat.le_trans this (Nat.le_trans (Nat.mul_le_mul_right _ h1) h3)
theorem tg (s:Bytes)(i:Nat):(aK (s.take i)).length≤3 * s.length:=by
 have:=fw (s.take i)
 have:(s.take i).length≤s.length:=by simp;omega
 omega
theorem ks (s:Bytes)(hs:s.length≤1000000):PC Tryz.V 107 [.str s] (.str (aK s)):=by
 refine aQ 3000 Tryz.func107 rfl Tryz.ntmps107 Tryz.results107 Tryz.call107 (by simp) (by simp[flat,flat.ai]) (by simp[flat,flat.ai]) ?_
 simp only[ae,↓Xn,↓Xo,↓Xg,↓Xd,↓Xe,↓Xf,Tryz.VΓ,Tryz.Γs,Xp,Xi,Nat.reduceAdd,Nat.reduceSub,Nat.reduceLT,Nat.reduceLeDiff,reduceIte,reduceCtorEq,Nat.reduceEqDiff,implies_true,forall_const,ad]
 refine aL (fun σ=>∃ i:Nat,i≤s.length∧lk 0 σ.t=some (.str s)∧lk 3 σ.t=some (.str (aK (s.take i)))∧lk 4 σ.t=some (.int .i64 i)) (fun σ=>s.length - ji 4 σ) ⟨0,by omega,rfl,rfl,rfl⟩ ?_
 rintro⟨t,b⟩ ⟨i,hi,h0,h3,h4⟩
 simp only at h0 h3 h4
 rw[az h4]
 have jN:=tg s i
 by_cases aC:i<s.length
 ·have hg:s.getD i 0=s[i]:=by simp[List.getD,aC]
  have next:∀ (x:Bytes) (t':List (Nat × SV)),x=gS s[i]→lk 4 t'=some (.int .i64 ((i:Int)+1)) →
   (∃ k:Nat,k≤s.length∧SV.str (aK (s.take i)++x)=SV.str (aK (s.take k))∧SV.int IntKind.i64 ((i:Int)+1)=SV.int IntKind.i64 (k:Int))∧s.length - ji 4 ⟨t',b⟩<s.length - (i:Int).toNat:=fun x t' hx k4 =>
   ⟨⟨i+1,by omega,by rw[BZ aC,hx],rfl⟩,by rw[az (σ:=⟨t',b⟩) k4];omega⟩
  simp only[ae,↓Xn,↓Xo,↓Xg,↓Xd,↓Xe,↓Xf,Tryz.VΓ,Tryz.Γs,Xp,Xi,Nat.reduceAdd,Nat.reduceSub,Nat.reduceLT,Nat.reduceLeDiff,reduceIte,reduceCtorEq,Nat.reduceEqDiff,implies_true,forall_const,ad,h0,h3,h4,hg]
  refine⟨fun _=>⟨⟨by omega,by omega⟩,?_⟩,fun h=>absurd h (by simp;omega)⟩
  (refine aa (sm s[i]) ?_;simp only[ae,↓Xn,↓Xo,↓Xg,↓Xd,↓Xe,↓Xf,Tryz.VΓ,Tryz.Γs,Xp,Xi,Nat.reduceAdd,Nat.reduceSub,Nat.reduceLT,Nat.reduceLeDiff,reduceIte,reduceCtorEq,Nat.reduceEqDiff,implies_true,forall_const,ad,h0,h3,h4,hg])
  refine⟨fun hp=>⟨by omega,⟨by omega,by omega,by omega⟩,by rw[sub_one aC,zMi];omega,⟨by omega,by omega⟩,next _ _ (by rw[sub_one aC,show gS s[i]=[s[i]] from if_pos hp]) rfl⟩,fun hp=>⟨⟨by omega,by omega⟩,?_⟩⟩
  (refine aa (jY s[i]) ?_;simp only[ae,↓Xn,↓Xo,↓Xg,↓Xd,↓Xe,↓Xf,Tryz.VΓ,Tryz.Γs,Xp,Xi,Nat.reduceAdd,Nat.reduceSub,Nat.reduceLT,Nat.reduceLeDiff,reduceIte,reduceCtorEq,Nat.reduceEqDiff,implies_true,forall_const,ad,h0,h3,h4,hg])
  exact⟨by rw[show (jQ s[i]).length=3 from rfl];omega,⟨by omega,by omega⟩,next _ _ (by rw[show gS s[i]=jQ s[i] from if_neg (by rw[hp];simp)]) rfl⟩
 ·have jk:i=s.length:=by omega
  subst jk
  rw[zLV]at h3
  simp only[ae,↓Xn,↓Xo,↓Xg,↓Xd,↓Xe,↓Xf,Tryz.VΓ,Tryz.Γs,Xp,Xi,Nat.reduceAdd,Nat.reduceSub,Nat.reduceLT,Nat.reduceLeDiff,reduceIte,reduceCtorEq,Nat.reduceEqDiff,implies_true,forall_const,ad,h0,h3,h4]
  exact fun h=>absurd h (by simp)
theorem yF (s:Bytes)(hs:s.length≤1000000):PC Tryz.V 105 [.str s] (.bool (dH s)):=by
 refine aQ 3000 Tryz.func105 rfl Tryz.ntmps105 Tryz.results105 Tryz.call105 (by simp) (by simp[flat,flat.ai]) (by simp[flat,flat.ai]) ?_
 simp only[ae,↓Xn,↓Xo,↓Xg,↓Xd,↓Xe,↓Xf,Tryz.VΓ,Tryz.Γs,Xp,Xi,Nat.reduceAdd,Nat.reduceSub,Nat.reduceLT,Nat.reduceLeDiff,reduceIte,reduceCtorEq,Nat.reduceEqDiff,implies_true,forall_const,ad]
 refine aL (fun σ=>∃ i:Nat,i≤s.length∧lk 0 σ.t=some (.str s)∧lk 3 σ.t=some (.int .i64 i)∧(s.take i).all fb=true) (fun σ=>s.length - ji 3 σ) ⟨0,by omega,rfl,rfl,rfl⟩ ?_
 rintro⟨t,b⟩ ⟨i,hi,h0,h3,bN⟩
 simp only at h0 h3
 rw[az h3]
 by_cases aC:i<s.length
 ·have hg:s.getD i 0=s[i]:=by simp[List.getD,aC]
  have jF:fb s[i]=false→dH s=false:=fun h=>by
   unfold dH
   rw[cU aC h,Bool.and_false]
  simp only[ae,↓Xn,↓Xo,↓Xg,↓Xd,↓Xe,↓Xf,Tryz.VΓ,Tryz.Γs,Xp,Xi,Nat.reduceAdd,Nat.reduceSub,Nat.reduceLT,Nat.reduceLeDiff,reduceIte,reduceCtorEq,Nat.reduceEqDiff,implies_true,forall_const,ad,h0,h3,hg]
  refine⟨fun _=>⟨⟨by omega,by omega⟩,?_⟩,fun h=>absurd h (by simp;omega)⟩
  (refine aa (gK s[i]) ?_;simp only[ae,↓Xn,↓Xo,↓Xg,↓Xd,↓Xe,↓Xf,Tryz.VΓ,Tryz.Γs,Xp,Xi,Nat.reduceAdd,Nat.reduceSub,Nat.reduceLT,Nat.reduceLeDiff,reduceIte,reduceCtorEq,Nat.reduceEqDiff,implies_true,forall_const,ad,h0,h3,hg])
  have fin:fb s[i]=true→∀ (t':List (Nat × SV)),lk 3 t'=some (.int .i64 ((i:Int)+1))→(∃ k:Nat,k≤s.length∧SV.int IntKind.i64 ((i:Int)+1)=SV.int IntKind.i64 (k:Int)∧(s.take k).all fb=true)∧s.length - ji 3 ⟨t',b⟩<s.length - (i:Int).toNat:=fun hm t' k6 =>
   ⟨⟨i+1,by omega,rfl,aO aC bN hm⟩,by rw[az (σ:=⟨t',b⟩) k6];omega⟩
  cases hd:isDigit s[i]
  ·refine⟨fun _=>⟨⟨by omega,by omega⟩,fun h1=>⟨⟨by omega,by omega⟩,fun h2=>?_,fun h2=>⟨⟨by omega,by omega⟩,fin ?_ _ rfl⟩⟩,fun h1=>?_⟩,fun h=>(by cases h)⟩
   ·rw[jF (by rw[ic _ hd];simp at h1 h2 ⊢;omega)]
   ·rw[ic _ hd];simp at h1 h2 ⊢;omega
   ·rw[jF (by rw[ic _ hd];simp at h1 ⊢;omega)]
  ·exact⟨fun h=>(by cases h),fun _=>⟨⟨by omega,by omega⟩,fin (by unfold fb;rw[hd];rfl) _ rfl⟩⟩
 ·have jk:i=s.length:=by omega
  subst jk
  rw[zLV]at bN
  simp only[ae,↓Xn,↓Xo,↓Xg,↓Xd,↓Xe,↓Xf,Tryz.VΓ,Tryz.Γs,Xp,Xi,Nat.reduceAdd,Nat.reduceSub,Nat.reduceLT,Nat.reduceLeDiff,reduceIte,reduceCtorEq,Nat.reduceEqDiff,implies_true,forall_const,ad,h0,h3]
  refine⟨fun h=>absurd h (by simp),fun _=>?_⟩
  unfold dH
  rw[bN,Bool.and_true]
  cases s <;> rfl
theorem nf (s:Bytes):PC Tryz.V 78 [.str s] (.eR [fg (aY s).1,.int .i64 (aY s).2]):=by
 refine aQ 3000 Tryz.func78 rfl Tryz.ntmps78 Tryz.results78 Tryz.call78 (by simp) (by simp[flat,flat.ai,fg,dusv]) (by simp[flat,flat.ai,fg,dusv]) ?_
 simp only[ae,↓Xn,↓Xo,↓Xg,↓Xd,↓Xe,↓Xf,Tryz.VΓ,Tryz.Γs,Xp,Xi,Nat.reduceAdd,Nat.reduceSub,Nat.reduceLT,Nat.reduceLeDiff,reduceIte,reduceCtorEq,Nat.reduceEqDiff,implies_true,forall_const,ad]
 unfold aY
 refine⟨fun h=>?_,fun h=>?_⟩
 ·have h:4096<s.length:=(by simp at h;omega)
  rw[if_pos h];rfl
 have h:¬ 4096<s.length:=(by simp at h;omega)
 rw[if_neg h]
 have pp:=bR s jR
 rw[show Lib.hasPrefix s jR=jR.isPrefixOf s from rfl]at pp
 (refine aa pp ?_;simp only[ae,↓Xn,↓Xo,↓Xg,↓Xd,↓Xe,↓Xf,Tryz.VΓ,Tryz.Γs,Xp,Xi,Nat.reduceAdd,Nat.reduceSub,Nat.reduceLT,Nat.reduceLeDiff,reduceIte,reduceCtorEq,Nat.reduceEqDiff,implies_true,forall_const,ad])
 refine⟨fun h2=>(by rw[if_pos (by simpa using h2)];rfl),fun h2=>?_⟩
 have h2:jR.isPrefixOf s=true:=by simpa using h2
 rw[if_neg (by rw[h2];simp),show zMl 4=4 from rfl]
 have hS:(s.drop 4).length≤4096:=by simp;omega
 refine⟨⟨by omega,?_⟩,?_⟩
 ·have:=(List.isPrefixOf_iff_prefix.1 h2).length_le
  rw[show jR.length=4 from rfl]at this
  omega
 generalize s.drop 4=S at hS ⊢
 have pi:=bk S [58] (by omega) (by decide)
 rw[dS]at pi
 (refine aa pi ?_;simp only[ae,↓Xn,↓Xo,↓Xg,↓Xd,↓Xe,↓Xf,Tryz.VΓ,Tryz.Γs,Xp,Xi,Nat.reduceAdd,Nat.reduceSub,Nat.reduceLT,Nat.reduceLeDiff,reduceIte,reduceCtorEq,Nat.reduceEqDiff,implies_true,forall_const,ad])
 have fU:=cq (·==58) S
 unfold lW
 refine⟨fun h3=>?_,fun h3=>?_⟩
 ·have h3:pre (·==58) S=S.length:=by simp at h3;omega
  rw[fI h3,if_pos rfl];rfl
 have h3:¬ pre (·==58) S=S.length:=by simp at h3;omega
 rw[show aG 58 S=(S.take (pre (·==58) S),S.drop (pre (·==58) S+1),true) from if_pos (by omega)]
 refine⟨⟨by omega,by omega⟩,?_⟩
 simp only[Int.toNat_natCast]
 have pm:=yF (S.take (pre (·==58) S)) (by simp;omega)
 (refine aa pm ?_;simp only[ae,↓Xn,↓Xo,↓Xg,↓Xd,↓Xe,↓Xf,Tryz.VΓ,Tryz.Γs,Xp,Xi,Nat.reduceAdd,Nat.reduceSub,Nat.reduceLT,Nat.reduceLeDiff,reduceIte,reduceCtorEq,Nat.reduceEqDiff,implies_true,forall_const,ad])
 refine⟨fun h4=>?_,fun h4=>?_⟩
 ·rw[if_pos (by simpa using h4)];rfl
 rw[if_neg (by simpa using h4),B0]
 have hM:(S.drop (pre (·==58) S+1)).length≤4096:=by simp;omega
 generalize S.drop (pre (·==58) S+1)=I at hM ⊢
 refine⟨⟨by omega,by omega⟩,⟨by omega,by omega⟩,?_⟩
 have zA:=ib 58 I
 have hct:=iw 58 I
 have hcc:=List.count_le_length (a:=(58:UInt8)) (l:=I)
 refine aT (pH I 58 (by omega)) ?_
 rintro r b ⟨j,rfl,lA,hj,cL⟩
 generalize aA 58 I=L at *
 simp only at lA hj cL
 have fB:=cL.at (j:=0) rfl
 simp only[ae,↓Xn,↓Xo,↓Xg,↓Xd,↓Xe,↓Xf,Tryz.VΓ,Tryz.Γs,Xp,Xi,Nat.reduceAdd,Nat.reduceSub,Nat.reduceLT,Nat.reduceLeDiff,reduceIte,reduceCtorEq,Nat.reduceEqDiff,implies_true,forall_const,ad,hj]
 refine aL (fun σ=>∃ k:Nat,k≤L.length∧lk 0 σ.t=some (.str S)∧lk 2 σ.t=some (.p 0 0)∧lk 3 σ.t=some (.int .i64 0)∧lk 4 σ.t=some (.int .i64 (pre (·==58) S))∧lk 5 σ.t=some (.o j L.length)∧lk 46 σ.t=some (.o j L.length)∧lk 47 σ.t=some (.int .i64 L.length)∧lk 48 σ.t=some (.int .i64 k) ∧
  σ.b[0]? = some (.cells [.str [],.str []] 123 true)∧σ.b[j]? = some (.own (L.map SV.str) 9 1 L.length true)∧∀ y∈L.take k,PU.bad ∉ ay y) (fun σ=>L.length - ji 48 σ) ⟨0,by omega,rfl,rfl,rfl,rfl,rfl,rfl,rfl,rfl,fB,hj,by simp⟩ ?_
 clear fB hj cL
 rintro⟨t,b⟩ ⟨k,hk,h0,h2,h3,h4,h5,h46,FU,h48,fB,hj,bN⟩
 simp only at h0 h2 h3 h4 h5 h46 FU h48 fB hj
 rw[az h48]
 have fe:∀ X,(b.set 0 X)[0]? = some X:=fun X=>zLM (zLK.1 fB).1
 by_cases aC:k<L.length
 ·have hx:(L.map SV.str)[k * 1]? = some (.str L[k]):=by simp[aC]
  have zz:=zA L[k] (zLW aC)
  have pd:=fh L[k]
  rw[lY (by omega)]at pd
  simp only[ae,↓Xn,↓Xo,↓Xg,↓Xd,↓Xe,↓Xf,Tryz.VΓ,Tryz.Γs,Xp,Xi,Nat.reduceAdd,Nat.reduceSub,Nat.reduceLT,Nat.reduceLeDiff,reduceIte,reduceCtorEq,Nat.reduceEqDiff,implies_true,forall_const,ad,h0,h2,h3,h4,h5,h46,FU,h48,fB,hj,fe,hx]
  refine⟨fun _=>⟨⟨by omega,by omega⟩,by simp;omega,?_⟩,fun h=>absurd h (by simp;omega)⟩
  by_cases jF:PU.bad∈ay L[k]
  ·rw[if_pos jF]at pd
   rw[if_pos ⟨_,zLW aC,jF⟩]
   (refine aa pd ?_;simp only[ae,↓Xn,↓Xo,↓Xg,↓Xd,↓Xe,↓Xf,Tryz.VΓ,Tryz.Γs,Xp,Xi,Nat.reduceAdd,Nat.reduceSub,Nat.reduceLT,Nat.reduceLeDiff,reduceIte,reduceCtorEq,Nat.reduceEqDiff,implies_true,forall_const,ad,h0,h2,h3,h4,h5,h46,FU,h48,fB,hj,fe,hx,beq_self_eq_true,bne_self_eq_false,Int.reduceBEq,Int.reduceBNe,Int.reduceLT,Int.reduceLE])
   rfl
  ·rw[if_neg jF]at pd
   (refine aa pd ?_;simp only[ae,↓Xn,↓Xo,↓Xg,↓Xd,↓Xe,↓Xf,Tryz.VΓ,Tryz.Γs,Xp,Xi,Nat.reduceAdd,Nat.reduceSub,Nat.reduceLT,Nat.reduceLeDiff,reduceIte,reduceCtorEq,Nat.reduceEqDiff,implies_true,forall_const,ad,h0,h2,h3,h4,h5,h46,FU,h48,fB,hj,fe,hx,beq_self_eq_true,bne_self_eq_false,Int.reduceBEq,Int.reduceBNe,Int.reduceLT,Int.reduceLE])
   refine⟨⟨by omega,by omega⟩,⟨k+1,by omega,rfl,fun y hy=>?_⟩,?_⟩
   ·rw[zLY aC]at hy
    rcases List.mem_append.1 hy with hy|hy
    ·exact bN y hy
    ·rw[List.mem_singleton.1 hy];exact jF
   ·rw[az (k:=.i64) (n:=(k:Int)+1) rfl];omega
 ·have jk:k=L.length:=by omega
  subst jk
  rw[zLV]at bN
  rw[if_neg (fun⟨y,hy,hb⟩=>bN y hy hb)]
  simp only[ae,↓Xn,↓Xo,↓Xg,↓Xd,↓Xe,↓Xf,Tryz.VΓ,Tryz.Γs,Xp,Xi,Nat.reduceAdd,Nat.reduceSub,Nat.reduceLT,Nat.reduceLeDiff,reduceIte,reduceCtorEq,Nat.reduceEqDiff,implies_true,forall_const,ad,h0,h2,h3,h4,h5,h46,FU,h48,fB,hj,fe]
  refine⟨fun h=>absurd h (by simp),fun _=>?_⟩
  have hbad2:∀ y∈L,PU.bad ∉ ay y:=bN
  clear bN h46 FU h48 aC hk
  refine aL (fun σ=>∃ k:Nat,k≤L.length∧lk 0 σ.t=some (.str S)∧lk 2 σ.t=some (.p 0 0)∧lk 3 σ.t=some (.int .i64 0)∧lk 4 σ.t=some (.int .i64 (pre (·==58) S))∧lk 5 σ.t=some (.o j L.length)∧lk 61 σ.t=some (.o j L.length)∧lk 62 σ.t=some (.int .i64 L.length)∧lk 63 σ.t=some (.int .i64 k)∧lk 10 σ.t=some (.str (eL (L.take k))) ∧
   σ.b[0]? = some (.cells [.str [],.str []] 123 true)∧σ.b[j]? = some (.own (L.map SV.str) 9 1 L.length true)∧(L.take k).all dE=true) (fun σ=>L.length - ji 63 σ) ⟨0,by omega,h0,h2,h3,h4,h5,rfl,rfl,rfl,rfl,fB,hj,rfl⟩ ?_
  clear fB hj h0 h2 h3 h4 h5 fe
  rintro⟨t,b⟩ ⟨k,hk,h0,h2,h3,h4,h5,FT,FR,tc,fm,fB,hj,bN⟩
  simp only at h0 h2 h3 h4 h5 FT FR tc fm fB hj
  have fe:∀ X,(b.set 0 X)[0]? = some X:=fun X=>zLM (zLK.1 fB).1
  rw[az tc]
  by_cases aC:k<L.length
  ·have hx:(L.map SV.str)[k * 1]? = some (.str L[k]):=by simp[aC]
   have zz:=zA L[k] (zLW aC)
   have hxb:=hbad2 L[k] (zLW aC)
   simp only[ae,↓Xn,↓Xo,↓Xg,↓Xd,↓Xe,↓Xf,Tryz.VΓ,Tryz.Γs,Xp,Xi,Nat.reduceAdd,Nat.reduceSub,Nat.reduceLT,Nat.reduceLeDiff,reduceIte,reduceCtorEq,Nat.reduceEqDiff,implies_true,forall_const,ad,h0,h2,h3,h4,h5,FT,FR,tc,fm,fB,hj,fe,hx]
   refine⟨fun _=>⟨⟨by omega,by omega⟩,by simp;omega,?_⟩,fun h=>absurd h (by simp;omega)⟩
   have hidl:=yg (L.take k)
   have hid2:(L.take k).flatten.length≤4097 * 4097:=DG (n:=4097) (m:=4097) (by simp;omega) (fun y hy=>by have:=zA y (List.mem_of_mem_take hy);omega) (Nat.le_refl _)
   have HV:(L.take k).length≤4097:=by simp;omega
   have hsj:=vP aC
   have hxa:dE L[k]=false→L.all dE=false:=fun h=>cU aC h
   have hxo:dE L[k]=true→(L.take (k+1)).all dE=true:=fun h=>aO aC bN h
   clear bN
   generalize L[k]=x at *
   refine aL (fun σ=>∃ i:Nat,i≤x.length∧lk 0 σ.t=some (.str S)∧lk 2 σ.t=some (.p 0 0)∧lk 3 σ.t=some (.int .i64 0)∧lk 4 σ.t=some (.int .i64 (pre (·==58) S))∧lk 5 σ.t=some (.o j L.length)∧lk 61 σ.t=some (.o j L.length)∧lk 62 σ.t=some (.int .i64 L.length)∧lk 63 σ.t=some (.int .i64 k)∧lk 11 σ.t=some (.int .i64 k)∧lk 10 σ.t=some (.str (eL (L.take k)))∧lk 12 σ.t=some (.str x)∧lk 13 σ.t=some (.int .i64 i) ∧
    σ.b[0]? = some (.cells [.str [],.str []] 123 true)∧σ.b[j]? = some (.own (L.map SV.str) 9 1 L.length true)∧(x.take i).all (fun c=>bW c||c==37)=true) (fun σ=>x.length - ji 13 σ) ⟨0,by omega,h0,h2,h3,h4,h5,FT,FR,tc,rfl,fm,rfl,rfl,fB,hj,rfl⟩ ?_
   clear fB hj h0 h2 h3 h4 h5 fe FT FR tc fm
   rintro⟨t,b⟩ ⟨i,hi,h0,h2,h3,h4,h5,FT,FR,tc,IA,fm,h12,h13,fB,hj,bN⟩
   simp only at h0 h2 h3 h4 h5 FT FR tc IA fm h12 h13 fB hj
   have fe:∀ X,(b.set 0 X)[0]? = some X:=fun X=>zLM (zLK.1 fB).1
   rw[az h13]
   by_cases eF:i<x.length
   ·have hg:x.getD i 0=x[i]:=by simp[List.getD,eF]
    simp only[ae,↓Xn,↓Xo,↓Xg,↓Xd,↓Xe,↓Xf,Tryz.VΓ,Tryz.Γs,Xp,Xi,Nat.reduceAdd,Nat.reduceSub,Nat.reduceLT,Nat.reduceLeDiff,reduceIte,reduceCtorEq,Nat.reduceEqDiff,implies_true,forall_const,ad,h0,h2,h3,h4,h5,FT,FR,tc,fm,fB,hj,fe,IA,h12,h13,hg]
    refine⟨fun _=>⟨⟨by omega,by omega⟩,?_⟩,fun h=>absurd h (by simp;omega)⟩
    (refine aa (sm x[i]) ?_;simp only[ae,↓Xn,↓Xo,↓Xg,↓Xd,↓Xe,↓Xf,Tryz.VΓ,Tryz.Γs,Xp,Xi,Nat.reduceAdd,Nat.reduceSub,Nat.reduceLT,Nat.reduceLeDiff,reduceIte,reduceCtorEq,Nat.reduceEqDiff,implies_true,forall_const,ad,h0,h2,h3,h4,h5,FT,FR,tc,fm,fB,hj,fe,IA,h12,h13,hg])
    have hb37:=cE eF 37 (n:=37) rfl
    have hb38:((x[i].toNat:Int) != 37)=(x[i] != 37):=by
     show (!_)=(!_);rw[← hb37,hg]
    rw[hb38]
    have fin:(bW x[i]||x[i]==37)=true→∀ (t':List (Nat × SV)),lk 13 t'=some (.int .i64 ((i:Int)+1))→(∃ m:Nat,m≤x.length∧SV.int IntKind.i64 ((i:Int)+1)=SV.int IntKind.i64 (m:Int)∧(x.take m).all (fun c=>bW c||c==37)=true)∧x.length - ji 13 ⟨t',b⟩<x.length - (i:Int).toNat:=fun hm t' k6 =>
     ⟨⟨i+1,by omega,rfl,aO eF bN hm⟩,by rw[az (σ:=⟨t',b⟩) k6];omega⟩
    refine⟨fun hp=>⟨⟨by omega,by omega⟩,fun vI=>?_,fun vI=>⟨⟨by omega,by omega⟩,fin ?_ _ rfl⟩⟩,fun hp=>⟨⟨by omega,by omega⟩,fin ?_ _ rfl⟩⟩
    ·rw[if_pos (hxa (cU eF (by simp at hp vI ⊢;exact⟨hp,vI⟩)))];rfl
    ·simp at vI ⊢;exact .inr vI
    ·simp at hp ⊢;exact .inl hp
   ·have jk:i=x.length:=by omega
    subst jk
    rw[zLV]at bN
    have pd:=fh x
    rw[lY (by omega),if_neg hxb]at pd
    simp only at pd
    have pe:=ks (jl x) (by have:=jI x;omega)
    have oT:=fw (jl x)
    have hdl2:=jI x
    simp only[ae,↓Xn,↓Xo,↓Xg,↓Xd,↓Xe,↓Xf,Tryz.VΓ,Tryz.Γs,Xp,Xi,Nat.reduceAdd,Nat.reduceSub,Nat.reduceLT,Nat.reduceLeDiff,reduceIte,reduceCtorEq,Nat.reduceEqDiff,implies_true,forall_const,ad,h0,h2,h3,h4,h5,FT,FR,tc,fm,fB,hj,fe,IA,h12,h13]
    refine⟨fun h=>absurd h (by simp),fun _=>?_⟩
    have hxp:dE x=true:=bN
    (refine aa pd ?_;simp only[ae,↓Xn,↓Xo,↓Xg,↓Xd,↓Xe,↓Xf,Tryz.VΓ,Tryz.Γs,Xp,Xi,Nat.reduceAdd,Nat.reduceSub,Nat.reduceLT,Nat.reduceLeDiff,reduceIte,reduceCtorEq,Nat.reduceEqDiff,implies_true,forall_const,ad,h0,h2,h3,h4,h5,FT,FR,tc,fm,fB,hj,fe,IA,h12,h13,beq_self_eq_true,bne_self_eq_false,Int.reduceBEq,Int.reduceBNe,Int.reduceLT,Int.reduceLE])
    refine⟨fun h0k=>⟨by omega,?_⟩,fun h0k=>?_⟩
    ·(refine aa pe ?_;simp only[ae,↓Xn,↓Xo,↓Xg,↓Xd,↓Xe,↓Xf,Tryz.VΓ,Tryz.Γs,Xp,Xi,Nat.reduceAdd,Nat.reduceSub,Nat.reduceLT,Nat.reduceLeDiff,reduceIte,reduceCtorEq,Nat.reduceEqDiff,implies_true,forall_const,ad,h0,h2,h3,h4,h5,FT,FR,tc,fm,fB,hj,fe,IA,h12,h13])
     refine⟨by simp;omega,⟨by omega,by omega⟩,⟨k+1,by omega,rfl,?_,hxo hxp⟩,?_⟩
     ·rw[hsj,if_neg (by simp at h0k;omega)]
     ·rw[az (k:=.i64) (n:=(k:Int)+1) rfl];omega
    ·(refine aa pe ?_;simp only[ae,↓Xn,↓Xo,↓Xg,↓Xd,↓Xe,↓Xf,Tryz.VΓ,Tryz.Γs,Xp,Xi,Nat.reduceAdd,Nat.reduceSub,Nat.reduceLT,Nat.reduceLeDiff,reduceIte,reduceCtorEq,Nat.reduceEqDiff,implies_true,forall_const,ad,h0,h2,h3,h4,h5,FT,FR,tc,fm,fB,hj,fe,IA,h12,h13])
     refine⟨by omega,⟨by omega,by omega⟩,⟨k+1,by omega,rfl,?_,hxo hxp⟩,?_⟩
     ·rw[hsj,if_pos (by simp at h0k;omega),zMg]
     ·rw[az (k:=.i64) (n:=(k:Int)+1) rfl];omega
  ·have jk:k=L.length:=by omega
   subst jk
   rw[zLV]at bN fm
   rw[if_neg (by rw[bN];simp)]
   have hL0:0<L.length:=by omega
   have hz:(L.map SV.str)[((L.length:Int) - 1).toNat * 1]? = some (.str (L[L.length - 1]'(by omega))):=by
    rw[show ((L.length:Int) - 1).toNat * 1=L.length - 1 by omega]
    simp[hL0]
   have Co:L.getLast? = some (L[L.length - 1]'(by omega)):=by rw[List.getLast?_eq_getElem?];simp[hL0]
   rw[Co]
   generalize L[L.length - 1]'(by omega)=z at hz
   simp only[Option.some.injEq]
   have hpl2:=cq (·==58) S
   simp only[ae,↓Xn,↓Xo,↓Xg,↓Xd,↓Xe,↓Xf,Tryz.VΓ,Tryz.Γs,Xp,Xi,Nat.reduceAdd,Nat.reduceSub,Nat.reduceLT,Nat.reduceLeDiff,reduceIte,reduceCtorEq,Nat.reduceEqDiff,implies_true,forall_const,ad,h0,h2,h3,h4,h5,FT,FR,tc,fm,fB,hj,fe,hz]
   refine⟨fun h=>absurd h (by simp),fun _=>⟨⟨by omega,by omega⟩,⟨by omega,by omega⟩,by simp;omega,fun h=>?_,fun h=>?_⟩⟩
   ·rw[if_pos (by simpa using h)];rfl
   ·rw[if_neg (by simpa using h)]
    exact⟨⟨by omega,by omega⟩,rfl⟩
theorem fS (d:fN)(h:eH d):PC Tryz.V 81 [fg d] (.str (bA d)):=by
 obtain⟨m,i⟩:=d
 simp only[eH]at h
 refine aQ 3000 Tryz.func81 rfl Tryz.ntmps81 Tryz.results81 Tryz.call81 (by simp) (by simp[flat,flat.ai,fg,dusv]) (by simp[flat,flat.ai,fg,dusv]) ?_
 unfold fg
 simp only[ae,↓Xn,↓Xo,↓Xg,↓Xd,↓Xe,↓Xf,Tryz.VΓ,Tryz.Γs,Xp,Xi,Nat.reduceAdd,Nat.reduceSub,Nat.reduceLT,Nat.reduceLeDiff,reduceIte,reduceCtorEq,Nat.reduceEqDiff,implies_true,forall_const,ad]
 simp only[zLL,zLN,zLU]
 refine⟨by omega,by omega,by omega,?_⟩
 simp[bA,jR]
def Uri.size (u:Uri):Nat:=u.scheme.length+u.authority.length+u.path.length+u.query.length+u.fragment.length
theorem tK (s:Bytes):(bd s).1.path.length≤s.length:=by
 have tz:=eb 35 s
 have uU:=eb 63 (aG 35 s).1
 have EB:∀ r:Bytes,(aB r).2.2.length≤r.length:=fun r=>by
  unfold aB;split
  ·simp;omega
  ·simp
 unfold bd
 split
 ·simp[Uri.none]
 ·unfold aF
  split
  ·split
   ·have:=EB ((aG 63 (aG 35 s).1).1.drop (pre aq (aG 63 (aG 35 s).1).1+1))
    simp at this ⊢;omega
   ·simp[Uri.none]
  ·have:=EB (aG 63 (aG 35 s).1).1
   simp;omega
theorem tJ (s:Bytes):Uri.size (bd s).1≤6 * s.length:=by
 have tz:=eb 35 s
 have uU:=eb 63 (aG 35 s).1
 have EB:∀ r:Bytes,(aB r).2.2.length≤r.length∧(aB r).1.length≤r.length:=fun r=>by
  unfold aB;split
  ·simp;omega
  ·simp
 unfold bd
 split
 ·simp[Uri.none,Uri.size]
 ·unfold aF
  split
  ·split
   ·have:=EB ((aG 63 (aG 35 s).1).1.drop (pre aq (aG 63 (aG 35 s).1).1+1))
    simp[Uri.size]at this ⊢;omega
   ·simp[Uri.none,Uri.size]
  ·have:=EB (aG 63 (aG 35 s).1).1
   simp[Uri.size];omega
theorem sx (a:Bytes)(h:(aE a).2=0):(aE a).1.1.length≤253∧0≤(aE a).1.2∧(aE a).1.2≤65535:=by
 have:=cu (s:=a) (x:=(aE a).1.1) (p:=(aE a).1.2) (by rw[← h])
 omega
theorem sh (s:Bytes):PC Tryz.V 118 [.str s] (.eR [ey (bG s).1,.int .i64 (bG s).2]):=by
 refine aQ 3000 Tryz.func118 rfl Tryz.ntmps118 Tryz.results118 Tryz.call118 (by simp) (by simp[flat,flat.ai]) (by simp[flat,flat.ai,ey]) ?_
 simp only[ae,↓Xn,↓Xo,↓Xg,↓Xd,↓Xe,↓Xf,Tryz.VΓ,Tryz.Γs,Xp,Xi,Nat.reduceAdd,Nat.reduceSub,Nat.reduceLT,Nat.reduceLeDiff,reduceIte,reduceCtorEq,Nat.reduceEqDiff,implies_true,forall_const,ad]
 refine⟨fun h=>?_,fun h=>?_⟩
 ·have:bG s=(fc.none,5):=if_pos (by simp at h;omega)
  rw[this];rfl
 have hl:¬ 4096<s.length:=(by simp at h;omega)
 have hq:bG s=if (bd s).2≠0 then(fc.none,(bd s).2) else wP (bd s).1:=if_neg hl
 rw[hq]
 have ps:=AG s
 unfold usv at ps
 have hp:=tK s
 have hz:=tJ s
 revert ps hp hz
 generalize bd s=us
 obtain⟨r,c⟩:=us
 intro ps hp hz
 simp only at ps hp hz
 simp only
 unfold Uri.size at hz
 have pl:=yL r.scheme di (by omega) (by decide)
 have pn:=ug r.authority 64
 have ph:=pQ r.authority (by omega)
 have p1:=iF r.path cQ (by decide)
 have p2:=iF r.query cP (by decide)
 have p3:=iF r.fragment cP (by decide)
 (refine aa (ps) ?_;simp only[ae,↓Xn,↓Xo,↓Xg,↓Xd,↓Xe,↓Xf,Tryz.VΓ,Tryz.Γs,Xp,Xi,Nat.reduceAdd,Nat.reduceSub,Nat.reduceLT,Nat.reduceLeDiff,reduceIte,reduceCtorEq,Nat.reduceEqDiff,implies_true,forall_const,ad])
 refine⟨fun h1=>?_,fun h1=>?_⟩
 ·rw[if_pos (by simpa using h1)];rfl
 rw[if_neg (by simpa using h1)]
 unfold wP
 cases kU:r.ik
 ·simp only[ae,↓Xn,↓Xo,↓Xg,↓Xd,↓Xe,↓Xf,Tryz.VΓ,Tryz.Γs,Xp,Xi,Nat.reduceAdd,Nat.reduceSub,Nat.reduceLT,Nat.reduceLeDiff,reduceIte,reduceCtorEq,Nat.reduceEqDiff,implies_true,forall_const,ad,kU]
  rw[if_pos (.inl trivial)];rfl
 simp only[ae,↓Xn,↓Xo,↓Xg,↓Xd,↓Xe,↓Xf,Tryz.VΓ,Tryz.Γs,Xp,Xi,Nat.reduceAdd,Nat.reduceSub,Nat.reduceLT,Nat.reduceLeDiff,reduceIte,reduceCtorEq,Nat.reduceEqDiff,implies_true,forall_const,ad,kU]
 rw[show lower di=di by decide]at pl
 (refine aa pl ?_;simp only[ae,↓Xn,↓Xo,↓Xg,↓Xd,↓Xe,↓Xf,Tryz.VΓ,Tryz.Γs,Xp,Xi,Nat.reduceAdd,Nat.reduceSub,Nat.reduceLT,Nat.reduceLeDiff,reduceIte,reduceCtorEq,Nat.reduceEqDiff,implies_true,forall_const,ad,kU])
 refine⟨fun h2=>?_,fun h2=>?_⟩
 ·rw[if_pos (.inr (by simpa using h2))];rfl
 rw[if_neg (by simpa using h2)]
 cases Iy:r.dI
 ·simp only[ae,↓Xn,↓Xo,↓Xg,↓Xd,↓Xe,↓Xf,Tryz.VΓ,Tryz.Γs,Xp,Xi,Nat.reduceAdd,Nat.reduceSub,Nat.reduceLT,Nat.reduceLeDiff,reduceIte,reduceCtorEq,Nat.reduceEqDiff,implies_true,forall_const,ad,Iy]
  rfl
 simp only[ae,↓Xn,↓Xo,↓Xg,↓Xd,↓Xe,↓Xf,Tryz.VΓ,Tryz.Γs,Xp,Xi,Nat.reduceAdd,Nat.reduceSub,Nat.reduceLT,Nat.reduceLeDiff,reduceIte,reduceCtorEq,Nat.reduceEqDiff,implies_true,forall_const,ad,Iy]
 (refine aa pn ?_;simp only[ae,↓Xn,↓Xo,↓Xg,↓Xd,↓Xe,↓Xf,Tryz.VΓ,Tryz.Γs,Xp,Xi,Nat.reduceAdd,Nat.reduceSub,Nat.reduceLT,Nat.reduceLeDiff,reduceIte,reduceCtorEq,Nat.reduceEqDiff,implies_true,forall_const,ad,Iy])
 refine⟨fun h3=>?_,fun h3=>?_⟩
 ·rw[if_pos (by simpa using h3)];rfl
 rw[if_neg (by simpa using h3)]
 unfold pA
 (refine aa ph ?_;simp only[ae,↓Xn,↓Xo,↓Xg,↓Xd,↓Xe,↓Xf,Tryz.VΓ,Tryz.Γs,Xp,Xi,Nat.reduceAdd,Nat.reduceSub,Nat.reduceLT,Nat.reduceLeDiff,reduceIte,reduceCtorEq,Nat.reduceEqDiff,implies_true,forall_const,ad,Iy])
 refine⟨fun h4=>?_,fun h4=>?_⟩
 ·rw[if_pos (by simpa using h4)];rfl
 rw[if_neg (by simpa using h4)]
 have hN1:=dF cQ r.path
 have hN2:=dF cP r.query
 have hN3:=dF cP r.fragment
 have hH:=sx r.authority (by simpa using h4)
 have p4:=rp (aX cQ r.path).1 (by omega)
 have hD:=mX (aX cQ r.path).1
 generalize aX cQ r.path=n1 at p1 p4 hN1 hD ⊢
 generalize aX cP r.query=n2 at p2 hN2 ⊢
 generalize aX cP r.fragment=n3 at p3 hN3 ⊢
 generalize (aE r.authority).1=hp at hH ⊢
 obtain⟨n1,e1⟩:=n1
 obtain⟨n2,e2⟩:=n2
 obtain⟨n3,e3⟩:=n3
 obtain⟨hh,pp⟩:=hp
 simp only at p1 p2 p3 p4 hN1 hN2 hN3 hH hD ⊢
 (refine aa p1 ?_;simp only[ae,↓Xn,↓Xo,↓Xg,↓Xd,↓Xe,↓Xf,Tryz.VΓ,Tryz.Γs,Xp,Xi,Nat.reduceAdd,Nat.reduceSub,Nat.reduceLT,Nat.reduceLeDiff,reduceIte,reduceCtorEq,Nat.reduceEqDiff,implies_true,forall_const,ad])
 refine⟨fun h5=>?_,fun h5=>?_⟩
 ·rw[if_pos (by simpa using h5)];rfl
 rw[if_neg (by simpa using h5)]
 (refine aa p2 ?_;simp only[ae,↓Xn,↓Xo,↓Xg,↓Xd,↓Xe,↓Xf,Tryz.VΓ,Tryz.Γs,Xp,Xi,Nat.reduceAdd,Nat.reduceSub,Nat.reduceLT,Nat.reduceLeDiff,reduceIte,reduceCtorEq,Nat.reduceEqDiff,implies_true,forall_const,ad])
 refine⟨fun h6=>?_,fun h6=>?_⟩
 ·rw[if_pos (by simpa using h6)];rfl
 rw[if_neg (by simpa using h6)]
 (refine aa p3 ?_;simp only[ae,↓Xn,↓Xo,↓Xg,↓Xd,↓Xe,↓Xf,Tryz.VΓ,Tryz.Γs,Xp,Xi,Nat.reduceAdd,Nat.reduceSub,Nat.reduceLT,Nat.reduceLeDiff,reduceIte,reduceCtorEq,Nat.reduceEqDiff,implies_true,forall_const,ad])
 refine⟨fun h7=>?_,fun h7=>?_⟩
 ·rw[if_pos (by simpa using h7)];rfl
 rw[if_neg (by simpa using h7)]
 unfold tF
 (refine aa p4 ?_;simp only[ae,↓Xn,↓Xo,↓Xg,↓Xd,↓Xe,↓Xf,Tryz.VΓ,Tryz.Γs,Xp,Xi,Nat.reduceAdd,Nat.reduceSub,Nat.reduceLT,Nat.reduceLeDiff,reduceIte,reduceCtorEq,Nat.reduceEqDiff,implies_true,forall_const,ad])
 generalize aN n1=d at hD ⊢
 have fin:∀ d':Bytes,d'.length≤4096 * 6→PC Tryz.V 119 [ey ⟨hh,pp,d',n2,n3,r.bl,r.bE⟩] (.str (cB ⟨hh,pp,d',n2,n3,r.bl,r.bE⟩)):=fun d' hd' =>
  gI _ ⟨by simp only;omega,by simp only;omega,by simp only;omega⟩
 unfold ey at fin
 refine⟨fun h8=>?_,fun h8=>?_⟩
 ·have f1:=fin [47] (by decide)
  have h8':d=[]:=by simpa using h8
  rw[if_pos h8']
  (refine aa f1 ?_;simp only[ae,↓Xn,↓Xo,↓Xg,↓Xd,↓Xe,↓Xf,Tryz.VΓ,Tryz.Γs,Xp,Xi,Nat.reduceAdd,Nat.reduceSub,Nat.reduceLT,Nat.reduceLeDiff,reduceIte,reduceCtorEq,Nat.reduceEqDiff,implies_true,forall_const,ad])
  refine⟨fun h9=>?_,fun h9=>?_⟩
  ·rw[if_pos (by simp at h9;omega)];rfl
  ·rw[if_neg (by simp at h9;omega)];rfl
 ·have f1:=fin d (by omega)
  have h8':¬ d=[]:=by simpa using h8
  rw[if_neg h8']
  (refine aa f1 ?_;simp only[ae,↓Xn,↓Xo,↓Xg,↓Xd,↓Xe,↓Xf,Tryz.VΓ,Tryz.Γs,Xp,Xi,Nat.reduceAdd,Nat.reduceSub,Nat.reduceLT,Nat.reduceLeDiff,reduceIte,reduceCtorEq,Nat.reduceEqDiff,implies_true,forall_const,ad])
  refine⟨fun h9=>?_,fun h9=>?_⟩
  ·rw[if_pos (by simp at h9;omega)];rfl
  ·rw[if_neg (by simp at h9;omega)];rfl
theorem tY (s:Bytes):PC Tryz.V 76 [.str s] (.eR [ey (bG s).1,.int .i64 (bG s).2]):=by
 refine aQ 3000 Tryz.func76 rfl Tryz.ntmps76 Tryz.results76 Tryz.call76 (by simp) (by simp[flat,flat.ai]) (by simp[flat,flat.ai,ey]) ?_
 simp only[ae,↓Xn,↓Xo,↓Xg,↓Xd,↓Xe,↓Xf,Tryz.VΓ,Tryz.Γs,Xp,Xi,Nat.reduceAdd,Nat.reduceSub,Nat.reduceLT,Nat.reduceLeDiff,reduceIte,reduceCtorEq,Nat.reduceEqDiff,implies_true,forall_const,ad]
 refine⟨fun h=>?_,fun h=>?_⟩
 ·have:bG s=(fc.none,5):=if_pos (by simp at h;omega)
  rw[this];rfl
 have hl:¬ 4096<s.length:=(by simp at h;omega)
 have hq:bG s=if (bd s).2≠0 then(fc.none,(bd s).2) else wP (bd s).1:=if_neg hl
 rw[hq]
 have ps:=C0 s
 unfold usv at ps
 have hp:=tK s
 have hz:=tJ s
 revert ps hp hz
 generalize bd s=us
 obtain⟨r,c⟩:=us
 intro ps hp hz
 simp only at ps hp hz
 simp only
 unfold Uri.size at hz
 have pl:=oN r.scheme di (by omega) (by decide)
 have pn:=bk r.authority [64] (by omega) (by decide)
 have FI:=yx r.authority 64
 have fU:=cq (·==64) r.authority
 rw[show (List.contains [64] ·:UInt8→Bool)=(·==64) from by funext c;simp;exact(Bool.beq_eq_decide_eq _ _).symm]at pn
 have ph:=tZ r.authority (by omega)
 have p1:=gJ r.path cQ (by decide)
 have p2:=gJ r.query cP (by decide)
 have p3:=gJ r.fragment cP (by decide)
 (refine aa (ps) ?_;simp only[ae,↓Xn,↓Xo,↓Xg,↓Xd,↓Xe,↓Xf,Tryz.VΓ,Tryz.Γs,Xp,Xi,Nat.reduceAdd,Nat.reduceSub,Nat.reduceLT,Nat.reduceLeDiff,reduceIte,reduceCtorEq,Nat.reduceEqDiff,implies_true,forall_const,ad])
 refine⟨fun h1=>?_,fun h1=>?_⟩
 ·rw[if_pos (by simpa using h1)];rfl
 rw[if_neg (by simpa using h1)]
 unfold wP
 cases kU:r.ik
 ·simp only[ae,↓Xn,↓Xo,↓Xg,↓Xd,↓Xe,↓Xf,Tryz.VΓ,Tryz.Γs,Xp,Xi,Nat.reduceAdd,Nat.reduceSub,Nat.reduceLT,Nat.reduceLeDiff,reduceIte,reduceCtorEq,Nat.reduceEqDiff,implies_true,forall_const,ad,kU]
  rw[if_pos (.inl trivial)];rfl
 simp only[ae,↓Xn,↓Xo,↓Xg,↓Xd,↓Xe,↓Xf,Tryz.VΓ,Tryz.Γs,Xp,Xi,Nat.reduceAdd,Nat.reduceSub,Nat.reduceLT,Nat.reduceLeDiff,reduceIte,reduceCtorEq,Nat.reduceEqDiff,implies_true,forall_const,ad,kU]
 rw[show lower di=di by decide]at pl
 (refine aa pl ?_;simp only[ae,↓Xn,↓Xo,↓Xg,↓Xd,↓Xe,↓Xf,Tryz.VΓ,Tryz.Γs,Xp,Xi,Nat.reduceAdd,Nat.reduceSub,Nat.reduceLT,Nat.reduceLeDiff,reduceIte,reduceCtorEq,Nat.reduceEqDiff,implies_true,forall_const,ad,kU])
 refine⟨fun h2=>?_,fun h2=>?_⟩
 ·rw[if_pos (.inr (by simpa using h2))];rfl
 rw[if_neg (by simpa using h2)]
 cases Iy:r.dI
 ·simp only[ae,↓Xn,↓Xo,↓Xg,↓Xd,↓Xe,↓Xf,Tryz.VΓ,Tryz.Γs,Xp,Xi,Nat.reduceAdd,Nat.reduceSub,Nat.reduceLT,Nat.reduceLeDiff,reduceIte,reduceCtorEq,Nat.reduceEqDiff,implies_true,forall_const,ad,Iy]
  rfl
 simp only[ae,↓Xn,↓Xo,↓Xg,↓Xd,↓Xe,↓Xf,Tryz.VΓ,Tryz.Γs,Xp,Xi,Nat.reduceAdd,Nat.reduceSub,Nat.reduceLT,Nat.reduceLeDiff,reduceIte,reduceCtorEq,Nat.reduceEqDiff,implies_true,forall_const,ad,Iy]
 (refine aR pn ?_;simp only[ae,↓Xn,↓Xo,↓Xg,↓Xd,↓Xe,↓Xf,Tryz.VΓ,Tryz.Γs,Xp,Xi,Nat.reduceAdd,Nat.reduceSub,Nat.reduceLT,Nat.reduceLeDiff,reduceIte,reduceCtorEq,Nat.reduceEqDiff,implies_true,forall_const,ad,Iy])
 refine⟨(aj (by kernel_rfl)),fun h3=>?_,fun h3=>?_⟩
 ·rw[if_pos (FI.1 (by simp at h3;omega))];rfl
 rw[if_neg (fun k=>absurd (FI.2 k) (by simp at h3;omega))]
 unfold pA
 (refine aa ph ?_;simp only[ae,↓Xn,↓Xo,↓Xg,↓Xd,↓Xe,↓Xf,Tryz.VΓ,Tryz.Γs,Xp,Xi,Nat.reduceAdd,Nat.reduceSub,Nat.reduceLT,Nat.reduceLeDiff,reduceIte,reduceCtorEq,Nat.reduceEqDiff,implies_true,forall_const,ad,Iy])
 refine⟨fun h4=>?_,fun h4=>?_⟩
 ·rw[if_pos (by simpa using h4)];rfl
 rw[if_neg (by simpa using h4)]
 have hN1:=dF cQ r.path
 have hN2:=dF cP r.query
 have hN3:=dF cP r.fragment
 have hH:=sx r.authority (by simpa using h4)
 have p4:=sM (aX cQ r.path).1 (by omega)
 have hD:=mX (aX cQ r.path).1
 generalize aX cQ r.path=n1 at p1 p4 hN1 hD ⊢
 generalize aX cP r.query=n2 at p2 hN2 ⊢
 generalize aX cP r.fragment=n3 at p3 hN3 ⊢
 generalize (aE r.authority).1=hp at hH ⊢
 obtain⟨n1,e1⟩:=n1
 obtain⟨n2,e2⟩:=n2
 obtain⟨n3,e3⟩:=n3
 obtain⟨hh,pp⟩:=hp
 simp only at p1 p2 p3 p4 hN1 hN2 hN3 hH hD ⊢
 (refine aa p1 ?_;simp only[ae,↓Xn,↓Xo,↓Xg,↓Xd,↓Xe,↓Xf,Tryz.VΓ,Tryz.Γs,Xp,Xi,Nat.reduceAdd,Nat.reduceSub,Nat.reduceLT,Nat.reduceLeDiff,reduceIte,reduceCtorEq,Nat.reduceEqDiff,implies_true,forall_const,ad])
 refine⟨fun h5=>?_,fun h5=>?_⟩
 ·rw[if_pos (by simpa using h5)];rfl
 rw[if_neg (by simpa using h5)]
 (refine aa p2 ?_;simp only[ae,↓Xn,↓Xo,↓Xg,↓Xd,↓Xe,↓Xf,Tryz.VΓ,Tryz.Γs,Xp,Xi,Nat.reduceAdd,Nat.reduceSub,Nat.reduceLT,Nat.reduceLeDiff,reduceIte,reduceCtorEq,Nat.reduceEqDiff,implies_true,forall_const,ad])
 refine⟨fun h6=>?_,fun h6=>?_⟩
 ·rw[if_pos (by simpa using h6)];rfl
 rw[if_neg (by simpa using h6)]
 (refine aa p3 ?_;simp only[ae,↓Xn,↓Xo,↓Xg,↓Xd,↓Xe,↓Xf,Tryz.VΓ,Tryz.Γs,Xp,Xi,Nat.reduceAdd,Nat.reduceSub,Nat.reduceLT,Nat.reduceLeDiff,reduceIte,reduceCtorEq,Nat.reduceEqDiff,implies_true,forall_const,ad])
 refine⟨fun h7=>?_,fun h7=>?_⟩
 ·rw[if_pos (by simpa using h7)];rfl
 rw[if_neg (by simpa using h7)]
 unfold tF
 (refine aa p4 ?_;simp only[ae,↓Xn,↓Xo,↓Xg,↓Xd,↓Xe,↓Xf,Tryz.VΓ,Tryz.Γs,Xp,Xi,Nat.reduceAdd,Nat.reduceSub,Nat.reduceLT,Nat.reduceLeDiff,reduceIte,reduceCtorEq,Nat.reduceEqDiff,implies_true,forall_const,ad])
 generalize aN n1=d at hD ⊢
 have fin:∀ d':Bytes,d'.length≤4096 * 6→PC Tryz.V 77 [ey ⟨hh,pp,d',n2,n3,r.bl,r.bE⟩] (.str (cB ⟨hh,pp,d',n2,n3,r.bl,r.bE⟩)):=fun d' hd' =>
  jW _ ⟨by simp only;omega,by simp only;omega,by simp only;omega⟩
 unfold ey at fin
 refine⟨fun h8=>?_,fun h8=>?_⟩
 ·have f1:=fin [47] (by decide)
  have h8':d=[]:=by simpa using h8
  rw[if_pos h8']
  (refine aa f1 ?_;simp only[ae,↓Xn,↓Xo,↓Xg,↓Xd,↓Xe,↓Xf,Tryz.VΓ,Tryz.Γs,Xp,Xi,Nat.reduceAdd,Nat.reduceSub,Nat.reduceLT,Nat.reduceLeDiff,reduceIte,reduceCtorEq,Nat.reduceEqDiff,implies_true,forall_const,ad])
  refine⟨fun h9=>?_,fun h9=>?_⟩
  ·rw[if_pos (by simp at h9;omega)];rfl
  ·rw[if_neg (by simp at h9;omega)];rfl
 ·have f1:=fin d (by omega)
  have h8':¬ d=[]:=by simpa using h8
  rw[if_neg h8']
  (refine aa f1 ?_;simp only[ae,↓Xn,↓Xo,↓Xg,↓Xd,↓Xe,↓Xf,Tryz.VΓ,Tryz.Γs,Xp,Xi,Nat.reduceAdd,Nat.reduceSub,Nat.reduceLT,Nat.reduceLeDiff,reduceIte,reduceCtorEq,Nat.reduceEqDiff,implies_true,forall_const,ad])
  refine⟨fun h9=>?_,fun h9=>?_⟩
  ·rw[if_pos (by simp at h9;omega)];rfl
  ·rw[if_neg (by simp at h9;omega)];rfl
theorem AF (u:fc)(hk:Fair u):PC Tryz.V 187 [ey u] (.bool (fO u)):=by
 have pf:=gI u hk
 have pp:=sh (cB u)
 unfold ey at pf pp
 (refine aQ 3000 Tryz.func187 rfl Tryz.ntmps187 Tryz.results187 Tryz.call187 (by simp) (by simp[flat,flat.ai,ey]) (by simp[flat,flat.ai,ey]) ?_
  unfold ey
  simp only[ae,↓Xn,↓Xo,↓Xg,↓Xd,↓Xe,↓Xf,Tryz.VΓ,Tryz.Γs,Xp,Xi,Nat.reduceAdd,Nat.reduceSub,Nat.reduceLT,Nat.reduceLeDiff,reduceIte,reduceCtorEq,Nat.reduceEqDiff,implies_true,forall_const,ad])
 (refine aa (pf) ?_;simp only[ae,↓Xn,↓Xo,↓Xg,↓Xd,↓Xe,↓Xf,Tryz.VΓ,Tryz.Γs,Xp,Xi,Nat.reduceAdd,Nat.reduceSub,Nat.reduceLT,Nat.reduceLeDiff,reduceIte,reduceCtorEq,Nat.reduceEqDiff,implies_true,forall_const,ad])
 (refine aa (pp) ?_;simp only[ae,↓Xn,↓Xo,↓Xg,↓Xd,↓Xe,↓Xf,Tryz.VΓ,Tryz.Γs,Xp,Xi,Nat.reduceAdd,Nat.reduceSub,Nat.reduceLT,Nat.reduceLeDiff,reduceIte,reduceCtorEq,Nat.reduceEqDiff,implies_true,forall_const,ad])
 unfold fO
 generalize bG (cB u)=x
 obtain⟨⟨a,b,c,d,e,f,g⟩,y⟩:=x
 obtain⟨a',b',c',d',e',f',g'⟩:=u
 simp only[eqS,DI,BS,BS.eqF]
 refine⟨fun h=>?_,fun h=>?_⟩
 ·obtain rfl:y=0:=by simpa using h
  congr 1
  rw[Bool.eq_iff_iff]
  simp only[zMn,beq_iff_eq,decide_eq_true_eq,Prod.mk.injEq,fc.mk.injEq,and_true]
  constructor <;> (rintro⟨rfl,rfl,rfl,rfl,rfl,rfl,rfl⟩;exact⟨rfl,rfl,rfl,rfl,rfl,rfl,rfl⟩)
 ·congr 1
  exact(decide_eq_false (fun k=>by rw[(Prod.mk.inj k).2]at h;simp at h)).symm
theorem CZ (u:fc)(hk:Fair u):PC Tryz.V 133 [ey u] (.bool (fO u)):=by
 have pf:=jW u hk
 have pp:=tY (cB u)
 unfold ey at pf pp
 (refine aQ 3000 Tryz.func133 rfl Tryz.ntmps133 Tryz.results133 Tryz.call133 (by simp) (by simp[flat,flat.ai,ey]) (by simp[flat,flat.ai,ey]) ?_
  unfold ey
  simp only[ae,↓Xn,↓Xo,↓Xg,↓Xd,↓Xe,↓Xf,Tryz.VΓ,Tryz.Γs,Xp,Xi,Nat.reduceAdd,Nat.reduceSub,Nat.reduceLT,Nat.reduceLeDiff,reduceIte,reduceCtorEq,Nat.reduceEqDiff,implies_true,forall_const,ad])
 (refine aa (pf) ?_;simp only[ae,↓Xn,↓Xo,↓Xg,↓Xd,↓Xe,↓Xf,Tryz.VΓ,Tryz.Γs,Xp,Xi,Nat.reduceAdd,Nat.reduceSub,Nat.reduceLT,Nat.reduceLeDiff,reduceIte,reduceCtorEq,Nat.reduceEqDiff,implies_true,forall_const,ad])
 (refine aa (pp) ?_;simp only[ae,↓Xn,↓Xo,↓Xg,↓Xd,↓Xe,↓Xf,Tryz.VΓ,Tryz.Γs,Xp,Xi,Nat.reduceAdd,Nat.reduceSub,Nat.reduceLT,Nat.reduceLeDiff,reduceIte,reduceCtorEq,Nat.reduceEqDiff,implies_true,forall_const,ad])
 unfold fO
 generalize bG (cB u)=x
 obtain⟨⟨a,b,c,d,e,f,g⟩,y⟩:=x
 obtain⟨a',b',c',d',e',f',g'⟩:=u
 simp only[eqS,DI,BS,BS.eqF]
 refine⟨fun h=>?_,fun h=>?_⟩
 ·obtain rfl:y=0:=by simpa using h
  congr 1
  rw[Bool.eq_iff_iff]
  simp only[zMn,beq_iff_eq,decide_eq_true_eq,Prod.mk.injEq,fc.mk.injEq,and_true]
  constructor <;> (rintro⟨rfl,rfl,rfl,rfl,rfl,rfl,rfl⟩;exact⟨rfl,rfl,rfl,rfl,rfl,rfl,rfl⟩)
 ·congr 1
  exact(decide_eq_false (fun k=>by rw[(Prod.mk.inj k).2]at h;simp at h)).symm
theorem ml (d:fN)(h:eH d):PC Tryz.V 122 [fg d] (.eR [.agg [.str (bg d).1.1,.int .i64 (bg d).1.2],.int .i64 (bg d).2]):=by
 have pf:=dB d h
 have pp:=ng (bA d)
 have hf:=@vA d
 have hd:=@nL d
 refine aQ 3000 Tryz.func122 rfl Tryz.ntmps122 Tryz.results122 Tryz.call122 (by simp) (by simp[flat,flat.ai,fg,ey]) (by simp[flat,flat.ai,fg,ey]) ?_
 unfold fg
 unfold fg at pf pp
 unfold bg
 simp only[ae,↓Xn,↓Xo,↓Xg,↓Xd,↓Xe,↓Xf,Tryz.VΓ,Tryz.Γs,Xp,Xi,Nat.reduceAdd,Nat.reduceSub,Nat.reduceLT,Nat.reduceLeDiff,reduceIte,reduceCtorEq,Nat.reduceEqDiff,implies_true,forall_const,ad]
 refine⟨fun h1=>(by rw[if_pos (by simpa[dK] using h1)]),fun h1=>?_⟩
 have h1:d.method=dK:=by simpa[dK] using h1
 rw[if_neg (by simp[h1])]
 (refine aa pf ?_;simp only[ae,↓Xn,↓Xo,↓Xg,↓Xd,↓Xe,↓Xf,Tryz.VΓ,Tryz.Γs,Xp,Xi,Nat.reduceAdd,Nat.reduceSub,Nat.reduceLT,Nat.reduceLeDiff,reduceIte,reduceCtorEq,Nat.reduceEqDiff,implies_true,forall_const,ad])
 (refine aa pp ?_;simp only[ae,↓Xn,↓Xo,↓Xg,↓Xd,↓Xe,↓Xf,Tryz.VΓ,Tryz.Γs,Xp,Xi,Nat.reduceAdd,Nat.reduceSub,Nat.reduceLT,Nat.reduceLeDiff,reduceIte,reduceCtorEq,Nat.reduceEqDiff,implies_true,forall_const,ad])
 refine⟨fun h2=>(by rw[if_pos (by simpa using h2)]),fun h2=>?_⟩
 have h2:(aY (bA d)).2=0:=by simpa using h2
 rw[if_neg (by simp[h2])]
 have hf:=hf h1 h2
 have hd:=hd h1 h2
 have pc:=uf d.id 58 (by omega)
 have pd:=nh (aG 58 d.id).1
 rw[hf]at pd ⊢
 have ny:=eb 58 d.id
 have gW:=jI (aG 58 d.id).1
 have ph:=pQ (jl (aG 58 d.id).1) (by omega)
 (refine aa pc ?_;simp only[ae,↓Xn,↓Xo,↓Xg,↓Xd,↓Xe,↓Xf,Tryz.VΓ,Tryz.Γs,Xp,Xi,Nat.reduceAdd,Nat.reduceSub,Nat.reduceLT,Nat.reduceLeDiff,reduceIte,reduceCtorEq,Nat.reduceEqDiff,implies_true,forall_const,ad])
 (refine aa pd ?_;simp only[ae,↓Xn,↓Xo,↓Xg,↓Xd,↓Xe,↓Xf,Tryz.VΓ,Tryz.Γs,Xp,Xi,Nat.reduceAdd,Nat.reduceSub,Nat.reduceLT,Nat.reduceLeDiff,reduceIte,reduceCtorEq,Nat.reduceEqDiff,implies_true,forall_const,ad,beq_self_eq_true,bne_self_eq_false,Int.reduceBEq,Int.reduceBNe,Int.reduceLT,Int.reduceLE])
 (refine aa ph ?_;simp only[ae,↓Xn,↓Xo,↓Xg,↓Xd,↓Xe,↓Xf,Tryz.VΓ,Tryz.Γs,Xp,Xi,Nat.reduceAdd,Nat.reduceSub,Nat.reduceLT,Nat.reduceLeDiff,reduceIte,reduceCtorEq,Nat.reduceEqDiff,implies_true,forall_const,ad,beq_self_eq_true,bne_self_eq_false,Int.reduceBEq,Int.reduceBNe,Int.reduceLT,Int.reduceLE])
 done
theorem sc_up {bs:List aw}{i:Nat}{e:Int}(s:Bytes)(hi:bs[i]? = some (.cells [.int .i64 e] 179 true))(hs:s.length≤16384) :
 SC Tryz.V 186 [.p i 0,.str s] bs (fun r b=>r=.str (gG s)∧b=bs.set i (.cells [.int .i64 (if en s then e else 110)] 179 true)):=by
 have eF:i<bs.length:=(zLK.1 hi).1
 refine cV 3000 Tryz.func186 rfl Tryz.ntmps186 Tryz.results186 Tryz.call186 (by simp) (ax bs.length _ (by simp[within,within.aS,eF])) ?_
 have pd:=nh s
 have pe:=ue (ak s).1 [] (by have:=cN s;omega)
 have ny:=cN s
 have gW:=dM [] (ak s).1
 have bN:en s=!((((ak s).2 != 0)||((ak s).1==[]))||(((ak s).1==[46])||((ak s).1==[46,46]))):=by
  unfold en
  cases h1:(ak s).2==0 <;> cases h2:(ak s).1==[] <;> cases h3:(ak s).1==[46] <;> cases h4:(ak s).1==[46,46] <;> simp_all [bne]
 rw[bN]
 have jD:=Ad hi
 generalize hX:ak s=X at pd pe bN ny gW ⊢
 obtain⟨x,k⟩:=X
 simp only at pd pe bN ny gW ⊢
 unfold gG
 rw[hX]
 simp only
 simp only[ae,↓Xn,↓Xo,↓Xg,↓Xd,↓Xe,↓Xf,Tryz.VΓ,Tryz.Γs,Xp,Xi,Nat.reduceAdd,Nat.reduceSub,Nat.reduceLT,Nat.reduceLeDiff,reduceIte,reduceCtorEq,Nat.reduceEqDiff,implies_true,forall_const,ad,hi]
 (refine aa pd ?_;simp only[ae,↓Xn,↓Xo,↓Xg,↓Xd,↓Xe,↓Xf,Tryz.VΓ,Tryz.Γs,Xp,Xi,Nat.reduceAdd,Nat.reduceSub,Nat.reduceLT,Nat.reduceLeDiff,reduceIte,reduceCtorEq,Nat.reduceEqDiff,implies_true,forall_const,ad,hi])
 cases h1:k != 0 <;> cases h2:x==[] <;> cases h3:x==[46] <;> cases h4:x==[46,46] <;> simp only[ae,↓Xn,↓Xo,↓Xg,↓Xd,↓Xe,↓Xf,Tryz.VΓ,Tryz.Γs,Xp,Xi,Nat.reduceAdd,Nat.reduceSub,Nat.reduceLT,Nat.reduceLeDiff,reduceIte,reduceCtorEq,Nat.reduceEqDiff,implies_true,forall_const,ad,hi,h1,h2,h3,h4] <;> (refine aa pe ?_;simp only[ae,↓Xn,↓Xo,↓Xg,↓Xd,↓Xe,↓Xf,Tryz.VΓ,Tryz.Γs,Xp,Xi,Nat.reduceAdd,Nat.reduceSub,Nat.reduceLT,Nat.reduceLeDiff,reduceIte,reduceCtorEq,Nat.reduceEqDiff,implies_true,forall_const,ad,hi,jD]) <;> exact⟨by omega,by first|rfl|exact jD.symm⟩
theorem sc_down {bs:List aw}{i:Nat}{e:Int}(s:Bytes)(hi:bs[i]? = some (.cells [.int .i64 e] 179 true))(hs:s.length≤16384) :
 SC Tryz.V 188 [.p i 0,.str s] bs (fun r b=>r=.str (bu s)∧b=bs.set i (.cells [.int .i64 (if bL s then e else 110)] 179 true)):=by
 have eF:i<bs.length:=(zLK.1 hi).1
 refine cV 3000 Tryz.func188 rfl Tryz.ntmps188 Tryz.results188 Tryz.call188 (by simp) (ax bs.length _ (by simp[within,within.aS,eF])) ?_
 have pr:=pS (aD [] (ak s).1) 126 [37,55,69] (by decide) (by have:=cN s;have:=dM [] (ak s).1;omega) (by decide)
 rw[escDown]at pr
 have pd:=nh s
 have pe:=ue (ak s).1 [] (by have:=cN s;omega)
 have ny:=cN s
 have gW:=fw (ak s).1
 simp only[ae,↓Xn,↓Xo,↓Xg,↓Xd,↓Xe,↓Xf,Tryz.VΓ,Tryz.Γs,Xp,Xi,Nat.reduceAdd,Nat.reduceSub,Nat.reduceLT,Nat.reduceLeDiff,reduceIte,reduceCtorEq,Nat.reduceEqDiff,implies_true,forall_const,ad,hi]
 refine aL (fun σ=>∃ k:Nat,k≤s.length∧lk 0 σ.t=some (.p i 0)∧lk 1 σ.t=some (.str s)∧lk 4 σ.t=some (.str [])∧lk 8 σ.t=some (.str s)∧lk 9 σ.t=some (.int .i64 s.length)∧lk 10 σ.t=some (.int .i64 k) ∧
  σ.b=bs.set i (.cells [.int .i64 (if (s.take k).all db then e else 110)] 179 true)) (fun σ=>s.length - ji 10 σ) ⟨0,by omega,rfl,rfl,rfl,rfl,rfl,rfl,(Ad hi).symm⟩ ?_
 rintro⟨t,b⟩ ⟨k,hk,h0,h1,h4,h8,h9,fm,hb⟩
 simp only at h0 h1 h4 h8 h9 fm hb
 rw[az fm]
 have pg:b[i]? = some (.cells [.int .i64 (if (s.take k).all db then e else 110)] 179 true):=by rw[hb];exact zLM eF
 by_cases aC:k<s.length
 ·have hg:s.getD k 0=s[k]:=by simp[List.getD,aC]
  have aP:(s.take (k+1)).all db=((s.take k).all db&&db s[k]):=by rw[zLY aC,List.all_append];simp
  have vI:((s[k].toNat:Int) != 37)=(s[k] != 37):=by
   have:=cE aC 37 (n:=37) rfl
   show (!_)=(!_)
   rw[← this,hg]
  have same:db s[k]=true→b=bs.set i (.cells [.int .i64 (if (s.take (k+1)).all db then e else 110)] 179 true):=fun h=>by rw[aP,h,Bool.and_true];exact hb
  have meas:∀ (t':List (Nat × SV)) (b':List aw),lk 10 t'=some (.int .i64 ((k:Int)+1))→s.length - ji 10 ⟨t',b'⟩<s.length - (k:Int).toNat:=fun t' b' k6=>by rw[az (σ:=⟨t',b'⟩) k6];omega
  simp only[ae,↓Xn,↓Xo,↓Xg,↓Xd,↓Xe,↓Xf,Tryz.VΓ,Tryz.Γs,Xp,Xi,Nat.reduceAdd,Nat.reduceSub,Nat.reduceLT,Nat.reduceLeDiff,reduceIte,reduceCtorEq,Nat.reduceEqDiff,implies_true,forall_const,ad,h0,h1,h4,h8,h9,fm,pg,hg]
  refine⟨fun _=>⟨⟨by omega,by omega⟩,fun g1=>⟨⟨by omega,by omega⟩,?_⟩,fun g1=>⟨⟨by omega,by omega⟩,⟨k+1,by omega,rfl,same ?_⟩,meas _ _ rfl⟩⟩,fun h=>absurd h (by simp;omega)⟩
  ·(refine aa (fj s[k]) ?_;simp only[ae,↓Xn,↓Xo,↓Xg,↓Xd,↓Xe,↓Xf,Tryz.VΓ,Tryz.Γs,Xp,Xi,Nat.reduceAdd,Nat.reduceSub,Nat.reduceLT,Nat.reduceLeDiff,reduceIte,reduceCtorEq,Nat.reduceEqDiff,implies_true,forall_const,ad,h0,h1,h4,h8,h9,fm,pg,hg])
   refine⟨fun g2=>⟨⟨by omega,by omega⟩,⟨k+1,by omega,rfl,?_⟩,meas _ _ rfl⟩,fun g2=>⟨⟨by omega,by omega⟩,⟨k+1,by omega,rfl,same ?_⟩,meas _ _ rfl⟩⟩
   ·have:db s[k]=false:=by
     unfold db
     rw[vI]at g1
     simp at g1 g2 ⊢
     exact⟨g1,g2⟩
    rw[aP,this,Bool.and_false,hb,List.set_set]
    rfl
   ·unfold db
    simp at g2 ⊢
    exact .inr g2
  ·unfold db
   rw[vI]at g1
   simp at g1 ⊢
   exact .inl g1
 ·have jk:k=s.length:=by omega
  subst jk
  rw[zLV]at hb pg
  clear hk aC
  have hd:bL s=(s.all db&&!(((ak s).2 != 0)||((ak s).1==[]))):=by
   unfold bL
   cases s.all db <;> cases h1:(ak s).2==0 <;> cases h2:(ak s).1==[] <;> simp_all [bne]
  have uL:bu s=58::aK (ak s).1:=rfl
  rw[hd,uL]
  generalize ak s=X at pd pe pr ny gW ⊢
  obtain⟨x,k⟩:=X
  simp only at pd pe pr ny gW ⊢
  have xK:decide ((s.length:Int)<s.length)=false:=by simp
  simp only[ae,↓Xn,↓Xo,↓Xg,↓Xd,↓Xe,↓Xf,Tryz.VΓ,Tryz.Γs,Xp,Xi,Nat.reduceAdd,Nat.reduceSub,Nat.reduceLT,Nat.reduceLeDiff,reduceIte,reduceCtorEq,Nat.reduceEqDiff,implies_true,forall_const,ad,h0,h1,h4,h8,h9,fm,pg,xK]
  (refine aa pd ?_;simp only[ae,↓Xn,↓Xo,↓Xg,↓Xd,↓Xe,↓Xf,Tryz.VΓ,Tryz.Γs,Xp,Xi,Nat.reduceAdd,Nat.reduceSub,Nat.reduceLT,Nat.reduceLeDiff,reduceIte,reduceCtorEq,Nat.reduceEqDiff,implies_true,forall_const,ad,h0,h1,h4,h8,h9,fm,pg])
  have e1:∀ v,b.set i (.cells [.int .i64 v] 179 true)=bs.set i (.cells [.int .i64 v] 179 true):=fun v=>by rw[hb,List.set_set]
  cases g1:k != 0 <;> cases g2:x==[] <;> simp only[ae,↓Xn,↓Xo,↓Xg,↓Xd,↓Xe,↓Xf,Tryz.VΓ,Tryz.Γs,Xp,Xi,Nat.reduceAdd,Nat.reduceSub,Nat.reduceLT,Nat.reduceLeDiff,reduceIte,reduceCtorEq,Nat.reduceEqDiff,implies_true,forall_const,ad,h0,h1,h4,h8,h9,fm,pg,g1,g2] <;> (refine aa pe ?_;simp only[ae,↓Xn,↓Xo,↓Xg,↓Xd,↓Xe,↓Xf,Tryz.VΓ,Tryz.Γs,Xp,Xi,Nat.reduceAdd,Nat.reduceSub,Nat.reduceLT,Nat.reduceLeDiff,reduceIte,reduceCtorEq,Nat.reduceEqDiff,implies_true,forall_const,ad,h0,h1,h4,h8,h9,fm,pg]) <;> (refine aa pr ?_;simp only[ae,↓Xn,↓Xo,↓Xg,↓Xd,↓Xe,↓Xf,Tryz.VΓ,Tryz.Γs,Xp,Xi,Nat.reduceAdd,Nat.reduceSub,Nat.reduceLT,Nat.reduceLeDiff,reduceIte,reduceCtorEq,Nat.reduceEqDiff,implies_true,forall_const,ad,h0,h1,h4,h8,h9,fm,pg]) <;> refine⟨by omega,?_⟩ <;> (first|rw[e1] | rw[hb]) <;> congr 4 <;> cases s.all db <;> rfl
theorem ll {g:Bytes→Bytes}{L:List Bytes}{k:Nat}(h:k<L.length):(L.take (k+1)).flatMap g=(L.take k).flatMap g++g L[k]:=by
 rw[zLY h,List.flatMap_append,List.flatMap_cons,List.flatMap_nil,zMg]
theorem gR {g:Bytes→Bytes}{L:List Bytes}{k:Nat}:((L.take k).flatMap g).length≤(L.flatMap g).length:=by
 conv=>rhs;rw[← List.take_append_drop k L]
 rw[List.flatMap_append,zLL]
 omega
theorem nS (bs:List aw){i n:Nat}(X:aw)(hn:bs.length=n):Gd [(i,0,0),(n,0,0)] (bs.set i X++[.gone]) bs:=by
 subst hn
 refine yM (fun j hj=>?_) (by simp)
 have h1:=hj _ List.mem_cons_self
 have h2:=hj _ (zMm _ List.mem_cons_self)
 simp only at h1 h2
 rcases zMj j bs.length with h|h
 ·rw[zLR (by rw[zL2];exact h),zLO h1]
 ·rw[zLZ (by simp;omega),zLZ h]
theorem CN {bs:List aw}{i j:Nat}{e:Int}{L:List Bytes}{m:Bool}(hi:bs[i]? = some (.cells [.int .i64 e] 179 true))(hj:bs[j]? = some (.own (L.map SV.str) 9 1 L.length m))(hL:∀ x∈L,x.length≤16384)(hn:L.length≤1000000)(hlen:(L.flatMap gG).length≤10000000) :
 SC Tryz.V 185 [.o j L.length,.mv 186 [.p i 0]] bs (fun r b=>r=.str (L.flatMap gG)∧b=bs.set i (.cells [.int .i64 (if L.all en then e else 110)] 179 true)++[.gone]):=by
 have mG:j<bs.length:=(zLK.1 hj).1
 have eF:i<bs.length:=(zLK.1 hi).1
 have xL:i≠j:=by rintro rfl;rw[hi]at hj;cases hj
 refine cV 3000 Tryz.func185 rfl Tryz.ntmps185 Tryz.results185 Tryz.call185 (by simp) (ax bs.length _ (by simp[within,within.aS,mG,eF])) ?_
 simp only[ae,↓Xn,↓Xo,↓Xg,↓Xd,↓Xe,↓Xf,Tryz.VΓ,Tryz.Γs,Xp,Xi,Nat.reduceAdd,Nat.reduceSub,Nat.reduceLT,Nat.reduceLeDiff,reduceIte,reduceCtorEq,Nat.reduceEqDiff,implies_true,forall_const,ad,hj]
 refine aL (fun σ=>∃ k:Nat,k≤L.length∧lk 1 σ.t=some (.mv 186 [.p i 0])∧lk 4 σ.t=some (.str [])∧lk 5 σ.t=some (.p bs.length 0)∧lk 8 σ.t=some (.o j L.length)∧lk 9 σ.t=some (.int .i64 L.length)∧lk 10 σ.t=some (.int .i64 k) ∧
  Gf bs.length ((L.take k).flatMap gG) σ.b∧σ.b.length=bs.length+1∧σ.b[i]? = some (.cells [.int .i64 (if (L.take k).all en then e else 110)] 179 true)∧∀ q,q<bs.length→q≠i→σ.b[q]? = bs[q]?) (fun σ=>L.length - ji 10 σ)
  ⟨0,by omega,rfl,rfl,rfl,rfl,rfl,rfl,.inr ⟨rfl,aW _ _⟩,by simp,af hi _,fun q hq _=>zLR hq⟩ ?_
 rintro⟨t,b⟩ ⟨k,hk,h1,h4,h5,h8,h9,fm,hB,mu,pg,zC⟩
 simp only at h1 h4 h5 h8 h9 fm hB mu pg zC
 rw[az fm]
 have Gr:=(zC j mG (fun e=>xL e.symm)).trans hj
 by_cases aC:k<L.length
 ·have hx:(L.map SV.str)[k * 1]? = some (.str L[k]):=by simp[aC]
  have BE:=ll (g:=gG) aC
  have hle:=gR (g:=gG) (L:=L) (k:=k+1)
  rw[BE,zLL]at hle
  have aP:(L.take (k+1)).all en=((L.take k).all en&&en L[k]):=by rw[zLY aC,List.all_append];simp
  simp only[ae,↓Xn,↓Xo,↓Xg,↓Xd,↓Xe,↓Xf,Tryz.VΓ,Tryz.Γs,Xp,Xi,Nat.reduceAdd,Nat.reduceSub,Nat.reduceLT,Nat.reduceLeDiff,reduceIte,reduceCtorEq,Nat.reduceEqDiff,implies_true,forall_const,ad,h1,h4,h5,h8,h9,fm,Gr,hx]
  refine⟨fun _=>⟨⟨by omega,by omega⟩,by simp;omega,?_⟩,fun h=>absurd h (by simp;omega)⟩
  refine aT (sc_up L[k] pg (hL _ (zLW aC))) ?_
  rintro r b1 ⟨rfl,kG⟩
  have hbib:i<b.length:=by omega
  have im:Gf bs.length ((L.take k).flatMap gG) b1:=by
   rw[kG]
   unfold Gf
   rw[zLO (by omega)]
   exact hB
  have hbi1:b1[i]? = some (.cells [.int .i64 (if (L.take (k+1)).all en then e else 110)] 179 true):=by
   rw[kG,zLM hbib,aP]
   cases en L[k] <;> cases (L.take k).all en <;> rfl
  have Iw:∀ q,q<bs.length→q≠i→b1[q]? = bs[q]? := fun q hq bp=>by
   rw[kG,zLO (fun e=>bp e.symm)];exact zC q hq bp
  have hbl1:b1.length=bs.length+1:=by rw[kG,zL2];exact mu
  clear kG
  simp only[ae,↓Xn,↓Xo,↓Xg,↓Xd,↓Xe,↓Xf,Tryz.VΓ,Tryz.Γs,Xp,Xi,Nat.reduceAdd,Nat.reduceSub,Nat.reduceLT,Nat.reduceLeDiff,reduceIte,reduceCtorEq,Nat.reduceEqDiff,implies_true,forall_const,ad,h1,h4,h5,h8,h9,fm]
  refine aT (sc_WS im (by omega)) ?_
  rintro r b2 ⟨rfl,oA⟩
  simp only[ae,↓Xn,↓Xo,↓Xg,↓Xd,↓Xe,↓Xf,Tryz.VΓ,Tryz.Γs,Xp,Xi,Nat.reduceAdd,Nat.reduceSub,Nat.reduceLT,Nat.reduceLeDiff,reduceIte,reduceCtorEq,Nat.reduceEqDiff,implies_true,forall_const,ad,h1,h4,h5,h8,h9,fm]
  refine⟨⟨by omega,by omega⟩,⟨k+1,by omega,rfl,?_,?_,?_,?_⟩,?_⟩
  ·rw[BE,oA];exact im.set
  ·rw[oA,zL2];exact hbl1
  ·rw[oA,zLO (by omega)];exact hbi1
  ·intro q hq bp
   rw[oA,zLO (by omega)];exact Iw q hq bp
  ·rw[az (k:=.i64) (n:=(k:Int)+1) rfl];omega
 ·have jk:k=L.length:=by omega
  subst jk
  rw[zLV]at hB pg
  have xK:decide ((L.length:Int)<L.length)=false:=by simp
  simp only[ae,↓Xn,↓Xo,↓Xg,↓Xd,↓Xe,↓Xf,Tryz.VΓ,Tryz.Γs,Xp,Xi,Nat.reduceAdd,Nat.reduceSub,Nat.reduceLT,Nat.reduceLeDiff,reduceIte,reduceCtorEq,Nat.reduceEqDiff,implies_true,forall_const,ad,h1,h4,h5,h8,h9,fm,xK]
  refine aT (GP hB) ?_
  rintro r b2 ⟨rfl,oA⟩
  simp only[ae,↓Xn,↓Xo,↓Xg,↓Xd,↓Xe,↓Xf,Tryz.VΓ,Tryz.Γs,Xp,Xi,Nat.reduceAdd,Nat.reduceSub,Nat.reduceLT,Nat.reduceLeDiff,reduceIte,reduceCtorEq,Nat.reduceEqDiff,implies_true,forall_const,ad,h1,h4,h5,h8,h9,fm]
  simp only at oA
  apply List.ext_getElem?
  intro q
  rw[oA]
  rcases Nat.lt_trichotomy q bs.length with hq|hq|hq
  ·rw[zLO (by omega),zLR (by rw[zL2];exact hq)]
   by_cases Gk:q=i
   ·subst Gk;rw[zLM hq];exact pg
   ·rw[zLO (fun e=>Gk e.symm)];exact zC q hq Gk
  ·subst hq
   rw[zLM (by omega),zLX (by simp)]
   simp
  ·rw[zLZ (by simp;omega),zLZ (by simp;omega)]
theorem jc {bs:List aw}{i j:Nat}{e:Int}{L:List Bytes}{m:Bool}(hi:bs[i]? = some (.cells [.int .i64 e] 179 true))(hj:bs[j]? = some (.own (L.map SV.str) 9 1 L.length m))(hL:∀ x∈L,x.length≤16384)(hn:L.length≤1000000)(hlen:(L.flatMap bu).length≤10000000) :
 SC Tryz.V 185 [.o j L.length,.mv 188 [.p i 0]] bs (fun r b=>r=.str (L.flatMap bu)∧b=bs.set i (.cells [.int .i64 (if L.all bL then e else 110)] 179 true)++[.gone]):=by
 have mG:j<bs.length:=(zLK.1 hj).1
 have eF:i<bs.length:=(zLK.1 hi).1
 have xL:i≠j:=by rintro rfl;rw[hi]at hj;cases hj
 refine cV 3000 Tryz.func185 rfl Tryz.ntmps185 Tryz.results185 Tryz.call185 (by simp) (ax bs.length _ (by simp[within,within.aS,mG,eF])) ?_
 simp only[ae,↓Xn,↓Xo,↓Xg,↓Xd,↓Xe,↓Xf,Tryz.VΓ,Tryz.Γs,Xp,Xi,Nat.reduceAdd,Nat.reduceSub,Nat.reduceLT,Nat.reduceLeDiff,reduceIte,reduceCtorEq,Nat.reduceEqDiff,implies_true,forall_const,ad,hj]
 refine aL (fun σ=>∃ k:Nat,k≤L.length∧lk 1 σ.t=some (.mv 188 [.p i 0])∧lk 4 σ.t=some (.str [])∧lk 5 σ.t=some (.p bs.length 0)∧lk 8 σ.t=some (.o j L.length)∧lk 9 σ.t=some (.int .i64 L.length)∧lk 10 σ.t=some (.int .i64 k) ∧
  Gf bs.length ((L.take k).flatMap bu) σ.b∧σ.b.length=bs.length+1∧σ.b[i]? = some (.cells [.int .i64 (if (L.take k).all bL then e else 110)] 179 true)∧∀ q,q<bs.length→q≠i→σ.b[q]? = bs[q]?) (fun σ=>L.length - ji 10 σ)
  ⟨0,by omega,rfl,rfl,rfl,rfl,rfl,rfl,.inr ⟨rfl,aW _ _⟩,by simp,af hi _,fun q hq _=>zLR hq⟩ ?_
 rintro⟨t,b⟩ ⟨k,hk,h1,h4,h5,h8,h9,fm,hB,mu,pg,zC⟩
 simp only at h1 h4 h5 h8 h9 fm hB mu pg zC
 rw[az fm]
 have Gr:=(zC j mG (fun e=>xL e.symm)).trans hj
 by_cases aC:k<L.length
 ·have hx:(L.map SV.str)[k * 1]? = some (.str L[k]):=by simp[aC]
  have BE:=ll (g:=bu) aC
  have hle:=gR (g:=bu) (L:=L) (k:=k+1)
  rw[BE,zLL]at hle
  have aP:(L.take (k+1)).all bL=((L.take k).all bL&&bL L[k]):=by rw[zLY aC,List.all_append];simp
  simp only[ae,↓Xn,↓Xo,↓Xg,↓Xd,↓Xe,↓Xf,Tryz.VΓ,Tryz.Γs,Xp,Xi,Nat.reduceAdd,Nat.reduceSub,Nat.reduceLT,Nat.reduceLeDiff,reduceIte,reduceCtorEq,Nat.reduceEqDiff,implies_true,forall_const,ad,h1,h4,h5,h8,h9,fm,Gr,hx]
  refine⟨fun _=>⟨⟨by omega,by omega⟩,by simp;omega,?_⟩,fun h=>absurd h (by simp;omega)⟩
  refine aT (sc_down L[k] pg (hL _ (zLW aC))) ?_
  rintro r b1 ⟨rfl,kG⟩
  have hbib:i<b.length:=by omega
  have im:Gf bs.length ((L.take k).flatMap bu) b1:=by
   rw[kG]
   unfold Gf
   rw[zLO (by omega)]
   exact hB
  have hbi1:b1[i]? = some (.cells [.int .i64 (if (L.take (k+1)).all bL then e else 110)] 179 true):=by
   rw[kG,zLM hbib,aP]
   cases bL L[k] <;> cases (L.take k).all bL <;> rfl
  have Iw:∀ q,q<bs.length→q≠i→b1[q]? = bs[q]? := fun q hq bp=>by
   rw[kG,zLO (fun e=>bp e.symm)];exact zC q hq bp
  have hbl1:b1.length=bs.length+1:=by rw[kG,zL2];exact mu
  clear kG
  simp only[ae,↓Xn,↓Xo,↓Xg,↓Xd,↓Xe,↓Xf,Tryz.VΓ,Tryz.Γs,Xp,Xi,Nat.reduceAdd,Nat.reduceSub,Nat.reduceLT,Nat.reduceLeDiff,reduceIte,reduceCtorEq,Nat.reduceEqDiff,implies_true,forall_const,ad,h1,h4,h5,h8,h9,fm]
  refine aT (sc_WS im (by omega)) ?_
  rintro r b2 ⟨rfl,oA⟩
  simp only[ae,↓Xn,↓Xo,↓Xg,↓Xd,↓Xe,↓Xf,Tryz.VΓ,Tryz.Γs,Xp,Xi,Nat.reduceAdd,Nat.reduceSub,Nat.reduceLT,Nat.reduceLeDiff,reduceIte,reduceCtorEq,Nat.reduceEqDiff,implies_true,forall_const,ad,h1,h4,h5,h8,h9,fm]
  refine⟨⟨by omega,by omega⟩,⟨k+1,by omega,rfl,?_,?_,?_,?_⟩,?_⟩
  ·rw[BE,oA];exact im.set
  ·rw[oA,zL2];exact hbl1
  ·rw[oA,zLO (by omega)];exact hbi1
  ·intro q hq bp
   rw[oA,zLO (by omega)];exact Iw q hq bp
  ·rw[az (k:=.i64) (n:=(k:Int)+1) rfl];omega
 ·have jk:k=L.length:=by omega
  subst jk
  rw[zLV]at hB pg
  have xK:decide ((L.length:Int)<L.length)=false:=by simp
  simp only[ae,↓Xn,↓Xo,↓Xg,↓Xd,↓Xe,↓Xf,Tryz.VΓ,Tryz.Γs,Xp,Xi,Nat.reduceAdd,Nat.reduceSub,Nat.reduceLT,Nat.reduceLeDiff,reduceIte,reduceCtorEq,Nat.reduceEqDiff,implies_true,forall_const,ad,h1,h4,h5,h8,h9,fm,xK]
  refine aT (GP hB) ?_
  rintro r b2 ⟨rfl,oA⟩
  simp only[ae,↓Xn,↓Xo,↓Xg,↓Xd,↓Xe,↓Xf,Tryz.VΓ,Tryz.Γs,Xp,Xi,Nat.reduceAdd,Nat.reduceSub,Nat.reduceLT,Nat.reduceLeDiff,reduceIte,reduceCtorEq,Nat.reduceEqDiff,implies_true,forall_const,ad,h1,h4,h5,h8,h9,fm]
  simp only at oA
  apply List.ext_getElem?
  intro q
  rw[oA]
  rcases Nat.lt_trichotomy q bs.length with hq|hq|hq
  ·rw[zLO (by omega),zLR (by rw[zL2];exact hq)]
   by_cases Gk:q=i
   ·subst Gk;rw[zLM hq];exact pg
   ·rw[zLO (fun e=>Gk e.symm)];exact zC q hq Gk
  ·subst hq
   rw[zLM (by omega),zLX (by simp)]
   simp
  ·rw[zLZ (by simp;omega),zLZ (by simp;omega)]
theorem gM:∀ {l:List Bytes}{x:Bytes},x∈l→x.length≤l.flatten.length
 | y::l,x,h=>by
   rw[zMa,zLL]
   rcases List.mem_cons.1 h with rfl|h
   ·omega
   ·have:=gM h;omega
theorem AP (n:Nat)(hn:n≤18446744073709551615):PC Tryz.V 180 [.int .u64 n] (.str (cJ n)) :=
 ⟨Tryz.call180,by simp[flat,flat.ai],by simp[flat,flat.ai],fun w _=>(kx n w hn).mono fun _ _ ⟨h,k⟩=>⟨h,k⟩⟩
theorem AD (d:fN)(h:eH d):PC Tryz.V 160 [fg d] (.eR [ey (eK d).1,.int .i64 (eK d).2]):=by
 have pa:=ml d h
 have BI:=@nL d
 have hha:(bg d).2=0→aE (bf (bg d).1.1 (bg d).1.2)=(((bg d).1.1,(bg d).1.2),0)∧d.method=dK∧(aY (bA d)).2=0:=vj
 unfold eK
 generalize bg d=A at pa hha ⊢
 obtain⟨⟨x,p⟩,e⟩:=A
 simp only at pa hha ⊢
 refine aQ 3000 Tryz.func160 rfl Tryz.ntmps160 Tryz.results160 Tryz.call160 (by simp) (by simp[flat,flat.ai,fg,ey]) (by simp[flat,flat.ai,fg,ey]) ?_
 unfold fg
 unfold fg at pa
 simp only[ae,↓Xn,↓Xo,↓Xg,↓Xd,↓Xe,↓Xf,Tryz.VΓ,Tryz.Γs,Xp,Xi,Nat.reduceAdd,Nat.reduceSub,Nat.reduceLT,Nat.reduceLeDiff,reduceIte,reduceCtorEq,Nat.reduceEqDiff,implies_true,forall_const,ad]
 (refine aa pa ?_;simp only[ae,↓Xn,↓Xo,↓Xg,↓Xd,↓Xe,↓Xf,Tryz.VΓ,Tryz.Γs,Xp,Xi,Nat.reduceAdd,Nat.reduceSub,Nat.reduceLT,Nat.reduceLeDiff,reduceIte,reduceCtorEq,Nat.reduceEqDiff,implies_true,forall_const,ad])
 refine⟨fun h1=>(by rw[if_pos (by simpa using h1)];rfl),fun h1=>?_⟩
 have h1:e=0:=by simpa using h1
 rw[if_neg (by simp[h1])]
 obtain⟨hh,hm,hp⟩:=hha h1
 obtain⟨hl,yZ⟩:=BI hm hp
 have Et:=lG 58 d.id
 obtain⟨T,hT⟩:=nI 58 d.id
 have mr:=wS 58 d.id
 rw[hT]at yZ Et mr ⊢
 generalize (aG 58 d.id).1=c at yZ Et mr ⊢
 simp only[zMa,zLL,zLN,List.tail_cons]at Et ⊢
 refine aT (sa d.id [58] _ mr (by omega) (by decide)) ?_
 rintro r b ⟨rfl,rfl⟩
 simp only[ae,↓Xn,↓Xo,↓Xg,↓Xd,↓Xe,↓Xf,Tryz.VΓ,Tryz.Γs,Xp,Xi,Nat.reduceAdd,Nat.reduceSub,Nat.reduceLT,Nat.reduceLeDiff,reduceIte,reduceCtorEq,Nat.reduceEqDiff,implies_true,forall_const,ad]
 have e0:T.length+1 - zMl 1=T.length:=by simp
 have e1:List.drop (zMl 1 * 1) (List.take ((T.length+1) * 1) (SV.str c::T.map SV.str))=T.map SV.str:=by
  rw[zMh (by simp)];simp
 simp only[e0,e1]
 have hfu:=zf T
 have bU:∀ q:Bytes,q.length≤100000→Fair ⟨x,p,q,[],[],false,false⟩:=fun q hq=>by
  obtain⟨-,-,-,k4,k5,k6⟩:=cu hh
  exact⟨by simp only[zLU];omega,by simp only;omega,by simp only;omega⟩
 refine⟨⟨by omega,by omega⟩,fun hn=>?_,fun hn=>?_⟩
 ·have hT1:T≠[]:=by rintro rfl;simp at hn
  refine aT (CN (i:=6) (j:=5) (m:=false) (e:=0) (L:=T) rfl rfl (fun y hy=>by have:=(yZ y (zMm _ hy)).2;omega) (by omega) (by omega)) ?_
  rintro r b ⟨rfl,rfl⟩
  have ep:T.flatMap gG++[47]++[100,105,100,46,106,115,111,110]=ia T:=by
   unfold ia
   rw[if_neg hT1]
   simp[fk]
  have fU:(ia T).length≤100000:=by rw[← ep];simp only[zLL,zLN,zLU];omega
  have pf:=gI ⟨x,p,ia T,[],[],false,false⟩ (bU _ fU)
  unfold ey at pf
  simp only at pf
  rcases Bool.eq_false_or_eq_true (T.all en) with aP|aP
  rotate_left
  ·simp only[ae,↓Xn,↓Xo,↓Xg,↓Xd,↓Xe,↓Xf,Tryz.VΓ,Tryz.Γs,Xp,Xi,Nat.reduceAdd,Nat.reduceSub,Nat.reduceLT,Nat.reduceLeDiff,reduceIte,reduceCtorEq,Nat.reduceEqDiff,implies_true,forall_const,ad,aP,ep,zL5,zL6,zL3,zL7,beq_self_eq_true,bne_self_eq_false,Int.reduceBEq,Int.reduceBNe,Int.reduceLT,Int.reduceLE,Bool.false_eq_true,if_false]
   refine⟨by omega,by simp only[zLL,zLN,zLU];omega,(aj (by kernel_rfl)),rfl⟩
  ·simp only[ae,↓Xn,↓Xo,↓Xg,↓Xd,↓Xe,↓Xf,Tryz.VΓ,Tryz.Γs,Xp,Xi,Nat.reduceAdd,Nat.reduceSub,Nat.reduceLT,Nat.reduceLeDiff,reduceIte,reduceCtorEq,Nat.reduceEqDiff,implies_true,forall_const,ad,aP,ep,zL5,zL6,zL3,zL7,beq_self_eq_true,bne_self_eq_false,Int.reduceBEq,Int.reduceBNe,Int.reduceLT,Int.reduceLE,if_true]
   refine⟨by omega,by simp only[zLL,zLN,zLU];omega,?_⟩
   (refine aa pf ?_;simp only[ae,↓Xn,↓Xo,↓Xg,↓Xd,↓Xe,↓Xf,Tryz.VΓ,Tryz.Γs,Xp,Xi,Nat.reduceAdd,Nat.reduceSub,Nat.reduceLT,Nat.reduceLeDiff,reduceIte,reduceCtorEq,Nat.reduceEqDiff,implies_true,forall_const,ad])
   unfold jw
   exact⟨fun hl=>(by rw[if_pos (by simp only[decide_eq_true_eq,decide_eq_false_iff_not]at hl;omega)];rfl),fun hl=>(by rw[if_neg (by simp only[decide_eq_true_eq,decide_eq_false_iff_not]at hl;omega)];rfl)⟩
 ·obtain rfl:T=[]:=by
   cases T with
   | nil=>rfl
   | cons=>simp at hn
  have pf:=gI ⟨x,p,cI,[],[],false,false⟩ (bU cI (by decide))
  unfold ey at pf
  have ep:([47,46,119,101,108,108,45,107,110,111,119,110,47,100,105,100,46,106,115,111,110]:Bytes)=cI:=rfl
  rw[ep]
  (refine aa pf ?_;simp only[ae,↓Xn,↓Xo,↓Xg,↓Xd,↓Xe,↓Xf,Tryz.VΓ,Tryz.Γs,Xp,Xi,Nat.reduceAdd,Nat.reduceSub,Nat.reduceLT,Nat.reduceLeDiff,reduceIte,reduceCtorEq,Nat.reduceEqDiff,implies_true,forall_const,ad])
  have:ia []=cI:=rfl
  rw[this]
  unfold jw
  exact⟨fun hl=>(by rw[if_pos (by simp only[decide_eq_true_eq,decide_eq_false_iff_not]at hl;omega)];rfl),fun hl=>(by rw[if_neg (by simp only[decide_eq_true_eq,decide_eq_false_iff_not]at hl;omega)];rfl)⟩
theorem vZ (u:fc)(hk:Fair u):PC Tryz.V 161 [ey u] (.eR [fg (fW u).1,.int .i64 (fW u).2]):=by
 have pv1:=AF u hk
 have fU:=hk.1
 unfold ey at pv1 ⊢
 cases hv:fO u
 ·rw[hv]at pv1
  rw[show fW u=(fN.none,8) from if_pos hv]
  refine aQ 3000 Tryz.func161 rfl Tryz.ntmps161 Tryz.results161 Tryz.call161 (by simp) (by simp[flat,flat.ai,fg,ey]) (by simp[flat,flat.ai,fg,ey]) ?_
  simp only[ae,↓Xn,↓Xo,↓Xg,↓Xd,↓Xe,↓Xf,Tryz.VΓ,Tryz.Γs,Xp,Xi,Nat.reduceAdd,Nat.reduceSub,Nat.reduceLT,Nat.reduceLeDiff,reduceIte,reduceCtorEq,Nat.reduceEqDiff,implies_true,forall_const,ad]
  (refine aa pv1 ?_;simp only[ae,↓Xn,↓Xo,↓Xg,↓Xd,↓Xe,↓Xf,Tryz.VΓ,Tryz.Γs,Xp,Xi,Nat.reduceAdd,Nat.reduceSub,Nat.reduceLT,Nat.reduceLeDiff,reduceIte,reduceCtorEq,Nat.reduceEqDiff,implies_true,forall_const,ad,beq_self_eq_true,bne_self_eq_false,Int.reduceBEq,Int.reduceBNe,Int.reduceLT,Int.reduceLE])
  rfl
 obtain⟨T,z,hT,Co,hL0,hp4⟩:=rU hv
 rw[uW hv hT Co]
 rw[hv]at pv1
 have Et:=lG 47 u.path
 have mr:=wS 47 u.path
 rw[hT]at Et mr
 generalize (aG 47 u.path).1=c at Et mr
 clear hT
 simp only[zMa,zLL,zLN]at Et
 have e0:T.length+1 - zMl 1=T.length:=by simp
 have e1:List.drop (zMl 1 * 1) (List.take ((T.length+1) * 1) (SV.str c::T.map SV.str))=T.map SV.str:=by
  rw[zMh (by simp)];simp
 have hz:(T.map SV.str)[((T.length:Int) - 1).toNat * 1]? = some (.str z):=by
  rw[show ((T.length:Int) - 1).toNat * 1=T.length - 1 by omega,List.getElem?_map,← List.getLast?_eq_getElem?,Co]
  rfl
 refine aQ 3000 Tryz.func161 rfl Tryz.ntmps161 Tryz.results161 Tryz.call161 (by simp) (by simp[flat,flat.ai,fg,ey]) (by simp[flat,flat.ai,fg,ey]) ?_
 simp only[ae,↓Xn,↓Xo,↓Xg,↓Xd,↓Xe,↓Xf,Tryz.VΓ,Tryz.Γs,Xp,Xi,Nat.reduceAdd,Nat.reduceSub,Nat.reduceLT,Nat.reduceLeDiff,reduceIte,reduceCtorEq,Nat.reduceEqDiff,implies_true,forall_const,ad]
 (refine aa pv1 ?_;simp only[ae,↓Xn,↓Xo,↓Xg,↓Xd,↓Xe,↓Xf,Tryz.VΓ,Tryz.Γs,Xp,Xi,Nat.reduceAdd,Nat.reduceSub,Nat.reduceLT,Nat.reduceLeDiff,reduceIte,reduceCtorEq,Nat.reduceEqDiff,implies_true,forall_const,ad,beq_self_eq_true,bne_self_eq_false,Int.reduceBEq,Int.reduceBNe,Int.reduceLT,Int.reduceLE])
 refine aT (sa u.path [47] _ mr (by omega) (by decide)) ?_
 rintro r b ⟨rfl,rfl⟩
 simp only[ae,↓Xn,↓Xo,↓Xg,↓Xd,↓Xe,↓Xf,Tryz.VΓ,Tryz.Γs,Xp,Xi,Nat.reduceAdd,Nat.reduceSub,Nat.reduceLT,Nat.reduceLeDiff,reduceIte,reduceCtorEq,Nat.reduceEqDiff,implies_true,forall_const,ad,e0,e1,hz]
 have hzS:(z != [100,105,100,46,106,115,111,110])=(z != fk):=rfl
 have hrS:(u.path != [47,46,119,101,108,108,45,107,110,111,119,110,47,100,105,100,46,106,115,111,110])=(u.path != cI):=rfl
 rw[hzS,hrS]
 have DC:=qR hv
 obtain⟨-,-,-,k4,k5,k6⟩:=cu DC.host
 have hwrap:IntKind.u64.wrap u.port=(u.port.natAbs:Int):=by
  simp only[IntKind.wrap,IntKind.signed,IntKind.bits]
  simp
  omega
 have oT:T.dropLast.length=T.length - 1:=List.length_dropLast ..
 have e2:((T.length:Int) - 1).toNat=T.dropLast.length:=by omega
 have e3:List.take (T.dropLast.length * 1) (T.map SV.str)=T.dropLast.map SV.str:=by
  rw[Nat.mul_one,oT,zMk,List.map_take]
 have hdf:T.dropLast.flatten.length≤T.flatten.length:=by
  rw[zMk]
  have:=congrArg (fun l=>(List.flatten l).length) (List.take_append_drop (T.length - 1) T)
  simp only[List.flatten_append,zLL]at this
  omega
 have hdm:∀ x∈T.dropLast,x.length≤16384:=fun x hx=>by
  have:=gM hx
  omega
 have hfd:=rK T.dropLast
 have bU:∀ q:Bytes,q.length≤100000→eH ⟨dK,q⟩:=fun q hq=>⟨show dK.length≤_ by decide,show q.length≤_ by omega⟩
 simp only[e2,e3]
 refine⟨⟨by omega,by omega⟩,fun hq=>⟨fun hf=>⟨⟨by omega,by omega⟩,⟨by omega,by omega⟩,by simp;omega,fun oc=>?_,fun oc=>⟨fun ny=>?_,fun ny=>⟨fun hp=>?_,fun hp=>?_⟩⟩⟩,fun hf=>?_⟩,fun hq=>?_⟩
 ·rw[if_neg (by rw[hq];simp),if_neg (by rw[hf];simp),if_pos oc];rfl
 ·rw[if_neg (by rw[hq];simp),if_neg (by rw[hf];simp),if_neg (by rw[oc];simp),if_pos (by simp at ny;omega)];rfl
 ·rw[if_neg (by rw[hq];simp),if_neg (by rw[hf];simp),if_neg (by rw[oc];simp),if_neg (by simp at ny;omega)]
  have hp0:¬ u.port=0:=by simpa using hp
  have qn:bh u=u.host++([37,51,65]++cJ u.port.natAbs):=by unfold bh;rw[if_neg hp0]
  rw[hwrap]
  have pn:=AP u.port.natAbs (by omega)
  have hdc:=dJ 19 u.port.natAbs (by omega)
  (refine aR pn ?_;simp only[ae,↓Xn,↓Xo,↓Xg,↓Xd,↓Xe,↓Xf,Tryz.VΓ,Tryz.Γs,Xp,Xi,Nat.reduceAdd,Nat.reduceSub,Nat.reduceLT,Nat.reduceLeDiff,reduceIte,reduceCtorEq,Nat.reduceEqDiff,implies_true,forall_const,ad])
  rw[hrS]
  simp only[e2,e3]
  refine⟨by omega,by omega,(aj (by kernel_rfl)),?_⟩
  have hBl:(u.host++37::51::65::cJ u.port.natAbs).length≤300:=by simp only[zLL,zLN];omega
  have qn:bh u=u.host++37::51::65::cJ u.port.natAbs:=qn
  refine⟨fun hr=>⟨⟨by omega,by omega⟩,⟨by omega,by omega⟩,?_⟩,fun hr=>?_⟩
  ·unfold fv
   rw[if_neg (by simpa using hr),qn]
   rcases Bool.eq_false_or_eq_true (T.dropLast.all bL) with aP|aP
   ·rw[if_neg (by rw[aP];simp)]
    have pf:=dB ⟨dK,(u.host++37::51::65::cJ u.port.natAbs)++T.dropLast.flatMap bu⟩ (bU _ (by rw[zLL];omega))
    unfold fg at pf
    simp only at pf
    refine bn [(5,0,0),(7,0,0)] (jc (i:=5) (j:=6) (m:=false) (e:=0) (L:=T.dropLast) rfl rfl hdm (by omega) (by omega)) (nS (i:=5) _ _ rfl) ?_
    simp only[ae,↓Xn,↓Xo,↓Xg,↓Xd,↓Xe,↓Xf,Tryz.VΓ,Tryz.Γs,Xp,Xi,Nat.reduceAdd,Nat.reduceSub,Nat.reduceLT,Nat.reduceLeDiff,reduceIte,reduceCtorEq,Nat.reduceEqDiff,implies_true,forall_const,ad,aP,zL5,zL6,zL3,zL7,beq_self_eq_true,bne_self_eq_false,Int.reduceBEq,Int.reduceBNe,Int.reduceLT,Int.reduceLE,if_true]
    refine⟨by omega,(aj (by kernel_rfl)),?_⟩
    (refine aa pf ?_;simp only[ae,↓Xn,↓Xo,↓Xg,↓Xd,↓Xe,↓Xf,Tryz.VΓ,Tryz.Γs,Xp,Xi,Nat.reduceAdd,Nat.reduceSub,Nat.reduceLT,Nat.reduceLeDiff,reduceIte,reduceCtorEq,Nat.reduceEqDiff,implies_true,forall_const,ad])
    unfold gQ
    exact⟨fun hl=>(by rw[if_pos (by simp only[decide_eq_true_eq,decide_eq_false_iff_not]at hl;omega)];rfl),fun hl=>(by rw[if_neg (by simp only[decide_eq_true_eq,decide_eq_false_iff_not]at hl;omega)];rfl)⟩
   ·rw[if_pos aP]
    refine bn [(5,0,0),(7,0,0)] (jc (i:=5) (j:=6) (m:=false) (e:=0) (L:=T.dropLast) rfl rfl hdm (by omega) (by omega)) (nS (i:=5) _ _ rfl) ?_
    simp only[ae,↓Xn,↓Xo,↓Xg,↓Xd,↓Xe,↓Xf,Tryz.VΓ,Tryz.Γs,Xp,Xi,Nat.reduceAdd,Nat.reduceSub,Nat.reduceLT,Nat.reduceLeDiff,reduceIte,reduceCtorEq,Nat.reduceEqDiff,implies_true,forall_const,ad,aP,zL5,zL6,zL3,zL7,beq_self_eq_true,bne_self_eq_false,Int.reduceBEq,Int.reduceBNe,Int.reduceLT,Int.reduceLE,Bool.false_eq_true,if_false]
    exact⟨by omega,(aj (by kernel_rfl)),(aj (by kernel_rfl)),rfl⟩
  ·unfold fv
   rw[if_pos (by simpa using hr),qn]
   have pf:=dB ⟨dK,(u.host++37::51::65::cJ u.port.natAbs)⟩ (bU _ (by omega))
   unfold fg at pf
   simp only at pf
   (refine aa pf ?_;simp only[ae,↓Xn,↓Xo,↓Xg,↓Xd,↓Xe,↓Xf,Tryz.VΓ,Tryz.Γs,Xp,Xi,Nat.reduceAdd,Nat.reduceSub,Nat.reduceLT,Nat.reduceLeDiff,reduceIte,reduceCtorEq,Nat.reduceEqDiff,implies_true,forall_const,ad])
   unfold gQ
   exact⟨fun hl=>(by rw[if_pos (by simp only[decide_eq_true_eq,decide_eq_false_iff_not]at hl;omega)];rfl),fun hl=>(by rw[if_neg (by simp only[decide_eq_true_eq,decide_eq_false_iff_not]at hl;omega)];rfl)⟩
 ·rw[if_neg (by rw[hq];simp),if_neg (by rw[hf];simp),if_neg (by rw[oc];simp),if_neg (by simp at ny;omega)]
  have hp0:u.port=0:=by simpa using hp
  have qn:bh u=u.host:=by unfold bh;rw[if_pos hp0,zMg]
  have hBl:u.host.length≤300:=by omega
  refine⟨fun hr=>⟨⟨by omega,by omega⟩,⟨by omega,by omega⟩,?_⟩,fun hr=>?_⟩
  ·unfold fv
   rw[if_neg (by simpa using hr),qn]
   rcases Bool.eq_false_or_eq_true (T.dropLast.all bL) with aP|aP
   ·rw[if_neg (by rw[aP];simp)]
    have pf:=dB ⟨dK,u.host++T.dropLast.flatMap bu⟩ (bU _ (by rw[zLL];omega))
    unfold fg at pf
    simp only at pf
    refine bn [(5,0,0),(7,0,0)] (jc (i:=5) (j:=6) (m:=false) (e:=0) (L:=T.dropLast) rfl rfl hdm (by omega) (by omega)) (nS (i:=5) _ _ rfl) ?_
    simp only[ae,↓Xn,↓Xo,↓Xg,↓Xd,↓Xe,↓Xf,Tryz.VΓ,Tryz.Γs,Xp,Xi,Nat.reduceAdd,Nat.reduceSub,Nat.reduceLT,Nat.reduceLeDiff,reduceIte,reduceCtorEq,Nat.reduceEqDiff,implies_true,forall_const,ad,aP,zL5,zL6,zL3,zL7,beq_self_eq_true,bne_self_eq_false,Int.reduceBEq,Int.reduceBNe,Int.reduceLT,Int.reduceLE,if_true]
    refine⟨by omega,(aj (by kernel_rfl)),?_⟩
    (refine aa pf ?_;simp only[ae,↓Xn,↓Xo,↓Xg,↓Xd,↓Xe,↓Xf,Tryz.VΓ,Tryz.Γs,Xp,Xi,Nat.reduceAdd,Nat.reduceSub,Nat.reduceLT,Nat.reduceLeDiff,reduceIte,reduceCtorEq,Nat.reduceEqDiff,implies_true,forall_const,ad])
    unfold gQ
    exact⟨fun hl=>(by rw[if_pos (by simp only[decide_eq_true_eq,decide_eq_false_iff_not]at hl;omega)];rfl),fun hl=>(by rw[if_neg (by simp only[decide_eq_true_eq,decide_eq_false_iff_not]at hl;omega)];rfl)⟩
   ·rw[if_pos aP]
    refine bn [(5,0,0),(7,0,0)] (jc (i:=5) (j:=6) (m:=false) (e:=0) (L:=T.dropLast) rfl rfl hdm (by omega) (by omega)) (nS (i:=5) _ _ rfl) ?_
    simp only[ae,↓Xn,↓Xo,↓Xg,↓Xd,↓Xe,↓Xf,Tryz.VΓ,Tryz.Γs,Xp,Xi,Nat.reduceAdd,Nat.reduceSub,Nat.reduceLT,Nat.reduceLeDiff,reduceIte,reduceCtorEq,Nat.reduceEqDiff,implies_true,forall_const,ad,aP,zL5,zL6,zL3,zL7,beq_self_eq_true,bne_self_eq_false,Int.reduceBEq,Int.reduceBNe,Int.reduceLT,Int.reduceLE,Bool.false_eq_true,if_false]
    exact⟨by omega,(aj (by kernel_rfl)),(aj (by kernel_rfl)),rfl⟩
  ·unfold fv
   rw[if_pos (by simpa using hr),qn]
   have pf:=dB ⟨dK,u.host⟩ (bU _ (by omega))
   unfold fg at pf
   simp only at pf
   (refine aa pf ?_;simp only[ae,↓Xn,↓Xo,↓Xg,↓Xd,↓Xe,↓Xf,Tryz.VΓ,Tryz.Γs,Xp,Xi,Nat.reduceAdd,Nat.reduceSub,Nat.reduceLT,Nat.reduceLeDiff,reduceIte,reduceCtorEq,Nat.reduceEqDiff,implies_true,forall_const,ad])
   unfold gQ
   exact⟨fun hl=>(by rw[if_pos (by simp only[decide_eq_true_eq,decide_eq_false_iff_not]at hl;omega)];rfl),fun hl=>(by rw[if_neg (by simp only[decide_eq_true_eq,decide_eq_false_iff_not]at hl;omega)];rfl)⟩
 ·rw[if_neg (by rw[hq];simp),if_pos hf];rfl
 ·rw[if_pos hq];rfl
theorem vu {u:fc}(h:iW u):Fair u:=by
 have h1:=mK u
 have h2:=h.len
 obtain⟨-,-,-,k4,k5,k6⟩:=cu h.host
 refine⟨?_,by omega,by omega⟩
 have hq:u.query.length≤4096:=by
  cases hb:u.bl
  ·rw[h.noq hb];simp
  ·have:=h1.2.1 hb;omega
 have hf:u.fragment.length≤4096:=by
  cases hb:u.bE
  ·rw[h.nof hb];simp
  ·have:=h1.2.2 hb;omega
 omega
theorem tH (d:fN)(h:(eK d).2=0):Fair (eK d).1:=vu (wR (d:=d) (u:=(eK d).1) (by rw[← h])).1
theorem sL (d:fN)(h:eH d):PC Tryz.V 121 [fg d] (.eR [fg (eG d).1,.int .i64 (eG d).2]):=by
 have pt:=AD d h
 have uP:=tH d
 unfold eG
 generalize eK d=X at pt uP ⊢
 obtain⟨u,e⟩:=X
 simp only at pt uP ⊢
 refine aQ 3000 Tryz.func121 rfl Tryz.ntmps121 Tryz.results121 Tryz.call121 (by simp) (by simp[flat,flat.ai,fg,ey]) (by simp[flat,flat.ai,fg,ey]) ?_
 unfold fg
 unfold fg ey at pt
 simp only[ae,↓Xn,↓Xo,↓Xg,↓Xd,↓Xe,↓Xf,Tryz.VΓ,Tryz.Γs,Xp,Xi,Nat.reduceAdd,Nat.reduceSub,Nat.reduceLT,Nat.reduceLeDiff,reduceIte,reduceCtorEq,Nat.reduceEqDiff,implies_true,forall_const,ad]
 (refine aa pt ?_;simp only[ae,↓Xn,↓Xo,↓Xg,↓Xd,↓Xe,↓Xf,Tryz.VΓ,Tryz.Γs,Xp,Xi,Nat.reduceAdd,Nat.reduceSub,Nat.reduceLT,Nat.reduceLeDiff,reduceIte,reduceCtorEq,Nat.reduceEqDiff,implies_true,forall_const,ad])
 refine⟨fun h1=>(by rw[if_pos (by simpa using h1)];rfl),fun h1=>?_⟩
 rw[if_neg (by simpa using h1)]
 have pf:=vZ u (uP (by simpa using h1))
 unfold fg ey at pf
 (refine aa pf ?_;simp only[ae,↓Xn,↓Xo,↓Xg,↓Xd,↓Xe,↓Xf,Tryz.VΓ,Tryz.Γs,Xp,Xi,Nat.reduceAdd,Nat.reduceSub,Nat.reduceLT,Nat.reduceLeDiff,reduceIte,reduceCtorEq,Nat.reduceEqDiff,implies_true,forall_const,ad])
theorem yD (p:Int)(h1:0≤p)(h2:p≤9223372036854775807):PC Tryz.V 132 [.int .i64 p] (.str (cJ p.natAbs)) :=
 ⟨Tryz.call132,by simp[flat,flat.ai],by simp[flat,flat.ai],fun w _=>(ou p w (by omega) h2).mono fun _ _ ⟨h,k⟩=>⟨by rw[h,if_neg (by omega)];rfl,k⟩⟩
theorem pF {bs:List aw}(d:fN)(h:eH d):SC Tryz.V 110 [fg d] bs (fun r b=>Kp bs b∧∃ x,r=.eR [x,.agg [.str (bg d).1.1,.int .i64 (bg d).1.2],.int .i64 (bg d).2] ∧
 ((bg d).2=0→∃ j,x=.o j (aA 58 d.id).length∧bs.length≤j∧b[j]? = some (.own ((aA 58 d.id).map SV.str) 9 1 (aA 58 d.id).length true))):=by
 have pf:=fS d h
 have pp:=nf (bA d)
 have hf:=@vA d
 have hd:=@nL d
 refine cV 3000 Tryz.func110 rfl Tryz.ntmps110 Tryz.results110 Tryz.call110 (by simp) (ax bs.length _ (by simp[within,within.aS,fg])) ?_
 unfold fg
 unfold fg at pf pp
 unfold bg
 simp only[ae,↓Xn,↓Xo,↓Xg,↓Xd,↓Xe,↓Xf,Tryz.VΓ,Tryz.Γs,Xp,Xi,Nat.reduceAdd,Nat.reduceSub,Nat.reduceLT,Nat.reduceLeDiff,reduceIte,reduceCtorEq,Nat.reduceEqDiff,implies_true,forall_const,ad,aW,qI,qH,at_prev3,dR,pD,set_prev2]
 refine⟨fun h1=>?_,fun h1=>?_⟩
 ·rw[if_pos (by simpa[dK] using h1)]
  refine⟨((Kp.refl _).app _).app _,.aI,rfl,fun k=>by simp at k⟩
 have h1:d.method=dK:=by simpa[dK] using h1
 rw[if_neg (by simp[h1])]
 (refine aa pf ?_;simp only[ae,↓Xn,↓Xo,↓Xg,↓Xd,↓Xe,↓Xf,Tryz.VΓ,Tryz.Γs,Xp,Xi,Nat.reduceAdd,Nat.reduceSub,Nat.reduceLT,Nat.reduceLeDiff,reduceIte,reduceCtorEq,Nat.reduceEqDiff,implies_true,forall_const,ad,aW,qI,qH,at_prev3,dR,pD,set_prev2])
 (refine aa pp ?_;simp only[ae,↓Xn,↓Xo,↓Xg,↓Xd,↓Xe,↓Xf,Tryz.VΓ,Tryz.Γs,Xp,Xi,Nat.reduceAdd,Nat.reduceSub,Nat.reduceLT,Nat.reduceLeDiff,reduceIte,reduceCtorEq,Nat.reduceEqDiff,implies_true,forall_const,ad,aW,qI,qH,at_prev3,dR,pD,set_prev2])
 refine⟨fun h2=>?_,fun h2=>?_⟩
 ·rw[if_pos (by simpa using h2)]
  refine⟨(((Kp.refl _).app _).app _).app _,.aI,rfl,fun k=>absurd k (by simpa using h2)⟩
 have h2:(aY (bA d)).2=0:=by simpa using h2
 rw[if_neg (by simp[h2])]
 have hf:=hf h1 h2
 have hd:=hd h1 h2
 obtain⟨T,hT⟩:=nI 58 d.id
 have pd:=fh (aG 58 d.id).1
 rw[hf]at pd ⊢
 have ny:=eb 58 d.id
 have gW:=jI (aG 58 d.id).1
 have ph:=tZ (jl (aG 58 d.id).1) (by omega)
 refine aT (pH d.id 58 (by omega)) ?_
 rintro r b ⟨j,rfl,lA,hj,cL⟩
 rw[hT]at hj ⊢
 generalize (aG 58 d.id).1=c at *
 simp only at lA cL hj
 have oc:=cL.at (qI _ _ _)
 have hkb:Kp bs b:=((((Kp.refl bs).app _).app _).app _).trans cL
 have mu:bs.length≤b.length:=hkb.1
 simp only[zLL,zLN,zLU]at lA
 have mG:=(zLK.1 hj).1
 have Gl:∀ X:aw,(bs++[X]).length=bs.length+1:=fun X=>by simp
 rw[Gl]at oc
 have Cr:∀ X,(b.set (bs.length+1) X)[bs.length+1]? = some X:=fun X=>zLM (zLK.1 oc).1
 simp only[ae,↓Xn,↓Xo,↓Xg,↓Xd,↓Xe,↓Xf,Tryz.VΓ,Tryz.Γs,Xp,Xi,Nat.reduceAdd,Nat.reduceSub,Nat.reduceLT,Nat.reduceLeDiff,reduceIte,reduceCtorEq,Nat.reduceEqDiff,implies_true,forall_const,ad,hj,oc,Gl,Cr,List.map_cons,List.getElem?_cons_zero,Int.toNat_zero,Nat.zero_mul]
 refine⟨⟨by omega,by omega⟩,?_⟩
 (refine aa pd ?_;simp only[ae,↓Xn,↓Xo,↓Xg,↓Xd,↓Xe,↓Xf,Tryz.VΓ,Tryz.Γs,Xp,Xi,Nat.reduceAdd,Nat.reduceSub,Nat.reduceLT,Nat.reduceLeDiff,reduceIte,reduceCtorEq,Nat.reduceEqDiff,implies_true,forall_const,ad,hj,oc,Gl,Cr])
 have hzo:=fun X=>af oc [X]
 have Co:=(zLK.1 oc).1
 have fT:∀ X Y,((b++[X]).set (bs.length+1) Y)[bs.length+1]? = some Y:=fun X Y=>zLM (by simp;omega)
 (refine aa ph ?_;simp only[ae,↓Xn,↓Xo,↓Xg,↓Xd,↓Xe,↓Xf,Tryz.VΓ,Tryz.Γs,Xp,Xi,Nat.reduceAdd,Nat.reduceSub,Nat.reduceLT,Nat.reduceLeDiff,reduceIte,reduceCtorEq,Nat.reduceEqDiff,implies_true,forall_const,ad,hj,oc,Gl,Cr,aW,dR,hzo,fT])
 have bp:¬ b.length=bs.length+1:=by omega
 refine⟨(by
  refine dm (fun n=>if n=(bs.length+1) then 0 else 1) ?_
  simp only[List.map_cons,List.map_nil,dW,iE,reduceIte,bp]
  exact aj (by kernel_rfl)),(hkb.app _).set (by omega) _,.o j (T.length+1),rfl,fun _=>⟨j,rfl,by omega,?_⟩⟩
 rw[zLO (by omega)]
 exact af hj _
theorem sP (d:fN)(h:eH d):PC Tryz.V 80 [fg d] (.eR [.agg [.str (bg d).1.1,.int .i64 (bg d).1.2],.int .i64 (bg d).2]):=by
 have hf:=fun(bs:List aw)=>pF (bs:=bs) d h
 unfold fg at hf
 refine aQ 3000 Tryz.func80 rfl Tryz.ntmps80 Tryz.results80 Tryz.call80 (by simp) (by simp[flat,flat.ai,fg,ey]) (by simp[flat,flat.ai,fg,ey]) ?_
 unfold fg
 simp only[ae,↓Xn,↓Xo,↓Xg,↓Xd,↓Xe,↓Xf,Tryz.VΓ,Tryz.Γs,Xp,Xi,Nat.reduceAdd,Nat.reduceSub,Nat.reduceLT,Nat.reduceLeDiff,reduceIte,reduceCtorEq,Nat.reduceEqDiff,implies_true,forall_const,ad]
 refine aT (hf _) ?_
 rintro r b ⟨cL,x,rfl,-⟩
 have kG:=cL.at (j:=1) rfl
 have mu:=(zLK.1 kG).1
 have DD:=fun X=>af kG [X]
 have Iv:∀ X Y,((b++[X]).set 1 Y)[1]? = some Y:=fun X Y=>zLM (by simp;omega)
 simp only[ae,↓Xn,↓Xo,↓Xg,↓Xd,↓Xe,↓Xf,Tryz.VΓ,Tryz.Γs,Xp,Xi,Nat.reduceAdd,Nat.reduceSub,Nat.reduceLT,Nat.reduceLeDiff,reduceIte,reduceCtorEq,Nat.reduceEqDiff,implies_true,forall_const,ad,kG,DD,Iv,aW,dR]
theorem AO (d:fN)(h:eH d):PC Tryz.V 108 [fg d] (.eR [ey (eK d).1,.int .i64 (eK d).2]):=by
 have hf:=fun(bs:List aw)=>pF (bs:=bs) d h
 have BI:=@nL d
 have hha:=@vj d
 unfold fg at hf
 unfold eK
 generalize bg d=A at hf hha ⊢
 obtain⟨⟨x,p⟩,e⟩:=A
 simp only at hf hha ⊢
 refine aQ 3000 Tryz.func108 rfl Tryz.ntmps108 Tryz.results108 Tryz.call108 (by simp) (by simp[flat,flat.ai,fg,ey]) (by simp[flat,flat.ai,fg,ey]) ?_
 unfold fg
 simp only[ae,↓Xn,↓Xo,↓Xg,↓Xd,↓Xe,↓Xf,Tryz.VΓ,Tryz.Γs,Xp,Xi,Nat.reduceAdd,Nat.reduceSub,Nat.reduceLT,Nat.reduceLeDiff,reduceIte,reduceCtorEq,Nat.reduceEqDiff,implies_true,forall_const,ad]
 refine aT (hf _) ?_
 rintro r b ⟨cL,y,rfl,hx⟩
 have kG:=cL.at (j:=1) rfl
 have mu:=(zLK.1 kG).1
 have DD:=fun X=>af kG [X]
 have Iv:∀ X Y,((b++[X]).set 1 Y)[1]? = some Y:=fun X Y=>zLM (by simp;omega)
 simp only[ae,↓Xn,↓Xo,↓Xg,↓Xd,↓Xe,↓Xf,Tryz.VΓ,Tryz.Γs,Xp,Xi,Nat.reduceAdd,Nat.reduceSub,Nat.reduceLT,Nat.reduceLeDiff,reduceIte,reduceCtorEq,Nat.reduceEqDiff,implies_true,forall_const,ad,kG,DD,Iv,aW,dR]
 refine⟨fun h1=>(by rw[if_pos (by simpa using h1)];rfl),fun h1=>?_⟩
 have h1:e=0:=by simpa using h1
 rw[if_neg (by simp[h1])]
 obtain⟨hh,hm,hp⟩:=hha h1
 obtain⟨hl,yZ⟩:=BI hm hp
 obtain⟨j,rfl,lA,hj⟩:=hx h1
 have Et:=lG 58 d.id
 obtain⟨T,hT⟩:=nI 58 d.id
 rw[hT]at yZ Et hj ⊢
 generalize (aG 58 d.id).1=c at yZ Et hj ⊢
 simp only[zMa,zLL,zLN,List.tail_cons,List.map_cons]at Et hj ⊢
 have mG:=(zLK.1 hj).1
 have hjo:=fun X=>af hj [X]
 simp only[zLN,zLU]at lA
 simp only[ae,↓Xn,↓Xo,↓Xg,↓Xd,↓Xe,↓Xf,Tryz.VΓ,Tryz.Γs,Xp,Xi,Nat.reduceAdd,Nat.reduceSub,Nat.reduceLT,Nat.reduceLeDiff,reduceIte,reduceCtorEq,Nat.reduceEqDiff,implies_true,forall_const,ad,kG,DD,Iv,aW,dR,hj,hjo]
 refine⟨⟨by omega,by omega⟩,?_⟩
 have e0:T.length+1 - zMl 1=T.length:=by simp
 have e1:List.drop (zMl 1 * 1) (List.take ((T.length+1) * 1) (SV.str c::T.map SV.str))=T.map SV.str:=by
  rw[zMh (by simp)];simp
 simp only[e0,e1]
 have hfu:=zf T
 have bU:∀ q:Bytes,q.length≤100000→Fair ⟨x,p,q,[],[],false,false⟩:=fun q hq=>by
  obtain⟨-,-,-,k4,k5,k6⟩:=cu hh
  exact⟨by simp only[zLU];omega,by simp only;omega,by simp only;omega⟩
 refine aL (fun σ=>∃ k:Nat,k≤T.length∧lk 2 σ.t=some (.p 1 0)∧lk 3 σ.t=some (.int .i64 0)∧lk 4 σ.t=some (.o j (T.length+1))∧lk 5 σ.t=some (.p b.length 0)∧lk 7 σ.t=some (.str ((T.take k).flatMap gG))∧lk 24 σ.t=some (.o (b.length+1) T.length)∧lk 25 σ.t=some (.int .i64 T.length)∧lk 26 σ.t=some (.int .i64 k) ∧
  σ.b[1]? = some (.cells [.str [],.int .i64 0,.str [],.str [],.str [],.bool false,.bool false] 91 true)∧σ.b[b.length]? = some (.cells [.str x,.int .i64 p] 128 true)∧σ.b[b.length+1]? = some (.own (T.map SV.str) 9 1 T.length false)∧(∃ c m,σ.b[j]? = some (.own c 9 1 (T.length+1) m))∧(T.take k).all en=true) (fun σ=>T.length - ji 26 σ)
  ⟨0,by omega,rfl,rfl,rfl,rfl,rfl,rfl,rfl,rfl,af (by rw[zLO (by omega)];exact DD _) _,af (by rw[zLO (by omega)];exact aW _ _) _,(by rw[zLX (by simp)];simp),⟨_,_,af (zLM (by simp;omega)) _⟩,rfl⟩ ?_
 have hbL:1<b.length:=mu
 clear hj hjo kG DD Iv cL hx
 generalize b.length=N at *
 rintro⟨t,B⟩ ⟨k,hk,h2,h3,h4,h5,h7,h24,h25,h26,im,hBN,mI,⟨cj,mj,hBj⟩,bN⟩
 simp only at h2 h3 h4 h5 h7 h24 h25 h26 im hBN mI hBj
 rw[az h26]
 have mH:=gR (g:=gG) (L:=T) (k:=k)
 have jG:∀ X,(B.set 1 X)[1]? = some X:=fun X=>zLM (zLK.1 im).1
 by_cases aC:k<T.length
 ·have hx:(T.map SV.str)[k * 1]? = some (.str T[k]):=by simp[aC]
  have hsg:=yZ T[k] (zMm _ (zLW aC))
  have BE:=ll (g:=gG) aC
  have pd:=fh T[k]
  have hup:gG T[k]=47::aD [] (ak T[k]).1:=rfl
  have oT:=cN T[k]
  have jN:=dM [] (ak T[k]).1
  have pe:=sj (ak T[k]).1 [] (by omega) (by simp)
  have hso:en T[k]=!((((ak T[k]).1==[])||((ak T[k]).1==[46]))||((ak T[k]).1==[46,46])):=by
   have hd0:(ak T[k]).2=0:=by rw[lY (by omega),if_neg hsg.1]
   unfold en
   rw[hd0]
   cases h2:(ak T[k]).1==[] <;> cases h3:(ak T[k]).1==[46] <;> cases h4:(ak T[k]).1==[46,46] <;> simp_all [bne]
  have jF:en T[k]=false→T.all en=false:=fun h=>cU aC h
  have BD:en T[k]=true→(T.take (k+1)).all en=true:=fun h=>aO aC bN h
  simp only[ae,↓Xn,↓Xo,↓Xg,↓Xd,↓Xe,↓Xf,Tryz.VΓ,Tryz.Γs,Xp,Xi,Nat.reduceAdd,Nat.reduceSub,Nat.reduceLT,Nat.reduceLeDiff,reduceIte,reduceCtorEq,Nat.reduceEqDiff,implies_true,forall_const,ad,h2,h3,h4,h5,h7,h24,h25,h26,im,hBN,mI,hx]
  refine⟨fun _=>⟨⟨by omega,by omega⟩,by simp;omega,?_⟩,fun h=>absurd h (by simp;omega)⟩
  generalize ak T[k]=X at *
  obtain⟨w,ew⟩:=X
  simp only at pd pe hso hup oT jN
  have fin:∀ (t':List (Nat × SV)),en T[k]=true→lk 26 t'=some (.int .i64 ((k:Int)+1))→T.length - ji 26 ⟨t',B⟩<T.length - (k:Int).toNat:=fun t' _ k6=>by rw[az (σ:=⟨t',B⟩) k6];omega
  (refine aa pd ?_;simp only[ae,↓Xn,↓Xo,↓Xg,↓Xd,↓Xe,↓Xf,Tryz.VΓ,Tryz.Γs,Xp,Xi,Nat.reduceAdd,Nat.reduceSub,Nat.reduceLT,Nat.reduceLeDiff,reduceIte,reduceCtorEq,Nat.reduceEqDiff,implies_true,forall_const,ad,h2,h3,h4,h5,h7,h24,h25,h26,im,hBN,mI,jG])
  refine⟨fun g1=>⟨fun g2=>⟨fun g3=>?_,fun g3=>?_⟩,fun g2=>?_⟩,fun g1=>?_⟩
  ·have hb:=jF (by rw[hso,g3];simp)
   simp only[hb,if_true]
   rfl
  ·have hso:en T[k]=true:=by rw[hso,g1,g2,g3];rfl
   (refine aa pe ?_;simp only[ae,↓Xn,↓Xo,↓Xg,↓Xd,↓Xe,↓Xf,Tryz.VΓ,Tryz.Γs,Xp,Xi,Nat.reduceAdd,Nat.reduceSub,Nat.reduceLT,Nat.reduceLeDiff,reduceIte,reduceCtorEq,Nat.reduceEqDiff,implies_true,forall_const,ad,h2,h3,h4,h5,h7,h24,h25,h26,im,hBN,mI])
   refine⟨by omega,by omega,⟨by omega,by omega⟩,⟨k+1,by omega,by rw[BE,hup],rfl,⟨cj,mj,hBj⟩,BD hso⟩,fin _ hso rfl⟩
  ·have hb:=jF (by rw[hso,g2];simp)
   simp only[hb,if_true]
   rfl
  ·have hb:=jF (by rw[hso,g1];simp)
   simp only[hb,if_true]
   rfl
 ·have jk:k=T.length:=by omega
  subst jk
  rw[zLV]at h7 bN
  have xK:decide ((T.length:Int)<T.length)=false:=by simp
  have hBl:=(zLK.1 im).1
  have wF:=fun X=>af im [X]
  have wE:∀ X Y,((B++[X]).set 1 Y)[1]? = some Y:=fun X Y=>zLM (by simp;omega)
  have hTl:(((T.length+1:Nat):Int)==1)=decide (T=[]):=by
   cases T <;> simp
   omega
  have hpt:ia T=(if T=[] then [47,46,119,101,108,108,45,107,110,111,119,110] else T.flatMap gG)++[47,100,105,100,46,106,115,111,110]:=by
   unfold ia
   by_cases hT:T=[]
   ·rw[if_pos hT,if_pos hT];rfl
   ·rw[if_neg hT,if_neg hT];rfl
  have fU:(ia T).length≤100000:=by rw[hpt];split <;> simp only[zLL,zLN,zLU] <;> omega
  have pf:=jW ⟨x,p,ia T,[],[],false,false⟩ (bU _ fU)
  unfold ey at pf
  simp only at pf
  by_cases hT:T=[]
  ·rw[if_pos hT]at hpt
   rw[hpt]at pf ⊢
   have hTd:decide (T=[])=true:=decide_eq_true hT
   simp only[zL3,zL7]at pf
   simp only[ae,↓Xn,↓Xo,↓Xg,↓Xd,↓Xe,↓Xf,Tryz.VΓ,Tryz.Γs,Xp,Xi,Nat.reduceAdd,Nat.reduceSub,Nat.reduceLT,Nat.reduceLeDiff,reduceIte,reduceCtorEq,Nat.reduceEqDiff,implies_true,forall_const,ad,h2,h3,h4,h5,h7,h24,h25,h26,im,hBN,mI,hBj,wF,wE,xK,bN,hTl,hTd,aW,dR]
   (refine aa pf ?_;simp only[ae,↓Xn,↓Xo,↓Xg,↓Xd,↓Xe,↓Xf,Tryz.VΓ,Tryz.Γs,Xp,Xi,Nat.reduceAdd,Nat.reduceSub,Nat.reduceLT,Nat.reduceLeDiff,reduceIte,reduceCtorEq,Nat.reduceEqDiff,implies_true,forall_const,ad,h2,h3,h4,h5,h7,h24,h25,h26,im,hBN,mI,hBj,wF,wE,xK,bN,hTl,hTd,aW,dR])
   unfold jw
   exact⟨fun hl=>(by rw[if_pos (by simp only[decide_eq_true_eq,decide_eq_false_iff_not]at hl;omega)];rfl),fun hl=>(by rw[if_neg (by simp only[decide_eq_true_eq,decide_eq_false_iff_not]at hl;omega)];rfl)⟩
  ·rw[if_neg hT]at hpt
   rw[hpt]at pf ⊢
   have hTd:decide (T=[])=false:=decide_eq_false hT
   simp only[ae,↓Xn,↓Xo,↓Xg,↓Xd,↓Xe,↓Xf,Tryz.VΓ,Tryz.Γs,Xp,Xi,Nat.reduceAdd,Nat.reduceSub,Nat.reduceLT,Nat.reduceLeDiff,reduceIte,reduceCtorEq,Nat.reduceEqDiff,implies_true,forall_const,ad,h2,h3,h4,h5,h7,h24,h25,h26,im,hBN,mI,hBj,wF,wE,xK,bN,hTl,hTd,aW,dR]
   refine⟨by omega,?_⟩
   (refine aa pf ?_;simp only[ae,↓Xn,↓Xo,↓Xg,↓Xd,↓Xe,↓Xf,Tryz.VΓ,Tryz.Γs,Xp,Xi,Nat.reduceAdd,Nat.reduceSub,Nat.reduceLT,Nat.reduceLeDiff,reduceIte,reduceCtorEq,Nat.reduceEqDiff,implies_true,forall_const,ad,h2,h3,h4,h5,h7,h24,h25,h26,im,hBN,mI,hBj,wF,wE,xK,bN,hTl,hTd,aW,dR])
   unfold jw
   exact⟨fun hl=>(by rw[if_pos (by simp only[decide_eq_true_eq,decide_eq_false_iff_not]at hl;omega)];rfl),fun hl=>(by rw[if_neg (by simp only[decide_eq_true_eq,decide_eq_false_iff_not]at hl;omega)];rfl)⟩
theorem vg (x:Bytes):bL x=(x.all db&&!((ak x).1==[])):=by
 unfold bL
 by_cases h:(ak x).2=0
 ·rw[h];cases x.all db <;> simp[bne]
 ·have h2:(ak x).1=[]:=by
   unfold ak at h ⊢
   split
   ·rfl
   ·split
    ·rfl
    ·rename_i h1 h2;rw[if_neg h1,if_neg h2]at h;exact absurd rfl h
  rw[h2];cases x.all db <;> simp
theorem nT {u:fc}{L:List Bytes}(h:u.path=cI→L.all bL=true)(hb:L.all bL=false):fv u L=(fN.none,110):=by
 unfold fv
 rw[if_neg (fun k=>by rw[h k]at hb;cases hb),if_pos hb]
theorem qz {u:fc}{L:List Bytes}(h:L.all bL=true):fv u L=gQ ⟨dK,bh u++if u.path=cI then [] else L.flatMap bu⟩:=by
 unfold fv
 by_cases k:u.path=cI
 ·rw[if_pos k,if_pos k,zMg]
 ·rw[if_neg k,if_neg k,if_neg (by rw[h];simp)]
theorem wb (u:fc)(hk:Fair u):PC Tryz.V 109 [ey u] (.eR [fg (fW u).1,.int .i64 (fW u).2]):=by
 have pv1:=CZ u hk
 have fU:=hk.1
 unfold ey at pv1 ⊢
 cases hv:fO u
 ·rw[hv]at pv1
  rw[show fW u=(fN.none,8) from if_pos hv]
  refine aQ 3000 Tryz.func109 rfl Tryz.ntmps109 Tryz.results109 Tryz.call109 (by simp) (by simp[flat,flat.ai,fg,ey]) (by simp[flat,flat.ai,fg,ey]) ?_
  simp only[ae,↓Xn,↓Xo,↓Xg,↓Xd,↓Xe,↓Xf,Tryz.VΓ,Tryz.Γs,Xp,Xi,Nat.reduceAdd,Nat.reduceSub,Nat.reduceLT,Nat.reduceLeDiff,reduceIte,reduceCtorEq,Nat.reduceEqDiff,implies_true,forall_const,ad]
  (refine aa pv1 ?_;simp only[ae,↓Xn,↓Xo,↓Xg,↓Xd,↓Xe,↓Xf,Tryz.VΓ,Tryz.Γs,Xp,Xi,Nat.reduceAdd,Nat.reduceSub,Nat.reduceLT,Nat.reduceLeDiff,reduceIte,reduceCtorEq,Nat.reduceEqDiff,implies_true,forall_const,ad,beq_self_eq_true,bne_self_eq_false,Int.reduceBEq,Int.reduceBNe,Int.reduceLT,Int.reduceLE])
  rfl
 obtain⟨T,z,hT,Co,hL0,hp4⟩:=rU hv
 rw[uW hv hT Co]
 rw[hv]at pv1
 have Et:=lG 47 u.path
 have hpth:u.path=cI→T.dropLast.all bL=true:=by
  intro k
  rw[k]at hT
  obtain rfl:T=[([46,119,101,108,108,45,107,110,111,119,110]:List UInt8),fk]:=by
   have e:aA 47 cI=[[],([46,119,101,108,108,45,107,110,111,119,110]:List UInt8),fk]:=by decide +kernel
   rw[e]at hT
   exact(List.cons.inj hT).2.symm
  decide +kernel
 refine aQ 3000 Tryz.func109 rfl Tryz.ntmps109 Tryz.results109 Tryz.call109 (by simp) (by simp[flat,flat.ai,fg,ey]) (by simp[flat,flat.ai,fg,ey]) ?_
 simp only[ae,↓Xn,↓Xo,↓Xg,↓Xd,↓Xe,↓Xf,Tryz.VΓ,Tryz.Γs,Xp,Xi,Nat.reduceAdd,Nat.reduceSub,Nat.reduceLT,Nat.reduceLeDiff,reduceIte,reduceCtorEq,Nat.reduceEqDiff,implies_true,forall_const,ad]
 (refine aa pv1 ?_;simp only[ae,↓Xn,↓Xo,↓Xg,↓Xd,↓Xe,↓Xf,Tryz.VΓ,Tryz.Γs,Xp,Xi,Nat.reduceAdd,Nat.reduceSub,Nat.reduceLT,Nat.reduceLeDiff,reduceIte,reduceCtorEq,Nat.reduceEqDiff,implies_true,forall_const,ad,beq_self_eq_true,bne_self_eq_false,Int.reduceBEq,Int.reduceBNe,Int.reduceLT,Int.reduceLE])
 refine aT (pH u.path 47 (by omega)) ?_
 rintro r b ⟨j,rfl,lA,hj,cL⟩
 rw[hT]at Et hj ⊢
 generalize (aG 47 u.path).1=c at *
 clear hT
 simp only[zMa,zLL,zLN]at Et
 simp only at lA hj cL
 have e0:T.length+1 - zMl 1=T.length:=by simp
 have e1:List.drop (zMl 1 * 1) (List.take ((T.length+1) * 1) (SV.str c::T.map SV.str))=T.map SV.str:=by
  rw[zMh (by simp)];simp
 have hz:(T.map SV.str)[((T.length:Int) - 1).toNat * 1]? = some (.str z):=by
  rw[show ((T.length:Int) - 1).toNat * 1=T.length - 1 by omega,List.getElem?_map,← List.getLast?_eq_getElem?,Co]
  rfl
 simp only[List.map_cons,zLN]at hj
 have mG:=(zLK.1 hj).1
 have hjo:=fun X=>af hj [X]
 have kG:=cL.at (j:=1) rfl
 have fB:=cL.at (j:=0) rfl
 have DD:=fun X=>af kG [X]
 have hbo0:=fun X=>af fB [X]
 simp only[zLN,zLU]at lA
 have hQ0:∀ Y Z,(b.set j Y++[Z])[0]? = b[0]? := fun Y Z=>by
  rw[zLR (by rw[zL2];omega),zLO (by omega)]
 have hQ1:∀ Y Z,(b.set j Y++[Z])[1]? = b[1]? := fun Y Z=>by
  rw[zLR (by rw[zL2];omega),zLO (by omega)]
 have hQn:∀ Y Z,(b.set j Y++[Z])[b.length]? = some Z:=fun Y Z=>by
  rw[zLX (by simp)];simp
 have hQs:∀ Y Z W,((b.set j Y++[Z]).set 1 W)[1]? = some W:=fun Y Z W=>zLM (by simp;omega)
 have hzS:(z != [100,105,100,46,106,115,111,110])=(z != fk):=rfl
 have hQl:∀ Y Z,(b.set j Y++[Z]).length=b.length+1:=fun Y Z=>by simp
 have hD0:∀ Y Z V,(b.set j Y++[Z]++[V])[0]? = b[0]? := fun Y Z V=>by
  rw[zLR (by simp)];exact hQ0 Y Z
 have hD1:∀ Y Z V,(b.set j Y++[Z]++[V])[1]? = b[1]? := fun Y Z V=>by
  rw[zLR (by simp;omega)];exact hQ1 Y Z
 have hDn:∀ Y Z V,(b.set j Y++[Z]++[V])[b.length+1]? = some V:=fun Y Z V=>by
  rw[zLX (by simp)];simp
 have hDs:∀ Y Z V X,((b.set j Y++[Z]++[V]).set 1 X)[1]? = some X:=fun Y Z V X=>zLM (by simp)
 have oT:T.dropLast.length=T.length - 1:=List.length_dropLast ..
 have e2:((T.length:Int) - 1).toNat=T.dropLast.length:=by omega
 have e3:List.take (T.dropLast.length * 1) (T.map SV.str)=T.dropLast.map SV.str:=by
  rw[Nat.mul_one,oT,zMk,List.map_take]
 rw[e2]at hz
 have hdf:T.dropLast.flatten.length≤T.flatten.length:=by
  rw[zMk]
  have:=congrArg (fun l=>(List.flatten l).length) (List.take_append_drop (T.length - 1) T)
  simp only[List.flatten_append,zLL]at this
  omega
 have DC:=qR hv
 obtain⟨-,-,-,k4,k5,k6⟩:=cu DC.host
 have hfd:=rK T.dropLast
 have bU:∀ q:Bytes,q.length≤100000→eH ⟨dK,q⟩:=fun q hq=>⟨show dK.length≤_ by decide,show q.length≤_ by omega⟩
 simp only[ae,↓Xn,↓Xo,↓Xg,↓Xd,↓Xe,↓Xf,Tryz.VΓ,Tryz.Γs,Xp,Xi,Nat.reduceAdd,Nat.reduceSub,Nat.reduceLT,Nat.reduceLeDiff,reduceIte,reduceCtorEq,Nat.reduceEqDiff,implies_true,forall_const,ad,e0,e1,e2,e3,hz,hj,hjo,fB,kG,hQ0,hQ1,hQn,hQs,hQl,hD0,hD1,hDn,hDs,aW,hzS]
 refine⟨⟨by omega,by omega⟩,fun hq=>⟨fun hf=>⟨⟨by omega,by omega⟩,⟨by omega,by omega⟩,by simp;omega,fun oc=>?_,fun oc=>⟨⟨by omega,by omega⟩,⟨by omega,by omega⟩,fun ny=>?_,fun ny=>?_⟩⟩,fun hf=>?_⟩,fun hq=>?_⟩
 ·rw[if_neg (by rw[hq];simp),if_neg (by rw[hf];simp),if_pos oc];rfl
 ·rw[if_neg (by rw[hq];simp),if_neg (by rw[hf];simp),if_neg (by rw[oc];simp),if_pos (by simp at ny;omega)];rfl
 ·rw[if_neg (by rw[hq];simp),if_neg (by rw[hf];simp),if_neg (by rw[oc];simp),if_neg (by simp at ny;omega)]
  have pn:=yD u.port (by omega) (by omega)
  have hdc:=dJ 19 u.port.natAbs (by omega)
  have hxs:∀ x∈T.dropLast,x.length≤4096:=fun x hx=>by
   have:=gM hx
   omega
  have hLl:T.dropLast.length≤5000:=by omega
  have hfdl:(T.dropLast.flatMap bu).length≤60000:=by omega
  have zD:=(hD0 (.own (.str c::T.map SV.str) 9 1 (T.length+1) false) (.own (T.map SV.str) 9 1 T.length false) (.own (T.dropLast.map SV.str) 9 1 T.dropLast.length false)).trans fB
  have hE1:=(hD1 (.own (.str c::T.map SV.str) 9 1 (T.length+1) false) (.own (T.map SV.str) 9 1 T.length false) (.own (T.dropLast.map SV.str) 9 1 T.dropLast.length false)).trans kG
  have hEr:=hDn (.own (.str c::T.map SV.str) 9 1 (T.length+1) false) (.own (T.map SV.str) 9 1 T.length false) (.own (T.dropLast.map SV.str) 9 1 T.dropLast.length false)
  clear hD0 hD1 hDn hDs hQ0 hQ1 hQn hQs hQl hz e3 e1 hdf hfd
  refine⟨fun hp=>?_,fun hp=>?_⟩
  ·have hp0:¬ u.port=0:=by simpa using hp
   have qn:u.host++(37::51::65::cJ u.port.natAbs)=bh u:=by unfold bh;rw[if_neg hp0];rfl
   (refine aa pn ?_;simp only[ae,↓Xn,↓Xo,↓Xg,↓Xd,↓Xe,↓Xf,Tryz.VΓ,Tryz.Γs,Xp,Xi,Nat.reduceAdd,Nat.reduceSub,Nat.reduceLT,Nat.reduceLeDiff,reduceIte,reduceCtorEq,Nat.reduceEqDiff,implies_true,forall_const,ad])
   rw[qn]
   have mu:(bh u).length≤300:=by rw[← qn];simp only[zLL,zLN];omega
   refine⟨by omega,by omega,?_⟩
   refine aL (fun σ=>∃ k:Nat,k≤T.dropLast.length∧lk 1 σ.t=some (.p 0 0)∧lk 2 σ.t=some (.p 1 0)∧lk 3 σ.t=some (.int .i64 0)∧lk 5 σ.t=some (.str (bh u++if u.path=cI then [] else(T.dropLast.take k).flatMap bu))∧lk 56 σ.t=some (.o (b.length+1) T.dropLast.length)∧lk 57 σ.t=some (.int .i64 T.dropLast.length)∧lk 58 σ.t=some (.int .i64 k) ∧
    σ.b[0]? = some (.cells [.str u.host,.int .i64 u.port,.str u.path,.str u.query,.str u.fragment,.bool u.bl,.bool u.bE] 91 true)∧σ.b[1]? = some (.cells [.str [],.str []] 123 true)∧σ.b[b.length+1]? = some (.own (T.dropLast.map SV.str) 9 1 T.dropLast.length false)∧(T.dropLast.take k).all bL=true) (fun σ=>T.dropLast.length - ji 58 σ)
    ⟨0,by omega,rfl,rfl,rfl,congrArg (fun x=>some (SV.str x)) (by split <;> simp),rfl,rfl,rfl,zD,hE1,hEr,rfl⟩ ?_
   generalize b.length=N at *
   generalize T.dropLast=L at *
   rintro⟨t,B⟩ ⟨k,hk,h1,h2,h3,h5,rI,rH,qw,oU,im,mI,bN⟩
   simp only at h1 h2 h3 h5 rI rH qw oU im mI
   rw[az qw]
   have jG:∀ X,(B.set 1 X)[1]? = some X:=fun X=>zLM (zLK.1 im).1
   by_cases aC:k<L.length
   ·have hx:(L.map SV.str)[k * 1]? = some (.str L[k]):=by simp[aC]
    have zz:=hxs L[k] (zLW aC)
    have BE:=ll (g:=bu) aC
    have jF:bL L[k]=false→L.all bL=false:=fun h=>cU aC h
    have BD:bL L[k]=true→(L.take (k+1)).all bL=true:=fun h=>aO aC bN h
    simp only[ae,↓Xn,↓Xo,↓Xg,↓Xd,↓Xe,↓Xf,Tryz.VΓ,Tryz.Γs,Xp,Xi,Nat.reduceAdd,Nat.reduceSub,Nat.reduceLT,Nat.reduceLeDiff,reduceIte,reduceCtorEq,Nat.reduceEqDiff,implies_true,forall_const,ad,h1,h2,h3,h5,rI,rH,qw,oU,im,mI,hx,jG]
    refine⟨fun _=>⟨⟨by omega,by omega⟩,by simp;omega,?_⟩,fun h=>absurd h (by simp;omega)⟩
    have hd:=vg L[k]
    have uL:bu L[k]=58::aK (ak L[k]).1:=rfl
    have oT:=cN L[k]
    have pd:=fh L[k]
    have pe:=ks (ak L[k]).1 (by omega)
    have jN:=fw (ak L[k]).1
    have BF:=gR (g:=bu) (L:=L) (k:=k)
    generalize L[k]=x at *
    clear hx
    refine aL (fun σ=>∃ i:Nat,i≤x.length∧lk 1 σ.t=some (.p 0 0)∧lk 2 σ.t=some (.p 1 0)∧lk 3 σ.t=some (.int .i64 0)∧lk 5 σ.t=some (.str (bh u++if u.path=cI then [] else(L.take k).flatMap bu))∧lk 56 σ.t=some (.o (N+1) L.length)∧lk 57 σ.t=some (.int .i64 L.length)∧lk 58 σ.t=some (.int .i64 k)∧lk 7 σ.t=some (.str x)∧lk 8 σ.t=some (.int .i64 i) ∧
     σ.b[0]? = some (.cells [.str u.host,.int .i64 u.port,.str u.path,.str u.query,.str u.fragment,.bool u.bl,.bool u.bE] 91 true)∧σ.b[1]? = some (.cells [.str [],.str []] 123 true)∧σ.b[N+1]? = some (.own (L.map SV.str) 9 1 L.length false)∧(x.take i).all db=true) (fun σ=>x.length - ji 8 σ)
     ⟨0,by omega,h1,h2,h3,h5,rI,rH,qw,rfl,rfl,oU,im,mI,rfl⟩ ?_
    clear h1 h2 h3 h5 rI rH qw oU im mI jG bN zD hE1 hEr
    rintro⟨t,B⟩ ⟨i,hi,h1,h2,h3,h5,rI,rH,qw,h7,h8,oU,im,mI,bN⟩
    simp only at h1 h2 h3 h5 rI rH qw h7 h8 oU im mI
    rw[az h8]
    have jG:∀ X,(B.set 1 X)[1]? = some X:=fun X=>zLM (zLK.1 im).1
    by_cases eF:i<x.length
    ·have hg:x.getD i 0=x[i]:=by simp[List.getD,eF]
     have HQ:db x[i]=false→L.all bL=false:=fun h=>jF (by rw[hd,cU eF h];rfl)
     simp only[ae,↓Xn,↓Xo,↓Xg,↓Xd,↓Xe,↓Xf,Tryz.VΓ,Tryz.Γs,Xp,Xi,Nat.reduceAdd,Nat.reduceSub,Nat.reduceLT,Nat.reduceLeDiff,reduceIte,reduceCtorEq,Nat.reduceEqDiff,implies_true,forall_const,ad,h1,h2,h3,h5,rI,rH,qw,oU,im,mI,h7,h8,hg,jG]
     refine⟨fun _=>⟨⟨by omega,by omega⟩,?_⟩,fun h=>absurd h (by simp;omega)⟩
     (refine aa (dg x[i]) ?_;simp only[ae,↓Xn,↓Xo,↓Xg,↓Xd,↓Xe,↓Xf,Tryz.VΓ,Tryz.Γs,Xp,Xi,Nat.reduceAdd,Nat.reduceSub,Nat.reduceLT,Nat.reduceLeDiff,reduceIte,reduceCtorEq,Nat.reduceEqDiff,implies_true,forall_const,ad,h1,h2,h3,h5,rI,rH,qw,oU,im,mI,h7,h8,hg,jG])
     have vI:((x[i].toNat:Int) != 37)=(x[i] != 37):=by
      have:=cE eF 37 (n:=37) rfl
      show (!_)=(!_)
      rw[← this,hg]
     rw[vI]
     have fin:db x[i]=true→∀ (t':List (Nat × SV)),lk 8 t'=some (.int .i64 ((i:Int)+1))→(∃ m:Nat,m≤x.length∧SV.int IntKind.i64 ((i:Int)+1)=SV.int IntKind.i64 (m:Int)∧(x.take m).all db=true)∧x.length - ji 8 ⟨t',B⟩<x.length - (i:Int).toNat:=fun hm t' k6 =>
      ⟨⟨i+1,by omega,rfl,aO eF bN hm⟩,by rw[az (σ:=⟨t',B⟩) k6];omega⟩
     refine⟨fun hp=>⟨⟨by omega,by omega⟩,fun h9=>?_,fun h9=>⟨⟨by omega,by omega⟩,fin ?_ _ rfl⟩⟩,fun hp=>⟨⟨by omega,by omega⟩,fin ?_ _ rfl⟩⟩
     ·have hb:=HQ (by unfold db;simp at hp h9 ⊢;exact⟨h9,hp⟩)
      rw[nT hpth hb];rfl
     ·unfold db;simp at h9 ⊢;exact .inl h9
     ·unfold db;simp at hp ⊢;exact .inr hp
    ·have jk:i=x.length:=by omega
     subst jk
     rw[zLV]at bN
     have xK:decide ((x.length:Int)<x.length)=false:=by simp
     generalize ak x=X at *
     obtain⟨w,ew⟩:=X
     simp only at pd pe hd uL oT jN
     simp only[ae,↓Xn,↓Xo,↓Xg,↓Xd,↓Xe,↓Xf,Tryz.VΓ,Tryz.Γs,Xp,Xi,Nat.reduceAdd,Nat.reduceSub,Nat.reduceLT,Nat.reduceLeDiff,reduceIte,reduceCtorEq,Nat.reduceEqDiff,implies_true,forall_const,ad,h1,h2,h3,h5,rI,rH,qw,oU,im,mI,h7,h8,jG,xK]
     (refine aa pd ?_;simp only[ae,↓Xn,↓Xo,↓Xg,↓Xd,↓Xe,↓Xf,Tryz.VΓ,Tryz.Γs,Xp,Xi,Nat.reduceAdd,Nat.reduceSub,Nat.reduceLT,Nat.reduceLeDiff,reduceIte,reduceCtorEq,Nat.reduceEqDiff,implies_true,forall_const,ad,h1,h2,h3,h5,rI,rH,qw,oU,im,mI,h7,h8,jG])
     have kW:∀ (S:Bytes) (t':List (Nat × SV)),bL x=true→S=bh u++(if u.path=cI then [] else(L.take (k+1)).flatMap bu)→lk 58 t'=some (.int .i64 ((k:Int)+1)) →
      (∃ m:Nat,m≤L.length∧SV.str S=SV.str (bh u++if u.path=cI then [] else(L.take m).flatMap bu)∧SV.int IntKind.i64 ((k:Int)+1)=SV.int IntKind.i64 (m:Int)∧(L.take m).all bL=true)∧L.length - ji 58 ⟨t',B⟩<L.length - (k:Int).toNat:=fun S t' h hS k6 =>
      ⟨⟨k+1,by omega,by rw[hS],rfl,BD h⟩,by rw[az (σ:=⟨t',B⟩) k6];omega⟩
     refine⟨fun g1=>(by rw[nT hpth (jF (by rw[hd,g1];simp))];rfl),fun g1=>?_⟩
     have hgx:bL x=true:=by rw[hd,bN,g1];rfl
     refine⟨fun g2=>?_,fun g2=>?_⟩
     ·have bp:¬ u.path=cI:=fun e=>by rw[e]at g2;exact absurd g2 (by decide)
      (refine aa pe ?_;simp only[ae,↓Xn,↓Xo,↓Xg,↓Xd,↓Xe,↓Xf,Tryz.VΓ,Tryz.Γs,Xp,Xi,Nat.reduceAdd,Nat.reduceSub,Nat.reduceLT,Nat.reduceLeDiff,reduceIte,reduceCtorEq,Nat.reduceEqDiff,implies_true,forall_const,ad,h1,h2,h3,h5,rI,rH,qw,oU,im,mI,h7,h8,jG])
      have hle:(bh u++if u.path=cI then [] else(L.take k).flatMap bu).length≤100000:=by
       rw[if_neg bp,zLL];omega
      refine⟨by omega,by omega,⟨by omega,by omega⟩,kW _ _ hgx ?_ rfl⟩
      rw[if_neg bp,if_neg bp,BE,uL,List.append_assoc]
     ·have he:u.path=cI:=by simpa[cI] using g2
      refine⟨⟨by omega,by omega⟩,?_⟩
      have:=kW (bh u++if u.path=cI then [] else(L.take k).flatMap bu) ((58,.int .i64 ((k:Int)+1))::t) hgx (by rw[if_pos he,if_pos he]) rfl
      refine⟨?_,?_⟩
      ·obtain⟨⟨m,q1,q2,q3,q4⟩,-⟩:=this
       exact⟨m,q1,q2,q3,q4⟩
      ·rw[az (k:=.i64) (n:=(k:Int)+1) rfl];omega
   ·have jk:k=L.length:=by omega
    subst jk
    rw[zLV]at h5 bN
    have xK:decide ((L.length:Int)<L.length)=false:=by simp
    rw[qz bN]
    have hle:(bh u++if u.path=cI then [] else L.flatMap bu).length≤100000:=by
     rw[zLL];split
     ·simp;omega
     ·omega
    generalize (bh u++if u.path=cI then [] else L.flatMap bu)=S at *
    have pf:=fS ⟨dK,S⟩ (bU S hle)
    unfold fg at pf
    simp only at pf
    have hBl:=(zLK.1 im).1
    have wF:=fun X=>af im [X]
    have wE:∀ X Y,((B++[X]).set 1 Y)[1]? = some Y:=fun X Y=>zLM (by simp;omega)
    simp only[ae,↓Xn,↓Xo,↓Xg,↓Xd,↓Xe,↓Xf,Tryz.VΓ,Tryz.Γs,Xp,Xi,Nat.reduceAdd,Nat.reduceSub,Nat.reduceLT,Nat.reduceLeDiff,reduceIte,reduceCtorEq,Nat.reduceEqDiff,implies_true,forall_const,ad,h1,h2,h3,h5,rI,rH,qw,oU,im,mI,jG,xK,wF,wE,aW,dR]
    (refine aa pf ?_;simp only[ae,↓Xn,↓Xo,↓Xg,↓Xd,↓Xe,↓Xf,Tryz.VΓ,Tryz.Γs,Xp,Xi,Nat.reduceAdd,Nat.reduceSub,Nat.reduceLT,Nat.reduceLeDiff,reduceIte,reduceCtorEq,Nat.reduceEqDiff,implies_true,forall_const,ad,h1,h2,h3,h5,rI,rH,qw,oU,im,mI,jG,xK,wF,wE,aW,dR])
    unfold gQ
    exact⟨fun hl=>(by rw[if_pos (by simp only[decide_eq_true_eq,decide_eq_false_iff_not]at hl;omega)];rfl),fun hl=>(by rw[if_neg (by simp only[decide_eq_true_eq,decide_eq_false_iff_not]at hl;omega)];rfl)⟩
  ·have hp0:u.port=0:=by simpa using hp
   have qn:u.host=bh u:=by unfold bh;rw[if_pos hp0,zMg]
   have mu:(bh u).length≤300:=by rw[← qn];omega
   refine aL (fun σ=>∃ k:Nat,k≤T.dropLast.length∧lk 1 σ.t=some (.p 0 0)∧lk 2 σ.t=some (.p 1 0)∧lk 3 σ.t=some (.int .i64 0)∧lk 5 σ.t=some (.str (bh u++if u.path=cI then [] else(T.dropLast.take k).flatMap bu))∧lk 56 σ.t=some (.o (b.length+1) T.dropLast.length)∧lk 57 σ.t=some (.int .i64 T.dropLast.length)∧lk 58 σ.t=some (.int .i64 k) ∧
    σ.b[0]? = some (.cells [.str u.host,.int .i64 u.port,.str u.path,.str u.query,.str u.fragment,.bool u.bl,.bool u.bE] 91 true)∧σ.b[1]? = some (.cells [.str [],.str []] 123 true)∧σ.b[b.length+1]? = some (.own (T.dropLast.map SV.str) 9 1 T.dropLast.length false)∧(T.dropLast.take k).all bL=true) (fun σ=>T.dropLast.length - ji 58 σ)
    ⟨0,by omega,rfl,rfl,rfl,congrArg (fun x=>some (SV.str x)) (by rw[qn];split <;> simp),rfl,rfl,rfl,zD,hE1,hEr,rfl⟩ ?_
   generalize b.length=N at *
   generalize T.dropLast=L at *
   rintro⟨t,B⟩ ⟨k,hk,h1,h2,h3,h5,rI,rH,qw,oU,im,mI,bN⟩
   simp only at h1 h2 h3 h5 rI rH qw oU im mI
   rw[az qw]
   have jG:∀ X,(B.set 1 X)[1]? = some X:=fun X=>zLM (zLK.1 im).1
   by_cases aC:k<L.length
   ·have hx:(L.map SV.str)[k * 1]? = some (.str L[k]):=by simp[aC]
    have zz:=hxs L[k] (zLW aC)
    have BE:=ll (g:=bu) aC
    have jF:bL L[k]=false→L.all bL=false:=fun h=>cU aC h
    have BD:bL L[k]=true→(L.take (k+1)).all bL=true:=fun h=>aO aC bN h
    simp only[ae,↓Xn,↓Xo,↓Xg,↓Xd,↓Xe,↓Xf,Tryz.VΓ,Tryz.Γs,Xp,Xi,Nat.reduceAdd,Nat.reduceSub,Nat.reduceLT,Nat.reduceLeDiff,reduceIte,reduceCtorEq,Nat.reduceEqDiff,implies_true,forall_const,ad,h1,h2,h3,h5,rI,rH,qw,oU,im,mI,hx,jG]
    refine⟨fun _=>⟨⟨by omega,by omega⟩,by simp;omega,?_⟩,fun h=>absurd h (by simp;omega)⟩
    have hd:=vg L[k]
    have uL:bu L[k]=58::aK (ak L[k]).1:=rfl
    have oT:=cN L[k]
    have pd:=fh L[k]
    have pe:=ks (ak L[k]).1 (by omega)
    have jN:=fw (ak L[k]).1
    have BF:=gR (g:=bu) (L:=L) (k:=k)
    generalize L[k]=x at *
    clear hx
    refine aL (fun σ=>∃ i:Nat,i≤x.length∧lk 1 σ.t=some (.p 0 0)∧lk 2 σ.t=some (.p 1 0)∧lk 3 σ.t=some (.int .i64 0)∧lk 5 σ.t=some (.str (bh u++if u.path=cI then [] else(L.take k).flatMap bu))∧lk 56 σ.t=some (.o (N+1) L.length)∧lk 57 σ.t=some (.int .i64 L.length)∧lk 58 σ.t=some (.int .i64 k)∧lk 7 σ.t=some (.str x)∧lk 8 σ.t=some (.int .i64 i) ∧
     σ.b[0]? = some (.cells [.str u.host,.int .i64 u.port,.str u.path,.str u.query,.str u.fragment,.bool u.bl,.bool u.bE] 91 true)∧σ.b[1]? = some (.cells [.str [],.str []] 123 true)∧σ.b[N+1]? = some (.own (L.map SV.str) 9 1 L.length false)∧(x.take i).all db=true) (fun σ=>x.length - ji 8 σ)
     ⟨0,by omega,h1,h2,h3,h5,rI,rH,qw,rfl,rfl,oU,im,mI,rfl⟩ ?_
    clear h1 h2 h3 h5 rI rH qw oU im mI jG bN zD hE1 hEr
    rintro⟨t,B⟩ ⟨i,hi,h1,h2,h3,h5,rI,rH,qw,h7,h8,oU,im,mI,bN⟩
    simp only at h1 h2 h3 h5 rI rH qw h7 h8 oU im mI
    rw[az h8]
    have jG:∀ X,(B.set 1 X)[1]? = some X:=fun X=>zLM (zLK.1 im).1
    by_cases eF:i<x.length
    ·have hg:x.getD i 0=x[i]:=by simp[List.getD,eF]
     have HQ:db x[i]=false→L.all bL=false:=fun h=>jF (by rw[hd,cU eF h];rfl)
     simp only[ae,↓Xn,↓Xo,↓Xg,↓Xd,↓Xe,↓Xf,Tryz.VΓ,Tryz.Γs,Xp,Xi,Nat.reduceAdd,Nat.reduceSub,Nat.reduceLT,Nat.reduceLeDiff,reduceIte,reduceCtorEq,Nat.reduceEqDiff,implies_true,forall_const,ad,h1,h2,h3,h5,rI,rH,qw,oU,im,mI,h7,h8,hg,jG]
     refine⟨fun _=>⟨⟨by omega,by omega⟩,?_⟩,fun h=>absurd h (by simp;omega)⟩
     (refine aa (dg x[i]) ?_;simp only[ae,↓Xn,↓Xo,↓Xg,↓Xd,↓Xe,↓Xf,Tryz.VΓ,Tryz.Γs,Xp,Xi,Nat.reduceAdd,Nat.reduceSub,Nat.reduceLT,Nat.reduceLeDiff,reduceIte,reduceCtorEq,Nat.reduceEqDiff,implies_true,forall_const,ad,h1,h2,h3,h5,rI,rH,qw,oU,im,mI,h7,h8,hg,jG])
     have vI:((x[i].toNat:Int) != 37)=(x[i] != 37):=by
      have:=cE eF 37 (n:=37) rfl
      show (!_)=(!_)
      rw[← this,hg]
     rw[vI]
     have fin:db x[i]=true→∀ (t':List (Nat × SV)),lk 8 t'=some (.int .i64 ((i:Int)+1))→(∃ m:Nat,m≤x.length∧SV.int IntKind.i64 ((i:Int)+1)=SV.int IntKind.i64 (m:Int)∧(x.take m).all db=true)∧x.length - ji 8 ⟨t',B⟩<x.length - (i:Int).toNat:=fun hm t' k6 =>
      ⟨⟨i+1,by omega,rfl,aO eF bN hm⟩,by rw[az (σ:=⟨t',B⟩) k6];omega⟩
     refine⟨fun hp=>⟨⟨by omega,by omega⟩,fun h9=>?_,fun h9=>⟨⟨by omega,by omega⟩,fin ?_ _ rfl⟩⟩,fun hp=>⟨⟨by omega,by omega⟩,fin ?_ _ rfl⟩⟩
     ·have hb:=HQ (by unfold db;simp at hp h9 ⊢;exact⟨h9,hp⟩)
      rw[nT hpth hb];rfl
     ·unfold db;simp at h9 ⊢;exact .inl h9
     ·unfold db;simp at hp ⊢;exact .inr hp
    ·have jk:i=x.length:=by omega
     subst jk
     rw[zLV]at bN
     have xK:decide ((x.length:Int)<x.length)=false:=by simp
     generalize ak x=X at *
     obtain⟨w,ew⟩:=X
     simp only at pd pe hd uL oT jN
     simp only[ae,↓Xn,↓Xo,↓Xg,↓Xd,↓Xe,↓Xf,Tryz.VΓ,Tryz.Γs,Xp,Xi,Nat.reduceAdd,Nat.reduceSub,Nat.reduceLT,Nat.reduceLeDiff,reduceIte,reduceCtorEq,Nat.reduceEqDiff,implies_true,forall_const,ad,h1,h2,h3,h5,rI,rH,qw,oU,im,mI,h7,h8,jG,xK]
     (refine aa pd ?_;simp only[ae,↓Xn,↓Xo,↓Xg,↓Xd,↓Xe,↓Xf,Tryz.VΓ,Tryz.Γs,Xp,Xi,Nat.reduceAdd,Nat.reduceSub,Nat.reduceLT,Nat.reduceLeDiff,reduceIte,reduceCtorEq,Nat.reduceEqDiff,implies_true,forall_const,ad,h1,h2,h3,h5,rI,rH,qw,oU,im,mI,h7,h8,jG])
     have kW:∀ (S:Bytes) (t':List (Nat × SV)),bL x=true→S=bh u++(if u.path=cI then [] else(L.take (k+1)).flatMap bu)→lk 58 t'=some (.int .i64 ((k:Int)+1)) →
      (∃ m:Nat,m≤L.length∧SV.str S=SV.str (bh u++if u.path=cI then [] else(L.take m).flatMap bu)∧SV.int IntKind.i64 ((k:Int)+1)=SV.int IntKind.i64 (m:Int)∧(L.take m).all bL=true)∧L.length - ji 58 ⟨t',B⟩<L.length - (k:Int).toNat:=fun S t' h hS k6 =>
      ⟨⟨k+1,by omega,by rw[hS],rfl,BD h⟩,by rw[az (σ:=⟨t',B⟩) k6];omega⟩
     refine⟨fun g1=>(by rw[nT hpth (jF (by rw[hd,g1];simp))];rfl),fun g1=>?_⟩
     have hgx:bL x=true:=by rw[hd,bN,g1];rfl
     refine⟨fun g2=>?_,fun g2=>?_⟩
     ·have bp:¬ u.path=cI:=fun e=>by rw[e]at g2;exact absurd g2 (by decide)
      (refine aa pe ?_;simp only[ae,↓Xn,↓Xo,↓Xg,↓Xd,↓Xe,↓Xf,Tryz.VΓ,Tryz.Γs,Xp,Xi,Nat.reduceAdd,Nat.reduceSub,Nat.reduceLT,Nat.reduceLeDiff,reduceIte,reduceCtorEq,Nat.reduceEqDiff,implies_true,forall_const,ad,h1,h2,h3,h5,rI,rH,qw,oU,im,mI,h7,h8,jG])
      have hle:(bh u++if u.path=cI then [] else(L.take k).flatMap bu).length≤100000:=by
       rw[if_neg bp,zLL];omega
      refine⟨by omega,by omega,⟨by omega,by omega⟩,kW _ _ hgx ?_ rfl⟩
      rw[if_neg bp,if_neg bp,BE,uL,List.append_assoc]
     ·have he:u.path=cI:=by simpa[cI] using g2
      refine⟨⟨by omega,by omega⟩,?_⟩
      have:=kW (bh u++if u.path=cI then [] else(L.take k).flatMap bu) ((58,.int .i64 ((k:Int)+1))::t) hgx (by rw[if_pos he,if_pos he]) rfl
      refine⟨?_,?_⟩
      ·obtain⟨⟨m,q1,q2,q3,q4⟩,-⟩:=this
       exact⟨m,q1,q2,q3,q4⟩
      ·rw[az (k:=.i64) (n:=(k:Int)+1) rfl];omega
   ·have jk:k=L.length:=by omega
    subst jk
    rw[zLV]at h5 bN
    have xK:decide ((L.length:Int)<L.length)=false:=by simp
    rw[qz bN]
    have hle:(bh u++if u.path=cI then [] else L.flatMap bu).length≤100000:=by
     rw[zLL];split
     ·simp;omega
     ·omega
    generalize (bh u++if u.path=cI then [] else L.flatMap bu)=S at *
    have pf:=fS ⟨dK,S⟩ (bU S hle)
    unfold fg at pf
    simp only at pf
    have hBl:=(zLK.1 im).1
    have wF:=fun X=>af im [X]
    have wE:∀ X Y,((B++[X]).set 1 Y)[1]? = some Y:=fun X Y=>zLM (by simp;omega)
    simp only[ae,↓Xn,↓Xo,↓Xg,↓Xd,↓Xe,↓Xf,Tryz.VΓ,Tryz.Γs,Xp,Xi,Nat.reduceAdd,Nat.reduceSub,Nat.reduceLT,Nat.reduceLeDiff,reduceIte,reduceCtorEq,Nat.reduceEqDiff,implies_true,forall_const,ad,h1,h2,h3,h5,rI,rH,qw,oU,im,mI,jG,xK,wF,wE,aW,dR]
    (refine aa pf ?_;simp only[ae,↓Xn,↓Xo,↓Xg,↓Xd,↓Xe,↓Xf,Tryz.VΓ,Tryz.Γs,Xp,Xi,Nat.reduceAdd,Nat.reduceSub,Nat.reduceLT,Nat.reduceLeDiff,reduceIte,reduceCtorEq,Nat.reduceEqDiff,implies_true,forall_const,ad,h1,h2,h3,h5,rI,rH,qw,oU,im,mI,jG,xK,wF,wE,aW,dR])
    unfold gQ
    exact⟨fun hl=>(by rw[if_pos (by simp only[decide_eq_true_eq,decide_eq_false_iff_not]at hl;omega)];rfl),fun hl=>(by rw[if_neg (by simp only[decide_eq_true_eq,decide_eq_false_iff_not]at hl;omega)];rfl)⟩
 ·rw[if_neg (by rw[hq];simp),if_pos hf];rfl
 ·rw[if_pos hq];rfl
theorem sO (d:fN)(h:eH d):PC Tryz.V 79 [fg d] (.eR [fg (eG d).1,.int .i64 (eG d).2]):=by
 have pt:=AO d h
 have uP:=tH d
 unfold eG
 generalize eK d=X at pt uP ⊢
 obtain⟨u,e⟩:=X
 simp only at pt uP ⊢
 refine aQ 3000 Tryz.func79 rfl Tryz.ntmps79 Tryz.results79 Tryz.call79 (by simp) (by simp[flat,flat.ai,fg,ey]) (by simp[flat,flat.ai,fg,ey]) ?_
 unfold fg
 unfold fg ey at pt
 simp only[ae,↓Xn,↓Xo,↓Xg,↓Xd,↓Xe,↓Xf,Tryz.VΓ,Tryz.Γs,Xp,Xi,Nat.reduceAdd,Nat.reduceSub,Nat.reduceLT,Nat.reduceLeDiff,reduceIte,reduceCtorEq,Nat.reduceEqDiff,implies_true,forall_const,ad]
 (refine aa pt ?_;simp only[ae,↓Xn,↓Xo,↓Xg,↓Xd,↓Xe,↓Xf,Tryz.VΓ,Tryz.Γs,Xp,Xi,Nat.reduceAdd,Nat.reduceSub,Nat.reduceLT,Nat.reduceLeDiff,reduceIte,reduceCtorEq,Nat.reduceEqDiff,implies_true,forall_const,ad])
 refine⟨fun h1=>(by rw[if_pos (by simpa using h1)];rfl),fun h1=>?_⟩
 rw[if_neg (by simpa using h1)]
 have pf:=wb u (uP (by simpa using h1))
 unfold fg ey at pf
 (refine aa pf ?_;simp only[ae,↓Xn,↓Xo,↓Xg,↓Xd,↓Xe,↓Xf,Tryz.VΓ,Tryz.Γs,Xp,Xi,Nat.reduceAdd,Nat.reduceSub,Nat.reduceLT,Nat.reduceLeDiff,reduceIte,reduceCtorEq,Nat.reduceEqDiff,implies_true,forall_const,ad])
end Go.Proofs.YteipdaijbncgeaaGreatDoor
namespace Wf
open Go Go.RowKit
structure jt where
 kind:Int
 text:Bytes
 host:Bytes
 port:Int
 deriving DecidableEq
def jt.none:jt:=⟨0,[],[],0⟩
def jC (s:Bytes):jt × Int:=if (bM s).2≠0 then(jt.none,(bM s).2) else(⟨1,iL (bM s).1,(bM s).1.host,0⟩,0)
def jB (s:Bytes):jt × Int:=if (bS s).2≠0 then(jt.none,(bS s).2) else(⟨2,nm (bS s).1,(bS s).1.host,0⟩,0)
def kQ (s:Bytes):jt × Int:=if (bG s).2≠0 then(jt.none,(bG s).2) else(⟨3,cB (bG s).1,(bG s).1.host,(bG s).1.port⟩,0)
def qj (c:fN × Int):jt × Int:=if c.2≠0 then(jt.none,c.2) else if (bg c.1).2≠0 then(jt.none,(bg c.1).2) else(⟨4,bA c.1,(bg c.1).1.1,(bg c.1).1.2⟩,0)
def kR (s:Bytes):jt × Int:=if (aY s).2≠0 then(jt.none,(aY s).2) else qj (eG (aY s).1)
def qi:Bytes:=[97,99,99,116]
def rz:Bytes:=[109,97,105,108,116,111]
def uI:Bytes:=[100,105,100]
def nw (sch s:Bytes):jt × Int :=
 if sch=qi then jC s else if sch=rz then jB s else if sch=di then kQ s else if sch=uI then kR s else(jt.none,60)
def bI (s:Bytes):jt × Int :=
 if 4096<s.length then(jt.none,5)
 else if (aG 58 s).2.2=false then(jt.none,60)
 else nw (lower (aG 58 s).1) s
def cR (i:jt):Bool:=decide (bI i.text=(i,0))
end Wf
namespace Go.Proofs.YteipdaijbncgeaaGreatDoor
open Go Vc Go.RowKit Wf
def EU (a:nN):SV:=.agg [.str a.user,.str a.host]
def fK (s:Bytes):Bytes × Bytes × Int :=
 if 4096<s.length then([],[],5) else if s.length<5∨lower (s.take 5)≠mz then([],[],60) else if (aG 64 (s.drop 5)).2.2=false then([],[],6) else((aG 64 (s.drop 5)).1,(aG 64 (s.drop 5)).2.1,0)
theorem wK (s:Bytes):bM s=if (fK s).2.2≠0 then(nN.none,(fK s).2.2) else vB (aX nv (fK s).1) (bB (fK s).2.1):=by
 unfold bM fK qK
 split
 ·simp
 split
 ·simp
 split
 ·simp
 ·simp
theorem C8 (s:Bytes):PC Tryz.V 138 [.str s] (.eR [.str (fK s).1,.str (fK s).2.1,.int .i64 (fK s).2.2]):=by
 have pe:=yL (s.take 5) mz (by simp;omega) (by decide)
 rw[show lower mz=mz by decide]at pe
 refine aQ 3000 Tryz.func138 rfl Tryz.ntmps138 Tryz.results138 Tryz.call138 (by simp) (by simp[flat,flat.ai]) (by simp[flat,flat.ai]) ?_
 simp only[ae,↓Xn,↓Xo,↓Xg,↓Xd,↓Xe,↓Xf,Tryz.VΓ,Tryz.Γs,Xp,Xi,Nat.reduceAdd,Nat.reduceSub,Nat.reduceLT,Nat.reduceLeDiff,reduceIte,reduceCtorEq,Nat.reduceEqDiff,implies_true,forall_const,ad]
 unfold fK
 refine⟨fun h=>?_,fun h=>⟨fun h2=>⟨⟨by omega,(by simp at h2;omega)⟩,?_⟩,fun h2=>?_⟩⟩
 ·have h:4096<s.length:=(by simp at h;omega)
  rw[if_pos h]
 ·have h:¬ 4096<s.length:=(by simp at h;omega)
  have h2:¬ s.length<5:=(by simp at h2;omega)
  rw[if_neg h]
  (refine aa pe ?_;simp only[ae,↓Xn,↓Xo,↓Xg,↓Xd,↓Xe,↓Xf,Tryz.VΓ,Tryz.Γs,Xp,Xi,Nat.reduceAdd,Nat.reduceSub,Nat.reduceLT,Nat.reduceLeDiff,reduceIte,reduceCtorEq,Nat.reduceEqDiff,implies_true,forall_const,ad])
  refine⟨fun h3=>?_,fun h3=>⟨⟨by omega,by omega⟩,?_⟩⟩
  ·rw[if_pos (.inr (by simpa using h3))]
  rw[if_neg (by simp only[not_or];exact⟨h2,by simpa using h3⟩)]
  (refine aa (uf (s.drop 5) 64 (by simp;omega)) ?_;simp only[ae,↓Xn,↓Xo,↓Xg,↓Xd,↓Xe,↓Xf,Tryz.VΓ,Tryz.Γs,Xp,Xi,Nat.reduceAdd,Nat.reduceSub,Nat.reduceLT,Nat.reduceLeDiff,reduceIte,reduceCtorEq,Nat.reduceEqDiff,implies_true,forall_const,ad])
  refine⟨fun h4=>?_,fun h4=>?_⟩
  ·rw[if_pos (by simpa using h4)]
  ·rw[if_neg (by simpa using h4)]
 ·have h:¬ 4096<s.length:=(by simp at h;omega)
  have h2:s.length<5:=(by simp at h2;omega)
  rw[if_neg h,if_pos (.inl h2)]
theorem yJ (s:Bytes):PC Tryz.V 114 [.str s] (.eR [EU (bM s).1,.int .i64 (bM s).2]):=by
 have pc:=C8 s
 rw[wK]
 have hl:(fK s).2.2=0→(fK s).2.1.length≤4096:=fun h=>by
  unfold fK at h ⊢
  split at h
  ·simp at h
  split at h
  ·simp at h
  split at h
  ·simp at h
  ·rename_i h1 h2 h3
   rw[if_neg h1,if_neg h2,if_neg h3]
   have:=eb 64 (s.drop 5)
   simp at this ⊢
   omega
 generalize fK s=x at pc hl ⊢
 obtain⟨u,p,e⟩:=x
 simp only at pc hl ⊢
 refine aQ 3000 Tryz.func114 rfl Tryz.ntmps114 Tryz.results114 Tryz.call114 (by simp) (by simp[flat,flat.ai]) (by simp[flat,flat.ai,EU]) ?_
 simp only[ae,↓Xn,↓Xo,↓Xg,↓Xd,↓Xe,↓Xf,Tryz.VΓ,Tryz.Γs,Xp,Xi,Nat.reduceAdd,Nat.reduceSub,Nat.reduceLT,Nat.reduceLeDiff,reduceIte,reduceCtorEq,Nat.reduceEqDiff,implies_true,forall_const,ad]
 (refine aa (pc) ?_;simp only[ae,↓Xn,↓Xo,↓Xg,↓Xd,↓Xe,↓Xf,Tryz.VΓ,Tryz.Γs,Xp,Xi,Nat.reduceAdd,Nat.reduceSub,Nat.reduceLT,Nat.reduceLeDiff,reduceIte,reduceCtorEq,Nat.reduceEqDiff,implies_true,forall_const,ad])
 refine⟨fun h1=>?_,fun h1=>?_⟩
 ·rw[if_pos (by simpa using h1)];rfl
 rw[if_neg (by simpa using h1)]
 have hp:=hl (by simpa using h1)
 have pn:=iF u nv (by decide)
 generalize aX nv u=n at pn ⊢
 obtain⟨n,e1⟩:=n
 have ph:=so p (by omega)
 generalize bB p=hh at ph ⊢
 obtain⟨hh,e2⟩:=hh
 simp only at pn ph
 unfold vB
 (refine aa (pn) ?_;simp only[ae,↓Xn,↓Xo,↓Xg,↓Xd,↓Xe,↓Xf,Tryz.VΓ,Tryz.Γs,Xp,Xi,Nat.reduceAdd,Nat.reduceSub,Nat.reduceLT,Nat.reduceLeDiff,reduceIte,reduceCtorEq,Nat.reduceEqDiff,implies_true,forall_const,ad])
 refine⟨fun h2=>⟨fun h3=>⟨⟨by omega,?_⟩,fun h4=>?_,fun h4=>?_⟩,fun h3=>?_⟩,fun h2=>?_⟩
 ·cases n with
  | nil=>simp at h3
  | cons c r=>simp only[zLN];omega
 ·cases n with
  | nil=>simp at h3
  | cons c r =>
    have h4:c=37:=by
     rw[← UInt8.toNat_inj]
     have:((c.toNat:Int)==37)=true:=h4
     have:=beq_iff_eq.1 this
     have e:(37:UInt8).toNat=37:=rfl
     omega
    rw[if_pos (.inr (.inr (by rw[h4];rfl)))]
    rfl
 ·cases n with
  | nil=>simp at h3
  | cons c r =>
    have h4:c≠37:=by
     rintro rfl
     have:(((37:UInt8).toNat:Int)==37)=false:=h4
     simp at this
    rw[if_neg (by simp only[not_or];exact⟨by simpa using h2,by simp,by simpa using h4⟩)]
    (refine aa ph ?_;simp only[ae,↓Xn,↓Xo,↓Xg,↓Xd,↓Xe,↓Xf,Tryz.VΓ,Tryz.Γs,Xp,Xi,Nat.reduceAdd,Nat.reduceSub,Nat.reduceLT,Nat.reduceLeDiff,reduceIte,reduceCtorEq,Nat.reduceEqDiff,implies_true,forall_const,ad])
    refine⟨fun h5=>?_,fun h5=>?_⟩
    ·rw[if_pos (by simpa using h5)];rfl
    ·rw[if_neg (by simpa using h5)];rfl
 ·rw[if_pos (.inr (.inl (by simpa using h3)))];rfl
 ·rw[if_pos (.inl (by simpa using h2))];rfl
theorem wj (a:nN)(h:a.user.length≤140737488355328∧a.host.length≤140737488355328):PC Tryz.V 115 [EU a] (.str (iL a)):=by
 refine aQ 3000 Tryz.func115 rfl Tryz.ntmps115 Tryz.results115 Tryz.call115 (by simp) (by simp[flat,flat.ai,EU]) (by simp[flat,flat.ai,EU]) ?_
 unfold EU
 simp only[ae,↓Xn,↓Xo,↓Xg,↓Xd,↓Xe,↓Xf,Tryz.VΓ,Tryz.Γs,Xp,Xi,Nat.reduceAdd,Nat.reduceSub,Nat.reduceLT,Nat.reduceLeDiff,reduceIte,reduceCtorEq,Nat.reduceEqDiff,implies_true,forall_const,ad]
 refine⟨by omega,by omega,by simp only[zLL,zLN,zLU];omega,?_⟩
 simp[iL,mz]
theorem AI (a:nN)(h:a.user.length≤140737488355328∧a.host.length≤140737488355328):PC Tryz.V 49 [EU a] (.str (iL a)):=by
 refine aQ 3000 Tryz.func49 rfl Tryz.ntmps49 Tryz.results49 Tryz.call49 (by simp) (by simp[flat,flat.ai,EU]) (by simp[flat,flat.ai,EU]) ?_
 unfold EU
 simp only[ae,↓Xn,↓Xo,↓Xg,↓Xd,↓Xe,↓Xf,Tryz.VΓ,Tryz.Γs,Xp,Xi,Nat.reduceAdd,Nat.reduceSub,Nat.reduceLT,Nat.reduceLeDiff,reduceIte,reduceCtorEq,Nat.reduceEqDiff,implies_true,forall_const,ad]
 refine⟨by omega,by omega,by simp only[zLL,zLN,zLU];omega,?_⟩
 simp[iL,mz]
theorem CY (s:Bytes):PC Tryz.V 48 [.str s] (.eR [EU (bM s).1,.int .i64 (bM s).2]):=by
 have pe:=oN (s.take 5) mz (by simp;omega) (by decide)
 rw[show lower mz=mz by decide]at pe
 refine aQ 3000 Tryz.func48 rfl Tryz.ntmps48 Tryz.results48 Tryz.call48 (by simp) (by simp[flat,flat.ai]) (by simp[flat,flat.ai,EU]) ?_
 simp only[ae,↓Xn,↓Xo,↓Xg,↓Xd,↓Xe,↓Xf,Tryz.VΓ,Tryz.Γs,Xp,Xi,Nat.reduceAdd,Nat.reduceSub,Nat.reduceLT,Nat.reduceLeDiff,reduceIte,reduceCtorEq,Nat.reduceEqDiff,implies_true,forall_const,ad]
 unfold bM
 refine⟨fun h=>?_,fun h=>⟨fun h2=>⟨⟨by omega,(by simp at h2;omega)⟩,?_⟩,fun h2=>?_⟩⟩
 ·have h:4096<s.length:=(by simp at h;omega)
  rw[if_pos h];rfl
 ·have h:¬ 4096<s.length:=(by simp at h;omega)
  have h2:¬ s.length<5:=(by simp at h2;omega)
  rw[if_neg h]
  (refine aa pe ?_;simp only[ae,↓Xn,↓Xo,↓Xg,↓Xd,↓Xe,↓Xf,Tryz.VΓ,Tryz.Γs,Xp,Xi,Nat.reduceAdd,Nat.reduceSub,Nat.reduceLT,Nat.reduceLeDiff,reduceIte,reduceCtorEq,Nat.reduceEqDiff,implies_true,forall_const,ad,Int.reduceToNat])
  refine⟨fun h3=>?_,fun h3=>⟨⟨by omega,by omega⟩,?_⟩⟩
  ·rw[if_pos (.inr (by simpa using h3))];rfl
  rw[if_neg (by simp only[not_or];exact⟨h2,by simpa using h3⟩)]
  have hS:(s.drop 5).length≤4096:=by simp;omega
  generalize s.drop 5=S at hS ⊢
  have pi:=bk S [64] (by omega) (by decide)
  rw[show (List.contains [64] ·:UInt8→Bool)=(·==64) from by funext c;simp;exact(Bool.beq_eq_decide_eq _ _).symm]at pi
  have fU:=cq (·==64) S
  unfold qK
  (refine aa pi ?_;simp only[ae,↓Xn,↓Xo,↓Xg,↓Xd,↓Xe,↓Xf,Tryz.VΓ,Tryz.Γs,Xp,Xi,Nat.reduceAdd,Nat.reduceSub,Nat.reduceLT,Nat.reduceLeDiff,reduceIte,reduceCtorEq,Nat.reduceEqDiff,implies_true,forall_const,ad])
  refine⟨fun h4=>?_,fun h4=>?_⟩
  ·have h4:=beq_iff_eq.1 h4
   rw[fI (by omega)];rfl
  have h4:pre (·==64) S<S.length:=by
   have:=beq_eq_false_iff_ne.1 h4
   omega
  rw[show aG 64 S=(S.take (pre (·==64) S),S.drop (pre (·==64) S+1),true) from if_pos h4]
  simp only[Bool.true_eq_false,if_false]
  generalize hk:pre (·==64) S=k at *
  have pn:=gJ (S.take k) nv (by decide)
  have ph:=xh (S.drop (k+1)) (by simp;omega)
  generalize aX nv (S.take k)=n at pn ⊢
  obtain⟨n,e1⟩:=n
  generalize bB (S.drop (k+1))=hh at ph ⊢
  obtain⟨hh,e2⟩:=hh
  simp only at pn ph
  unfold vB
  simp only
  refine⟨⟨by omega,by omega⟩,?_⟩
  (refine aa pn ?_;simp only[ae,↓Xn,↓Xo,↓Xg,↓Xd,↓Xe,↓Xf,Tryz.VΓ,Tryz.Γs,Xp,Xi,Nat.reduceAdd,Nat.reduceSub,Nat.reduceLT,Nat.reduceLeDiff,reduceIte,reduceCtorEq,Nat.reduceEqDiff,implies_true,forall_const,ad])
  refine⟨fun h2=>⟨fun h3=>⟨⟨by omega,?_⟩,fun h4=>?_,fun h4=>?_⟩,fun h3=>?_⟩,fun h2=>?_⟩
  ·cases n with
   | nil=>simp at h3
   | cons c r=>simp only[zLN];omega
  ·cases n with
   | nil=>simp at h3
   | cons c r =>
     have h4:c=37:=by
      rw[← UInt8.toNat_inj]
      have:((c.toNat:Int)==37)=true:=h4
      have:=beq_iff_eq.1 this
      have e:(37:UInt8).toNat=37:=rfl
      omega
     rw[if_pos (.inr (.inr (by rw[h4];rfl)))]
     rfl
  ·cases n with
   | nil=>simp at h3
   | cons c r =>
     have h4:c≠37:=by
      rintro rfl
      have:(((37:UInt8).toNat:Int)==37)=false:=h4
      simp at this
     rw[if_neg (by simp only[not_or];exact⟨by simpa using h2,by simp,by simpa using h4⟩)]
     refine⟨⟨by omega,by omega⟩,⟨by omega,by omega⟩,?_⟩
     (refine aa ph ?_;simp only[ae,↓Xn,↓Xo,↓Xg,↓Xd,↓Xe,↓Xf,Tryz.VΓ,Tryz.Γs,Xp,Xi,Nat.reduceAdd,Nat.reduceSub,Nat.reduceLT,Nat.reduceLeDiff,reduceIte,reduceCtorEq,Nat.reduceEqDiff,implies_true,forall_const,ad])
     refine⟨fun h5=>?_,fun h5=>?_⟩
     ·rw[if_pos (by simpa using h5)];rfl
     ·rw[if_neg (by simpa using h5)];rfl
  ·rw[if_pos (.inr (.inl (by simpa using h3)))];rfl
  ·rw[if_pos (.inl (by simpa using h2))];rfl
 ·have h:¬ 4096<s.length:=(by simp at h;omega)
  have h2:s.length<5:=(by simp at h2;omega)
  rw[if_neg h,if_pos (.inl h2)];rfl
def iA (i:jt):SV:=.agg [.int .i64 i.kind,.str i.text,.str i.host,.int .i64 i.port]
theorem El (s:Bytes)(h:(bM s).2=0):(bM s).1.user.length≤140737488355328∧(bM s).1.host.length≤140737488355328:=by
 have h1:=(Ja (s:=s) (a:=(bM s).1) (by rw[← h])).2
 unfold iL at h1
 simp at h1
 omega
theorem Bm (s:Bytes)(h:(bS s).2=0):(bS s).1.loc.length≤300000∧(bS s).1.host.length≤140737488355328:=by
 have h1:=Hl (s:=s) (m:=(bS s).1) (by rw[← h])
 have h2:=A0 h1.loc
 have h3:=(nx h1.host).2.1
 exact⟨by omega,by omega⟩
theorem AT (s:Bytes):PC Tryz.V 86 [.str s] (.eR [iA (jC s).1,.int .i64 (jC s).2]):=by
 have p1:=yJ s
 have p2:=fun h=>wj (bM s).1 (El s h)
 unfold jC
 unfold EU at p1 p2
 (refine aQ 3000 Tryz.func86 rfl Tryz.ntmps86 Tryz.results86 Tryz.call86 (by simp) (by simp[flat,flat.ai,iA]) (by simp[flat,flat.ai,iA]) ?_)
 unfold iA
 simp only[ae,↓Xn,↓Xo,↓Xg,↓Xd,↓Xe,↓Xf,Tryz.VΓ,Tryz.Γs,Xp,Xi,Nat.reduceAdd,Nat.reduceSub,Nat.reduceLT,Nat.reduceLeDiff,reduceIte,reduceCtorEq,Nat.reduceEqDiff,implies_true,forall_const,ad,beq_self_eq_true,bne_self_eq_false,Int.reduceBEq,Int.reduceBNe,Int.reduceLT,Int.reduceLE]
 (refine aa p1 ?_;simp only[ae,↓Xn,↓Xo,↓Xg,↓Xd,↓Xe,↓Xf,Tryz.VΓ,Tryz.Γs,Xp,Xi,Nat.reduceAdd,Nat.reduceSub,Nat.reduceLT,Nat.reduceLeDiff,reduceIte,reduceCtorEq,Nat.reduceEqDiff,implies_true,forall_const,ad,beq_self_eq_true,bne_self_eq_false,Int.reduceBEq,Int.reduceBNe,Int.reduceLT,Int.reduceLE])
 refine⟨fun h=>?_,fun h=>?_⟩
 ·have h:(bM s).2≠0:=by simpa using h
  simp[h,jt.none]
 ·have h:(bM s).2=0:=by simpa using h
  (refine aR (p2 h) ?_;simp only[ae,↓Xn,↓Xo,↓Xg,↓Xd,↓Xe,↓Xf,Tryz.VΓ,Tryz.Γs,Xp,Xi,Nat.reduceAdd,Nat.reduceSub,Nat.reduceLT,Nat.reduceLeDiff,reduceIte,reduceCtorEq,Nat.reduceEqDiff,implies_true,forall_const,ad,beq_self_eq_true,bne_self_eq_false,Int.reduceBEq,Int.reduceBNe,Int.reduceLT,Int.reduceLE])
  simp only[h]
  exact⟨(aj (by kernel_rfl)),by simp⟩
theorem AR (s:Bytes):PC Tryz.V 87 [.str s] (.eR [iA (jB s).1,.int .i64 (jB s).2]):=by
 have p1:=yG s
 have p2:=fun h=>we (bS s).1 (Bm s h)
 unfold jB
 unfold Ef at p1 p2
 (refine aQ 3000 Tryz.func87 rfl Tryz.ntmps87 Tryz.results87 Tryz.call87 (by simp) (by simp[flat,flat.ai,iA]) (by simp[flat,flat.ai,iA]) ?_)
 unfold iA
 simp only[ae,↓Xn,↓Xo,↓Xg,↓Xd,↓Xe,↓Xf,Tryz.VΓ,Tryz.Γs,Xp,Xi,Nat.reduceAdd,Nat.reduceSub,Nat.reduceLT,Nat.reduceLeDiff,reduceIte,reduceCtorEq,Nat.reduceEqDiff,implies_true,forall_const,ad,beq_self_eq_true,bne_self_eq_false,Int.reduceBEq,Int.reduceBNe,Int.reduceLT,Int.reduceLE]
 (refine aa p1 ?_;simp only[ae,↓Xn,↓Xo,↓Xg,↓Xd,↓Xe,↓Xf,Tryz.VΓ,Tryz.Γs,Xp,Xi,Nat.reduceAdd,Nat.reduceSub,Nat.reduceLT,Nat.reduceLeDiff,reduceIte,reduceCtorEq,Nat.reduceEqDiff,implies_true,forall_const,ad,beq_self_eq_true,bne_self_eq_false,Int.reduceBEq,Int.reduceBNe,Int.reduceLT,Int.reduceLE])
 refine⟨fun h=>?_,fun h=>?_⟩
 ·have h:(bS s).2≠0:=by simpa using h
  simp[h,jt.none]
 ·have h:(bS s).2=0:=by simpa using h
  (refine aR (p2 h) ?_;simp only[ae,↓Xn,↓Xo,↓Xg,↓Xd,↓Xe,↓Xf,Tryz.VΓ,Tryz.Γs,Xp,Xi,Nat.reduceAdd,Nat.reduceSub,Nat.reduceLT,Nat.reduceLeDiff,reduceIte,reduceCtorEq,Nat.reduceEqDiff,implies_true,forall_const,ad,beq_self_eq_true,bne_self_eq_false,Int.reduceBEq,Int.reduceBNe,Int.reduceLT,Int.reduceLE])
  simp only[h]
  exact⟨(aj (by kernel_rfl)),by simp⟩
theorem C4 (s:Bytes):PC Tryz.V 88 [.str s] (.eR [iA (kQ s).1,.int .i64 (kQ s).2]):=by
 have p1:=sh s
 have p2:=fun h=>gI (bG s).1 (vu (ma (s:=s) (u:=(bG s).1) (by rw[← (show (bG s).2=0 from h)])))
 unfold kQ
 unfold ey at p1 p2
 (refine aQ 3000 Tryz.func88 rfl Tryz.ntmps88 Tryz.results88 Tryz.call88 (by simp) (by simp[flat,flat.ai,iA]) (by simp[flat,flat.ai,iA]) ?_)
 unfold iA
 simp only[ae,↓Xn,↓Xo,↓Xg,↓Xd,↓Xe,↓Xf,Tryz.VΓ,Tryz.Γs,Xp,Xi,Nat.reduceAdd,Nat.reduceSub,Nat.reduceLT,Nat.reduceLeDiff,reduceIte,reduceCtorEq,Nat.reduceEqDiff,implies_true,forall_const,ad,beq_self_eq_true,bne_self_eq_false,Int.reduceBEq,Int.reduceBNe,Int.reduceLT,Int.reduceLE]
 (refine aa p1 ?_;simp only[ae,↓Xn,↓Xo,↓Xg,↓Xd,↓Xe,↓Xf,Tryz.VΓ,Tryz.Γs,Xp,Xi,Nat.reduceAdd,Nat.reduceSub,Nat.reduceLT,Nat.reduceLeDiff,reduceIte,reduceCtorEq,Nat.reduceEqDiff,implies_true,forall_const,ad,beq_self_eq_true,bne_self_eq_false,Int.reduceBEq,Int.reduceBNe,Int.reduceLT,Int.reduceLE])
 refine⟨fun h=>?_,fun h=>?_⟩
 ·have h:(bG s).2≠0:=by simpa using h
  simp[h,jt.none]
 ·have h:(bG s).2=0:=by simpa using h
  (refine aR (p2 h) ?_;simp only[ae,↓Xn,↓Xo,↓Xg,↓Xd,↓Xe,↓Xf,Tryz.VΓ,Tryz.Γs,Xp,Xi,Nat.reduceAdd,Nat.reduceSub,Nat.reduceLT,Nat.reduceLeDiff,reduceIte,reduceCtorEq,Nat.reduceEqDiff,implies_true,forall_const,ad,beq_self_eq_true,bne_self_eq_false,Int.reduceBEq,Int.reduceBNe,Int.reduceLT,Int.reduceLE])
  simp only[h]
  exact⟨(aj (by kernel_rfl)),by simp⟩
theorem Fp (s:Bytes):PC Tryz.V 52 [.str s] (.eR [iA (kQ s).1,.int .i64 (kQ s).2]):=by
 have p1:=tY s
 have p2:=fun h=>jW (bG s).1 (vu (ma (s:=s) (u:=(bG s).1) (by rw[← (show (bG s).2=0 from h)])))
 unfold kQ
 unfold ey at p1 p2
 (refine aQ 3000 Tryz.func52 rfl Tryz.ntmps52 Tryz.results52 Tryz.call52 (by simp) (by simp[flat,flat.ai,iA]) (by simp[flat,flat.ai,iA]) ?_)
 unfold iA
 simp only[ae,↓Xn,↓Xo,↓Xg,↓Xd,↓Xe,↓Xf,Tryz.VΓ,Tryz.Γs,Xp,Xi,Nat.reduceAdd,Nat.reduceSub,Nat.reduceLT,Nat.reduceLeDiff,reduceIte,reduceCtorEq,Nat.reduceEqDiff,implies_true,forall_const,ad,beq_self_eq_true,bne_self_eq_false,Int.reduceBEq,Int.reduceBNe,Int.reduceLT,Int.reduceLE]
 (refine aa p1 ?_;simp only[ae,↓Xn,↓Xo,↓Xg,↓Xd,↓Xe,↓Xf,Tryz.VΓ,Tryz.Γs,Xp,Xi,Nat.reduceAdd,Nat.reduceSub,Nat.reduceLT,Nat.reduceLeDiff,reduceIte,reduceCtorEq,Nat.reduceEqDiff,implies_true,forall_const,ad,beq_self_eq_true,bne_self_eq_false,Int.reduceBEq,Int.reduceBNe,Int.reduceLT,Int.reduceLE])
 refine⟨fun h=>?_,fun h=>?_⟩
 ·have h:(bG s).2≠0:=by simpa using h
  simp[h,jt.none]
 ·have h:(bG s).2=0:=by simpa using h
  (refine aR (p2 h) ?_;simp only[ae,↓Xn,↓Xo,↓Xg,↓Xd,↓Xe,↓Xf,Tryz.VΓ,Tryz.Γs,Xp,Xi,Nat.reduceAdd,Nat.reduceSub,Nat.reduceLT,Nat.reduceLeDiff,reduceIte,reduceCtorEq,Nat.reduceEqDiff,implies_true,forall_const,ad,beq_self_eq_true,bne_self_eq_false,Int.reduceBEq,Int.reduceBNe,Int.reduceLT,Int.reduceLE])
  simp only[h]
  exact⟨(aj (by kernel_rfl)),by simp⟩
theorem Bn (s:Bytes):eH (aY s).1:=by
 by_cases h:(aY s).2=0
 ·have h1:=EM (s:=s) (d:=(aY s).1) (by rw[← h])
  have h2:=sF (aY s).1
  exact⟨by omega,by omega⟩
 ·rw[zi s h];exact⟨by decide,by decide⟩
theorem qh {d c:fN}(h:eG d=(c,0)):eH c:=by
 obtain⟨u,h1,h2,h3,h4,h5,h6,h7,h8⟩:=oC h
 have h9:=EM h6
 have fm:=sF c
 exact⟨by omega,by omega⟩
theorem Em {d c:fN}(h:eG d=(c,0)):(bg c).2=0:=by
 obtain⟨u,h1,h2,h3,h4,h5,h6,h7,h8⟩:=oC h
 rw[h5]
theorem C5 (s:Bytes):PC Tryz.V 89 [.str s] (.eR [iA (kR s).1,.int .i64 (kR s).2]):=by
 have p1:=ng s
 have p2:=sL (aY s).1 (Bn s)
 unfold kR
 unfold fg at p1 p2
 (refine aQ 3000 Tryz.func89 rfl Tryz.ntmps89 Tryz.results89 Tryz.call89 (by simp) (by simp[flat,flat.ai,iA]) (by simp[flat,flat.ai,iA]) ?_)
 unfold iA
 simp only[ae,↓Xn,↓Xo,↓Xg,↓Xd,↓Xe,↓Xf,Tryz.VΓ,Tryz.Γs,Xp,Xi,Nat.reduceAdd,Nat.reduceSub,Nat.reduceLT,Nat.reduceLeDiff,reduceIte,reduceCtorEq,Nat.reduceEqDiff,implies_true,forall_const,ad,beq_self_eq_true,bne_self_eq_false,Int.reduceBEq,Int.reduceBNe,Int.reduceLT,Int.reduceLE]
 (refine aa p1 ?_;simp only[ae,↓Xn,↓Xo,↓Xg,↓Xd,↓Xe,↓Xf,Tryz.VΓ,Tryz.Γs,Xp,Xi,Nat.reduceAdd,Nat.reduceSub,Nat.reduceLT,Nat.reduceLeDiff,reduceIte,reduceCtorEq,Nat.reduceEqDiff,implies_true,forall_const,ad,beq_self_eq_true,bne_self_eq_false,Int.reduceBEq,Int.reduceBNe,Int.reduceLT,Int.reduceLE])
 refine⟨fun h=>?_,fun h=>?_⟩
 ·have h:(aY s).2≠0:=by simpa using h
  simp[h,jt.none]
 have h:(aY s).2=0:=by simpa using h
 simp only[h,ne_eq,not_true_eq_false,if_false]
 generalize hz:eG (aY s).1=z at p2
 obtain⟨c,e⟩:=z
 simp only at p2
 (refine aa p2 ?_;simp only[ae,↓Xn,↓Xo,↓Xg,↓Xd,↓Xe,↓Xf,Tryz.VΓ,Tryz.Γs,Xp,Xi,Nat.reduceAdd,Nat.reduceSub,Nat.reduceLT,Nat.reduceLeDiff,reduceIte,reduceCtorEq,Nat.reduceEqDiff,implies_true,forall_const,ad,beq_self_eq_true,bne_self_eq_false,Int.reduceBEq,Int.reduceBNe,Int.reduceLT,Int.reduceLE])
 refine⟨fun h=>?_,fun h=>?_⟩
 ·have h:e≠0:=by simpa using h
  simp[qj,h,jt.none]
 obtain rfl:e=0:=by simpa using h
 have p3:=ml c (qh hz)
 have p4:=dB c (qh hz)
 unfold fg at p3 p4
 have ha:=Em hz
 rw[ha]at p3
 (refine aa (p3) ?_;simp only[ae,↓Xn,↓Xo,↓Xg,↓Xd,↓Xe,↓Xf,Tryz.VΓ,Tryz.Γs,Xp,Xi,Nat.reduceAdd,Nat.reduceSub,Nat.reduceLT,Nat.reduceLeDiff,reduceIte,reduceCtorEq,Nat.reduceEqDiff,implies_true,forall_const,ad,beq_self_eq_true,bne_self_eq_false,Int.reduceBEq,Int.reduceBNe,Int.reduceLT,Int.reduceLE])
 (refine aR (p4) ?_;simp only[ae,↓Xn,↓Xo,↓Xg,↓Xd,↓Xe,↓Xf,Tryz.VΓ,Tryz.Γs,Xp,Xi,Nat.reduceAdd,Nat.reduceSub,Nat.reduceLT,Nat.reduceLeDiff,reduceIte,reduceCtorEq,Nat.reduceEqDiff,implies_true,forall_const,ad,beq_self_eq_true,bne_self_eq_false,Int.reduceBEq,Int.reduceBNe,Int.reduceLT,Int.reduceLE])
 exact⟨(aj (by kernel_rfl)),by simp[qj,ha]⟩
theorem sN (s:Bytes):PC Tryz.V 53 [.str s] (.eR [iA (kR s).1,.int .i64 (kR s).2]):=by
 have p1:=nf s
 have p2:=sO (aY s).1 (Bn s)
 unfold kR
 unfold fg at p1 p2
 (refine aQ 3000 Tryz.func53 rfl Tryz.ntmps53 Tryz.results53 Tryz.call53 (by simp) (by simp[flat,flat.ai,iA]) (by simp[flat,flat.ai,iA]) ?_)
 unfold iA
 simp only[ae,↓Xn,↓Xo,↓Xg,↓Xd,↓Xe,↓Xf,Tryz.VΓ,Tryz.Γs,Xp,Xi,Nat.reduceAdd,Nat.reduceSub,Nat.reduceLT,Nat.reduceLeDiff,reduceIte,reduceCtorEq,Nat.reduceEqDiff,implies_true,forall_const,ad,beq_self_eq_true,bne_self_eq_false,Int.reduceBEq,Int.reduceBNe,Int.reduceLT,Int.reduceLE]
 (refine aa p1 ?_;simp only[ae,↓Xn,↓Xo,↓Xg,↓Xd,↓Xe,↓Xf,Tryz.VΓ,Tryz.Γs,Xp,Xi,Nat.reduceAdd,Nat.reduceSub,Nat.reduceLT,Nat.reduceLeDiff,reduceIte,reduceCtorEq,Nat.reduceEqDiff,implies_true,forall_const,ad,beq_self_eq_true,bne_self_eq_false,Int.reduceBEq,Int.reduceBNe,Int.reduceLT,Int.reduceLE])
 refine⟨fun h=>?_,fun h=>?_⟩
 ·have h:(aY s).2≠0:=by simpa using h
  simp[h,jt.none]
 have h:(aY s).2=0:=by simpa using h
 simp only[h,ne_eq,not_true_eq_false,if_false]
 generalize hz:eG (aY s).1=z at p2
 obtain⟨c,e⟩:=z
 simp only at p2
 (refine aa p2 ?_;simp only[ae,↓Xn,↓Xo,↓Xg,↓Xd,↓Xe,↓Xf,Tryz.VΓ,Tryz.Γs,Xp,Xi,Nat.reduceAdd,Nat.reduceSub,Nat.reduceLT,Nat.reduceLeDiff,reduceIte,reduceCtorEq,Nat.reduceEqDiff,implies_true,forall_const,ad,beq_self_eq_true,bne_self_eq_false,Int.reduceBEq,Int.reduceBNe,Int.reduceLT,Int.reduceLE])
 refine⟨fun h=>?_,fun h=>?_⟩
 ·have h:e≠0:=by simpa using h
  simp[qj,h,jt.none]
 obtain rfl:e=0:=by simpa using h
 have p3:=sP c (qh hz)
 have p4:=fS c (qh hz)
 unfold fg at p3 p4
 have ha:=Em hz
 rw[ha]at p3
 (refine aa (p3) ?_;simp only[ae,↓Xn,↓Xo,↓Xg,↓Xd,↓Xe,↓Xf,Tryz.VΓ,Tryz.Γs,Xp,Xi,Nat.reduceAdd,Nat.reduceSub,Nat.reduceLT,Nat.reduceLeDiff,reduceIte,reduceCtorEq,Nat.reduceEqDiff,implies_true,forall_const,ad,beq_self_eq_true,bne_self_eq_false,Int.reduceBEq,Int.reduceBNe,Int.reduceLT,Int.reduceLE])
 (refine aR (p4) ?_;simp only[ae,↓Xn,↓Xo,↓Xg,↓Xd,↓Xe,↓Xf,Tryz.VΓ,Tryz.Γs,Xp,Xi,Nat.reduceAdd,Nat.reduceSub,Nat.reduceLT,Nat.reduceLeDiff,reduceIte,reduceCtorEq,Nat.reduceEqDiff,implies_true,forall_const,ad,beq_self_eq_true,bne_self_eq_false,Int.reduceBEq,Int.reduceBNe,Int.reduceLT,Int.reduceLE])
 exact⟨(aj (by kernel_rfl)),by simp[qj,ha]⟩
theorem HM (a b:jt):(a.kind==b.kind&&(a.text==b.text&&(a.host==b.host&&a.port==b.port)))=decide (a=b):=by
 obtain⟨a1,a2,a3,a4⟩:=a
 obtain⟨b1,b2,b3,b4⟩:=b
 rw[Bool.eq_iff_iff]
 simp
theorem C6 (hp:∀ s,PC Tryz.V 44 [.str s] (.eR [iA (bI s).1,.int .i64 (bI s).2]))(i:jt):PC Tryz.V 28 [iA i] (.bool (cR i)):=by
 have p1:=hp i.text
 unfold iA at p1
 (refine aQ 3000 Tryz.func28 rfl Tryz.ntmps28 Tryz.results28 Tryz.call28 (by simp) (by simp[flat,flat.ai,iA]) (by simp[flat,flat.ai,iA]) ?_)
 unfold iA
 simp only[ae,↓Xn,↓Xo,↓Xg,↓Xd,↓Xe,↓Xf,Tryz.VΓ,Tryz.Γs,Xp,Xi,Nat.reduceAdd,Nat.reduceSub,Nat.reduceLT,Nat.reduceLeDiff,reduceIte,reduceCtorEq,Nat.reduceEqDiff,implies_true,forall_const,ad]
 (refine aa p1 ?_;simp only[ae,↓Xn,↓Xo,↓Xg,↓Xd,↓Xe,↓Xf,Tryz.VΓ,Tryz.Γs,Xp,Xi,Nat.reduceAdd,Nat.reduceSub,Nat.reduceLT,Nat.reduceLeDiff,reduceIte,reduceCtorEq,Nat.reduceEqDiff,implies_true,forall_const,ad,HM])
 unfold cR
 refine⟨fun h=>?_,fun h=>?_⟩
 ·have h:(bI i.text).2=0:=by simpa using h
  simp[Prod.ext_iff,h]
 ·have h:¬ (bI i.text).2=0:=by simpa using h
  simp[Prod.ext_iff,h]
theorem AN (hp:∀ s,PC Tryz.V 32 [.str s] (.eR [iA (bI s).1,.int .i64 (bI s).2]))(i:jt):PC Tryz.V 45 [iA i] (.bool (cR i)):=by
 have p1:=hp i.text
 unfold iA at p1
 (refine aQ 3000 Tryz.func45 rfl Tryz.ntmps45 Tryz.results45 Tryz.call45 (by simp) (by simp[flat,flat.ai,iA]) (by simp[flat,flat.ai,iA]) ?_)
 unfold iA
 simp only[ae,↓Xn,↓Xo,↓Xg,↓Xd,↓Xe,↓Xf,Tryz.VΓ,Tryz.Γs,Xp,Xi,Nat.reduceAdd,Nat.reduceSub,Nat.reduceLT,Nat.reduceLeDiff,reduceIte,reduceCtorEq,Nat.reduceEqDiff,implies_true,forall_const,ad]
 (refine aa p1 ?_;simp only[ae,↓Xn,↓Xo,↓Xg,↓Xd,↓Xe,↓Xf,Tryz.VΓ,Tryz.Γs,Xp,Xi,Nat.reduceAdd,Nat.reduceSub,Nat.reduceLT,Nat.reduceLeDiff,reduceIte,reduceCtorEq,Nat.reduceEqDiff,implies_true,forall_const,ad,HM])
 unfold cR
 refine⟨fun h=>?_,fun h=>?_⟩
 ·have h:(bI i.text).2=0:=by simpa using h
  simp[Prod.ext_iff,h]
 ·have h:¬ (bI i.text).2=0:=by simpa using h
  simp[Prod.ext_iff,h]
theorem sk (s:Bytes):PC Tryz.V 32 [.str s] (.eR [iA (bI s).1,.int .i64 (bI s).2]):=by
 (refine aQ 3000 Tryz.func32 rfl Tryz.ntmps32 Tryz.results32 Tryz.call32 (by simp) (by simp[flat,flat.ai,iA]) (by simp[flat,flat.ai,iA]) ?_)
 unfold iA
 simp only[ae,↓Xn,↓Xo,↓Xg,↓Xd,↓Xe,↓Xf,Tryz.VΓ,Tryz.Γs,Xp,Xi,Nat.reduceAdd,Nat.reduceSub,Nat.reduceLT,Nat.reduceLeDiff,reduceIte,reduceCtorEq,Nat.reduceEqDiff,implies_true,forall_const,ad]
 refine⟨fun h=>?_,fun h=>?_⟩
 ·have h:4096<s.length:=by simp at h;omega
  simp[bI,h,jt.none]
 have h:s.length≤4096:=by simp at h;omega
 have h0:¬ 4096<s.length:=by omega
 have eh:pre (fun x=>[58].contains x) s=pre (·==58) s:=by congr 1;funext x;simp only[List.contains_cons,List.contains_nil,Bool.or_false]
 (refine aa (bk s [58] (by omega) (by decide)) ?_;simp only[ae,↓Xn,↓Xo,↓Xg,↓Xd,↓Xe,↓Xf,Tryz.VΓ,Tryz.Γs,Xp,Xi,Nat.reduceAdd,Nat.reduceSub,Nat.reduceLT,Nat.reduceLeDiff,reduceIte,reduceCtorEq,Nat.reduceEqDiff,implies_true,forall_const,ad])
 rw[eh]
 have hle:=cq (·==(58:UInt8)) s
 refine⟨fun h1=>?_,fun h1=>⟨⟨by omega,by omega⟩,?_⟩⟩
 ·have h1:pre (·==58) s=s.length:=by simp at h1;omega
  simp[bI,h0,aG,h1,jt.none]
 have h1:¬ pre (·==58) s=s.length:=by simp at h1;omega
 have hid:bI s=nw (lower (s.take (pre (·==58) s))) s:=by
  unfold bI aG
  rw[if_neg h0,if_pos (show pre (·==58) s<s.length by omega)]
  rfl
 rw[hid]
 (refine aa (oM (s.take (pre (·==58) s)) (by simp;omega)) ?_;simp only[ae,↓Xn,↓Xo,↓Xg,↓Xd,↓Xe,↓Xf,Tryz.VΓ,Tryz.Γs,Xp,Xi,Nat.reduceAdd,Nat.reduceSub,Nat.reduceLT,Nat.reduceLeDiff,reduceIte,reduceCtorEq,Nat.reduceEqDiff,implies_true,forall_const,ad])
 generalize lower (s.take (pre (·==58) s))=sch
 clear hid h1 hle eh
 refine⟨fun k1=>?_,fun k1=>⟨fun k2=>?_,fun k2=>⟨fun k3=>?_,fun k3=>⟨fun k4=>?_,fun k4=>?_⟩⟩⟩⟩
 ·rw[show nw sch s=jC s by simp at k1;simp[nw,qi,k1]]
  have p1:=CY s
  have p2:=fun h=>AI (bM s).1 (El s h)
  unfold jC
  unfold EU at p1 p2
  (refine aa p1 ?_;simp only[ae,↓Xn,↓Xo,↓Xg,↓Xd,↓Xe,↓Xf,Tryz.VΓ,Tryz.Γs,Xp,Xi,Nat.reduceAdd,Nat.reduceSub,Nat.reduceLT,Nat.reduceLeDiff,reduceIte,reduceCtorEq,Nat.reduceEqDiff,implies_true,forall_const,ad,beq_self_eq_true,bne_self_eq_false,Int.reduceBEq,Int.reduceBNe,Int.reduceLT,Int.reduceLE])
  refine⟨fun h=>?_,fun h=>?_⟩
  ·have h:(bM s).2≠0:=by simpa using h
   simp[h,jt.none]
  ·have h:(bM s).2=0:=by simpa using h
   (refine aR (p2 h) ?_;simp only[ae,↓Xn,↓Xo,↓Xg,↓Xd,↓Xe,↓Xf,Tryz.VΓ,Tryz.Γs,Xp,Xi,Nat.reduceAdd,Nat.reduceSub,Nat.reduceLT,Nat.reduceLeDiff,reduceIte,reduceCtorEq,Nat.reduceEqDiff,implies_true,forall_const,ad,beq_self_eq_true,bne_self_eq_false,Int.reduceBEq,Int.reduceBNe,Int.reduceLT,Int.reduceLE])
   simp only[h]
   exact⟨(aj (by kernel_rfl)),by simp⟩
 ·rw[show nw sch s=jB s by simp at k1 k2;simp[nw,qi,rz,k2]]
  have p1:=CW s
  have p2:=fun h=>AH (bS s).1 (Bm s h)
  unfold jB
  unfold Ef at p1 p2
  (refine aa p1 ?_;simp only[ae,↓Xn,↓Xo,↓Xg,↓Xd,↓Xe,↓Xf,Tryz.VΓ,Tryz.Γs,Xp,Xi,Nat.reduceAdd,Nat.reduceSub,Nat.reduceLT,Nat.reduceLeDiff,reduceIte,reduceCtorEq,Nat.reduceEqDiff,implies_true,forall_const,ad,beq_self_eq_true,bne_self_eq_false,Int.reduceBEq,Int.reduceBNe,Int.reduceLT,Int.reduceLE])
  refine⟨fun h=>?_,fun h=>?_⟩
  ·have h:(bS s).2≠0:=by simpa using h
   simp[h,jt.none]
  ·have h:(bS s).2=0:=by simpa using h
   (refine aR (p2 h) ?_;simp only[ae,↓Xn,↓Xo,↓Xg,↓Xd,↓Xe,↓Xf,Tryz.VΓ,Tryz.Γs,Xp,Xi,Nat.reduceAdd,Nat.reduceSub,Nat.reduceLT,Nat.reduceLeDiff,reduceIte,reduceCtorEq,Nat.reduceEqDiff,implies_true,forall_const,ad,beq_self_eq_true,bne_self_eq_false,Int.reduceBEq,Int.reduceBNe,Int.reduceLT,Int.reduceLE])
   simp only[h]
   exact⟨(aj (by kernel_rfl)),by simp⟩
 ·rw[show nw sch s=kQ s by simp at k1 k2 k3;simp[nw,qi,rz,di,k3]]
  have p1:=Fp s
  unfold iA at p1
  (refine aa p1 ?_;simp only[ae,↓Xn,↓Xo,↓Xg,↓Xd,↓Xe,↓Xf,Tryz.VΓ,Tryz.Γs,Xp,Xi,Nat.reduceAdd,Nat.reduceSub,Nat.reduceLT,Nat.reduceLeDiff,reduceIte,reduceCtorEq,Nat.reduceEqDiff,implies_true,forall_const,ad,beq_self_eq_true,bne_self_eq_false,Int.reduceBEq,Int.reduceBNe,Int.reduceLT,Int.reduceLE])
  try done
 ·rw[show nw sch s=kR s by simp at k1 k2 k3 k4;simp[nw,qi,rz,uI,di,k4]]
  have p1:=sN s
  unfold iA at p1
  (refine aa p1 ?_;simp only[ae,↓Xn,↓Xo,↓Xg,↓Xd,↓Xe,↓Xf,Tryz.VΓ,Tryz.Γs,Xp,Xi,Nat.reduceAdd,Nat.reduceSub,Nat.reduceLT,Nat.reduceLeDiff,reduceIte,reduceCtorEq,Nat.reduceEqDiff,implies_true,forall_const,ad,beq_self_eq_true,bne_self_eq_false,Int.reduceBEq,Int.reduceBNe,Int.reduceLT,Int.reduceLE])
  try done
 ·rw[show nw sch s=(jt.none,60) by simp at k1 k2 k3 k4;simp[nw,qi,rz,uI,di,k1,k2,k3,k4]]
  rfl
open Go Go.RowKit Go.Sort Wf
attribute [local go_sem] fH eP get_list
def idEs:Array MapEntry:=#[{ key:=.string ⟨#[97,99,99,116]⟩,val:=.func (.func 86) #[] #[],born:=0 },{ key:=.string ⟨#[109,97,105,108,116,111]⟩,val:=.func (.func 87) #[] #[],born:=1 },{ key:=.string ⟨#[104,116,116,112,115]⟩,val:=.func (.func 88) #[] #[],born:=2 },{ key:=.string ⟨#[100,105,100]⟩,val:=.func (.func 89) #[] #[],born:=3 }]
theorem run_upd {P:Program}{t kt et:TypeId}{w:World}{es:Array MapEntry}{c b:Nat}{k:ByteArray}{v:Value}(ht:P.underlying t=some (.map kt et))(hk:P.underlying kt=some .string)(hb:w.heap[b]? = some (.map es c))(h:Instr.findNow .string (.string k) es.toList 0=some none) :
 (Instr.mapUpdate t (.map (some b)) (.string k) v).run P w=.ok () { w with heap:=w.heap.setIfInBounds b (.map (es.push { key:=.string k,val:=v,born:=c }) (c+1)) }:=by
 have hc:(Instr.checkKey false 10000 kt (.string k)).run P w=.ok () w:=MapKept.run_checkKey (k:=.string k) hk (by simp[MapKept.IsKey]) false 9999
 simp[Instr.mapUpdate,run_underlying ht,MapKept.run_getObj_map hb,hc,MapKept.run_findKey hk h,MapKept.run_setObj_map _ hb,Result.andThen]
theorem jT {P:Program}{t kt et:TypeId}(w:World)(es:Array MapEntry)(c:Nat)(k:ByteArray)(v:Value)(ht:P.underlying t=some (.map kt et))(hk:P.underlying kt=some .string)(h:Instr.findNow .string (.string k) es.toList 0=some none) :
 (Instr.mapUpdate t (.map (some w.heap.size)) (.string k) v).run P (w.alloc (.map es c))=.ok () (w.alloc (.map (es.push { key:=.string k,val:=v,born:=c }) (c+1))):=by
 have h1:(w.alloc (.map es c)).heap=w.heap.push (.map es c):=rfl
 rw[run_upd ht hk (w:=w.alloc (.map es c)) (es:=es) (c:=c) (by rw[h1];simp) h,h1]
 have h2:(w.heap.push (.map es c)).setIfInBounds w.heap.size (.map (es.push { key:=.string k,val:=v,born:=c }) (c+1))=w.heap.push (.map (es.push { key:=.string k,val:=v,born:=c }) (c+1)):=by
  apply Array.toList_inj.1
  simp
 rw[h2]
 rfl
def sr (z:Value):Option (Nat × Value)→Value
 | some p=>p.2
 | none=>z
theorem GW {P:Program}{t kt et:TypeId}{w:World}{es:Array MapEntry}{c b:Nat}{k:ByteArray}{r:Option (Nat × Value)}{z:Value}(ht:P.underlying t=some (.map kt et))(hk:P.underlying kt=some .string)(hb:w.heap[b]? = some (.map es c))(h:Instr.findNow .string (.string k) es.toList 0=some r)(hz:(zeroValue et).run P w=.ok z w) :
 (Instr.lookup t (.map (some b)) (.string k) false).run P w=.ok (sr z r) w:=by
 have hc:∀ e,(Instr.checkKey e 10000 kt (.string k)).run P w=.ok () w:=fun e=>MapKept.run_checkKey (k:=.string k) hk (by simp[MapKept.IsKey]) e 9999
 cases r with
 | none=>simp[Instr.lookup,run_underlying ht,MapKept.run_getObj_map hb,hc,MapKept.run_findKey hk h,Result.andThen,hz,sr]
 | some p=>simp[Instr.lookup,run_underlying ht,MapKept.run_getObj_map hb,hc,MapKept.run_findKey hk h,Result.andThen,sr]
set_option maxRecDepth 100000 in
theorem uH (w:World) :
 Calls Tryz.prog 65 #[] w fun e w'=>e=.returned (.map (some w.heap.size))∧w'=w.alloc (.map idEs 4):=by
 have iY:=@run_makeMap Tryz.prog
 have h1:(Instr.mapUpdate 108 (.map (some w.heap.size)) (.string ⟨#[97,99,99,116]⟩) (.func (.func 86) #[] #[])).run Tryz.prog (w.alloc (.map #[] 0))=.ok () (w.alloc (.map #[{ key:=.string ⟨#[97,99,99,116]⟩,val:=.func (.func 86) #[] #[],born:=0 }] 1)):=jT (kt:=9) (et:=107) w #[] 0 ⟨#[97,99,99,116]⟩ (.func (.func 86) #[] #[]) rfl rfl rfl
 have h2:(Instr.mapUpdate 108 (.map (some w.heap.size)) (.string ⟨#[109,97,105,108,116,111]⟩) (.func (.func 87) #[] #[])).run Tryz.prog (w.alloc (.map #[{ key:=.string ⟨#[97,99,99,116]⟩,val:=.func (.func 86) #[] #[],born:=0 }] 1))=.ok () (w.alloc (.map #[{ key:=.string ⟨#[97,99,99,116]⟩,val:=.func (.func 86) #[] #[],born:=0 },{ key:=.string ⟨#[109,97,105,108,116,111]⟩,val:=.func (.func 87) #[] #[],born:=1 }] 2)):=jT (kt:=9) (et:=107) w #[{ key:=.string ⟨#[97,99,99,116]⟩,val:=.func (.func 86) #[] #[],born:=0 }] 1 ⟨#[109,97,105,108,116,111]⟩ (.func (.func 87) #[] #[]) rfl rfl rfl
 have h3:(Instr.mapUpdate 108 (.map (some w.heap.size)) (.string ⟨#[104,116,116,112,115]⟩) (.func (.func 88) #[] #[])).run Tryz.prog (w.alloc (.map #[{ key:=.string ⟨#[97,99,99,116]⟩,val:=.func (.func 86) #[] #[],born:=0 },{ key:=.string ⟨#[109,97,105,108,116,111]⟩,val:=.func (.func 87) #[] #[],born:=1 }] 2))=.ok () (w.alloc (.map #[{ key:=.string ⟨#[97,99,99,116]⟩,val:=.func (.func 86) #[] #[],born:=0 },{ key:=.string ⟨#[109,97,105,108,116,111]⟩,val:=.func (.func 87) #[] #[],born:=1 },{ key:=.string ⟨#[104,116,116,112,115]⟩,val:=.func (.func 88) #[] #[],born:=2 }] 3)):=jT (kt:=9) (et:=107) w #[{ key:=.string ⟨#[97,99,99,116]⟩,val:=.func (.func 86) #[] #[],born:=0 },{ key:=.string ⟨#[109,97,105,108,116,111]⟩,val:=.func (.func 87) #[] #[],born:=1 }] 2 ⟨#[104,116,116,112,115]⟩ (.func (.func 88) #[] #[]) rfl rfl rfl
 have h4:(Instr.mapUpdate 108 (.map (some w.heap.size)) (.string ⟨#[100,105,100]⟩) (.func (.func 89) #[] #[])).run Tryz.prog (w.alloc (.map #[{ key:=.string ⟨#[97,99,99,116]⟩,val:=.func (.func 86) #[] #[],born:=0 },{ key:=.string ⟨#[109,97,105,108,116,111]⟩,val:=.func (.func 87) #[] #[],born:=1 },{ key:=.string ⟨#[104,116,116,112,115]⟩,val:=.func (.func 88) #[] #[],born:=2 }] 3))=.ok () (w.alloc (.map #[{ key:=.string ⟨#[97,99,99,116]⟩,val:=.func (.func 86) #[] #[],born:=0 },{ key:=.string ⟨#[109,97,105,108,116,111]⟩,val:=.func (.func 87) #[] #[],born:=1 },{ key:=.string ⟨#[104,116,116,112,115]⟩,val:=.func (.func 88) #[] #[],born:=2 },{ key:=.string ⟨#[100,105,100]⟩,val:=.func (.func 89) #[] #[],born:=3 }] 4)):=jT (kt:=9) (et:=107) w #[{ key:=.string ⟨#[97,99,99,116]⟩,val:=.func (.func 86) #[] #[],born:=0 },{ key:=.string ⟨#[109,97,105,108,116,111]⟩,val:=.func (.func 87) #[] #[],born:=1 },{ key:=.string ⟨#[104,116,116,112,115]⟩,val:=.func (.func 88) #[] #[],born:=2 }] 3 ⟨#[100,105,100]⟩ (.func (.func 89) #[] #[]) rfl rfl rfl
 go_enter Tryz.func65,Tryz.ntmps65
 go_wp2_with fail
 go_ret
 exact⟨rfl,rfl⟩
open Go Go.RowKit Go.Sort Wf
attribute [local go_sem] fH eP get_list
def xC (i:jt):Value:=.agg #[.int .i64 i.kind,(Value.string ⟨zLQ (i.text)⟩),(Value.string ⟨zLQ (i.host)⟩),.int .i64 i.port]
theorem FB (sch:Bytes):∃ r:Option (Nat × Value),Instr.findNow .string (.string ⟨zLQ sch⟩) idEs.toList 0=some r ∧
 ((∃ i,sch=qi∧r=some (i,.func (.func 86) #[] #[]))∨(∃ i,sch=rz∧r=some (i,.func (.func 87) #[] #[]))∨(∃ i,sch=di∧r=some (i,.func (.func 88) #[] #[]))∨(∃ i,sch=uI∧r=some (i,.func (.func 89) #[] #[]))∨(sch≠qi∧sch≠rz∧sch≠di∧sch≠uI∧r=none)):=by
 by_cases h1:sch=qi
 ·subst h1;exact⟨_,rfl,.inl ⟨_,rfl,rfl⟩⟩
 by_cases h2:sch=rz
 ·subst h2;exact⟨_,rfl,.inr (.inl ⟨_,rfl,rfl⟩)⟩
 by_cases h3:sch=di
 ·subst h3;exact⟨_,rfl,.inr (.inr (.inl ⟨_,rfl,rfl⟩))⟩
 by_cases h4:sch=uI
 ·subst h4;exact⟨_,rfl,.inr (.inr (.inr (.inl ⟨_,rfl,rfl⟩)))⟩
 refine⟨none,?_,.inr (.inr (.inr (.inr ⟨h1,h2,h3,h4,rfl⟩)))⟩
 have e:∀ k:Bytes,sch≠k→((⟨zLQ sch⟩:ByteArray)==⟨zLQ k⟩)=false:=by
  intro k hk
  show ((zLQ sch)==(zLQ k))=false
  rw[beq_eq_false_iff_ne]
  intro h
  exact hk (by simpa using h)
 have e1:=e _ h1
 have e2:=e _ h2
 have e3:=e _ h3
 have e4:=e _ h4
 simp only[qi,rz,di,uI]at e1 e2 e3 e4
 simp[idEs,Instr.findNow,Instr.sameNow,e1,e2,e3,e4]
theorem gq {w w':World}{b:Nat}{o:Obj}(h:w.heap[b]? = some o)(hb:Below w.heap.size w w'):w'.heap[b]? = some o:=(hb.block _ (bQ h)).trans h
set_option maxRecDepth 100000 in
theorem HN (s:Bytes)(w:World)(hE:Tryz.V.E w) :
 Calls Tryz.prog 44 #[(Value.string ⟨zLQ (s)⟩)] w fun e w'=>e=.returned (.tuple #[xC (bI s).1,.int .i64 (bI s).2])∧Below w.heap.size w w':=by
 have hct:∀ w,Tryz.V.E w→s.length<4294967281→Calls Tryz.prog 64 #[(Value.string ⟨zLQ (s)⟩),(Value.string ⟨zLQ ([58])⟩)] w fun e w'=>e=.returned (.tuple #[(Value.string ⟨zLQ ((aG 58 s).1)⟩),(Value.string ⟨zLQ ((aG 58 s).2.1)⟩),.bool (aG 58 s).2.2])∧Below w.heap.size w w' :=
  fun w hE hs=>by have h:=Vc.PC.calls (uf s 58 hs) w hE;simp[Vc.ah,Vc.aJ]at h;exact h
 have Gm:∀ w,Tryz.V.E w→s.length≤4096→Calls Tryz.prog 66 #[(Value.string ⟨zLQ ((aG 58 s).1)⟩)] w fun e w'=>e=.returned (Value.string ⟨zLQ (lower (aG 58 s).1)⟩)∧Below w.heap.size w w' :=
  fun w hE hs=>by have h:=Vc.PC.calls (yK (aG 58 s).1 (by have:=eb 58 s;omega)) w hE;simp[Vc.ah,Vc.aJ]at h;exact h
 have Hlo:=hid Gm
 clear Gm
 have ha:=cz w (.cells #[.int .i64 0,(Value.string ⟨zLQ ([])⟩),(Value.string ⟨zLQ ([])⟩),.int .i64 0] 36)
 have zd:Below w.heap.size w (w.alloc (.cells #[.int .i64 0,(Value.string ⟨zLQ ([])⟩),(Value.string ⟨zLQ ([])⟩),.int .i64 0] 36)):=(Below.refl _ _).alloc (Nat.le_refl _) _
 generalize Er:w.alloc (.cells #[.int .i64 0,(Value.string ⟨zLQ ([])⟩),(Value.string ⟨zLQ ([])⟩),.int .i64 0] 36)=wa at ha zd
 have Ha:=hid ha
 have Hba:=hid zd
 have Hwa:=hid Er
 have Hct:=hid hct
 clear ha zd Er hct
 by_cases hl:4096<s.length
 ·have hx:decide ((4096:Int)<s.length)=true:=decide_eq_true (by omega)
  go_enter Tryz.func44,Tryz.ntmps44
  go_wp2_with fail
  rw[Hwa.out]
  have aC:=bQ Ha.out
  have c0:=Lib.cell_of_heap Ha.out 0
  have c1:=Lib.cell_of_heap Ha.out 1
  have c2:=Lib.cell_of_heap Ha.out 2
  have c3:=Lib.cell_of_heap Ha.out 3
  refine bodyPost_ret (v:=.tuple #[.agg #[.int .i64 0,(Value.string ⟨zLQ ([])⟩),(Value.string ⟨zLQ ([])⟩),.int .i64 0],.int .i64 5]) (by simp[results,Tryz.results44,go_sem,c0,c1,c2,c3,aC]) rfl ⟨?_,Hba.out⟩
  simp[bI,hl,xC,jt.none]
 ·have hx:decide ((4096:Int)<s.length)=false:=decide_eq_false (by omega)
  go_enter Tryz.func44,Tryz.ntmps44
  go_wp2_with fail
  rw[Hwa.out]
  refine(Hct.out _ (Tryz.V.nD _ _ hE (fun k hk=>Hba.out.block _ (zL9 hk (Tryz.V.oB _ hE))) Hba.out.size) (by omega)).mono ?_
  rintro e w1 ⟨rfl,gA⟩
  have Ha1:=hid (gq Ha.out gA)
  have Hw1:=hid (bo Hba.out gA)
  clear gA
  go_wp2_with fail
  refine(uH w1).mono ?_
  rintro e w2 ⟨rfl,eU⟩
  have oA:Below w1.heap.size w1 w2:=by rw[eU];exact(Below.refl _ _).alloc (Nat.le_refl _) _
  have Hm2:Hid (w2.heap[w1.heap.size]? = some (.map idEs 4)):=hid (by rw[eU];exact cz w1 _)
  have Ha2:=hid (gq Ha1.out oA)
  have Hw2:=hid (bo Hw1.out oA)
  generalize w1.heap.size=mb at Hm2 ⊢
  clear eU oA Hw1 Ha1
  go_wp2_with fail
  refine(Hlo.out _ (Tryz.V.nD _ _ hE (fun k hk=>Hw2.out.block _ (zL9 hk (Tryz.V.oB _ hE))) Hw2.out.size) (by omega)).mono ?_
  rintro e w3 ⟨rfl,Cp⟩
  have Hm3:=hid (gq Hm2.out Cp)
  have Ha3:=hid (gq Ha2.out Cp)
  have Hw3:=hid (bo Hw2.out Cp)
  clear Cp Hw2 Ha2 Hm2
  obtain⟨r,hr,hcase⟩:=FB (lower (aG 58 s).1)
  have bJ:=GW (P:=Tryz.prog) (t:=108) (kt:=9) (et:=107) (z:=.nilFunc) rfl rfl Hm3.out hr rfl
  clear hr Hm3 Hlo Hct
  have aC:=bQ Ha3.out
  have c0:=Lib.cell_of_heap Ha3.out 0
  have c1:=Lib.cell_of_heap Ha3.out 1
  have c2:=Lib.cell_of_heap Ha3.out 2
  have c3:=Lib.cell_of_heap Ha3.out 3
  have z0:=Lib.frozen_of_heap Ha3.out 0
  have z1:=Lib.frozen_of_heap Ha3.out 1
  have z2:=Lib.frozen_of_heap Ha3.out 2
  have z3:=Lib.frozen_of_heap Ha3.out 3
  cases bN:(aG 58 s).2.2
  ·go_wp2_with fail
   refine bodyPost_ret (v:=.tuple #[.agg #[.int .i64 0,(Value.string ⟨zLQ ([])⟩),(Value.string ⟨zLQ ([])⟩),.int .i64 0],.int .i64 60]) (by simp[results,Tryz.results44,go_sem,c0,c1,c2,c3,aC]) rfl ⟨?_,?_⟩
   ·simp[bI,hl,bN,xC,jt.none]
   ·repeat (first|exact Hw3.out | (refine Below.setCell (p:=⟨_,_,none⟩) ?_ (by have:=Hw3.out;have:=this.size;simp <;> omega) _) | (refine Below.alloc ?_ (by have:=Hw3.out;have:=this.size;simp <;> omega) _) | refine Below.drew ?_)
  ·rcases hcase with⟨i,hs,rfl⟩|⟨i,hs,rfl⟩|⟨i,hs,rfl⟩|⟨i,hs,rfl⟩|⟨n1,n2,n3,n4,rfl⟩
   ·simp only[sr]at bJ
    have Hid0:Hid (bI s=jC s):=hid (by simp[bI,hl,bN,nw,hs,qi,rz,uI,di])
    have Hc:Hid (Calls Tryz.prog 86 #[(Value.string ⟨zLQ (s)⟩)] w3 fun e w'=>e=.returned (.tuple #[xC (jC s).1,.int .i64 (jC s).2])∧Below w3.heap.size w3 w'):=hid (by
     have h:=Vc.PC.calls (AT s) w3 (Tryz.V.nD _ _ hE (fun k hk=>Hw3.out.block _ (zL9 hk (Tryz.V.oB _ hE))) Hw3.out.size)
     simp[Vc.ah,Vc.aJ,iA]at h;exact h)
    clear hs
    have heq:(binOp BinOp.eql 107 (Value.func (Fn.func 86) #[] #[]) Value.nilFunc).run Tryz.prog w3=.ok (.bool false) w3:=rfl
    go_wp2_with fail
    refine Hc.out.mono ?_
    rintro e w4 ⟨rfl,Dp⟩
    have Ha4:=hid (gq Ha3.out Dp)
    have Hw4:=hid (bo Hw3.out Dp)
    clear Dp c0 c1 c2 c3 z0 z1 z2 z3 aC heq bJ
    have aC:=bQ Ha4.out
    have c0:=Lib.cell_of_heap Ha4.out 0
    have c1:=Lib.cell_of_heap Ha4.out 1
    have c2:=Lib.cell_of_heap Ha4.out 2
    have c3:=Lib.cell_of_heap Ha4.out 3
    have z0:=Lib.frozen_of_heap Ha4.out 0
    have z1:=Lib.frozen_of_heap Ha4.out 1
    have z2:=Lib.frozen_of_heap Ha4.out 2
    have z3:=Lib.frozen_of_heap Ha4.out 3
    unfold xC
    go_wp2_with fail
    refine bodyPost_ret (v:=.tuple #[xC (jC s).1,.int .i64 (jC s).2]) (by simp[results,Tryz.results44,go_sem,c0,c1,c2,c3,aC,xC]) rfl ⟨?_,?_⟩
    ·rw[Hid0.out]
    ·repeat (first|exact Hw4.out | (refine Below.setCell (p:=⟨_,_,none⟩) ?_ (by have:=Hw4.out;have:=this.size;simp <;> omega) _) | (refine Below.alloc ?_ (by have:=Hw4.out;have:=this.size;simp <;> omega) _) | refine Below.drew ?_)
   ·simp only[sr]at bJ
    have Hid0:Hid (bI s=jB s):=hid (by simp[bI,hl,bN,nw,hs,qi,rz,uI,di])
    have Hc:Hid (Calls Tryz.prog 87 #[(Value.string ⟨zLQ (s)⟩)] w3 fun e w'=>e=.returned (.tuple #[xC (jB s).1,.int .i64 (jB s).2])∧Below w3.heap.size w3 w'):=hid (by
     have h:=Vc.PC.calls (AR s) w3 (Tryz.V.nD _ _ hE (fun k hk=>Hw3.out.block _ (zL9 hk (Tryz.V.oB _ hE))) Hw3.out.size)
     simp[Vc.ah,Vc.aJ,iA]at h;exact h)
    clear hs
    have heq:(binOp BinOp.eql 107 (Value.func (Fn.func 87) #[] #[]) Value.nilFunc).run Tryz.prog w3=.ok (.bool false) w3:=rfl
    go_wp2_with fail
    refine Hc.out.mono ?_
    rintro e w4 ⟨rfl,Dp⟩
    have Ha4:=hid (gq Ha3.out Dp)
    have Hw4:=hid (bo Hw3.out Dp)
    clear Dp c0 c1 c2 c3 z0 z1 z2 z3 aC heq bJ
    have aC:=bQ Ha4.out
    have c0:=Lib.cell_of_heap Ha4.out 0
    have c1:=Lib.cell_of_heap Ha4.out 1
    have c2:=Lib.cell_of_heap Ha4.out 2
    have c3:=Lib.cell_of_heap Ha4.out 3
    have z0:=Lib.frozen_of_heap Ha4.out 0
    have z1:=Lib.frozen_of_heap Ha4.out 1
    have z2:=Lib.frozen_of_heap Ha4.out 2
    have z3:=Lib.frozen_of_heap Ha4.out 3
    unfold xC
    go_wp2_with fail
    refine bodyPost_ret (v:=.tuple #[xC (jB s).1,.int .i64 (jB s).2]) (by simp[results,Tryz.results44,go_sem,c0,c1,c2,c3,aC,xC]) rfl ⟨?_,?_⟩
    ·rw[Hid0.out]
    ·repeat (first|exact Hw4.out | (refine Below.setCell (p:=⟨_,_,none⟩) ?_ (by have:=Hw4.out;have:=this.size;simp <;> omega) _) | (refine Below.alloc ?_ (by have:=Hw4.out;have:=this.size;simp <;> omega) _) | refine Below.drew ?_)
   ·simp only[sr]at bJ
    have Hid0:Hid (bI s=kQ s):=hid (by simp[bI,hl,bN,nw,hs,qi,rz,uI,di])
    have Hc:Hid (Calls Tryz.prog 88 #[(Value.string ⟨zLQ (s)⟩)] w3 fun e w'=>e=.returned (.tuple #[xC (kQ s).1,.int .i64 (kQ s).2])∧Below w3.heap.size w3 w'):=hid (by
     have h:=Vc.PC.calls (C4 s) w3 (Tryz.V.nD _ _ hE (fun k hk=>Hw3.out.block _ (zL9 hk (Tryz.V.oB _ hE))) Hw3.out.size)
     simp[Vc.ah,Vc.aJ,iA]at h;exact h)
    clear hs
    have heq:(binOp BinOp.eql 107 (Value.func (Fn.func 88) #[] #[]) Value.nilFunc).run Tryz.prog w3=.ok (.bool false) w3:=rfl
    go_wp2_with fail
    refine Hc.out.mono ?_
    rintro e w4 ⟨rfl,Dp⟩
    have Ha4:=hid (gq Ha3.out Dp)
    have Hw4:=hid (bo Hw3.out Dp)
    clear Dp c0 c1 c2 c3 z0 z1 z2 z3 aC heq bJ
    have aC:=bQ Ha4.out
    have c0:=Lib.cell_of_heap Ha4.out 0
    have c1:=Lib.cell_of_heap Ha4.out 1
    have c2:=Lib.cell_of_heap Ha4.out 2
    have c3:=Lib.cell_of_heap Ha4.out 3
    have z0:=Lib.frozen_of_heap Ha4.out 0
    have z1:=Lib.frozen_of_heap Ha4.out 1
    have z2:=Lib.frozen_of_heap Ha4.out 2
    have z3:=Lib.frozen_of_heap Ha4.out 3
    unfold xC
    go_wp2_with fail
    refine bodyPost_ret (v:=.tuple #[xC (kQ s).1,.int .i64 (kQ s).2]) (by simp[results,Tryz.results44,go_sem,c0,c1,c2,c3,aC,xC]) rfl ⟨?_,?_⟩
    ·rw[Hid0.out]
    ·repeat (first|exact Hw4.out | (refine Below.setCell (p:=⟨_,_,none⟩) ?_ (by have:=Hw4.out;have:=this.size;simp <;> omega) _) | (refine Below.alloc ?_ (by have:=Hw4.out;have:=this.size;simp <;> omega) _) | refine Below.drew ?_)
   ·simp only[sr]at bJ
    have Hid0:Hid (bI s=kR s):=hid (by simp[bI,hl,bN,nw,hs,qi,rz,uI,di])
    have Hc:Hid (Calls Tryz.prog 89 #[(Value.string ⟨zLQ (s)⟩)] w3 fun e w'=>e=.returned (.tuple #[xC (kR s).1,.int .i64 (kR s).2])∧Below w3.heap.size w3 w'):=hid (by
     have h:=Vc.PC.calls (C5 s) w3 (Tryz.V.nD _ _ hE (fun k hk=>Hw3.out.block _ (zL9 hk (Tryz.V.oB _ hE))) Hw3.out.size)
     simp[Vc.ah,Vc.aJ,iA]at h;exact h)
    clear hs
    have heq:(binOp BinOp.eql 107 (Value.func (Fn.func 89) #[] #[]) Value.nilFunc).run Tryz.prog w3=.ok (.bool false) w3:=rfl
    go_wp2_with fail
    refine Hc.out.mono ?_
    rintro e w4 ⟨rfl,Dp⟩
    have Ha4:=hid (gq Ha3.out Dp)
    have Hw4:=hid (bo Hw3.out Dp)
    clear Dp c0 c1 c2 c3 z0 z1 z2 z3 aC heq bJ
    have aC:=bQ Ha4.out
    have c0:=Lib.cell_of_heap Ha4.out 0
    have c1:=Lib.cell_of_heap Ha4.out 1
    have c2:=Lib.cell_of_heap Ha4.out 2
    have c3:=Lib.cell_of_heap Ha4.out 3
    have z0:=Lib.frozen_of_heap Ha4.out 0
    have z1:=Lib.frozen_of_heap Ha4.out 1
    have z2:=Lib.frozen_of_heap Ha4.out 2
    have z3:=Lib.frozen_of_heap Ha4.out 3
    unfold xC
    go_wp2_with fail
    refine bodyPost_ret (v:=.tuple #[xC (kR s).1,.int .i64 (kR s).2]) (by simp[results,Tryz.results44,go_sem,c0,c1,c2,c3,aC,xC]) rfl ⟨?_,?_⟩
    ·rw[Hid0.out]
    ·repeat (first|exact Hw4.out | (refine Below.setCell (p:=⟨_,_,none⟩) ?_ (by have:=Hw4.out;have:=this.size;simp <;> omega) _) | (refine Below.alloc ?_ (by have:=Hw4.out;have:=this.size;simp <;> omega) _) | refine Below.drew ?_)
   ·simp only[sr]at bJ
    have Hid0:Hid (bI s=(jt.none,60)):=hid (by simp[bI,hl,bN,nw,n1,n2,n3,n4])
    clear n1 n2 n3 n4
    have heq:(binOp BinOp.eql 107 Value.nilFunc Value.nilFunc).run Tryz.prog w3=.ok (.bool true) w3:=rfl
    go_wp2_with fail
    refine bodyPost_ret (v:=.tuple #[.agg #[.int .i64 0,(Value.string ⟨zLQ ([])⟩),(Value.string ⟨zLQ ([])⟩),.int .i64 0],.int .i64 60]) (by simp[results,Tryz.results44,go_sem,c0,c1,c2,c3,aC]) rfl ⟨?_,?_⟩
    ·rw[Hid0.out];rfl
    ·repeat (first|exact Hw3.out | (refine Below.setCell (p:=⟨_,_,none⟩) ?_ (by have:=Hw3.out;have:=this.size;simp <;> omega) _) | (refine Below.alloc ?_ (by have:=Hw3.out;have:=this.size;simp <;> omega) _) | refine Below.drew ?_)
open Go Vc Go.RowKit Wf
theorem C7 (s:Bytes):PC Tryz.V 44 [.str s] (.eR [iA (bI s).1,.int .i64 (bI s).2]) :=
 ⟨Tryz.call44,by simp[flat,flat.ai],by simp[flat,flat.ai,iA],fun w hE=>(HN s w hE).mono fun _ _ ⟨h,k⟩=>⟨by rw[h];simp[ah,aJ,iA,xC],k⟩⟩
theorem sn (i:jt):PC Tryz.V 28 [iA i] (.bool (cR i)):=C6 C7 i
theorem yE (i:jt):PC Tryz.V 45 [iA i] (.bool (cR i)):=AN sk i
abbrev blt:Bytes→Bytes→Bool:=Op.bytesLess
theorem mf:∀ a:Bytes,blt a a=false
 | []=>rfl
 | x::a=>by simp[blt,Op.bytesLess,mf a,UInt8.lt_irrefl]
theorem gx:∀ {a b c:Bytes},blt a b=true→blt b c=true→blt a c=true
 | _,[],_,h,_=>by cases ‹Bytes› <;> simp[blt,Op.bytesLess]at h
 | _,_::_,[],_,h=>by simp[blt,Op.bytesLess]at h
 | [],_::_,_::_,_,_=>rfl
 | x::a,y::b,z::c,h1,h2=>by
   simp only[blt,Op.bytesLess,Bool.or_eq_true,decide_eq_true_eq,zMn,beq_iff_eq]at h1 h2 ⊢
   rcases h1 with h1|⟨rfl,h1⟩
   ·rcases h2 with h2|⟨rfl,h2⟩
    ·exact .inl (UInt8.lt_trans h1 h2)
    ·exact .inl h1
   ·rcases h2 with h2|⟨rfl,h2⟩
    ·exact .inl h2
    ·exact .inr ⟨rfl,gx h1 h2⟩
theorem qE:∀ {a b:Bytes},a≠b→blt a b=true∨blt b a=true
 | [],[],h=>absurd rfl h
 | [],_::_,_=>.inl rfl
 | _::_,[],_=>.inr rfl
 | x::a,y::b,h=>by
   simp only[blt,Op.bytesLess,Bool.or_eq_true,decide_eq_true_eq,zMn,beq_iff_eq]
   by_cases hxy:x=y
   ·subst hxy
    rcases qE (a:=a) (b:=b) (fun e=>h (by rw[e])) with h1|h1
    ·exact .inl (.inr ⟨rfl,h1⟩)
    ·exact .inr (.inr ⟨rfl,h1⟩)
   ·have:x.toNat≠y.toNat:=fun e=>hxy (UInt8.toNat_inj.1 e)
    rcases zMj x.toNat y.toNat with h1|h1
    ·exact .inl (.inl (UInt8.lt_iff_toNat_lt.2 h1))
    ·exact .inr (.inl (UInt8.lt_iff_toNat_lt.2 (by omega)))
theorem ES {a b:Bytes}(h:blt a b=true):blt b a=false:=by
 cases h2:blt b a with
 | false=>rfl
 | true=>have:=gx h h2;rw[mf]at this;cases this
theorem rQ {a b:Bytes}(h:blt a b=true):a≠b:=by
 rintro rfl;rw[mf]at h;cases h
section
variable {E:Type} (key:E→Bytes) (ex:E→Int)
def om (L:List E):Prop:=L.Pairwise (fun a b=>blt (key a) (key b)=true)
def hJ (L:List E)(t:Bytes):Nat:=(L.filter (fun x=>blt (key x) t)).length
def dQ (L:List E)(t:Bytes):Bool:=L.any (fun x=>key x==t)
variable {key ex}
theorem zn (L:List E)(t:Bytes):hJ key L t≤L.length:=List.length_filter_le _ _
theorem qJ:∀ {L:List E}(_:om key L)(t:Bytes)(k:Nat)(h:k<L.length),blt (key L[k]) t=true↔k<hJ key L t
 | [],_,_,_,h=>by simp at h
 | x::L,ha,t,k,h=>by
   rw[om,List.pairwise_cons]at ha
   unfold hJ
   by_cases hx:blt (key x) t=true
   ·rw[zMd (p:=fun x=>blt (key x) t) hx,zLN]
    cases k with
    | zero=>simpa using hx
    | succ k =>
      have:=qJ ha.2 t k (by simpa using h)
      simpa[hJ] using this
   ·rw[zMf (p:=fun x=>blt (key x) t) hx]
    have h0:L.filter (fun x=>blt (key x) t)=[]:=by
     rw[List.filter_eq_nil_iff]
     intro y hy hyt
     exact hx (gx (ha.1 y hy) hyt)
    rw[h0]
    simp only[zLU,Nat.not_lt_zero,iff_false]
    cases k with
    | zero=>simpa using hx
    | succ k =>
      simp only[List.getElem_cons_succ]
      intro hyt
      exact hx (gx (ha.1 _ (zLW _)) hyt)
theorem I6 {L:List E}(h:om key L)(t:Bytes):L.filter (fun x=>blt (key x) t)=L.take (hJ key L t):=by
 induction L with
 | nil=>rfl
 | cons x L ih =>
   have h':=h
   rw[om,List.pairwise_cons]at h'
   unfold hJ
   by_cases hx:blt (key x) t=true
   ·rw[zMd (p:=fun x=>blt (key x) t) hx,zLN,List.take_succ_cons]
    have e:=ih h'.2
    unfold hJ at e
    rw[← e]
   ·rw[zMf (p:=fun x=>blt (key x) t) hx]
    have h0:L.filter (fun x=>blt (key x) t)=[]:=by
     rw[List.filter_eq_nil_iff]
     intro y hy hyt
     exact hx (gx (h'.1 y hy) hyt)
    rw[h0];rfl
theorem I7 {L:List E}(h:om key L)(t:Bytes):L.filter (fun x=>blt t (key x))=L.drop (hJ key L t+if dQ key L t then 1 else 0):=by
 induction L with
 | nil=>simp[dQ]
 | cons x L ih =>
   have h':=h
   rw[om,List.pairwise_cons]at h'
   have ih:=ih h'.2
   by_cases hx:blt (key x) t=true
   ·have bp:(key x==t)=false:=by simpa using rQ hx
    have hn:¬ blt t (key x)=true:=by rw[ES hx];simp
    rw[zMf (p:=fun x=>blt t (key x)) hn,ih]
    have e1:hJ key (x::L) t=hJ key L t+1:=by unfold hJ;rw[zMd (p:=fun x=>blt (key x) t) hx,zLN]
    have e2:dQ key (x::L) t=dQ key L t:=by simp[dQ,bp]
    rw[e1,e2,Nat.add_right_comm,List.drop_succ_cons]
   ·have h0:hJ key (x::L) t=0:=by
     unfold hJ
     rw[List.length_eq_zero_iff,List.filter_eq_nil_iff]
     intro y hy hyt
     rcases List.mem_cons.1 hy with rfl|hy
     ·exact hx hyt
     ·exact hx (gx (h'.1 y hy) hyt)
    have aP:∀ y∈L,blt t (key y)=true:=fun y hy=>by
     by_cases e:key x=t
     ·rw[← e];exact h'.1 y hy
     ·rcases qE e with h1|h1
      ·exact absurd h1 hx
      ·exact gx h1 (h'.1 y hy)
    have hL:L.filter (fun x=>blt t (key x))=L:=List.filter_eq_self.2 aP
    have hnoL:dQ key L t=false:=by
     unfold dQ
     rw[List.any_eq_false]
     intro y hy
     have:=rQ (aP y hy)
     simpa using fun e=>this e.symm
    rw[h0]
    by_cases e:key x=t
    ·have hn:¬ blt t (key x)=true:=by rw[e,mf];simp
     have:dQ key (x::L) t=true:=by simp[dQ,e]
     rw[zMf (p:=fun x=>blt t (key x)) hn,hL,this];rfl
    ·have hp:blt t (key x)=true:=by
      rcases qE e with h1|h1
      ·exact absurd h1 hx
      ·exact h1
     have:dQ key (x::L) t=false:=by
      have:=hnoL
      unfold dQ at this ⊢
      simpa[e] using this
     rw[zMd (p:=fun x=>blt t (key x)) hp,hL,this];rfl
def kA (key:E→Bytes)(L:List E)(x:E):List E:=L.filter (fun y=>blt (key y) (key x))++[x]++L.filter (fun y=>blt (key x) (key y))
theorem yX {L:List E}(h:om key L)(x:E):kA key L x=L.take (hJ key L (key x))++[x]++L.drop (hJ key L (key x)+if dQ key L (key x) then 1 else 0):=by
 unfold kA
 rw[I6 h,I7 h]
theorem oY {L:List E}(h:om key L)(p:E→Bool):om key (L.filter p):=List.Pairwise.filter p h
theorem Bk {L:List E}(h:om key L)(x:E):om key (kA key L x):=by
 unfold kA om
 rw[List.append_assoc,List.pairwise_append]
 refine⟨oY h _,?_,?_⟩
 ·rw[List.singleton_append,List.pairwise_cons]
  exact⟨fun y hy=>(List.mem_filter.1 hy).2,oY h _⟩
 ·intro a ha b hb
  have h1:=(List.mem_filter.1 ha).2
  rcases List.mem_cons.1 hb with rfl|hb
  ·exact h1
  ·exact gx h1 (List.mem_filter.1 hb).2
theorem Bi {L:List E}{x y:E}:y∈kA key L x↔y=x∨(y∈L∧key y≠key x):=by
 unfold kA
 simp only[List.mem_append,List.mem_filter,List.mem_singleton]
 constructor
 ·rintro((⟨h1,h2⟩|h) | ⟨h1,h2⟩)
  ·exact .inr ⟨h1,rQ h2⟩
  ·exact .inl h
  ·exact .inr ⟨h1,fun e=>rQ h2 e.symm⟩
 ·rintro(h|⟨h1,h2⟩)
  ·exact .inl (.inr h)
  ·rcases qE h2 with h3|h3
   ·exact .inl (.inl ⟨h1,h3⟩)
   ·exact .inr ⟨h1,h3⟩
theorem Bj {L:List E}(h:om key L)(x:E):(kA key L x).length=L.length+if dQ key L (key x) then 0 else 1:=by
 rw[yX h]
 have h1:=zn (key:=key) L (key x)
 cases ht:dQ key L (key x)
 ·simp;omega
 ·have h2:hJ key L (key x)<L.length:=by
   obtain⟨y,hy,hyt⟩:=List.any_eq_true.1 ht
   obtain⟨k,hk,rfl⟩:=List.mem_iff_getElem.1 hy
   have h3:¬ k<hJ key L (key x):=fun h4=>by
    have:=(qJ h (key x) k hk).2 h4
    rw[show key L[k]=key x by simpa using hyt,mf]at this
    cases this
   omega
  simp;omega
end
def eC (X:List Int):Nat→Nat
 | 0=>0
 | k+1=>if k=0 then 0 else if X.getD k 0<X.getD (eC X k) 0 then k else eC X k
theorem iG (X:List Int):∀ k,0<k→eC X k<k∧∀ j,j<k→X.getD (eC X k) 0<X.getD j 0∨(X.getD (eC X k) 0=X.getD j 0∧eC X k≤j)
 | 0,h=>by omega
 | k+1,_=>by
   rw[eC]
   by_cases h0:k=0
   ·subst h0
    rw[if_pos rfl]
    exact⟨by omega,fun j hj=>.inr ⟨by rw[show j=0 by omega],by omega⟩⟩
   ·rw[if_neg h0]
    obtain⟨h1,h2⟩:=iG X k (by omega)
    split
    ·rename_i h3
     refine⟨by omega,fun j hj=>?_⟩
     rcases zMj j k with h4|h4
     ·rcases h2 j h4 with h5|h5 <;> left <;> omega
     ·exact .inr ⟨by rw[show j=k by omega],by omega⟩
    ·rename_i h3
     refine⟨by omega,fun j hj=>?_⟩
     rcases zMj j k with h4|h4
     ·exact h2 j h4
     ·obtain rfl:j=k:=by omega
      omega
def kP (X:List Int)(a b:Nat):Bool:=if X.getD a 0 != X.getD b 0 then decide (X.getD a 0<X.getD b 0) else decide (a<b)
theorem xz {X:List Int}{a b:Nat}:kP X a b=true↔X.getD a 0<X.getD b 0∨(X.getD a 0=X.getD b 0∧a<b):=by
 unfold kP
 split
 ·rename_i h
  simp at h
  simp
  omega
 ·rename_i h
  simp at h
  simp
  omega
theorem jq {X:List Int}{a b:Nat}:kP X a b=false↔X.getD b 0<X.getD a 0∨(X.getD b 0=X.getD a 0∧b≤a):=by
 rw[← Bool.not_eq_true,xz]
 omega
def mR (P:List Nat)(i j:Nat):List Nat:=(P.set i (P.getD j 0)).set j (P.getD i 0)
theorem eS (P:List Nat)(i j:Nat):(mR P i j).length=P.length:=by simp[mR]
theorem gE {P:List Nat}{i j c:Nat}(hi:i<P.length)(hj:j<P.length):(mR P i j).getD c 0=if c=j then P.getD i 0 else if c=i then P.getD j 0 else P.getD c 0:=by
 unfold mR
 rw[zLS,List.getElem?_set]
 by_cases h1:j=c
 ·subst h1
  rw[if_pos rfl,if_pos (by simpa using hj),if_pos rfl];rfl
 ·rw[if_neg h1,if_neg (fun e=>h1 e.symm),List.getElem?_set]
  by_cases h2:i=c
  ·subst h2
   rw[if_pos rfl,if_pos hi,if_pos rfl];rfl
  ·rw[if_neg h2,if_neg (fun e=>h2 e.symm),zLS]
def Cn (X:List Int):Nat→List Nat→Nat→List Nat
 | 0,P,_=>P
 | f+1,P,j=>if (j - 1) / 2=j∨kP X (P.getD j 0) (P.getD ((j - 1) / 2) 0)=false then P else Cn X f (mR P ((j - 1) / 2) j) ((j - 1) / 2)
theorem ya (X:List Int):∀ f P j,(Cn X f P j).length=P.length
 | 0,_,_=>rfl
 | f+1,P,j=>by
   rw[Cn]
   split
   ·rfl
   ·rw[ya X f,eS]
def HPx (X:List Int)(P:List Nat)(j:Nat):Prop:=(∀ c,0<c→c<P.length→c≠j→kP X (P.getD c 0) (P.getD ((c - 1) / 2) 0)=false)∧(∀ c,0<c→c<P.length→(c - 1) / 2=j→0<j→kP X (P.getD c 0) (P.getD ((j - 1) / 2) 0)=false)
def HP (X:List Int)(P:List Nat):Prop:=∀ c,0<c→c<P.length→kP X (P.getD c 0) (P.getD ((c - 1) / 2) 0)=false
theorem zL (X:List Int):∀ f P j,j<f→j<P.length→HPx X P j→HP X (Cn X f P j)
 | 0,_,_,h,_,_=>by omega
 | f+1,P,j,hf,hj,⟨h1,h2⟩=>by
   rw[Cn]
   split
   ·rename_i h
    intro c hc eg
    by_cases e:c=j
    ·subst e
     rcases h with h|h
     ·omega
     ·exact h
    ·exact h1 c hc eg e
   ·rename_i h
    have xL:(j - 1) / 2≠j:=fun e=>h (.inl e)
    have Ew:kP X (P.getD j 0) (P.getD ((j - 1) / 2) 0)=true:=by
     cases hl:kP X (P.getD j 0) (P.getD ((j - 1) / 2) 0)
     ·exact absurd (.inr hl) h
     ·rfl
    have hj0:0<j:=by omega
    have hi:(j - 1) / 2<P.length:=by omega
    refine zL X f _ _ (by omega) (by rw[eS];exact hi) ⟨fun c hc eg hci=>?_,fun c hc eg Im tx=>?_⟩
    ·rw[eS]at eg
     rw[gE hi hj,gE hi hj]
     rw[xz]at Ew
     by_cases hcj:c=j
     ·subst hcj
      rw[if_pos rfl,if_neg xL,if_pos rfl,jq]
      omega
     ·rw[if_neg hcj,if_neg hci]
      have g1:=h1 c hc eg hcj
      by_cases hpj:(c - 1) / 2=j
      ·rw[if_pos hpj]
       exact h2 c hc eg hpj hj0
      ·rw[if_neg hpj]
       by_cases hpi:(c - 1) / 2=(j - 1) / 2
       ·rw[if_pos hpi]
        rw[hpi]at g1
        rw[jq]at g1 ⊢
        omega
       ·rw[if_neg hpi];exact g1
    ·rw[eS]at eg
     rw[gE hi hj,gE hi hj]
     have g0:=h1 ((j - 1) / 2) tx hi (by omega)
     have e1:¬ ((j - 1) / 2 - 1) / 2=j:=by omega
     have e2:¬ ((j - 1) / 2 - 1) / 2=(j - 1) / 2:=by omega
     rw[if_neg e1,if_neg e2]
     by_cases hcj:c=j
     ·rw[if_pos hcj];exact g0
     ·have hci:c≠(j - 1) / 2:=by omega
      rw[if_neg hcj,if_neg hci]
      have g1:=h1 c hc eg hcj
      rw[Im]at g1
      rw[jq]at g0 g1 ⊢
      omega
theorem HP_root {X:List Int}{P:List Nat}(h:HP X P)(c:Nat)(hc:c<P.length):kP X (P.getD c 0) (P.getD 0 0)=false:=by
 induction c using Nat.strongRecOn with
 | _ c ih =>
   by_cases h0:c=0
   ·subst h0;rw[jq];omega
   ·have g1:=h c (by omega) hc
    have g2:=ih ((c - 1) / 2) (by omega) (by omega)
    rw[jq]at g1 g2 ⊢
    omega
def gr (X:List Int):Nat→List Nat
 | 0=>[]
 | k+1=>Cn X (k+1) (gr X k++[k]) k
theorem kZ (X:List Int):∀ k,(gr X k).length=k
 | 0=>rfl
 | k+1=>by rw[gr,ya,zLL,kZ X k];rfl
theorem uR (X:List Int):∀ k,HP X (gr X k)
 | 0=>fun c _ h=>by simp[gr]at h
 | k+1=>by
   rw[gr]
   have hl:=kZ X k
   refine zL X _ _ _ (by omega) (by rw[zLL,hl];simp) ⟨fun c hc eg Is=>?_,fun c hc eg Im _=>?_⟩
   ·rw[zLL,hl,zMi]at eg
    have e:∀ q,q<k→(gr X k++[k]).getD q 0=(gr X k).getD q 0:=fun q hq=>by
     rw[zLS,zLS,zLR (by omega)]
    rw[e c (by omega),e ((c - 1) / 2) (by omega)]
    exact uR X k c hc (by omega)
   ·rw[zLL,hl,zMi]at eg
    omega
theorem E4 {P:List Nat}{i j:Nat}(hi:i<P.length)(hj:j<P.length)(x:Nat):(∃ c,c<P.length∧P.getD c 0=x)↔∃ c,c<(mR P i j).length∧(mR P i j).getD c 0=x:=by
 rw[eS]
 constructor
 ·rintro⟨c,hc,rfl⟩
  by_cases h1:c=i
  ·exact⟨j,hj,by rw[gE hi hj,if_pos rfl,h1]⟩
  ·by_cases h2:c=j
   ·refine⟨i,hi,?_⟩
    rw[gE hi hj]
    split
    ·rename_i h3;rw[h2,← h3]
    ·rw[if_pos rfl,h2]
   ·exact⟨c,hc,by rw[gE hi hj,if_neg h2,if_neg h1]⟩
 ·rintro⟨c,hc,rfl⟩
  rw[gE hi hj]
  split
  ·exact⟨i,hi,rfl⟩
  ·split
   ·exact⟨j,hj,rfl⟩
   ·exact⟨c,hc,rfl⟩
theorem DU (X:List Int):∀ f (P:List Nat) j,j<P.length→∀ x,(∃ c,c<P.length∧P.getD c 0=x)↔∃ c,c<(Cn X f P j).length∧(Cn X f P j).getD c 0=x
 | 0,_,_,_,_=>Iff.rfl
 | f+1,P,j,hj,x=>by
   rw[Cn]
   split
   ·rfl
   ·have hi:(j - 1) / 2<P.length:=by omega
    exact(E4 hi hj x).trans (DU X f _ _ (by rw[eS];exact hi) x)
theorem kY (X:List Int):∀ k x,(∃ c,c<k∧(gr X k).getD c 0=x)↔x<k
 | 0,x=>by simp
 | k+1,x=>by
   have hl:=kZ X k
   have h1:=DU X (k+1) (gr X k++[k]) k (by rw[zLL,hl];simp) x
   have gW:(Cn X (k+1) (gr X k++[k]) k).length=k+1:=by rw[ya,zLL,hl];rfl
   rw[gW]at h1
   rw[show gr X (k+1)=Cn X (k+1) (gr X k++[k]) k from rfl,← h1,zLL,hl,zMi]
   constructor
   ·rintro⟨c,hc,rfl⟩
    rcases zMj c k with h2|h2
    ·have:=(kY X k ((gr X k).getD c 0)).1 ⟨c,h2,rfl⟩
     rw[zLS,zLR (by omega),← zLS]
     omega
    ·obtain rfl:c=k:=by omega
     rw[zLS,zLX (by omega),hl]
     simp
   ·intro hx
    rcases zMj x k with h2|h2
    ·obtain⟨c,hc,he⟩:=(kY X k x).2 h2
     refine⟨c,by omega,?_⟩
     rw[zLS,zLR (by omega),← zLS,he]
    ·refine⟨k,by omega,?_⟩
     rw[zLS,zLX (by omega),hl]
     simp;omega
theorem DB (X:List Int){k:Nat}(hk:0<k):(gr X k).getD 0 0=eC X k:=by
 obtain⟨h1,h2⟩:=iG X k hk
 have h3:=(kY X k _).1 ⟨0,hk,rfl⟩
 obtain⟨c,hc,he⟩:=(kY X k (eC X k)).2 h1
 have h4:=HP_root (uR X k) c (by rw[kZ];exact hc)
 rw[he,jq]at h4
 have h5:=h2 _ h3
 omega
section
variable {E:Type} {key:E→Bytes} {ex:E→Int}
def jz (key:E→Bytes)(ex:E→Int)(cap:Int)(L:List E)(x:E):List E:=if dQ key L (key x)=true∨(L.length:Int)<cap then kA key L x else kA key (L.eraseIdx (eC (L.map ex) L.length)) x
theorem lh {L:List E}{t:Bytes}:dQ key L t=true↔∃ x∈L,key x=t:=by simp[dQ]
theorem BK {L:List E}(h:om key L){t:Bytes}(ht:dQ key L t=true):∃ hk:hJ key L t<L.length,key L[hJ key L t]=t:=by
 obtain⟨y,hy,rfl⟩:=lh.1 ht
 obtain⟨k,hk,rfl⟩:=List.mem_iff_getElem.1 hy
 have h3:¬ k<hJ key L (key L[k]):=fun h4=>by
  have:=(qJ h (key L[k]) k hk).2 h4
  rw[mf]at this
  cases this
 have h4:¬ hJ key L (key L[k])<k:=fun h4=>by
  have h5:=List.pairwise_iff_getElem.1 h (hJ key L (key L[k])) k (by omega) hk h4
  have:=(qJ h (key L[k]) (hJ key L (key L[k])) (by omega)).1 h5
  omega
 have e:hJ key L (key L[k])=k:=by omega
 exact⟨by omega,by simp only[e]⟩
theorem tA {L:List E}(h:om key L){t:Bytes}:dQ key L t=true↔∃ hk:hJ key L t<L.length,key L[hJ key L t]=t:=⟨BK h,fun⟨hk,e⟩=>lh.2 ⟨_,zLW hk,e⟩⟩
theorem put_set {L:List E}(h:om key L){x:E}(ht:dQ key L (key x)=true):L.set (hJ key L (key x)) x=kA key L x:=by
 obtain⟨hk,-⟩:=BK h ht
 rw[yX h,ht,if_pos rfl,List.set_eq_take_append_cons_drop,if_pos hk]
 simp
theorem put_ins {L:List E}(h:om key L){x:E}(ht:dQ key L (key x)=false):L.take (hJ key L (key x))++[x]++L.drop (hJ key L (key x))=kA key L x:=by
 rw[yX h,ht];simp
theorem nX {L:List E}{k:Nat}{x:E}(h:x∈L.eraseIdx k):x∈L:=List.mem_of_mem_eraseIdx h
theorem DE {L:List E}{k:Nat}{t:Bytes}(h:dQ key L t=false):dQ key (L.eraseIdx k) t=false:=by
 rw[← Bool.not_eq_true,lh]at h ⊢
 rintro⟨x,hx,e⟩
 exact h ⟨x,nX hx,e⟩
theorem nY {L:List E}(h:om key L)(k:Nat):om key (L.eraseIdx k):=List.Pairwise.sublist (List.eraseIdx_sublist L k) h
theorem G2 {L:List E}(h:om key L)(cap:Int)(x:E):om key (jz key ex cap L x):=by
 unfold jz
 split
 ·exact Bk h x
 ·exact Bk (nY h _) x
theorem G1 {L:List E}(h:om key L){cap:Int}(hc:0<cap)(hl:(L.length:Int)≤cap)(x:E):((jz key ex cap L x).length:Int)≤cap:=by
 unfold jz
 split
 ·rename_i h1
  rw[Bj h]
  rcases h1 with h1|h1
  ·rw[if_pos h1];omega
  ·split <;> omega
 ·rename_i h1
  have h2:¬ (L.length:Int)<cap:=fun h3=>h1 (.inr h3)
  have h0:0<L.length:=by omega
  rw[Bj (nY h _),List.length_eraseIdx,if_pos (by have:=(iG (L.map ex) L.length h0).1;omega)]
  split <;> omega
theorem Ay {L:List E}{cap:Int}{x y:E}(h:y∈jz key ex cap L x):y=x∨y∈L:=by
 unfold jz at h
 split at h
 ·rcases Bi.1 h with h|h
  ·exact .inl h
  ·exact .inr h.1
 ·rcases Bi.1 h with h|h
  ·exact .inl h
  ·exact .inr (nX h.1)
end
end Go.Proofs.YteipdaijbncgeaaGreatDoor
namespace Vc
open Go Go.RowKit Wf
mutual
def ren (ρ:Nat→Nat):SV→SV
 | .p i off=>.p (ρ i) off
 | .o i n=>.o (ρ i) n
 | .f i n=>.f (ρ i) n
 | .agg l=>.agg (renL ρ l)
 | .eR l=>.eR (renL ρ l)
 | .fn f l=>.fn f (renL ρ l)
 | .mv f l=>.mv f (renL ρ l)
 | .Ek t x=>.Ek t (ren ρ x)
 | .bool b=>.bool b
 | .int k n=>.int k n
 | .str l=>.str l
 | .aI=>.aI
 | .v x=>.v x
def renL (ρ:Nat→Nat):List SV→List SV
 | []=>[]
 | x::r=>ren ρ x::renL ρ r
end
mutual
theorem conc_ren (ρ:Nat→Nat)(β:Nat→Bt)(x:SV):ah β (ren ρ x)=ah (fun i=>β (ρ i)) x:=by
 cases x <;> simp only[ren,ah]
 ·rw[concL_ren ρ β _]
 ·rw[concL_ren ρ β _]
 ·rw[concL_ren ρ β _]
 ·rw[concL_ren ρ β _]
 ·rw[conc_ren ρ β _]
theorem concL_ren (ρ:Nat→Nat)(β:Nat→Bt)(l:List SV):aJ β (renL ρ l)=aJ (fun i=>β (ρ i)) l:=by
 cases l with
 | nil=>rfl
 | cons x r =>
   simp only[renL,aJ]
   rw[conc_ren ρ β x,concL_ren ρ β r]
end
mutual
theorem ren_within {ρ:Nat→Nat}{m:Nat}(hρ:∀ k,k<m→ρ k=k)(x:SV)(h:within m x=true):ren ρ x=x:=by
 cases x <;> simp only[within,decide_eq_true_eq]at h <;> simp only[ren]
 ·rw[hρ _ h]
 ·rw[hρ _ h]
 ·rw[hρ _ h]
 ·rw[renL_within hρ _ h]
 ·rw[renL_within hρ _ h]
 ·rw[renL_within hρ _ h]
 ·rw[renL_within hρ _ h]
 ·rw[ren_within hρ _ h]
theorem renL_within {ρ:Nat→Nat}{m:Nat}(hρ:∀ k,k<m→ρ k=k)(l:List SV)(h:within.aS m l=true):renL ρ l=l:=by
 cases l with
 | nil=>rfl
 | cons x r =>
   simp only[within.aS,zMn]at h
   simp only[renL]
   rw[ren_within hρ x h.1,renL_within hρ r h.2]
end
variable {V:Cx} {f:FuncId} {args:List SV} {bs:List aw} {R:SV→List aw→Prop}
theorem zp (b l:List aw)(k:Nat):(b++l)[b.length+k]? = l[k]? := by
 rw[zLX (by omega),Nat.add_sub_cancel_left]
theorem jn (b l:List aw):(b++l)[b.length]? = l[0]? := zp b l 0
theorem EW (b l:List aw)(k:Nat)(X:aw):(b++l).set (b.length+k) X=b++l.set k X:=by
 rw[List.set_append_right _ _ (by omega),Nat.add_sub_cancel_left]
theorem I8 (b l:List aw)(X:aw):(b++l).set b.length X=b++l.set 0 X:=EW b l 0 X
def av:=zL8 (zL8 (@zp) (zL8 (@jn) (@EW))) (zL8 (zL8 (@I8) (@List.append_assoc.{0})) (zL8 (zL8 (@zL3.{0}) (@zL7.{0})) (zL8 (zL8 (@zLL.{0}) (@zLN.{0})) (zL8 (zL8 (@zLU.{0}) (@Nat.zero_add)) (zL8 (zL8 (@zL5.{0}) (@zL6.{0})) (@Nat.add_assoc))))))
theorem outs1 {n:Nat}{b:List aw}(hn:n=b.length)(X:aw):Gd [(n,0,0)] (b++[X]) b:=by
 subst hn
 refine yM (fun j hj=>?_) (by simp)
 have h1:=hj _ List.mem_cons_self
 simp only at h1
 rcases zMj j b.length with h|h
 ·rw[zLR h]
 ·rw[zLZ (by simp;omega),zLZ h]
theorem bm {l1:List aw}{n:Nat}(hn:l1.length=n)(l:List aw)(k:Nat):(l1++l)[n+k]? = l[k]? := by
 subst hn;exact zp _ _ _
theorem bX {l1:List aw}{i:Nat}(hi:i<l1.length)(l:List aw)(X:aw):(l1++l).set i X=l1.set i X++l:=List.set_append_left _ _ hi
theorem BN {l1:List aw}{i:Nat}(hi:i<l1.length)(X:aw)(l:List aw):(l1.set i X++l)[i]? = some X:=by
 rw[zLR (by simpa using hi),zLM hi]
theorem aH {l1:List aw}{i j:Nat}{r:aw}(h:l1[j]? = some r)(hn:i≠j)(X:aw):(l1.set i X)[j]? = some r:=by
 rw[zLO hn];exact h
end Vc
namespace Go.Proofs.YteipdaijbncgeaaGreatDoor
open Go Vc Go.RowKit Wf
structure Vd where
 err:Int
 id:jt
 cW:jt
 store:Bool
 de:Int
 tr:SV
structure En where
 v:Vd
 stored:Int
 aU:Int
def gi (v:Vd):List SV:=[.int .i64 v.err,.int .i64 v.id.kind,.str v.id.text,.str v.id.host,.int .i64 v.id.port,.int .i64 v.cW.kind,.str v.cW.text,.str v.cW.host,.int .i64 v.cW.port,.bool v.store,.int .u64 v.de,v.tr]
def enc (e:En):List SV:=[.int .i64 e.v.err,.int .i64 e.v.id.kind,.str e.v.id.text,.str e.v.id.host,.int .i64 e.v.id.port,.int .i64 e.v.cW.kind,.str e.v.cW.text,.str e.v.cW.host,.int .i64 e.v.cW.port,.bool e.v.store,.int .u64 e.v.de,e.v.tr,.int .u64 e.stored,.int .u64 e.aU]
def En.key (e:En):Bytes:=e.v.id.text
theorem ir (L:List En)(k:Nat)(h:k<L.length):((L.flatMap enc).drop (k * 14)).take 14=enc L[k]:=yp enc 14 (fun _=>rfl) L k h
theorem aM (L:List En):(L.flatMap enc).length=L.length * 14:=pK enc 14 (fun _=>rfl) L
theorem fX (L:List En)(k:Nat)(h:k<L.length)(i:Nat)(hi:i<14):(L.flatMap enc)[k * 14+i]? = (enc L[k])[i]? := by
 rw[← ir L k h,List.getElem?_take,List.getElem?_drop,if_pos hi]
def vG (P:List Nat):List SV:=P.map fun n:Nat=>SV.int .i64 (n:Int)
theorem uE (P:List Nat)(k:Nat)(h:k<P.length):(vG P)[k * 1]? = some (.int .i64 (P.getD k 0:Nat)):=by
 simp[vG,zLS,h]
structure QS (b:List aw) (q j r:Nat) (m:Bool) (L:List En) (P:List Nat):Prop where
 bq:b[q]? = some (.cells [.o j L.length,if P.length=0 then .aI else .o r P.length] 99 true)
 br:P.length≠0→b[r]? = some (.own (vG P) 3 1 P.length true)
 bj:b[j]? = some (.own (L.flatMap enc) 43 14 L.length m)
 rj:P.length≠0→r≠j
def oh (L:List En):List Int:=L.map En.aU
theorem zt (L:List En)(k:Nat)(h:k<L.length):(oh L).getD k 0=L[k].aU:=by simp[oh,zLS,h]
section
variable {b:List aw} {q j r:Nat} {m:Bool} {L:List En} {P:List Nat}
theorem QS.one (h:QS b q j r m L P):Vc.one (if P.length=0 then SV.aI else .o r P.length)=true:=by split <;> rfl
theorem GM (h:QS b q j r m L P):SC Tryz.V 237 [.p q 0] b (fun x b'=>x=.int .i64 P.length∧b'=b):=by
 have hq:=h.bq
 have pb:=(zLK.1 hq).1
 have ho:=h.one
 have hl:∀ e,lO (.slice e) (if P.length=0 then SV.aI else .o r P.length)=some (.int .i64 P.length):=fun e=>by
  split
  ·rename_i h0;rw[h0];rfl
  ·rfl
 refine cV 3000 Tryz.func237 rfl Tryz.ntmps237 Tryz.results237 Tryz.call237 (by simp) (ax b.length _ (by simp[within,within.aS,pb])) ?_
 generalize (if P.length=0 then SV.aI else .o r P.length)=pl at hq ho hl
 simp only[ae,↓Xn,↓Xo,↓Xg,↓Xd,↓Xe,↓Xf,Tryz.VΓ,Tryz.Γs,Xp,Xi,Nat.reduceAdd,Nat.reduceSub,Nat.reduceLT,Nat.reduceLeDiff,reduceIte,reduceCtorEq,Nat.reduceEqDiff,implies_true,forall_const,ad,av,beq_self_eq_true,bne_self_eq_false,Int.reduceBEq,Int.reduceBNe,Int.reduceLT,Int.reduceLE,hq,ho,hl]
theorem Fg (h:QS b q j r m L P){i k:Nat}(hi:i<P.length)(hk:k<P.length)(hP:∀ c,c<P.length→P.getD c 0<L.length) :
 SC Tryz.V 238 [.p q 0,.int .i64 i,.int .i64 k] b (fun x b'=>x=.bool (kP (oh L) (P.getD i 0) (P.getD k 0))∧b'=b):=by
 have h0:P.length≠0:=by omega
 have hq:=h.bq
 rw[if_neg h0]at hq
 have hr:=h.br h0
 have hj:=h.bj
 have hrj:=h.rj h0
 have pb:=(zLK.1 hq).1
 have hqr:r≠q:=by rintro rfl;rw[hq]at hr;cases hr
 have hqj:j≠q:=by rintro rfl;rw[hq]at hj;cases hj
 have a1:=uE P i hi
 have a2:=uE P k hk
 have p1:=hP i hi
 have p2:=hP k hk
 have x1:=zt L _ p1
 have x2:=zt L _ p2
 have il:(vG P).length=P.length:=by simp[vG]
 have el:=aM L
 have g1:(L.flatMap enc)[P.getD i 0 * 14+13]? = some (.int .u64 L[P.getD i 0].aU):=(fX L _ p1 13 (by omega)).trans rfl
 have g2:(L.flatMap enc)[P.getD k 0 * 14+13]? = some (.int .u64 L[P.getD k 0].aU):=(fX L _ p2 13 (by omega)).trans rfl
 unfold kP
 rw[x1,x2]
 refine cV 3000 Tryz.func238 rfl Tryz.ntmps238 Tryz.results238 Tryz.call238 (by simp) (ax b.length _ (by simp[within,within.aS,pb])) ?_
 generalize P.getD i 0=pi at *
 generalize P.getD k 0=pk at *
 cases c1:(L[pi].aU != L[pk].aU)
 ·simp only[ae,↓Xn,↓Xo,↓Xg,↓Xd,↓Xe,↓Xf,Tryz.VΓ,Tryz.Γs,Xp,Xi,Nat.reduceAdd,Nat.reduceSub,Nat.reduceLT,Nat.reduceLeDiff,reduceIte,reduceCtorEq,Nat.reduceEqDiff,implies_true,forall_const,ad,av,beq_self_eq_true,bne_self_eq_false,Int.reduceBEq,Int.reduceBNe,Int.reduceLT,Int.reduceLE,hq,hr,hj,a1,a2,g1,g2,il,el,c1]
  refine⟨⟨by omega,by omega⟩,by omega,⟨by omega,by omega⟩,by omega,aj (by kernel_rfl),⟨by omega,by omega⟩,by omega,⟨by omega,by omega⟩,by omega,aj (by kernel_rfl),?_⟩
  simp
 ·simp only[ae,↓Xn,↓Xo,↓Xg,↓Xd,↓Xe,↓Xf,Tryz.VΓ,Tryz.Γs,Xp,Xi,Nat.reduceAdd,Nat.reduceSub,Nat.reduceLT,Nat.reduceLeDiff,reduceIte,reduceCtorEq,Nat.reduceEqDiff,implies_true,forall_const,ad,av,beq_self_eq_true,bne_self_eq_false,Int.reduceBEq,Int.reduceBNe,Int.reduceLT,Int.reduceLE,hq,hr,hj,a1,a2,g1,g2,il,el,c1]
  exact⟨⟨by omega,by omega⟩,by omega,⟨by omega,by omega⟩,by omega,aj (by kernel_rfl),⟨by omega,by omega⟩,by omega,⟨by omega,by omega⟩,by omega,aj (by kernel_rfl),⟨by omega,by omega⟩,by omega,⟨by omega,by omega⟩,by omega,aj (by kernel_rfl)⟩
theorem VM_Len : Tryz.V.M 96 "Len" = some 237 := by simp [Tryz.V]
theorem VM_Less : Tryz.V.M 96 "Less" = some 238 := by simp [Tryz.V]
theorem EY : Tryz.V.M 96 "Swap" = some 240 := by simp [Tryz.V]
theorem VM_Push : Tryz.V.M 96 "Push" = some 239 := by simp [Tryz.V]
theorem ipl_set (P:List Nat)(i v:Nat):(vG P).set i (.int .i64 v)=vG (P.set i v):=by simp[vG,List.map_set]
theorem QS.swap (h:QS b q j r m L P)(h0:P.length≠0)(P':List Nat)(hl:P'.length=P.length):QS (b.set r (.own (vG P') 3 1 P.length true)) q j r m L P':=by
 have hr:=h.br h0
 have hq:=h.bq
 have hqr:r≠q:=by rintro rfl;rw[hq]at hr;cases hr
 exact⟨by rw[hl];exact aH hq hqr _,fun _=>by rw[hl];exact zLM (zLK.1 hr).1,aH h.bj (h.rj h0) _,fun _=>h.rj h0⟩
theorem Fe (h:QS b q j r m L P){i k:Nat}(hi:i<P.length)(hk:k<P.length) :
 SC Tryz.V 240 [.p q 0,.int .i64 i,.int .i64 k] b (fun x b'=>x=.eR []∧b'=b.set r (.own (vG (mR P i k)) 3 1 P.length true)):=by
 have h0:P.length≠0:=by omega
 have hq:=h.bq
 rw[if_neg h0]at hq
 have hr:=h.br h0
 have pb:=(zLK.1 hq).1
 have hrl:=(zLK.1 hr).1
 have hqr:r≠q:=by rintro rfl;rw[hq]at hr;cases hr
 have a1:=uE P i hi
 have a2:=uE P k hk
 have il:(vG P).length=P.length:=by simp[vG]
 refine cV 3000 Tryz.func240 rfl Tryz.ntmps240 Tryz.results240 Tryz.call240 (by simp) (ax b.length _ (by simp[within,within.aS,pb])) ?_
 have hg:∀ X,(b.set r X)[r]? = some X:=fun X=>zLM hrl
 have hgq:∀ X,(b.set r X)[q]? = some (.cells [.o j L.length,.o r P.length] 99 true):=fun X=>aH hq hqr X
 have sp:∀ (Q:List Nat) (i v:Nat),i<Q.length→List.take (i * 1) (vG Q)++.int .i64 (v:Int)::List.drop (i * 1+1) (vG Q)=vG (Q.set i v):=fun Q i v hi=>by
  rw[Nat.mul_one,← ipl_set,List.set_eq_take_append_cons_drop,if_pos (by simpa[vG] using hi)]
 have s1:=sp P i (P.getD k 0) hi
 have s2:=sp (P.set i (P.getD k 0)) k (P.getD i 0) (by simpa using hk)
 have il2:(vG (P.set i (P.getD k 0))).length=P.length:=by simp[vG]
 simp only[ae,↓Xn,↓Xo,↓Xg,↓Xd,↓Xe,↓Xf,Tryz.VΓ,Tryz.Γs,Xp,Xi,Nat.reduceAdd,Nat.reduceSub,Nat.reduceLT,Nat.reduceLeDiff,reduceIte,reduceCtorEq,Nat.reduceEqDiff,implies_true,forall_const,ad,av,beq_self_eq_true,bne_self_eq_false,Int.reduceBEq,Int.reduceBNe,Int.reduceLT,Int.reduceLE,hq,hr,a1,a2,il,hg,hgq,s1,s2,il2,List.set_set]
 exact⟨⟨by omega,by omega⟩,by omega,⟨by omega,by omega⟩,by omega,⟨by omega,by omega⟩,by omega,⟨by omega,by omega⟩,by omega,aj (by kernel_rfl),rfl⟩
def Jg (q r:Nat)(b b':List aw):Prop:=b.length≤b'.length∧∀ i s,b[i]? = some s→i≠q→i≠r→b'[i]? = some s
theorem Jg.refl (q r:Nat)(b:List aw):Jg q r b b:=⟨Nat.le_refl _,fun _ _ h _ _=>h⟩
theorem Ff (h:QS b q j r m L P)(hP:P.length≤1000000)(n:Nat) :
 SC Tryz.V 239 [.p q 0,.Ek 3 (.int .i64 n)] b (fun x b'=>x=.eR []∧∃ r',b.length≤r'∧QS b' q j r' m L (P++[n])∧Jg q r b b'):=by
 have hq:=h.bq
 have hj:=h.bj
 have pb:=(zLK.1 hq).1
 have mG:=(zLK.1 hj).1
 have hqj:q≠j:=by rintro rfl;rw[hq]at hj;cases hj
 have jD:∀ (l:List aw) X,(b++l).set q X=b.set q X++l:=fun l X=>bX pb l X
 refine cV 3000 Tryz.func239 rfl Tryz.ntmps239 Tryz.results239 Tryz.call239 (by simp) (ax b.length _ (by simp[within,within.aS,pb])) ?_
 by_cases h0:P.length=0
 ·rw[if_pos h0]at hq
  obtain rfl:P=[]:=List.length_eq_zero_iff.1 h0
  simp only[ae,↓Xn,↓Xo,↓Xg,↓Xd,↓Xe,↓Xf,Tryz.VΓ,Tryz.Γs,Xp,Xi,Nat.reduceAdd,Nat.reduceSub,Nat.reduceLT,Nat.reduceLeDiff,reduceIte,reduceCtorEq,Nat.reduceEqDiff,implies_true,forall_const,ad,av,beq_self_eq_true,bne_self_eq_false,Int.reduceBEq,Int.reduceBNe,Int.reduceLT,Int.reduceLE,hq,af hq,jD]
  refine⟨by decide,⟨by decide,by decide⟩,b.length+1,by omega,⟨BN pb _ _,fun _=>bm (by simp) _ 1,af (aH hj hqj _) _,fun _=>by omega⟩,by simp,fun i s hi h1 h2=>af (aH hi (Ne.symm h1) _) _⟩
 ·rw[if_neg h0]at hq
  have hr:=h.br h0
  have hrl:=(zLK.1 hr).1
  have hqr:r≠q:=by rintro rfl;rw[hq]at hr;cases hr
  have hrj:=h.rj h0
  have hsr:∀ (l:List aw) X,(b++l).set r X=b.set r X++l:=fun l X=>bX hrl l X
  have hset2:∀ (l:List aw) Y X,(b.set r Y++l).set q X=(b.set r Y).set q X++l:=fun l Y X=>bX (by simpa using pb) l X
  have Iw:=fun Y=>af (aH hq hqr Y)
  simp only[ae,↓Xn,↓Xo,↓Xg,↓Xd,↓Xe,↓Xf,Tryz.VΓ,Tryz.Γs,Xp,Xi,Nat.reduceAdd,Nat.reduceSub,Nat.reduceLT,Nat.reduceLeDiff,reduceIte,reduceCtorEq,Nat.reduceEqDiff,implies_true,forall_const,ad,av,beq_self_eq_true,bne_self_eq_false,Int.reduceBEq,Int.reduceBNe,Int.reduceLT,Int.reduceLE,hq,af hq,af hr,jD,hsr,hset2,Iw]
  refine⟨by decide,⟨by unfold maxLen;omega,by omega⟩,b.length+1,by omega,⟨?_,fun _=>?_,af (aH (aH hj hrj _) hqj _) _,fun _=>by omega⟩,by simp,fun i s hi h1 h2=>af (aH (aH hi (Ne.symm h2) _) (Ne.symm h1) _) _⟩
  ·rw[if_neg (by simp),zLL];exact BN (by simpa using pb) _ _
  ·rw[bm (by simp)];simp[vG]
end
open Go Vc Go.RowKit Wf
theorem ER:∀ a c:Bytes,decide (Lib.compareBytes a c<0)=blt a c
 | [],[]=>rfl
 | [],_::_=>rfl
 | _::_,[]=>rfl
 | x::a,y::c=>by
   have ih:=ER a c
   simp only[blt]at ih
   by_cases e:x=y
   ·subst e
    simp[Lib.compareBytes,blt,Op.bytesLess,UInt8.lt_irrefl,← ih]
   ·by_cases h:x<y
    ·simp[Lib.compareBytes,blt,Op.bytesLess,h,e]
    ·have h2:y<x:=by
      rcases UInt8.lt_or_eq_of_le (UInt8.not_lt.1 h) with h2|h2
      ·exact h2
      ·exact absurd h2.symm e
     simp[Lib.compareBytes,blt,Op.bytesLess,h,h2,e]
theorem B6:∀ a c:Bytes,(Lib.compareBytes a c==0)=(a==c)
 | [],[]=>rfl
 | [],_::_=>rfl
 | _::_,[]=>rfl
 | x::a,y::c=>by
   have ih:=B6 a c
   simp only[Lib.compareBytes]
   split
   ·rename_i h
    have:x≠y:=by rintro rfl;exact absurd h (UInt8.lt_irrefl _)
    simp[this]
   ·split
    ·rename_i h1 h
     have:x≠y:=by rintro rfl;exact absurd h (UInt8.lt_irrefl _)
     simp[this]
    ·rename_i h1 h2
     have:x=y:=UInt8.le_antisymm (UInt8.not_lt.1 h2) (UInt8.not_lt.1 h1)
     subst this
     rw[ih];simp
theorem Ft (a c:Bytes):PC Tryz.V 58 [.str a,.str c] (.int .i64 (Lib.compareBytes a c)) :=
 ⟨Tryz.call58,by simp[flat,flat.ai],by simp[flat,flat.ai],fun w hE=>(Tryz.strings_Compare ⟨a.toArray⟩ ⟨c.toArray⟩ w).mono fun _ _ ⟨h,k⟩=>⟨by rw[h];rfl,cT k.symm⟩⟩
theorem half2 {k:Nat}:shI .shr .u64 (k:Int) 1=((k / 2:Nat):Int):=by
 show Int.fdiv (k:Int) (2 ^ (1:Int).toNat)=_
 have:(2:Int) ^ (1:Int).toNat=2:=by decide
 rw[this]
 simp[Int.fdiv_eq_ediv]
section
variable {b:List aw} {q g:Nat} {L:List En} {m:Bool} {t:Bytes}
theorem Aj (e:En)(h1:one e.v.tr=true)(hw:within b.length e.v.tr=true):SC Tryz.V 57 [.agg (enc e),.str t] b (fun r b'=>r=.int .i64 (Lib.compareBytes e.key t)∧b'=b):=by
 refine fD rfl ?_
 have he:enc e=[.int .i64 e.v.err,.int .i64 e.v.id.kind,.str e.v.id.text,.str e.v.id.host,.int .i64 e.v.id.port,.int .i64 e.v.cW.kind,.str e.v.cW.text,.str e.v.cW.host,.int .i64 e.v.cW.port,.bool e.v.store,.int .u64 e.v.de,e.v.tr,.int .u64 e.stored,.int .u64 e.aU]:=rfl
 refine cV 3000 Tryz.func57 rfl Tryz.ntmps57 Tryz.results57 Tryz.call57 (by simp) (ax b.length _ (by simp[within,within.aS,he,hw])) ?_
 simp only[ae,↓Xn,↓Xo,↓Xg,↓Xd,↓Xe,↓Xf,Tryz.VΓ,Tryz.Γs,Xp,Xi,Nat.reduceAdd,Nat.reduceSub,Nat.reduceLT,Nat.reduceLeDiff,reduceIte,reduceCtorEq,Nat.reduceEqDiff,implies_true,forall_const,ad,av,beq_self_eq_true,bne_self_eq_false,Int.reduceBEq,Int.reduceBNe,Int.reduceLT,Int.reduceLE,he,h1]
 refine aa (Ft _ _) ?_
 simp only[ae,↓Xn,↓Xo,↓Xg,↓Xd,↓Xe,↓Xf,Tryz.VΓ,Tryz.Γs,Xp,Xi,Nat.reduceAdd,Nat.reduceSub,Nat.reduceLT,Nat.reduceLeDiff,reduceIte,reduceCtorEq,Nat.reduceEqDiff,implies_true,forall_const,ad,av,beq_self_eq_true,bne_self_eq_false,Int.reduceBEq,Int.reduceBNe,Int.reduceLT,Int.reduceLE]
 exact⟨rfl,(Kp.refl _).app _⟩
theorem sc_Bin (hq:b[q]? = some (.own (L.flatMap enc) 43 14 L.length m))(ha:om En.key L)(hl:L.length≤1000000)(uK:∀ e∈L,one e.v.tr=true∧within b.length e.v.tr=true) :
 SC Tryz.V 56 [.o q L.length,.str t,.fn (.func 57) []] b (fun r b'=>r=.eR [.int .i64 (hJ En.key L t),.bool (dQ En.key L t)]∧b'=b):=by
 have pb:=(zLK.1 hq).1
 refine cV 3000 Tryz.func56 rfl Tryz.ntmps56 Tryz.results56 Tryz.call56 (by simp) (ax b.length _ (by simp[within,within.aS,pb])) ?_
 simp only[ae,↓Xn,↓Xo,↓Xg,↓Xd,↓Xe,↓Xf,Tryz.VΓ,Tryz.Γs,Xp,Xi,Nat.reduceAdd,Nat.reduceSub,Nat.reduceLT,Nat.reduceLeDiff,reduceIte,reduceCtorEq,Nat.reduceEqDiff,implies_true,forall_const,ad,av,beq_self_eq_true,bne_self_eq_false,Int.reduceBEq,Int.reduceBNe,Int.reduceLT,Int.reduceLE]
 refine aL (fun σ=>∃ (i j:Nat),lk 0 σ.t=some (.o q L.length)∧lk 1 σ.t=some (.str t)∧lk 2 σ.t=some (.fn (.func 57) [])∧lk 8 σ.t=some (.int .i64 L.length)∧lk 9 σ.t=some (.int .i64 i)∧lk 10 σ.t=some (.int .i64 j)∧i≤hJ En.key L t∧hJ En.key L t≤j∧j≤L.length∧σ.b=b) (fun σ=>ji 10 σ - ji 9 σ) ⟨0,L.length,rfl,rfl,rfl,rfl,rfl,rfl,by omega,zn _ _,by omega,rfl⟩ ?_
 rintro⟨t',b1⟩ ⟨i,j,l0,l1,l2,l8,l9,l10,hi,hj,mG,rfl⟩
 simp only at l0 l1 l2 l8 l9 l10
 rw[az l10,az l9]
 by_cases c:i<j
 ·have ci:decide ((i:Int)<(j:Int))=true:=by simpa using c
  have e2:((i:Int)+(j:Int))=((i+j:Nat):Int):=by omega
  obtain⟨h,hh⟩:∃ h,h=(i+j) / 2:=⟨_,rfl⟩
  have w1:IntKind.u64.wrap ((i+j:Nat):Int)=((i+j:Nat):Int):=by simp only[IntKind.wrap,IntKind.signed,IntKind.bits];simp;omega
  have w2:shI .shr .u64 ((i+j:Nat):Int) 1=(h:Int):=by rw[half2,hh]
  have w3:IntKind.i64.wrap (h:Int)=(h:Int):=by rw[IntKind.wrap_i64];omega
  have hL:h<L.length:=by omega
  have dD:=ir L h hL
  have h0:=uK _ (zLW hL)
  simp only[ae,↓Xn,↓Xo,↓Xg,↓Xd,↓Xe,↓Xf,Tryz.VΓ,Tryz.Γs,Xp,Xi,Nat.reduceAdd,Nat.reduceSub,Nat.reduceLT,Nat.reduceLeDiff,reduceIte,reduceCtorEq,Nat.reduceEqDiff,implies_true,forall_const,ad,av,beq_self_eq_true,bne_self_eq_false,Int.reduceBEq,Int.reduceBNe,Int.reduceLT,Int.reduceLE,l0,l1,l2,l8,l9,l10,ci,hq,e2,w1,w2,w3,dD,Int.toNat_natCast]
  refine⟨by omega,⟨by omega,by omega⟩,by rw[aM];omega,aT (Aj _ h0.1 h0.2) ?_⟩
  rintro x b2 ⟨rfl,rfl⟩
  have Iq:=qJ ha t h hL
  have BJ:=ER (En.key L[h]) t
  cases hb:blt (En.key L[h]) t
  ·rw[hb]at BJ Iq
   simp only[ae,↓Xn,↓Xo,↓Xg,↓Xd,↓Xe,↓Xf,Tryz.VΓ,Tryz.Γs,Xp,Xi,Nat.reduceAdd,Nat.reduceSub,Nat.reduceLT,Nat.reduceLeDiff,reduceIte,reduceCtorEq,Nat.reduceEqDiff,implies_true,forall_const,ad,av,beq_self_eq_true,bne_self_eq_false,Int.reduceBEq,Int.reduceBNe,Int.reduceLT,Int.reduceLE,l0,l1,l2,l8,l9,l10,BJ]
   refine⟨⟨i,h,rfl,rfl,hi,by have:=mt Iq.2 (by simp);omega,by omega⟩,?_⟩
   rw[az (show lk 10 _=some (.int .i64 (h:Int)) from rfl),az (show lk 9 _=some (.int .i64 (i:Int)) from l9)];omega
  ·rw[hb]at BJ Iq
   simp only[ae,↓Xn,↓Xo,↓Xg,↓Xd,↓Xe,↓Xf,Tryz.VΓ,Tryz.Γs,Xp,Xi,Nat.reduceAdd,Nat.reduceSub,Nat.reduceLT,Nat.reduceLeDiff,reduceIte,reduceCtorEq,Nat.reduceEqDiff,implies_true,forall_const,ad,av,beq_self_eq_true,bne_self_eq_false,Int.reduceBEq,Int.reduceBNe,Int.reduceLT,Int.reduceLE,l0,l1,l2,l8,l9,l10,BJ]
   refine⟨by omega,⟨h+1,j,rfl,rfl,by have:=Iq.1 rfl;omega,hj,mG⟩,?_⟩
   rw[az (show lk 10 _=some (.int .i64 (j:Int)) from l10),az (show lk 9 _=some (.int .i64 ((h+1:Nat):Int)) from rfl)];omega
 ·have ci:decide ((i:Int)<(j:Int))=false:=by simpa using c
  obtain rfl:i=hJ En.key L t:=by omega
  by_cases c2:hJ En.key L t<L.length
  ·have ci2:decide (((hJ En.key L t:Nat):Int)<(L.length:Int))=true:=by simpa using c2
   have dD:=ir L _ c2
   have h0:=uK _ (zLW c2)
   simp only[ae,↓Xn,↓Xo,↓Xg,↓Xd,↓Xe,↓Xf,Tryz.VΓ,Tryz.Γs,Xp,Xi,Nat.reduceAdd,Nat.reduceSub,Nat.reduceLT,Nat.reduceLeDiff,reduceIte,reduceCtorEq,Nat.reduceEqDiff,implies_true,forall_const,ad,av,beq_self_eq_true,bne_self_eq_false,Int.reduceBEq,Int.reduceBNe,Int.reduceLT,Int.reduceLE,l0,l1,l2,l8,l9,l10,ci,ci2,hq,dD]
   refine⟨⟨by omega,by omega⟩,by rw[aM];omega,aT (Aj _ h0.1 h0.2) ?_⟩
   rintro x b2 ⟨rfl,rfl⟩
   have hcz:=B6 (En.key L[hJ En.key L t]) t
   have Ig:dQ En.key L t=(En.key L[hJ En.key L t]==t):=by
    rw[Bool.eq_iff_iff,tA ha,beq_iff_eq]
    exact⟨fun⟨_,e⟩=>e,fun e=>⟨c2,e⟩⟩
   simp only[ae,↓Xn,↓Xo,↓Xg,↓Xd,↓Xe,↓Xf,Tryz.VΓ,Tryz.Γs,Xp,Xi,Nat.reduceAdd,Nat.reduceSub,Nat.reduceLT,Nat.reduceLeDiff,reduceIte,reduceCtorEq,Nat.reduceEqDiff,implies_true,forall_const,ad,av,beq_self_eq_true,bne_self_eq_false,Int.reduceBEq,Int.reduceBNe,Int.reduceLT,Int.reduceLE,l0,l1,l2,l8,l9,l10,hcz]
   rw[Ig]
  ·have ci2:decide (((hJ En.key L t:Nat):Int)<(L.length:Int))=false:=by simpa using c2
   simp only[ae,↓Xn,↓Xo,↓Xg,↓Xd,↓Xe,↓Xf,Tryz.VΓ,Tryz.Γs,Xp,Xi,Nat.reduceAdd,Nat.reduceSub,Nat.reduceLT,Nat.reduceLeDiff,reduceIte,reduceCtorEq,Nat.reduceEqDiff,implies_true,forall_const,ad,av,beq_self_eq_true,bne_self_eq_false,Int.reduceBEq,Int.reduceBNe,Int.reduceLT,Int.reduceLE,l0,l1,l2,l8,l9,l10,ci,ci2]
   have Ig:dQ En.key L t=false:=by
    rw[← Bool.not_eq_true,tA ha]
    exact fun⟨h,_⟩=>c2 h
   rw[Ig]
theorem sc_BinN:SC Tryz.V 56 [.aI,.str t,.fn (.func 57) []] b (fun r b'=>r=.eR [.int .i64 0,.bool false]∧b'=b):=by
 refine cV 3000 Tryz.func56 rfl Tryz.ntmps56 Tryz.results56 Tryz.call56 (by simp) (ax b.length _ (by simp[within,within.aS])) ?_
 simp only[ae,↓Xn,↓Xo,↓Xg,↓Xd,↓Xe,↓Xf,Tryz.VΓ,Tryz.Γs,Xp,Xi,Nat.reduceAdd,Nat.reduceSub,Nat.reduceLT,Nat.reduceLeDiff,reduceIte,reduceCtorEq,Nat.reduceEqDiff,implies_true,forall_const,ad,av,beq_self_eq_true,bne_self_eq_false,Int.reduceBEq,Int.reduceBNe,Int.reduceLT,Int.reduceLE]
 refine aL (fun σ=>lk 8 σ.t=some (.int .i64 0)∧lk 9 σ.t=some (.int .i64 0)∧lk 10 σ.t=some (.int .i64 0)∧σ.b=b) (fun σ=>0) ⟨rfl,rfl,rfl,rfl⟩ ?_
 rintro⟨t',b1⟩ ⟨l8,l9,l10,rfl⟩
 simp only at l8 l9 l10
 simp only[ae,↓Xn,↓Xo,↓Xg,↓Xd,↓Xe,↓Xf,Tryz.VΓ,Tryz.Γs,Xp,Xi,Nat.reduceAdd,Nat.reduceSub,Nat.reduceLT,Nat.reduceLeDiff,reduceIte,reduceCtorEq,Nat.reduceEqDiff,implies_true,forall_const,ad,av,beq_self_eq_true,bne_self_eq_false,Int.reduceBEq,Int.reduceBNe,Int.reduceLT,Int.reduceLE,l8,l9,l10]
def hU (b:List aw)(x:SV)(L:List En)(m:Bool):Prop:=(x=.aI∧L=[])∨∃ q,x=.o q L.length∧b[q]? = some (.own (L.flatMap enc) 43 14 L.length m)
theorem hU.one {x:SV}(h:hU b x L m):Vc.one x=true:=by
 rcases h with⟨rfl,-⟩|⟨q,rfl,-⟩ <;> rfl
theorem hU.within {x:SV}(h:hU b x L m):within b.length x=true:=by
 rcases h with⟨rfl,-⟩|⟨q,rfl,hq⟩
 ·rfl
 ·simp[Vc.within,(zLK.1 hq).1]
theorem hU.kp {b':List aw}{x:SV}(h:hU b x L m)(k:Kp b b'):hU b' x L m:=by
 rcases h with h|⟨q,rfl,hq⟩
 ·exact .inl h
 ·exact .inr ⟨q,rfl,k.at hq⟩
theorem yi {x:SV}(h:hU b x L m)(ha:om En.key L)(hl:L.length≤1000000)(uK:∀ e∈L,one e.v.tr=true∧within b.length e.v.tr=true) :
 SC Tryz.V 35 [x,.str t] b (fun r b'=>r=.eR [.int .i64 (hJ En.key L t),.bool (dQ En.key L t)]∧b'=b):=by
 have hw:=h.within
 refine cV 3000 Tryz.func35 rfl Tryz.ntmps35 Tryz.results35 Tryz.call35 (by simp) (fun β β' hb=>ax b.length _ (by simp[within.aS,hw];rfl) β β' hb) ?_
 have ho:=h.one
 rcases h with⟨rfl,rfl⟩|⟨q,rfl,hq⟩
 ·simp only[ae,↓Xn,↓Xo,↓Xg,↓Xd,↓Xe,↓Xf,Tryz.VΓ,Tryz.Γs,Xp,Xi,Nat.reduceAdd,Nat.reduceSub,Nat.reduceLT,Nat.reduceLeDiff,reduceIte,reduceCtorEq,Nat.reduceEqDiff,implies_true,forall_const,ad,av,beq_self_eq_true,bne_self_eq_false,Int.reduceBEq,Int.reduceBNe,Int.reduceLT,Int.reduceLE]
  refine aT sc_BinN ?_
  rintro y b1 ⟨rfl,rfl⟩
  simp only[ae,↓Xn,↓Xo,↓Xg,↓Xd,↓Xe,↓Xf,Tryz.VΓ,Tryz.Γs,Xp,Xi,Nat.reduceAdd,Nat.reduceSub,Nat.reduceLT,Nat.reduceLeDiff,reduceIte,reduceCtorEq,Nat.reduceEqDiff,implies_true,forall_const,ad,av,beq_self_eq_true,bne_self_eq_false,Int.reduceBEq,Int.reduceBNe,Int.reduceLT,Int.reduceLE]
  rfl
 ·simp only[ae,↓Xn,↓Xo,↓Xg,↓Xd,↓Xe,↓Xf,Tryz.VΓ,Tryz.Γs,Xp,Xi,Nat.reduceAdd,Nat.reduceSub,Nat.reduceLT,Nat.reduceLeDiff,reduceIte,reduceCtorEq,Nat.reduceEqDiff,implies_true,forall_const,ad,av,beq_self_eq_true,bne_self_eq_false,Int.reduceBEq,Int.reduceBNe,Int.reduceLT,Int.reduceLE]
  refine aT (sc_Bin hq ha hl uK) ?_
  rintro y b1 ⟨rfl,rfl⟩
  simp only[ae,↓Xn,↓Xo,↓Xg,↓Xd,↓Xe,↓Xf,Tryz.VΓ,Tryz.Γs,Xp,Xi,Nat.reduceAdd,Nat.reduceSub,Nat.reduceLT,Nat.reduceLeDiff,reduceIte,reduceCtorEq,Nat.reduceEqDiff,implies_true,forall_const,ad,av,beq_self_eq_true,bne_self_eq_false,Int.reduceBEq,Int.reduceBNe,Int.reduceLT,Int.reduceLE]
end
end Go.Proofs.YteipdaijbncgeaaGreatDoor
namespace Vc
open Go Go.RowKit Wf
section
variable {V:Cx} {f:FuncId} {args:List SV} {bs:List aw}
theorem zI {β:Nat→Bt}{fp:Nat→Nat→Prop}{w:World}(gC:∀ β',bC bs.length β β'→vE β' fp w bs)(hG:∀ i r,bs[i]? = some r→r.cC=true→∀ k,fp i k→V.G≤k)(hE:V.E w) :
 Wd (V:=V) ⟨0,w,fun k=>∃ i r,bs[i]? = some r∧r.cC=true∧fp i k,hE,fun k ⟨i,r,hi,hm,hk⟩=>hG i r hi hm k hk,β,bs,fun k=>∃ i r,bs[i]? = some r∧fp i k⟩ β fp bs w :=
 ⟨mJ.refl _ _,gC,fun i r hi hm k hk=>.inr ⟨i,r,hi,hm,hk⟩,⟨bC.refl _ _,Nat.le_refl _⟩,fun i r hi k hk=>.inr ⟨i,r,hi,hk⟩⟩
theorem D0 {q:Nat}{c:List SV}{e s n:Nat}(jE:Enters V f)(hq:bs[q]? = some (.own c e s n true)){c2:List SV}{n2:Nat}
 (h:∀ β fp w,(∀ β',bC bs.length β β'→vE β' fp w bs)→V.E w→Calls V.P f (aJ β args).toArray w fun ex w'=>∃ (b2:Bt) (f2:Nat→Prop),ex=.returned (oV b2 n2)∧mJ (fp q) w w' ∧
   (∀ β',bC (bs.length+1) (nO β bs.length b2) β'→Holds β' b2 f2 w' (.own c2 e s n2 true))∧∀ k,f2 k→(fp q k∨w.heap.size≤k)∧k<w'.heap.size) :
 SC V f args bs (fun r b=>r=.o bs.length n2∧b=bs.set q .gone++[.own c2 e s n2 true]):=by
 refine⟨jE,fun β fp w gC hG hE=>?_⟩
 refine(h β fp w gC hE).mono ?_
 rintro ex w' ⟨b2,f2,rfl,jM,hh,Gq⟩
 have mB:=(zI gC hG hE).swap hq rfl jM (.own c2 e s n2 true) b2 f2 hh Gq
 refine⟨.o bs.length n2,_,_,_,⟨rfl,rfl⟩,ez _ _ _,by simp,fun β' hβ=>⟨?_,mB.bx β' hβ⟩,mB.fr,mB.cC,mB.lU⟩
 have:=hβ bs.length (by simp)
 rw[fZ]at this
 simp[ah,← this]
theorem DZ {e s:Nat}(jE:Enters V f){c2:List SV}{n2:Nat}
 (h:∀ β fp w,(∀ β',bC bs.length β β'→vE β' fp w bs)→V.E w→Calls V.P f (aJ β args).toArray w fun ex w'=>∃ (b2:Bt) (f2:Nat→Prop),ex=.returned (oV b2 n2)∧Below w.heap.size w w' ∧
   (∀ β',bC (bs.length+1) (nO β bs.length b2) β'→Holds β' b2 f2 w' (.own c2 e s n2 true))∧∀ k,f2 k→w.heap.size≤k∧k<w'.heap.size) :
 SC V f args bs (fun r b=>r=.o bs.length n2∧b=bs++[.own c2 e s n2 true]):=by
 refine⟨jE,fun β fp w gC hG hE=>?_⟩
 refine(h β fp w gC hE).mono ?_
 rintro ex w' ⟨b2,f2,rfl,hb,hh,Gq⟩
 have mB:=(zI gC hG hE).more hb (.own c2 e s n2 true) b2 f2 hh Gq
 refine⟨.o bs.length n2,_,_,_,⟨rfl,rfl⟩,ez _ _ _,by simp,fun β' hβ=>⟨?_,mB.bx β' hβ⟩,mB.fr,mB.cC,mB.lU⟩
 have:=hβ bs.length (by simp)
 rw[fZ]at this
 simp[ah,← this]
theorem pL {β β':Nat→Bt}{fp:Nat→Nat→Prop}{w:World}(gC:∀ β',bC bs.length β β'→vE β' fp w bs)(hβ:bC bs.length β β'){q:Nat}{c:List SV}{e s n:Nat}{m:Bool}(hq:bs[q]? = some (.own c e s n m)):c.map (ah β)=c.map (ah β'):=by
 have h1:=(gC β (bC.refl _ _)).holds q _ hq
 have h2:=(gC β' hβ).holds q _ hq
 have pb:=(zLK.1 hq).1
 rw[← hβ q pb]at h2
 rcases h1 with⟨-,-,rfl,-⟩|⟨-,-,-,-,l1,-⟩
 ·rfl
 ·rcases h2 with⟨-,-,rfl,-⟩|⟨-,-,-,-,l2,-⟩
  ·rfl
  ·exact qb (by simp) l1 l2
end
end Vc
