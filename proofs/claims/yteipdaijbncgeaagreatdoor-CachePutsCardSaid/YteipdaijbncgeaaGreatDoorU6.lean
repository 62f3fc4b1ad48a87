/- Texts of this claim, laid together: DidV, UriW3, UriN, UrlW2, RefUrl, UrlW3, UrlW4, WebW, WebV, IdentP, AcctW, IdentW, IdentK, IdentM, IdV, CacheP, Pick, Queue, FindC, RowCall. -/
import Derived.Lib.QuietBelow
import Derived.Deep.QuietTactic
import Derived.BigQuiet
import Derived.MapKept
import Derived.WideKeyElems
import Derived.Test.YteipdaijbncgeaaGreatDoorU5
open List renaming getElem?_eq_some_iff → zMR, length_append → zMS, getElem?_set_self → zMT, length_cons → zMU, getElem?_set_ne → zMV, getElem?_append_left → zMW, toArray → zMX, getD_eq_getElem?_getD → zMY, getElem?_append_right → zMZ, length_nil → zM1, take_length → zM3, getElem_mem → zM4, take_succ_eq_append_getElem → zM5, getElem?_eq_none → zM6, length_set → zM7, cons_append → zM8, set_cons_succ → zM9, set_cons_zero → zNa, nil_append → zNb, flatten_cons → zNf, filter_cons_of_pos → zNh, filter_cons_of_neg → zNi, append_nil → zNj, take_of_length_le → zNk, length_singleton → zNl, dropLast_eq_take → zNn, mem_cons_of_mem → zNq, mem_iff_getElem → zNs
open And renaming intro → zNc
open Nat renaming lt_of_lt_of_le → zNd, lt_or_ge → zNg
open Int renaming toNat → zNp
open Bool renaming and_eq_true → zNr
set_option linter.all false
set_option maxHeartbeats 16000000
set_option maxRecDepth 20000
namespace Go.Proofs.YteipdaijbncgeaaGreatDoor
open Go Vc Go.RowKit Wf
theorem sJ (c:UInt8):PC Tryz.V 106 [.int .u8 c.toNat] (.bool (bY c)):=by
 refine aQ 3000 Tryz.func106 rfl Tryz.ntmps106 Tryz.results106 Tryz.call106 (by simp) (by simp[flat,flat.ai]) (by simp[flat,flat.ai]) ?_
 simp only[ad,↓Xn,↓Xo,↓Xg,↓Xd,↓Xe,↓Xf,Tryz.VΓ,Tryz.Γs,Xp,Xi,Nat.reduceAdd,Nat.reduceSub,Nat.reduceLT,Nat.reduceLeDiff,reduceIte,reduceCtorEq,Nat.reduceEqDiff,implies_true,forall_const,aa]
 (refine ae (jr c) ?_;simp only[ad,↓Xn,↓Xo,↓Xg,↓Xd,↓Xe,↓Xf,Tryz.VΓ,Tryz.Γs,Xp,Xi,Nat.reduceAdd,Nat.reduceSub,Nat.reduceLT,Nat.reduceLeDiff,reduceIte,reduceCtorEq,Nat.reduceEqDiff,implies_true,forall_const,aa])
 unfold bY
 refine⟨fun h=>?_,fun h=>by rw[h];rfl⟩
 (refine ae (gP c) ?_;simp only[ad,↓Xn,↓Xo,↓Xg,↓Xd,↓Xe,↓Xf,Tryz.VΓ,Tryz.Γs,Xp,Xi,Nat.reduceAdd,Nat.reduceSub,Nat.reduceLT,Nat.reduceLeDiff,reduceIte,reduceCtorEq,Nat.reduceEqDiff,implies_true,forall_const,aa])
 rw[h]
 refine⟨fun h2=>?_,fun h2=>by rw[h2];rfl⟩
 (refine ae (kx c [46,45,95] (by decide)) ?_;simp only[ad,↓Xn,↓Xo,↓Xg,↓Xd,↓Xe,↓Xf,Tryz.VΓ,Tryz.Γs,Xp,Xi,Nat.reduceAdd,Nat.reduceSub,Nat.reduceLT,Nat.reduceLeDiff,reduceIte,reduceCtorEq,Nat.reduceEqDiff,implies_true,forall_const,aa])
 rw[h2];rfl
theorem CC {s:Bytes}{i:Nat}(h:i<s.length):aN (s.take (i+1))=aN (s.take i)++gW s[i]:=by
 unfold aN
 rw[zM5 h,List.flatMap_append,List.flatMap_cons,List.flatMap_nil,zNj]
theorem Ep {n m k:Nat}:∀ {l:List Bytes},l.length≤n→(∀ y∈l,y.length≤m)→n * m≤k→l.flatten.length≤k:=by
 have:∀ (l:List Bytes),(∀ y∈l,y.length≤m)→l.flatten.length≤l.length * m:=by
  intro l
  induction l with
  | nil=>simp
  | cons x l ih =>
    intro h
    have h1:=h x List.mem_cons_self
    have h2:=ih (fun y hy=>h y (zNq _ hy))
    rw[zNf,zMS,zMU,Nat.add_mul]
    omega
 intro l h1 h2 h3
 have:=this l h2
 exact Nat.le_trans this (Nat.le_trans (Nat.mul_le_mul_right _ h1) h3)
theorem tD (s:Bytes)(i:Nat):(aN (s.take i)).length≤3 * s.length:=by
 have:=fB (s.take i)
 have:(s.take i).length≤s.length:=by simp;omega
 omega
theorem kJ (s:Bytes)(hs:s.length≤1000000):PC Tryz.V 107 [.str s] (.str (aN s)):=by
 refine aQ 3000 Tryz.func107 rfl Tryz.ntmps107 Tryz.results107 Tryz.call107 (by simp) (by simp[flat,flat.ai]) (by simp[flat,flat.ai]) ?_
 simp only[ad,↓Xn,↓Xo,↓Xg,↓Xd,↓Xe,↓Xf,Tryz.VΓ,Tryz.Γs,Xp,Xi,Nat.reduceAdd,Nat.reduceSub,Nat.reduceLT,Nat.reduceLeDiff,reduceIte,reduceCtorEq,Nat.reduceEqDiff,implies_true,forall_const,aa]
 refine aM (fun σ=>∃ i:Nat,i≤s.length∧lk 0 σ.t=some (.str s)∧lk 3 σ.t=some (.str (aN (s.take i)))∧lk 4 σ.t=some (.int .i64 i)) (fun σ=>s.length - ja 4 σ) ⟨0,by omega,rfl,rfl,rfl⟩ ?_
 rintro⟨t,b⟩ ⟨i,hi,h0,h3,h4⟩
 simp only at h0 h3 h4
 rw[az h4]
 have mJ:=tD s i
 by_cases aB:i<s.length
 ·have hg:s.getD i 0=s[i]:=by simp[List.getD,aB]
  have next:∀ (x:Bytes) (t':List (Nat × SV)),x=gW s[i]→lk 4 t'=some (.int .i64 ((i:Int)+1)) →
   (∃ k:Nat,k≤s.length∧SV.str (aN (s.take i)++x)=SV.str (aN (s.take k))∧SV.int IntKind.i64 ((i:Int)+1)=SV.int IntKind.i64 (k:Int))∧s.length - ja 4 ⟨t',b⟩<s.length - (i:Int).toNat:=fun x t' hx k4 =>
   ⟨⟨i+1,by omega,by rw[CC aB,hx],rfl⟩,by rw[az (σ:=⟨t',b⟩) k4];omega⟩
  simp only[ad,↓Xn,↓Xo,↓Xg,↓Xd,↓Xe,↓Xf,Tryz.VΓ,Tryz.Γs,Xp,Xi,Nat.reduceAdd,Nat.reduceSub,Nat.reduceLT,Nat.reduceLeDiff,reduceIte,reduceCtorEq,Nat.reduceEqDiff,implies_true,forall_const,aa,h0,h3,h4,hg]
  refine⟨fun _=>⟨⟨by omega,by omega⟩,?_⟩,fun h=>absurd h (by simp;omega)⟩
  (refine ae (sJ s[i]) ?_;simp only[ad,↓Xn,↓Xo,↓Xg,↓Xd,↓Xe,↓Xf,Tryz.VΓ,Tryz.Γs,Xp,Xi,Nat.reduceAdd,Nat.reduceSub,Nat.reduceLT,Nat.reduceLeDiff,reduceIte,reduceCtorEq,Nat.reduceEqDiff,implies_true,forall_const,aa,h0,h3,h4,hg])
  refine⟨fun hp=>⟨by omega,⟨by omega,by omega,by omega⟩,by rw[sub_one aB,zNl];omega,⟨by omega,by omega⟩,next _ _ (by rw[sub_one aB,show gW s[i]=[s[i]] from if_pos hp]) rfl⟩,fun hp=>⟨⟨by omega,by omega⟩,?_⟩⟩
  (refine ae (kv s[i]) ?_;simp only[ad,↓Xn,↓Xo,↓Xg,↓Xd,↓Xe,↓Xf,Tryz.VΓ,Tryz.Γs,Xp,Xi,Nat.reduceAdd,Nat.reduceSub,Nat.reduceLT,Nat.reduceLeDiff,reduceIte,reduceCtorEq,Nat.reduceEqDiff,implies_true,forall_const,aa,h0,h3,h4,hg])
  exact⟨by rw[show (ka s[i]).length=3 from rfl];omega,⟨by omega,by omega⟩,next _ _ (by rw[show gW s[i]=ka s[i] from if_neg (by rw[hp];simp)]) rfl⟩
 ·have jv:i=s.length:=by omega
  subst jv
  rw[zM3]at h3
  simp only[ad,↓Xn,↓Xo,↓Xg,↓Xd,↓Xe,↓Xf,Tryz.VΓ,Tryz.Γs,Xp,Xi,Nat.reduceAdd,Nat.reduceSub,Nat.reduceLT,Nat.reduceLeDiff,reduceIte,reduceCtorEq,Nat.reduceEqDiff,implies_true,forall_const,aa,h0,h3,h4]
  exact fun h=>absurd h (by simp)
theorem zh (s:Bytes)(hs:s.length≤1000000):PC Tryz.V 105 [.str s] (.bool (dJ s)):=by
 refine aQ 3000 Tryz.func105 rfl Tryz.ntmps105 Tryz.results105 Tryz.call105 (by simp) (by simp[flat,flat.ai]) (by simp[flat,flat.ai]) ?_
 simp only[ad,↓Xn,↓Xo,↓Xg,↓Xd,↓Xe,↓Xf,Tryz.VΓ,Tryz.Γs,Xp,Xi,Nat.reduceAdd,Nat.reduceSub,Nat.reduceLT,Nat.reduceLeDiff,reduceIte,reduceCtorEq,Nat.reduceEqDiff,implies_true,forall_const,aa]
 refine aM (fun σ=>∃ i:Nat,i≤s.length∧lk 0 σ.t=some (.str s)∧lk 3 σ.t=some (.int .i64 i)∧(s.take i).all fc=true) (fun σ=>s.length - ja 3 σ) ⟨0,by omega,rfl,rfl,rfl⟩ ?_
 rintro⟨t,b⟩ ⟨i,hi,h0,h3,bZ⟩
 simp only at h0 h3
 rw[az h3]
 by_cases aB:i<s.length
 ·have hg:s.getD i 0=s[i]:=by simp[List.getD,aB]
  have jO:fc s[i]=false→dJ s=false:=fun h=>by
   unfold dJ
   rw[cW aB h,Bool.and_false]
  simp only[ad,↓Xn,↓Xo,↓Xg,↓Xd,↓Xe,↓Xf,Tryz.VΓ,Tryz.Γs,Xp,Xi,Nat.reduceAdd,Nat.reduceSub,Nat.reduceLT,Nat.reduceLeDiff,reduceIte,reduceCtorEq,Nat.reduceEqDiff,implies_true,forall_const,aa,h0,h3,hg]
  refine⟨fun _=>⟨⟨by omega,by omega⟩,?_⟩,fun h=>absurd h (by simp;omega)⟩
  (refine ae (gP s[i]) ?_;simp only[ad,↓Xn,↓Xo,↓Xg,↓Xd,↓Xe,↓Xf,Tryz.VΓ,Tryz.Γs,Xp,Xi,Nat.reduceAdd,Nat.reduceSub,Nat.reduceLT,Nat.reduceLeDiff,reduceIte,reduceCtorEq,Nat.reduceEqDiff,implies_true,forall_const,aa,h0,h3,hg])
  have fin:fc s[i]=true→∀ (t':List (Nat × SV)),lk 3 t'=some (.int .i64 ((i:Int)+1))→(∃ k:Nat,k≤s.length∧SV.int IntKind.i64 ((i:Int)+1)=SV.int IntKind.i64 (k:Int)∧(s.take k).all fc=true)∧s.length - ja 3 ⟨t',b⟩<s.length - (i:Int).toNat:=fun hm t' k6 =>
   ⟨⟨i+1,by omega,rfl,aP aB bZ hm⟩,by rw[az (σ:=⟨t',b⟩) k6];omega⟩
  cases hd:isDigit s[i]
  ·refine⟨fun _=>⟨⟨by omega,by omega⟩,fun h1=>⟨⟨by omega,by omega⟩,fun h2=>?_,fun h2=>⟨⟨by omega,by omega⟩,fin ?_ _ rfl⟩⟩,fun h1=>?_⟩,fun h=>(by cases h)⟩
   ·rw[jO (by rw[iv _ hd];simp at h1 h2 ⊢;omega)]
   ·rw[iv _ hd];simp at h1 h2 ⊢;omega
   ·rw[jO (by rw[iv _ hd];simp at h1 ⊢;omega)]
  ·exact⟨fun h=>(by cases h),fun _=>⟨⟨by omega,by omega⟩,fin (by unfold fc;rw[hd];rfl) _ rfl⟩⟩
 ·have jv:i=s.length:=by omega
  subst jv
  rw[zM3]at bZ
  simp only[ad,↓Xn,↓Xo,↓Xg,↓Xd,↓Xe,↓Xf,Tryz.VΓ,Tryz.Γs,Xp,Xi,Nat.reduceAdd,Nat.reduceSub,Nat.reduceLT,Nat.reduceLeDiff,reduceIte,reduceCtorEq,Nat.reduceEqDiff,implies_true,forall_const,aa,h0,h3]
  refine⟨fun h=>absurd h (by simp),fun _=>?_⟩
  unfold dJ
  rw[bZ,Bool.and_true]
  cases s <;> rfl
theorem nC (s:Bytes):PC Tryz.V 78 [.str s] (.eS [fj (aY s).1,.int .i64 (aY s).2]):=by
 refine aQ 3000 Tryz.func78 rfl Tryz.ntmps78 Tryz.results78 Tryz.call78 (by simp) (by simp[flat,flat.ai,fj,dusv]) (by simp[flat,flat.ai,fj,dusv]) ?_
 simp only[ad,↓Xn,↓Xo,↓Xg,↓Xd,↓Xe,↓Xf,Tryz.VΓ,Tryz.Γs,Xp,Xi,Nat.reduceAdd,Nat.reduceSub,Nat.reduceLT,Nat.reduceLeDiff,reduceIte,reduceCtorEq,Nat.reduceEqDiff,implies_true,forall_const,aa]
 unfold aY
 refine⟨fun h=>?_,fun h=>?_⟩
 ·have h:4096<s.length:=(by simp at h;omega)
  rw[if_pos h];rfl
 have h:¬ 4096<s.length:=(by simp at h;omega)
 rw[if_neg h]
 have pp:=bR s kb
 rw[show Lib.hasPrefix s kb=kb.isPrefixOf s from rfl]at pp
 (refine ae pp ?_;simp only[ad,↓Xn,↓Xo,↓Xg,↓Xd,↓Xe,↓Xf,Tryz.VΓ,Tryz.Γs,Xp,Xi,Nat.reduceAdd,Nat.reduceSub,Nat.reduceLT,Nat.reduceLeDiff,reduceIte,reduceCtorEq,Nat.reduceEqDiff,implies_true,forall_const,aa])
 refine⟨fun h2=>(by rw[if_pos (by simpa using h2)];rfl),fun h2=>?_⟩
 have h2:kb.isPrefixOf s=true:=by simpa using h2
 rw[if_neg (by rw[h2];simp),show zNp 4=4 from rfl]
 have hS:(s.drop 4).length≤4096:=by simp;omega
 refine⟨⟨by omega,?_⟩,?_⟩
 ·have:=(List.isPrefixOf_iff_prefix.1 h2).length_le
  rw[show kb.length=4 from rfl]at this
  omega
 generalize s.drop 4=S at hS ⊢
 have pi:=bl S [58] (by omega) (by decide)
 rw[dY]at pi
 (refine ae pi ?_;simp only[ad,↓Xn,↓Xo,↓Xg,↓Xd,↓Xe,↓Xf,Tryz.VΓ,Tryz.Γs,Xp,Xi,Nat.reduceAdd,Nat.reduceSub,Nat.reduceLT,Nat.reduceLeDiff,reduceIte,reduceCtorEq,Nat.reduceEqDiff,implies_true,forall_const,aa])
 have gd:=cx (·==58) S
 unfold mo
 refine⟨fun h3=>?_,fun h3=>?_⟩
 ·have h3:pre (·==58) S=S.length:=by simp at h3;omega
  rw[fK h3,if_pos rfl];rfl
 have h3:¬ pre (·==58) S=S.length:=by simp at h3;omega
 rw[show aL 58 S=(S.take (pre (·==58) S),S.drop (pre (·==58) S+1),true) from if_pos (by omega)]
 refine⟨⟨by omega,by omega⟩,?_⟩
 simp only[Int.toNat_natCast]
 have pm:=zh (S.take (pre (·==58) S)) (by simp;omega)
 (refine ae pm ?_;simp only[ad,↓Xn,↓Xo,↓Xg,↓Xd,↓Xe,↓Xf,Tryz.VΓ,Tryz.Γs,Xp,Xi,Nat.reduceAdd,Nat.reduceSub,Nat.reduceLT,Nat.reduceLeDiff,reduceIte,reduceCtorEq,Nat.reduceEqDiff,implies_true,forall_const,aa])
 refine⟨fun h4=>?_,fun h4=>?_⟩
 ·rw[if_pos (by simpa using h4)];rfl
 rw[if_neg (by simpa using h4),CD]
 have hM:(S.drop (pre (·==58) S+1)).length≤4096:=by simp;omega
 generalize S.drop (pre (·==58) S+1)=I at hM ⊢
 refine⟨⟨by omega,by omega⟩,⟨by omega,by omega⟩,?_⟩
 have ye:=im 58 I
 have hct:=iI 58 I
 have hcc:=List.count_le_length (a:=(58:UInt8)) (l:=I)
 refine aJ (qh I 58 (by omega)) ?_
 rintro r b ⟨j,rfl,lN,hj,cw⟩
 generalize aC 58 I=L at *
 simp only at lN hj cw
 have eV:=cw.at (j:=0) rfl
 simp only[ad,↓Xn,↓Xo,↓Xg,↓Xd,↓Xe,↓Xf,Tryz.VΓ,Tryz.Γs,Xp,Xi,Nat.reduceAdd,Nat.reduceSub,Nat.reduceLT,Nat.reduceLeDiff,reduceIte,reduceCtorEq,Nat.reduceEqDiff,implies_true,forall_const,aa,hj]
 refine aM (fun σ=>∃ k:Nat,k≤L.length∧lk 0 σ.t=some (.str S)∧lk 2 σ.t=some (.p 0 0)∧lk 3 σ.t=some (.int .i64 0)∧lk 4 σ.t=some (.int .i64 (pre (·==58) S))∧lk 5 σ.t=some (.o j L.length)∧lk 46 σ.t=some (.o j L.length)∧lk 47 σ.t=some (.int .i64 L.length)∧lk 48 σ.t=some (.int .i64 k) ∧
  σ.b[0]? = some (.cells [.str [],.str []] 123 true)∧σ.b[j]? = some (.own (L.map SV.str) 9 1 L.length true)∧∀ y∈L.take k,PU.bad ∉ aA y) (fun σ=>L.length - ja 48 σ) ⟨0,by omega,rfl,rfl,rfl,rfl,rfl,rfl,rfl,rfl,eV,hj,by simp⟩ ?_
 clear eV hj cw
 rintro⟨t,b⟩ ⟨k,hk,h0,h2,h3,h4,h5,h46,GO,h48,eV,hj,bZ⟩
 simp only at h0 h2 h3 h4 h5 h46 GO h48 eV hj
 rw[az h48]
 have eN:∀ X,(b.set 0 X)[0]? = some X:=fun X=>zMT (zMR.1 eV).1
 by_cases aB:k<L.length
 ·have hx:(L.map SV.str)[k * 1]? = some (.str L[k]):=by simp[aB]
  have D6:=ye L[k] (zM4 aB)
  have pd:=fk L[k]
  rw[mu (by omega)]at pd
  simp only[ad,↓Xn,↓Xo,↓Xg,↓Xd,↓Xe,↓Xf,Tryz.VΓ,Tryz.Γs,Xp,Xi,Nat.reduceAdd,Nat.reduceSub,Nat.reduceLT,Nat.reduceLeDiff,reduceIte,reduceCtorEq,Nat.reduceEqDiff,implies_true,forall_const,aa,h0,h2,h3,h4,h5,h46,GO,h48,eV,hj,eN,hx]
  refine⟨fun _=>⟨⟨by omega,by omega⟩,by simp;omega,?_⟩,fun h=>absurd h (by simp;omega)⟩
  by_cases jO:PU.bad∈aA L[k]
  ·rw[if_pos jO]at pd
   rw[if_pos ⟨_,zM4 aB,jO⟩]
   (refine ae pd ?_;simp only[ad,↓Xn,↓Xo,↓Xg,↓Xd,↓Xe,↓Xf,Tryz.VΓ,Tryz.Γs,Xp,Xi,Nat.reduceAdd,Nat.reduceSub,Nat.reduceLT,Nat.reduceLeDiff,reduceIte,reduceCtorEq,Nat.reduceEqDiff,implies_true,forall_const,aa,h0,h2,h3,h4,h5,h46,GO,h48,eV,hj,eN,hx,beq_self_eq_true,bne_self_eq_false,Int.reduceBEq,Int.reduceBNe,Int.reduceLT,Int.reduceLE])
   rfl
  ·rw[if_neg jO]at pd
   (refine ae pd ?_;simp only[ad,↓Xn,↓Xo,↓Xg,↓Xd,↓Xe,↓Xf,Tryz.VΓ,Tryz.Γs,Xp,Xi,Nat.reduceAdd,Nat.reduceSub,Nat.reduceLT,Nat.reduceLeDiff,reduceIte,reduceCtorEq,Nat.reduceEqDiff,implies_true,forall_const,aa,h0,h2,h3,h4,h5,h46,GO,h48,eV,hj,eN,hx,beq_self_eq_true,bne_self_eq_false,Int.reduceBEq,Int.reduceBNe,Int.reduceLT,Int.reduceLE])
   refine⟨⟨by omega,by omega⟩,⟨k+1,by omega,rfl,fun y hy=>?_⟩,?_⟩
   ·rw[zM5 aB]at hy
    rcases List.mem_append.1 hy with hy|hy
    ·exact bZ y hy
    ·rw[List.mem_singleton.1 hy];exact jO
   ·rw[az (k:=.i64) (n:=(k:Int)+1) rfl];omega
 ·have jv:k=L.length:=by omega
  subst jv
  rw[zM3]at bZ
  rw[if_neg (fun⟨y,hy,hb⟩=>bZ y hy hb)]
  simp only[ad,↓Xn,↓Xo,↓Xg,↓Xd,↓Xe,↓Xf,Tryz.VΓ,Tryz.Γs,Xp,Xi,Nat.reduceAdd,Nat.reduceSub,Nat.reduceLT,Nat.reduceLeDiff,reduceIte,reduceCtorEq,Nat.reduceEqDiff,implies_true,forall_const,aa,h0,h2,h3,h4,h5,h46,GO,h48,eV,hj,eN]
  refine⟨fun h=>absurd h (by simp),fun _=>?_⟩
  have hbad2:∀ y∈L,PU.bad ∉ aA y:=bZ
  clear bZ h46 GO h48 aB hk
  refine aM (fun σ=>∃ k:Nat,k≤L.length∧lk 0 σ.t=some (.str S)∧lk 2 σ.t=some (.p 0 0)∧lk 3 σ.t=some (.int .i64 0)∧lk 4 σ.t=some (.int .i64 (pre (·==58) S))∧lk 5 σ.t=some (.o j L.length)∧lk 61 σ.t=some (.o j L.length)∧lk 62 σ.t=some (.int .i64 L.length)∧lk 63 σ.t=some (.int .i64 k)∧lk 10 σ.t=some (.str (eK (L.take k))) ∧
   σ.b[0]? = some (.cells [.str [],.str []] 123 true)∧σ.b[j]? = some (.own (L.map SV.str) 9 1 L.length true)∧(L.take k).all dG=true) (fun σ=>L.length - ja 63 σ) ⟨0,by omega,h0,h2,h3,h4,h5,rfl,rfl,rfl,rfl,eV,hj,rfl⟩ ?_
  clear eV hj h0 h2 h3 h4 h5 eN
  rintro⟨t,b⟩ ⟨k,hk,h0,h2,h3,h4,h5,GN,GM,tB,fy,eV,hj,bZ⟩
  simp only at h0 h2 h3 h4 h5 GN GM tB fy eV hj
  have eN:∀ X,(b.set 0 X)[0]? = some X:=fun X=>zMT (zMR.1 eV).1
  rw[az tB]
  by_cases aB:k<L.length
  ·have hx:(L.map SV.str)[k * 1]? = some (.str L[k]):=by simp[aB]
   have D6:=ye L[k] (zM4 aB)
   have hxb:=hbad2 L[k] (zM4 aB)
   simp only[ad,↓Xn,↓Xo,↓Xg,↓Xd,↓Xe,↓Xf,Tryz.VΓ,Tryz.Γs,Xp,Xi,Nat.reduceAdd,Nat.reduceSub,Nat.reduceLT,Nat.reduceLeDiff,reduceIte,reduceCtorEq,Nat.reduceEqDiff,implies_true,forall_const,aa,h0,h2,h3,h4,h5,GN,GM,tB,fy,eV,hj,eN,hx]
   refine⟨fun _=>⟨⟨by omega,by omega⟩,by simp;omega,?_⟩,fun h=>absurd h (by simp;omega)⟩
   have hidl:=yI (L.take k)
   have hid2:(L.take k).flatten.length≤4097 * 4097:=Ep (n:=4097) (m:=4097) (by simp;omega) (fun y hy=>by have:=ye y (List.mem_of_mem_take hy);omega) (Nat.le_refl _)
   have IY:(L.take k).length≤4097:=by simp;omega
   have hsj:=wB aB
   have hxa:dG L[k]=false→L.all dG=false:=fun h=>cW aB h
   have hxo:dG L[k]=true→(L.take (k+1)).all dG=true:=fun h=>aP aB bZ h
   clear bZ
   generalize L[k]=x at *
   refine aM (fun σ=>∃ i:Nat,i≤x.length∧lk 0 σ.t=some (.str S)∧lk 2 σ.t=some (.p 0 0)∧lk 3 σ.t=some (.int .i64 0)∧lk 4 σ.t=some (.int .i64 (pre (·==58) S))∧lk 5 σ.t=some (.o j L.length)∧lk 61 σ.t=some (.o j L.length)∧lk 62 σ.t=some (.int .i64 L.length)∧lk 63 σ.t=some (.int .i64 k)∧lk 11 σ.t=some (.int .i64 k)∧lk 10 σ.t=some (.str (eK (L.take k)))∧lk 12 σ.t=some (.str x)∧lk 13 σ.t=some (.int .i64 i) ∧
    σ.b[0]? = some (.cells [.str [],.str []] 123 true)∧σ.b[j]? = some (.own (L.map SV.str) 9 1 L.length true)∧(x.take i).all (fun c=>bY c||c==37)=true) (fun σ=>x.length - ja 13 σ) ⟨0,by omega,h0,h2,h3,h4,h5,GN,GM,tB,rfl,fy,rfl,rfl,eV,hj,rfl⟩ ?_
   clear eV hj h0 h2 h3 h4 h5 eN GN GM tB fy
   rintro⟨t,b⟩ ⟨i,hi,h0,h2,h3,h4,h5,GN,GM,tB,JA,fy,h12,h13,eV,hj,bZ⟩
   simp only at h0 h2 h3 h4 h5 GN GM tB JA fy h12 h13 eV hj
   have eN:∀ X,(b.set 0 X)[0]? = some X:=fun X=>zMT (zMR.1 eV).1
   rw[az h13]
   by_cases eh:i<x.length
   ·have hg:x.getD i 0=x[i]:=by simp[List.getD,eh]
    simp only[ad,↓Xn,↓Xo,↓Xg,↓Xd,↓Xe,↓Xf,Tryz.VΓ,Tryz.Γs,Xp,Xi,Nat.reduceAdd,Nat.reduceSub,Nat.reduceLT,Nat.reduceLeDiff,reduceIte,reduceCtorEq,Nat.reduceEqDiff,implies_true,forall_const,aa,h0,h2,h3,h4,h5,GN,GM,tB,fy,eV,hj,eN,JA,h12,h13,hg]
    refine⟨fun _=>⟨⟨by omega,by omega⟩,?_⟩,fun h=>absurd h (by simp;omega)⟩
    (refine ae (sJ x[i]) ?_;simp only[ad,↓Xn,↓Xo,↓Xg,↓Xd,↓Xe,↓Xf,Tryz.VΓ,Tryz.Γs,Xp,Xi,Nat.reduceAdd,Nat.reduceSub,Nat.reduceLT,Nat.reduceLeDiff,reduceIte,reduceCtorEq,Nat.reduceEqDiff,implies_true,forall_const,aa,h0,h2,h3,h4,h5,GN,GM,tB,fy,eV,hj,eN,JA,h12,h13,hg])
    have hb37:=cH eh 37 (n:=37) rfl
    have hb38:((x[i].toNat:Int) != 37)=(x[i] != 37):=by
     show (!_)=(!_);rw[← hb37,hg]
    rw[hb38]
    have fin:(bY x[i]||x[i]==37)=true→∀ (t':List (Nat × SV)),lk 13 t'=some (.int .i64 ((i:Int)+1))→(∃ m:Nat,m≤x.length∧SV.int IntKind.i64 ((i:Int)+1)=SV.int IntKind.i64 (m:Int)∧(x.take m).all (fun c=>bY c||c==37)=true)∧x.length - ja 13 ⟨t',b⟩<x.length - (i:Int).toNat:=fun hm t' k6 =>
     ⟨⟨i+1,by omega,rfl,aP eh bZ hm⟩,by rw[az (σ:=⟨t',b⟩) k6];omega⟩
    refine⟨fun hp=>⟨⟨by omega,by omega⟩,fun wu=>?_,fun wu=>⟨⟨by omega,by omega⟩,fin ?_ _ rfl⟩⟩,fun hp=>⟨⟨by omega,by omega⟩,fin ?_ _ rfl⟩⟩
    ·rw[if_pos (hxa (cW eh (by simp at hp wu ⊢;exact⟨hp,wu⟩)))];rfl
    ·simp at wu ⊢;exact .inr wu
    ·simp at hp ⊢;exact .inl hp
   ·have jv:i=x.length:=by omega
    subst jv
    rw[zM3]at bZ
    have pd:=fk x
    rw[mu (by omega),if_neg hxb]at pd
    simp only at pd
    have pe:=kJ (jw x) (by have:=jS x;omega)
    have pQ:=fB (jw x)
    have hdl2:=jS x
    simp only[ad,↓Xn,↓Xo,↓Xg,↓Xd,↓Xe,↓Xf,Tryz.VΓ,Tryz.Γs,Xp,Xi,Nat.reduceAdd,Nat.reduceSub,Nat.reduceLT,Nat.reduceLeDiff,reduceIte,reduceCtorEq,Nat.reduceEqDiff,implies_true,forall_const,aa,h0,h2,h3,h4,h5,GN,GM,tB,fy,eV,hj,eN,JA,h12,h13]
    refine⟨fun h=>absurd h (by simp),fun _=>?_⟩
    have hxp:dG x=true:=bZ
    (refine ae pd ?_;simp only[ad,↓Xn,↓Xo,↓Xg,↓Xd,↓Xe,↓Xf,Tryz.VΓ,Tryz.Γs,Xp,Xi,Nat.reduceAdd,Nat.reduceSub,Nat.reduceLT,Nat.reduceLeDiff,reduceIte,reduceCtorEq,Nat.reduceEqDiff,implies_true,forall_const,aa,h0,h2,h3,h4,h5,GN,GM,tB,fy,eV,hj,eN,JA,h12,h13,beq_self_eq_true,bne_self_eq_false,Int.reduceBEq,Int.reduceBNe,Int.reduceLT,Int.reduceLE])
    refine⟨fun h0k=>⟨by omega,?_⟩,fun h0k=>?_⟩
    ·(refine ae pe ?_;simp only[ad,↓Xn,↓Xo,↓Xg,↓Xd,↓Xe,↓Xf,Tryz.VΓ,Tryz.Γs,Xp,Xi,Nat.reduceAdd,Nat.reduceSub,Nat.reduceLT,Nat.reduceLeDiff,reduceIte,reduceCtorEq,Nat.reduceEqDiff,implies_true,forall_const,aa,h0,h2,h3,h4,h5,GN,GM,tB,fy,eV,hj,eN,JA,h12,h13])
     refine⟨by simp;omega,⟨by omega,by omega⟩,⟨k+1,by omega,rfl,?_,hxo hxp⟩,?_⟩
     ·rw[hsj,if_neg (by simp at h0k;omega)]
     ·rw[az (k:=.i64) (n:=(k:Int)+1) rfl];omega
    ·(refine ae pe ?_;simp only[ad,↓Xn,↓Xo,↓Xg,↓Xd,↓Xe,↓Xf,Tryz.VΓ,Tryz.Γs,Xp,Xi,Nat.reduceAdd,Nat.reduceSub,Nat.reduceLT,Nat.reduceLeDiff,reduceIte,reduceCtorEq,Nat.reduceEqDiff,implies_true,forall_const,aa,h0,h2,h3,h4,h5,GN,GM,tB,fy,eV,hj,eN,JA,h12,h13])
     refine⟨by omega,⟨by omega,by omega⟩,⟨k+1,by omega,rfl,?_,hxo hxp⟩,?_⟩
     ·rw[hsj,if_pos (by simp at h0k;omega),zNj]
     ·rw[az (k:=.i64) (n:=(k:Int)+1) rfl];omega
  ·have jv:k=L.length:=by omega
   subst jv
   rw[zM3]at bZ fy
   rw[if_neg (by rw[bZ];simp)]
   have hL0:0<L.length:=by omega
   have hz:(L.map SV.str)[((L.length:Int) - 1).toNat * 1]? = some (.str (L[L.length - 1]'(by omega))):=by
    rw[show ((L.length:Int) - 1).toNat * 1=L.length - 1 by omega]
    simp[hL0]
   have C3:L.getLast? = some (L[L.length - 1]'(by omega)):=by rw[List.getLast?_eq_getElem?];simp[hL0]
   rw[C3]
   generalize L[L.length - 1]'(by omega)=z at hz
   simp only[Option.some.injEq]
   have hpl2:=cx (·==58) S
   simp only[ad,↓Xn,↓Xo,↓Xg,↓Xd,↓Xe,↓Xf,Tryz.VΓ,Tryz.Γs,Xp,Xi,Nat.reduceAdd,Nat.reduceSub,Nat.reduceLT,Nat.reduceLeDiff,reduceIte,reduceCtorEq,Nat.reduceEqDiff,implies_true,forall_const,aa,h0,h2,h3,h4,h5,GN,GM,tB,fy,eV,hj,eN,hz]
   refine⟨fun h=>absurd h (by simp),fun _=>⟨⟨by omega,by omega⟩,⟨by omega,by omega⟩,by simp;omega,fun h=>?_,fun h=>?_⟩⟩
   ·rw[if_pos (by simpa using h)];rfl
   ·rw[if_neg (by simpa using h)]
    exact⟨⟨by omega,by omega⟩,rfl⟩
theorem ga (d:fU)(h:eG d):PC Tryz.V 81 [fj d] (.str (bA d)):=by
 obtain⟨m,i⟩:=d
 simp only[eG]at h
 refine aQ 3000 Tryz.func81 rfl Tryz.ntmps81 Tryz.results81 Tryz.call81 (by simp) (by simp[flat,flat.ai,fj,dusv]) (by simp[flat,flat.ai,fj,dusv]) ?_
 unfold fj
 simp only[ad,↓Xn,↓Xo,↓Xg,↓Xd,↓Xe,↓Xf,Tryz.VΓ,Tryz.Γs,Xp,Xi,Nat.reduceAdd,Nat.reduceSub,Nat.reduceLT,Nat.reduceLeDiff,reduceIte,reduceCtorEq,Nat.reduceEqDiff,implies_true,forall_const,aa]
 simp only[zMS,zMU,zM1]
 refine⟨by omega,by omega,by omega,?_⟩
 simp[bA,kb]
def Uri.size (u:Uri):Nat:=u.scheme.length+u.authority.length+u.path.length+u.query.length+u.fragment.length
theorem ua (s:Bytes):(bf s).1.path.length≤s.length:=by
 have rX:=eg 35 s
 have vw:=eg 63 (aL 35 s).1
 have Fp:∀ r:Bytes,(aD r).2.2.length≤r.length:=fun r=>by
  unfold aD;split
  ·simp;omega
  ·simp
 unfold bf
 split
 ·simp[Uri.none]
 ·unfold aK
  split
  ·split
   ·have:=Fp ((aL 63 (aL 35 s).1).1.drop (pre ak (aL 63 (aL 35 s).1).1+1))
    simp at this ⊢;omega
   ·simp[Uri.none]
  ·have:=Fp (aL 63 (aL 35 s).1).1
   simp;omega
theorem tZ (s:Bytes):Uri.size (bf s).1≤6 * s.length:=by
 have rX:=eg 35 s
 have vw:=eg 63 (aL 35 s).1
 have Fp:∀ r:Bytes,(aD r).2.2.length≤r.length∧(aD r).1.length≤r.length:=fun r=>by
  unfold aD;split
  ·simp;omega
  ·simp
 unfold bf
 split
 ·simp[Uri.none,Uri.size]
 ·unfold aK
  split
  ·split
   ·have:=Fp ((aL 63 (aL 35 s).1).1.drop (pre ak (aL 63 (aL 35 s).1).1+1))
    simp[Uri.size]at this ⊢;omega
   ·simp[Uri.none,Uri.size]
  ·have:=Fp (aL 63 (aL 35 s).1).1
   simp[Uri.size];omega
theorem sP (a:Bytes)(h:(aH a).2=0):(aH a).1.1.length≤253∧0≤(aH a).1.2∧(aH a).1.2≤65535:=by
 have:=cA (s:=a) (x:=(aH a).1.1) (p:=(aH a).1.2) (by rw[← h])
 omega
theorem sF (s:Bytes):PC Tryz.V 118 [.str s] (.eS [ey (bH s).1,.int .i64 (bH s).2]):=by
 refine aQ 3000 Tryz.func118 rfl Tryz.ntmps118 Tryz.results118 Tryz.call118 (by simp) (by simp[flat,flat.ai]) (by simp[flat,flat.ai,ey]) ?_
 simp only[ad,↓Xn,↓Xo,↓Xg,↓Xd,↓Xe,↓Xf,Tryz.VΓ,Tryz.Γs,Xp,Xi,Nat.reduceAdd,Nat.reduceSub,Nat.reduceLT,Nat.reduceLeDiff,reduceIte,reduceCtorEq,Nat.reduceEqDiff,implies_true,forall_const,aa]
 refine⟨fun h=>?_,fun h=>?_⟩
 ·have:bH s=(fe.none,5):=if_pos (by simp at h;omega)
  rw[this];rfl
 have hl:¬ 4096<s.length:=(by simp at h;omega)
 have hq:bH s=if (bf s).2≠0 then(fe.none,(bf s).2) else xr (bf s).1:=if_neg hl
 rw[hq]
 have ps:=Bb s
 unfold usv at ps
 have hp:=ua s
 have hz:=tZ s
 revert ps hp hz
 generalize bf s=us
 obtain⟨r,c⟩:=us
 intro ps hp hz
 simp only at ps hp hz
 simp only
 unfold Uri.size at hz
 have pl:=zo r.scheme dj (by omega) (by decide)
 have pn:=uE r.authority 64
 have ph:=qs r.authority (by omega)
 have p1:=iS r.path cT (by decide)
 have p2:=iS r.query cS (by decide)
 have p3:=iS r.fragment cS (by decide)
 (refine ae (ps) ?_;simp only[ad,↓Xn,↓Xo,↓Xg,↓Xd,↓Xe,↓Xf,Tryz.VΓ,Tryz.Γs,Xp,Xi,Nat.reduceAdd,Nat.reduceSub,Nat.reduceLT,Nat.reduceLeDiff,reduceIte,reduceCtorEq,Nat.reduceEqDiff,implies_true,forall_const,aa])
 refine⟨fun h1=>?_,fun h1=>?_⟩
 ·rw[if_pos (by simpa using h1)];rfl
 rw[if_neg (by simpa using h1)]
 unfold xr
 cases iM:r.iA
 ·simp only[ad,↓Xn,↓Xo,↓Xg,↓Xd,↓Xe,↓Xf,Tryz.VΓ,Tryz.Γs,Xp,Xi,Nat.reduceAdd,Nat.reduceSub,Nat.reduceLT,Nat.reduceLeDiff,reduceIte,reduceCtorEq,Nat.reduceEqDiff,implies_true,forall_const,aa,iM]
  rw[if_pos (.inl trivial)];rfl
 simp only[ad,↓Xn,↓Xo,↓Xg,↓Xd,↓Xe,↓Xf,Tryz.VΓ,Tryz.Γs,Xp,Xi,Nat.reduceAdd,Nat.reduceSub,Nat.reduceLT,Nat.reduceLeDiff,reduceIte,reduceCtorEq,Nat.reduceEqDiff,implies_true,forall_const,aa,iM]
 rw[show lower dj=dj by decide]at pl
 (refine ae pl ?_;simp only[ad,↓Xn,↓Xo,↓Xg,↓Xd,↓Xe,↓Xf,Tryz.VΓ,Tryz.Γs,Xp,Xi,Nat.reduceAdd,Nat.reduceSub,Nat.reduceLT,Nat.reduceLeDiff,reduceIte,reduceCtorEq,Nat.reduceEqDiff,implies_true,forall_const,aa,iM])
 refine⟨fun h2=>?_,fun h2=>?_⟩
 ·rw[if_pos (.inr (by simpa using h2))];rfl
 rw[if_neg (by simpa using h2)]
 cases Jy:r.dM
 ·simp only[ad,↓Xn,↓Xo,↓Xg,↓Xd,↓Xe,↓Xf,Tryz.VΓ,Tryz.Γs,Xp,Xi,Nat.reduceAdd,Nat.reduceSub,Nat.reduceLT,Nat.reduceLeDiff,reduceIte,reduceCtorEq,Nat.reduceEqDiff,implies_true,forall_const,aa,Jy]
  rfl
 simp only[ad,↓Xn,↓Xo,↓Xg,↓Xd,↓Xe,↓Xf,Tryz.VΓ,Tryz.Γs,Xp,Xi,Nat.reduceAdd,Nat.reduceSub,Nat.reduceLT,Nat.reduceLeDiff,reduceIte,reduceCtorEq,Nat.reduceEqDiff,implies_true,forall_const,aa,Jy]
 (refine ae pn ?_;simp only[ad,↓Xn,↓Xo,↓Xg,↓Xd,↓Xe,↓Xf,Tryz.VΓ,Tryz.Γs,Xp,Xi,Nat.reduceAdd,Nat.reduceSub,Nat.reduceLT,Nat.reduceLeDiff,reduceIte,reduceCtorEq,Nat.reduceEqDiff,implies_true,forall_const,aa,Jy])
 refine⟨fun h3=>?_,fun h3=>?_⟩
 ·rw[if_pos (by simpa using h3)];rfl
 rw[if_neg (by simpa using h3)]
 unfold pZ
 (refine ae ph ?_;simp only[ad,↓Xn,↓Xo,↓Xg,↓Xd,↓Xe,↓Xf,Tryz.VΓ,Tryz.Γs,Xp,Xi,Nat.reduceAdd,Nat.reduceSub,Nat.reduceLT,Nat.reduceLeDiff,reduceIte,reduceCtorEq,Nat.reduceEqDiff,implies_true,forall_const,aa,Jy])
 refine⟨fun h4=>?_,fun h4=>?_⟩
 ·rw[if_pos (by simpa using h4)];rfl
 rw[if_neg (by simpa using h4)]
 have hN1:=dH cT r.path
 have hN2:=dH cS r.query
 have hN3:=dH cS r.fragment
 have hH:=sP r.authority (by simpa using h4)
 have p4:=rL (aX cT r.path).1 (by omega)
 have hD:=nw (aX cT r.path).1
 generalize aX cT r.path=n1 at p1 p4 hN1 hD ⊢
 generalize aX cS r.query=n2 at p2 hN2 ⊢
 generalize aX cS r.fragment=n3 at p3 hN3 ⊢
 generalize (aH r.authority).1=hp at hH ⊢
 obtain⟨n1,e1⟩:=n1
 obtain⟨n2,e2⟩:=n2
 obtain⟨n3,e3⟩:=n3
 obtain⟨hh,pp⟩:=hp
 simp only at p1 p2 p3 p4 hN1 hN2 hN3 hH hD ⊢
 (refine ae p1 ?_;simp only[ad,↓Xn,↓Xo,↓Xg,↓Xd,↓Xe,↓Xf,Tryz.VΓ,Tryz.Γs,Xp,Xi,Nat.reduceAdd,Nat.reduceSub,Nat.reduceLT,Nat.reduceLeDiff,reduceIte,reduceCtorEq,Nat.reduceEqDiff,implies_true,forall_const,aa])
 refine⟨fun h5=>?_,fun h5=>?_⟩
 ·rw[if_pos (by simpa using h5)];rfl
 rw[if_neg (by simpa using h5)]
 (refine ae p2 ?_;simp only[ad,↓Xn,↓Xo,↓Xg,↓Xd,↓Xe,↓Xf,Tryz.VΓ,Tryz.Γs,Xp,Xi,Nat.reduceAdd,Nat.reduceSub,Nat.reduceLT,Nat.reduceLeDiff,reduceIte,reduceCtorEq,Nat.reduceEqDiff,implies_true,forall_const,aa])
 refine⟨fun h6=>?_,fun h6=>?_⟩
 ·rw[if_pos (by simpa using h6)];rfl
 rw[if_neg (by simpa using h6)]
 (refine ae p3 ?_;simp only[ad,↓Xn,↓Xo,↓Xg,↓Xd,↓Xe,↓Xf,Tryz.VΓ,Tryz.Γs,Xp,Xi,Nat.reduceAdd,Nat.reduceSub,Nat.reduceLT,Nat.reduceLeDiff,reduceIte,reduceCtorEq,Nat.reduceEqDiff,implies_true,forall_const,aa])
 refine⟨fun h7=>?_,fun h7=>?_⟩
 ·rw[if_pos (by simpa using h7)];rfl
 rw[if_neg (by simpa using h7)]
 unfold tT
 (refine ae p4 ?_;simp only[ad,↓Xn,↓Xo,↓Xg,↓Xd,↓Xe,↓Xf,Tryz.VΓ,Tryz.Γs,Xp,Xi,Nat.reduceAdd,Nat.reduceSub,Nat.reduceLT,Nat.reduceLeDiff,reduceIte,reduceCtorEq,Nat.reduceEqDiff,implies_true,forall_const,aa])
 generalize aO n1=d at hD ⊢
 have fin:∀ d':Bytes,d'.length≤4096 * 6→PC Tryz.V 119 [ey ⟨hh,pp,d',n2,n3,r.bm,r.bF⟩] (.str (cF ⟨hh,pp,d',n2,n3,r.bm,r.bF⟩)):=fun d' hd' =>
  gN _ ⟨by simp only;omega,by simp only;omega,by simp only;omega⟩
 unfold ey at fin
 refine⟨fun h8=>?_,fun h8=>?_⟩
 ·have f1:=fin [47] (by decide)
  have h8':d=[]:=by simpa using h8
  rw[if_pos h8']
  (refine ae f1 ?_;simp only[ad,↓Xn,↓Xo,↓Xg,↓Xd,↓Xe,↓Xf,Tryz.VΓ,Tryz.Γs,Xp,Xi,Nat.reduceAdd,Nat.reduceSub,Nat.reduceLT,Nat.reduceLeDiff,reduceIte,reduceCtorEq,Nat.reduceEqDiff,implies_true,forall_const,aa])
  refine⟨fun h9=>?_,fun h9=>?_⟩
  ·rw[if_pos (by simp at h9;omega)];rfl
  ·rw[if_neg (by simp at h9;omega)];rfl
 ·have f1:=fin d (by omega)
  have h8':¬ d=[]:=by simpa using h8
  rw[if_neg h8']
  (refine ae f1 ?_;simp only[ad,↓Xn,↓Xo,↓Xg,↓Xd,↓Xe,↓Xf,Tryz.VΓ,Tryz.Γs,Xp,Xi,Nat.reduceAdd,Nat.reduceSub,Nat.reduceLT,Nat.reduceLeDiff,reduceIte,reduceCtorEq,Nat.reduceEqDiff,implies_true,forall_const,aa])
  refine⟨fun h9=>?_,fun h9=>?_⟩
  ·rw[if_pos (by simp at h9;omega)];rfl
  ·rw[if_neg (by simp at h9;omega)];rfl
theorem uw (s:Bytes):PC Tryz.V 76 [.str s] (.eS [ey (bH s).1,.int .i64 (bH s).2]):=by
 refine aQ 3000 Tryz.func76 rfl Tryz.ntmps76 Tryz.results76 Tryz.call76 (by simp) (by simp[flat,flat.ai]) (by simp[flat,flat.ai,ey]) ?_
 simp only[ad,↓Xn,↓Xo,↓Xg,↓Xd,↓Xe,↓Xf,Tryz.VΓ,Tryz.Γs,Xp,Xi,Nat.reduceAdd,Nat.reduceSub,Nat.reduceLT,Nat.reduceLeDiff,reduceIte,reduceCtorEq,Nat.reduceEqDiff,implies_true,forall_const,aa]
 refine⟨fun h=>?_,fun h=>?_⟩
 ·have:bH s=(fe.none,5):=if_pos (by simp at h;omega)
  rw[this];rfl
 have hl:¬ 4096<s.length:=(by simp at h;omega)
 have hq:bH s=if (bf s).2≠0 then(fe.none,(bf s).2) else xr (bf s).1:=if_neg hl
 rw[hq]
 have ps:=DI s
 unfold usv at ps
 have hp:=ua s
 have hz:=tZ s
 revert ps hp hz
 generalize bf s=us
 obtain⟨r,c⟩:=us
 intro ps hp hz
 simp only at ps hp hz
 simp only
 unfold Uri.size at hz
 have pl:=pG r.scheme dj (by omega) (by decide)
 have pn:=bl r.authority [64] (by omega) (by decide)
 have Gy:=yZ r.authority 64
 have gd:=cx (·==64) r.authority
 rw[show (List.contains [64] ·:UInt8→Bool)=(·==64) from by funext c;simp;exact(Bool.beq_eq_decide_eq _ _).symm]at pn
 have ph:=ux r.authority (by omega)
 have p1:=gO r.path cT (by decide)
 have p2:=gO r.query cS (by decide)
 have p3:=gO r.fragment cS (by decide)
 (refine ae (ps) ?_;simp only[ad,↓Xn,↓Xo,↓Xg,↓Xd,↓Xe,↓Xf,Tryz.VΓ,Tryz.Γs,Xp,Xi,Nat.reduceAdd,Nat.reduceSub,Nat.reduceLT,Nat.reduceLeDiff,reduceIte,reduceCtorEq,Nat.reduceEqDiff,implies_true,forall_const,aa])
 refine⟨fun h1=>?_,fun h1=>?_⟩
 ·rw[if_pos (by simpa using h1)];rfl
 rw[if_neg (by simpa using h1)]
 unfold xr
 cases iM:r.iA
 ·simp only[ad,↓Xn,↓Xo,↓Xg,↓Xd,↓Xe,↓Xf,Tryz.VΓ,Tryz.Γs,Xp,Xi,Nat.reduceAdd,Nat.reduceSub,Nat.reduceLT,Nat.reduceLeDiff,reduceIte,reduceCtorEq,Nat.reduceEqDiff,implies_true,forall_const,aa,iM]
  rw[if_pos (.inl trivial)];rfl
 simp only[ad,↓Xn,↓Xo,↓Xg,↓Xd,↓Xe,↓Xf,Tryz.VΓ,Tryz.Γs,Xp,Xi,Nat.reduceAdd,Nat.reduceSub,Nat.reduceLT,Nat.reduceLeDiff,reduceIte,reduceCtorEq,Nat.reduceEqDiff,implies_true,forall_const,aa,iM]
 rw[show lower dj=dj by decide]at pl
 (refine ae pl ?_;simp only[ad,↓Xn,↓Xo,↓Xg,↓Xd,↓Xe,↓Xf,Tryz.VΓ,Tryz.Γs,Xp,Xi,Nat.reduceAdd,Nat.reduceSub,Nat.reduceLT,Nat.reduceLeDiff,reduceIte,reduceCtorEq,Nat.reduceEqDiff,implies_true,forall_const,aa,iM])
 refine⟨fun h2=>?_,fun h2=>?_⟩
 ·rw[if_pos (.inr (by simpa using h2))];rfl
 rw[if_neg (by simpa using h2)]
 cases Jy:r.dM
 ·simp only[ad,↓Xn,↓Xo,↓Xg,↓Xd,↓Xe,↓Xf,Tryz.VΓ,Tryz.Γs,Xp,Xi,Nat.reduceAdd,Nat.reduceSub,Nat.reduceLT,Nat.reduceLeDiff,reduceIte,reduceCtorEq,Nat.reduceEqDiff,implies_true,forall_const,aa,Jy]
  rfl
 simp only[ad,↓Xn,↓Xo,↓Xg,↓Xd,↓Xe,↓Xf,Tryz.VΓ,Tryz.Γs,Xp,Xi,Nat.reduceAdd,Nat.reduceSub,Nat.reduceLT,Nat.reduceLeDiff,reduceIte,reduceCtorEq,Nat.reduceEqDiff,implies_true,forall_const,aa,Jy]
 (refine aU pn ?_;simp only[ad,↓Xn,↓Xo,↓Xg,↓Xd,↓Xe,↓Xf,Tryz.VΓ,Tryz.Γs,Xp,Xi,Nat.reduceAdd,Nat.reduceSub,Nat.reduceLT,Nat.reduceLeDiff,reduceIte,reduceCtorEq,Nat.reduceEqDiff,implies_true,forall_const,aa,Jy])
 refine⟨(aq (by kernel_rfl)),fun h3=>?_,fun h3=>?_⟩
 ·rw[if_pos (Gy.1 (by simp at h3;omega))];rfl
 rw[if_neg (fun k=>absurd (Gy.2 k) (by simp at h3;omega))]
 unfold pZ
 (refine ae ph ?_;simp only[ad,↓Xn,↓Xo,↓Xg,↓Xd,↓Xe,↓Xf,Tryz.VΓ,Tryz.Γs,Xp,Xi,Nat.reduceAdd,Nat.reduceSub,Nat.reduceLT,Nat.reduceLeDiff,reduceIte,reduceCtorEq,Nat.reduceEqDiff,implies_true,forall_const,aa,Jy])
 refine⟨fun h4=>?_,fun h4=>?_⟩
 ·rw[if_pos (by simpa using h4)];rfl
 rw[if_neg (by simpa using h4)]
 have hN1:=dH cT r.path
 have hN2:=dH cS r.query
 have hN3:=dH cS r.fragment
 have hH:=sP r.authority (by simpa using h4)
 have p4:=tk (aX cT r.path).1 (by omega)
 have hD:=nw (aX cT r.path).1
 generalize aX cT r.path=n1 at p1 p4 hN1 hD ⊢
 generalize aX cS r.query=n2 at p2 hN2 ⊢
 generalize aX cS r.fragment=n3 at p3 hN3 ⊢
 generalize (aH r.authority).1=hp at hH ⊢
 obtain⟨n1,e1⟩:=n1
 obtain⟨n2,e2⟩:=n2
 obtain⟨n3,e3⟩:=n3
 obtain⟨hh,pp⟩:=hp
 simp only at p1 p2 p3 p4 hN1 hN2 hN3 hH hD ⊢
 (refine ae p1 ?_;simp only[ad,↓Xn,↓Xo,↓Xg,↓Xd,↓Xe,↓Xf,Tryz.VΓ,Tryz.Γs,Xp,Xi,Nat.reduceAdd,Nat.reduceSub,Nat.reduceLT,Nat.reduceLeDiff,reduceIte,reduceCtorEq,Nat.reduceEqDiff,implies_true,forall_const,aa])
 refine⟨fun h5=>?_,fun h5=>?_⟩
 ·rw[if_pos (by simpa using h5)];rfl
 rw[if_neg (by simpa using h5)]
 (refine ae p2 ?_;simp only[ad,↓Xn,↓Xo,↓Xg,↓Xd,↓Xe,↓Xf,Tryz.VΓ,Tryz.Γs,Xp,Xi,Nat.reduceAdd,Nat.reduceSub,Nat.reduceLT,Nat.reduceLeDiff,reduceIte,reduceCtorEq,Nat.reduceEqDiff,implies_true,forall_const,aa])
 refine⟨fun h6=>?_,fun h6=>?_⟩
 ·rw[if_pos (by simpa using h6)];rfl
 rw[if_neg (by simpa using h6)]
 (refine ae p3 ?_;simp only[ad,↓Xn,↓Xo,↓Xg,↓Xd,↓Xe,↓Xf,Tryz.VΓ,Tryz.Γs,Xp,Xi,Nat.reduceAdd,Nat.reduceSub,Nat.reduceLT,Nat.reduceLeDiff,reduceIte,reduceCtorEq,Nat.reduceEqDiff,implies_true,forall_const,aa])
 refine⟨fun h7=>?_,fun h7=>?_⟩
 ·rw[if_pos (by simpa using h7)];rfl
 rw[if_neg (by simpa using h7)]
 unfold tT
 (refine ae p4 ?_;simp only[ad,↓Xn,↓Xo,↓Xg,↓Xd,↓Xe,↓Xf,Tryz.VΓ,Tryz.Γs,Xp,Xi,Nat.reduceAdd,Nat.reduceSub,Nat.reduceLT,Nat.reduceLeDiff,reduceIte,reduceCtorEq,Nat.reduceEqDiff,implies_true,forall_const,aa])
 generalize aO n1=d at hD ⊢
 have fin:∀ d':Bytes,d'.length≤4096 * 6→PC Tryz.V 77 [ey ⟨hh,pp,d',n2,n3,r.bm,r.bF⟩] (.str (cF ⟨hh,pp,d',n2,n3,r.bm,r.bF⟩)):=fun d' hd' =>
  kr _ ⟨by simp only;omega,by simp only;omega,by simp only;omega⟩
 unfold ey at fin
 refine⟨fun h8=>?_,fun h8=>?_⟩
 ·have f1:=fin [47] (by decide)
  have h8':d=[]:=by simpa using h8
  rw[if_pos h8']
  (refine ae f1 ?_;simp only[ad,↓Xn,↓Xo,↓Xg,↓Xd,↓Xe,↓Xf,Tryz.VΓ,Tryz.Γs,Xp,Xi,Nat.reduceAdd,Nat.reduceSub,Nat.reduceLT,Nat.reduceLeDiff,reduceIte,reduceCtorEq,Nat.reduceEqDiff,implies_true,forall_const,aa])
  refine⟨fun h9=>?_,fun h9=>?_⟩
  ·rw[if_pos (by simp at h9;omega)];rfl
  ·rw[if_neg (by simp at h9;omega)];rfl
 ·have f1:=fin d (by omega)
  have h8':¬ d=[]:=by simpa using h8
  rw[if_neg h8']
  (refine ae f1 ?_;simp only[ad,↓Xn,↓Xo,↓Xg,↓Xd,↓Xe,↓Xf,Tryz.VΓ,Tryz.Γs,Xp,Xi,Nat.reduceAdd,Nat.reduceSub,Nat.reduceLT,Nat.reduceLeDiff,reduceIte,reduceCtorEq,Nat.reduceEqDiff,implies_true,forall_const,aa])
  refine⟨fun h9=>?_,fun h9=>?_⟩
  ·rw[if_pos (by simp at h9;omega)];rfl
  ·rw[if_neg (by simp at h9;omega)];rfl
theorem Ba (u:fe)(hk:Fair u):PC Tryz.V 187 [ey u] (.bool (fW u)):=by
 have pf:=gN u hk
 have pp:=sF (cF u)
 unfold ey at pf pp
 (refine aQ 3000 Tryz.func187 rfl Tryz.ntmps187 Tryz.results187 Tryz.call187 (by simp) (by simp[flat,flat.ai,ey]) (by simp[flat,flat.ai,ey]) ?_
  unfold ey
  simp only[ad,↓Xn,↓Xo,↓Xg,↓Xd,↓Xe,↓Xf,Tryz.VΓ,Tryz.Γs,Xp,Xi,Nat.reduceAdd,Nat.reduceSub,Nat.reduceLT,Nat.reduceLeDiff,reduceIte,reduceCtorEq,Nat.reduceEqDiff,implies_true,forall_const,aa])
 (refine ae (pf) ?_;simp only[ad,↓Xn,↓Xo,↓Xg,↓Xd,↓Xe,↓Xf,Tryz.VΓ,Tryz.Γs,Xp,Xi,Nat.reduceAdd,Nat.reduceSub,Nat.reduceLT,Nat.reduceLeDiff,reduceIte,reduceCtorEq,Nat.reduceEqDiff,implies_true,forall_const,aa])
 (refine ae (pp) ?_;simp only[ad,↓Xn,↓Xo,↓Xg,↓Xd,↓Xe,↓Xf,Tryz.VΓ,Tryz.Γs,Xp,Xi,Nat.reduceAdd,Nat.reduceSub,Nat.reduceLT,Nat.reduceLeDiff,reduceIte,reduceCtorEq,Nat.reduceEqDiff,implies_true,forall_const,aa])
 unfold fW
 generalize bH (cF u)=x
 obtain⟨⟨a,b,c,d,e,f,g⟩,y⟩:=x
 obtain⟨a',b',c',d',e',f',g'⟩:=u
 simp only[eqS,Et,Cu,Cu.eqF]
 refine⟨fun h=>?_,fun h=>?_⟩
 ·obtain rfl:y=0:=by simpa using h
  congr 1
  rw[Bool.eq_iff_iff]
  simp only[zNr,beq_iff_eq,decide_eq_true_eq,Prod.mk.injEq,fe.mk.injEq,and_true]
  constructor <;> (rintro⟨rfl,rfl,rfl,rfl,rfl,rfl,rfl⟩;exact⟨rfl,rfl,rfl,rfl,rfl,rfl,rfl⟩)
 ·congr 1
  exact(decide_eq_false (fun k=>by rw[(Prod.mk.inj k).2]at h;simp at h)).symm
theorem DH (u:fe)(hk:Fair u):PC Tryz.V 133 [ey u] (.bool (fW u)):=by
 have pf:=kr u hk
 have pp:=uw (cF u)
 unfold ey at pf pp
 (refine aQ 3000 Tryz.func133 rfl Tryz.ntmps133 Tryz.results133 Tryz.call133 (by simp) (by simp[flat,flat.ai,ey]) (by simp[flat,flat.ai,ey]) ?_
  unfold ey
  simp only[ad,↓Xn,↓Xo,↓Xg,↓Xd,↓Xe,↓Xf,Tryz.VΓ,Tryz.Γs,Xp,Xi,Nat.reduceAdd,Nat.reduceSub,Nat.reduceLT,Nat.reduceLeDiff,reduceIte,reduceCtorEq,Nat.reduceEqDiff,implies_true,forall_const,aa])
 (refine ae (pf) ?_;simp only[ad,↓Xn,↓Xo,↓Xg,↓Xd,↓Xe,↓Xf,Tryz.VΓ,Tryz.Γs,Xp,Xi,Nat.reduceAdd,Nat.reduceSub,Nat.reduceLT,Nat.reduceLeDiff,reduceIte,reduceCtorEq,Nat.reduceEqDiff,implies_true,forall_const,aa])
 (refine ae (pp) ?_;simp only[ad,↓Xn,↓Xo,↓Xg,↓Xd,↓Xe,↓Xf,Tryz.VΓ,Tryz.Γs,Xp,Xi,Nat.reduceAdd,Nat.reduceSub,Nat.reduceLT,Nat.reduceLeDiff,reduceIte,reduceCtorEq,Nat.reduceEqDiff,implies_true,forall_const,aa])
 unfold fW
 generalize bH (cF u)=x
 obtain⟨⟨a,b,c,d,e,f,g⟩,y⟩:=x
 obtain⟨a',b',c',d',e',f',g'⟩:=u
 simp only[eqS,Et,Cu,Cu.eqF]
 refine⟨fun h=>?_,fun h=>?_⟩
 ·obtain rfl:y=0:=by simpa using h
  congr 1
  rw[Bool.eq_iff_iff]
  simp only[zNr,beq_iff_eq,decide_eq_true_eq,Prod.mk.injEq,fe.mk.injEq,and_true]
  constructor <;> (rintro⟨rfl,rfl,rfl,rfl,rfl,rfl,rfl⟩;exact⟨rfl,rfl,rfl,rfl,rfl,rfl,rfl⟩)
 ·congr 1
  exact(decide_eq_false (fun k=>by rw[(Prod.mk.inj k).2]at h;simp at h)).symm
theorem mD (d:fU)(h:eG d):PC Tryz.V 122 [fj d] (.eS [.agg [.str (bh d).1.1,.int .i64 (bh d).1.2],.int .i64 (bh d).2]):=by
 have pf:=dD d h
 have pp:=nE (bA d)
 have hf:=@vU d
 have hd:=@ot d
 refine aQ 3000 Tryz.func122 rfl Tryz.ntmps122 Tryz.results122 Tryz.call122 (by simp) (by simp[flat,flat.ai,fj,ey]) (by simp[flat,flat.ai,fj,ey]) ?_
 unfold fj
 unfold fj at pf pp
 unfold bh
 simp only[ad,↓Xn,↓Xo,↓Xg,↓Xd,↓Xe,↓Xf,Tryz.VΓ,Tryz.Γs,Xp,Xi,Nat.reduceAdd,Nat.reduceSub,Nat.reduceLT,Nat.reduceLeDiff,reduceIte,reduceCtorEq,Nat.reduceEqDiff,implies_true,forall_const,aa]
 refine⟨fun h1=>(by rw[if_pos (by simpa[dP] using h1)]),fun h1=>?_⟩
 have h1:d.method=dP:=by simpa[dP] using h1
 rw[if_neg (by simp[h1])]
 (refine ae pf ?_;simp only[ad,↓Xn,↓Xo,↓Xg,↓Xd,↓Xe,↓Xf,Tryz.VΓ,Tryz.Γs,Xp,Xi,Nat.reduceAdd,Nat.reduceSub,Nat.reduceLT,Nat.reduceLeDiff,reduceIte,reduceCtorEq,Nat.reduceEqDiff,implies_true,forall_const,aa])
 (refine ae pp ?_;simp only[ad,↓Xn,↓Xo,↓Xg,↓Xd,↓Xe,↓Xf,Tryz.VΓ,Tryz.Γs,Xp,Xi,Nat.reduceAdd,Nat.reduceSub,Nat.reduceLT,Nat.reduceLeDiff,reduceIte,reduceCtorEq,Nat.reduceEqDiff,implies_true,forall_const,aa])
 refine⟨fun h2=>(by rw[if_pos (by simpa using h2)]),fun h2=>?_⟩
 have h2:(aY (bA d)).2=0:=by simpa using h2
 rw[if_neg (by simp[h2])]
 have hf:=hf h1 h2
 have hd:=hd h1 h2
 have pc:=uD d.id 58 (by omega)
 have pd:=nF (aL 58 d.id).1
 rw[hf]at pd ⊢
 have mO:=eg 58 d.id
 have gF:=jS (aL 58 d.id).1
 have ph:=qs (jw (aL 58 d.id).1) (by omega)
 (refine ae pc ?_;simp only[ad,↓Xn,↓Xo,↓Xg,↓Xd,↓Xe,↓Xf,Tryz.VΓ,Tryz.Γs,Xp,Xi,Nat.reduceAdd,Nat.reduceSub,Nat.reduceLT,Nat.reduceLeDiff,reduceIte,reduceCtorEq,Nat.reduceEqDiff,implies_true,forall_const,aa])
 (refine ae pd ?_;simp only[ad,↓Xn,↓Xo,↓Xg,↓Xd,↓Xe,↓Xf,Tryz.VΓ,Tryz.Γs,Xp,Xi,Nat.reduceAdd,Nat.reduceSub,Nat.reduceLT,Nat.reduceLeDiff,reduceIte,reduceCtorEq,Nat.reduceEqDiff,implies_true,forall_const,aa,beq_self_eq_true,bne_self_eq_false,Int.reduceBEq,Int.reduceBNe,Int.reduceLT,Int.reduceLE])
 (refine ae ph ?_;simp only[ad,↓Xn,↓Xo,↓Xg,↓Xd,↓Xe,↓Xf,Tryz.VΓ,Tryz.Γs,Xp,Xi,Nat.reduceAdd,Nat.reduceSub,Nat.reduceLT,Nat.reduceLeDiff,reduceIte,reduceCtorEq,Nat.reduceEqDiff,implies_true,forall_const,aa,beq_self_eq_true,bne_self_eq_false,Int.reduceBEq,Int.reduceBNe,Int.reduceLT,Int.reduceLE])
 done
theorem sc_up {bs:List ax}{i:Nat}{e:Int}(s:Bytes)(hi:bs[i]? = some (.cells [.int .i64 e] 179 true))(hs:s.length≤16384) :
 SC Tryz.V 186 [.p i 0,.str s] bs (fun r b=>r=.str (gL s)∧b=bs.set i (.cells [.int .i64 (if en s then e else 110)] 179 true)):=by
 have eh:i<bs.length:=(zMR.1 hi).1
 refine cz 3000 Tryz.func186 rfl Tryz.ntmps186 Tryz.results186 Tryz.call186 (by simp) (aw bs.length _ (by simp[within,within.ay,eh])) ?_
 have pd:=nF s
 have pe:=uC (aj s).1 [] (by have:=cQ s;omega)
 have mO:=cQ s
 have gF:=dQ [] (aj s).1
 have bZ:en s=!((((aj s).2 != 0)||((aj s).1==[]))||(((aj s).1==[46])||((aj s).1==[46,46]))):=by
  unfold en
  cases h1:(aj s).2==0 <;> cases h2:(aj s).1==[] <;> cases h3:(aj s).1==[46] <;> cases h4:(aj s).1==[46,46] <;> simp_all [bne]
 rw[bZ]
 have gE:=AH hi
 generalize hX:aj s=X at pd pe bZ mO gF ⊢
 obtain⟨x,k⟩:=X
 simp only at pd pe bZ mO gF ⊢
 unfold gL
 rw[hX]
 simp only
 simp only[ad,↓Xn,↓Xo,↓Xg,↓Xd,↓Xe,↓Xf,Tryz.VΓ,Tryz.Γs,Xp,Xi,Nat.reduceAdd,Nat.reduceSub,Nat.reduceLT,Nat.reduceLeDiff,reduceIte,reduceCtorEq,Nat.reduceEqDiff,implies_true,forall_const,aa,hi]
 (refine ae pd ?_;simp only[ad,↓Xn,↓Xo,↓Xg,↓Xd,↓Xe,↓Xf,Tryz.VΓ,Tryz.Γs,Xp,Xi,Nat.reduceAdd,Nat.reduceSub,Nat.reduceLT,Nat.reduceLeDiff,reduceIte,reduceCtorEq,Nat.reduceEqDiff,implies_true,forall_const,aa,hi])
 cases h1:k != 0 <;> cases h2:x==[] <;> cases h3:x==[46] <;> cases h4:x==[46,46] <;> simp only[ad,↓Xn,↓Xo,↓Xg,↓Xd,↓Xe,↓Xf,Tryz.VΓ,Tryz.Γs,Xp,Xi,Nat.reduceAdd,Nat.reduceSub,Nat.reduceLT,Nat.reduceLeDiff,reduceIte,reduceCtorEq,Nat.reduceEqDiff,implies_true,forall_const,aa,hi,h1,h2,h3,h4] <;> (refine ae pe ?_;simp only[ad,↓Xn,↓Xo,↓Xg,↓Xd,↓Xe,↓Xf,Tryz.VΓ,Tryz.Γs,Xp,Xi,Nat.reduceAdd,Nat.reduceSub,Nat.reduceLT,Nat.reduceLeDiff,reduceIte,reduceCtorEq,Nat.reduceEqDiff,implies_true,forall_const,aa,hi,gE]) <;> exact⟨by omega,by first|rfl|exact gE.symm⟩
theorem sc_down {bs:List ax}{i:Nat}{e:Int}(s:Bytes)(hi:bs[i]? = some (.cells [.int .i64 e] 179 true))(hs:s.length≤16384) :
 SC Tryz.V 188 [.p i 0,.str s] bs (fun r b=>r=.str (bt s)∧b=bs.set i (.cells [.int .i64 (if bN s then e else 110)] 179 true)):=by
 have eh:i<bs.length:=(zMR.1 hi).1
 refine cz 3000 Tryz.func188 rfl Tryz.ntmps188 Tryz.results188 Tryz.call188 (by simp) (aw bs.length _ (by simp[within,within.ay,eh])) ?_
 have pr:=qv (aF [] (aj s).1) 126 [37,55,69] (by decide) (by have:=cQ s;have:=dQ [] (aj s).1;omega) (by decide)
 rw[escDown]at pr
 have pd:=nF s
 have pe:=uC (aj s).1 [] (by have:=cQ s;omega)
 have mO:=cQ s
 have gF:=fB (aj s).1
 simp only[ad,↓Xn,↓Xo,↓Xg,↓Xd,↓Xe,↓Xf,Tryz.VΓ,Tryz.Γs,Xp,Xi,Nat.reduceAdd,Nat.reduceSub,Nat.reduceLT,Nat.reduceLeDiff,reduceIte,reduceCtorEq,Nat.reduceEqDiff,implies_true,forall_const,aa,hi]
 refine aM (fun σ=>∃ k:Nat,k≤s.length∧lk 0 σ.t=some (.p i 0)∧lk 1 σ.t=some (.str s)∧lk 4 σ.t=some (.str [])∧lk 8 σ.t=some (.str s)∧lk 9 σ.t=some (.int .i64 s.length)∧lk 10 σ.t=some (.int .i64 k) ∧
  σ.b=bs.set i (.cells [.int .i64 (if (s.take k).all de then e else 110)] 179 true)) (fun σ=>s.length - ja 10 σ) ⟨0,by omega,rfl,rfl,rfl,rfl,rfl,rfl,(AH hi).symm⟩ ?_
 rintro⟨t,b⟩ ⟨k,hk,h0,h1,h4,h8,h9,fy,hb⟩
 simp only at h0 h1 h4 h8 h9 fy hb
 rw[az fy]
 have pW:b[i]? = some (.cells [.int .i64 (if (s.take k).all de then e else 110)] 179 true):=by rw[hb];exact zMT eh
 by_cases aB:k<s.length
 ·have hg:s.getD k 0=s[k]:=by simp[List.getD,aB]
  have aR:(s.take (k+1)).all de=((s.take k).all de&&de s[k]):=by rw[zM5 aB,List.all_append];simp
  have wu:((s[k].toNat:Int) != 37)=(s[k] != 37):=by
   have:=cH aB 37 (n:=37) rfl
   show (!_)=(!_)
   rw[← this,hg]
  have same:de s[k]=true→b=bs.set i (.cells [.int .i64 (if (s.take (k+1)).all de then e else 110)] 179 true):=fun h=>by rw[aR,h,Bool.and_true];exact hb
  have meas:∀ (t':List (Nat × SV)) (b':List ax),lk 10 t'=some (.int .i64 ((k:Int)+1))→s.length - ja 10 ⟨t',b'⟩<s.length - (k:Int).toNat:=fun t' b' k6=>by rw[az (σ:=⟨t',b'⟩) k6];omega
  simp only[ad,↓Xn,↓Xo,↓Xg,↓Xd,↓Xe,↓Xf,Tryz.VΓ,Tryz.Γs,Xp,Xi,Nat.reduceAdd,Nat.reduceSub,Nat.reduceLT,Nat.reduceLeDiff,reduceIte,reduceCtorEq,Nat.reduceEqDiff,implies_true,forall_const,aa,h0,h1,h4,h8,h9,fy,pW,hg]
  refine⟨fun _=>⟨⟨by omega,by omega⟩,fun g1=>⟨⟨by omega,by omega⟩,?_⟩,fun g1=>⟨⟨by omega,by omega⟩,⟨k+1,by omega,rfl,same ?_⟩,meas _ _ rfl⟩⟩,fun h=>absurd h (by simp;omega)⟩
  ·(refine ae (fm s[k]) ?_;simp only[ad,↓Xn,↓Xo,↓Xg,↓Xd,↓Xe,↓Xf,Tryz.VΓ,Tryz.Γs,Xp,Xi,Nat.reduceAdd,Nat.reduceSub,Nat.reduceLT,Nat.reduceLeDiff,reduceIte,reduceCtorEq,Nat.reduceEqDiff,implies_true,forall_const,aa,h0,h1,h4,h8,h9,fy,pW,hg])
   refine⟨fun g2=>⟨⟨by omega,by omega⟩,⟨k+1,by omega,rfl,?_⟩,meas _ _ rfl⟩,fun g2=>⟨⟨by omega,by omega⟩,⟨k+1,by omega,rfl,same ?_⟩,meas _ _ rfl⟩⟩
   ·have:de s[k]=false:=by
     unfold de
     rw[wu]at g1
     simp at g1 g2 ⊢
     exact⟨g1,g2⟩
    rw[aR,this,Bool.and_false,hb,List.set_set]
    rfl
   ·unfold de
    simp at g2 ⊢
    exact .inr g2
  ·unfold de
   rw[wu]at g1
   simp at g1 ⊢
   exact .inl g1
 ·have jv:k=s.length:=by omega
  subst jv
  rw[zM3]at hb pW
  clear hk aB
  have hd:bN s=(s.all de&&!(((aj s).2 != 0)||((aj s).1==[]))):=by
   unfold bN
   cases s.all de <;> cases h1:(aj s).2==0 <;> cases h2:(aj s).1==[] <;> simp_all [bne]
  have vg:bt s=58::aN (aj s).1:=rfl
  rw[hd,vg]
  generalize aj s=X at pd pe pr mO gF ⊢
  obtain⟨x,k⟩:=X
  simp only at pd pe pr mO gF ⊢
  have yl:decide ((s.length:Int)<s.length)=false:=by simp
  simp only[ad,↓Xn,↓Xo,↓Xg,↓Xd,↓Xe,↓Xf,Tryz.VΓ,Tryz.Γs,Xp,Xi,Nat.reduceAdd,Nat.reduceSub,Nat.reduceLT,Nat.reduceLeDiff,reduceIte,reduceCtorEq,Nat.reduceEqDiff,implies_true,forall_const,aa,h0,h1,h4,h8,h9,fy,pW,yl]
  (refine ae pd ?_;simp only[ad,↓Xn,↓Xo,↓Xg,↓Xd,↓Xe,↓Xf,Tryz.VΓ,Tryz.Γs,Xp,Xi,Nat.reduceAdd,Nat.reduceSub,Nat.reduceLT,Nat.reduceLeDiff,reduceIte,reduceCtorEq,Nat.reduceEqDiff,implies_true,forall_const,aa,h0,h1,h4,h8,h9,fy,pW])
  have e1:∀ v,b.set i (.cells [.int .i64 v] 179 true)=bs.set i (.cells [.int .i64 v] 179 true):=fun v=>by rw[hb,List.set_set]
  cases g1:k != 0 <;> cases g2:x==[] <;> simp only[ad,↓Xn,↓Xo,↓Xg,↓Xd,↓Xe,↓Xf,Tryz.VΓ,Tryz.Γs,Xp,Xi,Nat.reduceAdd,Nat.reduceSub,Nat.reduceLT,Nat.reduceLeDiff,reduceIte,reduceCtorEq,Nat.reduceEqDiff,implies_true,forall_const,aa,h0,h1,h4,h8,h9,fy,pW,g1,g2] <;> (refine ae pe ?_;simp only[ad,↓Xn,↓Xo,↓Xg,↓Xd,↓Xe,↓Xf,Tryz.VΓ,Tryz.Γs,Xp,Xi,Nat.reduceAdd,Nat.reduceSub,Nat.reduceLT,Nat.reduceLeDiff,reduceIte,reduceCtorEq,Nat.reduceEqDiff,implies_true,forall_const,aa,h0,h1,h4,h8,h9,fy,pW]) <;> (refine ae pr ?_;simp only[ad,↓Xn,↓Xo,↓Xg,↓Xd,↓Xe,↓Xf,Tryz.VΓ,Tryz.Γs,Xp,Xi,Nat.reduceAdd,Nat.reduceSub,Nat.reduceLT,Nat.reduceLeDiff,reduceIte,reduceCtorEq,Nat.reduceEqDiff,implies_true,forall_const,aa,h0,h1,h4,h8,h9,fy,pW]) <;> refine⟨by omega,?_⟩ <;> (first|rw[e1] | rw[hb]) <;> congr 4 <;> cases s.all de <;> rfl
theorem lC {g:Bytes→Bytes}{L:List Bytes}{k:Nat}(h:k<L.length):(L.take (k+1)).flatMap g=(L.take k).flatMap g++g L[k]:=by
 rw[zM5 h,List.flatMap_append,List.flatMap_cons,List.flatMap_nil,zNj]
theorem gV {g:Bytes→Bytes}{L:List Bytes}{k:Nat}:((L.take k).flatMap g).length≤(L.flatMap g).length:=by
 conv=>rhs;rw[← List.take_append_drop k L]
 rw[List.flatMap_append,zMS]
 omega
theorem oA (bs:List ax){i n:Nat}(X:ax)(hn:bs.length=n):CV [(i,0,0),(n,0,0)] (bs.set i X++[.gone]) bs:=by
 subst hn
 refine qw (fun j hj=>?_) (by simp)
 have h1:=hj _ List.mem_cons_self
 have h2:=hj _ (zNq _ List.mem_cons_self)
 simp only at h1 h2
 rcases zNg j bs.length with h|h
 ·rw[zMW (by rw[zM7];exact h),zMV h1]
 ·rw[zM6 (by simp;omega),zM6 h]
theorem Dw {bs:List ax}{i j:Nat}{e:Int}{L:List Bytes}{m:Bool}(hi:bs[i]? = some (.cells [.int .i64 e] 179 true))(hj:bs[j]? = some (.own (L.map SV.str) 9 1 L.length m))(hL:∀ x∈L,x.length≤16384)(hn:L.length≤1000000)(hlen:(L.flatMap gL).length≤10000000) :
 SC Tryz.V 185 [.o j L.length,.mv 186 [.p i 0]] bs (fun r b=>r=.str (L.flatMap gL)∧b=bs.set i (.cells [.int .i64 (if L.all en then e else 110)] 179 true)++[.gone]):=by
 have mU:j<bs.length:=(zMR.1 hj).1
 have eh:i<bs.length:=(zMR.1 hi).1
 have wm:i≠j:=by rintro rfl;rw[hi]at hj;cases hj
 refine cz 3000 Tryz.func185 rfl Tryz.ntmps185 Tryz.results185 Tryz.call185 (by simp) (aw bs.length _ (by simp[within,within.ay,mU,eh])) ?_
 simp only[ad,↓Xn,↓Xo,↓Xg,↓Xd,↓Xe,↓Xf,Tryz.VΓ,Tryz.Γs,Xp,Xi,Nat.reduceAdd,Nat.reduceSub,Nat.reduceLT,Nat.reduceLeDiff,reduceIte,reduceCtorEq,Nat.reduceEqDiff,implies_true,forall_const,aa,hj]
 refine aM (fun σ=>∃ k:Nat,k≤L.length∧lk 1 σ.t=some (.mv 186 [.p i 0])∧lk 4 σ.t=some (.str [])∧lk 5 σ.t=some (.p bs.length 0)∧lk 8 σ.t=some (.o j L.length)∧lk 9 σ.t=some (.int .i64 L.length)∧lk 10 σ.t=some (.int .i64 k) ∧
  G8 bs.length ((L.take k).flatMap gL) σ.b∧σ.b.length=bs.length+1∧σ.b[i]? = some (.cells [.int .i64 (if (L.take k).all en then e else 110)] 179 true)∧∀ q,q<bs.length→q≠i→σ.b[q]? = bs[q]?) (fun σ=>L.length - ja 10 σ)
  ⟨0,by omega,rfl,rfl,rfl,rfl,rfl,rfl,.inr ⟨rfl,aW _ _⟩,by simp,af hi _,fun q hq _=>zMW hq⟩ ?_
 rintro⟨t,b⟩ ⟨k,hk,h1,h4,h5,h8,h9,fy,hB,mQ,pW,Ag⟩
 simp only at h1 h4 h5 h8 h9 fy hB mQ pW Ag
 rw[az fy]
 have Hs:=(Ag j mU (fun e=>wm e.symm)).trans hj
 by_cases aB:k<L.length
 ·have hx:(L.map SV.str)[k * 1]? = some (.str L[k]):=by simp[aB]
  have Cc:=lC (g:=gL) aB
  have hle:=gV (g:=gL) (L:=L) (k:=k+1)
  rw[Cc,zMS]at hle
  have aR:(L.take (k+1)).all en=((L.take k).all en&&en L[k]):=by rw[zM5 aB,List.all_append];simp
  simp only[ad,↓Xn,↓Xo,↓Xg,↓Xd,↓Xe,↓Xf,Tryz.VΓ,Tryz.Γs,Xp,Xi,Nat.reduceAdd,Nat.reduceSub,Nat.reduceLT,Nat.reduceLeDiff,reduceIte,reduceCtorEq,Nat.reduceEqDiff,implies_true,forall_const,aa,h1,h4,h5,h8,h9,fy,Hs,hx]
  refine⟨fun _=>⟨⟨by omega,by omega⟩,by simp;omega,?_⟩,fun h=>absurd h (by simp;omega)⟩
  refine aJ (sc_up L[k] pW (hL _ (zM4 aB))) ?_
  rintro r b1 ⟨rfl,kR⟩
  have hbib:i<b.length:=by omega
  have iB:G8 bs.length ((L.take k).flatMap gL) b1:=by
   rw[kR]
   unfold G8
   rw[zMV (by omega)]
   exact hB
  have hbi1:b1[i]? = some (.cells [.int .i64 (if (L.take (k+1)).all en then e else 110)] 179 true):=by
   rw[kR,zMT hbib,aR]
   cases en L[k] <;> cases (L.take k).all en <;> rfl
  have Jw:∀ q,q<bs.length→q≠i→b1[q]? = bs[q]? := fun q hq bn=>by
   rw[kR,zMV (fun e=>bn e.symm)];exact Ag q hq bn
  have hbl1:b1.length=bs.length+1:=by rw[kR,zM7];exact mQ
  clear kR
  simp only[ad,↓Xn,↓Xo,↓Xg,↓Xd,↓Xe,↓Xf,Tryz.VΓ,Tryz.Γs,Xp,Xi,Nat.reduceAdd,Nat.reduceSub,Nat.reduceLT,Nat.reduceLeDiff,reduceIte,reduceCtorEq,Nat.reduceEqDiff,implies_true,forall_const,aa,h1,h4,h5,h8,h9,fy]
  refine aJ (sc_WS iB (by omega)) ?_
  rintro r b2 ⟨rfl,lA⟩
  simp only[ad,↓Xn,↓Xo,↓Xg,↓Xd,↓Xe,↓Xf,Tryz.VΓ,Tryz.Γs,Xp,Xi,Nat.reduceAdd,Nat.reduceSub,Nat.reduceLT,Nat.reduceLeDiff,reduceIte,reduceCtorEq,Nat.reduceEqDiff,implies_true,forall_const,aa,h1,h4,h5,h8,h9,fy]
  refine⟨⟨by omega,by omega⟩,⟨k+1,by omega,rfl,?_,?_,?_,?_⟩,?_⟩
  ·rw[Cc,lA];exact iB.set
  ·rw[lA,zM7];exact hbl1
  ·rw[lA,zMV (by omega)];exact hbi1
  ·intro q hq bn
   rw[lA,zMV (by omega)];exact Jw q hq bn
  ·rw[az (k:=.i64) (n:=(k:Int)+1) rfl];omega
 ·have jv:k=L.length:=by omega
  subst jv
  rw[zM3]at hB pW
  have yl:decide ((L.length:Int)<L.length)=false:=by simp
  simp only[ad,↓Xn,↓Xo,↓Xg,↓Xd,↓Xe,↓Xf,Tryz.VΓ,Tryz.Γs,Xp,Xi,Nat.reduceAdd,Nat.reduceSub,Nat.reduceLT,Nat.reduceLeDiff,reduceIte,reduceCtorEq,Nat.reduceEqDiff,implies_true,forall_const,aa,h1,h4,h5,h8,h9,fy,yl]
  refine aJ (HX hB) ?_
  rintro r b2 ⟨rfl,lA⟩
  simp only[ad,↓Xn,↓Xo,↓Xg,↓Xd,↓Xe,↓Xf,Tryz.VΓ,Tryz.Γs,Xp,Xi,Nat.reduceAdd,Nat.reduceSub,Nat.reduceLT,Nat.reduceLeDiff,reduceIte,reduceCtorEq,Nat.reduceEqDiff,implies_true,forall_const,aa,h1,h4,h5,h8,h9,fy]
  simp only at lA
  apply List.ext_getElem?
  intro q
  rw[lA]
  rcases Nat.lt_trichotomy q bs.length with hq|hq|hq
  ·rw[zMV (by omega),zMW (by rw[zM7];exact hq)]
   by_cases He:q=i
   ·subst He;rw[zMT hq];exact pW
   ·rw[zMV (fun e=>He e.symm)];exact Ag q hq He
  ·subst hq
   rw[zMT (by omega),zMZ (by simp)]
   simp
  ·rw[zM6 (by simp;omega),zM6 (by simp;omega)]
theorem jo {bs:List ax}{i j:Nat}{e:Int}{L:List Bytes}{m:Bool}(hi:bs[i]? = some (.cells [.int .i64 e] 179 true))(hj:bs[j]? = some (.own (L.map SV.str) 9 1 L.length m))(hL:∀ x∈L,x.length≤16384)(hn:L.length≤1000000)(hlen:(L.flatMap bt).length≤10000000) :
 SC Tryz.V 185 [.o j L.length,.mv 188 [.p i 0]] bs (fun r b=>r=.str (L.flatMap bt)∧b=bs.set i (.cells [.int .i64 (if L.all bN then e else 110)] 179 true)++[.gone]):=by
 have mU:j<bs.length:=(zMR.1 hj).1
 have eh:i<bs.length:=(zMR.1 hi).1
 have wm:i≠j:=by rintro rfl;rw[hi]at hj;cases hj
 refine cz 3000 Tryz.func185 rfl Tryz.ntmps185 Tryz.results185 Tryz.call185 (by simp) (aw bs.length _ (by simp[within,within.ay,mU,eh])) ?_
 simp only[ad,↓Xn,↓Xo,↓Xg,↓Xd,↓Xe,↓Xf,Tryz.VΓ,Tryz.Γs,Xp,Xi,Nat.reduceAdd,Nat.reduceSub,Nat.reduceLT,Nat.reduceLeDiff,reduceIte,reduceCtorEq,Nat.reduceEqDiff,implies_true,forall_const,aa,hj]
 refine aM (fun σ=>∃ k:Nat,k≤L.length∧lk 1 σ.t=some (.mv 188 [.p i 0])∧lk 4 σ.t=some (.str [])∧lk 5 σ.t=some (.p bs.length 0)∧lk 8 σ.t=some (.o j L.length)∧lk 9 σ.t=some (.int .i64 L.length)∧lk 10 σ.t=some (.int .i64 k) ∧
  G8 bs.length ((L.take k).flatMap bt) σ.b∧σ.b.length=bs.length+1∧σ.b[i]? = some (.cells [.int .i64 (if (L.take k).all bN then e else 110)] 179 true)∧∀ q,q<bs.length→q≠i→σ.b[q]? = bs[q]?) (fun σ=>L.length - ja 10 σ)
  ⟨0,by omega,rfl,rfl,rfl,rfl,rfl,rfl,.inr ⟨rfl,aW _ _⟩,by simp,af hi _,fun q hq _=>zMW hq⟩ ?_
 rintro⟨t,b⟩ ⟨k,hk,h1,h4,h5,h8,h9,fy,hB,mQ,pW,Ag⟩
 simp only at h1 h4 h5 h8 h9 fy hB mQ pW Ag
 rw[az fy]
 have Hs:=(Ag j mU (fun e=>wm e.symm)).trans hj
 by_cases aB:k<L.length
 ·have hx:(L.map SV.str)[k * 1]? = some (.str L[k]):=by simp[aB]
  have Cc:=lC (g:=bt) aB
  have hle:=gV (g:=bt) (L:=L) (k:=k+1)
  rw[Cc,zMS]at hle
  have aR:(L.take (k+1)).all bN=((L.take k).all bN&&bN L[k]):=by rw[zM5 aB,List.all_append];simp
  simp only[ad,↓Xn,↓Xo,↓Xg,↓Xd,↓Xe,↓Xf,Tryz.VΓ,Tryz.Γs,Xp,Xi,Nat.reduceAdd,Nat.reduceSub,Nat.reduceLT,Nat.reduceLeDiff,reduceIte,reduceCtorEq,Nat.reduceEqDiff,implies_true,forall_const,aa,h1,h4,h5,h8,h9,fy,Hs,hx]
  refine⟨fun _=>⟨⟨by omega,by omega⟩,by simp;omega,?_⟩,fun h=>absurd h (by simp;omega)⟩
  refine aJ (sc_down L[k] pW (hL _ (zM4 aB))) ?_
  rintro r b1 ⟨rfl,kR⟩
  have hbib:i<b.length:=by omega
  have iB:G8 bs.length ((L.take k).flatMap bt) b1:=by
   rw[kR]
   unfold G8
   rw[zMV (by omega)]
   exact hB
  have hbi1:b1[i]? = some (.cells [.int .i64 (if (L.take (k+1)).all bN then e else 110)] 179 true):=by
   rw[kR,zMT hbib,aR]
   cases bN L[k] <;> cases (L.take k).all bN <;> rfl
  have Jw:∀ q,q<bs.length→q≠i→b1[q]? = bs[q]? := fun q hq bn=>by
   rw[kR,zMV (fun e=>bn e.symm)];exact Ag q hq bn
  have hbl1:b1.length=bs.length+1:=by rw[kR,zM7];exact mQ
  clear kR
  simp only[ad,↓Xn,↓Xo,↓Xg,↓Xd,↓Xe,↓Xf,Tryz.VΓ,Tryz.Γs,Xp,Xi,Nat.reduceAdd,Nat.reduceSub,Nat.reduceLT,Nat.reduceLeDiff,reduceIte,reduceCtorEq,Nat.reduceEqDiff,implies_true,forall_const,aa,h1,h4,h5,h8,h9,fy]
  refine aJ (sc_WS iB (by omega)) ?_
  rintro r b2 ⟨rfl,lA⟩
  simp only[ad,↓Xn,↓Xo,↓Xg,↓Xd,↓Xe,↓Xf,Tryz.VΓ,Tryz.Γs,Xp,Xi,Nat.reduceAdd,Nat.reduceSub,Nat.reduceLT,Nat.reduceLeDiff,reduceIte,reduceCtorEq,Nat.reduceEqDiff,implies_true,forall_const,aa,h1,h4,h5,h8,h9,fy]
  refine⟨⟨by omega,by omega⟩,⟨k+1,by omega,rfl,?_,?_,?_,?_⟩,?_⟩
  ·rw[Cc,lA];exact iB.set
  ·rw[lA,zM7];exact hbl1
  ·rw[lA,zMV (by omega)];exact hbi1
  ·intro q hq bn
   rw[lA,zMV (by omega)];exact Jw q hq bn
  ·rw[az (k:=.i64) (n:=(k:Int)+1) rfl];omega
 ·have jv:k=L.length:=by omega
  subst jv
  rw[zM3]at hB pW
  have yl:decide ((L.length:Int)<L.length)=false:=by simp
  simp only[ad,↓Xn,↓Xo,↓Xg,↓Xd,↓Xe,↓Xf,Tryz.VΓ,Tryz.Γs,Xp,Xi,Nat.reduceAdd,Nat.reduceSub,Nat.reduceLT,Nat.reduceLeDiff,reduceIte,reduceCtorEq,Nat.reduceEqDiff,implies_true,forall_const,aa,h1,h4,h5,h8,h9,fy,yl]
  refine aJ (HX hB) ?_
  rintro r b2 ⟨rfl,lA⟩
  simp only[ad,↓Xn,↓Xo,↓Xg,↓Xd,↓Xe,↓Xf,Tryz.VΓ,Tryz.Γs,Xp,Xi,Nat.reduceAdd,Nat.reduceSub,Nat.reduceLT,Nat.reduceLeDiff,reduceIte,reduceCtorEq,Nat.reduceEqDiff,implies_true,forall_const,aa,h1,h4,h5,h8,h9,fy]
  simp only at lA
  apply List.ext_getElem?
  intro q
  rw[lA]
  rcases Nat.lt_trichotomy q bs.length with hq|hq|hq
  ·rw[zMV (by omega),zMW (by rw[zM7];exact hq)]
   by_cases He:q=i
   ·subst He;rw[zMT hq];exact pW
   ·rw[zMV (fun e=>He e.symm)];exact Ag q hq He
  ·subst hq
   rw[zMT (by omega),zMZ (by simp)]
   simp
  ·rw[zM6 (by simp;omega),zM6 (by simp;omega)]
theorem gR:∀ {l:List Bytes}{x:Bytes},x∈l→x.length≤l.flatten.length
 | y::l,x,h=>by
   rw[zNf,zMS]
   rcases List.mem_cons.1 h with rfl|h
   ·omega
   ·have:=gR h;omega
theorem Bk (n:Nat)(hn:n≤18446744073709551615):PC Tryz.V 180 [.int .u64 n] (.str (cM n)) :=
 ⟨Tryz.call180,by simp[flat,flat.ai],by simp[flat,flat.ai],fun w _=>(kL n w hn).mono fun _ _ ⟨h,k⟩=>⟨h,k⟩⟩
theorem A8 (d:fU)(h:eG d):PC Tryz.V 160 [fj d] (.eS [ey (eJ d).1,.int .i64 (eJ d).2]):=by
 have pa:=mD d h
 have Cg:=@ot d
 have hha:(bh d).2=0→aH (bg (bh d).1.1 (bh d).1.2)=(((bh d).1.1,(bh d).1.2),0)∧d.method=dP∧(aY (bA d)).2=0:=vG
 unfold eJ
 generalize bh d=A at pa hha ⊢
 obtain⟨⟨x,p⟩,e⟩:=A
 simp only at pa hha ⊢
 refine aQ 3000 Tryz.func160 rfl Tryz.ntmps160 Tryz.results160 Tryz.call160 (by simp) (by simp[flat,flat.ai,fj,ey]) (by simp[flat,flat.ai,fj,ey]) ?_
 unfold fj
 unfold fj at pa
 simp only[ad,↓Xn,↓Xo,↓Xg,↓Xd,↓Xe,↓Xf,Tryz.VΓ,Tryz.Γs,Xp,Xi,Nat.reduceAdd,Nat.reduceSub,Nat.reduceLT,Nat.reduceLeDiff,reduceIte,reduceCtorEq,Nat.reduceEqDiff,implies_true,forall_const,aa]
 (refine ae pa ?_;simp only[ad,↓Xn,↓Xo,↓Xg,↓Xd,↓Xe,↓Xf,Tryz.VΓ,Tryz.Γs,Xp,Xi,Nat.reduceAdd,Nat.reduceSub,Nat.reduceLT,Nat.reduceLeDiff,reduceIte,reduceCtorEq,Nat.reduceEqDiff,implies_true,forall_const,aa])
 refine⟨fun h1=>(by rw[if_pos (by simpa using h1)];rfl),fun h1=>?_⟩
 have h1:e=0:=by simpa using h1
 rw[if_neg (by simp[h1])]
 obtain⟨hh,hm,hp⟩:=hha h1
 obtain⟨hl,zD⟩:=Cg hm hp
 have Ff:=lT 58 d.id
 obtain⟨T,hT⟩:=oh 58 d.id
 have nS:=xw 58 d.id
 rw[hT]at zD Ff nS ⊢
 generalize (aL 58 d.id).1=c at zD Ff nS ⊢
 simp only[zNf,zMS,zMU,List.tail_cons]at Ff ⊢
 refine aJ (sA d.id [58] _ nS (by omega) (by decide)) ?_
 rintro r b ⟨rfl,rfl⟩
 simp only[ad,↓Xn,↓Xo,↓Xg,↓Xd,↓Xe,↓Xf,Tryz.VΓ,Tryz.Γs,Xp,Xi,Nat.reduceAdd,Nat.reduceSub,Nat.reduceLT,Nat.reduceLeDiff,reduceIte,reduceCtorEq,Nat.reduceEqDiff,implies_true,forall_const,aa]
 have e0:T.length+1 - zNp 1=T.length:=by simp
 have e1:List.drop (zNp 1 * 1) (List.take ((T.length+1) * 1) (SV.str c::T.map SV.str))=T.map SV.str:=by
  rw[zNk (by simp)];simp
 simp only[e0,e1]
 have hfu:=zN T
 have bX:∀ q:Bytes,q.length≤100000→Fair ⟨x,p,q,[],[],false,false⟩:=fun q hq=>by
  obtain⟨-,-,-,k4,k5,k6⟩:=cA hh
  exact⟨by simp only[zM1];omega,by simp only;omega,by simp only;omega⟩
 refine⟨⟨by omega,by omega⟩,fun hn=>?_,fun hn=>?_⟩
 ·have hT1:T≠[]:=by rintro rfl;simp at hn
  refine aJ (Dw (i:=6) (j:=5) (m:=false) (e:=0) (L:=T) rfl rfl (fun y hy=>by have:=(zD y (zNq _ hy)).2;omega) (by omega) (by omega)) ?_
  rintro r b ⟨rfl,rfl⟩
  have ep:T.flatMap gL++[47]++[100,105,100,46,106,115,111,110]=ik T:=by
   unfold ik
   rw[if_neg hT1]
   simp[fw]
  have gd:(ik T).length≤100000:=by rw[← ep];simp only[zMS,zMU,zM1];omega
  have pf:=gN ⟨x,p,ik T,[],[],false,false⟩ (bX _ gd)
  unfold ey at pf
  simp only at pf
  rcases Bool.eq_false_or_eq_true (T.all en) with aR|aR
  rotate_left
  ·simp only[ad,↓Xn,↓Xo,↓Xg,↓Xd,↓Xe,↓Xf,Tryz.VΓ,Tryz.Γs,Xp,Xi,Nat.reduceAdd,Nat.reduceSub,Nat.reduceLT,Nat.reduceLeDiff,reduceIte,reduceCtorEq,Nat.reduceEqDiff,implies_true,forall_const,aa,aR,ep,zM9,zNa,zM8,zNb,beq_self_eq_true,bne_self_eq_false,Int.reduceBEq,Int.reduceBNe,Int.reduceLT,Int.reduceLE,Bool.false_eq_true,if_false]
   refine⟨by omega,by simp only[zMS,zMU,zM1];omega,(aq (by kernel_rfl)),rfl⟩
  ·simp only[ad,↓Xn,↓Xo,↓Xg,↓Xd,↓Xe,↓Xf,Tryz.VΓ,Tryz.Γs,Xp,Xi,Nat.reduceAdd,Nat.reduceSub,Nat.reduceLT,Nat.reduceLeDiff,reduceIte,reduceCtorEq,Nat.reduceEqDiff,implies_true,forall_const,aa,aR,ep,zM9,zNa,zM8,zNb,beq_self_eq_true,bne_self_eq_false,Int.reduceBEq,Int.reduceBNe,Int.reduceLT,Int.reduceLE,if_true]
   refine⟨by omega,by simp only[zMS,zMU,zM1];omega,?_⟩
   (refine ae pf ?_;simp only[ad,↓Xn,↓Xo,↓Xg,↓Xd,↓Xe,↓Xf,Tryz.VΓ,Tryz.Γs,Xp,Xi,Nat.reduceAdd,Nat.reduceSub,Nat.reduceLT,Nat.reduceLeDiff,reduceIte,reduceCtorEq,Nat.reduceEqDiff,implies_true,forall_const,aa])
   unfold jG
   exact⟨fun hl=>(by rw[if_pos (by simp only[decide_eq_true_eq,decide_eq_false_iff_not]at hl;omega)];rfl),fun hl=>(by rw[if_neg (by simp only[decide_eq_true_eq,decide_eq_false_iff_not]at hl;omega)];rfl)⟩
 ·obtain rfl:T=[]:=by
   cases T with
   | nil=>rfl
   | cons=>simp at hn
  have pf:=gN ⟨x,p,cL,[],[],false,false⟩ (bX cL (by decide))
  unfold ey at pf
  have ep:([47,46,119,101,108,108,45,107,110,111,119,110,47,100,105,100,46,106,115,111,110]:Bytes)=cL:=rfl
  rw[ep]
  (refine ae pf ?_;simp only[ad,↓Xn,↓Xo,↓Xg,↓Xd,↓Xe,↓Xf,Tryz.VΓ,Tryz.Γs,Xp,Xi,Nat.reduceAdd,Nat.reduceSub,Nat.reduceLT,Nat.reduceLeDiff,reduceIte,reduceCtorEq,Nat.reduceEqDiff,implies_true,forall_const,aa])
  have:ik []=cL:=rfl
  rw[this]
  unfold jG
  exact⟨fun hl=>(by rw[if_pos (by simp only[decide_eq_true_eq,decide_eq_false_iff_not]at hl;omega)];rfl),fun hl=>(by rw[if_neg (by simp only[decide_eq_true_eq,decide_eq_false_iff_not]at hl;omega)];rfl)⟩
theorem wJ (u:fe)(hk:Fair u):PC Tryz.V 161 [ey u] (.eS [fj (gf u).1,.int .i64 (gf u).2]):=by
 have pv1:=Ba u hk
 have gd:=hk.1
 unfold ey at pv1 ⊢
 cases hv:fW u
 ·rw[hv]at pv1
  rw[show gf u=(fU.none,8) from if_pos hv]
  refine aQ 3000 Tryz.func161 rfl Tryz.ntmps161 Tryz.results161 Tryz.call161 (by simp) (by simp[flat,flat.ai,fj,ey]) (by simp[flat,flat.ai,fj,ey]) ?_
  simp only[ad,↓Xn,↓Xo,↓Xg,↓Xd,↓Xe,↓Xf,Tryz.VΓ,Tryz.Γs,Xp,Xi,Nat.reduceAdd,Nat.reduceSub,Nat.reduceLT,Nat.reduceLeDiff,reduceIte,reduceCtorEq,Nat.reduceEqDiff,implies_true,forall_const,aa]
  (refine ae pv1 ?_;simp only[ad,↓Xn,↓Xo,↓Xg,↓Xd,↓Xe,↓Xf,Tryz.VΓ,Tryz.Γs,Xp,Xi,Nat.reduceAdd,Nat.reduceSub,Nat.reduceLT,Nat.reduceLeDiff,reduceIte,reduceCtorEq,Nat.reduceEqDiff,implies_true,forall_const,aa,beq_self_eq_true,bne_self_eq_false,Int.reduceBEq,Int.reduceBNe,Int.reduceLT,Int.reduceLE])
  rfl
 obtain⟨T,z,hT,C3,hL0,hp4⟩:=sq hv
 rw[vx hv hT C3]
 rw[hv]at pv1
 have Ff:=lT 47 u.path
 have nS:=xw 47 u.path
 rw[hT]at Ff nS
 generalize (aL 47 u.path).1=c at Ff nS
 clear hT
 simp only[zNf,zMS,zMU]at Ff
 have e0:T.length+1 - zNp 1=T.length:=by simp
 have e1:List.drop (zNp 1 * 1) (List.take ((T.length+1) * 1) (SV.str c::T.map SV.str))=T.map SV.str:=by
  rw[zNk (by simp)];simp
 have hz:(T.map SV.str)[((T.length:Int) - 1).toNat * 1]? = some (.str z):=by
  rw[show ((T.length:Int) - 1).toNat * 1=T.length - 1 by omega,List.getElem?_map,← List.getLast?_eq_getElem?,C3]
  rfl
 refine aQ 3000 Tryz.func161 rfl Tryz.ntmps161 Tryz.results161 Tryz.call161 (by simp) (by simp[flat,flat.ai,fj,ey]) (by simp[flat,flat.ai,fj,ey]) ?_
 simp only[ad,↓Xn,↓Xo,↓Xg,↓Xd,↓Xe,↓Xf,Tryz.VΓ,Tryz.Γs,Xp,Xi,Nat.reduceAdd,Nat.reduceSub,Nat.reduceLT,Nat.reduceLeDiff,reduceIte,reduceCtorEq,Nat.reduceEqDiff,implies_true,forall_const,aa]
 (refine ae pv1 ?_;simp only[ad,↓Xn,↓Xo,↓Xg,↓Xd,↓Xe,↓Xf,Tryz.VΓ,Tryz.Γs,Xp,Xi,Nat.reduceAdd,Nat.reduceSub,Nat.reduceLT,Nat.reduceLeDiff,reduceIte,reduceCtorEq,Nat.reduceEqDiff,implies_true,forall_const,aa,beq_self_eq_true,bne_self_eq_false,Int.reduceBEq,Int.reduceBNe,Int.reduceLT,Int.reduceLE])
 refine aJ (sA u.path [47] _ nS (by omega) (by decide)) ?_
 rintro r b ⟨rfl,rfl⟩
 simp only[ad,↓Xn,↓Xo,↓Xg,↓Xd,↓Xe,↓Xf,Tryz.VΓ,Tryz.Γs,Xp,Xi,Nat.reduceAdd,Nat.reduceSub,Nat.reduceLT,Nat.reduceLeDiff,reduceIte,reduceCtorEq,Nat.reduceEqDiff,implies_true,forall_const,aa,e0,e1,hz]
 have hzS:(z != [100,105,100,46,106,115,111,110])=(z != fw):=rfl
 have hrS:(u.path != [47,46,119,101,108,108,45,107,110,111,119,110,47,100,105,100,46,106,115,111,110])=(u.path != cL):=rfl
 rw[hzS,hrS]
 have Ej:=rr hv
 obtain⟨-,-,-,k4,k5,k6⟩:=cA Ej.host
 have hwrap:IntKind.u64.wrap u.port=(u.port.natAbs:Int):=by
  simp only[IntKind.wrap,IntKind.signed,IntKind.bits]
  simp
  omega
 have pQ:T.dropLast.length=T.length - 1:=List.length_dropLast ..
 have e2:((T.length:Int) - 1).toNat=T.dropLast.length:=by omega
 have e3:List.take (T.dropLast.length * 1) (T.map SV.str)=T.dropLast.map SV.str:=by
  rw[Nat.mul_one,pQ,zNn,List.map_take]
 have hdf:T.dropLast.flatten.length≤T.flatten.length:=by
  rw[zNn]
  have:=congrArg (fun l=>(List.flatten l).length) (List.take_append_drop (T.length - 1) T)
  simp only[List.flatten_append,zMS]at this
  omega
 have hdm:∀ x∈T.dropLast,x.length≤16384:=fun x hx=>by
  have:=gR hx
  omega
 have hfd:=sf T.dropLast
 have bX:∀ q:Bytes,q.length≤100000→eG ⟨dP,q⟩:=fun q hq=>⟨show dP.length≤_ by decide,show q.length≤_ by omega⟩
 simp only[e2,e3]
 refine⟨⟨by omega,by omega⟩,fun hq=>⟨fun hf=>⟨⟨by omega,by omega⟩,⟨by omega,by omega⟩,by simp;omega,fun mN=>?_,fun mN=>⟨fun mO=>?_,fun mO=>⟨fun hp=>?_,fun hp=>?_⟩⟩⟩,fun hf=>?_⟩,fun hq=>?_⟩
 ·rw[if_neg (by rw[hq];simp),if_neg (by rw[hf];simp),if_pos mN];rfl
 ·rw[if_neg (by rw[hq];simp),if_neg (by rw[hf];simp),if_neg (by rw[mN];simp),if_pos (by simp at mO;omega)];rfl
 ·rw[if_neg (by rw[hq];simp),if_neg (by rw[hf];simp),if_neg (by rw[mN];simp),if_neg (by simp at mO;omega)]
  have hp0:¬ u.port=0:=by simpa using hp
  have oE:bk u=u.host++([37,51,65]++cM u.port.natAbs):=by unfold bk;rw[if_neg hp0]
  rw[hwrap]
  have pn:=Bk u.port.natAbs (by omega)
  have hdc:=dO 19 u.port.natAbs (by omega)
  (refine aU pn ?_;simp only[ad,↓Xn,↓Xo,↓Xg,↓Xd,↓Xe,↓Xf,Tryz.VΓ,Tryz.Γs,Xp,Xi,Nat.reduceAdd,Nat.reduceSub,Nat.reduceLT,Nat.reduceLeDiff,reduceIte,reduceCtorEq,Nat.reduceEqDiff,implies_true,forall_const,aa])
  rw[hrS]
  simp only[e2,e3]
  refine⟨by omega,by omega,(aq (by kernel_rfl)),?_⟩
  have hBl:(u.host++37::51::65::cM u.port.natAbs).length≤300:=by simp only[zMS,zMU];omega
  have oE:bk u=u.host++37::51::65::cM u.port.natAbs:=oE
  refine⟨fun hr=>⟨⟨by omega,by omega⟩,⟨by omega,by omega⟩,?_⟩,fun hr=>?_⟩
  ·unfold fA
   rw[if_neg (by simpa using hr),oE]
   rcases Bool.eq_false_or_eq_true (T.dropLast.all bN) with aR|aR
   ·rw[if_neg (by rw[aR];simp)]
    have pf:=dD ⟨dP,(u.host++37::51::65::cM u.port.natAbs)++T.dropLast.flatMap bt⟩ (bX _ (by rw[zMS];omega))
    unfold fj at pf
    simp only at pf
    refine bC [(5,0,0),(7,0,0)] (jo (i:=5) (j:=6) (m:=false) (e:=0) (L:=T.dropLast) rfl rfl hdm (by omega) (by omega)) (oA (i:=5) _ _ rfl) ?_
    simp only[ad,↓Xn,↓Xo,↓Xg,↓Xd,↓Xe,↓Xf,Tryz.VΓ,Tryz.Γs,Xp,Xi,Nat.reduceAdd,Nat.reduceSub,Nat.reduceLT,Nat.reduceLeDiff,reduceIte,reduceCtorEq,Nat.reduceEqDiff,implies_true,forall_const,aa,aR,zM9,zNa,zM8,zNb,beq_self_eq_true,bne_self_eq_false,Int.reduceBEq,Int.reduceBNe,Int.reduceLT,Int.reduceLE,if_true]
    refine⟨by omega,(aq (by kernel_rfl)),?_⟩
    (refine ae pf ?_;simp only[ad,↓Xn,↓Xo,↓Xg,↓Xd,↓Xe,↓Xf,Tryz.VΓ,Tryz.Γs,Xp,Xi,Nat.reduceAdd,Nat.reduceSub,Nat.reduceLT,Nat.reduceLeDiff,reduceIte,reduceCtorEq,Nat.reduceEqDiff,implies_true,forall_const,aa])
    unfold gU
    exact⟨fun hl=>(by rw[if_pos (by simp only[decide_eq_true_eq,decide_eq_false_iff_not]at hl;omega)];rfl),fun hl=>(by rw[if_neg (by simp only[decide_eq_true_eq,decide_eq_false_iff_not]at hl;omega)];rfl)⟩
   ·rw[if_pos aR]
    refine bC [(5,0,0),(7,0,0)] (jo (i:=5) (j:=6) (m:=false) (e:=0) (L:=T.dropLast) rfl rfl hdm (by omega) (by omega)) (oA (i:=5) _ _ rfl) ?_
    simp only[ad,↓Xn,↓Xo,↓Xg,↓Xd,↓Xe,↓Xf,Tryz.VΓ,Tryz.Γs,Xp,Xi,Nat.reduceAdd,Nat.reduceSub,Nat.reduceLT,Nat.reduceLeDiff,reduceIte,reduceCtorEq,Nat.reduceEqDiff,implies_true,forall_const,aa,aR,zM9,zNa,zM8,zNb,beq_self_eq_true,bne_self_eq_false,Int.reduceBEq,Int.reduceBNe,Int.reduceLT,Int.reduceLE,Bool.false_eq_true,if_false]
    exact⟨by omega,(aq (by kernel_rfl)),(aq (by kernel_rfl)),rfl⟩
  ·unfold fA
   rw[if_pos (by simpa using hr),oE]
   have pf:=dD ⟨dP,(u.host++37::51::65::cM u.port.natAbs)⟩ (bX _ (by omega))
   unfold fj at pf
   simp only at pf
   (refine ae pf ?_;simp only[ad,↓Xn,↓Xo,↓Xg,↓Xd,↓Xe,↓Xf,Tryz.VΓ,Tryz.Γs,Xp,Xi,Nat.reduceAdd,Nat.reduceSub,Nat.reduceLT,Nat.reduceLeDiff,reduceIte,reduceCtorEq,Nat.reduceEqDiff,implies_true,forall_const,aa])
   unfold gU
   exact⟨fun hl=>(by rw[if_pos (by simp only[decide_eq_true_eq,decide_eq_false_iff_not]at hl;omega)];rfl),fun hl=>(by rw[if_neg (by simp only[decide_eq_true_eq,decide_eq_false_iff_not]at hl;omega)];rfl)⟩
 ·rw[if_neg (by rw[hq];simp),if_neg (by rw[hf];simp),if_neg (by rw[mN];simp),if_neg (by simp at mO;omega)]
  have hp0:u.port=0:=by simpa using hp
  have oE:bk u=u.host:=by unfold bk;rw[if_pos hp0,zNj]
  have hBl:u.host.length≤300:=by omega
  refine⟨fun hr=>⟨⟨by omega,by omega⟩,⟨by omega,by omega⟩,?_⟩,fun hr=>?_⟩
  ·unfold fA
   rw[if_neg (by simpa using hr),oE]
   rcases Bool.eq_false_or_eq_true (T.dropLast.all bN) with aR|aR
   ·rw[if_neg (by rw[aR];simp)]
    have pf:=dD ⟨dP,u.host++T.dropLast.flatMap bt⟩ (bX _ (by rw[zMS];omega))
    unfold fj at pf
    simp only at pf
    refine bC [(5,0,0),(7,0,0)] (jo (i:=5) (j:=6) (m:=false) (e:=0) (L:=T.dropLast) rfl rfl hdm (by omega) (by omega)) (oA (i:=5) _ _ rfl) ?_
    simp only[ad,↓Xn,↓Xo,↓Xg,↓Xd,↓Xe,↓Xf,Tryz.VΓ,Tryz.Γs,Xp,Xi,Nat.reduceAdd,Nat.reduceSub,Nat.reduceLT,Nat.reduceLeDiff,reduceIte,reduceCtorEq,Nat.reduceEqDiff,implies_true,forall_const,aa,aR,zM9,zNa,zM8,zNb,beq_self_eq_true,bne_self_eq_false,Int.reduceBEq,Int.reduceBNe,Int.reduceLT,Int.reduceLE,if_true]
    refine⟨by omega,(aq (by kernel_rfl)),?_⟩
    (refine ae pf ?_;simp only[ad,↓Xn,↓Xo,↓Xg,↓Xd,↓Xe,↓Xf,Tryz.VΓ,Tryz.Γs,Xp,Xi,Nat.reduceAdd,Nat.reduceSub,Nat.reduceLT,Nat.reduceLeDiff,reduceIte,reduceCtorEq,Nat.reduceEqDiff,implies_true,forall_const,aa])
    unfold gU
    exact⟨fun hl=>(by rw[if_pos (by simp only[decide_eq_true_eq,decide_eq_false_iff_not]at hl;omega)];rfl),fun hl=>(by rw[if_neg (by simp only[decide_eq_true_eq,decide_eq_false_iff_not]at hl;omega)];rfl)⟩
   ·rw[if_pos aR]
    refine bC [(5,0,0),(7,0,0)] (jo (i:=5) (j:=6) (m:=false) (e:=0) (L:=T.dropLast) rfl rfl hdm (by omega) (by omega)) (oA (i:=5) _ _ rfl) ?_
    simp only[ad,↓Xn,↓Xo,↓Xg,↓Xd,↓Xe,↓Xf,Tryz.VΓ,Tryz.Γs,Xp,Xi,Nat.reduceAdd,Nat.reduceSub,Nat.reduceLT,Nat.reduceLeDiff,reduceIte,reduceCtorEq,Nat.reduceEqDiff,implies_true,forall_const,aa,aR,zM9,zNa,zM8,zNb,beq_self_eq_true,bne_self_eq_false,Int.reduceBEq,Int.reduceBNe,Int.reduceLT,Int.reduceLE,Bool.false_eq_true,if_false]
    exact⟨by omega,(aq (by kernel_rfl)),(aq (by kernel_rfl)),rfl⟩
  ·unfold fA
   rw[if_pos (by simpa using hr),oE]
   have pf:=dD ⟨dP,u.host⟩ (bX _ (by omega))
   unfold fj at pf
   simp only at pf
   (refine ae pf ?_;simp only[ad,↓Xn,↓Xo,↓Xg,↓Xd,↓Xe,↓Xf,Tryz.VΓ,Tryz.Γs,Xp,Xi,Nat.reduceAdd,Nat.reduceSub,Nat.reduceLT,Nat.reduceLeDiff,reduceIte,reduceCtorEq,Nat.reduceEqDiff,implies_true,forall_const,aa])
   unfold gU
   exact⟨fun hl=>(by rw[if_pos (by simp only[decide_eq_true_eq,decide_eq_false_iff_not]at hl;omega)];rfl),fun hl=>(by rw[if_neg (by simp only[decide_eq_true_eq,decide_eq_false_iff_not]at hl;omega)];rfl)⟩
 ·rw[if_neg (by rw[hq];simp),if_pos hf];rfl
 ·rw[if_pos hq];rfl
theorem vO {u:fe}(h:jh u):Fair u:=by
 have h1:=mX u
 have h2:=h.len
 obtain⟨-,-,-,k4,k5,k6⟩:=cA h.host
 refine⟨?_,by omega,by omega⟩
 have hq:u.query.length≤4096:=by
  cases hb:u.bm
  ·rw[h.noq hb];simp
  ·have:=h1.2.1 hb;omega
 have hf:u.fragment.length≤4096:=by
  cases hb:u.bF
  ·rw[h.nof hb];simp
  ·have:=h1.2.2 hb;omega
 omega
theorem tV (d:fU)(h:(eJ d).2=0):Fair (eJ d).1:=vO (xu (d:=d) (u:=(eJ d).1) (by rw[← h])).1
theorem tj (d:fU)(h:eG d):PC Tryz.V 121 [fj d] (.eS [fj (eF d).1,.int .i64 (eF d).2]):=by
 have pt:=A8 d h
 have vp:=tV d
 unfold eF
 generalize eJ d=X at pt vp ⊢
 obtain⟨u,e⟩:=X
 simp only at pt vp ⊢
 refine aQ 3000 Tryz.func121 rfl Tryz.ntmps121 Tryz.results121 Tryz.call121 (by simp) (by simp[flat,flat.ai,fj,ey]) (by simp[flat,flat.ai,fj,ey]) ?_
 unfold fj
 unfold fj ey at pt
 simp only[ad,↓Xn,↓Xo,↓Xg,↓Xd,↓Xe,↓Xf,Tryz.VΓ,Tryz.Γs,Xp,Xi,Nat.reduceAdd,Nat.reduceSub,Nat.reduceLT,Nat.reduceLeDiff,reduceIte,reduceCtorEq,Nat.reduceEqDiff,implies_true,forall_const,aa]
 (refine ae pt ?_;simp only[ad,↓Xn,↓Xo,↓Xg,↓Xd,↓Xe,↓Xf,Tryz.VΓ,Tryz.Γs,Xp,Xi,Nat.reduceAdd,Nat.reduceSub,Nat.reduceLT,Nat.reduceLeDiff,reduceIte,reduceCtorEq,Nat.reduceEqDiff,implies_true,forall_const,aa])
 refine⟨fun h1=>(by rw[if_pos (by simpa using h1)];rfl),fun h1=>?_⟩
 rw[if_neg (by simpa using h1)]
 have pf:=wJ u (vp (by simpa using h1))
 unfold fj ey at pf
 (refine ae pf ?_;simp only[ad,↓Xn,↓Xo,↓Xg,↓Xd,↓Xe,↓Xf,Tryz.VΓ,Tryz.Γs,Xp,Xi,Nat.reduceAdd,Nat.reduceSub,Nat.reduceLT,Nat.reduceLeDiff,reduceIte,reduceCtorEq,Nat.reduceEqDiff,implies_true,forall_const,aa])
theorem zf (p:Int)(h1:0≤p)(h2:p≤9223372036854775807):PC Tryz.V 132 [.int .i64 p] (.str (cM p.natAbs)) :=
 ⟨Tryz.call132,by simp[flat,flat.ai],by simp[flat,flat.ai],fun w _=>(oS p w (by omega) h2).mono fun _ _ ⟨h,k⟩=>⟨by rw[h,if_neg (by omega)];rfl,k⟩⟩
theorem qf {bs:List ax}(d:fU)(h:eG d):SC Tryz.V 110 [fj d] bs (fun r b=>Kp bs b∧∃ x,r=.eS [x,.agg [.str (bh d).1.1,.int .i64 (bh d).1.2],.int .i64 (bh d).2] ∧
 ((bh d).2=0→∃ j,x=.o j (aC 58 d.id).length∧bs.length≤j∧b[j]? = some (.own ((aC 58 d.id).map SV.str) 9 1 (aC 58 d.id).length true))):=by
 have pf:=ga d h
 have pp:=nC (bA d)
 have hf:=@vU d
 have hd:=@ot d
 refine cz 3000 Tryz.func110 rfl Tryz.ntmps110 Tryz.results110 Tryz.call110 (by simp) (aw bs.length _ (by simp[within,within.ay,fj])) ?_
 unfold fj
 unfold fj at pf pp
 unfold bh
 simp only[ad,↓Xn,↓Xo,↓Xg,↓Xd,↓Xe,↓Xf,Tryz.VΓ,Tryz.Γs,Xp,Xi,Nat.reduceAdd,Nat.reduceSub,Nat.reduceLT,Nat.reduceLeDiff,reduceIte,reduceCtorEq,Nat.reduceEqDiff,implies_true,forall_const,aa,aW,rb,ra,at_prev3,dX,qd,set_prev2]
 refine⟨fun h1=>?_,fun h1=>?_⟩
 ·rw[if_pos (by simpa[dP] using h1)]
  refine⟨((Kp.refl _).app _).app _,.aE,rfl,fun k=>by simp at k⟩
 have h1:d.method=dP:=by simpa[dP] using h1
 rw[if_neg (by simp[h1])]
 (refine ae pf ?_;simp only[ad,↓Xn,↓Xo,↓Xg,↓Xd,↓Xe,↓Xf,Tryz.VΓ,Tryz.Γs,Xp,Xi,Nat.reduceAdd,Nat.reduceSub,Nat.reduceLT,Nat.reduceLeDiff,reduceIte,reduceCtorEq,Nat.reduceEqDiff,implies_true,forall_const,aa,aW,rb,ra,at_prev3,dX,qd,set_prev2])
 (refine ae pp ?_;simp only[ad,↓Xn,↓Xo,↓Xg,↓Xd,↓Xe,↓Xf,Tryz.VΓ,Tryz.Γs,Xp,Xi,Nat.reduceAdd,Nat.reduceSub,Nat.reduceLT,Nat.reduceLeDiff,reduceIte,reduceCtorEq,Nat.reduceEqDiff,implies_true,forall_const,aa,aW,rb,ra,at_prev3,dX,qd,set_prev2])
 refine⟨fun h2=>?_,fun h2=>?_⟩
 ·rw[if_pos (by simpa using h2)]
  refine⟨(((Kp.refl _).app _).app _).app _,.aE,rfl,fun k=>absurd k (by simpa using h2)⟩
 have h2:(aY (bA d)).2=0:=by simpa using h2
 rw[if_neg (by simp[h2])]
 have hf:=hf h1 h2
 have hd:=hd h1 h2
 obtain⟨T,hT⟩:=oh 58 d.id
 have pd:=fk (aL 58 d.id).1
 rw[hf]at pd ⊢
 have mO:=eg 58 d.id
 have gF:=jS (aL 58 d.id).1
 have ph:=ux (jw (aL 58 d.id).1) (by omega)
 refine aJ (qh d.id 58 (by omega)) ?_
 rintro r b ⟨j,rfl,lN,hj,cw⟩
 rw[hT]at hj ⊢
 generalize (aL 58 d.id).1=c at *
 simp only at lN cw hj
 have mN:=cw.at (rb _ _ _)
 have hkb:Kp bs b:=((((Kp.refl bs).app _).app _).app _).trans cw
 have mQ:bs.length≤b.length:=hkb.1
 simp only[zMS,zMU,zM1]at lN
 have mU:=(zMR.1 hj).1
 have Hg:∀ X:ax,(bs++[X]).length=bs.length+1:=fun X=>by simp
 rw[Hg]at mN
 have B3:∀ X,(b.set (bs.length+1) X)[bs.length+1]? = some X:=fun X=>zMT (zMR.1 mN).1
 simp only[ad,↓Xn,↓Xo,↓Xg,↓Xd,↓Xe,↓Xf,Tryz.VΓ,Tryz.Γs,Xp,Xi,Nat.reduceAdd,Nat.reduceSub,Nat.reduceLT,Nat.reduceLeDiff,reduceIte,reduceCtorEq,Nat.reduceEqDiff,implies_true,forall_const,aa,hj,mN,Hg,B3,List.map_cons,List.getElem?_cons_zero,Int.toNat_zero,Nat.zero_mul]
 refine⟨⟨by omega,by omega⟩,?_⟩
 (refine ae pd ?_;simp only[ad,↓Xn,↓Xo,↓Xg,↓Xd,↓Xe,↓Xf,Tryz.VΓ,Tryz.Γs,Xp,Xi,Nat.reduceAdd,Nat.reduceSub,Nat.reduceLT,Nat.reduceLeDiff,reduceIte,reduceCtorEq,Nat.reduceEqDiff,implies_true,forall_const,aa,hj,mN,Hg,B3])
 have hzo:=fun X=>af mN [X]
 have C3:=(zMR.1 mN).1
 have fY:∀ X Y,((b++[X]).set (bs.length+1) Y)[bs.length+1]? = some Y:=fun X Y=>zMT (by simp;omega)
 (refine ae ph ?_;simp only[ad,↓Xn,↓Xo,↓Xg,↓Xd,↓Xe,↓Xf,Tryz.VΓ,Tryz.Γs,Xp,Xi,Nat.reduceAdd,Nat.reduceSub,Nat.reduceLT,Nat.reduceLeDiff,reduceIte,reduceCtorEq,Nat.reduceEqDiff,implies_true,forall_const,aa,hj,mN,Hg,B3,aW,dX,hzo,fY])
 have bn:¬ b.length=bs.length+1:=by omega
 refine⟨(by
  refine fg (fun n=>if n=(bs.length+1) then 0 else 1) ?_
  simp only[List.map_cons,List.map_nil,fX,kX,reduceIte,bn]
  exact aq (by kernel_rfl)),(hkb.app _).set (by omega) _,.o j (T.length+1),rfl,fun _=>⟨j,rfl,by omega,?_⟩⟩
 rw[zMV (by omega)]
 exact af hj _
theorem tp (d:fU)(h:eG d):PC Tryz.V 80 [fj d] (.eS [.agg [.str (bh d).1.1,.int .i64 (bh d).1.2],.int .i64 (bh d).2]):=by
 have hf:=fun(bs:List ax)=>qf (bs:=bs) d h
 unfold fj at hf
 refine aQ 3000 Tryz.func80 rfl Tryz.ntmps80 Tryz.results80 Tryz.call80 (by simp) (by simp[flat,flat.ai,fj,ey]) (by simp[flat,flat.ai,fj,ey]) ?_
 unfold fj
 simp only[ad,↓Xn,↓Xo,↓Xg,↓Xd,↓Xe,↓Xf,Tryz.VΓ,Tryz.Γs,Xp,Xi,Nat.reduceAdd,Nat.reduceSub,Nat.reduceLT,Nat.reduceLeDiff,reduceIte,reduceCtorEq,Nat.reduceEqDiff,implies_true,forall_const,aa]
 refine aJ (hf _) ?_
 rintro r b ⟨cw,x,rfl,-⟩
 have kR:=cw.at (j:=1) rfl
 have mQ:=(zMR.1 kR).1
 have Ek:=fun X=>af kR [X]
 have Ju:∀ X Y,((b++[X]).set 1 Y)[1]? = some Y:=fun X Y=>zMT (by simp;omega)
 simp only[ad,↓Xn,↓Xo,↓Xg,↓Xd,↓Xe,↓Xf,Tryz.VΓ,Tryz.Γs,Xp,Xi,Nat.reduceAdd,Nat.reduceSub,Nat.reduceLT,Nat.reduceLeDiff,reduceIte,reduceCtorEq,Nat.reduceEqDiff,implies_true,forall_const,aa,kR,Ek,Ju,aW,dX]
theorem Bj (d:fU)(h:eG d):PC Tryz.V 108 [fj d] (.eS [ey (eJ d).1,.int .i64 (eJ d).2]):=by
 have hf:=fun(bs:List ax)=>qf (bs:=bs) d h
 have Cg:=@ot d
 have hha:=@vG d
 unfold fj at hf
 unfold eJ
 generalize bh d=A at hf hha ⊢
 obtain⟨⟨x,p⟩,e⟩:=A
 simp only at hf hha ⊢
 refine aQ 3000 Tryz.func108 rfl Tryz.ntmps108 Tryz.results108 Tryz.call108 (by simp) (by simp[flat,flat.ai,fj,ey]) (by simp[flat,flat.ai,fj,ey]) ?_
 unfold fj
 simp only[ad,↓Xn,↓Xo,↓Xg,↓Xd,↓Xe,↓Xf,Tryz.VΓ,Tryz.Γs,Xp,Xi,Nat.reduceAdd,Nat.reduceSub,Nat.reduceLT,Nat.reduceLeDiff,reduceIte,reduceCtorEq,Nat.reduceEqDiff,implies_true,forall_const,aa]
 refine aJ (hf _) ?_
 rintro r b ⟨cw,y,rfl,hx⟩
 have kR:=cw.at (j:=1) rfl
 have mQ:=(zMR.1 kR).1
 have Ek:=fun X=>af kR [X]
 have Ju:∀ X Y,((b++[X]).set 1 Y)[1]? = some Y:=fun X Y=>zMT (by simp;omega)
 simp only[ad,↓Xn,↓Xo,↓Xg,↓Xd,↓Xe,↓Xf,Tryz.VΓ,Tryz.Γs,Xp,Xi,Nat.reduceAdd,Nat.reduceSub,Nat.reduceLT,Nat.reduceLeDiff,reduceIte,reduceCtorEq,Nat.reduceEqDiff,implies_true,forall_const,aa,kR,Ek,Ju,aW,dX]
 refine⟨fun h1=>(by rw[if_pos (by simpa using h1)];rfl),fun h1=>?_⟩
 have h1:e=0:=by simpa using h1
 rw[if_neg (by simp[h1])]
 obtain⟨hh,hm,hp⟩:=hha h1
 obtain⟨hl,zD⟩:=Cg hm hp
 obtain⟨j,rfl,lN,hj⟩:=hx h1
 have Ff:=lT 58 d.id
 obtain⟨T,hT⟩:=oh 58 d.id
 rw[hT]at zD Ff hj ⊢
 generalize (aL 58 d.id).1=c at zD Ff hj ⊢
 simp only[zNf,zMS,zMU,List.tail_cons,List.map_cons]at Ff hj ⊢
 have mU:=(zMR.1 hj).1
 have hjo:=fun X=>af hj [X]
 simp only[zMU,zM1]at lN
 simp only[ad,↓Xn,↓Xo,↓Xg,↓Xd,↓Xe,↓Xf,Tryz.VΓ,Tryz.Γs,Xp,Xi,Nat.reduceAdd,Nat.reduceSub,Nat.reduceLT,Nat.reduceLeDiff,reduceIte,reduceCtorEq,Nat.reduceEqDiff,implies_true,forall_const,aa,kR,Ek,Ju,aW,dX,hj,hjo]
 refine⟨⟨by omega,by omega⟩,?_⟩
 have e0:T.length+1 - zNp 1=T.length:=by simp
 have e1:List.drop (zNp 1 * 1) (List.take ((T.length+1) * 1) (SV.str c::T.map SV.str))=T.map SV.str:=by
  rw[zNk (by simp)];simp
 simp only[e0,e1]
 have hfu:=zN T
 have bX:∀ q:Bytes,q.length≤100000→Fair ⟨x,p,q,[],[],false,false⟩:=fun q hq=>by
  obtain⟨-,-,-,k4,k5,k6⟩:=cA hh
  exact⟨by simp only[zM1];omega,by simp only;omega,by simp only;omega⟩
 refine aM (fun σ=>∃ k:Nat,k≤T.length∧lk 2 σ.t=some (.p 1 0)∧lk 3 σ.t=some (.int .i64 0)∧lk 4 σ.t=some (.o j (T.length+1))∧lk 5 σ.t=some (.p b.length 0)∧lk 7 σ.t=some (.str ((T.take k).flatMap gL))∧lk 24 σ.t=some (.o (b.length+1) T.length)∧lk 25 σ.t=some (.int .i64 T.length)∧lk 26 σ.t=some (.int .i64 k) ∧
  σ.b[1]? = some (.cells [.str [],.int .i64 0,.str [],.str [],.str [],.bool false,.bool false] 91 true)∧σ.b[b.length]? = some (.cells [.str x,.int .i64 p] 128 true)∧σ.b[b.length+1]? = some (.own (T.map SV.str) 9 1 T.length false)∧(∃ c m,σ.b[j]? = some (.own c 9 1 (T.length+1) m))∧(T.take k).all en=true) (fun σ=>T.length - ja 26 σ)
  ⟨0,by omega,rfl,rfl,rfl,rfl,rfl,rfl,rfl,rfl,af (by rw[zMV (by omega)];exact Ek _) _,af (by rw[zMV (by omega)];exact aW _ _) _,(by rw[zMZ (by simp)];simp),⟨_,_,af (zMT (by simp;omega)) _⟩,rfl⟩ ?_
 have hbL:1<b.length:=mQ
 clear hj hjo kR Ek Ju cw hx
 generalize b.length=N at *
 rintro⟨t,B⟩ ⟨k,hk,h2,h3,h4,h5,h7,h24,h25,h26,iB,hBN,mV,⟨cj,mj,hBj⟩,bZ⟩
 simp only at h2 h3 h4 h5 h7 h24 h25 h26 iB hBN mV hBj
 rw[az h26]
 have mI:=gV (g:=gL) (L:=T) (k:=k)
 have jQ:∀ X,(B.set 1 X)[1]? = some X:=fun X=>zMT (zMR.1 iB).1
 by_cases aB:k<T.length
 ·have hx:(T.map SV.str)[k * 1]? = some (.str T[k]):=by simp[aB]
  have hsg:=zD T[k] (zNq _ (zM4 aB))
  have Cc:=lC (g:=gL) aB
  have pd:=fk T[k]
  have hup:gL T[k]=47::aF [] (aj T[k]).1:=rfl
  have pQ:=cQ T[k]
  have mJ:=dQ [] (aj T[k]).1
  have pe:=sH (aj T[k]).1 [] (by omega) (by simp)
  have hso:en T[k]=!((((aj T[k]).1==[])||((aj T[k]).1==[46]))||((aj T[k]).1==[46,46])):=by
   have hd0:(aj T[k]).2=0:=by rw[mu (by omega),if_neg hsg.1]
   unfold en
   rw[hd0]
   cases h2:(aj T[k]).1==[] <;> cases h3:(aj T[k]).1==[46] <;> cases h4:(aj T[k]).1==[46,46] <;> simp_all [bne]
  have jO:en T[k]=false→T.all en=false:=fun h=>cW aB h
  have Cb:en T[k]=true→(T.take (k+1)).all en=true:=fun h=>aP aB bZ h
  simp only[ad,↓Xn,↓Xo,↓Xg,↓Xd,↓Xe,↓Xf,Tryz.VΓ,Tryz.Γs,Xp,Xi,Nat.reduceAdd,Nat.reduceSub,Nat.reduceLT,Nat.reduceLeDiff,reduceIte,reduceCtorEq,Nat.reduceEqDiff,implies_true,forall_const,aa,h2,h3,h4,h5,h7,h24,h25,h26,iB,hBN,mV,hx]
  refine⟨fun _=>⟨⟨by omega,by omega⟩,by simp;omega,?_⟩,fun h=>absurd h (by simp;omega)⟩
  generalize aj T[k]=X at *
  obtain⟨w,ew⟩:=X
  simp only at pd pe hso hup pQ mJ
  have fin:∀ (t':List (Nat × SV)),en T[k]=true→lk 26 t'=some (.int .i64 ((k:Int)+1))→T.length - ja 26 ⟨t',B⟩<T.length - (k:Int).toNat:=fun t' _ k6=>by rw[az (σ:=⟨t',B⟩) k6];omega
  (refine ae pd ?_;simp only[ad,↓Xn,↓Xo,↓Xg,↓Xd,↓Xe,↓Xf,Tryz.VΓ,Tryz.Γs,Xp,Xi,Nat.reduceAdd,Nat.reduceSub,Nat.reduceLT,Nat.reduceLeDiff,reduceIte,reduceCtorEq,Nat.reduceEqDiff,implies_true,forall_const,aa,h2,h3,h4,h5,h7,h24,h25,h26,iB,hBN,mV,jQ])
  refine⟨fun g1=>⟨fun g2=>⟨fun g3=>?_,fun g3=>?_⟩,fun g2=>?_⟩,fun g1=>?_⟩
  ·have hb:=jO (by rw[hso,g3];simp)
   simp only[hb,if_true]
   rfl
  ·have hso:en T[k]=true:=by rw[hso,g1,g2,g3];rfl
   (refine ae pe ?_;simp only[ad,↓Xn,↓Xo,↓Xg,↓Xd,↓Xe,↓Xf,Tryz.VΓ,Tryz.Γs,Xp,Xi,Nat.reduceAdd,Nat.reduceSub,Nat.reduceLT,Nat.reduceLeDiff,reduceIte,reduceCtorEq,Nat.reduceEqDiff,implies_true,forall_const,aa,h2,h3,h4,h5,h7,h24,h25,h26,iB,hBN,mV])
   refine⟨by omega,by omega,⟨by omega,by omega⟩,⟨k+1,by omega,by rw[Cc,hup],rfl,⟨cj,mj,hBj⟩,Cb hso⟩,fin _ hso rfl⟩
  ·have hb:=jO (by rw[hso,g2];simp)
   simp only[hb,if_true]
   rfl
  ·have hb:=jO (by rw[hso,g1];simp)
   simp only[hb,if_true]
   rfl
 ·have jv:k=T.length:=by omega
  subst jv
  rw[zM3]at h7 bZ
  have yl:decide ((T.length:Int)<T.length)=false:=by simp
  have hBl:=(zMR.1 iB).1
  have xa:=fun X=>af iB [X]
  have wZ:∀ X Y,((B++[X]).set 1 Y)[1]? = some Y:=fun X Y=>zMT (by simp;omega)
  have hTl:(((T.length+1:Nat):Int)==1)=decide (T=[]):=by
   cases T <;> simp
   omega
  have hpt:ik T=(if T=[] then [47,46,119,101,108,108,45,107,110,111,119,110] else T.flatMap gL)++[47,100,105,100,46,106,115,111,110]:=by
   unfold ik
   by_cases hT:T=[]
   ·rw[if_pos hT,if_pos hT];rfl
   ·rw[if_neg hT,if_neg hT];rfl
  have gd:(ik T).length≤100000:=by rw[hpt];split <;> simp only[zMS,zMU,zM1] <;> omega
  have pf:=kr ⟨x,p,ik T,[],[],false,false⟩ (bX _ gd)
  unfold ey at pf
  simp only at pf
  by_cases hT:T=[]
  ·rw[if_pos hT]at hpt
   rw[hpt]at pf ⊢
   have hTd:decide (T=[])=true:=decide_eq_true hT
   simp only[zM8,zNb]at pf
   simp only[ad,↓Xn,↓Xo,↓Xg,↓Xd,↓Xe,↓Xf,Tryz.VΓ,Tryz.Γs,Xp,Xi,Nat.reduceAdd,Nat.reduceSub,Nat.reduceLT,Nat.reduceLeDiff,reduceIte,reduceCtorEq,Nat.reduceEqDiff,implies_true,forall_const,aa,h2,h3,h4,h5,h7,h24,h25,h26,iB,hBN,mV,hBj,xa,wZ,yl,bZ,hTl,hTd,aW,dX]
   (refine ae pf ?_;simp only[ad,↓Xn,↓Xo,↓Xg,↓Xd,↓Xe,↓Xf,Tryz.VΓ,Tryz.Γs,Xp,Xi,Nat.reduceAdd,Nat.reduceSub,Nat.reduceLT,Nat.reduceLeDiff,reduceIte,reduceCtorEq,Nat.reduceEqDiff,implies_true,forall_const,aa,h2,h3,h4,h5,h7,h24,h25,h26,iB,hBN,mV,hBj,xa,wZ,yl,bZ,hTl,hTd,aW,dX])
   unfold jG
   exact⟨fun hl=>(by rw[if_pos (by simp only[decide_eq_true_eq,decide_eq_false_iff_not]at hl;omega)];rfl),fun hl=>(by rw[if_neg (by simp only[decide_eq_true_eq,decide_eq_false_iff_not]at hl;omega)];rfl)⟩
  ·rw[if_neg hT]at hpt
   rw[hpt]at pf ⊢
   have hTd:decide (T=[])=false:=decide_eq_false hT
   simp only[ad,↓Xn,↓Xo,↓Xg,↓Xd,↓Xe,↓Xf,Tryz.VΓ,Tryz.Γs,Xp,Xi,Nat.reduceAdd,Nat.reduceSub,Nat.reduceLT,Nat.reduceLeDiff,reduceIte,reduceCtorEq,Nat.reduceEqDiff,implies_true,forall_const,aa,h2,h3,h4,h5,h7,h24,h25,h26,iB,hBN,mV,hBj,xa,wZ,yl,bZ,hTl,hTd,aW,dX]
   refine⟨by omega,?_⟩
   (refine ae pf ?_;simp only[ad,↓Xn,↓Xo,↓Xg,↓Xd,↓Xe,↓Xf,Tryz.VΓ,Tryz.Γs,Xp,Xi,Nat.reduceAdd,Nat.reduceSub,Nat.reduceLT,Nat.reduceLeDiff,reduceIte,reduceCtorEq,Nat.reduceEqDiff,implies_true,forall_const,aa,h2,h3,h4,h5,h7,h24,h25,h26,iB,hBN,mV,hBj,xa,wZ,yl,bZ,hTl,hTd,aW,dX])
   unfold jG
   exact⟨fun hl=>(by rw[if_pos (by simp only[decide_eq_true_eq,decide_eq_false_iff_not]at hl;omega)];rfl),fun hl=>(by rw[if_neg (by simp only[decide_eq_true_eq,decide_eq_false_iff_not]at hl;omega)];rfl)⟩
theorem vD (x:Bytes):bN x=(x.all de&&!((aj x).1==[])):=by
 unfold bN
 by_cases h:(aj x).2=0
 ·rw[h];cases x.all de <;> simp[bne]
 ·have h2:(aj x).1=[]:=by
   unfold aj at h ⊢
   split
   ·rfl
   ·split
    ·rfl
    ·rename_i h1 h2;rw[if_neg h1,if_neg h2]at h;exact absurd rfl h
  rw[h2];cases x.all de <;> simp
theorem oD {u:fe}{L:List Bytes}(h:u.path=cL→L.all bN=true)(hb:L.all bN=false):fA u L=(fU.none,110):=by
 unfold fA
 rw[if_neg (fun k=>by rw[h k]at hb;cases hb),if_pos hb]
theorem qT {u:fe}{L:List Bytes}(h:L.all bN=true):fA u L=gU ⟨dP,bk u++if u.path=cL then [] else L.flatMap bt⟩:=by
 unfold fA
 by_cases k:u.path=cL
 ·rw[if_pos k,if_pos k,zNj]
 ·rw[if_neg k,if_neg k,if_neg (by rw[h];simp)]
theorem wK (u:fe)(hk:Fair u):PC Tryz.V 109 [ey u] (.eS [fj (gf u).1,.int .i64 (gf u).2]):=by
 have pv1:=DH u hk
 have gd:=hk.1
 unfold ey at pv1 ⊢
 cases hv:fW u
 ·rw[hv]at pv1
  rw[show gf u=(fU.none,8) from if_pos hv]
  refine aQ 3000 Tryz.func109 rfl Tryz.ntmps109 Tryz.results109 Tryz.call109 (by simp) (by simp[flat,flat.ai,fj,ey]) (by simp[flat,flat.ai,fj,ey]) ?_
  simp only[ad,↓Xn,↓Xo,↓Xg,↓Xd,↓Xe,↓Xf,Tryz.VΓ,Tryz.Γs,Xp,Xi,Nat.reduceAdd,Nat.reduceSub,Nat.reduceLT,Nat.reduceLeDiff,reduceIte,reduceCtorEq,Nat.reduceEqDiff,implies_true,forall_const,aa]
  (refine ae pv1 ?_;simp only[ad,↓Xn,↓Xo,↓Xg,↓Xd,↓Xe,↓Xf,Tryz.VΓ,Tryz.Γs,Xp,Xi,Nat.reduceAdd,Nat.reduceSub,Nat.reduceLT,Nat.reduceLeDiff,reduceIte,reduceCtorEq,Nat.reduceEqDiff,implies_true,forall_const,aa,beq_self_eq_true,bne_self_eq_false,Int.reduceBEq,Int.reduceBNe,Int.reduceLT,Int.reduceLE])
  rfl
 obtain⟨T,z,hT,C3,hL0,hp4⟩:=sq hv
 rw[vx hv hT C3]
 rw[hv]at pv1
 have Ff:=lT 47 u.path
 have hpth:u.path=cL→T.dropLast.all bN=true:=by
  intro k
  rw[k]at hT
  obtain rfl:T=[([46,119,101,108,108,45,107,110,111,119,110]:List UInt8),fw]:=by
   have e:aC 47 cL=[[],([46,119,101,108,108,45,107,110,111,119,110]:List UInt8),fw]:=by decide +kernel
   rw[e]at hT
   exact(List.cons.inj hT).2.symm
  decide +kernel
 refine aQ 3000 Tryz.func109 rfl Tryz.ntmps109 Tryz.results109 Tryz.call109 (by simp) (by simp[flat,flat.ai,fj,ey]) (by simp[flat,flat.ai,fj,ey]) ?_
 simp only[ad,↓Xn,↓Xo,↓Xg,↓Xd,↓Xe,↓Xf,Tryz.VΓ,Tryz.Γs,Xp,Xi,Nat.reduceAdd,Nat.reduceSub,Nat.reduceLT,Nat.reduceLeDiff,reduceIte,reduceCtorEq,Nat.reduceEqDiff,implies_true,forall_const,aa]
 (refine ae pv1 ?_;simp only[ad,↓Xn,↓Xo,↓Xg,↓Xd,↓Xe,↓Xf,Tryz.VΓ,Tryz.Γs,Xp,Xi,Nat.reduceAdd,Nat.reduceSub,Nat.reduceLT,Nat.reduceLeDiff,reduceIte,reduceCtorEq,Nat.reduceEqDiff,implies_true,forall_const,aa,beq_self_eq_true,bne_self_eq_false,Int.reduceBEq,Int.reduceBNe,Int.reduceLT,Int.reduceLE])
 refine aJ (qh u.path 47 (by omega)) ?_
 rintro r b ⟨j,rfl,lN,hj,cw⟩
 rw[hT]at Ff hj ⊢
 generalize (aL 47 u.path).1=c at *
 clear hT
 simp only[zNf,zMS,zMU]at Ff
 simp only at lN hj cw
 have e0:T.length+1 - zNp 1=T.length:=by simp
 have e1:List.drop (zNp 1 * 1) (List.take ((T.length+1) * 1) (SV.str c::T.map SV.str))=T.map SV.str:=by
  rw[zNk (by simp)];simp
 have hz:(T.map SV.str)[((T.length:Int) - 1).toNat * 1]? = some (.str z):=by
  rw[show ((T.length:Int) - 1).toNat * 1=T.length - 1 by omega,List.getElem?_map,← List.getLast?_eq_getElem?,C3]
  rfl
 simp only[List.map_cons,zMU]at hj
 have mU:=(zMR.1 hj).1
 have hjo:=fun X=>af hj [X]
 have kR:=cw.at (j:=1) rfl
 have eV:=cw.at (j:=0) rfl
 have Ek:=fun X=>af kR [X]
 have hbo0:=fun X=>af eV [X]
 simp only[zMU,zM1]at lN
 have hQ0:∀ Y Z,(b.set j Y++[Z])[0]? = b[0]? := fun Y Z=>by
  rw[zMW (by rw[zM7];omega),zMV (by omega)]
 have hQ1:∀ Y Z,(b.set j Y++[Z])[1]? = b[1]? := fun Y Z=>by
  rw[zMW (by rw[zM7];omega),zMV (by omega)]
 have hQn:∀ Y Z,(b.set j Y++[Z])[b.length]? = some Z:=fun Y Z=>by
  rw[zMZ (by simp)];simp
 have hQs:∀ Y Z W,((b.set j Y++[Z]).set 1 W)[1]? = some W:=fun Y Z W=>zMT (by simp;omega)
 have hzS:(z != [100,105,100,46,106,115,111,110])=(z != fw):=rfl
 have hQl:∀ Y Z,(b.set j Y++[Z]).length=b.length+1:=fun Y Z=>by simp
 have hD0:∀ Y Z V,(b.set j Y++[Z]++[V])[0]? = b[0]? := fun Y Z V=>by
  rw[zMW (by simp)];exact hQ0 Y Z
 have hD1:∀ Y Z V,(b.set j Y++[Z]++[V])[1]? = b[1]? := fun Y Z V=>by
  rw[zMW (by simp;omega)];exact hQ1 Y Z
 have hDn:∀ Y Z V,(b.set j Y++[Z]++[V])[b.length+1]? = some V:=fun Y Z V=>by
  rw[zMZ (by simp)];simp
 have hDs:∀ Y Z V X,((b.set j Y++[Z]++[V]).set 1 X)[1]? = some X:=fun Y Z V X=>zMT (by simp)
 have pQ:T.dropLast.length=T.length - 1:=List.length_dropLast ..
 have e2:((T.length:Int) - 1).toNat=T.dropLast.length:=by omega
 have e3:List.take (T.dropLast.length * 1) (T.map SV.str)=T.dropLast.map SV.str:=by
  rw[Nat.mul_one,pQ,zNn,List.map_take]
 rw[e2]at hz
 have hdf:T.dropLast.flatten.length≤T.flatten.length:=by
  rw[zNn]
  have:=congrArg (fun l=>(List.flatten l).length) (List.take_append_drop (T.length - 1) T)
  simp only[List.flatten_append,zMS]at this
  omega
 have Ej:=rr hv
 obtain⟨-,-,-,k4,k5,k6⟩:=cA Ej.host
 have hfd:=sf T.dropLast
 have bX:∀ q:Bytes,q.length≤100000→eG ⟨dP,q⟩:=fun q hq=>⟨show dP.length≤_ by decide,show q.length≤_ by omega⟩
 simp only[ad,↓Xn,↓Xo,↓Xg,↓Xd,↓Xe,↓Xf,Tryz.VΓ,Tryz.Γs,Xp,Xi,Nat.reduceAdd,Nat.reduceSub,Nat.reduceLT,Nat.reduceLeDiff,reduceIte,reduceCtorEq,Nat.reduceEqDiff,implies_true,forall_const,aa,e0,e1,e2,e3,hz,hj,hjo,eV,kR,hQ0,hQ1,hQn,hQs,hQl,hD0,hD1,hDn,hDs,aW,hzS]
 refine⟨⟨by omega,by omega⟩,fun hq=>⟨fun hf=>⟨⟨by omega,by omega⟩,⟨by omega,by omega⟩,by simp;omega,fun mN=>?_,fun mN=>⟨⟨by omega,by omega⟩,⟨by omega,by omega⟩,fun mO=>?_,fun mO=>?_⟩⟩,fun hf=>?_⟩,fun hq=>?_⟩
 ·rw[if_neg (by rw[hq];simp),if_neg (by rw[hf];simp),if_pos mN];rfl
 ·rw[if_neg (by rw[hq];simp),if_neg (by rw[hf];simp),if_neg (by rw[mN];simp),if_pos (by simp at mO;omega)];rfl
 ·rw[if_neg (by rw[hq];simp),if_neg (by rw[hf];simp),if_neg (by rw[mN];simp),if_neg (by simp at mO;omega)]
  have pn:=zf u.port (by omega) (by omega)
  have hdc:=dO 19 u.port.natAbs (by omega)
  have hxs:∀ x∈T.dropLast,x.length≤4096:=fun x hx=>by
   have:=gR hx
   omega
  have hLl:T.dropLast.length≤5000:=by omega
  have hfdl:(T.dropLast.flatMap bt).length≤60000:=by omega
  have Ah:=(hD0 (.own (.str c::T.map SV.str) 9 1 (T.length+1) false) (.own (T.map SV.str) 9 1 T.length false) (.own (T.dropLast.map SV.str) 9 1 T.dropLast.length false)).trans eV
  have hE1:=(hD1 (.own (.str c::T.map SV.str) 9 1 (T.length+1) false) (.own (T.map SV.str) 9 1 T.length false) (.own (T.dropLast.map SV.str) 9 1 T.dropLast.length false)).trans kR
  have hEr:=hDn (.own (.str c::T.map SV.str) 9 1 (T.length+1) false) (.own (T.map SV.str) 9 1 T.length false) (.own (T.dropLast.map SV.str) 9 1 T.dropLast.length false)
  clear hD0 hD1 hDn hDs hQ0 hQ1 hQn hQs hQl hz e3 e1 hdf hfd
  refine⟨fun hp=>?_,fun hp=>?_⟩
  ·have hp0:¬ u.port=0:=by simpa using hp
   have oE:u.host++(37::51::65::cM u.port.natAbs)=bk u:=by unfold bk;rw[if_neg hp0];rfl
   (refine ae pn ?_;simp only[ad,↓Xn,↓Xo,↓Xg,↓Xd,↓Xe,↓Xf,Tryz.VΓ,Tryz.Γs,Xp,Xi,Nat.reduceAdd,Nat.reduceSub,Nat.reduceLT,Nat.reduceLeDiff,reduceIte,reduceCtorEq,Nat.reduceEqDiff,implies_true,forall_const,aa])
   rw[oE]
   have mQ:(bk u).length≤300:=by rw[← oE];simp only[zMS,zMU];omega
   refine⟨by omega,by omega,?_⟩
   refine aM (fun σ=>∃ k:Nat,k≤T.dropLast.length∧lk 1 σ.t=some (.p 0 0)∧lk 2 σ.t=some (.p 1 0)∧lk 3 σ.t=some (.int .i64 0)∧lk 5 σ.t=some (.str (bk u++if u.path=cL then [] else(T.dropLast.take k).flatMap bt))∧lk 56 σ.t=some (.o (b.length+1) T.dropLast.length)∧lk 57 σ.t=some (.int .i64 T.dropLast.length)∧lk 58 σ.t=some (.int .i64 k) ∧
    σ.b[0]? = some (.cells [.str u.host,.int .i64 u.port,.str u.path,.str u.query,.str u.fragment,.bool u.bm,.bool u.bF] 91 true)∧σ.b[1]? = some (.cells [.str [],.str []] 123 true)∧σ.b[b.length+1]? = some (.own (T.dropLast.map SV.str) 9 1 T.dropLast.length false)∧(T.dropLast.take k).all bN=true) (fun σ=>T.dropLast.length - ja 58 σ)
    ⟨0,by omega,rfl,rfl,rfl,congrArg (fun x=>some (SV.str x)) (by split <;> simp),rfl,rfl,rfl,Ah,hE1,hEr,rfl⟩ ?_
   generalize b.length=N at *
   generalize T.dropLast=L at *
   rintro⟨t,B⟩ ⟨k,hk,h1,h2,h3,h5,sd,sb,qS,pR,iB,mV,bZ⟩
   simp only at h1 h2 h3 h5 sd sb qS pR iB mV
   rw[az qS]
   have jQ:∀ X,(B.set 1 X)[1]? = some X:=fun X=>zMT (zMR.1 iB).1
   by_cases aB:k<L.length
   ·have hx:(L.map SV.str)[k * 1]? = some (.str L[k]):=by simp[aB]
    have D6:=hxs L[k] (zM4 aB)
    have Cc:=lC (g:=bt) aB
    have jO:bN L[k]=false→L.all bN=false:=fun h=>cW aB h
    have Cb:bN L[k]=true→(L.take (k+1)).all bN=true:=fun h=>aP aB bZ h
    simp only[ad,↓Xn,↓Xo,↓Xg,↓Xd,↓Xe,↓Xf,Tryz.VΓ,Tryz.Γs,Xp,Xi,Nat.reduceAdd,Nat.reduceSub,Nat.reduceLT,Nat.reduceLeDiff,reduceIte,reduceCtorEq,Nat.reduceEqDiff,implies_true,forall_const,aa,h1,h2,h3,h5,sd,sb,qS,pR,iB,mV,hx,jQ]
    refine⟨fun _=>⟨⟨by omega,by omega⟩,by simp;omega,?_⟩,fun h=>absurd h (by simp;omega)⟩
    have hd:=vD L[k]
    have vg:bt L[k]=58::aN (aj L[k]).1:=rfl
    have pQ:=cQ L[k]
    have pd:=fk L[k]
    have pe:=kJ (aj L[k]).1 (by omega)
    have mJ:=fB (aj L[k]).1
    have Cd:=gV (g:=bt) (L:=L) (k:=k)
    generalize L[k]=x at *
    clear hx
    refine aM (fun σ=>∃ i:Nat,i≤x.length∧lk 1 σ.t=some (.p 0 0)∧lk 2 σ.t=some (.p 1 0)∧lk 3 σ.t=some (.int .i64 0)∧lk 5 σ.t=some (.str (bk u++if u.path=cL then [] else(L.take k).flatMap bt))∧lk 56 σ.t=some (.o (N+1) L.length)∧lk 57 σ.t=some (.int .i64 L.length)∧lk 58 σ.t=some (.int .i64 k)∧lk 7 σ.t=some (.str x)∧lk 8 σ.t=some (.int .i64 i) ∧
     σ.b[0]? = some (.cells [.str u.host,.int .i64 u.port,.str u.path,.str u.query,.str u.fragment,.bool u.bm,.bool u.bF] 91 true)∧σ.b[1]? = some (.cells [.str [],.str []] 123 true)∧σ.b[N+1]? = some (.own (L.map SV.str) 9 1 L.length false)∧(x.take i).all de=true) (fun σ=>x.length - ja 8 σ)
     ⟨0,by omega,h1,h2,h3,h5,sd,sb,qS,rfl,rfl,pR,iB,mV,rfl⟩ ?_
    clear h1 h2 h3 h5 sd sb qS pR iB mV jQ bZ Ah hE1 hEr
    rintro⟨t,B⟩ ⟨i,hi,h1,h2,h3,h5,sd,sb,qS,h7,h8,pR,iB,mV,bZ⟩
    simp only at h1 h2 h3 h5 sd sb qS h7 h8 pR iB mV
    rw[az h8]
    have jQ:∀ X,(B.set 1 X)[1]? = some X:=fun X=>zMT (zMR.1 iB).1
    by_cases eh:i<x.length
    ·have hg:x.getD i 0=x[i]:=by simp[List.getD,eh]
     have IU:de x[i]=false→L.all bN=false:=fun h=>jO (by rw[hd,cW eh h];rfl)
     simp only[ad,↓Xn,↓Xo,↓Xg,↓Xd,↓Xe,↓Xf,Tryz.VΓ,Tryz.Γs,Xp,Xi,Nat.reduceAdd,Nat.reduceSub,Nat.reduceLT,Nat.reduceLeDiff,reduceIte,reduceCtorEq,Nat.reduceEqDiff,implies_true,forall_const,aa,h1,h2,h3,h5,sd,sb,qS,pR,iB,mV,h7,h8,hg,jQ]
     refine⟨fun _=>⟨⟨by omega,by omega⟩,?_⟩,fun h=>absurd h (by simp;omega)⟩
     (refine ae (dh x[i]) ?_;simp only[ad,↓Xn,↓Xo,↓Xg,↓Xd,↓Xe,↓Xf,Tryz.VΓ,Tryz.Γs,Xp,Xi,Nat.reduceAdd,Nat.reduceSub,Nat.reduceLT,Nat.reduceLeDiff,reduceIte,reduceCtorEq,Nat.reduceEqDiff,implies_true,forall_const,aa,h1,h2,h3,h5,sd,sb,qS,pR,iB,mV,h7,h8,hg,jQ])
     have wu:((x[i].toNat:Int) != 37)=(x[i] != 37):=by
      have:=cH eh 37 (n:=37) rfl
      show (!_)=(!_)
      rw[← this,hg]
     rw[wu]
     have fin:de x[i]=true→∀ (t':List (Nat × SV)),lk 8 t'=some (.int .i64 ((i:Int)+1))→(∃ m:Nat,m≤x.length∧SV.int IntKind.i64 ((i:Int)+1)=SV.int IntKind.i64 (m:Int)∧(x.take m).all de=true)∧x.length - ja 8 ⟨t',B⟩<x.length - (i:Int).toNat:=fun hm t' k6 =>
      ⟨⟨i+1,by omega,rfl,aP eh bZ hm⟩,by rw[az (σ:=⟨t',B⟩) k6];omega⟩
     refine⟨fun hp=>⟨⟨by omega,by omega⟩,fun h9=>?_,fun h9=>⟨⟨by omega,by omega⟩,fin ?_ _ rfl⟩⟩,fun hp=>⟨⟨by omega,by omega⟩,fin ?_ _ rfl⟩⟩
     ·have hb:=IU (by unfold de;simp at hp h9 ⊢;exact⟨h9,hp⟩)
      rw[oD hpth hb];rfl
     ·unfold de;simp at h9 ⊢;exact .inl h9
     ·unfold de;simp at hp ⊢;exact .inr hp
    ·have jv:i=x.length:=by omega
     subst jv
     rw[zM3]at bZ
     have yl:decide ((x.length:Int)<x.length)=false:=by simp
     generalize aj x=X at *
     obtain⟨w,ew⟩:=X
     simp only at pd pe hd vg pQ mJ
     simp only[ad,↓Xn,↓Xo,↓Xg,↓Xd,↓Xe,↓Xf,Tryz.VΓ,Tryz.Γs,Xp,Xi,Nat.reduceAdd,Nat.reduceSub,Nat.reduceLT,Nat.reduceLeDiff,reduceIte,reduceCtorEq,Nat.reduceEqDiff,implies_true,forall_const,aa,h1,h2,h3,h5,sd,sb,qS,pR,iB,mV,h7,h8,jQ,yl]
     (refine ae pd ?_;simp only[ad,↓Xn,↓Xo,↓Xg,↓Xd,↓Xe,↓Xf,Tryz.VΓ,Tryz.Γs,Xp,Xi,Nat.reduceAdd,Nat.reduceSub,Nat.reduceLT,Nat.reduceLeDiff,reduceIte,reduceCtorEq,Nat.reduceEqDiff,implies_true,forall_const,aa,h1,h2,h3,h5,sd,sb,qS,pR,iB,mV,h7,h8,jQ])
     have pP:∀ (S:Bytes) (t':List (Nat × SV)),bN x=true→S=bk u++(if u.path=cL then [] else(L.take (k+1)).flatMap bt)→lk 58 t'=some (.int .i64 ((k:Int)+1)) →
      (∃ m:Nat,m≤L.length∧SV.str S=SV.str (bk u++if u.path=cL then [] else(L.take m).flatMap bt)∧SV.int IntKind.i64 ((k:Int)+1)=SV.int IntKind.i64 (m:Int)∧(L.take m).all bN=true)∧L.length - ja 58 ⟨t',B⟩<L.length - (k:Int).toNat:=fun S t' h hS k6 =>
      ⟨⟨k+1,by omega,by rw[hS],rfl,Cb h⟩,by rw[az (σ:=⟨t',B⟩) k6];omega⟩
     refine⟨fun g1=>(by rw[oD hpth (jO (by rw[hd,g1];simp))];rfl),fun g1=>?_⟩
     have hgx:bN x=true:=by rw[hd,bZ,g1];rfl
     refine⟨fun g2=>?_,fun g2=>?_⟩
     ·have bn:¬ u.path=cL:=fun e=>by rw[e]at g2;exact absurd g2 (by decide)
      (refine ae pe ?_;simp only[ad,↓Xn,↓Xo,↓Xg,↓Xd,↓Xe,↓Xf,Tryz.VΓ,Tryz.Γs,Xp,Xi,Nat.reduceAdd,Nat.reduceSub,Nat.reduceLT,Nat.reduceLeDiff,reduceIte,reduceCtorEq,Nat.reduceEqDiff,implies_true,forall_const,aa,h1,h2,h3,h5,sd,sb,qS,pR,iB,mV,h7,h8,jQ])
      have hle:(bk u++if u.path=cL then [] else(L.take k).flatMap bt).length≤100000:=by
       rw[if_neg bn,zMS];omega
      refine⟨by omega,by omega,⟨by omega,by omega⟩,pP _ _ hgx ?_ rfl⟩
      rw[if_neg bn,if_neg bn,Cc,vg,List.append_assoc]
     ·have he:u.path=cL:=by simpa[cL] using g2
      refine⟨⟨by omega,by omega⟩,?_⟩
      have:=pP (bk u++if u.path=cL then [] else(L.take k).flatMap bt) ((58,.int .i64 ((k:Int)+1))::t) hgx (by rw[if_pos he,if_pos he]) rfl
      refine⟨?_,?_⟩
      ·obtain⟨⟨m,q1,q2,q3,q4⟩,-⟩:=this
       exact⟨m,q1,q2,q3,q4⟩
      ·rw[az (k:=.i64) (n:=(k:Int)+1) rfl];omega
   ·have jv:k=L.length:=by omega
    subst jv
    rw[zM3]at h5 bZ
    have yl:decide ((L.length:Int)<L.length)=false:=by simp
    rw[qT bZ]
    have hle:(bk u++if u.path=cL then [] else L.flatMap bt).length≤100000:=by
     rw[zMS];split
     ·simp;omega
     ·omega
    generalize (bk u++if u.path=cL then [] else L.flatMap bt)=S at *
    have pf:=ga ⟨dP,S⟩ (bX S hle)
    unfold fj at pf
    simp only at pf
    have hBl:=(zMR.1 iB).1
    have xa:=fun X=>af iB [X]
    have wZ:∀ X Y,((B++[X]).set 1 Y)[1]? = some Y:=fun X Y=>zMT (by simp;omega)
    simp only[ad,↓Xn,↓Xo,↓Xg,↓Xd,↓Xe,↓Xf,Tryz.VΓ,Tryz.Γs,Xp,Xi,Nat.reduceAdd,Nat.reduceSub,Nat.reduceLT,Nat.reduceLeDiff,reduceIte,reduceCtorEq,Nat.reduceEqDiff,implies_true,forall_const,aa,h1,h2,h3,h5,sd,sb,qS,pR,iB,mV,jQ,yl,xa,wZ,aW,dX]
    (refine ae pf ?_;simp only[ad,↓Xn,↓Xo,↓Xg,↓Xd,↓Xe,↓Xf,Tryz.VΓ,Tryz.Γs,Xp,Xi,Nat.reduceAdd,Nat.reduceSub,Nat.reduceLT,Nat.reduceLeDiff,reduceIte,reduceCtorEq,Nat.reduceEqDiff,implies_true,forall_const,aa,h1,h2,h3,h5,sd,sb,qS,pR,iB,mV,jQ,yl,xa,wZ,aW,dX])
    unfold gU
    exact⟨fun hl=>(by rw[if_pos (by simp only[decide_eq_true_eq,decide_eq_false_iff_not]at hl;omega)];rfl),fun hl=>(by rw[if_neg (by simp only[decide_eq_true_eq,decide_eq_false_iff_not]at hl;omega)];rfl)⟩
  ·have hp0:u.port=0:=by simpa using hp
   have oE:u.host=bk u:=by unfold bk;rw[if_pos hp0,zNj]
   have mQ:(bk u).length≤300:=by rw[← oE];omega
   refine aM (fun σ=>∃ k:Nat,k≤T.dropLast.length∧lk 1 σ.t=some (.p 0 0)∧lk 2 σ.t=some (.p 1 0)∧lk 3 σ.t=some (.int .i64 0)∧lk 5 σ.t=some (.str (bk u++if u.path=cL then [] else(T.dropLast.take k).flatMap bt))∧lk 56 σ.t=some (.o (b.length+1) T.dropLast.length)∧lk 57 σ.t=some (.int .i64 T.dropLast.length)∧lk 58 σ.t=some (.int .i64 k) ∧
    σ.b[0]? = some (.cells [.str u.host,.int .i64 u.port,.str u.path,.str u.query,.str u.fragment,.bool u.bm,.bool u.bF] 91 true)∧σ.b[1]? = some (.cells [.str [],.str []] 123 true)∧σ.b[b.length+1]? = some (.own (T.dropLast.map SV.str) 9 1 T.dropLast.length false)∧(T.dropLast.take k).all bN=true) (fun σ=>T.dropLast.length - ja 58 σ)
    ⟨0,by omega,rfl,rfl,rfl,congrArg (fun x=>some (SV.str x)) (by rw[oE];split <;> simp),rfl,rfl,rfl,Ah,hE1,hEr,rfl⟩ ?_
   generalize b.length=N at *
   generalize T.dropLast=L at *
   rintro⟨t,B⟩ ⟨k,hk,h1,h2,h3,h5,sd,sb,qS,pR,iB,mV,bZ⟩
   simp only at h1 h2 h3 h5 sd sb qS pR iB mV
   rw[az qS]
   have jQ:∀ X,(B.set 1 X)[1]? = some X:=fun X=>zMT (zMR.1 iB).1
   by_cases aB:k<L.length
   ·have hx:(L.map SV.str)[k * 1]? = some (.str L[k]):=by simp[aB]
    have D6:=hxs L[k] (zM4 aB)
    have Cc:=lC (g:=bt) aB
    have jO:bN L[k]=false→L.all bN=false:=fun h=>cW aB h
    have Cb:bN L[k]=true→(L.take (k+1)).all bN=true:=fun h=>aP aB bZ h
    simp only[ad,↓Xn,↓Xo,↓Xg,↓Xd,↓Xe,↓Xf,Tryz.VΓ,Tryz.Γs,Xp,Xi,Nat.reduceAdd,Nat.reduceSub,Nat.reduceLT,Nat.reduceLeDiff,reduceIte,reduceCtorEq,Nat.reduceEqDiff,implies_true,forall_const,aa,h1,h2,h3,h5,sd,sb,qS,pR,iB,mV,hx,jQ]
    refine⟨fun _=>⟨⟨by omega,by omega⟩,by simp;omega,?_⟩,fun h=>absurd h (by simp;omega)⟩
    have hd:=vD L[k]
    have vg:bt L[k]=58::aN (aj L[k]).1:=rfl
    have pQ:=cQ L[k]
    have pd:=fk L[k]
    have pe:=kJ (aj L[k]).1 (by omega)
    have mJ:=fB (aj L[k]).1
    have Cd:=gV (g:=bt) (L:=L) (k:=k)
    generalize L[k]=x at *
    clear hx
    refine aM (fun σ=>∃ i:Nat,i≤x.length∧lk 1 σ.t=some (.p 0 0)∧lk 2 σ.t=some (.p 1 0)∧lk 3 σ.t=some (.int .i64 0)∧lk 5 σ.t=some (.str (bk u++if u.path=cL then [] else(L.take k).flatMap bt))∧lk 56 σ.t=some (.o (N+1) L.length)∧lk 57 σ.t=some (.int .i64 L.length)∧lk 58 σ.t=some (.int .i64 k)∧lk 7 σ.t=some (.str x)∧lk 8 σ.t=some (.int .i64 i) ∧
     σ.b[0]? = some (.cells [.str u.host,.int .i64 u.port,.str u.path,.str u.query,.str u.fragment,.bool u.bm,.bool u.bF] 91 true)∧σ.b[1]? = some (.cells [.str [],.str []] 123 true)∧σ.b[N+1]? = some (.own (L.map SV.str) 9 1 L.length false)∧(x.take i).all de=true) (fun σ=>x.length - ja 8 σ)
     ⟨0,by omega,h1,h2,h3,h5,sd,sb,qS,rfl,rfl,pR,iB,mV,rfl⟩ ?_
    clear h1 h2 h3 h5 sd sb qS pR iB mV jQ bZ Ah hE1 hEr
    rintro⟨t,B⟩ ⟨i,hi,h1,h2,h3,h5,sd,sb,qS,h7,h8,pR,iB,mV,bZ⟩
    simp only at h1 h2 h3 h5 sd sb qS h7 h8 pR iB mV
    rw[az h8]
    have jQ:∀ X,(B.set 1 X)[1]? = some X:=fun X=>zMT (zMR.1 iB).1
    by_cases eh:i<x.length
    ·have hg:x.getD i 0=x[i]:=by simp[List.getD,eh]
     have IU:de x[i]=false→L.all bN=false:=fun h=>jO (by rw[hd,cW eh h];rfl)
     simp only[ad,↓Xn,↓Xo,↓Xg,↓Xd,↓Xe,↓Xf,Tryz.VΓ,Tryz.Γs,Xp,Xi,Nat.reduceAdd,Nat.reduceSub,Nat.reduceLT,Nat.reduceLeDiff,reduceIte,reduceCtorEq,Nat.reduceEqDiff,implies_true,forall_const,aa,h1,h2,h3,h5,sd,sb,qS,pR,iB,mV,h7,h8,hg,jQ]
     refine⟨fun _=>⟨⟨by omega,by omega⟩,?_⟩,fun h=>absurd h (by simp;omega)⟩
     (refine ae (dh x[i]) ?_;simp only[ad,↓Xn,↓Xo,↓Xg,↓Xd,↓Xe,↓Xf,Tryz.VΓ,Tryz.Γs,Xp,Xi,Nat.reduceAdd,Nat.reduceSub,Nat.reduceLT,Nat.reduceLeDiff,reduceIte,reduceCtorEq,Nat.reduceEqDiff,implies_true,forall_const,aa,h1,h2,h3,h5,sd,sb,qS,pR,iB,mV,h7,h8,hg,jQ])
     have wu:((x[i].toNat:Int) != 37)=(x[i] != 37):=by
      have:=cH eh 37 (n:=37) rfl
      show (!_)=(!_)
      rw[← this,hg]
     rw[wu]
     have fin:de x[i]=true→∀ (t':List (Nat × SV)),lk 8 t'=some (.int .i64 ((i:Int)+1))→(∃ m:Nat,m≤x.length∧SV.int IntKind.i64 ((i:Int)+1)=SV.int IntKind.i64 (m:Int)∧(x.take m).all de=true)∧x.length - ja 8 ⟨t',B⟩<x.length - (i:Int).toNat:=fun hm t' k6 =>
      ⟨⟨i+1,by omega,rfl,aP eh bZ hm⟩,by rw[az (σ:=⟨t',B⟩) k6];omega⟩
     refine⟨fun hp=>⟨⟨by omega,by omega⟩,fun h9=>?_,fun h9=>⟨⟨by omega,by omega⟩,fin ?_ _ rfl⟩⟩,fun hp=>⟨⟨by omega,by omega⟩,fin ?_ _ rfl⟩⟩
     ·have hb:=IU (by unfold de;simp at hp h9 ⊢;exact⟨h9,hp⟩)
      rw[oD hpth hb];rfl
     ·unfold de;simp at h9 ⊢;exact .inl h9
     ·unfold de;simp at hp ⊢;exact .inr hp
    ·have jv:i=x.length:=by omega
     subst jv
     rw[zM3]at bZ
     have yl:decide ((x.length:Int)<x.length)=false:=by simp
     generalize aj x=X at *
     obtain⟨w,ew⟩:=X
     simp only at pd pe hd vg pQ mJ
     simp only[ad,↓Xn,↓Xo,↓Xg,↓Xd,↓Xe,↓Xf,Tryz.VΓ,Tryz.Γs,Xp,Xi,Nat.reduceAdd,Nat.reduceSub,Nat.reduceLT,Nat.reduceLeDiff,reduceIte,reduceCtorEq,Nat.reduceEqDiff,implies_true,forall_const,aa,h1,h2,h3,h5,sd,sb,qS,pR,iB,mV,h7,h8,jQ,yl]
     (refine ae pd ?_;simp only[ad,↓Xn,↓Xo,↓Xg,↓Xd,↓Xe,↓Xf,Tryz.VΓ,Tryz.Γs,Xp,Xi,Nat.reduceAdd,Nat.reduceSub,Nat.reduceLT,Nat.reduceLeDiff,reduceIte,reduceCtorEq,Nat.reduceEqDiff,implies_true,forall_const,aa,h1,h2,h3,h5,sd,sb,qS,pR,iB,mV,h7,h8,jQ])
     have pP:∀ (S:Bytes) (t':List (Nat × SV)),bN x=true→S=bk u++(if u.path=cL then [] else(L.take (k+1)).flatMap bt)→lk 58 t'=some (.int .i64 ((k:Int)+1)) →
      (∃ m:Nat,m≤L.length∧SV.str S=SV.str (bk u++if u.path=cL then [] else(L.take m).flatMap bt)∧SV.int IntKind.i64 ((k:Int)+1)=SV.int IntKind.i64 (m:Int)∧(L.take m).all bN=true)∧L.length - ja 58 ⟨t',B⟩<L.length - (k:Int).toNat:=fun S t' h hS k6 =>
      ⟨⟨k+1,by omega,by rw[hS],rfl,Cb h⟩,by rw[az (σ:=⟨t',B⟩) k6];omega⟩
     refine⟨fun g1=>(by rw[oD hpth (jO (by rw[hd,g1];simp))];rfl),fun g1=>?_⟩
     have hgx:bN x=true:=by rw[hd,bZ,g1];rfl
     refine⟨fun g2=>?_,fun g2=>?_⟩
     ·have bn:¬ u.path=cL:=fun e=>by rw[e]at g2;exact absurd g2 (by decide)
      (refine ae pe ?_;simp only[ad,↓Xn,↓Xo,↓Xg,↓Xd,↓Xe,↓Xf,Tryz.VΓ,Tryz.Γs,Xp,Xi,Nat.reduceAdd,Nat.reduceSub,Nat.reduceLT,Nat.reduceLeDiff,reduceIte,reduceCtorEq,Nat.reduceEqDiff,implies_true,forall_const,aa,h1,h2,h3,h5,sd,sb,qS,pR,iB,mV,h7,h8,jQ])
      have hle:(bk u++if u.path=cL then [] else(L.take k).flatMap bt).length≤100000:=by
       rw[if_neg bn,zMS];omega
      refine⟨by omega,by omega,⟨by omega,by omega⟩,pP _ _ hgx ?_ rfl⟩
      rw[if_neg bn,if_neg bn,Cc,vg,List.append_assoc]
     ·have he:u.path=cL:=by simpa[cL] using g2
      refine⟨⟨by omega,by omega⟩,?_⟩
      have:=pP (bk u++if u.path=cL then [] else(L.take k).flatMap bt) ((58,.int .i64 ((k:Int)+1))::t) hgx (by rw[if_pos he,if_pos he]) rfl
      refine⟨?_,?_⟩
      ·obtain⟨⟨m,q1,q2,q3,q4⟩,-⟩:=this
       exact⟨m,q1,q2,q3,q4⟩
      ·rw[az (k:=.i64) (n:=(k:Int)+1) rfl];omega
   ·have jv:k=L.length:=by omega
    subst jv
    rw[zM3]at h5 bZ
    have yl:decide ((L.length:Int)<L.length)=false:=by simp
    rw[qT bZ]
    have hle:(bk u++if u.path=cL then [] else L.flatMap bt).length≤100000:=by
     rw[zMS];split
     ·simp;omega
     ·omega
    generalize (bk u++if u.path=cL then [] else L.flatMap bt)=S at *
    have pf:=ga ⟨dP,S⟩ (bX S hle)
    unfold fj at pf
    simp only at pf
    have hBl:=(zMR.1 iB).1
    have xa:=fun X=>af iB [X]
    have wZ:∀ X Y,((B++[X]).set 1 Y)[1]? = some Y:=fun X Y=>zMT (by simp;omega)
    simp only[ad,↓Xn,↓Xo,↓Xg,↓Xd,↓Xe,↓Xf,Tryz.VΓ,Tryz.Γs,Xp,Xi,Nat.reduceAdd,Nat.reduceSub,Nat.reduceLT,Nat.reduceLeDiff,reduceIte,reduceCtorEq,Nat.reduceEqDiff,implies_true,forall_const,aa,h1,h2,h3,h5,sd,sb,qS,pR,iB,mV,jQ,yl,xa,wZ,aW,dX]
    (refine ae pf ?_;simp only[ad,↓Xn,↓Xo,↓Xg,↓Xd,↓Xe,↓Xf,Tryz.VΓ,Tryz.Γs,Xp,Xi,Nat.reduceAdd,Nat.reduceSub,Nat.reduceLT,Nat.reduceLeDiff,reduceIte,reduceCtorEq,Nat.reduceEqDiff,implies_true,forall_const,aa,h1,h2,h3,h5,sd,sb,qS,pR,iB,mV,jQ,yl,xa,wZ,aW,dX])
    unfold gU
    exact⟨fun hl=>(by rw[if_pos (by simp only[decide_eq_true_eq,decide_eq_false_iff_not]at hl;omega)];rfl),fun hl=>(by rw[if_neg (by simp only[decide_eq_true_eq,decide_eq_false_iff_not]at hl;omega)];rfl)⟩
 ·rw[if_neg (by rw[hq];simp),if_pos hf];rfl
 ·rw[if_pos hq];rfl
theorem tn (d:fU)(h:eG d):PC Tryz.V 79 [fj d] (.eS [fj (eF d).1,.int .i64 (eF d).2]):=by
 have pt:=Bj d h
 have vp:=tV d
 unfold eF
 generalize eJ d=X at pt vp ⊢
 obtain⟨u,e⟩:=X
 simp only at pt vp ⊢
 refine aQ 3000 Tryz.func79 rfl Tryz.ntmps79 Tryz.results79 Tryz.call79 (by simp) (by simp[flat,flat.ai,fj,ey]) (by simp[flat,flat.ai,fj,ey]) ?_
 unfold fj
 unfold fj ey at pt
 simp only[ad,↓Xn,↓Xo,↓Xg,↓Xd,↓Xe,↓Xf,Tryz.VΓ,Tryz.Γs,Xp,Xi,Nat.reduceAdd,Nat.reduceSub,Nat.reduceLT,Nat.reduceLeDiff,reduceIte,reduceCtorEq,Nat.reduceEqDiff,implies_true,forall_const,aa]
 (refine ae pt ?_;simp only[ad,↓Xn,↓Xo,↓Xg,↓Xd,↓Xe,↓Xf,Tryz.VΓ,Tryz.Γs,Xp,Xi,Nat.reduceAdd,Nat.reduceSub,Nat.reduceLT,Nat.reduceLeDiff,reduceIte,reduceCtorEq,Nat.reduceEqDiff,implies_true,forall_const,aa])
 refine⟨fun h1=>(by rw[if_pos (by simpa using h1)];rfl),fun h1=>?_⟩
 rw[if_neg (by simpa using h1)]
 have pf:=wK u (vp (by simpa using h1))
 unfold fj ey at pf
 (refine ae pf ?_;simp only[ad,↓Xn,↓Xo,↓Xg,↓Xd,↓Xe,↓Xf,Tryz.VΓ,Tryz.Γs,Xp,Xi,Nat.reduceAdd,Nat.reduceSub,Nat.reduceLT,Nat.reduceLeDiff,reduceIte,reduceCtorEq,Nat.reduceEqDiff,implies_true,forall_const,aa])
end Go.Proofs.YteipdaijbncgeaaGreatDoor
namespace Wf
open Go Go.RowKit
structure jE where
 kind:Int
 text:Bytes
 host:Bytes
 port:Int
 deriving DecidableEq
def jE.none:jE:=⟨0,[],[],0⟩
def jN (s:Bytes):jE × Int:=if (bO s).2≠0 then(jE.none,(bO s).2) else(⟨1,iX (bO s).1,(bO s).1.host,0⟩,0)
def jM (s:Bytes):jE × Int:=if (bT s).2≠0 then(jE.none,(bT s).2) else(⟨2,nL (bT s).1,(bT s).1.host,0⟩,0)
def lh (s:Bytes):jE × Int:=if (bH s).2≠0 then(jE.none,(bH s).2) else(⟨3,cF (bH s).1,(bH s).1.host,(bH s).1.port⟩,0)
def qJ (c:fU × Int):jE × Int:=if c.2≠0 then(jE.none,c.2) else if (bh c.1).2≠0 then(jE.none,(bh c.1).2) else(⟨4,bA c.1,(bh c.1).1.1,(bh c.1).1.2⟩,0)
def lj (s:Bytes):jE × Int:=if (aY s).2≠0 then(jE.none,(aY s).2) else qJ (eF (aY s).1)
def qI:Bytes:=[97,99,99,116]
def rR:Bytes:=[109,97,105,108,116,111]
def ve:Bytes:=[100,105,100]
def nR (sch s:Bytes):jE × Int :=
 if sch=qI then jN s else if sch=rR then jM s else if sch=dj then lh s else if sch=ve then lj s else(jE.none,60)
def bK (s:Bytes):jE × Int :=
 if 4096<s.length then(jE.none,5)
 else if (aL 58 s).2.2=false then(jE.none,60)
 else nR (lower (aL 58 s).1) s
def cO (i:jE):Bool:=decide (bK i.text=(i,0))
end Wf
namespace Go.Proofs.YteipdaijbncgeaaGreatDoor
open Go Vc Go.RowKit Wf
def FK (a:ow):SV:=.agg [.str a.user,.str a.host]
def fM (s:Bytes):Bytes × Bytes × Int :=
 if 4096<s.length then([],[],5) else if s.length<5∨lower (s.take 5)≠mM then([],[],60) else if (aL 64 (s.drop 5)).2.2=false then([],[],6) else((aL 64 (s.drop 5)).1,(aL 64 (s.drop 5)).2.1,0)
theorem xh (s:Bytes):bO s=if (fM s).2.2≠0 then(ow.none,(fM s).2.2) else vW (aX nQ (fM s).1) (bB (fM s).2.1):=by
 unfold bO fM rf
 split
 ·simp
 split
 ·simp
 split
 ·simp
 ·simp
theorem DP (s:Bytes):PC Tryz.V 138 [.str s] (.eS [.str (fM s).1,.str (fM s).2.1,.int .i64 (fM s).2.2]):=by
 have pe:=zo (s.take 5) mM (by simp;omega) (by decide)
 rw[show lower mM=mM by decide]at pe
 refine aQ 3000 Tryz.func138 rfl Tryz.ntmps138 Tryz.results138 Tryz.call138 (by simp) (by simp[flat,flat.ai]) (by simp[flat,flat.ai]) ?_
 simp only[ad,↓Xn,↓Xo,↓Xg,↓Xd,↓Xe,↓Xf,Tryz.VΓ,Tryz.Γs,Xp,Xi,Nat.reduceAdd,Nat.reduceSub,Nat.reduceLT,Nat.reduceLeDiff,reduceIte,reduceCtorEq,Nat.reduceEqDiff,implies_true,forall_const,aa]
 unfold fM
 refine⟨fun h=>?_,fun h=>⟨fun h2=>⟨⟨by omega,(by simp at h2;omega)⟩,?_⟩,fun h2=>?_⟩⟩
 ·have h:4096<s.length:=(by simp at h;omega)
  rw[if_pos h]
 ·have h:¬ 4096<s.length:=(by simp at h;omega)
  have h2:¬ s.length<5:=(by simp at h2;omega)
  rw[if_neg h]
  (refine ae pe ?_;simp only[ad,↓Xn,↓Xo,↓Xg,↓Xd,↓Xe,↓Xf,Tryz.VΓ,Tryz.Γs,Xp,Xi,Nat.reduceAdd,Nat.reduceSub,Nat.reduceLT,Nat.reduceLeDiff,reduceIte,reduceCtorEq,Nat.reduceEqDiff,implies_true,forall_const,aa])
  refine⟨fun h3=>?_,fun h3=>⟨⟨by omega,by omega⟩,?_⟩⟩
  ·rw[if_pos (.inr (by simpa using h3))]
  rw[if_neg (by simp only[not_or];exact⟨h2,by simpa using h3⟩)]
  (refine ae (uD (s.drop 5) 64 (by simp;omega)) ?_;simp only[ad,↓Xn,↓Xo,↓Xg,↓Xd,↓Xe,↓Xf,Tryz.VΓ,Tryz.Γs,Xp,Xi,Nat.reduceAdd,Nat.reduceSub,Nat.reduceLT,Nat.reduceLeDiff,reduceIte,reduceCtorEq,Nat.reduceEqDiff,implies_true,forall_const,aa])
  refine⟨fun h4=>?_,fun h4=>?_⟩
  ·rw[if_pos (by simpa using h4)]
  ·rw[if_neg (by simpa using h4)]
 ·have h:¬ 4096<s.length:=(by simp at h;omega)
  have h2:s.length<5:=(by simp at h2;omega)
  rw[if_neg h,if_pos (.inl h2)]
theorem zl (s:Bytes):PC Tryz.V 114 [.str s] (.eS [FK (bO s).1,.int .i64 (bO s).2]):=by
 have pc:=DP s
 rw[xh]
 have hl:(fM s).2.2=0→(fM s).2.1.length≤4096:=fun h=>by
  unfold fM at h ⊢
  split at h
  ·simp at h
  split at h
  ·simp at h
  split at h
  ·simp at h
  ·rename_i h1 h2 h3
   rw[if_neg h1,if_neg h2,if_neg h3]
   have:=eg 64 (s.drop 5)
   simp at this ⊢
   omega
 generalize fM s=x at pc hl ⊢
 obtain⟨u,p,e⟩:=x
 simp only at pc hl ⊢
 refine aQ 3000 Tryz.func114 rfl Tryz.ntmps114 Tryz.results114 Tryz.call114 (by simp) (by simp[flat,flat.ai]) (by simp[flat,flat.ai,FK]) ?_
 simp only[ad,↓Xn,↓Xo,↓Xg,↓Xd,↓Xe,↓Xf,Tryz.VΓ,Tryz.Γs,Xp,Xi,Nat.reduceAdd,Nat.reduceSub,Nat.reduceLT,Nat.reduceLeDiff,reduceIte,reduceCtorEq,Nat.reduceEqDiff,implies_true,forall_const,aa]
 (refine ae (pc) ?_;simp only[ad,↓Xn,↓Xo,↓Xg,↓Xd,↓Xe,↓Xf,Tryz.VΓ,Tryz.Γs,Xp,Xi,Nat.reduceAdd,Nat.reduceSub,Nat.reduceLT,Nat.reduceLeDiff,reduceIte,reduceCtorEq,Nat.reduceEqDiff,implies_true,forall_const,aa])
 refine⟨fun h1=>?_,fun h1=>?_⟩
 ·rw[if_pos (by simpa using h1)];rfl
 rw[if_neg (by simpa using h1)]
 have hp:=hl (by simpa using h1)
 have pn:=iS u nQ (by decide)
 generalize aX nQ u=n at pn ⊢
 obtain⟨n,e1⟩:=n
 have ph:=sK p (by omega)
 generalize bB p=hh at ph ⊢
 obtain⟨hh,e2⟩:=hh
 simp only at pn ph
 unfold vW
 (refine ae (pn) ?_;simp only[ad,↓Xn,↓Xo,↓Xg,↓Xd,↓Xe,↓Xf,Tryz.VΓ,Tryz.Γs,Xp,Xi,Nat.reduceAdd,Nat.reduceSub,Nat.reduceLT,Nat.reduceLeDiff,reduceIte,reduceCtorEq,Nat.reduceEqDiff,implies_true,forall_const,aa])
 refine⟨fun h2=>⟨fun h3=>⟨⟨by omega,?_⟩,fun h4=>?_,fun h4=>?_⟩,fun h3=>?_⟩,fun h2=>?_⟩
 ·cases n with
  | nil=>simp at h3
  | cons c r=>simp only[zMU];omega
 ·cases n with
  | nil=>simp at h3
  | cons c r =>
    have h4:c=37:=by
     rw[← UInt8.toNat_inj]
     have:((c.toNat:Int)==37)=true:=h4
     have:=beq_iff_eq.1 this
     have e:(37:UInt8).toNat=37:=rfl
     omega
    rw[if_pos (.inr (.inr (by rw[h4];rfl)))]
    rfl
 ·cases n with
  | nil=>simp at h3
  | cons c r =>
    have h4:c≠37:=by
     rintro rfl
     have:(((37:UInt8).toNat:Int)==37)=false:=h4
     simp at this
    rw[if_neg (by simp only[not_or];exact⟨by simpa using h2,by simp,by simpa using h4⟩)]
    (refine ae ph ?_;simp only[ad,↓Xn,↓Xo,↓Xg,↓Xd,↓Xe,↓Xf,Tryz.VΓ,Tryz.Γs,Xp,Xi,Nat.reduceAdd,Nat.reduceSub,Nat.reduceLT,Nat.reduceLeDiff,reduceIte,reduceCtorEq,Nat.reduceEqDiff,implies_true,forall_const,aa])
    refine⟨fun h5=>?_,fun h5=>?_⟩
    ·rw[if_pos (by simpa using h5)];rfl
    ·rw[if_neg (by simpa using h5)];rfl
 ·rw[if_pos (.inr (.inl (by simpa using h3)))];rfl
 ·rw[if_pos (.inl (by simpa using h2))];rfl
theorem wO (a:ow)(h:a.user.length≤140737488355328∧a.host.length≤140737488355328):PC Tryz.V 115 [FK a] (.str (iX a)):=by
 refine aQ 3000 Tryz.func115 rfl Tryz.ntmps115 Tryz.results115 Tryz.call115 (by simp) (by simp[flat,flat.ai,FK]) (by simp[flat,flat.ai,FK]) ?_
 unfold FK
 simp only[ad,↓Xn,↓Xo,↓Xg,↓Xd,↓Xe,↓Xf,Tryz.VΓ,Tryz.Γs,Xp,Xi,Nat.reduceAdd,Nat.reduceSub,Nat.reduceLT,Nat.reduceLeDiff,reduceIte,reduceCtorEq,Nat.reduceEqDiff,implies_true,forall_const,aa]
 refine⟨by omega,by omega,by simp only[zMS,zMU,zM1];omega,?_⟩
 simp[iX,mM]
theorem Bd (a:ow)(h:a.user.length≤140737488355328∧a.host.length≤140737488355328):PC Tryz.V 49 [FK a] (.str (iX a)):=by
 refine aQ 3000 Tryz.func49 rfl Tryz.ntmps49 Tryz.results49 Tryz.call49 (by simp) (by simp[flat,flat.ai,FK]) (by simp[flat,flat.ai,FK]) ?_
 unfold FK
 simp only[ad,↓Xn,↓Xo,↓Xg,↓Xd,↓Xe,↓Xf,Tryz.VΓ,Tryz.Γs,Xp,Xi,Nat.reduceAdd,Nat.reduceSub,Nat.reduceLT,Nat.reduceLeDiff,reduceIte,reduceCtorEq,Nat.reduceEqDiff,implies_true,forall_const,aa]
 refine⟨by omega,by omega,by simp only[zMS,zMU,zM1];omega,?_⟩
 simp[iX,mM]
theorem DG (s:Bytes):PC Tryz.V 48 [.str s] (.eS [FK (bO s).1,.int .i64 (bO s).2]):=by
 have pe:=pG (s.take 5) mM (by simp;omega) (by decide)
 rw[show lower mM=mM by decide]at pe
 refine aQ 3000 Tryz.func48 rfl Tryz.ntmps48 Tryz.results48 Tryz.call48 (by simp) (by simp[flat,flat.ai]) (by simp[flat,flat.ai,FK]) ?_
 simp only[ad,↓Xn,↓Xo,↓Xg,↓Xd,↓Xe,↓Xf,Tryz.VΓ,Tryz.Γs,Xp,Xi,Nat.reduceAdd,Nat.reduceSub,Nat.reduceLT,Nat.reduceLeDiff,reduceIte,reduceCtorEq,Nat.reduceEqDiff,implies_true,forall_const,aa]
 unfold bO
 refine⟨fun h=>?_,fun h=>⟨fun h2=>⟨⟨by omega,(by simp at h2;omega)⟩,?_⟩,fun h2=>?_⟩⟩
 ·have h:4096<s.length:=(by simp at h;omega)
  rw[if_pos h];rfl
 ·have h:¬ 4096<s.length:=(by simp at h;omega)
  have h2:¬ s.length<5:=(by simp at h2;omega)
  rw[if_neg h]
  (refine ae pe ?_;simp only[ad,↓Xn,↓Xo,↓Xg,↓Xd,↓Xe,↓Xf,Tryz.VΓ,Tryz.Γs,Xp,Xi,Nat.reduceAdd,Nat.reduceSub,Nat.reduceLT,Nat.reduceLeDiff,reduceIte,reduceCtorEq,Nat.reduceEqDiff,implies_true,forall_const,aa,Int.reduceToNat])
  refine⟨fun h3=>?_,fun h3=>⟨⟨by omega,by omega⟩,?_⟩⟩
  ·rw[if_pos (.inr (by simpa using h3))];rfl
  rw[if_neg (by simp only[not_or];exact⟨h2,by simpa using h3⟩)]
  have hS:(s.drop 5).length≤4096:=by simp;omega
  generalize s.drop 5=S at hS ⊢
  have pi:=bl S [64] (by omega) (by decide)
  rw[show (List.contains [64] ·:UInt8→Bool)=(·==64) from by funext c;simp;exact(Bool.beq_eq_decide_eq _ _).symm]at pi
  have gd:=cx (·==64) S
  unfold rf
  (refine ae pi ?_;simp only[ad,↓Xn,↓Xo,↓Xg,↓Xd,↓Xe,↓Xf,Tryz.VΓ,Tryz.Γs,Xp,Xi,Nat.reduceAdd,Nat.reduceSub,Nat.reduceLT,Nat.reduceLeDiff,reduceIte,reduceCtorEq,Nat.reduceEqDiff,implies_true,forall_const,aa])
  refine⟨fun h4=>?_,fun h4=>?_⟩
  ·have h4:=beq_iff_eq.1 h4
   rw[fK (by omega)];rfl
  have h4:pre (·==64) S<S.length:=by
   have:=beq_eq_false_iff_ne.1 h4
   omega
  rw[show aL 64 S=(S.take (pre (·==64) S),S.drop (pre (·==64) S+1),true) from if_pos h4]
  simp only[Bool.true_eq_false,if_false]
  generalize hk:pre (·==64) S=k at *
  have pn:=gO (S.take k) nQ (by decide)
  have ph:=xK (S.drop (k+1)) (by simp;omega)
  generalize aX nQ (S.take k)=n at pn ⊢
  obtain⟨n,e1⟩:=n
  generalize bB (S.drop (k+1))=hh at ph ⊢
  obtain⟨hh,e2⟩:=hh
  simp only at pn ph
  unfold vW
  simp only
  refine⟨⟨by omega,by omega⟩,?_⟩
  (refine ae pn ?_;simp only[ad,↓Xn,↓Xo,↓Xg,↓Xd,↓Xe,↓Xf,Tryz.VΓ,Tryz.Γs,Xp,Xi,Nat.reduceAdd,Nat.reduceSub,Nat.reduceLT,Nat.reduceLeDiff,reduceIte,reduceCtorEq,Nat.reduceEqDiff,implies_true,forall_const,aa])
  refine⟨fun h2=>⟨fun h3=>⟨⟨by omega,?_⟩,fun h4=>?_,fun h4=>?_⟩,fun h3=>?_⟩,fun h2=>?_⟩
  ·cases n with
   | nil=>simp at h3
   | cons c r=>simp only[zMU];omega
  ·cases n with
   | nil=>simp at h3
   | cons c r =>
     have h4:c=37:=by
      rw[← UInt8.toNat_inj]
      have:((c.toNat:Int)==37)=true:=h4
      have:=beq_iff_eq.1 this
      have e:(37:UInt8).toNat=37:=rfl
      omega
     rw[if_pos (.inr (.inr (by rw[h4];rfl)))]
     rfl
  ·cases n with
   | nil=>simp at h3
   | cons c r =>
     have h4:c≠37:=by
      rintro rfl
      have:(((37:UInt8).toNat:Int)==37)=false:=h4
      simp at this
     rw[if_neg (by simp only[not_or];exact⟨by simpa using h2,by simp,by simpa using h4⟩)]
     refine⟨⟨by omega,by omega⟩,⟨by omega,by omega⟩,?_⟩
     (refine ae ph ?_;simp only[ad,↓Xn,↓Xo,↓Xg,↓Xd,↓Xe,↓Xf,Tryz.VΓ,Tryz.Γs,Xp,Xi,Nat.reduceAdd,Nat.reduceSub,Nat.reduceLT,Nat.reduceLeDiff,reduceIte,reduceCtorEq,Nat.reduceEqDiff,implies_true,forall_const,aa])
     refine⟨fun h5=>?_,fun h5=>?_⟩
     ·rw[if_pos (by simpa using h5)];rfl
     ·rw[if_neg (by simpa using h5)];rfl
  ·rw[if_pos (.inr (.inl (by simpa using h3)))];rfl
  ·rw[if_pos (.inl (by simpa using h2))];rfl
 ·have h:¬ 4096<s.length:=(by simp at h;omega)
  have h2:s.length<5:=(by simp at h2;omega)
  rw[if_neg h,if_pos (.inl h2)];rfl
def ix (i:jE):SV:=.agg [.int .i64 i.kind,.str i.text,.str i.host,.int .i64 i.port]
theorem E8 (s:Bytes)(h:(bO s).2=0):(bO s).1.user.length≤140737488355328∧(bO s).1.host.length≤140737488355328:=by
 have h1:=(Ka (s:=s) (a:=(bO s).1) (by rw[← h])).2
 unfold iX at h1
 simp at h1
 omega
theorem BW (s:Bytes)(h:(bT s).2=0):(bT s).1.loc.length≤300000∧(bT s).1.host.length≤140737488355328:=by
 have h1:=Iy (s:=s) (m:=(bT s).1) (by rw[← h])
 have h2:=Bw h1.loc
 have h3:=(nT h1.host).2.1
 exact⟨by omega,by omega⟩
theorem Bn (s:Bytes):PC Tryz.V 86 [.str s] (.eS [ix (jN s).1,.int .i64 (jN s).2]):=by
 have p1:=zl s
 have p2:=fun h=>wO (bO s).1 (E8 s h)
 unfold jN
 unfold FK at p1 p2
 (refine aQ 3000 Tryz.func86 rfl Tryz.ntmps86 Tryz.results86 Tryz.call86 (by simp) (by simp[flat,flat.ai,ix]) (by simp[flat,flat.ai,ix]) ?_)
 unfold ix
 simp only[ad,↓Xn,↓Xo,↓Xg,↓Xd,↓Xe,↓Xf,Tryz.VΓ,Tryz.Γs,Xp,Xi,Nat.reduceAdd,Nat.reduceSub,Nat.reduceLT,Nat.reduceLeDiff,reduceIte,reduceCtorEq,Nat.reduceEqDiff,implies_true,forall_const,aa,beq_self_eq_true,bne_self_eq_false,Int.reduceBEq,Int.reduceBNe,Int.reduceLT,Int.reduceLE]
 (refine ae p1 ?_;simp only[ad,↓Xn,↓Xo,↓Xg,↓Xd,↓Xe,↓Xf,Tryz.VΓ,Tryz.Γs,Xp,Xi,Nat.reduceAdd,Nat.reduceSub,Nat.reduceLT,Nat.reduceLeDiff,reduceIte,reduceCtorEq,Nat.reduceEqDiff,implies_true,forall_const,aa,beq_self_eq_true,bne_self_eq_false,Int.reduceBEq,Int.reduceBNe,Int.reduceLT,Int.reduceLE])
 refine⟨fun h=>?_,fun h=>?_⟩
 ·have h:(bO s).2≠0:=by simpa using h
  simp[h,jE.none]
 ·have h:(bO s).2=0:=by simpa using h
  (refine aU (p2 h) ?_;simp only[ad,↓Xn,↓Xo,↓Xg,↓Xd,↓Xe,↓Xf,Tryz.VΓ,Tryz.Γs,Xp,Xi,Nat.reduceAdd,Nat.reduceSub,Nat.reduceLT,Nat.reduceLeDiff,reduceIte,reduceCtorEq,Nat.reduceEqDiff,implies_true,forall_const,aa,beq_self_eq_true,bne_self_eq_false,Int.reduceBEq,Int.reduceBNe,Int.reduceLT,Int.reduceLE])
  simp only[h]
  exact⟨(aq (by kernel_rfl)),by simp⟩
theorem Bm (s:Bytes):PC Tryz.V 87 [.str s] (.eS [ix (jM s).1,.int .i64 (jM s).2]):=by
 have p1:=zi s
 have p2:=fun h=>wL (bT s).1 (BW s h)
 unfold jM
 unfold E2 at p1 p2
 (refine aQ 3000 Tryz.func87 rfl Tryz.ntmps87 Tryz.results87 Tryz.call87 (by simp) (by simp[flat,flat.ai,ix]) (by simp[flat,flat.ai,ix]) ?_)
 unfold ix
 simp only[ad,↓Xn,↓Xo,↓Xg,↓Xd,↓Xe,↓Xf,Tryz.VΓ,Tryz.Γs,Xp,Xi,Nat.reduceAdd,Nat.reduceSub,Nat.reduceLT,Nat.reduceLeDiff,reduceIte,reduceCtorEq,Nat.reduceEqDiff,implies_true,forall_const,aa,beq_self_eq_true,bne_self_eq_false,Int.reduceBEq,Int.reduceBNe,Int.reduceLT,Int.reduceLE]
 (refine ae p1 ?_;simp only[ad,↓Xn,↓Xo,↓Xg,↓Xd,↓Xe,↓Xf,Tryz.VΓ,Tryz.Γs,Xp,Xi,Nat.reduceAdd,Nat.reduceSub,Nat.reduceLT,Nat.reduceLeDiff,reduceIte,reduceCtorEq,Nat.reduceEqDiff,implies_true,forall_const,aa,beq_self_eq_true,bne_self_eq_false,Int.reduceBEq,Int.reduceBNe,Int.reduceLT,Int.reduceLE])
 refine⟨fun h=>?_,fun h=>?_⟩
 ·have h:(bT s).2≠0:=by simpa using h
  simp[h,jE.none]
 ·have h:(bT s).2=0:=by simpa using h
  (refine aU (p2 h) ?_;simp only[ad,↓Xn,↓Xo,↓Xg,↓Xd,↓Xe,↓Xf,Tryz.VΓ,Tryz.Γs,Xp,Xi,Nat.reduceAdd,Nat.reduceSub,Nat.reduceLT,Nat.reduceLeDiff,reduceIte,reduceCtorEq,Nat.reduceEqDiff,implies_true,forall_const,aa,beq_self_eq_true,bne_self_eq_false,Int.reduceBEq,Int.reduceBNe,Int.reduceLT,Int.reduceLE])
  simp only[h]
  exact⟨(aq (by kernel_rfl)),by simp⟩
theorem DL (s:Bytes):PC Tryz.V 88 [.str s] (.eS [ix (lh s).1,.int .i64 (lh s).2]):=by
 have p1:=sF s
 have p2:=fun h=>gN (bH s).1 (vO (my (s:=s) (u:=(bH s).1) (by rw[← (show (bH s).2=0 from h)])))
 unfold lh
 unfold ey at p1 p2
 (refine aQ 3000 Tryz.func88 rfl Tryz.ntmps88 Tryz.results88 Tryz.call88 (by simp) (by simp[flat,flat.ai,ix]) (by simp[flat,flat.ai,ix]) ?_)
 unfold ix
 simp only[ad,↓Xn,↓Xo,↓Xg,↓Xd,↓Xe,↓Xf,Tryz.VΓ,Tryz.Γs,Xp,Xi,Nat.reduceAdd,Nat.reduceSub,Nat.reduceLT,Nat.reduceLeDiff,reduceIte,reduceCtorEq,Nat.reduceEqDiff,implies_true,forall_const,aa,beq_self_eq_true,bne_self_eq_false,Int.reduceBEq,Int.reduceBNe,Int.reduceLT,Int.reduceLE]
 (refine ae p1 ?_;simp only[ad,↓Xn,↓Xo,↓Xg,↓Xd,↓Xe,↓Xf,Tryz.VΓ,Tryz.Γs,Xp,Xi,Nat.reduceAdd,Nat.reduceSub,Nat.reduceLT,Nat.reduceLeDiff,reduceIte,reduceCtorEq,Nat.reduceEqDiff,implies_true,forall_const,aa,beq_self_eq_true,bne_self_eq_false,Int.reduceBEq,Int.reduceBNe,Int.reduceLT,Int.reduceLE])
 refine⟨fun h=>?_,fun h=>?_⟩
 ·have h:(bH s).2≠0:=by simpa using h
  simp[h,jE.none]
 ·have h:(bH s).2=0:=by simpa using h
  (refine aU (p2 h) ?_;simp only[ad,↓Xn,↓Xo,↓Xg,↓Xd,↓Xe,↓Xf,Tryz.VΓ,Tryz.Γs,Xp,Xi,Nat.reduceAdd,Nat.reduceSub,Nat.reduceLT,Nat.reduceLeDiff,reduceIte,reduceCtorEq,Nat.reduceEqDiff,implies_true,forall_const,aa,beq_self_eq_true,bne_self_eq_false,Int.reduceBEq,Int.reduceBNe,Int.reduceLT,Int.reduceLE])
  simp only[h]
  exact⟨(aq (by kernel_rfl)),by simp⟩
theorem Gg (s:Bytes):PC Tryz.V 52 [.str s] (.eS [ix (lh s).1,.int .i64 (lh s).2]):=by
 have p1:=uw s
 have p2:=fun h=>kr (bH s).1 (vO (my (s:=s) (u:=(bH s).1) (by rw[← (show (bH s).2=0 from h)])))
 unfold lh
 unfold ey at p1 p2
 (refine aQ 3000 Tryz.func52 rfl Tryz.ntmps52 Tryz.results52 Tryz.call52 (by simp) (by simp[flat,flat.ai,ix]) (by simp[flat,flat.ai,ix]) ?_)
 unfold ix
 simp only[ad,↓Xn,↓Xo,↓Xg,↓Xd,↓Xe,↓Xf,Tryz.VΓ,Tryz.Γs,Xp,Xi,Nat.reduceAdd,Nat.reduceSub,Nat.reduceLT,Nat.reduceLeDiff,reduceIte,reduceCtorEq,Nat.reduceEqDiff,implies_true,forall_const,aa,beq_self_eq_true,bne_self_eq_false,Int.reduceBEq,Int.reduceBNe,Int.reduceLT,Int.reduceLE]
 (refine ae p1 ?_;simp only[ad,↓Xn,↓Xo,↓Xg,↓Xd,↓Xe,↓Xf,Tryz.VΓ,Tryz.Γs,Xp,Xi,Nat.reduceAdd,Nat.reduceSub,Nat.reduceLT,Nat.reduceLeDiff,reduceIte,reduceCtorEq,Nat.reduceEqDiff,implies_true,forall_const,aa,beq_self_eq_true,bne_self_eq_false,Int.reduceBEq,Int.reduceBNe,Int.reduceLT,Int.reduceLE])
 refine⟨fun h=>?_,fun h=>?_⟩
 ·have h:(bH s).2≠0:=by simpa using h
  simp[h,jE.none]
 ·have h:(bH s).2=0:=by simpa using h
  (refine aU (p2 h) ?_;simp only[ad,↓Xn,↓Xo,↓Xg,↓Xd,↓Xe,↓Xf,Tryz.VΓ,Tryz.Γs,Xp,Xi,Nat.reduceAdd,Nat.reduceSub,Nat.reduceLT,Nat.reduceLeDiff,reduceIte,reduceCtorEq,Nat.reduceEqDiff,implies_true,forall_const,aa,beq_self_eq_true,bne_self_eq_false,Int.reduceBEq,Int.reduceBNe,Int.reduceLT,Int.reduceLE])
  simp only[h]
  exact⟨(aq (by kernel_rfl)),by simp⟩
theorem BX (s:Bytes):eG (aY s).1:=by
 by_cases h:(aY s).2=0
 ·have h1:=FE (s:=s) (d:=(aY s).1) (by rw[← h])
  have h2:=sX (aY s).1
  exact⟨by omega,by omega⟩
 ·rw[zP s h];exact⟨by decide,by decide⟩
theorem qH {d c:fU}(h:eF d=(c,0)):eG c:=by
 obtain⟨u,h1,h2,h3,h4,h5,h6,h7,h8⟩:=pb h
 have h9:=FE h6
 have fy:=sX c
 exact⟨by omega,by omega⟩
theorem E9 {d c:fU}(h:eF d=(c,0)):(bh c).2=0:=by
 obtain⟨u,h1,h2,h3,h4,h5,h6,h7,h8⟩:=pb h
 rw[h5]
theorem DM (s:Bytes):PC Tryz.V 89 [.str s] (.eS [ix (lj s).1,.int .i64 (lj s).2]):=by
 have p1:=nE s
 have p2:=tj (aY s).1 (BX s)
 unfold lj
 unfold fj at p1 p2
 (refine aQ 3000 Tryz.func89 rfl Tryz.ntmps89 Tryz.results89 Tryz.call89 (by simp) (by simp[flat,flat.ai,ix]) (by simp[flat,flat.ai,ix]) ?_)
 unfold ix
 simp only[ad,↓Xn,↓Xo,↓Xg,↓Xd,↓Xe,↓Xf,Tryz.VΓ,Tryz.Γs,Xp,Xi,Nat.reduceAdd,Nat.reduceSub,Nat.reduceLT,Nat.reduceLeDiff,reduceIte,reduceCtorEq,Nat.reduceEqDiff,implies_true,forall_const,aa,beq_self_eq_true,bne_self_eq_false,Int.reduceBEq,Int.reduceBNe,Int.reduceLT,Int.reduceLE]
 (refine ae p1 ?_;simp only[ad,↓Xn,↓Xo,↓Xg,↓Xd,↓Xe,↓Xf,Tryz.VΓ,Tryz.Γs,Xp,Xi,Nat.reduceAdd,Nat.reduceSub,Nat.reduceLT,Nat.reduceLeDiff,reduceIte,reduceCtorEq,Nat.reduceEqDiff,implies_true,forall_const,aa,beq_self_eq_true,bne_self_eq_false,Int.reduceBEq,Int.reduceBNe,Int.reduceLT,Int.reduceLE])
 refine⟨fun h=>?_,fun h=>?_⟩
 ·have h:(aY s).2≠0:=by simpa using h
  simp[h,jE.none]
 have h:(aY s).2=0:=by simpa using h
 simp only[h,ne_eq,not_true_eq_false,if_false]
 generalize hz:eF (aY s).1=z at p2
 obtain⟨c,e⟩:=z
 simp only at p2
 (refine ae p2 ?_;simp only[ad,↓Xn,↓Xo,↓Xg,↓Xd,↓Xe,↓Xf,Tryz.VΓ,Tryz.Γs,Xp,Xi,Nat.reduceAdd,Nat.reduceSub,Nat.reduceLT,Nat.reduceLeDiff,reduceIte,reduceCtorEq,Nat.reduceEqDiff,implies_true,forall_const,aa,beq_self_eq_true,bne_self_eq_false,Int.reduceBEq,Int.reduceBNe,Int.reduceLT,Int.reduceLE])
 refine⟨fun h=>?_,fun h=>?_⟩
 ·have h:e≠0:=by simpa using h
  simp[qJ,h,jE.none]
 obtain rfl:e=0:=by simpa using h
 have p3:=mD c (qH hz)
 have p4:=dD c (qH hz)
 unfold fj at p3 p4
 have ha:=E9 hz
 rw[ha]at p3
 (refine ae (p3) ?_;simp only[ad,↓Xn,↓Xo,↓Xg,↓Xd,↓Xe,↓Xf,Tryz.VΓ,Tryz.Γs,Xp,Xi,Nat.reduceAdd,Nat.reduceSub,Nat.reduceLT,Nat.reduceLeDiff,reduceIte,reduceCtorEq,Nat.reduceEqDiff,implies_true,forall_const,aa,beq_self_eq_true,bne_self_eq_false,Int.reduceBEq,Int.reduceBNe,Int.reduceLT,Int.reduceLE])
 (refine aU (p4) ?_;simp only[ad,↓Xn,↓Xo,↓Xg,↓Xd,↓Xe,↓Xf,Tryz.VΓ,Tryz.Γs,Xp,Xi,Nat.reduceAdd,Nat.reduceSub,Nat.reduceLT,Nat.reduceLeDiff,reduceIte,reduceCtorEq,Nat.reduceEqDiff,implies_true,forall_const,aa,beq_self_eq_true,bne_self_eq_false,Int.reduceBEq,Int.reduceBNe,Int.reduceLT,Int.reduceLE])
 exact⟨(aq (by kernel_rfl)),by simp[qJ,ha]⟩
theorem tm (s:Bytes):PC Tryz.V 53 [.str s] (.eS [ix (lj s).1,.int .i64 (lj s).2]):=by
 have p1:=nC s
 have p2:=tn (aY s).1 (BX s)
 unfold lj
 unfold fj at p1 p2
 (refine aQ 3000 Tryz.func53 rfl Tryz.ntmps53 Tryz.results53 Tryz.call53 (by simp) (by simp[flat,flat.ai,ix]) (by simp[flat,flat.ai,ix]) ?_)
 unfold ix
 simp only[ad,↓Xn,↓Xo,↓Xg,↓Xd,↓Xe,↓Xf,Tryz.VΓ,Tryz.Γs,Xp,Xi,Nat.reduceAdd,Nat.reduceSub,Nat.reduceLT,Nat.reduceLeDiff,reduceIte,reduceCtorEq,Nat.reduceEqDiff,implies_true,forall_const,aa,beq_self_eq_true,bne_self_eq_false,Int.reduceBEq,Int.reduceBNe,Int.reduceLT,Int.reduceLE]
 (refine ae p1 ?_;simp only[ad,↓Xn,↓Xo,↓Xg,↓Xd,↓Xe,↓Xf,Tryz.VΓ,Tryz.Γs,Xp,Xi,Nat.reduceAdd,Nat.reduceSub,Nat.reduceLT,Nat.reduceLeDiff,reduceIte,reduceCtorEq,Nat.reduceEqDiff,implies_true,forall_const,aa,beq_self_eq_true,bne_self_eq_false,Int.reduceBEq,Int.reduceBNe,Int.reduceLT,Int.reduceLE])
 refine⟨fun h=>?_,fun h=>?_⟩
 ·have h:(aY s).2≠0:=by simpa using h
  simp[h,jE.none]
 have h:(aY s).2=0:=by simpa using h
 simp only[h,ne_eq,not_true_eq_false,if_false]
 generalize hz:eF (aY s).1=z at p2
 obtain⟨c,e⟩:=z
 simp only at p2
 (refine ae p2 ?_;simp only[ad,↓Xn,↓Xo,↓Xg,↓Xd,↓Xe,↓Xf,Tryz.VΓ,Tryz.Γs,Xp,Xi,Nat.reduceAdd,Nat.reduceSub,Nat.reduceLT,Nat.reduceLeDiff,reduceIte,reduceCtorEq,Nat.reduceEqDiff,implies_true,forall_const,aa,beq_self_eq_true,bne_self_eq_false,Int.reduceBEq,Int.reduceBNe,Int.reduceLT,Int.reduceLE])
 refine⟨fun h=>?_,fun h=>?_⟩
 ·have h:e≠0:=by simpa using h
  simp[qJ,h,jE.none]
 obtain rfl:e=0:=by simpa using h
 have p3:=tp c (qH hz)
 have p4:=ga c (qH hz)
 unfold fj at p3 p4
 have ha:=E9 hz
 rw[ha]at p3
 (refine ae (p3) ?_;simp only[ad,↓Xn,↓Xo,↓Xg,↓Xd,↓Xe,↓Xf,Tryz.VΓ,Tryz.Γs,Xp,Xi,Nat.reduceAdd,Nat.reduceSub,Nat.reduceLT,Nat.reduceLeDiff,reduceIte,reduceCtorEq,Nat.reduceEqDiff,implies_true,forall_const,aa,beq_self_eq_true,bne_self_eq_false,Int.reduceBEq,Int.reduceBNe,Int.reduceLT,Int.reduceLE])
 (refine aU (p4) ?_;simp only[ad,↓Xn,↓Xo,↓Xg,↓Xd,↓Xe,↓Xf,Tryz.VΓ,Tryz.Γs,Xp,Xi,Nat.reduceAdd,Nat.reduceSub,Nat.reduceLT,Nat.reduceLeDiff,reduceIte,reduceCtorEq,Nat.reduceEqDiff,implies_true,forall_const,aa,beq_self_eq_true,bne_self_eq_false,Int.reduceBEq,Int.reduceBNe,Int.reduceLT,Int.reduceLE])
 exact⟨(aq (by kernel_rfl)),by simp[qJ,ha]⟩
theorem zC (a b:jE):(a.kind==b.kind&&(a.text==b.text&&(a.host==b.host&&a.port==b.port)))=decide (a=b):=by
 obtain⟨a1,a2,a3,a4⟩:=a
 obtain⟨b1,b2,b3,b4⟩:=b
 rw[Bool.eq_iff_iff]
 simp
theorem DN (hp:∀ s,PC Tryz.V 44 [.str s] (.eS [ix (bK s).1,.int .i64 (bK s).2]))(i:jE):PC Tryz.V 28 [ix i] (.bool (cO i)):=by
 have p1:=hp i.text
 unfold ix at p1
 (refine aQ 3000 Tryz.func28 rfl Tryz.ntmps28 Tryz.results28 Tryz.call28 (by simp) (by simp[flat,flat.ai,ix]) (by simp[flat,flat.ai,ix]) ?_)
 unfold ix
 simp only[ad,↓Xn,↓Xo,↓Xg,↓Xd,↓Xe,↓Xf,Tryz.VΓ,Tryz.Γs,Xp,Xi,Nat.reduceAdd,Nat.reduceSub,Nat.reduceLT,Nat.reduceLeDiff,reduceIte,reduceCtorEq,Nat.reduceEqDiff,implies_true,forall_const,aa]
 (refine ae p1 ?_;simp only[ad,↓Xn,↓Xo,↓Xg,↓Xd,↓Xe,↓Xf,Tryz.VΓ,Tryz.Γs,Xp,Xi,Nat.reduceAdd,Nat.reduceSub,Nat.reduceLT,Nat.reduceLeDiff,reduceIte,reduceCtorEq,Nat.reduceEqDiff,implies_true,forall_const,aa,zC])
 unfold cO
 refine⟨fun h=>?_,fun h=>?_⟩
 ·have h:(bK i.text).2=0:=by simpa using h
  simp[Prod.ext_iff,h]
 ·have h:¬ (bK i.text).2=0:=by simpa using h
  simp[Prod.ext_iff,h]
theorem Bi (hp:∀ s,PC Tryz.V 32 [.str s] (.eS [ix (bK s).1,.int .i64 (bK s).2]))(i:jE):PC Tryz.V 45 [ix i] (.bool (cO i)):=by
 have p1:=hp i.text
 unfold ix at p1
 (refine aQ 3000 Tryz.func45 rfl Tryz.ntmps45 Tryz.results45 Tryz.call45 (by simp) (by simp[flat,flat.ai,ix]) (by simp[flat,flat.ai,ix]) ?_)
 unfold ix
 simp only[ad,↓Xn,↓Xo,↓Xg,↓Xd,↓Xe,↓Xf,Tryz.VΓ,Tryz.Γs,Xp,Xi,Nat.reduceAdd,Nat.reduceSub,Nat.reduceLT,Nat.reduceLeDiff,reduceIte,reduceCtorEq,Nat.reduceEqDiff,implies_true,forall_const,aa]
 (refine ae p1 ?_;simp only[ad,↓Xn,↓Xo,↓Xg,↓Xd,↓Xe,↓Xf,Tryz.VΓ,Tryz.Γs,Xp,Xi,Nat.reduceAdd,Nat.reduceSub,Nat.reduceLT,Nat.reduceLeDiff,reduceIte,reduceCtorEq,Nat.reduceEqDiff,implies_true,forall_const,aa,zC])
 unfold cO
 refine⟨fun h=>?_,fun h=>?_⟩
 ·have h:(bK i.text).2=0:=by simpa using h
  simp[Prod.ext_iff,h]
 ·have h:¬ (bK i.text).2=0:=by simpa using h
  simp[Prod.ext_iff,h]
theorem sI (s:Bytes):PC Tryz.V 32 [.str s] (.eS [ix (bK s).1,.int .i64 (bK s).2]):=by
 (refine aQ 3000 Tryz.func32 rfl Tryz.ntmps32 Tryz.results32 Tryz.call32 (by simp) (by simp[flat,flat.ai,ix]) (by simp[flat,flat.ai,ix]) ?_)
 unfold ix
 simp only[ad,↓Xn,↓Xo,↓Xg,↓Xd,↓Xe,↓Xf,Tryz.VΓ,Tryz.Γs,Xp,Xi,Nat.reduceAdd,Nat.reduceSub,Nat.reduceLT,Nat.reduceLeDiff,reduceIte,reduceCtorEq,Nat.reduceEqDiff,implies_true,forall_const,aa]
 refine⟨fun h=>?_,fun h=>?_⟩
 ·have h:4096<s.length:=by simp at h;omega
  simp[bK,h,jE.none]
 have h:s.length≤4096:=by simp at h;omega
 have h0:¬ 4096<s.length:=by omega
 have dK:pre (fun x=>[58].contains x) s=pre (·==58) s:=by congr 1;funext x;simp only[List.contains_cons,List.contains_nil,Bool.or_false]
 (refine ae (bl s [58] (by omega) (by decide)) ?_;simp only[ad,↓Xn,↓Xo,↓Xg,↓Xd,↓Xe,↓Xf,Tryz.VΓ,Tryz.Γs,Xp,Xi,Nat.reduceAdd,Nat.reduceSub,Nat.reduceLT,Nat.reduceLeDiff,reduceIte,reduceCtorEq,Nat.reduceEqDiff,implies_true,forall_const,aa])
 rw[dK]
 have hle:=cx (·==(58:UInt8)) s
 refine⟨fun h1=>?_,fun h1=>⟨⟨by omega,by omega⟩,?_⟩⟩
 ·have h1:pre (·==58) s=s.length:=by simp at h1;omega
  simp[bK,h0,aL,h1,jE.none]
 have h1:¬ pre (·==58) s=s.length:=by simp at h1;omega
 have hid:bK s=nR (lower (s.take (pre (·==58) s))) s:=by
  unfold bK aL
  rw[if_neg h0,if_pos (show pre (·==58) s<s.length by omega)]
  rfl
 rw[hid]
 (refine ae (pF (s.take (pre (·==58) s)) (by simp;omega)) ?_;simp only[ad,↓Xn,↓Xo,↓Xg,↓Xd,↓Xe,↓Xf,Tryz.VΓ,Tryz.Γs,Xp,Xi,Nat.reduceAdd,Nat.reduceSub,Nat.reduceLT,Nat.reduceLeDiff,reduceIte,reduceCtorEq,Nat.reduceEqDiff,implies_true,forall_const,aa])
 generalize lower (s.take (pre (·==58) s))=sch
 clear hid h1 hle dK
 refine⟨fun k1=>?_,fun k1=>⟨fun k2=>?_,fun k2=>⟨fun k3=>?_,fun k3=>⟨fun k4=>?_,fun k4=>?_⟩⟩⟩⟩
 ·rw[show nR sch s=jN s by simp at k1;simp[nR,qI,k1]]
  have p1:=DG s
  have p2:=fun h=>Bd (bO s).1 (E8 s h)
  unfold jN
  unfold FK at p1 p2
  (refine ae p1 ?_;simp only[ad,↓Xn,↓Xo,↓Xg,↓Xd,↓Xe,↓Xf,Tryz.VΓ,Tryz.Γs,Xp,Xi,Nat.reduceAdd,Nat.reduceSub,Nat.reduceLT,Nat.reduceLeDiff,reduceIte,reduceCtorEq,Nat.reduceEqDiff,implies_true,forall_const,aa,beq_self_eq_true,bne_self_eq_false,Int.reduceBEq,Int.reduceBNe,Int.reduceLT,Int.reduceLE])
  refine⟨fun h=>?_,fun h=>?_⟩
  ·have h:(bO s).2≠0:=by simpa using h
   simp[h,jE.none]
  ·have h:(bO s).2=0:=by simpa using h
   (refine aU (p2 h) ?_;simp only[ad,↓Xn,↓Xo,↓Xg,↓Xd,↓Xe,↓Xf,Tryz.VΓ,Tryz.Γs,Xp,Xi,Nat.reduceAdd,Nat.reduceSub,Nat.reduceLT,Nat.reduceLeDiff,reduceIte,reduceCtorEq,Nat.reduceEqDiff,implies_true,forall_const,aa,beq_self_eq_true,bne_self_eq_false,Int.reduceBEq,Int.reduceBNe,Int.reduceLT,Int.reduceLE])
   simp only[h]
   exact⟨(aq (by kernel_rfl)),by simp⟩
 ·rw[show nR sch s=jM s by simp at k1 k2;simp[nR,qI,rR,k2]]
  have p1:=DE s
  have p2:=fun h=>Bc (bT s).1 (BW s h)
  unfold jM
  unfold E2 at p1 p2
  (refine ae p1 ?_;simp only[ad,↓Xn,↓Xo,↓Xg,↓Xd,↓Xe,↓Xf,Tryz.VΓ,Tryz.Γs,Xp,Xi,Nat.reduceAdd,Nat.reduceSub,Nat.reduceLT,Nat.reduceLeDiff,reduceIte,reduceCtorEq,Nat.reduceEqDiff,implies_true,forall_const,aa,beq_self_eq_true,bne_self_eq_false,Int.reduceBEq,Int.reduceBNe,Int.reduceLT,Int.reduceLE])
  refine⟨fun h=>?_,fun h=>?_⟩
  ·have h:(bT s).2≠0:=by simpa using h
   simp[h,jE.none]
  ·have h:(bT s).2=0:=by simpa using h
   (refine aU (p2 h) ?_;simp only[ad,↓Xn,↓Xo,↓Xg,↓Xd,↓Xe,↓Xf,Tryz.VΓ,Tryz.Γs,Xp,Xi,Nat.reduceAdd,Nat.reduceSub,Nat.reduceLT,Nat.reduceLeDiff,reduceIte,reduceCtorEq,Nat.reduceEqDiff,implies_true,forall_const,aa,beq_self_eq_true,bne_self_eq_false,Int.reduceBEq,Int.reduceBNe,Int.reduceLT,Int.reduceLE])
   simp only[h]
   exact⟨(aq (by kernel_rfl)),by simp⟩
 ·rw[show nR sch s=lh s by simp at k1 k2 k3;simp[nR,qI,rR,dj,k3]]
  have p1:=Gg s
  unfold ix at p1
  (refine ae p1 ?_;simp only[ad,↓Xn,↓Xo,↓Xg,↓Xd,↓Xe,↓Xf,Tryz.VΓ,Tryz.Γs,Xp,Xi,Nat.reduceAdd,Nat.reduceSub,Nat.reduceLT,Nat.reduceLeDiff,reduceIte,reduceCtorEq,Nat.reduceEqDiff,implies_true,forall_const,aa,beq_self_eq_true,bne_self_eq_false,Int.reduceBEq,Int.reduceBNe,Int.reduceLT,Int.reduceLE])
  try done
 ·rw[show nR sch s=lj s by simp at k1 k2 k3 k4;simp[nR,qI,rR,ve,dj,k4]]
  have p1:=tm s
  unfold ix at p1
  (refine ae p1 ?_;simp only[ad,↓Xn,↓Xo,↓Xg,↓Xd,↓Xe,↓Xf,Tryz.VΓ,Tryz.Γs,Xp,Xi,Nat.reduceAdd,Nat.reduceSub,Nat.reduceLT,Nat.reduceLeDiff,reduceIte,reduceCtorEq,Nat.reduceEqDiff,implies_true,forall_const,aa,beq_self_eq_true,bne_self_eq_false,Int.reduceBEq,Int.reduceBNe,Int.reduceLT,Int.reduceLE])
  try done
 ·rw[show nR sch s=(jE.none,60) by simp at k1 k2 k3 k4;simp[nR,qI,rR,ve,dj,k1,k2,k3,k4]]
  rfl
open Go Go.RowKit Go.Sort Wf
attribute [local go_sem] fJ eQ get_list
def idEs:Array MapEntry:=#[{ key:=.string ⟨#[97,99,99,116]⟩,val:=.func (.func 86) #[] #[],born:=0 },{ key:=.string ⟨#[109,97,105,108,116,111]⟩,val:=.func (.func 87) #[] #[],born:=1 },{ key:=.string ⟨#[104,116,116,112,115]⟩,val:=.func (.func 88) #[] #[],born:=2 },{ key:=.string ⟨#[100,105,100]⟩,val:=.func (.func 89) #[] #[],born:=3 }]
theorem run_upd {P:Program}{t kt et:TypeId}{w:World}{es:Array MapEntry}{c b:Nat}{k:ByteArray}{v:Value}(ht:P.underlying t=some (.map kt et))(hk:P.underlying kt=some .string)(hb:w.heap[b]? = some (.map es c))(h:Instr.findNow .string (.string k) es.toList 0=some none) :
 (Instr.mapUpdate t (.map (some b)) (.string k) v).run P w=.ok () { w with heap:=w.heap.setIfInBounds b (.map (es.push { key:=.string k,val:=v,born:=c }) (c+1)) }:=by
 have hc:(Instr.checkKey false 10000 kt (.string k)).run P w=.ok () w:=MapKept.run_checkKey (k:=.string k) hk (by simp[MapKept.IsKey]) false 9999
 simp[Instr.mapUpdate,run_underlying ht,MapKept.run_getObj_map hb,hc,MapKept.run_findKey hk h,MapKept.run_setObj_map _ hb,Result.andThen]
theorem ki {P:Program}{t kt et:TypeId}(w:World)(es:Array MapEntry)(c:Nat)(k:ByteArray)(v:Value)(ht:P.underlying t=some (.map kt et))(hk:P.underlying kt=some .string)(h:Instr.findNow .string (.string k) es.toList 0=some none) :
 (Instr.mapUpdate t (.map (some w.heap.size)) (.string k) v).run P (w.alloc (.map es c))=.ok () (w.alloc (.map (es.push { key:=.string k,val:=v,born:=c }) (c+1))):=by
 have h1:(w.alloc (.map es c)).heap=w.heap.push (.map es c):=rfl
 rw[run_upd ht hk (w:=w.alloc (.map es c)) (es:=es) (c:=c) (by rw[h1];simp) h,h1]
 have h2:(w.heap.push (.map es c)).setIfInBounds w.heap.size (.map (es.push { key:=.string k,val:=v,born:=c }) (c+1))=w.heap.push (.map (es.push { key:=.string k,val:=v,born:=c }) (c+1)):=by
  apply Array.toList_inj.1
  simp
 rw[h2]
 rfl
def sM (z:Value):Option (Nat × Value)→Value
 | some p=>p.2
 | none=>z
theorem H8 {P:Program}{t kt et:TypeId}{w:World}{es:Array MapEntry}{c b:Nat}{k:ByteArray}{r:Option (Nat × Value)}{z:Value}(ht:P.underlying t=some (.map kt et))(hk:P.underlying kt=some .string)(hb:w.heap[b]? = some (.map es c))(h:Instr.findNow .string (.string k) es.toList 0=some r)(hz:(zeroValue et).run P w=.ok z w) :
 (Instr.lookup t (.map (some b)) (.string k) false).run P w=.ok (sM z r) w:=by
 have hc:∀ e,(Instr.checkKey e 10000 kt (.string k)).run P w=.ok () w:=fun e=>MapKept.run_checkKey (k:=.string k) hk (by simp[MapKept.IsKey]) e 9999
 cases r with
 | none=>simp[Instr.lookup,run_underlying ht,MapKept.run_getObj_map hb,hc,MapKept.run_findKey hk h,Result.andThen,hz,sM]
 | some p=>simp[Instr.lookup,run_underlying ht,MapKept.run_getObj_map hb,hc,MapKept.run_findKey hk h,Result.andThen,sM]
set_option maxRecDepth 100000 in
theorem vd (w:World) :
 Calls Tryz.prog 65 #[] w fun e w'=>e=.returned (.map (some w.heap.size))∧w'=w.alloc (.map idEs 4):=by
 have jj:=@run_makeMap Tryz.prog
 have h1:(Instr.mapUpdate 108 (.map (some w.heap.size)) (.string ⟨#[97,99,99,116]⟩) (.func (.func 86) #[] #[])).run Tryz.prog (w.alloc (.map #[] 0))=.ok () (w.alloc (.map #[{ key:=.string ⟨#[97,99,99,116]⟩,val:=.func (.func 86) #[] #[],born:=0 }] 1)):=ki (kt:=9) (et:=107) w #[] 0 ⟨#[97,99,99,116]⟩ (.func (.func 86) #[] #[]) rfl rfl rfl
 have h2:(Instr.mapUpdate 108 (.map (some w.heap.size)) (.string ⟨#[109,97,105,108,116,111]⟩) (.func (.func 87) #[] #[])).run Tryz.prog (w.alloc (.map #[{ key:=.string ⟨#[97,99,99,116]⟩,val:=.func (.func 86) #[] #[],born:=0 }] 1))=.ok () (w.alloc (.map #[{ key:=.string ⟨#[97,99,99,116]⟩,val:=.func (.func 86) #[] #[],born:=0 },{ key:=.string ⟨#[109,97,105,108,116,111]⟩,val:=.func (.func 87) #[] #[],born:=1 }] 2)):=ki (kt:=9) (et:=107) w #[{ key:=.string ⟨#[97,99,99,116]⟩,val:=.func (.func 86) #[] #[],born:=0 }] 1 ⟨#[109,97,105,108,116,111]⟩ (.func (.func 87) #[] #[]) rfl rfl rfl
 have h3:(Instr.mapUpdate 108 (.map (some w.heap.size)) (.string ⟨#[104,116,116,112,115]⟩) (.func (.func 88) #[] #[])).run Tryz.prog (w.alloc (.map #[{ key:=.string ⟨#[97,99,99,116]⟩,val:=.func (.func 86) #[] #[],born:=0 },{ key:=.string ⟨#[109,97,105,108,116,111]⟩,val:=.func (.func 87) #[] #[],born:=1 }] 2))=.ok () (w.alloc (.map #[{ key:=.string ⟨#[97,99,99,116]⟩,val:=.func (.func 86) #[] #[],born:=0 },{ key:=.string ⟨#[109,97,105,108,116,111]⟩,val:=.func (.func 87) #[] #[],born:=1 },{ key:=.string ⟨#[104,116,116,112,115]⟩,val:=.func (.func 88) #[] #[],born:=2 }] 3)):=ki (kt:=9) (et:=107) w #[{ key:=.string ⟨#[97,99,99,116]⟩,val:=.func (.func 86) #[] #[],born:=0 },{ key:=.string ⟨#[109,97,105,108,116,111]⟩,val:=.func (.func 87) #[] #[],born:=1 }] 2 ⟨#[104,116,116,112,115]⟩ (.func (.func 88) #[] #[]) rfl rfl rfl
 have h4:(Instr.mapUpdate 108 (.map (some w.heap.size)) (.string ⟨#[100,105,100]⟩) (.func (.func 89) #[] #[])).run Tryz.prog (w.alloc (.map #[{ key:=.string ⟨#[97,99,99,116]⟩,val:=.func (.func 86) #[] #[],born:=0 },{ key:=.string ⟨#[109,97,105,108,116,111]⟩,val:=.func (.func 87) #[] #[],born:=1 },{ key:=.string ⟨#[104,116,116,112,115]⟩,val:=.func (.func 88) #[] #[],born:=2 }] 3))=.ok () (w.alloc (.map #[{ key:=.string ⟨#[97,99,99,116]⟩,val:=.func (.func 86) #[] #[],born:=0 },{ key:=.string ⟨#[109,97,105,108,116,111]⟩,val:=.func (.func 87) #[] #[],born:=1 },{ key:=.string ⟨#[104,116,116,112,115]⟩,val:=.func (.func 88) #[] #[],born:=2 },{ key:=.string ⟨#[100,105,100]⟩,val:=.func (.func 89) #[] #[],born:=3 }] 4)):=ki (kt:=9) (et:=107) w #[{ key:=.string ⟨#[97,99,99,116]⟩,val:=.func (.func 86) #[] #[],born:=0 },{ key:=.string ⟨#[109,97,105,108,116,111]⟩,val:=.func (.func 87) #[] #[],born:=1 },{ key:=.string ⟨#[104,116,116,112,115]⟩,val:=.func (.func 88) #[] #[],born:=2 }] 3 ⟨#[100,105,100]⟩ (.func (.func 89) #[] #[]) rfl rfl rfl
 go_enter Tryz.func65,Tryz.ntmps65
 go_wp2_with fail
 go_ret
 exact⟨rfl,rfl⟩
open Go Go.RowKit Go.Sort Wf
attribute [local go_sem] fJ eQ get_list
def yd (i:jE):Value:=.agg #[.int .i64 i.kind,(Value.string ⟨zMX (i.text)⟩),(Value.string ⟨zMX (i.host)⟩),.int .i64 i.port]
theorem Gq (sch:Bytes):∃ r:Option (Nat × Value),Instr.findNow .string (.string ⟨zMX sch⟩) idEs.toList 0=some r ∧
 ((∃ i,sch=qI∧r=some (i,.func (.func 86) #[] #[]))∨(∃ i,sch=rR∧r=some (i,.func (.func 87) #[] #[]))∨(∃ i,sch=dj∧r=some (i,.func (.func 88) #[] #[]))∨(∃ i,sch=ve∧r=some (i,.func (.func 89) #[] #[]))∨(sch≠qI∧sch≠rR∧sch≠dj∧sch≠ve∧r=none)):=by
 by_cases h1:sch=qI
 ·subst h1;exact⟨_,rfl,.inl ⟨_,rfl,rfl⟩⟩
 by_cases h2:sch=rR
 ·subst h2;exact⟨_,rfl,.inr (.inl ⟨_,rfl,rfl⟩)⟩
 by_cases h3:sch=dj
 ·subst h3;exact⟨_,rfl,.inr (.inr (.inl ⟨_,rfl,rfl⟩))⟩
 by_cases h4:sch=ve
 ·subst h4;exact⟨_,rfl,.inr (.inr (.inr (.inl ⟨_,rfl,rfl⟩)))⟩
 refine⟨none,?_,.inr (.inr (.inr (.inr ⟨h1,h2,h3,h4,rfl⟩)))⟩
 have e:∀ k:Bytes,sch≠k→((⟨zMX sch⟩:ByteArray)==⟨zMX k⟩)=false:=by
  intro k hk
  show ((zMX sch)==(zMX k))=false
  rw[beq_eq_false_iff_ne]
  intro h
  exact hk (by simpa using h)
 have e1:=e _ h1
 have e2:=e _ h2
 have e3:=e _ h3
 have e4:=e _ h4
 simp only[qI,rR,dj,ve]at e1 e2 e3 e4
 simp[idEs,Instr.findNow,Instr.sameNow,e1,e2,e3,e4]
theorem gy {w w':World}{b:Nat}{o:Obj}(h:w.heap[b]? = some o)(hb:Below w.heap.size w w'):w'.heap[b]? = some o:=(hb.block _ (bQ h)).trans h
set_option maxRecDepth 100000 in
theorem IS (s:Bytes)(w:World)(hE:Tryz.V.E w) :
 Calls Tryz.prog 44 #[(Value.string ⟨zMX (s)⟩)] w fun e w'=>e=.returned (.tuple #[yd (bK s).1,.int .i64 (bK s).2])∧Below w.heap.size w w':=by
 have hct:∀ w,Tryz.V.E w→s.length<4294967281→Calls Tryz.prog 64 #[(Value.string ⟨zMX (s)⟩),(Value.string ⟨zMX ([58])⟩)] w fun e w'=>e=.returned (.tuple #[(Value.string ⟨zMX ((aL 58 s).1)⟩),(Value.string ⟨zMX ((aL 58 s).2.1)⟩),.bool (aL 58 s).2.2])∧Below w.heap.size w w' :=
  fun w hE hs=>by have h:=Vc.PC.calls (uD s 58 hs) w hE;simp[Vc.ah,Vc.aG]at h;exact h
 have Hi:∀ w,Tryz.V.E w→s.length≤4096→Calls Tryz.prog 66 #[(Value.string ⟨zMX ((aL 58 s).1)⟩)] w fun e w'=>e=.returned (Value.string ⟨zMX (lower (aL 58 s).1)⟩)∧Below w.heap.size w w' :=
  fun w hE hs=>by have h:=Vc.PC.calls (zn (aL 58 s).1 (by have:=eg 58 s;omega)) w hE;simp[Vc.ah,Vc.aG]at h;exact h
 have Hlo:=hid Hi
 clear Hi
 have ha:=cC w (.cells #[.int .i64 0,(Value.string ⟨zMX ([])⟩),(Value.string ⟨zMX ([])⟩),.int .i64 0] 36)
 have zL:Below w.heap.size w (w.alloc (.cells #[.int .i64 0,(Value.string ⟨zMX ([])⟩),(Value.string ⟨zMX ([])⟩),.int .i64 0] 36)):=(Below.refl _ _).alloc (Nat.le_refl _) _
 generalize Fb:w.alloc (.cells #[.int .i64 0,(Value.string ⟨zMX ([])⟩),(Value.string ⟨zMX ([])⟩),.int .i64 0] 36)=wa at ha zL
 have Ha:=hid ha
 have Hba:=hid zL
 have Hwa:=hid Fb
 have Hct:=hid hct
 clear ha zL Fb hct
 by_cases hl:4096<s.length
 ·have hx:decide ((4096:Int)<s.length)=true:=decide_eq_true (by omega)
  go_enter Tryz.func44,Tryz.ntmps44
  go_wp2_with fail
  rw[Hwa.out]
  have aB:=bQ Ha.out
  have c0:=Lib.cell_of_heap Ha.out 0
  have c1:=Lib.cell_of_heap Ha.out 1
  have c2:=Lib.cell_of_heap Ha.out 2
  have c3:=Lib.cell_of_heap Ha.out 3
  refine bodyPost_ret (v:=.tuple #[.agg #[.int .i64 0,(Value.string ⟨zMX ([])⟩),(Value.string ⟨zMX ([])⟩),.int .i64 0],.int .i64 5]) (by simp[results,Tryz.results44,go_sem,c0,c1,c2,c3,aB]) rfl ⟨?_,Hba.out⟩
  simp[bK,hl,yd,jE.none]
 ·have hx:decide ((4096:Int)<s.length)=false:=decide_eq_false (by omega)
  go_enter Tryz.func44,Tryz.ntmps44
  go_wp2_with fail
  rw[Hwa.out]
  refine(Hct.out _ (Tryz.V.oa _ _ hE (fun k hk=>Hba.out.block _ (zNd hk (Tryz.V.oZ _ hE))) Hba.out.size) (by omega)).mono ?_
  rintro e w1 ⟨rfl,fH⟩
  have Ha1:=hid (gy Ha.out fH)
  have Hw1:=hid (bo Hba.out fH)
  clear fH
  go_wp2_with fail
  refine(vd w1).mono ?_
  rintro e w2 ⟨rfl,eD⟩
  have lA:Below w1.heap.size w1 w2:=by rw[eD];exact(Below.refl _ _).alloc (Nat.le_refl _) _
  have Hm2:Hid (w2.heap[w1.heap.size]? = some (.map idEs 4)):=hid (by rw[eD];exact cC w1 _)
  have Ha2:=hid (gy Ha1.out lA)
  have Hw2:=hid (bo Hw1.out lA)
  generalize w1.heap.size=mb at Hm2 ⊢
  clear eD lA Hw1 Ha1
  go_wp2_with fail
  refine(Hlo.out _ (Tryz.V.oa _ _ hE (fun k hk=>Hw2.out.block _ (zNd hk (Tryz.V.oZ _ hE))) Hw2.out.size) (by omega)).mono ?_
  rintro e w3 ⟨rfl,wV⟩
  have Hm3:=hid (gy Hm2.out wV)
  have Ha3:=hid (gy Ha2.out wV)
  have Hw3:=hid (bo Hw2.out wV)
  clear wV Hw2 Ha2 Hm2
  obtain⟨r,hr,hcase⟩:=Gq (lower (aL 58 s).1)
  have bL:=H8 (P:=Tryz.prog) (t:=108) (kt:=9) (et:=107) (z:=.nilFunc) rfl rfl Hm3.out hr rfl
  clear hr Hm3 Hlo Hct
  have aB:=bQ Ha3.out
  have c0:=Lib.cell_of_heap Ha3.out 0
  have c1:=Lib.cell_of_heap Ha3.out 1
  have c2:=Lib.cell_of_heap Ha3.out 2
  have c3:=Lib.cell_of_heap Ha3.out 3
  have z0:=Lib.frozen_of_heap Ha3.out 0
  have z1:=Lib.frozen_of_heap Ha3.out 1
  have z2:=Lib.frozen_of_heap Ha3.out 2
  have z3:=Lib.frozen_of_heap Ha3.out 3
  cases bZ:(aL 58 s).2.2
  ·go_wp2_with fail
   refine bodyPost_ret (v:=.tuple #[.agg #[.int .i64 0,(Value.string ⟨zMX ([])⟩),(Value.string ⟨zMX ([])⟩),.int .i64 0],.int .i64 60]) (by simp[results,Tryz.results44,go_sem,c0,c1,c2,c3,aB]) rfl ⟨?_,?_⟩
   ·simp[bK,hl,bZ,yd,jE.none]
   ·repeat (first|exact Hw3.out | (refine Below.setCell (p:=⟨_,_,none⟩) ?_ (by have:=Hw3.out;have:=this.size;simp <;> omega) _) | (refine Below.alloc ?_ (by have:=Hw3.out;have:=this.size;simp <;> omega) _) | refine Below.drew ?_)
  ·rcases hcase with⟨i,hs,rfl⟩|⟨i,hs,rfl⟩|⟨i,hs,rfl⟩|⟨i,hs,rfl⟩|⟨n1,n2,n3,n4,rfl⟩
   ·simp only[sM]at bL
    have Hid0:Hid (bK s=jN s):=hid (by simp[bK,hl,bZ,nR,hs,qI,rR,ve,dj])
    have Hc:Hid (Calls Tryz.prog 86 #[(Value.string ⟨zMX (s)⟩)] w3 fun e w'=>e=.returned (.tuple #[yd (jN s).1,.int .i64 (jN s).2])∧Below w3.heap.size w3 w'):=hid (by
     have h:=Vc.PC.calls (Bn s) w3 (Tryz.V.oa _ _ hE (fun k hk=>Hw3.out.block _ (zNd hk (Tryz.V.oZ _ hE))) Hw3.out.size)
     simp[Vc.ah,Vc.aG,ix]at h;exact h)
    clear hs
    have heq:(binOp BinOp.eql 107 (Value.func (Fn.func 86) #[] #[]) Value.nilFunc).run Tryz.prog w3=.ok (.bool false) w3:=rfl
    go_wp2_with fail
    refine Hc.out.mono ?_
    rintro e w4 ⟨rfl,D7⟩
    have Ha4:=hid (gy Ha3.out D7)
    have Hw4:=hid (bo Hw3.out D7)
    clear D7 c0 c1 c2 c3 z0 z1 z2 z3 aB heq bL
    have aB:=bQ Ha4.out
    have c0:=Lib.cell_of_heap Ha4.out 0
    have c1:=Lib.cell_of_heap Ha4.out 1
    have c2:=Lib.cell_of_heap Ha4.out 2
    have c3:=Lib.cell_of_heap Ha4.out 3
    have z0:=Lib.frozen_of_heap Ha4.out 0
    have z1:=Lib.frozen_of_heap Ha4.out 1
    have z2:=Lib.frozen_of_heap Ha4.out 2
    have z3:=Lib.frozen_of_heap Ha4.out 3
    unfold yd
    go_wp2_with fail
    refine bodyPost_ret (v:=.tuple #[yd (jN s).1,.int .i64 (jN s).2]) (by simp[results,Tryz.results44,go_sem,c0,c1,c2,c3,aB,yd]) rfl ⟨?_,?_⟩
    ·rw[Hid0.out]
    ·repeat (first|exact Hw4.out | (refine Below.setCell (p:=⟨_,_,none⟩) ?_ (by have:=Hw4.out;have:=this.size;simp <;> omega) _) | (refine Below.alloc ?_ (by have:=Hw4.out;have:=this.size;simp <;> omega) _) | refine Below.drew ?_)
   ·simp only[sM]at bL
    have Hid0:Hid (bK s=jM s):=hid (by simp[bK,hl,bZ,nR,hs,qI,rR,ve,dj])
    have Hc:Hid (Calls Tryz.prog 87 #[(Value.string ⟨zMX (s)⟩)] w3 fun e w'=>e=.returned (.tuple #[yd (jM s).1,.int .i64 (jM s).2])∧Below w3.heap.size w3 w'):=hid (by
     have h:=Vc.PC.calls (Bm s) w3 (Tryz.V.oa _ _ hE (fun k hk=>Hw3.out.block _ (zNd hk (Tryz.V.oZ _ hE))) Hw3.out.size)
     simp[Vc.ah,Vc.aG,ix]at h;exact h)
    clear hs
    have heq:(binOp BinOp.eql 107 (Value.func (Fn.func 87) #[] #[]) Value.nilFunc).run Tryz.prog w3=.ok (.bool false) w3:=rfl
    go_wp2_with fail
    refine Hc.out.mono ?_
    rintro e w4 ⟨rfl,D7⟩
    have Ha4:=hid (gy Ha3.out D7)
    have Hw4:=hid (bo Hw3.out D7)
    clear D7 c0 c1 c2 c3 z0 z1 z2 z3 aB heq bL
    have aB:=bQ Ha4.out
    have c0:=Lib.cell_of_heap Ha4.out 0
    have c1:=Lib.cell_of_heap Ha4.out 1
    have c2:=Lib.cell_of_heap Ha4.out 2
    have c3:=Lib.cell_of_heap Ha4.out 3
    have z0:=Lib.frozen_of_heap Ha4.out 0
    have z1:=Lib.frozen_of_heap Ha4.out 1
    have z2:=Lib.frozen_of_heap Ha4.out 2
    have z3:=Lib.frozen_of_heap Ha4.out 3
    unfold yd
    go_wp2_with fail
    refine bodyPost_ret (v:=.tuple #[yd (jM s).1,.int .i64 (jM s).2]) (by simp[results,Tryz.results44,go_sem,c0,c1,c2,c3,aB,yd]) rfl ⟨?_,?_⟩
    ·rw[Hid0.out]
    ·repeat (first|exact Hw4.out | (refine Below.setCell (p:=⟨_,_,none⟩) ?_ (by have:=Hw4.out;have:=this.size;simp <;> omega) _) | (refine Below.alloc ?_ (by have:=Hw4.out;have:=this.size;simp <;> omega) _) | refine Below.drew ?_)
   ·simp only[sM]at bL
    have Hid0:Hid (bK s=lh s):=hid (by simp[bK,hl,bZ,nR,hs,qI,rR,ve,dj])
    have Hc:Hid (Calls Tryz.prog 88 #[(Value.string ⟨zMX (s)⟩)] w3 fun e w'=>e=.returned (.tuple #[yd (lh s).1,.int .i64 (lh s).2])∧Below w3.heap.size w3 w'):=hid (by
     have h:=Vc.PC.calls (DL s) w3 (Tryz.V.oa _ _ hE (fun k hk=>Hw3.out.block _ (zNd hk (Tryz.V.oZ _ hE))) Hw3.out.size)
     simp[Vc.ah,Vc.aG,ix]at h;exact h)
    clear hs
    have heq:(binOp BinOp.eql 107 (Value.func (Fn.func 88) #[] #[]) Value.nilFunc).run Tryz.prog w3=.ok (.bool false) w3:=rfl
    go_wp2_with fail
    refine Hc.out.mono ?_
    rintro e w4 ⟨rfl,D7⟩
    have Ha4:=hid (gy Ha3.out D7)
    have Hw4:=hid (bo Hw3.out D7)
    clear D7 c0 c1 c2 c3 z0 z1 z2 z3 aB heq bL
    have aB:=bQ Ha4.out
    have c0:=Lib.cell_of_heap Ha4.out 0
    have c1:=Lib.cell_of_heap Ha4.out 1
    have c2:=Lib.cell_of_heap Ha4.out 2
    have c3:=Lib.cell_of_heap Ha4.out 3
    have z0:=Lib.frozen_of_heap Ha4.out 0
    have z1:=Lib.frozen_of_heap Ha4.out 1
    have z2:=Lib.frozen_of_heap Ha4.out 2
    have z3:=Lib.frozen_of_heap Ha4.out 3
    unfold yd
    go_wp2_with fail
    refine bodyPost_ret (v:=.tuple #[yd (lh s).1,.int .i64 (lh s).2]) (by simp[results,Tryz.results44,go_sem,c0,c1,c2,c3,aB,yd]) rfl ⟨?_,?_⟩
    ·rw[Hid0.out]
    ·repeat (first|exact Hw4.out | (refine Below.setCell (p:=⟨_,_,none⟩) ?_ (by have:=Hw4.out;have:=this.size;simp <;> omega) _) | (refine Below.alloc ?_ (by have:=Hw4.out;have:=this.size;simp <;> omega) _) | refine Below.drew ?_)
   ·simp only[sM]at bL
    have Hid0:Hid (bK s=lj s):=hid (by simp[bK,hl,bZ,nR,hs,qI,rR,ve,dj])
    have Hc:Hid (Calls Tryz.prog 89 #[(Value.string ⟨zMX (s)⟩)] w3 fun e w'=>e=.returned (.tuple #[yd (lj s).1,.int .i64 (lj s).2])∧Below w3.heap.size w3 w'):=hid (by
     have h:=Vc.PC.calls (DM s) w3 (Tryz.V.oa _ _ hE (fun k hk=>Hw3.out.block _ (zNd hk (Tryz.V.oZ _ hE))) Hw3.out.size)
     simp[Vc.ah,Vc.aG,ix]at h;exact h)
    clear hs
    have heq:(binOp BinOp.eql 107 (Value.func (Fn.func 89) #[] #[]) Value.nilFunc).run Tryz.prog w3=.ok (.bool false) w3:=rfl
    go_wp2_with fail
    refine Hc.out.mono ?_
    rintro e w4 ⟨rfl,D7⟩
    have Ha4:=hid (gy Ha3.out D7)
    have Hw4:=hid (bo Hw3.out D7)
    clear D7 c0 c1 c2 c3 z0 z1 z2 z3 aB heq bL
    have aB:=bQ Ha4.out
    have c0:=Lib.cell_of_heap Ha4.out 0
    have c1:=Lib.cell_of_heap Ha4.out 1
    have c2:=Lib.cell_of_heap Ha4.out 2
    have c3:=Lib.cell_of_heap Ha4.out 3
    have z0:=Lib.frozen_of_heap Ha4.out 0
    have z1:=Lib.frozen_of_heap Ha4.out 1
    have z2:=Lib.frozen_of_heap Ha4.out 2
    have z3:=Lib.frozen_of_heap Ha4.out 3
    unfold yd
    go_wp2_with fail
    refine bodyPost_ret (v:=.tuple #[yd (lj s).1,.int .i64 (lj s).2]) (by simp[results,Tryz.results44,go_sem,c0,c1,c2,c3,aB,yd]) rfl ⟨?_,?_⟩
    ·rw[Hid0.out]
    ·repeat (first|exact Hw4.out | (refine Below.setCell (p:=⟨_,_,none⟩) ?_ (by have:=Hw4.out;have:=this.size;simp <;> omega) _) | (refine Below.alloc ?_ (by have:=Hw4.out;have:=this.size;simp <;> omega) _) | refine Below.drew ?_)
   ·simp only[sM]at bL
    have Hid0:Hid (bK s=(jE.none,60)):=hid (by simp[bK,hl,bZ,nR,n1,n2,n3,n4])
    clear n1 n2 n3 n4
    have heq:(binOp BinOp.eql 107 Value.nilFunc Value.nilFunc).run Tryz.prog w3=.ok (.bool true) w3:=rfl
    go_wp2_with fail
    refine bodyPost_ret (v:=.tuple #[.agg #[.int .i64 0,(Value.string ⟨zMX ([])⟩),(Value.string ⟨zMX ([])⟩),.int .i64 0],.int .i64 60]) (by simp[results,Tryz.results44,go_sem,c0,c1,c2,c3,aB]) rfl ⟨?_,?_⟩
    ·rw[Hid0.out];rfl
    ·repeat (first|exact Hw3.out | (refine Below.setCell (p:=⟨_,_,none⟩) ?_ (by have:=Hw3.out;have:=this.size;simp <;> omega) _) | (refine Below.alloc ?_ (by have:=Hw3.out;have:=this.size;simp <;> omega) _) | refine Below.drew ?_)
open Go Vc Go.RowKit Wf
theorem DO (s:Bytes):PC Tryz.V 44 [.str s] (.eS [ix (bK s).1,.int .i64 (bK s).2]) :=
 ⟨Tryz.call44,by simp[flat,flat.ai],by simp[flat,flat.ai,ix],fun w hE=>(IS s w hE).mono fun _ _ ⟨h,k⟩=>⟨by rw[h];simp[ah,aG,ix,yd],k⟩⟩
theorem nD (i:jE):PC Tryz.V 28 [ix i] (.bool (cO i)):=DN DO i
theorem zg (i:jE):PC Tryz.V 45 [ix i] (.bool (cO i)):=Bi sI i
abbrev blt:Bytes→Bytes→Bool:=Op.bytesLess
theorem kD:∀ a:Bytes,blt a a=false
 | []=>rfl
 | x::a=>by simp[blt,Op.bytesLess,kD a,UInt8.lt_irrefl]
theorem gC:∀ {a b c:Bytes},blt a b=true→blt b c=true→blt a c=true
 | _,[],_,h,_=>by cases ‹Bytes› <;> simp[blt,Op.bytesLess]at h
 | _,_::_,[],_,h=>by simp[blt,Op.bytesLess]at h
 | [],_::_,_::_,_,_=>rfl
 | x::a,y::b,z::c,h1,h2=>by
   simp only[blt,Op.bytesLess,Bool.or_eq_true,decide_eq_true_eq,zNr,beq_iff_eq]at h1 h2 ⊢
   rcases h1 with h1|⟨rfl,h1⟩
   ·rcases h2 with h2|⟨rfl,h2⟩
    ·exact .inl (UInt8.lt_trans h1 h2)
    ·exact .inl h1
   ·rcases h2 with h2|⟨rfl,h2⟩
    ·exact .inl h2
    ·exact .inr ⟨rfl,gC h1 h2⟩
theorem qY:∀ {a b:Bytes},a≠b→blt a b=true∨blt b a=true
 | [],[],h=>absurd rfl h
 | [],_::_,_=>.inl rfl
 | _::_,[],_=>.inr rfl
 | x::a,y::b,h=>by
   simp only[blt,Op.bytesLess,Bool.or_eq_true,decide_eq_true_eq,zNr,beq_iff_eq]
   by_cases hxy:x=y
   ·subst hxy
    rcases qY (a:=a) (b:=b) (fun e=>h (by rw[e])) with h1|h1
    ·exact .inl (.inr ⟨rfl,h1⟩)
    ·exact .inr (.inr ⟨rfl,h1⟩)
   ·have:x.toNat≠y.toNat:=fun e=>hxy (UInt8.toNat_inj.1 e)
    rcases zNg x.toNat y.toNat with h1|h1
    ·exact .inl (.inl (UInt8.lt_iff_toNat_lt.2 h1))
    ·exact .inr (.inl (UInt8.lt_iff_toNat_lt.2 (by omega)))
theorem FI {a b:Bytes}(h:blt a b=true):blt b a=false:=by
 cases h2:blt b a with
 | false=>rfl
 | true=>have:=gC h h2;rw[kD]at this;cases this
theorem oq {a b:Bytes}(h:blt a b=true):a≠b:=by
 rintro rfl;rw[kD]at h;cases h
section
variable {E:Type} (key:E→Bytes) (ex:E→Int)
def mT (L:List E):Prop:=L.Pairwise (fun a b=>blt (key a) (key b)=true)
def gq (L:List E)(t:Bytes):Nat:=(L.filter (fun x=>blt (key x) t)).length
def dC (L:List E)(t:Bytes):Bool:=L.any (fun x=>key x==t)
variable {key ex}
theorem zT (L:List E)(t:Bytes):gq key L t≤L.length:=List.length_filter_le _ _
theorem re:∀ {L:List E}(_:mT key L)(t:Bytes)(k:Nat)(h:k<L.length),blt (key L[k]) t=true↔k<gq key L t
 | [],_,_,_,h=>by simp at h
 | x::L,ha,t,k,h=>by
   rw[mT,List.pairwise_cons]at ha
   unfold gq
   by_cases hx:blt (key x) t=true
   ·rw[zNh (p:=fun x=>blt (key x) t) hx,zMU]
    cases k with
    | zero=>simpa using hx
    | succ k =>
      have:=re ha.2 t k (by simpa using h)
      simpa[gq] using this
   ·rw[zNi (p:=fun x=>blt (key x) t) hx]
    have h0:L.filter (fun x=>blt (key x) t)=[]:=by
     rw[List.filter_eq_nil_iff]
     intro y hy hyt
     exact hx (gC (ha.1 y hy) hyt)
    rw[h0]
    simp only[zM1,Nat.not_lt_zero,iff_false]
    cases k with
    | zero=>simpa using hx
    | succ k =>
      simp only[List.getElem_cons_succ]
      intro hyt
      exact hx (gC (ha.1 _ (zM4 _)) hyt)
theorem J6 {L:List E}(h:mT key L)(t:Bytes):L.filter (fun x=>blt (key x) t)=L.take (gq key L t):=by
 induction L with
 | nil=>rfl
 | cons x L ih =>
   have h':=h
   rw[mT,List.pairwise_cons]at h'
   unfold gq
   by_cases hx:blt (key x) t=true
   ·rw[zNh (p:=fun x=>blt (key x) t) hx,zMU,List.take_succ_cons]
    have e:=ih h'.2
    unfold gq at e
    rw[← e]
   ·rw[zNi (p:=fun x=>blt (key x) t) hx]
    have h0:L.filter (fun x=>blt (key x) t)=[]:=by
     rw[List.filter_eq_nil_iff]
     intro y hy hyt
     exact hx (gC (h'.1 y hy) hyt)
    rw[h0];rfl
theorem J7 {L:List E}(h:mT key L)(t:Bytes):L.filter (fun x=>blt t (key x))=L.drop (gq key L t+if dC key L t then 1 else 0):=by
 induction L with
 | nil=>simp[dC]
 | cons x L ih =>
   have h':=h
   rw[mT,List.pairwise_cons]at h'
   have ih:=ih h'.2
   by_cases hx:blt (key x) t=true
   ·have bn:(key x==t)=false:=by simpa using oq hx
    have hn:¬ blt t (key x)=true:=by rw[FI hx];simp
    rw[zNi (p:=fun x=>blt t (key x)) hn,ih]
    have e1:gq key (x::L) t=gq key L t+1:=by unfold gq;rw[zNh (p:=fun x=>blt (key x) t) hx,zMU]
    have e2:dC key (x::L) t=dC key L t:=by simp[dC,bn]
    rw[e1,e2,Nat.add_right_comm,List.drop_succ_cons]
   ·have h0:gq key (x::L) t=0:=by
     unfold gq
     rw[List.length_eq_zero_iff,List.filter_eq_nil_iff]
     intro y hy hyt
     rcases List.mem_cons.1 hy with rfl|hy
     ·exact hx hyt
     ·exact hx (gC (h'.1 y hy) hyt)
    have aR:∀ y∈L,blt t (key y)=true:=fun y hy=>by
     by_cases e:key x=t
     ·rw[← e];exact h'.1 y hy
     ·rcases qY e with h1|h1
      ·exact absurd h1 hx
      ·exact gC h1 (h'.1 y hy)
    have hL:L.filter (fun x=>blt t (key x))=L:=List.filter_eq_self.2 aR
    have hnoL:dC key L t=false:=by
     unfold dC
     rw[List.any_eq_false]
     intro y hy
     have:=oq (aR y hy)
     simpa using fun e=>this e.symm
    rw[h0]
    by_cases e:key x=t
    ·have hn:¬ blt t (key x)=true:=by rw[e,kD];simp
     have:dC key (x::L) t=true:=by simp[dC,e]
     rw[zNi (p:=fun x=>blt t (key x)) hn,hL,this];rfl
    ·have hp:blt t (key x)=true:=by
      rcases qY e with h1|h1
      ·exact absurd h1 hx
      ·exact h1
     have:dC key (x::L) t=false:=by
      have:=hnoL
      unfold dC at this ⊢
      simpa[e] using this
     rw[zNh (p:=fun x=>blt t (key x)) hp,hL,this];rfl
def jL (key:E→Bytes)(L:List E)(x:E):List E:=L.filter (fun y=>blt (key y) (key x))++[x]++L.filter (fun y=>blt (key x) (key y))
theorem zA {L:List E}(h:mT key L)(x:E):jL key L x=L.take (gq key L (key x))++[x]++L.drop (gq key L (key x)+if dC key L (key x) then 1 else 0):=by
 unfold jL
 rw[J6 h,J7 h]
theorem pU {L:List E}(h:mT key L)(p:E→Bool):mT key (L.filter p):=List.Pairwise.filter p h
theorem BU {L:List E}(h:mT key L)(x:E):mT key (jL key L x):=by
 unfold jL mT
 rw[List.append_assoc,List.pairwise_append]
 refine⟨pU h _,?_,?_⟩
 ·rw[List.singleton_append,List.pairwise_cons]
  exact⟨fun y hy=>(List.mem_filter.1 hy).2,pU h _⟩
 ·intro a ha b hb
  have h1:=(List.mem_filter.1 ha).2
  rcases List.mem_cons.1 hb with rfl|hb
  ·exact h1
  ·exact gC h1 (List.mem_filter.1 hb).2
theorem BR {L:List E}{x y:E}:y∈jL key L x↔y=x∨(y∈L∧key y≠key x):=by
 unfold jL
 simp only[List.mem_append,List.mem_filter,List.mem_singleton]
 constructor
 ·rintro((⟨h1,h2⟩|h) | ⟨h1,h2⟩)
  ·exact .inr ⟨h1,oq h2⟩
  ·exact .inl h
  ·exact .inr ⟨h1,fun e=>oq h2 e.symm⟩
 ·rintro(h|⟨h1,h2⟩)
  ·exact .inl (.inr h)
  ·rcases qY h2 with h3|h3
   ·exact .inl (.inl ⟨h1,h3⟩)
   ·exact .inr ⟨h1,h3⟩
theorem BS {L:List E}(h:mT key L)(x:E):(jL key L x).length=L.length+if dC key L (key x) then 0 else 1:=by
 rw[zA h]
 have h1:=zT (key:=key) L (key x)
 cases ht:dC key L (key x)
 ·simp;omega
 ·have h2:gq key L (key x)<L.length:=by
   obtain⟨y,hy,hyt⟩:=List.any_eq_true.1 ht
   obtain⟨k,hk,rfl⟩:=zNs.1 hy
   have h3:¬ k<gq key L (key x):=fun h4=>by
    have:=(re h (key x) k hk).2 h4
    rw[show key L[k]=key x by simpa using hyt,kD]at this
    cases this
   omega
  simp;omega
end
def dR (X:List Int):Nat→Nat
 | 0=>0
 | k+1=>if k=0 then 0 else if X.getD k 0<X.getD (dR X k) 0 then k else dR X k
theorem iT (X:List Int):∀ k,0<k→dR X k<k∧∀ j,j<k→X.getD (dR X k) 0<X.getD j 0∨(X.getD (dR X k) 0=X.getD j 0∧dR X k≤j)
 | 0,h=>by omega
 | k+1,_=>by
   rw[dR]
   by_cases h0:k=0
   ·subst h0
    rw[if_pos rfl]
    exact⟨by omega,fun j hj=>.inr ⟨by rw[show j=0 by omega],by omega⟩⟩
   ·rw[if_neg h0]
    obtain⟨h1,h2⟩:=iT X k (by omega)
    split
    ·rename_i h3
     refine⟨by omega,fun j hj=>?_⟩
     rcases zNg j k with h4|h4
     ·rcases h2 j h4 with h5|h5 <;> left <;> omega
     ·exact .inr ⟨by rw[show j=k by omega],by omega⟩
    ·rename_i h3
     refine⟨by omega,fun j hj=>?_⟩
     rcases zNg j k with h4|h4
     ·exact h2 j h4
     ·obtain rfl:j=k:=by omega
      omega
def lg (X:List Int)(a b:Nat):Bool:=if X.getD a 0 != X.getD b 0 then decide (X.getD a 0<X.getD b 0) else decide (a<b)
theorem xY {X:List Int}{a b:Nat}:lg X a b=true↔X.getD a 0<X.getD b 0∨(X.getD a 0=X.getD b 0∧a<b):=by
 unfold lg
 split
 ·rename_i h
  simp at h
  simp
  omega
 ·rename_i h
  simp at h
  simp
  omega
theorem jz {X:List Int}{a b:Nat}:lg X a b=false↔X.getD b 0<X.getD a 0∨(X.getD b 0=X.getD a 0∧b≤a):=by
 rw[← Bool.not_eq_true,xY]
 omega
def nj (P:List Nat)(i j:Nat):List Nat:=(P.set i (P.getD j 0)).set j (P.getD i 0)
theorem eT (P:List Nat)(i j:Nat):(nj P i j).length=P.length:=by simp[nj]
theorem gJ {P:List Nat}{i j c:Nat}(hi:i<P.length)(hj:j<P.length):(nj P i j).getD c 0=if c=j then P.getD i 0 else if c=i then P.getD j 0 else P.getD c 0:=by
 unfold nj
 rw[zMY,List.getElem?_set]
 by_cases h1:j=c
 ·subst h1
  rw[if_pos rfl,if_pos (by simpa using hj),if_pos rfl];rfl
 ·rw[if_neg h1,if_neg (fun e=>h1 e.symm),List.getElem?_set]
  by_cases h2:i=c
  ·subst h2
   rw[if_pos rfl,if_pos hi,if_pos rfl];rfl
  ·rw[if_neg h2,if_neg (fun e=>h2 e.symm),zMY]
def C0 (X:List Int):Nat→List Nat→Nat→List Nat
 | 0,P,_=>P
 | f+1,P,j=>if (j - 1) / 2=j∨lg X (P.getD j 0) (P.getD ((j - 1) / 2) 0)=false then P else C0 X f (nj P ((j - 1) / 2) j) ((j - 1) / 2)
theorem yD (X:List Int):∀ f P j,(C0 X f P j).length=P.length
 | 0,_,_=>rfl
 | f+1,P,j=>by
   rw[C0]
   split
   ·rfl
   ·rw[yD X f,eT]
def HPx (X:List Int)(P:List Nat)(j:Nat):Prop:=(∀ c,0<c→c<P.length→c≠j→lg X (P.getD c 0) (P.getD ((c - 1) / 2) 0)=false)∧(∀ c,0<c→c<P.length→(c - 1) / 2=j→0<j→lg X (P.getD c 0) (P.getD ((j - 1) / 2) 0)=false)
def HP (X:List Int)(P:List Nat):Prop:=∀ c,0<c→c<P.length→lg X (P.getD c 0) (P.getD ((c - 1) / 2) 0)=false
theorem Ap (X:List Int):∀ f P j,j<f→j<P.length→HPx X P j→HP X (C0 X f P j)
 | 0,_,_,h,_,_=>by omega
 | f+1,P,j,hf,hj,⟨h1,h2⟩=>by
   rw[C0]
   split
   ·rename_i h
    intro c hc dB
    by_cases e:c=j
    ·subst e
     rcases h with h|h
     ·omega
     ·exact h
    ·exact h1 c hc dB e
   ·rename_i h
    have wm:(j - 1) / 2≠j:=fun e=>h (.inl e)
    have Fj:lg X (P.getD j 0) (P.getD ((j - 1) / 2) 0)=true:=by
     cases hl:lg X (P.getD j 0) (P.getD ((j - 1) / 2) 0)
     ·exact absurd (.inr hl) h
     ·rfl
    have hj0:0<j:=by omega
    have hi:(j - 1) / 2<P.length:=by omega
    refine Ap X f _ _ (by omega) (by rw[eT];exact hi) ⟨fun c hc dB hci=>?_,fun c hc dB Ch rT=>?_⟩
    ·rw[eT]at dB
     rw[gJ hi hj,gJ hi hj]
     rw[xY]at Fj
     by_cases hcj:c=j
     ·subst hcj
      rw[if_pos rfl,if_neg wm,if_pos rfl,jz]
      omega
     ·rw[if_neg hcj,if_neg hci]
      have g1:=h1 c hc dB hcj
      by_cases hpj:(c - 1) / 2=j
      ·rw[if_pos hpj]
       exact h2 c hc dB hpj hj0
      ·rw[if_neg hpj]
       by_cases hpi:(c - 1) / 2=(j - 1) / 2
       ·rw[if_pos hpi]
        rw[hpi]at g1
        rw[jz]at g1 ⊢
        omega
       ·rw[if_neg hpi];exact g1
    ·rw[eT]at dB
     rw[gJ hi hj,gJ hi hj]
     have g0:=h1 ((j - 1) / 2) rT hi (by omega)
     have e1:¬ ((j - 1) / 2 - 1) / 2=j:=by omega
     have e2:¬ ((j - 1) / 2 - 1) / 2=(j - 1) / 2:=by omega
     rw[if_neg e1,if_neg e2]
     by_cases hcj:c=j
     ·rw[if_pos hcj];exact g0
     ·have hci:c≠(j - 1) / 2:=by omega
      rw[if_neg hcj,if_neg hci]
      have g1:=h1 c hc dB hcj
      rw[Ch]at g1
      rw[jz]at g0 g1 ⊢
      omega
theorem HP_root {X:List Int}{P:List Nat}(h:HP X P)(c:Nat)(hc:c<P.length):lg X (P.getD c 0) (P.getD 0 0)=false:=by
 induction c using Nat.strongRecOn with
 | _ c ih =>
   by_cases h0:c=0
   ·subst h0;rw[jz];omega
   ·have g1:=h c (by omega) hc
    have g2:=ih ((c - 1) / 2) (by omega) (by omega)
    rw[jz]at g1 g2 ⊢
    omega
def gz (X:List Int):Nat→List Nat
 | 0=>[]
 | k+1=>C0 X (k+1) (gz X k++[k]) k
theorem lx (X:List Int):∀ k,(gz X k).length=k
 | 0=>rfl
 | k+1=>by rw[gz,yD,zMS,lx X k];rfl
theorem vr (X:List Int):∀ k,HP X (gz X k)
 | 0=>fun c _ h=>by simp[gz]at h
 | k+1=>by
   rw[gz]
   have hl:=lx X k
   refine Ap X _ _ _ (by omega) (by rw[zMS,hl];simp) ⟨fun c hc dB Js=>?_,fun c hc dB Ch _=>?_⟩
   ·rw[zMS,hl,zNl]at dB
    have e:∀ q,q<k→(gz X k++[k]).getD q 0=(gz X k).getD q 0:=fun q hq=>by
     rw[zMY,zMY,zMW (by omega)]
    rw[e c (by omega),e ((c - 1) / 2) (by omega)]
    exact vr X k c hc (by omega)
   ·rw[zMS,hl,zNl]at dB
    omega
theorem FX {P:List Nat}{i j:Nat}(hi:i<P.length)(hj:j<P.length)(x:Nat):(∃ c,c<P.length∧P.getD c 0=x)↔∃ c,c<(nj P i j).length∧(nj P i j).getD c 0=x:=by
 rw[eT]
 constructor
 ·rintro⟨c,hc,rfl⟩
  by_cases h1:c=i
  ·exact⟨j,hj,by rw[gJ hi hj,if_pos rfl,h1]⟩
  ·by_cases h2:c=j
   ·refine⟨i,hi,?_⟩
    rw[gJ hi hj]
    split
    ·rename_i h3;rw[h2,← h3]
    ·rw[if_pos rfl,h2]
   ·exact⟨c,hc,by rw[gJ hi hj,if_neg h2,if_neg h1]⟩
 ·rintro⟨c,hc,rfl⟩
  rw[gJ hi hj]
  split
  ·exact⟨i,hi,rfl⟩
  ·split
   ·exact⟨j,hj,rfl⟩
   ·exact⟨c,hc,rfl⟩
theorem EE (X:List Int):∀ f (P:List Nat) j,j<P.length→∀ x,(∃ c,c<P.length∧P.getD c 0=x)↔∃ c,c<(C0 X f P j).length∧(C0 X f P j).getD c 0=x
 | 0,_,_,_,_=>Iff.rfl
 | f+1,P,j,hj,x=>by
   rw[C0]
   split
   ·rfl
   ·have hi:(j - 1) / 2<P.length:=by omega
    exact(FX hi hj x).trans (EE X f _ _ (by rw[eT];exact hi) x)
theorem lv (X:List Int):∀ k x,(∃ c,c<k∧(gz X k).getD c 0=x)↔x<k
 | 0,x=>by simp
 | k+1,x=>by
   have hl:=lx X k
   have h1:=EE X (k+1) (gz X k++[k]) k (by rw[zMS,hl];simp) x
   have gF:(C0 X (k+1) (gz X k++[k]) k).length=k+1:=by rw[yD,zMS,hl];rfl
   rw[gF]at h1
   rw[show gz X (k+1)=C0 X (k+1) (gz X k++[k]) k from rfl,← h1,zMS,hl,zNl]
   constructor
   ·rintro⟨c,hc,rfl⟩
    rcases zNg c k with h2|h2
    ·have:=(lv X k ((gz X k).getD c 0)).1 ⟨c,h2,rfl⟩
     rw[zMY,zMW (by omega),← zMY]
     omega
    ·obtain rfl:c=k:=by omega
     rw[zMY,zMZ (by omega),hl]
     simp
   ·intro hx
    rcases zNg x k with h2|h2
    ·obtain⟨c,hc,he⟩:=(lv X k x).2 h2
     refine⟨c,by omega,?_⟩
     rw[zMY,zMW (by omega),← zMY,he]
    ·refine⟨k,by omega,?_⟩
     rw[zMY,zMZ (by omega),hl]
     simp;omega
theorem Ei (X:List Int){k:Nat}(hk:0<k):(gz X k).getD 0 0=dR X k:=by
 obtain⟨h1,h2⟩:=iT X k hk
 have h3:=(lv X k _).1 ⟨0,hk,rfl⟩
 obtain⟨c,hc,he⟩:=(lv X k (dR X k)).2 h1
 have h4:=HP_root (vr X k) c (by rw[lx];exact hc)
 rw[he,jz]at h4
 have h5:=h2 _ h3
 omega
section
variable {E:Type} {key:E→Bytes} {ex:E→Int}
def hU (key:E→Bytes)(ex:E→Int)(cap:Int)(L:List E)(x:E):List E:=if dC key L (key x)=true∨(L.length:Int)<cap then jL key L x else jL key (L.eraseIdx (dR (L.map ex) L.length)) x
theorem jP {L:List E}{t:Bytes}:dC key L t=true↔∃ x∈L,key x=t:=by simp[dC]
theorem Cj {L:List E}(h:mT key L){t:Bytes}(ht:dC key L t=true):∃ hk:gq key L t<L.length,key L[gq key L t]=t:=by
 obtain⟨y,hy,rfl⟩:=jP.1 ht
 obtain⟨k,hk,rfl⟩:=zNs.1 hy
 have h3:¬ k<gq key L (key L[k]):=fun h4=>by
  have:=(re h (key L[k]) k hk).2 h4
  rw[kD]at this
  cases this
 have h4:¬ gq key L (key L[k])<k:=fun h4=>by
  have h5:=List.pairwise_iff_getElem.1 h (gq key L (key L[k])) k (by omega) hk h4
  have:=(re h (key L[k]) (gq key L (key L[k])) (by omega)).1 h5
  omega
 have e:gq key L (key L[k])=k:=by omega
 exact⟨by omega,by simp only[e]⟩
theorem qQ {L:List E}(h:mT key L){t:Bytes}:dC key L t=true↔∃ hk:gq key L t<L.length,key L[gq key L t]=t:=⟨Cj h,fun⟨hk,e⟩=>jP.2 ⟨_,zM4 hk,e⟩⟩
theorem put_set {L:List E}(h:mT key L){x:E}(ht:dC key L (key x)=true):L.set (gq key L (key x)) x=jL key L x:=by
 obtain⟨hk,-⟩:=Cj h ht
 rw[zA h,ht,if_pos rfl,List.set_eq_take_append_cons_drop,if_pos hk]
 simp
theorem put_ins {L:List E}(h:mT key L){x:E}(ht:dC key L (key x)=false):L.take (gq key L (key x))++[x]++L.drop (gq key L (key x))=jL key L x:=by
 rw[zA h,ht];simp
theorem lD {L:List E}{k:Nat}{x:E}(h:x∈L.eraseIdx k):x∈L:=List.mem_of_mem_eraseIdx h
theorem El {L:List E}{k:Nat}{t:Bytes}(h:dC key L t=false):dC key (L.eraseIdx k) t=false:=by
 rw[← Bool.not_eq_true,jP]at h ⊢
 rintro⟨x,hx,e⟩
 exact h ⟨x,lD hx,e⟩
theorem oH {L:List E}(h:mT key L)(k:Nat):mT key (L.eraseIdx k):=List.Pairwise.sublist (List.eraseIdx_sublist L k) h
theorem Ih {L:List E}(h:mT key L)(cap:Int)(x:E):mT key (hU key ex cap L x):=by
 unfold hU
 split
 ·exact BU h x
 ·exact BU (oH h _) x
theorem A4 {L:List E}(h:mT key L){cap:Int}(hc:0<cap)(hl:(L.length:Int)≤cap)(x:E):((hU key ex cap L x).length:Int)≤cap:=by
 unfold hU
 split
 ·rename_i h1
  rw[BS h]
  rcases h1 with h1|h1
  ·rw[if_pos h1];omega
  ·split <;> omega
 ·rename_i h1
  have h2:¬ (L.length:Int)<cap:=fun h3=>h1 (.inr h3)
  have h0:0<L.length:=by omega
  rw[BS (oH h _),List.length_eraseIdx,if_pos (by have:=(iT (L.map ex) L.length h0).1;omega)]
  split <;> omega
theorem ur {L:List E}{cap:Int}{x y:E}(h:y∈hU key ex cap L x):y=x∨y∈L:=by
 unfold hU at h
 split at h
 ·rcases BR.1 h with h|h
  ·exact .inl h
  ·exact .inr h.1
 ·rcases BR.1 h with h|h
  ·exact .inl h
  ·exact .inr (lD h.1)
theorem asc_key {L:List E}(h:mT key L){x y:E}(hx:x∈L)(hy:y∈L)(e:key x=key y):x=y:=by
 obtain⟨i,hi,rfl⟩:=zNs.1 hx
 obtain⟨j,hj,rfl⟩:=zNs.1 hy
 rcases Nat.lt_trichotomy i j with h1|h1|h1
 ·exact absurd e (oq (List.pairwise_iff_getElem.1 h i j hi hj h1))
 ·subst h1;rfl
 ·exact absurd e.symm (oq (List.pairwise_iff_getElem.1 h j i hj hi h1))
end
end Go.Proofs.YteipdaijbncgeaaGreatDoor
namespace Vc
open Go Go.RowKit Wf
mutual
def EP (ρ:Nat→Nat):SV→SV
 | .p i off=>.p (ρ i) off
 | .o i n=>.o (ρ i) n
 | .f i n=>.f (ρ i) n
 | .agg l=>.agg (je ρ l)
 | .eS l=>.eS (je ρ l)
 | .fn f l=>.fn f (je ρ l)
 | .mv f l=>.mv f (je ρ l)
 | .E7 t x=>.E7 t (EP ρ x)
 | .bool b=>.bool b
 | .int k n=>.int k n
 | .str l=>.str l
 | .aE=>.aE
 | .v x=>.v x
def je (ρ:Nat→Nat):List SV→List SV
 | []=>[]
 | x::r=>EP ρ x::je ρ r
end
mutual
theorem vL (ρ:Nat→Nat)(β:Nat→Bt)(x:SV):ah β (EP ρ x)=ah (fun i=>β (ρ i)) x:=by
 cases x <;> simp only[EP,ah]
 ·rw[jD ρ β _]
 ·rw[jD ρ β _]
 ·rw[jD ρ β _]
 ·rw[jD ρ β _]
 ·rw[vL ρ β _]
theorem jD (ρ:Nat→Nat)(β:Nat→Bt)(l:List SV):aG β (je ρ l)=aG (fun i=>β (ρ i)) l:=by
 cases l with
 | nil=>rfl
 | cons x r =>
   simp only[je,aG]
   rw[vL ρ β x,jD ρ β r]
end
mutual
theorem uj {ρ:Nat→Nat}{m:Nat}(hρ:∀ k,k<m→ρ k=k)(x:SV)(h:within m x=true):EP ρ x=x:=by
 cases x <;> simp only[within,decide_eq_true_eq]at h <;> simp only[EP]
 ·rw[hρ _ h]
 ·rw[hρ _ h]
 ·rw[hρ _ h]
 ·rw[db hρ _ h]
 ·rw[db hρ _ h]
 ·rw[db hρ _ h]
 ·rw[db hρ _ h]
 ·rw[uj hρ _ h]
theorem db {ρ:Nat→Nat}{m:Nat}(hρ:∀ k,k<m→ρ k=k)(l:List SV)(h:within.ay m l=true):je ρ l=l:=by
 cases l with
 | nil=>rfl
 | cons x r =>
   simp only[within.ay,zNr]at h
   simp only[je]
   rw[uj hρ x h.1,db hρ r h.2]
end
theorem Ia (ρ:Nat→Nat)(l:List SV):je ρ l=l.map (EP ρ):=by
 induction l with
 | nil=>rfl
 | cons x r ih=>rw[je,ih];rfl
variable {V:Cx} {f:FuncId} {args:List SV} {bs:List ax} {R:SV→List ax→Prop}
def Kept (bs b:List ax)(ρ:Nat→Nat)(m i:Nat)(X:ax):Prop:=X=.gone∨∃ (c:List SV) (e s n:Nat) (mm:Bool),X=.own c e s n false∧bs.length≤ρ i∧b[ρ i]? = some (.own (je ρ c) e s n mm)∧within.ay m c=true
theorem SC.pick (h:SC V f args bs (fun r b=>∃ (ρ:Nat→Nat)(Xs:List ax)(r2:SV),Kp bs b∧(∀ k,k<bs.length→ρ k=k)∧(∀ q X,Xs[q]? = some X→Kept bs b ρ (bs.length+Xs.length) (bs.length+q) X)∧r=EP ρ r2∧within (bs.length+Xs.length) r2=true∧R r2 (bs++Xs))):SC V f args bs R:=by
 refine⟨h.1,fun β fp w fQ hG hE=>(h.2 β fp w fQ hG hE).mono ?_⟩
 rintro ex w' ⟨r,bs',β₂,fp₂,⟨ρ,Xs,r2,⟨hlen,cw⟩,hρ,hX,rfl,hw,hR⟩,Ck,-,aR,jB,nV,mH⟩
 have old:∀ {i r},bs[i]? = some r→bs'[i]? = some r:=fun {i r} hi=>(cw i (zMR.1 hi).1).trans hi
 obtain⟨he,lA⟩:=aR β₂ (fun _ _=>rfl)
 have low:∀ {i X},(bs++Xs)[i]? = some X→(i<bs.length∧bs[i]? = some X)∨(bs.length≤i∧(X=.gone∨∃ (c:List SV) (e s n:Nat) (mm:Bool),X=.own c e s n false∧bs.length≤ρ i∧bs'[ρ i]? = some (.own (je ρ c) e s n mm)∧within.ay (bs.length+Xs.length) c=true)):=fun {i X} hi=>by
  rcases zNg i bs.length with h1|h1
  ·rw[zMW h1]at hi
   exact .inl ⟨h1,hi⟩
  ·rw[zMZ h1]at hi
   have:=hX _ _ hi
   rw[show bs.length+(i - bs.length)=i by omega]at this
   exact .inr ⟨h1,this⟩
 have ng:∀ {i X},(bs++Xs)[i]? = some X→X≠.gone→bs'[ρ i]? ≠ none∧(i<bs.length∧ρ i=i∨bs.length≤i∧bs.length≤ρ i):=fun {i X} hi hg=>by
  rcases low hi with⟨h1,h2⟩|⟨h1,h2|⟨c,e,s,n,mm,-,h3,h4,-⟩⟩
  ·rw[hρ i h1,old h2]
   exact⟨by simp,.inl ⟨h1,rfl⟩⟩
  ·exact absurd h2 hg
  ·rw[h4]
   exact⟨by simp,.inr ⟨h1,h3⟩⟩
 refine⟨r2,bs++Xs,fun i=>β₂ (ρ i),fun i k=>(bs++Xs)[i]? ≠ some .gone∧fp₂ (ρ i) k,hR,fun i hi=>?_,by simp,fun β' hβ=>?_,jB,fun i X hi hm k hk=>?_,fun i X hi k hk=>?_⟩
 ·show β i=β₂ (ρ i)
  rw[hρ i hi]
  exact Ck i hi
 ·rw[zMS]at hβ
  have e1:∀ c,within.ay (bs.length+Xs.length) c=true→(je ρ c).map (ah β₂)=c.map (ah β'):=fun c hc=>by
   rw[← bU,← bU,jD]
   exact aw _ c hc _ _ hβ
  have hB:bw bs.length β₂ β':=fun i hi=>by
   have:β₂ (ρ i)=β' i:=hβ i (by omega)
   rw[← this,hρ i hi]
  refine⟨by rw[he,vL];rw[oj _ r2 hw _ _ hβ],⟨fun i X hi=>?_,fun i X hi k hk=>?_,fun i j X Y hi hj wm hm k hk eW=>?_⟩⟩
  ·rcases low hi with⟨h1,h2⟩|⟨h1,rfl|⟨c,e,s,n,mm,rfl,h3,h4,h5⟩⟩
   ·have g1:=(fQ β₂ Ck).holds i X h2
    have g2:=(fQ β' (fun i hi=>(Ck i hi).trans (hB i hi))).holds i X h2
    have e:β₂ i=β' i:=hB i h1
    have g3:=lA.holds i X (old h2)
    rw[e]at g1 g3
    have g4:=yT g1 g2 g3
    by_cases hg:X=.gone
    ·subst hg
     intro k hk
     exact hk.1 hi
    ·have:(fun k=>(bs++Xs)[i]? ≠ some .gone∧fp₂ (ρ i) k)=fp₂ i:=by
      funext k
      rw[hρ i h1,hi]
      simp[hg]
     rw[this]
     exact g4
   ·intro k hk
    exact hk.1 hi
   ·have g3:=lA.holds _ _ h4
    have GD:i<bs.length+Xs.length:=by
     have:=(zMR.1 hi).1
     simpa using this
    have e:β₂ (ρ i)=β' i:=hβ i GD
    rw[e]at g3
    have:(fun k=>(bs++Xs)[i]? ≠ some .gone∧fp₂ (ρ i) k)=fp₂ (ρ i):=by
     funext k
     rw[hi]
     simp
    rw[this]
    rcases g3 with⟨k1,k2,k3,k4⟩|⟨k1,k2,k3,k4,k5,-,k7⟩
    ·refine .inl ⟨k1,k2,?_,k4.1,fun e=>by cases e⟩
     cases c with
     | nil=>rfl
     | cons x r=>simp[je]at k3
    ·refine .inr ⟨k1,k2,k3,?_,?_,(by simp),k7⟩
     ·rw[Ia,List.length_map]at k4
      exact k4
     ·rw[e1 c h5]at k5
      exact k5
  ·obtain⟨X',hX'⟩:∃ X',bs'[ρ i]? = some X':=by
    have:=(ng hi (fun e=>hk.1 (e ▸ hi))).1
    cases hh:bs'[ρ i]? with
    | none=>exact absurd hh this
    | some x=>exact⟨x,rfl⟩
   exact lA.lt _ _ hX' k hk.2
  ·have hgi:X≠.gone:=fun e=>hk.1 (e ▸ hi)
   have hgj:Y≠.gone:=fun e=>eW.1 (e ▸ hj)
   rcases low hi with⟨h1,h2⟩|⟨h1,rfl|⟨c,e,s,n,mm,rfl,h3,h4,h5⟩⟩
   ·rcases low hj with⟨l1,l2⟩|⟨l1,rfl|⟨c',e',s',n',mm',rfl,l3,l4,l5⟩⟩
    ·have a1:=hk.2
     have a2:=eW.2
     rw[hρ i h1]at a1
     rw[hρ j l1]at a2
     exact lA.sep i j X Y (old h2) (old l2) wm hm k a1 a2
    ·exact hgj rfl
    ·have a1:=hk.2
     rw[hρ i h1]at a1
     have zG:X.cr=true:=hm.resolve_right (by simp[ax.cr])
     exact lA.sep i (ρ j) X _ (old h2) l4 (by omega) (.inl zG) k a1 eW.2
   ·exact hgi rfl
   ·rcases low hj with⟨l1,l2⟩|⟨l1,rfl|⟨c',e',s',n',mm',rfl,l3,l4,l5⟩⟩
    ·have a2:=eW.2
     rw[hρ j l1]at a2
     have zG:Y.cr=true:=hm.resolve_left (by simp[ax.cr])
     exact lA.sep (ρ i) j _ Y h4 (old l2) (by omega) (.inr zG) k hk.2 a2
    ·exact hgj rfl
    ·rcases hm with hm|hm <;> simp[ax.cr]at hm
 ·rcases low hi with⟨h1,h2⟩|⟨h1,rfl|⟨c,e,s,n,mm,rfl,h3,h4,h5⟩⟩
  ·have a1:=hk.2
   rw[hρ i h1]at a1
   exact nV i X (old h2) hm k a1
  ·simp[ax.cr]at hm
  ·simp[ax.cr]at hm
 ·rcases low hi with⟨h1,h2⟩|⟨h1,rfl|⟨c,e,s,n,mm,rfl,h3,h4,h5⟩⟩
  ·have a1:=hk.2
   rw[hρ i h1]at a1
   exact mH i X (old h2) k a1
  ·exact absurd hi hk.1
  ·exact mH _ _ h4 k hk.2
theorem zV (b l:List ax)(k:Nat):(b++l)[b.length+k]? = l[k]? := by
 rw[zMZ (by omega),Nat.add_sub_cancel_left]
theorem gZ (b l:List ax):(b++l)[b.length]? = l[0]? := zV b l 0
theorem FM (b l:List ax)(k:Nat)(X:ax):(b++l).set (b.length+k) X=b++l.set k X:=by
 rw[List.set_append_right _ _ (by omega),Nat.add_sub_cancel_left]
theorem J8 (b l:List ax)(X:ax):(b++l).set b.length X=b++l.set 0 X:=FM b l 0 X
def av:=zNc (zNc (@zV) (zNc (@gZ) (@FM))) (zNc (zNc (@J8) (@List.append_assoc.{0})) (zNc (zNc (@zM8.{0}) (@zNb.{0})) (zNc (zNc (@zMS.{0}) (@zMU.{0})) (zNc (zNc (@zM1.{0}) (@Nat.zero_add)) (zNc (zNc (@zM9.{0}) (@zNa.{0})) (@Nat.add_assoc))))))
theorem outs1 {n:Nat}{b:List ax}(hn:n=b.length)(X:ax):CV [(n,0,0)] (b++[X]) b:=by
 subst hn
 refine qw (fun j hj=>?_) (by simp)
 have h1:=hj _ List.mem_cons_self
 simp only at h1
 rcases zNg j b.length with h|h
 ·rw[zMW h]
 ·rw[zM6 (by simp;omega),zM6 h]
theorem aZ {l1:List ax}{n:Nat}(hn:l1.length=n)(l:List ax)(k:Nat):(l1++l)[n+k]? = l[k]? := by
 subst hn;exact zV _ _ _
theorem bS {l1:List ax}{i:Nat}(hi:i<l1.length)(l:List ax)(X:ax):(l1++l).set i X=l1.set i X++l:=List.set_append_left _ _ hi
theorem Cn {l1:List ax}{i:Nat}(hi:i<l1.length)(X:ax)(l:List ax):(l1.set i X++l)[i]? = some X:=by
 rw[zMW (by simpa using hi),zMT hi]
theorem aI {l1:List ax}{i j:Nat}{r:ax}(h:l1[j]? = some r)(hn:i≠j)(X:ax):(l1.set i X)[j]? = some r:=by
 rw[zMV hn];exact h
end Vc
namespace Go.Proofs.YteipdaijbncgeaaGreatDoor
open Go Vc Go.RowKit Wf
structure Vd where
 err:Int
 id:jE
 bE:jE
 store:Bool
 df:Int
 tr:SV
structure En where
 v:Vd
 stored:Int
 aS:Int
def cN (v:Vd):List SV:=[.int .i64 v.err,.int .i64 v.id.kind,.str v.id.text,.str v.id.host,.int .i64 v.id.port,.int .i64 v.bE.kind,.str v.bE.text,.str v.bE.host,.int .i64 v.bE.port,.bool v.store,.int .u64 v.df,v.tr]
def enc (e:En):List SV:=[.int .i64 e.v.err,.int .i64 e.v.id.kind,.str e.v.id.text,.str e.v.id.host,.int .i64 e.v.id.port,.int .i64 e.v.bE.kind,.str e.v.bE.text,.str e.v.bE.host,.int .i64 e.v.bE.port,.bool e.v.store,.int .u64 e.v.df,e.v.tr,.int .u64 e.stored,.int .u64 e.aS]
def En.key (e:En):Bytes:=e.v.id.text
theorem jg (L:List En)(k:Nat)(h:k<L.length):((L.flatMap enc).drop (k * 14)).take 14=enc L[k]:=tH enc 14 (fun _=>rfl) L k h
theorem aT (L:List En):(L.flatMap enc).length=L.length * 14:=nt enc 14 (fun _=>rfl) L
theorem iO (L:List En)(k:Nat)(h:k<L.length)(i:Nat)(hi:i<14):(L.flatMap enc)[k * 14+i]? = (enc L[k])[i]? := by
 rw[← jg L k h,List.getElem?_take,List.getElem?_drop,if_pos hi]
def wg (P:List Nat):List SV:=P.map fun n:Nat=>SV.int .i64 (n:Int)
theorem uX (P:List Nat)(k:Nat)(h:k<P.length):(wg P)[k * 1]? = some (.int .i64 (P.getD k 0:Nat)):=by
 simp[wg,zMY,h]
structure QS (b:List ax) (q j r:Nat) (m:Bool) (L:List En) (P:List Nat):Prop where
 bq:b[q]? = some (.cells [.o j L.length,if P.length=0 then .aE else .o r P.length] 99 true)
 br:P.length≠0→b[r]? = some (.own (wg P) 3 1 P.length true)
 bj:b[j]? = some (.own (L.flatMap enc) 43 14 L.length m)
 rj:P.length≠0→r≠j
def oI (L:List En):List Int:=L.map En.aS
theorem zX (L:List En)(k:Nat)(h:k<L.length):(oI L).getD k 0=L[k].aS:=by simp[oI,zMY,h]
section
variable {b:List ax} {q j r:Nat} {m:Bool} {L:List En} {P:List Nat}
theorem QS.one (h:QS b q j r m L P):Vc.one (if P.length=0 then SV.aE else .o r P.length)=true:=by split <;> rfl
theorem HU (h:QS b q j r m L P):SC Tryz.V 237 [.p q 0] b (fun x b'=>x=.int .i64 P.length∧b'=b):=by
 have hq:=h.bq
 have lL:=(zMR.1 hq).1
 have ho:=h.one
 have hl:∀ e,mc (.slice e) (if P.length=0 then SV.aE else .o r P.length)=some (.int .i64 P.length):=fun e=>by
  split
  ·rename_i h0;rw[h0];rfl
  ·rfl
 refine cz 3000 Tryz.func237 rfl Tryz.ntmps237 Tryz.results237 Tryz.call237 (by simp) (aw b.length _ (by simp[within,within.ay,lL])) ?_
 generalize (if P.length=0 then SV.aE else .o r P.length)=pl at hq ho hl
 simp only[ad,↓Xn,↓Xo,↓Xg,↓Xd,↓Xe,↓Xf,Tryz.VΓ,Tryz.Γs,Xp,Xi,Nat.reduceAdd,Nat.reduceSub,Nat.reduceLT,Nat.reduceLeDiff,reduceIte,reduceCtorEq,Nat.reduceEqDiff,implies_true,forall_const,aa,av,beq_self_eq_true,bne_self_eq_false,Int.reduceBEq,Int.reduceBNe,Int.reduceLT,Int.reduceLE,hq,ho,hl]
theorem F8 (h:QS b q j r m L P){i k:Nat}(hi:i<P.length)(hk:k<P.length)(hP:∀ c,c<P.length→P.getD c 0<L.length) :
 SC Tryz.V 238 [.p q 0,.int .i64 i,.int .i64 k] b (fun x b'=>x=.bool (lg (oI L) (P.getD i 0) (P.getD k 0))∧b'=b):=by
 have h0:P.length≠0:=by omega
 have hq:=h.bq
 rw[if_neg h0]at hq
 have hr:=h.br h0
 have hj:=h.bj
 have hrj:=h.rj h0
 have lL:=(zMR.1 hq).1
 have hqr:r≠q:=by rintro rfl;rw[hq]at hr;cases hr
 have hqj:j≠q:=by rintro rfl;rw[hq]at hj;cases hj
 have a1:=uX P i hi
 have a2:=uX P k hk
 have p1:=hP i hi
 have p2:=hP k hk
 have x1:=zX L _ p1
 have x2:=zX L _ p2
 have il:(wg P).length=P.length:=by simp[wg]
 have el:=aT L
 have g1:(L.flatMap enc)[P.getD i 0 * 14+13]? = some (.int .u64 L[P.getD i 0].aS):=(iO L _ p1 13 (by omega)).trans rfl
 have g2:(L.flatMap enc)[P.getD k 0 * 14+13]? = some (.int .u64 L[P.getD k 0].aS):=(iO L _ p2 13 (by omega)).trans rfl
 unfold lg
 rw[x1,x2]
 refine cz 3000 Tryz.func238 rfl Tryz.ntmps238 Tryz.results238 Tryz.call238 (by simp) (aw b.length _ (by simp[within,within.ay,lL])) ?_
 generalize P.getD i 0=pi at *
 generalize P.getD k 0=pk at *
 cases c1:(L[pi].aS != L[pk].aS)
 ·simp only[ad,↓Xn,↓Xo,↓Xg,↓Xd,↓Xe,↓Xf,Tryz.VΓ,Tryz.Γs,Xp,Xi,Nat.reduceAdd,Nat.reduceSub,Nat.reduceLT,Nat.reduceLeDiff,reduceIte,reduceCtorEq,Nat.reduceEqDiff,implies_true,forall_const,aa,av,beq_self_eq_true,bne_self_eq_false,Int.reduceBEq,Int.reduceBNe,Int.reduceLT,Int.reduceLE,hq,hr,hj,a1,a2,g1,g2,il,el,c1]
  refine⟨⟨by omega,by omega⟩,by omega,⟨by omega,by omega⟩,by omega,aq (by kernel_rfl),⟨by omega,by omega⟩,by omega,⟨by omega,by omega⟩,by omega,aq (by kernel_rfl),?_⟩
  simp
 ·simp only[ad,↓Xn,↓Xo,↓Xg,↓Xd,↓Xe,↓Xf,Tryz.VΓ,Tryz.Γs,Xp,Xi,Nat.reduceAdd,Nat.reduceSub,Nat.reduceLT,Nat.reduceLeDiff,reduceIte,reduceCtorEq,Nat.reduceEqDiff,implies_true,forall_const,aa,av,beq_self_eq_true,bne_self_eq_false,Int.reduceBEq,Int.reduceBNe,Int.reduceLT,Int.reduceLE,hq,hr,hj,a1,a2,g1,g2,il,el,c1]
  exact⟨⟨by omega,by omega⟩,by omega,⟨by omega,by omega⟩,by omega,aq (by kernel_rfl),⟨by omega,by omega⟩,by omega,⟨by omega,by omega⟩,by omega,aq (by kernel_rfl),⟨by omega,by omega⟩,by omega,⟨by omega,by omega⟩,by omega,aq (by kernel_rfl)⟩
theorem VM_Len : Tryz.V.M 96 "Len" = some 237 := by simp [Tryz.V]
theorem VM_Less : Tryz.V.M 96 "Less" = some 238 := by simp [Tryz.V]
theorem FO : Tryz.V.M 96 "Swap" = some 240 := by simp [Tryz.V]
theorem VM_Push : Tryz.V.M 96 "Push" = some 239 := by simp [Tryz.V]
theorem ipl_set (P:List Nat)(i v:Nat):(wg P).set i (.int .i64 v)=wg (P.set i v):=by simp[wg,List.map_set]
theorem QS.swap (h:QS b q j r m L P)(h0:P.length≠0)(P':List Nat)(hl:P'.length=P.length):QS (b.set r (.own (wg P') 3 1 P.length true)) q j r m L P':=by
 have hr:=h.br h0
 have hq:=h.bq
 have hqr:r≠q:=by rintro rfl;rw[hq]at hr;cases hr
 exact⟨by rw[hl];exact aI hq hqr _,fun _=>by rw[hl];exact zMT (zMR.1 hr).1,aI h.bj (h.rj h0) _,fun _=>h.rj h0⟩
theorem F6 (h:QS b q j r m L P){i k:Nat}(hi:i<P.length)(hk:k<P.length) :
 SC Tryz.V 240 [.p q 0,.int .i64 i,.int .i64 k] b (fun x b'=>x=.eS []∧b'=b.set r (.own (wg (nj P i k)) 3 1 P.length true)):=by
 have h0:P.length≠0:=by omega
 have hq:=h.bq
 rw[if_neg h0]at hq
 have hr:=h.br h0
 have lL:=(zMR.1 hq).1
 have hrl:=(zMR.1 hr).1
 have hqr:r≠q:=by rintro rfl;rw[hq]at hr;cases hr
 have a1:=uX P i hi
 have a2:=uX P k hk
 have il:(wg P).length=P.length:=by simp[wg]
 refine cz 3000 Tryz.func240 rfl Tryz.ntmps240 Tryz.results240 Tryz.call240 (by simp) (aw b.length _ (by simp[within,within.ay,lL])) ?_
 have hg:∀ X,(b.set r X)[r]? = some X:=fun X=>zMT hrl
 have hgq:∀ X,(b.set r X)[q]? = some (.cells [.o j L.length,.o r P.length] 99 true):=fun X=>aI hq hqr X
 have sp:∀ (Q:List Nat) (i v:Nat),i<Q.length→List.take (i * 1) (wg Q)++.int .i64 (v:Int)::List.drop (i * 1+1) (wg Q)=wg (Q.set i v):=fun Q i v hi=>by
  rw[Nat.mul_one,← ipl_set,List.set_eq_take_append_cons_drop,if_pos (by simpa[wg] using hi)]
 have s1:=sp P i (P.getD k 0) hi
 have s2:=sp (P.set i (P.getD k 0)) k (P.getD i 0) (by simpa using hk)
 have il2:(wg (P.set i (P.getD k 0))).length=P.length:=by simp[wg]
 simp only[ad,↓Xn,↓Xo,↓Xg,↓Xd,↓Xe,↓Xf,Tryz.VΓ,Tryz.Γs,Xp,Xi,Nat.reduceAdd,Nat.reduceSub,Nat.reduceLT,Nat.reduceLeDiff,reduceIte,reduceCtorEq,Nat.reduceEqDiff,implies_true,forall_const,aa,av,beq_self_eq_true,bne_self_eq_false,Int.reduceBEq,Int.reduceBNe,Int.reduceLT,Int.reduceLE,hq,hr,a1,a2,il,hg,hgq,s1,s2,il2,List.set_set]
 exact⟨⟨by omega,by omega⟩,by omega,⟨by omega,by omega⟩,by omega,⟨by omega,by omega⟩,by omega,⟨by omega,by omega⟩,by omega,aq (by kernel_rfl),rfl⟩
def Ki (q r:Nat)(b b':List ax):Prop:=b.length≤b'.length∧∀ i s,b[i]? = some s→i≠q→i≠r→b'[i]? = some s
theorem Ki.refl (q r:Nat)(b:List ax):Ki q r b b:=⟨Nat.le_refl _,fun _ _ h _ _=>h⟩
theorem F7 (h:QS b q j r m L P)(hP:P.length≤1000000)(n:Nat) :
 SC Tryz.V 239 [.p q 0,.E7 3 (.int .i64 n)] b (fun x b'=>x=.eS []∧∃ r',b.length≤r'∧QS b' q j r' m L (P++[n])∧Ki q r b b'):=by
 have hq:=h.bq
 have hj:=h.bj
 have lL:=(zMR.1 hq).1
 have mU:=(zMR.1 hj).1
 have hqj:q≠j:=by rintro rfl;rw[hq]at hj;cases hj
 have gE:∀ (l:List ax) X,(b++l).set q X=b.set q X++l:=fun l X=>bS lL l X
 refine cz 3000 Tryz.func239 rfl Tryz.ntmps239 Tryz.results239 Tryz.call239 (by simp) (aw b.length _ (by simp[within,within.ay,lL])) ?_
 by_cases h0:P.length=0
 ·rw[if_pos h0]at hq
  obtain rfl:P=[]:=List.length_eq_zero_iff.1 h0
  simp only[ad,↓Xn,↓Xo,↓Xg,↓Xd,↓Xe,↓Xf,Tryz.VΓ,Tryz.Γs,Xp,Xi,Nat.reduceAdd,Nat.reduceSub,Nat.reduceLT,Nat.reduceLeDiff,reduceIte,reduceCtorEq,Nat.reduceEqDiff,implies_true,forall_const,aa,av,beq_self_eq_true,bne_self_eq_false,Int.reduceBEq,Int.reduceBNe,Int.reduceLT,Int.reduceLE,hq,af hq,gE]
  refine⟨by decide,⟨by decide,by decide⟩,b.length+1,by omega,⟨Cn lL _ _,fun _=>aZ (by simp) _ 1,af (aI hj hqj _) _,fun _=>by omega⟩,by simp,fun i s hi h1 h2=>af (aI hi (Ne.symm h1) _) _⟩
 ·rw[if_neg h0]at hq
  have hr:=h.br h0
  have hrl:=(zMR.1 hr).1
  have hqr:r≠q:=by rintro rfl;rw[hq]at hr;cases hr
  have hrj:=h.rj h0
  have hsr:∀ (l:List ax) X,(b++l).set r X=b.set r X++l:=fun l X=>bS hrl l X
  have hset2:∀ (l:List ax) Y X,(b.set r Y++l).set q X=(b.set r Y).set q X++l:=fun l Y X=>bS (by simpa using lL) l X
  have Jw:=fun Y=>af (aI hq hqr Y)
  simp only[ad,↓Xn,↓Xo,↓Xg,↓Xd,↓Xe,↓Xf,Tryz.VΓ,Tryz.Γs,Xp,Xi,Nat.reduceAdd,Nat.reduceSub,Nat.reduceLT,Nat.reduceLeDiff,reduceIte,reduceCtorEq,Nat.reduceEqDiff,implies_true,forall_const,aa,av,beq_self_eq_true,bne_self_eq_false,Int.reduceBEq,Int.reduceBNe,Int.reduceLT,Int.reduceLE,hq,af hq,af hr,gE,hsr,hset2,Jw]
  refine⟨by decide,⟨by unfold maxLen;omega,by omega⟩,b.length+1,by omega,⟨?_,fun _=>?_,af (aI (aI hj hrj _) hqj _) _,fun _=>by omega⟩,by simp,fun i s hi h1 h2=>af (aI (aI hi (Ne.symm h2) _) (Ne.symm h1) _) _⟩
  ·rw[if_neg (by simp),zMS];exact Cn (by simpa using lL) _ _
  ·rw[aZ (by simp)];simp[wg]
end
open Go Vc Go.RowKit Wf
theorem FH:∀ a c:Bytes,decide (Lib.compareBytes a c<0)=blt a c
 | [],[]=>rfl
 | [],_::_=>rfl
 | _::_,[]=>rfl
 | x::a,y::c=>by
   have ih:=FH a c
   simp only[blt]at ih
   by_cases e:x=y
   ·subst e
    simp[Lib.compareBytes,blt,Op.bytesLess,UInt8.lt_irrefl,← ih]
   ·by_cases h:x<y
    ·simp[Lib.compareBytes,blt,Op.bytesLess,h,e]
    ·have h2:y<x:=by
      rcases UInt8.lt_or_eq_of_le (UInt8.not_lt.1 h) with h2|h2
      ·exact h2
      ·exact absurd h2.symm e
     simp[Lib.compareBytes,blt,Op.bytesLess,h,h2,e]
theorem CH:∀ a c:Bytes,(Lib.compareBytes a c==0)=(a==c)
 | [],[]=>rfl
 | [],_::_=>rfl
 | _::_,[]=>rfl
 | x::a,y::c=>by
   have ih:=CH a c
   simp only[Lib.compareBytes]
   split
   ·rename_i h
    have:x≠y:=by rintro rfl;exact absurd h (UInt8.lt_irrefl _)
    simp[this]
   ·split
    ·rename_i h1 h
     have:x≠y:=by rintro rfl;exact absurd h (UInt8.lt_irrefl _)
     simp[this]
    ·rename_i h1 h2
     have:x=y:=UInt8.le_antisymm (UInt8.not_lt.1 h2) (UInt8.not_lt.1 h1)
     subst this
     rw[ih];simp
theorem Gi (a c:Bytes):PC Tryz.V 58 [.str a,.str c] (.int .i64 (Lib.compareBytes a c)) :=
 ⟨Tryz.call58,by simp[flat,flat.ai],by simp[flat,flat.ai],fun w hE=>(Tryz.strings_Compare ⟨a.toArray⟩ ⟨c.toArray⟩ w).mono fun _ _ ⟨h,k⟩=>⟨by rw[h];rfl,cV k.symm⟩⟩
theorem half2 {k:Nat}:shI .shr .u64 (k:Int) 1=((k / 2:Nat):Int):=by
 show Int.fdiv (k:Int) (2 ^ (1:Int).toNat)=_
 have:(2:Int) ^ (1:Int).toNat=2:=by decide
 rw[this]
 simp[Int.fdiv_eq_ediv]
section
variable {b:List ax} {q g:Nat} {L:List En} {m:Bool} {t:Bytes}
theorem AN (e:En)(h1:one e.v.tr=true)(hw:within b.length e.v.tr=true):SC Tryz.V 57 [.agg (enc e),.str t] b (fun r b'=>r=.int .i64 (Lib.compareBytes e.key t)∧b'=b):=by
 refine dw rfl ?_
 have he:enc e=[.int .i64 e.v.err,.int .i64 e.v.id.kind,.str e.v.id.text,.str e.v.id.host,.int .i64 e.v.id.port,.int .i64 e.v.bE.kind,.str e.v.bE.text,.str e.v.bE.host,.int .i64 e.v.bE.port,.bool e.v.store,.int .u64 e.v.df,e.v.tr,.int .u64 e.stored,.int .u64 e.aS]:=rfl
 refine cz 3000 Tryz.func57 rfl Tryz.ntmps57 Tryz.results57 Tryz.call57 (by simp) (aw b.length _ (by simp[within,within.ay,he,hw])) ?_
 simp only[ad,↓Xn,↓Xo,↓Xg,↓Xd,↓Xe,↓Xf,Tryz.VΓ,Tryz.Γs,Xp,Xi,Nat.reduceAdd,Nat.reduceSub,Nat.reduceLT,Nat.reduceLeDiff,reduceIte,reduceCtorEq,Nat.reduceEqDiff,implies_true,forall_const,aa,av,beq_self_eq_true,bne_self_eq_false,Int.reduceBEq,Int.reduceBNe,Int.reduceLT,Int.reduceLE,he,h1]
 refine ae (Gi _ _) ?_
 simp only[ad,↓Xn,↓Xo,↓Xg,↓Xd,↓Xe,↓Xf,Tryz.VΓ,Tryz.Γs,Xp,Xi,Nat.reduceAdd,Nat.reduceSub,Nat.reduceLT,Nat.reduceLeDiff,reduceIte,reduceCtorEq,Nat.reduceEqDiff,implies_true,forall_const,aa,av,beq_self_eq_true,bne_self_eq_false,Int.reduceBEq,Int.reduceBNe,Int.reduceLT,Int.reduceLE]
 exact⟨rfl,(Kp.refl _).app _⟩
theorem sc_Bin (hq:b[q]? = some (.own (L.flatMap enc) 43 14 L.length m))(ha:mT En.key L)(hl:L.length≤1000000)(wW:∀ e∈L,one e.v.tr=true∧within b.length e.v.tr=true) :
 SC Tryz.V 56 [.o q L.length,.str t,.fn (.func 57) []] b (fun r b'=>r=.eS [.int .i64 (gq En.key L t),.bool (dC En.key L t)]∧b'=b):=by
 have lL:=(zMR.1 hq).1
 refine cz 3000 Tryz.func56 rfl Tryz.ntmps56 Tryz.results56 Tryz.call56 (by simp) (aw b.length _ (by simp[within,within.ay,lL])) ?_
 simp only[ad,↓Xn,↓Xo,↓Xg,↓Xd,↓Xe,↓Xf,Tryz.VΓ,Tryz.Γs,Xp,Xi,Nat.reduceAdd,Nat.reduceSub,Nat.reduceLT,Nat.reduceLeDiff,reduceIte,reduceCtorEq,Nat.reduceEqDiff,implies_true,forall_const,aa,av,beq_self_eq_true,bne_self_eq_false,Int.reduceBEq,Int.reduceBNe,Int.reduceLT,Int.reduceLE]
 refine aM (fun σ=>∃ (i j:Nat),lk 0 σ.t=some (.o q L.length)∧lk 1 σ.t=some (.str t)∧lk 2 σ.t=some (.fn (.func 57) [])∧lk 8 σ.t=some (.int .i64 L.length)∧lk 9 σ.t=some (.int .i64 i)∧lk 10 σ.t=some (.int .i64 j)∧i≤gq En.key L t∧gq En.key L t≤j∧j≤L.length∧σ.b=b) (fun σ=>ja 10 σ - ja 9 σ) ⟨0,L.length,rfl,rfl,rfl,rfl,rfl,rfl,by omega,zT _ _,by omega,rfl⟩ ?_
 rintro⟨t',b1⟩ ⟨i,j,l0,l1,l2,l8,l9,l10,hi,hj,mU,rfl⟩
 simp only at l0 l1 l2 l8 l9 l10
 rw[az l10,az l9]
 by_cases c:i<j
 ·have ci:decide ((i:Int)<(j:Int))=true:=by simpa using c
  have e2:((i:Int)+(j:Int))=((i+j:Nat):Int):=by omega
  obtain⟨h,hh⟩:∃ h,h=(i+j) / 2:=⟨_,rfl⟩
  have w1:IntKind.u64.wrap ((i+j:Nat):Int)=((i+j:Nat):Int):=by simp only[IntKind.wrap,IntKind.signed,IntKind.bits];simp;omega
  have w2:shI .shr .u64 ((i+j:Nat):Int) 1=(h:Int):=by rw[half2,hh]
  have w3:IntKind.i64.wrap (h:Int)=(h:Int):=by rw[IntKind.wrap_i64];omega
  have hL:h<L.length:=by omega
  have dW:=jg L h hL
  have h0:=wW _ (zM4 hL)
  simp only[ad,↓Xn,↓Xo,↓Xg,↓Xd,↓Xe,↓Xf,Tryz.VΓ,Tryz.Γs,Xp,Xi,Nat.reduceAdd,Nat.reduceSub,Nat.reduceLT,Nat.reduceLeDiff,reduceIte,reduceCtorEq,Nat.reduceEqDiff,implies_true,forall_const,aa,av,beq_self_eq_true,bne_self_eq_false,Int.reduceBEq,Int.reduceBNe,Int.reduceLT,Int.reduceLE,l0,l1,l2,l8,l9,l10,ci,hq,e2,w1,w2,w3,dW,Int.toNat_natCast]
  refine⟨by omega,⟨by omega,by omega⟩,by rw[aT];omega,aJ (AN _ h0.1 h0.2) ?_⟩
  rintro x b2 ⟨rfl,rfl⟩
  have Jq:=re ha t h hL
  have Ci:=FH (En.key L[h]) t
  cases hb:blt (En.key L[h]) t
  ·rw[hb]at Ci Jq
   simp only[ad,↓Xn,↓Xo,↓Xg,↓Xd,↓Xe,↓Xf,Tryz.VΓ,Tryz.Γs,Xp,Xi,Nat.reduceAdd,Nat.reduceSub,Nat.reduceLT,Nat.reduceLeDiff,reduceIte,reduceCtorEq,Nat.reduceEqDiff,implies_true,forall_const,aa,av,beq_self_eq_true,bne_self_eq_false,Int.reduceBEq,Int.reduceBNe,Int.reduceLT,Int.reduceLE,l0,l1,l2,l8,l9,l10,Ci]
   refine⟨⟨i,h,rfl,rfl,hi,by have:=mt Jq.2 (by simp);omega,by omega⟩,?_⟩
   rw[az (show lk 10 _=some (.int .i64 (h:Int)) from rfl),az (show lk 9 _=some (.int .i64 (i:Int)) from l9)];omega
  ·rw[hb]at Ci Jq
   simp only[ad,↓Xn,↓Xo,↓Xg,↓Xd,↓Xe,↓Xf,Tryz.VΓ,Tryz.Γs,Xp,Xi,Nat.reduceAdd,Nat.reduceSub,Nat.reduceLT,Nat.reduceLeDiff,reduceIte,reduceCtorEq,Nat.reduceEqDiff,implies_true,forall_const,aa,av,beq_self_eq_true,bne_self_eq_false,Int.reduceBEq,Int.reduceBNe,Int.reduceLT,Int.reduceLE,l0,l1,l2,l8,l9,l10,Ci]
   refine⟨by omega,⟨h+1,j,rfl,rfl,by have:=Jq.1 rfl;omega,hj,mU⟩,?_⟩
   rw[az (show lk 10 _=some (.int .i64 (j:Int)) from l10),az (show lk 9 _=some (.int .i64 ((h+1:Nat):Int)) from rfl)];omega
 ·have ci:decide ((i:Int)<(j:Int))=false:=by simpa using c
  obtain rfl:i=gq En.key L t:=by omega
  by_cases c2:gq En.key L t<L.length
  ·have ci2:decide (((gq En.key L t:Nat):Int)<(L.length:Int))=true:=by simpa using c2
   have dW:=jg L _ c2
   have h0:=wW _ (zM4 c2)
   simp only[ad,↓Xn,↓Xo,↓Xg,↓Xd,↓Xe,↓Xf,Tryz.VΓ,Tryz.Γs,Xp,Xi,Nat.reduceAdd,Nat.reduceSub,Nat.reduceLT,Nat.reduceLeDiff,reduceIte,reduceCtorEq,Nat.reduceEqDiff,implies_true,forall_const,aa,av,beq_self_eq_true,bne_self_eq_false,Int.reduceBEq,Int.reduceBNe,Int.reduceLT,Int.reduceLE,l0,l1,l2,l8,l9,l10,ci,ci2,hq,dW]
   refine⟨⟨by omega,by omega⟩,by rw[aT];omega,aJ (AN _ h0.1 h0.2) ?_⟩
   rintro x b2 ⟨rfl,rfl⟩
   have hcz:=CH (En.key L[gq En.key L t]) t
   have Ji:dC En.key L t=(En.key L[gq En.key L t]==t):=by
    rw[Bool.eq_iff_iff,qQ ha,beq_iff_eq]
    exact⟨fun⟨_,e⟩=>e,fun e=>⟨c2,e⟩⟩
   simp only[ad,↓Xn,↓Xo,↓Xg,↓Xd,↓Xe,↓Xf,Tryz.VΓ,Tryz.Γs,Xp,Xi,Nat.reduceAdd,Nat.reduceSub,Nat.reduceLT,Nat.reduceLeDiff,reduceIte,reduceCtorEq,Nat.reduceEqDiff,implies_true,forall_const,aa,av,beq_self_eq_true,bne_self_eq_false,Int.reduceBEq,Int.reduceBNe,Int.reduceLT,Int.reduceLE,l0,l1,l2,l8,l9,l10,hcz]
   rw[Ji]
  ·have ci2:decide (((gq En.key L t:Nat):Int)<(L.length:Int))=false:=by simpa using c2
   simp only[ad,↓Xn,↓Xo,↓Xg,↓Xd,↓Xe,↓Xf,Tryz.VΓ,Tryz.Γs,Xp,Xi,Nat.reduceAdd,Nat.reduceSub,Nat.reduceLT,Nat.reduceLeDiff,reduceIte,reduceCtorEq,Nat.reduceEqDiff,implies_true,forall_const,aa,av,beq_self_eq_true,bne_self_eq_false,Int.reduceBEq,Int.reduceBNe,Int.reduceLT,Int.reduceLE,l0,l1,l2,l8,l9,l10,ci,ci2]
   have Ji:dC En.key L t=false:=by
    rw[← Bool.not_eq_true,qQ ha]
    exact fun⟨h,_⟩=>c2 h
   rw[Ji]
theorem sc_BinN:SC Tryz.V 56 [.aE,.str t,.fn (.func 57) []] b (fun r b'=>r=.eS [.int .i64 0,.bool false]∧b'=b):=by
 refine cz 3000 Tryz.func56 rfl Tryz.ntmps56 Tryz.results56 Tryz.call56 (by simp) (aw b.length _ (by simp[within,within.ay])) ?_
 simp only[ad,↓Xn,↓Xo,↓Xg,↓Xd,↓Xe,↓Xf,Tryz.VΓ,Tryz.Γs,Xp,Xi,Nat.reduceAdd,Nat.reduceSub,Nat.reduceLT,Nat.reduceLeDiff,reduceIte,reduceCtorEq,Nat.reduceEqDiff,implies_true,forall_const,aa,av,beq_self_eq_true,bne_self_eq_false,Int.reduceBEq,Int.reduceBNe,Int.reduceLT,Int.reduceLE]
 refine aM (fun σ=>lk 8 σ.t=some (.int .i64 0)∧lk 9 σ.t=some (.int .i64 0)∧lk 10 σ.t=some (.int .i64 0)∧σ.b=b) (fun σ=>0) ⟨rfl,rfl,rfl,rfl⟩ ?_
 rintro⟨t',b1⟩ ⟨l8,l9,l10,rfl⟩
 simp only at l8 l9 l10
 simp only[ad,↓Xn,↓Xo,↓Xg,↓Xd,↓Xe,↓Xf,Tryz.VΓ,Tryz.Γs,Xp,Xi,Nat.reduceAdd,Nat.reduceSub,Nat.reduceLT,Nat.reduceLeDiff,reduceIte,reduceCtorEq,Nat.reduceEqDiff,implies_true,forall_const,aa,av,beq_self_eq_true,bne_self_eq_false,Int.reduceBEq,Int.reduceBNe,Int.reduceLT,Int.reduceLE,l8,l9,l10]
def fT (b:List ax)(x:SV)(L:List En)(m:Bool):Prop:=(x=.aE∧L=[])∨∃ q,x=.o q L.length∧b[q]? = some (.own (L.flatMap enc) 43 14 L.length m)
theorem fT.one {x:SV}(h:fT b x L m):Vc.one x=true:=by
 rcases h with⟨rfl,-⟩|⟨q,rfl,-⟩ <;> rfl
theorem fT.within {x:SV}(h:fT b x L m):within b.length x=true:=by
 rcases h with⟨rfl,-⟩|⟨q,rfl,hq⟩
 ·rfl
 ·simp[Vc.within,(zMR.1 hq).1]
theorem fT.kp {b':List ax}{x:SV}(h:fT b x L m)(k:Kp b b'):fT b' x L m:=by
 rcases h with h|⟨q,rfl,hq⟩
 ·exact .inl h
 ·exact .inr ⟨q,rfl,k.at hq⟩
theorem yL {x:SV}(h:fT b x L m)(ha:mT En.key L)(hl:L.length≤1000000)(wW:∀ e∈L,one e.v.tr=true∧within b.length e.v.tr=true) :
 SC Tryz.V 35 [x,.str t] b (fun r b'=>r=.eS [.int .i64 (gq En.key L t),.bool (dC En.key L t)]∧b'=b):=by
 have hw:=h.within
 refine cz 3000 Tryz.func35 rfl Tryz.ntmps35 Tryz.results35 Tryz.call35 (by simp) (fun β β' hb=>aw b.length _ (by simp[within.ay,hw];rfl) β β' hb) ?_
 have ho:=h.one
 rcases h with⟨rfl,rfl⟩|⟨q,rfl,hq⟩
 ·simp only[ad,↓Xn,↓Xo,↓Xg,↓Xd,↓Xe,↓Xf,Tryz.VΓ,Tryz.Γs,Xp,Xi,Nat.reduceAdd,Nat.reduceSub,Nat.reduceLT,Nat.reduceLeDiff,reduceIte,reduceCtorEq,Nat.reduceEqDiff,implies_true,forall_const,aa,av,beq_self_eq_true,bne_self_eq_false,Int.reduceBEq,Int.reduceBNe,Int.reduceLT,Int.reduceLE]
  refine aJ sc_BinN ?_
  rintro y b1 ⟨rfl,rfl⟩
  simp only[ad,↓Xn,↓Xo,↓Xg,↓Xd,↓Xe,↓Xf,Tryz.VΓ,Tryz.Γs,Xp,Xi,Nat.reduceAdd,Nat.reduceSub,Nat.reduceLT,Nat.reduceLeDiff,reduceIte,reduceCtorEq,Nat.reduceEqDiff,implies_true,forall_const,aa,av,beq_self_eq_true,bne_self_eq_false,Int.reduceBEq,Int.reduceBNe,Int.reduceLT,Int.reduceLE]
  rfl
 ·simp only[ad,↓Xn,↓Xo,↓Xg,↓Xd,↓Xe,↓Xf,Tryz.VΓ,Tryz.Γs,Xp,Xi,Nat.reduceAdd,Nat.reduceSub,Nat.reduceLT,Nat.reduceLeDiff,reduceIte,reduceCtorEq,Nat.reduceEqDiff,implies_true,forall_const,aa,av,beq_self_eq_true,bne_self_eq_false,Int.reduceBEq,Int.reduceBNe,Int.reduceLT,Int.reduceLE]
  refine aJ (sc_Bin hq ha hl wW) ?_
  rintro y b1 ⟨rfl,rfl⟩
  simp only[ad,↓Xn,↓Xo,↓Xg,↓Xd,↓Xe,↓Xf,Tryz.VΓ,Tryz.Γs,Xp,Xi,Nat.reduceAdd,Nat.reduceSub,Nat.reduceLT,Nat.reduceLeDiff,reduceIte,reduceCtorEq,Nat.reduceEqDiff,implies_true,forall_const,aa,av,beq_self_eq_true,bne_self_eq_false,Int.reduceBEq,Int.reduceBNe,Int.reduceLT,Int.reduceLE]
end
end Go.Proofs.YteipdaijbncgeaaGreatDoor
namespace Vc
open Go Go.RowKit Wf
section
variable {V:Cx} {f:FuncId} {args:List SV} {bs:List ax}
theorem Am {β:Nat→Bt}{fp:Nat→Nat→Prop}{w:World}(fQ:∀ β',bw bs.length β β'→vZ β' fp w bs)(hG:∀ i r,bs[i]? = some r→r.cr=true→∀ k,fp i k→V.G≤k)(hE:V.E w) :
 Wd (V:=V) ⟨0,w,fun k=>∃ i r,bs[i]? = some r∧r.cr=true∧fp i k,hE,fun k ⟨i,r,hi,hm,hk⟩=>hG i r hi hm k hk,β,bs,fun k=>∃ i r,bs[i]? = some r∧fp i k⟩ β fp bs w :=
 ⟨mW.refl _ _,fQ,fun i r hi hm k hk=>.inr ⟨i,r,hi,hm,hk⟩,⟨bw.refl _ _,Nat.le_refl _⟩,fun i r hi k hk=>.inr ⟨i,r,hi,hk⟩⟩
theorem EL {q:Nat}{c:List SV}{e s n:Nat}(jf:Enters V f)(hq:bs[q]? = some (.own c e s n true)){c2:List SV}{n2:Nat}
 (h:∀ β fp w,(∀ β',bw bs.length β β'→vZ β' fp w bs)→V.E w→Calls V.P f (aG β args).toArray w fun ex w'=>∃ (b2:Bt) (f2:Nat→Prop),ex=.returned (oV b2 n2)∧mW (fp q) w w' ∧
   (∀ β',bw (bs.length+1) (mY β bs.length b2) β'→Holds β' b2 f2 w' (.own c2 e s n2 true))∧∀ k,f2 k→(fp q k∨w.heap.size≤k)∧k<w'.heap.size) :
 SC V f args bs (fun r b=>r=.o bs.length n2∧b=bs.set q .gone++[.own c2 e s n2 true]):=by
 refine⟨jf,fun β fp w fQ hG hE=>?_⟩
 refine(h β fp w fQ hE).mono ?_
 rintro ex w' ⟨b2,f2,rfl,jB,hh,GF⟩
 have lK:=(Am fQ hG hE).swap hq rfl jB (.own c2 e s n2 true) b2 f2 hh GF
 refine⟨.o bs.length n2,_,_,_,⟨rfl,rfl⟩,ez _ _ _,by simp,fun β' hβ=>⟨?_,lK.bx β' hβ⟩,lK.fr,lK.cr,lK.mi⟩
 have:=hβ bs.length (by simp)
 rw[gh]at this
 simp[ah,← this]
theorem yJ {e s:Nat}(jf:Enters V f){c2:List SV}{n2:Nat}
 (h:∀ β fp w,(∀ β',bw bs.length β β'→vZ β' fp w bs)→V.E w→Calls V.P f (aG β args).toArray w fun ex w'=>∃ (b2:Bt) (f2:Nat→Prop),ex=.returned (oV b2 n2)∧Below w.heap.size w w' ∧
   (∀ β',bw (bs.length+1) (mY β bs.length b2) β'→Holds β' b2 f2 w' (.own c2 e s n2 true))∧∀ k,f2 k→w.heap.size≤k∧k<w'.heap.size) :
 SC V f args bs (fun r b=>r=.o bs.length n2∧b=bs++[.own c2 e s n2 true]):=by
 refine⟨jf,fun β fp w fQ hG hE=>?_⟩
 refine(h β fp w fQ hE).mono ?_
 rintro ex w' ⟨b2,f2,rfl,hb,hh,GF⟩
 have lK:=(Am fQ hG hE).more hb (.own c2 e s n2 true) b2 f2 hh GF
 refine⟨.o bs.length n2,_,_,_,⟨rfl,rfl⟩,ez _ _ _,by simp,fun β' hβ=>⟨?_,lK.bx β' hβ⟩,lK.fr,lK.cr,lK.mi⟩
 have:=hβ bs.length (by simp)
 rw[gh]at this
 simp[ah,← this]
theorem oy {β β':Nat→Bt}{fp:Nat→Nat→Prop}{w:World}(fQ:∀ β',bw bs.length β β'→vZ β' fp w bs)(hβ:bw bs.length β β'){q:Nat}{c:List SV}{e s n:Nat}{m:Bool}(hq:bs[q]? = some (.own c e s n m)):c.map (ah β)=c.map (ah β'):=by
 have h1:=(fQ β (bw.refl _ _)).holds q _ hq
 have h2:=(fQ β' hβ).holds q _ hq
 have lL:=(zMR.1 hq).1
 rw[← hβ q lL]at h2
 rcases h1 with⟨-,-,rfl,-⟩|⟨-,-,-,-,l1,-⟩
 ·rfl
 ·rcases h2 with⟨-,-,rfl,-⟩|⟨-,-,-,-,l2,-⟩
  ·rfl
  ·exact qD (by simp) l1 l2
end
end Vc
