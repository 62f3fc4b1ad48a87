/- Texts of this claim, laid together: DidV, UriW3, UriN, UrlW2, RefUrl, UrlW3, UrlW4, WebW, WebV, IdentP, AcctW, IdentW, IdentK, IdentM, IdV, CacheP, Pick, Queue, FindC. -/
import Derived.Lib.QuietBelow
import Derived.Deep.QuietTactic
import Derived.BigQuiet
import Derived.MapKept
import Derived.WideKeyElems
import Derived.Test.YteipdaijbncgeaaGreatDoorQ5
open List renaming getElem?_eq_some_iff → zLn, length_append → zLo, getElem?_set_self → zLp, length_cons → zLq, getElem?_set_ne → zLr, getElem?_append_left → zLs, toArray → zLt, getD_eq_getElem?_getD → zLu, getElem_mem → zLv, getElem?_append_right → zLw, length_nil → zLx, take_length → zLy, take_succ_eq_append_getElem → zLA, getElem?_eq_none → zLB, length_set → zLC, cons_append → zLD, set_cons_succ → zLF, set_cons_zero → zLG, pairwise_iff_getElem → zLH, nil_append → zLI, flatten_cons → zLL, mem_iff_getElem → zLM, filter_cons_of_pos → zLO, filter_cons_of_neg → zLQ, mem_cons → zLR, append_nil → zLS, pairwise_cons → zLU, take_of_length_le → zLV, length_singleton → zLW, dropLast_eq_take → zLX, mem_cons_of_mem → zLZ
open And renaming intro → zLJ
open Nat renaming lt_of_lt_of_le → zLK, lt_or_ge → zLN
open Int renaming toNat → zLY
open Bool renaming and_eq_true → zL1
set_option linter.all false
set_option maxHeartbeats 16000000
set_option maxRecDepth 20000
namespace Go.Proofs.YteipdaijbncgeaaGreatDoor
open Go Vc Go.RowKit Wf
theorem rV (c:UInt8):PC Tryz.V 106 [.int .u8 c.toNat] (.bool (bT c)):=by
 refine aU 3000 Tryz.func106 rfl Tryz.ntmps106 Tryz.results106 Tryz.call106 (by simp) (by simp[flat,flat.ai]) (by simp[flat,flat.ai]) ?_
 simp only[ad,↓Xn,↓Xo,↓Xg,↓Xd,↓Xe,↓Xf,Tryz.VΓ,Tryz.Γs,Xp,Xi,Nat.reduceAdd,Nat.reduceSub,Nat.reduceLT,Nat.reduceLeDiff,reduceIte,reduceCtorEq,Nat.reduceEqDiff,implies_true,forall_const,aa]
 (refine ae (jj c) ?_;simp only[ad,↓Xn,↓Xo,↓Xg,↓Xd,↓Xe,↓Xf,Tryz.VΓ,Tryz.Γs,Xp,Xi,Nat.reduceAdd,Nat.reduceSub,Nat.reduceLT,Nat.reduceLeDiff,reduceIte,reduceCtorEq,Nat.reduceEqDiff,implies_true,forall_const,aa])
 unfold bT
 refine⟨fun h=>?_,fun h=>by rw[h];rfl⟩
 (refine ae (gQ c) ?_;simp only[ad,↓Xn,↓Xo,↓Xg,↓Xd,↓Xe,↓Xf,Tryz.VΓ,Tryz.Γs,Xp,Xi,Nat.reduceAdd,Nat.reduceSub,Nat.reduceLT,Nat.reduceLeDiff,reduceIte,reduceCtorEq,Nat.reduceEqDiff,implies_true,forall_const,aa])
 rw[h]
 refine⟨fun h2=>?_,fun h2=>by rw[h2];rfl⟩
 (refine ae (j9 c [46,45,95] (by decide)) ?_;simp only[ad,↓Xn,↓Xo,↓Xg,↓Xd,↓Xe,↓Xf,Tryz.VΓ,Tryz.Γs,Xp,Xi,Nat.reduceAdd,Nat.reduceSub,Nat.reduceLT,Nat.reduceLeDiff,reduceIte,reduceCtorEq,Nat.reduceEqDiff,implies_true,forall_const,aa])
 rw[h2];rfl
theorem Bu {s:Bytes}{i:Nat}(h:i<s.length):aO (s.take (i+1))=aO (s.take i)++gX s[i]:=by
 unfold aO
 rw[zLA h,List.flatMap_append,List.flatMap_cons,List.flatMap_nil,zLS]
theorem Da {n m k:Nat}:∀ {l:List Bytes},l.length≤n→(∀ y∈l,y.length≤m)→n * m≤k→l.flatten.length≤k:=by
 have:∀ (l:List Bytes),(∀ y∈l,y.length≤m)→l.flatten.length≤l.length * m:=by
  intro l
  induction l with
  | nil=>simp
  | cons x l ih =>
    intro h
    have h1:=h x List.mem_cons_self
    have h2:=ih (fun y hy=>h y (zLZ _ hy))
    rw[zLL,zLo,zLq,Nat.add_mul]
    omega
 intro l h1 h2 h3
 have:=this l h2
 exact Nat.le_trans this (Nat.le_trans (Nat.mul_le_mul_right _ h1) h3)
theorem sH (s:Bytes)(i:Nat):(aO (s.take i)).length≤3 * s.length:=by
 have:=fg (s.take i)
 have:(s.take i).length≤s.length:=by simp;omega
 omega
theorem kx (s:Bytes)(hs:s.length≤1000000):PC Tryz.V 107 [.str s] (.str (aO s)):=by
 refine aU 3000 Tryz.func107 rfl Tryz.ntmps107 Tryz.results107 Tryz.call107 (by simp) (by simp[flat,flat.ai]) (by simp[flat,flat.ai]) ?_
 simp only[ad,↓Xn,↓Xo,↓Xg,↓Xd,↓Xe,↓Xf,Tryz.VΓ,Tryz.Γs,Xp,Xi,Nat.reduceAdd,Nat.reduceSub,Nat.reduceLT,Nat.reduceLeDiff,reduceIte,reduceCtorEq,Nat.reduceEqDiff,implies_true,forall_const,aa]
 refine aJ (fun σ=>∃ i:Nat,i≤s.length∧lk 0 σ.t=some (.str s)∧lk 3 σ.t=some (.str (aO (s.take i)))∧lk 4 σ.t=some (.int .i64 i)) (fun σ=>s.length - iH 4 σ) ⟨0,by omega,rfl,rfl,rfl⟩ ?_
 rintro⟨t,b⟩ ⟨i,hi,h0,h3,h4⟩
 simp only at h0 h3 h4
 rw[ax h4]
 have mh:=sH s i
 by_cases aA:i<s.length
 ·have hg:s.getD i 0=s[i]:=by simp[List.getD,aA]
  have next:∀ (x:Bytes) (t':List (Nat × SV)),x=gX s[i]→lk 4 t'=some (.int .i64 ((i:Int)+1)) →
   (∃ k:Nat,k≤s.length∧SV.str (aO (s.take i)++x)=SV.str (aO (s.take k))∧SV.int IntKind.i64 ((i:Int)+1)=SV.int IntKind.i64 (k:Int))∧s.length - iH 4 ⟨t',b⟩<s.length - (i:Int).toNat:=fun x t' hx k4 =>
   ⟨⟨i+1,by omega,by rw[Bu aA,hx],rfl⟩,by rw[ax (σ:=⟨t',b⟩) k4];omega⟩
  simp only[ad,↓Xn,↓Xo,↓Xg,↓Xd,↓Xe,↓Xf,Tryz.VΓ,Tryz.Γs,Xp,Xi,Nat.reduceAdd,Nat.reduceSub,Nat.reduceLT,Nat.reduceLeDiff,reduceIte,reduceCtorEq,Nat.reduceEqDiff,implies_true,forall_const,aa,h0,h3,h4,hg]
  refine⟨fun _=>⟨⟨by omega,by omega⟩,?_⟩,fun h=>absurd h (by simp;omega)⟩
  (refine ae (rV s[i]) ?_;simp only[ad,↓Xn,↓Xo,↓Xg,↓Xd,↓Xe,↓Xf,Tryz.VΓ,Tryz.Γs,Xp,Xi,Nat.reduceAdd,Nat.reduceSub,Nat.reduceLT,Nat.reduceLeDiff,reduceIte,reduceCtorEq,Nat.reduceEqDiff,implies_true,forall_const,aa,h0,h3,h4,hg])
  refine⟨fun hp=>⟨by omega,⟨by omega,by omega,by omega⟩,by rw[sub_one aA,zLW];omega,⟨by omega,by omega⟩,next _ _ (by rw[sub_one aA,show gX s[i]=[s[i]] from if_pos hp]) rfl⟩,fun hp=>⟨⟨by omega,by omega⟩,?_⟩⟩
  (refine ae (j8 s[i]) ?_;simp only[ad,↓Xn,↓Xo,↓Xg,↓Xd,↓Xe,↓Xf,Tryz.VΓ,Tryz.Γs,Xp,Xi,Nat.reduceAdd,Nat.reduceSub,Nat.reduceLT,Nat.reduceLeDiff,reduceIte,reduceCtorEq,Nat.reduceEqDiff,implies_true,forall_const,aa,h0,h3,h4,hg])
  exact⟨by rw[show (jX s[i]).length=3 from rfl];omega,⟨by omega,by omega⟩,next _ _ (by rw[show gX s[i]=jX s[i] from if_neg (by rw[hp];simp)]) rfl⟩
 ·have jq:i=s.length:=by omega
  subst jq
  rw[zLy]at h3
  simp only[ad,↓Xn,↓Xo,↓Xg,↓Xd,↓Xe,↓Xf,Tryz.VΓ,Tryz.Γs,Xp,Xi,Nat.reduceAdd,Nat.reduceSub,Nat.reduceLT,Nat.reduceLeDiff,reduceIte,reduceCtorEq,Nat.reduceEqDiff,implies_true,forall_const,aa,h0,h3,h4]
  exact fun h=>absurd h (by simp)
theorem yf (s:Bytes)(hs:s.length≤1000000):PC Tryz.V 105 [.str s] (.bool (dy s)):=by
 refine aU 3000 Tryz.func105 rfl Tryz.ntmps105 Tryz.results105 Tryz.call105 (by simp) (by simp[flat,flat.ai]) (by simp[flat,flat.ai]) ?_
 simp only[ad,↓Xn,↓Xo,↓Xg,↓Xd,↓Xe,↓Xf,Tryz.VΓ,Tryz.Γs,Xp,Xi,Nat.reduceAdd,Nat.reduceSub,Nat.reduceLT,Nat.reduceLeDiff,reduceIte,reduceCtorEq,Nat.reduceEqDiff,implies_true,forall_const,aa]
 refine aJ (fun σ=>∃ i:Nat,i≤s.length∧lk 0 σ.t=some (.str s)∧lk 3 σ.t=some (.int .i64 i)∧(s.take i).all eQ=true) (fun σ=>s.length - iH 3 σ) ⟨0,by omega,rfl,rfl,rfl⟩ ?_
 rintro⟨t,b⟩ ⟨i,hi,h0,h3,bU⟩
 simp only at h0 h3
 rw[ax h3]
 by_cases aA:i<s.length
 ·have hg:s.getD i 0=s[i]:=by simp[List.getD,aA]
  have jL:eQ s[i]=false→dy s=false:=fun h=>by
   unfold dy
   rw[cQ aA h,Bool.and_false]
  simp only[ad,↓Xn,↓Xo,↓Xg,↓Xd,↓Xe,↓Xf,Tryz.VΓ,Tryz.Γs,Xp,Xi,Nat.reduceAdd,Nat.reduceSub,Nat.reduceLT,Nat.reduceLeDiff,reduceIte,reduceCtorEq,Nat.reduceEqDiff,implies_true,forall_const,aa,h0,h3,hg]
  refine⟨fun _=>⟨⟨by omega,by omega⟩,?_⟩,fun h=>absurd h (by simp;omega)⟩
  (refine ae (gQ s[i]) ?_;simp only[ad,↓Xn,↓Xo,↓Xg,↓Xd,↓Xe,↓Xf,Tryz.VΓ,Tryz.Γs,Xp,Xi,Nat.reduceAdd,Nat.reduceSub,Nat.reduceLT,Nat.reduceLeDiff,reduceIte,reduceCtorEq,Nat.reduceEqDiff,implies_true,forall_const,aa,h0,h3,hg])
  have fin:eQ s[i]=true→∀ (t':List (Nat × SV)),lk 3 t'=some (.int .i64 ((i:Int)+1))→(∃ k:Nat,k≤s.length∧SV.int IntKind.i64 ((i:Int)+1)=SV.int IntKind.i64 (k:Int)∧(s.take k).all eQ=true)∧s.length - iH 3 ⟨t',b⟩<s.length - (i:Int).toNat:=fun hm t' k6 =>
   ⟨⟨i+1,by omega,rfl,aS aA bU hm⟩,by rw[ax (σ:=⟨t',b⟩) k6];omega⟩
  cases hd:isDigit s[i]
  ·refine⟨fun _=>⟨⟨by omega,by omega⟩,fun h1=>⟨⟨by omega,by omega⟩,fun h2=>?_,fun h2=>⟨⟨by omega,by omega⟩,fin ?_ _ rfl⟩⟩,fun h1=>?_⟩,fun h=>(by cases h)⟩
   ·rw[jL (by rw[im _ hd];simp at h1 h2 ⊢;omega)]
   ·rw[im _ hd];simp at h1 h2 ⊢;omega
   ·rw[jL (by rw[im _ hd];simp at h1 ⊢;omega)]
  ·exact⟨fun h=>(by cases h),fun _=>⟨⟨by omega,by omega⟩,fin (by unfold eQ;rw[hd];rfl) _ rfl⟩⟩
 ·have jq:i=s.length:=by omega
  subst jq
  rw[zLy]at bU
  simp only[ad,↓Xn,↓Xo,↓Xg,↓Xd,↓Xe,↓Xf,Tryz.VΓ,Tryz.Γs,Xp,Xi,Nat.reduceAdd,Nat.reduceSub,Nat.reduceLT,Nat.reduceLeDiff,reduceIte,reduceCtorEq,Nat.reduceEqDiff,implies_true,forall_const,aa,h0,h3]
  refine⟨fun h=>absurd h (by simp),fun _=>?_⟩
  unfold dy
  rw[bU,Bool.and_true]
  cases s <;> rfl
theorem mY (s:Bytes):PC Tryz.V 78 [.str s] (.eN [eW (aZ s).1,.int .i64 (aZ s).2]):=by
 refine aU 3000 Tryz.func78 rfl Tryz.ntmps78 Tryz.results78 Tryz.call78 (by simp) (by simp[flat,flat.ai,eW,dusv]) (by simp[flat,flat.ai,eW,dusv]) ?_
 simp only[ad,↓Xn,↓Xo,↓Xg,↓Xd,↓Xe,↓Xf,Tryz.VΓ,Tryz.Γs,Xp,Xi,Nat.reduceAdd,Nat.reduceSub,Nat.reduceLT,Nat.reduceLeDiff,reduceIte,reduceCtorEq,Nat.reduceEqDiff,implies_true,forall_const,aa]
 unfold aZ
 refine⟨fun h=>?_,fun h=>?_⟩
 ·have h:4096<s.length:=(by simp at h;omega)
  rw[if_pos h];rfl
 have h:¬ 4096<s.length:=(by simp at h;omega)
 rw[if_neg h]
 have pp:=bM s jY
 rw[show Lib.hasPrefix s jY=jY.isPrefixOf s from rfl]at pp
 (refine ae pp ?_;simp only[ad,↓Xn,↓Xo,↓Xg,↓Xd,↓Xe,↓Xf,Tryz.VΓ,Tryz.Γs,Xp,Xi,Nat.reduceAdd,Nat.reduceSub,Nat.reduceLT,Nat.reduceLeDiff,reduceIte,reduceCtorEq,Nat.reduceEqDiff,implies_true,forall_const,aa])
 refine⟨fun h2=>(by rw[if_pos (by simpa using h2)];rfl),fun h2=>?_⟩
 have h2:jY.isPrefixOf s=true:=by simpa using h2
 rw[if_neg (by rw[h2];simp),show zLY 4=4 from rfl]
 have hS:(s.drop 4).length≤4096:=by simp;omega
 refine⟨⟨by omega,?_⟩,?_⟩
 ·have:=(List.isPrefixOf_iff_prefix.1 h2).length_le
  rw[show jY.length=4 from rfl]at this
  omega
 generalize s.drop 4=S at hS ⊢
 have pi:=bg S [58] (by omega) (by decide)
 rw[dI]at pi
 (refine ae pi ?_;simp only[ad,↓Xn,↓Xo,↓Xg,↓Xd,↓Xe,↓Xf,Tryz.VΓ,Tryz.Γs,Xp,Xi,Nat.reduceAdd,Nat.reduceSub,Nat.reduceLT,Nat.reduceLeDiff,reduceIte,reduceCtorEq,Nat.reduceEqDiff,implies_true,forall_const,aa])
 have fT:=cq (·==58) S
 unfold lQ
 refine⟨fun h3=>?_,fun h3=>?_⟩
 ·have h3:pre (·==58) S=S.length:=by simp at h3;omega
  rw[fC h3,if_pos rfl];rfl
 have h3:¬ pre (·==58) S=S.length:=by simp at h3;omega
 rw[show aM 58 S=(S.take (pre (·==58) S),S.drop (pre (·==58) S+1),true) from if_pos (by omega)]
 refine⟨⟨by omega,by omega⟩,?_⟩
 simp only[Int.toNat_natCast]
 have pm:=yf (S.take (pre (·==58) S)) (by simp;omega)
 (refine ae pm ?_;simp only[ad,↓Xn,↓Xo,↓Xg,↓Xd,↓Xe,↓Xf,Tryz.VΓ,Tryz.Γs,Xp,Xi,Nat.reduceAdd,Nat.reduceSub,Nat.reduceLT,Nat.reduceLeDiff,reduceIte,reduceCtorEq,Nat.reduceEqDiff,implies_true,forall_const,aa])
 refine⟨fun h4=>?_,fun h4=>?_⟩
 ·rw[if_pos (by simpa using h4)];rfl
 rw[if_neg (by simpa using h4),Bv]
 have hM:(S.drop (pre (·==58) S+1)).length≤4096:=by simp;omega
 generalize S.drop (pre (·==58) S+1)=I at hM ⊢
 refine⟨⟨by omega,by omega⟩,⟨by omega,by omega⟩,?_⟩
 have w9:=ig 58 I
 have hct:=iD 58 I
 have hcc:=List.count_le_length (a:=(58:UInt8)) (l:=I)
 refine aG (pI I 58 (by omega)) ?_
 rintro r b ⟨j,rfl,lr,hj,cg⟩
 generalize aB 58 I=L at *
 simp only at lr hj cg
 have eU:=cg.at (j:=0) rfl
 simp only[ad,↓Xn,↓Xo,↓Xg,↓Xd,↓Xe,↓Xf,Tryz.VΓ,Tryz.Γs,Xp,Xi,Nat.reduceAdd,Nat.reduceSub,Nat.reduceLT,Nat.reduceLeDiff,reduceIte,reduceCtorEq,Nat.reduceEqDiff,implies_true,forall_const,aa,hj]
 refine aJ (fun σ=>∃ k:Nat,k≤L.length∧lk 0 σ.t=some (.str S)∧lk 2 σ.t=some (.p 0 0)∧lk 3 σ.t=some (.int .i64 0)∧lk 4 σ.t=some (.int .i64 (pre (·==58) S))∧lk 5 σ.t=some (.o j L.length)∧lk 46 σ.t=some (.o j L.length)∧lk 47 σ.t=some (.int .i64 L.length)∧lk 48 σ.t=some (.int .i64 k) ∧
  σ.b[0]? = some (.cells [.str [],.str []] 123 true)∧σ.b[j]? = some (.own (L.map SV.str) 9 1 L.length true)∧∀ y∈L.take k,PU.bad ∉ az y) (fun σ=>L.length - iH 48 σ) ⟨0,by omega,rfl,rfl,rfl,rfl,rfl,rfl,rfl,rfl,eU,hj,by simp⟩ ?_
 clear eU hj cg
 rintro⟨t,b⟩ ⟨k,hk,h0,h2,h3,h4,h5,h46,FB,h48,eU,hj,bU⟩
 simp only at h0 h2 h3 h4 h5 h46 FB h48 eU hj
 rw[ax h48]
 have eV:∀ X,(b.set 0 X)[0]? = some X:=fun X=>zLp (zLn.1 eU).1
 by_cases aA:k<L.length
 ·have hx:(L.map SV.str)[k * 1]? = some (.str L[k]):=by simp[aA]
  have DW:=w9 L[k] (zLv aA)
  have pd:=eY L[k]
  rw[lS (by omega)]at pd
  simp only[ad,↓Xn,↓Xo,↓Xg,↓Xd,↓Xe,↓Xf,Tryz.VΓ,Tryz.Γs,Xp,Xi,Nat.reduceAdd,Nat.reduceSub,Nat.reduceLT,Nat.reduceLeDiff,reduceIte,reduceCtorEq,Nat.reduceEqDiff,implies_true,forall_const,aa,h0,h2,h3,h4,h5,h46,FB,h48,eU,hj,eV,hx]
  refine⟨fun _=>⟨⟨by omega,by omega⟩,by simp;omega,?_⟩,fun h=>absurd h (by simp;omega)⟩
  by_cases jL:PU.bad∈az L[k]
  ·rw[if_pos jL]at pd
   rw[if_pos ⟨_,zLv aA,jL⟩]
   (refine ae pd ?_;simp only[ad,↓Xn,↓Xo,↓Xg,↓Xd,↓Xe,↓Xf,Tryz.VΓ,Tryz.Γs,Xp,Xi,Nat.reduceAdd,Nat.reduceSub,Nat.reduceLT,Nat.reduceLeDiff,reduceIte,reduceCtorEq,Nat.reduceEqDiff,implies_true,forall_const,aa,h0,h2,h3,h4,h5,h46,FB,h48,eU,hj,eV,hx,beq_self_eq_true,bne_self_eq_false,Int.reduceBEq,Int.reduceBNe,Int.reduceLT,Int.reduceLE])
   rfl
  ·rw[if_neg jL]at pd
   (refine ae pd ?_;simp only[ad,↓Xn,↓Xo,↓Xg,↓Xd,↓Xe,↓Xf,Tryz.VΓ,Tryz.Γs,Xp,Xi,Nat.reduceAdd,Nat.reduceSub,Nat.reduceLT,Nat.reduceLeDiff,reduceIte,reduceCtorEq,Nat.reduceEqDiff,implies_true,forall_const,aa,h0,h2,h3,h4,h5,h46,FB,h48,eU,hj,eV,hx,beq_self_eq_true,bne_self_eq_false,Int.reduceBEq,Int.reduceBNe,Int.reduceLT,Int.reduceLE])
   refine⟨⟨by omega,by omega⟩,⟨k+1,by omega,rfl,fun y hy=>?_⟩,?_⟩
   ·rw[zLA aA]at hy
    rcases List.mem_append.1 hy with hy|hy
    ·exact bU y hy
    ·rw[List.mem_singleton.1 hy];exact jL
   ·rw[ax (k:=.i64) (n:=(k:Int)+1) rfl];omega
 ·have jq:k=L.length:=by omega
  subst jq
  rw[zLy]at bU
  rw[if_neg (fun⟨y,hy,hb⟩=>bU y hy hb)]
  simp only[ad,↓Xn,↓Xo,↓Xg,↓Xd,↓Xe,↓Xf,Tryz.VΓ,Tryz.Γs,Xp,Xi,Nat.reduceAdd,Nat.reduceSub,Nat.reduceLT,Nat.reduceLeDiff,reduceIte,reduceCtorEq,Nat.reduceEqDiff,implies_true,forall_const,aa,h0,h2,h3,h4,h5,h46,FB,h48,eU,hj,eV]
  refine⟨fun h=>absurd h (by simp),fun _=>?_⟩
  have hbad2:∀ y∈L,PU.bad ∉ az y:=bU
  clear bU h46 FB h48 aA hk
  refine aJ (fun σ=>∃ k:Nat,k≤L.length∧lk 0 σ.t=some (.str S)∧lk 2 σ.t=some (.p 0 0)∧lk 3 σ.t=some (.int .i64 0)∧lk 4 σ.t=some (.int .i64 (pre (·==58) S))∧lk 5 σ.t=some (.o j L.length)∧lk 61 σ.t=some (.o j L.length)∧lk 62 σ.t=some (.int .i64 L.length)∧lk 63 σ.t=some (.int .i64 k)∧lk 10 σ.t=some (.str (eB (L.take k))) ∧
   σ.b[0]? = some (.cells [.str [],.str []] 123 true)∧σ.b[j]? = some (.own (L.map SV.str) 9 1 L.length true)∧(L.take k).all dv=true) (fun σ=>L.length - iH 63 σ) ⟨0,by omega,h0,h2,h3,h4,h5,rfl,rfl,rfl,rfl,eU,hj,rfl⟩ ?_
  clear eU hj h0 h2 h3 h4 h5 eV
  rintro⟨t,b⟩ ⟨k,hk,h0,h2,h3,h4,h5,FA,Fz,sF,fc,eU,hj,bU⟩
  simp only at h0 h2 h3 h4 h5 FA Fz sF fc eU hj
  have eV:∀ X,(b.set 0 X)[0]? = some X:=fun X=>zLp (zLn.1 eU).1
  rw[ax sF]
  by_cases aA:k<L.length
  ·have hx:(L.map SV.str)[k * 1]? = some (.str L[k]):=by simp[aA]
   have DW:=w9 L[k] (zLv aA)
   have hxb:=hbad2 L[k] (zLv aA)
   simp only[ad,↓Xn,↓Xo,↓Xg,↓Xd,↓Xe,↓Xf,Tryz.VΓ,Tryz.Γs,Xp,Xi,Nat.reduceAdd,Nat.reduceSub,Nat.reduceLT,Nat.reduceLeDiff,reduceIte,reduceCtorEq,Nat.reduceEqDiff,implies_true,forall_const,aa,h0,h2,h3,h4,h5,FA,Fz,sF,fc,eU,hj,eV,hx]
   refine⟨fun _=>⟨⟨by omega,by omega⟩,by simp;omega,?_⟩,fun h=>absurd h (by simp;omega)⟩
   have hidl:=xL (L.take k)
   have hid2:(L.take k).flatten.length≤4097 * 4097:=Da (n:=4097) (m:=4097) (by simp;omega) (fun y hy=>by have:=w9 y (List.mem_of_mem_take hy);omega) (Nat.le_refl _)
   have HB:(L.take k).length≤4097:=by simp;omega
   have hsj:=vG aA
   have hxa:dv L[k]=false→L.all dv=false:=fun h=>cQ aA h
   have hxo:dv L[k]=true→(L.take (k+1)).all dv=true:=fun h=>aS aA bU h
   clear bU
   generalize L[k]=x at *
   refine aJ (fun σ=>∃ i:Nat,i≤x.length∧lk 0 σ.t=some (.str S)∧lk 2 σ.t=some (.p 0 0)∧lk 3 σ.t=some (.int .i64 0)∧lk 4 σ.t=some (.int .i64 (pre (·==58) S))∧lk 5 σ.t=some (.o j L.length)∧lk 61 σ.t=some (.o j L.length)∧lk 62 σ.t=some (.int .i64 L.length)∧lk 63 σ.t=some (.int .i64 k)∧lk 11 σ.t=some (.int .i64 k)∧lk 10 σ.t=some (.str (eB (L.take k)))∧lk 12 σ.t=some (.str x)∧lk 13 σ.t=some (.int .i64 i) ∧
    σ.b[0]? = some (.cells [.str [],.str []] 123 true)∧σ.b[j]? = some (.own (L.map SV.str) 9 1 L.length true)∧(x.take i).all (fun c=>bT c||c==37)=true) (fun σ=>x.length - iH 13 σ) ⟨0,by omega,h0,h2,h3,h4,h5,FA,Fz,sF,rfl,fc,rfl,rfl,eU,hj,rfl⟩ ?_
   clear eU hj h0 h2 h3 h4 h5 eV FA Fz sF fc
   rintro⟨t,b⟩ ⟨i,hi,h0,h2,h3,h4,h5,FA,Fz,sF,Ig,fc,h12,h13,eU,hj,bU⟩
   simp only at h0 h2 h3 h4 h5 FA Fz sF Ig fc h12 h13 eU hj
   have eV:∀ X,(b.set 0 X)[0]? = some X:=fun X=>zLp (zLn.1 eU).1
   rw[ax h13]
   by_cases dR:i<x.length
   ·have hg:x.getD i 0=x[i]:=by simp[List.getD,dR]
    simp only[ad,↓Xn,↓Xo,↓Xg,↓Xd,↓Xe,↓Xf,Tryz.VΓ,Tryz.Γs,Xp,Xi,Nat.reduceAdd,Nat.reduceSub,Nat.reduceLT,Nat.reduceLeDiff,reduceIte,reduceCtorEq,Nat.reduceEqDiff,implies_true,forall_const,aa,h0,h2,h3,h4,h5,FA,Fz,sF,fc,eU,hj,eV,Ig,h12,h13,hg]
    refine⟨fun _=>⟨⟨by omega,by omega⟩,?_⟩,fun h=>absurd h (by simp;omega)⟩
    (refine ae (rV x[i]) ?_;simp only[ad,↓Xn,↓Xo,↓Xg,↓Xd,↓Xe,↓Xf,Tryz.VΓ,Tryz.Γs,Xp,Xi,Nat.reduceAdd,Nat.reduceSub,Nat.reduceLT,Nat.reduceLeDiff,reduceIte,reduceCtorEq,Nat.reduceEqDiff,implies_true,forall_const,aa,h0,h2,h3,h4,h5,FA,Fz,sF,fc,eU,hj,eV,Ig,h12,h13,hg])
    have hb37:=cA dR 37 (n:=37) rfl
    have hb38:((x[i].toNat:Int) != 37)=(x[i] != 37):=by
     show (!_)=(!_);rw[← hb37,hg]
    rw[hb38]
    have fin:(bT x[i]||x[i]==37)=true→∀ (t':List (Nat × SV)),lk 13 t'=some (.int .i64 ((i:Int)+1))→(∃ m:Nat,m≤x.length∧SV.int IntKind.i64 ((i:Int)+1)=SV.int IntKind.i64 (m:Int)∧(x.take m).all (fun c=>bT c||c==37)=true)∧x.length - iH 13 ⟨t',b⟩<x.length - (i:Int).toNat:=fun hm t' k6 =>
     ⟨⟨i+1,by omega,rfl,aS dR bU hm⟩,by rw[ax (σ:=⟨t',b⟩) k6];omega⟩
    refine⟨fun hp=>⟨⟨by omega,by omega⟩,fun vA=>?_,fun vA=>⟨⟨by omega,by omega⟩,fin ?_ _ rfl⟩⟩,fun hp=>⟨⟨by omega,by omega⟩,fin ?_ _ rfl⟩⟩
    ·rw[if_pos (hxa (cQ dR (by simp at hp vA ⊢;exact⟨hp,vA⟩)))];rfl
    ·simp at vA ⊢;exact .inr vA
    ·simp at hp ⊢;exact .inl hp
   ·have jq:i=x.length:=by omega
    subst jq
    rw[zLy]at bU
    have pd:=eY x
    rw[lS (by omega),if_neg hxb]at pd
    simp only at pd
    have pe:=kx (jr x) (by have:=jO x;omega)
    have pb:=fg (jr x)
    have hdl2:=jO x
    simp only[ad,↓Xn,↓Xo,↓Xg,↓Xd,↓Xe,↓Xf,Tryz.VΓ,Tryz.Γs,Xp,Xi,Nat.reduceAdd,Nat.reduceSub,Nat.reduceLT,Nat.reduceLeDiff,reduceIte,reduceCtorEq,Nat.reduceEqDiff,implies_true,forall_const,aa,h0,h2,h3,h4,h5,FA,Fz,sF,fc,eU,hj,eV,Ig,h12,h13]
    refine⟨fun h=>absurd h (by simp),fun _=>?_⟩
    have hxp:dv x=true:=bU
    (refine ae pd ?_;simp only[ad,↓Xn,↓Xo,↓Xg,↓Xd,↓Xe,↓Xf,Tryz.VΓ,Tryz.Γs,Xp,Xi,Nat.reduceAdd,Nat.reduceSub,Nat.reduceLT,Nat.reduceLeDiff,reduceIte,reduceCtorEq,Nat.reduceEqDiff,implies_true,forall_const,aa,h0,h2,h3,h4,h5,FA,Fz,sF,fc,eU,hj,eV,Ig,h12,h13,beq_self_eq_true,bne_self_eq_false,Int.reduceBEq,Int.reduceBNe,Int.reduceLT,Int.reduceLE])
    refine⟨fun h0k=>⟨by omega,?_⟩,fun h0k=>?_⟩
    ·(refine ae pe ?_;simp only[ad,↓Xn,↓Xo,↓Xg,↓Xd,↓Xe,↓Xf,Tryz.VΓ,Tryz.Γs,Xp,Xi,Nat.reduceAdd,Nat.reduceSub,Nat.reduceLT,Nat.reduceLeDiff,reduceIte,reduceCtorEq,Nat.reduceEqDiff,implies_true,forall_const,aa,h0,h2,h3,h4,h5,FA,Fz,sF,fc,eU,hj,eV,Ig,h12,h13])
     refine⟨by simp;omega,⟨by omega,by omega⟩,⟨k+1,by omega,rfl,?_,hxo hxp⟩,?_⟩
     ·rw[hsj,if_neg (by simp at h0k;omega)]
     ·rw[ax (k:=.i64) (n:=(k:Int)+1) rfl];omega
    ·(refine ae pe ?_;simp only[ad,↓Xn,↓Xo,↓Xg,↓Xd,↓Xe,↓Xf,Tryz.VΓ,Tryz.Γs,Xp,Xi,Nat.reduceAdd,Nat.reduceSub,Nat.reduceLT,Nat.reduceLeDiff,reduceIte,reduceCtorEq,Nat.reduceEqDiff,implies_true,forall_const,aa,h0,h2,h3,h4,h5,FA,Fz,sF,fc,eU,hj,eV,Ig,h12,h13])
     refine⟨by omega,⟨by omega,by omega⟩,⟨k+1,by omega,rfl,?_,hxo hxp⟩,?_⟩
     ·rw[hsj,if_pos (by simp at h0k;omega),zLS]
     ·rw[ax (k:=.i64) (n:=(k:Int)+1) rfl];omega
  ·have jq:k=L.length:=by omega
   subst jq
   rw[zLy]at bU fc
   rw[if_neg (by rw[bU];simp)]
   have hL0:0<L.length:=by omega
   have hz:(L.map SV.str)[((L.length:Int) - 1).toNat * 1]? = some (.str (L[L.length - 1]'(by omega))):=by
    rw[show ((L.length:Int) - 1).toNat * 1=L.length - 1 by omega]
    simp[hL0]
   have CJ:L.getLast? = some (L[L.length - 1]'(by omega)):=by rw[List.getLast?_eq_getElem?];simp[hL0]
   rw[CJ]
   generalize L[L.length - 1]'(by omega)=z at hz
   simp only[Option.some.injEq]
   have hpl2:=cq (·==58) S
   simp only[ad,↓Xn,↓Xo,↓Xg,↓Xd,↓Xe,↓Xf,Tryz.VΓ,Tryz.Γs,Xp,Xi,Nat.reduceAdd,Nat.reduceSub,Nat.reduceLT,Nat.reduceLeDiff,reduceIte,reduceCtorEq,Nat.reduceEqDiff,implies_true,forall_const,aa,h0,h2,h3,h4,h5,FA,Fz,sF,fc,eU,hj,eV,hz]
   refine⟨fun h=>absurd h (by simp),fun _=>⟨⟨by omega,by omega⟩,⟨by omega,by omega⟩,by simp;omega,fun h=>?_,fun h=>?_⟩⟩
   ·rw[if_pos (by simpa using h)];rfl
   ·rw[if_neg (by simpa using h)]
    exact⟨⟨by omega,by omega⟩,rfl⟩
theorem fS (d:fM)(h:er d):PC Tryz.V 81 [eW d] (.str (bu d)):=by
 obtain⟨m,i⟩:=d
 simp only[er]at h
 refine aU 3000 Tryz.func81 rfl Tryz.ntmps81 Tryz.results81 Tryz.call81 (by simp) (by simp[flat,flat.ai,eW,dusv]) (by simp[flat,flat.ai,eW,dusv]) ?_
 unfold eW
 simp only[ad,↓Xn,↓Xo,↓Xg,↓Xd,↓Xe,↓Xf,Tryz.VΓ,Tryz.Γs,Xp,Xi,Nat.reduceAdd,Nat.reduceSub,Nat.reduceLT,Nat.reduceLeDiff,reduceIte,reduceCtorEq,Nat.reduceEqDiff,implies_true,forall_const,aa]
 simp only[zLo,zLq,zLx]
 refine⟨by omega,by omega,by omega,?_⟩
 simp[bu,jY]
def Uri.size (u:Uri):Nat:=u.scheme.length+u.authority.length+u.path.length+u.query.length+u.fragment.length
theorem th (s:Bytes):(a8 s).1.path.length≤s.length:=by
 have vz:=dQ 35 s
 have uO:=dQ 63 (aM 35 s).1
 have Eb:∀ r:Bytes,(aC r).2.2.length≤r.length:=fun r=>by
  unfold aC;split
  ·simp;omega
  ·simp
 unfold a8
 split
 ·simp[Uri.none]
 ·unfold aL
  split
  ·split
   ·have:=Eb ((aM 63 (aM 35 s).1).1.drop (pre aq (aM 63 (aM 35 s).1).1+1))
    simp at this ⊢;omega
   ·simp[Uri.none]
  ·have:=Eb (aM 63 (aM 35 s).1).1
   simp;omega
theorem tg (s:Bytes):Uri.size (a8 s).1≤6 * s.length:=by
 have vz:=dQ 35 s
 have uO:=dQ 63 (aM 35 s).1
 have Eb:∀ r:Bytes,(aC r).2.2.length≤r.length∧(aC r).1.length≤r.length:=fun r=>by
  unfold aC;split
  ·simp;omega
  ·simp
 unfold a8
 split
 ·simp[Uri.none,Uri.size]
 ·unfold aL
  split
  ·split
   ·have:=Eb ((aM 63 (aM 35 s).1).1.drop (pre aq (aM 63 (aM 35 s).1).1+1))
    simp[Uri.size]at this ⊢;omega
   ·simp[Uri.none,Uri.size]
  ·have:=Eb (aM 63 (aM 35 s).1).1
   simp[Uri.size];omega
theorem r8 (a:Bytes)(h:(aH a).2=0):(aH a).1.1.length≤253∧0≤(aH a).1.2∧(aH a).1.2≤65535:=by
 have:=ct (s:=a) (x:=(aH a).1.1) (p:=(aH a).1.2) (by rw[← h])
 omega
theorem rR (s:Bytes):PC Tryz.V 118 [.str s] (.eN [dY (bC s).1,.int .i64 (bC s).2]):=by
 refine aU 3000 Tryz.func118 rfl Tryz.ntmps118 Tryz.results118 Tryz.call118 (by simp) (by simp[flat,flat.ai]) (by simp[flat,flat.ai,dY]) ?_
 simp only[ad,↓Xn,↓Xo,↓Xg,↓Xd,↓Xe,↓Xf,Tryz.VΓ,Tryz.Γs,Xp,Xi,Nat.reduceAdd,Nat.reduceSub,Nat.reduceLT,Nat.reduceLeDiff,reduceIte,reduceCtorEq,Nat.reduceEqDiff,implies_true,forall_const,aa]
 refine⟨fun h=>?_,fun h=>?_⟩
 ·have:bC s=(eS.none,5):=if_pos (by simp at h;omega)
  rw[this];rfl
 have hl:¬ 4096<s.length:=(by simp at h;omega)
 have hq:bC s=if (a8 s).2≠0 then(eS.none,(a8 s).2) else wy (a8 s).1:=if_neg hl
 rw[hq]
 have ps:=Ac s
 unfold usv at ps
 have hp:=th s
 have hz:=tg s
 revert ps hp hz
 generalize a8 s=us
 obtain⟨r,c⟩:=us
 intro ps hp hz
 simp only at ps hp hz
 simp only
 unfold Uri.size at hz
 have pl:=ym r.scheme cZ (by omega) (by decide)
 have pn:=tT r.authority 64
 have ph:=pQ r.authority (by omega)
 have p1:=iM r.path cM (by decide)
 have p2:=iM r.query cL (by decide)
 have p3:=iM r.fragment cL (by decide)
 (refine ae (ps) ?_;simp only[ad,↓Xn,↓Xo,↓Xg,↓Xd,↓Xe,↓Xf,Tryz.VΓ,Tryz.Γs,Xp,Xi,Nat.reduceAdd,Nat.reduceSub,Nat.reduceLT,Nat.reduceLeDiff,reduceIte,reduceCtorEq,Nat.reduceEqDiff,implies_true,forall_const,aa])
 refine⟨fun h1=>?_,fun h1=>?_⟩
 ·rw[if_pos (by simpa using h1)];rfl
 rw[if_neg (by simpa using h1)]
 unfold wy
 cases jo:r.ix
 ·simp only[ad,↓Xn,↓Xo,↓Xg,↓Xd,↓Xe,↓Xf,Tryz.VΓ,Tryz.Γs,Xp,Xi,Nat.reduceAdd,Nat.reduceSub,Nat.reduceLT,Nat.reduceLeDiff,reduceIte,reduceCtorEq,Nat.reduceEqDiff,implies_true,forall_const,aa,jo]
  rw[if_pos (.inl trivial)];rfl
 simp only[ad,↓Xn,↓Xo,↓Xg,↓Xd,↓Xe,↓Xf,Tryz.VΓ,Tryz.Γs,Xp,Xi,Nat.reduceAdd,Nat.reduceSub,Nat.reduceLT,Nat.reduceLeDiff,reduceIte,reduceCtorEq,Nat.reduceEqDiff,implies_true,forall_const,aa,jo]
 rw[show lower cZ=cZ by decide]at pl
 (refine ae pl ?_;simp only[ad,↓Xn,↓Xo,↓Xg,↓Xd,↓Xe,↓Xf,Tryz.VΓ,Tryz.Γs,Xp,Xi,Nat.reduceAdd,Nat.reduceSub,Nat.reduceLT,Nat.reduceLeDiff,reduceIte,reduceCtorEq,Nat.reduceEqDiff,implies_true,forall_const,aa,jo])
 refine⟨fun h2=>?_,fun h2=>?_⟩
 ·rw[if_pos (.inr (by simpa using h2))];rfl
 rw[if_neg (by simpa using h2)]
 cases Ib:r.dA
 ·simp only[ad,↓Xn,↓Xo,↓Xg,↓Xd,↓Xe,↓Xf,Tryz.VΓ,Tryz.Γs,Xp,Xi,Nat.reduceAdd,Nat.reduceSub,Nat.reduceLT,Nat.reduceLeDiff,reduceIte,reduceCtorEq,Nat.reduceEqDiff,implies_true,forall_const,aa,Ib]
  rfl
 simp only[ad,↓Xn,↓Xo,↓Xg,↓Xd,↓Xe,↓Xf,Tryz.VΓ,Tryz.Γs,Xp,Xi,Nat.reduceAdd,Nat.reduceSub,Nat.reduceLT,Nat.reduceLeDiff,reduceIte,reduceCtorEq,Nat.reduceEqDiff,implies_true,forall_const,aa,Ib]
 (refine ae pn ?_;simp only[ad,↓Xn,↓Xo,↓Xg,↓Xd,↓Xe,↓Xf,Tryz.VΓ,Tryz.Γs,Xp,Xi,Nat.reduceAdd,Nat.reduceSub,Nat.reduceLT,Nat.reduceLeDiff,reduceIte,reduceCtorEq,Nat.reduceEqDiff,implies_true,forall_const,aa,Ib])
 refine⟨fun h3=>?_,fun h3=>?_⟩
 ·rw[if_pos (by simpa using h3)];rfl
 rw[if_neg (by simpa using h3)]
 unfold pC
 (refine ae ph ?_;simp only[ad,↓Xn,↓Xo,↓Xg,↓Xd,↓Xe,↓Xf,Tryz.VΓ,Tryz.Γs,Xp,Xi,Nat.reduceAdd,Nat.reduceSub,Nat.reduceLT,Nat.reduceLeDiff,reduceIte,reduceCtorEq,Nat.reduceEqDiff,implies_true,forall_const,aa,Ib])
 refine⟨fun h4=>?_,fun h4=>?_⟩
 ·rw[if_pos (by simpa using h4)];rfl
 rw[if_neg (by simpa using h4)]
 have hN1:=dw cM r.path
 have hN2:=dw cL r.query
 have hN3:=dw cL r.fragment
 have hH:=r8 r.authority (by simpa using h4)
 have p4:=q9 (aY cM r.path).1 (by omega)
 have hD:=mS (aY cM r.path).1
 generalize aY cM r.path=n1 at p1 p4 hN1 hD ⊢
 generalize aY cL r.query=n2 at p2 hN2 ⊢
 generalize aY cL r.fragment=n3 at p3 hN3 ⊢
 generalize (aH r.authority).1=hp at hH ⊢
 obtain⟨n1,e1⟩:=n1
 obtain⟨n2,e2⟩:=n2
 obtain⟨n3,e3⟩:=n3
 obtain⟨hh,pp⟩:=hp
 simp only at p1 p2 p3 p4 hN1 hN2 hN3 hH hD ⊢
 (refine ae p1 ?_;simp only[ad,↓Xn,↓Xo,↓Xg,↓Xd,↓Xe,↓Xf,Tryz.VΓ,Tryz.Γs,Xp,Xi,Nat.reduceAdd,Nat.reduceSub,Nat.reduceLT,Nat.reduceLeDiff,reduceIte,reduceCtorEq,Nat.reduceEqDiff,implies_true,forall_const,aa])
 refine⟨fun h5=>?_,fun h5=>?_⟩
 ·rw[if_pos (by simpa using h5)];rfl
 rw[if_neg (by simpa using h5)]
 (refine ae p2 ?_;simp only[ad,↓Xn,↓Xo,↓Xg,↓Xd,↓Xe,↓Xf,Tryz.VΓ,Tryz.Γs,Xp,Xi,Nat.reduceAdd,Nat.reduceSub,Nat.reduceLT,Nat.reduceLeDiff,reduceIte,reduceCtorEq,Nat.reduceEqDiff,implies_true,forall_const,aa])
 refine⟨fun h6=>?_,fun h6=>?_⟩
 ·rw[if_pos (by simpa using h6)];rfl
 rw[if_neg (by simpa using h6)]
 (refine ae p3 ?_;simp only[ad,↓Xn,↓Xo,↓Xg,↓Xd,↓Xe,↓Xf,Tryz.VΓ,Tryz.Γs,Xp,Xi,Nat.reduceAdd,Nat.reduceSub,Nat.reduceLT,Nat.reduceLeDiff,reduceIte,reduceCtorEq,Nat.reduceEqDiff,implies_true,forall_const,aa])
 refine⟨fun h7=>?_,fun h7=>?_⟩
 ·rw[if_pos (by simpa using h7)];rfl
 rw[if_neg (by simpa using h7)]
 unfold s6
 (refine ae p4 ?_;simp only[ad,↓Xn,↓Xo,↓Xg,↓Xd,↓Xe,↓Xf,Tryz.VΓ,Tryz.Γs,Xp,Xi,Nat.reduceAdd,Nat.reduceSub,Nat.reduceLT,Nat.reduceLeDiff,reduceIte,reduceCtorEq,Nat.reduceEqDiff,implies_true,forall_const,aa])
 generalize aR n1=d at hD ⊢
 have fin:∀ d':Bytes,d'.length≤4096 * 6→PC Tryz.V 119 [dY ⟨hh,pp,d',n2,n3,r.bh,r.bA⟩] (.str (cy ⟨hh,pp,d',n2,n3,r.bh,r.bA⟩)):=fun d' hd' =>
  gO _ ⟨by simp only;omega,by simp only;omega,by simp only;omega⟩
 unfold dY at fin
 refine⟨fun h8=>?_,fun h8=>?_⟩
 ·have f1:=fin [47] (by decide)
  have h8':d=[]:=by simpa using h8
  rw[if_pos h8']
  (refine ae f1 ?_;simp only[ad,↓Xn,↓Xo,↓Xg,↓Xd,↓Xe,↓Xf,Tryz.VΓ,Tryz.Γs,Xp,Xi,Nat.reduceAdd,Nat.reduceSub,Nat.reduceLT,Nat.reduceLeDiff,reduceIte,reduceCtorEq,Nat.reduceEqDiff,implies_true,forall_const,aa])
  refine⟨fun h9=>?_,fun h9=>?_⟩
  ·rw[if_pos (by simp at h9;omega)];rfl
  ·rw[if_neg (by simp at h9;omega)];rfl
 ·have f1:=fin d (by omega)
  have h8':¬ d=[]:=by simpa using h8
  rw[if_neg h8']
  (refine ae f1 ?_;simp only[ad,↓Xn,↓Xo,↓Xg,↓Xd,↓Xe,↓Xf,Tryz.VΓ,Tryz.Γs,Xp,Xi,Nat.reduceAdd,Nat.reduceSub,Nat.reduceLT,Nat.reduceLeDiff,reduceIte,reduceCtorEq,Nat.reduceEqDiff,implies_true,forall_const,aa])
  refine⟨fun h9=>?_,fun h9=>?_⟩
  ·rw[if_pos (by simp at h9;omega)];rfl
  ·rw[if_neg (by simp at h9;omega)];rfl
theorem tL (s:Bytes):PC Tryz.V 76 [.str s] (.eN [dY (bC s).1,.int .i64 (bC s).2]):=by
 refine aU 3000 Tryz.func76 rfl Tryz.ntmps76 Tryz.results76 Tryz.call76 (by simp) (by simp[flat,flat.ai]) (by simp[flat,flat.ai,dY]) ?_
 simp only[ad,↓Xn,↓Xo,↓Xg,↓Xd,↓Xe,↓Xf,Tryz.VΓ,Tryz.Γs,Xp,Xi,Nat.reduceAdd,Nat.reduceSub,Nat.reduceLT,Nat.reduceLeDiff,reduceIte,reduceCtorEq,Nat.reduceEqDiff,implies_true,forall_const,aa]
 refine⟨fun h=>?_,fun h=>?_⟩
 ·have:bC s=(eS.none,5):=if_pos (by simp at h;omega)
  rw[this];rfl
 have hl:¬ 4096<s.length:=(by simp at h;omega)
 have hq:bC s=if (a8 s).2≠0 then(eS.none,(a8 s).2) else wy (a8 s).1:=if_neg hl
 rw[hq]
 have ps:=Cp s
 unfold usv at ps
 have hp:=th s
 have hz:=tg s
 revert ps hp hz
 generalize a8 s=us
 obtain⟨r,c⟩:=us
 intro ps hp hz
 simp only at ps hp hz
 simp only
 unfold Uri.size at hz
 have pl:=oW r.scheme cZ (by omega) (by decide)
 have pn:=bg r.authority [64] (by omega) (by decide)
 have Fi:=x7 r.authority 64
 have fT:=cq (·==64) r.authority
 rw[show (List.contains [64] ·:UInt8→Bool)=(·==64) from by funext c;simp;exact(Bool.beq_eq_decide_eq _ _).symm]at pn
 have ph:=tM r.authority (by omega)
 have p1:=gP r.path cM (by decide)
 have p2:=gP r.query cL (by decide)
 have p3:=gP r.fragment cL (by decide)
 (refine ae (ps) ?_;simp only[ad,↓Xn,↓Xo,↓Xg,↓Xd,↓Xe,↓Xf,Tryz.VΓ,Tryz.Γs,Xp,Xi,Nat.reduceAdd,Nat.reduceSub,Nat.reduceLT,Nat.reduceLeDiff,reduceIte,reduceCtorEq,Nat.reduceEqDiff,implies_true,forall_const,aa])
 refine⟨fun h1=>?_,fun h1=>?_⟩
 ·rw[if_pos (by simpa using h1)];rfl
 rw[if_neg (by simpa using h1)]
 unfold wy
 cases jo:r.ix
 ·simp only[ad,↓Xn,↓Xo,↓Xg,↓Xd,↓Xe,↓Xf,Tryz.VΓ,Tryz.Γs,Xp,Xi,Nat.reduceAdd,Nat.reduceSub,Nat.reduceLT,Nat.reduceLeDiff,reduceIte,reduceCtorEq,Nat.reduceEqDiff,implies_true,forall_const,aa,jo]
  rw[if_pos (.inl trivial)];rfl
 simp only[ad,↓Xn,↓Xo,↓Xg,↓Xd,↓Xe,↓Xf,Tryz.VΓ,Tryz.Γs,Xp,Xi,Nat.reduceAdd,Nat.reduceSub,Nat.reduceLT,Nat.reduceLeDiff,reduceIte,reduceCtorEq,Nat.reduceEqDiff,implies_true,forall_const,aa,jo]
 rw[show lower cZ=cZ by decide]at pl
 (refine ae pl ?_;simp only[ad,↓Xn,↓Xo,↓Xg,↓Xd,↓Xe,↓Xf,Tryz.VΓ,Tryz.Γs,Xp,Xi,Nat.reduceAdd,Nat.reduceSub,Nat.reduceLT,Nat.reduceLeDiff,reduceIte,reduceCtorEq,Nat.reduceEqDiff,implies_true,forall_const,aa,jo])
 refine⟨fun h2=>?_,fun h2=>?_⟩
 ·rw[if_pos (.inr (by simpa using h2))];rfl
 rw[if_neg (by simpa using h2)]
 cases Ib:r.dA
 ·simp only[ad,↓Xn,↓Xo,↓Xg,↓Xd,↓Xe,↓Xf,Tryz.VΓ,Tryz.Γs,Xp,Xi,Nat.reduceAdd,Nat.reduceSub,Nat.reduceLT,Nat.reduceLeDiff,reduceIte,reduceCtorEq,Nat.reduceEqDiff,implies_true,forall_const,aa,Ib]
  rfl
 simp only[ad,↓Xn,↓Xo,↓Xg,↓Xd,↓Xe,↓Xf,Tryz.VΓ,Tryz.Γs,Xp,Xi,Nat.reduceAdd,Nat.reduceSub,Nat.reduceLT,Nat.reduceLeDiff,reduceIte,reduceCtorEq,Nat.reduceEqDiff,implies_true,forall_const,aa,Ib]
 (refine aV pn ?_;simp only[ad,↓Xn,↓Xo,↓Xg,↓Xd,↓Xe,↓Xf,Tryz.VΓ,Tryz.Γs,Xp,Xi,Nat.reduceAdd,Nat.reduceSub,Nat.reduceLT,Nat.reduceLeDiff,reduceIte,reduceCtorEq,Nat.reduceEqDiff,implies_true,forall_const,aa,Ib])
 refine⟨(av (by kernel_rfl)),fun h3=>?_,fun h3=>?_⟩
 ·rw[if_pos (Fi.1 (by simp at h3;omega))];rfl
 rw[if_neg (fun k=>absurd (Fi.2 k) (by simp at h3;omega))]
 unfold pC
 (refine ae ph ?_;simp only[ad,↓Xn,↓Xo,↓Xg,↓Xd,↓Xe,↓Xf,Tryz.VΓ,Tryz.Γs,Xp,Xi,Nat.reduceAdd,Nat.reduceSub,Nat.reduceLT,Nat.reduceLeDiff,reduceIte,reduceCtorEq,Nat.reduceEqDiff,implies_true,forall_const,aa,Ib])
 refine⟨fun h4=>?_,fun h4=>?_⟩
 ·rw[if_pos (by simpa using h4)];rfl
 rw[if_neg (by simpa using h4)]
 have hN1:=dw cM r.path
 have hN2:=dw cL r.query
 have hN3:=dw cL r.fragment
 have hH:=r8 r.authority (by simpa using h4)
 have p4:=sq (aY cM r.path).1 (by omega)
 have hD:=mS (aY cM r.path).1
 generalize aY cM r.path=n1 at p1 p4 hN1 hD ⊢
 generalize aY cL r.query=n2 at p2 hN2 ⊢
 generalize aY cL r.fragment=n3 at p3 hN3 ⊢
 generalize (aH r.authority).1=hp at hH ⊢
 obtain⟨n1,e1⟩:=n1
 obtain⟨n2,e2⟩:=n2
 obtain⟨n3,e3⟩:=n3
 obtain⟨hh,pp⟩:=hp
 simp only at p1 p2 p3 p4 hN1 hN2 hN3 hH hD ⊢
 (refine ae p1 ?_;simp only[ad,↓Xn,↓Xo,↓Xg,↓Xd,↓Xe,↓Xf,Tryz.VΓ,Tryz.Γs,Xp,Xi,Nat.reduceAdd,Nat.reduceSub,Nat.reduceLT,Nat.reduceLeDiff,reduceIte,reduceCtorEq,Nat.reduceEqDiff,implies_true,forall_const,aa])
 refine⟨fun h5=>?_,fun h5=>?_⟩
 ·rw[if_pos (by simpa using h5)];rfl
 rw[if_neg (by simpa using h5)]
 (refine ae p2 ?_;simp only[ad,↓Xn,↓Xo,↓Xg,↓Xd,↓Xe,↓Xf,Tryz.VΓ,Tryz.Γs,Xp,Xi,Nat.reduceAdd,Nat.reduceSub,Nat.reduceLT,Nat.reduceLeDiff,reduceIte,reduceCtorEq,Nat.reduceEqDiff,implies_true,forall_const,aa])
 refine⟨fun h6=>?_,fun h6=>?_⟩
 ·rw[if_pos (by simpa using h6)];rfl
 rw[if_neg (by simpa using h6)]
 (refine ae p3 ?_;simp only[ad,↓Xn,↓Xo,↓Xg,↓Xd,↓Xe,↓Xf,Tryz.VΓ,Tryz.Γs,Xp,Xi,Nat.reduceAdd,Nat.reduceSub,Nat.reduceLT,Nat.reduceLeDiff,reduceIte,reduceCtorEq,Nat.reduceEqDiff,implies_true,forall_const,aa])
 refine⟨fun h7=>?_,fun h7=>?_⟩
 ·rw[if_pos (by simpa using h7)];rfl
 rw[if_neg (by simpa using h7)]
 unfold s6
 (refine ae p4 ?_;simp only[ad,↓Xn,↓Xo,↓Xg,↓Xd,↓Xe,↓Xf,Tryz.VΓ,Tryz.Γs,Xp,Xi,Nat.reduceAdd,Nat.reduceSub,Nat.reduceLT,Nat.reduceLeDiff,reduceIte,reduceCtorEq,Nat.reduceEqDiff,implies_true,forall_const,aa])
 generalize aR n1=d at hD ⊢
 have fin:∀ d':Bytes,d'.length≤4096 * 6→PC Tryz.V 77 [dY ⟨hh,pp,d',n2,n3,r.bh,r.bA⟩] (.str (cy ⟨hh,pp,d',n2,n3,r.bh,r.bA⟩)):=fun d' hd' =>
  j6 _ ⟨by simp only;omega,by simp only;omega,by simp only;omega⟩
 unfold dY at fin
 refine⟨fun h8=>?_,fun h8=>?_⟩
 ·have f1:=fin [47] (by decide)
  have h8':d=[]:=by simpa using h8
  rw[if_pos h8']
  (refine ae f1 ?_;simp only[ad,↓Xn,↓Xo,↓Xg,↓Xd,↓Xe,↓Xf,Tryz.VΓ,Tryz.Γs,Xp,Xi,Nat.reduceAdd,Nat.reduceSub,Nat.reduceLT,Nat.reduceLeDiff,reduceIte,reduceCtorEq,Nat.reduceEqDiff,implies_true,forall_const,aa])
  refine⟨fun h9=>?_,fun h9=>?_⟩
  ·rw[if_pos (by simp at h9;omega)];rfl
  ·rw[if_neg (by simp at h9;omega)];rfl
 ·have f1:=fin d (by omega)
  have h8':¬ d=[]:=by simpa using h8
  rw[if_neg h8']
  (refine ae f1 ?_;simp only[ad,↓Xn,↓Xo,↓Xg,↓Xd,↓Xe,↓Xf,Tryz.VΓ,Tryz.Γs,Xp,Xi,Nat.reduceAdd,Nat.reduceSub,Nat.reduceLT,Nat.reduceLeDiff,reduceIte,reduceCtorEq,Nat.reduceEqDiff,implies_true,forall_const,aa])
  refine⟨fun h9=>?_,fun h9=>?_⟩
  ·rw[if_pos (by simp at h9;omega)];rfl
  ·rw[if_neg (by simp at h9;omega)];rfl
theorem Ab (u:eS)(hk:Fair u):PC Tryz.V 187 [dY u] (.bool (fN u)):=by
 have pf:=gO u hk
 have pp:=rR (cy u)
 unfold dY at pf pp
 (refine aU 3000 Tryz.func187 rfl Tryz.ntmps187 Tryz.results187 Tryz.call187 (by simp) (by simp[flat,flat.ai,dY]) (by simp[flat,flat.ai,dY]) ?_
  unfold dY
  simp only[ad,↓Xn,↓Xo,↓Xg,↓Xd,↓Xe,↓Xf,Tryz.VΓ,Tryz.Γs,Xp,Xi,Nat.reduceAdd,Nat.reduceSub,Nat.reduceLT,Nat.reduceLeDiff,reduceIte,reduceCtorEq,Nat.reduceEqDiff,implies_true,forall_const,aa])
 (refine ae (pf) ?_;simp only[ad,↓Xn,↓Xo,↓Xg,↓Xd,↓Xe,↓Xf,Tryz.VΓ,Tryz.Γs,Xp,Xi,Nat.reduceAdd,Nat.reduceSub,Nat.reduceLT,Nat.reduceLeDiff,reduceIte,reduceCtorEq,Nat.reduceEqDiff,implies_true,forall_const,aa])
 (refine ae (pp) ?_;simp only[ad,↓Xn,↓Xo,↓Xg,↓Xd,↓Xe,↓Xf,Tryz.VΓ,Tryz.Γs,Xp,Xi,Nat.reduceAdd,Nat.reduceSub,Nat.reduceLT,Nat.reduceLeDiff,reduceIte,reduceCtorEq,Nat.reduceEqDiff,implies_true,forall_const,aa])
 unfold fN
 generalize bC (cy u)=x
 obtain⟨⟨a,b,c,d,e,f,g⟩,y⟩:=x
 obtain⟨a',b',c',d',e',f',g'⟩:=u
 simp only[eqS,Dd,Bn,Bn.eqF]
 refine⟨fun h=>?_,fun h=>?_⟩
 ·obtain rfl:y=0:=by simpa using h
  congr 1
  rw[Bool.eq_iff_iff]
  simp only[zL1,beq_iff_eq,decide_eq_true_eq,Prod.mk.injEq,eS.mk.injEq,and_true]
  constructor <;> (rintro⟨rfl,rfl,rfl,rfl,rfl,rfl,rfl⟩;exact⟨rfl,rfl,rfl,rfl,rfl,rfl,rfl⟩)
 ·congr 1
  exact(decide_eq_false (fun k=>by rw[(Prod.mk.inj k).2]at h;simp at h)).symm
theorem Co (u:eS)(hk:Fair u):PC Tryz.V 133 [dY u] (.bool (fN u)):=by
 have pf:=j6 u hk
 have pp:=tL (cy u)
 unfold dY at pf pp
 (refine aU 3000 Tryz.func133 rfl Tryz.ntmps133 Tryz.results133 Tryz.call133 (by simp) (by simp[flat,flat.ai,dY]) (by simp[flat,flat.ai,dY]) ?_
  unfold dY
  simp only[ad,↓Xn,↓Xo,↓Xg,↓Xd,↓Xe,↓Xf,Tryz.VΓ,Tryz.Γs,Xp,Xi,Nat.reduceAdd,Nat.reduceSub,Nat.reduceLT,Nat.reduceLeDiff,reduceIte,reduceCtorEq,Nat.reduceEqDiff,implies_true,forall_const,aa])
 (refine ae (pf) ?_;simp only[ad,↓Xn,↓Xo,↓Xg,↓Xd,↓Xe,↓Xf,Tryz.VΓ,Tryz.Γs,Xp,Xi,Nat.reduceAdd,Nat.reduceSub,Nat.reduceLT,Nat.reduceLeDiff,reduceIte,reduceCtorEq,Nat.reduceEqDiff,implies_true,forall_const,aa])
 (refine ae (pp) ?_;simp only[ad,↓Xn,↓Xo,↓Xg,↓Xd,↓Xe,↓Xf,Tryz.VΓ,Tryz.Γs,Xp,Xi,Nat.reduceAdd,Nat.reduceSub,Nat.reduceLT,Nat.reduceLeDiff,reduceIte,reduceCtorEq,Nat.reduceEqDiff,implies_true,forall_const,aa])
 unfold fN
 generalize bC (cy u)=x
 obtain⟨⟨a,b,c,d,e,f,g⟩,y⟩:=x
 obtain⟨a',b',c',d',e',f',g'⟩:=u
 simp only[eqS,Dd,Bn,Bn.eqF]
 refine⟨fun h=>?_,fun h=>?_⟩
 ·obtain rfl:y=0:=by simpa using h
  congr 1
  rw[Bool.eq_iff_iff]
  simp only[zL1,beq_iff_eq,decide_eq_true_eq,Prod.mk.injEq,eS.mk.injEq,and_true]
  constructor <;> (rintro⟨rfl,rfl,rfl,rfl,rfl,rfl,rfl⟩;exact⟨rfl,rfl,rfl,rfl,rfl,rfl,rfl⟩)
 ·congr 1
  exact(decide_eq_false (fun k=>by rw[(Prod.mk.inj k).2]at h;simp at h)).symm
theorem lZ (d:fM)(h:er d):PC Tryz.V 122 [eW d] (.eN [.agg [.str (bd d).1.1,.int .i64 (bd d).1.2],.int .i64 (bd d).2]):=by
 have pf:=dr d h
 have pp:=mZ (bu d)
 have hf:=@vo d
 have hd:=@nO d
 refine aU 3000 Tryz.func122 rfl Tryz.ntmps122 Tryz.results122 Tryz.call122 (by simp) (by simp[flat,flat.ai,eW,dY]) (by simp[flat,flat.ai,eW,dY]) ?_
 unfold eW
 unfold eW at pf pp
 unfold bd
 simp only[ad,↓Xn,↓Xo,↓Xg,↓Xd,↓Xe,↓Xf,Tryz.VΓ,Tryz.Γs,Xp,Xi,Nat.reduceAdd,Nat.reduceSub,Nat.reduceLT,Nat.reduceLeDiff,reduceIte,reduceCtorEq,Nat.reduceEqDiff,implies_true,forall_const,aa]
 refine⟨fun h1=>(by rw[if_pos (by simpa[dC] using h1)]),fun h1=>?_⟩
 have h1:d.method=dC:=by simpa[dC] using h1
 rw[if_neg (by simp[h1])]
 (refine ae pf ?_;simp only[ad,↓Xn,↓Xo,↓Xg,↓Xd,↓Xe,↓Xf,Tryz.VΓ,Tryz.Γs,Xp,Xi,Nat.reduceAdd,Nat.reduceSub,Nat.reduceLT,Nat.reduceLeDiff,reduceIte,reduceCtorEq,Nat.reduceEqDiff,implies_true,forall_const,aa])
 (refine ae pp ?_;simp only[ad,↓Xn,↓Xo,↓Xg,↓Xd,↓Xe,↓Xf,Tryz.VΓ,Tryz.Γs,Xp,Xi,Nat.reduceAdd,Nat.reduceSub,Nat.reduceLT,Nat.reduceLeDiff,reduceIte,reduceCtorEq,Nat.reduceEqDiff,implies_true,forall_const,aa])
 refine⟨fun h2=>(by rw[if_pos (by simpa using h2)]),fun h2=>?_⟩
 have h2:(aZ (bu d)).2=0:=by simpa using h2
 rw[if_neg (by simp[h2])]
 have hf:=hf h1 h2
 have hd:=hd h1 h2
 have pc:=tS d.id 58 (by omega)
 have pd:=na (aM 58 d.id).1
 rw[hf]at pd ⊢
 have ny:=dQ 58 d.id
 have gF:=jO (aM 58 d.id).1
 have ph:=pQ (jr (aM 58 d.id).1) (by omega)
 (refine ae pc ?_;simp only[ad,↓Xn,↓Xo,↓Xg,↓Xd,↓Xe,↓Xf,Tryz.VΓ,Tryz.Γs,Xp,Xi,Nat.reduceAdd,Nat.reduceSub,Nat.reduceLT,Nat.reduceLeDiff,reduceIte,reduceCtorEq,Nat.reduceEqDiff,implies_true,forall_const,aa])
 (refine ae pd ?_;simp only[ad,↓Xn,↓Xo,↓Xg,↓Xd,↓Xe,↓Xf,Tryz.VΓ,Tryz.Γs,Xp,Xi,Nat.reduceAdd,Nat.reduceSub,Nat.reduceLT,Nat.reduceLeDiff,reduceIte,reduceCtorEq,Nat.reduceEqDiff,implies_true,forall_const,aa,beq_self_eq_true,bne_self_eq_false,Int.reduceBEq,Int.reduceBNe,Int.reduceLT,Int.reduceLE])
 (refine ae ph ?_;simp only[ad,↓Xn,↓Xo,↓Xg,↓Xd,↓Xe,↓Xf,Tryz.VΓ,Tryz.Γs,Xp,Xi,Nat.reduceAdd,Nat.reduceSub,Nat.reduceLT,Nat.reduceLeDiff,reduceIte,reduceCtorEq,Nat.reduceEqDiff,implies_true,forall_const,aa,beq_self_eq_true,bne_self_eq_false,Int.reduceBEq,Int.reduceBNe,Int.reduceLT,Int.reduceLE])
 done
theorem sc_up {bs:List ay}{i:Nat}{e:Int}(s:Bytes)(hi:bs[i]? = some (.cells [.int .i64 e] 179 true))(hs:s.length≤16384) :
 SC Tryz.V 186 [.p i 0,.str s] bs (fun r b=>r=.str (gM s)∧b=bs.set i (.cells [.int .i64 (if dW s then e else 110)] 179 true)):=by
 have dR:i<bs.length:=(zLn.1 hi).1
 refine cK 3000 Tryz.func186 rfl Tryz.ntmps186 Tryz.results186 Tryz.call186 (by simp) (aw bs.length _ (by simp[within,within.aN,dR])) ?_
 have pd:=na s
 have pe:=tR (aj s).1 [] (by have:=cI s;omega)
 have ny:=cI s
 have gF:=dD [] (aj s).1
 have bU:dW s=!((((aj s).2 != 0)||((aj s).1==[]))||(((aj s).1==[46])||((aj s).1==[46,46]))):=by
  unfold dW
  cases h1:(aj s).2==0 <;> cases h2:(aj s).1==[] <;> cases h3:(aj s).1==[46] <;> cases h4:(aj s).1==[46,46] <;> simp_all [bne]
 rw[bU]
 have iu:=zE hi
 generalize hX:aj s=X at pd pe bU ny gF ⊢
 obtain⟨x,k⟩:=X
 simp only at pd pe bU ny gF ⊢
 unfold gM
 rw[hX]
 simp only
 simp only[ad,↓Xn,↓Xo,↓Xg,↓Xd,↓Xe,↓Xf,Tryz.VΓ,Tryz.Γs,Xp,Xi,Nat.reduceAdd,Nat.reduceSub,Nat.reduceLT,Nat.reduceLeDiff,reduceIte,reduceCtorEq,Nat.reduceEqDiff,implies_true,forall_const,aa,hi]
 (refine ae pd ?_;simp only[ad,↓Xn,↓Xo,↓Xg,↓Xd,↓Xe,↓Xf,Tryz.VΓ,Tryz.Γs,Xp,Xi,Nat.reduceAdd,Nat.reduceSub,Nat.reduceLT,Nat.reduceLeDiff,reduceIte,reduceCtorEq,Nat.reduceEqDiff,implies_true,forall_const,aa,hi])
 cases h1:k != 0 <;> cases h2:x==[] <;> cases h3:x==[46] <;> cases h4:x==[46,46] <;> simp only[ad,↓Xn,↓Xo,↓Xg,↓Xd,↓Xe,↓Xf,Tryz.VΓ,Tryz.Γs,Xp,Xi,Nat.reduceAdd,Nat.reduceSub,Nat.reduceLT,Nat.reduceLeDiff,reduceIte,reduceCtorEq,Nat.reduceEqDiff,implies_true,forall_const,aa,hi,h1,h2,h3,h4] <;> (refine ae pe ?_;simp only[ad,↓Xn,↓Xo,↓Xg,↓Xd,↓Xe,↓Xf,Tryz.VΓ,Tryz.Γs,Xp,Xi,Nat.reduceAdd,Nat.reduceSub,Nat.reduceLT,Nat.reduceLeDiff,reduceIte,reduceCtorEq,Nat.reduceEqDiff,implies_true,forall_const,aa,hi,iu]) <;> exact⟨by omega,by first|rfl|exact iu.symm⟩
theorem sc_down {bs:List ay}{i:Nat}{e:Int}(s:Bytes)(hi:bs[i]? = some (.cells [.int .i64 e] 179 true))(hs:s.length≤16384) :
 SC Tryz.V 188 [.p i 0,.str s] bs (fun r b=>r=.str (bn s)∧b=bs.set i (.cells [.int .i64 (if bI s then e else 110)] 179 true)):=by
 have dR:i<bs.length:=(zLn.1 hi).1
 refine cK 3000 Tryz.func188 rfl Tryz.ntmps188 Tryz.results188 Tryz.call188 (by simp) (aw bs.length _ (by simp[within,within.aN,dR])) ?_
 have pr:=pS (aE [] (aj s).1) 126 [37,55,69] (by decide) (by have:=cI s;have:=dD [] (aj s).1;omega) (by decide)
 rw[escDown]at pr
 have pd:=na s
 have pe:=tR (aj s).1 [] (by have:=cI s;omega)
 have ny:=cI s
 have gF:=fg (aj s).1
 simp only[ad,↓Xn,↓Xo,↓Xg,↓Xd,↓Xe,↓Xf,Tryz.VΓ,Tryz.Γs,Xp,Xi,Nat.reduceAdd,Nat.reduceSub,Nat.reduceLT,Nat.reduceLeDiff,reduceIte,reduceCtorEq,Nat.reduceEqDiff,implies_true,forall_const,aa,hi]
 refine aJ (fun σ=>∃ k:Nat,k≤s.length∧lk 0 σ.t=some (.p i 0)∧lk 1 σ.t=some (.str s)∧lk 4 σ.t=some (.str [])∧lk 8 σ.t=some (.str s)∧lk 9 σ.t=some (.int .i64 s.length)∧lk 10 σ.t=some (.int .i64 k) ∧
  σ.b=bs.set i (.cells [.int .i64 (if (s.take k).all cV then e else 110)] 179 true)) (fun σ=>s.length - iH 10 σ) ⟨0,by omega,rfl,rfl,rfl,rfl,rfl,rfl,(zE hi).symm⟩ ?_
 rintro⟨t,b⟩ ⟨k,hk,h0,h1,h4,h8,h9,fc,hb⟩
 simp only at h0 h1 h4 h8 h9 fc hb
 rw[ax fc]
 have pz:b[i]? = some (.cells [.int .i64 (if (s.take k).all cV then e else 110)] 179 true):=by rw[hb];exact zLp dR
 by_cases aA:k<s.length
 ·have hg:s.getD k 0=s[k]:=by simp[List.getD,aA]
  have aT:(s.take (k+1)).all cV=((s.take k).all cV&&cV s[k]):=by rw[zLA aA,List.all_append];simp
  have vA:((s[k].toNat:Int) != 37)=(s[k] != 37):=by
   have:=cA aA 37 (n:=37) rfl
   show (!_)=(!_)
   rw[← this,hg]
  have same:cV s[k]=true→b=bs.set i (.cells [.int .i64 (if (s.take (k+1)).all cV then e else 110)] 179 true):=fun h=>by rw[aT,h,Bool.and_true];exact hb
  have meas:∀ (t':List (Nat × SV)) (b':List ay),lk 10 t'=some (.int .i64 ((k:Int)+1))→s.length - iH 10 ⟨t',b'⟩<s.length - (k:Int).toNat:=fun t' b' k6=>by rw[ax (σ:=⟨t',b'⟩) k6];omega
  simp only[ad,↓Xn,↓Xo,↓Xg,↓Xd,↓Xe,↓Xf,Tryz.VΓ,Tryz.Γs,Xp,Xi,Nat.reduceAdd,Nat.reduceSub,Nat.reduceLT,Nat.reduceLeDiff,reduceIte,reduceCtorEq,Nat.reduceEqDiff,implies_true,forall_const,aa,h0,h1,h4,h8,h9,fc,pz,hg]
  refine⟨fun _=>⟨⟨by omega,by omega⟩,fun g1=>⟨⟨by omega,by omega⟩,?_⟩,fun g1=>⟨⟨by omega,by omega⟩,⟨k+1,by omega,rfl,same ?_⟩,meas _ _ rfl⟩⟩,fun h=>absurd h (by simp;omega)⟩
  ·(refine ae (eZ s[k]) ?_;simp only[ad,↓Xn,↓Xo,↓Xg,↓Xd,↓Xe,↓Xf,Tryz.VΓ,Tryz.Γs,Xp,Xi,Nat.reduceAdd,Nat.reduceSub,Nat.reduceLT,Nat.reduceLeDiff,reduceIte,reduceCtorEq,Nat.reduceEqDiff,implies_true,forall_const,aa,h0,h1,h4,h8,h9,fc,pz,hg])
   refine⟨fun g2=>⟨⟨by omega,by omega⟩,⟨k+1,by omega,rfl,?_⟩,meas _ _ rfl⟩,fun g2=>⟨⟨by omega,by omega⟩,⟨k+1,by omega,rfl,same ?_⟩,meas _ _ rfl⟩⟩
   ·have:cV s[k]=false:=by
     unfold cV
     rw[vA]at g1
     simp at g1 g2 ⊢
     exact⟨g1,g2⟩
    rw[aT,this,Bool.and_false,hb,List.set_set]
    rfl
   ·unfold cV
    simp at g2 ⊢
    exact .inr g2
  ·unfold cV
   rw[vA]at g1
   simp at g1 ⊢
   exact .inl g1
 ·have jq:k=s.length:=by omega
  subst jq
  rw[zLy]at hb pz
  clear hk aA
  have hd:bI s=(s.all cV&&!(((aj s).2 != 0)||((aj s).1==[]))):=by
   unfold bI
   cases s.all cV <;> cases h1:(aj s).2==0 <;> cases h2:(aj s).1==[] <;> simp_all [bne]
  have o4:bn s=58::aO (aj s).1:=rfl
  rw[hd,o4]
  generalize aj s=X at pd pe pr ny gF ⊢
  obtain⟨x,k⟩:=X
  simp only at pd pe pr ny gF ⊢
  have xj:decide ((s.length:Int)<s.length)=false:=by simp
  simp only[ad,↓Xn,↓Xo,↓Xg,↓Xd,↓Xe,↓Xf,Tryz.VΓ,Tryz.Γs,Xp,Xi,Nat.reduceAdd,Nat.reduceSub,Nat.reduceLT,Nat.reduceLeDiff,reduceIte,reduceCtorEq,Nat.reduceEqDiff,implies_true,forall_const,aa,h0,h1,h4,h8,h9,fc,pz,xj]
  (refine ae pd ?_;simp only[ad,↓Xn,↓Xo,↓Xg,↓Xd,↓Xe,↓Xf,Tryz.VΓ,Tryz.Γs,Xp,Xi,Nat.reduceAdd,Nat.reduceSub,Nat.reduceLT,Nat.reduceLeDiff,reduceIte,reduceCtorEq,Nat.reduceEqDiff,implies_true,forall_const,aa,h0,h1,h4,h8,h9,fc,pz])
  have e1:∀ v,b.set i (.cells [.int .i64 v] 179 true)=bs.set i (.cells [.int .i64 v] 179 true):=fun v=>by rw[hb,List.set_set]
  cases g1:k != 0 <;> cases g2:x==[] <;> simp only[ad,↓Xn,↓Xo,↓Xg,↓Xd,↓Xe,↓Xf,Tryz.VΓ,Tryz.Γs,Xp,Xi,Nat.reduceAdd,Nat.reduceSub,Nat.reduceLT,Nat.reduceLeDiff,reduceIte,reduceCtorEq,Nat.reduceEqDiff,implies_true,forall_const,aa,h0,h1,h4,h8,h9,fc,pz,g1,g2] <;> (refine ae pe ?_;simp only[ad,↓Xn,↓Xo,↓Xg,↓Xd,↓Xe,↓Xf,Tryz.VΓ,Tryz.Γs,Xp,Xi,Nat.reduceAdd,Nat.reduceSub,Nat.reduceLT,Nat.reduceLeDiff,reduceIte,reduceCtorEq,Nat.reduceEqDiff,implies_true,forall_const,aa,h0,h1,h4,h8,h9,fc,pz]) <;> (refine ae pr ?_;simp only[ad,↓Xn,↓Xo,↓Xg,↓Xd,↓Xe,↓Xf,Tryz.VΓ,Tryz.Γs,Xp,Xi,Nat.reduceAdd,Nat.reduceSub,Nat.reduceLT,Nat.reduceLeDiff,reduceIte,reduceCtorEq,Nat.reduceEqDiff,implies_true,forall_const,aa,h0,h1,h4,h8,h9,fc,pz]) <;> refine⟨by omega,?_⟩ <;> (first|rw[e1] | rw[hb]) <;> congr 4 <;> cases s.all cV <;> rfl
theorem la {g:Bytes→Bytes}{L:List Bytes}{k:Nat}(h:k<L.length):(L.take (k+1)).flatMap g=(L.take k).flatMap g++g L[k]:=by
 rw[zLA h,List.flatMap_append,List.flatMap_cons,List.flatMap_nil,zLS]
theorem gW {g:Bytes→Bytes}{L:List Bytes}{k:Nat}:((L.take k).flatMap g).length≤(L.flatMap g).length:=by
 conv=>rhs;rw[← List.take_append_drop k L]
 rw[List.flatMap_append,zLo]
 omega
theorem nX (bs:List ay){i n:Nat}(X:ay)(hn:bs.length=n):FT [(i,0,0),(n,0,0)] (bs.set i X++[.gone]) bs:=by
 subst hn
 refine yo (fun j hj=>?_) (by simp)
 have h1:=hj _ List.mem_cons_self
 have h2:=hj _ (zLZ _ List.mem_cons_self)
 simp only at h1 h2
 rcases zLN j bs.length with h|h
 ·rw[zLs (by rw[zLC];exact h),zLr h1]
 ·rw[zLB (by simp;omega),zLB h]
theorem Ce {bs:List ay}{i j:Nat}{e:Int}{L:List Bytes}{m:Bool}(hi:bs[i]? = some (.cells [.int .i64 e] 179 true))(hj:bs[j]? = some (.own (L.map SV.str) 9 1 L.length m))(hL:∀ x∈L,x.length≤16384)(hn:L.length≤1000000)(hlen:(L.flatMap gM).length≤10000000) :
 SC Tryz.V 185 [.o j L.length,.mv 186 [.p i 0]] bs (fun r b=>r=.str (L.flatMap gM)∧b=bs.set i (.cells [.int .i64 (if L.all dW then e else 110)] 179 true)++[.gone]):=by
 have mA:j<bs.length:=(zLn.1 hj).1
 have dR:i<bs.length:=(zLn.1 hi).1
 have vx:i≠j:=by rintro rfl;rw[hi]at hj;cases hj
 refine cK 3000 Tryz.func185 rfl Tryz.ntmps185 Tryz.results185 Tryz.call185 (by simp) (aw bs.length _ (by simp[within,within.aN,mA,dR])) ?_
 simp only[ad,↓Xn,↓Xo,↓Xg,↓Xd,↓Xe,↓Xf,Tryz.VΓ,Tryz.Γs,Xp,Xi,Nat.reduceAdd,Nat.reduceSub,Nat.reduceLT,Nat.reduceLeDiff,reduceIte,reduceCtorEq,Nat.reduceEqDiff,implies_true,forall_const,aa,hj]
 refine aJ (fun σ=>∃ k:Nat,k≤L.length∧lk 1 σ.t=some (.mv 186 [.p i 0])∧lk 4 σ.t=some (.str [])∧lk 5 σ.t=some (.p bs.length 0)∧lk 8 σ.t=some (.o j L.length)∧lk 9 σ.t=some (.int .i64 L.length)∧lk 10 σ.t=some (.int .i64 k) ∧
  FV bs.length ((L.take k).flatMap gM) σ.b∧σ.b.length=bs.length+1∧σ.b[i]? = some (.cells [.int .i64 (if (L.take k).all dW then e else 110)] 179 true)∧∀ q,q<bs.length→q≠i→σ.b[q]? = bs[q]?) (fun σ=>L.length - iH 10 σ)
  ⟨0,by omega,rfl,rfl,rfl,rfl,rfl,rfl,.inr ⟨rfl,aX _ _⟩,by simp,af hi _,fun q hq _=>zLs hq⟩ ?_
 rintro⟨t,b⟩ ⟨k,hk,h1,h4,h5,h8,h9,fc,hB,nD,pz,y9⟩
 simp only at h1 h4 h5 h8 h9 fc hB nD pz y9
 rw[ax fc]
 have Ga:=(y9 j mA (fun e=>vx e.symm)).trans hj
 by_cases aA:k<L.length
 ·have hx:(L.map SV.str)[k * 1]? = some (.str L[k]):=by simp[aA]
  have A7:=la (g:=gM) aA
  have hle:=gW (g:=gM) (L:=L) (k:=k+1)
  rw[A7,zLo]at hle
  have aT:(L.take (k+1)).all dW=((L.take k).all dW&&dW L[k]):=by rw[zLA aA,List.all_append];simp
  simp only[ad,↓Xn,↓Xo,↓Xg,↓Xd,↓Xe,↓Xf,Tryz.VΓ,Tryz.Γs,Xp,Xi,Nat.reduceAdd,Nat.reduceSub,Nat.reduceLT,Nat.reduceLeDiff,reduceIte,reduceCtorEq,Nat.reduceEqDiff,implies_true,forall_const,aa,h1,h4,h5,h8,h9,fc,Ga,hx]
  refine⟨fun _=>⟨⟨by omega,by omega⟩,by simp;omega,?_⟩,fun h=>absurd h (by simp;omega)⟩
  refine aG (sc_up L[k] pz (hL _ (zLv aA))) ?_
  rintro r b1 ⟨rfl,mu⟩
  have hbib:i<b.length:=by omega
  have iO:FV bs.length ((L.take k).flatMap gM) b1:=by
   rw[mu]
   unfold FV
   rw[zLr (by omega)]
   exact hB
  have hbi1:b1[i]? = some (.cells [.int .i64 (if (L.take (k+1)).all dW then e else 110)] 179 true):=by
   rw[mu,zLp hbib,aT]
   cases dW L[k] <;> cases (L.take k).all dW <;> rfl
  have H9:∀ q,q<bs.length→q≠i→b1[q]? = bs[q]? := fun q hq bk=>by
   rw[mu,zLr (fun e=>bk e.symm)];exact y9 q hq bk
  have hbl1:b1.length=bs.length+1:=by rw[mu,zLC];exact nD
  clear mu
  simp only[ad,↓Xn,↓Xo,↓Xg,↓Xd,↓Xe,↓Xf,Tryz.VΓ,Tryz.Γs,Xp,Xi,Nat.reduceAdd,Nat.reduceSub,Nat.reduceLT,Nat.reduceLeDiff,reduceIte,reduceCtorEq,Nat.reduceEqDiff,implies_true,forall_const,aa,h1,h4,h5,h8,h9,fc]
  refine aG (sc_WS iO (by omega)) ?_
  rintro r b2 ⟨rfl,kY⟩
  simp only[ad,↓Xn,↓Xo,↓Xg,↓Xd,↓Xe,↓Xf,Tryz.VΓ,Tryz.Γs,Xp,Xi,Nat.reduceAdd,Nat.reduceSub,Nat.reduceLT,Nat.reduceLeDiff,reduceIte,reduceCtorEq,Nat.reduceEqDiff,implies_true,forall_const,aa,h1,h4,h5,h8,h9,fc]
  refine⟨⟨by omega,by omega⟩,⟨k+1,by omega,rfl,?_,?_,?_,?_⟩,?_⟩
  ·rw[A7,kY];exact iO.set
  ·rw[kY,zLC];exact hbl1
  ·rw[kY,zLr (by omega)];exact hbi1
  ·intro q hq bk
   rw[kY,zLr (by omega)];exact H9 q hq bk
  ·rw[ax (k:=.i64) (n:=(k:Int)+1) rfl];omega
 ·have jq:k=L.length:=by omega
  subst jq
  rw[zLy]at hB pz
  have xj:decide ((L.length:Int)<L.length)=false:=by simp
  simp only[ad,↓Xn,↓Xo,↓Xg,↓Xd,↓Xe,↓Xf,Tryz.VΓ,Tryz.Γs,Xp,Xi,Nat.reduceAdd,Nat.reduceSub,Nat.reduceLT,Nat.reduceLeDiff,reduceIte,reduceCtorEq,Nat.reduceEqDiff,implies_true,forall_const,aa,h1,h4,h5,h8,h9,fc,xj]
  refine aG (Gx hB) ?_
  rintro r b2 ⟨rfl,kY⟩
  simp only[ad,↓Xn,↓Xo,↓Xg,↓Xd,↓Xe,↓Xf,Tryz.VΓ,Tryz.Γs,Xp,Xi,Nat.reduceAdd,Nat.reduceSub,Nat.reduceLT,Nat.reduceLeDiff,reduceIte,reduceCtorEq,Nat.reduceEqDiff,implies_true,forall_const,aa,h1,h4,h5,h8,h9,fc]
  simp only at kY
  apply List.ext_getElem?
  intro q
  rw[kY]
  rcases Nat.lt_trichotomy q bs.length with hq|hq|hq
  ·rw[zLr (by omega),zLs (by rw[zLC];exact hq)]
   by_cases F0:q=i
   ·subst F0;rw[zLp hq];exact pz
   ·rw[zLr (fun e=>F0 e.symm)];exact y9 q hq F0
  ·subst hq
   rw[zLp (by omega),zLw (by simp)]
   simp
  ·rw[zLB (by simp;omega),zLB (by simp;omega)]
theorem jh {bs:List ay}{i j:Nat}{e:Int}{L:List Bytes}{m:Bool}(hi:bs[i]? = some (.cells [.int .i64 e] 179 true))(hj:bs[j]? = some (.own (L.map SV.str) 9 1 L.length m))(hL:∀ x∈L,x.length≤16384)(hn:L.length≤1000000)(hlen:(L.flatMap bn).length≤10000000) :
 SC Tryz.V 185 [.o j L.length,.mv 188 [.p i 0]] bs (fun r b=>r=.str (L.flatMap bn)∧b=bs.set i (.cells [.int .i64 (if L.all bI then e else 110)] 179 true)++[.gone]):=by
 have mA:j<bs.length:=(zLn.1 hj).1
 have dR:i<bs.length:=(zLn.1 hi).1
 have vx:i≠j:=by rintro rfl;rw[hi]at hj;cases hj
 refine cK 3000 Tryz.func185 rfl Tryz.ntmps185 Tryz.results185 Tryz.call185 (by simp) (aw bs.length _ (by simp[within,within.aN,mA,dR])) ?_
 simp only[ad,↓Xn,↓Xo,↓Xg,↓Xd,↓Xe,↓Xf,Tryz.VΓ,Tryz.Γs,Xp,Xi,Nat.reduceAdd,Nat.reduceSub,Nat.reduceLT,Nat.reduceLeDiff,reduceIte,reduceCtorEq,Nat.reduceEqDiff,implies_true,forall_const,aa,hj]
 refine aJ (fun σ=>∃ k:Nat,k≤L.length∧lk 1 σ.t=some (.mv 188 [.p i 0])∧lk 4 σ.t=some (.str [])∧lk 5 σ.t=some (.p bs.length 0)∧lk 8 σ.t=some (.o j L.length)∧lk 9 σ.t=some (.int .i64 L.length)∧lk 10 σ.t=some (.int .i64 k) ∧
  FV bs.length ((L.take k).flatMap bn) σ.b∧σ.b.length=bs.length+1∧σ.b[i]? = some (.cells [.int .i64 (if (L.take k).all bI then e else 110)] 179 true)∧∀ q,q<bs.length→q≠i→σ.b[q]? = bs[q]?) (fun σ=>L.length - iH 10 σ)
  ⟨0,by omega,rfl,rfl,rfl,rfl,rfl,rfl,.inr ⟨rfl,aX _ _⟩,by simp,af hi _,fun q hq _=>zLs hq⟩ ?_
 rintro⟨t,b⟩ ⟨k,hk,h1,h4,h5,h8,h9,fc,hB,nD,pz,y9⟩
 simp only at h1 h4 h5 h8 h9 fc hB nD pz y9
 rw[ax fc]
 have Ga:=(y9 j mA (fun e=>vx e.symm)).trans hj
 by_cases aA:k<L.length
 ·have hx:(L.map SV.str)[k * 1]? = some (.str L[k]):=by simp[aA]
  have A7:=la (g:=bn) aA
  have hle:=gW (g:=bn) (L:=L) (k:=k+1)
  rw[A7,zLo]at hle
  have aT:(L.take (k+1)).all bI=((L.take k).all bI&&bI L[k]):=by rw[zLA aA,List.all_append];simp
  simp only[ad,↓Xn,↓Xo,↓Xg,↓Xd,↓Xe,↓Xf,Tryz.VΓ,Tryz.Γs,Xp,Xi,Nat.reduceAdd,Nat.reduceSub,Nat.reduceLT,Nat.reduceLeDiff,reduceIte,reduceCtorEq,Nat.reduceEqDiff,implies_true,forall_const,aa,h1,h4,h5,h8,h9,fc,Ga,hx]
  refine⟨fun _=>⟨⟨by omega,by omega⟩,by simp;omega,?_⟩,fun h=>absurd h (by simp;omega)⟩
  refine aG (sc_down L[k] pz (hL _ (zLv aA))) ?_
  rintro r b1 ⟨rfl,mu⟩
  have hbib:i<b.length:=by omega
  have iO:FV bs.length ((L.take k).flatMap bn) b1:=by
   rw[mu]
   unfold FV
   rw[zLr (by omega)]
   exact hB
  have hbi1:b1[i]? = some (.cells [.int .i64 (if (L.take (k+1)).all bI then e else 110)] 179 true):=by
   rw[mu,zLp hbib,aT]
   cases bI L[k] <;> cases (L.take k).all bI <;> rfl
  have H9:∀ q,q<bs.length→q≠i→b1[q]? = bs[q]? := fun q hq bk=>by
   rw[mu,zLr (fun e=>bk e.symm)];exact y9 q hq bk
  have hbl1:b1.length=bs.length+1:=by rw[mu,zLC];exact nD
  clear mu
  simp only[ad,↓Xn,↓Xo,↓Xg,↓Xd,↓Xe,↓Xf,Tryz.VΓ,Tryz.Γs,Xp,Xi,Nat.reduceAdd,Nat.reduceSub,Nat.reduceLT,Nat.reduceLeDiff,reduceIte,reduceCtorEq,Nat.reduceEqDiff,implies_true,forall_const,aa,h1,h4,h5,h8,h9,fc]
  refine aG (sc_WS iO (by omega)) ?_
  rintro r b2 ⟨rfl,kY⟩
  simp only[ad,↓Xn,↓Xo,↓Xg,↓Xd,↓Xe,↓Xf,Tryz.VΓ,Tryz.Γs,Xp,Xi,Nat.reduceAdd,Nat.reduceSub,Nat.reduceLT,Nat.reduceLeDiff,reduceIte,reduceCtorEq,Nat.reduceEqDiff,implies_true,forall_const,aa,h1,h4,h5,h8,h9,fc]
  refine⟨⟨by omega,by omega⟩,⟨k+1,by omega,rfl,?_,?_,?_,?_⟩,?_⟩
  ·rw[A7,kY];exact iO.set
  ·rw[kY,zLC];exact hbl1
  ·rw[kY,zLr (by omega)];exact hbi1
  ·intro q hq bk
   rw[kY,zLr (by omega)];exact H9 q hq bk
  ·rw[ax (k:=.i64) (n:=(k:Int)+1) rfl];omega
 ·have jq:k=L.length:=by omega
  subst jq
  rw[zLy]at hB pz
  have xj:decide ((L.length:Int)<L.length)=false:=by simp
  simp only[ad,↓Xn,↓Xo,↓Xg,↓Xd,↓Xe,↓Xf,Tryz.VΓ,Tryz.Γs,Xp,Xi,Nat.reduceAdd,Nat.reduceSub,Nat.reduceLT,Nat.reduceLeDiff,reduceIte,reduceCtorEq,Nat.reduceEqDiff,implies_true,forall_const,aa,h1,h4,h5,h8,h9,fc,xj]
  refine aG (Gx hB) ?_
  rintro r b2 ⟨rfl,kY⟩
  simp only[ad,↓Xn,↓Xo,↓Xg,↓Xd,↓Xe,↓Xf,Tryz.VΓ,Tryz.Γs,Xp,Xi,Nat.reduceAdd,Nat.reduceSub,Nat.reduceLT,Nat.reduceLeDiff,reduceIte,reduceCtorEq,Nat.reduceEqDiff,implies_true,forall_const,aa,h1,h4,h5,h8,h9,fc]
  simp only at kY
  apply List.ext_getElem?
  intro q
  rw[kY]
  rcases Nat.lt_trichotomy q bs.length with hq|hq|hq
  ·rw[zLr (by omega),zLs (by rw[zLC];exact hq)]
   by_cases F0:q=i
   ·subst F0;rw[zLp hq];exact pz
   ·rw[zLr (fun e=>F0 e.symm)];exact y9 q hq F0
  ·subst hq
   rw[zLp (by omega),zLw (by simp)]
   simp
  ·rw[zLB (by simp;omega),zLB (by simp;omega)]
theorem gS:∀ {l:List Bytes}{x:Bytes},x∈l→x.length≤l.flatten.length
 | y::l,x,h=>by
   rw[zLL,zLo]
   rcases zLR.1 h with rfl|h
   ·omega
   ·have:=gS h;omega
theorem Al (n:Nat)(hn:n≤18446744073709551615):PC Tryz.V 180 [.int .u64 n] (.str (cG n)) :=
 ⟨Tryz.call180,by simp[flat,flat.ai],by simp[flat,flat.ai],fun w _=>(kz n w hn).mono fun _ _ ⟨h,k⟩=>⟨h,k⟩⟩
theorem Aa (d:fM)(h:er d):PC Tryz.V 160 [eW d] (.eN [dY (eA d).1,.int .i64 (eA d).2]):=by
 have pa:=lZ d h
 have Bc:=@nO d
 have hha:(bd d).2=0→aH (bc (bd d).1.1 (bd d).1.2)=(((bd d).1.1,(bd d).1.2),0)∧d.method=dC∧(aZ (bu d)).2=0:=u0
 unfold eA
 generalize bd d=A at pa hha ⊢
 obtain⟨⟨x,p⟩,e⟩:=A
 simp only at pa hha ⊢
 refine aU 3000 Tryz.func160 rfl Tryz.ntmps160 Tryz.results160 Tryz.call160 (by simp) (by simp[flat,flat.ai,eW,dY]) (by simp[flat,flat.ai,eW,dY]) ?_
 unfold eW
 unfold eW at pa
 simp only[ad,↓Xn,↓Xo,↓Xg,↓Xd,↓Xe,↓Xf,Tryz.VΓ,Tryz.Γs,Xp,Xi,Nat.reduceAdd,Nat.reduceSub,Nat.reduceLT,Nat.reduceLeDiff,reduceIte,reduceCtorEq,Nat.reduceEqDiff,implies_true,forall_const,aa]
 (refine ae pa ?_;simp only[ad,↓Xn,↓Xo,↓Xg,↓Xd,↓Xe,↓Xf,Tryz.VΓ,Tryz.Γs,Xp,Xi,Nat.reduceAdd,Nat.reduceSub,Nat.reduceLT,Nat.reduceLeDiff,reduceIte,reduceCtorEq,Nat.reduceEqDiff,implies_true,forall_const,aa])
 refine⟨fun h1=>(by rw[if_pos (by simpa using h1)];rfl),fun h1=>?_⟩
 have h1:e=0:=by simpa using h1
 rw[if_neg (by simp[h1])]
 obtain⟨hh,hm,hp⟩:=hha h1
 obtain⟨hl,yD⟩:=Bc hm hp
 have DZ:=lC 58 d.id
 obtain⟨T,hT⟩:=nL 58 d.id
 have nv:=wB 58 d.id
 rw[hT]at yD DZ nv ⊢
 generalize (aM 58 d.id).1=c at yD DZ nv ⊢
 simp only[zLL,zLo,zLq,List.tail_cons]at DZ ⊢
 refine aG (rM d.id [58] _ nv (by omega) (by decide)) ?_
 rintro r b ⟨rfl,rfl⟩
 simp only[ad,↓Xn,↓Xo,↓Xg,↓Xd,↓Xe,↓Xf,Tryz.VΓ,Tryz.Γs,Xp,Xi,Nat.reduceAdd,Nat.reduceSub,Nat.reduceLT,Nat.reduceLeDiff,reduceIte,reduceCtorEq,Nat.reduceEqDiff,implies_true,forall_const,aa]
 have e0:T.length+1 - zLY 1=T.length:=by simp
 have e1:List.drop (zLY 1 * 1) (List.take ((T.length+1) * 1) (SV.str c::T.map SV.str))=T.map SV.str:=by
  rw[zLV (by simp)];simp
 simp only[e0,e1]
 have hfu:=yL T
 have bR:∀ q:Bytes,q.length≤100000→Fair ⟨x,p,q,[],[],false,false⟩:=fun q hq=>by
  obtain⟨-,-,-,k4,k5,k6⟩:=ct hh
  exact⟨by simp only[zLx];omega,by simp only;omega,by simp only;omega⟩
 refine⟨⟨by omega,by omega⟩,fun hn=>?_,fun hn=>?_⟩
 ·have hT1:T≠[]:=by rintro rfl;simp at hn
  refine aG (Ce (i:=6) (j:=5) (m:=false) (e:=0) (L:=T) rfl rfl (fun y hy=>by have:=(yD y (zLZ _ hy)).2;omega) (by omega) (by omega)) ?_
  rintro r b ⟨rfl,rfl⟩
  have ep:T.flatMap gM++[47]++[100,105,100,46,106,115,111,110]=ie T:=by
   unfold ie
   rw[if_neg hT1]
   simp[e9]
  have fT:(ie T).length≤100000:=by rw[← ep];simp only[zLo,zLq,zLx];omega
  have pf:=gO ⟨x,p,ie T,[],[],false,false⟩ (bR _ fT)
  unfold dY at pf
  simp only at pf
  rcases Bool.eq_false_or_eq_true (T.all dW) with aT|aT
  rotate_left
  ·simp only[ad,↓Xn,↓Xo,↓Xg,↓Xd,↓Xe,↓Xf,Tryz.VΓ,Tryz.Γs,Xp,Xi,Nat.reduceAdd,Nat.reduceSub,Nat.reduceLT,Nat.reduceLeDiff,reduceIte,reduceCtorEq,Nat.reduceEqDiff,implies_true,forall_const,aa,aT,ep,zLF,zLG,zLD,zLI,beq_self_eq_true,bne_self_eq_false,Int.reduceBEq,Int.reduceBNe,Int.reduceLT,Int.reduceLE,Bool.false_eq_true,if_false]
   refine⟨by omega,by simp only[zLo,zLq,zLx];omega,(av (by kernel_rfl)),rfl⟩
  ·simp only[ad,↓Xn,↓Xo,↓Xg,↓Xd,↓Xe,↓Xf,Tryz.VΓ,Tryz.Γs,Xp,Xi,Nat.reduceAdd,Nat.reduceSub,Nat.reduceLT,Nat.reduceLeDiff,reduceIte,reduceCtorEq,Nat.reduceEqDiff,implies_true,forall_const,aa,aT,ep,zLF,zLG,zLD,zLI,beq_self_eq_true,bne_self_eq_false,Int.reduceBEq,Int.reduceBNe,Int.reduceLT,Int.reduceLE,if_true]
   refine⟨by omega,by simp only[zLo,zLq,zLx];omega,?_⟩
   (refine ae pf ?_;simp only[ad,↓Xn,↓Xo,↓Xg,↓Xd,↓Xe,↓Xf,Tryz.VΓ,Tryz.Γs,Xp,Xi,Nat.reduceAdd,Nat.reduceSub,Nat.reduceLT,Nat.reduceLeDiff,reduceIte,reduceCtorEq,Nat.reduceEqDiff,implies_true,forall_const,aa])
   unfold jB
   exact⟨fun hl=>(by rw[if_pos (by simp only[decide_eq_true_eq,decide_eq_false_iff_not]at hl;omega)];rfl),fun hl=>(by rw[if_neg (by simp only[decide_eq_true_eq,decide_eq_false_iff_not]at hl;omega)];rfl)⟩
 ·obtain rfl:T=[]:=by
   cases T with
   | nil=>rfl
   | cons=>simp at hn
  have pf:=gO ⟨x,p,cF,[],[],false,false⟩ (bR cF (by decide))
  unfold dY at pf
  have ep:([47,46,119,101,108,108,45,107,110,111,119,110,47,100,105,100,46,106,115,111,110]:Bytes)=cF:=rfl
  rw[ep]
  (refine ae pf ?_;simp only[ad,↓Xn,↓Xo,↓Xg,↓Xd,↓Xe,↓Xf,Tryz.VΓ,Tryz.Γs,Xp,Xi,Nat.reduceAdd,Nat.reduceSub,Nat.reduceLT,Nat.reduceLeDiff,reduceIte,reduceCtorEq,Nat.reduceEqDiff,implies_true,forall_const,aa])
  have:ie []=cF:=rfl
  rw[this]
  unfold jB
  exact⟨fun hl=>(by rw[if_pos (by simp only[decide_eq_true_eq,decide_eq_false_iff_not]at hl;omega)];rfl),fun hl=>(by rw[if_neg (by simp only[decide_eq_true_eq,decide_eq_false_iff_not]at hl;omega)];rfl)⟩
theorem vO (u:eS)(hk:Fair u):PC Tryz.V 161 [dY u] (.eN [eW (fW u).1,.int .i64 (fW u).2]):=by
 have pv1:=Ab u hk
 have fT:=hk.1
 unfold dY at pv1 ⊢
 cases hv:fN u
 ·rw[hv]at pv1
  rw[show fW u=(fM.none,8) from if_pos hv]
  refine aU 3000 Tryz.func161 rfl Tryz.ntmps161 Tryz.results161 Tryz.call161 (by simp) (by simp[flat,flat.ai,eW,dY]) (by simp[flat,flat.ai,eW,dY]) ?_
  simp only[ad,↓Xn,↓Xo,↓Xg,↓Xd,↓Xe,↓Xf,Tryz.VΓ,Tryz.Γs,Xp,Xi,Nat.reduceAdd,Nat.reduceSub,Nat.reduceLT,Nat.reduceLeDiff,reduceIte,reduceCtorEq,Nat.reduceEqDiff,implies_true,forall_const,aa]
  (refine ae pv1 ?_;simp only[ad,↓Xn,↓Xo,↓Xg,↓Xd,↓Xe,↓Xf,Tryz.VΓ,Tryz.Γs,Xp,Xi,Nat.reduceAdd,Nat.reduceSub,Nat.reduceLT,Nat.reduceLeDiff,reduceIte,reduceCtorEq,Nat.reduceEqDiff,implies_true,forall_const,aa,beq_self_eq_true,bne_self_eq_false,Int.reduceBEq,Int.reduceBNe,Int.reduceLT,Int.reduceLE])
  rfl
 obtain⟨T,z,hT,CJ,hL0,hp4⟩:=rG hv
 rw[uR hv hT CJ]
 rw[hv]at pv1
 have DZ:=lC 47 u.path
 have nv:=wB 47 u.path
 rw[hT]at DZ nv
 generalize (aM 47 u.path).1=c at DZ nv
 clear hT
 simp only[zLL,zLo,zLq]at DZ
 have e0:T.length+1 - zLY 1=T.length:=by simp
 have e1:List.drop (zLY 1 * 1) (List.take ((T.length+1) * 1) (SV.str c::T.map SV.str))=T.map SV.str:=by
  rw[zLV (by simp)];simp
 have hz:(T.map SV.str)[((T.length:Int) - 1).toNat * 1]? = some (.str z):=by
  rw[show ((T.length:Int) - 1).toNat * 1=T.length - 1 by omega,List.getElem?_map,← List.getLast?_eq_getElem?,CJ]
  rfl
 refine aU 3000 Tryz.func161 rfl Tryz.ntmps161 Tryz.results161 Tryz.call161 (by simp) (by simp[flat,flat.ai,eW,dY]) (by simp[flat,flat.ai,eW,dY]) ?_
 simp only[ad,↓Xn,↓Xo,↓Xg,↓Xd,↓Xe,↓Xf,Tryz.VΓ,Tryz.Γs,Xp,Xi,Nat.reduceAdd,Nat.reduceSub,Nat.reduceLT,Nat.reduceLeDiff,reduceIte,reduceCtorEq,Nat.reduceEqDiff,implies_true,forall_const,aa]
 (refine ae pv1 ?_;simp only[ad,↓Xn,↓Xo,↓Xg,↓Xd,↓Xe,↓Xf,Tryz.VΓ,Tryz.Γs,Xp,Xi,Nat.reduceAdd,Nat.reduceSub,Nat.reduceLT,Nat.reduceLeDiff,reduceIte,reduceCtorEq,Nat.reduceEqDiff,implies_true,forall_const,aa,beq_self_eq_true,bne_self_eq_false,Int.reduceBEq,Int.reduceBNe,Int.reduceLT,Int.reduceLE])
 refine aG (rM u.path [47] _ nv (by omega) (by decide)) ?_
 rintro r b ⟨rfl,rfl⟩
 simp only[ad,↓Xn,↓Xo,↓Xg,↓Xd,↓Xe,↓Xf,Tryz.VΓ,Tryz.Γs,Xp,Xi,Nat.reduceAdd,Nat.reduceSub,Nat.reduceLT,Nat.reduceLeDiff,reduceIte,reduceCtorEq,Nat.reduceEqDiff,implies_true,forall_const,aa,e0,e1,hz]
 have hzS:(z != [100,105,100,46,106,115,111,110])=(z != e9):=rfl
 have hrS:(u.path != [47,46,119,101,108,108,45,107,110,111,119,110,47,100,105,100,46,106,115,111,110])=(u.path != cF):=rfl
 rw[hzS,hrS]
 have C0:=qL hv
 obtain⟨-,-,-,k4,k5,k6⟩:=ct C0.host
 have hwrap:IntKind.u64.wrap u.port=(u.port.natAbs:Int):=by
  simp only[IntKind.wrap,IntKind.signed,IntKind.bits]
  simp
  omega
 have pb:T.dropLast.length=T.length - 1:=List.length_dropLast ..
 have e2:((T.length:Int) - 1).toNat=T.dropLast.length:=by omega
 have e3:List.take (T.dropLast.length * 1) (T.map SV.str)=T.dropLast.map SV.str:=by
  rw[Nat.mul_one,pb,zLX,List.map_take]
 have hdf:T.dropLast.flatten.length≤T.flatten.length:=by
  rw[zLX]
  have:=congrArg (fun l=>(List.flatten l).length) (List.take_append_drop (T.length - 1) T)
  simp only[List.flatten_append,zLo]at this
  omega
 have hdm:∀ x∈T.dropLast,x.length≤16384:=fun x hx=>by
  have:=gS hx
  omega
 have hfd:=rv T.dropLast
 have bR:∀ q:Bytes,q.length≤100000→er ⟨dC,q⟩:=fun q hq=>⟨show dC.length≤_ by decide,show q.length≤_ by omega⟩
 simp only[e2,e3]
 refine⟨⟨by omega,by omega⟩,fun hq=>⟨fun hf=>⟨⟨by omega,by omega⟩,⟨by omega,by omega⟩,by simp;omega,fun lL=>?_,fun lL=>⟨fun ny=>?_,fun ny=>⟨fun hp=>?_,fun hp=>?_⟩⟩⟩,fun hf=>?_⟩,fun hq=>?_⟩
 ·rw[if_neg (by rw[hq];simp),if_neg (by rw[hf];simp),if_pos lL];rfl
 ·rw[if_neg (by rw[hq];simp),if_neg (by rw[hf];simp),if_neg (by rw[lL];simp),if_pos (by simp at ny;omega)];rfl
 ·rw[if_neg (by rw[hq];simp),if_neg (by rw[hf];simp),if_neg (by rw[lL];simp),if_neg (by simp at ny;omega)]
  have hp0:¬ u.port=0:=by simpa using hp
  have qk:bf u=u.host++([37,51,65]++cG u.port.natAbs):=by unfold bf;rw[if_neg hp0]
  rw[hwrap]
  have pn:=Al u.port.natAbs (by omega)
  have hdc:=dB 19 u.port.natAbs (by omega)
  (refine aV pn ?_;simp only[ad,↓Xn,↓Xo,↓Xg,↓Xd,↓Xe,↓Xf,Tryz.VΓ,Tryz.Γs,Xp,Xi,Nat.reduceAdd,Nat.reduceSub,Nat.reduceLT,Nat.reduceLeDiff,reduceIte,reduceCtorEq,Nat.reduceEqDiff,implies_true,forall_const,aa])
  rw[hrS]
  simp only[e2,e3]
  refine⟨by omega,by omega,(av (by kernel_rfl)),?_⟩
  have hBl:(u.host++37::51::65::cG u.port.natAbs).length≤300:=by simp only[zLo,zLq];omega
  have qk:bf u=u.host++37::51::65::cG u.port.natAbs:=qk
  refine⟨fun hr=>⟨⟨by omega,by omega⟩,⟨by omega,by omega⟩,?_⟩,fun hr=>?_⟩
  ·unfold fe
   rw[if_neg (by simpa using hr),qk]
   rcases Bool.eq_false_or_eq_true (T.dropLast.all bI) with aT|aT
   ·rw[if_neg (by rw[aT];simp)]
    have pf:=dr ⟨dC,(u.host++37::51::65::cG u.port.natAbs)++T.dropLast.flatMap bn⟩ (bR _ (by rw[zLo];omega))
    unfold eW at pf
    simp only at pf
    refine cn [(5,0,0),(7,0,0)] (jh (i:=5) (j:=6) (m:=false) (e:=0) (L:=T.dropLast) rfl rfl hdm (by omega) (by omega)) (nX (i:=5) _ _ rfl) ?_
    simp only[ad,↓Xn,↓Xo,↓Xg,↓Xd,↓Xe,↓Xf,Tryz.VΓ,Tryz.Γs,Xp,Xi,Nat.reduceAdd,Nat.reduceSub,Nat.reduceLT,Nat.reduceLeDiff,reduceIte,reduceCtorEq,Nat.reduceEqDiff,implies_true,forall_const,aa,aT,zLF,zLG,zLD,zLI,beq_self_eq_true,bne_self_eq_false,Int.reduceBEq,Int.reduceBNe,Int.reduceLT,Int.reduceLE,if_true]
    refine⟨by omega,(av (by kernel_rfl)),?_⟩
    (refine ae pf ?_;simp only[ad,↓Xn,↓Xo,↓Xg,↓Xd,↓Xe,↓Xf,Tryz.VΓ,Tryz.Γs,Xp,Xi,Nat.reduceAdd,Nat.reduceSub,Nat.reduceLT,Nat.reduceLeDiff,reduceIte,reduceCtorEq,Nat.reduceEqDiff,implies_true,forall_const,aa])
    unfold gV
    exact⟨fun hl=>(by rw[if_pos (by simp only[decide_eq_true_eq,decide_eq_false_iff_not]at hl;omega)];rfl),fun hl=>(by rw[if_neg (by simp only[decide_eq_true_eq,decide_eq_false_iff_not]at hl;omega)];rfl)⟩
   ·rw[if_pos aT]
    refine cn [(5,0,0),(7,0,0)] (jh (i:=5) (j:=6) (m:=false) (e:=0) (L:=T.dropLast) rfl rfl hdm (by omega) (by omega)) (nX (i:=5) _ _ rfl) ?_
    simp only[ad,↓Xn,↓Xo,↓Xg,↓Xd,↓Xe,↓Xf,Tryz.VΓ,Tryz.Γs,Xp,Xi,Nat.reduceAdd,Nat.reduceSub,Nat.reduceLT,Nat.reduceLeDiff,reduceIte,reduceCtorEq,Nat.reduceEqDiff,implies_true,forall_const,aa,aT,zLF,zLG,zLD,zLI,beq_self_eq_true,bne_self_eq_false,Int.reduceBEq,Int.reduceBNe,Int.reduceLT,Int.reduceLE,Bool.false_eq_true,if_false]
    exact⟨by omega,(av (by kernel_rfl)),(av (by kernel_rfl)),rfl⟩
  ·unfold fe
   rw[if_pos (by simpa using hr),qk]
   have pf:=dr ⟨dC,(u.host++37::51::65::cG u.port.natAbs)⟩ (bR _ (by omega))
   unfold eW at pf
   simp only at pf
   (refine ae pf ?_;simp only[ad,↓Xn,↓Xo,↓Xg,↓Xd,↓Xe,↓Xf,Tryz.VΓ,Tryz.Γs,Xp,Xi,Nat.reduceAdd,Nat.reduceSub,Nat.reduceLT,Nat.reduceLeDiff,reduceIte,reduceCtorEq,Nat.reduceEqDiff,implies_true,forall_const,aa])
   unfold gV
   exact⟨fun hl=>(by rw[if_pos (by simp only[decide_eq_true_eq,decide_eq_false_iff_not]at hl;omega)];rfl),fun hl=>(by rw[if_neg (by simp only[decide_eq_true_eq,decide_eq_false_iff_not]at hl;omega)];rfl)⟩
 ·rw[if_neg (by rw[hq];simp),if_neg (by rw[hf];simp),if_neg (by rw[lL];simp),if_neg (by simp at ny;omega)]
  have hp0:u.port=0:=by simpa using hp
  have qk:bf u=u.host:=by unfold bf;rw[if_pos hp0,zLS]
  have hBl:u.host.length≤300:=by omega
  refine⟨fun hr=>⟨⟨by omega,by omega⟩,⟨by omega,by omega⟩,?_⟩,fun hr=>?_⟩
  ·unfold fe
   rw[if_neg (by simpa using hr),qk]
   rcases Bool.eq_false_or_eq_true (T.dropLast.all bI) with aT|aT
   ·rw[if_neg (by rw[aT];simp)]
    have pf:=dr ⟨dC,u.host++T.dropLast.flatMap bn⟩ (bR _ (by rw[zLo];omega))
    unfold eW at pf
    simp only at pf
    refine cn [(5,0,0),(7,0,0)] (jh (i:=5) (j:=6) (m:=false) (e:=0) (L:=T.dropLast) rfl rfl hdm (by omega) (by omega)) (nX (i:=5) _ _ rfl) ?_
    simp only[ad,↓Xn,↓Xo,↓Xg,↓Xd,↓Xe,↓Xf,Tryz.VΓ,Tryz.Γs,Xp,Xi,Nat.reduceAdd,Nat.reduceSub,Nat.reduceLT,Nat.reduceLeDiff,reduceIte,reduceCtorEq,Nat.reduceEqDiff,implies_true,forall_const,aa,aT,zLF,zLG,zLD,zLI,beq_self_eq_true,bne_self_eq_false,Int.reduceBEq,Int.reduceBNe,Int.reduceLT,Int.reduceLE,if_true]
    refine⟨by omega,(av (by kernel_rfl)),?_⟩
    (refine ae pf ?_;simp only[ad,↓Xn,↓Xo,↓Xg,↓Xd,↓Xe,↓Xf,Tryz.VΓ,Tryz.Γs,Xp,Xi,Nat.reduceAdd,Nat.reduceSub,Nat.reduceLT,Nat.reduceLeDiff,reduceIte,reduceCtorEq,Nat.reduceEqDiff,implies_true,forall_const,aa])
    unfold gV
    exact⟨fun hl=>(by rw[if_pos (by simp only[decide_eq_true_eq,decide_eq_false_iff_not]at hl;omega)];rfl),fun hl=>(by rw[if_neg (by simp only[decide_eq_true_eq,decide_eq_false_iff_not]at hl;omega)];rfl)⟩
   ·rw[if_pos aT]
    refine cn [(5,0,0),(7,0,0)] (jh (i:=5) (j:=6) (m:=false) (e:=0) (L:=T.dropLast) rfl rfl hdm (by omega) (by omega)) (nX (i:=5) _ _ rfl) ?_
    simp only[ad,↓Xn,↓Xo,↓Xg,↓Xd,↓Xe,↓Xf,Tryz.VΓ,Tryz.Γs,Xp,Xi,Nat.reduceAdd,Nat.reduceSub,Nat.reduceLT,Nat.reduceLeDiff,reduceIte,reduceCtorEq,Nat.reduceEqDiff,implies_true,forall_const,aa,aT,zLF,zLG,zLD,zLI,beq_self_eq_true,bne_self_eq_false,Int.reduceBEq,Int.reduceBNe,Int.reduceLT,Int.reduceLE,Bool.false_eq_true,if_false]
    exact⟨by omega,(av (by kernel_rfl)),(av (by kernel_rfl)),rfl⟩
  ·unfold fe
   rw[if_pos (by simpa using hr),qk]
   have pf:=dr ⟨dC,u.host⟩ (bR _ (by omega))
   unfold eW at pf
   simp only at pf
   (refine ae pf ?_;simp only[ad,↓Xn,↓Xo,↓Xg,↓Xd,↓Xe,↓Xf,Tryz.VΓ,Tryz.Γs,Xp,Xi,Nat.reduceAdd,Nat.reduceSub,Nat.reduceLT,Nat.reduceLeDiff,reduceIte,reduceCtorEq,Nat.reduceEqDiff,implies_true,forall_const,aa])
   unfold gV
   exact⟨fun hl=>(by rw[if_pos (by simp only[decide_eq_true_eq,decide_eq_false_iff_not]at hl;omega)];rfl),fun hl=>(by rw[if_neg (by simp only[decide_eq_true_eq,decide_eq_false_iff_not]at hl;omega)];rfl)⟩
 ·rw[if_neg (by rw[hq];simp),if_pos hf];rfl
 ·rw[if_pos hq];rfl
theorem ve {u:eS}(h:ja u):Fair u:=by
 have h1:=mE u
 have h2:=h.len
 obtain⟨-,-,-,k4,k5,k6⟩:=ct h.host
 refine⟨?_,by omega,by omega⟩
 have hq:u.query.length≤4096:=by
  cases hb:u.bh
  ·rw[h.noq hb];simp
  ·have:=h1.2.1 hb;omega
 have hf:u.fragment.length≤4096:=by
  cases hb:u.bA
  ·rw[h.nof hb];simp
  ·have:=h1.2.2 hb;omega
 omega
theorem s9 (d:fM)(h:(eA d).2=0):Fair (eA d).1:=ve (wA (d:=d) (u:=(eA d).1) (by rw[← h])).1
theorem so (d:fM)(h:er d):PC Tryz.V 121 [eW d] (.eN [eW (eo d).1,.int .i64 (eo d).2]):=by
 have pt:=Aa d h
 have uJ:=s9 d
 unfold eo
 generalize eA d=X at pt uJ ⊢
 obtain⟨u,e⟩:=X
 simp only at pt uJ ⊢
 refine aU 3000 Tryz.func121 rfl Tryz.ntmps121 Tryz.results121 Tryz.call121 (by simp) (by simp[flat,flat.ai,eW,dY]) (by simp[flat,flat.ai,eW,dY]) ?_
 unfold eW
 unfold eW dY at pt
 simp only[ad,↓Xn,↓Xo,↓Xg,↓Xd,↓Xe,↓Xf,Tryz.VΓ,Tryz.Γs,Xp,Xi,Nat.reduceAdd,Nat.reduceSub,Nat.reduceLT,Nat.reduceLeDiff,reduceIte,reduceCtorEq,Nat.reduceEqDiff,implies_true,forall_const,aa]
 (refine ae pt ?_;simp only[ad,↓Xn,↓Xo,↓Xg,↓Xd,↓Xe,↓Xf,Tryz.VΓ,Tryz.Γs,Xp,Xi,Nat.reduceAdd,Nat.reduceSub,Nat.reduceLT,Nat.reduceLeDiff,reduceIte,reduceCtorEq,Nat.reduceEqDiff,implies_true,forall_const,aa])
 refine⟨fun h1=>(by rw[if_pos (by simpa using h1)];rfl),fun h1=>?_⟩
 rw[if_neg (by simpa using h1)]
 have pf:=vO u (uJ (by simpa using h1))
 unfold eW dY at pf
 (refine ae pf ?_;simp only[ad,↓Xn,↓Xo,↓Xg,↓Xd,↓Xe,↓Xf,Tryz.VΓ,Tryz.Γs,Xp,Xi,Nat.reduceAdd,Nat.reduceSub,Nat.reduceLT,Nat.reduceLeDiff,reduceIte,reduceCtorEq,Nat.reduceEqDiff,implies_true,forall_const,aa])
theorem yd (p:Int)(h1:0≤p)(h2:p≤9223372036854775807):PC Tryz.V 132 [.int .i64 p] (.str (cG p.natAbs)) :=
 ⟨Tryz.call132,by simp[flat,flat.ai],by simp[flat,flat.ai],fun w _=>(ox p w (by omega) h2).mono fun _ _ ⟨h,k⟩=>⟨by rw[h,if_neg (by omega)];rfl,k⟩⟩
theorem pG {bs:List ay}(d:fM)(h:er d):SC Tryz.V 110 [eW d] bs (fun r b=>Kp bs b∧∃ x,r=.eN [x,.agg [.str (bd d).1.1,.int .i64 (bd d).1.2],.int .i64 (bd d).2] ∧
 ((bd d).2=0→∃ j,x=.o j (aB 58 d.id).length∧bs.length≤j∧b[j]? = some (.own ((aB 58 d.id).map SV.str) 9 1 (aB 58 d.id).length true))):=by
 have pf:=fS d h
 have pp:=mY (bu d)
 have hf:=@vo d
 have hd:=@nO d
 refine cK 3000 Tryz.func110 rfl Tryz.ntmps110 Tryz.results110 Tryz.call110 (by simp) (aw bs.length _ (by simp[within,within.aN,eW])) ?_
 unfold eW
 unfold eW at pf pp
 unfold bd
 simp only[ad,↓Xn,↓Xo,↓Xg,↓Xd,↓Xe,↓Xf,Tryz.VΓ,Tryz.Γs,Xp,Xi,Nat.reduceAdd,Nat.reduceSub,Nat.reduceLT,Nat.reduceLeDiff,reduceIte,reduceCtorEq,Nat.reduceEqDiff,implies_true,forall_const,aa,aX,qC,qB,at_prev3,dH,pF,set_prev2]
 refine⟨fun h1=>?_,fun h1=>?_⟩
 ·rw[if_pos (by simpa[dC] using h1)]
  refine⟨((Kp.refl _).app _).app _,.aD,rfl,fun k=>by simp at k⟩
 have h1:d.method=dC:=by simpa[dC] using h1
 rw[if_neg (by simp[h1])]
 (refine ae pf ?_;simp only[ad,↓Xn,↓Xo,↓Xg,↓Xd,↓Xe,↓Xf,Tryz.VΓ,Tryz.Γs,Xp,Xi,Nat.reduceAdd,Nat.reduceSub,Nat.reduceLT,Nat.reduceLeDiff,reduceIte,reduceCtorEq,Nat.reduceEqDiff,implies_true,forall_const,aa,aX,qC,qB,at_prev3,dH,pF,set_prev2])
 (refine ae pp ?_;simp only[ad,↓Xn,↓Xo,↓Xg,↓Xd,↓Xe,↓Xf,Tryz.VΓ,Tryz.Γs,Xp,Xi,Nat.reduceAdd,Nat.reduceSub,Nat.reduceLT,Nat.reduceLeDiff,reduceIte,reduceCtorEq,Nat.reduceEqDiff,implies_true,forall_const,aa,aX,qC,qB,at_prev3,dH,pF,set_prev2])
 refine⟨fun h2=>?_,fun h2=>?_⟩
 ·rw[if_pos (by simpa using h2)]
  refine⟨(((Kp.refl _).app _).app _).app _,.aD,rfl,fun k=>absurd k (by simpa using h2)⟩
 have h2:(aZ (bu d)).2=0:=by simpa using h2
 rw[if_neg (by simp[h2])]
 have hf:=hf h1 h2
 have hd:=hd h1 h2
 obtain⟨T,hT⟩:=nL 58 d.id
 have pd:=eY (aM 58 d.id).1
 rw[hf]at pd ⊢
 have ny:=dQ 58 d.id
 have gF:=jO (aM 58 d.id).1
 have ph:=tM (jr (aM 58 d.id).1) (by omega)
 refine aG (pI d.id 58 (by omega)) ?_
 rintro r b ⟨j,rfl,lr,hj,cg⟩
 rw[hT]at hj ⊢
 generalize (aM 58 d.id).1=c at *
 simp only at lr cg hj
 have lL:=cg.at (qC _ _ _)
 have y6:Kp bs b:=((((Kp.refl bs).app _).app _).app _).trans cg
 have nD:bs.length≤b.length:=y6.1
 simp only[zLo,zLq,zLx]at lr
 have mA:=(zLn.1 hj).1
 have F3:∀ X:ay,(bs++[X]).length=bs.length+1:=fun X=>by simp
 rw[F3]at lL
 have CO:∀ X,(b.set (bs.length+1) X)[bs.length+1]? = some X:=fun X=>zLp (zLn.1 lL).1
 simp only[ad,↓Xn,↓Xo,↓Xg,↓Xd,↓Xe,↓Xf,Tryz.VΓ,Tryz.Γs,Xp,Xi,Nat.reduceAdd,Nat.reduceSub,Nat.reduceLT,Nat.reduceLeDiff,reduceIte,reduceCtorEq,Nat.reduceEqDiff,implies_true,forall_const,aa,hj,lL,F3,CO,List.map_cons,List.getElem?_cons_zero,Int.toNat_zero,Nat.zero_mul]
 refine⟨⟨by omega,by omega⟩,?_⟩
 (refine ae pd ?_;simp only[ad,↓Xn,↓Xo,↓Xg,↓Xd,↓Xe,↓Xf,Tryz.VΓ,Tryz.Γs,Xp,Xi,Nat.reduceAdd,Nat.reduceSub,Nat.reduceLT,Nat.reduceLeDiff,reduceIte,reduceCtorEq,Nat.reduceEqDiff,implies_true,forall_const,aa,hj,lL,F3,CO])
 have hzo:=fun X=>af lL [X]
 have CJ:=(zLn.1 lL).1
 have fK:∀ X Y,((b++[X]).set (bs.length+1) Y)[bs.length+1]? = some Y:=fun X Y=>zLp (by simp;omega)
 (refine ae ph ?_;simp only[ad,↓Xn,↓Xo,↓Xg,↓Xd,↓Xe,↓Xf,Tryz.VΓ,Tryz.Γs,Xp,Xi,Nat.reduceAdd,Nat.reduceSub,Nat.reduceLT,Nat.reduceLeDiff,reduceIte,reduceCtorEq,Nat.reduceEqDiff,implies_true,forall_const,aa,hj,lL,F3,CO,aX,dH,hzo,fK])
 have bk:¬ b.length=bs.length+1:=by omega
 refine⟨(by
  refine eT (fun n=>if n=(bs.length+1) then 0 else 1) ?_
  simp only[List.map_cons,List.map_nil,fO,kK,reduceIte,bk]
  exact av (by kernel_rfl)),(y6.app _).set (by omega) _,.o j (T.length+1),rfl,fun _=>⟨j,rfl,by omega,?_⟩⟩
 rw[zLr (by omega)]
 exact af hj _
theorem sw (d:fM)(h:er d):PC Tryz.V 80 [eW d] (.eN [.agg [.str (bd d).1.1,.int .i64 (bd d).1.2],.int .i64 (bd d).2]):=by
 have hf:=fun(bs:List ay)=>pG (bs:=bs) d h
 unfold eW at hf
 refine aU 3000 Tryz.func80 rfl Tryz.ntmps80 Tryz.results80 Tryz.call80 (by simp) (by simp[flat,flat.ai,eW,dY]) (by simp[flat,flat.ai,eW,dY]) ?_
 unfold eW
 simp only[ad,↓Xn,↓Xo,↓Xg,↓Xd,↓Xe,↓Xf,Tryz.VΓ,Tryz.Γs,Xp,Xi,Nat.reduceAdd,Nat.reduceSub,Nat.reduceLT,Nat.reduceLeDiff,reduceIte,reduceCtorEq,Nat.reduceEqDiff,implies_true,forall_const,aa]
 refine aG (hf _) ?_
 rintro r b ⟨cg,x,rfl,-⟩
 have mu:=cg.at (j:=1) rfl
 have nD:=(zLn.1 mu).1
 have C3:=fun X=>af mu [X]
 have H8:∀ X Y,((b++[X]).set 1 Y)[1]? = some Y:=fun X Y=>zLp (by simp;omega)
 simp only[ad,↓Xn,↓Xo,↓Xg,↓Xd,↓Xe,↓Xf,Tryz.VΓ,Tryz.Γs,Xp,Xi,Nat.reduceAdd,Nat.reduceSub,Nat.reduceLT,Nat.reduceLeDiff,reduceIte,reduceCtorEq,Nat.reduceEqDiff,implies_true,forall_const,aa,mu,C3,H8,aX,dH]
theorem Ak (d:fM)(h:er d):PC Tryz.V 108 [eW d] (.eN [dY (eA d).1,.int .i64 (eA d).2]):=by
 have hf:=fun(bs:List ay)=>pG (bs:=bs) d h
 have Bc:=@nO d
 have hha:=@u0 d
 unfold eW at hf
 unfold eA
 generalize bd d=A at hf hha ⊢
 obtain⟨⟨x,p⟩,e⟩:=A
 simp only at hf hha ⊢
 refine aU 3000 Tryz.func108 rfl Tryz.ntmps108 Tryz.results108 Tryz.call108 (by simp) (by simp[flat,flat.ai,eW,dY]) (by simp[flat,flat.ai,eW,dY]) ?_
 unfold eW
 simp only[ad,↓Xn,↓Xo,↓Xg,↓Xd,↓Xe,↓Xf,Tryz.VΓ,Tryz.Γs,Xp,Xi,Nat.reduceAdd,Nat.reduceSub,Nat.reduceLT,Nat.reduceLeDiff,reduceIte,reduceCtorEq,Nat.reduceEqDiff,implies_true,forall_const,aa]
 refine aG (hf _) ?_
 rintro r b ⟨cg,y,rfl,hx⟩
 have mu:=cg.at (j:=1) rfl
 have nD:=(zLn.1 mu).1
 have C3:=fun X=>af mu [X]
 have H8:∀ X Y,((b++[X]).set 1 Y)[1]? = some Y:=fun X Y=>zLp (by simp;omega)
 simp only[ad,↓Xn,↓Xo,↓Xg,↓Xd,↓Xe,↓Xf,Tryz.VΓ,Tryz.Γs,Xp,Xi,Nat.reduceAdd,Nat.reduceSub,Nat.reduceLT,Nat.reduceLeDiff,reduceIte,reduceCtorEq,Nat.reduceEqDiff,implies_true,forall_const,aa,mu,C3,H8,aX,dH]
 refine⟨fun h1=>(by rw[if_pos (by simpa using h1)];rfl),fun h1=>?_⟩
 have h1:e=0:=by simpa using h1
 rw[if_neg (by simp[h1])]
 obtain⟨hh,hm,hp⟩:=hha h1
 obtain⟨hl,yD⟩:=Bc hm hp
 obtain⟨j,rfl,lr,hj⟩:=hx h1
 have DZ:=lC 58 d.id
 obtain⟨T,hT⟩:=nL 58 d.id
 rw[hT]at yD DZ hj ⊢
 generalize (aM 58 d.id).1=c at yD DZ hj ⊢
 simp only[zLL,zLo,zLq,List.tail_cons,List.map_cons]at DZ hj ⊢
 have mA:=(zLn.1 hj).1
 have hjo:=fun X=>af hj [X]
 simp only[zLq,zLx]at lr
 simp only[ad,↓Xn,↓Xo,↓Xg,↓Xd,↓Xe,↓Xf,Tryz.VΓ,Tryz.Γs,Xp,Xi,Nat.reduceAdd,Nat.reduceSub,Nat.reduceLT,Nat.reduceLeDiff,reduceIte,reduceCtorEq,Nat.reduceEqDiff,implies_true,forall_const,aa,mu,C3,H8,aX,dH,hj,hjo]
 refine⟨⟨by omega,by omega⟩,?_⟩
 have e0:T.length+1 - zLY 1=T.length:=by simp
 have e1:List.drop (zLY 1 * 1) (List.take ((T.length+1) * 1) (SV.str c::T.map SV.str))=T.map SV.str:=by
  rw[zLV (by simp)];simp
 simp only[e0,e1]
 have hfu:=yL T
 have bR:∀ q:Bytes,q.length≤100000→Fair ⟨x,p,q,[],[],false,false⟩:=fun q hq=>by
  obtain⟨-,-,-,k4,k5,k6⟩:=ct hh
  exact⟨by simp only[zLx];omega,by simp only;omega,by simp only;omega⟩
 refine aJ (fun σ=>∃ k:Nat,k≤T.length∧lk 2 σ.t=some (.p 1 0)∧lk 3 σ.t=some (.int .i64 0)∧lk 4 σ.t=some (.o j (T.length+1))∧lk 5 σ.t=some (.p b.length 0)∧lk 7 σ.t=some (.str ((T.take k).flatMap gM))∧lk 24 σ.t=some (.o (b.length+1) T.length)∧lk 25 σ.t=some (.int .i64 T.length)∧lk 26 σ.t=some (.int .i64 k) ∧
  σ.b[1]? = some (.cells [.str [],.int .i64 0,.str [],.str [],.str [],.bool false,.bool false] 91 true)∧σ.b[b.length]? = some (.cells [.str x,.int .i64 p] 128 true)∧σ.b[b.length+1]? = some (.own (T.map SV.str) 9 1 T.length false)∧(∃ c m,σ.b[j]? = some (.own c 9 1 (T.length+1) m))∧(T.take k).all dW=true) (fun σ=>T.length - iH 26 σ)
  ⟨0,by omega,rfl,rfl,rfl,rfl,rfl,rfl,rfl,rfl,af (by rw[zLr (by omega)];exact C3 _) _,af (by rw[zLr (by omega)];exact aX _ _) _,(by rw[zLw (by simp)];simp),⟨_,_,af (zLp (by simp;omega)) _⟩,rfl⟩ ?_
 have hbL:1<b.length:=nD
 clear hj hjo mu C3 H8 cg hx
 generalize b.length=N at *
 rintro⟨t,B⟩ ⟨k,hk,h2,h3,h4,h5,h7,h24,h25,h26,iO,hBN,mC,⟨cj,mj,hBj⟩,bU⟩
 simp only at h2 h3 h4 h5 h7 h24 h25 h26 iO hBN mC hBj
 rw[ax h26]
 have mg:=gW (g:=gM) (L:=T) (k:=k)
 have jM:∀ X,(B.set 1 X)[1]? = some X:=fun X=>zLp (zLn.1 iO).1
 by_cases aA:k<T.length
 ·have hx:(T.map SV.str)[k * 1]? = some (.str T[k]):=by simp[aA]
  have hsg:=yD T[k] (zLZ _ (zLv aA))
  have A7:=la (g:=gM) aA
  have pd:=eY T[k]
  have hup:gM T[k]=47::aE [] (aj T[k]).1:=rfl
  have pb:=cI T[k]
  have mh:=dD [] (aj T[k]).1
  have pe:=rT (aj T[k]).1 [] (by omega) (by simp)
  have hso:dW T[k]=!((((aj T[k]).1==[])||((aj T[k]).1==[46]))||((aj T[k]).1==[46,46])):=by
   have hd0:(aj T[k]).2=0:=by rw[lS (by omega),if_neg hsg.1]
   unfold dW
   rw[hd0]
   cases h2:(aj T[k]).1==[] <;> cases h3:(aj T[k]).1==[46] <;> cases h4:(aj T[k]).1==[46,46] <;> simp_all [bne]
  have jL:dW T[k]=false→T.all dW=false:=fun h=>cQ aA h
  have A6:dW T[k]=true→(T.take (k+1)).all dW=true:=fun h=>aS aA bU h
  simp only[ad,↓Xn,↓Xo,↓Xg,↓Xd,↓Xe,↓Xf,Tryz.VΓ,Tryz.Γs,Xp,Xi,Nat.reduceAdd,Nat.reduceSub,Nat.reduceLT,Nat.reduceLeDiff,reduceIte,reduceCtorEq,Nat.reduceEqDiff,implies_true,forall_const,aa,h2,h3,h4,h5,h7,h24,h25,h26,iO,hBN,mC,hx]
  refine⟨fun _=>⟨⟨by omega,by omega⟩,by simp;omega,?_⟩,fun h=>absurd h (by simp;omega)⟩
  generalize aj T[k]=X at *
  obtain⟨w,ew⟩:=X
  simp only at pd pe hso hup pb mh
  have fin:∀ (t':List (Nat × SV)),dW T[k]=true→lk 26 t'=some (.int .i64 ((k:Int)+1))→T.length - iH 26 ⟨t',B⟩<T.length - (k:Int).toNat:=fun t' _ k6=>by rw[ax (σ:=⟨t',B⟩) k6];omega
  (refine ae pd ?_;simp only[ad,↓Xn,↓Xo,↓Xg,↓Xd,↓Xe,↓Xf,Tryz.VΓ,Tryz.Γs,Xp,Xi,Nat.reduceAdd,Nat.reduceSub,Nat.reduceLT,Nat.reduceLeDiff,reduceIte,reduceCtorEq,Nat.reduceEqDiff,implies_true,forall_const,aa,h2,h3,h4,h5,h7,h24,h25,h26,iO,hBN,mC,jM])
  refine⟨fun g1=>⟨fun g2=>⟨fun g3=>?_,fun g3=>?_⟩,fun g2=>?_⟩,fun g1=>?_⟩
  ·have hb:=jL (by rw[hso,g3];simp)
   simp only[hb,if_true]
   rfl
  ·have hso:dW T[k]=true:=by rw[hso,g1,g2,g3];rfl
   (refine ae pe ?_;simp only[ad,↓Xn,↓Xo,↓Xg,↓Xd,↓Xe,↓Xf,Tryz.VΓ,Tryz.Γs,Xp,Xi,Nat.reduceAdd,Nat.reduceSub,Nat.reduceLT,Nat.reduceLeDiff,reduceIte,reduceCtorEq,Nat.reduceEqDiff,implies_true,forall_const,aa,h2,h3,h4,h5,h7,h24,h25,h26,iO,hBN,mC])
   refine⟨by omega,by omega,⟨by omega,by omega⟩,⟨k+1,by omega,by rw[A7,hup],rfl,⟨cj,mj,hBj⟩,A6 hso⟩,fin _ hso rfl⟩
  ·have hb:=jL (by rw[hso,g2];simp)
   simp only[hb,if_true]
   rfl
  ·have hb:=jL (by rw[hso,g1];simp)
   simp only[hb,if_true]
   rfl
 ·have jq:k=T.length:=by omega
  subst jq
  rw[zLy]at h7 bU
  have xj:decide ((T.length:Int)<T.length)=false:=by simp
  have hBl:=(zLn.1 iO).1
  have wg:=fun X=>af iO [X]
  have we:∀ X Y,((B++[X]).set 1 Y)[1]? = some Y:=fun X Y=>zLp (by simp;omega)
  have hTl:(((T.length+1:Nat):Int)==1)=decide (T=[]):=by
   cases T <;> simp
   omega
  have hpt:ie T=(if T=[] then [47,46,119,101,108,108,45,107,110,111,119,110] else T.flatMap gM)++[47,100,105,100,46,106,115,111,110]:=by
   unfold ie
   by_cases hT:T=[]
   ·rw[if_pos hT,if_pos hT];rfl
   ·rw[if_neg hT,if_neg hT];rfl
  have fT:(ie T).length≤100000:=by rw[hpt];split <;> simp only[zLo,zLq,zLx] <;> omega
  have pf:=j6 ⟨x,p,ie T,[],[],false,false⟩ (bR _ fT)
  unfold dY at pf
  simp only at pf
  by_cases hT:T=[]
  ·rw[if_pos hT]at hpt
   rw[hpt]at pf ⊢
   have hTd:decide (T=[])=true:=decide_eq_true hT
   simp only[zLD,zLI]at pf
   simp only[ad,↓Xn,↓Xo,↓Xg,↓Xd,↓Xe,↓Xf,Tryz.VΓ,Tryz.Γs,Xp,Xi,Nat.reduceAdd,Nat.reduceSub,Nat.reduceLT,Nat.reduceLeDiff,reduceIte,reduceCtorEq,Nat.reduceEqDiff,implies_true,forall_const,aa,h2,h3,h4,h5,h7,h24,h25,h26,iO,hBN,mC,hBj,wg,we,xj,bU,hTl,hTd,aX,dH]
   (refine ae pf ?_;simp only[ad,↓Xn,↓Xo,↓Xg,↓Xd,↓Xe,↓Xf,Tryz.VΓ,Tryz.Γs,Xp,Xi,Nat.reduceAdd,Nat.reduceSub,Nat.reduceLT,Nat.reduceLeDiff,reduceIte,reduceCtorEq,Nat.reduceEqDiff,implies_true,forall_const,aa,h2,h3,h4,h5,h7,h24,h25,h26,iO,hBN,mC,hBj,wg,we,xj,bU,hTl,hTd,aX,dH])
   unfold jB
   exact⟨fun hl=>(by rw[if_pos (by simp only[decide_eq_true_eq,decide_eq_false_iff_not]at hl;omega)];rfl),fun hl=>(by rw[if_neg (by simp only[decide_eq_true_eq,decide_eq_false_iff_not]at hl;omega)];rfl)⟩
  ·rw[if_neg hT]at hpt
   rw[hpt]at pf ⊢
   have hTd:decide (T=[])=false:=decide_eq_false hT
   simp only[ad,↓Xn,↓Xo,↓Xg,↓Xd,↓Xe,↓Xf,Tryz.VΓ,Tryz.Γs,Xp,Xi,Nat.reduceAdd,Nat.reduceSub,Nat.reduceLT,Nat.reduceLeDiff,reduceIte,reduceCtorEq,Nat.reduceEqDiff,implies_true,forall_const,aa,h2,h3,h4,h5,h7,h24,h25,h26,iO,hBN,mC,hBj,wg,we,xj,bU,hTl,hTd,aX,dH]
   refine⟨by omega,?_⟩
   (refine ae pf ?_;simp only[ad,↓Xn,↓Xo,↓Xg,↓Xd,↓Xe,↓Xf,Tryz.VΓ,Tryz.Γs,Xp,Xi,Nat.reduceAdd,Nat.reduceSub,Nat.reduceLT,Nat.reduceLeDiff,reduceIte,reduceCtorEq,Nat.reduceEqDiff,implies_true,forall_const,aa,h2,h3,h4,h5,h7,h24,h25,h26,iO,hBN,mC,hBj,wg,we,xj,bU,hTl,hTd,aX,dH])
   unfold jB
   exact⟨fun hl=>(by rw[if_pos (by simp only[decide_eq_true_eq,decide_eq_false_iff_not]at hl;omega)];rfl),fun hl=>(by rw[if_neg (by simp only[decide_eq_true_eq,decide_eq_false_iff_not]at hl;omega)];rfl)⟩
theorem uY (x:Bytes):bI x=(x.all cV&&!((aj x).1==[])):=by
 unfold bI
 by_cases h:(aj x).2=0
 ·rw[h];cases x.all cV <;> simp[bne]
 ·have h2:(aj x).1=[]:=by
   unfold aj at h ⊢
   split
   ·rfl
   ·split
    ·rfl
    ·rename_i h1 h2;rw[if_neg h1,if_neg h2]at h;exact absurd rfl h
  rw[h2];cases x.all cV <;> simp
theorem n9 {u:eS}{L:List Bytes}(h:u.path=cF→L.all bI=true)(hb:L.all bI=false):fe u L=(fM.none,110):=by
 unfold fe
 rw[if_neg (fun k=>by rw[h k]at hb;cases hb),if_pos hb]
theorem qs {u:eS}{L:List Bytes}(h:L.all bI=true):fe u L=gV ⟨dC,bf u++if u.path=cF then [] else L.flatMap bn⟩:=by
 unfold fe
 by_cases k:u.path=cF
 ·rw[if_pos k,if_pos k,zLS]
 ·rw[if_neg k,if_neg k,if_neg (by rw[h];simp)]
theorem vP (u:eS)(hk:Fair u):PC Tryz.V 109 [dY u] (.eN [eW (fW u).1,.int .i64 (fW u).2]):=by
 have pv1:=Co u hk
 have fT:=hk.1
 unfold dY at pv1 ⊢
 cases hv:fN u
 ·rw[hv]at pv1
  rw[show fW u=(fM.none,8) from if_pos hv]
  refine aU 3000 Tryz.func109 rfl Tryz.ntmps109 Tryz.results109 Tryz.call109 (by simp) (by simp[flat,flat.ai,eW,dY]) (by simp[flat,flat.ai,eW,dY]) ?_
  simp only[ad,↓Xn,↓Xo,↓Xg,↓Xd,↓Xe,↓Xf,Tryz.VΓ,Tryz.Γs,Xp,Xi,Nat.reduceAdd,Nat.reduceSub,Nat.reduceLT,Nat.reduceLeDiff,reduceIte,reduceCtorEq,Nat.reduceEqDiff,implies_true,forall_const,aa]
  (refine ae pv1 ?_;simp only[ad,↓Xn,↓Xo,↓Xg,↓Xd,↓Xe,↓Xf,Tryz.VΓ,Tryz.Γs,Xp,Xi,Nat.reduceAdd,Nat.reduceSub,Nat.reduceLT,Nat.reduceLeDiff,reduceIte,reduceCtorEq,Nat.reduceEqDiff,implies_true,forall_const,aa,beq_self_eq_true,bne_self_eq_false,Int.reduceBEq,Int.reduceBNe,Int.reduceLT,Int.reduceLE])
  rfl
 obtain⟨T,z,hT,CJ,hL0,hp4⟩:=rG hv
 rw[uR hv hT CJ]
 rw[hv]at pv1
 have DZ:=lC 47 u.path
 have hpth:u.path=cF→T.dropLast.all bI=true:=by
  intro k
  rw[k]at hT
  obtain rfl:T=[([46,119,101,108,108,45,107,110,111,119,110]:List UInt8),e9]:=by
   have e:aB 47 cF=[[],([46,119,101,108,108,45,107,110,111,119,110]:List UInt8),e9]:=by decide +kernel
   rw[e]at hT
   exact(List.cons.inj hT).2.symm
  decide +kernel
 refine aU 3000 Tryz.func109 rfl Tryz.ntmps109 Tryz.results109 Tryz.call109 (by simp) (by simp[flat,flat.ai,eW,dY]) (by simp[flat,flat.ai,eW,dY]) ?_
 simp only[ad,↓Xn,↓Xo,↓Xg,↓Xd,↓Xe,↓Xf,Tryz.VΓ,Tryz.Γs,Xp,Xi,Nat.reduceAdd,Nat.reduceSub,Nat.reduceLT,Nat.reduceLeDiff,reduceIte,reduceCtorEq,Nat.reduceEqDiff,implies_true,forall_const,aa]
 (refine ae pv1 ?_;simp only[ad,↓Xn,↓Xo,↓Xg,↓Xd,↓Xe,↓Xf,Tryz.VΓ,Tryz.Γs,Xp,Xi,Nat.reduceAdd,Nat.reduceSub,Nat.reduceLT,Nat.reduceLeDiff,reduceIte,reduceCtorEq,Nat.reduceEqDiff,implies_true,forall_const,aa,beq_self_eq_true,bne_self_eq_false,Int.reduceBEq,Int.reduceBNe,Int.reduceLT,Int.reduceLE])
 refine aG (pI u.path 47 (by omega)) ?_
 rintro r b ⟨j,rfl,lr,hj,cg⟩
 rw[hT]at DZ hj ⊢
 generalize (aM 47 u.path).1=c at *
 clear hT
 simp only[zLL,zLo,zLq]at DZ
 simp only at lr hj cg
 have e0:T.length+1 - zLY 1=T.length:=by simp
 have e1:List.drop (zLY 1 * 1) (List.take ((T.length+1) * 1) (SV.str c::T.map SV.str))=T.map SV.str:=by
  rw[zLV (by simp)];simp
 have hz:(T.map SV.str)[((T.length:Int) - 1).toNat * 1]? = some (.str z):=by
  rw[show ((T.length:Int) - 1).toNat * 1=T.length - 1 by omega,List.getElem?_map,← List.getLast?_eq_getElem?,CJ]
  rfl
 simp only[List.map_cons,zLq]at hj
 have mA:=(zLn.1 hj).1
 have hjo:=fun X=>af hj [X]
 have mu:=cg.at (j:=1) rfl
 have eU:=cg.at (j:=0) rfl
 have C3:=fun X=>af mu [X]
 have hbo0:=fun X=>af eU [X]
 simp only[zLq,zLx]at lr
 have hQ0:∀ Y Z,(b.set j Y++[Z])[0]? = b[0]? := fun Y Z=>by
  rw[zLs (by rw[zLC];omega),zLr (by omega)]
 have hQ1:∀ Y Z,(b.set j Y++[Z])[1]? = b[1]? := fun Y Z=>by
  rw[zLs (by rw[zLC];omega),zLr (by omega)]
 have hQn:∀ Y Z,(b.set j Y++[Z])[b.length]? = some Z:=fun Y Z=>by
  rw[zLw (by simp)];simp
 have hQs:∀ Y Z W,((b.set j Y++[Z]).set 1 W)[1]? = some W:=fun Y Z W=>zLp (by simp;omega)
 have hzS:(z != [100,105,100,46,106,115,111,110])=(z != e9):=rfl
 have hQl:∀ Y Z,(b.set j Y++[Z]).length=b.length+1:=fun Y Z=>by simp
 have hD0:∀ Y Z V,(b.set j Y++[Z]++[V])[0]? = b[0]? := fun Y Z V=>by
  rw[zLs (by simp)];exact hQ0 Y Z
 have hD1:∀ Y Z V,(b.set j Y++[Z]++[V])[1]? = b[1]? := fun Y Z V=>by
  rw[zLs (by simp;omega)];exact hQ1 Y Z
 have hDn:∀ Y Z V,(b.set j Y++[Z]++[V])[b.length+1]? = some V:=fun Y Z V=>by
  rw[zLw (by simp)];simp
 have hDs:∀ Y Z V X,((b.set j Y++[Z]++[V]).set 1 X)[1]? = some X:=fun Y Z V X=>zLp (by simp)
 have pb:T.dropLast.length=T.length - 1:=List.length_dropLast ..
 have e2:((T.length:Int) - 1).toNat=T.dropLast.length:=by omega
 have e3:List.take (T.dropLast.length * 1) (T.map SV.str)=T.dropLast.map SV.str:=by
  rw[Nat.mul_one,pb,zLX,List.map_take]
 rw[e2]at hz
 have hdf:T.dropLast.flatten.length≤T.flatten.length:=by
  rw[zLX]
  have:=congrArg (fun l=>(List.flatten l).length) (List.take_append_drop (T.length - 1) T)
  simp only[List.flatten_append,zLo]at this
  omega
 have C0:=qL hv
 obtain⟨-,-,-,k4,k5,k6⟩:=ct C0.host
 have hfd:=rv T.dropLast
 have bR:∀ q:Bytes,q.length≤100000→er ⟨dC,q⟩:=fun q hq=>⟨show dC.length≤_ by decide,show q.length≤_ by omega⟩
 simp only[ad,↓Xn,↓Xo,↓Xg,↓Xd,↓Xe,↓Xf,Tryz.VΓ,Tryz.Γs,Xp,Xi,Nat.reduceAdd,Nat.reduceSub,Nat.reduceLT,Nat.reduceLeDiff,reduceIte,reduceCtorEq,Nat.reduceEqDiff,implies_true,forall_const,aa,e0,e1,e2,e3,hz,hj,hjo,eU,mu,hQ0,hQ1,hQn,hQs,hQl,hD0,hD1,hDn,hDs,aX,hzS]
 refine⟨⟨by omega,by omega⟩,fun hq=>⟨fun hf=>⟨⟨by omega,by omega⟩,⟨by omega,by omega⟩,by simp;omega,fun lL=>?_,fun lL=>⟨⟨by omega,by omega⟩,⟨by omega,by omega⟩,fun ny=>?_,fun ny=>?_⟩⟩,fun hf=>?_⟩,fun hq=>?_⟩
 ·rw[if_neg (by rw[hq];simp),if_neg (by rw[hf];simp),if_pos lL];rfl
 ·rw[if_neg (by rw[hq];simp),if_neg (by rw[hf];simp),if_neg (by rw[lL];simp),if_pos (by simp at ny;omega)];rfl
 ·rw[if_neg (by rw[hq];simp),if_neg (by rw[hf];simp),if_neg (by rw[lL];simp),if_neg (by simp at ny;omega)]
  have pn:=yd u.port (by omega) (by omega)
  have hdc:=dB 19 u.port.natAbs (by omega)
  have hxs:∀ x∈T.dropLast,x.length≤4096:=fun x hx=>by
   have:=gS hx
   omega
  have hLl:T.dropLast.length≤5000:=by omega
  have hfdl:(T.dropLast.flatMap bn).length≤60000:=by omega
  have za:=(hD0 (.own (.str c::T.map SV.str) 9 1 (T.length+1) false) (.own (T.map SV.str) 9 1 T.length false) (.own (T.dropLast.map SV.str) 9 1 T.dropLast.length false)).trans eU
  have hE1:=(hD1 (.own (.str c::T.map SV.str) 9 1 (T.length+1) false) (.own (T.map SV.str) 9 1 T.length false) (.own (T.dropLast.map SV.str) 9 1 T.dropLast.length false)).trans mu
  have hEr:=hDn (.own (.str c::T.map SV.str) 9 1 (T.length+1) false) (.own (T.map SV.str) 9 1 T.length false) (.own (T.dropLast.map SV.str) 9 1 T.dropLast.length false)
  clear hD0 hD1 hDn hDs hQ0 hQ1 hQn hQs hQl hz e3 e1 hdf hfd
  refine⟨fun hp=>?_,fun hp=>?_⟩
  ·have hp0:¬ u.port=0:=by simpa using hp
   have qk:u.host++(37::51::65::cG u.port.natAbs)=bf u:=by unfold bf;rw[if_neg hp0];rfl
   (refine ae pn ?_;simp only[ad,↓Xn,↓Xo,↓Xg,↓Xd,↓Xe,↓Xf,Tryz.VΓ,Tryz.Γs,Xp,Xi,Nat.reduceAdd,Nat.reduceSub,Nat.reduceLT,Nat.reduceLeDiff,reduceIte,reduceCtorEq,Nat.reduceEqDiff,implies_true,forall_const,aa])
   rw[qk]
   have nD:(bf u).length≤300:=by rw[← qk];simp only[zLo,zLq];omega
   refine⟨by omega,by omega,?_⟩
   refine aJ (fun σ=>∃ k:Nat,k≤T.dropLast.length∧lk 1 σ.t=some (.p 0 0)∧lk 2 σ.t=some (.p 1 0)∧lk 3 σ.t=some (.int .i64 0)∧lk 5 σ.t=some (.str (bf u++if u.path=cF then [] else(T.dropLast.take k).flatMap bn))∧lk 56 σ.t=some (.o (b.length+1) T.dropLast.length)∧lk 57 σ.t=some (.int .i64 T.dropLast.length)∧lk 58 σ.t=some (.int .i64 k) ∧
    σ.b[0]? = some (.cells [.str u.host,.int .i64 u.port,.str u.path,.str u.query,.str u.fragment,.bool u.bh,.bool u.bA] 91 true)∧σ.b[1]? = some (.cells [.str [],.str []] 123 true)∧σ.b[b.length+1]? = some (.own (T.dropLast.map SV.str) 9 1 T.dropLast.length false)∧(T.dropLast.take k).all bI=true) (fun σ=>T.dropLast.length - iH 58 σ)
    ⟨0,by omega,rfl,rfl,rfl,congrArg (fun x=>some (SV.str x)) (by split <;> simp),rfl,rfl,rfl,za,hE1,hEr,rfl⟩ ?_
   generalize b.length=N at *
   generalize T.dropLast=L at *
   rintro⟨t,B⟩ ⟨k,hk,h1,h2,h3,h5,ru,rr,qp,nE,iO,mC,bU⟩
   simp only at h1 h2 h3 h5 ru rr qp nE iO mC
   rw[ax qp]
   have jM:∀ X,(B.set 1 X)[1]? = some X:=fun X=>zLp (zLn.1 iO).1
   by_cases aA:k<L.length
   ·have hx:(L.map SV.str)[k * 1]? = some (.str L[k]):=by simp[aA]
    have DW:=hxs L[k] (zLv aA)
    have A7:=la (g:=bn) aA
    have jL:bI L[k]=false→L.all bI=false:=fun h=>cQ aA h
    have A6:bI L[k]=true→(L.take (k+1)).all bI=true:=fun h=>aS aA bU h
    simp only[ad,↓Xn,↓Xo,↓Xg,↓Xd,↓Xe,↓Xf,Tryz.VΓ,Tryz.Γs,Xp,Xi,Nat.reduceAdd,Nat.reduceSub,Nat.reduceLT,Nat.reduceLeDiff,reduceIte,reduceCtorEq,Nat.reduceEqDiff,implies_true,forall_const,aa,h1,h2,h3,h5,ru,rr,qp,nE,iO,mC,hx,jM]
    refine⟨fun _=>⟨⟨by omega,by omega⟩,by simp;omega,?_⟩,fun h=>absurd h (by simp;omega)⟩
    have hd:=uY L[k]
    have o4:bn L[k]=58::aO (aj L[k]).1:=rfl
    have pb:=cI L[k]
    have pd:=eY L[k]
    have pe:=kx (aj L[k]).1 (by omega)
    have mh:=fg (aj L[k]).1
    have A8:=gW (g:=bn) (L:=L) (k:=k)
    generalize L[k]=x at *
    clear hx
    refine aJ (fun σ=>∃ i:Nat,i≤x.length∧lk 1 σ.t=some (.p 0 0)∧lk 2 σ.t=some (.p 1 0)∧lk 3 σ.t=some (.int .i64 0)∧lk 5 σ.t=some (.str (bf u++if u.path=cF then [] else(L.take k).flatMap bn))∧lk 56 σ.t=some (.o (N+1) L.length)∧lk 57 σ.t=some (.int .i64 L.length)∧lk 58 σ.t=some (.int .i64 k)∧lk 7 σ.t=some (.str x)∧lk 8 σ.t=some (.int .i64 i) ∧
     σ.b[0]? = some (.cells [.str u.host,.int .i64 u.port,.str u.path,.str u.query,.str u.fragment,.bool u.bh,.bool u.bA] 91 true)∧σ.b[1]? = some (.cells [.str [],.str []] 123 true)∧σ.b[N+1]? = some (.own (L.map SV.str) 9 1 L.length false)∧(x.take i).all cV=true) (fun σ=>x.length - iH 8 σ)
     ⟨0,by omega,h1,h2,h3,h5,ru,rr,qp,rfl,rfl,nE,iO,mC,rfl⟩ ?_
    clear h1 h2 h3 h5 ru rr qp nE iO mC jM bU za hE1 hEr
    rintro⟨t,B⟩ ⟨i,hi,h1,h2,h3,h5,ru,rr,qp,h7,h8,nE,iO,mC,bU⟩
    simp only at h1 h2 h3 h5 ru rr qp h7 h8 nE iO mC
    rw[ax h8]
    have jM:∀ X,(B.set 1 X)[1]? = some X:=fun X=>zLp (zLn.1 iO).1
    by_cases dR:i<x.length
    ·have hg:x.getD i 0=x[i]:=by simp[List.getD,dR]
     have Hs:cV x[i]=false→L.all bI=false:=fun h=>jL (by rw[hd,cQ dR h];rfl)
     simp only[ad,↓Xn,↓Xo,↓Xg,↓Xd,↓Xe,↓Xf,Tryz.VΓ,Tryz.Γs,Xp,Xi,Nat.reduceAdd,Nat.reduceSub,Nat.reduceLT,Nat.reduceLeDiff,reduceIte,reduceCtorEq,Nat.reduceEqDiff,implies_true,forall_const,aa,h1,h2,h3,h5,ru,rr,qp,nE,iO,mC,h7,h8,hg,jM]
     refine⟨fun _=>⟨⟨by omega,by omega⟩,?_⟩,fun h=>absurd h (by simp;omega)⟩
     (refine ae (cX x[i]) ?_;simp only[ad,↓Xn,↓Xo,↓Xg,↓Xd,↓Xe,↓Xf,Tryz.VΓ,Tryz.Γs,Xp,Xi,Nat.reduceAdd,Nat.reduceSub,Nat.reduceLT,Nat.reduceLeDiff,reduceIte,reduceCtorEq,Nat.reduceEqDiff,implies_true,forall_const,aa,h1,h2,h3,h5,ru,rr,qp,nE,iO,mC,h7,h8,hg,jM])
     have vA:((x[i].toNat:Int) != 37)=(x[i] != 37):=by
      have:=cA dR 37 (n:=37) rfl
      show (!_)=(!_)
      rw[← this,hg]
     rw[vA]
     have fin:cV x[i]=true→∀ (t':List (Nat × SV)),lk 8 t'=some (.int .i64 ((i:Int)+1))→(∃ m:Nat,m≤x.length∧SV.int IntKind.i64 ((i:Int)+1)=SV.int IntKind.i64 (m:Int)∧(x.take m).all cV=true)∧x.length - iH 8 ⟨t',B⟩<x.length - (i:Int).toNat:=fun hm t' k6 =>
      ⟨⟨i+1,by omega,rfl,aS dR bU hm⟩,by rw[ax (σ:=⟨t',B⟩) k6];omega⟩
     refine⟨fun hp=>⟨⟨by omega,by omega⟩,fun h9=>?_,fun h9=>⟨⟨by omega,by omega⟩,fin ?_ _ rfl⟩⟩,fun hp=>⟨⟨by omega,by omega⟩,fin ?_ _ rfl⟩⟩
     ·have hb:=Hs (by unfold cV;simp at hp h9 ⊢;exact⟨h9,hp⟩)
      rw[n9 hpth hb];rfl
     ·unfold cV;simp at h9 ⊢;exact .inl h9
     ·unfold cV;simp at hp ⊢;exact .inr hp
    ·have jq:i=x.length:=by omega
     subst jq
     rw[zLy]at bU
     have xj:decide ((x.length:Int)<x.length)=false:=by simp
     generalize aj x=X at *
     obtain⟨w,ew⟩:=X
     simp only at pd pe hd o4 pb mh
     simp only[ad,↓Xn,↓Xo,↓Xg,↓Xd,↓Xe,↓Xf,Tryz.VΓ,Tryz.Γs,Xp,Xi,Nat.reduceAdd,Nat.reduceSub,Nat.reduceLT,Nat.reduceLeDiff,reduceIte,reduceCtorEq,Nat.reduceEqDiff,implies_true,forall_const,aa,h1,h2,h3,h5,ru,rr,qp,nE,iO,mC,h7,h8,jM,xj]
     (refine ae pd ?_;simp only[ad,↓Xn,↓Xo,↓Xg,↓Xd,↓Xe,↓Xf,Tryz.VΓ,Tryz.Γs,Xp,Xi,Nat.reduceAdd,Nat.reduceSub,Nat.reduceLT,Nat.reduceLeDiff,reduceIte,reduceCtorEq,Nat.reduceEqDiff,implies_true,forall_const,aa,h1,h2,h3,h5,ru,rr,qp,nE,iO,mC,h7,h8,jM])
     have nz:∀ (S:Bytes) (t':List (Nat × SV)),bI x=true→S=bf u++(if u.path=cF then [] else(L.take (k+1)).flatMap bn)→lk 58 t'=some (.int .i64 ((k:Int)+1)) →
      (∃ m:Nat,m≤L.length∧SV.str S=SV.str (bf u++if u.path=cF then [] else(L.take m).flatMap bn)∧SV.int IntKind.i64 ((k:Int)+1)=SV.int IntKind.i64 (m:Int)∧(L.take m).all bI=true)∧L.length - iH 58 ⟨t',B⟩<L.length - (k:Int).toNat:=fun S t' h hS k6 =>
      ⟨⟨k+1,by omega,by rw[hS],rfl,A6 h⟩,by rw[ax (σ:=⟨t',B⟩) k6];omega⟩
     refine⟨fun g1=>(by rw[n9 hpth (jL (by rw[hd,g1];simp))];rfl),fun g1=>?_⟩
     have hgx:bI x=true:=by rw[hd,bU,g1];rfl
     refine⟨fun g2=>?_,fun g2=>?_⟩
     ·have bk:¬ u.path=cF:=fun e=>by rw[e]at g2;exact absurd g2 (by decide)
      (refine ae pe ?_;simp only[ad,↓Xn,↓Xo,↓Xg,↓Xd,↓Xe,↓Xf,Tryz.VΓ,Tryz.Γs,Xp,Xi,Nat.reduceAdd,Nat.reduceSub,Nat.reduceLT,Nat.reduceLeDiff,reduceIte,reduceCtorEq,Nat.reduceEqDiff,implies_true,forall_const,aa,h1,h2,h3,h5,ru,rr,qp,nE,iO,mC,h7,h8,jM])
      have hle:(bf u++if u.path=cF then [] else(L.take k).flatMap bn).length≤100000:=by
       rw[if_neg bk,zLo];omega
      refine⟨by omega,by omega,⟨by omega,by omega⟩,nz _ _ hgx ?_ rfl⟩
      rw[if_neg bk,if_neg bk,A7,o4,List.append_assoc]
     ·have he:u.path=cF:=by simpa[cF] using g2
      refine⟨⟨by omega,by omega⟩,?_⟩
      have:=nz (bf u++if u.path=cF then [] else(L.take k).flatMap bn) ((58,.int .i64 ((k:Int)+1))::t) hgx (by rw[if_pos he,if_pos he]) rfl
      refine⟨?_,?_⟩
      ·obtain⟨⟨m,q1,q2,q3,q4⟩,-⟩:=this
       exact⟨m,q1,q2,q3,q4⟩
      ·rw[ax (k:=.i64) (n:=(k:Int)+1) rfl];omega
   ·have jq:k=L.length:=by omega
    subst jq
    rw[zLy]at h5 bU
    have xj:decide ((L.length:Int)<L.length)=false:=by simp
    rw[qs bU]
    have hle:(bf u++if u.path=cF then [] else L.flatMap bn).length≤100000:=by
     rw[zLo];split
     ·simp;omega
     ·omega
    generalize (bf u++if u.path=cF then [] else L.flatMap bn)=S at *
    have pf:=fS ⟨dC,S⟩ (bR S hle)
    unfold eW at pf
    simp only at pf
    have hBl:=(zLn.1 iO).1
    have wg:=fun X=>af iO [X]
    have we:∀ X Y,((B++[X]).set 1 Y)[1]? = some Y:=fun X Y=>zLp (by simp;omega)
    simp only[ad,↓Xn,↓Xo,↓Xg,↓Xd,↓Xe,↓Xf,Tryz.VΓ,Tryz.Γs,Xp,Xi,Nat.reduceAdd,Nat.reduceSub,Nat.reduceLT,Nat.reduceLeDiff,reduceIte,reduceCtorEq,Nat.reduceEqDiff,implies_true,forall_const,aa,h1,h2,h3,h5,ru,rr,qp,nE,iO,mC,jM,xj,wg,we,aX,dH]
    (refine ae pf ?_;simp only[ad,↓Xn,↓Xo,↓Xg,↓Xd,↓Xe,↓Xf,Tryz.VΓ,Tryz.Γs,Xp,Xi,Nat.reduceAdd,Nat.reduceSub,Nat.reduceLT,Nat.reduceLeDiff,reduceIte,reduceCtorEq,Nat.reduceEqDiff,implies_true,forall_const,aa,h1,h2,h3,h5,ru,rr,qp,nE,iO,mC,jM,xj,wg,we,aX,dH])
    unfold gV
    exact⟨fun hl=>(by rw[if_pos (by simp only[decide_eq_true_eq,decide_eq_false_iff_not]at hl;omega)];rfl),fun hl=>(by rw[if_neg (by simp only[decide_eq_true_eq,decide_eq_false_iff_not]at hl;omega)];rfl)⟩
  ·have hp0:u.port=0:=by simpa using hp
   have qk:u.host=bf u:=by unfold bf;rw[if_pos hp0,zLS]
   have nD:(bf u).length≤300:=by rw[← qk];omega
   refine aJ (fun σ=>∃ k:Nat,k≤T.dropLast.length∧lk 1 σ.t=some (.p 0 0)∧lk 2 σ.t=some (.p 1 0)∧lk 3 σ.t=some (.int .i64 0)∧lk 5 σ.t=some (.str (bf u++if u.path=cF then [] else(T.dropLast.take k).flatMap bn))∧lk 56 σ.t=some (.o (b.length+1) T.dropLast.length)∧lk 57 σ.t=some (.int .i64 T.dropLast.length)∧lk 58 σ.t=some (.int .i64 k) ∧
    σ.b[0]? = some (.cells [.str u.host,.int .i64 u.port,.str u.path,.str u.query,.str u.fragment,.bool u.bh,.bool u.bA] 91 true)∧σ.b[1]? = some (.cells [.str [],.str []] 123 true)∧σ.b[b.length+1]? = some (.own (T.dropLast.map SV.str) 9 1 T.dropLast.length false)∧(T.dropLast.take k).all bI=true) (fun σ=>T.dropLast.length - iH 58 σ)
    ⟨0,by omega,rfl,rfl,rfl,congrArg (fun x=>some (SV.str x)) (by rw[qk];split <;> simp),rfl,rfl,rfl,za,hE1,hEr,rfl⟩ ?_
   generalize b.length=N at *
   generalize T.dropLast=L at *
   rintro⟨t,B⟩ ⟨k,hk,h1,h2,h3,h5,ru,rr,qp,nE,iO,mC,bU⟩
   simp only at h1 h2 h3 h5 ru rr qp nE iO mC
   rw[ax qp]
   have jM:∀ X,(B.set 1 X)[1]? = some X:=fun X=>zLp (zLn.1 iO).1
   by_cases aA:k<L.length
   ·have hx:(L.map SV.str)[k * 1]? = some (.str L[k]):=by simp[aA]
    have DW:=hxs L[k] (zLv aA)
    have A7:=la (g:=bn) aA
    have jL:bI L[k]=false→L.all bI=false:=fun h=>cQ aA h
    have A6:bI L[k]=true→(L.take (k+1)).all bI=true:=fun h=>aS aA bU h
    simp only[ad,↓Xn,↓Xo,↓Xg,↓Xd,↓Xe,↓Xf,Tryz.VΓ,Tryz.Γs,Xp,Xi,Nat.reduceAdd,Nat.reduceSub,Nat.reduceLT,Nat.reduceLeDiff,reduceIte,reduceCtorEq,Nat.reduceEqDiff,implies_true,forall_const,aa,h1,h2,h3,h5,ru,rr,qp,nE,iO,mC,hx,jM]
    refine⟨fun _=>⟨⟨by omega,by omega⟩,by simp;omega,?_⟩,fun h=>absurd h (by simp;omega)⟩
    have hd:=uY L[k]
    have o4:bn L[k]=58::aO (aj L[k]).1:=rfl
    have pb:=cI L[k]
    have pd:=eY L[k]
    have pe:=kx (aj L[k]).1 (by omega)
    have mh:=fg (aj L[k]).1
    have A8:=gW (g:=bn) (L:=L) (k:=k)
    generalize L[k]=x at *
    clear hx
    refine aJ (fun σ=>∃ i:Nat,i≤x.length∧lk 1 σ.t=some (.p 0 0)∧lk 2 σ.t=some (.p 1 0)∧lk 3 σ.t=some (.int .i64 0)∧lk 5 σ.t=some (.str (bf u++if u.path=cF then [] else(L.take k).flatMap bn))∧lk 56 σ.t=some (.o (N+1) L.length)∧lk 57 σ.t=some (.int .i64 L.length)∧lk 58 σ.t=some (.int .i64 k)∧lk 7 σ.t=some (.str x)∧lk 8 σ.t=some (.int .i64 i) ∧
     σ.b[0]? = some (.cells [.str u.host,.int .i64 u.port,.str u.path,.str u.query,.str u.fragment,.bool u.bh,.bool u.bA] 91 true)∧σ.b[1]? = some (.cells [.str [],.str []] 123 true)∧σ.b[N+1]? = some (.own (L.map SV.str) 9 1 L.length false)∧(x.take i).all cV=true) (fun σ=>x.length - iH 8 σ)
     ⟨0,by omega,h1,h2,h3,h5,ru,rr,qp,rfl,rfl,nE,iO,mC,rfl⟩ ?_
    clear h1 h2 h3 h5 ru rr qp nE iO mC jM bU za hE1 hEr
    rintro⟨t,B⟩ ⟨i,hi,h1,h2,h3,h5,ru,rr,qp,h7,h8,nE,iO,mC,bU⟩
    simp only at h1 h2 h3 h5 ru rr qp h7 h8 nE iO mC
    rw[ax h8]
    have jM:∀ X,(B.set 1 X)[1]? = some X:=fun X=>zLp (zLn.1 iO).1
    by_cases dR:i<x.length
    ·have hg:x.getD i 0=x[i]:=by simp[List.getD,dR]
     have Hs:cV x[i]=false→L.all bI=false:=fun h=>jL (by rw[hd,cQ dR h];rfl)
     simp only[ad,↓Xn,↓Xo,↓Xg,↓Xd,↓Xe,↓Xf,Tryz.VΓ,Tryz.Γs,Xp,Xi,Nat.reduceAdd,Nat.reduceSub,Nat.reduceLT,Nat.reduceLeDiff,reduceIte,reduceCtorEq,Nat.reduceEqDiff,implies_true,forall_const,aa,h1,h2,h3,h5,ru,rr,qp,nE,iO,mC,h7,h8,hg,jM]
     refine⟨fun _=>⟨⟨by omega,by omega⟩,?_⟩,fun h=>absurd h (by simp;omega)⟩
     (refine ae (cX x[i]) ?_;simp only[ad,↓Xn,↓Xo,↓Xg,↓Xd,↓Xe,↓Xf,Tryz.VΓ,Tryz.Γs,Xp,Xi,Nat.reduceAdd,Nat.reduceSub,Nat.reduceLT,Nat.reduceLeDiff,reduceIte,reduceCtorEq,Nat.reduceEqDiff,implies_true,forall_const,aa,h1,h2,h3,h5,ru,rr,qp,nE,iO,mC,h7,h8,hg,jM])
     have vA:((x[i].toNat:Int) != 37)=(x[i] != 37):=by
      have:=cA dR 37 (n:=37) rfl
      show (!_)=(!_)
      rw[← this,hg]
     rw[vA]
     have fin:cV x[i]=true→∀ (t':List (Nat × SV)),lk 8 t'=some (.int .i64 ((i:Int)+1))→(∃ m:Nat,m≤x.length∧SV.int IntKind.i64 ((i:Int)+1)=SV.int IntKind.i64 (m:Int)∧(x.take m).all cV=true)∧x.length - iH 8 ⟨t',B⟩<x.length - (i:Int).toNat:=fun hm t' k6 =>
      ⟨⟨i+1,by omega,rfl,aS dR bU hm⟩,by rw[ax (σ:=⟨t',B⟩) k6];omega⟩
     refine⟨fun hp=>⟨⟨by omega,by omega⟩,fun h9=>?_,fun h9=>⟨⟨by omega,by omega⟩,fin ?_ _ rfl⟩⟩,fun hp=>⟨⟨by omega,by omega⟩,fin ?_ _ rfl⟩⟩
     ·have hb:=Hs (by unfold cV;simp at hp h9 ⊢;exact⟨h9,hp⟩)
      rw[n9 hpth hb];rfl
     ·unfold cV;simp at h9 ⊢;exact .inl h9
     ·unfold cV;simp at hp ⊢;exact .inr hp
    ·have jq:i=x.length:=by omega
     subst jq
     rw[zLy]at bU
     have xj:decide ((x.length:Int)<x.length)=false:=by simp
     generalize aj x=X at *
     obtain⟨w,ew⟩:=X
     simp only at pd pe hd o4 pb mh
     simp only[ad,↓Xn,↓Xo,↓Xg,↓Xd,↓Xe,↓Xf,Tryz.VΓ,Tryz.Γs,Xp,Xi,Nat.reduceAdd,Nat.reduceSub,Nat.reduceLT,Nat.reduceLeDiff,reduceIte,reduceCtorEq,Nat.reduceEqDiff,implies_true,forall_const,aa,h1,h2,h3,h5,ru,rr,qp,nE,iO,mC,h7,h8,jM,xj]
     (refine ae pd ?_;simp only[ad,↓Xn,↓Xo,↓Xg,↓Xd,↓Xe,↓Xf,Tryz.VΓ,Tryz.Γs,Xp,Xi,Nat.reduceAdd,Nat.reduceSub,Nat.reduceLT,Nat.reduceLeDiff,reduceIte,reduceCtorEq,Nat.reduceEqDiff,implies_true,forall_const,aa,h1,h2,h3,h5,ru,rr,qp,nE,iO,mC,h7,h8,jM])
     have nz:∀ (S:Bytes) (t':List (Nat × SV)),bI x=true→S=bf u++(if u.path=cF then [] else(L.take (k+1)).flatMap bn)→lk 58 t'=some (.int .i64 ((k:Int)+1)) →
      (∃ m:Nat,m≤L.length∧SV.str S=SV.str (bf u++if u.path=cF then [] else(L.take m).flatMap bn)∧SV.int IntKind.i64 ((k:Int)+1)=SV.int IntKind.i64 (m:Int)∧(L.take m).all bI=true)∧L.length - iH 58 ⟨t',B⟩<L.length - (k:Int).toNat:=fun S t' h hS k6 =>
      ⟨⟨k+1,by omega,by rw[hS],rfl,A6 h⟩,by rw[ax (σ:=⟨t',B⟩) k6];omega⟩
     refine⟨fun g1=>(by rw[n9 hpth (jL (by rw[hd,g1];simp))];rfl),fun g1=>?_⟩
     have hgx:bI x=true:=by rw[hd,bU,g1];rfl
     refine⟨fun g2=>?_,fun g2=>?_⟩
     ·have bk:¬ u.path=cF:=fun e=>by rw[e]at g2;exact absurd g2 (by decide)
      (refine ae pe ?_;simp only[ad,↓Xn,↓Xo,↓Xg,↓Xd,↓Xe,↓Xf,Tryz.VΓ,Tryz.Γs,Xp,Xi,Nat.reduceAdd,Nat.reduceSub,Nat.reduceLT,Nat.reduceLeDiff,reduceIte,reduceCtorEq,Nat.reduceEqDiff,implies_true,forall_const,aa,h1,h2,h3,h5,ru,rr,qp,nE,iO,mC,h7,h8,jM])
      have hle:(bf u++if u.path=cF then [] else(L.take k).flatMap bn).length≤100000:=by
       rw[if_neg bk,zLo];omega
      refine⟨by omega,by omega,⟨by omega,by omega⟩,nz _ _ hgx ?_ rfl⟩
      rw[if_neg bk,if_neg bk,A7,o4,List.append_assoc]
     ·have he:u.path=cF:=by simpa[cF] using g2
      refine⟨⟨by omega,by omega⟩,?_⟩
      have:=nz (bf u++if u.path=cF then [] else(L.take k).flatMap bn) ((58,.int .i64 ((k:Int)+1))::t) hgx (by rw[if_pos he,if_pos he]) rfl
      refine⟨?_,?_⟩
      ·obtain⟨⟨m,q1,q2,q3,q4⟩,-⟩:=this
       exact⟨m,q1,q2,q3,q4⟩
      ·rw[ax (k:=.i64) (n:=(k:Int)+1) rfl];omega
   ·have jq:k=L.length:=by omega
    subst jq
    rw[zLy]at h5 bU
    have xj:decide ((L.length:Int)<L.length)=false:=by simp
    rw[qs bU]
    have hle:(bf u++if u.path=cF then [] else L.flatMap bn).length≤100000:=by
     rw[zLo];split
     ·simp;omega
     ·omega
    generalize (bf u++if u.path=cF then [] else L.flatMap bn)=S at *
    have pf:=fS ⟨dC,S⟩ (bR S hle)
    unfold eW at pf
    simp only at pf
    have hBl:=(zLn.1 iO).1
    have wg:=fun X=>af iO [X]
    have we:∀ X Y,((B++[X]).set 1 Y)[1]? = some Y:=fun X Y=>zLp (by simp;omega)
    simp only[ad,↓Xn,↓Xo,↓Xg,↓Xd,↓Xe,↓Xf,Tryz.VΓ,Tryz.Γs,Xp,Xi,Nat.reduceAdd,Nat.reduceSub,Nat.reduceLT,Nat.reduceLeDiff,reduceIte,reduceCtorEq,Nat.reduceEqDiff,implies_true,forall_const,aa,h1,h2,h3,h5,ru,rr,qp,nE,iO,mC,jM,xj,wg,we,aX,dH]
    (refine ae pf ?_;simp only[ad,↓Xn,↓Xo,↓Xg,↓Xd,↓Xe,↓Xf,Tryz.VΓ,Tryz.Γs,Xp,Xi,Nat.reduceAdd,Nat.reduceSub,Nat.reduceLT,Nat.reduceLeDiff,reduceIte,reduceCtorEq,Nat.reduceEqDiff,implies_true,forall_const,aa,h1,h2,h3,h5,ru,rr,qp,nE,iO,mC,jM,xj,wg,we,aX,dH])
    unfold gV
    exact⟨fun hl=>(by rw[if_pos (by simp only[decide_eq_true_eq,decide_eq_false_iff_not]at hl;omega)];rfl),fun hl=>(by rw[if_neg (by simp only[decide_eq_true_eq,decide_eq_false_iff_not]at hl;omega)];rfl)⟩
 ·rw[if_neg (by rw[hq];simp),if_pos hf];rfl
 ·rw[if_pos hq];rfl
theorem su (d:fM)(h:er d):PC Tryz.V 79 [eW d] (.eN [eW (eo d).1,.int .i64 (eo d).2]):=by
 have pt:=Ak d h
 have uJ:=s9 d
 unfold eo
 generalize eA d=X at pt uJ ⊢
 obtain⟨u,e⟩:=X
 simp only at pt uJ ⊢
 refine aU 3000 Tryz.func79 rfl Tryz.ntmps79 Tryz.results79 Tryz.call79 (by simp) (by simp[flat,flat.ai,eW,dY]) (by simp[flat,flat.ai,eW,dY]) ?_
 unfold eW
 unfold eW dY at pt
 simp only[ad,↓Xn,↓Xo,↓Xg,↓Xd,↓Xe,↓Xf,Tryz.VΓ,Tryz.Γs,Xp,Xi,Nat.reduceAdd,Nat.reduceSub,Nat.reduceLT,Nat.reduceLeDiff,reduceIte,reduceCtorEq,Nat.reduceEqDiff,implies_true,forall_const,aa]
 (refine ae pt ?_;simp only[ad,↓Xn,↓Xo,↓Xg,↓Xd,↓Xe,↓Xf,Tryz.VΓ,Tryz.Γs,Xp,Xi,Nat.reduceAdd,Nat.reduceSub,Nat.reduceLT,Nat.reduceLeDiff,reduceIte,reduceCtorEq,Nat.reduceEqDiff,implies_true,forall_const,aa])
 refine⟨fun h1=>(by rw[if_pos (by simpa using h1)];rfl),fun h1=>?_⟩
 rw[if_neg (by simpa using h1)]
 have pf:=vP u (uJ (by simpa using h1))
 unfold eW dY at pf
 (refine ae pf ?_;simp only[ad,↓Xn,↓Xo,↓Xg,↓Xd,↓Xe,↓Xf,Tryz.VΓ,Tryz.Γs,Xp,Xi,Nat.reduceAdd,Nat.reduceSub,Nat.reduceLT,Nat.reduceLeDiff,reduceIte,reduceCtorEq,Nat.reduceEqDiff,implies_true,forall_const,aa])
end Go.Proofs.YteipdaijbncgeaaGreatDoor
namespace Wf
open Go Go.RowKit
structure jg where
 kind:Int
 text:Bytes
 host:Bytes
 port:Int
 deriving DecidableEq
def jg.none:jg:=⟨0,[],[],0⟩
def jH (s:Bytes):jg × Int:=if (bJ s).2≠0 then(jg.none,(bJ s).2) else(⟨1,iS (bJ s).1,(bJ s).1.host,0⟩,0)
def jG (s:Bytes):jg × Int:=if (bN s).2≠0 then(jg.none,(bN s).2) else(⟨2,ni (bN s).1,(bN s).1.host,0⟩,0)
def kQ (s:Bytes):jg × Int:=if (bC s).2≠0 then(jg.none,(bC s).2) else(⟨3,cy (bC s).1,(bC s).1.host,(bC s).1.port⟩,0)
def qf (c:fM × Int):jg × Int:=if c.2≠0 then(jg.none,c.2) else if (bd c.1).2≠0 then(jg.none,(bd c.1).2) else(⟨4,bu c.1,(bd c.1).1.1,(bd c.1).1.2⟩,0)
def kR (s:Bytes):jg × Int:=if (aZ s).2≠0 then(jg.none,(aZ s).2) else qf (eo (aZ s).1)
def qd:Bytes:=[97,99,99,116]
def rl:Bytes:=[109,97,105,108,116,111]
def uz:Bytes:=[100,105,100]
def nu (sch s:Bytes):jg × Int :=
 if sch=qd then jH s else if sch=rl then jG s else if sch=cZ then kQ s else if sch=uz then kR s else(jg.none,60)
def bF (s:Bytes):jg × Int :=
 if 4096<s.length then(jg.none,5)
 else if (aM 58 s).2.2=false then(jg.none,60)
 else nu (lower (aM 58 s).1) s
def db (i:jg):Bool:=decide (bF i.text=(i,0))
end Wf
namespace Go.Proofs.YteipdaijbncgeaaGreatDoor
open Go Vc Go.RowKit Wf
def Et (a:nR):SV:=.agg [.str a.user,.str a.host]
def fE (s:Bytes):Bytes × Bytes × Int :=
 if 4096<s.length then([],[],5) else if s.length<5∨lower (s.take 5)≠mo then([],[],60) else if (aM 64 (s.drop 5)).2.2=false then([],[],6) else((aM 64 (s.drop 5)).1,(aM 64 (s.drop 5)).2.1,0)
theorem wm (s:Bytes):bJ s=if (fE s).2.2≠0 then(nR.none,(fE s).2.2) else vp (aY nt (fE s).1) (bw (fE s).2.1):=by
 unfold bJ fE qE
 split
 ·simp
 split
 ·simp
 split
 ·simp
 ·simp
theorem Cv (s:Bytes):PC Tryz.V 138 [.str s] (.eN [.str (fE s).1,.str (fE s).2.1,.int .i64 (fE s).2.2]):=by
 have pe:=ym (s.take 5) mo (by simp;omega) (by decide)
 rw[show lower mo=mo by decide]at pe
 refine aU 3000 Tryz.func138 rfl Tryz.ntmps138 Tryz.results138 Tryz.call138 (by simp) (by simp[flat,flat.ai]) (by simp[flat,flat.ai]) ?_
 simp only[ad,↓Xn,↓Xo,↓Xg,↓Xd,↓Xe,↓Xf,Tryz.VΓ,Tryz.Γs,Xp,Xi,Nat.reduceAdd,Nat.reduceSub,Nat.reduceLT,Nat.reduceLeDiff,reduceIte,reduceCtorEq,Nat.reduceEqDiff,implies_true,forall_const,aa]
 unfold fE
 refine⟨fun h=>?_,fun h=>⟨fun h2=>⟨⟨by omega,(by simp at h2;omega)⟩,?_⟩,fun h2=>?_⟩⟩
 ·have h:4096<s.length:=(by simp at h;omega)
  rw[if_pos h]
 ·have h:¬ 4096<s.length:=(by simp at h;omega)
  have h2:¬ s.length<5:=(by simp at h2;omega)
  rw[if_neg h]
  (refine ae pe ?_;simp only[ad,↓Xn,↓Xo,↓Xg,↓Xd,↓Xe,↓Xf,Tryz.VΓ,Tryz.Γs,Xp,Xi,Nat.reduceAdd,Nat.reduceSub,Nat.reduceLT,Nat.reduceLeDiff,reduceIte,reduceCtorEq,Nat.reduceEqDiff,implies_true,forall_const,aa])
  refine⟨fun h3=>?_,fun h3=>⟨⟨by omega,by omega⟩,?_⟩⟩
  ·rw[if_pos (.inr (by simpa using h3))]
  rw[if_neg (by simp only[not_or];exact⟨h2,by simpa using h3⟩)]
  (refine ae (tS (s.drop 5) 64 (by simp;omega)) ?_;simp only[ad,↓Xn,↓Xo,↓Xg,↓Xd,↓Xe,↓Xf,Tryz.VΓ,Tryz.Γs,Xp,Xi,Nat.reduceAdd,Nat.reduceSub,Nat.reduceLT,Nat.reduceLeDiff,reduceIte,reduceCtorEq,Nat.reduceEqDiff,implies_true,forall_const,aa])
  refine⟨fun h4=>?_,fun h4=>?_⟩
  ·rw[if_pos (by simpa using h4)]
  ·rw[if_neg (by simpa using h4)]
 ·have h:¬ 4096<s.length:=(by simp at h;omega)
  have h2:s.length<5:=(by simp at h2;omega)
  rw[if_neg h,if_pos (.inl h2)]
theorem yj (s:Bytes):PC Tryz.V 114 [.str s] (.eN [Et (bJ s).1,.int .i64 (bJ s).2]):=by
 have pc:=Cv s
 rw[wm]
 have hl:(fE s).2.2=0→(fE s).2.1.length≤4096:=fun h=>by
  unfold fE at h ⊢
  split at h
  ·simp at h
  split at h
  ·simp at h
  split at h
  ·simp at h
  ·rename_i h1 h2 h3
   rw[if_neg h1,if_neg h2,if_neg h3]
   have:=dQ 64 (s.drop 5)
   simp at this ⊢
   omega
 generalize fE s=x at pc hl ⊢
 obtain⟨u,p,e⟩:=x
 simp only at pc hl ⊢
 refine aU 3000 Tryz.func114 rfl Tryz.ntmps114 Tryz.results114 Tryz.call114 (by simp) (by simp[flat,flat.ai]) (by simp[flat,flat.ai,Et]) ?_
 simp only[ad,↓Xn,↓Xo,↓Xg,↓Xd,↓Xe,↓Xf,Tryz.VΓ,Tryz.Γs,Xp,Xi,Nat.reduceAdd,Nat.reduceSub,Nat.reduceLT,Nat.reduceLeDiff,reduceIte,reduceCtorEq,Nat.reduceEqDiff,implies_true,forall_const,aa]
 (refine ae (pc) ?_;simp only[ad,↓Xn,↓Xo,↓Xg,↓Xd,↓Xe,↓Xf,Tryz.VΓ,Tryz.Γs,Xp,Xi,Nat.reduceAdd,Nat.reduceSub,Nat.reduceLT,Nat.reduceLeDiff,reduceIte,reduceCtorEq,Nat.reduceEqDiff,implies_true,forall_const,aa])
 refine⟨fun h1=>?_,fun h1=>?_⟩
 ·rw[if_pos (by simpa using h1)];rfl
 rw[if_neg (by simpa using h1)]
 have hp:=hl (by simpa using h1)
 have pn:=iM u nt (by decide)
 generalize aY nt u=n at pn ⊢
 obtain⟨n,e1⟩:=n
 have ph:=rX p (by omega)
 generalize bw p=hh at ph ⊢
 obtain⟨hh,e2⟩:=hh
 simp only at pn ph
 unfold vp
 (refine ae (pn) ?_;simp only[ad,↓Xn,↓Xo,↓Xg,↓Xd,↓Xe,↓Xf,Tryz.VΓ,Tryz.Γs,Xp,Xi,Nat.reduceAdd,Nat.reduceSub,Nat.reduceLT,Nat.reduceLeDiff,reduceIte,reduceCtorEq,Nat.reduceEqDiff,implies_true,forall_const,aa])
 refine⟨fun h2=>⟨fun h3=>⟨⟨by omega,?_⟩,fun h4=>?_,fun h4=>?_⟩,fun h3=>?_⟩,fun h2=>?_⟩
 ·cases n with
  | nil=>simp at h3
  | cons c r=>simp only[zLq];omega
 ·cases n with
  | nil=>simp at h3
  | cons c r =>
    have h4:c=37:=by
     rw[← UInt8.toNat_inj]
     have:((c.toNat:Int)==37)=true:=h4
     have:=beq_iff_eq.1 this
     have e:(37:UInt8).toNat=37:=rfl
     omega
    rw[if_pos (.inr (.inr (by rw[h4];rfl)))]
    rfl
 ·cases n with
  | nil=>simp at h3
  | cons c r =>
    have h4:c≠37:=by
     rintro rfl
     have:(((37:UInt8).toNat:Int)==37)=false:=h4
     simp at this
    rw[if_neg (by simp only[not_or];exact⟨by simpa using h2,by simp,by simpa using h4⟩)]
    (refine ae ph ?_;simp only[ad,↓Xn,↓Xo,↓Xg,↓Xd,↓Xe,↓Xf,Tryz.VΓ,Tryz.Γs,Xp,Xi,Nat.reduceAdd,Nat.reduceSub,Nat.reduceLT,Nat.reduceLeDiff,reduceIte,reduceCtorEq,Nat.reduceEqDiff,implies_true,forall_const,aa])
    refine⟨fun h5=>?_,fun h5=>?_⟩
    ·rw[if_pos (by simpa using h5)];rfl
    ·rw[if_neg (by simpa using h5)];rfl
 ·rw[if_pos (.inr (.inl (by simpa using h3)))];rfl
 ·rw[if_pos (.inl (by simpa using h2))];rfl
theorem vT (a:nR)(h:a.user.length≤140737488355328∧a.host.length≤140737488355328):PC Tryz.V 115 [Et a] (.str (iS a)):=by
 refine aU 3000 Tryz.func115 rfl Tryz.ntmps115 Tryz.results115 Tryz.call115 (by simp) (by simp[flat,flat.ai,Et]) (by simp[flat,flat.ai,Et]) ?_
 unfold Et
 simp only[ad,↓Xn,↓Xo,↓Xg,↓Xd,↓Xe,↓Xf,Tryz.VΓ,Tryz.Γs,Xp,Xi,Nat.reduceAdd,Nat.reduceSub,Nat.reduceLT,Nat.reduceLeDiff,reduceIte,reduceCtorEq,Nat.reduceEqDiff,implies_true,forall_const,aa]
 refine⟨by omega,by omega,by simp only[zLo,zLq,zLx];omega,?_⟩
 simp[iS,mo]
theorem Ae (a:nR)(h:a.user.length≤140737488355328∧a.host.length≤140737488355328):PC Tryz.V 49 [Et a] (.str (iS a)):=by
 refine aU 3000 Tryz.func49 rfl Tryz.ntmps49 Tryz.results49 Tryz.call49 (by simp) (by simp[flat,flat.ai,Et]) (by simp[flat,flat.ai,Et]) ?_
 unfold Et
 simp only[ad,↓Xn,↓Xo,↓Xg,↓Xd,↓Xe,↓Xf,Tryz.VΓ,Tryz.Γs,Xp,Xi,Nat.reduceAdd,Nat.reduceSub,Nat.reduceLT,Nat.reduceLeDiff,reduceIte,reduceCtorEq,Nat.reduceEqDiff,implies_true,forall_const,aa]
 refine⟨by omega,by omega,by simp only[zLo,zLq,zLx];omega,?_⟩
 simp[iS,mo]
theorem Cn (s:Bytes):PC Tryz.V 48 [.str s] (.eN [Et (bJ s).1,.int .i64 (bJ s).2]):=by
 have pe:=oW (s.take 5) mo (by simp;omega) (by decide)
 rw[show lower mo=mo by decide]at pe
 refine aU 3000 Tryz.func48 rfl Tryz.ntmps48 Tryz.results48 Tryz.call48 (by simp) (by simp[flat,flat.ai]) (by simp[flat,flat.ai,Et]) ?_
 simp only[ad,↓Xn,↓Xo,↓Xg,↓Xd,↓Xe,↓Xf,Tryz.VΓ,Tryz.Γs,Xp,Xi,Nat.reduceAdd,Nat.reduceSub,Nat.reduceLT,Nat.reduceLeDiff,reduceIte,reduceCtorEq,Nat.reduceEqDiff,implies_true,forall_const,aa]
 unfold bJ
 refine⟨fun h=>?_,fun h=>⟨fun h2=>⟨⟨by omega,(by simp at h2;omega)⟩,?_⟩,fun h2=>?_⟩⟩
 ·have h:4096<s.length:=(by simp at h;omega)
  rw[if_pos h];rfl
 ·have h:¬ 4096<s.length:=(by simp at h;omega)
  have h2:¬ s.length<5:=(by simp at h2;omega)
  rw[if_neg h]
  (refine ae pe ?_;simp only[ad,↓Xn,↓Xo,↓Xg,↓Xd,↓Xe,↓Xf,Tryz.VΓ,Tryz.Γs,Xp,Xi,Nat.reduceAdd,Nat.reduceSub,Nat.reduceLT,Nat.reduceLeDiff,reduceIte,reduceCtorEq,Nat.reduceEqDiff,implies_true,forall_const,aa,Int.reduceToNat])
  refine⟨fun h3=>?_,fun h3=>⟨⟨by omega,by omega⟩,?_⟩⟩
  ·rw[if_pos (.inr (by simpa using h3))];rfl
  rw[if_neg (by simp only[not_or];exact⟨h2,by simpa using h3⟩)]
  have hS:(s.drop 5).length≤4096:=by simp;omega
  generalize s.drop 5=S at hS ⊢
  have pi:=bg S [64] (by omega) (by decide)
  rw[show (List.contains [64] ·:UInt8→Bool)=(·==64) from by funext c;simp;exact(Bool.beq_eq_decide_eq _ _).symm]at pi
  have fT:=cq (·==64) S
  unfold qE
  (refine ae pi ?_;simp only[ad,↓Xn,↓Xo,↓Xg,↓Xd,↓Xe,↓Xf,Tryz.VΓ,Tryz.Γs,Xp,Xi,Nat.reduceAdd,Nat.reduceSub,Nat.reduceLT,Nat.reduceLeDiff,reduceIte,reduceCtorEq,Nat.reduceEqDiff,implies_true,forall_const,aa])
  refine⟨fun h4=>?_,fun h4=>?_⟩
  ·have h4:=beq_iff_eq.1 h4
   rw[fC (by omega)];rfl
  have h4:pre (·==64) S<S.length:=by
   have:=beq_eq_false_iff_ne.1 h4
   omega
  rw[show aM 64 S=(S.take (pre (·==64) S),S.drop (pre (·==64) S+1),true) from if_pos h4]
  simp only[Bool.true_eq_false,if_false]
  generalize hk:pre (·==64) S=k at *
  have pn:=gP (S.take k) nt (by decide)
  have ph:=wO (S.drop (k+1)) (by simp;omega)
  generalize aY nt (S.take k)=n at pn ⊢
  obtain⟨n,e1⟩:=n
  generalize bw (S.drop (k+1))=hh at ph ⊢
  obtain⟨hh,e2⟩:=hh
  simp only at pn ph
  unfold vp
  simp only
  refine⟨⟨by omega,by omega⟩,?_⟩
  (refine ae pn ?_;simp only[ad,↓Xn,↓Xo,↓Xg,↓Xd,↓Xe,↓Xf,Tryz.VΓ,Tryz.Γs,Xp,Xi,Nat.reduceAdd,Nat.reduceSub,Nat.reduceLT,Nat.reduceLeDiff,reduceIte,reduceCtorEq,Nat.reduceEqDiff,implies_true,forall_const,aa])
  refine⟨fun h2=>⟨fun h3=>⟨⟨by omega,?_⟩,fun h4=>?_,fun h4=>?_⟩,fun h3=>?_⟩,fun h2=>?_⟩
  ·cases n with
   | nil=>simp at h3
   | cons c r=>simp only[zLq];omega
  ·cases n with
   | nil=>simp at h3
   | cons c r =>
     have h4:c=37:=by
      rw[← UInt8.toNat_inj]
      have:((c.toNat:Int)==37)=true:=h4
      have:=beq_iff_eq.1 this
      have e:(37:UInt8).toNat=37:=rfl
      omega
     rw[if_pos (.inr (.inr (by rw[h4];rfl)))]
     rfl
  ·cases n with
   | nil=>simp at h3
   | cons c r =>
     have h4:c≠37:=by
      rintro rfl
      have:(((37:UInt8).toNat:Int)==37)=false:=h4
      simp at this
     rw[if_neg (by simp only[not_or];exact⟨by simpa using h2,by simp,by simpa using h4⟩)]
     refine⟨⟨by omega,by omega⟩,⟨by omega,by omega⟩,?_⟩
     (refine ae ph ?_;simp only[ad,↓Xn,↓Xo,↓Xg,↓Xd,↓Xe,↓Xf,Tryz.VΓ,Tryz.Γs,Xp,Xi,Nat.reduceAdd,Nat.reduceSub,Nat.reduceLT,Nat.reduceLeDiff,reduceIte,reduceCtorEq,Nat.reduceEqDiff,implies_true,forall_const,aa])
     refine⟨fun h5=>?_,fun h5=>?_⟩
     ·rw[if_pos (by simpa using h5)];rfl
     ·rw[if_neg (by simpa using h5)];rfl
  ·rw[if_pos (.inr (.inl (by simpa using h3)))];rfl
  ·rw[if_pos (.inl (by simpa using h2))];rfl
 ·have h:¬ 4096<s.length:=(by simp at h;omega)
  have h2:s.length<5:=(by simp at h2;omega)
  rw[if_neg h,if_pos (.inl h2)];rfl
def iI (i:jg):SV:=.agg [.int .i64 i.kind,.str i.text,.str i.host,.int .i64 i.port]
theorem DU (s:Bytes)(h:(bJ s).2=0):(bJ s).1.user.length≤140737488355328∧(bJ s).1.host.length≤140737488355328:=by
 have h1:=(IS (s:=s) (a:=(bJ s).1) (by rw[← h])).2
 unfold iS at h1
 simp at h1
 omega
theorem AT (s:Bytes)(h:(bN s).2=0):(bN s).1.loc.length≤300000∧(bN s).1.host.length≤140737488355328:=by
 have h1:=G2 (s:=s) (m:=(bN s).1) (by rw[← h])
 have h2:=Aw h1.loc
 have h3:=(nw h1.host).2.1
 exact⟨by omega,by omega⟩
theorem Ao (s:Bytes):PC Tryz.V 86 [.str s] (.eN [iI (jH s).1,.int .i64 (jH s).2]):=by
 have p1:=yj s
 have p2:=fun h=>vT (bJ s).1 (DU s h)
 unfold jH
 unfold Et at p1 p2
 (refine aU 3000 Tryz.func86 rfl Tryz.ntmps86 Tryz.results86 Tryz.call86 (by simp) (by simp[flat,flat.ai,iI]) (by simp[flat,flat.ai,iI]) ?_)
 unfold iI
 simp only[ad,↓Xn,↓Xo,↓Xg,↓Xd,↓Xe,↓Xf,Tryz.VΓ,Tryz.Γs,Xp,Xi,Nat.reduceAdd,Nat.reduceSub,Nat.reduceLT,Nat.reduceLeDiff,reduceIte,reduceCtorEq,Nat.reduceEqDiff,implies_true,forall_const,aa,beq_self_eq_true,bne_self_eq_false,Int.reduceBEq,Int.reduceBNe,Int.reduceLT,Int.reduceLE]
 (refine ae p1 ?_;simp only[ad,↓Xn,↓Xo,↓Xg,↓Xd,↓Xe,↓Xf,Tryz.VΓ,Tryz.Γs,Xp,Xi,Nat.reduceAdd,Nat.reduceSub,Nat.reduceLT,Nat.reduceLeDiff,reduceIte,reduceCtorEq,Nat.reduceEqDiff,implies_true,forall_const,aa,beq_self_eq_true,bne_self_eq_false,Int.reduceBEq,Int.reduceBNe,Int.reduceLT,Int.reduceLE])
 refine⟨fun h=>?_,fun h=>?_⟩
 ·have h:(bJ s).2≠0:=by simpa using h
  simp[h,jg.none]
 ·have h:(bJ s).2=0:=by simpa using h
  (refine aV (p2 h) ?_;simp only[ad,↓Xn,↓Xo,↓Xg,↓Xd,↓Xe,↓Xf,Tryz.VΓ,Tryz.Γs,Xp,Xi,Nat.reduceAdd,Nat.reduceSub,Nat.reduceLT,Nat.reduceLeDiff,reduceIte,reduceCtorEq,Nat.reduceEqDiff,implies_true,forall_const,aa,beq_self_eq_true,bne_self_eq_false,Int.reduceBEq,Int.reduceBNe,Int.reduceLT,Int.reduceLE])
  simp only[h]
  exact⟨(av (by kernel_rfl)),by simp⟩
theorem An (s:Bytes):PC Tryz.V 87 [.str s] (.eN [iI (jG s).1,.int .i64 (jG s).2]):=by
 have p1:=yg s
 have p2:=fun h=>vQ (bN s).1 (AT s h)
 unfold jG
 unfold DO at p1 p2
 (refine aU 3000 Tryz.func87 rfl Tryz.ntmps87 Tryz.results87 Tryz.call87 (by simp) (by simp[flat,flat.ai,iI]) (by simp[flat,flat.ai,iI]) ?_)
 unfold iI
 simp only[ad,↓Xn,↓Xo,↓Xg,↓Xd,↓Xe,↓Xf,Tryz.VΓ,Tryz.Γs,Xp,Xi,Nat.reduceAdd,Nat.reduceSub,Nat.reduceLT,Nat.reduceLeDiff,reduceIte,reduceCtorEq,Nat.reduceEqDiff,implies_true,forall_const,aa,beq_self_eq_true,bne_self_eq_false,Int.reduceBEq,Int.reduceBNe,Int.reduceLT,Int.reduceLE]
 (refine ae p1 ?_;simp only[ad,↓Xn,↓Xo,↓Xg,↓Xd,↓Xe,↓Xf,Tryz.VΓ,Tryz.Γs,Xp,Xi,Nat.reduceAdd,Nat.reduceSub,Nat.reduceLT,Nat.reduceLeDiff,reduceIte,reduceCtorEq,Nat.reduceEqDiff,implies_true,forall_const,aa,beq_self_eq_true,bne_self_eq_false,Int.reduceBEq,Int.reduceBNe,Int.reduceLT,Int.reduceLE])
 refine⟨fun h=>?_,fun h=>?_⟩
 ·have h:(bN s).2≠0:=by simpa using h
  simp[h,jg.none]
 ·have h:(bN s).2=0:=by simpa using h
  (refine aV (p2 h) ?_;simp only[ad,↓Xn,↓Xo,↓Xg,↓Xd,↓Xe,↓Xf,Tryz.VΓ,Tryz.Γs,Xp,Xi,Nat.reduceAdd,Nat.reduceSub,Nat.reduceLT,Nat.reduceLeDiff,reduceIte,reduceCtorEq,Nat.reduceEqDiff,implies_true,forall_const,aa,beq_self_eq_true,bne_self_eq_false,Int.reduceBEq,Int.reduceBNe,Int.reduceLT,Int.reduceLE])
  simp only[h]
  exact⟨(av (by kernel_rfl)),by simp⟩
theorem Cr (s:Bytes):PC Tryz.V 88 [.str s] (.eN [iI (kQ s).1,.int .i64 (kQ s).2]):=by
 have p1:=rR s
 have p2:=fun h=>gO (bC s).1 (ve (lU (s:=s) (u:=(bC s).1) (by rw[← (show (bC s).2=0 from h)])))
 unfold kQ
 unfold dY at p1 p2
 (refine aU 3000 Tryz.func88 rfl Tryz.ntmps88 Tryz.results88 Tryz.call88 (by simp) (by simp[flat,flat.ai,iI]) (by simp[flat,flat.ai,iI]) ?_)
 unfold iI
 simp only[ad,↓Xn,↓Xo,↓Xg,↓Xd,↓Xe,↓Xf,Tryz.VΓ,Tryz.Γs,Xp,Xi,Nat.reduceAdd,Nat.reduceSub,Nat.reduceLT,Nat.reduceLeDiff,reduceIte,reduceCtorEq,Nat.reduceEqDiff,implies_true,forall_const,aa,beq_self_eq_true,bne_self_eq_false,Int.reduceBEq,Int.reduceBNe,Int.reduceLT,Int.reduceLE]
 (refine ae p1 ?_;simp only[ad,↓Xn,↓Xo,↓Xg,↓Xd,↓Xe,↓Xf,Tryz.VΓ,Tryz.Γs,Xp,Xi,Nat.reduceAdd,Nat.reduceSub,Nat.reduceLT,Nat.reduceLeDiff,reduceIte,reduceCtorEq,Nat.reduceEqDiff,implies_true,forall_const,aa,beq_self_eq_true,bne_self_eq_false,Int.reduceBEq,Int.reduceBNe,Int.reduceLT,Int.reduceLE])
 refine⟨fun h=>?_,fun h=>?_⟩
 ·have h:(bC s).2≠0:=by simpa using h
  simp[h,jg.none]
 ·have h:(bC s).2=0:=by simpa using h
  (refine aV (p2 h) ?_;simp only[ad,↓Xn,↓Xo,↓Xg,↓Xd,↓Xe,↓Xf,Tryz.VΓ,Tryz.Γs,Xp,Xi,Nat.reduceAdd,Nat.reduceSub,Nat.reduceLT,Nat.reduceLeDiff,reduceIte,reduceCtorEq,Nat.reduceEqDiff,implies_true,forall_const,aa,beq_self_eq_true,bne_self_eq_false,Int.reduceBEq,Int.reduceBNe,Int.reduceLT,Int.reduceLE])
  simp only[h]
  exact⟨(av (by kernel_rfl)),by simp⟩
theorem E0 (s:Bytes):PC Tryz.V 52 [.str s] (.eN [iI (kQ s).1,.int .i64 (kQ s).2]):=by
 have p1:=tL s
 have p2:=fun h=>j6 (bC s).1 (ve (lU (s:=s) (u:=(bC s).1) (by rw[← (show (bC s).2=0 from h)])))
 unfold kQ
 unfold dY at p1 p2
 (refine aU 3000 Tryz.func52 rfl Tryz.ntmps52 Tryz.results52 Tryz.call52 (by simp) (by simp[flat,flat.ai,iI]) (by simp[flat,flat.ai,iI]) ?_)
 unfold iI
 simp only[ad,↓Xn,↓Xo,↓Xg,↓Xd,↓Xe,↓Xf,Tryz.VΓ,Tryz.Γs,Xp,Xi,Nat.reduceAdd,Nat.reduceSub,Nat.reduceLT,Nat.reduceLeDiff,reduceIte,reduceCtorEq,Nat.reduceEqDiff,implies_true,forall_const,aa,beq_self_eq_true,bne_self_eq_false,Int.reduceBEq,Int.reduceBNe,Int.reduceLT,Int.reduceLE]
 (refine ae p1 ?_;simp only[ad,↓Xn,↓Xo,↓Xg,↓Xd,↓Xe,↓Xf,Tryz.VΓ,Tryz.Γs,Xp,Xi,Nat.reduceAdd,Nat.reduceSub,Nat.reduceLT,Nat.reduceLeDiff,reduceIte,reduceCtorEq,Nat.reduceEqDiff,implies_true,forall_const,aa,beq_self_eq_true,bne_self_eq_false,Int.reduceBEq,Int.reduceBNe,Int.reduceLT,Int.reduceLE])
 refine⟨fun h=>?_,fun h=>?_⟩
 ·have h:(bC s).2≠0:=by simpa using h
  simp[h,jg.none]
 ·have h:(bC s).2=0:=by simpa using h
  (refine aV (p2 h) ?_;simp only[ad,↓Xn,↓Xo,↓Xg,↓Xd,↓Xe,↓Xf,Tryz.VΓ,Tryz.Γs,Xp,Xi,Nat.reduceAdd,Nat.reduceSub,Nat.reduceLT,Nat.reduceLeDiff,reduceIte,reduceCtorEq,Nat.reduceEqDiff,implies_true,forall_const,aa,beq_self_eq_true,bne_self_eq_false,Int.reduceBEq,Int.reduceBNe,Int.reduceLT,Int.reduceLE])
  simp only[h]
  exact⟨(av (by kernel_rfl)),by simp⟩
theorem AU (s:Bytes):er (aZ s).1:=by
 by_cases h:(aZ s).2=0
 ·have h1:=Em (s:=s) (d:=(aZ s).1) (by rw[← h])
  have h2:=sh (aZ s).1
  exact⟨by omega,by omega⟩
 ·rw[yN s h];exact⟨by decide,by decide⟩
theorem qb {d c:fM}(h:eo d=(c,0)):er c:=by
 obtain⟨u,h1,h2,h3,h4,h5,h6,h7,h8⟩:=oJ h
 have h9:=Em h6
 have fc:=sh c
 exact⟨by omega,by omega⟩
theorem DV {d c:fM}(h:eo d=(c,0)):(bd c).2=0:=by
 obtain⟨u,h1,h2,h3,h4,h5,h6,h7,h8⟩:=oJ h
 rw[h5]
theorem Cs (s:Bytes):PC Tryz.V 89 [.str s] (.eN [iI (kR s).1,.int .i64 (kR s).2]):=by
 have p1:=mZ s
 have p2:=so (aZ s).1 (AU s)
 unfold kR
 unfold eW at p1 p2
 (refine aU 3000 Tryz.func89 rfl Tryz.ntmps89 Tryz.results89 Tryz.call89 (by simp) (by simp[flat,flat.ai,iI]) (by simp[flat,flat.ai,iI]) ?_)
 unfold iI
 simp only[ad,↓Xn,↓Xo,↓Xg,↓Xd,↓Xe,↓Xf,Tryz.VΓ,Tryz.Γs,Xp,Xi,Nat.reduceAdd,Nat.reduceSub,Nat.reduceLT,Nat.reduceLeDiff,reduceIte,reduceCtorEq,Nat.reduceEqDiff,implies_true,forall_const,aa,beq_self_eq_true,bne_self_eq_false,Int.reduceBEq,Int.reduceBNe,Int.reduceLT,Int.reduceLE]
 (refine ae p1 ?_;simp only[ad,↓Xn,↓Xo,↓Xg,↓Xd,↓Xe,↓Xf,Tryz.VΓ,Tryz.Γs,Xp,Xi,Nat.reduceAdd,Nat.reduceSub,Nat.reduceLT,Nat.reduceLeDiff,reduceIte,reduceCtorEq,Nat.reduceEqDiff,implies_true,forall_const,aa,beq_self_eq_true,bne_self_eq_false,Int.reduceBEq,Int.reduceBNe,Int.reduceLT,Int.reduceLE])
 refine⟨fun h=>?_,fun h=>?_⟩
 ·have h:(aZ s).2≠0:=by simpa using h
  simp[h,jg.none]
 have h:(aZ s).2=0:=by simpa using h
 simp only[h,ne_eq,not_true_eq_false,if_false]
 generalize hz:eo (aZ s).1=z at p2
 obtain⟨c,e⟩:=z
 simp only at p2
 (refine ae p2 ?_;simp only[ad,↓Xn,↓Xo,↓Xg,↓Xd,↓Xe,↓Xf,Tryz.VΓ,Tryz.Γs,Xp,Xi,Nat.reduceAdd,Nat.reduceSub,Nat.reduceLT,Nat.reduceLeDiff,reduceIte,reduceCtorEq,Nat.reduceEqDiff,implies_true,forall_const,aa,beq_self_eq_true,bne_self_eq_false,Int.reduceBEq,Int.reduceBNe,Int.reduceLT,Int.reduceLE])
 refine⟨fun h=>?_,fun h=>?_⟩
 ·have h:e≠0:=by simpa using h
  simp[qf,h,jg.none]
 obtain rfl:e=0:=by simpa using h
 have p3:=lZ c (qb hz)
 have p4:=dr c (qb hz)
 unfold eW at p3 p4
 have ha:=DV hz
 rw[ha]at p3
 (refine ae (p3) ?_;simp only[ad,↓Xn,↓Xo,↓Xg,↓Xd,↓Xe,↓Xf,Tryz.VΓ,Tryz.Γs,Xp,Xi,Nat.reduceAdd,Nat.reduceSub,Nat.reduceLT,Nat.reduceLeDiff,reduceIte,reduceCtorEq,Nat.reduceEqDiff,implies_true,forall_const,aa,beq_self_eq_true,bne_self_eq_false,Int.reduceBEq,Int.reduceBNe,Int.reduceLT,Int.reduceLE])
 (refine aV (p4) ?_;simp only[ad,↓Xn,↓Xo,↓Xg,↓Xd,↓Xe,↓Xf,Tryz.VΓ,Tryz.Γs,Xp,Xi,Nat.reduceAdd,Nat.reduceSub,Nat.reduceLT,Nat.reduceLeDiff,reduceIte,reduceCtorEq,Nat.reduceEqDiff,implies_true,forall_const,aa,beq_self_eq_true,bne_self_eq_false,Int.reduceBEq,Int.reduceBNe,Int.reduceLT,Int.reduceLE])
 exact⟨(av (by kernel_rfl)),by simp[qf,ha]⟩
theorem sr (s:Bytes):PC Tryz.V 53 [.str s] (.eN [iI (kR s).1,.int .i64 (kR s).2]):=by
 have p1:=mY s
 have p2:=su (aZ s).1 (AU s)
 unfold kR
 unfold eW at p1 p2
 (refine aU 3000 Tryz.func53 rfl Tryz.ntmps53 Tryz.results53 Tryz.call53 (by simp) (by simp[flat,flat.ai,iI]) (by simp[flat,flat.ai,iI]) ?_)
 unfold iI
 simp only[ad,↓Xn,↓Xo,↓Xg,↓Xd,↓Xe,↓Xf,Tryz.VΓ,Tryz.Γs,Xp,Xi,Nat.reduceAdd,Nat.reduceSub,Nat.reduceLT,Nat.reduceLeDiff,reduceIte,reduceCtorEq,Nat.reduceEqDiff,implies_true,forall_const,aa,beq_self_eq_true,bne_self_eq_false,Int.reduceBEq,Int.reduceBNe,Int.reduceLT,Int.reduceLE]
 (refine ae p1 ?_;simp only[ad,↓Xn,↓Xo,↓Xg,↓Xd,↓Xe,↓Xf,Tryz.VΓ,Tryz.Γs,Xp,Xi,Nat.reduceAdd,Nat.reduceSub,Nat.reduceLT,Nat.reduceLeDiff,reduceIte,reduceCtorEq,Nat.reduceEqDiff,implies_true,forall_const,aa,beq_self_eq_true,bne_self_eq_false,Int.reduceBEq,Int.reduceBNe,Int.reduceLT,Int.reduceLE])
 refine⟨fun h=>?_,fun h=>?_⟩
 ·have h:(aZ s).2≠0:=by simpa using h
  simp[h,jg.none]
 have h:(aZ s).2=0:=by simpa using h
 simp only[h,ne_eq,not_true_eq_false,if_false]
 generalize hz:eo (aZ s).1=z at p2
 obtain⟨c,e⟩:=z
 simp only at p2
 (refine ae p2 ?_;simp only[ad,↓Xn,↓Xo,↓Xg,↓Xd,↓Xe,↓Xf,Tryz.VΓ,Tryz.Γs,Xp,Xi,Nat.reduceAdd,Nat.reduceSub,Nat.reduceLT,Nat.reduceLeDiff,reduceIte,reduceCtorEq,Nat.reduceEqDiff,implies_true,forall_const,aa,beq_self_eq_true,bne_self_eq_false,Int.reduceBEq,Int.reduceBNe,Int.reduceLT,Int.reduceLE])
 refine⟨fun h=>?_,fun h=>?_⟩
 ·have h:e≠0:=by simpa using h
  simp[qf,h,jg.none]
 obtain rfl:e=0:=by simpa using h
 have p3:=sw c (qb hz)
 have p4:=fS c (qb hz)
 unfold eW at p3 p4
 have ha:=DV hz
 rw[ha]at p3
 (refine ae (p3) ?_;simp only[ad,↓Xn,↓Xo,↓Xg,↓Xd,↓Xe,↓Xf,Tryz.VΓ,Tryz.Γs,Xp,Xi,Nat.reduceAdd,Nat.reduceSub,Nat.reduceLT,Nat.reduceLeDiff,reduceIte,reduceCtorEq,Nat.reduceEqDiff,implies_true,forall_const,aa,beq_self_eq_true,bne_self_eq_false,Int.reduceBEq,Int.reduceBNe,Int.reduceLT,Int.reduceLE])
 (refine aV (p4) ?_;simp only[ad,↓Xn,↓Xo,↓Xg,↓Xd,↓Xe,↓Xf,Tryz.VΓ,Tryz.Γs,Xp,Xi,Nat.reduceAdd,Nat.reduceSub,Nat.reduceLT,Nat.reduceLeDiff,reduceIte,reduceCtorEq,Nat.reduceEqDiff,implies_true,forall_const,aa,beq_self_eq_true,bne_self_eq_false,Int.reduceBEq,Int.reduceBNe,Int.reduceLT,Int.reduceLE])
 exact⟨(av (by kernel_rfl)),by simp[qf,ha]⟩
theorem uy (a b:jg):(a.kind==b.kind&&(a.text==b.text&&(a.host==b.host&&a.port==b.port)))=decide (a=b):=by
 obtain⟨a1,a2,a3,a4⟩:=a
 obtain⟨b1,b2,b3,b4⟩:=b
 rw[Bool.eq_iff_iff]
 simp
theorem Ct (hp:∀ s,PC Tryz.V 44 [.str s] (.eN [iI (bF s).1,.int .i64 (bF s).2]))(i:jg):PC Tryz.V 28 [iI i] (.bool (db i)):=by
 have p1:=hp i.text
 unfold iI at p1
 (refine aU 3000 Tryz.func28 rfl Tryz.ntmps28 Tryz.results28 Tryz.call28 (by simp) (by simp[flat,flat.ai,iI]) (by simp[flat,flat.ai,iI]) ?_)
 unfold iI
 simp only[ad,↓Xn,↓Xo,↓Xg,↓Xd,↓Xe,↓Xf,Tryz.VΓ,Tryz.Γs,Xp,Xi,Nat.reduceAdd,Nat.reduceSub,Nat.reduceLT,Nat.reduceLeDiff,reduceIte,reduceCtorEq,Nat.reduceEqDiff,implies_true,forall_const,aa]
 (refine ae p1 ?_;simp only[ad,↓Xn,↓Xo,↓Xg,↓Xd,↓Xe,↓Xf,Tryz.VΓ,Tryz.Γs,Xp,Xi,Nat.reduceAdd,Nat.reduceSub,Nat.reduceLT,Nat.reduceLeDiff,reduceIte,reduceCtorEq,Nat.reduceEqDiff,implies_true,forall_const,aa,uy])
 unfold db
 refine⟨fun h=>?_,fun h=>?_⟩
 ·have h:(bF i.text).2=0:=by simpa using h
  simp[Prod.ext_iff,h]
 ·have h:¬ (bF i.text).2=0:=by simpa using h
  simp[Prod.ext_iff,h]
theorem Aj (hp:∀ s,PC Tryz.V 32 [.str s] (.eN [iI (bF s).1,.int .i64 (bF s).2]))(i:jg):PC Tryz.V 45 [iI i] (.bool (db i)):=by
 have p1:=hp i.text
 unfold iI at p1
 (refine aU 3000 Tryz.func45 rfl Tryz.ntmps45 Tryz.results45 Tryz.call45 (by simp) (by simp[flat,flat.ai,iI]) (by simp[flat,flat.ai,iI]) ?_)
 unfold iI
 simp only[ad,↓Xn,↓Xo,↓Xg,↓Xd,↓Xe,↓Xf,Tryz.VΓ,Tryz.Γs,Xp,Xi,Nat.reduceAdd,Nat.reduceSub,Nat.reduceLT,Nat.reduceLeDiff,reduceIte,reduceCtorEq,Nat.reduceEqDiff,implies_true,forall_const,aa]
 (refine ae p1 ?_;simp only[ad,↓Xn,↓Xo,↓Xg,↓Xd,↓Xe,↓Xf,Tryz.VΓ,Tryz.Γs,Xp,Xi,Nat.reduceAdd,Nat.reduceSub,Nat.reduceLT,Nat.reduceLeDiff,reduceIte,reduceCtorEq,Nat.reduceEqDiff,implies_true,forall_const,aa,uy])
 unfold db
 refine⟨fun h=>?_,fun h=>?_⟩
 ·have h:(bF i.text).2=0:=by simpa using h
  simp[Prod.ext_iff,h]
 ·have h:¬ (bF i.text).2=0:=by simpa using h
  simp[Prod.ext_iff,h]
theorem rU (s:Bytes):PC Tryz.V 32 [.str s] (.eN [iI (bF s).1,.int .i64 (bF s).2]):=by
 (refine aU 3000 Tryz.func32 rfl Tryz.ntmps32 Tryz.results32 Tryz.call32 (by simp) (by simp[flat,flat.ai,iI]) (by simp[flat,flat.ai,iI]) ?_)
 unfold iI
 simp only[ad,↓Xn,↓Xo,↓Xg,↓Xd,↓Xe,↓Xf,Tryz.VΓ,Tryz.Γs,Xp,Xi,Nat.reduceAdd,Nat.reduceSub,Nat.reduceLT,Nat.reduceLeDiff,reduceIte,reduceCtorEq,Nat.reduceEqDiff,implies_true,forall_const,aa]
 refine⟨fun h=>?_,fun h=>?_⟩
 ·have h:4096<s.length:=by simp at h;omega
  simp[bF,h,jg.none]
 have h:s.length≤4096:=by simp at h;omega
 have h0:¬ 4096<s.length:=by omega
 have dz:pre (fun x=>[58].contains x) s=pre (·==58) s:=by congr 1;funext x;simp only[List.contains_cons,List.contains_nil,Bool.or_false]
 (refine ae (bg s [58] (by omega) (by decide)) ?_;simp only[ad,↓Xn,↓Xo,↓Xg,↓Xd,↓Xe,↓Xf,Tryz.VΓ,Tryz.Γs,Xp,Xi,Nat.reduceAdd,Nat.reduceSub,Nat.reduceLT,Nat.reduceLeDiff,reduceIte,reduceCtorEq,Nat.reduceEqDiff,implies_true,forall_const,aa])
 rw[dz]
 have hle:=cq (·==(58:UInt8)) s
 refine⟨fun h1=>?_,fun h1=>⟨⟨by omega,by omega⟩,?_⟩⟩
 ·have h1:pre (·==58) s=s.length:=by simp at h1;omega
  simp[bF,h0,aM,h1,jg.none]
 have h1:¬ pre (·==58) s=s.length:=by simp at h1;omega
 have hid:bF s=nu (lower (s.take (pre (·==58) s))) s:=by
  unfold bF aM
  rw[if_neg h0,if_pos (show pre (·==58) s<s.length by omega)]
  rfl
 rw[hid]
 (refine ae (oU (s.take (pre (·==58) s)) (by simp;omega)) ?_;simp only[ad,↓Xn,↓Xo,↓Xg,↓Xd,↓Xe,↓Xf,Tryz.VΓ,Tryz.Γs,Xp,Xi,Nat.reduceAdd,Nat.reduceSub,Nat.reduceLT,Nat.reduceLeDiff,reduceIte,reduceCtorEq,Nat.reduceEqDiff,implies_true,forall_const,aa])
 generalize lower (s.take (pre (·==58) s))=sch
 clear hid h1 hle dz
 refine⟨fun k1=>?_,fun k1=>⟨fun k2=>?_,fun k2=>⟨fun k3=>?_,fun k3=>⟨fun k4=>?_,fun k4=>?_⟩⟩⟩⟩
 ·rw[show nu sch s=jH s by simp at k1;simp[nu,qd,k1]]
  have p1:=Cn s
  have p2:=fun h=>Ae (bJ s).1 (DU s h)
  unfold jH
  unfold Et at p1 p2
  (refine ae p1 ?_;simp only[ad,↓Xn,↓Xo,↓Xg,↓Xd,↓Xe,↓Xf,Tryz.VΓ,Tryz.Γs,Xp,Xi,Nat.reduceAdd,Nat.reduceSub,Nat.reduceLT,Nat.reduceLeDiff,reduceIte,reduceCtorEq,Nat.reduceEqDiff,implies_true,forall_const,aa,beq_self_eq_true,bne_self_eq_false,Int.reduceBEq,Int.reduceBNe,Int.reduceLT,Int.reduceLE])
  refine⟨fun h=>?_,fun h=>?_⟩
  ·have h:(bJ s).2≠0:=by simpa using h
   simp[h,jg.none]
  ·have h:(bJ s).2=0:=by simpa using h
   (refine aV (p2 h) ?_;simp only[ad,↓Xn,↓Xo,↓Xg,↓Xd,↓Xe,↓Xf,Tryz.VΓ,Tryz.Γs,Xp,Xi,Nat.reduceAdd,Nat.reduceSub,Nat.reduceLT,Nat.reduceLeDiff,reduceIte,reduceCtorEq,Nat.reduceEqDiff,implies_true,forall_const,aa,beq_self_eq_true,bne_self_eq_false,Int.reduceBEq,Int.reduceBNe,Int.reduceLT,Int.reduceLE])
   simp only[h]
   exact⟨(av (by kernel_rfl)),by simp⟩
 ·rw[show nu sch s=jG s by simp at k1 k2;simp[nu,qd,rl,k2]]
  have p1:=Cl s
  have p2:=fun h=>Ad (bN s).1 (AT s h)
  unfold jG
  unfold DO at p1 p2
  (refine ae p1 ?_;simp only[ad,↓Xn,↓Xo,↓Xg,↓Xd,↓Xe,↓Xf,Tryz.VΓ,Tryz.Γs,Xp,Xi,Nat.reduceAdd,Nat.reduceSub,Nat.reduceLT,Nat.reduceLeDiff,reduceIte,reduceCtorEq,Nat.reduceEqDiff,implies_true,forall_const,aa,beq_self_eq_true,bne_self_eq_false,Int.reduceBEq,Int.reduceBNe,Int.reduceLT,Int.reduceLE])
  refine⟨fun h=>?_,fun h=>?_⟩
  ·have h:(bN s).2≠0:=by simpa using h
   simp[h,jg.none]
  ·have h:(bN s).2=0:=by simpa using h
   (refine aV (p2 h) ?_;simp only[ad,↓Xn,↓Xo,↓Xg,↓Xd,↓Xe,↓Xf,Tryz.VΓ,Tryz.Γs,Xp,Xi,Nat.reduceAdd,Nat.reduceSub,Nat.reduceLT,Nat.reduceLeDiff,reduceIte,reduceCtorEq,Nat.reduceEqDiff,implies_true,forall_const,aa,beq_self_eq_true,bne_self_eq_false,Int.reduceBEq,Int.reduceBNe,Int.reduceLT,Int.reduceLE])
   simp only[h]
   exact⟨(av (by kernel_rfl)),by simp⟩
 ·rw[show nu sch s=kQ s by simp at k1 k2 k3;simp[nu,qd,rl,cZ,k3]]
  have p1:=E0 s
  unfold iI at p1
  (refine ae p1 ?_;simp only[ad,↓Xn,↓Xo,↓Xg,↓Xd,↓Xe,↓Xf,Tryz.VΓ,Tryz.Γs,Xp,Xi,Nat.reduceAdd,Nat.reduceSub,Nat.reduceLT,Nat.reduceLeDiff,reduceIte,reduceCtorEq,Nat.reduceEqDiff,implies_true,forall_const,aa,beq_self_eq_true,bne_self_eq_false,Int.reduceBEq,Int.reduceBNe,Int.reduceLT,Int.reduceLE])
  try done
 ·rw[show nu sch s=kR s by simp at k1 k2 k3 k4;simp[nu,qd,rl,uz,cZ,k4]]
  have p1:=sr s
  unfold iI at p1
  (refine ae p1 ?_;simp only[ad,↓Xn,↓Xo,↓Xg,↓Xd,↓Xe,↓Xf,Tryz.VΓ,Tryz.Γs,Xp,Xi,Nat.reduceAdd,Nat.reduceSub,Nat.reduceLT,Nat.reduceLeDiff,reduceIte,reduceCtorEq,Nat.reduceEqDiff,implies_true,forall_const,aa,beq_self_eq_true,bne_self_eq_false,Int.reduceBEq,Int.reduceBNe,Int.reduceLT,Int.reduceLE])
  try done
 ·rw[show nu sch s=(jg.none,60) by simp at k1 k2 k3 k4;simp[nu,qd,rl,uz,cZ,k1,k2,k3,k4]]
  rfl
open Go Go.RowKit Go.Sort Wf
attribute [local go_sem] fB eF get_list
def idEs:Array MapEntry:=#[{ key:=.string ⟨#[97,99,99,116]⟩,val:=.func (.func 86) #[] #[],born:=0 },{ key:=.string ⟨#[109,97,105,108,116,111]⟩,val:=.func (.func 87) #[] #[],born:=1 },{ key:=.string ⟨#[104,116,116,112,115]⟩,val:=.func (.func 88) #[] #[],born:=2 },{ key:=.string ⟨#[100,105,100]⟩,val:=.func (.func 89) #[] #[],born:=3 }]
theorem run_upd {P:Program}{t kt et:TypeId}{w:World}{es:Array MapEntry}{c b:Nat}{k:ByteArray}{v:Value}(ht:P.underlying t=some (.map kt et))(hk:P.underlying kt=some .string)(hb:w.heap[b]? = some (.map es c))(h:Instr.findNow .string (.string k) es.toList 0=some none) :
 (Instr.mapUpdate t (.map (some b)) (.string k) v).run P w=.ok () { w with heap:=w.heap.setIfInBounds b (.map (es.push { key:=.string k,val:=v,born:=c }) (c+1)) }:=by
 have hc:(Instr.checkKey false 10000 kt (.string k)).run P w=.ok () w:=MapKept.run_checkKey (k:=.string k) hk (by simp[MapKept.IsKey]) false 9999
 simp[Instr.mapUpdate,run_underlying ht,MapKept.run_getObj_map hb,hc,MapKept.run_findKey hk h,MapKept.run_setObj_map _ hb,Result.andThen]
theorem j3 {P:Program}{t kt et:TypeId}(w:World)(es:Array MapEntry)(c:Nat)(k:ByteArray)(v:Value)(ht:P.underlying t=some (.map kt et))(hk:P.underlying kt=some .string)(h:Instr.findNow .string (.string k) es.toList 0=some none) :
 (Instr.mapUpdate t (.map (some w.heap.size)) (.string k) v).run P (w.alloc (.map es c))=.ok () (w.alloc (.map (es.push { key:=.string k,val:=v,born:=c }) (c+1))):=by
 have h1:(w.alloc (.map es c)).heap=w.heap.push (.map es c):=rfl
 rw[run_upd ht hk (w:=w.alloc (.map es c)) (es:=es) (c:=c) (by rw[h1];simp) h,h1]
 have h2:(w.heap.push (.map es c)).setIfInBounds w.heap.size (.map (es.push { key:=.string k,val:=v,born:=c }) (c+1))=w.heap.push (.map (es.push { key:=.string k,val:=v,born:=c }) (c+1)):=by
  apply Array.toList_inj.1
  simp
 rw[h2]
 rfl
def r5 (z:Value):Option (Nat × Value)→Value
 | some p=>p.2
 | none=>z
theorem GG {P:Program}{t kt et:TypeId}{w:World}{es:Array MapEntry}{c b:Nat}{k:ByteArray}{r:Option (Nat × Value)}{z:Value}(ht:P.underlying t=some (.map kt et))(hk:P.underlying kt=some .string)(hb:w.heap[b]? = some (.map es c))(h:Instr.findNow .string (.string k) es.toList 0=some r)(hz:(zeroValue et).run P w=.ok z w) :
 (Instr.lookup t (.map (some b)) (.string k) false).run P w=.ok (r5 z r) w:=by
 have hc:∀ e,(Instr.checkKey e 10000 kt (.string k)).run P w=.ok () w:=fun e=>MapKept.run_checkKey (k:=.string k) hk (by simp[MapKept.IsKey]) e 9999
 cases r with
 | none=>simp[Instr.lookup,run_underlying ht,MapKept.run_getObj_map hb,hc,MapKept.run_findKey hk h,Result.andThen,hz,r5]
 | some p=>simp[Instr.lookup,run_underlying ht,MapKept.run_getObj_map hb,hc,MapKept.run_findKey hk h,Result.andThen,r5]
set_option maxRecDepth 100000 in
theorem ux (w:World) :
 Calls Tryz.prog 65 #[] w fun e w'=>e=.returned (.map (some w.heap.size))∧w'=w.alloc (.map idEs 4):=by
 have jc:=@run_makeMap Tryz.prog
 have h1:(Instr.mapUpdate 108 (.map (some w.heap.size)) (.string ⟨#[97,99,99,116]⟩) (.func (.func 86) #[] #[])).run Tryz.prog (w.alloc (.map #[] 0))=.ok () (w.alloc (.map #[{ key:=.string ⟨#[97,99,99,116]⟩,val:=.func (.func 86) #[] #[],born:=0 }] 1)):=j3 (kt:=9) (et:=107) w #[] 0 ⟨#[97,99,99,116]⟩ (.func (.func 86) #[] #[]) rfl rfl rfl
 have h2:(Instr.mapUpdate 108 (.map (some w.heap.size)) (.string ⟨#[109,97,105,108,116,111]⟩) (.func (.func 87) #[] #[])).run Tryz.prog (w.alloc (.map #[{ key:=.string ⟨#[97,99,99,116]⟩,val:=.func (.func 86) #[] #[],born:=0 }] 1))=.ok () (w.alloc (.map #[{ key:=.string ⟨#[97,99,99,116]⟩,val:=.func (.func 86) #[] #[],born:=0 },{ key:=.string ⟨#[109,97,105,108,116,111]⟩,val:=.func (.func 87) #[] #[],born:=1 }] 2)):=j3 (kt:=9) (et:=107) w #[{ key:=.string ⟨#[97,99,99,116]⟩,val:=.func (.func 86) #[] #[],born:=0 }] 1 ⟨#[109,97,105,108,116,111]⟩ (.func (.func 87) #[] #[]) rfl rfl rfl
 have h3:(Instr.mapUpdate 108 (.map (some w.heap.size)) (.string ⟨#[104,116,116,112,115]⟩) (.func (.func 88) #[] #[])).run Tryz.prog (w.alloc (.map #[{ key:=.string ⟨#[97,99,99,116]⟩,val:=.func (.func 86) #[] #[],born:=0 },{ key:=.string ⟨#[109,97,105,108,116,111]⟩,val:=.func (.func 87) #[] #[],born:=1 }] 2))=.ok () (w.alloc (.map #[{ key:=.string ⟨#[97,99,99,116]⟩,val:=.func (.func 86) #[] #[],born:=0 },{ key:=.string ⟨#[109,97,105,108,116,111]⟩,val:=.func (.func 87) #[] #[],born:=1 },{ key:=.string ⟨#[104,116,116,112,115]⟩,val:=.func (.func 88) #[] #[],born:=2 }] 3)):=j3 (kt:=9) (et:=107) w #[{ key:=.string ⟨#[97,99,99,116]⟩,val:=.func (.func 86) #[] #[],born:=0 },{ key:=.string ⟨#[109,97,105,108,116,111]⟩,val:=.func (.func 87) #[] #[],born:=1 }] 2 ⟨#[104,116,116,112,115]⟩ (.func (.func 88) #[] #[]) rfl rfl rfl
 have h4:(Instr.mapUpdate 108 (.map (some w.heap.size)) (.string ⟨#[100,105,100]⟩) (.func (.func 89) #[] #[])).run Tryz.prog (w.alloc (.map #[{ key:=.string ⟨#[97,99,99,116]⟩,val:=.func (.func 86) #[] #[],born:=0 },{ key:=.string ⟨#[109,97,105,108,116,111]⟩,val:=.func (.func 87) #[] #[],born:=1 },{ key:=.string ⟨#[104,116,116,112,115]⟩,val:=.func (.func 88) #[] #[],born:=2 }] 3))=.ok () (w.alloc (.map #[{ key:=.string ⟨#[97,99,99,116]⟩,val:=.func (.func 86) #[] #[],born:=0 },{ key:=.string ⟨#[109,97,105,108,116,111]⟩,val:=.func (.func 87) #[] #[],born:=1 },{ key:=.string ⟨#[104,116,116,112,115]⟩,val:=.func (.func 88) #[] #[],born:=2 },{ key:=.string ⟨#[100,105,100]⟩,val:=.func (.func 89) #[] #[],born:=3 }] 4)):=j3 (kt:=9) (et:=107) w #[{ key:=.string ⟨#[97,99,99,116]⟩,val:=.func (.func 86) #[] #[],born:=0 },{ key:=.string ⟨#[109,97,105,108,116,111]⟩,val:=.func (.func 87) #[] #[],born:=1 },{ key:=.string ⟨#[104,116,116,112,115]⟩,val:=.func (.func 88) #[] #[],born:=2 }] 3 ⟨#[100,105,100]⟩ (.func (.func 89) #[] #[]) rfl rfl rfl
 go_enter Tryz.func65,Tryz.ntmps65
 go_wp2_with fail
 go_ret
 exact⟨rfl,rfl⟩
open Go Go.RowKit Go.Sort Wf
attribute [local go_sem] fB eF get_list
def w8 (i:jg):Value:=.agg #[.int .i64 i.kind,(Value.string ⟨zLt (i.text)⟩),(Value.string ⟨zLt (i.host)⟩),.int .i64 i.port]
theorem Fa (sch:Bytes):∃ r:Option (Nat × Value),Instr.findNow .string (.string ⟨zLt sch⟩) idEs.toList 0=some r ∧
 ((∃ i,sch=qd∧r=some (i,.func (.func 86) #[] #[]))∨(∃ i,sch=rl∧r=some (i,.func (.func 87) #[] #[]))∨(∃ i,sch=cZ∧r=some (i,.func (.func 88) #[] #[]))∨(∃ i,sch=uz∧r=some (i,.func (.func 89) #[] #[]))∨(sch≠qd∧sch≠rl∧sch≠cZ∧sch≠uz∧r=none)):=by
 by_cases h1:sch=qd
 ·subst h1;exact⟨_,rfl,.inl ⟨_,rfl,rfl⟩⟩
 by_cases h2:sch=rl
 ·subst h2;exact⟨_,rfl,.inr (.inl ⟨_,rfl,rfl⟩)⟩
 by_cases h3:sch=cZ
 ·subst h3;exact⟨_,rfl,.inr (.inr (.inl ⟨_,rfl,rfl⟩))⟩
 by_cases h4:sch=uz
 ·subst h4;exact⟨_,rfl,.inr (.inr (.inr (.inl ⟨_,rfl,rfl⟩)))⟩
 refine⟨none,?_,.inr (.inr (.inr (.inr ⟨h1,h2,h3,h4,rfl⟩)))⟩
 have e:∀ k:Bytes,sch≠k→((⟨zLt sch⟩:ByteArray)==⟨zLt k⟩)=false:=by
  intro k hk
  show ((zLt sch)==(zLt k))=false
  rw[beq_eq_false_iff_ne]
  intro h
  exact hk (by simpa using h)
 have e1:=e _ h1
 have e2:=e _ h2
 have e3:=e _ h3
 have e4:=e _ h4
 simp only[qd,rl,cZ,uz]at e1 e2 e3 e4
 simp[idEs,Instr.findNow,Instr.sameNow,e1,e2,e3,e4]
theorem gr {w w':World}{b:Nat}{o:Obj}(h:w.heap[b]? = some o)(hb:Below w.heap.size w w'):w'.heap[b]? = some o:=(hb.block _ (bL h)).trans h
set_option maxRecDepth 100000 in
theorem Hm (s:Bytes)(w:World)(hE:Tryz.V.E w) :
 Calls Tryz.prog 44 #[(Value.string ⟨zLt (s)⟩)] w fun e w'=>e=.returned (.tuple #[w8 (bF s).1,.int .i64 (bF s).2])∧Below w.heap.size w w':=by
 have hct:∀ w,Tryz.V.E w→s.length<4294967281→Calls Tryz.prog 64 #[(Value.string ⟨zLt (s)⟩),(Value.string ⟨zLt ([58])⟩)] w fun e w'=>e=.returned (.tuple #[(Value.string ⟨zLt ((aM 58 s).1)⟩),(Value.string ⟨zLt ((aM 58 s).2.1)⟩),.bool (aM 58 s).2.2])∧Below w.heap.size w w' :=
  fun w hE hs=>by have h:=Vc.PC.calls (tS s 58 hs) w hE;simp[Vc.ah,Vc.aI]at h;exact h
 have F4:∀ w,Tryz.V.E w→s.length≤4096→Calls Tryz.prog 66 #[(Value.string ⟨zLt ((aM 58 s).1)⟩)] w fun e w'=>e=.returned (Value.string ⟨zLt (lower (aM 58 s).1)⟩)∧Below w.heap.size w w' :=
  fun w hE hs=>by have h:=Vc.PC.calls (yl (aM 58 s).1 (by have:=dQ 58 s;omega)) w hE;simp[Vc.ah,Vc.aI]at h;exact h
 have Hlo:=hid F4
 clear F4
 have ha:=cw w (.cells #[.int .i64 0,(Value.string ⟨zLt ([])⟩),(Value.string ⟨zLt ([])⟩),.int .i64 0] 36)
 have yJ:Below w.heap.size w (w.alloc (.cells #[.int .i64 0,(Value.string ⟨zLt ([])⟩),(Value.string ⟨zLt ([])⟩),.int .i64 0] 36)):=(Below.refl _ _).alloc (Nat.le_refl _) _
 generalize DY:w.alloc (.cells #[.int .i64 0,(Value.string ⟨zLt ([])⟩),(Value.string ⟨zLt ([])⟩),.int .i64 0] 36)=wa at ha yJ
 have Ha:=hid ha
 have Hba:=hid yJ
 have Hwa:=hid DY
 have Hct:=hid hct
 clear ha yJ DY hct
 by_cases hl:4096<s.length
 ·have hx:decide ((4096:Int)<s.length)=true:=decide_eq_true (by omega)
  go_enter Tryz.func44,Tryz.ntmps44
  go_wp2_with fail
  rw[Hwa.out]
  have aA:=bL Ha.out
  have c0:=Lib.cell_of_heap Ha.out 0
  have c1:=Lib.cell_of_heap Ha.out 1
  have c2:=Lib.cell_of_heap Ha.out 2
  have c3:=Lib.cell_of_heap Ha.out 3
  refine bodyPost_ret (v:=.tuple #[.agg #[.int .i64 0,(Value.string ⟨zLt ([])⟩),(Value.string ⟨zLt ([])⟩),.int .i64 0],.int .i64 5]) (by simp[results,Tryz.results44,go_sem,c0,c1,c2,c3,aA]) rfl ⟨?_,Hba.out⟩
  simp[bF,hl,w8,jg.none]
 ·have hx:decide ((4096:Int)<s.length)=false:=decide_eq_false (by omega)
  go_enter Tryz.func44,Tryz.ntmps44
  go_wp2_with fail
  rw[Hwa.out]
  refine(Hct.out _ (Tryz.V.nG _ _ hE (fun k hk=>Hba.out.block _ (zLK hk (Tryz.V.oI _ hE))) Hba.out.size) (by omega)).mono ?_
  rintro e w1 ⟨rfl,gD⟩
  have Ha1:=hid (gr Ha.out gD)
  have Hw1:=hid (bl Hba.out gD)
  clear gD
  go_wp2_with fail
  refine(ux w1).mono ?_
  rintro e w2 ⟨rfl,dF⟩
  have kY:Below w1.heap.size w1 w2:=by rw[dF];exact(Below.refl _ _).alloc (Nat.le_refl _) _
  have Hm2:Hid (w2.heap[w1.heap.size]? = some (.map idEs 4)):=hid (by rw[dF];exact cw w1 _)
  have Ha2:=hid (gr Ha1.out kY)
  have Hw2:=hid (bl Hw1.out kY)
  generalize w1.heap.size=mb at Hm2 ⊢
  clear dF kY Hw1 Ha1
  go_wp2_with fail
  refine(Hlo.out _ (Tryz.V.nG _ _ hE (fun k hk=>Hw2.out.block _ (zLK hk (Tryz.V.oI _ hE))) Hw2.out.size) (by omega)).mono ?_
  rintro e w3 ⟨rfl,BR⟩
  have Hm3:=hid (gr Hm2.out BR)
  have Ha3:=hid (gr Ha2.out BR)
  have Hw3:=hid (bl Hw2.out BR)
  clear BR Hw2 Ha2 Hm2
  obtain⟨r,hr,hcase⟩:=Fa (lower (aM 58 s).1)
  have bG:=GG (P:=Tryz.prog) (t:=108) (kt:=9) (et:=107) (z:=.nilFunc) rfl rfl Hm3.out hr rfl
  clear hr Hm3 Hlo Hct
  have aA:=bL Ha3.out
  have c0:=Lib.cell_of_heap Ha3.out 0
  have c1:=Lib.cell_of_heap Ha3.out 1
  have c2:=Lib.cell_of_heap Ha3.out 2
  have c3:=Lib.cell_of_heap Ha3.out 3
  have z0:=Lib.frozen_of_heap Ha3.out 0
  have z1:=Lib.frozen_of_heap Ha3.out 1
  have z2:=Lib.frozen_of_heap Ha3.out 2
  have z3:=Lib.frozen_of_heap Ha3.out 3
  cases bU:(aM 58 s).2.2
  ·go_wp2_with fail
   refine bodyPost_ret (v:=.tuple #[.agg #[.int .i64 0,(Value.string ⟨zLt ([])⟩),(Value.string ⟨zLt ([])⟩),.int .i64 0],.int .i64 60]) (by simp[results,Tryz.results44,go_sem,c0,c1,c2,c3,aA]) rfl ⟨?_,?_⟩
   ·simp[bF,hl,bU,w8,jg.none]
   ·repeat (first|exact Hw3.out | (refine Below.setCell (p:=⟨_,_,none⟩) ?_ (by have:=Hw3.out;have:=this.size;simp <;> omega) _) | (refine Below.alloc ?_ (by have:=Hw3.out;have:=this.size;simp <;> omega) _) | refine Below.drew ?_)
  ·rcases hcase with⟨i,hs,rfl⟩|⟨i,hs,rfl⟩|⟨i,hs,rfl⟩|⟨i,hs,rfl⟩|⟨n1,n2,n3,n4,rfl⟩
   ·simp only[r5]at bG
    have Hid0:Hid (bF s=jH s):=hid (by simp[bF,hl,bU,nu,hs,qd,rl,uz,cZ])
    have Hc:Hid (Calls Tryz.prog 86 #[(Value.string ⟨zLt (s)⟩)] w3 fun e w'=>e=.returned (.tuple #[w8 (jH s).1,.int .i64 (jH s).2])∧Below w3.heap.size w3 w'):=hid (by
     have h:=Vc.PC.calls (Ao s) w3 (Tryz.V.nG _ _ hE (fun k hk=>Hw3.out.block _ (zLK hk (Tryz.V.oI _ hE))) Hw3.out.size)
     simp[Vc.ah,Vc.aI,iI]at h;exact h)
    clear hs
    have heq:(binOp BinOp.eql 107 (Value.func (Fn.func 86) #[] #[]) Value.nilFunc).run Tryz.prog w3=.ok (.bool false) w3:=rfl
    go_wp2_with fail
    refine Hc.out.mono ?_
    rintro e w4 ⟨rfl,CL⟩
    have Ha4:=hid (gr Ha3.out CL)
    have Hw4:=hid (bl Hw3.out CL)
    clear CL c0 c1 c2 c3 z0 z1 z2 z3 aA heq bG
    have aA:=bL Ha4.out
    have c0:=Lib.cell_of_heap Ha4.out 0
    have c1:=Lib.cell_of_heap Ha4.out 1
    have c2:=Lib.cell_of_heap Ha4.out 2
    have c3:=Lib.cell_of_heap Ha4.out 3
    have z0:=Lib.frozen_of_heap Ha4.out 0
    have z1:=Lib.frozen_of_heap Ha4.out 1
    have z2:=Lib.frozen_of_heap Ha4.out 2
    have z3:=Lib.frozen_of_heap Ha4.out 3
    unfold w8
    go_wp2_with fail
    refine bodyPost_ret (v:=.tuple #[w8 (jH s).1,.int .i64 (jH s).2]) (by simp[results,Tryz.results44,go_sem,c0,c1,c2,c3,aA,w8]) rfl ⟨?_,?_⟩
    ·rw[Hid0.out]
    ·repeat (first|exact Hw4.out | (refine Below.setCell (p:=⟨_,_,none⟩) ?_ (by have:=Hw4.out;have:=this.size;simp <;> omega) _) | (refine Below.alloc ?_ (by have:=Hw4.out;have:=this.size;simp <;> omega) _) | refine Below.drew ?_)
   ·simp only[r5]at bG
    have Hid0:Hid (bF s=jG s):=hid (by simp[bF,hl,bU,nu,hs,qd,rl,uz,cZ])
    have Hc:Hid (Calls Tryz.prog 87 #[(Value.string ⟨zLt (s)⟩)] w3 fun e w'=>e=.returned (.tuple #[w8 (jG s).1,.int .i64 (jG s).2])∧Below w3.heap.size w3 w'):=hid (by
     have h:=Vc.PC.calls (An s) w3 (Tryz.V.nG _ _ hE (fun k hk=>Hw3.out.block _ (zLK hk (Tryz.V.oI _ hE))) Hw3.out.size)
     simp[Vc.ah,Vc.aI,iI]at h;exact h)
    clear hs
    have heq:(binOp BinOp.eql 107 (Value.func (Fn.func 87) #[] #[]) Value.nilFunc).run Tryz.prog w3=.ok (.bool false) w3:=rfl
    go_wp2_with fail
    refine Hc.out.mono ?_
    rintro e w4 ⟨rfl,CL⟩
    have Ha4:=hid (gr Ha3.out CL)
    have Hw4:=hid (bl Hw3.out CL)
    clear CL c0 c1 c2 c3 z0 z1 z2 z3 aA heq bG
    have aA:=bL Ha4.out
    have c0:=Lib.cell_of_heap Ha4.out 0
    have c1:=Lib.cell_of_heap Ha4.out 1
    have c2:=Lib.cell_of_heap Ha4.out 2
    have c3:=Lib.cell_of_heap Ha4.out 3
    have z0:=Lib.frozen_of_heap Ha4.out 0
    have z1:=Lib.frozen_of_heap Ha4.out 1
    have z2:=Lib.frozen_of_heap Ha4.out 2
    have z3:=Lib.frozen_of_heap Ha4.out 3
    unfold w8
    go_wp2_with fail
    refine bodyPost_ret (v:=.tuple #[w8 (jG s).1,.int .i64 (jG s).2]) (by simp[results,Tryz.results44,go_sem,c0,c1,c2,c3,aA,w8]) rfl ⟨?_,?_⟩
    ·rw[Hid0.out]
    ·repeat (first|exact Hw4.out | (refine Below.setCell (p:=⟨_,_,none⟩) ?_ (by have:=Hw4.out;have:=this.size;simp <;> omega) _) | (refine Below.alloc ?_ (by have:=Hw4.out;have:=this.size;simp <;> omega) _) | refine Below.drew ?_)
   ·simp only[r5]at bG
    have Hid0:Hid (bF s=kQ s):=hid (by simp[bF,hl,bU,nu,hs,qd,rl,uz,cZ])
    have Hc:Hid (Calls Tryz.prog 88 #[(Value.string ⟨zLt (s)⟩)] w3 fun e w'=>e=.returned (.tuple #[w8 (kQ s).1,.int .i64 (kQ s).2])∧Below w3.heap.size w3 w'):=hid (by
     have h:=Vc.PC.calls (Cr s) w3 (Tryz.V.nG _ _ hE (fun k hk=>Hw3.out.block _ (zLK hk (Tryz.V.oI _ hE))) Hw3.out.size)
     simp[Vc.ah,Vc.aI,iI]at h;exact h)
    clear hs
    have heq:(binOp BinOp.eql 107 (Value.func (Fn.func 88) #[] #[]) Value.nilFunc).run Tryz.prog w3=.ok (.bool false) w3:=rfl
    go_wp2_with fail
    refine Hc.out.mono ?_
    rintro e w4 ⟨rfl,CL⟩
    have Ha4:=hid (gr Ha3.out CL)
    have Hw4:=hid (bl Hw3.out CL)
    clear CL c0 c1 c2 c3 z0 z1 z2 z3 aA heq bG
    have aA:=bL Ha4.out
    have c0:=Lib.cell_of_heap Ha4.out 0
    have c1:=Lib.cell_of_heap Ha4.out 1
    have c2:=Lib.cell_of_heap Ha4.out 2
    have c3:=Lib.cell_of_heap Ha4.out 3
    have z0:=Lib.frozen_of_heap Ha4.out 0
    have z1:=Lib.frozen_of_heap Ha4.out 1
    have z2:=Lib.frozen_of_heap Ha4.out 2
    have z3:=Lib.frozen_of_heap Ha4.out 3
    unfold w8
    go_wp2_with fail
    refine bodyPost_ret (v:=.tuple #[w8 (kQ s).1,.int .i64 (kQ s).2]) (by simp[results,Tryz.results44,go_sem,c0,c1,c2,c3,aA,w8]) rfl ⟨?_,?_⟩
    ·rw[Hid0.out]
    ·repeat (first|exact Hw4.out | (refine Below.setCell (p:=⟨_,_,none⟩) ?_ (by have:=Hw4.out;have:=this.size;simp <;> omega) _) | (refine Below.alloc ?_ (by have:=Hw4.out;have:=this.size;simp <;> omega) _) | refine Below.drew ?_)
   ·simp only[r5]at bG
    have Hid0:Hid (bF s=kR s):=hid (by simp[bF,hl,bU,nu,hs,qd,rl,uz,cZ])
    have Hc:Hid (Calls Tryz.prog 89 #[(Value.string ⟨zLt (s)⟩)] w3 fun e w'=>e=.returned (.tuple #[w8 (kR s).1,.int .i64 (kR s).2])∧Below w3.heap.size w3 w'):=hid (by
     have h:=Vc.PC.calls (Cs s) w3 (Tryz.V.nG _ _ hE (fun k hk=>Hw3.out.block _ (zLK hk (Tryz.V.oI _ hE))) Hw3.out.size)
     simp[Vc.ah,Vc.aI,iI]at h;exact h)
    clear hs
    have heq:(binOp BinOp.eql 107 (Value.func (Fn.func 89) #[] #[]) Value.nilFunc).run Tryz.prog w3=.ok (.bool false) w3:=rfl
    go_wp2_with fail
    refine Hc.out.mono ?_
    rintro e w4 ⟨rfl,CL⟩
    have Ha4:=hid (gr Ha3.out CL)
    have Hw4:=hid (bl Hw3.out CL)
    clear CL c0 c1 c2 c3 z0 z1 z2 z3 aA heq bG
    have aA:=bL Ha4.out
    have c0:=Lib.cell_of_heap Ha4.out 0
    have c1:=Lib.cell_of_heap Ha4.out 1
    have c2:=Lib.cell_of_heap Ha4.out 2
    have c3:=Lib.cell_of_heap Ha4.out 3
    have z0:=Lib.frozen_of_heap Ha4.out 0
    have z1:=Lib.frozen_of_heap Ha4.out 1
    have z2:=Lib.frozen_of_heap Ha4.out 2
    have z3:=Lib.frozen_of_heap Ha4.out 3
    unfold w8
    go_wp2_with fail
    refine bodyPost_ret (v:=.tuple #[w8 (kR s).1,.int .i64 (kR s).2]) (by simp[results,Tryz.results44,go_sem,c0,c1,c2,c3,aA,w8]) rfl ⟨?_,?_⟩
    ·rw[Hid0.out]
    ·repeat (first|exact Hw4.out | (refine Below.setCell (p:=⟨_,_,none⟩) ?_ (by have:=Hw4.out;have:=this.size;simp <;> omega) _) | (refine Below.alloc ?_ (by have:=Hw4.out;have:=this.size;simp <;> omega) _) | refine Below.drew ?_)
   ·simp only[r5]at bG
    have Hid0:Hid (bF s=(jg.none,60)):=hid (by simp[bF,hl,bU,nu,n1,n2,n3,n4])
    clear n1 n2 n3 n4
    have heq:(binOp BinOp.eql 107 Value.nilFunc Value.nilFunc).run Tryz.prog w3=.ok (.bool true) w3:=rfl
    go_wp2_with fail
    refine bodyPost_ret (v:=.tuple #[.agg #[.int .i64 0,(Value.string ⟨zLt ([])⟩),(Value.string ⟨zLt ([])⟩),.int .i64 0],.int .i64 60]) (by simp[results,Tryz.results44,go_sem,c0,c1,c2,c3,aA]) rfl ⟨?_,?_⟩
    ·rw[Hid0.out];rfl
    ·repeat (first|exact Hw3.out | (refine Below.setCell (p:=⟨_,_,none⟩) ?_ (by have:=Hw3.out;have:=this.size;simp <;> omega) _) | (refine Below.alloc ?_ (by have:=Hw3.out;have:=this.size;simp <;> omega) _) | refine Below.drew ?_)
open Go Vc Go.RowKit Wf
theorem Cu (s:Bytes):PC Tryz.V 44 [.str s] (.eN [iI (bF s).1,.int .i64 (bF s).2]) :=
 ⟨Tryz.call44,by simp[flat,flat.ai],by simp[flat,flat.ai,iI],fun w hE=>(Hm s w hE).mono fun _ _ ⟨h,k⟩=>⟨by rw[h];simp[ah,aI,iI,w8],k⟩⟩
theorem rW (i:jg):PC Tryz.V 28 [iI i] (.bool (db i)):=Ct Cu i
theorem ye (i:jg):PC Tryz.V 45 [iI i] (.bool (db i)):=Aj rU i
abbrev blt:Bytes→Bytes→Bool:=Op.bytesLess
theorem js:∀ a:Bytes,blt a a=false
 | []=>rfl
 | x::a=>by simp[blt,Op.bytesLess,js a,UInt8.lt_irrefl]
theorem gA:∀ {a b c:Bytes},blt a b=true→blt b c=true→blt a c=true
 | _,[],_,h,_=>by cases ‹Bytes› <;> simp[blt,Op.bytesLess]at h
 | _,_::_,[],_,h=>by simp[blt,Op.bytesLess]at h
 | [],_::_,_::_,_,_=>rfl
 | x::a,y::b,z::c,h1,h2=>by
   simp only[blt,Op.bytesLess,Bool.or_eq_true,decide_eq_true_eq,zL1,beq_iff_eq]at h1 h2 ⊢
   rcases h1 with h1|⟨rfl,h1⟩
   ·rcases h2 with h2|⟨rfl,h2⟩
    ·exact .inl (UInt8.lt_trans h1 h2)
    ·exact .inl h1
   ·rcases h2 with h2|⟨rfl,h2⟩
    ·exact .inl h2
    ·exact .inr ⟨rfl,gA h1 h2⟩
theorem qz:∀ {a b:Bytes},a≠b→blt a b=true∨blt b a=true
 | [],[],h=>absurd rfl h
 | [],_::_,_=>.inl rfl
 | _::_,[],_=>.inr rfl
 | x::a,y::b,h=>by
   simp only[blt,Op.bytesLess,Bool.or_eq_true,decide_eq_true_eq,zL1,beq_iff_eq]
   by_cases hxy:x=y
   ·subst hxy
    rcases qz (a:=a) (b:=b) (fun e=>h (by rw[e])) with h1|h1
    ·exact .inl (.inr ⟨rfl,h1⟩)
    ·exact .inr (.inr ⟨rfl,h1⟩)
   ·have:x.toNat≠y.toNat:=fun e=>hxy (UInt8.toNat_inj.1 e)
    rcases zLN x.toNat y.toNat with h1|h1
    ·exact .inl (.inl (UInt8.lt_iff_toNat_lt.2 h1))
    ·exact .inr (.inl (UInt8.lt_iff_toNat_lt.2 (by omega)))
theorem yT {a b:Bytes}(h:blt a b=true):blt b a=false:=by
 cases h2:blt b a with
 | false=>rfl
 | true=>have:=gA h h2;rw[js]at this;cases this
theorem kI {a b:Bytes}(h:blt a b=true):a≠b:=by
 rintro rfl;rw[js]at h;cases h
section
variable {E:Type} (key:E→Bytes) (ex:E→Int)
def kq (L:List E):Prop:=L.Pairwise (fun a b=>blt (key a) (key b)=true)
def ia (L:List E)(t:Bytes):Nat:=(L.filter (fun x=>blt (key x) t)).length
def dm (L:List E)(t:Bytes):Bool:=L.any (fun x=>key x==t)
variable {key ex}
theorem yR (L:List E)(t:Bytes):ia key L t≤L.length:=List.length_filter_le _ _
theorem qD:∀ {L:List E}(_:kq key L)(t:Bytes)(k:Nat)(h:k<L.length),blt (key L[k]) t=true↔k<ia key L t
 | [],_,_,_,h=>by simp at h
 | x::L,ha,t,k,h=>by
   rw[kq,zLU]at ha
   unfold ia
   by_cases hx:blt (key x) t=true
   ·rw[zLO (p:=fun x=>blt (key x) t) hx,zLq]
    cases k with
    | zero=>simpa using hx
    | succ k =>
      have:=qD ha.2 t k (by simpa using h)
      simpa[ia] using this
   ·rw[zLQ (p:=fun x=>blt (key x) t) hx]
    have h0:L.filter (fun x=>blt (key x) t)=[]:=by
     rw[List.filter_eq_nil_iff]
     intro y hy hyt
     exact hx (gA (ha.1 y hy) hyt)
    rw[h0]
    simp only[zLx,Nat.not_lt_zero,iff_false]
    cases k with
    | zero=>simpa using hx
    | succ k =>
      simp only[List.getElem_cons_succ]
      intro hyt
      exact hx (gA (ha.1 _ (zLv _)) hyt)
theorem IL {L:List E}(h:kq key L)(t:Bytes):L.filter (fun x=>blt (key x) t)=L.take (ia key L t):=by
 induction L with
 | nil=>rfl
 | cons x L ih =>
   have h':=h
   rw[kq,zLU]at h'
   unfold ia
   by_cases hx:blt (key x) t=true
   ·rw[zLO (p:=fun x=>blt (key x) t) hx,zLq,List.take_succ_cons]
    have e:=ih h'.2
    unfold ia at e
    rw[← e]
   ·rw[zLQ (p:=fun x=>blt (key x) t) hx]
    have h0:L.filter (fun x=>blt (key x) t)=[]:=by
     rw[List.filter_eq_nil_iff]
     intro y hy hyt
     exact hx (gA (h'.1 y hy) hyt)
    rw[h0];rfl
theorem IM {L:List E}(h:kq key L)(t:Bytes):L.filter (fun x=>blt t (key x))=L.drop (ia key L t+if dm key L t then 1 else 0):=by
 induction L with
 | nil=>simp[dm]
 | cons x L ih =>
   have h':=h
   rw[kq,zLU]at h'
   have ih:=ih h'.2
   by_cases hx:blt (key x) t=true
   ·have bk:(key x==t)=false:=by simpa using kI hx
    have hn:¬ blt t (key x)=true:=by rw[yT hx];simp
    rw[zLQ (p:=fun x=>blt t (key x)) hn,ih]
    have e1:ia key (x::L) t=ia key L t+1:=by unfold ia;rw[zLO (p:=fun x=>blt (key x) t) hx,zLq]
    have e2:dm key (x::L) t=dm key L t:=by simp[dm,bk]
    rw[e1,e2,Nat.add_right_comm,List.drop_succ_cons]
   ·have h0:ia key (x::L) t=0:=by
     unfold ia
     rw[List.length_eq_zero_iff,List.filter_eq_nil_iff]
     intro y hy hyt
     rcases zLR.1 hy with rfl|hy
     ·exact hx hyt
     ·exact hx (gA (h'.1 y hy) hyt)
    have aT:∀ y∈L,blt t (key y)=true:=fun y hy=>by
     by_cases e:key x=t
     ·rw[← e];exact h'.1 y hy
     ·rcases qz e with h1|h1
      ·exact absurd h1 hx
      ·exact gA h1 (h'.1 y hy)
    have hL:L.filter (fun x=>blt t (key x))=L:=List.filter_eq_self.2 aT
    have hnoL:dm key L t=false:=by
     unfold dm
     rw[List.any_eq_false]
     intro y hy
     have:=kI (aT y hy)
     simpa using fun e=>this e.symm
    rw[h0]
    by_cases e:key x=t
    ·have hn:¬ blt t (key x)=true:=by rw[e,js];simp
     have:dm key (x::L) t=true:=by simp[dm,e]
     rw[zLQ (p:=fun x=>blt t (key x)) hn,hL,this];rfl
    ·have hp:blt t (key x)=true:=by
      rcases qz e with h1|h1
      ·exact absurd h1 hx
      ·exact h1
     have:dm key (x::L) t=false:=by
      have:=hnoL
      unfold dm at this ⊢
      simpa[e] using this
     rw[zLO (p:=fun x=>blt t (key x)) hp,hL,this];rfl
def jn (key:E→Bytes)(L:List E)(x:E):List E:=L.filter (fun y=>blt (key y) (key x))++[x]++L.filter (fun y=>blt (key x) (key y))
theorem yB {L:List E}(h:kq key L)(x:E):jn key L x=L.take (ia key L (key x))++[x]++L.drop (ia key L (key x)+if dm key L (key x) then 1 else 0):=by
 unfold jn
 rw[IL h,IM h]
theorem iC {L:List E}(h:kq key L)(p:E→Bool):kq key (L.filter p):=List.Pairwise.filter p h
theorem uu {L:List E}(h:kq key L)(x:E):kq key (jn key L x):=by
 unfold jn kq
 rw[List.append_assoc,List.pairwise_append]
 refine⟨iC h _,?_,?_⟩
 ·rw[List.singleton_append,zLU]
  exact⟨fun y hy=>(List.mem_filter.1 hy).2,iC h _⟩
 ·intro a ha b hb
  have h1:=(List.mem_filter.1 ha).2
  rcases zLR.1 hb with rfl|hb
  ·exact h1
  ·exact gA h1 (List.mem_filter.1 hb).2
theorem jF {L:List E}{x y:E}:y∈jn key L x↔y=x∨(y∈L∧key y≠key x):=by
 unfold jn
 simp only[List.mem_append,List.mem_filter,List.mem_singleton]
 constructor
 ·rintro((⟨h1,h2⟩|h) | ⟨h1,h2⟩)
  ·exact .inr ⟨h1,kI h2⟩
  ·exact .inl h
  ·exact .inr ⟨h1,fun e=>kI h2 e.symm⟩
 ·rintro(h|⟨h1,h2⟩)
  ·exact .inl (.inr h)
  ·rcases qz h2 with h3|h3
   ·exact .inl (.inl ⟨h1,h3⟩)
   ·exact .inr ⟨h1,h3⟩
theorem p9 {L:List E}(h:kq key L)(x:E):(jn key L x).length=L.length+if dm key L (key x) then 0 else 1:=by
 rw[yB h]
 have h1:=yR (key:=key) L (key x)
 cases ht:dm key L (key x)
 ·simp;omega
 ·have h2:ia key L (key x)<L.length:=by
   obtain⟨y,hy,hyt⟩:=List.any_eq_true.1 ht
   obtain⟨k,hk,rfl⟩:=zLM.1 hy
   have h3:¬ k<ia key L (key x):=fun h4=>by
    have:=(qD h (key x) k hk).2 h4
    rw[show key L[k]=key x by simpa using hyt,js]at this
    cases this
   omega
  simp;omega
end
def dE (X:List Int):Nat→Nat
 | 0=>0
 | k+1=>if k=0 then 0 else if X.getD k 0<X.getD (dE X k) 0 then k else dE X k
theorem gn (X:List Int):∀ k,0<k→dE X k<k∧∀ j,j<k→X.getD (dE X k) 0<X.getD j 0∨(X.getD (dE X k) 0=X.getD j 0∧dE X k≤j)
 | 0,h=>by omega
 | k+1,_=>by
   rw[dE]
   by_cases h0:k=0
   ·subst h0
    rw[if_pos rfl]
    exact⟨by omega,fun j hj=>.inr ⟨by rw[show j=0 by omega],by omega⟩⟩
   ·rw[if_neg h0]
    obtain⟨h1,h2⟩:=gn X k (by omega)
    split
    ·rename_i h3
     refine⟨by omega,fun j hj=>?_⟩
     rcases zLN j k with h4|h4
     ·rcases h2 j h4 with h5|h5 <;> left <;> omega
     ·exact .inr ⟨by rw[show j=k by omega],by omega⟩
    ·rename_i h3
     refine⟨by omega,fun j hj=>?_⟩
     rcases zLN j k with h4|h4
     ·exact h2 j h4
     ·obtain rfl:j=k:=by omega
      omega
def kP (X:List Int)(a b:Nat):Bool:=if X.getD a 0 != X.getD b 0 then decide (X.getD a 0<X.getD b 0) else decide (a<b)
theorem wZ {X:List Int}{a b:Nat}:kP X a b=true↔X.getD a 0<X.getD b 0∨(X.getD a 0=X.getD b 0∧a<b):=by
 unfold kP
 split
 ·rename_i h
  simp at h
  simp
  omega
 ·rename_i h
  simp at h
  simp
  omega
theorem jv {X:List Int}{a b:Nat}:kP X a b=false↔X.getD b 0<X.getD a 0∨(X.getD b 0=X.getD a 0∧b≤a):=by
 rw[← Bool.not_eq_true,wZ]
 omega
def mL (P:List Nat)(i j:Nat):List Nat:=(P.set i (P.getD j 0)).set j (P.getD i 0)
theorem eH (P:List Nat)(i j:Nat):(mL P i j).length=P.length:=by simp[mL]
theorem gK {P:List Nat}{i j c:Nat}(hi:i<P.length)(hj:j<P.length):(mL P i j).getD c 0=if c=j then P.getD i 0 else if c=i then P.getD j 0 else P.getD c 0:=by
 unfold mL
 rw[zLu,List.getElem?_set]
 by_cases h1:j=c
 ·subst h1
  rw[if_pos rfl,if_pos (by simpa using hj),if_pos rfl];rfl
 ·rw[if_neg h1,if_neg (fun e=>h1 e.symm),List.getElem?_set]
  by_cases h2:i=c
  ·subst h2
   rw[if_pos rfl,if_pos hi,if_pos rfl];rfl
  ·rw[if_neg h2,if_neg (fun e=>h2 e.symm),zLu]
def BQ (X:List Int):Nat→List Nat→Nat→List Nat
 | 0,P,_=>P
 | f+1,P,j=>if (j - 1) / 2=j∨kP X (P.getD j 0) (P.getD ((j - 1) / 2) 0)=false then P else BQ X f (mL P ((j - 1) / 2) j) ((j - 1) / 2)
theorem xF (X:List Int):∀ f P j,(BQ X f P j).length=P.length
 | 0,_,_=>rfl
 | f+1,P,j=>by
   rw[BQ]
   split
   ·rfl
   ·rw[xF X f,eH]
def HPx (X:List Int)(P:List Nat)(j:Nat):Prop:=(∀ c,0<c→c<P.length→c≠j→kP X (P.getD c 0) (P.getD ((c - 1) / 2) 0)=false)∧(∀ c,0<c→c<P.length→(c - 1) / 2=j→0<j→kP X (P.getD c 0) (P.getD ((j - 1) / 2) 0)=false)
def HP (X:List Int)(P:List Nat):Prop:=∀ c,0<c→c<P.length→kP X (P.getD c 0) (P.getD ((c - 1) / 2) 0)=false
theorem zj (X:List Int):∀ f P j,j<f→j<P.length→HPx X P j→HP X (BQ X f P j)
 | 0,_,_,h,_,_=>by omega
 | f+1,P,j,hf,hj,⟨h1,h2⟩=>by
   rw[BQ]
   split
   ·rename_i h
    intro c hc dO
    by_cases e:c=j
    ·subst e
     rcases h with h|h
     ·omega
     ·exact h
    ·exact h1 c hc dO e
   ·rename_i h
    have vx:(j - 1) / 2≠j:=fun e=>h (.inl e)
    have D6:kP X (P.getD j 0) (P.getD ((j - 1) / 2) 0)=true:=by
     cases hl:kP X (P.getD j 0) (P.getD ((j - 1) / 2) 0)
     ·exact absurd (.inr hl) h
     ·rfl
    have hj0:0<j:=by omega
    have hi:(j - 1) / 2<P.length:=by omega
    refine zj X f _ _ (by omega) (by rw[eH];exact hi) ⟨fun c hc dO hci=>?_,fun c hc dO BV sW=>?_⟩
    ·rw[eH]at dO
     rw[gK hi hj,gK hi hj]
     rw[wZ]at D6
     by_cases hcj:c=j
     ·subst hcj
      rw[if_pos rfl,if_neg vx,if_pos rfl,jv]
      omega
     ·rw[if_neg hcj,if_neg hci]
      have g1:=h1 c hc dO hcj
      by_cases hpj:(c - 1) / 2=j
      ·rw[if_pos hpj]
       exact h2 c hc dO hpj hj0
      ·rw[if_neg hpj]
       by_cases hpi:(c - 1) / 2=(j - 1) / 2
       ·rw[if_pos hpi]
        rw[hpi]at g1
        rw[jv]at g1 ⊢
        omega
       ·rw[if_neg hpi];exact g1
    ·rw[eH]at dO
     rw[gK hi hj,gK hi hj]
     have g0:=h1 ((j - 1) / 2) sW hi (by omega)
     have e1:¬ ((j - 1) / 2 - 1) / 2=j:=by omega
     have e2:¬ ((j - 1) / 2 - 1) / 2=(j - 1) / 2:=by omega
     rw[if_neg e1,if_neg e2]
     by_cases hcj:c=j
     ·rw[if_pos hcj];exact g0
     ·have hci:c≠(j - 1) / 2:=by omega
      rw[if_neg hcj,if_neg hci]
      have g1:=h1 c hc dO hcj
      rw[BV]at g1
      rw[jv]at g0 g1 ⊢
      omega
theorem HP_root {X:List Int}{P:List Nat}(h:HP X P)(c:Nat)(hc:c<P.length):kP X (P.getD c 0) (P.getD 0 0)=false:=by
 induction c using Nat.strongRecOn with
 | _ c ih =>
   by_cases h0:c=0
   ·subst h0;rw[jv];omega
   ·have g1:=h c (by omega) hc
    have g2:=ih ((c - 1) / 2) (by omega) (by omega)
    rw[jv]at g1 g2 ⊢
    omega
def gu (X:List Int):Nat→List Nat
 | 0=>[]
 | k+1=>BQ X (k+1) (gu X k++[k]) k
theorem kW (X:List Int):∀ k,(gu X k).length=k
 | 0=>rfl
 | k+1=>by rw[gu,xF,zLo,kW X k];rfl
theorem uL (X:List Int):∀ k,HP X (gu X k)
 | 0=>fun c _ h=>by simp[gu]at h
 | k+1=>by
   rw[gu]
   have hl:=kW X k
   refine zj X _ _ _ (by omega) (by rw[zLo,hl];simp) ⟨fun c hc dO H6=>?_,fun c hc dO BV _=>?_⟩
   ·rw[zLo,hl,zLW]at dO
    have e:∀ q,q<k→(gu X k++[k]).getD q 0=(gu X k).getD q 0:=fun q hq=>by
     rw[zLu,zLu,zLs (by omega)]
    rw[e c (by omega),e ((c - 1) / 2) (by omega)]
    exact uL X k c hc (by omega)
   ·rw[zLo,hl,zLW]at dO
    omega
theorem EG {P:List Nat}{i j:Nat}(hi:i<P.length)(hj:j<P.length)(x:Nat):(∃ c,c<P.length∧P.getD c 0=x)↔∃ c,c<(mL P i j).length∧(mL P i j).getD c 0=x:=by
 rw[eH]
 constructor
 ·rintro⟨c,hc,rfl⟩
  by_cases h1:c=i
  ·exact⟨j,hj,by rw[gK hi hj,if_pos rfl,h1]⟩
  ·by_cases h2:c=j
   ·refine⟨i,hi,?_⟩
    rw[gK hi hj]
    split
    ·rename_i h3;rw[h2,← h3]
    ·rw[if_pos rfl,h2]
   ·exact⟨c,hc,by rw[gK hi hj,if_neg h2,if_neg h1]⟩
 ·rintro⟨c,hc,rfl⟩
  rw[gK hi hj]
  split
  ·exact⟨i,hi,rfl⟩
  ·split
   ·exact⟨j,hj,rfl⟩
   ·exact⟨c,hc,rfl⟩
theorem Dr (X:List Int):∀ f (P:List Nat) j,j<P.length→∀ x,(∃ c,c<P.length∧P.getD c 0=x)↔∃ c,c<(BQ X f P j).length∧(BQ X f P j).getD c 0=x
 | 0,_,_,_,_=>Iff.rfl
 | f+1,P,j,hj,x=>by
   rw[BQ]
   split
   ·rfl
   ·have hi:(j - 1) / 2<P.length:=by omega
    exact(EG hi hj x).trans (Dr X f _ _ (by rw[eH];exact hi) x)
theorem kV (X:List Int):∀ k x,(∃ c,c<k∧(gu X k).getD c 0=x)↔x<k
 | 0,x=>by simp
 | k+1,x=>by
   have hl:=kW X k
   have h1:=Dr X (k+1) (gu X k++[k]) k (by rw[zLo,hl];simp) x
   have gF:(BQ X (k+1) (gu X k++[k]) k).length=k+1:=by rw[xF,zLo,hl];rfl
   rw[gF]at h1
   rw[show gu X (k+1)=BQ X (k+1) (gu X k++[k]) k from rfl,← h1,zLo,hl,zLW]
   constructor
   ·rintro⟨c,hc,rfl⟩
    rcases zLN c k with h2|h2
    ·have:=(kV X k ((gu X k).getD c 0)).1 ⟨c,h2,rfl⟩
     rw[zLu,zLs (by omega),← zLu]
     omega
    ·obtain rfl:c=k:=by omega
     rw[zLu,zLw (by omega),hl]
     simp
   ·intro hx
    rcases zLN x k with h2|h2
    ·obtain⟨c,hc,he⟩:=(kV X k x).2 h2
     refine⟨c,by omega,?_⟩
     rw[zLu,zLs (by omega),← zLu,he]
    ·refine⟨k,by omega,?_⟩
     rw[zLu,zLw (by omega),hl]
     simp;omega
theorem CZ (X:List Int){k:Nat}(hk:0<k):(gu X k).getD 0 0=dE X k:=by
 obtain⟨h1,h2⟩:=gn X k hk
 have h3:=(kV X k _).1 ⟨0,hk,rfl⟩
 obtain⟨c,hc,he⟩:=(kV X k (dE X k)).2 h1
 have h4:=HP_root (uL X k) c (by rw[kW];exact hc)
 rw[he,jv]at h4
 have h5:=h2 _ h3
 omega
section
variable {E:Type} {key:E→Bytes} {ex:E→Int}
def eX (key:E→Bytes)(ex:E→Int)(cap:Int)(L:List E)(x:E):List E:=if dm key L (key x)=true∨(L.length:Int)<cap then jn key L x else jn key (L.eraseIdx (dE (L.map ex) L.length)) x
theorem fR {L:List E}{t:Bytes}:dm key L t=true↔∃ x∈L,key x=t:=by simp[dm]
theorem Be {L:List E}(h:kq key L){t:Bytes}(ht:dm key L t=true):∃ hk:ia key L t<L.length,key L[ia key L t]=t:=by
 obtain⟨y,hy,rfl⟩:=fR.1 ht
 obtain⟨k,hk,rfl⟩:=zLM.1 hy
 have h3:¬ k<ia key L (key L[k]):=fun h4=>by
  have:=(qD h (key L[k]) k hk).2 h4
  rw[js]at this
  cases this
 have h4:¬ ia key L (key L[k])<k:=fun h4=>by
  have h5:=zLH.1 h (ia key L (key L[k])) k (by omega) hk h4
  have:=(qD h (key L[k]) (ia key L (key L[k])) (by omega)).1 h5
  omega
 have e:ia key L (key L[k])=k:=by omega
 exact⟨by omega,by simp only[e]⟩
theorem qn {L:List E}(h:kq key L){t:Bytes}:dm key L t=true↔∃ hk:ia key L t<L.length,key L[ia key L t]=t:=⟨Be h,fun⟨hk,e⟩=>fR.2 ⟨_,zLv hk,e⟩⟩
theorem put_set {L:List E}(h:kq key L){x:E}(ht:dm key L (key x)=true):L.set (ia key L (key x)) x=jn key L x:=by
 obtain⟨hk,-⟩:=Be h ht
 rw[yB h,ht,if_pos rfl,List.set_eq_take_append_cons_drop,if_pos hk]
 simp
theorem put_ins {L:List E}(h:kq key L){x:E}(ht:dm key L (key x)=false):L.take (ia key L (key x))++[x]++L.drop (ia key L (key x))=jn key L x:=by
 rw[yB h,ht];simp
theorem od {L:List E}{k:Nat}{x:E}(h:x∈L.eraseIdx k):x∈L:=List.mem_of_mem_eraseIdx h
theorem C6 {L:List E}{k:Nat}{t:Bytes}(h:dm key L t=false):dm key (L.eraseIdx k) t=false:=by
 rw[← Bool.not_eq_true,fR]at h ⊢
 rintro⟨x,hx,e⟩
 exact h ⟨x,od hx,e⟩
theorem oe {L:List E}(h:kq key L)(k:Nat):kq key (L.eraseIdx k):=List.Pairwise.sublist (List.eraseIdx_sublist L k) h
theorem zZ {L:List E}(h:kq key L)(cap:Int)(x:E):kq key (eX key ex cap L x):=by
 unfold eX
 split
 ·exact uu h x
 ·exact uu (oe h _) x
theorem tH {L:List E}(h:kq key L){cap:Int}(hc:0<cap)(hl:(L.length:Int)≤cap)(x:E):((eX key ex cap L x).length:Int)≤cap:=by
 unfold eX
 split
 ·rename_i h1
  rw[p9 h]
  rcases h1 with h1|h1
  ·rw[if_pos h1];omega
  ·split <;> omega
 ·rename_i h1
  have h2:¬ (L.length:Int)<cap:=fun h3=>h1 (.inr h3)
  have h0:0<L.length:=by omega
  rw[p9 (oe h _),List.length_eraseIdx,if_pos (by have:=(gn (L.map ex) L.length h0).1;omega)]
  split <;> omega
theorem tG {L:List E}{cap:Int}{x y:E}(h:y∈eX key ex cap L x):y=x∨y∈L:=by
 unfold eX at h
 split at h
 ·rcases jF.1 h with h|h
  ·exact .inl h
  ·exact .inr h.1
 ·rcases jF.1 h with h|h
  ·exact .inl h
  ·exact .inr (od h.1)
theorem GN {L:List E}{cap:Int}{x:E}:x∈eX key ex cap L x:=by
 unfold eX
 split <;> exact jF.2 (.inl rfl)
theorem asc_key {L:List E}(h:kq key L){x y:E}(hx:x∈L)(hy:y∈L)(e:key x=key y):x=y:=by
 obtain⟨i,hi,rfl⟩:=zLM.1 hx
 obtain⟨j,hj,rfl⟩:=zLM.1 hy
 rcases Nat.lt_trichotomy i j with h1|h1|h1
 ·exact absurd e (kI (zLH.1 h i j hi hj h1))
 ·subst h1;rfl
 ·exact absurd e.symm (kI (zLH.1 h j i hj hi h1))
theorem Eu:∀ {L M:List E}(_:kq key L)(_:kq key M),(∀ x,x∈L↔x∈M)→L=M
 | [],[],_,_,_=>rfl
 | [],y::M,_,_,h=>by have:=(h y).2 (by simp);simp at this
 | x::L,[],_,_,h=>by have:=(h x).1 (by simp);simp at this
 | x::L,y::M,h1,h2,h=>by
   rw[kq,zLU]at h1 h2
   have e:x=y:=by
    rcases zLR.1 ((h x).1 (by simp)) with e|hx
    ·exact e
    ·rcases zLR.1 ((h y).2 (by simp)) with e|hy
     ·exact e.symm
     ·have a:=h1.1 y hy
      have b:=h2.1 x hx
      rw[yT a]at b;cases b
   subst e
   rw[Eu h1.2 h2.2 (fun z=>?_)]
   constructor
   ·intro hz
    rcases zLR.1 ((h z).1 (by simp[hz])) with e|hz'
    ·subst e;have:=h1.1 _ hz;rw[js]at this;cases this
    ·exact hz'
   ·intro hz
    rcases zLR.1 ((h z).2 (by simp[hz])) with e|hz'
    ·subst e;have:=h2.1 _ hz;rw[js]at this;cases this
    ·exact hz'
theorem evicts {L:List E}(h:kq key L){cap:Int}(hc:0<cap)(hl:(L.length:Int)≤cap){x:E}(hn:dm key L (key x)=false) :
 ((L.length:Int)<cap∧∀ y∈L,y∈eX key ex cap L x) ∨
 ((L.length:Int)=cap∧∃ (q:Nat) (hq:q<L.length),(∀ y∈L,ex L[q]≤ex y)∧(∀ (k:Nat) (hk:k<L.length),k≠q→L[k]∈eX key ex cap L x)∧∀ y∈eX key ex cap L x,key y≠key L[q]):=by
 have fA:∀ y∈L,key y≠key x:=fun y hy e=>by
  have:=fR.2 ⟨y,hy,e⟩
  rw[hn]at this;cases this
 by_cases h1:(L.length:Int)<cap
 ·refine .inl ⟨h1,fun y hy=>?_⟩
  unfold eX
  rw[if_pos (.inr h1)]
  exact jF.2 (.inr ⟨hy,fA y hy⟩)
 ·have h0:0<L.length:=by omega
  obtain⟨g1,g2⟩:=gn (L.map ex) L.length h0
  have hX:∀ (k:Nat) (hk:k<L.length),(L.map ex).getD k 0=ex L[k]:=fun k hk=>by simp[zLu,hk]
  have o6:eX key ex cap L x=jn key (L.eraseIdx (dE (L.map ex) L.length)) x:=by
   unfold eX
   rw[if_neg]
   rintro(e|e)
   ·rw[hn]at e;cases e
   ·exact h1 e
  rw[o6]
  generalize dE (L.map ex) L.length=q at *
  refine .inr ⟨by omega,q,g1,fun y hy=>?_,fun k hk hkq=>?_,fun y hy e=>?_⟩
  ·obtain⟨k,hk,rfl⟩:=zLM.1 hy
   have:=g2 k hk
   rw[hX q g1,hX k hk]at this
   omega
  ·exact jF.2 (.inr ⟨List.mem_eraseIdx_iff_getElem.2 ⟨k,hk,hkq,rfl⟩,fA _ (zLv hk)⟩)
  ·rcases jF.1 hy with rfl|⟨hy,-⟩
   ·exact fA _ (zLv g1) e.symm
   ·obtain⟨k,hk,hkq,rfl⟩:=List.mem_eraseIdx_iff_getElem.1 hy
    rcases Nat.lt_trichotomy k q with h3|h3|h3
    ·exact kI (zLH.1 h k q hk g1 h3) e
    ·exact hkq h3
    ·exact kI (zLH.1 h q k g1 hk h3) e.symm
end
end Go.Proofs.YteipdaijbncgeaaGreatDoor
namespace Vc
open Go Go.RowKit Wf
mutual
def ren (ρ:Nat→Nat):SV→SV
 | .p i off=>.p (ρ i) off
 | .o i n=>.o (ρ i) n
 | .f i n=>.f (ρ i) n
 | .agg l=>.agg (oh ρ l)
 | .eN l=>.eN (oh ρ l)
 | .fn f l=>.fn f (oh ρ l)
 | .mv f l=>.mv f (oh ρ l)
 | .DT t x=>.DT t (ren ρ x)
 | .bool b=>.bool b
 | .int k n=>.int k n
 | .str l=>.str l
 | .aD=>.aD
 | .v x=>.v x
def oh (ρ:Nat→Nat):List SV→List SV
 | []=>[]
 | x::r=>ren ρ x::oh ρ r
end
mutual
theorem u7 (ρ:Nat→Nat)(β:Nat→Bt)(x:SV):ah β (ren ρ x)=ah (fun i=>β (ρ i)) x:=by
 cases x <;> simp only[ren,ah]
 ·rw[jz ρ β _]
 ·rw[jz ρ β _]
 ·rw[jz ρ β _]
 ·rw[jz ρ β _]
 ·rw[u7 ρ β _]
theorem jz (ρ:Nat→Nat)(β:Nat→Bt)(l:List SV):aI β (oh ρ l)=aI (fun i=>β (ρ i)) l:=by
 cases l with
 | nil=>rfl
 | cons x r =>
   simp only[oh,aI]
   rw[u7 ρ β x,jz ρ β r]
end
mutual
theorem tC {ρ:Nat→Nat}{m:Nat}(hρ:∀ k,k<m→ρ k=k)(x:SV)(h:within m x=true):ren ρ x=x:=by
 cases x <;> simp only[within,decide_eq_true_eq]at h <;> simp only[ren]
 ·rw[hρ _ h]
 ·rw[hρ _ h]
 ·rw[hρ _ h]
 ·rw[gi hρ _ h]
 ·rw[gi hρ _ h]
 ·rw[gi hρ _ h]
 ·rw[gi hρ _ h]
 ·rw[tC hρ _ h]
theorem gi {ρ:Nat→Nat}{m:Nat}(hρ:∀ k,k<m→ρ k=k)(l:List SV)(h:within.aN m l=true):oh ρ l=l:=by
 cases l with
 | nil=>rfl
 | cons x r =>
   simp only[within.aN,zL1]at h
   simp only[oh]
   rw[tC hρ x h.1,gi hρ r h.2]
end
theorem GI (ρ:Nat→Nat)(l:List SV):oh ρ l=l.map (ren ρ):=by
 induction l with
 | nil=>rfl
 | cons x r ih=>rw[oh,ih];rfl
variable {V:Cx} {f:FuncId} {args:List SV} {bs:List ay} {R:SV→List ay→Prop}
def Kept (bs b:List ay)(ρ:Nat→Nat)(m i:Nat)(X:ay):Prop:=X=.gone∨∃ (c:List SV) (e s n:Nat) (mm:Bool),X=.own c e s n false∧bs.length≤ρ i∧b[ρ i]? = some (.own (oh ρ c) e s n mm)∧within.aN m c=true
theorem SC.pick (h:SC V f args bs (fun r b=>∃ (ρ:Nat→Nat)(Xs:List ay)(r2:SV),Kp bs b∧(∀ k,k<bs.length→ρ k=k)∧(∀ q X,Xs[q]? = some X→Kept bs b ρ (bs.length+Xs.length) (bs.length+q) X)∧r=ren ρ r2∧within (bs.length+Xs.length) r2=true∧R r2 (bs++Xs))):SC V f args bs R:=by
 refine⟨h.1,fun β fp w fU hG hE=>(h.2 β fp w fU hG hE).mono ?_⟩
 rintro ex w' ⟨r,bs',β₂,fp₂,⟨ρ,Xs,r2,⟨hlen,cg⟩,hρ,hX,rfl,hw,hR⟩,Bf,-,aT,jx,nx,mf⟩
 have old:∀ {i r},bs[i]? = some r→bs'[i]? = some r:=fun {i r} hi=>(cg i (zLn.1 hi).1).trans hi
 obtain⟨he,kY⟩:=aT β₂ (fun _ _=>rfl)
 have low:∀ {i X},(bs++Xs)[i]? = some X→(i<bs.length∧bs[i]? = some X)∨(bs.length≤i∧(X=.gone∨∃ (c:List SV) (e s n:Nat) (mm:Bool),X=.own c e s n false∧bs.length≤ρ i∧bs'[ρ i]? = some (.own (oh ρ c) e s n mm)∧within.aN (bs.length+Xs.length) c=true)):=fun {i X} hi=>by
  rcases zLN i bs.length with h1|h1
  ·rw[zLs h1]at hi
   exact .inl ⟨h1,hi⟩
  ·rw[zLw h1]at hi
   have:=hX _ _ hi
   rw[show bs.length+(i - bs.length)=i by omega]at this
   exact .inr ⟨h1,this⟩
 have ng:∀ {i X},(bs++Xs)[i]? = some X→X≠.gone→bs'[ρ i]? ≠ none∧(i<bs.length∧ρ i=i∨bs.length≤i∧bs.length≤ρ i):=fun {i X} hi hg=>by
  rcases low hi with⟨h1,h2⟩|⟨h1,h2|⟨c,e,s,n,mm,-,h3,h4,-⟩⟩
  ·rw[hρ i h1,old h2]
   exact⟨by simp,.inl ⟨h1,rfl⟩⟩
  ·exact absurd h2 hg
  ·rw[h4]
   exact⟨by simp,.inr ⟨h1,h3⟩⟩
 refine⟨r2,bs++Xs,fun i=>β₂ (ρ i),fun i k=>(bs++Xs)[i]? ≠ some .gone∧fp₂ (ρ i) k,hR,fun i hi=>?_,by simp,fun β' hβ=>?_,jx,fun i X hi hm k hk=>?_,fun i X hi k hk=>?_⟩
 ·show β i=β₂ (ρ i)
  rw[hρ i hi]
  exact Bf i hi
 ·rw[zLo]at hβ
  have e1:∀ c,within.aN (bs.length+Xs.length) c=true→(oh ρ c).map (ah β₂)=c.map (ah β'):=fun c hc=>by
   rw[← bO,← bO,jz]
   exact aw _ c hc _ _ hβ
  have hB:bp bs.length β₂ β':=fun i hi=>by
   have:β₂ (ρ i)=β' i:=hβ i (by omega)
   rw[← this,hρ i hi]
  refine⟨by rw[he,u7];rw[nM _ r2 hw _ _ hβ],⟨fun i X hi=>?_,fun i X hi k hk=>?_,fun i j X Y hi hj vx hm k hk fH=>?_⟩⟩
  ·rcases low hi with⟨h1,h2⟩|⟨h1,rfl|⟨c,e,s,n,mm,rfl,h3,h4,h5⟩⟩
   ·have g1:=(fU β₂ Bf).holds i X h2
    have g2:=(fU β' (fun i hi=>(Bf i hi).trans (hB i hi))).holds i X h2
    have e:β₂ i=β' i:=hB i h1
    have g3:=kY.holds i X (old h2)
    rw[e]at g1 g3
    have g4:=xW g1 g2 g3
    by_cases hg:X=.gone
    ·subst hg
     intro k hk
     exact hk.1 hi
    ·have:(fun k=>(bs++Xs)[i]? ≠ some .gone∧fp₂ (ρ i) k)=fp₂ i:=by
      funext k
      rw[hρ i h1,hi]
      simp[hg]
     rw[this]
     exact g4
   ·intro k hk
    exact hk.1 hi
   ·have g3:=kY.holds _ _ h4
    have F9:i<bs.length+Xs.length:=by
     have:=(zLn.1 hi).1
     simpa using this
    have e:β₂ (ρ i)=β' i:=hβ i F9
    rw[e]at g3
    have:(fun k=>(bs++Xs)[i]? ≠ some .gone∧fp₂ (ρ i) k)=fp₂ (ρ i):=by
     funext k
     rw[hi]
     simp
    rw[this]
    rcases g3 with⟨k1,k2,k3,k4⟩|⟨k1,k2,k3,k4,k5,-,k7⟩
    ·refine .inl ⟨k1,k2,?_,k4.1,fun e=>by cases e⟩
     cases c with
     | nil=>rfl
     | cons x r=>simp[oh]at k3
    ·refine .inr ⟨k1,k2,k3,?_,?_,(by simp),k7⟩
     ·rw[GI,List.length_map]at k4
      exact k4
     ·rw[e1 c h5]at k5
      exact k5
  ·obtain⟨X',hX'⟩:∃ X',bs'[ρ i]? = some X':=by
    have:=(ng hi (fun e=>hk.1 (e ▸ hi))).1
    cases hh:bs'[ρ i]? with
    | none=>exact absurd hh this
    | some x=>exact⟨x,rfl⟩
   exact kY.lt _ _ hX' k hk.2
  ·have hgi:X≠.gone:=fun e=>hk.1 (e ▸ hi)
   have hgj:Y≠.gone:=fun e=>fH.1 (e ▸ hj)
   rcases low hi with⟨h1,h2⟩|⟨h1,rfl|⟨c,e,s,n,mm,rfl,h3,h4,h5⟩⟩
   ·rcases low hj with⟨l1,l2⟩|⟨l1,rfl|⟨c',e',s',n',mm',rfl,l3,l4,l5⟩⟩
    ·have a1:=hk.2
     have a2:=fH.2
     rw[hρ i h1]at a1
     rw[hρ j l1]at a2
     exact kY.sep i j X Y (old h2) (old l2) vx hm k a1 a2
    ·exact hgj rfl
    ·have a1:=hk.2
     rw[hρ i h1]at a1
     have yF:X.cf=true:=hm.resolve_right (by simp[ay.cf])
     exact kY.sep i (ρ j) X _ (old h2) l4 (by omega) (.inl yF) k a1 fH.2
   ·exact hgi rfl
   ·rcases low hj with⟨l1,l2⟩|⟨l1,rfl|⟨c',e',s',n',mm',rfl,l3,l4,l5⟩⟩
    ·have a2:=fH.2
     rw[hρ j l1]at a2
     have yF:Y.cf=true:=hm.resolve_left (by simp[ay.cf])
     exact kY.sep (ρ i) j _ Y h4 (old l2) (by omega) (.inr yF) k hk.2 a2
    ·exact hgj rfl
    ·rcases hm with hm|hm <;> simp[ay.cf]at hm
 ·rcases low hi with⟨h1,h2⟩|⟨h1,rfl|⟨c,e,s,n,mm,rfl,h3,h4,h5⟩⟩
  ·have a1:=hk.2
   rw[hρ i h1]at a1
   exact nx i X (old h2) hm k a1
  ·simp[ay.cf]at hm
  ·simp[ay.cf]at hm
 ·rcases low hi with⟨h1,h2⟩|⟨h1,rfl|⟨c,e,s,n,mm,rfl,h3,h4,h5⟩⟩
  ·have a1:=hk.2
   rw[hρ i h1]at a1
   exact mf i X (old h2) k a1
  ·exact absurd hi hk.1
  ·exact mf _ _ h4 k hk.2
theorem yU (b l:List ay)(k:Nat):(b++l)[b.length+k]? = l[k]? := by
 rw[zLw (by omega),Nat.add_sub_cancel_left]
theorem eR (b l:List ay):(b++l)[b.length]? = l[0]? := yU b l 0
theorem Ew (b l:List ay)(k:Nat)(X:ay):(b++l).set (b.length+k) X=b++l.set k X:=by
 rw[List.set_append_right _ _ (by omega),Nat.add_sub_cancel_left]
theorem IN (b l:List ay)(X:ay):(b++l).set b.length X=b++l.set 0 X:=Ew b l 0 X
def ak:=zLJ (zLJ (@yU) (zLJ (@eR) (@Ew))) (zLJ (zLJ (@IN) (@List.append_assoc.{0})) (zLJ (zLJ (@zLD.{0}) (@zLI.{0})) (zLJ (zLJ (@zLo.{0}) (@zLq.{0})) (zLJ (zLJ (@zLx.{0}) (@Nat.zero_add)) (zLJ (zLJ (@zLF.{0}) (@zLG.{0})) (@Nat.add_assoc))))))
theorem outs1 {n:Nat}{b:List ay}(hn:n=b.length)(X:ay):FT [(n,0,0)] (b++[X]) b:=by
 subst hn
 refine yo (fun j hj=>?_) (by simp)
 have h1:=hj _ List.mem_cons_self
 simp only at h1
 rcases zLN j b.length with h|h
 ·rw[zLs h]
 ·rw[zLB (by simp;omega),zLB h]
theorem a6 {l1:List ay}{n:Nat}(hn:l1.length=n)(l:List ay)(k:Nat):(l1++l)[n+k]? = l[k]? := by
 subst hn;exact yU _ _ _
theorem bS {l1:List ay}{i:Nat}(hi:i<l1.length)(l:List ay)(X:ay):(l1++l).set i X=l1.set i X++l:=List.set_append_left _ _ hi
theorem Bi {l1:List ay}{i:Nat}(hi:i<l1.length)(X:ay)(l:List ay):(l1.set i X++l)[i]? = some X:=by
 rw[zLs (by simpa using hi),zLp hi]
theorem aF {l1:List ay}{i j:Nat}{r:ay}(h:l1[j]? = some r)(hn:i≠j)(X:ay):(l1.set i X)[j]? = some r:=by
 rw[zLr hn];exact h
end Vc
namespace Go.Proofs.YteipdaijbncgeaaGreatDoor
open Go Vc Go.RowKit Wf
structure Vd where
 err:Int
 id:jg
 cP:jg
 store:Bool
 dU:Int
 tr:SV
structure En where
 v:Vd
 stored:Int
 aP:Int
def eJ (v:Vd):List SV:=[.int .i64 v.err,.int .i64 v.id.kind,.str v.id.text,.str v.id.host,.int .i64 v.id.port,.int .i64 v.cP.kind,.str v.cP.text,.str v.cP.host,.int .i64 v.cP.port,.bool v.store,.int .u64 v.dU,v.tr]
def enc (e:En):List SV:=[.int .i64 e.v.err,.int .i64 e.v.id.kind,.str e.v.id.text,.str e.v.id.host,.int .i64 e.v.id.port,.int .i64 e.v.cP.kind,.str e.v.cP.text,.str e.v.cP.host,.int .i64 e.v.cP.port,.bool e.v.store,.int .u64 e.v.dU,e.v.tr,.int .u64 e.stored,.int .u64 e.aP]
def En.key (e:En):Bytes:=e.v.id.text
theorem gd (L:List En)(k:Nat)(h:k<L.length):((L.flatMap enc).drop (k * 14)).take 14=enc L[k]:=DD enc 14 (fun _=>rfl) L k h
theorem aQ (L:List En):(L.flatMap enc).length=L.length * 14:=mP enc 14 (fun _=>rfl) L
theorem iK (L:List En)(k:Nat)(h:k<L.length)(i:Nat)(hi:i<14):(L.flatMap enc)[k * 14+i]? = (enc L[k])[i]? := by
 rw[← gd L k h,List.getElem?_take,List.getElem?_drop,if_pos hi]
def vw (P:List Nat):List SV:=P.map fun n:Nat=>SV.int .i64 (n:Int)
theorem ur (P:List Nat)(k:Nat)(h:k<P.length):(vw P)[k * 1]? = some (.int .i64 (P.getD k 0:Nat)):=by
 simp[vw,zLu,h]
structure QS (b:List ay) (q j r:Nat) (m:Bool) (L:List En) (P:List Nat):Prop where
 bq:b[q]? = some (.cells [.o j L.length,if P.length=0 then .aD else .o r P.length] 99 true)
 br:P.length≠0→b[r]? = some (.own (vw P) 3 1 P.length true)
 bj:b[j]? = some (.own (L.flatMap enc) 43 14 L.length m)
 rj:P.length≠0→r≠j
def oq (L:List En):List Int:=L.map En.aP
theorem yW (L:List En)(k:Nat)(h:k<L.length):(oq L).getD k 0=L[k].aP:=by simp[oq,zLu,h]
section
variable {b:List ay} {q j r:Nat} {m:Bool} {L:List En} {P:List Nat}
theorem QS.one (h:QS b q j r m L P):Vc.one (if P.length=0 then SV.aD else .o r P.length)=true:=by split <;> rfl
theorem Gu (h:QS b q j r m L P):SC Tryz.V 237 [.p q 0] b (fun x b'=>x=.int .i64 P.length∧b'=b):=by
 have hq:=h.bq
 have oD:=(zLn.1 hq).1
 have ho:=h.one
 have hl:∀ e,nm (.slice e) (if P.length=0 then SV.aD else .o r P.length)=some (.int .i64 P.length):=fun e=>by
  split
  ·rename_i h0;rw[h0];rfl
  ·rfl
 refine cK 3000 Tryz.func237 rfl Tryz.ntmps237 Tryz.results237 Tryz.call237 (by simp) (aw b.length _ (by simp[within,within.aN,oD])) ?_
 generalize (if P.length=0 then SV.aD else .o r P.length)=pl at hq ho hl
 simp only[ad,↓Xn,↓Xo,↓Xg,↓Xd,↓Xe,↓Xf,Tryz.VΓ,Tryz.Γs,Xp,Xi,Nat.reduceAdd,Nat.reduceSub,Nat.reduceLT,Nat.reduceLeDiff,reduceIte,reduceCtorEq,Nat.reduceEqDiff,implies_true,forall_const,aa,ak,beq_self_eq_true,bne_self_eq_false,Int.reduceBEq,Int.reduceBNe,Int.reduceLT,Int.reduceLE,hq,ho,hl]
theorem ES (h:QS b q j r m L P){i k:Nat}(hi:i<P.length)(hk:k<P.length)(hP:∀ c,c<P.length→P.getD c 0<L.length) :
 SC Tryz.V 238 [.p q 0,.int .i64 i,.int .i64 k] b (fun x b'=>x=.bool (kP (oq L) (P.getD i 0) (P.getD k 0))∧b'=b):=by
 have h0:P.length≠0:=by omega
 have hq:=h.bq
 rw[if_neg h0]at hq
 have hr:=h.br h0
 have hj:=h.bj
 have hrj:=h.rj h0
 have oD:=(zLn.1 hq).1
 have hqr:r≠q:=by rintro rfl;rw[hq]at hr;cases hr
 have hqj:j≠q:=by rintro rfl;rw[hq]at hj;cases hj
 have a1:=ur P i hi
 have a2:=ur P k hk
 have p1:=hP i hi
 have p2:=hP k hk
 have x1:=yW L _ p1
 have x2:=yW L _ p2
 have il:(vw P).length=P.length:=by simp[vw]
 have el:=aQ L
 have g1:(L.flatMap enc)[P.getD i 0 * 14+13]? = some (.int .u64 L[P.getD i 0].aP):=(iK L _ p1 13 (by omega)).trans rfl
 have g2:(L.flatMap enc)[P.getD k 0 * 14+13]? = some (.int .u64 L[P.getD k 0].aP):=(iK L _ p2 13 (by omega)).trans rfl
 unfold kP
 rw[x1,x2]
 refine cK 3000 Tryz.func238 rfl Tryz.ntmps238 Tryz.results238 Tryz.call238 (by simp) (aw b.length _ (by simp[within,within.aN,oD])) ?_
 generalize P.getD i 0=pi at *
 generalize P.getD k 0=pk at *
 cases c1:(L[pi].aP != L[pk].aP)
 ·simp only[ad,↓Xn,↓Xo,↓Xg,↓Xd,↓Xe,↓Xf,Tryz.VΓ,Tryz.Γs,Xp,Xi,Nat.reduceAdd,Nat.reduceSub,Nat.reduceLT,Nat.reduceLeDiff,reduceIte,reduceCtorEq,Nat.reduceEqDiff,implies_true,forall_const,aa,ak,beq_self_eq_true,bne_self_eq_false,Int.reduceBEq,Int.reduceBNe,Int.reduceLT,Int.reduceLE,hq,hr,hj,a1,a2,g1,g2,il,el,c1]
  refine⟨⟨by omega,by omega⟩,by omega,⟨by omega,by omega⟩,by omega,av (by kernel_rfl),⟨by omega,by omega⟩,by omega,⟨by omega,by omega⟩,by omega,av (by kernel_rfl),?_⟩
  simp
 ·simp only[ad,↓Xn,↓Xo,↓Xg,↓Xd,↓Xe,↓Xf,Tryz.VΓ,Tryz.Γs,Xp,Xi,Nat.reduceAdd,Nat.reduceSub,Nat.reduceLT,Nat.reduceLeDiff,reduceIte,reduceCtorEq,Nat.reduceEqDiff,implies_true,forall_const,aa,ak,beq_self_eq_true,bne_self_eq_false,Int.reduceBEq,Int.reduceBNe,Int.reduceLT,Int.reduceLE,hq,hr,hj,a1,a2,g1,g2,il,el,c1]
  exact⟨⟨by omega,by omega⟩,by omega,⟨by omega,by omega⟩,by omega,av (by kernel_rfl),⟨by omega,by omega⟩,by omega,⟨by omega,by omega⟩,by omega,av (by kernel_rfl),⟨by omega,by omega⟩,by omega,⟨by omega,by omega⟩,by omega,av (by kernel_rfl)⟩
theorem VM_Len : Tryz.V.M 96 "Len" = some 237 := by simp [Tryz.V]
theorem VM_Less : Tryz.V.M 96 "Less" = some 238 := by simp [Tryz.V]
theorem Ey : Tryz.V.M 96 "Swap" = some 240 := by simp [Tryz.V]
theorem VM_Push : Tryz.V.M 96 "Push" = some 239 := by simp [Tryz.V]
theorem ipl_set (P:List Nat)(i v:Nat):(vw P).set i (.int .i64 v)=vw (P.set i v):=by simp[vw,List.map_set]
theorem QS.swap (h:QS b q j r m L P)(h0:P.length≠0)(P':List Nat)(hl:P'.length=P.length):QS (b.set r (.own (vw P') 3 1 P.length true)) q j r m L P':=by
 have hr:=h.br h0
 have hq:=h.bq
 have hqr:r≠q:=by rintro rfl;rw[hq]at hr;cases hr
 exact⟨by rw[hl];exact aF hq hqr _,fun _=>by rw[hl];exact zLp (zLn.1 hr).1,aF h.bj (h.rj h0) _,fun _=>h.rj h0⟩
theorem EP (h:QS b q j r m L P){i k:Nat}(hi:i<P.length)(hk:k<P.length) :
 SC Tryz.V 240 [.p q 0,.int .i64 i,.int .i64 k] b (fun x b'=>x=.eN []∧b'=b.set r (.own (vw (mL P i k)) 3 1 P.length true)):=by
 have h0:P.length≠0:=by omega
 have hq:=h.bq
 rw[if_neg h0]at hq
 have hr:=h.br h0
 have oD:=(zLn.1 hq).1
 have hrl:=(zLn.1 hr).1
 have hqr:r≠q:=by rintro rfl;rw[hq]at hr;cases hr
 have a1:=ur P i hi
 have a2:=ur P k hk
 have il:(vw P).length=P.length:=by simp[vw]
 refine cK 3000 Tryz.func240 rfl Tryz.ntmps240 Tryz.results240 Tryz.call240 (by simp) (aw b.length _ (by simp[within,within.aN,oD])) ?_
 have hg:∀ X,(b.set r X)[r]? = some X:=fun X=>zLp hrl
 have hgq:∀ X,(b.set r X)[q]? = some (.cells [.o j L.length,.o r P.length] 99 true):=fun X=>aF hq hqr X
 have sp:∀ (Q:List Nat) (i v:Nat),i<Q.length→List.take (i * 1) (vw Q)++.int .i64 (v:Int)::List.drop (i * 1+1) (vw Q)=vw (Q.set i v):=fun Q i v hi=>by
  rw[Nat.mul_one,← ipl_set,List.set_eq_take_append_cons_drop,if_pos (by simpa[vw] using hi)]
 have s1:=sp P i (P.getD k 0) hi
 have s2:=sp (P.set i (P.getD k 0)) k (P.getD i 0) (by simpa using hk)
 have il2:(vw (P.set i (P.getD k 0))).length=P.length:=by simp[vw]
 simp only[ad,↓Xn,↓Xo,↓Xg,↓Xd,↓Xe,↓Xf,Tryz.VΓ,Tryz.Γs,Xp,Xi,Nat.reduceAdd,Nat.reduceSub,Nat.reduceLT,Nat.reduceLeDiff,reduceIte,reduceCtorEq,Nat.reduceEqDiff,implies_true,forall_const,aa,ak,beq_self_eq_true,bne_self_eq_false,Int.reduceBEq,Int.reduceBNe,Int.reduceLT,Int.reduceLE,hq,hr,a1,a2,il,hg,hgq,s1,s2,il2,List.set_set]
 exact⟨⟨by omega,by omega⟩,by omega,⟨by omega,by omega⟩,by omega,⟨by omega,by omega⟩,by omega,⟨by omega,by omega⟩,by omega,av (by kernel_rfl),rfl⟩
def IZ (q r:Nat)(b b':List ay):Prop:=b.length≤b'.length∧∀ i s,b[i]? = some s→i≠q→i≠r→b'[i]? = some s
theorem IZ.refl (q r:Nat)(b:List ay):IZ q r b b:=⟨Nat.le_refl _,fun _ _ h _ _=>h⟩
theorem ER (h:QS b q j r m L P)(hP:P.length≤1000000)(n:Nat) :
 SC Tryz.V 239 [.p q 0,.DT 3 (.int .i64 n)] b (fun x b'=>x=.eN []∧∃ r',b.length≤r'∧QS b' q j r' m L (P++[n])∧IZ q r b b'):=by
 have hq:=h.bq
 have hj:=h.bj
 have oD:=(zLn.1 hq).1
 have mA:=(zLn.1 hj).1
 have hqj:q≠j:=by rintro rfl;rw[hq]at hj;cases hj
 have iu:∀ (l:List ay) X,(b++l).set q X=b.set q X++l:=fun l X=>bS oD l X
 refine cK 3000 Tryz.func239 rfl Tryz.ntmps239 Tryz.results239 Tryz.call239 (by simp) (aw b.length _ (by simp[within,within.aN,oD])) ?_
 by_cases h0:P.length=0
 ·rw[if_pos h0]at hq
  obtain rfl:P=[]:=List.length_eq_zero_iff.1 h0
  simp only[ad,↓Xn,↓Xo,↓Xg,↓Xd,↓Xe,↓Xf,Tryz.VΓ,Tryz.Γs,Xp,Xi,Nat.reduceAdd,Nat.reduceSub,Nat.reduceLT,Nat.reduceLeDiff,reduceIte,reduceCtorEq,Nat.reduceEqDiff,implies_true,forall_const,aa,ak,beq_self_eq_true,bne_self_eq_false,Int.reduceBEq,Int.reduceBNe,Int.reduceLT,Int.reduceLE,hq,af hq,iu]
  refine⟨by decide,⟨by decide,by decide⟩,b.length+1,by omega,⟨Bi oD _ _,fun _=>a6 (by simp) _ 1,af (aF hj hqj _) _,fun _=>by omega⟩,by simp,fun i s hi h1 h2=>af (aF hi (Ne.symm h1) _) _⟩
 ·rw[if_neg h0]at hq
  have hr:=h.br h0
  have hrl:=(zLn.1 hr).1
  have hqr:r≠q:=by rintro rfl;rw[hq]at hr;cases hr
  have hrj:=h.rj h0
  have hsr:∀ (l:List ay) X,(b++l).set r X=b.set r X++l:=fun l X=>bS hrl l X
  have hset2:∀ (l:List ay) Y X,(b.set r Y++l).set q X=(b.set r Y).set q X++l:=fun l Y X=>bS (by simpa using oD) l X
  have H9:=fun Y=>af (aF hq hqr Y)
  simp only[ad,↓Xn,↓Xo,↓Xg,↓Xd,↓Xe,↓Xf,Tryz.VΓ,Tryz.Γs,Xp,Xi,Nat.reduceAdd,Nat.reduceSub,Nat.reduceLT,Nat.reduceLeDiff,reduceIte,reduceCtorEq,Nat.reduceEqDiff,implies_true,forall_const,aa,ak,beq_self_eq_true,bne_self_eq_false,Int.reduceBEq,Int.reduceBNe,Int.reduceLT,Int.reduceLE,hq,af hq,af hr,iu,hsr,hset2,H9]
  refine⟨by decide,⟨by unfold maxLen;omega,by omega⟩,b.length+1,by omega,⟨?_,fun _=>?_,af (aF (aF hj hrj _) hqj _) _,fun _=>by omega⟩,by simp,fun i s hi h1 h2=>af (aF (aF hi (Ne.symm h2) _) (Ne.symm h1) _) _⟩
  ·rw[if_neg (by simp),zLo];exact Bi (by simpa using oD) _ _
  ·rw[a6 (by simp)];simp[vw]
end
open Go Vc Go.RowKit Wf
theorem Er:∀ a c:Bytes,decide (Lib.compareBytes a c<0)=blt a c
 | [],[]=>rfl
 | [],_::_=>rfl
 | _::_,[]=>rfl
 | x::a,y::c=>by
   have ih:=Er a c
   simp only[blt]at ih
   by_cases e:x=y
   ·subst e
    simp[Lib.compareBytes,blt,Op.bytesLess,UInt8.lt_irrefl,← ih]
   ·by_cases h:x<y
    ·simp[Lib.compareBytes,blt,Op.bytesLess,h,e]
    ·have h2:y<x:=by
      rcases UInt8.lt_or_eq_of_le (UInt8.not_lt.1 h) with h2|h2
      ·exact h2
      ·exact absurd h2.symm e
     simp[Lib.compareBytes,blt,Op.bytesLess,h,h2,e]
theorem BA:∀ a c:Bytes,(Lib.compareBytes a c==0)=(a==c)
 | [],[]=>rfl
 | [],_::_=>rfl
 | _::_,[]=>rfl
 | x::a,y::c=>by
   have ih:=BA a c
   simp only[Lib.compareBytes]
   split
   ·rename_i h
    have:x≠y:=by rintro rfl;exact absurd h (UInt8.lt_irrefl _)
    simp[this]
   ·split
    ·rename_i h1 h
     have:x≠y:=by rintro rfl;exact absurd h (UInt8.lt_irrefl _)
     simp[this]
    ·rename_i h1 h2
     have:x=y:=UInt8.le_antisymm (UInt8.not_lt.1 h2) (UInt8.not_lt.1 h1)
     subst this
     rw[ih];simp
theorem E3 (a c:Bytes):PC Tryz.V 58 [.str a,.str c] (.int .i64 (Lib.compareBytes a c)) :=
 ⟨Tryz.call58,by simp[flat,flat.ai],by simp[flat,flat.ai],fun w hE=>(Tryz.strings_Compare ⟨a.toArray⟩ ⟨c.toArray⟩ w).mono fun _ _ ⟨h,k⟩=>⟨by rw[h];rfl,cO k.symm⟩⟩
theorem half2 {k:Nat}:shI .shr .u64 (k:Int) 1=((k / 2:Nat):Int):=by
 show Int.fdiv (k:Int) (2 ^ (1:Int).toNat)=_
 have:(2:Int) ^ (1:Int).toNat=2:=by decide
 rw[this]
 simp[Int.fdiv_eq_ediv]
section
variable {b:List ay} {q g:Nat} {L:List En} {m:Bool} {t:Bytes}
theorem zK (e:En)(h1:one e.v.tr=true)(hw:within b.length e.v.tr=true):SC Tryz.V 57 [.agg (enc e),.str t] b (fun r b'=>r=.int .i64 (Lib.compareBytes e.key t)∧b'=b):=by
 refine fm rfl ?_
 have he:enc e=[.int .i64 e.v.err,.int .i64 e.v.id.kind,.str e.v.id.text,.str e.v.id.host,.int .i64 e.v.id.port,.int .i64 e.v.cP.kind,.str e.v.cP.text,.str e.v.cP.host,.int .i64 e.v.cP.port,.bool e.v.store,.int .u64 e.v.dU,e.v.tr,.int .u64 e.stored,.int .u64 e.aP]:=rfl
 refine cK 3000 Tryz.func57 rfl Tryz.ntmps57 Tryz.results57 Tryz.call57 (by simp) (aw b.length _ (by simp[within,within.aN,he,hw])) ?_
 simp only[ad,↓Xn,↓Xo,↓Xg,↓Xd,↓Xe,↓Xf,Tryz.VΓ,Tryz.Γs,Xp,Xi,Nat.reduceAdd,Nat.reduceSub,Nat.reduceLT,Nat.reduceLeDiff,reduceIte,reduceCtorEq,Nat.reduceEqDiff,implies_true,forall_const,aa,ak,beq_self_eq_true,bne_self_eq_false,Int.reduceBEq,Int.reduceBNe,Int.reduceLT,Int.reduceLE,he,h1]
 refine ae (E3 _ _) ?_
 simp only[ad,↓Xn,↓Xo,↓Xg,↓Xd,↓Xe,↓Xf,Tryz.VΓ,Tryz.Γs,Xp,Xi,Nat.reduceAdd,Nat.reduceSub,Nat.reduceLT,Nat.reduceLeDiff,reduceIte,reduceCtorEq,Nat.reduceEqDiff,implies_true,forall_const,aa,ak,beq_self_eq_true,bne_self_eq_false,Int.reduceBEq,Int.reduceBNe,Int.reduceLT,Int.reduceLE]
 exact⟨rfl,(Kp.refl _).app _⟩
theorem sc_Bin (hq:b[q]? = some (.own (L.flatMap enc) 43 14 L.length m))(ha:kq En.key L)(hl:L.length≤1000000)(v8:∀ e∈L,one e.v.tr=true∧within b.length e.v.tr=true) :
 SC Tryz.V 56 [.o q L.length,.str t,.fn (.func 57) []] b (fun r b'=>r=.eN [.int .i64 (ia En.key L t),.bool (dm En.key L t)]∧b'=b):=by
 have oD:=(zLn.1 hq).1
 refine cK 3000 Tryz.func56 rfl Tryz.ntmps56 Tryz.results56 Tryz.call56 (by simp) (aw b.length _ (by simp[within,within.aN,oD])) ?_
 simp only[ad,↓Xn,↓Xo,↓Xg,↓Xd,↓Xe,↓Xf,Tryz.VΓ,Tryz.Γs,Xp,Xi,Nat.reduceAdd,Nat.reduceSub,Nat.reduceLT,Nat.reduceLeDiff,reduceIte,reduceCtorEq,Nat.reduceEqDiff,implies_true,forall_const,aa,ak,beq_self_eq_true,bne_self_eq_false,Int.reduceBEq,Int.reduceBNe,Int.reduceLT,Int.reduceLE]
 refine aJ (fun σ=>∃ (i j:Nat),lk 0 σ.t=some (.o q L.length)∧lk 1 σ.t=some (.str t)∧lk 2 σ.t=some (.fn (.func 57) [])∧lk 8 σ.t=some (.int .i64 L.length)∧lk 9 σ.t=some (.int .i64 i)∧lk 10 σ.t=some (.int .i64 j)∧i≤ia En.key L t∧ia En.key L t≤j∧j≤L.length∧σ.b=b) (fun σ=>iH 10 σ - iH 9 σ) ⟨0,L.length,rfl,rfl,rfl,rfl,rfl,rfl,by omega,yR _ _,by omega,rfl⟩ ?_
 rintro⟨t',b1⟩ ⟨i,j,l0,l1,l2,l8,l9,l10,hi,hj,mA,rfl⟩
 simp only at l0 l1 l2 l8 l9 l10
 rw[ax l10,ax l9]
 by_cases c:i<j
 ·have ci:decide ((i:Int)<(j:Int))=true:=by simpa using c
  have e2:((i:Int)+(j:Int))=((i+j:Nat):Int):=by omega
  obtain⟨h,hh⟩:∃ h,h=(i+j) / 2:=⟨_,rfl⟩
  have w1:IntKind.u64.wrap ((i+j:Nat):Int)=((i+j:Nat):Int):=by simp only[IntKind.wrap,IntKind.signed,IntKind.bits];simp;omega
  have w2:shI .shr .u64 ((i+j:Nat):Int) 1=(h:Int):=by rw[half2,hh]
  have w3:IntKind.i64.wrap (h:Int)=(h:Int):=by rw[IntKind.wrap_i64];omega
  have hL:h<L.length:=by omega
  have dS:=gd L h hL
  have h0:=v8 _ (zLv hL)
  simp only[ad,↓Xn,↓Xo,↓Xg,↓Xd,↓Xe,↓Xf,Tryz.VΓ,Tryz.Γs,Xp,Xi,Nat.reduceAdd,Nat.reduceSub,Nat.reduceLT,Nat.reduceLeDiff,reduceIte,reduceCtorEq,Nat.reduceEqDiff,implies_true,forall_const,aa,ak,beq_self_eq_true,bne_self_eq_false,Int.reduceBEq,Int.reduceBNe,Int.reduceLT,Int.reduceLE,l0,l1,l2,l8,l9,l10,ci,hq,e2,w1,w2,w3,dS,Int.toNat_natCast]
  refine⟨by omega,⟨by omega,by omega⟩,by rw[aQ];omega,aG (zK _ h0.1 h0.2) ?_⟩
  rintro x b2 ⟨rfl,rfl⟩
  have H4:=qD ha t h hL
  have Bd:=Er (En.key L[h]) t
  cases hb:blt (En.key L[h]) t
  ·rw[hb]at Bd H4
   simp only[ad,↓Xn,↓Xo,↓Xg,↓Xd,↓Xe,↓Xf,Tryz.VΓ,Tryz.Γs,Xp,Xi,Nat.reduceAdd,Nat.reduceSub,Nat.reduceLT,Nat.reduceLeDiff,reduceIte,reduceCtorEq,Nat.reduceEqDiff,implies_true,forall_const,aa,ak,beq_self_eq_true,bne_self_eq_false,Int.reduceBEq,Int.reduceBNe,Int.reduceLT,Int.reduceLE,l0,l1,l2,l8,l9,l10,Bd]
   refine⟨⟨i,h,rfl,rfl,hi,by have:=mt H4.2 (by simp);omega,by omega⟩,?_⟩
   rw[ax (show lk 10 _=some (.int .i64 (h:Int)) from rfl),ax (show lk 9 _=some (.int .i64 (i:Int)) from l9)];omega
  ·rw[hb]at Bd H4
   simp only[ad,↓Xn,↓Xo,↓Xg,↓Xd,↓Xe,↓Xf,Tryz.VΓ,Tryz.Γs,Xp,Xi,Nat.reduceAdd,Nat.reduceSub,Nat.reduceLT,Nat.reduceLeDiff,reduceIte,reduceCtorEq,Nat.reduceEqDiff,implies_true,forall_const,aa,ak,beq_self_eq_true,bne_self_eq_false,Int.reduceBEq,Int.reduceBNe,Int.reduceLT,Int.reduceLE,l0,l1,l2,l8,l9,l10,Bd]
   refine⟨by omega,⟨h+1,j,rfl,rfl,by have:=H4.1 rfl;omega,hj,mA⟩,?_⟩
   rw[ax (show lk 10 _=some (.int .i64 (j:Int)) from l10),ax (show lk 9 _=some (.int .i64 ((h+1:Nat):Int)) from rfl)];omega
 ·have ci:decide ((i:Int)<(j:Int))=false:=by simpa using c
  obtain rfl:i=ia En.key L t:=by omega
  by_cases c2:ia En.key L t<L.length
  ·have ci2:decide (((ia En.key L t:Nat):Int)<(L.length:Int))=true:=by simpa using c2
   have dS:=gd L _ c2
   have h0:=v8 _ (zLv c2)
   simp only[ad,↓Xn,↓Xo,↓Xg,↓Xd,↓Xe,↓Xf,Tryz.VΓ,Tryz.Γs,Xp,Xi,Nat.reduceAdd,Nat.reduceSub,Nat.reduceLT,Nat.reduceLeDiff,reduceIte,reduceCtorEq,Nat.reduceEqDiff,implies_true,forall_const,aa,ak,beq_self_eq_true,bne_self_eq_false,Int.reduceBEq,Int.reduceBNe,Int.reduceLT,Int.reduceLE,l0,l1,l2,l8,l9,l10,ci,ci2,hq,dS]
   refine⟨⟨by omega,by omega⟩,by rw[aQ];omega,aG (zK _ h0.1 h0.2) ?_⟩
   rintro x b2 ⟨rfl,rfl⟩
   have hcz:=BA (En.key L[ia En.key L t]) t
   have HU:dm En.key L t=(En.key L[ia En.key L t]==t):=by
    rw[Bool.eq_iff_iff,qn ha,beq_iff_eq]
    exact⟨fun⟨_,e⟩=>e,fun e=>⟨c2,e⟩⟩
   simp only[ad,↓Xn,↓Xo,↓Xg,↓Xd,↓Xe,↓Xf,Tryz.VΓ,Tryz.Γs,Xp,Xi,Nat.reduceAdd,Nat.reduceSub,Nat.reduceLT,Nat.reduceLeDiff,reduceIte,reduceCtorEq,Nat.reduceEqDiff,implies_true,forall_const,aa,ak,beq_self_eq_true,bne_self_eq_false,Int.reduceBEq,Int.reduceBNe,Int.reduceLT,Int.reduceLE,l0,l1,l2,l8,l9,l10,hcz]
   rw[HU]
  ·have ci2:decide (((ia En.key L t:Nat):Int)<(L.length:Int))=false:=by simpa using c2
   simp only[ad,↓Xn,↓Xo,↓Xg,↓Xd,↓Xe,↓Xf,Tryz.VΓ,Tryz.Γs,Xp,Xi,Nat.reduceAdd,Nat.reduceSub,Nat.reduceLT,Nat.reduceLeDiff,reduceIte,reduceCtorEq,Nat.reduceEqDiff,implies_true,forall_const,aa,ak,beq_self_eq_true,bne_self_eq_false,Int.reduceBEq,Int.reduceBNe,Int.reduceLT,Int.reduceLE,l0,l1,l2,l8,l9,l10,ci,ci2]
   have HU:dm En.key L t=false:=by
    rw[← Bool.not_eq_true,qn ha]
    exact fun⟨h,_⟩=>c2 h
   rw[HU]
theorem sc_BinN:SC Tryz.V 56 [.aD,.str t,.fn (.func 57) []] b (fun r b'=>r=.eN [.int .i64 0,.bool false]∧b'=b):=by
 refine cK 3000 Tryz.func56 rfl Tryz.ntmps56 Tryz.results56 Tryz.call56 (by simp) (aw b.length _ (by simp[within,within.aN])) ?_
 simp only[ad,↓Xn,↓Xo,↓Xg,↓Xd,↓Xe,↓Xf,Tryz.VΓ,Tryz.Γs,Xp,Xi,Nat.reduceAdd,Nat.reduceSub,Nat.reduceLT,Nat.reduceLeDiff,reduceIte,reduceCtorEq,Nat.reduceEqDiff,implies_true,forall_const,aa,ak,beq_self_eq_true,bne_self_eq_false,Int.reduceBEq,Int.reduceBNe,Int.reduceLT,Int.reduceLE]
 refine aJ (fun σ=>lk 8 σ.t=some (.int .i64 0)∧lk 9 σ.t=some (.int .i64 0)∧lk 10 σ.t=some (.int .i64 0)∧σ.b=b) (fun σ=>0) ⟨rfl,rfl,rfl,rfl⟩ ?_
 rintro⟨t',b1⟩ ⟨l8,l9,l10,rfl⟩
 simp only at l8 l9 l10
 simp only[ad,↓Xn,↓Xo,↓Xg,↓Xd,↓Xe,↓Xf,Tryz.VΓ,Tryz.Γs,Xp,Xi,Nat.reduceAdd,Nat.reduceSub,Nat.reduceLT,Nat.reduceLeDiff,reduceIte,reduceCtorEq,Nat.reduceEqDiff,implies_true,forall_const,aa,ak,beq_self_eq_true,bne_self_eq_false,Int.reduceBEq,Int.reduceBNe,Int.reduceLT,Int.reduceLE,l8,l9,l10]
def gC (b:List ay)(x:SV)(L:List En)(m:Bool):Prop:=(x=.aD∧L=[])∨∃ q,x=.o q L.length∧b[q]? = some (.own (L.flatMap enc) 43 14 L.length m)
theorem gC.one {x:SV}(h:gC b x L m):Vc.one x=true:=by
 rcases h with⟨rfl,-⟩|⟨q,rfl,-⟩ <;> rfl
theorem gC.within {x:SV}(h:gC b x L m):within b.length x=true:=by
 rcases h with⟨rfl,-⟩|⟨q,rfl,hq⟩
 ·rfl
 ·simp[Vc.within,(zLn.1 hq).1]
theorem gC.kp {b':List ay}{x:SV}(h:gC b x L m)(k:Kp b b'):gC b' x L m:=by
 rcases h with h|⟨q,rfl,hq⟩
 ·exact .inl h
 ·exact .inr ⟨q,rfl,k.at hq⟩
theorem xO {x:SV}(h:gC b x L m)(ha:kq En.key L)(hl:L.length≤1000000)(v8:∀ e∈L,one e.v.tr=true∧within b.length e.v.tr=true) :
 SC Tryz.V 35 [x,.str t] b (fun r b'=>r=.eN [.int .i64 (ia En.key L t),.bool (dm En.key L t)]∧b'=b):=by
 have hw:=h.within
 refine cK 3000 Tryz.func35 rfl Tryz.ntmps35 Tryz.results35 Tryz.call35 (by simp) (fun β β' hb=>aw b.length _ (by simp[within.aN,hw];rfl) β β' hb) ?_
 have ho:=h.one
 rcases h with⟨rfl,rfl⟩|⟨q,rfl,hq⟩
 ·simp only[ad,↓Xn,↓Xo,↓Xg,↓Xd,↓Xe,↓Xf,Tryz.VΓ,Tryz.Γs,Xp,Xi,Nat.reduceAdd,Nat.reduceSub,Nat.reduceLT,Nat.reduceLeDiff,reduceIte,reduceCtorEq,Nat.reduceEqDiff,implies_true,forall_const,aa,ak,beq_self_eq_true,bne_self_eq_false,Int.reduceBEq,Int.reduceBNe,Int.reduceLT,Int.reduceLE]
  refine aG sc_BinN ?_
  rintro y b1 ⟨rfl,rfl⟩
  simp only[ad,↓Xn,↓Xo,↓Xg,↓Xd,↓Xe,↓Xf,Tryz.VΓ,Tryz.Γs,Xp,Xi,Nat.reduceAdd,Nat.reduceSub,Nat.reduceLT,Nat.reduceLeDiff,reduceIte,reduceCtorEq,Nat.reduceEqDiff,implies_true,forall_const,aa,ak,beq_self_eq_true,bne_self_eq_false,Int.reduceBEq,Int.reduceBNe,Int.reduceLT,Int.reduceLE]
  rfl
 ·simp only[ad,↓Xn,↓Xo,↓Xg,↓Xd,↓Xe,↓Xf,Tryz.VΓ,Tryz.Γs,Xp,Xi,Nat.reduceAdd,Nat.reduceSub,Nat.reduceLT,Nat.reduceLeDiff,reduceIte,reduceCtorEq,Nat.reduceEqDiff,implies_true,forall_const,aa,ak,beq_self_eq_true,bne_self_eq_false,Int.reduceBEq,Int.reduceBNe,Int.reduceLT,Int.reduceLE]
  refine aG (sc_Bin hq ha hl v8) ?_
  rintro y b1 ⟨rfl,rfl⟩
  simp only[ad,↓Xn,↓Xo,↓Xg,↓Xd,↓Xe,↓Xf,Tryz.VΓ,Tryz.Γs,Xp,Xi,Nat.reduceAdd,Nat.reduceSub,Nat.reduceLT,Nat.reduceLeDiff,reduceIte,reduceCtorEq,Nat.reduceEqDiff,implies_true,forall_const,aa,ak,beq_self_eq_true,bne_self_eq_false,Int.reduceBEq,Int.reduceBNe,Int.reduceLT,Int.reduceLE]
end
end Go.Proofs.YteipdaijbncgeaaGreatDoor
